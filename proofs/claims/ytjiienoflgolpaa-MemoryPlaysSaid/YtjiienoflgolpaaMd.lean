import Derived.Test.YtjiienoflgolpaaMc
namespace Go.Proofs.Ytjiienoflgolpaa
open Go.RowKit
set_option linter.unusedSimpArgs false
set_option linter.unusedVariables false
attribute [local go_sem] ob_alloc ob_drew ob_drewN ob_setCell ob_setBlock objSet_cells obMap_map obClock_map isMapI_map keyI_mk findI_nil findI_cons lookRes_some lookRes_none lookRes_some' lookRes_none' setBlock_alloc mapPut

/-! ### Frame, Fill -/
theorem store_all (b : Nat) (w : World) (f t : Nat → Int) (h : ob w b = some (.cells (blk (vU f) 16) 80 (0, 0))) : ob (w.setCells b 0 (blk (vU t) 16).toList) b = some (.cells (blk (vU t) 16) 80 (0, 0)) := by
  rw [blk_storeR _ _ _ _ h, updR_vU]
  rw [blk_congr (g := vU t) (fun i hi => ?_)]
  simp only [vU, updB]
  rw [if_pos (by omega)]; simp
theorem one16 (f : Nat → Int) : (blk (vU f) 16).all (·.oneCell') = true := by
  refine Array.all_eq_true_iff_forall_mem.2 (fun v hv => ?_)
  simp [blk] at hv
  obtain ⟨i, _, rfl⟩ := hv
  rfl
def frameS (n : Nat) (s : Nat → Int) (f : Int) : Nat → Int := if hasB n f 1 = true then fr s f else fun _ => 0
set_option maxRecDepth 100000 in
set_option maxRecDepth 100000 in
set_option maxHeartbeats 400000 in
theorem mFrame (w : World) (m g n : Nat) (s : Nat → Int) (hM : MemAt w m g n s) (f : Int) :
    Calls Try.prog 47 #[.pointer (some ⟨m, 0, none⟩), .int .i64 f] w fun o w' => o = .returned (.tuple #[.agg (blk (vU (frameS n s f)) 16), .int .i64 (eR (hasB n f 1))]) ∧ Keep [] w w' := by
  unfold frameS
  obtain ⟨b, hb⟩ : ∃ b, b = w.heap.size := ⟨_, rfl⟩
  obtain ⟨w1, hw1⟩ : ∃ w1, w1 = w.alloc (.cells (blk (vU fun _ => 0) 16) 80) := ⟨_, rfl⟩
  have hk1 : Keep [] w w1 := by rw [hw1]; exact (Keep.refl _ _).alloc _
  have hM1 : MemAt w1 m g n s := hM.keep hk1 (by simp) (by simp)
  have hZ : ob w1 b = some (.cells (blk (vU fun _ => 0) 16) 80 (0, 0)) := by rw [hw1]; exact al_new _ _ hb
  have lm := ob_lt hM.1
  have lg := ob_lt hM.2.1
  have nbm : m ≠ b := by omega
  have nbg : g ≠ b := by omega
  have hbw : w.heap.size ≤ b := by omega
  have HB := Lib.hid hb
  have HW := Lib.hid hw1
  clear hb hw1 hM lm lg
  cases ho : hasB n f 1 with
  | false =>
    simp only [Bool.false_eq_true, if_false, eR]
    go_enter Try.func47, Try.ntmps47
    go_wp2_with fail
    rw [show w.alloc (.cells #[.int .u64 0, .int .u64 0, .int .u64 0, .int .u64 0, .int .u64 0, .int .u64 0, .int .u64 0, .int .u64 0, .int .u64 0, .int .u64 0, .int .u64 0, .int .u64 0, .int .u64 0, .int .u64 0, .int .u64 0, .int .u64 0] 80) = w1 from HW.out.symm, ← HB.out]
    refine (mHas _ m g n s hM1 f 1).mono ?_
    rintro _ w1 ⟨rfl, rfl⟩
    rw [ho]
    have H2 := Lib.hid (store_all b w1 _ (fun _ => 0) hZ)
    have K2 := Lib.hid (hk1.setCells (.inr hbw) (b := b) (blk (vU fun _ => 0) 16).toList 0)
    clear ho hM1
    go_wp2_with (first
      | (refine wpList_store_mid rfl 80 (.tmp 4) (.tmp 10) rfl b 0 (blk (vU fun _ => 0) 16) rfl rfl (blk_there hZ (by simp [blk])) (by rw [size80]; simp [blk]) (one16 _) ?_))
    refine bodyPost_ret (ret_row_tmp (P := Try.prog) Try.results47 (cs := blk (vU fun _ => 0) 16) (t := 80) (fr := (0, 0)) (g := b) H2.out rfl Try.underlying80 rfl (by rw [size80]; simp [blk])) rfl ?_
    exact ⟨rfl, K2.out⟩
  | true =>
    obtain ⟨k, rfl, hk⟩ := hasB_out ho
    simp only [if_true, eR]
    go_enter Try.func47, Try.ntmps47
    go_wp2_with fail
    rw [show w.alloc (.cells #[.int .u64 0, .int .u64 0, .int .u64 0, .int .u64 0, .int .u64 0, .int .u64 0, .int .u64 0, .int .u64 0, .int .u64 0, .int .u64 0, .int .u64 0, .int .u64 0, .int .u64 0, .int .u64 0, .int .u64 0, .int .u64 0] 80) = w1 from HW.out.symm, ← HB.out]
    refine (mHas _ m g n s hM1 k 1).mono ?_
    rintro _ w1 ⟨rfl, rfl⟩
    rw [ho]
    have c0 := hM1.cp
    have H2 := Lib.hid (store_all b w1 _ (fr s k) hZ)
    have K2 := Lib.hid (hk1.setCells (.inr hbw) (b := b) (blk (vU (fr s k)) 16).toList 0)
    clear ho
    go_wp2_with (first
      | (refine wpList_load_mid rfl 80 (.tmp 16) rfl g (k * 16) rfl (blk (vU (fr s k)) 16).toList _ (hM1.range k hk) Try.underlying80 rfl (by rw [size80]; simp [blk]) ?_)
      | (refine wpList_store_mid rfl 80 (.tmp 4) (.tmp 17) rfl b 0 (blk (vU (fr s k)) 16) rfl rfl (blk_there hZ (by simp [blk])) (by rw [size80]; simp [blk]) (one16 _) ?_))
    refine bodyPost_ret (ret_row_tmp (P := Try.prog) Try.results47 (cs := blk (vU (fr s k)) 16) (t := 80) (fr := (0, 0)) (g := b) H2.out rfl Try.underlying80 rfl (by rw [size80]; simp [blk])) rfl ?_
    exact ⟨rfl, K2.out⟩
end Go.Proofs.Ytjiienoflgolpaa
