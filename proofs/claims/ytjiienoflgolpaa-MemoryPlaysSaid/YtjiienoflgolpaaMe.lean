import Derived.Test.YtjiienoflgolpaaMd
namespace Go.Proofs.Ytjiienoflgolpaa
open Go.RowKit
set_option linter.unusedSimpArgs false
set_option linter.unusedVariables false
attribute [local go_sem] ob_alloc ob_drew ob_drewN ob_setCell ob_setBlock objSet_cells obMap_map obClock_map isMapI_map keyI_mk findI_nil findI_cons lookRes_some lookRes_none lookRes_some' lookRes_none' setBlock_alloc mapPut

/-! ### Fill -/
def fillS (n : Nat) (s : Nat → Int) (f : Int) (t : Nat → Int) : Nat → Int := if hasB n f 1 = true then updB s (f.toNat * 16) 16 t else s
theorem MemAt.fill {w : World} {m g n : Nat} {s : Nat → Int} (h : MemAt w m g n s) (k : Nat) (t : Nat → Int) : MemAt (w.setCells g (k * 16) (blk (vU t) 16).toList) m g n (updB s (k * 16) 16 t) := by
  refine ⟨?_, ?_, h.2.2⟩
  · rw [ob_setCells _ _ _ _ h.2.2.1.symm]; exact h.1
  · rw [blk_storeR _ _ _ _ h.2.1, updR_vU]
set_option maxRecDepth 100000 in
set_option maxRecDepth 100000 in
set_option maxHeartbeats 400000 in
theorem mFill (w : World) (m g n : Nat) (s : Nat → Int) (hM : MemAt w m g n s) (f : Int) (t : Nat → Int) :
    Calls Try.prog 43 #[.pointer (some ⟨m, 0, none⟩), .int .i64 f, .agg (blk (vU t) 16)] w fun o w' => o = .returned (.int .i64 (eR (hasB n f 1))) ∧ MemAt w' m g n (fillS n s f t) ∧ Keep [g] w w' := by
  unfold fillS
  obtain ⟨b, hb⟩ : ∃ b, b = w.heap.size := ⟨_, rfl⟩
  obtain ⟨w1, hw1⟩ : ∃ w1, w1 = w.alloc (.cells (blk (vU t) 16) 80) := ⟨_, rfl⟩
  have hk1 : Keep [g] w w1 := by rw [hw1]; exact (Keep.refl _ _).alloc _
  have hM1 : MemAt w1 m g n s := by rw [hw1]; exact hM.keep (S := []) ((Keep.refl _ _).alloc _) (by simp) (by simp)
  have hZ : ob w1 b = some (.cells (blk (vU t) 16) 80 (0, 0)) := by rw [hw1]; exact al_new _ _ hb
  have lm := ob_lt hM.1
  have lg := ob_lt hM.2.1
  have nbm : m ≠ b := by omega
  have nbg : g ≠ b := by omega
  have HB := Lib.hid hb
  have HW := Lib.hid hw1
  clear hb hw1 hM lm lg
  cases ho : hasB n f 1 with
  | false =>
    simp only [Bool.false_eq_true, if_false, eR]
    go_enter Try.func43, Try.ntmps43
    go_wp2_with fail
    rw [← HW.out, ← HB.out]
    refine (mHas _ m g n s hM1 f 1).mono ?_
    rintro _ w1 ⟨rfl, rfl⟩
    rw [ho]
    have H2 := Lib.hid hM1
    clear ho hM1
    go_wp2
    go_ret
    exact ⟨rfl, H2.out, hk1⟩
  | true =>
    obtain ⟨k, rfl, hk⟩ := hasB_out ho
    simp only [if_true, eR, Int.toNat_natCast]
    go_enter Try.func43, Try.ntmps43
    go_wp2_with fail
    rw [← HW.out, ← HB.out]
    refine (mHas _ m g n s hM1 k 1).mono ?_
    rintro _ w1 ⟨rfl, rfl⟩
    rw [ho]
    have hM2 : MemAt w1.drew m g n s := hM1.keep (S := []) (Keep.refl _ _).drew (by simp) (by simp)
    have c0 : w1.drew.cell? ⟨m, 0, none⟩ = some (.slice (some ⟨g, 0, none⟩) n n) := hM2.cp 0
    have c1 : (w1.drew.setCells g (k * 16) (blk (vU t) 16).toList).cell? ⟨m, 0, none⟩ = some (.slice (some ⟨g, 0, none⟩) n n) := (hM2.fill k t).cp 0
    have H2 := Lib.hid (hM2.fill k t)
    have K2 := Lib.hid (hk1.drew.setCells (.inl (by simp)) (b := g) (blk (vU t) 16).toList (k * 16))
    have r1 : w1.drew.rangeAt b 0 (blk (vU t) 16).toList := blk_range (show ob w1.drew b = _ from hZ) (by simp [blk]) (fun j hj => by
      have hj : j < 16 := by simpa [blk] using hj
      simp [blk, hj])
    have r2 : w1.drew.there g (k * 16) 16 := blk_there hM2.2.1 (by omega)
    have hu := Try.underlying80
    have hi : (Try.prog.info? 80).map (·.size) = some (blk (vU t) 16).toList.length := by rw [size80]; simp [blk]
    have hl : (blk (vU t) 16).toList.length = 16 := by simp [blk]
    have ho1 : ∀ v ∈ (blk (vU t) 16).toList, v.oneCell' = true := by
      intro v hv
      simp [blk] at hv
      obtain ⟨i, _, rfl⟩ := hv
      rfl
    generalize (blk (vU t) 16).toList = cs at *
    have hk0 : (0 : Int) ≤ (k : Int) := by omega
    have hkn : (k : Int) < (n : Int) := by omega
    clear ho hM1 hM2 hZ
    go_wp2_with fail
    go_region_held3 (fun w' => w'.cell? ⟨m, 0, none⟩ = some (.slice (some ⟨g, 0, none⟩) n n) ∧ w'.rangeAt b 0 cs ∧ w'.there g (k * 16) 16) (go_keep_ranges) (fail)
    all_goals
      clear r1 r2 hi hl ho1
      go_wp2
      go_ret
      exact ⟨rfl, H2.out, K2.out⟩

/-! ### second -/
def secF (x : Int) : Nat → Int := fun i => if i % 2 = 0 then x else 0
theorem ret_agg {a b : Array Value} (h : a = b) : Ending.returned (.agg a) = Ending.returned (.agg b) := by rw [h]
def secK (x : Int) (k : Nat) : Nat → Int := fun i => if i % 2 = 0 ∧ i < 2 * k then x else 0
theorem secK_step (x : Int) (k i : Nat) : updW (secK x k) (2 * k) x i = secK x (k + 1) i := by
  unfold updW secK
  by_cases h : i = 2 * k
  · rw [if_pos h, if_pos (by omega)]
  · rw [if_neg h]
    by_cases h2 : i % 2 = 0 ∧ i < 2 * k
    · rw [if_pos h2, if_pos (by omega)]
    · rw [if_neg h2, if_neg (by omega)]
set_option maxRecDepth 100000 in
set_option maxRecDepth 100000 in
set_option maxHeartbeats 800000 in
theorem mSecond (w : World) (x : Int) : Calls Try.prog 44 #[.int .u64 x] w fun o w' => o = .returned (.agg (blk (vU (secF x)) 16)) ∧ Keep [] w w' := by
  go_enter Try.func44, Try.ntmps44
  go_wp2
  obtain ⟨w0, hw0, hA, hL, hk0⟩ : ∃ w0, w0 = (w.alloc (.cells #[.int .u64 0, .int .u64 0, .int .u64 0, .int .u64 0, .int .u64 0, .int .u64 0, .int .u64 0, .int .u64 0, .int .u64 0, .int .u64 0, .int .u64 0, .int .u64 0, .int .u64 0, .int .u64 0, .int .u64 0, .int .u64 0] 80)).alloc (.cells #[.int .u64 0, .int .u64 0, .int .u64 0, .int .u64 0, .int .u64 0, .int .u64 0, .int .u64 0, .int .u64 0, .int .u64 0, .int .u64 0, .int .u64 0, .int .u64 0, .int .u64 0, .int .u64 0, .int .u64 0, .int .u64 0] 80) ∧ ob w0 w.heap.size = some (.cells (blk (vU fun _ => 0) 16) 80 (0, 0)) ∧ ob w0 (w.heap.size + 1) = some (.cells (blk (vU (secK x 0)) 16) 80 (0, 0)) ∧ Keep [] w w0 :=
    ⟨_, rfl, al (al_new _ _ rfl), al_new _ _ (by simp), ((Keep.refl _ _).alloc _).alloc _⟩
  rw [← hw0]
  obtain ⟨b, hb⟩ : ∃ b, b = w.heap.size := ⟨_, rfl⟩
  have hbw : w.heap.size ≤ b := by omega
  rw [← hb] at hA hL ⊢
  clear hw0 hb
  go_loopw [4] (fun i wr => ∃ k : Nat, k ≤ 8 ∧ i = .int .i64 ((2 * k : Nat) : Int) ∧ ob wr b = some (.cells (blk (vU fun _ => 0) 16) 80 (0, 0)) ∧ ob wr (b + 1) = some (.cells (blk (vU (secK x k)) 16) 80 (0, 0)) ∧ Keep [] w wr) (fun i _ => 16 - (intOf i).toNat)
  case atStart => exact ⟨0, by omega, rfl, hA, hL, hk0⟩
  case round =>
    obtain ⟨k, hk, rfl, hA, hL, hkp⟩ := hrel
    have lL := ob_lt hL
    by_cases hlt : k < 8
    · obtain ⟨x0, c0⟩ : ∃ y, wr.cell? ⟨b + 1, 2 * k, none⟩ = some y := ⟨_, blk_cell hL (by omega)⟩
      have fr := free_of_ob hL
      have HL2 := blk_store hL (2 * k) (.int .u64 x)
      rw [vU_upd, blk_congr (g := vU (secK x (k + 1))) (fun i _ => by unfold vU; rw [secK_step])] at HL2
      have hk2 : Keep [] w (wr.setCell ⟨b + 1, 2 * k, none⟩ (.int .u64 x)) := hkp.setCell (.inr (by omega)) _ _
      have HH := Lib.hid (And.intro (st (b := b + 1) (i := 2 * k) (v := .int .u64 x) hA (by omega)) (And.intro HL2 hk2))
      clear hA hL hkp HL2 hk2
      go_wp2
      go_roundw
      case rel => exact ⟨k + 1, by omega, by go_num, HH.out.1, HH.out.2.1, HH.out.2.2⟩
      case measure => simp [intOf]; omega
    · have e : k = 8 := by omega
      subst e
      rw [blk_congr (f := vU (secK x 8)) (g := vU (secF x)) (fun i hi => by
        unfold vU secK secF
        by_cases h : i % 2 = 0
        · rw [if_pos ⟨h, by omega⟩, if_pos h]
        · rw [if_neg (fun a => h a.1), if_neg h])] at hL
      have r1 : wr.rangeAt (b + 1) 0 (blk (vU (secF x)) 16).toList := blk_range hL (by simp [blk]) (fun j hj => by
        have hj : j < 16 := by simpa [blk] using hj
        simp [blk, hj])
      have H2 := Lib.hid (store_all b wr _ (secF x) hA)
      have K2 := Lib.hid (hkp.setCells (.inr hbw) (b := b) (blk (vU (secF x)) 16).toList 0)
      go_wp2_with (first
        | (refine wpList_load_mid rfl 80 (.tmp 3) rfl (b + 1) 0 rfl (blk (vU (secF x)) 16).toList _ r1 Try.underlying80 rfl (by rw [size80]; simp [blk]) ?_)
        | (refine wpList_store_mid rfl 80 (.tmp 2) (.tmp 12) rfl b 0 (blk (vU (secF x)) 16) rfl rfl (blk_there hA (by simp [blk])) (by rw [size80]; simp [blk]) (one16 _) ?_))
      refine bodyPost_ret (ret_row (P := Try.prog) Try.results44 (cs := blk (vU (secF x)) 16) (t := 80) (fr := (0, 0)) (g := b) H2.out rfl Try.underlying80 rfl (by rw [size80]; simp [blk])) rfl ?_
      exact ⟨rfl, K2.out⟩
end Go.Proofs.Ytjiienoflgolpaa
