import Derived.Test.YtehmjjfgefopdaaWv
namespace Go.Proofs.Ytehmjjfgefopdaa
open Go.RowKit
set_option linter.unusedSimpArgs false
set_option linter.unusedVariables false
attribute [local go_sem] ob_alloc ob_drew ob_drewN ob_setCell ob_setBlock objSet_cells obMap_map obClock_map isMapI_map keyI_mk findI_nil findI_cons lookRes_some lookRes_none lookRes_some' lookRes_none' setBlock_alloc mapPut

theorem MB.new {w0 w w' : World} {bd m g n R : Nat} {M : Nat → Nat → EN} {H F : List Nat} (h : MB w0 w bd m g n R M H F) (k : Keep [] w w') : MB w0 w' bd m g n R M H F := by
  obtain ⟨L, h1, h2⟩ := h.ex
  exact ⟨L, h1.new k, h2⟩
def SNewP (w : World) (bd m g n R : Nat) (M : Nat → Nat → EN) (H F : List Nat) : Ending → World → Prop := fun o w' =>
  ∃ r sp : Nat, o = .returned (.tuple #[.pointer (some ⟨sp, 0, none⟩), .int .i64 0]) ∧ ob w' sp = some (spO m bd r) ∧ w.heap.size ≤ sp ∧ MB w w' bd m g n R M (H ++ [r]) F ∧ r ∉ H ∧ R ≤ r ∧ r < n
set_option maxRecDepth 100000 in
set_option maxHeartbeats 800000 in
theorem sNew (w : World) (bd m g n R : Nat) (M : Nat → Nat → EN) (L : LS) (H F : List Nat) (hM : MemE w m g n M) (hB : BudAt w bd m L H F) (hS : BS n R L H) (hl : H.length + R < n) :
    Calls Try.prog 7 #[.pointer (some ⟨m, 0, none⟩), .pointer (some ⟨bd, 0, none⟩)] w (SNewP w bd m g n R M H F) := by
  have HA := Lib.hid (bAlloc w bd m n R L H F hB hS (hS.room hl))
  have HM := Lib.hid (And.intro hM hB)
  clear hM hB hS
  go_enter Try.func7, Try.ntmps7
  go_wp2_with fail
  refine HA.out.mono ?_
  rintro _ w2 ⟨r, L', rfl, hS2, hf1, hf2, hf3, F2, hB2, hK2, hG2⟩
  have HB : Hid (MB w w2 bd m g n R M (H ++ [r]) F) := Lib.hid ⟨L', ⟨HM.out.1.keep hK2 (HM.out.2.not HM.out.1.mkind) (HM.out.2.not HM.out.1.gkind), F2, hB2, hK2.mono (fun b hb => List.mem_cons_of_mem _ hb), hG2⟩, hS2⟩
  have HSZ := Lib.hid hK2.size
  have HR := Lib.hid (And.intro hf1 (And.intro hf2 hf3))
  clear hS2 hB2 hK2 hG2 HA HM hf1 hf2 hf3
  go_wp2_with fail
  go_ret2
  exact ⟨r, w2.heap.size, rfl, al_new w2 _ rfl, HSZ.out, HB.out.new ((Keep.refl _ _).alloc _), HR.out⟩
set_option maxRecDepth 100000 in
set_option maxHeartbeats 800000 in
theorem sRoot (w : World) (sp m bd r : Nat) (hs : ob w sp = some (spO m bd r)) : Calls Try.prog 14 #[.pointer (some ⟨sp, 0, none⟩)] w fun o w' => o = .returned (.int .i64 (r : Int)) ∧ w' = w := by
  have c2 : w.cell? ⟨sp, 2, none⟩ = some (.int .i64 (r : Int)) := cell_of_ob hs 2
  have ls := ob_lt hs
  clear hs
  go_enter Try.func14, Try.ntmps14
  go_wp2_with fail
  go_ret
  exact ⟨rfl, rfl⟩
/-! ### Left -/
theorem run_index_one {P : Program} {t e : TypeId} {n : Nat} {i : TypeInfo} {d : TypeDesc} (ht : P.underlying t = some (.array n e)) (he : P.underlying e = some d) (hd : d.isRow = false) (hi : P.info? e = some i) (hs : i.size = 1) (f : Nat → Value) (q : Nat) (hq : q < n) (w : World) :
    (Instr.index t (.agg (blk f n)) (.int .i64 (q : Int))).run P w = .ok (f q) w := by
  have hagg : (isAgg e).run P w = .ok false w := by
    unfold isAgg
    rw [Sem.run_bind, run_underlying he w]
    cases d <;> simp_all
  have hq0 : (0 : Int) ≤ (q : Int) ∧ (q : Int) < (n : Int) := by omega
  have hg : (blk f n)[q]? = some (f q) := blk_get _ hq
  simp [Instr.index, asIntOf, run_underlying ht, sizeOf, typeInfo, hi, hs, hq0, hq, part, hagg, hg]
def leftK (L : LS) (k : Nat) : Nat := ((List.range k).map fun j => (L j).length * 2 ^ j).sum
theorem leftK_succ (L : LS) (k : Nat) : leftK L (k + 1) = leftK L k + (L k).length * 2 ^ k := by
  unfold leftK
  rw [List.range_succ, List.map_append, List.sum_append]
  simp
theorem leftK_le (L : LS) : ∀ d k, leftK L k ≤ leftK L (k + d)
  | 0, k => Nat.le_refl _
  | d + 1, k => by
    have := leftK_le L d k
    rw [← Nat.add_assoc, leftK_succ]
    omega
set_option maxRecDepth 100000 in
set_option maxHeartbeats 800000 in
theorem bLeft (w : World) (bd m : Nat) (L : LS) (H F : List Nat) (hB : BudAt w bd m L H F) (hl : left L ≤ 256) :
    Calls Try.prog 15 #[.pointer (some ⟨bd, 0, none⟩)] w fun o w' => o = .returned (.int .i64 (left L : Nat)) ∧ w = w' := by
  obtain ⟨hm, vs, hW, hF⟩ := hB
  have HW := Lib.hid hW
  obtain ⟨i22, hi22⟩ : ∃ i, Try.prog.info? 22 = some i := ⟨_, rfl⟩
  have HIX : Hid (∀ (q : Nat) (W : World), q < 9 → (Instr.index 53 (.agg #[vs 0, vs 1, vs 2, vs 3, vs 4, vs 5, vs 6, vs 7, vs 8]) (.int .i64 (q : Int))).run Try.prog W = .ok (vs q) W) := Lib.hid (fun q W hq => run_index_one Try.underlying53 Try.underlying22 rfl hi22 (by have := hi22; cases this; rfl) vs q hq W)
  have c0 : w.cell? ⟨bd, 1, none⟩ = some (vs 0) := blk_cell hW.st (i := 1) (by omega)
  have c1 : w.cell? ⟨bd, 2, none⟩ = some (vs 1) := blk_cell hW.st (i := 2) (by omega)
  have c2 : w.cell? ⟨bd, 3, none⟩ = some (vs 2) := blk_cell hW.st (i := 3) (by omega)
  have c3 : w.cell? ⟨bd, 4, none⟩ = some (vs 3) := blk_cell hW.st (i := 4) (by omega)
  have c4 : w.cell? ⟨bd, 5, none⟩ = some (vs 4) := blk_cell hW.st (i := 5) (by omega)
  have c5 : w.cell? ⟨bd, 6, none⟩ = some (vs 5) := blk_cell hW.st (i := 6) (by omega)
  have c6 : w.cell? ⟨bd, 7, none⟩ = some (vs 6) := blk_cell hW.st (i := 7) (by omega)
  have c7 : w.cell? ⟨bd, 8, none⟩ = some (vs 7) := blk_cell hW.st (i := 8) (by omega)
  have c8 : w.cell? ⟨bd, 9, none⟩ = some (vs 8) := blk_cell hW.st (i := 9) (by omega)
  have lb := ob_lt hW.st
  clear hW hF
  go_enter Try.func15, Try.ntmps15
  go_wp2_with fail
  go_loopg [3, 10] 9 (fun gn s3 s10 wr => ∃ k : Nat, s10 = .int .i64 (k : Int) ∧ s3 = .int .i64 (leftK L k : Nat) ∧ k ≤ 9 ∧ gn = 9 - k ∧ wr = w)
  case atStart => exact ⟨0, rfl, rfl, by omega, rfl, rfl⟩
  case round =>
    obtain ⟨k, rfl, rfl, hk, hg, rfl⟩ := hrel
    have hle := leftK_le L (9 - k) k
    rw [show k + (9 - k) = 9 by omega] at hle
    have hl9 : leftK L 9 ≤ 256 := hl
    by_cases hk9 : k < 9
    · have hk9' : (k : Int) < 9 := by omega
      have hix := fun W => HIX.out k W hk9
      obtain ⟨a, c, hv⟩ := (HW.out.ro k hk9).slice
      rw [hv] at hix
      have hs := leftK_succ L k
      have hle2 := leftK_le L (9 - (k + 1)) (k + 1)
      rw [show k + 1 + (9 - (k + 1)) = 9 by omega] at hle2
      have HS := Lib.hid hs
      have HLE := Lib.hid hle2
      clear hs hle2 hv
      go_wp2_with fail
      have hw : wrap64 ((leftK L k : Nat) + wrap64 (((L k).length : Int) * 2 ^ k)) = ((leftK L (k + 1) : Nat) : Int) := by
        have h1 := HS.out
        have h2 := HLE.out
        have e : (((L k).length : Int) * 2 ^ k) = (((L k).length * 2 ^ k : Nat) : Int) := by simp
        rw [e]
        generalize (L k).length * 2 ^ k = Q at *
        rw [IntWalk.wrap64_in (Q : Int) (by omega), IntWalk.wrap64_in _ (by omega)]
        omega
      go_roundg (9 - (k + 1))
      case measure => omega
      case rel => exact ⟨k + 1, by go_num, congrArg (Value.int .i64) hw, by omega, rfl, rfl⟩
    · obtain rfl : k = 9 := by omega
      go_wp2_with fail
      go_ret
      exact ⟨rfl, rfl⟩
end Go.Proofs.Ytehmjjfgefopdaa
