import Derived.Test.YtajlpicdkdeceaaIg
import Derived.Deep.CutRange
namespace Go.Proofs.Ytajlpicdkdeceaa
open Go.RowKit
set_option linter.unusedSimpArgs false
set_option linter.unusedVariables false
attribute [local go_sem] ob_alloc ob_drew ob_drewN ob_setCell ob_setBlock objSet_cells obMap_map obClock_map isMapI_map keyI_mk findI_nil findI_cons lookRes_some lookRes_none lookRes_some' lookRes_none' setBlock_alloc mapPut

theorem rd_lit (w : World) (bs : List Int) (n : Nat) (hn : bs.length = n) (hw : ∀ x ∈ bs, okB x) (cs : Array Value) (hcs : cs = (bs.map (Value.int .u8)).toArray) (hm : n ≤ 1000) : RdI (w.alloc (.cells cs 5)) .u8 (.slice (some ⟨w.heap.size, 0, none⟩) n n) bs := by
  subst hcs
  have ho := al_new w (.cells (bs.map (Value.int .u8)).toArray 5) rfl
  refine ⟨Rd.row ho (by rw [List.length_map, hn]) (Nat.le_refl _) (by unfold maxLen; omega) (by rw [List.take_of_length_le]; rw [← hn]; simp), fun x hx => ?_⟩
  have := hw x hx
  unfold okB at this
  simp [Lit.wf, IntKind.min, IntKind.max, IntKind.bits, IntKind.signed]
  omega
theorem dec_A : dec [1, 0, 5, 1, 1, 0, 0, 0, 0, 0, 0, 0, 7] = some [⟨5, true, [7]⟩] := by decide
theorem dec_B : dec [1, 0, 5, 1, 1] = none := by decide
set_option maxRecDepth 100000 in
set_option maxHeartbeats 2000000 in
theorem pAwake (w : World) : Calls Try.prog 7 #[] w fun e w' => e = .returned (.bool true) ∧ Keep [] w w' := by
  go_enter Try.func7, Try.ntmps7
  go_wp2_with fail
  have h1 := pRead _ _ _ (rd_lit w [1, 0, 5, 1, 1, 0, 0, 0, 0, 0, 0, 0, 7] 13 rfl (by simp [okB]) _ rfl (by omega)) (by simp [okB])
  rw [dec_A] at h1
  refine h1.mono ?_
  rintro _ w2 ⟨lv, rfl, hP, hk⟩
  have hk0 : Keep [] w w2 := ((Keep.refl [] w).alloc _).trans hk
  clear hk h1
  obtain ⟨b, off, cap, sa, sc, rfl, _, _, hb, q0, q1, q2, hws, hs1, hs2⟩ := hP.at (i := 0) (p := ⟨5, true, [7]⟩) rfl
  obtain ⟨wb, wo, wcap, hveq, _, _, hX⟩ := hws.1.pos (by simp)
  simp only [List.map_cons, List.map_nil, List.length_cons, List.length_nil, Nat.zero_add, Value.slice.injEq, true_and] at hveq
  obtain ⟨rfl, rfl⟩ := hveq
  have hx := hX 0 (.int .u64 7) rfl
  have HP := Lib.hid (And.intro hk0 hP)
  clear hX hws hP hk0 hx q0 q1 q2 hb
  go_upto_region 2 with fail
  go_wp2_with fail
  have h1 := pRead _ _ _ (rd_lit w2 [1, 0, 5, 1, 1] 5 rfl (by simp [okB]) _ rfl (by omega)) (by simp [okB])
  rw [dec_B] at h1
  refine h1.mono ?_
  rintro _ w3 ⟨rfl, hk⟩
  have hk1 : Keep [] w2 w3 := ((Keep.refl [] w2).alloc _).trans hk
  clear hk h1
  obtain ⟨b', off', cap', sa', sc', hveq, _, _, hb, q0, q1, q2, hws, hs1, hs2⟩ := (HP.out.2.keep hk1).at (i := 0) (p := ⟨5, true, [7]⟩) rfl
  simp only [Value.slice.injEq, Option.some.injEq, Addr.mk.injEq, and_true, List.length_cons, List.length_nil, Nat.zero_add, true_and] at hveq
  obtain ⟨⟨rfl, rfl⟩, rfl⟩ := hveq
  obtain ⟨wb', wo', wcap', hveq, _, _, hX⟩ := hws.1.pos (by simp)
  simp only [List.map_cons, List.map_nil, List.length_cons, List.length_nil, Nat.zero_add, Value.slice.injEq, true_and] at hveq q2 hs1
  obtain ⟨rfl, rfl⟩ := hveq
  have hx := hX 0 (.int .u64 7) rfl
  rw [Nat.zero_mul, Nat.add_zero] at q0 q1 q2
  rw [Nat.add_zero] at hx
  have HK := Lib.hid (HP.out.1.trans hk1)
  clear HP hX hws hk1
  simp only [List.length_cons, List.length_nil, Nat.zero_add]
  unfold maxLen at *
  go_wp2_with fail
  go_ret
  exact ⟨by trivial, HK.out⟩
end Go.Proofs.Ytajlpicdkdeceaa
