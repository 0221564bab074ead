import Derived.Test.YtajlpicdkdeceaaDoorHg
namespace Go.Proofs.YtajlpicdkdeceaaDoor
open Go.RowKit
set_option linter.unusedSimpArgs false
set_option linter.unusedVariables false
attribute [local go_sem] ob_alloc ob_drew ob_drewN ob_setCell ob_setBlock objSet_cells obMap_map obClock_map isMapI_map keyI_mk findI_nil findI_cons lookRes_some lookRes_none lookRes_some' lookRes_none' setBlock_alloc mapPut
open Go.Lib

set_option maxRecDepth 100000 in
set_option maxHeartbeats 2000000 in
theorem rWord (w : World) (i : IN) (hw : i.wf) : Calls Tryd.prog 13 #[inV i] w (WordP w i) := by
  have HW := Lib.hid hw
  obtain ⟨op, hop⟩ : ∃ x, i.op = x := ⟨_, rfl⟩
  obtain ⟨a, ha⟩ : ∃ x, i.a = x := ⟨_, rfl⟩
  obtain ⟨b, hb⟩ : ∃ x, i.b = x := ⟨_, rfl⟩
  obtain ⟨c, hc⟩ : ∃ x, i.c = x := ⟨_, rfl⟩
  obtain ⟨im, hm⟩ : ∃ x, i.im = x := ⟨_, rfl⟩
  have hV : inV i = .agg #[.int .i64 op, .int .i64 a, .int .i64 b, .int .i64 c, .int .i64 im] := by unfold inV; rw [hop, ha, hb, hc, hm]
  have HIV := Lib.hid hV
  have HF := Lib.hid (And.intro hop (And.intro ha (And.intro hb (And.intro hc hm))))
  rw [hV]
  have HO := Lib.hid (And.intro ((Keep.refl [] w).alloc (.cells #[.int .i64 op, .int .i64 a, .int .i64 b, .int .i64 c, .int .i64 im] 23)) (al_new w (.cells #[.int .i64 op, .int .i64 a, .int .i64 b, .int .i64 c, .int .i64 im] 23) rfl))
  clear hw hop ha hb hc hm hV
  go_enter Tryd.func13, Tryd.ntmps13
  go_wp2_with fail
  obtain ⟨hk1, ho1⟩ := HO.out
  clear HO
  generalize w.alloc (.cells #[.int .i64 op, .int .i64 a, .int .i64 b, .int .i64 c, .int .i64 im] 23) = w1 at *
  generalize w.heap.size = bi at *
  rw [← HIV.out]
  refine (rRight w1 i HW.out).mono ?_
  rintro _ w2 ⟨rfl, hk2⟩
  rw [HIV.out]
  have HK := Lib.hid (hk1.trans hk2)
  have ho2 := hk2.kp ho1 (by simp)
  clear hk1 hk2 ho1
  cases hr : right i with
  | false =>
    have HR := Lib.hid hr
    clear hr ho2
    go_wp2_with fail
    go_ret2
    exact ⟨HK.out, by rw [HR.out]; rfl⟩
  | true =>
    have HR := Lib.hid hr
    obtain ⟨h0, h1, h2, h3, h4⟩ := right_bd hr
    obtain ⟨e0, e1, e2, e3, e4⟩ := HF.out
    rw [e0] at h0
    rw [e1] at h1
    rw [e2] at h2
    rw [e3] at h3
    rw [e4] at h4
    have hwd : word i = op + 256 * a + 2048 * b + 16384 * c + 16777216 * im := by unfold word; rw [e0, e1, e2, e3, e4]
    have HWD := Lib.hid hwd
    obtain ⟨c0, c1, c2, c3, c4, lc⟩ := rd_in ho2
    obtain ⟨h0a, h0b⟩ := h0
    obtain ⟨h1a, h1b⟩ := h1
    obtain ⟨h2a, h2b⟩ := h2
    obtain ⟨h3a, h3b⟩ := h3
    obtain ⟨h4a, h4b⟩ := h4
    clear hr ho2 e0 e1 e2 e3 e4 hwd
    go_wp2_with fail
    go_ret2
    refine ⟨HK.out, ?_⟩
    rw [HR.out]
    simp only [if_true]
    rw [HWD.out]
    rfl
end Go.Proofs.YtajlpicdkdeceaaDoor
