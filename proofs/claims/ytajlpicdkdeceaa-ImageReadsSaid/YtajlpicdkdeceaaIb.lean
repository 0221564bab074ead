import Derived.Test.YtajlpicdkdeceaaIa
import Derived.Test.YtajlpicdkdeceaaLibO
import Derived.Test.YtajlpicdkdeceaaLibT
import Derived.Test.YtajlpicdkdeceaaRows
import Derived.Deep.LoopGhost
namespace Go.Proofs.Ytajlpicdkdeceaa
open Go.RowKit
set_option linter.unusedSimpArgs false
set_option linter.unusedVariables false
attribute [local go_sem] ob_alloc ob_drew ob_drewN ob_setCell ob_setBlock objSet_cells obMap_map obClock_map isMapI_map keyI_mk findI_nil findI_cons lookRes_some lookRes_none lookRes_some' lookRes_none' setBlock_alloc mapPut

/-! ### parts in memory -/
structure RT where
  pg : Int
  wr : Bool
  sa : Option Addr
  sn : Nat
  sc : Nat
def rtV (r : RT) : List Value := [.int .i64 r.pg, .bool r.wr, .slice r.sa r.sn r.sc]
def rtE : Enc RT 3 := ⟨rtV, fun _ => rfl, fun r u hu => by
  simp [rtV] at hu
  rcases hu with rfl | rfl | rfl <;> rfl⟩
def Row3 (w : World) (v : Value) (rs : List RT) : Prop :=
  ∃ a cap, v = .slice a rs.length cap ∧ rs.length ≤ cap ∧ cap ≤ maxLen ∧ ∀ i r, rs[i]? = some r → ∃ b off, a = some ⟨b, off, none⟩ ∧ b < w.heap.size ∧
    w.cell? ⟨b, off + i * 3, none⟩ = some (.int .i64 r.pg) ∧ w.cell? ⟨b, off + i * 3 + 1, none⟩ = some (.bool r.wr) ∧ w.cell? ⟨b, off + i * 3 + 2, none⟩ = some (.slice r.sa r.sn r.sc)
def RT.is (w : World) (r : RT) (p : PB) : Prop := r.pg = p.pg ∧ r.wr = p.wr ∧ RdI w .u64 (.slice r.sa r.sn r.sc) p.ws
def PRd (w : World) (v : Value) (l : List PB) : Prop := ∃ rs, rs.length = l.length ∧ Row3 w v rs ∧ ∀ (i : Nat) r p, rs[i]? = some r → l[i]? = some p → r.is w p
theorem cell_keep {w w' : World} (hk : Keep [] w w') {b i : Nat} (hb : b < w.heap.size) : w'.cell? ⟨b, i, none⟩ = w.cell? ⟨b, i, none⟩ := by
  rw [cell_ob, cell_ob, hk.block b hb (by simp)]
theorem Row3.keep {w w' : World} {v : Value} {rs : List RT} (h : Row3 w v rs) (hk : Keep [] w w') : Row3 w' v rs := by
  obtain ⟨a, cap, h1, h2, h3, h4⟩ := h
  refine ⟨a, cap, h1, h2, h3, fun i r hr => ?_⟩
  obtain ⟨b, off, q1, q2, q3, q4, q5⟩ := h4 i r hr
  exact ⟨b, off, q1, Nat.lt_of_lt_of_le q2 hk.size, (cell_keep hk q2).trans q3, (cell_keep hk q2).trans q4, (cell_keep hk q2).trans q5⟩
theorem RT.is.keep {w w' : World} {r : RT} {p : PB} (h : r.is w p) (hk : Keep [] w w') : r.is w' p := ⟨h.1, h.2.1, h.2.2.keep hk (by simp)⟩
theorem PRd.keep {w w' : World} {v : Value} {l : List PB} (h : PRd w v l) (hk : Keep [] w w') : PRd w' v l := by
  obtain ⟨rs, h1, h2, h3⟩ := h
  exact ⟨rs, h1, h2.keep hk, fun i r p hr hp => (h3 i r p hr hp).keep hk⟩
theorem PRd.nil (w : World) : PRd w (.slice none 0 0) [] := ⟨[], rfl, ⟨none, 0, rfl, by simp, by simp, fun i r h => by simp at h⟩, fun i r p h => by simp at h⟩
theorem PRd.len {w : World} {v : Value} {l : List PB} (h : PRd w v l) : ∃ a cap, v = .slice a l.length cap ∧ l.length ≤ cap ∧ cap ≤ maxLen := by
  obtain ⟨rs, h1, ⟨a, cap, h2, h3, h4, _⟩, _⟩ := h
  rw [h1] at h2 h3
  exact ⟨a, cap, h2, h3, h4⟩
theorem PRd.at {w : World} {v : Value} {l : List PB} (h : PRd w v l) {i : Nat} {p : PB} (hi : l[i]? = some p) :
    ∃ b off cap sa sc, v = .slice (some ⟨b, off, none⟩) l.length cap ∧ l.length ≤ cap ∧ cap ≤ maxLen ∧ b < w.heap.size ∧ w.cell? ⟨b, off + i * 3, none⟩ = some (.int .i64 p.pg) ∧ w.cell? ⟨b, off + i * 3 + 1, none⟩ = some (.bool p.wr) ∧
      w.cell? ⟨b, off + i * 3 + 2, none⟩ = some (.slice sa p.ws.length sc) ∧ RdI w .u64 (.slice sa p.ws.length sc) p.ws ∧ p.ws.length ≤ sc ∧ sc ≤ maxLen := by
  obtain ⟨rs, h1, ⟨a, cap, h2, h3, h4, h5⟩, h6⟩ := h
  have hl := (List.getElem?_eq_some_iff.1 hi).1
  have hr : rs[i]? = some (rs[i]'(by omega)) := List.getElem?_eq_getElem _
  generalize (rs[i]'(by omega)) = r at hr
  obtain ⟨b, off, rfl, q2, q3, q4, q5⟩ := h5 i r hr
  obtain ⟨e1, e2, e3⟩ := h6 i r p hr hi
  obtain ⟨a', cap', e4, e5, e6⟩ := e3.1.len
  rw [List.length_map] at e4 e5
  simp only [Value.slice.injEq] at e4
  obtain ⟨rfl, e7, rfl⟩ := e4
  rw [e7] at q5 e3
  rw [h1] at h2 h3
  exact ⟨b, off, cap, _, _, h2, h3, h4, q2, by rw [q3, e1], by rw [q4, e2], q5, e3, e5, e6⟩
theorem drop_at {α : Type} {l : List α} {k : Nat} {p : α} (h : l[k]? = some p) : l.drop k = p :: l.drop (k + 1) := by
  obtain ⟨h1, rfl⟩ := List.getElem?_eq_some_iff.1 h
  exact List.drop_eq_getElem_cons h1
set_option maxRecDepth 100000 in
set_option maxHeartbeats 2000000 in
theorem bRight (w : World) (v : Value) (l : List PB) (h : PRd w v l) : Calls Try.prog 15 #[v] w fun e w' => e = .returned (.bool (right l)) ∧ Keep [] w w' := by
  have HP := Lib.hid h
  obtain ⟨a, cap, rfl, hc1, hc2⟩ := h.len
  unfold maxLen at hc2
  clear h
  generalize hn : l.length = n at *
  go_enter Try.func15, Try.ntmps15
  go_wp2_with fail
  go_loopg [3, 8] n (fun gn s3 s8 wr => ∃ (k : Nat) (last : Int), s3 = .int .i64 last ∧ s8 = .int .i64 k ∧ k ≤ n ∧ gn = n - k ∧ rightF (-1) l = rightF last (l.drop k) ∧ Keep [] w wr)
  case atStart => exact ⟨0, -1, rfl, rfl, by omega, by omega, rfl, Keep.refl _ _⟩
  case round =>
    obtain ⟨k, last, rfl, rfl, hk, rfl, hF, hkp⟩ := hrel
    by_cases hlt : k < n
    · have hx : l[k]? = some (l[k]'(by omega)) := List.getElem?_eq_getElem _
      generalize (l[k]'(by omega)) = p at hx
      rw [drop_at hx, rightF] at hF
      obtain ⟨b, off, cap', sa, sc, hveq, _, _, hb, q0, q1, q2, _, hs1, hs2⟩ := (HP.out.keep hkp).at hx
      simp only [Value.slice.injEq, hn, true_and] at hveq
      obtain ⟨rfl, rfl⟩ := hveq
      have hkA : Keep [] w (wr.alloc (.cells #[.int .i64 p.pg, .bool p.wr, .slice sa p.ws.length sc] 42)) := hkp.alloc _
      have HK := Lib.hid hkA
      have hR : ¬ (last < p.pg ∧ p.pg < 4096 ∧ 1 ≤ p.ws.length ∧ p.ws.length ≤ 16) → right l = false := fun h => by
        unfold right
        rw [hF, decide_eq_false h]; rfl
      have HR := Lib.hid hR
      have HF := Lib.hid hF
      clear hkA hkp hF hR hx
      obtain ⟨pg, wr9, ws⟩ := p
      simp only at *
      generalize hm : ws.length = m at *
      have HM := Lib.hid hm
      clear hm
      by_cases c1 : pg ≤ last
      · have HV := Lib.hid (HR.out (by omega))
        go_wp2_with fail
        go_ret
        exact ⟨by rw [HV.out]; rfl, HK.out⟩
      · have c1' : last < pg := by omega
        by_cases c2 : 4096 ≤ pg
        · have HV := Lib.hid (HR.out (by omega))
          clear c1
          go_wp2_with fail
          go_ret
          exact ⟨by rw [HV.out]; rfl, HK.out⟩
        · have c2' : pg < 4096 := by omega
          by_cases c3 : (m : Int) < 1
          · have HV := Lib.hid (HR.out (by omega))
            clear c1 c2
            go_wp2_with fail
            go_ret
            exact ⟨by rw [HV.out]; rfl, HK.out⟩
          · have c3' : (1 : Int) ≤ m := by omega
            by_cases c4 : (16 : Int) < m
            · have HV := Lib.hid (HR.out (by omega))
              clear c1 c2 c3
              go_wp2_with fail
              go_ret
              exact ⟨by rw [HV.out]; rfl, HK.out⟩
            · have c4' : (m : Int) ≤ 16 := by omega
              have HF2 : Hid (rightF (-1) l = rightF pg (l.drop (k + 1))) := Lib.hid (by rw [HF.out, decide_eq_true (by omega), Bool.true_and])
              have hkn : (k : Int) < n := by omega
              clear c1 c2 c3 c4 HF HR
              go_wp2_with fail
              go_roundg (n - (k + 1))
              case measure => omega
              case rel => exact ⟨k + 1, pg, rfl, by go_num, by omega, rfl, HF2.out, HK.out⟩
    · obtain rfl : k = n := by omega
      have hF2 : right l = (decide (1 ≤ k) && decide (k ≤ 16)) := by
        unfold right
        rw [hF, List.drop_eq_nil_of_le (by omega), rightF, Bool.true_and, hn]
        by_cases h1 : 1 ≤ k <;> by_cases h2 : k ≤ 16 <;> simp [h1, h2]
      have HK := Lib.hid hkp
      have HV := Lib.hid hF2
      clear hF hF2 hkp
      by_cases h1 : (1 : Int) ≤ k
      · have e1 : decide (1 ≤ k) = true := by simp; omega
        clear e1
        go_wp2_with fail
        go_ret
        exact ⟨ret_b (by rw [HV.out]; have e1 : decide (1 ≤ k) = true := by { simp; omega }; rw [e1]; simp; try omega), HK.out⟩
      · have e1 : decide (1 ≤ k) = false := by simp; omega
        have h1' : (k : Int) < 1 := by omega
        have HE1 := Lib.hid e1
        clear e1
        go_wp2_with fail
        go_ret
        exact ⟨by rw [HV.out, HE1.out]; rfl, HK.out⟩
end Go.Proofs.Ytajlpicdkdeceaa
