import Derived.Test.YtajlpicdkdeceaaDoorJe
import Derived.Maps.OwnSet
import Derived.Maps.Views
import Derived.StringKeys
namespace Go.Proofs.YtajlpicdkdeceaaDoor
open Go.RowKit
set_option linter.unusedSimpArgs false
set_option linter.unusedVariables false
attribute [local go_sem] ob_alloc ob_drew ob_drewN ob_setCell ob_setBlock objSet_cells obMap_map obClock_map isMapI_map keyI_mk findI_nil findI_cons lookRes_some lookRes_none lookRes_some' lookRes_none' setBlock_alloc mapPut
open Go.Lib

noncomputable def dW : Nat → DataW Unit
  | 0 => .map []
  | k + 1 => (dW k).put (.string (wd k)) (.lit (.int .i64 (k : Int)))
theorem key_lit (l : List UInt8) : WideAt.IsKeyLit (.string l) := by trivial
theorem dW_map : ∀ k, Maps.IsMap (dW k)
  | 0 => Maps.isMap_empty
  | k + 1 => by
    rw [dW]
    exact (dW_map k).put _ _
theorem dW_hit : ∀ k, k ≤ 12 → ∀ o, o < k → Maps.has (dW k) (.string (wd o)) = true ∧ ∀ z, (dW k).atKey (.string (wd o)) z = .lit (.int .i64 (o : Int))
  | 0, _, o, h => by omega
  | k + 1, hk, o, h => by
    rw [dW]
    by_cases e : o = k
    · subst e
      exact ⟨Maps.has_put_same (dW_map _) (key_lit _) _, fun z => Maps.atKey_put_same (dW_map _) (key_lit _) _ z⟩
    · have hne : (Lit.string (wd o)) ≠ .string (wd k) := fun h2 => e (wd_inj o k (by omega) (by omega) (by injection h2))
      obtain ⟨h1, h2⟩ := dW_hit k (by omega) o (by omega)
      exact ⟨(Maps.has_put_other hne _).trans h1, fun z => (Maps.atKey_put_other hne _ z).trans (h2 z)⟩
theorem dW_miss (l : List UInt8) : ∀ k, (∀ o, o < k → wd o ≠ l) → Maps.has (dW k) (.string l) = false
  | 0, _ => rfl
  | k + 1, h => by
    rw [dW, Maps.has_put_other (fun e => h k (by omega) (by injection e with e; exact e.symm))]
    exact dW_miss l k (fun o ho => h o (by omega))
theorem keyS (s : ByteArray) (hs : s.size ≤ maxLen) : keyOf Tryd.prog 9 (.string s) = some (.string s.data.toList) := WideMaps.keyOf_string_mk Tryd.underlying9 hs
theorem keyd : Maps.Keyed Tryd.prog 9 := Maps.Keyed.of_law (WideMaps.string_law Tryd.underlying9)
theorem keep_grown {w w' : World} {b : Nat} (h : w.grownBy w' (some b)) : Keep [b] w w' := by
  obtain ⟨h1, h2, h3, h4, h5⟩ := h
  exact ⟨h1, h2, h3, h4, fun k hk hkb => h5 k hk (by simp at hkb; simpa using hkb)⟩
def Own54 (w : World) (b n : Nat) (k : Nat) : Prop := w.ownsMap Tryd.prog 9 (plainElem (H := Unit) Tryd.prog 3) b n (dW k)
set_option maxRecDepth 100000 in
set_option maxHeartbeats 2000000 in
theorem pWords (w : World) : Calls Tryd.prog 27 #[] w fun e w' => ∃ b, e = .returned (.map (some b)) ∧ Own54 w' b 12 12 ∧ Keep [] w w' := by
  have hO : Own54 (w.alloc (.map #[] 0)) w.heap.size 0 0 := World.ownsMap_made w _ _ _
  have HO := Lib.hid (And.intro hO ((Keep.refl [] w).alloc (.map #[] 0)))
  clear hO
  have hmm := @run_makeMap Tryd.prog
  go_enter Tryd.func27, Tryd.ntmps27
  go_upto_region 2 with fail
  obtain ⟨hO, hk⟩ := HO.out
  clear HO
  generalize w.alloc (.map #[] 0) = w1 at *
  obtain ⟨b, hb⟩ : ∃ b, w.heap.size = b := ⟨_, rfl⟩
  have HB := Lib.hid hb
  rw [hb] at hO
  have HO := Lib.hid (And.intro hO hk)
  try simp only [hb]
  clear hb hO hk
  go_wp2_with fail
  refine (pForms _).mono ?_
  rintro _ w2 ⟨rfl, hk2⟩
  have HO2 := Lib.hid (And.intro (HO.out.1.kept (row := none) ⟨hk2.os, hk2.tape, hk2.output, hk2.size, fun i hi _ => hk2.block i hi (by simp)⟩ (by simp)) (HO.out.2.trans hk2))
  clear hk2 HO
  go_wp2_with fail
  go_loopg [6] 12 (fun gn s6 wr => ∃ k : Nat, s6 = .int .i64 k ∧ k ≤ 12 ∧ gn = 12 - k ∧ Own54 wr b k k ∧ Keep [] w wr)
  case atStart => exact ⟨0, rfl, by omega, rfl, HO2.out⟩
  case round =>
    clear HO2
    obtain ⟨k, rfl, hk, rfl, hO, hkr⟩ := hrel
    by_cases hlt : k < 12
    · have hk12 : (k : Int) < 12 := by omega
      have hi41 := idx41 k hlt
      have hA : Own54 (wr.alloc (.cells #[.string (wdB k), .string (nmB k)] 40)) b k k := World.ownsMap.alloc hO _
      have hsz : (wdB k).size ≤ 5 := by have := wd_len k; unfold wdB; simpa [ByteArray.size] using this
      obtain ⟨w', hrun, hO', hg⟩ := World.ownsMap.update hA keyd Tryd.underlying54 (by unfold maxLen; omega) (keyS (wdB k) (by unfold maxLen; omega)) (plainElem_int Tryd.underlying3 (a := (k : Int)) (by simp [Lit.wf, IntKind.min, IntKind.max, IntKind.bits, IntKind.signed]; omega))
      have hkF : Keep [] w w' := (hkr.alloc _).andThen (keep_grown hg) (by intro y hy; simp at hy; subst hy; exact .inr (by have := HB.out; omega))
      have HF := Lib.hid (And.intro hO' hkF)
      clear hA hsz hO' hg hkF hO hkr
      go_wp2_with fail
      go_roundg (12 - (k + 1))
      case measure => omega
      case rel => exact ⟨k + 1, by go_num, by omega, rfl, HF.out⟩
    · obtain rfl : k = 12 := by omega
      have HF := Lib.hid (And.intro hO hkr)
      clear hO hkr
      go_wp2_with fail
      go_ret
      exact ⟨b, rfl, HF.out⟩
theorem zero3 (w : World) : (zeroValue 3).run Tryd.prog w = .ok (.int .i64 0) w := by go_simp
theorem look54 {w : World} {b : Nat} (h : Own54 w b 12 12) (s : ByteArray) (hs : s.size ≤ maxLen) :
    (∃ o, o < 12 ∧ wd o = s.data.toList ∧ (Instr.lookup 54 (.map (some b)) (.string s) true).run Tryd.prog w = .ok (.tuple #[.int .i64 (o : Int), .bool true]) w) ∨
      ((∀ o, o < 12 → wd o ≠ s.data.toList) ∧ ∃ x : Int, (Instr.lookup 54 (.map (some b)) (.string s) true).run Tryd.prog w = .ok (.tuple #[.int .i64 x, .bool false]) w) := by
  obtain ⟨v, ps, hrun, hR⟩ := World.ownsMap.look_ok h keyd Tryd.underlying54 (zero3 w) (plainElem_int Tryd.underlying3 (a := 0) (by decide)) (keyS s hs)
  obtain ⟨x, rfl, hx, _⟩ := plainElem_int_inv Tryd.underlying3 hR
  by_cases hex : ∃ o, o < 12 ∧ wd o = s.data.toList
  · obtain ⟨o, ho, he⟩ := hex
    obtain ⟨h1, h2⟩ := dW_hit 12 (Nat.le_refl _) o ho
    rw [he] at h1 h2
    rw [h1] at hrun
    rw [h2] at hx
    simp only [Prod.mk.injEq, DataW.lit.injEq, Lit.int.injEq, true_and] at hx
    exact .inl ⟨o, ho, he, by rw [hrun, hx.1]⟩
  · have hm : ∀ o, o < 12 → wd o ≠ s.data.toList := fun o ho he => hex ⟨o, ho, he⟩
    rw [dW_miss _ 12 hm] at hrun
    exact .inr ⟨hm, x, hrun⟩
set_option maxRecDepth 100000 in
set_option maxRecDepth 100000 in
set_option maxHeartbeats 800000 in
theorem pJoin (w : World) (p : Nat → Int) : Calls Tryd.prog 31 #[.agg (blk (vI p) 5)] w fun e w' => e = .returned (inV ⟨p 0, p 1, p 2, p 3, p 4⟩) ∧ Keep [] w w' := by
  have hf : blk (vI p) 5 = #[.int .i64 (p 0), .int .i64 (p 1), .int .i64 (p 2), .int .i64 (p 3), .int .i64 (p 4)] := rfl
  rw [hf]
  unfold inV
  clear hf
  simp only
  generalize p 0 = op
  generalize p 1 = a
  generalize p 2 = b
  generalize p 3 = c
  generalize p 4 = im
  go_enter Tryd.func31, Tryd.ntmps31
  go_wp2_with fail
  have hrun : ∀ tmps : Array Value, tmps[2]?.getD undef = .pointer (some ⟨w.heap.size + 1, 0, none⟩) → (results Tryd.f31 tmps).run Tryd.prog ((w.alloc (.cells #[.int .i64 op, .int .i64 a, .int .i64 b, .int .i64 c, .int .i64 im] 44)).alloc (.cells #[.int .i64 op, .int .i64 a, .int .i64 b, .int .i64 c, .int .i64 im] 23)) = .ok (.agg #[.int .i64 op, .int .i64 a, .int .i64 b, .int .i64 c, .int .i64 im]) ((w.alloc (.cells #[.int .i64 op, .int .i64 a, .int .i64 b, .int .i64 c, .int .i64 im] 44)).alloc (.cells #[.int .i64 op, .int .i64 a, .int .i64 b, .int .i64 c, .int .i64 im] 23)) := by
    intro tmps ht
    simp [results, Tryd.f31, ht]
    go_simp
  exact ⟨by trivial, _, hrun _ rfl, rfl, ((Keep.refl _ _).alloc _).alloc _⟩
end Go.Proofs.YtajlpicdkdeceaaDoor
