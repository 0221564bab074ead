import Derived.Test.YtfihnnijcaapkaaTa
namespace Go.Proofs.Ytfihnnijcaapkaa
open Go.RowKit
set_option linter.unusedSimpArgs false
set_option linter.unusedVariables false
attribute [local go_sem] ob_alloc ob_drew ob_drewN ob_setCell ob_setBlock objSet_cells obMap_map obClock_map isMapI_map keyI_mk findI_nil findI_cons lookRes_some lookRes_none lookRes_some' lookRes_none' setBlock_alloc mapPut

set_option maxRecDepth 100000 in
set_option maxRecDepth 100000 in
set_option maxHeartbeats 400000 in
theorem tNew (w : World) : Calls Try.prog 12 #[] w fun e w' => e = .returned (.pointer (some ⟨w.heap.size, 0, none⟩)) ∧ BufAt w' w.heap.size (List.range w.heap.size) (fun _ => none) ∧ Keep [] w w' ∧ w.heap.size < w'.heap.size := by
  go_enter Try.func12, Try.ntmps12
  go_wp2
  go_ret
  exact ⟨rfl, ⟨fun _ => 0, al_new _ _ rfl, fun i hi l h => by cases h⟩, (Keep.refl _ _).alloc _, by simp⟩
theorem rightB_no {l : Ln} (h : rightB l = false) : decide (1 ≤ l.a) = false ∨ (1 ≤ l.a ∧ decide (l.a ≤ 8) = false) ∨ (1 ≤ l.a ∧ l.a ≤ 8 ∧ decide (0 ≤ l.p) = false) ∨ (1 ≤ l.a ∧ l.a ≤ 8 ∧ 0 ≤ l.p ∧ decide (l.p < 4096) = false) ∨
    (1 ≤ l.a ∧ l.a ≤ 8 ∧ 0 ≤ l.p ∧ l.p < 4096 ∧ decide (0 ≤ l.f) = false) ∨ (1 ≤ l.a ∧ l.a ≤ 8 ∧ 0 ≤ l.p ∧ l.p < 4096 ∧ 0 ≤ l.f ∧ decide (l.f < 256) = false) := by
  unfold rightB at h
  simp only [decide_eq_false_iff_not] at h ⊢
  omega
set_option maxRecDepth 100000 in
set_option maxHeartbeats 400000 in
theorem tRight (l : Ln) (w : World) : Calls Try.prog 38 #[.agg #[.int .i64 l.a, .int .i64 l.p, .int .i64 l.f, .bool l.w]] w fun e w' => e = .returned (.bool (rightB l)) ∧ Keep [] w w' := by
  have hk : Keep [] w (w.alloc (.cells #[.int .i64 l.a, .int .i64 l.p, .int .i64 l.f, .bool l.w] 29)) := (Keep.refl _ _).alloc _
  cases h : rightB l with
  | false =>
    have hc := rightB_no h
    obtain ⟨a, p, f, b⟩ := l
    simp only at hc hk ⊢
    clear h
    rcases hc with h1 | ⟨h1, h2⟩ | ⟨h1, h2, h3⟩ | ⟨h1, h2, h3, h4⟩ | ⟨h1, h2, h3, h4, h5⟩ | ⟨h1, h2, h3, h4, h5, h6⟩
    all_goals
      go_enter Try.func38, Try.ntmps38
      go_wp2
      go_ret
      exact ⟨rfl, hk⟩
  | true =>
    have hc : 1 ≤ l.a ∧ l.a ≤ 8 ∧ 0 ≤ l.p ∧ l.p < 4096 ∧ 0 ≤ l.f ∧ l.f < 256 := by unfold rightB at h; simp at h; omega
    obtain ⟨a, p, f, b⟩ := l
    simp only at hc hk ⊢
    obtain ⟨h1, h2, h3, h4, h5, h6⟩ := hc
    clear h
    go_enter Try.func38, Try.ntmps38
    go_wp2
    go_ret
    exact ⟨rfl, hk⟩
set_option maxRecDepth 100000 in
set_option maxHeartbeats 400000 in
theorem tNil (q : Option Addr) (w : World) : Calls Try.prog 41 #[.pointer q] w fun e w' => e = .returned (.bool q.isNone) ∧ Keep [] w w' := by
  cases q with
  | none =>
    go_enter Try.func41, Try.ntmps41
    go_wp2
    go_ret
    exact ⟨rfl, Keep.refl _ _⟩
  | some a =>
    go_enter Try.func41, Try.ntmps41
    go_wp2
    go_ret
    exact ⟨rfl, Keep.refl _ _⟩
set_option maxRecDepth 100000 in
set_option maxHeartbeats 400000 in
theorem tEqK (a p : Int) (o : Option Ln) (q A B : Nat) (w : World) (ho : ∀ l, o = some l → ob w q = some (lnO l)) (hA : w.cell? ⟨A, 0, none⟩ = some (.int .i64 a)) (hB : w.cell? ⟨B, 0, none⟩ = some (.int .i64 p)) :
    Calls Try.prog 50 #[.pointer (o.map fun _ => ⟨q, 0, none⟩), .pointer (some ⟨A, 0, none⟩), .pointer (some ⟨B, 0, none⟩)] w fun e w' => e = .returned (.bool (eqK a p o)) ∧ Keep [] w w' := by
  cases o with
  | none =>
    simp only [Option.map_none, eqK]
    go_enter Try.func50, Try.ntmps50
    go_wp2_with fail
    go_quiet (fail)
    go_wp2
    go_ret
    exact ⟨rfl, (Keep.refl _ _).drewN _⟩
  | some l =>
    have c := cell_of_ob (ho l rfl)
    have c0 := c 0
    have c1 := c 1
    simp only [List.getElem?_toArray, List.getElem?_cons_zero, List.getElem?_cons_succ] at c0 c1
    obtain ⟨la, lp, lf, lw⟩ := l
    simp only [Option.map_some, eqK] at c0 c1 ⊢
    clear c ho
    by_cases h1 : la = a
    · subst h1
      by_cases h2 : lp = p
      · subst h2
        go_enter Try.func50, Try.ntmps50
        go_wp2_with fail
        go_quiet (fail)
        go_wp2
        go_ret
        exact ⟨by simp, (Keep.refl _ _).drewN _⟩
      · have h2' : (lp == p) = false := by simpa using h2
        clear h2
        go_enter Try.func50, Try.ntmps50
        go_wp2_with fail
        go_quiet (fail)
        go_wp2
        go_ret
        exact ⟨by simp [h2'], (Keep.refl _ _).drewN _⟩
    · have h1' : (la == a) = false := by simpa using h1
      clear h1
      go_enter Try.func50, Try.ntmps50
      go_wp2_with fail
      go_quiet (fail)
      go_wp2
      go_ret
      exact ⟨by simp [h1'], (Keep.refl _ _).drewN _⟩
theorem info63 : (Try.prog.info? 63).map (·.size) = some 1 := by kernel_rfl
theorem size64 : (Try.prog.info? 64).map (·.size) = some 8 := by kernel_rfl
theorem idx64 (f : Nat → Value) (k : Nat) (hk : k < 8) (w : World) : (Instr.index 64 (.agg (blk f 8)) (.int .i64 (k : Int))).run Try.prog w = .ok (f k) w := by
  obtain ⟨i, hi, hs⟩ := Option.map_eq_some_iff.1 info63
  exact run_index_one Try.underlying64 Try.underlying63 rfl hi hs f k hk w
set_option maxRecDepth 100000 in
set_option maxHeartbeats 800000 in
theorem tFirst (w : World) (b : Nat) (K : List Nat) (S : Nat → Option Ln) (P : Nat → Nat) (hB : BufIs w b K S P) (N : Nat) (caps : Array Value) (pr : Option Ln → Bool) (hN : ∀ args w, (callFunc N args).run Try.prog w = .ok (.enter N args) w)
    (hcall : ∀ wr, Keep [] w wr → ∀ i, i < 8 → Calls Try.prog N (#[ptV S P i] ++ caps) wr fun e w' => e = .returned (.bool (pr (S i))) ∧ Keep [] wr w') :
    Calls Try.prog 40 #[.pointer (some ⟨b, 0, none⟩), .func (.func N) #[] caps] w fun e w' => e = .returned (.int .i64 (goI (firstP pr S 8))) ∧ Keep [] w w' := by
  have R0 := Lib.hid (range_ob hB.hb)
  clear hB
  go_enter Try.func40, Try.ntmps40
  go_wp2_with (first
    | ((with_reducible refine at_load 64 9 ?_); refine wpList_load_mid rfl 64 (.tmp 9) rfl b 0 rfl (blk (ptV S P) 8).toList _ R0.out Try.underlying64 rfl (by rw [size64, blk_len]) ?_))
  have HC := Lib.hid hcall
  clear hcall
  go_loopg [11] 8 (fun gn i wr => ∃ k : Nat, i = .int .i64 k ∧ k ≤ 8 ∧ gn = 8 - k ∧ (∀ j, j < k → pr (S j) = false) ∧ Keep [] w wr)
  case atStart => exact ⟨0, rfl, by omega, by omega, by simp, Keep.refl _ _⟩
  case round =>
    obtain ⟨k, rfl, hk8, rfl, hno, hkp⟩ := hrel
    have HNO := Lib.hid hno
    clear hno
    by_cases hk : k < 8
    · have hc := HC.out wr hkp k hk
      go_wp2_with (first
        | (refine wpList_index_eq rfl 64 (.tmp 10) (.tmp 11) rfl rfl rfl (idx64 _ k hk wr) ?_))
      cases hp : pr (S k) with
      | true =>
        rw [hp] at hc
        have HE := Lib.hid (firstP_eq (k := 8) hk hp HNO.out)
        clear hp
        refine hc.mono ?_
        rintro _ w2 ⟨rfl, hk2⟩
        have hkE := hkp.trans hk2
        clear hc
        go_wp2
        go_ret
        exact ⟨show Ending.returned (.int .i64 (k : Int)) = _ by rw [HE.out]; rfl, hkE⟩
      | false =>
        rw [hp] at hc
        have HE : Hid (∀ j, j < k + 1 → pr (S j) = false) := Lib.hid (fun j hj => by
          by_cases e : j = k
          · subst e; exact hp
          · exact HNO.out j (by omega))
        clear hp
        refine hc.mono ?_
        rintro _ w2 ⟨rfl, hk2⟩
        have hkE := hkp.trans hk2
        clear hc
        go_wp2
        go_roundg (8 - (k + 1))
        case measure => omega
        case rel => exact ⟨k + 1, by go_num, by omega, rfl, HE.out, hkE⟩
    · obtain rfl : k = 8 := by omega
      have HE := Lib.hid (firstP_none.2 HNO.out)
      clear hN
      go_wp2
      go_ret
      exact ⟨show Ending.returned (.int .i64 (-1)) = _ by rw [HE.out]; rfl, hkp⟩
theorem enters50 (args : Array Value) (w : World) : (callFunc 50 args).run Try.prog w = .ok (.enter 50 args) w := by go_simp
theorem enters41 (args : Array Value) (w : World) : (callFunc 41 args).run Try.prog w = .ok (.enter 41 args) w := by go_simp
theorem enters43 (args : Array Value) (w : World) : (callFunc 43 args).run Try.prog w = .ok (.enter 43 args) w := by go_simp
theorem enters45 (args : Array Value) (w : World) : (callFunc 45 args).run Try.prog w = .ok (.enter 45 args) w := by go_simp
set_option maxRecDepth 100000 in
set_option maxHeartbeats 800000 in
theorem tAt (w : World) (b : Nat) (K : List Nat) (S : Nat → Option Ln) (hB : BufAt w b K S) (a p : Int) :
    Calls Try.prog 39 #[.pointer (some ⟨b, 0, none⟩), .int .i64 a, .int .i64 p] w fun e w' => e = .returned (.int .i64 (goI (firstP (eqK a p) S 8))) ∧ Keep [] w w' := by
  obtain ⟨P, hB⟩ := hB
  have hmf : ∀ (fn : Fn) (first cap : Array Value) (w : World), (Instr.makeFunc fn first cap).run Try.prog w = .ok (.func fn first cap) w := fun _ _ _ _ => rfl
  have eA := al (al_new w (.cells #[.int .i64 a] 3) rfl) (o' := .cells #[.int .i64 p] 3)
  have eB := al_new (w.alloc (.cells #[.int .i64 a] 3)) (.cells #[.int .i64 p] 3) rfl
  have hs : (w.alloc (.cells #[.int .i64 a] 3)).heap.size = w.heap.size + 1 := by simp
  rw [hs] at eB
  have hk : Keep [] w ((w.alloc (.cells #[.int .i64 a] 3)).alloc (.cells #[.int .i64 p] 3)) := ((Keep.refl _ _).alloc _).alloc _
  have H := Lib.hid (And.intro hB (And.intro eA (And.intro eB hk)))
  clear hB eA eB hs hk
  go_enter Try.func39, Try.ntmps39
  go_wp2_with fail
  obtain ⟨hB, eA, eB, hk⟩ := H.out
  generalize (w.alloc (.cells #[.int .i64 a] 3)).alloc (.cells #[.int .i64 p] 3) = w1 at *
  refine (tFirst w1 b K S P (hB.keep hk (by simp) (by simp)) 50 #[.pointer (some ⟨w.heap.size, 0, none⟩), .pointer (some ⟨w.heap.size + 1, 0, none⟩)] (eqK a p) enters50 ?_).mono ?_
  · intro wr hkr i hi
    refine (tEqK a p (S i) (P i) w.heap.size (w.heap.size + 1) wr (fun l hl => hkr.kp (hk.kp (hB.hl i hi l hl).1 (by simp)) (by simp)) ?_ ?_)
    · exact cell_of_ob (hkr.kp eA (by simp)) 0
    · exact cell_of_ob (hkr.kp eB (by simp)) 0
  · rintro _ w2 ⟨rfl, hk2⟩
    have hkE := hk.trans hk2
    clear hB eA eB hk H hmf
    go_wp2
    go_ret
    exact ⟨rfl, hkE⟩
end Go.Proofs.Ytfihnnijcaapkaa
