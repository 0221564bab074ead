import Derived.Test.YtfihnnijcaapkaaTb
namespace Go.Proofs.Ytfihnnijcaapkaa
open Go.RowKit
set_option linter.unusedSimpArgs false
set_option linter.unusedVariables false
attribute [local go_sem] ob_alloc ob_drew ob_drewN ob_setCell ob_setBlock objSet_cells obMap_map obClock_map isMapI_map keyI_mk findI_nil findI_cons lookRes_some lookRes_none lookRes_some' lookRes_none' setBlock_alloc mapPut

def ln0 : Ln := ⟨0, 0, 0, false⟩
def agL (l : Ln) : Value := .agg #[.int .i64 l.a, .int .i64 l.p, .int .i64 l.f, .bool l.w]
theorem size29 : (Try.prog.info? 29).map (·.size) = some 4 := by kernel_rfl
/-! ### Find -/
set_option maxRecDepth 100000 in
set_option maxHeartbeats 800000 in
theorem tFind (w : World) (b : Nat) (K : List Nat) (S : Nat → Option Ln) (hB : BufAt w b K S) (a p : Int) :
    Calls Try.prog 14 #[.pointer (some ⟨b, 0, none⟩), .int .i64 a, .int .i64 p] w fun e w' => e = .returned (.tuple #[agL ((findR S a p).getD ln0), .bool (findR S a p).isSome]) ∧ Keep [] w w' := by
  have k0 : Keep [] w (w.alloc (.cells #[.int .i64 0, .int .i64 0, .int .i64 0, .bool false] 29)) := (Keep.refl _ _).alloc _
  have e0 := al_new w (.cells #[.int .i64 0, .int .i64 0, .int .i64 0, .bool false] 29) rfl
  have hB0 := hB.keep k0 (by simp) (by simp)
  have lb : b < w.heap.size := by obtain ⟨P, h⟩ := hB; exact ob_lt h.hb
  have HH := Lib.hid (And.intro k0 (And.intro e0 hB0))
  clear k0 e0 hB0 hB
  unfold agL
  go_enter Try.func14, Try.ntmps14
  go_wp2_with fail
  obtain ⟨k0, e0, hB0⟩ := HH.out
  generalize w.alloc (.cells #[.int .i64 0, .int .i64 0, .int .i64 0, .bool false] 29) = w0 at *
  refine (tAt w0 b K S hB0 a p).mono ?_
  rintro _ w1 ⟨rfl, hk1⟩
  have e1 := hk1.kp e0 (by simp)
  have c1 := cell_of_ob e1
  have f1 := free_of_ob e1
  have l1 := ob_lt e1
  have hkE := k0.trans hk1
  clear HH
  cases hf : firstP (eqK a p) S 8 with
  | none =>
    have HF : Hid (findR S a p = none) := Lib.hid (by unfold findR; rw [hf])
    simp only [goI]
    clear hB0 hf
    go_wp2
    refine bodyPost_ret (ret_row_tmp (P := Try.prog) Try.results14 (cs := #[.int .i64 0, .int .i64 0, .int .i64 0, .bool false]) (t := 29) (fr := (0, 0)) (g := w.heap.size) (by simp [ob_alloc, ob_drew, ob_setCell, ob_setBlock, objSet_cells, Nat.add_assoc]; rw [e1]; simp [objSet_cells]) rfl Try.underlying29 rfl (by kernel_rfl)) rfl ?_
    rw [HF.out]
    exact ⟨rfl, (((hkE.setCell (.inr (Nat.le_refl _)) _ _).setCell (.inr (Nat.le_refl _)) _ _).setCell (.inr (Nat.le_refl _)) _ _).setCell (.inr (Nat.le_refl _)) _ _⟩
  | some i =>
    obtain ⟨hi, hp, _⟩ := firstP_some hf
    obtain ⟨l, hl, hla, hlp⟩ := eqK_some hp
    clear hla hlp
    obtain ⟨P, hBI⟩ := hB0.keep hk1 (by simp) (by simp)
    have cb : w1.cell? ⟨b, i, none⟩ = some (.pointer (some ⟨P i, 0, none⟩)) := by rw [blk_cell hBI.hb hi]; unfold ptV; rw [hl]; rfl
    have cl := cell_of_ob (hBI.hl i hi l hl).1
    have cl0 := cl 0
    have cl1 := cl 1
    have cl2 := cl 2
    have cl3 := cl 3
    simp only [List.getElem?_toArray, List.getElem?_cons_zero, List.getElem?_cons_succ] at cl0 cl1 cl2 cl3
    have HF : Hid (findR S a p = some l) := Lib.hid (by unfold findR; rw [hf]; exact hl)
    simp only [goI]
    clear hBI hB0 hf hp cl hl
    go_wp2
    refine bodyPost_ret (ret_row_tmp (P := Try.prog) Try.results14 (cs := #[.int .i64 l.a, .int .i64 l.p, .int .i64 l.f, .bool l.w]) (t := 29) (fr := (0, 0)) (g := w.heap.size) (by simp [ob_alloc, ob_drew, ob_setCell, ob_setBlock, objSet_cells, Nat.add_assoc]; rw [e1]; simp [objSet_cells]) rfl Try.underlying29 rfl (by kernel_rfl)) rfl ?_
    rw [HF.out]
    exact ⟨rfl, (((hkE.setCell (.inr (Nat.le_refl _)) _ _).setCell (.inr (Nat.le_refl _)) _ _).setCell (.inr (Nat.le_refl _)) _ _).setCell (.inr (Nat.le_refl _)) _ _⟩

/-! ### Put -/
theorem isNone_map {α β : Type} (f : α → β) (o : Option α) : (o.map f).isNone = o.isNone := by cases o <;> rfl
theorem tFirstNil (w : World) (b : Nat) (K : List Nat) (S : Nat → Option Ln) (hB : BufAt w b K S) :
    Calls Try.prog 40 #[.pointer (some ⟨b, 0, none⟩), .func (.func 41) #[] #[]] w fun e w' => e = .returned (.int .i64 (goI (firstP Option.isNone S 8))) ∧ Keep [] w w' := by
  obtain ⟨P, hB⟩ := hB
  refine tFirst w b K S P hB 41 #[] Option.isNone enters41 ?_
  intro wr _ i _
  have := tNil ((S i).map fun _ => ⟨P i, 0, none⟩) wr
  rw [isNone_map] at this
  exact this
set_option maxRecDepth 100000 in
set_option maxHeartbeats 800000 in
theorem tPut (w : World) (b : Nat) (K : List Nat) (S : Nat → Option Ln) (hB : BufAt w b K S) (hK : ∀ x, x ∈ K → x < w.heap.size) (l : Ln) (at' : Int) :
    Calls Try.prog 13 #[.pointer (some ⟨b, 0, none⟩), .agg #[.int .i64 l.a, .int .i64 l.p, .int .i64 l.f, .bool l.w], .int .i64 at'] w fun e w' => e = .returned (.int .i64 (putR l at')) ∧ BufAt w' b K (putS S l at') ∧ Keep [b] w w' := by
  have k0 : Keep [] w (w.alloc (.cells #[.int .i64 l.a, .int .i64 l.p, .int .i64 l.f, .bool l.w] 29)) := (Keep.refl _ _).alloc _
  have e0 : ob (w.alloc (.cells #[.int .i64 l.a, .int .i64 l.p, .int .i64 l.f, .bool l.w] 29)) w.heap.size = some (lnO l) := al_new w _ rfl
  have hB0 := hB.keep k0 (by simp) (by simp)
  have lb : b < w.heap.size := by obtain ⟨P, h⟩ := hB; exact ob_lt h.hb
  have c0 := cell_of_ob e0
  have HH := Lib.hid (And.intro k0 (And.intro e0 hB0))
  have HK := Lib.hid hK
  clear k0 e0 hB0 hB hK c0
  go_enter Try.func13, Try.ntmps13
  go_wp2_with fail
  obtain ⟨k0, e0, hB0⟩ := HH.out
  generalize w.alloc (.cells #[.int .i64 l.a, .int .i64 l.p, .int .i64 l.f, .bool l.w] 29) = w0 at *
  refine (tRight l w0).mono ?_
  rintro _ w1 ⟨rfl, hk1⟩
  clear HH
  cases hr : rightB l with
  | false =>
    have HR : Hid (putR l at' = 1 ∧ putS S l at' = S) := Lib.hid (by
      have : okPut l at' = false := by unfold okPut; rw [hr]; rfl
      unfold putR putS; rw [this]; simp)
    have H2 := Lib.hid (And.intro (hB0.keep hk1 (by simp) (by simp)) ((k0.trans hk1).mono (T := [b]) (by simp)))
    clear hB0 k0 e0 hk1 hr
    go_wp2
    go_ret
    rw [HR.out.1, HR.out.2]
    exact ⟨rfl, H2.out.1, H2.out.2⟩
  | true =>
    by_cases hat : 0 ≤ at' ∧ at' ≤ 7
    · have hok : okPut l at' = true := by unfold okPut; rw [hr]; simp; exact hat
      obtain ⟨k, rfl⟩ := Int.eq_ofNat_of_zero_le hat.1
      have hk7 : k ≤ 7 := by omega
      have hk8 : k < 8 := by omega
      have e1 := hk1.kp e0 (by simp)
      have c1 := cell_of_ob e1
      have c10 := c1 0
      have c11 := c1 1
      simp only [List.getElem?_toArray, List.getElem?_cons_zero, List.getElem?_cons_succ] at c10 c11
      have hB1 := hB0.keep hk1 (by simp) (by simp)
      have kk1 := k0.trans hk1
      have HR : Hid (putR l (k : Int) = 0 ∧ putS S l (k : Int) = upS S (placeR S l k) (some l)) := Lib.hid (by unfold putR putS; rw [hok]; simp)
      clear hB0 k0 hk1 e0 c1 hr hat hok
      go_wp2_with fail
      refine (tAt w1 b K S hB1 l.a l.p).mono ?_
      rintro _ w2 ⟨rfl, hk2⟩
      have e2 := hk2.kp e1 (by simp)
      have hB2 := hB1.keep hk2 (by simp) (by simp)
      have kk2 := kk1.trans hk2
      clear hB1 hk2 e1 kk1 c10 c11
      -- the end: a place is known
      have fin : ∀ (w3 : World) (i : Nat), i < 8 → placeR S l k = i → BufAt w3 b K S → ob w3 w.heap.size = some (lnO l) → Keep [] w w3 → BufAt (w3.setCell ⟨b, i, none⟩ (.pointer (some ⟨w.heap.size, 0, none⟩))) b K (upS S (placeR S l k) (some l)) ∧ Keep [b] w (w3.setCell ⟨b, i, none⟩ (.pointer (some ⟨w.heap.size, 0, none⟩))) := by
        intro w3 i hi hp hB3 e3 kk3
        obtain ⟨P, h⟩ := hB3
        rw [hp]
        exact ⟨⟨_, h.put i hi l e3 (by omega) (fun hx => by have := HK.out _ hx; omega)⟩, (kk3.mono (by simp)).setCell (.inl (by simp)) _ _⟩
      have FIN := Lib.hid fin
      clear fin
      have cellB : ∀ {w3 : World}, BufAt w3 b K S → ∀ i, i < 8 → (∃ v, w3.cell? ⟨b, i, none⟩ = some v) ∧ w3.frozen? ⟨b, i, none⟩ = false := by
        intro w3 h i hi
        obtain ⟨P, h⟩ := h
        exact ⟨⟨_, blk_cell h.hb hi⟩, free_of_ob h.hb i⟩
      cases hf : firstP (eqK l.a l.p) S 8 with
      | some i =>
        have hi := (firstP_some hf).1
        have hp : placeR S l k = i := by unfold placeR; rw [hf]
        obtain ⟨⟨v, cv⟩, fv⟩ := cellB hB2 i hi
        have H2 := Lib.hid (FIN.out w2 i hi hp hB2 e2 kk2)
        simp only [goI]
        clear cellB hB2 kk2 e2 hf hp
        go_wp2
        go_ret
        rw [HR.out.1, HR.out.2]
        exact ⟨rfl, H2.out.1, H2.out.2⟩
      | none =>
        simp only [goI]
        go_wp2_with fail
        refine (tFirstNil w2 b K S hB2).mono ?_
        rintro _ w3 ⟨rfl, hk3⟩
        have e3 := hk3.kp e2 (by simp)
        have hB3 := hB2.keep hk3 (by simp) (by simp)
        have kk3 := kk2.trans hk3
        clear hB2 hk3 e2 kk2
        cases hf2 : firstP Option.isNone S 8 with
        | some i =>
          have hi := (firstP_some hf2).1
          have hp : placeR S l k = i := by unfold placeR; rw [hf]; simp only [hf2]
          obtain ⟨⟨v, cv⟩, fv⟩ := cellB hB3 i hi
          have H2 := Lib.hid (FIN.out w3 i hi hp hB3 e3 kk3)
          simp only [goI]
          clear cellB hB3 kk3 e3 hf hf2 hp
          go_wp2
          go_ret
          rw [HR.out.1, HR.out.2]
          exact ⟨rfl, H2.out.1, H2.out.2⟩
        | none =>
          have hp : placeR S l k = k := by unfold placeR; rw [hf]; simp only [hf2]; rfl
          obtain ⟨⟨v, cv⟩, fv⟩ := cellB hB3 k hk8
          have H2 := Lib.hid (FIN.out w3 k hk8 hp hB3 e3 kk3)
          simp only [goI]
          clear cellB hB3 kk3 e3 hf hf2 hp
          go_wp2
          go_ret
          rw [HR.out.1, HR.out.2]
          exact ⟨rfl, H2.out.1, H2.out.2⟩
    · have hno : okPut l at' = false := by unfold okPut; rw [hr]; simp; omega
      have HR : Hid (putR l at' = 1 ∧ putS S l at' = S) := Lib.hid (by unfold putR putS; rw [hno]; simp)
      have H2 := Lib.hid (And.intro (hB0.keep hk1 (by simp) (by simp)) ((k0.trans hk1).mono (T := [b]) (by simp)))
      have hc : at' < 0 ∨ (0 ≤ at' ∧ 8 ≤ at') := by omega
      clear hB0 k0 e0 hk1 hr hno hat
      rcases hc with h | ⟨h, h2⟩
      all_goals
        go_wp2
        go_ret
        rw [HR.out.1, HR.out.2]
        exact ⟨rfl, H2.out.1, H2.out.2⟩
end Go.Proofs.Ytfihnnijcaapkaa
