import Derived.Test.YtajlpicdkdeceaaDoorJc
import Derived.Test.YtajlpicdkdeceaaDoorHa
namespace Go.Proofs.YtajlpicdkdeceaaDoor
open Go.RowKit
set_option linter.unusedSimpArgs false
set_option linter.unusedVariables false
attribute [local go_sem] ob_alloc ob_drew ob_drewN ob_setCell ob_setBlock objSet_cells obMap_map obClock_map isMapI_map keyI_mk findI_nil findI_cons lookRes_some lookRes_none lookRes_some' lookRes_none' setBlock_alloc mapPut

theorem put_add (x b f m : Nat) (hx : x < 2 ^ f) (hb : b < 2 ^ m) (hf : f + m ≤ 64) : putN x b f m = 2 ^ f * b + x := by
  apply Nat.eq_of_testBit_eq
  intro i
  rw [putN, sumB_bit, Nat.testBit_two_pow_mul_add b hx]
  by_cases h1 : i < f
  · have h2 : ¬ (f ≤ i ∧ i < f + m) := by omega
    simp [h1, h2]
    intro _; omega
  · by_cases h3 : i < f + m
    · have h2 : f ≤ i ∧ i < f + m := by omega
      have h4 : i < 64 := by omega
      simp [h1, h2, h4]
    · have h2 : ¬ (f ≤ i ∧ i < f + m) := by omega
      have hxi : x.testBit i = false := Nat.testBit_lt_two_pow (Nat.lt_of_lt_of_le hx (Nat.pow_le_pow_right (by omega) (by omega)))
      have hbi : b.testBit (i - f) = false := Nat.testBit_lt_two_pow (Nat.lt_of_lt_of_le hb (Nat.pow_le_pow_right (by omega) (by omega)))
      simp [h1, h2, hxi, hbi]
def frN : Nat → Nat
  | 0 => 0
  | 1 => 8
  | 2 => 11
  | 3 => 14
  | _ => 24
theorem fr_at (k : Nat) (hk : k < 5) : fieldsN (k * 2) = ((frN k : Nat) : Int) := by
  match k, hk with
  | 0, _ | 1, _ | 2, _ | 3, _ | 4, _ => rfl
def wN (i : IN) : Nat → Nat
  | 0 => 0
  | k + 1 => 2 ^ frN k * (i.f k).toNat + wN i k
theorem right_lim {i : IN} (h : right i = true) {k : Nat} (hk : k < 5) : 0 ≤ i.f k ∧ i.f k < 2 ^ lim k := by
  unfold right at h
  simp only [Bool.and_eq_true, decide_eq_true_eq, List.all_eq_true, List.mem_range] at h
  have := h.2 k hk
  unfold good at this
  simp only [decide_eq_true_eq] at this
  exact ⟨this.1, this.2.1⟩
theorem wN_lt {i : IN} (h : right i = true) : ∀ k, k < 5 → wN i k < 2 ^ frN k := by
  obtain ⟨h0, h1, h2, h3, h4⟩ := right_bd h
  intro k hk
  match k, hk with
  | 0, _ => simp [wN, frN]
  | 1, _ => simp only [wN, frN, IN.f]; omega
  | 2, _ => simp only [wN, frN, IN.f]; omega
  | 3, _ => simp only [wN, frN, IN.f]; omega
  | 4, _ => simp only [wN, frN, IN.f]; omega
theorem wN_word {i : IN} (h : right i = true) : ((wN i 5 : Nat) : Int) = word i := by
  obtain ⟨h0, h1, h2, h3, h4⟩ := right_bd h
  simp only [wN, frN, IN.f, word]
  omega
theorem ok_at (k : Nat) (hk : k < 5) : okF ((frN k : Nat) : Int) ((lim k : Nat) : Int) = true := by
  match k, hk with
  | 0, _ | 1, _ | 2, _ | 3, _ | 4, _ => decide
theorem frlim (k : Nat) (hk : k < 5) : frN k + lim k ≤ 64 := by
  match k, hk with
  | 0, _ | 1, _ | 2, _ | 3, _ | 4, _ => decide
def WordP (w : World) (i : IN) : Ending → World → Prop := fun e w' => Keep [] w w' ∧
  e = .returned (.tuple #[.int .u64 (if right i = true then word i else 0), .int .i64 (if right i = true then 0 else 1)])
set_option maxRecDepth 100000 in
set_option maxHeartbeats 4000000 in
theorem pWord (w : World) (i : IN) (hw : i.wf) : Calls Tryd.prog 12 #[inV i] w (WordP w i) := by
  have HW := Lib.hid hw
  obtain ⟨op, hop⟩ : ∃ x, i.op = x := ⟨_, rfl⟩
  obtain ⟨a, ha⟩ : ∃ x, i.a = x := ⟨_, rfl⟩
  obtain ⟨b, hb⟩ : ∃ x, i.b = x := ⟨_, rfl⟩
  obtain ⟨c, hc⟩ : ∃ x, i.c = x := ⟨_, rfl⟩
  obtain ⟨im, hm⟩ : ∃ x, i.im = x := ⟨_, rfl⟩
  have hV : inV i = .agg #[.int .i64 op, .int .i64 a, .int .i64 b, .int .i64 c, .int .i64 im] := by unfold inV; rw [hop, ha, hb, hc, hm]
  have HIV := Lib.hid hV
  rw [hV]
  have hkA : Keep [] w (w.alloc (.cells #[.int .i64 op, .int .i64 a, .int .i64 b, .int .i64 c, .int .i64 im] 23)) := (Keep.refl _ _).alloc _
  have HK := Lib.hid hkA
  have HO := Lib.hid (al_new w (.cells #[.int .i64 op, .int .i64 a, .int .i64 b, .int .i64 c, .int .i64 im] 23) rfl)
  clear hw hkA hop ha hb hc hm hV
  go_enter Tryd.func12, Tryd.ntmps12
  go_wp2_with fail
  generalize w.alloc (.cells #[.int .i64 op, .int .i64 a, .int .i64 b, .int .i64 c, .int .i64 im] 23) = w1 at *
  generalize w.heap.size = bi at *
  rw [← HIV.out]
  refine (pRight _ i HW.out).mono ?_
  rintro _ w2 ⟨rfl, hk2⟩
  rw [HIV.out]
  have hob := hk2.kp HO.out (by simp)
  have HK2 := Lib.hid (HK.out.trans hk2)
  clear hk2 HK HO
  cases hr : right i with
  | false =>
    have HR := Lib.hid hr
    clear hr hob
    go_wp2_with fail
    go_ret2
    exact ⟨HK2.out, by rw [HR.out]; rfl⟩
  | true =>
    have HR := Lib.hid hr
    have r0 := cell_of_ob hob 0
    have r1 := cell_of_ob hob 1
    have r2 := cell_of_ob hob 2
    have r3 := cell_of_ob hob 3
    have r4 := cell_of_ob hob 4
    have lb := ob_lt hob
    simp only [List.getElem?_toArray, List.getElem?_cons_zero, List.getElem?_cons_succ] at r0 r1 r2 r3 r4
    clear hr hob
    go_wp2_with fail
    rw [← HIV.out]
    refine (pSplit _ i).mono ?_
    rintro _ w4 ⟨rfl, hk4⟩
    rw [HIV.out]
    have HK4 := Lib.hid (HK2.out.trans hk4)
    clear hk4 HK2 r0 r1 r2 r3 r4 lb
    go_wp2_with fail
    go_loopg [4, 13] 5 (fun gn s4 s13 wr => ∃ k : Nat, s4 = .int .u64 (wN i k) ∧ s13 = .int .i64 k ∧ k ≤ 5 ∧ gn = 5 - k ∧ Keep [] w wr)
    case atStart => exact ⟨0, rfl, rfl, by omega, rfl, HK4.out⟩
    case round =>
      clear HK4
      obtain ⟨k, rfl, rfl, hk, rfl, hkr⟩ := hrel
      have HKr := Lib.hid hkr
      clear hkr
      by_cases hlt : k < 5
      · have hk5 : (k : Int) < 5 := by omega
        have hi44 := idx44 i k hlt
        have hi66 := idx66 k hlt
        obtain ⟨h0, h1⟩ := right_lim HR.out hlt
        obtain ⟨n, hn⟩ := Int.eq_ofNat_of_zero_le h0
        rw [hn] at hi44 h1
        have h1' : n < 2 ^ lim k := by exact_mod_cast h1
        have hX := wN_lt HR.out k hlt
        have hX64 : wN i k < 2 ^ 64 := Nat.lt_of_lt_of_le hX (Nat.pow_le_pow_right (by omega) (by have := frlim k hlt; omega))
        have hst : wN i (k + 1) = putN (wN i k) n (frN k) (lim k) := by
          rw [put_add _ _ _ _ hX h1' (frlim k hlt), wN, hn]; simp
        have hput := fun w => put_yes (wN i k) n hX64 ((frN k : Nat) : Int) ((lim k : Nat) : Int) (ok_at k hlt) (by simpa using h1') w
        rw [fr_at k hlt, lim_at k hlt] at hi66
        simp only [Int.toNat_natCast] at hput
        rw [← hst] at hput
        have hn16 : n ≤ 65535 := by
          have : (2 : Nat) ^ lim k ≤ 2 ^ 16 := Nat.pow_le_pow_right (by omega) (lim_le k)
          omega
        obtain ⟨X1, hX1⟩ : ∃ X1, wN i (k + 1) = X1 := ⟨_, rfl⟩
        have HX1 := Lib.hid hX1
        rw [hX1] at hst hput
        clear hX1
        generalize wN i k = X0 at *
        generalize frN k = fr at *
        generalize lim k = lm at *
        have HP := Lib.hid hput
        have HX := Lib.hid hst
        clear h0 h1 h1' hX hX64 hput hn hst
        go_wp2_with (first | (go_at_call 33; refine (pFields _).mono ?_; rintro _ w5 ⟨rfl, hk5'⟩) | (go_at_call 34; refine (HP.out _).mono ?_; rintro _ w6 ⟨rfl, hk6⟩))
        go_roundg (5 - (k + 1))
        case measure => omega
        case rel => exact ⟨k + 1, by rw [HX1.out], by go_num, by omega, rfl, (HKr.out.trans (hk5'.alloc _)).trans hk6⟩
      · obtain rfl : k = 5 := by omega
        have HWd := Lib.hid (wN_word HR.out)
        generalize wN i 5 = X at *
        go_wp2_with fail
        go_ret2
        exact ⟨HKr.out, by rw [HR.out]; simp only [if_true]; rw [← HWd.out]; rfl⟩
end Go.Proofs.YtajlpicdkdeceaaDoor
