import Derived.Test.YtfihnnijcaapkaaTe
import Derived.Deep.DeepCutAuto
namespace Go.Proofs.Ytfihnnijcaapkaa
open Go.RowKit
set_option linter.unusedSimpArgs false
set_option linter.unusedVariables false
attribute [local go_sem] ob_alloc ob_drew ob_drewN ob_setCell ob_setBlock objSet_cells obMap_map obClock_map isMapI_map keyI_mk findI_nil findI_cons lookRes_some lookRes_none lookRes_some' lookRes_none' setBlock_alloc mapPut
attribute [local go_sem ↓] eql29 neq29

def orO (a b : Option Nat) : Option Nat := match a with
  | some i => some i
  | none => b
theorem placeR_or (S : Nat → Option Ln) (l : Ln) (k : Nat) : placeR S l (k : Int) = (orO (firstP (eqK l.a l.p) S 8) (firstP Option.isNone S 8)).getD k := by
  unfold placeR orO
  cases firstP (eqK l.a l.p) S 8 with
  | some i => rfl
  | none => cases firstP Option.isNone S 8 <;> rfl
theorem okPut_no {l : Ln} {at' : Int} (h : okPut l at' = false) : l.a < 1 ∨ (1 ≤ l.a ∧ 8 < l.a) ∨ (1 ≤ l.a ∧ l.a ≤ 8 ∧ l.p < 0) ∨ (1 ≤ l.a ∧ l.a ≤ 8 ∧ 0 ≤ l.p ∧ 4095 < l.p) ∨ (1 ≤ l.a ∧ l.a ≤ 8 ∧ 0 ≤ l.p ∧ l.p ≤ 4095 ∧ l.f < 0) ∨ (1 ≤ l.a ∧ l.a ≤ 8 ∧ 0 ≤ l.p ∧ l.p ≤ 4095 ∧ 0 ≤ l.f ∧ 255 < l.f) ∨
    (1 ≤ l.a ∧ l.a ≤ 8 ∧ 0 ≤ l.p ∧ l.p ≤ 4095 ∧ 0 ≤ l.f ∧ l.f ≤ 255 ∧ at' < 0) ∨ (1 ≤ l.a ∧ l.a ≤ 8 ∧ 0 ≤ l.p ∧ l.p ≤ 4095 ∧ 0 ≤ l.f ∧ l.f ≤ 255 ∧ 0 ≤ at' ∧ 7 < at') := by
  unfold okPut rightB at h
  simp at h
  omega
theorem okPut_yes {l : Ln} {at' : Int} (h : okPut l at' = true) : 1 ≤ l.a ∧ l.a ≤ 8 ∧ 0 ≤ l.p ∧ l.p ≤ 4095 ∧ 0 ≤ l.f ∧ l.f ≤ 255 ∧ 0 ≤ at' ∧ at' ≤ 7 := by
  unfold okPut rightB at h
  simp at h
  omega
set_option maxRecDepth 100000 in
set_option maxHeartbeats 1000000 in
theorem rPut (w : World) (r : Nat) (S : Nat → Option Ln) (hR : RBufAt w r S) (l : Ln) (at' : Int) :
    Calls Try.prog 17 #[.pointer (some ⟨r, 0, none⟩), .agg #[.int .i64 l.a, .int .i64 l.p, .int .i64 l.f, .bool l.w], .int .i64 at'] w fun e w' => e = .returned (.int .i64 (putR l at')) ∧ RBufAt w' r (putS S l at') ∧ Keep [r] w w' := by
  have k0 : Keep [] w (w.alloc (.cells #[.int .i64 l.a, .int .i64 l.p, .int .i64 l.f, .bool l.w] 29)) := (Keep.refl _ _).alloc _
  have e0 : ob (w.alloc (.cells #[.int .i64 l.a, .int .i64 l.p, .int .i64 l.f, .bool l.w] 29)) w.heap.size = some (lnO l) := al_new w _ rfl
  have hR0 := hR.keep k0 (by simp)
  have lr : r < w.heap.size := by obtain ⟨I, G, h, _⟩ := hR; exact ob_lt h
  have HH := Lib.hid (And.intro k0 (And.intro e0 hR0))
  clear k0 e0 hR0 hR
  cases hok : okPut l at' with
  | false =>
    have HR : Hid (putR l at' = 1 ∧ putS S l at' = S) := Lib.hid (by unfold putR putS; rw [hok]; simp)
    have H2 := Lib.hid (And.intro HH.out.2.2 (HH.out.1.mono (T := [r]) (by simp)))
    rcases okPut_no hok with h | ⟨h1, h⟩ | ⟨h1, h2, h⟩ | ⟨h1, h2, h3, h⟩ | ⟨h1, h2, h3, h4, h⟩ | ⟨h1, h2, h3, h4, h5, h⟩ | ⟨h1, h2, h3, h4, h5, h6, h⟩ | ⟨h1, h2, h3, h4, h5, h6, h7, h⟩
    all_goals
      clear hok HH
      go_enter Try.func17, Try.ntmps17
      go_wp2
      go_ret
      rw [HR.out.1, HR.out.2]
      exact ⟨rfl, H2.out.1, H2.out.2⟩
  | true =>
    obtain ⟨h1, h2, h3, h4, h5, h6, h7, h8⟩ := okPut_yes hok
    obtain ⟨k, rfl⟩ := Int.eq_ofNat_of_zero_le h7
    have hp8 := placeR_lt (S := S) hok
    have HR : Hid (putR l (k : Int) = 0 ∧ putS S l (k : Int) = upS S (placeR S l k) (some l)) := Lib.hid (by unfold putR putS; rw [hok]; simp)
    have b1 : decide (l.a < 1) = false := by simp; omega
    have b2 : decide (8 < l.a) = false := by simp; omega
    have b3 : decide (l.p < 0) = false := by simp; omega
    have b4 : decide (4095 < l.p) = false := by simp; omega
    have b5 : decide (l.f < 0) = false := by simp; omega
    have b6 : decide (255 < l.f) = false := by simp; omega
    have b7 : decide (7 < (k : Int)) = false := by simp; omega
    clear hok
    go_enter Try.func17, Try.ntmps17
    go_wp2_with fail
    clear b1 b2 b3 b4 b5 b6 b7
    obtain ⟨k0, e0, hR0⟩ := HH.out
    generalize w.alloc (.cells #[.int .i64 l.a, .int .i64 l.p, .int .i64 l.f, .bool l.w] 29) = w1 at *
    refine (rAt w1 r S hR0 l.a l.p).mono ?_
    rintro _ w2 ⟨rfl, rfl⟩
    obtain ⟨I, G, hRB, hRel⟩ := hR0
    have HRB := Lib.hid (And.intro hRB hRel)
    have HK0 := Lib.hid (And.intro k0 e0)
    clear HH hRB hRel k0 e0
    obtain ⟨pl, hpl⟩ : ∃ pl, pl = orO (firstP (eqK l.a l.p) S 8) (firstP Option.isNone S 8) := ⟨_, rfl⟩
    have hplace := placeR_or S l k
    rw [← hpl] at hplace
    have HPL := Lib.hid hpl
    have HPP := Lib.hid hplace
    clear hpl hplace
    generalize hyy : goI (firstP (eqK l.a l.p) S 8) = y at *
    have HYY := Lib.hid hyy
    clear hyy
    go_upto_block 0 with fail
    go_cut [7, 8] from 51 to 66 (fun s7 s8 wx => s7 = .int .i64 (goI pl) ∧ wx = w1)
    case first =>
      cases hf : firstP (eqK l.a l.p) S 8 with
      | some i =>
        have hpe : pl = some i := by rw [HPL.out, hf]; rfl
        subst hpe
        have hyi : y = i := by rw [← HYY.out, hf]; rfl
        have hy0 : 0 ≤ y := by omega
        have HYI := Lib.hid hyi
        clear hf hyi
        go_wp2_with fail
        go_loopg [7, 8] 0 (fun gn p c wr => p = .int .i64 y ∧ c = .int .i64 0 ∧ wr = w1)
        case atStart => exact ⟨rfl, rfl, rfl⟩
        case round =>
          obtain ⟨rfl, rfl, rfl⟩ := hrel
          go_wp2_with fail
          go_meet
          exact ⟨by rw [HYI.out]; rfl, rfl⟩
      | none =>
        have hpe : pl = firstP Option.isNone S 8 := by rw [HPL.out, hf]; rfl
        have HPE := Lib.hid hpe
        have HYI : Hid (y = -1) := Lib.hid (by rw [← HYY.out, hf]; rfl)
        clear hf hpe
        go_wp2_with fail
        go_loopg [7, 8] 9 (fun gn p c wr => ∃ q : Nat, c = .int .i64 q ∧ q ≤ 8 ∧ gn = 9 - q ∧ p = .int .i64 (goI (firstP Option.isNone S q)) ∧ wr = w1)
        case atStart => exact ⟨0, rfl, by omega, by omega, by rw [HYI.out]; rfl, rfl⟩
        case round =>
          obtain ⟨q, rfl, hq, rfl, rfl, rfl⟩ := hrel
          cases hfq : firstP Option.isNone S q with
          | some j =>
            obtain ⟨g1, g2, g3⟩ := firstP_some hfq
            have HE : Hid (pl = some j) := Lib.hid (by rw [HPE.out]; exact firstP_eq (by omega) g2 g3)
            simp only [goI]
            clear hfq g2 g3
            by_cases hq8 : q < 8
            · go_wp2_with fail
              go_meet
              exact ⟨by rw [HE.out]; rfl, rfl⟩
            · go_wp2_with fail
              go_meet
              exact ⟨by rw [HE.out]; rfl, rfl⟩
          | none =>
            simp only [goI]
            by_cases hq8 : q < 8
            · have cI := HRB.out.1.cI hq8
              rw [← (HRB.out.2 q hq8).1] at cI
              cases hs : S q with
              | none =>
                have HE : Hid (firstP Option.isNone S (q + 1) = some q) := Lib.hid (by unfold firstP; rw [hfq, hs]; rfl)
                rw [hs] at cI
                simp only [Option.isSome_none] at cI
                clear hs hfq
                go_wp2_with fail
                go_roundg (9 - (q + 1))
                case measure => omega
                case rel => exact ⟨q + 1, by go_num, by omega, rfl, by rw [HE.out]; rfl, rfl⟩
              | some l' =>
                have HE : Hid (firstP Option.isNone S (q + 1) = none) := Lib.hid (by unfold firstP; rw [hfq, hs]; rfl)
                rw [hs] at cI
                simp only [Option.isSome_some] at cI
                clear hs hfq
                go_wp2_with fail
                go_roundg (9 - (q + 1))
                case measure => omega
                case rel => exact ⟨q + 1, by go_num, by omega, rfl, by rw [HE.out]; rfl, rfl⟩
            · obtain rfl : q = 8 := by omega
              have HE : Hid (pl = none) := Lib.hid (by rw [HPE.out, hfq])
              clear hfq
              go_wp2_with fail
              go_meet
              exact ⟨by rw [HE.out]; rfl, rfl⟩
    case rest =>
      obtain ⟨rfl, rfl⟩ := hcut
      generalize placeR S l k = i at *
      go_upto_if 68 with fail
      clear HPL
      go_cut [7] from 67 to 69 (fun s7 wx => s7 = .int .i64 (i : Nat) ∧ wx = wc)
      case first =>
        have hpp := HPP.out
        cases pl with
        | some i' =>
          have HQ := Lib.hid hpp
          simp only [goI]
          clear hpp
          go_wp2_with fail
          go_meet
          exact ⟨by rw [HQ.out]; simp, rfl⟩
        | none =>
          have HQ := Lib.hid hpp
          simp only [goI]
          clear hpp
          go_wp2_with fail
          go_meet
          exact ⟨by rw [HQ.out]; simp, rfl⟩
      case rest =>
        obtain ⟨rfl, rfl⟩ := hcut
        obtain ⟨hRB, hRel⟩ := HRB.out
        obtain ⟨k0, e0⟩ := HK0.out
        have hi7 : i ≤ 7 := by omega
        have cA := hRB.cA hp8
        have cP := hRB.cP hp8
        have cF := hRB.cF hp8
        have cW := hRB.cW hp8
        have cI := hRB.cI hp8
        have fR := free_of_ob hRB
        have cl := cell_of_ob e0
        have cl0 := cl 0
        have cl1 := cl 1
        have cl2 := cl 2
        have cl3 := cl 3
        simp only [List.getElem?_toArray, List.getElem?_cons_zero, List.getElem?_cons_succ] at cl0 cl1 cl2 cl3
        have hset := (hRB.setL i hp8 l).setI i true
        have kset : Keep [r] w ((wc.setCells r (i * 4) [.int .i64 l.a, .int .i64 l.p, .int .i64 l.f, .bool l.w]).setCell ⟨r, 32 + i, none⟩ (.bool true)) :=
          ((k0.mono (by simp)).setCells (.inl (by simp)) _ _).setCell (.inl (by simp)) _ _
        have H2 : Hid (RBufAt ((wc.setCells r (i * 4) [.int .i64 l.a, .int .i64 l.p, .int .i64 l.f, .bool l.w]).setCell ⟨r, 32 + i, none⟩ (.bool true)).drew r (upS S i (some l)) ∧ Keep [r] w ((wc.setCells r (i * 4) [.int .i64 l.a, .int .i64 l.p, .int .i64 l.f, .bool l.w]).setCell ⟨r, 32 + i, none⟩ (.bool true)).drew) :=
          Lib.hid ⟨RBufAt.keep ⟨_, _, hset, hRel.put i l⟩ (Keep.refl [] _).drew (by simp), kset.drew⟩
        simp only [World.setCells] at H2
        have hne : r ≠ w.heap.size := by omega
        clear hRB hRel k0 e0 cl hset kset HRB HK0 HPP
        go_wp2_with fail
        go_region
        all_goals
          go_wp2
          go_ret
          rw [HR.out.1, HR.out.2]
          exact ⟨rfl, H2.out.1, H2.out.2⟩
end Go.Proofs.Ytfihnnijcaapkaa
