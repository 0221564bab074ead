import Derived.Test.YtjiienoflgolpaaQc
namespace Go.Proofs.Ytjiienoflgolpaa
open Go.RowKit
set_option linter.unusedSimpArgs false
set_option linter.unusedVariables false
open Go.Conc
attribute [local go_sem] ob_alloc ob_drew ob_drewN ob_setCell ob_setBlock objSet_cells obMap_map obClock_map isMapI_map keyI_mk findI_nil findI_cons lookRes_some lookRes_none lookRes_some' lookRes_none' setBlock_alloc mapPut

/-- a port of a law's own -/
structure PO (W0 : World) (w : World) (p c many : Nat) (words : Int) (buf : List Value) : Prop where
  pb : PortB w p c many words buf
  kp : Keep [] W0 w
  p0 : W0.heap.size ≤ p
  c0 : W0.heap.size ≤ c
section
variable {W0 w : World} {p c many : Nat} {words : Int} {buf : List Value}
theorem PO.new (h : PO W0 w p c many words buf) {w' : World} (hk : Keep [] w w') : PO W0 w' p c many words buf := ⟨h.pb.keep hk (by simp) (by simp), h.kp.trans hk, h.p0, h.c0⟩
theorem PO.byC (h : PO W0 w p c many words buf) {w' : World} {buf' : List Value} (hp : PortB w' p c many words buf') (hk : Keep [c] w w') : PO W0 w' p c many words buf' :=
  ⟨hp, h.kp.andThen hk (by intro x hx; simp at hx; subst hx; exact .inr h.c0), h.p0, h.c0⟩
theorem PO.alloc (h : PO W0 w p c many words buf) (o : Obj) : PO W0 (w.alloc o) p c many words buf := h.new ((Keep.refl _ _).alloc o)
theorem PO.clt (h : PO W0 w p c many words buf) : c < w.heap.size := h.pb.lt.2
end
theorem qNewPO (W0 w : World) (hk0 : Keep [] W0 w) (m : Nat) (words : Int) (h1 : 1 ≤ m) (h2 : m ≤ 16) (h3 : 1 ≤ words) (h4 : words ≤ 16) :
    Calls Try.prog 14 #[.int .i64 m, .int .i64 words] w fun e w' => ∃ p c, e = .returned (.tuple #[.pointer (some ⟨p, 0, none⟩), .int .i64 0]) ∧ PO W0 w' p c m words [] :=
  (qNew_yes w m words h1 h2 h3 h4).mono fun _ _ ⟨he, hp, hk⟩ => ⟨_, _, he, ⟨hp, hk0.trans hk, by have := hk0.size; omega, hk0.size⟩⟩
/-- what lies first in the queue -/
def HeadIs (w : World) (c : Nat) (buf : List Value) (xs : List Int) : Prop := ∀ v, buf[0]? = some v → ∃ B, c < B ∧ w.ownsRow B 44 1 v xs.length (u64s xs)
theorem HeadIs.keep {w w' : World} {c : Nat} {buf : List Value} {xs : List Int} {S : List Nat} (h : HeadIs w c buf xs) (hk : Keep S w w') (hS : ∀ x, x ∈ S → x ≤ c) : HeadIs w' c buf xs := by
  intro v hv
  obtain ⟨B, hB, ho⟩ := h v hv
  exact ⟨B, hB, owns_keep ho hk (fun b hb hm => by have h1 := ownBlock_ge ho hb; have h2 := hS b hm; omega)⟩
set_option maxRecDepth 100000 in
set_option maxHeartbeats 4000000 in
theorem full18 (W0 : World) (many words wd : Int) (hw : 0 ≤ wd) (hw2 : wd ≤ 18446744073709551615) :
    Calls Try.prog 5 #[.int .i64 many, .int .i64 words, .int .u64 wd] W0 fun e w' => e = .returned (.bool true) ∧ Keep [] W0 w' := by
  by_cases hok : 1 ≤ many ∧ many ≤ 16 ∧ 1 ≤ words ∧ words ≤ 16
  · obtain ⟨h1, h2, h3, h4⟩ := hok
    obtain ⟨m, rfl⟩ := Int.eq_ofNat_of_zero_le (show 0 ≤ many by omega)
    obtain ⟨n, rfl⟩ := Int.eq_ofNat_of_zero_le (show 0 ≤ words by omega)
    go_enter Try.func5, Try.ntmps5
    go_wp2_with fail
    refine (awake18 W0).mono ?_
    rintro _ w1 ⟨rfl, hk1⟩
    go_wp2_with fail
    refine (qNewPO W0 w1 hk1 m n (by omega) (by omega) (by omega) (by omega)).mono ?_
    rintro _ w2 ⟨p, c, rfl, hP2⟩
    clear hk1
    have HP2 := Lib.hid hP2
    clear hP2
    go_wp2_with fail
    go_loopg [10] (m + 2) (fun gn i wr => ∃ (k : Nat) (vs : List Value), i = .int .i64 k ∧ k ≤ m + 2 ∧ gn = m + 2 - k ∧ PO W0 wr p c m n vs ∧ vs.length = min k m ∧ HeadIs wr c vs [wd])
    case atStart => exact ⟨0, [], rfl, by omega, by omega, HP2.out, by simp, by intro v hv; simp at hv⟩
    case round =>
      clear HP2
      obtain ⟨k, vs, rfl, hk, rfl, hP, hl, hH⟩ := hrel
      have hm17 : (m : Int) + 2 ≤ 100 := by omega
      have HP := Lib.hid (And.intro hP (And.intro hl hH))
      clear hP hl hH
      by_cases hlt : k < m + 2
      · by_cases hkm : k < m
        · go_wp2_with fail
          have hwr : IntKind.u64.wrap (wd + (0 : Nat)) = wd := by rw [IntKind.wrap_u64]; omega
          have HW := Lib.hid hwr
          clear hwr
          generalize hX : IntKind.u64.wrap (wd + (k : Int)) = X at *
          have HX := Lib.hid hX
          clear hX
          have hl3 : vs.length = k := by have := HP.out.2.1; omega
          refine (qSend_ok _ p c m n vs (HP.out.1.alloc (.cells #[.int .u64 X] 44)).pb _ 1 1 [X] (rd_one wr X) (by omega) (by omega) (by omega) (by omega)).mono ?_
          rintro _ w3 ⟨rfl, v', hP3, ho3, hk3⟩
          have hP4 := (HP.out.1.alloc (.cells #[.int .u64 X] 44)).byC hP3 hk3
          have hH4 : HeadIs w3 c (vs ++ [v']) [wd] := by
            intro v hv
            by_cases h0 : k = 0
            · subst h0
              have : vs = [] := List.eq_nil_of_length_eq_zero hl3
              subst this
              simp at hv; subst hv
              have hXw : X = wd := by rw [← HX.out]; exact HW.out
              rw [hXw] at ho3
              exact ⟨_, by have := HP.out.1.clt; simp; omega, ho3⟩
            · rw [List.getElem?_append_left (by omega)] at hv
              exact ((HP.out.2.2.keep ((Keep.refl [] wr).alloc (.cells #[.int .u64 X] 44)) (by simp)).keep hk3 (by simp)) v hv
          have H4 := Lib.hid (And.intro hP4 hH4)
          have HL3 := Lib.hid hl3
          clear hP3 ho3 hk3 hP4 hH4 HP HW HX hl3
          go_wp2_with fail
          refine (qLen w3 p c m n _ H4.out.1.pb).mono ?_
          rintro _ w5 ⟨rfl, hk5⟩
          have hl5 : (vs ++ [v']).length = k + 1 := by rw [List.length_append, HL3.out]; rfl
          rw [hl5]
          have H5 := Lib.hid (And.intro (H4.out.1.new hk5) (And.intro hl5 (H4.out.2.keep hk5 (by simp))))
          have hmin : (((k + 1 : Nat) : Int) != min ((k : Int) + 1) (m : Int)) = false := by simp; omega
          clear hk5 H4 HL3 hl5
          go_wp2
          go_roundg (m + 2 - (k + 1))
          case measure => omega
          case rel => exact ⟨k + 1, vs ++ [v'], by go_num, by omega, rfl, H5.out.1, by rw [H5.out.2.1]; omega, H5.out.2.2⟩
        · go_wp2_with fail
          generalize hX : IntKind.u64.wrap (wd + (k : Int)) = X at *
          clear hX
          have hl3 : vs.length = m := by have := HP.out.2.1; omega
          refine (qSend_full _ p c m n vs (HP.out.1.alloc (.cells #[.int .u64 X] 44)).pb _ 1 1 [X] (rd_one wr X) (by omega) (by omega) (by omega) hl3).mono ?_
          rintro _ w3 ⟨rfl, hP3, hk3⟩
          have hk4 := ((Keep.refl [] wr).alloc (.cells #[.int .u64 X] 44)).trans hk3
          have H4 := Lib.hid (And.intro (HP.out.1.new hk4) (HP.out.2.2.keep hk4 (by simp)))
          have HL3 := Lib.hid hl3
          clear hP3 hk3 HP hl3 hk4
          go_wp2_with fail
          refine (qLen w3 p c m n _ H4.out.1.pb).mono ?_
          rintro _ w5 ⟨rfl, hk5⟩
          rw [HL3.out]
          have H5 := Lib.hid (And.intro (H4.out.1.new hk5) (H4.out.2.keep hk5 (by simp)))
          have hmin : (((m : Nat) : Int) != min ((k : Int) + 1) (m : Int)) = false := by simp; omega
          clear hk5 H4
          go_wp2
          go_roundg (m + 2 - (k + 1))
          case measure => omega
          case rel => exact ⟨k + 1, vs, by go_num, by omega, rfl, H5.out.1, by rw [HL3.out]; omega, H5.out.2⟩
      · obtain rfl : k = m + 2 := by omega
        obtain ⟨v0, rest, rfl⟩ : ∃ v0 rest, vs = v0 :: rest := by
          cases vs with
          | nil => have := HP.out.2.1; simp at this; omega
          | cons a b => exact ⟨a, b, rfl⟩
        have hlr : rest.length + 1 = m := by have := HP.out.2.1; simp at this; omega
        obtain ⟨B, hB, ho⟩ := HP.out.2.2 v0 rfl
        have HO := Lib.hid ho
        have HB := Lib.hid hB
        have HL := Lib.hid hlr
        clear ho hB hlr
        go_wp2_with fail
        refine (qTake_yes _ p c m n v0 rest HP.out.1.pb).mono ?_
        rintro _ w3 ⟨rfl, hP3, hk3⟩
        have hP4 := HP.out.1.byC hP3 hk3
        have ho4 := owns_keep HO.out hk3 (fun b hb hm => by have h1 := ownBlock_ge HO.out hb; have := HB.out; simp at hm; omega)
        obtain ⟨g, cap, rfl, hg1, hg2, hg3, hg4⟩ := owns_pos ho4 (by simp)
        obtain ⟨c0, f0⟩ := hg4 0 _ rfl
        simp only [List.length_cons, List.length_nil, Nat.zero_add] at hg3 c0 f0 ⊢
        have hk5 : Keep [g] w3 (w3.setCell ⟨g, 0, none⟩ (.int .u64 5)) := (Keep.refl [g] w3).setCell (.inl (by simp)) 0 (.int .u64 5)
        have hgc : c < g := by have := HB.out; omega
        have hgp : p ≠ g := by
          intro e
          have h1 := cell_of_ob hP4.pb.hp 0
          rw [e] at h1
          simp at h1
          rw [h1] at c0
          cases c0
        have hP6 : PO W0 (w3.setCell ⟨g, 0, none⟩ (.int .u64 5)) p c m n rest := ⟨hP4.pb.keep hk5 (by simp; exact hgp) (by simp; omega), hP4.kp.andThen hk5 (by intro x hx; simp at hx; have := hP4.c0; omega), hP4.p0, hP4.c0⟩
        have H6 := Lib.hid hP6
        clear hP3 hk3 hP4 ho4 hg4 hk5 hgc hgp hP6 HP HO HB hg1
        have hmk := fun (k : Nat) (hk : k ≤ 100) (w : World) => make_row (P := Try.prog) Try.underlying31 info44 rfl k (by omega) (by omega) w
        have hm1 := hmk (n + 1) (by omega)
        have hm2 := hmk n (by omega)
        rw [show ((n + 1 : Nat) : Int) = (n : Int) + 1 by omega] at hm1
        clear hmk
        go_wp2_with fail
        have hA := H6.out
        generalize w3.setCell ⟨g, 0, none⟩ (.int .u64 5) = w4 at *
        refine (qSend_bad _ p c m n rest (hA.alloc (.cells (zeros (.int .u64 0) (n + 1)) 44)).pb _ (n + 1) (n + 1) (.inr (by omega)) (by unfold maxLen; omega)).mono ?_
        rintro _ w5 ⟨rfl, rfl⟩
        have H7 := Lib.hid (hA.alloc (.cells (zeros (.int .u64 0) (n + 1)) 44))
        generalize w4.alloc (.cells (zeros (.int .u64 0) (n + 1)) 44) = w7 at *
        clear hA H6 hm1 c0 f0 hg2
        go_wp2_with fail
        refine (qSend_ok _ p c m n rest (H7.out.alloc (.cells (zeros (.int .u64 0) n) 44)).pb _ n n _ (rd_zeros w7 n (by omega)) (by omega) (by omega) (by omega) (by have := HL.out; omega)).mono ?_
        rintro _ w8 ⟨rfl, v', hP8, _, hk8⟩
        have H8 := Lib.hid ((H7.out.alloc (.cells (zeros (.int .u64 0) n) 44)).byC hP8 hk8)
        have hlm : (rest ++ [v']).length = m := by rw [List.length_append]; exact HL.out
        have HLM := Lib.hid hlm
        clear hP8 hk8 H7 hm2 hlm
        go_wp2_with fail
        refine (qLen w8 p c m n _ H8.out.pb).mono ?_
        rintro _ w9 ⟨rfl, hk9⟩
        have H9 := Lib.hid (H8.out.new hk9)
        rw [HLM.out]
        clear hk9 H8
        go_wp2_with fail
        refine (qDrain w9 p c m n _ H9.out.pb (by rw [HLM.out]; omega)).mono ?_
        rintro _ w10 ⟨rfl, hP10, hk10⟩
        rw [HLM.out]
        have H10 := Lib.hid (H9.out.byC hP10 hk10).kp
        clear hP10 hk10 H9
        go_wp2
        go_ret
        exact ⟨rfl, H10.out⟩
  · have hno : many < 1 ∨ 16 < many ∨ words < 1 ∨ 16 < words := by omega
    clear hok
    go_enter Try.func5, Try.ntmps5
    go_wp2_with fail
    refine (awake18 W0).mono ?_
    rintro _ w1 ⟨rfl, hk1⟩
    go_wp2_with fail
    refine (qNew_no w1 many words hno).mono ?_
    rintro _ w2 ⟨rfl, hk2⟩
    have hk := hk1.trans hk2
    clear hno hk1 hk2
    go_wp2
    go_ret
    exact ⟨rfl, hk⟩
end Go.Proofs.Ytjiienoflgolpaa
