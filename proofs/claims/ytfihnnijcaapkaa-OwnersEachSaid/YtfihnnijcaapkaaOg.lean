import Derived.Test.YtfihnnijcaapkaaOf
import Derived.Deep.RegionHeld3

namespace Go.Proofs.Ytfihnnijcaapkaa
open Go.RowKit
set_option linter.unusedSimpArgs false
set_option linter.unusedVariables false
attribute [local go_sem] ob_alloc ob_drew ob_drewN ob_setCell ob_setBlock objSet_cells obMap_map obClock_map isMapI_map keyI_mk findI_nil findI_cons lookRes_some lookRes_none lookRes_some' lookRes_none' setBlock_alloc mapPut

/-- both, and a block of the walk's own -/
structure BO (W0 : World) (o g r rg n bo : Nat) (ob0 : Obj) (w : World) (L M H L2 M2 H2 : Nat → Int) : Prop where
  oo : OAt w o g n L M H
  rr : ROAt w r rg n L2 M2
  oi : OInv n L M H
  ri : OInv n L2 M2 H2
  ow : ob w bo = some ob0
  kp : Keep [] W0 w
  n1 : o ≠ r ∧ o ≠ rg ∧ g ≠ r ∧ g ≠ rg
  n2 : bo ≠ o ∧ bo ≠ g ∧ bo ≠ r ∧ bo ≠ rg
  l0 : W0.heap.size ≤ o ∧ W0.heap.size ≤ g ∧ W0.heap.size ≤ r ∧ W0.heap.size ≤ rg
section
variable {W0 : World} {o g r rg n bo : Nat} {ob0 : Obj} {w : World} {L M H L2 M2 H2 : Nat → Int}
theorem BO.new (h : BO W0 o g r rg n bo ob0 w L M H L2 M2 H2) {w' : World} (hk : Keep [] w w') : BO W0 o g r rg n bo ob0 w' L M H L2 M2 H2 := ⟨h.oo.keep hk (by simp) (by simp), h.rr.keep hk (by simp) (by simp), h.oi, h.ri, hk.kp h.ow (by simp), h.kp.trans hk, h.n1, h.n2, h.l0⟩
theorem BO.drew (h : BO W0 o g r rg n bo ob0 w L M H L2 M2 H2) : BO W0 o g r rg n bo ob0 w.drew L M H L2 M2 H2 := h.new (Keep.refl _ _).drew
theorem BO.drewN (h : BO W0 o g r rg n bo ob0 w L M H L2 M2 H2) (k : Nat) : BO W0 o g r rg n bo ob0 (w.drewN k) L M H L2 M2 H2 := h.new ((Keep.refl _ _).drewN k)
theorem BO.byO (h : BO W0 o g r rg n bo ob0 w L M H L2 M2 H2) {w' : World} {L' M' H' : Nat → Int} (hO : OAt w' o g n L' M' H') (hI : OInv n L' M' H') (hk : Keep [o, g] w w') : BO W0 o g r rg n bo ob0 w' L' M' H' L2 M2 H2 :=
  ⟨hO, h.rr.keep hk (by simp; exact ⟨h.n1.1.symm, h.n1.2.2.1.symm⟩) (by simp; exact ⟨h.n1.2.1.symm, h.n1.2.2.2.symm⟩), hI, h.ri, hk.kp h.ow (by simp; exact ⟨h.n2.1, h.n2.2.1⟩), h.kp.andThen hk (by simp; exact ⟨h.l0.1, h.l0.2.1⟩), h.n1, h.n2, h.l0⟩
theorem BO.byR (h : BO W0 o g r rg n bo ob0 w L M H L2 M2 H2) {w' : World} {L' M' H' : Nat → Int} (hO : ROAt w' r rg n L' M') (hI : OInv n L' M' H') (hk : Keep [r, rg] w w') : BO W0 o g r rg n bo ob0 w' L M H L' M' H' :=
  ⟨h.oo.keep hk (by simp; exact ⟨h.n1.1, h.n1.2.1⟩) (by simp; exact ⟨h.n1.2.2.1, h.n1.2.2.2⟩), hO, h.oi, hI, hk.kp h.ow (by simp; exact ⟨h.n2.2.2.1, h.n2.2.2.2⟩), h.kp.andThen hk (by simp; exact ⟨h.l0.2.2.1, h.l0.2.2.2⟩), h.n1, h.n2, h.l0⟩
theorem BO.give (h : BO W0 o g r rg n bo ob0 w L M H L2 M2 H2) (f m x : Int) : Calls Try.prog 28 #[.pointer (some ⟨o, 0, none⟩), .int .i64 f, .int .i64 m, .int .i64 x] w fun e w' => e = .returned (.int .i64 (giveR n L M f m x)) ∧ BO W0 o g r rg n bo ob0 w' (giveL n L M f m x) M (giveH n L M H f m x) L2 M2 H2 :=
  (oGive w o g n L M H h.oo h.oi f m x).mono fun _ _ ⟨h1, h2, h3⟩ => ⟨h1, h.byO h2 (h.oi.give f m x) h3⟩
theorem BO.rgive (h : BO W0 o g r rg n bo ob0 w L M H L2 M2 H2) (f m x : Int) : Calls Try.prog 31 #[.pointer (some ⟨r, 0, none⟩), .int .i64 f, .int .i64 m, .int .i64 x] w fun e w' => e = .returned (.int .i64 (giveR n L2 M2 f m x)) ∧ BO W0 o g r rg n bo ob0 w' L M H (giveL n L2 M2 f m x) M2 (giveH n L2 M2 H2 f m x) :=
  (roGive w r rg n L2 M2 H2 h.rr h.ri f m x).mono fun _ _ ⟨h1, h2, h3⟩ => ⟨h1, h.byR h2 (h.ri.give f m x) h3⟩
theorem BO.take (h : BO W0 o g r rg n bo ob0 w L M H L2 M2 H2) (f m x : Int) : Calls Try.prog 32 #[.pointer (some ⟨o, 0, none⟩), .int .i64 f, .int .i64 m, .int .i64 x] w fun e w' => e = .returned (.int .i64 (takeR n L f m x)) ∧ BO W0 o g r rg n bo ob0 w' (takeL n L f m x) M (takeH n L H f m x) L2 M2 H2 :=
  (oTake w o g n L M H h.oo h.oi f m x).mono fun _ _ ⟨h1, h2, h3⟩ => ⟨h1, h.byO h2 (h.oi.take f m x) h3⟩
theorem BO.rtake (h : BO W0 o g r rg n bo ob0 w L M H L2 M2 H2) (f m x : Int) : Calls Try.prog 33 #[.pointer (some ⟨r, 0, none⟩), .int .i64 f, .int .i64 m, .int .i64 x] w fun e w' => e = .returned (.int .i64 (takeR n L2 f m x)) ∧ BO W0 o g r rg n bo ob0 w' L M H (takeL n L2 f m x) M2 (takeH n L2 H2 f m x) :=
  (roTake w r rg n L2 M2 H2 h.rr h.ri f m x).mono fun _ _ ⟨h1, h2, h3⟩ => ⟨h1, h.byR h2 (h.ri.take f m x) h3⟩
theorem BO.quota (h : BO W0 o g r rg n bo ob0 w L M H L2 M2 H2) (x t : Int) : Calls Try.prog 27 #[.pointer (some ⟨o, 0, none⟩), .int .i64 x, .int .i64 t] w fun e w' => e = .returned (.int .i64 (quotaR n L x t)) ∧ BO W0 o g r rg n bo ob0 w' L (quotaM n L M x t) H L2 M2 H2 :=
  (oQuota w o g n L M H h.oo h.oi x t).mono fun _ _ ⟨h1, h2, h3⟩ => ⟨h1, h.byO h2 (h.oi.quota x t) (h3.mono (by simp))⟩
theorem BO.rquota (h : BO W0 o g r rg n bo ob0 w L M H L2 M2 H2) (x t : Int) : Calls Try.prog 34 #[.pointer (some ⟨r, 0, none⟩), .int .i64 x, .int .i64 t] w fun e w' => e = .returned (.int .i64 (quotaR n L2 x t)) ∧ BO W0 o g r rg n bo ob0 w' L M H L2 (quotaM n L2 M2 x t) H2 :=
  (roQuota w r rg n L2 M2 H2 h.rr h.ri x t).mono fun _ _ ⟨h1, h2, h3⟩ => ⟨h1, h.byR h2 (h.ri.quota x t) (h3.mono (by simp))⟩
theorem BO.of (h : BO W0 o g r rg n bo ob0 w L M H L2 M2 H2) (f : Int) : Calls Try.prog 29 #[.pointer (some ⟨o, 0, none⟩), .int .i64 f] w fun e w' => e = .returned (.int .i64 (ofR n L f)) ∧ w = w' := oOf w o g n L M H h.oo h.oi.n2 f
theorem BO.rof (h : BO W0 o g r rg n bo ob0 w L M H L2 M2 H2) (f : Int) : Calls Try.prog 35 #[.pointer (some ⟨r, 0, none⟩), .int .i64 f] w fun e w' => e = .returned (.int .i64 (ofR n L2 f)) ∧ w = w' := roOf w r rg n L2 M2 h.rr h.ri.n2 f
theorem BO.count (h : BO W0 o g r rg n bo ob0 w L M H L2 M2 H2) (x : Int) : Calls Try.prog 36 #[.pointer (some ⟨o, 0, none⟩), .int .i64 x] w fun e w' => e = .returned (.int .i64 (countR n L x)) ∧ w = w' := oCount w o g n L M H h.oo h.oi x
theorem BO.rcount (h : BO W0 o g r rg n bo ob0 w L M H L2 M2 H2) (x : Int) : Calls Try.prog 37 #[.pointer (some ⟨r, 0, none⟩), .int .i64 x] w fun e w' => e = .returned (.int .i64 (countR n L2 x)) ∧ w = w' := roCount w r rg n L2 M2 H2 h.rr h.ri x
theorem BO.cells {d f m x : Int} (h : BO W0 o g r rg n bo (.cells #[.int .i64 d, .int .i64 f, .int .i64 m, .int .i64 x] 60 (0, 0)) w L M H L2 M2 H2) :
    w.cell? ⟨bo, 0, none⟩ = some (.int .i64 d) ∧ w.cell? ⟨bo, 1, none⟩ = some (.int .i64 f) ∧ w.cell? ⟨bo, 2, none⟩ = some (.int .i64 m) ∧ w.cell? ⟨bo, 3, none⟩ = some (.int .i64 x) := by
  have := cell_of_ob h.ow
  exact ⟨this 0, this 1, this 2, this 3⟩
end

set_option maxRecDepth 100000 in
set_option maxHeartbeats 2000000 in
theorem awake05 (w : World) : Calls Try.prog 25 #[] w fun e w' => e = .returned (.bool true) ∧ Keep [] w w' := by
  go_enter Try.func25, Try.ntmps25
  go_wp2_with fail
  refine (oNew_ok 8 (by omega) (by omega) w).mono ?_
  rintro _ w1 ⟨rfl, hO1, hk1, hs1⟩
  have hI1 := OInv.start (n := 8) (by omega) (by omega)
  obtain ⟨g, hg⟩ : ∃ g, g = w.heap.size := ⟨_, rfl⟩
  obtain ⟨o, ho⟩ : ∃ o, o = g + 1 := ⟨_, rfl⟩
  rw [← hg, ← ho] at hO1 ⊢
  have ng : w.heap.size ≤ g := by omega
  have no : w.heap.size ≤ o := by omega
  obtain ⟨L0, hL0⟩ : ∃ L0 : Nat → Int, L0 = fun _ => -1 := ⟨_, rfl⟩
  obtain ⟨M0, hM0⟩ : ∃ M0 : Nat → Int, M0 = fun _ => 256 := ⟨_, rfl⟩
  obtain ⟨H0, hH0⟩ : ∃ H0 : Nat → Int, H0 = fun _ => 0 := ⟨_, rfl⟩
  rw [← hL0, ← hM0, ← hH0] at hO1 hI1
  have E : Hid (quotaR 8 L0 2 3 = 0 ∧ giveR 8 L0 (quotaM 8 L0 M0 2 3) 0 4 2 = 12 ∧ giveR 8 (giveL 8 L0 (quotaM 8 L0 M0 2 3) 0 4 2) (quotaM 8 L0 M0 2 3) 0 3 2 = 0 ∧ giveR 8 (giveL 8 (giveL 8 L0 (quotaM 8 L0 M0 2 3) 0 4 2) (quotaM 8 L0 M0 2 3) 0 3 2) (quotaM 8 L0 M0 2 3) 2 1 1 = 4 ∧
      countR 8 (giveL 8 (giveL 8 (giveL 8 L0 (quotaM 8 L0 M0 2 3) 0 4 2) (quotaM 8 L0 M0 2 3) 0 3 2) (quotaM 8 L0 M0 2 3) 2 1 1) 2 = 3 ∧ ofR 8 (giveL 8 (giveL 8 (giveL 8 L0 (quotaM 8 L0 M0 2 3) 0 4 2) (quotaM 8 L0 M0 2 3) 0 3 2) (quotaM 8 L0 M0 2 3) 2 1 1) 2 = 2 ∧ ofR 8 (giveL 8 (giveL 8 (giveL 8 L0 (quotaM 8 L0 M0 2 3) 0 4 2) (quotaM 8 L0 M0 2 3) 0 3 2) (quotaM 8 L0 M0 2 3) 2 1 1) 3 = -1) := Lib.hid (by
    rw [hL0, hM0]; decide)
  clear hg ho hL0 hM0 hH0 hs1
  go_wp2_with fail
  refine (oQuota w1 o g 8 _ _ _ hO1 hI1 2 3).mono ?_
  rintro _ w2 ⟨rfl, hO2, hk2⟩
  have hI2 := hI1.quota 2 3
  rw [E.out.1]
  go_wp2_with fail
  refine (oGive w2 o g 8 _ _ _ hO2 hI2 0 4 2).mono ?_
  rintro _ w3 ⟨rfl, hO3, hk3⟩
  have hI3 := hI2.give 0 4 2
  rw [E.out.2.1]
  go_wp2_with fail
  refine (oGive w3 o g 8 _ _ _ hO3 hI3 0 3 2).mono ?_
  rintro _ w4 ⟨rfl, hO4, hk4⟩
  have hI4 := hI3.give 0 3 2
  rw [E.out.2.2.1]
  go_wp2_with fail
  refine (oGive w4 o g 8 _ _ _ hO4 hI4 2 1 1).mono ?_
  rintro _ w5 ⟨rfl, hO5, hk5⟩
  have hI5 := hI4.give 2 1 1
  rw [E.out.2.2.2.1]
  go_wp2_with fail
  refine (oCount w5 o g 8 _ _ _ hO5 hI5 2).mono ?_
  rintro _ w6 ⟨rfl, rfl⟩
  rw [E.out.2.2.2.2.1]
  go_wp2_with fail
  refine (oOf w5 o g 8 _ _ _ hO5 (by omega) 2).mono ?_
  rintro _ w6 ⟨rfl, rfl⟩
  rw [E.out.2.2.2.2.2.1]
  go_wp2_with fail
  refine (oOf w5 o g 8 _ _ _ hO5 (by omega) 3).mono ?_
  rintro _ w6 ⟨rfl, rfl⟩
  rw [E.out.2.2.2.2.2.2]
  have hk : Keep [] w w5 := (((hk1.andThen hk2 (by simp; omega)).andThen hk3 (by simp; omega)).andThen hk4 (by simp; omega)).andThen hk5 (by simp; omega)
  clear hO1 hO2 hO3 hO4 hO5 hI1 hI2 hI3 hI4 hI5 hk1 hk2 hk3 hk4 hk5
  go_wp2
  go_ret
  exact ⟨rfl, hk⟩

set_option maxRecDepth 100000 in
set_option maxHeartbeats 2000000 in
theorem plays05 (W0 : World) (n0 : Int) (v0 : Value) (xs : List (List Value)) (hv : RdA W0 4 v0 xs) (hx : ∀ c ∈ xs, GCells W0 [.int .i64, .int .i64, .int .i64, .int .i64] c) :
    Calls Try.prog 8 #[.int .i64 n0, v0] W0 fun o w' => o = .returned (.bool true) ∧ Keep [] W0 w' := by
  obtain ⟨a0, cap0, rfl, hc1, hc2⟩ := hv.len
  unfold maxLen at hc2
  go_enter Try.func8, Try.ntmps8
  go_wp2_with fail
  refine (awake05 W0).mono ?_
  rintro _ w1 ⟨rfl, hk1⟩
  cases hok : okFr n0 with
  | false =>
    go_wp2_with fail
    refine (oNew_no n0 hok w1).mono ?_
    rintro _ w2 ⟨rfl, rfl⟩
    go_wp2_with fail
    refine (roNew_no n0 hok w1).mono ?_
    rintro _ w2 ⟨rfl, rfl⟩
    clear hok hv hx
    generalize xs.length = l at *
    go_wp2
    go_loopw [10] (fun i wr => i = .int .i64 0 ∧ wr = w1) (fun _ _ => 0)
    case atStart => exact ⟨rfl, rfl⟩
    case round =>
      obtain ⟨rfl, rfl⟩ := hrel
      by_cases h0 : 0 < l
      · go_wp2
        go_ret
        exact ⟨rfl, hk1⟩
      · go_wp2
        go_ret
        exact ⟨rfl, hk1⟩
  | true =>
    obtain ⟨n, rfl, hn1, hn2⟩ := okFr_out hok
    go_wp2_with fail
    refine (oNew_ok n hn1 hn2 w1).mono ?_
    rintro _ w2 ⟨rfl, hO2, hk2, hs2⟩
    go_wp2_with fail
    refine (roNew_ok n hn1 hn2 w2).mono ?_
    rintro _ w3 ⟨rfl, hR3, hk3, hs3⟩
    have hO3 := hO2.keep hk3 (by simp) (by simp)
    have hk := (hk1.trans hk2).trans hk3
    have hI := OInv.start hn1 hn2
    obtain ⟨g, hg⟩ : ∃ g, g = w1.heap.size := ⟨_, rfl⟩
    obtain ⟨o, ho⟩ : ∃ o, o = g + 1 := ⟨_, rfl⟩
    obtain ⟨rg, hrg⟩ : ∃ rg, rg = w2.heap.size := ⟨_, rfl⟩
    obtain ⟨r, hr⟩ : ∃ r, r = rg + 1 := ⟨_, rfl⟩
    have hw1 := hk1.size
    have nn : o ≠ r ∧ o ≠ rg ∧ g ≠ r ∧ g ≠ rg := by omega
    have hl0 : W0.heap.size ≤ o ∧ W0.heap.size ≤ g ∧ W0.heap.size ≤ r ∧ W0.heap.size ≤ rg := by omega
    rw [← hg, ← ho] at hO3
    rw [← hrg, ← hr] at hR3
    rw [← hg, ← ho, ← hrg, ← hr]
    clear hg ho hrg hr hw1 hs2 hs3 hk1 hk2 hk3 hO2 hok
    go_wp2_with fail
    go_loopg [10] 100 (fun gn i wr => ∃ (k : Nat) (L M H : Nat → Int), i = .int .i64 k ∧ k ≤ 100 ∧ gn = 100 - k ∧ k ≤ xs.length ∧ OAt wr o g n L M H ∧ ROAt wr r rg n L M ∧ OInv n L M H ∧ Keep [] W0 wr)
    case atStart => exact ⟨0, _, _, _, rfl, by omega, by omega, by omega, hO3, hR3, hI, hk⟩
    case round =>
      clear hO3 hR3 hk hI
      obtain ⟨k, L, M, H, rfl, hk100, rfl, hkn, hO, hR, hI, hkp⟩ := hrel
      by_cases hlt : k < xs.length
      · by_cases h100 : k < 100
        · obtain ⟨b, off, cap', hveq, hbl, hcells⟩ := (hv.keep hkp (by simp)).2 (by omega)
          simp only [Value.slice.injEq, true_and] at hveq
          obtain ⟨rfl, rfl⟩ := hveq
          have hxk : xs[k]? = some xs[k] := List.getElem?_eq_getElem hlt
          obtain ⟨hc3, hrange⟩ := hcells k _ hxk
          obtain ⟨_, _, hxe, ⟨d, rfl, wd⟩, _, _, rfl, ⟨f, rfl, wq⟩, _, _, rfl, ⟨m, rfl, wa⟩, _, _, rfl, ⟨x, rfl, wk⟩, rfl⟩ := hx _ (List.getElem_mem hlt)
          rw [hxe] at hrange
          have l0 := hrange 0 _ rfl
          have l1 := hrange 1 _ rfl
          have l2 := hrange 2 _ rfl
          have l3 := hrange 3 _ rfl
          rw [Nat.add_zero] at l0
          clear hv hx hcells hxk hrange hc3 hxe wd wq wa wk
          generalize xs.length = l at *
          have lm := ob_lt hO.ho
          have lg := ob_lt hO.hg
          have lrm := ob_lt hR.ho
          have lrg := ob_lt hR.hg
          have hB : BO W0 o g r rg n wr.heap.size (.cells #[.int .i64 d, .int .i64 f, .int .i64 m, .int .i64 x] 60 (0, 0)) (wr.alloc (.cells #[.int .i64 d, .int .i64 f, .int .i64 m, .int .i64 x] 60)) L M H L M H :=
            ⟨hO.keep (S := []) ((Keep.refl _ _).alloc _) (by simp) (by simp), hR.keep (S := []) ((Keep.refl _ _).alloc _) (by simp) (by simp), hI, hI, al_new _ _ rfl, hkp.alloc _, nn, by omega, hl0⟩
          clear hO hR hI hkp lm lg lrm lrg
          go_upto_block 2 with fail
          generalize wr.heap.size = bo at *
          generalize wr.alloc (.cells #[.int .i64 d, .int .i64 f, .int .i64 m, .int .i64 x] 60) = w4 at *
          go_cut [12] from 34 to 129 (fun s12 wx => s12 = .bool true ∧ ∃ L M H, BO W0 o g r rg n bo (.cells #[.int .i64 d, .int .i64 f, .int .i64 m, .int .i64 x] 60 (0, 0)) wx L M H L M H)
          case first =>
            --[[
            clear l0 l1 l2 l3
            have hD := hB.drew
            obtain ⟨e0, e1, e2, e3⟩ := hB.cells
            clear hB
            have hcut : d = 0 ∨ d = 1 ∨ d = 2 ∨ (d ≠ 0 ∧ d ≠ 1 ∧ d ≠ 2) := by omega
            rcases hcut with rfl | rfl | rfl | ⟨d0, d1, d2⟩
            focus
              go_wp2_with fail
              go_region_held3 (fun w' => w'.cell? ⟨bo, 1, none⟩ = some (.int .i64 f) ∧ w'.cell? ⟨bo, 2, none⟩ = some (.int .i64 m) ∧ w'.cell? ⟨bo, 3, none⟩ = some (.int .i64 x)) (go_keep)
                (first
                  | (go_at_call 28; refine (BO.give (by assumption) f m x).mono ?_; rintro _ w5 ⟨rfl, hD⟩; obtain ⟨e0, e1, e2, e3⟩ := hD.cells)
                  | (go_at_call 31; refine (BO.rgive (by assumption) f m x).mono ?_; rintro _ w5 ⟨rfl, hD⟩; obtain ⟨e0, e1, e2, e3⟩ := hD.cells))
              all_goals
                go_wp2_with fail
                go_meet
                exact ⟨rfl, _, _, _, hD⟩
            focus
              go_wp2_with fail
              go_region_held3 (fun w' => w'.cell? ⟨bo, 1, none⟩ = some (.int .i64 f) ∧ w'.cell? ⟨bo, 2, none⟩ = some (.int .i64 m) ∧ w'.cell? ⟨bo, 3, none⟩ = some (.int .i64 x)) (go_keep)
                (first
                  | (go_at_call 28; refine (BO.give (by assumption) f m x).mono ?_; rintro _ w5 ⟨rfl, hD⟩; obtain ⟨e0, e1, e2, e3⟩ := hD.cells)
                  | (go_at_call 31; refine (BO.rgive (by assumption) f m x).mono ?_; rintro _ w5 ⟨rfl, hD⟩; obtain ⟨e0, e1, e2, e3⟩ := hD.cells))
              all_goals
                go_wp2_with fail
                go_meet
                exact ⟨rfl, _, _, _, hD⟩
            focus
              go_wp2_with fail
              go_region_held3 (fun w' => w'.cell? ⟨bo, 1, none⟩ = some (.int .i64 f) ∧ w'.cell? ⟨bo, 2, none⟩ = some (.int .i64 m) ∧ w'.cell? ⟨bo, 3, none⟩ = some (.int .i64 x)) (go_keep)
                (first
                  | (go_at_call 32; refine (BO.take (by assumption) f m x).mono ?_; rintro _ w5 ⟨rfl, hD⟩; obtain ⟨e0, e1, e2, e3⟩ := hD.cells)
                  | (go_at_call 33; refine (BO.rtake (by assumption) f m x).mono ?_; rintro _ w5 ⟨rfl, hD⟩; obtain ⟨e0, e1, e2, e3⟩ := hD.cells))
              all_goals
                go_wp2_with fail
                go_meet
                exact ⟨rfl, _, _, _, hD⟩
            focus
              go_wp2_with fail
              go_region_held3 (fun w' => w'.cell? ⟨bo, 2, none⟩ = some (.int .i64 m) ∧ w'.cell? ⟨bo, 3, none⟩ = some (.int .i64 x)) (go_keep)
                (first
                  | (go_at_call 27; refine (BO.quota (by assumption) x m).mono ?_; rintro _ w5 ⟨rfl, hD⟩; obtain ⟨e0, e1, e2, e3⟩ := hD.cells)
                  | (go_at_call 34; refine (BO.rquota (by assumption) x m).mono ?_; rintro _ w5 ⟨rfl, hD⟩; obtain ⟨e0, e1, e2, e3⟩ := hD.cells))
              all_goals
                go_wp2_with fail
                go_meet
                exact ⟨rfl, _, _, _, hD⟩
            --]]
          case rest =>
            clear hB l0 l1 l2 l3
            obtain ⟨rfl, L1, M1, H1, hB⟩ := hcut
            go_upto_region 18 with fail
            go_cut [129] from 34 to 129 (fun s wx => s = .bool false ∧ ∃ nd, wx = wc.drewN nd)
            case first =>
              obtain ⟨e0, e1, e2, e3⟩ := hB.cells
              go_quiet ((first
                | (go_at_call 29; exact q_same (BO.of (hB.drewN _) f))
                | (go_at_call 35; exact q_same (BO.rof (hB.drewN _) f))
                | (go_at_call 36; exact q_same (BO.count (hB.drewN _) x))
                | (go_at_call 37; exact q_same (BO.rcount (hB.drewN _) x))))
              go_wp2_with fail
              go_meet
              exact ⟨rfl, _, rfl⟩
            case rest =>
              obtain ⟨rfl, nd, rfl⟩ := hcut
              have HB := Lib.hid (hB.drewN nd)
              clear hB
              go_wp2
              go_roundg (100 - (k + 1))
              case measure => omega
              case rel => exact ⟨k + 1, _, _, _, by go_num, by omega, rfl, by omega, HB.out.oo, HB.out.rr, HB.out.oi, HB.out.kp⟩
        · generalize xs.length = l at *
          clear hv hx hO hR hI
          go_wp2
          go_ret
          exact ⟨rfl, hkp⟩
      · generalize xs.length = l at *
        clear hv hx hO hR hI
        go_wp2
        go_ret
        exact ⟨rfl, hkp⟩
end Go.Proofs.Ytfihnnijcaapkaa
