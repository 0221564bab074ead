import Derived.Test.YtfihnnijcaapkaaTf
namespace Go.Proofs.Ytfihnnijcaapkaa
open Go.RowKit
set_option linter.unusedSimpArgs false
set_option linter.unusedVariables false
attribute [local go_sem] ob_alloc ob_drew ob_drewN ob_setCell ob_setBlock objSet_cells obMap_map obClock_map isMapI_map keyI_mk findI_nil findI_cons lookRes_some lookRes_none lookRes_some' lookRes_none' setBlock_alloc mapPut
attribute [local go_sem ↓] eql29 neq29

set_option maxRecDepth 100000 in
set_option maxHeartbeats 800000 in
theorem rLines (w : World) (r : Nat) (S : Nat → Option Ln) (hR : RBufAt w r S) :
    Calls Try.prog 24 #[.pointer (some ⟨r, 0, none⟩)] w (LinesQ S w) := by
  have lr : r < w.heap.size := by obtain ⟨I, G, h, _⟩ := hR; exact ob_lt h
  obtain ⟨I, G, hRB, hRel⟩ := hR
  have HO := Lib.hid (And.intro hRB hRel)
  clear hRB hRel
  go_enter Try.func24, Try.ntmps24
  go_wp2_with fail
  go_loopg [3, 4] 8 (fun gn v i wr => ∃ k : Nat, i = .int .i64 k ∧ k ≤ 8 ∧ gn = 8 - k ∧ RowE lnE 29 wr w.heap.size v (linesR S k) ∧ Keep [] w wr)
  case atStart => exact ⟨0, rfl, by omega, by omega, RowE.nil _ _, Keep.refl _ _⟩
  case round =>
    obtain ⟨k, rfl, hk8, rfl, hR, hkp⟩ := hrel
    have hll := linesR_len S k
    by_cases hk : k < 8
    · have hRB : RB wr r I G := hkp.kp HO.out.1 (by simp)
      have cI := hRB.cI hk
      rw [← (HO.out.2 k hk).1] at cI
      cases hs : S k with
      | none =>
        have HE : Hid (linesR S (k + 1) = linesR S k) := Lib.hid (by rw [linesR_succ, hs]; simp)
        rw [hs] at cI
        simp only [Option.isSome_none] at cI
        have H2 := Lib.hid (And.intro hR hkp)
        clear hs hR hkp hRB
        go_wp2
        go_roundg (8 - (k + 1))
        case measure => omega
        case rel => exact ⟨k + 1, by go_num, by omega, rfl, by rw [HE.out]; exact H2.out.1, H2.out.2⟩
      | some l =>
        have HE : Hid (linesR S (k + 1) = linesR S k ++ [l]) := Lib.hid (by rw [linesR_succ, hs]; rfl)
        rw [hs] at cI
        simp only [Option.isSome_some] at cI
        have cl0 := hRB.cA hk
        have cl1 := hRB.cP hk
        have cl2 := hRB.cF hk
        have cl3 := hRB.cW hk
        rw [(HO.out.2 k hk).2 l hs] at cl0 cl1 cl2 cl3
        obtain ⟨va, vc, hva⟩ := hR.slice
        subst hva
        have hsz := hkp.size
        have hR2 : RowE lnE 29 (wr.alloc (.cells #[.int .i64 l.a, .int .i64 l.p, .int .i64 l.f, .bool l.w] 29)) w.heap.size _ _ := hR.keep (S := []) ((Keep.refl _ _).alloc _) (by simp)
        have hsz2 : (wr.alloc (.cells #[.int .i64 l.a, .int .i64 l.p, .int .i64 l.f, .bool l.w] 29)).heap.size = wr.heap.size + 1 := by simp
        obtain ⟨va2, vc2, w3, r1, hR3, hk3, _⟩ := hR2.push Try.underlying34 info29 rfl (by omega) l (b := wr.heap.size) (al_new _ _ rfl) 1 (by omega) (by omega) (by omega)
        have H2 : Hid (RowE lnE 29 w3 w.heap.size (.slice va2 ((linesR S k).length + 1) vc2) (linesR S k ++ [l]) ∧ Keep [] w w3) :=
          Lib.hid ⟨hR3, (hkp.alloc _).andThen hk3 (fun x hx => .inr (ownBlock_ge hR2 (Option.mem_toList.1 hx)))⟩
        have R1 := r1 34
        clear hs hR hR2 hR3 hkp hk3 r1 hsz2 hRB
        generalize (linesR S k).length = n at *
        go_wp2_with (at_builtin; refine wpList_append_eq (o := ⟨some 23, _, _, _, _, _⟩) rfl _ _ _ rfl rfl rfl R1 ?_)
        go_roundg (8 - (k + 1))
        case measure => omega
        case rel => exact ⟨k + 1, by go_num, by omega, rfl, by rw [HE.out]; exact H2.out.1, H2.out.2⟩
    · obtain rfl : k = 8 := by omega
      have H2 := Lib.hid (And.intro hR hkp)
      clear hR hkp
      go_wp2
      go_ret
      exact ⟨_, rfl, H2.out.1, H2.out.2⟩
set_option maxRecDepth 100000 in
set_option maxHeartbeats 800000 in
theorem rSame (w : World) (B : Nat) (v u : Value) (xs : List Ln) (hv : RowE lnE 29 w B v xs) (hu : RowE lnE 29 w B u xs) (hn : xs.length ≤ 8) :
    Calls Try.prog 23 #[v, u] w fun e w' => e = .returned (.bool true) ∧ Keep [] w w' := by
  have hV := Lib.hid hv
  have hU := Lib.hid hu
  obtain ⟨va, vc, rfl⟩ := hv.slice
  obtain ⟨ua, uc, rfl⟩ := hu.slice
  obtain ⟨n, hl⟩ : ∃ n, xs.length = n := ⟨_, rfl⟩
  rw [hl] at hV hU hn ⊢
  have HL := Lib.hid hl
  clear hv hu hl
  go_enter Try.func23, Try.ntmps23
  go_wp2_with fail
  go_loopg [5] n (fun gn i wr => ∃ k nd : Nat, i = .int .i64 k ∧ k ≤ n ∧ gn = n - k ∧ wr = w.drewN nd)
  case atStart => exact ⟨0, 0, rfl, by omega, by omega, rfl⟩
  case round =>
    obtain ⟨k, nd, rfl, hk, rfl, rfl⟩ := hrel
    by_cases hlt : k < n
    · have hx : xs[k]? = some (xs[k]'(by rw [HL.out]; exact hlt)) := List.getElem?_eq_getElem _
      generalize (xs[k]'(by rw [HL.out]; exact hlt)) = l at hx
      obtain ⟨g1, c1, e1, _, _, b1, b2, hc1⟩ := hV.out.get hx
      obtain ⟨g2, c2, e2, _, _, b3, b4, hc2⟩ := hU.out.get hx
      simp only [Value.slice.injEq, HL.out, true_and] at e1 e2
      obtain ⟨rfl, rfl⟩ := e1
      obtain ⟨rfl, rfl⟩ := e2
      have p0 := hc1 0 _ rfl
      have p1 := hc1 1 _ rfl
      have p2 := hc1 2 _ rfl
      have p3 := hc1 3 _ rfl
      have q0 := hc2 0 _ rfl
      have q1 := hc2 1 _ rfl
      have q2 := hc2 2 _ rfl
      have q3 := hc2 3 _ rfl
      rw [Nat.add_zero] at p0 q0
      rw [HL.out] at b1 b3
      clear hc1 hc2 hx
      go_wp2_with fail
      go_quiet (fail)
      go_wp2_with fail
      go_roundg (n - (k + 1))
      case measure => omega
      case rel => exact ⟨k + 1, _, by go_num, by omega, rfl, rfl⟩
    · obtain rfl : k = n := by omega
      go_wp2
      go_ret
      exact ⟨rfl, (Keep.refl _ _).drewN _⟩
set_option maxRecDepth 100000 in
set_option maxRecDepth 100000 in
set_option maxHeartbeats 800000 in
theorem awake09 (w : World) : Calls Try.prog 11 #[] w fun e w' => e = .returned (.bool true) ∧ Keep [] w w' := by
  go_enter Try.func11, Try.ntmps11
  go_wp2_with fail
  refine (tNew w).mono ?_
  rintro _ w1 ⟨rfl, hB1, hk1, hs1⟩
  have hbw : w.heap.size ≤ w.heap.size := Nat.le_refl _
  obtain ⟨b, hb⟩ : ∃ b, b = w.heap.size := ⟨_, rfl⟩
  rw [← hb] at hB1 hs1 ⊢
  have hbw : w.heap.size ≤ b := by omega
  have hKr : ∀ x, x ∈ List.range b → x < w1.heap.size := fun x hx => by simp at hx; omega
  clear hb
  obtain ⟨S1, hS1⟩ : ∃ S1, S1 = putS (fun _ => none) ⟨1, 2, 3, false⟩ 0 := ⟨_, rfl⟩
  have E : Hid (putR ⟨1, 2, 3, false⟩ 0 = 0 ∧ findR S1 1 2 = some ⟨1, 2, 3, false⟩ ∧ findR S1 2 2 = none ∧ dropN (eqA 1) S1 8 = 1 ∧ linesR (dropS (eqA 1) S1) 8 = []) := Lib.hid (by rw [hS1]; decide)
  have hP := tPut w1 b _ _ hB1 hKr ⟨1, 2, 3, false⟩ 0
  rw [← hS1] at hP
  clear hS1 hB1 hKr
  go_wp2_with fail
  refine hP.mono ?_
  rintro _ w2 ⟨rfl, hB2, hk2⟩
  rw [E.out.1]
  clear hP
  have kk2 := hk1.andThen hk2 (by simp; omega)
  go_wp2_with fail
  refine (tFind w2 b _ _ hB2 1 2).mono ?_
  rintro _ w3 ⟨rfl, hk3⟩
  rw [E.out.2.1]
  have e3 := al_new w3 (.cells #[.int .i64 1, .int .i64 2, .int .i64 3, .bool false] 29) rfl
  have hB3 := hB2.keep (hk3.alloc (.cells #[.int .i64 1, .int .i64 2, .int .i64 3, .bool false] 29)) (by simp) (by simp)
  have kk3 := (kk2.trans hk3).alloc (.cells #[.int .i64 1, .int .i64 2, .int .i64 3, .bool false] 29)
  simp only [agL, Option.getD_some, Option.isSome_some]
  clear hB2 hk3
  go_wp2_with fail
  generalize w3.heap.size = c at *
  generalize w3.alloc (.cells #[.int .i64 1, .int .i64 2, .int .i64 3, .bool false] 29) = w4 at *
  refine (tFind w4 b _ _ hB3 2 2).mono ?_
  rintro _ w5 ⟨rfl, hk5⟩
  rw [E.out.2.2.1]
  have e5 := al (hk5.kp e3 (by simp)) (o' := .cells #[.int .i64 0, .int .i64 0, .int .i64 0, .bool false] 29)
  have hB5 := hB3.keep (hk5.alloc (.cells #[.int .i64 0, .int .i64 0, .int .i64 0, .bool false] 29)) (by simp) (by simp)
  have kk5 := (kk3.trans hk5).alloc (.cells #[.int .i64 0, .int .i64 0, .int .i64 0, .bool false] 29)
  have c5 := cell_of_ob (hk5.kp e3 (by simp))
  have l5 := ob_lt (hk5.kp e3 (by simp))
  simp only [agL, Option.getD_none, Option.isSome_none, ln0]
  clear hB3 hk5
  go_wp2_with fail
  refine (tFlush _ b _ _ hB5 1).mono ?_
  rintro _ w6 ⟨rfl, hB6, hk6⟩
  rw [E.out.2.2.2.1]
  have kk6 := kk5.andThen hk6 (by simp; omega)
  clear hB5 hk6
  go_wp2_with fail
  refine (tLines w6 b _ _ hB6).mono ?_
  intro e w7 hq
  obtain ⟨v, rfl, hR, hk7⟩ := hq
  rw [E.out.2.2.2.2] at hR
  obtain ⟨va, vc, rfl⟩ := hR.slice
  have kk7 := kk6.trans hk7
  clear hB6 hR hk7
  go_wp2
  go_ret
  exact ⟨rfl, kk7⟩
end Go.Proofs.Ytfihnnijcaapkaa
