import Derived.Test.YtjiienoflgolpaaHf
namespace Go.Proofs.Ytjiienoflgolpaa
open Go.RowKit
set_option linter.unusedSimpArgs false
set_option linter.unusedVariables false
attribute [local go_sem] ob_alloc ob_drew ob_drewN ob_setCell ob_setBlock objSet_cells obMap_map obClock_map isMapI_map keyI_mk findI_nil findI_cons lookRes_some lookRes_none lookRes_some' lookRes_none' setBlock_alloc mapPut

/-! ### HealthFew: the plain law -/
structure FI (s mm ag : Nat → Int) : Prop where
  act : ∀ q j, q < 8 → j < 4 → 0 ≤ s (q * 6 + j) ∧ s (q * 6 + j) ≤ 2
  many : ∀ q, q < 8 → s (q * 6 + 4) = mm q
  again : ∀ q, q < 8 → s (q * 6 + 5) = ag q
  few : ∀ q, q < 8 → 0 ≤ ag q ∧ ag q ≤ 3
theorem FI.start : FI (h0 8) (fun _ => 0) (fun _ => 0) := by
  refine ⟨fun q j hq hj => ?_, fun q hq => ?_, fun q hq => ?_, fun q hq => ?_⟩
  · unfold h0; split <;> omega
  · unfold h0; rw [if_neg (by omega)]
  · unfold h0; rw [if_neg (by omega)]
  · simp
theorem FI.set {s mm ag : Nat → Int} (h : FI s mm ag) (q k a : Int) : FI (hSetS s q k a) mm ag := by
  unfold hSetS
  by_cases hb : (pkOk q k && aOk a) = true
  · rw [if_pos hb]
    obtain ⟨h1, h2⟩ := Bool.and_eq_true_iff.1 hb
    obtain ⟨n, rfl, hn, hk⟩ := pkOk_out h1
    have h3 : 0 ≤ a ∧ a ≤ 2 := by simpa [aOk] using h2
    have hkx := kIx_lt k
    simp only [Int.toNat_natCast]
    refine ⟨fun q j hq hj => ?_, fun q hq => ?_, fun q hq => ?_, h.few⟩
    · unfold updI; split
      · exact h3
      · exact h.act q j hq hj
    · unfold updI; rw [if_neg (by omega)]; exact h.many q hq
    · unfold updI; rw [if_neg (by omega)]; exact h.again q hq
  · rw [if_neg hb]; exact h
theorem FI.on {s mm ag : Nat → Int} (h : FI s mm ag) (q k : Int) : (pkOk q k = true → (onR s q k).2 = 0 ∧ 0 ≤ (onR s q k).1 ∧ (onR s q k).1 ≤ 2 ∧
    FI (onS s q k) (updI mm q.toNat (inc (mm q.toNat))) (if (onR s q k).1 = 2 then updI ag q.toNat (inc (ag q.toNat)) else ag)) ∧ (pkOk q k = false → onR s q k = (0, 1) ∧ FI (onS s q k) mm ag) := by
  constructor
  · intro hb
    unfold onR onS
    rw [if_pos hb, if_pos hb]
    obtain ⟨n, rfl, hn, hk⟩ := pkOk_out hb
    simp only [Int.toNat_natCast]
    have hx := h.act n (kIx k) hn (kIx_lt k)
    have hy := h.many n hn
    have hz := h.again n hn
    have hf := h.few n hn
    rw [hy, hz]
    generalize s (n * 6 + kIx k) = x at *
    have upd : ∀ ag', (∀ q, q < 8 → (if q = n ∧ x = 2 ∧ ¬ 3 ≤ ag n then ag n + 1 else ag q) = ag' q) → FI (onY s (n * 6) x (mm n) (ag n)) (updI mm n (inc (mm n))) ag' := by
      intro ag' hag
      unfold onY
      by_cases e : x = 2 ∧ ¬ 3 ≤ ag n
      · rw [if_pos e]
        have hi : inc (ag n) = ag n + 1 := IntWalk.i64_in _ (by omega)
        rw [hi]
        generalize inc (mm n) = y
        refine ⟨fun q j hq hj => ?_, fun q hq => ?_, fun q hq => ?_, fun q hq => ?_⟩
        · have := h.act q j hq hj
          unfold updI; rw [if_neg (by omega), if_neg (by omega)]; exact this
        · have := h.many q hq
          unfold updI
          by_cases e2 : q = n
          · subst e2; simp
          · rw [if_neg (by omega), if_neg (by omega), if_neg e2]; exact this
        · have := h.again q hq
          rw [← hag q hq]
          unfold updI
          by_cases e2 : q = n
          · subst e2; simp [e]
          · rw [if_neg (by omega), if_neg (by omega), if_neg (fun a => e2 a.1)]; exact this
        · have := h.few q hq
          rw [← hag q hq]
          split <;> omega
      · rw [if_neg e]
        generalize inc (mm n) = y
        refine ⟨fun q j hq hj => ?_, fun q hq => ?_, fun q hq => ?_, fun q hq => ?_⟩
        · have := h.act q j hq hj
          unfold updI; rw [if_neg (by omega)]; exact this
        · have := h.many q hq
          unfold updI
          by_cases e2 : q = n
          · subst e2; simp
          · rw [if_neg (by omega), if_neg e2]; exact this
        · have := h.again q hq
          rw [← hag q hq, if_neg (fun a => e a.2)]
          unfold updI
          rw [if_neg (by omega)]; exact this
        · have := h.few q hq
          rw [← hag q hq, if_neg (fun a => e a.2)]; exact this
    unfold onX
    by_cases e : x = 2
    · rw [if_pos e]
      by_cases e3 : 3 ≤ ag n
      · rw [if_pos e3]
        refine ⟨rfl, by simp, by simp, ?_⟩
        simp only [show ¬ (1 : Int) = 2 by decide, if_false]
        exact upd _ (fun q _ => by rw [if_neg (fun a => a.2.2 e3)])
      · rw [if_neg e3]
        refine ⟨rfl, by simp, by simp, ?_⟩
        simp only [if_true]
        have hi : inc (ag n) = ag n + 1 := IntWalk.i64_in _ (by omega)
        refine upd _ (fun q _ => ?_)
        rw [hi]
        unfold updI
        by_cases e2 : q = n
        · rw [if_pos ⟨e2, e, e3⟩, if_pos e2]
        · rw [if_neg (fun a => e2 a.1), if_neg e2]
    · rw [if_neg e]
      refine ⟨rfl, by simp; omega, by simp; omega, ?_⟩
      simp only [if_neg e]
      exact upd _ (fun q _ => by rw [if_neg (fun a => e a.2.1)])
  · intro hb
    unfold onR onS
    rw [if_neg (by simp [hb]), if_neg (by simp [hb])]
    exact ⟨rfl, h⟩

/-! ### the walk -/
def B8 (w : World) (b : Nat) (s : Nat → Int) : Prop := ob w b = some (.cells (blk (vI s) 8) 72 (0, 0))
structure BF (W0 : World) (p M A b : Nat) (o : Obj) (w : World) (s mm ag : Nat → Int) : Prop where
  hm : HMon w p s
  bm : B8 w M mm
  ba : B8 w A ag
  ow : ob w b = some o
  kp : Keep [] W0 w
  n1 : M ≠ p
  n2 : A ≠ p
  n3 : b ≠ p
  p0 : W0.heap.size ≤ p
section
variable {W0 : World} {p M A b : Nat} {o : Obj} {w : World} {s mm ag : Nat → Int}
theorem BF.drew (h : BF W0 p M A b o w s mm ag) : BF W0 p M A b o w.drew s mm ag := ⟨h.hm, h.bm, h.ba, h.ow, h.kp.drew, h.n1, h.n2, h.n3, h.p0⟩
theorem BF.byP (h : BF W0 p M A b o w s mm ag) {w' : World} {s' : Nat → Int} (hM : HMon w' p s') (hk : Keep [p] w w') : BF W0 p M A b o w' s' mm ag :=
  ⟨hM, hk.kp h.bm (by simp; exact h.n1), hk.kp h.ba (by simp; exact h.n2), hk.kp h.ow (by simp; exact h.n3), h.kp.andThen hk (by simp; exact h.p0), h.n1, h.n2, h.n3, h.p0⟩
theorem BF.set (h : BF W0 p M A b o w s mm ag) (q k a : Int) : Calls Try.prog 31 #[.pointer (some ⟨p, 0, none⟩), .int .i64 q, .int .i64 k, .int .i64 a] w fun e w' => e = .returned (.int .i64 (setR q k a)) ∧ BF W0 p M A b o w' (hSetS s q k a) mm ag :=
  (hSet w p s h.hm q k a).mono fun _ _ ⟨h1, h2, h3⟩ => ⟨h1, h.byP h2 h3⟩
theorem BF.on (h : BF W0 p M A b o w s mm ag) (q k : Int) : Calls Try.prog 32 #[.pointer (some ⟨p, 0, none⟩), .int .i64 q, .int .i64 k] w fun e w' => e = .returned (.tuple #[.int .i64 (onR s q k).1, .int .i64 (onR s q k).2]) ∧ BF W0 p M A b o w' (onS s q k) mm ag :=
  (hOn w p s h.hm q k).mono fun _ _ ⟨h1, h2, h3⟩ => ⟨h1, h.byP h2 h3⟩
theorem BF.forget (h : BF W0 p M A b o w s mm ag) (q : Int) : Calls Try.prog 37 #[.pointer (some ⟨p, 0, none⟩), .int .i64 q] w fun e w' => e = .returned (.int .i64 (forgetR q)) ∧ BF W0 p M A b o w' (forgetS s q) mm ag :=
  (hForget w p s h.hm q).mono fun _ _ ⟨h1, h2, h3⟩ => ⟨h1, h.byP h2 h3⟩
theorem BF.count (h : BF W0 p M A b o w s mm ag) (q : Int) : Calls Try.prog 33 #[.pointer (some ⟨p, 0, none⟩), .int .i64 q] w fun e w' => e = .returned (.int .i64 (countR s q)) ∧ BF W0 p M A b o w' s mm ag :=
  (hCount w p s h.hm q).mono fun _ _ ⟨h1, h2⟩ => ⟨h1, h2 ▸ h⟩
end
theorem B8.store {w : World} {p : Nat} {s : Nat → Int} (h : B8 w p s) (i : Nat) (x : Int) : B8 (w.setCell ⟨p, i, none⟩ (.int .i64 x)) p (updI s i x) := by
  unfold B8; rw [← vI_upd]; exact blk_store h i _

set_option maxRecDepth 100000 in
set_option maxHeartbeats 3000000 in
theorem few23 (W0 : World) (v0 : Value) (xs : List (List Value)) (hv : RdA W0 4 v0 xs) (hx : ∀ c ∈ xs, GCells W0 [.int .i64, .int .i64, .int .i64, .int .i64] c) :
    Calls Try.prog 9 #[v0] W0 fun o w' => o = .returned (.bool true) ∧ Keep [] W0 w' := by
  obtain ⟨a0, cap0, rfl, hc1, hc2⟩ := hv.len
  unfold maxLen at hc2
  go_enter Try.func9, Try.ntmps9
  go_wp2_with fail
  refine (awake23 W0).mono ?_
  rintro _ w1 ⟨rfl, hk1⟩
  go_wp2_with fail
  refine (hNew w1).mono ?_
  rintro _ w2 ⟨rfl, hM2, hk2, hs2⟩
  have hk : Keep [] W0 w2 := hk1.trans hk2
  have hp0 : W0.heap.size ≤ w1.heap.size := hk1.size
  generalize w1.heap.size = p at *
  clear hk1 hk2
  by_cases h100 : xs.length ≤ 100
  · have hz72 : ∀ w, (zeroValue 72).run Try.prog w = .ok (.agg (blk (vI fun _ => 0) 8)) w := fun w => by kernel_rfl
    go_wp2_with fail
    obtain ⟨w0, hw0, hB0⟩ : ∃ w0, w0 = (w2.alloc (.cells (blk (vI fun _ => 0) 8) 72)).alloc (.cells (blk (vI fun _ => 0) 8) 72) ∧ HMon w0 p (h0 8) ∧ B8 w0 w2.heap.size (fun _ => 0) ∧ B8 w0 (w2.heap.size + 1) (fun _ => 0) ∧ Keep [] W0 w0 :=
      ⟨_, rfl, al (al hM2), al (al_new _ _ rfl), al_new _ _ (by simp), (hk.alloc _).alloc _⟩
    rw [← hw0]
    obtain ⟨hM0, hm0, ha0, hk0⟩ := hB0
    have hM : W0.heap.size ≤ w2.heap.size := hk.size
    clear hM2 hk hz72 hw0
    obtain ⟨A, hA⟩ : ∃ A, A = w2.heap.size + 1 := ⟨_, rfl⟩
    rw [← hA] at ha0 ⊢
    generalize w2.heap.size = M at *
    have nMA : M ≠ A := by omega
    have nMp : M ≠ p := by omega
    have nAp : A ≠ p := by omega
    have hA0 : W0.heap.size ≤ A := by omega
    have lxs := Lib.hid h100
    clear hA h100
    go_loopw [7] (fun i wr => ∃ (k : Nat) (s mm ag : Nat → Int), i = .int .i64 k ∧ k ≤ xs.length ∧ HMon wr p s ∧ B8 wr M mm ∧ B8 wr A ag ∧ FI s mm ag ∧ Keep [] W0 wr) (fun i _ => 100 - (intOf i).toNat)
    case atStart => exact ⟨0, _, _, _, rfl, by omega, hM0, hm0, ha0, FI.start, hk0⟩
    case round =>
      obtain ⟨k, s, mm, ag, rfl, hkn, hM, hm, ha, hr, hkp⟩ := hrel
      clear hM0 hm0 ha0 hk0
      by_cases hlt : k < xs.length
      · obtain ⟨b, off, cap', hveq, hb, hcells⟩ := (hv.keep hkp (by simp)).2 (by omega)
        simp only [Value.slice.injEq, true_and] at hveq
        obtain ⟨rfl, rfl⟩ := hveq
        have hxk : xs[k]? = some xs[k] := List.getElem?_eq_getElem hlt
        obtain ⟨hc3, hrange⟩ := hcells k _ hxk
        obtain ⟨_, _, hxe, ⟨d, rfl, wd⟩, _, _, rfl, ⟨q, rfl, wq⟩, _, _, rfl, ⟨a, rfl, wa⟩, _, _, rfl, ⟨kd, rfl, wk⟩, rfl⟩ := hx _ (List.getElem_mem hlt)
        rw [hxe] at hrange
        have l0 := hrange 0 _ rfl
        have l1 := hrange 1 _ rfl
        have l2 := hrange 2 _ rfl
        have l3 := hrange 3 _ rfl
        rw [Nat.add_zero] at l0
        clear hv hx hcells hxk hrange hc3 hxe wd wq wa wk
        generalize xs.length = n at *
        have lM := ob_lt hM
        have lm := ob_lt hm
        have la := ob_lt ha
        have h100 := lxs.out
        have hB : BF W0 p M A wr.heap.size (.cells #[.int .i64 d, .int .i64 q, .int .i64 a, .int .i64 kd] 62 (0, 0)) (wr.alloc (.cells #[.int .i64 d, .int .i64 q, .int .i64 a, .int .i64 kd] 62)) s mm ag :=
          ⟨al hM, al hm, al ha, al_new _ _ rfl, hkp.alloc _, nMp, nAp, by omega, hp0⟩
        have nbM : wr.heap.size ≠ M := by omega
        have nbA : wr.heap.size ≠ A := by omega
        clear hM hm ha hkp lM lm la
        by_cases hd0 : d = 0
        · subst hd0
          go_wp2_with fail
          generalize wr.heap.size = bo at *
          generalize wr.alloc (.cells #[.int .i64 0, .int .i64 q, .int .i64 a, .int .i64 kd] 62) = w4 at *
          have cB := cell_of_ob hB.ow
          refine (BF.set hB q kd a).mono ?_
          rintro _ w5 ⟨rfl, hB5⟩
          have H5 := Lib.hid hB5
          have HR2 := Lib.hid (hr.set q kd a)
          clear hB5 hB hr
          go_wp2
          go_roundw
          case rel => exact ⟨k + 1, _, _, _, by go_num, by omega, H5.out.hm, H5.out.bm, H5.out.ba, HR2.out, H5.out.kp⟩
          case measure => simp [intOf]; omega
        · have e0 : (d == 0) = false := by simp; omega
          go_wp2_with fail
          generalize wr.heap.size = bo at *
          generalize wr.alloc (.cells #[.int .i64 d, .int .i64 q, .int .i64 a, .int .i64 kd] 62) = w4 at *
          have cB := cell_of_ob hB.ow
          refine (BF.on hB q kd).mono ?_
          rintro _ w5 ⟨rfl, hB5⟩
          have cB5 := cell_of_ob hB5.ow
          have hon := hr.on q kd
          clear hB hr cB
          cases hpk : pkOk q kd with
          | false =>
            obtain ⟨o1, o2⟩ := hon.2 hpk
            rw [o1]
            have H5 := Lib.hid hB5
            have HR2 := Lib.hid o2
            clear hB5 hon o2 o1 hpk
            go_wp2
            go_roundw
            case rel => exact ⟨k + 1, _, _, _, by go_num, by omega, H5.out.hm, H5.out.bm, H5.out.ba, HR2.out, H5.out.kp⟩
            case measure => simp [intOf]; omega
          | true =>
            obtain ⟨o1, o2, o3, o4⟩ := hon.1 hpk
            obtain ⟨m, rfl, hm8, _⟩ := pkOk_out hpk
            simp only [Int.toNat_natCast] at o4
            have fM := free_of_ob hB5.bm
            have fA := free_of_ob hB5.ba
            have cM : w5.cell? ⟨M, m, none⟩ = some (.int .i64 (mm m)) := blk_cell hB5.bm hm8
            have cA : w5.cell? ⟨A, m, none⟩ = some (.int .i64 (ag m)) := blk_cell hB5.ba hm8
            have kM : Keep [M] w5 (w5.setCell ⟨M, m, none⟩ (.int .i64 (inc (mm m)))) := (Keep.refl _ _).setCell (.inl (by simp)) _ _
            have cbM := hB5.bm.store m (inc (mm m))
            have hM6 : HMon (w5.setCell ⟨M, m, none⟩ (.int .i64 (inc (mm m)))) p _ := hB5.hm.keep kM (by simp; omega)
            have hA6 : B8 (w5.setCell ⟨M, m, none⟩ (.int .i64 (inc (mm m)))) A ag := kM.kp hB5.ba (by simp; omega)
            have kp6 := hB5.kp.setCell (.inr hM) (b := M) m (.int .i64 (inc (mm m)))
            have hA7 := hA6.store m (inc (ag m))
            have kA : Keep [A] (w5.setCell ⟨M, m, none⟩ (.int .i64 (inc (mm m)))) ((w5.setCell ⟨M, m, none⟩ (.int .i64 (inc (mm m)))).setCell ⟨A, m, none⟩ (.int .i64 (inc (ag m)))) := (Keep.refl _ _).setCell (.inl (by simp)) _ _
            have hM7 := hM6.keep kA (by simp; omega)
            have cbM7 : B8 ((w5.setCell ⟨M, m, none⟩ (.int .i64 (inc (mm m)))).setCell ⟨A, m, none⟩ (.int .i64 (inc (ag m)))) M _ := kA.kp cbM (by simp; omega)
            have kp7 := kp6.setCell (.inr hA0) (b := A) m (.int .i64 (inc (ag m)))
            have H6 := Lib.hid (And.intro hM6 (And.intro cbM (And.intro hA6 kp6)))
            have H7 := Lib.hid (And.intro hM7 (And.intro cbM7 (And.intro hA7 kp7)))
            have hi1 : IntKind.i64.wrap (mm m + 1) = inc (mm m) := rfl
            have hi2 : IntKind.i64.wrap (ag m + 1) = inc (ag m) := rfl
            rw [o1]
            generalize mm m = y at *
            generalize ag m = z at *
            generalize (onR s (m : Int) kd).1 = x at *
            have nx1 : ¬ x < 0 := by omega
            have nx2 : ¬ x > 2 := by omega
            have lB := ob_lt hB5.ow
            clear hB5 hon hM6 cbM hA6 kp6 hA7 hM7 cbM7 kp7 kM kA hpk o1
            by_cases hx2 : x = 2
            · subst hx2
              rw [if_pos rfl] at o4
              have HR2 := Lib.hid o4
              clear o4
              go_wp2
              go_roundw
              case rel => exact ⟨k + 1, _, _, _, by go_num, by omega, H7.out.1, H7.out.2.1, H7.out.2.2.1, HR2.out, H7.out.2.2.2⟩
              case measure => simp [intOf]; omega
            · rw [if_neg hx2] at o4
              have HR2 := Lib.hid o4
              have ex2 : (x == 2) = false := by simpa using hx2
              clear o4
              go_wp2
              go_roundw
              case rel => exact ⟨k + 1, _, _, _, by go_num, by omega, H6.out.1, H6.out.2.1, H6.out.2.2.1, HR2.out, H6.out.2.2.2⟩
              case measure => simp [intOf]; omega
      · generalize xs.length = n at *
        clear hv hx
        go_wp2
        have hmany := hr.many
        have hfew := hr.few
        clear hr
        have hS : ∃ j : Nat, j ≤ 8 ∧ j = 0 := ⟨0, by omega, rfl⟩
        go_loopw [11] (fun i w9 => ∃ (j : Nat) (s : Nat → Int), i = .int .i64 j ∧ j ≤ 8 ∧ HMon w9 p s ∧ B8 w9 M mm ∧ B8 w9 A ag ∧ (∀ q, j ≤ q → q < 8 → s (q * 6 + 4) = mm q) ∧ Keep [] W0 w9) (fun i _ => 8 - (intOf i).toNat)
        case atStart => exact ⟨0, s, rfl, by omega, hM, hm, ha, fun q _ hq => hmany q hq, hkp⟩
        case round =>
          clear hM hm ha hkp hmany
          obtain ⟨j, s', rfl, hj, hM, hm, ha, hI, hkp⟩ := hrel
          by_cases hlt : j < 8
          · have hB : BF W0 p M A M _ wr s' mm ag := ⟨hM, hm, ha, hm, hkp, nMp, nAp, nMp, hp0⟩
            have hpj : pOk (j : Int) = true := by simp [pOk]; omega
            have hc1 : countR s' (j : Int) = mm j := by
              unfold countR; rw [if_pos hpj]; simp only [Int.toNat_natCast]; exact hI j (Nat.le_refl _) hlt
            have hf : forgetR (j : Int) = 0 := by unfold forgetR; rw [if_pos hpj]
            have hc2 : countR (forgetS s' (j : Int)) (j : Int) = 0 := by
              unfold countR forgetS; rw [if_pos hpj, if_pos hpj]; simp only [Int.toNat_natCast]; unfold updI; simp
            have HI : Hid (∀ q, j + 1 ≤ q → q < 8 → forgetS s' (j : Int) (q * 6 + 4) = mm q) := by
              intro q h1 h2
              unfold forgetS; rw [if_pos hpj]; simp only [Int.toNat_natCast]; unfold updI
              rw [if_neg (by omega), if_neg (by omega)]; exact hI q (by omega) h2
            have hz := (hfew j hlt).2
            have HF := Lib.hid hfew
            have cM : wr.drew.cell? ⟨M, j, none⟩ = some (.int .i64 (mm j)) := blk_cell hB.drew.bm hlt
            have cA : wr.drew.cell? ⟨A, j, none⟩ = some (.int .i64 (ag j)) := blk_cell hB.drew.ba hlt
            have hB' := hB.drew
            have j0 : (0 : Int) ≤ (j : Int) := by omega
            have j8 : (j : Int) < 8 := by omega
            have hz3 : (3 < ag j) = False := by simp; omega
            have hz4 : decide (3 < ag j) = false := by simp; omega
            clear hz
            clear hI hfew hpj hM hm ha hB hkp
            go_wp2_with fail
            go_region_held3 (fun w' => w'.cell? ⟨M, j, none⟩ = some (.int .i64 (mm j)) ∧ w'.cell? ⟨A, j, none⟩ = some (.int .i64 (ag j))) (go_keep)
              (first
                | (go_at_call 33; refine (BF.count (by assumption) _).mono ?_; rintro _ w5 ⟨rfl, hB5⟩; have cM5 := (show w5.cell? ⟨M, j, none⟩ = some (.int .i64 (mm j)) from blk_cell hB5.bm hlt); have cA5 := (show w5.cell? ⟨A, j, none⟩ = some (.int .i64 (ag j)) from blk_cell hB5.ba hlt))
                | (go_at_call 37; refine (BF.forget (by assumption) _).mono ?_; rintro _ w5 ⟨rfl, hB5⟩; have cM5 := (show w5.cell? ⟨M, j, none⟩ = some (.int .i64 (mm j)) from blk_cell hB5.bm hlt); have cA5 := (show w5.cell? ⟨A, j, none⟩ = some (.int .i64 (ag j)) from blk_cell hB5.ba hlt)))
            all_goals
              have H6 := Lib.hid hB5
              clear hB5 hB' hc1 hc2 hf
              go_wp2
              go_roundw
              case rel => exact ⟨j + 1, _, by go_num, by omega, H6.out.hm, H6.out.bm, H6.out.ba, HI.out, H6.out.kp⟩
              case measure => simp [intOf]; omega
          · clear hI hM hm ha hfew
            go_wp2
            go_ret
            exact ⟨rfl, hkp⟩
  · generalize xs.length = n at *
    clear hv hx hM2
    go_wp2
    go_ret
    exact ⟨rfl, hk⟩
end Go.Proofs.Ytjiienoflgolpaa
