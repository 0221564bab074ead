import Derived.Test.YtjiienoflgolpaaHd
namespace Go.Proofs.Ytjiienoflgolpaa
open Go.RowKit
set_option linter.unusedSimpArgs false
set_option linter.unusedVariables false
attribute [local go_sem] ob_alloc ob_drew ob_drewN ob_setCell ob_setBlock objSet_cells obMap_map obClock_map isMapI_map keyI_mk findI_nil findI_cons lookRes_some lookRes_none lookRes_some' lookRes_none' setBlock_alloc mapPut

/-! ### the plain law -/
structure HR (s t : Nat → Int) : Prop where
  act : ∀ q, q < 8 → s (q * 6) = t (q * 14 + 9) ∧ s (q * 6 + 1) = t (q * 14 + 10) ∧ s (q * 6 + 2) = t (q * 14 + 11) ∧ s (q * 6 + 3) = t (q * 14 + 13)
  many : ∀ q, q < 8 → s (q * 6 + 4) = t (112 + q)
  again : ∀ q, q < 8 → s (q * 6 + 5) = t (120 + q)
  few : ∀ q, q < 8 → 0 ≤ s (q * 6 + 5) ∧ s (q * 6 + 5) ≤ 3

theorem kOk_cases {k : Int} (h : kOk k = true) : k = 9 ∨ k = 10 ∨ k = 11 ∨ k = 13 := by simpa [kOk] using h

theorem HR.start : HR (h0 8) (r0 8 0) := by
  refine ⟨fun q hq => ?_, fun q hq => ?_, fun q hq => ?_, fun q hq => ?_⟩
  all_goals
    have : q = 0 ∨ q = 1 ∨ q = 2 ∨ q = 3 ∨ q = 4 ∨ q = 5 ∨ q = 6 ∨ q = 7 := by omega
    rcases this with rfl | rfl | rfl | rfl | rfl | rfl | rfl | rfl <;> decide

theorem HR.set {s t : Nat → Int} (h : HR s t) (q k a : Int) : HR (hSetS s q k a) (rSetS t q k a) := by
  unfold hSetS rSetS
  by_cases hb : (pkOk q k && aOk a) = true
  · rw [if_pos hb, if_pos hb]
    obtain ⟨n, rfl, hn, hk⟩ := pkOk_out (Bool.and_eq_true_iff.1 hb).1
    simp only [Int.toNat_natCast]
    rcases kOk_cases hk with rfl | rfl | rfl | rfl
    all_goals
      simp only [show kIx 9 = 0 from rfl, show kIx 10 = 1 from rfl, show kIx 11 = 2 from rfl, show kIx 13 = 3 from rfl, Int.reduceToNat, Nat.add_zero]
      refine ⟨fun q hq => ?_, fun q hq => ?_, fun q hq => ?_, fun q hq => ?_⟩
      · have h1 := h.act q hq
        simp only [updI]
        by_cases e : q = n
        · subst e; simp; omega
        · have := h1
          refine ⟨?_, ?_, ?_, ?_⟩ <;> (rw [if_neg (by omega), if_neg (by omega)]; omega)
      · have h1 := h.many q hq
        simp only [updI]
        rw [if_neg (by omega), if_neg (by omega)]; omega
      · have h1 := h.again q hq
        simp only [updI]
        rw [if_neg (by omega), if_neg (by omega)]; omega
      · have h1 := h.few q hq
        simp only [updI]
        rw [if_neg (by omega)]; omega
  · rw [if_neg hb, if_neg hb]; exact h

theorem HR.on {s t : Nat → Int} (h : HR s t) (q k : Int) : onR s q k = rOnR t q k ∧ HR (onS s q k) (rOnS t q k) := by
  unfold onR rOnR onS rOnS
  by_cases hb : pkOk q k = true
  · rw [if_pos hb, if_pos hb, if_pos hb, if_pos hb]
    obtain ⟨n, rfl, hn, hk⟩ := pkOk_out hb
    simp only [Int.toNat_natCast]
    have hx : s (n * 6 + kIx k) = t (n * 14 + k.toNat) := by
      have := h.act n hn
      rcases kOk_cases hk with rfl | rfl | rfl | rfl <;> simp [kIx] <;> omega
    have hy := h.many n hn
    have hz := h.again n hn
    have hf := h.few n hn
    rw [hx, hy, hz]
    generalize t (n * 14 + k.toNat) = x
    rw [hz] at hf
    constructor
    · unfold onX rOnX
      by_cases e : x = 2
      · subst e
        by_cases e3 : t (120 + n) = 3
        · simp [e3]
        · rw [if_pos rfl, if_pos rfl, if_neg (by omega), if_neg e3]
      · rw [if_neg e, if_neg e]
    · unfold onY rOnY
      by_cases e : x = 2 ∧ ¬ 3 ≤ t (120 + n)
      · rw [if_pos e, if_pos ⟨e.1, by omega⟩]
        have hi : inc (t (120 + n)) = t (120 + n) + 1 := IntWalk.i64_in _ (by omega)
        generalize inc (t (112 + n)) = y
        rw [hi]
        refine ⟨fun q hq => ?_, fun q hq => ?_, fun q hq => ?_, fun q hq => ?_⟩
        · have h1 := h.act q hq
          simp only [updI]
          refine ⟨?_, ?_, ?_, ?_⟩ <;> (rw [if_neg (by omega), if_neg (by omega), if_neg (by omega), if_neg (by omega)]; omega)
        · have h1 := h.many q hq
          simp only [updI]
          by_cases e : q = n
          · subst e; simp
          · rw [if_neg (by omega), if_neg (by omega), if_neg (by omega), if_neg (by omega)]; exact h1
        · have h1 := h.again q hq
          simp only [updI]
          by_cases e : q = n
          · subst e; simp
          · rw [if_neg (by omega), if_neg (by omega), if_neg (by omega), if_neg (by omega)]; exact h1
        · have h1 := h.few q hq
          simp only [updI]
          by_cases e : q = n
          · subst e; simp; omega
          · rw [if_neg (by omega), if_neg (by omega)]; exact h1
      · rw [if_neg e, if_neg (fun a => e ⟨a.1, by omega⟩)]
        generalize inc (t (112 + n)) = y
        refine ⟨fun q hq => ?_, fun q hq => ?_, fun q hq => ?_, fun q hq => ?_⟩
        · have h1 := h.act q hq
          simp only [updI]
          refine ⟨?_, ?_, ?_, ?_⟩ <;> (rw [if_neg (by omega), if_neg (by omega)]; omega)
        · have h1 := h.many q hq
          simp only [updI]
          by_cases e : q = n
          · subst e; simp
          · rw [if_neg (by omega), if_neg (by omega)]; exact h1
        · have h1 := h.again q hq
          simp only [updI]
          rw [if_neg (by omega), if_neg (by omega)]; exact h1
        · have h1 := h.few q hq
          simp only [updI]
          rw [if_neg (by omega)]; exact h1
  · rw [if_neg hb, if_neg hb, if_neg hb, if_neg hb]; exact ⟨rfl, h⟩

theorem HR.count {s t : Nat → Int} (h : HR s t) (q : Int) : rCountR t q = countR s q := by
  unfold countR rCountR
  by_cases hb : pOk q = true
  · rw [if_pos hb, if_pos hb]
    obtain ⟨n, rfl, hn⟩ := pOk_out hb
    have := h.many n hn
    simp only [Int.toNat_natCast]; omega
  · rw [if_neg hb, if_neg hb]

theorem HR.forget {s t : Nat → Int} (h : HR s t) (q : Int) : HR (forgetS s q) (rForgetS t q) := by
  unfold forgetS rForgetS
  by_cases hb : pOk q = true
  · rw [if_pos hb, if_pos hb]
    obtain ⟨n, rfl, hn⟩ := pOk_out hb
    simp only [Int.toNat_natCast]
    refine ⟨fun q hq => ?_, fun q hq => ?_, fun q hq => ?_, fun q hq => ?_⟩
    · have h1 := h.act q hq
      simp only [updI]
      refine ⟨?_, ?_, ?_, ?_⟩ <;> (rw [if_neg (by omega), if_neg (by omega), if_neg (by omega), if_neg (by omega)]; omega)
    · have h1 := h.many q hq
      simp only [updI]
      by_cases e : q = n
      · subst e; simp
      · rw [if_neg (by omega), if_neg (by omega), if_neg (by omega), if_neg (by omega)]; exact h1
    · have h1 := h.again q hq
      simp only [updI]
      by_cases e : q = n
      · subst e; simp
      · rw [if_neg (by omega), if_neg (by omega), if_neg (by omega), if_neg (by omega)]; exact h1
    · have h1 := h.few q hq
      simp only [updI]
      by_cases e : q = n
      · subst e; simp
      · rw [if_neg (by omega), if_neg (by omega)]; exact h1
  · rw [if_neg hb, if_neg hb]; exact h

/-! ### both monitors, and a block of the walk's own -/
structure BH (W0 : World) (p r b : Nat) (o : Obj) (w : World) (s t : Nat → Int) : Prop where
  hm : HMon w p s
  rm : RMon w r t
  ow : ob w b = some o
  kp : Keep [] W0 w
  n1 : p ≠ r
  n2 : b ≠ p
  n3 : b ≠ r
  p0 : W0.heap.size ≤ p
  r0 : W0.heap.size ≤ r

section
variable {W0 : World} {p r b : Nat} {o : Obj} {w : World} {s t : Nat → Int}
theorem BH.drew (h : BH W0 p r b o w s t) : BH W0 p r b o w.drew s t := ⟨h.hm, h.rm, h.ow, h.kp.drew, h.n1, h.n2, h.n3, h.p0, h.r0⟩
theorem BH.byP (h : BH W0 p r b o w s t) {w' : World} {s' : Nat → Int} (hM : HMon w' p s') (hk : Keep [p] w w') : BH W0 p r b o w' s' t :=
  ⟨hM, h.rm.keep hk (by simp; exact h.n1.symm), hk.kp h.ow (by simp; exact h.n2), h.kp.andThen hk (by simp; exact h.p0), h.n1, h.n2, h.n3, h.p0, h.r0⟩
theorem BH.byR (h : BH W0 p r b o w s t) {w' : World} {t' : Nat → Int} (hM : RMon w' r t') (hk : Keep [r] w w') : BH W0 p r b o w' s t' :=
  ⟨h.hm.keep hk (by simp; exact h.n1), hM, hk.kp h.ow (by simp; exact h.n3), h.kp.andThen hk (by simp; exact h.r0), h.n1, h.n2, h.n3, h.p0, h.r0⟩
theorem BH.set (h : BH W0 p r b o w s t) (q k a : Int) : Calls Try.prog 31 #[.pointer (some ⟨p, 0, none⟩), .int .i64 q, .int .i64 k, .int .i64 a] w fun e w' => e = .returned (.int .i64 (setR q k a)) ∧ BH W0 p r b o w' (hSetS s q k a) t :=
  (hSet w p s h.hm q k a).mono fun _ _ ⟨h1, h2, h3⟩ => ⟨h1, h.byP h2 h3⟩
theorem BH.rset (h : BH W0 p r b o w s t) (q k a : Int) : Calls Try.prog 35 #[.pointer (some ⟨r, 0, none⟩), .int .i64 q, .int .i64 k, .int .i64 a] w fun e w' => e = .returned (.int .i64 (setR q k a)) ∧ BH W0 p r b o w' s (rSetS t q k a) :=
  (rSet w r t h.rm q k a).mono fun _ _ ⟨h1, h2, h3⟩ => ⟨h1, h.byR h2 h3⟩
theorem BH.on (h : BH W0 p r b o w s t) (q k : Int) : Calls Try.prog 32 #[.pointer (some ⟨p, 0, none⟩), .int .i64 q, .int .i64 k] w fun e w' => e = .returned (.tuple #[.int .i64 (onR s q k).1, .int .i64 (onR s q k).2]) ∧ BH W0 p r b o w' (onS s q k) t :=
  (hOn w p s h.hm q k).mono fun _ _ ⟨h1, h2, h3⟩ => ⟨h1, h.byP h2 h3⟩
theorem BH.ron (h : BH W0 p r b o w s t) (q k : Int) : Calls Try.prog 36 #[.pointer (some ⟨r, 0, none⟩), .int .i64 q, .int .i64 k] w fun e w' => e = .returned (.tuple #[.int .i64 (rOnR t q k).1, .int .i64 (rOnR t q k).2]) ∧ BH W0 p r b o w' s (rOnS t q k) :=
  (rOn w r t h.rm q k).mono fun _ _ ⟨h1, h2, h3⟩ => ⟨h1, h.byR h2 h3⟩
theorem BH.forget (h : BH W0 p r b o w s t) (q : Int) : Calls Try.prog 37 #[.pointer (some ⟨p, 0, none⟩), .int .i64 q] w fun e w' => e = .returned (.int .i64 (forgetR q)) ∧ BH W0 p r b o w' (forgetS s q) t :=
  (hForget w p s h.hm q).mono fun _ _ ⟨h1, h2, h3⟩ => ⟨h1, h.byP h2 h3⟩
theorem BH.rforget (h : BH W0 p r b o w s t) (q : Int) : Calls Try.prog 38 #[.pointer (some ⟨r, 0, none⟩), .int .i64 q] w fun e w' => e = .returned (.int .i64 (forgetR q)) ∧ BH W0 p r b o w' s (rForgetS t q) :=
  (rForget w r t h.rm q).mono fun _ _ ⟨h1, h2, h3⟩ => ⟨h1, h.byR h2 h3⟩
theorem BH.count (h : BH W0 p r b o w s t) (q : Int) : Calls Try.prog 33 #[.pointer (some ⟨p, 0, none⟩), .int .i64 q] w fun e w' => e = .returned (.int .i64 (countR s q)) ∧ BH W0 p r b o w' s t :=
  (hCount w p s h.hm q).mono fun _ _ ⟨h1, h2⟩ => ⟨h1, h2 ▸ h⟩
theorem BH.rcount (h : BH W0 p r b o w s t) (hr : HR s t) (q : Int) : Calls Try.prog 39 #[.pointer (some ⟨r, 0, none⟩), .int .i64 q] w fun e w' => e = .returned (.int .i64 (countR s q)) ∧ BH W0 p r b o w' s t :=
  (rCount w r t h.rm q).mono fun _ _ ⟨h1, h2⟩ => ⟨by rw [h1, hr.count], h2 ▸ h⟩
end

/-! ### awake -/
set_option maxRecDepth 100000 in
set_option maxHeartbeats 2000000 in
theorem awake23 (w : World) : Calls Try.prog 29 #[] w fun o w' => o = .returned (.bool true) ∧ Keep [] w w' := by
  go_enter Try.func29, Try.ntmps29
  go_wp2_with fail
  refine (hNew w).mono ?_
  rintro _ w1 ⟨rfl, hM1, hk1, hs1⟩
  obtain ⟨p, hp⟩ : ∃ p, p = w.heap.size := ⟨_, rfl⟩
  have hpw : w.heap.size ≤ p := by omega
  rw [← hp] at hM1 ⊢
  clear hp hs1
  go_wp2_with fail
  refine (hSet w1 p _ hM1 2 10 2).mono ?_
  rintro _ w2 ⟨rfl, hM2, hk2⟩
  rw [show setR 2 10 2 = 0 by decide]
  go_wp2_with fail
  refine (hOn w2 p _ hM2 2 10).mono ?_
  rintro _ w3 ⟨rfl, hM3, hk3⟩
  rw [show onR (hSetS (h0 8) 2 10 2) 2 10 = (2, 0) by decide]
  go_wp2_with fail
  refine (hOn w3 p _ hM3 2 11).mono ?_
  rintro _ w4 ⟨rfl, hM4, hk4⟩
  rw [show onR (onS (hSetS (h0 8) 2 10 2) 2 10) 2 11 = (1, 0) by decide]
  go_wp2_with fail
  refine (hCount w4 p _ hM4 2).mono ?_
  rintro _ w5 ⟨rfl, rfl⟩
  rw [show countR (onS (onS (hSetS (h0 8) 2 10 2) 2 10) 2 11) 2 = 2 by decide]
  have hk : Keep [] w w4 := ((hk1.andThen hk2 (by simp; omega)).andThen hk3 (by simp; omega)).andThen hk4 (by simp; omega)
  clear hM1 hM2 hM3 hM4
  go_wp2
  go_ret
  exact ⟨rfl, hk⟩
end Go.Proofs.Ytjiienoflgolpaa
