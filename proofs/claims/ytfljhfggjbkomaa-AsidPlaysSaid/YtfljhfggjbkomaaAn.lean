import Derived.Test.YtfljhfggjbkomaaAm
import Derived.Deep.RegionHeld3
namespace Go.Proofs.Ytfljhfggjbkomaa
open Go.RowKit
set_option linter.unusedSimpArgs false
set_option linter.unusedVariables false
attribute [local go_sem] ob_alloc ob_drew ob_drewN ob_setCell ob_setBlock objSet_cells obMap_map obClock_map isMapI_map keyI_mk findI_nil findI_cons lookRes_some lookRes_none lookRes_some' lookRes_none' setBlock_alloc mapPut
attribute [local go_sem ↓] eql93 neq93 eql98 neq98


theorem RowT.off {w w' : World} {B : Nat} {K : List Nat} {v : Value} {ts : List (Int × Int)} (h : RowT w B v ts) (hk : Off K w w') (hv : ∀ b, v.ownBlock = some b → b ∈ K) : RowT w' B v ts := by
  obtain ⟨S, h1, h2⟩ := hk
  exact h.keep h2 (fun b hb hs => h1 b hs (hv b hb))
/-- both pools, the tags that were told, and blocks of the walk's own -/
structure AP (W0 : World) (p r : Nat) (K : List Nat) (kn : List (Nat × Obj)) (tv : Value) (ts : List (Int × Int)) (w : World) (os : List Int) (bs : List Bool) (os2 : List Int) (bs2 : List Bool) : Prop where
  bp : BothP w p r K os bs os2 bs2
  rt : RowT w W0.heap.size tv ts
  ow : ∀ x, x ∈ kn → ob w x.1 = some x.2 ∧ x.1 ∈ K
  kp : Keep [] W0 w
  k0 : ∀ x, x < W0.heap.size → x ∈ K
  k1 : ∀ x, tv.ownBlock = some x → x ∈ K
section
variable {W0 : World} {p r : Nat} {K : List Nat} {kn : List (Nat × Obj)} {tv : Value} {ts : List (Int × Int)} {w : World} {os : List Int} {bs : List Bool} {os2 : List Int} {bs2 : List Bool}
theorem AP.drew (h : AP W0 p r K kn tv ts w os bs os2 bs2) : AP W0 p r K kn tv ts w.drew os bs os2 bs2 :=
  ⟨h.bp.keep (S := []) (Keep.refl _ _).drew (by simp), h.rt.keep (S := []) (Keep.refl _ _).drew (by simp), h.ow, h.kp.drew, h.k0, h.k1⟩
theorem AP.off (h : AP W0 p r K kn tv ts w os bs os2 bs2) {w' : World} {os' : List Int} {bs' : List Bool} {os2' : List Int} {bs2' : List Bool} (hB : BothP w' p r K os' bs' os2' bs2') (hk : Off K w w') : AP W0 p r K kn tv ts w' os' bs' os2' bs2' :=
  ⟨hB, h.rt.off hk h.k1, fun x hx => ⟨hk.kp (h.ow x hx).1 (h.ow x hx).2, (h.ow x hx).2⟩, hk.base h.k0 h.kp, h.k0, h.k1⟩
theorem AP.back (h : AP W0 p r K kn tv ts w os bs os2 bs2) (a u : Int) : Calls Try.prog 52 #[.pointer (some ⟨p, 0, none⟩), .agg #[.int .i64 a, .int .i64 u]] w fun e w' => e = .returned (.int .i64 (backR os bs (a, u))) ∧ AP W0 p r K kn tv ts w' os (backB os bs (a, u)) os2 bs2 :=
  (h.bp.back (a, u)).mono fun _ _ ⟨h1, h2, h3⟩ => ⟨h1, h.off h2 h3⟩
theorem AP.rback (h : AP W0 p r K kn tv ts w os bs os2 bs2) (a u : Int) : Calls Try.prog 53 #[.pointer (some ⟨r, 0, none⟩), .agg #[.int .i64 a, .int .i64 u]] w fun e w' => e = .returned (.int .i64 (backR os2 bs2 (a, u))) ∧ AP W0 p r K kn tv ts w' os bs os2 (backB os2 bs2 (a, u)) :=
  (h.bp.rback (a, u)).mono fun _ _ ⟨h1, h2, h3⟩ => ⟨h1, h.off h2 h3⟩
theorem AP.lives (h : AP W0 p r K kn tv ts w os bs os2 bs2) (a u : Int) : Calls Try.prog 56 #[.pointer (some ⟨p, 0, none⟩), .agg #[.int .i64 a, .int .i64 u]] w fun e w' => e = .returned (.bool (livesB os bs a u)) ∧ AP W0 p r K kn tv ts w' os bs os2 bs2 :=
  (h.bp.lives (a, u)).mono fun _ _ ⟨h1, h2, h3⟩ => ⟨h1, h.off h2 h3⟩
theorem AP.rlives (h : AP W0 p r K kn tv ts w os bs os2 bs2) (a u : Int) : Calls Try.prog 57 #[.pointer (some ⟨r, 0, none⟩), .agg #[.int .i64 a, .int .i64 u]] w fun e w' => e = .returned (.bool (livesB os2 bs2 a u)) ∧ AP W0 p r K kn tv ts w' os bs os2 bs2 :=
  (h.bp.rlives (a, u)).mono fun _ _ ⟨h1, h2, h3⟩ => ⟨h1, h.off h2 h3⟩
theorem AP.left (h : AP W0 p r K kn tv ts w os bs os2 bs2) : Calls Try.prog 54 #[.pointer (some ⟨p, 0, none⟩)] w fun e w' => e = .returned (.int .i64 (bs.count false : Nat)) ∧ AP W0 p r K kn tv ts w' os bs os2 bs2 :=
  h.bp.left.mono fun _ _ ⟨h1, h2, h3⟩ => ⟨h1, h.off h2 h3⟩
theorem AP.rleft (h : AP W0 p r K kn tv ts w os bs os2 bs2) : Calls Try.prog 55 #[.pointer (some ⟨r, 0, none⟩)] w fun e w' => e = .returned (.int .i64 (bs2.count false : Nat)) ∧ AP W0 p r K kn tv ts w' os bs os2 bs2 :=
  h.bp.rleft.mono fun _ _ ⟨h1, h2, h3⟩ => ⟨h1, h.off h2 h3⟩
theorem AP.take (h : AP W0 p r K kn tv ts w os bs os2 bs2) : Calls Try.prog 50 #[.pointer (some ⟨p, 0, none⟩)] w fun e w' => e = .returned (.tuple #[.agg #[.int .i64 (takeR os bs).1.1, .int .i64 (takeR os bs).1.2], .int .i64 (takeR os bs).2]) ∧ AP W0 p r K kn tv ts w' (takeO os bs) (takeB os bs) os2 bs2 :=
  h.bp.take.mono fun _ _ ⟨h1, h2, h3⟩ => ⟨h1, h.off h2 h3⟩
theorem AP.rtake (h : AP W0 p r K kn tv ts w os bs os2 bs2) : Calls Try.prog 51 #[.pointer (some ⟨r, 0, none⟩)] w fun e w' => e = .returned (.tuple #[.agg #[.int .i64 (takeR os2 bs2).1.1, .int .i64 (takeR os2 bs2).1.2], .int .i64 (takeR os2 bs2).2]) ∧ AP W0 p r K kn tv ts w' os bs (takeO os2 bs2) (takeB os2 bs2) :=
  h.bp.rtake.mono fun _ _ ⟨h1, h2, h3⟩ => ⟨h1, h.off h2 h3⟩
theorem AP.ob (h : AP W0 p r K kn tv ts w os bs os2 bs2) {b : Nat} {o : Obj} (hb : (b, o) ∈ kn) : Go.Proofs.Ytfljhfggjbkomaa.ob w b = some o := (h.ow _ hb).1
theorem AP.cells {b : Nat} {a u : Int} {t : TypeId} (h : AP W0 p r K kn tv ts w os bs os2 bs2) (hb : (b, .cells #[.int .i64 a, .int .i64 u] t (0, 0)) ∈ kn) : w.cell? ⟨b, 0, none⟩ = some (.int .i64 a) ∧ w.cell? ⟨b, 1, none⟩ = some (.int .i64 u) := by
  have := cell_of_ob (h.ob hb)
  exact ⟨this 0, this 1⟩
/-- a new block -/
theorem AP.alloc (h : AP W0 p r K kn tv ts w os bs os2 bs2) (cs : Array Value) (t : TypeId) : AP W0 p r (K ++ [w.heap.size]) ((w.heap.size, .cells cs t (0, 0)) :: kn) tv ts (w.alloc (.cells cs t)) os bs os2 bs2 :=
  ⟨(h.bp.addK (K' := K ++ [w.heap.size]) (by intro x hx; simp at hx; rcases hx with h | rfl; exact .inl h; exact .inr (Nat.le_refl _))).keep (S := []) ((Keep.refl _ _).alloc _) (by simp), h.rt.keep (S := []) ((Keep.refl _ _).alloc _) (by simp),
    fun x hx => by
      rcases List.mem_cons.1 hx with rfl | hx
      · exact ⟨al_new _ _ rfl, by simp⟩
      · exact ⟨al (h.ow x hx).1, List.mem_append_left _ (h.ow x hx).2⟩, h.kp.alloc _,
    fun x hx => List.mem_append_left _ (h.k0 x hx), fun x hx => List.mem_append_left _ (h.k1 x hx)⟩
/-- a block of the walk's own may turn -/
theorem AP.turn (h : AP W0 p r K kn tv ts w os bs os2 bs2) {w' : World} {b : Nat} {o' : Obj} {kn' : List (Nat × Obj)} (hk : Keep [b] w w') (ho : Go.Proofs.Ytfljhfggjbkomaa.ob w' b = some o') (hK : b ∈ K) (hb : W0.heap.size ≤ b) (hn : ∀ x, tv.ownBlock = some x → x ≠ b) (hkn : ∀ x, x ∈ kn' → x ∈ kn ∧ x.1 ≠ b) :
    AP W0 p r K ((b, o') :: kn') tv ts w' os bs os2 bs2 :=
  ⟨h.bp.keep hk (by simp; exact hK), h.rt.keep hk (by simp; exact hn), fun x hx => by
      rcases List.mem_cons.1 hx with rfl | hx
      · exact ⟨ho, hK⟩
      · exact ⟨hk.kp (h.ow x (hkn x hx).1).1 (by simp; exact (hkn x hx).2), (h.ow x (hkn x hx).1).2⟩, h.kp.andThen hk (by simp; exact hb), h.k0, h.k1⟩
theorem AP.push (h : AP W0 p r K kn tv ts w os bs os2 bs2) (t : Int × Int) {c : Nat} (hc : Go.Proofs.Ytfljhfggjbkomaa.ob w c = some (.cells #[.int .i64 t.1, .int .i64 t.2] 93 (0, 0))) (hn : ts.length ≤ 1000) (hb : ∀ x, x ∈ kn → tv.ownBlock ≠ some x.1) :
    ∃ va vc w', (Builtin.append_ #[91, 91] 91 #[tv, .slice (some ⟨c, 0, none⟩) 1 1]).run Try.prog w = .ok (.slice va (ts.length + 1) vc) w' ∧ AP W0 p r (K ++ [w.heap.size]) kn (.slice va (ts.length + 1) vc) (ts ++ [t]) w' os bs os2 bs2 := by
  obtain ⟨va, vc, w', r1, r2, r3, r4⟩ := h.rt.push t hc hn h.kp.size
  refine ⟨va, vc, w', r1, ?_⟩
  have hB := (h.bp.addK (K' := K ++ [w.heap.size]) (by intro x hx; simp at hx; rcases hx with h | rfl; exact .inl h; exact .inr (Nat.le_refl _))).keep r3 (by
    intro x hx; rw [Option.mem_toList] at hx; exact List.mem_append_left _ (h.k1 x hx))
  refine ⟨hB, r2, fun x hx => ⟨r3.kp (h.ow x hx).1 (by rw [Option.mem_toList]; exact hb x hx), List.mem_append_left _ (h.ow x hx).2⟩, h.kp.andThen r3 (fun x hx => .inr (ownBlock_ge h.rt (Option.mem_toList.1 hx))), fun x hx => List.mem_append_left _ (h.k0 x hx), fun x hx => ?_⟩
  rcases r4 with r4 | r4
  · rw [r4] at hx; exact List.mem_append_left _ (h.k1 x hx)
  · rw [r4] at hx; cases hx; simp
theorem AP.drop (h : AP W0 p r K kn tv ts w os bs os2 bs2) {kn' : List (Nat × Obj)} (hkn : ∀ x, x ∈ kn' → x ∈ kn) : AP W0 p r K kn' tv ts w os bs os2 bs2 := ⟨h.bp, h.rt, fun x hx => h.ow x (hkn x hx), h.kp, h.k0, h.k1⟩
/-- forget blocks -/
theorem AP.loop (h : AP W0 p r K kn tv ts w os bs os2 bs2) : AP W0 p r (List.range W0.heap.size ++ tv.ownBlock.toList) [] tv ts w os bs os2 bs2 :=
  ⟨h.bp.addK (fun x hx => .inl (by
    simp at hx
    rcases hx with hx | hx
    · exact h.k0 x hx
    · exact h.k1 x hx)), h.rt, by simp, h.kp, by simp; exact fun x hx => .inl hx, by simp; exact fun x hx => .inr hx⟩
theorem AP.own_lt (h : AP W0 p r K kn tv ts w os bs os2 bs2) : ∀ x, tv.ownBlock = some x → x < w.heap.size := fun x hx => ownBlock_lt h.rt hx
end

set_option maxRecDepth 100000 in
set_option maxHeartbeats 3000000 in
theorem plays10 (W0 : World) (many : Int) (v0 : Value) (xs : List (List Value)) (hv : RdA W0 4 v0 xs) (hx : ∀ c ∈ xs, GCells W0 [.int .i64, .int .i64, .int .i64, .int .i64] c) :
    Calls Try.prog 9 #[.int .i64 many, v0] W0 fun o w' => o = .returned (.bool true) ∧ Keep [] W0 w' := by
  obtain ⟨a0, cap0, rfl, hc1, hc2⟩ := hv.len
  unfold maxLen at hc2
  go_enter Try.func9, Try.ntmps9
  go_wp2_with fail
  refine (awake10 W0).mono ?_
  rintro _ w1 ⟨rfl, hk1⟩
  have hs1 := hk1.size
  go_wp2_with fail
  refine (aNew_any many w1 W0.heap.size hs1).mono ?_
  rintro _ w2 ⟨hk2, h2⟩
  cases hok : okMany many with
  | false =>
    simp [hok] at h2
    subst h2
    go_wp2_with fail
    refine (rNew_any many w2).mono ?_
    rintro _ w3 ⟨hk3, h3⟩
    simp [hok] at h3
    subst h3
    have hk : Keep [] W0 w3 := (hk1.trans hk2).trans hk3
    clear hok hv hx
    go_wp2
    go_loopw [11] (fun i wr => i = .int .i64 0 ∧ wr = w3) (fun _ _ => 0)
    case atStart => exact ⟨rfl, rfl⟩
    case round =>
      obtain ⟨rfl, rfl⟩ := hrel
      generalize xs.length = n at *
      by_cases h0 : 0 < n
      · go_wp2
        go_ret
        exact ⟨rfl, hk⟩
      · go_wp2
        go_ret
        exact ⟨rfl, hk⟩
  | true =>
    simp [hok] at h2
    obtain ⟨p, rfl, hp1, hp2, hP⟩ := h2
    go_wp2_with fail
    refine (rNew_any many w2).mono ?_
    rintro _ w3 ⟨hk3, h3⟩
    simp [hok] at h3
    obtain ⟨r, rfl, hr1, hr2, hR⟩ := h3
    have hA0 : AP W0 p r (List.range W0.heap.size ++ (Value.slice none 0 0).ownBlock.toList) [] (.slice none 0 0) [] w3 _ _ _ _ :=
      ⟨BothP.start hP hR hk3 hp1 hp2 hr1 (by simp [Value.ownBlock]; omega) hk2.size, RowT.nil _ _, by simp, (hk1.trans hk2).trans hk3, fun x hx => by simp; exact .inl hx, by simp [Value.ownBlock]⟩
    clear hP hR hok hk1 hk2 hk3 hs1 hp1 hp2 hr1 hr2
    go_wp2_with fail
    go_loopw [10, 11] (fun tv i wr => ∃ (k : Nat) (os : List Int) (bs : List Bool) (ts : List (Int × Int)), i = .int .i64 k ∧ k ≤ 120 ∧ k ≤ xs.length ∧ ts.length ≤ k ∧ AP W0 p r (List.range W0.heap.size ++ tv.ownBlock.toList) [] tv ts wr os bs os bs) (fun _ i _ => 120 - (intOf i).toNat)
    case atStart => exact ⟨0, _, _, [], rfl, by omega, by omega, by simp, hA0⟩
    case round =>
      obtain ⟨k, os, bs, ts, rfl, hk120, hkn, htk, hA⟩ := hrel
      clear hA0
      have hkp := hA.kp
      by_cases hlt : k < xs.length
      · by_cases h120 : k < 120
        · obtain ⟨b, off, cap', hveq, hb, hcells⟩ := (hv.keep hkp (by simp)).2 (by omega)
          simp only [Value.slice.injEq, true_and] at hveq
          obtain ⟨rfl, rfl⟩ := hveq
          have hxk : xs[k]? = some xs[k] := List.getElem?_eq_getElem hlt
          obtain ⟨hc3, hrange⟩ := hcells k _ hxk
          obtain ⟨_, _, hxe, ⟨d, rfl, wd⟩, _, _, rfl, ⟨nn, rfl, wnn⟩, _, _, rfl, ⟨ta, rfl, wta⟩, _, _, rfl, ⟨tu, rfl, wtu⟩, rfl⟩ := hx _ (List.getElem_mem hlt)
          rw [hxe] at hrange
          have l0 := hrange 0 _ rfl
          have l1 := hrange 1 _ rfl
          have l2 := hrange 2 _ rfl
          have l3 := hrange 3 _ rfl
          rw [Nat.add_zero] at l0
          clear hv hx hcells hxk hrange hc3 hxe wd wnn wta wtu
          generalize xs.length = n at *
          obtain ⟨va, vc, rfl⟩ := owns_slice hA.rt
          have hown := hA.own_lt
          have hs0 := hkp.size
          have hA5 := (hA.alloc #[.int .i64 d, .int .i64 nn, .int .i64 ta, .int .i64 tu] 95).alloc #[.int .i64 ta, .int .i64 tu] 93
          have hsz1 : (wr.alloc (.cells #[.int .i64 d, .int .i64 nn, .int .i64 ta, .int .i64 tu] 95)).heap.size = wr.heap.size + 1 := by simp
          rw [hsz1] at hA5
          have HA := Lib.hid hA
          clear hA hkp
          by_cases hd : d = 0 ∨ d = 1
          · have hdd : (d == 2) = false := by rcases hd with rfl | rfl <;> simp
            rcases hd with rfl | rfl
            all_goals
              go_wp2_with fail
              generalize (wr.alloc (.cells #[.int .i64 _, .int .i64 nn, .int .i64 ta, .int .i64 tu] 95)).alloc (.cells #[.int .i64 ta, .int .i64 tu] 93) = w5 at *
              generalize hs : wr.heap.size = s at *
              clear hs
              refine (AP.take hA5).mono ?_
              rintro _ w6 ⟨rfl, hA6⟩
              have hA6' := hA6.alloc #[.int .i64 (takeR os bs).1.1, .int .i64 (takeR os bs).1.2] 93
              have e6 : s + 1 < w6.heap.size := ob_lt (hA6.ob (.head _))
              clear hA5 hA6
              go_wp2_with fail
              generalize w6.alloc (.cells #[.int .i64 (takeR os bs).1.1, .int .i64 (takeR os bs).1.2] 93) = w6' at *
              generalize hs6 : w6.heap.size = s6 at *
              clear hs6
              refine (AP.rtake hA6').mono ?_
              rintro _ w7 ⟨rfl, hA7⟩
              have e7 : s6 < w7.heap.size := ob_lt (hA7.ob (.head _))
              generalize hq : takeR os bs = q at *
              clear hA6' hq
              obtain ⟨⟨xa, xt⟩, xe⟩ := q
              simp only at hA7 ⊢
              have hX := hA7.cells (.head _)
              have hT := hA7.cells (.tail _ (.head _))
              have fT := free_of_ob (hA7.ob (.tail _ (.head _)))
              have n1 : s6 ≠ s + 1 := by omega
              have lT : s + 1 < w7.heap.size := by omega
              have hA8 := hA7.turn (w' := (w7.setCell ⟨s + 1, 0, none⟩ (.int .i64 xa)).setCell ⟨s + 1, 1, none⟩ (.int .i64 xt)) (b := s + 1) (o' := .cells #[.int .i64 xa, .int .i64 xt] 93 (0, 0)) (kn' := [])
                (((Keep.refl _ _).setCell (.inl (by simp)) _ _).setCell (.inl (by simp)) _ _) (st_same (st_same (hA7.ob (.tail _ (.head _))))) (by simp) (by omega) (fun x hx => by have := hown x hx; omega) (by simp)
              have hs8 : ((w7.setCell ⟨s + 1, 0, none⟩ (.int .i64 xa)).setCell ⟨s + 1, 1, none⟩ (.int .i64 xt)).heap.size = w7.heap.size := by simp
              have hA9 := (hA8.alloc #[.int .i64 xa, .int .i64 xt] 98).alloc #[.int .i64 xa, .int .i64 xt] 93
              have hs9 : (((w7.setCell ⟨s + 1, 0, none⟩ (.int .i64 xa)).setCell ⟨s + 1, 1, none⟩ (.int .i64 xt)).alloc (.cells #[.int .i64 xa, .int .i64 xt] 98)).heap.size = w7.heap.size + 1 := by simp
              rw [hs9, hs8] at hA9
              have hA9' := hA9.drop (kn' := [(s + 1, .cells #[.int .i64 xa, .int .i64 xt] 93 (0, 0))]) (by simp)
              obtain ⟨va', vc', w10, happ, hA10⟩ := hA9'.push (xa, xt) (c := w7.heap.size + 1) (hA9.ob (.head _)) (by omega) (by simp; intro hh; have := hown _ hh; omega)
              clear hA7 hA8 hA9 hA9' hs8 hs9
              go_wp2_with (at_builtin; refine wpList_append_eq rfl _ _ _ rfl rfl rfl happ ?_)
              have hD := hA10.drew
              obtain ⟨c0, c1⟩ := hD.cells (.head _)
              clear hA10
              go_wp2_with fail
              go_region_held3 (fun w' => w'.cell? ⟨s + 1, 0, none⟩ = some (.int .i64 xa) ∧ w'.cell? ⟨s + 1, 1, none⟩ = some (.int .i64 xt)) (go_keep)
                (first
                  | (go_at_call 54; refine (AP.left (by assumption)).mono ?_; rintro _ w5 ⟨rfl, hD⟩; obtain ⟨e0, e1⟩ := hD.cells (.head _))
                  | (go_at_call 55; refine (AP.rleft (by assumption)).mono ?_; rintro _ w5 ⟨rfl, hD⟩; obtain ⟨e0, e1⟩ := hD.cells (.head _))
                  | (go_at_call 56; refine (AP.lives (by assumption) xa xt).mono ?_; rintro _ w5 ⟨rfl, hD⟩; obtain ⟨e0, e1⟩ := hD.cells (.head _))
                  | (go_at_call 57; refine (AP.rlives (by assumption) xa xt).mono ?_; rintro _ w5 ⟨rfl, hD⟩; obtain ⟨e0, e1⟩ := hD.cells (.head _)))
              all_goals
                have HD := Lib.hid hD
                clear hD
                go_wp2
                go_roundw
                case rel => exact ⟨k + 1, _, _, _, by go_num, by omega, by omega, by first | omega | (have := HL.out; omega) | (simp; omega), HD.out.loop⟩
                case measure => simp [intOf]; omega
          · have hd0 : (d == 0) = false := by simp; omega
            have hd1 : (d == 1) = false := by simp; omega
            have hc5 := hA5.cells (.head _)
            clear hd
            by_cases hg : d = 2 ∧ 0 < ts.length ∧ 0 ≤ nn
            · obtain ⟨rfl, htl, hn0⟩ := hg
              obtain ⟨m, rfl⟩ := Int.eq_ofNat_of_zero_le hn0
              have hmod : m % ts.length < ts.length := Nat.mod_lt _ htl
              obtain ⟨⟨xa, xt⟩, hti⟩ : ∃ t, ts[m % ts.length]? = some t := ⟨_, List.getElem?_eq_getElem hmod⟩
              obtain ⟨g, cap2, hveq, hg1, hg2, hg3, hg4, hg5, hg6⟩ := hA5.rt.get hti
              simp only [Value.slice.injEq, true_and] at hveq
              obtain ⟨rfl, rfl⟩ := hveq
              have hgs := hown g rfl
              have t1 : ((m : Int)).tmod (ts.length : Int) = ((m % ts.length : Nat) : Int) := by rw [Int.tmod_eq_emod_of_nonneg (by omega)]; rfl
              have hA6 := (HA.out.alloc #[.int .i64 2, .int .i64 m, .int .i64 ta, .int .i64 tu] 95).alloc #[.int .i64 xa, .int .i64 xt] 93
              rw [hsz1] at hA6
              have hne : g ≠ wr.heap.size + 1 := by omega
              have hne2 : g ≠ wr.heap.size := by omega
              clear hA5
              generalize hq : m % ts.length = q at *
              have d2 : (ts.length : Int) ≠ 0 := by omega
              have d3 : ((ts.length : Int) == 0) = false := beq_eq_false_iff_ne.2 d2
              have d4 : ((ts.length : Int) = 0) = False := eq_false d2
              clear hq
              generalize hl : ts.length = tl at *
              have HL := Lib.hid hl
              clear hl
              have hti2 := Lib.hid hti
              clear hti
              go_wp2_with fail
              generalize (wr.alloc (.cells #[.int .i64 2, .int .i64 m, .int .i64 ta, .int .i64 tu] 95)).alloc (.cells #[.int .i64 xa, .int .i64 xt] 93) = w6 at *
              generalize hs : wr.heap.size = s at *
              clear hs
              have hD := hA6.drew
              obtain ⟨c0, c1⟩ := hD.cells (.head _)
              clear hA6
              go_wp2_with fail
              go_region_held3 (fun w' => w'.cell? ⟨s + 1, 0, none⟩ = some (.int .i64 xa) ∧ w'.cell? ⟨s + 1, 1, none⟩ = some (.int .i64 xt)) (go_keep)
                (first
                  | (go_at_call 52; refine (AP.back (by assumption) xa xt).mono ?_; rintro _ w5 ⟨rfl, hA10⟩; obtain ⟨e0, e1⟩ := hA10.cells (.head _))
                  | (go_at_call 53; refine (AP.rback (by assumption) xa xt).mono ?_; rintro _ w5 ⟨rfl, hA10⟩; obtain ⟨e0, e1⟩ := hA10.cells (.head _)))
              all_goals
                have hD := hA10.drew
                obtain ⟨c0, c1⟩ := hD.cells (.head _)
                clear hA10
                go_wp2_with fail
                go_region_held3 (fun w' => w'.cell? ⟨s + 1, 0, none⟩ = some (.int .i64 xa) ∧ w'.cell? ⟨s + 1, 1, none⟩ = some (.int .i64 xt)) (go_keep)
                  (first
                    | (go_at_call 54; refine (AP.left (by assumption)).mono ?_; rintro _ w5 ⟨rfl, hD⟩; obtain ⟨e0, e1⟩ := hD.cells (.head _))
                    | (go_at_call 55; refine (AP.rleft (by assumption)).mono ?_; rintro _ w5 ⟨rfl, hD⟩; obtain ⟨e0, e1⟩ := hD.cells (.head _))
                    | (go_at_call 56; refine (AP.lives (by assumption) xa xt).mono ?_; rintro _ w5 ⟨rfl, hD⟩; obtain ⟨e0, e1⟩ := hD.cells (.head _))
                    | (go_at_call 57; refine (AP.rlives (by assumption) xa xt).mono ?_; rintro _ w5 ⟨rfl, hD⟩; obtain ⟨e0, e1⟩ := hD.cells (.head _)))
                all_goals
                  have HD := Lib.hid hD
                  clear hD
                  go_wp2
                  go_roundw
                  case rel => exact ⟨k + 1, _, _, _, by go_num, by omega, by omega, by first | omega | (have := HL.out; omega) | (simp; omega), HD.out.loop⟩
                  case measure => simp [intOf]; omega
            · have hcond : (d == 2) = false ∨ (d = 2 ∧ ts = []) ∨ (d = 2 ∧ 0 < ts.length ∧ nn < 0) := by
                by_cases e : d = 2
                · by_cases e2 : 0 < ts.length
                  · exact .inr (.inr ⟨e, e2, by omega⟩)
                  · exact .inr (.inl ⟨e, List.eq_nil_of_length_eq_zero (by omega)⟩)
                · exact .inl (by simpa using e)
              clear hg
              have hA6 := hA5
              clear hA5 HA hc5
              rcases hcond with h | ⟨rfl, rfl⟩ | ⟨rfl, h, h2⟩
              all_goals
                go_wp2_with fail
                generalize (wr.alloc (.cells #[.int .i64 _, .int .i64 nn, .int .i64 _, .int .i64 _] 95)).alloc (.cells #[.int .i64 _, .int .i64 _] 93) = w6 at *
                generalize hs : wr.heap.size = s at *
                clear hs
                have hD := hA6.drew
                obtain ⟨c0, c1⟩ := hD.cells (.head _)
                clear hA6
                go_wp2_with fail
                go_region_held3 (fun w' => w'.cell? ⟨s + 1, 0, none⟩ = some (.int .i64 ta) ∧ w'.cell? ⟨s + 1, 1, none⟩ = some (.int .i64 tu)) (go_keep)
                  (first
                    | (go_at_call 52; refine (AP.back (by assumption) ta tu).mono ?_; rintro _ w5 ⟨rfl, hA10⟩; obtain ⟨e0, e1⟩ := hA10.cells (.head _))
                    | (go_at_call 53; refine (AP.rback (by assumption) ta tu).mono ?_; rintro _ w5 ⟨rfl, hA10⟩; obtain ⟨e0, e1⟩ := hA10.cells (.head _)))
                all_goals
                  have hD := hA10.drew
                  obtain ⟨c0, c1⟩ := hD.cells (.head _)
                  clear hA10
                  go_wp2_with fail
                  go_region_held3 (fun w' => w'.cell? ⟨s + 1, 0, none⟩ = some (.int .i64 ta) ∧ w'.cell? ⟨s + 1, 1, none⟩ = some (.int .i64 tu)) (go_keep)
                    (first
                      | (go_at_call 54; refine (AP.left (by assumption)).mono ?_; rintro _ w5 ⟨rfl, hD⟩; obtain ⟨e0, e1⟩ := hD.cells (.head _))
                      | (go_at_call 55; refine (AP.rleft (by assumption)).mono ?_; rintro _ w5 ⟨rfl, hD⟩; obtain ⟨e0, e1⟩ := hD.cells (.head _))
                      | (go_at_call 56; refine (AP.lives (by assumption) ta tu).mono ?_; rintro _ w5 ⟨rfl, hD⟩; obtain ⟨e0, e1⟩ := hD.cells (.head _))
                      | (go_at_call 57; refine (AP.rlives (by assumption) ta tu).mono ?_; rintro _ w5 ⟨rfl, hD⟩; obtain ⟨e0, e1⟩ := hD.cells (.head _)))
                  all_goals
                    have HD := Lib.hid hD
                    clear hD
                    go_wp2
                    go_roundw
                    case rel => exact ⟨k + 1, _, _, _, by go_num, by omega, by omega, by first | omega | (have := HL.out; omega) | (simp; omega), HD.out.loop⟩
                    case measure => simp [intOf]; omega
        · generalize xs.length = n at *
          clear hv hx hA
          go_wp2
          go_ret
          exact ⟨rfl, hkp⟩
      · generalize xs.length = n at *
        clear hv hx hA
        go_wp2
        go_ret
        exact ⟨rfl, hkp⟩
end Go.Proofs.Ytfljhfggjbkomaa
