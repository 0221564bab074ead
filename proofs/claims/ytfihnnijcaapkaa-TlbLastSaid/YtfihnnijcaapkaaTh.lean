import Derived.Test.YtfihnnijcaapkaaTg
import Derived.Deep.RegionHeld3
namespace Go.Proofs.Ytfihnnijcaapkaa
open Go.RowKit
set_option linter.unusedSimpArgs false
set_option linter.unusedVariables false
attribute [local go_sem] ob_alloc ob_drew ob_drewN ob_setCell ob_setBlock objSet_cells obMap_map obClock_map isMapI_map keyI_mk findI_nil findI_cons lookRes_some lookRes_none lookRes_some' lookRes_none' setBlock_alloc mapPut
attribute [local go_sem ↓] eql29 neq29

theorem RowE.lower {α : Type} {k : Nat} {E : Enc α k} {e : TypeId} {w : World} {B B' : Nat} {v : Value} {xs : List α} (h : RowE E e w B v xs) (hB : B' ≤ B) : RowE E e w B' v xs := by
  obtain ⟨h1, h2 | ⟨g, cap, cur, hv, hb, r⟩⟩ := h
  · exact ⟨h1, .inl h2⟩
  · exact ⟨h1, .inr ⟨g, cap, cur, hv, Nat.le_trans hB hb, r⟩⟩
/-- both buffers, and blocks of the walk's own -/
structure BT (W0 : World) (b r : Nat) (kn : List (Nat × Obj)) (w : World) (S S2 : Nat → Option Ln) : Prop where
  bt : ∃ K, BufAt w b K S ∧ r ∈ K ∧ ∀ x, x ∈ K → x < w.heap.size
  rt : RBufAt w r S2
  un : Uniq S
  un2 : Uniq S2
  ow : ∀ x, x ∈ kn → ob w x.1 = some x.2 ∧ x.1 ≠ b ∧ x.1 ≠ r
  kp : Keep [] W0 w
  br : b ≠ r
  b0 : W0.heap.size ≤ b
  r0 : W0.heap.size ≤ r
section
variable {W0 : World} {b r : Nat} {kn : List (Nat × Obj)} {w : World} {S S2 : Nat → Option Ln}
theorem BT.new (h : BT W0 b r kn w S S2) {w' : World} (hk : Keep [] w w') : BT W0 b r kn w' S S2 := by
  obtain ⟨K, h1, h2, h3⟩ := h.bt
  exact ⟨⟨K, h1.keep hk (by simp) (by simp), h2, fun x hx => Nat.lt_of_lt_of_le (h3 x hx) hk.size⟩, h.rt.keep hk (by simp), h.un, h.un2, fun x hx => ⟨hk.kp (h.ow x hx).1 (by simp), (h.ow x hx).2⟩, h.kp.trans hk, h.br, h.b0, h.r0⟩
theorem BT.drew (h : BT W0 b r kn w S S2) : BT W0 b r kn w.drew S S2 := h.new (Keep.refl _ _).drew
theorem BT.byB (h : BT W0 b r kn w S S2) {w' : World} {S' : Nat → Option Ln} (hB : ∃ K, BufAt w' b K S' ∧ r ∈ K ∧ ∀ x, x ∈ K → x < w'.heap.size) (hU : Uniq S') (hk : Keep [b] w w') : BT W0 b r kn w' S' S2 :=
  ⟨hB, h.rt.keep hk (by simp; exact h.br.symm), hU, h.un2, fun x hx => ⟨hk.kp (h.ow x hx).1 (by simp; exact (h.ow x hx).2.1), (h.ow x hx).2⟩, h.kp.andThen hk (by simp; exact h.b0), h.br, h.b0, h.r0⟩
theorem BT.byR (h : BT W0 b r kn w S S2) {w' : World} {S' : Nat → Option Ln} (hR : RBufAt w' r S') (hU : Uniq S') (hk : Keep [r] w w') : BT W0 b r kn w' S S' := by
  obtain ⟨K, h1, h2, h3⟩ := h.bt
  exact ⟨⟨K, h1.keep hk (by simp; exact h.br) (by simp; exact .inl h2), h2, fun x hx => Nat.lt_of_lt_of_le (h3 x hx) hk.size⟩, hR, h.un, hU, fun x hx => ⟨hk.kp (h.ow x hx).1 (by simp; exact (h.ow x hx).2.2), (h.ow x hx).2⟩, h.kp.andThen hk (by simp; exact h.r0), h.br, h.b0, h.r0⟩
theorem BT.put (h : BT W0 b r kn w S S2) (a p f : Int) (lw : Bool) (at' : Int) : Calls Try.prog 13 #[.pointer (some ⟨b, 0, none⟩), .agg #[.int .i64 a, .int .i64 p, .int .i64 f, .bool lw], .int .i64 at'] w fun e w' => e = .returned (.int .i64 (putR ⟨a, p, f, lw⟩ at')) ∧ BT W0 b r kn w' (putS S ⟨a, p, f, lw⟩ at') S2 := by
  obtain ⟨K, h1, h2, h3⟩ := h.bt
  refine (tPut w b K S h1 h3 ⟨a, p, f, lw⟩ at').mono ?_
  rintro e w' ⟨he, hB, hk⟩
  exact ⟨he, h.byB ⟨K, hB, h2, fun x hx => Nat.lt_of_lt_of_le (h3 x hx) hk.size⟩ (h.un.put _ _) hk⟩
theorem BT.rput (h : BT W0 b r kn w S S2) (a p f : Int) (lw : Bool) (at' : Int) : Calls Try.prog 17 #[.pointer (some ⟨r, 0, none⟩), .agg #[.int .i64 a, .int .i64 p, .int .i64 f, .bool lw], .int .i64 at'] w fun e w' => e = .returned (.int .i64 (putR ⟨a, p, f, lw⟩ at')) ∧ BT W0 b r kn w' S (putS S2 ⟨a, p, f, lw⟩ at') := by
  refine (rPut w r S2 h.rt ⟨a, p, f, lw⟩ at').mono ?_
  rintro e w' ⟨he, hB, hk⟩
  exact ⟨he, h.byR hB (h.un2.put _ _) hk⟩
theorem BT.drop' (h : BT W0 b r kn w S S2) (a p : Int) : Calls Try.prog 18 #[.pointer (some ⟨b, 0, none⟩), .int .i64 a, .int .i64 p] w fun e w' => e = .returned (.bool (decide (0 < dropN (eqK a p) S 8))) ∧ BT W0 b r kn w' (dropS (eqK a p) S) S2 := by
  obtain ⟨K, h1, h2, h3⟩ := h.bt
  refine (tDrop w b K S h1 a p).mono ?_
  rintro e w' ⟨he, hB, hk⟩
  exact ⟨he, h.byB ⟨K, hB, h2, fun x hx => Nat.lt_of_lt_of_le (h3 x hx) hk.size⟩ (h.un.drop _) hk⟩
theorem BT.rdrop (h : BT W0 b r kn w S S2) (a p : Int) : Calls Try.prog 19 #[.pointer (some ⟨r, 0, none⟩), .int .i64 a, .int .i64 p] w fun e w' => e = .returned (.bool (decide (0 < dropN (eqK a p) S2 8))) ∧ BT W0 b r kn w' S (dropS (eqK a p) S2) := by
  refine (rDrop w r S2 h.rt h.un2 a p).mono ?_
  rintro e w' ⟨he, hB, hk⟩
  exact ⟨he, h.byR hB (h.un2.drop _) hk⟩
theorem BT.flush (h : BT W0 b r kn w S S2) (a : Int) : Calls Try.prog 16 #[.pointer (some ⟨b, 0, none⟩), .int .i64 a] w fun e w' => e = .returned (.int .i64 (dropN (eqA a) S 8 : Nat)) ∧ BT W0 b r kn w' (dropS (eqA a) S) S2 := by
  obtain ⟨K, h1, h2, h3⟩ := h.bt
  refine (tFlush w b K S h1 a).mono ?_
  rintro e w' ⟨he, hB, hk⟩
  exact ⟨he, h.byB ⟨K, hB, h2, fun x hx => Nat.lt_of_lt_of_le (h3 x hx) hk.size⟩ (h.un.drop _) hk⟩
theorem BT.rflush (h : BT W0 b r kn w S S2) (a : Int) : Calls Try.prog 20 #[.pointer (some ⟨r, 0, none⟩), .int .i64 a] w fun e w' => e = .returned (.int .i64 (dropN (eqA a) S2 8 : Nat)) ∧ BT W0 b r kn w' S (dropS (eqA a) S2) := by
  refine (rFlush w r S2 h.rt a).mono ?_
  rintro e w' ⟨he, hB, hk⟩
  exact ⟨he, h.byR hB (h.un2.drop _) hk⟩
theorem BT.clear (h : BT W0 b r kn w S S2) : Calls Try.prog 21 #[.pointer (some ⟨b, 0, none⟩)] w fun e w' => e = .returned (.tuple #[]) ∧ BT W0 b r kn w' (fun _ => none) S2 := by
  obtain ⟨K, h1, h2, h3⟩ := h.bt
  refine (tClear w b K S h1).mono ?_
  rintro e w' ⟨he, hB, hk⟩
  exact ⟨he, h.byB ⟨K, hB, h2, fun x hx => Nat.lt_of_lt_of_le (h3 x hx) hk.size⟩ Uniq.none hk⟩
/-- another buffer for the reference -/
theorem BT.other (h : BT W0 b r kn w S S2) : BT W0 b w.heap.size kn (w.alloc (.cells (blk (rbV (fun _ => false) (fun _ => ln0)) 40) 45)) S (fun _ => none) := by
  obtain ⟨K, h1, h2, h3⟩ := h.bt
  have hk : Keep [] w (w.alloc (.cells (blk (rbV (fun _ => false) (fun _ => ln0)) 40) 45)) := (Keep.refl _ _).alloc _
  have lb : b < w.heap.size := by obtain ⟨P, g⟩ := h1; exact ob_lt g.hb
  refine ⟨⟨w.heap.size :: K, (h1.addK (K' := w.heap.size :: K) (fun x hx => by
      rcases List.mem_cons.1 hx with rfl | hx
      · exact .inr (Nat.le_refl _)
      · exact .inl hx)).keep hk (by simp) (by simp), by simp, fun x hx => ?_⟩, ⟨_, _, al_new _ _ rfl, fun i _ => ⟨rfl, fun l e => by cases e⟩⟩, h.un, Uniq.none, fun x hx => ?_, h.kp.trans hk, by omega, h.b0, h.kp.size⟩
  · rcases List.mem_cons.1 hx with rfl | hx
    · simp
    · have := h3 x hx; simp; omega
  · have := ob_lt (h.ow x hx).1
    exact ⟨hk.kp (h.ow x hx).1 (by simp), (h.ow x hx).2.1, by omega⟩
theorem BT.find (h : BT W0 b r kn w S S2) (a p : Int) : Calls Try.prog 14 #[.pointer (some ⟨b, 0, none⟩), .int .i64 a, .int .i64 p] w fun e w' => e = .returned (.tuple #[agL ((findR S a p).getD ln0), .bool (findR S a p).isSome]) ∧ BT W0 b r kn w' S S2 := by
  obtain ⟨K, h1, h2, h3⟩ := h.bt
  exact (tFind w b K S h1 a p).mono fun _ _ ⟨g1, g2⟩ => ⟨g1, h.new g2⟩
theorem BT.rfind (h : BT W0 b r kn w S S2) (a p : Int) : Calls Try.prog 22 #[.pointer (some ⟨r, 0, none⟩), .int .i64 a, .int .i64 p] w fun e w' => e = .returned (.tuple #[agL ((findR S2 a p).getD ln0), .bool (findR S2 a p).isSome]) ∧ BT W0 b r kn w' S S2 :=
  (rFind w r S2 h.rt a p).mono fun _ _ ⟨g1, g2⟩ => ⟨g1, h.new g2⟩
theorem BT.ob (h : BT W0 b r kn w S S2) {c : Nat} {o : Obj} (hb : (c, o) ∈ kn) : Go.Proofs.Ytfihnnijcaapkaa.ob w c = some o := (h.ow _ hb).1
theorem BT.dropk (h : BT W0 b r kn w S S2) {kn' : List (Nat × Obj)} (hkn : ∀ x, x ∈ kn' → x ∈ kn) : BT W0 b r kn' w S S2 := ⟨h.bt, h.rt, h.un, h.un2, fun x hx => h.ow x (hkn x hx), h.kp, h.br, h.b0, h.r0⟩
theorem BT.lt (h : BT W0 b r kn w S S2) : b < w.heap.size ∧ r < w.heap.size := by
  obtain ⟨K, h1, h2, h3⟩ := h.bt
  exact ⟨by obtain ⟨P, g⟩ := h1; exact ob_lt g.hb, h3 r h2⟩
theorem BT.alloc (h : BT W0 b r kn w S S2) (cs : Array Value) (t : TypeId) : BT W0 b r ((w.heap.size, .cells cs t (0, 0)) :: kn) (w.alloc (.cells cs t)) S S2 := by
  have hl := h.lt
  have h3 := h.new ((Keep.refl [] w).alloc (.cells cs t))
  exact ⟨h3.bt, h3.rt, h3.un, h3.un2, fun x hx => by
    rcases List.mem_cons.1 hx with rfl | hx
    · exact ⟨al_new _ _ rfl, by show w.heap.size ≠ b; omega, by show w.heap.size ≠ r; omega⟩
    · exact h3.ow x hx, h3.kp, h3.br, h3.b0, h3.r0⟩
theorem BT.cells {b0 : Nat} {d at' a p f : Int} {lw : Bool} (h : BT W0 b r kn w S S2) (hb : (b0, .cells #[.int .i64 d, .int .i64 at', .int .i64 a, .int .i64 p, .int .i64 f, .bool lw] 31 (0, 0)) ∈ kn) : w.cell? ⟨b0, 0, none⟩ = some (.int .i64 d) ∧ w.cell? ⟨b0, 1, none⟩ = some (.int .i64 at') ∧ w.cell? ⟨b0, 2, none⟩ = some (.int .i64 a) ∧ w.cell? ⟨b0, 3, none⟩ = some (.int .i64 p) ∧ w.cell? ⟨b0, 4, none⟩ = some (.int .i64 f) ∧ w.cell? ⟨b0, 5, none⟩ = some (.bool lw) := by
  have := cell_of_ob (h.ob hb)
  exact ⟨this 0, this 1, this 2, this 3, this 4, this 5⟩
theorem BT.line {b0 : Nat} {l : Ln} (h : BT W0 b r kn w S S2) (hb : (b0, lnO l) ∈ kn) : w.cell? ⟨b0, 0, none⟩ = some (.int .i64 l.a) ∧ w.cell? ⟨b0, 1, none⟩ = some (.int .i64 l.p) ∧ w.cell? ⟨b0, 2, none⟩ = some (.int .i64 l.f) ∧ w.cell? ⟨b0, 3, none⟩ = some (.bool l.w) := by
  have := cell_of_ob (h.ob hb)
  exact ⟨this 0, this 1, this 2, this 3⟩
end

set_option maxRecDepth 100000 in
set_option maxHeartbeats 3000000 in
theorem plays09 (W0 : World) (v0 : Value) (xs : List (List Value)) (hv : RdA W0 6 v0 xs) (hx : ∀ c ∈ xs, GCells W0 [.int .i64, .int .i64, .int .i64, .int .i64, .int .i64, .bool] c) :
    Calls Try.prog 6 #[v0] W0 fun o w' => o = .returned (.bool true) ∧ Keep [] W0 w' := by
  obtain ⟨a0, cap0, rfl, hc1, hc2⟩ := hv.len
  unfold maxLen at hc2
  have hz45 : ∀ w, (zeroValue 45).run Try.prog w = .ok (.agg (blk (rbV (fun _ => false) (fun _ => ln0)) 40)) w := fun w => by kernel_rfl
  go_enter Try.func6, Try.ntmps6
  go_wp2_with fail
  refine (awake09 W0).mono ?_
  rintro _ w1 ⟨rfl, hk1⟩
  go_wp2_with fail
  refine (tNew w1).mono ?_
  rintro _ w2 ⟨rfl, hB2, hk2, hs2⟩
  have hA0 : BT W0 w1.heap.size w2.heap.size [] (w2.alloc (.cells (blk (rbV (fun _ => false) (fun _ => ln0)) 40) 45)) (fun _ => none) (fun _ => none) := by
    have hk3 : Keep [] w2 (w2.alloc (.cells (blk (rbV (fun _ => false) (fun _ => ln0)) 40) 45)) := (Keep.refl _ _).alloc _
    refine ⟨⟨[w2.heap.size], (hB2.addK (K' := [w2.heap.size]) (by simp)).keep hk3 (by simp) (by simp), by simp, by simp⟩, ⟨_, _, al_new _ _ rfl, fun i _ => ⟨rfl, fun l e => by cases e⟩⟩, Uniq.none, Uniq.none, by simp, (hk1.trans hk2).trans hk3, by omega, hk1.size, (hk1.trans hk2).size⟩
  generalize w1.heap.size = b at *
  clear hB2 hk1 hk2 hs2
  go_wp2_with fail
  generalize w2.heap.size = r0 at *
  go_loopg [5, 6] 120 (fun gn rv i wr => ∃ (k r : Nat) (S : Nat → Option Ln), i = .int .i64 k ∧ k ≤ 120 ∧ gn = 120 - k ∧ k ≤ xs.length ∧ rv = .pointer (some ⟨r, 0, none⟩) ∧ BT W0 b r [] wr S S)
  case atStart => exact ⟨0, r0, _, rfl, by omega, by omega, by omega, rfl, hA0⟩
  case round =>
    clear hA0
    obtain ⟨k, r, S, rfl, hk120, rfl, hkn, rfl, hA⟩ := hrel
    by_cases hlt : k < xs.length
    · by_cases h120 : k < 120
      · obtain ⟨bb, off, cap', hveq, hbl, hcells⟩ := (hv.keep hA.kp (by simp)).2 (by omega)
        simp only [Value.slice.injEq, true_and] at hveq
        obtain ⟨rfl, rfl⟩ := hveq
        have hxk : xs[k]? = some xs[k] := List.getElem?_eq_getElem hlt
        obtain ⟨hc3, hrange⟩ := hcells k _ hxk
        obtain ⟨_, _, hxe, ⟨d, rfl, _⟩, _, _, rfl, ⟨at', rfl, _⟩, _, _, rfl, ⟨a, rfl, _⟩, _, _, rfl, ⟨p, rfl, _⟩, _, _, rfl, ⟨f, rfl, _⟩, _, _, rfl, ⟨lw, rfl⟩, rfl⟩ := hx _ (List.getElem_mem hlt)
        rw [hxe] at hrange
        have l0 := hrange 0 _ rfl
        have l1 := hrange 1 _ rfl
        have l2 := hrange 2 _ rfl
        have l3 := hrange 3 _ rfl
        have l4 := hrange 4 _ rfl
        have l5 := hrange 5 _ rfl
        rw [Nat.add_zero] at l0
        clear hv hx hcells hxk hrange hc3 hxe
        generalize xs.length = l at *
        have hB := hA.alloc #[.int .i64 d, .int .i64 at', .int .i64 a, .int .i64 p, .int .i64 f, .bool lw] 31
        have HB := Lib.hid hB
        clear hA hB
        go_upto_block 2 with fail
        have hB := HB.out
        generalize wr.heap.size = bo at *
        generalize wr.alloc (.cells #[.int .i64 d, .int .i64 at', .int .i64 a, .int .i64 p, .int .i64 f, .bool lw] 31) = w4 at *
        clear HB
        obtain ⟨e0, e1, e2, e3, e4, e5⟩ := hB.cells (.head _)
        go_cut [5, 8] from 20 to 133 (fun s5 s8 wx => s8 = .bool true ∧ ∃ r S, s5 = .pointer (some ⟨r, 0, none⟩) ∧ BT W0 b r [(bo, .cells #[.int .i64 d, .int .i64 at', .int .i64 a, .int .i64 p, .int .i64 f, .bool lw] 31 (0, 0))] wx S S)
        case first =>
          --[[
          clear l0 l1 l2 l3 l4 l5
          have hD := hB.drew
          have hcut : d = 0 ∨ d = 1 ∨ d = 2 ∨ d = 3 ∨ d = 4 ∨ d = 5 ∨ (d ≠ 0 ∧ d ≠ 1 ∧ d ≠ 2 ∧ d ≠ 3 ∧ d ≠ 4 ∧ d ≠ 5) := by omega
          rcases hcut with rfl | rfl | rfl | rfl | rfl | rfl | ⟨d0, d1, d2, d3, d4, d5⟩
          focus
            clear hB
            go_wp2_with fail
            go_region_held3 (fun w' => w'.cell? ⟨bo, 1, none⟩ = some (.int .i64 at') ∧ w'.cell? ⟨bo, 2, none⟩ = some (.int .i64 a) ∧ w'.cell? ⟨bo, 3, none⟩ = some (.int .i64 p) ∧ w'.cell? ⟨bo, 4, none⟩ = some (.int .i64 f) ∧ w'.cell? ⟨bo, 5, none⟩ = some (.bool lw)) (go_keep)
              (first
                | (go_at_call 13; refine (BT.put (by assumption) a p f lw at').mono ?_; rintro _ w5 ⟨rfl, hD⟩; obtain ⟨e0, e1, e2, e3, e4, e5⟩ := hD.cells (.head _))
                | (go_at_call 17; refine (BT.rput (by assumption) a p f lw at').mono ?_; rintro _ w5 ⟨rfl, hD⟩; obtain ⟨e0, e1, e2, e3, e4, e5⟩ := hD.cells (.head _)))
            all_goals
              go_wp2_with fail
              go_meet
              exact ⟨rfl, _, _, rfl, hD⟩
          focus
            clear hB
            go_wp2_with fail
            go_region_held3 (fun w' => w'.cell? ⟨bo, 1, none⟩ = some (.int .i64 at') ∧ w'.cell? ⟨bo, 2, none⟩ = some (.int .i64 a) ∧ w'.cell? ⟨bo, 3, none⟩ = some (.int .i64 p) ∧ w'.cell? ⟨bo, 4, none⟩ = some (.int .i64 f) ∧ w'.cell? ⟨bo, 5, none⟩ = some (.bool lw)) (go_keep)
              (first
                | (go_at_call 13; refine (BT.put (by assumption) a p f lw at').mono ?_; rintro _ w5 ⟨rfl, hD⟩; obtain ⟨e0, e1, e2, e3, e4, e5⟩ := hD.cells (.head _))
                | (go_at_call 17; refine (BT.rput (by assumption) a p f lw at').mono ?_; rintro _ w5 ⟨rfl, hD⟩; obtain ⟨e0, e1, e2, e3, e4, e5⟩ := hD.cells (.head _)))
            all_goals
              go_wp2_with fail
              go_meet
              exact ⟨rfl, _, _, rfl, hD⟩
          focus
            clear hB
            go_wp2_with fail
            go_region_held3 (fun w' => w'.cell? ⟨bo, 1, none⟩ = some (.int .i64 at') ∧ w'.cell? ⟨bo, 2, none⟩ = some (.int .i64 a) ∧ w'.cell? ⟨bo, 3, none⟩ = some (.int .i64 p) ∧ w'.cell? ⟨bo, 4, none⟩ = some (.int .i64 f) ∧ w'.cell? ⟨bo, 5, none⟩ = some (.bool lw)) (go_keep)
              (first
                | (go_at_call 13; refine (BT.put (by assumption) a p f lw at').mono ?_; rintro _ w5 ⟨rfl, hD⟩; obtain ⟨e0, e1, e2, e3, e4, e5⟩ := hD.cells (.head _))
                | (go_at_call 17; refine (BT.rput (by assumption) a p f lw at').mono ?_; rintro _ w5 ⟨rfl, hD⟩; obtain ⟨e0, e1, e2, e3, e4, e5⟩ := hD.cells (.head _)))
            all_goals
              go_wp2_with fail
              go_meet
              exact ⟨rfl, _, _, rfl, hD⟩
          focus
            clear hB
            go_wp2_with fail
            go_region_held3 (fun w' => w'.cell? ⟨bo, 2, none⟩ = some (.int .i64 a) ∧ w'.cell? ⟨bo, 3, none⟩ = some (.int .i64 p)) (go_keep)
              (first
                | (go_at_call 18; refine (BT.drop' (by assumption) a p).mono ?_; rintro _ w5 ⟨rfl, hD⟩; obtain ⟨e0, e1, e2, e3, e4, e5⟩ := hD.cells (.head _))
                | (go_at_call 19; refine (BT.rdrop (by assumption) a p).mono ?_; rintro _ w5 ⟨rfl, hD⟩; obtain ⟨e0, e1, e2, e3, e4, e5⟩ := hD.cells (.head _)))
            all_goals
              go_wp2_with fail
              go_meet
              exact ⟨rfl, _, _, rfl, hD⟩
          focus
            clear hB
            go_wp2_with fail
            go_region_held3 (fun w' => w'.cell? ⟨bo, 2, none⟩ = some (.int .i64 a)) (go_keep)
              (first
                | (go_at_call 16; refine (BT.flush (by assumption) a).mono ?_; rintro _ w5 ⟨rfl, hD⟩; obtain ⟨e0, e1, e2, e3, e4, e5⟩ := hD.cells (.head _))
                | (go_at_call 20; refine (BT.rflush (by assumption) a).mono ?_; rintro _ w5 ⟨rfl, hD⟩; obtain ⟨e0, e1, e2, e3, e4, e5⟩ := hD.cells (.head _)))
            all_goals
              go_wp2_with fail
              go_meet
              exact ⟨rfl, _, _, rfl, hD⟩
          focus
            go_wp2_with fail
            refine hB.clear.mono ?_
            rintro _ w5 ⟨rfl, hE⟩
            have hF := hE.other
            have HF := Lib.hid hF
            clear hE hF hB hD
            go_wp2_with fail
            go_meet
            exact ⟨rfl, _, _, rfl, HF.out⟩
          focus
            have d0' : (d == 0) = false := by simpa using d0
            have d1' : (d == 1) = false := by simpa using d1
            have d2' : (d == 2) = false := by simpa using d2
            have d3' : (d == 3) = false := by simpa using d3
            have d4' : (d == 4) = false := by simpa using d4
            have d5' : (d == 5) = false := by simpa using d5
            clear d0 d1 d2 d3 d4 d5 hD
            have HF := Lib.hid hB
            clear hB
            go_wp2_with fail
            go_meet
            exact ⟨rfl, _, _, rfl, HF.out⟩
          --]]
        case rest =>
          clear hB l0 l1 l2 l3 l4 l5 e0 e1 e2 e3 e4 e5
          obtain ⟨rfl, r', S1, rfl, hB⟩ := hcut
          obtain ⟨e0, e1, e2, e3, e4, e5⟩ := hB.cells (.head _)
          go_wp2_with fail
          refine (hB.find a p).mono ?_
          rintro _ w5 ⟨rfl, hB5⟩
          generalize hF : (findR S1 a p).getD ln0 = F
          generalize hI : (findR S1 a p).isSome = fi
          have HF := Lib.hid (And.intro hF hI)
          have hB6 := hB5.alloc #[.int .i64 F.a, .int .i64 F.p, .int .i64 F.f, .bool F.w] 29
          have HB6 := Lib.hid hB6
          obtain ⟨e0, e1, e2, e3, e4, e5⟩ := hB6.cells (.tail _ (.head _))
          simp only [agL]
          clear hB hB5 hB6 hF hI
          go_wp2_with fail
          have hB6 := HB6.out
          generalize w5.heap.size = x1 at *
          generalize w5.alloc (.cells #[.int .i64 F.a, .int .i64 F.p, .int .i64 F.f, .bool F.w] 29) = w6 at *
          refine (hB6.rfind a p).mono ?_
          rintro _ w7 ⟨rfl, hB7⟩
          rw [HF.out.1, HF.out.2]
          have hB8 := hB7.alloc #[.int .i64 F.a, .int .i64 F.p, .int .i64 F.f, .bool F.w] 29
          have HB8 := Lib.hid hB8
          simp only [agL]
          clear hB6 hB7 hB8 HB6
          go_wp2_with fail
          have hB8 := HB8.out
          generalize w7.heap.size = x2 at *
          generalize w7.alloc (.cells #[.int .i64 F.a, .int .i64 F.p, .int .i64 F.f, .bool F.w] 29) = w8 at *
          obtain ⟨K, hK1, _, _⟩ := hB8.bt
          refine (tLines w8 b K S1 hK1).mono ?_
          intro e w9 hq
          obtain ⟨v1, rfl, hR1, hk9⟩ := hq
          have hB9 := hB8.new hk9
          go_wp2_with fail
          refine (rLines w9 r' S1 hB9.rt).mono ?_
          intro e w10 hq
          obtain ⟨v2, rfl, hR2, hk10⟩ := hq
          have hB10 := hB9.new hk10
          have hR1' := hR1.keep hk10 (by simp)
          have hR2' := hR2.lower hk9.size
          go_wp2_with fail
          refine (rSame w10 _ v1 v2 _ hR1' hR2' (linesR_len S1 8)).mono ?_
          rintro _ w11 ⟨rfl, hk11⟩
          have hB11 := hB10.new hk11
          obtain ⟨p0, p1, p2, p3⟩ := hB11.line (l := F) (.head _)
          obtain ⟨q0, q1, q2, q3⟩ := hB11.line (l := F) (.tail _ (.head _))
          have HE := Lib.hid hB11
          clear hB8 hB9 hB10 hB11 hR1 hR2 hR1' hR2' hk9 hk10 hk11 hK1
          go_wp2
          go_roundg (120 - (k + 1))
          case measure => omega
          case rel => exact ⟨k + 1, r', S1, by go_num, by omega, rfl, by omega, rfl, HE.out.dropk (by simp)⟩
      · generalize xs.length = l at *
        have hkE := hA.kp
        clear hv hx hA
        go_wp2
        go_ret
        exact ⟨rfl, hkE⟩
    · generalize xs.length = l at *
      have hkE := hA.kp
      clear hv hx hA
      go_wp2
      go_ret
      exact ⟨rfl, hkE⟩
end Go.Proofs.Ytfihnnijcaapkaa
