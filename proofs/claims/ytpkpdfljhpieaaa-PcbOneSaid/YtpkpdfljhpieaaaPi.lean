import Derived.Test.YtpkpdfljhpieaaaPh
import Derived.Deep.RegionHeld3
import Derived.Deep.LoopGhost
import Derived.Deep.CutRange
import Derived.Deep.CutBlock
namespace Go.Proofs.Ytpkpdfljhpieaaa
open Go.RowKit
set_option linter.unusedSimpArgs false
set_option linter.unusedVariables false
attribute [local go_sem] ob_alloc ob_drew ob_drewN ob_setCell ob_setBlock objSet_cells obMap_map obClock_map isMapI_map keyI_mk findI_nil findI_cons lookRes_some lookRes_none lookRes_some' lookRes_none' setBlock_alloc mapPut
attribute [local go_sem ↓] eql47 neq47

/-- an op's cells -/
theorem op52 {w : World} {c : List Value} (h : GCells w [.int .i64, .int .i64, .bool, .int .u64, .int .u64, .int .u64, .int .u64, .int .u64, .int .u64, .int .u64, .int .u64, .int .u64] c) :
    ∃ (q a : Int) (sv : Bool) (f : Nat → Int), c = [.int .i64 q, .int .i64 a, .bool sv, .int .u64 (f 0), .int .u64 (f 1), .int .u64 (f 2), .int .u64 (f 3), .int .u64 (f 4), .int .u64 (f 5), .int .u64 (f 6), .int .u64 (f 7), .int .u64 (f 8)] := by
  obtain ⟨_, _, rfl, ⟨q, rfl, _⟩, _, _, rfl, ⟨a, rfl, _⟩, _, _, rfl, ⟨sv, rfl⟩, _, _, rfl, ⟨x0, rfl, _⟩, _, _, rfl, ⟨x1, rfl, _⟩, _, _, rfl, ⟨x2, rfl, _⟩, _, _, rfl, ⟨x3, rfl, _⟩, _, _, rfl, ⟨x4, rfl, _⟩, _, _, rfl, ⟨x5, rfl, _⟩, _, _, rfl, ⟨x6, rfl, _⟩, _, _, rfl, ⟨x7, rfl, _⟩, _, _, rfl, ⟨x8, rfl, _⟩, rfl⟩ := h
  exact ⟨q, a, sv, fun i => [x0, x1, x2, x3, x4, x5, x6, x7, x8].getD i 0, rfl⟩

theorem nx_nn (s a : Int) : 0 ≤ (nx s a).1 := by
  unfold nx
  repeat' split
  all_goals simp
theorem doS_nn {S : Nat → Int} (h : ∀ n, n < 8 → 0 ≤ S n) (q a : Int) : ∀ n, n < 8 → 0 ≤ doS S q a n := by
  intro n hn
  unfold doS
  split
  · split
    · unfold updW
      split
      · exact nx_nn _ _
      · exact h n hn
    · exact h n hn
  · exact h n hn

/-- both, and blocks of the walk's own -/
structure BP (W0 : World) (p r : Nat) (kn : List (Nat × Obj)) (w : World) (S : Nat → Int) (R : Nat → Nat → Int) (S2 : Nat → Int) (R2 : Nat → Nat → Int) : Prop where
  bb : BAt w p S R
  rr : RAt w r S2 R2
  nn : ∀ n, n < 8 → 0 ≤ S2 n
  ow : ∀ x, x ∈ kn → ob w x.1 = some x.2 ∧ x.1 ≠ p ∧ x.1 ≠ r
  kp : Keep [] W0 w
  pr : p ≠ r
  p0 : W0.heap.size ≤ p
  r0 : W0.heap.size ≤ r
section
variable {W0 : World} {p r : Nat} {kn : List (Nat × Obj)} {w : World} {S : Nat → Int} {R : Nat → Nat → Int} {S2 : Nat → Int} {R2 : Nat → Nat → Int}
theorem BP.new (h : BP W0 p r kn w S R S2 R2) {w' : World} (hk : Keep [] w w') : BP W0 p r kn w' S R S2 R2 := ⟨h.bb.keep hk (by simp), h.rr.keep hk (by simp), h.nn, fun x hx => ⟨hk.kp (h.ow x hx).1 (by simp), (h.ow x hx).2⟩, h.kp.trans hk, h.pr, h.p0, h.r0⟩
theorem BP.drew (h : BP W0 p r kn w S R S2 R2) : BP W0 p r kn w.drew S R S2 R2 := h.new (Keep.refl _ _).drew
theorem BP.byP (h : BP W0 p r kn w S R S2 R2) {w' : World} {S' : Nat → Int} {R' : Nat → Nat → Int} (hB : BAt w' p S' R') (hk : Keep [p] w w') : BP W0 p r kn w' S' R' S2 R2 :=
  ⟨hB, h.rr.keep hk (by simp; exact h.pr.symm), h.nn, fun x hx => ⟨hk.kp (h.ow x hx).1 (by simp; exact (h.ow x hx).2.1), (h.ow x hx).2⟩, h.kp.andThen hk (by simp; exact h.p0), h.pr, h.p0, h.r0⟩
theorem BP.byR (h : BP W0 p r kn w S R S2 R2) {w' : World} {S' : Nat → Int} {R' : Nat → Nat → Int} (hB : RAt w' r S' R') (hk : Keep [r] w w') (hn : ∀ n, n < 8 → 0 ≤ S' n) : BP W0 p r kn w' S R S' R' :=
  ⟨h.bb.keep hk (by simp; exact h.pr), hB, hn, fun x hx => ⟨hk.kp (h.ow x hx).1 (by simp; exact (h.ow x hx).2.2), (h.ow x hx).2⟩, h.kp.andThen hk (by simp; exact h.r0), h.pr, h.p0, h.r0⟩
theorem BP.save (h : BP W0 p r kn w S R S2 R2) (q : Int) (f : Nat → Int) : Calls Try.prog 28 #[.pointer (some ⟨p, 0, none⟩), .int .i64 q, .agg #[.int .u64 (f 0), .int .u64 (f 1), .int .u64 (f 2), .int .u64 (f 3), .int .u64 (f 4), .int .u64 (f 5), .int .u64 (f 6), .int .u64 (f 7), .int .u64 (f 8)]] w fun e w' => e = .returned (.int .i64 (saveR S q)) ∧ BP W0 p r kn w' S (saveS S R q f) S2 R2 :=
  (pSave w p S R h.bb q f).mono fun _ _ ⟨h1, h2, h3⟩ => ⟨h1, h.byP h2 h3⟩
theorem BP.rsave (h : BP W0 p r kn w S R S2 R2) (q : Int) (f : Nat → Int) : Calls Try.prog 29 #[.pointer (some ⟨r, 0, none⟩), .int .i64 q, .agg #[.int .u64 (f 0), .int .u64 (f 1), .int .u64 (f 2), .int .u64 (f 3), .int .u64 (f 4), .int .u64 (f 5), .int .u64 (f 6), .int .u64 (f 7), .int .u64 (f 8)]] w fun e w' => e = .returned (.int .i64 (saveR S2 q)) ∧ BP W0 p r kn w' S R S2 (saveS S2 R2 q f) :=
  (rSave w r S2 R2 h.rr h.nn q f).mono fun _ _ ⟨h1, h2, h3⟩ => ⟨h1, h.byR h2 h3 h.nn⟩
theorem BP.do (h : BP W0 p r kn w S R S2 R2) (q a : Int) : Calls Try.prog 30 #[.pointer (some ⟨p, 0, none⟩), .int .i64 q, .int .i64 a] w fun e w' => e = .returned (.int .i64 (doR S q a)) ∧ BP W0 p r kn w' (doS S q a) (doG S R q a) S2 R2 :=
  (pDo w p S R h.bb q a).mono fun _ _ ⟨h1, h2, h3⟩ => ⟨h1, h.byP h2 h3⟩
theorem BP.rdo (h : BP W0 p r kn w S R S2 R2) (q a : Int) : Calls Try.prog 31 #[.pointer (some ⟨r, 0, none⟩), .int .i64 q, .int .i64 a] w fun e w' => e = .returned (.int .i64 (doR S2 q a)) ∧ BP W0 p r kn w' S R (doS S2 q a) (doG S2 R2 q a) :=
  (rDo w r S2 R2 h.rr q a).mono fun _ _ ⟨h1, h2, h3⟩ => ⟨h1, h.byR h2 h3 (doS_nn h.nn q a)⟩
theorem BP.regs (h : BP W0 p r kn w S R S2 R2) (q : Int) : Calls Try.prog 32 #[.pointer (some ⟨p, 0, none⟩), .int .i64 q] w fun e w' => e = .returned (.tuple #[.agg (blk (vU (regF R q)) 9), .int .i64 (regE q)]) ∧ BP W0 p r kn w' S R S2 R2 :=
  (pRegs w p S R h.bb q).mono fun _ _ ⟨h1, h2⟩ => ⟨h1, h.new h2⟩
theorem BP.rregs (h : BP W0 p r kn w S R S2 R2) (q : Int) : Calls Try.prog 33 #[.pointer (some ⟨r, 0, none⟩), .int .i64 q] w fun e w' => e = .returned (.tuple #[.agg (blk (vU (regF R2 q)) 9), .int .i64 (regE q)]) ∧ BP W0 p r kn w' S R S2 R2 :=
  (rRegs w r S2 R2 h.rr q).mono fun _ _ ⟨h1, h2⟩ => ⟨h1, h.new h2⟩
theorem BP.state (h : BP W0 p r kn w S R S2 R2) (q : Int) : Calls Try.prog 34 #[.pointer (some ⟨p, 0, none⟩), .int .i64 q] w fun e w' => e = .returned (.int .i64 (stR S q)) ∧ BP W0 p r kn w' S R S2 R2 :=
  (pState w p S R h.bb q).mono fun _ _ ⟨h1, h2⟩ => ⟨h1, h2 ▸ h⟩
theorem BP.rstate (h : BP W0 p r kn w S R S2 R2) (q : Int) : Calls Try.prog 35 #[.pointer (some ⟨r, 0, none⟩), .int .i64 q] w fun e w' => e = .returned (.int .i64 (stR S2 q)) ∧ BP W0 p r kn w' S R S2 R2 :=
  (rState w r S2 R2 h.rr q).mono fun _ _ ⟨h1, h2⟩ => ⟨h1, h2 ▸ h⟩
theorem BP.many (h : BP W0 p r kn w S R S2 R2) (q : Int) : Calls Try.prog 36 #[.pointer (some ⟨p, 0, none⟩), .int .i64 q] w fun e w' => e = .returned (.int .i64 (cnt S q 8)) ∧ BP W0 p r kn w' S R S2 R2 :=
  (pMany w p S R h.bb q).mono fun _ _ ⟨h1, h2⟩ => ⟨h1, h.new h2⟩
theorem BP.rmany (h : BP W0 p r kn w S R S2 R2) (q : Int) : Calls Try.prog 37 #[.pointer (some ⟨r, 0, none⟩), .int .i64 q] w fun e w' => e = .returned (.int .i64 (cnt S2 q 8)) ∧ BP W0 p r kn w' S R S2 R2 :=
  (rMany w r S2 R2 h.rr q).mono fun _ _ ⟨h1, h2⟩ => ⟨h1, h2 ▸ h⟩
theorem BP.ob (h : BP W0 p r kn w S R S2 R2) {b : Nat} {o : Obj} (hb : (b, o) ∈ kn) : Go.Proofs.Ytpkpdfljhpieaaa.ob w b = some o := (h.ow _ hb).1
theorem BP.drop (h : BP W0 p r kn w S R S2 R2) {kn' : List (Nat × Obj)} (hkn : ∀ x, x ∈ kn' → x ∈ kn) : BP W0 p r kn' w S R S2 R2 := ⟨h.bb, h.rr, h.nn, fun x hx => h.ow x (hkn x hx), h.kp, h.pr, h.p0, h.r0⟩
theorem BP.add (h : BP W0 p r kn w S R S2 R2) {b : Nat} {o : Obj} (hb : Go.Proofs.Ytpkpdfljhpieaaa.ob w b = some o) (h1 : b ≠ p) (h2 : b ≠ r) : BP W0 p r ((b, o) :: kn) w S R S2 R2 :=
  ⟨h.bb, h.rr, h.nn, fun x hx => by
    rcases List.mem_cons.1 hx with rfl | hx
    · exact ⟨hb, h1, h2⟩
    · exact h.ow x hx, h.kp, h.pr, h.p0, h.r0⟩
/-- a new variable of registers, written -/
theorem BP.put (h : BP W0 p r kn w S R S2 R2) (F : Nat → Int) : ∃ b w2 w3, b = w.heap.size ∧ w2 = w.alloc (.cells #[.int .u64 0, .int .u64 0, .int .u64 0, .int .u64 0, .int .u64 0, .int .u64 0, .int .u64 0, .int .u64 0, .int .u64 0] 47) ∧ w2.there b 0 9 ∧ w3 = w2.setCells b 0 (blk (vU F) 9).toList ∧ BP W0 p r ((b, .cells (blk (vU F) 9) 47 (0, 0)) :: kn) w3 S R S2 R2 := by
  obtain ⟨w2, w3, e2, ht, e3, ho, hk⟩ := put47 w F
  have l1 := ob_lt h.bb
  have l2 := ob_lt h.rr
  exact ⟨_, w2, w3, rfl, e2, ht, e3, (h.new hk).add ho (by omega) (by omega)⟩
theorem BP.one (h : BP W0 p r kn w S R S R) : ∃ S R, BP W0 p r kn w S R S R := ⟨_, _, h⟩
/-- the op's cells -/
theorem BP.cells {b : Nat} {q a : Int} {sv : Bool} {f : Nat → Int} (h : BP W0 p r kn w S R S2 R2) (hb : (b, .cells #[.int .i64 q, .int .i64 a, .bool sv, .int .u64 (f 0), .int .u64 (f 1), .int .u64 (f 2), .int .u64 (f 3), .int .u64 (f 4), .int .u64 (f 5), .int .u64 (f 6), .int .u64 (f 7), .int .u64 (f 8)] 52 (0, 0)) ∈ kn) :
    w.cell? ⟨b, 0, none⟩ = some (.int .i64 q) ∧ w.cell? ⟨b, 1, none⟩ = some (.int .i64 a) ∧ w.cell? ⟨b, 2, none⟩ = some (.bool sv) ∧ w.cell? ⟨b, 3, none⟩ = some (.int .u64 (f 0)) ∧ w.cell? ⟨b, 4, none⟩ = some (.int .u64 (f 1)) ∧ w.cell? ⟨b, 5, none⟩ = some (.int .u64 (f 2)) ∧ w.cell? ⟨b, 6, none⟩ = some (.int .u64 (f 3)) ∧ w.cell? ⟨b, 7, none⟩ = some (.int .u64 (f 4)) ∧ w.cell? ⟨b, 8, none⟩ = some (.int .u64 (f 5)) ∧ w.cell? ⟨b, 9, none⟩ = some (.int .u64 (f 6)) ∧ w.cell? ⟨b, 10, none⟩ = some (.int .u64 (f 7)) ∧ w.cell? ⟨b, 11, none⟩ = some (.int .u64 (f 8)) := by
  have := cell_of_ob (h.ob hb)
  exact ⟨this 0, this 1, this 2, this 3, this 4, this 5, this 6, this 7, this 8, this 9, this 10, this 11⟩
end
theorem rAt0 (w : World) : RAt (w.alloc (.cells (blk (rcF (fun _ => 0) (fun _ _ => 0)) 80) 50)) w.heap.size (fun _ => 0) (fun _ _ => 0) := al_new _ _ rfl

set_option maxRecDepth 100000 in
set_option maxHeartbeats 2000000 in
theorem plays20 (W0 : World) (v0 : Value) (xs : List (List Value)) (hv : RdA W0 12 v0 xs) (hx : ∀ c ∈ xs, GCells W0 [.int .i64, .int .i64, .bool, .int .u64, .int .u64, .int .u64, .int .u64, .int .u64, .int .u64, .int .u64, .int .u64, .int .u64] c) :
    Calls Try.prog 10 #[v0] W0 fun o w' => o = .returned (.bool true) ∧ Keep [] W0 w' := by
  obtain ⟨a0, cap0, rfl, hc1, hc2⟩ := hv.len
  unfold maxLen at hc2
  have hz50 : ∀ w, (zeroValue 50).run Try.prog w = .ok (.agg (blk (rcF (fun _ => 0) (fun _ _ => 0)) 80)) w := fun w => by kernel_rfl
  go_enter Try.func10, Try.ntmps10
  go_wp2_with fail
  refine (awake20 W0).mono ?_
  rintro _ w1 ⟨rfl, hk1⟩
  go_wp2_with fail
  refine (pNew w1).mono ?_
  rintro _ w2 ⟨rfl, hB2, hk2, hs2⟩
  have hp0 := hk1.size
  have hs3 := hk2.size
  have hk := hk1.trans hk2
  have hA0 : BP W0 w1.heap.size w2.heap.size [] (w2.alloc (.cells (blk (rcF (fun _ => 0) (fun _ _ => 0)) 80) 50)) _ _ _ _ :=
    ⟨hB2.keep ((Keep.refl [] _).alloc _) (by simp), rAt0 w2, by simp, by simp, hk.alloc _, by omega, by omega, by omega⟩
  generalize w1.heap.size = p at *
  clear hk1 hk2 hB2 hs2 hp0 hs3 hk
  go_wp2_with fail
  generalize w2.heap.size = r at *
  clear hz50
  go_loopg [6] 120 (fun gn i wr => ∃ (k : Nat) (S : Nat → Int) (R : Nat → Nat → Int), i = .int .i64 k ∧ k ≤ 120 ∧ gn = 120 - k ∧ k ≤ xs.length ∧ BP W0 p r [] wr S R S R)
  case atStart => exact ⟨0, _, _, rfl, by omega, by omega, by omega, hA0⟩
  case round =>
    clear hA0
    obtain ⟨k, S, R, rfl, hk120, rfl, hkn, hA⟩ := hrel
    by_cases hlt : k < xs.length
    · by_cases h120 : k < 120
      · obtain ⟨b, off, cap', hveq, hbl, hcells⟩ := (hv.keep hA.kp (by simp)).2 (by omega)
        simp only [Value.slice.injEq, true_and] at hveq
        obtain ⟨rfl, rfl⟩ := hveq
        have hxk : xs[k]? = some xs[k] := List.getElem?_eq_getElem hlt
        obtain ⟨hc3, hrange⟩ := hcells k _ hxk
        obtain ⟨q, a, sv, f, hxe⟩ := op52 (hx _ (List.getElem_mem hlt))
        rw [hxe] at hrange
        have l0 := hrange 0 _ rfl
        have l1 := hrange 1 _ rfl
        have l2 := hrange 2 _ rfl
        have l3 := hrange 3 _ rfl
        have l4 := hrange 4 _ rfl
        have l5 := hrange 5 _ rfl
        have l6 := hrange 6 _ rfl
        have l7 := hrange 7 _ rfl
        have l8 := hrange 8 _ rfl
        have l9 := hrange 9 _ rfl
        have l10 := hrange 10 _ rfl
        have l11 := hrange 11 _ rfl
        rw [Nat.add_zero] at l0
        clear hv hx hcells hxk hrange hc3 hxe
        generalize xs.length = l at *
        have l1' := ob_lt hA.bb
        have l2' := ob_lt hA.rr
        have hB := (hA.new ((Keep.refl _ _).alloc (.cells #[.int .i64 q, .int .i64 a, .bool sv, .int .u64 (f 0), .int .u64 (f 1), .int .u64 (f 2), .int .u64 (f 3), .int .u64 (f 4), .int .u64 (f 5), .int .u64 (f 6), .int .u64 (f 7), .int .u64 (f 8)] 52))).add (b := wr.heap.size) (al_new _ _ rfl) (by omega) (by omega)
        have HA := Lib.hid hB
        clear hA l1' l2' hB
        go_upto_if 34 with fail
        have hB := HA.out
        generalize wr.heap.size = bo at *
        generalize wr.alloc (.cells #[.int .i64 q, .int .i64 a, .bool sv, .int .u64 (f 0), .int .u64 (f 1), .int .u64 (f 2), .int .u64 (f 3), .int .u64 (f 4), .int .u64 (f 5), .int .u64 (f 6), .int .u64 (f 7), .int .u64 (f 8)] 52) = w4 at *
        clear HA l0 l1 l2 l3 l4 l5 l6 l7 l8 l9 l10 l11
        go_cut [8] from 19 to 108 (fun s8 wx => s8 = .bool true ∧ ∃ S R, BP W0 p r [(bo, .cells #[.int .i64 q, .int .i64 a, .bool sv, .int .u64 (f 0), .int .u64 (f 1), .int .u64 (f 2), .int .u64 (f 3), .int .u64 (f 4), .int .u64 (f 5), .int .u64 (f 6), .int .u64 (f 7), .int .u64 (f 8)] 52 (0, 0))] wx S R S R)
        case first =>
          obtain ⟨e0, e1, e2, e3, e4, e5, e6, e7, e8, e9, e10, e11⟩ := hB.drew.cells (.head _)
          cases sv with
          | true =>
            have hD := hB.drew
            clear hB
            go_wp2_with fail
            go_region_held3 (fun w' => w'.cell? ⟨bo, 0, none⟩ = some (.int .i64 q) ∧ w'.cell? ⟨bo, 3, none⟩ = some (.int .u64 (f 0)) ∧ w'.cell? ⟨bo, 4, none⟩ = some (.int .u64 (f 1)) ∧ w'.cell? ⟨bo, 5, none⟩ = some (.int .u64 (f 2)) ∧ w'.cell? ⟨bo, 6, none⟩ = some (.int .u64 (f 3)) ∧ w'.cell? ⟨bo, 7, none⟩ = some (.int .u64 (f 4)) ∧ w'.cell? ⟨bo, 8, none⟩ = some (.int .u64 (f 5)) ∧ w'.cell? ⟨bo, 9, none⟩ = some (.int .u64 (f 6)) ∧ w'.cell? ⟨bo, 10, none⟩ = some (.int .u64 (f 7)) ∧ w'.cell? ⟨bo, 11, none⟩ = some (.int .u64 (f 8))) (go_keep)
              (first
                | (go_at_call 28; refine (BP.save (by assumption) q f).mono ?_; rintro _ w5 ⟨rfl, hD⟩; obtain ⟨e0, e1, e2, e3, e4, e5, e6, e7, e8, e9, e10, e11⟩ := hD.cells (.head _))
                | (go_at_call 29; refine (BP.rsave (by assumption) q f).mono ?_; rintro _ w5 ⟨rfl, hD⟩; obtain ⟨e0, e1, e2, e3, e4, e5, e6, e7, e8, e9, e10, e11⟩ := hD.cells (.head _)))
            all_goals
              go_wp2_with fail
              go_meet
              exact ⟨rfl, _, _, hD⟩
          | false =>
            have hD := hB.drew
            clear hB
            go_wp2_with fail
            go_region_held3 (fun w' => w'.cell? ⟨bo, 0, none⟩ = some (.int .i64 q) ∧ w'.cell? ⟨bo, 1, none⟩ = some (.int .i64 a)) (go_keep)
              (first
                | (go_at_call 30; refine (BP.do (by assumption) q a).mono ?_; rintro _ w5 ⟨rfl, hD⟩; obtain ⟨e0, e1, e2, e3, e4, e5, e6, e7, e8, e9, e10, e11⟩ := hD.cells (.head _))
                | (go_at_call 31; refine (BP.rdo (by assumption) q a).mono ?_; rintro _ w5 ⟨rfl, hD⟩; obtain ⟨e0, e1, e2, e3, e4, e5, e6, e7, e8, e9, e10, e11⟩ := hD.cells (.head _)))
            all_goals
              go_wp2_with fail
              go_meet
              exact ⟨rfl, _, _, hD⟩
        case rest =>
          clear hB
          obtain ⟨rfl, S1, R1, hB⟩ := hcut
          obtain ⟨e0, e1, e2, e3, e4, e5, e6, e7, e8, e9, e10, e11⟩ := hB.cells (.head _)
          go_wp2_with fail
          refine (hB.regs q).mono ?_
          rintro _ w6 ⟨rfl, hB6⟩
          generalize hF : regF R1 q = F
          have HF := Lib.hid hF
          obtain ⟨b1, p1, q1, hb1, hp1, ht1, hq1, hB7⟩ := hB6.put F
          have HP1 := Lib.hid hp1
          have HQ1 := Lib.hid hq1
          have HT1 := Lib.hid ht1
          have HB1 := Lib.hid hb1
          obtain ⟨e0, e1, e2, e3, e4, e5, e6, e7, e8, e9, e10, e11⟩ := hB7.cells (.tail _ (.head _))
          clear hF hb1 hp1 ht1 hq1 hB hB6
          go_wp2_with (rw [show w6.alloc (.cells #[.int .u64 0, .int .u64 0, .int .u64 0, .int .u64 0, .int .u64 0, .int .u64 0, .int .u64 0, .int .u64 0, .int .u64 0] 47) = p1 from HP1.out.symm, ← HB1.out]; refine wpList_store_mid rfl 47 (.tmp 9) (.tmp 66) rfl b1 0 (blk (vU F) 9) rfl rfl (by rw [blk_size]; exact HT1.out) (siz9 _) (one9 _) ?_; rw [show p1.setCells b1 0 (blk (vU F) 9).toList = q1 from HQ1.out.symm])
          refine (hB7.rregs q).mono ?_
          rintro _ w8 ⟨rfl, hB8⟩
          rw [HF.out]
          obtain ⟨b2, p2, q2, hb2, hp2, ht2, hq2, hB9⟩ := hB8.put F
          have HP2 := Lib.hid hp2
          have HQ2 := Lib.hid hq2
          have HT2 := Lib.hid ht2
          have HB2 := Lib.hid hb2
          clear hb2 hp2 ht2 hq2 hB7 hB8
          have hD := hB9.drew
          obtain ⟨e0, e1, e2, e3, e4, e5, e6, e7, e8, e9, e10, e11⟩ := hD.cells (.tail _ (.tail _ (.head _)))
          obtain ⟨x0, x1, x2, x3, x4, x5, x6, x7, x8⟩ := cells9 (hD.ob (.head _))
          obtain ⟨y0, y1, y2, y3, y4, y5, y6, y7, y8⟩ := cells9 (hD.ob (.tail _ (.head _)))
          go_wp2_with (rw [show w8.alloc (.cells #[.int .u64 0, .int .u64 0, .int .u64 0, .int .u64 0, .int .u64 0, .int .u64 0, .int .u64 0, .int .u64 0, .int .u64 0] 47) = p2 from HP2.out.symm, ← HB2.out]; refine wpList_store_mid rfl 47 (.tmp 11) (.tmp 73) rfl b2 0 (blk (vU F) 9) rfl rfl (by rw [blk_size]; exact HT2.out) (siz9 _) (one9 _) ?_; rw [show p2.setCells b2 0 (blk (vU F) 9).toList = q2 from HQ2.out.symm])
          go_cut [108] from 19 to 108 (fun s108 wx => s108 = .bool false ∧ BP W0 p r [] wx S1 R1 S1 R1)
          case first =>
            go_region_held3 (fun w' => w'.cell? ⟨bo, 0, none⟩ = some (.int .i64 q) ∧ w'.cell? ⟨bo, 1, none⟩ = some (.int .i64 a) ∧ w'.cell? ⟨b1, 0, none⟩ = some (.int .u64 (F 0)) ∧ w'.cell? ⟨b1, 1, none⟩ = some (.int .u64 (F 1)) ∧ w'.cell? ⟨b1, 2, none⟩ = some (.int .u64 (F 2)) ∧ w'.cell? ⟨b1, 3, none⟩ = some (.int .u64 (F 3)) ∧ w'.cell? ⟨b1, 4, none⟩ = some (.int .u64 (F 4)) ∧ w'.cell? ⟨b1, 5, none⟩ = some (.int .u64 (F 5)) ∧ w'.cell? ⟨b1, 6, none⟩ = some (.int .u64 (F 6)) ∧ w'.cell? ⟨b1, 7, none⟩ = some (.int .u64 (F 7)) ∧ w'.cell? ⟨b1, 8, none⟩ = some (.int .u64 (F 8)) ∧ w'.cell? ⟨b2, 0, none⟩ = some (.int .u64 (F 0)) ∧ w'.cell? ⟨b2, 1, none⟩ = some (.int .u64 (F 1)) ∧ w'.cell? ⟨b2, 2, none⟩ = some (.int .u64 (F 2)) ∧ w'.cell? ⟨b2, 3, none⟩ = some (.int .u64 (F 3)) ∧ w'.cell? ⟨b2, 4, none⟩ = some (.int .u64 (F 4)) ∧ w'.cell? ⟨b2, 5, none⟩ = some (.int .u64 (F 5)) ∧ w'.cell? ⟨b2, 6, none⟩ = some (.int .u64 (F 6)) ∧ w'.cell? ⟨b2, 7, none⟩ = some (.int .u64 (F 7)) ∧ w'.cell? ⟨b2, 8, none⟩ = some (.int .u64 (F 8))) (go_keep)
              (first
                | (go_at_call 34; refine (BP.state (by assumption) q).mono ?_; rintro _ w5 ⟨rfl, hD⟩; obtain ⟨e0, e1, e2, e3, e4, e5, e6, e7, e8, e9, e10, e11⟩ := hD.cells (.tail _ (.tail _ (.head _))); obtain ⟨x0, x1, x2, x3, x4, x5, x6, x7, x8⟩ := cells9 (hD.ob (.head _)); obtain ⟨y0, y1, y2, y3, y4, y5, y6, y7, y8⟩ := cells9 (hD.ob (.tail _ (.head _))))
                | (go_at_call 35; refine (BP.rstate (by assumption) q).mono ?_; rintro _ w5 ⟨rfl, hD⟩; obtain ⟨e0, e1, e2, e3, e4, e5, e6, e7, e8, e9, e10, e11⟩ := hD.cells (.tail _ (.tail _ (.head _))); obtain ⟨x0, x1, x2, x3, x4, x5, x6, x7, x8⟩ := cells9 (hD.ob (.head _)); obtain ⟨y0, y1, y2, y3, y4, y5, y6, y7, y8⟩ := cells9 (hD.ob (.tail _ (.head _))))
                | (go_at_call 36; refine (BP.many (by assumption) a).mono ?_; rintro _ w5 ⟨rfl, hD⟩; obtain ⟨e0, e1, e2, e3, e4, e5, e6, e7, e8, e9, e10, e11⟩ := hD.cells (.tail _ (.tail _ (.head _))); obtain ⟨x0, x1, x2, x3, x4, x5, x6, x7, x8⟩ := cells9 (hD.ob (.head _)); obtain ⟨y0, y1, y2, y3, y4, y5, y6, y7, y8⟩ := cells9 (hD.ob (.tail _ (.head _))))
                | (go_at_call 37; refine (BP.rmany (by assumption) a).mono ?_; rintro _ w5 ⟨rfl, hD⟩; obtain ⟨e0, e1, e2, e3, e4, e5, e6, e7, e8, e9, e10, e11⟩ := hD.cells (.tail _ (.tail _ (.head _))); obtain ⟨x0, x1, x2, x3, x4, x5, x6, x7, x8⟩ := cells9 (hD.ob (.head _)); obtain ⟨y0, y1, y2, y3, y4, y5, y6, y7, y8⟩ := cells9 (hD.ob (.tail _ (.head _)))))
            all_goals
              go_wp2_with fail
              go_meet
              exact ⟨rfl, hD.drop (by simp)⟩
          case rest =>
            clear hB9 hD
            obtain ⟨rfl, hE⟩ := hcut
            have HE := Lib.hid hE
            clear hE
            go_wp2
            go_roundg (120 - (k + 1))
            case measure => omega
            case rel => exact ⟨k + 1, _, _, by go_num, by omega, rfl, by omega, HE.out⟩
      · generalize xs.length = l at *
        have hkE := hA.kp
        clear hv hx hA
        go_wp2
        go_ret
        exact ⟨rfl, hkE⟩
    · generalize xs.length = l at *
      have hkE := hA.kp
      clear hv hx hA
      go_wp2
      go_ret
      exact ⟨rfl, hkE⟩
end Go.Proofs.Ytpkpdfljhpieaaa
