import Derived.Test.YtpkpdfljhpieaaaPi
import Derived.Deep.QuietTactic
import Derived.BigQuiet
namespace Go.Proofs.Ytpkpdfljhpieaaa
open Go.RowKit
set_option linter.unusedSimpArgs false
set_option linter.unusedVariables false
attribute [local go_sem] ob_alloc ob_drew ob_drewN ob_setCell ob_setBlock objSet_cells obMap_map obClock_map isMapI_map keyI_mk findI_nil findI_cons lookRes_some lookRes_none lookRes_some' lookRes_none' setBlock_alloc mapPut
attribute [local go_sem ↓] eql47 neq47

theorem nx_4 (s a : Int) : (nx s a).1 ≤ 4 := by
  unfold nx
  repeat' split
  all_goals simp
theorem doS_04 {S : Nat → Int} (h : ∀ n, n < 8 → 0 ≤ S n ∧ S n ≤ 4) (q a : Int) : ∀ n, n < 8 → 0 ≤ doS S q a n ∧ doS S q a n ≤ 4 := by
  intro n hn
  refine ⟨doS_nn (fun n hn => (h n hn).1) q a n hn, ?_⟩
  unfold doS
  split
  · split
    · unfold updW
      split
      · exact nx_4 _ _
      · exact (h n hn).2
    · exact (h n hn).2
  · exact (h n hn).2
def Same (q e : Int) (S : Nat → Int) (R : Nat → Nat → Int) (S' : Nat → Int) (R' : Nat → Nat → Int) : Prop := ∀ n : Nat, n < 8 → ((n : Int) ≠ q ∨ e ≠ 0) → S' n = S n ∧ R' n = R n
theorem do_same (S : Nat → Int) (R : Nat → Nat → Int) (q a : Int) : Same q (doR S q a) S R (doS S q a) (doG S R q a) := by
  intro n hn h
  unfold doS doG
  cases ho : pOk q with
  | false => simp
  | true =>
    obtain ⟨m, rfl, hm⟩ := pOk_out ho
    simp only [if_true, Int.toNat_natCast]
    by_cases h0 : (nx (S m) a).2 = 0
    · have hd : doR S m a = 0 := by unfold doR; rw [if_pos ho]; simpa using h0
      have hne : n ≠ m := by rcases h with h | h; omega; exact absurd hd h
      rw [if_pos h0]
      refine ⟨by simp [updW, hne], ?_⟩
      split
      · simp [updG, hne]
      · rfl
    · rw [if_neg h0, if_neg (fun x => h0 x.1)]; exact ⟨rfl, rfl⟩
theorem save_same (S : Nat → Int) (R : Nat → Nat → Int) (q : Int) (f : Nat → Int) : Same q (saveR S q) S R S (saveS S R q f) := by
  intro n hn h
  refine ⟨rfl, ?_⟩
  unfold saveS
  cases ho : pOk q with
  | false => simp
  | true =>
    obtain ⟨m, rfl, hm⟩ := pOk_out ho
    simp only [if_true, Int.toNat_natCast]
    by_cases h0 : S m = 0 ∨ S m = 1
    · rw [if_pos h0]
    · have hd : saveR S m = 0 := by unfold saveR; rw [if_pos ho]; simp only [Int.toNat_natCast]; rw [if_neg h0]
      have hne : n ≠ m := by rcases h with h | h; omega; exact absurd hd h
      rw [if_neg h0]; simp [updG, hne]

def tot (S : Nat → Int) : Nat → Nat → Int
  | 0, _ => 0
  | m + 1, k => tot S m k + cnt S m k
theorem tot_bd (S : Nat → Int) : ∀ m, 0 ≤ tot S m 8 ∧ tot S m 8 ≤ 8 * m
  | 0 => by simp [tot]
  | m + 1 => by have := tot_bd S m; have := cnt_bd S m 8; unfold tot; omega
theorem tot_step (S : Nat → Int) (k : Nat) (h0 : 0 ≤ S k) (h4 : S k ≤ 4) : tot S 5 (k + 1) = tot S 5 k + 1 := by
  have h : S k = 0 ∨ S k = 1 ∨ S k = 2 ∨ S k = 3 ∨ S k = 4 := by omega
  simp only [tot, cnt_succ]
  rcases h with h | h | h | h | h <;> rw [h] <;> simp <;> omega
theorem tot_all (S : Nat → Int) (h : ∀ n, n < 8 → 0 ≤ S n ∧ S n ≤ 4) : tot S 5 8 = 8 := by
  have g : ∀ k : Nat, k ≤ 8 → tot S 5 k = k := by
    intro k
    induction k with
    | zero => intro _; simp [tot, cnt]
    | succ k ih => intro hk; rw [tot_step S k (h k (by omega)).1 (h k (by omega)).2, ih (by omega)]; simp
  exact g 8 (Nat.le_refl _)

def wasF (S : Nat → Int) (n : Nat) : Nat → Int := fun i => if i < n then S i else 0
theorem wasF_step (S : Nat → Int) (n : Nat) : updW (wasF S n) n (S n) = wasF S (n + 1) := by
  funext i
  unfold updW wasF
  by_cases h : i = n
  · rw [if_pos h, if_pos (by omega), h]
  · rw [if_neg h]
    by_cases h2 : i < n
    · rw [if_pos h2, if_pos (by omega)]
    · rw [if_neg h2, if_neg (by omega)]
def regsF (R : Nat → Nat → Int) (n : Nat) : Nat → Int := fun i => if i < n * 9 then R (i / 9) (i % 9) else 0

/-- the walk stands at this load, at this store -/
theorem at_load (t : TypeId) (p : Tmp) {P : Program} {ops : Array Oper} {Q : Exit → Act → World → Prop} {rest : List Oper} {a : Act} {w : World} {d : Option Tmp} {ty : TypeId} {ps : String} {af : Array Edge} {g : Option (Nat × Bool)}
    (h : wpList P ops Q ({ dst := d, op := .load t (.tmp p), type := ty, pos := ps, after := af, guard := g } :: rest) a w) : wpList P ops Q ({ dst := d, op := .load t (.tmp p), type := ty, pos := ps, after := af, guard := g } :: rest) a w := h
theorem at_store (t : TypeId) (p v : Tmp) {P : Program} {ops : Array Oper} {Q : Exit → Act → World → Prop} {rest : List Oper} {a : Act} {w : World} {d : Option Tmp} {ty : TypeId} {ps : String} {af : Array Edge} {g : Option (Nat × Bool)}
    (h : wpList P ops Q ({ dst := d, op := .store t (.tmp p) (.tmp v), type := ty, pos := ps, after := af, guard := g } :: rest) a w) : wpList P ops Q ({ dst := d, op := .store t (.tmp p) (.tmp v), type := ty, pos := ps, after := af, guard := g } :: rest) a w := h
/-- the blocks, and blocks of the walk's own -/
structure CP (W0 : World) (p : Nat) (kn : List (Nat × Obj)) (w : World) (S : Nat → Int) (R : Nat → Nat → Int) : Prop where
  bb : BAt w p S R
  nn : ∀ n, n < 8 → 0 ≤ S n ∧ S n ≤ 4
  ow : ∀ x, x ∈ kn → ob w x.1 = some x.2 ∧ x.1 ≠ p ∧ W0.heap.size ≤ x.1
  kp : Keep [] W0 w
  p0 : W0.heap.size ≤ p
section
variable {W0 : World} {p : Nat} {kn : List (Nat × Obj)} {w : World} {S : Nat → Int} {R : Nat → Nat → Int}
theorem CP.new (h : CP W0 p kn w S R) {w' : World} (hk : Keep [] w w') : CP W0 p kn w' S R := ⟨h.bb.keep hk (by simp), h.nn, fun x hx => ⟨hk.kp (h.ow x hx).1 (by simp), (h.ow x hx).2⟩, h.kp.trans hk, h.p0⟩
theorem CP.drewN (h : CP W0 p kn w S R) (n : Nat) : CP W0 p kn (w.drewN n) S R := h.new ((Keep.refl _ _).drewN n)
theorem CP.byP (h : CP W0 p kn w S R) {w' : World} {S' : Nat → Int} {R' : Nat → Nat → Int} (hB : BAt w' p S' R') (hk : Keep [p] w w') (hn : ∀ n, n < 8 → 0 ≤ S' n ∧ S' n ≤ 4) : CP W0 p kn w' S' R' :=
  ⟨hB, hn, fun x hx => ⟨hk.kp (h.ow x hx).1 (by simp; exact (h.ow x hx).2.1), (h.ow x hx).2⟩, h.kp.andThen hk (by simp; exact h.p0), h.p0⟩
theorem CP.save (h : CP W0 p kn w S R) (q : Int) (f : Nat → Int) : Calls Try.prog 28 #[.pointer (some ⟨p, 0, none⟩), .int .i64 q, .agg #[.int .u64 (f 0), .int .u64 (f 1), .int .u64 (f 2), .int .u64 (f 3), .int .u64 (f 4), .int .u64 (f 5), .int .u64 (f 6), .int .u64 (f 7), .int .u64 (f 8)]] w fun e w' => e = .returned (.int .i64 (saveR S q)) ∧ CP W0 p kn w' S (saveS S R q f) :=
  (pSave w p S R h.bb q f).mono fun _ _ ⟨h1, h2, h3⟩ => ⟨h1, h.byP h2 h3 h.nn⟩
theorem CP.do (h : CP W0 p kn w S R) (q a : Int) : Calls Try.prog 30 #[.pointer (some ⟨p, 0, none⟩), .int .i64 q, .int .i64 a] w fun e w' => e = .returned (.int .i64 (doR S q a)) ∧ CP W0 p kn w' (doS S q a) (doG S R q a) :=
  (pDo w p S R h.bb q a).mono fun _ _ ⟨h1, h2, h3⟩ => ⟨h1, h.byP h2 h3 (doS_04 h.nn q a)⟩
theorem pOk_nat {n : Nat} (hn : n < 8) : pOk (n : Int) = true := by unfold pOk; simp; omega
theorem CP.regs (h : CP W0 p kn w S R) (n : Nat) (hn : n < 8) : Calls Try.prog 32 #[.pointer (some ⟨p, 0, none⟩), .int .i64 n] w fun e w' => e = .returned (.tuple #[.agg (blk (vU (R n)) 9), .int .i64 0]) ∧ CP W0 p kn w' S R := by
  refine (pRegs w p S R h.bb n).mono ?_
  rintro e w' ⟨rfl, h2⟩
  refine ⟨?_, h.new h2⟩
  unfold regF regE
  rw [if_pos (pOk_nat hn), if_pos (pOk_nat hn)]; rfl
theorem CP.state (h : CP W0 p kn w S R) (n : Nat) (hn : n < 8) : Calls Try.prog 34 #[.pointer (some ⟨p, 0, none⟩), .int .i64 n] w fun e w' => e = .returned (.int .i64 (S n)) ∧ w = w' := by
  refine (pState w p S R h.bb n).mono ?_
  rintro e w' ⟨rfl, h2⟩
  refine ⟨ret_i ?_, h2⟩
  unfold stR
  rw [if_pos (pOk_nat hn)]; rfl
theorem CP.many (h : CP W0 p kn w S R) (q : Int) : Calls Try.prog 36 #[.pointer (some ⟨p, 0, none⟩), .int .i64 q] w fun e w' => e = .returned (.int .i64 (cnt S q 8)) ∧ CP W0 p kn w' S R :=
  (pMany w p S R h.bb q).mono fun _ _ ⟨h1, h2⟩ => ⟨h1, h.new h2⟩
theorem CP.ob (h : CP W0 p kn w S R) {b : Nat} {o : Obj} (hb : (b, o) ∈ kn) : Go.Proofs.Ytpkpdfljhpieaaa.ob w b = some o := (h.ow _ hb).1
theorem CP.drop (h : CP W0 p kn w S R) {kn' : List (Nat × Obj)} (hkn : ∀ x, x ∈ kn' → x ∈ kn) : CP W0 p kn' w S R := ⟨h.bb, h.nn, fun x hx => h.ow x (hkn x hx), h.kp, h.p0⟩
theorem CP.add (h : CP W0 p kn w S R) {b : Nat} {o : Obj} (hb : Go.Proofs.Ytpkpdfljhpieaaa.ob w b = some o) (h1 : b ≠ p) (h2 : W0.heap.size ≤ b) : CP W0 p ((b, o) :: kn) w S R :=
  ⟨h.bb, h.nn, fun x hx => by
    rcases List.mem_cons.1 hx with rfl | hx
    · exact ⟨hb, h1, h2⟩
    · exact h.ow x hx, h.kp, h.p0⟩
theorem CP.alloc (h : CP W0 p kn w S R) (cs : Array Value) (t : TypeId) : CP W0 p ((w.heap.size, .cells cs t (0, 0)) :: kn) (w.alloc (.cells cs t)) S R :=
  (h.new ((Keep.refl _ _).alloc _)).add (al_new _ _ rfl) (by have := ob_lt h.bb; omega) h.kp.size
/-- a block of the walk's own turns -/
theorem CP.turn (h : CP W0 p kn w S R) {w' : World} {b : Nat} {o o' : Obj} {kn' : List (Nat × Obj)} (hb : (b, o) ∈ kn) (hk : Keep [b] w w') (ho : Go.Proofs.Ytpkpdfljhpieaaa.ob w' b = some o') (hkn : ∀ x, x ∈ kn' → x.1 = b ∧ x.2 = o' ∨ x ∈ kn ∧ x.1 ≠ b) : CP W0 p kn' w' S R := by
  obtain ⟨_, h1, h2⟩ := h.ow _ hb
  refine ⟨h.bb.keep hk (by simp; exact fun e => h1 e.symm), h.nn, fun x hx => ?_, h.kp.andThen hk (by simp; exact h2), h.p0⟩
  rcases hkn x hx with ⟨e1, e2⟩ | ⟨h3, h4⟩
  · rw [e1, e2]; exact ⟨ho, h1, h2⟩
  · exact ⟨hk.kp (h.ow x h3).1 (by simp; exact h4), (h.ow x h3).2⟩
theorem CP.put (h : CP W0 p kn w S R) (F : Nat → Int) : ∃ b w2 w3, b = w.heap.size ∧ w2 = w.alloc (.cells #[.int .u64 0, .int .u64 0, .int .u64 0, .int .u64 0, .int .u64 0, .int .u64 0, .int .u64 0, .int .u64 0, .int .u64 0] 47) ∧ w2.there b 0 9 ∧ w3 = w2.setCells b 0 (blk (vU F) 9).toList ∧ CP W0 p ((b, .cells (blk (vU F) 9) 47 (0, 0)) :: kn) w3 S R := by
  obtain ⟨w2, w3, e2, ht, e3, ho, hk⟩ := put47 w F
  have l1 := ob_lt h.bb
  exact ⟨_, w2, w3, rfl, e2, ht, e3, (h.new hk).add ho (by omega) h.kp.size⟩
theorem CP.cells {b : Nat} {q a : Int} {sv : Bool} {f : Nat → Int} (h : CP W0 p kn w S R) (hb : (b, .cells #[.int .i64 q, .int .i64 a, .bool sv, .int .u64 (f 0), .int .u64 (f 1), .int .u64 (f 2), .int .u64 (f 3), .int .u64 (f 4), .int .u64 (f 5), .int .u64 (f 6), .int .u64 (f 7), .int .u64 (f 8)] 52 (0, 0)) ∈ kn) :
    w.cell? ⟨b, 0, none⟩ = some (.int .i64 q) ∧ w.cell? ⟨b, 1, none⟩ = some (.int .i64 a) ∧ w.cell? ⟨b, 2, none⟩ = some (.bool sv) ∧ w.cell? ⟨b, 3, none⟩ = some (.int .u64 (f 0)) ∧ w.cell? ⟨b, 4, none⟩ = some (.int .u64 (f 1)) ∧ w.cell? ⟨b, 5, none⟩ = some (.int .u64 (f 2)) ∧ w.cell? ⟨b, 6, none⟩ = some (.int .u64 (f 3)) ∧ w.cell? ⟨b, 7, none⟩ = some (.int .u64 (f 4)) ∧ w.cell? ⟨b, 8, none⟩ = some (.int .u64 (f 5)) ∧ w.cell? ⟨b, 9, none⟩ = some (.int .u64 (f 6)) ∧ w.cell? ⟨b, 10, none⟩ = some (.int .u64 (f 7)) ∧ w.cell? ⟨b, 11, none⟩ = some (.int .u64 (f 8)) := by
  have := cell_of_ob (h.ob hb)
  exact ⟨this 0, this 1, this 2, this 3, this 4, this 5, this 6, this 7, this 8, this 9, this 10, this 11⟩
end
theorem q_same {P : Program} {f : FuncId} {args : Array Value} {w : World} {n : Nat} {v : Value} (h : Calls P f args (w.drewN n) fun e w' => e = .returned v ∧ w.drewN n = w') : Calls P f args (w.drewN n) fun e w'' => e = .returned v ∧ ∃ m, w'' = w.drewN m :=
  Calls.quiet_of_same (h.mono fun _ _ ⟨a, b⟩ => ⟨a, b.symm⟩)

set_option maxRecDepth 100000 in
set_option maxHeartbeats 2000000 in
theorem one20 (W0 : World) (v0 : Value) (xs : List (List Value)) (hv : RdA W0 12 v0 xs) (hx : ∀ c ∈ xs, GCells W0 [.int .i64, .int .i64, .bool, .int .u64, .int .u64, .int .u64, .int .u64, .int .u64, .int .u64, .int .u64, .int .u64, .int .u64] c) :
    Calls Try.prog 11 #[v0] W0 fun o w' => o = .returned (.bool true) ∧ Keep [] W0 w' := by
  obtain ⟨a0, cap0, rfl, hc1, hc2⟩ := hv.len
  unfold maxLen at hc2
  go_enter Try.func11, Try.ntmps11
  go_wp2_with fail
  refine (awake20 W0).mono ?_
  rintro _ w1 ⟨rfl, hk1⟩
  go_wp2_with fail
  refine (pNew w1).mono ?_
  rintro _ w2 ⟨rfl, hB2, hk2, hs2⟩
  have hA0 : CP W0 w1.heap.size [] w2 _ _ := ⟨hB2, by simp, by simp, hk1.trans hk2, hk1.size⟩
  generalize w1.heap.size = p at *
  clear hk1 hk2 hB2 hs2
  by_cases h100 : xs.length ≤ 100
  · go_wp2_with fail
    go_loopg [5] xs.length (fun gn i wr => ∃ (k : Nat) (S : Nat → Int) (R : Nat → Nat → Int), i = .int .i64 k ∧ k ≤ xs.length ∧ gn = xs.length - k ∧ CP W0 p [] wr S R)
    case atStart => exact ⟨0, _, _, rfl, by omega, by omega, hA0⟩
    case round =>
      clear hA0
      obtain ⟨k, S, R, rfl, hkn, rfl, hA⟩ := hrel
      by_cases hlt : k < xs.length
      · obtain ⟨b, off, cap', hveq, hbl, hcells⟩ := (hv.keep hA.kp (by simp)).2 (by omega)
        simp only [Value.slice.injEq, true_and] at hveq
        obtain ⟨rfl, rfl⟩ := hveq
        have hxk : xs[k]? = some xs[k] := List.getElem?_eq_getElem hlt
        obtain ⟨hc3, hrange⟩ := hcells k _ hxk
        obtain ⟨q, a, sv, f, hxe⟩ := op52 (hx _ (List.getElem_mem hlt))
        rw [hxe] at hrange
        have l0 := hrange 0 _ rfl
        have l1 := hrange 1 _ rfl
        have l2 := hrange 2 _ rfl
        have l3 := hrange 3 _ rfl
        have l4 := hrange 4 _ rfl
        have l5 := hrange 5 _ rfl
        have l6 := hrange 6 _ rfl
        have l7 := hrange 7 _ rfl
        have l8 := hrange 8 _ rfl
        have l9 := hrange 9 _ rfl
        have l10 := hrange 10 _ rfl
        have l11 := hrange 11 _ rfl
        rw [Nat.add_zero] at l0
        clear hv hx hcells hxk hrange hc3 hxe
        generalize xs.length = l at *
        have hz48 : ∀ w, (zeroValue 48).run Try.prog w = .ok (.agg (blk (vU (regsF R 0)) 72)) w := fun w => by
          rw [blk_congr (g := vU fun _ => 0) (fun i hi => by unfold vU regsF; rw [if_neg (by omega)])]; kernel_rfl
        have h1 : CP W0 p [(wr.heap.size, .cells #[.int .i64 q, .int .i64 a, .bool sv, .int .u64 (f 0), .int .u64 (f 1), .int .u64 (f 2), .int .u64 (f 3), .int .u64 (f 4), .int .u64 (f 5), .int .u64 (f 6), .int .u64 (f 7), .int .u64 (f 8)] 52 (0, 0)), (wr.heap.size + 1, .cells (blk (vI (wasF S 0)) 8) 44 (0, 0)), (wr.heap.size + 2, .cells (blk (vU (regsF R 0)) 72) 48 (0, 0))] (((wr.alloc (.cells #[.int .i64 q, .int .i64 a, .bool sv, .int .u64 (f 0), .int .u64 (f 1), .int .u64 (f 2), .int .u64 (f 3), .int .u64 (f 4), .int .u64 (f 5), .int .u64 (f 6), .int .u64 (f 7), .int .u64 (f 8)] 52)).alloc (.cells #[.int .i64 0, .int .i64 0, .int .i64 0, .int .i64 0, .int .i64 0, .int .i64 0, .int .i64 0, .int .i64 0] 44)).alloc (.cells (blk (vU (regsF R 0)) 72) 48)) S R := by
          have h1 := ((hA.alloc #[.int .i64 q, .int .i64 a, .bool sv, .int .u64 (f 0), .int .u64 (f 1), .int .u64 (f 2), .int .u64 (f 3), .int .u64 (f 4), .int .u64 (f 5), .int .u64 (f 6), .int .u64 (f 7), .int .u64 (f 8)] 52).alloc #[.int .i64 0, .int .i64 0, .int .i64 0, .int .i64 0, .int .i64 0, .int .i64 0, .int .i64 0, .int .i64 0] 44).alloc (blk (vU (regsF R 0)) 72) 48
          have e44 : blk (vI (wasF S 0)) 8 = #[.int .i64 0, .int .i64 0, .int .i64 0, .int .i64 0, .int .i64 0, .int .i64 0, .int .i64 0, .int .i64 0] := rfl
          rw [e44]
          exact h1.drop (by simp)
        have ne1 : wr.heap.size + 1 ≠ wr.heap.size := by omega
        have ne2 : wr.heap.size + 2 ≠ wr.heap.size := by omega
        have ne3 : wr.heap.size + 1 ≠ wr.heap.size + 2 := by omega
        have H1 := Lib.hid h1
        clear hA h1
        go_wp2_with fail
        have h1 := H1.out
        clear H1 hz48 l0 l1 l2 l3 l4 l5 l6 l7 l8 l9 l10 l11
        generalize wr.heap.size + 2 = br at *
        generalize wr.heap.size + 1 = bw at *
        generalize wr.heap.size = bo at *
        go_loopg [9] 8 (fun gn i wq => ∃ n : Nat, i = .int .i64 n ∧ n ≤ 8 ∧ gn = 8 - n ∧ CP W0 p [(bo, .cells #[.int .i64 q, .int .i64 a, .bool sv, .int .u64 (f 0), .int .u64 (f 1), .int .u64 (f 2), .int .u64 (f 3), .int .u64 (f 4), .int .u64 (f 5), .int .u64 (f 6), .int .u64 (f 7), .int .u64 (f 8)] 52 (0, 0)), (bw, .cells (blk (vI (wasF S n)) 8) 44 (0, 0)), (br, .cells (blk (vU (regsF R n)) 72) 48 (0, 0))] wq S R)
        case atStart => exact ⟨0, rfl, by omega, by omega, h1⟩
        case round =>
          clear h1
          obtain ⟨n, rfl, hn8, rfl, hC⟩ := hrel
          by_cases hn : n < 8
          · go_wp2_with fail
            refine (hC.state n hn).mono ?_
            rintro _ w5 ⟨rfl, rfl⟩
            have ow := hC.ob (b := bw) (.tail _ (.head _))
            have cw : wr.cell? ⟨bw, n, none⟩ = some (.int .i64 (wasF S n n)) := blk_cell ow hn
            have fw := free_of_ob ow
            have hC2 : CP W0 p [(bo, .cells #[.int .i64 q, .int .i64 a, .bool sv, .int .u64 (f 0), .int .u64 (f 1), .int .u64 (f 2), .int .u64 (f 3), .int .u64 (f 4), .int .u64 (f 5), .int .u64 (f 6), .int .u64 (f 7), .int .u64 (f 8)] 52 (0, 0)), (bw, .cells (blk (vI (wasF S (n + 1))) 8) 44 (0, 0)), (br, .cells (blk (vU (regsF R n)) 72) 48 (0, 0))] (wr.setCell ⟨bw, n, none⟩ (.int .i64 (S n))) S R :=
              hC.turn (b := bw) (.tail _ (.head _)) ((Keep.refl _ _).setCell (.inl (by simp)) _ _) (o' := .cells (blk (vI (wasF S (n + 1))) 8) 44 (0, 0)) (by rw [blk_store ow, vI_upd, wasF_step]) (by simp [ne1, ne2, ne3, ne1.symm, ne3.symm])
            clear hC ow
            go_wp2_with fail
            refine (hC2.regs n hn).mono ?_
            rintro _ w6 ⟨rfl, hC3⟩
            obtain ⟨b1, p1, q1, hb1, hp1, ht1, hq1, hC4⟩ := hC3.put (R n)
            have hb1n : b1 ≠ br := by
              have := ob_lt (hC3.ob (b := br) (.tail _ (.tail _ (.head _))))
              omega
            have ob4 := hC4.ob (b := b1) (.head _)
            have or4 := hC4.ob (b := br) (.tail _ (.tail _ (.tail _ (.head _))))
            have T2 := Lib.hid (blk_there or4 (o := n * 9) (k := 9) (by omega))
            have R4 := Lib.hid (range_ob ob4)
            have hC5 : CP W0 p [(bo, .cells #[.int .i64 q, .int .i64 a, .bool sv, .int .u64 (f 0), .int .u64 (f 1), .int .u64 (f 2), .int .u64 (f 3), .int .u64 (f 4), .int .u64 (f 5), .int .u64 (f 6), .int .u64 (f 7), .int .u64 (f 8)] 52 (0, 0)), (bw, .cells (blk (vI (wasF S (n + 1))) 8) 44 (0, 0)), (br, .cells (blk (vU (regsF R (n + 1))) 72) 48 (0, 0))] (q1.setCells br (n * 9) (blk (vU (R n)) 9).toList) S R :=
              hC4.turn (b := br) (.tail _ (.tail _ (.tail _ (.head _)))) ((Keep.refl _ _).setCells (.inl (by simp)) _ _) (o' := .cells (blk (vU (regsF R (n + 1))) 72) 48 (0, 0)) (blk_storeF or4 (n * 9) 9 _ (fun j hj => by
                unfold vU regsF
                by_cases h1 : n * 9 ≤ j ∧ j < n * 9 + 9
                · rw [if_pos h1, if_pos (by omega), show j / 9 = n by omega, show j % 9 = j - n * 9 by omega]
                · rw [if_neg h1]
                  by_cases h2 : j < n * 9
                  · rw [if_pos h2, if_pos (by omega)]
                  · rw [if_neg h2, if_neg (by omega)])) (by
                intro x hx
                simp only [List.mem_cons, List.not_mem_nil, or_false] at hx
                rcases hx with rfl | rfl | rfl
                · exact .inr ⟨by simp, ne2.symm⟩
                · exact .inr ⟨by simp, ne3⟩
                · exact .inl ⟨rfl, rfl⟩)
            have HP1 := Lib.hid hp1
            have HQ1 := Lib.hid hq1
            have HT1 := Lib.hid ht1
            have HB1 := Lib.hid hb1
            have HC5 := Lib.hid hC5
            clear hb1 hp1 ht1 hq1 hC2 hC3 hC4 hC5 ob4 or4 cw fw
            go_wp2_with (first
              | (rw [show w6.alloc (.cells #[.int .u64 0, .int .u64 0, .int .u64 0, .int .u64 0, .int .u64 0, .int .u64 0, .int .u64 0, .int .u64 0, .int .u64 0] 47) = p1 from HP1.out.symm, ← HB1.out]; refine wpList_store_mid rfl 47 (.tmp 10) (.tmp 55) rfl b1 0 (blk (vU (R n)) 9) rfl rfl (by rw [blk_size]; exact HT1.out) (siz9 _) (one9 _) ?_; rw [show p1.setCells b1 0 (blk (vU (R n)) 9).toList = q1 from HQ1.out.symm])
              | ((with_reducible refine at_load 47 10 ?_); refine wpList_load_mid rfl 47 (.tmp 10) rfl b1 0 rfl (blk (vU (R n)) 9).toList _ R4.out Try.underlying47 rfl (len9 _) ?_)
              | ((with_reducible refine at_store 47 59 58 ?_); refine wpList_store_mid rfl 47 (.tmp 59) (.tmp 58) rfl br (n * 9) (blk (vU (R n)) 9) rfl rfl (by rw [blk_size]; exact T2.out) (siz9 _) (one9 _) ?_))
            go_roundg (8 - (n + 1))
            case measure => omega
            case rel => exact ⟨n + 1, by go_num, by omega, rfl, HC5.out⟩
          · obtain rfl : n = 8 := by omega
            obtain ⟨e0, e1, e2, e3, e4, e5, e6, e7, e8, e9, e10, e11⟩ := hC.cells (.head _)
            go_upto_if 61 with fail
            go_cut [12] from 32 to 118 (fun s12 wx => ∃ (e : Int) (S' : Nat → Int) (R' : Nat → Nat → Int), s12 = .int .i64 e ∧ CP W0 p [(bo, .cells #[.int .i64 q, .int .i64 a, .bool sv, .int .u64 (f 0), .int .u64 (f 1), .int .u64 (f 2), .int .u64 (f 3), .int .u64 (f 4), .int .u64 (f 5), .int .u64 (f 6), .int .u64 (f 7), .int .u64 (f 8)] 52 (0, 0)), (bw, .cells (blk (vI (wasF S 8)) 8) 44 (0, 0)), (br, .cells (blk (vU (regsF R 8)) 72) 48 (0, 0))] wx S' R' ∧ Same q e S R S' R')
            case first =>
              cases sv with
              | true =>
                go_wp2_with fail
                refine (hC.save q f).mono ?_
                rintro _ w5 ⟨rfl, hD⟩
                clear hC
                go_wp2_with fail
                go_meet
                exact ⟨_, _, _, rfl, hD, save_same S R q f⟩
              | false =>
                go_wp2_with fail
                refine (hC.do q a).mono ?_
                rintro _ w5 ⟨rfl, hD⟩
                clear hC
                go_wp2_with fail
                go_meet
                exact ⟨_, _, _, rfl, hD, do_same S R q a⟩
            case rest =>
              clear hC e0 e1 e2 e3 e4 e5 e6 e7 e8 e9 e10 e11
              obtain ⟨e, S', R', rfl, hC, hS⟩ := hcut
              have HS := Lib.hid hS
              clear hS
              go_wp2_with fail
              go_loopg [13, 14] 5 (fun gn al i wq => ∃ m : Nat, i = .int .i64 m ∧ m ≤ 5 ∧ gn = 5 - m ∧ al = .int .i64 (tot S' m 8) ∧ CP W0 p [(bo, .cells #[.int .i64 q, .int .i64 a, .bool sv, .int .u64 (f 0), .int .u64 (f 1), .int .u64 (f 2), .int .u64 (f 3), .int .u64 (f 4), .int .u64 (f 5), .int .u64 (f 6), .int .u64 (f 7), .int .u64 (f 8)] 52 (0, 0)), (bw, .cells (blk (vI (wasF S 8)) 8) 44 (0, 0)), (br, .cells (blk (vU (regsF R 8)) 72) 48 (0, 0))] wq S' R')
              case atStart => exact ⟨0, rfl, by omega, by omega, rfl, hC⟩
              case round =>
                clear hC
                obtain ⟨m, rfl, hm5, rfl, rfl, hC⟩ := hrel
                by_cases hm : m < 5
                · have h1 := cnt_bd S' m 8
                  have h2 := tot_bd S' m
                  go_wp2_with fail
                  refine (hC.many m).mono ?_
                  rintro _ w5 ⟨rfl, hD⟩
                  have h3 : Hid (tot S' (m + 1) 8 = tot S' m 8 + cnt S' m 8) := rfl
                  have HD := Lib.hid hD
                  clear hC hD
                  generalize tot S' m 8 = t1 at *
                  generalize cnt S' m 8 = t2 at *
                  go_wp2_with fail
                  go_roundg (5 - (m + 1))
                  case measure => omega
                  case rel => exact ⟨m + 1, by go_num, by omega, rfl, by rw [h3.out], HD.out⟩
                · obtain rfl : m = 5 := by omega
                  rw [tot_all S' hC.nn]
                  go_wp2_with fail
                  go_loopg [15] 8 (fun gn i wq => ∃ n : Nat, i = .int .i64 n ∧ n ≤ 8 ∧ gn = 8 - n ∧ CP W0 p [(bo, .cells #[.int .i64 q, .int .i64 a, .bool sv, .int .u64 (f 0), .int .u64 (f 1), .int .u64 (f 2), .int .u64 (f 3), .int .u64 (f 4), .int .u64 (f 5), .int .u64 (f 6), .int .u64 (f 7), .int .u64 (f 8)] 52 (0, 0)), (bw, .cells (blk (vI (wasF S 8)) 8) 44 (0, 0)), (br, .cells (blk (vU (regsF R 8)) 72) 48 (0, 0))] wq S' R')
                  case atStart => exact ⟨0, rfl, by omega, by omega, hC⟩
                  case round =>
                    clear hC
                    obtain ⟨n, rfl, hn8, rfl, hC⟩ := hrel
                    by_cases hn : n < 8
                    · go_wp2_with fail
                      refine (hC.regs n hn).mono ?_
                      rintro _ w6 ⟨rfl, hC3⟩
                      obtain ⟨b1, p1, q1, hb1, hp1, ht1, hq1, hC4⟩ := hC3.put (R' n)
                      have HP1 := Lib.hid hp1
                      have HQ1 := Lib.hid hq1
                      have HT1 := Lib.hid ht1
                      have HB1 := Lib.hid hb1
                      clear hb1 hp1 ht1 hq1 hC hC3
                      go_upto_region 30 with (rw [show w6.alloc (.cells #[.int .u64 0, .int .u64 0, .int .u64 0, .int .u64 0, .int .u64 0, .int .u64 0, .int .u64 0, .int .u64 0, .int .u64 0] 47) = p1 from HP1.out.symm, ← HB1.out]; refine wpList_store_mid rfl 47 (.tmp 16) (.tmp 91) rfl b1 0 (blk (vU (R' n)) 9) rfl rfl (by rw [blk_size]; exact HT1.out) (siz9 _) (one9 _) ?_; rw [show p1.setCells b1 0 (blk (vU (R' n)) 9).toList = q1 from HQ1.out.symm])
                      go_cut [116] from 83 to 116 (fun s wx => s = .bool false ∧ ∃ nd, wx = q1.drewN nd)
                      case first =>
                        have hst := fun nd => (hC4.drewN nd).state n hn
                        obtain ⟨e0, e1, e2, e3, e4, e5, e6, e7, e8, e9, e10, e11⟩ := hC4.cells (.tail _ (.head _))
                        have ow := hC4.ob (b := bw) (.tail _ (.tail _ (.head _)))
                        have oR := hC4.ob (b := br) (.tail _ (.tail _ (.tail _ (.head _))))
                        have cw : q1.cell? ⟨bw, n, none⟩ = some (.int .i64 (S n)) := by rw [blk_cell ow hn]; unfold vI wasF; rw [if_pos hn]
                        have cr : ∀ j, j < 9 → q1.cell? ⟨br, n * 9 + j, none⟩ = some (.int .u64 (R n j)) := fun j hj => by
                          rw [blk_cell oR (by omega)]; unfold vU regsF; rw [if_pos (by omega), show (n * 9 + j) / 9 = n by omega, show (n * 9 + j) % 9 = j by omega]
                        have cr0 := cr 0 (by omega)
                        have cr1 := cr 1 (by omega)
                        have cr2 := cr 2 (by omega)
                        have cr3 := cr 3 (by omega)
                        have cr4 := cr 4 (by omega)
                        have cr5 := cr 5 (by omega)
                        have cr6 := cr 6 (by omega)
                        have cr7 := cr 7 (by omega)
                        have cr8 := cr 8 (by omega)
                        rw [Nat.add_zero] at cr0
                        obtain ⟨x0, x1, x2, x3, x4, x5, x6, x7, x8⟩ := cells9 (hC4.ob (.head _))
                        clear ow oR cr hC4
                        by_cases hA : (n : Int) = q ∧ e = 0
                        · obtain ⟨rfl, rfl⟩ := hA
                          clear hst
                          go_quiet (fail)
                          go_wp2_with fail
                          go_meet
                          exact ⟨rfl, _, rfl⟩
                        · obtain ⟨g1, g2⟩ := HS.out n hn (by omega)
                          rw [g1] at hst
                          rw [g2] at x0 x1 x2 x3 x4 x5 x6 x7 x8
                          clear g1 g2
                          by_cases hnq : (n : Int) = q
                          · have he : (e != 0) = true := by simp; omega
                            obtain rfl := hnq
                            clear hA
                            go_quiet ((go_at_call 34; exact q_same (hst _)))
                            go_wp2_with fail
                            go_meet
                            exact ⟨rfl, _, rfl⟩
                          · have hne : ((n : Int) != q) = true := by simpa using hnq
                            clear hA hnq
                            go_quiet ((go_at_call 34; exact q_same (hst _)))
                            go_wp2_with fail
                            go_meet
                            exact ⟨rfl, _, rfl⟩
                      case rest =>
                        obtain ⟨rfl, nd, rfl⟩ := hcut
                        have HD := Lib.hid (hC4.drewN nd)
                        clear hC4
                        go_wp2_with fail
                        go_roundg (8 - (n + 1))
                        case measure => omega
                        case rel => exact ⟨n + 1, by go_num, by omega, rfl, HD.out.drop (by simp)⟩
                    · obtain rfl : n = 8 := by omega
                      have HD := Lib.hid hC
                      clear hC
                      go_wp2
                      go_roundg (l - (k + 1))
                      case measure => omega
                      case rel => exact ⟨k + 1, _, _, by go_num, by omega, rfl, HD.out.drop (by simp)⟩
      · generalize xs.length = l at *
        have hkE := hA.kp
        clear hv hx hA
        go_wp2
        go_ret
        exact ⟨rfl, hkE⟩
  · have hkE := hA0.kp
    have hgt : 100 < xs.length := by omega
    generalize xs.length = l at *
    clear hv hx hA0 h100
    go_wp2
    go_ret
    exact ⟨rfl, hkE⟩
end Go.Proofs.Ytpkpdfljhpieaaa
