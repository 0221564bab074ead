import Derived.Test.YtfljhfggjbkomaaRows
import Derived.Test.YtfljhfggjbkomaaLibT
import Derived.Laws.BitsLemmas
import Derived.StillTailTactics
import Derived.Deep.LoopGhost
import Derived.Deep.CutRange
import Derived.Deep.CutBlock
import Derived.Deep.QuietTactic
import Derived.BigQuiet
namespace Go.Proofs.Ytfljhfggjbkomaa
open Go.RowKit
set_option linter.unusedSimpArgs false
set_option linter.unusedVariables false
attribute [local go_sem] ob_alloc ob_drew ob_drewN ob_setCell ob_setBlock objSet_cells obMap_map obClock_map isMapI_map keyI_mk findI_nil findI_cons lookRes_some lookRes_none lookRes_some' lookRes_none' setBlock_alloc mapPut

theorem i64_and3 (n : Int) : bits .and .i64 n 3 = n % 4 := by
  have h127 : (BitVec.ofInt 64 3).toNat = 2 ^ 2 - 1 := by decide
  have key : (BitVec.ofInt 64 n &&& BitVec.ofInt 64 3).toNat = (n % ((2 ^ 64 : Nat) : Int)).toNat % 2 ^ 2 := by
    rw [BitVec.toNat_and, BitVec.toNat_ofInt, h127, Nat.and_two_pow_sub_one_eq_mod]
  show IntKind.i64.wrap ((BitVec.ofInt 64 n &&& BitVec.ofInt 64 3).toNat : Nat) = n % 4
  rw [key, IntKind.wrap_i64]
  omega
/-- events -/
def evE : Enc (Int × Int) 2 := ⟨fun e => [.int .i64 e.1, .int .i64 e.2], fun _ => rfl, fun e u hu => by
  simp at hu
  rcases hu with rfl | rfl <;> rfl⟩
theorem info112 : (Try.prog.info? 112).map (fun i => (i.zero, i.size, i.bytes)) = some (some (.agg #[.int .i64 0, .int .i64 0]), 2, 16) := by kernel_rfl
def bdO (C : Nat → Int) (v : Value) : Obj := .cells #[.int .i64 (C 0), .int .i64 (C 1), .int .i64 (C 2), .int .i64 (C 3), v] 30 (0, 0)
/-- the board at bo, beside what is known of other blocks -/
structure BDk (W0 w : World) (bo : Nat) (kn : List (Nat × Obj)) (C : Nat → Int) (E : List (Int × Int)) : Prop where
  bd : ∃ v, ob w bo = some (bdO C v) ∧ RowE evE 112 w W0.heap.size v E ∧ ∀ b, v.ownBlock = some b → b ≠ bo ∧ ∀ x ∈ kn, x.1 ≠ b
  ow : ∀ x ∈ kn, ob w x.1 = some x.2 ∧ x.1 ≠ bo
  kp : Keep [] W0 w
  b0 : W0.heap.size ≤ bo
section
variable {W0 w w' : World} {bo : Nat} {kn : List (Nat × Obj)} {C : Nat → Int} {E : List (Int × Int)}
theorem BDk.new (h : BDk W0 w bo kn C E) (hk : Keep [] w w') : BDk W0 w' bo kn C E := by
  obtain ⟨v, h1, h2, h3⟩ := h.bd
  exact ⟨⟨v, hk.kp h1 (by simp), h2.keep hk (by simp), h3⟩, fun x hx => ⟨hk.kp (h.ow x hx).1 (by simp), (h.ow x hx).2⟩, h.kp.trans hk, h.b0⟩
theorem BDk.lt (h : BDk W0 w bo kn C E) : bo < w.heap.size := by obtain ⟨v, h1, _⟩ := h.bd; exact ob_lt h1
theorem BDk.alloc (h : BDk W0 w bo kn C E) (cs : Array Value) (t : TypeId) : BDk W0 (w.alloc (.cells cs t)) bo ((w.heap.size, .cells cs t (0, 0)) :: kn) C E := by
  have h3 := h.new ((Keep.refl [] w).alloc (.cells cs t))
  obtain ⟨v, h4, h5, h6⟩ := h3.bd
  obtain ⟨v', h4', h5', h6'⟩ := h.bd
  have hv : v' = v := by
    have e := (((Keep.refl [] w).alloc (.cells cs t)).kp h4' (by simp)).symm.trans h4
    simp [bdO] at e
    exact e
  subst hv
  have hl := h.lt
  exact ⟨⟨v', h4, h5, fun b hb => ⟨(h6 b hb).1, fun x hx => by
    rcases List.mem_cons.1 hx with rfl | hx
    · have := ownBlock_lt h5' hb
      show w.heap.size ≠ b; omega
    · exact (h6 b hb).2 x hx⟩⟩, fun x hx => by
    rcases List.mem_cons.1 hx with rfl | hx
    · exact ⟨al_new _ _ rfl, by show w.heap.size ≠ bo; omega⟩
    · exact h3.ow x hx, h3.kp, h3.b0⟩
theorem BDk.obk (h : BDk W0 w bo kn C E) {b : Nat} {o : Obj} (hb : (b, o) ∈ kn) : ob w b = some o := (h.ow _ hb).1
theorem BDk.dropk (h : BDk W0 w bo kn C E) {kn' : List (Nat × Obj)} (hkn : ∀ x, x ∈ kn' → x ∈ kn) : BDk W0 w bo kn' C E := by
  obtain ⟨v, h1, h2, h3⟩ := h.bd
  exact ⟨⟨v, h1, h2, fun b hb => ⟨(h3 b hb).1, fun x hx => (h3 b hb).2 x (hkn x hx)⟩⟩, fun x hx => h.ow x (hkn x hx), h.kp, h.b0⟩
theorem BDk.dropkd {x : Nat × Obj} (h : BDk W0 w bo (x :: kn) C E) : BDk W0 w.drew bo kn C E := (h.new (Keep.refl _ _).drew).dropk (fun y hy => List.mem_cons_of_mem _ hy)
/-- a store into a known block -/
theorem BDk.set (h : BDk W0 w bo kn C E) {b : Nat} {o : Obj} (hb : (b, o) ∈ kn) (i : Nat) (u : Value) {kn' : List (Nat × Obj)} (hkn : ∀ x, x ∈ kn' → x ∈ kn ∧ x.1 ≠ b) (hb0 : W0.heap.size ≤ b) : BDk W0 (w.setCell ⟨b, i, none⟩ u) bo ((b, objSet i u o) :: kn') C E := by
  obtain ⟨v, h1, h2, h3⟩ := h.bd
  have hk : Keep [b] w (w.setCell ⟨b, i, none⟩ u) := (Keep.refl _ _).setCell (.inl (by simp)) i u
  have hbo : b ≠ bo := (h.ow _ hb).2
  refine ⟨⟨v, hk.kp h1 (by simp; exact hbo.symm), h2.keep hk (fun c hc hm => (h3 c hc).2 _ hb (by simpa using hm : c = b).symm), fun c hc => ⟨(h3 c hc).1, fun x hx => ?_⟩⟩, fun x hx => ?_, h.kp.andThen hk (by intro x hx; simp at hx; subst hx; exact .inr hb0), h.b0⟩
  · rcases List.mem_cons.1 hx with rfl | hx
    · show b ≠ c
      exact (h3 c hc).2 (b, o) hb
    · exact (h3 c hc).2 _ (hkn x hx).1
  · rcases List.mem_cons.1 hx with rfl | hx
    · refine ⟨?_, hbo⟩
      show ob _ b = some (objSet i u o)
      rw [ob_setCell, if_pos rfl, (h.ow _ hb).1]; rfl
    · obtain ⟨g1, g2⟩ := hkn x hx
      exact ⟨hk.kp (h.ow x g1).1 (by simp; exact g2), (h.ow x g1).2⟩
end
def wr64 (n : Int) : Int := IntKind.i64.wrap n
def updC (C : Nat → Int) (q : Nat) (x : Int) : Nat → Int := fun j => if j = q then x else C j
theorem bd_cell {w : World} {bo : Nat} {C : Nat → Int} {v : Value} (h : ob w bo = some (bdO C v)) {q : Nat} (hq : q < 4) : w.cell? ⟨bo, q, none⟩ = some (.int .i64 (C q)) := by
  rw [cell_of_ob h]
  match q, hq with
  | 0, _ => rfl
  | 1, _ => rfl
  | 2, _ => rfl
  | 3, _ => rfl
theorem bd_set {w : World} {bo : Nat} {C : Nat → Int} {v : Value} (h : ob w bo = some (bdO C v)) {q : Nat} (hq : q < 4) (x : Int) : ob (w.setCell ⟨bo, q, none⟩ (.int .i64 x)) bo = some (bdO (updC C q x) v) := by
  rw [ob_setCell, if_pos rfl, h]
  match q, hq with
  | 0, _ => rfl
  | 1, _ => rfl
  | 2, _ => rfl
  | 3, _ => rfl
/-- a cell of the board's, written -/
theorem BDk.put {W0 w : World} {bo : Nat} {kn : List (Nat × Obj)} {C : Nat → Int} {E : List (Int × Int)} (h : BDk W0 w bo kn C E) {q : Nat} (hq : q < 4) (x : Int) : BDk W0 (w.setCell ⟨bo, q, none⟩ (.int .i64 x)) bo kn (updC C q x) E := by
  obtain ⟨v, h1, h2, h3⟩ := h.bd
  have hk : Keep [bo] w (w.setCell ⟨bo, q, none⟩ (.int .i64 x)) := (Keep.refl _ _).setCell (.inl (by simp)) q _
  exact ⟨⟨v, bd_set h1 hq x, h2.keep hk (fun b hb => by simp; exact (h3 b hb).1), h3⟩, fun y hy => ⟨hk.kp (h.ow y hy).1 (by simp; exact (h.ow y hy).2), (h.ow y hy).2⟩, h.kp.andThen hk (by intro y hy; simp at hy; subst hy; exact .inr h.b0), h.b0⟩
/-- one event more: the append's equation, and what holds behind the store -/
theorem BDk.seen {W0 w : World} {bo : Nat} {kn : List (Nat × Obj)} {C : Nat → Int} {E : List (Int × Int)} (h : BDk W0 w bo kn C E) (e : Int × Int) (hE : E.length ≤ 100000) :
    ∃ va vc va' vc' w', w.cell? ⟨bo, 4, none⟩ = some (.slice va E.length vc) ∧ (∀ ty, (Builtin.append_ #[28, 28] ty #[.slice va E.length vc, .slice (some ⟨w.heap.size, 0, none⟩) 1 1]).run Try.prog (w.alloc (.cells #[.int .i64 e.1, .int .i64 e.2] 112)) = .ok (.slice va' (E.length + 1) vc') w') ∧
      BDk W0 (w'.setCell ⟨bo, 4, none⟩ (.slice va' (E.length + 1) vc')) bo kn C (E ++ [e]) ∧ w'.frozen? ⟨bo, 4, none⟩ = false ∧ (∃ x, w'.cell? ⟨bo, 4, none⟩ = some x) ∧ bo < w.heap.size := by
  obtain ⟨v, h1, h2, h3⟩ := h.bd
  obtain ⟨va, vc, rfl⟩ := h2.slice
  have hb := al_new w (.cells #[.int .i64 e.1, .int .i64 e.2] 112) rfl
  have kA : Keep [] w (w.alloc (.cells #[.int .i64 e.1, .int .i64 e.2] 112)) := (Keep.refl _ _).alloc _
  have h2' := h2.keep kA (by simp)
  obtain ⟨va', vc', w', g1, g2, g3, g4⟩ := h2'.push (P := Try.prog) Try.underlying28 info112 rfl (by omega) e hb 1 (by omega) (by omega) (by have := h.kp.size; simp; omega)
  have kB : Keep (Value.slice va E.length vc).ownBlock.toList w w' := (kA.mono (by simp)).trans g3
  have hno : ∀ y, y ∈ (Value.slice va E.length vc).ownBlock.toList → y ≠ bo ∧ ∀ x ∈ kn, x.1 ≠ y := fun y hy => by
    simp only [Option.mem_toList] at hy
    exact h3 y hy
  have o1 := kB.kp h1 (fun hm => (hno _ hm).1 rfl)
  have hk : Keep [bo] w' (w'.setCell ⟨bo, 4, none⟩ (.slice va' (E.length + 1) vc')) := (Keep.refl _ _).setCell (.inl (by simp)) 4 _
  have hl := ob_lt h1
  have hnew : ∀ b, (Value.slice va' (E.length + 1) vc').ownBlock = some b → b ≠ bo ∧ ∀ x ∈ kn, x.1 ≠ b := by
    intro b hb
    rcases g4 with g4 | g4
    · exact h3 b (g4.symm.trans hb)
    · rw [g4] at hb
      simp at hb
      subst hb
      refine ⟨by omega, fun x hx => ?_⟩
      have := ob_lt (h.ow x hx).1
      omega
  refine ⟨va, vc, va', vc', w', ?_, g1, ⟨⟨_, ?_, g2.keep hk (fun b hb => by simp; exact (hnew b hb).1), hnew⟩, fun x hx => ⟨hk.kp (kB.kp (h.ow x hx).1 (fun hm => (hno _ hm).2 x hx rfl)) (by simp; exact (h.ow x hx).2), (h.ow x hx).2⟩, ?_, h.b0⟩, ?_, ?_, hl⟩
  · rw [cell_of_ob h1]; rfl
  · exact (st_same o1).trans rfl
  · refine (h.kp.andThen kB (fun y hy => ?_)).andThen hk (by intro y hy; simp at hy; subst hy; exact .inr h.b0)
    simp only [Option.mem_toList] at hy
    exact .inr (ownBlock_ge h2 hy)
  · exact free_of_ob o1 4
  · exact ⟨_, cell_of_ob o1 4⟩

/-! ### what a step does, and how it is taken back -/
structure OpB where
  cell : Int
  add : Int
  fail : Int
def opQ (o : OpB) : Nat := (o.cell % 4).toNat
theorem opQ_lt (o : OpB) : opQ o < 4 := by unfold opQ; omega
theorem opQ_and (o : OpB) : bits .and .i64 o.cell 3 = ((opQ o : Nat) : Int) := by rw [i64_and3]; unfold opQ; omega
def doC (C : Nat → Int) (o : OpB) : Nat → Int := updC C (opQ o) (wrap64 (C (opQ o) + o.add))
def unC (C : Nat → Int) (o : OpB) : Nat → Int := updC C (opQ o) (wrap64 (C (opQ o) - o.add))
def opV (o : OpB) : Value := .agg #[.int .i64 o.cell, .int .i64 o.add, .int .i64 o.fail]
set_option maxRecDepth 100000 in
set_option maxHeartbeats 800000 in
theorem bDo_ok (W0 w : World) (bo : Nat) (kn : List (Nat × Obj)) (C : Nat → Int) (E : List (Int × Int)) (h : BDk W0 w bo kn C E) (hE : E.length ≤ 100000) (o : OpB) (hf : o.fail = 0) (i : Int) :
    Calls Try.prog 17 #[.pointer (some ⟨bo, 0, none⟩), opV o, .int .i64 i] w fun e w' => e = .returned (.int .i64 0) ∧ BDk W0 w' bo kn (doC C o) (E ++ [(1, i)]) := by
  obtain ⟨c, a, f⟩ := o
  simp only at hf
  subst hf
  have hq := opQ_lt ⟨c, a, 0⟩
  have hqa := opQ_and ⟨c, a, 0⟩
  simp only at hqa
  have hA := h.alloc #[.int .i64 c, .int .i64 a, .int .i64 0] 36
  have e0 := cell_of_ob (hA.obk (.head _)) 0
  have e1 := cell_of_ob (hA.obk (.head _)) 1
  have e2 := cell_of_ob (hA.obk (.head _)) 2
  simp only [List.getElem?_toArray, List.getElem?_cons_zero, List.getElem?_cons_succ] at e0 e1 e2
  have HA := Lib.hid hA
  clear h hA e0 e1 e2
  unfold opV
  go_enter Try.func17, Try.ntmps17
  go_upto_region 1 with fail
  have hA := HA.out
  generalize w.heap.size = xo at *
  generalize w.alloc (.cells #[.int .i64 c, .int .i64 a, .int .i64 0] 36) = wA at *
  obtain ⟨va, vc, va', vc', w1, g1, g2, g3, g4, ⟨g5, g6⟩, g7⟩ := hA.seen (1, i) hE
  have HG := Lib.hid g3
  clear hA HA g3
  generalize hL : E.length = L at *
  clear hL
  go_upto_region 2 with (first
    | (at_builtin; refine wpList_append_eq rfl _ _ 28 rfl rfl rfl (g2 _) ?_))
  have hG := HG.out
  generalize w1.setCell ⟨bo, 4, none⟩ (.slice va' (L + 1) vc') = w2 at *
  have e0 := cell_of_ob (hG.obk (.head _)) 0
  have e1 := cell_of_ob (hG.obk (.head _)) 1
  have e2 := cell_of_ob (hG.obk (.head _)) 2
  simp only [List.getElem?_toArray, List.getElem?_cons_zero, List.getElem?_cons_succ] at e0 e1 e2
  obtain ⟨v2, h2, -⟩ := hG.bd
  have cq := bd_cell h2 hq
  have fq := free_of_ob h2 (opQ ⟨c, a, 0⟩)
  have HE := Lib.hid (hG.put hq (wrap64 (C (opQ ⟨c, a, 0⟩) + a)))
  have hq4 : ((opQ ⟨c, a, 0⟩ : Nat) : Int) < 4 := by omega
  have hq0 : (0 : Int) ≤ ((opQ ⟨c, a, 0⟩ : Nat) : Int) := by omega
  have HC : Hid (doC C ⟨c, a, 0⟩ = updC C (opQ ⟨c, a, 0⟩) (wrap64 (C (opQ ⟨c, a, 0⟩) + a))) := Lib.hid rfl
  generalize opQ ⟨c, a, 0⟩ = q at *
  generalize C q = x at *
  clear HG hG h2 g1 g2 g4 g6 g7
  go_wp2_with fail
  go_still_tail 18, (by kernel_rfl)
  go_wp2
  go_ret
  rw [HC.out]
  exact ⟨rfl, HE.out.dropkd⟩
set_option maxRecDepth 100000 in
set_option maxHeartbeats 800000 in
theorem bDo_no (W0 w : World) (bo : Nat) (kn : List (Nat × Obj)) (C : Nat → Int) (E : List (Int × Int)) (h : BDk W0 w bo kn C E) (hE : E.length ≤ 100000) (o : OpB) (hf : o.fail ≠ 0) (i : Int) :
    Calls Try.prog 17 #[.pointer (some ⟨bo, 0, none⟩), opV o, .int .i64 i] w fun e w' => e = .returned (.int .i64 o.fail) ∧ BDk W0 w' bo kn C (E ++ [(1, i)]) := by
  obtain ⟨c, a, f⟩ := o
  simp only at hf ⊢
  have hf' : (f != 0) = true := by simpa using hf
  have hA := h.alloc #[.int .i64 c, .int .i64 a, .int .i64 f] 36
  have HA := Lib.hid hA
  clear h hA hf
  unfold opV
  go_enter Try.func17, Try.ntmps17
  go_upto_region 1 with fail
  have hA := HA.out
  generalize w.heap.size = xo at *
  generalize w.alloc (.cells #[.int .i64 c, .int .i64 a, .int .i64 f] 36) = wA at *
  obtain ⟨va, vc, va', vc', w1, g1, g2, g3, g4, ⟨g5, g6⟩, g7⟩ := hA.seen (1, i) hE
  have HG := Lib.hid g3
  clear hA HA g3
  generalize hL : E.length = L at *
  clear hL
  go_upto_region 2 with (first
    | (at_builtin; refine wpList_append_eq rfl _ _ 28 rfl rfl rfl (g2 _) ?_))
  have hG := HG.out
  generalize w1.setCell ⟨bo, 4, none⟩ (.slice va' (L + 1) vc') = w2 at *
  have e2 := cell_of_ob (hG.obk (.head _)) 2
  simp only [List.getElem?_toArray, List.getElem?_cons_zero, List.getElem?_cons_succ] at e2
  clear hG g1 g2 g4 g6 g7
  go_wp2
  go_ret
  exact ⟨rfl, HG.out.dropk (fun x hx => List.mem_cons_of_mem _ hx)⟩
set_option maxRecDepth 100000 in
set_option maxHeartbeats 800000 in
theorem bBack (W0 w : World) (bo : Nat) (kn : List (Nat × Obj)) (C : Nat → Int) (E : List (Int × Int)) (h : BDk W0 w bo kn C E) (hE : E.length ≤ 100000) (o : OpB) (i : Int) :
    Calls Try.prog 19 #[.pointer (some ⟨bo, 0, none⟩), opV o, .int .i64 i] w fun e w' => e = .returned (.tuple #[]) ∧ BDk W0 w' bo kn (unC C o) (E ++ [(2, i)]) := by
  obtain ⟨c, a, f⟩ := o
  have hq := opQ_lt ⟨c, a, f⟩
  have hqa := opQ_and ⟨c, a, f⟩
  simp only at hqa
  have hA := h.alloc #[.int .i64 c, .int .i64 a, .int .i64 f] 36
  have HA := Lib.hid hA
  have HC : Hid (unC C ⟨c, a, f⟩ = updC C (opQ ⟨c, a, f⟩) (wrap64 (C (opQ ⟨c, a, f⟩) - a))) := Lib.hid rfl
  clear h hA
  unfold opV
  go_enter Try.func19, Try.ntmps19
  go_upto_region 1 with fail
  have hA := HA.out
  generalize w.heap.size = xo at *
  generalize w.alloc (.cells #[.int .i64 c, .int .i64 a, .int .i64 f] 36) = wA at *
  have e0 := cell_of_ob (hA.obk (.head _)) 0
  have e1 := cell_of_ob (hA.obk (.head _)) 1
  simp only [List.getElem?_toArray, List.getElem?_cons_zero, List.getElem?_cons_succ] at e0 e1
  obtain ⟨v2, h2, -⟩ := hA.bd
  have cq := bd_cell h2 hq
  have fq := free_of_ob h2 (opQ ⟨c, a, f⟩)
  have HE := Lib.hid (hA.put hq (wrap64 (C (opQ ⟨c, a, f⟩) - a)))
  have hq4 : ((opQ ⟨c, a, f⟩ : Nat) : Int) < 4 := by omega
  have hq0 : (0 : Int) ≤ ((opQ ⟨c, a, f⟩ : Nat) : Int) := by omega
  generalize opQ ⟨c, a, f⟩ = q at *
  generalize hCq : C q = x at *
  have HX := Lib.hid hCq
  clear hA HA h2 hCq
  go_still_tail 18, (by kernel_rfl)
  go_upto_region 2 with fail
  have hG := HE.out.dropkd
  generalize (wA.setCell ⟨bo, q, none⟩ (.int .i64 (wrap64 (x - a)))).drew = w2 at *
  obtain ⟨va, vc, va', vc', w3, g1, g2, g3, g4, ⟨g5, g6⟩, g7⟩ := hG.seen (2, i) hE
  have HG := Lib.hid g3
  clear hG g3 HE e0 e1 cq fq hqa
  generalize hL : E.length = L at *
  clear hL
  go_wp2_with (first
    | (at_builtin; refine wpList_append_eq rfl _ _ 28 rfl rfl rfl (g2 _) ?_))
  go_end0
  rw [HC.out]
  exact ⟨rfl, HG.out⟩
end Go.Proofs.Ytfljhfggjbkomaa
