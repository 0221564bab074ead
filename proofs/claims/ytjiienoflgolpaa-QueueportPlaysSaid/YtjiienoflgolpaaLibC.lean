/- Channels in one goroutine: a call by its contract within such a walk. -/
import Derived.Test.YtjiienoflgolpaaLibS
import Derived.Conc.LoneCalls
import Derived.Conc.LoneSelect
import Derived.Conc.LoneSelectN
import Derived.KernelRfl
import Derived.Laws.Rows
namespace Go.Proofs.Ytjiienoflgolpaa
open Go.Conc Go.RowKit

theorem loneTo_call {P : Program} {Q : Goroutine → World → Prop} {b : Frame} {a : Act} {ops : Array Oper} {i : Nat} {rest : List Nat} {k : List Item} {cs : List Frame} {w : World} {o : Oper} {f : FuncId} {args : Array Value} {R : Ending → World → Prop}
    (ho : ops[i]? = some o) (hw : Region.wanted o (yielded ops a.tmps) = true) (hk : b.kind ≠ .early) (hr : (execOp a.eval o).run P w = .ok (.enter f args) w)
    (hc : Calls P f args w R) (h : ∀ e w', R e w' → ∃ v, e = .returned v ∧ LoneTo P Q (G ((b.at a (.inRegion ops (i :: rest) :: k)).finish v) cs) w') :
    LoneTo P Q (G (b.at a (.inRegion ops (i :: rest) :: k)) cs) w := by
  obtain ⟨e, w', fr, hR, hcom, hf, hl⟩ := hc (b.at a (.inRegion ops (i :: rest) :: k) :: cs)
  obtain ⟨v, rfl, hL⟩ := h e w' hR
  obtain ⟨g2, w2, hs, hq⟩ := hL
  refine ⟨g2, w2, ?_, hq⟩
  have s1 := step_solo_go (P := P) rfl (stepG_enter (main := true) (cs := cs) (k := k) (rest := rest) ho hw hk hr)
  have s2 := step_leave_returned hl (c := b.at a (.inRegion ops (i :: rest) :: k)) (cs := cs)
  exact Steps.trans (Steps.head s1 hcom) (Steps.head s2 hs)

/-- what is to come of each way out of a piece of code that is walked as ever -/
def ThenTo (P : Program) (Q : Goroutine → World → Prop) (b : Frame) (k : List Item) (cs : List Frame) : Exit → Act → World → Prop
  | .normal, a', w' => LoneTo P Q (G (b.at a' k) cs) w'
  | .ret, a', w' => ∀ todo, LoneTo P Q (G { b.at a' todo with mode := .returning } cs) w'
  | _, _, _ => False
theorem loneTo_wp {P : Program} {Q : Goroutine → World → Prop} {b : Frame} {a : Act} {k : List Item} {cs : List Frame} {w : World} {c : Code}
    (h : c.wp P (ThenTo P Q b k cs) a w) : LoneTo P Q (G (b.at a (.code c :: k)) cs) w := by
  obtain ⟨e, a', w', hq, harr⟩ := h b k cs
  cases e with
  | normal => obtain ⟨g2, w2, hs, hq2⟩ := hq; exact ⟨g2, w2, Steps.trans harr hs, hq2⟩
  | ret => obtain ⟨todo, hs0⟩ := harr; obtain ⟨g2, w2, hs, hq2⟩ := hq todo; exact ⟨g2, w2, Steps.trans hs0 hs, hq2⟩
  | panic => exact hq.elim
  | exit => exact hq.elim
  | goto => exact hq.elim
  | outgrown => exact hq.elim

theorem loneTo_seq {P : Program} {Q : Goroutine → World → Prop} {b : Frame} {a : Act} {k : List Item} {cs : List Frame} {w : World} {x y : Code} (h : LoneTo P Q (G (b.at a (.code x :: .code y :: k)) cs) w) :
    LoneTo P Q (G (b.at a (.code (x.seq y) :: k)) cs) w := LoneTo.step (step_solo_go rfl stepG_seq) h
/-- what the walk of a function is to come to -/
def Out (P : Program) (f : FuncId) (R : Ending → World → Prop) (cs : List Frame) (g' : Goroutine) (w' : World) : Prop := ∃ e fr, g' = G fr cs ∧ R e w' ∧ fr.fn = f ∧ fr.leaving P w' e
theorem out_ret {P : Program} {f : FuncId} {fn : Func} {R : Ending → World → Prop} {cs : List Frame} {k : List Item} {a : Act} {w : World} {v : Value} (hf : P.funcs[f]? = some fn) (hd : a.defers = []) (hr : (results fn a.tmps).run P w = .ok v w) (hR : R (.returned v) w) :
    ThenTo P (Out P f R cs) (base f) k cs .ret a w := fun _ => LoneTo.done ⟨.returned v, _, rfl, hR, rfl, rfl, hd, rfl, fn, hf, hr⟩
theorem then_normal {P : Program} {Q : Goroutine → World → Prop} {b : Frame} {k : List Item} {cs : List Frame} {a : Act} {w : World} (h : LoneTo P Q (G (b.at a k) cs) w) : ThenTo P Q b k cs .normal a w := h

/-! ### the channel's block -/
theorem ob_setChan (w : World) (c cap : Nat) (buf : Array Value) (cl : Bool) (s r : Nat) (tm : Bool) (k : Nat) : ob (w.setChan c cap buf cl s r tm) k = if k = c then (ob w k).map (fun _ => Obj.chan cap buf cl s r tm) else ob w k :=
  ob_setBlock w c (.chan cap buf cl s r tm) k
theorem Keep.setChan {S : List Nat} {a w : World} (h : Keep S a w) {c : Nat} (hb : c ∈ S ∨ a.heap.size ≤ c) (cap : Nat) (buf : Array Value) (cl : Bool) (s r : Nat) (tm : Bool) : Keep S a (w.setChan c cap buf cl s r tm) :=
  Keep.setBlock (w := w) h hb (.chan cap buf cl s r tm)
end Go.Proofs.Ytjiienoflgolpaa
