/-
  No cell of these rows narrows 'for every input' (looked for: loops, veiled, ifaces, maps, wideKeys, modest, calm, conditions, laid).
  DERIVED. THE GIVEN ROWS OF THIS SEAT. 10 by the template 'for every input the law returns true; each argument reads behind the call as it read before'; 0 by the template 'total and deterministic' (their statements: YtfljhfggjbkomaaTotals.lean).
  GIVEN WITH THE SEED: the statements are not yours to turn. If you find one false, say at which input.
  Laid BY PROGRAM, IN A SANDBOX (cutbox-rows.mjs): the forced cells as the released guide's own fill.sh prints them over the translation c9ba12c45440480f… (all of the seat's roots in one cut). By AI agents, Wed Nov 11 2026. No macro, syntax, notation, axiom, sorry.
-/
import Derived.Test.YtfljhfggjbkomaaChecked
import GoSem.Claim
import GoSem.ClaimJoined
import GoSem.ClaimMapViews
import Derived.JoinedTies
import Derived.KernelRfl
namespace Go.Proofs.Ytfljhfggjbkomaa
/- THE CELL 'sum', in the pinned program and in every row, IS THE sha256 OF THE DUMP (.gsa) THAT YtfljhfggjbkomaaProg.lean LOADS. Nothing in Lean hashes anything: it is a label: what it is worth is what the hold of that sum in a sandbox is worth. -/
noncomputable def Try.pinned : Pinned := { name := "ytfljhfggjbkomaa", sum := "c9ba12c45440480ff48b7f8b35b43f165834c94254225cd25560fe799be1602b", checked := Try.checked }
namespace Rows
def none {H : Type} : Left H := { results := [], args := [] }

/-- 'trunnionlaw21.UndoPlays': WHATEVER THE INPUT: true; the input reads as it did. -/
def undoPlaysSpec : ChangeSpec := { name := "undoPlays", fn := fun _ => fun
  | [d] => { results := [.lit (.bool true)], args := [d] }
  | _ => none }
def undoPlaysRow : OpenClaim := { program := "ytfljhfggjbkomaa", sum := "c9ba12c45440480ff48b7f8b35b43f165834c94254225cd25560fe799be1602b", func := "trunnion/trunnionlaw21.UndoPlays", spec := "undoPlays", unfollowed := true, recurses := true, apart := false }
def UndoPlaysSaid : Prop := undoPlaysRow.holds Try.pinned (OpenSpec.ofChange undoPlaysSpec)

/-- ITS FALSE NEIGHBOUR: 'it returns false'. Refute it at one input. -/
def undoPlaysWrong : ChangeSpec := { name := "undoPlays", fn := fun _ => fun
  | [d] => { results := [.lit (.bool false)], args := [d] }
  | _ => none }
def UndoPlaysWrongFalsely : Prop := undoPlaysRow.holds Try.pinned (OpenSpec.ofChange undoPlaysWrong)

/-- 'trunnionlaw21.UndoKeeps': WHATEVER THE INPUT: true; the input reads as it did. -/
def undoKeepsSpec : ChangeSpec := { name := "undoKeeps", fn := fun _ => fun
  | [d1, d2] => { results := [.lit (.bool true)], args := [d1, d2] }
  | _ => none }
def undoKeepsRow : OpenClaim := { program := "ytfljhfggjbkomaa", sum := "c9ba12c45440480ff48b7f8b35b43f165834c94254225cd25560fe799be1602b", func := "trunnion/trunnionlaw21.UndoKeeps", spec := "undoKeeps", unfollowed := true, recurses := true, apart := false }
def UndoKeepsSaid : Prop := undoKeepsRow.holds Try.pinned (OpenSpec.ofChange undoKeepsSpec)

/-- ITS FALSE NEIGHBOUR: 'it returns false'. Refute it at one input. -/
def undoKeepsWrong : ChangeSpec := { name := "undoKeeps", fn := fun _ => fun
  | [d1, d2] => { results := [.lit (.bool false)], args := [d1, d2] }
  | _ => none }
def UndoKeepsWrongFalsely : Prop := undoKeepsRow.holds Try.pinned (OpenSpec.ofChange undoKeepsWrong)

/-- 'trunnionlaw17.SamplingPlays': WHATEVER THE INPUT: true; the input reads as it did. -/
def samplingPlaysSpec : ChangeSpec := { name := "samplingPlays", fn := fun _ => fun
  | [d1, d2, d3] => { results := [.lit (.bool true)], args := [d1, d2, d3] }
  | _ => none }
def samplingPlaysRow : OpenClaim := { program := "ytfljhfggjbkomaa", sum := "c9ba12c45440480ff48b7f8b35b43f165834c94254225cd25560fe799be1602b", func := "trunnion/trunnionlaw17.SamplingPlays", spec := "samplingPlays", apart := false }
def SamplingPlaysSaid : Prop := samplingPlaysRow.holds Try.pinned (OpenSpec.ofChange samplingPlaysSpec)

/-- ITS FALSE NEIGHBOUR: 'it returns false'. Refute it at one input. -/
def samplingPlaysWrong : ChangeSpec := { name := "samplingPlays", fn := fun _ => fun
  | [d1, d2, d3] => { results := [.lit (.bool false)], args := [d1, d2, d3] }
  | _ => none }
def SamplingPlaysWrongFalsely : Prop := samplingPlaysRow.holds Try.pinned (OpenSpec.ofChange samplingPlaysWrong)

/-- 'trunnionlaw17.SamplingLast': WHATEVER THE INPUT: true; the input reads as it did. -/
def samplingLastSpec : ChangeSpec := { name := "samplingLast", fn := fun _ => fun
  | [d1, d2, d3] => { results := [.lit (.bool true)], args := [d1, d2, d3] }
  | _ => none }
def samplingLastRow : OpenClaim := { program := "ytfljhfggjbkomaa", sum := "c9ba12c45440480ff48b7f8b35b43f165834c94254225cd25560fe799be1602b", func := "trunnion/trunnionlaw17.SamplingLast", spec := "samplingLast", apart := false }
def SamplingLastSaid : Prop := samplingLastRow.holds Try.pinned (OpenSpec.ofChange samplingLastSpec)

/-- ITS FALSE NEIGHBOUR: 'it returns false'. Refute it at one input. -/
def samplingLastWrong : ChangeSpec := { name := "samplingLast", fn := fun _ => fun
  | [d1, d2, d3] => { results := [.lit (.bool false)], args := [d1, d2, d3] }
  | _ => none }
def SamplingLastWrongFalsely : Prop := samplingLastRow.holds Try.pinned (OpenSpec.ofChange samplingLastWrong)

/-- 'trunnionlaw24.CallsReads': WHATEVER THE INPUT: true; the input reads as it did. -/
def callsReadsSpec : ChangeSpec := { name := "callsReads", fn := fun _ => fun
  | [d1, d2, d3] => { results := [.lit (.bool true)], args := [d1, d2, d3] }
  | _ => none }
def callsReadsRow : OpenClaim := { program := "ytfljhfggjbkomaa", sum := "c9ba12c45440480ff48b7f8b35b43f165834c94254225cd25560fe799be1602b", func := "trunnion/trunnionlaw24.CallsReads", spec := "callsReads", unfollowed := true, recurses := true, apart := false }
def CallsReadsSaid : Prop := callsReadsRow.holds Try.pinned (OpenSpec.ofChange callsReadsSpec)

/-- ITS FALSE NEIGHBOUR: 'it returns false'. Refute it at one input. -/
def callsReadsWrong : ChangeSpec := { name := "callsReads", fn := fun _ => fun
  | [d1, d2, d3] => { results := [.lit (.bool false)], args := [d1, d2, d3] }
  | _ => none }
def CallsReadsWrongFalsely : Prop := callsReadsRow.holds Try.pinned (OpenSpec.ofChange callsReadsWrong)

/-- 'trunnionlaw24.CallsBack': WHATEVER THE INPUT: true; the input reads as it did. -/
def callsBackSpec : ChangeSpec := { name := "callsBack", fn := fun _ => fun
  | [d1, d2, d3] => { results := [.lit (.bool true)], args := [d1, d2, d3] }
  | _ => none }
def callsBackRow : OpenClaim := { program := "ytfljhfggjbkomaa", sum := "c9ba12c45440480ff48b7f8b35b43f165834c94254225cd25560fe799be1602b", func := "trunnion/trunnionlaw24.CallsBack", spec := "callsBack", unfollowed := true, recurses := true, apart := false }
def CallsBackSaid : Prop := callsBackRow.holds Try.pinned (OpenSpec.ofChange callsBackSpec)

/-- ITS FALSE NEIGHBOUR: 'it returns false'. Refute it at one input. -/
def callsBackWrong : ChangeSpec := { name := "callsBack", fn := fun _ => fun
  | [d1, d2, d3] => { results := [.lit (.bool false)], args := [d1, d2, d3] }
  | _ => none }
def CallsBackWrongFalsely : Prop := callsBackRow.holds Try.pinned (OpenSpec.ofChange callsBackWrong)

/-- 'trunnionlaw10.AsidPlays': WHATEVER THE INPUT: true; the input reads as it did. -/
def asidPlaysSpec : ChangeSpec := { name := "asidPlays", fn := fun _ => fun
  | [d1, d2] => { results := [.lit (.bool true)], args := [d1, d2] }
  | _ => none }
def asidPlaysRow : OpenClaim := { program := "ytfljhfggjbkomaa", sum := "c9ba12c45440480ff48b7f8b35b43f165834c94254225cd25560fe799be1602b", func := "trunnion/trunnionlaw10.AsidPlays", spec := "asidPlays", apart := false }
def AsidPlaysSaid : Prop := asidPlaysRow.holds Try.pinned (OpenSpec.ofChange asidPlaysSpec)

/-- ITS FALSE NEIGHBOUR: 'it returns false'. Refute it at one input. -/
def asidPlaysWrong : ChangeSpec := { name := "asidPlays", fn := fun _ => fun
  | [d1, d2] => { results := [.lit (.bool false)], args := [d1, d2] }
  | _ => none }
def AsidPlaysWrongFalsely : Prop := asidPlaysRow.holds Try.pinned (OpenSpec.ofChange asidPlaysWrong)

/-- 'trunnionlaw10.AsidOnce': WHATEVER THE INPUT: true; the input reads as it did. -/
def asidOnceSpec : ChangeSpec := { name := "asidOnce", fn := fun _ => fun
  | [d1, d2] => { results := [.lit (.bool true)], args := [d1, d2] }
  | _ => none }
def asidOnceRow : OpenClaim := { program := "ytfljhfggjbkomaa", sum := "c9ba12c45440480ff48b7f8b35b43f165834c94254225cd25560fe799be1602b", func := "trunnion/trunnionlaw10.AsidOnce", spec := "asidOnce", apart := false }
def AsidOnceSaid : Prop := asidOnceRow.holds Try.pinned (OpenSpec.ofChange asidOnceSpec)

/-- ITS FALSE NEIGHBOUR: 'it returns false'. Refute it at one input. -/
def asidOnceWrong : ChangeSpec := { name := "asidOnce", fn := fun _ => fun
  | [d1, d2] => { results := [.lit (.bool false)], args := [d1, d2] }
  | _ => none }
def AsidOnceWrongFalsely : Prop := asidOnceRow.holds Try.pinned (OpenSpec.ofChange asidOnceWrong)

/-- 'trunnionlaw10.AsidFair': WHATEVER THE INPUT: true; the input reads as it did. -/
def asidFairSpec : ChangeSpec := { name := "asidFair", fn := fun _ => fun
  | [d1, d2] => { results := [.lit (.bool true)], args := [d1, d2] }
  | _ => none }
def asidFairRow : OpenClaim := { program := "ytfljhfggjbkomaa", sum := "c9ba12c45440480ff48b7f8b35b43f165834c94254225cd25560fe799be1602b", func := "trunnion/trunnionlaw10.AsidFair", spec := "asidFair", apart := false }
def AsidFairSaid : Prop := asidFairRow.holds Try.pinned (OpenSpec.ofChange asidFairSpec)

/-- ITS FALSE NEIGHBOUR: 'it returns false'. Refute it at one input. -/
def asidFairWrong : ChangeSpec := { name := "asidFair", fn := fun _ => fun
  | [d1, d2] => { results := [.lit (.bool false)], args := [d1, d2] }
  | _ => none }
def AsidFairWrongFalsely : Prop := asidFairRow.holds Try.pinned (OpenSpec.ofChange asidFairWrong)

/-- 'trunnionlaw21.UndoAll': WHATEVER THE INPUT: true; the input reads as it did. -/
def undoAllSpec : ChangeSpec := { name := "undoAll", fn := fun _ => fun
  | [d] => { results := [.lit (.bool true)], args := [d] }
  | _ => none }
def undoAllRow : OpenClaim := { program := "ytfljhfggjbkomaa", sum := "c9ba12c45440480ff48b7f8b35b43f165834c94254225cd25560fe799be1602b", func := "trunnion/trunnionlaw21.UndoAll", spec := "undoAll", unfollowed := true, recurses := true, apart := false }
def UndoAllSaid : Prop := undoAllRow.holds Try.pinned (OpenSpec.ofChange undoAllSpec)

/-- ITS FALSE NEIGHBOUR: 'it returns false'. Refute it at one input. -/
def undoAllWrong : ChangeSpec := { name := "undoAll", fn := fun _ => fun
  | [d] => { results := [.lit (.bool false)], args := [d] }
  | _ => none }
def UndoAllWrongFalsely : Prop := undoAllRow.holds Try.pinned (OpenSpec.ofChange undoAllWrong)

/- THE SECOND FORM. 'bulk': how many values and letters a reading holds, each counted each time it is reached (what is shared counts as often as it is met; a slice's spare places count too). A statement '..UptoSaid' is the law's where the arguments, and the package variables that the reading takes, are together of bulk at most 1048576: NARROWER than '..Said'. Prove '..Said' where nothing that the law and all that it calls make is longer than what came in: it says more and counts as full. Else prove '..UptoSaid'. A law counts once. -/
mutual
def uptoBulk {H : Type} : DataW H → Nat
  | .lit (.string bytes) => bytes.length + 1
  | .lit _ => 1
  | .nil => 1
  | .ptr d => uptoBulk d + 1
  | .slice elems spare => uptoBulkAll elems + uptoBulkAll spare + 1
  | .agg parts => uptoBulkAll parts + 1
  | .iface _ d => uptoBulk d + 1
  | .map entries => uptoBulkEntries entries + 1
  | .held _ => 1
def uptoBulkAll {H : Type} : List (DataW H) → Nat
  | [] => 0
  | d :: r => uptoBulk d + uptoBulkAll r
def uptoBulkEntries {H : Type} : List (Lit × DataW H) → Nat
  | [] => 0
  | x :: r => uptoBulkEntry x + uptoBulkEntries r
def uptoBulkEntry {H : Type} : Lit × DataW H → Nat
  | (.string bytes, d) => bytes.length + uptoBulk d + 1
  | (_, d) => uptoBulk d + 1
 end
def uptoSmall : (H : Type) → List (DataW H) → Bool := fun _ ds => decide (uptoBulkAll ds ≤ 1048576)
def OpenSpec.upto (s : _root_.Go.ChangeSpec) : _root_.Go.OpenSpec := { _root_.Go.OpenSpec.ofChange s with cond := some uptoSmall }

/-- 'trunnionlaw21.UndoPlays', WHERE WHAT IT READS IS OF BULK AT MOST 1048576: true; the input reads as it did. -/
def undoPlaysUptoRow : OpenClaim := { program := "ytfljhfggjbkomaa", sum := "c9ba12c45440480ff48b7f8b35b43f165834c94254225cd25560fe799be1602b", func := "trunnion/trunnionlaw21.UndoPlays", spec := "undoPlays", unfollowed := true, recurses := true, apart := false, narrowed := true }
def UndoPlaysUptoSaid : Prop := undoPlaysUptoRow.holds Try.pinned (OpenSpec.upto undoPlaysSpec)

/-- 'trunnionlaw21.UndoKeeps', WHERE WHAT IT READS IS OF BULK AT MOST 1048576: true; the input reads as it did. -/
def undoKeepsUptoRow : OpenClaim := { program := "ytfljhfggjbkomaa", sum := "c9ba12c45440480ff48b7f8b35b43f165834c94254225cd25560fe799be1602b", func := "trunnion/trunnionlaw21.UndoKeeps", spec := "undoKeeps", unfollowed := true, recurses := true, apart := false, narrowed := true }
def UndoKeepsUptoSaid : Prop := undoKeepsUptoRow.holds Try.pinned (OpenSpec.upto undoKeepsSpec)

/-- 'trunnionlaw17.SamplingPlays', WHERE WHAT IT READS IS OF BULK AT MOST 1048576: true; the input reads as it did. -/
def samplingPlaysUptoRow : OpenClaim := { program := "ytfljhfggjbkomaa", sum := "c9ba12c45440480ff48b7f8b35b43f165834c94254225cd25560fe799be1602b", func := "trunnion/trunnionlaw17.SamplingPlays", spec := "samplingPlays", apart := false, narrowed := true }
def SamplingPlaysUptoSaid : Prop := samplingPlaysUptoRow.holds Try.pinned (OpenSpec.upto samplingPlaysSpec)

/-- 'trunnionlaw17.SamplingLast', WHERE WHAT IT READS IS OF BULK AT MOST 1048576: true; the input reads as it did. -/
def samplingLastUptoRow : OpenClaim := { program := "ytfljhfggjbkomaa", sum := "c9ba12c45440480ff48b7f8b35b43f165834c94254225cd25560fe799be1602b", func := "trunnion/trunnionlaw17.SamplingLast", spec := "samplingLast", apart := false, narrowed := true }
def SamplingLastUptoSaid : Prop := samplingLastUptoRow.holds Try.pinned (OpenSpec.upto samplingLastSpec)

/-- 'trunnionlaw24.CallsReads', WHERE WHAT IT READS IS OF BULK AT MOST 1048576: true; the input reads as it did. -/
def callsReadsUptoRow : OpenClaim := { program := "ytfljhfggjbkomaa", sum := "c9ba12c45440480ff48b7f8b35b43f165834c94254225cd25560fe799be1602b", func := "trunnion/trunnionlaw24.CallsReads", spec := "callsReads", unfollowed := true, recurses := true, apart := false, narrowed := true }
def CallsReadsUptoSaid : Prop := callsReadsUptoRow.holds Try.pinned (OpenSpec.upto callsReadsSpec)

/-- 'trunnionlaw24.CallsBack', WHERE WHAT IT READS IS OF BULK AT MOST 1048576: true; the input reads as it did. -/
def callsBackUptoRow : OpenClaim := { program := "ytfljhfggjbkomaa", sum := "c9ba12c45440480ff48b7f8b35b43f165834c94254225cd25560fe799be1602b", func := "trunnion/trunnionlaw24.CallsBack", spec := "callsBack", unfollowed := true, recurses := true, apart := false, narrowed := true }
def CallsBackUptoSaid : Prop := callsBackUptoRow.holds Try.pinned (OpenSpec.upto callsBackSpec)

/-- 'trunnionlaw10.AsidPlays', WHERE WHAT IT READS IS OF BULK AT MOST 1048576: true; the input reads as it did. -/
def asidPlaysUptoRow : OpenClaim := { program := "ytfljhfggjbkomaa", sum := "c9ba12c45440480ff48b7f8b35b43f165834c94254225cd25560fe799be1602b", func := "trunnion/trunnionlaw10.AsidPlays", spec := "asidPlays", apart := false, narrowed := true }
def AsidPlaysUptoSaid : Prop := asidPlaysUptoRow.holds Try.pinned (OpenSpec.upto asidPlaysSpec)

/-- 'trunnionlaw10.AsidOnce', WHERE WHAT IT READS IS OF BULK AT MOST 1048576: true; the input reads as it did. -/
def asidOnceUptoRow : OpenClaim := { program := "ytfljhfggjbkomaa", sum := "c9ba12c45440480ff48b7f8b35b43f165834c94254225cd25560fe799be1602b", func := "trunnion/trunnionlaw10.AsidOnce", spec := "asidOnce", apart := false, narrowed := true }
def AsidOnceUptoSaid : Prop := asidOnceUptoRow.holds Try.pinned (OpenSpec.upto asidOnceSpec)

/-- 'trunnionlaw10.AsidFair', WHERE WHAT IT READS IS OF BULK AT MOST 1048576: true; the input reads as it did. -/
def asidFairUptoRow : OpenClaim := { program := "ytfljhfggjbkomaa", sum := "c9ba12c45440480ff48b7f8b35b43f165834c94254225cd25560fe799be1602b", func := "trunnion/trunnionlaw10.AsidFair", spec := "asidFair", apart := false, narrowed := true }
def AsidFairUptoSaid : Prop := asidFairUptoRow.holds Try.pinned (OpenSpec.upto asidFairSpec)

/-- 'trunnionlaw21.UndoAll', WHERE WHAT IT READS IS OF BULK AT MOST 1048576: true; the input reads as it did. -/
def undoAllUptoRow : OpenClaim := { program := "ytfljhfggjbkomaa", sum := "c9ba12c45440480ff48b7f8b35b43f165834c94254225cd25560fe799be1602b", func := "trunnion/trunnionlaw21.UndoAll", spec := "undoAll", unfollowed := true, recurses := true, apart := false, narrowed := true }
def UndoAllUptoSaid : Prop := undoAllUptoRow.holds Try.pinned (OpenSpec.upto undoAllSpec)

end Rows
end Go.Proofs.Ytfljhfggjbkomaa
