/-
  No cell of these rows narrows 'for every input' (looked for: loops, veiled, ifaces, maps, wideKeys, modest, calm, conditions, laid).
  DERIVED. THE GIVEN ROWS OF THIS SEAT. 10 by the template 'for every input the law returns true; each argument reads behind the call as it read before'; 0 by the template 'total and deterministic' (their statements: YtjiienoflgolpaaTotals.lean).
  GIVEN WITH THE SEED: the statements are not yours to turn. If you find one false, say at which input.
  Laid BY PROGRAM, IN A SANDBOX (cutbox-rows.mjs): the forced cells as the released guide's own fill.sh prints them over the translation 547745ce0d8d1b78… (all of the seat's roots in one cut). By AI agents, Wed Nov 11 2026. No macro, syntax, notation, axiom, sorry.
-/
import Derived.Test.YtjiienoflgolpaaChecked
import GoSem.Claim
import GoSem.ClaimJoined
import GoSem.ClaimMapViews
import Derived.JoinedTies
import Derived.KernelRfl
namespace Go.Proofs.Ytjiienoflgolpaa
/- THE CELL 'sum', in the pinned program and in every row, IS THE sha256 OF THE DUMP (.gsa) THAT YtjiienoflgolpaaProg.lean LOADS. Nothing in Lean hashes anything: it is a label: what it is worth is what the hold of that sum in a sandbox is worth. -/
noncomputable def Try.pinned : Pinned := { name := "ytjiienoflgolpaa", sum := "547745ce0d8d1b78dedc8ae075a9c312ff4069407d799541bf55a996d11f55da", checked := Try.checked }
namespace Rows
def none {H : Type} : Left H := { results := [], args := [] }

/-- 'trunnionlaw18.QueueportPlays': WHATEVER THE INPUT: true; the input reads as it did. -/
def queueportPlaysSpec : ChangeSpec := { name := "queueportPlays", fn := fun _ => fun
  | [d1, d2, d3] => { results := [.lit (.bool true)], args := [d1, d2, d3] }
  | _ => none }
def queueportPlaysRow : OpenClaim := { program := "ytjiienoflgolpaa", sum := "547745ce0d8d1b78dedc8ae075a9c312ff4069407d799541bf55a996d11f55da", func := "trunnion/trunnionlaw18.QueueportPlays", spec := "queueportPlays", apart := false }
def QueueportPlaysSaid : Prop := queueportPlaysRow.holds Try.pinned (OpenSpec.ofChange queueportPlaysSpec)

/-- ITS FALSE NEIGHBOUR: 'it returns false'. Refute it at one input. -/
def queueportPlaysWrong : ChangeSpec := { name := "queueportPlays", fn := fun _ => fun
  | [d1, d2, d3] => { results := [.lit (.bool false)], args := [d1, d2, d3] }
  | _ => none }
def QueueportPlaysWrongFalsely : Prop := queueportPlaysRow.holds Try.pinned (OpenSpec.ofChange queueportPlaysWrong)

/-- 'trunnionlaw18.QueueportOrder': WHATEVER THE INPUT: true; the input reads as it did. -/
def queueportOrderSpec : ChangeSpec := { name := "queueportOrder", fn := fun _ => fun
  | [d1, d2] => { results := [.lit (.bool true)], args := [d1, d2] }
  | _ => none }
def queueportOrderRow : OpenClaim := { program := "ytjiienoflgolpaa", sum := "547745ce0d8d1b78dedc8ae075a9c312ff4069407d799541bf55a996d11f55da", func := "trunnion/trunnionlaw18.QueueportOrder", spec := "queueportOrder", apart := false }
def QueueportOrderSaid : Prop := queueportOrderRow.holds Try.pinned (OpenSpec.ofChange queueportOrderSpec)

/-- ITS FALSE NEIGHBOUR: 'it returns false'. Refute it at one input. -/
def queueportOrderWrong : ChangeSpec := { name := "queueportOrder", fn := fun _ => fun
  | [d1, d2] => { results := [.lit (.bool false)], args := [d1, d2] }
  | _ => none }
def QueueportOrderWrongFalsely : Prop := queueportOrderRow.holds Try.pinned (OpenSpec.ofChange queueportOrderWrong)

/-- 'trunnionlaw18.QueueportFull': WHATEVER THE INPUT: true; the input reads as it did. -/
def queueportFullSpec : ChangeSpec := { name := "queueportFull", fn := fun _ => fun
  | [d1, d2, d3] => { results := [.lit (.bool true)], args := [d1, d2, d3] }
  | _ => none }
def queueportFullRow : OpenClaim := { program := "ytjiienoflgolpaa", sum := "547745ce0d8d1b78dedc8ae075a9c312ff4069407d799541bf55a996d11f55da", func := "trunnion/trunnionlaw18.QueueportFull", spec := "queueportFull", apart := false }
def QueueportFullSaid : Prop := queueportFullRow.holds Try.pinned (OpenSpec.ofChange queueportFullSpec)

/-- ITS FALSE NEIGHBOUR: 'it returns false'. Refute it at one input. -/
def queueportFullWrong : ChangeSpec := { name := "queueportFull", fn := fun _ => fun
  | [d1, d2, d3] => { results := [.lit (.bool false)], args := [d1, d2, d3] }
  | _ => none }
def QueueportFullWrongFalsely : Prop := queueportFullRow.holds Try.pinned (OpenSpec.ofChange queueportFullWrong)

/-- 'trunnionlaw02.MemoryOne': WHATEVER THE INPUT: true; the input reads as it did. -/
def memoryOneSpec : ChangeSpec := { name := "memoryOne", fn := fun _ => fun
  | [d1, d2, d3] => { results := [.lit (.bool true)], args := [d1, d2, d3] }
  | _ => none }
def memoryOneRow : OpenClaim := { program := "ytjiienoflgolpaa", sum := "547745ce0d8d1b78dedc8ae075a9c312ff4069407d799541bf55a996d11f55da", func := "trunnion/trunnionlaw02.MemoryOne", spec := "memoryOne", apart := false }
def MemoryOneSaid : Prop := memoryOneRow.holds Try.pinned (OpenSpec.ofChange memoryOneSpec)

/-- ITS FALSE NEIGHBOUR: 'it returns false'. Refute it at one input. -/
def memoryOneWrong : ChangeSpec := { name := "memoryOne", fn := fun _ => fun
  | [d1, d2, d3] => { results := [.lit (.bool false)], args := [d1, d2, d3] }
  | _ => none }
def MemoryOneWrongFalsely : Prop := memoryOneRow.holds Try.pinned (OpenSpec.ofChange memoryOneWrong)

/-- 'trunnionlaw23.HealthApart': WHATEVER THE INPUT: true; the input reads as it did. -/
def healthApartSpec : ChangeSpec := { name := "healthApart", fn := fun _ => fun
  | [d1, d2] => { results := [.lit (.bool true)], args := [d1, d2] }
  | _ => none }
def healthApartRow : OpenClaim := { program := "ytjiienoflgolpaa", sum := "547745ce0d8d1b78dedc8ae075a9c312ff4069407d799541bf55a996d11f55da", func := "trunnion/trunnionlaw23.HealthApart", spec := "healthApart", apart := false }
def HealthApartSaid : Prop := healthApartRow.holds Try.pinned (OpenSpec.ofChange healthApartSpec)

/-- ITS FALSE NEIGHBOUR: 'it returns false'. Refute it at one input. -/
def healthApartWrong : ChangeSpec := { name := "healthApart", fn := fun _ => fun
  | [d1, d2] => { results := [.lit (.bool false)], args := [d1, d2] }
  | _ => none }
def HealthApartWrongFalsely : Prop := healthApartRow.holds Try.pinned (OpenSpec.ofChange healthApartWrong)

/-- 'trunnionlaw23.HealthPlays': WHATEVER THE INPUT: true; the input reads as it did. -/
def healthPlaysSpec : ChangeSpec := { name := "healthPlays", fn := fun _ => fun
  | [d] => { results := [.lit (.bool true)], args := [d] }
  | _ => none }
def healthPlaysRow : OpenClaim := { program := "ytjiienoflgolpaa", sum := "547745ce0d8d1b78dedc8ae075a9c312ff4069407d799541bf55a996d11f55da", func := "trunnion/trunnionlaw23.HealthPlays", spec := "healthPlays", apart := false }
def HealthPlaysSaid : Prop := healthPlaysRow.holds Try.pinned (OpenSpec.ofChange healthPlaysSpec)

/-- ITS FALSE NEIGHBOUR: 'it returns false'. Refute it at one input. -/
def healthPlaysWrong : ChangeSpec := { name := "healthPlays", fn := fun _ => fun
  | [d] => { results := [.lit (.bool false)], args := [d] }
  | _ => none }
def HealthPlaysWrongFalsely : Prop := healthPlaysRow.holds Try.pinned (OpenSpec.ofChange healthPlaysWrong)

/-- 'trunnionlaw23.HealthFew': WHATEVER THE INPUT: true; the input reads as it did. -/
def healthFewSpec : ChangeSpec := { name := "healthFew", fn := fun _ => fun
  | [d] => { results := [.lit (.bool true)], args := [d] }
  | _ => none }
def healthFewRow : OpenClaim := { program := "ytjiienoflgolpaa", sum := "547745ce0d8d1b78dedc8ae075a9c312ff4069407d799541bf55a996d11f55da", func := "trunnion/trunnionlaw23.HealthFew", spec := "healthFew", apart := false }
def HealthFewSaid : Prop := healthFewRow.holds Try.pinned (OpenSpec.ofChange healthFewSpec)

/-- ITS FALSE NEIGHBOUR: 'it returns false'. Refute it at one input. -/
def healthFewWrong : ChangeSpec := { name := "healthFew", fn := fun _ => fun
  | [d] => { results := [.lit (.bool false)], args := [d] }
  | _ => none }
def HealthFewWrongFalsely : Prop := healthFewRow.holds Try.pinned (OpenSpec.ofChange healthFewWrong)

/-- 'trunnionlaw02.MemoryPlays': WHATEVER THE INPUT: true; the input reads as it did. -/
def memoryPlaysSpec : ChangeSpec := { name := "memoryPlays", fn := fun _ => fun
  | [d1, d2] => { results := [.lit (.bool true)], args := [d1, d2] }
  | _ => none }
def memoryPlaysRow : OpenClaim := { program := "ytjiienoflgolpaa", sum := "547745ce0d8d1b78dedc8ae075a9c312ff4069407d799541bf55a996d11f55da", func := "trunnion/trunnionlaw02.MemoryPlays", spec := "memoryPlays", apart := false }
def MemoryPlaysSaid : Prop := memoryPlaysRow.holds Try.pinned (OpenSpec.ofChange memoryPlaysSpec)

/-- ITS FALSE NEIGHBOUR: 'it returns false'. Refute it at one input. -/
def memoryPlaysWrong : ChangeSpec := { name := "memoryPlays", fn := fun _ => fun
  | [d1, d2] => { results := [.lit (.bool false)], args := [d1, d2] }
  | _ => none }
def MemoryPlaysWrongFalsely : Prop := memoryPlaysRow.holds Try.pinned (OpenSpec.ofChange memoryPlaysWrong)

/-- 'trunnionlaw02.MemoryOwn': WHATEVER THE INPUT: true; the input reads as it did. -/
def memoryOwnSpec : ChangeSpec := { name := "memoryOwn", fn := fun _ => fun
  | [d1, d2, d3] => { results := [.lit (.bool true)], args := [d1, d2, d3] }
  | _ => none }
def memoryOwnRow : OpenClaim := { program := "ytjiienoflgolpaa", sum := "547745ce0d8d1b78dedc8ae075a9c312ff4069407d799541bf55a996d11f55da", func := "trunnion/trunnionlaw02.MemoryOwn", spec := "memoryOwn", apart := false }
def MemoryOwnSaid : Prop := memoryOwnRow.holds Try.pinned (OpenSpec.ofChange memoryOwnSpec)

/-- ITS FALSE NEIGHBOUR: 'it returns false'. Refute it at one input. -/
def memoryOwnWrong : ChangeSpec := { name := "memoryOwn", fn := fun _ => fun
  | [d1, d2, d3] => { results := [.lit (.bool false)], args := [d1, d2, d3] }
  | _ => none }
def MemoryOwnWrongFalsely : Prop := memoryOwnRow.holds Try.pinned (OpenSpec.ofChange memoryOwnWrong)

/-- 'trunnionlaw02.MemoryScrubs': WHATEVER THE INPUT: true; the input reads as it did. -/
def memoryScrubsSpec : ChangeSpec := { name := "memoryScrubs", fn := fun _ => fun
  | [d1, d2] => { results := [.lit (.bool true)], args := [d1, d2] }
  | _ => none }
def memoryScrubsRow : OpenClaim := { program := "ytjiienoflgolpaa", sum := "547745ce0d8d1b78dedc8ae075a9c312ff4069407d799541bf55a996d11f55da", func := "trunnion/trunnionlaw02.MemoryScrubs", spec := "memoryScrubs", apart := false }
def MemoryScrubsSaid : Prop := memoryScrubsRow.holds Try.pinned (OpenSpec.ofChange memoryScrubsSpec)

/-- ITS FALSE NEIGHBOUR: 'it returns false'. Refute it at one input. -/
def memoryScrubsWrong : ChangeSpec := { name := "memoryScrubs", fn := fun _ => fun
  | [d1, d2] => { results := [.lit (.bool false)], args := [d1, d2] }
  | _ => none }
def MemoryScrubsWrongFalsely : Prop := memoryScrubsRow.holds Try.pinned (OpenSpec.ofChange memoryScrubsWrong)

/- THE SECOND FORM. 'bulk': how many values and letters a reading holds, each counted each time it is reached (what is shared counts as often as it is met; a slice's spare places count too). A statement '..UptoSaid' is the law's where the arguments, and the package variables that the reading takes, are together of bulk at most 1048576: NARROWER than '..Said'. Prove '..Said' where nothing that the law and all that it calls make is longer than what came in: it says more and counts as full. Else prove '..UptoSaid'. A law counts once. -/
mutual
def uptoBulk {H : Type} : DataW H → Nat
  | .lit (.string bytes) => bytes.length + 1
  | .lit _ => 1
  | .nil => 1
  | .ptr d => uptoBulk d + 1
  | .slice elems spare => uptoBulkAll elems + uptoBulkAll spare + 1
  | .agg parts => uptoBulkAll parts + 1
  | .iface _ d => uptoBulk d + 1
  | .map entries => uptoBulkEntries entries + 1
  | .held _ => 1
def uptoBulkAll {H : Type} : List (DataW H) → Nat
  | [] => 0
  | d :: r => uptoBulk d + uptoBulkAll r
def uptoBulkEntries {H : Type} : List (Lit × DataW H) → Nat
  | [] => 0
  | x :: r => uptoBulkEntry x + uptoBulkEntries r
def uptoBulkEntry {H : Type} : Lit × DataW H → Nat
  | (.string bytes, d) => bytes.length + uptoBulk d + 1
  | (_, d) => uptoBulk d + 1
 end
def uptoSmall : (H : Type) → List (DataW H) → Bool := fun _ ds => decide (uptoBulkAll ds ≤ 1048576)
def OpenSpec.upto (s : _root_.Go.ChangeSpec) : _root_.Go.OpenSpec := { _root_.Go.OpenSpec.ofChange s with cond := some uptoSmall }

/-- 'trunnionlaw18.QueueportPlays', WHERE WHAT IT READS IS OF BULK AT MOST 1048576: true; the input reads as it did. -/
def queueportPlaysUptoRow : OpenClaim := { program := "ytjiienoflgolpaa", sum := "547745ce0d8d1b78dedc8ae075a9c312ff4069407d799541bf55a996d11f55da", func := "trunnion/trunnionlaw18.QueueportPlays", spec := "queueportPlays", apart := false, narrowed := true }
def QueueportPlaysUptoSaid : Prop := queueportPlaysUptoRow.holds Try.pinned (OpenSpec.upto queueportPlaysSpec)

/-- 'trunnionlaw18.QueueportOrder', WHERE WHAT IT READS IS OF BULK AT MOST 1048576: true; the input reads as it did. -/
def queueportOrderUptoRow : OpenClaim := { program := "ytjiienoflgolpaa", sum := "547745ce0d8d1b78dedc8ae075a9c312ff4069407d799541bf55a996d11f55da", func := "trunnion/trunnionlaw18.QueueportOrder", spec := "queueportOrder", apart := false, narrowed := true }
def QueueportOrderUptoSaid : Prop := queueportOrderUptoRow.holds Try.pinned (OpenSpec.upto queueportOrderSpec)

/-- 'trunnionlaw18.QueueportFull', WHERE WHAT IT READS IS OF BULK AT MOST 1048576: true; the input reads as it did. -/
def queueportFullUptoRow : OpenClaim := { program := "ytjiienoflgolpaa", sum := "547745ce0d8d1b78dedc8ae075a9c312ff4069407d799541bf55a996d11f55da", func := "trunnion/trunnionlaw18.QueueportFull", spec := "queueportFull", apart := false, narrowed := true }
def QueueportFullUptoSaid : Prop := queueportFullUptoRow.holds Try.pinned (OpenSpec.upto queueportFullSpec)

/-- 'trunnionlaw02.MemoryOne', WHERE WHAT IT READS IS OF BULK AT MOST 1048576: true; the input reads as it did. -/
def memoryOneUptoRow : OpenClaim := { program := "ytjiienoflgolpaa", sum := "547745ce0d8d1b78dedc8ae075a9c312ff4069407d799541bf55a996d11f55da", func := "trunnion/trunnionlaw02.MemoryOne", spec := "memoryOne", apart := false, narrowed := true }
def MemoryOneUptoSaid : Prop := memoryOneUptoRow.holds Try.pinned (OpenSpec.upto memoryOneSpec)

/-- 'trunnionlaw23.HealthApart', WHERE WHAT IT READS IS OF BULK AT MOST 1048576: true; the input reads as it did. -/
def healthApartUptoRow : OpenClaim := { program := "ytjiienoflgolpaa", sum := "547745ce0d8d1b78dedc8ae075a9c312ff4069407d799541bf55a996d11f55da", func := "trunnion/trunnionlaw23.HealthApart", spec := "healthApart", apart := false, narrowed := true }
def HealthApartUptoSaid : Prop := healthApartUptoRow.holds Try.pinned (OpenSpec.upto healthApartSpec)

/-- 'trunnionlaw23.HealthPlays', WHERE WHAT IT READS IS OF BULK AT MOST 1048576: true; the input reads as it did. -/
def healthPlaysUptoRow : OpenClaim := { program := "ytjiienoflgolpaa", sum := "547745ce0d8d1b78dedc8ae075a9c312ff4069407d799541bf55a996d11f55da", func := "trunnion/trunnionlaw23.HealthPlays", spec := "healthPlays", apart := false, narrowed := true }
def HealthPlaysUptoSaid : Prop := healthPlaysUptoRow.holds Try.pinned (OpenSpec.upto healthPlaysSpec)

/-- 'trunnionlaw23.HealthFew', WHERE WHAT IT READS IS OF BULK AT MOST 1048576: true; the input reads as it did. -/
def healthFewUptoRow : OpenClaim := { program := "ytjiienoflgolpaa", sum := "547745ce0d8d1b78dedc8ae075a9c312ff4069407d799541bf55a996d11f55da", func := "trunnion/trunnionlaw23.HealthFew", spec := "healthFew", apart := false, narrowed := true }
def HealthFewUptoSaid : Prop := healthFewUptoRow.holds Try.pinned (OpenSpec.upto healthFewSpec)

/-- 'trunnionlaw02.MemoryPlays', WHERE WHAT IT READS IS OF BULK AT MOST 1048576: true; the input reads as it did. -/
def memoryPlaysUptoRow : OpenClaim := { program := "ytjiienoflgolpaa", sum := "547745ce0d8d1b78dedc8ae075a9c312ff4069407d799541bf55a996d11f55da", func := "trunnion/trunnionlaw02.MemoryPlays", spec := "memoryPlays", apart := false, narrowed := true }
def MemoryPlaysUptoSaid : Prop := memoryPlaysUptoRow.holds Try.pinned (OpenSpec.upto memoryPlaysSpec)

/-- 'trunnionlaw02.MemoryOwn', WHERE WHAT IT READS IS OF BULK AT MOST 1048576: true; the input reads as it did. -/
def memoryOwnUptoRow : OpenClaim := { program := "ytjiienoflgolpaa", sum := "547745ce0d8d1b78dedc8ae075a9c312ff4069407d799541bf55a996d11f55da", func := "trunnion/trunnionlaw02.MemoryOwn", spec := "memoryOwn", apart := false, narrowed := true }
def MemoryOwnUptoSaid : Prop := memoryOwnUptoRow.holds Try.pinned (OpenSpec.upto memoryOwnSpec)

/-- 'trunnionlaw02.MemoryScrubs', WHERE WHAT IT READS IS OF BULK AT MOST 1048576: true; the input reads as it did. -/
def memoryScrubsUptoRow : OpenClaim := { program := "ytjiienoflgolpaa", sum := "547745ce0d8d1b78dedc8ae075a9c312ff4069407d799541bf55a996d11f55da", func := "trunnion/trunnionlaw02.MemoryScrubs", spec := "memoryScrubs", apart := false, narrowed := true }
def MemoryScrubsUptoSaid : Prop := memoryScrubsUptoRow.holds Try.pinned (OpenSpec.upto memoryScrubsSpec)

end Rows
end Go.Proofs.Ytjiienoflgolpaa
