/-
  No cell of these rows narrows 'for every input' (looked for: loops, veiled, ifaces, maps, wideKeys, modest, calm, conditions, laid).
  DERIVED. THE GIVEN ROWS OF THIS SEAT. 10 by the template 'for every input the law returns true; each argument reads behind the call as it read before'; 0 by the template 'total and deterministic' (their statements: YtpkpdfljhpieaaaTotals.lean).
  GIVEN WITH THE SEED: the statements are not yours to turn. If you find one false, say at which input.
  Laid BY PROGRAM, IN A SANDBOX (cutbox-rows.mjs): the forced cells as the released guide's own fill.sh prints them over the translation fa03a551e452626a… (all of the seat's roots in one cut). By AI agents, Wed Nov 11 2026. No macro, syntax, notation, axiom, sorry.
-/
import Derived.Test.YtpkpdfljhpieaaaChecked
import GoSem.Claim
import GoSem.ClaimJoined
import GoSem.ClaimMapViews
import Derived.JoinedTies
import Derived.KernelRfl
namespace Go.Proofs.Ytpkpdfljhpieaaa
/- THE CELL 'sum', in the pinned program and in every row, IS THE sha256 OF THE DUMP (.gsa) THAT YtpkpdfljhpieaaaProg.lean LOADS. Nothing in Lean hashes anything: it is a label: what it is worth is what the hold of that sum in a sandbox is worth. -/
noncomputable def Try.pinned : Pinned := { name := "ytpkpdfljhpieaaa", sum := "fa03a551e452626ae77325e8b74429cc226960635a984a598c1392511c047edf", checked := Try.checked }
namespace Rows
def none {H : Type} : Left H := { results := [], args := [] }

/-- 'trunnionlaw01.BitsFields': WHATEVER THE INPUT: true; the input reads as it did. -/
def bitsFieldsSpec : ChangeSpec := { name := "bitsFields", fn := fun _ => fun
  | [d1, d2, d3] => { results := [.lit (.bool true)], args := [d1, d2, d3] }
  | _ => none }
def bitsFieldsRow : OpenClaim := { program := "ytpkpdfljhpieaaa", sum := "fa03a551e452626ae77325e8b74429cc226960635a984a598c1392511c047edf", func := "trunnion/trunnionlaw01.BitsFields", spec := "bitsFields", apart := false }
def BitsFieldsSaid : Prop := bitsFieldsRow.holds Try.pinned (OpenSpec.ofChange bitsFieldsSpec)

/-- ITS FALSE NEIGHBOUR: 'it returns false'. Refute it at one input. -/
def bitsFieldsWrong : ChangeSpec := { name := "bitsFields", fn := fun _ => fun
  | [d1, d2, d3] => { results := [.lit (.bool false)], args := [d1, d2, d3] }
  | _ => none }
def BitsFieldsWrongFalsely : Prop := bitsFieldsRow.holds Try.pinned (OpenSpec.ofChange bitsFieldsWrong)

/-- 'trunnionlaw01.BitsBack': WHATEVER THE INPUT: true; the input reads as it did. -/
def bitsBackSpec : ChangeSpec := { name := "bitsBack", fn := fun _ => fun
  | [d1, d2, d3] => { results := [.lit (.bool true)], args := [d1, d2, d3] }
  | _ => none }
def bitsBackRow : OpenClaim := { program := "ytpkpdfljhpieaaa", sum := "fa03a551e452626ae77325e8b74429cc226960635a984a598c1392511c047edf", func := "trunnion/trunnionlaw01.BitsBack", spec := "bitsBack", apart := false }
def BitsBackSaid : Prop := bitsBackRow.holds Try.pinned (OpenSpec.ofChange bitsBackSpec)

/-- ITS FALSE NEIGHBOUR: 'it returns false'. Refute it at one input. -/
def bitsBackWrong : ChangeSpec := { name := "bitsBack", fn := fun _ => fun
  | [d1, d2, d3] => { results := [.lit (.bool false)], args := [d1, d2, d3] }
  | _ => none }
def BitsBackWrongFalsely : Prop := bitsBackRow.holds Try.pinned (OpenSpec.ofChange bitsBackWrong)

/-- 'trunnionlaw01.BitsApart': WHATEVER THE INPUT: true; the input reads as it did. -/
def bitsApartSpec : ChangeSpec := { name := "bitsApart", fn := fun _ => fun
  | [d1, d2, d3] => { results := [.lit (.bool true)], args := [d1, d2, d3] }
  | _ => none }
def bitsApartRow : OpenClaim := { program := "ytpkpdfljhpieaaa", sum := "fa03a551e452626ae77325e8b74429cc226960635a984a598c1392511c047edf", func := "trunnion/trunnionlaw01.BitsApart", spec := "bitsApart", apart := false }
def BitsApartSaid : Prop := bitsApartRow.holds Try.pinned (OpenSpec.ofChange bitsApartSpec)

/-- ITS FALSE NEIGHBOUR: 'it returns false'. Refute it at one input. -/
def bitsApartWrong : ChangeSpec := { name := "bitsApart", fn := fun _ => fun
  | [d1, d2, d3] => { results := [.lit (.bool false)], args := [d1, d2, d3] }
  | _ => none }
def BitsApartWrongFalsely : Prop := bitsApartRow.holds Try.pinned (OpenSpec.ofChange bitsApartWrong)

/-- 'trunnionlaw01.BitsLogs': WHATEVER THE INPUT: true; the input reads as it did. -/
def bitsLogsSpec : ChangeSpec := { name := "bitsLogs", fn := fun _ => fun
  | [d1, d2] => { results := [.lit (.bool true)], args := [d1, d2] }
  | _ => none }
def bitsLogsRow : OpenClaim := { program := "ytpkpdfljhpieaaa", sum := "fa03a551e452626ae77325e8b74429cc226960635a984a598c1392511c047edf", func := "trunnion/trunnionlaw01.BitsLogs", spec := "bitsLogs", apart := false }
def BitsLogsSaid : Prop := bitsLogsRow.holds Try.pinned (OpenSpec.ofChange bitsLogsSpec)

/-- ITS FALSE NEIGHBOUR: 'it returns false'. Refute it at one input. -/
def bitsLogsWrong : ChangeSpec := { name := "bitsLogs", fn := fun _ => fun
  | [d1, d2] => { results := [.lit (.bool false)], args := [d1, d2] }
  | _ => none }
def BitsLogsWrongFalsely : Prop := bitsLogsRow.holds Try.pinned (OpenSpec.ofChange bitsLogsWrong)

/-- 'trunnionlaw01.BitsWhole': WHATEVER THE INPUT: true; the input reads as it did. -/
def bitsWholeSpec : ChangeSpec := { name := "bitsWhole", fn := fun _ => fun
  | [d1, d2] => { results := [.lit (.bool true)], args := [d1, d2] }
  | _ => none }
def bitsWholeRow : OpenClaim := { program := "ytpkpdfljhpieaaa", sum := "fa03a551e452626ae77325e8b74429cc226960635a984a598c1392511c047edf", func := "trunnion/trunnionlaw01.BitsWhole", spec := "bitsWhole", apart := false }
def BitsWholeSaid : Prop := bitsWholeRow.holds Try.pinned (OpenSpec.ofChange bitsWholeSpec)

/-- ITS FALSE NEIGHBOUR: 'it returns false'. Refute it at one input. -/
def bitsWholeWrong : ChangeSpec := { name := "bitsWhole", fn := fun _ => fun
  | [d1, d2] => { results := [.lit (.bool false)], args := [d1, d2] }
  | _ => none }
def BitsWholeWrongFalsely : Prop := bitsWholeRow.holds Try.pinned (OpenSpec.ofChange bitsWholeWrong)

/-- 'trunnionlaw01.BitsNumbers': WHATEVER THE INPUT: true; the input reads as it did. -/
def bitsNumbersSpec : ChangeSpec := { name := "bitsNumbers", fn := fun _ => fun
  | [d1, d2, d3] => { results := [.lit (.bool true)], args := [d1, d2, d3] }
  | _ => none }
def bitsNumbersRow : OpenClaim := { program := "ytpkpdfljhpieaaa", sum := "fa03a551e452626ae77325e8b74429cc226960635a984a598c1392511c047edf", func := "trunnion/trunnionlaw01.BitsNumbers", spec := "bitsNumbers", apart := false }
def BitsNumbersSaid : Prop := bitsNumbersRow.holds Try.pinned (OpenSpec.ofChange bitsNumbersSpec)

/-- ITS FALSE NEIGHBOUR: 'it returns false'. Refute it at one input. -/
def bitsNumbersWrong : ChangeSpec := { name := "bitsNumbers", fn := fun _ => fun
  | [d1, d2, d3] => { results := [.lit (.bool false)], args := [d1, d2, d3] }
  | _ => none }
def BitsNumbersWrongFalsely : Prop := bitsNumbersRow.holds Try.pinned (OpenSpec.ofChange bitsNumbersWrong)

/-- 'trunnionlaw20.PcbNext': WHATEVER THE INPUT: true; the input reads as it did. -/
def pcbNextSpec : ChangeSpec := { name := "pcbNext", fn := fun _ => fun
  | [d1, d2] => { results := [.lit (.bool true)], args := [d1, d2] }
  | _ => none }
def pcbNextRow : OpenClaim := { program := "ytpkpdfljhpieaaa", sum := "fa03a551e452626ae77325e8b74429cc226960635a984a598c1392511c047edf", func := "trunnion/trunnionlaw20.PcbNext", spec := "pcbNext", apart := false }
def PcbNextSaid : Prop := pcbNextRow.holds Try.pinned (OpenSpec.ofChange pcbNextSpec)

/-- ITS FALSE NEIGHBOUR: 'it returns false'. Refute it at one input. -/
def pcbNextWrong : ChangeSpec := { name := "pcbNext", fn := fun _ => fun
  | [d1, d2] => { results := [.lit (.bool false)], args := [d1, d2] }
  | _ => none }
def PcbNextWrongFalsely : Prop := pcbNextRow.holds Try.pinned (OpenSpec.ofChange pcbNextWrong)

/-- 'trunnionlaw20.PcbPlays': WHATEVER THE INPUT: true; the input reads as it did. -/
def pcbPlaysSpec : ChangeSpec := { name := "pcbPlays", fn := fun _ => fun
  | [d] => { results := [.lit (.bool true)], args := [d] }
  | _ => none }
def pcbPlaysRow : OpenClaim := { program := "ytpkpdfljhpieaaa", sum := "fa03a551e452626ae77325e8b74429cc226960635a984a598c1392511c047edf", func := "trunnion/trunnionlaw20.PcbPlays", spec := "pcbPlays", apart := false }
def PcbPlaysSaid : Prop := pcbPlaysRow.holds Try.pinned (OpenSpec.ofChange pcbPlaysSpec)

/-- ITS FALSE NEIGHBOUR: 'it returns false'. Refute it at one input. -/
def pcbPlaysWrong : ChangeSpec := { name := "pcbPlays", fn := fun _ => fun
  | [d] => { results := [.lit (.bool false)], args := [d] }
  | _ => none }
def PcbPlaysWrongFalsely : Prop := pcbPlaysRow.holds Try.pinned (OpenSpec.ofChange pcbPlaysWrong)

/-- 'trunnionlaw20.PcbOne': WHATEVER THE INPUT: true; the input reads as it did. -/
def pcbOneSpec : ChangeSpec := { name := "pcbOne", fn := fun _ => fun
  | [d] => { results := [.lit (.bool true)], args := [d] }
  | _ => none }
def pcbOneRow : OpenClaim := { program := "ytpkpdfljhpieaaa", sum := "fa03a551e452626ae77325e8b74429cc226960635a984a598c1392511c047edf", func := "trunnion/trunnionlaw20.PcbOne", spec := "pcbOne", apart := false }
def PcbOneSaid : Prop := pcbOneRow.holds Try.pinned (OpenSpec.ofChange pcbOneSpec)

/-- ITS FALSE NEIGHBOUR: 'it returns false'. Refute it at one input. -/
def pcbOneWrong : ChangeSpec := { name := "pcbOne", fn := fun _ => fun
  | [d] => { results := [.lit (.bool false)], args := [d] }
  | _ => none }
def PcbOneWrongFalsely : Prop := pcbOneRow.holds Try.pinned (OpenSpec.ofChange pcbOneWrong)

/-- 'trunnionlaw20.PcbWay': WHATEVER THE INPUT: true; the input reads as it did. -/
def pcbWaySpec : ChangeSpec := { name := "pcbWay", fn := fun _ => fun
  | [d1, d2, d3] => { results := [.lit (.bool true)], args := [d1, d2, d3] }
  | _ => none }
def pcbWayRow : OpenClaim := { program := "ytpkpdfljhpieaaa", sum := "fa03a551e452626ae77325e8b74429cc226960635a984a598c1392511c047edf", func := "trunnion/trunnionlaw20.PcbWay", spec := "pcbWay", apart := false }
def PcbWaySaid : Prop := pcbWayRow.holds Try.pinned (OpenSpec.ofChange pcbWaySpec)

/-- ITS FALSE NEIGHBOUR: 'it returns false'. Refute it at one input. -/
def pcbWayWrong : ChangeSpec := { name := "pcbWay", fn := fun _ => fun
  | [d1, d2, d3] => { results := [.lit (.bool false)], args := [d1, d2, d3] }
  | _ => none }
def PcbWayWrongFalsely : Prop := pcbWayRow.holds Try.pinned (OpenSpec.ofChange pcbWayWrong)

/- THE SECOND FORM. 'bulk': how many values and letters a reading holds, each counted each time it is reached (what is shared counts as often as it is met; a slice's spare places count too). A statement '..UptoSaid' is the law's where the arguments, and the package variables that the reading takes, are together of bulk at most 1048576: NARROWER than '..Said'. Prove '..Said' where nothing that the law and all that it calls make is longer than what came in: it says more and counts as full. Else prove '..UptoSaid'. A law counts once. -/
mutual
def uptoBulk {H : Type} : DataW H → Nat
  | .lit (.string bytes) => bytes.length + 1
  | .lit _ => 1
  | .nil => 1
  | .ptr d => uptoBulk d + 1
  | .slice elems spare => uptoBulkAll elems + uptoBulkAll spare + 1
  | .agg parts => uptoBulkAll parts + 1
  | .iface _ d => uptoBulk d + 1
  | .map entries => uptoBulkEntries entries + 1
  | .held _ => 1
def uptoBulkAll {H : Type} : List (DataW H) → Nat
  | [] => 0
  | d :: r => uptoBulk d + uptoBulkAll r
def uptoBulkEntries {H : Type} : List (Lit × DataW H) → Nat
  | [] => 0
  | x :: r => uptoBulkEntry x + uptoBulkEntries r
def uptoBulkEntry {H : Type} : Lit × DataW H → Nat
  | (.string bytes, d) => bytes.length + uptoBulk d + 1
  | (_, d) => uptoBulk d + 1
 end
def uptoSmall : (H : Type) → List (DataW H) → Bool := fun _ ds => decide (uptoBulkAll ds ≤ 1048576)
def OpenSpec.upto (s : _root_.Go.ChangeSpec) : _root_.Go.OpenSpec := { _root_.Go.OpenSpec.ofChange s with cond := some uptoSmall }

/-- 'trunnionlaw01.BitsFields', WHERE WHAT IT READS IS OF BULK AT MOST 1048576: true; the input reads as it did. -/
def bitsFieldsUptoRow : OpenClaim := { program := "ytpkpdfljhpieaaa", sum := "fa03a551e452626ae77325e8b74429cc226960635a984a598c1392511c047edf", func := "trunnion/trunnionlaw01.BitsFields", spec := "bitsFields", apart := false, narrowed := true }
def BitsFieldsUptoSaid : Prop := bitsFieldsUptoRow.holds Try.pinned (OpenSpec.upto bitsFieldsSpec)

/-- 'trunnionlaw01.BitsBack', WHERE WHAT IT READS IS OF BULK AT MOST 1048576: true; the input reads as it did. -/
def bitsBackUptoRow : OpenClaim := { program := "ytpkpdfljhpieaaa", sum := "fa03a551e452626ae77325e8b74429cc226960635a984a598c1392511c047edf", func := "trunnion/trunnionlaw01.BitsBack", spec := "bitsBack", apart := false, narrowed := true }
def BitsBackUptoSaid : Prop := bitsBackUptoRow.holds Try.pinned (OpenSpec.upto bitsBackSpec)

/-- 'trunnionlaw01.BitsApart', WHERE WHAT IT READS IS OF BULK AT MOST 1048576: true; the input reads as it did. -/
def bitsApartUptoRow : OpenClaim := { program := "ytpkpdfljhpieaaa", sum := "fa03a551e452626ae77325e8b74429cc226960635a984a598c1392511c047edf", func := "trunnion/trunnionlaw01.BitsApart", spec := "bitsApart", apart := false, narrowed := true }
def BitsApartUptoSaid : Prop := bitsApartUptoRow.holds Try.pinned (OpenSpec.upto bitsApartSpec)

/-- 'trunnionlaw01.BitsLogs', WHERE WHAT IT READS IS OF BULK AT MOST 1048576: true; the input reads as it did. -/
def bitsLogsUptoRow : OpenClaim := { program := "ytpkpdfljhpieaaa", sum := "fa03a551e452626ae77325e8b74429cc226960635a984a598c1392511c047edf", func := "trunnion/trunnionlaw01.BitsLogs", spec := "bitsLogs", apart := false, narrowed := true }
def BitsLogsUptoSaid : Prop := bitsLogsUptoRow.holds Try.pinned (OpenSpec.upto bitsLogsSpec)

/-- 'trunnionlaw01.BitsWhole', WHERE WHAT IT READS IS OF BULK AT MOST 1048576: true; the input reads as it did. -/
def bitsWholeUptoRow : OpenClaim := { program := "ytpkpdfljhpieaaa", sum := "fa03a551e452626ae77325e8b74429cc226960635a984a598c1392511c047edf", func := "trunnion/trunnionlaw01.BitsWhole", spec := "bitsWhole", apart := false, narrowed := true }
def BitsWholeUptoSaid : Prop := bitsWholeUptoRow.holds Try.pinned (OpenSpec.upto bitsWholeSpec)

/-- 'trunnionlaw01.BitsNumbers', WHERE WHAT IT READS IS OF BULK AT MOST 1048576: true; the input reads as it did. -/
def bitsNumbersUptoRow : OpenClaim := { program := "ytpkpdfljhpieaaa", sum := "fa03a551e452626ae77325e8b74429cc226960635a984a598c1392511c047edf", func := "trunnion/trunnionlaw01.BitsNumbers", spec := "bitsNumbers", apart := false, narrowed := true }
def BitsNumbersUptoSaid : Prop := bitsNumbersUptoRow.holds Try.pinned (OpenSpec.upto bitsNumbersSpec)

/-- 'trunnionlaw20.PcbNext', WHERE WHAT IT READS IS OF BULK AT MOST 1048576: true; the input reads as it did. -/
def pcbNextUptoRow : OpenClaim := { program := "ytpkpdfljhpieaaa", sum := "fa03a551e452626ae77325e8b74429cc226960635a984a598c1392511c047edf", func := "trunnion/trunnionlaw20.PcbNext", spec := "pcbNext", apart := false, narrowed := true }
def PcbNextUptoSaid : Prop := pcbNextUptoRow.holds Try.pinned (OpenSpec.upto pcbNextSpec)

/-- 'trunnionlaw20.PcbPlays', WHERE WHAT IT READS IS OF BULK AT MOST 1048576: true; the input reads as it did. -/
def pcbPlaysUptoRow : OpenClaim := { program := "ytpkpdfljhpieaaa", sum := "fa03a551e452626ae77325e8b74429cc226960635a984a598c1392511c047edf", func := "trunnion/trunnionlaw20.PcbPlays", spec := "pcbPlays", apart := false, narrowed := true }
def PcbPlaysUptoSaid : Prop := pcbPlaysUptoRow.holds Try.pinned (OpenSpec.upto pcbPlaysSpec)

/-- 'trunnionlaw20.PcbOne', WHERE WHAT IT READS IS OF BULK AT MOST 1048576: true; the input reads as it did. -/
def pcbOneUptoRow : OpenClaim := { program := "ytpkpdfljhpieaaa", sum := "fa03a551e452626ae77325e8b74429cc226960635a984a598c1392511c047edf", func := "trunnion/trunnionlaw20.PcbOne", spec := "pcbOne", apart := false, narrowed := true }
def PcbOneUptoSaid : Prop := pcbOneUptoRow.holds Try.pinned (OpenSpec.upto pcbOneSpec)

/-- 'trunnionlaw20.PcbWay', WHERE WHAT IT READS IS OF BULK AT MOST 1048576: true; the input reads as it did. -/
def pcbWayUptoRow : OpenClaim := { program := "ytpkpdfljhpieaaa", sum := "fa03a551e452626ae77325e8b74429cc226960635a984a598c1392511c047edf", func := "trunnion/trunnionlaw20.PcbWay", spec := "pcbWay", apart := false, narrowed := true }
def PcbWayUptoSaid : Prop := pcbWayUptoRow.holds Try.pinned (OpenSpec.upto pcbWaySpec)

end Rows
end Go.Proofs.Ytpkpdfljhpieaaa
