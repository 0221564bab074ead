/-
  No cell of these rows narrows 'for every input' (looked for: loops, veiled, ifaces, maps, wideKeys, modest, calm, conditions, laid).
  DERIVED. THE GIVEN ROWS OF THIS SEAT. 4 by the template 'for every input the law returns true; each argument reads behind the call as it read before'; 0 by the template 'total and deterministic' (their statements: YtajlpicdkdeceaaTotals.lean).
  GIVEN WITH THE SEED: the statements are not yours to turn. If you find one false, say at which input.
  Laid BY PROGRAM, IN A SANDBOX (cutbox-rows.mjs): the forced cells as the released guide's own fill.sh prints them over the translation b66454f206291e98… (all of the seat's roots in one cut). By AI agents, Wed Nov 11 2026. No macro, syntax, notation, axiom, sorry.
-/
import Derived.Test.YtajlpicdkdeceaaChecked
import GoSem.Claim
import GoSem.ClaimJoined
import GoSem.ClaimMapViews
import Derived.JoinedTies
import Derived.KernelRfl
namespace Go.Proofs.Ytajlpicdkdeceaa
/- THE CELL 'sum', in the pinned program and in every row, IS THE sha256 OF THE DUMP (.gsa) THAT YtajlpicdkdeceaaProg.lean LOADS. Nothing in Lean hashes anything: it is a label: what it is worth is what the hold of that sum in a sandbox is worth. -/
noncomputable def Try.pinned : Pinned := { name := "ytajlpicdkdeceaa", sum := "b66454f206291e98aaef0e477dc33d1c61984044cb12e789a7c07f4b76bb3654", checked := Try.checked }
namespace Rows
def none {H : Type} : Left H := { results := [], args := [] }

/-- 'trunnionlaw14.ImageReads': WHATEVER THE INPUT: true; the input reads as it did. -/
def imageReadsSpec : ChangeSpec := { name := "imageReads", fn := fun _ => fun
  | [d1, d2] => { results := [.lit (.bool true)], args := [d1, d2] }
  | _ => none }
def imageReadsRow : OpenClaim := { program := "ytajlpicdkdeceaa", sum := "b66454f206291e98aaef0e477dc33d1c61984044cb12e789a7c07f4b76bb3654", func := "trunnion/trunnionlaw14.ImageReads", spec := "imageReads", unfollowed := true, recurses := true, apart := false }
def ImageReadsSaid : Prop := imageReadsRow.holds Try.pinned (OpenSpec.ofChange imageReadsSpec)

/-- ITS FALSE NEIGHBOUR: 'it returns false'. Refute it at one input. -/
def imageReadsWrong : ChangeSpec := { name := "imageReads", fn := fun _ => fun
  | [d1, d2] => { results := [.lit (.bool false)], args := [d1, d2] }
  | _ => none }
def ImageReadsWrongFalsely : Prop := imageReadsRow.holds Try.pinned (OpenSpec.ofChange imageReadsWrong)

/-- 'trunnionlaw14.ImageBack': WHATEVER THE INPUT: true; the input reads as it did. -/
def imageBackSpec : ChangeSpec := { name := "imageBack", fn := fun _ => fun
  | [d1, d2] => { results := [.lit (.bool true)], args := [d1, d2] }
  | _ => none }
def imageBackRow : OpenClaim := { program := "ytajlpicdkdeceaa", sum := "b66454f206291e98aaef0e477dc33d1c61984044cb12e789a7c07f4b76bb3654", func := "trunnion/trunnionlaw14.ImageBack", spec := "imageBack", unfollowed := true, recurses := true, apart := false }
def ImageBackSaid : Prop := imageBackRow.holds Try.pinned (OpenSpec.ofChange imageBackSpec)

/-- ITS FALSE NEIGHBOUR: 'it returns false'. Refute it at one input. -/
def imageBackWrong : ChangeSpec := { name := "imageBack", fn := fun _ => fun
  | [d1, d2] => { results := [.lit (.bool false)], args := [d1, d2] }
  | _ => none }
def ImageBackWrongFalsely : Prop := imageBackRow.holds Try.pinned (OpenSpec.ofChange imageBackWrong)

/-- 'trunnionlaw14.ImageCut': WHATEVER THE INPUT: true; the input reads as it did. -/
def imageCutSpec : ChangeSpec := { name := "imageCut", fn := fun _ => fun
  | [d1, d2] => { results := [.lit (.bool true)], args := [d1, d2] }
  | _ => none }
def imageCutRow : OpenClaim := { program := "ytajlpicdkdeceaa", sum := "b66454f206291e98aaef0e477dc33d1c61984044cb12e789a7c07f4b76bb3654", func := "trunnion/trunnionlaw14.ImageCut", spec := "imageCut", unfollowed := true, recurses := true, apart := false }
def ImageCutSaid : Prop := imageCutRow.holds Try.pinned (OpenSpec.ofChange imageCutSpec)

/-- ITS FALSE NEIGHBOUR: 'it returns false'. Refute it at one input. -/
def imageCutWrong : ChangeSpec := { name := "imageCut", fn := fun _ => fun
  | [d1, d2] => { results := [.lit (.bool false)], args := [d1, d2] }
  | _ => none }
def ImageCutWrongFalsely : Prop := imageCutRow.holds Try.pinned (OpenSpec.ofChange imageCutWrong)

/-- 'trunnionlaw14.ImageSize': WHATEVER THE INPUT: true; the input reads as it did. -/
def imageSizeSpec : ChangeSpec := { name := "imageSize", fn := fun _ => fun
  | [d] => { results := [.lit (.bool true)], args := [d] }
  | _ => none }
def imageSizeRow : OpenClaim := { program := "ytajlpicdkdeceaa", sum := "b66454f206291e98aaef0e477dc33d1c61984044cb12e789a7c07f4b76bb3654", func := "trunnion/trunnionlaw14.ImageSize", spec := "imageSize", unfollowed := true, recurses := true, apart := false }
def ImageSizeSaid : Prop := imageSizeRow.holds Try.pinned (OpenSpec.ofChange imageSizeSpec)

/-- ITS FALSE NEIGHBOUR: 'it returns false'. Refute it at one input. -/
def imageSizeWrong : ChangeSpec := { name := "imageSize", fn := fun _ => fun
  | [d] => { results := [.lit (.bool false)], args := [d] }
  | _ => none }
def ImageSizeWrongFalsely : Prop := imageSizeRow.holds Try.pinned (OpenSpec.ofChange imageSizeWrong)

/- THE SECOND FORM. 'bulk': how many values and letters a reading holds, each counted each time it is reached (what is shared counts as often as it is met; a slice's spare places count too). A statement '..UptoSaid' is the law's where the arguments, and the package variables that the reading takes, are together of bulk at most 1048576: NARROWER than '..Said'. Prove '..Said' where nothing that the law and all that it calls make is longer than what came in: it says more and counts as full. Else prove '..UptoSaid'. A law counts once. -/
mutual
def uptoBulk {H : Type} : DataW H → Nat
  | .lit (.string bytes) => bytes.length + 1
  | .lit _ => 1
  | .nil => 1
  | .ptr d => uptoBulk d + 1
  | .slice elems spare => uptoBulkAll elems + uptoBulkAll spare + 1
  | .agg parts => uptoBulkAll parts + 1
  | .iface _ d => uptoBulk d + 1
  | .map entries => uptoBulkEntries entries + 1
  | .held _ => 1
def uptoBulkAll {H : Type} : List (DataW H) → Nat
  | [] => 0
  | d :: r => uptoBulk d + uptoBulkAll r
def uptoBulkEntries {H : Type} : List (Lit × DataW H) → Nat
  | [] => 0
  | x :: r => uptoBulkEntry x + uptoBulkEntries r
def uptoBulkEntry {H : Type} : Lit × DataW H → Nat
  | (.string bytes, d) => bytes.length + uptoBulk d + 1
  | (_, d) => uptoBulk d + 1
 end
def uptoSmall : (H : Type) → List (DataW H) → Bool := fun _ ds => decide (uptoBulkAll ds ≤ 1048576)
def OpenSpec.upto (s : _root_.Go.ChangeSpec) : _root_.Go.OpenSpec := { _root_.Go.OpenSpec.ofChange s with cond := some uptoSmall }

/-- 'trunnionlaw14.ImageReads', WHERE WHAT IT READS IS OF BULK AT MOST 1048576: true; the input reads as it did. -/
def imageReadsUptoRow : OpenClaim := { program := "ytajlpicdkdeceaa", sum := "b66454f206291e98aaef0e477dc33d1c61984044cb12e789a7c07f4b76bb3654", func := "trunnion/trunnionlaw14.ImageReads", spec := "imageReads", unfollowed := true, recurses := true, apart := false, narrowed := true }
def ImageReadsUptoSaid : Prop := imageReadsUptoRow.holds Try.pinned (OpenSpec.upto imageReadsSpec)

/-- 'trunnionlaw14.ImageBack', WHERE WHAT IT READS IS OF BULK AT MOST 1048576: true; the input reads as it did. -/
def imageBackUptoRow : OpenClaim := { program := "ytajlpicdkdeceaa", sum := "b66454f206291e98aaef0e477dc33d1c61984044cb12e789a7c07f4b76bb3654", func := "trunnion/trunnionlaw14.ImageBack", spec := "imageBack", unfollowed := true, recurses := true, apart := false, narrowed := true }
def ImageBackUptoSaid : Prop := imageBackUptoRow.holds Try.pinned (OpenSpec.upto imageBackSpec)

/-- 'trunnionlaw14.ImageCut', WHERE WHAT IT READS IS OF BULK AT MOST 1048576: true; the input reads as it did. -/
def imageCutUptoRow : OpenClaim := { program := "ytajlpicdkdeceaa", sum := "b66454f206291e98aaef0e477dc33d1c61984044cb12e789a7c07f4b76bb3654", func := "trunnion/trunnionlaw14.ImageCut", spec := "imageCut", unfollowed := true, recurses := true, apart := false, narrowed := true }
def ImageCutUptoSaid : Prop := imageCutUptoRow.holds Try.pinned (OpenSpec.upto imageCutSpec)

/-- 'trunnionlaw14.ImageSize', WHERE WHAT IT READS IS OF BULK AT MOST 1048576: true; the input reads as it did. -/
def imageSizeUptoRow : OpenClaim := { program := "ytajlpicdkdeceaa", sum := "b66454f206291e98aaef0e477dc33d1c61984044cb12e789a7c07f4b76bb3654", func := "trunnion/trunnionlaw14.ImageSize", spec := "imageSize", unfollowed := true, recurses := true, apart := false, narrowed := true }
def ImageSizeUptoSaid : Prop := imageSizeUptoRow.holds Try.pinned (OpenSpec.upto imageSizeSpec)

end Rows
end Go.Proofs.Ytajlpicdkdeceaa
