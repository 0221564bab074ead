/-
  No cell of these rows narrows 'for every input' (looked for: loops, veiled, ifaces, maps, wideKeys, modest, calm, conditions, laid).
  DERIVED. THE GIVEN ROWS OF THIS SEAT. 8 by the template 'for every input the law returns true; each argument reads behind the call as it read before'; 0 by the template 'total and deterministic' (their statements: YtfihnnijcaapkaaTotals.lean).
  GIVEN WITH THE SEED: the statements are not yours to turn. If you find one false, say at which input.
  Laid BY PROGRAM, IN A SANDBOX (cutbox-rows.mjs): the forced cells as the released guide's own fill.sh prints them over the translation ce6224e049bea363… (all of the seat's roots in one cut). By AI agents, Wed Nov 11 2026. No macro, syntax, notation, axiom, sorry.
-/
import Derived.Test.YtfihnnijcaapkaaChecked
import GoSem.Claim
import GoSem.ClaimJoined
import GoSem.ClaimMapViews
import Derived.JoinedTies
import Derived.KernelRfl
namespace Go.Proofs.Ytfihnnijcaapkaa
/- THE CELL 'sum', in the pinned program and in every row, IS THE sha256 OF THE DUMP (.gsa) THAT YtfihnnijcaapkaaProg.lean LOADS. Nothing in Lean hashes anything: it is a label: what it is worth is what the hold of that sum in a sandbox is worth. -/
noncomputable def Try.pinned : Pinned := { name := "ytfihnnijcaapkaa", sum := "ce6224e049bea36398cb745d6c9db7158341903a6fd0b25997974ac77b800ada", checked := Try.checked }
namespace Rows
def none {H : Type} : Left H := { results := [], args := [] }

/-- 'trunnionlaw09.TlbLast': WHATEVER THE INPUT: true; the input reads as it did. -/
def tlbLastSpec : ChangeSpec := { name := "tlbLast", fn := fun _ => fun
  | [d] => { results := [.lit (.bool true)], args := [d] }
  | _ => none }
def tlbLastRow : OpenClaim := { program := "ytfihnnijcaapkaa", sum := "ce6224e049bea36398cb745d6c9db7158341903a6fd0b25997974ac77b800ada", func := "trunnion/trunnionlaw09.TlbLast", spec := "tlbLast", unfollowed := true, recurses := true, apart := false }
def TlbLastSaid : Prop := tlbLastRow.holds Try.pinned (OpenSpec.ofChange tlbLastSpec)

/-- ITS FALSE NEIGHBOUR: 'it returns false'. Refute it at one input. -/
def tlbLastWrong : ChangeSpec := { name := "tlbLast", fn := fun _ => fun
  | [d] => { results := [.lit (.bool false)], args := [d] }
  | _ => none }
def TlbLastWrongFalsely : Prop := tlbLastRow.holds Try.pinned (OpenSpec.ofChange tlbLastWrong)

/-- 'trunnionlaw09.TlbFlush': WHATEVER THE INPUT: true; the input reads as it did. -/
def tlbFlushSpec : ChangeSpec := { name := "tlbFlush", fn := fun _ => fun
  | [d1, d2] => { results := [.lit (.bool true)], args := [d1, d2] }
  | _ => none }
def tlbFlushRow : OpenClaim := { program := "ytfihnnijcaapkaa", sum := "ce6224e049bea36398cb745d6c9db7158341903a6fd0b25997974ac77b800ada", func := "trunnion/trunnionlaw09.TlbFlush", spec := "tlbFlush", unfollowed := true, recurses := true, apart := false }
def TlbFlushSaid : Prop := tlbFlushRow.holds Try.pinned (OpenSpec.ofChange tlbFlushSpec)

/-- ITS FALSE NEIGHBOUR: 'it returns false'. Refute it at one input. -/
def tlbFlushWrong : ChangeSpec := { name := "tlbFlush", fn := fun _ => fun
  | [d1, d2] => { results := [.lit (.bool false)], args := [d1, d2] }
  | _ => none }
def TlbFlushWrongFalsely : Prop := tlbFlushRow.holds Try.pinned (OpenSpec.ofChange tlbFlushWrong)

/-- 'trunnionlaw09.TlbRoom': WHATEVER THE INPUT: true; the input reads as it did. -/
def tlbRoomSpec : ChangeSpec := { name := "tlbRoom", fn := fun _ => fun
  | [d1, d2] => { results := [.lit (.bool true)], args := [d1, d2] }
  | _ => none }
def tlbRoomRow : OpenClaim := { program := "ytfihnnijcaapkaa", sum := "ce6224e049bea36398cb745d6c9db7158341903a6fd0b25997974ac77b800ada", func := "trunnion/trunnionlaw09.TlbRoom", spec := "tlbRoom", unfollowed := true, recurses := true, apart := false }
def TlbRoomSaid : Prop := tlbRoomRow.holds Try.pinned (OpenSpec.ofChange tlbRoomSpec)

/-- ITS FALSE NEIGHBOUR: 'it returns false'. Refute it at one input. -/
def tlbRoomWrong : ChangeSpec := { name := "tlbRoom", fn := fun _ => fun
  | [d1, d2] => { results := [.lit (.bool false)], args := [d1, d2] }
  | _ => none }
def TlbRoomWrongFalsely : Prop := tlbRoomRow.holds Try.pinned (OpenSpec.ofChange tlbRoomWrong)

/-- 'trunnionlaw09.TlbPlays': WHATEVER THE INPUT: true; the input reads as it did. -/
def tlbPlaysSpec : ChangeSpec := { name := "tlbPlays", fn := fun _ => fun
  | [d] => { results := [.lit (.bool true)], args := [d] }
  | _ => none }
def tlbPlaysRow : OpenClaim := { program := "ytfihnnijcaapkaa", sum := "ce6224e049bea36398cb745d6c9db7158341903a6fd0b25997974ac77b800ada", func := "trunnion/trunnionlaw09.TlbPlays", spec := "tlbPlays", unfollowed := true, recurses := true, apart := false }
def TlbPlaysSaid : Prop := tlbPlaysRow.holds Try.pinned (OpenSpec.ofChange tlbPlaysSpec)

/-- ITS FALSE NEIGHBOUR: 'it returns false'. Refute it at one input. -/
def tlbPlaysWrong : ChangeSpec := { name := "tlbPlays", fn := fun _ => fun
  | [d] => { results := [.lit (.bool false)], args := [d] }
  | _ => none }
def TlbPlaysWrongFalsely : Prop := tlbPlaysRow.holds Try.pinned (OpenSpec.ofChange tlbPlaysWrong)

/-- 'trunnionlaw05.OwnersEach': WHATEVER THE INPUT: true; the input reads as it did. -/
def ownersEachSpec : ChangeSpec := { name := "ownersEach", fn := fun _ => fun
  | [d1, d2, d3] => { results := [.lit (.bool true)], args := [d1, d2, d3] }
  | _ => none }
def ownersEachRow : OpenClaim := { program := "ytfihnnijcaapkaa", sum := "ce6224e049bea36398cb745d6c9db7158341903a6fd0b25997974ac77b800ada", func := "trunnion/trunnionlaw05.OwnersEach", spec := "ownersEach", apart := false }
def OwnersEachSaid : Prop := ownersEachRow.holds Try.pinned (OpenSpec.ofChange ownersEachSpec)

/-- ITS FALSE NEIGHBOUR: 'it returns false'. Refute it at one input. -/
def ownersEachWrong : ChangeSpec := { name := "ownersEach", fn := fun _ => fun
  | [d1, d2, d3] => { results := [.lit (.bool false)], args := [d1, d2, d3] }
  | _ => none }
def OwnersEachWrongFalsely : Prop := ownersEachRow.holds Try.pinned (OpenSpec.ofChange ownersEachWrong)

/-- 'trunnionlaw05.OwnersPlays': WHATEVER THE INPUT: true; the input reads as it did. -/
def ownersPlaysSpec : ChangeSpec := { name := "ownersPlays", fn := fun _ => fun
  | [d1, d2] => { results := [.lit (.bool true)], args := [d1, d2] }
  | _ => none }
def ownersPlaysRow : OpenClaim := { program := "ytfihnnijcaapkaa", sum := "ce6224e049bea36398cb745d6c9db7158341903a6fd0b25997974ac77b800ada", func := "trunnion/trunnionlaw05.OwnersPlays", spec := "ownersPlays", apart := false }
def OwnersPlaysSaid : Prop := ownersPlaysRow.holds Try.pinned (OpenSpec.ofChange ownersPlaysSpec)

/-- ITS FALSE NEIGHBOUR: 'it returns false'. Refute it at one input. -/
def ownersPlaysWrong : ChangeSpec := { name := "ownersPlays", fn := fun _ => fun
  | [d1, d2] => { results := [.lit (.bool false)], args := [d1, d2] }
  | _ => none }
def OwnersPlaysWrongFalsely : Prop := ownersPlaysRow.holds Try.pinned (OpenSpec.ofChange ownersPlaysWrong)

/-- 'trunnionlaw05.OwnersSum': WHATEVER THE INPUT: true; the input reads as it did. -/
def ownersSumSpec : ChangeSpec := { name := "ownersSum", fn := fun _ => fun
  | [d] => { results := [.lit (.bool true)], args := [d] }
  | _ => none }
def ownersSumRow : OpenClaim := { program := "ytfihnnijcaapkaa", sum := "ce6224e049bea36398cb745d6c9db7158341903a6fd0b25997974ac77b800ada", func := "trunnion/trunnionlaw05.OwnersSum", spec := "ownersSum", apart := false }
def OwnersSumSaid : Prop := ownersSumRow.holds Try.pinned (OpenSpec.ofChange ownersSumSpec)

/-- ITS FALSE NEIGHBOUR: 'it returns false'. Refute it at one input. -/
def ownersSumWrong : ChangeSpec := { name := "ownersSum", fn := fun _ => fun
  | [d] => { results := [.lit (.bool false)], args := [d] }
  | _ => none }
def OwnersSumWrongFalsely : Prop := ownersSumRow.holds Try.pinned (OpenSpec.ofChange ownersSumWrong)

/-- 'trunnionlaw05.OwnersBack': WHATEVER THE INPUT: true; the input reads as it did. -/
def ownersBackSpec : ChangeSpec := { name := "ownersBack", fn := fun _ => fun
  | [d1, d2, d3] => { results := [.lit (.bool true)], args := [d1, d2, d3] }
  | _ => none }
def ownersBackRow : OpenClaim := { program := "ytfihnnijcaapkaa", sum := "ce6224e049bea36398cb745d6c9db7158341903a6fd0b25997974ac77b800ada", func := "trunnion/trunnionlaw05.OwnersBack", spec := "ownersBack", apart := false }
def OwnersBackSaid : Prop := ownersBackRow.holds Try.pinned (OpenSpec.ofChange ownersBackSpec)

/-- ITS FALSE NEIGHBOUR: 'it returns false'. Refute it at one input. -/
def ownersBackWrong : ChangeSpec := { name := "ownersBack", fn := fun _ => fun
  | [d1, d2, d3] => { results := [.lit (.bool false)], args := [d1, d2, d3] }
  | _ => none }
def OwnersBackWrongFalsely : Prop := ownersBackRow.holds Try.pinned (OpenSpec.ofChange ownersBackWrong)

/- THE SECOND FORM. 'bulk': how many values and letters a reading holds, each counted each time it is reached (what is shared counts as often as it is met; a slice's spare places count too). A statement '..UptoSaid' is the law's where the arguments, and the package variables that the reading takes, are together of bulk at most 1048576: NARROWER than '..Said'. Prove '..Said' where nothing that the law and all that it calls make is longer than what came in: it says more and counts as full. Else prove '..UptoSaid'. A law counts once. -/
mutual
def uptoBulk {H : Type} : DataW H → Nat
  | .lit (.string bytes) => bytes.length + 1
  | .lit _ => 1
  | .nil => 1
  | .ptr d => uptoBulk d + 1
  | .slice elems spare => uptoBulkAll elems + uptoBulkAll spare + 1
  | .agg parts => uptoBulkAll parts + 1
  | .iface _ d => uptoBulk d + 1
  | .map entries => uptoBulkEntries entries + 1
  | .held _ => 1
def uptoBulkAll {H : Type} : List (DataW H) → Nat
  | [] => 0
  | d :: r => uptoBulk d + uptoBulkAll r
def uptoBulkEntries {H : Type} : List (Lit × DataW H) → Nat
  | [] => 0
  | x :: r => uptoBulkEntry x + uptoBulkEntries r
def uptoBulkEntry {H : Type} : Lit × DataW H → Nat
  | (.string bytes, d) => bytes.length + uptoBulk d + 1
  | (_, d) => uptoBulk d + 1
 end
def uptoSmall : (H : Type) → List (DataW H) → Bool := fun _ ds => decide (uptoBulkAll ds ≤ 1048576)
def OpenSpec.upto (s : _root_.Go.ChangeSpec) : _root_.Go.OpenSpec := { _root_.Go.OpenSpec.ofChange s with cond := some uptoSmall }

/-- 'trunnionlaw09.TlbLast', WHERE WHAT IT READS IS OF BULK AT MOST 1048576: true; the input reads as it did. -/
def tlbLastUptoRow : OpenClaim := { program := "ytfihnnijcaapkaa", sum := "ce6224e049bea36398cb745d6c9db7158341903a6fd0b25997974ac77b800ada", func := "trunnion/trunnionlaw09.TlbLast", spec := "tlbLast", unfollowed := true, recurses := true, apart := false, narrowed := true }
def TlbLastUptoSaid : Prop := tlbLastUptoRow.holds Try.pinned (OpenSpec.upto tlbLastSpec)

/-- 'trunnionlaw09.TlbFlush', WHERE WHAT IT READS IS OF BULK AT MOST 1048576: true; the input reads as it did. -/
def tlbFlushUptoRow : OpenClaim := { program := "ytfihnnijcaapkaa", sum := "ce6224e049bea36398cb745d6c9db7158341903a6fd0b25997974ac77b800ada", func := "trunnion/trunnionlaw09.TlbFlush", spec := "tlbFlush", unfollowed := true, recurses := true, apart := false, narrowed := true }
def TlbFlushUptoSaid : Prop := tlbFlushUptoRow.holds Try.pinned (OpenSpec.upto tlbFlushSpec)

/-- 'trunnionlaw09.TlbRoom', WHERE WHAT IT READS IS OF BULK AT MOST 1048576: true; the input reads as it did. -/
def tlbRoomUptoRow : OpenClaim := { program := "ytfihnnijcaapkaa", sum := "ce6224e049bea36398cb745d6c9db7158341903a6fd0b25997974ac77b800ada", func := "trunnion/trunnionlaw09.TlbRoom", spec := "tlbRoom", unfollowed := true, recurses := true, apart := false, narrowed := true }
def TlbRoomUptoSaid : Prop := tlbRoomUptoRow.holds Try.pinned (OpenSpec.upto tlbRoomSpec)

/-- 'trunnionlaw09.TlbPlays', WHERE WHAT IT READS IS OF BULK AT MOST 1048576: true; the input reads as it did. -/
def tlbPlaysUptoRow : OpenClaim := { program := "ytfihnnijcaapkaa", sum := "ce6224e049bea36398cb745d6c9db7158341903a6fd0b25997974ac77b800ada", func := "trunnion/trunnionlaw09.TlbPlays", spec := "tlbPlays", unfollowed := true, recurses := true, apart := false, narrowed := true }
def TlbPlaysUptoSaid : Prop := tlbPlaysUptoRow.holds Try.pinned (OpenSpec.upto tlbPlaysSpec)

/-- 'trunnionlaw05.OwnersEach', WHERE WHAT IT READS IS OF BULK AT MOST 1048576: true; the input reads as it did. -/
def ownersEachUptoRow : OpenClaim := { program := "ytfihnnijcaapkaa", sum := "ce6224e049bea36398cb745d6c9db7158341903a6fd0b25997974ac77b800ada", func := "trunnion/trunnionlaw05.OwnersEach", spec := "ownersEach", apart := false, narrowed := true }
def OwnersEachUptoSaid : Prop := ownersEachUptoRow.holds Try.pinned (OpenSpec.upto ownersEachSpec)

/-- 'trunnionlaw05.OwnersPlays', WHERE WHAT IT READS IS OF BULK AT MOST 1048576: true; the input reads as it did. -/
def ownersPlaysUptoRow : OpenClaim := { program := "ytfihnnijcaapkaa", sum := "ce6224e049bea36398cb745d6c9db7158341903a6fd0b25997974ac77b800ada", func := "trunnion/trunnionlaw05.OwnersPlays", spec := "ownersPlays", apart := false, narrowed := true }
def OwnersPlaysUptoSaid : Prop := ownersPlaysUptoRow.holds Try.pinned (OpenSpec.upto ownersPlaysSpec)

/-- 'trunnionlaw05.OwnersSum', WHERE WHAT IT READS IS OF BULK AT MOST 1048576: true; the input reads as it did. -/
def ownersSumUptoRow : OpenClaim := { program := "ytfihnnijcaapkaa", sum := "ce6224e049bea36398cb745d6c9db7158341903a6fd0b25997974ac77b800ada", func := "trunnion/trunnionlaw05.OwnersSum", spec := "ownersSum", apart := false, narrowed := true }
def OwnersSumUptoSaid : Prop := ownersSumUptoRow.holds Try.pinned (OpenSpec.upto ownersSumSpec)

/-- 'trunnionlaw05.OwnersBack', WHERE WHAT IT READS IS OF BULK AT MOST 1048576: true; the input reads as it did. -/
def ownersBackUptoRow : OpenClaim := { program := "ytfihnnijcaapkaa", sum := "ce6224e049bea36398cb745d6c9db7158341903a6fd0b25997974ac77b800ada", func := "trunnion/trunnionlaw05.OwnersBack", spec := "ownersBack", apart := false, narrowed := true }
def OwnersBackUptoSaid : Prop := ownersBackUptoRow.holds Try.pinned (OpenSpec.upto ownersBackSpec)

end Rows
end Go.Proofs.Ytfihnnijcaapkaa
