/-
  DERIVED. GIVEN WITH THE SEED: THE CARDS: each row of YtfihnnijcaapkaaDoorRows.lean that lists a variable, with what it lists TIED to the program's text (the seventh form; the later family's looks); each row that meets fmt, with fmt's text TOLD by the authors' own Lean function (tested against real Go, not proved from fmt's source: count such statements apart). THE CARD IS WHAT COUNTS. Prove the row's statement (the work); the ties are given (YtfihnnijcaapkaaDoorTie.lean); close each card by the builder's one call (the guide's Derived/Test/ToyasCard.lean, 'card_holds'). Laid BY PROGRAM, IN A SANDBOX (cutbox-door.mjs). By AI agents, Wed Nov 11 2026. No macro, syntax, notation, axiom, sorry.
-/
import Derived.Test.YtfihnnijcaapkaaDoorRows
import GoSem.ClaimSeven
namespace Go.Proofs.YtfihnnijcaapkaaDoor
namespace Rows

/-- THE TIED CARD OF 'trunnionlaw03.BitmapOut'. -/
def bitmapOutCard : Claim7 := { stood := { row := bitmapOutRow, standIns := [], harness := (true, "8351f21a7e1321e03cb59775c8f0f1cd0b669d9b236ca9a0ab41fab7c1633f6f"), looks := false }, kinds := [], alts := [], laidByText := true, laidKinds := [.data], laidTests := true, laidLooks := .later }
def BitmapOutCardSaid : Prop := Claim7.holds Tryd.pinned (.plain (OpenSpec.ofChange bitmapOutSpec)) bitmapOutCard

/-- THE TIED CARD OF 'trunnionlaw03.BitmapPlays'. -/
def bitmapPlaysCard : Claim7 := { stood := { row := bitmapPlaysRow, standIns := [], harness := (true, "8351f21a7e1321e03cb59775c8f0f1cd0b669d9b236ca9a0ab41fab7c1633f6f"), looks := false }, kinds := [], alts := [], laidByText := true, laidKinds := [.data], laidTests := true, laidLooks := .later }
def BitmapPlaysCardSaid : Prop := Claim7.holds Tryd.pinned (.plain (OpenSpec.ofChange bitmapPlaysSpec)) bitmapPlaysCard

/-- THE TIED CARD OF 'trunnionlaw03.BitmapGaps'. -/
def bitmapGapsCard : Claim7 := { stood := { row := bitmapGapsRow, standIns := [], harness := (true, "8351f21a7e1321e03cb59775c8f0f1cd0b669d9b236ca9a0ab41fab7c1633f6f"), looks := false }, kinds := [], alts := [], laidByText := true, laidKinds := [.data], laidTests := true, laidLooks := .later }
def BitmapGapsCardSaid : Prop := Claim7.holds Tryd.pinned (.plain (OpenSpec.ofChange bitmapGapsSpec)) bitmapGapsCard

/-- THE TIED CARD OF 'trunnionlaw03.BitmapRises'. -/
def bitmapRisesCard : Claim7 := { stood := { row := bitmapRisesRow, standIns := [], harness := (true, "8351f21a7e1321e03cb59775c8f0f1cd0b669d9b236ca9a0ab41fab7c1633f6f"), looks := false }, kinds := [], alts := [], laidByText := true, laidKinds := [.data], laidTests := true, laidLooks := .later }
def BitmapRisesCardSaid : Prop := Claim7.holds Tryd.pinned (.plain (OpenSpec.ofChange bitmapRisesSpec)) bitmapRisesCard

/-- THE SECOND FORM's CARD OF 'trunnionlaw03.BitmapOut'. -/
def bitmapOutUptoCard : Claim7 := { stood := { row := bitmapOutUptoRow, standIns := [], harness := (true, "8351f21a7e1321e03cb59775c8f0f1cd0b669d9b236ca9a0ab41fab7c1633f6f"), looks := false }, kinds := [], alts := [], laidByText := true, laidKinds := [.data], laidTests := true, laidLooks := .later }
def BitmapOutUptoCardSaid : Prop := Claim7.holds Tryd.pinned (.plain (OpenSpec.upto bitmapOutSpec)) bitmapOutUptoCard

/-- THE SECOND FORM's CARD OF 'trunnionlaw03.BitmapPlays'. -/
def bitmapPlaysUptoCard : Claim7 := { stood := { row := bitmapPlaysUptoRow, standIns := [], harness := (true, "8351f21a7e1321e03cb59775c8f0f1cd0b669d9b236ca9a0ab41fab7c1633f6f"), looks := false }, kinds := [], alts := [], laidByText := true, laidKinds := [.data], laidTests := true, laidLooks := .later }
def BitmapPlaysUptoCardSaid : Prop := Claim7.holds Tryd.pinned (.plain (OpenSpec.upto bitmapPlaysSpec)) bitmapPlaysUptoCard

/-- THE SECOND FORM's CARD OF 'trunnionlaw03.BitmapGaps'. -/
def bitmapGapsUptoCard : Claim7 := { stood := { row := bitmapGapsUptoRow, standIns := [], harness := (true, "8351f21a7e1321e03cb59775c8f0f1cd0b669d9b236ca9a0ab41fab7c1633f6f"), looks := false }, kinds := [], alts := [], laidByText := true, laidKinds := [.data], laidTests := true, laidLooks := .later }
def BitmapGapsUptoCardSaid : Prop := Claim7.holds Tryd.pinned (.plain (OpenSpec.upto bitmapGapsSpec)) bitmapGapsUptoCard

/-- THE SECOND FORM's CARD OF 'trunnionlaw03.BitmapRises'. -/
def bitmapRisesUptoCard : Claim7 := { stood := { row := bitmapRisesUptoRow, standIns := [], harness := (true, "8351f21a7e1321e03cb59775c8f0f1cd0b669d9b236ca9a0ab41fab7c1633f6f"), looks := false }, kinds := [], alts := [], laidByText := true, laidKinds := [.data], laidTests := true, laidLooks := .later }
def BitmapRisesUptoCardSaid : Prop := Claim7.holds Tryd.pinned (.plain (OpenSpec.upto bitmapRisesSpec)) bitmapRisesUptoCard
end Rows
end Go.Proofs.YtfihnnijcaapkaaDoor
