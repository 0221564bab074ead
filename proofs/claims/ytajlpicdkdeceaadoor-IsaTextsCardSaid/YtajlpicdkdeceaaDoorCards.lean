/-
  DERIVED. GIVEN WITH THE SEED: THE CARDS: each row of YtajlpicdkdeceaaDoorRows.lean that lists a variable, with what it lists TIED to the program's text (the seventh form; the later family's looks); each row that meets fmt, with fmt's text TOLD by the authors' own Lean function (tested against real Go, not proved from fmt's source: count such statements apart). THE CARD IS WHAT COUNTS. Prove the row's statement (the work); the ties are given (YtajlpicdkdeceaaDoorTie.lean); close each card by the builder's one call (the guide's Derived/Test/ToyasCard.lean, 'card_holds'). Laid BY PROGRAM, IN A SANDBOX (cutbox-door.mjs). By AI agents, Wed Nov 11 2026. No macro, syntax, notation, axiom, sorry.
-/
import Derived.Test.YtajlpicdkdeceaaDoorRows
import GoSem.ClaimSeven
namespace Go.Proofs.YtajlpicdkdeceaaDoor
namespace Rows

/-- THE TIED CARD OF 'trunnionlaw12.IsaTexts'. -/
def isaTextsCard : Claim7 := { stood := { row := isaTextsRow, standIns := [], harness := (true, "afa0086247b99805c2bda18482d9a36c875b15a988af53337be06e2db96e82ae"), looks := true }, kinds := [], alts := [], laidByText := true, laidKinds := [.data, .data, .data, .data, .sentinel, .sentinel, .pinned], laidTests := true, laidLooks := .later }
def IsaTextsCardSaid : Prop := Claim7.holds Tryd.pinned (.plain (OpenSpec.ofChange isaTextsSpec)) isaTextsCard

/-- THE TIED CARD OF 'trunnionlaw12.IsaOne'. -/
def isaOneCard : Claim7 := { stood := { row := isaOneRow, standIns := [], harness := (true, "afa0086247b99805c2bda18482d9a36c875b15a988af53337be06e2db96e82ae"), looks := true }, kinds := [], alts := [], laidByText := true, laidKinds := [.data, .data, .data, .data, .sentinel, .sentinel, .pinned], laidTests := true, laidLooks := .later }
def IsaOneCardSaid : Prop := Claim7.holds Tryd.pinned (.plain (OpenSpec.ofChange isaOneSpec)) isaOneCard

/-- THE TIED CARD OF 'trunnionlaw12.IsaWords'. -/
def isaWordsCard : Claim7 := { stood := { row := isaWordsRow, standIns := [], harness := (true, "afa0086247b99805c2bda18482d9a36c875b15a988af53337be06e2db96e82ae"), looks := true }, kinds := [], alts := [], laidByText := true, laidKinds := [.data, .data, .data, .data, .sentinel, .sentinel, .pinned], laidTests := true, laidLooks := .later }
def IsaWordsCardSaid : Prop := Claim7.holds Tryd.pinned (.plain (OpenSpec.ofChange isaWordsSpec)) isaWordsCard

/-- THE TIED CARD OF 'trunnionlaw12.IsaBack'. -/
def isaBackCard : Claim7 := { stood := { row := isaBackRow, standIns := [], harness := (true, "afa0086247b99805c2bda18482d9a36c875b15a988af53337be06e2db96e82ae"), looks := true }, kinds := [], alts := [], laidByText := true, laidKinds := [.data, .data, .data, .data, .sentinel, .sentinel, .pinned], laidTests := true, laidLooks := .later }
def IsaBackCardSaid : Prop := Claim7.holds Tryd.pinned (.plain (OpenSpec.ofChange isaBackSpec)) isaBackCard

/-- THE SECOND FORM's CARD OF 'trunnionlaw12.IsaTexts'. -/
def isaTextsUptoCard : Claim7 := { stood := { row := isaTextsUptoRow, standIns := [], harness := (true, "afa0086247b99805c2bda18482d9a36c875b15a988af53337be06e2db96e82ae"), looks := true }, kinds := [], alts := [], laidByText := true, laidKinds := [.data, .data, .data, .data, .sentinel, .sentinel, .pinned], laidTests := true, laidLooks := .later }
def IsaTextsUptoCardSaid : Prop := Claim7.holds Tryd.pinned (.plain (OpenSpec.upto isaTextsSpec)) isaTextsUptoCard

/-- THE SECOND FORM's CARD OF 'trunnionlaw12.IsaOne'. -/
def isaOneUptoCard : Claim7 := { stood := { row := isaOneUptoRow, standIns := [], harness := (true, "afa0086247b99805c2bda18482d9a36c875b15a988af53337be06e2db96e82ae"), looks := true }, kinds := [], alts := [], laidByText := true, laidKinds := [.data, .data, .data, .data, .sentinel, .sentinel, .pinned], laidTests := true, laidLooks := .later }
def IsaOneUptoCardSaid : Prop := Claim7.holds Tryd.pinned (.plain (OpenSpec.upto isaOneSpec)) isaOneUptoCard

/-- THE SECOND FORM's CARD OF 'trunnionlaw12.IsaWords'. -/
def isaWordsUptoCard : Claim7 := { stood := { row := isaWordsUptoRow, standIns := [], harness := (true, "afa0086247b99805c2bda18482d9a36c875b15a988af53337be06e2db96e82ae"), looks := true }, kinds := [], alts := [], laidByText := true, laidKinds := [.data, .data, .data, .data, .sentinel, .sentinel, .pinned], laidTests := true, laidLooks := .later }
def IsaWordsUptoCardSaid : Prop := Claim7.holds Tryd.pinned (.plain (OpenSpec.upto isaWordsSpec)) isaWordsUptoCard

/-- THE SECOND FORM's CARD OF 'trunnionlaw12.IsaBack'. -/
def isaBackUptoCard : Claim7 := { stood := { row := isaBackUptoRow, standIns := [], harness := (true, "afa0086247b99805c2bda18482d9a36c875b15a988af53337be06e2db96e82ae"), looks := true }, kinds := [], alts := [], laidByText := true, laidKinds := [.data, .data, .data, .data, .sentinel, .sentinel, .pinned], laidTests := true, laidLooks := .later }
def IsaBackUptoCardSaid : Prop := Claim7.holds Tryd.pinned (.plain (OpenSpec.upto isaBackSpec)) isaBackUptoCard
end Rows
end Go.Proofs.YtajlpicdkdeceaaDoor
