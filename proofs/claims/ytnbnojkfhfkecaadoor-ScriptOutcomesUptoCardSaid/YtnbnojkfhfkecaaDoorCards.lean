/-
  DERIVED. GIVEN WITH THE SEED: THE CARDS: each row of YtnbnojkfhfkecaaDoorRows.lean that lists a variable, with what it lists TIED to the program's text (the seventh form; the later family's looks); each row that meets fmt, with fmt's text TOLD by the authors' own Lean function (tested against real Go, not proved from fmt's source: count such statements apart). THE CARD IS WHAT COUNTS. Prove the row's statement (the work); the ties are given (YtnbnojkfhfkecaaDoorTie.lean); close each card by the builder's one call (the guide's Derived/Test/ToyasCard.lean, 'card_holds'). Laid BY PROGRAM, IN A SANDBOX (cutbox-door.mjs). By AI agents, Wed Nov 11 2026. No macro, syntax, notation, axiom, sorry.
-/
import Derived.Test.YtnbnojkfhfkecaaDoorRows
import GoSem.ClaimSeven
namespace Go.Proofs.YtnbnojkfhfkecaaDoor
namespace Rows

/-- THE TIED CARD OF 'marginalialaw22.ScriptMany'. -/
def scriptManyCard : Claim7 := { stood := { row := scriptManyRow, standIns := [], harness := (true, "66fc2873eac2d0977bc2e3b0a56cc6a11546efdd6732e5951bcd881cf6ffd647"), looks := true }, kinds := [], alts := [], laidByText := true, laidKinds := [.data, .data, .data, .data, .sentinel, .sentinel, .pinned], laidTests := true, laidLooks := .later }
def ScriptManyCardSaid : Prop := Claim7.holds Tryd.pinned (.plain (OpenSpec.ofChange scriptManySpec)) scriptManyCard

/-- THE TIED CARD OF 'marginalialaw22.ScriptLines'. -/
def scriptLinesCard : Claim7 := { stood := { row := scriptLinesRow, standIns := [], harness := (true, "66fc2873eac2d0977bc2e3b0a56cc6a11546efdd6732e5951bcd881cf6ffd647"), looks := true }, kinds := [], alts := [], laidByText := true, laidKinds := [.data, .data, .data, .data, .sentinel, .sentinel, .pinned], laidTests := true, laidLooks := .later }
def ScriptLinesCardSaid : Prop := Claim7.holds Tryd.pinned (.plain (OpenSpec.ofChange scriptLinesSpec)) scriptLinesCard

/-- THE TIED CARD OF 'marginalialaw22.ScriptPuts'. -/
def scriptPutsCard : Claim7 := { stood := { row := scriptPutsRow, standIns := [], harness := (true, "66fc2873eac2d0977bc2e3b0a56cc6a11546efdd6732e5951bcd881cf6ffd647"), looks := true }, kinds := [], alts := [], laidByText := true, laidKinds := [.data, .data, .data], laidTests := true, laidLooks := .later }
def ScriptPutsCardSaid : Prop := Claim7.holds Tryd.pinned (.plain (OpenSpec.ofChange scriptPutsSpec)) scriptPutsCard

/-- THE TIED CARD OF 'marginalialaw22.ScriptOutcomes'. -/
def scriptOutcomesCard : Claim7 := { stood := { row := scriptOutcomesRow, standIns := [], harness := (true, "66fc2873eac2d0977bc2e3b0a56cc6a11546efdd6732e5951bcd881cf6ffd647"), looks := true }, kinds := [], alts := [], laidByText := true, laidKinds := [.data, .data, .data, .data, .pinned], laidTests := true, laidLooks := .later }
def ScriptOutcomesCardSaid : Prop := Claim7.holds Tryd.pinned (.plain (OpenSpec.ofChange scriptOutcomesSpec)) scriptOutcomesCard

/-- THE TIED CARD OF 'marginalialaw22.ScriptBack'. -/
def scriptBackCard : Claim7 := { stood := { row := scriptBackRow, standIns := [], harness := (true, "66fc2873eac2d0977bc2e3b0a56cc6a11546efdd6732e5951bcd881cf6ffd647"), looks := true }, kinds := [], alts := [], laidByText := true, laidKinds := [.data, .data, .data, .data, .sentinel, .sentinel, .pinned], laidTests := true, laidLooks := .later }
def ScriptBackCardSaid : Prop := Claim7.holds Tryd.pinned (.plain (OpenSpec.ofChange scriptBackSpec)) scriptBackCard

/-- THE SECOND FORM's CARD OF 'marginalialaw22.ScriptMany'. -/
def scriptManyUptoCard : Claim7 := { stood := { row := scriptManyUptoRow, standIns := [], harness := (true, "66fc2873eac2d0977bc2e3b0a56cc6a11546efdd6732e5951bcd881cf6ffd647"), looks := true }, kinds := [], alts := [], laidByText := true, laidKinds := [.data, .data, .data, .data, .sentinel, .sentinel, .pinned], laidTests := true, laidLooks := .later }
def ScriptManyUptoCardSaid : Prop := Claim7.holds Tryd.pinned (.plain (OpenSpec.upto scriptManySpec)) scriptManyUptoCard

/-- THE SECOND FORM's CARD OF 'marginalialaw22.ScriptLines'. -/
def scriptLinesUptoCard : Claim7 := { stood := { row := scriptLinesUptoRow, standIns := [], harness := (true, "66fc2873eac2d0977bc2e3b0a56cc6a11546efdd6732e5951bcd881cf6ffd647"), looks := true }, kinds := [], alts := [], laidByText := true, laidKinds := [.data, .data, .data, .data, .sentinel, .sentinel, .pinned], laidTests := true, laidLooks := .later }
def ScriptLinesUptoCardSaid : Prop := Claim7.holds Tryd.pinned (.plain (OpenSpec.upto scriptLinesSpec)) scriptLinesUptoCard

/-- THE SECOND FORM's CARD OF 'marginalialaw22.ScriptPuts'. -/
def scriptPutsUptoCard : Claim7 := { stood := { row := scriptPutsUptoRow, standIns := [], harness := (true, "66fc2873eac2d0977bc2e3b0a56cc6a11546efdd6732e5951bcd881cf6ffd647"), looks := true }, kinds := [], alts := [], laidByText := true, laidKinds := [.data, .data, .data], laidTests := true, laidLooks := .later }
def ScriptPutsUptoCardSaid : Prop := Claim7.holds Tryd.pinned (.plain (OpenSpec.upto scriptPutsSpec)) scriptPutsUptoCard

/-- THE SECOND FORM's CARD OF 'marginalialaw22.ScriptOutcomes'. -/
def scriptOutcomesUptoCard : Claim7 := { stood := { row := scriptOutcomesUptoRow, standIns := [], harness := (true, "66fc2873eac2d0977bc2e3b0a56cc6a11546efdd6732e5951bcd881cf6ffd647"), looks := true }, kinds := [], alts := [], laidByText := true, laidKinds := [.data, .data, .data, .data, .pinned], laidTests := true, laidLooks := .later }
def ScriptOutcomesUptoCardSaid : Prop := Claim7.holds Tryd.pinned (.plain (OpenSpec.upto scriptOutcomesSpec)) scriptOutcomesUptoCard

/-- THE SECOND FORM's CARD OF 'marginalialaw22.ScriptBack'. -/
def scriptBackUptoCard : Claim7 := { stood := { row := scriptBackUptoRow, standIns := [], harness := (true, "66fc2873eac2d0977bc2e3b0a56cc6a11546efdd6732e5951bcd881cf6ffd647"), looks := true }, kinds := [], alts := [], laidByText := true, laidKinds := [.data, .data, .data, .data, .sentinel, .sentinel, .pinned], laidTests := true, laidLooks := .later }
def ScriptBackUptoCardSaid : Prop := Claim7.holds Tryd.pinned (.plain (OpenSpec.upto scriptBackSpec)) scriptBackUptoCard
end Rows
end Go.Proofs.YtnbnojkfhfkecaaDoor
