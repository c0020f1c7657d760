/-
  DERIVED. GIVEN WITH THE SEED: THE CARDS: each row of YtliakckflcoffaaDoorRows.lean that lists a variable, with what it lists TIED to the program's text (the seventh form; the later family's looks); each row that meets fmt, with fmt's text TOLD by the authors' own Lean function (tested against real Go, not proved from fmt's source: count such statements apart). THE CARD IS WHAT COUNTS. Prove the row's statement (the work); the ties are given (YtliakckflcoffaaDoorTie.lean); close each card by the builder's one call (the guide's Derived/Test/ToyasCard.lean, 'card_holds'). Laid BY PROGRAM, IN A SANDBOX (cutbox-door.mjs). By AI agents, Wed Nov 11 2026. No macro, syntax, notation, axiom, sorry.
-/
import Derived.Test.YtliakckflcoffaaDoorRows
import GoSem.ClaimSeven
namespace Go.Proofs.YtliakckflcoffaaDoor
namespace Rows

/-- THE TIED CARD OF 'marginalialaw02.UtfDecodes'. -/
def utfDecodesCard : Claim7 := { stood := { row := utfDecodesRow, standIns := [], harness := (true, "66f68d4bedeaa60ea2d8028ce3d324673a588d902b24a3470c2d25b340e060a3"), looks := true }, kinds := [], alts := [], laidByText := true, laidKinds := [.data, .pinned], laidTests := true, laidLooks := .later }
def UtfDecodesCardSaid : Prop := Claim7.holds Tryd.pinned (.plain (OpenSpec.ofChange utfDecodesSpec)) utfDecodesCard

/-- THE TIED CARD OF 'marginalialaw02.UtfJoins'. -/
def utfJoinsCard : Claim7 := { stood := { row := utfJoinsRow, standIns := [], harness := (true, "66f68d4bedeaa60ea2d8028ce3d324673a588d902b24a3470c2d25b340e060a3"), looks := true }, kinds := [], alts := [], laidByText := true, laidKinds := [.data, .pinned], laidTests := true, laidLooks := .later }
def UtfJoinsCardSaid : Prop := Claim7.holds Tryd.pinned (.plain (OpenSpec.ofChange utfJoinsSpec)) utfJoinsCard

/-- THE TIED CARD OF 'marginalialaw02.UtfSigns'. -/
def utfSignsCard : Claim7 := { stood := { row := utfSignsRow, standIns := [], harness := (true, "66f68d4bedeaa60ea2d8028ce3d324673a588d902b24a3470c2d25b340e060a3"), looks := true }, kinds := [], alts := [], laidByText := true, laidKinds := [.data, .pinned], laidTests := true, laidLooks := .later }
def UtfSignsCardSaid : Prop := Claim7.holds Tryd.pinned (.plain (OpenSpec.ofChange utfSignsSpec)) utfSignsCard

/-- THE TIED CARD OF 'marginalialaw02.UtfEncodes'. -/
def utfEncodesCard : Claim7 := { stood := { row := utfEncodesRow, standIns := [], harness := (true, "66f68d4bedeaa60ea2d8028ce3d324673a588d902b24a3470c2d25b340e060a3"), looks := true }, kinds := [], alts := [], laidByText := true, laidKinds := [.data, .pinned], laidTests := true, laidLooks := .later }
def UtfEncodesCardSaid : Prop := Claim7.holds Tryd.pinned (.plain (OpenSpec.ofChange utfEncodesSpec)) utfEncodesCard

/-- THE TIED CARD OF 'marginalialaw02.UtfBack'. -/
def utfBackCard : Claim7 := { stood := { row := utfBackRow, standIns := [], harness := (true, "66f68d4bedeaa60ea2d8028ce3d324673a588d902b24a3470c2d25b340e060a3"), looks := true }, kinds := [], alts := [], laidByText := true, laidKinds := [.data, .pinned], laidTests := true, laidLooks := .later }
def UtfBackCardSaid : Prop := Claim7.holds Tryd.pinned (.plain (OpenSpec.ofChange utfBackSpec)) utfBackCard

/-- THE TIED CARD OF 'marginalialaw02.UtfNames'. -/
def utfNamesCard : Claim7 := { stood := { row := utfNamesRow, standIns := [], harness := (true, "66f68d4bedeaa60ea2d8028ce3d324673a588d902b24a3470c2d25b340e060a3"), looks := true }, kinds := [], alts := [], laidByText := true, laidKinds := [.data, .data, .data, .data, .sentinel, .sentinel, .data, .pinned], laidTests := true, laidLooks := .later }
def UtfNamesCardSaid : Prop := Claim7.holds Tryd.pinned (.plain (OpenSpec.ofChange utfNamesSpec)) utfNamesCard

/-- THE SECOND FORM's CARD OF 'marginalialaw02.UtfDecodes'. -/
def utfDecodesUptoCard : Claim7 := { stood := { row := utfDecodesUptoRow, standIns := [], harness := (true, "66f68d4bedeaa60ea2d8028ce3d324673a588d902b24a3470c2d25b340e060a3"), looks := true }, kinds := [], alts := [], laidByText := true, laidKinds := [.data, .pinned], laidTests := true, laidLooks := .later }
def UtfDecodesUptoCardSaid : Prop := Claim7.holds Tryd.pinned (.plain (OpenSpec.upto utfDecodesSpec)) utfDecodesUptoCard

/-- THE SECOND FORM's CARD OF 'marginalialaw02.UtfJoins'. -/
def utfJoinsUptoCard : Claim7 := { stood := { row := utfJoinsUptoRow, standIns := [], harness := (true, "66f68d4bedeaa60ea2d8028ce3d324673a588d902b24a3470c2d25b340e060a3"), looks := true }, kinds := [], alts := [], laidByText := true, laidKinds := [.data, .pinned], laidTests := true, laidLooks := .later }
def UtfJoinsUptoCardSaid : Prop := Claim7.holds Tryd.pinned (.plain (OpenSpec.upto utfJoinsSpec)) utfJoinsUptoCard

/-- THE SECOND FORM's CARD OF 'marginalialaw02.UtfSigns'. -/
def utfSignsUptoCard : Claim7 := { stood := { row := utfSignsUptoRow, standIns := [], harness := (true, "66f68d4bedeaa60ea2d8028ce3d324673a588d902b24a3470c2d25b340e060a3"), looks := true }, kinds := [], alts := [], laidByText := true, laidKinds := [.data, .pinned], laidTests := true, laidLooks := .later }
def UtfSignsUptoCardSaid : Prop := Claim7.holds Tryd.pinned (.plain (OpenSpec.upto utfSignsSpec)) utfSignsUptoCard

/-- THE SECOND FORM's CARD OF 'marginalialaw02.UtfEncodes'. -/
def utfEncodesUptoCard : Claim7 := { stood := { row := utfEncodesUptoRow, standIns := [], harness := (true, "66f68d4bedeaa60ea2d8028ce3d324673a588d902b24a3470c2d25b340e060a3"), looks := true }, kinds := [], alts := [], laidByText := true, laidKinds := [.data, .pinned], laidTests := true, laidLooks := .later }
def UtfEncodesUptoCardSaid : Prop := Claim7.holds Tryd.pinned (.plain (OpenSpec.upto utfEncodesSpec)) utfEncodesUptoCard

/-- THE SECOND FORM's CARD OF 'marginalialaw02.UtfBack'. -/
def utfBackUptoCard : Claim7 := { stood := { row := utfBackUptoRow, standIns := [], harness := (true, "66f68d4bedeaa60ea2d8028ce3d324673a588d902b24a3470c2d25b340e060a3"), looks := true }, kinds := [], alts := [], laidByText := true, laidKinds := [.data, .pinned], laidTests := true, laidLooks := .later }
def UtfBackUptoCardSaid : Prop := Claim7.holds Tryd.pinned (.plain (OpenSpec.upto utfBackSpec)) utfBackUptoCard

/-- THE SECOND FORM's CARD OF 'marginalialaw02.UtfNames'. -/
def utfNamesUptoCard : Claim7 := { stood := { row := utfNamesUptoRow, standIns := [], harness := (true, "66f68d4bedeaa60ea2d8028ce3d324673a588d902b24a3470c2d25b340e060a3"), looks := true }, kinds := [], alts := [], laidByText := true, laidKinds := [.data, .data, .data, .data, .sentinel, .sentinel, .data, .pinned], laidTests := true, laidLooks := .later }
def UtfNamesUptoCardSaid : Prop := Claim7.holds Tryd.pinned (.plain (OpenSpec.upto utfNamesSpec)) utfNamesUptoCard
end Rows
end Go.Proofs.YtliakckflcoffaaDoor
