/-
  No cell of these rows narrows 'for every input' (looked for: loops, veiled, ifaces, maps, wideKeys, modest, calm, conditions, laid).
  DERIVED. THE GIVEN ROWS OF THIS SEAT. 6 by the template 'for every input the law returns true; each argument reads behind the call as it read before'; 0 by the template 'total and deterministic' (their statements: YtcjckenainacaaaTotals.lean).
  GIVEN WITH THE SEED: the statements are not yours to turn. If you find one false, say at which input.
  Laid BY PROGRAM, IN A SANDBOX (cutbox-rows.mjs): the forced cells as the released guide's own fill.sh prints them over the translation 41c3e7792cfcdea1… (all of the seat's roots in one cut). By AI agents, Wed Nov 11 2026. No macro, syntax, notation, axiom, sorry.
-/
import Derived.Test.YtcjckenainacaaaChecked
import GoSem.Claim
import GoSem.ClaimJoined
import GoSem.ClaimMapViews
import Derived.JoinedTies
import Derived.KernelRfl
namespace Go.Proofs.Ytcjckenainacaaa
/- THE CELL 'sum', in the pinned program and in every row, IS THE sha256 OF THE DUMP (.gsa) THAT YtcjckenainacaaaProg.lean LOADS. Nothing in Lean hashes anything: it is a label: what it is worth is what the hold of that sum in a sandbox is worth. -/
noncomputable def Try.pinned : Pinned := { name := "ytcjckenainacaaa", sum := "41c3e7792cfcdea135ccb0ad80e1573e73dceaae16dfbd80e983921fe315aedd", checked := Try.checked }
namespace Rows
def none {H : Type} : Left H := { results := [], args := [] }

/-- 'marginalialaw09.WrapMarks': WHATEVER THE INPUT: true; the input reads as it did. -/
def wrapMarksSpec : ChangeSpec := { name := "wrapMarks", fn := fun _ => fun
  | [d] => { results := [.lit (.bool true)], args := [d] }
  | _ => none }
def wrapMarksRow : OpenClaim := { program := "ytcjckenainacaaa", sum := "41c3e7792cfcdea135ccb0ad80e1573e73dceaae16dfbd80e983921fe315aedd", func := "marginalia/marginalialaw09.WrapMarks", spec := "wrapMarks", apart := false }
def WrapMarksSaid : Prop := wrapMarksRow.holds Try.pinned (OpenSpec.ofChange wrapMarksSpec)

/-- ITS FALSE NEIGHBOUR: 'it returns false'. Refute it at one input. -/
def wrapMarksWrong : ChangeSpec := { name := "wrapMarks", fn := fun _ => fun
  | [d] => { results := [.lit (.bool false)], args := [d] }
  | _ => none }
def WrapMarksWrongFalsely : Prop := wrapMarksRow.holds Try.pinned (OpenSpec.ofChange wrapMarksWrong)

/-- 'marginalialaw09.WrapOrder': WHATEVER THE INPUT: true; the input reads as it did. -/
def wrapOrderSpec : ChangeSpec := { name := "wrapOrder", fn := fun _ => fun
  | [d1, d2, d3] => { results := [.lit (.bool true)], args := [d1, d2, d3] }
  | _ => none }
def wrapOrderRow : OpenClaim := { program := "ytcjckenainacaaa", sum := "41c3e7792cfcdea135ccb0ad80e1573e73dceaae16dfbd80e983921fe315aedd", func := "marginalia/marginalialaw09.WrapOrder", spec := "wrapOrder", apart := false }
def WrapOrderSaid : Prop := wrapOrderRow.holds Try.pinned (OpenSpec.ofChange wrapOrderSpec)

/-- ITS FALSE NEIGHBOUR: 'it returns false'. Refute it at one input. -/
def wrapOrderWrong : ChangeSpec := { name := "wrapOrder", fn := fun _ => fun
  | [d1, d2, d3] => { results := [.lit (.bool false)], args := [d1, d2, d3] }
  | _ => none }
def WrapOrderWrongFalsely : Prop := wrapOrderRow.holds Try.pinned (OpenSpec.ofChange wrapOrderWrong)

/-- 'marginalialaw09.WrapNone': WHATEVER THE INPUT: true; the input reads as it did. -/
def wrapNoneSpec : ChangeSpec := { name := "wrapNone", fn := fun _ => fun
  | [d] => { results := [.lit (.bool true)], args := [d] }
  | _ => none }
def wrapNoneRow : OpenClaim := { program := "ytcjckenainacaaa", sum := "41c3e7792cfcdea135ccb0ad80e1573e73dceaae16dfbd80e983921fe315aedd", func := "marginalia/marginalialaw09.WrapNone", spec := "wrapNone", apart := false }
def WrapNoneSaid : Prop := wrapNoneRow.holds Try.pinned (OpenSpec.ofChange wrapNoneSpec)

/-- ITS FALSE NEIGHBOUR: 'it returns false'. Refute it at one input. -/
def wrapNoneWrong : ChangeSpec := { name := "wrapNone", fn := fun _ => fun
  | [d] => { results := [.lit (.bool false)], args := [d] }
  | _ => none }
def WrapNoneWrongFalsely : Prop := wrapNoneRow.holds Try.pinned (OpenSpec.ofChange wrapNoneWrong)

/-- 'marginalialaw09.WrapAnti': WHATEVER THE INPUT: true; the input reads as it did. -/
def wrapAntiSpec : ChangeSpec := { name := "wrapAnti", fn := fun _ => fun
  | [d1, d2, d3] => { results := [.lit (.bool true)], args := [d1, d2, d3] }
  | _ => none }
def wrapAntiRow : OpenClaim := { program := "ytcjckenainacaaa", sum := "41c3e7792cfcdea135ccb0ad80e1573e73dceaae16dfbd80e983921fe315aedd", func := "marginalia/marginalialaw09.WrapAnti", spec := "wrapAnti", apart := false }
def WrapAntiSaid : Prop := wrapAntiRow.holds Try.pinned (OpenSpec.ofChange wrapAntiSpec)

/-- ITS FALSE NEIGHBOUR: 'it returns false'. Refute it at one input. -/
def wrapAntiWrong : ChangeSpec := { name := "wrapAnti", fn := fun _ => fun
  | [d1, d2, d3] => { results := [.lit (.bool false)], args := [d1, d2, d3] }
  | _ => none }
def WrapAntiWrongFalsely : Prop := wrapAntiRow.holds Try.pinned (OpenSpec.ofChange wrapAntiWrong)

/-- 'marginalialaw09.WrapGrows': WHATEVER THE INPUT: true; the input reads as it did. -/
def wrapGrowsSpec : ChangeSpec := { name := "wrapGrows", fn := fun _ => fun
  | [d1, d2] => { results := [.lit (.bool true)], args := [d1, d2] }
  | _ => none }
def wrapGrowsRow : OpenClaim := { program := "ytcjckenainacaaa", sum := "41c3e7792cfcdea135ccb0ad80e1573e73dceaae16dfbd80e983921fe315aedd", func := "marginalia/marginalialaw09.WrapGrows", spec := "wrapGrows", apart := false }
def WrapGrowsSaid : Prop := wrapGrowsRow.holds Try.pinned (OpenSpec.ofChange wrapGrowsSpec)

/-- ITS FALSE NEIGHBOUR: 'it returns false'. Refute it at one input. -/
def wrapGrowsWrong : ChangeSpec := { name := "wrapGrows", fn := fun _ => fun
  | [d1, d2] => { results := [.lit (.bool false)], args := [d1, d2] }
  | _ => none }
def WrapGrowsWrongFalsely : Prop := wrapGrowsRow.holds Try.pinned (OpenSpec.ofChange wrapGrowsWrong)

/-- 'marginalialaw09.WrapJoins': WHATEVER THE INPUT: true; the input reads as it did. -/
def wrapJoinsSpec : ChangeSpec := { name := "wrapJoins", fn := fun _ => fun
  | [d1, d2] => { results := [.lit (.bool true)], args := [d1, d2] }
  | _ => none }
def wrapJoinsRow : OpenClaim := { program := "ytcjckenainacaaa", sum := "41c3e7792cfcdea135ccb0ad80e1573e73dceaae16dfbd80e983921fe315aedd", func := "marginalia/marginalialaw09.WrapJoins", spec := "wrapJoins", apart := false }
def WrapJoinsSaid : Prop := wrapJoinsRow.holds Try.pinned (OpenSpec.ofChange wrapJoinsSpec)

/-- ITS FALSE NEIGHBOUR: 'it returns false'. Refute it at one input. -/
def wrapJoinsWrong : ChangeSpec := { name := "wrapJoins", fn := fun _ => fun
  | [d1, d2] => { results := [.lit (.bool false)], args := [d1, d2] }
  | _ => none }
def WrapJoinsWrongFalsely : Prop := wrapJoinsRow.holds Try.pinned (OpenSpec.ofChange wrapJoinsWrong)

/- THE SECOND FORM. 'bulk': how many values and letters a reading holds, each counted each time it is reached (what is shared counts as often as it is met; a slice's spare places count too). A statement '..UptoSaid' is the law's where the arguments, and the package variables that the reading takes, are together of bulk at most 1048576: NARROWER than '..Said'. Prove '..Said' where nothing that the law and all that it calls make is longer than what came in: it says more and counts as full. Else prove '..UptoSaid'. A law counts once. -/
mutual
def uptoBulk {H : Type} : DataW H → Nat
  | .lit (.string bytes) => bytes.length + 1
  | .lit _ => 1
  | .nil => 1
  | .ptr d => uptoBulk d + 1
  | .slice elems spare => uptoBulkAll elems + uptoBulkAll spare + 1
  | .agg parts => uptoBulkAll parts + 1
  | .iface _ d => uptoBulk d + 1
  | .map entries => uptoBulkEntries entries + 1
  | .held _ => 1
def uptoBulkAll {H : Type} : List (DataW H) → Nat
  | [] => 0
  | d :: r => uptoBulk d + uptoBulkAll r
def uptoBulkEntries {H : Type} : List (Lit × DataW H) → Nat
  | [] => 0
  | x :: r => uptoBulkEntry x + uptoBulkEntries r
def uptoBulkEntry {H : Type} : Lit × DataW H → Nat
  | (.string bytes, d) => bytes.length + uptoBulk d + 1
  | (_, d) => uptoBulk d + 1
 end
def uptoSmall : (H : Type) → List (DataW H) → Bool := fun _ ds => decide (uptoBulkAll ds ≤ 1048576)
def OpenSpec.upto (s : _root_.Go.ChangeSpec) : _root_.Go.OpenSpec := { _root_.Go.OpenSpec.ofChange s with cond := some uptoSmall }

/-- 'marginalialaw09.WrapMarks', WHERE WHAT IT READS IS OF BULK AT MOST 1048576: true; the input reads as it did. -/
def wrapMarksUptoRow : OpenClaim := { program := "ytcjckenainacaaa", sum := "41c3e7792cfcdea135ccb0ad80e1573e73dceaae16dfbd80e983921fe315aedd", func := "marginalia/marginalialaw09.WrapMarks", spec := "wrapMarks", apart := false, narrowed := true }
def WrapMarksUptoSaid : Prop := wrapMarksUptoRow.holds Try.pinned (OpenSpec.upto wrapMarksSpec)

/-- 'marginalialaw09.WrapOrder', WHERE WHAT IT READS IS OF BULK AT MOST 1048576: true; the input reads as it did. -/
def wrapOrderUptoRow : OpenClaim := { program := "ytcjckenainacaaa", sum := "41c3e7792cfcdea135ccb0ad80e1573e73dceaae16dfbd80e983921fe315aedd", func := "marginalia/marginalialaw09.WrapOrder", spec := "wrapOrder", apart := false, narrowed := true }
def WrapOrderUptoSaid : Prop := wrapOrderUptoRow.holds Try.pinned (OpenSpec.upto wrapOrderSpec)

/-- 'marginalialaw09.WrapNone', WHERE WHAT IT READS IS OF BULK AT MOST 1048576: true; the input reads as it did. -/
def wrapNoneUptoRow : OpenClaim := { program := "ytcjckenainacaaa", sum := "41c3e7792cfcdea135ccb0ad80e1573e73dceaae16dfbd80e983921fe315aedd", func := "marginalia/marginalialaw09.WrapNone", spec := "wrapNone", apart := false, narrowed := true }
def WrapNoneUptoSaid : Prop := wrapNoneUptoRow.holds Try.pinned (OpenSpec.upto wrapNoneSpec)

/-- 'marginalialaw09.WrapAnti', WHERE WHAT IT READS IS OF BULK AT MOST 1048576: true; the input reads as it did. -/
def wrapAntiUptoRow : OpenClaim := { program := "ytcjckenainacaaa", sum := "41c3e7792cfcdea135ccb0ad80e1573e73dceaae16dfbd80e983921fe315aedd", func := "marginalia/marginalialaw09.WrapAnti", spec := "wrapAnti", apart := false, narrowed := true }
def WrapAntiUptoSaid : Prop := wrapAntiUptoRow.holds Try.pinned (OpenSpec.upto wrapAntiSpec)

/-- 'marginalialaw09.WrapGrows', WHERE WHAT IT READS IS OF BULK AT MOST 1048576: true; the input reads as it did. -/
def wrapGrowsUptoRow : OpenClaim := { program := "ytcjckenainacaaa", sum := "41c3e7792cfcdea135ccb0ad80e1573e73dceaae16dfbd80e983921fe315aedd", func := "marginalia/marginalialaw09.WrapGrows", spec := "wrapGrows", apart := false, narrowed := true }
def WrapGrowsUptoSaid : Prop := wrapGrowsUptoRow.holds Try.pinned (OpenSpec.upto wrapGrowsSpec)

/-- 'marginalialaw09.WrapJoins', WHERE WHAT IT READS IS OF BULK AT MOST 1048576: true; the input reads as it did. -/
def wrapJoinsUptoRow : OpenClaim := { program := "ytcjckenainacaaa", sum := "41c3e7792cfcdea135ccb0ad80e1573e73dceaae16dfbd80e983921fe315aedd", func := "marginalia/marginalialaw09.WrapJoins", spec := "wrapJoins", apart := false, narrowed := true }
def WrapJoinsUptoSaid : Prop := wrapJoinsUptoRow.holds Try.pinned (OpenSpec.upto wrapJoinsSpec)

end Rows
end Go.Proofs.Ytcjckenainacaaa
