/- From abstract calls to the given row. -/
import Derived.Test.YtliakckflcoffaaDoorAbsV
import Derived.Below
set_option linter.unusedVariables false
namespace Go.Abs
open Go

/-- A heap with nothing in it. -/
def AHeap.empty : AHeap := ⟨0, fun _ => .dead⟩
theorem Rel.empty {B : Nat} {w : World} (h : B ≤ w.heap.size) : Rel 0 B (fun _ => none) AHeap.empty w :=
  ⟨h, fun g hg => absurd hg (Nat.not_lt_zero g), fun b p hb => (by cases hb), fun b _ => rfl, fun b p hb => (by cases hb), fun b b' p p' hb => (by cases hb)⟩

/-- Plain arguments, no package variables: true, and nothing changed below. -/
theorem walk_plain {P : Program} {f : FuncId} {args : List Value} (hG : P.globals.size = 0) (hp : args.all plainCell = true) (w : World) (h : ∀ H, ACalls P f args H fun v H' => v = .bool true) :
    Calls P f args.toArray w fun e w' => e = .returned (.bool true) ∧ RowKit.Below w.heap.size w w' := by
  have hr : Rel P.globals.size w.heap.size (fun _ => none) AHeap.empty w := by rw [hG]; exact Rel.empty (Nat.le_refl _)
  refine (h AHeap.empty _ _ w args hr (VRels.plain hp)).mono fun e w' ⟨v, H', φ', u, he, hv, hst, hvu⟩ => ?_
  subst hv
  exact ⟨by rw [he, hvu.bool], hst.below hr⟩
end Go.Abs
