/- The law WrapNone, from the contract of its function. No further conditions. -/
import Derived.Test.YtcjckenainacaaaW9
import Derived.Test.YtcjckenainacaaaAbsX
import Derived.Test.YtcjckenainacaaaRows
import Derived.WalkKit
import Derived.ProofKit
import Derived.OpenShut
import Derived.ShutString
import Derived.ChangeOld
import Derived.Below
import Derived.SizedLaws
namespace Go.Proofs.Ytcjckenainacaaa.wrapNone
open Go.ChangeShapes Go.WideShapes Go.ChangeAt Go.RowKit Go.Joins
open Go.ChangeMaps (open_string shut_string)
set_option linter.unusedVariables false
theorem own : ownKnob Try.prog.godebug = none := by kernel_rfl
theorem laidOut : laidOutB Try.prog = true := by kernel_rfl
set_option maxRecDepth 100000 in
theorem lifted (os : Os) (started : os.Started) (H : Type) (enc : TypeId × Value → H) :
    ReturnsInHanded {} Try.checked os 5 .any (Rows.wrapNoneSpec.pre6 enc Try.prog Try.f5 Rows.wrapNoneRow.domain false) (Rows.wrapNoneSpec.post enc Try.prog Try.f5 false true false false) := by
  refine returnsInHanded_of_change_sized (C := Try.checked) own started (by kernel_rfl) Try.func5
    (ChangeSpec.witness6 (enc := enc) (C := Try.checked) false ⟨#[], #[.agg #[.slice none 0 0, .slice none 0 0]], []⟩ 8 (by kernel_rfl) (by kernel_rfl) (by kernel_rfl) (by kernel_rfl)) ?_
  intro W base args ds gs before hval0 hW hcnd hsz0 _
  have hsz : (DataW.weightsEach Try.prog (Try.f5.params.toList ++ Rows.wrapNoneSpec.plain.varTypes Try.prog) (ds ++ gs)).all (· ≤ reachBytes) = true := hsz0
  have hval : ∀ (j : Nat) t v, Try.f5.params[j]? = some t → args[j]? = some v → Value.okWide Try.prog W .any base t v := hval0
  have hW' := hW
  obtain ⟨p, q, hA0, hV, rfl, hfz, hnd⟩ := hW
  have hA : DataW.TrodAll enc Try.prog W 0 (fun _ => true) true Try.f5.params.toList args.toList ds p := hA0
  rw [Try.params5] at hA hval hsz
  obtain ⟨v0, vs0, d0, ds0, p0, q0, hargs, rfl, rfl, h0, r0⟩ := trodAll_cons hA
  obtain ⟨rfl, rfl, rfl⟩ := trodAll_nil r0
  obtain rfl : args = #[v0] := by cases args; simp_all
  obtain ⟨rfl, rfl⟩ := trodVars_none hV
  have g0 : Try.prog.globals.size = 0 := by kernel_rfl
  have rr0 : Abs.Rel Try.prog.globals.size W.heap.size (fun _ => none) Abs.AHeap.empty W := by rw [g0]; exact Abs.Rel.empty (Nat.le_refl _)
  have k0 := h0
  have lt0 : ∀ x ∈ p0, x.block < W.heap.size := by obtain ⟨m, hm⟩ := k0; exact DataW.trod_lt m _ _ _ hm
  obtain ⟨u0_0, u0_1, y0_0, y0_1, n0, rfl, rfl, rfl, f0_0, f0_1⟩ := open_agg2 Try.underlying24 (by kernel_rfl) (by kernel_rfl) (hval 0 24 v0 rfl rfl) h0
  obtain ⟨A0_0, z0_0, φ1, H1, rr1, le1, vr0_0, kp1, rd0_0, wf0_0, ml0_0, sz0_0⟩ := Abs.openInts Try.underlying22 Try.underlying3 (by kernel_rfl) (fun _ => rfl) f0_0 rr0
  obtain ⟨A0_1, z0_1, φ2, H2, rr2, le2, vr0_1, kp2, rd0_1, wf0_1, ml0_1, sz0_1⟩ := Abs.openInts Try.underlying22 Try.underlying3 (by kernel_rfl) (fun _ => rfl) f0_1 rr1
  have rd0_0 := ((rd0_0.kept kp2).up kp2.next)
  have rd0_1 := rd0_1
  clear hA0 hval0 hsz0 hsz
  have hw := Abs.walk_mem (P := Try.prog) (f := 5) (args := [.agg #[.slice A0_0 z0_0.length z0_0.length, .slice A0_1 z0_1.length z0_1.length]]) W rr2 (Abs.VRels.cons (Abs.agg_of (Abs.VRels.cons (vr0_0.mono (fun _ _ h => (le2 _ _ h))) (Abs.VRels.cons (vr0_1.mono (fun _ _ h => h)) (Abs.VRels.nil _)))) (Abs.VRels.nil _)) (A.c5 (Nat.le_refl _) ⟨A0_0, A0_1, rfl, rd0_0, rd0_1⟩)
  refine hw.mono fun e W' ⟨he, bel⟩ => ?_
  subst he
  exact ⟨_, rfl, _, _, _, [], _, [], hW', trodAll_mk1 (shut_bool Try.underlying4 _), (trodAll_cons_mk (Below.trod laidOut (by kernel_rfl) (of_decide_eq_true (by kernel_rfl)) k0 bel lt0) trodAll_mk0), rfl, bel.frame _, fun h => by cases h⟩
theorem over : Rows.wrapNoneRow.holds Try.pinned (OpenSpec.ofChange Rows.wrapNoneSpec) :=
  OpenClaim.holds_of_wide 5 Try.f5 rfl rfl rfl rfl rfl rfl rfl ⟨rfl, rfl, rfl, rfl, rfl⟩ rfl rfl rfl rfl rfl (by kernel_rfl) Try.func5 (by kernel_rfl)
    (of_decide_eq_true (by kernel_rfl)) (by unfold Func.isWrapper; first | (rw [if_pos (by decide +kernel)]; kernel_rfl) | (rw [if_neg (by decide +kernel)]; exact ⟨rfl, rfl⟩))
    (fun os started H enc _ => lifted os started H enc)
end Go.Proofs.Ytcjckenainacaaa.wrapNone
namespace Go.Proofs.Ytcjckenainacaaa
theorem wrapNone_holds : Rows.WrapNoneSaid := wrapNone.over
end Go.Proofs.Ytcjckenainacaaa
#print axioms Go.Proofs.Ytcjckenainacaaa.wrapNone_holds
