/- The law WrapOrder, from the contract of its function. No further conditions. -/
import Derived.Test.YtcjckenainacaaaW11
import Derived.Test.YtcjckenainacaaaAbsX
import Derived.Test.YtcjckenainacaaaRows
import Derived.WalkKit
import Derived.ProofKit
import Derived.OpenShut
import Derived.ShutString
import Derived.ChangeOld
import Derived.Below
import Derived.SizedLaws
namespace Go.Proofs.Ytcjckenainacaaa.wrapOrder
open Go.ChangeShapes Go.WideShapes Go.ChangeAt Go.RowKit Go.Joins
open Go.ChangeMaps (open_string shut_string)
set_option linter.unusedVariables false
theorem own : ownKnob Try.prog.godebug = none := by kernel_rfl
theorem laidOut : laidOutB Try.prog = true := by kernel_rfl
set_option maxRecDepth 100000 in
theorem lifted (os : Os) (started : os.Started) (H : Type) (enc : TypeId × Value → H) :
    ReturnsInHanded {} Try.checked os 4 .any (Rows.wrapOrderSpec.pre6 enc Try.prog Try.f4 Rows.wrapOrderRow.domain false) (Rows.wrapOrderSpec.post enc Try.prog Try.f4 false true false false) := by
  refine returnsInHanded_of_change_sized (C := Try.checked) own started (by kernel_rfl) Try.func4
    (ChangeSpec.witness6 (enc := enc) (C := Try.checked) false ⟨#[], #[.agg #[.slice none 0 0, .slice none 0 0], .agg #[.slice none 0 0, .slice none 0 0], .agg #[.slice none 0 0, .slice none 0 0]], []⟩ 8 (by kernel_rfl) (by kernel_rfl) (by kernel_rfl) (by kernel_rfl)) ?_
  intro W base args ds gs before hval0 hW hcnd hsz0 _
  have hsz : (DataW.weightsEach Try.prog (Try.f4.params.toList ++ Rows.wrapOrderSpec.plain.varTypes Try.prog) (ds ++ gs)).all (· ≤ reachBytes) = true := hsz0
  have hval : ∀ (j : Nat) t v, Try.f4.params[j]? = some t → args[j]? = some v → Value.okWide Try.prog W .any base t v := hval0
  have hW' := hW
  obtain ⟨p, q, hA0, hV, rfl, hfz, hnd⟩ := hW
  have hA : DataW.TrodAll enc Try.prog W 0 (fun _ => true) true Try.f4.params.toList args.toList ds p := hA0
  rw [Try.params4] at hA hval hsz
  obtain ⟨v0, vs0, d0, ds0, p0, q0, hargs, rfl, rfl, h0, r0⟩ := trodAll_cons hA
  obtain ⟨v1, vs1, d1, ds1, p1, q1, rfl, rfl, rfl, h1, r1⟩ := trodAll_cons r0
  obtain ⟨v2, vs2, d2, ds2, p2, q2, rfl, rfl, rfl, h2, r2⟩ := trodAll_cons r1
  obtain ⟨rfl, rfl, rfl⟩ := trodAll_nil r2
  obtain rfl : args = #[v0, v1, v2] := by cases args; simp_all
  obtain ⟨rfl, rfl⟩ := trodVars_none hV
  have g0 : Try.prog.globals.size = 0 := by kernel_rfl
  have rr0 : Abs.Rel Try.prog.globals.size W.heap.size (fun _ => none) Abs.AHeap.empty W := by rw [g0]; exact Abs.Rel.empty (Nat.le_refl _)
  have k0 := h0
  have lt0 : ∀ x ∈ p0, x.block < W.heap.size := by obtain ⟨m, hm⟩ := k0; exact DataW.trod_lt m _ _ _ hm
  obtain ⟨u0_0, u0_1, y0_0, y0_1, n0, rfl, rfl, rfl, f0_0, f0_1⟩ := open_agg2 Try.underlying24 (by kernel_rfl) (by kernel_rfl) (hval 0 24 v0 rfl rfl) h0
  obtain ⟨A0_0, z0_0, φ1, H1, rr1, le1, vr0_0, kp1, rd0_0, wf0_0, ml0_0, sz0_0⟩ := Abs.openInts Try.underlying22 Try.underlying3 (by kernel_rfl) (fun _ => rfl) f0_0 rr0
  obtain ⟨A0_1, z0_1, φ2, H2, rr2, le2, vr0_1, kp2, rd0_1, wf0_1, ml0_1, sz0_1⟩ := Abs.openInts Try.underlying22 Try.underlying3 (by kernel_rfl) (fun _ => rfl) f0_1 rr1
  have k1 := h1
  have lt1 : ∀ x ∈ p1, x.block < W.heap.size := by obtain ⟨m, hm⟩ := k1; exact DataW.trod_lt m _ _ _ hm
  obtain ⟨u1_0, u1_1, y1_0, y1_1, n1, rfl, rfl, rfl, f1_0, f1_1⟩ := open_agg2 Try.underlying24 (by kernel_rfl) (by kernel_rfl) (hval 1 24 v1 rfl rfl) h1
  obtain ⟨A1_0, z1_0, φ3, H3, rr3, le3, vr1_0, kp3, rd1_0, wf1_0, ml1_0, sz1_0⟩ := Abs.openInts Try.underlying22 Try.underlying3 (by kernel_rfl) (fun _ => rfl) f1_0 rr2
  obtain ⟨A1_1, z1_1, φ4, H4, rr4, le4, vr1_1, kp4, rd1_1, wf1_1, ml1_1, sz1_1⟩ := Abs.openInts Try.underlying22 Try.underlying3 (by kernel_rfl) (fun _ => rfl) f1_1 rr3
  have k2 := h2
  have lt2 : ∀ x ∈ p2, x.block < W.heap.size := by obtain ⟨m, hm⟩ := k2; exact DataW.trod_lt m _ _ _ hm
  obtain ⟨u2_0, u2_1, y2_0, y2_1, n2, rfl, rfl, rfl, f2_0, f2_1⟩ := open_agg2 Try.underlying24 (by kernel_rfl) (by kernel_rfl) (hval 2 24 v2 rfl rfl) h2
  obtain ⟨A2_0, z2_0, φ5, H5, rr5, le5, vr2_0, kp5, rd2_0, wf2_0, ml2_0, sz2_0⟩ := Abs.openInts Try.underlying22 Try.underlying3 (by kernel_rfl) (fun _ => rfl) f2_0 rr4
  obtain ⟨A2_1, z2_1, φ6, H6, rr6, le6, vr2_1, kp6, rd2_1, wf2_1, ml2_1, sz2_1⟩ := Abs.openInts Try.underlying22 Try.underlying3 (by kernel_rfl) (fun _ => rfl) f2_1 rr5
  have rd0_0 := ((((((((((rd0_0.kept kp2).up kp2.next).kept kp3).up kp3.next).kept kp4).up kp4.next).kept kp5).up kp5.next).kept kp6).up kp6.next)
  have rd0_1 := ((((((((rd0_1.kept kp3).up kp3.next).kept kp4).up kp4.next).kept kp5).up kp5.next).kept kp6).up kp6.next)
  have rd1_0 := ((((((rd1_0.kept kp4).up kp4.next).kept kp5).up kp5.next).kept kp6).up kp6.next)
  have rd1_1 := ((((rd1_1.kept kp5).up kp5.next).kept kp6).up kp6.next)
  have rd2_0 := ((rd2_0.kept kp6).up kp6.next)
  have rd2_1 := rd2_1
  clear hA0 hval0 hsz0 hsz
  have hw := Abs.walk_mem (P := Try.prog) (f := 4) (args := [.agg #[.slice A0_0 z0_0.length z0_0.length, .slice A0_1 z0_1.length z0_1.length], .agg #[.slice A1_0 z1_0.length z1_0.length, .slice A1_1 z1_1.length z1_1.length], .agg #[.slice A2_0 z2_0.length z2_0.length, .slice A2_1 z2_1.length z2_1.length]]) W rr6 (Abs.VRels.cons (Abs.agg_of (Abs.VRels.cons (vr0_0.mono (fun _ _ h => (le6 _ _ (le5 _ _ (le4 _ _ (le3 _ _ (le2 _ _ h))))))) (Abs.VRels.cons (vr0_1.mono (fun _ _ h => (le6 _ _ (le5 _ _ (le4 _ _ (le3 _ _ h)))))) (Abs.VRels.nil _)))) (Abs.VRels.cons (Abs.agg_of (Abs.VRels.cons (vr1_0.mono (fun _ _ h => (le6 _ _ (le5 _ _ (le4 _ _ h))))) (Abs.VRels.cons (vr1_1.mono (fun _ _ h => (le6 _ _ (le5 _ _ h)))) (Abs.VRels.nil _)))) (Abs.VRels.cons (Abs.agg_of (Abs.VRels.cons (vr2_0.mono (fun _ _ h => (le6 _ _ h))) (Abs.VRels.cons (vr2_1.mono (fun _ _ h => h)) (Abs.VRels.nil _)))) (Abs.VRels.nil _)))) (A.c4 (Nat.le_refl _) ⟨A0_0, A0_1, rfl, rd0_0, rd0_1⟩ ⟨A1_0, A1_1, rfl, rd1_0, rd1_1⟩ ⟨A2_0, A2_1, rfl, rd2_0, rd2_1⟩)
  refine hw.mono fun e W' ⟨he, bel⟩ => ?_
  subst he
  exact ⟨_, rfl, _, _, _, [], _, [], hW', trodAll_mk1 (shut_bool Try.underlying4 _), (trodAll_cons_mk (Below.trod laidOut (by kernel_rfl) (of_decide_eq_true (by kernel_rfl)) k0 bel lt0) (trodAll_cons_mk (Below.trod laidOut (by kernel_rfl) (of_decide_eq_true (by kernel_rfl)) k1 bel lt1) (trodAll_cons_mk (Below.trod laidOut (by kernel_rfl) (of_decide_eq_true (by kernel_rfl)) k2 bel lt2) trodAll_mk0))), rfl, bel.frame _, fun h => by cases h⟩
theorem over : Rows.wrapOrderRow.holds Try.pinned (OpenSpec.ofChange Rows.wrapOrderSpec) :=
  OpenClaim.holds_of_wide 4 Try.f4 rfl rfl rfl rfl rfl rfl rfl ⟨rfl, rfl, rfl, rfl, rfl⟩ rfl rfl rfl rfl rfl (by kernel_rfl) Try.func4 (by kernel_rfl)
    (of_decide_eq_true (by kernel_rfl)) (by unfold Func.isWrapper; first | (rw [if_pos (by decide +kernel)]; kernel_rfl) | (rw [if_neg (by decide +kernel)]; exact ⟨rfl, rfl⟩))
    (fun os started H enc _ => lifted os started H enc)
end Go.Proofs.Ytcjckenainacaaa.wrapOrder
namespace Go.Proofs.Ytcjckenainacaaa
theorem wrapOrder_holds : Rows.WrapOrderSaid := wrapOrder.over
end Go.Proofs.Ytcjckenainacaaa
#print axioms Go.Proofs.Ytcjckenainacaaa.wrapOrder_holds
