/- The law WrapAnti, from the contract of its function. No further conditions. -/
import Derived.Test.YtcjckenainacaaaW12
import Derived.Test.YtcjckenainacaaaAbsX
import Derived.Test.YtcjckenainacaaaRows
import Derived.WalkKit
import Derived.ProofKit
import Derived.OpenShut
import Derived.ShutString
import Derived.ChangeOld
import Derived.Below
import Derived.SizedLaws
namespace Go.Proofs.Ytcjckenainacaaa.wrapAnti
open Go.ChangeShapes Go.WideShapes Go.ChangeAt Go.RowKit Go.Joins
open Go.ChangeMaps (open_string shut_string)
set_option linter.unusedVariables false
theorem own : ownKnob Try.prog.godebug = none := by kernel_rfl
theorem laidOut : laidOutB Try.prog = true := by kernel_rfl
set_option maxRecDepth 100000 in
theorem lifted (os : Os) (started : os.Started) (H : Type) (enc : TypeId × Value → H) :
    ReturnsInHanded {} Try.checked os 6 .any (Rows.wrapAntiSpec.pre6 enc Try.prog Try.f6 Rows.wrapAntiRow.domain false) (Rows.wrapAntiSpec.post enc Try.prog Try.f6 false true false false) := by
  refine returnsInHanded_of_change_sized (C := Try.checked) own started (by kernel_rfl) Try.func6
    (ChangeSpec.witness6 (enc := enc) (C := Try.checked) false ⟨#[], #[.agg #[.slice none 0 0, .slice none 0 0], .slice none 0 0, .int .u8 0], []⟩ 8 (by kernel_rfl) (by kernel_rfl) (by kernel_rfl) (by kernel_rfl)) ?_
  intro W base args ds gs before hval0 hW hcnd hsz0 _
  have hsz : (DataW.weightsEach Try.prog (Try.f6.params.toList ++ Rows.wrapAntiSpec.plain.varTypes Try.prog) (ds ++ gs)).all (· ≤ reachBytes) = true := hsz0
  have hval : ∀ (j : Nat) t v, Try.f6.params[j]? = some t → args[j]? = some v → Value.okWide Try.prog W .any base t v := hval0
  have hW' := hW
  obtain ⟨p, q, hA0, hV, rfl, hfz, hnd⟩ := hW
  have hA : DataW.TrodAll enc Try.prog W 0 (fun _ => true) true Try.f6.params.toList args.toList ds p := hA0
  rw [Try.params6] at hA hval hsz
  obtain ⟨v0, vs0, d0, ds0, p0, q0, hargs, rfl, rfl, h0, r0⟩ := trodAll_cons hA
  obtain ⟨v1, vs1, d1, ds1, p1, q1, rfl, rfl, rfl, h1, r1⟩ := trodAll_cons r0
  obtain ⟨v2, vs2, d2, ds2, p2, q2, rfl, rfl, rfl, h2, r2⟩ := trodAll_cons r1
  obtain ⟨rfl, rfl, rfl⟩ := trodAll_nil r2
  obtain rfl : args = #[v0, v1, v2] := by cases args; simp_all
  obtain ⟨rfl, rfl⟩ := trodVars_none hV
  have g0 : Try.prog.globals.size = 0 := by kernel_rfl
  have rr0 : Abs.Rel Try.prog.globals.size W.heap.size (fun _ => none) Abs.AHeap.empty W := by rw [g0]; exact Abs.Rel.empty (Nat.le_refl _)
  have k0 := h0
  have lt0 : ∀ x ∈ p0, x.block < W.heap.size := by obtain ⟨m, hm⟩ := k0; exact DataW.trod_lt m _ _ _ hm
  obtain ⟨u0_0, u0_1, y0_0, y0_1, n0, rfl, rfl, rfl, f0_0, f0_1⟩ := open_agg2 Try.underlying24 (by kernel_rfl) (by kernel_rfl) (hval 0 24 v0 rfl rfl) h0
  obtain ⟨A0_0, z0_0, φ1, H1, rr1, le1, vr0_0, kp1, rd0_0, wf0_0, ml0_0, sz0_0⟩ := Abs.openInts Try.underlying22 Try.underlying3 (by kernel_rfl) (fun _ => rfl) f0_0 rr0
  obtain ⟨A0_1, z0_1, φ2, H2, rr2, le2, vr0_1, kp2, rd0_1, wf0_1, ml0_1, sz0_1⟩ := Abs.openInts Try.underlying22 Try.underlying3 (by kernel_rfl) (fun _ => rfl) f0_1 rr1
  have k1 := h1
  have lt1 : ∀ x ∈ p1, x.block < W.heap.size := by obtain ⟨m, hm⟩ := k1; exact DataW.trod_lt m _ _ _ hm
  obtain ⟨a1, len1, cap1, rfl⟩ := okWide_slice Try.underlying38 (hval 1 38 v1 rfl rfl)
  obtain ⟨fuel1, hf1⟩ := h1
  have hf1' : DataW.trod enc Try.prog W 0 (fun _ => true) true fuel1 38 [.slice a1 len1 cap1] = some (d1, p1) := hf1
  obtain ⟨A1_0, z1_0, φ3, H3, rr3, le3, vr1_0, kp3, rd1_0, wf1_0, ml1_0, sz1_0⟩ := Abs.openInts Try.underlying38 Try.underlying5 (by kernel_rfl) (fun _ => rfl) hf1' rr2
  have y1 : z1_0.length * Try.prog.bytesOf 5 ≤ reachBytes := by
    rcases sz1_0 with h | ⟨els, sp, hx, hy⟩
    · rw [h]; simp
    · exact Nat.le_trans (Nat.mul_le_mul_right _ hy) (sized_slice hsz (j := 1) (t := 38) rfl (by rw [← hx]; rfl) Try.underlying38)
  obtain ⟨a2, rfl, rfl, rfl, w2⟩ := open_int Try.underlying5 (hval 2 5 v2 rfl rfl) h2
  have rd0_0 := ((((rd0_0.kept kp2).up kp2.next).kept kp3).up kp3.next)
  have rd0_1 := ((rd0_1.kept kp3).up kp3.next)
  have rd1_0 := rd1_0
  clear hA0 hval0 hsz0 hsz
  have hw := Abs.walk_mem (P := Try.prog) (f := 6) (args := [.agg #[.slice A0_0 z0_0.length z0_0.length, .slice A0_1 z0_1.length z0_1.length], .slice A1_0 z1_0.length z1_0.length, .int .u8 a2]) W rr3 (Abs.VRels.cons (Abs.agg_of (Abs.VRels.cons (vr0_0.mono (fun _ _ h => (le3 _ _ (le2 _ _ h)))) (Abs.VRels.cons (vr0_1.mono (fun _ _ h => (le3 _ _ h))) (Abs.VRels.nil _)))) (Abs.VRels.cons (vr1_0.mono (fun _ _ h => h)) (Abs.VRels.cons (.plain rfl) (Abs.VRels.nil _)))) (A.c6 (Nat.le_refl _) ⟨A0_0, A0_1, rfl, rd0_0, rd0_1⟩ rd1_0 (fun x hx => by have := wf1_0 x hx; simp [Lit.wf, IntKind.min, IntKind.max, IntKind.signed, IntKind.bits] at this; omega) (by have := w2; simp [Lit.wf, IntKind.min, IntKind.max, IntKind.signed, IntKind.bits] at this; omega))
  refine hw.mono fun e W' ⟨he, bel⟩ => ?_
  subst he
  exact ⟨_, rfl, _, _, _, [], _, [], hW', trodAll_mk1 (shut_bool Try.underlying4 _), (trodAll_cons_mk (Below.trod laidOut (by kernel_rfl) (of_decide_eq_true (by kernel_rfl)) k0 bel lt0) (trodAll_cons_mk (Below.trod laidOut (by kernel_rfl) (of_decide_eq_true (by kernel_rfl)) k1 bel lt1) (trodAll_cons_mk (shut_int Try.underlying5 w2) trodAll_mk0))), rfl, bel.frame _, fun h => by cases h⟩
theorem over : Rows.wrapAntiRow.holds Try.pinned (OpenSpec.ofChange Rows.wrapAntiSpec) :=
  OpenClaim.holds_of_wide 6 Try.f6 rfl rfl rfl rfl rfl rfl rfl ⟨rfl, rfl, rfl, rfl, rfl⟩ rfl rfl rfl rfl rfl (by kernel_rfl) Try.func6 (by kernel_rfl)
    (of_decide_eq_true (by kernel_rfl)) (by unfold Func.isWrapper; first | (rw [if_pos (by decide +kernel)]; kernel_rfl) | (rw [if_neg (by decide +kernel)]; exact ⟨rfl, rfl⟩))
    (fun os started H enc _ => lifted os started H enc)
end Go.Proofs.Ytcjckenainacaaa.wrapAnti
namespace Go.Proofs.Ytcjckenainacaaa
theorem wrapAnti_holds : Rows.WrapAntiSaid := wrapAnti.over
end Go.Proofs.Ytcjckenainacaaa
#print axioms Go.Proofs.Ytcjckenainacaaa.wrapAnti_holds
