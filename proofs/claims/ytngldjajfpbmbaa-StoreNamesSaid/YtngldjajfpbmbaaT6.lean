/- The law StoreNames, from the contract of its function. No further conditions. -/
import Derived.Test.YtngldjajfpbmbaaS28
import Derived.Test.YtngldjajfpbmbaaAbsX
import Derived.Test.YtngldjajfpbmbaaAbsZ
import Derived.Test.YtngldjajfpbmbaaRows
import Derived.WalkKit
import Derived.ProofKit
import Derived.OpenShut
import Derived.ShutString
import Derived.ChangeOld
import Derived.Below
import Derived.SizedLaws
namespace Go.Proofs.Ytngldjajfpbmbaa.storeNames
open Go.ChangeShapes Go.WideShapes Go.ChangeAt Go.RowKit Go.Joins
open Go.ChangeMaps (open_string shut_string)
set_option linter.unusedVariables false
theorem own : ownKnob Try.prog.godebug = none := by kernel_rfl
theorem laidOut : laidOutB Try.prog = true := by kernel_rfl
set_option maxRecDepth 100000 in
theorem lifted (os : Os) (started : os.Started) (H : Type) (enc : TypeId × Value → H) :
    ReturnsInHanded {} Try.checked os 6 .any (Rows.storeNamesSpec.pre6 enc Try.prog Try.f6 Rows.storeNamesRow.domain false) (Rows.storeNamesSpec.post enc Try.prog Try.f6 false true false false) := by
  refine returnsInHanded_of_change_sized (C := Try.checked) own started (by kernel_rfl) Try.func6
    (ChangeSpec.witness6 (enc := enc) (C := Try.checked) false ⟨#[], #[.slice none 0 0], []⟩ 8 (by kernel_rfl) (by kernel_rfl) (by kernel_rfl) (by kernel_rfl)) ?_
  intro W base args ds gs before hval0 hW hcnd hsz0 _
  have hsz : (DataW.weightsEach Try.prog (Try.f6.params.toList ++ Rows.storeNamesSpec.plain.varTypes Try.prog) (ds ++ gs)).all (· ≤ reachBytes) = true := hsz0
  have hval : ∀ (j : Nat) t v, Try.f6.params[j]? = some t → args[j]? = some v → Value.okWide Try.prog W .any base t v := hval0
  have hW' := hW
  obtain ⟨p, q, hA0, hV, rfl, hfz, hnd⟩ := hW
  have hA : DataW.TrodAll enc Try.prog W 0 (fun _ => true) true Try.f6.params.toList args.toList ds p := hA0
  rw [Try.params6] at hA hval hsz
  obtain ⟨v0, vs0, d0, ds0, p0, q0, hargs, rfl, rfl, h0, r0⟩ := trodAll_cons hA
  obtain ⟨rfl, rfl, rfl⟩ := trodAll_nil r0
  obtain rfl : args = #[v0] := by cases args; simp_all
  obtain ⟨rfl, rfl⟩ := trodVars_none hV
  have g0 : Try.prog.globals.size = 0 := by kernel_rfl
  have rr0 : Abs.Rel Try.prog.globals.size W.heap.size (fun _ => none) Abs.AHeap.empty W := by rw [g0]; exact Abs.Rel.empty (Nat.le_refl _)
  have k0 := h0
  have lt0 : ∀ x ∈ p0, x.block < W.heap.size := by obtain ⟨m, hm⟩ := k0; exact DataW.trod_lt m _ _ _ hm
  obtain ⟨a0, len0, cap0, rfl⟩ := okWide_slice Try.underlying44 (hval 0 44 v0 rfl rfl)
  obtain ⟨fuel0, hf0⟩ := h0
  have hf0' : DataW.trod enc Try.prog W 0 (fun _ => true) true fuel0 44 [.slice a0 len0 cap0] = some (d0, p0) := hf0
  obtain ⟨A0_0, z0_0, φ1, H1, rr1, le1, vr0_0, kp1, rd0_0, wf0_0, ml0_0, sz0_0⟩ := Abs.openStrs Try.underlying44 Try.underlying9 (by kernel_rfl) (fun _ => rfl) hf0' rr0
  have y0 : z0_0.length * Try.prog.bytesOf 9 ≤ reachBytes := by
    rcases sz0_0 with h | ⟨els, sp, hx, hy⟩
    · rw [h]; simp
    · exact Nat.le_trans (Nat.mul_le_mul_right _ hy) (sized_slice hsz (j := 0) (t := 44) rfl (by rw [← hx]; rfl) Try.underlying44)
  have rd0_0 := rd0_0
  clear hA0 hval0 hsz0 hsz
  have hw := Abs.walk_mem (P := Try.prog) (f := 6) (args := [.slice A0_0 z0_0.length z0_0.length]) W rr1 (Abs.VRels.cons (vr0_0.mono (fun _ _ h => h)) (Abs.VRels.nil _)) (A.c6 (Nat.le_refl _) rd0_0 wf0_0 ml0_0)
  refine hw.mono fun e W' ⟨he, bel⟩ => ?_
  subst he
  exact ⟨_, rfl, _, _, _, [], _, [], hW', trodAll_mk1 (shut_bool Try.underlying4 _), (trodAll_cons_mk (Below.trod laidOut (by kernel_rfl) (of_decide_eq_true (by kernel_rfl)) k0 bel lt0) trodAll_mk0), rfl, bel.frame _, fun h => by cases h⟩
theorem over : Rows.storeNamesRow.holds Try.pinned (OpenSpec.ofChange Rows.storeNamesSpec) :=
  OpenClaim.holds_of_wide 6 Try.f6 rfl rfl rfl rfl rfl rfl rfl ⟨rfl, rfl, rfl, rfl, rfl⟩ rfl rfl rfl rfl rfl (by kernel_rfl) Try.func6 (by kernel_rfl)
    (of_decide_eq_true (by kernel_rfl)) (by unfold Func.isWrapper; first | (rw [if_pos (by decide +kernel)]; kernel_rfl) | (rw [if_neg (by decide +kernel)]; exact ⟨rfl, rfl⟩))
    (fun os started H enc _ => lifted os started H enc)
end Go.Proofs.Ytngldjajfpbmbaa.storeNames
namespace Go.Proofs.Ytngldjajfpbmbaa
theorem storeNames_holds : Rows.StoreNamesSaid := storeNames.over
end Go.Proofs.Ytngldjajfpbmbaa
#print axioms Go.Proofs.Ytngldjajfpbmbaa.storeNames_holds
