/- Contracts of functions that the statement reaches; each theorem carries its own conditions, the last theorem of the claim has none. -/
import Derived.Test.YtngldjajfpbmbaaML
import Derived.Test.YtngldjajfpbmbaaAbsX
import Derived.Test.YtngldjajfpbmbaaAbsOp
import Derived.Test.YtngldjajfpbmbaaRows
import Derived.WalkKit
import Derived.ProofKit
import Derived.OpenShut
import Derived.ShutString
import Derived.ChangeOld
import Derived.Below
import Derived.SizedLaws
/- The law StoreSound, from the contract of its function. No further conditions. -/
namespace Go.Proofs.Ytngldjajfpbmbaa.storeSound
open Go.ChangeShapes Go.WideShapes Go.ChangeAt Go.RowKit Go.Joins
open Go.ChangeMaps (open_string shut_string)
set_option linter.unusedVariables false
theorem own : ownKnob Try.prog.godebug = none := by kernel_rfl
theorem laidOut : laidOutB Try.prog = true := by kernel_rfl
set_option maxRecDepth 100000 in
theorem lifted (os : Os) (started : os.Started) (H : Type) (enc : TypeId × Value → H) :
    ReturnsInHanded {} Try.checked os 10 .any (Rows.storeSoundSpec.pre6 enc Try.prog Try.f10 Rows.storeSoundRow.domain false) (Rows.storeSoundSpec.post enc Try.prog Try.f10 false true false false) := by
  refine returnsInHanded_of_change_sized (C := Try.checked) own started (by kernel_rfl) Try.func10
    (ChangeSpec.witness6 (enc := enc) (C := Try.checked) false ⟨#[], #[.slice none 0 0, .agg #[.int .i64 0, .int .i64 0]], []⟩ 8 (by kernel_rfl) (by kernel_rfl) (by kernel_rfl) (by kernel_rfl)) ?_
  intro W base args ds gs before hval0 hW hcnd hsz0 _
  have hsz : (DataW.weightsEach Try.prog (Try.f10.params.toList ++ Rows.storeSoundSpec.plain.varTypes Try.prog) (ds ++ gs)).all (· ≤ reachBytes) = true := hsz0
  have hval : ∀ (j : Nat) t v, Try.f10.params[j]? = some t → args[j]? = some v → Value.okWide Try.prog W .any base t v := hval0
  have hW' := hW
  obtain ⟨p, q, hA0, hV, rfl, hfz, hnd⟩ := hW
  have hA : DataW.TrodAll enc Try.prog W 0 (fun _ => true) true Try.f10.params.toList args.toList ds p := hA0
  rw [Try.params10] at hA hval hsz
  obtain ⟨v0, vs0, d0, ds0, p0, q0, hargs, rfl, rfl, h0, r0⟩ := trodAll_cons hA
  obtain ⟨v1, vs1, d1, ds1, p1, q1, rfl, rfl, rfl, h1, r1⟩ := trodAll_cons r0
  obtain ⟨rfl, rfl, rfl⟩ := trodAll_nil r1
  obtain rfl : args = #[v0, v1] := by cases args; simp_all
  obtain ⟨rfl, rfl⟩ := trodVars_none hV
  have g0 : Try.prog.globals.size = 0 := by kernel_rfl
  have rr0 : Abs.Rel Try.prog.globals.size W.heap.size (fun _ => none) Abs.AHeap.empty W := by rw [g0]; exact Abs.Rel.empty (Nat.le_refl _)
  have k0 := h0
  have lt0 : ∀ x ∈ p0, x.block < W.heap.size := by obtain ⟨m, hm⟩ := k0; exact DataW.trod_lt m _ _ _ hm
  obtain ⟨a0, len0, cap0, rfl⟩ := okWide_slice Try.underlying61 (hval 0 61 v0 rfl rfl)
  obtain ⟨fuel0, hf0⟩ := h0
  have hf0' : DataW.trod enc Try.prog W 0 (fun _ => true) true fuel0 61 [.slice a0 len0 cap0] = some (d0, p0) := hf0
  obtain ⟨b0, φ1, H1, rr1, le1, vs0_, ok0, kp1, gd0⟩ := A.openActs fuel0 _ _ _ _ _ hf0' rr0
  have vr0 := vs0_.2 0 _ _ rfl rfl
  have k1 := h1
  have lt1 : ∀ x ∈ p1, x.block < W.heap.size := by obtain ⟨m, hm⟩ := k1; exact DataW.trod_lt m _ _ _ hm
  obtain ⟨u1_0, u1_1, y1_0, y1_1, n1, rfl, rfl, rfl, f1_0, f1_1⟩ := open_agg2 Try.underlying28 (by kernel_rfl) (by kernel_rfl) (hval 1 28 v1 rfl rfl) h1
  obtain ⟨a1_0, hb1_0, _, w1_0⟩ := DataW.trod_int Try.underlying3 f1_0
  injection hb1_0 with hb1_0
  subst hb1_0
  obtain ⟨a1_1, hb1_1, _, w1_1⟩ := DataW.trod_int Try.underlying3 f1_1
  injection hb1_1 with hb1_1
  subst hb1_1
  have gd0 := gd0
  clear hA0 hval0 hsz0 hsz
  have hw := Abs.walk_mem (P := Try.prog) (f := 10) (args := [.slice b0.1 b0.2.length b0.2.length, .agg #[.int .i64 a1_0, .int .i64 a1_1]]) W rr1 (Abs.VRels.cons (vr0.mono (fun _ _ h => h)) (Abs.VRels.cons (Abs.agg_of (Abs.VRels.cons (.plain rfl) (Abs.VRels.cons (.plain rfl) (Abs.VRels.nil _)))) (Abs.VRels.nil _))) (A.c10i gd0)
  refine hw.mono fun e W' ⟨he, bel⟩ => ?_
  subst he
  exact ⟨_, rfl, _, _, _, [], _, [], hW', trodAll_mk1 (shut_bool Try.underlying4 _), (trodAll_cons_mk (Below.trod laidOut (by kernel_rfl) (of_decide_eq_true (by kernel_rfl)) k0 bel lt0) (trodAll_cons_mk (Below.trod laidOut (by kernel_rfl) (of_decide_eq_true (by kernel_rfl)) k1 bel lt1) trodAll_mk0)), rfl, bel.frame _, fun h => by cases h⟩
theorem over : Rows.storeSoundRow.holds Try.pinned (OpenSpec.ofChange Rows.storeSoundSpec) :=
  OpenClaim.holds_of_wide 10 Try.f10 rfl rfl rfl rfl rfl rfl rfl ⟨rfl, rfl, rfl, rfl, rfl⟩ rfl rfl rfl rfl rfl (by kernel_rfl) Try.func10 (by kernel_rfl)
    (of_decide_eq_true (by kernel_rfl)) (by unfold Func.isWrapper; first | (rw [if_pos (by decide +kernel)]; kernel_rfl) | (rw [if_neg (by decide +kernel)]; exact ⟨rfl, rfl⟩))
    (fun os started H enc _ => lifted os started H enc)
end Go.Proofs.Ytngldjajfpbmbaa.storeSound
namespace Go.Proofs.Ytngldjajfpbmbaa
theorem storeSound_holds : Rows.StoreSoundSaid := storeSound.over
end Go.Proofs.Ytngldjajfpbmbaa
#print axioms Go.Proofs.Ytngldjajfpbmbaa.storeSound_holds
