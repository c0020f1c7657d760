/- The law UtfBack, from the contract of its function; the tied card. No further conditions. -/
import Derived.Test.YtliakckflcoffaaDoorUT
import Derived.Test.YtliakckflcoffaaDoorU10
import Derived.Test.YtliakckflcoffaaDoorRows
import Derived.Test.YtliakckflcoffaaDoorCards
import Derived.Test.YtliakckflcoffaaDoorTie
import Derived.WalkKit
import Derived.ProofKit
import Derived.OpenShut
import Derived.ShutString
import Derived.ChangeOld
import Derived.Below
import Derived.SizedLaws
import Derived.LaidMore
import Derived.Lay
import Derived.SevenTiedAt
import Derived.Deep.DeepHandedRow
import Derived.Stop.Joined
namespace Go.Proofs.YtliakckflcoffaaDoor.utfBack
open Go.ChangeShapes Go.WideShapes Go.ChangeAt Go.RowKit
open Go.ChangeMaps (open_string shut_string)
set_option linter.unusedVariables false
theorem own : ownKnob Tryd.prog.godebug = none := by kernel_rfl
theorem laidOut : laidOutB Tryd.prog = true := by kernel_rfl
theorem laid_met (os : Os) : laidMetH Tryd.prog Rows.utfBackRow.laid ((World.laidAll Tryd.prog os Rows.utfBackRow.laid).forCall (fun _ _ => 0) ⟨#[], #[.slice none 0 0, .slice none 0 0], []⟩).memory := by
  rw [MakeChecks.laidMetH_plain _ _ _ (by kernel_rfl)]; exact laidMet_laidAll _ (by kernel_rfl) (by kernel_rfl)
theorem reads (os : Os) {H : Type} (enc : TypeId × Value → H) : ∃ places, DataW.whole enc Tryd.prog ((World.laidAll Tryd.prog os Rows.utfBackRow.laid).forCall (fun _ _ => 0) ⟨#[], #[.slice none 0 0, .slice none 0 0], []⟩).memory Tryd.f7.params.toList Rows.utfBackSpec.vars false (#[.slice none 0 0, .slice none 0 0] : Array Value).toList 8 = some ([.nil, .nil], [], places) :=
  ⟨[], by kernel_rfl⟩
set_option maxRecDepth 100000 in
theorem lifted (os : Os) (started : os.Started) (H : Type) (enc : TypeId × Value → H) (F : Stop.Interp) :
    ReturnsInHanded {} Tryd.checked os 7 .any ((OpenSpec.ofChange Rows.utfBackSpec).preRow enc Tryd.prog Tryd.f7 Rows.utfBackRow.domain false Rows.utfBackRow.laid) (((OpenSpec.ofChange Rows.utfBackSpec).at F).post enc Tryd.prog Tryd.f7 false true false false) := by
  obtain ⟨places, hx⟩ := reads os enc
  refine returnsInHanded_of_row (C := Tryd.checked) (s := (OpenSpec.ofChange Rows.utfBackSpec)) own started (by kernel_rfl) Tryd.func7
    (witness_row_at (enc := enc) (C := Tryd.checked) false (World.laidAll Tryd.prog os Rows.utfBackRow.laid) #[.slice none 0 0, .slice none 0 0] (World.laidAll_os _ _ _) (by kernel_rfl) (by kernel_rfl) (by kernel_rfl)
      (OpenSpec.preRow_of_cond 8 hx (by kernel_rfl) (fun k hk => by cases hk) (by kernel_rfl) (laid_met os))) ?_
  intro W base args ds gs before hval0 hW _ hcond hsz0 hL _ _
  have hsz : (DataW.weightsEach Tryd.prog (Tryd.f7.params.toList ++ Rows.utfBackSpec.plain.varTypes Tryd.prog) (ds ++ gs)).all (· ≤ reachBytes) = true := hsz0
  have hval : ∀ (j : Nat) t v, Tryd.f7.params[j]? = some t → args[j]? = some v → Value.okWide Tryd.prog W .any base t v := hval0
  have hW' := hW
  obtain ⟨p, q, hA0, hV, rfl, hfz, hnd⟩ := hW
  have hA : DataW.TrodAll enc Tryd.prog W 0 (fun _ => true) true Tryd.f7.params.toList args.toList ds p := hA0
  rw [Tryd.params7] at hA hval hsz
  obtain ⟨v0, vs0, d0, ds0, p0, q0, hargs, rfl, rfl, h0, r0⟩ := trodAll_cons hA
  obtain ⟨v1, vs1, d1, ds1, p1, q1, rfl, rfl, rfl, h1, r1⟩ := trodAll_cons r0
  obtain ⟨rfl, rfl, rfl⟩ := trodAll_nil r1
  obtain rfl : args = #[v0, v1] := by cases args; simp_all
  obtain ⟨rfl, rfl⟩ := trodVars_none hV
  rw [MakeChecks.laidMetH_plain _ _ _ (by kernel_rfl)] at hL
  obtain ⟨φ0, rr0⟩ := A.tabsRel (Lib.laidMet.reads hL (.tail _ (.head _))) (Lib.laidMet.reads hL (.head _))
  have tabs0 := A.tabs_gHeap
  have k0 := h0
  have lt0 : ∀ x ∈ p0, x.block < W.heap.size := by obtain ⟨m, hm⟩ := k0; exact DataW.trod_lt m _ _ _ hm
  obtain ⟨a0, len0, cap0, rfl⟩ := okWide_slice Tryd.underlying23 (hval 0 23 v0 rfl rfl)
  obtain ⟨fuel0, hf0⟩ := h0
  have hf0' : DataW.trod enc Tryd.prog W 0 (fun _ => true) true fuel0 23 [.slice a0 len0 cap0] = some (d0, p0) := hf0
  obtain ⟨A0, z0, φ1, H1, rr1, le1, vr0, kp1, rz0, wf0, ml0, sz0⟩ := Abs.openInts Tryd.underlying23 Tryd.underlying3 (by kernel_rfl) (fun _ => rfl) hf0' rr0
  have tabs1 := tabs0.kept kp1
  have hl0 : z0.length * 8 ≤ 140737488351232 := by
    rcases sz0 with h | ⟨els, sp, hx, hy⟩
    · rw [h]; simp
    · have h1 := sized_slice hsz (j := 0) (t := 23) rfl (by rw [← hx]; rfl) Tryd.underlying23
      rw [show Tryd.prog.bytesOf 3 = 8 by kernel_rfl] at h1
      exact Nat.le_trans (Nat.mul_le_mul_right _ hy) h1
  have k1 := h1
  have lt1 : ∀ x ∈ p1, x.block < W.heap.size := by obtain ⟨m, hm⟩ := k1; exact DataW.trod_lt m _ _ _ hm
  obtain ⟨a1, len1, cap1, rfl⟩ := okWide_slice Tryd.underlying22 (hval 1 22 v1 rfl rfl)
  obtain ⟨fuel1, hf1⟩ := h1
  have hf1' : DataW.trod enc Tryd.prog W 0 (fun _ => true) true fuel1 22 [.slice a1 len1 cap1] = some (d1, p1) := hf1
  obtain ⟨A1, z1, φ2, H2, rr2, le2, vr1, kp2, rz1, wf1, ml1, sz1⟩ := Abs.openInts Tryd.underlying22 Tryd.underlying5 (by kernel_rfl) (fun _ => rfl) hf1' rr1
  have tabs2 := tabs1.kept kp2
  have hl1 : z1.length * 1 ≤ 140737488351232 := by
    rcases sz1 with h | ⟨els, sp, hx, hy⟩
    · rw [h]; simp
    · have h1 := sized_slice hsz (j := 1) (t := 22) rfl (by rw [← hx]; rfl) Tryd.underlying22
      rw [show Tryd.prog.bytesOf 5 = 1 by kernel_rfl] at h1
      exact Nat.le_trans (Nat.mul_le_mul_right _ hy) h1
  have rd0 := ((rz0.kept kp2).up kp2.next)
  have rd1 := rz1
  obtain ⟨rb1, hb1, ln1⟩ := A.rdNat rd1 wf1
  clear hA0 hval0 hsz0 hsz
  have hw := Abs.walk_mem (P := Tryd.prog) (f := 7) (args := [.slice A0 z0.length z0.length, .slice A1 z1.length z1.length]) W rr2 (Abs.VRels.cons (vr0.mono (fun _ _ h => (le2 _ _ h))) (Abs.VRels.cons (vr1.mono (fun _ _ h => h)) (Abs.VRels.nil _))) (by
    have hc := A.c7 tabs2 (Nat.le_refl _) rd0 rb1 hb1 (by omega)
    rw [ln1] at hc
    exact hc
    )
  refine hw.mono fun e W' ⟨he, bel⟩ => ?_
  subst he
  exact ⟨_, rfl, _, _, _, [], _, [], hW', trodAll_mk1 (shut_bool Tryd.underlying4 _), (trodAll_cons_mk (Below.trod laidOut (by kernel_rfl) (of_decide_eq_true (by kernel_rfl)) k0 bel lt0) (trodAll_cons_mk (Below.trod laidOut (by kernel_rfl) (of_decide_eq_true (by kernel_rfl)) k1 bel lt1) trodAll_mk0)), rfl, bel.frame _, fun h => by cases h⟩
theorem said : Rows.UtfBackSaid :=
  OpenClaim.holds_of_cond 7 Tryd.f7 rfl rfl rfl rfl rfl rfl rfl ⟨rfl, rfl, rfl, rfl, rfl⟩ rfl rfl rfl rfl rfl (by kernel_rfl) Tryd.func7 (by kernel_rfl)
    (of_decide_eq_true (by kernel_rfl)) (by unfold Func.isWrapper; first | (rw [if_pos (by decide +kernel)]; kernel_rfl) | (rw [if_neg (by decide +kernel)]; exact ⟨rfl, rfl⟩))
    (fun os started H enc _ F => by rw [OpenClaim.pre_eq_preRow]; exact lifted os started H enc F)
theorem plain (f : FuncId) (fn : Func) (hf : Tryd.pinned.checked.prog.funcNamed "marginalia/marginalialaw02.UtfBack" = some f) (hfn : Tryd.pinned.checked.prog.funcs[f]? = some fn) :
    true = Tryd.pinned.checked.prog.looks [] ∧ ∀ (j : Nat) t, fn.params[j]? = some t → Tryd.pinned.checked.prog.wantsStandIn t = false := by
  obtain rfl : f = 7 := Option.some.inj ((show Tryd.prog.funcNamed "marginalia/marginalialaw02.UtfBack" = some 7 by kernel_rfl).symm.trans hf) |>.symm
  obtain rfl : fn = Tryd.f7 := (Option.some.inj (Tryd.func7.symm.trans hfn)).symm
  refine ⟨by kernel_rfl, fun j t ht => ?_⟩
  rw [Tryd.params7] at ht
  have hm : t ∈ [23, 22] := by simpa using Array.mem_of_getElem? ht
  have hall : ([23, 22].all fun u => !Tryd.prog.wantsStandIn u) = true := by kernel_rfl
  exact (show Tryd.prog.wantsStandIn t = false by simpa using List.all_eq_true.1 hall t hm)
theorem card : Rows.UtfBackCardSaid :=
  Claim7.holds_tied_plain_at .later [] _ _ _ _ said (fun _ h => by cases h) (by kernel_rfl) (fun _ h => by cases h) utfBack_row_tie rfl ⟨rfl, rfl⟩ (by kernel_rfl) rfl plain (by kernel_rfl)
end Go.Proofs.YtliakckflcoffaaDoor.utfBack
namespace Go.Proofs.YtliakckflcoffaaDoor
theorem utfBack_holds : Rows.UtfBackCardSaid := utfBack.card
end Go.Proofs.YtliakckflcoffaaDoor
#print axioms Go.Proofs.YtliakckflcoffaaDoor.utfBack_holds
