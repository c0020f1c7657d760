/- Contracts of functions that the statement reaches; each theorem carries its own conditions, the last theorem of the claim has none. -/
import Derived.Test.YtnbnojkfhfkecaaDoorCX
import Derived.Test.YtnbnojkfhfkecaaDoorAbsX
import Derived.Test.YtnbnojkfhfkecaaDoorAbsOp
import Derived.Test.YtnbnojkfhfkecaaDoorRows
import Derived.Test.YtnbnojkfhfkecaaDoorCards
import Derived.Test.YtnbnojkfhfkecaaDoorTie
import Derived.WalkKit
import Derived.ProofKit
import Derived.OpenShut
import Derived.ShutString
import Derived.ChangeOld
import Derived.Below
import Derived.SizedLaws
import Derived.LaidMore
import Derived.Lay
import Derived.SevenTiedAt
import Derived.Deep.DeepHandedRow
import Derived.Stop.Joined
/- The law ScriptOutcomes within the bulk, from the contract of its function; the tied card. No further conditions. -/
namespace Go.Proofs.YtnbnojkfhfkecaaDoor.scriptOutcomesU
open Go.ChangeShapes Go.WideShapes Go.ChangeAt Go.RowKit
open Go.ChangeMaps (open_string shut_string)
set_option linter.unusedVariables false
theorem own : ownKnob Tryd.prog.godebug = none := by kernel_rfl
theorem laidOut : laidOutB Tryd.prog = true := by kernel_rfl
theorem laid_met (os : Os) : laidMetH Tryd.prog Rows.scriptOutcomesUptoRow.laid ((World.laidAll Tryd.prog os Rows.scriptOutcomesUptoRow.laid).forCall (fun _ _ => 0) ⟨#[], #[.agg #[.int .i64 0, .slice none 0 0, .string ByteArray.empty, .int .i64 0]], []⟩).memory := by
  rw [MakeChecks.laidMetH_plain _ _ _ (by kernel_rfl)]; exact laidMet_laidAll _ (by kernel_rfl) (by kernel_rfl)
theorem reads (os : Os) {H : Type} (enc : TypeId × Value → H) : ∃ places, DataW.whole enc Tryd.prog ((World.laidAll Tryd.prog os Rows.scriptOutcomesUptoRow.laid).forCall (fun _ _ => 0) ⟨#[], #[.agg #[.int .i64 0, .slice none 0 0, .string ByteArray.empty, .int .i64 0]], []⟩).memory Tryd.f6.params.toList Rows.scriptOutcomesSpec.vars false (#[.agg #[.int .i64 0, .slice none 0 0, .string ByteArray.empty, .int .i64 0]] : Array Value).toList 8 = some ([.agg [.lit (.int .i64 0), .nil, .lit (.string []), .lit (.int .i64 0)]], [], places) :=
  ⟨[], by kernel_rfl⟩
set_option maxRecDepth 100000 in
theorem lifted (os : Os) (started : os.Started) (H : Type) (enc : TypeId × Value → H) (F : Stop.Interp) :
    ReturnsInHanded {} Tryd.checked os 6 .any ((Rows.OpenSpec.upto Rows.scriptOutcomesSpec).preRow enc Tryd.prog Tryd.f6 Rows.scriptOutcomesUptoRow.domain false Rows.scriptOutcomesUptoRow.laid) (((Rows.OpenSpec.upto Rows.scriptOutcomesSpec).at F).post enc Tryd.prog Tryd.f6 false true false false) := by
  obtain ⟨places, hx⟩ := reads os enc
  refine returnsInHanded_of_row (C := Tryd.checked) (s := (Rows.OpenSpec.upto Rows.scriptOutcomesSpec)) own started (by kernel_rfl) Tryd.func6
    (witness_row_at (enc := enc) (C := Tryd.checked) false (World.laidAll Tryd.prog os Rows.scriptOutcomesUptoRow.laid) #[.agg #[.int .i64 0, .slice none 0 0, .string ByteArray.empty, .int .i64 0]] (World.laidAll_os _ _ _) (by kernel_rfl) (by kernel_rfl) (by kernel_rfl)
      (OpenSpec.preRow_of_cond 8 hx (by kernel_rfl) (fun k hk => by cases hk; kernel_rfl) (by kernel_rfl) (laid_met os))) ?_
  intro W base args ds gs before hval0 hW _ hcond hsz0 hL hShp _
  have hsz : (DataW.weightsEach Tryd.prog (Tryd.f6.params.toList ++ Rows.scriptOutcomesSpec.plain.varTypes Tryd.prog) (ds ++ gs)).all (· ≤ reachBytes) = true := hsz0
  have hval : ∀ (j : Nat) t v, Tryd.f6.params[j]? = some t → args[j]? = some v → Value.okWide Tryd.prog W .any base t v := hval0
  have hbulk : Rows.uptoSmall H (ds ++ gs) = true := hcond _ rfl
  have hW' := hW
  obtain ⟨p, q, hA0, hV, rfl, hfz, hnd⟩ := hW
  have hA : DataW.TrodAll enc Tryd.prog W 0 (fun _ => true) true Tryd.f6.params.toList args.toList ds p := hA0
  rw [Tryd.params6] at hA hval hsz
  obtain ⟨v0, vs0, d0, ds0, p0, q0, hargs, rfl, rfl, h0, r0⟩ := trodAll_cons hA
  obtain ⟨rfl, rfl, rfl⟩ := trodAll_nil r0
  obtain rfl : args = #[v0] := by cases args; simp_all
  obtain ⟨rfl, rfl⟩ := trodVars_none hV
  rw [MakeChecks.laidMetH_plain _ _ _ (by kernel_rfl)] at hL
  obtain ⟨φ0, rr0⟩ := A.U.tabsRel (Lib.laidMet.reads hL (.tail _ (.tail _ (.head _)))) (Lib.laidMet.reads hL (.tail _ (.head _))) (Lib.laidMet.reads hL (.tail _ (.tail _ (.tail _ (.tail _ (.head _)))))) (Lib.laidMet.reads hL (.tail _ (.tail _ (.tail _ (.head _)))))
  have tabs0 := A.U.tabsU
  have k0 := h0
  have lt0 : ∀ x ∈ p0, x.block < W.heap.size := by obtain ⟨m, hm⟩ := k0; exact DataW.trod_lt m _ _ _ hm
  obtain ⟨cs0, rfl, hz0⟩ := okWide_struct Tryd.underlying41 (hval 0 41 v0 rfl rfl)
  obtain ⟨fuel0, hf0⟩ := h0
  have hf0' : DataW.trod enc Tryd.prog W 0 (fun _ => true) true fuel0 41 cs0.toList = some (d0, p0) := hf0
  obtain ⟨b0, φ1, H1, rr1, le1, vs0_, ok0, kp1, gd0⟩ := A.U.openOut fuel0 _ _ _ _ _ hf0' rr0 (A.U.bulk_part (d := d0) (by simp) hbulk)
  have vr0 : Abs.VRel φ1 (.agg (A.U.encOut b0).toArray) (.agg cs0) := by have := Abs.agg_of vs0_; simpa using this
  have tabs1 := tabs0.kept kp1
  have gd0 := gd0
  clear hA0 hval0 hsz0 hsz
  have hw := Abs.walk_mem (P := Tryd.prog) (f := 6) (args := [.agg (A.U.encOut b0).toArray]) W rr1 (Abs.VRels.cons (vr0.mono (fun _ _ h => h)) (Abs.VRels.nil _)) (by
    exact A.U.c6i tabs1 gd0
    )
  refine hw.mono fun e W' ⟨he, bel⟩ => ?_
  subst he
  exact ⟨_, rfl, _, _, _, [], _, [], hW', trodAll_mk1 (shut_bool Tryd.underlying4 _), (trodAll_cons_mk (Below.trod laidOut (by kernel_rfl) (of_decide_eq_true (by kernel_rfl)) k0 bel lt0) trodAll_mk0), rfl, bel.frame _, fun h => by cases h⟩
theorem said : Rows.ScriptOutcomesUptoSaid :=
  OpenClaim.holds_of_cond 6 Tryd.f6 rfl rfl rfl rfl rfl rfl rfl ⟨rfl, rfl, rfl, rfl, rfl⟩ rfl rfl rfl rfl rfl (by kernel_rfl) Tryd.func6 (by kernel_rfl)
    (of_decide_eq_true (by kernel_rfl)) (by unfold Func.isWrapper; first | (rw [if_pos (by decide +kernel)]; kernel_rfl) | (rw [if_neg (by decide +kernel)]; exact ⟨rfl, rfl⟩))
    (fun os started H enc _ F => by rw [OpenClaim.pre_eq_preRow]; exact lifted os started H enc F)
theorem plain (f : FuncId) (fn : Func) (hf : Tryd.pinned.checked.prog.funcNamed "marginalia/marginalialaw22.ScriptOutcomes" = some f) (hfn : Tryd.pinned.checked.prog.funcs[f]? = some fn) :
    true = Tryd.pinned.checked.prog.looks [] ∧ ∀ (j : Nat) t, fn.params[j]? = some t → Tryd.pinned.checked.prog.wantsStandIn t = false := by
  obtain rfl : f = 6 := Option.some.inj ((show Tryd.prog.funcNamed "marginalia/marginalialaw22.ScriptOutcomes" = some 6 by kernel_rfl).symm.trans hf) |>.symm
  obtain rfl : fn = Tryd.f6 := (Option.some.inj (Tryd.func6.symm.trans hfn)).symm
  refine ⟨by kernel_rfl, fun j t ht => ?_⟩
  rw [Tryd.params6] at ht
  have hm : t ∈ [41] := by simpa using Array.mem_of_getElem? ht
  have hall : ([41].all fun u => !Tryd.prog.wantsStandIn u) = true := by kernel_rfl
  exact (show Tryd.prog.wantsStandIn t = false by simpa using List.all_eq_true.1 hall t hm)
theorem card : Rows.ScriptOutcomesUptoCardSaid :=
  Claim7.holds_tied_plain_at .later [] _ _ _ _ said (fun _ h => by cases h) (by kernel_rfl) (fun _ h => by cases h) scriptOutcomesUpto_row_tie rfl ⟨rfl, rfl⟩ (by kernel_rfl) rfl plain (by kernel_rfl)
end Go.Proofs.YtnbnojkfhfkecaaDoor.scriptOutcomesU
namespace Go.Proofs.YtnbnojkfhfkecaaDoor
theorem scriptOutcomesU_holds : Rows.ScriptOutcomesUptoCardSaid := scriptOutcomesU.card
end Go.Proofs.YtnbnojkfhfkecaaDoor
#print axioms Go.Proofs.YtnbnojkfhfkecaaDoor.scriptOutcomesU_holds
