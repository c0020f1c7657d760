/- Contracts of functions that the statement reaches; each theorem carries its own conditions, the last theorem of the claim has none. -/
import Derived.Test.YtngldjajfpbmbaaMD
set_option linter.unusedVariables false
set_option linter.unusedSimpArgs false
namespace Go.Proofs.Ytngldjajfpbmbaa.A
open Go Go.Abs

/-- Boxes. -/
def bL (nx : Nat → V) (n : Nat) : List Ob := (List.range n).map fun j => mkOb 3 [nx j]
def bM (nx : Nat → V) (n : Nat) : Sm := ⟨4000, 2 * (n : Int), bL nx n, []⟩
theorem bL_len (nx : Nat → V) (n : Nat) : (bL nx n).length = n := by simp [bL]
theorem bL_succ (nx : Nat → V) (n : Nat) : bL nx (n + 1) = bL nx n ++ [mkOb 3 [nx n]] := by simp [bL, List.range_succ]
theorem bL_total (nx : Nat → V) : ∀ n : Nat, total (bL nx n) = 2 * n
  | 0 => rfl
  | n + 1 => by rw [bL_succ, total_append, bL_total nx n]; simp [total, mkOb, Ob.cells]; omega
theorem bM_inv {nx : Nat → V} {n : Nat} (h : n ≤ 1000) : Inv (bM nx n) := by
  refine ⟨?_, ?_, by simp [bM]⟩
  · simp only [bM, bL_total]; omega
  · simp only [bM]; omega
theorem bL_get {nx : Nat → V} {n j : Nat} (h : j < n) : (bL nx n)[j]? = some (mkOb 3 [nx j]) := by simp [bL, h]
theorem bM_vd {nx : Nat → V} {n : Nat} (h : ∀ j, j < n → (nx j).1 = 7 → 0 ≤ (nx j).2 ∧ (nx j).2 < n) : Vd (bM nx n) := by
  refine ⟨fun o ho v hv h7 => ?_, fun o ho h10 => ?_⟩
  · simp only [bM, bL_len] at ho ⊢
    simp only [bL, List.mem_map, List.mem_range] at ho
    obtain ⟨j, hj, rfl⟩ := ho
    simp [mkOb] at hv
    subst hv
    exact h j hj h7
  · simp only [bM, bL, List.mem_map, List.mem_range] at ho
    obtain ⟨j, hj, rfl⟩ := ho
    simp [mkOb] at h10
theorem bM_congr {nx ny : Nat → V} {n : Nat} (h : ∀ j, j < n → nx j = ny j) : bM nx n = bM ny n := by
  unfold bM bL
  congr 1
  exact List.map_congr_left fun j hj => by rw [h j (List.mem_range.1 hj)]
theorem bM_make {nx : Nat → V} {n : Nat} {v : V} (hn : n < 1000) (hv : nx n = v) (hs : (bM nx n).sound v = true) : (bM nx n).make 3 [v] = (((7, (n : Int)), 0), bM nx (n + 1)) := by
  rw [make_ok (by simp [shaped]) (by simp [hs]) (by simp [bM, mkOb, Ob.cells]; omega)]
  have e1 : (bM nx n).objs.length = n := bL_len _ _
  have e2 : (bM nx n).put (mkOb 3 [v]) = bM nx (n + 1) := by
    simp only [Sm.put, bM, bL_succ, hv]
    congr 1
  rw [e1, e2]
theorem bM_ob {nx : Nat → V} {n j : Nat} (h : j < n) : okRef (bM nx n) (7, (j : Int)) = true ∧ (bM nx n).ob (7, (j : Int)) = mkOb 3 [nx j] := by
  refine ⟨by rw [okRef_iff]; simp [bM, bL_len]; omega, ?_⟩
  simp only [Sm.ob, bM, Int.toNat_natCast, List.getD_eq_getElem?_getD, bL_get h, Option.getD_some]
theorem bM_set {nx : Nat → V} {n j : Nat} {v : V} (h : j < n) (hs : (bM nx n).sound v = true) : (bM nx n).set (7, (j : Int)) 0 v = (0, bM (fun k => if k = j then v else nx k) n) := by
  obtain ⟨h1, h2⟩ := bM_ob (nx := nx) h
  unfold Sm.set
  rw [if_pos h1, h2, if_pos (by simp [mkOb]), if_pos hs]
  congr 1
  simp only [bM]
  congr 1
  refine List.ext_getElem? fun k => ?_
  rw [List.getElem?_set]
  by_cases e : j = k
  · subst e
    simp only [Int.toNat_natCast, if_pos, bL_len, if_pos h, bL_get h]
    simp [mkOb]
  · rw [if_neg (by simpa using e)]
    rcases Nat.lt_or_ge k n with h3 | h3
    · rw [bL_get h3, bL_get h3, if_neg (Ne.symm e)]
    · rw [List.getElem?_eq_none (by rw [bL_len]; exact h3), List.getElem?_eq_none (by rw [bL_len]; exact h3)]
theorem bM_step {nx : Nat → V} {n i j : Nat} (hi : i < n) (hj : j < n) (hij : i ≠ j) (f : Nat) : (bM nx n).run (f + 1) [((7, (i : Int)), (7, (j : Int)))] = (bM nx n).run f [(nx i, nx j)] := by
  obtain ⟨a1, a2⟩ := bM_ob (nx := nx) hi
  obtain ⟨b1, b2⟩ := bM_ob (nx := nx) hj
  have k1 : (bM nx n).kindOf (7, (i : Int)) = 3 := by unfold Sm.kindOf; rw [if_pos a1, a2]; rfl
  have k2 : (bM nx n).kindOf (7, (j : Int)) = 3 := by unfold Sm.kindOf; rw [if_pos b1, b2]; rfl
  have s1 : (bM nx n).slotsOf (7, (i : Int)) = [nx i] := by unfold Sm.slotsOf; rw [if_pos a1, a2]; rfl
  have s2 : (bM nx n).slotsOf (7, (j : Int)) = [nx j] := by unfold Sm.slotsOf; rw [if_pos b1, b2]; rfl
  have ne : ¬ ((7, (i : Int)) : V) = (7, (j : Int)) := by intro e; have := congrArg Prod.snd e; dsimp only at this; omega
  refine run_open (l := [(nx i, nx j)]) ?_ ?_ f []
  · unfold Sm.eqv
    rw [k1, decide_eq_false ne]
    rfl
  · unfold Sm.parts
    rw [k1, k2, s1, s2, if_pos ⟨rfl, rfl, .inr (.inr (.inl rfl))⟩]
    rfl
theorem bM_end {nx : Nat → V} {n i : Nat} (hi : i < n) (f : Nat) : (bM nx n).run (f + 1) [((7, (i : Int)), (0, 0))] = (false, f, 0) := by
  obtain ⟨a1, a2⟩ := bM_ob (nx := nx) hi
  have k1 : (bM nx n).kindOf (7, (i : Int)) = 3 := by unfold Sm.kindOf; rw [if_pos a1, a2]; rfl
  have k2 : (bM nx n).kindOf (0, 0) = 0 := rfl
  refine run_no ?_ ?_ f []
  · unfold Sm.eqv
    rw [k2]
    have : ¬ ((7, (i : Int)) : V) = (0, 0) := by intro e; have := congrArg Prod.fst e; dsimp only at this; omega
    rw [decide_eq_false this]
    simp
  · unfold Sm.parts
    rw [if_neg]
    rintro ⟨h, _⟩
    rw [k1, k2] at h
    simp at h

theorem Fr.updhi {F F' : Nat → Prop} {H H' : AHeap} (h : Fr F H F' H') {q : Nat} (hq : H.next ≤ q) (x : Blk) : Fr F H F' (H'.upd q x) := ⟨h.next, fun b hb hf => by rw [AHeap.at_upd_ne _ _ (by omega)]; exact h.at_ b hb hf, h.new⟩
/-- One ring more. -/
def rgN (nx : Nat → V) (N n j : Nat) : V := if j < N then nx j else if j = N then (7, (N : Int) + n - 1) else (7, (j : Int) - 1)
/-- While it is made. -/
def rgW (nx : Nat → V) (N j : Nat) : V := if j < N then nx j else if j = N then (0, 0) else (7, (j : Int) - 1)
theorem c28 {H : AHeap} {p : Nat} {nx : Nat → V} {N n : Nat} {F : Nat → Prop} (hS : St H p (bM nx N) F) (hn : 1 ≤ n) (hn2 : n ≤ 9) (hN : N ≤ 20) :
    ACalls Try.prog 28 [Pt p, .int .i64 n] H fun r H' => r = vV (7, ((N + n - 1 : Nat) : Int)) ∧ ∃ F', St H' p (bM (rgN nx N n) (N + n)) F' ∧ Fr F H F' H' := by
  refine S28_calls ?_
  unfold S28
  simp
  have hk0 : Keep H.next H (H.alloc (.cells [.int .i64 0, .int .i64 0] .var 28)) := (Keep.refl _ _).alloc (Nat.le_refl _) _
  obtain ⟨G0, hG0⟩ : ∃ X, X = H.alloc (.cells [.int .i64 0, .int .i64 0] .var 28) := ⟨_, rfl⟩
  have hnG0 : G0.next = H.next + 1 := by rw [hG0]; simp
  have hr0 : Lv G0 F H.next (.cells [.int .i64 0, .int .i64 0] .var 28) := hG0 ▸ Lv.new (fun b hb => hS.lt b hb) _
  rw [← hG0] at hk0 ⊢
  clear hG0
  have hS0 := hS.kept hk0
  have eN : bM nx N = bM (rgW nx N) N := bM_congr fun j hj => by unfold rgW; rw [if_pos hj]
  rw [eN] at hS0
  have := mkLit hS0 (bM_inv (by omega)) 3 [(0, 0)] (by simp) (by simp)
  rw [bM_make (nx := rgW nx N) (n := N) (v := (0, 0)) (by omega) (by unfold rgW; simp) (by simp [Sm.sound])] at this
  simp [hnG0] at this
  refine this.mono fun r H2 ⟨hr, F2, hS2, hF2⟩ => ?_
  clear this
  subst hr
  unfold S28_43
  have hr2 := hr0.fr hF2
  have hne2 : H.next ≠ H2.next ∧ H.next ≠ H2.next + 1 := by have := hr2.lt; omega
  simp [at_alloc, at_upd]
  obtain ⟨G, hG⟩ : ∃ X, X = (((H2.alloc (.cells [.int .i64 0, .int .i64 0] .var 28)).upd H2.next (.cells [.int .i64 7, .int .i64 N] .var 28)).alloc (.cells [.int .i64 0, .int .i64 0] .var 28)).upd (H2.next + 1) (.cells [.int .i64 7, .int .i64 N] .var 28) := ⟨_, rfl⟩
  have hkG : Keep H2.next H2 G := hG ▸ ((((Keep.refl _ _).alloc (Nat.le_refl _) _).upd (Nat.le_refl _) _).alloc (by simp) _).upd (by omega) _
  have h5 : Lv G F2 H2.next (.cells (eV (7, (N : Int))) .var 28) := ⟨by rw [hG]; simp [at_upd, at_alloc], by rw [hG]; simp; omega, fun hf => by have := hS2.lt _ hf; omega⟩
  have h7 : Lv G F2 (H2.next + 1) (.cells (eV (7, ((N + 1 - 1 : Nat) : Int))) .var 28) := ⟨by rw [hG]; simp [at_upd, at_alloc], by rw [hG]; simp, fun hf => by have := hS2.lt _ hf; omega⟩
  simp only [← hG]
  clear hG
  have hSG := hS2.kept hkG
  have hrG := hr2.kept hkG
  have hFG : Fr F H F2 G := ((Fr.keep hk0).trans hF2).trans (Fr.keep hkG)
  obtain ⟨q5, e5⟩ : ∃ q, q = H2.next := ⟨_, rfl⟩
  obtain ⟨q7, e7⟩ : ∃ q, q = H2.next + 1 := ⟨_, rfl⟩
  obtain ⟨q0, e0⟩ : ∃ q, q = H.next := ⟨_, rfl⟩
  have hq57 : q5 ≠ q7 := by omega
  have hq07 : q0 ≠ q7 := by omega
  simp only [← e7] at h7 ⊢
  simp only [← e5, ← e0] at h5 hrG ⊢
  clear hS2 hr2 hS0 hne2 hkG hr0
  have hFr0 : q0 = H.next := e0
  refine aLoop_vs (n - 1) (fun i vs H' => ∃ F', vs = [.int .i64 ((i : Int) + 1)] ∧ St H' p (bM (rgW nx N) (N + 1 + i)) F' ∧ Fr F H F' H' ∧ Lv H' F' q5 (.cells (eV (7, (N : Int))) .var 28) ∧ Lv H' F' q7 (.cells (eV (7, ((N + i : Nat) : Int))) .var 28) ∧ Lv H' F' q0 (.cells [.int .i64 0, .int .i64 0] .var 28)) ⟨F2, by simp, hSG, hFG, h5, by simpa using h7, hrG⟩ ?_
  clear hSG hFG h5 h7 hrG
  rintro i vs H' again hi ⟨F', rfl, hS', hF', h5, h7, h0⟩ ha
  have e75 : q5 + 1 = q7 := by omega
  simp only [AHeap.next_upd, AHeap.next_alloc, ← e5, e75]
  have hq7 : H.next ≤ q7 := by have := hF2.next; rw [e7]; omega
  unfold S28_42
  have hkk : ∀ (K : AHeap) x y, Keep K.next K ((K.alloc x).upd K.next y) := fun K x y => ((Keep.refl _ _).alloc (Nat.le_refl _) _).upd (Nat.le_refl _) _
  have hsnd : (bM (rgW nx N) (N + 1 + i)).sound (7, ((N + i : Nat) : Int)) = true := sound_obj (by omega) (by simp only [bM, bL_len]; omega)
  by_cases hlt : i < n - 1
  · have h1 : (i : Int) + 1 < n := by omega
    simp only [nth_zero, aBin_lss, bnd_some', decide_eq_true h1, aCond_true]
    unfold S28_33
    have w1 := wrap64 (x := (i : Int) + 1 + 1) (by omega) (by omega)
    have l7 : aLdAgg 2 (Pt q7) H' = some (vV (7, ((N + i : Nat) : Int))) := by simp [h7.at_]
    simp only [l7, bnd_some', aBuildSlice_eq]
    have hm := bM_make (nx := rgW nx N) (n := N + 1 + i) (v := (7, ((N + i : Nat) : Int))) (by omega) (by unfold rgW; rw [if_neg (by omega), if_neg (by omega)]; congr 1; omega) hsnd
    have := mkLit hS' (bM_inv (by omega)) 3 [(7, ((N + i : Nat) : Int))] (by simp) (by simp)
    rw [hm] at this
    have this' : ACalls Try.prog 15 [Pt p, .int .i64 3, .slice (some ⟨H'.next, 0, none⟩) 1 1] (H'.alloc (.cells [.int .i64 7, .int .i64 ((N + i : Nat) : Int)] (.row 2) 28)) fun r H2 => r = .tuple #[vV (7, ((N + 1 + i : Nat) : Int)), .int .i64 0] ∧ ∃ F'', St H2 p (bM (rgW nx N) (N + 1 + i + 1)) F'' ∧ Fr F' H' F'' H2 := this
    generalize hNi : ((N + i : Nat) : Int) = Ni at *
    generalize hNj : ((N + 1 + i : Nat) : Int) = Nj at *
    simp
    refine this'.mono fun r H3 ⟨hr, F3, hS3, hF3⟩ => ?_
    subst hr
    have h53 := h5.fr hF3
    have h73 := h7.fr hF3
    have h03 := h0.fr hF3
    have hne : q7 ≠ H3.next := by have := h73.lt; omega
    simp [at_alloc, at_upd, hne, h73.at_, w1]
    have := ha [.int .i64 (((i + 1 : Nat) : Int) + 1)] (((H3.alloc (.cells [.int .i64 0, .int .i64 0] .var 28)).upd H3.next (.cells [.int .i64 7, .int .i64 Nj] .var 28)).upd q7 (.cells [.int .i64 7, .int .i64 Nj] .var 28)) hlt ⟨F3, rfl, (hS3.kept (hkk _ _ _)).updnf h73.nf, ?_, (h53.kept (hkk _ _ _)).updne hq57, ?_, (h03.kept (hkk _ _ _)).updne hq07⟩
    · simpa using this
    · exact ((hF'.trans hF3).trans (Fr.keep (hkk _ _ _))).updhi hq7 _
    · have e9 : ((N + (i + 1) : Nat) : Int) = Nj := by omega
      rw [e9]
      exact (h73.kept (hkk _ _ _)).upd
  · have hie : i = n - 1 := by omega
    subst hie
    have h1 : ¬ ((n - 1 : Nat) : Int) + 1 < n := by omega
    simp only [nth_zero, aBin_lss, bnd_some', decide_eq_false h1, aCond_false]
    unfold S28_41
    have l5 : aLdAgg 2 (Pt q5) H' = some (vV (7, (N : Int))) := by simp [h5.at_]
    have l7 : aLdAgg 2 (Pt q7) H' = some (vV (7, ((N + (n - 1) : Nat) : Int))) := by simp [h7.at_]
    simp only [l5, l7, bnd_some']
    refine (c19 hS' (7, (N : Int)) 0 (7, ((N + (n - 1) : Nat) : Int))).mono fun r H3 ⟨hr, hS3, hF3⟩ => ?_
    rw [bM_set (by omega) hsnd] at hS3
    have h73 := h7.fr hF3
    have h03 := h0.fr hF3
    have l73 : aLdAgg 2 (Pt q7) H3 = some (vV (7, ((N + (n - 1) : Nat) : Int))) := by simp [h73.at_]
    have eq0 : H.next = q0 := hFr0.symm
    have hst : aSt 2 (Pt q0) (vV (7, ((N + (n - 1) : Nat) : Int))) H3 = some (H3.upd q0 (.cells (eV (7, ((N + (n - 1) : Nat) : Int))) .var 28)) := by simp [h03.at_]
    simp only [l73, bnd_some', hst]
    have hld : aLdAgg 2 (Pt q0) (H3.upd q0 (.cells (eV (7, ((N + (n - 1) : Nat) : Int))) .var 28)) = some (vV (7, ((N + (n - 1) : Nat) : Int))) := by simp
    simp only [hld, bnd_some']
    refine ⟨by rw [show N + n - 1 = N + (n - 1) by omega], F', ?_, (hF'.trans hF3).updhi (by omega) _⟩
    have e8 : bM (rgN nx N n) (N + n) = bM (fun k => if k = N then (7, ((N + (n - 1) : Nat) : Int)) else rgW nx N k) (N + 1 + (n - 1)) := by
      rw [show N + 1 + (n - 1) = N + n by omega]
      refine bM_congr fun j hj => ?_
      unfold rgN rgW
      by_cases c1 : j < N
      · rw [if_pos c1, if_neg (by omega), if_pos c1]
      · by_cases c2 : j = N
        · rw [if_neg c1, if_pos c2, if_pos c2]; congr 1; omega
        · rw [if_neg c1, if_neg c2, if_neg c2, if_neg c1, if_neg c2]
    rw [e8]
    exact hS3.updnf h03.nf
end Go.Proofs.Ytngldjajfpbmbaa.A

set_option linter.unusedVariables false
set_option linter.unusedSimpArgs false
namespace Go.Proofs.Ytngldjajfpbmbaa.A
open Go Go.Abs

def nx0 : Nat → V := fun _ => (0, 0)
def nx2 (a b : Nat) : Nat → V := rgN (rgN nx0 0 a) a b
theorem nx2_lo {a b i : Nat} (h : i < a) : ∃ i', i' < a ∧ nx2 a b i = (7, (i' : Int)) := by
  unfold nx2 rgN
  rw [if_pos h, if_neg (by omega)]
  split
  · exact ⟨a - 1, by omega, by congr 1; omega⟩
  · exact ⟨i - 1, by omega, by congr 1; omega⟩
theorem nx2_hi {a b j : Nat} (h : j < b) : ∃ j', j' < b ∧ nx2 a b (a + j) = (7, ((a + j' : Nat) : Int)) := by
  unfold nx2 rgN
  rw [if_neg (by omega)]
  split
  · exact ⟨b - 1, by omega, by congr 1; omega⟩
  · exact ⟨j - 1, by omega, by congr 1; omega⟩
theorem ring_run {a b : Nat} : ∀ (f i j : Nat), i < a → j < b → (bM (nx2 a b) (a + b)).run f [((7, (i : Int)), (7, ((a + j : Nat) : Int)))] = (false, 0, 15)
  | 0, i, j, _, _ => rfl
  | f + 1, i, j, hi, hj => by
    rw [bM_step (by omega) (by omega) (by omega)]
    obtain ⟨i', h1, e1⟩ := nx2_lo (b := b) hi
    obtain ⟨j', h2, e2⟩ := nx2_hi (a := a) hj
    rw [e1, e2]
    exact ring_run f i' j' h1 h2
def nx3 (a b : Nat) : Nat → V := rgW (nx2 a b) (a + b)
theorem list_run {a b m : Nat} : ∀ (t f i : Nat), i < a → a + b + t < m → (bM (nx3 a b) m).run (f + t + 2) [((7, (i : Int)), (7, ((a + b + t : Nat) : Int)))] = (false, f, 0)
  | 0, f, i, hi, hm => by
    obtain ⟨i', h1, e1⟩ := nx2_lo (b := b) hi
    rw [show f + 0 + 2 = f + 1 + 1 by omega, bM_step (by omega) (by omega) (by omega)]
    have e2 : nx3 a b i = (7, (i' : Int)) := by unfold nx3 rgW; rw [if_pos (by omega), e1]
    have e3 : nx3 a b (a + b + 0) = (0, 0) := by unfold nx3 rgW; rw [if_neg (by omega), if_pos (by omega)]
    rw [e2, e3]
    exact bM_end (by omega) f
  | t + 1, f, i, hi, hm => by
    obtain ⟨i', h1, e1⟩ := nx2_lo (b := b) hi
    rw [show f + (t + 1) + 2 = f + t + 2 + 1 by omega, bM_step (by omega) (by omega) (by omega)]
    have e2 : nx3 a b i = (7, (i' : Int)) := by unfold nx3 rgW; rw [if_pos (by omega), e1]
    have e3 : nx3 a b (a + b + (t + 1)) = (7, ((a + b + t : Nat) : Int)) := by unfold nx3 rgW; rw [if_neg (by omega), if_neg (by omega)]; congr 1; omega
    rw [e2, e3]
    exact list_run t f i' h1 (by omega)
theorem nx3_ok {a b m : Nat} (hm : a + b ≤ m) : ∀ j, j < m → (nx3 a b j).1 = 7 → 0 ≤ (nx3 a b j).2 ∧ (nx3 a b j).2 < m := by
  intro j hj h7
  unfold nx3 rgW at h7 ⊢
  split at h7
  · rename_i c1
    rw [if_pos c1]
    by_cases c2 : j < a
    · obtain ⟨i', h1, e1⟩ := nx2_lo (b := b) c2
      rw [e1]; constructor <;> (dsimp only; omega)
    · obtain ⟨j', h1, e1⟩ := nx2_hi (a := a) (b := b) (j := j - a) (by omega)
      rw [show a + (j - a) = j by omega] at e1
      rw [e1]; constructor <;> (dsimp only; omega)
  · rename_i c1
    rw [if_neg c1]
    split at h7
    · simp at h7
    · rename_i c2
      rw [if_neg c2]; constructor <;> (dsimp only; omega)

theorem c9 {H : AHeap} {x y z : Nat} (hx : x < 256) (hy : y < 256) (hz : z < 65536) : ACalls Try.prog 9 [.int .u8 x, .int .u8 y, .int .u16 z] H fun r _ => r = .bool true := by
  refine S9_calls ?_
  unfold S9
  refine (c13 (by omega) (by omega)).mono fun r H1 ⟨p, F, hr, hS, hkp, hF⟩ => ?_
  subst hr
  unfold S9_103
  simp
  refine c20.use ?_
  simp
  unfold S9_102
  have ex : ((x : Int).tmod 9) = ((x % 9 : Nat) : Int) := by rw [Int.tmod_eq_emod_of_nonneg (by omega)]; omega
  have ey : ((y : Int).tmod 9) = ((y % 9 : Nat) : Int) := by rw [Int.tmod_eq_emod_of_nonneg (by omega)]; omega
  have ez : ((z : Int).tmod 2000) = ((z % 2000 : Nat) : Int) := by rw [Int.tmod_eq_emod_of_nonneg (by omega)]; omega
  obtain ⟨a, ha⟩ : ∃ a, a = x % 9 + 1 := ⟨_, rfl⟩
  obtain ⟨b, hb⟩ : ∃ b, b = y % 9 + 1 := ⟨_, rfl⟩
  have wx := wrap64 (x := ((x % 9 : Nat) : Int)) (by omega) (by omega)
  have wx1 : IntKind.i64.wrap (((x % 9 : Nat) : Int) + 1) = (a : Int) := by rw [wrap64 (by omega) (by omega)]; omega
  have wy := wrap64 (x := ((y % 9 : Nat) : Int)) (by omega) (by omega)
  have wy1 : IntKind.i64.wrap (((y % 9 : Nat) : Int) + 1) = (b : Int) := by rw [wrap64 (by omega) (by omega)]; omega
  have wz := wrap64 (x := ((z % 2000 : Nat) : Int)) (by omega) (by omega)
  simp only [aBin_rem _ _ _ _ (show (9 : Int) ≠ 0 by decide), ex, ey, bnd_some', aConvInt_int, wx, wy, aBin_add, wx1, wy1]
  have e13 : Sm.new 4000 = bM nx0 0 := rfl
  rw [e13] at hS
  refine (c28 hS (n := a) (by omega) (by omega) (by omega)).mono fun r H2 ⟨hr, F2, hS2, hF2⟩ => ?_
  subst hr
  rw [Nat.zero_add] at hS2 ⊢
  refine (c28 hS2 (n := b) (by omega) (by omega) (by omega)).mono fun r H3 ⟨hr, F3, hS3, hF3⟩ => ?_
  subst hr
  have hS3' : St H3 p (bM (nx2 a b) (a + b)) F3 := hS3
  unfold S9_101
  have e4 : ((a + b - 1 : Nat) : Int) = ((a + (b - 1) : Nat) : Int) := by omega
  rw [e4]
  generalize hA1 : ((a - 1 : Nat) : Int) = A1
  generalize hB1 : ((a + (b - 1) : Nat) : Int) = B1
  simp [at_alloc, at_upd]
  obtain ⟨G, hG⟩ : ∃ X, X = (((H3.alloc (.cells [.int .i64 0, .int .i64 0] .var 28)).alloc (.cells [.int .i64 0, .int .i64 0] .var 28)).upd H3.next (.cells [.int .i64 7, .int .i64 A1] .var 28)).upd (H3.next + 1) (.cells [.int .i64 7, .int .i64 B1] .var 28) := ⟨_, rfl⟩
  have hkG : Keep H3.next H3 G := hG ▸ ((((Keep.refl _ _).alloc (Nat.le_refl _) _).alloc (by simp) _).upd (Nat.le_refl _) _).upd (by omega) _
  have h9 : Lv G F3 H3.next (.cells (eV (7, A1)) .var 28) := ⟨by rw [hG]; simp [at_upd], by rw [hG]; simp; omega, fun hf => by have := hS3.lt _ hf; omega⟩
  simp only [← hG]
  clear hG
  have hSG := hS3'.kept hkG
  rw [aBin_rem _ _ _ _ (show (2000 : Int) ≠ 0 by decide)]
  simp only [ez, bnd_some', aConvInt_int, wz]
  have hok2 : ∀ j, j < a + b → (nx2 a b j).1 = 7 → 0 ≤ (nx2 a b j).2 ∧ (nx2 a b j).2 < (a + b : Nat) := by
    intro j hj h7
    have := nx3_ok (a := a) (b := b) (m := a + b) (Nat.le_refl _) j hj
    unfold nx3 rgW at this
    rw [if_pos hj] at this
    exact this h7
  refine (c21 hSG (slotsOf_le (bM_inv (by omega)) (bM_vd hok2)) (7, A1) (7, B1) (by omega)).use ?_
  rw [← hA1, ← hB1, ring_run _ (a - 1) (b - 1) (by omega) (by omega)]
  unfold S9_100
  simp [runV, at_alloc]
  obtain ⟨q, hq⟩ : ∃ q, q = G.next := ⟨_, rfl⟩
  rw [← hq]
  have hk4 : ∀ u v, Keep G.next G ((G.alloc u).upd G.next v) := fun u v => ((Keep.refl _ _).alloc (Nat.le_refl _) _).upd (Nat.le_refl _) _
  have hS4 : ∀ u v, St ((G.alloc u).upd G.next v) p (bM (nx3 a b) (a + b)) F3 := fun u v => by
    have := hSG.kept (hk4 u v)
    rwa [show bM (nx2 a b) (a + b) = bM (nx3 a b) (a + b) from bM_congr fun j hj => by unfold nx3 rgW; rw [if_pos hj]] at this
  have h9n : H3.next ≠ q := by have := h9.lt; omega
  refine aLoop_vs 30 (fun i vs H' => ∃ F', vs = [.int .i64 i] ∧ St H' p (bM (nx3 a b) (a + b + i)) F' ∧ Lv H' F' H3.next (.cells (eV (7, A1)) .var 28) ∧ Lv H' F' q (.cells (eV (if i = 0 then (0, 0) else (7, ((a + b + i : Nat) : Int) - 1))) .var 28)) ⟨F3, rfl, by rw [hq]; exact hS4 _ _, by rw [hq]; exact h9.kept (hk4 _ _), by rw [hq]; exact ⟨by simp, by simp, fun hf => by have := hSG.lt _ hf; omega⟩⟩ ?_
  clear hS4 hk4
  rintro i vs H' again hi ⟨F', rfl, hS', h9', hq'⟩ ha'
  unfold S9_99
  have l9 : aLdAgg 2 (Pt H3.next) H' = some (vV (7, A1)) := by simp [h9'.at_]
  by_cases hlt : i < 30
  · have h1 : (i : Int) < 30 := by omega
    simp only [nth_zero, aBin_lss, bnd_some', decide_eq_true h1, aCond_true]
    unfold S9_59
    have w1 := wrap64 (x := (i : Int) + 1) (by omega) (by omega)
    have evv : (if i = 0 then ((0, 0) : V) else (7, ((a + b + i : Nat) : Int) - 1)) = nx3 a b (a + b + i) := by
      unfold nx3 rgW
      have n1 : ¬ (a + b + i < a + b) := by omega
      by_cases h0 : i = 0
      · subst h0; simp
      · have n2 : ¬ (a + b + i = a + b) := by omega
        rw [if_neg h0, if_neg n1, if_neg n2]
    rw [evv] at hq'
    have hsd : (bM (nx3 a b) (a + b + i)).sound (nx3 a b (a + b + i)) = true := by
      rw [← evv]
      split
      · simp [Sm.sound]
      · exact sound_obj (by omega) (by simp only [bM, bL_len]; omega)
    have hm := bM_make (nx := nx3 a b) (n := a + b + i) (by omega) rfl hsd
    have := mkLit hS' (bM_inv (by omega)) 3 [nx3 a b (a + b + i)] (by simp) (by simp)
    rw [hm] at this
    have this' : ACalls Try.prog 15 [Pt p, .int .i64 3, .slice (some ⟨H'.next, 0, none⟩) 1 1] (H'.alloc (.cells (eV (nx3 a b (a + b + i))) (.row 2) 28)) fun r H2 => r = .tuple #[vV (7, ((a + b + i : Nat) : Int)), .int .i64 0] ∧ ∃ F'', St H2 p (bM (nx3 a b) (a + b + i + 1)) F'' ∧ Fr F' H' F'' H2 := this
    generalize nx3 a b (a + b + i) = v at *
    have l7 : aLdAgg 2 (Pt q) H' = some (vV v) := by simp [hq'.at_]
    simp only [l7, bnd_some', aBuildSlice_eq]
    have e5 : ((a + b + (i + 1) : Nat) : Int) - 1 = ((a + b + i : Nat) : Int) := by omega
    generalize hNi : ((a + b + i : Nat) : Int) = Ni at *
    simp
    refine this'.mono fun r H5 ⟨hr, F5, hS5, hF5⟩ => ?_
    subst hr
    have h95 := h9'.fr hF5
    have hq5 := hq'.fr hF5
    have hst : aSt 2 (Pt q) (vV (7, Ni)) H5 = some (H5.upd q (.cells (eV (7, Ni)) .var 28)) := by simp [hq5.at_]
    simp [hst, w1, -aSt_ptr]
    have := ha' [.int .i64 ((i + 1 : Nat) : Int)] (H5.upd q (.cells (eV (7, Ni)) .var 28)) hlt ⟨F5, rfl, hS5.updnf hq5.nf, h95.updne h9n, by rw [if_neg (by omega), e5]; exact hq5.upd⟩
    simpa using this
  · have hie : i = 30 := by omega
    subst hie
    have e6 : ((a + b + 30 : Nat) : Int) - 1 = ((a + b + 29 : Nat) : Int) := by omega
    rw [if_neg (by decide), e6] at hq'
    have lq : aLdAgg 2 (Pt q) H' = some (vV (7, ((a + b + 29 : Nat) : Int))) := by simp [hq'.at_]
    simp only [nth_zero, aBin_lss, bnd_some', l9, lq]
    simp
    refine (c21 hS' (slotsOf_le (bM_inv (by omega)) (bM_vd (nx3_ok (by omega)))) (7, A1) (7, ((a + b + 29 : Nat) : Int)) (fuel := 100) (by omega)).use ?_
    have hrun := list_run (a := a) (b := b) (m := a + b + 30) 29 69 (a - 1) (by omega) (by omega)
    have e7 : (100 : Int).toNat = 69 + 29 + 2 := rfl
    rw [e7, ← hA1, hrun]
    unfold S9_98
    simp [runV]
theorem c9i {H : AHeap} {x y z : Int} (hx : 0 ≤ x ∧ x < 256) (hy : 0 ≤ y ∧ y < 256) (hz : 0 ≤ z ∧ z < 65536) : ACalls Try.prog 9 [.int .u8 x, .int .u8 y, .int .u16 z] H fun r _ => r = .bool true := by
  obtain ⟨a, rfl⟩ := Int.eq_ofNat_of_zero_le hx.1
  obtain ⟨b, rfl⟩ := Int.eq_ofNat_of_zero_le hy.1
  obtain ⟨c, rfl⟩ := Int.eq_ofNat_of_zero_le hz.1
  exact c9 (by omega) (by omega) (by omega)
end Go.Proofs.Ytngldjajfpbmbaa.A
