/- Contracts of functions that the statement reaches; each theorem carries its own conditions, the last theorem of the claim has none. -/
import Derived.Test.YtngldjajfpbmbaaS25
set_option linter.unusedVariables false
set_option linter.unusedSimpArgs false
namespace Go.Proofs.Ytngldjajfpbmbaa.A
open Go Go.Abs

def rootsV (L n : Nat) : List V := (List.range n).map fun (j : Nat) => ((7 : Int), (((j + 1) * L : Nat) : Int) - 1)
theorem rootsV_succ (L n : Nat) : rootsV L (n + 1) = rootsV L n ++ [(7, (((n + 1) * L : Nat) : Int) - 1)] := by simp [rootsV, List.range_succ]
theorem rootsV_len (L n : Nat) : (rootsV L n).length = n := by simp [rootsV]
def stM (X Y : Nat → V) (L n i : Nat) : Sm := if n = 0 then tM X Y L i 0 else if n = 1 then tM X Y L L i else tM X Y L L L
theorem stM_next (X Y : Nat → V) (L : Nat) {n : Nat} (hn : n = 0 ∨ n = 1) : stM X Y L n L = stM X Y L (n + 1) 0 := by
  rcases hn with rfl | rfl <;> rfl

theorem l5_201 {H : AHeap} {p : Nat} {F : Nat → Prop} {A : Option Addr} {X Y : Nat → V} {L f : Nat} {b : Bool} (hX : ∀ n, (X n).1 = 4) (hY : ∀ n, (Y n).1 = 4) (hL : 1 ≤ L) (hL2 : L ≤ 200) (hS : St H p (tM X Y L L L) F) (hA : Lr H F A (rootsV L 2)) {x : Value} :
    S5_201 (.bool b) (fun r _ => r = .bool true) (Pt p) [.slice A 2 2, x] (runV (!b, f, 0)) H := by
  unfold S5_201
  have i0 := hA.ow.rd.idx (k := .i64) (j := (0 : Int)) (c := 2) (by omega) (by simp [rootsV_len])
  have l0 := hA.ow.rd.agg (j := 0) (by simp [rootsV_len])
  have i1 := hA.ow.rd.idx (k := .i64) (j := (1 : Int)) (c := 2) (by omega) (by simp [rootsV_len])
  have l1 := hA.ow.rd.agg (j := 1) (by simp [rootsV_len])
  have e0 : (rootsV L 2)[0]'(by simp [rootsV_len]) = (7, ((L - 1 : Nat) : Int)) := by simp [rootsV]; omega
  have e1 : (rootsV L 2)[1]'(by simp [rootsV_len]) = (7, ((L + (L - 1) : Nat) : Int)) := by simp [rootsV]; omega
  rw [e0] at l0
  rw [e1] at l1
  rw [rootsV_len] at i0 i1
  have i0' : aIdxAddr 2 (.slice A 2 2) (.int .i64 0) = some (slot 2 A 0) := i0
  have i1' : aIdxAddr 2 (.slice A 2 2) (.int .i64 1) = some (slot 2 A 1) := i1
  have bb : ((!b) == !b) = true := by simp
  simp [runV, bb, i0', i1', l0, l1, -aLdAgg_ptr]
  have hl := slotsOf_le (tM_inv (X := X) (Y := Y) (L := L) (i := L) (j := L) (by omega)) (tM_vd hX hY (.inl rfl) (Nat.le_refl _))
  refine (c22 hS hl (7, ((L - 1 : Nat) : Int)) (7, ((L + (L - 1) : Nat) : Int))).use ?_
  rw [(tM_node (X := X) (Y := Y) (j := L - 1) (by omega)).1]
  simp

theorem c5 {H0 : AHeap} {lo : Nat} {A0 : Option Addr} {xs : List Int} {at_ : Nat} {b : Bool} (hlo : lo ≤ H0.next) (hX : Rd 1 eU lo H0 A0 xs) (hxs : ∀ x ∈ xs, 0 ≤ x ∧ x < 256) (hat : at_ < 256) :
    ACalls Try.prog 5 [.slice A0 xs.length xs.length, .int .u8 at_, .bool b] H0 fun r _ => r = .bool true := by
  refine S5_calls ?_
  unfold S5
  refine (c13 (by omega) (by omega)).mono fun r H1 ⟨p, F, hr, hS, hkp, hF⟩ => ?_
  subst hr
  simp
  refine c20.use ?_
  unfold S5_204
  by_cases hbig : 200 < xs.length
  · have h1 : (200 : Int) < xs.length := by omega
    simp [h1]
    exact c20.use rfl
  by_cases hz : xs.length = 0
  · have h1 : ¬ (200 : Int) < xs.length := by omega
    have h2 : (xs.length : Int) = 0 := by omega
    have h3 : xs = [] := List.eq_nil_of_length_eq_zero hz
    subst h3
    simp
    exact c20.use rfl
  have h1 : ¬ (200 : Int) < xs.length := by omega
  have h2 : ¬ (xs.length : Int) = 0 := by omega
  have h3 : ¬ xs = [] := fun e => hz (by rw [e]; rfl)
  obtain ⟨k, hk⟩ : ∃ k, k = at_ % xs.length := ⟨_, rfl⟩
  have hkl : k < xs.length := hk ▸ Nat.mod_lt _ (by omega)
  have wk := wrap64 (x := (at_ : Int)) (by omega) (by omega)
  have ek : (at_ : Int).tmod xs.length = (k : Int) := by rw [Int.tmod_eq_emod_of_nonneg (by omega), hk]; exact (Int.natCast_emod _ _).symm
  simp [h1, h2, h3, wk, aBin_rem _ _ _ _ h2, ek]
  have gX : ∀ n, (lvX xs n).1 = 4 := fun n => rfl
  have gY : ∀ n, (lvY xs b k n).1 = 4 := fun n => by unfold lvY; split <;> rfl
  have e13 : Sm.new 4000 = stM (lvX xs) (lvY xs b k) xs.length 0 0 := rfl
  rw [e13] at hS
  have hW : Wb H0 H1 F := ⟨hkp, hF⟩
  refine aLoop_vs 2 (fun n vs H' => ∃ A F, vs = [.slice A (rootsV xs.length n).length (rootsV xs.length n).length, .int .i64 n] ∧ St H' p (stM (lvX xs) (lvY xs b k) xs.length n 0) F ∧ Wb H0 H' F ∧ Lr H' F A (rootsV xs.length n) ∧ ∀ x, A = some x → H0.next ≤ x.block) ⟨none, F, rfl, hS, hW, Lr.nil _ _, fun x hx => by cases hx⟩ ?_
  clear hS hW hF hkp
  rintro n vs H' again hn ⟨A, F, rfl, hS, hW, hA, hA0⟩ ha
  unfold S5_203
  rw [rootsV_len]
  by_cases hlt : n < 2
  · have hn2 : n = 0 ∨ n = 1 := by omega
    have hlt' : (n : Int) < 2 := by omega
    simp [hlt']
    unfold S5_127
    simp [at_alloc]
    obtain ⟨q, hq⟩ : ∃ q, q = H'.next := ⟨_, rfl⟩
    rw [← hq]
    have hk1 : ∀ x y, Keep H'.next H' ((H'.alloc x).upd H'.next y) := fun x y => ((Keep.refl _ _).alloc (Nat.le_refl _) _).upd (Nat.le_refl _) _
    have hnew : ¬ F H'.next := fun hf => by have := hS.lt _ hf; omega
    have hq0 : H0.next ≤ q := by have := hW.keep.next; omega
    refine aLoop_vs xs.length (fun i vs H2 => ∃ F, vs = [.int .i64 i] ∧ St H2 p (stM (lvX xs) (lvY xs b k) xs.length n i) F ∧ Wb H0 H2 F ∧ Lr H2 F A (rootsV xs.length n) ∧ Lv H2 F q (.cells (eV (upV (n * xs.length) i)) .var 28)) ⟨F, rfl, ?_, ?_, ?_, ?_⟩ ?_
    · rw [hq]; exact hS.kept (hk1 _ _)
    · rw [hq]; exact hW.kept (hk1 _ _)
    · rw [hq]; exact hA.kept (hk1 _ _)
    · rw [hq]; exact ⟨by simp [upV], by simp, hnew⟩
    clear hS hW hnew hk1 hA
    rintro i vs H2 again2 hi ⟨F2, rfl, hS2, hW2, hA2, hq2⟩ ha2
    unfold S5_126
    by_cases hil : i < xs.length
    · simp [hil]
      have hI : Inv (stM (lvX xs) (lvY xs b k) xs.length n i) := by
        rcases hn2 with rfl | rfl
        · exact tM_inv (by omega)
        · exact tM_inv (by omega)
      have hm : (stM (lvX xs) (lvY xs b k) xs.length n i).make 2 [if n = 0 then lvX xs i else lvY xs b k i, upV (n * xs.length) i, if n = 0 then lvX xs i else lvY xs b k i] = (((7, ((n * xs.length + i : Nat) : Int)), 0), stM (lvX xs) (lvY xs b k) xs.length n (i + 1)) := by
        rcases hn2 with rfl | rfl
        · simpa [stM] using tM_make1 (X := lvX xs) (Y := lvY xs b k) (L := xs.length) gX (i := i) (by omega)
        · simpa [stM] using tM_make2 (X := lvX xs) (Y := lvY xs b k) (L := xs.length) gY (by omega) (j := i) (by omega)
      exact l5_118 hlo hX hxs (by omega) hil hn2 hS2 hI hq2 hW2 hq0 hm fun H3 F3 h1 h2 h3 h4 => ha2 _ H3 hil ⟨F3, by simp, h1, h3, h4 _ _ hA2, by
        have : upV (n * xs.length) (i + 1) = (7, ((n * xs.length + i : Nat) : Int)) := by unfold upV; rw [if_neg (by omega)]; congr 1; omega
        rw [this]; exact h2⟩
    · have hie : i = xs.length := by omega
      subst hie
      simp [hil]
      unfold S5_125
      have w1 := wrap64 (x := (n : Int) + 1) (by omega) (by omega)
      have hqa := hq2.at_
      obtain ⟨N, hN⟩ : ∃ N : Int, N = (((n + 1) * xs.length : Nat) : Int) - 1 := ⟨_, rfl⟩
      have er : upV (n * xs.length) xs.length = (7, N) := by rw [hN]; unfold upV; rw [if_neg hz, Nat.add_mul]; congr 1; omega
      have e9 : rootsV xs.length (n + 1) = rootsV xs.length n ++ [(7, N)] := by rw [rootsV_succ, hN]
      rw [er] at hqa
      simp [hqa]
      have := app1 (v := (7, N)) (K := fun t92_122 H_123 => bnd (aBin BinOp.add EK.no (nth [Value.slice A n n, Value.int IntKind.i64 ↑n] 1) (Value.int IntKind.i64 1)) fun t49_124 => again [t92_122, t49_124] H_123) hS2.lt hA2 (by rw [rootsV_len]; omega) fun H3 hA3 hn3 hat3 => by
        simp only [nth_1, aBin_add, bnd_some', w1]
        have hW2n := hW2.keep.next
        refine ha _ H3 hlt ⟨_, F2, by rw [e9, List.length_append]; rfl, by
          rw [← stM_next _ _ _ hn2]
          exact hS2.frame hn3 fun c hc => hat3 c (hS2.lt c hc) fun x hx => by rintro rfl; exact hA2.nf x hx hc, ⟨⟨by omega, fun c hc => ?_⟩, hW2.hi⟩, by rw [e9]; exact hA3, fun x hx => by cases hx; show H0.next ≤ H2.next + 1; omega⟩
        rw [hat3 c (by omega) fun x hx => by have := hA0 x hx; omega]
        exact hW2.keep.at_ c hc
      rw [rootsV_len] at this
      exact this
  · have hne : n = 2 := by omega
    subst hne
    simp
    unfold S5_202
    have i0 := hA.ow.rd.idx (k := .i64) (j := (0 : Int)) (c := 2) (by omega) (by simp [rootsV_len])
    have l0 := hA.ow.rd.agg (j := 0) (by simp [rootsV_len])
    have i1 := hA.ow.rd.idx (k := .i64) (j := (1 : Int)) (c := 2) (by omega) (by simp [rootsV_len])
    have l1 := hA.ow.rd.agg (j := 1) (by simp [rootsV_len])
    have e0 : (rootsV xs.length 2)[0]'(by simp [rootsV_len]) = (7, ((xs.length - 1 : Nat) : Int)) := by simp [rootsV]; omega
    have e1 : (rootsV xs.length 2)[1]'(by simp [rootsV_len]) = (7, ((xs.length + (xs.length - 1) : Nat) : Int)) := by simp [rootsV]; omega
    rw [e0] at l0
    rw [e1] at l1
    rw [rootsV_len] at i0 i1
    have i0' : aIdxAddr 2 (.slice A 2 2) (.int .i64 0) = some (slot 2 A 0) := i0
    have i1' : aIdxAddr 2 (.slice A 2 2) (.int .i64 1) = some (slot 2 A 1) := i1
    have hS' : St H' p (tM (lvX xs) (lvY xs b k) xs.length xs.length xs.length) F := hS
    have hl := slotsOf_le (tM_inv (X := lvX xs) (Y := lvY xs b k) (L := xs.length) (i := xs.length) (j := xs.length) (by omega)) (tM_vd gX gY (.inl rfl) (Nat.le_refl _))
    simp only [nth_zero, i0', i1', l0, l1, bnd_some']
    refine (c21 hS' hl (7, ((xs.length - 1 : Nat) : Int)) (7, ((xs.length + (xs.length - 1) : Nat) : Int)) (fuel := 2000) (by omega)).use ?_
    obtain ⟨L, hL⟩ : ∃ L, L = xs.length := ⟨_, rfl⟩
    have e2 : (2000 : Int).toNat = 2000 := rfl
    rw [e2]
    cases b with
    | false =>
      have hrun := run_eq (X := lvX xs) (Y := lvY xs false k) (L := xs.length) (fun n _ => by simp [lvX, lvY]) (i := xs.length - 1) (by omega) (2000 - (3 * xs.length + 1))
      rw [show 2000 - (3 * xs.length + 1) + (xs.length - 1 + 1) + 2 * (xs.length - 1 + 1) + 1 = 2000 by omega] at hrun
      rw [hrun]
      exact l5_201 (b := false) gX gY (by omega) (by omega) hS' hA
    | true =>
      have hrun := run_ne (X := lvX xs) (Y := lvY xs true k) (L := xs.length) gX gY (k := k) (by
        intro e
        have := congrArg Prod.snd e
        simp [lvX, lvY] at this
        omega) (xs.length - 1 - k) (2000 - (2 * (xs.length - 1 - k) + 2)) [] (by omega) (fun n h1 h2 => by
        simp [lvX, lvY]
        intro e
        omega)
      rw [show 2000 - (2 * (xs.length - 1 - k) + 2) + 2 * (xs.length - 1 - k) + 2 = 2000 by omega, show k + (xs.length - 1 - k) = xs.length - 1 by omega] at hrun
      rw [hrun]
      exact l5_201 (b := true) gX gY (by omega) (by omega) hS' hA
theorem c5i {H0 : AHeap} {lo : Nat} {A0 : Option Addr} {xs : List Int} {a : Int} {b : Bool} (hlo : lo ≤ H0.next) (hX : Rd 1 eU lo H0 A0 xs) (hxs : ∀ x ∈ xs, 0 ≤ x ∧ x < 256) (ha : 0 ≤ a ∧ a < 256) :
    ACalls Try.prog 5 [.slice A0 xs.length xs.length, .int .u8 a, .bool b] H0 fun r _ => r = .bool true := by
  obtain ⟨n, rfl⟩ := Int.eq_ofNat_of_zero_le ha.1
  exact c5 hlo hX hxs (by omega)
end Go.Proofs.Ytngldjajfpbmbaa.A
