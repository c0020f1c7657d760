/- Contracts of functions that the statement reaches; each theorem carries its own conditions, the last theorem of the claim has none. -/
import Derived.Test.YtngldjajfpbmbaaS15
set_option linter.unusedVariables false
set_option linter.unusedSimpArgs false
namespace Go.Proofs.Ytngldjajfpbmbaa.A
open Go Go.Abs

theorem c3 {H : AHeap} {n kept : Nat} (hn : n < 256) (hkept : kept < 256) : ACalls Try.prog 3 [.int .u8 n, .int .u8 kept] H fun r _ => r = .bool true := by
  refine S3_calls ?_
  unfold S3
  have e0 : ((n : Int).tmod 40) = ((n % 40 : Nat) : Int) := by
    rw [Int.tmod_eq_emod_of_nonneg (by omega)]; omega
  obtain ⟨k, hk⟩ : ∃ k, k = n % 40 + 1 := ⟨_, rfl⟩
  have w0 := wrap64 (x := ((n % 40 : Nat) : Int)) (by omega) (by omega)
  have w1 : IntKind.i64.wrap (((n % 40 : Nat) : Int) + 1) = (k : Int) := by rw [wrap64 (by omega) (by omega)]; omega
  have w2 := wrap64 (x := 3 * (k : Int)) (by omega) (by omega)
  rw [aBin_rem _ _ _ _ (by decide)]
  simp only [bnd_some', aConvInt_int, aBin_add, aBin_mul, e0, w0, w1, w2]
  refine (c13 (by omega) (by omega)).mono fun r H1 ⟨p, F, hr, hS, hkp, hF⟩ => ?_
  subst hr
  unfold S3_225
  simp
  refine c14.use ?_
  simp
  unfold S3_224
  simp
  obtain ⟨G, hG⟩ : ∃ X, X = (H1.alloc (.cells [.int .i64 0, .int .i64 0] .var 28)).upd H1.next (.cells [.int .i64 0, .int .i64 0] .var 28) := ⟨_, rfl⟩
  have hkG : Keep H1.next H1 G := hG ▸ ((Keep.refl _ _).alloc (Nat.le_refl _) _).upd (Nat.le_refl _) _
  have eG : G.at_ H1.next = .cells [.int .i64 0, .int .i64 0] .var 28 := by rw [hG]; simp
  have hnG : G.next = H1.next + 1 := by rw [hG]; simp
  simp [at_alloc]
  rw [← hG]
  clear hG
  have hSG := hS.kept hkG
  have e13 : Sm.new (3 * (k : Int)) = chM (3 * k) 0 0 := by simp [Sm.new, chM, chL]
  rw [e13] at hSG
  have hq0 : Lv G F H1.next (.cells (eV (lastV 0)) .var 28) := ⟨eG, by omega, fun hf => by have := hS.lt _ hf; omega⟩
  generalize H1.next = q at *
  clear eG hnG hkG hS e13 hkp
  refine aLoop_vs k (fun i vs H' => ∃ A F, vs = [.slice A (allV i).length (allV i).length, .int .i64 i] ∧ St H' p (chM (3 * k) i 0) F ∧ Lv H' F q (.cells (eV (lastV i)) .var 28) ∧ Lr H' F A (allV i)) ⟨none, F, rfl, hSG, hq0, Lr.nil _ _⟩ ?_
  clear hSG hq0
  rintro i vs H' again hi ⟨A, F, rfl, hS, hq, hA⟩ ha
  unfold S3_223
  have hlen := allV_len i
  have hI : Inv (chM (3 * k) i 0) := chM_inv (by omega) (by omega)
  by_cases hlt : i < k
  · simp [hlt]
    unfold S3_50
    have w3 := wrap64 (x := (i : Int) + 1) (by omega) (by omega)
    simp [hq.at_]
    refine (mkLit hS hI 1 [(4, (i : Int)), lastV i] (by simp) (by simp)).mono fun r H2 ⟨hr, F2, hS2, hF2⟩ => ?_
    rw [chM_make (by omega)] at hr hS2
    subst hr
    have hq2 := hq.fr hF2
    have hA2 := hA.fr hF2
    simp [at_alloc, at_upd]
    unfold S3_49
    have hne : q ≠ H2.next := by have := hq2.lt; omega
    simp [at_alloc, at_upd, hne, hne.symm, hq2.at_]
    obtain ⟨G, hG⟩ : ∃ X, X = ((H2.alloc (.cells [.int .i64 0, .int .i64 0] .var 28)).upd H2.next (.cells [.int .i64 7, .int .i64 i] .var 28)).upd q (.cells [.int .i64 7, .int .i64 i] .var 28) := ⟨_, rfl⟩
    have hk2 : Keep H2.next H2 ((H2.alloc (.cells [.int .i64 0, .int .i64 0] .var 28)).upd H2.next (.cells [.int .i64 7, .int .i64 i] .var 28)) := ((Keep.refl _ _).alloc (Nat.le_refl _) _).upd (Nat.le_refl _) _
    have hSG : St G p (chM (3 * k) (i + 1) 0) F2 := hG ▸ (hS2.kept hk2).updnf hq2.nf
    have hqG : Lv G F2 q (.cells (eV (lastV (i + 1))) .var 28) := by
      have := (hq2.kept hk2).upd (y := .cells [.int .i64 7, .int .i64 i] .var 28)
      rw [← hG] at this
      simpa [lastV] using this
    have hAG : Lr G F2 A (allV i) := hG ▸ (hA2.kept hk2).updvar (hq2.kept hk2)
    have hnG : G.next = H2.next + 1 := by rw [hG]; simp
    simp only [← hG]
    clear hG
    have := app1 (v := (7, (i : Int))) (K := fun t66_46 H_47 => again [t66_46, .int .i64 (IntKind.i64.wrap ((i : Int) + 1))] H_47) hSG.lt hAG (by omega) fun H3 hA3 hn3 hat3 => by
      rw [w3]
      refine ha _ H3 hlt ⟨_, F2, by rw [allV_succ, List.length_append]; rfl, hSG.frame hn3 fun b hb => hat3 b (hSG.lt b hb) fun x hx => ?_, ⟨?_, Nat.lt_of_lt_of_le hqG.lt hn3, hqG.nf⟩, by rw [allV_succ]; exact hA3⟩
      · rintro rfl; exact hAG.nf x hx hb
      · rw [hat3 q hqG.lt]
        · exact hqG.at_
        · rintro x hx rfl
          obtain ⟨_, _, _, ds, hds⟩ := hAG.ow.blkOf hx
          rw [hqG.at_] at hds
          cases hds
    rw [hnG] at this
    exact this
  · have hie : i = k := by omega
    subst hie
    simp
    unfold S3_222
    simp
    refine (c15 hS hI 2 (Nat.le_refl _) (Rd.nil 2 eV H'.next H') (by simp) (by simp)).mono fun r H2 ⟨hr, F2, hS2, hF2⟩ => ?_
    rw [chM_full (by omega)] at hr hS2
    subst hr
    have hq2 := hq.fr hF2
    have hA2 := hA.fr hF2
    simp [at_alloc, at_upd]
    have hk2 : ∀ x y, Keep H2.next H2 ((H2.alloc x).upd H2.next y) := fun x y => ((Keep.refl _ _).alloc (Nat.le_refl _) _).upd (Nat.le_refl _) _
    obtain ⟨G, hG⟩ : ∃ X, X = ((H2.alloc (.cells [.int .i64 0, .int .i64 0] .var 28)).upd H2.next (.cells [.int .i64 0, .int .i64 0] .var 28)) := ⟨_, rfl⟩
    have hSG : St G p (chM (3 * i) i 0) F2 := hG ▸ hS2.kept (hk2 _ _)
    have hAG : Lr G F2 A (allV i) := hG ▸ hA2.kept (hk2 _ _)
    simp only [← hG]
    clear hG
    exact l3_221 (by omega) (by omega) hkept hSG hAG
theorem c3i {H : AHeap} {a b : Int} (ha : 0 ≤ a ∧ a < 256) (hb : 0 ≤ b ∧ b < 256) : ACalls Try.prog 3 [.int .u8 a, .int .u8 b] H fun r _ => r = .bool true := by
  obtain ⟨n, rfl⟩ := Int.eq_ofNat_of_zero_le ha.1
  obtain ⟨k, rfl⟩ := Int.eq_ofNat_of_zero_le hb.1
  exact c3 (by omega) (by omega)
end Go.Proofs.Ytngldjajfpbmbaa.A
