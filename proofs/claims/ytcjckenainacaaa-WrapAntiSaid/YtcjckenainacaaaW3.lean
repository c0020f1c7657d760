/- Contracts of functions that the statement reaches; each theorem carries its own conditions, the last theorem of the claim has none. -/
import Derived.Test.YtcjckenainacaaaW2
set_option linter.unusedVariables false
set_option linter.unusedSimpArgs false
namespace Go.Proofs.Ytcjckenainacaaa.A
open Go Go.Abs

theorem c28 {H : AHeap} {n : Int} (h0 : 0 ≤ n) (hn : n ≤ 1000000) : ACalls Try.prog 28 [.slice none 0 0, .int .i64 n] H fun v H' => ∃ A, v = .slice A 0 0 ∧ Ow 1 eI 3 H.next H' A [] ∧ Keep H.next H H' := by
  refine S28_calls ?_
  unfold S28
  rw [aJoin_eq]
  simp [show ¬ n < 0 by omega]
  unfold S28_18
  rw [aJoin_eq]
  have e1 := wrap64 (x := (0 : Int)) (by omega) (by omega)
  have e2 := wrap64 (x := n) (by omega) (by omega)
  have hs := (Rd.nil (α := Int) 1 eI 0 H).sliceHi (k := .i64) (j := 0) (by omega) (by simp)
  simp [adv] at hs
  by_cases h : 0 < n
  · simp [e1, e2, h, hs, aZeros]
    refine ⟨⟨by omega, by omega⟩, ?_⟩
    rw [show aSliceSl 1 (.slice (some ⟨H.next, 0, none⟩) n.toNat n.toNat) none (some (.int .i64 0)) = some (.slice (some ⟨H.next, 0, none⟩) 0 0) from by simp [aSliceSl, aSlice, aLen, loOf, hiOf, aCut, show (0 : Int) ≤ max n 0 by omega]]
    simp
    refine ⟨⟨by simp, .inr ⟨H.next, List.replicate n.toNat (.int .i64 0), rfl, Nat.le_refl _, by simp, AHeap.at_alloc_new _ _, by simp, by simp⟩⟩, (Keep.refl _ _).alloc (Nat.le_refl _) _⟩
  · simp [e1, e2, h]
    exact Ow.nil _ _ _ _ _

abbrev eS (p : Option Addr × List Int) : List Value := [Value.slice p.1 p.2.length p.2.length]

/-- Concat: all behind one another. -/
theorem c24 {lo : Nat} {H : AHeap} {A : Option Addr} {ps : List (Option Addr × List Int)} (hl : lo ≤ H.next) (hA : Rd 1 eS lo H A ps) (hp : ∀ p ∈ ps, Ints lo H p.1 p.2) (hn : (ps.flatMap (·.2)).length ≤ 1000000) (hn2 : ps.length ≤ 1000000) :
    ACalls Try.prog 24 [.slice A ps.length ps.length] H fun v H' => ∃ A', v = .slice A' (ps.flatMap (·.2)).length (ps.flatMap (·.2)).length ∧ Ow 1 eI 3 H.next H' A' (ps.flatMap (·.2)) ∧ Keep H.next H H' := by
  refine S24_calls ?_
  unfold S24
  simp only [aLenSl_slice, bnd_some']
  obtain ⟨tot, htot⟩ : ∃ f : Nat → Nat, ∀ i, f i = ((ps.take i).flatMap (·.2)).length := ⟨_, fun _ => rfl⟩
  have t0 : tot 0 = 0 := by rw [htot]; rfl
  have t1 : ∀ i (h : i < ps.length), tot (i + 1) = tot i + ps[i].2.length := fun i h => by
    rw [htot, htot, List.take_succ_eq_append_getElem h, List.flatMap_append, List.length_append]; simp
  have t2 : tot ps.length = (ps.flatMap (·.2)).length := by rw [htot, List.take_length]
  have t3 : ∀ i, tot i ≤ 1000000 := fun i => by
    rw [htot]
    refine Nat.le_trans ?_ hn
    have : ps.flatMap (·.2) = (ps.take i).flatMap (·.2) ++ (ps.drop i).flatMap (·.2) := by rw [← List.flatMap_append, List.take_append_drop]
    rw [this, List.length_append]
    omega
  refine aLoop_st ps.length (fun i => [.int .i64 (tot i), .int .i64 i]) (fun i H' => H' = H) (by rw [t0]; rfl) rfl ?_
  rintro i H' again hi rfl ha
  unfold S24_28
  by_cases h : i < ps.length
  · simp [h]
    unfold S24_14
    rw [aJoin_eq]
    have hld := hA.ld h
    have hix := hA.idx (k := .i64) (j := i) (c := ps.length) (by omega) (by omega)
    simp only [Int.toNat_natCast] at hix
    have h3 := t3 (i + 1)
    have h1 := t1 i h
    have e1 := wrap64 (x := (tot i : Int) + ps[i].2.length) (by omega) (by omega)
    have e2 := wrap64 (x := (i : Int) + 1) (by omega) (by omega)
    have ha' := ha H' h rfl
    rw [h1] at ha'
    simp [hix, hld, e1, e2, show ¬ ((tot i : Int) + ps[i].2.length < 0) by omega]
    simpa using ha'
  · have hie : i = ps.length := by omega
    subst hie
    simp
    have h3 := t3 ps.length
    refine (c28 (n := tot ps.length) (by omega) (by omega)).mono fun v H1 hv => ?_
    obtain ⟨A0, rfl, hO, hK⟩ := hv
    simp
    refine aLoop_vs ps.length (fun i vs H2 => ∃ A', vs = [.slice A' (tot i) (tot i), .int .i64 i] ∧ Ow 1 eI 3 H'.next H2 A' ((ps.take i).flatMap (·.2)) ∧ Keep H'.next H' H2) ⟨A0, by rw [t0]; rfl, by simpa using hO, hK⟩ ?_
    rintro i vs H2 again' hi' ⟨A', rfl, hO', hK'⟩ ha'
    unfold S24_27
    by_cases h' : i < ps.length
    · have hA2 := hA.keep (H' := H2) fun b hb => hK'.at_ b (by omega)
      have hld := hA2.ld h'
      have hix := hA2.idx (k := .i64) (j := i) (c := ps.length) (by omega) (by omega)
      simp only [Int.toNat_natCast] at hix
      have e2 := wrap64 (x := (i : Int) + 1) (by omega) (by omega)
      simp [h', hix, hld]
      have hp2 := (hp ps[i] (List.getElem_mem h')).keep (H' := H2) fun b hb => hK'.at_ b (by omega)
      have h3 := t3 (i + 1)
      have h1 := t1 i h'
      rw [htot i]
      refine hO'.append hp2 (by have := hK'.next; omega) (by rw [← htot i]; simp only [maxLen]; omega) (by rw [← htot i]; omega) fun H3 hO3 hn3 _ hK3 => ?_
      simp [e2]
      have ht : ((ps.take (i + 1)).flatMap (·.2)) = (ps.take i).flatMap (·.2) ++ ps[i].2 := by
        rw [List.take_succ_eq_append_getElem h', List.flatMap_append]; simp
      have := ha' [.slice (some ⟨H2.next, 0, none⟩) (tot (i + 1)) (tot (i + 1)), .int .i64 ((i + 1 : Nat) : Int)] H3 h' ⟨_, rfl, by rw [ht]; exact hO3, hK'.trans hK3⟩
      rw [h1, htot i] at this
      simpa using this
    · have hie : i = ps.length := by omega
      subst hie
      simp [t2]
      rw [List.take_length] at hO'
      exact ⟨hO', hK'⟩
end Go.Proofs.Ytcjckenainacaaa.A
