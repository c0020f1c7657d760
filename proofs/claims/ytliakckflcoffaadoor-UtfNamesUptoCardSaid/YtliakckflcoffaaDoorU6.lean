/- Contracts of functions that the statement reaches; each theorem carries its own conditions, the last theorem of the claim has none. -/
import Derived.Test.YtliakckflcoffaaDoorU5
set_option linter.unusedVariables false
set_option linter.unusedSimpArgs false
namespace Go.Proofs.YtliakckflcoffaaDoor.A
open Go Go.Abs
open Go.Lib (decodeN)

def cvN (c0 : Nat) (ds : List Nat) : Nat → Nat
  | 0 => c0
  | i + 1 => cvN c0 ds i * 64 + at' ds (i + 1) - 128
theorem cvN_succ (c0 : Nat) (ds : List Nat) (i : Nat) : cvN c0 ds (i + 1) = cvN c0 ds i * 64 + at' ds (i + 1) - 128 := rfl
theorem cvN_lt {c0 : Nat} {ds : List Nat} : ∀ {i : Nat}, (∀ j, 1 ≤ j → j ≤ i → cont (at' ds j)) → cvN c0 ds i < (c0 + 1) * 64 ^ i
  | 0, _ => by show c0 < (c0 + 1) * 64 ^ 0; rw [Nat.pow_zero]; omega
  | i + 1, h => by
    have ih := cvN_lt (c0 := c0) (ds := ds) (i := i) fun j h1 h2 => h j h1 (by omega)
    have hc := h (i + 1) (by omega) (Nat.le_refl _)
    unfold cont at hc
    rw [cvN_succ, Nat.pow_succ, ← Nat.mul_assoc]
    omega
theorem scal_le {c : Nat} (h : scal (c : Int) = true) : c ≤ 1114111 := by
  simp [scal] at h
  omega
theorem at'_drop (bs : List Nat) (a j : Nat) : at' (bs.drop a) j = at' bs (a + j) := by
  simp [at', List.getD_eq_getElem?_getD, List.getElem?_drop]

set_option maxRecDepth 100000 in
theorem l103 {lo a k c0 : Nat} {H : AHeap} {A : Option Addr} {bs : List Nat} {R : Value → AHeap → Prop} (hA : BytesN lo H A bs) (hb : ∀ x ∈ bs, x < 256) (ha : a < bs.length) (hlen : bs.length ≤ 140737488355328) (hk1 : 1 ≤ k) (hk4 : k ≤ 4) (hc0 : c0 < 128)
    (hbad : Bad (bs.drop a) → ∀ H', Keep H.next H H' → R (.tuple #[.int .i64 0, .int .i64 0]) H')
    (hgood : ¬ Bad (bs.drop a) → ∀ H', Keep H.next H H' → R (.tuple #[.int .i64 ((rd (bs.drop a)).1 : Nat), .int .i64 ((rd (bs.drop a)).2 : Nat)]) H')
    (p2 : (bs.drop a).length < k → Bad (bs.drop a)) (p3 : ∀ j, 1 ≤ j → j < k → j < (bs.drop a).length → ¬ cont (at' (bs.drop a) j) → Bad (bs.drop a))
    (p4 : k ≤ (bs.drop a).length → (∀ j, 1 ≤ j → j < k → cont (at' (bs.drop a) j)) → if scal (cvN c0 (bs.drop a) (k - 1) : Nat) = true ∧ (enc (cvN c0 (bs.drop a) (k - 1))).length = k then rd (bs.drop a) = (cvN c0 (bs.drop a) (k - 1), k) ∧ ¬ Bad (bs.drop a) else Bad (bs.drop a)) :
    S27_103 (.slice A bs.length bs.length) (.int .i64 (a : Nat)) R [.int .i64 (c0 : Nat), .int .i64 (k : Nat)] H := by
  have hdl : (bs.drop a).length = bs.length - a := List.length_drop
  unfold S27_103
  simp only [nth_zero, nth_1, addN a k (by omega), bnd_some', aLenSl_slice, aBin_gtr]
  by_cases hfit : bs.length < a + k
  · simp only [show (bs.length : Int) < ((a + k : Nat) : Int) by omega, decide_true, aCond_true]
    exact hbad (p2 (by omega)) _ (Keep.refl _ _)
  simp only [show ¬ (bs.length : Int) < ((a + k : Nat) : Int) by omega, decide_false, aCond_false]
  have hat := at'_drop bs a
  generalize hds : bs.drop a = ds at *
  refine aLoop_vs 4 (fun i vs H' => vs = [.int .i64 (cvN c0 ds i : Nat), .int .i64 ((i + 1 : Nat))] ∧ H' = H ∧ i + 1 ≤ k ∧ ∀ j, 1 ≤ j → j ≤ i → cont (at' ds j)) ⟨rfl, rfl, by omega, fun j h1 h2 => by omega⟩ ?_
  rintro i vs H' again hi ⟨rfl, rfl, hik, hcont⟩ hag
  have hcv := cvN_lt (c0 := c0) hcont
  have hcv2 : cvN c0 ds i < 33554432 := by
    refine Nat.lt_of_lt_of_le hcv ?_
    have : 64 ^ i ≤ 64 ^ 3 := Nat.pow_le_pow_right (by decide) (by omega)
    calc (c0 + 1) * 64 ^ i ≤ 128 * 64 ^ 3 := Nat.mul_le_mul (by omega) this
      _ = 33554432 := by decide
  unfold S27_63
  by_cases hlt : i + 1 < k
  · have hx := at'_lt hb (a + (i + 1))
    have i1 := hA.idx (k := .i64) (j := ((a + (i + 1) : Nat) : Int)) (c := bs.length) (by omega) (by omega)
    have ld := BytesN.get hA (i := a + (i + 1)) (by omega)
    rw [Int.toNat_natCast] at i1
    rw [← hat] at ld hx
    simp only [nth_zero, nth_1, aBin_lss, show ((i + 1 : Nat) : Int) < (k : Nat) by omega, decide_true, bnd_some', aCond_true]
    unfold S27_33
    simp only [nth_zero, nth_1, addN a (i + 1) (by omega), bnd_some', i1, ld, aConvInt_int, w64 (at' ds (i + 1)) (by omega), aBin_lss, aBin_geq]
    by_cases q1 : at' ds (i + 1) < 128
    · simp only [show ((at' ds (i + 1) : Nat) : Int) < 128 by omega, decide_true]
      simp
      exact hbad (p3 (i + 1) (by omega) hlt (by omega) (by unfold cont; omega)) _ (Keep.refl _ _)
    by_cases q2 : 192 ≤ at' ds (i + 1)
    · simp only [show ¬ ((at' ds (i + 1) : Nat) : Int) < 128 by omega, show (192 : Int) ≤ ((at' ds (i + 1) : Nat) : Int) by omega, decide_true, decide_false]
      simp [show (192 : Int) ≤ ((at' ds (i + 1) : Nat) : Int) by omega]
      exact hbad (p3 (i + 1) (by omega) hlt (by omega) (by unfold cont; omega)) _ (Keep.refl _ _)
    simp [show ¬ ((at' ds (i + 1) : Nat) : Int) < 128 by omega, show ¬ (192 : Int) ≤ ((at' ds (i + 1) : Nat) : Int) by omega]
    have e1 := wrap64 (x := (cvN c0 ds i : Int) * 64) (by omega) (by omega)
    have e2 := wrap64 (x := (cvN c0 ds i : Int) * 64 + at' ds (i + 1)) (by omega) (by omega)
    have e3 := wrap64 (x := (cvN c0 ds i : Int) * 64 + at' ds (i + 1) - 128) (by omega) (by omega)
    have e4 := wrap64 (x := (i : Int) + 1 + 1) (by omega) (by omega)
    have := hag [.int .i64 (cvN c0 ds (i + 1) : Nat), .int .i64 ((i + 1 + 1 : Nat))] H' (by omega) ⟨rfl, rfl, by omega, fun j h1 h2 => by
      rcases Nat.lt_or_ge j (i + 1) with h3 | h3
      · exact hcont j h1 (by omega)
      · obtain rfl : j = i + 1 := by omega
        unfold cont; omega⟩
    rw [show ((cvN c0 ds (i + 1) : Nat) : Int) = (cvN c0 ds i : Int) * 64 + at' ds (i + 1) - 128 by rw [cvN_succ]; omega, show ((i + 1 + 1 : Nat) : Int) = (i : Int) + 1 + 1 by omega] at this
    unfold S27_32
    simp [e1, e2, e3, e4]
    exact this
  · have hie : k - 1 = i := by omega
    have hp := p4 (by omega) fun j h1 h2 => hcont j h1 (by omega)
    rw [hie] at hp
    simp only [nth_zero, nth_1, aBin_lss, show ¬ ((i + 1 : Nat) : Int) < (k : Nat) by omega, decide_false, bnd_some', aCond_false]
    refine c15.use ?_
    unfold S27_62
    by_cases hs : scal (cvN c0 ds i : Nat) = true
    · simp [hs]
      refine (c31 (scal_le hs)).mono fun v H1 hv => ?_
      obtain ⟨B, rfl, _, k1⟩ := hv
      by_cases hl : (enc (cvN c0 ds i)).length = k
      · rw [if_pos ⟨hs, hl⟩] at hp
        have := hgood hp.2 H1 k1
        rw [hp.1] at this
        simp [hl]
        exact this
      · rw [if_neg (by simp [hl])] at hp
        have hl' : ¬ ((enc (cvN c0 ds i)).length : Int) = k := by omega
        simp [hl, hl']
        exact hbad hp _ k1
    · rw [if_neg (by simp [hs])] at hp
      simp [hs]
      exact hbad hp _ (Keep.refl _ _)

theorem ite_of {p q r : Prop} [Decidable p] (h1 : p → q) (h2 : ¬ p → r) : if p then q else r := by
  by_cases h : p
  · rw [if_pos h]; exact h1 h
  · rw [if_neg h]; exact h2 h
def oneV (ds : List Nat) : Nat × Nat := if Bad ds then (0, 0) else rd ds
set_option maxRecDepth 100000 in
theorem c27 {lo a : Nat} {H : AHeap} {A : Option Addr} {bs : List Nat} (hA : BytesN lo H A bs) (hb : ∀ x ∈ bs, x < 256) (ha : a < bs.length) (hlen : bs.length ≤ 140737488355328) :
    ACalls Tryd.prog 27 [.slice A bs.length bs.length, .int .i64 (a : Nat)] H fun v H' => v = .tuple #[.int .i64 ((oneV (bs.drop a)).1 : Nat), .int .i64 ((oneV (bs.drop a)).2 : Nat)] ∧ H' = H := by
  refine ACalls.eq' (S27_calls ?_) (vin_two rfl rfl)
  have i1 := hA.idx (k := .i64) (j := (a : Int)) (c := bs.length) (by omega) (by omega)
  have ld := BytesN.get hA (i := a) ha
  rw [Int.toNat_natCast] at i1
  have hd0 : at' (bs.drop a) 0 = at' bs a := at'_drop bs a 0
  rw [← hd0] at ld
  have g : ∀ i, at' (bs.drop a) i < 256 := at'_lt fun x hx => hb x (List.mem_of_mem_drop hx)
  have g0 := g 0
  have hdl : (bs.drop a).length = bs.length - a := List.length_drop
  generalize hR : (fun v H' => v = .tuple #[.int .i64 ((oneV (bs.drop a)).1 : Nat), .int .i64 ((oneV (bs.drop a)).2 : Nat)] ∧ Keep H.next H H' : Value → AHeap → Prop) = R
  have hbad : Bad (bs.drop a) → ∀ H', Keep H.next H H' → R (.tuple #[.int .i64 0, .int .i64 0]) H' := by
    intro h H' hk
    subst hR
    simp [oneV, h, hk]
  have hgood : ¬ Bad (bs.drop a) → ∀ H', Keep H.next H H' → R (.tuple #[.int .i64 ((rd (bs.drop a)).1 : Nat), .int .i64 ((rd (bs.drop a)).2 : Nat)]) H' := by
    intro h H' hk
    subst hR
    simp [oneV, h, hk]
  have H103 := fun k c0 => l103 (k := k) (c0 := c0) (R := R) hA hb ha hlen
  have cc : ∀ c, (enc c).length = if c < 128 then 1 else if c < 2048 then 2 else if c < 65536 then 3 else 4 := by intro c; unfold enc; (repeat' split) <;> rfl
  unfold S27
  simp [i1, ld]
  rw [aJoin_eq]
  have w0 := w64 (at' (bs.drop a) 0) (by omega)
  generalize hds : bs.drop a = ds at *
  generalize hb0 : at' ds 0 = b0 at *
  simp only [w0]
  have hsub : ∀ d : Nat, d ≤ b0 → IntKind.i64.wrap ((b0 : Int) - (d : Int)) = ((b0 - d : Nat) : Int) := by
    intro d hd
    rw [show (b0 : Int) - (d : Int) = ((b0 - d : Nat) : Int) by omega, w64 _ (by omega)]
  have s4 : 240 ≤ b0 → IntKind.i64.wrap ((b0 : Int) - 240) = ((b0 - 240 : Nat) : Int) := hsub 240
  have s3 : 224 ≤ b0 → IntKind.i64.wrap ((b0 : Int) - 224) = ((b0 - 224 : Nat) : Int) := hsub 224
  have s2 : 192 ≤ b0 → IntKind.i64.wrap ((b0 : Int) - 192) = ((b0 - 192 : Nat) : Int) := hsub 192
  by_cases k4 : 240 ≤ b0
  · by_cases k4' : b0 < 248
    · have hr := rd4 (ds := ds) g (by omega)
      rw [hb0] at hr
      have hh := H103 4 (b0 - 240) (by decide) (by decide) (by omega) hbad hgood (fun h => by unfold Bad; rw [hr, if_neg (by omega)])
        (fun j h1 h2 h3 h4 => by
          unfold Bad
          rw [hr, if_neg]
          rintro ⟨_, c1, c2, c3, _⟩
          match j, h1, h2, h4 with
          | 1, _, _, h4 => exact h4 c1
          | 2, _, _, h4 => exact h4 c2
          | 3, _, _, h4 => exact h4 c3)
        (fun hk hc => by
          have c1 := hc 1 (by decide) (by decide)
          have c2 := hc 2 (by decide) (by decide)
          have c3 := hc 3 (by decide) (by decide)
          have hv : cvN (b0 - 240) ds (4 - 1) = (b0 - 240) * 262144 + (at' ds 1 - 128) * 4096 + (at' ds 2 - 128) * 64 + (at' ds 3 - 128) := by
            show ((((b0 - 240) * 64 + at' ds (0 + 1) - 128) * 64 + at' ds (1 + 1) - 128) * 64 + at' ds (2 + 1) - 128) = _
            unfold cont at c1 c2 c3
            simp only [Nat.zero_add, Nat.reduceAdd]
            omega
          rw [hv, cc]
          generalize hV : (b0 - 240) * 262144 + (at' ds 1 - 128) * 4096 + (at' ds 2 - 128) * 64 + (at' ds 3 - 128) = V at *
          refine ite_of (fun hh => ?_) (fun hh => ?_)
          · obtain ⟨h1, h2⟩ := hh
            have h1' : V ≤ 1114111 := scal_le h1
            have h2' : 65536 ≤ V := by
              revert h2
              (repeat' split) <;> omega
            have : rd ds = (V, 4) := by rw [hr, if_pos ⟨hk, c1, c2, c3, h2', h1'⟩]
            exact ⟨this, by unfold Bad; rw [this]; simp⟩
          · unfold Bad
            rw [hr, if_neg]
            rintro ⟨_, _, _, _, h5, h6⟩
            refine hh ⟨?_, ?_⟩
            · simp [scal]; omega
            · rw [if_neg (by omega), if_neg (by omega), if_neg (by omega)])
      simp [show (240 : Int) ≤ (b0 : Int) by omega, show (b0 : Int) < 248 by omega, s4 k4]
      exact hh
    · have hB : Bad ds := rd_none (by omega) g
      simp [show (240 : Int) ≤ (b0 : Int) by omega, show ¬ (b0 : Int) < 248 by omega]
      unfold S27_102
      simp [show (224 : Int) ≤ (b0 : Int) by omega, show ¬ (b0 : Int) < 240 by omega]
      unfold S27_101
      simp [show (192 : Int) ≤ (b0 : Int) by omega, show ¬ (b0 : Int) < 224 by omega, show (128 : Int) ≤ (b0 : Int) by omega]
      exact hbad hB _ (Keep.refl _ _)
  have n4 : ¬ (240 : Int) ≤ (b0 : Int) := by omega
  simp [n4]
  unfold S27_102
  by_cases k3 : 224 ≤ b0
  · have hr := rd3 (ds := ds) g (by omega)
    rw [hb0] at hr
    have hh := H103 3 (b0 - 224) (by decide) (by decide) (by omega) hbad hgood (fun h => by unfold Bad; rw [hr, if_neg (by omega)])
      (fun j h1 h2 h3 h4 => by
        unfold Bad
        rw [hr, if_neg]
        rintro ⟨_, c1, c2, _⟩
        match j, h1, h2, h4 with
        | 1, _, _, h4 => exact h4 c1
        | 2, _, _, h4 => exact h4 c2)
      (fun hk hc => by
        have c1 := hc 1 (by decide) (by decide)
        have c2 := hc 2 (by decide) (by decide)
        have hv : cvN (b0 - 224) ds (3 - 1) = (b0 - 224) * 4096 + (at' ds 1 - 128) * 64 + (at' ds 2 - 128) := by
          show (((b0 - 224) * 64 + at' ds (0 + 1) - 128) * 64 + at' ds (1 + 1) - 128) = _
          unfold cont at c1 c2
          simp only [Nat.zero_add, Nat.reduceAdd]
          omega
        rw [hv, cc]
        generalize hV : (b0 - 224) * 4096 + (at' ds 1 - 128) * 64 + (at' ds 2 - 128) = V at *
        have hVlt : V < 65536 := by unfold cont at c1 c2; omega
        refine ite_of (fun hh => ?_) (fun hh => ?_)
        · obtain ⟨h1, h2⟩ := hh
          have h2' : 2048 ≤ V := by
            revert h2
            (repeat' split) <;> omega
          have h1' : ¬ (55296 ≤ V ∧ V ≤ 57343) := by simp [scal] at h1; omega
          have : rd ds = (V, 3) := by rw [hr, if_pos ⟨hk, c1, c2, h2', h1'⟩]
          exact ⟨this, by unfold Bad; rw [this]; simp⟩
        · unfold Bad
          rw [hr, if_neg]
          rintro ⟨_, _, _, h5, h6⟩
          refine hh ⟨?_, ?_⟩
          · simp [scal]; omega
          · rw [if_neg (by omega), if_neg (by omega), if_pos (by omega)])
    simp [show (224 : Int) ≤ (b0 : Int) by omega, show (b0 : Int) < 240 by omega, s3 k3]
    exact hh
  simp [show ¬ (224 : Int) ≤ (b0 : Int) by omega]
  unfold S27_101
  by_cases k2 : 192 ≤ b0
  · have hr := rd2 (ds := ds) g (by omega)
    rw [hb0] at hr
    have hh := H103 2 (b0 - 192) (by decide) (by decide) (by omega) hbad hgood (fun h => by unfold Bad; rw [hr, if_neg (by omega)])
      (fun j h1 h2 h3 h4 => by
        unfold Bad
        rw [hr, if_neg]
        rintro ⟨_, c1, _⟩
        match j, h1, h2, h4 with
        | 1, _, _, h4 => exact h4 c1)
      (fun hk hc => by
        have c1 := hc 1 (by decide) (by decide)
        have hv : cvN (b0 - 192) ds (2 - 1) = (b0 - 192) * 64 + (at' ds 1 - 128) := by
          show ((b0 - 192) * 64 + at' ds (0 + 1) - 128) = _
          unfold cont at c1
          simp only [Nat.zero_add, Nat.reduceAdd]
          omega
        rw [hv, cc]
        generalize hV : (b0 - 192) * 64 + (at' ds 1 - 128) = V at *
        have hVlt : V < 2048 := by unfold cont at c1; omega
        refine ite_of (fun hh => ?_) (fun hh => ?_)
        · obtain ⟨h1, h2⟩ := hh
          have h2' : 128 ≤ V := by
            revert h2
            (repeat' split) <;> omega
          have : rd ds = (V, 2) := by rw [hr, if_pos ⟨hk, c1, h2'⟩]
          exact ⟨this, by unfold Bad; rw [this]; simp⟩
        · unfold Bad
          rw [hr, if_neg]
          rintro ⟨_, _, h5⟩
          refine hh ⟨?_, ?_⟩
          · simp [scal]; omega
          · rw [if_neg (by omega), if_pos (by omega)])
    simp [show (192 : Int) ≤ (b0 : Int) by omega, show (b0 : Int) < 224 by omega, s2 k2]
    exact hh
  by_cases k1 : 128 ≤ b0
  · have hB : Bad ds := rd_none (by omega) g
    simp [show ¬ (192 : Int) ≤ (b0 : Int) by omega, show (128 : Int) ≤ (b0 : Int) by omega]
    exact hbad hB _ (Keep.refl _ _)
  have hr : rd ds = (b0, 1) := by rw [rd_ascii (by omega), hb0]
  have hh := H103 1 b0 (by decide) (by decide) (by omega) hbad hgood (fun h => by omega) (fun j h1 h2 => by omega) (fun hk hc => by
    show if scal (b0 : Int) = true ∧ (enc b0).length = 1 then rd ds = (b0, 1) ∧ ¬ Bad ds else Bad ds
    rw [if_pos ⟨by simp [scal]; omega, by rw [cc, if_pos (by omega)]⟩]
    exact ⟨hr, by unfold Bad; rw [hr]; simp; omega⟩)
  simp [show ¬ (192 : Int) ≤ (b0 : Int) by omega, show ¬ (128 : Int) ≤ (b0 : Int) by omega]
  exact hh
end Go.Proofs.YtliakckflcoffaaDoor.A
