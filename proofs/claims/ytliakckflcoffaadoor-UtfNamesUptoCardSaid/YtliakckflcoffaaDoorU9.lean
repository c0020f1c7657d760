/- Contracts of functions that the statement reaches; each theorem carries its own conditions, the last theorem of the claim has none. -/
import Derived.Test.YtliakckflcoffaaDoorUI
set_option linter.unusedVariables false
set_option linter.unusedSimpArgs false
namespace Go.Proofs.YtliakckflcoffaaDoor.A
open Go Go.Abs
open Go.Lib (decodeN)

/-! The bytes of characters. -/
theorem or192 (n : Nat) (h : n < 64) : aBin .or .no (.int .u8 192) (.int .u8 (n : Int)) = some (.int .u8 ((192 + n : Nat) : Int)) := by
  have : ∀ n : Fin 64, aBits .or .u8 192 (n.val : Int) = some ((192 + n.val : Nat) : Int) := by decide +kernel
  exact bin_some (this ⟨n, h⟩) (by simp)
theorem or224 (n : Nat) (h : n < 32) : aBin .or .no (.int .u8 224) (.int .u8 (n : Int)) = some (.int .u8 ((224 + n : Nat) : Int)) := by
  have : ∀ n : Fin 32, aBits .or .u8 224 (n.val : Int) = some ((224 + n.val : Nat) : Int) := by decide +kernel
  exact bin_some (this ⟨n, h⟩) (by simp)
theorem or240 (n : Nat) (h : n < 16) : aBin .or .no (.int .u8 240) (.int .u8 (n : Int)) = some (.int .u8 ((240 + n : Nat) : Int)) := by
  have : ∀ n : Fin 16, aBits .or .u8 240 (n.val : Int) = some ((240 + n.val : Nat) : Int) := by decide +kernel
  exact bin_some (this ⟨n, h⟩) (by simp)
theorem or128 (n : Nat) (h : n < 64) : aBin .or .no (.int .u8 128) (.int .u8 (n : Int)) = some (.int .u8 ((128 + n : Nat) : Int)) := by
  have : ∀ n : Fin 64, aBits .or .u8 128 (n.val : Int) = some ((128 + n.val : Nat) : Int) := by decide +kernel
  exact bin_some (this ⟨n, h⟩) (by simp)
theorem shr32 (n k : Nat) (hk : k < 31) : aBin .shr .no (.int .i32 (n : Int)) (.int .u64 (k : Int)) = some (.int .i32 ((n / 2 ^ k : Nat) : Int)) := by
  have e : ((k : Int)).toNat = k := by simp
  have : aInt .shr .i32 (n : Int) (k : Int) = some (.int .i32 ((n / 2 ^ k : Nat) : Int)) := by
    simp only [aInt, e]
    rw [if_neg (by omega), show min k (IntKind.bits .i32) = k from Nat.min_eq_left (by simp [IntKind.bits]; omega)]
    have h1 : ((2 : Int) ^ k) = ((2 ^ k : Nat) : Int) := by push_cast; rfl
    rw [h1, Int.fdiv_eq_ediv_of_nonneg _ (Int.natCast_nonneg _), Int.natCast_ediv]
  simp [aBin, this]
theorem conv8 (n : Nat) : aConvInt .u8 (.int .i32 (n : Int)) = some (.int .u8 ((n % 256 : Nat) : Int)) := by
  have : IntKind.u8.wrap (n : Int) = ((n % 256 : Nat) : Int) := by
    unfold IntKind.wrap
    simp [IntKind.bits, IntKind.signed]
  simp [this]
theorem convU32 (n : Nat) (h : n < 2147483648) : aConvInt .u32 (.int .i32 (n : Int)) = some (.int .u32 (n : Int)) := by
  have : IntKind.u32.wrap (n : Int) = n := by
    unfold IntKind.wrap
    simp [IntKind.bits, IntKind.signed]
    omega
  simp [this]

/-- Bytes more at a row's end. -/
theorem pushB {lo : Nat} {H : AHeap} {A : Option Addr} {l ns : List Nat} {K : Value → AHeap → Prop} (o : Ow 1 eN 5 lo H A l) (hlo : lo ≤ H.next) (hl : l.length + ns.length ≤ 100000000)
    (hk : ∀ B H', Ow 1 eN 5 lo H' B (l ++ ns) → Keep lo H H' → K (.slice B (l ++ ns).length (l ++ ns).length) H') :
    aAppend 1 1 5 (.slice A l.length l.length) (.slice (some ⟨H.next, 0, none⟩) ns.length ns.length) (H.alloc (.cells (ns.flatMap eN) (.row 1) 5)) K := by
  have kk : Keep lo H (H.alloc (.cells (ns.flatMap eN) (.row 1) 5)) := (Keep.refl _ _).alloc hlo _
  have hrow : Rd 1 eN (H.next + 1) (H.alloc (.cells (ns.flatMap eN) (.row 1) 5)) (some ⟨H.next, 0, none⟩) ns := Rd.mk' (by simp) (by omega) (AHeap.at_alloc_new _ _) (by simp) rfl (by rw [flatMap_length (n := 1) (by simp)])
  refine (o.alloc _).append hrow (by simp; omega) (by simp [maxLen]; omega) (by simp; omega) fun H' o' n' a' k' => ?_
  exact hk _ _ o' (kk.trans k')

theorem bs1 (x : Int) (H : AHeap) (K : Value → AHeap → Prop) : aBuildSlice 1 1 5 [(.int .u8 0)] [(0, 1, .int .u8 x)] H K = K (.slice (some ⟨H.next, 0, none⟩) 1 1) (H.alloc (.cells [.int .u8 x] (.row 1) 5)) := by simp [aFill, setCells]
theorem bs2 (x y : Int) (H : AHeap) (K : Value → AHeap → Prop) : aBuildSlice 1 2 5 [(.int .u8 0)] [(0, 1, .int .u8 x), (1, 1, .int .u8 y)] H K = K (.slice (some ⟨H.next, 0, none⟩) 2 2) (H.alloc (.cells [.int .u8 x, .int .u8 y] (.row 1) 5)) := by simp [aFill, setCells]
theorem bs3 (x y z : Int) (H : AHeap) (K : Value → AHeap → Prop) : aBuildSlice 1 3 5 [(.int .u8 0)] [(0, 1, .int .u8 x), (1, 1, .int .u8 y), (2, 1, .int .u8 z)] H K = K (.slice (some ⟨H.next, 0, none⟩) 3 3) (H.alloc (.cells [.int .u8 x, .int .u8 y, .int .u8 z] (.row 1) 5)) := by simp [aFill, setCells]
theorem bs4 (x y z u : Int) (H : AHeap) (K : Value → AHeap → Prop) : aBuildSlice 1 4 5 [(.int .u8 0)] [(0, 1, .int .u8 x), (1, 1, .int .u8 y), (2, 1, .int .u8 z), (3, 1, .int .u8 u)] H K = K (.slice (some ⟨H.next, 0, none⟩) 4 4) (H.alloc (.cells [.int .u8 x, .int .u8 y, .int .u8 z, .int .u8 u] (.row 1) 5)) := by simp [aFill, setCells]

set_option maxRecDepth 100000 in
/-- AppendRune. -/
theorem c30 {lo : Nat} {H : AHeap} {A : Option Addr} {l : List Nat} {c : Nat} (o : Ow 1 eN 5 lo H A l) (hlo : lo ≤ H.next) (hl : l.length ≤ 10000000) (hc : scal (c : Int) = true) :
    ACalls Tryd.prog 30 [.slice A l.length l.length, .int .i32 (c : Nat)] H fun v H' => ∃ B, v = .slice B (l ++ enc c).length (l ++ enc c).length ∧ Ow 1 eN 5 lo H' B (l ++ enc c) ∧ Keep lo H H' := by
  have hc1 := scal_le hc
  have hc2 : ¬ (55296 ≤ c ∧ c ≤ 57343) := by simp [scal] at hc; omega
  refine S30_calls ?_
  have u32 := convU32 c (by omega)
  have fin : ∀ ns : List Nat, enc c = ns → ns.length ≤ 4 → aAppend 1 1 5 (.slice A l.length l.length) (.slice (some ⟨H.next, 0, none⟩) ns.length ns.length) (H.alloc (.cells (ns.flatMap eN) (.row 1) 5))
      (fun v H' => ∃ B, v = .slice B (l ++ enc c).length (l ++ enc c).length ∧ Ow 1 eN 5 lo H' B (l ++ enc c) ∧ Keep lo H H') := by
    intro ns hns h4
    rw [hns]
    exact pushB o hlo (by omega) fun B H' o' k' => ⟨B, rfl, o', k'⟩
  have k0 := conv8 c
  have m0 : aBin .and .no (.int .u8 ((c % 256 : Nat) : Int)) (.int .u8 63) = some (.int .u8 ((c % 64 : Nat) : Int)) := by
    rw [and63 (c % 256) (by omega), show c % 256 % 64 = c % 64 by omega]
  have o0 := or128 (c % 64) (by omega)
  have sh6 : aBin .shr .no (.int .i32 (c : Int)) (.int .u64 6) = some (.int .i32 ((c / 2 ^ 6 : Nat) : Int)) := shr32 c 6 (by decide)
  have sh12 : aBin .shr .no (.int .i32 (c : Int)) (.int .u64 12) = some (.int .i32 ((c / 2 ^ 12 : Nat) : Int)) := shr32 c 12 (by decide)
  have sh18 : aBin .shr .no (.int .i32 (c : Int)) (.int .u64 18) = some (.int .i32 ((c / 2 ^ 18 : Nat) : Int)) := shr32 c 18 (by decide)
  have k6 := conv8 (c / 2 ^ 6)
  have k12 := conv8 (c / 2 ^ 12)
  have k18 := conv8 (c / 2 ^ 18)
  have m6 : aBin .and .no (.int .u8 ((c / 2 ^ 6 % 256 : Nat) : Int)) (.int .u8 63) = some (.int .u8 ((c / 64 % 64 : Nat) : Int)) := by
    rw [and63 (c / 2 ^ 6 % 256) (by omega), show c / 2 ^ 6 % 256 % 64 = c / 64 % 64 by omega]
  have m12 : aBin .and .no (.int .u8 ((c / 2 ^ 12 % 256 : Nat) : Int)) (.int .u8 63) = some (.int .u8 ((c / 4096 % 64 : Nat) : Int)) := by
    rw [and63 (c / 2 ^ 12 % 256) (by omega), show c / 2 ^ 12 % 256 % 64 = c / 4096 % 64 by omega]
  have o6 := or128 (c / 64 % 64) (by omega)
  have o12 := or128 (c / 4096 % 64) (by omega)
  unfold S30
  by_cases h1 : c < 128
  · have := fin [c] (by unfold enc; rw [if_pos h1]) (by simp)
    simp only [u32, bnd_some', aBin_leq, show (c : Int) ≤ 127 by omega, decide_true, aCond_true, k0, show c % 256 = c by omega, bs1]
    exact this
  simp only [u32, bnd_some', aBin_leq, show ¬ (c : Int) ≤ 127 by omega, decide_false, aCond_false]
  have m41 : S41 (.slice A l.length l.length) (.int .i32 (c : Nat)) H (fun v H' => ∃ B, v = .slice B (l ++ enc c).length (l ++ enc c).length ∧ Ow 1 eN 5 lo H' B (l ++ enc c) ∧ Keep lo H H') → ACalls Tryd.prog 41 [.slice A l.length l.length, .int .i32 (c : Nat)] H fun v H' => ∃ B, v = .slice B (l ++ enc c).length (l ++ enc c).length ∧ Ow 1 eN 5 lo H' B (l ++ enc c) ∧ Keep lo H H' := fun h => S41_calls h
  generalize hR : (fun v H' => ∃ B, v = .slice B (l ++ enc c).length (l ++ enc c).length ∧ Ow 1 eN 5 lo H' B (l ++ enc c) ∧ Keep lo H H' : Value → AHeap → Prop) = R at *
  refine m41 ?_
  clear m41
  have hcase : c < 2048 ∨ (2048 ≤ c ∧ c < 65536) ∨ 65536 ≤ c := by omega
  rcases hcase with h2 | ⟨h2, h3⟩ | h3
  · have := fin [192 + c / 64, 128 + c % 64] (by unfold enc; rw [if_neg h1, if_pos h2]) (by simp)
    have o192 : aBin .or .no (.int .u8 192) (.int .u8 ((c / 2 ^ 6 % 256 : Nat) : Int)) = some (.int .u8 ((192 + c / 64 : Nat) : Int)) := by
      rw [or192 (c / 2 ^ 6 % 256) (by omega), show c / 2 ^ 6 % 256 = c / 64 by omega]
    unfold S41
    simp only [u32, bnd_some', aBin_leq, show (c : Int) ≤ 2047 by omega, decide_true, aCond_true]
    unfold S41_12
    simp only [sh6, k6, o192, k0, m0, o0, bnd_some', bs1, bs2, bs3, bs4]
    exact this
  · have := fin [224 + c / 4096, 128 + c / 64 % 64, 128 + c % 64] (by unfold enc; rw [if_neg h1, if_neg (by omega), if_pos h3]) (by simp)
    have o224 : aBin .or .no (.int .u8 224) (.int .u8 ((c / 2 ^ 12 % 256 : Nat) : Int)) = some (.int .u8 ((224 + c / 4096 : Nat) : Int)) := by
      rw [or224 (c / 2 ^ 12 % 256) (by omega), show c / 2 ^ 12 % 256 = c / 4096 by omega]
    have go : S41_30 (.slice A l.length l.length) (.int .i32 (c : Nat)) R H := by
      unfold S41_30
      simp only [sh12, k12, o224, sh6, k6, m6, o6, k0, m0, o0, bnd_some', bs1, bs2, bs3, bs4]
      exact this
    by_cases h4 : c < 55296
    · unfold S41
      simp only [u32, bnd_some', aBin_leq, show ¬ (c : Int) ≤ 2047 by omega, decide_false, aCond_false]
      rw [aJoin_eq]
      simp [show (c : Int) < 55296 by omega]
      exact go
    · unfold S41
      simp only [u32, bnd_some', aBin_leq, show ¬ (c : Int) ≤ 2047 by omega, decide_false, aCond_false]
      rw [aJoin_eq]
      simp [show ¬ (c : Int) < 55296 by omega]
      unfold S41_78
      simp [show (57343 : Int) < c by omega, show (c : Int) ≤ 65535 by omega]
      exact go
  · have := fin [240 + c / 262144, 128 + c / 4096 % 64, 128 + c / 64 % 64, 128 + c % 64] (by unfold enc; rw [if_neg h1, if_neg (by omega), if_neg (Nat.not_lt.2 h3)]) (by simp)
    have o240 : aBin .or .no (.int .u8 240) (.int .u8 ((c / 2 ^ 18 % 256 : Nat) : Int)) = some (.int .u8 ((240 + c / 262144 : Nat) : Int)) := by
      rw [or240 (c / 2 ^ 18 % 256) (by omega), show c / 2 ^ 18 % 256 = c / 262144 by omega]
    have go : S41_60 (.slice A l.length l.length) (.int .i32 (c : Nat)) R H := by
      unfold S41_60
      simp only [sh18, k18, o240, sh12, k12, m12, o12, sh6, k6, m6, o6, k0, m0, o0, bnd_some', bs1, bs2, bs3, bs4]
      exact this
    unfold S41
    simp only [u32, bnd_some', aBin_leq, show ¬ (c : Int) ≤ 2047 by omega, decide_false, aCond_false]
    rw [aJoin_eq]
    simp [show ¬ (c : Int) < 55296 by omega]
    unfold S41_78
    simp [show (57343 : Int) < c by omega, show ¬ (c : Int) ≤ 65535 by omega]
    unfold S41_65
    simp [show (65535 : Int) < c by omega, show (c : Int) ≤ 1114111 by omega]
    exact go

/-! Encode. -/
def encs (l : List Int) : List Nat := l.flatMap fun c => enc c.toNat
def encOk (l : List Int) : Bool := l.all scal
def encR (l : List Int) : List Nat × Int := if encOk l then (encs l, 0) else ([], 1)
theorem encs_len (l : List Int) : (encs l).length ≤ 4 * l.length := by
  unfold encs
  induction l with
  | nil => simp
  | cons c l ih =>
    have : (enc c.toNat).length ≤ 4 := by unfold enc; (repeat' split) <;> simp
    rw [List.flatMap_cons, List.length_append, List.length_cons]
    omega
theorem encs_snoc (l : List Int) (c : Int) : encs (l ++ [c]) = encs l ++ enc c.toNat := by simp [encs]
theorem scal_nat {c : Int} (h : scal c = true) : ((c.toNat : Nat) : Int) = c := by simp [scal] at h; omega

theorem c20 {lo : Nat} {H : AHeap} {A : Option Addr} {xs : List Int} (hl : lo ≤ H.next) (hA : Ints lo H A xs) (hx : xs.length ≤ 1000000) :
    ACalls Tryd.prog 20 [.slice A xs.length xs.length] H fun v H' => ∃ B, v = .tuple #[.slice B (encR xs).1.length (encR xs).1.length, .int .i64 (encR xs).2] ∧ BytesN H'.next H' B (encR xs).1 ∧ Keep H.next H H' := by
  refine S20_calls ?_
  unfold S20
  simp
  refine aLoop_vs xs.length (fun i vs H' => ∃ B, vs = [.slice B (encs (xs.take i)).length (encs (xs.take i)).length, .int .i64 i] ∧ Ow 1 eN 5 H.next H' B (encs (xs.take i)) ∧ Keep H.next H H' ∧ encOk (xs.take i) = true) ⟨none, rfl, Ow.nil _ _ _ _ _, Keep.refl _ _, rfl⟩ ?_
  rintro i vs H1 again hi ⟨B, rfl, o, k, ok⟩ hag
  have hA1 := hA.kept (k.lower hl)
  unfold S20_15
  by_cases h : i < xs.length
  · have i1 := hA1.idx (k := .i64) (j := (i : Int)) (c := xs.length) (by omega) (by omega)
    simp [h]
    unfold S20_14
    simp [h, i1, hA1.ld h]
    refine c14.use ?_
    by_cases hs : scal xs[i] = true
    · have hn := scal_nat hs
      have hlen := encs_len (xs.take i)
      have htl : (xs.take i).length ≤ xs.length := List.length_take_le' i xs
      have hw := wrap64 (x := (i : Int) + 1) (by omega) (by omega)
      have hw32 := wrap32 (x := xs[i]) (by simp [scal] at hs; omega) (by simp [scal] at hs; omega)
      simp [hs, hw32]
      have hc30 := c30 (c := xs[i].toNat) o k.next (by omega) (by rw [hn]; exact hs)
      rw [hn] at hc30
      refine hc30.mono fun v H2 hv => ?_
      obtain ⟨B2, rfl, o2, k2⟩ := hv
      rw [← encs_snoc, ← List.take_succ_eq_append_getElem h] at o2 ⊢
      simp [hw]
      have := hag [.slice B2 (encs (xs.take (i + 1))).length (encs (xs.take (i + 1))).length, .int .i64 ((i + 1 : Nat) : Int)] H2 h ⟨B2, rfl, o2, k.trans k2, by
        rw [List.take_succ_eq_append_getElem h]
        unfold encOk at ok ⊢
        rw [List.all_append, ok]
        simp [hs]⟩
      exact this
    · have hR : encR xs = ([], 1) := by
        unfold encR
        rw [if_neg]
        intro hh
        exact hs (List.all_eq_true.1 hh _ (List.getElem_mem h))
      simp [hs, hR]
      exact ⟨Rd.nil _ _ _ _, k⟩
  · have hie : i = xs.length := by omega
    subst hie
    rw [List.take_length] at ok o
    have hR : encR xs = (encs xs, 0) := by unfold encR; rw [if_pos ok]
    simp [hR]
    exact ⟨o.rd, k⟩
theorem c21 {lo : Nat} {H : AHeap} {A : Option Addr} {xs : List Int} (hl : lo ≤ H.next) (hA : Ints lo H A xs) (hx : xs.length ≤ 1000000) :
    ACalls Tryd.prog 21 [.slice A xs.length xs.length] H fun v H' => ∃ B, v = .tuple #[.slice B (encR xs).1.length (encR xs).1.length, .int .i64 (encR xs).2] ∧ BytesN H'.next H' B (encR xs).1 ∧ Keep H.next H H' := by
  refine S21_calls ?_
  unfold S21
  refine aLoop_vs xs.length (fun i vs H' => ∃ B, vs = [.slice B (encs (xs.take i)).length (encs (xs.take i)).length, .int .i64 i] ∧ Ow 1 eN 5 H.next H' B (encs (xs.take i)) ∧ Keep H.next H H' ∧ encOk (xs.take i) = true) ⟨none, rfl, Ow.nil _ _ _ _ _, Keep.refl _ _, rfl⟩ ?_
  rintro i vs H1 again hi ⟨B, rfl, o, k, ok⟩ hag
  have hA1 := hA.kept (k.lower hl)
  unfold S21_19
  by_cases h : i < xs.length
  · have i1 := hA1.idx (k := .i64) (j := (i : Int)) (c := xs.length) (by omega) (by omega)
    simp [h]
    unfold S21_18
    simp [h, i1, hA1.ld h]
    refine c15.use ?_
    by_cases hs : scal xs[i] = true
    · have hn := scal_nat hs
      have hlen := encs_len (xs.take i)
      have htl : (xs.take i).length ≤ xs.length := List.length_take_le' i xs
      have hw := wrap64 (x := (i : Int) + 1) (by omega) (by omega)
      simp [hs]
      unfold S21_17
      simp [h, i1, hA1.ld h]
      have hc31 := c31 (H := H1) (c := xs[i].toNat) (by have := scal_le (c := xs[i].toNat) (by rw [hn]; exact hs); exact this)
      rw [hn] at hc31
      refine hc31.mono fun v H2 hv => ?_
      obtain ⟨E, rfl, oe, k2⟩ := hv
      have hle : (enc xs[i].toNat).length ≤ 4 := by unfold enc; (repeat' split) <;> simp
      refine (o.kept k2).append oe.rd (Nat.le_trans k.next k2.next) (by simp [maxLen]; omega) (by simp; omega) fun H3 o3 n3 a3 k3 => ?_
      rw [← encs_snoc, ← List.take_succ_eq_append_getElem h] at o3 ⊢
      simp [hw]
      have := hag [.slice (some ⟨H2.next, 0, none⟩) (encs (xs.take (i + 1))).length (encs (xs.take (i + 1))).length, .int .i64 ((i + 1 : Nat) : Int)] H3 h ⟨_, rfl, o3, (k.trans (k2.lower k.next)).trans k3, by
        rw [List.take_succ_eq_append_getElem h]
        unfold encOk at ok ⊢
        rw [List.all_append, ok]
        simp [hs]⟩
      exact this
    · have hR : encR xs = ([], 1) := by
        unfold encR
        rw [if_neg]
        intro hh
        exact hs (List.all_eq_true.1 hh _ (List.getElem_mem h))
      simp [hs, hR]
      exact ⟨Rd.nil _ _ _ _, k⟩
  · have hie : i = xs.length := by omega
    subst hie
    rw [List.take_length] at ok o
    have hR : encR xs = (encs xs, 0) := by unfold encR; rw [if_pos ok]
    simp [hR]
    exact ⟨o.rd, k⟩
end Go.Proofs.YtliakckflcoffaaDoor.A
