/- Numbers of hexadecimal digits: the reference's, and ParseUint. -/
import Derived.Test.YtliakckflcoffaaDoorV4
set_option linter.unusedVariables false
set_option linter.unusedSimpArgs false
set_option maxRecDepth 100000
namespace Go.Proofs.YtliakckflcoffaaDoor.A
open Go Go.Abs

/-- A digit's worth. -/
def dgV (n : Nat) : Option Nat := if 48 ≤ n ∧ n ≤ 57 then some (n - 48) else if 97 ≤ n ∧ n ≤ 102 then some (n - 87) else if 65 ≤ n ∧ n ≤ 70 then some (n - 55) else none
def hexVal : List UInt8 → Nat → Option Nat
  | [], a => some a
  | b :: l, a => (dgV b.toNat).bind fun d => hexVal l (a * 16 + d)
def hexR (t : List UInt8) : Int := if t.length < 1 ∨ 6 < t.length then -1 else match hexVal t 0 with
  | none => -1
  | some n => if scal (n : Int) = true then (n : Int) else -1
theorem dgV_lt {n d : Nat} (h : dgV n = some d) : d < 16 := by
  unfold dgV at h
  (repeat' split at h) <;> simp at h <;> omega
theorem drop_cons {t : List UInt8} {i : Nat} (h : i < t.length) : t.drop i = t[i] :: t.drop (i + 1) := List.drop_eq_getElem_cons h
theorem hexVal_step {t : List UInt8} {i a : Nat} (h : i < t.length) : hexVal (t.drop i) a = (dgV t[i].toNat).bind fun d => hexVal (t.drop (i + 1)) (a * 16 + d) := by
  rw [drop_cons h]
  rfl
theorem mulN (c d : Nat) (h : c * d < 4611686018427387904) : aBin .mul .no (.int .i64 (c : Int)) (.int .i64 (d : Int)) = some (.int .i64 ((c * d : Nat) : Int)) := by
  rw [aBin_mul, ← Int.natCast_mul, w64 _ (by omega)]
theorem subN (c d : Nat) (h : d ≤ c) (hc : c < 4611686018427387904) : aBin .sub .no (.int .i64 (c : Int)) (.int .i64 (d : Int)) = some (.int .i64 ((c - d : Nat) : Int)) := by
  rw [aBin_sub, ← Int.ofNat_sub h, w64 _ (by omega)]

/-- Hex of the reference. -/
theorem c38 {H : AHeap} (t : List UInt8) (ht : t.length ≤ 4611686018427387904) : ACalls Tryd.prog 38 [bstr t] H fun v H' => v = .int .i64 (hexR t) ∧ H' = H := by
  refine S38_calls ?_
  unfold S38
  rw [str_len, bnd_some', aBin_lss, bnd_some']
  unfold hexR
  by_cases h1 : t.length < 1
  · rw [show decide ((t.length : Int) < 1) = true from decide_eq_true (by omega), if_pos (.inl h1)]
    simp only [aGuardK_tf, aPick_tt, bnd_some', aCond_true]
    exact ⟨by trivial, by trivial⟩
  rw [show decide ((t.length : Int) < 1) = false from decide_eq_false (by omega)]
  simp only [aGuardK_ff, str_len, bnd_some', aBin_gtr, aPick_ff]
  by_cases h6 : 6 < t.length
  · rw [show decide ((6 : Int) < (t.length : Int)) = true from decide_eq_true (by omega), if_pos (.inr h6), aCond_true]
    exact ⟨by trivial, by trivial⟩
  rw [show decide ((6 : Int) < (t.length : Int)) = false from decide_eq_false (by omega), aCond_false, if_neg (by omega)]
  refine aLoop_vs t.length (fun i vs H2 => i ≤ t.length ∧ H2 = H ∧ ∃ a : Nat, vs = [.int .i64 (a : Nat), .int .i64 (i : Nat)] ∧ a < 16 ^ i ∧ hexVal t 0 = hexVal (t.drop i) a) ⟨Nat.zero_le _, rfl, 0, rfl, by decide, rfl⟩ ?_
  rintro i vs H2 again hi ⟨_, rfl, a, rfl, ha, hv⟩ hag
  have ha6 : a < 16777216 := Nat.lt_of_lt_of_le ha (show 16 ^ i ≤ 16 ^ 6 from Nat.pow_le_pow_right (by decide) (by omega))
  unfold S38_78
  rw [str_len, bnd_some', nth_1, aBin_lss, bnd_some']
  refine aCond_of (fun hlt => ?_) (fun hge => ?_)
  · have hlt : i < t.length := by have := of_decide_eq_true hlt; omega
    have hb := (t[i]).toNat_lt
    have hst := hexVal_step (a := a) hlt
    unfold S38_74
    rw [aJoin_eq]
    simp only [nth_zero, nth_1]
    rw [str_at t hlt, bnd_some', aConvInt_int]
    generalize (t[i]).toNat = x at hb hst
    rw [w64 x (by omega), bnd_some', aBin_geq, bnd_some', show aBin .add .no (.int .i64 (i : Int)) (.int .i64 1) = some (.int .i64 ((i + 1 : Nat) : Int)) from addN i 1 (by omega)]
    have m16 : aBin .mul .no (.int .i64 (a : Int)) (.int .i64 16) = some (.int .i64 ((a * 16 : Nat) : Int)) := mulN a 16 (by omega)
    have go : ∀ d, dgV x = some d → again [.int .i64 ((a * 16 + d : Nat) : Int), .int .i64 ((i + 1 : Nat) : Int)] H2 := by
      intro d hd
      have hd16 := dgV_lt hd
      refine hag _ _ hlt ⟨by omega, rfl, a * 16 + d, rfl, by rw [Nat.pow_succ]; omega, ?_⟩
      rw [hv, hst, hd]
      rfl
    have no : dgV x = none → (Value.int .i64 (-1) = .int .i64 (match hexVal t 0 with
        | none => -1
        | some n => if scal (n : Int) = true then (n : Int) else -1)) ∧ H2 = H2 := by
      intro hd
      rw [hv, hst, hd]
      exact ⟨rfl, rfl⟩
    by_cases q1 : 48 ≤ x
    · rw [show decide ((48 : Int) ≤ (x : Int)) = true from decide_eq_true (by omega)]
      simp only [aGuardK_tt, aBin_leq, bnd_some', aPick_tt]
      by_cases q2 : x ≤ 57
      · rw [show decide ((x : Int) ≤ 57) = true from decide_eq_true (by omega), aCond_true, m16, bnd_some', addN (a * 16) x (by omega), bnd_some', show aBin .sub .no (.int .i64 ((a * 16 + x : Nat) : Int)) (.int .i64 48) = some (.int .i64 ((a * 16 + x - 48 : Nat) : Int)) from subN _ 48 (by omega) (by omega), bnd_some']
        have := go (x - 48) (by unfold dgV; rw [if_pos ⟨q1, q2⟩])
        rw [show a * 16 + (x - 48) = a * 16 + x - 48 by omega] at this
        exact this
      rw [show decide ((x : Int) ≤ 57) = false from decide_eq_false (by omega), aCond_false]
      unfold S38_73
      rw [aBin_geq, bnd_some']
      by_cases q3 : 97 ≤ x
      · rw [show decide ((97 : Int) ≤ (x : Int)) = true from decide_eq_true (by omega)]
        simp only [aGuardK_tt, aBin_leq, bnd_some', aPick_tt, nth_zero]
        by_cases q4 : x ≤ 102
        · rw [show decide ((x : Int) ≤ 102) = true from decide_eq_true (by omega), aCond_true, m16, bnd_some', addN (a * 16) x (by omega), bnd_some', show aBin .sub .no (.int .i64 ((a * 16 + x : Nat) : Int)) (.int .i64 97) = some (.int .i64 ((a * 16 + x - 97 : Nat) : Int)) from subN _ 97 (by omega) (by omega), bnd_some', show aBin .add .no (.int .i64 ((a * 16 + x - 97 : Nat) : Int)) (.int .i64 10) = some (.int .i64 ((a * 16 + x - 97 + 10 : Nat) : Int)) from addN _ 10 (by omega), bnd_some']
          have := go (x - 87) (by unfold dgV; rw [if_neg (by omega), if_pos ⟨q3, q4⟩])
          rw [show a * 16 + (x - 87) = a * 16 + x - 97 + 10 by omega] at this
          exact this
        rw [show decide ((x : Int) ≤ 102) = false from decide_eq_false (by omega), aCond_false]
        unfold S38_72
        rw [aBin_geq, bnd_some', show decide ((65 : Int) ≤ (x : Int)) = true from decide_eq_true (by omega)]
        simp only [aGuardK_tt, aBin_leq, bnd_some', aPick_tt, nth_zero]
        rw [show decide ((x : Int) ≤ 70) = false from decide_eq_false (by omega), aCond_false]
        exact ⟨(no (by unfold dgV; rw [if_neg (by omega), if_neg (by omega), if_neg (by omega)])).1, by trivial⟩
      rw [show decide ((97 : Int) ≤ (x : Int)) = false from decide_eq_false (by omega)]
      simp only [aGuardK_ft, aPick_ff, bnd_some', aCond_false]
      unfold S38_72
      rw [aBin_geq, bnd_some']
      by_cases q5 : 65 ≤ x
      · rw [show decide ((65 : Int) ≤ (x : Int)) = true from decide_eq_true (by omega)]
        simp only [aGuardK_tt, aBin_leq, bnd_some', aPick_tt, nth_zero]
        by_cases q6 : x ≤ 70
        · rw [show decide ((x : Int) ≤ 70) = true from decide_eq_true (by omega), aCond_true, m16, bnd_some', addN (a * 16) x (by omega), bnd_some', show aBin .sub .no (.int .i64 ((a * 16 + x : Nat) : Int)) (.int .i64 65) = some (.int .i64 ((a * 16 + x - 65 : Nat) : Int)) from subN _ 65 (by omega) (by omega), bnd_some', show aBin .add .no (.int .i64 ((a * 16 + x - 65 : Nat) : Int)) (.int .i64 10) = some (.int .i64 ((a * 16 + x - 65 + 10 : Nat) : Int)) from addN _ 10 (by omega), bnd_some']
          have := go (x - 55) (by unfold dgV; rw [if_neg (by omega), if_neg (by omega), if_pos ⟨q5, q6⟩])
          rw [show a * 16 + (x - 55) = a * 16 + x - 65 + 10 by omega] at this
          exact this
        rw [show decide ((x : Int) ≤ 70) = false from decide_eq_false (by omega), aCond_false]
        exact ⟨(no (by unfold dgV; rw [if_neg (by omega), if_neg (by omega), if_neg (by omega)])).1, by trivial⟩
      rw [show decide ((65 : Int) ≤ (x : Int)) = false from decide_eq_false (by omega)]
      simp only [aGuardK_ft, aPick_ff, bnd_some', aCond_false]
      exact ⟨(no (by unfold dgV; rw [if_neg (by omega), if_neg (by omega), if_neg (by omega)])).1, by trivial⟩
    rw [show decide ((48 : Int) ≤ (x : Int)) = false from decide_eq_false (by omega)]
    simp only [aGuardK_ft, aPick_ff, bnd_some', aCond_false]
    unfold S38_73
    rw [aBin_geq, bnd_some', show decide ((97 : Int) ≤ (x : Int)) = false from decide_eq_false (by omega)]
    simp only [aGuardK_ft, aPick_ff, bnd_some', aCond_false]
    unfold S38_72
    rw [aBin_geq, bnd_some', show decide ((65 : Int) ≤ (x : Int)) = false from decide_eq_false (by omega)]
    simp only [aGuardK_ft, aPick_ff, bnd_some', aCond_false]
    exact ⟨(no (by unfold dgV; rw [if_neg (by omega), if_neg (by omega), if_neg (by omega)])).1, by trivial⟩
  · have hge : i = t.length := by have := of_decide_eq_false hge; omega
    subst hge
    rw [List.drop_length] at hv
    rw [hv, nth_zero]
    refine c15.use ?_
    rw [aUn_not, bnd_some']
    show aCond (.bool (!scal (a : Int))) _ _
    cases hs : scal (a : Int) with
    | false =>
      rw [Bool.not_false, aCond_true]
      simp [hexVal, hs]
    | true =>
      rw [Bool.not_true, aCond_false]
      simp [hexVal, hs]

/-! ParseUint. -/
theorem lowOr (n : Nat) (h : n < 256) : aBin .or .no (.int .u8 (n : Int)) (.int .u8 32) = some (.int .u8 ((n ||| 32 : Nat) : Int)) := by
  have : ∀ n : Fin 256, aBits .or .u8 (n.val : Int) 32 = some ((n.val ||| 32 : Nat) : Int) := by decide +kernel
  simp [aBin, aInt, this ⟨n, h⟩]
theorem low_small (n : Nat) (h : 97 ≤ n ∧ n ≤ 102) : n ||| 32 = n := by
  have : ∀ n : Fin 256, 97 ≤ n.val ∧ n.val ≤ 102 → n.val ||| 32 = n.val := by decide +kernel
  exact this ⟨n, by omega⟩ h
theorem low_big (n : Nat) (h : 65 ≤ n ∧ n ≤ 70) : n ||| 32 = n + 32 := by
  have : ∀ n : Fin 256, 65 ≤ n.val ∧ n.val ≤ 70 → n.val ||| 32 = n.val + 32 := by decide +kernel
  exact this ⟨n, by omega⟩ h
theorem c63 {H : AHeap} (n : Nat) (h : n < 256) : ACalls Tryd.prog 63 [.int .u8 (n : Nat)] H fun v H' => v = .int .u8 ((n ||| 32 : Nat) : Int) ∧ H' = H := by
  refine S63_calls ?_
  unfold S63
  rw [lowOr n h, bnd_some']
  exact ⟨rfl, rfl⟩
theorem u8N {x : Int} (h : 0 ≤ x) (h' : x < 256) : IntKind.u8.wrap x = x := by
  unfold IntKind.wrap
  simp [IntKind.bits, IntKind.signed]
  omega

set_option maxHeartbeats 1000000 in
theorem c52 {H : AHeap} (t : List UInt8) (n : Nat) (h1 : 1 ≤ t.length) (h6 : t.length ≤ 6) (hv0 : hexVal t 0 = some n) :
    ACalls Tryd.prog 52 [bstr t, .int .i64 16, .int .i64 32] H fun v H' => v = .tuple #[.int .u64 (n : Nat), .nilIface] ∧ H' = H := by
  refine ACalls.eq' (S52_calls ?_) (vin_two rfl rfl)
  have hne : t ≠ [] := fun e => by subst e; simp at h1
  unfold S52
  rw [show (.string ⟨#[]⟩ : Value) = bstr [] from rfl, str_eq, bnd_some', decide_eq_false hne, aCond_false]
  unfold S52_229
  rw [show aBin .eql .no (.int .i64 16) (.int .i64 0) = some (.bool false) by simp, bnd_some', aJoin_eq, show aBin .leq .no (.int .i64 2) (.int .i64 16) = some (.bool true) by simp, bnd_some']
  simp only [aGuardK_tt]
  rw [show aBin .leq .no (.int .i64 16) (.int .i64 36) = some (.bool true) by simp, bnd_some', aPick_tt, bnd_some', aCond_true]
  unfold S52_228
  rw [aJoin_eq, show aBin .eql .no (.int .i64 32) (.int .i64 0) = some (.bool false) by simp, bnd_some', aCond_false]
  unfold S52_135
  rw [show aBin .lss .no (.int .i64 32) (.int .i64 0) = some (.bool false) by simp, bnd_some']
  simp only [aGuardK_ff]
  rw [show aBin .gtr .no (.int .i64 32) (.int .i64 64) = some (.bool false) by simp, bnd_some', aPick_ff, bnd_some', aCond_false]
  unfold S52_136
  simp only [nth_1]
  rw [aJoin_eq, show aBin .eql .no (.int .i64 16) (.int .i64 10) = some (.bool false) by simp, bnd_some', aCond_false]
  unfold S52_121
  simp only [nth_1]
  rw [show aBin .eql .no (.int .i64 16) (.int .i64 16) = some (.bool true) by simp, bnd_some', aCond_true]
  unfold S52_122
  simp only [nth_zero]
  refine bnd_iff.2 ⟨.int .u64 32, by kernel_rfl, bnd_iff.2 ⟨.int .u64 4294967296, by kernel_rfl, bnd_iff.2 ⟨.int .u64 4294967295, by kernel_rfl, ?_⟩⟩⟩
  rw [aStrBytes_eq]
  have hsz : (ba t).size = t.length := ba_size t
  refine ⟨by rw [hsz]; omega, ?_⟩
  have hA1 := rdStr H t 5
  have hk0 : Keep H.next H (H.alloc (.cells (byteCells (ba t)) .read 5)) := (Keep.refl _ _).alloc (Nat.le_refl _) _
  rw [hsz]
  generalize H.alloc (.cells (byteCells (ba t)) .read 5) = H1 at hA1 hk0
  rw [aLenSl_slice, bnd_some']
  refine aLoop_vs t.length (fun i vs H2 => i ≤ t.length ∧ H2 = H1 ∧ ∃ a : Nat, vs = [.bool false, .int .u64 (a : Nat), .int .i64 (i : Nat)] ∧ a < 16 ^ i ∧ hexVal t 0 = hexVal (t.drop i) a) ⟨Nat.zero_le _, rfl, 0, rfl, by decide, rfl⟩ ?_
  rintro i vs H2 again hi ⟨_, rfl, a, rfl, ha, hv⟩ hag
  have ha6 : a < 16777216 := Nat.lt_of_lt_of_le ha (show 16 ^ i ≤ 16 ^ 6 from Nat.pow_le_pow_right (by decide) (by omega))
  unfold S52_115
  rw [nth_2, aBin_lss, bnd_some']
  refine aCond_of (fun hlt => ?_) (fun hge => ?_)
  · have hlt : i < t.length := by have := of_decide_eq_true hlt; omega
    have hb := (t[i]).toNat_lt
    have hst := hexVal_step (a := a) hlt
    unfold S52_97
    rw [aJoin_eq]
    simp only [nth_2, nth_1]
    have hidx := hA1.idx (k := .i64) (c := t.length) (j := (i : Int)) (by omega) (by rw [nt_len]; omega)
    rw [Int.toNat_natCast, nt_len] at hidx
    have hld := BytesN.get hA1 (i := i) (by rw [nt_len]; exact hlt)
    have hat : at' (nt t) i = (t[i]).toNat := by simp [at', nt, List.getD_eq_getElem?_getD, hlt]
    rw [hat] at hld
    rw [hidx, bnd_some', hld, bnd_some', aJoin_eq]
    generalize (t[i]).toNat = x at hb hst
    obtain ⟨d, hd⟩ : ∃ d, dgV x = some d := by
      cases h : dgV x with
      | none => rw [hv, hst, h] at hv0; cases hv0
      | some d => exact ⟨d, rfl⟩
    have hd16 := dgV_lt hd
    rw [hd] at hst
    have h95 : x ≠ 95 := fun e => by subst e; simp [dgV] at hd
    have key : S52_96 [bstr t, .int .i64 16] [.int .u64 1152921504606846976] (.int .u64 4294967295) [.bool false, .int .u64 (a : Nat), .int .i64 (i : Nat)]
        (fun vs_21 H_22 => bnd (aBin .add .no (.int .i64 (i : Nat)) (.int .i64 1)) fun t163_24 => again [(nth vs_21 0), (nth vs_21 1), t163_24] H_22) [.bool false, .int .u8 (d : Nat)] H2 := by
      unfold S52_96
      simp only [nth_1, nth_zero]
      rw [show aConvInt .u8 (.int .i64 16) = some (.int .u8 16) by rw [aConvInt_int, u8N (by decide) (by decide)], bnd_some', aBin_geq, bnd_some', show decide ((16 : Int) ≤ (d : Int)) = false from decide_eq_false (by omega), aCond_false]
      rw [aBin_geq, bnd_some', show decide ((1152921504606846976 : Int) ≤ (a : Int)) = false from decide_eq_false (by omega), aCond_false]
      unfold S52_52
      simp only [nth_1, nth_zero]
      rw [show aConvInt .u64 (.int .i64 16) = some (.int .u64 16) by rw [aConvInt_int, wrap_u64 (by decide) (by decide)], bnd_some', aBin_mul, wrap_u64 (by omega) (by omega), bnd_some', aConvInt_int, wrap_u64 (by omega) (by omega), bnd_some', aBin_add, wrap_u64 (by omega) (by omega), bnd_some']
      rw [aBin_lss, bnd_some', show decide ((a : Int) * 16 + (d : Int) < (a : Int) * 16) = false from decide_eq_false (by omega)]
      simp only [aGuardK_ff, aBin_gtr, bnd_some', aPick_ff]
      rw [show decide ((4294967295 : Int) < (a : Int) * 16 + (d : Int)) = false from decide_eq_false (by omega), aCond_false]
      rw [show aBin .add .no (.int .i64 (i : Int)) (.int .i64 1) = some (.int .i64 ((i + 1 : Nat) : Int)) from addN i 1 (by omega), bnd_some']
      rw [show (a : Int) * 16 + (d : Int) = ((a * 16 + d : Nat) : Int) by omega]
      refine hag _ _ hlt ⟨by omega, rfl, a * 16 + d, rfl, by rw [Nat.pow_succ]; omega, ?_⟩
      rw [hv, hst]
      rfl
    rw [aBin_eql, bnd_some', show decide ((x : Int) = 95) = false from decide_eq_false (by omega)]
    simp only [aGuardK_ft, aPick_ff, bnd_some', aCond_false]
    unfold S52_95
    rw [aBin_leq, bnd_some', nth_zero]
    have hx48 : 48 ≤ x := by
      unfold dgV at hd
      (repeat' split at hd) <;> first | omega | simp at hd
    rw [show decide ((48 : Int) ≤ (x : Int)) = true from decide_eq_true (by omega)]
    simp only [aGuardK_tt, aBin_leq, bnd_some', aPick_tt]
    by_cases q2 : x ≤ 57
    · rw [show decide ((x : Int) ≤ 57) = true from decide_eq_true (by omega), aCond_true, aBin_sub, u8N (by omega) (by omega), bnd_some']
      have : d = x - 48 := by unfold dgV at hd; rw [if_pos ⟨hx48, q2⟩] at hd; simp at hd; omega
      rw [show (x : Int) - 48 = (d : Int) by omega]
      exact key
    rw [show decide ((x : Int) ≤ 57) = false from decide_eq_false (by omega), aCond_false]
    have hcase : (97 ≤ x ∧ x ≤ 102 ∧ d = x - 87) ∨ (65 ≤ x ∧ x ≤ 70 ∧ d = x - 55) := by
      unfold dgV at hd
      rw [if_neg (by omega)] at hd
      (repeat' split at hd) <;> simp at hd <;> omega
    have hlow : ∃ y, x ||| 32 = y ∧ 97 ≤ y ∧ y ≤ 102 ∧ d = y - 87 := by
      rcases hcase with ⟨e1, e2, e3⟩ | ⟨e1, e2, e3⟩
      · exact ⟨x, low_small x ⟨e1, e2⟩, e1, e2, e3⟩
      · exact ⟨x + 32, low_big x ⟨e1, e2⟩, by omega, by omega, by omega⟩
    obtain ⟨y, hy, y1, y2, y3⟩ := hlow
    refine (c63 x hb).use ?_
    unfold S52_94
    rw [hy, aBin_leq, bnd_some', show decide ((97 : Int) ≤ (y : Int)) = true from decide_eq_true (by omega)]
    simp only [aGuardK_tt]
    refine (c63 x hb).use ?_
    rw [hy, aBin_leq, bnd_some', show decide ((y : Int) ≤ 122) = true from decide_eq_true (by omega), aPick_tt, bnd_some', aCond_true]
    refine (c63 x hb).use ?_
    rw [hy, aBin_sub, u8N (by omega) (by omega), bnd_some', aBin_add, u8N (by omega) (by omega), bnd_some', nth_zero, show (y : Int) - 97 + 10 = (d : Int) by omega]
    exact key
  · have hge : i = t.length := by have := of_decide_eq_false hge; omega
    subst hge
    rw [List.drop_length, hv0] at hv
    obtain rfl : n = a := Option.some.inj hv
    unfold S52_114
    simp only [nth_zero, nth_1, aGuardK_ft, aPick_ff, bnd_some', aCond_false]
    exact ⟨by trivial, hk0⟩
theorem c37 {H : AHeap} (t : List UInt8) (n : Nat) (h1 : 1 ≤ t.length) (h6 : t.length ≤ 6) (hv0 : hexVal t 0 = some n) :
    ACalls Tryd.prog 37 [bstr t, .int .i64 16, .int .i64 32] H fun v H' => v = .tuple #[.int .u64 (n : Nat), .nilIface] ∧ H' = H := by
  refine S37_calls ?_
  unfold S37
  refine (c52 t n h1 h6 hv0).use ?_
  refine bnd_iff.2 ⟨.int .u64 (n : Nat), rfl, bnd_iff.2 ⟨.nilIface, rfl, bnd_iff.2 ⟨.bool false, rfl, ?_⟩⟩⟩
  rw [aCond_false]
  exact ⟨rfl, rfl⟩
end Go.Proofs.YtliakckflcoffaaDoor.A
