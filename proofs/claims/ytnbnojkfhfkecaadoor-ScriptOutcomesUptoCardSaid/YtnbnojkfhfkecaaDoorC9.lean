/- Contracts of functions that the statement reaches; each theorem carries its own conditions, the last theorem of the claim has none. -/
import Derived.Test.YtnbnojkfhfkecaaDoorC8
/- The law's own numbers: sound, their digits, their text. -/
set_option linter.unusedVariables false
set_option linter.unusedSimpArgs false
set_option maxRecDepth 100000
namespace Go.Proofs.YtnbnojkfhfkecaaDoor.A
open Go Go.Abs

theorem ld2 {H : AHeap} {b : Nat} {x y : Value} {k : Use} {t : TypeId} (hat : H.at_ b = .cells [x, y] k t) : aLdCell (.pointer (some ⟨b, 1, none⟩)) H = some y := by simp [hat]
theorem ld1 {H : AHeap} {b : Nat} {x y : Value} {k : Use} {t : TypeId} (hat : H.at_ b = .cells [x, y] k t) : aLdCell (.pointer (some ⟨b, 0, none⟩)) H = some x := by simp [hat]

theorem limb_last {u : Nat} (h : 0 < nd u) : limb u (nl u - 1) ≠ 0 := by
  have hu : u ≠ 0 := by rintro rfl; rw [nd_zero] at h; omega
  have h1 := nd_ge u hu
  have h2 := lt_nd u
  have h3 : 9 * (nl u - 1) ≤ nd u - 1 := by unfold nl; omega
  have h4 : nd u ≤ 9 * (nl u - 1) + 9 := by unfold nl; omega
  have h5 : 10 ^ (9 * (nl u - 1)) ≤ u := Nat.le_trans (pow10_le h3) h1
  have h6 : u < 10 ^ (9 * (nl u - 1)) * 10 ^ 9 := by rw [← Nat.pow_add]; exact Nat.lt_of_lt_of_le h2 (pow10_le h4)
  unfold limb
  rw [Nat.mod_eq_of_lt ((Nat.div_lt_iff_lt_mul (Nat.pow_pos (by decide))).2 (by rw [Nat.mul_comm]; exact h6))]
  have : 0 < u / 10 ^ (9 * (nl u - 1)) := Nat.div_pos h5 (Nat.pow_pos (by decide))
  omega

theorem c44 {H : AHeap} {B : Option Addr} {lo u : Nat} (g : Bool) (hR : Rd 1 eW lo H B (Lm u (nl u))) (hlo : lo ≤ H.next) (hu : u < 18446744073709551616) (hg : g = true → 0 < nd u) :
    ACalls Tryd.prog 44 [eOf g B (nl u)] H fun v H' => v = .bool true ∧ H' = H := by
  have hn := nd_u64 hu
  refine ACalls.eq (S44_calls ?_) rfl
  unfold S44
  rw [aBox_eq]
  refine ⟨by rfl, ?_⟩
  have e0 : vcells (eOf g B (nl u)) = [.bool g, .slice B (nl u) (nl u)] := rfl
  rw [e0]
  have hR1 := hR.alloc hlo (.cells [.bool g, .slice B (nl u) (nl u)] .var 68)
  have hb : (H.alloc (.cells [.bool g, .slice B (nl u) (nl u)] .var 68)).at_ H.next = .cells [.bool g, .slice B (nl u) (nl u)] .var 68 := AHeap.at_alloc_new _ _
  have hk : Keep H.next H (H.alloc (.cells [.bool g, .slice B (nl u) (nl u)] .var 68)) := (Keep.refl _ _).alloc (Nat.le_refl _) _
  generalize H.alloc (.cells [.bool g, .slice B (nl u) (nl u)] .var 68) = H1 at hR1 hb hk
  have hM : nl u ≤ 3 := by unfold nl; omega
  have h64 : decide ((64 : Int) < (nl u : Int)) = false := by simp; omega
  simp only [aAdd_ptr, bnd_some', Nat.zero_add, ld2 hb, ld1 hb, aLenSl_slice, aBin_gtr, h64, aGuardK_ff, aBin_eql]
  have loop : aLoop [(.int .i64 0)] H1 fun vs_35 H_36 again_37 => (S44_83 (fun v H' => v = .bool true ∧ Keep H.next H H') (.pointer (some ⟨H.next, 0, none⟩)) (.int .i64 (nl u)) vs_35 H_36 again_37) := by
    refine aLoop_vs (nl u) (fun i vs H2 => vs = [.int .i64 i] ∧ H2 = H1) ⟨rfl, rfl⟩ ?_
    rintro i vs H2 again hi ⟨rfl, rfl⟩ hag
    unfold S44_83
    simp only [nth_zero, aBin_lss, bnd_some']
    refine aCond_of (fun hlt => ?_) (fun hge => ?_)
    · have hlt : i < nl u := by have := of_decide_eq_true hlt; omega
      unfold S44_45
      have hid := hR1.idx (k := .i64) (c := nl u) (j := (i : Int)) (by omega) (by rw [Lm_length]; omega)
      rw [Lm_length] at hid
      have hld := Rd.ld hR1 (j := i) (by rw [Lm_length]; omega)
      rw [Lm_get] at hld
      have hl := limb_lt u i
      simp only [aAdd_ptr, bnd_some', Nat.zero_add, ld2 hb, nth_zero, hid, Int.toNat_natCast, hld, aBin_geq, show decide ((1000000000 : Int) ≤ (limb u i : Nat)) = false by simp; omega, aCond_false, aBin_add]
      rw [wrap64 (by omega) (by omega)]
      exact hag _ _ hlt ⟨rfl, rfl⟩
    · have hge : i = nl u := by have := of_decide_eq_false hge; omega
      unfold S44_82
      simp only [aBin_eql, bnd_some']
      by_cases hz : nl u = 0
      · rw [show decide ((nl u : Int) = 0) = true by simp [hz]]
        simp only [aGuardK_tf, aPick_tt, bnd_some']
        exact ⟨trivial, hk⟩
      · have hpos : 0 < nd u := by unfold nl at hz; omega
        have hid := hR1.idx (k := .i64) (c := nl u) (j := ((nl u - 1 : Nat) : Int)) (by omega) (by rw [Lm_length]; omega)
        rw [Lm_length] at hid
        have hld := Rd.ld hR1 (j := nl u - 1) (by rw [Lm_length]; omega)
        rw [Lm_get] at hld
        have hll := limb_last hpos
        have hw : IntKind.i64.wrap ((nl u : Int) - 1) = ((nl u - 1 : Nat) : Int) := by rw [wrap64 (by omega) (by omega)]; omega
        rw [show decide ((nl u : Int) = 0) = false from decide_eq_false (by omega)]
        simp only [aGuardK_ff, aAdd_ptr, bnd_some', Nat.zero_add, ld2 hb, aBin_sub, hw, hid, Int.toNat_natCast, hld, aBin_neq, aPick_ff]
        refine ⟨?_, hk⟩
        have : ¬ ((limb u (nl u - 1) : Nat) : Int) = 0 := by omega
        simp [hll]
  by_cases hz : nl u = 0
  · have hgf : g = false := by
      cases g with
      | false => rfl
      | true => have := hg rfl; unfold nl at hz; omega
    subst hgf
    rw [show decide ((nl u : Int) = 0) = true by simp [hz]]
    simp only [aGuardK_tt, bnd_some', ld1 hb, aPick_tt, aPick_ff, aCond_false]
    exact loop
  · rw [show decide ((nl u : Int) = 0) = false from decide_eq_false (by omega)]
    simp only [aGuardK_ft, aPick_ff, bnd_some', aCond_false]
    exact loop

theorem limb_dg (u i j : Nat) (hj : j < 9) : limb u i / 10 ^ j % 10 = dg u (9 * i + j) := by
  unfold limb dg
  have e : 10 ^ 9 = 10 ^ j * 10 ^ (9 - j) := by rw [← Nat.pow_add]; congr 1; omega
  rw [e, Nat.mod_mul_right_div_self, Nat.mod_mod_of_dvd _ (show 10 ∣ 10 ^ (9 - j) by
    have : 9 - j = (8 - j) + 1 := by omega
    rw [this, Nat.pow_succ]
    exact Nat.dvd_mul_left _ _), Nat.div_div_eq_div_mul, ← Nat.pow_add]

theorem c45 {H : AHeap} {B : Option Addr} {lo u : Nat} (g : Bool) (hR : Rd 1 eW lo H B (Lm u (nl u))) (hlo : lo ≤ H.next) (hu : u < 18446744073709551616) :
    ACalls Tryd.prog 45 [eOf g B (nl u)] H fun v H' => ∃ C, v = .slice C (nd u) (nd u) ∧ By H'.next H' C (D8 u (nd u)) ∧ Keep H.next H H' := by
  have hn := nd_u64 hu
  have hM : nl u ≤ 3 := by unfold nl; omega
  refine S45_calls ?_
  unfold S45
  rw [aBox_eq]
  refine ⟨by rfl, ?_⟩
  have e0 : vcells (eOf g B (nl u)) = [.bool g, .slice B (nl u) (nl u)] := rfl
  rw [e0]
  have hR1 := hR.alloc hlo (.cells [.bool g, .slice B (nl u) (nl u)] .var 68)
  have hb : (H.alloc (.cells [.bool g, .slice B (nl u) (nl u)] .var 68)).at_ H.next = .cells [.bool g, .slice B (nl u) (nl u)] .var 68 := AHeap.at_alloc_new _ _
  have hk : Keep H.next H (H.alloc (.cells [.bool g, .slice B (nl u) (nl u)] .var 68)) := (Keep.refl _ _).alloc (Nat.le_refl _) _
  have hnx : (H.alloc (.cells [.bool g, .slice B (nl u) (nl u)] .var 68)).next = H.next + 1 := rfl
  generalize H.alloc (.cells [.bool g, .slice B (nl u) (nl u)] .var 68) = H1 at hR1 hb hk hnx
  refine aLoop_vs (nl u) (fun i vs H2 => i ≤ nl u ∧ ∃ C, vs = [.slice C (9 * i) (9 * i), .int .i64 i] ∧ Ow 1 eU 5 (H.next + 1) H2 C (D8 u (9 * i)) ∧ Keep (H.next + 1) H1 H2)
    ⟨Nat.zero_le _, none, rfl, by simpa [D8] using Ow.nil 1 eU 5 (H.next + 1) H1, Keep.refl _ _⟩ ?_
  rintro i vs H2 again hi ⟨_, C, rfl, hO, hk2⟩ hag
  have hb2 : H2.at_ H.next = .cells [.bool g, .slice B (nl u) (nl u)] .var 68 := (hk2.at_ _ (by omega)).trans hb
  unfold S45_31
  simp only [aAdd_ptr, bnd_some', Nat.zero_add, ld2 hb2, aLenSl_slice, nth_zero, nth_1, aBin_lss]
  refine aCond_of (fun hlt => ?_) (fun hge => ?_)
  · have hlt : i < nl u := by have := of_decide_eq_true hlt; omega
    have hR2 := (hR1.up (show lo ≤ H.next + 1 by omega)).kept hk2
    have hid := hR2.idx (k := .i64) (c := nl u) (j := (i : Int)) (by omega) (by rw [Lm_length]; omega)
    rw [Lm_length] at hid
    have hld := Rd.ld hR2 (j := i) (by rw [Lm_length]; omega)
    rw [Lm_get] at hld
    have hll := limb_lt u i
    unfold S45_28
    simp only [aAdd_ptr, bnd_some', Nat.zero_add, ld2 hb2, nth_zero, nth_1, hid, Int.toNat_natCast, hld]
    refine aLoop_vs 9 (fun j vs H3 => j ≤ 9 ∧ ∃ C, vs = [.slice C (9 * i + j) (9 * i + j), .int .u32 (limb u i / 10 ^ j : Nat), .int .i64 j] ∧ Ow 1 eU 5 (H.next + 1) H3 C (D8 u (9 * i + j)) ∧ Keep (H.next + 1) H1 H3)
      ⟨Nat.zero_le _, C, by simp, hO, hk2⟩ ?_
    rintro j vs H3 again2 hj ⟨_, C3, rfl, hO3, hk3⟩ hag2
    unfold S45_27
    simp only [nth_zero, nth_1, nth_2, aBin_lss, bnd_some']
    refine aCond_of (fun hlt9 => ?_) (fun hge9 => ?_)
    · have hj9 : j < 9 := by have := of_decide_eq_true hlt9; omega
      have hd := dg_lt u (9 * i + j)
      have hle : limb u i / 10 ^ j ≤ limb u i := Nat.div_le_self _ _
      unfold S45_25
      have e1 : aBin .rem .no (.int .u32 (limb u i / 10 ^ j : Nat)) (.int .u32 10) = some (.int .u32 (dg u (9 * i + j) : Nat)) := by
        rw [aBin_rem _ _ _ _ (by decide), ← limb_dg u i j hj9]; rfl
      have e2 : aBin .quo .no (.int .u32 (limb u i / 10 ^ j : Nat)) (.int .u32 10) = some (.int .u32 (limb u i / 10 ^ (j + 1) : Nat)) := by
        rw [aBin_quo _ _ _ _ (by decide), show ((limb u i / 10 ^ j : Nat) : Int).tdiv 10 = ((limb u i / 10 ^ j / 10 : Nat) : Int) from rfl, wrap_u32 (Int.natCast_nonneg _) (by generalize limb u i / 10 ^ j = q at hle ⊢; omega), Nat.div_div_eq_div_mul, Nat.pow_succ]
      simp only [nth_zero, nth_1, nth_2, e1, e2, bnd_some', aConvInt_int, aBin_add]
      rw [show IntKind.u8.wrap (dg u (9 * i + j) : Nat) = (dg u (9 * i + j) : Nat) by rw [IntKind.wrap_u8]; omega, aBuildSlice_eq]
      refine bnd_iff.2 ⟨[.int .u8 (dg u (9 * i + j) : Nat)], rfl, ⟨rfl, rfl⟩, ?_⟩
      have hN : Ow 1 eU 5 H3.next (H3.alloc (.cells [.int .u8 (dg u (9 * i + j) : Nat)] (.row 1) 5)) (some ⟨H3.next, 0, none⟩) [UInt8.ofNat (dg u (9 * i + j))] :=
        Ow.new H3 _ (fun _ _ => rfl) (by simp [UInt8.toNat_ofNat']; omega)
      have hO4 := hO3.alloc (.cells [.int .u8 (dg u (9 * i + j) : Nat)] (.row 1) 5)
      have key := Ow.append (bytes := 1) (c := 9 * i + j) (c' := 1) (K := fun v H4 => again2 [v, .int .u32 (limb u i / 10 ^ (j + 1) : Nat), .int .i64 (IntKind.i64.wrap ((j : Int) + 1))] H4) hO4 hN.rd (by have := hk3.next; simp; omega) (by simp [maxLen]; omega) (by simp; omega) ?_
      · rw [D8_length] at key
        exact key
      · intro H4 hO5 hn4 _ hk4
        rw [← D8_succ] at hO5 ⊢
        rw [D8_length, wrap64 (by omega) (by omega)]
        exact hag2 _ _ hj9 ⟨by omega, _, rfl, hO5, (hk3.trans ((Keep.refl _ _).alloc (by have := hk3.next; omega) _)).trans hk4⟩
    · have hj9 : j = 9 := by have := of_decide_eq_false hge9; omega
      subst hj9
      simp only [aBin_add, bnd_some']
      rw [wrap64 (by omega) (by omega)]
      exact hag _ _ hlt ⟨by omega, C3, rfl, hO3, hk3⟩
  · have hge : i = nl u := by have := of_decide_eq_false hge; omega
    subst hge
    have hup : u < 10 ^ (9 * nl u) := Nat.lt_of_lt_of_le (lt_nd u) (pow10_le (by unfold nl; omega))
    refine (c66 hO.rd hup (by omega)).use ⟨adv 1 C 0, rfl, ?_, hk.trans (hk2.lower (by omega))⟩
    have := hO.rd.take (j := nd u) (by rw [D8_length]; unfold nl; omega)
    rwa [D8_take u (show nd u ≤ 9 * nl u by unfold nl; omega)] at this
end Go.Proofs.YtnbnojkfhfkecaaDoor.A
