/- Contracts of functions that the statement reaches; each theorem carries its own conditions, the last theorem of the claim has none. -/
import Derived.Test.YtnbnojkfhfkecaaDoorEA
import Derived.Test.YtnbnojkfhfkecaaDoorCSa
import Derived.Lib.AtoiAllMem
/- Atoi of a numeral; the limits. -/
set_option linter.unusedVariables false
set_option linter.unusedSimpArgs false
set_option maxRecDepth 100000
namespace Go.Proofs.YtnbnojkfhfkecaaDoor.A
open Go Go.Abs

theorem dec_digit (u : Nat) : ∀ c ∈ Lib.decDigits u, 48 ≤ c.toNat ∧ c.toNat ≤ 57 := by
  induction u using Nat.strongRecOn with
  | ind u ih =>
    intro c hc
    rw [Lib.decDigits] at hc
    split at hc
    · simp only [List.mem_singleton] at hc
      subst hc
      rw [UInt8.toNat_ofNat']
      omega
    · rcases List.mem_append.1 hc with h | h
      · exact ih (u / 10) (by omega) c h
      · simp only [List.mem_singleton] at h
        subst h
        rw [UInt8.toNat_ofNat']
        omega
theorem dec_ne (u : Nat) : Lib.decDigits u ≠ [] := by
  rw [Lib.decDigits]
  split <;> simp
theorem parse_append : ∀ (l : List UInt8) (acc : Nat) (c : UInt8), Lib.parseUint10 acc (l ++ [c]) = match Lib.parseUint10 acc l with
    | .ok a => Lib.parseUint10 a [c]
    | r => r
  | [], acc, c => by simp [Lib.parseUint10]
  | x :: l, acc, c => by
    rw [List.cons_append, Lib.parseUint10, Lib.parseUint10]
    split
    · split
      · rfl
      · split
        · rfl
        · exact parse_append l _ c
    · rfl
theorem parse_dec (u : Nat) (hu : u < 18446744073709551616) : Lib.parseUint10 0 (Lib.decDigits u) = .ok u := by
  induction u using Nat.strongRecOn with
  | ind u ih =>
    have one : ∀ a d : Nat, a * 10 + d < 18446744073709551616 → d < 10 → Lib.parseUint10 a [UInt8.ofNat (48 + d)] = .ok (a * 10 + d) := by
      intro a d h1 h2
      have e : (UInt8.ofNat (48 + d)).toNat = 48 + d := by rw [UInt8.toNat_ofNat']; omega
      simp only [Lib.parseUint10, e]
      rw [if_pos (by omega), if_neg (by omega), if_neg (by omega)]
      congr 1
      omega
    rw [Lib.decDigits]
    split
    · have := one 0 u (by omega) (by omega)
      simpa using this
    · rw [parse_append, ih (u / 10) (by omega) (by omega)]
      have := one (u / 10) (u % 10) (by omega) (by omega)
      rw [show u / 10 * 10 + u % 10 = u by omega] at this
      exact this
theorem atoi_itoa {n : Int} (h : I64 n) : Lib.atoiAll (Lib.itoa n) = .ok n := by
  obtain ⟨h0, h1⟩ := h
  have mag : ∀ u, u < 18446744073709551616 → Lib.parseMag (Lib.decDigits u) = .ok u := by
    intro u hu
    unfold Lib.parseMag
    rw [if_neg (dec_ne u), parse_dec u hu]
  unfold Lib.itoa
  split
  · rename_i hneg
    unfold Lib.atoiAll
    have e45 : (45 : UInt8).toNat = 45 := rfl
    simp only [e45]
    rw [if_pos (.inr trivial), mag _ (by omega)]
    simp only
    rw [if_neg (by simp), if_neg (by simp; omega), if_pos trivial]
    congr 1
    omega
  · rename_i hpos
    have hd := dec_digit n.toNat
    have hm := mag n.toNat (by omega)
    cases hl : Lib.decDigits n.toNat with
    | nil => exact absurd hl (dec_ne _)
    | cons c r =>
      rw [hl] at hm hd
      have hc := hd c (by simp)
      unfold Lib.atoiAll
      simp only
      rw [if_neg (by omega), hm]
      simp only
      rw [if_neg (by omega), if_neg (by omega), if_neg (by omega)]
      congr 1
      omega
theorem itoa_no {n : Int} {c : UInt8} (hc : c.toNat < 45) : c ∉ Lib.itoa n := by
  unfold Lib.itoa
  intro h
  split at h
  · rcases List.mem_cons.1 h with h | h
    · subst h; exact absurd hc (by decide)
    · have := dec_digit _ c h; omega
  · have := dec_digit _ c h; omega

theorem c38 {H : AHeap} {n : Int} (h : I64 n) : ACalls Tryd.prog 38 [bstr (Lib.itoa n)] H fun v H' => v = .tuple #[.int .i64 n, .nilIface] ∧ H' = H := by
  refine ofGrowT rfl (fun φ => VRel.plains φ (vs := [.int .i64 n, .nilIface]) rfl) fun B φ w hr => ?_
  refine (Sh.strconv_Atoi_ok (ba (Lib.itoa n)) (by rw [ba_size]; have := itoa_le h; omega) n (by rw [ba_data]; exact atoi_itoa h) w).mono ?_
  rintro e w' ⟨rfl, hw⟩
  refine ⟨rfl, ?_⟩
  rcases hw with rfl | ⟨t, rfl⟩
  · exact RowKit.Below.refl _ _
  · exact Lib.bytesWorld_below _ _ _

/-- The fields, so far. -/
def sofar (f c d : Int) (i : Nat) : List Value := [.int .i64 (if 0 < i then f else 0), .int .i64 (if 1 < i then c else 0), .int .i64 (if 2 < i then d else 0)]
theorem sofar_set (f c d : Int) (i : Nat) (h : i < 3) : (sofar f c d i).set i (.int .i64 (fs f c d i)) = sofar f c d (i + 1) := by
  match i, h with
  | 0, _ => rfl
  | 1, _ => rfl
  | 2, _ => rfl

theorem c25 {H : AHeap} (hT : TbM H) {f c d : Int} (hf : I64 f) (hc : I64 c) (hd' : I64 d) :
    ACalls Tryd.prog 25 [bstr (Lib.itoa f ++ 32 :: (Lib.itoa c ++ 32 :: Lib.itoa d))] H fun v H' => v = .tuple #[eLim f c d, .bool true] ∧ H' = H := by
  have hvin : VIn (fun b => b < H.next) (.tuple #[eLim f c d, .bool true]) := .tuple fun i u hu => by
    match i, hu with
    | 0, hu =>
      simp at hu; subst hu
      refine .agg fun j x hx => ?_
      match j, hx with
      | 0, hx => simp at hx; subst hx; exact .plain rfl
      | 1, hx => simp at hx; subst hx; exact .plain rfl
      | 2, hx => simp at hx; subst hx; exact .plain rfl
      | j + 3, hx => simp at hx
    | 1, hu => simp at hu; subst hu; exact .plain rfl
    | i + 2, hu => simp at hu
  refine ACalls.eqT (S25_calls ?_) hvin
  unfold S25
  rw [aAlloc_eq]
  have h1 := itoa_le hf
  have h2 := itoa_le hc
  have h3 := itoa_le hd'
  have h8 := hT.tb.next
  have hk1 : Keep H.next H (H.alloc (.cells [.int .i64 0, .int .i64 0, .int .i64 0] .var 27)) := (Keep.refl _ _).alloc (Nat.le_refl _) _
  have hat1 : (H.alloc (.cells [.int .i64 0, .int .i64 0, .int .i64 0] .var 27)).at_ H.next = .cells (sofar f c d 0) .var 27 := AHeap.at_alloc_new _ _
  have hn1 : (H.alloc (.cells [.int .i64 0, .int .i64 0, .int .i64 0] .var 27)).next = H.next + 1 := rfl
  generalize H.alloc (.cells [.int .i64 0, .int .i64 0, .int .i64 0] .var 27) = H1 at hk1 hat1 hn1
  refine (c37 (hT.kept hk1) (itoa_no (by decide)) (itoa_no (by decide)) (itoa_no (by decide)) (by omega)).use2 ?_
  have hk2 := hk1.alloc (by omega) (.cells [bstr (Lib.itoa f), bstr (Lib.itoa c), bstr (Lib.itoa d)] .read 9)
  have hatw : (H1.alloc (.cells [bstr (Lib.itoa f), bstr (Lib.itoa c), bstr (Lib.itoa d)] .read 9)).at_ (H.next + 1) = .cells [bstr (Lib.itoa f), bstr (Lib.itoa c), bstr (Lib.itoa d)] .read 9 := by
    rw [← hn1]; exact AHeap.at_alloc_new _ _
  have hat2 : (H1.alloc (.cells [bstr (Lib.itoa f), bstr (Lib.itoa c), bstr (Lib.itoa d)] .read 9)).at_ H.next = .cells (sofar f c d 0) .var 27 := by
    rw [AHeap.at_alloc_ne _ _ (by omega)]; exact hat1
  have hn2 : (H1.alloc (.cells [bstr (Lib.itoa f), bstr (Lib.itoa c), bstr (Lib.itoa d)] .read 9)).next = H.next + 2 := by simp [hn1]
  rw [hn1]
  generalize H1.alloc (.cells [bstr (Lib.itoa f), bstr (Lib.itoa c), bstr (Lib.itoa d)] .read 9) = H2 at hk2 hatw hat2 hn2
  refine (c18 H.next).use2 ?_
  have hk3 := hk2.alloc (by omega) (.cells [.pointer (some ⟨H.next, 0, none⟩), .pointer (some ⟨H.next, 1, none⟩), .pointer (some ⟨H.next, 2, none⟩)] (.row 1) 52)
  have hatp : (H2.alloc (.cells [.pointer (some ⟨H.next, 0, none⟩), .pointer (some ⟨H.next, 1, none⟩), .pointer (some ⟨H.next, 2, none⟩)] (.row 1) 52)).at_ (H.next + 2) = .cells [.pointer (some ⟨H.next, 0, none⟩), .pointer (some ⟨H.next, 1, none⟩), .pointer (some ⟨H.next, 2, none⟩)] (.row 1) 52 := by
    rw [← hn2]; exact AHeap.at_alloc_new _ _
  have hatw3 : (H2.alloc (.cells [.pointer (some ⟨H.next, 0, none⟩), .pointer (some ⟨H.next, 1, none⟩), .pointer (some ⟨H.next, 2, none⟩)] (.row 1) 52)).at_ (H.next + 1) = .cells [bstr (Lib.itoa f), bstr (Lib.itoa c), bstr (Lib.itoa d)] .read 9 := by
    rw [AHeap.at_alloc_ne _ _ (by omega)]; exact hatw
  have hat3 : (H2.alloc (.cells [.pointer (some ⟨H.next, 0, none⟩), .pointer (some ⟨H.next, 1, none⟩), .pointer (some ⟨H.next, 2, none⟩)] (.row 1) 52)).at_ H.next = .cells (sofar f c d 0) .var 27 := by
    rw [AHeap.at_alloc_ne _ _ (by omega)]; exact hat2
  have hn3 : (H2.alloc (.cells [.pointer (some ⟨H.next, 0, none⟩), .pointer (some ⟨H.next, 1, none⟩), .pointer (some ⟨H.next, 2, none⟩)] (.row 1) 52)).next = H.next + 3 := by simp [hn2]
  rw [hn2]
  generalize H2.alloc (.cells [.pointer (some ⟨H.next, 0, none⟩), .pointer (some ⟨H.next, 1, none⟩), .pointer (some ⟨H.next, 2, none⟩)] (.row 1) 52) = H3 at hk3 hatp hatw3 hat3 hn3
  unfold S25_58
  simp only [aLenSl_slice, bnd_some', aBin_neq]
  simp only [decide_true, Bool.not_true, aCond_false]
  refine aLoop_vs 3 (fun i vs H4 => i ≤ 3 ∧ vs = [.int .i64 i] ∧ H4.at_ H.next = .cells (sofar f c d i) .var 27 ∧ H4.at_ (H.next + 1) = .cells [bstr (Lib.itoa f), bstr (Lib.itoa c), bstr (Lib.itoa d)] .read 9 ∧
    H4.at_ (H.next + 2) = .cells [.pointer (some ⟨H.next, 0, none⟩), .pointer (some ⟨H.next, 1, none⟩), .pointer (some ⟨H.next, 2, none⟩)] (.row 1) 52 ∧ Keep H.next H H4) ⟨by decide, rfl, hat3, hatw3, hatp, hk3⟩ ?_
  rintro i vs H4 again hi ⟨_, rfl, ha, hw, hp, hk4⟩ hag
  unfold S25_57
  simp only [nth_zero, aBin_lss, bnd_some']
  refine aCond_of (fun hlt => ?_) (fun hge => ?_)
  · have hlt : i < 3 := by have := of_decide_eq_true hlt; omega
    have i1 : aIdxAddr 1 (.slice (some ⟨H.next + 1, 0, none⟩) 3 3) (.int .i64 i) = some (.pointer (some ⟨H.next + 1, i, none⟩)) := by simp [aIdxAddr]; omega
    have i2 : aIdxAddr 1 (.slice (some ⟨H.next + 2, 0, none⟩) 3 3) (.int .i64 i) = some (.pointer (some ⟨H.next + 2, i, none⟩)) := by simp [aIdxAddr]; omega
    have l1 : aLdCell (.pointer (some ⟨H.next + 1, i, none⟩)) H4 = some (bstr (Lib.itoa (fs f c d i))) := by
      rw [aLdCell_ptr, hw, blkCell_cells]
      match i, hlt with
      | 0, _ => rfl
      | 1, _ => rfl
      | 2, _ => rfl
    have l2 : aLdCell (.pointer (some ⟨H.next + 2, i, none⟩)) H4 = some (.pointer (some ⟨H.next, i, none⟩)) := by
      rw [aLdCell_ptr, hp, blkCell_cells]
      match i, hlt with
      | 0, _ => rfl
      | 1, _ => rfl
      | 2, _ => rfl
    have hii := fs_i64 hf hc hd' i
    simp only [nth_zero, i1, l1, bnd_some']
    refine (c38 hii).use ?_
    unfold S25_53
    refine bnd_iff.2 ⟨.int .i64 (fs f c d i), rfl, bnd_iff.2 ⟨.nilIface, rfl, bnd_iff.2 ⟨.bool false, ?_, ?_⟩⟩⟩
    · rfl
    simp only [aGuardK_ff]
    refine (c21 ((hT.kept hk4).tb) _ hii.lo hii.hi).use ?_
    simp only [str_ne, bnd_some', decide_true, Bool.not_true, aPick_ff, aCond_false]
    unfold S25_52
    simp only [nth_zero, i2, l2, bnd_some', aNilCheck_ptr]
    rw [aSt_var ha (by simp [sofar]; omega) rfl rfl, bnd_some']
    simp only [aBin_add, bnd_some']
    rw [wrap64 (by omega) (by omega)]
    refine hag _ _ hlt ⟨by omega, by simp, ?_, ?_, ?_, hk4.upd (Nat.le_refl _) _⟩
    · rw [AHeap.at_upd_same, sofar_set f c d i hlt]
    · rw [AHeap.at_upd_ne _ _ (by omega)]; exact hw
    · rw [AHeap.at_upd_ne _ _ (by omega)]; exact hp
  · have hge : i = 3 := by have := of_decide_eq_false hge; omega
    subst hge
    have e3 : sofar f c d 3 = [.int .i64 f, .int .i64 c, .int .i64 d] := rfl
    rw [e3] at ha
    have hld : ∀ {H' : AHeap}, H'.at_ H.next = .cells [.int .i64 f, .int .i64 c, .int .i64 d] .var 27 → aLdAgg 3 (.pointer (some ⟨H.next, 0, none⟩)) H' = some (eLim f c d) := fun h => by rw [aLdAgg_ptr, h]; rfl
    rw [hld ha, bnd_some']
    have hst : aSt 3 (.pointer (some ⟨H.next, 0, none⟩)) (eLim f c d) H4 = some (H4.upd H.next (.cells [.int .i64 f, .int .i64 c, .int .i64 d] .var 27)) := by rw [aSt_ptr, ha]; rfl
    rw [hst, bnd_some', hld (AHeap.at_upd_same _ _ _), bnd_some']
    exact ⟨rfl, hk4.upd (Nat.le_refl _) _⟩
end Go.Proofs.YtnbnojkfhfkecaaDoor.A
