/- Contracts of functions that the statement reaches; each theorem carries its own conditions, the last theorem of the claim has none. -/
import Derived.Test.YtnbnojkfhfkecaaDoorEA
import Derived.Test.YtnbnojkfhfkecaaDoorCSa
import Derived.Lib.AtoiAllMem
/- Atoi of a numeral; the limits. -/
set_option linter.unusedVariables false
set_option linter.unusedSimpArgs false
set_option maxRecDepth 100000
namespace Go.Proofs.YtnbnojkfhfkecaaDoor.A
open Go Go.Abs

theorem dec_digit (u : Nat) : ∀ c ∈ Lib.decDigits u, 48 ≤ c.toNat ∧ c.toNat ≤ 57 := by
  induction u using Nat.strongRecOn with
  | ind u ih =>
    intro c hc
    rw [Lib.decDigits] at hc
    split at hc
    · simp only [List.mem_singleton] at hc
      subst hc
      rw [UInt8.toNat_ofNat']
      omega
    · rcases List.mem_append.1 hc with h | h
      · exact ih (u / 10) (by omega) c h
      · simp only [List.mem_singleton] at h
        subst h
        rw [UInt8.toNat_ofNat']
        omega
theorem dec_ne (u : Nat) : Lib.decDigits u ≠ [] := by
  rw [Lib.decDigits]
  split <;> simp
theorem parse_append : ∀ (l : List UInt8) (acc : Nat) (c : UInt8), Lib.parseUint10 acc (l ++ [c]) = match Lib.parseUint10 acc l with
    | .ok a => Lib.parseUint10 a [c]
    | r => r
  | [], acc, c => by simp [Lib.parseUint10]
  | x :: l, acc, c => by
    rw [List.cons_append, Lib.parseUint10, Lib.parseUint10]
    split
    · split
      · rfl
      · split
        · rfl
        · exact parse_append l _ c
    · rfl
theorem parse_dec (u : Nat) (hu : u < 18446744073709551616) : Lib.parseUint10 0 (Lib.decDigits u) = .ok u := by
  induction u using Nat.strongRecOn with
  | ind u ih =>
    have one : ∀ a d : Nat, a * 10 + d < 18446744073709551616 → d < 10 → Lib.parseUint10 a [UInt8.ofNat (48 + d)] = .ok (a * 10 + d) := by
      intro a d h1 h2
      have e : (UInt8.ofNat (48 + d)).toNat = 48 + d := by rw [UInt8.toNat_ofNat']; omega
      simp only [Lib.parseUint10, e]
      rw [if_pos (by omega), if_neg (by omega), if_neg (by omega)]
      congr 1
      omega
    rw [Lib.decDigits]
    split
    · have := one 0 u (by omega) (by omega)
      simpa using this
    · rw [parse_append, ih (u / 10) (by omega) (by omega)]
      have := one (u / 10) (u % 10) (by omega) (by omega)
      rw [show u / 10 * 10 + u % 10 = u by omega] at this
      exact this
theorem atoi_itoa {n : Int} (h : I64 n) : Lib.atoiAll (Lib.itoa n) = .ok n := by
  obtain ⟨h0, h1⟩ := h
  have mag : ∀ u, u < 18446744073709551616 → Lib.parseMag (Lib.decDigits u) = .ok u := by
    intro u hu
    unfold Lib.parseMag
    rw [if_neg (dec_ne u), parse_dec u hu]
  unfold Lib.itoa
  split
  · rename_i hneg
    unfold Lib.atoiAll
    have e45 : (45 : UInt8).toNat = 45 := rfl
    simp only [e45]
    rw [if_pos (.inr trivial), mag _ (by omega)]
    simp only
    rw [if_neg (by simp), if_neg (by simp; omega), if_pos trivial]
    congr 1
    omega
  · rename_i hpos
    have hd := dec_digit n.toNat
    have hm := mag n.toNat (by omega)
    cases hl : Lib.decDigits n.toNat with
    | nil => exact absurd hl (dec_ne _)
    | cons c r =>
      rw [hl] at hm hd
      have hc := hd c (by simp)
      unfold Lib.atoiAll
      simp only
      rw [if_neg (by omega), hm]
      simp only
      rw [if_neg (by omega), if_neg (by omega), if_neg (by omega)]
      congr 1
      omega
theorem itoa_no {n : Int} {c : UInt8} (hc : c.toNat < 45) : c ∉ Lib.itoa n := by
  unfold Lib.itoa
  intro h
  split at h
  · rcases List.mem_cons.1 h with h | h
    · subst h; exact absurd hc (by decide)
    · have := dec_digit _ c h; omega
  · have := dec_digit _ c h; omega

theorem c38 {H : AHeap} {n : Int} (h : I64 n) : ACalls Tryd.prog 38 [bstr (Lib.itoa n)] H fun v H' => v = .tuple #[.int .i64 n, .nilIface] ∧ H' = H := by
  refine ofGrowT rfl (fun φ => VRel.plains φ (vs := [.int .i64 n, .nilIface]) rfl) fun B φ w hr => ?_
  refine (Sh.strconv_Atoi_ok (ba (Lib.itoa n)) (by rw [ba_size]; have := itoa_le h; omega) n (by rw [ba_data]; exact atoi_itoa h) w).mono ?_
  rintro e w' ⟨rfl, hw⟩
  refine ⟨rfl, ?_⟩
  rcases hw with rfl | ⟨t, rfl⟩
  · exact RowKit.Below.refl _ _
  · exact Lib.bytesWorld_below _ _ _

/-- The fields, so far. -/
def sofar (f c d : Int) (i : Nat) : List Value := [.int .i64 (if 0 < i then f else 0), .int .i64 (if 1 < i then c else 0), .int .i64 (if 2 < i then d else 0)]
theorem sofar_set (f c d : Int) (i : Nat) (h : i < 3) : (sofar f c d i).set i (.int .i64 (fs f c d i)) = sofar f c d (i + 1) := by
  match i, h with
  | 0, _ => rfl
  | 1, _ => rfl
  | 2, _ => rfl

theorem c25 {H : AHeap} (hT : TbM H) {f c d : Int} (hf : I64 f) (hc : I64 c) (hd' : I64 d) :
    ACalls Tryd.prog 25 [bstr (Lib.itoa f ++ 32 :: (Lib.itoa c ++ 32 :: Lib.itoa d))] H fun v H' => v = .tuple #[eLim f c d, .bool true] ∧ H' = H := by
  have hvin : VIn (fun b => b < H.next) (.tuple #[eLim f c d, .bool true]) := .tuple fun i u hu => by
    match i, hu with
    | 0, hu =>
      simp at hu; subst hu
      refine .agg fun j x hx => ?_
      match j, hx with
      | 0, hx => simp at hx; subst hx; exact .plain rfl
      | 1, hx => simp at hx; subst hx; exact .plain rfl
      | 2, hx => simp at hx; subst hx; exact .plain rfl
      | j + 3, hx => simp at hx
    | 1, hu => simp at hu; subst hu; exact .plain rfl
    | i + 2, hu => simp at hu
  refine ACalls.eqT (S25_calls ?_) hvin
  unfold S25
  rw [aAlloc_eq]
  have h1 := itoa_le hf
  have h2 := itoa_le hc
  have h3 := itoa_le hd'
  have h8 := hT.tb.next
  have hk1 : Keep H.next H (H.alloc (.cells [.int .i64 0, .int .i64 0, .int .i64 0] .var 27)) := (Keep.refl _ _).alloc (Nat.le_refl _) _
  have hat1 : (H.alloc (.cells [.int .i64 0, .int .i64 0, .int .i64 0] .var 27)).at_ H.next = .cells (sofar f c d 0) .var 27 := AHeap.at_alloc_new _ _
  have hn1 : (H.alloc (.cells [.int .i64 0, .int .i64 0, .int .i64 0] .var 27)).next = H.next + 1 := rfl
  generalize H.alloc (.cells [.int .i64 0, .int .i64 0, .int .i64 0] .var 27) = H1 at hk1 hat1 hn1
  refine (c37 (hT.kept hk1) (itoa_no (by decide)) (itoa_no (by decide)) (itoa_no (by decide)) (by omega)).use2 ?_
  have hk2 := hk1.alloc (by omega) (.cells [bstr (Lib.itoa f), bstr (Lib.itoa c), bstr (Lib.itoa d)] .read 9)
  have hatw : (H1.alloc (.cells [bstr (Lib.itoa f), bstr (Lib.itoa c), bstr (Lib.itoa d)] .read 9)).at_ (H.next + 1) = .cells [bstr (Lib.itoa f), bstr (Lib.itoa c), bstr (Lib.itoa d)] .read 9 := by
    rw [← hn1]; exact AHeap.at_alloc_new _ _
  have hat2 : (H1.alloc (.cells [bstr (Lib.itoa f), bstr (Lib.itoa c), bstr (Lib.itoa d)] .read 9)).at_ H.next = .cells (sofar f c d 0) .var 27 := by
    rw [AHeap.at_alloc_ne _ _ (by omega)]; exact hat1
  have hn2 : (H1.alloc (.cells [bstr (Lib.itoa f), bstr (Lib.itoa c), bstr (Lib.itoa d)] .read 9)).next = H.next + 2 := by simp [hn1]
  rw [hn1]
  generalize H1.alloc (.cells [bstr (Lib.itoa f), bstr (Lib.itoa c), bstr (Lib.itoa d)] .read 9) = H2 at hk2 hatw hat2 hn2
  refine (c18 H.next).use2 ?_
  have hk3 := hk2.alloc (by omega) (.cells [.pointer (some ⟨H.next, 0, none⟩), .pointer (some ⟨H.next, 1, none⟩), .pointer (some ⟨H.next, 2, none⟩)] (.row 1) 52)
  have hatp : (H2.alloc (.cells [.pointer (some ⟨H.next, 0, none⟩), .pointer (some ⟨H.next, 1, none⟩), .pointer (some ⟨H.next, 2, none⟩)] (.row 1) 52)).at_ (H.next + 2) = .cells [.pointer (some ⟨H.next, 0, none⟩), .pointer (some ⟨H.next, 1, none⟩), .pointer (some ⟨H.next, 2, none⟩)] (.row 1) 52 := by
    rw [← hn2]; exact AHeap.at_alloc_new _ _
  have hatw3 : (H2.alloc (.cells [.pointer (some ⟨H.next, 0, none⟩), .pointer (some ⟨H.next, 1, none⟩), .pointer (some ⟨H.next, 2, none⟩)] (.row 1) 52)).at_ (H.next + 1) = .cells [bstr (Lib.itoa f), bstr (Lib.itoa c), bstr (Lib.itoa d)] .read 9 := by
    rw [AHeap.at_alloc_ne _ _ (by omega)]; exact hatw
  have hat3 : (H2.alloc (.cells [.pointer (some ⟨H.next, 0, none⟩), .pointer (some ⟨H.next, 1, none⟩), .pointer (some ⟨H.next, 2, none⟩)] (.row 1) 52)).at_ H.next = .cells (sofar f c d 0) .var 27 := by
    rw [AHeap.at_alloc_ne _ _ (by omega)]; exact hat2
  have hn3 : (H2.alloc (.cells [.pointer (some ⟨H.next, 0, none⟩), .pointer (some ⟨H.next, 1, none⟩), .pointer (some ⟨H.next, 2, none⟩)] (.row 1) 52)).next = H.next + 3 := by simp [hn2]
  rw [hn2]
  generalize H2.alloc (.cells [.pointer (some ⟨H.next, 0, none⟩), .pointer (some ⟨H.next, 1, none⟩), .pointer (some ⟨H.next, 2, none⟩)] (.row 1) 52) = H3 at hk3 hatp hatw3 hat3 hn3
  unfold S25_58
  simp only [aLenSl_slice, bnd_some', aBin_neq]
  simp only [decide_true, Bool.not_true, aCond_false]
  refine aLoop_vs 3 (fun i vs H4 => i ≤ 3 ∧ vs = [.int .i64 i] ∧ H4.at_ H.next = .cells (sofar f c d i) .var 27 ∧ H4.at_ (H.next + 1) = .cells [bstr (Lib.itoa f), bstr (Lib.itoa c), bstr (Lib.itoa d)] .read 9 ∧
    H4.at_ (H.next + 2) = .cells [.pointer (some ⟨H.next, 0, none⟩), .pointer (some ⟨H.next, 1, none⟩), .pointer (some ⟨H.next, 2, none⟩)] (.row 1) 52 ∧ Keep H.next H H4) ⟨by decide, rfl, hat3, hatw3, hatp, hk3⟩ ?_
  rintro i vs H4 again hi ⟨_, rfl, ha, hw, hp, hk4⟩ hag
  unfold S25_57
  simp only [nth_zero, aBin_lss, bnd_some']
  refine aCond_of (fun hlt => ?_) (fun hge => ?_)
  · have hlt : i < 3 := by have := of_decide_eq_true hlt; omega
    have i1 : aIdxAddr 1 (.slice (some ⟨H.next + 1, 0, none⟩) 3 3) (.int .i64 i) = some (.pointer (some ⟨H.next + 1, i, none⟩)) := by simp [aIdxAddr]; omega
    have i2 : aIdxAddr 1 (.slice (some ⟨H.next + 2, 0, none⟩) 3 3) (.int .i64 i) = some (.pointer (some ⟨H.next + 2, i, none⟩)) := by simp [aIdxAddr]; omega
    have l1 : aLdCell (.pointer (some ⟨H.next + 1, i, none⟩)) H4 = some (bstr (Lib.itoa (fs f c d i))) := by
      rw [aLdCell_ptr, hw, blkCell_cells]
      match i, hlt with
      | 0, _ => rfl
      | 1, _ => rfl
      | 2, _ => rfl
    have l2 : aLdCell (.pointer (some ⟨H.next + 2, i, none⟩)) H4 = some (.pointer (some ⟨H.next, i, none⟩)) := by
      rw [aLdCell_ptr, hp, blkCell_cells]
      match i, hlt with
      | 0, _ => rfl
      | 1, _ => rfl
      | 2, _ => rfl
    have hii := fs_i64 hf hc hd' i
    simp only [nth_zero, i1, l1, bnd_some']
    refine (c38 hii).use ?_
    unfold S25_53
    refine bnd_iff.2 ⟨.int .i64 (fs f c d i), rfl, bnd_iff.2 ⟨.nilIface, rfl, bnd_iff.2 ⟨.bool false, ?_, ?_⟩⟩⟩
    · rfl
    simp only [aGuardK_ff]
    refine (c21 ((hT.kept hk4).tb) _ hii.lo hii.hi).use ?_
    simp only [str_ne, bnd_some', decide_true, Bool.not_true, aPick_ff, aCond_false]
    unfold S25_52
    simp only [nth_zero, i2, l2, bnd_some', aNilCheck_ptr]
    rw [aSt_var ha (by simp [sofar]; omega) rfl rfl, bnd_some']
    simp only [aBin_add, bnd_some']
    rw [wrap64 (by omega) (by omega)]
    refine hag _ _ hlt ⟨by omega, by simp, ?_, ?_, ?_, hk4.upd (Nat.le_refl _) _⟩
    · rw [AHeap.at_upd_same, sofar_set f c d i hlt]
    · rw [AHeap.at_upd_ne _ _ (by omega)]; exact hw
    · rw [AHeap.at_upd_ne _ _ (by omega)]; exact hp
  · have hge : i = 3 := by have := of_decide_eq_false hge; omega
    subst hge
    have e3 : sofar f c d 3 = [.int .i64 f, .int .i64 c, .int .i64 d] := rfl
    rw [e3] at ha
    have hld : ∀ {H' : AHeap}, H'.at_ H.next = .cells [.int .i64 f, .int .i64 c, .int .i64 d] .var 27 → aLdAgg 3 (.pointer (some ⟨H.next, 0, none⟩)) H' = some (eLim f c d) := fun h => by rw [aLdAgg_ptr, h]; rfl
    rw [hld ha, bnd_some']
    have hst : aSt 3 (.pointer (some ⟨H.next, 0, none⟩)) (eLim f c d) H4 = some (H4.upd H.next (.cells [.int .i64 f, .int .i64 c, .int .i64 d] .var 27)) := by rw [aSt_ptr, ha]; rfl
    rw [hst, bnd_some', hld (AHeap.at_upd_same _ _ _), bnd_some']
    exact ⟨rfl, hk4.upd (Nat.le_refl _) _⟩
end Go.Proofs.YtnbnojkfhfkecaaDoor.A

/- Get, at what Put wrote; ScriptBack. -/
set_option linter.unusedVariables false
set_option linter.unusedSimpArgs false
set_option maxRecDepth 100000
namespace Go.Proofs.YtnbnojkfhfkecaaDoor.A
open Go Go.Abs

def tl (L : List (List UInt8)) : List UInt8 := L.flatMap fun b => hexL b ++ [10]
theorem tail_tl (ps : List Chunk) : tail ps = tl (ps.map (·.2)) := by simp [tail, tl, List.flatMap_map]
theorem hd3 (f c d : Int) : hd f c d 3 = Lib.itoa f ++ 32 :: (Lib.itoa c ++ 32 :: Lib.itoa d) := by simp [hd, fs]
theorem hexd_no : ∀ n : Nat, n < 16 → hexd n ≠ 10
  | 0, _ => by decide | 1, _ => by decide | 2, _ => by decide | 3, _ => by decide | 4, _ => by decide | 5, _ => by decide | 6, _ => by decide | 7, _ => by decide
  | 8, _ => by decide | 9, _ => by decide | 10, _ => by decide | 11, _ => by decide | 12, _ => by decide | 13, _ => by decide | 14, _ => by decide | 15, _ => by decide
  | n + 16, h => absurd h (by omega)
theorem hexL_no (bs : List UInt8) : 10 ∉ hexL bs := by
  intro h
  rcases List.mem_cons.1 h with h | h
  · exact absurd h (by decide)
  · obtain ⟨x, _, hx⟩ := List.mem_flatMap.1 h
    have := x.toNat_lt
    simp only [hex2, List.mem_cons, List.not_mem_nil, or_false] at hx
    rcases hx with hx | hx
    · exact hexd_no _ (by omega) hx.symm
    · exact hexd_no _ (by omega) hx.symm
theorem line_no (f c d : Int) : 10 ∉ Lib.itoa f ++ 32 :: (Lib.itoa c ++ 32 :: Lib.itoa d) := by
  intro h
  have hn : ∀ n : Int, 10 ∉ Lib.itoa n := fun n => itoa_no (by decide)
  simp only [List.mem_append, List.mem_cons] at h
  rcases h with h | h | h | h | h
  · exact hn f h
  · exact absurd h (by decide)
  · exact hn c h
  · exact absurd h (by decide)
  · exact hn d h
theorem tl_drop {L : List (List UInt8)} {i : Nat} (h : i < L.length) : tl (L.drop i) = hexL L[i] ++ 10 :: tl (L.drop (i + 1)) := by
  rw [List.drop_eq_getElem_cons h]
  unfold tl
  rw [List.flatMap_cons, List.append_assoc]
  rfl
theorem tl_length {L : List (List UInt8)} (h : ∀ b ∈ L, b.length ≤ 65536) : (tl L).length ≤ 131074 * L.length := by
  induction L with
  | nil => simp [tl]
  | cons p ps ih =>
    have h1 := h p (by simp)
    have h2 := ih fun q hq => h q (by simp [hq])
    have h3 := hexL_length p
    simp only [tl, List.flatMap_cons, List.length_append, List.length_cons, List.length_nil] at h2 ⊢
    omega

set_option maxHeartbeats 1000000 in
theorem c9 {H : AHeap} (hT : TbM H) {f c d : Int} (hf : I64 f) (hc : I64 c) (hd' : I64 d) {L : List (List UInt8)} (hL : L.length ≤ 256) (hl : ∀ b ∈ L, b.length ≤ 65536) :
    ACalls Tryd.prog 9 [bstr (hd f c d 3 ++ [10] ++ tl L)] H fun v H' => ∃ B qs, v = .tuple #[eLim f c d, .slice B qs.length qs.length, .int .i64 0, .int .i64 0] ∧ qs.map (·.2) = L ∧ Chs H'.next H' B qs ∧ Keep H.next H H' := by
  refine S9_calls ?_
  unfold S9
  rw [aAlloc_eq]
  have h1 := itoa_le hf
  have h2 := itoa_le hc
  have h3 := itoa_le hd'
  have h8 := hT.tb.next
  have htl := tl_length hl
  have hk1 : Keep H.next H (H.alloc (.cells [.int .i64 0, .int .i64 0, .int .i64 0] .var 27)) := (Keep.refl _ _).alloc (Nat.le_refl _) _
  have hat1 : (H.alloc (.cells [.int .i64 0, .int .i64 0, .int .i64 0] .var 27)).at_ H.next = .cells [.int .i64 0, .int .i64 0, .int .i64 0] .var 27 := AHeap.at_alloc_new _ _
  have hn1 : (H.alloc (.cells [.int .i64 0, .int .i64 0, .int .i64 0] .var 27)).next = H.next + 1 := rfl
  generalize H.alloc (.cells [.int .i64 0, .int .i64 0, .int .i64 0] .var 27) = H1 at hk1 hat1 hn1
  have e0 : hd f c d 3 ++ [10] ++ tl L = (Lib.itoa f ++ 32 :: (Lib.itoa c ++ 32 :: Lib.itoa d)) ++ 10 :: tl L := by rw [hd3]; simp
  rw [e0, show (.string ⟨#[10]⟩ : Value) = bstr [10] from rfl]
  refine (c24 (hT.kept hk1) (line_no f c d) (by simp only [List.length_append, List.length_cons]; omega)).use ?_
  refine bnd_iff.2 ⟨bstr (Lib.itoa f ++ 32 :: (Lib.itoa c ++ 32 :: Lib.itoa d)), rfl, bnd_iff.2 ⟨bstr (tl L), rfl, bnd_iff.2 ⟨.bool true, rfl, ?_⟩⟩⟩
  refine (c25 (hT.kept hk1) hf hc hd').use ?_
  unfold S9_85
  refine bnd_iff.2 ⟨eLim f c d, rfl, bnd_iff.2 ⟨.bool true, rfl, ?_⟩⟩
  have hst : aSt 3 (.pointer (some ⟨H.next, 0, none⟩)) (eLim f c d) H1 = some (H1.upd H.next (.cells [.int .i64 f, .int .i64 c, .int .i64 d] .var 27)) := by rw [aSt_ptr, hat1]; rfl
  rw [hst, bnd_some']
  have hk2 : Keep H.next H (H1.upd H.next (.cells [.int .i64 f, .int .i64 c, .int .i64 d] .var 27)) := hk1.upd (Nat.le_refl _) _
  have hat2 : (H1.upd H.next (.cells [.int .i64 f, .int .i64 c, .int .i64 d] .var 27)).at_ H.next = .cells [.int .i64 f, .int .i64 c, .int .i64 d] .var 27 := AHeap.at_upd_same _ _ _
  have hn2 : (H1.upd H.next (.cells [.int .i64 f, .int .i64 c, .int .i64 d] .var 27)).next = H.next + 1 := hn1
  generalize H1.upd H.next (.cells [.int .i64 f, .int .i64 c, .int .i64 d] .var 27) = H2 at hk2 hat2 hn2
  simp only [aUn_not, bnd_some', Bool.not_true, aGuardK_ff, aPick_ff, aCond_false]
  refine aLoop_vs L.length (fun i vs H3 => i ≤ L.length ∧ ∃ B qs, vs = [.slice B qs.length qs.length, .int .i64 (2 + i : Nat), bstr (tl (L.drop i))] ∧ qs.map (·.2) = L.take i ∧
    Ow 1 eC 22 (H.next + 1) H3 B qs ∧ (∀ q ∈ qs, Ow 1 eU 5 (H.next + 1) H3 q.1 q.2) ∧ H3.at_ H.next = .cells [.int .i64 f, .int .i64 c, .int .i64 d] .var 27 ∧ Keep H.next H H3 ∧ H.next + 1 ≤ H3.next)
    ⟨Nat.zero_le _, none, [], rfl, by simp, Ow.nil _ _ _ _ _, by simp, hat2, hk2, by omega⟩ ?_
  rintro i vs H3 again hi ⟨_, B, qs, rfl, hq, hO, hI, ha, hk3, hn3⟩ hag
  have hql : qs.length = i := by have := congrArg List.length hq; simpa [Nat.min_eq_left hi] using this
  unfold S9_84
  simp only [nth_2]
  rw [show (.string ⟨#[]⟩ : Value) = bstr [] from rfl, str_ne, bnd_some']
  by_cases hlt : i < L.length
  · have hne : ¬ tl (L.drop i) = [] := by rw [tl_drop hlt]; simp
    rw [decide_eq_false hne, Bool.not_false, aCond_true]
    unfold S9_80
    simp only [nth_2]
    have hbl := hl _ (List.getElem_mem hlt)
    have htl2 := tl_length (L := L.drop (i + 1)) fun b hb => hl b (List.mem_of_mem_drop hb)
    have hdl : (L.drop (i + 1)).length ≤ 256 := by rw [List.length_drop]; omega
    have hxl := hexL_length L[i]
    rw [tl_drop hlt, show (.string ⟨#[10]⟩ : Value) = bstr [10] from rfl]
    refine (c24 (hT.kept hk3) (hexL_no _) (by omega)).use ?_
    refine bnd_iff.2 ⟨bstr (hexL L[i]), rfl, bnd_iff.2 ⟨bstr (tl (L.drop (i + 1))), rfl, bnd_iff.2 ⟨.bool true, rfl, ?_⟩⟩⟩
    refine (c26 L[i] (by omega)).mono ?_
    rintro v H4 ⟨C, rfl, hC, hk4⟩
    unfold S9_79
    refine bnd_iff.2 ⟨.slice C (L[i]).length (L[i]).length, rfl, bnd_iff.2 ⟨.bool true, rfl, ?_⟩⟩
    simp only [aUn_not, bnd_some', Bool.not_true, aGuardK_ff, aPick_ff, aCond_false]
    unfold S9_78
    simp only [aLenSl_slice, bnd_some', aBin_gtr]
    rw [show decide ((65536 : Int) < ((L[i]).length : Int)) = false from decide_eq_false (by omega)]
    simp only [aGuardK_ff, nth_zero, aLenSl_slice, bnd_some', aBin_geq]
    rw [show decide ((256 : Int) ≤ (qs.length : Int)) = false from decide_eq_false (by omega)]
    simp only [aPick_ff, bnd_some', aCond_false]
    have hn4 := hk4.next
    have hO4 := hO.kept hk4
    have hI4 : ∀ q ∈ qs ++ [((C : Option Addr), L[i])], Ow 1 eU 5 (H.next + 1) H4 q.1 q.2 := by
      intro q hq'
      rcases List.mem_append.1 hq' with h | h
      · exact (hI q h).kept hk4
      · simp at h; subst h; exact hC.lower (by omega)
    have hk5 : Keep H.next H H4 := hk3.trans (hk4.lower (by omega))
    have ha4 : H4.at_ H.next = .cells [.int .i64 f, .int .i64 c, .int .i64 d] .var 27 := (hk4.at_ _ (by omega)).trans ha
    rw [aBuildSlice_eq]
    refine bnd_iff.2 ⟨[.slice C (L[i]).length (L[i]).length], rfl, ⟨rfl, rfl⟩, ?_⟩
    have hN : Ow 1 eC 22 H4.next (H4.alloc (.cells [.slice C (L[i]).length (L[i]).length] (.row 1) 22)) (some ⟨H4.next, 0, none⟩) [((C : Option Addr), L[i])] := Ow.new H4 _ (fun _ _ => rfl) rfl
    have hO6 := hO4.alloc (.cells [.slice C (L[i]).length (L[i]).length] (.row 1) 22)
    have hI6 : ∀ q ∈ qs ++ [((C : Option Addr), L[i])], Ow 1 eU 5 (H.next + 1) (H4.alloc (.cells [.slice C (L[i]).length (L[i]).length] (.row 1) 22)) q.1 q.2 := fun q hq' => (hI4 q hq').alloc _
    have hk6 := hk5.alloc (by omega) (.cells [.slice C (L[i]).length (L[i]).length] (.row 1) 22)
    have ha6 : (H4.alloc (.cells [.slice C (L[i]).length (L[i]).length] (.row 1) 22)).at_ H.next = .cells [.int .i64 f, .int .i64 c, .int .i64 d] .var 27 := by rw [AHeap.at_alloc_ne _ _ (by omega)]; exact ha4
    have hn6 : (H4.alloc (.cells [.slice C (L[i]).length (L[i]).length] (.row 1) 22)).next = H4.next + 1 := rfl
    generalize H4.alloc (.cells [.slice C (L[i]).length (L[i]).length] (.row 1) 22) = H6 at hN hO6 hI6 hk6 hn6 ha6
    refine Ow.append (bytes := 24) (c' := 1) (lo := H.next + 1) hO6 hN.rd (by omega) (by simp [maxLen]; omega) (by simp; omega) ?_
    intro H7 hO7 hn7 hat7 hk7
    simp only [nth_1, aBin_add, bnd_some']
    rw [wrap64 (by omega) (by omega)]
    refine hag _ _ hlt ⟨by omega, _, _, ?_, ?_, hO7, ?_, ?_, hk6.trans (hk7.lower (by omega)), by omega⟩
    · congr 3
    · rw [← List.take_append_getElem hlt, List.map_append, hq]
      rfl
    · intro q hq'
      refine Ow.keepT (hI6 q hq') (by omega) fun b cs g1 g2 g3 => hat7 b g2 fun o s hB => ?_
      rcases hO6.2 with ⟨h4, _⟩ | ⟨b', cs', h4, _, _, h7, _⟩
      · rw [h4] at hB; cases hB
      · rw [h4] at hB
        cases hB
        rw [g3] at h7
        injection h7 with _ _ h8
        exact absurd h8 (by decide)
    · exact (hk7.at_ _ (by omega)).trans ha6
  · have hge : i = L.length := by omega
    subst hge
    have hnil : tl (L.drop L.length) = [] := by rw [List.drop_length]; rfl
    rw [decide_eq_true hnil, Bool.not_true, aCond_false]
    have hld : ∀ {H' : AHeap}, H'.at_ H.next = .cells [.int .i64 f, .int .i64 c, .int .i64 d] .var 27 → aLdAgg 3 (.pointer (some ⟨H.next, 0, none⟩)) H' = some (eLim f c d) := fun h => by rw [aLdAgg_ptr, h]; rfl
    rw [hld ha, bnd_some']
    have hst : aSt 3 (.pointer (some ⟨H.next, 0, none⟩)) (eLim f c d) H3 = some (H3.upd H.next (.cells [.int .i64 f, .int .i64 c, .int .i64 d] .var 27)) := by rw [aSt_ptr, ha]; rfl
    rw [hst, bnd_some', hld (AHeap.at_upd_same _ _ _), bnd_some', nth_zero]
    rw [List.take_length] at hq
    have keepU : ∀ {A : Option Addr} {xs : List UInt8}, Ow 1 eU 5 (H.next + 1) H3 A xs → Ow 1 eU 5 (H.next + 1) (H3.upd H.next (.cells [.int .i64 f, .int .i64 c, .int .i64 d] .var 27)) A xs := fun h =>
      h.keep (by simp) fun b g1 g2 => AHeap.at_upd_ne _ _ (by omega)
    refine ⟨B, qs, rfl, hq, ⟨?_, fun q hq' => (keepU (hI q hq')).rd⟩, hk3.upd (Nat.le_refl _) _⟩
    exact (hO.keep (H' := H3.upd H.next (.cells [.int .i64 f, .int .i64 c, .int .i64 d] .var 27)) (by simp) fun b g1 g2 => AHeap.at_upd_ne _ _ (by omega)).rd
end Go.Proofs.YtnbnojkfhfkecaaDoor.A

/- ScriptBack. -/
set_option linter.unusedVariables false
set_option linter.unusedSimpArgs false
set_option maxRecDepth 100000
namespace Go.Proofs.YtnbnojkfhfkecaaDoor.A
open Go Go.Abs

theorem bytesOfBy {lo : Nat} {H : AHeap} {A : Option Addr} {bs : List UInt8} (h : By lo H A bs) (c : Nat) : aBytesStr (.slice A bs.length c) H = some (bstr bs) := by
  unfold aBytesStr
  rw [h.row]
  simp only [Option.bind_some]
  rw [flat_eU, bytesOf_u8c]
  rfl

set_option maxHeartbeats 1000000 in
theorem c7 {H : AHeap} {A : Option Addr} {ps : List Chunk} {f c d : Int} (hT : TbM H) (hf : I64 f) (hc : I64 c) (hd' : I64 d) (hR : Chs H.next H A ps) (hn : ps.length ≤ 9223372036854775807) :
    ACalls Tryd.prog 7 [eLim f c d, .slice A ps.length ps.length] H fun v H' => v = .bool true ∧ H' = H := by
  refine ACalls.eq (S7_calls ?_) rfl
  unfold S7
  rw [aBox_eq]
  refine ⟨rfl, ?_⟩
  have e0 : vcells (eLim f c d) = [.int .i64 f, .int .i64 c, .int .i64 d] := rfl
  rw [e0]
  have h8 := hT.tb.next
  have hat : (H.alloc (.cells [.int .i64 f, .int .i64 c, .int .i64 d] .var 27)).at_ H.next = .cells [.int .i64 f, .int .i64 c, .int .i64 d] .var 27 := AHeap.at_alloc_new _ _
  have hk : Keep H.next H (H.alloc (.cells [.int .i64 f, .int .i64 c, .int .i64 d] .var 27)) := (Keep.refl _ _).alloc (Nat.le_refl _) _
  have hnx : (H.alloc (.cells [.int .i64 f, .int .i64 c, .int .i64 d] .var 27)).next = H.next + 1 := rfl
  generalize H.alloc (.cells [.int .i64 f, .int .i64 c, .int .i64 d] .var 27) = H1 at hat hk hnx
  have hTk : ∀ {H' : AHeap}, Keep H.next H H' → TbM H' := fun {H'} k => hT.kept k
  have hR1 : Chs H1.next H1 A ps := (hR.keep hk.at_).up (by omega)
  refine (c11 (hTk hk).tb).use ?_
  unfold S7_133
  simp only [aUn_not, bnd_some', Bool.not_true, aGuardK_ff]
  refine (c12 hR1 hn).mono ?_
  rintro v H2 ⟨⟨b, rfl, hb⟩, rfl⟩
  simp only [aUn_not, bnd_some', aPick_ff]
  have ans : ∀ (K : Value → AHeap → Prop), K (.bool true) H2 → ACalls Tryd.prog 11 [] H2 K := fun K h => (c11 (hTk hk).tb).use h
  cases b with
  | false =>
    simp only [Bool.not_false, aGuardK_tf, aPick_tt, bnd_some', aCond_true]
    exact ans _ ⟨rfl, hk⟩
  | true =>
    obtain ⟨hn3, hl3⟩ := hb rfl
    simp only [Bool.not_true, aGuardK_ff, aLenSl_slice, bnd_some', aBin_gtr, aPick_ff]
    refine aCond_of (fun hbig => ans _ ⟨rfl, hk⟩) (fun hsm => ?_)
    have hsm : ps.length ≤ 256 := by have := of_decide_eq_false hsm; omega
    unfold S7_132
    have hagg : ∀ {H' : AHeap}, Keep (H.next + 1) H2 H' → aLdAgg 3 (.pointer (some ⟨H.next, 0, none⟩)) H' = some (eLim f c d) := by
      intro H' k
      rw [aLdAgg_ptr, k.at_ _ (by omega), hat]
      rfl
    rw [hagg (Keep.refl _ _), bnd_some']
    refine (c14 hR1 (by omega) fun p hp => by have := hl3 p hp; omega).mono ?_
    rintro v H3 ⟨B, qs, rfl, hq, hQ, hk3⟩
    rw [hnx] at hk3
    rw [hagg hk3, bnd_some']
    refine ⟨rfl, ?_⟩
    have hql : qs.length = ps.length := by have := congrArg List.length hq; simpa using this
    have hk3' : Keep H.next H H3 := hk.trans (hk3.lower (by omega))
    refine (c8 (hTk hk3').tb hf hc hd' hQ (by omega) fun q hq' => ?_).use ?_
    · have : q.2 ∈ ps.map (·.2) := by rw [← hq]; exact List.mem_map_of_mem hq'
      obtain ⟨p, hp, he⟩ := List.mem_map.1 this
      have := hl3 p hp
      rw [← he]
      omega
    refine bnd_iff.2 ⟨bstr (putL f c d qs), rfl, bnd_iff.2 ⟨.int .i64 0, rfl, ?_⟩⟩
    have e : putL f c d qs = hd f c d 3 ++ [10] ++ tl (ps.map (·.2)) := by rw [putL, tail_tl, hq]
    rw [e]
    refine (c9 (hTk hk3') hf hc hd' (by simpa using hsm) fun b hb => ?_).mono ?_
    · obtain ⟨p, hp, he⟩ := List.mem_map.1 hb
      have := hl3 p hp
      rw [← he]
      omega
    rintro v H4 ⟨C, rs, rfl, hr, hC, hk4⟩
    have hrl : rs.length = ps.length := by have := congrArg List.length hr; simpa using this
    have hn3' := hk3.next
    have hk4' : Keep H.next H H4 := hk3'.trans (hk4.lower (by omega))
    unfold S7_130
    refine bnd_iff.2 ⟨eLim f c d, rfl, bnd_iff.2 ⟨.slice C rs.length rs.length, rfl, bnd_iff.2 ⟨.int .i64 0, rfl, bnd_iff.2 ⟨.int .i64 0, rfl, ?_⟩⟩⟩⟩
    rw [aAlloc_eq]
    have hn4 := hk4.next
    have hst : aSt 3 (.pointer (some ⟨H4.next, 0, none⟩)) (eLim f c d) (H4.alloc (.cells [.int .i64 0, .int .i64 0, .int .i64 0] .var 27)) = some ((H4.alloc (.cells [.int .i64 0, .int .i64 0, .int .i64 0] .var 27)).upd H4.next (.cells [.int .i64 f, .int .i64 c, .int .i64 d] .var 27)) := by
      rw [aSt_ptr, AHeap.at_alloc_new]; rfl
    rw [hst, bnd_some']
    have hk5 : Keep H4.next H4 ((H4.alloc (.cells [.int .i64 0, .int .i64 0, .int .i64 0] .var 27)).upd H4.next (.cells [.int .i64 f, .int .i64 c, .int .i64 d] .var 27)) := ((Keep.refl _ _).alloc (Nat.le_refl _) _).upd (Nat.le_refl _) _
    have ha5 : aLdAgg 3 (.pointer (some ⟨H4.next, 0, none⟩)) ((H4.alloc (.cells [.int .i64 0, .int .i64 0, .int .i64 0] .var 27)).upd H4.next (.cells [.int .i64 f, .int .i64 c, .int .i64 d] .var 27)) = some (eLim f c d) := by
      rw [aLdAgg_ptr, AHeap.at_upd_same]; rfl
    generalize (H4.alloc (.cells [.int .i64 0, .int .i64 0, .int .i64 0] .var 27)).upd H4.next (.cells [.int .i64 f, .int .i64 c, .int .i64 d] .var 27) = H5 at hk5 ha5
    have hag2 : aLdAgg 3 (.pointer (some ⟨H.next, 0, none⟩)) H5 = some (eLim f c d) := hagg (hk3.trans ((hk4.lower (by omega)).trans (hk5.lower (by omega))))
    have hcmp : aBin .neq (.cells [.int, .int, .int]) (eLim f c d) (eLim f c d) = some (.bool false) := by
      simp [aBin, aEqK, sameCells, sameCell]
    simp only [aBin_neq, bnd_some', decide_true, Bool.not_true, aGuardK_ff, aPick_ff, ha5, hag2, hcmp, aLenSl_slice]
    rw [show decide ((rs.length : Int) = (ps.length : Int)) = true from decide_eq_true (by omega)]
    simp only [Bool.not_true, aCond_false]
    have hk5' : Keep H.next H H5 := hk4'.trans (hk5.lower (by omega))
    have hC5 : Chs H4.next H5 C rs := hC.keep hk5.at_
    have hR5 : Chs H2.next H5 A ps := hR1.keep fun b hb => (hk5.at_ b (by omega)).trans ((hk4.at_ b (by omega)).trans (hk3.at_ b (by omega)))
    refine aLoop_vs rs.length (fun i vs H6 => vs = [.int .i64 i] ∧ H6 = H5) ⟨rfl, rfl⟩ ?_
    rintro i vs H6 again hi ⟨rfl, rfl⟩ hag
    unfold S7_129
    simp only [aLenSl_slice, nth_zero, aBin_lss, bnd_some']
    refine aCond_of (fun hlt => ?_) (fun hge => ⟨trivial, hk5'⟩)
    have hlt : i < rs.length := by have := of_decide_eq_true hlt; omega
    have hltp : i < ps.length := by omega
    have i1 := hC5.rd.idx (k := .i64) (c := rs.length) (j := (i : Int)) (by omega) (by omega)
    have l1 := Rd.ld hC5.rd hlt
    have i2 := hR5.rd.idx (k := .i64) (c := ps.length) (j := (i : Int)) (by omega) (by omega)
    have l2 := Rd.ld hR5.rd hltp
    have heq : (rs[i]).2 = (ps[i]).2 := by
      have g1 : (rs.map (·.2))[i]? = some (rs[i]).2 := by rw [List.getElem?_map, List.getElem?_eq_getElem hlt]; rfl
      have g2 : (ps.map (·.2))[i]? = some (ps[i]).2 := by rw [List.getElem?_map, List.getElem?_eq_getElem hltp]; rfl
      rw [hr, g2] at g1
      exact (Option.some.inj g1).symm
    unfold S7_128
    simp only [nth_zero, i1, l1, i2, l2, bnd_some', Int.toNat_natCast]
    rw [bytesOfBy (hC5.el _ (List.getElem_mem hlt)), bnd_some']
    rw [bytesOfBy (hR5.el _ (List.getElem_mem hltp)), bnd_some', heq, str_ne]
    simp only [decide_true, Bool.not_true, bnd_some', aCond_false, aBin_add]
    rw [wrap64 (by omega) (by omega)]
    exact hag _ _ hlt ⟨by simp, rfl⟩
end Go.Proofs.YtnbnojkfhfkecaaDoor.A
