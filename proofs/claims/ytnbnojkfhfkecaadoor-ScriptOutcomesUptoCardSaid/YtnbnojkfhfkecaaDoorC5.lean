/- Contracts of functions that the statement reaches; each theorem carries its own conditions, the last theorem of the claim has none. -/
import Derived.Test.YtnbnojkfhfkecaaDoorC4
/- The two spellings of bytes. -/
set_option linter.unusedVariables false
set_option maxRecDepth 100000
namespace Go.Proofs.YtnbnojkfhfkecaaDoor.A
open Go Go.Abs

abbrev eU (b : UInt8) : List Value := [Value.int .u8 b.toNat]
/-- Bytes that are read. -/
abbrev By (lo : Nat) (H : AHeap) (A : Option Addr) (bs : List UInt8) : Prop := Rd 1 eU lo H A bs
def hex2 (x : UInt8) : List UInt8 := [hexd (x.toNat / 16), hexd (x.toNat % 16)]
/-- x and two letters a byte. -/
def hexL (bs : List UInt8) : List UInt8 := 120 :: bs.flatMap hex2
theorem hexL_length (bs : List UInt8) : (hexL bs).length = 1 + 2 * bs.length := by
  unfold hexL
  rw [List.length_cons, flatMap_length (n := 2) (fun _ _ => rfl)]
  omega
theorem take_hex {bs : List UInt8} {i : Nat} (h : i < bs.length) : hexL (bs.take (i + 1)) = hexL (bs.take i) ++ hex2 bs[i] := by
  unfold hexL
  rw [← List.take_append_getElem h, List.flatMap_append, List.flatMap_cons, List.flatMap_nil, List.append_nil]
  rfl
theorem flat_eU : ∀ l : List UInt8, l.flatMap eU = u8c l
  | [] => rfl
  | x :: l => by rw [List.flatMap_cons, flat_eU l]; rfl

theorem c22 {H : AHeap} (hT : Tb H) {A : Option Addr} {bs : List UInt8} (hR : By H.next H A bs) (hlen : bs.length ≤ 1099511627776) :
    ACalls Tryd.prog 22 [.slice A bs.length bs.length] H fun v H' => v = bstr (hexL bs) ∧ H' = H := by
  refine ACalls.eq (S22_calls ?_) rfl
  unfold S22
  rw [aAlloc_eq]
  have hF : ∀ c, (fun c => c < H.next) c → c < H.next := fun c h => h
  have hF1 : ∀ {H' : AHeap}, KF (fun c => c < H.next) H H' → ∀ c, c < H.next → c < H'.next := fun hk c h => Nat.lt_of_lt_of_le h hk.1
  have hb := Bd.new (F := fun c => c < H.next) (H := H) hF
  have hk0 : KF (fun c => c < H.next) H (H.alloc (.cells [.pointer none, .slice none 0 0] .var 48)) := ⟨by simp, fun c hc => AHeap.at_alloc_ne _ _ (Nat.ne_of_lt hc)⟩
  have hT8 := hT.next
  refine (c19 120 hb (hF1 hk0) (by simp)).mono ?_
  rintro v H1 ⟨rfl, hb1, hk1⟩
  simp only [aLenSl_slice, bnd_some']
  refine aLoop_vs bs.length (fun i vs H2 => vs = [.int .i64 i] ∧ Bd (fun c => c < H.next) H.next (hexL (bs.take i)) H2 ∧ KF (fun c => c < H.next) H H2) ⟨rfl, by simpa [hexL] using hb1, hk0.trans hk1⟩ ?_
  rintro i vs H2 again hi ⟨rfl, hb2, hk2⟩ hag
  unfold S22_27
  simp only [nth_zero, aBin_lss, bnd_some']
  refine aCond_of (fun hlt => ?_) (fun hge => ?_)
  · have hlt : i < bs.length := by have := of_decide_eq_true hlt; omega
    have hR2 : By H.next H2 A bs := hR.keep fun c hc => hk2.2 c hc
    have hT2 := hT.kf hk2 (fun c hc => by omega)
    unfold S22_24
    simp only [nth_zero, hR2.idx (k := .i64) (c := bs.length) (j := (i : Int)) (by omega) (by omega), bnd_some', Int.toNat_natCast]
    rw [Rd.ld hR2 hlt]
    simp only [bnd_some', aBin_lss]
    have hx : (bs[i]).toNat < 256 := (bs[i]).toNat_lt
    have hl2 : (hexL (bs.take i)).length ≤ 1 + 2 * 1099511627776 := by rw [hexL_length, List.length_take]; omega
    rw [aJoin_eq]
    have fin : ∀ H3, Bd (fun c => c < H.next) H.next (hexL (bs.take i) ++ (if (bs[i]).toNat < 16 then [48] else [])) H3 → KF (fun c => c < H.next) H H3 →
        S22_23 (.pointer (some ⟨H.next, 0, none⟩)) [.int .i64 i] again (.int .u8 (bs[i]).toNat) H3 := by
      intro H3 hb3 hk3
      have hT3 := hT.kf hk3 (fun c hc => by omega)
      unfold S22_23
      simp only [aConvInt_int, bnd_some', nth_zero]
      rw [wrap_u64 (by omega) (by omega)]
      refine (c35 hT3 _ hx).use ?_
      refine (c20 _ hb3 (hF1 hk3) ?_).mono ?_
      · have e1 : (⟨(hex1 (bs[i]).toNat).toArray⟩ : ByteArray).size ≤ 2 := by
          show (hex1 (bs[i]).toNat).toArray.size ≤ 2
          unfold hex1; split <;> simp
        rw [List.length_append]
        have : (if (bs[i]).toNat < 16 then [(48 : UInt8)] else []).length ≤ 1 := by split <;> simp
        omega
      rintro v H4 ⟨hb4, hk4⟩
      simp only [aBin_add, bnd_some']
      rw [wrap64 (by omega) (by omega)]
      refine hag _ _ hlt ⟨by simp, ?_, hk3.trans hk4⟩
      have e : hexL (bs.take i) ++ (if (bs[i]).toNat < 16 then [(48 : UInt8)] else []) ++ (⟨(hex1 (bs[i]).toNat).toArray⟩ : ByteArray).data.toList = hexL (bs.take (i + 1)) := by
        rw [take_hex hlt, List.append_assoc]
        congr 1
        show _ ++ hex1 (bs[i]).toNat = _
        unfold hex1 hex2
        split
        · rename_i h16
          rw [show (bs[i]).toNat / 16 = 0 by omega, show (bs[i]).toNat % 16 = (bs[i]).toNat by omega]
          rfl
        · simp
      rw [← e]
      exact hb4
    refine aCond_of (fun h16 => ?_) (fun h16 => ?_)
    · have h16 : (bs[i]).toNat < 16 := by have := of_decide_eq_true h16; omega
      refine (c19 48 hb2 (hF1 hk2) (by omega)).mono ?_
      rintro v H3 ⟨rfl, hb3, hk3⟩
      exact fin H3 (by rw [if_pos h16]; exact hb3) (hk2.trans hk3)
    · have h16 : ¬ (bs[i]).toNat < 16 := by have := of_decide_eq_false h16; omega
      exact fin H2 (by rw [if_neg h16, List.append_nil]; exact hb2) hk2
  · have hge : i = bs.length := by have := of_decide_eq_false hge; omega
    subst hge
    rw [List.take_length] at hb2
    refine (c23 hb2 (by rw [hexL_length]; omega) (by rw [hexL_length]; omega)).mono ?_
    rintro v H3 ⟨rfl, hk3⟩
    exact ⟨rfl, (hk2.trans hk3).1, fun c hc => (hk2.trans hk3).2 c hc⟩

/-- The law's own spelling. -/
theorem idx16 (k : IntKind) : ∀ n : Nat, n < 16 → aIdxStr (.string ⟨#[48, 49, 50, 51, 52, 53, 54, 55, 56, 57, 97, 98, 99, 100, 101, 102]⟩) (.int k n) = some (.int .u8 (hexd n).toNat)
  | 0, _ => rfl | 1, _ => rfl | 2, _ => rfl | 3, _ => rfl | 4, _ => rfl | 5, _ => rfl | 6, _ => rfl | 7, _ => rfl
  | 8, _ => rfl | 9, _ => rfl | 10, _ => rfl | 11, _ => rfl | 12, _ => rfl | 13, _ => rfl | 14, _ => rfl | 15, _ => rfl
  | n + 16, h => absurd h (by omega)
theorem quo16 (n : Nat) (h : n < 256) : aBin .quo .no (.int .u8 n) (.int .u8 16) = some (.int .u8 ((n / 16 : Nat) : Int)) := by
  rw [aBin_quo _ _ _ _ (by decide)]
  congr 2
  rw [show (n : Int).tdiv 16 = ((n / 16 : Nat) : Int) from rfl, IntKind.wrap_u8]
  omega
theorem rem16 (n : Nat) : aBin .rem .no (.int .u8 n) (.int .u8 16) = some (.int .u8 ((n % 16 : Nat) : Int)) := by
  rw [aBin_rem _ _ _ _ (by decide)]
  rfl
theorem c10 {H : AHeap} {A : Option Addr} {bs : List UInt8} (hR : By H.next H A bs) (hlen : bs.length ≤ 1099511627776) :
    ACalls Tryd.prog 10 [.slice A bs.length bs.length] H fun v H' => v = bstr (hexL bs) ∧ H' = H := by
  refine ACalls.eq (S10_calls ?_) rfl
  unfold S10
  rw [aBuildSlice_eq]
  refine bnd_iff.2 ⟨[.int .u8 120], rfl, ⟨rfl, rfl⟩, ?_⟩
  have hR1 : ∀ {H' : AHeap}, Keep H.next H H' → By H.next H' A bs := fun hk => hR.kept hk
  have hO : Ow 1 eU 5 H.next (H.alloc (.cells [.int .u8 120] (.row 1) 5)) (some ⟨H.next, 0, none⟩) [(120 : UInt8)] := Ow.new H _ (fun _ _ => rfl) rfl
  refine aLoop_vs bs.length (fun i vs H2 => ∃ B, vs = [.slice B (hexL (bs.take i)).length (hexL (bs.take i)).length, .int .i64 i] ∧ Ow 1 eU 5 H.next H2 B (hexL (bs.take i)) ∧ Keep H.next H H2)
    ⟨_, rfl, hO, (Keep.refl _ _).alloc (Nat.le_refl _) _⟩ ?_
  rintro i vs H2 again hi ⟨B, rfl, hO2, hk2⟩ hag
  unfold S10_22
  simp only [nth_zero, nth_1, aLenSl_slice, aBin_lss, bnd_some']
  refine aCond_of (fun hlt => ?_) (fun hge => ?_)
  · have hlt : i < bs.length := by have := of_decide_eq_true hlt; omega
    have hR2 := hR1 hk2
    have hx : (bs[i]).toNat < 256 := (bs[i]).toNat_lt
    unfold S10_20
    simp only [nth_zero, nth_1, hR2.idx (k := .i64) (c := bs.length) (j := (i : Int)) (by omega) (by omega), bnd_some', Int.toNat_natCast, Rd.ld hR2 hlt, quo16 _ hx, rem16, idx16 .u8 _ (show (bs[i]).toNat / 16 < 16 by omega), idx16 .u8 _ (show (bs[i]).toNat % 16 < 16 by omega)]
    rw [aBuildSlice_eq]
    refine bnd_iff.2 ⟨[.int .u8 (hexd ((bs[i]).toNat / 16)).toNat, .int .u8 (hexd ((bs[i]).toNat % 16)).toNat], rfl, ⟨rfl, rfl⟩, ?_⟩
    have hN : Ow 1 eU 5 H2.next (H2.alloc (.cells [.int .u8 (hexd ((bs[i]).toNat / 16)).toNat, .int .u8 (hexd ((bs[i]).toNat % 16)).toNat] (.row 1) 5)) (some ⟨H2.next, 0, none⟩) (hex2 bs[i]) := Ow.new H2 _ (fun _ _ => rfl) rfl
    have hl2 : (hexL (bs.take i)).length ≤ 1 + 2 * 1099511627776 := by rw [hexL_length, List.length_take]; omega
    have hO3 := hO2.alloc (.cells [.int .u8 (hexd ((bs[i]).toNat / 16)).toNat, .int .u8 (hexd ((bs[i]).toNat % 16)).toNat] (.row 1) 5)
    refine Ow.append hO3 hN.rd (by simp; have := hk2.next; omega) (by simp only [maxLen]; show _ + 2 ≤ _; omega) (by show (_ + 2) * 1 ≤ _; omega) ?_
    intro H4 hO4 hn4 _ hk4
    simp only [aBin_add, bnd_some']
    rw [wrap64 (by omega) (by omega)]
    rw [← take_hex hlt] at hO4 ⊢
    refine hag _ _ hlt ⟨_, by simp, hO4, (hk2.trans ((Keep.refl _ _).alloc hk2.next _)).trans hk4⟩
  · have hge : i = bs.length := by have := of_decide_eq_false hge; omega
    subst hge
    rw [List.take_length] at hO2 ⊢
    unfold aBytesStr
    rw [hO2.rd.row]
    simp only [Option.bind_some]
    rw [flat_eU, bytesOf_u8c]
    exact ⟨rfl, hk2⟩
end Go.Proofs.YtnbnojkfhfkecaaDoor.A
