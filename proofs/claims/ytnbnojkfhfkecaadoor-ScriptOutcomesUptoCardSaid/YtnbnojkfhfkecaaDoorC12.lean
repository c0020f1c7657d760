/- Contracts of functions that the statement reaches; each theorem carries its own conditions, the last theorem of the claim has none. -/
import Derived.Test.YtnbnojkfhfkecaaDoorC11
import Derived.Test.YtnbnojkfhfkecaaDoorAbsZ
/- What the law says of Put. -/
set_option linter.unusedVariables false
set_option linter.unusedSimpArgs false
set_option maxRecDepth 100000
namespace Go.Proofs.YtnbnojkfhfkecaaDoor.A
open Go Go.Abs

theorem dec2 (a b : Nat) (ha : a < 10) (h0 : 0 < a) (hb : b < 10) : Lib.decDigits (a * 10 + b) = [UInt8.ofNat (48 + a), UInt8.ofNat (48 + b)] := by
  rw [Lib.decDigits, dif_neg (by omega), show (a * 10 + b) / 10 = a by omega, show (a * 10 + b) % 10 = b by omega, Lib.decDigits, dif_pos ha]
  rfl
theorem answersL (A : Option Addr) : putL 10 20 5 [(A, [65])] = [49, 48, 32, 50, 48, 32, 53, 10, 120, 52, 49, 10] := by
  have h10 : Lib.itoa 10 = [49, 48] := dec2 1 0 (by decide) (by decide) (by decide)
  have h20 : Lib.itoa 20 = [50, 48] := dec2 2 0 (by decide) (by decide) (by decide)
  have h5 : Lib.itoa 5 = [53] := by
    show Lib.decDigits 5 = _
    rw [Lib.decDigits, dif_pos (by decide)]
    rfl
  simp only [putL, hd, fs, h10, h20, h5]
  rfl

theorem self_beq (s : ByteArray) : (s == s) = true := by rw [ba_beq]; simp
theorem i64_of {n : Int} (h1 : -9223372036854775808 ≤ n) (h2 : n ≤ 9223372036854775807) : I64 n := ⟨h1, h2⟩
theorem c11 {H : AHeap} (hT : Tb H) : ACalls Tryd.prog 11 [] H fun v H' => v = .bool true ∧ H' = H := by
  refine ACalls.eq (S11_calls ?_) rfl
  unfold S11
  refine bnd_iff.2 ⟨[.int .i64 10, .int .i64 20, .int .i64 5], rfl, ?_⟩
  rw [aBuildSlice_eq]
  refine bnd_iff.2 ⟨[.int .u8 65], rfl, ⟨rfl, rfl⟩, ?_⟩
  refine aMark_of (AHeap.at_alloc_new _ _) rfl (by decide) ?_
  rw [aBuildSlice_eq]
  refine bnd_iff.2 ⟨[.slice (some ⟨H.next, 0, none⟩) 1 1], rfl, ⟨rfl, rfl⟩, ?_⟩
  have hk : Keep H.next H (((H.alloc (.cells [.int .u8 65] (.row 1) 5)).upd H.next (.cells [.int .u8 65] .read 5)).alloc (.cells [.slice (some ⟨H.next, 0, none⟩) 1 1] (.row 1) 22)) :=
    (((Keep.refl _ _).alloc (Nat.le_refl _) _).upd (Nat.le_refl _) _).alloc (by simp) _
  have hat0 : (((H.alloc (.cells [.int .u8 65] (.row 1) 5)).upd H.next (.cells [.int .u8 65] .read 5)).alloc (.cells [.slice (some ⟨H.next, 0, none⟩) 1 1] (.row 1) 22)).at_ H.next = .cells [.int .u8 65] .read 5 := by
    rw [AHeap.at_alloc_ne _ _ (by simp), AHeap.at_upd_same]
  have hat1 : (((H.alloc (.cells [.int .u8 65] (.row 1) 5)).upd H.next (.cells [.int .u8 65] .read 5)).alloc (.cells [.slice (some ⟨H.next, 0, none⟩) 1 1] (.row 1) 22)).at_ (H.next + 1) = .cells [.slice (some ⟨H.next, 0, none⟩) 1 1] (.row 1) 22 :=
    AHeap.at_alloc_new _ _
  have hn : (((H.alloc (.cells [.int .u8 65] (.row 1) 5)).upd H.next (.cells [.int .u8 65] .read 5)).alloc (.cells [.slice (some ⟨H.next, 0, none⟩) 1 1] (.row 1) 22)).next = H.next + 2 := rfl
  have e1 : ((H.alloc (.cells [.int .u8 65] (.row 1) 5)).upd H.next (.cells [.int .u8 65] .read 5)).next = H.next + 1 := rfl
  rw [e1]
  generalize ((H.alloc (.cells [.int .u8 65] (.row 1) 5)).upd H.next (.cells [.int .u8 65] .read 5)).alloc (.cells [.slice (some ⟨H.next, 0, none⟩) 1 1] (.row 1) 22) = H1 at hk hat0 hat1 hn
  have h8 := hT.next
  have hT1 : Tb H1 := hT.keep hk.next fun c hc => hk.at_ c (by omega)
  have hR : Chs H1.next H1 (some ⟨H.next + 1, 0, none⟩) [(some ⟨H.next, 0, none⟩, [65])] :=
    ⟨Rd.mk' (fun _ _ => rfl) (by omega) hat1 (by simp) rfl rfl, fun p hp => by
      simp at hp; subst hp
      exact Rd.mk' (fun _ _ => rfl) (by omega) hat0 (by simp) rfl rfl⟩
  refine (c8 hT1 (i64_of (by decide) (by decide)) (i64_of (by decide) (by decide)) (i64_of (by decide) (by decide)) hR (by simp) (by intro p hp; simp at hp; subst hp; simp)).use ?_
  rw [answersL]
  unfold S11_22
  refine bnd_iff.2 ⟨_, rfl, bnd_iff.2 ⟨_, rfl, ?_⟩⟩
  simp only [aBin_eql, bnd_some', decide_true, aGuardK_tt, aBin_seql, self_beq, aPick_tt]
  exact ⟨by simp [self_beq], hk⟩

theorem c12 {H : AHeap} {A : Option Addr} {ps : List Chunk} (hR : Chs H.next H A ps) (hb : ps.length ≤ 9223372036854775807) :
    ACalls Tryd.prog 12 [.slice A ps.length ps.length] H fun v H' => (∃ b, v = .bool b ∧ (b = true → ps.length ≤ 300 ∧ ∀ p ∈ ps, p.2.length ≤ 3000)) ∧ H' = H := by
  refine S12_calls ?_
  unfold S12
  refine aLoop_vs ps.length (fun i vs H2 => i ≤ ps.length ∧ vs = [.int .i64 i] ∧ H2 = H ∧ ∀ p ∈ ps.take i, p.2.length ≤ 3000) ⟨Nat.zero_le _, rfl, rfl, by simp⟩ ?_
  rintro i vs H2 again hi ⟨_, rfl, rfl, hp⟩ hag
  unfold S12_13
  simp only [aLenSl_slice, nth_zero, aBin_lss, bnd_some']
  refine aCond_of (fun hlt => ?_) (fun hge => ?_)
  · have hlt : i < ps.length := by have := of_decide_eq_true hlt; omega
    have hid := hR.rd.idx (k := .i64) (c := ps.length) (j := (i : Int)) (by omega) (by omega)
    have hld := Rd.ld hR.rd hlt
    unfold S12_10
    simp only [nth_zero, hid, bnd_some', Int.toNat_natCast, hld, aLenSl_slice, aBin_gtr]
    refine aCond_of (fun hbig => ⟨⟨false, rfl, by simp⟩, trivial⟩) (fun hsm => ?_)
    have hsm : (ps[i]).2.length ≤ 3000 := by have := of_decide_eq_false hsm; omega
    simp only [aBin_add, bnd_some']
    rw [wrap64 (by omega) (by omega)]
    refine hag _ _ hlt ⟨by omega, by simp, rfl, ?_⟩
    rw [← List.take_append_getElem hlt]
    intro p hp'
    rcases List.mem_append.1 hp' with h | h
    · exact hp p h
    · simp at h; subst h; exact hsm
  · have hge : i = ps.length := by have := of_decide_eq_false hge; omega
    subst hge
    rw [List.take_length] at hp
    simp only [aBin_leq, bnd_some']
    exact ⟨⟨_, rfl, fun h => ⟨by have := of_decide_eq_true h; omega, hp⟩⟩, trivial⟩

theorem c13 {H : AHeap} {f c d : Int} (hf : I64 f) (hc : I64 c) (hd' : I64 d) : ACalls Tryd.prog 13 [eLim f c d] H fun v H' => v = bstr (hd f c d 3 ++ [10]) ∧ H' = H := by
  refine ACalls.eq (S13_calls ?_) rfl
  unfold S13
  rw [aBox_eq]
  refine ⟨rfl, ?_⟩
  have e0 : vcells (eLim f c d) = [.int .i64 f, .int .i64 c, .int .i64 d] := rfl
  rw [e0]
  have hat : (H.alloc (.cells [.int .i64 f, .int .i64 c, .int .i64 d] .var 27)).at_ H.next = .cells [.int .i64 f, .int .i64 c, .int .i64 d] .var 27 := AHeap.at_alloc_new _ _
  have hk : Keep H.next H (H.alloc (.cells [.int .i64 f, .int .i64 c, .int .i64 d] .var 27)) := (Keep.refl _ _).alloc (Nat.le_refl _) _
  generalize H.alloc (.cells [.int .i64 f, .int .i64 c, .int .i64 d] .var 27) = H1 at hat hk
  have l0 : aLdCell (.pointer (some ⟨H.next, 0, none⟩)) H1 = some (.int .i64 f) := by rw [aLdCell_ptr, hat]; rfl
  have l1 : aLdCell (.pointer (some ⟨H.next, 1, none⟩)) H1 = some (.int .i64 c) := by rw [aLdCell_ptr, hat]; rfl
  have l2 : aLdCell (.pointer (some ⟨H.next, 2, none⟩)) H1 = some (.int .i64 d) := by rw [aLdCell_ptr, hat]; rfl
  simp only [aAdd_ptr, bnd_some', Nat.zero_add, l0, l1, l2]
  have h1 := itoa_le hf
  have h2 := itoa_le hc
  have h3 := itoa_le hd'
  refine (c16 f hf.lo hf.hi).use ?_
  unfold S13_22
  simp only [l1, l2, bnd_some']
  refine ⟨⟨trivial, trivial⟩, ?_⟩
  rw [show (.string ⟨#[32]⟩ : Value) = bstr [32] from rfl, show (.string ⟨#[10]⟩ : Value) = bstr [10] from rfl, aBin_sadd _ _ _ (by simp; omega), bnd_some']
  refine (c16 c hc.lo hc.hi).use ?_
  simp only [l2, bnd_some']
  refine ⟨trivial, ?_⟩
  rw [aBin_sadd _ _ _ (by simp; omega), bnd_some', aBin_sadd _ _ _ (by simp; omega), bnd_some']
  refine (c16 d hd'.lo hd'.hi).use ?_
  rw [aBin_sadd _ _ _ (by simp; omega), bnd_some', aBin_sadd _ _ _ (by simp; omega), bnd_some']
  refine ⟨?_, hk⟩
  simp [hd, fs]
end Go.Proofs.YtnbnojkfhfkecaaDoor.A
