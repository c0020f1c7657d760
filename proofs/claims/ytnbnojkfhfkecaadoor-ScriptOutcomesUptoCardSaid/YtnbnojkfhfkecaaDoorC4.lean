/- Contracts of functions that the statement reaches; each theorem carries its own conditions, the last theorem of the claim has none. -/
import Derived.Test.YtnbnojkfhfkecaaDoorC3
/- FormatUint at base 16 of a byte. -/
set_option linter.unusedVariables false
set_option maxRecDepth 100000
namespace Go.Proofs.YtnbnojkfhfkecaaDoor.A
open Go Go.Abs
abbrev z65 : List Value := List.replicate 65 (.int .u8 0)
theorem aSt_var {H : AHeap} {b o : Nat} {cs : List Value} {t : TypeId} {v : Value} (hat : H.at_ b = .cells cs .var t) (ho : o < cs.length) (hv : vcells v = [v]) (hok : okCell v = true) :
    aSt 1 (.pointer (some ⟨b, o, none⟩)) v H = some (H.upd b (.cells (cs.set o v) .var t)) := by
  rw [aSt_ptr, hat, blkSt_cells, hv, if_pos ⟨rfl, rfl, by omega, by simp [hok]⟩]
  rfl
theorem bytes_at {H : AHeap} {b o n : Nat} {cs : List Value} {k : Use} {t : TypeId} {l : List UInt8} (hat : H.at_ b = .cells cs k t) (hn : o + n ≤ cs.length) (hl : (cs.drop o).take n = u8c l) (c : Nat) :
    aBytesStr (.slice (some ⟨b, o, none⟩) n c) H = some (bstr l) := by
  unfold aBytesStr aRow
  dsimp only
  rw [hat]
  dsimp only
  rw [Nat.mul_one, if_pos hn, hl]
  simp [bytesOf_u8c]

/-- The end: the digits that lie from o on. -/
theorem s70_end {H H1 : AHeap} {o : Nat} {l : List UInt8} {cs : List Value} (hk : Keep H.next H H1) (ho : 0 < o) (ho2 : o < 65) (hat : H1.at_ H.next = .cells cs .var 127) (hcl : cs.length = 65) (hl : cs.drop o = u8c l) :
    S70_69 (.slice none 0 0) (.bool false) (.bool false) (fun v H' => v = .tuple #[.slice none 0 0, bstr l] ∧ Keep H.next H H') (.pointer (some ⟨H.next, 0, none⟩)) [.int .i64 o] H1 := by
  unfold S70_69
  rw [aJoin_eq, aCond_false]
  unfold S70_22
  simp only [aCond_false, nth_zero]
  have hsl : aSliceArr 65 1 (.pointer (some ⟨H.next, 0, none⟩)) (some (.int .i64 o)) none = some (.slice (some ⟨H.next, o, none⟩) (65 - o) (65 - o)) := by
    simp [aSliceArr, loOf, hiOf, maxLen]
    omega
  rw [hsl, bnd_some', bytes_at hat (by omega) (by rw [hl]; exact List.take_of_length_le (by have := congrArg List.length hl; simp at this; simp; omega)), bnd_some']
  exact ⟨rfl, hk⟩
theorem lt_at {H : AHeap} {x : Blk} : (H.alloc x).at_ H.next = x := AHeap.at_alloc_new _ _

theorem wrap_u64 {x : Int} (h : 0 ≤ x) (h' : x < 18446744073709551616) : IntKind.u64.wrap x = x := by
  rw [IntKind.wrap_u64]; omega

theorem c70 {H : AHeap} (hT : Tb H) (x : Nat) (hx : x < 256) : ACalls Tryd.prog 70 [.slice none 0 0, .int .u64 x, .int .i64 16, .bool false, .bool false] H fun v H' => v = .tuple #[.slice none 0 0, bstr (hex1 x)] ∧ Keep H.next H H' := by
  refine S70_calls ?_
  unfold S70
  rw [aJoin_eq]
  simp [aInt, aBin]
  unfold S70_93
  rw [aAlloc_eq, aJoin_eq, aCond_false]
  have hT1 : Tb (H.alloc (.cells z65 .var 127)) := hT.keep (by simp) fun c hc => AHeap.at_alloc_ne _ _ (by have := hT.next; omega)
  have hk1 : Keep H.next H (H.alloc (.cells z65 .var 127)) := (Keep.refl _ _).alloc (Nat.le_refl _) _
  have hat1 : (H.alloc (.cells z65 .var 127)).at_ H.next = .cells z65 .var 127 := AHeap.at_alloc_new _ _
  show S70_71 _ _ _ _ _ _ _ (H.alloc (.cells z65 .var 127))
  generalize H.alloc (.cells z65 .var 127) = H1 at hT1 hk1 hat1
  unfold S70_71
  rw [aJoin_eq]
  refine c90.use ?_
  rw [aCond_true]
  unfold S70_49
  refine bnd_iff.2 ⟨.int .u64 16, by kernel_rfl, ?_⟩
  refine (c91 hT1).use ?_
  refine bnd_iff.2 ⟨.int .u64 4, by kernel_rfl, bnd_iff.2 ⟨.int .u64 16, by kernel_rfl, bnd_iff.2 ⟨.int .u64 16, by kernel_rfl, bnd_iff.2 ⟨.int .u64 15, by kernel_rfl, ?_⟩⟩⟩⟩
  rw [nth_zero]
  refine aLoop_vs 1 (fun i vs H2 => Keep H.next H H2 ∧ ∃ cs : List Value, H2.at_ H.next = .cells cs .var 127 ∧ cs.length = 65 ∧
    ((i = 0 ∧ vs = [.int .u64 x, .int .i64 65] ∧ cs = z65) ∨ (i = 1 ∧ 16 ≤ x ∧ vs = [.int .u64 (x / 16 : Nat), .int .i64 64] ∧ cs = z65.set 64 (.int .u8 (hexd (x % 16)).toNat)))) ⟨hk1, z65, hat1, rfl, .inl ⟨rfl, rfl, rfl⟩⟩ ?_
  rintro i vs H2 again hi ⟨hk2, cs, hat2, hcl, hc⟩ hag
  rcases hc with ⟨rfl, rfl, rfl⟩ | ⟨rfl, hx16, rfl, rfl⟩
  · unfold S70_48
    simp only [nth_zero, aBin_geq, bnd_some']
    refine aCond_of (fun hge => ?_) (fun hlt => ?_)
    · have hge' : 16 ≤ x := by have := of_decide_eq_true hge; omega
      unfold S70_42
      simp only [nth_zero, nth_1, aBin_sub, bnd_some', and15 x hx, idx36 .u64 (x % 16) (by omega), shr4, aIdxAddrArr_ptr]
      rw [show IntKind.i64.wrap (65 - 1) = 64 by decide]
      simp only [show (0 : Int) ≤ 64 ∧ (64 : Int) < (65 : Nat) from ⟨by decide, by decide⟩, if_true, bnd_some', and_self]
      rw [show (0 + (64 : Int).toNat * 1) = 64 from rfl, aSt_var hat2 (by decide) rfl rfl, bnd_some']
      refine hag _ _ (by omega) ⟨hk2.upd (Nat.le_refl _) _, _, AHeap.at_upd_same _ _ _, by simp, .inr ⟨rfl, hge', rfl, rfl⟩⟩
    · have hlt' : x < 16 := by have := of_decide_eq_false hlt; omega
      unfold S70_47
      simp only [nth_zero, nth_1, aBin_sub, bnd_some', idx36 .u64 x hlt', aIdxAddrArr_ptr]
      rw [show IntKind.i64.wrap (65 - 1) = 64 by decide]
      simp only [show (0 : Int) ≤ 64 ∧ (64 : Int) < (65 : Nat) from ⟨by decide, by decide⟩, if_true, bnd_some', and_self]
      rw [show (0 + (64 : Int).toNat * 1) = 64 from rfl, aSt_var hat2 (by decide) rfl rfl, bnd_some']
      have hh : hex1 x = [hexd x] := by simp [hex1, hlt']
      rw [hh]
      exact s70_end (o := 64) (hk2.upd (Nat.le_refl _) _) (by decide) (by decide) (AHeap.at_upd_same _ _ _) (by simp) rfl
  · unfold S70_48
    simp only [nth_zero, aBin_geq, bnd_some']
    refine aCond_of (fun hge => ?_) (fun hlt => ?_)
    · have := of_decide_eq_true hge
      omega
    · unfold S70_47
      simp only [nth_zero, nth_1, aBin_sub, bnd_some', idx36 .u64 (x / 16) (by omega), aIdxAddrArr_ptr]
      rw [show IntKind.i64.wrap (64 - 1) = 63 by decide]
      simp only [show (0 : Int) ≤ 63 ∧ (63 : Int) < (65 : Nat) from ⟨by decide, by decide⟩, if_true, bnd_some', and_self]
      rw [show (0 + (63 : Int).toNat * 1) = 63 from rfl, aSt_var hat2 (by rw [hcl]; decide) rfl rfl, bnd_some']
      have hh : hex1 x = [hexd (x / 16), hexd (x % 16)] := by simp [hex1]; omega
      rw [hh]
      exact s70_end (o := 63) (hk2.upd (Nat.le_refl _) _) (by decide) (by decide) (AHeap.at_upd_same _ _ _) (by simp) rfl

theorem c50 {H : AHeap} (hT : Tb H) (x : Nat) (hx : x < 256) : ACalls Tryd.prog 50 [.int .u64 x, .int .i64 16] H fun v H' => v = bstr (hex1 x) ∧ H' = H := by
  refine ACalls.eq (S50_calls ?_) rfl
  unfold S50
  simp only [aBin_eql, bnd_some']
  rw [show decide ((16 : Int) = 10) = false from rfl, aCond_false]
  refine (c70 hT x hx).mono ?_
  rintro v H' ⟨rfl, hk⟩
  simp only [aExtract_tuple]
  exact ⟨rfl, hk⟩
theorem c35 {H : AHeap} (hT : Tb H) (x : Nat) (hx : x < 256) : ACalls Tryd.prog 35 [.int .u64 x, .int .i64 16] H fun v H' => v = bstr (hex1 x) ∧ H' = H := by
  refine S35_calls ?_
  unfold S35
  exact (c50 hT x hx).use ⟨rfl, rfl⟩
end Go.Proofs.YtnbnojkfhfkecaaDoor.A
