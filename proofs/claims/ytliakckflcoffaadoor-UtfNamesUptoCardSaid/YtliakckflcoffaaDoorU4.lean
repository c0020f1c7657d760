/- Contracts of functions that the statement reaches; each theorem carries its own conditions, the last theorem of the claim has none. -/
import Derived.Test.YtliakckflcoffaaDoorU3
set_option linter.unusedVariables false
set_option linter.unusedSimpArgs false
namespace Go.Proofs.YtliakckflcoffaaDoor.A
open Go Go.Abs
open Go.Lib (decodeN firstT accLo accHi slowN)

theorem bin_some {op : BinOp} {k : IntKind} {x y r : Int} (h : aBits op k x y = some r) (ho : op = .and ∨ op = .or ∨ op = .andNot) : aBin op .no (.int k x) (.int k y) = some (.int k r) := by
  rcases ho with rfl | rfl | rfl <;> simp [aBin, aInt, h]
theorem l16 {lo : Nat} {H : AHeap} {R : Value → AHeap → Prop} {A : Option Addr} {bs : List Nat} {b0 f : Nat} (hA : BytesN lo H A bs) (h0 : 0 < bs.length) (e0 : at' bs 0 = b0) (g0 : b0 < 256)
    (hf : (f = 240 ∧ R (.tuple #[.int .i32 (b0 : Nat), .int .i64 1]) H) ∨ (f = 241 ∧ R (.tuple #[.int .i32 65533, .int .i64 1]) H)) : S39_16 (.slice A bs.length bs.length) H R (.int .u8 f) := by
  have i0 := hA.idx (k := .i64) (j := 0) (c := bs.length) (by omega) (by omega)
  have ld0 := BytesN.get hA (i := 0) h0
  rw [e0] at ld0
  simp at i0
  have w0 := w32 b0 (by omega)
  unfold S39_16
  rcases hf with ⟨rfl, hR⟩ | ⟨rfl, hR⟩
  · have a1 : ∀ n : Fin 256, aBits .andNot .i32 (n.val : Int) 0 = some (n.val : Int) := by decide +kernel
    have a2 : ∀ n : Fin 256, aBits .or .i32 (n.val : Int) 0 = some (n.val : Int) := by decide +kernel
    have s0 : aConvInt .i32 (.int .u8 ((240 : Nat) : Int)) = some (.int .i32 240) := rfl
    have s1 : aBin .shl .no (.int .i32 240) (.int .u64 31) = some (.int .i32 0) := rfl
    have s2 : aBin .shr .no (.int .i32 0) (.int .u64 31) = some (.int .i32 0) := rfl
    have s3 : aBin .andNot .no (.int .i32 (b0 : Int)) (.int .i32 0) = some (.int .i32 (b0 : Int)) := bin_some (a1 ⟨b0, g0⟩) (by simp)
    have s4 : aBin .and .no (.int .i32 65533) (.int .i32 0) = some (.int .i32 0) := bin_some (by decide +kernel) (by simp)
    have s5 : aBin .or .no (.int .i32 (b0 : Int)) (.int .i32 0) = some (.int .i32 (b0 : Int)) := bin_some (a2 ⟨b0, g0⟩) (by simp)
    simp only [s0, s1, s2, s3, s4, s5, bnd_some', i0, ld0, aConvInt_int, w0]
    exact hR
  · have a1 : ∀ n : Fin 256, aBits .andNot .i32 (n.val : Int) (-1) = some 0 := by decide +kernel
    have s0 : aConvInt .i32 (.int .u8 ((241 : Nat) : Int)) = some (.int .i32 241) := rfl
    have s1 : aBin .shl .no (.int .i32 241) (.int .u64 31) = some (.int .i32 (-2147483648)) := rfl
    have s2 : aBin .shr .no (.int .i32 (-2147483648)) (.int .u64 31) = some (.int .i32 (-1)) := rfl
    have s3 : aBin .andNot .no (.int .i32 (b0 : Int)) (.int .i32 (-1)) = some (.int .i32 0) := bin_some (a1 ⟨b0, g0⟩) (by simp)
    have s4 : aBin .and .no (.int .i32 65533) (.int .i32 (-1)) = some (.int .i32 65533) := bin_some (by decide +kernel) (by simp)
    have s5 : aBin .or .no (.int .i32 0) (.int .i32 65533) = some (.int .i32 65533) := bin_some (by decide +kernel) (by simp)
    simp only [s0, s1, s2, s3, s4, s5, bnd_some', i0, ld0, aConvInt_int, w0]
    exact hR

theorem rd_ascii {bs : List Nat} (h : at' bs 0 < 128) : rd bs = (at' bs 0, 1) := by unfold rd decodeN; rw [if_pos h]
theorem rd_none {bs : List Nat} (h : (128 ≤ at' bs 0 ∧ at' bs 0 < 194) ∨ 245 ≤ at' bs 0) (hb : ∀ i, at' bs i < 256) : rd bs = (65533, 1) := by
  have h0 := hb 0
  have h1 := hb 1
  have h2 := hb 2
  have h3 := hb 3
  unfold rd
  generalize at' bs 0 = b0 at *
  generalize at' bs 1 = b1 at *
  generalize at' bs 2 = b2 at *
  generalize at' bs 3 = b3 at *
  unfold decodeN
  repeat' split
  all_goals first | rfl | (exfalso; omega)


set_option maxHeartbeats 2000000 in
theorem c39 {lo : Nat} {H : AHeap} {A : Option Addr} {bs : List Nat} (T : Tabs H) (hl : lo ≤ H.next) (hA : BytesN lo H A bs) (hb : ∀ x ∈ bs, x < 256) (hne : bs ≠ []) (hlen : bs.length ≤ 140737488355328) :
    ACalls Tryd.prog 39 [.slice A bs.length bs.length] H fun v H' => v = .tuple #[.int .i32 ((rd bs).1 : Nat), .int .i64 ((rd bs).2 : Nat)] ∧ H' = H := by
  refine ACalls.eq' (S39_calls ?_) (vin_two rfl rfl)
  have hpos : 0 < bs.length := by cases bs with | nil => exact absurd rfl hne | cons x xs => simp
  have g := at'_lt hb
  have g0 := g 0
  have i0 := hA.idx (k := .i64) (j := 0) (c := bs.length) (by omega) (by omega)
  have ld0 := BytesN.get hA (i := 0) hpos
  simp at i0
  unfold S39
  simp [show ¬ (bs.length : Int) < 1 by omega]
  unfold S39_116
  have hfc := firstCells_at g0
  have hi : ((at' bs 0 : Nat) : Int).toNat * 1 = at' bs 0 := by simp
  simp [i0, ld0, T.first, hfc, show ((at' bs 0 : Nat) : Int) < 256 by omega]
  have hk : Keep H.next H H := Keep.refl _ _
  by_cases c1 : at' bs 0 < 128
  · have hf : firstT (at' bs 0) = 240 := by unfold firstT; rw [if_pos c1]
    rw [hf]
    simp
    refine l16 hA hpos rfl g0 (.inl ⟨rfl, ?_⟩)
    simp [rd_ascii c1]
  by_cases c2 : at' bs 0 < 194 ∨ 245 ≤ at' bs 0
  · have hf : firstT (at' bs 0) = 241 := by unfold firstT; (repeat' split) <;> omega
    rw [hf]
    simp
    refine l16 hA hpos rfl g0 (.inr ⟨rfl, ?_⟩)
    simp [rd_none (bs := bs) (by omega) g]
  have hgo : ∀ (x : Nat), firstT (at' bs 0) = x → x < 240 → 2 ≤ x % 8 → x % 8 ≤ 4 → slowN bs.length (at' bs 0) (at' bs 1) (at' bs 2) (at' bs 3) (x % 8) (accLo (x / 16)) (accHi (x / 16)) = rd bs →
      aCond (.bool (decide ((240 : Int) ≤ (firstT (at' bs 0) : Nat)))) (S39_16 (.slice A bs.length bs.length) H (fun v H' => v = .tuple #[.int .i32 ((rd bs).1 : Nat), .int .i64 ((rd bs).2 : Nat)] ∧ Keep H.next H H') (.int .u8 (firstT (at' bs 0) : Nat)))
        (S39_115 (.slice A bs.length bs.length) H (fun v H' => v = .tuple #[.int .i32 ((rd bs).1 : Nat), .int .i64 ((rd bs).2 : Nat)] ∧ Keep H.next H H') (.int .i64 bs.length) (.int .u8 (at' bs 0 : Nat)) (.int .u8 (firstT (at' bs 0) : Nat))) := by
    intro x hx hx240 h2 h4 hres
    rw [hx]
    simp [show ¬ (240 : Int) ≤ (x : Nat) by omega]
    refine l115 (n := 0) T hl hA hb rfl rfl rfl rfl (by omega) h2 h4 hlen fun H' hk => ?_
    rw [hres]
    exact ⟨rfl, hk⟩
  have g1 := g 1
  have g2 := g 2
  have g3 := g 3
  have key : ∃ x, firstT (at' bs 0) = x ∧ x < 240 ∧ 2 ≤ x % 8 ∧ x % 8 ≤ 4 ∧ slowN bs.length (at' bs 0) (at' bs 1) (at' bs 2) (at' bs 3) (x % 8) (accLo (x / 16)) (accHi (x / 16)) = rd bs := by
    unfold rd
    generalize at' bs 0 = b0 at *
    generalize at' bs 1 = b1 at *
    generalize at' bs 2 = b2 at *
    generalize at' bs 3 = b3 at *
    clear hgo
    by_cases k1 : b0 < 224
    · exact ⟨2, by unfold firstT; (repeat' split) <;> omega, by decide, by decide, by decide, Lib.slow_C2 _ _ _ _ _ hpos g1 g2 g3 ⟨by omega, k1⟩⟩
    by_cases k2 : b0 = 224
    · exact ⟨19, by unfold firstT; (repeat' split) <;> omega, by decide, by decide, by decide, Lib.slow_E0 _ _ _ _ _ hpos g1 g2 g3 k2⟩
    by_cases k3 : b0 = 237
    · exact ⟨35, by unfold firstT; (repeat' split) <;> omega, by decide, by decide, by decide, Lib.slow_ED _ _ _ _ _ hpos g1 g2 g3 k3⟩
    by_cases k4 : b0 < 240
    · exact ⟨3, by unfold firstT; (repeat' split) <;> omega, by decide, by decide, by decide, Lib.slow_E1 _ _ _ _ _ hpos g1 g2 g3 (by omega)⟩
    by_cases k5 : b0 = 240
    · exact ⟨52, by unfold firstT; (repeat' split) <;> omega, by decide, by decide, by decide, Lib.slow_F0 _ _ _ _ _ hpos g1 g2 g3 k5⟩
    by_cases k6 : b0 < 244
    · exact ⟨4, by unfold firstT; (repeat' split) <;> omega, by decide, by decide, by decide, Lib.slow_F1 _ _ _ _ _ hpos g1 g2 g3 (by omega)⟩
    · exact ⟨68, by unfold firstT; (repeat' split) <;> omega, by decide, by decide, by decide, Lib.slow_F4 _ _ _ _ _ hpos g1 g2 g3 (by omega)⟩
  obtain ⟨x, q1, q2, q3, q4, q5⟩ := key
  exact hgo x q1 q2 q3 q4 q5

/-- DecodeRune. -/
theorem c26 {lo : Nat} {H : AHeap} {A : Option Addr} {bs : List Nat} (T : Tabs H) (hl : lo ≤ H.next) (hA : BytesN lo H A bs) (hb : ∀ x ∈ bs, x < 256) (hne : bs ≠ []) (hlen : bs.length ≤ 140737488355328) :
    ACalls Tryd.prog 26 [.slice A bs.length bs.length] H fun v H' => v = .tuple #[.int .i32 ((rd bs).1 : Nat), .int .i64 ((rd bs).2 : Nat)] ∧ H' = H := by
  refine ACalls.eq' (S26_calls ?_) (vin_two rfl rfl)
  have hpos : 0 < bs.length := by cases bs with | nil => exact absurd rfl hne | cons x xs => simp
  have i0 := hA.idx (k := .i64) (j := 0) (c := bs.length) (by omega) (by omega)
  have ld0 := BytesN.get hA (i := 0) hpos
  have g0 := at'_lt hb 0
  simp at i0
  unfold S26
  rw [aJoin_eq]
  simp
  refine aLoop_inv (fun m vs H' => vs = [.int .i64 0] ∧ H' = H) 0 ⟨rfl, rfl⟩ ?_
  rintro m vs H' again ⟨rfl, rfl⟩ _
  unfold S26_17
  simp [hpos, show (0 : Int) < bs.length by omega]
  unfold S26_16
  by_cases c : at' bs 0 < 128
  · have w0 := w32 (at' bs 0) (by omega)
    simp [i0, ld0, c, show ((at' bs 0 : Nat) : Int) < 128 by omega, w0, rd_ascii c]
  · simp [i0, ld0, c, show ¬ ((at' bs 0 : Nat) : Int) < 128 by omega]
    refine (c39 T hl hA hb hne hlen).use ?_
    simp
end Go.Proofs.YtliakckflcoffaaDoor.A
