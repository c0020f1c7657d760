/- Contracts of functions that the statement reaches; each theorem carries its own conditions, the last theorem of the claim has none. -/
import Derived.Test.YtliakckflcoffaaDoorU4
set_option linter.unusedVariables false
set_option linter.unusedSimpArgs false
namespace Go.Proofs.YtliakckflcoffaaDoor.A
open Go Go.Abs
open Go.Lib (decodeN)

def scal (c : Int) : Bool := decide (0 ≤ c) && decide (c ≤ 1114111) && !(decide (55296 ≤ c) && decide (c ≤ 57343))
theorem c15 {H : AHeap} {c : Int} : ACalls Tryd.prog 15 [.int .i64 c] H fun v H' => v = .bool (scal c) ∧ H' = H := by
  refine ACalls.eq (S15_calls ?_) rfl
  unfold S15
  by_cases h1 : 0 ≤ c
  · by_cases h2 : c ≤ 1114111
    · by_cases h3 : 55296 ≤ c
      · simp [h1, h2, h3, scal]
      · simp [h1, h2, h3, scal]
    · simp [h1, h2, scal]
  · simp [h1, scal]

/-- The bytes of a character. -/
def enc (c : Nat) : List Nat :=
  if c < 128 then [c] else if c < 2048 then [192 + c / 64, 128 + c % 64] else if c < 65536 then [224 + c / 4096, 128 + c / 64 % 64, 128 + c % 64]
  else [240 + c / 262144, 128 + c / 4096 % 64, 128 + c / 64 % 64, 128 + c % 64]
theorem enc_lt {c : Nat} (h : c ≤ 1114111) : ∀ x ∈ enc c, x < 256 := by
  intro x hx
  unfold enc at hx
  (repeat' split at hx) <;> simp at hx <;> omega
theorem quoN (c d : Nat) (hd : 0 < d) (hc : c < 4611686018427387904) : aBin .quo .no (.int .i64 (c : Int)) (.int .i64 (d : Int)) = some (.int .i64 ((c / d : Nat) : Int)) := by
  have e : (c : Int).tdiv (d : Int) = ((c / d : Nat) : Int) := (Int.ofNat_tdiv c d).symm
  rw [aBin_quo _ _ _ _ (by omega), e, w64 _ (Nat.lt_of_le_of_lt (Nat.div_le_self _ _) (by omega))]
theorem remN (c d : Nat) (hd : 0 < d) : aBin .rem .no (.int .i64 (c : Int)) (.int .i64 (d : Int)) = some (.int .i64 ((c % d : Nat) : Int)) := by
  have e : (c : Int).tmod (d : Int) = ((c % d : Nat) : Int) := (Int.ofNat_tmod c d).symm
  rw [aBin_rem _ _ _ _ (by omega), e]
theorem addN (c d : Nat) (h : c + d < 4611686018427387904) : aBin .add .no (.int .i64 (c : Int)) (.int .i64 (d : Int)) = some (.int .i64 ((c + d : Nat) : Int)) := by
  rw [aBin_add, ← Int.natCast_add, w64 _ (by omega)]
theorem convU8 (c : Nat) (h : c < 256) : aConvInt .u8 (.int .i64 (c : Int)) = some (.int .u8 (c : Int)) := by
  have : IntKind.u8.wrap (c : Int) = c := by
    unfold IntKind.wrap
    simp [IntKind.bits, IntKind.signed]
    omega
  simp [this]

set_option maxRecDepth 100000 in
theorem c31 {H : AHeap} {c : Nat} (h : c ≤ 1114111) : ACalls Tryd.prog 31 [.int .i64 (c : Nat)] H fun v H' => ∃ A, v = .slice A (enc c).length (enc c).length ∧ Ow 1 eN 5 H.next H' A (enc c) ∧ Keep H.next H H' := by
  refine S31_calls ?_
  unfold S31
  have fin : ∀ l : List Nat, enc c = l → (∃ A, (Value.slice (some ⟨H.next, 0, none⟩) l.length l.length) = .slice A (enc c).length (enc c).length ∧ Ow 1 eN 5 H.next (H.alloc (.cells (l.flatMap eN) (.row 1) 5)) A (enc c) ∧ Keep H.next H (H.alloc (.cells (l.flatMap eN) (.row 1) 5))) := by
    intro l hl
    rw [hl]
    exact ⟨_, rfl, Ow.new H _ (by simp) rfl, (Keep.refl _ _).alloc (Nat.le_refl _) _⟩
  have r1 : aBin .rem .no (.int .i64 (c : Int)) (.int .i64 64) = some (.int .i64 ((c % 64 : Nat) : Int)) := remN c 64 (by decide)
  have a1 : aBin .add .no (.int .i64 128) (.int .i64 ((c % 64 : Nat) : Int)) = some (.int .i64 ((128 + c % 64 : Nat) : Int)) := addN 128 (c % 64) (by omega)
  have u1 := convU8 (128 + c % 64) (by omega)
  have q1 : aBin .quo .no (.int .i64 (c : Int)) (.int .i64 64) = some (.int .i64 ((c / 64 : Nat) : Int)) := quoN c 64 (by decide) (by omega)
  have q2 : aBin .quo .no (.int .i64 (c : Int)) (.int .i64 4096) = some (.int .i64 ((c / 4096 : Nat) : Int)) := quoN c 4096 (by decide) (by omega)
  have q3 : aBin .quo .no (.int .i64 (c : Int)) (.int .i64 262144) = some (.int .i64 ((c / 262144 : Nat) : Int)) := quoN c 262144 (by decide) (by omega)
  have r2 : aBin .rem .no (.int .i64 ((c / 64 : Nat) : Int)) (.int .i64 64) = some (.int .i64 ((c / 64 % 64 : Nat) : Int)) := remN (c / 64) 64 (by decide)
  have r3 : aBin .rem .no (.int .i64 ((c / 4096 : Nat) : Int)) (.int .i64 64) = some (.int .i64 ((c / 4096 % 64 : Nat) : Int)) := remN (c / 4096) 64 (by decide)
  have a2 : aBin .add .no (.int .i64 128) (.int .i64 ((c / 64 % 64 : Nat) : Int)) = some (.int .i64 ((128 + c / 64 % 64 : Nat) : Int)) := addN 128 _ (by omega)
  have a3 : aBin .add .no (.int .i64 128) (.int .i64 ((c / 4096 % 64 : Nat) : Int)) = some (.int .i64 ((128 + c / 4096 % 64 : Nat) : Int)) := addN 128 _ (by omega)
  have u2 := convU8 (128 + c / 64 % 64) (by omega)
  have u3 := convU8 (128 + c / 4096 % 64) (by omega)
  by_cases h1 : c < 128
  · have u0 := convU8 c (by omega)
    have := fin [c] (by unfold enc; rw [if_pos h1])
    simp only [aBin_lss, show (c : Int) < 128 by omega, decide_true, bnd_some', aCond_true, u0, aBuildSlice_eq]
    simpa [aFill, setCells, eN] using this
  by_cases h2 : c < 2048
  · have b1 : aBin .add .no (.int .i64 192) (.int .i64 ((c / 64 : Nat) : Int)) = some (.int .i64 ((192 + c / 64 : Nat) : Int)) := addN 192 _ (by omega)
    have v1 := convU8 (192 + c / 64) (by omega)
    have := fin [192 + c / 64, 128 + c % 64] (by unfold enc; rw [if_neg h1, if_pos h2])
    simp only [aBin_lss, show ¬ (c : Int) < 128 by omega, show (c : Int) < 2048 by omega, decide_true, decide_false, bnd_some', aCond_true, aCond_false]
    unfold S31_13
    simp only [q1, b1, v1, r1, a1, u1, bnd_some', aBuildSlice_eq]
    simpa [aFill, setCells, eN] using this
  by_cases h3 : c < 65536
  · have b1 : aBin .add .no (.int .i64 224) (.int .i64 ((c / 4096 : Nat) : Int)) = some (.int .i64 ((224 + c / 4096 : Nat) : Int)) := addN 224 _ (by omega)
    have v1 := convU8 (224 + c / 4096) (by omega)
    have := fin [224 + c / 4096, 128 + c / 64 % 64, 128 + c % 64] (by unfold enc; rw [if_neg h1, if_neg h2, if_pos h3])
    simp only [aBin_lss, show ¬ (c : Int) < 128 by omega, show ¬ (c : Int) < 2048 by omega, show (c : Int) < 65536 by omega, decide_true, decide_false, bnd_some', aCond_true, aCond_false]
    unfold S31_27
    simp only [q2, b1, v1, q1, r2, a2, u2, r1, a1, u1, bnd_some', aBuildSlice_eq]
    simpa [aFill, setCells, eN] using this
  · have b1 : aBin .add .no (.int .i64 240) (.int .i64 ((c / 262144 : Nat) : Int)) = some (.int .i64 ((240 + c / 262144 : Nat) : Int)) := addN 240 _ (by omega)
    have v1 := convU8 (240 + c / 262144) (by omega)
    have := fin [240 + c / 262144, 128 + c / 4096 % 64, 128 + c / 64 % 64, 128 + c % 64] (by unfold enc; rw [if_neg h1, if_neg h2, if_neg h3])
    simp only [aBin_lss, show ¬ (c : Int) < 128 by omega, show ¬ (c : Int) < 2048 by omega, show ¬ (c : Int) < 65536 by omega, decide_true, decide_false, bnd_some', aCond_true, aCond_false]
    unfold S31_44
    simp only [q3, b1, v1, q2, r3, a3, u3, q1, r2, a2, u2, r1, a1, u1, bnd_some', aBuildSlice_eq]
    simpa [aFill, setCells, eN] using this

/-! One character, by definition. -/
def cont (x : Nat) : Prop := 128 ≤ x ∧ x < 192
instance (x : Nat) : Decidable (cont x) := by unfold cont; infer_instance
set_option maxRecDepth 100000 in
theorem rd2 {ds : List Nat} (hb : ∀ i, at' ds i < 256) (h : 192 ≤ at' ds 0 ∧ at' ds 0 < 224) :
    rd ds = if 2 ≤ ds.length ∧ cont (at' ds 1) ∧ 128 ≤ (at' ds 0 - 192) * 64 + (at' ds 1 - 128) then ((at' ds 0 - 192) * 64 + (at' ds 1 - 128), 2) else (65533, 1) := by
  have h1 := hb 1
  unfold rd cont
  generalize at' ds 0 = b0 at *
  generalize at' ds 1 = b1 at *
  generalize at' ds 2 = b2 at *
  generalize at' ds 3 = b3 at *
  generalize ds.length = n at *
  unfold decodeN
  (repeat' split) <;> first | (exfalso; omega) | (apply Prod.ext <;> simp only <;> omega)
set_option maxRecDepth 100000 in
set_option maxHeartbeats 2000000 in
theorem rd3 {ds : List Nat} (hb : ∀ i, at' ds i < 256) (h : 224 ≤ at' ds 0 ∧ at' ds 0 < 240) :
    rd ds = if 3 ≤ ds.length ∧ cont (at' ds 1) ∧ cont (at' ds 2) ∧ 2048 ≤ (at' ds 0 - 224) * 4096 + (at' ds 1 - 128) * 64 + (at' ds 2 - 128) ∧ ¬ (55296 ≤ (at' ds 0 - 224) * 4096 + (at' ds 1 - 128) * 64 + (at' ds 2 - 128) ∧ (at' ds 0 - 224) * 4096 + (at' ds 1 - 128) * 64 + (at' ds 2 - 128) ≤ 57343)
      then ((at' ds 0 - 224) * 4096 + (at' ds 1 - 128) * 64 + (at' ds 2 - 128), 3) else (65533, 1) := by
  have h1 := hb 1
  have h2 := hb 2
  unfold rd cont
  generalize at' ds 0 = b0 at *
  generalize at' ds 1 = b1 at *
  generalize at' ds 2 = b2 at *
  generalize at' ds 3 = b3 at *
  generalize ds.length = n at *
  unfold decodeN
  (repeat' split) <;> first | (exfalso; omega) | (apply Prod.ext <;> simp only <;> omega)
set_option maxRecDepth 100000 in
set_option maxHeartbeats 4000000 in
theorem rd4 {ds : List Nat} (hb : ∀ i, at' ds i < 256) (h : 240 ≤ at' ds 0 ∧ at' ds 0 < 248) :
    rd ds = if 4 ≤ ds.length ∧ cont (at' ds 1) ∧ cont (at' ds 2) ∧ cont (at' ds 3) ∧ 65536 ≤ (at' ds 0 - 240) * 262144 + (at' ds 1 - 128) * 4096 + (at' ds 2 - 128) * 64 + (at' ds 3 - 128) ∧ (at' ds 0 - 240) * 262144 + (at' ds 1 - 128) * 4096 + (at' ds 2 - 128) * 64 + (at' ds 3 - 128) ≤ 1114111
      then ((at' ds 0 - 240) * 262144 + (at' ds 1 - 128) * 4096 + (at' ds 2 - 128) * 64 + (at' ds 3 - 128), 4) else (65533, 1) := by
  have h1 := hb 1
  have h2 := hb 2
  have h3 := hb 3
  unfold rd cont
  generalize at' ds 0 = b0 at *
  generalize at' ds 1 = b1 at *
  generalize at' ds 2 = b2 at *
  generalize at' ds 3 = b3 at *
  generalize ds.length = n at *
  unfold decodeN
  (repeat' split) <;> first | (exfalso; omega) | (apply Prod.ext <;> simp only <;> omega)
end Go.Proofs.YtliakckflcoffaaDoor.A
