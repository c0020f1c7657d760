/- Contracts of functions that the statement reaches; each theorem carries its own conditions, the last theorem of the claim has none. -/
import Derived.Test.YtliakckflcoffaaDoorU1
import Derived.Lib.DecodeN
set_option linter.unusedVariables false
set_option linter.unusedSimpArgs false
namespace Go.Proofs.YtliakckflcoffaaDoor.A
open Go Go.Abs
open Go.Lib (decodeN firstT accLo accHi slowN)

/-! Bits. -/
theorem and31 (n : Nat) (h : n < 256) : aBin .and .no (.int .u8 n) (.int .u8 31) = some (.int .u8 (n % 32 : Nat)) := by
  have : ∀ n : Fin 256, aBits .and .u8 (n.val : Int) 31 = some ((n.val % 32 : Nat) : Int) := by decide +kernel
  simp [aBin, aInt, this ⟨n, h⟩]
theorem and15 (n : Nat) (h : n < 256) : aBin .and .no (.int .u8 n) (.int .u8 15) = some (.int .u8 (n % 16 : Nat)) := by
  have : ∀ n : Fin 256, aBits .and .u8 (n.val : Int) 15 = some ((n.val % 16 : Nat) : Int) := by decide +kernel
  simp [aBin, aInt, this ⟨n, h⟩]
theorem and7 (n : Nat) (h : n < 256) : aBin .and .no (.int .u8 n) (.int .u8 7) = some (.int .u8 (n % 8 : Nat)) := by
  have : ∀ n : Fin 256, aBits .and .u8 (n.val : Int) 7 = some ((n.val % 8 : Nat) : Int) := by decide +kernel
  simp [aBin, aInt, this ⟨n, h⟩]
theorem and63 (n : Nat) (h : n < 256) : aBin .and .no (.int .u8 n) (.int .u8 63) = some (.int .u8 (n % 64 : Nat)) := by
  have : ∀ n : Fin 256, aBits .and .u8 (n.val : Int) 63 = some ((n.val % 64 : Nat) : Int) := by decide +kernel
  simp [aBin, aInt, this ⟨n, h⟩]
theorem shr4 (n : Nat) (h : n < 256) : aBin .shr .no (.int .u8 n) (.int .u64 4) = some (.int .u8 (n / 16 : Nat)) := by
  have h1 : ∀ n : Fin 256, (n.val : Int).fdiv (2 ^ min (4 : Int).toNat IntKind.u8.bits) = ((n.val / 16 : Nat) : Int) := by decide +kernel
  have : aInt .shr .u8 (n : Int) 4 = some (.int .u8 ((n / 16 : Nat) : Int)) := by
    simp only [aInt]
    rw [if_neg (by decide), h1 ⟨n, h⟩]
  simp [aBin, this]
theorem wrap32 {x : Int} (h : -2147483648 ≤ x) (h' : x ≤ 2147483647) : IntKind.i32.wrap x = x := by
  unfold IntKind.wrap
  simp [IntKind.bits, IntKind.signed]
  omega
theorem shl32 (k n : Nat) (hk : k < 31) (h : n * 2 ^ k < 2147483648) : aBin .shl .no (.int .i32 n) (.int .u64 k) = some (.int .i32 (n * 2 ^ k : Nat)) := by
  have e : ((k : Int)).toNat = k := by simp
  have : aInt .shl .i32 (n : Int) (k : Int) = some (.int .i32 (n * 2 ^ k : Nat)) := by
    simp only [aInt, e]
    rw [if_neg (by omega), show min k (IntKind.bits .i32) = k from Nat.min_eq_left (by simp [IntKind.bits]; omega)]
    have h2 : (n : Int) * 2 ^ k = ((n * 2 ^ k : Nat) : Int) := by push_cast; rfl
    rw [h2, wrap32 (by omega) (by omega)]
  simp [aBin, this]
theorem or32 (k a b : Nat) (hb : b < 2 ^ k) (h : a * 2 ^ k + b < 2147483648) : aBin .or .no (.int .i32 (a * 2 ^ k : Nat)) (.int .i32 (b : Nat)) = some (.int .i32 (a * 2 ^ k + b : Nat)) := by
  have h1 : (BitVec.ofInt 32 ((a * 2 ^ k : Nat) : Int) ||| BitVec.ofInt 32 (b : Int)).toNat = a * 2 ^ k + b := by
    rw [BitVec.toNat_or]
    have e1 : (BitVec.ofInt 32 ((a * 2 ^ k : Nat) : Int)).toNat = a * 2 ^ k := by rw [BitVec.ofInt_natCast, BitVec.toNat_ofNat]; omega
    have e2 : (BitVec.ofInt 32 ((b : Nat) : Int)).toNat = b := by rw [BitVec.ofInt_natCast, BitVec.toNat_ofNat]; omega
    rw [e1, e2, Nat.mul_comm, ← Nat.two_pow_add_eq_or_of_lt hb]
  have : aBits .or .i32 ((a * 2 ^ k : Nat) : Int) (b : Int) = some ((a * 2 ^ k + b : Nat) : Int) := by
    show some (IntKind.i32.wrap ((BitVec.ofInt 32 ((a * 2 ^ k : Nat) : Int) ||| BitVec.ofInt 32 (b : Int)).toNat : Int)) = _
    rw [h1, wrap32 (by omega) (by omega)]
  simp only [aBin, aInt, this]
  simp

/-! What characters bytes are. -/
def at' (bs : List Nat) (i : Nat) : Nat := bs.getD i 0
def rd (bs : List Nat) : Nat × Nat := decodeN bs.length (at' bs 0) (at' bs 1) (at' bs 2) (at' bs 3)
def Bad (bs : List Nat) : Prop := rd bs = (65533, 1)
instance (bs : List Nat) : Decidable (Bad bs) := by unfold Bad; infer_instance

set_option maxHeartbeats 4000000 in
theorem decodeN_fit {n b0 b1 b2 b3 : Nat} (hn : 1 ≤ n) : 1 ≤ (decodeN n b0 b1 b2 b3).2 ∧ (decodeN n b0 b1 b2 b3).2 ≤ n ∧ (decodeN n b0 b1 b2 b3).2 ≤ 4 ∧ (decodeN n b0 b1 b2 b3).1 ≤ 1114111 := by
  unfold decodeN
  repeat' split
  all_goals (simp only <;> omega)
set_option maxHeartbeats 4000000 in
theorem decodeN_one {n b0 b1 b2 b3 : Nat} (h : (decodeN n b0 b1 b2 b3).1 = 65533) (h2 : (decodeN n b0 b1 b2 b3).2 < 2) : decodeN n b0 b1 b2 b3 = (65533, 1) := by
  unfold decodeN at h h2 ⊢
  repeat' split
  all_goals first | rfl | (exfalso; simp_all <;> omega)
set_option maxHeartbeats 8000000 in
theorem decodeN_same {n n' b0 b1 b2 b3 c1 c2 c3 : Nat} (h : decodeN n b0 b1 b2 b3 ≠ (65533, 1)) (hn : (decodeN n b0 b1 b2 b3).2 ≤ n') (h1 : 1 < (decodeN n b0 b1 b2 b3).2 → c1 = b1) (h2 : 2 < (decodeN n b0 b1 b2 b3).2 → c2 = b2) (h3 : 3 < (decodeN n b0 b1 b2 b3).2 → c3 = b3) :
    decodeN n' b0 c1 c2 c3 = decodeN n b0 b1 b2 b3 := by
  unfold decodeN at h hn h1 h2 h3
  by_cases a : b0 < 128
  · unfold decodeN
    simp only [a, if_true]
  · simp only [a, if_false] at h hn h1 h2 h3
    by_cases p : b0 / 32 = 6 ∧ (1 < n ∧ b1 / 64 = 2)
    · simp only [p, and_self, if_true] at h hn h1 h2 h3
      split at h
      · rename_i q
        simp only [ge_iff_le] at q
        simp only [q, ge_iff_le, if_true] at hn h1
        obtain rfl := h1 (by decide)
        unfold decodeN
        simp only [a, if_false, p, q, ge_iff_le, and_self, if_true, show 1 < n' by omega]
      · exact absurd rfl h
    · by_cases p' : b0 / 16 = 14 ∧ (1 < n ∧ b1 / 64 = 2) ∧ (2 < n ∧ b2 / 64 = 2)
      · rw [if_neg p, if_pos p'] at h hn h1 h2 h3
        split at h
        · rename_i q
          rw [if_pos q] at hn h1 h2
          obtain rfl := h1 (show 1 < 3 by decide)
          obtain rfl := h2 (show 2 < 3 by decide)
          unfold decodeN
          simp only at hn
          rw [if_neg a, if_neg (by omega), if_pos (by omega), if_pos q, if_neg p, if_pos p', if_neg a]
        · exact absurd rfl h
      · by_cases p'' : b0 / 8 = 30 ∧ (1 < n ∧ b1 / 64 = 2) ∧ (2 < n ∧ b2 / 64 = 2) ∧ (3 < n ∧ b3 / 64 = 2)
        · rw [if_neg p, if_neg p', if_pos p''] at h hn h1 h2 h3
          split at h
          · rename_i q
            rw [if_pos q] at hn h1 h2
            obtain rfl := h1 (show 1 < 4 by decide)
            obtain rfl := h2 (show 2 < 4 by decide)
            rw [if_pos q] at h3
            obtain rfl := h3 (show 3 < 4 by decide)
            unfold decodeN
            simp only at hn
            rw [if_neg a, if_neg (by omega), if_neg (by omega), if_pos (by omega), if_pos q, if_neg p, if_neg p', if_pos p'', if_neg a]
          · exact absurd rfl h
        · rw [if_neg p, if_neg p', if_neg p''] at h
          exact absurd rfl h

theorem rd_fit {bs : List Nat} (h : bs ≠ []) : 1 ≤ (rd bs).2 ∧ (rd bs).2 ≤ bs.length ∧ (rd bs).2 ≤ 4 ∧ (rd bs).1 ≤ 1114111 := decodeN_fit (by cases bs with | nil => exact absurd rfl h | cons x xs => simp)
theorem rd_same {bs cs : List Nat} (h : ¬ Bad bs) (hb : bs ≠ []) (hn : (rd bs).2 ≤ cs.length) (hh : cs.take (rd bs).2 = bs.take (rd bs).2) : rd cs = rd bs := by
  obtain ⟨f1, f2, f3, f4⟩ := rd_fit hb
  have hat : ∀ i, i < (rd bs).2 → at' cs i = at' bs i := by
    intro i hi
    have := congrArg (fun l : List Nat => l[i]?) hh
    simp only [List.getElem?_take, hi, if_true] at this
    simp [at', List.getD_eq_getElem?_getD, this]
  have h0 : at' cs 0 = at' bs 0 := hat 0 (by omega)
  unfold rd
  rw [h0]
  exact decodeN_same h hn (hat 1) (hat 2) (hat 3)
theorem rd_app {bs : List Nat} (cs : List Nat) (h : ¬ Bad bs) (hb : bs ≠ []) : rd (bs ++ cs) = rd bs := by
  obtain ⟨f1, f2, _⟩ := rd_fit hb
  exact rd_same h hb (by rw [List.length_append]; omega) (List.take_append_of_le_length f2)

/-- The characters, and where none begins. -/
def decAll : Nat → List Nat → List Int × Option Nat
  | 0, _ => ([], none)
  | _ + 1, [] => ([], none)
  | f + 1, b :: bs => if Bad (b :: bs) then ([], some 0) else
      (((rd (b :: bs)).1 : Int) :: (decAll f ((b :: bs).drop (rd (b :: bs)).2)).1, (decAll f ((b :: bs).drop (rd (b :: bs)).2)).2.map (· + (rd (b :: bs)).2))
def chars (bs : List Nat) : List Int × Option Nat := decAll bs.length bs
theorem decAll_more : ∀ {f g : Nat} {bs : List Nat}, bs.length ≤ f → bs.length ≤ g → decAll f bs = decAll g bs
  | 0, 0, _, _, _ => rfl
  | 0, g + 1, [], _, _ => rfl
  | f + 1, 0, [], _, _ => rfl
  | f + 1, g + 1, [], _, _ => rfl
  | 0, _, b :: bs, h, _ => by simp at h
  | _ + 1, 0, b :: bs, _, h => by simp at h
  | f + 1, g + 1, b :: bs, h, h' => by
    obtain ⟨f1, f2, _⟩ := rd_fit (bs := b :: bs) (by simp)
    simp only [List.length_cons] at h h'
    have : ((b :: bs).drop (rd (b :: bs)).2).length ≤ f ∧ ((b :: bs).drop (rd (b :: bs)).2).length ≤ g := by rw [List.length_drop, List.length_cons]; omega
    unfold decAll
    rw [decAll_more this.1 this.2]
theorem chars_nil : chars [] = ([], none) := rfl
theorem chars_bad {bs : List Nat} (hb : bs ≠ []) (h : Bad bs) : chars bs = ([], some 0) := by
  cases bs with
  | nil => exact absurd rfl hb
  | cons b bs => unfold chars; rw [List.length_cons]; unfold decAll; rw [if_pos h]
theorem chars_step {bs : List Nat} (hb : bs ≠ []) (h : ¬ Bad bs) : chars bs = (((rd bs).1 : Int) :: (chars (bs.drop (rd bs).2)).1, (chars (bs.drop (rd bs).2)).2.map (· + (rd bs).2)) := by
  cases bs with
  | nil => exact absurd rfl hb
  | cons b bs =>
    obtain ⟨f1, f2, _⟩ := rd_fit (bs := b :: bs) (by simp)
    have : ((b :: bs).drop (rd (b :: bs)).2).length ≤ bs.length := by rw [List.length_drop, List.length_cons]; omega
    conv => lhs; unfold chars; rw [List.length_cons]; unfold decAll; rw [if_neg h, decAll_more this (Nat.le_refl _)]
    rfl
end Go.Proofs.YtliakckflcoffaaDoor.A
