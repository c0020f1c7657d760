/- Contracts of functions that the statement reaches; each theorem carries its own conditions, the last theorem of the claim has none. -/
import Derived.Test.YtnbnojkfhfkecaaDoorG1
import Derived.Lib.DecodeN
set_option linter.unusedVariables false
set_option linter.unusedSimpArgs false
namespace Go.Proofs.YtnbnojkfhfkecaaDoor.A.U
open Go Go.Abs
open Go.Lib (decodeN firstT accLo accHi slowN)

/-! Bits. -/
theorem and31 (n : Nat) (h : n < 256) : aBin .and .no (.int .u8 n) (.int .u8 31) = some (.int .u8 (n % 32 : Nat)) := by
  have : ∀ n : Fin 256, aBits .and .u8 (n.val : Int) 31 = some ((n.val % 32 : Nat) : Int) := by decide +kernel
  simp [aBin, aInt, this ⟨n, h⟩]
theorem and15 (n : Nat) (h : n < 256) : aBin .and .no (.int .u8 n) (.int .u8 15) = some (.int .u8 (n % 16 : Nat)) := by
  have : ∀ n : Fin 256, aBits .and .u8 (n.val : Int) 15 = some ((n.val % 16 : Nat) : Int) := by decide +kernel
  simp [aBin, aInt, this ⟨n, h⟩]
theorem and7 (n : Nat) (h : n < 256) : aBin .and .no (.int .u8 n) (.int .u8 7) = some (.int .u8 (n % 8 : Nat)) := by
  have : ∀ n : Fin 256, aBits .and .u8 (n.val : Int) 7 = some ((n.val % 8 : Nat) : Int) := by decide +kernel
  simp [aBin, aInt, this ⟨n, h⟩]
theorem and63 (n : Nat) (h : n < 256) : aBin .and .no (.int .u8 n) (.int .u8 63) = some (.int .u8 (n % 64 : Nat)) := by
  have : ∀ n : Fin 256, aBits .and .u8 (n.val : Int) 63 = some ((n.val % 64 : Nat) : Int) := by decide +kernel
  simp [aBin, aInt, this ⟨n, h⟩]
theorem shr4 (n : Nat) (h : n < 256) : aBin .shr .no (.int .u8 n) (.int .u64 4) = some (.int .u8 (n / 16 : Nat)) := by
  have h1 : ∀ n : Fin 256, (n.val : Int).fdiv (2 ^ min (4 : Int).toNat IntKind.u8.bits) = ((n.val / 16 : Nat) : Int) := by decide +kernel
  have : aInt .shr .u8 (n : Int) 4 = some (.int .u8 ((n / 16 : Nat) : Int)) := by
    simp only [aInt]
    rw [if_neg (by decide), h1 ⟨n, h⟩]
  simp [aBin, this]
theorem wrap32 {x : Int} (h : -2147483648 ≤ x) (h' : x ≤ 2147483647) : IntKind.i32.wrap x = x := by
  unfold IntKind.wrap
  simp [IntKind.bits, IntKind.signed]
  omega
theorem shl32 (k n : Nat) (hk : k < 31) (h : n * 2 ^ k < 2147483648) : aBin .shl .no (.int .i32 n) (.int .u64 k) = some (.int .i32 (n * 2 ^ k : Nat)) := by
  have e : ((k : Int)).toNat = k := by simp
  have : aInt .shl .i32 (n : Int) (k : Int) = some (.int .i32 (n * 2 ^ k : Nat)) := by
    simp only [aInt, e]
    rw [if_neg (by omega), show min k (IntKind.bits .i32) = k from Nat.min_eq_left (by simp [IntKind.bits]; omega)]
    have h2 : (n : Int) * 2 ^ k = ((n * 2 ^ k : Nat) : Int) := by push_cast; rfl
    rw [h2, wrap32 (by omega) (by omega)]
  simp [aBin, this]
theorem or32 (k a b : Nat) (hb : b < 2 ^ k) (h : a * 2 ^ k + b < 2147483648) : aBin .or .no (.int .i32 (a * 2 ^ k : Nat)) (.int .i32 (b : Nat)) = some (.int .i32 (a * 2 ^ k + b : Nat)) := by
  have h1 : (BitVec.ofInt 32 ((a * 2 ^ k : Nat) : Int) ||| BitVec.ofInt 32 (b : Int)).toNat = a * 2 ^ k + b := by
    rw [BitVec.toNat_or]
    have e1 : (BitVec.ofInt 32 ((a * 2 ^ k : Nat) : Int)).toNat = a * 2 ^ k := by rw [BitVec.ofInt_natCast, BitVec.toNat_ofNat]; omega
    have e2 : (BitVec.ofInt 32 ((b : Nat) : Int)).toNat = b := by rw [BitVec.ofInt_natCast, BitVec.toNat_ofNat]; omega
    rw [e1, e2, Nat.mul_comm, ← Nat.two_pow_add_eq_or_of_lt hb]
  have : aBits .or .i32 ((a * 2 ^ k : Nat) : Int) (b : Int) = some ((a * 2 ^ k + b : Nat) : Int) := by
    show some (IntKind.i32.wrap ((BitVec.ofInt 32 ((a * 2 ^ k : Nat) : Int) ||| BitVec.ofInt 32 (b : Int)).toNat : Int)) = _
    rw [h1, wrap32 (by omega) (by omega)]
  simp only [aBin, aInt, this]
  simp

/-! What characters bytes are. -/
def at' (bs : List Nat) (i : Nat) : Nat := bs.getD i 0
def rd (bs : List Nat) : Nat × Nat := decodeN bs.length (at' bs 0) (at' bs 1) (at' bs 2) (at' bs 3)
def Bad (bs : List Nat) : Prop := rd bs = (65533, 1)
instance (bs : List Nat) : Decidable (Bad bs) := by unfold Bad; infer_instance

set_option maxHeartbeats 4000000 in
theorem decodeN_fit {n b0 b1 b2 b3 : Nat} (hn : 1 ≤ n) : 1 ≤ (decodeN n b0 b1 b2 b3).2 ∧ (decodeN n b0 b1 b2 b3).2 ≤ n ∧ (decodeN n b0 b1 b2 b3).2 ≤ 4 ∧ (decodeN n b0 b1 b2 b3).1 ≤ 1114111 := by
  unfold decodeN
  repeat' split
  all_goals (simp only <;> omega)
set_option maxHeartbeats 4000000 in
theorem decodeN_one {n b0 b1 b2 b3 : Nat} (h : (decodeN n b0 b1 b2 b3).1 = 65533) (h2 : (decodeN n b0 b1 b2 b3).2 < 2) : decodeN n b0 b1 b2 b3 = (65533, 1) := by
  unfold decodeN at h h2 ⊢
  repeat' split
  all_goals first | rfl | (exfalso; simp_all <;> omega)
set_option maxHeartbeats 8000000 in
theorem decodeN_same {n n' b0 b1 b2 b3 c1 c2 c3 : Nat} (h : decodeN n b0 b1 b2 b3 ≠ (65533, 1)) (hn : (decodeN n b0 b1 b2 b3).2 ≤ n') (h1 : 1 < (decodeN n b0 b1 b2 b3).2 → c1 = b1) (h2 : 2 < (decodeN n b0 b1 b2 b3).2 → c2 = b2) (h3 : 3 < (decodeN n b0 b1 b2 b3).2 → c3 = b3) :
    decodeN n' b0 c1 c2 c3 = decodeN n b0 b1 b2 b3 := by
  unfold decodeN at h hn h1 h2 h3
  by_cases a : b0 < 128
  · unfold decodeN
    simp only [a, if_true]
  · simp only [a, if_false] at h hn h1 h2 h3
    by_cases p : b0 / 32 = 6 ∧ (1 < n ∧ b1 / 64 = 2)
    · simp only [p, and_self, if_true] at h hn h1 h2 h3
      split at h
      · rename_i q
        simp only [ge_iff_le] at q
        simp only [q, ge_iff_le, if_true] at hn h1
        obtain rfl := h1 (by decide)
        unfold decodeN
        simp only [a, if_false, p, q, ge_iff_le, and_self, if_true, show 1 < n' by omega]
      · exact absurd rfl h
    · by_cases p' : b0 / 16 = 14 ∧ (1 < n ∧ b1 / 64 = 2) ∧ (2 < n ∧ b2 / 64 = 2)
      · rw [if_neg p, if_pos p'] at h hn h1 h2 h3
        split at h
        · rename_i q
          rw [if_pos q] at hn h1 h2
          obtain rfl := h1 (show 1 < 3 by decide)
          obtain rfl := h2 (show 2 < 3 by decide)
          unfold decodeN
          simp only at hn
          rw [if_neg a, if_neg (by omega), if_pos (by omega), if_pos q, if_neg p, if_pos p', if_neg a]
        · exact absurd rfl h
      · by_cases p'' : b0 / 8 = 30 ∧ (1 < n ∧ b1 / 64 = 2) ∧ (2 < n ∧ b2 / 64 = 2) ∧ (3 < n ∧ b3 / 64 = 2)
        · rw [if_neg p, if_neg p', if_pos p''] at h hn h1 h2 h3
          split at h
          · rename_i q
            rw [if_pos q] at hn h1 h2
            obtain rfl := h1 (show 1 < 4 by decide)
            obtain rfl := h2 (show 2 < 4 by decide)
            rw [if_pos q] at h3
            obtain rfl := h3 (show 3 < 4 by decide)
            unfold decodeN
            simp only at hn
            rw [if_neg a, if_neg (by omega), if_neg (by omega), if_pos (by omega), if_pos q, if_neg p, if_neg p', if_pos p'', if_neg a]
          · exact absurd rfl h
        · rw [if_neg p, if_neg p', if_neg p''] at h
          exact absurd rfl h

theorem rd_fit {bs : List Nat} (h : bs ≠ []) : 1 ≤ (rd bs).2 ∧ (rd bs).2 ≤ bs.length ∧ (rd bs).2 ≤ 4 ∧ (rd bs).1 ≤ 1114111 := decodeN_fit (by cases bs with | nil => exact absurd rfl h | cons x xs => simp)
theorem rd_same {bs cs : List Nat} (h : ¬ Bad bs) (hb : bs ≠ []) (hn : (rd bs).2 ≤ cs.length) (hh : cs.take (rd bs).2 = bs.take (rd bs).2) : rd cs = rd bs := by
  obtain ⟨f1, f2, f3, f4⟩ := rd_fit hb
  have hat : ∀ i, i < (rd bs).2 → at' cs i = at' bs i := by
    intro i hi
    have := congrArg (fun l : List Nat => l[i]?) hh
    simp only [List.getElem?_take, hi, if_true] at this
    simp [at', List.getD_eq_getElem?_getD, this]
  have h0 : at' cs 0 = at' bs 0 := hat 0 (by omega)
  unfold rd
  rw [h0]
  exact decodeN_same h hn (hat 1) (hat 2) (hat 3)
theorem rd_app {bs : List Nat} (cs : List Nat) (h : ¬ Bad bs) (hb : bs ≠ []) : rd (bs ++ cs) = rd bs := by
  obtain ⟨f1, f2, _⟩ := rd_fit hb
  exact rd_same h hb (by rw [List.length_append]; omega) (List.take_append_of_le_length f2)

/-- The characters, and where none begins. -/
def decAll : Nat → List Nat → List Int × Option Nat
  | 0, _ => ([], none)
  | _ + 1, [] => ([], none)
  | f + 1, b :: bs => if Bad (b :: bs) then ([], some 0) else
      (((rd (b :: bs)).1 : Int) :: (decAll f ((b :: bs).drop (rd (b :: bs)).2)).1, (decAll f ((b :: bs).drop (rd (b :: bs)).2)).2.map (· + (rd (b :: bs)).2))
def chars (bs : List Nat) : List Int × Option Nat := decAll bs.length bs
theorem decAll_more : ∀ {f g : Nat} {bs : List Nat}, bs.length ≤ f → bs.length ≤ g → decAll f bs = decAll g bs
  | 0, 0, _, _, _ => rfl
  | 0, g + 1, [], _, _ => rfl
  | f + 1, 0, [], _, _ => rfl
  | f + 1, g + 1, [], _, _ => rfl
  | 0, _, b :: bs, h, _ => by simp at h
  | _ + 1, 0, b :: bs, _, h => by simp at h
  | f + 1, g + 1, b :: bs, h, h' => by
    obtain ⟨f1, f2, _⟩ := rd_fit (bs := b :: bs) (by simp)
    simp only [List.length_cons] at h h'
    have : ((b :: bs).drop (rd (b :: bs)).2).length ≤ f ∧ ((b :: bs).drop (rd (b :: bs)).2).length ≤ g := by rw [List.length_drop, List.length_cons]; omega
    unfold decAll
    rw [decAll_more this.1 this.2]
theorem chars_nil : chars [] = ([], none) := rfl
theorem chars_bad {bs : List Nat} (hb : bs ≠ []) (h : Bad bs) : chars bs = ([], some 0) := by
  cases bs with
  | nil => exact absurd rfl hb
  | cons b bs => unfold chars; rw [List.length_cons]; unfold decAll; rw [if_pos h]
theorem chars_step {bs : List Nat} (hb : bs ≠ []) (h : ¬ Bad bs) : chars bs = (((rd bs).1 : Int) :: (chars (bs.drop (rd bs).2)).1, (chars (bs.drop (rd bs).2)).2.map (· + (rd bs).2)) := by
  cases bs with
  | nil => exact absurd rfl hb
  | cons b bs =>
    obtain ⟨f1, f2, _⟩ := rd_fit (bs := b :: bs) (by simp)
    have : ((b :: bs).drop (rd (b :: bs)).2).length ≤ bs.length := by rw [List.length_drop, List.length_cons]; omega
    conv => lhs; unfold chars; rw [List.length_cons]; unfold decAll; rw [if_neg h, decAll_more this (Nat.le_refl _)]
    rfl
theorem ACalls.eq' {f : FuncId} {args : List Value} {H : AHeap} {r : Value} (h : ACalls Tryd.prog f args H fun v H' => v = r ∧ Keep H.next H H') (hp : VIn (fun c => c < H.next) r) : ACalls Tryd.prog f args H fun v H' => v = r ∧ H' = H :=
  ACalls.pure (L := fun v => v = r) h fun v hv => by subst hv; exact hp
theorem vin_two {K : Nat → Prop} {a b : Value} (ha : Abs.plainCell a = true) (hb : Abs.plainCell b = true) : VIn K (.tuple #[a, b]) := by
  refine .tuple fun i u h => ?_
  match i, h with
  | 0, h => simp at h; subst h; exact .plain ha
  | 1, h => simp at h; subst h; exact .plain hb
  | i + 2, h => simp at h

abbrev eN (x : Nat) : List Value := [Value.int .u8 (x : Int)]
abbrev BytesN (lo : Nat) (H : AHeap) (A : Option Addr) (xs : List Nat) : Prop := Rd 1 eN lo H A xs
theorem BytesN.get {lo : Nat} {H : AHeap} {A : Option Addr} {bs : List Nat} (h : BytesN lo H A bs) {i : Nat} (hi : i < bs.length) : aLdCell (slot 1 A i) H = some (.int .u8 (at' bs i : Nat)) := by
  rw [h.ld hi]
  simp [at', List.getD_eq_getElem?_getD, List.getElem?_eq_getElem hi]
theorem at'_lt {bs : List Nat} (h : ∀ x ∈ bs, x < 256) (i : Nat) : at' bs i < 256 := by
  unfold at'
  rw [List.getD_eq_getElem?_getD]
  by_cases hi : i < bs.length
  · rw [List.getElem?_eq_getElem hi]; exact h _ (List.getElem_mem hi)
  · rw [List.getElem?_eq_none (by omega)]; decide

theorem w32 (n : Nat) (h : n < 2147483648) : IntKind.i32.wrap ((n : Nat) : Int) = (n : Nat) := wrap32 (by omega) (by omega)
theorem w64 (n : Nat) (h : n < 9223372036854775808) : IntKind.i64.wrap ((n : Nat) : Int) = (n : Nat) := wrap64 (by omega) (by omega)
theorem rd_ascii {bs : List Nat} (h : at' bs 0 < 128) : rd bs = (at' bs 0, 1) := by unfold rd decodeN; rw [if_pos h]
theorem rd_none {bs : List Nat} (h : (128 ≤ at' bs 0 ∧ at' bs 0 < 194) ∨ 245 ≤ at' bs 0) (hb : ∀ i, at' bs i < 256) : rd bs = (65533, 1) := by
  have h0 := hb 0
  have h1 := hb 1
  have h2 := hb 2
  have h3 := hb 3
  unfold rd
  generalize at' bs 0 = b0 at *
  generalize at' bs 1 = b1 at *
  generalize at' bs 2 = b2 at *
  generalize at' bs 3 = b3 at *
  unfold decodeN
  repeat' split
  all_goals first | rfl | (exfalso; omega)


end Go.Proofs.YtnbnojkfhfkecaaDoor.A.U

set_option linter.unusedVariables false
set_option linter.unusedSimpArgs false
namespace Go.Proofs.YtnbnojkfhfkecaaDoor.A.U
open Go Go.Abs
open Go.Lib (decodeN firstT accLo accHi slowN)

def scal (c : Int) : Bool := decide (0 ≤ c) && decide (c ≤ 1114111) && !(decide (55296 ≤ c) && decide (c ≤ 57343))
theorem c47 {H : AHeap} {c : Int} : ACalls Tryd.prog 47 [.int .i64 c] H fun v H' => v = .bool (scal c) ∧ H' = H := by
  refine ACalls.eq (S47_calls ?_) rfl
  unfold S47
  by_cases h1 : 0 ≤ c
  · by_cases h2 : c ≤ 1114111
    · by_cases h3 : 55296 ≤ c
      · simp [h1, h2, h3, scal]
      · simp [h1, h2, h3, scal]
    · simp [h1, h2, scal]
  · simp [h1, scal]

/-- The bytes of a character. -/
def enc (c : Nat) : List Nat :=
  if c < 128 then [c] else if c < 2048 then [192 + c / 64, 128 + c % 64] else if c < 65536 then [224 + c / 4096, 128 + c / 64 % 64, 128 + c % 64]
  else [240 + c / 262144, 128 + c / 4096 % 64, 128 + c / 64 % 64, 128 + c % 64]
theorem enc_lt {c : Nat} (h : c ≤ 1114111) : ∀ x ∈ enc c, x < 256 := by
  intro x hx
  unfold enc at hx
  (repeat' split at hx) <;> simp at hx <;> omega
theorem quoN (c d : Nat) (hd : 0 < d) (hc : c < 4611686018427387904) : aBin .quo .no (.int .i64 (c : Int)) (.int .i64 (d : Int)) = some (.int .i64 ((c / d : Nat) : Int)) := by
  have e : (c : Int).tdiv (d : Int) = ((c / d : Nat) : Int) := (Int.ofNat_tdiv c d).symm
  rw [aBin_quo _ _ _ _ (by omega), e, w64 _ (Nat.lt_of_le_of_lt (Nat.div_le_self _ _) (by omega))]
theorem remN (c d : Nat) (hd : 0 < d) : aBin .rem .no (.int .i64 (c : Int)) (.int .i64 (d : Int)) = some (.int .i64 ((c % d : Nat) : Int)) := by
  have e : (c : Int).tmod (d : Int) = ((c % d : Nat) : Int) := (Int.ofNat_tmod c d).symm
  rw [aBin_rem _ _ _ _ (by omega), e]
theorem addN (c d : Nat) (h : c + d < 4611686018427387904) : aBin .add .no (.int .i64 (c : Int)) (.int .i64 (d : Int)) = some (.int .i64 ((c + d : Nat) : Int)) := by
  rw [aBin_add, ← Int.natCast_add, w64 _ (by omega)]
theorem convU8 (c : Nat) (h : c < 256) : aConvInt .u8 (.int .i64 (c : Int)) = some (.int .u8 (c : Int)) := by
  have : IntKind.u8.wrap (c : Int) = c := by
    unfold IntKind.wrap
    simp [IntKind.bits, IntKind.signed]
    omega
  simp [this]

set_option maxRecDepth 100000 in
theorem c31 {H : AHeap} {c : Nat} (h : c ≤ 1114111) : ACalls Tryd.prog 31 [.int .i64 (c : Nat)] H fun v H' => ∃ A, v = .slice A (enc c).length (enc c).length ∧ Ow 1 eN 5 H.next H' A (enc c) ∧ Keep H.next H H' := by
  refine S31_calls ?_
  unfold S31
  have fin : ∀ l : List Nat, enc c = l → (∃ A, (Value.slice (some ⟨H.next, 0, none⟩) l.length l.length) = .slice A (enc c).length (enc c).length ∧ Ow 1 eN 5 H.next (H.alloc (.cells (l.flatMap eN) (.row 1) 5)) A (enc c) ∧ Keep H.next H (H.alloc (.cells (l.flatMap eN) (.row 1) 5))) := by
    intro l hl
    rw [hl]
    exact ⟨_, rfl, Ow.new H _ (by simp) rfl, (Keep.refl _ _).alloc (Nat.le_refl _) _⟩
  have r1 : aBin .rem .no (.int .i64 (c : Int)) (.int .i64 64) = some (.int .i64 ((c % 64 : Nat) : Int)) := remN c 64 (by decide)
  have a1 : aBin .add .no (.int .i64 128) (.int .i64 ((c % 64 : Nat) : Int)) = some (.int .i64 ((128 + c % 64 : Nat) : Int)) := addN 128 (c % 64) (by omega)
  have u1 := convU8 (128 + c % 64) (by omega)
  have q1 : aBin .quo .no (.int .i64 (c : Int)) (.int .i64 64) = some (.int .i64 ((c / 64 : Nat) : Int)) := quoN c 64 (by decide) (by omega)
  have q2 : aBin .quo .no (.int .i64 (c : Int)) (.int .i64 4096) = some (.int .i64 ((c / 4096 : Nat) : Int)) := quoN c 4096 (by decide) (by omega)
  have q3 : aBin .quo .no (.int .i64 (c : Int)) (.int .i64 262144) = some (.int .i64 ((c / 262144 : Nat) : Int)) := quoN c 262144 (by decide) (by omega)
  have r2 : aBin .rem .no (.int .i64 ((c / 64 : Nat) : Int)) (.int .i64 64) = some (.int .i64 ((c / 64 % 64 : Nat) : Int)) := remN (c / 64) 64 (by decide)
  have r3 : aBin .rem .no (.int .i64 ((c / 4096 : Nat) : Int)) (.int .i64 64) = some (.int .i64 ((c / 4096 % 64 : Nat) : Int)) := remN (c / 4096) 64 (by decide)
  have a2 : aBin .add .no (.int .i64 128) (.int .i64 ((c / 64 % 64 : Nat) : Int)) = some (.int .i64 ((128 + c / 64 % 64 : Nat) : Int)) := addN 128 _ (by omega)
  have a3 : aBin .add .no (.int .i64 128) (.int .i64 ((c / 4096 % 64 : Nat) : Int)) = some (.int .i64 ((128 + c / 4096 % 64 : Nat) : Int)) := addN 128 _ (by omega)
  have u2 := convU8 (128 + c / 64 % 64) (by omega)
  have u3 := convU8 (128 + c / 4096 % 64) (by omega)
  by_cases h1 : c < 128
  · have u0 := convU8 c (by omega)
    have := fin [c] (by unfold enc; rw [if_pos h1])
    simp only [aBin_lss, show (c : Int) < 128 by omega, decide_true, bnd_some', aCond_true, u0, aBuildSlice_eq]
    simpa [aFill, setCells, eN] using this
  by_cases h2 : c < 2048
  · have b1 : aBin .add .no (.int .i64 192) (.int .i64 ((c / 64 : Nat) : Int)) = some (.int .i64 ((192 + c / 64 : Nat) : Int)) := addN 192 _ (by omega)
    have v1 := convU8 (192 + c / 64) (by omega)
    have := fin [192 + c / 64, 128 + c % 64] (by unfold enc; rw [if_neg h1, if_pos h2])
    simp only [aBin_lss, show ¬ (c : Int) < 128 by omega, show (c : Int) < 2048 by omega, decide_true, decide_false, bnd_some', aCond_true, aCond_false]
    unfold S31_13
    simp only [q1, b1, v1, r1, a1, u1, bnd_some', aBuildSlice_eq]
    simpa [aFill, setCells, eN] using this
  by_cases h3 : c < 65536
  · have b1 : aBin .add .no (.int .i64 224) (.int .i64 ((c / 4096 : Nat) : Int)) = some (.int .i64 ((224 + c / 4096 : Nat) : Int)) := addN 224 _ (by omega)
    have v1 := convU8 (224 + c / 4096) (by omega)
    have := fin [224 + c / 4096, 128 + c / 64 % 64, 128 + c % 64] (by unfold enc; rw [if_neg h1, if_neg h2, if_pos h3])
    simp only [aBin_lss, show ¬ (c : Int) < 128 by omega, show ¬ (c : Int) < 2048 by omega, show (c : Int) < 65536 by omega, decide_true, decide_false, bnd_some', aCond_true, aCond_false]
    unfold S31_27
    simp only [q2, b1, v1, q1, r2, a2, u2, r1, a1, u1, bnd_some', aBuildSlice_eq]
    simpa [aFill, setCells, eN] using this
  · have b1 : aBin .add .no (.int .i64 240) (.int .i64 ((c / 262144 : Nat) : Int)) = some (.int .i64 ((240 + c / 262144 : Nat) : Int)) := addN 240 _ (by omega)
    have v1 := convU8 (240 + c / 262144) (by omega)
    have := fin [240 + c / 262144, 128 + c / 4096 % 64, 128 + c / 64 % 64, 128 + c % 64] (by unfold enc; rw [if_neg h1, if_neg h2, if_neg h3])
    simp only [aBin_lss, show ¬ (c : Int) < 128 by omega, show ¬ (c : Int) < 2048 by omega, show ¬ (c : Int) < 65536 by omega, decide_true, decide_false, bnd_some', aCond_true, aCond_false]
    unfold S31_44
    simp only [q3, b1, v1, q2, r3, a3, u3, q1, r2, a2, u2, r1, a1, u1, bnd_some', aBuildSlice_eq]
    simpa [aFill, setCells, eN] using this

/-! One character, by definition. -/
def cont (x : Nat) : Prop := 128 ≤ x ∧ x < 192
instance (x : Nat) : Decidable (cont x) := by unfold cont; infer_instance
set_option maxRecDepth 100000 in
theorem rd2 {ds : List Nat} (hb : ∀ i, at' ds i < 256) (h : 192 ≤ at' ds 0 ∧ at' ds 0 < 224) :
    rd ds = if 2 ≤ ds.length ∧ cont (at' ds 1) ∧ 128 ≤ (at' ds 0 - 192) * 64 + (at' ds 1 - 128) then ((at' ds 0 - 192) * 64 + (at' ds 1 - 128), 2) else (65533, 1) := by
  have h1 := hb 1
  unfold rd cont
  generalize at' ds 0 = b0 at *
  generalize at' ds 1 = b1 at *
  generalize at' ds 2 = b2 at *
  generalize at' ds 3 = b3 at *
  generalize ds.length = n at *
  unfold decodeN
  (repeat' split) <;> first | (exfalso; omega) | (apply Prod.ext <;> simp only <;> omega)
set_option maxRecDepth 100000 in
set_option maxHeartbeats 2000000 in
theorem rd3 {ds : List Nat} (hb : ∀ i, at' ds i < 256) (h : 224 ≤ at' ds 0 ∧ at' ds 0 < 240) :
    rd ds = if 3 ≤ ds.length ∧ cont (at' ds 1) ∧ cont (at' ds 2) ∧ 2048 ≤ (at' ds 0 - 224) * 4096 + (at' ds 1 - 128) * 64 + (at' ds 2 - 128) ∧ ¬ (55296 ≤ (at' ds 0 - 224) * 4096 + (at' ds 1 - 128) * 64 + (at' ds 2 - 128) ∧ (at' ds 0 - 224) * 4096 + (at' ds 1 - 128) * 64 + (at' ds 2 - 128) ≤ 57343)
      then ((at' ds 0 - 224) * 4096 + (at' ds 1 - 128) * 64 + (at' ds 2 - 128), 3) else (65533, 1) := by
  have h1 := hb 1
  have h2 := hb 2
  unfold rd cont
  generalize at' ds 0 = b0 at *
  generalize at' ds 1 = b1 at *
  generalize at' ds 2 = b2 at *
  generalize at' ds 3 = b3 at *
  generalize ds.length = n at *
  unfold decodeN
  (repeat' split) <;> first | (exfalso; omega) | (apply Prod.ext <;> simp only <;> omega)
set_option maxRecDepth 100000 in
set_option maxHeartbeats 4000000 in
theorem rd4 {ds : List Nat} (hb : ∀ i, at' ds i < 256) (h : 240 ≤ at' ds 0 ∧ at' ds 0 < 248) :
    rd ds = if 4 ≤ ds.length ∧ cont (at' ds 1) ∧ cont (at' ds 2) ∧ cont (at' ds 3) ∧ 65536 ≤ (at' ds 0 - 240) * 262144 + (at' ds 1 - 128) * 4096 + (at' ds 2 - 128) * 64 + (at' ds 3 - 128) ∧ (at' ds 0 - 240) * 262144 + (at' ds 1 - 128) * 4096 + (at' ds 2 - 128) * 64 + (at' ds 3 - 128) ≤ 1114111
      then ((at' ds 0 - 240) * 262144 + (at' ds 1 - 128) * 4096 + (at' ds 2 - 128) * 64 + (at' ds 3 - 128), 4) else (65533, 1) := by
  have h1 := hb 1
  have h2 := hb 2
  have h3 := hb 3
  unfold rd cont
  generalize at' ds 0 = b0 at *
  generalize at' ds 1 = b1 at *
  generalize at' ds 2 = b2 at *
  generalize at' ds 3 = b3 at *
  generalize ds.length = n at *
  unfold decodeN
  (repeat' split) <;> first | (exfalso; omega) | (apply Prod.ext <;> simp only <;> omega)
end Go.Proofs.YtnbnojkfhfkecaaDoor.A.U

set_option linter.unusedVariables false
set_option linter.unusedSimpArgs false
namespace Go.Proofs.YtnbnojkfhfkecaaDoor.A.U
open Go Go.Abs
open Go.Lib (decodeN firstT accLo accHi slowN)

def cvN (c0 : Nat) (ds : List Nat) : Nat → Nat
  | 0 => c0
  | i + 1 => cvN c0 ds i * 64 + at' ds (i + 1) - 128
theorem cvN_succ (c0 : Nat) (ds : List Nat) (i : Nat) : cvN c0 ds (i + 1) = cvN c0 ds i * 64 + at' ds (i + 1) - 128 := rfl
theorem cvN_lt {c0 : Nat} {ds : List Nat} : ∀ {i : Nat}, (∀ j, 1 ≤ j → j ≤ i → cont (at' ds j)) → cvN c0 ds i < (c0 + 1) * 64 ^ i
  | 0, _ => by show c0 < (c0 + 1) * 64 ^ 0; rw [Nat.pow_zero]; omega
  | i + 1, h => by
    have ih := cvN_lt (c0 := c0) (ds := ds) (i := i) fun j h1 h2 => h j h1 (by omega)
    have hc := h (i + 1) (by omega) (Nat.le_refl _)
    unfold cont at hc
    rw [cvN_succ, Nat.pow_succ, ← Nat.mul_assoc]
    omega
theorem scal_le {c : Nat} (h : scal (c : Int) = true) : c ≤ 1114111 := by
  simp [scal] at h
  omega
theorem at'_drop (bs : List Nat) (a j : Nat) : at' (bs.drop a) j = at' bs (a + j) := by
  simp [at', List.getD_eq_getElem?_getD, List.getElem?_drop]

set_option maxRecDepth 100000 in
theorem l103 {lo a k c0 : Nat} {H : AHeap} {A : Option Addr} {bs : List Nat} {R : Value → AHeap → Prop} (hA : BytesN lo H A bs) (hb : ∀ x ∈ bs, x < 256) (ha : a < bs.length) (hlen : bs.length ≤ 140737488355328) (hk1 : 1 ≤ k) (hk4 : k ≤ 4) (hc0 : c0 < 128)
    (hbad : Bad (bs.drop a) → ∀ H', Keep H.next H H' → R (.tuple #[.int .i64 0, .int .i64 0]) H')
    (hgood : ¬ Bad (bs.drop a) → ∀ H', Keep H.next H H' → R (.tuple #[.int .i64 ((rd (bs.drop a)).1 : Nat), .int .i64 ((rd (bs.drop a)).2 : Nat)]) H')
    (p2 : (bs.drop a).length < k → Bad (bs.drop a)) (p3 : ∀ j, 1 ≤ j → j < k → j < (bs.drop a).length → ¬ cont (at' (bs.drop a) j) → Bad (bs.drop a))
    (p4 : k ≤ (bs.drop a).length → (∀ j, 1 ≤ j → j < k → cont (at' (bs.drop a) j)) → if scal (cvN c0 (bs.drop a) (k - 1) : Nat) = true ∧ (enc (cvN c0 (bs.drop a) (k - 1))).length = k then rd (bs.drop a) = (cvN c0 (bs.drop a) (k - 1), k) ∧ ¬ Bad (bs.drop a) else Bad (bs.drop a)) :
    S30_103 (.slice A bs.length bs.length) (.int .i64 (a : Nat)) R [.int .i64 (c0 : Nat), .int .i64 (k : Nat)] H := by
  have hdl : (bs.drop a).length = bs.length - a := List.length_drop
  unfold S30_103
  simp only [nth_zero, nth_1, addN a k (by omega), bnd_some', aLenSl_slice, aBin_gtr]
  by_cases hfit : bs.length < a + k
  · simp only [show (bs.length : Int) < ((a + k : Nat) : Int) by omega, decide_true, aCond_true]
    exact hbad (p2 (by omega)) _ (Keep.refl _ _)
  simp only [show ¬ (bs.length : Int) < ((a + k : Nat) : Int) by omega, decide_false, aCond_false]
  have hat := at'_drop bs a
  generalize hds : bs.drop a = ds at *
  refine aLoop_vs 4 (fun i vs H' => vs = [.int .i64 (cvN c0 ds i : Nat), .int .i64 ((i + 1 : Nat))] ∧ H' = H ∧ i + 1 ≤ k ∧ ∀ j, 1 ≤ j → j ≤ i → cont (at' ds j)) ⟨rfl, rfl, by omega, fun j h1 h2 => by omega⟩ ?_
  rintro i vs H' again hi ⟨rfl, rfl, hik, hcont⟩ hag
  have hcv := cvN_lt (c0 := c0) hcont
  have hcv2 : cvN c0 ds i < 33554432 := by
    refine Nat.lt_of_lt_of_le hcv ?_
    have : 64 ^ i ≤ 64 ^ 3 := Nat.pow_le_pow_right (by decide) (by omega)
    calc (c0 + 1) * 64 ^ i ≤ 128 * 64 ^ 3 := Nat.mul_le_mul (by omega) this
      _ = 33554432 := by decide
  unfold S30_63
  by_cases hlt : i + 1 < k
  · have hx := at'_lt hb (a + (i + 1))
    have i1 := hA.idx (k := .i64) (j := ((a + (i + 1) : Nat) : Int)) (c := bs.length) (by omega) (by omega)
    have ld := BytesN.get hA (i := a + (i + 1)) (by omega)
    rw [Int.toNat_natCast] at i1
    rw [← hat] at ld hx
    simp only [nth_zero, nth_1, aBin_lss, show ((i + 1 : Nat) : Int) < (k : Nat) by omega, decide_true, bnd_some', aCond_true]
    unfold S30_33
    simp only [nth_zero, nth_1, addN a (i + 1) (by omega), bnd_some', i1, ld, aConvInt_int, w64 (at' ds (i + 1)) (by omega), aBin_lss, aBin_geq]
    by_cases q1 : at' ds (i + 1) < 128
    · simp only [show ((at' ds (i + 1) : Nat) : Int) < 128 by omega, decide_true]
      simp
      exact hbad (p3 (i + 1) (by omega) hlt (by omega) (by unfold cont; omega)) _ (Keep.refl _ _)
    by_cases q2 : 192 ≤ at' ds (i + 1)
    · simp only [show ¬ ((at' ds (i + 1) : Nat) : Int) < 128 by omega, show (192 : Int) ≤ ((at' ds (i + 1) : Nat) : Int) by omega, decide_true, decide_false]
      simp [show (192 : Int) ≤ ((at' ds (i + 1) : Nat) : Int) by omega]
      exact hbad (p3 (i + 1) (by omega) hlt (by omega) (by unfold cont; omega)) _ (Keep.refl _ _)
    simp [show ¬ ((at' ds (i + 1) : Nat) : Int) < 128 by omega, show ¬ (192 : Int) ≤ ((at' ds (i + 1) : Nat) : Int) by omega]
    have e1 := wrap64 (x := (cvN c0 ds i : Int) * 64) (by omega) (by omega)
    have e2 := wrap64 (x := (cvN c0 ds i : Int) * 64 + at' ds (i + 1)) (by omega) (by omega)
    have e3 := wrap64 (x := (cvN c0 ds i : Int) * 64 + at' ds (i + 1) - 128) (by omega) (by omega)
    have e4 := wrap64 (x := (i : Int) + 1 + 1) (by omega) (by omega)
    have := hag [.int .i64 (cvN c0 ds (i + 1) : Nat), .int .i64 ((i + 1 + 1 : Nat))] H' (by omega) ⟨rfl, rfl, by omega, fun j h1 h2 => by
      rcases Nat.lt_or_ge j (i + 1) with h3 | h3
      · exact hcont j h1 (by omega)
      · obtain rfl : j = i + 1 := by omega
        unfold cont; omega⟩
    rw [show ((cvN c0 ds (i + 1) : Nat) : Int) = (cvN c0 ds i : Int) * 64 + at' ds (i + 1) - 128 by rw [cvN_succ]; omega, show ((i + 1 + 1 : Nat) : Int) = (i : Int) + 1 + 1 by omega] at this
    unfold S30_32
    simp [e1, e2, e3, e4]
    exact this
  · have hie : k - 1 = i := by omega
    have hp := p4 (by omega) fun j h1 h2 => hcont j h1 (by omega)
    rw [hie] at hp
    simp only [nth_zero, nth_1, aBin_lss, show ¬ ((i + 1 : Nat) : Int) < (k : Nat) by omega, decide_false, bnd_some', aCond_false]
    refine c47.use ?_
    unfold S30_62
    by_cases hs : scal (cvN c0 ds i : Nat) = true
    · simp [hs]
      refine (c31 (scal_le hs)).mono fun v H1 hv => ?_
      obtain ⟨B, rfl, _, k1⟩ := hv
      by_cases hl : (enc (cvN c0 ds i)).length = k
      · rw [if_pos ⟨hs, hl⟩] at hp
        have := hgood hp.2 H1 k1
        rw [hp.1] at this
        simp [hl]
        exact this
      · rw [if_neg (by simp [hl])] at hp
        have hl' : ¬ ((enc (cvN c0 ds i)).length : Int) = k := by omega
        simp [hl, hl']
        exact hbad hp _ k1
    · rw [if_neg (by simp [hs])] at hp
      simp [hs]
      exact hbad hp _ (Keep.refl _ _)

theorem ite_of {p q r : Prop} [Decidable p] (h1 : p → q) (h2 : ¬ p → r) : if p then q else r := by
  by_cases h : p
  · rw [if_pos h]; exact h1 h
  · rw [if_neg h]; exact h2 h
def oneV (ds : List Nat) : Nat × Nat := if Bad ds then (0, 0) else rd ds
set_option maxRecDepth 100000 in
theorem c30 {lo a : Nat} {H : AHeap} {A : Option Addr} {bs : List Nat} (hA : BytesN lo H A bs) (hb : ∀ x ∈ bs, x < 256) (ha : a < bs.length) (hlen : bs.length ≤ 140737488355328) :
    ACalls Tryd.prog 30 [.slice A bs.length bs.length, .int .i64 (a : Nat)] H fun v H' => v = .tuple #[.int .i64 ((oneV (bs.drop a)).1 : Nat), .int .i64 ((oneV (bs.drop a)).2 : Nat)] ∧ H' = H := by
  refine ACalls.eq' (S30_calls ?_) (vin_two rfl rfl)
  have i1 := hA.idx (k := .i64) (j := (a : Int)) (c := bs.length) (by omega) (by omega)
  have ld := BytesN.get hA (i := a) ha
  rw [Int.toNat_natCast] at i1
  have hd0 : at' (bs.drop a) 0 = at' bs a := at'_drop bs a 0
  rw [← hd0] at ld
  have g : ∀ i, at' (bs.drop a) i < 256 := at'_lt fun x hx => hb x (List.mem_of_mem_drop hx)
  have g0 := g 0
  have hdl : (bs.drop a).length = bs.length - a := List.length_drop
  generalize hR : (fun v H' => v = .tuple #[.int .i64 ((oneV (bs.drop a)).1 : Nat), .int .i64 ((oneV (bs.drop a)).2 : Nat)] ∧ Keep H.next H H' : Value → AHeap → Prop) = R
  have hbad : Bad (bs.drop a) → ∀ H', Keep H.next H H' → R (.tuple #[.int .i64 0, .int .i64 0]) H' := by
    intro h H' hk
    subst hR
    simp [oneV, h, hk]
  have hgood : ¬ Bad (bs.drop a) → ∀ H', Keep H.next H H' → R (.tuple #[.int .i64 ((rd (bs.drop a)).1 : Nat), .int .i64 ((rd (bs.drop a)).2 : Nat)]) H' := by
    intro h H' hk
    subst hR
    simp [oneV, h, hk]
  have H103 := fun k c0 => l103 (k := k) (c0 := c0) (R := R) hA hb ha hlen
  have cc : ∀ c, (enc c).length = if c < 128 then 1 else if c < 2048 then 2 else if c < 65536 then 3 else 4 := by intro c; unfold enc; (repeat' split) <;> rfl
  unfold S30
  simp [i1, ld]
  rw [aJoin_eq]
  have w0 := w64 (at' (bs.drop a) 0) (by omega)
  generalize hds : bs.drop a = ds at *
  generalize hb0 : at' ds 0 = b0 at *
  simp only [w0]
  have hsub : ∀ d : Nat, d ≤ b0 → IntKind.i64.wrap ((b0 : Int) - (d : Int)) = ((b0 - d : Nat) : Int) := by
    intro d hd
    rw [show (b0 : Int) - (d : Int) = ((b0 - d : Nat) : Int) by omega, w64 _ (by omega)]
  have s4 : 240 ≤ b0 → IntKind.i64.wrap ((b0 : Int) - 240) = ((b0 - 240 : Nat) : Int) := hsub 240
  have s3 : 224 ≤ b0 → IntKind.i64.wrap ((b0 : Int) - 224) = ((b0 - 224 : Nat) : Int) := hsub 224
  have s2 : 192 ≤ b0 → IntKind.i64.wrap ((b0 : Int) - 192) = ((b0 - 192 : Nat) : Int) := hsub 192
  by_cases k4 : 240 ≤ b0
  · by_cases k4' : b0 < 248
    · have hr := rd4 (ds := ds) g (by omega)
      rw [hb0] at hr
      have hh := H103 4 (b0 - 240) (by decide) (by decide) (by omega) hbad hgood (fun h => by unfold Bad; rw [hr, if_neg (by omega)])
        (fun j h1 h2 h3 h4 => by
          unfold Bad
          rw [hr, if_neg]
          rintro ⟨_, c1, c2, c3, _⟩
          match j, h1, h2, h4 with
          | 1, _, _, h4 => exact h4 c1
          | 2, _, _, h4 => exact h4 c2
          | 3, _, _, h4 => exact h4 c3)
        (fun hk hc => by
          have c1 := hc 1 (by decide) (by decide)
          have c2 := hc 2 (by decide) (by decide)
          have c3 := hc 3 (by decide) (by decide)
          have hv : cvN (b0 - 240) ds (4 - 1) = (b0 - 240) * 262144 + (at' ds 1 - 128) * 4096 + (at' ds 2 - 128) * 64 + (at' ds 3 - 128) := by
            show ((((b0 - 240) * 64 + at' ds (0 + 1) - 128) * 64 + at' ds (1 + 1) - 128) * 64 + at' ds (2 + 1) - 128) = _
            unfold cont at c1 c2 c3
            simp only [Nat.zero_add, Nat.reduceAdd]
            omega
          rw [hv, cc]
          generalize hV : (b0 - 240) * 262144 + (at' ds 1 - 128) * 4096 + (at' ds 2 - 128) * 64 + (at' ds 3 - 128) = V at *
          refine ite_of (fun hh => ?_) (fun hh => ?_)
          · obtain ⟨h1, h2⟩ := hh
            have h1' : V ≤ 1114111 := scal_le h1
            have h2' : 65536 ≤ V := by
              revert h2
              (repeat' split) <;> omega
            have : rd ds = (V, 4) := by rw [hr, if_pos ⟨hk, c1, c2, c3, h2', h1'⟩]
            exact ⟨this, by unfold Bad; rw [this]; simp⟩
          · unfold Bad
            rw [hr, if_neg]
            rintro ⟨_, _, _, _, h5, h6⟩
            refine hh ⟨?_, ?_⟩
            · simp [scal]; omega
            · rw [if_neg (by omega), if_neg (by omega), if_neg (by omega)])
      simp [show (240 : Int) ≤ (b0 : Int) by omega, show (b0 : Int) < 248 by omega, s4 k4]
      exact hh
    · have hB : Bad ds := rd_none (by omega) g
      simp [show (240 : Int) ≤ (b0 : Int) by omega, show ¬ (b0 : Int) < 248 by omega]
      unfold S30_102
      simp [show (224 : Int) ≤ (b0 : Int) by omega, show ¬ (b0 : Int) < 240 by omega]
      unfold S30_101
      simp [show (192 : Int) ≤ (b0 : Int) by omega, show ¬ (b0 : Int) < 224 by omega, show (128 : Int) ≤ (b0 : Int) by omega]
      exact hbad hB _ (Keep.refl _ _)
  have n4 : ¬ (240 : Int) ≤ (b0 : Int) := by omega
  simp [n4]
  unfold S30_102
  by_cases k3 : 224 ≤ b0
  · have hr := rd3 (ds := ds) g (by omega)
    rw [hb0] at hr
    have hh := H103 3 (b0 - 224) (by decide) (by decide) (by omega) hbad hgood (fun h => by unfold Bad; rw [hr, if_neg (by omega)])
      (fun j h1 h2 h3 h4 => by
        unfold Bad
        rw [hr, if_neg]
        rintro ⟨_, c1, c2, _⟩
        match j, h1, h2, h4 with
        | 1, _, _, h4 => exact h4 c1
        | 2, _, _, h4 => exact h4 c2)
      (fun hk hc => by
        have c1 := hc 1 (by decide) (by decide)
        have c2 := hc 2 (by decide) (by decide)
        have hv : cvN (b0 - 224) ds (3 - 1) = (b0 - 224) * 4096 + (at' ds 1 - 128) * 64 + (at' ds 2 - 128) := by
          show (((b0 - 224) * 64 + at' ds (0 + 1) - 128) * 64 + at' ds (1 + 1) - 128) = _
          unfold cont at c1 c2
          simp only [Nat.zero_add, Nat.reduceAdd]
          omega
        rw [hv, cc]
        generalize hV : (b0 - 224) * 4096 + (at' ds 1 - 128) * 64 + (at' ds 2 - 128) = V at *
        have hVlt : V < 65536 := by unfold cont at c1 c2; omega
        refine ite_of (fun hh => ?_) (fun hh => ?_)
        · obtain ⟨h1, h2⟩ := hh
          have h2' : 2048 ≤ V := by
            revert h2
            (repeat' split) <;> omega
          have h1' : ¬ (55296 ≤ V ∧ V ≤ 57343) := by simp [scal] at h1; omega
          have : rd ds = (V, 3) := by rw [hr, if_pos ⟨hk, c1, c2, h2', h1'⟩]
          exact ⟨this, by unfold Bad; rw [this]; simp⟩
        · unfold Bad
          rw [hr, if_neg]
          rintro ⟨_, _, _, h5, h6⟩
          refine hh ⟨?_, ?_⟩
          · simp [scal]; omega
          · rw [if_neg (by omega), if_neg (by omega), if_pos (by omega)])
    simp [show (224 : Int) ≤ (b0 : Int) by omega, show (b0 : Int) < 240 by omega, s3 k3]
    exact hh
  simp [show ¬ (224 : Int) ≤ (b0 : Int) by omega]
  unfold S30_101
  by_cases k2 : 192 ≤ b0
  · have hr := rd2 (ds := ds) g (by omega)
    rw [hb0] at hr
    have hh := H103 2 (b0 - 192) (by decide) (by decide) (by omega) hbad hgood (fun h => by unfold Bad; rw [hr, if_neg (by omega)])
      (fun j h1 h2 h3 h4 => by
        unfold Bad
        rw [hr, if_neg]
        rintro ⟨_, c1, _⟩
        match j, h1, h2, h4 with
        | 1, _, _, h4 => exact h4 c1)
      (fun hk hc => by
        have c1 := hc 1 (by decide) (by decide)
        have hv : cvN (b0 - 192) ds (2 - 1) = (b0 - 192) * 64 + (at' ds 1 - 128) := by
          show ((b0 - 192) * 64 + at' ds (0 + 1) - 128) = _
          unfold cont at c1
          simp only [Nat.zero_add, Nat.reduceAdd]
          omega
        rw [hv, cc]
        generalize hV : (b0 - 192) * 64 + (at' ds 1 - 128) = V at *
        have hVlt : V < 2048 := by unfold cont at c1; omega
        refine ite_of (fun hh => ?_) (fun hh => ?_)
        · obtain ⟨h1, h2⟩ := hh
          have h2' : 128 ≤ V := by
            revert h2
            (repeat' split) <;> omega
          have : rd ds = (V, 2) := by rw [hr, if_pos ⟨hk, c1, h2'⟩]
          exact ⟨this, by unfold Bad; rw [this]; simp⟩
        · unfold Bad
          rw [hr, if_neg]
          rintro ⟨_, _, h5⟩
          refine hh ⟨?_, ?_⟩
          · simp [scal]; omega
          · rw [if_neg (by omega), if_pos (by omega)])
    simp [show (192 : Int) ≤ (b0 : Int) by omega, show (b0 : Int) < 224 by omega, s2 k2]
    exact hh
  by_cases k1 : 128 ≤ b0
  · have hB : Bad ds := rd_none (by omega) g
    simp [show ¬ (192 : Int) ≤ (b0 : Int) by omega, show (128 : Int) ≤ (b0 : Int) by omega]
    exact hbad hB _ (Keep.refl _ _)
  have hr : rd ds = (b0, 1) := by rw [rd_ascii (by omega), hb0]
  have hh := H103 1 b0 (by decide) (by decide) (by omega) hbad hgood (fun h => by omega) (fun j h1 h2 => by omega) (fun hk hc => by
    show if scal (b0 : Int) = true ∧ (enc b0).length = 1 then rd ds = (b0, 1) ∧ ¬ Bad ds else Bad ds
    rw [if_pos ⟨by simp [scal]; omega, by rw [cc, if_pos (by omega)]⟩]
    exact ⟨hr, by unfold Bad; rw [hr]; simp; omega⟩)
  simp [show ¬ (192 : Int) ≤ (b0 : Int) by omega, show ¬ (128 : Int) ≤ (b0 : Int) by omega]
  exact hh
end Go.Proofs.YtnbnojkfhfkecaaDoor.A.U
