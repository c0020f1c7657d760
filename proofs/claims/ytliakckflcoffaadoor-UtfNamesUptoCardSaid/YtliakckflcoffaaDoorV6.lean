/- Which character a text names. -/
import Derived.Test.YtliakckflcoffaaDoorV5
set_option linter.unusedVariables false
set_option linter.unusedSimpArgs false
set_option maxRecDepth 100000
namespace Go.Proofs.YtliakckflcoffaaDoor.A
open Go Go.Abs

/-- One character, and no more. -/
def oneC (s : List UInt8) : Prop := s ≠ [] ∧ ¬ Bad (nt s) ∧ wd s = s.length
instance (s : List UInt8) : Decidable (oneC s) := by unfold oneC; infer_instance
def ndx (s : List UInt8) : Int × Bool := if oneC s then (((rd (nt s)).1 : Nat), true) else if px s = true ∧ 0 ≤ hexR (s.drop 1) then (hexR (s.drop 1), true) else (0, false)
def nd (s : List UInt8) : Int × Bool := if s = nmTxt 0 then (32, true) else if s = nmTxt 1 then (10, true) else if s = nmTxt 2 then (9, true) else if s = nmTxt 3 then (13, true) else if s = nmTxt 4 then (0, true) else if s = nmTxt 5 then (127, true) else ndx s
theorem nd_key : ∀ i : Nat, i < 6 → nd (nmTxt i) = (((nmKey i : Nat) : Int), true)
  | 0, _ => rfl | 1, _ => rfl | 2, _ => rfl | 3, _ => rfl | 4, _ => rfl | 5, _ => rfl
  | n + 6, h => absurd h (by omega)
theorem nd_no {s : List UInt8} (h : ∀ j, j < 6 → s ≠ nmTxt j) : nd s = ndx s := by
  unfold nd
  rw [if_neg (h 0 (by decide)), if_neg (h 1 (by decide)), if_neg (h 2 (by decide)), if_neg (h 3 (by decide)), if_neg (h 4 (by decide)), if_neg (h 5 (by decide))]

theorem chars_of_one {s : List UInt8} (h : oneC s) : chars (nt s) = ([((rd (nt s)).1 : Int)], none) := by
  obtain ⟨h1, h2, h3⟩ := h
  rw [chars_step (nt_ne h1) h2]
  have : (nt s).drop (rd (nt s)).2 = [] := by
    unfold wd at h3
    rw [h3, ← nt_len, List.drop_length]
  rw [this, chars_nil]
  rfl
theorem one_of_chars {s : List UInt8} (h : (chars (nt s)).2 = none) (hl : (chars (nt s)).1.length = 1) : oneC s := by
  have h1 : s ≠ [] := by
    rintro rfl
    simp [nt, chars_nil] at hl
  have h2 : ¬ Bad (nt s) := by
    intro hB
    rw [chars_bad (nt_ne h1) hB] at h
    simp at h
  refine ⟨h1, h2, ?_⟩
  have hw := wd_fit h1
  rw [chars_step (nt_ne h1) h2] at h hl
  simp only [List.length_cons] at hl
  rw [Option.map_eq_none_iff] at h
  by_cases hr : (nt s).drop (rd (nt s)).2 = []
  · have := congrArg List.length hr
    rw [List.length_drop, nt_len] at this
    simp only [List.length_nil] at this
    unfold wd at hw ⊢
    omega
  · exfalso
    by_cases hB : Bad ((nt s).drop (rd (nt s)).2)
    · rw [chars_bad hr hB] at h
      simp at h
    · rw [chars_step hr hB] at hl
      simp at hl
theorem px_len {s : List UInt8} (h : px s = true) : ∃ l, s = 120 :: l := by
  unfold px at h
  have h := of_decide_eq_true h
  cases s with
  | nil => simp at h
  | cons x l =>
    simp at h
    exact ⟨l, by rw [h]⟩

/-- Named of the reference. -/
theorem c25 {H : AHeap} (s : List UInt8) (hlen : s.length ≤ 100000000) : ACalls Tryd.prog 25 [bstr s] H fun v H' => v = .tuple #[.int .i64 (nd s).1, .bool (nd s).2] ∧ H' = H := by
  refine ACalls.eq' (S25_calls ?_) (vin_two rfl rfl)
  have e0 : (.string ⟨#[115, 112, 97, 99, 101]⟩ : Value) = bstr (nmTxt 0) := rfl
  have e1 : (.string ⟨#[110, 101, 119, 108, 105, 110, 101]⟩ : Value) = bstr (nmTxt 1) := rfl
  have e2 : (.string ⟨#[116, 97, 98]⟩ : Value) = bstr (nmTxt 2) := rfl
  have e3 : (.string ⟨#[114, 101, 116, 117, 114, 110]⟩ : Value) = bstr (nmTxt 3) := rfl
  have e4 : (.string ⟨#[110, 117, 108, 108]⟩ : Value) = bstr (nmTxt 4) := rfl
  have e5 : (.string ⟨#[100, 101, 108, 101, 116, 101]⟩ : Value) = bstr (nmTxt 5) := rfl
  unfold nd
  unfold S25
  rw [e0, str_eq, bnd_some']
  by_cases q0 : s = nmTxt 0
  · rw [decide_eq_true q0, aCond_true, if_pos q0]
    exact ⟨rfl, Keep.refl _ _⟩
  rw [decide_eq_false q0, aCond_false, if_neg q0]
  unfold S25_58
  rw [e1, str_eq, bnd_some']
  by_cases q1 : s = nmTxt 1
  · rw [decide_eq_true q1, aCond_true, if_pos q1]
    exact ⟨rfl, Keep.refl _ _⟩
  rw [decide_eq_false q1, aCond_false, if_neg q1, e2, str_eq, bnd_some']
  by_cases q2 : s = nmTxt 2
  · rw [decide_eq_true q2, aCond_true, if_pos q2]
    exact ⟨rfl, Keep.refl _ _⟩
  rw [decide_eq_false q2, aCond_false, if_neg q2]
  unfold S25_57
  rw [e3, str_eq, bnd_some']
  by_cases q3 : s = nmTxt 3
  · rw [decide_eq_true q3, aCond_true, if_pos q3]
    exact ⟨rfl, Keep.refl _ _⟩
  rw [decide_eq_false q3, aCond_false, if_neg q3, e4, str_eq, bnd_some']
  by_cases q4 : s = nmTxt 4
  · rw [decide_eq_true q4, aCond_true, if_pos q4]
    exact ⟨rfl, Keep.refl _ _⟩
  rw [decide_eq_false q4, aCond_false, if_neg q4]
  unfold S25_56
  rw [e5, str_eq, bnd_some']
  by_cases q5 : s = nmTxt 5
  · rw [decide_eq_true q5, aCond_true, if_pos q5]
    exact ⟨rfl, Keep.refl _ _⟩
  rw [decide_eq_false q5, aCond_false, if_neg q5, aStrBytes_eq]
  have hsz : (ba s).size = s.length := ba_size s
  refine ⟨by rw [hsz]; omega, ?_⟩
  have hA1 := rdStr H s 5
  have hk0 : Keep H.next H (H.alloc (.cells (byteCells (ba s)) .read 5)) := (Keep.refl _ _).alloc (Nat.le_refl _) _
  have hn1 : (H.alloc (.cells (byteCells (ba s)) .read 5)).next = H.next + 1 := rfl
  rw [hsz]
  generalize H.alloc (.cells (byteCells (ba s)) .read 5) = H1 at hA1 hk0 hn1
  have hc := c13 (by omega) hA1 (nt_lt s) (by rw [nt_len]; exact hlen)
  rw [nt_len] at hc
  refine hc.mono ?_
  rintro v H2 ⟨hk2, hv⟩
  have hk : Keep H.next H H2 := hk0.trans (hk2.lower (by omega))
  have rest : ¬ oneC s → S25_54 (bstr s) (fun v H' => v = .tuple #[.int .i64 (ndx s).1, .bool (ndx s).2] ∧ Keep H.next H H') H2 := by
    intro hno
    unfold ndx
    rw [if_neg hno]
    unfold S25_54
    rw [aJoin_eq, str_len, bnd_some', aBin_geq, bnd_some']
    have none_ : ¬ (px s = true ∧ 0 ≤ hexR (s.drop 1)) → (Value.tuple #[.int .i64 0, .bool false] = .tuple #[.int .i64 (if px s = true ∧ 0 ≤ hexR (s.drop 1) then (hexR (s.drop 1), true) else (0, false)).1, .bool (if px s = true ∧ 0 ≤ hexR (s.drop 1) then (hexR (s.drop 1), true) else (0, false)).2]) ∧ Keep H.next H H2 := by
      intro h
      rw [if_neg h]
      exact ⟨rfl, hk⟩
    by_cases h2 : 2 ≤ s.length
    · rw [show decide ((2 : Int) ≤ (s.length : Int)) = true from decide_eq_true (by omega)]
      simp only [aGuardK_tt]
      have h0 := str_at s (k := .i64) (j := 0) (by omega)
      rw [show (.int .i64 0 : Value) = .int .i64 ((0 : Nat) : Int) from rfl, h0, bnd_some', aBin_eql, bnd_some', aPick_tt, bnd_some']
      by_cases hx0 : s[0] = 120
      · have hp : px s = true := by
          unfold px
          refine decide_eq_true ?_
          cases s with
          | nil => simp at h2
          | cons x l => simp at hx0 ⊢; exact hx0
        rw [show decide (((s[0]).toNat : Int) = 120) = true from decide_eq_true (by rw [hx0]; rfl), aCond_true, show (.int .i64 1 : Value) = .int .i64 ((1 : Nat) : Int) from rfl, str_drop s (k := .i64) (j := 1) (by omega), bnd_some']
        refine (c38 (s.drop 1) (by rw [List.length_drop]; omega)).use ?_
        rw [aBin_geq, bnd_some']
        refine aCond_of (fun hge => ?_) (fun hlt => ?_)
        · have hge := of_decide_eq_true hge
          rw [if_pos ⟨hp, hge⟩]
          exact ⟨rfl, hk⟩
        · have hlt := of_decide_eq_false hlt
          exact none_ fun h => hlt h.2
      · have hp : px s = false := by
          unfold px
          refine decide_eq_false ?_
          cases s with
          | nil => simp at h2
          | cons x l => simp at hx0 ⊢; exact hx0
        rw [show decide (((s[0]).toNat : Int) = 120) = false from decide_eq_false fun e => hx0 (by
          have e : (s[0]).toNat = 120 := by omega
          exact UInt8.toNat_inj.1 e), aCond_false]
        exact none_ fun h => by rw [hp] at h; exact absurd h.1 (by decide)
    · rw [show decide ((2 : Int) ≤ (s.length : Int)) = false from decide_eq_false (by omega)]
      simp only [aGuardK_ft, aPick_ff, bnd_some', aCond_false]
      refine none_ fun h => ?_
      obtain ⟨l, rfl⟩ := px_len h.1
      have hl0 : l = [] := by
        rw [List.length_cons] at h2
        exact List.length_eq_zero_iff.1 (by omega)
      subst hl0
      exact absurd h.2 (by decide)
  unfold S25_55
  cases h2 : (chars (nt s)).2 with
  | some p =>
    rw [h2] at hv
    have hv : v = .tuple #[.slice none 0 0, .int .i64 (p : Nat)] := hv
    subst hv
    refine bnd_iff.2 ⟨.slice none 0 0, rfl, bnd_iff.2 ⟨.int .i64 (p : Nat), rfl, ?_⟩⟩
    rw [aBin_lss, bnd_some', show decide (((p : Nat) : Int) < 0) = false from decide_eq_false (by omega)]
    simp only [aGuardK_ft, aPick_ff, bnd_some', aCond_false]
    refine rest fun ho => ?_
    rw [chars_of_one ho] at h2
    cases h2
  | none =>
    rw [h2] at hv
    obtain ⟨B, rfl, hI⟩ := hv
    refine bnd_iff.2 ⟨.slice B (chars (nt s)).1.length (chars (nt s)).1.length, rfl, bnd_iff.2 ⟨.int .i64 (-1), rfl, ?_⟩⟩
    rw [aBin_lss, bnd_some', show decide ((-1 : Int) < 0) = true from rfl]
    simp only [aGuardK_tt, aLenSl_slice, bnd_some', aBin_eql, aPick_tt]
    by_cases hl : (chars (nt s)).1.length = 1
    · have ho := one_of_chars h2 hl
      rw [show decide ((((chars (nt s)).1.length : Nat) : Int) = 1) = true from decide_eq_true (by omega), aCond_true]
      have hc1 := chars_of_one ho
      rw [hc1] at hI ⊢
      have hid := hI.idx (k := .i64) (c := 1) (j := ((0 : Nat) : Int)) (by omega) (by simp)
      rw [Int.toNat_natCast] at hid
      have hld := Rd.ld hI (j := 0) (by simp)
      rw [show ([((rd (nt s)).1 : Int)] : List Int).length = 1 from rfl, show (.int .i64 0 : Value) = .int .i64 ((0 : Nat) : Int) from rfl]
      show bnd (aIdxAddr 1 (.slice B ([((rd (nt s)).1 : Int)] : List Int).length 1) (.int .i64 ((0 : Nat) : Int))) _
      refine bnd_iff.2 ⟨_, hid, bnd_iff.2 ⟨_, hld, ?_⟩⟩
      unfold ndx
      rw [if_pos ho]
      exact ⟨rfl, hk⟩
    · rw [show decide ((((chars (nt s)).1.length : Nat) : Int) = 1) = false from decide_eq_false (by omega), aCond_false]
      refine rest fun ho => hl ?_
      rw [chars_of_one ho]
      rfl

/-! Trim, and what is left. -/
theorem dropWhile_nil {p : UInt8 → Bool} : ∀ {l : List UInt8}, l.dropWhile p = [] → ∀ c ∈ l, p c = true
  | [], _, c, hc => by simp at hc
  | x :: l, h, c, hc => by
    rw [List.dropWhile_cons] at h
    split at h
    · rename_i hx
      rcases List.mem_cons.1 hc with rfl | hc
      · exact hx
      · exact dropWhile_nil h c hc
    · cases h
theorem dropWhile_head {p : UInt8 → Bool} : ∀ (l : List UInt8), l.dropWhile p = [] ∨ ∃ x r, l.dropWhile p = x :: r ∧ p x = false
  | [] => .inl rfl
  | x :: l => by
    rw [List.dropWhile_cons]
    cases h : p x with
    | true => simpa using dropWhile_head l
    | false => exact .inr ⟨x, l, rfl, h⟩
theorem trim_nil {t : List UInt8} : trimL (trimR t) = [] ↔ ∀ c ∈ t, hx c = true := by
  constructor
  · intro h
    have h1 := dropWhile_nil h
    unfold trimR at h1
    rcases dropWhile_head (p := hx) t.reverse with e | ⟨x, r, e, hx0⟩
    · intro c hc
      exact dropWhile_nil e c (by simpa using hc)
    · rw [e] at h1
      have := h1 x (by simp)
      rw [hx0] at this
      cases this
  · intro h
    have : trimR t = [] := by
      unfold trimR
      rw [dropWhile_all fun c hc => h c (by simpa using hc)]
      rfl
    rw [this]
    rfl
theorem hx_dg (c : UInt8) : hx c = (dgV c.toNat).isSome := by
  unfold hx isHex dgV
  have h := c.toNat_lt
  generalize c.toNat = n at h
  have : ∀ n : Fin 256, ((decide (48 ≤ n.val) && decide (n.val ≤ 57)) || (decide (97 ≤ n.val) && decide (n.val ≤ 102)) || (decide (65 ≤ n.val) && decide (n.val ≤ 70))) = (if 48 ≤ n.val ∧ n.val ≤ 57 then some (n.val - 48) else if 97 ≤ n.val ∧ n.val ≤ 102 then some (n.val - 87) else if 65 ≤ n.val ∧ n.val ≤ 70 then some (n.val - 55) else none).isSome := by decide +kernel
  exact this ⟨n, h⟩
theorem hexVal_all : ∀ (t : List UInt8) (a : Nat), (∀ c ∈ t, hx c = true) → ∃ n, hexVal t a = some n
  | [], a, _ => ⟨a, rfl⟩
  | c :: t, a, h => by
    have hc := h c (by simp)
    rw [hx_dg, Option.isSome_iff_exists] at hc
    obtain ⟨d, hd⟩ := hc
    obtain ⟨n, hn⟩ := hexVal_all t (a * 16 + d) fun c' hc' => h c' (by simp [hc'])
    exact ⟨n, by unfold hexVal; rw [hd]; exact hn⟩
theorem hexVal_not : ∀ (t : List UInt8) (a : Nat), ¬ (∀ c ∈ t, hx c = true) → hexVal t a = none
  | [], a, h => absurd (by simp) h
  | c :: t, a, h => by
    unfold hexVal
    cases hd : dgV c.toNat with
    | none => rfl
    | some d =>
      refine hexVal_not t (a * 16 + d) fun h' => h fun c' hc' => ?_
      rcases List.mem_cons.1 hc' with rfl | hc'
      · rw [hx_dg, hd]; rfl
      · exact h' c' hc'

theorem hexVal_bd : ∀ (t : List UInt8) (a n : Nat), hexVal t a = some n → n < (a + 1) * 16 ^ t.length
  | [], a, n, h => by
    obtain rfl := Option.some.inj h
    simp
  | c :: t, a, n, h => by
    unfold hexVal at h
    obtain ⟨d, hd, h⟩ := Option.bind_eq_some_iff.1 h
    have hd16 := dgV_lt hd
    have ih := hexVal_bd t (a * 16 + d) n h
    rw [List.length_cons, Nat.pow_succ]
    have : (a * 16 + d + 1) * 16 ^ t.length ≤ ((a + 1) * 16) * 16 ^ t.length := Nat.mul_le_mul_right _ (by omega)
    rw [show (a + 1) * (16 ^ t.length * 16) = ((a + 1) * 16) * 16 ^ t.length by rw [Nat.mul_comm (16 ^ t.length) 16, Nat.mul_assoc]]
    omega
theorem hexVal_lt {t : List UInt8} {n : Nat} (h6 : ¬ 6 < t.length) (h : hexVal t 0 = some n) : n < 16777216 := by
  have h1 := hexVal_bd t 0 n h
  have h2 : 16 ^ t.length ≤ 16 ^ 6 := Nat.pow_le_pow_right (by decide) (by omega)
  omega

/-- Behind the names. -/
theorem s24_125 {H H2 : AHeap} {s : List UInt8} (hs : s.length ≤ 4611686018427387904) (hk : Keep H.next H H2) (hno : ¬ oneC s) :
    S24_125 (fun v H' => v = .tuple #[.int .i64 (ndx s).1, .bool (ndx s).2] ∧ Keep H.next H H') (.tuple #[bstr (if px s then s.drop 1 else s), .bool (px s)]) H2 := by
  unfold ndx
  rw [if_neg hno]
  obtain ⟨N, hN⟩ : ∃ N : Int × Bool, N = (if px s = true ∧ 0 ≤ hexR (s.drop 1) then (hexR (s.drop 1), true) else (0, false)) := ⟨_, rfl⟩
  rw [← hN]
  have none_ : ¬ (px s = true ∧ 0 ≤ hexR (s.drop 1)) → (Value.tuple #[.int .i64 0, .bool false] = .tuple #[.int .i64 N.1, .bool N.2]) ∧ Keep H.next H H2 := by
    intro h
    rw [hN, if_neg h]
    exact ⟨rfl, hk⟩
  have some_ : px s = true → 0 ≤ hexR (s.drop 1) → N = (hexR (s.drop 1), true) := by
    intro h1 h2
    rw [hN, if_pos ⟨h1, h2⟩]
  clear hN
  unfold S24_125
  refine bnd_iff.2 ⟨bstr (if px s then s.drop 1 else s), rfl, bnd_iff.2 ⟨.bool (px s), rfl, ?_⟩⟩
  rw [aUn_not, bnd_some']
  by_cases hp : px s = true
  · obtain ⟨l, rfl⟩ := px_len hp
    have none_ : ¬ 0 ≤ hexR l → (Value.tuple #[.int .i64 0, .bool false] = .tuple #[.int .i64 N.1, .bool N.2]) ∧ Keep H.next H H2 := fun h => none_ fun h' => h h'.2
    have some_ : 0 ≤ hexR l → N = (hexR l, true) := some_ hp
    rw [if_pos hp, hp, show (120 :: l).drop 1 = l from rfl]
    simp only [Bool.not_true, aGuardK_ff, str_len, bnd_some', aBin_gtr, aPick_ff]
    have hl0 : 1 ≤ l.length := by
      rcases Nat.eq_zero_or_pos l.length with h | h
      · have := List.length_eq_zero_iff.1 h
        subst this
        exact absurd (by decide) hno
      · exact h
    by_cases h6 : 6 < l.length
    · rw [show decide ((6 : Int) < (l.length : Int)) = true from decide_eq_true (by omega)]
      simp only [aGuardK_tf, aPick_tt, bnd_some', aCond_true]
      refine none_ fun h => ?_
      have : hexR l = -1 := by unfold hexR; rw [if_pos (.inr h6)]
      rw [this] at h
      exact absurd h (by decide)
    rw [show decide ((6 : Int) < (l.length : Int)) = false from decide_eq_false (by omega)]
    simp only [aGuardK_ff]
    refine (c36 l (by rw [List.length_cons] at hs; omega)).use ?_
    rw [show (.string ⟨#[]⟩ : Value) = bstr [] from rfl, str_ne, bnd_some', aPick_ff, bnd_some']
    by_cases hall : ∀ c ∈ l, hx c = true
    · rw [decide_eq_true (trim_nil.2 hall), Bool.not_true, aCond_false]
      obtain ⟨n, hn⟩ := hexVal_all l 0 hall
      have hR : hexR l = if scal (n : Int) = true then (n : Int) else -1 := by
        unfold hexR
        rw [if_neg (by omega), hn]
      have hn32 : n < 16777216 := hexVal_lt h6 hn
      refine (c37 l n hl0 (by omega) hn).use ?_
      unfold S24_124
      refine bnd_iff.2 ⟨.int .u64 (n : Nat), rfl, bnd_iff.2 ⟨.nilIface, rfl, bnd_iff.2 ⟨.bool false, rfl, ?_⟩⟩⟩
      simp only [aGuardK_ff, aConvInt_int, bnd_some']
      rw [w64 n (by omega)]
      refine c14.use ?_
      rw [aUn_not, bnd_some', aPick_ff, bnd_some']
      cases hsc : scal (n : Int) with
      | false =>
        rw [Bool.not_false, aCond_true]
        refine none_ fun h => ?_
        rw [hR, hsc, if_neg (by decide)] at h
        exact absurd h (by decide)
      | true =>
        rw [Bool.not_true, aCond_false]
        rw [hsc] at hR
        have hR : hexR l = (n : Int) := hR
        rw [some_ (by omega), hR]
        exact ⟨rfl, hk⟩
    · rw [decide_eq_false (fun h => hall (trim_nil.1 h)), Bool.not_false, aCond_true]
      refine none_ fun h => ?_
      have : hexR l = -1 := by
        unfold hexR
        split
        · rfl
        · rw [hexVal_not l 0 hall]
      rw [this] at h
      exact absurd h (by decide)
  · have hpf : px s = false := by cases h : px s with | false => rfl | true => exact absurd h hp
    rw [hpf]
    simp only [Bool.not_false, aGuardK_tf, aPick_tt, bnd_some', aCond_true]
    exact none_ fun h => hp h.1

/-- Named. -/
theorem c24 {H : AHeap} (hT : Tb H) (s : List UInt8) (hlen : s.length ≤ 100000000) : ACalls Tryd.prog 24 [bstr s] H fun v H' => v = .tuple #[.int .i64 (nd s).1, .bool (nd s).2] ∧ H' = H := by
  refine ACalls.eq' (S24_calls ?_) (vin_two rfl rfl)
  unfold S24
  rw [namesAgg hT, bnd_some']
  refine aLoop_vs 6 (fun i vs H2 => i ≤ 6 ∧ vs = [.int .i64 (i : Nat)] ∧ Keep H.next H H2 ∧ ∀ j, j < i → s ≠ nmTxt j) ⟨Nat.zero_le _, rfl, Keep.refl _ _, fun j h => absurd h (Nat.not_lt_zero j)⟩ ?_
  rintro i vs H2 again hi ⟨_, rfl, hk2, hno⟩ hag
  unfold S24_127
  rw [nth_zero, aBin_lss, bnd_some']
  refine aCond_of (fun hlt => ?_) (fun hge => ?_)
  · have hlt : i < 6 := by have := of_decide_eq_true hlt; omega
    unfold S24_15
    rw [nth_zero, nm_at i hlt, bnd_some', aAlloc_eq, pairSt rfl rfl, bnd_some']
    have hk3 : Keep H.next H ((H2.alloc (.cells [.int .i64 0, .string ⟨#[]⟩] .var 53)).upd H2.next (.cells [.int .i64 (nmKey i : Nat), bstr (nmTxt i)] .var 53)) := (hk2.alloc hk2.next _).upd hk2.next _
    refine fld pairAt rfl _ ?_
    rw [str_eq, bnd_some']
    refine aCond_of (fun he => ?_) (fun hne => ?_)
    · have he := (of_decide_eq_true he).symm
      subst he
      refine fld pairAt rfl _ ?_
      rw [nd_key i hlt]
      exact ⟨rfl, hk3⟩
    · have hne : s ≠ nmTxt i := fun e => (of_decide_eq_false hne) e.symm
      rw [show aBin .add .no (.int .i64 (i : Int)) (.int .i64 1) = some (.int .i64 ((i + 1 : Nat) : Int)) from addN i 1 (by omega), bnd_some']
      refine hag _ _ hlt ⟨by omega, rfl, hk3, fun j hj => ?_⟩
      rcases Nat.lt_or_ge j i with h | h
      · exact hno j h
      · obtain rfl : j = i := by omega
        exact hne
  · have hge : i = 6 := by have := of_decide_eq_false hge; omega
    subst hge
    have hT2 := hT.kept hk2
    rw [nd_no hno]
    refine (c34 hT2.tabs s).use ?_
    unfold S24_126
    refine bnd_iff.2 ⟨.int .i32 ((rdG s).1 : Nat), rfl, bnd_iff.2 ⟨.int .i64 ((rdG s).2 : Nat), rfl, ?_⟩⟩
    rw [str_len, bnd_some', aBin_eql, bnd_some']
    have cut : ¬ oneC s → ACalls Tryd.prog 35 [bstr s, (.string ⟨#[120]⟩)] H2 fun t48_61 H_62 => S24_125 (fun v H' => v = .tuple #[.int .i64 (ndx s).1, .bool (ndx s).2] ∧ Keep H.next H H') t48_61 H_62 := by
      intro ho
      refine (c35 s).use ?_
      exact s24_125 (by omega) hk2 ho
    have yes : oneC s → (∀ r, r = (rdG s).1 → bnd (aConvInt .i64 (.int .i32 (r : Nat))) fun t45_60 => (fun (v : Value) H' => v = .tuple #[.int .i64 (ndx s).1, .bool (ndx s).2] ∧ Keep H.next H H') (Value.tuple #[t45_60, (.bool true)]) H2) := by
      rintro ho r rfl
      have hr : rdG s = rd (nt s) := by unfold rdG; rw [if_neg ho.1]
      have h4 := (rd_fit (nt_ne ho.1)).2.2.2
      rw [hr, aConvInt_int, w64 _ (by omega), bnd_some']
      unfold ndx
      rw [if_pos ho]
      exact ⟨rfl, hk2⟩
    by_cases hs0 : s = []
    · subst hs0
      have hno1 : ¬ oneC [] := fun h => h.1 rfl
      rw [show decide ((((rdG []).2 : Nat) : Int) = (([] : List UInt8).length : Nat)) = true from rfl]
      simp only [aGuardK_tt, aBin_gtr, bnd_some']
      rw [show decide ((0 : Int) < (((rdG []).2 : Nat) : Int)) = false from rfl]
      simp only [aPick_tt, bnd_some', aGuardK_ft, aGuardK_undef, aPick_ff, aCond_false]
      exact cut hno1
    · have hr : rdG s = rd (nt s) := by unfold rdG; rw [if_neg hs0]
      have hw := wd_fit hs0
      have hwd : (rdG s).2 = wd s := by rw [hr]; rfl
      by_cases hwl : wd s = s.length
      · rw [show decide ((((rdG s).2 : Nat) : Int) = (s.length : Nat)) = true from decide_eq_true (by omega)]
        simp only [aGuardK_tt, aBin_gtr, bnd_some']
        rw [show decide ((0 : Int) < (((rdG s).2 : Nat) : Int)) = true from decide_eq_true (by omega)]
        simp only [aPick_tt, bnd_some', aGuardK_tt, aBin_neq]
        by_cases hB : Bad (nt s)
        · obtain ⟨b1, b2⟩ := (badN_iff s).1 hB
          rw [show decide ((((rdG s).1 : Nat) : Int) = 65533) = true from decide_eq_true (by rw [hr]; omega)]
          simp only [Bool.not_true, aGuardK_ff, aBin_gtr, bnd_some', aPick_ff]
          rw [show decide ((1 : Int) < (((rdG s).2 : Nat) : Int)) = false from decide_eq_false (by rw [hr]; omega)]
          simp only [aPick_tt, bnd_some', aCond_false]
          exact cut fun h => h.2.1 hB
        · have ho : oneC s := ⟨hs0, hB, hwl⟩
          by_cases hr1 : (rdG s).1 = 65533
          · rw [show decide ((((rdG s).1 : Nat) : Int) = 65533) = true from decide_eq_true (by omega)]
            have hw2 : ¬ (rdG s).2 < 2 := fun h => hB ((badN_iff s).2 (by rw [← hr]; exact ⟨hr1, h⟩))
            simp only [Bool.not_true, aGuardK_ff, aBin_gtr, bnd_some', aPick_ff]
            rw [show decide ((1 : Int) < (((rdG s).2 : Nat) : Int)) = true from decide_eq_true (by omega)]
            simp only [aPick_tt, bnd_some', aCond_true]
            exact yes ho _ rfl
          · rw [show decide ((((rdG s).1 : Nat) : Int) = 65533) = false from decide_eq_false (by omega)]
            simp only [Bool.not_false, aGuardK_tf, aPick_tt, bnd_some', aCond_true]
            exact yes ho _ rfl
      · rw [show decide ((((rdG s).2 : Nat) : Int) = (s.length : Nat)) = false from decide_eq_false (by omega)]
        simp only [aGuardK_ft, aPick_ff, bnd_some', aGuardK_undef, aCond_false]
        exact cut fun h => hwl h.2.2
end Go.Proofs.YtliakckflcoffaaDoor.A
