/- Contracts of functions that the statement reaches; each theorem carries its own conditions, the last theorem of the claim has none. -/
import Derived.Test.YtcjckenainacaaaW4
set_option linter.unusedVariables false
set_option linter.unusedSimpArgs false
namespace Go.Proofs.Ytcjckenainacaaa.A
open Go Go.Abs

def gM (b : Bool) (i : Nat) : List Int := if b then List.replicate i 2 else []
def gS (b : Bool) (i : Nat) : List Int := if b then List.replicate i 0 else List.replicate i 1
theorem gM_cons (b : Bool) (i : Nat) : gM b 1 ++ gM b i = gM b (i + 1) := by
  cases b
  · rfl
  · simp only [gM, if_true]; rw [List.replicate_append_replicate, Nat.add_comm]
theorem gS_cons (b : Bool) (i : Nat) : gS b 1 ++ gS b i = gS b (i + 1) := by
  cases b <;> simp only [gS, if_true, Bool.false_eq_true, if_false] <;> rw [List.replicate_append_replicate, Nat.add_comm]
theorem gM_len (b : Bool) (i : Nat) : (gM b i).length ≤ i := by cases b <;> simp [gM]
theorem gS_len (b : Bool) (i : Nat) : (gS b i).length = i := by cases b <;> simp [gS]
theorem okW_g (b : Bool) (i : Nat) : okW (gM b i) (gS b i) := by
  cases b
  · refine ⟨?_, ?_, ?_⟩
    · intro s hs
      simp only [gS, Bool.false_eq_true, if_false] at hs
      rw [List.eq_of_mem_replicate hs]; decide
    · intro j hj
      simp [gM] at hj
    · simp only [gS, gM, Bool.false_eq_true, if_false]
      rw [List.count_replicate]; rfl
  · refine ⟨?_, ?_, ?_⟩
    · intro s hs
      simp only [gS, if_true] at hs
      rw [List.eq_of_mem_replicate hs]; decide
    · intro j hj
      simp [gM]
    · simp [gS, gM]
theorem sound_g (b : Bool) (i : Nat) (h : i ≤ 256) : sound (gM b i) (gS b i) = true := by
  have := gM_len b i
  have := gS_len b i
  simp only [sound, small, Bool.and_eq_true, decide_eq_true_eq]
  exact ⟨⟨by omega, by omega⟩, okW_g b i⟩
theorem cut_g (b : Bool) (i : Nat) : cut (gM b 1) (gS b 1) (gM b i) (gS b i) = false := by
  cases b
  · simp [cut, gM]
  · cases i <;> simp [cut, gM, List.replicate_succ]
theorem join_g (b : Bool) (i : Nat) (h : i ≤ 256) : joinL (gM b 1) (gS b 1) (gM b i) (gS b i) = if i < 256 then (gM b (i + 1), gS b (i + 1), 0) else ([], [], 6) := by
  have h1 := gM_len b (i + 1)
  have h2 := gS_len b (i + 1)
  simp only [joinL, sound_g b 1 (by omega), sound_g b i h, cut_g, join2, gM_cons, gS_cons, Bool.not_true, Bool.or_self, Bool.false_eq_true, if_false]
  by_cases hi : i < 256
  · have : small (gM b (i + 1)) (gS b (i + 1)) = true := by simp only [small, Bool.and_eq_true, decide_eq_true_eq]; omega
    simp [this, hi, okW_g]
  · have : small (gM b (i + 1)) (gS b (i + 1)) = false := by simp only [small, Bool.and_eq_false_iff, decide_eq_false_iff_not]; omega
    simp [this, hi]

theorem l140 {p5 p6 : Nat} {H : AHeap} {n : Int} {b : Bool} (h0 : 0 ≤ n) (hn : n < 256) (hne : p5 ≠ p6) (w5 : HW p5 H [] []) (w6 : HW p6 H (gM b 1) (gS b 1)) :
    S7_140 (.int .u8 n) (fun v H' => v = .bool true) (.pointer (some ⟨p5, 0, none⟩)) (.pointer (some ⟨p6, 0, none⟩)) H := by
  unfold S7_140
  obtain ⟨k, hk⟩ : ∃ k : Int, k = 250 + n.tmod 12 := ⟨_, rfl⟩
  rw [Int.tmod_eq_emod_of_nonneg h0] at hk
  have e1 := wrap64 (x := n % 12) (by omega) (by omega)
  have e2 := wrap64 (x := k) (by omega) (by omega)
  simp only [bnd_some', aBin_rem .u8 .no n 12 (by omega), Int.tmod_eq_emod_of_nonneg h0, aConvInt_int, e1, aBin_add, ← hk, e2]
  have hk2 : 250 ≤ k ∧ k ≤ 261 := by omega
  clear hk e1 e2
  refine aLoop_vs 262 (fun i vs H => vs = [.int .i64 i] ∧ i ≤ 256 ∧ (i : Int) ≤ k ∧ HW p5 H (gM b i) (gS b i) ∧ HW p6 H (gM b 1) (gS b 1)) ⟨rfl, by omega, by omega, by cases b <;> exact w5, w6⟩ ?_
  clear w5 w6 H
  rintro i vs H again hi ⟨rfl, hi', hik, w5, w6⟩ ha
  unfold S7_136
  by_cases hlt : (i : Int) < k
  · obtain ⟨A, B, x6, i6⟩ := w6.isW
    obtain ⟨C, D, x5, i5⟩ := w5.isW
    simp [hlt, x5, x6]
    refine (c15w (Nat.le_refl _) i6 i5).mono fun v H1 hv => ?_
    obtain ⟨v', rfl, j1, k1⟩ := hv
    rw [join_g b i hi'] at j1 ⊢
    have w5 := w5.kept k1
    have w6 := w6.kept k1
    by_cases h256 : i < 256
    · simp only [h256, if_true] at j1 ⊢
      obtain ⟨H2, e2, w2, k2⟩ := HW.new j1
      have hw := wrap64 (x := (i : Int) + 1) (by omega) (by omega)
      have hI : (i : Int) < 256 := by omega
      unfold S7_107
      simp [-aSt_ptr, -aLdAgg_ptr, e2, hI]
      have w5 := w5.kept k2
      have w6 := w6.kept k2
      obtain ⟨v3, e3, i3⟩ := w2.ld
      obtain ⟨H4, e4, w4, k4, q4⟩ := w5.put i3
      unfold S7_106
      simp [-aSt_ptr, -aLdAgg_ptr, e3, e4, hw]
      exact ha _ _ (by omega) ⟨by simp, by omega, by omega, w4, q4 _ _ _ (by omega) w6⟩
    · have hie : i = 256 := by omega
      simp only [h256, if_false] at j1 ⊢
      obtain ⟨H2, e2, w2, k2⟩ := HW.new j1
      have hI : ¬ (i : Int) < 256 := by omega
      unfold S7_107
      simp [-aSt_ptr, -aLdAgg_ptr, e2, hI]
      unfold S7_106
      simp
      refine c11.use ?_
      obtain ⟨C2, D2, x2, _⟩ := w2.isW
      obtain ⟨C5, D5, x5, _⟩ := (w5.kept k2).isW
      unfold S7_102
      simp [x2, x5, gS_len]
      omega
  · obtain ⟨C, D, x5, i5⟩ := w5.isW
    simp [hlt]
    refine c11.use ?_
    unfold S7_135
    simp [x5, gS_len]
    omega

theorem c7 {H : AHeap} {n : Int} {b : Bool} (h0 : 0 ≤ n) (hn : n < 256) : ACalls Try.prog 7 [.int .u8 n, .bool b] H fun v H' => v = .bool true := by
  refine S7_calls ?_
  unfold S7
  simp
  refine c10.mono fun a H1 ⟨j1, k1⟩ => ?_
  have x5 : H1.at_ H.next = .cells [.slice none 0 0, .slice none 0 0] .var 24 := (k1.at_ _ (by simp)).trans (by simp)
  have hl : H.next < H1.next := Nat.lt_of_lt_of_le (by simp) k1.next
  obtain ⟨A, B, rfl, rA, rB⟩ := j1
  have w5 : HW H.next H1 [] [] := ⟨hl, none, none, x5, Rd.nil _ _ _ _, Rd.nil _ _ _ _⟩
  have z : (H1.alloc (.cells [.slice none 0 0, .slice none 0 0] .var 24)).at_ H1.next = .cells [.slice none 0 0, .slice none 0 0] .var 24 := by simp
  simp [at_alloc, aFill, setCells]
  rw [aJoin_eq]
  have w5' := (w5.alloc (.cells [.slice none 0 0, .slice none 0 0] .var 24)).updVar z (by omega) (.cells [.slice A 0 0, .slice B 1 1] .var 24)
  have w6' := HW.set (q := H1.next) (by simp) ((rA.alloc (Nat.le_refl _) (.cells [.slice none 0 0, .slice none 0 0] .var 24)).up (by simp)) ((rB.alloc (Nat.le_refl _) (.cells [.slice none 0 0, .slice none 0 0] .var 24)).up (by simp)) z
  cases b
  · simp
    exact l140 (b := false) h0 hn (by omega) w5' w6'
  · simp
    refine c9.mono fun a H2 ⟨j2, k2⟩ => ?_
    have w5' := w5'.kept k2
    have w6' := w6'.kept k2
    obtain ⟨A2, B2, rfl, rA2, rB2⟩ := j2
    obtain ⟨C', D', x6', i6'⟩ := w6'.isW
    simp [x6', setCells]
    have e1 : markM 2 = gM true 1 := by decide +kernel
    have e2 : markS 2 = gS true 1 := by decide +kernel
    have w6'' := HW.set w6'.1 rA2 rB2 x6'
    rw [e1, e2] at *
    exact l140 (b := true) h0 hn (by omega) (w5'.updVar x6' (by omega) _) w6''
end Go.Proofs.Ytcjckenainacaaa.A
