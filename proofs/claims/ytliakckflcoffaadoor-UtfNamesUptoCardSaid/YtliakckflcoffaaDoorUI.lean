/- The library's IndexByte, by the model's entry for bytealg: no conditions. -/
import Derived.Test.YtliakckflcoffaaDoorU8
import Derived.Test.YtliakckflcoffaaDoorChecked
import Derived.Lib.Strings
import Derived.Lib.Slices
import Derived.Lib.Walk
import Derived.Lib.Bytealg
set_option linter.unusedVariables false
set_option linter.unusedSimpArgs false
namespace Go.Proofs.YtliakckflcoffaaDoor.A
open Go Go.Abs
set_option maxHeartbeats 1000000 in
set_option maxRecDepth 100000 in
theorem i40 (s : ByteArray) (c : Int) (w : World) :
    Calls Tryd.prog 40 #[.string s, .int .u8 c] w fun e w' => e = .returned (.int .i64 (Lib.indexByte s.data.toList c.toNat.toUInt8)) ∧ w' = w := by
  go_enter Tryd.func40, Tryd.ntmps40
  go_wp2
  rw [run_callFunc_extern Tryd.func54 (by kernel_rfl) (by kernel_rfl) (by kernel_rfl) (e := Extern.BytealgIndexByte.indexByte) (by kernel_rfl), Lib.run_indexByteString]
  simp only [Result.andThen]
  rw [Oper.upon_value]
  go_wp2
  go_ret
  exact ⟨rfl, rfl⟩
set_option maxHeartbeats 1000000 in
theorem i29 (s : ByteArray) (c : Int) (w : World) :
    Calls Tryd.prog 29 #[.string s, .int .u8 c] w fun e w' => e = .returned (.int .i64 (Lib.indexByte s.data.toList c.toNat.toUInt8)) ∧ w' = w := by
  go_enter Tryd.func29, Tryd.ntmps29
  go_wp2_with (go_at_call 40; refine (i40 _ _ _).mono ?_; rintro e w' ⟨rfl, rfl⟩)
  go_ret
  exact ⟨rfl, rfl⟩
theorem c29 {H : AHeap} (s : ByteArray) (c : Int) : ACalls Tryd.prog 29 [.string s, .int .u8 c] H fun v H' => v = .int .i64 (Lib.indexByte s.data.toList c.toNat.toUInt8) ∧ H' = H :=
  ACalls.ofCalls rfl rfl fun w => i29 s c w

/-- ValidRune, Scalar. -/
theorem c28 {H : AHeap} {c : Int} : ACalls Tryd.prog 28 [.int .i32 c] H fun v H' => v = .bool ((decide (0 ≤ c) && decide (c < 55296)) || (decide (57343 < c) && decide (c ≤ 1114111))) ∧ H' = H := by
  refine ACalls.eq (S28_calls ?_) rfl
  unfold S28
  by_cases h1 : 0 ≤ c
  · by_cases h2 : c < 55296
    · simp [h1, h2]
    · simp [h1, h2]
      unfold S28_22
      by_cases h3 : 57343 < c
      · by_cases h4 : c ≤ 1114111 <;> simp [h3, h4]
      · simp [h3]
  · simp [h1]
    unfold S28_22
    simp [show ¬ 57343 < c by omega]
theorem c14 {H : AHeap} {c : Int} : ACalls Tryd.prog 14 [.int .i64 c] H fun v H' => v = .bool (scal c) ∧ H' = H := by
  refine ACalls.eq (S14_calls ?_) rfl
  unfold S14
  by_cases h1 : 0 ≤ c
  · by_cases h2 : c ≤ 1114111
    · have w := wrap32 (x := c) (by omega) (by omega)
      simp [h1, h2, w]
      refine c28.use ?_
      have : ((decide (0 ≤ c) && decide (c < 55296)) || (decide (57343 < c) && decide (c ≤ 1114111))) = scal c := by
        unfold scal
        by_cases q1 : c < 55296
        · simp [h1, h2, q1, show ¬ 55296 ≤ c by omega]
        · by_cases q2 : 57343 < c
          · simp [h1, h2, q1, q2, show 55296 ≤ c by omega, show ¬ c ≤ 57343 by omega]
          · simp [h1, h2, q1, q2, show 55296 ≤ c by omega, show c ≤ 57343 by omega]
      simp [h1, h2] at this
      simp [h1, h2, this]
    · simp [h1, h2, scal]
  · simp [h1, scal]

def bl (c : Int) : Bool := decide (c = 9) || decide (c = 10) || decide (c = 13) || decide (c = 32)
theorem c16 {H : AHeap} {c : Int} : ACalls Tryd.prog 16 [.int .i64 c] H fun v H' => v = .bool (bl c) ∧ H' = H := by
  refine ACalls.eq (S16_calls ?_) rfl
  unfold S16
  by_cases h1 : c = 9
  · simp [h1, bl]
  by_cases h2 : c = 10
  · simp [h2, bl]
  by_cases h3 : c = 13
  · simp [h3, bl]
  simp [h1, h2, h3, bl]
theorem c17 {H : AHeap} {c : Int} : ACalls Tryd.prog 17 [.int .i64 c] H fun v H' => v = .bool (bl c) ∧ H' = H := by
  refine ACalls.eq (S17_calls ?_) rfl
  unfold S17
  by_cases h1 : c = 9
  · simp [h1, bl]
  by_cases h2 : c = 10
  · simp [h2, bl]
  by_cases h3 : c = 13
  · simp [h3, bl]
  simp [h1, h2, h3, bl]
def en (c : Int) : Bool := bl c || (decide (c = 40) || decide (c = 41) || decide (c = 59) || decide (c = 34) || decide (c = 39) || decide (c = 96) || decide (c = 44))
theorem c19 {H : AHeap} {c : Int} : ACalls Tryd.prog 19 [.int .i64 c] H fun v H' => v = .bool (en c) ∧ H' = H := by
  refine ACalls.eq (S19_calls ?_) rfl
  unfold S19
  refine c17.use ?_
  unfold S19_72
  cases hb : bl c
  · by_cases h1 : c = 40
    · subst h1; simp [en]
    by_cases h2 : c = 41
    · subst h2; simp [en]
    by_cases h3 : c = 59
    · subst h3; simp [en]
    by_cases h4 : c = 34
    · subst h4; simp [en]
    by_cases h5 : c = 39
    · subst h5; simp [en]
    by_cases h6 : c = 96
    · subst h6; simp [en]
    simp [en, h1, h2, h3, h4, h5, h6, hb]
  · simp [en, hb]
theorem idx_seven (c : Int) (h0 : 0 < c) (h1 : c < 128) : decide (0 ≤ Lib.indexByte [40, 41, 59, 34, 39, 96, 44] c.toNat.toUInt8) = (decide (c = 40) || decide (c = 41) || decide (c = 59) || decide (c = 34) || decide (c = 39) || decide (c = 96) || decide (c = 44)) := by
  have h : ∀ n : Fin 128, decide (0 ≤ Lib.indexByte [40, 41, 59, 34, 39, 96, 44] n.val.toUInt8) = (decide ((n.val : Int) = 40) || decide ((n.val : Int) = 41) || decide ((n.val : Int) = 59) || decide ((n.val : Int) = 34) || decide ((n.val : Int) = 39) || decide ((n.val : Int) = 96) || decide ((n.val : Int) = 44)) := by decide +kernel
  have := h ⟨c.toNat, by omega⟩
  simp only [Int.toNat_of_nonneg (show 0 ≤ c by omega)] at this
  exact this
theorem c18 {H : AHeap} {c : Int} : ACalls Tryd.prog 18 [.int .i64 c] H fun v H' => v = .bool (en c) ∧ H' = H := by
  refine ACalls.eq (S18_calls ?_) rfl
  unfold S18
  refine c16.use ?_
  unfold S18_59
  cases hb : bl c
  · by_cases h1 : 0 < c
    · by_cases h2 : c < 128
      · have hw : IntKind.u8.wrap c = c := by
          unfold IntKind.wrap
          simp [IntKind.bits, IntKind.signed]
          omega
        simp [h1, h2, hw]
        refine (c29 _ _).use ?_
        have hi := idx_seven c h1 h2
        simp [en, hb]
        simpa using hi
      · simp [h1, h2, en, hb]
        omega
    · simp [h1, en, hb]
      omega
  · simp [en, hb]

/-- UtfSigns. -/
theorem c5 {H : AHeap} {c : Int} (T : Tabs H) : ACalls Tryd.prog 5 [.int .i64 c] H fun v H' => v = .bool true := by
  refine S5_calls ?_
  unfold S5
  refine (c11 T).use ?_
  unfold S5_115
  simp
  refine c14.use ?_
  simp
  refine c15.use ?_
  simp
  refine c16.use ?_
  simp
  refine c17.use ?_
  simp
  refine c18.use ?_
  simp
  refine c19.use ?_
  simp
  refine c16.use ?_
  cases hb : bl c
  · simp
  · simp
    refine c18.use ?_
    simp [en, hb]
end Go.Proofs.YtliakckflcoffaaDoor.A
