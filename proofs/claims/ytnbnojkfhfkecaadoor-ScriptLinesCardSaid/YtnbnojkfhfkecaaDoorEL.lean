/- Contracts of functions that the statement reaches; each theorem carries its own conditions, the last theorem of the claim has none. -/
import Derived.Test.YtnbnojkfhfkecaaDoorEB
import Derived.Test.YtnbnojkfhfkecaaDoorF1
/- Get, past its limits. -/
set_option linter.unusedVariables false
set_option linter.unusedSimpArgs false
set_option maxRecDepth 100000
namespace Go.Proofs.YtnbnojkfhfkecaaDoor.A
open Go Go.Abs

theorem tl_length2 {L : List (List UInt8)} (h : ∀ b ∈ L, b.length ≤ 70000) : (tl L).length ≤ 140002 * L.length := by
  induction L with
  | nil => simp [tl]
  | cons p ps ih =>
    have h1 := h p (by simp)
    have h2 := ih fun q hq => h q (by simp [hq])
    have h3 := hexL_length p
    simp only [tl, List.flatMap_cons, List.length_append, List.length_cons, List.length_nil] at h2 ⊢
    omega

set_option maxHeartbeats 1000000 in
theorem c9g {H : AHeap} (hT : TbM H) {f c d : Int} (hf : I64 f) (hc : I64 c) (hd' : I64 d) {L : List (List UInt8)} (hL : L.length ≤ 300) (hl : ∀ b ∈ L, b.length ≤ 70000) (N : Nat) (hN : N ≤ 256) (hNL : N ≤ L.length) (hok : ∀ i (h : i < L.length), i < N → (L[i]).length ≤ 65536)
    (hbad : ∀ h : N < L.length, 65536 < (L[N]).length ∨ N = 256) :
    ACalls Tryd.prog 9 [bstr (hd f c d 3 ++ [10] ++ tl L)] H fun v H' => ((N = L.length ∧ ∃ B qs, v = .tuple #[eLim f c d, .slice B qs.length qs.length, .int .i64 0, .int .i64 0] ∧ qs.map (·.2) = L ∧ Chs H'.next H' B qs) ∨
      (N < L.length ∧ v = .tuple #[eLim 0 0 0, .slice none 0 0, .int .i64 (2 + N : Nat), .int .i64 6])) ∧ Keep H.next H H' := by
  refine S9_calls ?_
  unfold S9
  rw [aAlloc_eq]
  have h1 := itoa_le hf
  have h2 := itoa_le hc
  have h3 := itoa_le hd'
  have h8 := hT.tb.next
  have htl := tl_length2 hl
  have hk1 : Keep H.next H (H.alloc (.cells [.int .i64 0, .int .i64 0, .int .i64 0] .var 27)) := (Keep.refl _ _).alloc (Nat.le_refl _) _
  have hat1 : (H.alloc (.cells [.int .i64 0, .int .i64 0, .int .i64 0] .var 27)).at_ H.next = .cells [.int .i64 0, .int .i64 0, .int .i64 0] .var 27 := AHeap.at_alloc_new _ _
  have hn1 : (H.alloc (.cells [.int .i64 0, .int .i64 0, .int .i64 0] .var 27)).next = H.next + 1 := rfl
  generalize H.alloc (.cells [.int .i64 0, .int .i64 0, .int .i64 0] .var 27) = H1 at hk1 hat1 hn1
  have e0 : hd f c d 3 ++ [10] ++ tl L = (Lib.itoa f ++ 32 :: (Lib.itoa c ++ 32 :: Lib.itoa d)) ++ 10 :: tl L := by rw [hd3]; simp
  rw [e0, show (.string ⟨#[10]⟩ : Value) = bstr [10] from rfl]
  refine (c24 (hT.kept hk1) (line_no f c d) (by simp only [List.length_append, List.length_cons]; omega)).use ?_
  refine bnd_iff.2 ⟨bstr (Lib.itoa f ++ 32 :: (Lib.itoa c ++ 32 :: Lib.itoa d)), rfl, bnd_iff.2 ⟨bstr (tl L), rfl, bnd_iff.2 ⟨.bool true, rfl, ?_⟩⟩⟩
  refine (c25 (hT.kept hk1) hf hc hd').use ?_
  unfold S9_85
  refine bnd_iff.2 ⟨eLim f c d, rfl, bnd_iff.2 ⟨.bool true, rfl, ?_⟩⟩
  have hst : aSt 3 (.pointer (some ⟨H.next, 0, none⟩)) (eLim f c d) H1 = some (H1.upd H.next (.cells [.int .i64 f, .int .i64 c, .int .i64 d] .var 27)) := by rw [aSt_ptr, hat1]; rfl
  rw [hst, bnd_some']
  have hk2 : Keep H.next H (H1.upd H.next (.cells [.int .i64 f, .int .i64 c, .int .i64 d] .var 27)) := hk1.upd (Nat.le_refl _) _
  have hat2 : (H1.upd H.next (.cells [.int .i64 f, .int .i64 c, .int .i64 d] .var 27)).at_ H.next = .cells [.int .i64 f, .int .i64 c, .int .i64 d] .var 27 := AHeap.at_upd_same _ _ _
  have hn2 : (H1.upd H.next (.cells [.int .i64 f, .int .i64 c, .int .i64 d] .var 27)).next = H.next + 1 := hn1
  generalize H1.upd H.next (.cells [.int .i64 f, .int .i64 c, .int .i64 d] .var 27) = H2 at hk2 hat2 hn2
  simp only [aUn_not, bnd_some', Bool.not_true, aGuardK_ff, aPick_ff, aCond_false]
  refine aLoop_vs N (fun i vs H3 => i ≤ N ∧ ∃ B qs, vs = [.slice B qs.length qs.length, .int .i64 (2 + i : Nat), bstr (tl (L.drop i))] ∧ qs.map (·.2) = L.take i ∧
    Ow 1 eC 22 (H.next + 1) H3 B qs ∧ (∀ q ∈ qs, Ow 1 eU 5 (H.next + 1) H3 q.1 q.2) ∧ H3.at_ H.next = .cells [.int .i64 f, .int .i64 c, .int .i64 d] .var 27 ∧ Keep H.next H H3 ∧ H.next + 1 ≤ H3.next)
    ⟨Nat.zero_le _, none, [], rfl, by simp, Ow.nil _ _ _ _ _, by simp, hat2, hk2, by omega⟩ ?_
  rintro i vs H3 again hi ⟨_, B, qs, rfl, hq, hO, hI, ha, hk3, hn3⟩ hag
  have hql : qs.length = i := by have := congrArg List.length hq; simpa [Nat.min_eq_left (show i ≤ L.length by omega)] using this
  unfold S9_84
  simp only [nth_2]
  rw [show (.string ⟨#[]⟩ : Value) = bstr [] from rfl, str_ne, bnd_some']
  by_cases hlt : i < L.length
  · have hne : ¬ tl (L.drop i) = [] := by rw [tl_drop hlt]; simp
    rw [decide_eq_false hne, Bool.not_false, aCond_true]
    unfold S9_80
    simp only [nth_2]
    have hbl := hl _ (List.getElem_mem hlt)
    have htl2 := tl_length2 (L := L.drop (i + 1)) fun b hb => hl b (List.mem_of_mem_drop hb)
    have hdl : (L.drop (i + 1)).length ≤ 300 := by rw [List.length_drop]; omega
    have hxl := hexL_length L[i]
    rw [tl_drop hlt, show (.string ⟨#[10]⟩ : Value) = bstr [10] from rfl]
    refine (c24 (hT.kept hk3) (hexL_no _) (by omega)).use ?_
    refine bnd_iff.2 ⟨bstr (hexL L[i]), rfl, bnd_iff.2 ⟨bstr (tl (L.drop (i + 1))), rfl, bnd_iff.2 ⟨.bool true, rfl, ?_⟩⟩⟩
    refine (c26 L[i] (by omega)).mono ?_
    rintro v H4 ⟨C, rfl, hC, hk4⟩
    unfold S9_79
    refine bnd_iff.2 ⟨.slice C (L[i]).length (L[i]).length, rfl, bnd_iff.2 ⟨.bool true, rfl, ?_⟩⟩
    simp only [aUn_not, bnd_some', Bool.not_true, aGuardK_ff, aPick_ff, aCond_false]
    unfold S9_78
    simp only [aLenSl_slice, bnd_some', aBin_gtr]
    by_cases hiN : i < N
    case neg =>
      have hiN : i = N := by omega
      subst hiN
      have ha4 : H4.at_ H.next = .cells [.int .i64 f, .int .i64 c, .int .i64 d] .var 27 := (hk4.at_ _ (by omega)).trans ha
      have hkb : Keep H.next H H4 := hk3.trans (hk4.lower (by omega))
      have fin : bnd (aFill [(.int .i64 0), (.int .i64 0), (.int .i64 0)] []) fun t66_70 =>
          bnd (aSt 3 (.pointer (some ⟨H.next, 0, none⟩)) (.agg t66_70.toArray) H4) fun H_71 =>
          bnd (aLdAgg 3 (.pointer (some ⟨H.next, 0, none⟩)) H_71) fun r_72 => ((i = L.length ∧ ∃ B qs, (.tuple #[r_72, (.slice none 0 0), (.int .i64 (2 + i : Nat)), (.int .i64 6)] : Value) = .tuple #[eLim f c d, .slice B qs.length qs.length, .int .i64 0, .int .i64 0] ∧ qs.map (·.2) = L ∧ Chs H_71.next H_71 B qs) ∨
            (i < L.length ∧ (.tuple #[r_72, (.slice none 0 0), (.int .i64 (2 + i : Nat)), (.int .i64 6)] : Value) = .tuple #[eLim 0 0 0, .slice none 0 0, .int .i64 (2 + i : Nat), .int .i64 6])) ∧ Keep H.next H H_71 := by
        refine bnd_iff.2 ⟨[.int .i64 0, .int .i64 0, .int .i64 0], rfl, ?_⟩
        refine bnd_iff.2 ⟨H4.upd H.next (.cells [.int .i64 0, .int .i64 0, .int .i64 0] .var 27), by rw [aSt_ptr, ha4]; rfl, ?_⟩
        refine bnd_iff.2 ⟨eLim 0 0 0, by rw [aLdAgg_ptr, AHeap.at_upd_same]; rfl, ?_⟩
        exact ⟨.inr ⟨hlt, rfl⟩, hkb.upd (Nat.le_refl _) _⟩
      by_cases hlong : 65536 < (L[i]).length
      · rw [show decide ((65536 : Int) < ((L[i]).length : Int)) = true from decide_eq_true (by omega)]
        simp only [aGuardK_tf, aPick_tt, bnd_some', aCond_true, nth_1]
        exact fin
      · have h256 : i = 256 := (hbad hlt).resolve_left hlong
        rw [show decide ((65536 : Int) < ((L[i]).length : Int)) = false from decide_eq_false (by omega)]
        simp only [aGuardK_ff, nth_zero, nth_1, aLenSl_slice, bnd_some', aBin_geq]
        rw [show decide ((256 : Int) ≤ (qs.length : Int)) = true from decide_eq_true (by omega)]
        simp only [aPick_ff, bnd_some', aCond_true]
        exact fin
    have hbl6 := hok i hlt hiN
    rw [show decide ((65536 : Int) < ((L[i]).length : Int)) = false from decide_eq_false (by omega)]
    simp only [aGuardK_ff, nth_zero, aLenSl_slice, bnd_some', aBin_geq]
    rw [show decide ((256 : Int) ≤ (qs.length : Int)) = false from decide_eq_false (by omega)]
    simp only [aPick_ff, bnd_some', aCond_false]
    have hn4 := hk4.next
    have hO4 := hO.kept hk4
    have hI4 : ∀ q ∈ qs ++ [((C : Option Addr), L[i])], Ow 1 eU 5 (H.next + 1) H4 q.1 q.2 := by
      intro q hq'
      rcases List.mem_append.1 hq' with h | h
      · exact (hI q h).kept hk4
      · simp at h; subst h; exact hC.lower (by omega)
    have hk5 : Keep H.next H H4 := hk3.trans (hk4.lower (by omega))
    have ha4 : H4.at_ H.next = .cells [.int .i64 f, .int .i64 c, .int .i64 d] .var 27 := (hk4.at_ _ (by omega)).trans ha
    rw [aBuildSlice_eq]
    refine bnd_iff.2 ⟨[.slice C (L[i]).length (L[i]).length], rfl, ⟨rfl, rfl⟩, ?_⟩
    have hN : Ow 1 eC 22 H4.next (H4.alloc (.cells [.slice C (L[i]).length (L[i]).length] (.row 1) 22)) (some ⟨H4.next, 0, none⟩) [((C : Option Addr), L[i])] := Ow.new H4 _ (fun _ _ => rfl) rfl
    have hO6 := hO4.alloc (.cells [.slice C (L[i]).length (L[i]).length] (.row 1) 22)
    have hI6 : ∀ q ∈ qs ++ [((C : Option Addr), L[i])], Ow 1 eU 5 (H.next + 1) (H4.alloc (.cells [.slice C (L[i]).length (L[i]).length] (.row 1) 22)) q.1 q.2 := fun q hq' => (hI4 q hq').alloc _
    have hk6 := hk5.alloc (by omega) (.cells [.slice C (L[i]).length (L[i]).length] (.row 1) 22)
    have ha6 : (H4.alloc (.cells [.slice C (L[i]).length (L[i]).length] (.row 1) 22)).at_ H.next = .cells [.int .i64 f, .int .i64 c, .int .i64 d] .var 27 := by rw [AHeap.at_alloc_ne _ _ (by omega)]; exact ha4
    have hn6 : (H4.alloc (.cells [.slice C (L[i]).length (L[i]).length] (.row 1) 22)).next = H4.next + 1 := rfl
    generalize H4.alloc (.cells [.slice C (L[i]).length (L[i]).length] (.row 1) 22) = H6 at hN hO6 hI6 hk6 hn6 ha6
    refine Ow.append (bytes := 24) (c' := 1) (lo := H.next + 1) hO6 hN.rd (by omega) (by simp [maxLen]; omega) (by simp; omega) ?_
    intro H7 hO7 hn7 hat7 hk7
    simp only [nth_1, aBin_add, bnd_some']
    rw [wrap64 (by omega) (by omega)]
    refine hag _ _ hiN ⟨by omega, _, _, ?_, ?_, hO7, ?_, ?_, hk6.trans (hk7.lower (by omega)), by omega⟩
    · congr 3
    · rw [← List.take_append_getElem hlt, List.map_append, hq]
      rfl
    · intro q hq'
      refine Ow.keepT (hI6 q hq') (by omega) fun b cs g1 g2 g3 => hat7 b g2 fun o s hB => ?_
      rcases hO6.2 with ⟨h4, _⟩ | ⟨b', cs', h4, _, _, h7, _⟩
      · rw [h4] at hB; cases hB
      · rw [h4] at hB
        cases hB
        rw [g3] at h7
        injection h7 with _ _ h8
        exact absurd h8 (by decide)
    · exact (hk7.at_ _ (by omega)).trans ha6
  · have hge : i = L.length := by omega
    have hNe : N = L.length := by omega
    subst hge
    have hnil : tl (L.drop L.length) = [] := by rw [List.drop_length]; rfl
    rw [decide_eq_true hnil, Bool.not_true, aCond_false]
    have hld : ∀ {H' : AHeap}, H'.at_ H.next = .cells [.int .i64 f, .int .i64 c, .int .i64 d] .var 27 → aLdAgg 3 (.pointer (some ⟨H.next, 0, none⟩)) H' = some (eLim f c d) := fun h => by rw [aLdAgg_ptr, h]; rfl
    rw [hld ha, bnd_some']
    have hst : aSt 3 (.pointer (some ⟨H.next, 0, none⟩)) (eLim f c d) H3 = some (H3.upd H.next (.cells [.int .i64 f, .int .i64 c, .int .i64 d] .var 27)) := by rw [aSt_ptr, ha]; rfl
    rw [hst, bnd_some', hld (AHeap.at_upd_same _ _ _), bnd_some', nth_zero]
    rw [List.take_length] at hq
    have keepU : ∀ {A : Option Addr} {xs : List UInt8}, Ow 1 eU 5 (H.next + 1) H3 A xs → Ow 1 eU 5 (H.next + 1) (H3.upd H.next (.cells [.int .i64 f, .int .i64 c, .int .i64 d] .var 27)) A xs := fun h =>
      h.keep (by simp) fun b g1 g2 => AHeap.at_upd_ne _ _ (by omega)
    refine ⟨.inl ⟨hNe, B, qs, rfl, hq, ⟨?_, fun q hq' => (keepU (hI q hq')).rd⟩⟩, hk3.upd (Nat.le_refl _) _⟩
    exact (hO.keep (H' := H3.upd H.next (.cells [.int .i64 f, .int .i64 c, .int .i64 d] .var 27)) (by simp) fun b g1 g2 => AHeap.at_upd_ne _ _ (by omega)).rd
end Go.Proofs.YtnbnojkfhfkecaaDoor.A

/- bytes and Get at a wrong line. -/
set_option linter.unusedVariables false
set_option linter.unusedSimpArgs false
set_option maxRecDepth 100000
namespace Go.Proofs.YtnbnojkfhfkecaaDoor.A
open Go Go.Abs

def badL (s : List UInt8) : Bool := !px s || decide (0 < (s.drop 1).length % 2) || !decide (trimL (trimR (s.drop 1)) = [])
theorem c26_bad {H : AHeap} (s : List UInt8) (hs : s.length ≤ 1000000) (hb : badL s = true) : ACalls Tryd.prog 26 [bstr s] H fun v H' => v = .tuple #[.slice none 0 0, .bool false] ∧ H' = H := by
  refine S26_calls ?_
  unfold S26
  refine (c39 s).use ?_
  unfold S26_64
  refine bnd_iff.2 ⟨bstr (if px s = true then s.drop 1 else s), rfl, bnd_iff.2 ⟨.bool (px s), rfl, ?_⟩⟩
  cases hp : px s with
  | false =>
    simp only [aUn_not, bnd_some', Bool.not_false, aGuardK_tf, aPick_tt, aCond_true]
    exact ⟨by trivial, by trivial⟩
  | true =>
    simp only [if_pos, aUn_not, bnd_some', Bool.not_true, aGuardK_ff]
    rw [str_len]
    have hrem : aBin .rem .no (.int .i64 ((s.drop 1).length : Nat)) (.int .i64 2) = some (.int .i64 ((s.drop 1).length % 2 : Nat)) := by
      rw [aBin_rem _ _ _ _ (by decide)]; rfl
    simp only [bnd_some']
    rw [hrem]
    simp only [bnd_some', aBin_gtr, aPick_ff]
    by_cases hodd : 0 < (s.drop 1).length % 2
    · rw [show decide ((0 : Int) < (((s.drop 1).length % 2 : Nat) : Int)) = true from decide_eq_true (by omega)]
      simp only [aGuardK_tf, aPick_tt, bnd_some', aCond_true]
      exact ⟨by trivial, by trivial⟩
    · have htr : ¬ trimL (trimR (s.drop 1)) = [] := by
        intro h
        unfold badL at hb
        rw [hp, h, decide_eq_false hodd] at hb
        simp at hb
      rw [show decide ((0 : Int) < (((s.drop 1).length % 2 : Nat) : Int)) = false from decide_eq_false (by omega)]
      simp only [aGuardK_ff]
      refine (c40 _ (by rw [List.length_drop]; omega)).use ?_
      rw [show (.string ⟨#[]⟩ : Value) = bstr [] from rfl]
      simp only [str_ne, bnd_some', decide_eq_false htr, Bool.not_false, aPick_ff, aCond_true]
      exact ⟨by trivial, by trivial⟩

set_option maxHeartbeats 1000000 in
theorem c9w {H : AHeap} (hT : TbM H) {f c d : Int} (hf : I64 f) (hc : I64 c) (hd' : I64 d) {L : List (List UInt8)} (hL : L.length ≤ 256) (hl : ∀ b ∈ L, b.length ≤ 65536) (wr rest : List UInt8) (hw : 10 ∉ wr) (hwl : wr.length ≤ 1000000) (hbad : badL wr = true) (hrl : rest.length ≤ 1000000000) :
    ACalls Tryd.prog 9 [bstr (hd f c d 3 ++ [10] ++ (tl L ++ (wr ++ 10 :: rest)))] H fun v H' => v = .tuple #[eLim 0 0 0, .slice none 0 0, .int .i64 (2 + L.length : Nat), .int .i64 3] ∧ Keep H.next H H' := by
  refine S9_calls ?_
  unfold S9
  rw [aAlloc_eq]
  have h1 := itoa_le hf
  have h2 := itoa_le hc
  have h3 := itoa_le hd'
  have h8 := hT.tb.next
  have htl := tl_length hl
  have hk1 : Keep H.next H (H.alloc (.cells [.int .i64 0, .int .i64 0, .int .i64 0] .var 27)) := (Keep.refl _ _).alloc (Nat.le_refl _) _
  have hat1 : (H.alloc (.cells [.int .i64 0, .int .i64 0, .int .i64 0] .var 27)).at_ H.next = .cells [.int .i64 0, .int .i64 0, .int .i64 0] .var 27 := AHeap.at_alloc_new _ _
  have hn1 : (H.alloc (.cells [.int .i64 0, .int .i64 0, .int .i64 0] .var 27)).next = H.next + 1 := rfl
  generalize H.alloc (.cells [.int .i64 0, .int .i64 0, .int .i64 0] .var 27) = H1 at hk1 hat1 hn1
  have e0 : hd f c d 3 ++ [10] ++ (tl L ++ (wr ++ 10 :: rest)) = (Lib.itoa f ++ 32 :: (Lib.itoa c ++ 32 :: Lib.itoa d)) ++ 10 :: (tl L ++ (wr ++ 10 :: rest)) := by rw [hd3]; simp
  rw [e0, show (.string ⟨#[10]⟩ : Value) = bstr [10] from rfl]
  refine (c24 (hT.kept hk1) (line_no f c d) (by simp only [List.length_append, List.length_cons]; omega)).use ?_
  refine bnd_iff.2 ⟨bstr (Lib.itoa f ++ 32 :: (Lib.itoa c ++ 32 :: Lib.itoa d)), rfl, bnd_iff.2 ⟨bstr (tl L ++ (wr ++ 10 :: rest)), rfl, bnd_iff.2 ⟨.bool true, rfl, ?_⟩⟩⟩
  refine (c25 (hT.kept hk1) hf hc hd').use ?_
  unfold S9_85
  refine bnd_iff.2 ⟨eLim f c d, rfl, bnd_iff.2 ⟨.bool true, rfl, ?_⟩⟩
  have hst : aSt 3 (.pointer (some ⟨H.next, 0, none⟩)) (eLim f c d) H1 = some (H1.upd H.next (.cells [.int .i64 f, .int .i64 c, .int .i64 d] .var 27)) := by rw [aSt_ptr, hat1]; rfl
  rw [hst, bnd_some']
  have hk2 : Keep H.next H (H1.upd H.next (.cells [.int .i64 f, .int .i64 c, .int .i64 d] .var 27)) := hk1.upd (Nat.le_refl _) _
  have hat2 : (H1.upd H.next (.cells [.int .i64 f, .int .i64 c, .int .i64 d] .var 27)).at_ H.next = .cells [.int .i64 f, .int .i64 c, .int .i64 d] .var 27 := AHeap.at_upd_same _ _ _
  have hn2 : (H1.upd H.next (.cells [.int .i64 f, .int .i64 c, .int .i64 d] .var 27)).next = H.next + 1 := hn1
  generalize H1.upd H.next (.cells [.int .i64 f, .int .i64 c, .int .i64 d] .var 27) = H2 at hk2 hat2 hn2
  simp only [aUn_not, bnd_some', Bool.not_true, aGuardK_ff, aPick_ff, aCond_false]
  refine aLoop_vs L.length (fun i vs H3 => i ≤ L.length ∧ ∃ B qs, vs = [.slice B qs.length qs.length, .int .i64 (2 + i : Nat), bstr (tl (L.drop i) ++ (wr ++ 10 :: rest))] ∧ qs.map (·.2) = L.take i ∧
    Ow 1 eC 22 (H.next + 1) H3 B qs ∧ (∀ q ∈ qs, Ow 1 eU 5 (H.next + 1) H3 q.1 q.2) ∧ H3.at_ H.next = .cells [.int .i64 f, .int .i64 c, .int .i64 d] .var 27 ∧ Keep H.next H H3 ∧ H.next + 1 ≤ H3.next)
    ⟨Nat.zero_le _, none, [], rfl, by simp, Ow.nil _ _ _ _ _, by simp, hat2, hk2, by omega⟩ ?_
  rintro i vs H3 again hi ⟨_, B, qs, rfl, hq, hO, hI, ha, hk3, hn3⟩ hag
  have hql : qs.length = i := by have := congrArg List.length hq; simpa [Nat.min_eq_left hi] using this
  unfold S9_84
  simp only [nth_2]
  rw [show (.string ⟨#[]⟩ : Value) = bstr [] from rfl, str_ne, bnd_some']
  by_cases hlt : i < L.length
  · have hne : ¬ (tl (L.drop i) ++ (wr ++ 10 :: rest)) = [] := by simp
    rw [decide_eq_false hne, Bool.not_false, aCond_true]
    unfold S9_80
    simp only [nth_2]
    have hbl := hl _ (List.getElem_mem hlt)
    have htl2 := tl_length (L := L.drop (i + 1)) fun b hb => hl b (List.mem_of_mem_drop hb)
    have hdl : (L.drop (i + 1)).length ≤ 256 := by rw [List.length_drop]; omega
    have hxl := hexL_length L[i]
    rw [tl_drop hlt, List.append_assoc, List.cons_append, show (.string ⟨#[10]⟩ : Value) = bstr [10] from rfl]
    refine (c24 (hT.kept hk3) (hexL_no _) (by simp only [List.length_append, List.length_cons]; omega)).use ?_
    refine bnd_iff.2 ⟨bstr (hexL L[i]), rfl, bnd_iff.2 ⟨bstr (tl (L.drop (i + 1)) ++ (wr ++ 10 :: rest)), rfl, bnd_iff.2 ⟨.bool true, rfl, ?_⟩⟩⟩
    refine (c26 L[i] (by omega)).mono ?_
    rintro v H4 ⟨C, rfl, hC, hk4⟩
    unfold S9_79
    refine bnd_iff.2 ⟨.slice C (L[i]).length (L[i]).length, rfl, bnd_iff.2 ⟨.bool true, rfl, ?_⟩⟩
    simp only [aUn_not, bnd_some', Bool.not_true, aGuardK_ff, aPick_ff, aCond_false]
    unfold S9_78
    simp only [aLenSl_slice, bnd_some', aBin_gtr]
    rw [show decide ((65536 : Int) < ((L[i]).length : Int)) = false from decide_eq_false (by omega)]
    simp only [aGuardK_ff, nth_zero, aLenSl_slice, bnd_some', aBin_geq]
    rw [show decide ((256 : Int) ≤ (qs.length : Int)) = false from decide_eq_false (by omega)]
    simp only [aPick_ff, bnd_some', aCond_false]
    have hn4 := hk4.next
    have hO4 := hO.kept hk4
    have hI4 : ∀ q ∈ qs ++ [((C : Option Addr), L[i])], Ow 1 eU 5 (H.next + 1) H4 q.1 q.2 := by
      intro q hq'
      rcases List.mem_append.1 hq' with h | h
      · exact (hI q h).kept hk4
      · simp at h; subst h; exact hC.lower (by omega)
    have hk5 : Keep H.next H H4 := hk3.trans (hk4.lower (by omega))
    have ha4 : H4.at_ H.next = .cells [.int .i64 f, .int .i64 c, .int .i64 d] .var 27 := (hk4.at_ _ (by omega)).trans ha
    rw [aBuildSlice_eq]
    refine bnd_iff.2 ⟨[.slice C (L[i]).length (L[i]).length], rfl, ⟨rfl, rfl⟩, ?_⟩
    have hN : Ow 1 eC 22 H4.next (H4.alloc (.cells [.slice C (L[i]).length (L[i]).length] (.row 1) 22)) (some ⟨H4.next, 0, none⟩) [((C : Option Addr), L[i])] := Ow.new H4 _ (fun _ _ => rfl) rfl
    have hO6 := hO4.alloc (.cells [.slice C (L[i]).length (L[i]).length] (.row 1) 22)
    have hI6 : ∀ q ∈ qs ++ [((C : Option Addr), L[i])], Ow 1 eU 5 (H.next + 1) (H4.alloc (.cells [.slice C (L[i]).length (L[i]).length] (.row 1) 22)) q.1 q.2 := fun q hq' => (hI4 q hq').alloc _
    have hk6 := hk5.alloc (by omega) (.cells [.slice C (L[i]).length (L[i]).length] (.row 1) 22)
    have ha6 : (H4.alloc (.cells [.slice C (L[i]).length (L[i]).length] (.row 1) 22)).at_ H.next = .cells [.int .i64 f, .int .i64 c, .int .i64 d] .var 27 := by rw [AHeap.at_alloc_ne _ _ (by omega)]; exact ha4
    have hn6 : (H4.alloc (.cells [.slice C (L[i]).length (L[i]).length] (.row 1) 22)).next = H4.next + 1 := rfl
    generalize H4.alloc (.cells [.slice C (L[i]).length (L[i]).length] (.row 1) 22) = H6 at hN hO6 hI6 hk6 hn6 ha6
    refine Ow.append (bytes := 24) (c' := 1) (lo := H.next + 1) hO6 hN.rd (by omega) (by simp [maxLen]; omega) (by simp; omega) ?_
    intro H7 hO7 hn7 hat7 hk7
    simp only [nth_1, aBin_add, bnd_some']
    rw [wrap64 (by omega) (by omega)]
    refine hag _ _ hlt ⟨by omega, _, _, ?_, ?_, hO7, ?_, ?_, hk6.trans (hk7.lower (by omega)), by omega⟩
    · congr 3
    · rw [← List.take_append_getElem hlt, List.map_append, hq]
      rfl
    · intro q hq'
      refine Ow.keepT (hI6 q hq') (by omega) fun b cs g1 g2 g3 => hat7 b g2 fun o s hB => ?_
      rcases hO6.2 with ⟨h4, _⟩ | ⟨b', cs', h4, _, _, h7, _⟩
      · rw [h4] at hB; cases hB
      · rw [h4] at hB
        cases hB
        rw [g3] at h7
        injection h7 with _ _ h8
        exact absurd h8 (by decide)
    · exact (hk7.at_ _ (by omega)).trans ha6
  · have hge : i = L.length := by omega
    subst hge
    have hnil : tl (L.drop L.length) = [] := by rw [List.drop_length]; rfl
    rw [hnil, List.nil_append, decide_eq_false (show ¬ wr ++ 10 :: rest = [] by simp), Bool.not_false, aCond_true]
    unfold S9_80
    simp only [nth_2]
    rw [show (.string ⟨#[10]⟩ : Value) = bstr [10] from rfl]
    refine (c24 (hT.kept hk3) hw (by omega)).use ?_
    refine bnd_iff.2 ⟨bstr wr, rfl, bnd_iff.2 ⟨bstr rest, rfl, bnd_iff.2 ⟨.bool true, rfl, ?_⟩⟩⟩
    refine (c26_bad wr hwl hbad).use ?_
    unfold S9_79
    refine bnd_iff.2 ⟨.slice none 0 0, rfl, bnd_iff.2 ⟨.bool false, rfl, ?_⟩⟩
    simp only [aUn_not, bnd_some', Bool.not_false, aGuardK_tf, aPick_tt, aCond_true, nth_1]
    refine bnd_iff.2 ⟨[.int .i64 0, .int .i64 0, .int .i64 0], rfl, ?_⟩
    refine bnd_iff.2 ⟨H3.upd H.next (.cells [.int .i64 0, .int .i64 0, .int .i64 0] .var 27), by rw [aSt_ptr, ha]; rfl, ?_⟩
    refine bnd_iff.2 ⟨eLim 0 0 0, by rw [aLdAgg_ptr, AHeap.at_upd_same]; rfl, ?_⟩
    exact ⟨rfl, hk3.upd (Nat.le_refl _) _⟩
end Go.Proofs.YtnbnojkfhfkecaaDoor.A

/- ScriptLines. -/
set_option linter.unusedVariables false
set_option linter.unusedSimpArgs false
set_option maxRecDepth 100000
namespace Go.Proofs.YtnbnojkfhfkecaaDoor.A
open Go Go.Abs

/-- The lines so far, one more (w) ahead of the k-th. -/
def An (L : List (List UInt8)) (k : Nat) (w : List UInt8) : Nat → List UInt8
  | 0 => []
  | i + 1 => An L k w i ++ (if i = k then w ++ [10] else []) ++ (match L[i]? with | some b => hexL b ++ [10] | none => [])
theorem tl_append (L M : List (List UInt8)) : tl (L ++ M) = tl L ++ tl M := by simp [tl]
theorem An_low (L : List (List UInt8)) (k : Nat) (w : List UInt8) : ∀ i, i ≤ k → An L k w i = tl (L.take i)
  | 0, _ => by simp [An, tl]
  | i + 1, h => by
    rw [An, An_low L k w i (by omega), if_neg (by omega), List.append_nil, List.take_add_one, tl_append]
    congr 1
    cases L[i]? <;> simp [tl]
theorem An_high (L : List (List UInt8)) (k : Nat) (w : List UInt8) (hk : k ≤ L.length) : ∀ j, An L k w (k + 1 + j) = tl (L.take k) ++ (w ++ 10 :: tl ((L.drop k).take (j + 1)))
  | 0 => by
    rw [Nat.add_zero, An, An_low L k w k (Nat.le_refl _), if_pos rfl]
    have : (L.drop k).take (0 + 1) = (L[k]?).toList := by
      rw [Nat.zero_add, List.take_one, List.head?_drop]
    rw [this]
    cases L[k]? <;> simp [tl]
  | j + 1 => by
    rw [show k + 1 + (j + 1) = (k + 1 + j) + 1 by omega, An, An_high L k w hk j, if_neg (by omega), List.append_nil]
    have : (L.drop k).take (j + 1 + 1) = (L.drop k).take (j + 1) ++ (L[k + 1 + j]?).toList := by
      rw [List.take_add_one (i := j + 1), List.getElem?_drop, show k + (j + 1) = k + 1 + j by omega]
    rw [this, tl_append]
    cases L[k + 1 + j]? <;> simp [tl]
theorem An_end (L : List (List UInt8)) (k : Nat) (w : List UInt8) (hk : k ≤ L.length) : An L k w (L.length + 1) = tl (L.take k) ++ (w ++ 10 :: tl (L.drop k)) := by
  rw [show L.length + 1 = k + 1 + (L.length - k) by omega, An_high L k w hk, show (L.drop k).take (L.length - k + 1) = L.drop k from List.take_of_length_le (by rw [List.length_drop]; omega)]

theorem An_len {L : List (List UInt8)} (h : ∀ b ∈ L, b.length ≤ 3000) (k : Nat) (w : List UInt8) (hw : w.length ≤ 100) : ∀ i, (An L k w i).length ≤ 7000 * i
  | 0 => by simp [An]
  | i + 1 => by
    have ih := An_len h k w hw i
    have h1 : (if i = k then w ++ [10] else []).length ≤ 101 := by split <;> simp <;> omega
    have h2 : (match L[i]? with | some b => hexL b ++ [10] | none => [] : List UInt8).length ≤ 6002 := by
      cases hb : L[i]? with
      | none => simp
      | some b =>
        have := h b (List.mem_of_getElem? hb)
        have hx := hexL_length b
        simp only [List.length_append, List.length_cons, List.length_nil]
        omega
    rw [An, List.length_append, List.length_append]
    omega

def wrongs : List (List UInt8) := [[120, 49], [52, 49], [120, 52, 71], [32, 120], [120, 52, 49, 32], [88]]
theorem wrong_ok : ∀ w ∈ wrongs, badL w = true ∧ 10 ∉ w ∧ w.length ≤ 4 := by decide

set_option maxHeartbeats 2000000 in
theorem c4end {H H5 : AHeap} {A : Option Addr} {ps : List Chunk} {f c d : Int} (hT : TbM H) (hf : I64 f) (hc : I64 c) (hd' : I64 d) (hn : ps.length ≤ 200) (hl : ∀ p ∈ ps, p.2.length ≤ 3000) (k : Nat) (hk : k ≤ ps.length) (w : List UInt8) (hw : badL w = true ∧ 10 ∉ w ∧ w.length ≤ 4)
    (hkp : Keep H.next H H5) (hlt : H.next < H5.next) (hat : H5.at_ H.next = .cells [.int .i64 f, .int .i64 c, .int .i64 d] .var 27) (q : Value) :
    S4_235 (.slice A ps.length ps.length) (fun v H' => v = .bool true ∧ Keep H.next H H') (.pointer (some ⟨H.next, 0, none⟩)) (.int .i64 k)
      [bstr (hd f c d 3 ++ [10] ++ An (ps.map (·.2)) k w (ps.length + 1)), bstr (hd f c d 3 ++ [10] ++ An (ps.map (·.2)) k (hexL [90]) (ps.length + 1)), q] H5 := by
  have hLl : (ps.map (·.2)).length = ps.length := by simp
  have hLb : ∀ b ∈ ps.map (·.2), b.length ≤ 3000 := by
    intro b hb
    obtain ⟨p, hp, rfl⟩ := List.mem_map.1 hb
    exact hl p hp
  generalize ps.map (·.2) = L at hLl hLb
  have e1 := An_end L k w (by omega)
  have e2 := An_end L k (hexL [90]) (by omega)
  rw [hLl] at e1 e2
  have e3 : tl (L.take k) ++ (hexL [90] ++ 10 :: tl (L.drop k)) = tl (L.take k ++ ([90] :: L.drop k)) := by simp [tl]
  unfold S4_235
  simp only [nth_zero, nth_1]
  rw [e1, e2, e3]
  have hrest := tl_length (L := L.drop k) fun b hb => by have := hLb b (List.mem_of_mem_drop hb); omega
  have hdl : (L.drop k).length ≤ 200 := by rw [List.length_drop]; omega
  have htl : (L.take k).length = k := by rw [List.length_take]; omega
  refine (c9w (hT.kept hkp) hf hc hd' (L := L.take k) (by omega) (fun b hb => by have := hLb b (List.mem_of_mem_take hb); omega) w (tl (L.drop k)) hw.2.1 (by omega) hw.1 (by omega)).mono ?_
  rintro v H6 ⟨rfl, hk6⟩
  rw [htl]
  refine bnd_iff.2 ⟨eLim 0 0 0, rfl, bnd_iff.2 ⟨.slice none 0 0, rfl, bnd_iff.2 ⟨.int .i64 (2 + k : Nat), rfl, bnd_iff.2 ⟨.int .i64 3, rfl, ?_⟩⟩⟩⟩
  have hst : ∀ (H6 : AHeap) (f c d : Int), aSt 3 (.pointer (some ⟨H6.next, 0, none⟩)) (eLim f c d) (H6.alloc (.cells [.int .i64 0, .int .i64 0, .int .i64 0] .var 27)) = some ((H6.alloc (.cells [.int .i64 0, .int .i64 0, .int .i64 0] .var 27)).upd H6.next (.cells [.int .i64 f, .int .i64 c, .int .i64 d] .var 27)) := by
    intro H6 f c d; rw [aSt_ptr, AHeap.at_alloc_new]; rfl
  rw [aAlloc_eq, hst, bnd_some']
  have hn6 := hk6.next
  have hk7 : Keep H5.next H5 ((H6.alloc (.cells [.int .i64 0, .int .i64 0, .int .i64 0] .var 27)).upd H6.next (.cells [.int .i64 0, .int .i64 0, .int .i64 0] .var 27)) := (hk6.alloc hn6 _).upd hn6 _
  generalize (H6.alloc (.cells [.int .i64 0, .int .i64 0, .int .i64 0] .var 27)).upd H6.next (.cells [.int .i64 0, .int .i64 0, .int .i64 0] .var 27) = H7 at hk7
  have hkp7 : Keep H.next H H7 := hkp.trans (hk7.lower (by omega))
  have hn7 := hk7.next
  refine (c9 (hT.kept hkp7) hf hc hd' (L := L.take k ++ ([90] :: L.drop k)) (by simp; omega) (fun b hb => ?_)).mono ?_
  · rcases List.mem_append.1 hb with h | h
    · have := hLb b (List.mem_of_mem_take h); omega
    · rcases List.mem_cons.1 h with rfl | h
      · decide
      · have := hLb b (List.mem_of_mem_drop h); omega
  rintro v H8 ⟨B, qs, rfl, hq, hC, hk8⟩
  have hql : qs.length = ps.length + 1 := by
    have := congrArg List.length hq
    simp at this
    omega
  have hn8 := hk8.next
  unfold S4_234
  refine bnd_iff.2 ⟨eLim f c d, rfl, bnd_iff.2 ⟨.slice B qs.length qs.length, rfl, bnd_iff.2 ⟨.int .i64 0, rfl, bnd_iff.2 ⟨.int .i64 0, rfl, ?_⟩⟩⟩⟩
  rw [aAlloc_eq, hst, bnd_some']
  have hk9 : Keep H8.next H8 ((H8.alloc (.cells [.int .i64 0, .int .i64 0, .int .i64 0] .var 27)).upd H8.next (.cells [.int .i64 f, .int .i64 c, .int .i64 d] .var 27)) := ((Keep.refl _ _).alloc (Nat.le_refl _) _).upd (Nat.le_refl _) _
  have ha9 : aLdAgg 3 (.pointer (some ⟨H8.next, 0, none⟩)) ((H8.alloc (.cells [.int .i64 0, .int .i64 0, .int .i64 0] .var 27)).upd H8.next (.cells [.int .i64 f, .int .i64 c, .int .i64 d] .var 27)) = some (eLim f c d) := by
    rw [aLdAgg_ptr, AHeap.at_upd_same]; rfl
  generalize (H8.alloc (.cells [.int .i64 0, .int .i64 0, .int .i64 0] .var 27)).upd H8.next (.cells [.int .i64 f, .int .i64 c, .int .i64 d] .var 27) = H9 at hk9 ha9
  have hkp9 : Keep H.next H H9 := hkp7.trans ((hk8.lower (by omega)).trans (hk9.lower (by omega)))
  have ha0 : aLdAgg 3 (.pointer (some ⟨H.next, 0, none⟩)) H9 = some (eLim f c d) := by
    rw [aLdAgg_ptr, hk9.at_ _ (by omega), hk8.at_ _ (by omega), hk7.at_ _ (by omega), hat]; rfl
  have hcmp : aBin .eql (.cells [.int, .int, .int]) (eLim f c d) (eLim f c d) = some (.bool true) := by simp [aBin, aEqK, sameCells, sameCell]
  have hC9 : Chs H8.next H9 B qs := hC.keep hk9.at_
  have hkq : k < qs.length := by omega
  have hqk : (qs[k]).2 = [90] := by
    have g1 : (qs.map (·.2))[k]? = some (qs[k]).2 := by rw [List.getElem?_map, List.getElem?_eq_getElem hkq]; rfl
    rw [hq, List.getElem?_append_right (by omega), htl, Nat.sub_self] at g1
    simpa using g1.symm
  have i1 := hC9.rd.idx (k := .i64) (c := qs.length) (j := (k : Int)) (by omega) (by omega)
  have l1 := Rd.ld hC9.rd hkq
  have hby := bytesOfBy (hC9.el _ (List.getElem_mem hkq)) (qs[k]).2.length
  rw [hqk] at hby l1
  have w1 : IntKind.i64.wrap ((k : Int) + 2) = ((2 + k : Nat) : Int) := by rw [wrap64 (by omega) (by omega)]; omega
  have w2 : IntKind.i64.wrap ((ps.length : Int) + 1) = (qs.length : Int) := by rw [wrap64 (by omega) (by omega)]; omega
  have z0 : decide (((0 : Nat) : Int) = 0) = true := rfl
  simp only [aBin_eql, bnd_some', decide_true, z0, aGuardK_tt, aBin_add, w1, w2, aPick_tt, aLenSl_slice, ha9, ha0, hcmp, i1, Int.toNat_natCast, l1, hby]
  rw [show (.string ⟨#[90]⟩ : Value) = bstr [90] from rfl, str_eq]
  simp only [decide_true, bnd_some', aPick_tt]
  exact ⟨by simp, hkp9⟩
end Go.Proofs.YtnbnojkfhfkecaaDoor.A

/- ScriptLines, whole. -/
set_option linter.unusedVariables false
set_option linter.unusedSimpArgs false
set_option maxRecDepth 100000
namespace Go.Proofs.YtnbnojkfhfkecaaDoor.A
open Go Go.Abs

theorem rem_i64 (a m : Nat) (hm : 0 < m) : aBin .rem .no (.int .i64 a) (.int .i64 (m : Int)) = some (.int .i64 (a % m : Nat)) := by
  rw [aBin_rem _ _ _ _ (by omega)]
  rfl
theorem An_succ (L : List (List UInt8)) (k : Nat) (w : List UInt8) (i : Nat) : An L k w (i + 1) = An L k w i ++ (if i = k then w ++ [10] else []) ++ (match L[i]? with | some b => hexL b ++ [10] | none => []) := rfl

set_option maxHeartbeats 2000000 in
theorem c4 {H : AHeap} {A : Option Addr} {ps : List Chunk} {f c d : Int} (hT : TbM H) (hf : I64 f) (hc : I64 c) (hd' : I64 d) (hR : Chs H.next H A ps) (hn : ps.length ≤ 9223372036854775807) (a b : Nat) (ha : a < 256) (hb : b < 256) :
    ACalls Tryd.prog 4 [eLim f c d, .slice A ps.length ps.length, .int .u8 a, .int .u8 b] H fun v H' => v = .bool true ∧ H' = H := by
  refine ACalls.eq (S4_calls ?_) rfl
  unfold S4
  rw [aBox_eq]
  refine ⟨rfl, ?_⟩
  have e0 : vcells (eLim f c d) = [.int .i64 f, .int .i64 c, .int .i64 d] := rfl
  rw [e0]
  have h8 := hT.tb.next
  have hat : (H.alloc (.cells [.int .i64 f, .int .i64 c, .int .i64 d] .var 27)).at_ H.next = .cells [.int .i64 f, .int .i64 c, .int .i64 d] .var 27 := AHeap.at_alloc_new _ _
  have hk : Keep H.next H (H.alloc (.cells [.int .i64 f, .int .i64 c, .int .i64 d] .var 27)) := (Keep.refl _ _).alloc (Nat.le_refl _) _
  have hnx : (H.alloc (.cells [.int .i64 f, .int .i64 c, .int .i64 d] .var 27)).next = H.next + 1 := rfl
  generalize H.alloc (.cells [.int .i64 f, .int .i64 c, .int .i64 d] .var 27) = H1 at hat hk hnx
  have hR1 : Chs H1.next H1 A ps := (hR.keep hk.at_).up (by omega)
  refine (c11 (hT.kept hk).tb).use ?_
  unfold S4_239
  simp only [aUn_not, bnd_some', Bool.not_true, aGuardK_ff]
  refine (c12 hR1 hn).mono ?_
  rintro v H2 ⟨⟨bb, rfl, hbb⟩, rfl⟩
  simp only [aUn_not, bnd_some', aPick_ff]
  have ans : ∀ (K : Value → AHeap → Prop), K (.bool true) H2 → ACalls Tryd.prog 11 [] H2 K := fun K h => (c11 (hT.kept hk).tb).use h
  cases bb with
  | false =>
    simp only [Bool.not_false, aGuardK_tf, aPick_tt, bnd_some', aCond_true]
    exact ans _ ⟨rfl, hk⟩
  | true =>
    obtain ⟨_, hl3⟩ := hbb rfl
    simp only [Bool.not_true, aGuardK_ff, aLenSl_slice, bnd_some', aBin_gtr, aPick_ff]
    refine aCond_of (fun hbig => ans _ ⟨rfl, hk⟩) (fun hsm => ?_)
    have hsm : ps.length ≤ 200 := by have := of_decide_eq_false hsm; omega
    unfold S4_238
    simp only [aConvInt_int, bnd_some', aLenSl_slice, aBin_add]
    rw [wrap64 (x := (a : Int)) (by omega) (by omega), wrap64 (x := (ps.length : Int) + 1) (by omega) (by omega), show (ps.length : Int) + 1 = ((ps.length + 1 : Nat) : Int) by omega, rem_i64 a _ (by omega), bnd_some']
    obtain ⟨k, hkd⟩ : ∃ k, k = a % (ps.length + 1) := ⟨_, rfl⟩
    have hkl : k ≤ ps.length := by have := Nat.mod_lt a (show 0 < ps.length + 1 by omega); omega
    rw [← hkd, aBuildSlice_eq]
    refine bnd_iff.2 ⟨wrongs.map bstr, rfl, ⟨rfl, rfl⟩, ?_⟩
    rw [wrap64 (x := (b : Int)) (by omega) (by omega), show (6 : Int) = ((6 : Nat) : Int) from rfl, rem_i64 b 6 (by decide), bnd_some']
    have hb6 : b % 6 < 6 := Nat.mod_lt _ (by decide)
    have hk3 : Keep H.next H (H2.alloc (.cells (wrongs.map bstr) (.row 1) 9)) := hk.alloc (by omega) _
    have hatw : (H2.alloc (.cells (wrongs.map bstr) (.row 1) 9)).at_ H2.next = .cells (wrongs.map bstr) (.row 1) 9 := AHeap.at_alloc_new _ _
    have hat3 : (H2.alloc (.cells (wrongs.map bstr) (.row 1) 9)).at_ H.next = .cells [.int .i64 f, .int .i64 c, .int .i64 d] .var 27 := by rw [AHeap.at_alloc_ne _ _ (by omega)]; exact hat
    have hR3 : Chs H2.next (H2.alloc (.cells (wrongs.map bstr) (.row 1) 9)) A ps := hR1.keep fun x hx => AHeap.at_alloc_ne _ _ (by omega)
    have hn3 : (H2.alloc (.cells (wrongs.map bstr) (.row 1) 9)).next = H.next + 2 := by simp [hnx]
    generalize H2.alloc (.cells (wrongs.map bstr) (.row 1) 9) = H3 at hk3 hatw hat3 hR3 hn3
    have hwl : b % 6 < wrongs.length := hb6
    have i1 : aIdxAddr 1 (.slice (some ⟨H2.next, 0, none⟩) 6 6) (.int .i64 ((b % 6 : Nat) : Int)) = some (.pointer (some ⟨H2.next, b % 6, none⟩)) := by
      unfold aIdxAddr
      dsimp only
      rw [if_pos ⟨by omega, by omega⟩]
      simp
    have l1 : aLdCell (.pointer (some ⟨H2.next, b % 6, none⟩)) H3 = some (bstr (wrongs[b % 6]'hwl)) := by
      rw [aLdCell_ptr, hatw, blkCell_cells, List.getElem?_map, List.getElem?_eq_getElem hwl]; rfl
    rw [i1, bnd_some', l1, bnd_some']
    have hw := wrong_ok _ (List.getElem_mem hwl)
    generalize wrongs[b % 6]'hwl = w at hw
    have hagg : aLdAgg 3 (.pointer (some ⟨H.next, 0, none⟩)) H3 = some (eLim f c d) := by rw [aLdAgg_ptr, hat3]; rfl
    rw [hagg, bnd_some', bnd_some']
    refine (c13 hf hc hd').use ?_
    rw [hagg, bnd_some']
    refine ⟨rfl, (c13 hf hc hd').use ?_⟩
    have hLb : ∀ x ∈ ps.map (·.2), x.length ≤ 3000 := by
      intro x hx
      obtain ⟨p, hp, rfl⟩ := List.mem_map.1 hx
      exact hl3 p hp
    have hhd := hd_length hf hc hd' 3
    refine aLoop_vs (ps.length + 1) (fun i vs H4 => i ≤ ps.length + 1 ∧ vs = [bstr (hd f c d 3 ++ [10] ++ An (ps.map (·.2)) k w i), bstr (hd f c d 3 ++ [10] ++ An (ps.map (·.2)) k (hexL [90]) i), .int .i64 i] ∧ H4 = H3)
      ⟨Nat.zero_le _, by simp [An], rfl⟩ ?_
    rintro i vs H4 again hi ⟨_, rfl, rfl⟩ hag
    unfold S4_236
    simp only [aLenSl_slice, nth_2, aBin_leq, bnd_some']
    refine aCond_of (fun hle => ?_) (fun hgt => ?_)
    · have hle : i ≤ ps.length := by have := of_decide_eq_true hle; omega
      have hA1 := An_len hLb k w (by omega) i
      have hA2 := An_len hLb k (hexL [90]) (by decide) i
      unfold S4_86
      rw [aJoin_eq, aJoin_eq]
      have fin : ∀ x y, x = hd f c d 3 ++ [10] ++ (An (ps.map (·.2)) k w i ++ (if i = k then w ++ [10] else [])) → y = hd f c d 3 ++ [10] ++ (An (ps.map (·.2)) k (hexL [90]) i ++ (if i = k then hexL [90] ++ [10] else [])) →
          S4_85 (.slice A ps.length ps.length) [bstr (hd f c d 3 ++ [10] ++ An (ps.map (·.2)) k w i), bstr (hd f c d 3 ++ [10] ++ An (ps.map (·.2)) k (hexL [90]) i), .int .i64 i]
            (fun vs_59 H_60 => bnd (aBin .add .no (nth [bstr (hd f c d 3 ++ [10] ++ An (ps.map (·.2)) k w i), bstr (hd f c d 3 ++ [10] ++ An (ps.map (·.2)) k (hexL [90]) i), .int .i64 i] 2) (.int .i64 1)) fun t56_62 => again [(nth vs_59 0), (nth vs_59 1), t56_62] H_60)
            [bstr x, bstr y] H4 := by
        rintro x y hx hy
        have hxl : x.length ≤ 10000000 := by
          rw [hx]
          have : (if i = k then w ++ [10] else []).length ≤ 5 := by split <;> simp <;> omega
          simp only [List.length_append, List.length_cons, List.length_nil] at this ⊢
          omega
        have hyl : y.length ≤ 10000000 := by
          rw [hy]
          have : (if i = k then hexL [90] ++ [10] else []).length ≤ 5 := by split <;> decide
          simp only [List.length_append, List.length_cons, List.length_nil] at this ⊢
          omega
        unfold S4_85
        simp only [aLenSl_slice, nth_2, aBin_lss, bnd_some']
        refine aCond_of (fun hlt => ?_) (fun hge => ?_)
        · have hlt : i < ps.length := by have := of_decide_eq_true hlt; omega
          have hid := hR3.rd.idx (k := .i64) (c := ps.length) (j := (i : Int)) (by omega) (by omega)
          have hld := Rd.ld hR3.rd hlt
          have hpl := hl3 _ (List.getElem_mem hlt)
          have hhl := hexL_length (ps[i]).2
          have hby := (hR3.el _ (List.getElem_mem hlt)).up (show H2.next ≤ H4.next by omega)
          have hLi : (ps.map (·.2))[i]? = some (ps[i]).2 := by rw [List.getElem?_map, List.getElem?_eq_getElem hlt]; rfl
          unfold S4_80
          simp only [nth_zero, nth_1, nth_2, hid, hld, bnd_some', Int.toNat_natCast]
          refine (c10 hby (by omega)).use ?_
          rw [show (.string ⟨#[10]⟩ : Value) = bstr [10] from rfl, aBin_sadd _ _ _ (by omega), bnd_some', aBin_sadd _ _ _ (by simp only [List.length_append, List.length_cons, List.length_nil]; omega), bnd_some']
          simp only [nth_zero, nth_1, nth_2, hid, hld, bnd_some', Int.toNat_natCast]
          refine (c10 hby (by omega)).use ?_
          rw [aBin_sadd _ _ _ (by omega), bnd_some', aBin_sadd _ _ _ (by simp only [List.length_append, List.length_cons, List.length_nil]; omega), bnd_some']
          simp only [nth_zero, nth_1, nth_2, aBin_add, bnd_some']
          rw [wrap64 (by omega) (by omega)]
          refine hag _ _ (by omega) ⟨by omega, ?_, rfl⟩
          rw [An_succ, An_succ, hLi, hx, hy]
          simp only [List.append_assoc]
          rfl
        · have hge : i = ps.length := by have := of_decide_eq_false hge; omega
          have hLi : (ps.map (·.2))[i]? = none := by rw [List.getElem?_eq_none (by simp; omega)]
          simp only [nth_zero, nth_1, nth_2, aBin_add, bnd_some']
          rw [wrap64 (by omega) (by omega)]
          refine hag _ _ (by omega) ⟨by omega, ?_, rfl⟩
          rw [An_succ, An_succ, hLi, hx, hy]
          simp only [List.append_assoc, List.append_nil]
          rfl
      simp only [nth_zero, nth_1, nth_2, aBin_eql, bnd_some']
      refine aCond_of (fun hek => ?_) (fun hnk => ?_)
      · have hek : i = k := by have := of_decide_eq_true hek; omega
        rw [show (.string ⟨#[10]⟩ : Value) = bstr [10] from rfl, aBin_sadd _ _ _ (by simp only [List.length_append, List.length_cons, List.length_nil]; omega), bnd_some', aBin_sadd _ _ _ (by simp only [List.length_append, List.length_cons, List.length_nil]; omega), bnd_some']
        rw [show (.string ⟨#[120, 53, 97, 10]⟩ : Value) = bstr (hexL [90] ++ [10]) from rfl, aBin_sadd _ _ _ (by
          have : (hexL [90] ++ [10]).length = 4 := rfl
          simp only [List.length_append, List.length_cons, List.length_nil] at this ⊢
          omega), bnd_some']
        exact fin _ _ (by rw [if_pos hek]; simp) (by rw [if_pos hek]; simp)
      · have hnk : ¬ i = k := by have := of_decide_eq_false hnk; omega
        exact fin _ _ (by rw [if_neg hnk, List.append_nil]) (by rw [if_neg hnk, List.append_nil])
    · have hgt : i = ps.length + 1 := by have := of_decide_eq_false hgt; omega
      subst hgt
      exact c4end hT hf hc hd' hsm hl3 k hkl w hw hk3 (by omega) hat3 _
end Go.Proofs.YtnbnojkfhfkecaaDoor.A
