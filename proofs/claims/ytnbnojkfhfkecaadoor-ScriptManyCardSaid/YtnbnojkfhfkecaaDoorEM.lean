/- Contracts of functions that the statement reaches; each theorem carries its own conditions, the last theorem of the claim has none. -/
import Derived.Test.YtnbnojkfhfkecaaDoorEB
import Derived.Test.YtnbnojkfhfkecaaDoorC13
import Derived.Test.YtnbnojkfhfkecaaDoorF1
/- Get, past its limits. -/
set_option linter.unusedVariables false
set_option linter.unusedSimpArgs false
set_option maxRecDepth 100000
namespace Go.Proofs.YtnbnojkfhfkecaaDoor.A
open Go Go.Abs

theorem tl_length2 {L : List (List UInt8)} (h : ∀ b ∈ L, b.length ≤ 70000) : (tl L).length ≤ 140002 * L.length := by
  induction L with
  | nil => simp [tl]
  | cons p ps ih =>
    have h1 := h p (by simp)
    have h2 := ih fun q hq => h q (by simp [hq])
    have h3 := hexL_length p
    simp only [tl, List.flatMap_cons, List.length_append, List.length_cons, List.length_nil] at h2 ⊢
    omega

set_option maxHeartbeats 1000000 in
theorem c9g {H : AHeap} (hT : TbM H) {f c d : Int} (hf : I64 f) (hc : I64 c) (hd' : I64 d) {L : List (List UInt8)} (hL : L.length ≤ 300) (hl : ∀ b ∈ L, b.length ≤ 70000) (N : Nat) (hN : N ≤ 256) (hNL : N ≤ L.length) (hok : ∀ i (h : i < L.length), i < N → (L[i]).length ≤ 65536)
    (hbad : ∀ h : N < L.length, 65536 < (L[N]).length ∨ N = 256) :
    ACalls Tryd.prog 9 [bstr (hd f c d 3 ++ [10] ++ tl L)] H fun v H' => ((N = L.length ∧ ∃ B qs, v = .tuple #[eLim f c d, .slice B qs.length qs.length, .int .i64 0, .int .i64 0] ∧ qs.map (·.2) = L ∧ Chs H'.next H' B qs) ∨
      (N < L.length ∧ v = .tuple #[eLim 0 0 0, .slice none 0 0, .int .i64 (2 + N : Nat), .int .i64 6])) ∧ Keep H.next H H' := by
  refine S9_calls ?_
  unfold S9
  rw [aAlloc_eq]
  have h1 := itoa_le hf
  have h2 := itoa_le hc
  have h3 := itoa_le hd'
  have h8 := hT.tb.next
  have htl := tl_length2 hl
  have hk1 : Keep H.next H (H.alloc (.cells [.int .i64 0, .int .i64 0, .int .i64 0] .var 27)) := (Keep.refl _ _).alloc (Nat.le_refl _) _
  have hat1 : (H.alloc (.cells [.int .i64 0, .int .i64 0, .int .i64 0] .var 27)).at_ H.next = .cells [.int .i64 0, .int .i64 0, .int .i64 0] .var 27 := AHeap.at_alloc_new _ _
  have hn1 : (H.alloc (.cells [.int .i64 0, .int .i64 0, .int .i64 0] .var 27)).next = H.next + 1 := rfl
  generalize H.alloc (.cells [.int .i64 0, .int .i64 0, .int .i64 0] .var 27) = H1 at hk1 hat1 hn1
  have e0 : hd f c d 3 ++ [10] ++ tl L = (Lib.itoa f ++ 32 :: (Lib.itoa c ++ 32 :: Lib.itoa d)) ++ 10 :: tl L := by rw [hd3]; simp
  rw [e0, show (.string ⟨#[10]⟩ : Value) = bstr [10] from rfl]
  refine (c24 (hT.kept hk1) (line_no f c d) (by simp only [List.length_append, List.length_cons]; omega)).use ?_
  refine bnd_iff.2 ⟨bstr (Lib.itoa f ++ 32 :: (Lib.itoa c ++ 32 :: Lib.itoa d)), rfl, bnd_iff.2 ⟨bstr (tl L), rfl, bnd_iff.2 ⟨.bool true, rfl, ?_⟩⟩⟩
  refine (c25 (hT.kept hk1) hf hc hd').use ?_
  unfold S9_85
  refine bnd_iff.2 ⟨eLim f c d, rfl, bnd_iff.2 ⟨.bool true, rfl, ?_⟩⟩
  have hst : aSt 3 (.pointer (some ⟨H.next, 0, none⟩)) (eLim f c d) H1 = some (H1.upd H.next (.cells [.int .i64 f, .int .i64 c, .int .i64 d] .var 27)) := by rw [aSt_ptr, hat1]; rfl
  rw [hst, bnd_some']
  have hk2 : Keep H.next H (H1.upd H.next (.cells [.int .i64 f, .int .i64 c, .int .i64 d] .var 27)) := hk1.upd (Nat.le_refl _) _
  have hat2 : (H1.upd H.next (.cells [.int .i64 f, .int .i64 c, .int .i64 d] .var 27)).at_ H.next = .cells [.int .i64 f, .int .i64 c, .int .i64 d] .var 27 := AHeap.at_upd_same _ _ _
  have hn2 : (H1.upd H.next (.cells [.int .i64 f, .int .i64 c, .int .i64 d] .var 27)).next = H.next + 1 := hn1
  generalize H1.upd H.next (.cells [.int .i64 f, .int .i64 c, .int .i64 d] .var 27) = H2 at hk2 hat2 hn2
  simp only [aUn_not, bnd_some', Bool.not_true, aGuardK_ff, aPick_ff, aCond_false]
  refine aLoop_vs N (fun i vs H3 => i ≤ N ∧ ∃ B qs, vs = [.slice B qs.length qs.length, .int .i64 (2 + i : Nat), bstr (tl (L.drop i))] ∧ qs.map (·.2) = L.take i ∧
    Ow 1 eC 22 (H.next + 1) H3 B qs ∧ (∀ q ∈ qs, Ow 1 eU 5 (H.next + 1) H3 q.1 q.2) ∧ H3.at_ H.next = .cells [.int .i64 f, .int .i64 c, .int .i64 d] .var 27 ∧ Keep H.next H H3 ∧ H.next + 1 ≤ H3.next)
    ⟨Nat.zero_le _, none, [], rfl, by simp, Ow.nil _ _ _ _ _, by simp, hat2, hk2, by omega⟩ ?_
  rintro i vs H3 again hi ⟨_, B, qs, rfl, hq, hO, hI, ha, hk3, hn3⟩ hag
  have hql : qs.length = i := by have := congrArg List.length hq; simpa [Nat.min_eq_left (show i ≤ L.length by omega)] using this
  unfold S9_84
  simp only [nth_2]
  rw [show (.string ⟨#[]⟩ : Value) = bstr [] from rfl, str_ne, bnd_some']
  by_cases hlt : i < L.length
  · have hne : ¬ tl (L.drop i) = [] := by rw [tl_drop hlt]; simp
    rw [decide_eq_false hne, Bool.not_false, aCond_true]
    unfold S9_80
    simp only [nth_2]
    have hbl := hl _ (List.getElem_mem hlt)
    have htl2 := tl_length2 (L := L.drop (i + 1)) fun b hb => hl b (List.mem_of_mem_drop hb)
    have hdl : (L.drop (i + 1)).length ≤ 300 := by rw [List.length_drop]; omega
    have hxl := hexL_length L[i]
    rw [tl_drop hlt, show (.string ⟨#[10]⟩ : Value) = bstr [10] from rfl]
    refine (c24 (hT.kept hk3) (hexL_no _) (by omega)).use ?_
    refine bnd_iff.2 ⟨bstr (hexL L[i]), rfl, bnd_iff.2 ⟨bstr (tl (L.drop (i + 1))), rfl, bnd_iff.2 ⟨.bool true, rfl, ?_⟩⟩⟩
    refine (c26 L[i] (by omega)).mono ?_
    rintro v H4 ⟨C, rfl, hC, hk4⟩
    unfold S9_79
    refine bnd_iff.2 ⟨.slice C (L[i]).length (L[i]).length, rfl, bnd_iff.2 ⟨.bool true, rfl, ?_⟩⟩
    simp only [aUn_not, bnd_some', Bool.not_true, aGuardK_ff, aPick_ff, aCond_false]
    unfold S9_78
    simp only [aLenSl_slice, bnd_some', aBin_gtr]
    by_cases hiN : i < N
    case neg =>
      have hiN : i = N := by omega
      subst hiN
      have ha4 : H4.at_ H.next = .cells [.int .i64 f, .int .i64 c, .int .i64 d] .var 27 := (hk4.at_ _ (by omega)).trans ha
      have hkb : Keep H.next H H4 := hk3.trans (hk4.lower (by omega))
      have fin : bnd (aFill [(.int .i64 0), (.int .i64 0), (.int .i64 0)] []) fun t66_70 =>
          bnd (aSt 3 (.pointer (some ⟨H.next, 0, none⟩)) (.agg t66_70.toArray) H4) fun H_71 =>
          bnd (aLdAgg 3 (.pointer (some ⟨H.next, 0, none⟩)) H_71) fun r_72 => ((i = L.length ∧ ∃ B qs, (.tuple #[r_72, (.slice none 0 0), (.int .i64 (2 + i : Nat)), (.int .i64 6)] : Value) = .tuple #[eLim f c d, .slice B qs.length qs.length, .int .i64 0, .int .i64 0] ∧ qs.map (·.2) = L ∧ Chs H_71.next H_71 B qs) ∨
            (i < L.length ∧ (.tuple #[r_72, (.slice none 0 0), (.int .i64 (2 + i : Nat)), (.int .i64 6)] : Value) = .tuple #[eLim 0 0 0, .slice none 0 0, .int .i64 (2 + i : Nat), .int .i64 6])) ∧ Keep H.next H H_71 := by
        refine bnd_iff.2 ⟨[.int .i64 0, .int .i64 0, .int .i64 0], rfl, ?_⟩
        refine bnd_iff.2 ⟨H4.upd H.next (.cells [.int .i64 0, .int .i64 0, .int .i64 0] .var 27), by rw [aSt_ptr, ha4]; rfl, ?_⟩
        refine bnd_iff.2 ⟨eLim 0 0 0, by rw [aLdAgg_ptr, AHeap.at_upd_same]; rfl, ?_⟩
        exact ⟨.inr ⟨hlt, rfl⟩, hkb.upd (Nat.le_refl _) _⟩
      by_cases hlong : 65536 < (L[i]).length
      · rw [show decide ((65536 : Int) < ((L[i]).length : Int)) = true from decide_eq_true (by omega)]
        simp only [aGuardK_tf, aPick_tt, bnd_some', aCond_true, nth_1]
        exact fin
      · have h256 : i = 256 := (hbad hlt).resolve_left hlong
        rw [show decide ((65536 : Int) < ((L[i]).length : Int)) = false from decide_eq_false (by omega)]
        simp only [aGuardK_ff, nth_zero, nth_1, aLenSl_slice, bnd_some', aBin_geq]
        rw [show decide ((256 : Int) ≤ (qs.length : Int)) = true from decide_eq_true (by omega)]
        simp only [aPick_ff, bnd_some', aCond_true]
        exact fin
    have hbl6 := hok i hlt hiN
    rw [show decide ((65536 : Int) < ((L[i]).length : Int)) = false from decide_eq_false (by omega)]
    simp only [aGuardK_ff, nth_zero, aLenSl_slice, bnd_some', aBin_geq]
    rw [show decide ((256 : Int) ≤ (qs.length : Int)) = false from decide_eq_false (by omega)]
    simp only [aPick_ff, bnd_some', aCond_false]
    have hn4 := hk4.next
    have hO4 := hO.kept hk4
    have hI4 : ∀ q ∈ qs ++ [((C : Option Addr), L[i])], Ow 1 eU 5 (H.next + 1) H4 q.1 q.2 := by
      intro q hq'
      rcases List.mem_append.1 hq' with h | h
      · exact (hI q h).kept hk4
      · simp at h; subst h; exact hC.lower (by omega)
    have hk5 : Keep H.next H H4 := hk3.trans (hk4.lower (by omega))
    have ha4 : H4.at_ H.next = .cells [.int .i64 f, .int .i64 c, .int .i64 d] .var 27 := (hk4.at_ _ (by omega)).trans ha
    rw [aBuildSlice_eq]
    refine bnd_iff.2 ⟨[.slice C (L[i]).length (L[i]).length], rfl, ⟨rfl, rfl⟩, ?_⟩
    have hN : Ow 1 eC 22 H4.next (H4.alloc (.cells [.slice C (L[i]).length (L[i]).length] (.row 1) 22)) (some ⟨H4.next, 0, none⟩) [((C : Option Addr), L[i])] := Ow.new H4 _ (fun _ _ => rfl) rfl
    have hO6 := hO4.alloc (.cells [.slice C (L[i]).length (L[i]).length] (.row 1) 22)
    have hI6 : ∀ q ∈ qs ++ [((C : Option Addr), L[i])], Ow 1 eU 5 (H.next + 1) (H4.alloc (.cells [.slice C (L[i]).length (L[i]).length] (.row 1) 22)) q.1 q.2 := fun q hq' => (hI4 q hq').alloc _
    have hk6 := hk5.alloc (by omega) (.cells [.slice C (L[i]).length (L[i]).length] (.row 1) 22)
    have ha6 : (H4.alloc (.cells [.slice C (L[i]).length (L[i]).length] (.row 1) 22)).at_ H.next = .cells [.int .i64 f, .int .i64 c, .int .i64 d] .var 27 := by rw [AHeap.at_alloc_ne _ _ (by omega)]; exact ha4
    have hn6 : (H4.alloc (.cells [.slice C (L[i]).length (L[i]).length] (.row 1) 22)).next = H4.next + 1 := rfl
    generalize H4.alloc (.cells [.slice C (L[i]).length (L[i]).length] (.row 1) 22) = H6 at hN hO6 hI6 hk6 hn6 ha6
    refine Ow.append (bytes := 24) (c' := 1) (lo := H.next + 1) hO6 hN.rd (by omega) (by simp [maxLen]; omega) (by simp; omega) ?_
    intro H7 hO7 hn7 hat7 hk7
    simp only [nth_1, aBin_add, bnd_some']
    rw [wrap64 (by omega) (by omega)]
    refine hag _ _ hiN ⟨by omega, _, _, ?_, ?_, hO7, ?_, ?_, hk6.trans (hk7.lower (by omega)), by omega⟩
    · congr 3
    · rw [← List.take_append_getElem hlt, List.map_append, hq]
      rfl
    · intro q hq'
      refine Ow.keepT (hI6 q hq') (by omega) fun b cs g1 g2 g3 => hat7 b g2 fun o s hB => ?_
      rcases hO6.2 with ⟨h4, _⟩ | ⟨b', cs', h4, _, _, h7, _⟩
      · rw [h4] at hB; cases hB
      · rw [h4] at hB
        cases hB
        rw [g3] at h7
        injection h7 with _ _ h8
        exact absurd h8 (by decide)
    · exact (hk7.at_ _ (by omega)).trans ha6
  · have hge : i = L.length := by omega
    have hNe : N = L.length := by omega
    subst hge
    have hnil : tl (L.drop L.length) = [] := by rw [List.drop_length]; rfl
    rw [decide_eq_true hnil, Bool.not_true, aCond_false]
    have hld : ∀ {H' : AHeap}, H'.at_ H.next = .cells [.int .i64 f, .int .i64 c, .int .i64 d] .var 27 → aLdAgg 3 (.pointer (some ⟨H.next, 0, none⟩)) H' = some (eLim f c d) := fun h => by rw [aLdAgg_ptr, h]; rfl
    rw [hld ha, bnd_some']
    have hst : aSt 3 (.pointer (some ⟨H.next, 0, none⟩)) (eLim f c d) H3 = some (H3.upd H.next (.cells [.int .i64 f, .int .i64 c, .int .i64 d] .var 27)) := by rw [aSt_ptr, ha]; rfl
    rw [hst, bnd_some', hld (AHeap.at_upd_same _ _ _), bnd_some', nth_zero]
    rw [List.take_length] at hq
    have keepU : ∀ {A : Option Addr} {xs : List UInt8}, Ow 1 eU 5 (H.next + 1) H3 A xs → Ow 1 eU 5 (H.next + 1) (H3.upd H.next (.cells [.int .i64 f, .int .i64 c, .int .i64 d] .var 27)) A xs := fun h =>
      h.keep (by simp) fun b g1 g2 => AHeap.at_upd_ne _ _ (by omega)
    refine ⟨.inl ⟨hNe, B, qs, rfl, hq, ⟨?_, fun q hq' => (keepU (hI q hq')).rd⟩⟩, hk3.upd (Nat.le_refl _) _⟩
    exact (hO.keep (H' := H3.upd H.next (.cells [.int .i64 f, .int .i64 c, .int .i64 d] .var 27)) (by simp) fun b g1 g2 => AHeap.at_upd_ne _ _ (by omega)).rd
end Go.Proofs.YtnbnojkfhfkecaaDoor.A

/- Put, at one chunk that is too long. -/
set_option linter.unusedVariables false
set_option linter.unusedSimpArgs false
set_option maxRecDepth 100000
namespace Go.Proofs.YtnbnojkfhfkecaaDoor.A
open Go Go.Abs

set_option maxHeartbeats 1000000 in
theorem c8_big {H : AHeap} {A : Option Addr} {p0 : Chunk} {f c d : Int} (hT : Tb H) (hf : I64 f) (hc : I64 c) (hd' : I64 d) (hR : Chs H.next H A [p0]) (hbig : 65536 < p0.2.length) :
    ACalls Tryd.prog 8 [eLim f c d, .slice A 1 1] H fun v H' => v = .tuple #[bstr [], .int .i64 6] ∧ H' = H := by
  refine ACalls.eqT (S8_calls ?_) (vin_pair rfl rfl)
  unfold S8
  rw [aBox_eq]
  refine ⟨rfl, ?_⟩
  have e0 : vcells (eLim f c d) = [.int .i64 f, .int .i64 c, .int .i64 d] := rfl
  rw [e0]
  simp only [aLenSl_slice, bnd_some', aBin_gtr]
  rw [show decide ((256 : Int) < ((1 : Nat) : Int)) = false from rfl, aCond_false, aAlloc_eq]
  have h8 := hT.next
  -- memory: the limits, the builder, the row of fields
  have hb0 : ((H.alloc (.cells [.int .i64 f, .int .i64 c, .int .i64 d] .var 27)).alloc (.cells [.pointer none, .slice none 0 0] .var 48)).at_ H.next = .cells [.int .i64 f, .int .i64 c, .int .i64 d] .var 27 := by
    rw [AHeap.at_alloc_ne _ _ (by simp), AHeap.at_alloc_new]
  have hbd : Bd (fun x => x < H.next + 1) (H.next + 1) [] ((H.alloc (.cells [.int .i64 f, .int .i64 c, .int .i64 d] .var 27)).alloc (.cells [.pointer none, .slice none 0 0] .var 48)) :=
    Bd.new (H := H.alloc (.cells [.int .i64 f, .int .i64 c, .int .i64 d] .var 27)) fun x h => h
  have hk0 : Keep H.next H ((H.alloc (.cells [.int .i64 f, .int .i64 c, .int .i64 d] .var 27)).alloc (.cells [.pointer none, .slice none 0 0] .var 48)) := ((Keep.refl _ _).alloc (Nat.le_refl _) _).alloc (by simp) _
  have hnx : ((H.alloc (.cells [.int .i64 f, .int .i64 c, .int .i64 d] .var 27)).alloc (.cells [.pointer none, .slice none 0 0] .var 48)).next = H.next + 2 := rfl
  show ACalls Tryd.prog 18 [.pointer (some ⟨H.next, 0, none⟩)] ((H.alloc (.cells [.int .i64 f, .int .i64 c, .int .i64 d] .var 27)).alloc (.cells [.pointer none, .slice none 0 0] .var 48)) _
  have e1 : (H.alloc (.cells [.int .i64 f, .int .i64 c, .int .i64 d] .var 27)).next = H.next + 1 := rfl
  rw [e1]
  generalize (H.alloc (.cells [.int .i64 f, .int .i64 c, .int .i64 d] .var 27)).alloc (.cells [.pointer none, .slice none 0 0] .var 48) = H2 at hb0 hbd hk0 hnx
  refine (c18 H.next).use2 ?_
  have hb2 : (H2.alloc (.cells [.pointer (some ⟨H.next, 0, none⟩), .pointer (some ⟨H.next, 1, none⟩), .pointer (some ⟨H.next, 2, none⟩)] (.row 1) 52)).at_ (H.next + 2) = .cells [.pointer (some ⟨H.next, 0, none⟩), .pointer (some ⟨H.next, 1, none⟩), .pointer (some ⟨H.next, 2, none⟩)] (.row 1) 52 := by
    rw [← hnx]; exact AHeap.at_alloc_new _ _
  have hb0' : (H2.alloc (.cells [.pointer (some ⟨H.next, 0, none⟩), .pointer (some ⟨H.next, 1, none⟩), .pointer (some ⟨H.next, 2, none⟩)] (.row 1) 52)).at_ H.next = .cells [.int .i64 f, .int .i64 c, .int .i64 d] .var 27 := by
    rw [AHeap.at_alloc_ne _ _ (by omega)]; exact hb0
  let F : Nat → Prop := fun x => x < H.next + 1 ∨ x = H.next + 2
  have hbd' : Bd F (H.next + 1) [] (H2.alloc (.cells [.pointer (some ⟨H.next, 0, none⟩), .pointer (some ⟨H.next, 1, none⟩), .pointer (some ⟨H.next, 2, none⟩)] (.row 1) 52)) := by
    obtain ⟨_, _, p, sl, hat, hp, hsl⟩ := hbd
    refine ⟨by show ¬ (H.next + 1 < H.next + 1 ∨ H.next + 1 = H.next + 2); omega, by simp; omega, p, sl, by rw [AHeap.at_alloc_ne _ _ (by omega)]; exact hat, hp, ?_⟩
    rcases hsl with h | ⟨r, cs, h1, h2, h3, h4, h5, h6, h7⟩
    · exact .inl h
    · simp at h1 h7
      refine .inr ⟨r, cs, h1, h2, ?_, by simp; omega, by rw [AHeap.at_alloc_ne _ _ (by omega)]; exact h5, h6, by simp⟩
      show ¬ (r < H.next + 1 ∨ r = H.next + 2)
      have h3 : ¬ r < H.next + 1 := h3
      omega
  have hk1 : Keep H.next H (H2.alloc (.cells [.pointer (some ⟨H.next, 0, none⟩), .pointer (some ⟨H.next, 1, none⟩), .pointer (some ⟨H.next, 2, none⟩)] (.row 1) 52)) := hk0.alloc (by omega) _
  have hn3 : (H2.alloc (.cells [.pointer (some ⟨H.next, 0, none⟩), .pointer (some ⟨H.next, 1, none⟩), .pointer (some ⟨H.next, 2, none⟩)] (.row 1) 52)).next = H.next + 3 := by simp [hnx]
  rw [hnx]
  generalize H2.alloc (.cells [.pointer (some ⟨H.next, 0, none⟩), .pointer (some ⟨H.next, 1, none⟩), .pointer (some ⟨H.next, 2, none⟩)] (.row 1) 52) = H3 at hb2 hb0' hbd' hk1 hn3
  have hF : ∀ {H' : AHeap}, KF F H3 H' → ∀ x, F x → x < H'.next := by
    intro H' hk x hx
    have h1 := hk.1
    have hx : x < H.next + 1 ∨ x = H.next + 2 := hx
    omega
  have hFlo : ∀ x, x < H.next → F x := fun x hx => .inl (by omega)
  have hTk : ∀ {H' : AHeap}, KF F H3 H' → Tb H' := fun {H'} hk => (hT.keep hk1.next fun x hx => hk1.at_ x (by omega)).kf hk fun x hx => hFlo x (by omega)
  have hKeep : ∀ {H' : AHeap}, KF F H3 H' → Keep H.next H H' := fun {H'} hk => ⟨Nat.le_trans hk1.next hk.1, fun x hx => (hk.2 x (hFlo x hx)).trans (hk1.at_ x hx)⟩
  simp only [aLenSl_slice, bnd_some']
  refine aLoop_vs 3 (fun i vs H4 => i ≤ 3 ∧ vs = [.int .i64 i] ∧ Bd F (H.next + 1) (hd f c d i) H4 ∧ KF F H3 H4) ⟨by omega, rfl, hbd', KF.refl _ _⟩ ?_
  rintro i vs H4 again hi ⟨_, rfl, hb4, hk4⟩ hag
  unfold S8_52
  simp only [nth_zero, aBin_lss, bnd_some']
  have hhl := hd_length hf hc hd' i
  refine aCond_of (fun hlt => ?_) (fun hge => ?_)
  · have hlt : i < 3 := by have := of_decide_eq_true hlt; omega
    have hat2 : H4.at_ (H.next + 2) = .cells [.pointer (some ⟨H.next, 0, none⟩), .pointer (some ⟨H.next, 1, none⟩), .pointer (some ⟨H.next, 2, none⟩)] (.row 1) 52 := (hk4.2 _ (.inr rfl)).trans hb2
    have hid : aIdxAddr 1 (.slice (some ⟨H.next + 2, 0, none⟩) 3 3) (.int .i64 i) = some (.pointer (some ⟨H.next + 2, i, none⟩)) := by
      simp [aIdxAddr]; omega
    have hld : aLdCell (.pointer (some ⟨H.next + 2, i, none⟩)) H4 = some (.pointer (some ⟨H.next, i, none⟩)) := by
      rw [aLdCell_ptr, hat2, blkCell_cells]
      match i, hlt with
      | 0, _ => rfl
      | 1, _ => rfl
      | 2, _ => rfl
    unfold S8_29
    simp only [nth_zero, hid, hld, bnd_some']
    rw [aJoin_eq]
    have fin : ∀ H5, Bd F (H.next + 1) (hd f c d i ++ (if 0 < i then [32] else [])) H5 → KF F H3 H5 →
        S8_28 (.pointer (some ⟨H.next + 1, 0, none⟩)) [.int .i64 i] again (.pointer (some ⟨H.next, i, none⟩)) H5 := by
      intro H5 hb5 hk5
      have hat0 : H5.at_ H.next = .cells [.int .i64 f, .int .i64 c, .int .i64 d] .var 27 := (hk5.2 _ (.inl (by omega))).trans hb0'
      have hld5 : aLdCell (.pointer (some ⟨H.next, i, none⟩)) H5 = some (.int .i64 (fs f c d i)) := by
        rw [aLdCell_ptr, hat0, blkCell_cells]
        match i, hlt with
        | 0, _ => rfl
        | 1, _ => rfl
        | 2, _ => rfl
      unfold S8_28
      simp only [aNilCheck_ptr, bnd_some', hld5]
      have hii := fs_i64 hf hc hd' i
      have hil := itoa_le hii
      refine (c21 (hTk hk5) _ hii.lo hii.hi).use ?_
      refine (c20 _ hb5 (hF hk5) ?_).mono ?_
      · have e1 : (⟨(Lib.itoa (fs f c d i)).toArray⟩ : ByteArray).size = (Lib.itoa (fs f c d i)).length := by show Array.size _ = _; simp
        rw [e1, List.length_append]
        have : (if 0 < i then [(32 : UInt8)] else []).length ≤ 1 := by split <;> simp
        omega
      rintro v H6 ⟨hb6, hk6⟩
      simp only [nth_zero, aBin_add, bnd_some']
      rw [wrap64 (by omega) (by omega)]
      refine hag _ _ hlt ⟨by omega, by simp, ?_, hk5.trans hk6⟩
      have e2 : hd f c d (i + 1) = hd f c d i ++ (if 0 < i then [32] else []) ++ (⟨(Lib.itoa (fs f c d i)).toArray⟩ : ByteArray).data.toList := by simp [hd]
      rw [e2]
      exact hb6
    simp only [aBin_gtr, bnd_some']
    refine aCond_of (fun hp => ?_) (fun hz => ?_)
    · have hp : 0 < i := by have := of_decide_eq_true hp; omega
      refine (c19 32 hb4 (hF hk4) (by omega)).mono ?_
      rintro v H5 ⟨rfl, hb5, hk5⟩
      exact fin H5 (by rw [if_pos hp]; exact hb5) (hk4.trans hk5)
    · have hz : ¬ 0 < i := by have := of_decide_eq_false hz; omega
      exact fin H4 (by rw [if_neg hz, List.append_nil]; exact hb4) hk4
  · have hge : i = 3 := by have := of_decide_eq_false hge; omega
    subst hge
    refine (c19 10 hb4 (hF hk4) (by omega)).mono ?_
    rintro v H5 ⟨rfl, hb5, hk5⟩
    have hk5 := hk4.trans hk5
    simp only [aLenSl_slice, bnd_some']
    refine aLoop_vs 1 (fun i vs H6 => i = 0 ∧ vs = [.int .i64 0] ∧ KF F H3 H6) ⟨rfl, rfl, hk5⟩ ?_
    rintro i vs H6 again2 hi ⟨rfl, rfl, hk6⟩ hag2
    unfold S8_51
    simp only [nth_zero, aBin_lss, bnd_some']
    rw [show decide ((0 : Int) < ((1 : Nat) : Int)) = true from rfl, aCond_true]
    have hR6 : Chs H.next H6 A [p0] := hR.keep (hKeep hk6).at_
    have hid := hR6.rd.idx (k := .i64) (c := 1) (j := 0) (by omega) (by simp)
    have hld := Rd.ld hR6.rd (j := 0) (by simp)
    unfold S8_48
    simp only [nth_zero]
    rw [show (.slice A 1 1 : Value) = .slice A ([p0] : List Chunk).length 1 from rfl, hid, bnd_some']
    rw [show (0 : Int).toNat = 0 from rfl, hld, bnd_some']
    simp only [List.getElem_cons_zero, aLenSl_slice, bnd_some', aBin_gtr]
    rw [show decide ((65536 : Int) < (p0.2.length : Int)) = true from decide_eq_true (by omega), aCond_true]
    exact ⟨trivial, hKeep hk6⟩
end Go.Proofs.YtnbnojkfhfkecaaDoor.A

/- ScriptMany. -/
set_option linter.unusedVariables false
set_option linter.unusedSimpArgs false
set_option maxRecDepth 100000
namespace Go.Proofs.YtnbnojkfhfkecaaDoor.A
open Go Go.Abs

theorem head123 : ([49, 32, 50, 32, 51, 10] : List UInt8) = hd 1 2 3 3 ++ [10] := by
  have one : ∀ n : Nat, n < 10 → Lib.decDigits n = [UInt8.ofNat (48 + n)] := fun n h => by rw [Lib.decDigits, dif_pos h]
  have h1 : Lib.itoa 1 = [49] := one 1 (by decide)
  have h2 : Lib.itoa 2 = [50] := one 2 (by decide)
  have h3 : Lib.itoa 3 = [51] := one 3 (by decide)
  rw [hd3, h1, h2, h3]
  rfl
theorem tl_rep (i : Nat) : tl (List.replicate (i + 1) []) = tl (List.replicate i []) ++ [120, 10] := by
  rw [List.replicate_succ', tl, tl, List.flatMap_append]
  rfl
theorem hd123_len : (hd 1 2 3 3 ++ [10]).length = 6 := by rw [← head123]; rfl
theorem rem12 (n : Nat) : aBin .rem .no (.int .u8 n) (.int .u8 12) = some (.int .u8 (n % 12 : Nat)) := by
  rw [aBin_rem _ _ _ _ (by decide)]
  rfl
theorem i64s (n : Nat) (h : n ≤ 100) : I64 (n : Int) := ⟨by omega, by omega⟩

theorem c3a {H : AHeap} (hT : TbM H) (k : Nat) (h1 : 250 ≤ k) (h2 : k ≤ 261) (H0 : AHeap) (hk0 : Keep H0.next H0 H) :
    aLoop [(.string ⟨#[49, 32, 50, 32, 51, 10]⟩), (.int .i64 0)] H fun vs_98 H_99 again_100 => (S3_185 (fun v H' => v = .bool true ∧ Keep H0.next H0 H') (.int .i64 k) vs_98 H_99 again_100) := by
  have hn0 := hk0.next
  have tlen : ∀ i, (tl (List.replicate i [])).length = 2 * i := by
    intro i
    induction i with
    | zero => rfl
    | succ i ih => rw [tl_rep, List.length_append, ih]; simp; omega
  refine aLoop_vs k (fun i vs H2 => i ≤ k ∧ vs = [bstr (hd 1 2 3 3 ++ [10] ++ tl (List.replicate i [])), .int .i64 i] ∧ H2 = H) ⟨Nat.zero_le _, by rw [← head123]; rfl, rfl⟩ ?_
  rintro i vs H2 again hi ⟨_, rfl, rfl⟩ hag
  unfold S3_185
  simp only [nth_zero, nth_1, aBin_lss, bnd_some']
  refine aCond_of (fun hlt => ?_) (fun hge => ?_)
  · have hlt : i < k := by have := of_decide_eq_true hlt; omega
    rw [show (.string ⟨#[120, 10]⟩ : Value) = bstr [120, 10] from rfl, aBin_sadd _ _ _ (by rw [List.length_append, hd123_len, tlen]; simp; omega), bnd_some']
    simp only [aBin_add, bnd_some']
    rw [wrap64 (by omega) (by omega)]
    refine hag _ _ hlt ⟨by omega, ?_, rfl⟩
    rw [tl_rep, List.append_assoc]
    rfl
  · have hge : i = k := by have := of_decide_eq_false hge; omega
    subst hge
    refine (c9g hT (f := 1) (c := 2) (d := 3) (i64s 1 (by decide)) (i64s 2 (by decide)) (i64s 3 (by decide)) (L := List.replicate i []) (by simp; omega) (by intro b hb; rw [List.eq_of_mem_replicate hb]; simp) (min i 256) (by omega) (by simp; omega)
      (by intro j hj _; simp) (by intro h; simp at h; exact .inr (by omega))).mono ?_
    rintro v H3 ⟨hv, hk3⟩
    have hk3' : Keep H0.next H0 H3 := hk0.trans (hk3.lower hn0)
    have hst : ∀ f c d : Int, aSt 3 (.pointer (some ⟨H3.next, 0, none⟩)) (eLim f c d) (H3.alloc (.cells [.int .i64 0, .int .i64 0, .int .i64 0] .var 27)) = some ((H3.alloc (.cells [.int .i64 0, .int .i64 0, .int .i64 0] .var 27)).upd H3.next (.cells [.int .i64 f, .int .i64 c, .int .i64 d] .var 27)) := by
      intro f c d; rw [aSt_ptr, AHeap.at_alloc_new]; rfl
    have hkk : ∀ x, Keep H2.next H2 ((H3.alloc (.cells [.int .i64 0, .int .i64 0, .int .i64 0] .var 27)).upd H3.next x) := fun x => (hk3.alloc hk3.next _).upd hk3.next _
    have hk0k : ∀ x, Keep H0.next H0 ((H3.alloc (.cells [.int .i64 0, .int .i64 0, .int .i64 0] .var 27)).upd H3.next x) := fun x => hk0.trans ((hkk x).lower hn0)
    unfold S3_184
    rcases hv with ⟨hN, B, qs, rfl, hq, hC⟩ | ⟨hN, rfl⟩
    · have hil : i ≤ 256 := by simp at hN; omega
      have hql : qs.length = i := by have := congrArg List.length hq; simpa using this
      refine bnd_iff.2 ⟨eLim 1 2 3, rfl, bnd_iff.2 ⟨.slice B qs.length qs.length, rfl, bnd_iff.2 ⟨.int .i64 0, rfl, bnd_iff.2 ⟨.int .i64 0, rfl, ?_⟩⟩⟩⟩
      rw [aAlloc_eq, hst, bnd_some']
      simp only [aBin_gtr, bnd_some']
      rw [show decide ((256 : Int) < (i : Int)) = false from decide_eq_false (by omega), aCond_false]
      refine (c11 (hT.kept (hkk _)).tb).use ?_
      unfold S3_183
      simp only [aGuardK_tt, aBin_eql, bnd_some', decide_true, aPick_tt, aLenSl_slice]
      exact ⟨by simp [hql], hk0k _⟩
    · have hil : i > 256 := by simp at hN; omega
      have hmin : min i 256 = 256 := by omega
      rw [hmin]
      refine bnd_iff.2 ⟨eLim 0 0 0, rfl, bnd_iff.2 ⟨.slice none 0 0, rfl, bnd_iff.2 ⟨.int .i64 258, rfl, bnd_iff.2 ⟨.int .i64 6, rfl, ?_⟩⟩⟩⟩
      rw [aAlloc_eq, hst, bnd_some']
      simp only [aBin_gtr, bnd_some']
      rw [show decide ((256 : Int) < (i : Int)) = true from decide_eq_true (by omega), aCond_true]
      refine (c11 (hT.kept (hkk _)).tb).use ?_
      unfold S3_151
      simp only [aGuardK_tt, aBin_eql, bnd_some', decide_true, aPick_tt, aLenSl_slice]
      exact ⟨by simp, hk0k _⟩
end Go.Proofs.YtnbnojkfhfkecaaDoor.A

/- ScriptMany, the long half. -/
set_option linter.unusedVariables false
set_option linter.unusedSimpArgs false
set_option maxRecDepth 100000
namespace Go.Proofs.YtnbnojkfhfkecaaDoor.A
open Go Go.Abs

theorem u8c_set (bs : List UInt8) (i : Nat) (x : UInt8) : (u8c bs).set i (.int .u8 x.toNat) = u8c (bs.set i x) := by
  simp [u8c, List.map_set]
theorem aSt_row {H : AHeap} {b o n : Nat} {cs : List Value} {t : TypeId} {v : Value} (hat : H.at_ b = .cells cs (.row n) t) (ho : o < cs.length) (hv : vcells v = [v]) (hok : okCell v = true) :
    aSt 1 (.pointer (some ⟨b, o, none⟩)) v H = some (H.upd b (.cells (cs.set o v) (.row n) t)) := by
  rw [aSt_ptr, hat, blkSt_cells, hv, if_pos ⟨rfl, rfl, by omega, by simp [hok]⟩]
  rfl

set_option maxHeartbeats 1000000 in
theorem c3b {H : AHeap} (hT : TbM H) (n : Nat) (x : UInt8) (hn : n < 256) : S3_97 (.int .u8 n) (.int .u8 x.toNat) H (fun v H' => v = .bool true ∧ Keep H.next H H') := by
  have h8 := hT.tb.next
  unfold S3_97
  rw [rem12, bnd_some']
  simp only [aConvInt_int, bnd_some', aBin_add]
  rw [wrap64 (x := ((n % 12 : Nat) : Int)) (by omega) (by omega), wrap64 (by omega) (by omega)]
  obtain ⟨m, hm⟩ : ∃ m : Nat, m = 65530 + n % 12 := ⟨_, rfl⟩
  rw [show (65530 : Int) + ((n % 12 : Nat) : Int) = (m : Int) by omega]
  unfold aMakeSlice
  dsimp only
  refine ⟨⟨rfl, by omega, by omega, by omega, rfl⟩, ?_⟩
  rw [Int.toNat_natCast]
  have hk1 : Keep H.next H (H.alloc (.cells (List.replicate m (.int .u8 0)) (.row 1) 5)) := (Keep.refl _ _).alloc (Nat.le_refl _) _
  have hat1 : (H.alloc (.cells (List.replicate m (.int .u8 0)) (.row 1) 5)).at_ H.next = .cells (u8c (List.replicate m 0)) (.row 1) 5 := by
    rw [AHeap.at_alloc_new]; simp [u8c]
  have hn1 : (H.alloc (.cells (List.replicate m (.int .u8 0)) (.row 1) 5)).next = H.next + 1 := rfl
  show aLoop _ (H.alloc (.cells (List.replicate m (.int .u8 0)) (.row 1) 5)) _
  generalize H.alloc (.cells (List.replicate m (.int .u8 0)) (.row 1) 5) = H1 at hk1 hat1 hn1
  refine aLoop_vs m (fun i vs H2 => i ≤ m ∧ vs = [.int .i64 i] ∧ (∃ bs : List UInt8, bs.length = m ∧ H2.at_ H.next = .cells (u8c bs) (.row 1) 5) ∧ Keep H.next H H2 ∧ H2.next = H.next + 1) ⟨Nat.zero_le _, rfl, ⟨_, by simp, hat1⟩, hk1, hn1⟩ ?_
  rintro i vs H2 again hi ⟨_, rfl, ⟨bs, hbl, ha⟩, hk2, hn2⟩ hag
  unfold S3_96
  simp only [aLenSl_slice, nth_zero, aBin_lss, bnd_some']
  refine aCond_of (fun hlt => ?_) (fun hge => ?_)
  · have hlt : i < m := by have := of_decide_eq_true hlt; omega
    have hid : aIdxAddr 1 (.slice (some ⟨H.next, 0, none⟩) m m) (.int .i64 i) = some (.pointer (some ⟨H.next, i, none⟩)) := by simp [aIdxAddr]; omega
    rw [hid, bnd_some', aSt_row ha (by simp; omega) rfl rfl, bnd_some']
    simp only [aBin_add, bnd_some']
    rw [wrap64 (by omega) (by omega)]
    exact hag _ _ hlt ⟨by omega, by simp, ⟨bs.set i x, by simp [hbl], by rw [AHeap.at_upd_same, u8c_set]⟩, hk2.upd (Nat.le_refl _) _, hn2⟩
  · unfold S3_95
    refine bnd_iff.2 ⟨[.int .i64 0, .int .i64 0, .int .i64 0], rfl, ?_⟩
    rw [aBuildSlice_eq]
    refine bnd_iff.2 ⟨[.slice (some ⟨H.next, 0, none⟩) m m], rfl, ⟨rfl, rfl⟩, ?_⟩
    have hB : By H2.next H2 (some ⟨H.next, 0, none⟩) bs := Rd.mk' (fun _ _ => rfl) (by omega) ha (by simp) (flat_eU bs).symm (by simp)
    have hk3 : Keep H.next H (H2.alloc (.cells [.slice (some ⟨H.next, 0, none⟩) m m] (.row 1) 22)) := hk2.alloc (by omega) _
    have hat3 : (H2.alloc (.cells [.slice (some ⟨H.next, 0, none⟩) m m] (.row 1) 22)).at_ H2.next = .cells [.slice (some ⟨H.next, 0, none⟩) m m] (.row 1) 22 := AHeap.at_alloc_new _ _
    have hB3 := (hB.alloc (Nat.le_refl _) (.cells [.slice (some ⟨H.next, 0, none⟩) m m] (.row 1) 22))
    have hn3 : (H2.alloc (.cells [.slice (some ⟨H.next, 0, none⟩) m m] (.row 1) 22)).next = H2.next + 1 := rfl
    generalize H2.alloc (.cells [.slice (some ⟨H.next, 0, none⟩) m m] (.row 1) 22) = H3 at hk3 hat3 hB3 hn3
    have hR : Chs H3.next H3 (some ⟨H2.next, 0, none⟩) [((some ⟨H.next, 0, none⟩ : Option Addr), bs)] :=
      ⟨Rd.mk' (fun _ _ => rfl) (by omega) hat3 (by simp) (by simp [hbl]) rfl, fun p hp => by simp at hp; subst hp; exact hB3.up (by omega)⟩
    have hput : ACalls Tryd.prog 8 [eLim 0 0 0, .slice (some ⟨H2.next, 0, none⟩) 1 1] H3 fun v H' => (∃ s, v = .tuple #[s, .int .i64 (if 65536 < m then 6 else 0)]) ∧ H' = H3 := by
      by_cases hbig : 65536 < m
      · refine (c8_big (hT.kept hk3).tb (i64s 0 (by decide)) (i64s 0 (by decide)) (i64s 0 (by decide)) hR (by show 65536 < bs.length; omega)).mono ?_
        rintro v H' ⟨rfl, rfl⟩
        exact ⟨⟨_, by rw [if_pos hbig]⟩, rfl⟩
      · refine (c8 (hT.kept hk3).tb (i64s 0 (by decide)) (i64s 0 (by decide)) (i64s 0 (by decide)) hR (by simp) (by intro p hp; simp at hp; subst hp; show bs.length ≤ 65536; omega)).mono ?_
        rintro v H' ⟨rfl, rfl⟩
        exact ⟨⟨_, by rw [if_neg hbig]⟩, rfl⟩
    refine hput.mono ?_
    rintro v H4 ⟨⟨s, rfl⟩, rfl⟩
    refine bnd_iff.2 ⟨s, rfl, bnd_iff.2 ⟨.int .i64 (if 65536 < m then 6 else 0), rfl, ?_⟩⟩
    have hB4 := hB3.up (show H2.next ≤ H4.next by omega)
    have hxl := hexL_length bs
    have hc10 := c10 hB4 (by omega)
    rw [hbl] at hc10
    refine hc10.use ?_
    rw [show (.string ⟨#[49, 32, 50, 32, 51, 10]⟩ : Value) = bstr [49, 32, 50, 32, 51, 10] from rfl, head123, show (.string ⟨#[10]⟩ : Value) = bstr [10] from rfl,
      aBin_sadd _ _ _ (by rw [hd123_len]; omega), bnd_some', aBin_sadd _ _ _ (by rw [List.length_append, hd123_len]; simp; omega), bnd_some']
    have e : hd 1 2 3 3 ++ [10] ++ hexL bs ++ [10] = hd 1 2 3 3 ++ [10] ++ tl [bs] := by simp [tl]
    rw [e]
    refine (c9g (hT.kept hk3) (f := 1) (c := 2) (d := 3) (i64s 1 (by decide)) (i64s 2 (by decide)) (i64s 3 (by decide)) (L := [bs]) (by simp) (by intro b hb; simp at hb; subst hb; omega) (if 65536 < m then 0 else 1) (by split <;> omega) (by split <;> simp)
      (by
        intro j hj hjN
        split at hjN
        · omega
        · obtain rfl : j = 0 := by omega
          show bs.length ≤ 65536
          omega)
      (by
        intro h
        split at h
        · rename_i hbig
          simp only [if_pos hbig]
          exact .inl (by show 65536 < bs.length; omega)
        · simp at h)).mono ?_
    rintro v H5 ⟨hv, hk5⟩
    have hn4 := hk3.next
    have hst : ∀ f c d : Int, aSt 3 (.pointer (some ⟨H5.next, 0, none⟩)) (eLim f c d) (H5.alloc (.cells [.int .i64 0, .int .i64 0, .int .i64 0] .var 27)) = some ((H5.alloc (.cells [.int .i64 0, .int .i64 0, .int .i64 0] .var 27)).upd H5.next (.cells [.int .i64 f, .int .i64 c, .int .i64 d] .var 27)) := by
      intro f c d; rw [aSt_ptr, AHeap.at_alloc_new]; rfl
    have hkk : ∀ x, Keep H.next H ((H5.alloc (.cells [.int .i64 0, .int .i64 0, .int .i64 0] .var 27)).upd H5.next x) := fun x => by
      have hn5 := hk5.next
      exact ((hk3.trans (hk5.lower (by omega))).alloc (by omega) _).upd (by omega) _
    unfold S3_94
    rcases hv with ⟨hN, B, qs, rfl, hq, hC⟩ | ⟨hN, rfl⟩
    · have hbig : ¬ 65536 < m := by intro h; rw [if_pos h] at hN; simp at hN
      refine bnd_iff.2 ⟨eLim 1 2 3, rfl, bnd_iff.2 ⟨.slice B qs.length qs.length, rfl, bnd_iff.2 ⟨.int .i64 0, rfl, bnd_iff.2 ⟨.int .i64 0, rfl, ?_⟩⟩⟩⟩
      rw [aAlloc_eq, hst, bnd_some']
      simp only [aLenSl_slice, aBin_gtr, bnd_some']
      rw [show decide ((65536 : Int) < (m : Int)) = false from decide_eq_false (by omega), aCond_false]
      refine (c11 (hT.kept (hkk _)).tb).use ?_
      unfold S3_93
      rw [if_neg hbig]
      simp only [aGuardK_tt, aBin_eql, bnd_some', decide_true, aPick_tt]
      exact ⟨by simp, hkk _⟩
    · have hbig : 65536 < m := by
        refine Classical.byContradiction fun h => ?_
        rw [if_neg h] at hN
        simp at hN
      rw [if_pos hbig]
      refine bnd_iff.2 ⟨eLim 0 0 0, rfl, bnd_iff.2 ⟨.slice none 0 0, rfl, bnd_iff.2 ⟨.int .i64 2, rfl, bnd_iff.2 ⟨.int .i64 6, rfl, ?_⟩⟩⟩⟩
      rw [aAlloc_eq, hst, bnd_some']
      simp only [aLenSl_slice, aBin_gtr, bnd_some']
      rw [show decide ((65536 : Int) < (m : Int)) = true from decide_eq_true (by omega), aCond_true]
      refine (c11 (hT.kept (hkk _)).tb).use ?_
      unfold S3_70
      simp only [if_pos hbig, aGuardK_tt, aBin_eql, bnd_some', decide_true, aPick_tt]
      exact ⟨by simp, hkk _⟩

theorem c3 {H : AHeap} (hT : TbM H) (n : Nat) (hn : n < 256) (long : Bool) (x : UInt8) : ACalls Tryd.prog 3 [.int .u8 n, .bool long, .int .u8 x.toNat] H fun v H' => v = .bool true ∧ H' = H := by
  refine ACalls.eq (S3_calls ?_) rfl
  unfold S3
  rw [rem12, bnd_some']
  simp only [aConvInt_int, bnd_some', aBin_add]
  rw [wrap64 (x := ((n % 12 : Nat) : Int)) (by omega) (by omega), wrap64 (by omega) (by omega)]
  rw [show (250 : Int) + ((n % 12 : Nat) : Int) = ((250 + n % 12 : Nat) : Int) by omega]
  cases long with
  | true => rw [aCond_true]; exact c3b hT n x hn
  | false => rw [aCond_false]; exact c3a hT (250 + n % 12) (by omega) (by omega) H (Keep.refl _ _)
end Go.Proofs.YtnbnojkfhfkecaaDoor.A
