/- Contracts of functions that the statement reaches; each theorem carries its own conditions, the last theorem of the claim has none. -/
import Derived.Test.YtnbnojkfhfkecaaDoorE6
/- Get, at what Put wrote; ScriptBack. -/
set_option linter.unusedVariables false
set_option linter.unusedSimpArgs false
set_option maxRecDepth 100000
namespace Go.Proofs.YtnbnojkfhfkecaaDoor.A
open Go Go.Abs

def tl (L : List (List UInt8)) : List UInt8 := L.flatMap fun b => hexL b ++ [10]
theorem tail_tl (ps : List Chunk) : tail ps = tl (ps.map (·.2)) := by simp [tail, tl, List.flatMap_map]
theorem hd3 (f c d : Int) : hd f c d 3 = Lib.itoa f ++ 32 :: (Lib.itoa c ++ 32 :: Lib.itoa d) := by simp [hd, fs]
theorem hexd_no : ∀ n : Nat, n < 16 → hexd n ≠ 10
  | 0, _ => by decide | 1, _ => by decide | 2, _ => by decide | 3, _ => by decide | 4, _ => by decide | 5, _ => by decide | 6, _ => by decide | 7, _ => by decide
  | 8, _ => by decide | 9, _ => by decide | 10, _ => by decide | 11, _ => by decide | 12, _ => by decide | 13, _ => by decide | 14, _ => by decide | 15, _ => by decide
  | n + 16, h => absurd h (by omega)
theorem hexL_no (bs : List UInt8) : 10 ∉ hexL bs := by
  intro h
  rcases List.mem_cons.1 h with h | h
  · exact absurd h (by decide)
  · obtain ⟨x, _, hx⟩ := List.mem_flatMap.1 h
    have := x.toNat_lt
    simp only [hex2, List.mem_cons, List.not_mem_nil, or_false] at hx
    rcases hx with hx | hx
    · exact hexd_no _ (by omega) hx.symm
    · exact hexd_no _ (by omega) hx.symm
theorem line_no (f c d : Int) : 10 ∉ Lib.itoa f ++ 32 :: (Lib.itoa c ++ 32 :: Lib.itoa d) := by
  intro h
  have hn : ∀ n : Int, 10 ∉ Lib.itoa n := fun n => itoa_no (by decide)
  simp only [List.mem_append, List.mem_cons] at h
  rcases h with h | h | h | h | h
  · exact hn f h
  · exact absurd h (by decide)
  · exact hn c h
  · exact absurd h (by decide)
  · exact hn d h
theorem tl_drop {L : List (List UInt8)} {i : Nat} (h : i < L.length) : tl (L.drop i) = hexL L[i] ++ 10 :: tl (L.drop (i + 1)) := by
  rw [List.drop_eq_getElem_cons h]
  unfold tl
  rw [List.flatMap_cons, List.append_assoc]
  rfl
theorem tl_length {L : List (List UInt8)} (h : ∀ b ∈ L, b.length ≤ 65536) : (tl L).length ≤ 131074 * L.length := by
  induction L with
  | nil => simp [tl]
  | cons p ps ih =>
    have h1 := h p (by simp)
    have h2 := ih fun q hq => h q (by simp [hq])
    have h3 := hexL_length p
    simp only [tl, List.flatMap_cons, List.length_append, List.length_cons, List.length_nil] at h2 ⊢
    omega

set_option maxHeartbeats 1000000 in
theorem c9 {H : AHeap} (hT : TbM H) {f c d : Int} (hf : I64 f) (hc : I64 c) (hd' : I64 d) {L : List (List UInt8)} (hL : L.length ≤ 256) (hl : ∀ b ∈ L, b.length ≤ 65536) :
    ACalls Tryd.prog 9 [bstr (hd f c d 3 ++ [10] ++ tl L)] H fun v H' => ∃ B qs, v = .tuple #[eLim f c d, .slice B qs.length qs.length, .int .i64 0, .int .i64 0] ∧ qs.map (·.2) = L ∧ Chs H'.next H' B qs ∧ Keep H.next H H' := by
  refine S9_calls ?_
  unfold S9
  rw [aAlloc_eq]
  have h1 := itoa_le hf
  have h2 := itoa_le hc
  have h3 := itoa_le hd'
  have h8 := hT.tb.next
  have htl := tl_length hl
  have hk1 : Keep H.next H (H.alloc (.cells [.int .i64 0, .int .i64 0, .int .i64 0] .var 27)) := (Keep.refl _ _).alloc (Nat.le_refl _) _
  have hat1 : (H.alloc (.cells [.int .i64 0, .int .i64 0, .int .i64 0] .var 27)).at_ H.next = .cells [.int .i64 0, .int .i64 0, .int .i64 0] .var 27 := AHeap.at_alloc_new _ _
  have hn1 : (H.alloc (.cells [.int .i64 0, .int .i64 0, .int .i64 0] .var 27)).next = H.next + 1 := rfl
  generalize H.alloc (.cells [.int .i64 0, .int .i64 0, .int .i64 0] .var 27) = H1 at hk1 hat1 hn1
  have e0 : hd f c d 3 ++ [10] ++ tl L = (Lib.itoa f ++ 32 :: (Lib.itoa c ++ 32 :: Lib.itoa d)) ++ 10 :: tl L := by rw [hd3]; simp
  rw [e0, show (.string ⟨#[10]⟩ : Value) = bstr [10] from rfl]
  refine (c24 (hT.kept hk1) (line_no f c d) (by simp only [List.length_append, List.length_cons]; omega)).use ?_
  refine bnd_iff.2 ⟨bstr (Lib.itoa f ++ 32 :: (Lib.itoa c ++ 32 :: Lib.itoa d)), rfl, bnd_iff.2 ⟨bstr (tl L), rfl, bnd_iff.2 ⟨.bool true, rfl, ?_⟩⟩⟩
  refine (c25 (hT.kept hk1) hf hc hd').use ?_
  unfold S9_85
  refine bnd_iff.2 ⟨eLim f c d, rfl, bnd_iff.2 ⟨.bool true, rfl, ?_⟩⟩
  have hst : aSt 3 (.pointer (some ⟨H.next, 0, none⟩)) (eLim f c d) H1 = some (H1.upd H.next (.cells [.int .i64 f, .int .i64 c, .int .i64 d] .var 27)) := by rw [aSt_ptr, hat1]; rfl
  rw [hst, bnd_some']
  have hk2 : Keep H.next H (H1.upd H.next (.cells [.int .i64 f, .int .i64 c, .int .i64 d] .var 27)) := hk1.upd (Nat.le_refl _) _
  have hat2 : (H1.upd H.next (.cells [.int .i64 f, .int .i64 c, .int .i64 d] .var 27)).at_ H.next = .cells [.int .i64 f, .int .i64 c, .int .i64 d] .var 27 := AHeap.at_upd_same _ _ _
  have hn2 : (H1.upd H.next (.cells [.int .i64 f, .int .i64 c, .int .i64 d] .var 27)).next = H.next + 1 := hn1
  generalize H1.upd H.next (.cells [.int .i64 f, .int .i64 c, .int .i64 d] .var 27) = H2 at hk2 hat2 hn2
  simp only [aUn_not, bnd_some', Bool.not_true, aGuardK_ff, aPick_ff, aCond_false]
  refine aLoop_vs L.length (fun i vs H3 => i ≤ L.length ∧ ∃ B qs, vs = [.slice B qs.length qs.length, .int .i64 (2 + i : Nat), bstr (tl (L.drop i))] ∧ qs.map (·.2) = L.take i ∧
    Ow 1 eC 22 (H.next + 1) H3 B qs ∧ (∀ q ∈ qs, Ow 1 eU 5 (H.next + 1) H3 q.1 q.2) ∧ H3.at_ H.next = .cells [.int .i64 f, .int .i64 c, .int .i64 d] .var 27 ∧ Keep H.next H H3 ∧ H.next + 1 ≤ H3.next)
    ⟨Nat.zero_le _, none, [], rfl, by simp, Ow.nil _ _ _ _ _, by simp, hat2, hk2, by omega⟩ ?_
  rintro i vs H3 again hi ⟨_, B, qs, rfl, hq, hO, hI, ha, hk3, hn3⟩ hag
  have hql : qs.length = i := by have := congrArg List.length hq; simpa [Nat.min_eq_left hi] using this
  unfold S9_84
  simp only [nth_2]
  rw [show (.string ⟨#[]⟩ : Value) = bstr [] from rfl, str_ne, bnd_some']
  by_cases hlt : i < L.length
  · have hne : ¬ tl (L.drop i) = [] := by rw [tl_drop hlt]; simp
    rw [decide_eq_false hne, Bool.not_false, aCond_true]
    unfold S9_80
    simp only [nth_2]
    have hbl := hl _ (List.getElem_mem hlt)
    have htl2 := tl_length (L := L.drop (i + 1)) fun b hb => hl b (List.mem_of_mem_drop hb)
    have hdl : (L.drop (i + 1)).length ≤ 256 := by rw [List.length_drop]; omega
    have hxl := hexL_length L[i]
    rw [tl_drop hlt, show (.string ⟨#[10]⟩ : Value) = bstr [10] from rfl]
    refine (c24 (hT.kept hk3) (hexL_no _) (by omega)).use ?_
    refine bnd_iff.2 ⟨bstr (hexL L[i]), rfl, bnd_iff.2 ⟨bstr (tl (L.drop (i + 1))), rfl, bnd_iff.2 ⟨.bool true, rfl, ?_⟩⟩⟩
    refine (c26 L[i] (by omega)).mono ?_
    rintro v H4 ⟨C, rfl, hC, hk4⟩
    unfold S9_79
    refine bnd_iff.2 ⟨.slice C (L[i]).length (L[i]).length, rfl, bnd_iff.2 ⟨.bool true, rfl, ?_⟩⟩
    simp only [aUn_not, bnd_some', Bool.not_true, aGuardK_ff, aPick_ff, aCond_false]
    unfold S9_78
    simp only [aLenSl_slice, bnd_some', aBin_gtr]
    rw [show decide ((65536 : Int) < ((L[i]).length : Int)) = false from decide_eq_false (by omega)]
    simp only [aGuardK_ff, nth_zero, aLenSl_slice, bnd_some', aBin_geq]
    rw [show decide ((256 : Int) ≤ (qs.length : Int)) = false from decide_eq_false (by omega)]
    simp only [aPick_ff, bnd_some', aCond_false]
    have hn4 := hk4.next
    have hO4 := hO.kept hk4
    have hI4 : ∀ q ∈ qs ++ [((C : Option Addr), L[i])], Ow 1 eU 5 (H.next + 1) H4 q.1 q.2 := by
      intro q hq'
      rcases List.mem_append.1 hq' with h | h
      · exact (hI q h).kept hk4
      · simp at h; subst h; exact hC.lower (by omega)
    have hk5 : Keep H.next H H4 := hk3.trans (hk4.lower (by omega))
    have ha4 : H4.at_ H.next = .cells [.int .i64 f, .int .i64 c, .int .i64 d] .var 27 := (hk4.at_ _ (by omega)).trans ha
    rw [aBuildSlice_eq]
    refine bnd_iff.2 ⟨[.slice C (L[i]).length (L[i]).length], rfl, ⟨rfl, rfl⟩, ?_⟩
    have hN : Ow 1 eC 22 H4.next (H4.alloc (.cells [.slice C (L[i]).length (L[i]).length] (.row 1) 22)) (some ⟨H4.next, 0, none⟩) [((C : Option Addr), L[i])] := Ow.new H4 _ (fun _ _ => rfl) rfl
    have hO6 := hO4.alloc (.cells [.slice C (L[i]).length (L[i]).length] (.row 1) 22)
    have hI6 : ∀ q ∈ qs ++ [((C : Option Addr), L[i])], Ow 1 eU 5 (H.next + 1) (H4.alloc (.cells [.slice C (L[i]).length (L[i]).length] (.row 1) 22)) q.1 q.2 := fun q hq' => (hI4 q hq').alloc _
    have hk6 := hk5.alloc (by omega) (.cells [.slice C (L[i]).length (L[i]).length] (.row 1) 22)
    have ha6 : (H4.alloc (.cells [.slice C (L[i]).length (L[i]).length] (.row 1) 22)).at_ H.next = .cells [.int .i64 f, .int .i64 c, .int .i64 d] .var 27 := by rw [AHeap.at_alloc_ne _ _ (by omega)]; exact ha4
    have hn6 : (H4.alloc (.cells [.slice C (L[i]).length (L[i]).length] (.row 1) 22)).next = H4.next + 1 := rfl
    generalize H4.alloc (.cells [.slice C (L[i]).length (L[i]).length] (.row 1) 22) = H6 at hN hO6 hI6 hk6 hn6 ha6
    refine Ow.append (bytes := 24) (c' := 1) (lo := H.next + 1) hO6 hN.rd (by omega) (by simp [maxLen]; omega) (by simp; omega) ?_
    intro H7 hO7 hn7 hat7 hk7
    simp only [nth_1, aBin_add, bnd_some']
    rw [wrap64 (by omega) (by omega)]
    refine hag _ _ hlt ⟨by omega, _, _, ?_, ?_, hO7, ?_, ?_, hk6.trans (hk7.lower (by omega)), by omega⟩
    · congr 3
    · rw [← List.take_append_getElem hlt, List.map_append, hq]
      rfl
    · intro q hq'
      refine Ow.keepT (hI6 q hq') (by omega) fun b cs g1 g2 g3 => hat7 b g2 fun o s hB => ?_
      rcases hO6.2 with ⟨h4, _⟩ | ⟨b', cs', h4, _, _, h7, _⟩
      · rw [h4] at hB; cases hB
      · rw [h4] at hB
        cases hB
        rw [g3] at h7
        injection h7 with _ _ h8
        exact absurd h8 (by decide)
    · exact (hk7.at_ _ (by omega)).trans ha6
  · have hge : i = L.length := by omega
    subst hge
    have hnil : tl (L.drop L.length) = [] := by rw [List.drop_length]; rfl
    rw [decide_eq_true hnil, Bool.not_true, aCond_false]
    have hld : ∀ {H' : AHeap}, H'.at_ H.next = .cells [.int .i64 f, .int .i64 c, .int .i64 d] .var 27 → aLdAgg 3 (.pointer (some ⟨H.next, 0, none⟩)) H' = some (eLim f c d) := fun h => by rw [aLdAgg_ptr, h]; rfl
    rw [hld ha, bnd_some']
    have hst : aSt 3 (.pointer (some ⟨H.next, 0, none⟩)) (eLim f c d) H3 = some (H3.upd H.next (.cells [.int .i64 f, .int .i64 c, .int .i64 d] .var 27)) := by rw [aSt_ptr, ha]; rfl
    rw [hst, bnd_some', hld (AHeap.at_upd_same _ _ _), bnd_some', nth_zero]
    rw [List.take_length] at hq
    have keepU : ∀ {A : Option Addr} {xs : List UInt8}, Ow 1 eU 5 (H.next + 1) H3 A xs → Ow 1 eU 5 (H.next + 1) (H3.upd H.next (.cells [.int .i64 f, .int .i64 c, .int .i64 d] .var 27)) A xs := fun h =>
      h.keep (by simp) fun b g1 g2 => AHeap.at_upd_ne _ _ (by omega)
    refine ⟨B, qs, rfl, hq, ⟨?_, fun q hq' => (keepU (hI q hq')).rd⟩, hk3.upd (Nat.le_refl _) _⟩
    exact (hO.keep (H' := H3.upd H.next (.cells [.int .i64 f, .int .i64 c, .int .i64 d] .var 27)) (by simp) fun b g1 g2 => AHeap.at_upd_ne _ _ (by omega)).rd
end Go.Proofs.YtnbnojkfhfkecaaDoor.A
