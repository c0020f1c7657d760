/- Contracts of functions that the statement reaches; each theorem carries its own conditions, the last theorem of the claim has none. -/
import Derived.Test.YtnbnojkfhfkecaaDoorC12
/- own, and ScriptPuts. -/
set_option linter.unusedVariables false
set_option linter.unusedSimpArgs false
set_option maxRecDepth 100000
namespace Go.Proofs.YtnbnojkfhfkecaaDoor.A
open Go Go.Abs

theorem Ow.keepT {α : Type} {n : Nat} {enc : α → List Value} {e lo : Nat} {H H' : AHeap} {A : Option Addr} {xs : List α} (h : Ow n enc e lo H A xs) (hn : H.next ≤ H'.next)
    (hk : ∀ b cs, lo ≤ b → b < H.next → H.at_ b = .cells cs (.row n) e → H'.at_ b = H.at_ b) : Ow n enc e lo H' A xs := by
  refine ⟨h.1, h.2.imp id ?_⟩
  rintro ⟨b, cs, h1, h2, h3, h4, h5⟩
  exact ⟨b, cs, h1, h2, by omega, (hk b cs h2 h3 h4).trans h4, h5⟩

theorem c14 {H : AHeap} {A : Option Addr} {ps : List Chunk} (hR : Chs H.next H A ps) (hn : ps.length ≤ 1000000) (hl : ∀ p ∈ ps, p.2.length ≤ 1000000) :
    ACalls Tryd.prog 14 [.slice A ps.length ps.length] H fun v H' => ∃ B qs, v = .slice B qs.length qs.length ∧ qs.map (·.2) = ps.map (·.2) ∧ Chs H'.next H' B qs ∧ Keep H.next H H' := by
  refine S14_calls ?_
  unfold S14
  refine aLoop_vs ps.length (fun i vs H2 => i ≤ ps.length ∧ ∃ B qs, vs = [.slice B qs.length qs.length, .int .i64 i] ∧ qs.map (·.2) = (ps.take i).map (·.2) ∧ Ow 1 eC 22 H.next H2 B qs ∧ (∀ q ∈ qs, Ow 1 eU 5 H.next H2 q.1 q.2) ∧ Keep H.next H H2)
    ⟨Nat.zero_le _, none, [], rfl, by simp, Ow.nil _ _ _ _ _, by simp, Keep.refl _ _⟩ ?_
  rintro i vs H2 again hi ⟨_, B, qs, rfl, hq, hO, hI, hk2⟩ hag
  have hql : qs.length = i := by have := congrArg List.length hq; simpa [Nat.min_eq_left hi] using this
  unfold S14_17
  simp only [aLenSl_slice, nth_zero, nth_1, aBin_lss, bnd_some']
  refine aCond_of (fun hlt => ?_) (fun hge => ?_)
  · have hlt : i < ps.length := by have := of_decide_eq_true hlt; omega
    unfold S14_16
    rw [aBuildSlice_eq]
    refine bnd_iff.2 ⟨[], rfl, ⟨rfl, rfl⟩, ?_⟩
    have hn2 := hk2.next
    have hk3 : Keep H.next H (H2.alloc (.cells [] (.row 1) 5)) := hk2.alloc hn2 _
    have hR3 : Chs H.next (H2.alloc (.cells [] (.row 1) 5)) A ps := hR.keep hk3.at_
    have hE : Ow 1 eU 5 H2.next (H2.alloc (.cells [] (.row 1) 5)) (some ⟨H2.next, 0, none⟩) [] := Ow.new H2 _ (by simp) rfl
    have hO3 := hO.alloc (.cells [] (.row 1) 5)
    have hI3 : ∀ q ∈ qs, Ow 1 eU 5 H.next (H2.alloc (.cells [] (.row 1) 5)) q.1 q.2 := fun q hq => (hI q hq).alloc _
    have hn3 : (H2.alloc (.cells [] (.row 1) 5)).next = H2.next + 1 := rfl
    have hid := hR3.rd.idx (k := .i64) (c := ps.length) (j := (i : Int)) (by omega) (by omega)
    have hld := Rd.ld hR3.rd hlt
    simp only [nth_zero, nth_1, hid, bnd_some', Int.toNat_natCast, hld]
    have hpl := hl _ (List.getElem_mem hlt)
    have hbelow : ∀ b, b < H2.next → (H2.alloc (.cells [] (.row 1) 5)).at_ b = H2.at_ b := fun b hb => AHeap.at_alloc_ne _ _ (by omega)
    generalize H2.alloc (.cells [] (.row 1) 5) = H3 at hk3 hR3 hE hO3 hI3 hn3 hid hld hbelow
    refine Ow.append (xs := []) (lo := H2.next) (bytes := 1) (c := 0) hE (hR3.el _ (List.getElem_mem hlt)) (by omega) (by simp [maxLen]; omega) (by simp; omega) ?_
    intro H4 hO4 hn4 hat4 hk4
    simp only [List.nil_append] at hO4 ⊢
    -- what was there, is there
    have hkeep4 : ∀ b, b < H2.next → H4.at_ b = H3.at_ b := fun b hb => hk4.at_ b hb
    have hO5 : Ow 1 eC 22 H.next H4 B qs := by
      refine ⟨hO3.1, hO3.2.imp id ?_⟩
      rintro ⟨b, cs, h1, h2, h3, h4, h5⟩
      by_cases hb : b < H2.next
      · exact ⟨b, cs, h1, h2, by omega, (hkeep4 b hb).trans h4, h5⟩
      · exfalso
        rcases hO.2 with ⟨h6, _⟩ | ⟨b', cs', h6, _, h7, _⟩
        · rw [h6] at h1; cases h1
        · rw [h6] at h1; cases h1; exact hb h7
    have hI5 : ∀ q ∈ qs, Ow 1 eU 5 H.next H4 q.1 q.2 := by
      intro q hq
      refine ⟨(hI q hq).1, (hI q hq).2.imp id ?_⟩
      rintro ⟨b, cs, h1, h2, h3, h4, h5⟩
      exact ⟨b, cs, h1, h2, by omega, (hkeep4 b h3).trans ((hbelow b h3).trans h4), h5⟩
    have hk5 : Keep H.next H H4 := ⟨by omega, fun b hb => (hkeep4 b (by omega)).trans (hk3.at_ b hb)⟩
    rw [aBuildSlice_eq]
    refine bnd_iff.2 ⟨[.slice (some ⟨H3.next, 0, none⟩) (ps[i]).2.length (ps[i]).2.length], rfl, ⟨rfl, rfl⟩, ?_⟩
    have hN : Ow 1 eC 22 H4.next (H4.alloc (.cells [.slice (some ⟨H3.next, 0, none⟩) (ps[i]).2.length (ps[i]).2.length] (.row 1) 22)) (some ⟨H4.next, 0, none⟩) [((some ⟨H3.next, 0, none⟩ : Option Addr), (ps[i]).2)] :=
      Ow.new H4 _ (fun _ _ => rfl) rfl
    have hO6 := hO5.alloc (.cells [.slice (some ⟨H3.next, 0, none⟩) (ps[i]).2.length (ps[i]).2.length] (.row 1) 22)
    have hI6 : ∀ q ∈ qs ++ [((some ⟨H3.next, 0, none⟩ : Option Addr), (ps[i]).2)], Ow 1 eU 5 H.next (H4.alloc (.cells [.slice (some ⟨H3.next, 0, none⟩) (ps[i]).2.length (ps[i]).2.length] (.row 1) 22)) q.1 q.2 := by
      intro q hq
      rcases List.mem_append.1 hq with h | h
      · exact (hI5 q h).alloc _
      · simp at h; subst h; exact (hO4.alloc _).lower (by omega)
    have hk6 := hk5.alloc (by omega) (.cells [.slice (some ⟨H3.next, 0, none⟩) (ps[i]).2.length (ps[i]).2.length] (.row 1) 22)
    have hn6 : (H4.alloc (.cells [.slice (some ⟨H3.next, 0, none⟩) (ps[i]).2.length (ps[i]).2.length] (.row 1) 22)).next = H4.next + 1 := rfl
    generalize H4.alloc (.cells [.slice (some ⟨H3.next, 0, none⟩) (ps[i]).2.length (ps[i]).2.length] (.row 1) 22) = H6 at hN hO6 hI6 hk6 hn6
    refine Ow.append (bytes := 24) (c' := 1) (lo := H.next) hO6 hN.rd (by omega) (by simp [maxLen]; omega) (by simp; omega) ?_
    intro H7 hO7 hn7 hat7 hk7
    simp only [aBin_add, bnd_some']
    rw [wrap64 (by omega) (by omega)]
    refine hag _ _ hlt ⟨by omega, _, _, by simp [hql], ?_, hO7, ?_, hk6.trans hk7⟩
    · rw [← List.take_append_getElem hlt, List.map_append, List.map_append, hq]
      rfl
    · intro q hq
      refine Ow.keepT (hI6 q hq) (by omega) fun b cs h1 h2 h3 => hat7 b h2 fun o s hB => ?_
      rcases hO6.2 with ⟨h4, _⟩ | ⟨b', cs', h4, _, _, h7, _⟩
      · rw [h4] at hB; cases hB
      · rw [h4] at hB
        cases hB
        rw [h3] at h7
        injection h7 with _ _ h8
        exact absurd h8 (by decide)
  · have hge : i = ps.length := by have := of_decide_eq_false hge; omega
    subst hge
    rw [List.take_length] at hq
    exact ⟨B, qs, rfl, hq, ⟨hO.rd, fun q hq => (hI q hq).rd⟩, hk2⟩

theorem tail_map {ps qs : List Chunk} (h : qs.map (·.2) = ps.map (·.2)) : tail qs = tail ps := by
  have e : ∀ rs : List Chunk, tail rs = (rs.map (·.2)).flatMap fun b => hexL b ++ [10] := fun rs => by simp [tail, List.flatMap_map]
  rw [e, e, h]

theorem c5 {H : AHeap} {A : Option Addr} {ps : List Chunk} {f c d : Int} (hT : Tb H) (hf : I64 f) (hc : I64 c) (hd' : I64 d) (hR : Chs H.next H A ps) (hn : ps.length ≤ 9223372036854775807) :
    ACalls Tryd.prog 5 [eLim f c d, .slice A ps.length ps.length] H fun v H' => v = .bool true ∧ H' = H := by
  refine ACalls.eq (S5_calls ?_) rfl
  unfold S5
  rw [aBox_eq]
  refine ⟨rfl, ?_⟩
  have e0 : vcells (eLim f c d) = [.int .i64 f, .int .i64 c, .int .i64 d] := rfl
  rw [e0]
  have h8 := hT.next
  have hat : (H.alloc (.cells [.int .i64 f, .int .i64 c, .int .i64 d] .var 27)).at_ H.next = .cells [.int .i64 f, .int .i64 c, .int .i64 d] .var 27 := AHeap.at_alloc_new _ _
  have hk : Keep H.next H (H.alloc (.cells [.int .i64 f, .int .i64 c, .int .i64 d] .var 27)) := (Keep.refl _ _).alloc (Nat.le_refl _) _
  have hnx : (H.alloc (.cells [.int .i64 f, .int .i64 c, .int .i64 d] .var 27)).next = H.next + 1 := rfl
  generalize H.alloc (.cells [.int .i64 f, .int .i64 c, .int .i64 d] .var 27) = H1 at hat hk hnx
  have hTk : ∀ {H' : AHeap}, Keep H.next H H' → Tb H' := fun {H'} k => hT.keep k.next fun x hx => k.at_ x (by omega)
  have hR1 : Chs H1.next H1 A ps := (hR.keep hk.at_).up (by omega)
  refine (c11 (hTk hk)).use ?_
  unfold S5_79
  simp only [aUn_not, bnd_some', Bool.not_true, aGuardK_ff]
  refine (c12 hR1 hn).mono ?_
  rintro v H2 ⟨⟨b, rfl, hb⟩, rfl⟩
  simp only [aUn_not, bnd_some', aPick_ff]
  refine aCond_of (fun hnb => ?_) (fun hbb => ?_)
  · exact (c11 (hTk hk)).use ⟨rfl, hk⟩
  · have hbt : b = true := by simpa using hbb
    obtain ⟨hn3, hl3⟩ := hb hbt
    have hagg : ∀ {H' : AHeap}, Keep (H.next + 1) H2 H' → aLdAgg 3 (.pointer (some ⟨H.next, 0, none⟩)) H' = some (eLim f c d) := by
      intro H' k
      rw [aLdAgg_ptr, k.at_ _ (by omega), hat]
      rfl
    rw [hagg (Keep.refl _ _), bnd_some']
    refine (c14 hR1 (by omega) fun p hp => by have := hl3 p hp; omega).mono ?_
    rintro v H3 ⟨B, qs, rfl, hq, hQ, hk3⟩
    rw [hnx] at hk3
    rw [hagg hk3, bnd_some']
    refine ⟨rfl, ?_⟩
    have hql : qs.length = ps.length := by have := congrArg List.length hq; simpa using this
    have hk3' : Keep H.next H H3 := hk.trans (hk3.lower (by omega))
    by_cases hbig : 256 < ps.length
    · refine (c8_over (A := B) (n := qs.length) rfl (by omega)).use ?_
      unfold S5_77
      refine bnd_iff.2 ⟨_, rfl, bnd_iff.2 ⟨_, rfl, ?_⟩⟩
      simp only [aLenSl_slice, bnd_some', aBin_gtr]
      rw [show decide ((256 : Int) < (ps.length : Int)) = true from decide_eq_true (by omega), aCond_true]
      unfold S5_43
      rw [show (.string ⟨#[]⟩ : Value) = bstr [] from rfl]
      simp only [aBin_eql, bnd_some', decide_true, aGuardK_tt, aBin_seql, self_beq, aPick_tt]
      exact ⟨by simp [self_beq], hk3'⟩
    · refine (c8 (hTk hk3') hf hc hd' hQ (by omega) fun q hq' => ?_).use ?_
      · have : q.2 ∈ ps.map (·.2) := by rw [← hq]; exact List.mem_map_of_mem hq'
        obtain ⟨p, hp, he⟩ := List.mem_map.1 this
        have := hl3 p hp
        rw [← he]
        omega
      unfold S5_77
      refine bnd_iff.2 ⟨_, rfl, bnd_iff.2 ⟨_, rfl, ?_⟩⟩
      simp only [aLenSl_slice, bnd_some', aBin_gtr]
      rw [show decide ((256 : Int) < (ps.length : Int)) = false from decide_eq_false (by omega), aCond_false]
      rw [hagg hk3, bnd_some']
      refine (c13 hf hc hd').use ?_
      have hR3 : Chs H2.next H3 A ps := hR1.keep fun b hb => hk3.at_ b (by omega)
      have hn3' := hk3.next
      have hhl := hd_length hf hc hd' 3
      refine aLoop_vs ps.length (fun i vs H4 => i ≤ ps.length ∧ vs = [bstr (hd f c d 3 ++ [10] ++ tail (ps.take i)), .int .i64 i] ∧ H4 = H3) ⟨Nat.zero_le _, by simp [tail], rfl⟩ ?_
      rintro i vs H4 again hi ⟨_, rfl, rfl⟩ hag
      have htl := tail_length (ps := ps.take i) fun p hp => by have := hl3 p (List.mem_of_mem_take hp); omega
      have htl2 : (ps.take i).length ≤ 256 := by rw [List.length_take]; omega
      unfold S5_76
      simp only [aLenSl_slice, nth_zero, nth_1, aBin_lss, bnd_some']
      refine aCond_of (fun hlt => ?_) (fun hge => ?_)
      · have hlt : i < ps.length := by have := of_decide_eq_true hlt; omega
        have hid := hR3.rd.idx (k := .i64) (c := ps.length) (j := (i : Int)) (by omega) (by omega)
        have hld := Rd.ld hR3.rd hlt
        have hpl := hl3 _ (List.getElem_mem hlt)
        have hxl := hexL_length (ps[i]).2
        unfold S5_59
        simp only [nth_zero, nth_1, hid, bnd_some', Int.toNat_natCast, hld]
        refine (c10 ((hR3.el _ (List.getElem_mem hlt)).up (by omega)) (by omega)).use ?_
        rw [show (.string ⟨#[10]⟩ : Value) = bstr [10] from rfl, aBin_sadd _ _ _ (by simp only [List.length_append, List.length_cons, List.length_nil]; omega), bnd_some',
          aBin_sadd _ _ _ (by simp only [List.length_append, List.length_cons, List.length_nil]; omega), bnd_some']
        simp only [aBin_add, bnd_some']
        rw [wrap64 (by omega) (by omega)]
        refine hag _ _ hlt ⟨by omega, ?_, rfl⟩
        rw [tail_take hlt]
        simp only [List.append_assoc]
        rfl
      · have hge : i = ps.length := by have := of_decide_eq_false hge; omega
        subst hge
        rw [List.take_length]
        unfold S5_75
        simp only [nth_zero, aBin_eql, bnd_some', decide_true, aGuardK_tt, aBin_seql, aPick_tt]
        have e : putL f c d qs = hd f c d 3 ++ [10] ++ tail ps := by rw [putL, tail_map hq]
        rw [e]
        exact ⟨by simp [self_beq], hk3'⟩
end Go.Proofs.YtnbnojkfhfkecaaDoor.A
