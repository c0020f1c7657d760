/- Contracts of functions that the statement reaches; each theorem carries its own conditions, the last theorem of the claim has none. -/
import Derived.Test.YtngldjajfpbmbaaMH
import Derived.Test.YtngldjajfpbmbaaMI
set_option linter.unusedVariables false
set_option linter.unusedSimpArgs false
namespace Go.Proofs.Ytngldjajfpbmbaa.A
open Go Go.Abs

theorem c54 {H : AHeap} {lo : Nat} {B : Option Addr} {xs : List V} (hlo : lo ≤ H.next) (hB : Rd 2 eV lo H B xs) (hn : xs.length ≤ 2097152) :
    ACalls Try.prog 54 [.slice B xs.length xs.length] H fun r H' => ∃ A, r = .slice A xs.length xs.length ∧ Ow 2 eV 28 H.next H' A xs ∧ Keep H.next H H' := by
  refine S54_calls ?_
  unfold S54
  simp
  refine appN hlo hB hn fun H' A hA hk => ?_
  exact ⟨A, rfl, hA, hk⟩

theorem c72 {H : AHeap} : ACalls Try.prog 72 [.slice none 0 0] H fun r H' => r = .slice none 0 0 ∧ H' = H := by
  refine ACalls.eq (S72_calls ?_) rfl
  unfold S72
  simp
theorem c73 {H : AHeap} : ACalls Try.prog 73 [.slice none 0 0] H fun r H' => r = .slice none 0 0 ∧ H' = H := by
  refine ACalls.eq (S73_calls ?_) rfl
  unfold S73
  simp
theorem c74 {H : AHeap} : ACalls Try.prog 74 [.slice none 0 0] H fun r H' => r = .slice none 0 0 ∧ H' = H := by
  refine ACalls.eq (S74_calls ?_) rfl
  unfold S74
  simp
/-- A plain piece of syntax. -/
abbrev eX (k : Int) (s : ByteArray) : List Value := [.int .i64 k, .string s, .bool false, .slice none 0 0, .slice none 0 0, .int .i64 0, .slice none 0 0, .slice none 0 0]
theorem c65 {H : AHeap} (k : Int) (s : ByteArray) : ACalls Try.prog 65 [.agg (eX k s).toArray] H fun r H' => r = .agg (eX k s).toArray ∧ H' = H := by
  refine ACalls.eq' (S65_calls ?_) ?_
  · unfold S65
    simp [at_alloc]
    refine c72.use ?_
    simp [at_alloc]
    refine c73.use ?_
    simp [at_alloc]
    refine c73.use ?_
    unfold S65_54
    simp [at_alloc, at_upd]
    refine c74.use ?_
    simp [at_alloc, at_upd]
    have key : ∀ G : AHeap, Keep H.next H G → G.at_ H.next = .cells (eX k s) .var 79 → G.at_ (H.next + 1) = .cells [.int .i64 0, .string ⟨#[]⟩, .bool false, .slice none 0 0, .slice none 0 0, .int .i64 0, .slice none 0 0, .slice none 0 0] .var 79 →
        aLoop [.int .i64 0] G fun vs_33 H_34 again_35 => S65_53 (fun v H' => v = Value.agg (eX k s).toArray ∧ Keep H.next H H') (Pt H.next) (Pt (H.next + 1)) (.int .i64 0) vs_33 H_34 again_35 := by
      intro G hk g1 g2
      refine aLoop_st 0 (fun i => [.int .i64 0]) (fun i H' => H' = G) rfl rfl ?_
      rintro i H' again hi rfl ha
      unfold S65_53
      simp [g1, g2, at_upd]
      exact hk.upd (by omega) _
    have hkk : ∀ a b c d e f, Keep H.next H ((((((H.alloc a).alloc b).upd H.next c).upd H.next d).upd H.next e).upd H.next f) := fun a b c d e f => ((((((Keep.refl _ _).alloc (Nat.le_refl _) a).alloc (by simp) b).upd (Nat.le_refl _) c).upd (Nat.le_refl _) d).upd (Nat.le_refl _) e).upd (Nat.le_refl _) f
    exact key _ (hkk _ _ _ _ _ _) (by simp) (by simp [at_upd, at_alloc])
  · refine .agg fun i u hu => .plain ?_
    have hm : u ∈ eX k s := by
      have := List.mem_of_getElem? (l := eX k s) (i := i) (by simpa using hu)
      exact this
    simp at hm
    rcases hm with rfl | rfl | rfl | rfl | rfl | rfl | rfl | rfl <;> rfl
end Go.Proofs.Ytngldjajfpbmbaa.A

set_option linter.unusedVariables false
set_option linter.unusedSimpArgs false
namespace Go.Proofs.Ytngldjajfpbmbaa.A
open Go Go.Abs

/-- Wrap, of a symbol's syntax. -/
def wrOb (k : Int) (s : ByteArray) : Ob := ⟨10, [], k, s⟩
def Sm.wrap (m : Sm) (k : Int) (s : ByteArray) : (V × Int) × Sm := if m.lim - m.used < (wrOb k s).cells then (((0, 0), 16), m) else (((7, (m.objs.length : Int)), 0), m.put (wrOb k s))
theorem Inv.wrap {m : Sm} (h : Inv m) (k : Int) (s : ByteArray) : Inv (m.wrap k s).2 := by
  unfold Sm.wrap
  split
  · exact h
  · have := h.sum
    refine ⟨?_, ?_, h.lim⟩
    · simp only [Sm.put, total_append]
      rw [this]
      simp [total]
    · simp only [Sm.put]; omega
theorem Vd.wrap {m : Sm} (h : Vd m) (k : Int) (s : ByteArray) : Vd (m.wrap k s).2 := by
  unfold Sm.wrap
  split
  · exact h
  · refine ⟨fun o ho v hv h7 => ?_, fun o ho h10 => ?_⟩
    · simp only [Sm.put, List.length_append, List.length_singleton] at ho ⊢
      rcases List.mem_append.1 ho with ho | ho
      · have := h.ok o ho v hv h7; omega
      · simp at ho
        subst ho
        simp [wrOb] at hv
    · simp only [Sm.put] at ho
      rcases List.mem_append.1 ho with ho | ho
      · exact h.syn o ho h10
      · simp at ho
        subst ho
        rfl
theorem Kd.wrap {m : Sm} (h : Kd m) (k : Int) (s : ByteArray) : Kd (m.wrap k s).2 := by
  unfold Sm.wrap
  split
  · exact h
  · intro o ho
    simp only [Sm.put] at ho
    rcases List.mem_append.1 ho with ho | ho
    · exact h o ho
    · simp at ho
      subst ho
      show (10 : Int) ≠ 0
      decide

theorem c34 {H : AHeap} {p : Nat} {m : Sm} {F : Nat → Prop} (h : St H p m F) (hI : Inv m) (k : Int) (s : ByteArray) :
    ACalls Try.prog 34 [Pt p, .agg (eX k s).toArray] H fun r H' => r = .tuple #[vV (m.wrap k s).1.1, .int .i64 (m.wrap k s).1.2] ∧ ∃ F', St H' p (m.wrap k s).2 F' ∧ Fr F H F' H' := by
  refine S34_calls ?_
  unfold S34
  have hk2 : ∀ x y, Keep H.next H ((H.alloc x).alloc y) := fun x y => ((Keep.refl _ _).alloc (Nat.le_refl _) _).alloc (by simp) _
  have key : ∀ G : AHeap, Keep H.next H G → G.next = H.next + 2 → G.at_ (H.next + 1) = .cells [.int .i64 0, .int .i64 0] .var 28 → S34_18 (Pt p) (fun r H' => r = .tuple #[vV (m.wrap k s).1.1, .int .i64 (m.wrap k s).1.2] ∧ ∃ F', St H' p (m.wrap k s).2 F' ∧ Fr F H F' H') (Pt (H.next + 1)) (.agg (eX k s).toArray) G := by
    intro G hk hn g1
    unfold S34_18
    have := c41 (h.kept hk) hI (o := wrOb k s) (a := none) (Ow.nil _ _ _ _ _) (fun x hx => by cases hx) (by simp [wrOb])
    have e : (encO (wrOb k s, none)).toArray = #[.int .i64 10, .slice none 0 0, .int .i64 k, .string s, .bool false, .slice none 0 0, .slice none 0 0, .int .i64 0, .slice none 0 0, .slice none 0 0] := rfl
    rw [e] at this
    simp
    refine this.mono fun r H4 hr => ?_
    have em : m.wrap k s = if m.lim - m.used < (wrOb k s).cells then (((0, 0), 16), m) else (((7, (m.objs.length : Int)), 0), m.put (wrOb k s)) := rfl
    by_cases hfull : m.lim - m.used < (wrOb k s).cells
    · rw [if_pos hfull] at hr em
      obtain ⟨rfl, hk4⟩ := hr
      have e5 : H4.at_ (H.next + 1) = .cells [.int .i64 0, .int .i64 0] .var 28 := by rw [hk4.at_ _ (by omega)]; exact g1
      have hk5 : ∀ z, Keep H.next H (H4.upd (H.next + 1) z) := fun z => (hk.trans (hk4.lower (by omega))).upd (by omega) _
      rw [em]
      simp [e5, at_upd]
      exact ⟨F, h.kept (hk5 _), Fr.keep (hk5 _)⟩
    · rw [if_neg hfull] at hr em
      obtain ⟨rfl, hn4, hat, F', hS, hF'⟩ := hr
      have g : ¬ F (H.next + 1) := fun hF => by have := h.lt _ hF; omega
      have e5 : H4.at_ (H.next + 1) = .cells [.int .i64 0, .int .i64 0] .var 28 := by rw [hat _ (by omega) g]; exact g1
      rw [em]
      simp [e5, at_upd]
      refine ⟨F', hS.frame (by simp) fun b hb => AHeap.at_upd_ne _ _ ?_, ⟨by simp; omega, fun b hb hF => ?_, fun b hb => ?_⟩⟩
      · rintro rfl
        rcases hF' _ hb with h1 | ⟨x, hx, h1⟩ | h1
        · exact g h1
        · cases hx
        · omega
      · rw [AHeap.at_upd_ne _ _ (by omega), hat b (by omega) hF]; exact hk.at_ b hb
      · rcases hF' _ hb with h1 | ⟨x, hx, h1⟩ | h1
        · exact .inl h1
        · cases hx
        · exact .inr (by omega)
  simp [at_alloc]
  refine (c65 k s).use ?_
  exact key _ (hk2 _ _) (by simp) (by simp [at_alloc])

theorem c58 {H : AHeap} {p : Nat} {m : Sm} {F : Nat → Prop} (h : RS H p m F) (hI : Inv m) (k : Int) (s : ByteArray) :
    ACalls Try.prog 58 [Pt p, .agg (eX k s).toArray] H fun r H' => r = .tuple #[vV (m.wrap k s).1.1, .int .i64 (m.wrap k s).1.2] ∧ ∃ F', RS H' p (m.wrap k s).2 F' ∧ Fr F H F' H' := by
  refine S58_calls ?_
  unfold S58
  have hk2 : ∀ x y, Keep H.next H ((H.alloc x).alloc y) := fun x y => ((Keep.refl _ _).alloc (Nat.le_refl _) _).alloc (by simp) _
  have key : ∀ G : AHeap, Keep H.next H G → G.next = H.next + 2 → G.at_ (H.next + 1) = .cells [.int .i64 0, .int .i64 0] .var 28 → ACalls Try.prog 69 [Pt p, .agg (encO (wrOb k s, none)).toArray] G fun t9_6 H_7 =>
      bnd (aExtract t9_6 0) fun t10_8 => bnd (aExtract t9_6 1) fun t11_9 => bnd (aSt 2 (Pt (H.next + 1)) t10_8 H_7) fun H_10 => bnd (aLdAgg 2 (Pt (H.next + 1)) H_10) fun r_11 =>
      (.tuple #[r_11, t11_9] = Value.tuple #[vV (m.wrap k s).1.1, .int .i64 (m.wrap k s).1.2] ∧ ∃ F', RS H_10 p (m.wrap k s).2 F' ∧ Fr F H F' H_10) := by
    intro G hk hn g1
    refine (c69 (h.kept hk) hI (o := wrOb k s) (a := none) (Ow.nil _ _ _ _ _) (fun x hx => by cases hx) (by simp [wrOb])).mono fun r H4 hr => ?_
    have em : m.wrap k s = if m.lim - m.used < (wrOb k s).cells then (((0, 0), 16), m) else (((7, (m.objs.length : Int)), 0), m.put (wrOb k s)) := rfl
    by_cases hfull : m.lim - m.used < (wrOb k s).cells
    · rw [if_pos hfull] at hr em
      obtain ⟨rfl, hk4⟩ := hr
      have e5 : H4.at_ (H.next + 1) = .cells [.int .i64 0, .int .i64 0] .var 28 := by rw [hk4.at_ _ (by omega)]; exact g1
      have hk5 : ∀ z, Keep H.next H (H4.upd (H.next + 1) z) := fun z => (hk.trans (hk4.lower (by omega))).upd (by omega) _
      rw [em]
      simp [e5, at_upd]
      exact ⟨F, h.kept (hk5 _), Fr.keep (hk5 _)⟩
    · rw [if_neg hfull] at hr em
      obtain ⟨rfl, hn4, hat, F', hS, hF'⟩ := hr
      have g : ¬ F (H.next + 1) := fun hF => by have := h.lt _ hF; omega
      have e5 : H4.at_ (H.next + 1) = .cells [.int .i64 0, .int .i64 0] .var 28 := by rw [hat _ (by omega) g]; exact g1
      rw [em]
      simp [e5, at_upd]
      refine ⟨F', hS.frame (by simp) fun b hb => AHeap.at_upd_ne _ _ ?_, ⟨by simp; omega, fun b hb hF => ?_, fun b hb => ?_⟩⟩
      · rintro rfl
        rcases hF' _ hb with h1 | ⟨x, hx, h1⟩ | h1
        · exact g h1
        · cases hx
        · omega
      · rw [AHeap.at_upd_ne _ _ (by omega), hat b (by omega) hF]; exact hk.at_ b hb
      · rcases hF' _ hb with h1 | ⟨x, hx, h1⟩ | h1
        · exact .inl h1
        · cases hx
        · exact .inr (by omega)
  simp [at_alloc]
  exact key _ (hk2 _ _) (by simp) (by simp [at_alloc])

theorem c57 {H : AHeap} {p : Nat} {m : Sm} {F : Nat → Prop} (h : RS H p m F) (v : V) : ACalls Try.prog 57 [Pt p, vV v] H fun r H' => r = .tuple #[.string (m.nameOf v).1, .int .i64 (m.nameOf v).2] ∧ H' = H := by
  refine ACalls.eq' (S57_calls ?_) (vin_two (.plain rfl) (.plain rfl))
  obtain ⟨A, os, NA, hX⟩ := id h
  unfold S57
  have hk : ∀ x, Keep H.next H (H.alloc x) := fun x => (Keep.refl _ _).alloc (Nat.le_refl _) _
  have hne : p ≠ H.next := hX.ne
  obtain ⟨t, n⟩ := v
  by_cases h6 : t = 6
  · subst h6
    simp
    refine (c31 (h.kept (hk _)) (6, n)).use ?_
    cases hs : m.sound (6, n) with
    | false => simp [Sm.nameOf, hs, hk]
    | true =>
      have hs' : 0 ≤ n ∧ n < m.names.length := by simpa [Sm.sound] using hs
      simp
      unfold S57_33
      have hN : Ow 1 eS 9 0 (H.alloc (.cells [.int .i64 6, .int .i64 n] .var 28)) NA m.names := hX.names.kept (hk _)
      have i1 := hN.rd.idx (k := .i64) (j := n) (c := m.names.length) hs'.1 hs'.2
      have hlt : n.toNat < m.names.length := by omega
      have l1 := hN.rd.ld (enc := Value.string) hlt
      have l2 : aLdCell (.pointer (some ⟨p, 3, none⟩)) (H.alloc (.cells [.int .i64 6, .int .i64 n] .var 28)) = some (.slice NA m.names.length m.names.length) := by simp [at_alloc, hne, hX.hp]
      have l3 : aLdCell (.pointer (some ⟨H.next, 1, none⟩)) (H.alloc (.cells [.int .i64 6, .int .i64 n] .var 28)) = some (.int .i64 n) := by simp
      simp [l2, l3, i1, l1, -aLdCell_ptr, Sm.nameOf, hs, hk, hlt]
  · simp [h6, Sm.nameOf, hk]

theorem c60 {H : AHeap} {lo lo' : Nat} {A B : Option Addr} {xs ys : List V} (hA : Rd 2 eV lo H A xs) (hB : Rd 2 eV lo' H B ys) (hn : xs.length ≤ 2097152) :
    ACalls Try.prog 60 [.slice A xs.length xs.length, .slice B ys.length ys.length] H fun r H' => r = .bool (decide (xs = ys)) ∧ H' = H := by
  refine ACalls.eq (S60_calls ?_) rfl
  unfold S60
  by_cases h3 : xs.length = ys.length
  · have h3' : (xs.length : Int) = ys.length := by omega
    simp [h3]
    refine aLoop_st xs.length (fun i => [.int .i64 i]) (fun i H' => H' = H ∧ xs.take i = ys.take i) rfl ⟨rfl, rfl⟩ ?_
    rintro i H' again hi ⟨rfl, hg⟩ ha
    unfold S60_15
    by_cases hlt : i < xs.length
    · have hlt' : i < ys.length := by omega
      have w1 := wrap64 (x := (i : Int) + 1) (by omega) (by omega)
      have i1 := hA.idx (k := .i64) (j := (i : Int)) (c := xs.length) (by omega) (by omega)
      have i2 := hB.idx (k := .i64) (j := (i : Int)) (c := ys.length) (by omega) (by omega)
      rw [Int.toNat_natCast] at i1 i2
      have l1 : aLdAgg 2 (slot 2 A i) H' = some (vV xs[i]) := hA.agg hlt
      have l2 : aLdAgg 2 (slot 2 B i) H' = some (vV ys[i]) := hB.agg hlt'
      simp [hlt, hlt']
      unfold S60_14
      simp only [nth_zero, i1, i2, l1, l2, bnd_some', neV, aBin_add, w1]
      refine aCond_of (fun hd => ?_) fun hd => ?_
      · simp at hd
        simp
        intro e
        apply hd
        simp [e]
      · simp at hd
        refine ha _ hlt ⟨rfl, ?_⟩
        rw [List.take_succ_eq_append_getElem hlt, List.take_succ_eq_append_getElem hlt', hg, hd]
    · have hie : i = xs.length := by omega
      subst hie
      rw [List.take_length, h3, List.take_length] at hg
      simp [hg]
  · have h3' : ¬ (xs.length : Int) = ys.length := by omega
    have : ¬ xs = ys := fun e => h3 (by rw [e])
    simp [h3, h3', this]
end Go.Proofs.Ytngldjajfpbmbaa.A

set_option linter.unusedVariables false
set_option linter.unusedSimpArgs false
namespace Go.Proofs.Ytngldjajfpbmbaa.A
open Go Go.Abs

theorem findIdx_at {s : ByteArray} : ∀ {ns : List ByteArray} {i : Nat} (hi : i < ns.length), (∀ j (hj : j < i), ¬ s = ns[j]) → s = ns[i] → ns.findIdx? (fun t => decide (s = t)) = some i
  | [], i, hi, _, _ => by simp at hi
  | n :: ns, 0, hi, _, h => by simp at h; simp [List.findIdx?_cons, h]
  | n :: ns, i + 1, hi, hj, h => by
    have h0 : ¬ s = n := by have := hj 0 (by omega); simpa using this
    have := findIdx_at (s := s) (ns := ns) (i := i) (by simpa using hi) (fun j hj' => by have := hj (j + 1) (by omega); simpa using this) (by simpa using h)
    simp [List.findIdx?_cons, h0, this]
theorem findIdx_no {s : ByteArray} {ns : List ByteArray} (h : ∀ j (hj : j < ns.length), ¬ s = ns[j]) : ns.findIdx? (fun t => decide (s = t)) = none := by
  rw [List.findIdx?_eq_none_iff]
  intro t ht
  obtain ⟨j, hj, rfl⟩ := List.getElem_of_mem ht
  simp [h j hj]

theorem c56 {H : AHeap} {p : Nat} {m : Sm} {F : Nat → Prop} (h : RS H p m F) (hn : m.names.length ≤ 1048576) (s : ByteArray) (hs : s.size ≤ maxLen) :
    ACalls Try.prog 56 [Pt p, .string s] H fun r H' => r = .tuple #[vV (m.sym s).1.1, .int .i64 (m.sym s).1.2] ∧ ∃ F', RS H' p (m.sym s).2 F' ∧ Fr F H F' H' := by
  refine S56_calls ?_
  unfold S56
  have hpl := h.lt p h.fp
  have hk1 : ∀ x, Keep H.next H (H.alloc x) := fun x => (Keep.refl _ _).alloc (Nat.le_refl _) _
  have hk2 : ∀ x y, Keep H.next H ((H.alloc x).upd H.next y) := fun x y => (hk1 x).upd (Nat.le_refl _) _
  by_cases h0 : s.size = 0
  · have e : m.sym s = (((0, 0), 1), m) := by unfold Sm.sym; rw [if_pos (.inl h0)]
    rw [e]
    simp [h0, at_alloc, at_upd]
    exact ⟨F, h.kept (hk2 _ _), Fr.keep (hk2 _ _)⟩
  have h0' : ¬ (s.size : Int) < 1 := by omega
  by_cases h64 : 64 < s.size
  · have h64' : (64 : Int) < s.size := by omega
    have e : m.sym s = (((0, 0), 1), m) := by unfold Sm.sym; rw [if_pos (.inr h64)]
    rw [e]
    simp [h0', h64, h64', at_alloc, at_upd]
    exact ⟨F, h.kept (hk2 _ _), Fr.keep (hk2 _ _)⟩
  have h64' : ¬ (64 : Int) < s.size := by omega
  have e : m.sym s = (match m.names.findIdx? (fun t => decide (s = t)) with
    | some i => (((6, (i : Int)), 0), m)
    | none => (((6, (m.names.length : Int)), 0), ⟨m.lim, m.used, m.objs, m.names ++ [s]⟩)) := by unfold Sm.sym; rw [if_neg (by omega)]; rfl
  obtain ⟨A, os, NA, hX⟩ := id h
  have hne : p ≠ H.next := by omega
  obtain ⟨G, hG⟩ : ∃ X, X = H.alloc (.cells [.int .i64 0, .int .i64 0] .var 28) := ⟨_, rfl⟩
  have hkG : Keep H.next H G := hG ▸ hk1 _
  have hnG : G.next = H.next + 1 := by rw [hG]; simp
  have g4 : G.at_ H.next = .cells [.int .i64 0, .int .i64 0] .var 28 := by rw [hG]; simp
  have hXG : RX G p m F A os NA := hX.frame hkG.next fun b hb => hkG.at_ b (hX.lt b hb)
  simp [h0', h64, h64']
  simp only [← hG]
  clear hG
  refine aLoop_st m.names.length (fun i => [.int .i64 i]) (fun i H' => H' = G ∧ ∀ j (hj : j < m.names.length), j < i → ¬ s = m.names[j]) rfl ⟨rfl, fun j _ hj => by omega⟩ ?_
  rintro i H' again hi ⟨rfl, hg⟩ ha
  unfold S56_60
  have lN : aLdCell (.pointer (some ⟨p, 3, none⟩)) H' = some (.slice NA m.names.length m.names.length) := by simp [hXG.hp]
  simp only [aNilCheck_ptr, bnd_some', aAdd_ptr, Nat.zero_add, lN, aLenSl_slice, nth_zero, aBin_lss]
  by_cases hlt : i < m.names.length
  · have w1 := wrap64 (x := (i : Int) + 1) (by omega) (by omega)
    have i1 := hXG.names.rd.idx (k := .i64) (j := (i : Int)) (c := m.names.length) (by omega) (by omega)
    rw [Int.toNat_natCast] at i1
    have l1 := hXG.names.rd.ld (enc := Value.string) hlt
    have hlt' : (i : Int) < m.names.length := by omega
    simp only [decide_eq_true hlt', aCond_true]
    unfold S56_40
    simp only [aNilCheck_ptr, bnd_some', aAdd_ptr, Nat.zero_add, lN, i1, l1, nth_zero]
    simp only [aBin_seql, bnd_some', ba_beq]
    refine aCond_of (fun hd => ?_) fun hd => ?_
    · have hd : m.names[i] = s := of_decide_eq_true hd
      have hf := findIdx_at (s := s) hlt (fun j hj => hg j (by omega) hj) hd.symm
      rw [hf] at e
      simp only at e
      rw [e]
      simp [g4, at_upd]
      have hk3 : ∀ y, Keep H.next H (H'.upd H.next y) := fun y => hkG.upd (Nat.le_refl _) _
      exact ⟨F, h.kept (hk3 _), Fr.keep (hk3 _)⟩
    · have hd : ¬ m.names[i] = s := of_decide_eq_false hd
      simp only [aBin_add, bnd_some', w1]
      refine ha _ hlt ⟨rfl, fun j hj hji => ?_⟩
      by_cases e : j = i
      · subst e; exact fun e => hd e.symm
      · exact hg j hj (by omega)
  · have hie : i = m.names.length := by omega
    have hlt' : ¬ (i : Int) < m.names.length := by omega
    have hf := findIdx_no (s := s) fun j hj => hg j hj (by omega)
    rw [hf] at e
    simp only at e
    rw [e]
    simp only [decide_eq_false hlt', aCond_false]
    unfold S56_59
    have w1 := wrap64 (x := (m.names.length : Int)) (by omega) (by omega)
    simp only [aNilCheck_ptr, bnd_some', aAdd_ptr, Nat.zero_add, lN, aBuildSlice_eq]
    simp [-aLdCell_ptr]
    have hR : Rd 1 eS (H'.next + 1) (H'.alloc (.cells [.string s] (.row 1) 9)) (some ⟨H'.next, 0, none⟩) [s] := Rd.mk' (by simp) (by omega) (AHeap.at_alloc_new _ _) (by simp) (by simp) (by simp)
    have key : ∀ K : Value → AHeap → Prop, (∀ H2, Ow 1 eS 9 0 H2 (some ⟨H'.next + 1, 0, none⟩) (m.names ++ [s]) → H2.next = H'.next + 2 → (∀ b, b < H'.next + 1 → (∀ o z, NA ≠ some ⟨b, o, z⟩) → H2.at_ b = (H'.alloc (.cells [.string s] (.row 1) 9)).at_ b) → K (.slice (some ⟨H'.next + 1, 0, none⟩) (m.names.length + 1) (m.names.length + 1)) H2) →
        aAppend 1 16 9 (.slice NA m.names.length m.names.length) (.slice (some ⟨H'.next, 0, none⟩) 1 1) (H'.alloc (.cells [.string s] (.row 1) 9)) K := by
      intro K hK
      have := (hXG.names.alloc (.cells [.string s] (.row 1) 9)).append (bytes := 16) (c := m.names.length) (c' := 1) (K := K) hR (Nat.zero_le _) (by simp only [maxLen, List.length_singleton]; omega) (by simp only [List.length_singleton]; omega) fun H2 h1 h2 h3 _ => by
        simp at h1 h2 h3
        have := hK H2 h1 (by omega) h3
        simpa using this
      simpa using this
    refine key _ fun H2 h1 h2 h3 => ?_
    have hat : ∀ b, b < H.next → (∀ x, NA = some x → x.block ≠ b) → H2.at_ b = H.at_ b := by
      intro b hb hN
      rw [h3 b (by omega) (fun o s hh => hN _ hh rfl), AHeap.at_alloc_ne _ _ (by omega)]
      exact hkG.at_ b hb
    have notN : ∀ (c : Nat) (ds : List Value) (u : Use) (t : TypeId), H.at_ c = .cells ds u t → t ≠ 9 → ∀ x, NA = some x → x.block ≠ c := by
      rintro c ds u t hc ht x hx rfl
      obtain ⟨_, _, _, es, hes⟩ := hX.names.blkOf hx
      rw [hc] at hes
      cases hes
      exact ht rfl
    have e1 : H2.at_ p = .cells [.int .i64 m.lim, .int .i64 m.used, .slice A m.objs.length m.objs.length, .slice NA m.names.length m.names.length] .var 64 := by
      rw [hat p hpl (notN _ _ _ _ hX.hp (by decide))]; exact hX.hp
    have nN : ∀ x, NA = some x → x.block < H.next := fun x hx => (hX.names.blkOf hx).2.2.1
    have e4 : H2.at_ H.next = .cells [.int .i64 0, .int .i64 0] .var 28 := by
      rw [h3 _ (by omega) (fun o s hh => by have := nN _ hh; dsimp only at this; omega), AHeap.at_alloc_ne _ _ (by omega)]; exact g4
    have hne2 : H.next ≠ p := by omega
    simp [e1, e4, at_upd, hne2, hne, w1]
    have un : ∀ x y c, c ≠ p → c ≠ H.next → ((H2.upd p x).upd H.next y).at_ c = H2.at_ c := fun x y c hc hc2 => by rw [AHeap.at_upd_ne _ _ hc2, AHeap.at_upd_ne _ _ hc]
    have rowp : ∀ (c : Nat) (ds : List Value) (n : Nat) (t : TypeId), H.at_ c = .cells ds (.row n) t → c ≠ p := by
      rintro c ds n t hc rfl
      rw [hX.hp] at hc
      cases hc
    refine ⟨fun b => F b ∨ b = H'.next + 1, ⟨A, os, some ⟨H'.next + 1, 0, none⟩, ?_⟩, ⟨by simp; omega, fun b hb hf => ?_, fun b hb => ?_⟩⟩
    · refine ⟨hX.len, ?_, ?_, ?_, hX.dist, ?_, .inl hX.fp, fun a ha => .inl (hX.fA a ha), fun i a ha => .inl (hX.fo i a ha), fun a ha => by cases ha; exact .inr rfl, ?_⟩
      · simp [at_upd, hne]
      · refine hX.objs.at (by simp; omega) fun x hx => ?_
        obtain ⟨_, _, hx2, ds, hds⟩ := hX.objs.blkOf hx
        rw [un _ _ _ (rowp _ _ _ _ hds) (by omega)]
        exact hat _ hx2 (notN _ _ _ _ hds (by decide))
      · intro i o a ho ha
        refine (hX.slots i o a ho ha).at (by simp; omega) fun x hx => ?_
        obtain ⟨_, _, hx2, ds, hds⟩ := (hX.slots i o a ho ha).blkOf hx
        rw [un _ _ _ (rowp _ _ _ _ hds) (by omega)]
        exact hat _ hx2 (notN _ _ _ _ hds (by decide))
      · refine h1.at (Nat.le_refl _) fun x hx => ?_
        cases hx
        exact un _ _ _ (by show H'.next + 1 ≠ p; omega) (by show H'.next + 1 ≠ H.next; omega)
      · rintro b (hb | rfl)
        · have := hX.lt b hb; simp; omega
        · simp; omega
    · rw [un _ _ b (by rintro rfl; exact hf hX.fp) (by omega)]
      exact hat b hb fun x hx => by rintro rfl; exact hf (hX.fN x hx)
    · rcases hb with hb | rfl
      · exact .inl hb
      · exact .inr (by omega)

theorem total_take {os : List Ob} {i : Nat} (hi : i < os.length) : total (os.take (i + 1)) = total (os.take i) + os[i].cells := by
  rw [List.take_succ_eq_append_getElem hi, total_append]
  simp [total]
theorem total_take_le (os : List Ob) (i : Nat) : total (os.take i) ≤ total os := by
  have := total_append (os.take i) (os.drop i)
  rw [List.take_append_drop] at this
  omega
/-- The cells of all objects. -/
theorem c70 {H : AHeap} {p : Nat} {A : Option Addr} {P : List (Ob × Option Addr)} {l u : Int} {n : Value} (hp : H.at_ p = .cells [.int .i64 l, .int .i64 u, .slice A P.length P.length, n] .var 64) (hA : Ow 10 encO 121 0 H A P)
    (ht : total (P.map (·.1)) ≤ 1048576) (hs : ∀ z ∈ P, z.1.slots.length ≤ 1048576) :
    ACalls Try.prog 70 [Pt p] H fun r H' => r = .int .i64 (total (P.map (·.1)) : Nat) ∧ H' = H := by
  refine ACalls.eq (S70_calls ?_) rfl
  unfold S70
  have hl := length_le_total (P.map (·.1))
  rw [List.length_map] at hl
  have lp : aLdCell (.pointer (some ⟨p, 2, none⟩)) H = some (.slice A P.length P.length) := by simp [hp]
  refine aLoop_st P.length (fun i => [.int .i64 (total ((P.map (·.1)).take i) : Nat), .int .i64 i]) (fun i H' => H' = H) (by simp [total]) rfl ?_
  rintro i H' again hi rfl ha
  unfold S70_18
  simp only [aNilCheck_ptr, bnd_some', aAdd_ptr, Nat.zero_add, lp, aLenSl_slice, nth_1, aBin_lss]
  by_cases hlt : i < P.length
  · have hlt' : (i : Int) < P.length := by omega
    have w1 := wrap64 (x := (i : Int) + 1) (by omega) (by omega)
    have i1 := hA.rd.idx (k := .i64) (j := (i : Int)) (c := P.length) (by omega) (by omega)
    rw [Int.toNat_natCast] at i1
    have l1 := hA.rd.agg hlt
    simp only [decide_eq_true hlt', aCond_true]
    unfold S70_17
    simp only [aNilCheck_ptr, bnd_some', aAdd_ptr, Nat.zero_add, lp, i1, l1, nth_1]
    refine (c75 P[i] (hs _ (List.getElem_mem hlt))).use ?_
    have hm : i < (P.map (·.1)).length := by simpa using hlt
    have e := total_take hm
    rw [List.getElem_map] at e
    have := total_take_le (P.map (·.1)) (i + 1)
    have w2 := wrap64 (x := ((total ((P.map (·.1)).take i) : Nat) : Int) + (P[i].1.cells : Nat)) (by omega) (by omega)
    have e2 : ((total ((P.map (·.1)).take i) : Nat) : Int) + (P[i].1.cells : Nat) = (total ((P.map (·.1)).take (i + 1)) : Nat) := by omega
    rw [e2] at w2
    simp only [nth_zero, nth_1, aBin_add, bnd_some', w1, e2, w2]
    exact ha _ hlt rfl
  · have hlt' : ¬ (i : Int) < P.length := by omega
    have e : (P.map (·.1)).take i = P.map (·.1) := List.take_of_length_le (by simp; omega)
    simp only [decide_eq_false hlt', aCond_false, nth_zero, e]
    exact ⟨trivial, Keep.refl _ _⟩
end Go.Proofs.Ytngldjajfpbmbaa.A

set_option linter.unusedVariables false
set_option linter.unusedSimpArgs false
namespace Go.Proofs.Ytngldjajfpbmbaa.A
open Go Go.Abs

/-- An element, where it lies. -/
theorem _root_.Go.Abs.Ow.cell {α : Type} {n : Nat} {enc : α → List Value} {e : TypeId} {lo : Nat} {H : AHeap} {A : Option Addr} {xs : List α} (h : Ow n enc e lo H A xs) {j : Nat} {x : α} (hj : xs[j]? = some x) :
    ∃ b, A = some ⟨b, 0, none⟩ ∧ slot n A j = .pointer (some ⟨b, j * n, none⟩) ∧ (∀ f, f < n → aLdCell (.pointer (some ⟨b, j * n + f, none⟩)) H = (enc x)[f]?) ∧ lo ≤ b ∧ b < H.next := by
  obtain ⟨hlt, rfl⟩ := List.getElem?_eq_some_iff.1 hj
  rcases h.2 with ⟨_, h2⟩ | ⟨b, cs, rfl, h2, h3, h4, h5, h6⟩
  · rw [h2] at hlt; simp at hlt
  · refine ⟨b, rfl, by simp [slot], fun f hf => ?_, h2, h3⟩
    have := flatMap_at (f := enc) (j := j) (x := xs[j]) h.1 (List.getElem?_eq_getElem hlt)
    rw [← h6] at this
    rw [← this]
    have hb : (j + 1) * n ≤ xs.length * n := Nat.mul_le_mul_right _ hlt
    rw [Nat.add_mul] at hb
    simp only [aLdCell_ptr, h4, blkCell_cells]
    rw [List.getElem?_take, if_pos hf, List.getElem?_drop, List.getElem?_take, if_pos (by omega)]

/-- Collect of the reference: what is seen. -/
structure Sn (H0 H : AHeap) (C : Option Addr) (s : List Bool) : Prop where
  keep : Keep H0.next H0 H
  row : Ow 1 eB 4 H0.next H C s
theorem Sn.kept {H0 H H' : AHeap} {C : Option Addr} {s : List Bool} (h : Sn H0 H C s) (k : Keep H.next H H') : Sn H0 H' C s := ⟨h.keep.trans (k.lower h.keep.next), h.row.kept k⟩
theorem Sn.set {H0 H : AHeap} {C : Option Addr} {s : List Bool} (h : Sn H0 H C s) {j : Nat} (hj : j < s.length) : ∃ b x, aSt 1 (slot 1 C j) (.bool true) H = some (H.upd b x) ∧ Sn H0 (H.upd b x) C (s.set j true) := by
  obtain ⟨b, hb, h1, _, x, hst, hS2, cs, hcs⟩ := h.row.st (j := j) (k := 0) (l := 1) (off := j) (v := .bool true) (y := true) hj (by omega) (by simp) (by simp) (by omega) (by simp)
  refine ⟨b, x, ?_, h.keep.upd h1 _, hS2⟩
  rw [hb]
  simpa [slot] using hst
theorem Sn.ld {H0 H : AHeap} {C : Option Addr} {s : List Bool} (h : Sn H0 H C s) {j : Nat} (hj : j < s.length) : aLdCell (slot 1 C j) H = some (.bool (s.getD j false)) := by
  rw [h.row.rd.ld (enc := Value.bool) hj, List.getD_eq_getElem?_getD, List.getElem?_eq_getElem hj]
  rfl

def fc (s : List Bool) : Nat := s.countP fun b => !b
theorem fc_set : ∀ (s : List Bool) (j : Nat), j < s.length → s.getD j false = false → fc (s.set j true) + 1 = fc s
  | [], j, h, _ => by simp at h
  | b :: s, 0, _, h => by simp at h; subst h; simp [fc]
  | b :: s, j + 1, hj, h => by
    have := fc_set s j (by simpa using hj) (by simpa using h)
    simp [fc, List.countP_cons] at *
    omega
/-- What is seen is come to, and the roots are seen. -/
structure Mk (m : Sm) (xs : List V) (s : List Bool) : Prop where
  len : s.length = m.objs.length
  rs : ∀ i, s.getD i false = true → Reach m xs i
  rt : ∀ v ∈ xs, v.1 = 7 → s.getD v.2.toNat false = true
/-- The first objects hold what is seen. -/
def Cl (m : Sm) (s : List Bool) (k : Nat) : Prop := ∀ i o, i < k → m.objs[i]? = some o → s.getD i false = true → ∀ v ∈ o.slots, v.1 = 7 → s.getD v.2.toNat false = true
theorem Mk.done {m : Sm} {xs : List V} {s : List Bool} (h : Mk m xs s) (hc : Cl m s m.objs.length) (i : Nat) : s.getD i false = true ↔ Reach m xs i := by
  refine ⟨h.rs i, fun hr => ?_⟩
  induction hr with
  | @root v hv h7 => exact h.rt v hv h7
  | @step i o v _ ho hv h7 ih => exact hc i o (List.getElem?_eq_some_iff.1 ho).1 ho ih v hv h7
theorem getD_mono {s : List Bool} {j i : Nat} (hj : j < s.length) (h : s.getD i false = true) : (s.set j true).getD i false = true := by
  rw [getD_set _ _ _ hj]
  split <;> first | rfl | exact h
theorem Mk.set {m : Sm} {xs : List V} {s : List Bool} (h : Mk m xs s) {j : Nat} (hj : j < s.length) (hr : Reach m xs j) : Mk m xs (s.set j true) := by
  refine ⟨by rw [List.length_set]; exact h.len, fun i hi => ?_, fun v hv h7 => getD_mono hj (h.rt v hv h7)⟩
  rw [getD_set _ _ _ hj] at hi
  split at hi
  · rename_i e; rw [e]; exact hr
  · exact h.rs i hi

theorem l59_118 {H0 H : AHeap} {p : Nat} {m : Sm} {F : Nat → Prop} (hS : RS H0 p m F) (hV : Vd m) {C : Option Addr} {s : List Bool} (hsl : s.length = m.objs.length) (hn : Sn H0 H C s) {i k : Nat} {vm : Value} {more : Bool} {o : Ob} (ho : m.objs[i]? = some o) (hk : k < o.slots.length) (hkl : o.slots.length ≤ 1048576) (hl : m.objs.length ≤ 1048576) {again : List Value → AHeap → Prop}
    (ha : ∀ H' s' more', Sn H0 H' C s' → ((s' = s ∧ more' = more ∧ (o.slots[k].1 = 7 → s.getD o.slots[k].2.toNat false = true)) ∨ (s' = s.set o.slots[k].2.toNat true ∧ o.slots[k].2.toNat < s.length ∧ s.getD o.slots[k].2.toNat false = false ∧ o.slots[k].1 = 7 ∧ more' = true)) → again [.bool more', .int .i64 ((k + 1 : Nat) : Int)] H') :
    S59_118 (Pt p) (.slice C m.objs.length m.objs.length) [vm, .int .i64 i] [.bool more, .int .i64 k] H again := by
  unfold S59_118
  rw [aJoin_eq]
  obtain ⟨A, os, NA, hX0⟩ := hS
  have hX : RX H p m F A os NA := hX0.frame hn.keep.next fun b hb => hn.keep.at_ b (hX0.lt b hb)
  have hil : i < m.objs.length := (List.getElem?_eq_some_iff.1 ho).1
  have hao : os[i]? = some (os[i]'(by rw [hX.len]; exact hil)) := List.getElem?_eq_getElem _
  obtain ⟨b, hA, hsb, hcb, _, _⟩ := hX.objs.cell (zip_at ho hao)
  have hR := hX.slots i o _ ho hao
  generalize os[i]'(by rw [hX.len]; exact hil) = a at hao hsb hcb hR
  have lp : aLdCell (.pointer (some ⟨p, 2, none⟩)) H = some (.slice A m.objs.length m.objs.length) := by simp [hX.hp]
  have i1 := hX.idx (k := .i64) (j := (i : Int)) (c := m.objs.length) (by omega) (by omega)
  rw [Int.toNat_natCast, hsb] at i1
  have l1 : aLdCell (.pointer (some ⟨b, i * 10 + 1, none⟩)) H = some (.slice a o.slots.length o.slots.length) := hcb 1 (by omega)
  have i2 := hR.rd.idx (k := .i64) (j := (k : Int)) (c := o.slots.length) (by omega) (by omega)
  rw [Int.toNat_natCast] at i2
  have l2 := hR.rd.agg hk
  have w1 := wrap64 (x := (k : Int) + 1) (by omega) (by omega)
  simp only [aNilCheck_ptr, bnd_some', aAdd_ptr, Nat.zero_add, lp, nth_1, i1, l1, i2, l2, aAlloc_eq]
  obtain ⟨v, hv⟩ : ∃ v, v = o.slots[k] := ⟨_, rfl⟩
  have hvm : v ∈ o.slots := hv ▸ List.getElem_mem hk
  rw [← hv] at ha ⊢
  simp
  obtain ⟨G, hG⟩ : ∃ X, X = ((H.alloc (.cells [.int .i64 0, .int .i64 0] .var 28)).upd H.next (.cells [.int .i64 v.1, .int .i64 v.2] .var 28)) := ⟨_, rfl⟩
  simp only [← hG]
  have hkG : Keep H.next H G := hG ▸ ((Keep.refl _ _).alloc (Nat.le_refl _) _).upd (Nat.le_refl _) _
  have eG : G.at_ H.next = .cells [.int .i64 v.1, .int .i64 v.2] .var 28 := by rw [hG]; simp [at_upd]
  clear hG
  have hnG := hn.kept hkG
  by_cases h7 : v.1 = 7
  · obtain ⟨v0, v1⟩ := hV.ok o (List.mem_of_getElem? ho) v hvm h7
    have hlt2 : v.2.toNat < s.length := by omega
    have i3 := hnG.row.rd.idx (k := .i64) (j := v.2) (c := m.objs.length) v0 (by omega)
    rw [hsl] at i3
    have l3 := hnG.ld hlt2
    have l4 : aLdCell (.pointer (some ⟨H.next, 1, none⟩)) G = some (.int .i64 v.2) := by simp [eG]
    simp [h7, l4, i3, l3, -aLdCell_ptr]
    cases hs : s.getD v.2.toNat false with
    | true =>
      rw [List.getD_eq_getElem?_getD] at hs
      simp [hs, w1]
      exact ha G s more hnG (.inl ⟨rfl, rfl, fun _ => by rw [List.getD_eq_getElem?_getD]; exact hs⟩)
    | false =>
      obtain ⟨c, x, hst, hn2⟩ := hnG.set hlt2
      have hs' := hs
      rw [List.getD_eq_getElem?_getD] at hs'
      simp [hs', l4, i3, hst, w1, -aLdCell_ptr, -aSt_ptr]
      exact ha _ _ true hn2 (.inr ⟨rfl, hlt2, hs, h7, rfl⟩)
  · simp [h7, w1]
    exact ha G s more hnG (.inl ⟨rfl, rfl, fun h => absurd h h7⟩)

theorem l59_120 {H0 H : AHeap} {p : Nat} {m : Sm} {F : Nat → Prop} (hS : RS H0 p m F) (hV : Vd m) (hsl1 : ∀ o ∈ m.objs, o.slots.length ≤ 1048576) {C : Option Addr} {xs : List V} {s0 s : List Bool} (hn : Sn H0 H C s) (hM : Mk m xs s) {i : Nat} {more : Bool} (hi : i < m.objs.length) (hl : m.objs.length ≤ 1048576)
    (h1 : more = false → s = s0 ∧ Cl m s i) (h2 : more = true → fc s < fc s0) {again : List Value → AHeap → Prop}
    (ha : ∀ H' s' more', Sn H0 H' C s' → Mk m xs s' → (more' = false → s' = s0 ∧ Cl m s' (i + 1)) → (more' = true → fc s' < fc s0) → again [.bool more', .int .i64 ((i + 1 : Nat) : Int)] H') :
    S59_120 (Pt p) (.slice C m.objs.length m.objs.length) [.bool more, .int .i64 i] H again := by
  unfold S59_120
  rw [aJoin_eq]
  have his : i < s.length := by rw [hM.len]; exact hi
  have w1 := wrap64 (x := (i : Int) + 1) (by omega) (by omega)
  have i1 := hn.row.rd.idx (k := .i64) (j := (i : Int)) (c := m.objs.length) (by omega) (by omega)
  rw [Int.toNat_natCast, hM.len] at i1
  have l1 := hn.ld his
  simp only [nth_zero, nth_1, i1, l1, bnd_some', aUn_not]
  have w1' : IntKind.i64.wrap ((i : Int) + 1) = ((i + 1 : Nat) : Int) := by rw [w1]; rfl
  cases hsi : s.getD i false with
  | false =>
    simp only [Bool.not_false, aCond_true, nth_zero, nth_1, aBin_add, bnd_some', w1']
    refine ha H s more hn hM (fun hm => ?_) h2
    obtain ⟨e, hc⟩ := h1 hm
    refine ⟨e, fun j o hj ho hs => ?_⟩
    by_cases e : j = i
    · subst e; rw [hsi] at hs; cases hs
    · exact hc j o (by omega) ho hs
  | true =>
    simp only [Bool.not_true, aCond_false]
    obtain ⟨o, ho⟩ : ∃ o, m.objs[i]? = some o := ⟨_, List.getElem?_eq_getElem hi⟩
    have hol := hsl1 o (List.mem_of_getElem? ho)
    have hri := hM.rs i hsi
    refine aLoop_vs o.slots.length (fun k vs H' => ∃ s more, vs = [.bool more, .int .i64 k] ∧ Sn H0 H' C s ∧ Mk m xs s ∧ (more = false → s = s0 ∧ Cl m s i ∧ ∀ v ∈ o.slots.take k, v.1 = 7 → s.getD v.2.toNat false = true) ∧ (more = true → fc s < fc s0)) ⟨s, more, rfl, hn, hM, fun hm => ⟨(h1 hm).1, (h1 hm).2, by simp⟩, h2⟩ ?_
    clear h1 h2 hsi l1 i1 his hM hn
    rintro k vs H' again2 hk ⟨s, more, rfl, hn, hM, h1, h2⟩ ha2
    unfold S59_119
    obtain ⟨A, os, NA, hX0⟩ := id hS
    have hX : RX H' p m F A os NA := hX0.frame hn.keep.next fun b hb => hn.keep.at_ b (hX0.lt b hb)
    have hao : os[i]? = some (os[i]'(by rw [hX.len]; exact hi)) := List.getElem?_eq_getElem _
    obtain ⟨b, hA, hsb, hcb, _, _⟩ := hX.objs.cell (zip_at ho hao)
    have lp : aLdCell (.pointer (some ⟨p, 2, none⟩)) H' = some (.slice A m.objs.length m.objs.length) := by simp [hX.hp]
    have i2 := hX.idx (k := .i64) (j := (i : Int)) (c := m.objs.length) (by omega) (by omega)
    rw [Int.toNat_natCast, hsb] at i2
    have l2 : aLdCell (.pointer (some ⟨b, i * 10 + 1, none⟩)) H' = some (.slice _ o.slots.length o.slots.length) := hcb 1 (by omega)
    simp only [aNilCheck_ptr, bnd_some', aAdd_ptr, Nat.zero_add, lp, nth_zero, nth_1, i2, l2, aLenSl_slice, aBin_lss]
    by_cases hlt : k < o.slots.length
    · have hlt' : (k : Int) < o.slots.length := by omega
      simp only [decide_eq_true hlt', aCond_true]
      refine l59_118 hS hV hM.len hn ho hlt hol hl fun H2 s2 more2 hn2 hc => ha2 _ H2 hlt ?_
      have tk : ∀ {v}, v ∈ o.slots.take (k + 1) → v ∈ o.slots.take k ∨ v = o.slots[k] := by
        intro v hv
        rw [List.take_succ_eq_append_getElem hlt, List.mem_append, List.mem_singleton] at hv
        exact hv
      rcases hc with ⟨rfl, rfl, hv7⟩ | ⟨rfl, hlt2, hf, hv7, rfl⟩
      · refine ⟨s2, more2, rfl, hn2, hM, fun hm => ?_, h2⟩
        obtain ⟨e1, e2, e3⟩ := h1 hm
        refine ⟨e1, e2, fun v hv h7 => ?_⟩
        rcases tk hv with hv | rfl
        · exact e3 v hv h7
        · exact hv7 h7
      · refine ⟨_, true, rfl, hn2, hM.set hlt2 (.step hri ho (List.getElem_mem hlt) hv7), fun hm => (by cases hm), fun _ => ?_⟩
        have := fc_set s _ hlt2 hf
        cases more with
        | true => have := h2 rfl; omega
        | false => rw [(h1 rfl).1] at this ⊢; omega
    · have hke : k = o.slots.length := by omega
      have hlt' : ¬ (k : Int) < o.slots.length := by omega
      simp only [decide_eq_false hlt', aCond_false, aBin_add, bnd_some', w1', nth_zero, nth_1]
      refine ha H' s more hn hM (fun hm => ?_) h2
      obtain ⟨e1, e2, e3⟩ := h1 hm
      rw [hke, List.take_length] at e3
      refine ⟨e1, fun j o' hj ho' hs => ?_⟩
      by_cases e : j = i
      · subst e
        rw [ho] at ho'
        cases ho'
        exact e3
      · exact e2 j o' (by omega) ho' hs

theorem l59_238 {H0 H : AHeap} {p : Nat} {m : Sm} {F : Nat → Prop} (hS : RS H0 p m F) (hV : Vd m) (hsl1 : ∀ o ∈ m.objs, o.slots.length ≤ 1048576) (hl : m.objs.length ≤ 1048576) {C : Option Addr} {xs : List V} {s : List Bool} (hn : Sn H0 H C s) (hM : Mk m xs s) {a1 : Value} {R : Value → AHeap → Prop}
    (ha : ∀ H' s', Sn H0 H' C s' → s'.length = m.objs.length → (∀ i, s'.getD i false = true ↔ Reach m xs i) → S59_237 (Pt p) a1 R (.slice C m.objs.length m.objs.length) H') :
    aLoop [.bool true] H fun vs H again => S59_238 (Pt p) a1 R (.slice C m.objs.length m.objs.length) vs H again := by
  refine aLoop_inv (fun μ vs H' => ∃ s more, vs = [.bool more] ∧ Sn H0 H' C s ∧ Mk m xs s ∧ (more = false → Cl m s m.objs.length) ∧ μ = 2 * fc s + (if more then 1 else 0)) (2 * fc s + 1) ⟨s, true, rfl, hn, hM, fun h => (by cases h), rfl⟩ ?_
  clear hn hM
  rintro μ vs H' again ⟨s0, more, rfl, hn, hM, hc, rfl⟩ hag
  unfold S59_238
  cases more with
  | false =>
    simp only [nth_zero, aCond_false]
    exact ha H' s0 hn hM.len (hM.done (hc rfl))
  | true =>
    simp only [nth_zero, aCond_true]
    clear hc
    refine aLoop_vs m.objs.length (fun i vs H' => ∃ s more, vs = [.bool more, .int .i64 i] ∧ Sn H0 H' C s ∧ Mk m xs s ∧ (more = false → s = s0 ∧ Cl m s i) ∧ (more = true → fc s < fc s0)) ⟨s0, false, rfl, hn, hM, fun _ => ⟨rfl, fun i o hi => by omega⟩, fun h => by cases h⟩ ?_
    clear hn hM
    rintro i vs H2 again2 hi ⟨s, more, rfl, hn, hM, h1, h2⟩ ha2
    unfold S59_121
    obtain ⟨A, os, NA, hX0⟩ := id hS
    have hX : RX H2 p m F A os NA := hX0.frame hn.keep.next fun b hb => hn.keep.at_ b (hX0.lt b hb)
    have lp : aLdCell (.pointer (some ⟨p, 2, none⟩)) H2 = some (.slice A m.objs.length m.objs.length) := by simp [hX.hp]
    simp only [aNilCheck_ptr, bnd_some', aAdd_ptr, Nat.zero_add, lp, nth_zero, nth_1, aLenSl_slice, aBin_lss]
    by_cases hlt : i < m.objs.length
    · have hlt' : (i : Int) < m.objs.length := by omega
      simp only [decide_eq_true hlt', aCond_true]
      exact l59_120 hS hV hsl1 hn hM hlt hl h1 h2 fun H3 s3 more3 g1 g2 g3 g4 => ha2 _ H3 hlt ⟨s3, more3, rfl, g1, g2, g3, g4⟩
    · have hie : i = m.objs.length := by omega
      have hlt' : ¬ (i : Int) < m.objs.length := by omega
      simp only [decide_eq_false hlt', aCond_false]
      cases more with
      | false =>
        obtain ⟨e1, e2⟩ := h1 rfl
        refine hag (2 * fc s) _ _ (by rw [e1]; simp) ⟨s, false, rfl, hn, hM, fun _ => hie ▸ e2, by simp⟩
      | true =>
        have := h2 rfl
        refine hag (2 * fc s + 1) _ _ (by simp; omega) ⟨s, true, rfl, hn, hM, fun h => (by cases h), by simp⟩
end Go.Proofs.Ytngldjajfpbmbaa.A
