/- Contracts of functions that the statement reaches; each theorem carries its own conditions, the last theorem of the claim has none. -/
import Derived.Test.YtngldjajfpbmbaaS5
set_option linter.unusedVariables false
set_option linter.unusedSimpArgs false
namespace Go.Proofs.Ytngldjajfpbmbaa.A
open Go Go.Abs

def shaped (k : Int) (n : Nat) : Bool := if k = 1 then decide ((n : Int) = 2) else if k = 3 then decide ((n : Int) = 1) else decide (1 ≤ k ∧ k ≤ 9)
theorem c38' {H : AHeap} (k : Int) (n : Nat) : ACalls Try.prog 38 [.int .i64 k, .int .i64 n] H fun r H' => r = .bool (shaped k n) ∧ H' = H := c38 k n
def mkOb (k : Int) (xs : List V) : Ob := ⟨k, xs, 0, ⟨#[]⟩⟩
def Sm.make (m : Sm) (k : Int) (xs : List V) : (V × Int) × Sm :=
  if shaped k xs.length then (if xs.all m.sound then (if m.lim - m.used < (mkOb k xs).cells then (((0, 0), 16), m) else (((7, m.objs.length), 0), m.put (mkOb k xs))) else (((0, 0), 2), m)) else (((0, 0), 1), m)

theorem c15 {H : AHeap} {p : Nat} {m : Sm} {F : Nat → Prop} (h : St H p m F) (hI : Inv m) (k : Int) {lo : Nat} {B : Option Addr} {xs : List V} (hlo : lo ≤ H.next) (hB : Rd 2 eV lo H B xs) (hn : xs.length ≤ 1048576) (he : xs = [] → B = none) :
    ACalls Try.prog 15 [Pt p, .int .i64 k, .slice B xs.length xs.length] H fun r H' => r = .tuple #[vV (m.make k xs).1.1, .int .i64 (m.make k xs).1.2] ∧ ∃ F', St H' p (m.make k xs).2 F' ∧ Fr F H F' H' := by
  refine S15_calls ?_
  have hpl := h.lt p h.fp
  have hne : p ≠ H.next ∧ p ≠ H.next + 1 := by omega
  have hk2 : ∀ x y, Keep H.next H ((H.alloc x).alloc y) := fun x y => ((Keep.refl _ _).alloc (Nat.le_refl _) _).alloc (by simp) _
  have hk3 : ∀ x y z, Keep H.next H (((H.alloc x).alloc y).upd (H.next + 1) z) := fun x y z => (hk2 x y).upd (by omega) _
  unfold S15 Sm.make
  simp [at_alloc, hne]
  refine (c38' k xs.length).use ?_
  cases hs : shaped k xs.length with
  | false =>
    simp [at_alloc, at_upd]
    exact ⟨F, h.kept (hk3 _ _ _), Fr.keep (hk3 _ _ _)⟩
  | true =>
    simp
    unfold S15_51
    obtain ⟨H2, hH2⟩ : ∃ X, X = (H.alloc (.cells [Pt p] .var 22)).alloc (.cells [.int .i64 0, .int .i64 0] .var 28) := ⟨_, rfl⟩
    simp only [vcells_pointer]
    rw [← hH2]
    have hk : Keep H.next H H2 := hH2 ▸ hk2 _ _
    have hn2 : H2.next = H.next + 2 := by rw [hH2]; simp
    have e1 : H2.at_ H.next = .cells [Pt p] .var 22 := by rw [hH2]; simp [at_alloc]
    have e2 : H2.at_ (H.next + 1) = .cells [.int .i64 0, .int .i64 0] .var 28 := by rw [hH2]; simp [at_alloc]
    clear hH2
    have h2 := h.kept hk
    have hB2 : Rd 2 eV lo H2 B xs := hB.keep fun b hb => hk.at_ b (by omega)
    refine (c39 h2 e1 (by omega) hB2 (by omega) 40 good40 fun v => c40 h2 e1 (by omega) v).use ?_
    simp
    cases hal : xs.all m.sound with
    | false =>
      simp [e2, at_upd]
      have hk4 : ∀ z, Keep H.next H (H2.upd (H.next + 1) z) := fun z => hk.upd (by omega) _
      exact ⟨F, h.kept (hk4 _), Fr.keep (hk4 _)⟩
    | true =>
      simp [e1]
      refine (c42 (by omega) hB2 hn he).mono fun r H3 ⟨B', hr, hO, hk3'⟩ => ?_
      subst hr
      unfold S15_50
      have hn3 := hk3'.next
      have e3 : H3.at_ H.next = .cells [Pt p] .var 22 := by rw [hk3'.at_ _ (by omega)]; exact e1
      have e4 : H3.at_ (H.next + 1) = .cells [.int .i64 0, .int .i64 0] .var 28 := by rw [hk3'.at_ _ (by omega)]; exact e2
      have h3 := h2.kept hk3'
      have hkk : Keep H.next H H3 := hk.trans (hk3'.lower (by omega))
      simp [e3]
      have hBn : ∀ x, B' = some x → H2.next ≤ x.block ∧ x.block < H3.next := by
        rintro x rfl
        rcases hO.2 with ⟨h1, _⟩ | ⟨c, ds, h1, h2, h3, _⟩
        · cases h1
        · cases h1; exact ⟨h2, h3⟩
      have := c41 h3 hI (o := mkOb k xs) (a := B') (hO.lower (Nat.zero_le _)) (fun x hx hF => by have := hBn x hx; have := h.lt _ hF; omega) hn
      refine ACalls.mono (by simpa [encO, mkOb] using this) fun r H4 hr => ?_
      clear this
      have hmk : (⟨k, xs, 0, ⟨#[]⟩⟩ : Ob) = mkOb k xs := rfl
      simp only [hmk] at hr
      by_cases hfull : m.lim - m.used < (mkOb k xs).cells
      · rw [if_pos hfull] at hr
        obtain ⟨rfl, hk4⟩ := hr
        have e5 : H4.at_ (H.next + 1) = .cells [.int .i64 0, .int .i64 0] .var 28 := by rw [hk4.at_ _ (by omega)]; exact e4
        have hk5 : ∀ z, Keep H.next H (H4.upd (H.next + 1) z) := fun z => (hkk.trans (hk4.lower (by omega))).upd (by omega) _
        simp [e5, at_upd, hfull]
        exact ⟨F, h.kept (hk5 _), Fr.keep (hk5 _)⟩
      · rw [if_neg hfull] at hr
        obtain ⟨rfl, hn4, hat, F', hS, hF'⟩ := hr
        have g : ¬ F (H.next + 1) := fun hF => by have := h.lt _ hF; omega
        have e5 : H4.at_ (H.next + 1) = .cells [.int .i64 0, .int .i64 0] .var 28 := by rw [hat _ (by omega) g]; exact e4
        simp [e5, at_upd, hfull]
        refine ⟨F', hS.frame (by simp) fun b hb => AHeap.at_upd_ne _ _ ?_, ⟨?_, fun b hb hF => ?_, fun b hb => ?_⟩⟩
        · rintro rfl
          rcases hF' _ hb with h1 | ⟨x, hx, h1⟩ | h1
          · exact g h1
          · have := hBn x hx; omega
          · omega
        · simp; omega
        · rw [AHeap.at_upd_ne _ _ (by omega), hat b (by omega) hF]; exact hkk.at_ b hb
        · rcases hF' _ hb with h1 | ⟨x, hx, h1⟩ | h1
          · exact .inl h1
          · have := hBn x hx; exact .inr (by omega)
          · exact .inr (by omega)

theorem Inv.make {m : Sm} (h : Inv m) (k : Int) (xs : List V) : Inv (m.make k xs).2 := by
  unfold Sm.make
  split
  · split
    · split
      · exact h
      · rename_i hf
        have := h.sum
        refine ⟨?_, ?_, h.lim⟩
        · simp only [Sm.put, total_append]
          rw [this]
          simp [total]
        · simp only [Sm.put]; omega
    · exact h
  · exact h

/-- A new store. -/
def Sm.new (n : Int) : Sm := ⟨n, 0, [], []⟩
theorem Inv.new {n : Int} (h : 0 ≤ n) (h' : n ≤ 1048576) : Inv (Sm.new n) := ⟨rfl, h, h'⟩
theorem c13 {H : AHeap} {n : Int} (h : 0 ≤ n) (h' : n ≤ 1048576) : ACalls Try.prog 13 [.int .i64 n] H fun r H' => ∃ p F, r = .tuple #[Pt p, .int .i64 0] ∧ St H' p (Sm.new n) F ∧ Keep H.next H H' ∧ ∀ b, F b → H.next ≤ b := by
  refine S13_calls ?_
  unfold S13
  have g1 : ¬ n < 0 := by omega
  have g2 : ¬ 1048576 < n := by omega
  simp [g1, g2]
  unfold S13_16
  simp
  refine ⟨fun b => H.next ≤ b ∧ b < H.next + 2, ⟨none, [], none, H.next, ?_⟩, ?_, fun b hb => hb.1⟩
  · refine ⟨rfl, ?_, Ow.nil _ _ _ _ _, fun i o a ho => (by simp [Sm.new] at ho), fun i j a b hi => (by simp at hi), Ow.nil _ _ _ _ _, ?_, ?_, fun a ha => (by cases ha), fun i a ha => (by simp at ha), fun a ha => (by cases ha), ?_, fun b hb => by simp; omega⟩
    · simp [at_alloc, Sm.new]
    · simp [at_alloc, Sm.new, entries]
    · omega
    · omega
  · exact ((Keep.refl _ _).alloc (Nat.le_refl _) _).alloc (by simp) _
theorem c13bad {H : AHeap} {n : Int} (h : ¬ (0 ≤ n ∧ n ≤ 1048576)) : ACalls Try.prog 13 [.int .i64 n] H fun r H' => r = .tuple #[.pointer none, .int .i64 1] ∧ H' = H := by
  refine ACalls.eq' (S13_calls ?_) (vin_two (.plain rfl) (.plain rfl))
  unfold S13
  by_cases g1 : n < 0
  · simp [g1]
  · have g2 : 1048576 < n := by omega
    simp [g1, g2]

/-- Set. -/
def Sm.set (m : Sm) (v : V) (i : Int) (x : V) : Int × Sm :=
  if okRef m v then (if 0 ≤ i ∧ i < (m.ob v).slots.length then (if m.sound x then (0, ⟨m.lim, m.used, m.objs.set v.2.toNat ⟨(m.ob v).kind, (m.ob v).slots.set i.toNat x, (m.ob v).sk, (m.ob v).text⟩, m.names⟩) else (2, m)) else (12, m)) else (10, m)
theorem c14 {H : AHeap} : ACalls Try.prog 14 [] H fun r H' => r = .bool true ∧ H' = H := by
  refine ACalls.eq (S14_calls ?_) rfl
  unfold S14
  refine (c13 (by omega) (by omega)).mono fun r H1 ⟨p, F, hr, hS, hk, hF⟩ => ?_
  subst hr
  unfold S14_78
  simp
  unfold S14_77
  simp
  have hI : Inv (Sm.new 5) := Inv.new (by omega) (by omega)
  have hS' := hS.alloc (.cells [.int .i64 4, .int .i64 3] (.row 2) 28)
  have hR : Rd 2 eV (H1.next + 1) (H1.alloc (.cells [.int .i64 4, .int .i64 3] (.row 2) 28)) (some ⟨H1.next, 0, none⟩) [(4, 3)] := Rd.mk' (by simp) (by omega) (AHeap.at_alloc_new _ _) (by simp) (by simp) (by simp)
  refine (c15 hS' hI 3 (by simp) hR (by simp) (by simp)).mono fun r H2 ⟨hr, F2, hS2, hF2⟩ => ?_
  have em : (Sm.new 5).make 3 [(4, 3)] = (((7, 0), 0), (Sm.new 5).put (mkOb 3 [(4, 3)])) := rfl
  rw [em] at hr hS2
  subst hr
  have hn2 := hF2.next
  simp at hn2
  have hkk : Keep H.next H H2 := ⟨by have := hk.next; omega, fun b hb => by
    have := hk.next
    rw [hF2.at_ b (by simp; omega) (fun hb' => by have := hF b hb'; omega), AHeap.at_alloc_ne _ _ (by omega)]
    exact hk.at_ b hb⟩
  simp [at_alloc, at_upd]
  have hk3 : ∀ x z, Keep H2.next H2 ((H2.alloc x).upd H2.next z) := fun x z => ((Keep.refl _ _).alloc (Nat.le_refl _) _).upd (Nat.le_refl _) _
  refine (c18 (hS2.kept (hk3 _ _)) (7, 0) 0).use ?_
  unfold S14_76
  have eg : ((Sm.new 5).put (mkOb 3 [(4, 3)])).get (7, 0) 0 = ((4, 3), 0) := rfl
  simp [eg, at_alloc, at_upd]
  have hk5 : ∀ x z y w, Keep H2.next H2 ((((H2.alloc x).upd H2.next z).alloc y).upd (H2.next + 1) w) := fun x z y w => ((hk3 x z).alloc (by simp) _).upd (by omega) _
  refine (c17 (hS2.kept (hk5 _ _ _ _))).use ?_
  have eu : ((Sm.new 5).put (mkOb 3 [(4, 3)])).used = 2 := rfl
  simp [eu]
  exact hkk.trans ((hk5 _ _ _ _).lower (by have := hkk.next; omega))
end Go.Proofs.Ytngldjajfpbmbaa.A
