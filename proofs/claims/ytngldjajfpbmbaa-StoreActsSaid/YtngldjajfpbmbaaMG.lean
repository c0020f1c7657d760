/- Contracts of functions that the statement reaches; each theorem carries its own conditions, the last theorem of the claim has none. -/
import Derived.Test.YtngldjajfpbmbaaMF
import Derived.Test.YtngldjajfpbmbaaAbsOp
set_option linter.unusedVariables false
set_option linter.unusedSimpArgs false
namespace Go.Proofs.Ytngldjajfpbmbaa.A
open Go Go.Abs

/-- A thing that is to be made: its kind, its slots, what is changed to what. -/
abbrev MkT := Int × (Option Addr × List V) × Int × V
def encM (x : MkT) : List Value := [.int .i64 x.1, .slice x.2.1.1 x.2.1.2.length x.2.1.2.length, .int .i64 x.2.2.1, .int .i64 x.2.2.2.1, .int .i64 x.2.2.2.2]
structure Mks (lo : Nat) (H : AHeap) (A : Option Addr) (ms : List MkT) : Prop where
  rd : Rd 5 encM lo H A ms
  slots : ∀ x ∈ ms, Rd 2 eV lo H x.2.1.1 x.2.1.2
theorem Mks.kept {lo : Nat} {H H' : AHeap} {A : Option Addr} {ms : List MkT} (h : Mks lo H A ms) (hk : Keep lo H H') : Mks lo H' A ms := ⟨h.rd.kept hk, fun x hx => (h.slots x hx).kept hk⟩
theorem Mks.at {lo : Nat} {H : AHeap} {A : Option Addr} {ms : List MkT} (h : Mks lo H A ms) {i : Nat} (hi : i < ms.length) : ∃ b o, slot 5 A i = .pointer (some ⟨b, o, none⟩) ∧ ∀ H', Keep lo H H' →
    aLdCell (.pointer (some ⟨b, o, none⟩)) H' = some (.int .i64 ms[i].1) ∧ aLdCell (.pointer (some ⟨b, o + 1, none⟩)) H' = some (.slice ms[i].2.1.1 ms[i].2.1.2.length ms[i].2.1.2.length) ∧
    aLdCell (.pointer (some ⟨b, o + 2, none⟩)) H' = some (.int .i64 ms[i].2.2.1) ∧ aLdAgg 2 (.pointer (some ⟨b, o + 3, none⟩)) H' = some (vV ms[i].2.2.2) := by
  obtain ⟨b, o, cs, k, t, hA, hb, hat, hl, hc⟩ := h.rd.elem hi
  refine ⟨b, o + i * 5, by rw [hA]; rfl, fun H' hk => ?_⟩
  have hat' : H'.at_ b = .cells cs k t := by rw [hk.at_ _ hb]; exact hat
  have hf : ∀ f, f < 5 → cs[o + i * 5 + f]? = (encM ms[i])[f]? := by
    intro f hf
    rw [← hc, List.getElem?_take, if_pos hf, List.getElem?_drop]
  have h0 := hf 0 (by omega)
  have h1 := hf 1 (by omega)
  have h2 := hf 2 (by omega)
  have h34 : (cs.drop (o + i * 5 + 3)).take 2 = [.int .i64 ms[i].2.2.2.1, .int .i64 ms[i].2.2.2.2] := by
    rw [← List.drop_drop]
    have e : ((cs.drop (o + i * 5)).drop 3).take 2 = (((cs.drop (o + i * 5)).take 5).drop 3).take 2 := by rw [List.drop_take, List.take_take]; rfl
    rw [e, hc]
    rfl
  simp [encM] at h0 h1 h2
  refine ⟨by simp [hat', h0], by simp [hat', h1], by simp [hat', h2], ?_⟩
  rw [aLdAgg_ptr, hat', blkAgg_cells, if_pos (by omega), h34]

/-- Another store is left alone. -/
theorem RS.fr {H H' : AHeap} {q : Nat} {m : Sm} {F F' G : Nat → Prop} (h : RS H q m G) (hd : ∀ b, G b → ¬ F b) (k : Fr F H F' H') : RS H' q m G ∧ ∀ b, G b → ¬ F' b :=
  ⟨h.frame k.next fun b hb => k.at_ b (h.lt b hb) (hd b hb), fun b hb hf => by rcases k.new b hf with h1 | h1; exact hd b hb h1; have := h.lt b hb; omega⟩
theorem St.fr {H H' : AHeap} {q : Nat} {m : Sm} {F F' G : Nat → Prop} (h : St H q m G) (hd : ∀ b, G b → ¬ F b) (k : Fr F H F' H') : St H' q m G ∧ ∀ b, G b → ¬ F' b :=
  ⟨h.frame k.next fun b hb => k.at_ b (h.lt b hb) (hd b hb), fun b hb hf => by rcases k.new b hf with h1 | h1; exact hd b hb h1; have := h.lt b hb; omega⟩

/-- Both stores, alike. -/
structure Bo (H0 H : AHeap) (p q : Nat) (m : Sm) : Prop where
  ex : ∃ F G : Nat → Prop, St H p m F ∧ RS H q m G ∧ (∀ b, G b → ¬ F b) ∧ (∀ b, F b → H0.next ≤ b) ∧ ∀ b, G b → H0.next ≤ b
  keep : Keep H0.next H0 H
  inv : Inv m
  vd : Vd m
  kd : Kd m
theorem Bo.kept {H0 H H' : AHeap} {p q : Nat} {m : Sm} (h : Bo H0 H p q m) (k : Keep H.next H H') : Bo H0 H' p q m := by
  obtain ⟨F, G, h1, h2, h3, h4, h5⟩ := h.ex
  exact ⟨⟨F, G, h1.kept k, h2.kept k, h3, h4, h5⟩, h.keep.trans (k.lower h.keep.next), h.inv, h.vd, h.kd⟩
theorem keepFr {H0 H H' : AHeap} {F F' : Nat → Prop} (hk : Keep H0.next H0 H) (h4 : ∀ b, F b → H0.next ≤ b) (k : Fr F H F' H') : Keep H0.next H0 H' ∧ ∀ b, F' b → H0.next ≤ b :=
  ⟨keep_new hk h4 k, fun b hb => by rcases k.new b hb with h1 | h1; exact h4 b h1; have := hk.next; omega⟩

theorem l25_53 {H0 H : AHeap} {lo p q : Nat} {m : Sm} {A : Option Addr} {ms : List MkT} {i : Nat} (hlo : lo ≤ H0.next) (hM : Mks lo H0 A ms) (hi : i < ms.length) (hi2 : i < 60) (hB : Bo H0 H p q m) {J : List Value → AHeap → Prop} (hs : ms[i].2.1.2.length ≤ 30)
    (hJ : ∀ H' m', Bo H0 H' p q m' → J [] H') : S25_53 (.slice A ms.length ms.length) (Pt p) (Pt q) [.int .i64 i] H J := by
  unfold S25_53
  obtain ⟨b, o, hsl, hld⟩ := hM.at hi
  have i1 := (hM.kept (hB.keep.lower hlo)).rd.idx (k := .i64) (j := (i : Int)) (c := ms.length) (by omega) (by omega)
  rw [Int.toNat_natCast, hsl] at i1
  have hk1 : Keep H.next H (H.alloc (.cells [] (.row 2) 28)) := (Keep.refl _ _).alloc (Nat.le_refl _) _
  have d1 := hld H (hB.keep.lower hlo)
  have d2 := hld (H.alloc (.cells [] (.row 2) 28)) ((hB.keep.trans (hk1.lower hB.keep.next)).lower hlo)
  simp only [nth_zero, i1, bnd_some', aAdd_ptr, Nat.add_zero, d1.1, aBuildSlice_eq]
  simp [-aLdCell_ptr]
  simp only [i1, bnd_some', aAdd_ptr, d2.2.1]
  have hR := (hM.slots _ (List.getElem_mem hi)).kept (hB.keep.lower hlo)
  have hnx := hB.keep.next
  refine appN (by omega) hR (by omega) fun H2 B hBo hk2 => ?_
  have hB2 := hB.kept hk2
  have d3 := hld H2 (hB2.keep.lower hlo)
  refine ⟨by simp only [d3.1, bnd_some'], ?_⟩
  obtain ⟨F, G, hS, hRs, hd, hF, hG⟩ := hB2.ex
  have hn2 := hk2.next
  refine (c15 hS hB2.inv ms[i].1 (lo := H2.next) (Nat.le_refl _) (hBo.rd) (by omega) (by simp)).mono fun r H3 ⟨hr, F3, hS3, hF3⟩ => ?_
  obtain ⟨hk3, hF3'⟩ := keepFr hB2.keep hF hF3
  obtain ⟨hR3, hd3⟩ := hRs.fr hd hF3
  have d4 := hld H3 (hk3.lower hlo)
  simp only [i1, bnd_some', aAdd_ptr, Nat.add_zero, d4.1, d4.2.1]
  have hR4 := (hM.slots _ (List.getElem_mem hi)).kept (hk3.lower hlo)
  refine (c49 hR3 hB2.inv ms[i].1 (by have := hk3.next; omega) hR4 (by omega)).mono fun r H4 ⟨hr4, G4, hR4', hG4⟩ => ?_
  obtain ⟨hk4, hG4'⟩ := keepFr hk3 hG hG4
  obtain ⟨hS4, hd4⟩ := hS3.fr (G := F3) (F := G) (fun b hb hg => hd3 b hg hb) hG4
  exact hJ H4 _ ⟨⟨F3, G4, hS4, hR4', fun b hb hf => hd4 b hf hb, hF3', hG4'⟩, hk4, hB2.inv.make _ _, hB2.vd.make _ _, hB2.kd.make _ _⟩

theorem c25 {H0 : AHeap} {lo : Nat} {A : Option Addr} {ms : List MkT} (hlo : lo ≤ H0.next) (hM : Mks lo H0 A ms) :
    ACalls Try.prog 25 [.slice A ms.length ms.length] H0 fun r H' => ∃ p q, r = .tuple #[Pt p, Pt q] ∧ ∃ m, Bo H0 H' p q m := by
  refine S25_calls ?_
  unfold S25
  refine (c13 (by omega) (by omega)).mono fun r H1 ⟨p, F, hr, hS, hk, hF⟩ => ?_
  subst hr
  simp
  unfold S25_97
  simp
  obtain ⟨q, hq⟩ : ∃ q, q = H1.next := ⟨_, rfl⟩
  rw [← hq]
  have hk1 : Keep H1.next H1 (H1.alloc (.cells [.int .i64 2000, .int .i64 0, .slice none 0 0, .slice none 0 0] .var 64)) := (Keep.refl _ _).alloc (Nat.le_refl _) _
  have hB1 : Bo H0 (H1.alloc (.cells [.int .i64 2000, .int .i64 0, .slice none 0 0, .slice none 0 0] .var 64)) p q (Sm.new 2000) := by
    refine ⟨⟨F, fun b => b = q, hS.kept hk1, ⟨none, [], none, ?_⟩, ?_, hF, ?_⟩, hk.trans (hk1.lower hk.next), Inv.new (by omega) (by omega), Vd.new _, by simp [Kd, Sm.new]⟩
    · refine ⟨rfl, by rw [hq]; simp [Sm.new], Ow.nil _ _ _ _ _, fun i o a ho => (by simp [Sm.new] at ho), fun i j a b hi => (by simp at hi), Ow.nil _ _ _ _ _, rfl, fun a ha => (by cases ha), fun i a ha => (by simp at ha), fun a ha => (by cases ha), ?_⟩
      rintro b rfl
      rw [hq]; simp
    · rintro b rfl hf
      have := hS.lt _ hf
      omega
    · rintro b rfl
      have := hk.next
      omega
  obtain ⟨n, hn⟩ : ∃ n, n = min ms.length 60 := ⟨_, rfl⟩
  refine aLoop_vs n (fun i vs H' => vs = [.int .i64 i] ∧ ∃ m, Bo H0 H' p q m) ⟨rfl, _, hB1⟩ ?_
  clear hB1 hk1 hS hk hF
  rintro i vs H' again hi ⟨rfl, m, hB⟩ ha
  unfold S25_96
  by_cases hlt : i < n
  · have h1 : i < ms.length := by omega
    have h2 : (i : Int) < 60 := by omega
    have h2' : i < 60 := by omega
    simp [h1, h2, h2']
    unfold S25_54
    rw [aJoin_eq]
    obtain ⟨b, o, hsl, hld⟩ := hM.at h1
    have i1 := (hM.kept (hB.keep.lower hlo)).rd.idx (k := .i64) (j := (i : Int)) (c := ms.length) (by omega) (by omega)
    rw [Int.toNat_natCast, hsl] at i1
    have d1 := hld H' (hB.keep.lower hlo)
    have w1 := wrap64 (x := (i : Int) + 1) (by omega) (by omega)
    simp only [nth_zero, i1, bnd_some', aAdd_ptr, d1.2.1, aLenSl_slice, aBin_leq]
    have fin : ∀ H2 m2, Bo H0 H2 p q m2 → bnd (aBin .add .no (.int .i64 i) (.int .i64 1)) fun t => again [t] H2 := by
      intro H2 m2 hB2
      simp only [aBin_add, bnd_some', w1]
      exact ha _ H2 hlt ⟨rfl, m2, hB2⟩
    refine aCond_of (fun hc => ?_) fun hc => ?_
    · exact l25_53 hlo hM h1 (by omega) hB (by simp at hc; omega) fun H2 m2 hB2 => fin H2 m2 hB2
    · exact fin _ _ hB
  · have hie : i = n := by omega
    have second : aLoop [.int .i64 0] H' fun vs_55 H_56 again_57 => S25_95 (.slice A ms.length ms.length) (fun r H' => ∃ p q, r = .tuple #[Pt p, Pt q] ∧ ∃ m, Bo H0 H' p q m) (Pt p) (Pt q) vs_55 H_56 again_57 := by
      refine aLoop_vs n (fun i vs H' => vs = [.int .i64 i] ∧ ∃ m, Bo H0 H' p q m) ⟨rfl, _, hB⟩ ?_
      clear hB ha again hi hlt hie
      rintro j vs H2 again2 hj ⟨rfl, m2, hB2⟩ ha2
      unfold S25_95
      by_cases hjl : j < n
      · have h1 : j < ms.length := by omega
        have h2 : (j : Int) < 60 := by omega
        have h2' : j < 60 := by omega
        simp [h1, h2, h2']
        unfold S25_94
        obtain ⟨b, o, hsl, hld⟩ := hM.at h1
        have i1 := (hM.kept (hB2.keep.lower hlo)).rd.idx (k := .i64) (j := (j : Int)) (c := ms.length) (by omega) (by omega)
        rw [Int.toNat_natCast, hsl] at i1
        have w1 := wrap64 (x := (j : Int) + 1) (by omega) (by omega)
        have hkG : Keep H2.next H2 ((H2.alloc (.cells [.int .i64 0, .int .i64 0] .var 28)).upd H2.next (.cells [.int .i64 7, .int .i64 j] .var 28)) := ((Keep.refl _ _).alloc (Nat.le_refl _) _).upd (Nat.le_refl _) _
        obtain ⟨G2, hG2⟩ : ∃ X, X = (H2.alloc (.cells [.int .i64 0, .int .i64 0] .var 28)).upd H2.next (.cells [.int .i64 7, .int .i64 j] .var 28) := ⟨_, rfl⟩
        have gv : aLdAgg 2 (Pt H2.next) G2 = some (vV (7, (j : Int))) := by rw [hG2]; simp
        have gat : G2.at_ H2.next = .cells [.int .i64 7, .int .i64 j] .var 28 := by rw [hG2]; simp
        have gnx : G2.next = H2.next + 1 := by rw [hG2]; simp
        rw [← hG2] at hkG
        simp [at_alloc]
        simp only [← hG2]
        clear hG2
        have hB3 := hB2.kept hkG
        have d1 := hld G2 (hB3.keep.lower hlo)
        simp only [gv, nth_zero, i1, bnd_some', aAdd_ptr, d1.2.2.1, d1.2.2.2]
        obtain ⟨F, G, hS2, hRs2, hd, hF, hG⟩ := hB2.ex
        have hS := hS2.kept hkG
        have hRs := hRs2.kept hkG
        refine (c19 hS (7, (j : Int)) ms[j].2.2.1 ms[j].2.2.2).mono fun r H4 ⟨hr, hS4, hF4⟩ => ?_
        obtain ⟨hk4, hF4'⟩ := keepFr hB3.keep hF hF4
        obtain ⟨hR4, hd4⟩ := hRs.fr hd hF4
        unfold S25_93
        have d2 := hld H4 (hk4.lower hlo)
        have gv4 : aLdAgg 2 (Pt H2.next) H4 = some (vV (7, (j : Int))) := by
          have : ¬ F H2.next := by
            intro hf
            have := hS2.lt _ hf
            omega
          rw [aLdAgg_ptr, hF4.at_ _ (by omega) this, gat]
          simp
        simp only [gv4, nth_zero, i1, bnd_some', aAdd_ptr, d2.2.2.1, d2.2.2.2]
        refine (c50 hR4 hB3.kd (7, (j : Int)) ms[j].2.2.1 ms[j].2.2.2).mono fun r H5 ⟨hr5, hR5, hG5⟩ => ?_
        obtain ⟨hk5, hG5'⟩ := keepFr hk4 hG hG5
        obtain ⟨hS5, hd5⟩ := hS4.fr (G := F) (F := G) (fun b hb hg => hd4 b hg hb) hG5
        simp only [aBin_add, bnd_some', w1]
        exact ha2 _ H5 hjl ⟨rfl, _, ⟨⟨F, G, hS5, hR5, fun b hb hf => hd5 b hf hb, hF, hG⟩, hk5, hB3.inv.set _ _ _, hB3.vd.set _ _ _, hB3.kd.set _ _ _⟩⟩
      · have hje : j = n := by omega
        by_cases h1 : j < ms.length
        · have h2 : ¬ (j : Int) < 60 := by omega
          have h2' : ¬ j < 60 := by omega
          simp [h1, h2, h2']
          exact ⟨p, q, ⟨rfl, rfl⟩, m2, hB2⟩
        · simp [h1]
          exact ⟨p, q, ⟨rfl, rfl⟩, m2, hB2⟩
    by_cases h1 : i < ms.length
    · have h2 : ¬ (i : Int) < 60 := by omega
      have h2' : ¬ i < 60 := by omega
      simp [h1, h2, h2']
      exact second
    · simp [h1]
      exact second
end Go.Proofs.Ytngldjajfpbmbaa.A

set_option linter.unusedVariables false
set_option linter.unusedSimpArgs false
namespace Go.Proofs.Ytngldjajfpbmbaa.A
open Go Go.Abs

theorem eqv_symm (m : Sm) (a b : V) : m.eqv a b = m.eqv b a := by
  unfold Sm.eqv
  have e1 : decide (a = b) = decide (b = a) := by simp only [eq_comm]
  have e2 : decide (m.slotsOf a = m.slotsOf b) = decide (m.slotsOf b = m.slotsOf a) := by simp only [eq_comm]
  have e3 : decide (m.kindOf a = 5 ∧ m.kindOf b = 5) = decide (m.kindOf b = 5 ∧ m.kindOf a = 5) := by simp only [and_comm]
  rw [e1, e2, e3]
theorem parts_symm (m : Sm) (a b : V) : m.parts b a = (m.parts a b).map fun l => l.map Prod.swap := by
  unfold Sm.parts
  by_cases h : m.kindOf a = m.kindOf b ∧ (m.slotsOf a).length = (m.slotsOf b).length ∧ (m.kindOf a = 1 ∨ m.kindOf a = 2 ∨ m.kindOf a = 3 ∨ m.kindOf a = 4)
  · rw [if_pos h, if_pos ⟨h.1.symm, h.2.1.symm, h.1 ▸ h.2.2⟩]
    simp only [Option.map_some]
    congr 1
    have : ∀ (xs ys : List V), ys.zip xs = (xs.zip ys).map Prod.swap := by
      intro xs
      induction xs with
      | nil => intro ys; simp
      | cons x xs ih =>
        intro ys
        cases ys with
        | nil => simp
        | cons y ys => simp [ih ys]
    exact this _ _
  · rw [if_neg h, if_neg]
    · rfl
    · rintro ⟨h1, h2, h3⟩
      exact h ⟨h1.symm, h2.symm, h1 ▸ h3⟩
theorem run_swap (m : Sm) : ∀ (f : Nat) (st : List (V × V)), m.run f (st.map Prod.swap) = m.run f st
  | f, [] => rfl
  | 0, _ :: _ => rfl
  | f + 1, (a, b) :: r => by
    simp only [List.map_cons, Prod.swap, Sm.run]
    rw [eqv_symm m b a, parts_symm m a b]
    cases m.eqv a b with
    | true => simpa using run_swap m f r
    | false =>
      cases m.parts a b with
      | none => rfl
      | some l =>
        have := run_swap m f (l ++ r)
        rw [List.map_append] at this
        simpa using this
theorem run_more (m : Sm) (k : Nat) : ∀ (f : Nat) (st : List (V × V)) (y : Bool) (l : Nat), m.run f st = (y, l, 0) → m.run (f + k) st = (y, l + k, 0)
  | f, [], y, l, h => by
    simp only [Sm.run, Prod.mk.injEq] at h ⊢
    obtain ⟨h1, h2, _⟩ := h
    exact ⟨h1, by omega, trivial⟩
  | 0, _ :: _, y, l, h => by simp [Sm.run] at h
  | f + 1, (a, b) :: r, y, l, h => by
    rw [show f + 1 + k = f + k + 1 by omega]
    simp only [Sm.run] at h ⊢
    cases he : m.eqv a b with
    | true =>
      rw [he] at h
      exact run_more m k f r y l h
    | false =>
      rw [he] at h
      cases hp : m.parts a b with
      | none =>
        rw [hp] at h
        simp at h ⊢
        exact ⟨h.1, by omega⟩
      | some l' =>
        rw [hp] at h
        exact run_more m k f (l' ++ r) y l h
theorem run_need (m : Sm) : ∀ (f : Nat) (st : List (V × V)) (y : Bool) (l : Nat), m.run f st = (y, l, 0) → ∃ g, f = l + g ∧ m.run g st = (y, 0, 0) ∧ (∀ g', g' < g → m.run g' st = (false, 0, 15)) ∧ (st ≠ [] → 1 ≤ g)
  | f, [], y, l, h => by
    simp only [Sm.run, Prod.mk.injEq] at h
    obtain ⟨h1, h2, _⟩ := h
    exact ⟨0, by omega, by simp [Sm.run, h1], by omega, by simp⟩
  | 0, _ :: _, y, l, h => by simp [Sm.run] at h
  | f + 1, (a, b) :: r, y, l, h => by
    simp only [Sm.run] at h
    have z : m.run 0 ((a, b) :: r) = (false, 0, 15) := rfl
    have step : ∀ st, (∀ n, m.run (n + 1) ((a, b) :: r) = m.run n st) → m.run f st = (y, l, 0) → ∃ g, f + 1 = l + g ∧ m.run g ((a, b) :: r) = (y, 0, 0) ∧ (∀ g', g' < g → m.run g' ((a, b) :: r) = (false, 0, 15)) ∧ ((a, b) :: r ≠ [] → 1 ≤ g) := by
      intro st hst hrun
      obtain ⟨g, h1, h2, h3, _⟩ := run_need m f st y l hrun
      refine ⟨g + 1, by omega, by rw [hst]; exact h2, fun g' hg' => ?_, fun _ => by omega⟩
      cases g' with
      | zero => rfl
      | succ g' => rw [hst]; exact h3 g' (by omega)
    cases he : m.eqv a b with
    | true =>
      rw [he] at h
      exact step r (fun n => run_skip he n r) h
    | false =>
      rw [he] at h
      cases hp : m.parts a b with
      | none =>
        rw [hp] at h
        simp at h
        refine ⟨1, by omega, ?_, fun g' hg' => ?_, fun _ => Nat.le_refl _⟩
        · rw [run_no he hp]; simp [h.1]
        · have : g' = 0 := by omega
          subst this
          rfl
      | some l' =>
        rw [hp] at h
        exact step (l' ++ r) (fun n => run_open he hp n r) h
  termination_by f => f
theorem run_err (m : Sm) : ∀ (f : Nat) (st : List (V × V)), (m.run f st).2.2 = 0 ∨ m.run f st = (false, 0, 15)
  | f, [] => .inl (by cases f <;> rfl)
  | 0, _ :: _ => .inr rfl
  | f + 1, (a, b) :: r => by
    simp only [Sm.run]
    cases m.eqv a b with
    | true => exact run_err m f r
    | false =>
      cases m.parts a b with
      | none => exact .inl rfl
      | some l => exact run_err m f (l ++ r)
theorem run_self (m : Sm) (a : V) : m.run 1 [(a, a)] = (true, 0, 0) := by
  rw [run_skip (eqv_self m a)]
  rfl
end Go.Proofs.Ytngldjajfpbmbaa.A

set_option linter.unusedVariables false
set_option linter.unusedSimpArgs false
namespace Go.Proofs.Ytngldjajfpbmbaa.A
open Go Go.Abs

theorem c8 {H : AHeap} {lo : Nat} {A : Option Addr} {ms : List MkT} (hlo : lo ≤ H.next) (hM : Mks lo H A ms) (a b : V) {more : Nat} (hmore : more < 65536) :
    ACalls Try.prog 8 [.slice A ms.length ms.length, vV a, vV b, .int .u16 more] H fun r _ => r = .bool true := by
  refine S8_calls ?_
  unfold S8
  have hk2 : ∀ x y, Keep H.next H ((H.alloc x).alloc y) := fun x y => ((Keep.refl _ _).alloc (Nat.le_refl _) _).alloc (by simp) _
  simp only [aBox_eq, AHeap.next_alloc]
  refine ⟨by simp, by simp, ?_⟩
  obtain ⟨H1, hH1⟩ : ∃ X, X = (H.alloc (.cells (vcells (vV a)) .var 28)).alloc (.cells (vcells (vV b)) .var 28) := ⟨_, rfl⟩
  have hk1 : Keep H.next H H1 := hH1 ▸ hk2 _ _
  have hn1 : H1.next = H.next + 2 := by rw [hH1]; simp
  have e5 : H1.at_ H.next = .cells (eV a) .var 28 := by rw [hH1]; simp [at_alloc]
  have e6 : H1.at_ (H.next + 1) = .cells (eV b) .var 28 := by rw [hH1]; simp [at_alloc]
  rw [← hH1]
  clear hH1
  refine (c25 (lo := lo) (by omega) (hM.kept (hk1.lower hlo))).mono fun r H2 ⟨p, q, hr, m, hB⟩ => ?_
  subst hr
  obtain ⟨F, G, hS, _⟩ := hB.ex
  have hl := slotsOf_le hB.inv hB.vd
  have e52 : H2.at_ H.next = .cells (eV a) .var 28 := by rw [hB.keep.at_ _ (by omega)]; exact e5
  have e62 : H2.at_ (H.next + 1) = .cells (eV b) .var 28 := by rw [hB.keep.at_ _ (by omega)]; exact e6
  have la : aLdAgg 2 (Pt H.next) H2 = some (vV a) := by simp [e52]
  have lb : aLdAgg 2 (Pt (H.next + 1)) H2 = some (vV b) := by simp [e62]
  simp
  refine c20.use ?_
  unfold S8_324
  simp [la, lb, -aLdAgg_ptr]
  refine (c21 hS hl a b (by omega)).use ?_
  have e4 : (400 : Int).toNat = 400 := rfl
  have e1 : (1 : Int).toNat = 1 := rfl
  rw [e4]
  have hsw : m.run 400 [(b, a)] = m.run 400 [(a, b)] := run_swap m 400 [(a, b)]
  unfold S8_323
  simp only [runV]
  simp [la, lb, -aLdAgg_ptr]
  refine (c21 hS hl b a (by omega)).use ?_
  rw [e4, hsw]
  simp only [runV]
  simp [la, lb, -aLdAgg_ptr]
  refine (c21 hS hl a a (by omega)).use ?_
  rw [e1, run_self]
  unfold S8_322
  simp only [runV]
  simp [la, lb, -aLdAgg_ptr]
  refine (c22 hS hl a b).use ?_
  refine ⟨⟨?_, ?_⟩, ?_⟩
  · simp [lb, -aLdAgg_ptr]
  · simp [la, -aLdAgg_ptr]
  simp [la, lb, -aLdAgg_ptr]
  refine (c22 hS hl b a).use ?_
  rw [eqv_symm m b a]
  simp [la, lb, -aLdAgg_ptr]
  refine (c22 hS hl a a).use ?_
  rw [eqv_self]
  simp [la, lb, -aLdAgg_ptr]
  obtain ⟨y, l, e, hrun⟩ : ∃ y l e, m.run 400 [(a, b)] = (y, l, e) := ⟨_, _, _, rfl⟩
  rw [hrun]
  refine aCond_of (fun he => by simp) fun he => ?_
  have he0 : e = 0 := by simpa using he
  subst he0
  have hm := run_more m more 400 _ y l hrun
  obtain ⟨g, hg, hg1, hg2, hg3⟩ := run_need m 400 _ y l hrun
  have hgp := hg3 (by simp)
  have hg4 := hg2 (g - 1) (by omega)
  unfold S8_315
  have wm := wrap64 (x := (more : Int)) (by omega) (by omega)
  have wm2 := wrap64 (x := 400 + (more : Int)) (by omega) (by omega)
  have wl := wrap64 (x := 400 - (l : Int)) (by omega) (by omega)
  have wl2 := wrap64 (x := 399 - (l : Int)) (by omega) (by omega)
  have wo := wrap64 (x := (l : Int) + more) (by omega) (by omega)
  simp [la, lb, -aLdAgg_ptr, wm, wm2]
  refine (c21 hS hl a b (fuel := 400 + (more : Int)) (by omega)).use ?_
  rw [show (400 + (more : Int)).toNat = 400 + more by omega, hm]
  unfold S8_314
  simp only [runV]
  simp [la, lb, -aLdAgg_ptr, wl]
  refine (c21 hS hl a b (fuel := 400 - (l : Int)) (by omega)).use ?_
  rw [show (400 - (l : Int)).toNat = g by omega, hg1]
  unfold S8_313
  simp only [runV]
  simp [la, lb, -aLdAgg_ptr, wl2]
  refine (c21 hS hl a b (fuel := 399 - (l : Int)) (by omega)).use ?_
  rw [show (399 - (l : Int)).toNat = g - 1 by omega, hg4]
  unfold S8_312
  simp only [runV]
  have ey : (y == y) = true := by simp
  have wm3 : IntKind.i64.wrap ((l : Int) + more) = ((l + more : Nat) : Int) := by rw [wo]; omega
  simp [la, lb, -aLdAgg_ptr, ey, wm, wm3]
  refine (c22 hS hl a b).use ?_
  cases hq : m.eqv a b with
  | false => simp
  | true =>
    have : y = true := by
      have h2 : m.run 400 [(a, b)] = (true, 399, 0) := by rw [show (400 : Nat) = 399 + 1 from rfl, run_skip hq]; rfl
      rw [hrun] at h2
      exact (Prod.mk.inj h2).1
    subst this
    simp
end Go.Proofs.Ytngldjajfpbmbaa.A

set_option linter.unusedVariables false
set_option linter.unusedSimpArgs false
namespace Go.Proofs.Ytngldjajfpbmbaa.A
open Go Go.Abs

theorem Opens.map {Hd : Type} {enc : TypeId × Value → Hd} {P : Program} {W : World} {t : TypeId} {α β : Type} {en : α → List Value} {en2 : β → List Value} {gd : Nat → AHeap → α → Prop} {gd2 : Nat → AHeap → β → Prop} (f : α → β) (he : ∀ a, en2 (f a) = en a) (hg : ∀ lo H a, gd lo H a → gd2 lo H (f a))
    (h : Opens enc P W t α en gd) : Opens enc P W t β en2 gd2 := by
  intro fuel cs x G φ H hx hr
  obtain ⟨a, φ', H', r1, l1, v1, o1, k1, g1⟩ := h fuel cs x G φ H hx hr
  exact ⟨f a, φ', H', r1, l1, by rw [he]; exact v1, by rw [he]; exact o1, k1, hg _ _ _ g1⟩
section
variable {Hd : Type} {enc : TypeId × Value → Hd} {W : World}
set_option maxRecDepth 100000 in
theorem openV : Opens enc Try.prog W 28 V eV (fun _ _ _ => True) :=
  Opens.map (fun (x : Int × Int × Unit) => ((x.1, x.2.1) : V)) (fun _ => rfl) (fun _ _ _ _ => trivial)
    (Opens.struct Try.underlying28 (by kernel_rfl) (OpensF.cons (Opens.int Try.underlying3) (OpensF.cons (Opens.int Try.underlying3) OpensF.nil GdMono.const) GdMono.const))
theorem openVs : Opens enc Try.prog W 29 (Option Addr × List V) (fun p => [.slice p.1 p.2.length p.2.length]) (fun lo H p => Rd 2 eV lo H p.1 p.2) :=
  Opens.map id (fun _ => rfl) (fun _ _ _ h => h.1) (Opens.slice (n := 2) Try.underlying29 (by kernel_rfl) (by omega) (fun _ => rfl) openV GdMono.const)
theorem monoVs : GdMono (fun lo H (p : Option Addr × List V) => Rd 2 eV lo H p.1 p.2) := fun lo lo' H H' a h hl hk => (h.kept hk).up hl
set_option maxRecDepth 100000 in
theorem openMk : Opens enc Try.prog W 108 MkT encM (fun lo H x => Rd 2 eV lo H x.2.1.1 x.2.1.2) := by
  have h := Opens.struct Try.underlying108 (by kernel_rfl) (OpensF.cons (Opens.int (enc := enc) (W := W) Try.underlying3) (OpensF.cons (openVs (enc := enc) (W := W)) (OpensF.cons (Opens.int Try.underlying3) (OpensF.cons openV OpensF.nil GdMono.const) GdMono.const) monoVs) GdMono.const)
  exact Opens.map (fun (x : Int × (Option Addr × List V) × Int × V × Unit) => ((x.1, x.2.1, x.2.2.1, x.2.2.2.1) : MkT)) (fun _ => rfl) (fun _ _ _ h => h.2.1) h
theorem monoMk : GdMono (fun lo H (x : MkT) => Rd 2 eV lo H x.2.1.1 x.2.1.2) := fun lo lo' H H' a h hl hk => (h.kept hk).up hl
theorem openMks : Opens enc Try.prog W 49 (Option Addr × List MkT) (fun p => [.slice p.1 p.2.length p.2.length]) (fun lo H p => Mks lo H p.1 p.2) := by
  have h := Opens.slice (n := 5) Try.underlying49 (by kernel_rfl) (by omega) (fun _ => rfl) (openMk (enc := enc) (W := W)) monoMk
  exact Opens.map id (fun _ => rfl) (fun _ _ _ h => ⟨h.1, h.2.1⟩) h
end
theorem c8i {H : AHeap} {ms : Option Addr × List MkT} {a0 a1 b0 b1 more : Int} (hM : Mks H.next H ms.1 ms.2) (hm : 0 ≤ more ∧ more < 65536) :
    ACalls Try.prog 8 [.slice ms.1 ms.2.length ms.2.length, .agg #[.int .i64 a0, .int .i64 a1], .agg #[.int .i64 b0, .int .i64 b1], .int .u16 more] H fun r _ => r = .bool true := by
  obtain ⟨n, rfl⟩ := Int.eq_ofNat_of_zero_le hm.1
  exact c8 (Nat.le_refl _) hM (a0, a1) (b0, b1) (by omega)
end Go.Proofs.Ytngldjajfpbmbaa.A
