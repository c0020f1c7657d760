/- Contracts of functions that the statement reaches; each theorem carries its own conditions, the last theorem of the claim has none. -/
import Derived.Test.YtngldjajfpbmbaaS3
set_option linter.unusedVariables false
set_option linter.unusedSimpArgs false
namespace Go.Proofs.Ytngldjajfpbmbaa.A
open Go Go.Abs

theorem good40 : goodCall Try.prog 40 = true := by kernel_rfl
theorem good43 : goodCall Try.prog 43 = true := by kernel_rfl
theorem good46 : goodCall Try.prog 46 = true := by kernel_rfl

theorem c40 {H : AHeap} {p q : Nat} {m : Sm} {F : Nat → Prop} (h : St H p m F) (hq : H.at_ q = .cells [Pt p] .var 22) (hl : q < H.next) (v : V) : ACalls Try.prog 40 [vV v, Pt q] H fun r H' => r = .bool (!m.sound v) ∧ H' = H := by
  refine ACalls.eq (S40_calls ?_) rfl
  unfold S40
  have hne : q ≠ H.next := by omega
  simp [at_alloc, hne, hq]
  refine (c30 (h.alloc _) v).use ?_
  simp [Keep.alloc]

/-- The first that is none. -/
def firstBad (m : Sm) (xs : List V) : Int := match xs.findIdx? (fun v => !m.sound v) with
  | some i => i
  | none => -1
theorem c67 {H : AHeap} {p q : Nat} {m : Sm} {F : Nat → Prop} {lo : Nat} {A : Option Addr} {xs : List V} (h : St H p m F) (hq : H.at_ q = .cells [Pt p] .var 22) (hl : q < H.next) (hA : Rd 2 eV lo H A xs) (hn : xs.length ≤ 140737488355328) (g : FuncId) (hg : goodCall Try.prog g = true)
    (hc : ∀ v, ACalls Try.prog g [vV v, Pt q] H fun r H' => r = .bool (!m.sound v) ∧ H' = H) :
    ACalls Try.prog 67 [.slice A xs.length xs.length, .func (.func g) #[] #[Pt q]] H fun r H' => r = .int .i64 (firstBad m xs) ∧ H' = H := by
  refine ACalls.eq (S67_calls ?_) rfl
  unfold S67
  simp
  refine aLoop_st xs.length (fun i => [.int .i64 i]) (fun i H' => H' = H ∧ ∀ v ∈ xs.take i, m.sound v = true) rfl ⟨rfl, by simp⟩ ?_
  rintro i H' again hi ⟨rfl, hgd⟩ ha
  unfold S67_10
  by_cases h' : i < xs.length
  · have hw := wrap64 (x := (i : Int) + 1) (by omega) (by omega)
    have i1 := hA.idx (k := .i64) (j := (i : Int)) (c := xs.length) (by omega) (by omega)
    simp only [Int.toNat_natCast] at i1
    simp [h', i1, -aLdAgg_ptr, hA.agg h']
    refine ⟨hg, ?_⟩
    refine (hc xs[i]).use ?_
    cases hs : m.sound xs[i] with
    | false =>
      simp
      have : xs.findIdx? (fun v => !m.sound v) = some i := by
        rw [List.findIdx?_eq_some_iff_getElem]
        refine ⟨h', by simp [hs], fun j hj => ?_⟩
        have := hgd (xs[j]'(by omega)) (by rw [List.mem_take_iff_getElem]; exact ⟨j, by omega, rfl⟩)
        simp [this]
      simp [firstBad, this]
    | true =>
      simp [hw]
      refine ha _ h' ⟨rfl, ?_⟩
      rw [List.take_succ_eq_append_getElem h']
      intro v hv
      rcases List.mem_append.1 hv with hv | hv
      · exact hgd v hv
      · simp at hv; subst hv; exact hs
  · have hie : i = xs.length := by omega
    subst hie
    rw [List.take_length] at hgd
    simp
    have : xs.findIdx? (fun v => !m.sound v) = none := by
      rw [List.findIdx?_eq_none_iff]
      intro v hv
      simp [hgd v hv]
    simp [firstBad, this]
theorem c39 {H : AHeap} {p q : Nat} {m : Sm} {F : Nat → Prop} {lo : Nat} {A : Option Addr} {xs : List V} (h : St H p m F) (hq : H.at_ q = .cells [Pt p] .var 22) (hl : q < H.next) (hA : Rd 2 eV lo H A xs) (hn : xs.length ≤ 140737488355328) (g : FuncId) (hg : goodCall Try.prog g = true)
    (hc : ∀ v, ACalls Try.prog g [vV v, Pt q] H fun r H' => r = .bool (!m.sound v) ∧ H' = H) :
    ACalls Try.prog 39 [.slice A xs.length xs.length, .func (.func g) #[] #[Pt q]] H fun r H' => r = .bool (!xs.all m.sound) ∧ H' = H := by
  refine ACalls.eq (S39_calls ?_) rfl
  unfold S39
  refine (c67 h hq hl hA hn g hg hc).use ?_
  simp
  unfold firstBad
  cases hf : xs.findIdx? (fun v => !m.sound v) with
  | none =>
    rw [List.findIdx?_eq_none_iff] at hf
    have : xs.all m.sound = true := by rw [List.all_eq_true]; intro v hv; simpa using hf v hv
    simp at this
    simpa using this
  | some i =>
    rw [List.findIdx?_eq_some_iff_getElem] at hf
    obtain ⟨h1, h2, h3⟩ := hf
    simp at h2
    simp
    exact ⟨_, _, List.getElem_mem h1, h2⟩

/-- Clone. -/
theorem c42 {H : AHeap} {lo : Nat} {A : Option Addr} {xs : List V} (hlo : lo ≤ H.next) (hA : Rd 2 eV lo H A xs) (hn : xs.length ≤ 1048576) (he : xs = [] → A = none) :
    ACalls Try.prog 42 [.slice A xs.length xs.length] H fun r H' => ∃ B, r = .slice B xs.length xs.length ∧ Ow 2 eV 28 H.next H' B xs ∧ Keep H.next H H' := by
  refine S42_calls ?_
  unfold S42
  cases A with
  | none =>
    have : xs = [] := by
      rcases hA.2 with ⟨_, h⟩ | ⟨b, o, cs, k, t, h, _⟩
      · exact h
      · cases h
    subst this
    simp
    exact Ow.nil _ _ _ _ _
  | some a =>
    have hx : xs.length ≠ 0 := by
      intro h
      have := he (List.eq_nil_of_length_eq_zero h)
      cases this
    rw [eqSl _ _ _ hx]
    simp
    have hO : Ow 2 eV 28 H.next (H.alloc (.cells [] (.row 2) 28)) (some ⟨H.next, 0, none⟩) [] := Ow.new H [] (by simp) rfl
    have := hO.append (bytes := 16) (c := 0) (c' := xs.length) (hA.alloc hlo (.cells [] (.row 2) 28)) (by simp) (by simp only [maxLen, List.length_nil]; omega) (by simp only [List.length_nil]; omega) (K := fun t7_3 H_4 => ∃ B, t7_3 = Value.slice B xs.length xs.length ∧ Ow 2 eV 28 H.next H_4 B xs ∧ Keep H.next H H_4) fun H' h1 h2 h3 h4 => by
      refine ⟨_, rfl, by simpa using h1, ?_⟩
      exact ((Keep.refl _ _).alloc (Nat.le_refl _) _).trans h4
    simpa using this

/-- How many cells an object takes. -/
def Ob.cells (o : Ob) : Nat := if o.kind = 10 then 2 else 1 + o.slots.length
theorem c68 {H : AHeap} {q o : Nat} {x : Ob × Option Addr} {cs : List Value} {k : Use} {t : TypeId} (hq : H.at_ q = .cells cs k t) (hc : ∀ j, j < 10 → cs[o + j]? = (encO x)[j]?) :
    ACalls Try.prog 68 [.pointer (some ⟨q, o + 2, none⟩)] H fun r H' => r = .int .i64 1 ∧ H' = H := by
  refine ACalls.eq (S68_calls ?_) rfl
  unfold S68
  have h5 := hc 5 (by omega)
  have h6 := hc 6 (by omega)
  have h8 := hc 8 (by omega)
  have h9 := hc 9 (by omega)
  simp [encO] at h5 h6 h8 h9
  have w1 := wrap64 (x := 1) (by omega) (by omega)
  simp [hq, Nat.add_assoc, h5, h6, h8, h9, w1]
  refine aLoop_st 0 (fun i => [.int .i64 1, .int .i64 0]) (fun i H' => H' = H) (by simp [w1]) rfl ?_
  rintro i H' again hi rfl ha
  unfold S68_33
  simp
theorem c45 {H : AHeap} {q o : Nat} {x : Ob × Option Addr} {cs : List Value} {k : Use} {t : TypeId} (hq : H.at_ q = .cells cs k t) (hc : ∀ j, j < 10 → cs[o + j]? = (encO x)[j]?) (hn : x.1.slots.length ≤ 1048576) :
    ACalls Try.prog 45 [.pointer (some ⟨q, o, none⟩)] H fun r H' => r = .int .i64 x.1.cells ∧ H' = H := by
  refine ACalls.eq (S45_calls ?_) rfl
  unfold S45
  have h0 := hc 0 (by omega)
  have h1 := hc 1 (by omega)
  simp [encO] at h0 h1
  have w1 := wrap64 (x := 2) (by omega) (by omega)
  have w2 := wrap64 (x := 1 + (x.1.slots.length : Int)) (by omega) (by omega)
  by_cases hk : x.1.kind = 10
  · simp [hq, h0, hk]
    refine (c68 hq hc).use ?_
    simp [w1, Ob.cells, hk]
  · simp [hq, h0, h1, hk, w2, Ob.cells]
end Go.Proofs.Ytngldjajfpbmbaa.A
