/- Contracts of functions that the statement reaches; each theorem carries its own conditions, the last theorem of the claim has none. -/
import Derived.Test.YtngldjajfpbmbaaXC
import Derived.Test.YtngldjajfpbmbaaAbsX
import Derived.Test.YtngldjajfpbmbaaAbsOp
set_option linter.unusedVariables false
set_option linter.unusedSimpArgs false
namespace Go.Proofs.Ytngldjajfpbmbaa.A
open Go Go.Abs

/-! What holds of blocks apart from one another. -/
structure Fact where
  S : Nat → Prop
  P : AHeap → Prop
  loc : ∀ H H' : AHeap, H.next ≤ H'.next → (∀ b, S b → H'.at_ b = H.at_ b) → P H → P H'
def Apart (f g : Fact) : Prop := ∀ b, f.S b → ¬ g.S b
structure Wd (H0 H : AHeap) (fs : List Fact) : Prop where
  keep : Keep H0.next H0 H
  ok : ∀ f ∈ fs, f.P H ∧ ∀ b, f.S b → H0.next ≤ b ∧ b < H.next
  apart : fs.Pairwise Apart
theorem Apart.symm {f g : Fact} (h : Apart f g) : Apart g f := fun b hb hf => h b hf hb
theorem Wd.kept {H0 H H' : AHeap} {fs : List Fact} (h : Wd H0 H fs) (k : Keep H.next H H') : Wd H0 H' fs := by
  refine ⟨h.keep.trans (k.lower h.keep.next), fun f hf => ?_, h.apart⟩
  obtain ⟨h1, h2⟩ := h.ok f hf
  exact ⟨f.loc _ _ k.next (fun b hb => k.at_ b (h2 b hb).2) h1, fun b hb => ⟨(h2 b hb).1, Nat.lt_of_lt_of_le (h2 b hb).2 k.next⟩⟩
theorem Wd.addL {H0 H H' : AHeap} {fs gs : List Fact} (h : Wd H0 H fs) (k : Keep H.next H H') (hg : ∀ g ∈ gs, g.P H' ∧ ∀ b, g.S b → H.next ≤ b ∧ b < H'.next) (ha : gs.Pairwise Apart) : Wd H0 H' (gs ++ fs) := by
  have h' := h.kept k
  have hn := h.keep.next
  refine ⟨h'.keep, fun f hf => ?_, List.pairwise_append.2 ⟨ha, h.apart, fun g hg' f hf b hb hfb => ?_⟩⟩
  · rcases List.mem_append.1 hf with hf | hf
    · exact ⟨(hg f hf).1, fun b hb => ⟨by have := ((hg f hf).2 b hb).1; omega, ((hg f hf).2 b hb).2⟩⟩
    · exact h'.ok f hf
  · have := ((hg g hg').2 b hb).1
    have := ((h.ok f hf).2 b hfb).2
    omega
theorem Wd.add {H0 H H' : AHeap} {fs : List Fact} {g : Fact} (h : Wd H0 H fs) (k : Keep H.next H H') (hp : g.P H') (hs : ∀ b, g.S b → H.next ≤ b ∧ b < H'.next) : Wd H0 H' (g :: fs) :=
  h.addL (gs := [g]) k (fun f hf => by rw [List.mem_singleton] at hf; subst hf; exact ⟨hp, hs⟩) (List.pairwise_singleton _ _)
theorem Wd.step {H0 H H' : AHeap} {fs : List Fact} {f f' : Fact} (h : Wd H0 H (f :: fs)) (k : Fr f.S H f'.S H') (hp : f'.P H') (hl : ∀ b, f'.S b → b < H'.next) : Wd H0 H' (f' :: fs) := by
  obtain ⟨h1, h2⟩ := h.ok f (List.mem_cons_self ..)
  have hap := List.pairwise_cons.1 h.apart
  have hn := h.keep.next
  refine ⟨⟨Nat.le_trans h.keep.next k.next, fun b hb => ?_⟩, fun g hg => ?_, List.pairwise_cons.2 ⟨fun g hg b hb hgb => ?_, hap.2⟩⟩
  · rw [k.at_ b (by omega) fun hf => by have := (h2 b hf).1; omega]
    exact h.keep.at_ b hb
  · rcases List.mem_cons.1 hg with rfl | hg
    · refine ⟨hp, fun b hb => ⟨?_, hl b hb⟩⟩
      rcases k.new b hb with hb | hb
      · exact (h2 b hb).1
      · omega
    · obtain ⟨g1, g2⟩ := h.ok g (List.mem_cons_of_mem _ hg)
      exact ⟨g.loc _ _ k.next (fun b hb => k.at_ b (g2 b hb).2 fun hf => hap.1 g hg b hf hb) g1, fun b hb => ⟨(g2 b hb).1, Nat.lt_of_lt_of_le (g2 b hb).2 k.next⟩⟩
  · obtain ⟨g1, g2⟩ := h.ok g (List.mem_cons_of_mem _ hg)
    rcases k.new b hb with hb | hb
    · exact hap.1 g hg b hb hgb
    · have := (g2 b hgb).2; omega
theorem perm_pull {α : Type} : ∀ (fs : List α) (i : Nat) (hi : i < fs.length), (fs[i] :: fs.eraseIdx i).Perm fs
  | [], i, hi => by simp at hi
  | f :: fs, 0, _ => by simp
  | f :: fs, i + 1, hi => by
    have := perm_pull fs i (by simpa using hi)
    exact (List.Perm.swap f _ _).trans (this.cons f)
/-- A fact brought to the front. -/
theorem Wd.pull {H0 H : AHeap} {fs : List Fact} (h : Wd H0 H fs) (i : Nat) (hi : i < fs.length) : Wd H0 H (fs[i] :: fs.eraseIdx i) := by
  have hp : (fs[i] :: fs.eraseIdx i).Perm fs := perm_pull fs i hi
  exact ⟨h.keep, fun f hf => h.ok f (hp.mem_iff.1 hf), (hp.pairwise_iff fun h => Apart.symm h).2 h.apart⟩
theorem Wd.tail {H0 H : AHeap} {fs : List Fact} {f : Fact} (h : Wd H0 H (f :: fs)) : Wd H0 H fs := ⟨h.keep, fun g hg => h.ok g (List.mem_cons_of_mem _ hg), (List.pairwise_cons.1 h.apart).2⟩
theorem Wd.get {H0 H : AHeap} {fs : List Fact} {f : Fact} (h : Wd H0 H fs) (hf : f ∈ fs) : f.P H := (h.ok f hf).1

/-- A variable. -/
def LvF (t : Nat) (x : Blk) : Fact := ⟨fun b => b = t, fun H => H.at_ t = x, fun H H' _ hk h => by rw [hk t rfl]; exact h⟩
def RowF {α : Type} (n : Nat) (enc : α → List Value) (e : TypeId) (A : Option Addr) (xs : List α) : Fact := ⟨fun b => ∃ a, A = some a ∧ a.block = b, fun H => Ow n enc e 0 H A xs, fun H H' hn hk h => h.at hn fun a ha => hk _ ⟨a, ha, rfl⟩⟩
def StF (p : Nat) (m : Sm) (F : Nat → Prop) : Fact := ⟨F, fun H => St H p m F, fun H H' hn hk h => h.frame hn hk⟩
def ExF (e : Ext) (d : ExD) : Fact := ⟨fun b => ∃ a, (e.limbs.1 = some a ∨ e.lst = some a ∨ e.marks.1 = some a ∨ e.subs.1 = some a) ∧ a.block = b, fun H => ExO 0 H e d, fun H H' hn hk h => h.at hn fun a ha => hk _ ⟨a, ha, rfl⟩⟩
theorem Wd.upd {H0 H : AHeap} {fs : List Fact} {t : Nat} {x : Blk} (h : Wd H0 H (LvF t x :: fs)) (y : Blk) : Wd H0 (H.upd t y) (LvF t y :: fs) := by
  obtain ⟨_, h2⟩ := h.ok _ (List.mem_cons_self ..)
  refine h.step (f' := LvF t y) ⟨Nat.le_refl _, fun b hb hf => AHeap.at_upd_ne _ _ hf, fun b hb => .inl hb⟩ (AHeap.at_upd_same _ _ _) fun b hb => (h2 b hb).2
theorem Wd.alloc {H0 H : AHeap} {fs : List Fact} (h : Wd H0 H fs) (x : Blk) : Wd H0 (H.alloc x) (LvF H.next x :: fs) :=
  h.add ((Keep.refl _ _).alloc (Nat.le_refl _) x) (AHeap.at_alloc_new _ _) fun b hb => by
    have hb : b = H.next := hb
    subst hb
    exact ⟨Nat.le_refl _, by simp⟩
theorem ldV {H : AHeap} {t : Nat} {v : V} (h : H.at_ t = .cells (eV v) .var 28) : aLdAgg 2 (Pt t) H = some (vV v) := by simp [h]
theorem stV {H : AHeap} {t : Nat} {u v : V} (h : H.at_ t = .cells (eV u) .var 28) : aSt 2 (Pt t) (vV v) H = some (H.upd t (.cells (eV v) .var 28)) := by simp [h]
theorem x0 (a b : Value) : aExtract (.tuple #[a, b]) 0 = some a := rfl
theorem x1 (a b : Value) : aExtract (.tuple #[a, b]) 1 = some b := rfl
/-- A variable that is set at once. -/
theorem Wd.var {H0 H : AHeap} {fs : List Fact} (h : Wd H0 H fs) (v : V) : aSt 2 (Pt H.next) (vV v) (H.alloc (.cells [.int .i64 0, .int .i64 0] .var 28)) = some ((H.alloc (.cells [.int .i64 0, .int .i64 0] .var 28)).upd H.next (.cells (eV v) .var 28)) ∧
    Wd H0 ((H.alloc (.cells [.int .i64 0, .int .i64 0] .var 28)).upd H.next (.cells (eV v) .var 28)) (LvF H.next (.cells (eV v) .var 28) :: fs) := ⟨stV (u := (0, 0)) (by simp), (h.alloc _).upd _⟩

/-! A nil store. -/
section
variable {H : AHeap}
theorem hk1 (x : Blk) : Keep H.next H (H.alloc x) := (Keep.refl _ _).alloc (Nat.le_refl _) _
theorem hk2 (x y : Blk) : Keep H.next H ((H.alloc x).alloc y) := ((Keep.refl _ _).alloc (Nat.le_refl _) _).alloc (by simp) _
theorem c62nil (v : V) : ACalls Try.prog 62 [.pointer none, vV v] H fun r H' => r = .pointer none ∧ H' = H := by
  refine ACalls.eq (S62_calls ?_) rfl
  unfold S62
  simp [hk1]
theorem c47nil (v : V) (i : Int) : ACalls Try.prog 47 [.pointer none, vV v, .int .i64 i] H fun r H' => r = .tuple #[.pointer none, .int .i64 1] ∧ H' = H := by
  refine ACalls.eq' (S47_calls ?_) (vin_two (.plain rfl) (.plain rfl))
  unfold S47
  simp
  refine (c62nil v).use ?_
  simp [hk1]
theorem c15nil : ACalls Try.prog 15 [.pointer none, .int .i64 2, .slice none 0 0] H fun r H' => r = .tuple #[vV (0, 0), .int .i64 1] ∧ H' = H := by
  refine ACalls.eq' (S15_calls ?_) (vin_two (vin_agg2 (.plain rfl) (.plain rfl)) (.plain rfl))
  unfold S15
  simp [at_alloc]
  exact (hk2 _ _).upd (by omega) _
theorem c16nil : ACalls Try.prog 16 [.pointer none, .slice none 0 0] H fun r H' => r = .tuple #[.slice none 0 0, .int .i64 1] ∧ H' = H := by
  refine ACalls.eq' (S16_calls ?_) (vin_two (.plain rfl) (.plain rfl))
  unfold S16
  simp [hk1]
theorem c17nil : ACalls Try.prog 17 [.pointer none] H fun r H' => r = .int .i64 0 ∧ H' = H := by
  refine ACalls.eq (S17_calls ?_) rfl
  unfold S17
  simp
theorem c18nil (v : V) (i : Int) : ACalls Try.prog 18 [.pointer none, vV v, .int .i64 i] H fun r H' => r = .tuple #[vV (0, 0), .int .i64 1] ∧ H' = H := by
  refine ACalls.eq' (S18_calls ?_) (vin_two (vin_agg2 (.plain rfl) (.plain rfl)) (.plain rfl))
  unfold S18
  simp [at_alloc]
  refine (c47nil v i).use ?_
  unfold S18_17
  simp [at_alloc]
  exact (hk2 _ _).upd (by omega) _
theorem c19nil (v x : V) (i : Int) : ACalls Try.prog 19 [.pointer none, vV v, .int .i64 i, vV x] H fun r H' => r = .int .i64 1 ∧ H' = H := by
  refine ACalls.eq (S19_calls ?_) rfl
  unfold S19
  simp [at_alloc]
  refine (c47nil v i).use ?_
  simp [hk2]
theorem c23nil (s : ByteArray) : ACalls Try.prog 23 [.pointer none, .string s] H fun r H' => r = .tuple #[vV (0, 0), .int .i64 1] ∧ H' = H := by
  refine ACalls.eq' (S23_calls ?_) (vin_two (vin_agg2 (.plain rfl) (.plain rfl)) (.plain rfl))
  unfold S23
  simp
  exact (hk1 _).upd (Nat.le_refl _) _
theorem c34nil : ACalls Try.prog 34 [.pointer none, .agg (eY 0 ⟨#[]⟩ Ext.nil).toArray] H fun r H' => r = .tuple #[vV (0, 0), .int .i64 1] ∧ H' = H := by
  refine ACalls.eq' (S34_calls ?_) (vin_two (vin_agg2 (.plain rfl) (.plain rfl)) (.plain rfl))
  unfold S34
  simp [Ext.nil, at_alloc]
  exact (hk2 _ _).upd (by omega) _
theorem c36nil (v : V) : ACalls Try.prog 36 [.pointer none, vV v] H fun r H' => r = .int .i64 0 ∧ H' = H := by
  refine ACalls.eq (S36_calls ?_) rfl
  unfold S36
  simp
  refine (c62nil v).use ?_
  simp [hk1]
theorem c37nil (v : V) : ACalls Try.prog 37 [.pointer none, vV v] H fun r H' => r = .int .i64 0 ∧ H' = H := by
  refine ACalls.eq (S37_calls ?_) rfl
  unfold S37
  simp
  refine (c62nil v).use ?_
  simp [hk1]
theorem c32nil : ACalls Try.prog 32 [.pointer none] H fun r H' => r = .pointer none ∧ H' = H := by
  refine ACalls.eq (S32_calls ?_) rfl
  unfold S32
  simp
end
end Go.Proofs.Ytngldjajfpbmbaa.A

set_option linter.unusedVariables false
set_option linter.unusedSimpArgs false
namespace Go.Proofs.Ytngldjajfpbmbaa.A
open Go Go.Abs

/-- A store and the rows of the piece of syntax in it. -/
def SeF (p : Nat) (m : Sm) (F : Nat → Prop) (e : Ext) (d : ExD) : Fact := ⟨fun b => F b ∨ ∃ a, (e.limbs.1 = some a ∨ e.lst = some a ∨ e.marks.1 = some a ∨ e.subs.1 = some a) ∧ a.block = b, fun H => St H p m F ∧ ExO 0 H e d ∧ Out F e,
  fun H H' hn hk h => ⟨h.1.frame hn fun b hb => hk b (.inl hb), h.2.1.at hn fun a ha => hk _ (.inr ⟨a, ha, rfl⟩), h.2.2⟩⟩
section
variable {H0 H H' : AHeap} {fs : List Fact}
theorem Wd.head {f : Fact} (h : Wd H0 H (f :: fs)) : f.P H := h.get (List.mem_cons_self ..)
theorem Wd.weak {f f' : Fact} (h : Wd H0 H (f :: fs)) (hp : f'.P H) (hs : ∀ b, f'.S b → f.S b) : Wd H0 H (f' :: fs) := by
  refine ⟨h.keep, fun g hg => ?_, List.pairwise_cons.2 ⟨fun g hg b hb hgb => (List.pairwise_cons.1 h.apart).1 g hg b (hs b hb) hgb, (List.pairwise_cons.1 h.apart).2⟩⟩
  rcases List.mem_cons.1 hg with rfl | hg
  · exact ⟨hp, fun b hb => (h.ok f (List.mem_cons_self ..)).2 b (hs b hb)⟩
  · exact h.ok g (List.mem_cons_of_mem _ hg)
theorem Wd.se {p : Nat} {m m' : Sm} {F F' : Nat → Prop} {e : Ext} {d : ExD} (h : Wd H0 H (SeF p m F e d :: fs)) (hS : St H' p m' F') (k : Fr F H F' H') : Wd H0 H' (SeF p m' F' e d :: fs) := by
  obtain ⟨⟨_, h2, h3⟩, h4⟩ := h.ok _ (List.mem_cons_self ..)
  obtain ⟨g1, g2⟩ := h2.fr h3 k
  refine h.step (f' := SeF p m' F' e d) ⟨k.next, fun b hb hf => k.at_ b hb fun hF => hf (.inl hF), fun b hb => ?_⟩ ⟨hS, g1, g2⟩ fun b hb => ?_
  · rcases hb with hb | hb
    · exact (k.new b hb).imp .inl id
    · exact .inl (.inr hb)
  · rcases hb with hb | ⟨a, ha, rfl⟩
    · exact hS.lt b hb
    · exact (g1.blk ha).2
theorem Wd.addEx {e : Ext} {d : ExD} (h : Wd H0 H fs) (k : Keep H.next H H') (hO : ExO H.next H' e d) : Wd H0 H' (ExF e d :: fs) :=
  h.add k (hO.lower (Nat.zero_le _)) fun b hb => by
    obtain ⟨a, ha, rfl⟩ := hb
    exact hO.blk ha
/-- append, to a row of nothing. -/
theorem appK {α : Type} {n bytes : Nat} {enc : α → List Value} {e : TypeId} {lo : Nat} {A : Option Addr} {xs : List α} {K : Value → AHeap → Prop} (hlo : lo ≤ H.next) (hA : Rd n enc lo H A xs) (hn : xs.length ≤ 2097152) (hb : bytes ≤ 1024)
    (hK : ∀ B H', Ow n enc e H.next H' B xs → Keep H.next H H' → K (.slice B xs.length xs.length) H') : aAppend n bytes e (.slice (some ⟨H.next, 0, none⟩) 0 0) (.slice A xs.length xs.length) (H.alloc (.cells [] (.row n) e)) K := by
  have hsz : xs.length * bytes ≤ 2097152 * 1024 := Nat.mul_le_mul hn hb
  have hO : Ow n enc e H.next (H.alloc (.cells [] (.row n) e)) (some ⟨H.next, 0, none⟩) [] := Ow.new H [] (by simp) rfl
  have := hO.append (bytes := bytes) (c := 0) (c' := xs.length) (K := K) (hA.alloc hlo (.cells [] (.row n) e)) (by simp) (by simp only [maxLen, List.length_nil]; omega) (by simp only [List.length_nil, Nat.zero_add]; omega) fun H' h1 h2 h3 h4 => by
    simp at h1
    have := hK _ H' h1 (((Keep.refl _ _).alloc (Nat.le_refl _) _).trans h4)
    simpa using this
  simpa using this
/-- A row's cell, set. -/
theorem Wd.row {A : Option Addr} {xs : List Int} (h : Wd H0 H (RowF 1 eI 3 A xs :: fs)) {i : Nat} (hi : i < xs.length) (x : Int) : ∃ H', aSt 1 (slot 1 A i) (.int .i64 x) H = some H' ∧ Wd H0 H' (RowF 1 eI 3 A (xs.set i x) :: fs) := by
  have hO : Ow 1 eI 3 0 H A xs := h.head
  obtain ⟨b, hb, _, hbl, y, hst, hO2, _⟩ := hO.st (j := i) (k := 0) (l := 1) (off := i) (v := .int .i64 x) (y := x) hi (by omega) (by simp) (by simp) (by omega) (by simp)
  refine ⟨H.upd b y, by rw [hb]; simpa [slot] using hst, h.step (f' := RowF 1 eI 3 A (xs.set i x)) ⟨Nat.le_refl _, fun c hc hf => AHeap.at_upd_ne _ _ ?_, fun c hc => .inl hc⟩ hO2 fun c hc => ?_⟩
  · rintro rfl
    exact hf ⟨_, hb, rfl⟩
  · obtain ⟨a, ha, rfl⟩ := hc
    exact (hO2.blkOf ha).2.2.1
end

/-- A piece of syntax that is handed in: its list may be any. -/
abbrev eZ (k : Int) (s : ByteArray) (e : Ext) (ln : Nat) : List Value := [.int .i64 k, .string s, .bool e.neg, .slice e.limbs.1 e.limbs.2 e.limbs.2, .slice e.lst ln ln, .int .i64 e.pos, .slice e.marks.1 e.marks.2 e.marks.2, .slice e.subs.1 e.subs.2 e.subs.2]

/-- The last of it. -/
theorem l12_501 {H0 H : AHeap} {n : Int} {t3 t8 t16 t20 : Nat} {v : V} {k k2 : Int} {s s2 : ByteArray} {e e2 : Ext} (h3 : H.at_ t3 = .cells (eY k s e) .var 79) (h8 : H.at_ t8 = .cells (eV v) .var 28) (h16 : H.at_ t16 = .cells (eV (4, n)) .var 28) (h20 : H.at_ t20 = .cells (eY k2 s2 e2) .var 79) (hm : e2.marks.2 = e.marks.2)
    (b3 : t3 < H.next) (b8 : t8 < H.next) (b16 : t16 < H.next) (b20 : t20 < H.next) :
    S12_501 (.int .i64 n) (fun r _ => r = .bool true) (Pt t3) (Pt t8) (Pt t16) (.int .i64 10) (.int .i64 0) (Pt t20) (.int .i64 1) (.int .i64 1) (.int .i64 1) (.int .i64 1) (.tuple #[vV (0, 0), .int .i64 1]) H := by
  unfold S12_501
  obtain ⟨K, hK⟩ : ∃ X, X = (H.alloc (.cells [.int .i64 0, .int .i64 0] .var 28)).upd H.next (.cells (eV (0, 0)) .var 28) := ⟨_, rfl⟩
  have st : aSt 2 (Pt H.next) (vV (0, 0)) (H.alloc (.cells [.int .i64 0, .int .i64 0] .var 28)) = some K := by rw [hK]; exact stV (u := (0, 0)) (by simp)
  have hk : Keep H.next H K := hK ▸ ((Keep.refl _ _).alloc (Nat.le_refl _) _).upd (Nat.le_refl _) _
  clear hK
  simp only [x0, x1, bnd_some', aAlloc_eq]
  rw [st]
  have l16 : aLdCell (.pointer (some ⟨t16, 1, none⟩)) K = some (.int .i64 n) := by rw [aLdCell_ptr, hk.at_ _ b16, h16]; rfl
  have l20 : aLdCell (.pointer (some ⟨t20, 6, none⟩)) K = some (.slice e2.marks.1 e2.marks.2 e2.marks.2) := by rw [aLdCell_ptr, hk.at_ _ b20, h20]; rfl
  have l3 : aLdCell (.pointer (some ⟨t3, 6, none⟩)) K = some (.slice e.marks.1 e.marks.2 e.marks.2) := by rw [aLdCell_ptr, hk.at_ _ b3, h3]; rfl
  have l8 : aLdAgg 2 (Pt t8) K = some (vV v) := ldV (by rw [hk.at_ _ b8]; exact h8)
  simp only [bnd_some', aAdd_ptr, Nat.zero_add, l16, aBin_eql, decide_true, aGuardK_tt, aPick_tt, l20, l3, aLenSl_slice, hm, l8]
  refine (c19nil v v 0).use ?_
  simp only [bnd_some', aBin_eql, decide_true, aGuardK_tt, aPick_tt, l8]
  refine c17nil.use ?_
  simp only [bnd_some', aBin_eql, decide_true, aGuardK_tt, aPick_tt, l8]
  refine (c36nil v).use ?_
  simp only [bnd_some', aBin_eql, decide_true, aGuardK_tt, aPick_tt, l8]
  refine (c37nil v).use ?_
  simp only [bnd_some', aBin_eql, decide_true, aGuardK_tt, aPick_tt, l8]
  refine c32nil.use ?_
  simp only [bnd_some', eqNil, aGuardK_tt, aPick_tt]

theorem Wd.var' {H0 H : AHeap} {fs : List Fact} (h : Wd H0 H fs) (v : V) : ∃ K, aSt 2 (Pt H.next) (vV v) (H.alloc (.cells [.int .i64 0, .int .i64 0] .var 28)) = some K ∧ Wd H0 K (LvF H.next (.cells (eV v) .var 28) :: fs) := ⟨_, (h.var v).1, (h.var v).2⟩
theorem Wd.lv {H0 H : AHeap} {fs : List Fact} {t : Nat} {x : Blk} (h : Wd H0 H fs) (hf : LvF t x ∈ fs) : H.at_ t = x ∧ t < H.next := by
  obtain ⟨k1, k2⟩ := h.ok _ hf
  exact ⟨k1, (k2 t rfl).2⟩
theorem l12_504 {H0 H : AHeap} {n : Int} {t3 t8 t16 t20 : Nat} {v : V} {k k2 : Int} {s s2 : ByteArray} {e e2 : Ext} (h : Wd H0 H [LvF t3 (.cells (eY k s e) .var 79), LvF t8 (.cells (eV v) .var 28), LvF t16 (.cells (eV (4, n)) .var 28), LvF t20 (.cells (eY k2 s2 e2) .var 79)]) (hm : e2.marks.2 = e.marks.2) :
    S12_504 (.int .i64 n) (fun r _ => r = .bool true) (Pt t3) (Pt t8) (Pt t16) (.int .i64 10) (.int .i64 0) (Pt t20) H := by
  unfold S12_504
  refine c15nil.use ?_
  obtain ⟨K1, w1, g1⟩ := h.var' (0, 0)
  simp only [x0, x1, bnd_some', aAlloc_eq, w1]
  refine (c23nil _).use ?_
  unfold S12_503
  obtain ⟨K2, w2, g2⟩ := g1.var' (0, 0)
  simp only [x0, x1, bnd_some', aAlloc_eq, w2]
  refine c16nil.use ?_
  have a8 : K2.at_ t8 = .cells (eV v) .var 28 := (g2.lv (by simp)).1
  simp only [x0, x1, bnd_some', ldV a8]
  refine (c18nil v 0).use ?_
  unfold S12_502
  obtain ⟨K3, w3, g3⟩ := g2.var' (0, 0)
  have fx : aFill [(.int .i64 0), (.string ⟨#[]⟩), (.bool false), (.slice none 0 0), (.slice none 0 0), (.int .i64 0), (.slice none 0 0), (.slice none 0 0)] [] = some (eY 0 ⟨#[]⟩ Ext.nil) := rfl
  simp only [x0, x1, bnd_some', aAlloc_eq, w3, fx]
  refine c34nil.use ?_
  have q3 := g3.lv (t := t3) (x := .cells (eY k s e) .var 79) (by simp)
  have q8 := g3.lv (t := t8) (x := .cells (eV v) .var 28) (by simp)
  have q16 := g3.lv (t := t16) (x := .cells (eV (4, n)) .var 28) (by simp)
  have q20 := g3.lv (t := t20) (x := .cells (eY k2 s2 e2) .var 79) (by simp)
  exact l12_501 (H0 := H0) q3.1 q8.1 q16.1 q20.1 hm q3.2 q8.2 q16.2 q20.2
end Go.Proofs.Ytngldjajfpbmbaa.A

set_option linter.unusedVariables false
set_option linter.unusedSimpArgs false
namespace Go.Proofs.Ytngldjajfpbmbaa.A
open Go Go.Abs

theorem Wd.sub {H0 H : AHeap} {fs gs : List Fact} (h : Wd H0 H fs) (hs : gs.Sublist fs) : Wd H0 H gs := ⟨h.keep, fun f hf => h.ok f (hs.subset hf), h.apart.sublist hs⟩
theorem Wd.rdLo {α : Type} {n lo : Nat} {enc : α → List Value} {H0 H : AHeap} {fs : List Fact} {A : Option Addr} {xs : List α} (h : Wd H0 H fs) (hlo : lo ≤ H0.next) (hR : Rd n enc lo H0 A xs) : Rd n enc lo H A xs := hR.kept (h.keep.lower hlo)

theorem stY {H : AHeap} {t : Nat} {k k2 : Int} {s s2 : ByteArray} {e e2 : Ext} (h : H.at_ t = .cells (eY k s e) .var 79) : aSt 8 (Pt t) (.agg (eY k2 s2 e2).toArray) H = some (H.upd t (.cells (eY k2 s2 e2) .var 79)) := by simp [h]
theorem zY : ([(.int .i64 0), (.string ⟨#[]⟩), (.bool false), (.slice none 0 0), (.slice none 0 0), (.int .i64 0), (.slice none 0 0), (.slice none 0 0)] : List Value) = eY 0 ⟨#[]⟩ Ext.nil := rfl
theorem Wd.varY {H0 H : AHeap} {fs : List Fact} (h : Wd H0 H fs) (k : Int) (s : ByteArray) (e : Ext) : aSt 8 (Pt H.next) (.agg (eY k s e).toArray) (H.alloc (.cells [(.int .i64 0), (.string ⟨#[]⟩), (.bool false), (.slice none 0 0), (.slice none 0 0), (.int .i64 0), (.slice none 0 0), (.slice none 0 0)] .var 79)) = some ((H.alloc (.cells [(.int .i64 0), (.string ⟨#[]⟩), (.bool false), (.slice none 0 0), (.slice none 0 0), (.int .i64 0), (.slice none 0 0), (.slice none 0 0)] .var 79)).upd H.next (.cells (eY k s e) .var 79)) ∧
    Wd H0 ((H.alloc (.cells [(.int .i64 0), (.string ⟨#[]⟩), (.bool false), (.slice none 0 0), (.slice none 0 0), (.int .i64 0), (.slice none 0 0), (.slice none 0 0)] .var 79)).upd H.next (.cells (eY k s e) .var 79)) (LvF H.next (.cells (eY k s e) .var 79) :: fs) := ⟨stY (k := 0) (s := ⟨#[]⟩) (e := Ext.nil) (by simp [zY]), (h.alloc _).upd _⟩

section
variable {H0 H : AHeap} {lo : Nat} {n : Int} {t3 t8 t16 t20 t12 q : Nat} {v w : V} {k k2 k4 : Int} {s s2 s4 : ByteArray} {e e2 e4 : Ext} {d : ExD}
theorem l12_506 (hlo : lo ≤ H0.next) (hE : Rd 1 eI lo H0 e.marks.1 d.marks) (hlm : e.marks.2 = d.marks.length) (h2 : e2.marks.2 = d.marks.length) (hd : d.marks.length ≤ 20)
    (h : Wd H0 H [ExF e4 d, LvF t3 (.cells (eY k s e) .var 79), LvF t8 (.cells (eV v) .var 28), LvF t16 (.cells (eV (4, n)) .var 28), LvF t20 (.cells (eY k2 s2 e2) .var 79)]) :
    S12_506 (.int .i64 n) (fun r _ => r = .bool true) (Pt t3) (Pt t8) (Pt t16) (.int .i64 10) (.int .i64 0) (Pt t20) (.tuple #[.agg (eY k4 s4 e4).toArray, .int .i64 0]) H := by
  unfold S12_506
  obtain ⟨w1, g1⟩ := h.varY k4 s4 e4
  simp only [x0, x1, bnd_some', aAlloc_eq]
  rw [w1]
  simp only [bnd_some']
  obtain ⟨K, hK⟩ : ∃ X, X = (H.alloc (.cells [(.int .i64 0), (.string ⟨#[]⟩), (.bool false), (.slice none 0 0), (.slice none 0 0), (.int .i64 0), (.slice none 0 0), (.slice none 0 0)] .var 79)).upd H.next (.cells (eY k4 s4 e4) .var 79) := ⟨_, rfl⟩
  rw [← hK] at g1 ⊢
  clear hK w1
  have hex : ExO 0 K e4 d := g1.get (f := ExF e4 d) (by simp)
  have h23 : K.at_ H.next = .cells (eY k4 s4 e4) .var 79 := g1.get (f := LvF H.next _) (by simp)
  have h3 : K.at_ t3 = .cells (eY k s e) .var 79 := g1.get (f := LvF t3 _) (by simp)
  have hR := g1.rdLo hlo hE
  have l23 : aLdCell (.pointer (some ⟨H.next, 6, none⟩)) K = some (.slice e4.marks.1 d.marks.length d.marks.length) := by rw [aLdCell_ptr, h23, ← hex.lm]; rfl
  have l3 : aLdCell (.pointer (some ⟨t3, 6, none⟩)) K = some (.slice e.marks.1 d.marks.length d.marks.length) := by rw [aLdCell_ptr, h3, ← hlm]; rfl
  refine aLoop_st d.marks.length (fun i => [.int .i64 i]) (fun i H' => H' = K) rfl rfl ?_
  rintro i H' again hi rfl ha
  unfold S12_505
  simp only [aAdd_ptr, bnd_some', Nat.zero_add, l23, aLenSl_slice, nth_zero, aBin_lss]
  by_cases hlt : i < d.marks.length
  · have hlt' : (i : Int) < d.marks.length := by omega
    have w1 := wrap64 (x := (i : Int) + 1) (by omega) (by omega)
    have i1 := hex.marks.rd.idx (k := .i64) (j := (i : Int)) (c := d.marks.length) (by omega) (by omega)
    have i2 := hR.idx (k := .i64) (j := (i : Int)) (c := d.marks.length) (by omega) (by omega)
    rw [Int.toNat_natCast] at i1 i2
    have l1 := hex.marks.rd.ld (enc := Value.int .i64) hlt
    have l2 := hR.ld (enc := Value.int .i64) hlt
    simp only [decide_eq_true hlt', aCond_true]
    unfold S12_233
    simp only [aAdd_ptr, bnd_some', Nat.zero_add, l23, l3, nth_zero, i1, i2, l1, l2, aBin_neq, decide_true, Bool.not_true, aCond_false, aBin_add, w1]
    exact ha _ hlt rfl
  · have hlt' : ¬ (i : Int) < d.marks.length := by omega
    simp only [decide_eq_false hlt', aCond_false]
    exact l12_504 (g1.sub (.cons _ (.cons _ (List.Sublist.refl _)))) (by rw [h2, hlm])

theorem l12_508 {m : Sm} {F : Nat → Prop} {ob : Ob} (hlo : lo ≤ H0.next) (hE : Rd 1 eI lo H0 e.marks.1 d.marks) (hlm : e.marks.2 = d.marks.length) (hd : d.marks.length ≤ 20) (hdn : d.limbs.length + d.marks.length + d.subs.length ≤ 60)
    (hr : okRef m w = true) (hk : (m.ob w).kind = 10) (hob : m.ob w = ob) (e3 : Ext)
    (h : Wd H0 H [ExF e3 d, SeF q m F ob.ex d, LvF t12 (.cells (eV w) .var 28), LvF t3 (.cells (eY k s e) .var 79), LvF t8 (.cells (eV v) .var 28), LvF t16 (.cells (eV (4, n)) .var 28)]) :
    S12_508 (.int .i64 n) (fun r _ => r = .bool true) (Pt t3) (Pt t8) (Pt t12) (Pt q) (Pt t16) (.int .i64 10) (.tuple #[.agg (eY k4 s4 e3).toArray, .int .i64 0]) H := by
  unfold S12_508
  obtain ⟨w1, g1⟩ := h.varY k4 s4 e3
  simp only [x0, x1, bnd_some', aAlloc_eq]
  rw [w1]
  simp only [bnd_some']
  obtain ⟨K, hK⟩ : ∃ X, X = (H.alloc (.cells [(.int .i64 0), (.string ⟨#[]⟩), (.bool false), (.slice none 0 0), (.slice none 0 0), (.int .i64 0), (.slice none 0 0), (.slice none 0 0)] .var 79)).upd H.next (.cells (eY k4 s4 e3) .var 79) := ⟨_, rfl⟩
  rw [← hK] at g1 ⊢
  clear hK w1
  obtain ⟨t20, ht20⟩ : ∃ t, t = H.next := ⟨_, rfl⟩
  rw [← ht20] at g1 ⊢
  have hex : ExO 0 K e3 d := g1.get (f := ExF e3 d) (by simp)
  have g2 : Wd H0 K [ExF e3 d, LvF t20 (.cells (eY k4 s4 e3) .var 79), SeF q m F ob.ex d, LvF t12 (.cells (eV w) .var 28), LvF t3 (.cells (eY k s e) .var 79), LvF t8 (.cells (eV v) .var 28), LvF t16 (.cells (eV (4, n)) .var 28)] := g1.pull 1 (by simp)
  have g3 : Wd H0 K [RowF 1 eI 3 e3.marks.1 d.marks, LvF t20 (.cells (eY k4 s4 e3) .var 79), SeF q m F ob.ex d, LvF t12 (.cells (eV w) .var 28), LvF t3 (.cells (eY k s e) .var 79), LvF t8 (.cells (eV v) .var 28), LvF t16 (.cells (eV (4, n)) .var 28)] :=
    g2.weak (f' := RowF 1 eI 3 e3.marks.1 d.marks) hex.marks fun b hb => by
      obtain ⟨a, ha, rfl⟩ := hb
      exact ⟨a, .inr (.inr (.inl ha)), rfl⟩
  have lme := hex.lm
  clear g1 g2 hex
  refine aLoop_vs d.marks.length (fun i vs H' => vs = [.int .i64 i] ∧ ∃ xs : List Int, xs.length = d.marks.length ∧ (∀ j, i ≤ j → xs[j]? = d.marks[j]?) ∧ Wd H0 H' [RowF 1 eI 3 e3.marks.1 xs, LvF t20 (.cells (eY k4 s4 e3) .var 79), SeF q m F ob.ex d, LvF t12 (.cells (eV w) .var 28), LvF t3 (.cells (eY k s e) .var 79), LvF t8 (.cells (eV v) .var 28), LvF t16 (.cells (eV (4, n)) .var 28)]) ⟨rfl, d.marks, rfl, fun _ _ => rfl, g3⟩ ?_
  clear g3 h
  rintro i vs H' again hi ⟨rfl, xs, hxl, hxs, h⟩ ha
  unfold S12_507
  have hO : Ow 1 eI 3 0 H' e3.marks.1 xs := h.head
  have h20 : H'.at_ t20 = .cells (eY k4 s4 e3) .var 79 := h.get (f := LvF t20 _) (by simp)
  have h3 : H'.at_ t3 = .cells (eY k s e) .var 79 := h.get (f := LvF t3 _) (by simp)
  have h12 : H'.at_ t12 = .cells (eV w) .var 28 := h.get (f := LvF t12 _) (by simp)
  have hR := h.rdLo hlo hE
  have l20 : ∀ K, K.at_ t20 = .cells (eY k4 s4 e3) .var 79 → aLdCell (.pointer (some ⟨t20, 6, none⟩)) K = some (.slice e3.marks.1 xs.length xs.length) := by intro K hK; rw [aLdCell_ptr, hK, hxl, ← lme]; rfl
  have l3 : aLdCell (.pointer (some ⟨t3, 6, none⟩)) H' = some (.slice e.marks.1 d.marks.length d.marks.length) := by rw [aLdCell_ptr, h3, ← hlm]; rfl
  simp only [aAdd_ptr, bnd_some', Nat.zero_add, l20 H' h20, aLenSl_slice, nth_zero, aBin_lss]
  by_cases hlt : i < d.marks.length
  · have hltx : i < xs.length := by omega
    have hlt' : (i : Int) < xs.length := by omega
    have w1 := wrap64 (x := (i : Int) + 1) (by omega) (by omega)
    have i1 := hO.rd.idx (k := .i64) (j := (i : Int)) (c := xs.length) (by omega) (by omega)
    have i2 := hR.idx (k := .i64) (j := (i : Int)) (c := d.marks.length) (by omega) (by omega)
    rw [Int.toNat_natCast] at i1 i2
    have l1 := hO.rd.ld (enc := Value.int .i64) hltx
    have l2 := hR.ld (enc := Value.int .i64) hlt
    have ex : xs[i] = d.marks[i] := by
      have := hxs i (Nat.le_refl _)
      rw [List.getElem?_eq_getElem hltx, List.getElem?_eq_getElem hlt] at this
      exact Option.some.inj this
    rw [ex] at l1
    obtain ⟨H2, st, g⟩ := h.row hltx 9
    simp only [decide_eq_true hlt', aCond_true]
    unfold S12_207
    simp only [aAdd_ptr, bnd_some', Nat.zero_add, l20 H' h20, l3, nth_zero, i1, i2, l1, l2, aBin_neq, decide_true, Bool.not_true, aCond_false]
    unfold S12_206
    simp only [aAdd_ptr, bnd_some', Nat.zero_add, l20 H' h20, nth_zero, i1, st, aBin_add, w1]
    refine ha _ H2 hlt ⟨rfl, _, by rw [List.length_set]; exact hxl, fun j hj => ?_, g⟩
    rw [List.getElem?_set_ne (by omega)]
    exact hxs j (by omega)
  · have hlt' : ¬ (i : Int) < xs.length := by omega
    simp only [decide_eq_false hlt', aCond_false, ldV h12, bnd_some']
    obtain ⟨hS, hex, _⟩ : St H' q m F ∧ ExO 0 H' ob.ex d ∧ Out F ob.ex := h.get (f := SeF q m F ob.ex d) (by simp)
    have hn := hex.n
    refine (c35r hS hr hk (Nat.le_refl _) (d := d) (by rw [hob]; exact hex.rd) (by rw [hob]; omega)).mono fun r H2 ⟨e4, hr2, hO4, hk4⟩ => ?_
    subst hr2
    have g := h.addEx hk4 hO4
    have g4 : Wd H0 H2 [LvF t20 (.cells (eY k4 s4 e3) .var 79), ExF e4 d, RowF 1 eI 3 e3.marks.1 xs, SeF q m F ob.ex d, LvF t12 (.cells (eV w) .var 28), LvF t3 (.cells (eY k s e) .var 79), LvF t8 (.cells (eV v) .var 28), LvF t16 (.cells (eV (4, n)) .var 28)] := g.pull 2 (by simp)
    have g5 : Wd H0 H2 [LvF t20 (.cells (eY k4 s4 e3) .var 79), ExF e4 d, LvF t3 (.cells (eY k s e) .var 79), LvF t8 (.cells (eV v) .var 28), LvF t16 (.cells (eV (4, n)) .var 28)] := g4.sub (.cons_cons _ (.cons_cons _ (.cons _ (.cons _ (.cons _ (List.Sublist.refl _))))))
    have hp : [ExF e4 d, LvF t3 (.cells (eY k s e) .var 79), LvF t8 (.cells (eV v) .var 28), LvF t16 (.cells (eV (4, n)) .var 28), LvF t20 (.cells (eY k4 s4 e3) .var 79)].Perm [LvF t20 (.cells (eY k4 s4 e3) .var 79), ExF e4 d, LvF t3 (.cells (eY k s e) .var 79), LvF t8 (.cells (eV v) .var 28), LvF t16 (.cells (eV (4, n)) .var 28)] :=
      List.perm_append_comm (l₁ := [ExF e4 d, LvF t3 (.cells (eY k s e) .var 79), LvF t8 (.cells (eV v) .var 28), LvF t16 (.cells (eV (4, n)) .var 28)]) (l₂ := [LvF t20 (.cells (eY k4 s4 e3) .var 79)])
    have g6 : Wd H0 H2 [ExF e4 d, LvF t3 (.cells (eY k s e) .var 79), LvF t8 (.cells (eV v) .var 28), LvF t16 (.cells (eV (4, n)) .var 28), LvF t20 (.cells (eY k4 s4 e3) .var 79)] := ⟨g5.keep, fun f hf => g5.ok f (hp.mem_iff.1 hf), (hp.pairwise_iff fun h => Apart.symm h).2 g5.apart⟩
    exact l12_506 hlo hE hlm lme hd g6
end
end Go.Proofs.Ytngldjajfpbmbaa.A

set_option linter.unusedVariables false
set_option linter.unusedSimpArgs false
namespace Go.Proofs.Ytngldjajfpbmbaa.A
open Go Go.Abs

theorem Inv.put {m : Sm} (h : Inv m) (o : Ob) (hf : m.used + o.cells ≤ m.lim) : Inv (m.put o) := by
  have := h.sum
  refine ⟨?_, ?_, h.lim⟩
  · simp only [Sm.put, total_append]
    rw [this]
    simp [total]
  · simp only [Sm.put]; omega
theorem Vd.put {m : Sm} (h : Vd m) (o : Ob) (ho : ∀ v ∈ o.slots, v.1 ≠ 7) (hs : o.kind = 10 → o.slots = []) : Vd (m.put o) := by
  refine ⟨fun x hx v hv h7 => ?_, fun x hx h10 => ?_⟩
  · simp only [Sm.put, List.length_append, List.length_singleton] at hx ⊢
    rcases List.mem_append.1 hx with hx | hx
    · have := h.ok x hx v hv h7; omega
    · simp at hx
      subst hx
      exact absurd h7 (ho v hv)
  · simp only [Sm.put] at hx
    rcases List.mem_append.1 hx with hx | hx
    · exact h.syn x hx h10
    · simp at hx
      subst hx
      exact hs h10
def apM (n : Int) : Sm := (Sm.new 100).put (mkOb 2 [(4, n)])
theorem apM_make (n : Int) : (Sm.new 100).make 2 [(4, n)] = (((7, 0), 0), apM n) := rfl
theorem apM_inv (n : Int) : Inv (apM n) := (Inv.new (by omega) (by omega)).put _ (by show (0 : Int) + 2 ≤ 100; omega)
theorem apM_vd (n : Int) : Vd (apM n) := (Vd.new _).put _ (by intro v hv; simp [mkOb] at hv; subst hv; show (4 : Int) ≠ 7; decide) (fun h => absurd h (by simp [mkOb]))

section
variable {H0 H : AHeap} {lo : Nat} {n : Int} {t3 t8 t12 p q : Nat} {k : Int} {s : ByteArray} {e : Ext} {d : ExD}
/-- Behind the copying. -/
theorem l12_510 (hlo : lo ≤ H0.next) (hE : Rd 1 eI lo H0 e.marks.1 d.marks) (hlm : e.marks.2 = d.marks.length) (hd : d.marks.length ≤ 20) (hdn : d.limbs.length + d.marks.length + d.subs.length ≤ 60) {m2 m' : Sm} {F2 F' : Nat → Prop} {e1 : Ext} {o0 o1 : Ob} (hm' : m'.objs = [o0, o1]) (hn' : m'.names = []) (hn2 : m2.names = []) (h0 : o0.slots = [(4, n)]) (h1 : o1.kind = 10)
    (h : Wd H0 H [SeF q m' F' o1.ex d, SeF p m2 F2 e1 d, LvF t12 (.cells (eV (7, 1)) .var 28), LvF t8 (.cells (eV (7, 0)) .var 28), LvF t3 (.cells (eY k s e) .var 79)]) :
    S12_510 (.int .i64 n) (fun r _ => r = .bool true) (Pt t3) (Pt p) (Pt t8) (Pt t12) (Pt q) H := by
  unfold S12_510
  have fx : aFill [(.int .i64 0), (.int .i64 0)] [] = some (eV (0, 0)) := rfl
  have a8 := (h.lv (t := t8) (x := .cells (eV (7, 0)) .var 28) (by simp)).1
  simp only [ldV a8, bnd_some', fx]
  have g1 : Wd H0 H [SeF p m2 F2 e1 d, SeF q m' F' o1.ex d, LvF t12 (.cells (eV (7, 1)) .var 28), LvF t8 (.cells (eV (7, 0)) .var 28), LvF t3 (.cells (eY k s e) .var 79)] := h.pull 1 (by simp)
  refine (c19 g1.head.1 (7, 0) 0 (0, 0)).mono fun r H2 ⟨_, hS2, hF2⟩ => ?_
  have g2 := g1.se hS2 hF2
  clear hS2 hF2 g1 a8 h
  have en : (m2.set (7, 0) 0 (0, 0)).2.names = [] := by
    unfold Sm.set
    split
    · split
      · split
        · exact hn2
        · exact hn2
      · exact hn2
    · exact hn2
  refine (c23 g2.head.1 (by rw [en]; simp) _ (by decide)).mono fun r H3 ⟨_, F3, hS3, hF3⟩ => ?_
  have g3 := g2.se hS3 hF3
  clear hS3 hF3 g2 en
  have a8 := (g3.lv (t := t8) (x := .cells (eV (7, 0)) .var 28) (by simp)).1
  simp only [ldV a8, bnd_some']
  have g4 := g3.tail
  have hSq : St H3 q m' F' := g4.head.1
  have eo : okRef m' (7, 0) = true := okRef_iff.2 ⟨rfl, by simp, by rw [hm']; simp⟩
  have eob : m'.ob (7, 0) = o0 := by unfold Sm.ob; rw [hm']; rfl
  have hg : m'.get (7, 0) 0 = ((4, n), 0) := by
    unfold Sm.get
    rw [if_pos eo, eob, h0]
    rfl
  refine (c18 hSq (7, 0) 0).use ?_
  rw [hg]
  unfold S12_509
  obtain ⟨K, w1, g5⟩ := g4.var' (4, n)
  have fx6 : aFill [(.int .i64 0), (.int .i64 0)] [(0, 1, (.int .i64 6))] = some (eV (6, 0)) := rfl
  simp only [x0, x1, bnd_some', aAlloc_eq, w1, fx6]
  have hSq5 : St K q m' F' := (g5.get (f := SeF q m' F' o1.ex d) (by simp)).1
  have en : m'.nameOf (6, 0) = (⟨#[]⟩, 10) := by
    unfold Sm.nameOf
    rw [if_neg]
    rintro ⟨_, hs⟩
    simp [Sm.sound, hn'] at hs
  refine (c24 hSq5 (6, 0)).use ?_
  rw [en]
  have a12 := (g5.lv (t := t12) (x := .cells (eV (7, 1)) .var 28) (by simp)).1
  simp only [x0, x1, bnd_some', ldV a12]
  have er : okRef m' (7, 1) = true := okRef_iff.2 ⟨rfl, by simp, by rw [hm']; simp⟩
  have erb : m'.ob (7, 1) = o1 := by unfold Sm.ob; rw [hm']; rfl
  obtain ⟨_, hex, _⟩ : St K q m' F' ∧ ExO 0 K o1.ex d ∧ Out F' o1.ex := g5.get (f := SeF q m' F' o1.ex d) (by simp)
  have hn := hex.n
  refine (c35r hSq5 er (by rw [erb]; exact h1) (Nat.le_refl _) (d := d) (by rw [erb]; exact hex.rd) (by rw [erb]; omega)).mono fun r H6 ⟨e3, hr, hO, hk6⟩ => ?_
  subst hr
  have g6 := g5.addEx hk6 hO
  have g7 : Wd H0 H6 [LvF H3.next (.cells (eV (4, n)) .var 28), ExF e3 d, SeF q m' F' o1.ex d, LvF t12 (.cells (eV (7, 1)) .var 28), LvF t8 (.cells (eV (7, 0)) .var 28), LvF t3 (.cells (eY k s e) .var 79)] := g6.pull 1 (by simp)
  have hp : [ExF e3 d, SeF q m' F' o1.ex d, LvF t12 (.cells (eV (7, 1)) .var 28), LvF t3 (.cells (eY k s e) .var 79), LvF t8 (.cells (eV (7, 0)) .var 28), LvF H3.next (.cells (eV (4, n)) .var 28)].Perm [LvF H3.next (.cells (eV (4, n)) .var 28), ExF e3 d, SeF q m' F' o1.ex d, LvF t12 (.cells (eV (7, 1)) .var 28), LvF t8 (.cells (eV (7, 0)) .var 28), LvF t3 (.cells (eY k s e) .var 79)] := by
    refine (List.perm_append_comm (l₁ := [ExF e3 d, SeF q m' F' o1.ex d, LvF t12 (.cells (eV (7, 1)) .var 28), LvF t3 (.cells (eY k s e) .var 79), LvF t8 (.cells (eV (7, 0)) .var 28)]) (l₂ := [LvF H3.next (.cells (eV (4, n)) .var 28)])).trans ?_
    exact List.Perm.cons _ (List.Perm.cons _ (List.Perm.cons _ (List.Perm.cons _ (List.Perm.swap _ _ _))))
  have g8 : Wd H0 H6 [ExF e3 d, SeF q m' F' o1.ex d, LvF t12 (.cells (eV (7, 1)) .var 28), LvF t3 (.cells (eY k s e) .var 79), LvF t8 (.cells (eV (7, 0)) .var 28), LvF H3.next (.cells (eV (4, n)) .var 28)] := ⟨g7.keep, fun f hf => g7.ok f (hp.mem_iff.1 hf), (hp.pairwise_iff fun h => Apart.symm h).2 g7.apart⟩
  exact l12_508 hlo hE hlm hd hdn er (by rw [erb]; exact h1) erb e3 g8

theorem l12_511 (hlo : lo ≤ H0.next) (hE : Rd 1 eI lo H0 e.marks.1 d.marks) (hlm : e.marks.2 = d.marks.length) (hd : d.marks.length ≤ 20) (hdn : d.limbs.length + d.marks.length + d.subs.length ≤ 60) {F2 : Nat → Prop} {e1 : Ext} {MK : Option Addr} {k2 : Int} {s2 : ByteArray}
    (h : Wd H0 H [RowF 1 eI 3 MK d.marks, SeF p ((apM n).put ⟨10, [], k2, s2, e1⟩) F2 e1 d, LvF t12 (.cells (eV (7, 1)) .var 28), LvF t8 (.cells (eV (7, 0)) .var 28), LvF t3 (.cells (eY k s e) .var 79)]) :
    aLoop [.int .i64 0] H fun vs H again => S12_511 (.int .i64 n) (fun r _ => r = .bool true) (Pt t3) (Pt p) (Pt t8) (.slice MK d.marks.length d.marks.length) (Pt t12) vs H again := by
  refine aLoop_vs d.marks.length (fun i vs H' => vs = [.int .i64 i] ∧ ∃ xs : List Int, xs.length = d.marks.length ∧ Wd H0 H' [RowF 1 eI 3 MK xs, SeF p ((apM n).put ⟨10, [], k2, s2, e1⟩) F2 e1 d, LvF t12 (.cells (eV (7, 1)) .var 28), LvF t8 (.cells (eV (7, 0)) .var 28), LvF t3 (.cells (eY k s e) .var 79)]) ⟨rfl, _, rfl, h⟩ ?_
  clear h
  rintro i vs H' again hi ⟨rfl, xs, hxl, h⟩ ha
  unfold S12_511
  simp only [aLenSl_slice, bnd_some', nth_zero, aBin_lss]
  by_cases hlt : i < d.marks.length
  · have hltx : i < xs.length := by omega
    have hlt' : (i : Int) < d.marks.length := by omega
    have w1 := wrap64 (x := (i : Int) + 1) (by omega) (by omega)
    have hO : Ow 1 eI 3 0 H' MK xs := h.head
    have i1 := hO.rd.idx (k := .i64) (j := (i : Int)) (c := d.marks.length) (by omega) (by omega)
    rw [hxl, Int.toNat_natCast] at i1
    have l1 := hO.rd.ld (enc := Value.int .i64) hltx
    obtain ⟨H2, st, g⟩ := h.row hltx (IntKind.i64.wrap (xs[i] + 1))
    simp only [decide_eq_true hlt', aCond_true]
    unfold S12_155
    simp only [nth_zero, i1, bnd_some', l1, aBin_add, st, w1]
    exact ha _ H2 hlt ⟨rfl, _, by rw [List.length_set]; exact hxl, g⟩
  · have hlt' : ¬ (i : Int) < d.marks.length := by omega
    simp only [decide_eq_false hlt', aCond_false]
    have h2 := h.tail
    obtain ⟨hS, hex, hout⟩ : St H' p ((apM n).put ⟨10, [], k2, s2, e1⟩) F2 ∧ ExO 0 H' e1 d ∧ Out F2 e1 := h2.head
    have hen := hex.n
    have hI : Inv ((apM n).put ⟨10, [], k2, s2, e1⟩) := (apM_inv n).put _ (by
      show (0 : Int) + (2 : Nat) + ((2 + e1.n : Nat) : Int) ≤ 100
      omega)
    have hV : Vd ((apM n).put ⟨10, [], k2, s2, e1⟩) := (apM_vd n).put _ (by simp) (fun _ => rfl)
    have eobjs : ((apM n).put ⟨10, [], k2, s2, e1⟩).objs = [mkOb 2 [(4, n)], ⟨10, [], k2, s2, e1⟩] := rfl
    refine (c32r (ds := fun i => if i = 1 then d else ⟨[], [], []⟩) hS hI hV (by simp [apM, Sm.put, Sm.new]) (by simp [apM, Sm.put, Sm.new]) fun j o ho => ?_).mono fun r H3 ⟨q, F3, os', hr, hC⟩ => ?_
    · rw [eobjs] at ho
      match j, ho with
      | 0, ho =>
        simp at ho
        subst ho
        exact ⟨ExR.nil _ _, by simp [mkOb, Ext.n, Ext.nil]⟩
      | 1, ho =>
        simp at ho
        subst ho
        exact ⟨hex.rd, by show e1.n ≤ 1048576; omega⟩
      | j + 2, ho => simp at ho
    subst hr
    have hl : os'.length = 2 := hC.len
    obtain ⟨o0, o1, rfl⟩ : ∃ a b, os' = [a, b] := by
      match os', hl with
      | [a, b], _ => exact ⟨a, b, rfl⟩
    obtain ⟨_, b2, _, _, _, _⟩ := hC.ob 0 (mkOb 2 [(4, n)]) o0 rfl rfl
    obtain ⟨c1, _, _, _, c5, c6⟩ := hC.ob 1 ⟨10, [], k2, s2, e1⟩ o1 rfl rfl
    have c5' : ExO H'.next H3 o1.ex d := c5
    have hk : Keep H'.next H' H3 := hC.keep
    have g : Wd H0 H3 (SeF q ⟨((apM n).put ⟨10, [], k2, s2, e1⟩).lim, ((apM n).put ⟨10, [], k2, s2, e1⟩).used, [o0, o1], ((apM n).put ⟨10, [], k2, s2, e1⟩).names⟩ F3 o1.ex d :: _) := h2.add (g := SeF q ⟨((apM n).put ⟨10, [], k2, s2, e1⟩).lim, ((apM n).put ⟨10, [], k2, s2, e1⟩).used, [o0, o1], ((apM n).put ⟨10, [], k2, s2, e1⟩).names⟩ F3 o1.ex d) hk ⟨hC.st, c5'.lower (Nat.zero_le _), c6⟩ fun b hb => by
      rcases hb with hb | ⟨a, ha, rfl⟩
      · exact ⟨hC.hi b hb, hC.st.lt b hb⟩
      · exact c5'.blk ha
    exact l12_510 hlo hE hlm hd hdn (o0 := o0) (o1 := o1) rfl rfl rfl b2 c1 g
end
end Go.Proofs.Ytngldjajfpbmbaa.A

set_option linter.unusedVariables false
set_option linter.unusedSimpArgs false
namespace Go.Proofs.Ytngldjajfpbmbaa.A
open Go Go.Abs

section
variable {H0 H : AHeap} {lo : Nat} {n : Int} {t3 p : Nat} {k : Int} {s : ByteArray} {e : Ext} {d : ExD}
/-- Behind the first object. -/
theorem l12_513 (hlo : lo ≤ H0.next) (hE : ExR lo H0 e d) (hd : d.marks.length ≤ 20 ∧ d.limbs.length ≤ 20 ∧ d.subs.length ≤ 20) {F1 : Nat → Prop} {t : Nat}
    (h : Wd H0 H [StF p (apM n) F1, LvF t (.cells [.int .i64 4, .int .i64 n] (.row 2) 28), LvF t3 (.cells (eY k s e) .var 79)]) :
    S12_513 (.int .i64 n) (fun r _ => r = .bool true) (Pt t3) (Pt p) (.slice (some ⟨t, 0, none⟩) 1 1) (.tuple #[vV (7, 0), .int .i64 0]) H := by
  unfold S12_513
  obtain ⟨K1, w1, g1⟩ := h.var' (7, 0)
  simp only [x0, x1, bnd_some', aAlloc_eq, w1, aBuildSlice_eq]
  obtain ⟨t8, ht8⟩ : ∃ t, t = H.next := ⟨_, rfl⟩
  rw [← ht8] at g1 ⊢
  have a3 := g1.lv (t := t3) (x := .cells (eY k s e) .var 79) (by simp)
  have l3 : ∀ x, aLdCell (.pointer (some ⟨t3, 6, none⟩)) (K1.alloc x) = some (.slice e.marks.1 d.marks.length d.marks.length) := by
    intro x
    rw [aLdCell_ptr, AHeap.at_alloc_ne _ _ (by omega), a3.1, ← hE.lm]
    rfl
  simp only [aAdd_ptr, Nat.zero_add, l3]
  simp [-aLdCell_ptr]
  simp only [l3, bnd_some']
  refine appK (e := 3) (bytes := 8) (Nat.le_trans hlo g1.keep.next) (g1.rdLo hlo hE.marks) (by omega) (by omega) fun MK H2 hMK hk2 => ?_
  have g2 : Wd H0 H2 (RowF 1 eI 3 MK d.marks :: _) := g1.add (g := RowF 1 eI 3 MK d.marks) hk2 (hMK.lower (Nat.zero_le _)) fun b hb => by
    obtain ⟨a, ha, rfl⟩ := hb
    exact ⟨(hMK.blkOf ha).2.1, (hMK.blkOf ha).2.2.1⟩
  have a3' := g2.lv (t := t3) (x := .cells (eY k s e) .var 79) (by simp)
  have la : aLdAgg 8 (Pt t3) H2 = some (.agg (eY k s e).toArray) := by simp [a3'.1]
  obtain ⟨w2, g3⟩ := g2.varY k s e
  simp only [la, bnd_some']
  have w2' : aSt 8 (Pt H2.next) (.agg (eY k s e).toArray) (H2.alloc (.cells [(.int .i64 0), (.string ⟨#[]⟩), (.bool false), (.slice none 0 0), (.slice none 0 0), (.int .i64 0), (.slice none 0 0), (.slice none 0 0)] .var 79)) = some _ := w2
  rw [w2']
  simp only [bnd_some']
  obtain ⟨K3, hK3⟩ : ∃ X, X = (H2.alloc (.cells [(.int .i64 0), (.string ⟨#[]⟩), (.bool false), (.slice none 0 0), (.slice none 0 0), (.int .i64 0), (.slice none 0 0), (.slice none 0 0)] .var 79)).upd H2.next (.cells (eY k s e) .var 79) := ⟨_, rfl⟩
  rw [← hK3] at g3 ⊢
  clear hK3 w2 w2' la a3'
  obtain ⟨t11, ht11⟩ : ∃ t, t = H2.next := ⟨_, rfl⟩
  rw [← ht11] at g3 ⊢
  have a11 := (g3.lv (t := t11) (x := .cells (eY k s e) .var 79) (by simp)).1
  obtain ⟨e1, he1⟩ : ∃ e1 : Ext, e1 = ⟨e.neg, e.limbs, e.lst, e.pos, (MK, d.marks.length), e.subs⟩ := ⟨_, rfl⟩
  have st : aSt 1 (.pointer (some ⟨t11, 6, none⟩)) (.slice MK d.marks.length d.marks.length) K3 = some (K3.upd t11 (.cells (eY k s e1) .var 79)) := by rw [he1]; simp [a11]
  have la : aLdAgg 8 (Pt t11) (K3.upd t11 (.cells (eY k s e1) .var 79)) = some (.agg (eY k s e1).toArray) := by simp
  simp only [st, la, bnd_some']
  have g4 := (g3.upd (.cells (eY k s e1) .var 79)).tail
  obtain ⟨K4, hK4⟩ : ∃ X, X = K3.upd t11 (.cells (eY k s e1) .var 79) := ⟨_, rfl⟩
  rw [← hK4] at g4 ⊢
  clear hK4 st la g3 a11
  have hO4 : Ow 1 eI 3 0 K4 MK d.marks := g4.head
  have g5 : Wd H0 K4 [StF p (apM n) F1, RowF 1 eI 3 MK d.marks, LvF t8 (.cells (eV (7, 0)) .var 28), LvF t (.cells [.int .i64 4, .int .i64 n] (.row 2) 28), LvF t3 (.cells (eY k s e) .var 79)] := g4.pull 2 (by simp)
  have hS : St K4 p (apM n) F1 := g5.head
  have n4 := g5.keep.next
  have hER : ExR K4.next K4 e1 d := by
    have hE' := (hE.kept (g5.keep.lower hlo)).up (lo' := K4.next) (by omega)
    rw [he1]
    exact ⟨hE'.limbs, hE'.ll, hE'.lst, hO4.rd, rfl, hE'.subs, hE'.ls⟩
  refine (c34r hS (apM_inv n) k s (Nat.le_refl _) hER (by show (2 : Int) + _ ≤ 100 - (0 + 2); omega)).mono fun r H5 ⟨e', F2, hr, hO5, hout, hS5, hfr⟩ => ?_
  subst hr
  have g6 : Wd H0 H5 (SeF p ((apM n).put ⟨10, [], k, s, e'⟩) F2 e' d :: _) := g5.step (f' := SeF p ((apM n).put ⟨10, [], k, s, e'⟩) F2 e' d) ⟨hfr.next, hfr.at_, fun b hb => by
    rcases hb with hb | ⟨a, ha, rfl⟩
    · exact hfr.new b hb
    · exact .inr (hO5.blk ha).1⟩ ⟨hS5, hO5.lower (Nat.zero_le _), hout⟩ fun b hb => by
    rcases hb with hb | ⟨a, ha, rfl⟩
    · exact hS5.lt b hb
    · exact (hO5.blk ha).2
  clear g5 hS hER hO4 g4
  unfold S12_512
  have el : ((apM n).objs.length : Int) = 1 := rfl
  obtain ⟨K6, w6, g7⟩ := g6.var' (7, 1)
  simp only [el, x0, x1, bnd_some', aAlloc_eq, w6]
  obtain ⟨t12, ht12⟩ : ∃ t, t = H5.next := ⟨_, rfl⟩
  rw [← ht12] at g7 ⊢
  have g8 : Wd H0 K6 [LvF t (.cells [.int .i64 4, .int .i64 n] (.row 2) 28), LvF t12 (.cells (eV (7, 1)) .var 28), SeF p ((apM n).put ⟨10, [], k, s, e'⟩) F2 e' d, RowF 1 eI 3 MK d.marks, LvF t8 (.cells (eV (7, 0)) .var 28), LvF t3 (.cells (eY k s e) .var 79)] := g7.pull 4 (by simp)
  have at_ : K6.at_ t = .cells [.int .i64 4, .int .i64 n] (.row 2) 28 := g8.head
  have i0 : aIdxAddr 2 (.slice (some ⟨t, 0, none⟩) 1 1) (.int .i64 0) = some (.pointer (some ⟨t, 0, none⟩)) := rfl
  obtain ⟨z, hz⟩ : ∃ z, z = IntKind.i64.wrap (n + 1) := ⟨_, rfl⟩
  have st : aSt 1 (.pointer (some ⟨t, 1, none⟩)) (.int .i64 z) K6 = some (K6.upd t (.cells [.int .i64 4, .int .i64 z] (.row 2) 28)) := by simp [at_]
  simp only [aBin_add, bnd_some', i0, aAdd_ptr, Nat.zero_add, ← hz, st]
  have g9 := (g8.upd (.cells [.int .i64 4, .int .i64 z] (.row 2) 28)).tail
  have g10 : Wd H0 (K6.upd t (.cells [.int .i64 4, .int .i64 z] (.row 2) 28)) [SeF p ((apM n).put ⟨10, [], k, s, e'⟩) F2 e' d, LvF t12 (.cells (eV (7, 1)) .var 28), RowF 1 eI 3 MK d.marks, LvF t8 (.cells (eV (7, 0)) .var 28), LvF t3 (.cells (eY k s e) .var 79)] := g9.pull 1 (by simp)
  have g11 : Wd H0 (K6.upd t (.cells [.int .i64 4, .int .i64 z] (.row 2) 28)) [RowF 1 eI 3 MK d.marks, SeF p ((apM n).put ⟨10, [], k, s, e'⟩) F2 e' d, LvF t12 (.cells (eV (7, 1)) .var 28), LvF t8 (.cells (eV (7, 0)) .var 28), LvF t3 (.cells (eY k s e) .var 79)] := g10.pull 2 (by simp)
  exact l12_511 hlo hE.marks hE.lm hd.1 (by omega) g11

theorem l12_514 (hlo : lo ≤ H0.next) (hE : ExR lo H0 e d) (hd : d.marks.length ≤ 20 ∧ d.limbs.length ≤ 20 ∧ d.subs.length ≤ 20) {F : Nat → Prop}
    (h : Wd H0 H [StF p (Sm.new 100) F, LvF t3 (.cells (eY k s e) .var 79)]) : S12_514 (.int .i64 n) (fun r _ => r = .bool true) (Pt t3) (Pt p) H := by
  unfold S12_514
  have fx : aFill [(.int .i64 0), (.int .i64 0)] [(0, 1, (.int .i64 4)), (1, 1, .int .i64 n)] = some (eV (4, n)) := rfl
  simp only [fx, bnd_some', aBuildSlice_eq]
  simp
  have g1 := h.alloc (.cells [.int .i64 4, .int .i64 n] (.row 2) 28)
  have g2 : Wd H0 (H.alloc (.cells [.int .i64 4, .int .i64 n] (.row 2) 28)) [StF p (Sm.new 100) F, LvF H.next (.cells [.int .i64 4, .int .i64 n] (.row 2) 28), LvF t3 (.cells (eY k s e) .var 79)] := g1.pull 1 (by simp)
  have hR : Rd 2 eV (H.next + 1) (H.alloc (.cells [.int .i64 4, .int .i64 n] (.row 2) 28)) (some ⟨H.next, 0, none⟩) [(4, n)] := Rd.mk' (by simp) (by omega) (AHeap.at_alloc_new _ _) (by simp) (by simp) (by simp)
  have := c15 g2.head (Inv.new (by omega) (by omega)) 2 (by simp) hR (by simp) (by simp)
  rw [apM_make] at this
  simp only [List.length_singleton] at this
  refine this.mono fun r H2 ⟨hr, F1, hS1, hF1⟩ => ?_
  subst hr
  have g3 : Wd H0 H2 (StF p (apM n) F1 :: _) := g2.step (f' := StF p (apM n) F1) hF1 hS1 fun b hb => hS1.lt b hb
  exact l12_513 hlo hE hd g3
end

theorem c12 {H : AHeap} {lo : Nat} (hlo : lo ≤ H.next) {e : Ext} {d : ExD} {ln : Nat} (k : Int) (s : ByteArray) (n : Int) (hl : e.limbs.2 = d.limbs.length ∧ e.marks.2 = d.marks.length ∧ e.subs.2 = d.subs.length) (hE : ln = 0 → ExR lo H e d) :
    ACalls Try.prog 12 [.int .i64 n, .agg (eZ k s e ln).toArray] H fun r _ => r = .bool true := by
  refine S12_calls ?_
  unfold S12
  have hv : vcells (.agg (eZ k s e ln).toArray) = eZ k s e ln := by simp
  have hok : (eZ k s e ln).all okCell = true := by simp
  simp only [aBox_eq, hv, hok, true_and]
  obtain ⟨H1, hH1⟩ : ∃ X, X = H.alloc (.cells (eZ k s e ln) .var 79) := ⟨_, rfl⟩
  rw [← hH1]
  have hk1 : Keep H.next H H1 := hH1 ▸ (Keep.refl _ _).alloc (Nat.le_refl _) _
  have n1 : H1.next = H.next + 1 := by rw [hH1]; simp
  have a1 : H1.at_ H.next = .cells (eZ k s e ln) .var 79 := by rw [hH1]; simp
  clear hH1
  refine (c13 (by omega) (by omega)).mono fun r H3 ⟨p, F, hr, hS, hk3, hF⟩ => ?_
  subst hr
  simp only [x0, x1, bnd_some']
  refine c14.use ?_
  have n3 := hk3.next
  have a3 : H3.at_ H.next = .cells (eZ k s e ln) .var 79 := by rw [hk3.at_ _ (by omega)]; exact a1
  have l6 : aLdCell (.pointer (some ⟨H.next, 6, none⟩)) H3 = some (.slice e.marks.1 e.marks.2 e.marks.2) := by rw [aLdCell_ptr, a3]; rfl
  have l7 : aLdCell (.pointer (some ⟨H.next, 7, none⟩)) H3 = some (.slice e.subs.1 e.subs.2 e.subs.2) := by rw [aLdCell_ptr, a3]; rfl
  have l3 : aLdCell (.pointer (some ⟨H.next, 3, none⟩)) H3 = some (.slice e.limbs.1 e.limbs.2 e.limbs.2) := by rw [aLdCell_ptr, a3]; rfl
  have l4 : aLdCell (.pointer (some ⟨H.next, 4, none⟩)) H3 = some (.slice e.lst ln ln) := by rw [aLdCell_ptr, a3]; rfl
  have done : ACalls Try.prog 14 [] H3 fun t73 H109 => t73 = Value.bool true := c14.mono fun r H' h => h.1
  unfold S12_515
  simp only [aUn_not, bnd_some', Bool.not_true, aGuardK_ff, aBin_neq, decide_true, Bool.not_true, aGuardK_ff, aPick_ff, aAdd_ptr, Nat.zero_add, Nat.reduceAdd, l6, aLenSl_slice, aBin_gtr]
  by_cases h1 : (20 : Int) < e.marks.2
  · simp only [decide_eq_true h1, aGuardK_tf, aPick_tt, bnd_some', aCond_true]
    exact done
  simp only [decide_eq_false h1, aGuardK_ff, aPick_ff, bnd_some', aAdd_ptr, Nat.zero_add, Nat.reduceAdd, l7, aLenSl_slice, aBin_gtr]
  by_cases h2 : (20 : Int) < e.subs.2
  · simp only [decide_eq_true h2, aGuardK_tf, aPick_tt, bnd_some', aCond_true]
    exact done
  simp only [decide_eq_false h2, aGuardK_ff, aPick_ff, bnd_some', aAdd_ptr, Nat.zero_add, Nat.reduceAdd, l3, aLenSl_slice, aBin_gtr]
  by_cases h3 : (20 : Int) < e.limbs.2
  · simp only [decide_eq_true h3, aGuardK_tf, aPick_tt, bnd_some', aCond_true]
    exact done
  simp only [decide_eq_false h3, aGuardK_ff, aPick_ff, bnd_some', aAdd_ptr, Nat.zero_add, Nat.reduceAdd, l4, aLenSl_slice, aBin_gtr]
  by_cases h4 : (0 : Int) < ln
  · simp only [decide_eq_true h4, aCond_true]
    exact done
  simp only [decide_eq_false h4, aCond_false]
  have hln : ln = 0 := by omega
  subst hln
  have hw : Wd H H3 [StF p (Sm.new 100) F, LvF H.next (.cells (eY k s e) .var 79)] := by
    refine ⟨hk1.trans (hk3.lower (by omega)), fun f hf => ?_, ?_⟩
    · rcases List.mem_cons.1 hf with rfl | hf
      · exact ⟨hS, fun b hb => ⟨by have := hF b hb; omega, hS.lt b hb⟩⟩
      · rw [List.mem_singleton] at hf
        subst hf
        exact ⟨a3, fun b hb => by have hb : b = H.next := hb; subst hb; omega⟩
    · refine List.pairwise_cons.2 ⟨fun g hg b hb hgb => ?_, List.pairwise_singleton _ _⟩
      rw [List.mem_singleton] at hg
      subst hg
      have hgb : b = H.next := hgb
      have := hF b hb
      omega
  exact l12_514 hlo (hE rfl) ⟨by omega, by omega, by omega⟩ hw
end Go.Proofs.Ytngldjajfpbmbaa.A

set_option linter.unusedVariables false
set_option linter.unusedSimpArgs false
namespace Go.Proofs.Ytngldjajfpbmbaa.A
open Go Go.Abs

section
variable {Hd : Type} {enc : TypeId × Value → Hd} {W : World}
theorem Opens.bool {P : Program} {t : TypeId} (ht : P.underlying t = some .bool) : Opens enc P W t Bool (fun b => [.bool b]) (fun _ _ _ => True) := by
  intro fuel cs x G φ H h hr
  obtain ⟨b, rfl, _⟩ := DataW.trod_bool ht h
  exact ⟨b, φ, H, hr, fun _ _ h => h, VRels.cons (.plain rfl) (VRels.nil _), by simp [okCell], Keep.refl _ _, trivial⟩
theorem Opens.map {P : Program} {t : TypeId} {α β : Type} {en : α → List Value} {en2 : β → List Value} {gd : Nat → AHeap → α → Prop} {gd2 : Nat → AHeap → β → Prop} (f : α → β) (he : ∀ a, en2 (f a) = en a) (hg : ∀ lo H a, gd lo H a → gd2 lo H (f a))
    (h : Opens enc P W t α en gd) : Opens enc P W t β en2 gd2 := by
  intro fuel cs x G φ H hx hr
  obtain ⟨a, φ', H', r1, l1, v1, o1, k1, g1⟩ := h fuel cs x G φ H hx hr
  exact ⟨f a, φ', H', r1, l1, by rw [he]; exact v1, by rw [he]; exact o1, k1, hg _ _ _ g1⟩
/-- A row of which only the length is looked at. -/
theorem Opens.dark {P : Program} {t e : TypeId} {n : Nat} (ht : P.underlying t = some (.slice e)) (hn : P.cellsOf e = n) (hpos : 0 < n) : Opens enc P W t (Option Addr × Nat) (fun p => [.slice p.1 p.2 p.2]) (fun lo H p => p.2 = 0 → Rd 8 eL lo H p.1 []) := by
  intro fuel cs x G φ H h hr
  rcases DataW.trod_slice ht h with ⟨rfl, _⟩ | ⟨a, len, cap, elems, rest, m, _, rfl, rfl, hb, hl, hmx, hlen, hel, hsp, _⟩
  · exact ⟨(none, 0), φ, H, hr, fun _ _ h => h, VRels.cons (.plain rfl) (VRels.nil _), by simp [okCell], Keep.refl _ _, fun _ => Rd.nil _ _ _ _⟩
  rw [hn] at hel hsp
  obtain ⟨hrl, hrest⟩ := hsp rfl
  have hno : φ H.next = none := by
    cases h : φ H.next with
    | none => rfl
    | some q => exact absurd (hr.dom _ _ h) (Nat.lt_irrefl _)
  by_cases h0 : cap = 0
  · subst h0
    have : len = 0 := by omega
    subst this
    refine ⟨(some ⟨H.next, 1, none⟩, 0), _, _, hr.addNone (.cells [.bool false] .read 0), Phi.le_upd φ _ hno, VRels.cons (.empty (Phi.upd_same _ _ _) (.inr (by omega))) (VRels.nil _), by simp [okCell], (Keep.refl _ _).alloc (Nat.le_refl _) _, fun _ => ?_⟩
    refine ⟨by simp, .inr ⟨H.next, 1, [.bool false], .read, 0, rfl, by simp, ⟨by simp, by simp⟩, by simp, by simp⟩⟩
  · have hfst : ∃ cs0, W.cells? 0 (a.add 0) n = some cs0 := by
      by_cases hl0 : len = 0
      · have := hrest 0 (by omega)
        rw [hl0, Nat.zero_add, Nat.zero_mul] at this
        have hlt : 0 < rest.length := by omega
        rw [List.getElem?_eq_getElem hlt, Option.bind_eq_some_iff] at this
        obtain ⟨cs0, h1, _⟩ := this
        exact ⟨cs0, h1⟩
      · have := hel 0 (by omega)
        rw [Nat.zero_mul] at this
        have hlt : 0 < elems.length := by omega
        rw [List.getElem?_eq_getElem hlt, Option.bind_eq_some_iff] at this
        obtain ⟨cs0, h1, _⟩ := this
        exact ⟨cs0, h1⟩
    obtain ⟨cs0, hc0⟩ := hfst
    obtain ⟨_, hcl, hcc⟩ := World.cells?_some hc0
    have h1 := hcc 0 hpos
    rw [List.getElem?_eq_getElem (by omega)] at h1
    obtain ⟨hs, c, tt, fr, hh, h2⟩ := cell?_block h1
    have hb0 : ((a.add 0).add 0) = a := by unfold Go.Addr.add; simp
    rw [hb0] at hs hh h2
    have hoff := (Array.getElem?_eq_some_iff.1 h2).1
    have hadd := hr.addRead (vs := []) (p := ⟨a.block, a.off, c.size, 0⟩) hh rfl (by simp; omega) (by simp [VRels.nil]) (by simp)
    have ha : a = ⟨a.block, a.off, none⟩ := by cases a; simp at hs; subst hs; rfl
    refine ⟨(some ⟨H.next, 0, none⟩, len), _, _, hadd, Phi.le_upd φ _ hno, ?_, by simp [okCell], (Keep.refl _ _).alloc (Nat.le_refl _) _, fun h0 => ?_⟩
    · refine VRels.cons ?_ (VRels.nil _)
      have := VRel.slice (φ := φ.upd H.next (some (some ⟨a.block, a.off, c.size, 0⟩))) (b := H.next) (o := 0) (n := len) (c := cap) (Phi.upd_same _ _ _) hl hmx (.inl rfl)
      rw [Nat.add_zero] at this
      rw [← ha] at this
      exact this
    · exact Rd.mk' (by simp) (by simp) (AHeap.at_alloc_new _ _) (by simp) rfl (by simp)
set_option maxRecDepth 100000 in
theorem openNum : Opens enc Try.prog W 75 (Bool × (Option Addr × List Int)) (fun p => [.bool p.1, .slice p.2.1 p.2.2.length p.2.2.length]) (fun lo H p => Rd 1 eW lo H p.2.1 p.2.2) := by
  have hs := Opens.slice (n := 1) (enc := enc) (W := W) Try.underlying73 (by kernel_rfl) (by omega) (fun _ => rfl) (Opens.int Try.underlying131) GdMono.const
  have h := Opens.struct Try.underlying75 (by kernel_rfl) (OpensF.cons (Opens.bool (enc := enc) (W := W) Try.underlying4) (OpensF.cons hs OpensF.nil (GdMono.slice GdMono.const)) GdMono.const)
  exact Opens.map (fun (x : Bool × (Option Addr × List Int) × Unit) => ((x.1, x.2.1) : Bool × (Option Addr × List Int))) (fun _ => rfl) (fun _ _ _ h => h.2.1.1) h
/-- A piece of syntax that is handed in. -/
structure StxT where
  k : Int
  s : ByteArray
  e : Ext
  ln : Nat
  d : ExD
abbrev encS (x : StxT) : List Value := eZ x.k x.s x.e x.ln
def gdStx (lo : Nat) (H : AHeap) (x : StxT) : Prop := (x.e.limbs.2 = x.d.limbs.length ∧ x.e.marks.2 = x.d.marks.length ∧ x.e.subs.2 = x.d.subs.length) ∧ (x.ln = 0 → ExR lo H x.e x.d)
theorem monoStx : GdMono gdStx := fun lo lo' H H' a h hl hk => ⟨h.1, fun h0 => ((h.2 h0).kept hk).up hl⟩
theorem monoR {n : Nat} {en : Int → List Value} : GdMono (fun lo H (p : Option Addr × List Int) => Rd n en lo H p.1 p.2) := fun lo lo' H H' a h hl hk => (h.kept hk).up hl
theorem monoN : GdMono (fun lo H (p : Bool × (Option Addr × List Int)) => Rd 1 eW lo H p.2.1 p.2.2) := fun lo lo' H H' a h hl hk => (h.kept hk).up hl
theorem monoD : GdMono (fun lo H (p : Option Addr × Nat) => p.2 = 0 → Rd 8 eL lo H p.1 []) := fun lo lo' H H' a h hl hk h0 => ((h h0).kept hk).up hl
theorem openRow : Opens enc Try.prog W 77 (Option Addr × List Int) (fun p => [.slice p.1 p.2.length p.2.length]) (fun lo H p => Rd 1 eI lo H p.1 p.2) := by
  have hs := Opens.slice (n := 1) (enc := enc) (W := W) Try.underlying77 (by kernel_rfl) (by omega) (fun _ => rfl) (Opens.int Try.underlying3) GdMono.const
  exact Opens.map id (fun _ => rfl) (fun _ _ _ h => h.1) hs
set_option maxRecDepth 100000 in
theorem openStx : Opens enc Try.prog W 79 StxT encS gdStx := by
  have h := Opens.struct Try.underlying79 (by kernel_rfl) (OpensF.cons (Opens.int (enc := enc) (W := W) Try.underlying3) (OpensF.cons (Opens.string (enc := enc) (W := W) Try.underlying9) (OpensF.cons (openNum (enc := enc) (W := W)) (OpensF.cons (Opens.dark (enc := enc) (W := W) (n := 8) Try.underlying76 (by kernel_rfl) (by omega)) (OpensF.cons (Opens.int (enc := enc) (W := W) Try.underlying3) (OpensF.cons (openRow (enc := enc) (W := W)) (OpensF.cons (openRow (enc := enc) (W := W)) OpensF.nil monoR) monoR) GdMono.const) monoD) monoN) GdMono.const) GdMono.const)
  exact Opens.map (fun (x : Int × ByteArray × (Bool × (Option Addr × List Int)) × (Option Addr × Nat) × Int × (Option Addr × List Int) × (Option Addr × List Int) × Unit) =>
    (⟨x.1, x.2.1, ⟨x.2.2.1.1, (x.2.2.1.2.1, x.2.2.1.2.2.length), x.2.2.2.1.1, x.2.2.2.2.1, (x.2.2.2.2.2.1.1, x.2.2.2.2.2.1.2.length), (x.2.2.2.2.2.2.1.1, x.2.2.2.2.2.2.1.2.length)⟩, x.2.2.2.1.2, ⟨x.2.2.1.2.2, x.2.2.2.2.2.1.2, x.2.2.2.2.2.2.1.2⟩⟩ : StxT)) (fun _ => rfl)
    (fun _ _ _ h => ⟨⟨rfl, rfl, rfl⟩, fun h0 => ⟨h.2.2.1, rfl, h.2.2.2.1 h0, h.2.2.2.2.2.1, rfl, h.2.2.2.2.2.2.1, rfl⟩⟩) h
end
theorem c12i {H : AHeap} {a0 : Int} {x : StxT} (h : gdStx H.next H x) : ACalls Try.prog 12 [.int .i64 a0, .agg (encS x).toArray] H fun r _ => r = .bool true := c12 (Nat.le_refl _) x.k x.s a0 h.1 h.2
end Go.Proofs.Ytngldjajfpbmbaa.A
