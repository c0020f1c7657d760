/- Contracts of functions that the statement reaches; each theorem carries its own conditions, the last theorem of the claim has none. -/
import Derived.Test.YtnbnojkfhfkecaaDoorC1
import Derived.Test.YtnbnojkfhfkecaaDoorC0
/- strings.Builder: what its functions do. -/
set_option linter.unusedVariables false
set_option maxRecDepth 100000
namespace Go.Proofs.YtnbnojkfhfkecaaDoor.A
open Go Go.Abs

theorem setCell_row (w : World) (g : Nat) (c : Array Value) (t : TypeId) (fr : Nat × Nat) (v : Value) (hg : w.heap[g]? = some (.cells c t fr)) : w.setCell ⟨g, 0, none⟩ v = w.setRow g (c.setIfInBounds 0 v) := by
  unfold World.setCell World.setRow
  congr 1
  apply Array.ext_getElem?
  intro j
  rw [Array.getElem?_modify, Array.getElem?_modify]
  by_cases h : g = j
  · subst h
    rw [if_pos rfl, if_pos rfl, hg]
    rfl
  · rw [if_neg h, if_neg h]

theorem upd_same {H : AHeap} {b : Nat} {x : Blk} (h : H.at_ b = x) : H.upd b x = H := by
  refine AHeap.ext' rfl fun c => ?_
  by_cases e : c = b
  · subst e; rw [AHeap.at_upd_same, h]
  · rw [AHeap.at_upd_ne _ _ e]

theorem c33 {H : AHeap} {b : Nat} {p sl : Value} (hat : H.at_ b = .cells [p, sl] .var 48) (hp : p = .pointer none ∨ p = .pointer (some ⟨b, 0, none⟩)) :
    ACalls Tryd.prog 33 [.pointer (some ⟨b, 0, none⟩)] H fun v H' => v = .tuple #[] ∧ H' = H.upd b (.cells [.pointer (some ⟨b, 0, none⟩), sl] .var 48) := by
  intro B φ w cargs hr hv
  obtain ⟨u, hu, hru⟩ := hv.get (i := 0) rfl
  have hl : cargs.length = 1 := hv.1.symm
  obtain rfl : cargs = [u] := by
    match cargs, hl, hu with
    | [x], _, hu => simp at hu; rw [hu]
  obtain ⟨_, q, hq, rfl⟩ := hru.ptrInv
  have hB := hr.blk b q hq
  rw [hat] at hB
  obtain ⟨c, t', fr, g0, g1, g2, g3, g4, g5, g6⟩ := hB
  obtain ⟨k1, k2, k3, k4⟩ := g5 rfl
  subst k2; subst k4
  have hsz : 2 ≤ c.size := by simp at g2; omega
  have h0 := cells_at hr hq hat 0 p rfl
  rw [k3] at h0 ⊢
  obtain ⟨p', hp', hpr, _⟩ := h0
  have hret : VRel φ (.tuple #[]) (.tuple #[]) := VRel.undef φ
  rcases hp with rfl | rfl
  · have hpn := hpr.ptrNil
    subst hpn
    refine (cc_fresh q.blk c.size w hp' (by simp [World.shape?, g0]) hsz (by simp [World.frozen?, g0])).mono ?_
    rintro e w' ⟨rfl, rfl⟩
    rw [setCell_row w q.blk c 48 (0, 0) _ g0]
    refine ⟨.tuple #[], _, φ, .tuple #[], rfl, ⟨rfl, rfl⟩, Step.setRow hr b q hq [.pointer none, sl] [.pointer (some ⟨b, 0, none⟩), sl] 48 .var rfl hat c _ 48 (0, 0) g0 (by simp) rfl ?_ ?_, hret⟩
    · have e1 : (c.setIfInBounds 0 (.pointer (some ⟨q.blk, 0, none⟩))).toList = c.toList.set 0 (.pointer (some ⟨q.blk, 0, none⟩)) := by simp
      rw [e1]
      have h3 := g3
      rw [k3, List.drop_zero] at h3
      have h4 := h3.set 0 (u := .pointer (some ⟨b, 0, none⟩)) (v := .pointer (some ⟨q.blk, 0, none⟩)) (by
        have := VRel.ptr (φ := φ) (b := b) (o := 0) hq
        rw [k3] at this
        exact this)
      rw [List.take_set]
      exact h4
    · intro v hv
      have := g4 v
      simp at hv
      rcases hv with rfl | rfl
      · rfl
      · exact g4 v (by simp)
  · obtain ⟨_, q', hq', hpe⟩ := hpr.ptrInv
    rw [hq] at hq'
    cases hq'
    rw [k3] at hpe
    subst hpe
    refine (cc_used q.blk w hp').mono ?_
    rintro e w' ⟨rfl, rfl⟩
    exact ⟨.tuple #[], _, φ, .tuple #[], rfl, ⟨rfl, (upd_same hat).symm⟩, Step.refl hr, hret⟩

theorem _root_.Go.Abs.ACalls.use2 {P : Program} {f : FuncId} {args : List Value} {H H2 : AHeap} {r : Value} {K : Value → AHeap → Prop} (h : ACalls P f args H fun v H' => v = r ∧ H' = H2) (hk : K r H2) : ACalls P f args H K :=
  h.mono fun v H' ⟨h1, h2⟩ => by subst h1; subst h2; exact hk

abbrev u8c (l : List UInt8) : List Value := l.map fun b => .int .u8 b.toNat
theorem bytesOf_u8c : ∀ (l : List UInt8), bytesOf (u8c l) = some l
  | [] => rfl
  | x :: l => by
    have h1 : x.toNat < 256 := x.toNat_lt
    simp only [u8c, List.map_cons, bytesOf]
    rw [if_pos (by omega), show l.map (fun b => Value.int .u8 (b.toNat : Int)) = u8c l from rfl, bytesOf_u8c l]
    simp
/-- A builder in block b that holds l; none of its blocks is in F. -/
def Bd (F : Nat → Prop) (b : Nat) (l : List UInt8) (H : AHeap) : Prop :=
  ¬ F b ∧ b < H.next ∧ ∃ p sl, H.at_ b = .cells [p, sl] .var 48 ∧ (p = .pointer none ∨ p = .pointer (some ⟨b, 0, none⟩)) ∧
    ((sl = .slice none 0 0 ∧ l = []) ∨ ∃ r cs, sl = .slice (some ⟨r, 0, none⟩) l.length l.length ∧ r ≠ b ∧ ¬ F r ∧ r < H.next ∧ H.at_ r = .cells cs (.row 1) 5 ∧ l.length ≤ cs.length ∧ cs.take l.length = u8c l)
/-- What is kept. -/
def KF (F : Nat → Prop) (H H' : AHeap) : Prop := H.next ≤ H'.next ∧ ∀ c, F c → H'.at_ c = H.at_ c
theorem KF.refl (F : Nat → Prop) (H : AHeap) : KF F H H := ⟨Nat.le_refl _, fun _ _ => rfl⟩
theorem KF.trans {F : Nat → Prop} {H H' H'' : AHeap} (h : KF F H H') (k : KF F H' H'') : KF F H H'' := ⟨Nat.le_trans h.1 k.1, fun c hc => (k.2 c hc).trans (h.2 c hc)⟩

theorem Bd.new {F : Nat → Prop} {H : AHeap} (hF : ∀ c, F c → c < H.next) : Bd F H.next [] (H.alloc (.cells [.pointer none, .slice none 0 0] .var 48)) :=
  ⟨fun h => absurd (hF _ h) (Nat.lt_irrefl _), by simp, _, _, AHeap.at_alloc_new _ _, .inl rfl, .inl ⟨rfl, rfl⟩⟩

/-- What is written: cells behind those that are there. -/
theorem Bd.put {F : Nat → Prop} {b : Nat} {l : List UInt8} {H : AHeap} {news : List UInt8} (h : Bd F b l H) (hF : ∀ c, F c → c < H.next) {K : AHeap → Prop}
    (hk : ∀ H' : AHeap, Bd F b (l ++ news) H' → KF F H H' → K H') :
    ∃ sl, (∃ p, H.at_ b = .cells [p, sl] .var 48 ∧ (p = .pointer none ∨ p = .pointer (some ⟨b, 0, none⟩))) ∧ sliceLen sl = l.length ∧
      ∀ H1, H.next ≤ H1.next → (∀ c, c < H.next → c ≠ b → H1.at_ c = H.at_ c) → H1.at_ b = .cells [.pointer (some ⟨b, 0, none⟩), sl] .var 48 →
        aBase 1 5 sl H1 = some (u8c l) ∧ ∀ n, n = (l ++ news).length →
          bnd (aSt 1 (.pointer (some ⟨b, 1, none⟩)) (.slice (some ⟨H1.next, 0, none⟩) n n) ((H1.kill sl).alloc (.cells (u8c l ++ u8c news) (.row 1) 5))) K := by
  obtain ⟨hb, hbn, p, sl, hat, hp, hsl⟩ := h
  refine ⟨sl, ⟨p, hat, hp⟩, ?_, fun H1 hn hk1 hb1 => ⟨?_, fun n hnl => ?_⟩⟩
  · rcases hsl with ⟨rfl, rfl⟩ | ⟨r, cs, rfl, _⟩ <;> rfl
  · rcases hsl with ⟨rfl, rfl⟩ | ⟨r, cs, rfl, h1, h2, h3, h4, h5, h6⟩
    · rfl
    · simp [aBase, hk1 r h3 h1, h4, h5, h6]
  · subst hnl
    have hne : b ≠ (H1.kill sl).next := by rw [AHeap.next_kill]; omega
    have hatb : ((H1.kill sl).alloc (.cells (u8c l ++ u8c news) (.row 1) 5)).at_ b = .cells [.pointer (some ⟨b, 0, none⟩), sl] .var 48 := by
      rw [AHeap.at_alloc_ne _ _ hne]
      rcases hsl with ⟨rfl, rfl⟩ | ⟨r, cs, rfl, h1, h2, h3, h4, h5, h6⟩
      · exact hb1
      · rw [AHeap.kill_at, if_neg (Ne.symm h1)]; exact hb1
    have hok : okCell sl = true := by rcases hsl with ⟨rfl, rfl⟩ | ⟨r, cs, rfl, _⟩ <;> rfl
    have hnk : (H1.kill sl).next = H1.next := AHeap.next_kill _ _
    refine bnd_iff.2 ⟨((H1.kill sl).alloc (.cells (u8c l ++ u8c news) (.row 1) 5)).upd b (.cells [.pointer (some ⟨b, 0, none⟩), .slice (some ⟨H1.next, 0, none⟩) (l ++ news).length (l ++ news).length] .var 48), ?_, hk _ ?_ ?_⟩
    · unfold aSt
      dsimp only
      rw [hatb]
      simp [vcells, Use.own, okCell, setCells]
    · refine ⟨hb, by simp [hnk]; omega, _, _, AHeap.at_upd_same _ _ _, .inr rfl, .inr ⟨H1.next, u8c l ++ u8c news, rfl, by omega, fun h => by have := hF _ h; omega, by simp [hnk], ?_, by simp, ?_⟩⟩
      · rw [AHeap.at_upd_ne _ _ (by omega)]
        have := AHeap.at_alloc_new (H1.kill sl) (.cells (u8c l ++ u8c news) (.row 1) 5)
        rwa [hnk] at this
      · rw [← List.map_append]
        exact List.take_of_length_le (by simp)
    · refine ⟨by simp [hnk]; omega, fun c hc => ?_⟩
      have hcn := hF c hc
      have hcb : c ≠ b := by rintro rfl; exact hb hc
      rw [AHeap.at_upd_ne _ _ hcb, AHeap.at_alloc_ne _ _ (by rw [hnk]; omega)]
      rcases hsl with ⟨rfl, rfl⟩ | ⟨r, cs, rfl, h1, h2, h3, h4, h5, h6⟩
      · exact hk1 c hcn hcb
      · rw [AHeap.kill_at, if_neg (by rintro rfl; exact h2 hc)]
        exact hk1 c hcn hcb

theorem row_one (H1 : AHeap) (v : Value) : aRow 1 (.slice (some ⟨H1.next, 0, none⟩) 1 1) (H1.alloc (.cells [v] (.row 1) 5)) = some [v] := by simp [aRow]
theorem c19 {F : Nat → Prop} {b : Nat} {l : List UInt8} {H : AHeap} (x : UInt8) (h : Bd F b l H) (hF : ∀ c, F c → c < H.next) (hlen : l.length + 1 ≤ 140737488355328) :
    ACalls Tryd.prog 19 [.pointer (some ⟨b, 0, none⟩), .int .u8 x.toNat] H fun v H' => v = .nilIface ∧ Bd F b (l ++ [x]) H' ∧ KF F H H' := by
  obtain ⟨sl, ⟨p, hat, hp⟩, hsl, hput⟩ := h.put (news := [x]) hF (K := fun H' => Bd F b (l ++ [x]) H' ∧ KF F H H') fun H' h1 h2 => ⟨h1, h2⟩
  have hbn := h.2.1
  refine S19_calls ?_
  unfold S19
  refine (c33 hat hp).use2 ?_
  obtain ⟨hbase, hst⟩ := hput ((H.upd b (.cells [.pointer (some ⟨b, 0, none⟩), sl] .var 48)).alloc (.cells [.int .u8 x.toNat] (.row 1) 5)) (by simp) (fun c hc hcb => by rw [AHeap.at_alloc_ne _ _ (by simp; omega), AHeap.at_upd_ne _ _ hcb])
    (by rw [AHeap.at_alloc_ne _ _ (by simp; omega), AHeap.at_upd_same])
  have hld : aLdCell (.pointer (some ⟨b, 1, none⟩)) (H.upd b (.cells [.pointer (some ⟨b, 0, none⟩), sl] .var 48)) = some sl := by simp [aLdCell]
  simp only [aNilCheck, aAdd, bnd_some', Nat.zero_add, hld]
  refine bnd_iff.2 ⟨[.int .u8 x.toNat], rfl, ⟨rfl, rfl⟩, ?_⟩
  unfold aAppend
  dsimp only
  rw [hbase]
  have hrow : aRow 1 (.slice (some ⟨(H.upd b (.cells [.pointer (some ⟨b, 0, none⟩), sl] .var 48)).next, 0, none⟩) 1 1) ((H.upd b (.cells [.pointer (some ⟨b, 0, none⟩), sl] .var 48)).alloc (.cells [.int .u8 x.toNat] (.row 1) 5)) = some [.int .u8 x.toNat] := row_one _ _
  rw [hrow]
  simp only [bnd_some']
  rw [hsl, show ∀ A, sliceLen (.slice A 1 1) = 1 from fun _ => rfl]
  refine ⟨⟨by simp only [maxLen]; omega, by omega⟩, ?_⟩
  obtain ⟨H', h1, h2⟩ := bnd_iff.1 (hst (l.length + 1) (by simp))
  refine bnd_iff.2 ⟨H', h1, trivial, h2⟩

theorem c20 {F : Nat → Prop} {b : Nat} {l : List UInt8} {H : AHeap} (s : ByteArray) (h : Bd F b l H) (hF : ∀ c, F c → c < H.next) (hlen : l.length + s.size ≤ 140737488355328) :
    ACalls Tryd.prog 20 [.pointer (some ⟨b, 0, none⟩), .string s] H fun v H' => Bd F b (l ++ s.data.toList) H' ∧ KF F H H' := by
  obtain ⟨sl, ⟨p, hat, hp⟩, hsl, hput⟩ := h.put (news := s.data.toList) hF (K := fun H' => Bd F b (l ++ s.data.toList) H' ∧ KF F H H') fun H' h1 h2 => ⟨h1, h2⟩
  have hbn := h.2.1
  refine S20_calls ?_
  unfold S20
  refine (c33 hat hp).use2 ?_
  obtain ⟨hbase, hst⟩ := hput (H.upd b (.cells [.pointer (some ⟨b, 0, none⟩), sl] .var 48)) (by simp) (fun c hc hcb => by rw [AHeap.at_upd_ne _ _ hcb])
    (by rw [AHeap.at_upd_same])
  have hld : aLdCell (.pointer (some ⟨b, 1, none⟩)) (H.upd b (.cells [.pointer (some ⟨b, 0, none⟩), sl] .var 48)) = some sl := by simp [aLdCell]
  simp only [aNilCheck, aAdd, bnd_some', Nat.zero_add, hld]
  unfold aAppStr
  dsimp only
  rw [hbase]
  simp only [bnd_some', hsl]
  refine ⟨⟨trivial, trivial, hlen⟩, ?_⟩
  obtain ⟨H', h1, h2⟩ := bnd_iff.1 (hst (l.length + s.size) (by simp))
  refine bnd_iff.2 ⟨H', h1, ?_⟩
  simp only [aLenStr, bnd_some']
  exact h2

theorem c23 {F : Nat → Prop} {b : Nat} {l : List UInt8} {H : AHeap} (h : Bd F b l H) (h0 : 0 < l.length) (hm : l.length ≤ 140737488355328) :
    ACalls Tryd.prog 23 [.pointer (some ⟨b, 0, none⟩)] H fun v H' => v = .string ⟨l.toArray⟩ ∧ KF F H H' := by
  obtain ⟨hb, hbn, p, sl, hat, hp, hsl⟩ := h
  rcases hsl with ⟨rfl, rfl⟩ | ⟨r, cs, rfl, h1, h2, h3, h4, h5, h6⟩
  · simp at h0
  refine S23_calls ?_
  unfold S23
  have hld : aLdCell (.pointer (some ⟨b, 1, none⟩)) H = some (.slice (some ⟨r, 0, none⟩) l.length l.length) := by simp [aLdCell, hat]
  simp only [aNilCheck, aAdd, bnd_some', Nat.zero_add, hld, aSliceData, h0, if_true, aLenSl]
  simp only [aUString, h4]
  refine bnd_iff.2 ⟨l, ?_, ⟨trivial, by omega, by omega, by omega⟩, rfl, Nat.le_refl _, fun c hc => AHeap.at_upd_ne _ _ (by rintro rfl; exact h2 hc)⟩
  rw [show ((l.length : Int)).toNat = l.length by simp, h6]
  exact bytesOf_u8c l
end Go.Proofs.YtnbnojkfhfkecaaDoor.A
