/- Conversions in the texts; package variables; contracts of the library taken over. -/
import Derived.Test.YtliakckflcoffaaDoorAbsX
set_option linter.unusedVariables false
namespace Go.Abs
open Go

@[congr] theorem aMark_congr {v v' : Value} {H : AHeap} {K : Value → AHeap → Prop} {zz : Prop} (h : v = v') (_hq : (∃ n : Nat, n = 0) = zz) : aMark v H K = aMark v' H K := by rw [h]
@[congr] theorem aStrBytes_congr {e : TypeId} {v v' : Value} {H : AHeap} {K : Value → AHeap → Prop} {zz : Prop} (h : v = v') (_hq : (∃ n : Nat, n = 0) = zz) : aStrBytes e v H K = aStrBytes e v' H K := by rw [h]
@[simp ↓] theorem aStrBytes_eq (e : TypeId) (s : ByteArray) (H : AHeap) (K : Value → AHeap → Prop) : aStrBytes e (.string s) H K = (s.size ≤ 140737488355328 ∧ K (.slice (some ⟨H.next, 0, none⟩) s.size s.size) (H.alloc (.cells (byteCells s) .read e))) := nr rfl
theorem aMark_of {b o n c : Nat} {s : Option Nat} {H : AHeap} {K : Value → AHeap → Prop} {cs : List Value} {k : Use} {t : TypeId} (hat : H.at_ b = .cells cs k t) (hk : k.own = true) (hn : 0 < n)
    (h : K (.slice (some ⟨b, o, s⟩) n c) (H.upd b (.cells cs .read t))) : aMark (.slice (some ⟨b, o, s⟩) n c) H K := by
  unfold aMark
  dsimp only
  rw [hat]
  exact ⟨⟨hk, hn⟩, h⟩
@[simp] theorem aIdxAddrArr_ptr (len n b o : Nat) (k : IntKind) (j : Int) : aIdxAddrArr len n (.pointer (some ⟨b, o, none⟩)) (.int k j) = if 0 ≤ j ∧ j < len then some (.pointer (some ⟨b, o + j.toNat * n, none⟩)) else none := by
  unfold aIdxAddrArr
  rfl

@[simp ↓] theorem aMakeMap_eq (H : AHeap) (K : Value → AHeap → Prop) : aMakeMap H K = K (.map (some H.next)) (H.alloc (.map [])) := nr rfl
@[simp] theorem aMax_int (k : IntKind) (a b : Int) : aMax (.int k a) (.int k b) = some (.int k (if b > a then b else a)) := by simp [aMax]
abbrev eB (x : Int) : List Value := [Value.int .u8 x]
/-- Bytes that are read. -/
abbrev Bytes (lo : Nat) (H : AHeap) (A : Option Addr) (xs : List Int) : Prop := Rd 1 eB lo H A xs

theorem plain_same {φ : Phi} {u v : Value} (h : VRel φ u v) (hp : plainCell u = true) : v = u := by
  cases h with
  | plain _ => rfl
  | top => cases hp
  | ptr _ => cases hp
  | slice _ _ _ _ => cases hp
  | empty _ _ => cases hp
  | map _ => cases hp
  | func _ _ _ _ => cases hp
  | iface _ => cases hp
  | agg _ _ => cases hp
  | tuple _ _ => cases hp
/-- A contract of plain values, taken over. -/
theorem ACalls.ofCalls {P : Program} {f : FuncId} {args : List Value} {r : Value} {H : AHeap} (hp : args.all plainCell = true) (hr : plainCell r = true)
    (h : ∀ w, Calls P f args.toArray w fun e w' => e = .returned r ∧ w' = w) : ACalls P f args H fun v H' => v = r ∧ H' = H := by
  intro B φ w cargs hrel hv
  have he : cargs = args := by
    apply List.ext_getElem?
    intro i
    by_cases hi : i < args.length
    · have h1 := List.getElem?_eq_getElem hi
      obtain ⟨v, h2, h3⟩ := hv.get h1
      rw [h2, h1]
      have hpl := List.all_eq_true.1 hp _ (List.getElem_mem hi)
      generalize args[i] = u at h3 hpl
      rw [plain_same h3 hpl]
    · rw [List.getElem?_eq_none (by have := hv.1; omega), List.getElem?_eq_none (by omega)]
  subst he
  refine (h w).mono fun e w' ⟨h1, h2⟩ => ?_
  subst h1; subst h2
  exact ⟨r, H, φ, r, rfl, ⟨rfl, rfl⟩, Step.refl hrel, .plain hr⟩

/-- A world with more in memory: what was there is as it was. -/
theorem Step.grown {G B : Nat} {φ : Phi} {H : AHeap} {w w' : World} (h : Rel G B φ H w) (e1 : w'.os = w.os) (e2 : w'.tape = w.tape) (e3 : w'.output = w.output) (e4 : w.heap.size ≤ w'.heap.size)
    (e5 : ∀ k, k < w.heap.size → w'.heap[k]? = w.heap[k]?) : Step G B φ H w φ H w' := by
  refine ⟨⟨Nat.le_trans h.base e4, h.glob, h.dom, h.wf, fun b p hb => ?_, h.apart⟩, Nat.le_refl _, fun _ _ => rfl, e1, e2, e3, e4, fun k hk _ => e5 k hk, fun k hk => .inl hk⟩
  have hB := h.blk b p hb
  by_cases ha : (H.at_ b).alive = true
  · exact hB.heap (e5 _ (hB.lt ha))
  · cases hc : H.at_ b with
    | dead => trivial
    | cells _ _ _ => rw [hc] at ha; simp [Blk.alive] at ha
    | map _ => rw [hc] at ha; simp [Blk.alive] at ha
theorem plains_same {φ : Phi} {args cargs : List Value} (hv : VRels φ args cargs) (hp : args.all plainCell = true) : cargs = args := by
  apply List.ext_getElem?
  intro i
  by_cases hi : i < args.length
  · have h1 := List.getElem?_eq_getElem hi
    obtain ⟨v, h2, h3⟩ := hv.get h1
    rw [h2, h1]
    have hpl := List.all_eq_true.1 hp _ (List.getElem_mem hi)
    generalize args[i] = u at h3 hpl
    rw [plain_same h3 hpl]
  · rw [List.getElem?_eq_none (by have := hv.1; omega), List.getElem?_eq_none (by omega)]
/-- A contract of plain values, taken over: what is in memory may be asked, and memory may grow. -/
theorem ACalls.ofGrow {P : Program} {f : FuncId} {args : List Value} {r : Value} {H : AHeap} (hp : args.all plainCell = true) (hr : plainCell r = true)
    (h : ∀ B φ w, Rel P.globals.size B φ H w → Calls P f args.toArray w fun e w' => e = .returned r ∧ RowKit.Below w.heap.size w w') : ACalls P f args H fun v H' => v = r ∧ H' = H := by
  intro B φ w cargs hrel hv
  obtain rfl := plains_same hv hp
  refine (h B φ w hrel).mono fun e w' ⟨h1, h2⟩ => ?_
  subst h1
  exact ⟨r, H, φ, r, rfl, ⟨rfl, rfl⟩, Step.grown hrel h2.os h2.tape h2.output h2.size h2.block, .plain hr⟩

/-- The heap of package variables: what some of them hold is told. -/
def gHeap (G : Nat) (tab : Nat → Option (List Value)) : AHeap := ⟨G, fun g => if g < G then (match tab g with | some cs => .cells cs .read 0 | none => .dead) else .dead⟩
theorem Rel.globals {G : Nat} {W : World} (tab : Nat → Option (List Value))
    (ht : ∀ g cs, g < G → tab g = some cs → cs.all plainCell = true ∧ ∀ j (h : j < cs.length), W.cell? ⟨g, j, none⟩ = some cs[j]) (hne : ∀ g cs, tab g = some cs → 0 < cs.length) :
    ∃ φ, Rel G W.heap.size φ (gHeap G tab) W := by
  let lim (g : Nat) : Nat := match W.heap[g]? with | some (.cells c _ _) => c.size | _ => 0
  refine ⟨fun g => if g < G then some (some ⟨g, 0, lim g, 0⟩) else none, Nat.le_refl _, fun g hg => ⟨_, by rw [if_pos hg], rfl, rfl⟩, fun b p hb => ?_, fun b hb => ?_, fun b p hb => ?_, fun b b' p p' hb hb' ho _ _ => ?_⟩
  · by_cases h : b < G
    · exact h
    · rw [if_neg h] at hb; cases hb
  · show (if b < G then _ else _) = _
    rw [if_neg (show ¬ b < G from Nat.not_lt.2 hb)]
  · by_cases h : b < G
    · rw [if_pos h] at hb
      obtain rfl := Option.some.inj (Option.some.inj hb)
      show BRel _ _ (if b < G then _ else _) _ _
      rw [if_pos h]
      cases hc : tab b with
      | none => trivial
      | some cs =>
        obtain ⟨h1, h2⟩ := ht b cs h hc
        have h0 := hne b cs hc
        obtain ⟨_, c, t, fr, hh, _⟩ := cell?_block (h2 0 h0)
        have hh : W.heap[b]? = some (.cells c t fr) := hh
        have hcell : ∀ j (hj : j < cs.length), c[j]? = some cs[j] := by
          intro j hj
          obtain ⟨_, c', t', fr', hh', h4⟩ := cell?_block (h2 j hj)
          have hh' : W.heap[b]? = some (.cells c' t' fr') := hh'
          rw [hh] at hh'
          injection hh' with hh'
          injection hh' with e1
          subst e1
          exact h4
        have hfit : cs.length ≤ c.size := by
          have := (Array.getElem?_eq_some_iff.1 (hcell (cs.length - 1) (by omega))).1
          omega
        have heq : (c.toList.drop 0).take cs.length = cs := by
          rw [List.drop_zero]
          apply List.ext_getElem?
          intro i
          rw [List.getElem?_take]
          split
          · rename_i hi
            rw [Array.getElem?_toList, hcell i hi, List.getElem?_eq_getElem hi]
          · rw [List.getElem?_eq_none (by omega)]
        refine ⟨c, t, fr, hh, ?_, by show 0 + cs.length ≤ c.size; omega, ?_, ?_, fun h => (by cases h), fun s h => (by cases h), fun h => (by cases h)⟩
        · show c.size = lim b
          simp only [lim, hh]
        · show VRels _ cs ((c.toList.drop 0).take cs.length)
          rw [heq]
          exact VRels.plain h1
        · intro v hv
          exact okCell_of_plain (List.all_eq_true.1 h1 v hv)
    · rw [if_neg h] at hb; cases hb
  · have : b < G := by
      by_cases h : b < G
      · exact h
      · rw [if_neg h] at hb; cases hb
    exfalso
    revert ho
    show (if b < G then _ else _ : Blk).own = true → False
    rw [if_pos this]
    cases tab b <;> simp [Blk.own, Use.own]
/-- .. and of some it is told that no more lies there. -/
def gHeapX (G : Nat) (tab : Nat → Option (Use × List Value)) : AHeap := ⟨G, fun g => if g < G then (match tab g with | some (k, cs) => .cells cs k 0 | none => .dead) else .dead⟩
theorem Rel.globalsX {G : Nat} {W : World} (tab : Nat → Option (Use × List Value))
    (ht : ∀ g k cs, g < G → tab g = some (k, cs) → (k = .read ∨ k = .exact ∧ ∃ t fr, W.heap[g]? = some (.cells cs.toArray t fr)) ∧ cs.all plainCell = true ∧ ∀ j (h : j < cs.length), W.cell? ⟨g, j, none⟩ = some cs[j]) (hne : ∀ g k cs, tab g = some (k, cs) → 0 < cs.length) :
    ∃ φ, Rel G W.heap.size φ (gHeapX G tab) W := by
  let lim (g : Nat) : Nat := match W.heap[g]? with | some (.cells c _ _) => c.size | _ => 0
  refine ⟨fun g => if g < G then some (some ⟨g, 0, lim g, 0⟩) else none, Nat.le_refl _, fun g hg => ⟨_, by rw [if_pos hg], rfl, rfl⟩, fun b p hb => ?_, fun b hb => ?_, fun b p hb => ?_, fun b b' p p' hb hb' ho _ _ => ?_⟩
  · by_cases h : b < G
    · exact h
    · rw [if_neg h] at hb; cases hb
  · show (if b < G then _ else _) = _
    rw [if_neg (show ¬ b < G from Nat.not_lt.2 hb)]
  · by_cases h : b < G
    · rw [if_pos h] at hb
      obtain rfl := Option.some.inj (Option.some.inj hb)
      show BRel _ _ (if b < G then _ else _) _ _
      rw [if_pos h]
      cases hc : tab b with
      | none => trivial
      | some kcs =>
        obtain ⟨k, cs⟩ := kcs
        obtain ⟨hkk, h1, h2⟩ := ht b k cs h hc
        have hko : k.own = false := by rcases hkk with rfl | ⟨rfl, _⟩ <;> rfl
        have h0 := hne b k cs hc
        obtain ⟨_, c, t, fr, hh, _⟩ := cell?_block (h2 0 h0)
        have hh : W.heap[b]? = some (.cells c t fr) := hh
        have hcell : ∀ j (hj : j < cs.length), c[j]? = some cs[j] := by
          intro j hj
          obtain ⟨_, c', t', fr', hh', h4⟩ := cell?_block (h2 j hj)
          have hh' : W.heap[b]? = some (.cells c' t' fr') := hh'
          rw [hh] at hh'
          injection hh' with hh'
          injection hh' with e1
          subst e1
          exact h4
        have hfit : cs.length ≤ c.size := by
          have := (Array.getElem?_eq_some_iff.1 (hcell (cs.length - 1) (by omega))).1
          omega
        have heq : (c.toList.drop 0).take cs.length = cs := by
          rw [List.drop_zero]
          apply List.ext_getElem?
          intro i
          rw [List.getElem?_take]
          split
          · rename_i hi
            rw [Array.getElem?_toList, hcell i hi, List.getElem?_eq_getElem hi]
          · rw [List.getElem?_eq_none (by omega)]
        refine ⟨c, t, fr, hh, ?_, by show 0 + cs.length ≤ c.size; omega, ?_, ?_, fun h => (by rw [hko] at h; cases h), fun s h => (by subst h; cases hko), fun h => ⟨?_, rfl⟩⟩
        · show c.size = lim b
          simp only [lim, hh]
        · show VRels _ cs ((c.toList.drop 0).take cs.length)
          rw [heq]
          exact VRels.plain h1
        · intro v hv
          exact okCell_of_plain (List.all_eq_true.1 h1 v hv)
        · rcases hkk with rfl | ⟨_, t', fr', he⟩
          · cases h
          · rw [hh] at he
            injection he with he
            injection he with he
            show lim b = cs.length
            simp only [lim, hh, he]
            simp
    · rw [if_neg h] at hb; cases hb
  · have : b < G := by
      by_cases h : b < G
      · exact h
      · rw [if_neg h] at hb; cases hb
    exfalso
    revert ho
    show (if b < G then _ else _ : Blk).own = true → False
    rw [if_pos this]
    cases hc : tab b with
    | none => simp [Blk.own]
    | some kcs =>
      obtain ⟨k, cs⟩ := kcs
      rcases (ht b k cs this hc).1 with rfl | ⟨rfl, _⟩ <;> simp [Blk.own, Use.own]
end Go.Abs
