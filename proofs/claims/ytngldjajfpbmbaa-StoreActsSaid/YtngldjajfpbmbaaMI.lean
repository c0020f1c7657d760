/- Contracts of functions that the statement reaches; each theorem carries its own conditions, the last theorem of the claim has none. -/
import Derived.Test.YtngldjajfpbmbaaMD
import Derived.Test.YtngldjajfpbmbaaAbsZ
set_option linter.unusedVariables false
set_option linter.unusedSimpArgs false
namespace Go.Proofs.Ytngldjajfpbmbaa.A
open Go Go.Abs

/-- Symbol. -/
def Sm.sym (m : Sm) (s : ByteArray) : (V × Int) × Sm :=
  if s.size = 0 ∨ 64 < s.size then (((0, 0), 1), m) else match m.names.findIdx? (fun t => decide (s = t)) with
    | some i => (((6, (i : Int)), 0), m)
    | none => (((6, (m.names.length : Int)), 0), ⟨m.lim, m.used, m.objs, m.names ++ [s]⟩)
theorem mapGet_zip (s : ByteArray) : ∀ (ns : List ByteArray) (k : Nat), mapGet ((ns.zipIdx k).map fun x => (Value.string x.1, Value.int .i64 (x.2 : Nat))) s = some ((ns.findIdx? fun t => decide (s = t)).map fun i => Value.int .i64 ((i + k : Nat) : Int))
  | [], k => rfl
  | n :: ns, k => by
    simp only [List.zipIdx_cons, List.map_cons, mapGet, ba_beq, List.findIdx?_cons]
    by_cases h : s = n
    · simp [h]
    · simp only [decide_eq_false h, Bool.false_eq_true, if_false]
      rw [mapGet_zip s ns (k + 1)]
      cases ns.findIdx? fun t => decide (s = t) with
      | none => rfl
      | some i => simp; omega
theorem mapPut_zip (s : ByteArray) : ∀ (ns : List ByteArray) (k : Nat) (x : Value), (ns.findIdx? fun t => decide (s = t)) = none → mapPut ((ns.zipIdx k).map fun x => (Value.string x.1, Value.int .i64 (x.2 : Nat))) s x = some (((ns.zipIdx k).map fun x => (Value.string x.1, Value.int .i64 (x.2 : Nat))) ++ [(.string s, x)])
  | [], k, x, _ => rfl
  | n :: ns, k, x, h => by
    have hne : ¬ s = n := by
      rintro rfl
      simp at h
    have h' : (ns.findIdx? fun t => decide (s = t)) = none := by
      rw [List.findIdx?_eq_none_iff] at h ⊢
      intro t ht
      exact h t (by simp [ht])
    simp only [List.zipIdx_cons, List.map_cons, mapPut, ba_beq, decide_eq_false hne, Bool.false_eq_true, if_false]
    rw [mapPut_zip s ns (k + 1) x h']
    rfl
theorem entries_get (s : ByteArray) (ns : List ByteArray) : mapGet (entries ns) s = some ((ns.findIdx? fun t => decide (s = t)).map fun (i : Nat) => Value.int .i64 (i : Int)) := mapGet_zip s ns 0
theorem entries_put (s : ByteArray) (ns : List ByteArray) (h : (ns.findIdx? fun t => decide (s = t)) = none) : mapPut (entries ns) s (.int .i64 ns.length) = some (entries (ns ++ [s])) := by
  have := mapPut_zip s ns 0 (.int .i64 ns.length) h
  have e : entries (ns ++ [s]) = entries ns ++ [(.string s, .int .i64 ns.length)] := by simp [entries, List.zipIdx_append]
  rw [e]
  exact this

theorem c23 {H : AHeap} {p : Nat} {m : Sm} {F : Nat → Prop} (h : St H p m F) (hn : m.names.length ≤ 1048576) (s : ByteArray) (hs : s.size ≤ maxLen) :
    ACalls Try.prog 23 [Pt p, .string s] H fun r H' => r = .tuple #[vV (m.sym s).1.1, .int .i64 (m.sym s).1.2] ∧ ∃ F', St H' p (m.sym s).2 F' ∧ Fr F H F' H' := by
  refine S23_calls ?_
  unfold S23
  have hpl := h.lt p h.fp
  have hk1 : ∀ x, Keep H.next H (H.alloc x) := fun x => (Keep.refl _ _).alloc (Nat.le_refl _) _
  have hk2 : ∀ x y, Keep H.next H ((H.alloc x).upd H.next y) := fun x y => (hk1 x).upd (Nat.le_refl _) _
  have hz : (s = ⟨#[]⟩) ↔ s.size = 0 := by
    constructor
    · rintro rfl; rfl
    · intro h0; cases s; simp [ByteArray.size] at h0; simp [h0]
  by_cases h0 : s.size = 0
  · have hb : (s == ⟨#[]⟩) = true := by rw [ba_beq, decide_eq_true (hz.2 h0)]
    have e : m.sym s = (((0, 0), 1), m) := by unfold Sm.sym; rw [if_pos (.inl h0)]
    rw [e]
    simp [hb, at_alloc, at_upd]
    exact ⟨F, h.kept (hk2 _ _), Fr.keep (hk2 _ _)⟩
  have hb : (s == ⟨#[]⟩) = false := by rw [ba_beq, decide_eq_false (fun e => h0 (hz.1 e))]
  by_cases h64 : 64 < s.size
  · have h64' : (64 : Int) < s.size := by omega
    have e : m.sym s = (((0, 0), 1), m) := by unfold Sm.sym; rw [if_pos (.inr h64)]
    rw [e]
    simp [hb, h64, h64', at_alloc, at_upd]
    exact ⟨F, h.kept (hk2 _ _), Fr.keep (hk2 _ _)⟩
  have h64' : ¬ (64 : Int) < s.size := by omega
  have e : m.sym s = (match m.names.findIdx? (fun t => decide (s = t)) with
    | some i => (((6, (i : Int)), 0), m)
    | none => (((6, (m.names.length : Int)), 0), ⟨m.lim, m.used, m.objs, m.names ++ [s]⟩)) := by unfold Sm.sym; rw [if_neg (by omega)]
  obtain ⟨A, os, NA, mb, hX⟩ := id h
  have hml := hX.lt mb hX.fm
  have hne : p ≠ H.next := by omega
  have hnem : mb ≠ H.next := by omega
  cases hf : m.names.findIdx? (fun t => decide (s = t)) with
  | some i =>
    rw [hf] at e
    simp only at e
    rw [e]
    simp [hb, h64, h64']
    unfold S23_64
    simp [at_alloc, hne, hX.hp, aLookup, hnem, hX.map, entries_get, hf, found]
    rw [aJoin_eq]
    simp
    unfold S23_63
    simp [at_alloc, at_upd]
    exact ⟨F, h.kept (hk2 _ _), Fr.keep (hk2 _ _)⟩
  | none =>
    rw [hf] at e
    simp only at e
    rw [e]
    simp [hb, h64, h64']
    unfold S23_64
    simp [at_alloc, hne, hX.hp, aLookup, hnem, hX.map, entries_get, hf, found]
    rw [aJoin_eq]
    simp
    unfold S23_62
    have w1 := wrap64 (x := (m.names.length : Int)) (by omega) (by omega)
    have hpm : p ≠ mb := by
      rintro rfl
      have := hX.map
      rw [hX.hp] at this
      cases this
    have hml2 : H.next ≠ mb ∧ H.next ≠ p := by omega
    simp [at_alloc, at_upd, hne, hX.hp, aMapUpd, hnem, hX.map, entries_put s _ hf, hpm]
    obtain ⟨G, hG⟩ : ∃ X, X = (H.alloc (.cells [.int .i64 0, .int .i64 0] .var 28)).upd mb (.map (entries (m.names ++ [s]))) := ⟨_, rfl⟩
    simp only [← hG]
    have hnG : G.next = H.next + 1 := by rw [hG]; simp
    have gat : ∀ b, b < H.next → b ≠ mb → G.at_ b = H.at_ b := by
      intro b hb hbm
      rw [hG, AHeap.at_upd_ne _ _ hbm, AHeap.at_alloc_ne _ _ (by omega)]
    have gm : G.at_ mb = .map (entries (m.names ++ [s])) := by rw [hG]; simp
    have g4 : G.at_ H.next = .cells [.int .i64 0, .int .i64 0] .var 28 := by rw [hG, AHeap.at_upd_ne _ _ hml2.1]; simp
    clear hG
    have rowm : ∀ (c : Nat) (ds : List Value) (u : Use) (t : TypeId), H.at_ c = .cells ds u t → c ≠ mb := by
      rintro c ds u t hc rfl
      rw [hX.map] at hc
      cases hc
    have hO : Ow 1 eS 9 0 G NA m.names := hX.names.at (by omega) fun x hx => by
      obtain ⟨_, _, hx2, ds, hds⟩ := hX.names.blkOf hx
      exact gat _ hx2 (rowm _ _ _ _ hds)
    have hR : Rd 1 eS (G.next + 1) (G.alloc (.cells [.string s] (.row 1) 9)) (some ⟨G.next, 0, none⟩) [s] := Rd.mk' (by simp) (by omega) (AHeap.at_alloc_new _ _) (by simp) (by simp) (by simp)
    have := (hO.alloc (.cells [.string s] (.row 1) 9)).append (bytes := 16) (c := m.names.length) (c' := 1) (K := fun t49_57 H_58 =>
      bnd (Option.map (H_58.upd p) (blkSt 1 (H_58.at_ p) 3 (vcells t49_57))) fun H_61 => S23_63 (fun r H' => r = Value.tuple #[vV (6, ↑m.names.length), Value.int IntKind.i64 0] ∧ ∃ F', St H' p { lim := m.lim, used := m.used, objs := m.objs, names := m.names ++ [s] } F' ∧ Fr F H F' H') (Pt H.next) [Value.int IntKind.i64 ↑m.names.length] H_61) hR (Nat.zero_le _) (by simp only [maxLen, List.length_singleton]; omega) (by simp only [List.length_singleton]; omega) fun H' h1 h2 h3 _ => by
      simp at h1 h2 h3
      have hat : ∀ b, b < H.next → b ≠ mb → (∀ x, NA = some x → x.block ≠ b) → H'.at_ b = H.at_ b := by
        intro b hb hbm hN
        rw [h3 b (by omega) (fun o s hh => hN _ hh rfl), AHeap.at_alloc_ne _ _ (by omega)]
        exact gat b hb hbm
      have notN : ∀ (c : Nat) (ds : List Value) (u : Use) (t : TypeId), H.at_ c = .cells ds u t → t ≠ 9 → ∀ x, NA = some x → x.block ≠ c := by
        rintro c ds u t hc ht x hx rfl
        obtain ⟨_, _, _, es, hes⟩ := hX.names.blkOf hx
        rw [hc] at hes
        cases hes
        exact ht rfl
      have e1 : H'.at_ p = .cells [.int .i64 m.lim, .int .i64 m.used, .slice A m.objs.length m.objs.length, .slice NA m.names.length m.names.length, .map (some mb)] .var 88 := by
        rw [hat p hpl hpm (notN _ _ _ _ hX.hp (by decide))]; exact hX.hp
      have nN : ∀ x, NA = some x → x.block < H.next := fun x hx => (hX.names.blkOf hx).2.2.1
      have e4 : H'.at_ H.next = .cells [.int .i64 0, .int .i64 0] .var 28 := by
        rw [h3 _ (by omega) (fun o s hh => by have := nN _ hh; dsimp only at this; omega), AHeap.at_alloc_ne _ _ (by omega)]; exact g4
      have em : H'.at_ mb = .map (entries (m.names ++ [s])) := by
        rw [h3 _ (by omega) (fun o s hh => by
          have := hX.names.blkOf hh
          obtain ⟨_, _, _, ds, hds⟩ := this
          have := rowm _ _ _ _ hds
          exact absurd rfl this), AHeap.at_alloc_ne _ _ (by omega)]; exact gm
      unfold S23_63
      simp [e1, e4, at_upd, hml2, hne]
      have un : ∀ x y c, c ≠ p → c ≠ H.next → ((H'.upd p x).upd H.next y).at_ c = H'.at_ c := fun x y c hc hc2 => by rw [AHeap.at_upd_ne _ _ hc2, AHeap.at_upd_ne _ _ hc]
      have rowp : ∀ (c : Nat) (ds : List Value) (n : Nat) (t : TypeId), H.at_ c = .cells ds (.row n) t → c ≠ p := by
        rintro c ds n t hc rfl
        rw [hX.hp] at hc
        cases hc
      refine ⟨fun b => F b ∨ b = G.next + 1, ⟨A, os, some ⟨G.next + 1, 0, none⟩, mb, ?_⟩, ⟨by simp; omega, fun b hb hf => ?_, fun b hb => ?_⟩⟩
      · refine ⟨hX.len, ?_, ?_, ?_, hX.dist, ?_, ?_, .inl hX.fp, fun a ha => .inl (hX.fA a ha), fun i a ha => .inl (hX.fo i a ha), fun a ha => by cases ha; exact .inr rfl, .inl hX.fm, ?_⟩
        · simp [at_upd, hne]
        · refine hX.objs.at (by simp; omega) fun x hx => ?_
          obtain ⟨_, _, hx2, ds, hds⟩ := hX.objs.blkOf hx
          rw [un _ _ _ (rowp _ _ _ _ hds) (by omega)]
          exact hat _ hx2 (rowm _ _ _ _ hds) (notN _ _ _ _ hds (by decide))
        · intro i o a ho ha
          refine (hX.slots i o a ho ha).at (by simp; omega) fun x hx => ?_
          obtain ⟨_, _, hx2, ds, hds⟩ := (hX.slots i o a ho ha).blkOf hx
          rw [un _ _ _ (rowp _ _ _ _ hds) (by omega)]
          exact hat _ hx2 (rowm _ _ _ _ hds) (notN _ _ _ _ hds (by decide))
        · have h1' : Ow 1 eS 9 0 H' (some ⟨G.next + 1, 0, none⟩) (m.names ++ [s]) := h1
          refine h1'.at (Nat.le_refl _) fun x hx => ?_
          cases hx
          exact un _ _ _ (by show G.next + 1 ≠ p; omega) (by show G.next + 1 ≠ H.next; omega)
        · rw [un _ _ _ (Ne.symm hpm) (by omega)]; exact em
        · rintro b (hb | rfl)
          · have := hX.lt b hb; simp; omega
          · simp; omega
      · rw [un _ _ b (by rintro rfl; exact hf hX.fp) (by omega)]
        exact hat b hb (by rintro rfl; exact hf hX.fm) fun x hx => by rintro rfl; exact hf (hX.fN x hx)
      · rcases hb with hb | rfl
        · exact .inl hb
        · exact .inr (by omega)
    rw [hnG, List.length_singleton] at this
    exact this

/-- Name. -/
def Sm.nameOf (m : Sm) (v : V) : ByteArray × Int := if v.1 = 6 ∧ m.sound v = true then (m.names.getD v.2.toNat ⟨#[]⟩, 0) else (⟨#[]⟩, 10)
theorem c24 {H : AHeap} {p : Nat} {m : Sm} {F : Nat → Prop} (h : St H p m F) (v : V) : ACalls Try.prog 24 [Pt p, vV v] H fun r H' => r = .tuple #[.string (m.nameOf v).1, .int .i64 (m.nameOf v).2] ∧ H' = H := by
  refine ACalls.eq' (S24_calls ?_) (vin_two (.plain rfl) (.plain rfl))
  obtain ⟨A, os, NA, mb, hX⟩ := id h
  unfold S24
  have hk : ∀ x, Keep H.next H (H.alloc x) := fun x => (Keep.refl _ _).alloc (Nat.le_refl _) _
  have hne : p ≠ H.next := hX.ne
  simp
  unfold S24_35
  obtain ⟨t, n⟩ := v
  by_cases h6 : t = 6
  · subst h6
    simp
    refine (c30 (h.kept (hk _)) (6, n)).use ?_
    cases hs : m.sound (6, n) with
    | false => simp [Sm.nameOf, hs, hk]
    | true =>
      have hs' : 0 ≤ n ∧ n < m.names.length := by simpa [Sm.sound] using hs
      simp
      unfold S24_34
      have hN : Ow 1 eS 9 0 (H.alloc (.cells [.int .i64 6, .int .i64 n] .var 28)) NA m.names := hX.names.kept (hk _)
      have i1 := hN.rd.idx (k := .i64) (j := n) (c := m.names.length) hs'.1 hs'.2
      have hlt : n.toNat < m.names.length := by omega
      have l1 := hN.rd.ld (enc := Value.string) hlt
      have l2 : aLdCell (.pointer (some ⟨p, 3, none⟩)) (H.alloc (.cells [.int .i64 6, .int .i64 n] .var 28)) = some (.slice NA m.names.length m.names.length) := by simp [at_alloc, hne, hX.hp]
      have l3 : aLdCell (.pointer (some ⟨H.next, 1, none⟩)) (H.alloc (.cells [.int .i64 6, .int .i64 n] .var 28)) = some (.int .i64 n) := by simp
      simp [l2, l3, i1, l1, -aLdCell_ptr, Sm.nameOf, hs, hk, hlt]
  · simp [h6, Sm.nameOf, hk]
end Go.Proofs.Ytngldjajfpbmbaa.A

set_option linter.unusedVariables false
set_option linter.unusedSimpArgs false
namespace Go.Proofs.Ytngldjajfpbmbaa.A
open Go Go.Abs

def okN (z : ByteArray) : Prop := 1 ≤ z.size ∧ z.size ≤ 64
instance (z : ByteArray) : Decidable (okN z) := by unfold okN; infer_instance
def nmM (ns : List ByteArray) : Sm := ⟨0, 0, [], ns⟩
structure NI (zs : List ByteArray) (i : Nat) (ns : List ByteArray) (L : List V) : Prop where
  len : L.length = i
  le : ns.length ≤ i
  dist : ∀ (a b : Nat) (s : ByteArray), ns[a]? = some s → ns[b]? = some s → a = b
  good : ∀ (j : Nat) (z : ByteArray) (v : V), zs[j]? = some z → L[j]? = some v → okN z → ∃ n : Nat, v = (6, (n : Int)) ∧ ns[n]? = some z
theorem NI.step {zs : List ByteArray} {i : Nat} {ns : List ByteArray} {L : List V} (h : NI zs i ns L) {z : ByteArray} (hz : zs[i]? = some z) :
    ∃ ns', ((nmM ns).sym z).2 = nmM ns' ∧ NI zs (i + 1) ns' (L ++ [((nmM ns).sym z).1.1]) ∧ (((nmM ns).sym z).1.2 = 0 ↔ okN z) := by
  have old : ∀ (ns' : List ByteArray) (w : V), (∀ (n : Nat) s, ns[n]? = some s → ns'[n]? = some s) → (okN z → ∃ n : Nat, w = (6, (n : Int)) ∧ ns'[n]? = some z) → ∀ (j : Nat) (z : ByteArray) (v : V), zs[j]? = some z → (L ++ [w])[j]? = some v → okN z → ∃ n : Nat, v = (6, (n : Int)) ∧ ns'[n]? = some z := by
    intro ns' w hm hw j y v hj hv hok
    rw [List.getElem?_append] at hv
    split at hv
    · obtain ⟨n, h1, h2⟩ := h.good j y v hj hv hok
      exact ⟨n, h1, hm n y h2⟩
    · rename_i hlt
      rw [h.len] at hlt hv
      cases he : j - i with
      | zero =>
        rw [he] at hv
        simp at hv
        subst hv
        have : j = i := by omega
        subst this
        rw [hz] at hj
        cases hj
        exact hw hok
      | succ k => rw [he] at hv; simp at hv
  unfold Sm.sym
  by_cases hok : okN z
  · rw [if_neg (by unfold okN at hok; omega)]
    cases hf : (nmM ns).names.findIdx? (fun t => decide (z = t)) with
    | some k =>
      have hf' : ns.findIdx? (fun t => decide (z = t)) = some k := hf
      rw [List.findIdx?_eq_some_iff_getElem] at hf'
      obtain ⟨h1, h2, _⟩ := hf'
      have h2' : z = ns[k] := by simpa using h2
      have hk : ns[k]? = some z := by rw [List.getElem?_eq_getElem h1, h2']
      exact ⟨ns, rfl, ⟨by simp [h.len], by have := h.le; omega, h.dist, old ns _ (fun n s hs => hs) fun _ => ⟨k, rfl, hk⟩⟩, by simp [hok]⟩
    | none =>
      have hf' : ns.findIdx? (fun t => decide (z = t)) = none := hf
      rw [List.findIdx?_eq_none_iff] at hf'
      refine ⟨ns ++ [z], rfl, ⟨by simp [h.len], by have := h.le; simp; omega, ?_, old (ns ++ [z]) _ (fun n s hs => ?_) fun _ => ⟨ns.length, rfl, by simp⟩⟩, by simp [hok]⟩
      · have key : ∀ (a : Nat) (s : ByteArray), (ns ++ [z])[a]? = some s → ns[a]? = some s ∨ (a = ns.length ∧ s = z) := by
          intro a s ha
          rw [List.getElem?_append] at ha
          split at ha
          · exact .inl ha
          · cases he : a - ns.length with
            | zero => rw [he] at ha; simp at ha; exact .inr ⟨by omega, ha.symm⟩
            | succ k => rw [he] at ha; simp at ha
        have nz : ∀ (a : Nat), ns[a]? = some z → False := fun a ha => by
          have := hf' z (List.mem_of_getElem? ha)
          simp at this
        intro a b s ha hb
        rcases key a s ha with h1 | ⟨h1, h1'⟩ <;> rcases key b s hb with h2 | ⟨h2, h2'⟩
        · exact h.dist a b s h1 h2
        · subst h2'; exact (nz a h1).elim
        · subst h1'; exact (nz b h2).elim
        · omega
      · rw [List.getElem?_append_left (List.getElem?_eq_some_iff.1 hs).1]; exact hs
  · rw [if_pos (by unfold okN at hok; omega)]
    exact ⟨ns, rfl, ⟨by simp [h.len], by have := h.le; omega, h.dist, old ns _ (fun n s hs => hs) fun hh => absurd hh hok⟩, by simp [hok]⟩
theorem NI.eq {zs : List ByteArray} {i : Nat} {ns : List ByteArray} {L : List V} (h : NI zs i ns L) {j k : Nat} {y z : ByteArray} {v w : V} (hy : zs[j]? = some y) (hz : zs[k]? = some z) (hv : L[j]? = some v) (hw : L[k]? = some w) (oy : okN y) (oz : okN z) : (v = w) ↔ (y = z) := by
  obtain ⟨a, rfl, ha⟩ := h.good j y v hy hv oy
  obtain ⟨b, rfl, hb⟩ := h.good k z w hz hw oz
  constructor
  · intro e
    have := congrArg Prod.snd e
    dsimp only at this
    have : a = b := by omega
    subst this
    rw [ha] at hb
    cases hb
    rfl
  · rintro rfl
    rw [h.dist a b y ha hb]
theorem NI.name {zs : List ByteArray} {i : Nat} {ns : List ByteArray} {L : List V} (h : NI zs i ns L) {j : Nat} {y : ByteArray} {v : V} (hy : zs[j]? = some y) (hv : L[j]? = some v) (oy : okN y) : (nmM ns).nameOf v = (y, 0) := by
  obtain ⟨a, rfl, ha⟩ := h.good j y v hy hv oy
  have hlt := (List.getElem?_eq_some_iff.1 ha).1
  unfold Sm.nameOf
  rw [if_pos ⟨rfl, by simp [Sm.sound, nmM, hlt]⟩]
  simp [nmM, List.getD_eq_getElem?_getD, ha]

/-- The inner turn. -/
theorem l6_289 {H0 H : AHeap} {lo p : Nat} {F : Nat → Prop} {A0 A : Option Addr} {zs : List ByteArray} {ns : List ByteArray} {L : List V} {i k n : Nat} {R : Value → AHeap → Prop} {again : List Value → AHeap → Prop} {y : Value} (hlo : lo ≤ H0.next) (hX : Rd 1 eS lo H0 A0 zs) (hN : NI zs n ns L) (hn : n ≤ 60) (hnz : n ≤ zs.length) (hi : i < n) (hk : k < i) (hW : Wb H0 H F) (hA : Lr H F A L)
    (oki : ∀ z, zs[i]? = some z → okN z) (ha : again [.int .i64 ((k : Int) + 1)] H) :
    S6_289 (.slice A0 zs.length zs.length) R [.slice A L.length L.length, y] [.int .i64 i] [.int .i64 k] H again := by
  unfold S6_289
  have hXH := hX.keep (H' := H) fun c hc => hW.keep.at_ c (by omega)
  have hlen := hN.len
  have i1 := hXH.idx (k := .i64) (j := (k : Int)) (c := zs.length) (by omega) (by omega)
  rw [Int.toNat_natCast] at i1
  have l1 := hXH.ld (enc := Value.string) (j := k) (by omega)
  have i2 := hXH.idx (k := .i64) (j := (i : Int)) (c := zs.length) (by omega) (by omega)
  rw [Int.toNat_natCast] at i2
  have l2 := hXH.ld (enc := Value.string) (j := i) (by omega)
  have i3 := hA.ow.rd.idx (k := .i64) (j := (k : Int)) (c := L.length) (by omega) (by omega)
  rw [Int.toNat_natCast] at i3
  have l3 : aLdAgg 2 (slot 2 A k) H = some (vV (L[k]'(by omega))) := hA.ow.rd.agg (j := k) (by omega)
  have i4 := hA.ow.rd.idx (k := .i64) (j := (i : Int)) (c := L.length) (by omega) (by omega)
  rw [Int.toNat_natCast] at i4
  have l4 : aLdAgg 2 (slot 2 A i) H = some (vV (L[i]'(by omega))) := hA.ow.rd.agg (j := i) (by omega)
  have w1 := wrap64 (x := (k : Int) + 1) (by omega) (by omega)
  have hzk : zs[k]? = some (zs[k]'(by omega)) := List.getElem?_eq_getElem _
  have hzi : zs[i]? = some (zs[i]'(by omega)) := List.getElem?_eq_getElem _
  have hLk : L[k]? = some (L[k]'(by omega)) := List.getElem?_eq_getElem _
  have hLi : L[i]? = some (L[i]'(by omega)) := List.getElem?_eq_getElem _
  by_cases h1 : 1 ≤ (zs[k]'(by omega)).size
  · have h1' : (1 : Int) ≤ (zs[k]'(by omega)).size := by omega
    by_cases h2 : (zs[k]'(by omega)).size ≤ 64
    · have h2' : ((zs[k]'(by omega)).size : Int) ≤ 64 := by omega
      have heq := hN.eq hzi hzk hLi hLk (oki _ hzi) ⟨h1, h2⟩
      have hbb : ((decide (L[i]'(by omega) = L[k]'(by omega))) == ((zs[i]'(by omega)) == (zs[k]'(by omega)))) = true := by
        rw [ba_beq]
        simp only [heq]
        simp
      simp only [nth_zero, nth_1, i1, l1, i2, l2, i3, l3, i4, l4, bnd_some', aLenStr_string, aBin_geq, aBin_leq, decide_eq_true h1', decide_eq_true h2', aGuardK_tt, aPick_tt, eqV, aBin_seql, aBin_bneq, hbb, Bool.not_true, aCond_false, aBin_add, w1]
      exact ha
    · have h2' : ¬ ((zs[k]'(by omega)).size : Int) ≤ 64 := by omega
      simp only [nth_zero, nth_1, i1, l1, i2, l2, i3, l3, i4, l4, bnd_some', aLenStr_string, aBin_geq, aBin_leq, decide_eq_true h1', decide_eq_false h2', aGuardK_tt, aGuardK_ft, aPick_tt, aPick_ff, aCond_false, aBin_add, w1]
      exact ha
  · have h1' : ¬ (1 : Int) ≤ (zs[k]'(by omega)).size := by omega
    simp only [nth_zero, nth_1, i1, l1, i2, l2, i3, l3, i4, l4, bnd_some', aLenStr_string, aBin_geq, aBin_leq, decide_eq_false h1', aGuardK_tt, aGuardK_ft, aPick_tt, aPick_ff, aCond_false, aBin_add, w1]
    exact ha

theorem l6_296 {H0 H : AHeap} {lo p : Nat} {F : Nat → Prop} {A0 A : Option Addr} {zs : List ByteArray} {ns : List ByteArray} {L : List V} {i n : Nat} {again : List Value → AHeap → Prop} {y : Value} (hlo : lo ≤ H0.next) (hX : Rd 1 eS lo H0 A0 zs) (hN : NI zs n ns L) (hn : n ≤ 60) (hnz : n ≤ zs.length) (hi : i ≤ n) (hW : Wb H0 H F) (hS : St H p (nmM ns) F) (hA : Lr H F A L)
    (ha : i < n → again [.int .i64 ((i + 1 : Nat) : Int)] H) :
    S6_296 (.slice A0 zs.length zs.length) (fun r _ => r = .bool true) (Pt p) [.slice A L.length L.length, y] [.int .i64 i] H again := by
  unfold S6_296
  have hlen := hN.len
  by_cases hlt : i < n
  · have hlt' : i < L.length := by omega
    simp [hlt']
    unfold S6_292
    rw [aJoin_eq]
    have w1 := wrap64 (x := (i : Int) + 1) (by omega) (by omega)
    have hXH := hX.keep (H' := H) fun c hc => hW.keep.at_ c (by omega)
    have i2 := hXH.idx (k := .i64) (j := (i : Int)) (c := zs.length) (by omega) (by omega)
    rw [Int.toNat_natCast] at i2
    have l2 := hXH.ld (enc := Value.string) (j := i) (by omega)
    have i4 := hA.ow.rd.idx (k := .i64) (j := (i : Int)) (c := L.length) (by omega) (by omega)
    rw [Int.toNat_natCast] at i4
    have l4 : aLdAgg 2 (slot 2 A i) H = some (vV L[i]) := hA.ow.rd.agg (j := i) (by omega)
    have hzi : zs[i]? = some (zs[i]'(by omega)) := List.getElem?_eq_getElem _
    have hLi : L[i]? = some L[i] := List.getElem?_eq_getElem _
    have go : again [.int .i64 (IntKind.i64.wrap ((i : Int) + 1))] H := by rw [w1]; exact ha hlt
    by_cases h1 : (zs[i]'(by omega)).size < 1
    · have h1' : ((zs[i]'(by omega)).size : Int) < 1 := by omega
      simp only [nth_zero, i2, l2, bnd_some', aLenStr_string, aBin_lss, decide_eq_true h1', aGuardK_tf, aPick_tt, aCond_true, aBin_add]
      exact go
    have h1' : ¬ ((zs[i]'(by omega)).size : Int) < 1 := by omega
    by_cases h2 : 64 < (zs[i]'(by omega)).size
    · have h2' : (64 : Int) < ((zs[i]'(by omega)).size : Int) := by omega
      simp only [nth_zero, i2, l2, bnd_some', aLenStr_string, aBin_lss, aBin_gtr, decide_eq_false h1', decide_eq_true h2', aGuardK_ff, aPick_ff, aCond_true, aBin_add]
      exact go
    have h2' : ¬ (64 : Int) < ((zs[i]'(by omega)).size : Int) := by omega
    simp only [nth_zero, i2, l2, bnd_some', aLenStr_string, aBin_lss, aBin_gtr, decide_eq_false h1', decide_eq_false h2', aGuardK_ff, aPick_ff, aCond_false, i4, l4]
    have oki : okN (zs[i]'(by omega)) := ⟨by omega, by omega⟩
    refine (c24 hS L[i]).use ?_
    rw [hN.name hzi hLi oki]
    unfold S6_291
    have hrefl : ((zs[i]'(by omega)) == (zs[i]'(by omega))) = true := by rw [ba_beq]; simp
    simp [i2, l2, hrefl, -aLdCell_ptr]
    refine aLoop_st i (fun k => [.int .i64 k]) (fun k H' => H' = H) rfl rfl ?_
    rintro k H' again2 hk rfl ha2
    unfold S6_290
    by_cases hki : k < i
    · simp [hki]
      exact l6_289 (p := p) hlo hX hN hn hnz hlt hki hW hA (fun z hz => by rw [hzi] at hz; cases hz; exact oki) (ha2 H' hki rfl)
    · have : k = i := by omega
      subst this
      simp only [nth_zero, aBin_lss, bnd_some', Int.lt_irrefl, decide_false, aCond_false, aBin_add]
      exact go
  · have hie : i = n := by omega
    subst hie
    have : ¬ i < L.length := by omega
    simp [this]
    refine (c17 hS).use ?_
    simp [nmM]

theorem c6 {H0 : AHeap} {lo : Nat} {A0 : Option Addr} {zs : List ByteArray} (hlo : lo ≤ H0.next) (hX : Rd 1 eS lo H0 A0 zs) (hzs : ∀ z ∈ zs, z.size ≤ maxLen) (hmx : zs.length ≤ maxLen) :
    ACalls Try.prog 6 [.slice A0 zs.length zs.length] H0 fun r _ => r = .bool true := by
  refine S6_calls ?_
  unfold S6
  refine (c13 (by omega) (by omega)).mono fun r H1 ⟨p, F, hr, hS, hkp, hF⟩ => ?_
  subst hr
  simp
  refine c14.use ?_
  unfold S6_298
  simp
  obtain ⟨n, hn⟩ : ∃ n, n = min zs.length 60 := ⟨_, rfl⟩
  refine aLoop_vs n (fun i vs H' => ∃ A F ns L, vs = [.slice A L.length L.length, .int .i64 i] ∧ St H' p (nmM ns) F ∧ Wb H0 H' F ∧ Lr H' F A L ∧ (∀ x, A = some x → H0.next ≤ x.block) ∧ NI zs i ns L) ⟨none, F, [], [], rfl, hS, ⟨hkp, hF⟩, Lr.nil _ _, fun x hx => (by cases hx), ⟨rfl, Nat.le_refl _, by simp, by simp⟩⟩ ?_
  clear hS hkp hF
  rintro i vs H' again hi ⟨A, F, ns, L, rfl, hS, hW, hA, hA0, hN⟩ ha
  unfold S6_297
  have hlen := hN.len
  have hXH := hX.keep (H' := H') fun c hc => hW.keep.at_ c (by omega)
  by_cases hlt : i < n
  · have h1 : i < zs.length := by omega
    have h2 : (i : Int) < 60 := by omega
    have i1 := hXH.idx (k := .i64) (j := (i : Int)) (c := zs.length) (by omega) (by omega)
    rw [Int.toNat_natCast] at i1
    have l1 := hXH.ld (enc := Value.string) (j := i) h1
    simp [h1, h2, i1, l1, -aLdCell_ptr]
    have hz : zs[i]? = some zs[i] := List.getElem?_eq_getElem _
    obtain ⟨ns', e1, hN', e2⟩ := hN.step hz
    refine (c23 hS (by have := hN.le; simp only [nmM]; omega) zs[i] (hzs _ (List.getElem_mem h1))).mono fun r H2 ⟨hr, F2, hS2, hF2⟩ => ?_
    rw [e1] at hS2
    generalize ((nmM ns).sym zs[i]).1.1 = v at *
    generalize ((nmM ns).sym zs[i]).1.2 = er at *
    subst hr
    unfold S6_83
    have hW2 := hW.fr hF2
    have hA2 := hA.fr hF2
    simp [at_alloc]
    obtain ⟨G, hG⟩ : ∃ X, X = (H2.alloc (.cells [.int .i64 0, .int .i64 0] .var 28)).upd H2.next (.cells [.int .i64 v.1, .int .i64 v.2] .var 28) := ⟨_, rfl⟩
    have hkG : Keep H2.next H2 G := hG ▸ ((Keep.refl _ _).alloc (Nat.le_refl _) _).upd (Nat.le_refl _) _
    have gv : aLdAgg 2 (Pt H2.next) G = some (vV v) := by rw [hG]; simp
    have hnG : G.next = H2.next + 1 := by rw [hG]; simp
    simp only [← hG]
    clear hG
    have hWG := hW2.kept hkG
    have hXG := hX.keep (H' := G) fun c hc => hWG.keep.at_ c (by omega)
    have i2 := hXG.idx (k := .i64) (j := (i : Int)) (c := zs.length) (by omega) (by omega)
    rw [Int.toNat_natCast] at i2
    have l2 := hXG.ld (enc := Value.string) (j := i) h1
    have hSG := hS2.kept hkG
    have hAG := hA2.kept hkG
    have w1 := wrap64 (x := (i : Int) + 1) (by omega) (by omega)
    have fin : S6_82 [.slice A L.length L.length, .int .i64 i] again (Pt H2.next) G := by
      unfold S6_82
      simp only [gv, bnd_some', aBuildSlice_eq]
      simp
      have := app1 (v := v) (K := fun t92_122 H_123 => again [t92_122, .int .i64 (IntKind.i64.wrap ((i : Int) + 1))] H_123) hSG.lt hAG (by omega) fun H3 hA3 hn3 hat3 => by
        rw [w1]
        have hWn := hWG.keep.next
        refine ha _ H3 hlt ⟨_, F2, ns', L ++ [v], by rw [List.length_append]; rfl, hSG.frame hn3 fun c hc => hat3 c (hSG.lt c hc) fun x hx => by rintro rfl; exact hAG.nf x hx hc, ⟨⟨by omega, fun c hc => ?_⟩, hWG.hi⟩, hA3, fun x hx => by cases hx; show H0.next ≤ G.next + 1; omega, hN'⟩
        rw [hat3 c (by omega) fun x hx => by have := hA0 x hx; omega]
        exact hWG.keep.at_ c hc
      exact this
    by_cases g1 : 1 ≤ zs[i].size
    · have g1' : (1 : Int) ≤ zs[i].size := by omega
      by_cases g2 : zs[i].size ≤ 64
      · have g2' : (zs[i].size : Int) ≤ 64 := by omega
        have he : er = 0 := e2.2 ⟨g1, g2⟩
        simp only [nth_1, i2, l2, bnd_some', aLenStr_string, aBin_geq, aBin_leq, decide_eq_true g1', decide_eq_true g2', aGuardK_tt, aPick_tt, aBin_bneq, he, decide_true, beq_self_eq_true, Bool.not_true, aCond_false]
        exact fin
      · have g2' : ¬ (zs[i].size : Int) ≤ 64 := by omega
        have he : ¬ er = 0 := fun h => g2 (e2.1 h).2
        simp only [nth_1, i2, l2, bnd_some', aLenStr_string, aBin_geq, aBin_leq, decide_eq_true g1', decide_eq_false g2', aGuardK_tt, aPick_tt, aBin_bneq, decide_eq_false he, beq_self_eq_true, Bool.not_true, aCond_false]
        exact fin
    · have g1' : ¬ (1 : Int) ≤ zs[i].size := by omega
      have he : ¬ er = 0 := fun h => g1 (e2.1 h).1
      simp only [nth_1, i2, l2, bnd_some', aLenStr_string, aBin_geq, aBin_leq, decide_eq_false g1', aGuardK_ft, aPick_ff, aBin_bneq, decide_eq_false he, beq_self_eq_true, Bool.not_true, aCond_false]
      exact fin
  · have hie : i = n := by omega
    subst hie
    have hcol : ACalls Try.prog 16 [Pt p, .slice none 0 0] H' fun r H2 => ∃ F2, St H2 p (nmM ns) F2 ∧ Fr F H' F2 H2 := by
      refine (c16 hS (m := nmM ns) ⟨rfl, by simp [nmM], by simp [nmM]⟩ ⟨by simp [nmM], by simp [nmM]⟩ (Nat.le_refl _) (Rd.nil 2 eV H'.next H') (by simp) (by simp) fun x hx => by cases hx).mono fun r H2 hr => ?_
      rw [if_pos (by simp)] at hr
      obtain ⟨s, hsl, hsr, C, F', rfl, hO, hS2, hF2, hCF⟩ := hr
      rw [none_collect _ hsl hsr] at hS2
      exact ⟨F', hS2, hF2⟩
    have rest : ∀ H2 F2, St H2 p (nmM ns) F2 → Fr F H' F2 H2 → aLoop [.int .i64 0] H2 fun vs_86 H_87 again_88 => S6_296 (.slice A0 zs.length zs.length) (fun r x => r = .bool true) (Pt p) [.slice A L.length L.length, .int .i64 i] vs_86 H_87 again_88 := by
      intro H2 F2 hS2 hF2
      refine aLoop_st i (fun j => [.int .i64 j]) (fun j H3 => H3 = H2) rfl rfl ?_
      rintro j H3 again2 hj rfl ha2
      exact l6_296 hlo hX hN (by omega) (by omega) hj (hW.fr hF2) hS2 (hA.fr hF2) fun hji => ha2 H3 hji rfl
    by_cases h1 : i < zs.length
    · have h2 : ¬ (i : Int) < 60 := by omega
      simp [h1, h2]
      exact hcol.mono fun r H2 ⟨F2, hS2, hF2⟩ => rest H2 F2 hS2 hF2
    · simp [h1]
      exact hcol.mono fun r H2 ⟨F2, hS2, hF2⟩ => rest H2 F2 hS2 hF2
end Go.Proofs.Ytngldjajfpbmbaa.A
