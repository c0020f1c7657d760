/- Contracts of functions that the statement reaches; each theorem carries its own conditions, the last theorem of the claim has none. -/
import Derived.Test.YtngldjajfpbmbaaS26
import Derived.Test.YtngldjajfpbmbaaAbsZ
set_option linter.unusedVariables false
set_option linter.unusedSimpArgs false
namespace Go.Proofs.Ytngldjajfpbmbaa.A
open Go Go.Abs

/-- Symbol. -/
def Sm.sym (m : Sm) (s : ByteArray) : (V × Int) × Sm :=
  if s.size = 0 ∨ 64 < s.size then (((0, 0), 1), m) else match m.names.findIdx? (fun t => decide (s = t)) with
    | some i => (((6, (i : Int)), 0), m)
    | none => (((6, (m.names.length : Int)), 0), ⟨m.lim, m.used, m.objs, m.names ++ [s]⟩)
theorem mapGet_zip (s : ByteArray) : ∀ (ns : List ByteArray) (k : Nat), mapGet ((ns.zipIdx k).map fun x => (Value.string x.1, Value.int .i64 (x.2 : Nat))) s = some ((ns.findIdx? fun t => decide (s = t)).map fun i => Value.int .i64 ((i + k : Nat) : Int))
  | [], k => rfl
  | n :: ns, k => by
    simp only [List.zipIdx_cons, List.map_cons, mapGet, ba_beq, List.findIdx?_cons]
    by_cases h : s = n
    · simp [h]
    · simp only [decide_eq_false h, Bool.false_eq_true, if_false]
      rw [mapGet_zip s ns (k + 1)]
      cases ns.findIdx? fun t => decide (s = t) with
      | none => rfl
      | some i => simp; omega
theorem mapPut_zip (s : ByteArray) : ∀ (ns : List ByteArray) (k : Nat) (x : Value), (ns.findIdx? fun t => decide (s = t)) = none → mapPut ((ns.zipIdx k).map fun x => (Value.string x.1, Value.int .i64 (x.2 : Nat))) s x = some (((ns.zipIdx k).map fun x => (Value.string x.1, Value.int .i64 (x.2 : Nat))) ++ [(.string s, x)])
  | [], k, x, _ => rfl
  | n :: ns, k, x, h => by
    have hne : ¬ s = n := by
      rintro rfl
      simp at h
    have h' : (ns.findIdx? fun t => decide (s = t)) = none := by
      rw [List.findIdx?_eq_none_iff] at h ⊢
      intro t ht
      exact h t (by simp [ht])
    simp only [List.zipIdx_cons, List.map_cons, mapPut, ba_beq, decide_eq_false hne, Bool.false_eq_true, if_false]
    rw [mapPut_zip s ns (k + 1) x h']
    rfl
theorem entries_get (s : ByteArray) (ns : List ByteArray) : mapGet (entries ns) s = some ((ns.findIdx? fun t => decide (s = t)).map fun (i : Nat) => Value.int .i64 (i : Int)) := mapGet_zip s ns 0
theorem entries_put (s : ByteArray) (ns : List ByteArray) (h : (ns.findIdx? fun t => decide (s = t)) = none) : mapPut (entries ns) s (.int .i64 ns.length) = some (entries (ns ++ [s])) := by
  have := mapPut_zip s ns 0 (.int .i64 ns.length) h
  have e : entries (ns ++ [s]) = entries ns ++ [(.string s, .int .i64 ns.length)] := by simp [entries, List.zipIdx_append]
  rw [e]
  exact this

theorem c23 {H : AHeap} {p : Nat} {m : Sm} {F : Nat → Prop} (h : St H p m F) (hn : m.names.length ≤ 1048576) (s : ByteArray) (hs : s.size ≤ maxLen) :
    ACalls Try.prog 23 [Pt p, .string s] H fun r H' => r = .tuple #[vV (m.sym s).1.1, .int .i64 (m.sym s).1.2] ∧ ∃ F', St H' p (m.sym s).2 F' ∧ Fr F H F' H' := by
  refine S23_calls ?_
  unfold S23
  have hpl := h.lt p h.fp
  have hk1 : ∀ x, Keep H.next H (H.alloc x) := fun x => (Keep.refl _ _).alloc (Nat.le_refl _) _
  have hk2 : ∀ x y, Keep H.next H ((H.alloc x).upd H.next y) := fun x y => (hk1 x).upd (Nat.le_refl _) _
  have hz : (s = ⟨#[]⟩) ↔ s.size = 0 := by
    constructor
    · rintro rfl; rfl
    · intro h0; cases s; simp [ByteArray.size] at h0; simp [h0]
  by_cases h0 : s.size = 0
  · have hb : (s == ⟨#[]⟩) = true := by rw [ba_beq, decide_eq_true (hz.2 h0)]
    have e : m.sym s = (((0, 0), 1), m) := by unfold Sm.sym; rw [if_pos (.inl h0)]
    rw [e]
    simp [hb, at_alloc, at_upd]
    exact ⟨F, h.kept (hk2 _ _), Fr.keep (hk2 _ _)⟩
  have hb : (s == ⟨#[]⟩) = false := by rw [ba_beq, decide_eq_false (fun e => h0 (hz.1 e))]
  by_cases h64 : 64 < s.size
  · have h64' : (64 : Int) < s.size := by omega
    have e : m.sym s = (((0, 0), 1), m) := by unfold Sm.sym; rw [if_pos (.inr h64)]
    rw [e]
    simp [hb, h64, h64', at_alloc, at_upd]
    exact ⟨F, h.kept (hk2 _ _), Fr.keep (hk2 _ _)⟩
  have h64' : ¬ (64 : Int) < s.size := by omega
  have e : m.sym s = (match m.names.findIdx? (fun t => decide (s = t)) with
    | some i => (((6, (i : Int)), 0), m)
    | none => (((6, (m.names.length : Int)), 0), ⟨m.lim, m.used, m.objs, m.names ++ [s]⟩)) := by unfold Sm.sym; rw [if_neg (by omega)]
  obtain ⟨A, os, NA, mb, hX⟩ := id h
  have hml := hX.lt mb hX.fm
  have hne : p ≠ H.next := by omega
  have hnem : mb ≠ H.next := by omega
  cases hf : m.names.findIdx? (fun t => decide (s = t)) with
  | some i =>
    rw [hf] at e
    simp only at e
    rw [e]
    simp [hb, h64, h64']
    unfold S23_64
    simp [at_alloc, hne, hX.hp, aLookup, hnem, hX.map, entries_get, hf, found]
    rw [aJoin_eq]
    simp
    unfold S23_63
    simp [at_alloc, at_upd]
    exact ⟨F, h.kept (hk2 _ _), Fr.keep (hk2 _ _)⟩
  | none =>
    rw [hf] at e
    simp only at e
    rw [e]
    simp [hb, h64, h64']
    unfold S23_64
    simp [at_alloc, hne, hX.hp, aLookup, hnem, hX.map, entries_get, hf, found]
    rw [aJoin_eq]
    simp
    unfold S23_62
    have w1 := wrap64 (x := (m.names.length : Int)) (by omega) (by omega)
    have hpm : p ≠ mb := by
      rintro rfl
      have := hX.map
      rw [hX.hp] at this
      cases this
    have hml2 : H.next ≠ mb ∧ H.next ≠ p := by omega
    simp [at_alloc, at_upd, hne, hX.hp, aMapUpd, hnem, hX.map, entries_put s _ hf, hpm]
    obtain ⟨G, hG⟩ : ∃ X, X = (H.alloc (.cells [.int .i64 0, .int .i64 0] .var 28)).upd mb (.map (entries (m.names ++ [s]))) := ⟨_, rfl⟩
    simp only [← hG]
    have hnG : G.next = H.next + 1 := by rw [hG]; simp
    have gat : ∀ b, b < H.next → b ≠ mb → G.at_ b = H.at_ b := by
      intro b hb hbm
      rw [hG, AHeap.at_upd_ne _ _ hbm, AHeap.at_alloc_ne _ _ (by omega)]
    have gm : G.at_ mb = .map (entries (m.names ++ [s])) := by rw [hG]; simp
    have g4 : G.at_ H.next = .cells [.int .i64 0, .int .i64 0] .var 28 := by rw [hG, AHeap.at_upd_ne _ _ hml2.1]; simp
    clear hG
    have rowm : ∀ (c : Nat) (ds : List Value) (u : Use) (t : TypeId), H.at_ c = .cells ds u t → c ≠ mb := by
      rintro c ds u t hc rfl
      rw [hX.map] at hc
      cases hc
    have hO : Ow 1 eS 9 0 G NA m.names := hX.names.at (by omega) fun x hx => by
      obtain ⟨_, _, hx2, ds, hds⟩ := hX.names.blkOf hx
      exact gat _ hx2 (rowm _ _ _ _ hds)
    have hR : Rd 1 eS (G.next + 1) (G.alloc (.cells [.string s] (.row 1) 9)) (some ⟨G.next, 0, none⟩) [s] := Rd.mk' (by simp) (by omega) (AHeap.at_alloc_new _ _) (by simp) (by simp) (by simp)
    have := (hO.alloc (.cells [.string s] (.row 1) 9)).append (bytes := 16) (c := m.names.length) (c' := 1) (K := fun t49_57 H_58 =>
      bnd (Option.map (H_58.upd p) (blkSt 1 (H_58.at_ p) 3 (vcells t49_57))) fun H_61 => S23_63 (fun r H' => r = Value.tuple #[vV (6, ↑m.names.length), Value.int IntKind.i64 0] ∧ ∃ F', St H' p { lim := m.lim, used := m.used, objs := m.objs, names := m.names ++ [s] } F' ∧ Fr F H F' H') (Pt H.next) [Value.int IntKind.i64 ↑m.names.length] H_61) hR (Nat.zero_le _) (by simp only [maxLen, List.length_singleton]; omega) (by simp only [List.length_singleton]; omega) fun H' h1 h2 h3 _ => by
      simp at h1 h2 h3
      have hat : ∀ b, b < H.next → b ≠ mb → (∀ x, NA = some x → x.block ≠ b) → H'.at_ b = H.at_ b := by
        intro b hb hbm hN
        rw [h3 b (by omega) (fun o s hh => hN _ hh rfl), AHeap.at_alloc_ne _ _ (by omega)]
        exact gat b hb hbm
      have notN : ∀ (c : Nat) (ds : List Value) (u : Use) (t : TypeId), H.at_ c = .cells ds u t → t ≠ 9 → ∀ x, NA = some x → x.block ≠ c := by
        rintro c ds u t hc ht x hx rfl
        obtain ⟨_, _, _, es, hes⟩ := hX.names.blkOf hx
        rw [hc] at hes
        cases hes
        exact ht rfl
      have e1 : H'.at_ p = .cells [.int .i64 m.lim, .int .i64 m.used, .slice A m.objs.length m.objs.length, .slice NA m.names.length m.names.length, .map (some mb)] .var 88 := by
        rw [hat p hpl hpm (notN _ _ _ _ hX.hp (by decide))]; exact hX.hp
      have nN : ∀ x, NA = some x → x.block < H.next := fun x hx => (hX.names.blkOf hx).2.2.1
      have e4 : H'.at_ H.next = .cells [.int .i64 0, .int .i64 0] .var 28 := by
        rw [h3 _ (by omega) (fun o s hh => by have := nN _ hh; dsimp only at this; omega), AHeap.at_alloc_ne _ _ (by omega)]; exact g4
      have em : H'.at_ mb = .map (entries (m.names ++ [s])) := by
        rw [h3 _ (by omega) (fun o s hh => by
          have := hX.names.blkOf hh
          obtain ⟨_, _, _, ds, hds⟩ := this
          have := rowm _ _ _ _ hds
          exact absurd rfl this), AHeap.at_alloc_ne _ _ (by omega)]; exact gm
      unfold S23_63
      simp [e1, e4, at_upd, hml2, hne]
      have un : ∀ x y c, c ≠ p → c ≠ H.next → ((H'.upd p x).upd H.next y).at_ c = H'.at_ c := fun x y c hc hc2 => by rw [AHeap.at_upd_ne _ _ hc2, AHeap.at_upd_ne _ _ hc]
      have rowp : ∀ (c : Nat) (ds : List Value) (n : Nat) (t : TypeId), H.at_ c = .cells ds (.row n) t → c ≠ p := by
        rintro c ds n t hc rfl
        rw [hX.hp] at hc
        cases hc
      refine ⟨fun b => F b ∨ b = G.next + 1, ⟨A, os, some ⟨G.next + 1, 0, none⟩, mb, ?_⟩, ⟨by simp; omega, fun b hb hf => ?_, fun b hb => ?_⟩⟩
      · refine ⟨hX.len, ?_, ?_, ?_, hX.dist, ?_, ?_, .inl hX.fp, fun a ha => .inl (hX.fA a ha), fun i a ha => .inl (hX.fo i a ha), fun a ha => by cases ha; exact .inr rfl, .inl hX.fm, ?_⟩
        · simp [at_upd, hne]
        · refine hX.objs.at (by simp; omega) fun x hx => ?_
          obtain ⟨_, _, hx2, ds, hds⟩ := hX.objs.blkOf hx
          rw [un _ _ _ (rowp _ _ _ _ hds) (by omega)]
          exact hat _ hx2 (rowm _ _ _ _ hds) (notN _ _ _ _ hds (by decide))
        · intro i o a ho ha
          refine (hX.slots i o a ho ha).at (by simp; omega) fun x hx => ?_
          obtain ⟨_, _, hx2, ds, hds⟩ := (hX.slots i o a ho ha).blkOf hx
          rw [un _ _ _ (rowp _ _ _ _ hds) (by omega)]
          exact hat _ hx2 (rowm _ _ _ _ hds) (notN _ _ _ _ hds (by decide))
        · have h1' : Ow 1 eS 9 0 H' (some ⟨G.next + 1, 0, none⟩) (m.names ++ [s]) := h1
          refine h1'.at (Nat.le_refl _) fun x hx => ?_
          cases hx
          exact un _ _ _ (by show G.next + 1 ≠ p; omega) (by show G.next + 1 ≠ H.next; omega)
        · rw [un _ _ _ (Ne.symm hpm) (by omega)]; exact em
        · rintro b (hb | rfl)
          · have := hX.lt b hb; simp; omega
          · simp; omega
      · rw [un _ _ b (by rintro rfl; exact hf hX.fp) (by omega)]
        exact hat b hb (by rintro rfl; exact hf hX.fm) fun x hx => by rintro rfl; exact hf (hX.fN x hx)
      · rcases hb with hb | rfl
        · exact .inl hb
        · exact .inr (by omega)
    rw [hnG, List.length_singleton] at this
    exact this

/-- Name. -/
def Sm.nameOf (m : Sm) (v : V) : ByteArray × Int := if v.1 = 6 ∧ m.sound v = true then (m.names.getD v.2.toNat ⟨#[]⟩, 0) else (⟨#[]⟩, 10)
theorem c24 {H : AHeap} {p : Nat} {m : Sm} {F : Nat → Prop} (h : St H p m F) (v : V) : ACalls Try.prog 24 [Pt p, vV v] H fun r H' => r = .tuple #[.string (m.nameOf v).1, .int .i64 (m.nameOf v).2] ∧ H' = H := by
  refine ACalls.eq' (S24_calls ?_) (vin_two (.plain rfl) (.plain rfl))
  obtain ⟨A, os, NA, mb, hX⟩ := id h
  unfold S24
  have hk : ∀ x, Keep H.next H (H.alloc x) := fun x => (Keep.refl _ _).alloc (Nat.le_refl _) _
  have hne : p ≠ H.next := hX.ne
  simp
  unfold S24_35
  obtain ⟨t, n⟩ := v
  by_cases h6 : t = 6
  · subst h6
    simp
    refine (c30 (h.kept (hk _)) (6, n)).use ?_
    cases hs : m.sound (6, n) with
    | false => simp [Sm.nameOf, hs, hk]
    | true =>
      have hs' : 0 ≤ n ∧ n < m.names.length := by simpa [Sm.sound] using hs
      simp
      unfold S24_34
      have hN : Ow 1 eS 9 0 (H.alloc (.cells [.int .i64 6, .int .i64 n] .var 28)) NA m.names := hX.names.kept (hk _)
      have i1 := hN.rd.idx (k := .i64) (j := n) (c := m.names.length) hs'.1 hs'.2
      have hlt : n.toNat < m.names.length := by omega
      have l1 := hN.rd.ld (enc := Value.string) hlt
      have l2 : aLdCell (.pointer (some ⟨p, 3, none⟩)) (H.alloc (.cells [.int .i64 6, .int .i64 n] .var 28)) = some (.slice NA m.names.length m.names.length) := by simp [at_alloc, hne, hX.hp]
      have l3 : aLdCell (.pointer (some ⟨H.next, 1, none⟩)) (H.alloc (.cells [.int .i64 6, .int .i64 n] .var 28)) = some (.int .i64 n) := by simp
      simp [l2, l3, i1, l1, -aLdCell_ptr, Sm.nameOf, hs, hk, hlt]
  · simp [h6, Sm.nameOf, hk]
end Go.Proofs.Ytngldjajfpbmbaa.A
