/- Contracts of functions that the statement reaches; each theorem carries its own conditions, the last theorem of the claim has none. -/
import Derived.Test.YtliakckflcoffaaDoorU2
set_option linter.unusedVariables false
set_option linter.unusedSimpArgs false
namespace Go.Proofs.YtliakckflcoffaaDoor.A
open Go Go.Abs
open Go.Lib (decodeN firstT accLo accHi slowN)

theorem ACalls.eq' {f : FuncId} {args : List Value} {H : AHeap} {r : Value} (h : ACalls Tryd.prog f args H fun v H' => v = r ∧ Keep H.next H H') (hp : VIn (fun c => c < H.next) r) : ACalls Tryd.prog f args H fun v H' => v = r ∧ H' = H :=
  ACalls.pure (L := fun v => v = r) h fun v hv => by subst hv; exact hp
theorem vin_two {K : Nat → Prop} {a b : Value} (ha : Abs.plainCell a = true) (hb : Abs.plainCell b = true) : VIn K (.tuple #[a, b]) := by
  refine .tuple fun i u h => ?_
  match i, h with
  | 0, h => simp at h; subst h; exact .plain ha
  | 1, h => simp at h; subst h; exact .plain hb
  | i + 2, h => simp at h

abbrev eN (x : Nat) : List Value := [Value.int .u8 (x : Int)]
abbrev BytesN (lo : Nat) (H : AHeap) (A : Option Addr) (xs : List Nat) : Prop := Rd 1 eN lo H A xs
def firstCells : List Value := (List.range 256).map fun c => .int .u8 (firstT c : Nat)
def accCells : List Value := (List.range 16).flatMap fun i => [.int .u8 (accLo i : Nat), .int .u8 (accHi i : Nat)]
/-- The library's two tables. -/
structure Tabs (H : AHeap) : Prop where
  lt : 2 < H.next
  first : H.at_ 1 = .cells firstCells .read 0
  acc : H.at_ 2 = .cells accCells .read 0
theorem Tabs.kept {H H' : AHeap} (h : Tabs H) (hk : Keep H.next H H') : Tabs H' :=
  ⟨Nat.lt_of_lt_of_le h.lt hk.next, (hk.at_ 1 (by have := h.lt; omega)).trans h.first, (hk.at_ 2 h.lt).trans h.acc⟩
theorem firstCells_at {c : Nat} (h : c < 256) : firstCells[c]? = some (.int .u8 (firstT c : Nat)) := by
  simp [firstCells, h]
theorem accCells_at {i : Nat} (h : i < 16) : (accCells.drop (i * 2)).take 2 = [.int .u8 (accLo i : Nat), .int .u8 (accHi i : Nat)] := by
  match i, h with
  | 0, _ | 1, _ | 2, _ | 3, _ | 4, _ | 5, _ | 6, _ | 7, _ | 8, _ | 9, _ | 10, _ | 11, _ | 12, _ | 13, _ | 14, _ | 15, _ => rfl
  | n + 16, h => omega
theorem accCells_len : accCells.length = 32 := rfl

theorem BytesN.get {lo : Nat} {H : AHeap} {A : Option Addr} {bs : List Nat} (h : BytesN lo H A bs) {i : Nat} (hi : i < bs.length) : aLdCell (slot 1 A i) H = some (.int .u8 (at' bs i : Nat)) := by
  rw [h.ld hi]
  simp [at', List.getD_eq_getElem?_getD, List.getElem?_eq_getElem hi]
theorem at'_lt {bs : List Nat} (h : ∀ x ∈ bs, x < 256) (i : Nat) : at' bs i < 256 := by
  unfold at'
  rw [List.getD_eq_getElem?_getD]
  by_cases hi : i < bs.length
  · rw [List.getElem?_eq_getElem hi]; exact h _ (List.getElem_mem hi)
  · rw [List.getElem?_eq_none (by omega)]; decide

theorem w32 (n : Nat) (h : n < 2147483648) : IntKind.i32.wrap ((n : Nat) : Int) = (n : Nat) := wrap32 (by omega) (by omega)
theorem w64 (n : Nat) (h : n < 9223372036854775808) : IntKind.i64.wrap ((n : Nat) : Int) = (n : Nat) := wrap64 (by omega) (by omega)

/-- Behind the first byte. -/
theorem l115 {lo n x b0 b1 b2 b3 : Nat} {H : AHeap} {R : Value → AHeap → Prop} {A : Option Addr} {bs : List Nat} (T : Tabs H) (hl : lo ≤ H.next) (hA : BytesN lo H A bs) (hb : ∀ x ∈ bs, x < 256) (e0 : at' bs 0 = b0) (e1 : at' bs 1 = b1) (e2 : at' bs 2 = b2) (e3 : at' bs 3 = b3)
    (hx : x < 256) (hs2 : 2 ≤ x % 8) (hs4 : x % 8 ≤ 4) (hlen : bs.length ≤ 140737488355328)
    (hR : ∀ H', Keep H.next H H' → R (.tuple #[.int .i32 ((slowN bs.length b0 b1 b2 b3 (x % 8) (accLo (x / 16)) (accHi (x / 16))).1 : Nat), .int .i64 ((slowN bs.length b0 b1 b2 b3 (x % 8) (accLo (x / 16)) (accHi (x / 16))).2 : Nat)]) H') :
    S39_115 (.slice A bs.length bs.length) H R (.int .i64 bs.length) (.int .u8 b0) (.int .u8 x) := by
  have g0 := e0 ▸ at'_lt hb 0
  have g1 := e1 ▸ at'_lt hb 1
  have g2 := e2 ▸ at'_lt hb 2
  have g3 := e3 ▸ at'_lt hb 3
  have f7 := and7 x hx
  have f4 := shr4 x hx
  generalize hsz : x % 8 = sz at *
  generalize hix : x / 16 = ix at *
  have hix16 : ix < 16 := by omega
  have hac := accCells_at hix16
  generalize hal : accLo ix = al at *
  generalize hah : accHi ix = ah at *
  have hwz := w64 sz (by omega)
  have hT2 := T.acc
  unfold S39_115
  simp [f7, f4, hwz, hT2, accCells_len, hac, at_alloc, at_upd, setCells, show (ix : Int) < 16 by omega, show ix * 2 + 2 ≤ 32 by omega]
  obtain ⟨H1, hH1⟩ : ∃ X, X = ((H.alloc (.cells [.int .u8 0, .int .u8 0] .var 79)).upd H.next (.cells [.int .u8 al, .int .u8 ah] .var 79)) := ⟨_, rfl⟩
  have x9 : H1.at_ H.next = .cells [.int .u8 al, .int .u8 ah] .var 79 := by rw [hH1]; simp
  have kk : Keep H.next H H1 := by rw [hH1]; exact ((Keep.refl _ _).alloc (Nat.le_refl _) _).upd (Nat.le_refl _) _
  rw [← hH1]
  clear hH1
  have hA1 := hA.kept (kk.lower hl)
  have hR1 := fun (v : Nat × Nat) (h : slowN bs.length b0 b1 b2 b3 sz al ah = v) => h ▸ hR H1 kk
  by_cases c0 : bs.length < sz
  · have hv := hR1 (65533, 1) (by unfold slowN; rw [if_pos c0])
    simpa [c0] using hv
  simp [c0]
  have i1 := hA1.idx (k := .i64) (j := 1) (c := bs.length) (by omega) (by omega)
  have ld1 := BytesN.get hA1 (i := 1) (by omega)
  rw [e1] at ld1
  simp at i1
  unfold S39_114
  by_cases c1 : b1 < al
  · have hv := hR1 (65533, 1) (by unfold slowN; rw [if_neg c0, if_pos (.inl c1)])
    simpa [i1, ld1, x9, c1] using hv
  by_cases c1' : ah < b1
  · have hv := hR1 (65533, 1) (by unfold slowN; rw [if_neg c0, if_pos (.inr c1')])
    simpa [i1, ld1, x9, c1, c1'] using hv
  by_cases z2 : sz ≤ 2
  · have hv := hR1 (b0 % 32 * 64 + b1 % 64, 2) (by unfold slowN; rw [if_neg c0, if_neg (by omega), if_pos z2])
    have z2' : (sz : Int) ≤ 2 := by omega
    simp [i1, ld1, x9, c1, c1', z2']
    unfold S39_58
    have s1 : aBin .shl .no (.int .i32 (b0 % 32 : Nat)) (.int .u64 6) = some (.int .i32 (b0 % 32 * 2 ^ 6 : Nat)) := shl32 6 _ (by decide) (by omega)
    simp only [and31 b0 g0, and63 b1 g1, bnd_some', aConvInt_int, w32 (b0 % 32) (by omega), w32 (b1 % 64) (by omega), s1, or32 6 (b0 % 32) (b1 % 64) (by omega) (by omega)]
    exact hv
  have z2' : ¬ (sz : Int) ≤ 2 := by omega
  simp [i1, ld1, x9, c1, c1', z2']
  have i2 := hA1.idx (k := .i64) (j := 2) (c := bs.length) (by omega) (by omega)
  have ld2 := BytesN.get hA1 (i := 2) (by omega)
  rw [e2] at ld2
  simp at i2
  unfold S39_113
  by_cases c2 : b2 < 128
  · have hv := hR1 (65533, 1) (by unfold slowN; rw [if_neg c0, if_neg (by omega), if_neg z2, if_pos (.inl c2)])
    simpa [i2, ld2, show (b2 : Int) < 128 by omega] using hv
  by_cases c2' : 191 < b2
  · have hv := hR1 (65533, 1) (by unfold slowN; rw [if_neg c0, if_neg (by omega), if_neg z2, if_pos (.inr c2')])
    simpa [i2, ld2, show ¬ (b2 : Int) < 128 by omega, show (191 : Int) < b2 by omega] using hv
  by_cases z3 : sz ≤ 3
  · have hv := hR1 (b0 % 16 * 4096 + b1 % 64 * 64 + b2 % 64, 3) (by unfold slowN; rw [if_neg c0, if_neg (by omega), if_neg z2, if_neg (by omega), if_pos z3])
    simp [i2, ld2, show ¬ (b2 : Int) < 128 by omega, show ¬ (191 : Int) < b2 by omega, show (sz : Int) ≤ 3 by omega]
    unfold S39_83
    have s1 : aBin .shl .no (.int .i32 (b0 % 16 : Nat)) (.int .u64 12) = some (.int .i32 (b0 % 16 * 2 ^ 12 : Nat)) := shl32 12 _ (by decide) (by omega)
    have s2 : aBin .shl .no (.int .i32 (b1 % 64 : Nat)) (.int .u64 6) = some (.int .i32 (b1 % 64 * 2 ^ 6 : Nat)) := shl32 6 _ (by decide) (by omega)
    have o1 := or32 12 (b0 % 16) (b1 % 64 * 2 ^ 6) (by omega) (by omega)
    have o2 : aBin .or .no (.int .i32 (b0 % 16 * 2 ^ 12 + b1 % 64 * 2 ^ 6 : Nat)) (.int .i32 (b2 % 64 : Nat)) = some (.int .i32 (b0 % 16 * 4096 + b1 % 64 * 64 + b2 % 64 : Nat)) := by
      have := or32 6 (b0 % 16 * 64 + b1 % 64) (b2 % 64) (by omega) (by omega)
      rw [show (b0 % 16 * 64 + b1 % 64) * 2 ^ 6 = b0 % 16 * 2 ^ 12 + b1 % 64 * 2 ^ 6 by omega] at this
      rw [this, show b0 % 16 * 2 ^ 12 + b1 % 64 * 2 ^ 6 + b2 % 64 = b0 % 16 * 4096 + b1 % 64 * 64 + b2 % 64 by omega]
    simp only [and15 b0 g0, and63 b1 g1, and63 b2 g2, bnd_some', aConvInt_int, w32 (b0 % 16) (by omega), w32 (b1 % 64) (by omega), w32 (b2 % 64) (by omega), s1, s2, o1, o2]
    exact hv
  simp [i2, ld2, show ¬ (b2 : Int) < 128 by omega, show ¬ (191 : Int) < b2 by omega, show ¬ (sz : Int) ≤ 3 by omega]
  have i3 := hA1.idx (k := .i64) (j := 3) (c := bs.length) (by omega) (by omega)
  have ld3 := BytesN.get hA1 (i := 3) (by omega)
  rw [e3] at ld3
  simp at i3
  unfold S39_112
  by_cases c3 : b3 < 128
  · have hv := hR1 (65533, 1) (by unfold slowN; rw [if_neg c0, if_neg (by omega), if_neg z2, if_neg (by omega), if_neg z3, if_pos (.inl c3)])
    simpa [i3, ld3, show (b3 : Int) < 128 by omega] using hv
  by_cases c3' : 191 < b3
  · have hv := hR1 (65533, 1) (by unfold slowN; rw [if_neg c0, if_neg (by omega), if_neg z2, if_neg (by omega), if_neg z3, if_pos (.inr c3')])
    simpa [i3, ld3, show ¬ (b3 : Int) < 128 by omega, show (191 : Int) < b3 by omega] using hv
  have hv := hR1 (b0 % 8 * 262144 + b1 % 64 * 4096 + b2 % 64 * 64 + b3 % 64, 4) (by unfold slowN; rw [if_neg c0, if_neg (by omega), if_neg z2, if_neg (by omega), if_neg z3, if_neg (by omega)])
  simp [i3, ld3, show ¬ (b3 : Int) < 128 by omega, show ¬ (191 : Int) < b3 by omega]
  unfold S39_111
  have s1 : aBin .shl .no (.int .i32 (b0 % 8 : Nat)) (.int .u64 18) = some (.int .i32 (b0 % 8 * 2 ^ 18 : Nat)) := shl32 18 _ (by decide) (by omega)
  have s2 : aBin .shl .no (.int .i32 (b1 % 64 : Nat)) (.int .u64 12) = some (.int .i32 (b1 % 64 * 2 ^ 12 : Nat)) := shl32 12 _ (by decide) (by omega)
  have s3 : aBin .shl .no (.int .i32 (b2 % 64 : Nat)) (.int .u64 6) = some (.int .i32 (b2 % 64 * 2 ^ 6 : Nat)) := shl32 6 _ (by decide) (by omega)
  have o1 := or32 18 (b0 % 8) (b1 % 64 * 2 ^ 12) (by omega) (by omega)
  have o2 : aBin .or .no (.int .i32 (b0 % 8 * 2 ^ 18 + b1 % 64 * 2 ^ 12 : Nat)) (.int .i32 (b2 % 64 * 2 ^ 6 : Nat)) = some (.int .i32 (b0 % 8 * 2 ^ 18 + b1 % 64 * 2 ^ 12 + b2 % 64 * 2 ^ 6 : Nat)) := by
    have := or32 12 (b0 % 8 * 64 + b1 % 64) (b2 % 64 * 2 ^ 6) (by omega) (by omega)
    rwa [show (b0 % 8 * 64 + b1 % 64) * 2 ^ 12 = b0 % 8 * 2 ^ 18 + b1 % 64 * 2 ^ 12 by omega] at this
  have o3 : aBin .or .no (.int .i32 (b0 % 8 * 2 ^ 18 + b1 % 64 * 2 ^ 12 + b2 % 64 * 2 ^ 6 : Nat)) (.int .i32 (b3 % 64 : Nat)) = some (.int .i32 (b0 % 8 * 262144 + b1 % 64 * 4096 + b2 % 64 * 64 + b3 % 64 : Nat)) := by
    have := or32 6 (b0 % 8 * 4096 + b1 % 64 * 64 + b2 % 64) (b3 % 64) (by omega) (by omega)
    rw [show (b0 % 8 * 4096 + b1 % 64 * 64 + b2 % 64) * 2 ^ 6 = b0 % 8 * 2 ^ 18 + b1 % 64 * 2 ^ 12 + b2 % 64 * 2 ^ 6 by omega] at this
    rw [this, show b0 % 8 * 2 ^ 18 + b1 % 64 * 2 ^ 12 + b2 % 64 * 2 ^ 6 + b3 % 64 = b0 % 8 * 262144 + b1 % 64 * 4096 + b2 % 64 * 64 + b3 % 64 by omega]
  simp only [and7 b0 g0, and63 b1 g1, and63 b2 g2, and63 b3 g3, bnd_some', aConvInt_int, w32 (b0 % 8) (by omega), w32 (b1 % 64) (by omega), w32 (b2 % 64) (by omega), w32 (b3 % 64) (by omega), s1, s2, s3, o1, o2, o3]
  exact hv
end Go.Proofs.YtliakckflcoffaaDoor.A
