/- Pieces of slices and texts; conversions; what is made. -/
import Derived.Test.YtliakckflcoffaaDoorAbsG
set_option linter.unusedVariables false
set_option linter.unusedSimpArgs false
namespace Go.Abs
open Go

section
variable {P : Program} {G B : Nat} {φ : Phi} {H : AHeap} {w : World}

/-- A bound of a cut: none, or a whole number. -/
def VRelO (φ : Phi) : Option Value → Option Value → Prop
  | none, none => True
  | some u, some v => VRel φ u v
  | _, _ => False

theorem loOf_inv {lo : Option Value} {l : Nat} (h : loOf lo = some l) : (lo = none ∧ l = 0) ∨ ∃ k q, lo = some (.int k q) ∧ 0 ≤ q ∧ l = q.toNat := by
  unfold loOf at h
  split at h
  · obtain rfl := Option.some.inj h; exact .inl ⟨rfl, rfl⟩
  · split at h
    · rename_i hq; obtain rfl := Option.some.inj h; exact .inr ⟨_, _, rfl, hq, rfl⟩
    · cases h
  · cases h
theorem hiOf_inv {hi : Option Value} {len n : Nat} (h : hiOf len hi = some n) : (hi = none ∧ n = len) ∨ ∃ k q, hi = some (.int k q) ∧ 0 ≤ q ∧ q ≤ len ∧ n = q.toNat := by
  unfold hiOf at h
  split at h
  · obtain rfl := Option.some.inj h; exact .inl ⟨rfl, rfl⟩
  · split at h
    · rename_i hq; obtain rfl := Option.some.inj h; exact .inr ⟨_, _, rfl, hq.1, hq.2, rfl⟩
    · cases h
  · cases h

theorem VRelO.lo {x y : Option Value} {l : Nat} (h : VRelO φ x y) (hx : loOf x = some l) : y = x := by
  rcases loOf_inv hx with ⟨rfl, _⟩ | ⟨k, q, rfl, _⟩
  · cases y with
    | none => rfl
    | some v => exact h.elim
  · cases y with
    | none => exact h.elim
    | some v => have : VRel φ (.int k q) v := h; rw [this.int]
theorem VRelO.hi {x y : Option Value} {len n : Nat} (h : VRelO φ x y) (hx : hiOf len x = some n) : y = x := by
  rcases hiOf_inv hx with ⟨rfl, _⟩ | ⟨k, q, rfl, _⟩
  · cases y with
    | none => rfl
    | some v => exact h.elim
  · cases y with
    | none => exact h.elim
    | some v => have : VRel φ (.int k q) v := h; rw [this.int]

theorem run_bounds (isSlice : Bool) (len cap l h : Nat) (lo hi : Option Value) (hl : loOf lo = some l) (hh : hiOf len hi = some h) (hlh : l ≤ h) (hlc : len ≤ cap) :
    (Instr.sliceBounds isSlice len cap lo hi none).run P w = .ok (l, h, cap) w := by
  rcases loOf_inv hl with ⟨rfl, rfl⟩ | ⟨k, q, rfl, hq, rfl⟩ <;> rcases hiOf_inv hh with ⟨rfl, rfl⟩ | ⟨k', q', rfl, hq1, hq2, rfl⟩
  · simp [Instr.sliceBounds]
  · simp [Instr.sliceBounds, Instr.sliceBound, asIntOf, hq1, show q' ≤ (cap : Int) by omega]
  · simp [Instr.sliceBounds, Instr.sliceBound, asIntOf, hq, show q ≤ (h : Int) by omega]
  · simp [Instr.sliceBounds, Instr.sliceBound, asIntOf, hq, hq1, show q' ≤ (cap : Int) by omega, show q ≤ max q' 0 by omega]

theorem slice_sound {t e : TypeId} {n : Nat} (ht : P.underlying t = some (.slice e)) (hn : tySize P e = some (n + 1)) {A : Option Addr} {len cap : Nat} {lo hi lo' hi' : Option Value} {u v : Value} (hx : VRel φ (.slice A len cap) u) (hlo : VRelO φ lo lo') (hhi : VRelO φ hi hi')
    (h : aSlice (n + 1) (.slice A len cap) lo hi = some v) : ∃ v', (Instr.sliceAt t u lo' hi' none).run P w = .ok v' w ∧ VRel φ v v' := by
  unfold aSlice at h
  simp only [aLen, Int.toNat_natCast] at h
  obtain ⟨l, h1, h7⟩ := Option.bind_eq_some_iff.1 h
  obtain ⟨hh, h2, h8⟩ := Option.bind_eq_some_iff.1 h7
  clear h h7
  unfold aCut at h8
  split at h8
  · rename_i hlh
    obtain rfl := hlo.lo h1
    obtain rfl := hhi.hi h2
    have hhlen : hh ≤ len := by rcases hiOf_inv h2 with ⟨_, rfl⟩ | ⟨k, q, _, _, _, rfl⟩ <;> omega
    have hrun : ∀ (A' : Option Addr) (c : Nat), len ≤ c → (Instr.sliceAt t (.slice A' len c) lo' hi' none).run P w = .ok (.slice (if c = l then A' else A'.map (·.add (l * (n + 1)))) (hh - l) (c - l)) w := by
      intro A' c hc
      unfold Instr.sliceAt
      simp only [Sem.run_bind, run_underlying ht, Result.andThen_ok]
      unfold Instr.slice
      simp only [Sem.run_bind, run_underlying ht, Result.andThen_ok, run_bounds (P := P) (w := w) true len c l hh lo' hi' h1 h2 hlh hc, run_sizeOf hn, Sem.run_pure]
    cases A with
    | none =>
      obtain ⟨rfl, rfl, rfl⟩ := hx.sliceNone
      obtain rfl := Option.some.inj h8
      obtain rfl : hh = 0 := by omega
      obtain rfl : l = 0 := by omega
      exact ⟨_, hrun none 0 (Nat.le_refl _), by simpa using hx⟩
    | some a =>
      obtain ⟨b, o, s⟩ := a
      obtain rfl := Option.some.inj h8
      obtain ⟨rfl, rfl, h3⟩ := hx.sliceInv
      have hpos : 0 < l → 0 < l * (n + 1) := fun hl => Nat.mul_pos hl (Nat.succ_pos n)
      rcases h3 with ⟨p, c, hp, hnc, hm, hl, rfl⟩ | ⟨rfl, hb, A, hA, rfl⟩
      · refine ⟨_, hrun _ c hnc, ?_⟩
        by_cases hcl : c = l
        · subst hcl
          have e1 : hh - c = 0 := by omega
          rw [if_pos rfl, e1, Nat.sub_self]
          rcases Nat.eq_zero_or_pos c with hc | hc
          · subst hc
            have := VRel.slice (φ := φ) (b := b) (o := o) (n := 0) (c := 0) hp (Nat.le_refl _) hm hl
            simpa using this
          · exact .empty hp (.inr (by have := hpos hc; omega))
        · rw [if_neg hcl]
          simp only [Option.map_some, addr_add]
          have := VRel.slice (φ := φ) (b := b) (o := o + l * (n + 1)) (n := hh - l) (c := c - l) hp (by omega) (by omega) (by
            rcases Nat.eq_zero_or_pos l with hl0 | hl0
            · subst hl0; simpa using hl
            · exact .inr (.inl (by have := hpos hl0; omega)))
          simpa [Nat.add_assoc] using this
      · obtain rfl : hh = 0 := by omega
        obtain rfl : l = 0 := by omega
        refine ⟨_, hrun A 0 (Nat.le_refl _), ?_⟩
        obtain ⟨q, hq⟩ := Option.isSome_iff_exists.1 hb
        simpa using VRel.empty (φ := φ) (b := b) (o := o) (A := A) hq hA
  · cases h8

theorem sliceStr_sound {t : TypeId} {n : Nat} (ht : P.underlying t = some .string) {s : ByteArray} {lo hi lo' hi' : Option Value} {u v : Value} (hx : VRel φ (.string s) u) (hlo : VRelO φ lo lo') (hhi : VRelO φ hi hi')
    (h : aSlice n (.string s) lo hi = some v) : ∃ v', (Instr.sliceAt t u lo' hi' none).run P w = .ok v' w ∧ VRel φ v v' := by
  unfold aSlice at h
  simp only [aLen, Int.toNat_natCast] at h
  obtain ⟨l, h1, h7⟩ := Option.bind_eq_some_iff.1 h
  obtain ⟨hh, h2, h8⟩ := Option.bind_eq_some_iff.1 h7
  clear h h7
  unfold aCut at h8
  split at h8
  · rename_i hlh
    obtain rfl := hlo.lo h1
    obtain rfl := hhi.hi h2
    obtain rfl := Option.some.inj h8
    rw [hx.string]
    refine ⟨_, ?_, .plain rfl⟩
    unfold Instr.sliceAt
    simp only [Sem.run_bind, run_underlying ht, Result.andThen_ok]
    unfold Instr.slice
    simp only [Sem.run_bind, run_underlying ht, Result.andThen_ok, Option.isSome_none, Bool.false_eq_true, if_false, Sem.run_pure, run_bounds (P := P) (w := w) false s.size s.size l hh lo' hi' h1 h2 hlh (Nat.le_refl _)]
  · cases h8

theorem convInt_sound {s d : TypeId} {ks : TypeDesc} {k : IntKind} (hs : P.underlying s = some ks) (hd : P.underlying d = some (.int k)) {x u v : Value} (hx : VRel φ x u) (h : aConvInt k x = some v) : (convert s d u).run P w = .ok v w ∧ plainCell v = true := by
  unfold aConvInt at h
  split at h
  · obtain rfl := Option.some.inj h
    rw [hx.int]
    exact ⟨by simp [convert, run_underlying hs, run_underlying hd, Conv.intToInt], rfl⟩
  · cases h
end
end Go.Abs
