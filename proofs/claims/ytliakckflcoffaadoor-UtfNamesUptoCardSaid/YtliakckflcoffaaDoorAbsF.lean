/- Each operation's run, go on: what only reads. -/
import Derived.Test.YtliakckflcoffaaDoorAbsE
set_option linter.unusedVariables false
set_option linter.unusedSimpArgs false
namespace Go.Abs
open Go

def fieldOff (P : Program) (s : TypeId) (f : Nat) : Option Nat := match P.underlying s with
  | some (.struct fs) => match fs[f]? with
    | some fl => match tySize P fl.type with
      | some (_ + 1) => some fl.offset
      | _ => none
    | none => none
  | _ => none
/-- Of a field: where it begins, how many cells it has, whether it is a struct or an array. -/
def fieldPart (P : Program) (s : TypeId) (f : Nat) : Option (Bool × Nat × Nat) := match P.underlying s with
  | some (.struct fs) => match fs[f]? with
    | some fl => match tyAgg P fl.type, tySize P fl.type with
      | some g, some n => some (g, fl.offset, n)
      | _, _ => none
    | none => none
  | _ => none
def elemSize (P : Program) (t : TypeId) : Option Nat := match P.underlying t with
  | some (.slice e) => tySize P e
  | some (.array _ e) => tySize P e
  | _ => none

section
variable {P : Program} {G B : Nat} {φ : Phi} {H : AHeap} {w : World}

theorem fieldAddr_sound {s : TypeId} {f off : Nat} (hf : fieldOff P s f = some off) {x u v : Value} (hx : VRel φ x u) (h : aAdd off x = some v) : ∃ v', (Instr.fieldAt s u f).run P w = .ok v' w ∧ VRel φ v v' := by
  unfold aAdd at h
  split at h
  · rename_i b o
    obtain rfl := Option.some.inj h
    obtain ⟨_, p, hp, rfl⟩ := hx.ptrInv
    unfold fieldOff at hf
    split at hf
    · rename_i fs hu
      split at hf
      · rename_i fl hfl
        split at hf
        · rename_i n hn
          obtain rfl := Option.some.inj hf
          refine ⟨.pointer (some ⟨p.blk, p.off + (o + fl.offset), none⟩), ?_, .ptr hp⟩
          simp [Instr.fieldAt, run_underlying hu, hfl, Instr.sureAddr, fieldPlace, run_sizeOf hn, addr_add, Nat.add_assoc]
        · cases hf
      · cases hf
    · cases hf
  · cases h

theorem part_sound {t : TypeId} {g : Bool} {off n : Nat} (hg : tyAgg P t = some g) (hn : tySize P t = some n) {x u v : Value} (hx : VRel φ x u) (h : aPart g off n x = some v) :
    ∃ cs, u = .agg cs ∧ ∃ v', (part t cs off).run P w = .ok v' w ∧ VRel φ v v' := by
  unfold aPart at h
  split at h
  · rename_i cs
    obtain ⟨ds, rfl, hd⟩ := hx.aggInv
    refine ⟨ds, rfl, ?_⟩
    cases g with
    | true =>
      simp only at h
      split at h
      · rename_i hl
        obtain rfl := Option.some.inj h
        refine ⟨.agg (ds.extract off (off + n)), by simp [part, run_isAgg hg, run_sizeOf hn], ?_⟩
        have h1 : VRels φ (cs.extract off (off + n)).toList (ds.extract off (off + n)).toList := by
          simp only [Array.toList_extract, List.extract_eq_take_drop]
          exact (hd.drop off).take _
        have := agg_of h1
        simpa only [Array.toArray_toList] using this
      · cases h
    | false =>
      simp only at h
      obtain ⟨v', hv, hr⟩ := hd.get (by simpa using h : cs.toList[off]? = some v)
      have hv' : ds[off]? = some v' := by simpa using hv
      exact ⟨v', by simp [part, run_isAgg hg, hv'], hr⟩
  · cases h

theorem field_sound {s : TypeId} {f : Nat} {g : Bool} {off n : Nat} (hf : fieldPart P s f = some (g, off, n)) {x u v : Value} (hx : VRel φ x u) (h : aPart g off n x = some v) : ∃ v', (Instr.field s u f).run P w = .ok v' w ∧ VRel φ v v' := by
  unfold fieldPart at hf
  split at hf
  · rename_i fs hu
    split at hf
    · rename_i fl hfl
      split at hf
      · rename_i g' n' h1 h2
        obtain ⟨rfl, rfl, rfl⟩ : g' = g ∧ fl.offset = off ∧ n' = n := by simpa using hf
        obtain ⟨cs, rfl, v', hv, hr⟩ := part_sound (P := P) (w := w) h1 h2 hx h
        exact ⟨v', by simp [Instr.field, run_underlying hu, hfl, asAgg, hv], hr⟩
      · cases hf
    · cases hf
  · cases hf

theorem indexAddr_sound {t e : TypeId} {n : Nat} (ht : P.underlying t = some (.slice e)) (hn : tySize P e = some n) {x i u j v : Value} (hx : VRel φ x u) (hi : VRel φ i j) (h : aIdxAddr n x i = some v) : ∃ v', (Instr.indexAt t u j).run P w = .ok v' w ∧ VRel φ v v' := by
  unfold aIdxAddr at h
  split at h
  · rename_i b o len cap k q
    split at h
    · rename_i hq
      obtain rfl := Option.some.inj h
      rw [hi.int]
      obtain ⟨_, _, h1⟩ := hx.sliceInv
      rcases h1 with ⟨p, c, hp, hnc, hm, hl, rfl⟩ | ⟨rfl, _⟩
      · refine ⟨.pointer (some ⟨p.blk, p.off + (o + q.toNat * n), none⟩), ?_, .ptr hp⟩
        simp [Instr.indexAt, asIntOf, run_underlying ht, hq, run_sizeOf hn, addr_add, Nat.add_assoc]
      · omega
    · cases h
  · cases h

theorem indexAddrArr_sound {t e : TypeId} {len n : Nat} (ht : P.underlying t = some (.array len e)) (hn : tySize P e = some n) {x i u j v : Value} (hx : VRel φ x u) (hi : VRel φ i j) (h : aIdxAddrArr len n x i = some v) : ∃ v', (Instr.indexAt t u j).run P w = .ok v' w ∧ VRel φ v v' := by
  unfold aIdxAddrArr at h
  split at h
  · rename_i b o k q
    split at h
    · rename_i hq
      obtain rfl := Option.some.inj h
      rw [hi.int]
      obtain ⟨_, p, hp, rfl⟩ := hx.ptrInv
      refine ⟨.pointer (some ⟨p.blk, p.off + (o + q.toNat * n), none⟩), ?_, .ptr hp⟩
      simp [Instr.indexAt, asIntOf, run_underlying ht, Instr.sureAddr, hq, run_sizeOf hn, addr_add, Nat.add_assoc]
    · cases h
  · cases h

theorem indexStr_sound {t : TypeId} (ht : P.underlying t = some .string) {x i u j v : Value} (hx : VRel φ x u) (hi : VRel φ i j) (h : aIdxStr x i = some v) : ∃ v', (Instr.index t u j).run P w = .ok v' w ∧ VRel φ v v' := by
  unfold aIdxStr at h
  split at h
  · rename_i s k q
    rw [hx.string, hi.int]
    split at h
    · rename_i hq
      obtain ⟨b, hb, rfl⟩ := Option.map_eq_some_iff.1 h
      exact ⟨_, by simp [Instr.index, asIntOf, run_underlying ht, hq, hb], .plain rfl⟩
    · cases h
  · cases h

theorem indexArr_sound {t e : TypeId} {len n : Nat} {g : Bool} (ht : P.underlying t = some (.array len e)) (hg : tyAgg P e = some g) (hn : tySize P e = some n) {x i u j v : Value} {q : Int} {k : IntKind} (hx : VRel φ x u) (hi : VRel φ (.int k q) j) (hq : 0 ≤ q ∧ q < len) (h : aPart g (q.toNat * n) n x = some v) : ∃ v', (Instr.index t u j).run P w = .ok v' w ∧ VRel φ v v' := by
  rw [hi.int]
  obtain ⟨cs, rfl, v', hv, hr⟩ := part_sound (P := P) (w := w) hg hn hx h
  exact ⟨v', by simp [Instr.index, asIntOf, run_underlying ht, hq, run_sizeOf hn, hv], hr⟩

theorem indexArrV_sound {t e : TypeId} {len n : Nat} {g : Bool} (ht : P.underlying t = some (.array len e)) (hg : tyAgg P e = some g) (hn : tySize P e = some n) {x i u j v : Value} (hx : VRel φ x u) (hi : VRel φ i j) (h : aIdxArr len g n x i = some v) : ∃ v', (Instr.index t u j).run P w = .ok v' w ∧ VRel φ v v' := by
  unfold aIdxArr at h
  split at h
  · rename_i k q
    split at h
    · rename_i hq
      exact indexArr_sound (i := x) ht hg hn hx hi hq h
    · cases h
  · cases h
def aIdxT (P : Program) (e : TypeId) (len : Nat) (x i : Value) : Option Value := (tyAgg P e).bind fun g => (tySize P e).bind fun n => aIdxArr len g n x i
def aIdxV (P : Program) (t : TypeId) (x i : Value) : Option Value := (P.underlying t).bind fun
  | .string => aIdxStr x i
  | .array len e => aIdxT P e len x i
  | _ => none
theorem indexV_sound {t : TypeId} {x i u j v : Value} (hx : VRel φ x u) (hi : VRel φ i j) (h : aIdxV P t x i = some v) : ∃ v', (Instr.index t u j).run P w = .ok v' w ∧ VRel φ v v' := by
  obtain ⟨d, hd, h⟩ := Option.bind_eq_some_iff.1 h
  cases d <;> try (cases h; done)
  · exact indexStr_sound hd hx hi h
  · obtain ⟨g, hg, h⟩ := Option.bind_eq_some_iff.1 h
    obtain ⟨n, hn, h⟩ := Option.bind_eq_some_iff.1 h
    exact indexArrV_sound hd hg hn hx hi h
theorem len_sound {t ty : TypeId} {d : TypeDesc} (ht : P.underlying t = some d) (hd : (match d with | .string => true | .slice _ => true | _ => false) = true) {x u v : Value} (hx : VRel φ x u) (h : aLen x = some v)
    (hfit : match d, x with | .string, .string _ => True | .slice _, .slice _ _ _ => True | _, _ => False) : (Builtin.len_ #[t] ty #[u]).run P w = .ok v w ∧ VRel φ v v := by
  unfold aLen at h
  split at h
  · rename_i s
    obtain rfl := Option.some.inj h
    rw [hx.string]
    cases d <;> simp at hd hfit
    exact ⟨by simp [Builtin.len_, run_underlying ht, goInt], .plain rfl⟩
  · rename_i A n c
    obtain rfl := Option.some.inj h
    cases d <;> simp at hd hfit
    refine ⟨?_, .plain rfl⟩
    cases A with
    | none =>
      cases hx with
      | plain hp =>
        unfold plainCell at hp
        split at hp <;> simp_all
        simp [Builtin.len_, run_underlying ht, goInt]
    | some a =>
      obtain ⟨b, o, s⟩ := a
      obtain ⟨_, _, h1⟩ := hx.sliceInv
      rcases h1 with ⟨p, c, hp, hnc, hm, hl, rfl⟩ | ⟨rfl, _, A, _, rfl⟩
      · simp [Builtin.len_, run_underlying ht, goInt]
      · simp [Builtin.len_, run_underlying ht, goInt]
  · cases h

theorem extract_sound {x u v : Value} {i : Nat} (hx : VRel φ x u) (h : aExtract x i = some v) : ∃ v', (Instr.extract u i).run P w = .ok v' w ∧ VRel φ v v' := by
  unfold aExtract at h
  split at h
  · rename_i vs
    obtain ⟨us, rfl, hu⟩ := hx.tupleInv
    obtain ⟨v', hv, hr⟩ := hu.get (by simpa using h : vs.toList[i]? = some v)
    have hv' : us[i]? = some v' := by simpa using hv
    exact ⟨v', by simp [Instr.extract, hv'], hr⟩
  · cases h

theorem pick_sound {c x y d u z v : Value} (hc : VRel φ c d) (hx : VRel φ x u) (hy : VRel φ y z) (h : aPick c x y = some v) : ∃ b, d = .bool b ∧ VRel φ v (if b then u else z) := by
  unfold aPick at h
  split at h
  · rename_i b
    obtain rfl := Option.some.inj h
    refine ⟨b, hc.bool, ?_⟩
    cases b
    · exact hy
    · exact hx
  · cases h
end
end Go.Abs
