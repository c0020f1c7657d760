/- Contracts of functions that the statement reaches; each theorem carries its own conditions, the last theorem of the claim has none. -/
import Derived.Test.YtnbnojkfhfkecaaDoorE1
import Derived.Test.YtnbnojkfhfkecaaDoorC13
import Derived.Test.YtnbnojkfhfkecaaDoorCSg
import Derived.Lib.CountLaws
/- Texts: Cut, Split, CutPrefix, IndexByte. -/
set_option linter.unusedVariables false
set_option linter.unusedSimpArgs false
set_option maxRecDepth 100000
namespace Go.Proofs.YtnbnojkfhfkecaaDoor.A
open Go Go.Abs

theorem index_one (c : UInt8) (y : List UInt8) : ∀ (x : List UInt8), c ∉ x → Lib.index (x ++ c :: y) [c] = x.length
  | [], _ => by simp [Lib.index]
  | b :: x, h => by
    have hb : ¬ c = b := fun e => h (by simp [e])
    have ih := index_one c y x fun h' => h (by simp [h'])
    rw [List.cons_append, Lib.index, ih]
    have h1 : List.isPrefixOf [c] (b :: (x ++ c :: y)) = false := by simp [List.isPrefixOf, hb]
    have h2 : ((x.length : Int) == -1) = false := by rw [beq_eq_false_iff_ne]; omega
    rw [h1, h2]
    simp
theorem index_no (c : UInt8) : ∀ (x : List UInt8), c ∉ x → Lib.index x [c] = -1
  | [], _ => by simp [Lib.index]
  | b :: x, h => by
    have hb : ¬ c = b := fun e => h (by simp [e])
    have ih := index_no c x fun h' => h (by simp [h'])
    rw [Lib.index, ih]
    have h1 : List.isPrefixOf [c] (b :: x) = false := by simp [List.isPrefixOf, hb]
    rw [h1]
    simp
theorem cut_one {c : UInt8} {x y : List UInt8} (h : c ∉ x) : Lib.cut (x ++ c :: y) [c] = (x, y, true) := by
  unfold Lib.cut
  rw [index_one c y x h, if_pos (by omega)]
  simp

abbrev ba (l : List UInt8) : ByteArray := ⟨l.toArray⟩
theorem ba_data (l : List UInt8) : (ba l).data.toList = l := by simp
theorem ba_size (l : List UInt8) : (ba l).size = l.length := by show Array.size _ = _; simp
theorem ba_extract (l : List UInt8) (i j : Nat) : (ba l).extract i j = ba ((l.drop i).take (j - i)) := by
  apply ByteArray.ext
  apply Array.ext'
  simp [ByteArray.data_extract, List.extract_eq_take_drop, ba]

theorem split_hit {c : UInt8} {x y : List UInt8} (h : c ∉ x) (k : Nat) : Lib.splitB (ba [c]) 0 (k + 1) (ba (x ++ c :: y)) = ba x :: Lib.splitB (ba [c]) 0 k (ba y) := by
  have hi : Lib.indexB (ba (x ++ c :: y)) (ba [c]) = x.length := by
    show Lib.index _ _ = _
    rw [ba_data, ba_data]
    exact index_one c y x h
  rw [Lib.splitB_hit _ _ _ _ _ hi, ba_extract, ba_size, ba_size, ba_extract]
  congr 2
  · simp
  · congr 1
    rw [show x.length + [c].length = x.length + 1 from rfl, ← List.drop_drop]
    simp
    exact List.take_of_length_le (by omega)
theorem count_hit {c : UInt8} {x y : List UInt8} (h : c ∉ x) : Lib.countB (ba (x ++ c :: y)) (ba [c]) = 1 + Lib.countB (ba y) (ba [c]) := by
  have hi : Lib.indexB (ba (x ++ c :: y)) (ba [c]) = x.length := by
    show Lib.index _ _ = _
    rw [ba_data, ba_data]
    exact index_one c y x h
  rw [Lib.countB_hit _ _ _ (by rw [ba_size]; exact Nat.le_refl 1) hi, ba_extract, ba_size, ba_size]
  congr 3
  rw [show x.length + [c].length = x.length + 1 from rfl, ← List.drop_drop]
  simp
  exact List.take_of_length_le (by omega)
theorem count_no {c : UInt8} {x : List UInt8} (h : c ∉ x) : Lib.countB (ba x) (ba [c]) = 0 := by
  refine Lib.countB_miss _ _ ?_
  show Lib.index _ _ = _
  rw [ba_data, ba_data]
  exact index_no c x h

/-! Contracts taken over. -/
theorem VRel.plains (φ : Phi) {vs : List Value} (h : vs.all Abs.plainCell = true) : VRel φ (.tuple vs.toArray) (.tuple vs.toArray) := tuple_of (VRels.plain h)
theorem ofGrowT {P : Program} {f : FuncId} {args : List Value} {r : Value} {H : AHeap} (hp : args.all Abs.plainCell = true) (hr : ∀ φ, VRel φ r r)
    (h : ∀ B φ w, Rel P.globals.size B φ H w → Calls P f args.toArray w fun e w' => e = .returned r ∧ RowKit.Below w.heap.size w w') : ACalls P f args H fun v H' => v = r ∧ H' = H := by
  intro B φ w cargs hrel hv
  obtain rfl := plains_same hv hp
  refine (h B φ w hrel).mono fun e w' ⟨h1, h2⟩ => ?_
  subst h1
  exact ⟨r, H, φ, r, rfl, ⟨rfl, rfl⟩, Step.grown hrel h2.os h2.tape h2.output h2.size h2.block, hr φ⟩

/-- The greatest length is told too. -/
structure TbM (H : AHeap) : Prop where
  tb : Tb H
  mx : ∃ m, H.at_ 0 = .cells [.int .i64 m] .read 0
theorem TbM.keep {H H' : AHeap} (h : TbM H) (hn : H.next ≤ H'.next) (hk : ∀ c, c < 8 → H'.at_ c = H.at_ c) : TbM H' :=
  ⟨h.tb.keep hn hk, h.mx.imp fun m hm => (hk 0 (by decide)).trans hm⟩
theorem TbM.kept {H H' : AHeap} (h : TbM H) (k : Keep H.next H H') : TbM H' := h.keep k.next fun c hc => k.at_ c (by have := h.tb.next; omega)
theorem TbM.cell {B : Nat} {φ : Phi} {H : AHeap} {w : World} (h : TbM H) (hr : Rel Tryd.prog.globals.size B φ H w) : ∃ m, w.cell? ⟨0, 0, none⟩ = some (.int .i64 m) := by
  obtain ⟨m, hm⟩ := h.mx
  obtain ⟨p, hp, h1, h2⟩ := hr.glob 0 (by rw [nGlob]; decide)
  obtain ⟨v, hv, hrel, _⟩ := cells_at hr hp hm 0 _ rfl
  rw [h1, h2] at hv
  exact ⟨m, by rw [hv, hrel.int]⟩

theorem below_drew (B : Nat) (w : World) (n : Nat) : RowKit.Below B w (w.drewN n) := ⟨rfl, rfl, rfl, Nat.le_refl _, fun _ _ => rfl⟩

theorem c24 {H : AHeap} (hT : TbM H) {x y : List UInt8} {c : UInt8} (hc : c ∉ x) (hs : x.length + y.length < 4294967000) :
    ACalls Tryd.prog 24 [bstr (x ++ c :: y), bstr [c]] H fun v H' => v = .tuple #[bstr x, bstr y, .bool true] ∧ H' = H := by
  refine ofGrowT rfl (fun φ => VRel.plains φ (vs := [bstr x, bstr y, .bool true]) rfl) fun B φ w hr => ?_
  obtain ⟨m, hm⟩ := hT.cell hr
  refine (Sh.strings_Cut (ba (x ++ c :: y)) (ba [c]) m w (by rw [ba_size]; simp; omega) hm).mono ?_
  rintro e w' ⟨rfl, n, rfl⟩
  rw [ba_data, ba_data, cut_one hc]
  exact ⟨rfl, below_drew _ _ _⟩

theorem c37 {H : AHeap} (hT : TbM H) {x y z : List UInt8} (hx : 32 ∉ x) (hy : 32 ∉ y) (hz : 32 ∉ z) (hs : x.length + y.length + z.length < 4294967000) :
    ACalls Tryd.prog 37 [bstr (x ++ 32 :: (y ++ 32 :: z)), bstr [32]] H fun v H' => v = .slice (some ⟨H.next, 0, none⟩) 3 3 ∧ H' = H.alloc (.cells [bstr x, bstr y, bstr z] .read 9) := by
  intro B φ w cargs hr hv
  obtain rfl := plains_same hv rfl
  obtain ⟨m, hm⟩ := hT.cell hr
  have e1 : Lib.countB (ba (x ++ 32 :: (y ++ 32 :: z))) (ba [32]) = 2 := by rw [count_hit hx, count_hit hy, count_no hz]
  have e2 : Lib.splitB (ba [32]) 0 2 (ba (x ++ 32 :: (y ++ 32 :: z))) = [ba x, ba y, ba z] := by rw [split_hit hx, split_hit hy, Lib.splitB_zero]
  refine (Sh.strings_Split (ba (x ++ 32 :: (y ++ 32 :: z))) (ba [32]) m w (by rw [ba_size]; simp; omega) hm (by rw [ba_size]; decide)).mono ?_
  rintro e w' ⟨rfl, rfl⟩
  rw [e1, e2]
  have hst := Step.allocCells hr [bstr x, bstr y, bstr z] #[bstr x, bstr y, bstr z] 9 .read 0 (VRels.plain rfl) (by intro v hv; simp at hv; rcases hv with rfl | rfl | rfl <;> rfl) (fun s h => by cases h)
  refine ⟨_, _, _, _, rfl, ⟨rfl, rfl⟩, hst, ?_⟩
  have := VRel.slice (φ := φ.upd H.next (some (some ⟨w.heap.size, 0, 3, 0⟩))) (b := H.next) (o := 0) (n := 3) (c := 3) (p := ⟨w.heap.size, 0, 3, 0⟩) (by simp) (Nat.le_refl _) (by simp [maxLen]) (.inl rfl)
  exact this

theorem c41 {H : AHeap} (s : List UInt8) (c : UInt8) : ACalls Tryd.prog 41 [bstr s, .int .u8 c.toNat] H fun v H' => v = .int .i64 (Lib.indexByte s c) ∧ H' = H := by
  refine ACalls.ofCalls rfl rfl fun w => ?_
  refine (Sh.strings_IndexByte (ba s) c.toNat w).mono ?_
  rintro e w' ⟨rfl, rfl⟩
  rw [ba_data]
  have : (((c.toNat : Nat) : Int).toNat).toUInt8 = c := by simp
  rw [this]
  exact ⟨rfl, rfl⟩
end Go.Proofs.YtnbnojkfhfkecaaDoor.A

/- bytes: what a line spells. -/
set_option linter.unusedVariables false
set_option linter.unusedSimpArgs false
set_option maxRecDepth 100000
namespace Go.Proofs.YtnbnojkfhfkecaaDoor.A
open Go Go.Abs

theorem str_take (s : List UInt8) {k : IntKind} {j : Nat} (h : j ≤ s.length) : aSliceStr (bstr s) none (some (.int k (j : Int))) = some (bstr (s.take j)) := by
  have h1 : ((j : Int) ≤ ((ba s).size : Nat)) := by rw [ba_size]; omega
  simp only [aSliceStr, aSlice, aLen, loOf, hiOf, Int.toNat_natCast, Option.bind_some]
  rw [if_pos ⟨by omega, h1⟩]
  simp only [Option.bind_some, aCut, Nat.zero_le, if_true, Int.toNat_natCast]
  rw [ba_extract]
  simp
theorem str_drop (s : List UInt8) {k : IntKind} {j : Nat} (h : j ≤ s.length) : aSliceStr (bstr s) (some (.int k (j : Int))) none = some (bstr (s.drop j)) := by
  have h1 : j ≤ (ba s).size := by rw [ba_size]; exact h
  simp only [aSliceStr, aSlice, aLen, loOf, hiOf, Int.toNat_natCast, Option.bind_some]
  rw [if_pos (by omega)]
  simp only [Option.bind_some, aCut, Int.toNat_natCast]
  rw [if_pos h1, ba_extract, ba_size]
  congr 3
  rw [List.take_of_length_le (by rw [List.length_drop]; exact Nat.le_refl _)]
theorem str_at (s : List UInt8) {k : IntKind} {j : Nat} (h : j < s.length) : aIdxStr (bstr s) (.int k (j : Int)) = some (.int .u8 (s[j]).toNat) := by
  unfold aIdxStr
  dsimp only
  rw [if_pos (by omega), Int.toNat_natCast]
  have : (ba s)[j]? = some s[j] := by
    show (ba s)[j]? = _
    rw [getElem?_pos (ba s) j (by rw [ba_size]; exact h)]
    congr 1
  rw [this]
  rfl
theorem str_len (s : List UInt8) : aLenStr (bstr s) = some (.int .i64 (s.length : Nat)) := by
  show some (Value.int .i64 ((ba s).size : Nat)) = _
  rw [ba_size]
theorem str_eq (e : EK) (s t : List UInt8) : aBin .eql e (bstr s) (bstr t) = some (.bool (decide (s = t))) := by
  rw [aBin_seql, ba_beq]
  congr 2
  by_cases h : s = t
  · subst h; simp
  · have : ¬ (ba s) = ba t := fun h' => h (by have := congrArg (fun b : ByteArray => b.data.toList) h'; simpa using this)
    rw [decide_eq_false h, decide_eq_false this]
theorem str_ne (e : EK) (s t : List UInt8) : aBin .neq e (bstr s) (bstr t) = some (.bool (!decide (s = t))) := by
  rw [aBin_sneq, ba_beq]
  congr 3
  by_cases h : s = t
  · subst h; simp
  · have : ¬ (ba s) = ba t := fun h' => h (by have := congrArg (fun b : ByteArray => b.data.toList) h'; simpa using this)
    rw [decide_eq_false h, decide_eq_false this]

def px (s : List UInt8) : Bool := decide (s.take 1 = [120])
theorem c82 {H : AHeap} (s : List UInt8) : ACalls Tryd.prog 82 [bstr s, bstr [120]] H fun v H' => v = .bool (px s) ∧ H' = H := by
  refine S82_calls ?_
  unfold S82
  simp only [str_len, bnd_some', aBin_geq]
  cases s with
  | nil =>
    simp only [show decide ((([120] : List UInt8).length : Int) ≤ (([] : List UInt8).length : Int)) = false from rfl, aGuardK_ft, aPick_ff, bnd_some']
    exact ⟨rfl, trivial⟩
  | cons x l =>
    have h1 : decide ((([120] : List UInt8).length : Int) ≤ ((x :: l).length : Int)) = true := decide_eq_true (by simp; omega)
    simp only [h1, aGuardK_tt, str_len, bnd_some', str_take (x :: l) (k := .i64) (j := ([120] : List UInt8).length) (by simp), str_eq, aPick_tt]
    exact ⟨rfl, trivial⟩
theorem c39 {H : AHeap} (s : List UInt8) : ACalls Tryd.prog 39 [bstr s, bstr [120]] H fun v H' => v = .tuple #[bstr (if px s then s.drop 1 else s), .bool (px s)] ∧ H' = H := by
  have h55 : ACalls Tryd.prog 55 [bstr s, bstr [120]] H fun v H' => v = .tuple #[bstr (if px s then s.drop 1 else s), .bool (px s)] ∧ H' = H := by
    refine S55_calls ?_
    unfold S55
    refine (c82 s).use ?_
    simp only [aUn_not, bnd_some']
    cases hp : px s with
    | false => simp [hp]
    | true =>
      have hl : 1 ≤ s.length := by
        cases s with
        | nil => simp [px] at hp
        | cons x l => simp
      simp only [Bool.not_true, aCond_false, str_len, bnd_some', str_drop s (k := .i64) (j := ([120] : List UInt8).length) hl]
      exact ⟨rfl, trivial⟩
  refine S39_calls ?_
  unfold S39
  refine h55.use ?_
  exact bnd_iff.2 ⟨_, rfl, bnd_iff.2 ⟨_, rfl, rfl, rfl⟩⟩

abbrev digs16 : List UInt8 := [48, 49, 50, 51, 52, 53, 54, 55, 56, 57, 97, 98, 99, 100, 101, 102]
def isHex (n : Nat) : Bool := (48 ≤ n && n ≤ 57) || (97 ≤ n && n ≤ 102)
abbrev z256 : List Value := List.replicate 256 (.bool false)
def setAt (i : Nat) : List Value := (digs16.take i).foldl (fun cs c => cs.set c.toNat (.bool true)) z256
def hexSet : List Value := (List.range 256).map fun n => .bool (isHex n)
theorem setAt_len (i : Nat) : (setAt i).length = 256 := by
  unfold setAt
  generalize digs16.take i = l
  have : ∀ (l : List UInt8) (cs : List Value), (l.foldl (fun cs c => cs.set c.toNat (.bool true)) cs).length = cs.length := by
    intro l
    induction l with
    | nil => intro cs; rfl
    | cons x l ih => intro cs; rw [List.foldl_cons, ih]; simp
  rw [this]
  simp
theorem setAt_all : setAt 16 = hexSet := by rfl
theorem setAt_succ (i : Nat) (h : i < 16) : setAt (i + 1) = (setAt i).set (digs16[i]'h).toNat (.bool true) := by
  unfold setAt
  rw [← List.take_append_getElem (show i < digs16.length from h), List.foldl_append]
  rfl

theorem c58 {H : AHeap} : ACalls Tryd.prog 58 [bstr digs16] H fun v H' => v = .tuple #[.agg hexSet.toArray, .bool true] ∧ Keep H.next H H' := by
  refine S58_calls ?_
  unfold S58
  rw [aAlloc_eq]
  show aLoop _ (H.alloc (.cells z256 .var 98)) _
  have hat : (H.alloc (.cells z256 .var 98)).at_ H.next = .cells z256 .var 98 := AHeap.at_alloc_new _ _
  have hk : Keep H.next H (H.alloc (.cells z256 .var 98)) := (Keep.refl _ _).alloc (Nat.le_refl _) _
  generalize H.alloc (.cells z256 .var 98) = H1 at hat hk
  refine aLoop_vs 16 (fun i vs H2 => i ≤ 16 ∧ vs = [.int .i64 i] ∧ H2.at_ H.next = .cells (setAt i) .var 98 ∧ Keep H.next H H2) ⟨by decide, rfl, hat, hk⟩ ?_
  rintro i vs H2 again hi ⟨_, rfl, hat2, hk2⟩ hag
  unfold S58_19
  rw [str_len]
  simp only [nth_zero, aBin_lss, bnd_some']
  refine aCond_of (fun hlt => ?_) (fun hge => ?_)
  · have hlt : i < 16 := by have := of_decide_eq_true hlt; simp at this; omega
    unfold S58_15
    simp only [nth_zero]
    rw [str_at digs16 hlt]
    have hx : ((digs16[i]'hlt).toNat) < 128 := by
      have : ∀ x ∈ digs16, x.toNat < 128 := by decide
      exact this _ (List.getElem_mem _)
    simp only [bnd_some', aBin_geq]
    rw [show decide ((128 : Int) ≤ ((digs16[i]'hlt).toNat : Int)) = false from decide_eq_false (by omega), aCond_false]
    simp only [aIdxAddrArr_ptr]
    rw [if_pos ⟨by omega, by omega⟩]
    simp only [bnd_some', Int.toNat_natCast, Nat.mul_one, Nat.zero_add]
    rw [aSt_var hat2 (by rw [setAt_len]; omega) rfl rfl, bnd_some']
    simp only [aBin_add, bnd_some']
    rw [wrap64 (by omega) (by omega)]
    refine hag _ _ hlt ⟨by omega, rfl, ?_, hk2.upd (Nat.le_refl _) _⟩
    rw [AHeap.at_upd_same, setAt_succ i hlt]
  · have hge : i = 16 := by have := of_decide_eq_false hge; simp at this; omega
    subst hge
    rw [setAt_all] at hat2
    have hl : hexSet.length = 256 := by decide
    have hld : ∀ {H' : AHeap}, H'.at_ H.next = .cells hexSet .var 98 → aLdAgg 256 (.pointer (some ⟨H.next, 0, none⟩)) H' = some (.agg hexSet.toArray) := by
      intro H' h
      rw [aLdAgg_ptr, h, blkAgg_cells, if_pos (by rw [hl]; decide), List.drop_zero, List.take_of_length_le (by rw [hl]; decide)]
    rw [hld hat2, bnd_some']
    have hst : aSt 256 (.pointer (some ⟨H.next, 0, none⟩)) (.agg hexSet.toArray) H2 = some (H2.upd H.next (.cells hexSet .var 98)) := by
      rw [aSt_ptr, hat2, blkSt_cells, vcells_agg, if_pos ⟨rfl, by simp [hl], by rw [hl]; decide, by decide⟩]
      rfl
    rw [hst, bnd_some', hld (AHeap.at_upd_same _ _ _), bnd_some']
    exact ⟨rfl, hk2.upd (Nat.le_refl _) _⟩
end Go.Proofs.YtnbnojkfhfkecaaDoor.A

/- Trim, and bytes. -/
set_option linter.unusedVariables false
set_option linter.unusedSimpArgs false
set_option maxRecDepth 100000
namespace Go.Proofs.YtnbnojkfhfkecaaDoor.A
open Go Go.Abs

theorem hexSet_at (c : UInt8) : hexSet[c.toNat]? = some (.bool (isHex c.toNat)) := by
  have h : c.toNat < 256 := c.toNat_lt
  simp [hexSet, h]
theorem c83 {H : AHeap} {b : Nat} {k : Use} {t : TypeId} (hat : H.at_ b = .cells hexSet k t) (c : UInt8) :
    ACalls Tryd.prog 83 [.pointer (some ⟨b, 0, none⟩), .int .u8 c.toNat] H fun v H' => v = .bool (isHex c.toNat) ∧ H' = H := by
  refine S83_calls ?_
  unfold S83
  have h : c.toNat < 256 := c.toNat_lt
  simp only [aNilCheck_ptr, bnd_some', aIdxAddrArr_ptr]
  rw [if_pos ⟨by omega, by omega⟩]
  simp only [bnd_some', Int.toNat_natCast, Nat.mul_one, Nat.zero_add]
  rw [aLdCell_ptr, hat, blkCell_cells, hexSet_at]
  exact ⟨rfl, by trivial⟩

def hx (c : UInt8) : Bool := isHex c.toNat
def trimL (s : List UInt8) : List UInt8 := s.dropWhile hx
def trimR (s : List UInt8) : List UInt8 := (s.reverse.dropWhile hx).reverse
theorem trimR_append (s : List UInt8) (c : UInt8) : trimR (s ++ [c]) = if hx c then trimR s else s ++ [c] := by
  unfold trimR
  rw [List.reverse_append, List.reverse_singleton, List.singleton_append, List.dropWhile_cons]
  split
  · rfl
  · simp
theorem c60 {H : AHeap} {b : Nat} {k : Use} {t : TypeId} (hat : H.at_ b = .cells hexSet k t) (s : List UInt8) (hs : s.length ≤ 4611686018427387904) :
    ACalls Tryd.prog 60 [bstr s, .pointer (some ⟨b, 0, none⟩)] H fun v H' => v = bstr (trimR s) ∧ H' = H := by
  refine S60_calls ?_
  unfold S60
  rw [aJoin_eq]
  refine aLoop_inv (fun m vs H2 => ∃ t, m = t.length ∧ m ≤ s.length ∧ vs = [bstr t] ∧ H2 = H ∧ trimR t = trimR s) s.length ⟨s, rfl, Nat.le_refl _, rfl, rfl, rfl⟩ ?_
  rintro m vs H2 again ⟨t, rfl, hm, rfl, rfl, ht⟩ hag
  unfold S60_18
  simp only [nth_zero, str_len, bnd_some', aBin_gtr]
  rcases List.eq_nil_or_concat t with rfl | ⟨t', c, e⟩
  · simp only [show decide ((0 : Int) < (([] : List UInt8).length : Int)) = false from rfl, aCond_false]
    rw [← ht]
    exact ⟨rfl, by trivial⟩
  · rw [List.concat_eq_append] at e
    subst e
    rw [List.length_append] at hm
    simp only [List.length_cons, List.length_nil] at hm
    rw [show decide ((0 : Int) < ((t' ++ [c]).length : Int)) = true from decide_eq_true (by simp <;> omega), aCond_true]
    unfold S60_17
    have hw : IntKind.i64.wrap (((t' ++ [c]).length : Int) - 1) = (t'.length : Int) := by rw [wrap64 (by simp <;> omega) (by simp <;> omega)]; simp
    have hc : (t' ++ [c])[t'.length]'(by simp) = c := by simp
    simp only [nth_zero, str_len, bnd_some', aBin_sub, hw, str_at (t' ++ [c]) (k := .i64) (j := t'.length) (by simp), hc]
    refine (c83 hat c).use ?_
    simp only [aUn_not, bnd_some']
    have htr := trimR_append t' c
    cases hcx : isHex c.toNat with
    | false =>
      rw [show hx c = false from hcx] at htr
      simp only [Bool.not_false, aCond_true]
      rw [← ht, htr]
      exact ⟨by simp, by trivial⟩
    | true =>
      rw [show hx c = true from hcx, if_pos rfl] at htr
      simp only [Bool.not_true, aCond_false, str_take (t' ++ [c]) (k := .i64) (j := t'.length) (by simp), bnd_some']
      rw [List.take_left' rfl]
      exact hag t'.length _ _ (by simp) ⟨t', rfl, by omega, rfl, rfl, by rw [← ht, htr]⟩

theorem c59 {H : AHeap} {b : Nat} {k : Use} {t : TypeId} (hat : H.at_ b = .cells hexSet k t) (s : List UInt8) :
    ACalls Tryd.prog 59 [bstr s, .pointer (some ⟨b, 0, none⟩)] H fun v H' => v = bstr (trimL s) ∧ H' = H := by
  refine S59_calls ?_
  unfold S59
  rw [aJoin_eq]
  refine aLoop_inv (fun m vs H2 => ∃ t, m = t.length ∧ vs = [bstr t] ∧ H2 = H ∧ trimL t = trimL s) s.length ⟨s, rfl, rfl, rfl, rfl⟩ ?_
  rintro m vs H2 again ⟨t, rfl, rfl, rfl, ht⟩ hag
  unfold S59_14
  simp only [nth_zero, str_len, bnd_some', aBin_gtr]
  cases t with
  | nil =>
    simp only [show decide ((0 : Int) < (([] : List UInt8).length : Int)) = false from rfl, aCond_false]
    rw [← ht]
    exact ⟨rfl, by trivial⟩
  | cons c t' =>
    rw [show decide ((0 : Int) < ((c :: t').length : Int)) = true from decide_eq_true (by simp), aCond_true]
    unfold S59_13
    have h0 := str_at (c :: t') (k := .i64) (j := 0) (by simp)
    have h1 := str_drop (c :: t') (k := .i64) (j := 1) (by simp)
    simp only [nth_zero]
    rw [show (.int .i64 0 : Value) = .int .i64 ((0 : Nat) : Int) from rfl, h0, bnd_some']
    refine (c83 hat c).use ?_
    simp only [aUn_not, bnd_some']
    have htr : trimL (c :: t') = if hx c then trimL t' else c :: t' := by
      unfold trimL; rw [List.dropWhile_cons]
    cases hcx : isHex c.toNat with
    | false =>
      rw [show hx c = false from hcx] at htr
      simp only [Bool.not_false, aCond_true]
      rw [← ht, htr]
      exact ⟨by simp, by trivial⟩
    | true =>
      rw [show hx c = true from hcx, if_pos rfl] at htr
      simp only [Bool.not_true, aCond_false]
      rw [show (.int .i64 1 : Value) = .int .i64 ((1 : Nat) : Int) from rfl, h1, bnd_some']
      exact hag t'.length _ _ (by simp) ⟨t', rfl, rfl, rfl, by rw [← ht, htr]⟩

theorem c40 {H : AHeap} (s : List UInt8) (hs : s.length ≤ 4611686018427387904) : ACalls Tryd.prog 40 [bstr s, bstr digs16] H fun v H' => v = bstr (trimL (trimR s)) ∧ H' = H := by
  refine ACalls.eq (S40_calls ?_) rfl
  unfold S40
  rw [show (.string ⟨#[]⟩ : Value) = bstr [] from rfl]
  simp only [str_eq, bnd_some']
  have tail : S40_50 (bstr s) (bstr digs16) (fun v H' => v = bstr (trimL (trimR s)) ∧ Keep H.next H H') H := by
    unfold S40_50
    rw [str_len]
    simp only [bnd_some', aBin_eql]
    rw [show decide (((digs16 : List UInt8).length : Int) = 1) = false from by decide]
    simp only [aGuardK_ft, aPick_ff, bnd_some', aCond_false]
    refine c58.mono ?_
    rintro v H1 ⟨rfl, hk1⟩
    unfold S40_49
    refine bnd_iff.2 ⟨_, rfl, bnd_iff.2 ⟨_, rfl, ?_⟩⟩
    rw [aAlloc_eq]
    have hl : hexSet.length = 256 := by decide
    have hst : aSt 256 (.pointer (some ⟨H1.next, 0, none⟩)) (.agg hexSet.toArray) (H1.alloc (.cells z256 .var 98)) = some ((H1.alloc (.cells z256 .var 98)).upd H1.next (.cells hexSet .var 98)) := by
      rw [aSt_ptr, AHeap.at_alloc_new, blkSt_cells, vcells_agg, if_pos ⟨rfl, by simp [hl], by decide, by decide⟩]
      rfl
    refine bnd_iff.2 ⟨_, hst, ?_⟩
    have hat : ((H1.alloc (.cells z256 .var 98)).upd H1.next (.cells hexSet .var 98)).at_ H1.next = .cells hexSet .var 98 := AHeap.at_upd_same _ _ _
    have hk2 : Keep H.next H ((H1.alloc (.cells z256 .var 98)).upd H1.next (.cells hexSet .var 98)) := (hk1.alloc hk1.next _).upd hk1.next _
    show aCond (.bool true) _ _
    rw [aCond_true]
    refine (c60 hat s hs).use ((c59 hat (trimR s)).use ⟨rfl, hk2⟩)
  cases hn : decide (s = []) with
  | true =>
    have := of_decide_eq_true hn
    subst this
    simp only [aGuardK_tf, aPick_tt, bnd_some', aCond_true]
    exact ⟨rfl, Keep.refl _ _⟩
  | false =>
    simp only [aGuardK_ff, str_eq, bnd_some', aPick_ff]
    rw [show decide ((digs16 : List UInt8) = []) = false from by decide, aCond_false]
    exact tail

theorem hexd_hx : ∀ n : Nat, n < 16 → hx (hexd n) = true
  | 0, _ => rfl | 1, _ => rfl | 2, _ => rfl | 3, _ => rfl | 4, _ => rfl | 5, _ => rfl | 6, _ => rfl | 7, _ => rfl
  | 8, _ => rfl | 9, _ => rfl | 10, _ => rfl | 11, _ => rfl | 12, _ => rfl | 13, _ => rfl | 14, _ => rfl | 15, _ => rfl
  | n + 16, h => absurd h (by omega)
theorem hexd_ix : ∀ n : Nat, n < 16 → Lib.indexByte digs16 (hexd n) = n
  | 0, _ => rfl | 1, _ => rfl | 2, _ => rfl | 3, _ => rfl | 4, _ => rfl | 5, _ => rfl | 6, _ => rfl | 7, _ => rfl
  | 8, _ => rfl | 9, _ => rfl | 10, _ => rfl | 11, _ => rfl | 12, _ => rfl | 13, _ => rfl | 14, _ => rfl | 15, _ => rfl
  | n + 16, h => absurd h (by omega)
theorem hex2_hx (bs : List UInt8) : ∀ c ∈ bs.flatMap hex2, hx c = true := by
  intro c hc
  obtain ⟨x, _, hx'⟩ := List.mem_flatMap.1 hc
  have h := x.toNat_lt
  simp only [hex2, List.mem_cons, List.not_mem_nil, or_false] at hx'
  rcases hx' with rfl | rfl
  · exact hexd_hx _ (by omega)
  · exact hexd_hx _ (by omega)
theorem dropWhile_all {p : UInt8 → Bool} : ∀ {l : List UInt8}, (∀ c ∈ l, p c = true) → l.dropWhile p = []
  | [], _ => rfl
  | x :: l, h => by
    rw [List.dropWhile_cons, if_pos (h x (by simp))]
    exact dropWhile_all fun c hc => h c (by simp [hc])
theorem trim_hex (bs : List UInt8) : trimL (trimR (bs.flatMap hex2)) = [] := by
  have : trimR (bs.flatMap hex2) = [] := by
    unfold trimR
    rw [dropWhile_all fun c hc => hex2_hx bs c (by simpa using hc)]
    rfl
  rw [this]
  rfl
end Go.Proofs.YtnbnojkfhfkecaaDoor.A

/- bytes, at a line that spells bytes. -/
set_option linter.unusedVariables false
set_option linter.unusedSimpArgs false
set_option maxRecDepth 100000
namespace Go.Proofs.YtnbnojkfhfkecaaDoor.A
open Go Go.Abs

theorem pairs_at {bs : List UInt8} {i : Nat} (h : i < bs.length) : ∃ h0 h1, (bs.flatMap hex2)[2 * i]'h0 = hexd ((bs[i]).toNat / 16) ∧ (bs.flatMap hex2)[2 * i + 1]'h1 = hexd ((bs[i]).toNat % 16) := by
  have hl : (bs.flatMap hex2).length = bs.length * 2 := flatMap_length fun _ _ => rfl
  have hat := flatMap_at (f := hex2) (n := 2) (j := i) (x := bs[i]) (fun _ _ => rfl) (List.getElem?_eq_getElem h)
  have e : i * 2 = 2 * i := Nat.mul_comm _ _
  rw [e] at hat
  have g0 := congrArg (·[0]?) hat
  have g1 := congrArg (·[1]?) hat
  simp only [List.getElem?_take, List.getElem?_drop, hex2] at g0 g1
  refine ⟨by omega, by omega, ?_, ?_⟩
  · rw [if_pos (by decide), Nat.add_zero, List.getElem?_eq_getElem (by omega)] at g0
    exact Option.some.inj g0
  · rw [if_pos (by decide), List.getElem?_eq_getElem (by omega)] at g1
    exact Option.some.inj g1
theorem shl4 (n : Nat) (h : n < 16) : aBin .shl .no (.int .i64 n) (.int .u64 4) = some (.int .i64 (16 * n : Nat)) := by
  simp only [aBin, aInt]
  rw [if_neg (by decide)]
  congr 2
  rw [show min (4 : Int).toNat IntKind.i64.bits = 4 from rfl, wrap64 (by omega) (by omega)]
  omega
theorem or_hex : ∀ n : Nat, n < 256 → aBin .or .no (.int .i64 (16 * (n / 16) : Nat)) (.int .i64 (n % 16 : Nat)) = some (.int .i64 (n : Nat)) := by
  have h : ∀ n : Fin 256, IntKind.i64.wrap (BitVec.ofInt IntKind.i64.bits ((16 * (n.val / 16) : Nat) : Int) ||| BitVec.ofInt IntKind.i64.bits ((n.val % 16 : Nat) : Int)).toNat = (n.val : Int) := by decide
  intro n hn
  have : aBin .or .no (.int .i64 (16 * (n / 16) : Nat)) (.int .i64 (n % 16 : Nat)) = some (.int .i64 (IntKind.i64.wrap (BitVec.ofInt IntKind.i64.bits ((16 * (n / 16) : Nat) : Int) ||| BitVec.ofInt IntKind.i64.bits ((n % 16 : Nat) : Int)).toNat)) := by
    simp [aBin, aInt, aBits]
  rw [this, h ⟨n, hn⟩]

theorem c26 {H : AHeap} (bs : List UInt8) (hn : bs.length ≤ 1099511627776) : ACalls Tryd.prog 26 [bstr (hexL bs)] H fun v H' => ∃ B, v = .tuple #[.slice B bs.length bs.length, .bool true] ∧ Ow 1 eU 5 H.next H' B bs ∧ Keep H.next H H' := by
  refine S26_calls ?_
  unfold S26
  refine (c39 (hexL bs)).use ?_
  have hp : px (hexL bs) = true := by simp [px, hexL]
  have hd : (hexL bs).drop 1 = bs.flatMap hex2 := rfl
  rw [hp, if_pos rfl, hd]
  have hl : (bs.flatMap hex2).length = 2 * bs.length := by rw [flatMap_length (n := 2) fun _ _ => rfl]; omega
  unfold S26_64
  refine bnd_iff.2 ⟨bstr (bs.flatMap hex2), rfl, bnd_iff.2 ⟨.bool true, rfl, ?_⟩⟩
  have hrem : aBin .rem .no (.int .i64 ((bs.flatMap hex2).length : Nat)) (.int .i64 2) = some (.int .i64 0) := by
    rw [aBin_rem _ _ _ _ (by decide), hl]
    congr 2
    show ((2 * bs.length % 2 : Nat) : Int) = 0
    omega
  simp only [aUn_not, bnd_some', Bool.not_true, aGuardK_ff]
  rw [str_len]
  simp only [bnd_some']
  rw [hrem]
  simp only [bnd_some', aBin_gtr, show decide ((0 : Int) < 0) = false from rfl, aPick_ff, aGuardK_ff]
  refine (c40 _ (by omega)).use ?_
  rw [trim_hex, show (.string ⟨#[]⟩ : Value) = bstr [] from rfl]
  simp only [str_ne, bnd_some', decide_true, Bool.not_true, aPick_ff, aCond_false]
  refine aLoop_vs bs.length (fun i vs H2 => i ≤ bs.length ∧ ∃ B, vs = [.slice B i i, .int .i64 (2 * i : Nat)] ∧ Ow 1 eU 5 H.next H2 B (bs.take i) ∧ Keep H.next H H2)
    ⟨Nat.zero_le _, none, rfl, by simpa using Ow.nil 1 eU 5 H.next H, Keep.refl _ _⟩ ?_
  rintro i vs H2 again hi ⟨_, B, rfl, hO, hk⟩ hag
  unfold S26_63
  rw [str_len]
  simp only [nth_zero, nth_1, bnd_some', aBin_lss]
  refine aCond_of (fun hlt => ?_) (fun hge => ?_)
  · have hlt : i < bs.length := by have := of_decide_eq_true hlt; omega
    obtain ⟨h0, h1, e0, e1⟩ := pairs_at hlt
    have hx := (bs[i]).toNat_lt
    have hw : IntKind.i64.wrap (((2 * i : Nat) : Int) + 1) = ((2 * i + 1 : Nat) : Int) := by rw [wrap64 (by omega) (by omega)]; omega
    unfold S26_62
    simp only [nth_zero, nth_1]
    rw [str_at _ h0, e0, bnd_some']
    simp only [aBin_add, bnd_some', hw]
    rw [str_at _ h1, e1, bnd_some']
    refine (c41 digs16 _).use ?_
    rw [hexd_ix _ (by omega)]
    unfold S26_61
    rw [shl4 _ (by omega), bnd_some']
    refine (c41 digs16 _).use ?_
    rw [hexd_ix _ (by omega), or_hex _ (by omega)]
    simp only [bnd_some', aConvInt_int]
    rw [show IntKind.u8.wrap ((bs[i]).toNat : Int) = ((bs[i]).toNat : Int) by rw [IntKind.wrap_u8]; omega, aBuildSlice_eq]
    refine bnd_iff.2 ⟨[.int .u8 (bs[i]).toNat], rfl, ⟨rfl, rfl⟩, ?_⟩
    have hN : Ow 1 eU 5 H2.next (H2.alloc (.cells [.int .u8 (bs[i]).toNat] (.row 1) 5)) (some ⟨H2.next, 0, none⟩) [bs[i]] := Ow.new H2 _ (fun _ _ => rfl) rfl
    have hO3 := hO.alloc (.cells [.int .u8 (bs[i]).toNat] (.row 1) 5)
    have hn2 := hk.next
    have htl : (bs.take i).length = i := by rw [List.length_take]; omega
    have key := Ow.append (bytes := 1) (c := i) (c' := 1) (K := fun v H4 => bnd (aBin .add .no (.int .i64 (2 * i : Nat)) (.int .i64 2)) fun t => again [v, t] H4) hO3 hN.rd (by simp; omega) (by simp [maxLen]; omega) (by simp; omega) ?_
    · rw [htl] at key
      exact key
    · intro H4 hO4 hn4 _ hk4
      rw [List.take_append_getElem hlt] at hO4 ⊢
      rw [List.length_take, Nat.min_eq_left (by omega)]
      simp only [aBin_add, bnd_some']
      rw [wrap64 (by omega) (by omega)]
      refine hag _ _ hlt ⟨by omega, _, ?_, hO4, (hk.trans ((Keep.refl _ _).alloc hn2 _)).trans hk4⟩
      congr 3
  · have hge : i = bs.length := by have := of_decide_eq_false hge; omega
    subst hge
    rw [List.take_length] at hO
    exact ⟨B, rfl, hO, hk⟩
end Go.Proofs.YtnbnojkfhfkecaaDoor.A
