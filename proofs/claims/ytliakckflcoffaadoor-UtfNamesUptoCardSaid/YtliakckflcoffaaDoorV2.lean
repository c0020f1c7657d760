/- Texts, numerals at base 16, Trim (turned from the texts of chapter 22). -/
import Derived.Test.YtliakckflcoffaaDoorU10
import Derived.Test.YtliakckflcoffaaDoorV1
import Derived.Test.YtliakckflcoffaaDoorVSu
import Derived.Test.YtliakckflcoffaaDoorAbsZ
set_option linter.unusedVariables false
set_option linter.unusedSimpArgs false
set_option maxRecDepth 100000
namespace Go.Proofs.YtliakckflcoffaaDoor.A
open Go Go.Abs

abbrev bstr (l : List UInt8) : Value := .string ⟨l.toArray⟩
abbrev u8c (l : List UInt8) : List Value := l.map fun b => .int .u8 b.toNat
theorem bytesOf_u8c : ∀ (l : List UInt8), bytesOf (u8c l) = some l
  | [] => rfl
  | x :: l => by
    have h1 : x.toNat < 256 := x.toNat_lt
    simp only [u8c, List.map_cons, bytesOf]
    rw [if_pos (by omega), show l.map (fun b => Value.int .u8 (b.toNat : Int)) = u8c l from rfl, bytesOf_u8c l]
    simp
theorem ba_append (x y : List UInt8) : (⟨x.toArray⟩ : ByteArray) ++ ⟨y.toArray⟩ = ⟨(x ++ y).toArray⟩ := by
  apply ByteArray.ext
  simp
theorem aBin_sadd (e : EK) (x y : List UInt8) (h : x.length + y.length ≤ 9223372036854775807) : aBin .add e (bstr x) (bstr y) = some (bstr (x ++ y)) := by
  show aStr .add _ _ = _
  unfold aStr
  dsimp only
  have h' : (⟨x.toArray⟩ : ByteArray).size + (⟨y.toArray⟩ : ByteArray).size ≤ 9223372036854775807 := by
    show x.toArray.size + y.toArray.size ≤ _
    simpa using h
  rw [if_pos h', ba_append]

abbrev ba (l : List UInt8) : ByteArray := ⟨l.toArray⟩
theorem ba_size (l : List UInt8) : (ba l).size = l.length := by show Array.size _ = _; simp
theorem ba_extract (l : List UInt8) (i j : Nat) : (ba l).extract i j = ba ((l.drop i).take (j - i)) := by
  apply ByteArray.ext
  apply Array.ext'
  simp [ByteArray.data_extract, List.extract_eq_take_drop, ba]
theorem str_take (s : List UInt8) {k : IntKind} {j : Nat} (h : j ≤ s.length) : aSliceStr (bstr s) none (some (.int k (j : Int))) = some (bstr (s.take j)) := by
  have h1 : ((j : Int) ≤ ((ba s).size : Nat)) := by rw [ba_size]; omega
  simp only [aSliceStr, aSlice, aLen, loOf, hiOf, Int.toNat_natCast, Option.bind_some]
  rw [if_pos ⟨by omega, h1⟩]
  simp only [Option.bind_some, aCut, Nat.zero_le, if_true, Int.toNat_natCast]
  rw [ba_extract]
  simp
theorem str_drop (s : List UInt8) {k : IntKind} {j : Nat} (h : j ≤ s.length) : aSliceStr (bstr s) (some (.int k (j : Int))) none = some (bstr (s.drop j)) := by
  have h1 : j ≤ (ba s).size := by rw [ba_size]; exact h
  simp only [aSliceStr, aSlice, aLen, loOf, hiOf, Int.toNat_natCast, Option.bind_some]
  rw [if_pos (by omega)]
  simp only [Option.bind_some, aCut, Int.toNat_natCast]
  rw [if_pos h1, ba_extract, ba_size]
  congr 3
  rw [List.take_of_length_le (by rw [List.length_drop]; exact Nat.le_refl _)]
theorem str_sub (s : List UInt8) {k k' : IntKind} {i j : Nat} (hij : i ≤ j) (h : j ≤ s.length) : aSliceStr (bstr s) (some (.int k (i : Int))) (some (.int k' (j : Int))) = some (bstr ((s.drop i).take (j - i))) := by
  have h1 : ((j : Int) ≤ ((ba s).size : Nat)) := by rw [ba_size]; omega
  simp only [aSliceStr, aSlice, aLen, loOf, hiOf, Int.toNat_natCast, Option.bind_some]
  rw [if_pos (by omega), if_pos ⟨by omega, h1⟩]
  simp only [Option.bind_some, aCut, Int.toNat_natCast]
  rw [if_pos hij, ba_extract]
theorem str_len (s : List UInt8) : aLenStr (bstr s) = some (.int .i64 (s.length : Nat)) := by
  show some (Value.int .i64 ((ba s).size : Nat)) = _
  rw [ba_size]
theorem str_eq (e : EK) (s t : List UInt8) : aBin .eql e (bstr s) (bstr t) = some (.bool (decide (s = t))) := by
  rw [aBin_seql, ba_beq]
  congr 2
  by_cases h : s = t
  · subst h; simp
  · have : ¬ (ba s) = ba t := fun h' => h (by have := congrArg (fun b : ByteArray => b.data.toList) h'; simpa using this)
    rw [decide_eq_false h, decide_eq_false this]
theorem str_ne (e : EK) (s t : List UInt8) : aBin .neq e (bstr s) (bstr t) = some (.bool (!decide (s = t))) := by
  rw [aBin_sneq, ba_beq]
  congr 3
  by_cases h : s = t
  · subst h; simp
  · have : ¬ (ba s) = ba t := fun h' => h (by have := congrArg (fun b : ByteArray => b.data.toList) h'; simpa using this)
    rw [decide_eq_false h, decide_eq_false this]

/-- A text's bytes as numbers. -/
def nt (l : List UInt8) : List Nat := l.map UInt8.toNat
@[simp] theorem nt_len (l : List UInt8) : (nt l).length = l.length := by simp [nt]
theorem nt_lt (l : List UInt8) : ∀ x ∈ nt l, x < 256 := by
  intro x hx
  obtain ⟨b, _, rfl⟩ := List.mem_map.1 hx
  exact b.toNat_lt
theorem nt_drop (l : List UInt8) (n : Nat) : nt (l.drop n) = (nt l).drop n := List.map_drop ..
theorem nt_take (l : List UInt8) (n : Nat) : nt (l.take n) = (nt l).take n := List.map_take ..
theorem nt_ne {l : List UInt8} (h : l ≠ []) : nt l ≠ [] := fun e => h (List.map_eq_nil_iff.1 e)
theorem nt_back (l : List UInt8) : (nt l).map UInt8.ofNat = l := by
  unfold nt
  rw [List.map_map]
  exact (List.map_congr_left (fun b _ => by simp)).trans (List.map_id l)
theorem byteCells_nt (l : List UInt8) : byteCells (ba l) = (nt l).flatMap eN := by
  unfold byteCells nt
  show (l.toArray.toList).map _ = _
  rw [List.toList_toArray]
  induction l with
  | nil => rfl
  | cons x l ih => rw [List.map_cons, List.map_cons, List.flatMap_cons, ih]; rfl
/-- A text's bytes where they are laid. -/
theorem rdStr (H : AHeap) (l : List UInt8) (t : TypeId) : BytesN (H.next + 1) (H.alloc (.cells (byteCells (ba l)) .read t)) (some ⟨H.next, 0, none⟩) (nt l) :=
  Rd.mk' (fun _ _ => rfl) (Nat.lt_succ_self _) (AHeap.at_alloc_new _ _) (by simp) (byteCells_nt l) (by rw [byteCells_nt, flatMap_length (n := 1) (fun _ _ => rfl)])

theorem get_nt (l : List UInt8) (i : Nat) : ((ba l).get! i).toNat = at' (nt l) i := by
  show (l.toArray[i]!).toNat = _
  unfold at' nt
  rw [List.getD_eq_getElem?_getD, List.getElem?_map]
  by_cases h : i < l.length
  · rw [List.getElem?_eq_getElem h]
    simp [h]
  · rw [List.getElem?_eq_none (by omega)]
    have : l.toArray[i]! = default := by simp [getElem!_def, h]
    rw [this]
    rfl
theorem decodeGo_nt {l : List UInt8} (h : l ≠ []) : Lib.decodeGo (ba l) = rd (nt l) := by
  have hs : ¬ (ba l).size = 0 := by
    rw [ba_size]
    exact fun e => h (List.length_eq_zero_iff.1 e)
  unfold Lib.decodeGo rd
  rw [if_neg hs, Lib.decode_at, get_nt, get_nt, get_nt, get_nt, ba_size, nt_len]
  simp


theorem str_at (s : List UInt8) {k : IntKind} {j : Nat} (h : j < s.length) : aIdxStr (bstr s) (.int k (j : Int)) = some (.int .u8 (s[j]).toNat) := by
  unfold aIdxStr
  dsimp only
  rw [if_pos (by omega), Int.toNat_natCast]
  have : (ba s)[j]? = some s[j] := by
    show (ba s)[j]? = _
    rw [getElem?_pos (ba s) j (by rw [ba_size]; exact h)]
    congr 1
  rw [this]
  rfl

/-- .. as a text. -/
def encU (c : Nat) : List UInt8 := (enc c).map UInt8.ofNat
theorem encU_len (c : Nat) : (encU c).length = (enc c).length := by simp [encU]
theorem encode_encU {c : Nat} (h : scal (c : Int) = true) : Utf8.encode (c : Int) = ba (encU c) := by
  have hv : Utf8.valid (c : Int) = true := by
    simp [scal] at h
    unfold Utf8.valid
    simp
    omega
  unfold Utf8.encode
  simp only [hv, if_true, Int.toNat_natCast]
  unfold encU enc ba
  (repeat' split) <;> first | rfl | (exfalso; omega)
theorem rune_encU {k : IntKind} {c : Nat} (h : scal (c : Int) = true) : aRuneStr (.int k (c : Int)) = some (bstr (encU c)) := by
  show some (Value.string (Utf8.encode (c : Int))) = _
  rw [encode_encU h]


def wd (l : List UInt8) : Nat := (rd (nt l)).2

theorem wd_fit {l : List UInt8} (h : l ≠ []) : 1 ≤ wd l ∧ wd l ≤ l.length := by
  have := rd_fit (nt_ne h)
  rw [nt_len] at this
  exact ⟨this.1, this.2.1⟩

theorem bad_wd {l : List UInt8} (h : Bad (nt l)) : wd l = 1 := by unfold wd; rw [h]
/-- A character that is none: by what the decoder tells. -/
theorem badN_iff (l : List UInt8) : Bad (nt l) ↔ (rd (nt l)).1 = 65533 ∧ (rd (nt l)).2 < 2 := by
  constructor
  · intro h
    rw [h]
    exact ⟨rfl, by decide⟩
  · intro ⟨h1, h2⟩
    exact decodeN_one h1 h2
theorem take_encU {l : List UInt8} (h : l ≠ []) (hB : ¬ Bad (nt l)) : encU (rd (nt l)).1 = l.take (wd l) := by
  unfold encU wd
  rw [(enc_rd (nt_lt l) (nt_ne h) hB).2, ← nt_take, nt_back]

def deb64 : List Int := [0, 1, 56, 2, 57, 49, 28, 3, 61, 58, 42, 50, 38, 29, 17, 4, 62, 47, 59, 36, 45, 43, 51, 22, 53, 39, 33, 30, 24, 18, 12, 5, 63, 55, 48, 27, 60, 41, 37, 16, 46, 35, 44, 21, 52, 32, 23, 11, 54, 26, 40, 15, 34, 20, 31, 10, 25, 14, 19, 9, 13, 8, 7, 6]
def deb64C : List Value := deb64.map fun z => .int .u8 z

def namesC : List Value := [.int .i64 32, .string ⟨#[115, 112, 97, 99, 101]⟩, .int .i64 10, .string ⟨#[110, 101, 119, 108, 105, 110, 101]⟩, .int .i64 9, .string ⟨#[116, 97, 98]⟩, .int .i64 13, .string ⟨#[114, 101, 116, 117, 114, 110]⟩, .int .i64 0, .string ⟨#[110, 117, 108, 108]⟩, .int .i64 127, .string ⟨#[100, 101, 108, 101, 116, 101]⟩]
/-- The tables that are told. -/
structure Tb (H : AHeap) : Prop where
  tabs : Tabs H
  deb : H.at_ 8 = .cells deb64C .read 0
  names : H.at_ 0 = .cells namesC .read 0
  next : 9 ≤ H.next
theorem Tb.kept {H H' : AHeap} (h : Tb H) (k : Keep H.next H H') : Tb H' :=
  ⟨h.tabs.kept k, (k.at_ 8 (by have := h.next; omega)).trans h.deb, (k.at_ 0 (by have := h.next; omega)).trans h.names, Nat.le_trans h.next k.next⟩
theorem Tb.keep {H H' : AHeap} (h : Tb H) (hn : H.next ≤ H'.next) (hk : ∀ c, c < 9 → H'.at_ c = H.at_ c) : Tb H' :=
  ⟨⟨Nat.lt_of_lt_of_le h.tabs.lt hn, (hk 1 (by decide)).trans h.tabs.first, (hk 2 (by decide)).trans h.tabs.acc⟩, (hk 8 (by decide)).trans h.deb, (hk 0 (by decide)).trans h.names, Nat.le_trans h.next hn⟩

theorem c80 {H : AHeap} (hT : Tb H) : ACalls Tryd.prog 80 [.int .u64 16] H fun v H' => v = .int .i64 4 ∧ H' = H := by
  refine S80_calls ?_
  unfold S80
  refine bnd_iff.2 ⟨.bool false, by kernel_rfl, ?_⟩
  rw [aCond_false]
  unfold S80_8
  refine bnd_iff.2 ⟨.int .u64 18446744073709551600, by kernel_rfl, ?_⟩
  refine bnd_iff.2 ⟨.int .u64 16, by kernel_rfl, ?_⟩
  refine bnd_iff.2 ⟨.int .u64 4573923408821661840, by kernel_rfl, ?_⟩
  refine bnd_iff.2 ⟨.int .u64 15, by kernel_rfl, ?_⟩
  refine bnd_iff.2 ⟨.pointer (some ⟨8, 15, none⟩), by kernel_rfl, ?_⟩
  refine bnd_iff.2 ⟨.int .u8 4, ?_, ?_⟩
  · simp only [aLdCell, hT.deb]
    rfl
  · exact bnd_iff.2 ⟨.int .i64 4, by kernel_rfl, rfl, rfl⟩
theorem c73 {H : AHeap} (hT : Tb H) : ACalls Tryd.prog 73 [.int .u64 16] H fun v H' => v = .int .i64 4 ∧ H' = H := by
  refine S73_calls ?_
  unfold S73
  rw [aCond_false]
  exact (c80 hT).use ⟨rfl, rfl⟩
theorem c72 {H : AHeap} : ACalls Tryd.prog 72 [.int .i64 16] H fun v H' => v = .bool true ∧ H' = H := by
  refine S72_calls ?_
  unfold S72
  refine bnd_iff.2 ⟨.int .i64 15, by kernel_rfl, ?_⟩
  refine bnd_iff.2 ⟨.int .i64 0, by kernel_rfl, ?_⟩
  exact bnd_iff.2 ⟨.bool true, by kernel_rfl, rfl, rfl⟩

def hexd (n : Nat) : UInt8 := if n < 10 then UInt8.ofNat (48 + n) else UInt8.ofNat (87 + n)
abbrev dig36 : ByteArray := ⟨#[48, 49, 50, 51, 52, 53, 54, 55, 56, 57, 97, 98, 99, 100, 101, 102, 103, 104, 105, 106, 107, 108, 109, 110, 111, 112, 113, 114, 115, 116, 117, 118, 119, 120, 121, 122]⟩
theorem idx36 (k : IntKind) : ∀ n : Nat, n < 16 → aIdxStr (.string dig36) (.int k n) = some (.int .u8 (hexd n).toNat)
  | 0, _ => rfl | 1, _ => rfl | 2, _ => rfl | 3, _ => rfl | 4, _ => rfl | 5, _ => rfl | 6, _ => rfl | 7, _ => rfl
  | 8, _ => rfl | 9, _ => rfl | 10, _ => rfl | 11, _ => rfl | 12, _ => rfl | 13, _ => rfl | 14, _ => rfl | 15, _ => rfl
  | n + 16, h => absurd h (by omega)
theorem aInt_and (k : IntKind) (x y : Int) : aBin .and .no (.int k x) (.int k y) = some (.int k (k.wrap (BitVec.ofInt k.bits x &&& BitVec.ofInt k.bits y).toNat)) := by
  simp [aBin, aInt, aBits]
theorem and15w : ∀ n : Nat, n < 256 → aBin .and .no (.int .u64 n) (.int .u64 15) = some (.int .u64 ((n % 16 : Nat) : Int)) := by
  have h : ∀ n : Fin 256, IntKind.u64.wrap (BitVec.ofInt IntKind.u64.bits (n.val : Int) &&& BitVec.ofInt IntKind.u64.bits 15).toNat = ((n.val % 16 : Nat) : Int) := by decide
  intro n hn
  rw [aInt_and, h ⟨n, hn⟩]
theorem shr4w (n : Nat) : aBin .shr .no (.int .u64 n) (.int .u64 4) = some (.int .u64 ((n / 16 : Nat) : Int)) := by
  simp only [aBin, aInt]
  rw [if_neg (by decide)]
  congr 2
  show (n : Int).fdiv (2 ^ min 4 64) = _
  rw [show min 4 64 = 4 from rfl, Int.fdiv_eq_ediv_of_nonneg _ (by decide)]
  rfl
def hex1 (n : Nat) : List UInt8 := if n < 16 then [hexd n] else [hexd (n / 16), hexd (n % 16)]
abbrev z65 : List Value := List.replicate 65 (.int .u8 0)
theorem aSt_var {H : AHeap} {b o : Nat} {cs : List Value} {t : TypeId} {v : Value} (hat : H.at_ b = .cells cs .var t) (ho : o < cs.length) (hv : vcells v = [v]) (hok : okCell v = true) :
    aSt 1 (.pointer (some ⟨b, o, none⟩)) v H = some (H.upd b (.cells (cs.set o v) .var t)) := by
  rw [aSt_ptr, hat, blkSt_cells, hv, if_pos ⟨rfl, rfl, by omega, by simp [hok]⟩]
  rfl
theorem bytes_at {H : AHeap} {b o n : Nat} {cs : List Value} {k : Use} {t : TypeId} {l : List UInt8} (hat : H.at_ b = .cells cs k t) (hn : o + n ≤ cs.length) (hl : (cs.drop o).take n = u8c l) (c : Nat) :
    aBytesStr (.slice (some ⟨b, o, none⟩) n c) H = some (bstr l) := by
  unfold aBytesStr aRow
  dsimp only
  rw [hat]
  dsimp only
  rw [Nat.mul_one, if_pos hn, hl]
  simp [bytesOf_u8c]

/-- The end: the digits that lie from o on. -/
theorem s58_end {H H1 : AHeap} {o : Nat} {l : List UInt8} {cs : List Value} (hk : Keep H.next H H1) (ho : 0 < o) (ho2 : o < 65) (hat : H1.at_ H.next = .cells cs .var 98) (hcl : cs.length = 65) (hl : cs.drop o = u8c l) :
    S58_69 (.slice none 0 0) (.bool false) (.bool false) (fun v H' => v = .tuple #[.slice none 0 0, bstr l] ∧ Keep H.next H H') (.pointer (some ⟨H.next, 0, none⟩)) [.int .i64 o] H1 := by
  unfold S58_69
  rw [aJoin_eq, aCond_false]
  unfold S58_22
  simp only [aCond_false, nth_zero]
  have hsl : aSliceArr 65 1 (.pointer (some ⟨H.next, 0, none⟩)) (some (.int .i64 o)) none = some (.slice (some ⟨H.next, o, none⟩) (65 - o) (65 - o)) := by
    simp [aSliceArr, loOf, hiOf, maxLen]
    omega
  rw [hsl, bnd_some', bytes_at hat (by omega) (by rw [hl]; exact List.take_of_length_le (by have := congrArg List.length hl; simp at this; simp; omega)), bnd_some']
  exact ⟨rfl, hk⟩
theorem lt_at {H : AHeap} {x : Blk} : (H.alloc x).at_ H.next = x := AHeap.at_alloc_new _ _

theorem wrap_u64 {x : Int} (h : 0 ≤ x) (h' : x < 18446744073709551616) : IntKind.u64.wrap x = x := by
  rw [IntKind.wrap_u64]; omega

theorem c58 {H : AHeap} (hT : Tb H) (x : Nat) (hx : x < 256) : ACalls Tryd.prog 58 [.slice none 0 0, .int .u64 x, .int .i64 16, .bool false, .bool false] H fun v H' => v = .tuple #[.slice none 0 0, bstr (hex1 x)] ∧ Keep H.next H H' := by
  refine S58_calls ?_
  unfold S58
  rw [aJoin_eq]
  simp [aInt, aBin]
  unfold S58_93
  rw [aAlloc_eq, aJoin_eq, aCond_false]
  have hT1 : Tb (H.alloc (.cells z65 .var 98)) := hT.keep (by simp) fun c hc => AHeap.at_alloc_ne _ _ (by have := hT.next; omega)
  have hk1 : Keep H.next H (H.alloc (.cells z65 .var 98)) := (Keep.refl _ _).alloc (Nat.le_refl _) _
  have hat1 : (H.alloc (.cells z65 .var 98)).at_ H.next = .cells z65 .var 98 := AHeap.at_alloc_new _ _
  show S58_71 _ _ _ _ _ _ _ (H.alloc (.cells z65 .var 98))
  generalize H.alloc (.cells z65 .var 98) = H1 at hT1 hk1 hat1
  unfold S58_71
  rw [aJoin_eq]
  refine c72.use ?_
  rw [aCond_true]
  unfold S58_49
  refine bnd_iff.2 ⟨.int .u64 16, by kernel_rfl, ?_⟩
  refine (c73 hT1).use ?_
  refine bnd_iff.2 ⟨.int .u64 4, by kernel_rfl, bnd_iff.2 ⟨.int .u64 16, by kernel_rfl, bnd_iff.2 ⟨.int .u64 16, by kernel_rfl, bnd_iff.2 ⟨.int .u64 15, by kernel_rfl, ?_⟩⟩⟩⟩
  rw [nth_zero]
  refine aLoop_vs 1 (fun i vs H2 => Keep H.next H H2 ∧ ∃ cs : List Value, H2.at_ H.next = .cells cs .var 98 ∧ cs.length = 65 ∧
    ((i = 0 ∧ vs = [.int .u64 x, .int .i64 65] ∧ cs = z65) ∨ (i = 1 ∧ 16 ≤ x ∧ vs = [.int .u64 (x / 16 : Nat), .int .i64 64] ∧ cs = z65.set 64 (.int .u8 (hexd (x % 16)).toNat)))) ⟨hk1, z65, hat1, rfl, .inl ⟨rfl, rfl, rfl⟩⟩ ?_
  rintro i vs H2 again hi ⟨hk2, cs, hat2, hcl, hc⟩ hag
  rcases hc with ⟨rfl, rfl, rfl⟩ | ⟨rfl, hx16, rfl, rfl⟩
  · unfold S58_48
    simp only [nth_zero, aBin_geq, bnd_some']
    refine aCond_of (fun hge => ?_) (fun hlt => ?_)
    · have hge' : 16 ≤ x := by have := of_decide_eq_true hge; omega
      unfold S58_42
      simp only [nth_zero, nth_1, aBin_sub, bnd_some', and15w x hx, idx36 .u64 (x % 16) (by omega), shr4w, aIdxAddrArr_ptr]
      rw [show IntKind.i64.wrap (65 - 1) = 64 by decide]
      simp only [show (0 : Int) ≤ 64 ∧ (64 : Int) < (65 : Nat) from ⟨by decide, by decide⟩, if_true, bnd_some', and_self]
      rw [show (0 + (64 : Int).toNat * 1) = 64 from rfl, aSt_var hat2 (by decide) rfl rfl, bnd_some']
      refine hag _ _ (by omega) ⟨hk2.upd (Nat.le_refl _) _, _, AHeap.at_upd_same _ _ _, by simp, .inr ⟨rfl, hge', rfl, rfl⟩⟩
    · have hlt' : x < 16 := by have := of_decide_eq_false hlt; omega
      unfold S58_47
      simp only [nth_zero, nth_1, aBin_sub, bnd_some', idx36 .u64 x hlt', aIdxAddrArr_ptr]
      rw [show IntKind.i64.wrap (65 - 1) = 64 by decide]
      simp only [show (0 : Int) ≤ 64 ∧ (64 : Int) < (65 : Nat) from ⟨by decide, by decide⟩, if_true, bnd_some', and_self]
      rw [show (0 + (64 : Int).toNat * 1) = 64 from rfl, aSt_var hat2 (by decide) rfl rfl, bnd_some']
      have hh : hex1 x = [hexd x] := by simp [hex1, hlt']
      rw [hh]
      exact s58_end (o := 64) (hk2.upd (Nat.le_refl _) _) (by decide) (by decide) (AHeap.at_upd_same _ _ _) (by simp) rfl
  · unfold S58_48
    simp only [nth_zero, aBin_geq, bnd_some']
    refine aCond_of (fun hge => ?_) (fun hlt => ?_)
    · have := of_decide_eq_true hge
      omega
    · unfold S58_47
      simp only [nth_zero, nth_1, aBin_sub, bnd_some', idx36 .u64 (x / 16) (by omega), aIdxAddrArr_ptr]
      rw [show IntKind.i64.wrap (64 - 1) = 63 by decide]
      simp only [show (0 : Int) ≤ 63 ∧ (63 : Int) < (65 : Nat) from ⟨by decide, by decide⟩, if_true, bnd_some', and_self]
      rw [show (0 + (63 : Int).toNat * 1) = 63 from rfl, aSt_var hat2 (by rw [hcl]; decide) rfl rfl, bnd_some']
      have hh : hex1 x = [hexd (x / 16), hexd (x % 16)] := by simp [hex1]; omega
      rw [hh]
      exact s58_end (o := 63) (hk2.upd (Nat.le_refl _) _) (by decide) (by decide) (AHeap.at_upd_same _ _ _) (by simp) rfl


theorem c32 {H : AHeap} (hT : Tb H) (x : Nat) (hx : x < 256) : ACalls Tryd.prog 32 [.int .i64 x, .int .i64 16] H fun v H' => v = bstr (hex1 x) ∧ H' = H := by
  have h42 : ACalls Tryd.prog 42 [.int .i64 x, .int .i64 16] H fun v H' => v = bstr (hex1 x) ∧ H' = H := by
    refine ACalls.eq (S42_calls ?_) rfl
    unfold S42
    simp only [aBin_eql, bnd_some']
    rw [show decide ((16 : Int) = 10) = false from rfl, aCond_false]
    unfold S42_47
    simp only [aConvInt_int, bnd_some', aBin_lss]
    rw [wrap_u64 (by omega) (by omega), show decide ((x : Int) < 0) = false from decide_eq_false (by omega)]
    refine (c58 hT x hx).mono ?_
    rintro v H' ⟨rfl, hk⟩
    simp only [aExtract_tuple]
    exact ⟨rfl, hk⟩
  refine S32_calls ?_
  unfold S32
  exact h42.use ⟨rfl, rfl⟩

abbrev dig16 : List UInt8 := [48, 49, 50, 51, 52, 53, 54, 55, 56, 57, 97, 98, 99, 100, 101, 102]
theorem dig_sub : ∀ n : Nat, n < 16 → (dig16.drop n).take (n + 1 - n) = [hexd n]
  | 0, _ => rfl | 1, _ => rfl | 2, _ => rfl | 3, _ => rfl | 4, _ => rfl | 5, _ => rfl | 6, _ => rfl | 7, _ => rfl
  | 8, _ => rfl | 9, _ => rfl | 10, _ => rfl | 11, _ => rfl | 12, _ => rfl | 13, _ => rfl | 14, _ => rfl | 15, _ => rfl
  | n + 16, h => absurd h (by omega)
theorem sub16 {n : Nat} (h : n < 16) : aSliceStr (.string ⟨#[48, 49, 50, 51, 52, 53, 54, 55, 56, 57, 97, 98, 99, 100, 101, 102]⟩) (some (.int .i64 (n : Int))) (some (.int .i64 ((n + 1 : Nat) : Int))) = some (bstr [hexd n]) := by
  have := str_sub dig16 (k := .i64) (k' := .i64) (i := n) (j := n + 1) (by omega) (by show n + 1 ≤ 16; omega)
  rw [dig_sub n h] at this
  exact this
theorem c33s {H : AHeap} (n : Nat) (h : n < 16) : ACalls Tryd.prog 33 [.int .i64 n] H fun v H' => v = bstr [hexd n] ∧ H' = H := by
  refine S33_calls ?_
  unfold S33
  rw [aBin_lss, bnd_some', show decide ((n : Int) < 16) = true from decide_eq_true (by omega), aCond_true]
  rw [show aBin .add .no (.int .i64 (n : Int)) (.int .i64 1) = some (.int .i64 ((n + 1 : Nat) : Int)) from addN n 1 (by omega), bnd_some', sub16 h, bnd_some']
  exact ⟨rfl, rfl⟩
theorem c33 {H : AHeap} (n : Nat) (h : n < 256) : ACalls Tryd.prog 33 [.int .i64 n] H fun v H' => v = bstr (hex1 n) ∧ H' = H := by
  unfold hex1
  split
  · rename_i h16; exact c33s n h16
  · rename_i h16
    refine S33_calls ?_
    unfold S33
    rw [aBin_lss, bnd_some', show decide ((n : Int) < 16) = false from decide_eq_false (by omega), aCond_false]
    unfold S33_11
    rw [show aBin .quo .no (.int .i64 (n : Int)) (.int .i64 16) = some (.int .i64 ((n / 16 : Nat) : Int)) from quoN n 16 (by decide) (by omega), bnd_some']
    rw [show aBin .rem .no (.int .i64 (n : Int)) (.int .i64 16) = some (.int .i64 ((n % 16 : Nat) : Int)) from remN n 16 (by decide), bnd_some', bnd_some']
    rw [show aBin .add .no (.int .i64 ((n % 16 : Nat) : Int)) (.int .i64 1) = some (.int .i64 ((n % 16 + 1 : Nat) : Int)) from addN (n % 16) 1 (by omega), bnd_some', sub16 (by omega), bnd_some']
    refine (c33s (n / 16) (by omega)).use ?_
    rw [aBin_sadd _ _ _ (by simp), bnd_some']
    exact ⟨rfl, rfl⟩


end Go.Proofs.YtliakckflcoffaaDoor.A
