/- Contracts of functions that the statement reaches; each theorem carries its own conditions, the last theorem of the claim has none. -/
import Derived.Test.YtnbnojkfhfkecaaDoorC10
import Derived.Lib.ItoaLen
/- Put. -/
set_option linter.unusedVariables false
set_option linter.unusedSimpArgs false
set_option maxRecDepth 100000
namespace Go.Proofs.YtnbnojkfhfkecaaDoor.A
open Go Go.Abs

abbrev Chunk := Option Addr × List UInt8
abbrev eC (p : Chunk) : List Value := [Value.slice p.1 p.2.length p.2.length]
/-- A row of rows of bytes, that is read. -/
structure Chs (lo : Nat) (H : AHeap) (A : Option Addr) (ps : List Chunk) : Prop where
  rd : Rd 1 eC lo H A ps
  el : ∀ p ∈ ps, By lo H p.1 p.2
theorem Chs.keep {lo : Nat} {H H' : AHeap} {A : Option Addr} {ps : List Chunk} (h : Chs lo H A ps) (hk : ∀ b, b < lo → H'.at_ b = H.at_ b) : Chs lo H' A ps := ⟨h.rd.keep hk, fun p hp => (h.el p hp).keep hk⟩
theorem Chs.up {lo lo' : Nat} {H : AHeap} {A : Option Addr} {ps : List Chunk} (h : Chs lo H A ps) (hl : lo ≤ lo') : Chs lo' H A ps := ⟨h.rd.up hl, fun p hp => (h.el p hp).up hl⟩

theorem ba_append (x y : List UInt8) : (⟨x.toArray⟩ : ByteArray) ++ ⟨y.toArray⟩ = ⟨(x ++ y).toArray⟩ := by
  apply ByteArray.ext
  simp
theorem aBin_sadd (e : EK) (x y : List UInt8) (h : x.length + y.length ≤ 9223372036854775807) : aBin .add e (bstr x) (bstr y) = some (bstr (x ++ y)) := by
  show aStr .add _ _ = _
  unfold aStr
  dsimp only
  have h' : (⟨x.toArray⟩ : ByteArray).size + (⟨y.toArray⟩ : ByteArray).size ≤ 9223372036854775807 := by
    show x.toArray.size + y.toArray.size ≤ _
    simpa using h
  rw [if_pos h', ba_append]

theorem ACalls.eqT {P : Program} {f : FuncId} {args : List Value} {H : AHeap} {r : Value} (h : ACalls P f args H fun v H' => v = r ∧ Keep H.next H H') (hp : VIn (fun c => c < H.next) r) : ACalls P f args H fun v H' => v = r ∧ H' = H :=
  ACalls.pure (L := fun v => v = r) h fun v hv => by subst hv; exact hp
theorem vin_pair {K : Nat → Prop} {x y : Value} (hx : Abs.plainCell x = true) (hy : Abs.plainCell y = true) : VIn K (.tuple #[x, y]) :=
  .tuple fun i u hu => by
    match i, hu with
    | 0, hu => simp at hu; subst hu; exact .plain hx
    | 1, hu => simp at hu; subst hu; exact .plain hy
    | i + 2, hu => simp at hu

theorem c18 {H : AHeap} (b : Nat) : ACalls Tryd.prog 18 [.pointer (some ⟨b, 0, none⟩)] H fun v H' => v = .slice (some ⟨H.next, 0, none⟩) 3 3 ∧
    H' = H.alloc (.cells [.pointer (some ⟨b, 0, none⟩), .pointer (some ⟨b, 1, none⟩), .pointer (some ⟨b, 2, none⟩)] (.row 1) 52) := by
  refine S18_calls ?_
  unfold S18
  simp only [aNilCheck_ptr, aAdd_ptr, bnd_some', Nat.zero_add]
  rw [aBuildSlice_eq]
  exact bnd_iff.2 ⟨_, rfl, ⟨rfl, rfl⟩, rfl, rfl⟩

abbrev eLim (f c d : Int) : Value := .agg [.int .i64 f, .int .i64 c, .int .i64 d].toArray
def fs (f c d : Int) : Nat → Int
  | 0 => f
  | 1 => c
  | _ => d
/-- The first line, up to its i-th number. -/
def hd (f c d : Int) : Nat → List UInt8
  | 0 => []
  | i + 1 => hd f c d i ++ ((if 0 < i then [32] else []) ++ Lib.itoa (fs f c d i))
def tail (ps : List Chunk) : List UInt8 := ps.flatMap fun p => hexL p.2 ++ [10]
def putL (f c d : Int) (ps : List Chunk) : List UInt8 := hd f c d 3 ++ [10] ++ tail ps
structure I64 (n : Int) : Prop where
  lo : -9223372036854775808 ≤ n
  hi : n ≤ 9223372036854775807
theorem fs_i64 {f c d : Int} (hf : I64 f) (hc : I64 c) (hd : I64 d) (i : Nat) : I64 (fs f c d i) := by
  unfold fs; split <;> assumption
theorem itoa_le {n : Int} (h : I64 n) : (Lib.itoa n).length ≤ 21 := Lib.itoa_length_le n h.lo h.hi
theorem hd_length {f c d : Int} (hf : I64 f) (hc : I64 c) (hd' : I64 d) : ∀ i, (hd f c d i).length ≤ 22 * i
  | 0 => by simp [hd]
  | i + 1 => by
    have h1 := hd_length hf hc hd' i
    have h2 := itoa_le (fs_i64 hf hc hd' i)
    simp only [hd, List.length_append]
    have h3 : (if 0 < i then [(32 : UInt8)] else []).length ≤ 1 := by split <;> simp
    omega
theorem tail_take {ps : List Chunk} {i : Nat} (h : i < ps.length) : tail (ps.take (i + 1)) = tail (ps.take i) ++ (hexL (ps[i]).2 ++ [10]) := by
  unfold tail
  rw [← List.take_append_getElem h, List.flatMap_append, List.flatMap_cons, List.flatMap_nil, List.append_nil]
theorem tail_length {ps : List Chunk} (h : ∀ p ∈ ps, p.2.length ≤ 65536) : (tail ps).length ≤ 131074 * ps.length := by
  induction ps with
  | nil => simp [tail]
  | cons p ps ih =>
    have h1 := h p (by simp)
    have h2 := ih fun q hq => h q (by simp [hq])
    have h3 := hexL_length p.2
    simp only [tail, List.flatMap_cons, List.length_append, List.length_cons, List.length_nil] at h2 ⊢
    omega

theorem c8_over {H : AHeap} {A : Option Addr} {n : Nat} {x : Value} (hx : (vcells x).all okCell = true) (hn : 256 < n) :
    ACalls Tryd.prog 8 [x, .slice A n n] H fun v H' => v = .tuple #[bstr [], .int .i64 6] ∧ H' = H := by
  refine ACalls.eqT (S8_calls ?_) (vin_pair rfl rfl)
  unfold S8
  rw [aBox_eq]
  refine ⟨hx, ?_⟩
  simp only [aLenSl_slice, bnd_some', aBin_gtr]
  rw [show decide ((256 : Int) < (n : Int)) = true from decide_eq_true (by omega), aCond_true]
  exact ⟨trivial, (Keep.refl _ _).alloc (Nat.le_refl _) _⟩

set_option maxHeartbeats 1000000 in
theorem c8 {H : AHeap} {A : Option Addr} {ps : List Chunk} {f c d : Int} (hT : Tb H) (hf : I64 f) (hc : I64 c) (hd' : I64 d) (hR : Chs H.next H A ps) (hn : ps.length ≤ 256) (hl : ∀ p ∈ ps, p.2.length ≤ 65536) :
    ACalls Tryd.prog 8 [eLim f c d, .slice A ps.length ps.length] H fun v H' => v = .tuple #[bstr (putL f c d ps), .int .i64 0] ∧ H' = H := by
  refine ACalls.eqT (S8_calls ?_) (vin_pair rfl rfl)
  unfold S8
  rw [aBox_eq]
  refine ⟨rfl, ?_⟩
  have e0 : vcells (eLim f c d) = [.int .i64 f, .int .i64 c, .int .i64 d] := rfl
  rw [e0]
  simp only [aLenSl_slice, bnd_some', aBin_gtr]
  rw [show decide ((256 : Int) < (ps.length : Int)) = false from decide_eq_false (by omega), aCond_false, aAlloc_eq]
  have h8 := hT.next
  -- memory: the limits, the builder, the row of fields
  have hb0 : ((H.alloc (.cells [.int .i64 f, .int .i64 c, .int .i64 d] .var 27)).alloc (.cells [.pointer none, .slice none 0 0] .var 48)).at_ H.next = .cells [.int .i64 f, .int .i64 c, .int .i64 d] .var 27 := by
    rw [AHeap.at_alloc_ne _ _ (by simp), AHeap.at_alloc_new]
  have hbd : Bd (fun x => x < H.next + 1) (H.next + 1) [] ((H.alloc (.cells [.int .i64 f, .int .i64 c, .int .i64 d] .var 27)).alloc (.cells [.pointer none, .slice none 0 0] .var 48)) :=
    Bd.new (H := H.alloc (.cells [.int .i64 f, .int .i64 c, .int .i64 d] .var 27)) fun x h => h
  have hk0 : Keep H.next H ((H.alloc (.cells [.int .i64 f, .int .i64 c, .int .i64 d] .var 27)).alloc (.cells [.pointer none, .slice none 0 0] .var 48)) := ((Keep.refl _ _).alloc (Nat.le_refl _) _).alloc (by simp) _
  have hnx : ((H.alloc (.cells [.int .i64 f, .int .i64 c, .int .i64 d] .var 27)).alloc (.cells [.pointer none, .slice none 0 0] .var 48)).next = H.next + 2 := rfl
  show ACalls Tryd.prog 18 [.pointer (some ⟨H.next, 0, none⟩)] ((H.alloc (.cells [.int .i64 f, .int .i64 c, .int .i64 d] .var 27)).alloc (.cells [.pointer none, .slice none 0 0] .var 48)) _
  have e1 : (H.alloc (.cells [.int .i64 f, .int .i64 c, .int .i64 d] .var 27)).next = H.next + 1 := rfl
  rw [e1]
  generalize (H.alloc (.cells [.int .i64 f, .int .i64 c, .int .i64 d] .var 27)).alloc (.cells [.pointer none, .slice none 0 0] .var 48) = H2 at hb0 hbd hk0 hnx
  refine (c18 H.next).use2 ?_
  have hb2 : (H2.alloc (.cells [.pointer (some ⟨H.next, 0, none⟩), .pointer (some ⟨H.next, 1, none⟩), .pointer (some ⟨H.next, 2, none⟩)] (.row 1) 52)).at_ (H.next + 2) = .cells [.pointer (some ⟨H.next, 0, none⟩), .pointer (some ⟨H.next, 1, none⟩), .pointer (some ⟨H.next, 2, none⟩)] (.row 1) 52 := by
    rw [← hnx]; exact AHeap.at_alloc_new _ _
  have hb0' : (H2.alloc (.cells [.pointer (some ⟨H.next, 0, none⟩), .pointer (some ⟨H.next, 1, none⟩), .pointer (some ⟨H.next, 2, none⟩)] (.row 1) 52)).at_ H.next = .cells [.int .i64 f, .int .i64 c, .int .i64 d] .var 27 := by
    rw [AHeap.at_alloc_ne _ _ (by omega)]; exact hb0
  let F : Nat → Prop := fun x => x < H.next + 1 ∨ x = H.next + 2
  have hbd' : Bd F (H.next + 1) [] (H2.alloc (.cells [.pointer (some ⟨H.next, 0, none⟩), .pointer (some ⟨H.next, 1, none⟩), .pointer (some ⟨H.next, 2, none⟩)] (.row 1) 52)) := by
    obtain ⟨_, _, p, sl, hat, hp, hsl⟩ := hbd
    refine ⟨by show ¬ (H.next + 1 < H.next + 1 ∨ H.next + 1 = H.next + 2); omega, by simp; omega, p, sl, by rw [AHeap.at_alloc_ne _ _ (by omega)]; exact hat, hp, ?_⟩
    rcases hsl with h | ⟨r, cs, h1, h2, h3, h4, h5, h6, h7⟩
    · exact .inl h
    · simp at h1 h7
      refine .inr ⟨r, cs, h1, h2, ?_, by simp; omega, by rw [AHeap.at_alloc_ne _ _ (by omega)]; exact h5, h6, by simp⟩
      show ¬ (r < H.next + 1 ∨ r = H.next + 2)
      have h3 : ¬ r < H.next + 1 := h3
      omega
  have hk1 : Keep H.next H (H2.alloc (.cells [.pointer (some ⟨H.next, 0, none⟩), .pointer (some ⟨H.next, 1, none⟩), .pointer (some ⟨H.next, 2, none⟩)] (.row 1) 52)) := hk0.alloc (by omega) _
  have hn3 : (H2.alloc (.cells [.pointer (some ⟨H.next, 0, none⟩), .pointer (some ⟨H.next, 1, none⟩), .pointer (some ⟨H.next, 2, none⟩)] (.row 1) 52)).next = H.next + 3 := by simp [hnx]
  rw [hnx]
  generalize H2.alloc (.cells [.pointer (some ⟨H.next, 0, none⟩), .pointer (some ⟨H.next, 1, none⟩), .pointer (some ⟨H.next, 2, none⟩)] (.row 1) 52) = H3 at hb2 hb0' hbd' hk1 hn3
  have hF : ∀ {H' : AHeap}, KF F H3 H' → ∀ x, F x → x < H'.next := by
    intro H' hk x hx
    have h1 := hk.1
    have hx : x < H.next + 1 ∨ x = H.next + 2 := hx
    omega
  have hFlo : ∀ x, x < H.next → F x := fun x hx => .inl (by omega)
  have hTk : ∀ {H' : AHeap}, KF F H3 H' → Tb H' := fun {H'} hk => (hT.keep hk1.next fun x hx => hk1.at_ x (by omega)).kf hk fun x hx => hFlo x (by omega)
  have hKeep : ∀ {H' : AHeap}, KF F H3 H' → Keep H.next H H' := fun {H'} hk => ⟨Nat.le_trans hk1.next hk.1, fun x hx => (hk.2 x (hFlo x hx)).trans (hk1.at_ x hx)⟩
  simp only [aLenSl_slice, bnd_some']
  refine aLoop_vs 3 (fun i vs H4 => i ≤ 3 ∧ vs = [.int .i64 i] ∧ Bd F (H.next + 1) (hd f c d i) H4 ∧ KF F H3 H4) ⟨by omega, rfl, hbd', KF.refl _ _⟩ ?_
  rintro i vs H4 again hi ⟨_, rfl, hb4, hk4⟩ hag
  unfold S8_52
  simp only [nth_zero, aBin_lss, bnd_some']
  have hhl := hd_length hf hc hd' i
  refine aCond_of (fun hlt => ?_) (fun hge => ?_)
  · have hlt : i < 3 := by have := of_decide_eq_true hlt; omega
    have hat2 : H4.at_ (H.next + 2) = .cells [.pointer (some ⟨H.next, 0, none⟩), .pointer (some ⟨H.next, 1, none⟩), .pointer (some ⟨H.next, 2, none⟩)] (.row 1) 52 := (hk4.2 _ (.inr rfl)).trans hb2
    have hid : aIdxAddr 1 (.slice (some ⟨H.next + 2, 0, none⟩) 3 3) (.int .i64 i) = some (.pointer (some ⟨H.next + 2, i, none⟩)) := by
      simp [aIdxAddr]; omega
    have hld : aLdCell (.pointer (some ⟨H.next + 2, i, none⟩)) H4 = some (.pointer (some ⟨H.next, i, none⟩)) := by
      rw [aLdCell_ptr, hat2, blkCell_cells]
      match i, hlt with
      | 0, _ => rfl
      | 1, _ => rfl
      | 2, _ => rfl
    unfold S8_29
    simp only [nth_zero, hid, hld, bnd_some']
    rw [aJoin_eq]
    have fin : ∀ H5, Bd F (H.next + 1) (hd f c d i ++ (if 0 < i then [32] else [])) H5 → KF F H3 H5 →
        S8_28 (.pointer (some ⟨H.next + 1, 0, none⟩)) [.int .i64 i] again (.pointer (some ⟨H.next, i, none⟩)) H5 := by
      intro H5 hb5 hk5
      have hat0 : H5.at_ H.next = .cells [.int .i64 f, .int .i64 c, .int .i64 d] .var 27 := (hk5.2 _ (.inl (by omega))).trans hb0'
      have hld5 : aLdCell (.pointer (some ⟨H.next, i, none⟩)) H5 = some (.int .i64 (fs f c d i)) := by
        rw [aLdCell_ptr, hat0, blkCell_cells]
        match i, hlt with
        | 0, _ => rfl
        | 1, _ => rfl
        | 2, _ => rfl
      unfold S8_28
      simp only [aNilCheck_ptr, bnd_some', hld5]
      have hii := fs_i64 hf hc hd' i
      have hil := itoa_le hii
      refine (c21 (hTk hk5) _ hii.lo hii.hi).use ?_
      refine (c20 _ hb5 (hF hk5) ?_).mono ?_
      · have e1 : (⟨(Lib.itoa (fs f c d i)).toArray⟩ : ByteArray).size = (Lib.itoa (fs f c d i)).length := by show Array.size _ = _; simp
        rw [e1, List.length_append]
        have : (if 0 < i then [(32 : UInt8)] else []).length ≤ 1 := by split <;> simp
        omega
      rintro v H6 ⟨hb6, hk6⟩
      simp only [nth_zero, aBin_add, bnd_some']
      rw [wrap64 (by omega) (by omega)]
      refine hag _ _ hlt ⟨by omega, by simp, ?_, hk5.trans hk6⟩
      have e2 : hd f c d (i + 1) = hd f c d i ++ (if 0 < i then [32] else []) ++ (⟨(Lib.itoa (fs f c d i)).toArray⟩ : ByteArray).data.toList := by simp [hd]
      rw [e2]
      exact hb6
    simp only [aBin_gtr, bnd_some']
    refine aCond_of (fun hp => ?_) (fun hz => ?_)
    · have hp : 0 < i := by have := of_decide_eq_true hp; omega
      refine (c19 32 hb4 (hF hk4) (by omega)).mono ?_
      rintro v H5 ⟨rfl, hb5, hk5⟩
      exact fin H5 (by rw [if_pos hp]; exact hb5) (hk4.trans hk5)
    · have hz : ¬ 0 < i := by have := of_decide_eq_false hz; omega
      exact fin H4 (by rw [if_neg hz, List.append_nil]; exact hb4) hk4
  · have hge : i = 3 := by have := of_decide_eq_false hge; omega
    subst hge
    refine (c19 10 hb4 (hF hk4) (by omega)).mono ?_
    rintro v H5 ⟨rfl, hb5, hk5⟩
    have hk5 := hk4.trans hk5
    simp only [aLenSl_slice, bnd_some']
    refine aLoop_vs ps.length (fun i vs H6 => i ≤ ps.length ∧ vs = [.int .i64 i] ∧ Bd F (H.next + 1) (hd f c d 3 ++ [10] ++ tail (ps.take i)) H6 ∧ KF F H3 H6) ⟨Nat.zero_le _, rfl, by simpa [tail] using hb5, hk5⟩ ?_
    rintro i vs H6 again2 hi ⟨_, rfl, hb6, hk6⟩ hag2
    have htl := tail_length (ps := ps.take i) fun p hp => hl p (List.mem_of_mem_take hp)
    have htl2 : (ps.take i).length ≤ 256 := by rw [List.length_take]; omega
    have hll : (hd f c d 3 ++ [10] ++ tail (ps.take i)).length ≤ 33554944 + 67 := by
      simp only [List.length_append, List.length_cons, List.length_nil]; omega
    unfold S8_51
    simp only [nth_zero, aBin_lss, bnd_some']
    refine aCond_of (fun hlt => ?_) (fun hge => ?_)
    · have hlt : i < ps.length := by have := of_decide_eq_true hlt; omega
      have hR6 : Chs H.next H6 A ps := hR.keep (hKeep hk6).at_
      have hid := hR6.rd.idx (k := .i64) (c := ps.length) (j := (i : Int)) (by omega) (by omega)
      have hld := Rd.ld hR6.rd hlt
      have hpl := hl _ (List.getElem_mem hlt)
      unfold S8_48
      simp only [nth_zero, hid, bnd_some', Int.toNat_natCast, hld, aLenSl_slice, aBin_gtr]
      rw [show decide ((65536 : Int) < ((ps[i]).2.length : Int)) = false from decide_eq_false (by omega), aCond_false]
      unfold S8_47
      refine (c22 (hTk hk6) ((hR6.el _ (List.getElem_mem hlt)).up (hKeep hk6).next) (by omega)).use ?_
      have hxl := hexL_length (ps[i]).2
      rw [show (.string ⟨#[10]⟩ : Value) = bstr [10] from rfl, aBin_sadd _ _ _ (by simp; omega), bnd_some']
      refine (c20 _ hb6 (hF hk6) ?_).mono ?_
      · have e1 : (⟨(hexL (ps[i]).2 ++ [10]).toArray⟩ : ByteArray).size = (hexL (ps[i]).2 ++ [10]).length := by show Array.size _ = _; simp
        rw [e1]
        simp only [List.length_append, List.length_cons, List.length_nil] at hll hxl ⊢
        omega
      rintro v H7 ⟨hb7, hk7⟩
      simp only [nth_zero, aBin_add, bnd_some']
      rw [wrap64 (by omega) (by omega)]
      refine hag2 _ _ hlt ⟨by omega, by simp, ?_, hk6.trans hk7⟩
      rw [tail_take hlt, ← List.append_assoc]
      exact hb7
    · have hge : i = ps.length := by have := of_decide_eq_false hge; omega
      subst hge
      rw [List.take_length] at hb6 hll
      refine (c23 hb6 (by simp; omega) (by omega)).mono ?_
      rintro v H7 ⟨rfl, hk7⟩
      exact ⟨rfl, hKeep (hk6.trans hk7)⟩
end Go.Proofs.YtnbnojkfhfkecaaDoor.A
