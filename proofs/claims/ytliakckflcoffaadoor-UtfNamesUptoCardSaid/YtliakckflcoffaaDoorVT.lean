/- What the row's 'laid' says of the tables; the arguments. -/
import Derived.Test.YtliakckflcoffaaDoorV7
import Derived.Test.YtliakckflcoffaaDoorUT
import Derived.Test.YtliakckflcoffaaDoorUB
set_option linter.unusedVariables false
set_option maxRecDepth 100000
namespace Go.Proofs.YtliakckflcoffaaDoor.A
open Go Go.Abs Go.Shelf
open Go.Lib (firstT accLo accHi)

theorem pairCells {W : World} {base : Nat} {sp : Nat → Bool} {held : Bool} {fuel : Nat} {cs : List Value} {n : Int} {bs : List UInt8} {q : List MemPlace} {x : DataW Unit × List MemPlace} (hx : x.1 = .agg [.lit (.int .i64 n), .lit (.string bs)])
    (h : DataW.trod (fun _ => ()) Tryd.prog W base sp held fuel 53 cs = some x) : cs[0]? = some (.int .i64 n) ∧ cs[1]? = some (bstr bs) := by
  obtain ⟨xs, m, rfl, rfl, hl, hxl, hf⟩ := DataW.trod_struct Tryd.underlying53 h
  have hxs : xs.map (·.1) = [.lit (.int .i64 n), .lit (.string bs)] := by
    have : (DataW.agg (xs.map (·.1)) : DataW Unit) = .agg [.lit (.int .i64 n), .lit (.string bs)] := hx
    exact DataW.agg.inj this
  obtain ⟨a, b, rfl⟩ : ∃ a b, xs = [a, b] := by
    match xs, hxl with
    | [a, b], _ => exact ⟨a, b, rfl⟩
  simp only [List.map_cons, List.map_nil, List.cons.injEq, and_true] at hxs
  obtain ⟨ha, hb⟩ := hxs
  have f0 := hf 0 _ rfl
  have f1 := hf 1 _ rfl
  simp only [List.getElem?_cons_zero, List.getElem?_cons_succ] at f0 f1
  obtain ⟨k, hk, hk2, _⟩ := DataW.trod_int Tryd.underlying3 f0
  obtain ⟨s, hs, hs2, _⟩ := DataW.trod_string Tryd.underlying9 f1
  rw [hk2] at ha
  rw [hs2] at hb
  have ha : k = n := by
    have := DataW.lit.inj ha
    injection this
  have hb : s.data.toList = bs := by
    have := DataW.lit.inj hb
    injection this
  subst ha
  subst hb
  have h0 := congrArg (fun l : List Value => l[0]?) hk
  have h1 := congrArg (fun l : List Value => l[0]?) hs
  simp only [List.getElem?_take, List.getElem?_drop, Nat.add_zero] at h0 h1
  obtain ⟨_, h0⟩ : 0 < Tryd.prog.cellsOf 3 ∧ cs[0]? = some (Value.int .i64 k) := by simpa using h0
  obtain ⟨_, h1⟩ : 0 < Tryd.prog.cellsOf 9 ∧ cs[1]? = some (Value.string s) := by simpa using h1
  refine ⟨h0, h1.trans ?_⟩
  cases s
  simp [bstr]

theorem namesRow : ∀ i : Nat, i < 6 → ∃ L : List (DataW Unit), (Rows.laid_marginalia_utf_names : DataW Unit) = .agg L ∧ L[i]? = some (.agg [.lit (.int .i64 (nmKey i : Nat)), .lit (.string (nmTxt i))])
  | 0, _ => ⟨_, rfl, rfl⟩ | 1, _ => ⟨_, rfl, rfl⟩ | 2, _ => ⟨_, rfl, rfl⟩ | 3, _ => ⟨_, rfl, rfl⟩ | 4, _ => ⟨_, rfl, rfl⟩ | 5, _ => ⟨_, rfl, rfl⟩
  | n + 6, h => absurd h (by omega)
theorem namesC_at : ∀ j : Nat, j < 12 → namesC[j]? = [Value.int .i64 (nmKey (j / 2) : Nat), bstr (nmTxt (j / 2))][j % 2]?
  | 0, _ => rfl | 1, _ => rfl | 2, _ => rfl | 3, _ => rfl | 4, _ => rfl | 5, _ => rfl | 6, _ => rfl | 7, _ => rfl | 8, _ => rfl | 9, _ => rfl | 10, _ => rfl | 11, _ => rfl
  | n + 12, h => absurd h (by omega)
theorem namesCells {W : World} (h : Lib.VarReads Tryd.prog W "marginalia/utf.names" Rows.laid_marginalia_utf_names) (j : Nat) (hj : j < namesC.length) : W.cell? ⟨0, j, none⟩ = some namesC[j] := by
  obtain ⟨g, t, cs, fuel, p, hg, ht, hvar, hd⟩ := h
  obtain rfl : g = 0 := Option.some.inj (hg.symm.trans (show Tryd.prog.globalNamed "marginalia/utf.names" = some 0 by kernel_rfl))
  obtain rfl : t = 54 := Option.some.inj (ht.symm.trans (show (Tryd.prog.globals[0]?).map (·.type) = some 54 by kernel_rfl))
  obtain ⟨xs, m, rfl, hx, hl, hxl, hf⟩ := DataW.trod_array Tryd.underlying54 hd
  have c53 : Tryd.prog.cellsOf 53 = 2 := by kernel_rfl
  have hj : j < 12 := hj
  have hi : j / 2 < 6 := by omega
  obtain ⟨L, hL, hLi⟩ := namesRow (j / 2) hi
  have hLx : L = xs.map (·.1) := by
    have := congrArg Prod.fst hx
    rw [hL] at this
    exact DataW.agg.inj this
  have hxi : j / 2 < xs.length := by omega
  rw [hLx, List.getElem?_map, List.getElem?_eq_getElem hxi] at hLi
  have hfi := hf (j / 2) hi
  rw [List.getElem?_eq_getElem hxi, c53] at hfi
  obtain ⟨p0, p1⟩ := pairCells (q := []) (Option.some.inj hLi) hfi
  rw [List.getElem?_take, List.getElem?_drop] at p0 p1
  have hcell : cs[j]? = namesC[j]? := by
    rw [namesC_at j hj, ← Array.getElem?_toList]
    rcases Nat.mod_two_eq_zero_or_one j with hm | hm
    · rw [hm]
      rw [if_pos (by decide), show j / 2 * 2 + 0 = j by omega] at p0
      exact p0
    · rw [hm]
      rw [if_pos (by decide), show j / 2 * 2 + 1 = j by omega] at p1
      exact p1
  unfold World.var? at hvar
  rw [hg] at hvar
  simp only [Option.bind_some] at hvar
  split at hvar
  · rename_i c t fr hh
    obtain rfl := Option.some.inj hvar
    unfold World.cell?
    dsimp only
    rw [hh]
    show c[j]? = _
    rw [hcell]
    exact List.getElem?_eq_getElem hj
  · cases hvar

def gtabN (g : Nat) : Option (List Value) := if g = 0 then some namesC else if g = 8 then some deb64C else gtab g
theorem tabsN : Tb (gHeap 9 gtabN) := ⟨⟨by decide, rfl, rfl⟩, rfl, rfl, by decide⟩
theorem debData_eq : (Rows.laid_math_bits_deBruijn64tab : DataW Unit) = Lib.tabData .u8 deb64 := by kernel_rfl
theorem tabIs_of_reads {P : Program} {W : World} {name : String} {k : IntKind} {zs : List Int} {g : Nat} {t e : TypeId} {n : Nat}
    (hg : P.globalNamed name = some g) (hty : (P.globals[g]?).map (·.type) = some t) (ht : P.underlying t = some (.array n e)) (he : P.underlying e = some (.int k)) (hce : P.cellsOf e = 1) (hct : P.cellsOf t = n)
    (h : Lib.VarReads P W name (Lib.tabData k zs)) : Lib.TabIs P W name k zs := by
  obtain ⟨g', t', cs, fuel, p, hg', ht', hvar, hd⟩ := h
  obtain rfl := Option.some.inj (hg.symm.trans hg')
  obtain rfl := Option.some.inj (hty.symm.trans ht')
  unfold Lib.TabIs
  rw [hvar, ← Lib.cells_of_tab ht he hce hct hd]
theorem cellMap {P : Program} {W : World} {name : String} {k : IntKind} {zs : List Int} {g : Nat} (h : Lib.TabIs P W name k zs) (hg : P.globalNamed name = some g) (j : Nat) (hj : j < (zs.map fun z => Value.int k z).length) :
    W.cell? ⟨g, j, none⟩ = some (zs.map fun z => Value.int k z)[j] := by
  have hj' : j < zs.length := by simpa using hj
  rw [h.cell hg j hj', List.getElem_map]
  simp [List.getD, hj']
theorem tabsRelN {W : World} (h1 : Lib.VarReads Tryd.prog W "unicode/utf8.first" Rows.laid_unicode_utf8_first) (h2 : Lib.VarReads Tryd.prog W "unicode/utf8.acceptRanges" Rows.laid_unicode_utf8_acceptRanges)
    (h3 : Lib.VarReads Tryd.prog W "math/bits.deBruijn64tab" Rows.laid_math_bits_deBruijn64tab) (h4 : Lib.VarReads Tryd.prog W "marginalia/utf.names" Rows.laid_marginalia_utf_names) :
    ∃ φ, Rel Tryd.prog.globals.size W.heap.size φ (gHeap 9 gtabN) W := by
  rw [firstData_eq] at h1
  rw [accData_eq] at h2
  rw [debData_eq] at h3
  have hT : Lib.Utf8Tabs 1 2 W := utf8Tabs_of_readsT u8Types u8Extra h1 h2
  have t3 := tabIs_of_reads (g := 8) (t := 112) (by kernel_rfl) (by kernel_rfl) Tryd.underlying112 Tryd.underlying5 (by kernel_rfl) (by kernel_rfl) h3
  rw [nGlob]
  refine Rel.globals gtabN (fun g cs hg hc => ?_) (fun g cs hc => ?_)
  · unfold gtabN at hc
    split at hc
    · rename_i e
      subst e
      obtain rfl := Option.some.inj hc
      exact ⟨rfl, fun j hj => namesCells h4 j hj⟩
    · split at hc
      · rename_i e
        subst e
        obtain rfl := Option.some.inj hc
        refine ⟨?_, cellMap t3 (by kernel_rfl)⟩
        unfold deb64C
        rw [List.all_map]
        exact List.all_eq_true.2 fun _ _ => rfl
      · unfold gtab at hc
        split at hc
        · rename_i e
          subst e
          obtain rfl := Option.some.inj hc
          refine ⟨by unfold firstCells; rw [List.all_map]; exact List.all_eq_true.2 fun _ _ => rfl, fun j hj => ?_⟩
          have hj' : j < 256 := by simpa [firstCells] using hj
          rw [hT.1 j hj']
          have := firstCells_at hj'
          rw [List.getElem?_eq_getElem hj] at this
          exact this.symm
        · split at hc
          · rename_i e
            subst e
            obtain rfl := Option.some.inj hc
            refine ⟨by unfold accCells; rw [List.all_flatMap]; exact List.all_eq_true.2 fun _ _ => rfl, fun j hj => ?_⟩
            have hj' : j < 32 := by rw [accCells_len] at hj; exact hj
            have hac := accCells_at (i := j / 2) (by omega)
            obtain ⟨t1, t2⟩ := hT.2 (j / 2) (by omega)
            have hget : accCells[j]? = [Value.int .u8 (accLo (j / 2) : Nat), Value.int .u8 (accHi (j / 2) : Nat)][j % 2]? := by
              rw [← hac, List.getElem?_take, if_pos (by omega), List.getElem?_drop]
              congr 1
              omega
            rw [← List.getElem?_eq_getElem hj, hget]
            rcases Nat.mod_two_eq_zero_or_one j with hm | hm
            · rw [hm]
              have e : j = 2 * (j / 2) := by omega
              have := t1
              rw [← e] at this
              exact this
            · rw [hm]
              have e : j = 2 * (j / 2) + 1 := by omega
              have := t2
              rw [← e] at this
              exact this
          · cases hc
  · unfold gtabN at hc
    split at hc
    · obtain rfl := Option.some.inj hc
      decide
    · split at hc
      · obtain rfl := Option.some.inj hc
        decide
      · unfold gtab at hc
        split at hc
        · obtain rfl := Option.some.inj hc
          simp [firstCells]
        · split at hc
          · obtain rfl := Option.some.inj hc
            rw [accCells_len]; decide
          · cases hc
theorem c8i {H : AHeap} (hT : Tb H) (c : Int) (a : ByteArray) (h : a.size ≤ 1048576) : ACalls Tryd.prog 8 [.int .i64 c, .string a] H fun v H' => v = .bool true := by
  have e : (.string a : Value) = bstr a.data.toList := by
    cases a
    simp [bstr]
  rw [e]
  refine c8 hT c a.data.toList ?_
  rw [Array.length_toList]
  show a.size ≤ _
  omega
theorem bulkStr {H : Type} {l : List (DataW H)} {a : ByteArray} (hd : (.lit (.string a.data.toList) : DataW H) ∈ l) (hk : Rows.uptoSmall H l = true) : a.size ≤ 1048576 := by
  have := bulk_part hd hk
  simp only [Rows.uptoBulk, Array.length_toList] at this
  show a.data.size ≤ _
  omega
end Go.Proofs.YtliakckflcoffaaDoor.A
