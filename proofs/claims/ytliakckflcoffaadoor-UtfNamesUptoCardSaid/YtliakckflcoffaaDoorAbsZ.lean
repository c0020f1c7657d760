/- A slice of texts among the arguments; texts that are equal. -/
import Derived.Test.YtliakckflcoffaaDoorAbsX
import Derived.SliceStrings
set_option linter.unusedVariables false
namespace Go.Abs
open Go

/-- What DataW reads as a slice of texts. -/
theorem openStrs {Hd : Type} {enc : TypeId × Value → Hd} {P : Program} {W : World} {base : Nat} {spare : Nat → Bool} {held : Bool} {t e : TypeId} {fuel : Nat} {v : Value} {x : DataW Hd × List MemPlace} (ht : P.underlying t = some (.slice e)) (he : P.underlying e = some .string) (hc : P.cellsOf e = 1)
    (hsp : ∀ b, spare b = true) (h : DataW.trod enc P W base spare held fuel t [v] = some x) {G : Nat} {φ : Phi} {H : AHeap} (hr : Rel G W.heap.size φ H W) :
    ∃ A zs φ' H', Rel G W.heap.size φ' H' W ∧ φ.le φ' ∧ VRel φ' (.slice A zs.length zs.length) v ∧ Keep H.next H H' ∧ Rd 1 (fun s => [Value.string s]) H'.next H' A zs ∧ (∀ s ∈ zs, s.size ≤ maxLen) ∧ zs.length ≤ maxLen ∧
      (zs = [] ∨ ∃ els sp, x.1 = .slice els sp ∧ zs.length ≤ els.length + sp.length) := by
  rcases ChangeShapes.open_strings ht he hc h with ⟨hcs, _⟩ | ⟨a, len, cap, zs, hcs, _, hl, hm, hz, hx, hcell, hwz⟩
  · injection hcs with hcs
    subst hcs
    exact ⟨none, [], φ, H, hr, fun _ _ h => h, .plain rfl, Keep.refl _ _, Rd.nil _ _ _ _, by simp, by simp, .inl rfl⟩
  · injection hcs with hcs
    subst hcs
    rw [hsp, if_pos rfl] at hz
    obtain ⟨A, φ', H', h1, h2, h3, h4, h5, h6⟩ := addSlice hr (enc := fun s => Value.string s) (fun _ => rfl) (fun _ => rfl) (a := a) (len := len) (cap := cap) (xs := zs) hz hl hm (fun i hi => by rw [hcell i hi, List.getD_eq_getElem?_getD, List.getElem?_eq_getElem hi]; rfl)
    refine ⟨A, zs.take len, φ', H', h1, h2, by rw [h6]; exact h3, h4, h5, fun n hn => hwz n (List.mem_of_mem_take hn), by omega, .inr ⟨_, _, by rw [hx], ?_⟩⟩
    simp [ChangeShapes.strs] <;> omega

theorem ba_beq (a b : ByteArray) : (a == b) = decide (a = b) := by
  cases a with
  | mk x =>
    cases b with
    | mk y =>
      have : ((⟨x⟩ : ByteArray) == ⟨y⟩) = (x == y) := rfl
      rw [this]
      by_cases h : x = y
      · subst h; simp
      · have h2 : ¬ (⟨x⟩ : ByteArray) = ⟨y⟩ := fun e => h (by injection e)
        rw [decide_eq_false h2]
        simpa using h
end Go.Abs
