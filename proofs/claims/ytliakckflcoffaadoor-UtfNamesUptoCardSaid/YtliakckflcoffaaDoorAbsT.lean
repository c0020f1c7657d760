/- Code and calls: sound. -/
import Derived.Test.YtliakckflcoffaaDoorAbsS
set_option linter.unusedVariables false
set_option linter.unusedSimpArgs false
namespace Go.Abs
open Go

def exitOf : AExit → Exit
  | .normal => .normal
  | .exit i => .exit i
  | .ret => .ret

section
variable {P : Program} {n : Nat} {B : Nat}

theorem dstOk_wr {ops : Array Oper} (h : dstOk n ops = true) : ∀ t ∈ wrOps ops, t < n := by
  intro t ht
  obtain ⟨o, ho, hd⟩ := List.mem_filterMap.1 ht
  obtain ⟨i, hi⟩ := List.getElem?_of_mem ho
  exact dstOk_at h (i := i) (o := o) (by rw [← Array.getElem?_toList]; exact hi) hd

theorem DI.start {ops : Array Oper} {pl : List (Nat × List Nat)} {φ : Phi} {H : AHeap} {w : World} {a : ATmps} {act : Act} (hr : Rel P.globals.size B φ H w) (ha : ATRel φ n a act) :
    DI P ops pl n H.next B φ H w [] pl (Array.replicate ops.size false) a H act w φ (fun _ => False) (fun _ => 0) := by
  have hl : ∀ i, lon (Array.replicate ops.size false) i = false := by
    intro i
    unfold lon
    rw [Array.getD_eq_getD_getElem?, Array.getElem?_replicate]
    split <;> rfl
  refine ⟨rfl, by simp, fun i hi => (by rw [hl] at hi; cases hi), fun i hi => (by simp at hi), fun j hj => (by rw [hl] at hj; cases hj), fun i hi => (by simp at hi), fun i hi => (by simp at hi), fun i hi => (by simp at hi), Step.refl hr, rfl, ?_⟩
  have : pois ops (([] : List (Nat × List Nat)).map (·.1)) (Array.replicate ops.size false) a = a := by
    funext t
    unfold pois
    rw [if_neg]
    rintro ⟨i, hi, _⟩
    simp at hi
  rw [this]
  exact ha

theorem least {p : Nat → Prop} (h : ∃ n, p n) : ∃ n, p n ∧ ∀ m, p m → n ≤ m := by
  obtain ⟨n, hn⟩ := h
  induction n using Nat.strongRecOn with
  | _ n ih =>
    by_cases hx : ∃ m, m < n ∧ p m
    · obtain ⟨m, hm, hp⟩ := hx
      exact ih m hm hp
    · exact ⟨n, hn, fun m hm => Nat.le_of_not_lt fun hlt => hx ⟨m, hlt, hm⟩⟩

theorem aCond_out {v : Value} {p q : Prop} (h : aCond v p q) : ∃ b, v = .bool b ∧ if b = true then p else q := by
  unfold aCond at h
  split at h
  · rename_i b; exact ⟨b, rfl, h⟩
  · exact h.elim

theorem awp_sound (hm : P.follows .mixedOrders = true) : ∀ (c : Code) (an : Ann) (Q : AQ) (a : ATmps) (H : AHeap) (φ : Phi) (w : World) (act : Act) (R : Exit → Act → World → Prop),
    awp P c an Q a H → codeOk P n c an = true → Rel P.globals.size B φ H w → ATRel φ n a act →
    (∀ e a' H' φ' act' w', Q e a' H' → Step P.globals.size B φ H w φ' H' w' → ATRel φ' n a' act' → (∀ t, t ∉ wr c → a' t = a t) → R (exitOf e) act' w') → Code.wp P c R act w := by
  intro c
  induction c with
  | skip => intro an Q a H φ w act R h hc hr ha hk; exact wp_skip (hk .normal a H φ act w h (Step.refl hr) ha fun _ _ => rfl)
  | region id ops d =>
    intro an Q a H φ w act R h hc hr ha hk
    simp only [codeOk, Bool.and_eq_true] at hc
    obtain ⟨hdst, hc⟩ := hc
    cases d with
    | false =>
      simp only [awp] at h
      refine wp_region (ops_sound hdst _ φ H w a act (awpOps_frame _ _ _ h) hr ha fun a' H' φ' act' w' hK hst ha' => ?_)
      exact hk .normal a' H' φ' act' w' hK.1 hst ha' hK.2
    | true =>
      cases an with
      | draw pl =>
        simp only [awp] at h
        simp only at hc
        refine wp_region_any hm ?_
        have hr' : Rel P.globals.size B φ H { w with drawn := w.drawn + 1 } := hr.same rfl
        have hs0 : Step P.globals.size B φ H w φ H { w with drawn := w.drawn + 1 } := Step.same hr rfl rfl rfl rfl
        refine draw_sound (pl := pl) (φ0 := φ) (H0 := H) (w0 := { w with drawn := w.drawn + 1 }) (N := H.next) (n := n) hc hdst (K := fun a' H' => Q .normal a' H' ∧ ∀ t, t ∉ wrOps ops → a' t = a t) (fun a' H' φ' act' w' hK hst ha' => ?_) ops.size [] pl _ a H act _ φ (fun _ => False) (fun _ => 0) ?_ (DI.start hr' ha) (awpDraw_frame _ _ _ h)
        · exact hk .normal a' H' φ' act' w' hK.1 (hs0.trans hst) ha' hK.2
        · unfold unl
          rw [Array.toList_replicate, List.countP_replicate]
          simp
      | _ => simp [awp] at h
  | seq x y ihx ihy =>
    intro an Q a H φ w act R h hc hr ha hk
    cases an with
    | two p q =>
      simp only [awp] at h
      simp only [codeOk, Bool.and_eq_true] at hc
      refine wp_seq (ihx p _ a H φ w act _ h hc.1 hr ha fun e a' H' φ' act' w' hQ hst ha' hf => ?_)
      cases e with
      | normal =>
        refine ihy q Q a' H' φ' w' act' R hQ hc.2 hst.rel ha' fun e a2 H2 φ2 act2 w2 hQ2 hst2 ha2 hf2 => ?_
        refine hk e a2 H2 φ2 act2 w2 hQ2 (hst.trans hst2) ha2 fun t ht => ?_
        simp only [wr, List.mem_append, not_or] at ht
        rw [hf2 t ht.2, hf t ht.1]
      | exit i => exact hk (.exit i) a' H' φ' act' w' hQ hst ha' fun t ht => hf t fun hh => ht (by simp [wr, hh])
      | ret => exact hk .ret a' H' φ' act' w' hQ hst ha' fun t ht => hf t fun hh => ht (by simp [wr, hh])
    | join S W p q =>
      simp only [awp, aJoin] at h
      simp only [codeOk, Bool.and_eq_true, List.all_eq_true] at hc
      obtain ⟨⟨⟨⟨⟨hcx, hcy⟩, hS⟩, hwr⟩, hW⟩, hWw⟩ := hc
      have hS' : ∀ t ∈ S, t ∈ W := fun t ht => isIn_iff.1 (hS t ht)
      have hW' : ∀ t ∈ W, t < n := fun t ht => Nat.le_of_ble_eq_true (hW t ht)
      refine wp_seq (ihx p _ a H φ w act _ h hcx hr ha fun e a' H' φ' act' w' hQ hst ha' hf => ?_)
      cases e with
      | normal =>
        have hout : ∀ t, t ∉ W → a' t = a t := fun t ht => hf t fun hh => ht (isIn_iff.1 (hwr t hh))
        refine ihy q Q _ H' φ' w' act' R hQ hcy hst.rel (ha'.merge hS' hW' hout) fun e a2 H2 φ2 act2 w2 hQ2 hst2 ha2 hf2 => ?_
        refine hk e a2 H2 φ2 act2 w2 hQ2 (hst.trans hst2) ha2 fun t ht => ?_
        simp only [wr, List.mem_append, not_or] at ht
        have htW : t ∉ W := fun hh => ht.1 (isIn_iff.1 (hWw t hh))
        rw [hf2 t ht.2, merge_at, if_neg (fun hh => htW (hS' t hh)), if_neg htW]
      | exit i => exact hk (.exit i) a' H' φ' act' w' hQ hst ha' fun t ht => hf t fun hh => ht (by simp [wr, hh])
      | ret => exact hk .ret a' H' φ' act' w' hQ hst ha' fun t ht => hf t fun hh => ht (by simp [wr, hh])
    | _ => simp [awp] at h
  | cond cnd x y ihx ihy =>
    intro an Q a H φ w act R h hc hr ha hk
    cases an with
    | two p q =>
      simp only [awp] at h
      simp only [codeOk, Bool.and_eq_true] at hc
      obtain ⟨b, hb, h⟩ := aCond_out h
      have hev := eval_rel hr ha cnd
      rw [hb] at hev
      have hb' := hev.bool
      cases b with
      | true => exact wp_cond_true hb' (ihx p Q a H φ w act R h hc.1 hr ha fun e a' H' φ' act' w' hQ hst ha' hf => hk e a' H' φ' act' w' hQ hst ha' fun t ht => hf t fun hh => ht (by simp [wr, hh]))
      | false => exact wp_cond_false hb' (ihy q Q a H φ w act R (by simpa using h) hc.2 hr ha fun e a' H' φ' act' w' hQ hst ha' hf => hk e a' H' φ' act' w' hQ hst ha' fun t ht => hf t fun hh => ht (by simp [wr, hh]))
    | _ => simp [awp] at h
  | block id c ih =>
    intro an Q a H φ w act R h hc hr ha hk
    cases an with
    | one p =>
      simp only [awp] at h
      simp only [codeOk] at hc
      refine wp_block (ih p _ a H φ w act _ h hc hr ha fun e a' H' φ' act' w' hQ hst ha' hf => ?_)
      cases e with
      | normal => exact hk .normal a' H' φ' act' w' hQ hst ha' hf
      | exit i =>
        simp only [exitOf, Exit.inBlock]
        dsimp only at hQ
        cases hb : Nat.beq i id with
        | true =>
          rw [hb] at hQ
          rw [if_pos (Nat.eq_of_beq_eq_true hb)]
          exact hk .normal a' H' φ' act' w' hQ hst ha' hf
        | false =>
          rw [hb] at hQ
          rw [if_neg (fun e => by rw [e, Nat.beq_refl] at hb; cases hb)]
          exact hk (.exit i) a' H' φ' act' w' hQ hst ha' hf
      | ret => exact hk .ret a' H' φ' act' w' hQ hst ha' hf
    | _ => simp [awp] at h
  | loop c ih =>
    intro an Q a H φ w act R h hc hr ha hk
    cases an with
    | loop S W p =>
      simp only [awp] at h
      simp only [codeOk, Bool.and_eq_true, List.all_eq_true] at hc
      obtain ⟨⟨⟨⟨hc, hS⟩, hwr⟩, hW⟩, hWw⟩ := hc
      have hWw' : ∀ t, t ∉ wr c → t ∉ W := fun t ht hh => ht (isIn_iff.1 (hWw t hh))
      have hS' : ∀ t ∈ S, t ∈ W := fun t ht => isIn_iff.1 (hS t ht)
      have hwr' : ∀ t ∈ wr c, t ∈ W := fun t ht => isIn_iff.1 (hwr t ht)
      have hW' : ∀ t ∈ W, t < n := fun t ht => Nat.le_of_ble_eq_true (hW t ht)
      obtain ⟨I, m0, hI0, hround⟩ := h
      -- the loop's relation in the machine
      let J : Nat → Act → World → Prop := fun m act' w' => ∃ a' H' φ', I m (S.map a') H' ∧ Step P.globals.size B φ H w φ' H' w' ∧ ATRel φ' n (merge a S W (S.map a')) act' ∧ ∀ t, t ∉ W → a' t = a t
      have hJ0 : J m0 act w := ⟨a, H, φ, hI0, Step.refl hr, ha.merge hS' hW' fun _ _ => rfl, fun _ _ => rfl⟩
      classical
      let μ : Act → World → Nat := fun act' w' => if hx : ∃ m, J m act' w' then Classical.choose (least hx) else 0
      refine wp_loop (fun act' w' => ∃ m, J m act' w') μ ⟨m0, hJ0⟩ fun act1 w1 hJ1 => ?_
      have hmin := (Classical.choose_spec (least hJ1)).1
      have hμ1 : μ act1 w1 = Classical.choose (least hJ1) := dif_pos hJ1
      obtain ⟨a1, H1, φ1, hI1, hst1, ha1, hout1⟩ := hmin
      have hb := hround _ _ _ hI1
      refine ih p _ _ H1 φ1 w1 act1 _ hb hc hst1.rel ha1 fun e a' H' φ' act' w' hQ hst ha' hf => ?_
      have hframe : ∀ t, t ∉ W → a' t = a t := by
        intro t ht
        rw [hf t fun hh => ht (hwr' t hh), merge_at, if_neg (fun hh => ht (hS' t hh)), if_neg ht]
      cases e with
      | normal =>
        obtain ⟨k, hk', hIk⟩ := hQ
        have hJk : J k act' w' := ⟨a', H', φ', hIk, hst1.trans hst, ha'.merge hS' hW' hframe, hframe⟩
        refine ⟨⟨k, hJk⟩, ?_⟩
        have hx : ∃ m, J m act' w' := ⟨k, hJk⟩
        have hμ2 : μ act' w' = Classical.choose (least hx) := dif_pos hx
        rw [hμ1, hμ2]
        exact Nat.lt_of_le_of_lt ((Classical.choose_spec (least hx)).2 k hJk) hk'
      | exit i => exact hk (.exit i) a' H' φ' act' w' hQ (hst1.trans hst) ha' fun t ht => hframe t (hWw' t ht)
      | ret => exact hk .ret a' H' φ' act' w' hQ (hst1.trans hst) ha' fun t ht => hframe t (hWw' t ht)
    | _ => simp [awp] at h
  | exit id => intro an Q a H φ w act R h hc hr ha hk; exact wp_exit (hk (.exit id) a H φ act w h (Step.refl hr) ha fun _ _ => rfl)
  | ret => intro an Q a H φ w act R h hc hr ha hk; exact wp_ret (hk .ret a H φ act w h (Step.refl hr) ha fun _ _ => rfl)
  | _ => intro an Q a H φ w act R h hc hr ha hk; simp [awp] at h
end
end Go.Abs
