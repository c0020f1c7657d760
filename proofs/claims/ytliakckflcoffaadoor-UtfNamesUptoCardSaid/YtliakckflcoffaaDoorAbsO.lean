/- Regions whose order is drawn: the proof. -/
import Derived.Test.YtliakckflcoffaaDoorAbsN
set_option linter.unusedVariables false
set_option linter.unusedSimpArgs false
namespace Go.Abs
open Go

section
variable {P : Program} {ops : Array Oper} {pl : List (Nat × List Nat)}

theorem split_at {pre : List (Nat × List Nat)} {i : Nat} (h : i ∈ pre.map (·.1)) : ∃ p1 R p2, pre = p1 ++ (i, R) :: p2 := by
  obtain ⟨x, hx, rfl⟩ := List.mem_map.1 h
  obtain ⟨p1, p2, rfl⟩ := List.append_of_mem hx
  exact ⟨p1, x.2, p2, rfl⟩

/-- A step that is quiet, or makes memory, stays good where nothing that it looks at turns. -/
theorem PendQ.put {i : Nat} {a a' : ATmps} {H : AHeap} (h : PendQ P ops i a H) (hl : ∀ t ∈ olooks ops i, a t = a' t) (hd : ∀ d, odst ops i = some d → a' d = a d) : PendQ P ops i a' H := by
  obtain ⟨o, ho, h⟩ := h
  refine ⟨o, ho, looks_congr ho hl ?_⟩
  have he : ∀ (v : Value) (H' : AHeap), (H' = H ∧ ∀ d, o.dst = some d → v = a d) = (H' = H ∧ ∀ d, o.dst = some d → v = a' d) := by
    intro v H'
    apply propext
    refine and_congr Iff.rfl (forall_congr' fun d => ?_)
    refine ⟨fun h hdd => by rw [hd d (by simp [odst, ho, hdd])]; exact h hdd, fun h hdd => by rw [← hd d (by simp [odst, ho, hdd])]; exact h hdd⟩
  simpa only [he] using h
theorem PendN.put {i b : Nat} {a a' : ATmps} {H : AHeap} (h : PendN P ops i b a H) (hl : ∀ t ∈ olooks ops i, a t = a' t) (hd : ∀ d, odst ops i = some d → a' d = a d) : PendN P ops i b a' H := by
  obtain ⟨o, blk, v, ho, hc, h, h1, h2, h3⟩ := h
  exact ⟨o, blk, v, ho, hc, fun H2 hb => looks_congr ho hl (h H2 hb), h1, h2, fun d hdd => by rw [hd d (by simp [odst, ho, hdd])]; exact h3 d hdd⟩

theorem aopG_quiet {o : Oper} {a : ATmps} {H : AHeap} {K : Value → AHeap → Prop} (hc : cls P o.op ≠ .eff) (hn : cls P o.op ≠ .new) (h : aopG P ops o a H K) : ∃ v, K v H ∧ ∀ (K2 : Value → AHeap → Prop), K2 v H → aopG P ops o a H K2 := by
  have hk : ∀ {K : Value → AHeap → Prop}, aopK P o.op a H K → ∃ v, K v H ∧ ∀ (K2 : Value → AHeap → Prop), K2 v H → aopK P o.op a H K2 := by
    intro K h
    cases hcc : cls P o.op with
    | eff => exact absurd hcc hc
    | new => exact absurd hcc hn
    | pure => obtain ⟨v, h1, h2⟩ := pure_out hcc h; exact ⟨v, h1, fun K2 => h2 H K2⟩
    | read => exact read_out hcc h
  unfold aopG at h ⊢
  split at h
  · exact hk h
  · rename_i j want hg
    unfold aGuardK at h
    split at h
    · rename_i b hb
      split at h
      · rename_i hbw
        obtain ⟨v, h1, h2⟩ := hk h
        exact ⟨v, h1, fun K2 hK2 => by simp only [aGuardK, hb, if_pos hbw]; exact h2 K2 hK2⟩
      · rename_i hbw
        exact ⟨undef, h, fun K2 hK2 => by simp only [aGuardK, hb, if_neg hbw]; exact hK2⟩
    · rename_i vs hb
      exact ⟨undef, h, fun K2 hK2 => by simp only [aGuardK, hb]; exact hK2⟩
    · exact h.elim

/-- Of one that makes memory: it makes it, or (its guard says no) it does nothing. -/
theorem aopG_new {o : Oper} {a : ATmps} {H : AHeap} {K : Value → AHeap → Prop} (hc : cls P o.op = .new) (h : aopG P ops o a H K) :
    (K undef H ∧ ∀ (H2 : AHeap) (K2 : Value → AHeap → Prop), K2 undef H2 → aopG P ops o a H2 K2) ∨
    ∃ (blk : Blk) (val : Nat → Value), K (val H.next) (H.alloc blk) ∧ (∀ b, blkOf (val b) = b) ∧ ∀ (H2 : AHeap) (K2 : Value → AHeap → Prop), K2 (val H2.next) (H2.alloc blk) → aopG P ops o a H2 K2 := by
  unfold aopG at h ⊢
  split at h
  · obtain ⟨blk, val, h1, h2, h3, _⟩ := new_out hc h
    exact .inr ⟨blk, val, h1, h2, h3⟩
  · rename_i j want hg
    unfold aGuardK at h
    split at h
    · rename_i b hb
      split at h
      · rename_i hbw
        obtain ⟨blk, val, h1, h2, h3, _⟩ := new_out hc h
        exact .inr ⟨blk, val, h1, h2, fun H2 K2 hK2 => by simp only [aGuardK, hb, if_pos hbw]; exact h3 H2 K2 hK2⟩
      · rename_i hbw
        exact .inl ⟨h, fun H2 K2 hK2 => by simp only [aGuardK, hb, if_neg hbw]; exact hK2⟩
    · rename_i vs hb
      exact .inl ⟨h, fun H2 K2 hK2 => by simp only [aGuardK, hb]; exact hK2⟩
    · exact h.elim

theorem aopG_pure {o : Oper} {a : ATmps} {H : AHeap} {K : Value → AHeap → Prop} (hc : cls P o.op = .pure) (h : aopG P ops o a H K) : ∃ v, K v H ∧ ∀ (H2 : AHeap) (K2 : Value → AHeap → Prop), K2 v H2 → aopG P ops o a H2 K2 := by
  unfold aopG at h ⊢
  split at h
  · exact pure_out hc h
  · rename_i j want hg
    unfold aGuardK at h
    split at h
    · rename_i b hb
      split at h
      · rename_i hbw
        obtain ⟨v, h1, h2⟩ := pure_out hc h
        exact ⟨v, h1, fun H2 K2 hK2 => by simp only [aGuardK, hb, if_pos hbw]; exact h2 H2 K2 hK2⟩
      · rename_i hbw
        exact ⟨undef, h, fun H2 K2 hK2 => by simp only [aGuardK, hb, if_neg hbw]; exact hK2⟩
    · rename_i vs hb
      exact ⟨undef, h, fun H2 K2 hK2 => by simp only [aGuardK, hb]; exact hK2⟩
    · exact h.elim

/-- What is read stays where memory is made beside it. -/
theorem read_alloc {op : Op} {a : ATmps} {H : AHeap} {K : Value → AHeap → Prop} (hw : H.at_ H.next = .dead) (blk : Blk) (hc : cls P op = .read) (h : aopK P op a H K) : ∃ v, K v H ∧ ∀ (K2 : Value → AHeap → Prop), K2 v (H.alloc blk) → aopK P op a (H.alloc blk) K2 := by
  have hat : ∀ c, H.at_ c ≠ .dead → (H.alloc blk).at_ c = H.at_ c := fun c hc => AHeap.at_alloc_ne _ _ (fun e => hc (e ▸ hw))
  cases op with
  | load t x =>
    obtain ⟨v, hv, h⟩ := bnd_iff.1 h
    refine ⟨v, h, fun K2 h2 => bnd_iff.2 ⟨v, ?_, h2⟩⟩
    unfold aLoad at hv ⊢
    split at hv
    · rename_i n h1 h2
      unfold aLdAgg at hv ⊢
      split at hv
      · rename_i b o hx
        have : H.at_ b ≠ .dead := by intro e; rw [e] at hv; simp at hv
        simp only [hx, hat b this]
        exact hv
      · cases hv
    · rename_i n h1 h2
      unfold aLdCell at hv ⊢
      split at hv
      · rename_i b o hx
        have : H.at_ b ≠ .dead := by intro e; rw [e] at hv; simp at hv
        simp only [hx, hat b this]
        exact hv
      · cases hv
    · cases hv
  | lookup _ _ _ _ => simp [cls] at hc
  | convert s d x =>
    simp only [cls] at hc
    split at hc
    · cases hc
    · rename_i h1 h2
      simp only [aopK, aConvX, h1, h2] at h
      split at h
      · rename_i h3
        obtain ⟨v, hv, h⟩ := bnd_iff.1 h
        refine ⟨v, h, fun K2 hk => ?_⟩
        simp only [aopK, aConvX, h1, h2, h3]
        refine bnd_iff.2 ⟨v, ?_, hk⟩
        unfold aBytesStr aRow at hv ⊢
        split at hv
        · exact hv
        · rename_i b o len c hx
          have : H.at_ b ≠ .dead := by intro e; rw [e] at hv; simp at hv
          simp only [hat b this]
          exact hv
        · simp at hv
      · exact h.elim
    · cases hc
  | binOp op t x y t' => simp only [cls] at hc; split at hc <;> cases hc
  | call c =>
    obtain ⟨callee, args, ats⟩ := c
    cases callee with
    | value f => simp [cls] at hc
    | invoke r m => simp [cls] at hc
    | builtin b => cases b <;> simp [cls] at hc
  | makeMap _ r => cases r <;> simp [cls] at hc
  | _ => simp [cls] at hc
theorem aopG_read_alloc {o : Oper} {a : ATmps} {H : AHeap} {K : Value → AHeap → Prop} (hw : H.at_ H.next = .dead) (blk : Blk) (hc : cls P o.op = .read) (h : aopG P ops o a H K) : ∃ v, K v H ∧ ∀ (K2 : Value → AHeap → Prop), K2 v (H.alloc blk) → aopG P ops o a (H.alloc blk) K2 := by
  unfold aopG at h ⊢
  split at h
  · exact read_alloc hw blk hc h
  · rename_i j want hg
    unfold aGuardK at h
    split at h
    · rename_i b hb
      split at h
      · rename_i hbw
        obtain ⟨v, h1, h2⟩ := read_alloc hw blk hc h
        exact ⟨v, h1, fun K2 hK2 => by simp only [aGuardK, hb, if_pos hbw]; exact h2 K2 hK2⟩
      · rename_i hbw
        exact ⟨undef, h, fun K2 hK2 => by simp only [aGuardK, hb, if_neg hbw]; exact hK2⟩
    · rename_i vs hb
      exact ⟨undef, h, fun K2 hK2 => by simp only [aGuardK, hb]; exact hK2⟩
    · exact h.elim

theorem PendQ.alloc {i : Nat} {a : ATmps} {H : AHeap} (hw : H.at_ H.next = .dead) (blk : Blk) (h : PendQ P ops i a H) (hne : isEff P ops i = false) : PendQ P ops i a (H.alloc blk) := by
  obtain ⟨o, ho, h⟩ := h
  have hne' : cls P o.op ≠ .eff := not_eff ho hne
  refine ⟨o, ho, ?_⟩
  cases hc : cls P o.op with
  | eff => exact absurd hc hne'
  | pure => obtain ⟨v, ⟨_, h1⟩, h2⟩ := aopG_pure hc h; exact h2 _ _ ⟨rfl, h1⟩
  | read => obtain ⟨v, ⟨_, h1⟩, h2⟩ := aopG_read_alloc hw blk hc h; exact h2 _ ⟨rfl, h1⟩
  | new =>
    rcases aopG_new hc h with ⟨⟨_, h1⟩, h2⟩ | ⟨blk', val, ⟨h1, _⟩, _⟩
    · exact h2 _ _ ⟨rfl, h1⟩
    · have := congrArg AHeap.next h1; simp at this

theorem PendQ.eff {i : Nat} {a : ATmps} {H H' : AHeap} (h : PendQ P ops i a H) (hne : isEff P ops i = false) (hs : isReadNew P ops i = true → stable P ops i a H H') : PendQ P ops i a H' := by
  obtain ⟨o, ho, h⟩ := h
  have hne' : cls P o.op ≠ .eff := not_eff ho hne
  refine ⟨o, ho, ?_⟩
  cases hc : cls P o.op with
  | eff => exact absurd hc hne'
  | pure => obtain ⟨v, ⟨_, h1⟩, h2⟩ := aopG_pure hc h; exact h2 _ _ ⟨rfl, h1⟩
  | read =>
    have hst := hs (by simp [isReadNew, ho, hc])
    simp only [stable, ho] at hst
    cases hd : o.dst with
    | none => rw [hd] at hst; exact hst.elim
    | some d =>
      rw [hd] at hst
      simp only [hc] at hst
      obtain ⟨v, h1, h2⟩ := aopG_quiet (by simp [hc]) (by simp [hc]) hst
      refine h2 _ ⟨rfl, fun d' hd' => ?_⟩
      cases hd'
      exact h1
  | new =>
    rcases aopG_new hc h with ⟨⟨_, h1⟩, h2⟩ | ⟨blk', val, ⟨h1, _⟩, _⟩
    · exact h2 _ _ ⟨rfl, h1⟩
    · have := congrArg AHeap.next h1; simp at this

theorem PendN.eff {i b : Nat} {a : ATmps} {H H' : AHeap} (h : PendN P ops i b a H) (hs : stable P ops i a H H') : PendN P ops i b a H' := by
  obtain ⟨o, blk, v, ho, hc, h, h1, h2, h3⟩ := h
  refine ⟨o, blk, v, ho, hc, h, ?_, h2, h3⟩
  simp only [stable, ho] at hs
  cases hd : o.dst with
  | none => rw [hd] at hs; exact hs.elim
  | some d =>
    rw [hd] at hs
    simp only [hc] at hs
    rw [← h3 d hd, h2] at hs
    rw [hs, h1]
end
end Go.Abs
