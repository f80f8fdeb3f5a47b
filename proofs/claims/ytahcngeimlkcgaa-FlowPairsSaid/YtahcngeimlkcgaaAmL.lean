/- The abstract machine: the frame; what stays; regions in the text's order. -/
import Derived.Test.YtahcngeimlkcgaaAmK
import Derived.LoopN
namespace Go.Proofs.Ytahcngeimlkcgaa.Am
open Go
set_option linter.unusedVariables false
set_option linter.unusedSectionVars false
set_option linter.unusedSimpArgs false
structure Stay (h h' : AH) : Prop where
  low : h'.low ≤ h.low
  next : h.next ≤ h'.next
  blk : ∀ b, b < h.next → b < h'.low → h'.blk b = h.blk b
  dead : ∀ b, b < h.next → h.blk b = none → h'.blk b = none
  live : (∀ b, h.blk b ≠ none → b < h.next) → ∀ b, h'.blk b ≠ none → b < h'.next
theorem Stay.refl (h : AH) : Stay h h := ⟨Nat.le_refl _, Nat.le_refl _, fun _ _ _ => rfl, fun _ _ q => q, fun q => q⟩
theorem Stay.trans {a b c : AH} (h : Stay a b) (k : Stay b c) : Stay a c :=
  ⟨Nat.le_trans k.low h.low, Nat.le_trans h.next k.next, fun i h1 h2 => (k.blk i (Nat.lt_of_lt_of_le h1 h.next) h2).trans (h.blk i h1 (Nat.lt_of_lt_of_le h2 k.low)),
    fun i h1 h2 => k.dead i (Nat.lt_of_lt_of_le h1 h.next) (h.dead i h1 h2), fun q => k.live (h.live q)⟩
theorem Stay.alloc (h : AH) (cs : List Value) (z : Nat) : Stay h (h.alloc cs z) := by
  refine ⟨Nat.le_refl _, Nat.le_succ _, fun b h1 _ => by rw [AH.blk_alloc, if_neg (by omega)], fun b h1 h2 => by rw [AH.blk_alloc, if_neg (by omega)]; exact h2, fun q b hb => ?_⟩
  rw [AH.blk_alloc] at hb
  rw [AH.next_alloc]
  by_cases e : b = h.next
  · omega
  · rw [if_neg e] at hb; have := q b hb; omega
theorem Stay.put (h : AH) (c : Nat) (x : Option ABlk) (hx : x = none ∨ h.blk c ≠ none) : Stay h (h.put c x) := by
  refine ⟨?_, Nat.le_refl _, fun b h1 h2 => ?_, fun b h1 h2 => ?_, fun q b hb => ?_⟩
  · rw [AH.low_put]; split <;> omega
  · rw [AH.blk_put, if_neg]
    rw [AH.low_put] at h2
    split at h2 <;> omega
  · rw [AH.blk_put]
    by_cases e : b = c
    · subst e
      rw [if_pos rfl]
      rcases hx with hx | hx
      · exact hx
      · exact absurd h2 hx
    · rw [if_neg e]; exact h2
  · rw [AH.blk_put] at hb
    rw [AH.next_put]
    by_cases e : b = c
    · subst e
      rw [if_pos rfl] at hb
      rcases hx with hx | hx
      · exact absurd hx hb
      · exact q b hx
    · rw [if_neg e] at hb; exact q b hb
def StayCall (call : ACallee) : Prop := ∀ f args h v h', call f args h = some (v, h') → Stay h h'
section
variable {P : Program}
theorem aConvert_stay {s d : TypeId} {x v : Value} {h h' : AH} (hc : aConvert P s d x h = some (v, h')) : Stay h h' := by
  unfold aConvert at hc
  split at hc
  · simp at hc; obtain ⟨_, rfl⟩ := hc; exact Stay.refl _
  · simp at hc; obtain ⟨_, rfl⟩ := hc; exact Stay.refl _
  · split at hc
    · simp at hc; obtain ⟨_, rfl⟩ := hc; exact Stay.alloc _ _ _
    · cases hc
  · split at hc
    · split at hc
      · simp at hc; obtain ⟨_, rfl⟩ := hc; exact Stay.refl _
      · cases hc
    · cases hc
  · split at hc
    · simp at hc; obtain ⟨_, rfl⟩ := hc; exact Stay.refl _
    · cases hc
  · rename_i a n _ _ _
    split at hc
    · split at hc
      · simp at hc; obtain ⟨_, rfl⟩ := hc; exact Stay.refl _
      · cases hq : h.cellsAt a n with
        | none => rw [hq] at hc; cases hc
        | some cs =>
          rw [hq] at hc; simp only [Option.bind_some] at hc
          cases hb : bytesOf cs with
          | none => rw [hb] at hc; cases hc
          | some bs => rw [hb] at hc; simp at hc; obtain ⟨_, rfl⟩ := hc; exact Stay.refl _
    · cases hc
  · cases hc
theorem aAppend_stay {t tx : TypeId} {sv x v : Value} {h h' : AH} (ha : aAppend P t tx sv x h = some (v, h')) : Stay h h' := by
  unfold aAppend at ha
  split at ha
  · rename_i e dx base n c _ _
    split at ha
    · cases h1 : tsize P e with
      | none => rw [h1] at ha; cases ha
      | some s =>
        rw [h1] at ha; simp only [Option.bind_some] at ha
        cases h2 : tbytes P e with
        | none => rw [h2] at ha; cases ha
        | some by_ =>
          rw [h2] at ha; simp only [Option.bind_some] at ha
          cases h3 : tzero P e with
          | none => rw [h3] at ha; cases ha
          | some z =>
            rw [h3] at ha; simp only [Option.bind_some] at ha
            cases h4 : aNews s x h with
            | none => rw [h4] at ha; cases ha
            | some mx =>
              rw [h4] at ha; simp only [Option.bind_some] at ha
              split at ha
              · split at ha
                · simp at ha; obtain ⟨_, rfl⟩ := ha; exact Stay.refl _
                · split at ha
                  · split at ha
                    · simp at ha; obtain ⟨_, rfl⟩ := ha; exact Stay.alloc _ _ _
                    · cases ha
                  · rename_i a
                    split at ha
                    · cases h5 : h.cellsAt a (n * s) with
                      | none => rw [h5] at ha; cases ha
                      | some old => rw [h5] at ha; simp at ha; obtain ⟨_, rfl⟩ := ha; exact Stay.alloc _ _ _
                    · split at ha
                      · cases h5 : h.blk a.block with
                        | none => rw [h5] at ha; cases ha
                        | some B =>
                          rw [h5] at ha; simp only [Option.bind_some] at ha
                          split at ha
                          · simp at ha; obtain ⟨_, rfl⟩ := ha; exact (Stay.put _ _ _ (.inl rfl)).trans (Stay.alloc _ _ _)
                          · cases ha
                      · cases ha
              · cases ha
    · cases ha
  · cases ha
theorem store_stay {a : Addr} {cs : List Value} {h h' : AH} (hst : h.store a cs = some h') : Stay h h' := by
  unfold AH.store at hst
  split at hst
  · cases hB : h.blk a.block with
    | none => rw [hB] at hst; cases hst
    | some B =>
      rw [hB] at hst
      simp only [Option.bind_some] at hst
      split at hst
      · injection hst with hst; subst hst
        exact Stay.put _ _ _ (.inr (by rw [hB]; exact fun q => by cases q))
      · cases hst
  · cases hst
theorem aCopy_stay {t : TypeId} {d s v : Value} {h h' : AH} (hc : aCopy P t d s h = some (v, h')) : Stay h h' := by
  unfold aCopy at hc
  split at hc
  · rename_i e db n c sb m c2 hu
    cases hz : tsize P e with
    | none => rw [hz] at hc; cases hc
    | some z =>
      rw [hz] at hc
      simp only [Option.bind_some] at hc
      split at hc
      · simp at hc; obtain ⟨_, rfl⟩ := hc; exact Stay.refl _
      · split at hc
        · rename_i a b
          cases hcs : h.cellsAt b (Nat.min m n * z) with
          | none => rw [hcs] at hc; cases hc
          | some cs =>
            rw [hcs] at hc
            simp only [Option.bind_some] at hc
            cases hst : h.store a cs with
            | none => rw [hst] at hc; cases hc
            | some h2 =>
              rw [hst] at hc
              simp at hc
              obtain ⟨_, rfl⟩ := hc
              exact store_stay hst
        · cases hc
  · cases hc
theorem aStore_stay {t : TypeId} {x v : Value} {h h' : AH} (hs : aStore P t x v h = some h') : Stay h h' := by
  unfold aStore at hs
  split at hs
  · rename_i a
    cases h1 : tsize P t with
    | none => rw [h1] at hs; cases hs
    | some s =>
      rw [h1] at hs; simp only [Option.bind_some] at hs
      split at hs
      · unfold AH.store at hs
        split at hs
        · cases h5 : h.blk a.block with
          | none => rw [h5] at hs; cases hs
          | some B =>
            rw [h5] at hs; simp only [Option.bind_some] at hs
            split at hs
            · injection hs with hs; subst hs; exact Stay.put _ _ _ (.inr (by rw [h5]; exact fun q => by cases q))
            · cases hs
        · cases hs
      · cases hs
  · cases hs
theorem map_pair {α : Type} {o : Option Value} {h h' : α} {v : Value} (hm : o.map (·, h) = some (v, h')) : h' = h := by
  cases o with
  | none => cases hm
  | some u => simp at hm; exact hm.2.symm
theorem fresh_stay {o : Option Fresh} {h h' : AH} {v : Value} (hm : o.map h.fresh = some (v, h')) : Stay h h' := by
  cases o with
  | none => cases hm
  | some f => simp [AH.fresh] at hm; obtain ⟨_, rfl⟩ := hm; exact Stay.alloc _ _ _
theorem aOp_stay {call : ACallee} (hc : StayCall call) {ev : Operand → Value} {op : Op} {h h' : AH} {v : Value} (hop : aOp P call ev op h = some (v, h')) : Stay h h' := by
  cases op <;> simp only [aOp] at hop <;> try (cases hop; done)
  case pick c a b => split at hop <;> simp at hop; obtain ⟨_, rfl⟩ := hop; exact Stay.refl _
  case move x => simp at hop; obtain ⟨_, rfl⟩ := hop; exact Stay.refl _
  case assign x => simp at hop; obtain ⟨_, rfl⟩ := hop; exact Stay.refl _
  case alloc e => exact fresh_stay hop
  case box e x => exact fresh_stay hop
  case buildSlice t n ps => exact fresh_stay hop
  case makeSlice t l c => exact fresh_stay hop
  case store t x y =>
    cases hst : aStore P t (ev x) (ev y) h with
    | none => rw [hst] at hop; cases hop
    | some u => rw [hst] at hop; simp at hop; obtain ⟨_, rfl⟩ := hop; exact aStore_stay hst
  case nilCheck x => split at hop <;> simp at hop <;> (obtain ⟨_, rfl⟩ := hop; exact Stay.refl _)
  case convert s d x => exact aConvert_stay hop
  case makeInterface t x => split at hop <;> simp at hop; obtain ⟨_, rfl⟩ := hop; exact Stay.refl _
  case makeFunc fn fi ca => cases fn <;> simp at hop; obtain ⟨_, rfl⟩ := hop; exact Stay.refl _
  case extract x i =>
    split at hop
    · exact map_pair hop ▸ Stay.refl _
    · cases hop
  case call c =>
    split at hop
    · rename_i b hb
      unfold aBuiltin at hop
      split at hop
      · exact aAppend_stay hop
      · exact aCopy_stay hop
      · exact map_pair hop ▸ Stay.refl _
      · exact map_pair hop ▸ Stay.refl _
      · exact map_pair hop ▸ Stay.refl _
      · cases hop
    · split at hop
      · exact hc _ _ _ _ _ hop
      · cases hop
    · cases hop
  all_goals exact map_pair hop ▸ Stay.refl _
theorem aOps_stay {call : ACallee} (hc : StayCall call) (ops : Array Oper) : ∀ (os : List Oper) (e e' : Env) (h h' : AH), aOps P call ops os e h = some (e', h') → Stay h h' := by
  intro os
  induction os with
  | nil => intro e e' h h' hh; simp [aOps] at hh; obtain ⟨_, rfl⟩ := hh; exact Stay.refl _
  | cons o os ih =>
    intro e e' h h' hh
    simp only [aOps] at hh
    split at hh
    · cases ho : aOp P call e.ev o.op h with
      | none => rw [ho] at hh; cases hh
      | some r => rw [ho] at hh; exact (aOp_stay hc ho).trans (ih _ _ _ _ hh)
    · exact ih _ _ _ _ hh
theorem Stay.reset {h r : AH} (k : Stay { h with low := h.next } r) : Stay h { r with low := if r.low < h.low then r.low else h.low } := by
  refine ⟨?_, k.next, fun b h1 h2 => ?_, k.dead, k.live⟩
  · simp only; split <;> omega
  · have : b < r.low := by simp only at h2; split at h2 <;> omega
    exact k.blk b h1 this
theorem aDraw_stay {call : ACallee} (hc : StayCall call) (ops : Array Oper) (base : Nat) (h0 : AH) (hb : h0.next ≤ base) : ∀ (os : List Oper) (i : Nat) (s s' : DSt), Stay h0 s.h → base + i + os.length ≤ s.h.next → aDraw P call ops base i os s = some s' → Stay h0 s'.h := by
  intro os
  induction os with
  | nil => intro i s s' hs _ hh; simp [aDraw] at hh; subst hh; exact hs
  | cons o os ih =>
    intro i s s' hs hn hh
    simp only [List.length_cons] at hn
    simp only [aDraw] at hh
    split at hh
    · cases ho : aDrawOp P call ops.toList base i o s with
      | none => rw [ho] at hh; cases hh
      | some s1 =>
        rw [ho] at hh
        suffices hq : Stay h0 s1.h ∧ s.h.next ≤ s1.h.next from ih _ _ _ hq.1 (by omega) hh
        unfold aDrawOp at ho
        split at ho
        · cases hq : aOp P call s.e.ev o.op s.h with
          | none => rw [hq] at ho; cases ho
          | some r => rw [hq] at ho; simp at ho; subst ho; exact ⟨hs, Nat.le_refl _⟩
        · cases hq : aLook P s.e.ev o.op s.h with
          | none => rw [hq] at ho; cases ho
          | some v =>
            rw [hq] at ho; simp only [Option.bind_some] at ho
            split at ho
            · simp at ho; subst ho; exact ⟨hs, Nat.le_refl _⟩
            · cases ho
        · cases hq : aFresh P s.e.ev o.op with
          | none => rw [hq] at ho; cases ho
          | some f =>
            rw [hq] at ho; simp at ho; subst ho
            have hlt : base + i < s.h.next := by have := hn; omega
            refine ⟨⟨hs.low, hs.next, fun b h1 h2 => ?_, fun b h1 h2 => ?_, fun q b hb => ?_⟩, Nat.le_refl _⟩
            · simp only [AH.blk, Tr.get_set]
              rw [if_neg (by omega)]
              exact hs.blk b h1 h2
            · simp only [AH.blk, Tr.get_set]
              rw [if_neg (by omega)]
              exact hs.dead b h1 h2
            · simp only [AH.blk, Tr.get_set] at hb
              by_cases e : b = base + i
              · rw [e]; exact hlt
              · rw [if_neg e] at hb; exact hs.live q b hb
        · cases hq : aOp P call s.e.ev o.op { s.h with low := s.h.next } with
          | none => rw [hq] at ho; cases ho
          | some r =>
            rw [hq] at ho; simp only [Option.bind_some] at ho
            have hst := (aOp_stay hc hq).reset
            revert hst ho
            generalize ({ r.2 with low := if r.2.low < s.h.low then r.2.low else s.h.low } : AH) = h2
            intro ho hst
            split at ho
            · injection ho with ho; subst ho; exact ⟨hs.trans hst, hst.next⟩
            · split at ho
              · injection ho with ho; subst ho; exact ⟨hs.trans hst, hst.next⟩
              · cases ho
    · refine ih _ _ _ ?_ ?_ hh
      · exact hs
      · simp only; omega
theorem aRegionD_stay {call : ACallee} (hc : StayCall call) {ops : Array Oper} {e e' : Env} {h h' : AH} (hh : aRegionD P call ops e h = some (e', h')) : Stay h h' := by
  unfold aRegionD at hh
  cases hq : aDraw P call ops h.next 0 ops.toList ⟨e, { h with next := h.next + ops.size }, [], []⟩ with
  | none => rw [hq] at hh; cases hh
  | some s =>
    rw [hq] at hh; simp at hh; obtain ⟨_, rfl⟩ := hh
    exact aDraw_stay hc ops h.next h (Nat.le_refl _) _ _ _ _ ⟨Nat.le_refl _, Nat.le_add_right _ _, fun _ _ _ => rfl, fun _ _ q => q, fun q b hb => Nat.lt_of_lt_of_le (q b hb) (Nat.le_add_right _ _)⟩ (by simp) hq
theorem aLoop_stay {body : Env → AH → ARes} (hb : ∀ e h x e' h', body e h = some (x, e', h') → Stay h h') : ∀ (k : Nat) e h x e' h', aLoop body k e h = some (x, e', h') → Stay h h' := by
  intro k
  induction k with
  | zero => intro e h x e' h' hh; simp [aLoop] at hh
  | succ k ih =>
    intro e h x e' h' hh
    simp only [aLoop] at hh
    split at hh
    · rename_i e1 h1 hq
      exact (hb _ _ _ _ _ hq).trans (ih _ _ _ _ _ hh)
    · exact hb _ _ _ _ _ hh
theorem aJump_stay {run : Code → Env → AH → ARes} (hb : ∀ c e h x e' h', run c e h = some (x, e', h') → Stay h h') (c : Code) : ∀ (k : Nat) cur e h x e' h', aJump run c k cur e h = some (x, e', h') → Stay h h' := by
  intro k
  induction k with
  | zero => intro cur e h x e' h' hh; simp [aJump] at hh
  | succ k ih =>
    intro cur e h x e' h' hh
    simp only [aJump] at hh
    split at hh
    · rename_i l e1 h1 hq
      split at hh
      · exact (hb _ _ _ _ _ _ hq).trans (ih _ _ _ _ _ _ hh)
      · simp at hh; obtain ⟨_, _, rfl⟩ := hh; exact hb _ _ _ _ _ _ hq
    · exact hb _ _ _ _ _ _ hh
theorem aCode_stay {call : ACallee} (hc : StayCall call) : ∀ (k : Nat) (c : Code) e h x e' h', aCode P call k c e h = some (x, e', h') → Stay h h' := by
  intro k
  induction k with
  | zero => intro c e h x e' h' hh; simp [aCode] at hh
  | succ k ih =>
    intro c e h x e' h' hh
    simp only [aCode] at hh
    split at hh
    · simp at hh; obtain ⟨_, _, rfl⟩ := hh; exact Stay.refl _
    · simp at hh; obtain ⟨_, _, rfl⟩ := hh; exact Stay.refl _
    · rename_i id ops
      cases hq : aOps P call ops ops.toList e h with
      | none => rw [hq] at hh; cases hh
      | some r => rw [hq] at hh; simp at hh; obtain ⟨_, _, rfl⟩ := hh; exact aOps_stay hc ops _ _ _ _ _ hq
    · rename_i id ops
      cases hq : aRegionD P call ops e h with
      | none => rw [hq] at hh; cases hh
      | some r => rw [hq] at hh; simp at hh; obtain ⟨_, _, rfl⟩ := hh; exact aRegionD_stay hc hq
    · rename_i a b
      split at hh
      · rename_i e1 h1 hq
        exact (ih _ _ _ _ _ _ hq).trans (ih _ _ _ _ _ _ hh)
      · exact ih _ _ _ _ _ _ hh
    · split at hh
      · exact ih _ _ _ _ _ _ hh
      · cases hh
    · split at hh
      · rename_i i e1 h1 hq
        split at hh
        · simp at hh; obtain ⟨_, _, rfl⟩ := hh; exact ih _ _ _ _ _ _ hq
        · simp at hh; obtain ⟨_, _, rfl⟩ := hh; exact ih _ _ _ _ _ _ hq
      · exact ih _ _ _ _ _ _ hh
    · exact aLoop_stay (fun e h x e' h' q => ih _ _ _ _ _ _ q) _ _ _ _ _ _ hh
    · exact aJump_stay (fun c e h x e' h' q => ih _ _ _ _ _ _ q) _ _ _ _ _ _ _ _ hh
    · simp at hh; obtain ⟨_, _, rfl⟩ := hh; exact Stay.refl _
    · simp at hh; obtain ⟨_, _, rfl⟩ := hh; exact Stay.refl _
    · simp at hh; obtain ⟨_, _, rfl⟩ := hh; exact Stay.refl _
    · cases hh
theorem aLeave_stay {r : Bool} {h0 h1 h' : AH} {v v' : Value} (k : Stay { h0 with low := h0.next } h1) (hl : aLeave r h0 v h1 = (v', h')) : Stay h0 h' := by
  unfold aLeave at hl
  split at hl
  · injection hl with _ hl; subst hl; exact Stay.refl _
  · injection hl with _ hl; subst hl; exact k.reset
theorem aCall_stay {ov : ACallee} (hov : StayCall ov) : ∀ (k : Nat), StayCall (aCall P ov k) := by
  intro k
  induction k with
  | zero => intro f args h v h' hh; exact hov f args h v h' hh
  | succ k ih =>
    intro f args h v h' hh
    simp only [aCall] at hh
    cases ho : ov f args h with
    | some r => rw [ho] at hh; simp at hh; subst hh; exact hov f args h v h' ho
    | none =>
    rw [ho] at hh
    simp only at hh
    cases hf : P.funcs[f]? with
    | none => rw [hf] at hh; cases hh
    | some fn =>
      rw [hf] at hh; simp only [Option.bind_some] at hh
      cases hb : fn.body with
      | none => rw [hb] at hh; cases hh
      | some c =>
        rw [hb] at hh; simp only [Option.bind_some] at hh
        split at hh
        · split at hh
          all_goals first
            | (rename_i e h1 hq
               cases hr : aResults P fn.results.toList e h1 with
               | none => rw [hr] at hh; cases hh
               | some u => rw [hr] at hh; exact aLeave_stay (aCode_stay ih _ _ _ _ _ _ _ hq) (Option.some.inj hh))
            | cases hh
        · cases hh
end
end Go.Proofs.Ytahcngeimlkcgaa.Am
