/- The abstract machine: the other operations without memory stand for the model's. -/
import Derived.Test.YtahcngeimlkcgaaAmC
namespace Go.Proofs.Ytahcngeimlkcgaa.Am
open Go
variable [Marks]
set_option linter.unusedVariables false
set_option linter.unusedSectionVars false
set_option linter.unusedSimpArgs false
section
variable {P : Program} {ρ : Rho}
theorem aUn_run {op : UnOp} {x v x' : Value} (h : aUn op x = some v) (hx : VR ρ x x') : ∃ v', VR ρ v v' ∧ ∀ w, (Op.unary op x').run P w = .ok v' w := by
 cases hx <;> cases op <;> simp [aUn] at h
 all_goals (subst h; first | exact ⟨_, .int _ _, fun w => by simp [Op.unary, Op.intArith]⟩ | exact ⟨_, .bool _, fun w => by simp [Op.unary]⟩)
theorem aField_run {s : TypeId} {f : Nat} {x v x' : Value} (h : aField P s f x = some v) (hx : VR ρ x x') : ∃ v', VR ρ v v' ∧ ∀ w, (Instr.fieldAt s x' f).run P w = .ok v' w := by
 unfold aField at h
 split at h
 ·rename_i fields a hu
  cases hx
  rename_i a' ha
  cases hf : fields[f]? with
  | none => rw [hf] at h; cases h
  | some fd =>
   rw [hf] at h
   simp only [Option.bind_some] at h
   cases hs : tsize P fd.type with
   | none => rw [hs] at h; cases h
   | some z =>
    rw [hs] at h
    simp only [Option.bind_some] at h
    split at h
    ·cases h
    ·rename_i hz
     simp at h; subst h
     refine ⟨_, .ptr (add_AR ha fd.offset), fun w => ?_⟩
     have hz0 : z ≠ 0 := fun e => hz (.inl e)
     simp [Instr.fieldAt, run_und hu, hf, Instr.sureAddr, fieldPlace, run_size hs, hz0]
 ·cases h
theorem aIndexAddr_run {t : TypeId} {x ix v x' ix' : Value} (h : aIndexAddr P t x ix = some v) (hx : VR ρ x x') (hi : VR ρ ix ix') : ∃ v', VR ρ v v' ∧ ∀ w, (Instr.indexAt t x' ix').run P w = .ok v' w := by
 unfold aIndexAddr at h
 split at h
 ·rename_i e a n c k i hu
  cases hi
  have hAR : ∃ a' c', x' = .slice (some a') n c' ∧ (0 < n → AR ρ a a') := by
   cases hx with
   | sl h1 h2 h3 h4 => exact ⟨_, _, rfl, h3⟩
  obtain ⟨a', c', rfl, h3⟩ := hAR
  cases hs : tsize P e with
  | none => rw [hs] at h; cases h
  | some s =>
   rw [hs] at h
   simp only [Option.bind_some] at h
   split at h
   ·rename_i hc
    simp at h; subst h
    refine ⟨_, .ptr (add_AR (h3 (by omega)) (i.toNat * s)), fun w => ?_⟩
    simp [Instr.indexAt, asIntOf, run_und hu, hc.1, hc.2.1, run_size hs]
   ·cases h
 ·rename_i n e a k i hu
  cases hi
  cases hx
  rename_i a' ha
  cases hs : tsize P e with
  | none => rw [hs] at h; cases h
  | some s =>
   rw [hs] at h
   simp only [Option.bind_some] at h
   split at h
   ·rename_i hc
    simp at h; subst h
    refine ⟨_, .ptr (add_AR ha (i.toNat * s)), fun w => ?_⟩
    simp [Instr.indexAt, asIntOf, run_und hu, hc.1, hc.2.1, run_size hs, Instr.sureAddr]
   ·cases h
 ·cases h
theorem aIndex_run {t : TypeId} {x ix v x' ix' : Value} (h : aIndex P t x ix = some v) (hx : VR ρ x x') (hi : VR ρ ix ix') : ∃ v', VR ρ v v' ∧ ∀ w, (Instr.index t x' ix').run P w = .ok v' w := by
 unfold aIndex at h
 split at h
 ·rename_i s k i hu
  cases hi; cases hx
  split at h
  ·rename_i h0
   cases hb : s[i.toNat]? with
   | none => rw [hb] at h; cases h
   | some b =>
    rw [hb] at h; simp at h; subst h
    exact ⟨_, .int _ _, fun w => by simp [Instr.index, asIntOf, run_und hu, h0, hb]⟩
  ·cases h
 ·rename_i n e cs k i hu
  cases hi; cases hx
  rename_i cs' hc1 hc2
  cases hs : tsize P e with
  | none => rw [hs] at h; cases h
  | some s =>
   rw [hs] at h
   simp only [Option.bind_some] at h
   split at h
   ·rename_i hc
    obtain ⟨v', hv, hr⟩ := aPart_run h (LR.of_arr hc1 hc2)
    exact ⟨v', hv, fun w => by simp [Instr.index, asIntOf, run_und hu, hc.1, hc.2, run_size hs, hr]⟩
   ·cases h
 ·cases h
theorem aFieldV_run {t : TypeId} {f : Nat} {x v x' : Value} (h : aFieldV P t f x = some v) (hx : VR ρ x x') : ∃ v', VR ρ v v' ∧ ∀ w, (Instr.field t x' f).run P w = .ok v' w := by
 unfold aFieldV at h
 split at h
 ·rename_i fields cs hu
  cases hx
  rename_i cs' hc1 hc2
  cases hf : fields[f]? with
  | none => rw [hf] at h; cases h
  | some fd =>
   rw [hf] at h
   simp only [Option.bind_some] at h
   obtain ⟨v', hv, hr⟩ := aPart_run h (LR.of_arr hc1 hc2)
   exact ⟨v', hv, fun w => by simp [Instr.field, run_und hu, hf, asAgg, hr]⟩
 ·cases h
theorem aLen_run {t ty : TypeId} {ts : Array TypeId} {x v x' : Value} {args : Array Value} (h : aLen P t x = some v) (hx : VR ρ x x') (ht : ts[0]? = some t) (ha : args[0]? = some x') : VR ρ v v ∧ ∀ w, (Builtin.len_ ts ty args).run P w = .ok v w := by
 unfold aLen at h
 split at h
 ·rename_i s hu; cases hx; simp at h; subst h
  exact ⟨.int _ _, fun w => by simp [Builtin.len_, ht, ha, run_und hu, goInt]⟩
 ·rename_i e a n c hu
  simp at h; subst h
  cases hx <;> exact ⟨.int _ _, fun w => by simp [Builtin.len_, ht, ha, run_und hu, goInt]⟩
 ·rename_i n e hu
  simp at h; subst h
  exact ⟨.int _ _, fun w => by simp [Builtin.len_, ht, ha, run_und hu, goInt]⟩
 ·cases h
theorem LR.cons_inv {v : Value} {vs l' : List Value} (h : LR ρ (v :: vs) l') : ∃ v' vs', l' = v' :: vs' ∧ VR ρ v v' ∧ LR ρ vs vs' := by
 cases l' with
 | nil => have := h.1; simp at this
 | cons v' vs' => exact ⟨v', vs', rfl, h.head, h.tail⟩
theorem LR.nil_inv {l' : List Value} (h : LR ρ [] l') : l' = [] := by
 cases l' with
 | nil => rfl
 | cons v' vs' => have := h.1; simp at this
theorem aMax_run : ∀ (vs vs' : List Value) (x v : Value), aMax x vs = some v → LR ρ vs vs' → ∀ w, (vs'.foldlM Builtin.max2 x).run P w = .ok v w ∧ VR ρ v v := by
 intro vs
 induction vs with
 | nil =>
  intro vs' x v h hl w
  obtain rfl := hl.nil_inv
  cases x <;> simp [aMax] at h
  subst h
  exact ⟨by simp, .int _ _⟩
 | cons y vs ih =>
  intro vs' x v h hl w
  obtain ⟨y', vs', rfl, hy, hl'⟩ := hl.cons_inv
  cases x <;> cases hy <;> simp only [aMax] at h <;> first | (cases h; done) | skip
  rename_i k x k' y
  split at h
  ·rename_i hk; subst hk
   have := ih vs' _ v h hl' w
   simpa [List.foldlM_cons, Builtin.max2] using this
  ·cases h
theorem aMin_run : ∀ (vs vs' : List Value) (x v : Value), aMin x vs = some v → LR ρ vs vs' → ∀ w, (vs'.foldlM Builtin.min2 x).run P w = .ok v w ∧ VR ρ v v := by
 intro vs
 induction vs with
 | nil =>
  intro vs' x v h hl w
  obtain rfl := hl.nil_inv
  cases x <;> simp [aMin] at h
  subst h
  exact ⟨by simp, .int _ _⟩
 | cons y vs ih =>
  intro vs' x v h hl w
  obtain ⟨y', vs', rfl, hy, hl'⟩ := hl.cons_inv
  cases x <;> cases hy <;> simp only [aMin] at h <;> first | (cases h; done) | skip
  rename_i k x k' y
  split at h
  ·rename_i hk; subst hk
   have := ih vs' _ v h hl' w
   simpa [List.foldlM_cons, Builtin.min2] using this
  ·cases h
theorem aAssert_run {x v x' : Value} {xt asserted : TypeId} {ok : Bool} (h : aAssert P x asserted ok = some v) (hx : VR ρ x x') : ∃ v', VR ρ v v' ∧ ∀ w, (Instr.typeAssert x' xt asserted ok).run P w = .ok v' w := by
 have zr : ∀ z, tzero P asserted = some z → clean z = true → VR ρ (.tuple #[z, .bool false]) (.tuple #[z, .bool false]) := fun z _ hz =>
  LR.to_tuple (LR.cons (clean_VR ρ hz) (LR.cons (.bool _) (LR.nil _)))
 unfold aAssert at h
 split at h
 ·cases h
 ·rename_i d hnd hu
  cases hx
  cases ok with
  | false => simp at h
  | true =>
   simp only [if_true] at h
   cases hz : tzero P asserted with
   | none => rw [hz] at h; cases h
   | some z =>
    rw [hz] at h
    simp only [Option.bind_some] at h
    split at h
    ·rename_i hc; simp at h; subst h
     refine ⟨_, zr z hz hc, fun w => ?_⟩
     cases d <;> simp [Instr.typeAssert, run_und hu, run_zero hz] at hnd ⊢
    ·cases h
 ·rename_i d t u hnd hu
  cases hx
  rename_i u' hr
  split at h
  ·rename_i ht
   simp at h; subst h
   cases ok with
   | false => exact ⟨u', hr, fun w => by cases d <;> simp [Instr.typeAssert, run_und hu, ht] at hnd ⊢⟩
   | true => exact ⟨.tuple #[u', .bool true], LR.to_tuple (LR.cons hr (LR.cons (.bool _) (LR.nil _))), fun w => by cases d <;> simp [Instr.typeAssert, run_und hu, ht] at hnd ⊢⟩
  ·rename_i ht
   cases ok with
   | false => simp at h
   | true =>
    simp only [if_true] at h
    cases hz : tzero P asserted with
    | none => rw [hz] at h; cases h
    | some z =>
     rw [hz] at h
     simp only [Option.bind_some] at h
     split at h
     ·rename_i hc; simp at h; subst h
      refine ⟨_, zr z hz hc, fun w => ?_⟩
      cases d <;> simp [Instr.typeAssert, run_und hu, run_zero hz, ht] at hnd ⊢
     ·cases h
 ·cases h
end
end Go.Proofs.Ytahcngeimlkcgaa.Am
