/- The abstract machine: runs of code, told backwards ('wp'); contracts of calls. -/
import Derived.Test.YtahcngeimlkcgaaAmW
namespace Go.Proofs.Ytahcngeimlkcgaa.Am
open Go
set_option linter.unusedVariables false
set_option linter.unusedSectionVars false
set_option linter.unusedSimpArgs false
section
variable {P : Program}
def Runs (P : Program) (c : Code) (e : Env) (h : AH) (r : AEx × Env × AH) : Prop := ∃ n, aCode P (callI P) n c e h = some r
def wp (P : Program) (c : Code) (e : Env) (h : AH) (N : Env → AH → Prop) (X : AEx → Env → AH → Prop) : Prop :=
 ∃ x e' h', Runs P c e h (x, e', h') ∧ match x with | .normal => N e' h' | x => X x e' h'
theorem wp_mono {c : Code} {e : Env} {h : AH} {N N' : Env → AH → Prop} {X X' : AEx → Env → AH → Prop} (hw : wp P c e h N X) (hN : ∀ e h, N e h → N' e h) (hX : ∀ x e h, X x e h → X' x e h) : wp P c e h N' X' := by
 obtain ⟨x, e', h', hr, hq⟩ := hw
 refine ⟨x, e', h', hr, ?_⟩
 cases x <;> first | exact hN _ _ hq | exact hX _ _ _ hq
theorem wp_skip {e : Env} {h : AH} {N : Env → AH → Prop} {X : AEx → Env → AH → Prop} (hN : N e h) : wp P .skip e h N X := ⟨.normal, e, h, ⟨1, rfl⟩, hN⟩
theorem wp_label {l : Nat} {e : Env} {h : AH} {N : Env → AH → Prop} {X : AEx → Env → AH → Prop} (hN : N e h) : wp P (.label l) e h N X := ⟨.normal, e, h, ⟨1, rfl⟩, hN⟩
theorem wp_exit {i : Nat} {e : Env} {h : AH} {N : Env → AH → Prop} {X : AEx → Env → AH → Prop} (hX : X (.exit i) e h) : wp P (.exit i) e h N X := ⟨.exit i, e, h, ⟨1, rfl⟩, hX⟩
theorem wp_goto {i : Nat} {e : Env} {h : AH} {N : Env → AH → Prop} {X : AEx → Env → AH → Prop} (hX : X (.goto i) e h) : wp P (.goto i) e h N X := ⟨.goto i, e, h, ⟨1, rfl⟩, hX⟩
theorem wp_ret {e : Env} {h : AH} {N : Env → AH → Prop} {X : AEx → Env → AH → Prop} (hX : X .ret e h) : wp P .ret e h N X := ⟨.ret, e, h, ⟨1, rfl⟩, hX⟩
theorem wp_seq {a b : Code} {e : Env} {h : AH} {N : Env → AH → Prop} {X : AEx → Env → AH → Prop} (hw : wp P a e h (fun e h => wp P b e h N X) X) : wp P (.seq a b) e h N X := by
 obtain ⟨x, e1, h1, ⟨n, hn⟩, hq⟩ := hw
 cases x with
 | normal =>
  obtain ⟨y, e2, h2, ⟨m, hm⟩, hq2⟩ := hq
  refine ⟨y, e2, h2, ⟨max n m + 1, ?_⟩, hq2⟩
  simp only [aCode]
  rw [aCode_mono (CLe.refl _) n (max n m) (Nat.le_max_left _ _) _ _ _ _ hn]
  exact aCode_mono (CLe.refl _) m (max n m) (Nat.le_max_right _ _) _ _ _ _ hm
 | exit i => exact ⟨.exit i, e1, h1, ⟨n + 1, by simp only [aCode]; rw [hn]⟩, hq⟩
 | goto i => exact ⟨.goto i, e1, h1, ⟨n + 1, by simp only [aCode]; rw [hn]⟩, hq⟩
 | ret => exact ⟨.ret, e1, h1, ⟨n + 1, by simp only [aCode]; rw [hn]⟩, hq⟩
theorem wp_cond {x : Operand} {a b : Code} {t : Bool} {e : Env} {h : AH} {N : Env → AH → Prop} {X : AEx → Env → AH → Prop} (hx : e.ev x = .bool t) (h1 : t = true → wp P a e h N X) (h2 : t = false → wp P b e h N X) : wp P (.cond x a b) e h N X := by
 have hw : wp P (if t then a else b) e h N X := by cases t <;> first | exact h1 rfl | exact h2 rfl
 obtain ⟨x', e1, h1, ⟨n, hn⟩, hq⟩ := hw
 refine ⟨x', e1, h1, ⟨n + 1, ?_⟩, hq⟩
 simp only [aCode, hx]
 exact hn
theorem wp_block {i : Nat} {c : Code} {e : Env} {h : AH} {N : Env → AH → Prop} {X : AEx → Env → AH → Prop} (hw : wp P c e h N (fun x e h => match x with | .exit j => if j = i then N e h else X (.exit j) e h | x => X x e h)) : wp P (.block i c) e h N X := by
 obtain ⟨x, e1, h1, ⟨n, hn⟩, hq⟩ := hw
 cases x with
 | normal => exact ⟨.normal, e1, h1, ⟨n + 1, by simp only [aCode]; rw [hn]⟩, hq⟩
 | exit j =>
  simp only at hq
  by_cases hj : j = i
  ·rw [if_pos hj] at hq
   exact ⟨.normal, e1, h1, ⟨n + 1, by simp only [aCode]; rw [hn]; simp only [if_pos hj]⟩, hq⟩
  ·rw [if_neg hj] at hq
   exact ⟨.exit j, e1, h1, ⟨n + 1, by simp only [aCode]; rw [hn]; simp only [if_neg hj]⟩, hq⟩
 | goto j => exact ⟨.goto j, e1, h1, ⟨n + 1, by simp only [aCode]; rw [hn]⟩, hq⟩
 | ret => exact ⟨.ret, e1, h1, ⟨n + 1, by simp only [aCode]; rw [hn]⟩, hq⟩
theorem runs_loop_step {c : Code} {e e1 : Env} {h h1 : AH} {r} (h1' : Runs P c e h (.normal, e1, h1)) (h2 : Runs P (.loop c) e1 h1 r) : Runs P (.loop c) e h r := by
 obtain ⟨n, hn⟩ := h1'
 obtain ⟨m, hm⟩ := h2
 cases m with
 | zero => cases hm
 | succ m =>
  have hm' : aLoop (aCode P (callI P) m c) m e1 h1 = some r := hm
  have hn' := aCode_mono (CLe.refl _) n (max n m + 1) (by omega) _ _ _ _ hn
  have hm2 := aLoop_mono (fun e h r q => aCode_mono (CLe.refl (callI P)) m (max n m + 1) (by omega) _ _ _ _ q) m (max n m) (Nat.le_max_right _ _) _ _ _ hm'
  refine ⟨max n m + 2, ?_⟩
  show aLoop (aCode P (callI P) (max n m + 1) c) (max n m + 1) e h = some r
  rw [aLoop, hn']
  exact hm2
theorem runs_loop_end {c : Code} {e e1 : Env} {h h1 : AH} {x : AEx} (hx : x ≠ .normal) (h1' : Runs P c e h (x, e1, h1)) : Runs P (.loop c) e h (x, e1, h1) := by
 obtain ⟨n, hn⟩ := h1'
 refine ⟨n + 2, ?_⟩
 show aLoop (aCode P (callI P) (n + 1) c) (n + 1) e h = _
 rw [aLoop, aCode_mono (CLe.refl _) n (n + 1) (by omega) _ _ _ _ hn]
 cases x <;> first | rfl | exact absurd rfl hx
theorem wp_loop {c : Code} {X : AEx → Env → AH → Prop} {N : Env → AH → Prop} (I : Nat → Env → AH → Prop) (hI : ∀ m e h, I m e h → wp P c e h (fun e' h' => ∃ k, k < m ∧ I k e' h') X) : ∀ (m : Nat) (e : Env) (h : AH), I m e h → wp P (.loop c) e h N X := by
 intro m
 induction m using Nat.strongRecOn with
 | ind m ih =>
  intro e h hi
  obtain ⟨x, e1, h1, hr, hq⟩ := hI m e h hi
  cases x with
  | normal =>
   obtain ⟨k, hk, hi'⟩ := hq
   obtain ⟨y, e2, h2, hr2, hq2⟩ := ih k hk e1 h1 hi'
   exact ⟨y, e2, h2, runs_loop_step hr hr2, hq2⟩
  | exit i => exact ⟨.exit i, e1, h1, runs_loop_end (by simp) hr, hq⟩
  | goto i => exact ⟨.goto i, e1, h1, runs_loop_end (by simp) hr, hq⟩
  | ret => exact ⟨.ret, e1, h1, runs_loop_end (by simp) hr, hq⟩
def wpJ (P : Program) (c cur : Code) (e : Env) (h : AH) (N : Env → AH → Prop) (X : AEx → Env → AH → Prop) : Prop :=
 ∃ x e' h', (∃ n, aJump (aCode P (callI P) n) c n cur e h = some (x, e', h')) ∧ match x with | .normal => N e' h' | x => X x e' h'
theorem wp_scope {c : Code} {e : Env} {h : AH} {N : Env → AH → Prop} {X : AEx → Env → AH → Prop} (hw : wpJ P c c e h N X) : wp P (.scope c) e h N X := by
 obtain ⟨x, e', h', ⟨n, hn⟩, hq⟩ := hw
 exact ⟨x, e', h', ⟨n + 1, hn⟩, hq⟩
theorem wpJ_step {c cur : Code} {e : Env} {h : AH} {N : Env → AH → Prop} {X : AEx → Env → AH → Prop}
  (hw : wp P cur e h N (fun x e h => match x with | .goto l => (match findLabel c l with | some rest => wpJ P c rest e h N X | none => X (.goto l) e h) | x => X x e h)) : wpJ P c cur e h N X := by
 obtain ⟨x, e1, h1, ⟨n, hn⟩, hq⟩ := hw
 cases x with
 | normal => exact ⟨.normal, e1, h1, ⟨n + 1, by rw [aJump, aCode_mono (CLe.refl _) n (n + 1) (by omega) _ _ _ _ hn]⟩, hq⟩
 | exit i => exact ⟨.exit i, e1, h1, ⟨n + 1, by rw [aJump, aCode_mono (CLe.refl _) n (n + 1) (by omega) _ _ _ _ hn]⟩, hq⟩
 | ret => exact ⟨.ret, e1, h1, ⟨n + 1, by rw [aJump, aCode_mono (CLe.refl _) n (n + 1) (by omega) _ _ _ _ hn]⟩, hq⟩
 | goto l =>
  simp only at hq
  cases hl : findLabel c l with
  | none =>
   rw [hl] at hq
   exact ⟨.goto l, e1, h1, ⟨n + 1, by rw [aJump, aCode_mono (CLe.refl _) n (n + 1) (by omega) _ _ _ _ hn]; simp only [hl]⟩, hq⟩
  | some rest =>
   rw [hl] at hq
   obtain ⟨y, e2, h2, ⟨m, hm⟩, hq2⟩ := hq
   refine ⟨y, e2, h2, ⟨max n m + 1, ?_⟩, hq2⟩
   rw [aJump, aCode_mono (CLe.refl _) n (max n m + 1) (by omega) _ _ _ _ hn]
   simp only [hl]
   exact aJump_mono (fun c e h r q => aCode_mono (CLe.refl _) m (max n m + 1) (by omega) _ _ _ _ q) c m (max n m) (by omega) _ _ _ _ hm
def wpO (P : Program) (ops : Array Oper) : List Oper → Env → AH → (Env → AH → Prop) → Prop
 | [], e, h, K => K e h
 | o :: os, e, h, K => if aWanted ops e o then ∃ v h', aOp P (callI P) e.ev o.op h = some (v, h') ∧ wpO P ops os (e.put o.dst v) h' K else wpO P ops os (e.put o.dst undef) h K
theorem wpO_run {ops : Array Oper} : ∀ (os : List Oper) {e : Env} {h : AH} {K : Env → AH → Prop}, wpO P ops os e h K → ∃ e' h', aOps P (callI P) ops os e h = some (e', h') ∧ K e' h' := by
 intro os
 induction os with
 | nil => intro e h K hk; exact ⟨e, h, rfl, hk⟩
 | cons o os ih =>
  intro e h K hk
  simp only [wpO] at hk
  simp only [aOps]
  split at hk
  ·rename_i hw
   rw [if_pos hw]
   obtain ⟨v, h', ho, hk⟩ := hk
   rw [ho]
   exact ih hk
  ·rename_i hw
   rw [if_neg hw]
   exact ih hk
theorem wp_region {i : Nat} {ops : Array Oper} {e : Env} {h : AH} {N : Env → AH → Prop} {X : AEx → Env → AH → Prop} (hw : wpO P ops ops.toList e h N) : wp P (.region i ops false) e h N X := by
 obtain ⟨e', h', hr, hq⟩ := wpO_run _ hw
 exact ⟨.normal, e', h', ⟨1, by simp only [aCode]; rw [hr]; rfl⟩, hq⟩
def KeepH (h h' : AH) : Prop := h.next ≤ h'.next ∧ (∀ b, b < h.next → h'.blk b = h.blk b) ∧ (∀ x, x ≤ h.low → x ≤ h.next → x ≤ h'.low)
theorem KeepH.refl (h : AH) : KeepH h h := ⟨Nat.le_refl _, fun _ _ => rfl, fun _ q _ => q⟩
theorem KeepH.trans {a b c : AH} (h : KeepH a b) (k : KeepH b c) : KeepH a c :=
 ⟨Nat.le_trans h.1 k.1, fun x hx => (k.2.1 x (Nat.lt_of_lt_of_le hx h.1)).trans (h.2.1 x hx), fun x q r => k.2.2 x (h.2.2 x q r) (Nat.le_trans r h.1)⟩
theorem callI_intro {f : FuncId} {fn : Func} {c : Code} {args : List Value} {h : AH} {Q : Value → AH → Prop} (hf : P.funcs[f]? = some fn) (hb : fn.body = some c) (hn : args.length ≤ fn.ntmps)
  (hw : wp P c (Env.ofArgs 0 args .nil) { h with low := h.next } (fun e h1 => ∃ v, aResults P fn.results.toList e h1 = some v ∧ Q v (aLeave (scalarFn P fn) h v h1).2)
   (fun x e h1 => x = .ret ∧ ∃ v, aResults P fn.results.toList e h1 = some v ∧ Q v (aLeave (scalarFn P fn) h v h1).2)) :
  ∃ v h', callI P f args h = some (v, h') ∧ Q v h' := by
 obtain ⟨x, e, h1, ⟨n, hn'⟩, hq⟩ := hw
 obtain ⟨k, hk⟩ := aCode_lim n _ _ _ _ hn'
 have hk2 := aCode_mono (lev_le (Nat.le_max_left k n)) n (max k n) (Nat.le_max_right k n) _ _ _ _ hk
 have main : ∀ v, (x = .normal ∨ x = .ret) → aResults P fn.results.toList e h1 = some v → callI P f args h = some (v, (aLeave (scalarFn P fn) h v h1).2) := by
  intro v hx hv
  refine callI_of (k := max k n + 1) ?_
  have hno : noOv f args h = none := rfl
  rw [aCall, hno]
  simp only [hf, hb, Option.bind_some, if_pos hn]
  unfold lev at hk2
  rw [hk2]
  have hfst : (v, (aLeave (scalarFn P fn) h v h1).2) = aLeave (scalarFn P fn) h v h1 := by unfold aLeave; split <;> rfl
  rw [hfst]
  rcases hx with rfl | rfl <;> simp only [hv, Option.map_some]
 cases x with
 | normal => obtain ⟨v, hv, hq⟩ := hq; exact ⟨_, _, main v (.inl rfl) hv, hq⟩
 | exit i => exact absurd hq.1 (by simp)
 | goto i => exact absurd hq.1 (by simp)
 | ret => obtain ⟨_, v, hv, hq⟩ := hq; exact ⟨_, _, main v (.inr rfl) hv, hq⟩
theorem callI_pure {f : FuncId} {args : List Value} {h : AH} {v : Value} (hw : ∃ v' h', callI P f args h = some (v', h') ∧ (v' = v ∧ h' = h)) : callI P f args h = some (v, h) := by
 obtain ⟨v', h', h1, rfl, rfl⟩ := hw
 exact h1
end
end Go.Proofs.Ytahcngeimlkcgaa.Am
