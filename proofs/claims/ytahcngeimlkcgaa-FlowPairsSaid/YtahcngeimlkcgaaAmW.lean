/- The abstract machine without rounds: what it answers with enough of them; runs of code told backwards. -/
import Derived.Test.YtahcngeimlkcgaaAmU
namespace Go.Proofs.Ytahcngeimlkcgaa.Am
open Go
set_option linter.unusedVariables false
set_option linter.unusedSectionVars false
set_option linter.unusedSimpArgs false
def CLe (c1 c2 : ACallee) : Prop := ∀ f a h r, c1 f a h = some r → c2 f a h = some r
theorem CLe.refl (c : ACallee) : CLe c c := fun _ _ _ _ h => h
theorem CLe.trans {a b c : ACallee} (h : CLe a b) (k : CLe b c) : CLe a c := fun _ _ _ _ q => k _ _ _ _ (h _ _ _ _ q)
section
variable {P : Program} {c1 c2 : ACallee}
theorem aOp_mono (hc : CLe c1 c2) {ev : Operand → Value} {op : Op} {h : AH} {r : Value × AH} (hr : aOp P c1 ev op h = some r) : aOp P c2 ev op h = some r := by
 cases op with
 | call c =>
  simp only [aOp] at hr ⊢
  cases hcal : c.callee with
  | builtin b => rw [hcal] at hr; exact hr
  | value f =>
   rw [hcal] at hr
   simp only at hr ⊢
   split at hr
   ·rename_i g first captured hev
    exact hc _ _ _ _ hr
   ·cases hr
  | invoke a b => rw [hcal] at hr; cases hr
 | makeFunc fn first captured => cases fn <;> exact hr
 | _ => exact hr
theorem aOps_mono (hc : CLe c1 c2) {ops : Array Oper} : ∀ (os : List Oper) {e : Env} {h : AH} {r : Env × AH}, aOps P c1 ops os e h = some r → aOps P c2 ops os e h = some r := by
 intro os
 induction os with
 | nil => intro e h r hr; exact hr
 | cons o os ih =>
  intro e h r hr
  simp only [aOps] at hr ⊢
  split at hr
  ·rename_i hw
   rw [if_pos hw]
   cases ho : aOp P c1 e.ev o.op h with
   | none => rw [ho] at hr; cases hr
   | some x =>
    rw [ho] at hr
    rw [aOp_mono hc ho]
    exact ih hr
  ·rename_i hw
   rw [if_neg hw]
   exact ih hr
theorem aDrawOp_mono (hc : CLe c1 c2) {ops : List Oper} {base i : Nat} {o : Oper} {s s' : DSt} (hr : aDrawOp P c1 ops base i o s = some s') : aDrawOp P c2 ops base i o s = some s' := by
 unfold aDrawOp at hr ⊢
 cases hcls : cls P o.op with
 | pure =>
  rw [hcls] at hr
  simp only at hr ⊢
  cases ho : aOp P c1 s.e.ev o.op s.h with
  | none => rw [ho] at hr; cases hr
  | some x => rw [ho] at hr; rw [aOp_mono hc ho]; exact hr
 | look => rw [hcls] at hr; exact hr
 | fresh => rw [hcls] at hr; exact hr
 | make =>
  rw [hcls] at hr
  simp only at hr ⊢
  cases ho : aOp P c1 s.e.ev o.op { s.h with low := s.h.next } with
  | none => rw [ho] at hr; cases hr
  | some x => rw [ho] at hr; rw [aOp_mono hc ho]; exact hr
theorem aDraw_mono (hc : CLe c1 c2) {ops : Array Oper} {base : Nat} : ∀ (os : List Oper) {i : Nat} {s s' : DSt}, aDraw P c1 ops base i os s = some s' → aDraw P c2 ops base i os s = some s' := by
 intro os
 induction os with
 | nil => intro i s s' hr; exact hr
 | cons o os ih =>
  intro i s s' hr
  simp only [aDraw] at hr ⊢
  split at hr
  ·rename_i hw
   rw [if_pos hw]
   cases ho : aDrawOp P c1 ops.toList base i o s with
   | none => rw [ho] at hr; cases hr
   | some x =>
    rw [ho] at hr
    rw [aDrawOp_mono hc ho]
    exact ih hr
  ·rename_i hw
   rw [if_neg hw]
   exact ih hr
theorem aRegionD_mono (hc : CLe c1 c2) {ops : Array Oper} {e : Env} {h : AH} {r : Env × AH} (hr : aRegionD P c1 ops e h = some r) : aRegionD P c2 ops e h = some r := by
 unfold aRegionD at hr ⊢
 cases ho : aDraw P c1 ops h.next 0 ops.toList ⟨e, { h with next := h.next + ops.size }, [], []⟩ with
 | none => rw [ho] at hr; cases hr
 | some x => rw [ho] at hr; rw [aDraw_mono hc _ ho]; exact hr
theorem aLoop_mono {b1 b2 : Env → AH → ARes} (hb : ∀ e h r, b1 e h = some r → b2 e h = some r) : ∀ (n m : Nat), n ≤ m → ∀ (e : Env) (h : AH) (r), aLoop b1 n e h = some r → aLoop b2 m e h = some r := by
 intro n
 induction n with
 | zero => intro m _ e h r hr; cases hr
 | succ n ih =>
  intro m hm e h r hr
  obtain ⟨m, rfl⟩ : ∃ k, m = k + 1 := ⟨m - 1, by omega⟩
  simp only [aLoop] at hr ⊢
  cases hx : b1 e h with
  | none => rw [hx] at hr; cases hr
  | some x =>
   rw [hx] at hr
   rw [hb _ _ _ hx]
   obtain ⟨x, e', h'⟩ := x
   cases x with
   | normal => exact ih m (by omega) _ _ _ hr
   | exit i => exact hr
   | goto l => exact hr
   | ret => exact hr
theorem aJump_mono {b1 b2 : Code → Env → AH → ARes} (hb : ∀ c e h r, b1 c e h = some r → b2 c e h = some r) (c : Code) : ∀ (n m : Nat), n ≤ m → ∀ (cur : Code) (e : Env) (h : AH) (r), aJump b1 c n cur e h = some r → aJump b2 c m cur e h = some r := by
 intro n
 induction n with
 | zero => intro m _ cur e h r hr; cases hr
 | succ n ih =>
  intro m hm cur e h r hr
  obtain ⟨m, rfl⟩ : ∃ k, m = k + 1 := ⟨m - 1, by omega⟩
  simp only [aJump] at hr ⊢
  cases hx : b1 cur e h with
  | none => rw [hx] at hr; cases hr
  | some x =>
   rw [hx] at hr
   rw [hb _ _ _ _ hx]
   obtain ⟨x, e', h'⟩ := x
   cases x with
   | normal => exact hr
   | exit i => exact hr
   | goto l =>
    simp only at hr ⊢
    split at hr
    ·exact ih m (by omega) _ _ _ _ hr
    ·exact hr
   | ret => exact hr
theorem aCode_mono (hc : CLe c1 c2) : ∀ (n m : Nat), n ≤ m → ∀ (c : Code) (e : Env) (h : AH) (r), aCode P c1 n c e h = some r → aCode P c2 m c e h = some r := by
 intro n
 induction n with
 | zero => intro m _ c e h r hr; cases hr
 | succ n ih =>
  intro m hm c e h r hr
  obtain ⟨m, rfl⟩ : ∃ k, m = k + 1 := ⟨m - 1, by omega⟩
  have hnm : n ≤ m := by omega
  cases c with
  | region a ops d =>
   cases d with
   | false =>
    simp only [aCode] at hr ⊢
    cases ho : aOps P c1 ops ops.toList e h with
    | none => rw [ho] at hr; cases hr
    | some x => rw [ho] at hr; rw [aOps_mono hc _ ho]; exact hr
   | true =>
    simp only [aCode] at hr ⊢
    cases ho : aRegionD P c1 ops e h with
    | none => rw [ho] at hr; cases hr
    | some x => rw [ho] at hr; rw [aRegionD_mono hc ho]; exact hr
  | seq a b =>
   simp only [aCode] at hr ⊢
   cases hx : aCode P c1 n a e h with
   | none => rw [hx] at hr; cases hr
   | some x =>
    rw [hx] at hr
    rw [ih m hnm _ _ _ _ hx]
    obtain ⟨x, e', h'⟩ := x
    cases x with
    | normal => exact ih m hnm _ _ _ _ hr
    | exit i => exact hr
    | goto l => exact hr
    | ret => exact hr
  | cond x a b =>
   simp only [aCode] at hr ⊢
   split at hr
   ·exact ih m hnm _ _ _ _ hr
   ·cases hr
  | block id c =>
   simp only [aCode] at hr ⊢
   cases hx : aCode P c1 n c e h with
   | none => rw [hx] at hr; cases hr
   | some x => rw [hx] at hr; rw [ih m hnm _ _ _ _ hx]; exact hr
  | loop c =>
   simp only [aCode] at hr ⊢
   exact aLoop_mono (fun e h r q => ih m hnm _ _ _ _ q) n m hnm _ _ _ hr
  | scope c =>
   simp only [aCode] at hr ⊢
   exact aJump_mono (fun cur e h r q => ih m hnm _ _ _ _ q) c n m hnm _ _ _ _ hr
  | skip => exact hr
  | label l => exact hr
  | exit id => exact hr
  | goto l => exact hr
  | ret => exact hr
  | _ => cases hr
theorem aCall_succ (ov : ACallee) : ∀ (k : Nat), CLe (aCall P ov k) (aCall P ov (k + 1)) := by
 intro k
 induction k with
 | zero => intro f a h r hr; simp only [aCall] at hr; rw [aCall, hr]
 | succ k ih =>
  intro f a h r hr
  rw [aCall] at hr ⊢
  cases ho : ov f a h with
  | some x => rw [ho] at hr; exact hr
  | none =>
   rw [ho] at hr
   simp only at hr ⊢
   cases hf : P.funcs[f]? with
   | none => rw [hf] at hr; cases hr
   | some fn =>
    rw [hf] at hr
    simp only [Option.bind_some] at hr ⊢
    cases hb : fn.body with
    | none => rw [hb] at hr; cases hr
    | some c =>
     rw [hb] at hr
     simp only [Option.bind_some] at hr ⊢
     split at hr
     ·rename_i hl
      rw [if_pos hl]
      cases hx : aCode P (aCall P ov k) k c (Env.ofArgs 0 a .nil) { h with low := h.next } with
      | none => rw [hx] at hr; cases hr
      | some x => rw [hx] at hr; rw [aCode_mono ih k (k + 1) (by omega) _ _ _ _ hx]; exact hr
     ·cases hr
theorem aCall_mono (ov : ACallee) {k m : Nat} (h : k ≤ m) : CLe (aCall P ov k) (aCall P ov m) := by
 induction h with
 | refl => exact CLe.refl _
 | step _ ih => exact ih.trans (aCall_succ ov _)
end
open Classical in
noncomputable def callI (P : Program) : ACallee := fun f a h => if H : ∃ r, ∃ k, aCall P noOv k f a h = some r then some H.choose else none
section
variable {P : Program}
theorem callI_of {k : Nat} {f : FuncId} {a : List Value} {h : AH} {r : Value × AH} (hr : aCall P noOv k f a h = some r) : callI P f a h = some r := by
 unfold callI
 have H : ∃ r, ∃ k, aCall P noOv k f a h = some r := ⟨r, k, hr⟩
 rw [dif_pos H]
 obtain ⟨k', hk'⟩ := H.choose_spec
 have h1 := aCall_mono (P := P) noOv (Nat.le_max_left k k') _ _ _ _ hr
 have h2 := aCall_mono (P := P) noOv (Nat.le_max_right k k') _ _ _ _ hk'
 rw [h1] at h2
 exact h2.symm
theorem of_callI {f : FuncId} {a : List Value} {h : AH} {r : Value × AH} (hr : callI P f a h = some r) : ∃ k, aCall P noOv k f a h = some r := by
 unfold callI at hr
 split at hr
 ·rename_i H
  obtain ⟨k, hk⟩ := H.choose_spec
  simp only [Option.some.injEq] at hr
  rw [hr] at hk
  exact ⟨k, hk⟩
 ·cases hr
abbrev lev (P : Program) (k : Nat) : ACallee := aCall P noOv k
theorem aOp_lim {ev : Operand → Value} {op : Op} {h : AH} {r : Value × AH} (hr : aOp P (callI P) ev op h = some r) : ∃ k, aOp P (lev P k) ev op h = some r := by
 cases op with
 | call c =>
  simp only [aOp] at hr ⊢
  cases hcal : c.callee with
  | builtin b => rw [hcal] at hr; exact ⟨0, hr⟩
  | value f =>
   rw [hcal] at hr
   simp only at hr ⊢
   split at hr
   ·rename_i g first captured hev
    exact of_callI hr
   ·cases hr
  | invoke a b => rw [hcal] at hr; cases hr
 | makeFunc fn first captured => cases fn <;> exact ⟨0, hr⟩
 | _ => exact ⟨0, hr⟩
theorem lev_le {k m : Nat} (h : k ≤ m) : CLe (lev P k) (lev P m) := aCall_mono _ h
theorem aOps_lim {ops : Array Oper} : ∀ (os : List Oper) {e : Env} {h : AH} {r : Env × AH}, aOps P (callI P) ops os e h = some r → ∃ k, aOps P (lev P k) ops os e h = some r := by
 intro os
 induction os with
 | nil => intro e h r hr; exact ⟨0, hr⟩
 | cons o os ih =>
  intro e h r hr
  simp only [aOps] at hr ⊢
  split at hr
  ·rename_i hw
   cases ho : aOp P (callI P) e.ev o.op h with
   | none => rw [ho] at hr; cases hr
   | some x =>
    rw [ho] at hr
    obtain ⟨k1, h1⟩ := aOp_lim ho
    obtain ⟨k2, h2⟩ := ih hr
    refine ⟨max k1 k2, ?_⟩
    rw [if_pos hw, aOp_mono (lev_le (Nat.le_max_left k1 k2)) h1]
    exact aOps_mono (lev_le (Nat.le_max_right k1 k2)) _ h2
  ·rename_i hw
   obtain ⟨k2, h2⟩ := ih hr
   exact ⟨k2, by rw [if_neg hw]; exact h2⟩
theorem aDrawOp_lim {ops : List Oper} {base i : Nat} {o : Oper} {s s' : DSt} (hr : aDrawOp P (callI P) ops base i o s = some s') : ∃ k, aDrawOp P (lev P k) ops base i o s = some s' := by
 unfold aDrawOp at hr ⊢
 cases hcls : cls P o.op with
 | pure =>
  rw [hcls] at hr
  simp only at hr ⊢
  cases ho : aOp P (callI P) s.e.ev o.op s.h with
  | none => rw [ho] at hr; cases hr
  | some x =>
   rw [ho] at hr
   obtain ⟨k, hk⟩ := aOp_lim ho
   exact ⟨k, by rw [hk]; exact hr⟩
 | look => rw [hcls] at hr; exact ⟨0, hr⟩
 | fresh => rw [hcls] at hr; exact ⟨0, hr⟩
 | make =>
  rw [hcls] at hr
  simp only at hr ⊢
  cases ho : aOp P (callI P) s.e.ev o.op { s.h with low := s.h.next } with
  | none => rw [ho] at hr; cases hr
  | some x =>
   rw [ho] at hr
   obtain ⟨k, hk⟩ := aOp_lim ho
   exact ⟨k, by rw [hk]; exact hr⟩
theorem aDraw_lim {ops : Array Oper} {base : Nat} : ∀ (os : List Oper) {i : Nat} {s s' : DSt}, aDraw P (callI P) ops base i os s = some s' → ∃ k, aDraw P (lev P k) ops base i os s = some s' := by
 intro os
 induction os with
 | nil => intro i s s' hr; exact ⟨0, hr⟩
 | cons o os ih =>
  intro i s s' hr
  simp only [aDraw] at hr ⊢
  split at hr
  ·rename_i hw
   cases ho : aDrawOp P (callI P) ops.toList base i o s with
   | none => rw [ho] at hr; cases hr
   | some x =>
    rw [ho] at hr
    obtain ⟨k1, h1⟩ := aDrawOp_lim ho
    obtain ⟨k2, h2⟩ := ih hr
    refine ⟨max k1 k2, ?_⟩
    rw [if_pos hw, aDrawOp_mono (lev_le (Nat.le_max_left k1 k2)) h1]
    exact aDraw_mono (lev_le (Nat.le_max_right k1 k2)) _ h2
  ·rename_i hw
   obtain ⟨k2, h2⟩ := ih hr
   exact ⟨k2, by rw [if_neg hw]; exact h2⟩
theorem aRegionD_lim {ops : Array Oper} {e : Env} {h : AH} {r : Env × AH} (hr : aRegionD P (callI P) ops e h = some r) : ∃ k, aRegionD P (lev P k) ops e h = some r := by
 unfold aRegionD at hr ⊢
 cases ho : aDraw P (callI P) ops h.next 0 ops.toList ⟨e, { h with next := h.next + ops.size }, [], []⟩ with
 | none => rw [ho] at hr; cases hr
 | some x =>
  rw [ho] at hr
  obtain ⟨k, hk⟩ := aDraw_lim _ ho
  exact ⟨k, by rw [hk]; exact hr⟩
theorem aLoop_lim {b : Nat → Env → AH → ARes} {bI : Env → AH → ARes} (hm : ∀ k m, k ≤ m → ∀ e h r, b k e h = some r → b m e h = some r) (hb : ∀ e h r, bI e h = some r → ∃ k, b k e h = some r) : ∀ (n : Nat) (e : Env) (h : AH) (r), aLoop bI n e h = some r → ∃ k, aLoop (b k) n e h = some r := by
 intro n
 induction n with
 | zero => intro e h r hr; cases hr
 | succ n ih =>
  intro e h r hr
  simp only [aLoop] at hr ⊢
  cases hx : bI e h with
  | none => rw [hx] at hr; cases hr
  | some x =>
   rw [hx] at hr
   obtain ⟨k1, h1⟩ := hb _ _ _ hx
   obtain ⟨x, e', h'⟩ := x
   cases x with
   | normal =>
    obtain ⟨k2, h2⟩ := ih _ _ _ hr
    refine ⟨max k1 k2, ?_⟩
    rw [hm _ _ (Nat.le_max_left k1 k2) _ _ _ h1]
    exact aLoop_mono (hm _ _ (Nat.le_max_right k1 k2)) n n (Nat.le_refl _) _ _ _ h2
   | exit i => exact ⟨k1, by rw [h1]; exact hr⟩
   | goto l => exact ⟨k1, by rw [h1]; exact hr⟩
   | ret => exact ⟨k1, by rw [h1]; exact hr⟩
theorem aJump_lim {b : Nat → Code → Env → AH → ARes} {bI : Code → Env → AH → ARes} (hm : ∀ k m, k ≤ m → ∀ c e h r, b k c e h = some r → b m c e h = some r) (hb : ∀ c e h r, bI c e h = some r → ∃ k, b k c e h = some r) (c : Code) : ∀ (n : Nat) (cur : Code) (e : Env) (h : AH) (r), aJump bI c n cur e h = some r → ∃ k, aJump (b k) c n cur e h = some r := by
 intro n
 induction n with
 | zero => intro cur e h r hr; cases hr
 | succ n ih =>
  intro cur e h r hr
  simp only [aJump] at hr ⊢
  cases hx : bI cur e h with
  | none => rw [hx] at hr; cases hr
  | some x =>
   rw [hx] at hr
   obtain ⟨k1, h1⟩ := hb _ _ _ _ hx
   obtain ⟨x, e', h'⟩ := x
   cases x with
   | normal => exact ⟨k1, by rw [h1]; exact hr⟩
   | exit i => exact ⟨k1, by rw [h1]; exact hr⟩
   | goto l =>
    simp only at hr
    cases hl : findLabel c l with
    | none => rw [hl] at hr; exact ⟨k1, by rw [h1]; simp only [hl]; exact hr⟩
    | some rest =>
     rw [hl] at hr
     obtain ⟨k2, h2⟩ := ih _ _ _ _ hr
     refine ⟨max k1 k2, ?_⟩
     rw [hm _ _ (Nat.le_max_left k1 k2) _ _ _ _ h1]
     simp only [hl]
     exact aJump_mono (hm _ _ (Nat.le_max_right k1 k2)) c n n (Nat.le_refl _) _ _ _ _ h2
   | ret => exact ⟨k1, by rw [h1]; exact hr⟩
theorem aCode_lim : ∀ (n : Nat) (c : Code) (e : Env) (h : AH) (r), aCode P (callI P) n c e h = some r → ∃ k, aCode P (lev P k) n c e h = some r := by
 intro n
 induction n with
 | zero => intro c e h r hr; cases hr
 | succ n ih =>
  intro c e h r hr
  cases c with
  | region a ops d =>
   cases d with
   | false =>
    simp only [aCode] at hr ⊢
    cases ho : aOps P (callI P) ops ops.toList e h with
    | none => rw [ho] at hr; cases hr
    | some x =>
     rw [ho] at hr
     obtain ⟨k, hk⟩ := aOps_lim _ ho
     exact ⟨k, by rw [hk]; exact hr⟩
   | true =>
    simp only [aCode] at hr ⊢
    cases ho : aRegionD P (callI P) ops e h with
    | none => rw [ho] at hr; cases hr
    | some x =>
     rw [ho] at hr
     obtain ⟨k, hk⟩ := aRegionD_lim ho
     exact ⟨k, by rw [hk]; exact hr⟩
  | seq a b =>
   simp only [aCode] at hr ⊢
   cases hx : aCode P (callI P) n a e h with
   | none => rw [hx] at hr; cases hr
   | some x =>
    rw [hx] at hr
    obtain ⟨k1, h1⟩ := ih _ _ _ _ hx
    obtain ⟨x, e', h'⟩ := x
    cases x with
    | normal =>
     obtain ⟨k2, h2⟩ := ih _ _ _ _ hr
     refine ⟨max k1 k2, ?_⟩
     rw [aCode_mono (lev_le (Nat.le_max_left k1 k2)) n n (Nat.le_refl _) _ _ _ _ h1]
     exact aCode_mono (lev_le (Nat.le_max_right k1 k2)) n n (Nat.le_refl _) _ _ _ _ h2
    | exit i => exact ⟨k1, by rw [h1]; exact hr⟩
    | goto l => exact ⟨k1, by rw [h1]; exact hr⟩
    | ret => exact ⟨k1, by rw [h1]; exact hr⟩
  | cond x a b =>
   simp only [aCode] at hr ⊢
   split at hr
   ·exact ih _ _ _ _ hr
   ·cases hr
  | block id c =>
   simp only [aCode] at hr ⊢
   cases hx : aCode P (callI P) n c e h with
   | none => rw [hx] at hr; cases hr
   | some x =>
    rw [hx] at hr
    obtain ⟨k1, h1⟩ := ih _ _ _ _ hx
    exact ⟨k1, by rw [h1]; exact hr⟩
  | loop c =>
   simp only [aCode] at hr ⊢
   exact aLoop_lim (b := fun k => aCode P (lev P k) n c) (fun k m hk e h r q => aCode_mono (lev_le hk) n n (Nat.le_refl _) _ _ _ _ q) (fun e h r q => ih _ _ _ _ q) n _ _ _ hr
  | scope c =>
   simp only [aCode] at hr ⊢
   exact aJump_lim (b := fun k => aCode P (lev P k) n) (fun k m hk c e h r q => aCode_mono (lev_le hk) n n (Nat.le_refl _) _ _ _ _ q) (fun c e h r q => ih _ _ _ _ q) c n _ _ _ _ hr
  | skip => exact ⟨0, hr⟩
  | label l => exact ⟨0, hr⟩
  | exit id => exact ⟨0, hr⟩
  | goto l => exact ⟨0, hr⟩
  | ret => exact ⟨0, hr⟩
  | _ => cases hr
end
end Go.Proofs.Ytahcngeimlkcgaa.Am
