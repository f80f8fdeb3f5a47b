/- The abstract machine: any operation, and regions in the text's order. -/
import Derived.Test.YtahcngeimlkcgaaAmJ
namespace Go.Proofs.Ytahcngeimlkcgaa.Am
open Go
variable [Marks]
set_option linter.unusedVariables false
set_option linter.unusedSectionVars false
set_option linter.unusedSimpArgs false
section
variable {P : Program} {ρ : Rho}
def Good (P : Program) (call : ACallee) : Prop := ∀ f args h v h', call f args h = some (v, h') →
 (∃ fn c, P.funcs[f]? = some fn ∧ fn.body = some c ∧ (fn.name == "runtime.NumGoroutine") = false) ∧
 ∀ (ρ : Rho) (w : World) (args' : List Value), LR ρ args args' → Sim ρ w h.blk h.next →
  Calls P f args'.toArray w fun e w' => ∃ ρ' v', e = .returned v' ∧ VR ρ' v v' ∧ Sim ρ' w' h'.blk h'.next ∧ Ext ρ h.blk h.next w ρ' h'.blk h'.next w'
theorem wp_val {o : Oper} {a : Act} {w w' : World} {v : Value} {K : Act → World → Prop} {Q : Exit → Act → World → Prop} (h : (execOp a.eval o).run P w = .ok (.value v) w') (hK : K (a.put o.dst v) w') : o.wp P a w K Q := by
 unfold Oper.wp
 rw [h]
 exact hK
theorem wp_skip' {o : Oper} {a : Act} {w w' : World} {K : Act → World → Prop} {Q : Exit → Act → World → Prop} (h : (execOp a.eval o).run P w = .ok .skip w') (hK : K (a.put o.dst undef) w') : o.wp P a w K Q := by
 unfold Oper.wp
 rw [h]
 exact hK
theorem LR.map {ev ev' : Operand → Value} : ∀ (l : List Operand), (∀ x ∈ l, VR ρ (ev x) (ev' x)) → LR ρ (l.map ev) (l.map ev') := by
 intro l
 induction l with
 | nil => intro _; exact LR.nil ρ
 | cons x l ih => intro h; exact LR.cons (h x (by simp)) (ih fun y hy => h y (by simp [hy]))
theorem LR.arr {cs cs' : Array Value} (h : LR ρ cs.toList cs'.toList) : cs.size = cs'.size ∧ ∀ (i : Nat) v v', cs[i]? = some v → cs'[i]? = some v' → VR ρ v v' :=
 ⟨by simpa using h.1, fun i v v' a b => h.2 i v v' (by simpa using a) (by simpa using b)⟩
theorem aOp_wp {call : ACallee} (hcall : Good P call) {o : Oper} {ev : Operand → Value} {a : Act} {w : World} {h h' : AH} {v : Value} (hs : Sim ρ w h.blk h.next) (hops : ∀ x ∈ o.op.operands, VR ρ (ev x) (a.eval x))
  (hop : aOp P call ev o.op h = some (v, h')) {K : Act → World → Prop} {Q : Exit → Act → World → Prop}
  (hK : ∀ ρ' v' w', VR ρ' v v' → Sim ρ' w' h'.blk h'.next → Ext ρ h.blk h.next w ρ' h'.blk h'.next w' → K (a.put o.dst v') w') : o.wp P a w K Q := by
 -- an operation without memory
 have still : ∀ (s : Sem Value) (u : Value), (∃ v', VR ρ u v' ∧ ∀ w, s.run P w = .ok v' w) → (v, h') = (u, h) → (execOp a.eval o = do pure (.value (← s))) → o.wp P a w K Q := by
  intro s u ⟨v', h1, h2⟩ he hx
  injection he with e1 e2
  subst e1; subst e2
  exact wp_val (by rw [hx]; simp [h2 w]) (hK ρ v' w h1 hs (Ext.refl _ _ _ _))
 have fresh : ∀ f, aFresh P ev o.op = some f → (v, h') = h.fresh f → o.wp P a w K Q := by
  intro f hf he
  obtain ⟨v', C, el, h1, h2, h3⟩ := fresh_run (P := P) hops hf w
  injection he with e1 e2
  subst e1; subst e2
  have hid : ρ h.next = none := by
   cases hr : ρ h.next with
   | none => rfl
   | some p => have := hs.dom _ p hr; omega
  refine wp_val h1 (hK (upd ρ h.next ⟨w.heap.size, 0, f.2.2, C.size⟩) v' _ (h3 _ _ (Rle.upd ρ _ hid) (by simp [upd])) ?_ ?_)
  ·rw [blk_fun_alloc]
   exact Sim.made (fr := (0, 0)) hs hid (Nat.lt_succ_self _) (Nat.le_succ _) h2 (by simp) (fun k hk => heap_alloc_old w _ k hk) (heap_alloc_new w _) (fun i v hv => by simpa using hv) (Nat.le_refl _) (by have := h2.1; simp at this; omega) (.inl rfl)
  ·rw [blk_fun_alloc]
   exact Ext.made hid (Nat.le_refl _) (Nat.le_succ _) rfl (by simp) (fun k hk => heap_alloc_old w _ k hk) rfl rfl rfl
 obtain ⟨dst, op, ty, pos, after, guard⟩ := o
 simp only at hops hop fresh
 cases op <;> simp only [aOp] at hop <;> try (cases hop; done)
 case move x =>
  have hx := hops x (by simp [Op.operands])
  exact still (pure (a.eval x)) (ev x) ⟨_, hx, fun w => rfl⟩ (Option.some.inj hop).symm rfl
 case assign x =>
  have hx := hops x (by simp [Op.operands])
  exact still (pure (a.eval x)) (ev x) ⟨_, hx, fun w => rfl⟩ (Option.some.inj hop).symm rfl
 case pick c x y =>
  have hc := hops c (by simp [Op.operands])
  have hx := hops x (by simp [Op.operands])
  have hy := hops y (by simp [Op.operands])
  split at hop
  ·rename_i t hct
   rw [hct] at hc
   generalize hcc : a.eval c = c' at hc
   cases hc
   injection hop with hop
   injection hop with e1 e2
   subst e1; subst e2
   refine wp_val (v := if t then a.eval x else a.eval y) (w' := w) (by simp [execOp, hcc, asBool]) (hK ρ _ w ?_ hs (Ext.refl _ _ _ _))
   cases t <;> simp [hx, hy]
  ·cases hop
 case alloc e => 
  cases hf : aAllocZ P e with
  | none => rw [hf] at hop; cases hop
  | some f => rw [hf] at hop; exact fresh f (by simpa [aFresh] using hf) (Option.some.inj hop).symm
 case box e x =>
  cases hf : aBox (ev x) with
  | none => rw [hf] at hop; cases hop
  | some f => rw [hf] at hop; exact fresh f (by simpa [aFresh] using hf) (Option.some.inj hop).symm
 case buildSlice t n ps =>
  cases hf : aBuildSlice P t n (ps.toList.map fun p => (p.1, ev p.2)) with
  | none => rw [hf] at hop; cases hop
  | some f => rw [hf] at hop; exact fresh f (by simpa [aFresh] using hf) (Option.some.inj hop).symm
 case makeSlice t l c =>
  cases hf : aMakeSlice P t (ev l) (ev c) with
  | none => rw [hf] at hop; cases hop
  | some f => rw [hf] at hop; exact fresh f (by simpa [aFresh] using hf) (Option.some.inj hop).symm
 case build t ps =>
  cases hb : aBuild P t (ps.toList.map fun p => (p.1, ev p.2)) with
  | none => rw [hb] at hop; cases hop
  | some u =>
   rw [hb] at hop
   obtain ⟨q1, q2⟩ := parts_LR (ρ := ρ) (ev := ev) (ev' := a.eval) ps (fun x hx => hops x.2 (by simp [Op.operands]; exact ⟨x.1, hx⟩))
   refine still (Instr.build t (ps.map fun (i, x) => (i, a.eval x))) u ?_ (Option.some.inj hop).symm rfl
   obtain ⟨v', r1, r2⟩ := aBuild_run (P := P) hb q1 q2
   have e : (ps.toList.map fun p => (p.1, a.eval p.2)).toArray = ps.map fun (i, x) => (i, a.eval x) := by apply Array.ext'; simp
   rw [e] at r2
   exact ⟨v', r1, r2⟩
 case load t x =>
  have hx := hops x (by simp [Op.operands])
  cases hl : aLoad P t (ev x) h with
  | none => rw [hl] at hop; cases hop
  | some u =>
   rw [hl] at hop
   injection hop with hop
   injection hop with e1 e2
   subst e1; subst e2
   obtain ⟨v', q1, q2⟩ := aLoad_run (P := P) hs hl hx
   exact wp_val (by simp [execOp, q2]) (hK ρ v' w q1 hs (Ext.refl _ _ _ _))
 case store t x y =>
  have hx := hops x (by simp [Op.operands])
  have hy := hops y (by simp [Op.operands])
  cases hl : aStore P t (ev x) (ev y) h with
  | none => rw [hl] at hop; cases hop
  | some u =>
   rw [hl] at hop
   injection hop with hop
   injection hop with e1 e2
   subst e1; subst e2
   obtain ⟨w', q1, q2, q3⟩ := aStore_run (P := P) hs hl hx hy
   exact wp_skip' (by simp [execOp, q1]) (hK ρ undef w' (VR.undef ρ) q2 q3)
 case nilCheck x =>
  have hx := hops x (by simp [Op.operands])
  split at hop
  ·rename_i ad hxe
   rw [hxe] at hx
   generalize hxx : a.eval x = x' at hx
   obtain ⟨ad', rfl, had⟩ : ∃ ad', x' = .pointer (some ad') ∧ AR ρ ad ad' := by
    cases hx with
    | ptr h => exact ⟨_, rfl, h⟩
   injection hop with hop
   injection hop with e1 e2
   subst e1; subst e2
   exact wp_val (v := .pointer (some ad')) (w' := w) (by simp [execOp, hxx]) (hK ρ _ w (.ptr had) hs (Ext.refl _ _ _ _))
  ·rename_i f fi ca hxe
   rw [hxe] at hx
   generalize hxx : a.eval x = x' at hx
   injection hop with hop
   injection hop with e1 e2
   subst e1; subst e2
   cases hx with
   | func f h1 h2 h3 h4 => exact wp_val (w' := w) (by simp only [execOp, hxx]; rfl) (hK ρ _ w (.func f h1 h2 h3 h4) hs (Ext.refl _ _ _ _))
  ·cases hop
 case binOp op t x y yt =>
  have hx := hops x (by simp [Op.operands])
  have hy := hops y (by simp [Op.operands])
  cases hb : aBin P op t (ev x) (ev y) with
  | none => rw [hb] at hop; cases hop
  | some u =>
   rw [hb] at hop
   obtain ⟨q1, q2⟩ := aBin_run (P := P) hb hx hy x y
   exact still (binRun op t x y (a.eval x) (a.eval y)) u ⟨u, q1, q2⟩ (Option.some.inj hop).symm rfl
 case unOp op t x =>
  have hx := hops x (by simp [Op.operands])
  cases hb : aUn op (ev x) with
  | none => rw [hb] at hop; cases hop
  | some u => rw [hb] at hop; exact still (Op.unary op (a.eval x)) u (aUn_run hb hx) (Option.some.inj hop).symm rfl
 case convert s d x =>
  have hx := hops x (by simp [Op.operands])
  obtain ⟨ρ', v', w', q1, q2, q3, q4⟩ := aConvert_run (P := P) hs hop hx
  exact wp_val (by simp [execOp, q1]) (hK ρ' v' w' q2 q3 q4)
 case makeInterface t x =>
  have hx := hops x (by simp [Op.operands])
  split at hop
  ·cases hop
  ·rename_i d hnd hu
   refine still (Instr.makeInterface t (a.eval x)) (.iface t (ev x)) ⟨.iface t (a.eval x), .iface t hx, fun w => ?_⟩ (Option.some.inj hop).symm rfl
   simp only [Instr.makeInterface, Sem.run_bind, run_und hu, Result.andThen_ok]
   cases d <;> first | rfl | (exact absurd rfl (hnd _))
  ·cases hop
 case makeFunc fn first captured =>
  cases fn <;> simp only at hop <;> try (cases hop; done)
  rename_i f
  refine still (Instr.makeFunc (.func f) (first.map a.eval) (captured.map a.eval)) (.func (.func f) (first.map ev) (captured.map ev)) ⟨.func (.func f) (first.map a.eval) (captured.map a.eval), ?_, fun w => rfl⟩ (Option.some.inj hop).symm rfl
  have h1 : LR ρ (first.map ev).toList (first.map a.eval).toList := by
   simp only [Array.toList_map]
   exact LR.map _ fun x hx => hops x (by simp [Op.operands]; exact .inl (by simpa using hx))
  have h2 : LR ρ (captured.map ev).toList (captured.map a.eval).toList := by
   simp only [Array.toList_map]
   exact LR.map _ fun x hx => hops x (by simp [Op.operands]; exact .inr (by simpa using hx))
  exact .func f h1.arr.1 h1.arr.2 h2.arr.1 h2.arr.2
 case slice t x lo hi mx =>
  have hx := hops x (by simp [Op.operands])
  cases hb : aSlice P t (ev x) (lo.map ev) (hi.map ev) (mx.map ev) with
  | none => rw [hb] at hop; cases hop
  | some u =>
   rw [hb] at hop
   exact still (Instr.sliceAt t (a.eval x) (lo.map a.eval) (hi.map a.eval) (mx.map a.eval)) u
    (aSlice_run hb hx (OR.map lo fun o ho => hops o (by simp [Op.operands, ho])) (OR.map hi fun o ho => hops o (by simp [Op.operands, ho])) (OR.map mx fun o ho => hops o (by simp [Op.operands, ho]))) (Option.some.inj hop).symm rfl
 case fieldAddr s x f =>
  have hx := hops x (by simp [Op.operands])
  cases hb : aField P s f (ev x) with
  | none => rw [hb] at hop; cases hop
  | some u => rw [hb] at hop; exact still (Instr.fieldAt s (a.eval x) f) u (aField_run hb hx) (Option.some.inj hop).symm rfl
 case field t x f =>
  have hx := hops x (by simp [Op.operands])
  cases hb : aFieldV P t f (ev x) with
  | none => rw [hb] at hop; cases hop
  | some u => rw [hb] at hop; exact still (Instr.field t (a.eval x) f) u (aFieldV_run hb hx) (Option.some.inj hop).symm rfl
 case indexAddr t x i =>
  have hx := hops x (by simp [Op.operands])
  have hi := hops i (by simp [Op.operands])
  cases hb : aIndexAddr P t (ev x) (ev i) with
  | none => rw [hb] at hop; cases hop
  | some u => rw [hb] at hop; exact still (Instr.indexAt t (a.eval x) (a.eval i)) u (aIndexAddr_run hb hx hi) (Option.some.inj hop).symm rfl
 case index t x i =>
  have hx := hops x (by simp [Op.operands])
  have hi := hops i (by simp [Op.operands])
  cases hb : aIndex P t (ev x) (ev i) with
  | none => rw [hb] at hop; cases hop
  | some u => rw [hb] at hop; exact still (Instr.index t (a.eval x) (a.eval i)) u (aIndex_run hb hx hi) (Option.some.inj hop).symm rfl
 case typeAssert x xt t ok =>
  have hx := hops x (by simp [Op.operands])
  cases hb : aAssert P (ev x) t ok with
  | none => rw [hb] at hop; cases hop
  | some u => rw [hb] at hop; exact still (Instr.typeAssert (a.eval x) xt t ok) u (aAssert_run hb hx) (Option.some.inj hop).symm rfl
 case extract x i =>
  have hx := hops x (by simp [Op.operands])
  split at hop
  ·rename_i vs hxe
   rw [hxe] at hx
   generalize hxx : a.eval x = x' at hx
   obtain ⟨vs', rfl, h1, h2⟩ : ∃ vs', x' = .tuple vs' ∧ vs.size = vs'.size ∧ ∀ (i : Nat) v v', vs[i]? = some v → vs'[i]? = some v' → VR ρ v v' := by
    cases hx with
    | tuple h1 h2 => exact ⟨_, rfl, h1, h2⟩
   cases hg : vs[i]? with
   | none => rw [hg] at hop; cases hop
   | some u =>
    rw [hg] at hop
    obtain ⟨u', hu1, hu2⟩ := (LR.of_arr h1 h2).get (show vs.toList[i]? = some u by simpa using hg)
    refine still (Instr.extract (a.eval x) i) u ⟨u', hu2, fun w => ?_⟩ (Option.some.inj hop).symm rfl
    have hu1' : vs'[i]? = some u' := by simpa using hu1
    simp [hxx, Instr.extract, hu1']
  ·cases hop
 case call c =>
  obtain ⟨callee, args, argTypes⟩ := c
  cases callee with
  | invoke r m => simp only at hop; cases hop
  | builtin b =>
   simp only at hop
   have hargs : LR ρ (args.toList.map ev) (args.toList.map a.eval) := LR.map _ fun x hx => hops x (by simp [Op.operands, Call.operands]; simpa using hx)
   have hmap : (args.toList.map a.eval) = (args.map a.eval).toList := by simp
   rw [hmap] at hargs
   generalize hA : args.map a.eval = A at hargs
   obtain ⟨cst, hex⟩ : ∃ cst, execOp a.eval ⟨dst, .call ⟨.builtin b, args, argTypes⟩, ty, pos, after, guard⟩ = builtin b argTypes ty cst A := by
    subst hA
    exact ⟨_, rfl⟩
   unfold aBuiltin at hop
   split at hop
   ·rename_i t tx s x hts has
    rw [has] at hargs
    obtain ⟨s', l1, hl1, hs1, hl2⟩ := hargs.cons_inv
    obtain ⟨x', l2, hl3, hx1, hl4⟩ := hl2.cons_inv
    obtain rfl := hl4.nil_inv
    subst hl3
    have hA2 : A = #[s', x'] := by apply Array.ext'; simpa using hl1
    have hT2 : argTypes = #[t, tx] := by apply Array.ext'; simpa using hts
    obtain ⟨ρ', v', w', q1, q2, q3, q4⟩ := aAppend_run (P := P) (ty := ty) hs hop hs1 hx1
    refine wp_val (v := v') (w' := w') ?_ (hK ρ' v' w' q2 q3 q4)
    rw [hex, hA2, hT2]
    simp [builtin, q1]
   ·rename_i t tx s x hts has
    rw [has] at hargs
    obtain ⟨s', l1, hl1, hs1, hl2⟩ := hargs.cons_inv
    obtain ⟨x', l2, hl3, hx1, hl4⟩ := hl2.cons_inv
    obtain rfl := hl4.nil_inv
    subst hl3
    have hA2 : A = #[s', x'] := by apply Array.ext'; simpa using hl1
    have hT2 : argTypes = #[t, tx] := by apply Array.ext'; simpa using hts
    obtain ⟨v', w', q1, q2, q3, q4⟩ := aCopy_run (P := P) (tx := tx) (ty := ty) hs hop hs1 hx1
    refine wp_val (v := v') (w' := w') ?_ (hK ρ v' w' q2 q3 q4)
    rw [hex, hA2, hT2]
    simp [builtin, q1]
   ·rename_i t ts x xs hts has
    rw [has] at hargs
    obtain ⟨x', l1, hl1, hx1, hl2⟩ := hargs.cons_inv
    cases hb : aLen P t x with
    | none => rw [hb] at hop; cases hop
    | some u =>
     rw [hb] at hop
     injection hop with hop
     injection hop with e1 e2
     subst e1; subst e2
     have ht0 : argTypes[0]? = some t := by rw [← Array.getElem?_toList, hts]; rfl
     have hA0 : A[0]? = some x' := by rw [← Array.getElem?_toList, hl1]; rfl
     obtain ⟨q1, q2⟩ := aLen_run (P := P) (ty := ty) hb hx1 ht0 hA0
     exact wp_val (v := u) (w' := w) (by rw [hex]; simp [builtin, q2 w]) (hK ρ u w q1 hs (Ext.refl _ _ _ _))
   ·rename_i ts x vs has
    rw [has] at hargs
    obtain ⟨x', l1, hl1, hx1, hl2⟩ := hargs.cons_inv
    cases hb : aMax x vs with
    | none => rw [hb] at hop; cases hop
    | some u =>
     rw [hb] at hop
     injection hop with hop
     injection hop with e1 e2
     subst e1; subst e2
     obtain ⟨kk, nn, rfl⟩ : ∃ k n, x = .int k n := by
      unfold aMax at hb
      split at hb <;> first | exact ⟨_, _, rfl⟩ | cases hb
     have hxx : x' = .int kk nn := by cases hx1; rfl
     subst hxx
     obtain ⟨q1, q2⟩ := aMax_run (P := P) _ _ _ _ hb hl2 w
     exact wp_val (v := u) (w' := w) (by rw [hex]; simp [builtin, Builtin.max_, hl1, q1]) (hK ρ u w q2 hs (Ext.refl _ _ _ _))
   ·rename_i ts x vs has
    rw [has] at hargs
    obtain ⟨x', l1, hl1, hx1, hl2⟩ := hargs.cons_inv
    cases hb : aMin x vs with
    | none => rw [hb] at hop; cases hop
    | some u =>
     rw [hb] at hop
     injection hop with hop
     injection hop with e1 e2
     subst e1; subst e2
     obtain ⟨kk, nn, rfl⟩ : ∃ k n, x = .int k n := by
      unfold aMin at hb
      split at hb <;> first | exact ⟨_, _, rfl⟩ | cases hb
     have hxx : x' = .int kk nn := by cases hx1; rfl
     subst hxx
     obtain ⟨q1, q2⟩ := aMin_run (P := P) _ _ _ _ hb hl2 w
     exact wp_val (v := u) (w' := w) (by rw [hex]; simp [builtin, Builtin.min_, hl1, q1]) (hK ρ u w q2 hs (Ext.refl _ _ _ _))
   ·cases hop
  | value f =>
   simp only at hop
   have hf := hops f (by simp [Op.operands, Call.operands])
   have hargs : LR ρ (args.toList.map ev) (args.toList.map a.eval) := LR.map _ fun x hx => hops x (by simp [Op.operands, Call.operands]; exact .inr (by simpa using hx))
   split at hop
   ·rename_i g first captured hfe
    rw [hfe] at hf
    generalize hff : a.eval f = f' at hf
    obtain ⟨first', captured', rfl, h1, h2⟩ : ∃ first' captured', f' = .func (.func g) first' captured' ∧ LR ρ first.toList first'.toList ∧ LR ρ captured.toList captured'.toList := by
     cases hf with
     | func f h1 h2 h3 h4 => exact ⟨_, _, rfl, LR.of_arr h1 h2, LR.of_arr h3 h4⟩
    obtain ⟨⟨fn, cd, hfn, hbody, hname⟩, hc⟩ := hcall _ _ _ _ _ hop
    have hC := hc ρ w (first'.toList ++ args.toList.map a.eval ++ captured'.toList) ((h1.append hargs).append h2) hs
    have hrun : (execOp a.eval ⟨dst, .call ⟨.value f, args, argTypes⟩, ty, pos, after, guard⟩).run P w = .ok (.enter g (first'.toList ++ args.toList.map a.eval ++ captured'.toList).toArray) w := by
     have he : (first' ++ args.map a.eval) ++ captured' = (first'.toList ++ args.toList.map a.eval ++ captured'.toList).toArray := by apply Array.ext'; simp
     rw [← he]
     have hn2 : ¬ fn.name = "runtime.NumGoroutine" := by simpa using hname
     simp [execOp, resolve, hff, Deferred.ofValue, invoke, callFunc, hfn, hn2, hbody]
    unfold Oper.wp
    rw [hrun]
    simp only [Oper.upon]
    refine hC.mono ?_
    rintro e w' ⟨ρ', v', rfl, q1, q2, q3⟩
    exact hK ρ' v' w' q1 q2 q3
   ·cases hop
end
end Go.Proofs.Ytahcngeimlkcgaa.Am
