/- The abstract machine: the frame, regions in the text's order, code, calls; a region that draws is taken as shown (AmN shows it). -/
import Derived.Test.YtahcngeimlkcgaaAmL
import Derived.Still
namespace Go.Proofs.Ytahcngeimlkcgaa.Am
open Go
variable [Marks]
set_option linter.unusedVariables false
set_option linter.unusedSectionVars false
set_option linter.unusedSimpArgs false
def operandOk : Operand → Bool
  | .const v => clean v
  | .global _ => false
  | _ => true
def opOk (n : Nat) (o : Oper) : Bool := (match o.dst with | some d => decide (d < n) | none => true) && o.op.operands.toList.all operandOk
def lookMask (A : Array Oper) (o : Oper) : Nat := (o.looksAt A).foldl (fun m t => Nat.lor m (Nat.shiftLeft 1 t)) 0
def apart1 (A : Array Oper) (x y : Oper) : Bool :=
  (match x.dst with
   | some d => !(lookMask A y).testBit d && (match y.dst with | some d2 => !(Nat.beq d d2) | none => true)
   | none => true) &&
  (match y.dst with
   | some d => !(lookMask A x).testBit d
   | none => true)
def apartOk (ops : List Oper) : Bool :=
  (List.range ops.length).all fun i => (List.range i).all fun j => ordered (preds ops) i j || apart1 ops.toArray (ops.getD i default) (ops.getD j default)
omit [Marks] in
theorem testBit_lor_shift (m t d : Nat) : (Nat.lor m (Nat.shiftLeft 1 t)).testBit d = (m.testBit d || decide (t = d)) := by
  have : Nat.lor m (Nat.shiftLeft 1 t) = m ||| (1 <<< t) := rfl
  rw [this, Nat.testBit_or, Nat.one_shiftLeft, Nat.testBit_two_pow]
omit [Marks] in
theorem lookMask_bit (A : Array Oper) (o : Oper) (d : Nat) (h : d ∈ o.looksAt A) : (lookMask A o).testBit d = true := by
  have key : ∀ (l : List Nat) (m : Nat), (m.testBit d = true ∨ d ∈ l) → (l.foldl (fun m t => Nat.lor m (Nat.shiftLeft 1 t)) m).testBit d = true := by
    intro l
    induction l with
    | nil => intro m h; rcases h with h | h
             · exact h
             · cases h
    | cons t l ih =>
      intro m h
      refine ih _ ?_
      rw [testBit_lor_shift]
      rcases h with h | h
      · left; simp [h]
      · rcases List.mem_cons.1 h with rfl | h
        · left; simp
        · exact .inr h
  exact key _ 0 (.inr h)
omit [Marks] in
theorem apart1_spec {A : Array Oper} {x y : Oper} (h : apart1 A x y = true) : (∀ d, x.dst = some d → d ∉ y.looksAt A) ∧ (∀ d, x.dst = some d → y.dst ≠ some d) ∧ (∀ d, y.dst = some d → d ∉ x.looksAt A) := by
  refine ⟨fun d hd hm => ?_, fun d hd he => ?_, fun d hd hm => ?_⟩
  · simp [apart1, hd, lookMask_bit A y d hm] at h
  · simp [apart1, hd, he, Nat.beq_refl] at h
  · simp only [apart1, hd, Bool.and_eq_true] at h
    have := h.2
    rw [lookMask_bit A x d hm] at this
    cases this
def backOk (ops : List Oper) : Bool := (List.range ops.length).all fun i => (ops.getD i default).after.toList.all fun e => !(Region.binds .any e) || decide (e.on < i)
def drawOk (P : Program) (ops : List Oper) : Bool := madeInOrder P ops && apartOk ops && backOk ops
def codeOk (P : Program) (n : Nat) : Code → Bool
  | .region _ ops draw => ops.toList.all (opOk n) && (!draw || drawOk P ops.toList)
  | .seq a b => codeOk P n a && codeOk P n b
  | .cond c a b => operandOk c && codeOk P n a && codeOk P n b
  | .block _ c | .loop c | .scope c => codeOk P n c
  | _ => true
def funcOk (P : Program) (fn : Func) : Bool := !(fn.name == "runtime.NumGoroutine") && (match fn.body with | some c => codeOk P fn.ntmps c | none => true)
def ProgOk (P : Program) : Prop := P.follows .mixedOrders = true ∧ P.funcs.toList.all (funcOk P) = true
theorem ProgOk.func {P : Program} (h : ProgOk P) {f : Nat} {fn : Func} (hf : P.funcs[f]? = some fn) : funcOk P fn = true :=
  List.all_eq_true.1 h.2 fn (by rw [← Array.getElem?_toList] at hf; exact List.mem_of_getElem? hf)
structure EnvR (ρ : Rho) (e : Env) (n : Nat) (a : Act) : Prop where
  size : a.tmps.size = n
  get : ∀ t, VR ρ (e.get t) ((a.tmps[t]?).getD undef)
theorem EnvR.mono {ρ ρ' : Rho} (hr : Rle ρ ρ') {e : Env} {n : Nat} {a : Act} (h : EnvR ρ e n a) : EnvR ρ' e n a := ⟨h.size, fun t => (h.get t).mono hr⟩
theorem EnvR.ev {ρ : Rho} {e : Env} {n : Nat} {a : Act} (h : EnvR ρ e n a) {x : Operand} (hx : operandOk x = true) : VR ρ (e.ev x) (a.eval x) := by
  cases x with
  | tmp t => simpa [Env.ev, Act.eval] using h.get t
  | const v => exact clean_VR ρ hx
  | global g => simp [operandOk] at hx
  | func f => exact .func f rfl (fun i v v' q => by simp at q) rfl (fun i v v' q => by simp at q)
theorem EnvR.put {ρ : Rho} {e : Env} {n : Nat} {a : Act} (h : EnvR ρ e n a) {d : Option Nat} (hd : ∀ t, d = some t → t < n) {v v' : Value} (hv : VR ρ v v') : EnvR ρ (e.put d v) n (a.put d v') := by
  cases d with
  | none => exact h
  | some d =>
    refine ⟨by simp [Act.put, h.size], fun t => ?_⟩
    have hlt : d < a.tmps.size := by rw [h.size]; exact hd d rfl
    simp only [Env.put, Act.put, Env.get_set]
    by_cases e1 : t = d
    · subst e1
      rw [if_pos rfl, Array.getElem?_setIfInBounds_self_of_lt hlt]
      exact hv
    · rw [if_neg e1, Array.getElem?_setIfInBounds_ne (Ne.symm e1)]
      exact h.get t
theorem opOk_dst {n : Nat} {o : Oper} (h : opOk n o = true) : ∀ t, o.dst = some t → t < n := by
  intro t ht
  simp only [opOk, Bool.and_eq_true] at h
  have := h.1
  rw [ht] at this
  simpa using this
theorem opOk_ops {n : Nat} {o : Oper} (h : opOk n o = true) : ∀ x ∈ o.op.operands, operandOk x = true := by
  intro x hx
  simp only [opOk, Bool.and_eq_true, List.all_eq_true] at h
  exact h.2 x (by simpa using hx)
theorem put_defers (a : Act) (d : Option Nat) (v : Value) : (a.put d v).defers = a.defers := by cases d <;> rfl
theorem yield_same {ρ : Rho} {e : Env} {n : Nat} {a : Act} (h : EnvR ρ e n a) {ops : Array Oper} (hok : ∀ o ∈ ops.toList, opOk n o = true) (j : Nat) : yielded ops a.tmps j = aYield ops e j := by
  unfold yielded aYield
  cases hj : (ops[j]?).bind (·.dst) with
  | none => rfl
  | some d =>
    have hd : d < a.tmps.size := by
      cases ho : ops[j]? with
      | none => rw [ho] at hj; cases hj
      | some o =>
        rw [ho] at hj
        rw [h.size]
        exact opOk_dst (hok o (by rw [← Array.getElem?_toList] at ho; exact List.mem_of_getElem? ho)) d hj
    have hv := h.get d
    simp only [Option.bind_some, Array.getElem?_eq_getElem hd, Option.getD_some] at hv ⊢
    generalize he : e.get d = x at hv ⊢
    generalize a.tmps[d] = y at hv ⊢
    cases hv <;> rfl
theorem wanted_same {ρ : Rho} {e : Env} {n : Nat} {a : Act} (h : EnvR ρ e n a) {ops : Array Oper} (hok : ∀ o ∈ ops.toList, opOk n o = true) (o : Oper) : Region.wanted o (yielded ops a.tmps) = aWanted ops e o := by
  unfold Region.wanted aWanted
  cases o.guard with
  | none => rfl
  | some g => obtain ⟨j, want⟩ := g; simp only [yield_same h hok]
section
variable {P : Program}
theorem aOps_wp {call : ACallee} (hcall : Good P call) {n : Nat} {ops : Array Oper} (hok : ∀ o ∈ ops.toList, opOk n o = true) {Q : Exit → Act → World → Prop} {e' : Env} {h' : AH} : ∀ (os : List Oper) (i : Nat) (e : Env) (h : AH) (a : Act) (w : World) (ρ : Rho),
    ops.toList.drop i = os → aOps P call ops os e h = some (e', h') → EnvR ρ e n a → Sim ρ w h.blk h.next →
    (∀ ρ' a' w', EnvR ρ' e' n a' → a'.defers = a.defers → Sim ρ' w' h'.blk h'.next → Ext ρ h.blk h.next w ρ' h'.blk h'.next w' → Q .normal a' w') → wpOps P ops Q (List.range' i os.length) a w := by
  intro os
  induction os with
  | nil =>
    intro i e h a w ρ hd hr he hs hQ
    simp [aOps] at hr
    obtain ⟨rfl, rfl⟩ := hr
    exact hQ ρ a w he rfl hs (Ext.refl _ _ _ _)
  | cons o os ih =>
    intro i e h a w ρ hd hr he hs hQ
    have hi : ops[i]? = some o := by
      have : (ops.toList.drop i)[0]? = some o := by rw [hd]; rfl
      rw [List.getElem?_drop] at this
      simpa using this
    have hd2 : ops.toList.drop (i + 1) = os := by
      rw [← List.drop_drop, hd]
      rfl
    have hoo : opOk n o = true := hok o (by rw [← Array.getElem?_toList] at hi; exact List.mem_of_getElem? hi)
    simp only [List.length_cons, List.range'_succ]
    rw [wpOps_cons]
    unfold wpOp
    rw [hi]
    simp only
    rw [wanted_same he hok o]
    simp only [aOps] at hr
    split at hr
    · rename_i hw
      rw [if_pos hw]
      cases hop : aOp P call e.ev o.op h with
      | none => rw [hop] at hr; cases hr
      | some r =>
        obtain ⟨v, h1⟩ := r
        rw [hop] at hr
        refine .inl (aOp_wp hcall hs (fun x hx => he.ev (opOk_ops hoo x hx)) hop fun ρ1 v' w1 q1 q2 q3 => ?_)
        exact ih (i + 1) _ _ _ w1 ρ1 hd2 hr ((he.mono q3.le).put (opOk_dst hoo) q1) q2 fun ρ2 a2 w2 r1 r2 r3 r4 => hQ ρ2 a2 w2 r1 (by rw [r2, put_defers]) r3 (q3.trans r4)
    · rename_i hw
      rw [if_neg hw]
      exact ih (i + 1) _ _ _ w ρ hd2 hr (he.put (opOk_dst hoo) (VR.undef ρ)) hs fun ρ2 a2 w2 r1 r2 r3 r4 => hQ ρ2 a2 w2 r1 (by rw [r2, put_defers]) r3 r4
def exOf : AEx → Exit
  | .normal => .normal
  | .exit i => .exit i
  | .goto l => .goto l
  | .ret => .ret
def Post (ρ : Rho) (h : AH) (w : World) (n : Nat) (a : Act) (x : AEx) (e' : Env) (h' : AH) : Exit → Act → World → Prop :=
  fun ex a' w' => ex = exOf x ∧ ∃ ρ', EnvR ρ' e' n a' ∧ a'.defers = a.defers ∧ Sim ρ' w' h'.blk h'.next ∧ Ext ρ h.blk h.next w ρ' h'.blk h'.next w'
theorem Post.trans {ρ ρ1 : Rho} {h h1 : AH} {w w1 : World} {n : Nat} {a a1 : Act} {x : AEx} {e' : Env} {h' : AH} (hd : a1.defers = a.defers) (hE : Ext ρ h.blk h.next w ρ1 h1.blk h1.next w1) {ex : Exit} {a' : Act} {w' : World} (hp : Post ρ1 h1 w1 n a1 x e' h' ex a' w') : Post ρ h w n a x e' h' ex a' w' := by
  obtain ⟨h1, ρ', q1, q2, q3, q4⟩ := hp
  exact ⟨h1, ρ', q1, q2.trans hd, q3, hE.trans q4⟩
def DrawOk (P : Program) (call : ACallee) : Prop := ∀ (n : Nat) (id : Nat) (ops : Array Oper) (e e' : Env) (h h' : AH) (ρ : Rho) (a : Act) (w : World), (∀ o ∈ ops.toList, opOk n o = true) → drawOk P ops.toList = true →
  aRegionD P call ops e h = some (e', h') → EnvR ρ e n a → Sim ρ w h.blk h.next → (∀ b, h.blk b ≠ none → b < h.next) → (Code.region id ops true).wp P (Post ρ h w n a .normal e' h') a w
def scopeRounds (P : Program) (c : Code) (Q : Exit → Act → World → Prop) : Nat → Code → Act → World → Prop
  | 0, _, _, _ => False
  | k + 1, cur, a, w => cur.wp P (fun ex a w => match ex with
      | .goto l => match findLabel c l with
        | some rest => scopeRounds P c Q k rest a w
        | none => Q (.goto l) a w
      | ex => Q ex a w) a w
theorem wp_scope_rounds {c : Code} {Q : Exit → Act → World → Prop} {a : Act} {w : World} (k : Nat) (h : scopeRounds P c Q k c a w) : (Code.scope c).wp P Q a w := by
  intro b ks cs
  have key : ∀ k cur a w, scopeRounds P c Q k cur a w → ∃ e a' w', Q e a' w' ∧ Arrives P (lone (b.at a (.code cur :: .inScope c :: ks)) cs w) b ks cs e a' w' := by
    intro k
    induction k with
    | zero => intro cur a w h; exact h.elim
    | succ k ih =>
      intro cur a w h
      obtain ⟨e, a₁, w₁, hq, harr⟩ := h b (.inScope c :: ks) cs
      cases e with
      | normal => exact ⟨.normal, a₁, w₁, hq, Steps.trans harr (.one step_inScope)⟩
      | exit id => exact ⟨.exit id, a₁, w₁, hq, fun k' hk => harr k' (by simp [exitTo, hk])⟩
      | goto l =>
        simp only at hq
        cases hf : findLabel c l with
        | none =>
          rw [hf] at hq
          exact ⟨.goto l, a₁, w₁, hq, fun k' hk => harr k' (by simp [gotoIn, hf, hk])⟩
        | some rest =>
          rw [hf] at hq
          obtain ⟨e₂, a₂, w₂, hq₂, harr₂⟩ := ih rest a₁ w₁ hq
          exact ⟨e₂, a₂, w₂, hq₂, .of_steps (harr _ (by simp [gotoIn, hf])) harr₂⟩
      | ret => exact ⟨_, a₁, w₁, hq, harr⟩
      | panic ch => exact ⟨_, a₁, w₁, hq, harr⟩
      | outgrown => exact ⟨_, a₁, w₁, hq, harr⟩
  obtain ⟨e, a', w', hq, harr⟩ := key k c a w h
  exact ⟨e, a', w', hq, .of_steps (.one step_scope) harr⟩
theorem findLabel_ok {n : Nat} : ∀ (c : Code) (l : Nat) (rest : Code), findLabel c l = some rest → codeOk P n c = true → codeOk P n rest = true := by
  intro c
  induction c with
  | seq a b iha ihb =>
    intro l rest h hok
    simp only [codeOk, Bool.and_eq_true] at hok
    simp only [findLabel] at h
    cases ha : findLabel a l with
    | some r =>
      rw [ha] at h
      simp at h; subst h
      simp only [codeOk, Bool.and_eq_true]
      exact ⟨iha l r ha hok.1, hok.2⟩
    | none => rw [ha] at h; exact ihb l rest h hok.2
  | label l' =>
    intro l rest h hok
    simp only [findLabel] at h
    split at h
    · simp at h; subst h; rfl
    · cases h
  | _ => intro l rest h; simp [findLabel] at h
def Live (h : AH) : Prop := ∀ b, h.blk b ≠ none → b < h.next
theorem aCode_wp {call : ACallee} (hcall : Good P call) (hst : StayCall call) (hdraw : DrawOk P call) {n : Nat} : ∀ (k : Nat) (c : Code) (e : Env) (h : AH) (x : AEx) (e' : Env) (h' : AH), aCode P call k c e h = some (x, e', h') → codeOk P n c = true →
    ∀ (ρ : Rho) (a : Act) (w : World), EnvR ρ e n a → Sim ρ w h.blk h.next → Live h → c.wp P (Post ρ h w n a x e' h') a w := by
  intro k
  induction k with
  | zero => intro c e h x e' h' hh; simp [aCode] at hh
  | succ k ih =>
    intro c e h x e' h' hh hok ρ a w he hs hl
    have here : ∀ (x0 : AEx), x = x0 → e' = e → h' = h → ∀ ex, ex = exOf x0 → Post ρ h w n a x e' h' ex a w := by
      rintro x0 rfl rfl rfl ex rfl
      exact ⟨rfl, ρ, he, rfl, hs, Ext.refl _ _ _ _⟩
    -- one piece behind another
    have step : ∀ (c1 : Code) (e1 : Env) (h1 : AH), codeOk P n c1 = true → aCode P call k c1 e h = some (.normal, e1, h1) → ∀ (Q : Exit → Act → World → Prop),
        (∀ ρ1 a1 w1, EnvR ρ1 e1 n a1 → Sim ρ1 w1 h1.blk h1.next → Live h1 → a1.defers = a.defers → Ext ρ h.blk h.next w ρ1 h1.blk h1.next w1 → Q .normal a1 w1) → c1.wp P Q a w := by
      intro c1 e1 h1 hok1 hr Q hQ
      refine wp_mono (ih c1 e h _ e1 h1 hr hok1 ρ a w he hs hl) ?_
      rintro ex a1 w1 ⟨rfl, ρ1, q1, q2, q3, q4⟩
      exact hQ ρ1 a1 w1 q1 q3 ((aCode_stay hst _ _ _ _ _ _ _ hr).live hl) q2 q4
    simp only [aCode] at hh
    split at hh
    · simp at hh; obtain ⟨q1, q2, q3⟩ := hh; exact wp_skip (here .normal q1.symm q2.symm q3.symm _ rfl)
    · simp at hh; obtain ⟨q1, q2, q3⟩ := hh; exact wp_label (here .normal q1.symm q2.symm q3.symm _ rfl)
    · rename_i id ops
      cases hq : aOps P call ops ops.toList e h with
      | none => rw [hq] at hh; cases hh
      | some r =>
        rw [hq] at hh; simp at hh; obtain ⟨rfl, rfl, rfl⟩ := hh
        have hok2 : ∀ o ∈ ops.toList, opOk n o = true := by
          simp only [codeOk, Bool.and_eq_true, List.all_eq_true] at hok
          exact hok.1
        refine wp_region ?_
        have := aOps_wp hcall hok2 (Q := Post ρ h w n a .normal r.1 r.2) ops.toList 0 e h a w ρ rfl hq he hs fun ρ' a' w' q1 q2 q3 q4 => ⟨rfl, ρ', q1, q2, q3, q4⟩
        rw [List.range_eq_range']
        simpa using this
    · rename_i id ops
      cases hq : aRegionD P call ops e h with
      | none => rw [hq] at hh; cases hh
      | some r =>
        rw [hq] at hh; simp at hh; obtain ⟨rfl, rfl, rfl⟩ := hh
        simp only [codeOk, Bool.and_eq_true, List.all_eq_true, Bool.or_eq_true, Bool.not_true, Bool.false_eq_true, false_or] at hok
        exact hdraw n id ops e r.1 h r.2 ρ a w hok.1 hok.2 hq he hs hl
    · rename_i c1 c2
      simp only [codeOk, Bool.and_eq_true] at hok
      split at hh
      · rename_i e1 h1 hq
        refine wp_seq (step c1 e1 h1 hok.1 hq _ fun ρ1 a1 w1 q1 q2 q3 q4 q5 => ?_)
        show c2.wp P _ a1 w1
        exact wp_mono (ih c2 e1 h1 x e' h' hh hok.2 ρ1 a1 w1 q1 q2 q3) fun ex a' w' hp => hp.trans q4 q5
      · rename_i r hne
        refine wp_seq (wp_mono (ih c1 e h x e' h' hh hok.1 ρ a w he hs hl) ?_)
        rintro ex a' w' ⟨rfl, hp⟩
        cases x with
        | normal => exact absurd hh (hne _ _)
        | exit i => exact ⟨rfl, hp⟩
        | goto l => exact ⟨rfl, hp⟩
        | ret => exact ⟨rfl, hp⟩
    · rename_i cd c1 c2
      simp only [codeOk, Bool.and_eq_true] at hok
      split at hh
      · rename_i t ht
        have hv := he.ev hok.1.1
        rw [ht] at hv
        have hc : a.eval cd = .bool t := by
          generalize a.eval cd = y at hv
          cases hv; rfl
        refine wp_cond hc (ih _ e h x e' h' hh ?_ ρ a w he hs hl)
        cases t
        · exact hok.2
        · exact hok.1.2
      · cases hh
    · rename_i id c1
      simp only [codeOk] at hok
      split at hh
      · rename_i i e1 h1 hq
        refine wp_block (wp_mono (ih c1 e h _ e1 h1 hq hok ρ a w he hs hl) ?_)
        rintro ex a' w' ⟨rfl, hp⟩
        split at hh
        · rename_i hid
          simp at hh; obtain ⟨rfl, rfl, rfl⟩ := hh
          simp only [exOf, Exit.inBlock, hid, if_true]
          exact ⟨rfl, hp⟩
        · rename_i hid
          simp at hh; obtain ⟨rfl, rfl, rfl⟩ := hh
          simp only [exOf, Exit.inBlock, hid, if_false]
          exact ⟨rfl, hp⟩
      · rename_i hne
        refine wp_block (wp_mono (ih c1 e h x e' h' hh hok ρ a w he hs hl) ?_)
        rintro ex a' w' ⟨rfl, hp⟩
        cases x with
        | normal => exact ⟨rfl, hp⟩
        | exit i => exact absurd hh (hne _ _ _)
        | goto l => exact ⟨rfl, hp⟩
        | ret => exact ⟨rfl, hp⟩
    · rename_i c1
      simp only [codeOk] at hok
      have key : ∀ (m : Nat) (e0 : Env) (h0 : AH), aLoop (aCode P call k c1) m e0 h0 = some (x, e', h') → ∀ (ρ0 : Rho) (a0 : Act) (w0 : World), EnvR ρ0 e0 n a0 → Sim ρ0 w0 h0.blk h0.next → Live h0 → a0.defers = a.defers → Ext ρ h.blk h.next w ρ0 h0.blk h0.next w0 →
          Code.rounds P c1 (Post ρ h w n a x e' h') m a0 w0 := by
        intro m
        induction m with
        | zero => intro e0 h0 hq; simp [aLoop] at hq
        | succ m ihm =>
          intro e0 h0 hq ρ0 a0 w0 he0 hs0 hl0 hd0 hE0
          rw [rounds_succ]
          simp only [aLoop] at hq
          split at hq
          · rename_i e1 h1 hb
            refine wp_mono (ih c1 e0 h0 _ e1 h1 hb hok ρ0 a0 w0 he0 hs0 hl0) ?_
            rintro ex a1 w1 ⟨rfl, ρ1, q1, q2, q3, q4⟩
            exact ihm e1 h1 hq ρ1 a1 w1 q1 q3 ((aCode_stay hst _ _ _ _ _ _ _ hb).live hl0) (q2.trans hd0) (hE0.trans q4)
          · rename_i r hne
            refine wp_mono (ih c1 e0 h0 x e' h' hq hok ρ0 a0 w0 he0 hs0 hl0) ?_
            rintro ex a1 w1 hp
            have hp2 : Post ρ h w n a x e' h' ex a1 w1 := hp.trans hd0 hE0
            obtain ⟨rfl, _⟩ := hp
            cases x with
            | normal => exact absurd hq (hne _ _)
            | exit i => exact hp2
            | goto l => exact hp2
            | ret => exact hp2
      exact wp_loop_rounds k (key k e h hh ρ a w he hs hl rfl (Ext.refl _ _ _ _))
    · rename_i c1
      simp only [codeOk] at hok
      have key : ∀ (m : Nat) (cur : Code) (e0 : Env) (h0 : AH), codeOk P n cur = true → aJump (aCode P call k) c1 m cur e0 h0 = some (x, e', h') → ∀ (ρ0 : Rho) (a0 : Act) (w0 : World), EnvR ρ0 e0 n a0 → Sim ρ0 w0 h0.blk h0.next → Live h0 → a0.defers = a.defers → Ext ρ h.blk h.next w ρ0 h0.blk h0.next w0 →
          scopeRounds P c1 (Post ρ h w n a x e' h') m cur a0 w0 := by
        intro m
        induction m with
        | zero => intro cur e0 h0 _ hq; simp [aJump] at hq
        | succ m ihm =>
          intro cur e0 h0 hokc hq ρ0 a0 w0 he0 hs0 hl0 hd0 hE0
          simp only [scopeRounds]
          simp only [aJump] at hq
          split at hq
          · rename_i l e1 h1 hb
            refine wp_mono (ih cur e0 h0 _ e1 h1 hb hokc ρ0 a0 w0 he0 hs0 hl0) ?_
            rintro ex a1 w1 ⟨rfl, ρ1, q1, q2, q3, q4⟩
            simp only [exOf]
            split at hq
            · rename_i rest hf
              rw [hf]
              exact ihm rest e1 h1 (findLabel_ok c1 l rest hf hok) hq ρ1 a1 w1 q1 q3 ((aCode_stay hst _ _ _ _ _ _ _ hb).live hl0) (q2.trans hd0) (hE0.trans q4)
            · rename_i hf
              rw [hf]
              simp at hq; obtain ⟨rfl, rfl, rfl⟩ := hq
              exact ⟨rfl, ρ1, q1, q2.trans hd0, q3, hE0.trans q4⟩
          · rename_i r hne
            refine wp_mono (ih cur e0 h0 x e' h' hq hokc ρ0 a0 w0 he0 hs0 hl0) ?_
            rintro ex a1 w1 hp
            have hp2 : Post ρ h w n a x e' h' ex a1 w1 := hp.trans hd0 hE0
            obtain ⟨rfl, _⟩ := hp
            cases x with
            | normal => exact hp2
            | exit i => exact hp2
            | goto l => exact absurd hq (hne _ _ _)
            | ret => exact hp2
      exact wp_scope_rounds k (key k c1 e h hok hh ρ a w he hs hl rfl (Ext.refl _ _ _ _))
    · simp at hh; obtain ⟨q1, q2, q3⟩ := hh; exact wp_exit (here (.exit _) q1.symm q2.symm q3.symm _ rfl)
    · simp at hh; obtain ⟨q1, q2, q3⟩ := hh; exact wp_goto (here (.goto _) q1.symm q2.symm q3.symm _ rfl)
    · simp at hh; obtain ⟨q1, q2, q3⟩ := hh; exact wp_ret (here .ret q1.symm q2.symm q3.symm _ rfl)
    · cases hh
end
end Go.Proofs.Ytahcngeimlkcgaa.Am
