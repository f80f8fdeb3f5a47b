/- Steps over known temporaries: what is known of a frame is a list; code told backwards over such lists. -/
import Derived.Test.YtahcngeimlkcgaaAmX
namespace Go.Proofs.Ytahcngeimlkcgaa.Sy
open Go Am
set_option linter.unusedVariables false
set_option linter.unusedSectionVars false
set_option linter.unusedSimpArgs false
abbrev KL := List (Nat × Value)
def lk : KL → Nat → Option Value
 | [], _ => none
 | (u, v) :: l, t => match Nat.beq u t with | true => some v | false => lk l t
def updL (l : KL) (d : Option Nat) (v : Value) : KL := match d with | some t => (t, v) :: l | none => l
def opv (l : KL) : Operand → Option Value
 | .tmp t => lk l t
 | .const v => some v
 | .func f => some (.func (.func f) #[] #[])
 | .global _ => none
def EnvIs (e : Env) (l : KL) : Prop := ∀ t v, lk l t = some v → e.get t = v
theorem EnvIs.nil (e : Env) : EnvIs e [] := fun t v h => by cases h
theorem EnvIs.set {e : Env} {l : KL} (h : EnvIs e l) (t : Nat) (v : Value) : EnvIs (e.set t v) ((t, v) :: l) := by
 intro u x hx
 simp only [lk] at hx
 rw [Env.get_set]
 cases hb : Nat.beq t u with
 | true =>
  rw [hb] at hx
  have := Nat.eq_of_beq_eq_true hb
  subst this
  simp only [Option.some.injEq] at hx
  rw [if_pos rfl]; exact hx
 | false =>
  rw [hb] at hx
  have hne : t ≠ u := Nat.ne_of_beq_eq_false hb
  rw [if_neg (Ne.symm hne)]
  exact h u x hx
theorem EnvIs.upd {e : Env} {l : KL} (h : EnvIs e l) (d : Option Nat) (v : Value) : EnvIs (e.put d v) (updL l d v) := by
 cases d with
 | none => exact h
 | some t => exact h.set t v
theorem EnvIs.opv {e : Env} {l : KL} (h : EnvIs e l) {x : Operand} {v : Value} (hx : opv l x = some v) : e.ev x = v := by
 cases x with
 | tmp t => exact h t v hx
 | const c => simp only [Sy.opv, Option.some.injEq] at hx; exact hx
 | func f => simp only [Sy.opv, Option.some.injEq] at hx; exact hx
 | global g => cases hx
theorem EnvIs.exists : ∀ (l : KL), ∃ e, EnvIs e l := by
 intro l
 induction l with
 | nil => exact ⟨.nil, EnvIs.nil _⟩
 | cons p l ih => obtain ⟨e, he⟩ := ih; exact ⟨e.set p.1 p.2, he.set p.1 p.2⟩
def pick (l : KL) : List Nat → KL
 | [] => []
 | t :: ts => match lk l t with | some v => (t, v) :: pick l ts | none => pick l ts
theorem EnvIs.pick {e : Env} {l : KL} (h : EnvIs e l) : ∀ (ts : List Nat), EnvIs e (pick l ts) := by
 intro ts
 induction ts with
 | nil => exact EnvIs.nil e
 | cons t ts ih =>
  simp only [Sy.pick]
  cases hl : lk l t with
  | none => exact ih
  | some v =>
   intro u x hx
   simp only [lk] at hx
   cases hb : Nat.beq t u with
   | true =>
    rw [hb] at hx
    have := Nat.eq_of_beq_eq_true hb
    subst this
    simp only [Option.some.injEq] at hx
    subst hx
    exact h t v hl
   | false => rw [hb] at hx; exact ih u x hx
def argsL : Nat → List Value → KL
 | _, [] => []
 | i, v :: vs => (i, v) :: argsL (i + 1) vs
theorem lk_argsL : ∀ (vs : List Value) (i t : Nat) (v : Value), lk (argsL i vs) t = some v → i ≤ t ∧ vs[t - i]? = some v := by
 intro vs
 induction vs with
 | nil => intro i t v h; cases h
 | cons x vs ih =>
  intro i t v h
  simp only [argsL, lk] at h
  cases hb : Nat.beq i t with
  | true =>
   rw [hb] at h
   have := Nat.eq_of_beq_eq_true hb
   subst this
   simp only [Option.some.injEq] at h
   subst h
   simp
  | false =>
   rw [hb] at h
   have hne : i ≠ t := Nat.ne_of_beq_eq_false hb
   obtain ⟨h1, h2⟩ := ih _ _ _ h
   refine ⟨by omega, ?_⟩
   have : t - i = (t - (i + 1)) + 1 := by omega
   rw [this, List.getElem?_cons_succ]
   exact h2
theorem EnvIs.args (vs : List Value) : EnvIs (Env.ofArgs 0 vs .nil) (argsL 0 vs) := by
 intro t v h
 obtain ⟨_, h2⟩ := lk_argsL vs 0 t v h
 rw [Env.get_ofArgs]
 have hlt : t < vs.length := by
  rcases Nat.lt_or_ge t vs.length with q | q
  ·exact q
  ·rw [Nat.sub_zero, List.getElem?_eq_none q] at h2; cases h2
 rw [if_pos ⟨Nat.zero_le _, by omega⟩]
 simp only [Nat.sub_zero] at h2 ⊢
 rw [List.getD_eq_getElem?_getD, h2]
 rfl
section
variable {P : Program} {c : Code} {l : KL} {h : AH} {N : KL → AH → Prop} {X : AEx → KL → AH → Prop}
def W (P : Program) (c : Code) (l : KL) (h : AH) (N : KL → AH → Prop) (X : AEx → KL → AH → Prop) : Prop :=
 ∀ e, EnvIs e l → wp P c e h (fun e' h' => ∃ l', EnvIs e' l' ∧ N l' h') (fun x e' h' => ∃ l', EnvIs e' l' ∧ X x l' h')
def cL : Code → Code
 | .seq a _ => a
 | .cond _ a _ => a
 | c => c
def cR : Code → Code
 | .seq _ b => b
 | .cond _ _ b => b
 | c => c
def cI : Code → Code
 | .block _ c => c
 | .loop c => c
 | .scope c => c
 | c => c
def bodyOf (f : Func) : Code := f.body.getD .skip
theorem W_seq (hc : c = .seq (cL c) (cR c)) (hw : W P (cL c) l h (fun l h => W P (cR c) l h N X) X) : W P c l h N X := by
 intro e he
 rw [hc]
 refine Am.wp_seq (Am.wp_mono (hw e he) ?_ (fun x e h q => q))
 rintro e' h' ⟨l', h1, h2⟩
 exact h2 e' h1
theorem W_skip (hc : c = .skip) (hn : N l h) : W P c l h N X := by subst hc; exact fun e he => Am.wp_skip ⟨l, he, hn⟩
theorem W_label {i : Nat} (hc : c = .label i) (hn : N l h) : W P c l h N X := by subst hc; exact fun e he => Am.wp_label ⟨l, he, hn⟩
theorem W_exit {i : Nat} (hc : c = .exit i) (hn : X (.exit i) l h) : W P c l h N X := by subst hc; exact fun e he => Am.wp_exit ⟨l, he, hn⟩
theorem W_goto {i : Nat} (hc : c = .goto i) (hn : X (.goto i) l h) : W P c l h N X := by subst hc; exact fun e he => Am.wp_goto ⟨l, he, hn⟩
theorem W_ret (hc : c = .ret) (hn : X .ret l h) : W P c l h N X := by subst hc; exact fun e he => Am.wp_ret ⟨l, he, hn⟩
theorem W_condT {x : Operand} {b : Bool} (hc : c = .cond x (cL c) (cR c)) (hx : opv l x = some (.bool b)) (hb : b = true) (hw : W P (cL c) l h N X) : W P c l h N X := by
 intro e he
 rw [hc]
 refine Am.wp_cond (he.opv hx) (fun _ => hw e he) (fun q => by rw [hb] at q; cases q)
theorem W_condF {x : Operand} {b : Bool} (hc : c = .cond x (cL c) (cR c)) (hx : opv l x = some (.bool b)) (hb : b = false) (hw : W P (cR c) l h N X) : W P c l h N X := by
 intro e he
 rw [hc]
 refine Am.wp_cond (he.opv hx) (fun q => by rw [hb] at q; cases q) (fun _ => hw e he)
def blkX (i : Nat) (N : KL → AH → Prop) (X : AEx → KL → AH → Prop) : AEx → KL → AH → Prop := fun x l h => match x with | .exit j => if j = i then N l h else X (.exit j) l h | x => X x l h
theorem blkX_hit {i : Nat} (hn : N l h) : blkX i N X (.exit i) l h := by simp only [blkX, if_true]; exact hn
theorem blkX_miss {i j : Nat} (hj : Nat.beq j i = false) (hn : X (.exit j) l h) : blkX i N X (.exit j) l h := by
 simp only [blkX]; rw [if_neg (Nat.ne_of_beq_eq_false hj)]; exact hn
theorem blkX_ret {i : Nat} (hn : X .ret l h) : blkX i N X .ret l h := hn
theorem blkX_goto {i j : Nat} (hn : X (.goto j) l h) : blkX i N X (.goto j) l h := hn
theorem W_block {i : Nat} (hc : c = .block i (cI c)) (hw : W P (cI c) l h N (blkX i N X)) : W P c l h N X := by
 intro e he
 rw [hc]
 refine Am.wp_block (Am.wp_mono (hw e he) (fun e h q => q) ?_)
 rintro x e' h' ⟨l', h1, h2⟩
 cases x with
 | exit j =>
  simp only [blkX] at h2 ⊢
  split at h2
  ·rename_i hj; rw [if_pos hj]; exact ⟨l', h1, h2⟩
  ·rename_i hj; rw [if_neg hj]; exact ⟨l', h1, h2⟩
 | normal => exact ⟨l', h1, h2⟩
 | goto j => exact ⟨l', h1, h2⟩
 | ret => exact ⟨l', h1, h2⟩
theorem W_join (ts : List Nat) (J : KL → AH → Prop) (hj : ∀ l h, J l h → N l h) (hw : W P c l h (fun l h => J (pick l ts) h) X) : W P c l h N X := by
 intro e he
 refine Am.wp_mono (hw e he) ?_ (fun x e h q => q)
 rintro e' h' ⟨l', h1, h2⟩
 exact ⟨pick l' ts, h1.pick ts, hj _ _ h2⟩
theorem W_seqJoin (ts : List Nat) (J : KL → AH → Prop) (hc : c = .seq (cL c) (.seq (cL (cR c)) (cR (cR c)))) (hj : ∀ l h, J l h → W P (cR (cR c)) l h N X)
  (hw : W P (cL c) l h (fun l h => W P (cL (cR c)) l h (fun l h => J (pick l ts) h) X) X) : W P c l h N X := by
 have h1 : cR c = .seq (cL (cR c)) (cR (cR c)) := by rw [hc]; rfl
 refine W_seq (by rw [hc]; rfl) ?_
 intro e he
 refine Am.wp_mono (hw e he) ?_ (fun x e h q => q)
 rintro e' h' ⟨l', h2, h3⟩
 exact ⟨l', h2, W_seq h1 (W_join ts J hj h3)⟩
theorem W_seqJoin0 (ts : List Nat) (J : KL → AH → Prop) (hc : c = .seq (cL c) (cR c)) (hj : ∀ l h, J l h → N l h)
  (hw : W P (cL c) l h (fun l h => W P (cR c) l h (fun l h => J (pick l ts) h) X) X) : W P c l h N X := by
 refine W_seq hc ?_
 intro e he
 refine Am.wp_mono (hw e he) ?_ (fun x e h q => q)
 rintro e' h' ⟨l', h2, h3⟩
 exact ⟨l', h2, W_join ts J hj h3⟩
theorem W_loop (ts : List Nat) (I : Nat → KL → AH → Prop) (m : Nat) (hc : c = .loop (cI c)) (h0 : I m (pick l ts) h) (hI : ∀ m l h, I m l h → W P (cI c) l h (fun l' h' => ∃ k, k < m ∧ I k (pick l' ts) h') X) : W P c l h N X := by
 intro e he
 rw [hc]
 refine Am.wp_loop (fun m e h => ∃ l, EnvIs e l ∧ I m l h) ?_ m e h ⟨pick l ts, he.pick ts, h0⟩
 rintro m e h ⟨l, he, hi⟩
 refine Am.wp_mono (hI m l h hi e he) ?_ (fun x e h q => q)
 rintro e' h' ⟨l', h1, k, h2, h3⟩
 exact ⟨k, h2, pick l' ts, h1.pick ts, h3⟩
theorem W_forget (ts : List Nat) {l' : KL} (hp : pick l ts = l') (hw : W P c l' h N X) : W P c l h N X := by
 subst hp
 exact fun e he => hw e (he.pick ts)
def WJ (P : Program) (c cur : Code) (l : KL) (h : AH) (N : KL → AH → Prop) (X : AEx → KL → AH → Prop) : Prop :=
 ∀ e, EnvIs e l → wpJ P c cur e h (fun e' h' => ∃ l', EnvIs e' l' ∧ N l' h') (fun x e' h' => ∃ l', EnvIs e' l' ∧ X x l' h')
theorem W_scope (hc : c = .scope (cI c)) (hw : WJ P (cI c) (cI c) l h N X) : W P c l h N X := by
 intro e he
 rw [hc]
 exact Am.wp_scope (hw e he)
theorem WJ_step {cur : Code} (hw : W P cur l h N (fun x l h => match x with | .goto i => (match findLabel c i with | some rest => WJ P c rest l h N X | none => X (.goto i) l h) | x => X x l h)) : WJ P c cur l h N X := by
 intro e he
 refine Am.wpJ_step (Am.wp_mono (hw e he) (fun e h q => q) ?_)
 rintro x e' h' ⟨l', h1, h2⟩
 cases x with
 | goto i =>
  simp only at h2 ⊢
  cases hl : findLabel c i with
  | some rest => rw [hl] at h2; exact h2 e' h1
  | none => rw [hl] at h2; exact ⟨l', h1, h2⟩
 | normal => exact ⟨l', h1, h2⟩
 | exit j => exact ⟨l', h1, h2⟩
 | ret => exact ⟨l', h1, h2⟩
end
structure COp where
 g : Option (Option Nat × Bool)
 d : Option Nat
 op : Op
def stripG (ops : Array Oper) (o : Oper) : COp := ⟨o.guard.map fun x => ((ops[x.1]?).bind (·.dst), x.2), o.dst, o.op⟩
def regOf : Code → Option (List COp)
 | .region _ ops false => some (ops.toList.map (stripG ops))
 | _ => none
def wpE (P : Program) : List COp → Env → AH → (Env → AH → Prop) → Prop
 | [], e, h, K => K e h
 | o :: os, e, h, K =>
  match o.g with
  | none => ∃ v h', aOp P (callI P) e.ev o.op h = some (v, h') ∧ wpE P os (e.put o.d v) h' K
  | some (t, w) => ∃ j, t = some j ∧ ((e.get j = .bool w ∧ ∃ v h', aOp P (callI P) e.ev o.op h = some (v, h') ∧ wpE P os (e.put o.d v) h' K) ∨ (e.get j ≠ .bool w ∧ wpE P os (e.put o.d undef) h K))
section
variable {P : Program}
theorem wanted_iff {ops : Array Oper} {e : Env} {o : Oper} {j0 j : Nat} {w : Bool} (hg : o.guard = some (j0, w)) (hj : (ops[j0]?).bind (·.dst) = some j) : aWanted ops e o = true ↔ e.get j = .bool w := by
 simp only [aWanted, hg, aYield]
 rw [hj]
 simp only
 cases hv : e.get j with
 | bool b => cases b <;> cases w <;> simp
 | _ => simp
theorem wpE_run {ops : Array Oper} : ∀ (os : List Oper) {h : AH} {K : Env → AH → Prop} {e : Env}, wpE P (os.map (stripG ops)) e h K → wpO P ops os e h K := by
 intro os
 induction os with
 | nil => intro h K e hw; exact hw
 | cons o os ih =>
  intro h K e hw
  simp only [List.map_cons, wpE, stripG] at hw
  simp only [wpO]
  cases hg : o.guard with
  | none =>
   rw [hg] at hw
   simp only [Option.map_none] at hw
   obtain ⟨v, h', h1, h2⟩ := hw
   have hwn : aWanted ops e o = true := by simp only [aWanted, hg]
   rw [if_pos hwn]
   exact ⟨v, h', h1, ih h2⟩
  | some g =>
   obtain ⟨j0, w⟩ := g
   rw [hg] at hw
   simp only [Option.map_some] at hw
   obtain ⟨j, hj, hw⟩ := hw
   have hy : aWanted ops e o = true ↔ e.get j = .bool w := wanted_iff hg hj
   rcases hw with ⟨hb, v, h', h1, h2⟩ | ⟨hb, h2⟩
   ·rw [if_pos (hy.2 hb)]
    exact ⟨v, h', h1, ih h2⟩
   ·rw [if_neg (fun q => hb (hy.1 q))]
    exact ih h2
def wpR (P : Program) (R : List COp) (k : Nat) (l : KL) (h : AH) (K : KL → AH → Prop) : Prop := ∀ e, EnvIs e l → wpE P (R.drop k) e h (fun e' h' => ∃ l', EnvIs e' l' ∧ K l' h')
theorem W_region {c : Code} {R : List COp} {l : KL} {h : AH} {N : KL → AH → Prop} {X : AEx → KL → AH → Prop} (hc : regOf c = some R) (hw : wpR P R 0 l h N) : W P c l h N X := by
 intro e he
 cases c with
 | region i ops d =>
  cases d with
  | false =>
   simp only [regOf, Option.some.injEq] at hc
   subst hc
   exact Am.wp_region (wpE_run _ (hw e he))
  | true => cases hc
 | _ => cases hc
def gon (l : KL) : Option (Option Nat × Bool) → Prop
 | none => True
 | some (some t, w) => lk l t = some (.bool w)
 | some (none, _) => False
variable {R : List COp} {k : Nat} {l l' : KL} {h h' : AH} {K : KL → AH → Prop} {g : Option (Option Nat × Bool)} {d : Option Nat} {op : Op}
theorem drop_at {α : Type} : ∀ {R : List α} {k : Nat} {o : α}, R[k]? = some o → R.drop k = o :: R.drop (k + 1) := by
 intro R k o h
 obtain ⟨h1, h2⟩ := List.getElem?_eq_some_iff.1 h
 rw [← h2]
 exact List.drop_eq_getElem_cons h1
def OpTo (P : Program) (l : KL) (op : Op) (h : AH) (v : Value) (h' : AH) : Prop := ∀ e, EnvIs e l → aOp P (callI P) e.ev op h = some (v, h')
def FrTo (P : Program) (l : KL) (op : Op) (f : Fresh) : Prop := freshish op = true ∧ ∀ e, EnvIs e l → aFresh P e.ev op = some f
theorem FrTo.run {f : Fresh} (hf : FrTo P l op f) : OpTo P l op h (f.1 h.next) (h.alloc f.2.1 f.2.2) := by
 obtain ⟨h1, h2⟩ := hf
 intro e he
 have := h2 e he
 cases op with
 | alloc t => simp only [aFresh] at this; simp only [aOp, this]; rfl
 | box t x => simp only [aFresh] at this; simp only [aOp, this]; rfl
 | buildSlice t n ps => simp only [aFresh] at this; simp only [aOp, this]; rfl
 | makeSlice t a b => simp only [aFresh] at this; simp only [aOp, this]; rfl
 | _ => cases h1
theorem r_step (ho : R[k]? = some ⟨g, d, op⟩) (hg : gon l g) {v : Value} (h1 : OpTo P l op h v h') (hk : wpR P R (k + 1) (updL l d v) h' K) : wpR P R k l h K := by
 intro e he
 rw [drop_at ho]
 simp only [wpE]
 have hx := hk (e.put d v) (he.upd d v)
 match g, hg with
 | none, _ => exact ⟨v, h', h1 e he, hx⟩
 | some (some t, w), hg => exact ⟨t, rfl, .inl ⟨he t _ hg, v, h', h1 e he, hx⟩⟩
theorem r_ex1 {v : Value} {Q : AH → Prop} (ho : R[k]? = some ⟨g, d, op⟩) (hg : gon l g) (hx : ∃ h', OpTo P l op h v h' ∧ Q h') (hk : ∀ h', Q h' → wpR P R (k + 1) (updL l d v) h' K) : wpR P R k l h K := by
 obtain ⟨h', h1, h2⟩ := hx
 exact r_step ho hg h1 (hk h' h2)
theorem r_ex2 {α : Type} {v : Value} {Q : AH → α → Prop} (ho : R[k]? = some ⟨g, d, op⟩) (hg : gon l g) (hx : ∃ h' c, OpTo P l op h v h' ∧ Q h' c) (hk : ∀ h' c, Q h' c → wpR P R (k + 1) (updL l d v) h' K) : wpR P R k l h K := by
 obtain ⟨h', c, h1, h2⟩ := hx
 exact r_step ho hg h1 (hk h' c h2)
theorem r_ex3 {α : Type} {Q : Value → α → AH → Prop} (ho : R[k]? = some ⟨g, d, op⟩) (hg : gon l g) (hx : ∃ v c h', OpTo P l op h v h' ∧ Q v c h') (hk : ∀ v c h', Q v c h' → wpR P R (k + 1) (updL l d v) h' K) : wpR P R k l h K := by
 obtain ⟨v, c, h', h1, h2⟩ := hx
 exact r_step ho hg h1 (hk v c h' h2)
theorem r_exv {Q : Value → Prop} (ho : R[k]? = some ⟨g, d, op⟩) (hg : gon l g) (hx : ∃ v, OpTo P l op h v h ∧ Q v) (hk : ∀ v, Q v → wpR P R (k + 1) (updL l d v) h K) : wpR P R k l h K := by
 obtain ⟨v, h1, h2⟩ := hx
 exact r_step ho hg h1 (hk v h2)
theorem r_skip {t : Nat} {w : Bool} {b : Value} (ho : R[k]? = some ⟨some (some t, w), d, op⟩) (hl : lk l t = some b) (hb : b ≠ .bool w) (hk : wpR P R (k + 1) (updL l d undef) h K) : wpR P R k l h K := by
 intro e he
 rw [drop_at ho]
 simp only [wpE]
 exact ⟨t, rfl, .inr ⟨by rw [he t _ hl]; exact hb, hk _ (he.upd d undef)⟩⟩
theorem r_end (ho : R.length = k) (hk : K l h) : wpR P R k l h K := by
 intro e he
 rw [List.drop_eq_nil_of_le (by omega)]
 exact ⟨l, he, hk⟩
theorem r_setb {t : Nat} {b w : Bool} (hl : lk l t = some (.bool b)) (hb : b = w) (hk : wpR P R k ((t, .bool w) :: l) h K) : wpR P R k l h K := by
 intro e he
 subst hb
 refine hk e fun u v hu => ?_
 simp only [lk] at hu
 cases hx : Nat.beq t u with
 | true =>
  rw [hx] at hu
  have := Nat.eq_of_beq_eq_true hx
  subst this
  simp only [Option.some.injEq] at hu
  subst hu
  exact he t _ hl
 | false => rw [hx] at hu; exact he u v hu
theorem r_forget (ts : List Nat) (hp : Sy.pick l ts = l') (hk : wpR P R k l' h K) : wpR P R k l h K := by
 subst hp
 exact fun e he => hk e (he.pick ts)
def opvs (l : KL) : List Operand → Option (List Value)
 | [] => some []
 | x :: xs => match opv l x with | some v => (match opvs l xs with | some vs => some (v :: vs) | none => none) | none => none
theorem opvs_ok {e : Env} (he : EnvIs e l) : ∀ (xs : List Operand) {vs : List Value}, opvs l xs = some vs → xs.map e.ev = vs := by
 intro xs
 induction xs with
 | nil => intro vs h; simp only [opvs, Option.some.injEq] at h; subst h; rfl
 | cons x xs ih =>
  intro vs h
  simp only [opvs] at h
  cases h1 : opv l x with
  | none => rw [h1] at h; cases h
  | some v =>
   rw [h1] at h
   cases h2 : opvs l xs with
   | none => rw [h2] at h; cases h
   | some ws =>
    rw [h2] at h
    simp only [Option.some.injEq] at h
    subst h
    rw [List.map_cons, he.opv h1, ih h2]
def pureV (P : Program) (l : KL) : Op → Option Value
 | .move x | .assign x => opv l x
 | .pick c a b => match opv l c with | some (.bool true) => opv l a | some (.bool false) => opv l b | _ => none
 | .nilCheck x => match opv l x with | some (.pointer (some a)) => some (.pointer (some a)) | some (.func (.func f) fi ca) => some (.func (.func f) fi ca) | _ => none
 | .binOp o t x y _ => match opv l x, opv l y with | some a, some b => aBin P o t a b | _, _ => none
 | .unOp o _ x => match opv l x with | some a => aUn o a | _ => none
 | .makeInterface t x => match P.underlying t, opv l x with | some (.interface _), _ => none | some _, some v => some (.iface t v) | _, _ => none
 | .makeFunc (.func f) fi ca => match opvs l fi.toList, opvs l ca.toList with | some a, some b => some (.func (.func f) a.toArray b.toArray) | _, _ => none
 | .fieldAddr s x f => match opv l x with | some a => aField P s f a | _ => none
 | .field t x f => match opv l x with | some a => aFieldV P t f a | _ => none
 | .typeAssert x _ t ok => match opv l x with | some a => aAssert P a t ok | _ => none
 | .extract x i => match opv l x with | some (.tuple vs) => vs[i]? | _ => none
 | .build t ps => match opvs l (ps.toList.map (·.2)) with | some vs => aBuild P t ((ps.toList.map (·.1)).zip vs) | _ => none
 | .slice t x lo hi mx => match opv l x, (match lo with | none => some none | some y => (opv l y).map some), (match hi with | none => some none | some y => (opv l y).map some), (match mx with | none => some none | some y => (opv l y).map some) with
  | some a, some b, some c, some d => aSlice P t a b c d
  | _, _, _, _ => none
 | .call c => match c.callee, c.argTypes.toList, opvs l c.args.toList with
  | .builtin .len, t :: _, some (x :: _) => aLen P t x
  | .builtin .max, _, some (x :: vs) => aMax x vs
  | .builtin .min, _, some (x :: vs) => aMin x vs
  | _, _, _ => none
 | _ => none
theorem pureV_ok {e : Env} (he : EnvIs e l) {v : Value} (hv : pureV P l op = some v) : aOp P (callI P) e.ev op h = some (v, h) := by
 cases op with
 | move x => simp only [pureV] at hv; simp only [aOp, he.opv hv]
 | assign x => simp only [pureV] at hv; simp only [aOp, he.opv hv]
 | pick c a b =>
  simp only [pureV] at hv
  split at hv
  ·rename_i hc; simp only [aOp, he.opv hc, he.opv hv, if_true]
  ·rename_i hc; simp only [aOp, he.opv hc, he.opv hv]; rfl
  ·cases hv
 | nilCheck x =>
  simp only [pureV] at hv
  split at hv
  ·rename_i hc; simp only [Option.some.injEq] at hv; subst hv; simp only [aOp, he.opv hc]
  ·rename_i hc; simp only [Option.some.injEq] at hv; subst hv; simp only [aOp, he.opv hc]
  ·cases hv
 | binOp o t x y t2 =>
  simp only [pureV] at hv
  split at hv
  ·rename_i a b h1 h2; simp only [aOp, he.opv h1, he.opv h2, hv, Option.map_some]
  ·cases hv
 | unOp o t x =>
  simp only [pureV] at hv
  split at hv
  ·rename_i a h1; simp only [aOp, he.opv h1, hv, Option.map_some]
  ·cases hv
 | makeInterface t x =>
  simp only [pureV] at hv
  split at hv
  ·cases hv
  ·rename_i d y hd h1 hn
   simp only [Option.some.injEq] at hv
   subst hv
   simp only [aOp, he.opv hn, h1]
  ·cases hv
 | makeFunc fn fi ca =>
  cases fn with
  | func f =>
   simp only [pureV] at hv
   split at hv
   ·rename_i a b h1 h2
    simp only [Option.some.injEq] at hv
    subst hv
    simp only [aOp]
    congr 3
    ·rw [← opvs_ok he _ h1, ← Array.toList_map, Array.toArray_toList]
    ·rw [← opvs_ok he _ h2, ← Array.toList_map, Array.toArray_toList]
   ·cases hv
  | _ => cases hv
 | fieldAddr s x f =>
  simp only [pureV] at hv
  split at hv
  ·rename_i a h1; simp only [aOp, he.opv h1, hv, Option.map_some]
  ·cases hv
 | field s x f =>
  simp only [pureV] at hv
  split at hv
  ·rename_i a h1; simp only [aOp, he.opv h1, hv, Option.map_some]
  ·cases hv
 | typeAssert x s t ok =>
  simp only [pureV] at hv
  split at hv
  ·rename_i a h1; simp only [aOp, he.opv h1, hv, Option.map_some]
  ·cases hv
 | extract x i =>
  simp only [pureV] at hv
  split at hv
  ·rename_i a h1; simp only [aOp, he.opv h1, hv, Option.map_some]
  ·cases hv
 | build t ps =>
  simp only [pureV] at hv
  split at hv
  ·rename_i vs h1
   have h2 := opvs_ok he _ h1
   simp only [aOp]
   have : (ps.toList.map fun p => (p.1, e.ev p.2)) = (ps.toList.map (·.1)).zip vs := by
    rw [← h2, List.map_map, List.zip_map', ]; rfl
   rw [this, hv]; rfl
  ·cases hv
 | slice t x lo hi mx =>
  simp only [pureV] at hv
  split at hv
  ·rename_i a b c d h1 h2 h3 h4
   have hm : ∀ {y : Option Operand} {r : Option Value}, (match y with | none => some none | some y => (opv l y).map some) = some r → y.map e.ev = r := by
    intro y r hr
    cases y with
    | none => simp only [Option.some.injEq] at hr; subst hr; rfl
    | some y =>
     cases h5 : opv l y with
     | none => simp [h5] at hr
     | some u => simp only [h5, Option.map_some, Option.some.injEq] at hr; subst hr; rw [Option.map_some, he.opv h5]
   simp only [aOp, he.opv h1, hm h2, hm h3, hm h4, hv, Option.map_some]
  ·cases hv
 | call c =>
  simp only [pureV] at hv
  split at hv
  ·rename_i t ts x xs hc ht ha
   simp only [aOp, hc, ht, opvs_ok he _ ha, aBuiltin, hv, Option.map_some]
  ·rename_i t x xs hc ht
   simp only [aOp, hc, opvs_ok he _ ht, aBuiltin, hv, Option.map_some]
  ·rename_i t x xs hc ht
   simp only [aOp, hc, opvs_ok he _ ht, aBuiltin, hv, Option.map_some]
  ·cases hv
 | _ => cases hv
theorem o_pure {v : Value} (hv : pureV P l op = some v) : OpTo P l op h v h := fun e he => pureV_ok he hv
theorem r_pure {v : Value} (ho : R[k]? = some ⟨g, d, op⟩) (hg : gon l g) (hv : pureV P l op = some v) (hk : wpR P R (k + 1) (updL l d v) h K) : wpR P R k l h K :=
 r_step ho hg (fun e he => pureV_ok he hv) hk
def isB (w : Bool) : Value → Bool
 | .bool b => (match w with | true => b | false => !b)
 | _ => false
theorem isB_iff {w : Bool} {v : Value} : isB w v = true ↔ v = .bool w := by
 cases v with
 | bool b => cases w <;> cases b <;> simp [isB]
 | _ => simp [isB]
def runP (P : Program) : List COp → Nat → KL → Option KL
 | _, 0, l => some l
 | [], _ + 1, _ => none
 | o :: os, m + 1, l =>
  match o.g with
  | none => match pureV P l o.op with | some v => runP P os m (updL l o.d v) | none => none
  | some (some t, w) => (match lk l t with
   | some b => (match isB w b with
    | true => (match pureV P l o.op with | some v => runP P os m (updL l o.d v) | none => none)
    | false => runP P os m (updL l o.d undef))
   | none => none)
  | some (none, _) => none
theorem runP_ok : ∀ (m : Nat) {R : List COp} {l l' : KL} {h : AH} {K : Env → AH → Prop} {e : Env}, runP P R m l = some l' → EnvIs e l → (∀ e', EnvIs e' l' → wpE P (R.drop m) e' h K) → wpE P R e h K := by
 intro m
 induction m with
 | zero =>
  intro R l l' h K e hr he hk
  simp only [runP, Option.some.injEq] at hr
  subst hr
  exact hk e he
 | succ m ih =>
  intro R l l' h K e hr he hk
  cases R with
  | nil => cases hr
  | cons o os =>
   obtain ⟨g, d, op⟩ := o
   simp only [runP] at hr
   simp only [wpE]
   match g, hr with
   | none, hr =>
    simp only at hr
    cases hv : pureV P l op with
    | none => rw [hv] at hr; cases hr
    | some v => rw [hv] at hr; exact ⟨v, h, pureV_ok he hv, ih hr (he.upd _ _) hk⟩
   | some (some t, w), hr =>
    simp only at hr
    cases hl : lk l t with
    | none => rw [hl] at hr; cases hr
    | some b =>
     rw [hl] at hr
     simp only at hr
     cases hb : isB w b with
     | true =>
      rw [hb] at hr
      cases hv : pureV P l op with
      | none => rw [hv] at hr; cases hr
      | some v =>
       rw [hv] at hr
       refine ⟨t, rfl, .inl ⟨?_, v, h, pureV_ok he hv, ih hr (he.upd _ _) hk⟩⟩
       rw [he t _ hl]
       exact isB_iff.1 hb
     | false =>
      rw [hb] at hr
      refine ⟨t, rfl, .inr ⟨fun q => ?_, ih hr (he.upd _ _) hk⟩⟩
      rw [he t _ hl] at q
      rw [isB_iff.2 q] at hb
      cases hb
   | some (none, _), hr => cases hr
theorem r_run (m : Nat) (hr : runP P (R.drop k) m l = some l') (hk : wpR P R (k + m) l' h K) : wpR P R k l h K := by
 intro e he
 refine runP_ok m hr he fun e' he' => ?_
 have := hk e' he'
 rw [List.drop_drop]
 rwa [Nat.add_comm] at this ⊢
end
end Go.Proofs.Ytahcngeimlkcgaa.Sy
