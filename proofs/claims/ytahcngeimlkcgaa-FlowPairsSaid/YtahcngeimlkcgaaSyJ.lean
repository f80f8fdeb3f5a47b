/- Steps in regions that draw, told by what looks see and by what changes touch. -/
import Derived.Test.YtahcngeimlkcgaaSyH
namespace Go.Proofs.Ytahcngeimlkcgaa.Sy
open Go Am
open Cell (rc)
set_option linter.unusedVariables false
set_option linter.unusedSectionVars false
set_option linter.unusedSimpArgs false
inductive Dep where
 | no | zone | blk (b : Nat) | on (b : Nat) (S : (Nat → Option ABlk) → Prop)
def Dep.at : Dep → Option Nat
 | .blk b => some b
 | .on b _ => some b
 | _ => none
inductive Fp where
 | any | blks (C : List Nat)
structure COpF where
 g : Option (Option Nat × Bool)
 d : Option Nat
 op : Op
 cl : Cls
 om : List Nat
theorem si {α : Type} {a b : α} (h : some a = some b) : a = b := Option.some.inj h
abbrev t (n : Nat) : Operand := .tmp n
abbrev ci (n : Int) : Operand := .const (.int .i64 n)
abbrev cf (f : Nat) (as : Array Operand) (ts : Array TypeId) : Op := .call { callee := .value (.func f), args := as, argTypes := ts }
abbrev cb (b : Builtin) (as : Array Operand) (ts : Array TypeId) : Op := .call { callee := .builtin b, args := as, argTypes := ts }
abbrev o (op : Op) : COp := ⟨none, none, op⟩
abbrev u (d : Nat) (op : Op) : COp := ⟨none, some d, op⟩
abbrev gT (c : Nat) (d : Option Nat) (op : Op) : COp := ⟨some (some c, true), d, op⟩
abbrev gN (c : Nat) (d : Option Nat) (op : Op) : COp := ⟨some (some c, false), d, op⟩
abbrev oF (op : Op) (cl : Cls) (om : List Nat) : COpF := ⟨none, none, op, cl, om⟩
abbrev uF (d : Nat) (op : Op) (cl : Cls) (om : List Nat) : COpF := ⟨none, some d, op, cl, om⟩
abbrev gTF (c : Nat) (d : Option Nat) (op : Op) (cl : Cls) (om : List Nat) : COpF := ⟨some (some c, true), d, op, cl, om⟩
abbrev gNF (c : Nat) (d : Option Nat) (op : Op) (cl : Cls) (om : List Nat) : COpF := ⟨some (some c, false), d, op, cl, om⟩
abbrev mv (n : Nat) : Op := .move (t n)
abbrev sg (n : Nat) : Op := .assign (t n)
abbrev nk (n : Nat) : Op := .nilCheck (t n)
abbrev fa (T n k : Nat) : Op := .fieldAddr T (t n) k
abbrev ld (T n : Nat) : Op := .load T (t n)
abbrev ia (T n m : Nat) : Op := .indexAddr T (t n) (t m)
abbrev bo (b : BinOp) (T n m U : Nat) : Op := .binOp b T (t n) (t m) U
abbrev bc (b : BinOp) (T n : Nat) (m : Int) (U : Nat) : Op := .binOp b T (t n) (ci m) U
abbrev pf (n m : Nat) : Op := .pick (t n) (t m) (.const (.bool false))
abbrev pt (n m : Nat) : Op := .pick (t n) (.const (.bool true)) (t m)
abbrev gt (c d : Nat) (op : Op) : COp := ⟨some (some c, true), some d, op⟩
abbrev gn (c d : Nat) (op : Op) : COp := ⟨some (some c, false), some d, op⟩
abbrev uP (d : Nat) (op : Op) : COpF := ⟨none, some d, op, .pure, []⟩
abbrev uL (d : Nat) (op : Op) : COpF := ⟨none, some d, op, .look, []⟩
abbrev gTP (c d : Nat) (op : Op) : COpF := ⟨some (some c, true), some d, op, .pure, []⟩
abbrev gNP (c d : Nat) (op : Op) : COpF := ⟨some (some c, false), some d, op, .pure, []⟩
abbrev gTL (c d : Nat) (op : Op) : COpF := ⟨some (some c, true), some d, op, .look, []⟩
abbrev gNL (c d : Nat) (op : Op) : COpF := ⟨some (some c, false), some d, op, .look, []⟩
abbrev V (n : Int) : Value := .int .i64 n
abbrev Pt (b o : Nat) : Value := .pointer (some ⟨b, o, none⟩)
def other : Cls → Cls → Bool
 | .look, .make => true
 | .make, .look => true
 | _, _ => false
def omOf (P : Program) (ops : List Oper) (ps : List Nat) (i : Nat) (c : Cls) : List Nat := (List.range i).filter fun j => other c (cls P (ops.getD j default).op) && ordered ps i j
def stripF (P : Program) (ops : Array Oper) (ps : List Nat) : Nat → List Oper → List COpF
 | _, [] => []
 | i, o :: os => ⟨o.guard.map fun x => ((ops[x.1]?).bind (·.dst), x.2), o.dst, o.op, cls P o.op, omOf P ops.toList ps i (cls P o.op)⟩ :: stripF P ops ps (i + 1) os
def regOfF (P : Program) : Code → Option (List COpF)
 | .region _ ops true => some (stripF P ops (preds ops.toList) 0 ops.toList)
 | _ => none
def Zin (Zs : Zn) (h : AH) : Prop := ∀ b cs, Zs b = some cs → ∃ B, h.blk b = some B ∧ B.cells = cs
def StabF (P : Program) (Zs : Zn) (top : Nat) (h : AH) (ev : Operand → Value) (op : Op) (v : Value) : Dep → Prop
 | .no => True
 | .zone => sameV v v = true ∧ ∀ h2, Zin Zs h2 → aLook P ev op h2 = some v
 | .blk b => sameV v v = true ∧ b < top ∧ ∀ h2, h2.blk b = h.blk b → aLook P ev op h2 = some v
 | .on b S => sameV v v = true ∧ b < top ∧ S h.blk ∧ (∀ h2 : AH, S h2.blk → aLook P ev op h2 = some v) ∧ ∀ f f' : Nat → Option ABlk, f' b = f b → S f → S f'
def cpL (base : Nat) : Dep → Nat × Fp → Prop
 | .zone, _ => True
 | .blk b, (m, .blks C) => b < base + m ∧ b ∉ C
 | .on b _, (m, .blks C) => b < base + m ∧ b ∉ C
 | _, _ => False
def cpM : Dep → Fp → Prop
 | .zone, _ => True
 | .blk b, .blks C => b ∉ C
 | .on b _, .blks C => b ∉ C
 | _, _ => False
def okL (base : Nat) (om : List Nat) (d : Dep) : List (Nat × Fp) → Prop
 | [] => True
 | x :: r => (cpL base d x ∧ okL base om d r) ∨ ∀ y ∈ x :: r, y.1 ∈ om
inductive MkL (Q : ((Nat → Option ABlk) → Prop) → Prop) (om : List Nat) (fp : Fp) : List (Nat × Dep) → List (Nat × Dep) → Prop where
 | nil : MkL Q om fp [] []
 | keep {j : Nat} {d : Dep} {r r' : List (Nat × Dep)} (h : cpM d fp) (k : MkL Q om fp r r') : MkL Q om fp ((j, d) :: r) ((j, d) :: r')
 | drop {j : Nat} {d : Dep} {r r' : List (Nat × Dep)} (h : j ∈ om) (k : MkL Q om fp r r') : MkL Q om fp ((j, d) :: r) ((j, .no) :: r')
 | redo {j b : Nat} {S : (Nat → Option ABlk) → Prop} {r r' : List (Nat × Dep)} (h : Q S) (k : MkL Q om fp r r') : MkL Q om fp ((j, .on b S) :: r) ((j, .on b S) :: r')
def FpOk (Zs : Zn) (h h1 : AH) : Fp → Prop
 | .any => Zin Zs h1
 | .blks C => Zin Zs h1 ∧ ∀ b, b < h.next → b ∉ C → h1.blk b = h.blk b
theorem FpOk.zin {Zs : Zn} {h h1 : AH} {fp : Fp} (hf : FpOk Zs h h1 fp) : Zin Zs h1 := by cases fp <;> first | exact hf | exact hf.1
def lowr (h h1 : AH) : AH := { h1 with low := if h1.low < h.low then h1.low else h.low }
def wpDF (P : Program) (base : Nat) (Zs : Zn) : List (Nat × Dep) → List (Nat × Fp) → Nat → List COpF → Env → AH → (Env → AH → Prop) → Prop
 | _, _, _, [], e, h, K => K e h
 | lk, ef, i, o :: os, e, h, K =>
  let step : Prop := match o.cl with
   | .pure => ∃ v h', aOp P (callI P) e.ev o.op h = some (v, h') ∧ wpDF P base Zs lk ef (i + 1) os (e.put o.d v) h K
   | .look => ∃ v d, aLook P e.ev o.op h = some v ∧ StabF P Zs (base + i) h e.ev o.op v d ∧ okL base o.om d ef ∧ wpDF P base Zs ((i, d) :: lk) ef (i + 1) os (e.put o.d v) h K
   | .fresh => ∃ f, aFresh P e.ev o.op = some f ∧ wpDF P base Zs lk ef (i + 1) os (e.put o.d (f.1 (base + i))) { h with t := h.t.set (base + i) (some ⟨f.2.1, true, f.2.2⟩) } K
   | .make => ∃ v h1, aOp P (callI P) e.ev o.op { h with low := h.next } = some (v, h1) ∧
     ((h.next ≤ h1.low ∧ wpDF P base Zs lk ef (i + 1) os (e.put o.d v) (lowr h h1) K) ∨
      (∃ fp lk', FpOk Zs h h1 fp ∧ MkL (fun S => S h1.blk) o.om fp lk lk' ∧ wpDF P base Zs lk' ((i, fp) :: ef) (i + 1) os (e.put o.d v) (lowr h h1) K))
  match o.g with
  | none => step
  | some (t, w) => ∃ j, t = some j ∧ ((e.get j = .bool w ∧ step) ∨ (e.get j ≠ .bool w ∧ wpDF P base Zs lk ef (i + 1) os (e.put o.d undef) h K))
section
variable {P : Program}
theorem omOf_at {ops : List Oper} {ps : List Nat} {i j : Nat} {c : Cls} (h : j ∈ omOf P ops ps i c) : ordered ps i j = true := by
 have := (List.mem_filter.1 h).2
 rw [Bool.and_eq_true] at this
 exact this.2
def LookOk (P : Program) (ops : List Oper) (Zs : Zn) (top : Nat) (h : AH) (lk : List (Nat × Dep)) (x : Nat × Env × Value) : Prop :=
 ∃ d, (x.1, d) ∈ lk ∧ StabF P Zs top h x.2.1.ev (ops.getD x.1 default).op x.2.2 d
def EffOk (base : Nat) (Zs : Zn) (h : AH) (ef : List (Nat × Fp)) (x : Nat × AH) : Prop :=
 Zin Zs x.2 ∧ ∃ pre fp r, ef = pre ++ (x.1, fp) :: r ∧ ∀ b, b < base + x.1 → (∀ y ∈ pre ++ [(x.1, fp)], ∃ C, y.2 = .blks C ∧ b ∉ C) → h.blk b = x.2.blk b
structure DInvF (P : Program) (ops : Array Oper) (base : Nat) (Zs : Zn) (i : Nat) (lk : List (Nat × Dep)) (ef : List (Nat × Fp)) (h : AH) (looks : List (Nat × Env × Value)) (effs : List (Nat × AH)) : Prop where
 bn : base + ops.toList.length ≤ h.next
 zb : ∀ b, Zs b ≠ none → b < base
 zin : Zin Zs h
 look : ∀ x ∈ looks, LookOk P ops.toList Zs (base + i) h lk x
 efi : ∀ x ∈ ef, x.1 < i
 eff : ∀ x ∈ effs, EffOk base Zs h ef x
theorem okL_at {base : Nat} {om : List Nat} {d : Dep} : ∀ {pre r : List (Nat × Fp)} {x : Nat × Fp}, okL base om d (pre ++ x :: r) → (∀ y ∈ pre ++ [x], cpL base d y) ∨ x.1 ∈ om := by
 intro pre
 induction pre with
 | nil =>
  intro r x h
  rcases h with h | h
  ·exact .inl fun y hy => by simp at hy; subst hy; exact h.1
  ·exact .inr (h x (by simp))
 | cons p pre ih =>
  intro r x h
  rcases h with ⟨h1, h2⟩ | h
  ·rcases ih h2 with q | q
   ·exact .inl fun y hy => by
     rcases List.mem_cons.1 hy with rfl | hy
     ·exact h1
     ·exact q y hy
   ·exact .inr q
  ·exact .inr (h x (by simp))
theorem MkL.at {Q : ((Nat → Option ABlk) → Prop) → Prop} {om : List Nat} {fp : Fp} {lk lk' : List (Nat × Dep)} (h : MkL Q om fp lk lk') : ∀ {j : Nat} {d : Dep}, (j, d) ∈ lk → (cpM d fp ∧ (j, d) ∈ lk') ∨ (j ∈ om ∧ (j, .no) ∈ lk') ∨ ∃ b S, d = .on b S ∧ Q S ∧ (j, d) ∈ lk' := by
 induction h with
 | nil => intro j d h; cases h
 | keep h k ih =>
  intro j d hm
  rcases List.mem_cons.1 hm with e | hm
  ·injection e with e1 e2; subst e1; subst e2; exact .inl ⟨h, List.mem_cons_self⟩
  ·exact (ih hm).imp (fun q => ⟨q.1, List.mem_cons_of_mem _ q.2⟩) (fun q => q.imp (fun q => ⟨q.1, List.mem_cons_of_mem _ q.2⟩) (fun ⟨b, S, q1, q2, q3⟩ => ⟨b, S, q1, q2, List.mem_cons_of_mem _ q3⟩))
 | drop h k ih =>
  intro j d hm
  rcases List.mem_cons.1 hm with e | hm
  ·injection e with e1 e2; subst e1; subst e2; exact .inr (.inl ⟨h, List.mem_cons_self⟩)
  ·exact (ih hm).imp (fun q => ⟨q.1, List.mem_cons_of_mem _ q.2⟩) (fun q => q.imp (fun q => ⟨q.1, List.mem_cons_of_mem _ q.2⟩) (fun ⟨b, S, q1, q2, q3⟩ => ⟨b, S, q1, q2, List.mem_cons_of_mem _ q3⟩))
 | redo h k ih =>
  intro j d hm
  rcases List.mem_cons.1 hm with e | hm
  ·injection e with e1 e2; subst e1; subst e2; exact .inr (.inr ⟨_, _, rfl, h, List.mem_cons_self⟩)
  ·exact (ih hm).imp (fun q => ⟨q.1, List.mem_cons_of_mem _ q.2⟩) (fun q => q.imp (fun q => ⟨q.1, List.mem_cons_of_mem _ q.2⟩) (fun ⟨b, S, q1, q2, q3⟩ => ⟨b, S, q1, q2, List.mem_cons_of_mem _ q3⟩))
theorem StabF.same {Zs : Zn} {top top' : Nat} {h h' : AH} {ev : Operand → Value} {op : Op} {v : Value} {d : Dep} (hs : StabF P Zs top h ev op v d) (ht : top ≤ top') (hh : ∀ b, b < top → d.at = some b → h'.blk b = h.blk b) : StabF P Zs top' h' ev op v d := by
 cases d with
 | no => trivial
 | zone => exact hs
 | blk b => exact ⟨hs.1, Nat.lt_of_lt_of_le hs.2.1 ht, fun h2 q => hs.2.2 h2 (q.trans (hh b hs.2.1 rfl))⟩
 | on b S => exact ⟨hs.1, Nat.lt_of_lt_of_le hs.2.1 ht, hs.2.2.2.2 _ _ (hh b hs.2.1 rfl) hs.2.2.1, hs.2.2.2.1, hs.2.2.2.2⟩
theorem wpDF_run {ops : Array Oper} {base : Nat} {Zs : Zn} : ∀ (os : List Oper) (i : Nat) {lk : List (Nat × Dep)} {ef : List (Nat × Fp)} {e : Env} {h : AH} {K : Env → AH → Prop} {looks : List (Nat × Env × Value)} {effs : List (Nat × AH)},
  ops.toList.drop i = os → DInvF P ops base Zs i lk ef h looks effs →
  wpDF P base Zs lk ef i (stripF P ops (preds ops.toList) i os) e h K → ∃ s, aDraw P (callI P) ops base i os ⟨e, h, looks, effs⟩ = some s ∧ K s.e s.h := by
 intro os
 induction os with
 | nil => intro i lk ef e h K looks effs hd hI hw; exact ⟨_, rfl, hw⟩
 | cons o os ih =>
  intro i lk ef e h K looks effs hd hI hw
  have hi : ops.toList[i]? = some o := by
   have : (ops.toList.drop i)[0]? = some o := by rw [hd]; rfl
   rw [List.getElem?_drop] at this; simpa using this
  have hil : i < ops.toList.length := by
   rcases Nat.lt_or_ge i ops.toList.length with q | q
   ·exact q
   ·rw [List.getElem?_eq_none q] at hi; cases hi
  have hgd : ops.toList.getD i default = o := by rw [List.getD_eq_getElem?_getD, hi]; rfl
  have hd' : ops.toList.drop (i + 1) = os := by
   have := congrArg List.tail hd
   rw [List.tail_drop] at this; exact this
  have hnext : DInvF P ops base Zs (i + 1) lk ef h looks effs :=
   ⟨hI.bn, hI.zb, hI.zin, fun x hx => by
    obtain ⟨d, h1, h2⟩ := hI.look x hx
    exact ⟨d, h1, h2.same (by omega) (fun _ _ _ => rfl)⟩, fun x hx => Nat.lt_succ_of_lt (hI.efi x hx), hI.eff⟩
  simp only [stripF, wpDF] at hw
  simp only [aDraw]
  have main : (match cls P o.op with
   | .pure => ∃ v h', aOp P (callI P) e.ev o.op h = some (v, h') ∧ wpDF P base Zs lk ef (i + 1) (stripF P ops (preds ops.toList) (i + 1) os) (e.put o.dst v) h K
   | .look => ∃ v d, aLook P e.ev o.op h = some v ∧ StabF P Zs (base + i) h e.ev o.op v d ∧ okL base (omOf P ops.toList (preds ops.toList) i (cls P o.op)) d ef ∧ wpDF P base Zs ((i, d) :: lk) ef (i + 1) (stripF P ops (preds ops.toList) (i + 1) os) (e.put o.dst v) h K
   | .fresh => ∃ f, aFresh P e.ev o.op = some f ∧ wpDF P base Zs lk ef (i + 1) (stripF P ops (preds ops.toList) (i + 1) os) (e.put o.dst (f.1 (base + i))) { h with t := h.t.set (base + i) (some ⟨f.2.1, true, f.2.2⟩) } K
   | .make => ∃ v h1, aOp P (callI P) e.ev o.op { h with low := h.next } = some (v, h1) ∧
     ((h.next ≤ h1.low ∧ wpDF P base Zs lk ef (i + 1) (stripF P ops (preds ops.toList) (i + 1) os) (e.put o.dst v) (lowr h h1) K) ∨
      (∃ fp lk', FpOk Zs h h1 fp ∧ MkL (fun S => S h1.blk) (omOf P ops.toList (preds ops.toList) i (cls P o.op)) fp lk lk' ∧ wpDF P base Zs lk' ((i, fp) :: ef) (i + 1) (stripF P ops (preds ops.toList) (i + 1) os) (e.put o.dst v) (lowr h h1) K))) →
   ∃ s, (aDrawOp P (callI P) ops.toList base i o ⟨e, h, looks, effs⟩).bind (fun s' => aDraw P (callI P) ops base (i + 1) os s') = some s ∧ K s.e s.h := by
   intro hs
   unfold aDrawOp
   cases hc : cls P o.op with
   | pure =>
    rw [hc] at hs
    obtain ⟨v, h', h1, h2⟩ := hs
    simp only [h1, Option.map_some, Option.bind_some]
    exact ih (i + 1) hd' hnext h2
   | look =>
    rw [hc] at hs
    obtain ⟨v, d, h1, h2, h3, h4⟩ := hs
    simp only [h1, Option.bind_some]
    rw [if_pos (List.all_eq_true.2 fun x hx => by
     obtain ⟨z1, pre, fp, r, rfl, z2⟩ := hI.eff x hx
     rcases okL_at h3 with q | q
     ·have hlook : aLook P e.ev o.op x.2 = some v ∧ sameV v v = true := by
       cases d with
       | no => exact (q (x.1, fp) (by simp)).elim
       | zone => exact ⟨h2.2 _ z1, h2.1⟩
       | blk b =>
        have hbx : b < base + x.1 := by
         have := q (x.1, fp) (by simp)
         cases fp with
         | any => exact this.elim
         | blks C => exact this.1
        refine ⟨h2.2.2 _ (z2 b hbx fun y hy => ?_).symm, h2.1⟩
        have := q y hy
        obtain ⟨m, fy⟩ := y
        cases fy with
        | any => exact this.elim
        | blks C => exact ⟨C, rfl, this.2⟩
       | on b S =>
        have hbx : b < base + x.1 := by
         have := q (x.1, fp) (by simp)
         cases fp with
         | any => exact this.elim
         | blks C => exact this.1
        refine ⟨h2.2.2.2.1 _ (h2.2.2.2.2 _ _ (z2 b hbx fun y hy => ?_).symm h2.2.2.1), h2.1⟩
        have := q y hy
        obtain ⟨m, fy⟩ := y
        cases fy with
        | any => exact this.elim
        | blks C => exact ⟨C, rfl, this.2⟩
      rw [hlook.1]; simp only [hlook.2, Bool.or_true]
     ·rw [omOf_at q]; rfl)]
    simp only [Option.bind_some]
    refine ih (i + 1) hd' ⟨hI.bn, hI.zb, hI.zin, fun x hx => ?_, hnext.efi, hI.eff⟩ h4
    rcases List.mem_cons.1 hx with rfl | hx
    ·exact ⟨d, List.mem_cons_self, by rw [hgd]; exact h2.same (by omega) (fun _ _ _ => rfl)⟩
    ·obtain ⟨d', q1, q2⟩ := hnext.look x hx
     exact ⟨d', List.mem_cons_of_mem _ q1, q2⟩
   | fresh =>
    rw [hc] at hs
    obtain ⟨f, h1, h2⟩ := hs
    simp only [h1, Option.map_some, Option.bind_some]
    have hsame : ∀ b, b ≠ base + i → AH.blk { h with t := h.t.set (base + i) (some ⟨f.2.1, true, f.2.2⟩) } b = h.blk b := fun b hb => (Tr.get_set _ _ _ _).trans (if_neg hb)
    refine ih (i + 1) hd' ⟨hI.bn, hI.zb, fun b cs hz => ?_, fun x hx => ?_, hnext.efi, fun x hx => ?_⟩ h2
    ·have := hI.zb b (by rw [hz]; simp)
     rw [hsame b (by omega)]; exact hI.zin b cs hz
    ·obtain ⟨d, q1, q2⟩ := hI.look x hx
     exact ⟨d, q1, q2.same (by omega) fun b hb _ => hsame b (by omega)⟩
    ·obtain ⟨z1, pre, fp, r, z2, z3⟩ := hI.eff x hx
     have hxi : x.1 < i := hI.efi (x.1, fp) (by rw [z2]; simp)
     exact ⟨z1, pre, fp, r, z2, fun b hb hy => (hsame b (by omega)).trans (z3 b hb hy)⟩
   | make =>
    rw [hc] at hs
    obtain ⟨v, h1, q1, q2⟩ := hs
    simp only [q1, Option.bind_some]
    have hstay := aOp_stay (callI_stay (P := P)) q1
    have hbn : base + ops.toList.length ≤ h1.next := Nat.le_trans hI.bn hstay.next
    have hblk : ∀ b, (lowr h h1).blk b = h1.blk b := fun _ => rfl
    by_cases hlow : h.next ≤ h1.low
    ·rw [if_pos hlow]
     simp only [Option.bind_some]
     have hsame : ∀ b, b < h.next → h1.blk b = h.blk b := fun b hb => hstay.blk b hb (Nat.lt_of_lt_of_le hb hlow)
     have hz : Zin Zs (lowr h h1) := fun b cs hz => by
      have := hI.zb b (by rw [hz]; simp)
      obtain ⟨B, z1, z2⟩ := hI.zin b cs hz
      exact ⟨B, by rw [hblk, hsame b (by have := hI.bn; omega)]; exact z1, z2⟩
     rcases q2 with ⟨_, q3⟩ | ⟨fp, lk', q3, q4, q5⟩
     ·refine ih (i + 1) hd' ⟨hbn, hI.zb, hz, fun x hx => ?_, hnext.efi, fun x hx => ?_⟩ q3
      ·obtain ⟨d, p1, p2⟩ := hI.look x hx
       exact ⟨d, p1, p2.same (by omega) fun b hb _ => hsame b (by have := hI.bn; omega)⟩
      ·obtain ⟨z1, pre, fp, r, z2, z3⟩ := hI.eff x hx
       have hxi : x.1 < i := hI.efi (x.1, fp) (by rw [z2]; simp)
       exact ⟨z1, pre, fp, r, z2, fun b hb hy => (hsame b (by have := hI.bn; omega)).trans (z3 b hb hy)⟩
     ·refine ih (i + 1) hd' ⟨hbn, hI.zb, hz, fun x hx => ?_, fun x hx => ?_, fun x hx => ?_⟩ q5
      ·obtain ⟨d, p1, p2⟩ := hI.look x hx
       rcases q4.at p1 with ⟨_, p3⟩ | ⟨_, p3⟩ | ⟨_, _, rfl, _, p3⟩
       ·exact ⟨d, p3, p2.same (by omega) fun b hb _ => hsame b (by have := hI.bn; omega)⟩
       ·exact ⟨.no, p3, trivial⟩
       ·exact ⟨_, p3, p2.same (by omega) fun b hb _ => hsame b (by have := hI.bn; omega)⟩
      ·rcases List.mem_cons.1 hx with rfl | hx
       ·exact Nat.lt_succ_self _
       ·exact Nat.lt_succ_of_lt (hI.efi x hx)
      ·obtain ⟨z1, pre, fp', r, z2, z3⟩ := hI.eff x hx
       have hxi : x.1 < i := hI.efi (x.1, fp') (by rw [z2]; simp)
       refine ⟨z1, (i, fp) :: pre, fp', r, by rw [z2]; rfl, fun b hb hy => (hsame b (by have := hI.bn; omega)).trans (z3 b hb fun y hy' => hy y (List.mem_cons_of_mem _ hy'))⟩
    ·rw [if_neg hlow]
     rcases q2 with ⟨q2, _⟩ | ⟨fp, lk', q3, q4, q5⟩
     ·exact absurd q2 hlow
     ·rw [if_pos (List.all_eq_true.2 fun x hx => by
       obtain ⟨d, p1, p2⟩ := hI.look x hx
       rcases q4.at p1 with ⟨p3, _⟩ | ⟨p3, _⟩ | ⟨_, _, rfl, p3, _⟩
       ·have : aLook P x.2.1.ev (ops.toList.getD x.1 default).op (lowr h h1) = some x.2.2 ∧ sameV x.2.2 x.2.2 = true := by
         cases d with
         | no => exact p3.elim
         | zone => exact ⟨p2.2 _ q3.zin, p2.1⟩
         | blk b =>
          cases fp with
          | any => exact p3.elim
          | blks C => exact ⟨p2.2.2 _ (q3.2 b (by have := p2.2.1; have := hI.bn; omega) p3), p2.1⟩
         | on b S =>
          cases fp with
          | any => exact p3.elim
          | blks C => exact ⟨p2.2.2.2.1 _ (p2.2.2.2.2 _ _ (q3.2 b (by have := p2.2.1; have := hI.bn; omega) p3) p2.2.2.1), p2.1⟩
        have e1 := this.1
        unfold lowr at e1
        rw [e1]; simp only [this.2, Bool.or_true]
       ·rw [omOf_at p3]; rfl
       ·have e1 : aLook P x.2.1.ev (ops.toList.getD x.1 default).op (lowr h h1) = some x.2.2 := p2.2.2.2.1 _ p3
        unfold lowr at e1
        rw [e1]; simp only [p2.1, Bool.or_true])]
      simp only [Option.bind_some]
      refine ih (i + 1) hd' ⟨hbn, hI.zb, q3.zin, fun x hx => ?_, fun x hx => ?_, fun x hx => ?_⟩ q5
      ·obtain ⟨d, p1, p2⟩ := hI.look x hx
       rcases q4.at p1 with ⟨p3, p4⟩ | ⟨_, p4⟩ | ⟨_, _, rfl, p3, p4⟩
       ·refine ⟨d, p4, p2.same (by omega) fun b hb e => ?_⟩
        cases d with
        | no => cases e
        | zone => cases e
        | blk c =>
         injection e with e; subst e
         cases fp with
         | any => exact p3.elim
         | blks C => exact q3.2 _ (by have := hI.bn; omega) p3
        | on c S =>
         injection e with e; subst e
         cases fp with
         | any => exact p3.elim
         | blks C => exact q3.2 _ (by have := hI.bn; omega) p3
       ·exact ⟨.no, p4, trivial⟩
       ·exact ⟨_, p4, p2.1, Nat.lt_of_lt_of_le p2.2.1 (by omega), p3, p2.2.2.2.1, p2.2.2.2.2⟩
      ·rcases List.mem_cons.1 hx with rfl | hx
       ·exact Nat.lt_succ_self _
       ·exact Nat.lt_succ_of_lt (hI.efi x hx)
      ·rcases List.mem_cons.1 hx with rfl | hx
       ·refine ⟨hI.zin, [], fp, ef, rfl, fun b hb hy => ?_⟩
        obtain ⟨C, e1, e2⟩ := hy (i, fp) (by simp)
        have e1' : fp = .blks C := e1
        subst e1'
        exact q3.2 b (by have := hI.bn; omega) e2
       ·obtain ⟨z1, pre, fp', r, z2, z3⟩ := hI.eff x hx
        have hxi : x.1 < i := hI.efi (x.1, fp') (by rw [z2]; simp)
        refine ⟨z1, (i, fp) :: pre, fp', r, by rw [z2]; rfl, fun b hb hy => ?_⟩
        obtain ⟨C, e1, e2⟩ := hy (i, fp) (by simp)
        have e1' : fp = .blks C := e1
        subst e1'
        exact (q3.2 b (by have := hI.bn; omega) e2).trans (z3 b hb fun y hy' => hy y (List.mem_cons_of_mem _ hy'))
  cases hg : o.guard with
  | none =>
   rw [hg] at hw
   simp only [Option.map_none] at hw
   have hwn : aWanted ops e o = true := by simp only [aWanted, hg]
   rw [if_pos hwn]
   exact main hw
  | some g =>
   obtain ⟨j0, w⟩ := g
   rw [hg] at hw
   simp only [Option.map_some] at hw
   obtain ⟨j, hj, hw⟩ := hw
   have hy : aWanted ops e o = true ↔ e.get j = .bool w := wanted_iff hg hj
   rcases hw with ⟨hb, hw⟩ | ⟨hb, hw⟩
   ·rw [if_pos (hy.2 hb)]
    exact main hw
   ·rw [if_neg (fun q => hb (hy.1 q))]
    exact ih (i + 1) hd' hnext hw
theorem stripF_length {ops : Array Oper} {ps : List Nat} : ∀ (os : List Oper) (i : Nat), (stripF P ops ps i os).length = os.length := by
 intro os
 induction os with
 | nil => intro i; rfl
 | cons o os ih => intro i; simp only [stripF, List.length_cons, ih]
def wpRF (P : Program) (R : List COpF) (base : Nat) (Zs : Zn) (lk : List (Nat × Dep)) (ef : List (Nat × Fp)) (k : Nat) (l : KL) (h : AH) (K : KL → AH → Prop) : Prop := ∀ e, EnvIs e l → wpDF P base Zs lk ef k (R.drop k) e h (fun e' h' => ∃ l', EnvIs e' l' ∧ K l' h')
end
section
variable {P : Program} {h0 h h' h1 : AH} {D : List Nat} {Z0 Z Z' Z1 Zs : Zn} {Rv : Nat × Nat} {L L' : List Itm} {R : List COpF} {base k : Nat} {l l' : KL} {K : KL → AH → Prop} {g : Option (Option Nat × Bool)} {d : Option Nat} {op : Op} {om : List Nat} {lk lk' : List (Nat × Dep)} {ef : List (Nat × Fp)}
theorem W_regionF {c : Code} {N : KL → AH → Prop} {X : AEx → KL → AH → Prop} (hc : regOfF P c = some R) (hS : St h0 D Z0 Rv Z h L) (hw : ∀ base h', (∀ p ∈ L, ∀ b ∈ p.ids, b < base) ∧ (∀ b, Z b ≠ none → b < base) → St h0 D Z0 (base, base + R.length) Z h' L → wpRF P R base Z [] [] 0 l h' N) : W P c l h N X := by
 intro e he
 cases c with
 | region i ops dr =>
  cases dr with
  | false => cases hc
  | true =>
   simp only [regOfF, Option.some.injEq] at hc
   have hlen : R.length = ops.size := by rw [← hc, stripF_length, Array.length_toList]
   have hzb : ∀ b, Z b ≠ none → b < h.next := fun b hb => by
    cases hz : Z b with
    | none => exact absurd hz hb
    | some cs => obtain ⟨B, q, _⟩ := hS.zin b cs hz; exact hS.liv b (by rw [q]; simp)
   have h1 := hw h.next _ ⟨fun p hp b hb => hS.toPre.lt hp hb, hzb⟩ (hS.reserve R.length) e he
   rw [List.drop_zero, ← hc] at h1
   obtain ⟨s, h2, h3⟩ := wpDF_run (base := h.next) ops.toList 0 (looks := []) (effs := []) (by simp) ⟨by rw [hc, hlen, Array.length_toList]; exact Nat.le_refl _, hzb, fun b cs hz => (hS.reserve (stripF P ops (preds ops.toList) 0 ops.toList).length).zin b cs hz, fun x hx => (by cases hx), fun x hx => (by cases hx), fun x hx => (by cases hx)⟩ h1
   refine ⟨.normal, s.e, s.h, ⟨1, ?_⟩, h3⟩
   simp only [aCode, aRegionD]
   rw [hc, hlen] at h2
   rw [h2]; rfl
 | _ => cases hc
theorem e_val (ho : R[k]? = some ⟨g, d, op, .pure, om⟩) (hg : gon l g) {v : Value} (h1' : OpTo P l op h v h) (hk : wpRF P R base Zs lk ef (k + 1) (updL l d v) h K) : wpRF P R base Zs lk ef k l h K := by
 intro e he
 rw [drop_at ho]
 simp only [wpDF]
 have hx := hk (e.put d v) (he.upd d v)
 match g, hg with
 | none, _ => exact ⟨v, h, h1' e he, hx⟩
 | some (some t, w), hg => exact ⟨t, rfl, .inl ⟨he t _ hg, v, h, h1' e he, hx⟩⟩
theorem e_exv {Q : Value → Prop} (ho : R[k]? = some ⟨g, d, op, .pure, om⟩) (hg : gon l g) (hx : ∃ v, OpTo P l op h v h ∧ Q v) (hk : ∀ v, Q v → wpRF P R base Zs lk ef (k + 1) (updL l d v) h K) : wpRF P R base Zs lk ef k l h K := by
 obtain ⟨v, h1, h2⟩ := hx
 exact e_val ho hg h1 (hk v h2)
theorem e_look (dp : Dep) (hcl : cls P op = .look) (ho : R[k]? = some ⟨g, d, op, .look, om⟩) (hg : gon l g) {v : Value} (h1' : OpTo P l op h v h) (hs : ∀ e, EnvIs e l → StabF P Zs (base + k) h e.ev op v dp) (hok : okL base om dp ef)
  (hk : wpRF P R base Zs ((k, dp) :: lk) ef (k + 1) (updL l d v) h K) : wpRF P R base Zs lk ef k l h K := by
 intro e he
 rw [drop_at ho]
 simp only [wpDF]
 have hx := hk (e.put d v) (he.upd d v)
 have hv := look_of hcl (h1' e he)
 match g, hg with
 | none, _ => exact ⟨v, dp, hv, hs e he, hok, hx⟩
 | some (some t, w), hg => exact ⟨t, rfl, .inl ⟨he t _ hg, v, dp, hv, hs e he, hok, hx⟩⟩
theorem e_lookN (hcl : cls P op = .look) (ho : R[k]? = some ⟨g, d, op, .look, om⟩) (hg : gon l g) {v : Value} (h1' : OpTo P l op h v h) (hok : okL base om .no ef)
  (hk : wpRF P R base Zs ((k, .no) :: lk) ef (k + 1) (updL l d v) h K) : wpRF P R base Zs lk ef k l h K := e_look .no hcl ho hg h1' (fun _ _ => trivial) hok hk
theorem e_lookB {t : TypeId} {x : Operand} {a : Addr} {v : Value} (ho : R[k]? = some ⟨g, d, .load t x, .look, om⟩) (hg : gon l g) (hx : opv l x = some (.pointer (some a))) (hb : a.block < base + k) (hs : sameV v v = true) (h1' : OpTo P l (.load t x) h v h) (hok : okL base om (.blk a.block) ef)
  (hk : wpRF P R base Zs ((k, .blk a.block) :: lk) ef (k + 1) (updL l d v) h K) : wpRF P R base Zs lk ef k l h K := by
 refine e_look (.blk a.block) rfl ho hg h1' (fun e he => ⟨hs, hb, fun h2 hh => ?_⟩) hok hk
 have hv : aLook P e.ev (.load t x) h = some v := look_of rfl (h1' e he)
 simp only [aLook, he.opv hx, aLoad, AH.cellsAt, AH.load] at hv ⊢
 rw [hh]; exact hv
def LdAt (P : Program) (t : TypeId) (b off : Nat) (v : Value) : (Nat → Option ABlk) → Prop := fun f => ∃ B, f b = some B ∧ ldB P t off B.cells = some v
theorem St.ldAt {t : TypeId} {b off i : Nat} {cells : List Value} {v : Value} (hS : St h0 D Z0 Rv Z h L) (hi : L[i]? = some (.blk b cells)) (hv : ldB P t off cells = some v) : LdAt P t b off v h.blk := by
 obtain ⟨z, hz⟩ := hS.ok _ (List.mem_of_getElem? hi)
 exact ⟨_, hz, hv⟩
theorem LdAt.load {t : TypeId} {b off : Nat} {v : Value} {h2 : AH} (hL : LdAt P t b off v h2.blk) : aLoad P t (.pointer (some ⟨b, off, none⟩)) h2 = some v := by
 obtain ⟨B, hb, hv⟩ := hL
 have hle : off ≤ B.cells.length := by
  unfold ldB at hv
  split at hv
  ·split at hv
   ·split at hv
    ·split at hv
     ·omega
     ·cases hv
    ·cases hv
   ·rcases Nat.lt_or_ge off B.cells.length with q | q
    ·omega
    ·rw [List.getElem?_eq_none q] at hv; cases hv
  ·cases hv
 exact aLoad_at (h := h2) (a := ⟨b, off, none⟩) (off := off) (cells := B.cells) rfl hb hv (fun _ _ _ => trivial) (fun i _ => rfl) (by show off + (B.cells.length - off) ≤ B.cells.length; omega)
theorem e_lookO {t : TypeId} {x : Operand} {b off : Nat} {v : Value} (ho : R[k]? = some ⟨g, d, .load t x, .look, om⟩) (hg : gon l g) (hx : opv l x = some (.pointer (some ⟨b, off, none⟩))) (hb : b < base + k) (hs : sameV v v = true) (hL : LdAt P t b off v h.blk) (hok : okL base om (.on b (LdAt P t b off v)) ef)
  (hk : wpRF P R base Zs ((k, .on b (LdAt P t b off v)) :: lk) ef (k + 1) (updL l d v) h K) : wpRF P R base Zs lk ef k l h K := by
 have hl : ∀ e, EnvIs e l → ∀ h2 : AH, LdAt P t b off v h2.blk → aLook P e.ev (.load t x) h2 = some v := fun e he h2 q => by
  simp only [aLook, he.opv hx]; exact q.load
 refine e_look (.on b (LdAt P t b off v)) rfl ho hg (fun e he => ?_) (fun e he => ⟨hs, hb, hL, hl e he, fun f f' q ⟨B, q1, q2⟩ => ⟨B, by rw [q]; exact q1, q2⟩⟩) hok hk
 simp only [aOp, he.opv hx, hL.load, Option.map_some]
theorem e_lookZ (hcl : cls P op = .look) (ho : R[k]? = some ⟨g, d, op, .look, om⟩) (hg : gon l g) {v : Value} (hop : ∀ h2, Zin Zs h2 → OpTo P l op h2 v h2) (hz : Zin Zs h) (hs : sameV v v = true) (hok : okL base om .zone ef)
  (hk : wpRF P R base Zs ((k, .zone) :: lk) ef (k + 1) (updL l d v) h K) : wpRF P R base Zs lk ef k l h K :=
 e_look .zone hcl ho hg (hop h hz) (fun e he => ⟨hs, fun h2 q => look_of hcl (hop h2 q e he)⟩) hok hk
theorem St.zin0 (hS : St h0 D Z0 Rv Z h L) (hz : Zle Zs Z) : Zin Zs h := fun b cs q => hS.zin b cs (hz b cs q)
theorem RS.elz {α : Type} [Cell α] {v : Value} {xs : List α} (hR : RS Z v xs) {i : Int} {x : α} (hx : xs[i.toNat]? = some x) : ∃ cs, rc Z cs x ∧ ∀ h2, Zin Z h2 → ElAt h2 v i (csz α) cs := by
 obtain ⟨a, c, rfl, h2, h3⟩ := hR
 have hi : i.toNat < xs.length := by
  rcases Nat.lt_or_ge i.toNat xs.length with q | q
  ·exact q
  ·rw [List.getElem?_eq_none q] at hx; cases hx
 cases a with
 | none => subst h3; simp at hi
 | some a =>
  obtain ⟨h4, all, h5, h6, h7⟩ := h3
  obtain ⟨cs, q3, q4⟩ := h7.elem hx
  have hm : i.toNat * csz α + csz α ≤ xs.length * csz α := by
   have := Nat.mul_le_mul_right (csz α) (Nat.succ_le_of_lt hi)
   rw [Nat.succ_mul] at this; exact this
  refine ⟨cs, q3, fun h hz => ?_⟩
  obtain ⟨B, q1, q2⟩ := hz _ _ h5
  refine ⟨B, q1, by rw [q2]; show a.off + _ + _ ≤ _; omega, ?_⟩
  rw [q2, ← q4]
  show List.take _ (List.drop (a.off + _) all) = _
  rw [List.drop_take, List.drop_drop, List.take_take, Nat.min_eq_left (by omega)]
theorem o_tostrz {s t : TypeId} {x : Operand} {v : Value} {xs : List UInt8} (hR : RS Z v xs) (hx : opv l x = some v) (ht : tsTy P s t = true) : ∀ h2, Zin Z h2 → OpTo P l (.convert s t x) h2 (.string ⟨⟨xs⟩⟩) h2 := by
 intro h2 hz e he
 have hn : ∃ news, aNews 1 v h2 = some (xs.length, news) ∧ RCs Z news xs := by
  obtain ⟨a, c, rfl, q2, q3⟩ := hR
  cases a with
  | none => subst q3; exact ⟨[], rfl, rfl⟩
  | some a =>
   obtain ⟨q4, all, q5, q6, q7⟩ := q3
   obtain ⟨B, p1, p2⟩ := hz _ _ q5
   have e1 : csz UInt8 = 1 := rfl
   rw [e1] at q6 q7
   refine ⟨_, ?_, q7⟩
   simp only [aNews, AH.cellsAt, q4, p1, Option.bind_some]
   rw [p2, if_pos (by omega)]; rfl
 obtain ⟨news, p1, p2⟩ := hn
 obtain ⟨a, c, hv, _⟩ := hR
 simp only [aOp, he.opv hx]
 exact conv_str ⟨a, c, hv⟩ p1 p2 ht
theorem e_fresh {f : Fresh} (ho : R[k]? = some ⟨g, d, op, .fresh, om⟩) (hg : gon l g) (hf : FrTo P l op f) (hk : wpRF P R base Zs lk ef (k + 1) (updL l d (f.1 (base + k))) { h with t := h.t.set (base + k) (some ⟨f.2.1, true, f.2.2⟩) } K) : wpRF P R base Zs lk ef k l h K := by
 intro e he
 rw [drop_at ho]
 simp only [wpDF]
 have hx := hk (e.put d _) (he.upd d _)
 have hv := hf.2 e he
 match g, hg with
 | none, _ => exact ⟨f, hv, hx⟩
 | some (some t, w), hg => exact ⟨t, rfl, .inl ⟨he t _ hg, f, hv, hx⟩⟩
theorem e_blk {lw hi : Nat} {cs : List Value} {z : Nat} (ho : R[k]? = some ⟨g, d, op, .fresh, om⟩) (hg : gon l g) (hf : FrTo P l op (fun id => .pointer (some ⟨id, 0, none⟩), cs, z)) (hS : St h0 D Z0 (lw, hi) Z h L) (h1 : lw ≤ base + k) (h2 : base + k < hi)
  (hk : ∀ b h', b = base + k → St h0 D Z0 (b + 1, hi) Z h' (.blk b cs :: L) → wpRF P R base Zs lk ef (k + 1) (updL l d (.pointer (some ⟨b, 0, none⟩))) h' K) : wpRF P R base Zs lk ef k l h K :=
 e_fresh ho hg hf (hk (base + k) _ rfl (hS.put_at h1 h2 cs z _ rfl ⟨z, by
  show AH.blk { h with t := h.t.set (base + k) (some ⟨cs, true, z⟩) } (base + k) = _
  exact (Tr.get_set _ _ _ _).trans (if_pos rfl)⟩))
theorem e_row {lw hi : Nat} {cells : List Value} {n s : Nat} (ho : R[k]? = some ⟨g, d, op, .fresh, om⟩) (hg : gon l g) (hf : FrTo P l op (fun id => .slice (some ⟨id, 0, none⟩) n n, cells, s)) (hn : n * s = cells.length) (hS : St h0 D Z0 (lw, hi) Z h L) (h1 : lw ≤ base + k) (h2 : base + k < hi)
  (hk : ∀ v h' b, b = base + k → (baseOf v).block = b → St h0 D Z0 (b + 1, hi) Z h' (.gs v cells s :: L) → wpRF P R base Zs lk ef (k + 1) (updL l d v) h' K) : wpRF P R base Zs lk ef k l h K :=
 e_fresh ho hg hf (hk _ _ (base + k) rfl rfl (hS.put_at h1 h2 cells s _ rfl (.inr ⟨base + k, n, n, rfl, hn, .inl rfl, (Tr.get_set _ _ _ _).trans (if_pos rfl)⟩)))
theorem e_mks {α : Type} [Cell α] {lw hi n : Nat} {xs : List α} (ho : R[k]? = some ⟨g, d, op, .fresh, om⟩) (hg : gon l g) (hx : ∃ cells, FrTo P l op (fun id => .slice (some ⟨id, 0, none⟩) n n, cells, csz α) ∧ RCs Z cells xs ∧ n * csz α = cells.length) (hS : St h0 D Z0 (lw, hi) Z h L) (h1 : lw ≤ base + k) (h2 : base + k < hi)
  (hk : ∀ v cells h' b, b = base + k → (baseOf v).block = b → RCs Z cells xs → St h0 D Z0 (b + 1, hi) Z h' (.gs v cells (csz α) :: L) → wpRF P R base Zs lk ef (k + 1) (updL l d v) h' K) : wpRF P R base Zs lk ef k l h K := by
 obtain ⟨cells, q1, q2, q3⟩ := hx
 exact e_row ho hg q1 q3 hS h1 h2 fun v h' b e1 e2 hS' => hk v cells h' b e1 e2 q2 hS'
theorem e_skip {t : Nat} {w : Bool} {b : Value} {cl : Cls} (ho : R[k]? = some ⟨some (some t, w), d, op, cl, om⟩) (hl : Sy.lk l t = some b) (hb : b ≠ .bool w) (hk : wpRF P R base Zs lk ef (k + 1) (updL l d undef) h K) : wpRF P R base Zs lk ef k l h K := by
 intro e he
 rw [drop_at ho]
 simp only [wpDF]
 exact ⟨t, rfl, .inr ⟨by rw [he t _ hl]; exact hb, hk _ (he.upd d undef)⟩⟩
theorem e_end (ho : R.length = k) (hk : K l h) : wpRF P R base Zs lk ef k l h K := by
 intro e he
 rw [List.drop_eq_nil_of_le (by omega)]
 exact ⟨l, he, hk⟩
theorem e_setb {t : Nat} {b w : Bool} (hl : Sy.lk l t = some (.bool b)) (hb : b = w) (hk : wpRF P R base Zs lk ef k ((t, .bool w) :: l) h K) : wpRF P R base Zs lk ef k l h K := by
 intro e he
 subst hb
 refine hk e fun u v hu => ?_
 simp only [Sy.lk] at hu
 cases hx : Nat.beq t u with
 | true =>
  rw [hx] at hu
  have := Nat.eq_of_beq_eq_true hx
  subst this
  simp only [Option.some.injEq] at hu
  subst hu
  exact he t _ hl
 | false => rw [hx] at hu; exact he u v hu
theorem e_forget (ts : List Nat) (hp : Sy.pick l ts = l') (hk : wpRF P R base Zs lk ef k l' h K) : wpRF P R base Zs lk ef k l h K := by
 subst hp
 exact fun e he => hk e (he.pick ts)
def runF (P : Program) : List COpF → Nat → KL → Option KL
 | _, 0, l => some l
 | [], _ + 1, _ => none
 | o :: os, m + 1, l =>
  match o.g with
  | none => (match o.cl, pureV P l o.op with | .pure, some v => runF P os m (updL l o.d v) | _, _ => none)
  | some (some t, w) => (match Sy.lk l t with
   | some b => (match isB w b with
    | true => (match o.cl, pureV P l o.op with | .pure, some v => runF P os m (updL l o.d v) | _, _ => none)
    | false => runF P os m (updL l o.d undef))
   | none => none)
  | some (none, _) => none
theorem pureF_step {cl : Cls} {os : List COpF} {m i : Nat} {l l' : KL} {h : AH} {K : Env → AH → Prop} {e : Env} (he : EnvIs e l) (hr : (match cl, pureV P l op with | .pure, some v => runF P os m (updL l d v) | _, _ => none) = some l')
  (ih : ∀ {v : Value}, runF P os m (updL l d v) = some l' → wpDF P base Zs lk ef (i + 1) os (e.put d v) h K) : cl = .pure ∧ ∃ v h', aOp P (callI P) e.ev op h = some (v, h') ∧ wpDF P base Zs lk ef (i + 1) os (e.put d v) h K := by
 split at hr
 ·rename_i v hv
  exact ⟨rfl, v, h, pureV_ok he hv, ih hr⟩
 ·cases hr
theorem runF_ok : ∀ (m : Nat) {R : List COpF} {i : Nat} {l l' : KL} {h : AH} {K : Env → AH → Prop} {e : Env}, runF P R m l = some l' → EnvIs e l → (∀ e', EnvIs e' l' → wpDF P base Zs lk ef (i + m) (R.drop m) e' h K) → wpDF P base Zs lk ef i R e h K := by
 intro m
 induction m with
 | zero =>
  intro R i l l' h K e hr he hk
  simp only [runF, Option.some.injEq] at hr
  subst hr
  exact hk e he
 | succ m ih =>
  intro R i l l' h K e hr he hk
  cases R with
  | nil => cases hr
  | cons o os =>
   have hk' : ∀ e', EnvIs e' l' → wpDF P base Zs lk ef (i + 1 + m) (os.drop m) e' h K := fun e' he' => by
    have := hk e' he'
    rw [List.drop_succ_cons] at this
    rw [show i + 1 + m = i + (m + 1) by omega]; exact this
   simp only [runF] at hr
   obtain ⟨g, d, op, cl, om⟩ := o
   match g with
   | none =>
    simp only at hr
    obtain ⟨rfl, hx⟩ := pureF_step (base := base) (Zs := Zs) (lk := lk) (ef := ef) (i := i) (h := h) (K := K) he hr (fun hr => ih hr (he.upd _ _) hk')
    simp only [wpDF]
    exact hx
   | some (some t, w) =>
    simp only at hr
    split at hr
    ·rename_i b hl
     cases hb : isB w b with
     | true =>
      rw [hb] at hr
      simp only at hr
      obtain ⟨rfl, hx⟩ := pureF_step (base := base) (Zs := Zs) (lk := lk) (ef := ef) (i := i) (h := h) (K := K) he hr (fun hr => ih hr (he.upd _ _) hk')
      simp only [wpDF]
      refine ⟨t, rfl, .inl ⟨?_, hx⟩⟩
      rw [he t _ hl]
      exact isB_iff.1 hb
     | false =>
      rw [hb] at hr
      simp only [wpDF]
      refine ⟨t, rfl, .inr ⟨fun q => ?_, ih hr (he.upd _ _) hk'⟩⟩
      rw [he t _ hl] at q
      rw [isB_iff.2 q] at hb
      cases hb
    ·cases hr
   | some (none, _) => cases hr
theorem e_run (m : Nat) (hr : runF P (R.drop k) m l = some l') (hk : wpRF P R base Zs lk ef (k + m) l' h K) : wpRF P R base Zs lk ef k l h K := by
 intro e he
 refine runF_ok m hr he fun e' he' => ?_
 have := hk e' he'
 rw [List.drop_drop]
 exact this
theorem yq (m : Nat) (l' : KL) (hk : wpRF P R base Zs lk ef (k + m) l' h K) (hr : (runF P (R.drop k) m l).map (fun q => pick q (l'.map Prod.fst)) = some l' := by kernel_rfl) : wpRF P R base Zs lk ef k l h K := by
 obtain ⟨q, h1, h2⟩ := Option.map_eq_some_iff.1 hr
 exact e_run m h1 (e_forget _ h2 hk)
theorem ye (m : Nat) (l' : KL) (hk : K l' h) (hr : (runF P (R.drop k) m l).map (fun q => pick q (l'.map Prod.fst)) = some l' := by kernel_rfl) (ho : R.length = k + m := by kernel_rfl) : wpRF P R base Zs lk ef k l h K := yq m l' (e_end ho hk) hr
theorem yf (l' : KL) (hk : K l' h) (hp : pick l (l'.map Prod.fst) = l' := by kernel_rfl) (ho : R.length = k := by kernel_rfl) : wpRF P R base Zs lk ef k l h K := e_forget _ hp (e_end ho hk)
theorem rgF {c : Code} {N : KL → AH → Prop} {X : AEx → KL → AH → Prop} (R : List COpF) (hS : St h0 D Z0 Rv Z h L) (hw : ∀ base h', (∀ p ∈ L, ∀ b ∈ p.ids, b < base) ∧ (∀ b, Z b ≠ none → b < base) → St h0 D Z0 (base, base + R.length) Z h' L → wpRF P R base Z [] [] 0 l h' N) (hc : regOfF P c = some R := by kernel_rfl) : W P c l h N X := W_regionF hc hS hw
def seqRegF (P : Program) : Code → Option (List COpF)
 | .seq a _ => regOfF P a
 | _ => none
theorem srF {c : Code} {N : KL → AH → Prop} {X : AEx → KL → AH → Prop} (R : List COpF) (hS : St h0 D Z0 Rv Z h L)
  (hw : ∀ base h', (∀ p ∈ L, ∀ b ∈ p.ids, b < base) ∧ (∀ b, Z b ≠ none → b < base) → St h0 D Z0 (base, base + R.length) Z h' L → wpRF P R base Z [] [] 0 l h' (fun l h => W P (cR c) l h N X)) (hc : seqRegF P c = some R := by kernel_rfl) : W P c l h N X := by
 cases c with
 | seq a b => exact W_seq rfl (W_regionF hc hS hw)
 | _ => cases hc
theorem e_step (ho : R[k]? = some ⟨g, d, op, .make, om⟩) (hg : gon l g) {v : Value} (h1' : OpTo P l op { h with low := h.next } v h1) (hl : h.next ≤ h1.low) (hk : wpRF P R base Zs lk ef (k + 1) (updL l d v) (lowr h h1) K) : wpRF P R base Zs lk ef k l h K := by
 intro e he
 rw [drop_at ho]
 simp only [wpDF]
 have hx := hk (e.put d v) (he.upd d v)
 match g, hg with
 | none, _ => exact ⟨v, h1, h1' e he, .inl ⟨hl, hx⟩⟩
 | some (some t, w), hg => exact ⟨t, rfl, .inl ⟨he t _ hg, v, h1, h1' e he, .inl ⟨hl, hx⟩⟩⟩
theorem e_stepM {fp : Fp} (ho : R[k]? = some ⟨g, d, op, .make, om⟩) (hg : gon l g) {v : Value} (h1' : OpTo P l op { h with low := h.next } v h1) (hf : FpOk Zs h h1 fp) (hm : MkL (fun S => S h1.blk) om fp lk lk') (hk : wpRF P R base Zs lk' ((k, fp) :: ef) (k + 1) (updL l d v) (lowr h h1) K) : wpRF P R base Zs lk ef k l h K := by
 intro e he
 rw [drop_at ho]
 simp only [wpDF]
 have hx := hk (e.put d v) (he.upd d v)
 match g, hg with
 | none, _ => exact ⟨v, h1, h1' e he, .inr ⟨fp, lk', hf, hm, hx⟩⟩
 | some (some t, w), hg => exact ⟨t, rfl, .inl ⟨he t _ hg, v, h1, h1' e he, .inr ⟨fp, lk', hf, hm, hx⟩⟩⟩
theorem e_still (ho : R[k]? = some ⟨g, d, op, .make, om⟩) (hg : gon l g) (hS : St h0 D Z0 Rv Z h L) {v : Value} (h1' : OpTo P l op { h with low := h.next } v h1) (hS1 : St h0 D Z0 Rv Z1 h1 L') (hl : h.next ≤ h1.low)
  (hk : ∀ h', St h0 D Z0 Rv Z1 h' L' → wpRF P R base Zs lk ef (k + 1) (updL l d v) h' K) : wpRF P R base Zs lk ef k l h K :=
 e_step ho hg h1' hl (hk _ (hS.relow hS1))
theorem e_make {A A' B : List Itm} (ho : R[k]? = some ⟨g, d, op, .make, om⟩) (hg : gon l g) (hS : St h0 D Z0 Rv Z h (A ++ B)) {v : Value} (h1' : OpTo P l op { h with low := h.next } v h1) (hc : St { h with low := h.next } (idsL A) Z (0, 0) Z1 h1 A') (hz : Zle Zs Z1) (hm : MkL (fun S => S h1.blk) om (.blks (idsL A)) lk lk')
  (hk : ∀ h', St h0 D Z0 Rv Z1 h' (A' ++ B) → wpRF P R base Zs lk' ((k, .blks (idsL A)) :: ef) (k + 1) (updL l d v) h' K) : wpRF P R base Zs lk ef k l h K := by
 refine e_stepM (fp := .blks (idsL A)) ho hg h1' ⟨fun b cs q => hc.zin b cs (hz b cs q), fun b hb hn => hc.frm b hb hn⟩ hm (hk _ ?_)
 exact hS.relow (hS.lown.call hc)
theorem St.sub {A B : List Itm} (hS : St h0 D Z0 Rv Z h (A ++ B)) : St { h with low := h.next } (idsL A) Z (0, 0) Z { h with low := h.next } A := hS.preL.start
theorem e_mk1 {p p' : Itm} {B : List Itm} {v : Value} (ho : R[k]? = some ⟨g, d, op, .make, om⟩) (hg : gon l g) (hS : St h0 D Z0 Rv Z h ([p] ++ B)) (hx : ∃ h1, OpTo P l op { h with low := h.next } v h1 ∧ St { h with low := h.next } (idsL [p]) Z (0, 0) Z h1 [p']) (hz : Zle Zs Z) (hm : ∀ {Q}, MkL Q om (.blks (idsL [p])) lk lk')
  (hk : ∀ h', St h0 D Z0 Rv Z h' (p' :: B) → wpRF P R base Zs lk' ((k, .blks (idsL [p])) :: ef) (k + 1) (updL l d v) h' K) : wpRF P R base Zs lk ef k l h K := by
 obtain ⟨h1, q1, q2⟩ := hx
 exact e_make (A := [p]) (A' := [p']) (B := B) ho hg hS q1 q2 hz hm hk
theorem e_mk2 {p : Itm} {B : List Itm} {v : Value} {T : List Value → Prop} {F : List Value → List Itm} (ho : R[k]? = some ⟨g, d, op, .make, om⟩) (hg : gon l g) (hS : St h0 D Z0 Rv Z h ([p] ++ B)) (hx : ∃ h1 c, OpTo P l op { h with low := h.next } v h1 ∧ T c ∧ St { h with low := h.next } (idsL [p]) Z (0, 0) Z h1 (F c)) (hz : Zle Zs Z) (hm : ∀ {Q}, MkL Q om (.blks (idsL [p])) lk lk')
  (hk : ∀ h' c, T c ∧ St h0 D Z0 Rv Z h' (F c ++ B) → wpRF P R base Zs lk' ((k, .blks (idsL [p])) :: ef) (k + 1) (updL l d v) h' K) : wpRF P R base Zs lk ef k l h K := by
 obtain ⟨h1, c, q1, q2, q3⟩ := hx
 exact e_make (A := [p]) (A' := F c) (B := B) ho hg hS q1 q3 hz hm fun h' q => hk h' c ⟨q2, q⟩
theorem e_mk3 {p : Itm} {B : List Itm} {T : List Value → Prop} {F : Value → List Value → List Itm} (ho : R[k]? = some ⟨g, d, op, .make, om⟩) (hg : gon l g) (hS : St h0 D Z0 Rv Z h ([p] ++ B)) (hx : ∃ v c h1, OpTo P l op { h with low := h.next } v h1 ∧ T c ∧ St { h with low := h.next } (idsL [p]) Z (0, 0) Z h1 (F v c)) (hz : Zle Zs Z) (hm : ∀ {Q}, MkL Q om (.blks (idsL [p])) lk lk')
  (hk : ∀ v c h', T c ∧ St h0 D Z0 Rv Z h' (F v c ++ B) → wpRF P R base Zs lk' ((k, .blks (idsL [p])) :: ef) (k + 1) (updL l d v) h' K) : wpRF P R base Zs lk ef k l h K := by
 obtain ⟨v, c, h1, q1, q2, q3⟩ := hx
 exact e_make (A := [p]) (A' := F v c) (B := B) ho hg hS q1 q3 hz hm fun h' q => hk v c h' ⟨q2, q⟩
theorem e_ex3c {T : List Value → Prop} {F : Value → List Value → List Itm} (ho : R[k]? = some ⟨g, d, op, .make, om⟩) (hg : gon l g) (hS : St h0 D Z0 Rv Z h L) (hx : ∃ v c h1, OpTo P l op { h with low := h.next } v h1 ∧ T c ∧ St h0 D Z0 Rv Z h1 (F v c) ∧ h1.low = AH.low { h with low := h.next })
  (hk : ∀ v c h', T c ∧ St h0 D Z0 Rv Z h' (F v c) → wpRF P R base Zs lk ef (k + 1) (updL l d v) h' K) : wpRF P R base Zs lk ef k l h K := by
 obtain ⟨v, c, h1, q1, q2, q3, q4⟩ := hx
 exact e_still ho hg hS q1 q3 (by rw [q4]; exact Nat.le_refl _) fun h' q => hk v c h' ⟨q2, q⟩
theorem St.ne (hS : St h0 D Z0 Rv Z h L) (i j : Nat) {p q : Itm} (hi : L[i]? = some p) (hj : L[j]? = some q) (hij : i ≠ j) {b : Nat} (hb : b ∈ p.ids) : b ∉ idsL [q] := by
 intro hq
 simp only [idsL, List.flatMap_cons, List.flatMap_nil, List.append_nil] at hq
 have hpw := List.pairwise_iff_getElem.1 hS.dj
 obtain ⟨hi1, hi2⟩ := List.getElem?_eq_some_iff.1 hi
 obtain ⟨hj1, hj2⟩ := List.getElem?_eq_some_iff.1 hj
 rcases Nat.lt_or_ge i j with hlt | hge
 ·have := hpw i j hi1 hj1 hlt
  rw [hi2, hj2] at this
  exact this b hb hq
 ·have := hpw j i hj1 hi1 (by omega)
  rw [hi2, hj2] at this
  exact this b hq hb
theorem St.neB {A B : List Itm} (hS : St h0 D Z0 Rv Z h (A ++ B)) (j : Nat) {q : Itm} (hj : B[j]? = some q) {b : Nat} (hb : b ∈ q.ids) : b ∉ idsL A := by
 intro hA
 obtain ⟨p, hp, hbp⟩ := mem_idsL.1 hA
 exact (List.pairwise_append.1 hS.dj).2.2 p hp q (List.mem_of_getElem? hj) b hbp hb
theorem blk_mem {b : Nat} {c : List Value} : b ∈ (Itm.blk b c).ids := by simp [Itm.ids]
theorem gs_mem {v : Value} {c : List Value} {s n : Nat} (hB : Based v n) : (baseOf v).block ∈ (Itm.gs v c s).ids := by
 obtain ⟨a, c, rfl, _⟩ := hB
 simp [Itm.ids, baseOf]
end
end Go.Proofs.Ytahcngeimlkcgaa.Sy
