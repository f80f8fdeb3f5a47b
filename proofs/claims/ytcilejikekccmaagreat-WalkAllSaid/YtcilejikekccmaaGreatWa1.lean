/- Packed by a program of this session (mini.py). -/
import Derived.Test.YtcilejikekccmaaGreatWa0
import Derived.Laws.Strings
import Derived.Test.YtcilejikekccmaaGreatChecked
import Derived.KernelRfl
import Derived.Deep.Slices
import Derived.ReadAgain
import Derived.ChangeStays
import Derived.ChangeReads
set_option linter.unusedVariables false
set_option linter.unusedSectionVars false
set_option linter.unusedSimpArgs false
namespace Go.Proofs.YtcilejikekccmaaGreat.Am
open Go
section
variable {P:Program}
def lZ (P:Program) (c:Code) (e:Env) (h:AH) (r:dk×Env×AH):Prop:=∃ n,aCode P (b5 P) n c e h=some r
def wp (P:Program) (c:Code) (e:Env) (h:AH) (N:Env→AH→Prop) (X:dk→Env→AH→Prop):Prop:=
 ∃ x e' h',lZ P c e h (x,e',h')∧match x with | .normal=>N e' h' | x=>X x e' h'
theorem wp_mono {c:Code} {e:Env} {h:AH} {N N':Env→AH→Prop} {X X':dk→Env→AH→Prop} (hw:wp P c e h N X) (hN:∀ e h,N e h→N' e h) (hX:∀ x e h,X x e h→X' x e h):wp P c e h N' X':=by
 obtain ⟨x,e',h',hr,hq⟩:=hw
 refine ⟨x,e',h',hr,?_⟩
 cases x<;>first | exact hN _ _ hq | exact hX _ _ _ hq
theorem wp_skip {e:Env} {h:AH} {N:Env→AH→Prop} {X:dk→Env→AH→Prop} (hN:N e h):wp P .skip e h N X:=⟨.normal,e,h,⟨1,rfl⟩,hN⟩
theorem wp_label {l:Nat} {e:Env} {h:AH} {N:Env→AH→Prop} {X:dk→Env→AH→Prop} (hN:N e h):wp P (.label l) e h N X:=⟨.normal,e,h,⟨1,rfl⟩,hN⟩
theorem wp_exit {i:Nat} {e:Env} {h:AH} {N:Env→AH→Prop} {X:dk→Env→AH→Prop} (hX:X (.exit i) e h):wp P (.exit i) e h N X:=⟨.exit i,e,h,⟨1,rfl⟩,hX⟩
theorem wp_goto {i:Nat} {e:Env} {h:AH} {N:Env→AH→Prop} {X:dk→Env→AH→Prop} (hX:X (.goto i) e h):wp P (.goto i) e h N X:=⟨.goto i,e,h,⟨1,rfl⟩,hX⟩
theorem wp_ret {e:Env} {h:AH} {N:Env→AH→Prop} {X:dk→Env→AH→Prop} (hX:X .ret e h):wp P .ret e h N X:=⟨.ret,e,h,⟨1,rfl⟩,hX⟩
theorem wp_seq {a b:Code} {e:Env} {h:AH} {N:Env→AH→Prop} {X:dk→Env→AH→Prop} (hw:wp P a e h (fun e h=>wp P b e h N X) X):wp P (.seq a b) e h N X:=by
 obtain ⟨x,e1,h1,⟨n,hn⟩,hq⟩:=hw
 cases x with
 | normal=>
  obtain ⟨y,j,h2,⟨m,hm⟩,I⟩:=hq
  refine ⟨y,j,h2,⟨max n m+1,?_⟩,I⟩
  simp only [aCode]
  rw [g3 (eJ.refl _) n (max n m) (Nat.le_max_left _ _) _ _ _ _ hn]
  exact g3 (eJ.refl _) m (max n m) (Nat.le_max_right _ _) _ _ _ _ hm
 | exit i=>exact ⟨.exit i,e1,h1,⟨n+1,by simp only [aCode];rw [hn]⟩,hq⟩
 | goto i=>exact ⟨.goto i,e1,h1,⟨n+1,by simp only [aCode];rw [hn]⟩,hq⟩
 | ret=>exact ⟨.ret,e1,h1,⟨n+1,by simp only [aCode];rw [hn]⟩,hq⟩
theorem wp_cond {x:Operand} {a b:Code} {t:Bool} {e:Env} {h:AH} {N:Env→AH→Prop} {X:dk→Env→AH→Prop} (hx:e.ev x= .bool t) (h1:t=true→wp P a e h N X) (h2:t=false→wp P b e h N X):wp P (.cond x a b) e h N X:=by
 have hw:wp P (if t then a else b) e h N X:=by cases t<;>first | exact h1 rfl | exact h2 rfl
 obtain ⟨x',e1,h1,⟨n,hn⟩,hq⟩:=hw
 refine ⟨x',e1,h1,⟨n+1,?_⟩,hq⟩
 simp only [aCode,hx]
 exact hn
theorem wp_block {i:Nat} {c:Code} {e:Env} {h:AH} {N:Env→AH→Prop} {X:dk→Env→AH→Prop} (hw:wp P c e h N (fun x e h=>match x with | .exit j=>if j=i then N e h else X (.exit j) e h | x=>X x e h)):wp P (.block i c) e h N X:=by
 obtain ⟨x,e1,h1,⟨n,hn⟩,hq⟩:=hw
 cases x with
 | normal=>exact ⟨.normal,e1,h1,⟨n+1,by simp only [aCode];rw [hn]⟩,hq⟩
 | exit j=>
  simp only at hq
  by_cases hj:j=i
  ·rw [if_pos hj] at hq
   exact ⟨.normal,e1,h1,⟨n+1,by simp only [aCode];rw [hn];simp only [if_pos hj]⟩,hq⟩
  ·rw [if_neg hj] at hq
   exact ⟨.exit j,e1,h1,⟨n+1,by simp only [aCode];rw [hn];simp only [if_neg hj]⟩,hq⟩
 | goto j=>exact ⟨.goto j,e1,h1,⟨n+1,by simp only [aCode];rw [hn]⟩,hq⟩
 | ret=>exact ⟨.ret,e1,h1,⟨n+1,by simp only [aCode];rw [hn]⟩,hq⟩
theorem yz {c:Code} {e e1:Env} {h h1:AH} {r} (dY:lZ P c e h (.normal,e1,h1)) (h2:lZ P (.loop c) e1 h1 r):lZ P (.loop c) e h r:=by
 obtain ⟨n,hn⟩:=dY
 obtain ⟨m,hm⟩:=h2
 cases m with
 | zero=>cases hm
 | succ m=>
  have Gz:aLoop (aCode P (b5 P) m c) m e1 h1=some r:=hm
  have rI:=g3 (eJ.refl _) n (max n m+1) (by omega) _ _ _ _ hn
  have j:=sW (fun e h r q=>g3 (eJ.refl (b5 P)) m (max n m+1) (by omega) _ _ _ _ q) m (max n m) (Nat.le_max_right _ _) _ _ _ Gz
  refine ⟨max n m+2,?_⟩
  show aLoop (aCode P (b5 P) (max n m+1) c) (max n m+1) e h=some r
  rw [aLoop,rI]
  exact j
theorem s6 {c:Code} {e e1:Env} {h h1:AH} {x:dk} (hx:x≠ .normal) (dY:lZ P c e h (x,e1,h1)):lZ P (.loop c) e h (x,e1,h1):=by
 obtain ⟨n,hn⟩:=dY
 refine ⟨n+2,?_⟩
 show aLoop (aCode P (b5 P) (n+1) c) (n+1) e h=_
 rw [aLoop,g3 (eJ.refl _) n (n+1) (by omega) _ _ _ _ hn]
 cases x<;>first | rfl | exact absurd rfl hx
theorem wp_loop {c:Code} {X:dk→Env→AH→Prop} {N:Env→AH→Prop} (I:Nat→Env→AH→Prop) (hI:∀ m e h,I m e h→wp P c e h (fun e' h'=>∃ k,k<m∧I k e' h') X):∀ (m:Nat) (e:Env) (h:AH),I m e h→wp P (.loop c) e h N X:=by
 intro m
 induction m using Nat.strongRecOn with
 | ind m ih=>
  intro e h hi
  obtain ⟨x,e1,h1,hr,hq⟩:=hI m e h hi
  cases x with
  | normal=>
   obtain ⟨k,hk,e7⟩:=hq
   obtain ⟨y,j,h2,J,U⟩:=ih k hk e1 h1 e7
   exact ⟨y,j,h2,yz hr J,U⟩
  | exit i=>exact ⟨.exit i,e1,h1,s6 (by simp) hr,hq⟩
  | goto i=>exact ⟨.goto i,e1,h1,s6 (by simp) hr,hq⟩
  | ret=>exact ⟨.ret,e1,h1,s6 (by simp) hr,hq⟩
def wpO (P:Program) (ops:Array Oper):List Oper→Env→AH→(Env→AH→Prop)→Prop
 | [],e,h,K=>K e h
 | o::os,e,h,K=>if ct ops e o then ∃ v h',aOp P (b5 P) e.ev o.op h=some (v,h')∧wpO P ops os (e.put o.dst v) h' K else wpO P ops os (e.put o.dst undef) h K
theorem AX {ops:Array Oper}:∀ (os:List Oper) {e:Env} {h:AH} {K:Env→AH→Prop},wpO P ops os e h K→∃ e' h',aOps P (b5 P) ops os e h=some (e',h')∧K e' h':=by
 intro os
 induction os with
 | nil=>intro e h K hk;exact ⟨e,h,rfl,hk⟩
 | cons o os ih=>
  intro e h K hk
  simp only [wpO] at hk
  simp only [aOps]
  split at hk
  ·rename_i hw
   rw [if_pos hw]
   obtain ⟨v,h',ho,hk⟩:=hk
   rw [ho]
   exact ih hk
  ·rename_i hw
   rw [if_neg hw]
   exact ih hk
theorem wp_region {i:Nat} {ops:Array Oper} {e:Env} {h:AH} {N:Env→AH→Prop} {X:dk→Env→AH→Prop} (hw:wpO P ops ops.toList e h N):wp P (.region i ops false) e h N X:=by
 obtain ⟨e',h',hr,hq⟩:=AX _ hw
 exact ⟨.normal,e',h',⟨1,by simp only [aCode];rw [hr];rfl⟩,hq⟩
def mA (h h':AH):Prop:=h.next≤h'.next∧(∀ b,b<h.next→h'.ae b=h.ae b)∧(∀ x,x≤h.low→x≤h.next→x≤h'.low)
theorem mA.refl (h:AH):mA h h:=⟨Nat.le_refl _,fun _ _=>rfl,fun _ q _=>q⟩
theorem mA.trans {a b c:AH} (h:mA a b) (k:mA b c):mA a c:=
 ⟨Nat.le_trans h.1 k.1,fun x hx=>(k.2.1 x (Nat.lt_of_lt_of_le hx h.1)).trans (h.2.1 x hx),fun x q r=>k.2.2 x (h.2.2 x q r) (Nat.le_trans r h.1)⟩
theorem uh {f:FuncId} {fn:Func} {c:Code} {args:List Value} {h:AH} {Q:Value→AH→Prop} (hf:P.funcs[f]?=some fn) (hb:fn.body=some c) (hn:args.length≤fn.ntmps)
  (hw:wp P c (Env.ofArgs 0 args .nil) {h with low:=h.next} (fun e h1=>∃ v,aResults P fn.results.toList e h1=some v∧Q v (ff (gW P fn) h v h1).2)
   (fun x e h1=>x= .ret∧∃ v,aResults P fn.results.toList e h1=some v∧Q v (ff (gW P fn) h v h1).2)):
  ∃ v h',b5 P f args h=some (v,h')∧Q v h':=by
 obtain ⟨x,e,h1,⟨n,rI⟩,hq⟩:=hw
 obtain ⟨k,hk⟩:=Co n _ _ _ _ rI
 have j:=g3 (jk (Nat.le_max_left k n)) n (max k n) (Nat.le_max_right k n) _ _ _ _ hk
 have main:∀ v,(x= .normal∨x= .ret)→aResults P fn.results.toList e h1=some v→b5 P f args h=some (v,(ff (gW P fn) h v h1).2):=by
  intro v hx hv
  refine Dz (k:=max k n+1) ?_
  have dO:iD f args h=none:=rfl
  rw [aCall,dO]
  simp only [hf,hb,ax,if_pos hn]
  unfold hM at j
  rw [j]
  have DO:(v,(ff (gW P fn) h v h1).2)=ff (gW P fn) h v h1:=by unfold ff;split<;>rfl
  rw [DO]
  rcases hx with rfl | rfl<;>simp only [hv,Option.map_some]
 cases x with
 | normal=>obtain ⟨v,hv,hq⟩:=hq;exact ⟨_,_,main v (.inl rfl) hv,hq⟩
 | exit i=>exact absurd hq.1 (by simp)
 | goto i=>exact absurd hq.1 (by simp)
 | ret=>obtain ⟨_,v,hv,hq⟩:=hq;exact ⟨_,_,main v (.inr rfl) hv,hq⟩
end
end Go.Proofs.YtcilejikekccmaaGreat.Am
namespace Go.Proofs.YtcilejikekccmaaGreat.Sy
open Go Am
abbrev KL:=List (Nat×Value)
def lk:KL→Nat→Option Value
 | [],_=>none
 | (u,v)::l,t=>match Nat.beq u t with | true=>some v | false=>lk l t
def bN (l:KL) (d:Option Nat) (v:Value):KL:=match d with | some t=>(t,v)::l | none=>l
def opv (l:KL):Operand→Option Value
 | .tmp t=>lk l t
 | .const v=>some v
 | .func f=>some (.func (.func f) #[] #[])
 | .global _=>none
def cK (e:Env) (l:KL):Prop:=∀ t v,lk l t=some v→e.get t=v
theorem cK.nil (e:Env):cK e []:=fun t v h=>by cases h
theorem cK.set {e:Env} {l:KL} (h:cK e l) (t:Nat) (v:Value):cK (e.set t v) ((t,v)::l):=by
 intro u x hx
 simp only [lk] at hx
 rw [Env.e8]
 cases hb:Nat.beq t u with
 | true=>
  rw [hb] at hx
  have:=Nat.eq_of_beq_eq_true hb
  subst this
  simp only [Option.some.injEq] at hx
  rw [if_pos rfl];exact hx
 | false=>
  rw [hb] at hx
  have cp:t≠u:=Nat.ne_of_beq_eq_false hb
  rw [if_neg (Ne.symm cp)]
  exact h u x hx
theorem cK.bQ {e:Env} {l:KL} (h:cK e l) (d:Option Nat) (v:Value):cK (e.put d v) (bN l d v):=by
 cases d with
 | none=>exact h
 | some t=>exact h.set t v
theorem cK.opv {e:Env} {l:KL} (h:cK e l) {x:Operand} {v:Value} (hx:opv l x=some v):e.ev x=v:=by
 cases x with
 | tmp t=>exact h t v hx
 | const c=>simp only [Sy.opv,Option.some.injEq] at hx;exact hx
 | func f=>simp only [Sy.opv,Option.some.injEq] at hx;exact hx
 | global g=>cases hx
def pick (l:KL):List Nat→KL
 | []=>[]
 | t::ts=>match lk l t with | some v=>(t,v)::pick l ts | none=>pick l ts
theorem cK.pick {e:Env} {l:KL} (h:cK e l):∀ (ts:List Nat),cK e (pick l ts):=by
 intro ts
 induction ts with
 | nil=>exact cK.nil e
 | cons t ts ih=>
  simp only [Sy.pick]
  cases hl:lk l t with
  | none=>exact ih
  | some v=>
   intro u x hx
   simp only [lk] at hx
   cases hb:Nat.beq t u with
   | true=>
    rw [hb] at hx
    have:=Nat.eq_of_beq_eq_true hb
    subst this
    simp only [Option.some.injEq] at hx
    subst hx
    exact h t v hl
   | false=>rw [hb] at hx;exact ih u x hx
def argsL:Nat→List Value→KL
 | _,[]=>[]
 | i,v::vs=>(i,v)::argsL (i+1) vs
theorem Cm:∀ (vs:List Value) (i t:Nat) (v:Value),lk (argsL i vs) t=some v→i≤t∧vs[t - i]?=some v:=by
 intro vs
 induction vs with
 | nil=>intro i t v h;cases h
 | cons x vs ih=>
  intro i t v h
  simp only [argsL,lk] at h
  cases hb:Nat.beq i t with
  | true=>
   rw [hb] at h
   have:=Nat.eq_of_beq_eq_true hb
   subst this
   simp only [Option.some.injEq] at h
   subst h
   simp
  | false=>
   rw [hb] at h
   have cp:i≠t:=Nat.ne_of_beq_eq_false hb
   obtain ⟨h1,h2⟩:=ih _ _ _ h
   refine ⟨by omega,?_⟩
   have:t - i=(t - (i+1))+1:=by omega
   rw [this,List.getElem?_cons_succ]
   exact h2
theorem cK.args (vs:List Value):cK (Env.ofArgs 0 vs .nil) (argsL 0 vs):=by
 intro t v h
 obtain ⟨_,h2⟩:=Cm vs 0 t v h
 rw [Env.tn]
 have bD:t<vs.length:=by
  rcases Nat.lt_or_ge t vs.length with q | q
  ·exact q
  ·rw [Nat.sub_zero,List.getElem?_eq_none q] at h2;cases h2
 rw [if_pos ⟨Nat.zero_le _,by omega⟩]
 simp only [Nat.sub_zero] at h2 ⊢
 rw [List.getD_eq_getElem?_getD,h2]
 rfl
section
variable {P:Program} {c:Code} {l:KL} {h:AH} {N:KL→AH→Prop} {X:dk→KL→AH→Prop}
def W (P:Program) (c:Code) (l:KL) (h:AH) (N:KL→AH→Prop) (X:dk→KL→AH→Prop):Prop:=
 ∀ e,cK e l→wp P c e h (fun e' h'=>∃ l',cK e' l'∧N l' h') (fun x e' h'=>∃ l',cK e' l'∧X x l' h')
def cL:Code→Code
 | .seq a _=>a
 | .cond _ a _=>a
 | c=>c
def cR:Code→Code
 | .seq _ b=>b
 | .cond _ _ b=>b
 | c=>c
def cI:Code→Code
 | .block _ c=>c
 | .loop c=>c
 | .scope c=>c
 | c=>c
def jd (f:Func):Code:=f.body.getD .skip
theorem py (hc:c= .seq (cL c) (cR c)) (hw:W P (cL c) l h (fun l h=>W P (cR c) l h N X) X):W P c l h N X:=by
 intro e he
 rw [hc]
 refine Am.wp_seq (Am.wp_mono (hw e he) ?_ (fun x e h q=>q))
 rintro e' h' ⟨l',h1,h2⟩
 exact h2 e' h1
theorem xF (hc:c= .skip) (hn:N l h):W P c l h N X:=by subst hc;exact fun e he=>Am.wp_skip ⟨l,he,hn⟩
theorem Di {i:Nat} (hc:c= .exit i) (hn:X (.exit i) l h):W P c l h N X:=by subst hc;exact fun e he=>Am.wp_exit ⟨l,he,hn⟩
theorem zA (hc:c= .ret) (hn:X .ret l h):W P c l h N X:=by subst hc;exact fun e he=>Am.wp_ret ⟨l,he,hn⟩
theorem vU {x:Operand} {b:Bool} (hc:c= .cond x (cL c) (cR c)) (hx:opv l x=some (.bool b)) (hb:b=true) (hw:W P (cL c) l h N X):W P c l h N X:=by
 intro e he
 rw [hc]
 refine Am.wp_cond (he.opv hx) (fun _=>hw e he) (fun q=>by rw [hb] at q;cases q)
theorem uT {x:Operand} {b:Bool} (hc:c= .cond x (cL c) (cR c)) (hx:opv l x=some (.bool b)) (hb:b=false) (hw:W P (cR c) l h N X):W P c l h N X:=by
 intro e he
 rw [hc]
 refine Am.wp_cond (he.opv hx) (fun q=>by rw [hb] at q;cases q) (fun _=>hw e he)
def blkX (i:Nat) (N:KL→AH→Prop) (X:dk→KL→AH→Prop):dk→KL→AH→Prop:=fun x l h=>match x with | .exit j=>if j=i then N l h else X (.exit j) l h | x=>X x l h
theorem aS {i:Nat} (hn:N l h):blkX i N X (.exit i) l h:=by simp only [blkX,if_true];exact hn
theorem h3 {i j:Nat} (hj:Nat.beq j i=false) (hn:X (.exit j) l h):blkX i N X (.exit j) l h:=by
 simp only [blkX];rw [if_neg (Nat.ne_of_beq_eq_false hj)];exact hn
theorem bj {i:Nat} (hn:X .ret l h):blkX i N X .ret l h:=hn
theorem Ad {i:Nat} (hc:c= .block i (cI c)) (hw:W P (cI c) l h N (blkX i N X)):W P c l h N X:=by
 intro e he
 rw [hc]
 refine Am.wp_block (Am.wp_mono (hw e he) (fun e h q=>q) ?_)
 rintro x e' h' ⟨l',h1,h2⟩
 cases x with
 | exit j=>
  simp only [blkX] at h2 ⊢
  split at h2
  ·rename_i hj;rw [if_pos hj];exact ⟨l',h1,h2⟩
  ·rename_i hj;rw [if_neg hj];exact ⟨l',h1,h2⟩
 | normal=>exact ⟨l',h1,h2⟩
 | goto j=>exact ⟨l',h1,h2⟩
 | ret=>exact ⟨l',h1,h2⟩
theorem aJ (ts:List Nat) (J:KL→AH→Prop) (hj:∀ l h,J l h→N l h) (hw:W P c l h (fun l h=>J (pick l ts) h) X):W P c l h N X:=by
 intro e he
 refine Am.wp_mono (hw e he) ?_ (fun x e h q=>q)
 rintro e' h' ⟨l',h1,h2⟩
 exact ⟨pick l' ts,h1.pick ts,hj _ _ h2⟩
theorem dM (ts:List Nat) (J:KL→AH→Prop) (hc:c= .seq (cL c) (cR c)) (hj:∀ l h,J l h→N l h)
  (hw:W P (cL c) l h (fun l h=>W P (cR c) l h (fun l h=>J (pick l ts) h) X) X):W P c l h N X:=by
 refine py hc ?_
 intro e he
 refine Am.wp_mono (hw e he) ?_ (fun x e h q=>q)
 rintro e' h' ⟨l',h2,j⟩
 exact ⟨l',h2,aJ ts J hj j⟩
theorem zQ (ts:List Nat) (I:Nat→KL→AH→Prop) (m:Nat) (hc:c= .loop (cI c)) (h0:I m (pick l ts) h) (hI:∀ m l h,I m l h→W P (cI c) l h (fun l' h'=>∃ k,k<m∧I k (pick l' ts) h') X):W P c l h N X:=by
 intro e he
 rw [hc]
 refine Am.wp_loop (fun m e h=>∃ l,cK e l∧I m l h) ?_ m e h ⟨pick l ts,he.pick ts,h0⟩
 rintro m e h ⟨l,he,hi⟩
 refine Am.wp_mono (hI m l h hi e he) ?_ (fun x e h q=>q)
 rintro e' h' ⟨l',h1,k,h2,j⟩
 exact ⟨k,h2,pick l' ts,h1.pick ts,j⟩
end
structure aR where
 g:Option (Option Nat×Bool)
 d:Option Nat
 op:Op
def rW (ops:Array Oper) (o:Oper):aR:=⟨o.guard.map fun x=>((ops[x.1]?).bind (·.dst),x.2),o.dst,o.op⟩
def regOf:Code→Option (List aR)
 | .region _ ops false=>some (ops.toList.map (rW ops))
 | _=>none
def wpE (P:Program):List aR→Env→AH→(Env→AH→Prop)→Prop
 | [],e,h,K=>K e h
 | o::os,e,h,K=>
  match o.g with
  | none=>∃ v h',aOp P (b5 P) e.ev o.op h=some (v,h')∧wpE P os (e.put o.d v) h' K
  | some (t,w)=>∃ j,t=some j∧((e.get j= .bool w∧∃ v h',aOp P (b5 P) e.ev o.op h=some (v,h')∧wpE P os (e.put o.d v) h' K)∨(e.get j≠ .bool w∧wpE P os (e.put o.d undef) h K))
section
variable {P:Program}
theorem tU {ops:Array Oper} {e:Env} {o:Oper} {I j:Nat} {w:Bool} (hg:o.guard=some (I,w)) (hj:(ops[I]?).bind (·.dst)=some j):ct ops e o=true↔e.get j= .bool w:=by
 simp only [ct,hg,aYield]
 rw [hj]
 simp only
 cases hv:e.get j with
 | bool b=>cases b<;>cases w<;>simp
 | _=>simp
theorem BH {ops:Array Oper}:∀ (os:List Oper) {h:AH} {K:Env→AH→Prop} {e:Env},wpE P (os.map (rW ops)) e h K→wpO P ops os e h K:=by
 intro os
 induction os with
 | nil=>intro h K e hw;exact hw
 | cons o os ih=>
  intro h K e hw
  simp only [List.map_cons,wpE,rW] at hw
  simp only [wpO]
  cases hg:o.guard with
  | none=>
   rw [hg] at hw
   simp only [Option.map_none] at hw
   obtain ⟨v,h',h1,h2⟩:=hw
   have lf:ct ops e o=true:=by simp only [ct,hg]
   rw [if_pos lf]
   exact ⟨v,h',h1,ih h2⟩
  | some g=>
   obtain ⟨I,w⟩:=g
   rw [hg] at hw
   simp only [Option.map_some] at hw
   obtain ⟨j,hj,hw⟩:=hw
   have hy:ct ops e o=true↔e.get j= .bool w:=tU hg hj
   rcases hw with ⟨hb,v,h',h1,h2⟩ | ⟨hb,h2⟩
   ·rw [if_pos (hy.2 hb)]
    exact ⟨v,h',h1,ih h2⟩
   ·rw [if_neg (fun q=>hb (hy.1 q))]
    exact ih h2
def a6 (P:Program) (R:List aR) (k:Nat) (l:KL) (h:AH) (K:KL→AH→Prop):Prop:=∀ e,cK e l→wpE P (R.drop k) e h (fun e' h'=>∃ l',cK e' l'∧K l' h')
theorem vV {c:Code} {R:List aR} {l:KL} {h:AH} {N:KL→AH→Prop} {X:dk→KL→AH→Prop} (hc:regOf c=some R) (hw:a6 P R 0 l h N):W P c l h N X:=by
 intro e he
 cases c with
 | region i ops d=>
  cases d with
  | false=>
   simp only [regOf,Option.some.injEq] at hc
   subst hc
   exact Am.wp_region (BH _ (hw e he))
  | true=>cases hc
 | _=>cases hc
def gon (l:KL):Option (Option Nat×Bool)→Prop
 | none=>True
 | some (some t,w)=>lk l t=some (.bool w)
 | some (none,_)=>False
variable {R:List aR} {k:Nat} {l l':KL} {h h':AH} {K:KL→AH→Prop} {g:Option (Option Nat×Bool)} {d:Option Nat} {op:Op}
theorem mh {α:Type}:∀ {R:List α} {k:Nat} {o:α},R[k]?=some o→R.drop k=o::R.drop (k+1):=by
 intro R k o h
 obtain ⟨h1,h2⟩:=List.getElem?_eq_some_iff.1 h
 rw [← h2]
 exact List.drop_eq_getElem_cons h1
def cq (P:Program) (l:KL) (op:Op) (h:AH) (v:Value) (h':AH):Prop:=∀ e,cK e l→aOp P (b5 P) e.ev op h=some (v,h')
def gA (P:Program) (l:KL) (op:Op) (f:gR):Prop:=DL op=true∧∀ e,cK e l→aFresh P e.ev op=some f
theorem gA.run {f:gR} (hf:gA P l op f):cq P l op h (f.1 h.next) (h.alloc f.2.1 f.2.2):=by
 obtain ⟨h1,h2⟩:=hf
 intro e he
 have:=h2 e he
 cases op with
 | alloc t=>simp only [aFresh] at this;simp only [aOp,this];rfl
 | box t x=>simp only [aFresh] at this;simp only [aOp,this];rfl
 | buildSlice t n ps=>simp only [aFresh] at this;simp only [aOp,this];rfl
 | makeSlice t a b=>simp only [aFresh] at this;simp only [aOp,this];rfl
 | _=>cases h1
theorem bW (ho:R[k]?=some ⟨g,d,op⟩) (hg:gon l g) {v:Value} (h1:cq P l op h v h') (hk:a6 P R (k+1) (bN l d v) h' K):a6 P R k l h K:=by
 intro e he
 rw [mh ho]
 simp only [wpE]
 have hx:=hk (e.put d v) (he.bQ d v)
 match g,hg with
 | none,_=>exact ⟨v,h',h1 e he,hx⟩
 | some (some t,w),hg=>exact ⟨t,rfl, .inl ⟨he t _ hg,v,h',h1 e he,hx⟩⟩
theorem mg {α:Type} {v:Value} {Q:AH→α→Prop} (ho:R[k]?=some ⟨g,d,op⟩) (hg:gon l g) (hx:∃ h' c,cq P l op h v h'∧Q h' c) (hk:∀ h' c,Q h' c→a6 P R (k+1) (bN l d v) h' K):a6 P R k l h K:=by
 obtain ⟨h',c,h1,h2⟩:=hx
 exact bW ho hg h1 (hk h' c h2)
theorem eZ {α:Type} {Q:Value→α→AH→Prop} (ho:R[k]?=some ⟨g,d,op⟩) (hg:gon l g) (hx:∃ v c h',cq P l op h v h'∧Q v c h') (hk:∀ v c h',Q v c h'→a6 P R (k+1) (bN l d v) h' K):a6 P R k l h K:=by
 obtain ⟨v,c,h',h1,h2⟩:=hx
 exact bW ho hg h1 (hk v c h' h2)
theorem j1 {Q:Value→Prop} (ho:R[k]?=some ⟨g,d,op⟩) (hg:gon l g) (hx:∃ v,cq P l op h v h∧Q v) (hk:∀ v,Q v→a6 P R (k+1) (bN l d v) h K):a6 P R k l h K:=by
 obtain ⟨v,h1,h2⟩:=hx
 exact bW ho hg h1 (hk v h2)
theorem r5 (ho:R.length=k) (hk:K l h):a6 P R k l h K:=by
 intro e he
 rw [List.drop_eq_nil_of_le (by omega)]
 exact ⟨l,he,hk⟩
theorem se {t:Nat} {b w:Bool} (hl:lk l t=some (.bool b)) (hb:b=w) (hk:a6 P R k ((t, .bool w)::l) h K):a6 P R k l h K:=by
 intro e he
 subst hb
 refine hk e fun u v hu=>?_
 simp only [lk] at hu
 cases hx:Nat.beq t u with
 | true=>
  rw [hx] at hu
  have:=Nat.eq_of_beq_eq_true hx
  subst this
  simp only [Option.some.injEq] at hu
  subst hu
  exact he t _ hl
 | false=>rw [hx] at hu;exact he u v hu
theorem ue (ts:List Nat) (hp:Sy.pick l ts=l') (hk:a6 P R k l' h K):a6 P R k l h K:=by
 subst hp
 exact fun e he=>hk e (he.pick ts)
def opvs (l:KL):List Operand→Option (List Value)
 | []=>some []
 | x::xs=>match opv l x with | some v=>(match opvs l xs with | some vs=>some (v::vs) | none=>none) | none=>none
theorem jb {e:Env} (he:cK e l):∀ (xs:List Operand) {vs:List Value},opvs l xs=some vs→xs.map e.ev=vs:=by
 intro xs
 induction xs with
 | nil=>intro vs h;simp only [opvs,Option.some.injEq] at h;subst h;rfl
 | cons x xs ih=>
  intro vs h
  simp only [opvs] at h
  cases h1:opv l x with
  | none=>rw [h1] at h;cases h
  | some v=>
   rw [h1] at h
   cases h2:opvs l xs with
   | none=>rw [h2] at h;cases h
   | some ws=>
    rw [h2] at h
    simp only [Option.some.injEq] at h
    subst h
    rw [List.map_cons,he.opv h1,ih h2]
def pureV (P:Program) (l:KL):Op→Option Value
 | .move x | .assign x=>opv l x
 | .pick c a b=>match opv l c with | some (.bool true)=>opv l a | some (.bool false)=>opv l b | _=>none
 | .nilCheck x=>match opv l x with | some (.pointer (some a))=>some (.pointer (some a)) | some (.func (.func f) fi ca)=>some (.func (.func f) fi ca) | _=>none
 | .binOp o t x y _=>match opv l x,opv l y with | some a,some b=>aBin P o t a b | _,_=>none
 | .unOp o _ x=>match opv l x with | some a=>aUn o a | _=>none
 | .makeInterface t x=>match P.underlying t,opv l x with | some (.interface _),_=>none | some _,some v=>some (.iface t v) | _,_=>none
 | .makeFunc (.func f) fi ca=>match opvs l fi.toList,opvs l ca.toList with | some a,some b=>some (.func (.func f) a.toArray b.toArray) | _,_=>none
 | .fieldAddr s x f=>match opv l x with | some a=>aField P s f a | _=>none
 | .field t x f=>match opv l x with | some a=>aFieldV P t f a | _=>none
 | .typeAssert x _ t ok=>match opv l x with | some a=>aAssert P a t ok | _=>none
 | .extract x i=>match opv l x with | some (.tuple vs)=>vs[i]? | _=>none
 | .build t ps=>match opvs l (ps.toList.map (·.2)) with | some vs=>aBuild P t ((ps.toList.map (·.1)).zip vs) | _=>none
 | .slice t x lo hi mx=>match opv l x,(match lo with | none=>some none | some y=>(opv l y).map some),(match hi with | none=>some none | some y=>(opv l y).map some),(match mx with | none=>some none | some y=>(opv l y).map some) with
  | some a,some b,some c,some d=>aSlice P t a b c d
  | _,_,_,_=>none
 | .call c=>match c.callee,c.argTypes.toList,opvs l c.args.toList with
  | .builtin .len,t::_,some (x::_)=>aLen P t x
  | .builtin .max,_,some (x::vs)=>aMax x vs
  | .builtin .min,_,some (x::vs)=>jG x vs
  | _,_,_=>none
 | _=>none
theorem sw {e:Env} (he:cK e l) {v:Value} (hv:pureV P l op=some v):aOp P (b5 P) e.ev op h=some (v,h):=by
 cases op with
 | move x=>simp only [pureV] at hv;simp only [aOp,he.opv hv]
 | assign x=>simp only [pureV] at hv;simp only [aOp,he.opv hv]
 | pick c a b=>
  simp only [pureV] at hv
  split at hv
  ·rename_i hc;simp only [aOp,he.opv hc,he.opv hv,if_true]
  ·rename_i hc;simp only [aOp,he.opv hc,he.opv hv];rfl
  ·cases hv
 | nilCheck x=>
  simp only [pureV] at hv
  split at hv
  ·rename_i hc;simp only [Option.some.injEq] at hv;subst hv;simp only [aOp,he.opv hc]
  ·rename_i hc;simp only [Option.some.injEq] at hv;subst hv;simp only [aOp,he.opv hc]
  ·cases hv
 | binOp o t x y t2=>
  simp only [pureV] at hv
  split at hv
  ·rename_i a b h1 h2;simp only [aOp,he.opv h1,he.opv h2,hv,Option.map_some]
  ·cases hv
 | unOp o t x=>
  simp only [pureV] at hv
  split at hv
  ·rename_i a h1;simp only [aOp,he.opv h1,hv,Option.map_some]
  ·cases hv
 | makeInterface t x=>
  simp only [pureV] at hv
  split at hv
  ·cases hv
  ·rename_i d y hd h1 hn
   simp only [Option.some.injEq] at hv
   subst hv
   simp only [aOp,he.opv hn,h1]
  ·cases hv
 | makeFunc fn fi ca=>
  cases fn with
  | func f=>
   simp only [pureV] at hv
   split at hv
   ·rename_i a b h1 h2
    simp only [Option.some.injEq] at hv
    subst hv
    simp only [aOp]
    congr 3
    ·rw [← jb he _ h1,← Array.toList_map,Array.toArray_toList]
    ·rw [← jb he _ h2,← Array.toList_map,Array.toArray_toList]
   ·cases hv
  | _=>cases hv
 | fieldAddr s x f=>
  simp only [pureV] at hv
  split at hv
  ·rename_i a h1;simp only [aOp,he.opv h1,hv,Option.map_some]
  ·cases hv
 | field s x f=>
  simp only [pureV] at hv
  split at hv
  ·rename_i a h1;simp only [aOp,he.opv h1,hv,Option.map_some]
  ·cases hv
 | typeAssert x s t ok=>
  simp only [pureV] at hv
  split at hv
  ·rename_i a h1;simp only [aOp,he.opv h1,hv,Option.map_some]
  ·cases hv
 | extract x i=>
  simp only [pureV] at hv
  split at hv
  ·rename_i a h1;simp only [aOp,he.opv h1,hv,Option.map_some]
  ·cases hv
 | build t ps=>
  simp only [pureV] at hv
  split at hv
  ·rename_i vs h1
   have h2:=jb he _ h1
   simp only [aOp]
   have:(ps.toList.map fun p=>(p.1,e.ev p.2))=(ps.toList.map (·.1)).zip vs:=by
    rw [← h2,List.map_map,List.zip_map',];rfl
   rw [this,hv];rfl
  ·cases hv
 | slice t x lo hi mx=>
  simp only [pureV] at hv
  split at hv
  ·rename_i a b c d h1 h2 I J
   have hm:∀ {y:Option Operand} {r:Option Value},(match y with | none=>some none | some y=>(opv l y).map some)=some r→y.map e.ev=r:=by
    intro y r hr
    cases y with
    | none=>simp only [Option.some.injEq] at hr;subst hr;rfl
    | some y=>
     cases j:opv l y with
     | none=>simp [j] at hr
     | some u=>simp only [j,Option.map_some,Option.some.injEq] at hr;subst hr;rw [Option.map_some,he.opv j]
   simp only [aOp,he.opv h1,hm h2,hm I,hm J,hv,Option.map_some]
  ·cases hv
 | call c=>
  simp only [pureV] at hv
  split at hv
  ·rename_i t ts x xs hc ht ha
   simp only [aOp,hc,ht,jb he _ ha,aBuiltin,hv,Option.map_some]
  ·rename_i t x xs hc ht
   simp only [aOp,hc,jb he _ ht,aBuiltin,hv,Option.map_some]
  ·rename_i t x xs hc ht
   simp only [aOp,hc,jb he _ ht,aBuiltin,hv,Option.map_some]
  ·cases hv
 | _=>cases hv
def isB (w:Bool):Value→Bool
 | .bool b=>(match w with | true=>b | false=>!b)
 | _=>false
theorem n4 {w:Bool} {v:Value}:isB w v=true↔v= .bool w:=by
 cases v with
 | bool b=>cases w<;>cases b<;>simp [isB]
 | _=>simp [isB]
def runP (P:Program):List aR→Nat→KL→Option KL
 | _,0,l=>some l
 | [],_+1,_=>none
 | o::os,m+1,l=>
  match o.g with
  | none=>match pureV P l o.op with | some v=>runP P os m (bN l o.d v) | none=>none
  | some (some t,w)=>(match lk l t with
   | some b=>(match isB w b with
    | true=>(match pureV P l o.op with | some v=>runP P os m (bN l o.d v) | none=>none)
    | false=>runP P os m (bN l o.d undef))
   | none=>none)
  | some (none,_)=>none
theorem DZ:∀ (m:Nat) {R:List aR} {l l':KL} {h:AH} {K:Env→AH→Prop} {e:Env},runP P R m l=some l'→cK e l→(∀ e',cK e' l'→wpE P (R.drop m) e' h K)→wpE P R e h K:=by
 intro m
 induction m with
 | zero=>
  intro R l l' h K e hr he hk
  simp only [runP,Option.some.injEq] at hr
  subst hr
  exact hk e he
 | succ m ih=>
  intro R l l' h K e hr he hk
  cases R with
  | nil=>cases hr
  | cons o os=>
   obtain ⟨g,d,op⟩:=o
   simp only [runP] at hr
   simp only [wpE]
   match g,hr with
   | none,hr=>
    simp only at hr
    cases hv:pureV P l op with
    | none=>rw [hv] at hr;cases hr
    | some v=>rw [hv] at hr;exact ⟨v,h,sw he hv,ih hr (he.bQ _ _) hk⟩
   | some (some t,w),hr=>
    simp only at hr
    cases hl:lk l t with
    | none=>rw [hl] at hr;cases hr
    | some b=>
     rw [hl] at hr
     simp only at hr
     cases hb:isB w b with
     | true=>
      rw [hb] at hr
      cases hv:pureV P l op with
      | none=>rw [hv] at hr;cases hr
      | some v=>
       rw [hv] at hr
       refine ⟨t,rfl, .inl ⟨?_,v,h,sw he hv,ih hr (he.bQ _ _) hk⟩⟩
       rw [he t _ hl]
       exact n4.1 hb
     | false=>
      rw [hb] at hr
      refine ⟨t,rfl, .inr ⟨fun q=>?_,ih hr (he.bQ _ _) hk⟩⟩
      rw [he t _ hl] at q
      rw [n4.2 q] at hb
      cases hb
   | some (none,_),hr=>cases hr
theorem vw (m:Nat) (hr:runP P (R.drop k) m l=some l') (hk:a6 P R (k+m) l' h K):a6 P R k l h K:=by
 intro e he
 refine DZ m hr he fun e' nH=>?_
 have:=hk e' nH
 rw [List.drop_drop]
 rwa [Nat.add_comm] at this ⊢
end
end Go.Proofs.YtcilejikekccmaaGreat.Sy
namespace Go.Proofs.YtcilejikekccmaaGreat.Sy
open Go Am
abbrev Zn:=Nat→Option (List Value)
def aO (Z Z':Zn):Prop:=∀ b cs,Z b=some cs→Z' b=some cs
theorem aO.refl (Z:Zn):aO Z Z:=fun _ _ h=>h
theorem aO.trans {A B C:Zn} (h:aO A B) (k:aO B C):aO A C:=fun _ _ q=>k _ _ (h _ _ q)
class Cell (α:Type) where
 size:Nat
 rc:Zn→List Value→α→Prop
 len:∀ {Z cs x},rc Z cs x→cs.length=size
 mono:∀ {Z Z' cs x},aO Z Z'→rc Z cs x→rc Z' cs x
 one:∀ {Z cs x},rc Z cs x→cs.all Value.oneCell'=true
 pos:0<size
open Cell (rc)
abbrev aa (α:Type) [Cell α]:Nat:=Cell.size α
section
variable {α:Type} [Cell α] {Z Z':Zn}
def RCs (Z:Zn):List Value→List α→Prop
 | cells,[]=>cells=[]
 | cells,x::xs=>∃ cs rest,cells=cs++rest∧rc Z cs x∧RCs Z rest xs
theorem RCs.length {xs:List α}:∀ {cells},RCs Z cells xs→cells.length=xs.length * aa α:=by
 induction xs with
 | nil=>intro cells h;simp only [RCs] at h;subst h;simp
 | cons x xs ih=>
  rintro cells ⟨cs,rest,rfl,h1,h2⟩
  rw [b7,Cell.len h1,ih h2,List.length_cons,Nat.add_mul,Nat.one_mul,Nat.add_comm]
theorem RCs.mono (hz:aO Z Z') {xs:List α}:∀ {cells},RCs Z cells xs→RCs Z' cells xs:=by
 induction xs with
 | nil=>intro cells h;exact h
 | cons x xs ih=>
  rintro cells ⟨cs,rest,rfl,h1,h2⟩
  exact ⟨cs,rest,rfl,Cell.mono hz h1,ih h2⟩
theorem RCs.one {xs:List α}:∀ {cells},RCs Z cells xs→cells.all Value.oneCell'=true:=by
 induction xs with
 | nil=>intro cells h;simp only [RCs] at h;subst h;rfl
 | cons x xs ih=>
  rintro cells ⟨cs,rest,rfl,h1,h2⟩
  rw [List.all_append,Cell.one h1,ih h2];rfl
theorem RCs.append {xs ys:List α}:∀ {c1 c2},RCs Z c1 xs→RCs Z c2 ys→RCs Z (c1++c2) (xs++ys):=by
 induction xs with
 | nil=>intro c1 c2 h1 h2;simp only [RCs] at h1;subst h1;exact h2
 | cons x xs ih=>
  rintro c1 c2 ⟨cs,rest,rfl,h1,h2⟩ j
  exact ⟨cs,rest++c2,by rw [List.append_assoc],h1,ih h2 j⟩
theorem RCs.single {cs:List Value} {x:α} (h:rc Z cs x):RCs Z cs [x]:=⟨cs,[],by simp,h,rfl⟩
theorem RCs.cons {cs rest:List Value} {x:α} {xs:List α} (h:rc Z cs x) (h2:RCs Z rest xs):RCs Z (cs++rest) (x::xs):=⟨cs,rest,rfl,h,h2⟩
theorem RCs.nil:RCs Z [] ([]:List α):=rfl
theorem RCs.drop {xs:List α}:∀ {cells} (k:Nat),RCs Z cells xs→RCs Z (cells.drop (k * aa α)) (xs.drop k):=by
 induction xs with
 | nil=>intro cells k h;simp only [RCs] at h;subst h;simp [RCs]
 | cons x xs ih=>
  intro cells k h
  cases k with
  | zero=>simpa using h
  | succ k=>
   obtain ⟨cs,rest,rfl,h1,h2⟩:=h
   have hl:=Cell.len h1
   rw [Nat.succ_mul,List.drop_succ_cons,Nat.add_comm,List.drop_append,List.drop_eq_nil_of_le (by show cs.length≤Cell.size α+k * Cell.size α;omega)]
   have:aa α+k * aa α - cs.length=k * aa α:=by show Cell.size α+k * Cell.size α - cs.length=k * Cell.size α;omega
   rw [this]
   exact ih k h2
theorem RCs.take {xs:List α}:∀ {cells} (k:Nat),RCs Z cells xs→RCs Z (cells.take (k * aa α)) (xs.take k):=by
 induction xs with
 | nil=>intro cells k h;simp only [RCs] at h;subst h;simp [RCs]
 | cons x xs ih=>
  intro cells k h
  cases k with
  | zero=>simp [RCs]
  | succ k=>
   obtain ⟨cs,rest,rfl,h1,h2⟩:=h
   have hl:=Cell.len h1
   rw [Nat.succ_mul,List.take_succ_cons,Nat.add_comm,List.take_append,List.take_of_length_le (by show cs.length≤Cell.size α+k * Cell.size α;omega)]
   have:aa α+k * aa α - cs.length=k * aa α:=by show Cell.size α+k * Cell.size α - cs.length=k * Cell.size α;omega
   rw [this]
   exact ⟨cs,_,rfl,h1,ih k h2⟩
theorem RCs.elem {xs:List α}:∀ {cells} {i:Nat} {x:α},RCs Z cells xs→xs[i]?=some x→∃ cs,rc Z cs x∧(cells.drop (i * aa α)).take (aa α)=cs:=by
 induction xs with
 | nil=>intro cells i x h hx;simp at hx
 | cons y xs ih=>
  rintro cells i x ⟨cs,rest,rfl,h1,h2⟩ hx
  have hl:cs.length=aa α:=Cell.len h1
  cases i with
  | zero=>
   simp at hx;subst hx
   refine ⟨cs,h1,?_⟩
   simp [← hl]
  | succ i=>
   simp only [List.getElem?_cons_succ] at hx
   obtain ⟨a9,j,I⟩:=ih h2 hx
   refine ⟨a9,j,?_⟩
   rw [← I,Nat.succ_mul,Nat.add_comm,List.drop_append,List.drop_eq_nil_of_le (by omega),List.nil_append,← hl]
   congr 2
   omega
theorem RCs.bQ {xs:List α}:∀ {cells} {i:Nat} {x x':α} {a9},RCs Z cells xs→xs[i]?=some x→rc Z a9 x'→RCs Z (cells.take (i * aa α)++a9++cells.drop (i * aa α+aa α)) (xs.set i x'):=by
 intro cells i x x' a9 h hx h'
 have hi:i<xs.length:=by
  rcases Nat.lt_or_ge i xs.length with q | q
  ·exact q
  ·rw [List.getElem?_eq_none q] at hx;cases hx
 have h1:=h.take i
 have h2:=h.drop (i+1)
 have he:xs.set i x'=xs.take i++[x']++xs.drop (i+1):=by
  rw [List.set_eq_take_append_cons_drop,if_pos hi];simp
 rw [he]
 have j:i * aa α+aa α=(i+1) * aa α:=by rw [Nat.add_mul,Nat.one_mul]
 rw [j]
 exact (h1.append (RCs.single h')).append h2
def RS (Z:Zn) (v:Value) (xs:List α):Prop:=
 ∃ a c,v= .slice a xs.length c∧xs.length≤c∧match a with
  | none=>xs=[]
  | some a=>a.spot=none∧∃ all,Z a.block=some all∧a.off+xs.length * aa α≤all.length∧RCs Z ((all.drop a.off).take (xs.length * aa α)) xs
theorem RS.mono (hz:aO Z Z') {v:Value} {xs:List α} (h:RS Z v xs):RS Z' v xs:=by
 obtain ⟨a,c,h1,h2,j⟩:=h
 refine ⟨a,c,h1,h2,?_⟩
 cases a with
 | none=>exact j
 | some a=>
  obtain ⟨I,all,J,U,aa⟩:=j
  exact ⟨I,all,hz _ _ J,U,aa.mono hz⟩
end
inductive Itm where
 | ae (b:Nat) (cells:List Value)
 | gs (v:Value) (cells:List Value) (s:Nat)
 | bP (bs:List (Nat×List Value×Nat))
namespace Itm
def ids:Itm→List Nat
 | .ae b _=>[b]
 | .gs v _ _=>match v with | .slice (some a) _ _=>[a.block] | _=>[]
 | .bP bs=>bs.map (·.1)
def ok (h:AH):Itm→Prop
 | .ae b cells=>∃ z,h.ae b=some ⟨cells,true,z⟩
 | .gs v cells s=>(v= .slice none 0 0∧cells=[])∨∃ b n c,v= .slice (some ⟨b,0,none⟩) n c∧n * s=cells.length∧(c=n∨c=n+1)∧h.ae b=some ⟨cells,true,s⟩
 | .bP bs=>(bs.map (·.1)).Nodup∧∀ x∈bs,h.ae x.1=some ⟨x.2.1,true,x.2.2⟩
theorem qS {h:AH} {p:Itm} (hp:p.ok h) {b:Nat} (hb:b∈p.ids):∃ B,h.ae b=some B∧B.own=true:=by
 cases p with
 | ae c cells=>simp only [ids,List.mem_singleton] at hb;subst hb;obtain ⟨z,hz⟩:=hp;exact ⟨_,hz,rfl⟩
 | gs v cells s=>
  rcases hp with ⟨rfl,rfl⟩ | ⟨c,n,k,rfl,h1,h2,j⟩
  ·simp [ids] at hb
  ·simp only [ids,List.mem_singleton] at hb;subst hb;exact ⟨_,j,rfl⟩
 | bP bs=>
  simp only [ids,List.mem_map] at hb
  obtain ⟨x,hx,rfl⟩:=hb
  exact ⟨_,hp.2 x hx,rfl⟩
theorem kN {h h':AH} {p:Itm} (hp:p.ok h) (hs:∀ b∈p.ids,h'.ae b=h.ae b):p.ok h':=by
 cases p with
 | ae c cells=>obtain ⟨z,hz⟩:=hp;exact ⟨z,by rw [hs c (by simp [ids])];exact hz⟩
 | gs v cells s=>
  rcases hp with ⟨rfl,rfl⟩ | ⟨c,n,k,rfl,h1,h2,j⟩
  ·exact .inl ⟨rfl,rfl⟩
  ·exact .inr ⟨c,n,k,rfl,h1,h2,by rw [hs c (by simp [ids])];exact j⟩
 | bP bs=>exact ⟨hp.1,fun x hx=>by rw [hs x.1 (by simp only [ids,List.mem_map];exact ⟨x,hx,rfl⟩)];exact hp.2 x hx⟩
end Itm
def a2 (L:List Itm):List Nat:=L.flatMap Itm.ids
theorem kV {L:List Itm} {b:Nat}:b∈a2 L↔∃ p∈L,b∈p.ids:=by simp [a2]
structure Inv (Z:Zn) (h:AH):Prop where
 b8:∀ b cs,Z b=some cs→∃ B,h.ae b=some B∧B.cells=cs
 cT:∀ b,h.ae b≠none→b<h.next
structure Pre (Z:Zn) (h:AH) (L:List Itm):Prop extends Inv Z h where
 ok:∀ p∈L,p.ok h
 dj:L.Pairwise (fun p q=>∀ b∈p.ids,b∉q.ids)
 dz:∀ p∈L,∀ b∈p.ids,Z b=none
structure St (h0:AH) (D:List Nat) (Z0:Zn) (R:Nat×Nat) (Z:Zn) (h:AH) (L:List Itm):Prop extends Pre Z h L where
 aN:∀ b,b<h0.next→b∉D→h.ae b=h0.ae b
 dB:h0.next≤h.next
 new:∀ p∈L,∀ b∈p.ids,b∈D∨h0.next≤b
 low:∀ x,x≤h0.low→x≤h0.next→(∀ d∈D,x≤d)→x≤h.low
 ag:aO Z0 Z
 eU:∀ b,Z b≠none→Z0 b≠none∨b∈D∨h0.next≤b
 eW:∀ b,R.1≤b→b<R.2→h.ae b=none
 eh:R.2≤h.next
 eY:h0.next≤R.1∨R.2=0
section
variable {h0 h h':AH} {D:List Nat} {Z0 Z Z':Zn} {R:Nat×Nat} {L:List Itm} {p q:Itm} {i:Nat}
theorem Inv.vQ (hI:Inv Z h) {b:Nat} (hb:h.ae b=none):Z b=none:=by
 cases hz:Z b with
 | none=>rfl
 | some cs=>obtain ⟨B,h1,_⟩:=hI.b8 b cs hz;rw [hb] at h1;cases h1
theorem Pre.lt (hS:Pre Z h L) (hp:p∈L) {b:Nat} (hb:b∈p.ids):b<h.next:=by
 obtain ⟨B,h1,_⟩:=Itm.qS (hS.ok p hp) hb
 exact hS.cT b (by rw [h1];simp)
theorem Pre.sY (hS:Pre Z h L) (hp:p∈L) {b:Nat} (hb:h.ae b=none):b∉p.ids:=fun q=>by
 obtain ⟨B,h1,_⟩:=Itm.qS (hS.ok p hp) q
 rw [hb] at h1;cases h1
theorem St.pre (hS:St h0 D Z0 R Z h L):Pre Z h L:=hS.toPre
theorem St.inv (hS:St h0 D Z0 R Z h L):Inv Z h:=hS.toPre.toInv
theorem St.add (hS:St h0 D Z0 R Z h L) (q:Itm) (eE:∀ b,b∉q.ids→b<h.next→h'.ae b=h.ae b) (hq:q.ok h') (eL:∀ b∈q.ids,h.ae b=none∧h0.next≤b∧(R.2≤b∨b<R.1)) (hn:h.next≤h'.next)
  (r7:∀ b,h'.ae b≠none→b<h'.next) (gK:∀ x,x≤h.low→x≤h'.low):St h0 D Z0 R Z h' (q::L) where
 b8 b cs hz:=by
  obtain ⟨B,h1,h2⟩:=hS.b8 b cs hz
  refine ⟨B,?_,h2⟩
  rw [eE b (fun hb=>by rw [(eL b hb).1] at h1;cases h1) (hS.cT b (by rw [h1];simp))]
  exact h1
 cT:=r7
 ok p hp:=by
  rcases List.mem_cons.1 hp with rfl | hp
  ·exact hq
  ·exact Itm.kN (hS.ok p hp) fun b hb=>eE b (fun eQ=>hS.toPre.sY hp (eL b eQ).1 hb) (hS.toPre.lt hp hb)
 dj:=by
  refine List.pairwise_cons.2 ⟨fun p hp b hb=>hS.toPre.sY hp (eL b hb).1,hS.dj⟩
 dz p hp b hb:=by
  rcases List.mem_cons.1 hp with rfl | hp
  ·exact hS.toInv.vQ (eL b hb).1
  ·exact hS.dz p hp b hb
 aN b hb hd:=by
  rw [eE b (fun q=>by have:=(eL b q).2.1;omega) (Nat.lt_of_lt_of_le hb hS.dB)]
  exact hS.aN b hb hd
 dB:=Nat.le_trans hS.dB hn
 new p hp b hb:=by
  rcases List.mem_cons.1 hp with rfl | hp
  ·exact .inr (eL b hb).2.1
  ·exact hS.new p hp b hb
 low x h1 h2 j:=gK x (hS.low x h1 h2 j)
 ag:=hS.ag
 eU:=hS.eU
 eW b h1 h2:=by
  rw [eE b (fun q=>by have:=(eL b q).2.2;omega) (Nat.lt_of_lt_of_le h2 hS.eh)]
  exact hS.eW b h1 h2
 eh:=Nat.le_trans hS.eh hn
 eY:=hS.eY
theorem St.alloc (hS:St h0 D Z0 R Z h L) (cs:List Value) (z:Nat) (q:Itm) (hq:q.ok (h.alloc cs z)) (eL:q.ids=[h.next]):St h0 D Z0 R Z (h.alloc cs z) (q::L):=by
 refine hS.add q (fun b hb bD=>by rw [AH.fe,if_neg (by omega)]) hq (fun b hb=>?_) (Nat.le_succ _) (fun b hb=>?_) (fun x hx=>hx)
 ·rw [eL,List.mem_singleton] at hb
  subst hb
  refine ⟨?_,hS.dB, .inl hS.eh⟩
  cases hn:h.ae h.next with
  | none=>rfl
  | some B=>exact absurd (hS.cT h.next (by rw [hn];simp)) (Nat.lt_irrefl _)
 ·rw [AH.fe] at hb
  rw [AH.qV]
  by_cases e:b=h.next
  ·omega
  ·rw [if_neg e] at hb;have:=hS.cT b hb;omega
theorem St.step (hS:St h0 D Z0 R Z h L) (hi:L[i]?=some p) (q:Itm) (eE:∀ b,b∉p.ids→b<h.next→h'.ae b=h.ae b) (hq:q.ok h') (eL:∀ b∈q.ids,b∈p.ids∨h.next≤b) (hn:h.next≤h'.next)
  (r7:∀ b,h'.ae b≠none→b<h'.next) (gK:∀ x,x≤h.low→(∀ d∈p.ids,x≤d)→x≤h'.low):St h0 D Z0 R Z h' (L.set i q):=by
 have hp:p∈L:=au hi
 have gG:∀ x∈L.set i q,x=q∨(x∈L∧∀ b∈x.ids,b∉p.ids):=by
  intro x hx
  obtain ⟨j,hj⟩:=List.getElem?_of_mem hx
  rw [List.getElem?_set] at hj
  split at hj
  ·split at hj
   ·exact .inl (Option.some.inj hj).symm
   ·cases hj
  ·rename_i cp
   refine .inr ⟨au hj,?_⟩
   have ik:=List.pairwise_iff_getElem.1 hS.dj
   obtain ⟨I,J⟩:=List.getElem?_eq_some_iff.1 hi
   obtain ⟨aa,ab⟩:=List.getElem?_eq_some_iff.1 hj
   rcases Nat.lt_or_ge i j with bD | qx
   ·have:=ik i j I aa bD
    rw [J,ab] at this
    exact fun b hb eQ=>this b eQ hb
   ·have:=ik j i aa I (by omega)
    rw [J,ab] at this
    exact this
 have uX:∀ x∈L,(∀ b∈x.ids,b∉p.ids)→∀ b∈q.ids,b∉x.ids:=fun x hx m8 b hb l5=>by
  rcases eL b hb with h1 | h1
  ·exact m8 b l5 h1
  ·have:=hS.toPre.lt hx l5;omega
 exact {
  b8:=fun b cs hz=>by
   obtain ⟨B,h1,h2⟩:=hS.b8 b cs hz
   refine ⟨B,?_,h2⟩
   rw [eE b (fun hb=>by rw [hS.dz p hp b hb] at hz;cases hz) (hS.cT b (by rw [h1];simp))]
   exact h1
  cT:=r7
  ok:=fun x hx=>by
   rcases gG x hx with rfl | ⟨hx,m8⟩
   ·exact hq
   ·exact Itm.kN (hS.ok x hx) fun b hb=>eE b (m8 b hb) (hS.toPre.lt hx hb)
  dj:=by
   rw [List.pairwise_iff_getElem]
   intro j k hj hk bD
   have ik:=List.pairwise_iff_getElem.1 hS.dj
   obtain ⟨I,J⟩:=List.getElem?_eq_some_iff.1 hi
   rw [List.length_set] at hj hk
   rw [List.getElem_set,List.getElem_set]
   by_cases e1:i=j
   ·rw [if_pos e1,if_neg (by omega)]
    subst e1
    refine uX _ (List.getElem_mem hk) ?_
    have:=ik i k I hk bD
    rw [J] at this
    exact fun b hb eQ=>this b eQ hb
   ·rw [if_neg e1]
    by_cases U:i=k
    ·rw [if_pos U]
     subst U
     have:=ik j i hj I bD
     rw [J] at this
     exact fun b hb eQ=>uX _ (List.getElem_mem hj) this b eQ hb
    ·rw [if_neg U];exact ik j k hj hk bD
  dz:=fun x hx b hb=>by
   rcases gG x hx with rfl | ⟨hx,m8⟩
   ·rcases eL b hb with h1 | h1
    ·exact hS.dz p hp b h1
    ·refine hS.toInv.vQ ?_
     cases hn:h.ae b with
     | none=>rfl
     | some B=>have:=hS.cT b (by rw [hn];simp);omega
   ·exact hS.dz x hx b hb
  aN:=fun b hb hd=>by
   rw [eE b (fun jr=>by rcases hS.new p hp b jr with h1 | h1<;>first | exact hd h1 | omega) (Nat.lt_of_lt_of_le hb hS.dB)]
   exact hS.aN b hb hd
  dB:=Nat.le_trans hS.dB hn
  new:=fun x hx b hb=>by
   rcases gG x hx with rfl | ⟨hx,m8⟩
   ·rcases eL b hb with h1 | h1
    ·exact hS.new p hp b h1
    ·exact .inr (Nat.le_trans hS.dB h1)
   ·exact hS.new x hx b hb
  low:=fun x h1 h2 ad=>gK x (hS.low x h1 h2 ad) fun d hd=>by
   rcases hS.new p hp d hd with af | af
   ·exact ad d af
   ·omega
  ag:=hS.ag
  eU:=hS.eU
  eW:=fun b h1 h2=>by
   rw [eE b (hS.toPre.sY hp (hS.eW b h1 h2)) (Nat.lt_of_lt_of_le h2 hS.eh)]
   exact hS.eW b h1 h2
  eh:=Nat.le_trans hS.eh hn
  eY:=hS.eY}
theorem xM {α:Type}:∀ (L:List α) (i:Nat) (p:α),L[i]?=some p→L.Perm (p::L.eraseIdx i):=by
 intro L
 induction L with
 | nil=>intro i p h;simp at h
 | cons x L ih=>
  intro i p h
  cases i with
  | zero=>simp at h;subst h;simp
  | succ i=>
   simp only [List.getElem?_cons_succ] at h
   simp only [List.eraseIdx_cons_succ]
   exact ((ih i p h).cons x).trans (List.Perm.swap p x _)
theorem St.front (hS:St h0 D Z0 R Z h L) (i:Nat) (hi:L[i]?=some p):St h0 D Z0 R Z h (p::L.eraseIdx i):=by
 have uK:L.Perm (p::L.eraseIdx i):=xM L i p hi
 have ry:∀ x,x∈p::L.eraseIdx i→x∈L:=fun x hx=>uK.mem_iff.2 hx
 exact {hS with
  ok:=fun x hx=>hS.ok x (ry x hx)
  dj:=(uK.pairwise_iff (fun {a b} fw c hc eg=>fw c eg hc)).1 hS.dj
  dz:=fun x hx=>hS.dz x (ry x hx)
  new:=fun x hx=>hS.new x (ry x hx)}
theorem St.tail (hS:St h0 D Z0 R Z h (p::L)):St h0 D Z0 R Z h L:=
 {hS with
  ok:=fun x hx=>hS.ok x (List.mem_cons_of_mem _ hx)
  dj:=(List.pairwise_cons.1 hS.dj).2
  dz:=fun x hx=>hS.dz x (List.mem_cons_of_mem _ hx)
  new:=fun x hx=>hS.new x (List.mem_cons_of_mem _ hx)}
theorem St.dh (hS:St h0 D Z0 R Z h L) (s:Nat):St h0 D Z0 R Z h (.gs (.slice none 0 0) [] s::L):=
 hS.add _ (fun _ _ _=>rfl) (.inl ⟨rfl,rfl⟩) (fun b hb=>by simp [Itm.ids] at hb) (Nat.le_refl _) hS.cT (fun _ q=>q)
def Zn.ins (Z:Zn) (b:Nat) (cells:List Value):Zn:=fun x=>if x=b then some cells else Z x
theorem Zn.km (Z:Zn) (b:Nat) (cells:List Value):(Z.ins b cells) b=some cells:=if_pos rfl
theorem Zn.iG (Z:Zn) {b x:Nat} (cells:List Value) (h:x≠b):(Z.ins b cells) x=Z x:=if_neg h
theorem St.freeze {α:Type} [Cell α] {v:Value} {cells:List Value} {xs:List α} (hS:St h0 D Z0 R Z h (.gs v cells (aa α)::L)) (hR:RCs Z cells xs):
  ∃ Z',aO Z Z'∧RS Z' v xs∧St h0 D Z0 R Z' h L:=by
 have hp:Itm.gs v cells (aa α)∈Itm.gs v cells (aa α)::L:=List.mem_cons_self
 rcases hS.ok _ hp with ⟨rfl,rfl⟩ | ⟨b,n,c,rfl,h1,h2,j⟩
 ·have:xs=[]:=by
   cases xs with
   | nil=>rfl
   | cons x xs=>
    obtain ⟨cs,rest,I,J,_⟩:=hR
    have:=Cell.len J
    have:=Cell.pos (α:=α)
    cases cs with
    | nil=>simp at *;omega
    | cons=>simp at I
  subst this
  exact ⟨Z,aO.refl Z,⟨none,0,rfl,Nat.le_refl _,rfl⟩,hS.tail⟩
 ·have j5:(Itm.gs (.slice (some ⟨b,0,none⟩) n c) cells (aa α)).ids=[b]:=rfl
  have mb:Z b=none:=hS.dz _ hp b (by rw [j5];simp)
  have hle:aO Z (Z.ins b cells):=fun x cs hx=>by
   rw [Zn.iG _ _ (fun e=>by rw [e,mb] at hx;cases hx)];exact hx
  have hlen:=hR.length
  have hn:n=xs.length:=Nat.eq_of_mul_eq_mul_right (Cell.pos (α:=α)) (by show n * aa α=xs.length * aa α;omega)
  have ik:=List.pairwise_cons.1 hS.dj
  refine ⟨Z.ins b cells,hle,⟨some ⟨b,0,none⟩,c,by rw [hn],by omega,rfl,cells,Zn.km _ _ _,by show 0+_≤_;omega,?_⟩,?_⟩
  ·have:List.take (xs.length * aa α) (List.drop 0 cells)=cells:=by
    rw [List.drop_zero,List.take_of_length_le (by omega)]
   rw [this]
   exact hR.mono hle
  ·exact {hS.tail with
    b8:=fun x cs hx=>by
     by_cases e:x=b
     ·subst e;rw [Zn.km] at hx;exact ⟨_,j,Option.some.inj hx⟩
     ·rw [Zn.iG _ _ e] at hx;exact hS.b8 x cs hx
    dz:=fun q hq x hx=>by
     rw [Zn.iG _ _ (fun e=>ik.1 q hq b (by rw [j5];simp) (by rw [← e];exact hx))]
     exact hS.tail.dz q hq x hx
    ag:=hS.ag.trans hle
    eU:=fun x hx=>by
     by_cases e:x=b
     ·subst e;exact .inr (hS.new _ hp x (by rw [j5];simp))
     ·rw [Zn.iG _ _ e] at hx;exact hS.eU x hx}
theorem Inv.start (hI:Inv Z h):St {h with low:=h.next} [] Z (0,0) Z {h with low:=h.next} [] where
 b8:=hI.b8
 cT:=hI.cT
 ok p hp:=by cases hp
 dj:=List.Pairwise.nil
 dz p hp:=by cases hp
 aN b _ _:=rfl
 dB:=Nat.le_refl _
 new p hp:=by cases hp
 low x h1 _ _:=h1
 ag:=aO.refl _
 eU b hb:= .inl hb
 eW b _ h2:=absurd h2 (Nat.not_lt_zero _)
 eh:=Nat.zero_le _
 eY:= .inr rfl
theorem Pre.start (hS:Pre Z h L):St {h with low:=h.next} (a2 L) Z (0,0) Z {h with low:=h.next} L where
 b8:=hS.b8
 cT:=hS.cT
 ok:=hS.ok
 dj:=hS.dj
 dz:=hS.dz
 aN b _ _:=rfl
 dB:=Nat.le_refl _
 new p hp b hb:= .inl (kV.2 ⟨p,hp,hb⟩)
 low x h1 _ _:=h1
 ag:=aO.refl _
 eU b hb:= .inl hb
 eW b _ h2:=absurd h2 (Nat.not_lt_zero _)
 eh:=Nat.zero_le _
 eY:= .inr rfl
theorem St.call {A A' B:List Itm} (hS:St h0 D Z0 R Z h (A++B)) (hc:St h (a2 A) Z (0,0) Z' h' A'):St h0 D Z0 R Z' h' (A'++B):=by
 have hA:∀ p∈A,p∈A++B:=fun p hp=>List.mem_append_left _ hp
 have hB:∀ p∈B,p∈A++B:=fun p hp=>List.mem_append_right _ hp
 obtain ⟨_,I,J⟩:=List.pairwise_append.1 hS.dj
 have sf:∀ q∈B,∀ b∈q.ids,b∉a2 A:=fun q hq b hb CW=>by
  obtain ⟨p,hp,jr⟩:=kV.1 CW
  exact J p hp q hq b jr hb
 have pO:∀ b∈a2 A,b∈D∨h0.next≤b:=fun b hb=>by
  obtain ⟨p,hp,jr⟩:=kV.1 hb
  exact hS.new p (hA p hp) b jr
 have qt:∀ b∈a2 A,h.ae b≠none:=fun b hb=>by
  obtain ⟨p,hp,jr⟩:=kV.1 hb
  obtain ⟨B,h1,_⟩:=Itm.qS (hS.ok p (hA p hp)) jr
  rw [h1];simp
 exact {
  b8:=hc.b8
  cT:=hc.cT
  ok:=fun p hp=>by
   rcases List.mem_append.1 hp with hp | hp
   ·exact hc.ok p hp
   ·exact Itm.kN (hS.ok p (hB p hp)) fun b hb=>hc.aN b (hS.toPre.lt (hB p hp) hb) (sf p hp b hb)
  dj:=List.pairwise_append.2 ⟨hc.dj,I,fun p hp q hq b hb qd=>by
   rcases hc.new p hp b hb with h1 | h1
   ·exact sf q hq b qd h1
   ·have:=hS.toPre.lt (hB q hq) qd;omega⟩
  dz:=fun p hp b hb=>by
   rcases List.mem_append.1 hp with hp | hp
   ·exact hc.dz p hp b hb
   ·cases hz:Z' b with
    | none=>rfl
    | some cs=>
     rcases hc.eU b (by rw [hz];simp) with h1 | h1 | h1
     ·exact absurd (hS.dz p (hB p hp) b hb) h1
     ·exact absurd h1 (sf p hp b hb)
     ·have:=hS.toPre.lt (hB p hp) hb;omega
  aN:=fun b hb hd=>by
   rw [hc.aN b (Nat.lt_of_lt_of_le hb hS.dB) (fun q=>by rcases pO b q with h1 | h1<;>first | exact hd h1 | omega)]
   exact hS.aN b hb hd
  dB:=Nat.le_trans hS.dB hc.dB
  new:=fun p hp b hb=>by
   rcases List.mem_append.1 hp with hp | hp
   ·rcases hc.new p hp b hb with h1 | h1
    ·exact pO b h1
    ·exact .inr (Nat.le_trans hS.dB h1)
   ·exact hS.new p (hB p hp) b hb
  low:=fun x h1 h2 j=>hc.low x (hS.low x h1 h2 j) (Nat.le_trans h2 hS.dB) fun d hd=>by
   rcases pO d hd with q | q
   ·exact j d q
   ·omega
  ag:=hS.ag.trans hc.ag
  eU:=fun b hb=>by
   rcases hc.eU b hb with h1 | h1 | h1
   ·exact hS.eU b h1
   ·exact .inr (pO b h1)
   ·exact .inr (.inr (Nat.le_trans hS.dB h1))
  eW:=fun b h1 h2=>by
   have hn:=hS.eW b h1 h2
   rw [hc.aN b (Nat.lt_of_lt_of_le h2 hS.eh) (fun q=>qt b q hn)]
   exact hn
  eh:=Nat.le_trans hS.eh hc.dB
  eY:=hS.eY}
theorem St.leave (hS:St {h with low:=h.next} D Z0 R Z h' L):St h D Z0 R Z {h' with low:=if h'.low<h.low then h'.low else h.low} L:=
 {hS with
  aN:=hS.aN
  dB:=hS.dB
  new:=hS.new
  eU:=hS.eU
  eh:=hS.eh
  eY:=hS.eY
  cT:=hS.cT
  b8:=hS.b8
  ok:=fun p hp=>Itm.kN (hS.ok p hp) fun _ _=>rfl
  low:=fun x h1 h2 j=>by
   have:=hS.low x h2 h2 j
   show x≤if h'.low<h.low then h'.low else h.low
   split<;>omega}
end
end Go.Proofs.YtcilejikekccmaaGreat.Sy
namespace Go.Proofs.YtcilejikekccmaaGreat.Sy
section
open Go Am
open Cell (rc)
section
variable {P:Program} {R:List aR} {k:Nat} {l l':KL} {h h':AH} {K:KL→AH→Prop} {g:Option (Option Nat×Bool)} {d:Option Nat} {op:Op}
variable {h0:AH} {D:List Nat} {Z0 Z Z':Zn} {Rv:Nat×Nat} {L L':List Itm}
def zeroCells (P:Program) (t:TypeId):Option (List Value):=(ec P t).bind fun z=>if clean z then some z.cells.toList else none
theorem sJ {t:TypeId} {cs:List Value} (hz:zeroCells P t=some cs):gA P l (.alloc t) (fun id=> .pointer (some ⟨id,0,none⟩),cs,0):=by
 refine ⟨rfl,fun e he=>?_⟩
 simp only [aFresh,nP]
 unfold zeroCells at hz
 cases ht:ec P t with
 | none=>rw [ht] at hz;cases hz
 | some z=>
  rw [ht] at hz
  simp only [ax] at hz ⊢
  split at hz
  ·rename_i hc
   simp only [Option.some.injEq] at hz
   subst hz
   rw [if_pos hc]
  ·cases hz
theorem eK {t:TypeId} {x:Operand} {v:Value} {cs:List Value} (hx:opv l x=some v) (hc:v.cells.toList=cs):gA P l (.box t x) (fun id=> .pointer (some ⟨id,0,none⟩),cs,0):=by
 subst hc
 exact ⟨rfl,fun e he=>by simp only [aFresh,mU,he.opv hx]⟩
theorem e2 {cs:List Value} {z:Nat} (ho:R[k]?=some ⟨g,d,op⟩) (hg:gon l g) (hf:gA P l op (fun id=> .pointer (some ⟨id,0,none⟩),cs,z)) (hS:St h0 D Z0 Rv Z h L)
  (hk:∀ b h',St h0 D Z0 Rv Z h' (.ae b cs::L)→a6 P R (k+1) (bN l d (.pointer (some ⟨b,0,none⟩))) h' K):a6 P R k l h K:=
 bW ho hg hf.run (hk _ _ (hS.alloc cs z _ ⟨z,by rw [AH.fe,if_pos rfl]⟩ rfl))
def ldB (P:Program) (t:TypeId) (off:Nat) (cells:List Value):Option Value:=
 match P.underlying t with
 | some dd=>if lH dd then (match b6 P t with | some m=>if off+m≤cells.length then some (.agg ((cells.drop off).take m).toArray) else none | none=>none) else cells[off]?
 | none=>none
theorem mH {t:TypeId} {a:Addr} {B:dS} {v:Value} {off:Nat} {cells:List Value} (hs:a.spot=none) (hb:h.ae a.block=some B) (hv:ldB P t off cells=some v)
  (hc:∀ i,i<cells.length→B.cells[a.off+i]?=cells[off+i - off+0]?→True) (jF:∀ i,off+i<cells.length→B.cells[a.off+i]?=cells[off+i]?) (hl:a.off+(cells.length - off)≤B.cells.length):aLoad P t (.pointer (some a)) h=some v:=by
 unfold ldB at hv
 simp only [aLoad]
 cases hd:P.underlying t with
 | none=>rw [hd] at hv;cases hv
 | some dd=>
  rw [hd] at hv
  simp only [ax] at hv ⊢
  split at hv
  ·rename_i ha
   rw [if_pos ha]
   cases ht:b6 P t with
   | none=>rw [ht] at hv;cases hv
   | some m=>
    rw [ht] at hv
    simp only at hv
    simp only [ax]
    split at hv
    ·rename_i hm
     simp only [Option.some.injEq] at hv
     subst hv
     simp only [AH.cN,hs,hb,ax]
     rw [if_pos (by omega)]
     simp only [Option.map_some,Option.some.injEq,Value.agg.injEq]
     congr 1
     apply List.ext_getElem?
     intro i
     rw [List.getElem?_take,List.getElem?_take,List.getElem?_drop,List.getElem?_drop]
     split
     ·exact jF i (by omega)
     ·rfl
    ·cases hv
  ·rename_i ha
   rw [if_neg ha]
   simp only [AH.load,hs,hb,ax]
   have bD:off<cells.length:=by
    rcases Nat.lt_or_ge off cells.length with q | q
    ·exact q
    ·rw [List.getElem?_eq_none q] at hv;cases hv
   have:=jF 0 (by omega)
   simp only [Nat.add_zero] at this
   rw [this];exact hv
theorem FF {t:TypeId} {x:Operand} {b off i:Nat} {cells:List Value} {v:Value} (hS:St h0 D Z0 Rv Z h L) (hi:L[i]?=some (.ae b cells))
  (hx:opv l x=some (.pointer (some ⟨b,off,none⟩))) (hv:ldB P t off cells=some v):cq P l (.load t x) h (v) h:=by
 obtain ⟨z,hz⟩:=hS.ok _ (au hi)
 have hle:off≤cells.length:=by
  unfold ldB at hv
  split at hv
  ·split at hv
   ·split at hv
    ·split at hv
     ·omega
     ·cases hv
    ·cases hv
   ·rcases Nat.lt_or_ge off cells.length with q | q
    ·omega
    ·rw [List.getElem?_eq_none q] at hv;cases hv
  ·cases hv
 intro e he
 simp only [aOp,he.opv hx]
 rw [mH (h:=h) (a:=⟨b,off,none⟩) (off:=off) (cells:=cells) rfl hz hv (fun _ _ _=>trivial) (fun i _=>rfl) (by show off+(cells.length - off)≤cells.length;omega)]
 rfl
theorem zR {t:TypeId} {x:Operand} {b off:Nat} {cells:List Value} {v:Value} (hS:St h0 D Z0 Rv Z h L) (hi:Z b=some cells)
  (hx:opv l x=some (.pointer (some ⟨b,off,none⟩))) (hv:ldB P t off cells=some v):cq P l (.load t x) h (v) h:=by
 obtain ⟨B,hz,dI⟩:=hS.b8 _ _ hi
 have hle:off≤cells.length:=by
  unfold ldB at hv
  split at hv
  ·split at hv
   ·split at hv
    ·split at hv
     ·omega
     ·cases hv
    ·cases hv
   ·rcases Nat.lt_or_ge off cells.length with q | q
    ·omega
    ·rw [List.getElem?_eq_none q] at hv;cases hv
  ·cases hv
 intro e he
 simp only [aOp,he.opv hx]
 rw [mH (h:=h) (a:=⟨b,off,none⟩) (off:=off) (cells:=cells) rfl hz hv (fun _ _ _=>trivial) (fun i _=>by rw [dI]) (by rw [dI];show off+(cells.length - off)≤cells.length;omega)]
 rfl
theorem pe (hl:∀ b,h.ae b≠none→b<h.next) {c:Nat} {X:Option dS} (hc:h.ae c≠none):∀ b,(h.put c X).ae b≠none→b<(h.put c X).next:=by
 intro b hb
 rw [AH.oe]
 rw [AH.gQ] at hb
 by_cases e:b=c
 ·subst e;exact hl b hc
 ·rw [if_neg e] at hb;exact hl b hb
theorem St.Bb {i b off z:Nat} {cells vs:List Value} (hS:St h0 D Z0 Rv Z h L) (hi:L[i]?=some (.ae b cells)) (hl:off+vs.length≤cells.length) (ho:vs.all Value.oneCell'=true):
  ∃ h',AH.store h ⟨b,off,none⟩ vs=some h'∧St h0 D Z0 Rv Z h' (L.set i (.ae b (cells.take off++vs++cells.drop (off+vs.length)))):=by
 obtain ⟨z,hz⟩:=hS.ok _ (au hi)
 refine ⟨h.put b (some ⟨cells.take off++vs++cells.drop (off+vs.length),true,z⟩),?_,?_⟩
 ·simp only [AH.store,hz,ax]
  rw [if_pos ⟨trivial,hl,ho⟩]
 ·refine hS.step hi _ (fun c hc _=>?_) ⟨z,by rw [AH.gQ,if_pos rfl]⟩ (fun c hc=> .inl hc) (Nat.le_refl _) (pe hS.cT (by rw [hz];simp)) (fun x h1 h2=>?_)
  ·rw [AH.gQ,if_neg (by simpa [Itm.ids] using hc)]
  ·rw [AH.lG]
   have:=h2 b (by simp [Itm.ids])
   split<;>omega
def lV (v:Value):List Value:=v.cells.toList
theorem gg {t:TypeId} {x y:Operand} {i b off:Nat} {cells vs cO:List Value} {v:Value} (hS:St h0 D Z0 Rv Z h L) (hi:L[i]?=some (.ae b cells))
  (hx:opv l x=some (.pointer (some ⟨b,off,none⟩))) (hy:opv l y=some v) (fW:lV v=vs) (ht:b6 P t=some vs.length) (fF:vs.all Value.oneCell'=true) (hl:Nat.ble (off+vs.length) cells.length=true)
  (hc:cells.take off++vs++cells.drop (off+vs.length)=cO) (hL:L.set i (.ae b cO)=L'):
  ∃ h',cq P l (.store t x y) h undef h'∧St h0 D Z0 Rv Z h' L':=by
 subst hc hL
 obtain ⟨h',h1,h2⟩:=hS.Bb (z:=0) hi (Nat.le_of_ble_eq_true hl) fF
 refine ⟨h',fun e he=>?_,h2⟩
 simp only [aOp,iT,he.opv hx,he.opv hy,ht,ax]
 have cc:v.cells.size=vs.length:=by rw [← fW];simp [lV]
 have qJ:v.cells.toList=vs:=fW
 rw [if_pos cc,qJ,h1];rfl
def lenOf:Value→Option Nat
 | .slice _ n _=>some n
 | _=>none
section
variable {α:Type} [Cell α] {xs:List α} {v:Value} {cells:List Value}
theorem RS.len (hR:RS Z v xs):lenOf v=some xs.length:=by obtain ⟨a,c,rfl,_⟩:=hR;rfl
theorem St.dP (hS:St h0 D Z0 Rv Z h L) {i:Nat} (hi:L[i]?=some (.gs v cells (aa α))) (hR:RCs Z cells xs):lenOf v=some xs.length:=by
 have hp:=hS.ok _ (au hi)
 have hlen:=hR.length
 have eN:=Cell.pos (α:=α)
 rcases hp with ⟨rfl,rfl⟩ | ⟨b,n,c,rfl,h1,_⟩
 ·simp only [lenOf]
  congr 1
  simp only [List.length_nil] at hlen
  rcases Nat.mul_eq_zero.1 hlen.symm with q | q
  ·exact q.symm
  ·have:aa α=Cell.size α:=rfl
   omega
 ·simp only [lenOf]
  congr 1
  exact Nat.eq_of_mul_eq_mul_right eN (by show n * aa α=xs.length * aa α;omega)
def baseOf:Value→Addr
 | .slice (some a) _ _=>a
 | _=>⟨0,0,none⟩
def bw (v:Value) (i:Int) (s j:Nat):Addr:=⟨(baseOf v).block,(baseOf v).off+i.toNat * s+j,none⟩
def j4 (h:AH) (v:Value) (i:Int) (s:Nat) (cs:List Value):Prop:=
 ∃ B,h.ae (baseOf v).block=some B∧(baseOf v).off+i.toNat * s+s≤B.cells.length∧(B.cells.drop ((baseOf v).off+i.toNat * s)).take s=cs
theorem RS.el (hR:RS Z v xs) (hI:Inv Z h) {i:Int} {x:α} (hx:xs[i.toNat]?=some x):∃ cs,rc Z cs x∧j4 h v i (aa α) cs:=by
 obtain ⟨a,c,rfl,h2,j⟩:=hR
 have hi:i.toNat<xs.length:=by
  rcases Nat.lt_or_ge i.toNat xs.length with q | q
  ·exact q
  ·rw [List.getElem?_eq_none q] at hx;cases hx
 cases a with
 | none=>subst j;simp at hi
 | some a=>
  obtain ⟨af,all,J,ag,U⟩:=j
  obtain ⟨B,ab,I⟩:=hI.b8 _ _ J
  obtain ⟨cs,ad,ae⟩:=U.elem hx
  have hm:i.toNat * aa α+aa α≤xs.length * aa α:=by
   have:=Nat.mul_le_mul_right (aa α) (Nat.succ_le_of_lt hi)
   rw [Nat.succ_mul] at this;exact this
  refine ⟨cs,ad,B,ab,by rw [I];show a.off+_+_≤_;omega,?_⟩
  rw [I,← ae]
  show List.take _ (List.drop (a.off+_) all)=_
  rw [List.drop_take,List.drop_drop,List.take_take,Nat.min_eq_left (by omega)]
theorem St.cv (hS:St h0 D Z0 Rv Z h L) {j:Nat} (hi:L[j]?=some (.gs v cells (aa α))) (hR:RCs Z cells xs) {i:Int} {x:α} (hx:xs[i.toNat]?=some x):∃ cs,rc Z cs x∧j4 h v i (aa α) cs∧(cells.drop (i.toNat * aa α)).take (aa α)=cs:=by
 have hp:=hS.ok _ (au hi)
 have hlen:=hR.length
 have hi:i.toNat<xs.length:=by
  rcases Nat.lt_or_ge i.toNat xs.length with q | q
  ·exact q
  ·rw [List.getElem?_eq_none q] at hx;cases hx
 have hm:i.toNat * aa α+aa α≤xs.length * aa α:=by
  have:=Nat.mul_le_mul_right (aa α) (Nat.succ_le_of_lt hi)
  rw [Nat.succ_mul] at this;exact this
 obtain ⟨cs,J,I⟩:=hR.elem hx
 have eN:=Cell.pos (α:=α)
 rcases hp with ⟨rfl,rfl⟩ | ⟨b,n,c,rfl,h1,h2,U⟩
 ·simp only [List.length_nil] at hlen
  have:aa α=Cell.size α:=rfl
  omega
 ·exact ⟨cs,J,⟨_,U,by show 0+_+_≤_;simp only [Nat.zero_add];omega,by show List.take _ (List.drop (0+_) cells)=cs;rw [Nat.zero_add];exact I⟩,I⟩
def j6 (v:Value) (n:Nat):Prop:=∃ a c,v= .slice (some a) n c∧a.spot=none
theorem RS.cG (hR:RS Z v xs) (hn:0<xs.length):j6 v xs.length:=by
 obtain ⟨a,c,rfl,h2,j⟩:=hR
 cases a with
 | none=>subst j;simp at hn
 | some a=>exact ⟨a,c,rfl,j.1⟩
theorem St.bR (hS:St h0 D Z0 Rv Z h L) {j:Nat} (hi:L[j]?=some (.gs v cells (aa α))) (hR:RCs Z cells xs) (hn:0<xs.length):j6 v xs.length:=by
 have hl:=hS.dP hi hR
 rcases hS.ok _ (au hi) with ⟨rfl,rfl⟩ | ⟨b,n,c,rfl,h1,_⟩
 ·simp only [lenOf,Option.some.injEq] at hl;omega
 ·simp only [lenOf,Option.some.injEq] at hl;subst hl;exact ⟨_,_,rfl,rfl⟩
end
theorem h7 {t:TypeId} {x:Operand} {v:Value} {n:Nat} (hx:opv l x=some v) (hn:lenOf v=some n) (ht:∃ e,P.underlying t=some (.slice e)):cq P l (.call ⟨.builtin .len,#[x],#[t]⟩) h (.int .i64 n) h:=by
 intro e he
 obtain ⟨u,hu⟩:=ht
 cases v with
 | slice a m c=>
  simp only [lenOf,Option.some.injEq] at hn
  subst hn
  simp only [aOp,List.map_cons,List.map_nil,he.opv hx,aBuiltin,aLen,hu,Option.map_some]
 | _=>cases hn
def slTy (P:Program) (t:TypeId):Option Nat:=match P.underlying t with | some (.slice e)=>b6 P e | _=>none
theorem bx {t:TypeId} {x y:Operand} {v:Value} {n s:Nat} {i:Int} {kd:IntKind} (hx:opv l x=some v) (hy:opv l y=some (.int kd i)) (ht:slTy P t=some s) (hb:j6 v n) (h1:0≤i) (h2:i<n):cq P l (.indexAddr t x y) h (.pointer (some (bw v i s 0))) h:=by
 intro e he
 obtain ⟨a,c,rfl,gb⟩:=hb
 unfold slTy at ht
 cases hu:P.underlying t with
 | none=>rw [hu] at ht;cases ht
 | some dd=>
  rw [hu] at ht
  cases dd with
  | slice u=>
   simp only at ht
   simp only [aOp,he.opv hx,he.opv hy,aIndexAddr,hu,ht,ax]
   rw [if_pos ⟨h1,h2,gb⟩]
   simp only [Option.map_some,Option.some.injEq,Prod.mk.injEq,Value.pointer.injEq,and_true]
   cases a
   simp only at gb
   subst gb
   simp [Addr.add,bw,baseOf]
  | _=>cases ht
theorem Ds {v:Value} {i:Int} {s j:Nat} {cs:List Value} {B:dS} (h2:(baseOf v).off+i.toNat * s+s≤B.cells.length) (I:(B.cells.drop ((baseOf v).off+i.toNat * s)).take s=cs):cs.length=s∧∀ m,j+m<cs.length→B.cells[(bw v i s j).off+m]?=cs[j+m]?:=by
 have hl:cs.length=s:=by rw [← I];simp;omega
 refine ⟨hl,fun m hm=>?_⟩
 rw [← I,List.getElem?_take,if_pos (by omega),List.getElem?_drop]
 congr 1
 show (baseOf v).off+i.toNat * s+j+m=_
 omega
theorem bE {t:TypeId} {x:Operand} {v w:Value} {i:Int} {s j:Nat} {cs:List Value} (hE:j4 h v i s cs) (hx:opv l x=some (.pointer (some (bw v i s j)))) (hv:ldB P t j cs=some w):cq P l (.load t x) h (w) h:=by
 obtain ⟨B,h1,h2,I⟩:=hE
 obtain ⟨hl,jF⟩:=Ds (j:=j) h2 I
 have hle:j≤cs.length:=by
  unfold ldB at hv
  split at hv
  ·split at hv
   ·split at hv
    ·split at hv
     ·omega
     ·cases hv
    ·cases hv
   ·rcases Nat.lt_or_ge j cs.length with q | q
    ·omega
    ·rw [List.getElem?_eq_none q] at hv;cases hv
  ·cases hv
 intro e he
 simp only [aOp,he.opv hx]
 rw [mH (h:=h) (a:=bw v i s j) (off:=j) (cells:=cs) rfl h1 hv (fun _ _ _=>trivial) jF (by show (baseOf v).off+i.toNat * s+j+(cs.length - j)≤B.cells.length;omega)]
 rfl
theorem gD {α:Type} [Cell α] {t:TypeId} {x y:Operand} {v w:Value} {i:Int} {j m:Nat} {cells cs a9 vs:List Value} {xs:List α} {u u':α} (hS:St h0 D Z0 Rv Z h L) (hi:L[m]?=some (.gs v cells (aa α))) (hR:RCs Z cells xs)
  (hu:xs[i.toNat]?=some u) (dI:(cells.drop (i.toNat * aa α)).take (aa α)=cs)
  (hx:opv l x=some (.pointer (some (bw v i (aa α) j)))) (hy:opv l y=some w) (fW:lV w=vs) (ht:b6 P t=some vs.length) (fF:vs.all Value.oneCell'=true) (hl:Nat.ble (j+vs.length) cs.length=true)
  (hc:cs.take j++vs++cs.drop (j+vs.length)=a9) (iz:rc Z a9 u'):
  ∃ h' cO,cq P l (.store t x y) h undef h'∧RCs Z cO (xs.set i.toNat u')∧St h0 D Z0 Rv Z h' (L.set m (.gs v cO (aa α))):=by
 have hlen:=hR.length
 have dJ:i.toNat<xs.length:=by
  rcases Nat.lt_or_ge i.toNat xs.length with q | q
  ·exact q
  ·rw [List.getElem?_eq_none q] at hu;cases hu
 have hm:i.toNat * aa α+aa α≤xs.length * aa α:=by
  have:=Nat.mul_le_mul_right (aa α) (Nat.succ_le_of_lt dJ)
  rw [Nat.succ_mul] at this;exact this
 have hl:=Nat.le_of_ble_eq_true hl
 have du:cs.length=aa α:=by rw [← dI];simp;omega
 have eN:0<aa α:=Cell.pos (α:=α)
 have hp:=hS.ok _ (au hi)
 rcases hp with ⟨rfl,rfl⟩ | ⟨b,n,c,rfl,h1,h2,I⟩
 ·simp only [List.length_nil] at hlen;omega
 ·have p6:=hR.bQ hu iz
  have heq:cells.take (i.toNat * aa α+j)++vs++cells.drop (i.toNat * aa α+j+vs.length)=cells.take (i.toNat * aa α)++a9++cells.drop (i.toNat * aa α+aa α):=by
   rw [← hc,← dI]
   apply List.ext_getElem?
   intro q
   simp only [List.getElem?_append,b7,List.length_take,List.length_drop,List.getElem?_take,List.getElem?_drop,du]
   have e1:min (i.toNat * aa α+j) cells.length=i.toNat * aa α+j:=by omega
   have ab:min (i.toNat * aa α) cells.length=i.toNat * aa α:=by omega
   have ad:min (aa α) (cells.length - i.toNat * aa α)=aa α:=by omega
   have ae:min j (aa α)=j:=by omega
   rw [e1,ab,ad,ae]
   by_cases J:q<i.toNat * aa α
   ·rw [if_pos (by omega),if_pos (by omega),if_pos (by omega),if_pos (by omega),if_pos (by omega)]
    rw [if_pos J]
   ·by_cases U:q<i.toNat * aa α+j
    ·rw [if_pos (by omega),if_pos (by omega),if_pos (by omega),if_pos (by omega),if_neg (by omega),if_pos (by omega),if_pos (by omega),if_pos (by omega),if_pos (by omega)]
     congr 1;omega
    ·by_cases af:q<i.toNat * aa α+j+vs.length
     ·rw [if_pos (by omega),if_neg (by omega),if_pos (by omega),if_neg (by omega),if_pos (by omega),if_neg (by omega)]
      congr 1;omega
     ·by_cases ag:q<i.toNat * aa α+aa α
      ·rw [if_neg (by omega),if_pos (by omega),if_neg (by omega),if_neg (by omega),if_pos (by omega)]
       congr 1;omega
      ·rw [if_neg (by omega),if_neg (by omega)]
       congr 1;omega
  have o8:i.toNat * aa α+j+vs.length≤cells.length:=by omega
  have bp:AH.store h (bw (.slice (some ⟨b,0,none⟩) n c) i (aa α) j) vs=some (h.put b (some ⟨cells.take (i.toNat * aa α)++a9++cells.drop (i.toNat * aa α+aa α),true,aa α⟩)):=by
   rw [← heq]
   simp only [AH.store,bw,baseOf,I,ax,Nat.zero_add]
   rw [if_pos ⟨trivial,o8,fF⟩]
  refine ⟨h.put b (some ⟨cells.take (i.toNat * aa α)++a9++cells.drop (i.toNat * aa α+aa α),true,aa α⟩),_,fun e he=>?_,p6,?_⟩
  ·simp only [aOp,iT,he.opv hx,he.opv hy,ht,ax]
   have cc:w.cells.size=vs.length:=by rw [← fW];simp [lV]
   have qJ:w.cells.toList=vs:=fW
   rw [if_pos cc,qJ,bp];rfl
  ·refine hS.step hi _ (fun q hq _=>?_) (.inr ⟨b,n,c,rfl,?_,h2,by rw [AH.gQ,if_pos rfl]⟩) (fun q hq=> .inl hq) (Nat.le_refl _) (pe hS.cT (by rw [I];simp)) (fun x J U=>?_)
   ·rw [AH.gQ,if_neg (by simpa [Itm.ids] using hq)]
   ·have:=p6.length
    rw [List.length_set] at this
    omega
   ·rw [AH.lG]
    have:=U b (by simp [Itm.ids])
    split<;>omega
end
end
section
open Go Am
open Cell (rc)
section
variable {P:Program} {R:List aR} {k:Nat} {l l':KL} {h h':AH} {K:KL→AH→Prop} {g:Option (Option Nat×Bool)} {d:Option Nat} {op:Op}
variable {h0:AH} {D:List Nat} {Z0 Z Z':Zn} {Rv:Nat×Nat} {L L':List Itm}
def qA (P:Program) (l:KL) (t:TypeId) (n:Nat) (ps:Array (Nat×Operand)):Option (List Value×Nat):=
 match opvs l (ps.toList.map (·.2)) with
 | some vs=>(aBuildSlice P t n ((ps.toList.map (·.1)).zip vs)).map (·.2)
 | none=>none
theorem E5 {t:TypeId} {n:Nat} {ps:List (Nat×Value)} {f:gR} (hf:aBuildSlice P t n ps=some f):f.1=fun id=> .slice (some ⟨id,0,none⟩) n n:=by
 unfold aBuildSlice at hf
 split at hf
 ·cases h1:b6 P _ with
  | none=>rw [h1] at hf;cases hf
  | some s=>
   rw [h1] at hf
   cases h2:ec P _ with
   | none=>rw [h2] at hf;cases hf
   | some z=>
    rw [h2] at hf
    simp only [ax] at hf
    split at hf
    ·obtain ⟨c,_,rfl⟩:=Option.map_eq_some_iff.1 hf
     rfl
    ·cases hf
 ·cases hf
theorem St.BK (hS:St h0 D Z0 Rv Z h L) {n c s:Nat} {cells:List Value} (hc:c=n∨c=n+1) (hn:n * s=cells.length):
  St h0 D Z0 Rv Z (h.alloc cells s) (.gs (.slice (some ⟨h.next,0,none⟩) n c) cells s::L):=
 hS.alloc cells s _ (.inr ⟨h.next,n,c,rfl,hn,hc,by rw [AH.fe,if_pos rfl]⟩) rfl
theorem c6 {t:TypeId} {n s:Nat} {ps:Array (Nat×Operand)} {cells:List Value} (hb:qA P l t n ps=some (cells,s)):gA P l (.buildSlice t n ps) (fun id=> .slice (some ⟨id,0,none⟩) n n,cells,s):=by
 unfold qA at hb
 cases hv:opvs l (ps.toList.map (·.2)) with
 | none=>rw [hv] at hb;cases hb
 | some vs=>
  rw [hv] at hb
  simp only at hb
  obtain ⟨f,h1,h2⟩:=Option.map_eq_some_iff.1 hb
  have hf:=E5 h1
  refine ⟨rfl,fun e he=>?_⟩
  have j:=jb he _ hv
  have:(ps.toList.map fun p=>(p.1,e.ev p.2))=(ps.toList.map (·.1)).zip vs:=by
   rw [← j,List.map_map,List.zip_map'];rfl
  simp only [aFresh]
  rw [this,h1,← hf,← h2]
theorem dG {cells:List Value} {n s:Nat} (ho:R[k]?=some ⟨g,d,op⟩) (hg:gon l g) (hf:gA P l op (fun id=> .slice (some ⟨id,0,none⟩) n n,cells,s)) (hn:n * s=cells.length) (hS:St h0 D Z0 Rv Z h L)
  (hk:∀ v h',St h0 D Z0 Rv Z h' (.gs v cells s::L)→a6 P R (k+1) (bN l d v) h' K):a6 P R k l h K:=
 bW ho hg hf.run (hk _ _ (hS.BK (.inl rfl) hn))
def msTy (P:Program) (t:TypeId):Option (Nat×Nat×List Value):=
 match P.underlying t with
 | some (.slice e)=>(match b6 P e,ju P e,ec P e with
  | some s,some b,some z=>if clean z=true∧0<s∧z.cells.toList.length=s then some (s,b,z.cells.toList) else none
  | _,_,_=>none)
 | _=>none
theorem Fh {α:Type} [Cell α] {zc:List Value} {x0:α} (hz:rc Z zc x0):∀ (n:Nat),RCs Z ((List.range (n * aa α)).map fun i=>zc[i % zc.length]!) (List.replicate n x0):=by
 have hl:zc.length=aa α:=Cell.len hz
 have eN:0<aa α:=Cell.pos (α:=α)
 intro n
 induction n with
 | zero=>simp [RCs]
 | succ n ih=>
  have e1:(List.range ((n+1) * aa α)).map (fun i=>zc[i % zc.length]!)=(List.range (n * aa α)).map (fun i=>zc[i % zc.length]!)++zc:=by
   rw [Nat.succ_mul,List.range_add,List.map_append,List.map_map]
   congr 1
   apply List.ext_getElem?
   intro i
   rw [List.getElem?_map]
   rcases Nat.lt_or_ge i (aa α) with q | q
   ·rw [List.getElem?_range q]
    simp only [Option.map_some,Function.comp]
    have:(n * aa α+i) % zc.length=i:=by rw [hl,Nat.mul_comm,Nat.mul_add_mod,Nat.mod_eq_of_lt q]
    rw [this,getElem!_pos zc i (by omega),aX (by omega)]
   ·rw [List.getElem?_eq_none (by simpa using q),List.getElem?_eq_none (by omega)];rfl
  rw [e1,List.replicate_succ']
  exact ih.append (RCs.single hz)
theorem Eb {α:Type} [Cell α] {t:TypeId} {a b:Operand} {ka kb:IntKind} {n:Int} {bX:Nat} {zc:List Value} {x0:α} (ha:opv l a=some (.int ka n)) (hb:opv l b=some (.int kb n)) (ht:msTy P t=some (aa α,bX,zc))
  (hz:rc Z zc x0) (h1:0≤n) (h2:n * bX≤281474976710656) (I:n≤4611686018427387904):
  ∃ cells,gA P l (.makeSlice t a b) (fun id=> .slice (some ⟨id,0,none⟩) n.toNat n.toNat,cells,aa α)∧RCs Z cells (List.replicate n.toNat x0)∧n.toNat * aa α=cells.length:=by
 have hR:=Fh (Z:=Z) hz n.toNat
 have hlen:=hR.length
 rw [List.length_replicate] at hlen
 refine ⟨_,⟨rfl,fun e he=>?_⟩,hR,hlen.symm⟩
 unfold msTy at ht
 split at ht
 ·rename_i u hu
  split at ht
  ·rename_i s bb z J U ab
   split at ht
   ·rename_i hc
    simp only [Option.some.injEq,Prod.mk.injEq] at ht
    obtain ⟨rfl,rfl,rfl⟩:=ht
    obtain ⟨c1,c2,j⟩:=hc
    simp only [aFresh,he.opv ha,he.opv hb,aMakeSlice,hu,J,U,ab,ax]
    rw [if_pos ⟨c1,c2,h1,trivial,by rw [Int.mul_comm];simpa using h2,I⟩]
    simp only [Option.some.injEq,Prod.mk.injEq,true_and,and_true]
    rw [Array.toList_map,Array.toList_range]
    apply List.map_congr_left
    intro i _
    have eN:0<aa α:=Cell.pos (α:=α)
    have cc:z.cells.size=aa α:=by simpa using j
    simp only [j,cc]
    have hm:i % aa α<aa α:=Nat.mod_lt _ eN
    rw [getElem!_pos z.cells (i % aa α) (by omega),getElem!_pos z.cells.toList (i % aa α) (by omega)]
    simp
   ·cases ht
  ·cases ht
 ·cases ht
def appTy (P:Program) (t tx:TypeId):Option (Nat×Nat):=
 match P.underlying t,P.underlying tx with
 | some (.slice e),some dx=>(match b6 P e,ju P e,ec P e with
  | some s,some b,some z=>if appKind dx=true∧clean z=true∧0<s∧z.cells.size=s then some (s,b) else none
  | _,_,_=>none)
 | _,_=>none
theorem app_eq {t tx:TypeId} {s bX:Nat} (ht:appTy P t tx=some (s,bX)) {base:Option Addr} {n c:Nat} {x:Value} {m:Nat} {news:List Value} (hx:aNews s x h=some (m,news)) (hb:(n+m) * bX≤140737488355328) (hm:n+m≤4611686018427387904) (ho:news.all Value.oneCell'=true):
  aAppend P t tx (.slice base n c) x h=(if m=0 then some (.slice base n c,h) else
   match base with
   | none=>if n=0∧c=0 then some (.slice (some ⟨h.next,0,none⟩) m (m+1),h.alloc news s) else none
   | some a=>
    if c=n then (h.cN a (n * s)).bind fun c4=>some (.slice (some ⟨h.next,0,none⟩) (n+m) (n+m+1),h.alloc (c4++news) s)
    else if c=n+1∧a.spot=none then (h.ae a.block).bind fun B=>
     if B.own=true∧B.dL=s∧a.off+n * s=B.cells.length then
      some (.slice (some ⟨h.next,0,none⟩) (n+m) (n+m+1),(h.put a.block none).alloc (B.cells.drop a.off++news) s)
     else none
    else none):=by
 unfold appTy at ht
 split at ht
 ·rename_i e dx h1 h2
  split at ht
  ·rename_i s' b z j I J
   split at ht
   ·rename_i hc
    simp only [Option.some.injEq,Prod.mk.injEq] at ht
    obtain ⟨rfl,rfl⟩:=ht
    obtain ⟨c1,c2,U,aa⟩:=hc
    simp only [aAppend,h1,h2,if_pos c1,j,I,J,ax,hx]
    rw [if_pos ⟨c2,U,aa,hb,hm,ho⟩]
    rfl
   ·cases ht
  ·cases ht
 ·cases ht
theorem rO (hl:∀ b,h.ae b≠none→b<h.next) (cs:List Value) (z:Nat):∀ b,(h.alloc cs z).ae b≠none→b<(h.alloc cs z).next:=by
 intro b hb
 rw [AH.fe] at hb
 rw [AH.qV]
 by_cases e:b=h.next
 ·omega
 ·rw [if_neg e] at hb;have:=hl b hb;omega
theorem St.append {α:Type} [Cell α] {t tx:TypeId} {bX i:Nat} {v x:Value} {cells news:List Value} {xs ys:List α} (hS:St h0 D Z0 Rv Z h L) (hi:L[i]?=some (.gs v cells (aa α))) (hR:RCs Z cells xs) (hY:RCs Z news ys)
  (ht:appTy P t tx=some (aa α,bX)) (hx:aNews (aa α) x h=some (ys.length,news)) (hb:(xs.length+ys.length) * bX≤140737488355328) (hm:xs.length+ys.length≤4611686018427387904):
  ∃ v' cO h',aAppend P t tx v x h=some (v',h')∧RCs Z cO (xs++ys)∧St h0 D Z0 Rv Z h' (L.set i (.gs v' cO (aa α))):=by
 have hl:=hS.dP hi hR
 have hp:=hS.ok _ (au hi)
 have hlen:=hR.length
 have rb:=hR.append hY
 have U:=rb.length
 rw [b7,b7] at U
 by_cases nG:ys.length=0
 ·have yS:ys=[]:=List.eq_nil_of_length_eq_zero nG
  subst yS
  have gG:L.set i (.gs v cells (aa α))=L:=by
   obtain ⟨j,J⟩:=List.getElem?_eq_some_iff.1 hi
   rw [← J];exact List.set_getElem_self j
  refine ⟨v,cells,h,?_,by simpa using hR,by rw [gG];exact hS⟩
  cases v with
  | slice base n c=>
   simp only [lenOf,Option.some.injEq] at hl
   subst hl
   rw [app_eq ht hx hb hm hY.one,if_pos nG]
  | _=>cases hl
 ·rcases hp with ⟨rfl,rfl⟩ | ⟨b,n,c,rfl,h1,h2,I⟩
  ·simp only [lenOf,Option.some.injEq] at hl
   have AY:xs=[]:=List.eq_nil_of_length_eq_zero hl.symm
   subst AY
   refine ⟨_,news,h.alloc news (aa α),by rw [show (Value.slice none 0 0)= .slice none ([]:List α).length 0 from rfl,app_eq ht hx hb hm hY.one,if_neg nG];rfl,hY,?_⟩
   refine hS.step hi _ (fun q hq bD=>by rw [AH.fe,if_neg (by omega)]) (.inr ⟨h.next,_,_,rfl,by have:=hY.length;omega, .inr rfl,by rw [AH.fe,if_pos rfl]⟩) (fun q hq=>?_) (Nat.le_succ _) (rO hS.cT _ _) (fun x j _=>j)
   simp only [Itm.ids,List.mem_singleton] at hq
   exact .inr (by omega)
  ·simp only [lenOf,Option.some.injEq] at hl
   subst hl
   have gi:b<h.next:=hS.cT b (by rw [I];simp)
   have tf:(xs.length+ys.length) * aa α=(cells++news).length:=by rw [b7,U]
   by_cases hc:c=xs.length
   ·refine ⟨.slice (some ⟨h.next,0,none⟩) (xs.length+ys.length) (xs.length+ys.length+1),cells++news,h.alloc (cells++news) (aa α),?_,rb,?_⟩
    ·rw [app_eq ht hx hb hm hY.one,if_neg nG]
     simp only [if_pos hc]
     have mR:h.cN ⟨b,0,none⟩ (xs.length * aa α)=some cells:=by
      simp only [AH.cN,I,ax]
      rw [if_pos (by omega),List.drop_zero,List.take_of_length_le (by omega)]
     rw [mR];rfl
    ·refine hS.step hi _ (fun q hq bD=>by rw [AH.fe,if_neg (by omega)]) (.inr ⟨h.next,_,_,rfl,tf, .inr rfl,by rw [AH.fe,if_pos rfl]⟩) (fun q hq=>?_) (Nat.le_succ _) (rO hS.cT _ _) (fun x j _=>j)
     simp only [Itm.ids,List.mem_singleton] at hq
     exact .inr (by omega)
   ·have ab:c=xs.length+1:=by omega
    refine ⟨.slice (some ⟨h.next,0,none⟩) (xs.length+ys.length) (xs.length+ys.length+1),cells++news,(h.put b none).alloc (cells++news) (aa α),?_,rb,?_⟩
    ·rw [app_eq ht hx hb hm hY.one,if_neg nG]
     simp only [if_neg hc]
     rw [if_pos ⟨ab,trivial⟩,I]
     simp only [ax]
     rw [if_pos ⟨trivial,trivial,by omega⟩,List.drop_zero]
    ·refine hS.step hi _ (fun q hq bD=>?_) (.inr ⟨h.next,_,_,rfl,tf, .inr rfl,by rw [AH.fe,AH.oe,if_pos rfl]⟩) (fun q hq=>?_) (Nat.le_succ _) (rO (pe hS.cT (by rw [I];simp)) _ _) (fun x j J=>?_)
     ·rw [AH.fe,AH.oe,if_neg (by omega),AH.gQ,if_neg (by simpa [Itm.ids] using hq)]
     ·simp only [Itm.ids,List.mem_singleton] at hq
      exact .inr (by omega)
     ·rw [AH.Ge,AH.lG]
      have:=J b (by simp [Itm.ids])
      split<;>omega
theorem dE {α:Type} [Cell α] {t tx:TypeId} {a b:Operand} {bX i:Nat} {v x:Value} {cells news:List Value} {xs ys:List α} (hS:St h0 D Z0 Rv Z h L) (hi:L[i]?=some (.gs v cells (aa α))) (hR:RCs Z cells xs)
  (hN:aNews (aa α) x h=some (ys.length,news)∧RCs Z news ys) (ha:opv l a=some v) (hb:opv l b=some x) (ht:appTy P t tx=some (aa α,bX)) (pj:(xs.length+ys.length) * bX≤140737488355328) (hm:xs.length+ys.length≤4611686018427387904):
  ∃ v' cO h',cq P l (.call ⟨.builtin .append,#[a,b],#[t,tx]⟩) h v' h'∧RCs Z cO (xs++ys)∧St h0 D Z0 Rv Z h' (L.set i (.gs v' cO (aa α))):=by
 obtain ⟨v',cO,h',h1,h2,j⟩:=hS.append hi hR hN.2 ht hN.1 pj hm
 refine ⟨v',cO,h',fun e he=>?_,h2,j⟩
 simp only [aOp,List.map_cons,List.map_nil,he.opv ha,he.opv hb,aBuiltin,h1]
theorem RS.news {α:Type} [Cell α] {v:Value} {xs:List α} (hR:RS Z v xs) (hI:Inv Z h):∃ news,aNews (aa α) v h=some (xs.length,news)∧RCs Z news xs:=by
 obtain ⟨a,c,rfl,h2,j⟩:=hR
 cases a with
 | none=>
  subst j
  exact ⟨[],rfl,rfl⟩
 | some a=>
  obtain ⟨I,all,J,ae,U⟩:=j
  obtain ⟨B,ab,ad⟩:=hI.b8 _ _ J
  refine ⟨_,?_,U⟩
  simp only [aNews,AH.cN,I,ab,ax]
  rw [ad,if_pos (by omega)];rfl
theorem St.eB {α:Type} [Cell α] {v:Value} {cells:List Value} {xs:List α} {j:Nat} (hS:St h0 D Z0 Rv Z h L) (hi:L[j]?=some (.gs v cells (aa α))) (hR:RCs Z cells xs):aNews (aa α) v h=some (xs.length,cells)∧RCs Z cells xs:=by
 have hl:=hS.dP hi hR
 have hlen:=hR.length
 refine ⟨?_,hR⟩
 rcases hS.ok _ (au hi) with ⟨rfl,rfl⟩ | ⟨b,n,c,rfl,h1,h2,I⟩
 ·simp only [lenOf,Option.some.injEq] at hl
  rw [← hl];rfl
 ·simp only [lenOf,Option.some.injEq] at hl
  subst hl
  simp only [aNews,AH.cN,I,ax]
  rw [if_pos (by omega),List.drop_zero,List.take_of_length_le (by omega)];rfl
def loIs (l:KL) (x:Option Operand) (a:Int):Prop:=match x with | none=>a=0 | some y=>∃ kd,opv l y=some (.int kd a)
def nM (l:KL) (x:Option Operand) (a:Int) (n:Nat):Prop:=match x with | none=>a=n | some y=>∃ kd,opv l y=some (.int kd a)
theorem su {e:Env} (he:cK e l) {lo hi:Option Operand} {a b:Int} {n:Nat} (ib:loIs l lo a) (jw:nM l hi b n) (h1:0≤a) (h2:a≤b) (j:b≤n):aBounds n (lo.map e.ev) (hi.map e.ev) none=some (a.toNat,b.toNat,none):=by
 have low:∀ m:Nat,(m:Int)=b→aLow m none (lo.map e.ev)=some (a.toNat,m,none):=by
  intro m hm
  cases lo with
  | none=>simp only [loIs] at ib;subst ib;rfl
  | some y=>
   obtain ⟨kd,hy⟩:=ib
   simp only [Option.map_some,he.opv hy,aLow,aBnd]
   rw [if_pos ⟨h1,by omega⟩];rfl
 cases hi with
 | none=>
  simp only [nM] at jw
  subst jw
  simp only [Option.map_none,aBounds]
  rw [low n rfl];simp
 | some y=>
  obtain ⟨kd,hy⟩:=jw
  simp only [Option.map_some,he.opv hy,aBounds,aBnd]
  rw [if_pos ⟨by omega,j⟩]
  simp only [ax]
  rw [low b.toNat (by omega)]
theorem add_eq (a:Addr) (n:Nat) (hs:a.spot=none):a.add n=⟨a.block,a.off+n,none⟩:=by
 cases a
 simp only at hs
 subst hs
 unfold Addr.add
 split
 ·rename_i h;subst h;rfl
 ·rfl
theorem RS.part {α:Type} [Cell α] {v:Value} {xs:List α} (hR:RS Z v xs) {a b c':Nat} (h1:a≤b) (h2:b≤xs.length) (hc:b - a≤c'):∀ base,(∃ n c,v= .slice base n c)→RS Z (match base with | none=> .slice none (b - a) c' | some ad=> .slice (some (ad.add (a * aa α))) (b - a) c') ((xs.take b).drop a):=by
 rintro base ⟨n,c,hv⟩
 obtain ⟨a0,c0,rfl,af,I⟩:=hR
 injection hv with e1 J U
 subst e1 J U
 have hlen:((xs.take b).drop a).length=b - a:=by rw [List.length_drop,List.length_take];omega
 cases a0 with
 | none=>
  subst I
  refine ⟨none,c',by simp only [hlen],by rw [hlen];exact hc,by simp⟩
 | some ad=>
  obtain ⟨j,all,ab,ag,ae⟩:=I
  have hm:b * aa α≤xs.length * aa α:=Nat.mul_le_mul_right _ h2
  have ah:(b - a) * aa α+a * aa α=b * aa α:=by rw [← Nat.add_mul,Nat.sub_add_cancel h1]
  refine ⟨some (ad.add (a * aa α)),c',by simp only [hlen],by rw [hlen];exact hc,?_,all,by rw [add_eq _ _ j];exact ab,?_,?_⟩
  ·rw [add_eq _ _ j]
  ·rw [hlen,add_eq _ _ j];show ad.off+a * aa α+_≤_;omega
  ·rw [hlen,add_eq _ _ j]
   have:=(ae.take b).drop a
   rw [List.take_take,Nat.min_eq_left hm,List.drop_take,List.drop_drop] at this
   have e:b * aa α - a * aa α=(b - a) * aa α:=by omega
   rw [e] at this
   exact this
theorem iY {α:Type} [Cell α] {t:TypeId} {x:Operand} {lo hi:Option Operand} {v:Value} {xs:List α} {a b:Int} (hR:RS Z v xs) (hx:opv l x=some v) (ht:slTy P t=some (aa α)) (ib:loIs l lo a) (jw:nM l hi b xs.length)
  (h1:0≤a) (h2:a≤b) (j:b≤xs.length):
  ∃ v',cq P l (.slice t x lo hi none) h v' h∧RS Z v' ((xs.take b.toNat).drop a.toNat):=by
 obtain ⟨base,c,rfl,J,I⟩:=id hR
 have hp:=hR.part (a:=a.toNat) (b:=b.toNat) (c':=if c=xs.length∧b.toNat=xs.length then b.toNat - a.toNat else b.toNat - a.toNat+2) (by omega) (by omega) (by split<;>omega) base ⟨_,_,rfl⟩
 refine ⟨_,fun e he=>?_,hp⟩
 unfold slTy at ht
 split at ht
 ·rename_i u hu
  simp only [aOp,he.opv hx,aSlice,hu,ht,ax,Option.map_none,su he ib jw h1 h2 j]
  cases base with
  | none=>rfl
  | some ad=>simp only [I.1];rfl
 ·cases ht
theorem cr {f:Operand} {c7:Array Operand} {ts:Array TypeId} {fi:FuncId} {first captured:Array Value} {vs args:List Value} {v:Value} (hc:b5 P fi args h=some (v,h')) (hf:opv l f=some (.func (.func fi) first captured)) (ha:opvs l c7.toList=some vs)
  (ez:first.toList++vs++captured.toList=args):cq P l (.call ⟨.value f,c7,ts⟩) h v h':=by
 intro e he
 simp only [aOp,he.opv hf,jb he _ ha,ez,hc]
def ResL (P:Program) (l:KL) (h:AH):List ResultVar→List Value→Prop
 | [],vs=>vs=[]
 | r::rs,vs=>∃ v c8,vs=v::c8∧(∀ e,cK e l→aResult P e h r=some v)∧ResL P l h rs c8
theorem ResL.run {e:Env} (he:cK e l):∀ {rs:List ResultVar} {vs:List Value},ResL P l h rs vs→rs.mapM (aResult P e h)=some vs:=by
 intro rs
 induction rs with
 | nil=>intro vs hr;simp only [ResL] at hr;subst hr;rfl
 | cons r rs ih=>
  rintro vs ⟨v,c8,rfl,h1,h2⟩
  rw [List.mapM_cons,h1 e he,ih h2];rfl
theorem ResL.nil:ResL P l h [] []:=rfl
theorem ResL.tmp {t:Nat} {v:Value} {rs:List ResultVar} {vs:List Value} (hv:lk l t=some v) (hr:ResL P l h rs vs):ResL P l h (.tmp t::rs) (v::vs):=
 ⟨v,vs,rfl,fun e he=>by simp only [aResult,he t v hv],hr⟩
theorem ResL.cell {t:TypeId} {a b i:Nat} {v:Value} {cells:List Value} {rs:List ResultVar} {vs:List Value} (ha:lk l a=some (.pointer (some ⟨b,0,none⟩))) (hS:St h0 D Z0 Rv Z h L) (hi:L[i]?=some (.ae b cells)) (hv:ldB P t 0 cells=some v) (hr:ResL P l h rs vs):ResL P l h (.cell a t::rs) (v::vs):=by
 refine ⟨v,vs,rfl,fun e he=>?_,hr⟩
 obtain ⟨z,hz⟩:=hS.ok _ (au hi)
 simp only [aResult,he a _ ha]
 exact mH (h:=h) (a:=⟨b,0,none⟩) (off:=0) (cells:=cells) rfl hz hv (fun _ _ _=>trivial) (fun i _=>rfl) (by show 0+(cells.length - 0)≤cells.length;omega)
def tupV:List Value→Value
 | [v]=>v
 | vs=> .tuple vs.toArray
def Fin (P:Program) (fn:Func) (hs:AH) (A:List Itm) (Z:Zn) (Q:Value→Zn→List Itm→Prop) (l:KL) (h1:AH):Prop:=
 ∃ vs Z' A',ResL P l h1 fn.results.toList vs∧St hs (a2 A) Z (0,0) Z' h1 A'∧Q (tupV vs) Z' A'
theorem yx {A:List Itm} {f:FuncId} {fn:Func} {args:List Value} {Q:Value→Zn→List Itm→Prop} (hf:P.funcs[f]?=some fn) (hb:fn.body.isSome=true) (hn:Nat.ble args.length fn.ntmps=true) (n2:gW P fn=false) (hP:Pre Z h A)
  (hw:∀ hs,St hs (a2 A) Z (0,0) Z hs A→W P (jd fn) (argsL 0 args) hs (Fin P fn hs A Z Q) (fun x l h=>x= .ret∧Fin P fn hs A Z Q l h)):
  ∃ v h' Z' A',b5 P f args h=some (v,h')∧St h (a2 A) Z (0,0) Z' h' A'∧Q v Z' A':=by
 obtain ⟨c,hc⟩:=Option.isSome_iff_exists.1 hb
 have rq:jd fn=c:=by simp [jd,hc]
 rw [rq] at hw
 have main:∀ e l h1,cK e l→Fin P fn {h with low:=h.next} A Z Q l h1→∃ v,aResults P fn.results.toList e h1=some v∧∃ Z' A',St h (a2 A) Z (0,0) Z' (ff (gW P fn) h v h1).2 A'∧Q v Z' A':=by
  rintro e l h1 he ⟨vs,Z',A',hr,hS,hq⟩
  refine ⟨tupV vs,?_,Z',A',?_,hq⟩
  ·simp only [aResults,hr.run he,Option.map_some,Option.some.injEq]
   unfold tupV
   split
   ·rfl
   ·rename_i cp;split
    ·rename_i q;exact absurd rfl (cp _)
    ·rfl
  ·rw [n2]
   simp only [ff]
   rw [if_neg (fun q=>by cases q.1)]
   exact hS.leave
 obtain ⟨v,h',h1,Z',A',h2,j⟩:=uh (P:=P) (h:=h) (Q:=fun v h'=>∃ Z' A',St h (a2 A) Z (0,0) Z' h' A'∧Q v Z' A') hf hc (Nat.le_of_ble_eq_true hn)
  (Am.wp_mono (hw _ hP.start _ (cK.args args)) (fun e h1 ⟨l,he,k6⟩=>main e l h1 he k6) (fun x e h1 ⟨l,he,hx,k6⟩=>⟨hx,main e l h1 he k6⟩))
 exact ⟨v,h',Z',A',h1,h2,j⟩
theorem St.shrink (hS:St h0 D Z Rv Z' h L):St h0 D Z Rv Z h []:=
 {hS with
  b8:=fun b cs hz=>hS.b8 b cs (hS.ag b cs hz)
  ok:=fun p hp=>by cases hp
  dj:=List.Pairwise.nil
  dz:=fun p hp=>by cases hp
  new:=fun p hp=>by cases hp
  ag:=aO.refl _
  eU:=fun b hb=> .inl hb}
theorem Inv.st (hI:Inv Z h):St h [] Z (0,0) Z h [] where
 b8:=hI.b8
 cT:=hI.cT
 ok p hp:=by cases hp
 dj:=List.Pairwise.nil
 dz p hp:=by cases hp
 aN b _ _:=rfl
 dB:=Nat.le_refl _
 new p hp:=by cases hp
 low x h1 _ _:=h1
 ag:=aO.refl _
 eU b hb:= .inl hb
 eW b _ h2:=absurd h2 (Nat.not_lt_zero _)
 eh:=Nat.zero_le _
 eY:= .inr rfl
theorem Es {f:FuncId} {fn:Func} {args:List Value} {Q:Value→Prop} (hf:P.funcs[f]?=some fn) (hb:fn.body.isSome=true) (hn:Nat.ble args.length fn.ntmps=true) (hI:Inv Z h)
  (hw:∀ hs,St hs [] Z (0,0) Z hs []→W P (jd fn) (argsL 0 args) hs (Fin P fn hs [] Z (fun v _ _=>Q v)) (fun x l h=>x= .ret∧Fin P fn hs [] Z (fun v _ _=>Q v) l h)):
  ∃ v h',b5 P f args h=some (v,h')∧St h [] Z (0,0) Z h' []∧Q v:=by
 obtain ⟨c,hc⟩:=Option.isSome_iff_exists.1 hb
 have rq:jd fn=c:=by simp [jd,hc]
 rw [rq] at hw
 have main:∀ e l h1,cK e l→Fin P fn {h with low:=h.next} [] Z (fun v _ _=>Q v) l h1→∃ v,aResults P fn.results.toList e h1=some v∧St h [] Z (0,0) Z (ff (gW P fn) h v h1).2 []∧Q v:=by
  rintro e l h1 he ⟨vs,Z',A',hr,hS,hq⟩
  refine ⟨tupV vs,?_,?_,hq⟩
  ·simp only [aResults,hr.run he,Option.map_some,Option.some.injEq]
   unfold tupV
   split
   ·rfl
   ·rename_i cp;split
    ·rename_i q;exact absurd rfl (cp _)
    ·rfl
  ·unfold ff
   split
   ·exact hI.st
   ·exact (hS.leave).shrink
 obtain ⟨v,h',h1,h2,j⟩:=uh (P:=P) (h:=h) (Q:=fun v h'=>St h [] Z (0,0) Z h' []∧Q v) hf hc (Nat.le_of_ble_eq_true hn)
  (Am.wp_mono (hw _ hI.start _ (cK.args args)) (fun e h1 ⟨l,he,k6⟩=>main e l h1 he k6) (fun x e h1 ⟨l,he,hx,k6⟩=>⟨hx,main e l h1 he k6⟩))
 exact ⟨v,h',h1,h2,j⟩
end
end
section
open Go Am
open Cell (rc)
theorem ifs {α:Type} {p:Prop} [Decidable p] {a b:Option α} {r:α} (h:(if p then a else b)=some r):(p∧a=some r)∨(¬ p∧b=some r):=by
 by_cases hp:p
 ·rw [if_pos hp] at h;exact .inl ⟨hp,h⟩
 ·rw [if_neg hp] at h;exact .inr ⟨hp,h⟩
theorem aH {α:Type} {p:Prop} [Decidable p] {a:Option α} {r:α} (h:(if p then a else none)=some r):p∧a=some r:=by
 by_cases hp:p
 ·rw [if_pos hp] at h;exact ⟨hp,h⟩
 ·rw [if_neg hp] at h;cases h
theorem ai {α β:Type} {x:Option α} {f:α→Option β} {r:β} (h:x.bind f=some r):∃ a,x=some a∧f a=some r:=Option.bind_eq_some_iff.1 h
abbrev af (x:Int):Int:=IntKind.i64.wrap x
abbrev w8 (x:Int):Int:=IntKind.u8.wrap x
theorem aZ {x:Int} (h0: -9223372036854775808≤x) (h1:x<9223372036854775808):af x=x:=by
 unfold af IntKind.wrap
 have hb:(2:Int) ^ IntKind.i64.bits=18446744073709551616:=by decide
 have j:(2:Int) ^ (IntKind.i64.bits - 1)=9223372036854775808:=by decide
 have hs:IntKind.i64.signed=true:=rfl
 simp only [hb,j,hs,Bool.true_and,decide_eq_true_eq]
 split<;>omega
abbrev imax (x y:Int):Int:=if y>x then y else x
abbrev dR (x y:Int):Int:=if y<x then y else x
structure ar where
 b:List UInt8
 deriving DecidableEq,Inhabited
section
variable {P:Program} {l:KL} {h h':AH} {t t2:TypeId} {x y:Operand} {k:IntKind} {a b:Int} {o:BinOp} {w:Bool} {u v:Value}
theorem bm (hx:opv l x=some u) (hy:opv l y=some v) (hv:aBin P o t u v=some (.bool w)):cq P l (.binOp o t x y t2) h (.bool w) h:=by
 intro e he
 simp only [aOp,he.opv hx,he.opv hy,hv,Option.map_some]
theorem mq (q:a<b):aBin P .lss t (.int k a) (.int k b)=some (.bool true):=by simp [aBin,aInt,q]
theorem mJ (q:¬ a<b):aBin P .lss t (.int k a) (.int k b)=some (.bool false):=by simp [aBin,aInt];omega
theorem rK (q:a≤b):aBin P .leq t (.int k a) (.int k b)=some (.bool true):=by simp [aBin,aInt,q]
theorem s5 (q:¬ a≤b):aBin P .leq t (.int k a) (.int k b)=some (.bool false):=by simp [aBin,aInt];omega
theorem lO (q:b<a):aBin P .gtr t (.int k a) (.int k b)=some (.bool true):=by simp [aBin,aInt,q]
theorem lR (q:¬ b<a):aBin P .gtr t (.int k a) (.int k b)=some (.bool false):=by simp [aBin,aInt];omega
theorem jH (q:b≤a):aBin P .geq t (.int k a) (.int k b)=some (.bool true):=by simp [aBin,aInt,q]
theorem jA (q:¬ b≤a):aBin P .geq t (.int k a) (.int k b)=some (.bool false):=by simp [aBin,aInt];omega
theorem fm (q:a=b):aBin P .eql t (.int k a) (.int k b)=some (.bool true):=by simp [aBin,aInt,q]
theorem fg (q:¬ a=b):aBin P .eql t (.int k a) (.int k b)=some (.bool false):=by simp [aBin,aInt,q]
theorem nu (q:¬ a=b):aBin P .neq t (.int k a) (.int k b)=some (.bool true):=by simp [aBin,aInt,q]
theorem nz (q:a=b):aBin P .neq t (.int k a) (.int k b)=some (.bool false):=by simp [aBin,aInt,q]
theorem xR {a b:ar} (q:a=b):aBin P .eql t (.string ⟨⟨a.b⟩⟩) (.string ⟨⟨b.b⟩⟩)=some (.bool true):=by subst q;simp [aBin,aStr]
theorem EP {a b:ar} (q:¬ a=b):aBin P .eql t (.string ⟨⟨a.b⟩⟩) (.string ⟨⟨b.b⟩⟩)=some (.bool false):=by
 have:a.b≠b.b:=fun e=>q (by cases a;cases b;simp_all)
 simp [aBin,aStr,ByteArray.toList_eq,this]
end
section
variable {Z Z':Zn}
instance:Cell Int where
 size:=1
 rc _ cs x:=cs=[.int .i64 x]
 len h:=by rw [h];rfl
 mono _ h:=h
 one h:=by rw [h];rfl
 pos:=by decide
instance:Cell UInt8 where
 size:=1
 rc _ cs x:=cs=[.int .u8 (x.toNat:Int)]
 len h:=by rw [h];rfl
 mono _ h:=h
 one h:=by rw [h];rfl
 pos:=by decide
instance:Cell Bool where
 size:=1
 rc _ cs x:=cs=[.bool x]
 len h:=by rw [h];rfl
 mono _ h:=h
 one h:=by rw [h];rfl
 pos:=by decide
instance:Cell ar where
 size:=1
 rc _ cs x:=cs=[.string ⟨⟨x.b⟩⟩]
 len h:=by rw [h];rfl
 mono _ h:=h
 one h:=by rw [h];rfl
 pos:=by decide
instance {α:Type} [Cell α]:Cell (List α) where
 size:=1
 rc Z cs xs:=∃ v,RS Z v xs∧cs=[v]
 len h:=by obtain ⟨v,_,h⟩:=h;rw [h];rfl
 mono hz h:=by obtain ⟨v,h1,h2⟩:=h;exact ⟨v,h1.mono hz,h2⟩
 one h:=by obtain ⟨v,⟨a,c,h1,_⟩,h2⟩:=h;subst h2 h1;rfl
 pos:=by decide
theorem dw {α:Type} {xs:List α} {i:Nat} {x:α} (h:xs[i]?=some x):0<xs.length:=by
 cases xs with
 | nil=>simp at h
 | cons a l=>simp
theorem Bl {α:Type} [Cell α] {v:Value} {xs:List α} (hR:RS Z v xs):(xs=[]∧∃ c,v= .slice none 0 c)∨∃ ad n c,v= .slice (some ad) n c:=by
 obtain ⟨a,c,rfl,h2,j⟩:=hR
 cases a with
 | none=>subst j;exact .inl ⟨rfl,c,rfl⟩
 | some a=>exact .inr ⟨a,_,c,rfl⟩
theorem w6 {P:Program} {t:TypeId} {v:Value} (ht:∃ e,P.underlying t=some (.slice e)) (hv:∃ c,v= .slice none 0 c):aBin P .eql t v (.slice none 0 0)=some (.bool true):=by
 obtain ⟨e,he⟩:=ht
 obtain ⟨c,rfl⟩:=hv
 simp only [aBin,aEqTop,lS,aEq,he];rfl
theorem Gs {P:Program} {t:TypeId} {v:Value} (ht:∃ e,P.underlying t=some (.slice e)) (hv:∃ ad n c,v= .slice (some ad) n c):aBin P .eql t v (.slice none 0 0)=some (.bool false):=by
 obtain ⟨e,he⟩:=ht
 obtain ⟨ad,n,c,rfl⟩:=hv
 simp only [aBin,aEqTop,lS,aEq,he];rfl
theorem fB {cs:List Value} {x:Int} (h:rc Z cs x):cs=[.int .i64 x]:=h
theorem pk {cs:List Value} {x:UInt8} (h:rc Z cs x):cs=[.int .u8 (x.toNat:Int)]:=h
theorem B3 {cs:List Value} {x:Bool} (h:rc Z cs x):cs=[.bool x]:=h
theorem w3 {cs:List Value} {x:ar} (h:rc Z cs x):cs=[.string ⟨⟨x.b⟩⟩]:=h
theorem v5 {α:Type} [Cell α] {cs:List Value} {x:List α} (h:rc Z cs x):∃ v,RS Z v x∧cs=[v]:=h
theorem RS.bq {α:Type} [Cell α] (Z:Zn):RS Z (.slice none 0 0) ([]:List α):=⟨none,0,rfl,Nat.le_refl _,rfl⟩
theorem RCs.bq {α:Type} [Cell α] (Z:Zn):RCs Z [] ([]:List α):=rfl
theorem St.takeN {h0 h:AH} {D:List Nat} {Z0:Zn} {R:Nat×Nat} {L:List Itm} (n:Nat) (hS:St h0 D Z0 R Z h L):St h0 D Z0 R Z h (L.take n):=
 {hS with
  ok:=fun p hp=>hS.ok p (List.mem_of_mem_take hp)
  dj:=hS.dj.sublist (List.take_sublist n L)
  dz:=fun p hp=>hS.dz p (List.mem_of_mem_take hp)
  new:=fun p hp=>hS.new p (List.mem_of_mem_take hp)}
end
section
variable {P:Program} {h0 h:AH} {D:List Nat} {Z0 Z:Zn} {R:Nat×Nat} {L:List Itm} {α:Type} [Cell α] {v:Value} {cells:List Value} {xs:List α} {s:Nat}
theorem RS.nv (hR:RS Z v xs):v.cells.toList=[v]:=by obtain ⟨a,c,rfl,_⟩:=hR;rfl
theorem RS.di (hR:RS Z v xs):Value.oneCell' v=true:=by obtain ⟨a,c,rfl,_⟩:=hR;rfl
theorem St.fQ {i:Nat} (hS:St h0 D Z0 R Z h L) (hi:L[i]?=some (.gs v cells s)):v.cells.toList=[v]:=by
 rcases hS.ok _ (au hi) with ⟨rfl,_⟩ | ⟨b,n,c,rfl,_⟩<;>rfl
theorem St.fR {i:Nat} (hS:St h0 D Z0 R Z h L) (hi:L[i]?=some (.gs v cells s)):Value.oneCell' v=true:=by
 rcases hS.ok _ (au hi) with ⟨rfl,_⟩ | ⟨b,n,c,rfl,_⟩<;>rfl
theorem cz:([]:List Value).all Value.oneCell'=true:=rfl
theorem bz {a:Value} {l:List Value} (h1:Value.oneCell' a=true) (h2:l.all Value.oneCell'=true):(a::l).all Value.oneCell'=true:=by rw [List.all_cons,h1,h2];rfl
theorem St.dW {A B:List Itm} (hS:St h0 D Z0 R Z h (A++B)):Pre Z h A where
 b8:=hS.b8
 cT:=hS.cT
 ok p hp:=hS.ok p (List.mem_append_left _ hp)
 dj:=(List.pairwise_append.1 hS.dj).1
 dz p hp:=hS.dz p (List.mem_append_left _ hp)
end
theorem Bf {P:Program} {R:List aR} {k:Nat} {l:KL} {h:AH} {K:KL→AH→Prop} {g:Option (Option Nat×Bool)} {d:Option Nat} {op:Op} {h0:AH} {D:List Nat} {Z0 Z:Zn} {Rv:Nat×Nat} {L:List Itm} {α:Type} [Cell α] {n:Nat} {xs:List α}
  (ho:R[k]?=some ⟨g,d,op⟩) (hg:gon l g) (hx:∃ cells,gA P l op (fun id=> .slice (some ⟨id,0,none⟩) n n,cells,aa α)∧RCs Z cells xs∧n * aa α=cells.length) (hS:St h0 D Z0 Rv Z h L)
  (hk:∀ v cells h',RCs Z cells xs→St h0 D Z0 Rv Z h' (.gs v cells (aa α)::L)→a6 P R (k+1) (bN l d v) h' K):a6 P R k l h K:=by
 obtain ⟨cells,h1,h2,j⟩:=hx
 exact dG ho hg h1 j hS fun v h' qW=>hk v cells h' h2 qW
def CA:List Value→List (List Value)→Prop
 | [],dn=>dn=[]
 | v::vs,dn=>∃ cs qj,dn=cs::qj∧v.cells.toList=cs∧CA vs qj
theorem CA.bq:CA [] []:=rfl
theorem CA.cons {v:Value} {vs:List Value} {cs:List Value} {dn:List (List Value)} (h:v.cells.toList=cs) (k:CA vs dn):CA (v::vs) (cs::dn):=⟨cs,dn,rfl,h,k⟩
theorem tM {place:Nat→Option (Nat×Nat)}:∀ (ids:List Nat) (vs:List Value) (dn:List (List Value)) (cells:Array Value),CA vs dn→
  Instr.fill place cells (ids.zip vs)=Instr.fill place cells (ids.zip (dn.map fun cs=> .agg cs.toArray)):=by
 intro ids
 induction ids with
 | nil=>intro vs dn cells _;rfl
 | cons i ids ih=>
  intro vs dn cells hc
  cases vs with
  | nil=>simp only [CA] at hc;subst hc;rfl
  | cons v vs=>
   obtain ⟨cs,qj,rfl,h1,h2⟩:=hc
   have hv:v.cells=(Value.agg cs.toArray).cells:=by
    show v.cells=cs.toArray
    rw [← h1]
   simp only [List.map_cons,List.zip_cons_cons,Instr.fill,hv]
   split
   ·rfl
   ·split
    ·rfl
    ·exact ih vs qj _ h2
theorem jV {P:Program} {l:KL} {h:AH} {t:TypeId} {ps:Array (Nat×Operand)} {vs:List Value} {dn:List (List Value)} {v:Value} (fW:opvs l (ps.toList.map (·.2))=some vs) (hc:CA vs dn)
  (hb:aBuild P t ((ps.toList.map (·.1)).zip (dn.map fun cs=> .agg cs.toArray))=some v):cq P l (.build t ps) h v h:=by
 intro e he
 have j:=jb he _ fW
 have:(ps.toList.map fun p=>(p.1,e.ev p.2))=(ps.toList.map (·.1)).zip vs:=by
  rw [← j,List.map_map,List.zip_map'];rfl
 simp only [aOp]
 rw [this]
 have:aBuild P t ((ps.toList.map (·.1)).zip vs)=some v:=by
  rw [← hb]
  unfold aBuild
  simp only [tM _ _ _ _ hc]
 rw [this];rfl
theorem BA {P:Program} {l:KL} {t:TypeId} {n s:Nat} {ps:Array (Nat×Operand)} {vs:List Value} {dn:List (List Value)} {cells:List Value} (fW:opvs l (ps.toList.map (·.2))=some vs) (hc:CA vs dn)
  (hb:(aBuildSlice P t n ((ps.toList.map (·.1)).zip (dn.map fun cs=> .agg cs.toArray))).map (·.2)=some (cells,s)):gA P l (.buildSlice t n ps) (fun id=> .slice (some ⟨id,0,none⟩) n n,cells,s):=by
 refine c6 ?_
 unfold qA
 rw [fW]
 simp only
 rw [← hb]
 unfold aBuildSlice
 simp only [tM _ _ _ _ hc]
section
variable {P:Program} {l:KL} {h h':AH}
def cvTy (P:Program) (s d:TypeId):Option IntKind:=match P.underlying s,P.underlying d with | some _,some (.int k)=>some k | _,_=>none
theorem Dk {s d:TypeId} {x:Operand} {k kk:IntKind} {n:Int} (hx:opv l x=some (.int kk n)) (ht:cvTy P s d=some k):cq P l (.convert s d x) h (.int k (k.wrap n)) h:=by
 intro e he
 unfold cvTy at ht
 split at ht
 ·rename_i a b h1 h2
  simp only [Option.some.injEq] at ht
  subst ht
  simp only [aOp,he.opv hx,aConvert,h1,h2]
 ·cases ht
theorem sQ {t t2:TypeId} {x y:Operand} {k:IntKind} {a b:Int} (hb:b≠0) (hx:opv l x=some (.int k a)) (hy:opv l y=some (.int k b)):cq P l (.binOp .rem t x y t2) h (.int k (a.tmod b)) h:=by
 intro e he
 simp only [aOp,he.opv hx,he.opv hy,aBin,aInt,if_true,if_neg hb,Option.map_some]
theorem wx {t t2:TypeId} {x y:Operand} {k:IntKind} {a b:Int} (hb:b≠0) (hx:opv l x=some (.int k a)) (hy:opv l y=some (.int k b)):cq P l (.binOp .quo t x y t2) h (.int k (k.wrap (a.tdiv b))) h:=by
 intro e he
 simp only [aOp,he.opv hx,he.opv hy,aBin,aInt,if_true,if_neg hb,Option.map_some]
end
end
section
open Go Am
open Cell (rc)
section
variable {P:Program}
theorem sG (ps:List Nat) (i j:Nat):ordered ps i j=ordered ps j i:=by unfold ordered;rw [Bool.or_comm]
theorem z3:fX (b5 P):=by
 intro f a h v h' hh
 obtain ⟨k,hk⟩:=qz hh
 exact u9 (P:=P) (fun f a h v h' hh=>by cases hh) k f a h v h' hk
variable {h0 h h' h1:AH} {D:List Nat} {Z0 Z Z':Zn} {Rv:Nat×Nat} {L L':List Itm}
theorem St.tH (hS:St h0 D Z0 Rv Z h L) (n:Nat):St h0 D Z0 (h.next,h.next+n) Z {h with next:=h.next+n} L:=
 {hS with
  b8:=hS.b8
  ok:=fun p hp=>Itm.kN (hS.ok p hp) fun _ _=>rfl
  cT:=fun b hb=>Nat.lt_of_lt_of_le (hS.cT b hb) (Nat.le_add_right _ _)
  aN:=hS.aN
  dB:=Nat.le_trans hS.dB (Nat.le_add_right _ _)
  low:=hS.low
  eW:=fun b h1 _=>by
   show h.ae b=none
   cases hb:h.ae b with
   | none=>rfl
   | some B=>have:=hS.cT b (by rw [hb];simp);simp only at h1;omega
  eh:=Nat.le_refl _
  eY:= .inl hS.dB}
theorem St.aY (hS:St h0 D Z0 Rv Z h L):St h0 D Z0 (0,0) Z h L:=
 {hS with
  eW:=fun b _ h2=>absurd h2 (Nat.not_lt_zero _)
  eh:=Nat.zero_le _
  eY:= .inr rfl}
theorem St.shr (hS:St h0 D Z0 Rv Z h L) {lo:Nat} (hl:Rv.1≤lo) (hz:h0.next≤Rv.1):St h0 D Z0 (lo,Rv.2) Z h L:=
 {hS with
  eW:=fun b h1 h2=>hS.eW b (Nat.le_trans hl h1) h2
  eh:=hS.eh
  eY:= .inl (Nat.le_trans hz hl)}
theorem St.bZ (hS:St h0 D Z0 Rv Z h L):St h0 D Z0 Rv Z {h with low:=h.next} L:=
 {hS with
  b8:=hS.b8
  ok:=fun p hp=>Itm.kN (hS.ok p hp) fun _ _=>rfl
  cT:=hS.cT
  aN:=hS.aN
  dB:=hS.dB
  low:=fun x h1 h2 j=>Nat.le_trans h2 hS.dB
  eW:=hS.eW
  eh:=hS.eh
  eY:=hS.eY}
theorem St.vA (hS:St h0 D Z0 Rv Z h L) (j:St h0 D Z0 Rv Z' h1 L'):St h0 D Z0 Rv Z' {h1 with low:=if h1.low<h.low then h1.low else h.low} L':=
 {j with
  b8:=j.b8
  ok:=fun p hp=>Itm.kN (j.ok p hp) fun _ _=>rfl
  cT:=j.cT
  aN:=j.aN
  dB:=j.dB
  low:=fun x I J U=>by
   have a:=hS.low x I J U
   have b:=j.low x I J U
   show x≤if h1.low<h.low then h1.low else h.low
   split<;>omega
  eW:=j.eW
  eh:=j.eh
  eY:=j.eY}
theorem St.vb (hS:St h0 D Z0 Rv Z h L) {b:Nat} (h1:Rv.1≤b) (h2:b<Rv.2) (cs:List Value) (z:Nat) (q:Itm) (eL:q.ids=[b]) (hq:q.ok {h with t:=h.t.set b (some ⟨cs,true,z⟩)}):
  St h0 D Z0 (b+1,Rv.2) Z {h with t:=h.t.set b (some ⟨cs,true,z⟩)} (q::L):=by
 have hz:h0.next≤Rv.1:=by rcases hS.eY with q | q<;>omega
 have qG:=hS.eW b h1 h2
 have j:=hS.shr (lo:=b+1) (by omega) hz
 have fV:∀ c,AH.ae {h with t:=h.t.set b (some ⟨cs,true,z⟩)} c=if c=b then some ⟨cs,true,z⟩ else h.ae c:=fun c=>Tr.e8 _ _ _ _
 refine j.add q (fun c hc _=>?_) hq (fun c hc=>?_) (Nat.le_refl _) (fun c hc=>?_) (fun x hx=>hx)
 ·rw [fV,if_neg (by rw [eL,List.mem_singleton] at hc;exact hc)]
 ·rw [eL,List.mem_singleton] at hc
  subst hc
  exact ⟨qG,by omega, .inr (a7 _)⟩
 ·rw [fV] at hc
  by_cases e:c=b
  ·subst e;exact Nat.lt_of_lt_of_le h2 hS.eh
  ·rw [if_neg e] at hc;exact hS.cT c hc
variable {l:KL} {op:Op} {base:Nat}
theorem rz {ev:Operand→Value} {v:Value} {h2:AH} (hc:cls P op= .look) (ho:aOp P (b5 P) ev op h=some (v,h2)):aLook P ev op h=some v:=by
 cases op with
 | load t a=>
  simp only [aOp] at ho
  obtain ⟨u,h1,j⟩:=Option.map_eq_some_iff.1 ho
  injection j with j I
  subst j
  exact h1
 | convert s t x=>
  simp only [aOp] at ho
  simp only [aLook,ho,Option.map_some]
 | call c=>
  simp only [cls] at hc
  split at hc<;>cases hc
 | _=>cases hc
theorem St.de {A:List Itm} (hc:St {h with low:=h.next} [] Z (0,0) Z' h1 A):h.next≤h1.low:=hc.low h.next (Nat.le_refl _) (Nat.le_refl _) (fun d hd=>by cases hd)
def Sim1:Value→Prop
 | .bool _ | .int .. | .string _ | .pointer _ | .slice .. =>True
 | _=>False
theorem aG {v:Value} (h:Sim1 v):sameV v v=true:=by
 cases v<;>simp_all [sameV,Sim1]
inductive pX:List Value→Prop where
 | nil:pX []
 | cons {v:Value} {vs:List Value} (h:Sim1 v) (k:pX vs):pX (v::vs)
theorem eC {cs:List Value} (h:pX cs):sameV (.agg cs.toArray) (.agg cs.toArray)=true:=by
 simp only [sameV,decide_true,Bool.true_and]
 induction h with
 | nil=>rfl
 | cons h k ih=>
  rename_i v vs
  simp only [List.zip_cons_cons,List.all_cons,Bool.and_eq_true]
  refine ⟨?_,ih⟩
  cases v<;>simp_all [Sim1]
theorem RS.cM {α:Type} [Cell α] {v:Value} {xs:List α} (hR:RS Z v xs):Sim1 v:=by obtain ⟨a,c,rfl,_⟩:=hR;trivial
theorem St.dN {v:Value} {cells:List Value} {s i:Nat} (hS:St h0 D Z0 Rv Z h L) (hi:L[i]?=some (.gs v cells s)):Sim1 v:=by
 rcases hS.ok _ (au hi) with ⟨rfl,_⟩ | ⟨b,n,c,rfl,_⟩<;>trivial
theorem dD {v:Value} {c:List Value} {s n:Nat} (hz:∀ b∈(Itm.gs v c s).ids,b<base) (hB:j6 v n):(baseOf v).block<base:=by
 obtain ⟨a,c,rfl,_⟩:=hB
 exact hz a.block (by simp [Itm.ids])
end
end
end Go.Proofs.YtcilejikekccmaaGreat.Sy
namespace Go.Proofs.YtcilejikekccmaaGreat.M
open Go Am Sy
theorem Ap [Marks]:ng Go.Proofs.Tryz.prog:=⟨by kernel_rfl,by kernel_rfl⟩
end Go.Proofs.YtcilejikekccmaaGreat.M
namespace Go.Proofs.YtcilejikekccmaaGreat.Sy
open Go Am Go.Deep
open Cell (rc)
variable [Marks]
def nc (h:AH) (cs:List Value):AH:=⟨h.t.set h.next (some ⟨cs,false,1⟩),h.next+1,h.low⟩
omit [Marks] in
theorem la (h:AH) (cs:List Value) (b:Nat):(nc h cs).ae b=if b=h.next then some ⟨cs,false,1⟩ else h.ae b:=Tr.e8 _ _ _ _
structure Hand (w:World) (ρ:a4) (Z:Zn) (h:AH):Prop where
 et:bB ρ w h.ae h.next
 inv:Inv Z h
 no:∀ b B,h.ae b=some B→B.own=false
theorem w9 (w:World):Hand w ρ0 (fun _=>none) AH.none:=
 ⟨BC w,⟨fun b cs h=>(by cases h),fun b h=>absurd (AH.mu b) h⟩,fun b B h=>by rw [AH.mu] at h;cases h⟩
section
variable {w:World} {ρ:a4} {Z:Zn} {h:AH}
theorem Hand.zn (H:Hand w ρ Z h):Z h.next=none:=by
 cases hz:Z h.next with
 | none=>rfl
 | some cs=>
  obtain ⟨B,h1,h2⟩:=H.inv.b8 _ _ hz
  have:=H.inv.cT h.next (by rw [h1];simp)
  omega
theorem Hand.ag (H:Hand w ρ Z h) (cs:List Value):aO Z (Z.ins h.next cs):=fun b c hb=>by
 rw [Zn.iG Z cs (fun e=>by rw [e,H.zn] at hb;cases hb)];exact hb
theorem Hand.v9 (H:Hand w ρ Z h) (cs:List Value):Inv (Z.ins h.next cs) (nc h cs):=by
 refine ⟨fun b c hb=>?_,fun b hb=>?_⟩
 ·rw [la]
  by_cases e:b=h.next
  ·subst e
   rw [Zn.km] at hb
   cases hb
   exact ⟨_,by rw [if_pos rfl],rfl⟩
  ·rw [Zn.iG Z cs e] at hb
   rw [if_neg e]
   exact H.inv.b8 b c hb
 ·show b<h.next+1
  rw [la] at hb
  by_cases e:b=h.next
  ·omega
  ·rw [if_neg e] at hb
   have:=H.inv.cT b hb
   omega
theorem Hand.lL (H:Hand w ρ Z h) (cs:List Value):∀ b B,(nc h cs).ae b=some B→B.own=false:=fun b B hb=>by
 rw [la] at hb
 split at hb
 ·cases hb;rfl
 ·exact H.no b B hb
theorem Hand.row (H:Hand w ρ Z h) {cs a9:List Value} {a b0:Nat} (hl:LR ρ cs a9) (hc:∀ i v',a9[i]?=some v'→w.cell? ⟨b0,a+i,none⟩=some v') (hb:b0<w.heap.size):
  ∃ ρ',Hand w ρ' (Z.ins h.next cs) (nc h cs)∧c3 ρ ρ'∧ρ' h.next=some ⟨b0,a,0,0⟩:=by
 refine ⟨fun b=>if b=h.next then some ⟨b0,a,0,0⟩ else ρ b,⟨⟨?_,?_,?_,?_,?_,?_⟩,H.v9 cs,H.lL cs⟩,?_,by simp⟩
 ·intro b p hp
  show b<h.next+1
  by_cases e:b=h.next
  ·omega
  ·simp only [if_neg e] at hp
   have:=H.et.er b p hp
   omega
 ·intro b p hp
  by_cases e:b=h.next
  ·simp only [if_pos e] at hp
   cases hp;exact hb
  ·simp only [if_neg e] at hp
   exact H.et.lt b p hp
 ·intro b B p hB hp i v hv
  have hr:c3 ρ (fun b=>if b=h.next then some ⟨b0,a,0,0⟩ else ρ b):=fun x q hq=>by
   have:=H.et.er x q hq
   simp only []
   rw [if_neg (by omega)];exact hq
  rw [la] at hB
  by_cases e:b=h.next
  ·simp only [if_pos e] at hp hB
   cases hp;cases hB
   obtain ⟨v',h1,h2⟩:=hl.get hv
   exact ⟨v',hc i v' h1,h2.mono hr⟩
  ·simp only [if_neg e] at hp hB
   obtain ⟨v',h1,h2⟩:=H.et.cell b B p hB hp i v hv
   exact ⟨v',h1,h2.mono hr⟩
 ·intro b B p hB hp ho
  rw [H.lL cs b B hB] at ho;cases ho
 ·intro b c B C p q iE hB hC hp hq ho
  rw [H.lL cs b B hB] at ho;cases ho
 ·intro b eQ
  show b<h.next+1
  rw [la] at eQ
  by_cases e:b=h.next
  ·omega
  ·rw [if_neg e] at eQ
   have:=H.et.live b eQ
   omega
 ·intro x q hq
  have:=H.et.er x q hq
  simp only []
  rw [if_neg (by omega)];exact hq
theorem Hand.yu (H:Hand w ρ Z h):Hand w ρ (Z.ins h.next []) (nc h []):=by
 refine ⟨⟨?_,H.et.lt,?_,?_,?_,?_⟩,H.v9 [],H.lL []⟩
 ·intro b p hp
  show b<h.next+1
  have:=H.et.er b p hp
  omega
 ·intro b B p hB hp i v hv
  rw [la] at hB
  have:=H.et.er b p hp
  rw [if_neg (by omega)] at hB
  exact H.et.cell b B p hB hp i v hv
 ·intro b B p hB hp ho
  rw [H.lL [] b B hB] at ho;cases ho
 ·intro b c B C p q iE hB hC hp hq ho
  rw [H.lL [] b B hB] at ho;cases ho
 ·intro b eQ
  show b<h.next+1
  rw [la] at eQ
  by_cases e:b=h.next
  ·omega
  ·rw [if_neg e] at eQ
   have:=H.et.live b eQ
   omega
end
def Reads (P:Program) (t:TypeId) (α:Type) [Cell α] (gr:α→Prop):Prop:=
 ∀ (Hd:Type) (enc:TypeId×Value→Hd) (w:World) (n:Nat) (cs:List Value) (x:DataW Hd×List MemPlace),DataW.trod enc P w 0 (fun _=>true) true n t cs=some x→
 ∀ (ρ:a4) (Z:Zn) (h:AH),Hand w ρ Z h→∃ ρ' Z' h' gF y,Hand w ρ' Z' h'∧c3 ρ ρ'∧aO Z Z'∧LR ρ' gF cs∧rc (α:=α) Z' gF y∧gr y
section
variable {P:Program} {t:TypeId}
theorem vX (ht:P.underlying t=some (.int .i64)):Reads P t Int (fun n=>(Lit.int .i64 n).wf=true):=by
 intro Hd enc w n cs x hx ρ Z h H
 obtain ⟨m,rfl,rfl,hw⟩:=DataW.trod_int ht hx
 exact ⟨ρ,Z,h,_,m,H,c3.refl _,aO.refl _,LR.cons (.int _ _) (LR.nil _),rfl,hw⟩
theorem BI (ht:P.underlying t=some (.int .u8)):Reads P t UInt8 (fun _=>True):=by
 intro Hd enc w n cs x hx ρ Z h H
 obtain ⟨m,rfl,rfl,hw⟩:=DataW.trod_int ht hx
 have hm:0≤m∧m<256:=by
  simp [Lit.wf,IntKind.min,IntKind.max,IntKind.signed,IntKind.bits] at hw
  omega
 refine ⟨ρ,Z,h,[.int .u8 m],UInt8.ofNat m.toNat,H,c3.refl _,aO.refl _,LR.cons (.int _ _) (LR.nil _),?_,trivial⟩
 show [Value.int .u8 m]=[Value.int .u8 _]
 have:((UInt8.ofNat m.toNat).toNat:Int)=m:=by
  rw [UInt8.toNat_ofNat']
  omega
 rw [this]
theorem AG {e:TypeId} {α:Type} [Cell α] {gr:α→Prop} (hr:Reads P e α gr) {Hd:Type} {enc:TypeId×Value→Hd} {w:World} {n:Nat} {D:Nat→DataW Hd} {Pl:Nat→List MemPlace} {dn:Nat→List Value}:
  ∀ (m:Nat),(∀ i,i<m→DataW.trod enc P w 0 (fun _=>true) true n e (dn i)=some (D i,Pl i))→∀ (ρ:a4) (Z:Zn) (h:AH),Hand w ρ Z h→
  ∃ ρ' Z' h' gF ys,Hand w ρ' Z' h'∧c3 ρ ρ'∧aO Z Z'∧LR ρ' gF ((List.range m).flatMap dn)∧RCs (α:=α) Z' gF ys∧ys.length=m∧∀ y∈ys,gr y:=by
 intro m
 induction m with
 | zero=>exact fun _ ρ Z h H=>⟨ρ,Z,h,[],[],H,c3.refl _,aO.refl _,LR.nil _,rfl,rfl,fun y hy=>by cases hy⟩
 | succ m ih=>
  intro hx ρ Z h H
  obtain ⟨ρ1,Z1,h1,c1,J,H1,r1,U,aa,ab,ad,ae⟩:=ih (fun i hi=>hx i (by omega)) ρ Z h H
  obtain ⟨ρ2,af,h2,c2,ag,ah,j,I,ai,aj,ak⟩:=hr Hd enc w n _ _ (hx m (by omega)) ρ1 Z1 h1 H1
  refine ⟨ρ2,af,h2,c1++c2,J++[ag],ah,r1.trans j,U.trans I,?_,(ab.mono I).append (RCs.single aj),by simp [ad],?_⟩
  ·rw [List.range_succ,List.flatMap_append]
   refine (aa.mono j).append ?_
   simpa using ai
  ·intro y hy
   rcases List.mem_append.1 hy with hy | hy
   ·exact ae y hy
   ·rw [List.mem_singleton.1 hy];exact ak
omit [Marks] in
theorem B9 {dn:Nat→List Value} {k m:Nat} (hl:∀ i,i<m→(dn i).length=k):((List.range m).flatMap dn).length=m * k∧∀ (j:Nat) v,((List.range m).flatMap dn)[j]?=some v→∃ i r,i<m∧r<k∧j=i * k+r∧(dn i)[r]?=some v:=by
 induction m with
 | zero=>exact ⟨by simp,fun j v h=>by simp at h⟩
 | succ m ih=>
  obtain ⟨h1,h2⟩:=ih fun i hi=>hl i (by omega)
  rw [List.range_succ,List.flatMap_append]
  refine ⟨by simp only [b7,h1];simp [hl m (by omega),Nat.add_mul],fun j v h=>?_⟩
  by_cases hj:j<m * k
  ·rw [List.getElem?_append_left (by omega)] at h
   obtain ⟨i,r,aa,I,J,U⟩:=h2 j v h
   exact ⟨i,r,by omega,I,J,U⟩
  ·rw [List.getElem?_append_right (by omega),h1] at h
   have h':(dn m)[j - m * k]?=some v:=by simpa using h
   have:=(List.getElem?_eq_some_iff.1 h').1
   rw [hl m (by omega)] at this
   exact ⟨m,j - m * k,by omega,this,by omega,h'⟩
theorem q6 {e:TypeId} {α:Type} [Cell α] {gr:α→Prop} (ht:P.underlying t=some (.slice e)) (hc:P.cellsOf e=aa α) (hr:Reads P e α gr):Reads P t (List α) (fun xs=>(∀ y∈xs,gr y)∧xs.length≤maxLen):=by
 intro Hd enc w n cs x hx ρ Z h H
 rcases open_slice ht hx with ⟨rfl,rfl⟩ | ⟨a,len,cap,m,n,D,Pl,rfl,hb,hl,hm,rm,rfl,Fs⟩
 ·exact ⟨ρ,Z,h,[.slice none 0 0],[],H,c3.refl _,aO.refl _,LR.cons (.gl (fun e=>e) (Nat.le_refl _)) (LR.nil _),⟨_,⟨none,0,rfl,Nat.le_refl _,rfl⟩,rfl⟩,⟨fun y hy=>(by cases hy),by simp⟩⟩
 ·simp only [if_true] at rm
  subst rm
  obtain ⟨dn,dI⟩:=choose_lt (α:=List Value) (n:=len) (p:=fun i c=>w.cells? 0 (a.add (i * P.cellsOf e)) (P.cellsOf e)=some c∧DataW.trod enc P w 0 (fun _=>true) true n e c=some (D i,Pl i)) (fun i hi=>Fs i (by omega))
  obtain ⟨ρ1,Z1,h1,gF,ys,H1,r1,U,ad,ae,I,af⟩:=AG hr len (fun i hi=>(dI i hi).2) ρ Z h H
  have hp:=Cell.pos (α:=α)
  rcases Nat.eq_zero_or_pos len with h0 | h0
  ·subst h0
   have hy:ys=[]:=List.eq_nil_of_length_eq_zero I
   subst hy
   refine ⟨ρ1,_,_,[.slice (some ⟨h1.next,0,none⟩) 0 2],[],H1.yu,r1,U.trans (H1.ag []),LR.cons (.sl (fun e=>by omega) (by omega) (fun q=>by omega) (fun q=>by omega)) (LR.nil _),?_,⟨fun y hy=>(by cases hy),by simp⟩⟩
   exact ⟨_,⟨some ⟨h1.next,0,none⟩,2,rfl,by simp,rfl,[],Zn.km _ _ _,by simp,by simp [RCs]⟩,rfl⟩
  ·have hlen:∀ i,i<len→(dn i).length=aa α:=fun i hi=>by
    have:=(World.cells?_some (dI i hi).1).2.1
    rw [← hc];exact this
   have fh:∀ i,i<len→∀ (r:Nat) v,(dn i)[r]?=some v→w.cell? (a.add (i * aa α+r))=some v:=fun i hi r v hv=>by
    have ah:=(World.cells?_some (dI i hi).1).2.2
    have bD:=(List.getElem?_eq_some_iff.1 hv).1
    rw [hlen i hi] at bD
    rw [← add_add,← hc,← hv]
    exact ah r (by rw [hc];exact bD)
   obtain ⟨fl,fa⟩:=B9 (m:=len) hlen
   have J:w.cell? (a.add 0)=some ((dn 0)[0]'(by rw [hlen 0 h0];exact hp)):=by
    have:=fh 0 h0 0 _ (aX (by rw [hlen 0 h0];exact hp))
    simpa using this
   obtain ⟨ab,ao,De⟩:=a
   have hs:De=none:=by simpa [Addr.add] using World.cell?_spot J
   subst hs
   have gi:ab<w.heap.size:=by
    rcases Nat.lt_or_ge ab w.heap.size with q | q
    ·exact q
    ·unfold World.cell? at J
     simp [Addr.add,Array.getElem?_eq_none q] at J
   obtain ⟨ρ2,ai,aj,ak⟩:=H1.row (a:=ao) (b0:=ab) ad (fun j v hv=>by
    obtain ⟨i,r,i1,i2,rfl,i4⟩:=fa j v hv
    have:=fh i i1 r v i4
    rwa [Go.WideShapes.add_plain] at this) gi
   have du:gF.length=len * aa α:=by rw [ad.1,fl]
   refine ⟨ρ2,_,_,[.slice (some ⟨h1.next,0,none⟩) len (len+2)],ys,ai,r1.trans aj,U.trans (H1.ag gF),LR.cons (.sl (fun e=>by omega) hl (fun _=>⟨rfl,_,ak,by simp⟩) (fun q=>by omega)) (LR.nil _),?_,⟨af,by omega⟩⟩
   refine ⟨_,⟨some ⟨h1.next,0,none⟩,len+2,by rw [I],by omega,rfl,gF,Zn.km _ _ _,by rw [I,du];simp,?_⟩,rfl⟩
   have:(gF.drop 0).take (ys.length * aa α)=gF:=by rw [I,List.drop_zero,List.take_of_length_le (by omega)]
   rw [this]
   exact ae.mono (H1.ag gF)
end
end Go.Proofs.YtcilejikekccmaaGreat.Sy
namespace Go.Proofs.YtcilejikekccmaaGreat.M
open Go Am Sy Go.ChangeShapes Go.WideShapes
open Sy.Cell (rc)
variable [Marks]
section
variable {P:Program} {t:TypeId} {Hd:Type} {enc:TypeId×Value→Hd} {w:World} {ρ:a4} {Z:Zn} {h:AH}
theorem qI {e:TypeId} {α:Type} [Cell α] {gr:List α→Prop} (hr:Reads P t (List α) gr) (ht:P.underlying t=some (.slice e)) {r:Reach} {b:Nat} {v:Value} {d:DataW Hd} {ps:List MemPlace}
  (hv:Value.okWide P w r b t v) (hd:DataW.Trod enc P w 0 (fun _=>true) true t v d ps) (H:Hand w ρ Z h):
  ∃ ρ' Z' h' u xs,Hand w ρ' Z' h'∧c3 ρ ρ'∧aO Z Z'∧VR ρ' u v∧RS (α:=α) Z' u xs∧gr xs:=by
 obtain ⟨a,len,cap,rfl⟩:=okWide_slice ht hv
 obtain ⟨n,hn⟩:=hd
 obtain ⟨ρ',Z',h',gF,xs,H',r1,j,I,⟨u,J,rfl⟩,U⟩:=hr _ _ _ _ _ _ hn ρ Z h H
 exact ⟨ρ',Z',h',u,xs,H',r1,j,LR.head (by simpa [Value.cells] using I),J,U⟩
theorem FB {f:FuncId} {args fz:List Value} {h':AH} (hP:ng P) (H:Hand w ρ Z h) (hc:b5 P f args h=some (.bool true,h')) (hl:LR ρ args fz):
  Calls P f fz.toArray w fun e w'=>e= .returned (.bool true)∧iF w w':=by
 obtain ⟨k,hk⟩:=qz hc
 refine ((Dp hP wM.1 (wM (P:=P)).2 k f args h _ h' hk).2 ρ w fz hl H.et).mono fun e w' hq=>?_
 obtain ⟨ρ',v',j,I,U,J⟩:=hq
 cases I
 exact ⟨j,J.Cq H.no⟩
omit [Marks] in
theorem iF.sameAt {W W':World} (hg:iF W W') {p:MemPlace} (hp:p.block<W.heap.size):W.sameAt W' p:=by
 have I:=hg.1.2.2 p.block hp
 cases p with
 | cell b off=>
  simp only [MemPlace.block] at I hp
  simp only [World.sameAt,World.cell?]
  split at I
  ·rename_i e1 J
   rw [e1,J]
   simp [I.2.2.2 off (by simp)]
  ·rename_i e1 J
   rcases I with q | ⟨rfl,rfl⟩
   ·exact q.elim
   ·rw [e1,J]
  ·rw [I]
 | map b=>
  simp only [MemPlace.block] at I hp
  simp only [World.sameAt]
  split at I
  ·rename_i e1 J
   obtain ⟨rfl,rfl,U,aa⟩:=I
   rw [e1,J]
   have:∀ (x y:Array Value),y.size=x.size→(∀ j:Nat,y[j]?=x[j]?)→y=x:=fun x y _ q=>Array.ext_getElem? q
   rw [this _ _ U fun j=>aa j (by simp)]
  ·rename_i e1 J
   rcases I with q | ⟨rfl,rfl⟩
   ·exact q.elim
   ·rw [e1,J]
  ·exact I
theorem wb {T:TypeId→Prop} (K:Kids P T) (hz:∀ t e,T t→P.underlying t=some (.slice e)→0<P.cellsOf e) {W W':World} (hg:iF W W') {sp:Nat→Bool}:
  ∀ {ts:List TypeId} {vs:List Value} {ds:List (DataW Hd)} {ps:List MemPlace},(∀ t∈ts,T t)→DataW.TrodAll enc P W 0 (fun _=>true) true ts vs ds ps→(∀ p∈ps,p.block<W.heap.size)→(∀ p∈ps,sp p.block=true)→DataW.TrodAll enc P W' 0 sp true ts vs ds ps
 | [],[],[],_,_,h,_,_=>h
 | _::_,_::_,_::_,_,hT,⟨p,q,⟨n,h1⟩,h2,e⟩,hb,hs=>
  ⟨p,q,⟨n,DataW.trod_stays K (fun {_ _} a b=>hz _ _ a b) (fun a=>by cases a) (hT _ List.mem_cons_self) h1 (fun x hx=>iF.sameAt hg (hb x (by rw [e];exact List.mem_append_left _ hx))) (fun x hx=>hs x (by rw [e];exact List.mem_append_left _ hx))⟩,
   wb K hz hg (fun t ht=>hT t (List.mem_cons.2 (Or.inr ht))) h2 (fun x hx=>hb x (by rw [e];exact List.mem_append_right _ hx)) (fun x hx=>hs x (by rw [e];exact List.mem_append_right _ hx)),e⟩
end
end Go.Proofs.YtcilejikekccmaaGreat.M
namespace Go.Proofs.YtcilejikekccmaaGreat.Sy
section
open Go Am
open Cell (rc)
abbrev bJ (k:IntKind) (a b:Int):Int:=k.wrap (BitVec.ofInt k.bits a &&& BitVec.ofInt k.bits b).toNat
abbrev bf (k:IntKind) (a b:Int):Int:=k.wrap (BitVec.ofInt k.bits a ||| BitVec.ofInt k.bits b).toNat
abbrev tv (k:IntKind) (a b:Int):Int:=k.wrap (a * 2 ^ (min b.toNat k.bits))
abbrev bT (k:IntKind) (a b:Int):Int:=a.fdiv (2 ^ (min b.toNat k.bits))
section
variable {P:Program} {l:KL} {h h':AH} {Z Z' Z0:Zn} {h0:AH} {D:List Nat} {Rv:Nat×Nat} {L:List Itm}
theorem kT {t t2:TypeId} {x y:Operand} {a b:List UInt8} (hx:opv l x=some (.string ⟨⟨a⟩⟩)) (hy:opv l y=some (.string ⟨⟨b⟩⟩)) (hl:a.length+b.length≤4611686018427387904):
  cq P l (.binOp .add t x y t2) h (.string ⟨⟨a++b⟩⟩) h:=by
 intro e he
 have hs:(ByteArray.mk ⟨a⟩++ByteArray.mk ⟨b⟩)=ByteArray.mk ⟨a++b⟩:=by apply ByteArray.ext;simp
 have hn:¬ (((ByteArray.mk ⟨a⟩).size+(ByteArray.mk ⟨b⟩).size:Nat):Int)>IntKind.i64.max:=by
  have h1:IntKind.i64.max=9223372036854775807:=by decide
  have h2:(ByteArray.mk ⟨a⟩).size=a.length:=rfl
  have j:(ByteArray.mk ⟨b⟩).size=b.length:=rfl
  rw [h1,h2,j];omega
 simp only [aOp,he.opv hx,he.opv hy,aBin,aStr,if_neg hn,hs,Option.map_some]
def strTy (P:Program) (t:TypeId):Bool:=match P.underlying t with | some .string=>true | _=>false
theorem tT {t:TypeId} (ht:strTy P t=true):P.underlying t=some .string:=by
 unfold strTy at ht;split at ht
 ·assumption
 ·cases ht
theorem n6 {t:TypeId} {x:Operand} {lo hi:Option Operand} {bs:List UInt8} {a b:Int} (hx:opv l x=some (.string ⟨⟨bs⟩⟩)) (ht:strTy P t=true) (ib:loIs l lo a) (jw:nM l hi b bs.length) (h1:0≤a) (h2:a≤b) (j:b≤bs.length):
  cq P l (.slice t x lo hi none) h (.string ⟨⟨(bs.take b.toNat).drop a.toNat⟩⟩) h:=by
 intro e he
 have hs:∀ m n,(ByteArray.mk ⟨bs⟩).extract m n=ByteArray.mk ⟨(bs.take n).drop m⟩:=fun m n=>by apply ByteArray.ext;simp [List.drop_take]
 have hb:=su he ib jw h1 h2 j
 have cc:(ByteArray.mk ⟨bs⟩).size=bs.length:=rfl
 simp only [aOp,he.opv hx,aSlice,tT ht,Option.map_none,Option.isSome_none,Bool.false_eq_true,if_false,cc,hb,Option.map_some,hs]
theorem xA (l:List UInt8) (a:Nat):(ByteArray.mk ⟨l⟩)[a]?=l[a]?:=by
 by_cases h:a<l.length
 ·rw [aX h,getElem?_pos (ByteArray.mk ⟨l⟩) a h];rfl
 ·rw [List.getElem?_eq_none (by omega),getElem?_neg (ByteArray.mk ⟨l⟩) a h]
theorem jW {t:TypeId} {x y:Operand} {bs:List UInt8} {i:Int} {kd:IntKind} {c:UInt8} (hx:opv l x=some (.string ⟨⟨bs⟩⟩)) (hy:opv l y=some (.int kd i)) (ht:strTy P t=true) (h1:0≤i) (hc:bs[i.toNat]?=some c):
  cq P l (.index t x y) h (.int .u8 (c.toNat:Int)) h:=by
 intro e he
 simp only [aOp,he.opv hx,he.opv hy,aIndex,tT ht,if_pos h1,xA,hc,Option.map_some]
theorem wO (bs:List UInt8):RCs Z (bs.map eT) bs:=by
 induction bs with
 | nil=>exact RCs.nil
 | cons b bs ih=>exact ⟨[eT b],bs.map eT,rfl,rfl,ih⟩
theorem w7 (bs:List UInt8) (h:AH):aNews 1 (.string ⟨⟨bs⟩⟩) h=some (bs.length,bs.map eT)∧RCs Z (bs.map eT) bs:=⟨rfl,wO bs⟩
def u8Ty (P:Program) (e:TypeId):Bool:=match P.underlying e with | some (.int .u8)=>true | _=>false
theorem sC {t:TypeId} (ht:u8Ty P t=true):P.underlying t=some (.int .u8):=by
 unfold u8Ty at ht;split at ht
 ·assumption
 ·cases ht
def tbTy (P:Program) (s d:TypeId):Bool:=match P.underlying s,P.underlying d with | some .string,some (.slice e)=>u8Ty P e | _,_=>false
theorem z9 {s d:TypeId} (ht:tbTy P s d=true):P.underlying s=some .string∧∃ e,P.underlying d=some (.slice e)∧P.underlying e=some (.int .u8):=by
 unfold tbTy at ht;split at ht
 ·rename_i e h1 h2;exact ⟨h1,e,h2,sC ht⟩
 ·cases ht
def tsTy (P:Program) (s d:TypeId):Bool:=match P.underlying s,P.underlying d with | some (.slice e),some .string=>u8Ty P e | _,_=>false
theorem Gc {s d:TypeId} (ht:tsTy P s d=true):P.underlying d=some .string∧∃ e,P.underlying s=some (.slice e)∧P.underlying e=some (.int .u8):=by
 unfold tsTy at ht;split at ht
 ·rename_i e h1 h2;exact ⟨h2,e,h1,sC ht⟩
 ·cases ht
theorem St.Gi {b:Nat} {cells:List Value} (hS:St h0 D Z0 Rv Z h (.ae b cells::L)):aO Z (Z.ins b cells)∧St h0 D Z0 Rv (Z.ins b cells) h L:=by
 have hp:Itm.ae b cells∈Itm.ae b cells::L:=List.mem_cons_self
 obtain ⟨z,j⟩:=hS.ok _ hp
 have j5:(Itm.ae b cells).ids=[b]:=rfl
 have mb:Z b=none:=hS.dz _ hp b (by rw [j5];simp)
 have hle:aO Z (Z.ins b cells):=fun x cs hx=>by
  rw [Zn.iG _ _ (fun e=>by rw [e,mb] at hx;cases hx)];exact hx
 have ik:=List.pairwise_cons.1 hS.dj
 refine ⟨hle,?_⟩
 exact {hS.tail with
  b8:=fun x cs hx=>by
   by_cases e:x=b
   ·subst e;rw [Zn.km] at hx;exact ⟨_,j,Option.some.inj hx⟩
   ·rw [Zn.iG _ _ e] at hx;exact hS.b8 x cs hx
  dz:=fun q hq x hx=>by
   rw [Zn.iG _ _ (fun e=>ik.1 q hq b (by rw [j5];simp) (by rw [← e];exact hx))]
   exact hS.tail.dz q hq x hx
  ag:=hS.ag.trans hle
  eU:=fun x hx=>by
   by_cases e:x=b
   ·subst e;exact .inr (hS.new _ hp x (by rw [j5];simp))
   ·rw [Zn.iG _ _ e] at hx;exact hS.eU x hx}
theorem GH {s d:TypeId} {x:Operand} {bs:List UInt8} (hS:St h0 D Z0 Rv Z h L) (hx:opv l x=some (.string ⟨⟨bs⟩⟩)) (ht:tbTy P s d=true):
  ∃ v h' Z',cq P l (.convert s d x) h v h'∧aO Z Z'∧RS Z' v bs∧St h0 D Z0 Rv Z' h' L∧h'.low=h.low:=by
 obtain ⟨h1,e,h2,j⟩:=z9 ht
 have hA:=hS.alloc (bs.map eT) 1 (.ae h.next (bs.map eT)) ⟨1,by rw [AH.fe,if_pos rfl]⟩ rfl
 obtain ⟨hz,hB⟩:=hA.Gi
 refine ⟨.slice (some ⟨h.next,0,none⟩) bs.length (bs.length+2),_,_,fun ev he=>?_,hz,?_,hB,rfl⟩
 ·simp only [aOp,he.opv hx,aConvert,h1,h2,j]
  rfl
 ·refine ⟨some ⟨h.next,0,none⟩,bs.length+2,rfl,by omega,rfl,bs.map eT,Zn.km _ _ _,?_,?_⟩
  ·have:aa UInt8=1:=rfl
   rw [this,List.length_map];show 0+bs.length * 1≤bs.length;omega
  ·have:aa UInt8=1:=rfl
   rw [this,List.drop_zero,List.take_of_length_le (by rw [List.length_map];omega)]
   exact wO bs
theorem Fu:∀ (xs:List UInt8) (cells:List Value),RCs Z cells xs→bytesOf cells=some xs:=by
 intro xs
 induction xs with
 | nil=>intro cells hc;simp only [RCs] at hc;subst hc;rfl
 | cons x xs ih=>
  rintro cells ⟨cs,rest,rfl,h1,h2⟩
  have dY:cs=[.int .u8 (x.toNat:Int)]:=h1
  subst dY
  simp only [List.singleton_append,bytesOf,ih rest h2,Option.map_some,b2]
  congr 2
  simp
theorem tJ {s d:TypeId} {v:Value} {xs:List UInt8} {cells:List Value} (hv:∃ a c,v= .slice a xs.length c) (hn:aNews 1 v h=some (xs.length,cells)) (hR:RCs Z cells xs) (ht:tsTy P s d=true):
  aConvert P s d v h=some (.string ⟨⟨xs⟩⟩,h):=by
 obtain ⟨h1,e,h2,I⟩:=Gc ht
 obtain ⟨a,c,rfl⟩:=hv
 cases a with
 | none=>
  simp only [aNews] at hn
  split at hn
  ·rename_i q
   have:xs=[]:=List.eq_nil_of_length_eq_zero q
   subst this
   simp only [aConvert,h1,h2,I];rfl
  ·cases hn
 | some a=>
  simp only [aNews] at hn
  obtain ⟨cs,J,j⟩:=Option.map_eq_some_iff.1 hn
  injection j with _ j
  subst j
  rw [Nat.mul_one] at J
  simp only [aConvert,h1,h2,I]
  split
  ·rename_i q
   have:xs=[]:=List.eq_nil_of_length_eq_zero q
   subst this;rfl
  ·rw [J]
   simp only [ax,Fu xs _ hR,Option.map_some]
theorem wm {s d:TypeId} {x:Operand} {v:Value} {xs:List UInt8} {cells:List Value} {j:Nat} (hS:St h0 D Z0 Rv Z h L) (hi:L[j]?=some (.gs v cells (aa UInt8))) (hR:RCs Z cells xs) (hx:opv l x=some v) (ht:tsTy P s d=true):cq P l (.convert s d x) h (.string ⟨⟨xs⟩⟩) h:=by
 intro e he
 obtain ⟨h1,h2⟩:=hS.eB hi hR
 have hlen:=hR.length
 simp only [aOp,he.opv hx]
 refine tJ ?_ h1 h2 ht
 rcases hS.ok _ (au hi) with ⟨rfl,rfl⟩ | ⟨b,n,c,rfl,I,J,U⟩
 ·have:xs=[]:=by
   cases xs with
   | nil=>rfl
   | cons y ys=>
    have:aa UInt8=1:=rfl
    simp [this] at hlen
  subst this;exact ⟨none,0,rfl⟩
 ·have hn:n=xs.length:=Nat.eq_of_mul_eq_mul_right (Cell.pos (α:=UInt8)) (by show n * aa UInt8=xs.length * aa UInt8;omega)
  subst hn;exact ⟨_,_,rfl⟩
def idTy (P:Program) (s d:TypeId):Bool:=Nat.beq s d && (match P.underlying d with | some (.slice e)=>u8Ty P e | _=>false)
theorem xi {s d:TypeId} (ht:idTy P s d=true):s=d∧∃ e,P.underlying d=some (.slice e)∧P.underlying e=some (.int .u8):=by
 unfold idTy at ht
 rw [Bool.and_eq_true] at ht
 refine ⟨Nat.eq_of_beq_eq_true ht.1,?_⟩
 have h2:=ht.2
 split at h2
 ·rename_i e he;exact ⟨e,he,sC h2⟩
 ·cases h2
theorem Af {s d:TypeId} {x:Operand} {v:Value} {xs:List UInt8} {cells:List Value} {j:Nat} (hS:St h0 D Z0 Rv Z h L) (hi:L[j]?=some (.gs v cells (aa UInt8))) (hR:RCs Z cells xs) (hn:0<xs.length) (hx:opv l x=some v) (ht:idTy P s d=true):cq P l (.convert s d x) h v h:=by
 obtain ⟨rfl,e,h1,h2⟩:=xi ht
 have hlen:=hR.length
 have e1:aa UInt8=1:=rfl
 rw [e1] at hlen
 intro ev he
 rcases hS.ok _ (au hi) with ⟨rfl,rfl⟩ | ⟨b,n,c,rfl,I,U,J⟩
 ·simp at hlen;omega
 ·rw [e1] at I
  simp only [aOp,he.opv hx,aConvert,h1,h2]
  rw [if_pos ⟨trivial,by omega,by rw [J];rfl⟩]
end
section
variable {P:Program} {l:KL} {h:AH}
end
section
variable {P:Program} {c:Code} {R:List aR} {k:Nat} {l:KL} {h:AH} {K:KL→AH→Prop} {N:KL→AH→Prop} {X:dk→KL→AH→Prop}
theorem xq (m:Nat) (l':KL) (hk:a6 P R (k+m) l' h K) (hr:(runP P (R.drop k) m l).map (fun q=>pick q (l'.map Prod.fst))=some l':=by kernel_rfl):a6 P R k l h K:=by
 obtain ⟨q,h1,h2⟩:=Option.map_eq_some_iff.1 hr
 exact vw m h1 (ue _ h2 hk)
theorem xe (m:Nat) (l':KL) (hk:K l' h) (hr:(runP P (R.drop k) m l).map (fun q=>pick q (l'.map Prod.fst))=some l':=by kernel_rfl) (ho:R.length=k+m:=by kernel_rfl):a6 P R k l h K:=xq m l' (r5 ho hk) hr
theorem xf (l':KL) (hk:K l' h) (hp:pick l (l'.map Prod.fst)=l':=by kernel_rfl) (ho:R.length=k:=by kernel_rfl):a6 P R k l h K:=ue _ hp (r5 ho hk)
theorem sq (hw:W P (cL c) l h (fun l h=>W P (cR c) l h N X) X) (hc:c= .seq (cL c) (cR c):=by kernel_rfl):W P c l h N X:=py hc hw
theorem rg (R:List aR) (hw:a6 P R 0 l h N) (hc:regOf c=some R:=by kernel_rfl):W P c l h N X:=vV hc hw
def p0:Code→Option (List aR)
 | .seq a _=>regOf a
 | _=>none
theorem sr (R:List aR) (hw:a6 P R 0 l h (fun l h=>W P (cR c) l h N X)) (hc:p0 c=some R:=by kernel_rfl):W P c l h N X:=by
 cases c with
 | seq a b=>exact py rfl (vV hc hw)
 | _=>cases hc
theorem bk (i:Nat) (hw:W P (cI c) l h N (blkX i N X)) (hc:c= .block i (cI c):=by kernel_rfl):W P c l h N X:=Ad hc hw
theorem sk (hn:N l h) (hc:c= .skip:=by kernel_rfl):W P c l h N X:=xF hc hn
theorem xt (i:Nat) (hn:X (.exit i) l h) (hc:c= .exit i:=by kernel_rfl):W P c l h N X:=Di hc hn
theorem rt (hn:X .ret l h) (hc:c= .ret:=by kernel_rfl):W P c l h N X:=zA hc hn
theorem lp (ts:List Nat) (I:Nat→KL→AH→Prop) (m:Nat) (h0:I m (pick l ts) h) (hI:∀ m l h,I m l h→W P (cI c) l h (fun l' h'=>∃ k,k<m∧I k (pick l' ts) h') X) (hc:c= .loop (cI c):=by kernel_rfl):W P c l h N X:=zQ ts I m hc h0 hI
end
section
variable {P:Program}
theorem CL {d:Nat} {t:TypeId} {fs:Array Field} {xs ys:Array Value} (hu:P.underlying t=some (.struct fs)) (h2:P.stoodInHeld t=false):aEq P (d+1) t (.agg xs) (.agg ys)=aEqFields P (aEq P d) fs.toList xs ys:=by
 simp only [aEq,hu,h2,if_true]
theorem ve {t:TypeId} {fs:Array Field} {xs ys:Array Value} {w:Bool} (hu:P.underlying t=some (.struct fs)) (h2:P.stoodInHeld t=false) (j:aEqFields P (aEq P 19) fs.toList xs ys=some w):aEq P lS t (.agg xs) (.agg ys)=some w:=
 (CL (d:=19) hu h2).trans j
theorem tX {t:TypeId} {fs:Array Field} {xs ys:Array Value} {w:Bool} (hu:P.underlying t=some (.struct fs)) (h1:P.eqGuardType P.depth t=false) (h2:P.stoodInHeld t=false) (j:aEqFields P (aEq P 19) fs.toList xs ys=some w):
  aBin P .eql t (.agg xs) (.agg ys)=some (.bool w):=by
 simp only [aBin,aEqTop,h1,if_true,ve hu h2 j,Option.map_some]
theorem uW {t:TypeId} {fs:Array Field} {xs ys:Array Value} {w:Bool} (hu:P.underlying t=some (.struct fs)) (h1:P.eqGuardType P.depth t=false) (h2:P.stoodInHeld t=false) (j:aEqFields P (aEq P 19) fs.toList xs ys=some w):
  aBin P .neq t (.agg xs) (.agg ys)=some (.bool (!w)):=by
 simp only [aBin,aEqTop,h1,if_true,ve hu h2 j,Option.map_some]
theorem ij {eq:TypeId→Value→Value→Option Bool} {f:Field} {fs:List Field} {xs ys:Array Value} {a b:Value} {r:Option Bool} (hn:f.name≠ "_") (ha:gX P f.type xs f.offset=some a) (hb:gX P f.type ys f.offset=some b) (he:eq f.type a b=some true) (hr:aEqFields P eq fs xs ys=r):aEqFields P eq (f::fs) xs ys=r:=by
 simp only [aEqFields,if_pos hn,ha,hb,he,hr]
theorem ny {eq:TypeId→Value→Value→Option Bool} {f:Field} {fs:List Field} {xs ys:Array Value} {a b:Value} (hn:f.name≠ "_") (ha:gX P f.type xs f.offset=some a) (hb:gX P f.type ys f.offset=some b) (he:eq f.type a b=some false):aEqFields P eq (f::fs) xs ys=some false:=by
 simp only [aEqFields,if_pos hn,ha,hb,he]
theorem fK {t:TypeId} {k:IntKind} {a b:Int} {d:Nat} (hu:∃ k',P.underlying t=some (.int k')):aEq P (d+1) t (.int k a) (.int k b)=some (a == b):=by
 obtain ⟨k',hu⟩:=hu;simp only [aEq,hu,if_true]
end
section
variable {P:Program} {C c:Code} {l l':KL} {h:AH} {N:KL→AH→Prop} {X X':dk→KL→AH→Prop}
end
end
section
open Go Am
open Cell (rc)
inductive dq where
 | no | iv | ae (b:Nat) | on (b:Nat) (S:(Nat→Option dS)→Prop)
def dq.at:dq→Option Nat
 | .ae b=>some b
 | .on b _=>some b
 | _=>none
inductive Fp where
 | any | dZ (C:List Nat)
structure br where
 g:Option (Option Nat×Bool)
 d:Option Nat
 op:Op
 cl:fD
 om:List Nat
theorem si {α:Type} {a b:α} (h:some a=some b):a=b:=Option.some.inj h
abbrev t (n:Nat):Operand:= .tmp n
abbrev ci (n:Int):Operand:= .const (.int .i64 n)
abbrev cf (f:Nat) (c7:Array Operand) (ts:Array TypeId):Op:= .call {callee:= .value (.func f),args:=c7,argTypes:=ts}
abbrev cb (b:Builtin) (c7:Array Operand) (ts:Array TypeId):Op:= .call {callee:= .builtin b,args:=c7,argTypes:=ts}
abbrev o (op:Op):aR:=⟨none,none,op⟩
abbrev u (d:Nat) (op:Op):aR:=⟨none,some d,op⟩
abbrev oF (op:Op) (cl:fD) (om:List Nat):br:=⟨none,none,op,cl,om⟩
abbrev uF (d:Nat) (op:Op) (cl:fD) (om:List Nat):br:=⟨none,some d,op,cl,om⟩
abbrev jR (c:Nat) (d:Option Nat) (op:Op) (cl:fD) (om:List Nat):br:=⟨some (some c,true),d,op,cl,om⟩
abbrev jL (c:Nat) (d:Option Nat) (op:Op) (cl:fD) (om:List Nat):br:=⟨some (some c,false),d,op,cl,om⟩
abbrev mv (n:Nat):Op:= .move (t n)
abbrev sg (n:Nat):Op:= .assign (t n)
abbrev nk (n:Nat):Op:= .nilCheck (t n)
abbrev fa (T n k:Nat):Op:= .fieldAddr T (t n) k
abbrev ld (T n:Nat):Op:= .load T (t n)
abbrev ia (T n m:Nat):Op:= .indexAddr T (t n) (t m)
abbrev bo (b:BinOp) (T n m U:Nat):Op:= .binOp b T (t n) (t m) U
abbrev bc (b:BinOp) (T n:Nat) (m:Int) (U:Nat):Op:= .binOp b T (t n) (ci m) U
abbrev pf (n m:Nat):Op:= .pick (t n) (t m) (.const (.bool false))
abbrev pt (n m:Nat):Op:= .pick (t n) (.const (.bool true)) (t m)
abbrev gn (c d:Nat) (op:Op):aR:=⟨some (some c,false),some d,op⟩
abbrev uP (d:Nat) (op:Op):br:=⟨none,some d,op, .pure,[]⟩
abbrev uL (d:Nat) (op:Op):br:=⟨none,some d,op, .look,[]⟩
abbrev aM (c d:Nat) (op:Op):br:=⟨some (some c,true),some d,op, .pure,[]⟩
abbrev dc (c d:Nat) (op:Op):br:=⟨some (some c,false),some d,op, .pure,[]⟩
abbrev cW (c d:Nat) (op:Op):br:=⟨some (some c,true),some d,op, .look,[]⟩
abbrev kQ (c d:Nat) (op:Op):br:=⟨some (some c,false),some d,op, .look,[]⟩
abbrev V (n:Int):Value:= .int .i64 n
abbrev Pt (b o:Nat):Value:= .pointer (some ⟨b,o,none⟩)
def other:fD→fD→Bool
 | .look, .make=>true
 | .make, .look=>true
 | _,_=>false
def pb (P:Program) (ops:List Oper) (ps:List Nat) (i:Nat) (c:fD):List Nat:=(List.range i).filter fun j=>other c (cls P (ops.getD j default).op) && ordered ps i j
def stripF (P:Program) (ops:Array Oper) (ps:List Nat):Nat→List Oper→List br
 | _,[]=>[]
 | i,o::os=>⟨o.guard.map fun x=>((ops[x.1]?).bind (·.dst),x.2),o.dst,o.op,cls P o.op,pb P ops.toList ps i (cls P o.op)⟩::stripF P ops ps (i+1) os
def regOfF (P:Program):Code→Option (List br)
 | .region _ ops true=>some (stripF P ops (dC ops.toList) 0 ops.toList)
 | _=>none
def gC (Zs:Zn) (h:AH):Prop:=∀ b cs,Zs b=some cs→∃ B,h.ae b=some B∧B.cells=cs
def kt (P:Program) (Zs:Zn) (top:Nat) (h:AH) (ev:Operand→Value) (op:Op) (v:Value):dq→Prop
 | .no=>True
 | .iv=>sameV v v=true∧∀ h2,gC Zs h2→aLook P ev op h2=some v
 | .ae b=>sameV v v=true∧b<top∧∀ h2,h2.ae b=h.ae b→aLook P ev op h2=some v
 | .on b S=>sameV v v=true∧b<top∧S h.ae∧(∀ h2:AH,S h2.ae→aLook P ev op h2=some v)∧∀ f f':Nat→Option dS,f' b=f b→S f→S f'
def uE (base:Nat):dq→Nat×Fp→Prop
 | .iv,_=>True
 | .ae b,(m, .dZ C)=>b<base+m∧b∉C
 | .on b _,(m, .dZ C)=>b<base+m∧b∉C
 | _,_=>False
def wJ:dq→Fp→Prop
 | .iv,_=>True
 | .ae b, .dZ C=>b∉C
 | .on b _, .dZ C=>b∉C
 | _,_=>False
def jz (base:Nat) (om:List Nat) (d:dq):List (Nat×Fp)→Prop
 | []=>True
 | x::r=>(uE base d x∧jz base om d r)∨∀ y∈x::r,y.1∈om
inductive fu (Q:((Nat→Option dS)→Prop)→Prop) (om:List Nat) (fp:Fp):List (Nat×dq)→List (Nat×dq)→Prop where
 | nil:fu Q om fp [] []
 | a3 {j:Nat} {d:dq} {r r':List (Nat×dq)} (h:wJ d fp) (k:fu Q om fp r r'):fu Q om fp ((j,d)::r) ((j,d)::r')
 | drop {j:Nat} {d:dq} {r r':List (Nat×dq)} (h:j∈om) (k:fu Q om fp r r'):fu Q om fp ((j,d)::r) ((j, .no)::r')
 | q2 {j b:Nat} {S:(Nat→Option dS)→Prop} {r r':List (Nat×dq)} (h:Q S) (k:fu Q om fp r r'):fu Q om fp ((j, .on b S)::r) ((j, .on b S)::r')
def o0 (Zs:Zn) (h h1:AH):Fp→Prop
 | .any=>gC Zs h1
 | .dZ C=>gC Zs h1∧∀ b,b<h.next→b∉C→h1.ae b=h.ae b
theorem o0.b8 {Zs:Zn} {h h1:AH} {fp:Fp} (hf:o0 Zs h h1 fp):gC Zs h1:=by cases fp<;>first | exact hf | exact hf.1
def gY (h h1:AH):AH:={h1 with low:=if h1.low<h.low then h1.low else h.low}
def wpDF (P:Program) (base:Nat) (Zs:Zn):List (Nat×dq)→List (Nat×Fp)→Nat→List br→Env→AH→(Env→AH→Prop)→Prop
 | _,_,_,[],e,h,K=>K e h
 | lk,ef,i,o::os,e,h,K=>
  let step:Prop:=match o.cl with
   | .pure=>∃ v h',aOp P (b5 P) e.ev o.op h=some (v,h')∧wpDF P base Zs lk ef (i+1) os (e.put o.d v) h K
   | .look=>∃ v d,aLook P e.ev o.op h=some v∧kt P Zs (base+i) h e.ev o.op v d∧jz base o.om d ef∧wpDF P base Zs ((i,d)::lk) ef (i+1) os (e.put o.d v) h K
   | .fresh=>∃ f,aFresh P e.ev o.op=some f∧wpDF P base Zs lk ef (i+1) os (e.put o.d (f.1 (base+i))) {h with t:=h.t.set (base+i) (some ⟨f.2.1,true,f.2.2⟩)} K
   | .make=>∃ v h1,aOp P (b5 P) e.ev o.op {h with low:=h.next}=some (v,h1)∧
     ((h.next≤h1.low∧wpDF P base Zs lk ef (i+1) os (e.put o.d v) (gY h h1) K)∨
      (∃ fp dU,o0 Zs h h1 fp∧fu (fun S=>S h1.ae) o.om fp lk dU∧wpDF P base Zs dU ((i,fp)::ef) (i+1) os (e.put o.d v) (gY h h1) K))
  match o.g with
  | none=>step
  | some (t,w)=>∃ j,t=some j∧((e.get j= .bool w∧step)∨(e.get j≠ .bool w∧wpDF P base Zs lk ef (i+1) os (e.put o.d undef) h K))
section
variable {P:Program}
theorem vf {ops:List Oper} {ps:List Nat} {i j:Nat} {c:fD} (h:j∈pb P ops ps i c):ordered ps i j=true:=by
 have:=(List.mem_filter.1 h).2
 rw [Bool.and_eq_true] at this
 exact this.2
def Bw (P:Program) (ops:List Oper) (Zs:Zn) (top:Nat) (h:AH) (lk:List (Nat×dq)) (x:Nat×Env×Value):Prop:=
 ∃ d,(x.1,d)∈lk∧kt P Zs top h x.2.1.ev (ops.getD x.1 default).op x.2.2 d
def Gh (base:Nat) (Zs:Zn) (h:AH) (ef:List (Nat×Fp)) (x:Nat×AH):Prop:=
 gC Zs x.2∧∃ pre fp r,ef=pre++(x.1,fp)::r∧∀ b,b<base+x.1→(∀ y∈pre++[(x.1,fp)],∃ C,y.2= .dZ C∧b∉C)→h.ae b=x.2.ae b
structure wo (P:Program) (ops:Array Oper) (base:Nat) (Zs:Zn) (i:Nat) (lk:List (Nat×dq)) (ef:List (Nat×Fp)) (h:AH) (looks:List (Nat×Env×Value)) (ee:List (Nat×AH)):Prop where
 bn:base+ops.toList.length≤h.next
 zb:∀ b,Zs b≠none→b<base
 b8:gC Zs h
 look:∀ x∈looks,Bw P ops.toList Zs (base+i) h lk x
 iw:∀ x∈ef,x.1<i
 iH:∀ x∈ee,Gh base Zs h ef x
theorem En {base:Nat} {om:List Nat} {d:dq}:∀ {pre r:List (Nat×Fp)} {x:Nat×Fp},jz base om d (pre++x::r)→(∀ y∈pre++[x],uE base d y)∨x.1∈om:=by
 intro pre
 induction pre with
 | nil=>
  intro r x h
  rcases h with h | h
  ·exact .inl fun y hy=>by simp at hy;subst hy;exact h.1
  ·exact .inr (h x (by simp))
 | cons p pre ih=>
  intro r x h
  rcases h with ⟨h1,h2⟩ | h
  ·rcases ih h2 with q | q
   ·exact .inl fun y hy=>by
     rcases List.mem_cons.1 hy with rfl | hy
     ·exact h1
     ·exact q y hy
   ·exact .inr q
  ·exact .inr (h x (by simp))
theorem fu.at {Q:((Nat→Option dS)→Prop)→Prop} {om:List Nat} {fp:Fp} {lk dU:List (Nat×dq)} (h:fu Q om fp lk dU):∀ {j:Nat} {d:dq},(j,d)∈lk→(wJ d fp∧(j,d)∈dU)∨(j∈om∧(j, .no)∈dU)∨∃ b S,d= .on b S∧Q S∧(j,d)∈dU:=by
 induction h with
 | nil=>intro j d h;cases h
 | a3 h k ih=>
  intro j d hm
  rcases List.mem_cons.1 hm with e | hm
  ·injection e with e1 I;subst e1;subst I;exact .inl ⟨h,List.mem_cons_self⟩
  ·exact (ih hm).imp (fun q=>⟨q.1,List.mem_cons_of_mem _ q.2⟩) (fun q=>q.imp (fun q=>⟨q.1,List.mem_cons_of_mem _ q.2⟩) (fun ⟨b,S,J,U,aa⟩=>⟨b,S,J,U,List.mem_cons_of_mem _ aa⟩))
 | drop h k ih=>
  intro j d hm
  rcases List.mem_cons.1 hm with e | hm
  ·injection e with e1 I;subst e1;subst I;exact .inr (.inl ⟨h,List.mem_cons_self⟩)
  ·exact (ih hm).imp (fun q=>⟨q.1,List.mem_cons_of_mem _ q.2⟩) (fun q=>q.imp (fun q=>⟨q.1,List.mem_cons_of_mem _ q.2⟩) (fun ⟨b,S,J,U,aa⟩=>⟨b,S,J,U,List.mem_cons_of_mem _ aa⟩))
 | q2 h k ih=>
  intro j d hm
  rcases List.mem_cons.1 hm with e | hm
  ·injection e with e1 I;subst e1;subst I;exact .inr (.inr ⟨_,_,rfl,h,List.mem_cons_self⟩)
  ·exact (ih hm).imp (fun q=>⟨q.1,List.mem_cons_of_mem _ q.2⟩) (fun q=>q.imp (fun q=>⟨q.1,List.mem_cons_of_mem _ q.2⟩) (fun ⟨b,S,J,U,aa⟩=>⟨b,S,J,U,List.mem_cons_of_mem _ aa⟩))
theorem kt.same {Zs:Zn} {top vT:Nat} {h h':AH} {ev:Operand→Value} {op:Op} {v:Value} {d:dq} (hs:kt P Zs top h ev op v d) (ht:top≤vT) (hh:∀ b,b<top→d.at=some b→h'.ae b=h.ae b):kt P Zs vT h' ev op v d:=by
 cases d with
 | no=>trivial
 | iv=>exact hs
 | ae b=>exact ⟨hs.1,Nat.lt_of_lt_of_le hs.2.1 ht,fun h2 q=>hs.2.2 h2 (q.trans (hh b hs.2.1 rfl))⟩
 | on b S=>exact ⟨hs.1,Nat.lt_of_lt_of_le hs.2.1 ht,hs.2.2.2.2 _ _ (hh b hs.2.1 rfl) hs.2.2.1,hs.2.2.2.1,hs.2.2.2.2⟩
theorem xu {ops:Array Oper} {base:Nat} {Zs:Zn}:∀ (os:List Oper) (i:Nat) {lk:List (Nat×dq)} {ef:List (Nat×Fp)} {e:Env} {h:AH} {K:Env→AH→Prop} {looks:List (Nat×Env×Value)} {ee:List (Nat×AH)},
  ops.toList.drop i=os→wo P ops base Zs i lk ef h looks ee→
  wpDF P base Zs lk ef i (stripF P ops (dC ops.toList) i os) e h K→∃ s,aDraw P (b5 P) ops base i os ⟨e,h,looks,ee⟩=some s∧K s.e s.h:=by
 intro os
 induction os with
 | nil=>intro i lk ef e h K looks ee hd hI hw;exact ⟨_,rfl,hw⟩
 | cons o os ih=>
  intro i lk ef e h K looks ee hd hI hw
  have hi:ops.toList[i]?=some o:=by
   have:(ops.toList.drop i)[0]?=some o:=by rw [hd];rfl
   rw [List.getElem?_drop] at this;simpa using this
  have dJ:i<ops.toList.length:=by
   rcases Nat.lt_or_ge i ops.toList.length with q | q
   ·exact q
   ·rw [List.getElem?_eq_none q] at hi;cases hi
  have yX:ops.toList.getD i default=o:=by rw [List.getD_eq_getElem?_getD,hi];rfl
  have lh:ops.toList.drop (i+1)=os:=by
   have:=congrArg List.tail hd
   rw [List.tail_drop] at this;exact this
  have mo:wo P ops base Zs (i+1) lk ef h looks ee:=
   ⟨hI.bn,hI.zb,hI.b8,fun x hx=>by
    obtain ⟨d,h1,h2⟩:=hI.look x hx
    exact ⟨d,h1,h2.same (by omega) (fun _ _ _=>rfl)⟩,fun x hx=>Nat.lt_succ_of_lt (hI.iw x hx),hI.iH⟩
  simp only [stripF,wpDF] at hw
  simp only [aDraw]
  have main:(match cls P o.op with
   | .pure=>∃ v h',aOp P (b5 P) e.ev o.op h=some (v,h')∧wpDF P base Zs lk ef (i+1) (stripF P ops (dC ops.toList) (i+1) os) (e.put o.dst v) h K
   | .look=>∃ v d,aLook P e.ev o.op h=some v∧kt P Zs (base+i) h e.ev o.op v d∧jz base (pb P ops.toList (dC ops.toList) i (cls P o.op)) d ef∧wpDF P base Zs ((i,d)::lk) ef (i+1) (stripF P ops (dC ops.toList) (i+1) os) (e.put o.dst v) h K
   | .fresh=>∃ f,aFresh P e.ev o.op=some f∧wpDF P base Zs lk ef (i+1) (stripF P ops (dC ops.toList) (i+1) os) (e.put o.dst (f.1 (base+i))) {h with t:=h.t.set (base+i) (some ⟨f.2.1,true,f.2.2⟩)} K
   | .make=>∃ v h1,aOp P (b5 P) e.ev o.op {h with low:=h.next}=some (v,h1)∧
     ((h.next≤h1.low∧wpDF P base Zs lk ef (i+1) (stripF P ops (dC ops.toList) (i+1) os) (e.put o.dst v) (gY h h1) K)∨
      (∃ fp dU,o0 Zs h h1 fp∧fu (fun S=>S h1.ae) (pb P ops.toList (dC ops.toList) i (cls P o.op)) fp lk dU∧wpDF P base Zs dU ((i,fp)::ef) (i+1) (stripF P ops (dC ops.toList) (i+1) os) (e.put o.dst v) (gY h h1) K)))→
   ∃ s,(aDrawOp P (b5 P) ops.toList base i o ⟨e,h,looks,ee⟩).bind (fun s'=>aDraw P (b5 P) ops base (i+1) os s')=some s∧K s.e s.h:=by
   intro hs
   unfold aDrawOp
   cases hc:cls P o.op with
   | pure=>
    rw [hc] at hs
    obtain ⟨v,h',h1,h2⟩:=hs
    simp only [h1,Option.map_some,ax]
    exact ih (i+1) lh mo h2
   | look=>
    rw [hc] at hs
    obtain ⟨v,d,h1,h2,ao,aq⟩:=hs
    simp only [h1,ax]
    rw [if_pos (List.all_eq_true.2 fun x hx=>by
     obtain ⟨aa,pre,fp,r,rfl,U⟩:=hI.iH x hx
     rcases En ao with q | q
     ·have kH:aLook P e.ev o.op x.2=some v∧sameV v v=true:=by
       cases d with
       | no=>exact (q (x.1,fp) (by simp)).elim
       | iv=>exact ⟨h2.2 _ aa,h2.1⟩
       | ae b=>
        have l5:b<base+x.1:=by
         have:=q (x.1,fp) (by simp)
         cases fp with
         | any=>exact this.elim
         | dZ C=>exact this.1
        refine ⟨h2.2.2 _ (U b l5 fun y hy=>?_).symm,h2.1⟩
        have:=q y hy
        obtain ⟨m,fy⟩:=y
        cases fy with
        | any=>exact this.elim
        | dZ C=>exact ⟨C,rfl,this.2⟩
       | on b S=>
        have l5:b<base+x.1:=by
         have:=q (x.1,fp) (by simp)
         cases fp with
         | any=>exact this.elim
         | dZ C=>exact this.1
        refine ⟨h2.2.2.2.1 _ (h2.2.2.2.2 _ _ (U b l5 fun y hy=>?_).symm h2.2.2.1),h2.1⟩
        have:=q y hy
        obtain ⟨m,fy⟩:=y
        cases fy with
        | any=>exact this.elim
        | dZ C=>exact ⟨C,rfl,this.2⟩
      rw [kH.1];simp only [kH.2,Bool.or_true]
     ·rw [vf q];rfl)]
    simp only [ax]
    refine ih (i+1) lh ⟨hI.bn,hI.zb,hI.b8,fun x hx=>?_,mo.iw,hI.iH⟩ aq
    rcases List.mem_cons.1 hx with rfl | hx
    ·exact ⟨d,List.mem_cons_self,by rw [yX];exact h2.same (by omega) (fun _ _ _=>rfl)⟩
    ·obtain ⟨d',ah,ad⟩:=mo.look x hx
     exact ⟨d',List.mem_cons_of_mem _ ah,ad⟩
   | fresh=>
    rw [hc] at hs
    obtain ⟨f,h1,h2⟩:=hs
    simp only [h1,Option.map_some,ax]
    have eE:∀ b,b≠base+i→AH.ae {h with t:=h.t.set (base+i) (some ⟨f.2.1,true,f.2.2⟩)} b=h.ae b:=fun b hb=>(Tr.e8 _ _ _ _).trans (if_neg hb)
    refine ih (i+1) lh ⟨hI.bn,hI.zb,fun b cs hz=>?_,fun x hx=>?_,mo.iw,fun x hx=>?_⟩ h2
    ·have:=hI.zb b (by rw [hz];simp)
     rw [eE b (by omega)];exact hI.b8 b cs hz
    ·obtain ⟨d,ah,ad⟩:=hI.look x hx
     exact ⟨d,ah,ad.same (by omega) fun b hb _=>eE b (by omega)⟩
    ·obtain ⟨aa,pre,fp,r,U,af⟩:=hI.iH x hx
     have lY:x.1<i:=hI.iw (x.1,fp) (by rw [U];simp)
     exact ⟨aa,pre,fp,r,U,fun b hb hy=>(eE b (by omega)).trans (af b hb hy)⟩
   | make=>
    rw [hc] at hs
    obtain ⟨v,h1,ah,ad⟩:=hs
    simp only [ah,ax]
    have wc:=nE (z3 (P:=P)) ah
    have o1:base+ops.toList.length≤h1.next:=Nat.le_trans hI.bn wc.next
    have fV:∀ b,(gY h h1).ae b=h1.ae b:=fun _=>rfl
    by_cases gK:h.next≤h1.low
    ·rw [if_pos gK]
     simp only [ax]
     have eE:∀ b,b<h.next→h1.ae b=h.ae b:=fun b hb=>wc.ae b hb (Nat.lt_of_lt_of_le hb gK)
     have hz:gC Zs (gY h h1):=fun b cs hz=>by
      have:=hI.zb b (by rw [hz];simp)
      obtain ⟨B,aa,U⟩:=hI.b8 b cs hz
      exact ⟨B,by rw [fV,eE b (by have:=hI.bn;omega)];exact aa,U⟩
     rcases ad with ⟨_,ab⟩ | ⟨fp,dU,ab,aj,ak⟩
     ·refine ih (i+1) lh ⟨o1,hI.zb,hz,fun x hx=>?_,mo.iw,fun x hx=>?_⟩ ab
      ·obtain ⟨d,ag,I⟩:=hI.look x hx
       exact ⟨d,ag,I.same (by omega) fun b hb _=>eE b (by have:=hI.bn;omega)⟩
      ·obtain ⟨aa,pre,fp,r,U,af⟩:=hI.iH x hx
       have lY:x.1<i:=hI.iw (x.1,fp) (by rw [U];simp)
       exact ⟨aa,pre,fp,r,U,fun b hb hy=>(eE b (by have:=hI.bn;omega)).trans (af b hb hy)⟩
     ·refine ih (i+1) lh ⟨o1,hI.zb,hz,fun x hx=>?_,fun x hx=>?_,fun x hx=>?_⟩ ak
      ·obtain ⟨d,ag,I⟩:=hI.look x hx
       rcases aj.at ag with ⟨_,J⟩ | ⟨_,J⟩ | ⟨_,_,rfl,_,J⟩
       ·exact ⟨d,J,I.same (by omega) fun b hb _=>eE b (by have:=hI.bn;omega)⟩
       ·exact ⟨.no,J,trivial⟩
       ·exact ⟨_,J,I.same (by omega) fun b hb _=>eE b (by have:=hI.bn;omega)⟩
      ·rcases List.mem_cons.1 hx with rfl | hx
       ·exact a7 _
       ·exact Nat.lt_succ_of_lt (hI.iw x hx)
      ·obtain ⟨aa,pre,nF,r,U,af⟩:=hI.iH x hx
       have lY:x.1<i:=hI.iw (x.1,nF) (by rw [U];simp)
       refine ⟨aa,(i,fp)::pre,nF,r,by rw [U];rfl,fun b hb hy=>(eE b (by have:=hI.bn;omega)).trans (af b hb fun y k9=>hy y (List.mem_cons_of_mem _ k9))⟩
    ·rw [if_neg gK]
     rcases ad with ⟨ad,_⟩ | ⟨fp,dU,ab,aj,ak⟩
     ·exact absurd ad gK
     ·rw [if_pos (List.all_eq_true.2 fun x hx=>by
       obtain ⟨d,ag,I⟩:=hI.look x hx
       rcases aj.at ag with ⟨J,_⟩ | ⟨J,_⟩ | ⟨_,_,rfl,J,_⟩
       ·have:aLook P x.2.1.ev (ops.toList.getD x.1 default).op (gY h h1)=some x.2.2∧sameV x.2.2 x.2.2=true:=by
         cases d with
         | no=>exact J.elim
         | iv=>exact ⟨I.2 _ ab.b8,I.1⟩
         | ae b=>
          cases fp with
          | any=>exact J.elim
          | dZ C=>exact ⟨I.2.2 _ (ab.2 b (by have:=I.2.1;have:=hI.bn;omega) J),I.1⟩
         | on b S=>
          cases fp with
          | any=>exact J.elim
          | dZ C=>exact ⟨I.2.2.2.1 _ (I.2.2.2.2 _ _ (ab.2 b (by have:=I.2.1;have:=hI.bn;omega) J) I.2.2.1),I.1⟩
        have e1:=this.1
        unfold gY at e1
        rw [e1];simp only [this.2,Bool.or_true]
       ·rw [vf J];rfl
       ·have e1:aLook P x.2.1.ev (ops.toList.getD x.1 default).op (gY h h1)=some x.2.2:=I.2.2.2.1 _ J
        unfold gY at e1
        rw [e1];simp only [I.1,Bool.or_true])]
      simp only [ax]
      refine ih (i+1) lh ⟨o1,hI.zb,ab.b8,fun x hx=>?_,fun x hx=>?_,fun x hx=>?_⟩ ak
      ·obtain ⟨d,ag,I⟩:=hI.look x hx
       rcases aj.at ag with ⟨J,ai⟩ | ⟨_,ai⟩ | ⟨_,_,rfl,J,ai⟩
       ·refine ⟨d,ai,I.same (by omega) fun b hb e=>?_⟩
        cases d with
        | no=>cases e
        | iv=>cases e
        | ae c=>
         injection e with e;subst e
         cases fp with
         | any=>exact J.elim
         | dZ C=>exact ab.2 _ (by have:=hI.bn;omega) J
        | on c S=>
         injection e with e;subst e
         cases fp with
         | any=>exact J.elim
         | dZ C=>exact ab.2 _ (by have:=hI.bn;omega) J
       ·exact ⟨.no,ai,trivial⟩
       ·exact ⟨_,ai,I.1,Nat.lt_of_lt_of_le I.2.1 (by omega),J,I.2.2.2.1,I.2.2.2.2⟩
      ·rcases List.mem_cons.1 hx with rfl | hx
       ·exact a7 _
       ·exact Nat.lt_succ_of_lt (hI.iw x hx)
      ·rcases List.mem_cons.1 hx with rfl | hx
       ·refine ⟨hI.b8,[],fp,ef,rfl,fun b hb hy=>?_⟩
        obtain ⟨C,e1,an⟩:=hy (i,fp) (by simp)
        have qF:fp= .dZ C:=e1
        subst qF
        exact ab.2 b (by have:=hI.bn;omega) an
       ·obtain ⟨aa,pre,nF,r,U,af⟩:=hI.iH x hx
        have lY:x.1<i:=hI.iw (x.1,nF) (by rw [U];simp)
        refine ⟨aa,(i,fp)::pre,nF,r,by rw [U];rfl,fun b hb hy=>?_⟩
        obtain ⟨C,e1,an⟩:=hy (i,fp) (by simp)
        have qF:fp= .dZ C:=e1
        subst qF
        exact (ab.2 b (by have:=hI.bn;omega) an).trans (af b hb fun y k9=>hy y (List.mem_cons_of_mem _ k9))
  cases hg:o.guard with
  | none=>
   rw [hg] at hw
   simp only [Option.map_none] at hw
   have lf:ct ops e o=true:=by simp only [ct,hg]
   rw [if_pos lf]
   exact main hw
  | some g=>
   obtain ⟨ar,w⟩:=g
   rw [hg] at hw
   simp only [Option.map_some] at hw
   obtain ⟨j,hj,hw⟩:=hw
   have hy:ct ops e o=true↔e.get j= .bool w:=tU hg hj
   rcases hw with ⟨hb,hw⟩ | ⟨hb,hw⟩
   ·rw [if_pos (hy.2 hb)]
    exact main hw
   ·rw [if_neg (fun q=>hb (hy.1 q))]
    exact ih (i+1) lh mo hw
theorem Au {ops:Array Oper} {ps:List Nat}:∀ (os:List Oper) (i:Nat),(stripF P ops ps i os).length=os.length:=by
 intro os
 induction os with
 | nil=>intro i;rfl
 | cons o os ih=>intro i;simp only [stripF,List.length_cons,ih]
def cw (P:Program) (R:List br) (base:Nat) (Zs:Zn) (lk:List (Nat×dq)) (ef:List (Nat×Fp)) (k:Nat) (l:KL) (h:AH) (K:KL→AH→Prop):Prop:=∀ e,cK e l→wpDF P base Zs lk ef k (R.drop k) e h (fun e' h'=>∃ l',cK e' l'∧K l' h')
end
section
variable {P:Program} {h0 h h' h1:AH} {D:List Nat} {Z0 Z Z' Z1 Zs:Zn} {Rv:Nat×Nat} {L L':List Itm} {R:List br} {base k:Nat} {l l':KL} {K:KL→AH→Prop} {g:Option (Option Nat×Bool)} {d:Option Nat} {op:Op} {om:List Nat} {lk dU:List (Nat×dq)} {ef:List (Nat×Fp)}
theorem wu {c:Code} {N:KL→AH→Prop} {X:dk→KL→AH→Prop} (hc:regOfF P c=some R) (hS:St h0 D Z0 Rv Z h L) (hw:∀ base h',(∀ p∈L,∀ b∈p.ids,b<base)∧(∀ b,Z b≠none→b<base)→St h0 D Z0 (base,base+R.length) Z h' L→cw P R base Z [] [] 0 l h' N):W P c l h N X:=by
 intro e he
 cases c with
 | region i ops dr=>
  cases dr with
  | false=>cases hc
  | true=>
   simp only [regOfF,Option.some.injEq] at hc
   have hlen:R.length=ops.size:=by rw [← hc,Au,Array.length_toList]
   have mb:∀ b,Z b≠none→b<h.next:=fun b hb=>by
    cases hz:Z b with
    | none=>exact absurd hz hb
    | some cs=>obtain ⟨B,q,_⟩:=hS.b8 b cs hz;exact hS.cT b (by rw [q];simp)
   have h1:=hw h.next _ ⟨fun p hp b hb=>hS.toPre.lt hp hb,mb⟩ (hS.tH R.length) e he
   rw [List.drop_zero,← hc] at h1
   obtain ⟨s,h2,j⟩:=xu (base:=h.next) ops.toList 0 (looks:=[]) (ee:=[]) (by simp) ⟨by rw [hc,hlen,Array.length_toList];exact Nat.le_refl _,mb,fun b cs hz=>(hS.tH (stripF P ops (dC ops.toList) 0 ops.toList).length).b8 b cs hz,fun x hx=>(by cases hx),fun x hx=>(by cases hx),fun x hx=>(by cases hx)⟩ h1
   refine ⟨.normal,s.e,s.h,⟨1,?_⟩,j⟩
   simp only [aCode,fv]
   rw [hc,hlen] at h2
   rw [h2];rfl
 | _=>cases hc
theorem aF (ho:R[k]?=some ⟨g,d,op, .pure,om⟩) (hg:gon l g) {v:Value} (dY:cq P l op h v h) (hk:cw P R base Zs lk ef (k+1) (bN l d v) h K):cw P R base Zs lk ef k l h K:=by
 intro e he
 rw [mh ho]
 simp only [wpDF]
 have hx:=hk (e.put d v) (he.bQ d v)
 match g,hg with
 | none,_=>exact ⟨v,h,dY e he,hx⟩
 | some (some t,w),hg=>exact ⟨t,rfl, .inl ⟨he t _ hg,v,h,dY e he,hx⟩⟩
theorem p8 {Q:Value→Prop} (ho:R[k]?=some ⟨g,d,op, .pure,om⟩) (hg:gon l g) (hx:∃ v,cq P l op h v h∧Q v) (hk:∀ v,Q v→cw P R base Zs lk ef (k+1) (bN l d v) h K):cw P R base Zs lk ef k l h K:=by
 obtain ⟨v,h1,h2⟩:=hx
 exact aF ho hg h1 (hk v h2)
theorem s4 (dp:dq) (du:cls P op= .look) (ho:R[k]?=some ⟨g,d,op, .look,om⟩) (hg:gon l g) {v:Value} (dY:cq P l op h v h) (hs:∀ e,cK e l→kt P Zs (base+k) h e.ev op v dp) (b9:jz base om dp ef)
  (hk:cw P R base Zs ((k,dp)::lk) ef (k+1) (bN l d v) h K):cw P R base Zs lk ef k l h K:=by
 intro e he
 rw [mh ho]
 simp only [wpDF]
 have hx:=hk (e.put d v) (he.bQ d v)
 have hv:=rz du (dY e he)
 match g,hg with
 | none,_=>exact ⟨v,dp,hv,hs e he,b9,hx⟩
 | some (some t,w),hg=>exact ⟨t,rfl, .inl ⟨he t _ hg,v,dp,hv,hs e he,b9,hx⟩⟩
theorem dy {t:TypeId} {x:Operand} {a:Addr} {v:Value} (ho:R[k]?=some ⟨g,d, .load t x, .look,om⟩) (hg:gon l g) (hx:opv l x=some (.pointer (some a))) (hb:a.block<base+k) (hs:sameV v v=true) (dY:cq P l (.load t x) h v h) (b9:jz base om (.ae a.block) ef)
  (hk:cw P R base Zs ((k, .ae a.block)::lk) ef (k+1) (bN l d v) h K):cw P R base Zs lk ef k l h K:=by
 refine s4 (.ae a.block) rfl ho hg dY (fun e he=>⟨hs,hb,fun h2 hh=>?_⟩) b9 hk
 have hv:aLook P e.ev (.load t x) h=some v:=rz rfl (dY e he)
 simp only [aLook,he.opv hx,aLoad,AH.cN,AH.load] at hv ⊢
 rw [hh];exact hv
def jZ (P:Program) (t:TypeId) (b off:Nat) (v:Value):(Nat→Option dS)→Prop:=fun f=>∃ B,f b=some B∧ldB P t off B.cells=some v
theorem St.aV {t:TypeId} {b off i:Nat} {cells:List Value} {v:Value} (hS:St h0 D Z0 Rv Z h L) (hi:L[i]?=some (.ae b cells)) (hv:ldB P t off cells=some v):jZ P t b off v h.ae:=by
 obtain ⟨z,hz⟩:=hS.ok _ (au hi)
 exact ⟨_,hz,hv⟩
theorem jZ.load {t:TypeId} {b off:Nat} {v:Value} {h2:AH} (hL:jZ P t b off v h2.ae):aLoad P t (.pointer (some ⟨b,off,none⟩)) h2=some v:=by
 obtain ⟨B,hb,hv⟩:=hL
 have hle:off≤B.cells.length:=by
  unfold ldB at hv
  split at hv
  ·split at hv
   ·split at hv
    ·split at hv
     ·omega
     ·cases hv
    ·cases hv
   ·rcases Nat.lt_or_ge off B.cells.length with q | q
    ·omega
    ·rw [List.getElem?_eq_none q] at hv;cases hv
  ·cases hv
 exact mH (h:=h2) (a:=⟨b,off,none⟩) (off:=off) (cells:=B.cells) rfl hb hv (fun _ _ _=>trivial) (fun i _=>rfl) (by show off+(B.cells.length - off)≤B.cells.length;omega)
theorem aW {t:TypeId} {x:Operand} {b off:Nat} {v:Value} (ho:R[k]?=some ⟨g,d, .load t x, .look,om⟩) (hg:gon l g) (hx:opv l x=some (.pointer (some ⟨b,off,none⟩))) (hb:b<base+k) (hs:sameV v v=true) (hL:jZ P t b off v h.ae) (b9:jz base om (.on b (jZ P t b off v)) ef)
  (hk:cw P R base Zs ((k, .on b (jZ P t b off v))::lk) ef (k+1) (bN l d v) h K):cw P R base Zs lk ef k l h K:=by
 have hl:∀ e,cK e l→∀ h2:AH,jZ P t b off v h2.ae→aLook P e.ev (.load t x) h2=some v:=fun e he h2 q=>by
  simp only [aLook,he.opv hx];exact q.load
 refine s4 (.on b (jZ P t b off v)) rfl ho hg (fun e he=>?_) (fun e he=>⟨hs,hb,hL,hl e he,fun f f' q ⟨B,j,I⟩=>⟨B,by rw [q];exact j,I⟩⟩) b9 hk
 simp only [aOp,he.opv hx,hL.load,Option.map_some]
theorem cg (du:cls P op= .look) (ho:R[k]?=some ⟨g,d,op, .look,om⟩) (hg:gon l g) {v:Value} (ay:∀ h2,gC Zs h2→cq P l op h2 v h2) (hz:gC Zs h) (hs:sameV v v=true) (b9:jz base om .iv ef)
  (hk:cw P R base Zs ((k, .iv)::lk) ef (k+1) (bN l d v) h K):cw P R base Zs lk ef k l h K:=
 s4 .iv du ho hg (ay h hz) (fun e he=>⟨hs,fun h2 q=>rz du (ay h2 q e he)⟩) b9 hk
theorem St.bO (hS:St h0 D Z0 Rv Z h L) (hz:aO Zs Z):gC Zs h:=fun b cs q=>hS.b8 b cs (hz b cs q)
theorem RS.bV {α:Type} [Cell α] {v:Value} {xs:List α} (hR:RS Z v xs) {i:Int} {x:α} (hx:xs[i.toNat]?=some x):∃ cs,rc Z cs x∧∀ h2,gC Z h2→j4 h2 v i (aa α) cs:=by
 obtain ⟨a,c,rfl,h2,j⟩:=hR
 have hi:i.toNat<xs.length:=by
  rcases Nat.lt_or_ge i.toNat xs.length with q | q
  ·exact q
  ·rw [List.getElem?_eq_none q] at hx;cases hx
 cases a with
 | none=>subst j;simp at hi
 | some a=>
  obtain ⟨af,all,J,ag,U⟩:=j
  obtain ⟨cs,ab,ad⟩:=U.elem hx
  have hm:i.toNat * aa α+aa α≤xs.length * aa α:=by
   have:=Nat.mul_le_mul_right (aa α) (Nat.succ_le_of_lt hi)
   rw [Nat.succ_mul] at this;exact this
  refine ⟨cs,ab,fun h hz=>?_⟩
  obtain ⟨B,ae,I⟩:=hz _ _ J
  refine ⟨B,ae,by rw [I];show a.off+_+_≤_;omega,?_⟩
  rw [I,← ad]
  show List.take _ (List.drop (a.off+_) all)=_
  rw [List.drop_take,List.drop_drop,List.take_take,Nat.min_eq_left (by omega)]
theorem EL {s t:TypeId} {x:Operand} {v:Value} {xs:List UInt8} (hR:RS Z v xs) (hx:opv l x=some v) (ht:tsTy P s t=true):∀ h2,gC Z h2→cq P l (.convert s t x) h2 (.string ⟨⟨xs⟩⟩) h2:=by
 intro h2 hz e he
 have hn:∃ news,aNews 1 v h2=some (xs.length,news)∧RCs Z news xs:=by
  obtain ⟨a,c,rfl,af,J⟩:=hR
  cases a with
  | none=>subst J;exact ⟨[],rfl,rfl⟩
  | some a=>
   obtain ⟨ab,all,ad,ae,U⟩:=J
   obtain ⟨B,j,I⟩:=hz _ _ ad
   have e1:aa UInt8=1:=rfl
   rw [e1] at ae U
   refine ⟨_,?_,U⟩
   simp only [aNews,AH.cN,ab,j,ax]
   rw [I,if_pos (by omega)];rfl
 obtain ⟨news,j,I⟩:=hn
 obtain ⟨a,c,hv,_⟩:=hR
 simp only [aOp,he.opv hx]
 exact tJ ⟨a,c,hv⟩ j I ht
theorem wN {f:gR} (ho:R[k]?=some ⟨g,d,op, .fresh,om⟩) (hg:gon l g) (hf:gA P l op f) (hk:cw P R base Zs lk ef (k+1) (bN l d (f.1 (base+k))) {h with t:=h.t.set (base+k) (some ⟨f.2.1,true,f.2.2⟩)} K):cw P R base Zs lk ef k l h K:=by
 intro e he
 rw [mh ho]
 simp only [wpDF]
 have hx:=hk (e.put d _) (he.bQ d _)
 have hv:=hf.2 e he
 match g,hg with
 | none,_=>exact ⟨f,hv,hx⟩
 | some (some t,w),hg=>exact ⟨t,rfl, .inl ⟨he t _ hg,f,hv,hx⟩⟩
theorem vN {lw hi:Nat} {cs:List Value} {z:Nat} (ho:R[k]?=some ⟨g,d,op, .fresh,om⟩) (hg:gon l g) (hf:gA P l op (fun id=> .pointer (some ⟨id,0,none⟩),cs,z)) (hS:St h0 D Z0 (lw,hi) Z h L) (h1:lw≤base+k) (h2:base+k<hi)
  (hk:∀ b h',b=base+k→St h0 D Z0 (b+1,hi) Z h' (.ae b cs::L)→cw P R base Zs lk ef (k+1) (bN l d (.pointer (some ⟨b,0,none⟩))) h' K):cw P R base Zs lk ef k l h K:=
 wN ho hg hf (hk (base+k) _ rfl (hS.vb h1 h2 cs z _ rfl ⟨z,by
  show AH.ae {h with t:=h.t.set (base+k) (some ⟨cs,true,z⟩)} (base+k)=_
  exact (Tr.e8 _ _ _ _).trans (if_pos rfl)⟩))
theorem iU {lw hi:Nat} {cells:List Value} {n s:Nat} (ho:R[k]?=some ⟨g,d,op, .fresh,om⟩) (hg:gon l g) (hf:gA P l op (fun id=> .slice (some ⟨id,0,none⟩) n n,cells,s)) (hn:n * s=cells.length) (hS:St h0 D Z0 (lw,hi) Z h L) (h1:lw≤base+k) (h2:base+k<hi)
  (hk:∀ v h' b,b=base+k→(baseOf v).block=b→St h0 D Z0 (b+1,hi) Z h' (.gs v cells s::L)→cw P R base Zs lk ef (k+1) (bN l d v) h' K):cw P R base Zs lk ef k l h K:=
 wN ho hg hf (hk _ _ (base+k) rfl rfl (hS.vb h1 h2 cells s _ rfl (.inr ⟨base+k,n,n,rfl,hn, .inl rfl,(Tr.e8 _ _ _ _).trans (if_pos rfl)⟩)))
theorem tr (ho:R.length=k) (hk:K l h):cw P R base Zs lk ef k l h K:=by
 intro e he
 rw [List.drop_eq_nil_of_le (by omega)]
 exact ⟨l,he,hk⟩
theorem lK {t:Nat} {b w:Bool} (hl:Sy.lk l t=some (.bool b)) (hb:b=w) (hk:cw P R base Zs lk ef k ((t, .bool w)::l) h K):cw P R base Zs lk ef k l h K:=by
 intro e he
 subst hb
 refine hk e fun u v hu=>?_
 simp only [Sy.lk] at hu
 cases hx:Nat.beq t u with
 | true=>
  rw [hx] at hu
  have:=Nat.eq_of_beq_eq_true hx
  subst this
  simp only [Option.some.injEq] at hu
  subst hu
  exact he t _ hl
 | false=>rw [hx] at hu;exact he u v hu
theorem ui (ts:List Nat) (hp:Sy.pick l ts=l') (hk:cw P R base Zs lk ef k l' h K):cw P R base Zs lk ef k l h K:=by
 subst hp
 exact fun e he=>hk e (he.pick ts)
def runF (P:Program):List br→Nat→KL→Option KL
 | _,0,l=>some l
 | [],_+1,_=>none
 | o::os,m+1,l=>
  match o.g with
  | none=>(match o.cl,pureV P l o.op with | .pure,some v=>runF P os m (bN l o.d v) | _,_=>none)
  | some (some t,w)=>(match Sy.lk l t with
   | some b=>(match isB w b with
    | true=>(match o.cl,pureV P l o.op with | .pure,some v=>runF P os m (bN l o.d v) | _,_=>none)
    | false=>runF P os m (bN l o.d undef))
   | none=>none)
  | some (none,_)=>none
theorem tF {cl:fD} {os:List br} {m i:Nat} {l l':KL} {h:AH} {K:Env→AH→Prop} {e:Env} (he:cK e l) (hr:(match cl,pureV P l op with | .pure,some v=>runF P os m (bN l d v) | _,_=>none)=some l')
  (ih:∀ {v:Value},runF P os m (bN l d v)=some l'→wpDF P base Zs lk ef (i+1) os (e.put d v) h K):cl= .pure∧∃ v h',aOp P (b5 P) e.ev op h=some (v,h')∧wpDF P base Zs lk ef (i+1) os (e.put d v) h K:=by
 split at hr
 ·rename_i v hv
  exact ⟨rfl,v,h,sw he hv,ih hr⟩
 ·cases hr
theorem zV:∀ (m:Nat) {R:List br} {i:Nat} {l l':KL} {h:AH} {K:Env→AH→Prop} {e:Env},runF P R m l=some l'→cK e l→(∀ e',cK e' l'→wpDF P base Zs lk ef (i+m) (R.drop m) e' h K)→wpDF P base Zs lk ef i R e h K:=by
 intro m
 induction m with
 | zero=>
  intro R i l l' h K e hr he hk
  simp only [runF,Option.some.injEq] at hr
  subst hr
  exact hk e he
 | succ m ih=>
  intro R i l l' h K e hr he hk
  cases R with
  | nil=>cases hr
  | cons o os=>
   have ir:∀ e',cK e' l'→wpDF P base Zs lk ef (i+1+m) (os.drop m) e' h K:=fun e' nH=>by
    have:=hk e' nH
    rw [List.drop_succ_cons] at this
    rw [show i+1+m=i+(m+1) by omega];exact this
   simp only [runF] at hr
   obtain ⟨g,d,op,cl,om⟩:=o
   match g with
   | none=>
    simp only at hr
    obtain ⟨rfl,hx⟩:=tF (base:=base) (Zs:=Zs) (lk:=lk) (ef:=ef) (i:=i) (h:=h) (K:=K) he hr (fun hr=>ih hr (he.bQ _ _) ir)
    simp only [wpDF]
    exact hx
   | some (some t,w)=>
    simp only at hr
    split at hr
    ·rename_i b hl
     cases hb:isB w b with
     | true=>
      rw [hb] at hr
      simp only at hr
      obtain ⟨rfl,hx⟩:=tF (base:=base) (Zs:=Zs) (lk:=lk) (ef:=ef) (i:=i) (h:=h) (K:=K) he hr (fun hr=>ih hr (he.bQ _ _) ir)
      simp only [wpDF]
      refine ⟨t,rfl, .inl ⟨?_,hx⟩⟩
      rw [he t _ hl]
      exact n4.1 hb
     | false=>
      rw [hb] at hr
      simp only [wpDF]
      refine ⟨t,rfl, .inr ⟨fun q=>?_,ih hr (he.bQ _ _) ir⟩⟩
      rw [he t _ hl] at q
      rw [n4.2 q] at hb
      cases hb
    ·cases hr
   | some (none,_)=>cases hr
theorem AL (m:Nat) (hr:runF P (R.drop k) m l=some l') (hk:cw P R base Zs lk ef (k+m) l' h K):cw P R base Zs lk ef k l h K:=by
 intro e he
 refine zV m hr he fun e' nH=>?_
 have:=hk e' nH
 rw [List.drop_drop]
 exact this
theorem yq (m:Nat) (l':KL) (hk:cw P R base Zs lk ef (k+m) l' h K) (hr:(runF P (R.drop k) m l).map (fun q=>pick q (l'.map Prod.fst))=some l':=by kernel_rfl):cw P R base Zs lk ef k l h K:=by
 obtain ⟨q,h1,h2⟩:=Option.map_eq_some_iff.1 hr
 exact AL m h1 (ui _ h2 hk)
theorem ye (m:Nat) (l':KL) (hk:K l' h) (hr:(runF P (R.drop k) m l).map (fun q=>pick q (l'.map Prod.fst))=some l':=by kernel_rfl) (ho:R.length=k+m:=by kernel_rfl):cw P R base Zs lk ef k l h K:=yq m l' (tr ho hk) hr
theorem yf (l':KL) (hk:K l' h) (hp:pick l (l'.map Prod.fst)=l':=by kernel_rfl) (ho:R.length=k:=by kernel_rfl):cw P R base Zs lk ef k l h K:=ui _ hp (tr ho hk)
theorem ek {c:Code} {N:KL→AH→Prop} {X:dk→KL→AH→Prop} (R:List br) (hS:St h0 D Z0 Rv Z h L) (hw:∀ base h',(∀ p∈L,∀ b∈p.ids,b<base)∧(∀ b,Z b≠none→b<base)→St h0 D Z0 (base,base+R.length) Z h' L→cw P R base Z [] [] 0 l h' N) (hc:regOfF P c=some R:=by kernel_rfl):W P c l h N X:=wu hc hS hw
def C0 (P:Program):Code→Option (List br)
 | .seq a _=>regOfF P a
 | _=>none
theorem cY {c:Code} {N:KL→AH→Prop} {X:dk→KL→AH→Prop} (R:List br) (hS:St h0 D Z0 Rv Z h L)
  (hw:∀ base h',(∀ p∈L,∀ b∈p.ids,b<base)∧(∀ b,Z b≠none→b<base)→St h0 D Z0 (base,base+R.length) Z h' L→cw P R base Z [] [] 0 l h' (fun l h=>W P (cR c) l h N X)) (hc:C0 P c=some R:=by kernel_rfl):W P c l h N X:=by
 cases c with
 | seq a b=>exact py rfl (wu hc hS hw)
 | _=>cases hc
theorem DS (ho:R[k]?=some ⟨g,d,op, .make,om⟩) (hg:gon l g) {v:Value} (dY:cq P l op {h with low:=h.next} v h1) (hl:h.next≤h1.low) (hk:cw P R base Zs lk ef (k+1) (bN l d v) (gY h h1) K):cw P R base Zs lk ef k l h K:=by
 intro e he
 rw [mh ho]
 simp only [wpDF]
 have hx:=hk (e.put d v) (he.bQ d v)
 match g,hg with
 | none,_=>exact ⟨v,h1,dY e he, .inl ⟨hl,hx⟩⟩
 | some (some t,w),hg=>exact ⟨t,rfl, .inl ⟨he t _ hg,v,h1,dY e he, .inl ⟨hl,hx⟩⟩⟩
theorem Bj {fp:Fp} (ho:R[k]?=some ⟨g,d,op, .make,om⟩) (hg:gon l g) {v:Value} (dY:cq P l op {h with low:=h.next} v h1) (hf:o0 Zs h h1 fp) (hm:fu (fun S=>S h1.ae) om fp lk dU) (hk:cw P R base Zs dU ((k,fp)::ef) (k+1) (bN l d v) (gY h h1) K):cw P R base Zs lk ef k l h K:=by
 intro e he
 rw [mh ho]
 simp only [wpDF]
 have hx:=hk (e.put d v) (he.bQ d v)
 match g,hg with
 | none,_=>exact ⟨v,h1,dY e he, .inr ⟨fp,dU,hf,hm,hx⟩⟩
 | some (some t,w),hg=>exact ⟨t,rfl, .inl ⟨he t _ hg,v,h1,dY e he, .inr ⟨fp,dU,hf,hm,hx⟩⟩⟩
theorem df (ho:R[k]?=some ⟨g,d,op, .make,om⟩) (hg:gon l g) (hS:St h0 D Z0 Rv Z h L) {v:Value} (dY:cq P l op {h with low:=h.next} v h1) (j:St h0 D Z0 Rv Z1 h1 L') (hl:h.next≤h1.low)
  (hk:∀ h',St h0 D Z0 Rv Z1 h' L'→cw P R base Zs lk ef (k+1) (bN l d v) h' K):cw P R base Zs lk ef k l h K:=
 DS ho hg dY hl (hk _ (hS.vA j))
theorem fS {A A' B:List Itm} (ho:R[k]?=some ⟨g,d,op, .make,om⟩) (hg:gon l g) (hS:St h0 D Z0 Rv Z h (A++B)) {v:Value} (dY:cq P l op {h with low:=h.next} v h1) (hc:St {h with low:=h.next} (a2 A) Z (0,0) Z1 h1 A') (hz:aO Zs Z1) (hm:fu (fun S=>S h1.ae) om (.dZ (a2 A)) lk dU)
  (hk:∀ h',St h0 D Z0 Rv Z1 h' (A'++B)→cw P R base Zs dU ((k, .dZ (a2 A))::ef) (k+1) (bN l d v) h' K):cw P R base Zs lk ef k l h K:=by
 refine Bj (fp:= .dZ (a2 A)) ho hg dY ⟨fun b cs q=>hc.b8 b cs (hz b cs q),fun b hb hn=>hc.aN b hb hn⟩ hm (hk _ ?_)
 exact hS.vA (hS.bZ.call hc)
theorem St.sub {A B:List Itm} (hS:St h0 D Z0 Rv Z h (A++B)):St {h with low:=h.next} (a2 A) Z (0,0) Z {h with low:=h.next} A:=hS.dW.start
theorem gu {p p':Itm} {B:List Itm} {v:Value} (ho:R[k]?=some ⟨g,d,op, .make,om⟩) (hg:gon l g) (hS:St h0 D Z0 Rv Z h ([p]++B)) (hx:∃ h1,cq P l op {h with low:=h.next} v h1∧St {h with low:=h.next} (a2 [p]) Z (0,0) Z h1 [p']) (hz:aO Zs Z) (hm:∀ {Q},fu Q om (.dZ (a2 [p])) lk dU)
  (hk:∀ h',St h0 D Z0 Rv Z h' (p'::B)→cw P R base Zs dU ((k, .dZ (a2 [p]))::ef) (k+1) (bN l d v) h' K):cw P R base Zs lk ef k l h K:=by
 obtain ⟨h1,j,I⟩:=hx
 exact fS (A:=[p]) (A':=[p']) (B:=B) ho hg hS j I hz hm hk
theorem lr {p:Itm} {B:List Itm} {v:Value} {T:List Value→Prop} {F:List Value→List Itm} (ho:R[k]?=some ⟨g,d,op, .make,om⟩) (hg:gon l g) (hS:St h0 D Z0 Rv Z h ([p]++B)) (hx:∃ h1 c,cq P l op {h with low:=h.next} v h1∧T c∧St {h with low:=h.next} (a2 [p]) Z (0,0) Z h1 (F c)) (hz:aO Zs Z) (hm:∀ {Q},fu Q om (.dZ (a2 [p])) lk dU)
  (hk:∀ h' c,T c∧St h0 D Z0 Rv Z h' (F c++B)→cw P R base Zs dU ((k, .dZ (a2 [p]))::ef) (k+1) (bN l d v) h' K):cw P R base Zs lk ef k l h K:=by
 obtain ⟨h1,c,j,I,J⟩:=hx
 exact fS (A:=[p]) (A':=F c) (B:=B) ho hg hS j J hz hm fun h' q=>hk h' c ⟨I,q⟩
theorem iC {p:Itm} {B:List Itm} {T:List Value→Prop} {F:Value→List Value→List Itm} (ho:R[k]?=some ⟨g,d,op, .make,om⟩) (hg:gon l g) (hS:St h0 D Z0 Rv Z h ([p]++B)) (hx:∃ v c h1,cq P l op {h with low:=h.next} v h1∧T c∧St {h with low:=h.next} (a2 [p]) Z (0,0) Z h1 (F v c)) (hz:aO Zs Z) (hm:∀ {Q},fu Q om (.dZ (a2 [p])) lk dU)
  (hk:∀ v c h',T c∧St h0 D Z0 Rv Z h' (F v c++B)→cw P R base Zs dU ((k, .dZ (a2 [p]))::ef) (k+1) (bN l d v) h' K):cw P R base Zs lk ef k l h K:=by
 obtain ⟨v,c,h1,j,I,J⟩:=hx
 exact fS (A:=[p]) (A':=F v c) (B:=B) ho hg hS j J hz hm fun h' q=>hk v c h' ⟨I,q⟩
theorem St.bL {A B:List Itm} (hS:St h0 D Z0 Rv Z h (A++B)) (j:Nat) {q:Itm} (hj:B[j]?=some q) {b:Nat} (hb:b∈q.ids):b∉a2 A:=by
 intro hA
 obtain ⟨p,hp,jr⟩:=kV.1 hA
 exact (List.pairwise_append.1 hS.dj).2.2 p hp q (au hj) b jr hb
theorem bU {b:Nat} {c:List Value}:b∈(Itm.ae b c).ids:=by simp [Itm.ids]
theorem jS {v:Value} {c:List Value} {s n:Nat} (hB:j6 v n):(baseOf v).block∈(Itm.gs v c s).ids:=by
 obtain ⟨a,c,rfl,_⟩:=hB
 simp [Itm.ids,baseOf]
end
end
section
open Go Am
open Cell (rc)
abbrev Bk:=Nat×List Value×Nat
class c9 (α:Type) (β:outParam Type) [Cell α] [Cell β] where
 row:α→List β
 ea:Value→List Value→α→Prop
 pT:∀ {Z:Zn} {cs:List Value} {x:α} {v:Value},RS (α:=β) Z v (row x)→ea v cs x→rc Z cs x
 kB:∀ {v:Value} {cs:List Value} {x:α},ea v cs x→cs.length=Cell.size α
 done:∀ {v:Value} {cs:List Value} {x:α},Value.oneCell' v=true→ea v cs x→cs.all Value.oneCell'=true
 inj:∀ {v w:Value} {cs:List Value} {x:α},ea v cs x→ea w cs x→v=w
 fn:∀ {v:Value} {cs a9:List Value} {x:α},ea v cs x→ea v a9 x→cs=a9
structure DV (α:Type) where
 x:α
 v:Value
section
variable {α β:Type} [Cell α] [Cell β] [c9 α β]
instance:Cell (DV α) where
 size:=Cell.size α
 rc _ cs d:=Value.oneCell' d.v=true∧c9.ea d.v cs d.x
 len h:=c9.kB h.2
 mono _ h:=h
 one h:=c9.done h.1 h.2
 pos:=Cell.pos (α:=α)
variable {P:Program} {l:KL} {h h':AH} {h0:AH} {D:List Nat} {Z0 Z Z':Zn} {Rv:Nat×Nat} {L L':List Itm}
variable {v w:Value} {cells:List Value} {xs:List α} {bs:List Bk}
def g4 (Z:Zn) (v:Value) (ys:List β) (k:List Bk):Prop:=
 ∃ cells,RCs Z cells ys∧((v= .slice none 0 0∧cells=[]∧k=[])∨∃ b n c,v= .slice (some ⟨b,0,none⟩) n c∧n * aa β=cells.length∧(c=n∨c=n+1)∧k=[(b,cells,aa β)])
def Own (Z:Zn):List (DV α)→List Bk→Prop
 | [],bs=>bs=[]
 | d::ds,bs=>∃ k r,bs=k++r∧g4 Z d.v (c9.row (β:=β) d.x) k∧Own Z ds r
def RD (Z:Zn) (cells:List Value) (xs:List α) (bs:List Bk):Prop:=
 ∃ ds:List (DV α),ds.map DV.x=xs∧RCs Z cells ds∧Own Z ds bs
def RH (Z:Zn) (cells:List Value) (xs:List α) (bs:List Bk) (i:Nat) (w:Value):Prop:=
 ∃ (j:List (DV α)) (d:DV α) (I:List (DV α)) (J U:List Bk),(j++d::I).map DV.x=xs∧j.length=i∧d.v=w∧RCs Z cells (j++d::I)∧bs=J++U∧Own Z j J∧Own Z I U
theorem g4.mono (hz:aO Z Z') {v:Value} {ys:List β} {k:List Bk} (hO:g4 Z v ys k):g4 Z' v ys k:=by
 obtain ⟨cells,h1,h2⟩:=hO
 exact ⟨cells,h1.mono hz,h2⟩
theorem Own.mono (hz:aO Z Z'):∀ {ds:List (DV α)} {bs:List Bk},Own Z ds bs→Own Z' ds bs:=by
 intro ds
 induction ds with
 | nil=>intro bs h;exact h
 | cons d ds ih=>
  rintro bs ⟨k,r,rfl,h1,h2⟩
  exact ⟨k,r,rfl,h1.mono hz,ih h2⟩
theorem RD.mono (hz:aO Z Z') (hR:RD Z cells xs bs):RD Z' cells xs bs:=by
 obtain ⟨ds,h1,h2,j⟩:=hR
 exact ⟨ds,h1,h2.mono hz,j.mono hz⟩
theorem RH.mono (hz:aO Z Z') {i:Nat} (hR:RH Z cells xs bs i w):RH Z' cells xs bs i w:=by
 obtain ⟨j,d,I,J,U,h1,h2,aa,ab,ad,ae,af⟩:=hR
 exact ⟨j,d,I,J,U,h1,h2,aa,ab.mono hz,ad,ae.mono hz,af.mono hz⟩
theorem Own.append:∀ {d1 d2:List (DV α)} {I j:List Bk},Own Z d1 I→Own Z d2 j→Own Z (d1++d2) (I++j):=by
 intro d1
 induction d1 with
 | nil=>intro d2 I j h1 h2;simp only [Own] at h1;subst h1;exact h2
 | cons d d1 ih=>
  rintro d2 I j ⟨k,r,rfl,h1,h2⟩ J
  exact ⟨k,r++j,by rw [List.append_assoc],h1,ih h2 J⟩
theorem Own.split:∀ {d1 d2:List (DV α)} {bs:List Bk},Own Z (d1++d2) bs→∃ j I,bs=j++I∧Own Z d1 j∧Own Z d2 I:=by
 intro d1
 induction d1 with
 | nil=>intro d2 bs h;exact ⟨[],bs,rfl,rfl,h⟩
 | cons d d1 ih=>
  rintro d2 bs ⟨k,r,rfl,h1,h2⟩
  obtain ⟨j,I,rfl,J,U⟩:=ih h2
  exact ⟨k++j,I,by rw [List.append_assoc],⟨k,j,rfl,h1,J⟩,U⟩
theorem RD.raw (hR:RD Z cells xs bs):∃ ds:List (DV α),ds.map DV.x=xs∧RCs Z cells ds:=⟨hR.choose,hR.choose_spec.1,hR.choose_spec.2.1⟩
theorem RH.raw {i:Nat} (hR:RH Z cells xs bs i w):∃ ds:List (DV α),ds.map DV.x=xs∧RCs Z cells ds:=by
 obtain ⟨I,d,J,U,aa,h1,h2,ab,j,ad,ae,af⟩:=hR
 exact ⟨_,h1,j⟩
theorem St.kB (hS:St h0 D Z0 Rv Z h L) {i:Nat} (hi:L[i]?=some (.gs v cells (aa α))) (hR:∃ ds:List (DV α),ds.map DV.x=xs∧RCs Z cells ds):lenOf v=some xs.length:=by
 obtain ⟨ds,rfl,h2⟩:=hR
 rw [List.length_map]
 exact hS.dP (α:=DV α) hi h2
theorem St.oc (hS:St h0 D Z0 Rv Z h L) {i:Nat} (hi:L[i]?=some (.gs v cells (aa α))) (hR:∃ ds:List (DV α),ds.map DV.x=xs∧RCs Z cells ds) (hn:0<xs.length):j6 v xs.length:=by
 obtain ⟨ds,rfl,h2⟩:=hR
 rw [List.length_map] at hn ⊢
 exact hS.bR (α:=DV α) hi h2 hn
theorem St.del (hS:St h0 D Z0 Rv Z h L) {j:Nat} (hi:L[j]?=some (.gs v cells (aa α))) (hR:∃ ds:List (DV α),ds.map DV.x=xs∧RCs Z cells ds) {i:Int} {x:α} (hx:xs[i.toNat]?=some x):
  ∃ w cs,c9.ea (β:=β) w cs x∧Value.oneCell' w=true∧j4 h v i (aa α) cs∧(cells.drop (i.toNat * aa α)).take (aa α)=cs:=by
 obtain ⟨ds,rfl,h2⟩:=hR
 rw [List.getElem?_map] at hx
 obtain ⟨d,hd,rfl⟩:=Option.map_eq_some_iff.1 hx
 obtain ⟨cs,I,J,U⟩:=hS.cv (α:=DV α) hi h2 hd
 exact ⟨d.v,cs,I.2,I.1,J,U⟩
theorem Own.at:∀ {ds:List (DV α)} {bs:List Bk} {i:Nat} {d:DV α},Own Z ds bs→ds[i]?=some d→∃ d1 d2 j k I,ds=d1++d::d2∧d1.length=i∧bs=j++(k++I)∧Own Z d1 j∧g4 Z d.v (c9.row (β:=β) d.x) k∧Own Z d2 I:=by
 intro ds
 induction ds with
 | nil=>intro bs i d h hd;simp at hd
 | cons e ds ih=>
  rintro bs i d ⟨k,r,rfl,h1,h2⟩ hd
  cases i with
  | zero=>simp at hd;subst hd;exact ⟨[],ds,[],k,r,rfl,rfl,rfl,rfl,h1,h2⟩
  | succ i=>
   simp only [List.getElem?_cons_succ] at hd
   obtain ⟨d1,d2,j,k',I,rfl,rfl,rfl,J,U,aa⟩:=ih h2 hd
   exact ⟨e::d1,d2,k++j,k',I,rfl,rfl,by simp only [List.append_assoc],⟨k,j,rfl,h1,J⟩,U,aa⟩
theorem St.rh (hS:St h0 D Z0 Rv Z h L):St h0 D Z0 Rv Z h (.bP []::L):=
 hS.add _ (fun _ _ _=>rfl) ⟨List.nodup_nil,fun x hx=>by cases hx⟩ (fun b hb=>by simp [Itm.ids] at hb) (Nat.le_refl _) hS.cT (fun _ q=>q)
theorem St.swap {A A':List Itm} (hS:St h0 D Z0 Rv Z h (A++L)) (b9:(∀ p∈A,p.ok h)→A.Pairwise (fun p q=>∀ b∈p.ids,b∉q.ids)→(∀ p∈A',p.ok h)∧A'.Pairwise (fun p q=>∀ b∈p.ids,b∉q.ids)) (dA:∀ b,b∈a2 A'→b∈a2 A):St h0 D Z0 Rv Z h (A'++L):=by
 obtain ⟨d1,d2,d3⟩:=List.pairwise_append.1 hS.dj
 obtain ⟨j,I⟩:=b9 (fun p hp=>hS.ok p (List.mem_append_left _ hp)) d1
 have fb:∀ p∈A',∀ b∈p.ids,∃ q∈A,b∈q.ids:=fun p hp b hb=>kV.1 (dA b (kV.2 ⟨p,hp,hb⟩))
 exact {hS with
  ok:=fun p hp=>by
   rcases List.mem_append.1 hp with hp | hp
   ·exact j p hp
   ·exact hS.ok p (List.mem_append_right _ hp)
  dj:=List.pairwise_append.2 ⟨I,d2,fun p hp q hq b hb qd=>by
   obtain ⟨r,hr,gZ⟩:=fb p hp b hb
   exact d3 r hr q hq b gZ qd⟩
  dz:=fun p hp b hb=>by
   rcases List.mem_append.1 hp with hp | hp
   ·obtain ⟨r,hr,gZ⟩:=fb p hp b hb
    exact hS.dz r (List.mem_append_left _ hr) b gZ
   ·exact hS.dz p (List.mem_append_right _ hp) b hb
  new:=fun p hp b hb=>by
   rcases List.mem_append.1 hp with hp | hp
   ·obtain ⟨r,hr,gZ⟩:=fb p hp b hb
    exact hS.new r (List.mem_append_left _ hr) b gZ
   ·exact hS.new p (List.mem_append_right _ hp) b hb}
theorem vW (bs:List Bk):(Itm.bP bs).ids=bs.map (·.1):=rfl
theorem St.pJ {a b:List Bk} (hS:St h0 D Z0 Rv Z h (.bP a:: .bP b::L)):St h0 D Z0 Rv Z h (.bP (a++b)::L):=by
 refine St.swap (A:=[.bP a, .bP b]) (A':=[.bP (a++b)]) hS (fun o d=>⟨fun p hp=>?_,List.pairwise_singleton _ _⟩) (fun x hx=>?_)
 ·simp only [List.mem_singleton] at hp
  subst hp
  have oa:=o (.bP a) (by simp)
  have ob:=o (.bP b) (by simp)
  have Fj:∀ x∈(Itm.bP a).ids,x∉(Itm.bP b).ids:=by simpa using d
  refine ⟨?_,fun x hx=>?_⟩
  ·rw [List.map_append,List.nodup_append]
   exact ⟨oa.1,ob.1,fun x hx y hy e=>Fj x hx (by rw [e];exact hy)⟩
  ·rcases List.mem_append.1 hx with q | q
   ·exact oa.2 x q
   ·exact ob.2 x q
 ·simp only [a2,List.flatMap_cons,List.flatMap_nil,List.append_nil,vW,List.map_append] at hx ⊢
  exact hx
theorem St.pC {a b:List Bk} (hS:St h0 D Z0 Rv Z h (.bP (a++b)::L)):St h0 D Z0 Rv Z h (.bP a:: .bP b::L):=by
 refine St.swap (A:=[.bP (a++b)]) (A':=[.bP a, .bP b]) hS (fun o d=>?_) (fun x hx=>?_)
 ·have oa:=o (.bP (a++b)) (by simp)
  have on:=oa.1
  rw [List.map_append,List.nodup_append] at on
  refine ⟨fun p hp=>?_,?_⟩
  ·simp only [List.mem_cons,List.not_mem_nil,or_false] at hp
   rcases hp with rfl | rfl
   ·exact ⟨on.1,fun x hx=>oa.2 x (List.mem_append_left _ hx)⟩
   ·exact ⟨on.2.1,fun x hx=>oa.2 x (List.mem_append_right _ hx)⟩
  ·simp only [List.pairwise_cons,List.mem_singleton,forall_eq,List.not_mem_nil,false_imp_iff,implies_true,List.Pairwise.nil,and_true]
   exact fun x hx hy=>on.2.2 x hx x hy rfl
 ·simp only [a2,List.flatMap_cons,List.flatMap_nil,List.append_nil,vW,List.map_append] at hx ⊢
  exact hx
theorem St.uQ {v:Value} {ck:List Value} {ys:List β} (hS:St h0 D Z0 Rv Z h (.gs v ck (aa β)::L)) (hR:RCs Z ck ys):∃ k,g4 Z v ys k∧St h0 D Z0 Rv Z h (.bP k::L):=by
 rcases hS.ok _ List.mem_cons_self with ⟨rfl,rfl⟩ | ⟨b,n,c,rfl,h1,h2,j⟩
 ·exact ⟨[],⟨[],hR, .inl ⟨rfl,rfl,rfl⟩⟩,hS.tail.rh⟩
 ·refine ⟨[(b,ck,aa β)],⟨ck,hR, .inr ⟨b,n,c,rfl,h1,h2,rfl⟩⟩,St.swap (A:=[.gs (.slice (some ⟨b,0,none⟩) n c) ck (aa β)]) (A':=[.bP [(b,ck,aa β)]]) hS (fun o d=>⟨fun p hp=>?_,List.pairwise_singleton _ _⟩) (fun x hx=>hx)⟩
  simp only [List.mem_singleton] at hp
  subst hp
  exact ⟨by simp,fun x hx=>by simp only [List.mem_singleton] at hx;subst hx;exact j⟩
theorem St.vL {v:Value} {k:List Bk} {ys:List β} (hS:St h0 D Z0 Rv Z h (.bP k::L)) (hR:g4 Z v ys k):∃ ck,RCs Z ck ys∧St h0 D Z0 Rv Z h (.gs v ck (aa β)::L):=by
 obtain ⟨ck,hR,⟨rfl,rfl,rfl⟩ | ⟨b,n,c,rfl,h1,h2,rfl⟩⟩:=hR
 ·exact ⟨[],hR,hS.tail.dh _⟩
 ·refine ⟨ck,hR,St.swap (A:=[.bP [(b,ck,aa β)]]) (A':=[.gs (.slice (some ⟨b,0,none⟩) n c) ck (aa β)]) hS (fun o d=>⟨fun p hp=>?_,List.pairwise_singleton _ _⟩) (fun x hx=>hx)⟩
  simp only [List.mem_singleton] at hp
  subst hp
  exact .inr ⟨b,n,c,rfl,h1,h2,(o (.bP [(b,ck,aa β)]) (by simp)).2 (b,ck,aa β) (by simp)⟩
theorem RD.nil:RD (α:=α) Z [] [] []:=⟨[],rfl,rfl,rfl⟩
theorem St.yr (hS:St h0 D Z0 Rv Z h L) (s:Nat):St h0 D Z0 Rv Z h (.gs (.slice none 0 0) [] s:: .bP []::L):=hS.rh.dh s
theorem RD.one {cs:List Value} {x:α} {k:List Bk} (hd:c9.ea (β:=β) w cs x) (ho:Value.oneCell' w=true) (hO:g4 Z w (c9.row (β:=β) x) k):RD Z cs [x] k:=
 ⟨[⟨x,w⟩],rfl,RCs.single (x:=(⟨x,w⟩:DV α)) ⟨ho,hd⟩,k,[],by simp,hO,rfl⟩
theorem g4.nil:g4 (β:=β) Z (.slice none 0 0) [] []:=⟨[],rfl, .inl ⟨rfl,rfl,rfl⟩⟩
theorem St.wZ (hS:St h0 D Z0 Rv Z h (.gs v cells (aa α):: .bP bs::L)) (hR:RD Z cells xs bs) {i:Int} {x:α} (hx:xs[i.toNat]?=some x):
  ∃ w cs ck jK,c9.ea (β:=β) w cs x∧j4 h v i (aa α) cs∧RCs Z ck (c9.row (β:=β) x)∧RH Z cells xs jK i.toNat w∧St h0 D Z0 Rv Z h (.gs w ck (aa β):: .gs v cells (aa α):: .bP jK::L):=by
 obtain ⟨ds,rfl,h2,U⟩:=hR
 rw [List.getElem?_map] at hx
 obtain ⟨d,hd,rfl⟩:=Option.map_eq_some_iff.1 hx
 obtain ⟨cs,ab,ad,an⟩:=hS.cv (α:=DV α) (j:=0) rfl h2 hd
 obtain ⟨d1,d2,I,k,J,rfl,hl,rfl,ae,af,ag⟩:=U.at hd
 have ah:=(hS.front 1 rfl).pC
 have ai:=(ah.front 1 rfl).pC
 obtain ⟨ck,rM,aj⟩:=ai.vL af
 have ak:=((aj.front 1 rfl).front 2 rfl).pJ
 refine ⟨d.v,cs,ck,I++J,ab.2,ad,rM,⟨d1,d,d2,I,J,rfl,hl,rfl,h2,rfl,ae,ag⟩,?_⟩
 exact ((ak.front 1 rfl).front 2 rfl).front 1 rfl
theorem DA {t:TypeId} {x y:Operand} {u:Value} {i:Int} {j m:Nat} {cs a9 vs:List Value} {z z':α} (hS:St h0 D Z0 Rv Z h L) (hi:L[m]?=some (.gs v cells (aa α))) (hR:RD Z cells xs bs)
  (hu:xs[i.toNat]?=some z) (dI:(cells.drop (i.toNat * aa α)).take (aa α)=cs)
  (hx:opv l x=some (.pointer (some (bw v i (aa α) j)))) (hy:opv l y=some u) (fW:lV u=vs) (ht:b6 P t=some vs.length) (fF:vs.all Value.oneCell'=true) (hl:Nat.ble (j+vs.length) cs.length=true)
  (hc:cs.take j++vs++cs.drop (j+vs.length)=a9) (J:c9.ea (β:=β) w cs z) (U:c9.ea (β:=β) w a9 z') (kC:c9.row (β:=β) z'=c9.row z):
  ∃ h' cO,cq P l (.store t x y) h undef h'∧RD Z cO (xs.set i.toNat z') bs∧St h0 D Z0 Rv Z h' (L.set m (.gs v cO (aa α))):=by
 obtain ⟨ds,rfl,h2,ab⟩:=hR
 rw [List.getElem?_map] at hu
 obtain ⟨d,hd,rfl⟩:=Option.map_eq_some_iff.1 hu
 obtain ⟨ad,I,an,ae⟩:=hS.cv (α:=DV α) hi h2 hd
 have e:ad=cs:=ae.symm.trans dI
 subst e
 obtain ⟨h',c',r1,af,ag⟩:=gD (α:=DV α) (u':=⟨z',d.v⟩) hS hi h2 hd dI hx hy fW ht fF hl hc ⟨I.1,by rw [c9.inj I.2 J];exact U⟩
 refine ⟨h',c',r1,⟨_,?_,af,?_⟩,ag⟩
 ·rw [List.map_set]
 ·obtain ⟨d1,d2,ao,k,ah,rfl,hl,rfl,ai,aj,ak⟩:=ab.at hd
  rw [← hl,List.set_append_right _ _ (Nat.le_refl _),Nat.sub_self,List.set_cons_zero]
  exact ai.append ⟨k,ah,rfl,by rw [show c9.row (β:=β) (DV.mk z' d.v).x=c9.row d.x from kC];exact aj,ak⟩
theorem zf {t:TypeId} {x y:Operand} {u:Value} {ck cs a9:List Value} {ys:List β} {i:Int} {j:Nat} {z z':α} (hS:St h0 D Z0 Rv Z h (.gs u ck (aa β):: .gs v cells (aa α):: .bP bs::L)) (hH:RH Z cells xs bs i.toNat w) (hk:RCs Z ck ys)
  (hz:xs[i.toNat]?=some z) (hx:opv l x=some (.pointer (some (bw v i (aa α) j)))) (hy:opv l y=some u) (ht:b6 P t=some 1) (hl:Nat.ble (j+1) (aa α)=true)
  (ad:c9.ea (β:=β) w cs z) (hc:cs.take j++[u]++cs.drop (j+1)=a9) (ae:c9.ea (β:=β) u a9 z') (kC:c9.row (β:=β) z'=ys):
  ∃ h' cO jK,cq P l (.store t x y) h undef h'∧RD Z cO (xs.set i.toNat z') jK∧St h0 D Z0 Rv Z h' (.gs v cO (aa α):: .bP jK::L):=by
 subst kC
 obtain ⟨af,d,ag,ah,I,rfl,h2,rfl,J,rfl,ai,aj⟩:=hH
 have hd:(af++d::ag)[i.toNat]?=some d:=by rw [← h2];simp
 rw [List.getElem?_map,hd] at hz
 simp only [Option.map_some,Option.some.injEq] at hz
 subst hz
 obtain ⟨ak,U,ax,an⟩:=hS.cv (α:=DV α) (j:=1) rfl J hd
 have e:cs=ak:=(c9.fn U.2 ad).symm
 subst e
 have ab:Value.oneCell' u=true:=hS.fR (i:=0) rfl
 have du:cs.length=aa α:=c9.kB U.2
 obtain ⟨h',c',r1,ao,aq⟩:=gD (α:=DV α) (P:=P) (t:=t) (vs:=[u]) (u':=⟨z',u⟩) hS (m:=1) rfl J hd an hx hy (hS.fQ (i:=0) rfl) ht (by simp [ab]) (by rw [du];exact hl) hc ⟨ab,ae⟩
 obtain ⟨k,hO,ar⟩:=St.uQ (β:=β) aq (ys:=c9.row (β:=β) z') hk
 have au:=(ar.front 2 rfl).pC
 have av:=(((au.front 2 rfl).front 2 rfl).front 1 rfl).pJ
 have aw:=(av.front 1 rfl).pJ
 refine ⟨h',c',ah++(k++I),r1,⟨_,?_,ao,?_⟩,(aw.front 1 rfl)⟩
 ·rw [List.map_set]
 ·rw [← h2,List.set_append_right _ _ (Nat.le_refl _),Nat.sub_self,List.set_cons_zero]
  exact ai.append ⟨k,I,rfl,hO,aj⟩
theorem RD.freeze (hS:St h0 D Z0 Rv Z h (.bP bs::L)) (hR:RD Z cells xs bs):∃ Z',aO Z Z'∧RCs Z' cells xs∧St h0 D Z0 Rv Z' h L:=by
 obtain ⟨ds,rfl,h2,J⟩:=hR
 induction ds generalizing Z cells bs with
 | nil=>
  simp only [RCs] at h2;subst h2
  exact ⟨Z,aO.refl _,rfl,hS.tail⟩
 | cons d ds ih=>
  obtain ⟨cs,rest,rfl,U,aa⟩:=h2
  obtain ⟨k,r,rfl,ab,ad⟩:=J
  obtain ⟨ck,rM,ae⟩:=hS.pC.vL ab
  obtain ⟨Z1,j,af,ag⟩:=ae.freeze rM
  obtain ⟨ah,I,ai,aj⟩:=ih ag (aa.mono j) (ad.mono j)
  exact ⟨ah,j.trans I,⟨cs,rest,rfl,c9.pT (af.mono I) U.2,ai⟩,aj⟩
theorem St.shallow (hS:St h0 D Z0 Rv Z h (.gs v cells (aa α):: .bP bs::L)) (hR:RD Z cells xs bs):∃ Z',aO Z Z'∧RCs Z' cells xs∧St h0 D Z0 Rv Z' h (.gs v cells (aa α)::L):=by
 obtain ⟨Z',h1,h2,j⟩:=RD.freeze (hS.front 1 rfl) hR
 exact ⟨Z',h1,h2,j⟩
theorem wK {t tx:TypeId} {a b:Operand} {bX:Nat} {v2:Value} {c2:List Value} {I:List Bk} {ys:List α} (hS:St h0 D Z0 Rv Z h (.gs v cells (aa α):: .bP bs:: .gs v2 c2 (aa α):: .bP I::L)) (hR:RD Z cells xs bs) (J:RD Z c2 ys I)
  (ha:opv l a=some v) (hb:opv l b=some v2) (ht:appTy P t tx=some (aa α,bX)) (pj:(xs.length+ys.length) * bX≤140737488355328) (hm:xs.length+ys.length≤4611686018427387904):
  ∃ v' cO h',cq P l (.call ⟨.builtin .append,#[a,b],#[t,tx]⟩) h v' h'∧RD Z cO (xs++ys) (bs++I)∧St h0 D Z0 Rv Z h' (.gs v' cO (aa α):: .bP (bs++I)::L):=by
 obtain ⟨ds,rfl,h2,U⟩:=hR
 obtain ⟨es,rfl,ab,ad⟩:=J
 rw [List.length_map,List.length_map] at pj hm
 obtain ⟨v',c',h',r1,ae,af⟩:=dE (α:=DV α) (P:=P) hS (i:=0) rfl h2 (hS.eB (α:=DV α) (j:=2) rfl ab) ha hb ht pj hm
 refine ⟨v',c',h',r1,⟨ds++es,by rw [List.map_append],ae,U.append ad⟩,?_⟩
 have ag:=(af.front 2 rfl).tail
 have ah:=(ag.front 2 rfl)
 have ai:=(ah.front 2 rfl).pJ
 exact ai.front 1 rfl
end
section
variable {P:Program} {l:KL} {h h':AH} {h0:AH} {D:List Nat} {Z0 Z Z':Zn} {Rv:Nat×Nat} {L:List Itm}
def bA (Z:Zn):Itm→Prop
 | .ae b cells=>Z b=some cells
 | .gs v cells s=>(v= .slice none 0 0∧cells=[])∨∃ b n c,v= .slice (some ⟨b,0,none⟩) n c∧n * s=cells.length∧n≤c∧Z b=some cells
 | .bP _=>True
theorem St.kM (hS:St h0 D Z0 Rv Z h L):∃ Z',aO Z Z'∧Inv Z' h∧∀ p∈L,bA Z' p:=by
 classical
 let Z':Zn:=fun b=>if ∃ p∈L,b∈p.ids then (h.ae b).map (·.cells) else Z b
 have eN:∀ b,(∃ p∈L,b∈p.ids)→Z' b=(h.ae b).map (·.cells):=fun b hb=>if_pos hb
 have qi:∀ b,¬ (∃ p∈L,b∈p.ids)→Z' b=Z b:=fun b hb=>if_neg hb
 refine ⟨Z',fun b cs hz=>?_,⟨fun b cs hz=>?_,hS.cT⟩,fun p hp=>?_⟩
 ·rw [qi b (fun ⟨p,hp,hb⟩=>by rw [hS.dz p hp b hb] at hz;cases hz)];exact hz
 ·by_cases e:∃ p∈L,b∈p.ids
  ·rw [eN b e] at hz
   cases hB:h.ae b with
   | none=>rw [hB] at hz;cases hz
   | some B=>rw [hB] at hz;exact ⟨B,rfl,Option.some.inj hz⟩
  ·rw [qi b e] at hz;exact hS.b8 b cs hz
 ·cases p with
  | ae b cells=>
   obtain ⟨z,hz⟩:=hS.ok _ hp
   show Z' b=some cells
   rw [eN b ⟨_,hp,by simp [Itm.ids]⟩,hz];rfl
  | gs v cells s=>
   rcases hS.ok _ hp with ⟨rfl,rfl⟩ | ⟨b,n,c,rfl,h1,h2,j⟩
   ·exact .inl ⟨rfl,rfl⟩
   ·refine .inr ⟨b,n,c,rfl,h1,by omega,?_⟩
    rw [eN b ⟨_,hp,by simp [Itm.ids]⟩,j];rfl
  | bP bs=>trivial
theorem bA.row {α:Type} [Cell α] {v:Value} {cells:List Value} {xs:List α} (hi:bA Z' (.gs v cells (aa α))) (hz:aO Z Z') (hR:RCs Z cells xs):RS Z' v xs:=by
 rcases hi with ⟨rfl,rfl⟩ | ⟨b,n,c,rfl,h1,h2,j⟩
 ·have:xs=[]:=by
   cases xs with
   | nil=>rfl
   | cons x xs=>
    obtain ⟨cs,rest,I,J,_⟩:=hR
    have:=Cell.len J
    have:=Cell.pos (α:=α)
    cases cs with
    | nil=>simp at *;omega
    | cons=>simp at I
  subst this
  exact ⟨none,0,rfl,Nat.le_refl _,rfl⟩
 ·have hlen:=hR.length
  have hn:n=xs.length:=Nat.eq_of_mul_eq_mul_right (Cell.pos (α:=α)) (by show n * aa α=xs.length * aa α;omega)
  refine ⟨some ⟨b,0,none⟩,c,by rw [hn],by omega,rfl,cells,j,by show 0+_≤_;omega,?_⟩
  have:List.take (xs.length * aa α) (List.drop 0 cells)=cells:=by rw [List.drop_zero,List.take_of_length_le (by omega)]
  rw [this]
  exact hR.mono hz
theorem St.j9 (hz:aO Z Z') (hc:St h [] Z' (0,0) Z' h' []):St h [] Z (0,0) Z h' []:=
 {hc with
  b8:=fun b cs q=>hc.b8 b cs (hz b cs q)
  ok:=fun p hp=>by cases hp
  dj:=List.Pairwise.nil
  dz:=fun p hp=>by cases hp
  new:=fun p hp=>by cases hp
  ag:=aO.refl _
  eU:=fun b hb=> .inl hb}
theorem l0 {Zs:Zn} {t:TypeId} {x:Operand} {b off:Nat} {cells:List Value} {v:Value} (h2:AH) (hz:gC Zs h2) (hi:Zs b=some cells)
  (hx:opv l x=some (.pointer (some ⟨b,off,none⟩))) (hv:ldB P t off cells=some v):cq P l (.load t x) h2 v h2:=by
 obtain ⟨B,hb,dI⟩:=hz _ _ hi
 have hle:off≤cells.length:=by
  unfold ldB at hv
  split at hv
  ·split at hv
   ·split at hv
    ·split at hv
     ·omega
     ·cases hv
    ·cases hv
   ·rcases Nat.lt_or_ge off cells.length with q | q
    ·omega
    ·rw [List.getElem?_eq_none q] at hv;cases hv
  ·cases hv
 intro e he
 simp only [aOp,he.opv hx]
 rw [mH (h:=h2) (a:=⟨b,off,none⟩) (off:=off) (cells:=cells) rfl hb hv (fun _ _ _=>trivial) (fun i _=>by rw [dI]) (by rw [dI];show off+(cells.length - off)≤cells.length;omega)]
 rfl
end
section
variable {α:Type} [Cell α] {P:Program} {l:KL} {h h':AH} {h0:AH} {D:List Nat} {Z0 Z Z':Zn} {Rv:Nat×Nat} {L:List Itm} {v vd vs:Value} {cells:List Value} {xs:List α}
def View (v v':Value) (a n s:Nat):Prop:=∃ b m c c',v= .slice (some ⟨b,0,none⟩) m c∧v'= .slice (some ⟨b,a * s,none⟩) n c'
theorem uG {i:Nat} {t:TypeId} {x:Operand} {lo hi:Option Operand} {a b:Int} (hS:St h0 D Z0 Rv Z h L) (e7:L[i]?=some (.gs v cells (aa α))) (hR:RCs Z cells xs) (eN:0<xs.length) (hx:opv l x=some v) (ht:slTy P t=some (aa α)) (ib:loIs l lo a) (jw:nM l hi b xs.length)
  (h1:0≤a) (h2:a≤b) (j:b≤xs.length):∃ v',cq P l (.slice t x lo hi none) h v' h∧View v v' a.toNat (b.toNat - a.toNat) (aa α):=by
 have hl:=hS.dP e7 hR
 rcases hS.ok _ (au e7) with ⟨rfl,rfl⟩ | ⟨bb,n,c,rfl,I,J,U⟩
 ·simp only [lenOf,Option.some.injEq] at hl;omega
 ·simp only [lenOf,Option.some.injEq] at hl
  subst hl
  refine ⟨.slice (some ⟨bb,a.toNat * aa α,none⟩) (b.toNat - a.toNat) (if c=xs.length∧b.toNat=xs.length then b.toNat - a.toNat else b.toNat - a.toNat+2),fun e he=>?_,bb,_,_,_,rfl,rfl⟩
  unfold slTy at ht
  split at ht
  ·rename_i u hu
   simp only [aOp,he.opv hx,aSlice,hu,ht,ax,Option.map_none,su he ib jw h1 h2 j,if_true,Option.map_some,Option.some.injEq,Prod.mk.injEq,Value.slice.injEq,and_true]
   rw [add_eq _ _ rfl]
   simp
  ·cases ht
def jo (xs:List α) (a b k:Nat):List α:=xs.take a++((xs.drop b).take k++xs.drop (a+k))
theorem zl {i a b m n:Nat} {t tx:TypeId} {x y:Operand} (hS:St h0 D Z0 Rv Z h L) (e7:L[i]?=some (.gs v cells (aa α))) (hR:RCs Z cells xs) (hd:View v vd a m (aa α)) (hs:View v vs b n (aa α))
  (hx:opv l x=some vd) (hy:opv l y=some vs) (ht:slTy P t=some (aa α)) (ha:a+m≤xs.length) (hb:b+n≤xs.length):
  ∃ h' cO,cq P l (.call ⟨.builtin .copy,#[x,y],#[t,tx]⟩) h (.int .i64 (Nat.min n m)) h'∧RCs Z cO (jo xs a b (Nat.min n m))∧St h0 D Z0 Rv Z h' (L.set i (.gs v cO (aa α))):=by
 have hl:=hS.dP e7 hR
 have hlen:=hR.length
 obtain ⟨bb,I,c1,c2,e1,rfl⟩:=hd
 obtain ⟨aj,ak,an,ao,ah,rfl⟩:=hs
 subst e1
 injection ah with j J U
 injection j with j
 injection j with j
 subst j J U
 have hu:∃ u,P.underlying t=some (.slice u)∧b6 P u=some (aa α):=by
  unfold slTy at ht
  split at ht
  ·exact ⟨_,by assumption,ht⟩
  ·cases ht
 obtain ⟨u,ae,af⟩:=hu
 by_cases hk:Nat.min n m=0
 ·have gG:L.set i (.gs (.slice (some ⟨bb,0,none⟩) I c1) cells (aa α))=L:=by
   obtain ⟨ag,ab⟩:=List.getElem?_eq_some_iff.1 e7
   rw [← ab];exact List.set_getElem_self ag
  refine ⟨h,cells,fun e he=>?_,?_,by rw [gG];exact hS⟩
  ·simp only [aOp,List.map_cons,List.map_nil,he.opv hx,he.opv hy,aBuiltin,aCopy,ae,af,ax,if_pos hk,hk];rfl
  ·rw [hk];unfold jo;simpa using hR
 ·rcases hS.ok _ (au e7) with ⟨q,_⟩ | ⟨aq,ar,av,q,ag,ab,ad⟩
  ·cases q
  ·injection q with j J U
   injection j with j
   injection j with j
   subst j J U
   have GY:Nat.min n m≤m:=Nat.min_le_right _ _
   have G3:Nat.min n m≤n:=Nat.min_le_left _ _
   generalize oI:Nat.min n m=k at *
   have f1:(b+k) * aa α≤xs.length * aa α:=Nat.mul_le_mul_right _ (by omega)
   have f2:(a+k) * aa α≤xs.length * aa α:=Nat.mul_le_mul_right _ (by omega)
   rw [Nat.add_mul] at f1 f2
   have p6:RCs Z (cells.take (a * aa α)++((cells.drop (b * aa α)).take (k * aa α)++cells.drop ((a+k) * aa α))) (jo xs a b k):=(hR.take a).append (((hR.drop b).take k).append (hR.drop (a+k)))
   have du:((cells.drop (b * aa α)).take (k * aa α)).length=k * aa α:=by rw [List.length_take,List.length_drop];omega
   have mR:h.cN ⟨bb,b * aa α,none⟩ (k * aa α)=some ((cells.drop (b * aa α)).take (k * aa α)):=by
    simp only [AH.cN,ad,ax]
    rw [if_pos (by omega)]
   have fF:((cells.drop (b * aa α)).take (k * aa α)).all Value.oneCell'=true:=((hR.drop b).take k).one
   have bp:AH.store h ⟨bb,a * aa α,none⟩ ((cells.drop (b * aa α)).take (k * aa α))=some (h.put bb (some ⟨cells.take (a * aa α)++((cells.drop (b * aa α)).take (k * aa α)++cells.drop ((a+k) * aa α)),true,aa α⟩)):=by
    simp only [AH.store,ad,ax]
    rw [if_pos ⟨trivial,by rw [du];omega,fF⟩,du,Nat.add_mul,List.append_assoc]
   refine ⟨h.put bb (some ⟨cells.take (a * aa α)++((cells.drop (b * aa α)).take (k * aa α)++cells.drop ((a+k) * aa α)),true,aa α⟩),_,fun e he=>?_,p6,hS.step (q:= .gs (.slice (some ⟨bb,0,none⟩) I c1) _ (aa α)) e7 (fun q hq _=>?_) (.inr ⟨bb,I,c1,rfl,?_,ab,by rw [AH.gQ,if_pos rfl]⟩) (fun q hq=> .inl hq) (Nat.le_refl _) (pe hS.cT (by rw [ad];simp)) (fun x aw ai=>?_)⟩
   ·simp only [aOp,List.map_cons,List.map_nil,he.opv hx,he.opv hy,aBuiltin,aCopy,ae,af,ax,oI,if_neg hk,mR,bp,Option.map_some]
   ·rw [AH.gQ,if_neg (by simpa [Itm.ids] using hq)]
   ·rw [b7,b7,du,List.length_take,List.length_drop]
    rw [Nat.add_mul];omega
   ·rw [AH.lG]
    have:=ai bb (by simp [Itm.ids])
    split<;>omega
theorem xG {e:Int} (h0:0≤e) (h1:e<256):((UInt8.ofNat e.toNat).toNat:Int)=e:=by
 have:e.toNat<256:=by omega
 rw [UInt8.toNat_ofNat',Nat.mod_eq_of_lt this];omega
theorem g6 {e:Int} (h:0≤e∧e<256):rc Z [.int .u8 e] (UInt8.ofNat e.toNat):=by
 show [Value.int .u8 e]=[eT (UInt8.ofNat e.toNat)]
 rw [eT,xG h.1 h.2]
end
section
variable {P:Program} {R:List aR} {k:Nat} {l:KL} {h:AH} {K:KL→AH→Prop} {g:Option (Option Nat×Bool)} {d:Option Nat} {op:Op}
theorem DJ {α γ:Type} {v:Value} {Q:AH→α→γ→Prop} (ho:R[k]?=some ⟨g,d,op⟩) (hg:gon l g) (hx:∃ h' c b,cq P l op h v h'∧Q h' c b) (hk:∀ h' c b,Q h' c b→a6 P R (k+1) (bN l d v) h' K):a6 P R k l h K:=by
 obtain ⟨h',c,b,h1,h2⟩:=hx
 exact bW ho hg h1 (hk h' c b h2)
variable {RF:List br} {base:Nat} {Zs Z Z0:Zn} {lk dU:List (Nat×dq)} {ef:List (Nat×Fp)} {h0:AH} {D:List Nat} {Rv:Nat×Nat} {om:List Nat}
end
end
section
open Go Am
section
variable {P:Program} {c:Code} {l:KL} {h:AH} {N:KL→AH→Prop} {X:dk→KL→AH→Prop} {R:List aR} {k:Nat} {K:KL→AH→Prop}
def lC (c:Code):List aR:=(p0 c).getD []
def mM (c:Code):List aR:=(regOf c).getD []
theorem s0 (hw:a6 P (lC c) 0 l h (fun l h=>W P (cR c) l h N X)) (hc:(p0 c).isSome=true:=by kernel_rfl):W P c l h N X:=by
 obtain ⟨R,hR⟩:=Option.isSome_iff_exists.1 hc
 have:lC c=R:=by unfold lC;rw [hR];rfl
 rw [this] at hw
 exact sr R hw hR
theorem g0 (hw:a6 P (mM c) 0 l h N) (hc:(regOf c).isSome=true:=by kernel_rfl):W P c l h N X:=by
 obtain ⟨R,hR⟩:=Option.isSome_iff_exists.1 hc
 have:mM c=R:=by unfold mM;rw [hR];rfl
 rw [this] at hw
 exact rg R hw hR
def fr (P:Program) (R:List aR) (k m:Nat) (l:KL):KL:=(runP P (R.drop k) m l).getD []
theorem xk (m:Nat) (hr:(runP P (R.drop k) m l).isSome=true) (hk:a6 P R (k+m) (fr P R k m l) h K):a6 P R k l h K:=by
 obtain ⟨q,hq⟩:=Option.isSome_iff_exists.1 hr
 have:fr P R k m l=q:=by unfold fr;rw [hq];rfl
 rw [this] at hk
 exact vw m hq hk
theorem xn (m:Nat) (hk:K (fr P R k m l) h) (hr:(runP P (R.drop k) m l).isSome=true:=by kernel_rfl) (ho:R.length=k+m:=by kernel_rfl):a6 P R k l h K:=xk m hr (r5 ho hk)
theorem sp (m:Nat) (hk:W P (cR c) (fr P (lC c) 0 m l) h N X) (hc:(p0 c).isSome=true:=by kernel_rfl) (hr:(runP P (lC c) m l).isSome=true:=by kernel_rfl) (ho:(lC c).length=m:=by kernel_rfl):W P c l h N X:=
 s0 (xn m hk hr (by rw [ho,Nat.zero_add])) hc
theorem gp (m:Nat) (hk:N (fr P (mM c) 0 m l) h) (hc:(regOf c).isSome=true:=by kernel_rfl) (hr:(runP P (mM c) m l).isSome=true:=by kernel_rfl) (ho:(mM c).length=m:=by kernel_rfl):W P c l h N X:=
 g0 (xn m hk hr (by rw [ho,Nat.zero_add])) hc
def cC (R:List aR) (k:Nat):Option Nat:=(R[k]?).bind (·.d)
def gonB (l:KL):Option (Option Nat×Bool)→Bool
 | none=>true
 | some (some t,w)=>(match lk l t with | some b=>isB w b | none=>false)
 | some (none,_)=>false
theorem mn {l:KL}:∀ {g},gonB l g=true→gon l g
 | none,_=>trivial
 | some (some t,w),q=>by
  simp only [gonB] at q
  cases hl:lk l t with
  | none=>rw [hl] at q;cases q
  | some b=>rw [hl] at q;have:=n4.1 q;subst this;exact hl
 | some (none,_),q=>by cases q
def callAt (R:List aR) (k:Nat) (l:KL):Option (FuncId×List Value):=match R[k]? with
 | some o=>(match gonB l o.g with
  | true=>(match o.op with
   | .call ⟨.value f,c7,_⟩=>(match opv l f,opvs l c7.toList with
    | some (.func (.func fi) a b),some vs=>some (fi,a.toList++vs++b.toList)
    | _,_=>none)
   | _=>none)
  | false=>none)
 | none=>none
theorem nK {f:FuncId} {c7:List Value} {v:Value} {h':AH} (hr:callAt R k l=some (f,c7)) (hc:b5 P f c7 h=some (v,h')) (hk:a6 P R (k+1) (bN l (cC R k) v) h' K):a6 P R k l h K:=by
 unfold callAt at hr
 split at hr
 ·rename_i o ho
  split at hr
  ·rename_i hg
   split at hr
   ·rename_i fo G4 ts ay
    split at hr
    ·rename_i fi a b vs h1 h2
     simp only [Option.some.injEq,Prod.mk.injEq] at hr
     obtain ⟨rfl,rfl⟩:=hr
     obtain ⟨g,d,op⟩:=o
     subst ay
     have hd:cC R k=d:=by unfold cC;rw [ho];rfl
     rw [hd] at hk
     exact bW ho (mn hg) (cr hc h1 h2 rfl) hk
    ·cases hr
   ·cases hr
  ·cases hr
 ·cases hr
def bS (P:Program) (f:FuncId) (c7:List Value) (h:AH) (Z:Zn) (A:List Itm) (Q:Value→Zn→List Itm→Prop):Prop:=
 ∃ v h' Z' A',b5 P f c7 h=some (v,h')∧St h (a2 A) Z (0,0) Z' h' A'∧Q v Z' A'
section
variable {h0:AH} {D:List Nat} {Z0 Z:Zn} {Rv:Nat×Nat} {A B:List Itm} {f:FuncId} {c7:List Value} {Q:Value→Zn→List Itm→Prop}
theorem cA (m:Nat) (hS:St h0 D Z0 Rv Z h A) (hc:Pre Z h A→bS P f c7 h Z A Q) (hk:∀ v h' Z' A',aO Z Z'→St h0 D Z0 Rv Z' h' A'→Q v Z' A'→a6 P R (k+m+1) (bN (fr P R k m l) (cC R (k+m)) v) h' K)
  (hr:(runP P (R.drop k) m l).isSome=true:=by kernel_rfl) (ha:callAt R (k+m) (fr P R k m l)=some (f,c7):=by kernel_rfl):a6 P R k l h K:=by
 obtain ⟨v,h',Z',A',h1,h2,j⟩:=hc hS.pre
 refine xk m hr (nK ha h1 (hk v h' Z' A' h2.ag ?_ j))
 have qW:St h0 D Z0 Rv Z h (A++[]):=by rw [List.append_nil];exact hS
 have:=qW.call h2
 rwa [List.append_nil] at this
theorem c0 (m:Nat) (hS:St h0 D Z0 Rv Z h B) (hc:bS P f c7 h Z [] Q) (hk:∀ v h' Z' A',aO Z Z'→St h0 D Z0 Rv Z' h' (A'++B)→Q v Z' A'→a6 P R (k+m+1) (bN (fr P R k m l) (cC R (k+m)) v) h' K)
  (hr:(runP P (R.drop k) m l).isSome=true:=by kernel_rfl) (ha:callAt R (k+m) (fr P R k m l)=some (f,c7):=by kernel_rfl):a6 P R k l h K:=by
 obtain ⟨v,h',Z',A',h1,h2,j⟩:=hc
 exact xk m hr (nK ha h1 (hk v h' Z' A' h2.ag (St.call (A:=[]) (B:=B) hS h2) j))
theorem cP {Q':Value→Prop} (m:Nat) (hS:St h0 D Z0 Rv Z h B) (hc:∃ v h',b5 P f c7 h=some (v,h')∧St h [] Z (0,0) Z h' []∧Q' v) (hk:∀ v h',St h0 D Z0 Rv Z h' B→Q' v→a6 P R (k+m+1) (bN (fr P R k m l) (cC R (k+m)) v) h' K)
  (hr:(runP P (R.drop k) m l).isSome=true:=by kernel_rfl) (ha:callAt R (k+m) (fr P R k m l)=some (f,c7):=by kernel_rfl):a6 P R k l h K:=by
 obtain ⟨v,h',h1,h2,j⟩:=hc
 exact xk m hr (nK ha h1 (hk v h' (St.call (A:=[]) (B:=B) hS h2) j))
theorem cB (m:Nat) (hS:St h0 D Z0 Rv Z h (A++B)) (hc:Pre Z h A→bS P f c7 h Z A Q) (hk:∀ v h' Z' A',aO Z Z'→St h0 D Z0 Rv Z' h' (A'++B)→Q v Z' A'→a6 P R (k+m+1) (bN (fr P R k m l) (cC R (k+m)) v) h' K)
  (hr:(runP P (R.drop k) m l).isSome=true:=by kernel_rfl) (ha:callAt R (k+m) (fr P R k m l)=some (f,c7):=by kernel_rfl):a6 P R k l h K:=by
 obtain ⟨v,h',Z',A',h1,h2,j⟩:=hc hS.dW
 exact xk m hr (nK ha h1 (hk v h' Z' A' h2.ag (hS.call h2) j))
end
def cmpAt (R:List aR) (k:Nat) (l:KL):Option (BinOp×Value×Value):=match R[k]? with
 | some o=>(match gonB l o.g with
  | true=>(match o.op with
   | .binOp b _ x y _=>(match opv l x,opv l y with | some u,some v=>some (b,u,v) | _,_=>none)
   | _=>none)
  | false=>none)
 | none=>none
theorem gM {b:BinOp} {u v:Value} {w:Bool} (hr:cmpAt R k l=some (b,u,v)) (hv:∀ t,aBin P b t u v=some (.bool w)) (hk:a6 P R (k+1) (bN l (cC R k) (.bool w)) h K):a6 P R k l h K:=by
 unfold cmpAt at hr
 split at hr
 ·rename_i o ho
  split at hr
  ·rename_i hg
   split at hr
   ·rename_i b' t x y t2 ay
    split at hr
    ·rename_i u' v' h1 h2
     simp only [Option.some.injEq,Prod.mk.injEq] at hr
     obtain ⟨rfl,rfl,rfl⟩:=hr
     obtain ⟨g,d,op⟩:=o
     subst ay
     have hd:cC R k=d:=by unfold cC;rw [ho];rfl
     rw [hd] at hk
     exact bW ho (mn hg) (bm h1 h2 (hv _)) hk
    ·cases hr
   ·cases hr
  ·cases hr
 ·cases hr
theorem aT {α:Type} {r:α} {x y:Option α} {a b:Int} (m:Nat) (hm:(if a<b then x else y)=some r) (hT:a<b→x=some r→a6 P R (k+m+1) (bN (fr P R k m l) (cC R (k+m)) (.bool true)) h K) (hF:¬ a<b→y=some r→a6 P R (k+m+1) (bN (fr P R k m l) (cC R (k+m)) (.bool false)) h K) (kd:IntKind:= .i64)
  (hr:(runP P (R.drop k) m l).isSome=true:=by kernel_rfl) (ha:cmpAt R (k+m) (fr P R k m l)=some (.lss, .int kd a, .int kd b):=by kernel_rfl):a6 P R k l h K:=by
 rcases ifs hm with ⟨q,hx⟩ | ⟨q,hx⟩
 ·exact xk m hr (gM ha (fun t=>mq q) (hT q hx))
 ·exact xk m hr (gM ha (fun t=>mJ q) (hF q hx))
theorem e4 {α:Type} {r:α} {x y:Option α} {a b:Int} (m:Nat) (hm:(if a≤b then x else y)=some r) (hT:a≤b→x=some r→a6 P R (k+m+1) (bN (fr P R k m l) (cC R (k+m)) (.bool true)) h K) (hF:¬ a≤b→y=some r→a6 P R (k+m+1) (bN (fr P R k m l) (cC R (k+m)) (.bool false)) h K) (kd:IntKind:= .i64)
  (hr:(runP P (R.drop k) m l).isSome=true:=by kernel_rfl) (ha:cmpAt R (k+m) (fr P R k m l)=some (.leq, .int kd a, .int kd b):=by kernel_rfl):a6 P R k l h K:=by
 rcases ifs hm with ⟨q,hx⟩ | ⟨q,hx⟩
 ·exact xk m hr (gM ha (fun t=>rK q) (hT q hx))
 ·exact xk m hr (gM ha (fun t=>s5 q) (hF q hx))
theorem cZ {α:Type} {r:α} {x y:Option α} {a b:Int} (m:Nat) (hm:(if b<a then x else y)=some r) (hT:b<a→x=some r→a6 P R (k+m+1) (bN (fr P R k m l) (cC R (k+m)) (.bool true)) h K) (hF:¬ b<a→y=some r→a6 P R (k+m+1) (bN (fr P R k m l) (cC R (k+m)) (.bool false)) h K) (kd:IntKind:= .i64)
  (hr:(runP P (R.drop k) m l).isSome=true:=by kernel_rfl) (ha:cmpAt R (k+m) (fr P R k m l)=some (.gtr, .int kd a, .int kd b):=by kernel_rfl):a6 P R k l h K:=by
 rcases ifs hm with ⟨q,hx⟩ | ⟨q,hx⟩
 ·exact xk m hr (gM ha (fun t=>lO q) (hT q hx))
 ·exact xk m hr (gM ha (fun t=>lR q) (hF q hx))
theorem cS {α:Type} {r:α} {x y:Option α} {a b:Int} (m:Nat) (hm:(if b≤a then x else y)=some r) (hT:b≤a→x=some r→a6 P R (k+m+1) (bN (fr P R k m l) (cC R (k+m)) (.bool true)) h K) (hF:¬ b≤a→y=some r→a6 P R (k+m+1) (bN (fr P R k m l) (cC R (k+m)) (.bool false)) h K) (kd:IntKind:= .i64)
  (hr:(runP P (R.drop k) m l).isSome=true:=by kernel_rfl) (ha:cmpAt R (k+m) (fr P R k m l)=some (.geq, .int kd a, .int kd b):=by kernel_rfl):a6 P R k l h K:=by
 rcases ifs hm with ⟨q,hx⟩ | ⟨q,hx⟩
 ·exact xk m hr (gM ha (fun t=>jH q) (hT q hx))
 ·exact xk m hr (gM ha (fun t=>jA q) (hF q hx))
theorem aK {α:Type} {r:α} {x y:Option α} {a b:Int} (m:Nat) (hm:(if a=b then x else y)=some r) (hT:a=b→x=some r→a6 P R (k+m+1) (bN (fr P R k m l) (cC R (k+m)) (.bool true)) h K) (hF:¬ a=b→y=some r→a6 P R (k+m+1) (bN (fr P R k m l) (cC R (k+m)) (.bool false)) h K) (kd:IntKind:= .i64)
  (hr:(runP P (R.drop k) m l).isSome=true:=by kernel_rfl) (ha:cmpAt R (k+m) (fr P R k m l)=some (.eql, .int kd a, .int kd b):=by kernel_rfl):a6 P R k l h K:=by
 rcases ifs hm with ⟨q,hx⟩ | ⟨q,hx⟩
 ·exact xk m hr (gM ha (fun t=>fm q) (hT q hx))
 ·exact xk m hr (gM ha (fun t=>fg q) (hF q hx))
theorem dv {α:Type} {r:α} {x y:Option α} {a b:Int} (m:Nat) (hm:(if a=b then x else y)=some r) (hT:a=b→x=some r→a6 P R (k+m+1) (bN (fr P R k m l) (cC R (k+m)) (.bool false)) h K) (hF:¬ a=b→y=some r→a6 P R (k+m+1) (bN (fr P R k m l) (cC R (k+m)) (.bool true)) h K) (kd:IntKind:= .i64)
  (hr:(runP P (R.drop k) m l).isSome=true:=by kernel_rfl) (ha:cmpAt R (k+m) (fr P R k m l)=some (.neq, .int kd a, .int kd b):=by kernel_rfl):a6 P R k l h K:=by
 rcases ifs hm with ⟨q,hx⟩ | ⟨q,hx⟩
 ·exact xk m hr (gM ha (fun t=>nz q) (hT q hx))
 ·exact xk m hr (gM ha (fun t=>nu q) (hF q hx))
def ldX (R:List aR) (k:Nat) (l:KL):Option (TypeId×Value):=match R[k]? with
 | some o=>(match gonB l o.g with
  | true=>(match o.op with
   | .load t x=>(match opv l x with | some u=>some (t,u) | _=>none)
   | _=>none)
  | false=>none)
 | none=>none
def gP (R:List aR) (k:Nat) (l:KL):TypeId:=match ldX R k l with | some (t,_)=>t | none=>0
def n8 (R:List aR) (k:Nat) (l:KL):Nat:=match ldX R k l with | some (_, .pointer (some a))=>a.off | _=>0
theorem AT {h0:AH} {D:List Nat} {Z0 Z:Zn} {Rv:Nat×Nat} {L:List Itm} {b off i:Nat} {t:TypeId} {cells:List Value} {v:Value} (hS:St h0 D Z0 Rv Z h L) (hi:L[i]?=some (.ae b cells)) (hr:ldX R k l=some (t, .pointer (some ⟨b,off,none⟩))) (hv:ldB P t off cells=some v) (hk:a6 P R (k+1) (bN l (cC R k) v) h K):a6 P R k l h K:=by
 unfold ldX at hr
 split at hr
 ·rename_i o ho
  split at hr
  ·rename_i hg
   split at hr
   ·rename_i t' x ay
    split at hr
    ·rename_i u h1
     simp only [Option.some.injEq,Prod.mk.injEq] at hr
     obtain ⟨rfl,rfl⟩:=hr
     obtain ⟨g,d,op⟩:=o
     subst ay
     have hd:cC R k=d:=by unfold cC;rw [ho];rfl
     rw [hd] at hk
     exact bW ho (mn hg) (FF hS hi h1 hv) hk
    ·cases hr
   ·cases hr
  ·cases hr
 ·cases hr
theorem aD {h0:AH} {D:List Nat} {Z0 Z:Zn} {Rv:Nat×Nat} {L:List Itm} {b:Nat} {cells:List Value} (m i:Nat) (v:Value) (hS:St h0 D Z0 Rv Z h L) (hi:L[i]?=some (.ae b cells)) (hk:a6 P R (k+m+1) (bN (fr P R k m l) (cC R (k+m)) v) h K)
  (hr:(runP P (R.drop k) m l).isSome=true:=by kernel_rfl) (ha:ldX R (k+m) (fr P R k m l)=some (gP R (k+m) (fr P R k m l), .pointer (some ⟨b,n8 R (k+m) (fr P R k m l),none⟩)):=by kernel_rfl) (hv:ldB P (gP R (k+m) (fr P R k m l)) (n8 R (k+m) (fr P R k m l)) cells=some v:=by kernel_rfl):a6 P R k l h K:=
 xk m hr (AT hS hi ha hv hk)
def ph (c:Code) (l:KL):Option Value:=match c with | .cond x _ _=>opv l x | _=>none
theorem q4 {v:Value} (hc:ph c l=some v):∃ x,c= .cond x (cL c) (cR c)∧opv l x=some v:=by
 cases c with
 | cond x a b=>exact ⟨x,rfl,hc⟩
 | _=>cases hc
theorem dT (hw:W P (cL c) l h N X) (hc:ph c l=some (.bool true):=by kernel_rfl):W P c l h N X:=by
 obtain ⟨x,h1,h2⟩:=q4 hc
 exact vU h1 h2 rfl hw
theorem dF (hw:W P (cR c) l h N X) (hc:ph c l=some (.bool false):=by kernel_rfl):W P c l h N X:=by
 obtain ⟨x,h1,h2⟩:=q4 hc
 exact uT h1 h2 rfl hw
theorem db {α:Type} {r:α} {x y:Option α} {b:Bool} (hm:(if b=true then x else y)=some r) (hT:b=true→x=some r→W P (cL c) l h N X) (hF:¬ b=true→y=some r→W P (cR c) l h N X) (hc:ph c l=some (.bool b):=by kernel_rfl):W P c l h N X:=by
 obtain ⟨u,h1,h2⟩:=q4 hc
 cases b with
 | true=>exact vU h1 h2 rfl (hT rfl (by simpa using hm))
 | false=>exact uT h1 h2 rfl (hF (by simp) (by simpa using hm))
theorem tk {t:Nat} (v:Value) {rs:List ResultVar} {vs:List Value} (hr:ResL P l h rs vs) (hv:lk l t=some v:=by kernel_rfl):ResL P l h (.tmp t::rs) (v::vs):=ResL.tmp hv hr
end
end
section
open Go Am
open Cell (rc)
section
variable {P:Program} {c:Code} {l:KL} {h:AH} {N:KL→AH→Prop} {X:dk→KL→AH→Prop} {R:List aR} {k:Nat} {K:KL→AH→Prop}
variable {h0:AH} {D:List Nat} {Z0 Z:Zn} {Rv:Nat×Nat} {L:List Itm} {β:Type} {r:β}
def opA (R:List aR) (k:Nat) (l:KL):Option Op:=match R[k]? with
 | some o=>(match gonB l o.g with | true=>some o.op | false=>none)
 | none=>none
theorem mD {op:Op} {v:Value} {h':AH} (ha:opA R k l=some op) (h1:cq P l op h v h') (hk:a6 P R (k+1) (bN l (cC R k) v) h' K):a6 P R k l h K:=by
 unfold opA at ha
 split at ha
 ·rename_i o ho
  split at ha
  ·rename_i hg
   simp only [Option.some.injEq] at ha
   obtain ⟨g,d,G5⟩:=o
   subst ha
   have hd:cC R k=d:=by unfold cC;rw [ho];rfl
   rw [hd] at hk
   exact bW ho (mn hg) h1 hk
  ·cases ha
 ·cases ha
def alX (P:Program) (R:List aR) (k:Nat) (l:KL):Option (List Value):=match opA R k l with
 | some (.alloc t)=>zeroCells P t
 | some (.box _ x)=>(match opv l x with | some v=>some v.cells.toList | none=>none)
 | _=>none
theorem dt (m:Nat) (cs:List Value) (hS:St h0 D Z0 Rv Z h L) (hk:∀ b h',St h0 D Z0 Rv Z h' (.ae b cs::L)→a6 P R (k+m+1) (bN (fr P R k m l) (cC R (k+m)) (.pointer (some ⟨b,0,none⟩))) h' K)
  (hr:(runP P (R.drop k) m l).isSome=true:=by kernel_rfl) (ha:alX P R (k+m) (fr P R k m l)=some cs:=by kernel_rfl):a6 P R k l h K:=by
 refine xk m hr ?_
 generalize fr P R k m l=l at ha hk
 unfold alX at ha
 split at ha
 ·rename_i t ho
  exact mD ho (sJ ha).run (hk _ _ (hS.alloc cs 0 _ ⟨0,by rw [AH.fe,if_pos rfl]⟩ rfl))
 ·rename_i t x ho
  split at ha
  ·rename_i v hv
   simp only [Option.some.injEq] at ha
   exact mD ho (eK hv ha).run (hk _ _ (hS.alloc cs 0 _ ⟨0,by rw [AH.fe,if_pos rfl]⟩ rfl))
  ·cases ha
 ·cases ha
theorem bF {b:Nat} {cells:List Value} (m:Nat) (v:Value) (hS:St h0 D Z0 Rv Z h L) (hi:Z b=some cells) (hk:a6 P R (k+m+1) (bN (fr P R k m l) (cC R (k+m)) v) h K)
  (hr:(runP P (R.drop k) m l).isSome=true:=by kernel_rfl) (ha:ldX R (k+m) (fr P R k m l)=some (gP R (k+m) (fr P R k m l), .pointer (some ⟨b,n8 R (k+m) (fr P R k m l),none⟩)):=by kernel_rfl) (hv:ldB P (gP R (k+m) (fr P R k m l)) (n8 R (k+m) (fr P R k m l)) cells=some v:=by kernel_rfl):a6 P R k l h K:=by
 refine xk m hr ?_
 generalize gP R (k+m) (fr P R k m l)=t at ha hv
 generalize n8 R (k+m) (fr P R k m l)=off at ha hv
 generalize fr P R k m l=l at ha hk
 unfold ldX at ha
 split at ha
 ·rename_i o ho
  split at ha
  ·rename_i hg
   split at ha
   ·rename_i t' x ay
    split at ha
    ·rename_i u h1
     simp only [Option.some.injEq,Prod.mk.injEq] at ha
     obtain ⟨rfl,rfl⟩:=ha
     obtain ⟨g,d,op⟩:=o
     subst ay
     have hd:cC R (k+m)=d:=by unfold cC;rw [ho];rfl
     rw [hd] at hk
     exact bW ho (mn hg) (zR hS hi h1 hv) hk
    ·cases ha
   ·cases ha
  ·cases ha
 ·cases ha
def lnX (P:Program) (R:List aR) (k:Nat) (l:KL):Option Value:=match opA R k l with
 | some (.call ⟨.builtin .len,⟨[x]⟩,⟨[t]⟩⟩)=>(match P.underlying t with | some (.slice _)=>opv l x | _=>none)
 | _=>none
theorem bC {n:Nat} (m:Nat) (v:Value) (hn:lenOf v=some n) (hk:a6 P R (k+m+1) (bN (fr P R k m l) (cC R (k+m)) (.int .i64 n)) h K)
  (hr:(runP P (R.drop k) m l).isSome=true:=by kernel_rfl) (ha:lnX P R (k+m) (fr P R k m l)=some v:=by kernel_rfl):a6 P R k l h K:=by
 refine xk m hr ?_
 generalize fr P R k m l=l at ha hk
 unfold lnX at ha
 split at ha
 ·rename_i x t ho
  split at ha
  ·rename_i e hu
   exact mD ho (h7 ha hn ⟨e,hu⟩) hk
  ·cases ha
 ·cases ha
def ixX (P:Program) (R:List aR) (k:Nat) (l:KL):Option (Value×Int×Nat):=match opA R k l with
 | some (.indexAddr t x y)=>(match opv l x,opv l y,slTy P t with | some v,some (.int _ i),some s=>some (v,i,s) | _,_,_=>none)
 | _=>none
theorem uC {v:Value} {n s:Nat} {i:Int} (ha:ixX P R k l=some (v,i,s)) (hb:j6 v n) (h1:0≤i) (h2:i<n) (hk:a6 P R (k+1) (bN l (cC R k) (.pointer (some (bw v i s 0)))) h K):a6 P R k l h K:=by
 unfold ixX at ha
 split at ha
 ·rename_i t x y ho
  split at ha
  ·rename_i v' kd i' s' j I J
   simp only [Option.some.injEq,Prod.mk.injEq] at ha
   obtain ⟨rfl,rfl,rfl⟩:=ha
   exact mD ho (bx j I J hb h1 h2) hk
  ·cases ha
 ·cases ha
section
variable {α:Type} [Cell α] {xs:List α} {v:Value} {cells:List Value} {x:Option β} {i:Int}
theorem a8 (m:Nat) (hm:(if 0≤i∧i<(xs.length:Int) then x else none)=some r) (hR:RS Z v xs) (hk:0≤i∧i<(xs.length:Int)→x=some r→a6 P R (k+m+1) (bN (fr P R k m l) (cC R (k+m)) (.pointer (some (bw v i (aa α) 0)))) h K)
  (hr:(runP P (R.drop k) m l).isSome=true:=by kernel_rfl) (ha:ixX P R (k+m) (fr P R k m l)=some (v,i,aa α):=by kernel_rfl):a6 P R k l h K:=by
 obtain ⟨hc,hm⟩:=aH hm
 exact xk m hr (uC ha (hR.cG (by omega)) hc.1 hc.2 (hk hc hm))
theorem eV (m j:Nat) (hm:(if 0≤i∧i<(xs.length:Int) then x else none)=some r) (hS:St h0 D Z0 Rv Z h L) (hR:RCs Z cells xs) (hi:L[j]?=some (.gs v cells (aa α))) (hk:0≤i∧i<(xs.length:Int)→x=some r→a6 P R (k+m+1) (bN (fr P R k m l) (cC R (k+m)) (.pointer (some (bw v i (aa α) 0)))) h K)
  (hr:(runP P (R.drop k) m l).isSome=true:=by kernel_rfl) (ha:ixX P R (k+m) (fr P R k m l)=some (v,i,aa α):=by kernel_rfl):a6 P R k l h K:=by
 obtain ⟨hc,hm⟩:=aH hm
 exact xk m hr (uC ha (hS.bR hi hR (by omega)) hc.1 hc.2 (hk hc hm))
end
theorem eS {v:Value} {i:Int} {s:Nat} {cs:List Value} (m j:Nat) (w:Value) (hE:j4 h v i s cs) (hk:a6 P R (k+m+1) (bN (fr P R k m l) (cC R (k+m)) w) h K)
  (hr:(runP P (R.drop k) m l).isSome=true:=by kernel_rfl) (ha:ldX R (k+m) (fr P R k m l)=some (gP R (k+m) (fr P R k m l), .pointer (some (bw v i s j))):=by kernel_rfl) (hv:ldB P (gP R (k+m) (fr P R k m l)) j cs=some w:=by kernel_rfl):a6 P R k l h K:=by
 refine xk m hr ?_
 generalize gP R (k+m) (fr P R k m l)=t at ha hv
 generalize fr P R k m l=l at ha hk
 unfold ldX at ha
 split at ha
 ·rename_i o ho
  split at ha
  ·rename_i hg
   split at ha
   ·rename_i t' x ay
    split at ha
    ·rename_i u h1
     simp only [Option.some.injEq,Prod.mk.injEq] at ha
     obtain ⟨rfl,rfl⟩:=ha
     obtain ⟨g,d,op⟩:=o
     subst ay
     have hd:cC R (k+m)=d:=by unfold cC;rw [ho];rfl
     rw [hd] at hk
     exact bW ho (mn hg) (bE hE h1 hv) hk
    ·cases ha
   ·cases ha
  ·cases ha
 ·cases ha
class FC (α:Type) [Cell α] where
 fc:α→List Value
 eq:∀ {Z cs x},rc Z cs x→cs=fc x
instance:FC Int:=⟨fun x=>[.int .i64 x],fun q=>q⟩
instance:FC UInt8:=⟨fun x=>[.int .u8 (x.toNat:Int)],fun q=>q⟩
instance:FC Bool:=⟨fun x=>[.bool x],fun q=>q⟩
instance:FC ar:=⟨fun x=>[.string ⟨⟨x.b⟩⟩],fun q=>q⟩
section
variable {α:Type} [Cell α] [FC α] {xs:List α} {v:Value} {cells:List Value} {f:α→Option β} {i:Int}
theorem bt (m j:Nat) (w:α→Value) (hm:(xs[i.toNat]?).bind f=some r) (hR:RS Z v xs) (hS:St h0 D Z0 Rv Z h L) (hk:∀ x,xs[i.toNat]?=some x→f x=some r→a6 P R (k+m+1) (bN (fr P R k m l) (cC R (k+m)) (w x)) h K)
  (hr:(runP P (R.drop k) m l).isSome=true:=by kernel_rfl) (ha:ldX R (k+m) (fr P R k m l)=some (gP R (k+m) (fr P R k m l), .pointer (some (bw v i (aa α) j))):=by kernel_rfl) (hv:∀ x:α,ldB P (gP R (k+m) (fr P R k m l)) j (FC.fc x)=some (w x):=by intro;kernel_rfl):a6 P R k l h K:=by
 obtain ⟨x,hx,hm⟩:=ai hm
 obtain ⟨cs,hc,he⟩:=RS.bV hR (i:=i) hx
 have:=FC.eq hc
 subst this
 exact eS m j (w x) (he _ (hS.bO (aO.refl _))) (hk x hx hm) hr ha (hv x)
theorem fZ (m j n:Nat) (w:α→Value) (hm:(xs[i.toNat]?).bind f=some r) (hS:St h0 D Z0 Rv Z h L) (hR:RCs Z cells xs) (hi:L[n]?=some (.gs v cells (aa α))) (hk:∀ x,xs[i.toNat]?=some x→f x=some r→a6 P R (k+m+1) (bN (fr P R k m l) (cC R (k+m)) (w x)) h K)
  (hr:(runP P (R.drop k) m l).isSome=true:=by kernel_rfl) (ha:ldX R (k+m) (fr P R k m l)=some (gP R (k+m) (fr P R k m l), .pointer (some (bw v i (aa α) j))):=by kernel_rfl) (hv:∀ x:α,ldB P (gP R (k+m) (fr P R k m l)) j (FC.fc x)=some (w x):=by intro;kernel_rfl):a6 P R k l h K:=by
 obtain ⟨x,hx,hm⟩:=ai hm
 obtain ⟨cs,hc,he,_⟩:=hS.cv hi hR hx
 have:=FC.eq hc
 subst this
 exact eS m j (w x) he (hk x hx hm) hr ha (hv x)
end
def cvX (P:Program) (R:List aR) (k:Nat) (l:KL):Option Value:=match opA R k l with
 | some (.convert s d x)=>(match opv l x,cvTy P s d with | some (.int _ n),some k=>some (.int k (k.wrap n)) | _,_=>none)
 | _=>none
theorem eR (m:Nat) (v:Value) (hk:a6 P R (k+m+1) (bN (fr P R k m l) (cC R (k+m)) v) h K)
  (hr:(runP P (R.drop k) m l).isSome=true:=by kernel_rfl) (ha:cvX P R (k+m) (fr P R k m l)=some v:=by kernel_rfl):a6 P R k l h K:=by
 refine xk m hr ?_
 generalize fr P R k m l=l at ha hk
 unfold cvX at ha
 split at ha
 ·rename_i s d x ho
  split at ha
  ·rename_i kd n kk j I
   simp only [Option.some.injEq] at ha
   subst ha
   exact mD ho (Dk j I) hk
  ·cases ha
 ·cases ha
def stX (R:List aR) (k:Nat) (l:KL):Option (TypeId×Value×Value):=match opA R k l with
 | some (.store t x y)=>(match opv l x,opv l y with | some u,some v=>some (t,u,v) | _,_=>none)
 | _=>none
def sZ (R:List aR) (k:Nat) (l:KL):TypeId:=match stX R k l with | some (t,_)=>t | none=>0
def nq (R:List aR) (k:Nat) (l:KL):Nat:=match stX R k l with | some (_, .pointer (some a),_)=>a.off | _=>0
theorem bG {b:Nat} {cells:List Value} (m i:Nat) (v:Value) (vs cO:List Value) (hS:St h0 D Z0 Rv Z h L) (hi:L[i]?=some (.ae b cells)) (fW:lV v=vs) (fF:vs.all Value.oneCell'=true)
  (hk:∀ h',St h0 D Z0 Rv Z h' (L.set i (.ae b cO))→a6 P R (k+m+1) (bN (fr P R k m l) (cC R (k+m)) undef) h' K)
  (hr:(runP P (R.drop k) m l).isSome=true:=by kernel_rfl) (ha:stX R (k+m) (fr P R k m l)=some (sZ R (k+m) (fr P R k m l), .pointer (some ⟨b,nq R (k+m) (fr P R k m l),none⟩),v):=by kernel_rfl)
  (ht:b6 P (sZ R (k+m) (fr P R k m l))=some vs.length:=by kernel_rfl) (hl:Nat.ble (nq R (k+m) (fr P R k m l)+vs.length) cells.length=true:=by kernel_rfl)
  (hc:cells.take (nq R (k+m) (fr P R k m l))++vs++cells.drop (nq R (k+m) (fr P R k m l)+vs.length)=cO:=by kernel_rfl):a6 P R k l h K:=by
 refine xk m hr ?_
 generalize sZ R (k+m) (fr P R k m l)=t at ha ht
 generalize nq R (k+m) (fr P R k m l)=off at ha hl hc
 generalize fr P R k m l=l at ha hk
 unfold stX at ha
 split at ha
 ·rename_i t' x y ho
  split at ha
  ·rename_i u w j I
   simp only [Option.some.injEq,Prod.mk.injEq] at ha
   obtain ⟨rfl,rfl,rfl⟩:=ha
   obtain ⟨h',h1,h2⟩:=gg hS hi j I fW ht fF hl hc rfl
   exact mD ho h1 (hk h' h2)
  ·cases ha
 ·cases ha
theorem sF {b:Bool} (t:Nat) (hb:¬ b=true) (hk:a6 P R k ((t, .bool false)::l) h K) (hl:lk l t=some (.bool b):=by kernel_rfl):a6 P R k l h K:=se hl (Bool.eq_false_iff.2 hb) hk
theorem kb {b:Bool} {x y:Option β} (m t:Nat) (hm:(if b=true then x else y)=some r) (hT:b=true→x=some r→a6 P R (k+m) ((t, .bool true)::fr P R k m l) h K) (hF:¬ b=true→y=some r→a6 P R (k+m) ((t, .bool false)::fr P R k m l) h K)
  (hr:(runP P (R.drop k) m l).isSome=true:=by kernel_rfl) (hl:lk (fr P R k m l) t=some (.bool b):=by kernel_rfl):a6 P R k l h K:=by
 rcases ifs hm with ⟨q,hx⟩ | ⟨q,hx⟩
 ·exact xk m hr (se hl q (hT q hx))
 ·exact xk m hr (se hl (Bool.eq_false_iff.2 q) (hF q hx))
theorem cE {f:FuncId} {c7:List Value} {B:List Itm} {Q':Value→Prop} (m:Nat) (hS:St h0 D Z0 Rv Z h B) (hc:∀ Zl,aO Z Zl→Inv Zl h→(∀ p∈B,bA Zl p)→∃ v h',b5 P f c7 h=some (v,h')∧St h [] Zl (0,0) Zl h' []∧Q' v)
  (hk:∀ v h',St h0 D Z0 Rv Z h' B→Q' v→a6 P R (k+m+1) (bN (fr P R k m l) (cC R (k+m)) v) h' K)
  (hr:(runP P (R.drop k) m l).isSome=true:=by kernel_rfl) (ha:callAt R (k+m) (fr P R k m l)=some (f,c7):=by kernel_rfl):a6 P R k l h K:=by
 obtain ⟨Zl,hz,hI,fb⟩:=hS.kM
 obtain ⟨v,h',h1,h2,j⟩:=hc Zl hz hI fb
 exact xk m hr (nK ha h1 (hk v h' (St.call (A:=[]) (B:=B) hS (St.j9 hz h2)) j))
end
theorem St.eM {h0 h:AH} {D:List Nat} {Z0 Z:Zn} {Rv:Nat×Nat} {L:List Itm} (hS:St h0 D Z0 Rv Z h L):Pre Z h []:=St.dW (A:=[]) (B:=L) hS
def bY (P:Program) (f:FuncId) (c7:List Value) (h:AH) (Z:Zn) (u:Value):Prop:=∃ v h',b5 P f c7 h=some (v,h')∧St h [] Z (0,0) Z h' []∧v=u
theorem b3 {P:Program} {Z:Zn} {h:AH} {A:List Itm} {f:FuncId} {fn:Func} {args:List Value} {Q:Value→Zn→List Itm→Prop} (hf:P.funcs[f]?=some fn) (hP:Pre Z h A)
  (hw:∀ hs,St hs (a2 A) Z (0,0) Z hs A→W P (jd fn) (argsL 0 args) hs (Fin P fn hs A Z Q) (fun x l h1=>x= .ret∧Fin P fn hs A Z Q l h1))
  (hb:fn.body.isSome=true:=by kernel_rfl) (hn:Nat.ble args.length fn.ntmps=true:=by kernel_rfl) (n2:gW P fn=false:=by kernel_rfl):bS P f args h Z A Q:=yx hf hb hn n2 hP hw
theorem b1 {P:Program} {Z:Zn} {h:AH} {f:FuncId} {fn:Func} {args:List Value} {u:Value} (hf:P.funcs[f]?=some fn) (hI:Inv Z h)
  (hw:∀ hs,St hs [] Z (0,0) Z hs []→W P (jd fn) (argsL 0 args) hs (Fin P fn hs [] Z (fun v _ _=>v=u)) (fun x l h=>x= .ret∧Fin P fn hs [] Z (fun v _ _=>v=u) l h))
  (hb:fn.body.isSome=true:=by kernel_rfl) (hn:Nat.ble args.length fn.ntmps=true:=by kernel_rfl):bY P f args h Z u:=Es hf hb hn hI hw
end
end Go.Proofs.YtcilejikekccmaaGreat.Sy
