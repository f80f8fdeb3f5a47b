/- Packed by a program of this session (mini.py). -/
import Derived.Test.YtcilejikekccmaaWo0
import Derived.Laws.Strings
import Derived.Test.YtcilejikekccmaaChecked
import Derived.KernelRfl
import Derived.Deep.Slices
import Derived.ReadAgain
import Derived.ChangeStays
import Derived.ChangeReads
set_option linter.unusedVariables false
set_option linter.unusedSectionVars false
set_option linter.unusedSimpArgs false
namespace Go.Proofs.Ytcilejikekccmaa.Am
open Go
section
variable {P:Program}
def lY (P:Program) (c:Code) (e:Env) (h:AH) (r:cZ×Env×AH):Prop:=∃ n,aCode P (bS P) n c e h=some r
def wp (P:Program) (c:Code) (e:Env) (h:AH) (N:Env→AH→Prop) (X:cZ→Env→AH→Prop):Prop:=
 ∃ x e' h',lY P c e h (x,e',h')∧match x with | .normal=>N e' h' | x=>X x e' h'
theorem wp_mono {c:Code} {e:Env} {h:AH} {N N':Env→AH→Prop} {X X':cZ→Env→AH→Prop} (hw:wp P c e h N X) (hN:∀ e h,N e h→N' e h) (hX:∀ x e h,X x e h→X' x e h):wp P c e h N' X':=by
 obtain ⟨x,e',h',hr,hq⟩:=hw
 refine ⟨x,e',h',hr,?_⟩
 cases x<;>first | exact hN _ _ hq | exact hX _ _ _ hq
theorem wp_skip {e:Env} {h:AH} {N:Env→AH→Prop} {X:cZ→Env→AH→Prop} (hN:N e h):wp P .skip e h N X:=⟨.normal,e,h,⟨1,rfl⟩,hN⟩
theorem wp_label {l:Nat} {e:Env} {h:AH} {N:Env→AH→Prop} {X:cZ→Env→AH→Prop} (hN:N e h):wp P (.label l) e h N X:=⟨.normal,e,h,⟨1,rfl⟩,hN⟩
theorem wp_exit {i:Nat} {e:Env} {h:AH} {N:Env→AH→Prop} {X:cZ→Env→AH→Prop} (hX:X (.exit i) e h):wp P (.exit i) e h N X:=⟨.exit i,e,h,⟨1,rfl⟩,hX⟩
theorem wp_goto {i:Nat} {e:Env} {h:AH} {N:Env→AH→Prop} {X:cZ→Env→AH→Prop} (hX:X (.goto i) e h):wp P (.goto i) e h N X:=⟨.goto i,e,h,⟨1,rfl⟩,hX⟩
theorem wp_ret {e:Env} {h:AH} {N:Env→AH→Prop} {X:cZ→Env→AH→Prop} (hX:X .ret e h):wp P .ret e h N X:=⟨.ret,e,h,⟨1,rfl⟩,hX⟩
theorem wp_seq {a b:Code} {e:Env} {h:AH} {N:Env→AH→Prop} {X:cZ→Env→AH→Prop} (hw:wp P a e h (fun e h=>wp P b e h N X) X):wp P (.seq a b) e h N X:=by
 obtain ⟨x,e1,h1,⟨n,hn⟩,hq⟩:=hw
 cases x with
 | normal=>
  obtain ⟨y,j,h2,⟨m,hm⟩,I⟩:=hq
  refine ⟨y,j,h2,⟨max n m+1,?_⟩,I⟩
  simp only [aCode]
  rw [gW (er.refl _) n (max n m) (Nat.le_max_left _ _) _ _ _ _ hn]
  exact gW (er.refl _) m (max n m) (Nat.le_max_right _ _) _ _ _ _ hm
 | exit i=>exact ⟨.exit i,e1,h1,⟨n+1,by simp only [aCode];rw [hn]⟩,hq⟩
 | goto i=>exact ⟨.goto i,e1,h1,⟨n+1,by simp only [aCode];rw [hn]⟩,hq⟩
 | ret=>exact ⟨.ret,e1,h1,⟨n+1,by simp only [aCode];rw [hn]⟩,hq⟩
theorem wp_cond {x:Operand} {a b:Code} {t:Bool} {e:Env} {h:AH} {N:Env→AH→Prop} {X:cZ→Env→AH→Prop} (hx:e.ev x= .bool t) (h1:t=true→wp P a e h N X) (h2:t=false→wp P b e h N X):wp P (.cond x a b) e h N X:=by
 have hw:wp P (if t then a else b) e h N X:=by cases t<;>first | exact h1 rfl | exact h2 rfl
 obtain ⟨x',e1,h1,⟨n,hn⟩,hq⟩:=hw
 refine ⟨x',e1,h1,⟨n+1,?_⟩,hq⟩
 simp only [aCode,hx]
 exact hn
theorem wp_block {i:Nat} {c:Code} {e:Env} {h:AH} {N:Env→AH→Prop} {X:cZ→Env→AH→Prop} (hw:wp P c e h N (fun x e h=>match x with | .exit j=>if j=i then N e h else X (.exit j) e h | x=>X x e h)):wp P (.block i c) e h N X:=by
 obtain ⟨x,e1,h1,⟨n,hn⟩,hq⟩:=hw
 cases x with
 | normal=>exact ⟨.normal,e1,h1,⟨n+1,by simp only [aCode];rw [hn]⟩,hq⟩
 | exit j=>
  simp only at hq
  by_cases hj:j=i
  ·rw [if_pos hj] at hq
   exact ⟨.normal,e1,h1,⟨n+1,by simp only [aCode];rw [hn];simp only [if_pos hj]⟩,hq⟩
  ·rw [if_neg hj] at hq
   exact ⟨.exit j,e1,h1,⟨n+1,by simp only [aCode];rw [hn];simp only [if_neg hj]⟩,hq⟩
 | goto j=>exact ⟨.goto j,e1,h1,⟨n+1,by simp only [aCode];rw [hn]⟩,hq⟩
 | ret=>exact ⟨.ret,e1,h1,⟨n+1,by simp only [aCode];rw [hn]⟩,hq⟩
theorem yQ {c:Code} {e e1:Env} {h h1:AH} {r} (dJ:lY P c e h (.normal,e1,h1)) (h2:lY P (.loop c) e1 h1 r):lY P (.loop c) e h r:=by
 obtain ⟨n,hn⟩:=dJ
 obtain ⟨m,hm⟩:=h2
 cases m with
 | zero=>cases hm
 | succ m=>
  have Bg:aLoop (aCode P (bS P) m c) m e1 h1=some r:=hm
  have qp:=gW (er.refl _) n (max n m+1) (by omega) _ _ _ _ hn
  have j:=pN (fun e h r q=>gW (er.refl (bS P)) m (max n m+1) (by omega) _ _ _ _ q) m (max n m) (Nat.le_max_right _ _) _ _ _ Bg
  refine ⟨max n m+2,?_⟩
  show aLoop (aCode P (bS P) (max n m+1) c) (max n m+1) e h=some r
  rw [aLoop,qp]
  exact j
theorem rj {c:Code} {e e1:Env} {h h1:AH} {x:cZ} (hx:x≠ .normal) (dJ:lY P c e h (x,e1,h1)):lY P (.loop c) e h (x,e1,h1):=by
 obtain ⟨n,hn⟩:=dJ
 refine ⟨n+2,?_⟩
 show aLoop (aCode P (bS P) (n+1) c) (n+1) e h=_
 rw [aLoop,gW (er.refl _) n (n+1) (by omega) _ _ _ _ hn]
 cases x<;>first | rfl | exact absurd rfl hx
theorem wp_loop {c:Code} {X:cZ→Env→AH→Prop} {N:Env→AH→Prop} (I:Nat→Env→AH→Prop) (hI:∀ m e h,I m e h→wp P c e h (fun e' h'=>∃ k,k<m∧I k e' h') X):∀ (m:Nat) (e:Env) (h:AH),I m e h→wp P (.loop c) e h N X:=by
 intro m
 induction m using Nat.strongRecOn with
 | ind m ih=>
  intro e h hi
  obtain ⟨x,e1,h1,hr,hq⟩:=hI m e h hi
  cases x with
  | normal=>
   obtain ⟨k,hk,eS⟩:=hq
   obtain ⟨y,j,h2,J,U⟩:=ih k hk e1 h1 eS
   exact ⟨y,j,h2,yQ hr J,U⟩
  | exit i=>exact ⟨.exit i,e1,h1,rj (by simp) hr,hq⟩
  | goto i=>exact ⟨.goto i,e1,h1,rj (by simp) hr,hq⟩
  | ret=>exact ⟨.ret,e1,h1,rj (by simp) hr,hq⟩
def wpO (P:Program) (ops:Array Oper):List Oper→Env→AH→(Env→AH→Prop)→Prop
 | [],e,h,K=>K e h
 | o::os,e,h,K=>if b8 ops e o then ∃ v h',aOp P (bS P) e.ev o.op h=some (v,h')∧wpO P ops os (e.put o.dst v) h' K else wpO P ops os (e.put o.dst undef) h K
theorem wM {ops:Array Oper}:∀ (os:List Oper) {e:Env} {h:AH} {K:Env→AH→Prop},wpO P ops os e h K→∃ e' h',aOps P (bS P) ops os e h=some (e',h')∧K e' h':=by
 intro os
 induction os with
 | nil=>intro e h K hk;exact ⟨e,h,rfl,hk⟩
 | cons o os ih=>
  intro e h K hk
  simp only [wpO] at hk
  simp only [aOps]
  split at hk
  ·rename_i hw
   rw [if_pos hw]
   obtain ⟨v,h',ho,hk⟩:=hk
   rw [ho]
   exact ih hk
  ·rename_i hw
   rw [if_neg hw]
   exact ih hk
theorem wp_region {i:Nat} {ops:Array Oper} {e:Env} {h:AH} {N:Env→AH→Prop} {X:cZ→Env→AH→Prop} (hw:wpO P ops ops.toList e h N):wp P (.region i ops false) e h N X:=by
 obtain ⟨e',h',hr,hq⟩:=wM _ hw
 exact ⟨.normal,e',h',⟨1,by simp only [aCode];rw [hr];rfl⟩,hq⟩
def k6 (h h':AH):Prop:=h.next≤h'.next∧(∀ b,b<h.next→h'.ae b=h.ae b)∧(∀ x,x≤h.low→x≤h.next→x≤h'.low)
theorem k6.refl (h:AH):k6 h h:=⟨Nat.le_refl _,fun _ _=>rfl,fun _ q _=>q⟩
theorem k6.trans {a b c:AH} (h:k6 a b) (k:k6 b c):k6 a c:=
 ⟨Nat.le_trans h.1 k.1,fun x hx=>(k.2.1 x (Nat.lt_of_lt_of_le hx h.1)).trans (h.2.1 x hx),fun x q r=>k.2.2 x (h.2.2 x q r) (Nat.le_trans r h.1)⟩
theorem tc {f:FuncId} {fn:Func} {c:Code} {args:List Value} {h:AH} {Q:Value→AH→Prop} (hf:P.funcs[f]?=some fn) (hb:fn.body=some c) (hn:args.length≤fn.ntmps)
  (hw:wp P c (Env.ofArgs 0 args .nil) {h with low:=h.next} (fun e h1=>∃ v,aResults P fn.results.toList e h1=some v∧Q v (e4 (gI P fn) h v h1).2)
   (fun x e h1=>x= .ret∧∃ v,aResults P fn.results.toList e h1=some v∧Q v (e4 (gI P fn) h v h1).2)):
  ∃ v h',bS P f args h=some (v,h')∧Q v h':=by
 obtain ⟨x,e,h1,⟨n,qp⟩,hq⟩:=hw
 obtain ⟨k,hk⟩:=BV n _ _ _ _ qp
 have j:=gW (iY (Nat.le_max_left k n)) n (max k n) (Nat.le_max_right k n) _ _ _ _ hk
 have main:∀ v,(x= .normal∨x= .ret)→aResults P fn.results.toList e h1=some v→bS P f args h=some (v,(e4 (gI P fn) h v h1).2):=by
  intro v hx hv
  refine y5 (k:=max k n+1) ?_
  have eB:iw f args h=none:=rfl
  rw [aCall,eB]
  simp only [hf,hb,Option.bind_some,if_pos hn]
  unfold g9 at j
  rw [j]
  have Ch:(v,(e4 (gI P fn) h v h1).2)=e4 (gI P fn) h v h1:=by unfold e4;split<;>rfl
  rw [Ch]
  rcases hx with rfl | rfl<;>simp only [hv,Option.map_some]
 cases x with
 | normal=>obtain ⟨v,hv,hq⟩:=hq;exact ⟨_,_,main v (.inl rfl) hv,hq⟩
 | exit i=>exact absurd hq.1 (by simp)
 | goto i=>exact absurd hq.1 (by simp)
 | ret=>obtain ⟨_,v,hv,hq⟩:=hq;exact ⟨_,_,main v (.inr rfl) hv,hq⟩
end
end Go.Proofs.Ytcilejikekccmaa.Am
namespace Go.Proofs.Ytcilejikekccmaa.Sy
open Go Am
abbrev KL:=List (Nat×Value)
def lk:KL→Nat→Option Value
 | [],_=>none
 | (u,v)::l,t=>match Nat.beq u t with | true=>some v | false=>lk l t
def bC (l:KL) (d:Option Nat) (v:Value):KL:=match d with | some t=>(t,v)::l | none=>l
def opv (l:KL):Operand→Option Value
 | .tmp t=>lk l t
 | .const v=>some v
 | .func f=>some (.func (.func f) #[] #[])
 | .global _=>none
def cj (e:Env) (l:KL):Prop:=∀ t v,lk l t=some v→e.get t=v
theorem cj.nil (e:Env):cj e []:=fun t v h=>by cases h
theorem cj.set {e:Env} {l:KL} (h:cj e l) (t:Nat) (v:Value):cj (e.set t v) ((t,v)::l):=by
 intro u x hx
 simp only [lk] at hx
 rw [Env.eT]
 cases hb:Nat.beq t u with
 | true=>
  rw [hb] at hx
  have:=Nat.eq_of_beq_eq_true hb
  subst this
  simp only [Option.some.injEq] at hx
  rw [if_pos rfl];exact hx
 | false=>
  rw [hb] at hx
  have bU:t≠u:=Nat.ne_of_beq_eq_false hb
  rw [if_neg (Ne.symm bU)]
  exact h u x hx
theorem cj.bE {e:Env} {l:KL} (h:cj e l) (d:Option Nat) (v:Value):cj (e.put d v) (bC l d v):=by
 cases d with
 | none=>exact h
 | some t=>exact h.set t v
theorem cj.opv {e:Env} {l:KL} (h:cj e l) {x:Operand} {v:Value} (hx:opv l x=some v):e.ev x=v:=by
 cases x with
 | tmp t=>exact h t v hx
 | const c=>simp only [Sy.opv,Option.some.injEq] at hx;exact hx
 | func f=>simp only [Sy.opv,Option.some.injEq] at hx;exact hx
 | global g=>cases hx
def pick (l:KL):List Nat→KL
 | []=>[]
 | t::ts=>match lk l t with | some v=>(t,v)::pick l ts | none=>pick l ts
theorem cj.pick {e:Env} {l:KL} (h:cj e l):∀ (ts:List Nat),cj e (pick l ts):=by
 intro ts
 induction ts with
 | nil=>exact cj.nil e
 | cons t ts ih=>
  simp only [Sy.pick]
  cases hl:lk l t with
  | none=>exact ih
  | some v=>
   intro u x hx
   simp only [lk] at hx
   cases hb:Nat.beq t u with
   | true=>
    rw [hb] at hx
    have:=Nat.eq_of_beq_eq_true hb
    subst this
    simp only [Option.some.injEq] at hx
    subst hx
    exact h t v hl
   | false=>rw [hb] at hx;exact ih u x hx
def argsL:Nat→List Value→KL
 | _,[]=>[]
 | i,v::vs=>(i,v)::argsL (i+1) vs
theorem DX:∀ (vs:List Value) (i t:Nat) (v:Value),lk (argsL i vs) t=some v→i≤t∧vs[t - i]?=some v:=by
 intro vs
 induction vs with
 | nil=>intro i t v h;cases h
 | cons x vs ih=>
  intro i t v h
  simp only [argsL,lk] at h
  cases hb:Nat.beq i t with
  | true=>
   rw [hb] at h
   have:=Nat.eq_of_beq_eq_true hb
   subst this
   simp only [Option.some.injEq] at h
   subst h
   simp
  | false=>
   rw [hb] at h
   have bU:i≠t:=Nat.ne_of_beq_eq_false hb
   obtain ⟨h1,h2⟩:=ih _ _ _ h
   refine ⟨by omega,?_⟩
   have:t - i=(t - (i+1))+1:=by omega
   rw [this,List.getElem?_cons_succ]
   exact h2
theorem cj.args (vs:List Value):cj (Env.ofArgs 0 vs .nil) (argsL 0 vs):=by
 intro t v h
 obtain ⟨_,h2⟩:=DX vs 0 t v h
 rw [Env.uI]
 have bq:t<vs.length:=by
  rcases Nat.lt_or_ge t vs.length with q | q
  ·exact q
  ·rw [Nat.sub_zero,List.getElem?_eq_none q] at h2;cases h2
 rw [if_pos ⟨Nat.zero_le _,by omega⟩]
 simp only [Nat.sub_zero] at h2 ⊢
 rw [List.getD_eq_getElem?_getD,h2]
 rfl
section
variable {P:Program} {c:Code} {l:KL} {h:AH} {N:KL→AH→Prop} {X:cZ→KL→AH→Prop}
def W (P:Program) (c:Code) (l:KL) (h:AH) (N:KL→AH→Prop) (X:cZ→KL→AH→Prop):Prop:=
 ∀ e,cj e l→wp P c e h (fun e' h'=>∃ l',cj e' l'∧N l' h') (fun x e' h'=>∃ l',cj e' l'∧X x l' h')
def cL:Code→Code
 | .seq a _=>a
 | .cond _ a _=>a
 | c=>c
def cR:Code→Code
 | .seq _ b=>b
 | .cond _ _ b=>b
 | c=>c
def cI:Code→Code
 | .block _ c=>c
 | .loop c=>c
 | .scope c=>c
 | c=>c
def iQ (f:Func):Code:=f.body.getD .skip
theorem oW (hc:c= .seq (cL c) (cR c)) (hw:W P (cL c) l h (fun l h=>W P (cR c) l h N X) X):W P c l h N X:=by
 intro e he
 rw [hc]
 refine Am.wp_seq (Am.wp_mono (hw e he) ?_ (fun x e h q=>q))
 rintro e' h' ⟨l',h1,h2⟩
 exact h2 e' h1
theorem Br (hc:c= .skip) (hn:N l h):W P c l h N X:=by subst hc;exact fun e he=>Am.wp_skip ⟨l,he,hn⟩
theorem xD {i:Nat} (hc:c= .exit i) (hn:X (.exit i) l h):W P c l h N X:=by subst hc;exact fun e he=>Am.wp_exit ⟨l,he,hn⟩
theorem A0 (hc:c= .ret) (hn:X .ret l h):W P c l h N X:=by subst hc;exact fun e he=>Am.wp_ret ⟨l,he,hn⟩
theorem tY {x:Operand} {b:Bool} (hc:c= .cond x (cL c) (cR c)) (hx:opv l x=some (.bool b)) (hb:b=true) (hw:W P (cL c) l h N X):W P c l h N X:=by
 intro e he
 rw [hc]
 refine Am.wp_cond (he.opv hx) (fun _=>hw e he) (fun q=>by rw [hb] at q;cases q)
theorem vD {x:Operand} {b:Bool} (hc:c= .cond x (cL c) (cR c)) (hx:opv l x=some (.bool b)) (hb:b=false) (hw:W P (cR c) l h N X):W P c l h N X:=by
 intro e he
 rw [hc]
 refine Am.wp_cond (he.opv hx) (fun q=>by rw [hb] at q;cases q) (fun _=>hw e he)
def blkX (i:Nat) (N:KL→AH→Prop) (X:cZ→KL→AH→Prop):cZ→KL→AH→Prop:=fun x l h=>match x with | .exit j=>if j=i then N l h else X (.exit j) l h | x=>X x l h
theorem aO {i:Nat} (hn:N l h):blkX i N X (.exit i) l h:=by simp only [blkX,if_true];exact hn
theorem hU {i j:Nat} (hj:Nat.beq j i=false) (hn:X (.exit j) l h):blkX i N X (.exit j) l h:=by
 simp only [blkX];rw [if_neg (Nat.ne_of_beq_eq_false hj)];exact hn
theorem a3 {i:Nat} (hn:X .ret l h):blkX i N X .ret l h:=hn
theorem zt {i:Nat} (hc:c= .block i (cI c)) (hw:W P (cI c) l h N (blkX i N X)):W P c l h N X:=by
 intro e he
 rw [hc]
 refine Am.wp_block (Am.wp_mono (hw e he) (fun e h q=>q) ?_)
 rintro x e' h' ⟨l',h1,h2⟩
 cases x with
 | exit j=>
  simp only [blkX] at h2 ⊢
  split at h2
  ·rename_i hj;rw [if_pos hj];exact ⟨l',h1,h2⟩
  ·rename_i hj;rw [if_neg hj];exact ⟨l',h1,h2⟩
 | normal=>exact ⟨l',h1,h2⟩
 | goto j=>exact ⟨l',h1,h2⟩
 | ret=>exact ⟨l',h1,h2⟩
theorem aI (ts:List Nat) (J:KL→AH→Prop) (hj:∀ l h,J l h→N l h) (hw:W P c l h (fun l h=>J (pick l ts) h) X):W P c l h N X:=by
 intro e he
 refine Am.wp_mono (hw e he) ?_ (fun x e h q=>q)
 rintro e' h' ⟨l',h1,h2⟩
 exact ⟨pick l' ts,h1.pick ts,hj _ _ h2⟩
theorem eo (ts:List Nat) (J:KL→AH→Prop) (hc:c= .seq (cL c) (cR c)) (hj:∀ l h,J l h→N l h)
  (hw:W P (cL c) l h (fun l h=>W P (cR c) l h (fun l h=>J (pick l ts) h) X) X):W P c l h N X:=by
 refine oW hc ?_
 intro e he
 refine Am.wp_mono (hw e he) ?_ (fun x e h q=>q)
 rintro e' h' ⟨l',h2,j⟩
 exact ⟨l',h2,aI ts J hj j⟩
theorem Ck (ts:List Nat) (I:Nat→KL→AH→Prop) (m:Nat) (hc:c= .loop (cI c)) (h0:I m (pick l ts) h) (hI:∀ m l h,I m l h→W P (cI c) l h (fun l' h'=>∃ k,k<m∧I k (pick l' ts) h') X):W P c l h N X:=by
 intro e he
 rw [hc]
 refine Am.wp_loop (fun m e h=>∃ l,cj e l∧I m l h) ?_ m e h ⟨pick l ts,he.pick ts,h0⟩
 rintro m e h ⟨l,he,hi⟩
 refine Am.wp_mono (hI m l h hi e he) ?_ (fun x e h q=>q)
 rintro e' h' ⟨l',h1,k,h2,j⟩
 exact ⟨k,h2,pick l' ts,h1.pick ts,j⟩
end
structure aN where
 g:Option (Option Nat×Bool)
 d:Option Nat
 op:Op
def p8 (ops:Array Oper) (o:Oper):aN:=⟨o.guard.map fun x=>((ops[x.1]?).bind (·.dst),x.2),o.dst,o.op⟩
def regOf:Code→Option (List aN)
 | .region _ ops false=>some (ops.toList.map (p8 ops))
 | _=>none
def wpE (P:Program):List aN→Env→AH→(Env→AH→Prop)→Prop
 | [],e,h,K=>K e h
 | o::os,e,h,K=>
  match o.g with
  | none=>∃ v h',aOp P (bS P) e.ev o.op h=some (v,h')∧wpE P os (e.put o.d v) h' K
  | some (t,w)=>∃ j,t=some j∧((e.get j= .bool w∧∃ v h',aOp P (bS P) e.ev o.op h=some (v,h')∧wpE P os (e.put o.d v) h' K)∨(e.get j≠ .bool w∧wpE P os (e.put o.d undef) h K))
section
variable {P:Program}
theorem vH {ops:Array Oper} {e:Env} {o:Oper} {I j:Nat} {w:Bool} (hg:o.guard=some (I,w)) (hj:(ops[I]?).bind (·.dst)=some j):b8 ops e o=true↔e.get j= .bool w:=by
 simp only [b8,hg,aYield]
 rw [hj]
 simp only
 cases hv:e.get j with
 | bool b=>cases b<;>cases w<;>simp
 | _=>simp
theorem CR {ops:Array Oper}:∀ (os:List Oper) {h:AH} {K:Env→AH→Prop} {e:Env},wpE P (os.map (p8 ops)) e h K→wpO P ops os e h K:=by
 intro os
 induction os with
 | nil=>intro h K e hw;exact hw
 | cons o os ih=>
  intro h K e hw
  simp only [List.map_cons,wpE,p8] at hw
  simp only [wpO]
  cases hg:o.guard with
  | none=>
   rw [hg] at hw
   simp only [Option.map_none] at hw
   obtain ⟨v,h',h1,h2⟩:=hw
   have kK:b8 ops e o=true:=by simp only [b8,hg]
   rw [if_pos kK]
   exact ⟨v,h',h1,ih h2⟩
  | some g=>
   obtain ⟨I,w⟩:=g
   rw [hg] at hw
   simp only [Option.map_some] at hw
   obtain ⟨j,hj,hw⟩:=hw
   have hy:b8 ops e o=true↔e.get j= .bool w:=vH hg hj
   rcases hw with ⟨hb,v,h',h1,h2⟩ | ⟨hb,h2⟩
   ·rw [if_pos (hy.2 hb)]
    exact ⟨v,h',h1,ih h2⟩
   ·rw [if_neg (fun q=>hb (hy.1 q))]
    exact ih h2
def aW (P:Program) (R:List aN) (k:Nat) (l:KL) (h:AH) (K:KL→AH→Prop):Prop:=∀ e,cj e l→wpE P (R.drop k) e h (fun e' h'=>∃ l',cj e' l'∧K l' h')
theorem sE {c:Code} {R:List aN} {l:KL} {h:AH} {N:KL→AH→Prop} {X:cZ→KL→AH→Prop} (hc:regOf c=some R) (hw:aW P R 0 l h N):W P c l h N X:=by
 intro e he
 cases c with
 | region i ops d=>
  cases d with
  | false=>
   simp only [regOf,Option.some.injEq] at hc
   subst hc
   exact Am.wp_region (CR _ (hw e he))
  | true=>cases hc
 | _=>cases hc
def gon (l:KL):Option (Option Nat×Bool)→Prop
 | none=>True
 | some (some t,w)=>lk l t=some (.bool w)
 | some (none,_)=>False
variable {R:List aN} {k:Nat} {l l':KL} {h h':AH} {K:KL→AH→Prop} {g:Option (Option Nat×Bool)} {d:Option Nat} {op:Op}
theorem lC {α:Type}:∀ {R:List α} {k:Nat} {o:α},R[k]?=some o→R.drop k=o::R.drop (k+1):=by
 intro R k o h
 obtain ⟨h1,h2⟩:=List.getElem?_eq_some_iff.1 h
 rw [← h2]
 exact List.drop_eq_getElem_cons h1
def b5 (P:Program) (l:KL) (op:Op) (h:AH) (v:Value) (h':AH):Prop:=∀ e,cj e l→aOp P (bS P) e.ev op h=some (v,h')
def gr (P:Program) (l:KL) (op:Op) (f:gB):Prop:=AP op=true∧∀ e,cj e l→aFresh P e.ev op=some f
theorem gr.run {f:gB} (hf:gr P l op f):b5 P l op h (f.1 h.next) (h.alloc f.2.1 f.2.2):=by
 obtain ⟨h1,h2⟩:=hf
 intro e he
 have:=h2 e he
 cases op with
 | alloc t=>simp only [aFresh] at this;simp only [aOp,this];rfl
 | box t x=>simp only [aFresh] at this;simp only [aOp,this];rfl
 | buildSlice t n ps=>simp only [aFresh] at this;simp only [aOp,this];rfl
 | makeSlice t a b=>simp only [aFresh] at this;simp only [aOp,this];rfl
 | _=>cases h1
theorem bT (ho:R[k]?=some ⟨g,d,op⟩) (hg:gon l g) {v:Value} (h1:b5 P l op h v h') (hk:aW P R (k+1) (bC l d v) h' K):aW P R k l h K:=by
 intro e he
 rw [lC ho]
 simp only [wpE]
 have hx:=hk (e.put d v) (he.bE d v)
 match g,hg with
 | none,_=>exact ⟨v,h',h1 e he,hx⟩
 | some (some t,w),hg=>exact ⟨t,rfl, .inl ⟨he t _ hg,v,h',h1 e he,hx⟩⟩
theorem jC {α:Type} {v:Value} {Q:AH→α→Prop} (ho:R[k]?=some ⟨g,d,op⟩) (hg:gon l g) (hx:∃ h' c,b5 P l op h v h'∧Q h' c) (hk:∀ h' c,Q h' c→aW P R (k+1) (bC l d v) h' K):aW P R k l h K:=by
 obtain ⟨h',c,h1,h2⟩:=hx
 exact bT ho hg h1 (hk h' c h2)
theorem eY {α:Type} {Q:Value→α→AH→Prop} (ho:R[k]?=some ⟨g,d,op⟩) (hg:gon l g) (hx:∃ v c h',b5 P l op h v h'∧Q v c h') (hk:∀ v c h',Q v c h'→aW P R (k+1) (bC l d v) h' K):aW P R k l h K:=by
 obtain ⟨v,c,h',h1,h2⟩:=hx
 exact bT ho hg h1 (hk v c h' h2)
theorem kT {Q:Value→Prop} (ho:R[k]?=some ⟨g,d,op⟩) (hg:gon l g) (hx:∃ v,b5 P l op h v h∧Q v) (hk:∀ v,Q v→aW P R (k+1) (bC l d v) h K):aW P R k l h K:=by
 obtain ⟨v,h1,h2⟩:=hx
 exact bT ho hg h1 (hk v h2)
theorem qI (ho:R.length=k) (hk:K l h):aW P R k l h K:=by
 intro e he
 rw [List.drop_eq_nil_of_le (by omega)]
 exact ⟨l,he,hk⟩
theorem rm {t:Nat} {b w:Bool} (hl:lk l t=some (.bool b)) (hb:b=w) (hk:aW P R k ((t, .bool w)::l) h K):aW P R k l h K:=by
 intro e he
 subst hb
 refine hk e fun u v hu=>?_
 simp only [lk] at hu
 cases hx:Nat.beq t u with
 | true=>
  rw [hx] at hu
  have:=Nat.eq_of_beq_eq_true hx
  subst this
  simp only [Option.some.injEq] at hu
  subst hu
  exact he t _ hl
 | false=>rw [hx] at hu;exact he u v hu
theorem uo (ts:List Nat) (hp:Sy.pick l ts=l') (hk:aW P R k l' h K):aW P R k l h K:=by
 subst hp
 exact fun e he=>hk e (he.pick ts)
def opvs (l:KL):List Operand→Option (List Value)
 | []=>some []
 | x::xs=>match opv l x with | some v=>(match opvs l xs with | some vs=>some (v::vs) | none=>none) | none=>none
theorem iE {e:Env} (he:cj e l):∀ (xs:List Operand) {vs:List Value},opvs l xs=some vs→xs.map e.ev=vs:=by
 intro xs
 induction xs with
 | nil=>intro vs h;simp only [opvs,Option.some.injEq] at h;subst h;rfl
 | cons x xs ih=>
  intro vs h
  simp only [opvs] at h
  cases h1:opv l x with
  | none=>rw [h1] at h;cases h
  | some v=>
   rw [h1] at h
   cases h2:opvs l xs with
   | none=>rw [h2] at h;cases h
   | some ws=>
    rw [h2] at h
    simp only [Option.some.injEq] at h
    subst h
    rw [List.map_cons,he.opv h1,ih h2]
def pureV (P:Program) (l:KL):Op→Option Value
 | .move x | .assign x=>opv l x
 | .pick c a b=>match opv l c with | some (.bool true)=>opv l a | some (.bool false)=>opv l b | _=>none
 | .nilCheck x=>match opv l x with | some (.pointer (some a))=>some (.pointer (some a)) | some (.func (.func f) fi ca)=>some (.func (.func f) fi ca) | _=>none
 | .binOp o t x y _=>match opv l x,opv l y with | some a,some b=>aBin P o t a b | _,_=>none
 | .unOp o _ x=>match opv l x with | some a=>aUn o a | _=>none
 | .makeInterface t x=>match P.underlying t,opv l x with | some (.interface _),_=>none | some _,some v=>some (.iface t v) | _,_=>none
 | .makeFunc (.func f) fi ca=>match opvs l fi.toList,opvs l ca.toList with | some a,some b=>some (.func (.func f) a.toArray b.toArray) | _,_=>none
 | .fieldAddr s x f=>match opv l x with | some a=>aField P s f a | _=>none
 | .field t x f=>match opv l x with | some a=>aFieldV P t f a | _=>none
 | .typeAssert x _ t ok=>match opv l x with | some a=>aAssert P a t ok | _=>none
 | .extract x i=>match opv l x with | some (.tuple vs)=>vs[i]? | _=>none
 | .build t ps=>match opvs l (ps.toList.map (·.2)) with | some vs=>aBuild P t ((ps.toList.map (·.1)).zip vs) | _=>none
 | .slice t x lo hi mx=>match opv l x,(match lo with | none=>some none | some y=>(opv l y).map some),(match hi with | none=>some none | some y=>(opv l y).map some),(match mx with | none=>some none | some y=>(opv l y).map some) with
  | some a,some b,some c,some d=>aSlice P t a b c d
  | _,_,_,_=>none
 | .call c=>match c.callee,c.argTypes.toList,opvs l c.args.toList with
  | .builtin .len,t::_,some (x::_)=>aLen P t x
  | .builtin .max,_,some (x::vs)=>aMax x vs
  | .builtin .min,_,some (x::vs)=>jv x vs
  | _,_,_=>none
 | _=>none
theorem qf {e:Env} (he:cj e l) {v:Value} (hv:pureV P l op=some v):aOp P (bS P) e.ev op h=some (v,h):=by
 cases op with
 | move x=>simp only [pureV] at hv;simp only [aOp,he.opv hv]
 | assign x=>simp only [pureV] at hv;simp only [aOp,he.opv hv]
 | pick c a b=>
  simp only [pureV] at hv
  split at hv
  ·rename_i hc;simp only [aOp,he.opv hc,he.opv hv,if_true]
  ·rename_i hc;simp only [aOp,he.opv hc,he.opv hv];rfl
  ·cases hv
 | nilCheck x=>
  simp only [pureV] at hv
  split at hv
  ·rename_i hc;simp only [Option.some.injEq] at hv;subst hv;simp only [aOp,he.opv hc]
  ·rename_i hc;simp only [Option.some.injEq] at hv;subst hv;simp only [aOp,he.opv hc]
  ·cases hv
 | binOp o t x y t2=>
  simp only [pureV] at hv
  split at hv
  ·rename_i a b h1 h2;simp only [aOp,he.opv h1,he.opv h2,hv,Option.map_some]
  ·cases hv
 | unOp o t x=>
  simp only [pureV] at hv
  split at hv
  ·rename_i a h1;simp only [aOp,he.opv h1,hv,Option.map_some]
  ·cases hv
 | makeInterface t x=>
  simp only [pureV] at hv
  split at hv
  ·cases hv
  ·rename_i d y hd h1 hn
   simp only [Option.some.injEq] at hv
   subst hv
   simp only [aOp,he.opv hn,h1]
  ·cases hv
 | makeFunc fn fi ca=>
  cases fn with
  | func f=>
   simp only [pureV] at hv
   split at hv
   ·rename_i a b h1 h2
    simp only [Option.some.injEq] at hv
    subst hv
    simp only [aOp]
    congr 3
    ·rw [← iE he _ h1,← Array.toList_map,Array.toArray_toList]
    ·rw [← iE he _ h2,← Array.toList_map,Array.toArray_toList]
   ·cases hv
  | _=>cases hv
 | fieldAddr s x f=>
  simp only [pureV] at hv
  split at hv
  ·rename_i a h1;simp only [aOp,he.opv h1,hv,Option.map_some]
  ·cases hv
 | field s x f=>
  simp only [pureV] at hv
  split at hv
  ·rename_i a h1;simp only [aOp,he.opv h1,hv,Option.map_some]
  ·cases hv
 | typeAssert x s t ok=>
  simp only [pureV] at hv
  split at hv
  ·rename_i a h1;simp only [aOp,he.opv h1,hv,Option.map_some]
  ·cases hv
 | extract x i=>
  simp only [pureV] at hv
  split at hv
  ·rename_i a h1;simp only [aOp,he.opv h1,hv,Option.map_some]
  ·cases hv
 | build t ps=>
  simp only [pureV] at hv
  split at hv
  ·rename_i vs h1
   have h2:=iE he _ h1
   simp only [aOp]
   have:(ps.toList.map fun p=>(p.1,e.ev p.2))=(ps.toList.map (·.1)).zip vs:=by
    rw [← h2,List.map_map,List.zip_map',];rfl
   rw [this,hv];rfl
  ·cases hv
 | slice t x lo hi mx=>
  simp only [pureV] at hv
  split at hv
  ·rename_i a b c d h1 h2 I J
   have hm:∀ {y:Option Operand} {r:Option Value},(match y with | none=>some none | some y=>(opv l y).map some)=some r→y.map e.ev=r:=by
    intro y r hr
    cases y with
    | none=>simp only [Option.some.injEq] at hr;subst hr;rfl
    | some y=>
     cases j:opv l y with
     | none=>simp [j] at hr
     | some u=>simp only [j,Option.map_some,Option.some.injEq] at hr;subst hr;rw [Option.map_some,he.opv j]
   simp only [aOp,he.opv h1,hm h2,hm I,hm J,hv,Option.map_some]
  ·cases hv
 | call c=>
  simp only [pureV] at hv
  split at hv
  ·rename_i t ts x xs hc ht ha
   simp only [aOp,hc,ht,iE he _ ha,aBuiltin,hv,Option.map_some]
  ·rename_i t x xs hc ht
   simp only [aOp,hc,iE he _ ht,aBuiltin,hv,Option.map_some]
  ·rename_i t x xs hc ht
   simp only [aOp,hc,iE he _ ht,aBuiltin,hv,Option.map_some]
  ·cases hv
 | _=>cases hv
def isB (w:Bool):Value→Bool
 | .bool b=>(match w with | true=>b | false=>!b)
 | _=>false
theorem nT {w:Bool} {v:Value}:isB w v=true↔v= .bool w:=by
 cases v with
 | bool b=>cases w<;>cases b<;>simp [isB]
 | _=>simp [isB]
def runP (P:Program):List aN→Nat→KL→Option KL
 | _,0,l=>some l
 | [],_+1,_=>none
 | o::os,m+1,l=>
  match o.g with
  | none=>match pureV P l o.op with | some v=>runP P os m (bC l o.d v) | none=>none
  | some (some t,w)=>(match lk l t with
   | some b=>(match isB w b with
    | true=>(match pureV P l o.op with | some v=>runP P os m (bC l o.d v) | none=>none)
    | false=>runP P os m (bC l o.d undef))
   | none=>none)
  | some (none,_)=>none
theorem E0:∀ (m:Nat) {R:List aN} {l l':KL} {h:AH} {K:Env→AH→Prop} {e:Env},runP P R m l=some l'→cj e l→(∀ e',cj e' l'→wpE P (R.drop m) e' h K)→wpE P R e h K:=by
 intro m
 induction m with
 | zero=>
  intro R l l' h K e hr he hk
  simp only [runP,Option.some.injEq] at hr
  subst hr
  exact hk e he
 | succ m ih=>
  intro R l l' h K e hr he hk
  cases R with
  | nil=>cases hr
  | cons o os=>
   obtain ⟨g,d,op⟩:=o
   simp only [runP] at hr
   simp only [wpE]
   match g,hr with
   | none,hr=>
    simp only at hr
    cases hv:pureV P l op with
    | none=>rw [hv] at hr;cases hr
    | some v=>rw [hv] at hr;exact ⟨v,h,qf he hv,ih hr (he.bE _ _) hk⟩
   | some (some t,w),hr=>
    simp only at hr
    cases hl:lk l t with
    | none=>rw [hl] at hr;cases hr
    | some b=>
     rw [hl] at hr
     simp only at hr
     cases hb:isB w b with
     | true=>
      rw [hb] at hr
      cases hv:pureV P l op with
      | none=>rw [hv] at hr;cases hr
      | some v=>
       rw [hv] at hr
       refine ⟨t,rfl, .inl ⟨?_,v,h,qf he hv,ih hr (he.bE _ _) hk⟩⟩
       rw [he t _ hl]
       exact nT.1 hb
     | false=>
      rw [hb] at hr
      refine ⟨t,rfl, .inr ⟨fun q=>?_,ih hr (he.bE _ _) hk⟩⟩
      rw [he t _ hl] at q
      rw [nT.2 q] at hb
      cases hb
   | some (none,_),hr=>cases hr
theorem uV (m:Nat) (hr:runP P (R.drop k) m l=some l') (hk:aW P R (k+m) l' h K):aW P R k l h K:=by
 intro e he
 refine E0 m hr he fun e' nz=>?_
 have:=hk e' nz
 rw [List.drop_drop]
 rwa [Nat.add_comm] at this ⊢
end
end Go.Proofs.Ytcilejikekccmaa.Sy
namespace Go.Proofs.Ytcilejikekccmaa.Sy
open Go Am
abbrev Zn:=Nat→Option (List Value)
def aM (Z Z':Zn):Prop:=∀ b cs,Z b=some cs→Z' b=some cs
theorem aM.refl (Z:Zn):aM Z Z:=fun _ _ h=>h
theorem aM.trans {A B C:Zn} (h:aM A B) (k:aM B C):aM A C:=fun _ _ q=>k _ _ (h _ _ q)
class Cell (α:Type) where
 size:Nat
 rc:Zn→List Value→α→Prop
 len:∀ {Z cs x},rc Z cs x→cs.length=size
 mono:∀ {Z Z' cs x},aM Z Z'→rc Z cs x→rc Z' cs x
 one:∀ {Z cs x},rc Z cs x→cs.all Value.oneCell'=true
 pos:0<size
open Cell (rc)
abbrev aa (α:Type) [Cell α]:Nat:=Cell.size α
section
variable {α:Type} [Cell α] {Z Z':Zn}
def RCs (Z:Zn):List Value→List α→Prop
 | cells,[]=>cells=[]
 | cells,x::xs=>∃ cs rest,cells=cs++rest∧rc Z cs x∧RCs Z rest xs
theorem RCs.length {xs:List α}:∀ {cells},RCs Z cells xs→cells.length=xs.length * aa α:=by
 induction xs with
 | nil=>intro cells h;simp only [RCs] at h;subst h;simp
 | cons x xs ih=>
  rintro cells ⟨cs,rest,rfl,h1,h2⟩
  rw [List.length_append,Cell.len h1,ih h2,List.length_cons,Nat.add_mul,Nat.one_mul,Nat.add_comm]
theorem RCs.mono (hz:aM Z Z') {xs:List α}:∀ {cells},RCs Z cells xs→RCs Z' cells xs:=by
 induction xs with
 | nil=>intro cells h;exact h
 | cons x xs ih=>
  rintro cells ⟨cs,rest,rfl,h1,h2⟩
  exact ⟨cs,rest,rfl,Cell.mono hz h1,ih h2⟩
theorem RCs.one {xs:List α}:∀ {cells},RCs Z cells xs→cells.all Value.oneCell'=true:=by
 induction xs with
 | nil=>intro cells h;simp only [RCs] at h;subst h;rfl
 | cons x xs ih=>
  rintro cells ⟨cs,rest,rfl,h1,h2⟩
  rw [List.all_append,Cell.one h1,ih h2];rfl
theorem RCs.append {xs ys:List α}:∀ {c1 c2},RCs Z c1 xs→RCs Z c2 ys→RCs Z (c1++c2) (xs++ys):=by
 induction xs with
 | nil=>intro c1 c2 h1 h2;simp only [RCs] at h1;subst h1;exact h2
 | cons x xs ih=>
  rintro c1 c2 ⟨cs,rest,rfl,h1,h2⟩ j
  exact ⟨cs,rest++c2,by rw [List.append_assoc],h1,ih h2 j⟩
theorem RCs.single {cs:List Value} {x:α} (h:rc Z cs x):RCs Z cs [x]:=⟨cs,[],by simp,h,rfl⟩
theorem RCs.cons {cs rest:List Value} {x:α} {xs:List α} (h:rc Z cs x) (h2:RCs Z rest xs):RCs Z (cs++rest) (x::xs):=⟨cs,rest,rfl,h,h2⟩
theorem RCs.nil:RCs Z [] ([]:List α):=rfl
theorem RCs.drop {xs:List α}:∀ {cells} (k:Nat),RCs Z cells xs→RCs Z (cells.drop (k * aa α)) (xs.drop k):=by
 induction xs with
 | nil=>intro cells k h;simp only [RCs] at h;subst h;simp [RCs]
 | cons x xs ih=>
  intro cells k h
  cases k with
  | zero=>simpa using h
  | succ k=>
   obtain ⟨cs,rest,rfl,h1,h2⟩:=h
   have hl:=Cell.len h1
   rw [Nat.succ_mul,List.drop_succ_cons,Nat.add_comm,List.drop_append,List.drop_eq_nil_of_le (by show cs.length≤Cell.size α+k * Cell.size α;omega)]
   have:aa α+k * aa α - cs.length=k * aa α:=by show Cell.size α+k * Cell.size α - cs.length=k * Cell.size α;omega
   rw [this]
   exact ih k h2
theorem RCs.take {xs:List α}:∀ {cells} (k:Nat),RCs Z cells xs→RCs Z (cells.take (k * aa α)) (xs.take k):=by
 induction xs with
 | nil=>intro cells k h;simp only [RCs] at h;subst h;simp [RCs]
 | cons x xs ih=>
  intro cells k h
  cases k with
  | zero=>simp [RCs]
  | succ k=>
   obtain ⟨cs,rest,rfl,h1,h2⟩:=h
   have hl:=Cell.len h1
   rw [Nat.succ_mul,List.take_succ_cons,Nat.add_comm,List.take_append,List.take_of_length_le (by show cs.length≤Cell.size α+k * Cell.size α;omega)]
   have:aa α+k * aa α - cs.length=k * aa α:=by show Cell.size α+k * Cell.size α - cs.length=k * Cell.size α;omega
   rw [this]
   exact ⟨cs,_,rfl,h1,ih k h2⟩
theorem RCs.elem {xs:List α}:∀ {cells} {i:Nat} {x:α},RCs Z cells xs→xs[i]?=some x→∃ cs,rc Z cs x∧(cells.drop (i * aa α)).take (aa α)=cs:=by
 induction xs with
 | nil=>intro cells i x h hx;simp at hx
 | cons y xs ih=>
  rintro cells i x ⟨cs,rest,rfl,h1,h2⟩ hx
  have hl:cs.length=aa α:=Cell.len h1
  cases i with
  | zero=>
   simp at hx;subst hx
   refine ⟨cs,h1,?_⟩
   simp [← hl]
  | succ i=>
   simp only [List.getElem?_cons_succ] at hx
   obtain ⟨aZ,j,I⟩:=ih h2 hx
   refine ⟨aZ,j,?_⟩
   rw [← I,Nat.succ_mul,Nat.add_comm,List.drop_append,List.drop_eq_nil_of_le (by omega),List.nil_append,← hl]
   congr 2
   omega
theorem RCs.bE {xs:List α}:∀ {cells} {i:Nat} {x x':α} {aZ},RCs Z cells xs→xs[i]?=some x→rc Z aZ x'→RCs Z (cells.take (i * aa α)++aZ++cells.drop (i * aa α+aa α)) (xs.set i x'):=by
 intro cells i x x' aZ h hx h'
 have hi:i<xs.length:=by
  rcases Nat.lt_or_ge i xs.length with q | q
  ·exact q
  ·rw [List.getElem?_eq_none q] at hx;cases hx
 have h1:=h.take i
 have h2:=h.drop (i+1)
 have he:xs.set i x'=xs.take i++[x']++xs.drop (i+1):=by
  rw [List.set_eq_take_append_cons_drop,if_pos hi];simp
 rw [he]
 have j:i * aa α+aa α=(i+1) * aa α:=by rw [Nat.add_mul,Nat.one_mul]
 rw [j]
 exact (h1.append (RCs.single h')).append h2
def RS (Z:Zn) (v:Value) (xs:List α):Prop:=
 ∃ a c,v= .slice a xs.length c∧xs.length≤c∧match a with
  | none=>xs=[]
  | some a=>a.spot=none∧∃ all,Z a.block=some all∧a.off+xs.length * aa α≤all.length∧RCs Z ((all.drop a.off).take (xs.length * aa α)) xs
theorem RS.mono (hz:aM Z Z') {v:Value} {xs:List α} (h:RS Z v xs):RS Z' v xs:=by
 obtain ⟨a,c,h1,h2,j⟩:=h
 refine ⟨a,c,h1,h2,?_⟩
 cases a with
 | none=>exact j
 | some a=>
  obtain ⟨I,all,J,U,aa⟩:=j
  exact ⟨I,all,hz _ _ J,U,aa.mono hz⟩
end
inductive Itm where
 | ae (b:Nat) (cells:List Value)
 | gs (v:Value) (cells:List Value) (s:Nat)
 | bF (bs:List (Nat×List Value×Nat))
namespace Itm
def ids:Itm→List Nat
 | .ae b _=>[b]
 | .gs v _ _=>match v with | .slice (some a) _ _=>[a.block] | _=>[]
 | .bF bs=>bs.map (·.1)
def ok (h:AH):Itm→Prop
 | .ae b cells=>∃ z,h.ae b=some ⟨cells,true,z⟩
 | .gs v cells s=>(v= .slice none 0 0∧cells=[])∨∃ b n c,v= .slice (some ⟨b,0,none⟩) n c∧n * s=cells.length∧(c=n∨c=n+1)∧h.ae b=some ⟨cells,true,s⟩
 | .bF bs=>(bs.map (·.1)).Nodup∧∀ x∈bs,h.ae x.1=some ⟨x.2.1,true,x.2.2⟩
theorem r2 {h:AH} {p:Itm} (hp:p.ok h) {b:Nat} (hb:b∈p.ids):∃ B,h.ae b=some B∧B.own=true:=by
 cases p with
 | ae c cells=>simp only [ids,List.mem_singleton] at hb;subst hb;obtain ⟨z,hz⟩:=hp;exact ⟨_,hz,rfl⟩
 | gs v cells s=>
  rcases hp with ⟨rfl,rfl⟩ | ⟨c,n,k,rfl,h1,h2,j⟩
  ·simp [ids] at hb
  ·simp only [ids,List.mem_singleton] at hb;subst hb;exact ⟨_,j,rfl⟩
 | bF bs=>
  simp only [ids,List.mem_map] at hb
  obtain ⟨x,hx,rfl⟩:=hb
  exact ⟨_,hp.2 x hx,rfl⟩
theorem jY {h h':AH} {p:Itm} (hp:p.ok h) (hs:∀ b∈p.ids,h'.ae b=h.ae b):p.ok h':=by
 cases p with
 | ae c cells=>obtain ⟨z,hz⟩:=hp;exact ⟨z,by rw [hs c (by simp [ids])];exact hz⟩
 | gs v cells s=>
  rcases hp with ⟨rfl,rfl⟩ | ⟨c,n,k,rfl,h1,h2,j⟩
  ·exact .inl ⟨rfl,rfl⟩
  ·exact .inr ⟨c,n,k,rfl,h1,h2,by rw [hs c (by simp [ids])];exact j⟩
 | bF bs=>exact ⟨hp.1,fun x hx=>by rw [hs x.1 (by simp only [ids,List.mem_map];exact ⟨x,hx,rfl⟩)];exact hp.2 x hx⟩
end Itm
def aR (L:List Itm):List Nat:=L.flatMap Itm.ids
theorem j8 {L:List Itm} {b:Nat}:b∈aR L↔∃ p∈L,b∈p.ids:=by simp [aR]
structure Inv (Z:Zn) (h:AH):Prop where
 b2:∀ b cs,Z b=some cs→∃ B,h.ae b=some B∧B.cells=cs
 cw:∀ b,h.ae b≠none→b<h.next
structure Pre (Z:Zn) (h:AH) (L:List Itm):Prop extends Inv Z h where
 ok:∀ p∈L,p.ok h
 dj:L.Pairwise (fun p q=>∀ b∈p.ids,b∉q.ids)
 dz:∀ p∈L,∀ b∈p.ids,Z b=none
structure St (h0:AH) (D:List Nat) (Z0:Zn) (R:Nat×Nat) (Z:Zn) (h:AH) (L:List Itm):Prop extends Pre Z h L where
 aH:∀ b,b<h0.next→b∉D→h.ae b=h0.ae b
 c9:h0.next≤h.next
 new:∀ p∈L,∀ b∈p.ids,b∈D∨h0.next≤b
 low:∀ x,x≤h0.low→x≤h0.next→(∀ d∈D,x≤d)→x≤h.low
 ag:aM Z0 Z
 e2:∀ b,Z b≠none→Z0 b≠none∨b∈D∨h0.next≤b
 eG:∀ b,R.1≤b→b<R.2→h.ae b=none
 dR:R.2≤h.next
 eL:h0.next≤R.1∨R.2=0
section
variable {h0 h h':AH} {D:List Nat} {Z0 Z Z':Zn} {R:Nat×Nat} {L:List Itm} {p q:Itm} {i:Nat}
theorem Inv.vG (hI:Inv Z h) {b:Nat} (hb:h.ae b=none):Z b=none:=by
 cases hz:Z b with
 | none=>rfl
 | some cs=>obtain ⟨B,h1,_⟩:=hI.b2 b cs hz;rw [hb] at h1;cases h1
theorem Pre.lt (hS:Pre Z h L) (hp:p∈L) {b:Nat} (hb:b∈p.ids):b<h.next:=by
 obtain ⟨B,h1,_⟩:=Itm.r2 (hS.ok p hp) hb
 exact hS.cw b (by rw [h1];simp)
theorem Pre.q2 (hS:Pre Z h L) (hp:p∈L) {b:Nat} (hb:h.ae b=none):b∉p.ids:=fun q=>by
 obtain ⟨B,h1,_⟩:=Itm.r2 (hS.ok p hp) q
 rw [hb] at h1;cases h1
theorem St.pre (hS:St h0 D Z0 R Z h L):Pre Z h L:=hS.toPre
theorem St.inv (hS:St h0 D Z0 R Z h L):Inv Z h:=hS.toPre.toInv
theorem St.add (hS:St h0 D Z0 R Z h L) (q:Itm) (ec:∀ b,b∉q.ids→b<h.next→h'.ae b=h.ae b) (hq:q.ok h') (ez:∀ b∈q.ids,h.ae b=none∧h0.next≤b∧(R.2≤b∨b<R.1)) (hn:h.next≤h'.next)
  (qa:∀ b,h'.ae b≠none→b<h'.next) (gQ:∀ x,x≤h.low→x≤h'.low):St h0 D Z0 R Z h' (q::L) where
 b2 b cs hz:=by
  obtain ⟨B,h1,h2⟩:=hS.b2 b cs hz
  refine ⟨B,?_,h2⟩
  rw [ec b (fun hb=>by rw [(ez b hb).1] at h1;cases h1) (hS.cw b (by rw [h1];simp))]
  exact h1
 cw:=qa
 ok p hp:=by
  rcases List.mem_cons.1 hp with rfl | hp
  ·exact hq
  ·exact Itm.jY (hS.ok p hp) fun b hb=>ec b (fun eR=>hS.toPre.q2 hp (ez b eR).1 hb) (hS.toPre.lt hp hb)
 dj:=by
  refine List.pairwise_cons.2 ⟨fun p hp b hb=>hS.toPre.q2 hp (ez b hb).1,hS.dj⟩
 dz p hp b hb:=by
  rcases List.mem_cons.1 hp with rfl | hp
  ·exact hS.toInv.vG (ez b hb).1
  ·exact hS.dz p hp b hb
 aH b hb hd:=by
  rw [ec b (fun q=>by have:=(ez b q).2.1;omega) (Nat.lt_of_lt_of_le hb hS.c9)]
  exact hS.aH b hb hd
 c9:=Nat.le_trans hS.c9 hn
 new p hp b hb:=by
  rcases List.mem_cons.1 hp with rfl | hp
  ·exact .inr (ez b hb).2.1
  ·exact hS.new p hp b hb
 low x h1 h2 j:=gQ x (hS.low x h1 h2 j)
 ag:=hS.ag
 e2:=hS.e2
 eG b h1 h2:=by
  rw [ec b (fun q=>by have:=(ez b q).2.2;omega) (Nat.lt_of_lt_of_le h2 hS.dR)]
  exact hS.eG b h1 h2
 dR:=Nat.le_trans hS.dR hn
 eL:=hS.eL
theorem St.alloc (hS:St h0 D Z0 R Z h L) (cs:List Value) (z:Nat) (q:Itm) (hq:q.ok (h.alloc cs z)) (ez:q.ids=[h.next]):St h0 D Z0 R Z (h.alloc cs z) (q::L):=by
 refine hS.add q (fun b hb bq=>by rw [AH.e5,if_neg (by omega)]) hq (fun b hb=>?_) (Nat.le_succ _) (fun b hb=>?_) (fun x hx=>hx)
 ·rw [ez,List.mem_singleton] at hb
  subst hb
  refine ⟨?_,hS.c9, .inl hS.dR⟩
  cases hn:h.ae h.next with
  | none=>rfl
  | some B=>exact absurd (hS.cw h.next (by rw [hn];simp)) (Nat.lt_irrefl _)
 ·rw [AH.e5] at hb
  rw [AH.qg]
  by_cases e:b=h.next
  ·omega
  ·rw [if_neg e] at hb;have:=hS.cw b hb;omega
theorem St.step (hS:St h0 D Z0 R Z h L) (hi:L[i]?=some p) (q:Itm) (ec:∀ b,b∉p.ids→b<h.next→h'.ae b=h.ae b) (hq:q.ok h') (ez:∀ b∈q.ids,b∈p.ids∨h.next≤b) (hn:h.next≤h'.next)
  (qa:∀ b,h'.ae b≠none→b<h'.next) (gQ:∀ x,x≤h.low→(∀ d∈p.ids,x≤d)→x≤h'.low):St h0 D Z0 R Z h' (L.set i q):=by
 have hp:p∈L:=List.mem_of_getElem? hi
 have gm:∀ x∈L.set i q,x=q∨(x∈L∧∀ b∈x.ids,b∉p.ids):=by
  intro x hx
  obtain ⟨j,hj⟩:=List.getElem?_of_mem hx
  rw [List.getElem?_set] at hj
  split at hj
  ·split at hj
   ·exact .inl (Option.some.inj hj).symm
   ·cases hj
  ·rename_i bU
   refine .inr ⟨List.mem_of_getElem? hj,?_⟩
   have jA:=List.pairwise_iff_getElem.1 hS.dj
   obtain ⟨I,J⟩:=List.getElem?_eq_some_iff.1 hi
   obtain ⟨aa,ab⟩:=List.getElem?_eq_some_iff.1 hj
   rcases Nat.lt_or_ge i j with bq | o9
   ·have:=jA i j I aa bq
    rw [J,ab] at this
    exact fun b hb eR=>this b eR hb
   ·have:=jA j i aa I (by omega)
    rw [J,ab] at this
    exact this
 have uQ:∀ x∈L,(∀ b∈x.ids,b∉p.ids)→∀ b∈q.ids,b∉x.ids:=fun x hx nA b hb lr=>by
  rcases ez b hb with h1 | h1
  ·exact nA b lr h1
  ·have:=hS.toPre.lt hx lr;omega
 exact {
  b2:=fun b cs hz=>by
   obtain ⟨B,h1,h2⟩:=hS.b2 b cs hz
   refine ⟨B,?_,h2⟩
   rw [ec b (fun hb=>by rw [hS.dz p hp b hb] at hz;cases hz) (hS.cw b (by rw [h1];simp))]
   exact h1
  cw:=qa
  ok:=fun x hx=>by
   rcases gm x hx with rfl | ⟨hx,nA⟩
   ·exact hq
   ·exact Itm.jY (hS.ok x hx) fun b hb=>ec b (nA b hb) (hS.toPre.lt hx hb)
  dj:=by
   rw [List.pairwise_iff_getElem]
   intro j k hj hk bq
   have jA:=List.pairwise_iff_getElem.1 hS.dj
   obtain ⟨I,J⟩:=List.getElem?_eq_some_iff.1 hi
   rw [List.length_set] at hj hk
   rw [List.getElem_set,List.getElem_set]
   by_cases e1:i=j
   ·rw [if_pos e1,if_neg (by omega)]
    subst e1
    refine uQ _ (List.getElem_mem hk) ?_
    have:=jA i k I hk bq
    rw [J] at this
    exact fun b hb eR=>this b eR hb
   ·rw [if_neg e1]
    by_cases U:i=k
    ·rw [if_pos U]
     subst U
     have:=jA j i hj I bq
     rw [J] at this
     exact fun b hb eR=>uQ _ (List.getElem_mem hj) this b eR hb
    ·rw [if_neg U];exact jA j k hj hk bq
  dz:=fun x hx b hb=>by
   rcases gm x hx with rfl | ⟨hx,nA⟩
   ·rcases ez b hb with h1 | h1
    ·exact hS.dz p hp b h1
    ·refine hS.toInv.vG ?_
     cases hn:h.ae b with
     | none=>rfl
     | some B=>have:=hS.cw b (by rw [hn];simp);omega
   ·exact hS.dz x hx b hb
  aH:=fun b hb hd=>by
   rw [ec b (fun iV=>by rcases hS.new p hp b iV with h1 | h1<;>first | exact hd h1 | omega) (Nat.lt_of_lt_of_le hb hS.c9)]
   exact hS.aH b hb hd
  c9:=Nat.le_trans hS.c9 hn
  new:=fun x hx b hb=>by
   rcases gm x hx with rfl | ⟨hx,nA⟩
   ·rcases ez b hb with h1 | h1
    ·exact hS.new p hp b h1
    ·exact .inr (Nat.le_trans hS.c9 h1)
   ·exact hS.new x hx b hb
  low:=fun x h1 h2 ad=>gQ x (hS.low x h1 h2 ad) fun d hd=>by
   rcases hS.new p hp d hd with af | af
   ·exact ad d af
   ·omega
  ag:=hS.ag
  e2:=hS.e2
  eG:=fun b h1 h2=>by
   rw [ec b (hS.toPre.q2 hp (hS.eG b h1 h2)) (Nat.lt_of_lt_of_le h2 hS.dR)]
   exact hS.eG b h1 h2
  dR:=Nat.le_trans hS.dR hn
  eL:=hS.eL}
theorem zA {α:Type}:∀ (L:List α) (i:Nat) (p:α),L[i]?=some p→L.Perm (p::L.eraseIdx i):=by
 intro L
 induction L with
 | nil=>intro i p h;simp at h
 | cons x L ih=>
  intro i p h
  cases i with
  | zero=>simp at h;subst h;simp
  | succ i=>
   simp only [List.getElem?_cons_succ] at h
   simp only [List.eraseIdx_cons_succ]
   exact ((ih i p h).cons x).trans (List.Perm.swap p x _)
theorem St.front (hS:St h0 D Z0 R Z h L) (i:Nat) (hi:L[i]?=some p):St h0 D Z0 R Z h (p::L.eraseIdx i):=by
 have u3:L.Perm (p::L.eraseIdx i):=zA L i p hi
 have q5:∀ x,x∈p::L.eraseIdx i→x∈L:=fun x hx=>u3.mem_iff.2 hx
 exact {hS with
  ok:=fun x hx=>hS.ok x (q5 x hx)
  dj:=(u3.pairwise_iff (fun {a b} dY c hc dN=>dY c dN hc)).1 hS.dj
  dz:=fun x hx=>hS.dz x (q5 x hx)
  new:=fun x hx=>hS.new x (q5 x hx)}
theorem St.tail (hS:St h0 D Z0 R Z h (p::L)):St h0 D Z0 R Z h L:=
 {hS with
  ok:=fun x hx=>hS.ok x (List.mem_cons_of_mem _ hx)
  dj:=(List.pairwise_cons.1 hS.dj).2
  dz:=fun x hx=>hS.dz x (List.mem_cons_of_mem _ hx)
  new:=fun x hx=>hS.new x (List.mem_cons_of_mem _ hx)}
theorem St.dh (hS:St h0 D Z0 R Z h L) (s:Nat):St h0 D Z0 R Z h (.gs (.slice none 0 0) [] s::L):=
 hS.add _ (fun _ _ _=>rfl) (.inl ⟨rfl,rfl⟩) (fun b hb=>by simp [Itm.ids] at hb) (Nat.le_refl _) hS.cw (fun _ q=>q)
def Zn.ins (Z:Zn) (b:Nat) (cells:List Value):Zn:=fun x=>if x=b then some cells else Z x
theorem Zn.m5 (Z:Zn) (b:Nat) (cells:List Value):(Z.ins b cells) b=some cells:=if_pos rfl
theorem Zn.lx (Z:Zn) {b x:Nat} (cells:List Value) (h:x≠b):(Z.ins b cells) x=Z x:=if_neg h
theorem St.freeze {α:Type} [Cell α] {v:Value} {cells:List Value} {xs:List α} (hS:St h0 D Z0 R Z h (.gs v cells (aa α)::L)) (hR:RCs Z cells xs):
  ∃ Z',aM Z Z'∧RS Z' v xs∧St h0 D Z0 R Z' h L:=by
 have hp:Itm.gs v cells (aa α)∈Itm.gs v cells (aa α)::L:=List.mem_cons_self
 rcases hS.ok _ hp with ⟨rfl,rfl⟩ | ⟨b,n,c,rfl,h1,h2,j⟩
 ·have:xs=[]:=by
   cases xs with
   | nil=>rfl
   | cons x xs=>
    obtain ⟨cs,rest,I,J,_⟩:=hR
    have:=Cell.len J
    have:=Cell.pos (α:=α)
    cases cs with
    | nil=>simp at *;omega
    | cons=>simp at I
  subst this
  exact ⟨Z,aM.refl Z,⟨none,0,rfl,Nat.le_refl _,rfl⟩,hS.tail⟩
 ·have qj:(Itm.gs (.slice (some ⟨b,0,none⟩) n c) cells (aa α)).ids=[b]:=rfl
  have oO:Z b=none:=hS.dz _ hp b (by rw [qj];simp)
  have hle:aM Z (Z.ins b cells):=fun x cs hx=>by
   rw [Zn.lx _ _ (fun e=>by rw [e,oO] at hx;cases hx)];exact hx
  have hlen:=hR.length
  have hn:n=xs.length:=Nat.eq_of_mul_eq_mul_right (Cell.pos (α:=α)) (by show n * aa α=xs.length * aa α;omega)
  have jA:=List.pairwise_cons.1 hS.dj
  refine ⟨Z.ins b cells,hle,⟨some ⟨b,0,none⟩,c,by rw [hn],by omega,rfl,cells,Zn.m5 _ _ _,by show 0+_≤_;omega,?_⟩,?_⟩
  ·have:List.take (xs.length * aa α) (List.drop 0 cells)=cells:=by
    rw [List.drop_zero,List.take_of_length_le (by omega)]
   rw [this]
   exact hR.mono hle
  ·exact {hS.tail with
    b2:=fun x cs hx=>by
     by_cases e:x=b
     ·subst e;rw [Zn.m5] at hx;exact ⟨_,j,Option.some.inj hx⟩
     ·rw [Zn.lx _ _ e] at hx;exact hS.b2 x cs hx
    dz:=fun q hq x hx=>by
     rw [Zn.lx _ _ (fun e=>jA.1 q hq b (by rw [qj];simp) (by rw [← e];exact hx))]
     exact hS.tail.dz q hq x hx
    ag:=hS.ag.trans hle
    e2:=fun x hx=>by
     by_cases e:x=b
     ·subst e;exact .inr (hS.new _ hp x (by rw [qj];simp))
     ·rw [Zn.lx _ _ e] at hx;exact hS.e2 x hx}
theorem Inv.start (hI:Inv Z h):St {h with low:=h.next} [] Z (0,0) Z {h with low:=h.next} [] where
 b2:=hI.b2
 cw:=hI.cw
 ok p hp:=by cases hp
 dj:=List.Pairwise.nil
 dz p hp:=by cases hp
 aH b _ _:=rfl
 c9:=Nat.le_refl _
 new p hp:=by cases hp
 low x h1 _ _:=h1
 ag:=aM.refl _
 e2 b hb:= .inl hb
 eG b _ h2:=absurd h2 (Nat.not_lt_zero _)
 dR:=Nat.zero_le _
 eL:= .inr rfl
theorem Pre.start (hS:Pre Z h L):St {h with low:=h.next} (aR L) Z (0,0) Z {h with low:=h.next} L where
 b2:=hS.b2
 cw:=hS.cw
 ok:=hS.ok
 dj:=hS.dj
 dz:=hS.dz
 aH b _ _:=rfl
 c9:=Nat.le_refl _
 new p hp b hb:= .inl (j8.2 ⟨p,hp,hb⟩)
 low x h1 _ _:=h1
 ag:=aM.refl _
 e2 b hb:= .inl hb
 eG b _ h2:=absurd h2 (Nat.not_lt_zero _)
 dR:=Nat.zero_le _
 eL:= .inr rfl
theorem St.call {A A' B:List Itm} (hS:St h0 D Z0 R Z h (A++B)) (hc:St h (aR A) Z (0,0) Z' h' A'):St h0 D Z0 R Z' h' (A'++B):=by
 have hA:∀ p∈A,p∈A++B:=fun p hp=>List.mem_append_left _ hp
 have hB:∀ p∈B,p∈A++B:=fun p hp=>List.mem_append_right _ hp
 obtain ⟨_,I,J⟩:=List.pairwise_append.1 hS.dj
 have p2:∀ q∈B,∀ b∈q.ids,b∉aR A:=fun q hq b hb yh=>by
  obtain ⟨p,hp,iV⟩:=j8.1 yh
  exact J p hp q hq b iV hb
 have pd:∀ b∈aR A,b∈D∨h0.next≤b:=fun b hb=>by
  obtain ⟨p,hp,iV⟩:=j8.1 hb
  exact hS.new p (hA p hp) b iV
 have oy:∀ b∈aR A,h.ae b≠none:=fun b hb=>by
  obtain ⟨p,hp,iV⟩:=j8.1 hb
  obtain ⟨B,h1,_⟩:=Itm.r2 (hS.ok p (hA p hp)) iV
  rw [h1];simp
 exact {
  b2:=hc.b2
  cw:=hc.cw
  ok:=fun p hp=>by
   rcases List.mem_append.1 hp with hp | hp
   ·exact hc.ok p hp
   ·exact Itm.jY (hS.ok p (hB p hp)) fun b hb=>hc.aH b (hS.toPre.lt (hB p hp) hb) (p2 p hp b hb)
  dj:=List.pairwise_append.2 ⟨hc.dj,I,fun p hp q hq b hb oB=>by
   rcases hc.new p hp b hb with h1 | h1
   ·exact p2 q hq b oB h1
   ·have:=hS.toPre.lt (hB q hq) oB;omega⟩
  dz:=fun p hp b hb=>by
   rcases List.mem_append.1 hp with hp | hp
   ·exact hc.dz p hp b hb
   ·cases hz:Z' b with
    | none=>rfl
    | some cs=>
     rcases hc.e2 b (by rw [hz];simp) with h1 | h1 | h1
     ·exact absurd (hS.dz p (hB p hp) b hb) h1
     ·exact absurd h1 (p2 p hp b hb)
     ·have:=hS.toPre.lt (hB p hp) hb;omega
  aH:=fun b hb hd=>by
   rw [hc.aH b (Nat.lt_of_lt_of_le hb hS.c9) (fun q=>by rcases pd b q with h1 | h1<;>first | exact hd h1 | omega)]
   exact hS.aH b hb hd
  c9:=Nat.le_trans hS.c9 hc.c9
  new:=fun p hp b hb=>by
   rcases List.mem_append.1 hp with hp | hp
   ·rcases hc.new p hp b hb with h1 | h1
    ·exact pd b h1
    ·exact .inr (Nat.le_trans hS.c9 h1)
   ·exact hS.new p (hB p hp) b hb
  low:=fun x h1 h2 j=>hc.low x (hS.low x h1 h2 j) (Nat.le_trans h2 hS.c9) fun d hd=>by
   rcases pd d hd with q | q
   ·exact j d q
   ·omega
  ag:=hS.ag.trans hc.ag
  e2:=fun b hb=>by
   rcases hc.e2 b hb with h1 | h1 | h1
   ·exact hS.e2 b h1
   ·exact .inr (pd b h1)
   ·exact .inr (.inr (Nat.le_trans hS.c9 h1))
  eG:=fun b h1 h2=>by
   have hn:=hS.eG b h1 h2
   rw [hc.aH b (Nat.lt_of_lt_of_le h2 hS.dR) (fun q=>oy b q hn)]
   exact hn
  dR:=Nat.le_trans hS.dR hc.c9
  eL:=hS.eL}
theorem St.leave (hS:St {h with low:=h.next} D Z0 R Z h' L):St h D Z0 R Z {h' with low:=if h'.low<h.low then h'.low else h.low} L:=
 {hS with
  aH:=hS.aH
  c9:=hS.c9
  new:=hS.new
  e2:=hS.e2
  dR:=hS.dR
  eL:=hS.eL
  cw:=hS.cw
  b2:=hS.b2
  ok:=fun p hp=>Itm.jY (hS.ok p hp) fun _ _=>rfl
  low:=fun x h1 h2 j=>by
   have:=hS.low x h2 h2 j
   show x≤if h'.low<h.low then h'.low else h.low
   split<;>omega}
end
end Go.Proofs.Ytcilejikekccmaa.Sy
namespace Go.Proofs.Ytcilejikekccmaa.Sy
open Go Am
open Cell (rc)
section
variable {P:Program} {R:List aN} {k:Nat} {l l':KL} {h h':AH} {K:KL→AH→Prop} {g:Option (Option Nat×Bool)} {d:Option Nat} {op:Op}
variable {h0:AH} {D:List Nat} {Z0 Z Z':Zn} {Rv:Nat×Nat} {L L':List Itm}
def zeroCells (P:Program) (t:TypeId):Option (List Value):=(dO P t).bind fun z=>if clean z then some z.cells.toList else none
theorem u1 {t:TypeId} {cs:List Value} (hz:zeroCells P t=some cs):gr P l (.alloc t) (fun id=> .pointer (some ⟨id,0,none⟩),cs,0):=by
 refine ⟨rfl,fun e he=>?_⟩
 simp only [aFresh,m1]
 unfold zeroCells at hz
 cases ht:dO P t with
 | none=>rw [ht] at hz;cases hz
 | some z=>
  rw [ht] at hz
  simp only [Option.bind_some] at hz ⊢
  split at hz
  ·rename_i hc
   simp only [Option.some.injEq] at hz
   subst hz
   rw [if_pos hc]
  ·cases hz
theorem gv {t:TypeId} {x:Operand} {v:Value} {cs:List Value} (hx:opv l x=some v) (hc:v.cells.toList=cs):gr P l (.box t x) (fun id=> .pointer (some ⟨id,0,none⟩),cs,0):=by
 subst hc
 exact ⟨rfl,fun e he=>by simp only [aFresh,ny,he.opv hx]⟩
theorem g1 {cs:List Value} {z:Nat} (ho:R[k]?=some ⟨g,d,op⟩) (hg:gon l g) (hf:gr P l op (fun id=> .pointer (some ⟨id,0,none⟩),cs,z)) (hS:St h0 D Z0 Rv Z h L)
  (hk:∀ b h',St h0 D Z0 Rv Z h' (.ae b cs::L)→aW P R (k+1) (bC l d (.pointer (some ⟨b,0,none⟩))) h' K):aW P R k l h K:=
 bT ho hg hf.run (hk _ _ (hS.alloc cs z _ ⟨z,by rw [AH.e5,if_pos rfl]⟩ rfl))
def ldB (P:Program) (t:TypeId) (off:Nat) (cells:List Value):Option Value:=
 match P.underlying t with
 | some dd=>if lJ dd then (match bW P t with | some m=>if off+m≤cells.length then some (.agg ((cells.drop off).take m).toArray) else none | none=>none) else cells[off]?
 | none=>none
theorem lq {t:TypeId} {a:Addr} {B:dD} {v:Value} {off:Nat} {cells:List Value} (hs:a.spot=none) (hb:h.ae a.block=some B) (hv:ldB P t off cells=some v)
  (hc:∀ i,i<cells.length→B.cells[a.off+i]?=cells[off+i - off+0]?→True) (jz:∀ i,off+i<cells.length→B.cells[a.off+i]?=cells[off+i]?) (hl:a.off+(cells.length - off)≤B.cells.length):aLoad P t (.pointer (some a)) h=some v:=by
 unfold ldB at hv
 simp only [aLoad]
 cases hd:P.underlying t with
 | none=>rw [hd] at hv;cases hv
 | some dd=>
  rw [hd] at hv
  simp only [Option.bind_some] at hv ⊢
  split at hv
  ·rename_i ha
   rw [if_pos ha]
   cases ht:bW P t with
   | none=>rw [ht] at hv;cases hv
   | some m=>
    rw [ht] at hv
    simp only at hv
    simp only [Option.bind_some]
    split at hv
    ·rename_i hm
     simp only [Option.some.injEq] at hv
     subst hv
     simp only [AH.cv,hs,hb,Option.bind_some]
     rw [if_pos (by omega)]
     simp only [Option.map_some,Option.some.injEq,Value.agg.injEq]
     congr 1
     apply List.ext_getElem?
     intro i
     rw [List.getElem?_take,List.getElem?_take,List.getElem?_drop,List.getElem?_drop]
     split
     ·exact jz i (by omega)
     ·rfl
    ·cases hv
  ·rename_i ha
   rw [if_neg ha]
   simp only [AH.load,hs,hb,Option.bind_some]
   have bq:off<cells.length:=by
    rcases Nat.lt_or_ge off cells.length with q | q
    ·exact q
    ·rw [List.getElem?_eq_none q] at hv;cases hv
   have:=jz 0 (by omega)
   simp only [Nat.add_zero] at this
   rw [this];exact hv
theorem B8 {t:TypeId} {x:Operand} {b off i:Nat} {cells:List Value} {v:Value} (hS:St h0 D Z0 Rv Z h L) (hi:L[i]?=some (.ae b cells))
  (hx:opv l x=some (.pointer (some ⟨b,off,none⟩))) (hv:ldB P t off cells=some v):b5 P l (.load t x) h (v) h:=by
 obtain ⟨z,hz⟩:=hS.ok _ (List.mem_of_getElem? hi)
 have hle:off≤cells.length:=by
  unfold ldB at hv
  split at hv
  ·split at hv
   ·split at hv
    ·split at hv
     ·omega
     ·cases hv
    ·cases hv
   ·rcases Nat.lt_or_ge off cells.length with q | q
    ·omega
    ·rw [List.getElem?_eq_none q] at hv;cases hv
  ·cases hv
 intro e he
 simp only [aOp,he.opv hx]
 rw [lq (h:=h) (a:=⟨b,off,none⟩) (off:=off) (cells:=cells) rfl hz hv (fun _ _ _=>trivial) (fun i _=>rfl) (by show off+(cells.length - off)≤cells.length;omega)]
 rfl
theorem A1 {t:TypeId} {x:Operand} {b off:Nat} {cells:List Value} {v:Value} (hS:St h0 D Z0 Rv Z h L) (hi:Z b=some cells)
  (hx:opv l x=some (.pointer (some ⟨b,off,none⟩))) (hv:ldB P t off cells=some v):b5 P l (.load t x) h (v) h:=by
 obtain ⟨B,hz,de⟩:=hS.b2 _ _ hi
 have hle:off≤cells.length:=by
  unfold ldB at hv
  split at hv
  ·split at hv
   ·split at hv
    ·split at hv
     ·omega
     ·cases hv
    ·cases hv
   ·rcases Nat.lt_or_ge off cells.length with q | q
    ·omega
    ·rw [List.getElem?_eq_none q] at hv;cases hv
  ·cases hv
 intro e he
 simp only [aOp,he.opv hx]
 rw [lq (h:=h) (a:=⟨b,off,none⟩) (off:=off) (cells:=cells) rfl hz hv (fun _ _ _=>trivial) (fun i _=>by rw [de]) (by rw [de];show off+(cells.length - off)≤cells.length;omega)]
 rfl
theorem oe (hl:∀ b,h.ae b≠none→b<h.next) {c:Nat} {X:Option dD} (hc:h.ae c≠none):∀ b,(h.put c X).ae b≠none→b<(h.put c X).next:=by
 intro b hb
 rw [AH.mP]
 rw [AH.gD] at hb
 by_cases e:b=c
 ·subst e;exact hl b hc
 ·rw [if_neg e] at hb;exact hl b hb
theorem St.Dd {i b off z:Nat} {cells vs:List Value} (hS:St h0 D Z0 Rv Z h L) (hi:L[i]?=some (.ae b cells)) (hl:off+vs.length≤cells.length) (ho:vs.all Value.oneCell'=true):
  ∃ h',AH.store h ⟨b,off,none⟩ vs=some h'∧St h0 D Z0 Rv Z h' (L.set i (.ae b (cells.take off++vs++cells.drop (off+vs.length)))):=by
 obtain ⟨z,hz⟩:=hS.ok _ (List.mem_of_getElem? hi)
 refine ⟨h.put b (some ⟨cells.take off++vs++cells.drop (off+vs.length),true,z⟩),?_,?_⟩
 ·simp only [AH.store,hz,Option.bind_some]
  rw [if_pos ⟨trivial,hl,ho⟩]
 ·refine hS.step hi _ (fun c hc _=>?_) ⟨z,by rw [AH.gD,if_pos rfl]⟩ (fun c hc=> .inl hc) (Nat.le_refl _) (oe hS.cw (by rw [hz];simp)) (fun x h1 h2=>?_)
  ·rw [AH.gD,if_neg (by simpa [Itm.ids] using hc)]
  ·rw [AH.lb]
   have:=h2 b (by simp [Itm.ids])
   split<;>omega
def lv (v:Value):List Value:=v.cells.toList
theorem gK {t:TypeId} {x y:Operand} {i b off:Nat} {cells vs cF:List Value} {v:Value} (hS:St h0 D Z0 Rv Z h L) (hi:L[i]?=some (.ae b cells))
  (hx:opv l x=some (.pointer (some ⟨b,off,none⟩))) (hy:opv l y=some v) (gC:lv v=vs) (ht:bW P t=some vs.length) (fq:vs.all Value.oneCell'=true) (hl:Nat.ble (off+vs.length) cells.length=true)
  (hc:cells.take off++vs++cells.drop (off+vs.length)=cF) (hL:L.set i (.ae b cF)=L'):
  ∃ h',b5 P l (.store t x y) h undef h'∧St h0 D Z0 Rv Z h' L':=by
 subst hc hL
 obtain ⟨h',h1,h2⟩:=hS.Dd (z:=0) hi (Nat.le_of_ble_eq_true hl) fq
 refine ⟨h',fun e he=>?_,h2⟩
 simp only [aOp,iO,he.opv hx,he.opv hy,ht,Option.bind_some]
 have b1:v.cells.size=vs.length:=by rw [← gC];simp [lv]
 have qE:v.cells.toList=vs:=gC
 rw [if_pos b1,qE,h1];rfl
def lenOf:Value→Option Nat
 | .slice _ n _=>some n
 | _=>none
section
variable {α:Type} [Cell α] {xs:List α} {v:Value} {cells:List Value}
theorem RS.len (hR:RS Z v xs):lenOf v=some xs.length:=by obtain ⟨a,c,rfl,_⟩:=hR;rfl
theorem St.dn (hS:St h0 D Z0 Rv Z h L) {i:Nat} (hi:L[i]?=some (.gs v cells (aa α))) (hR:RCs Z cells xs):lenOf v=some xs.length:=by
 have hp:=hS.ok _ (List.mem_of_getElem? hi)
 have hlen:=hR.length
 have eP:=Cell.pos (α:=α)
 rcases hp with ⟨rfl,rfl⟩ | ⟨b,n,c,rfl,h1,_⟩
 ·simp only [lenOf]
  congr 1
  simp only [List.length_nil] at hlen
  rcases Nat.mul_eq_zero.1 hlen.symm with q | q
  ·exact q.symm
  ·have:aa α=Cell.size α:=rfl
   omega
 ·simp only [lenOf]
  congr 1
  exact Nat.eq_of_mul_eq_mul_right eP (by show n * aa α=xs.length * aa α;omega)
def baseOf:Value→Addr
 | .slice (some a) _ _=>a
 | _=>⟨0,0,none⟩
def ba (v:Value) (i:Int) (s j:Nat):Addr:=⟨(baseOf v).block,(baseOf v).off+i.toNat * s+j,none⟩
def kV (h:AH) (v:Value) (i:Int) (s:Nat) (cs:List Value):Prop:=
 ∃ B,h.ae (baseOf v).block=some B∧(baseOf v).off+i.toNat * s+s≤B.cells.length∧(B.cells.drop ((baseOf v).off+i.toNat * s)).take s=cs
theorem RS.el (hR:RS Z v xs) (hI:Inv Z h) {i:Int} {x:α} (hx:xs[i.toNat]?=some x):∃ cs,rc Z cs x∧kV h v i (aa α) cs:=by
 obtain ⟨a,c,rfl,h2,j⟩:=hR
 have hi:i.toNat<xs.length:=by
  rcases Nat.lt_or_ge i.toNat xs.length with q | q
  ·exact q
  ·rw [List.getElem?_eq_none q] at hx;cases hx
 cases a with
 | none=>subst j;simp at hi
 | some a=>
  obtain ⟨af,all,J,ag,U⟩:=j
  obtain ⟨B,ab,I⟩:=hI.b2 _ _ J
  obtain ⟨cs,ad,ae⟩:=U.elem hx
  have hm:i.toNat * aa α+aa α≤xs.length * aa α:=by
   have:=Nat.mul_le_mul_right (aa α) (Nat.succ_le_of_lt hi)
   rw [Nat.succ_mul] at this;exact this
  refine ⟨cs,ad,B,ab,by rw [I];show a.off+_+_≤_;omega,?_⟩
  rw [I,← ae]
  show List.take _ (List.drop (a.off+_) all)=_
  rw [List.drop_take,List.drop_drop,List.take_take,Nat.min_eq_left (by omega)]
theorem St.cp (hS:St h0 D Z0 Rv Z h L) {j:Nat} (hi:L[j]?=some (.gs v cells (aa α))) (hR:RCs Z cells xs) {i:Int} {x:α} (hx:xs[i.toNat]?=some x):∃ cs,rc Z cs x∧kV h v i (aa α) cs∧(cells.drop (i.toNat * aa α)).take (aa α)=cs:=by
 have hp:=hS.ok _ (List.mem_of_getElem? hi)
 have hlen:=hR.length
 have hi:i.toNat<xs.length:=by
  rcases Nat.lt_or_ge i.toNat xs.length with q | q
  ·exact q
  ·rw [List.getElem?_eq_none q] at hx;cases hx
 have hm:i.toNat * aa α+aa α≤xs.length * aa α:=by
  have:=Nat.mul_le_mul_right (aa α) (Nat.succ_le_of_lt hi)
  rw [Nat.succ_mul] at this;exact this
 obtain ⟨cs,J,I⟩:=hR.elem hx
 have eP:=Cell.pos (α:=α)
 rcases hp with ⟨rfl,rfl⟩ | ⟨b,n,c,rfl,h1,h2,U⟩
 ·simp only [List.length_nil] at hlen
  have:aa α=Cell.size α:=rfl
  omega
 ·exact ⟨cs,J,⟨_,U,by show 0+_+_≤_;simp only [Nat.zero_add];omega,by show List.take _ (List.drop (0+_) cells)=cs;rw [Nat.zero_add];exact I⟩,I⟩
def jU (v:Value) (n:Nat):Prop:=∃ a c,v= .slice (some a) n c∧a.spot=none
theorem RS.cQ (hR:RS Z v xs) (hn:0<xs.length):jU v xs.length:=by
 obtain ⟨a,c,rfl,h2,j⟩:=hR
 cases a with
 | none=>subst j;simp at hn
 | some a=>exact ⟨a,c,rfl,j.1⟩
theorem St.bN (hS:St h0 D Z0 Rv Z h L) {j:Nat} (hi:L[j]?=some (.gs v cells (aa α))) (hR:RCs Z cells xs) (hn:0<xs.length):jU v xs.length:=by
 have hl:=hS.dn hi hR
 rcases hS.ok _ (List.mem_of_getElem? hi) with ⟨rfl,rfl⟩ | ⟨b,n,c,rfl,h1,_⟩
 ·simp only [lenOf,Option.some.injEq] at hl;omega
 ·simp only [lenOf,Option.some.injEq] at hl;subst hl;exact ⟨_,_,rfl,rfl⟩
end
theorem gG {t:TypeId} {x:Operand} {v:Value} {n:Nat} (hx:opv l x=some v) (hn:lenOf v=some n) (ht:∃ e,P.underlying t=some (.slice e)):b5 P l (.call ⟨.builtin .len,#[x],#[t]⟩) h (.int .i64 n) h:=by
 intro e he
 obtain ⟨u,hu⟩:=ht
 cases v with
 | slice a m c=>
  simp only [lenOf,Option.some.injEq] at hn
  subst hn
  simp only [aOp,List.map_cons,List.map_nil,he.opv hx,aBuiltin,aLen,hu,Option.map_some]
 | _=>cases hn
def slTy (P:Program) (t:TypeId):Option Nat:=match P.underlying t with | some (.slice e)=>bW P e | _=>none
theorem bA {t:TypeId} {x y:Operand} {v:Value} {n s:Nat} {i:Int} {kd:IntKind} (hx:opv l x=some v) (hy:opv l y=some (.int kd i)) (ht:slTy P t=some s) (hb:jU v n) (h1:0≤i) (h2:i<n):b5 P l (.indexAddr t x y) h (.pointer (some (ba v i s 0))) h:=by
 intro e he
 obtain ⟨a,c,rfl,fO⟩:=hb
 unfold slTy at ht
 cases hu:P.underlying t with
 | none=>rw [hu] at ht;cases ht
 | some dd=>
  rw [hu] at ht
  cases dd with
  | slice u=>
   simp only at ht
   simp only [aOp,he.opv hx,he.opv hy,aIndexAddr,hu,ht,Option.bind_some]
   rw [if_pos ⟨h1,h2,fO⟩]
   simp only [Option.map_some,Option.some.injEq,Prod.mk.injEq,Value.pointer.injEq,and_true]
   cases a
   simp only at fO
   subst fO
   simp [Addr.add,ba,baseOf]
  | _=>cases ht
theorem wP {v:Value} {i:Int} {s j:Nat} {cs:List Value} {B:dD} (h2:(baseOf v).off+i.toNat * s+s≤B.cells.length) (I:(B.cells.drop ((baseOf v).off+i.toNat * s)).take s=cs):cs.length=s∧∀ m,j+m<cs.length→B.cells[(ba v i s j).off+m]?=cs[j+m]?:=by
 have hl:cs.length=s:=by rw [← I];simp;omega
 refine ⟨hl,fun m hm=>?_⟩
 rw [← I,List.getElem?_take,if_pos (by omega),List.getElem?_drop]
 congr 1
 show (baseOf v).off+i.toNat * s+j+m=_
 omega
theorem bH {t:TypeId} {x:Operand} {v w:Value} {i:Int} {s j:Nat} {cs:List Value} (hE:kV h v i s cs) (hx:opv l x=some (.pointer (some (ba v i s j)))) (hv:ldB P t j cs=some w):b5 P l (.load t x) h (w) h:=by
 obtain ⟨B,h1,h2,I⟩:=hE
 obtain ⟨hl,jz⟩:=wP (j:=j) h2 I
 have hle:j≤cs.length:=by
  unfold ldB at hv
  split at hv
  ·split at hv
   ·split at hv
    ·split at hv
     ·omega
     ·cases hv
    ·cases hv
   ·rcases Nat.lt_or_ge j cs.length with q | q
    ·omega
    ·rw [List.getElem?_eq_none q] at hv;cases hv
  ·cases hv
 intro e he
 simp only [aOp,he.opv hx]
 rw [lq (h:=h) (a:=ba v i s j) (off:=j) (cells:=cs) rfl h1 hv (fun _ _ _=>trivial) jz (by show (baseOf v).off+i.toNat * s+j+(cs.length - j)≤B.cells.length;omega)]
 rfl
theorem gi {α:Type} [Cell α] {t:TypeId} {x y:Operand} {v w:Value} {i:Int} {j m:Nat} {cells cs aZ vs:List Value} {xs:List α} {u u':α} (hS:St h0 D Z0 Rv Z h L) (hi:L[m]?=some (.gs v cells (aa α))) (hR:RCs Z cells xs)
  (hu:xs[i.toNat]?=some u) (de:(cells.drop (i.toNat * aa α)).take (aa α)=cs)
  (hx:opv l x=some (.pointer (some (ba v i (aa α) j)))) (hy:opv l y=some w) (gC:lv w=vs) (ht:bW P t=some vs.length) (fq:vs.all Value.oneCell'=true) (hl:Nat.ble (j+vs.length) cs.length=true)
  (hc:cs.take j++vs++cs.drop (j+vs.length)=aZ) (ko:rc Z aZ u'):
  ∃ h' cF,b5 P l (.store t x y) h undef h'∧RCs Z cF (xs.set i.toNat u')∧St h0 D Z0 Rv Z h' (L.set m (.gs v cF (aa α))):=by
 have hlen:=hR.length
 have dq:i.toNat<xs.length:=by
  rcases Nat.lt_or_ge i.toNat xs.length with q | q
  ·exact q
  ·rw [List.getElem?_eq_none q] at hu;cases hu
 have hm:i.toNat * aa α+aa α≤xs.length * aa α:=by
  have:=Nat.mul_le_mul_right (aa α) (Nat.succ_le_of_lt dq)
  rw [Nat.succ_mul] at this;exact this
 have hl:=Nat.le_of_ble_eq_true hl
 have c4:cs.length=aa α:=by rw [← de];simp;omega
 have eP:0<aa α:=Cell.pos (α:=α)
 have hp:=hS.ok _ (List.mem_of_getElem? hi)
 rcases hp with ⟨rfl,rfl⟩ | ⟨b,n,c,rfl,h1,h2,I⟩
 ·simp only [List.length_nil] at hlen;omega
 ·have py:=hR.bE hu ko
  have heq:cells.take (i.toNat * aa α+j)++vs++cells.drop (i.toNat * aa α+j+vs.length)=cells.take (i.toNat * aa α)++aZ++cells.drop (i.toNat * aa α+aa α):=by
   rw [← hc,← de]
   apply List.ext_getElem?
   intro q
   simp only [List.getElem?_append,List.length_append,List.length_take,List.length_drop,List.getElem?_take,List.getElem?_drop,c4]
   have e1:min (i.toNat * aa α+j) cells.length=i.toNat * aa α+j:=by omega
   have ab:min (i.toNat * aa α) cells.length=i.toNat * aa α:=by omega
   have ad:min (aa α) (cells.length - i.toNat * aa α)=aa α:=by omega
   have ae:min j (aa α)=j:=by omega
   rw [e1,ab,ad,ae]
   by_cases J:q<i.toNat * aa α
   ·rw [if_pos (by omega),if_pos (by omega),if_pos (by omega),if_pos (by omega),if_pos (by omega)]
    rw [if_pos J]
   ·by_cases U:q<i.toNat * aa α+j
    ·rw [if_pos (by omega),if_pos (by omega),if_pos (by omega),if_pos (by omega),if_neg (by omega),if_pos (by omega),if_pos (by omega),if_pos (by omega),if_pos (by omega)]
     congr 1;omega
    ·by_cases af:q<i.toNat * aa α+j+vs.length
     ·rw [if_pos (by omega),if_neg (by omega),if_pos (by omega),if_neg (by omega),if_pos (by omega),if_neg (by omega)]
      congr 1;omega
     ·by_cases ag:q<i.toNat * aa α+aa α
      ·rw [if_neg (by omega),if_pos (by omega),if_neg (by omega),if_neg (by omega),if_pos (by omega)]
       congr 1;omega
      ·rw [if_neg (by omega),if_neg (by omega)]
       congr 1;omega
  have nP:i.toNat * aa α+j+vs.length≤cells.length:=by omega
  have bd:AH.store h (ba (.slice (some ⟨b,0,none⟩) n c) i (aa α) j) vs=some (h.put b (some ⟨cells.take (i.toNat * aa α)++aZ++cells.drop (i.toNat * aa α+aa α),true,aa α⟩)):=by
   rw [← heq]
   simp only [AH.store,ba,baseOf,I,Option.bind_some,Nat.zero_add]
   rw [if_pos ⟨trivial,nP,fq⟩]
  refine ⟨h.put b (some ⟨cells.take (i.toNat * aa α)++aZ++cells.drop (i.toNat * aa α+aa α),true,aa α⟩),_,fun e he=>?_,py,?_⟩
  ·simp only [aOp,iO,he.opv hx,he.opv hy,ht,Option.bind_some]
   have b1:w.cells.size=vs.length:=by rw [← gC];simp [lv]
   have qE:w.cells.toList=vs:=gC
   rw [if_pos b1,qE,bd];rfl
  ·refine hS.step hi _ (fun q hq _=>?_) (.inr ⟨b,n,c,rfl,?_,h2,by rw [AH.gD,if_pos rfl]⟩) (fun q hq=> .inl hq) (Nat.le_refl _) (oe hS.cw (by rw [I];simp)) (fun x J U=>?_)
   ·rw [AH.gD,if_neg (by simpa [Itm.ids] using hq)]
   ·have:=py.length
    rw [List.length_set] at this
    omega
   ·rw [AH.lb]
    have:=U b (by simp [Itm.ids])
    split<;>omega
end
end Go.Proofs.Ytcilejikekccmaa.Sy
namespace Go.Proofs.Ytcilejikekccmaa.Sy
open Go Am
open Cell (rc)
section
variable {P:Program} {R:List aN} {k:Nat} {l l':KL} {h h':AH} {K:KL→AH→Prop} {g:Option (Option Nat×Bool)} {d:Option Nat} {op:Op}
variable {h0:AH} {D:List Nat} {Z0 Z Z':Zn} {Rv:Nat×Nat} {L L':List Itm}
def vK (P:Program) (l:KL) (t:TypeId) (n:Nat) (ps:Array (Nat×Operand)):Option (List Value×Nat):=
 match opvs l (ps.toList.map (·.2)) with
 | some vs=>(aBuildSlice P t n ((ps.toList.map (·.1)).zip vs)).map (·.2)
 | none=>none
theorem AQ {t:TypeId} {n:Nat} {ps:List (Nat×Value)} {f:gB} (hf:aBuildSlice P t n ps=some f):f.1=fun id=> .slice (some ⟨id,0,none⟩) n n:=by
 unfold aBuildSlice at hf
 split at hf
 ·cases h1:bW P _ with
  | none=>rw [h1] at hf;cases hf
  | some s=>
   rw [h1] at hf
   cases h2:dO P _ with
   | none=>rw [h2] at hf;cases hf
   | some z=>
    rw [h2] at hf
    simp only [Option.bind_some] at hf
    split at hf
    ·obtain ⟨c,_,rfl⟩:=Option.map_eq_some_iff.1 hf
     rfl
    ·cases hf
 ·cases hf
theorem St.x8 (hS:St h0 D Z0 Rv Z h L) {n c s:Nat} {cells:List Value} (hc:c=n∨c=n+1) (hn:n * s=cells.length):
  St h0 D Z0 Rv Z (h.alloc cells s) (.gs (.slice (some ⟨h.next,0,none⟩) n c) cells s::L):=
 hS.alloc cells s _ (.inr ⟨h.next,n,c,rfl,hn,hc,by rw [AH.e5,if_pos rfl]⟩) rfl
theorem c3 {t:TypeId} {n s:Nat} {ps:Array (Nat×Operand)} {cells:List Value} (hb:vK P l t n ps=some (cells,s)):gr P l (.buildSlice t n ps) (fun id=> .slice (some ⟨id,0,none⟩) n n,cells,s):=by
 unfold vK at hb
 cases hv:opvs l (ps.toList.map (·.2)) with
 | none=>rw [hv] at hb;cases hb
 | some vs=>
  rw [hv] at hb
  simp only at hb
  obtain ⟨f,h1,h2⟩:=Option.map_eq_some_iff.1 hb
  have hf:=AQ h1
  refine ⟨rfl,fun e he=>?_⟩
  have j:=iE he _ hv
  have:(ps.toList.map fun p=>(p.1,e.ev p.2))=(ps.toList.map (·.1)).zip vs:=by
   rw [← j,List.map_map,List.zip_map'];rfl
  simp only [aFresh]
  rw [this,h1,← hf,← h2]
theorem dP {cells:List Value} {n s:Nat} (ho:R[k]?=some ⟨g,d,op⟩) (hg:gon l g) (hf:gr P l op (fun id=> .slice (some ⟨id,0,none⟩) n n,cells,s)) (hn:n * s=cells.length) (hS:St h0 D Z0 Rv Z h L)
  (hk:∀ v h',St h0 D Z0 Rv Z h' (.gs v cells s::L)→aW P R (k+1) (bC l d v) h' K):aW P R k l h K:=
 bT ho hg hf.run (hk _ _ (hS.x8 (.inl rfl) hn))
def msTy (P:Program) (t:TypeId):Option (Nat×Nat×List Value):=
 match P.underlying t with
 | some (.slice e)=>(match bW P e,jj P e,dO P e with
  | some s,some b,some z=>if clean z=true∧0<s∧z.cells.toList.length=s then some (s,b,z.cells.toList) else none
  | _,_,_=>none)
 | _=>none
theorem Ai {α:Type} [Cell α] {zc:List Value} {x0:α} (hz:rc Z zc x0):∀ (n:Nat),RCs Z ((List.range (n * aa α)).map fun i=>zc[i % zc.length]!) (List.replicate n x0):=by
 have hl:zc.length=aa α:=Cell.len hz
 have eP:0<aa α:=Cell.pos (α:=α)
 intro n
 induction n with
 | zero=>simp [RCs]
 | succ n ih=>
  have e1:(List.range ((n+1) * aa α)).map (fun i=>zc[i % zc.length]!)=(List.range (n * aa α)).map (fun i=>zc[i % zc.length]!)++zc:=by
   rw [Nat.succ_mul,List.range_add,List.map_append,List.map_map]
   congr 1
   apply List.ext_getElem?
   intro i
   rw [List.getElem?_map]
   rcases Nat.lt_or_ge i (aa α) with q | q
   ·rw [List.getElem?_range q]
    simp only [Option.map_some,Function.comp]
    have:(n * aa α+i) % zc.length=i:=by rw [hl,Nat.mul_comm,Nat.mul_add_mod,Nat.mod_eq_of_lt q]
    rw [this,getElem!_pos zc i (by omega),List.getElem?_eq_getElem (by omega)]
   ·rw [List.getElem?_eq_none (by simpa using q),List.getElem?_eq_none (by omega)];rfl
  rw [e1,List.replicate_succ']
  exact ih.append (RCs.single hz)
theorem pM {α:Type} [Cell α] {t:TypeId} {a b:Operand} {ka kb:IntKind} {n:Int} {bP:Nat} {zc:List Value} {x0:α} (ha:opv l a=some (.int ka n)) (hb:opv l b=some (.int kb n)) (ht:msTy P t=some (aa α,bP,zc))
  (hz:rc Z zc x0) (h1:0≤n) (h2:n * bP≤281474976710656) (I:n≤4611686018427387904):
  ∃ cells,gr P l (.makeSlice t a b) (fun id=> .slice (some ⟨id,0,none⟩) n.toNat n.toNat,cells,aa α)∧RCs Z cells (List.replicate n.toNat x0)∧n.toNat * aa α=cells.length:=by
 have hR:=Ai (Z:=Z) hz n.toNat
 have hlen:=hR.length
 rw [List.length_replicate] at hlen
 refine ⟨_,⟨rfl,fun e he=>?_⟩,hR,hlen.symm⟩
 unfold msTy at ht
 split at ht
 ·rename_i u hu
  split at ht
  ·rename_i s bb z J U ab
   split at ht
   ·rename_i hc
    simp only [Option.some.injEq,Prod.mk.injEq] at ht
    obtain ⟨rfl,rfl,rfl⟩:=ht
    obtain ⟨c1,c2,j⟩:=hc
    simp only [aFresh,he.opv ha,he.opv hb,aMakeSlice,hu,J,U,ab,Option.bind_some]
    rw [if_pos ⟨c1,c2,h1,trivial,by rw [Int.mul_comm];simpa using h2,I⟩]
    simp only [Option.some.injEq,Prod.mk.injEq,true_and,and_true]
    rw [Array.toList_map,Array.toList_range]
    apply List.map_congr_left
    intro i _
    have eP:0<aa α:=Cell.pos (α:=α)
    have b1:z.cells.size=aa α:=by simpa using j
    simp only [j,b1]
    have hm:i % aa α<aa α:=Nat.mod_lt _ eP
    rw [getElem!_pos z.cells (i % aa α) (by omega),getElem!_pos z.cells.toList (i % aa α) (by omega)]
    simp
   ·cases ht
  ·cases ht
 ·cases ht
def appTy (P:Program) (t tx:TypeId):Option (Nat×Nat):=
 match P.underlying t,P.underlying tx with
 | some (.slice e),some dx=>(match bW P e,jj P e,dO P e with
  | some s,some b,some z=>if appKind dx=true∧clean z=true∧0<s∧z.cells.size=s then some (s,b) else none
  | _,_,_=>none)
 | _,_=>none
theorem app_eq {t tx:TypeId} {s bP:Nat} (ht:appTy P t tx=some (s,bP)) {base:Option Addr} {n c:Nat} {x:Value} {m:Nat} {news:List Value} (hx:aNews s x h=some (m,news)) (hb:(n+m) * bP≤140737488355328) (hm:n+m≤4611686018427387904) (ho:news.all Value.oneCell'=true):
  aAppend P t tx (.slice base n c) x h=(if m=0 then some (.slice base n c,h) else
   match base with
   | none=>if n=0∧c=0 then some (.slice (some ⟨h.next,0,none⟩) m (m+1),h.alloc news s) else none
   | some a=>
    if c=n then (h.cv a (n * s)).bind fun cK=>some (.slice (some ⟨h.next,0,none⟩) (n+m) (n+m+1),h.alloc (cK++news) s)
    else if c=n+1∧a.spot=none then (h.ae a.block).bind fun B=>
     if B.own=true∧B.dA=s∧a.off+n * s=B.cells.length then
      some (.slice (some ⟨h.next,0,none⟩) (n+m) (n+m+1),(h.put a.block none).alloc (B.cells.drop a.off++news) s)
     else none
    else none):=by
 unfold appTy at ht
 split at ht
 ·rename_i e dx h1 h2
  split at ht
  ·rename_i s' b z j I J
   split at ht
   ·rename_i hc
    simp only [Option.some.injEq,Prod.mk.injEq] at ht
    obtain ⟨rfl,rfl⟩:=ht
    obtain ⟨c1,c2,U,aa⟩:=hc
    simp only [aAppend,h1,h2,if_pos c1,j,I,J,Option.bind_some,hx]
    rw [if_pos ⟨c2,U,aa,hb,hm,ho⟩]
    rfl
   ·cases ht
  ·cases ht
 ·cases ht
theorem qP (hl:∀ b,h.ae b≠none→b<h.next) (cs:List Value) (z:Nat):∀ b,(h.alloc cs z).ae b≠none→b<(h.alloc cs z).next:=by
 intro b hb
 rw [AH.e5] at hb
 rw [AH.qg]
 by_cases e:b=h.next
 ·omega
 ·rw [if_neg e] at hb;have:=hl b hb;omega
theorem St.append {α:Type} [Cell α] {t tx:TypeId} {bP i:Nat} {v x:Value} {cells news:List Value} {xs ys:List α} (hS:St h0 D Z0 Rv Z h L) (hi:L[i]?=some (.gs v cells (aa α))) (hR:RCs Z cells xs) (hY:RCs Z news ys)
  (ht:appTy P t tx=some (aa α,bP)) (hx:aNews (aa α) x h=some (ys.length,news)) (hb:(xs.length+ys.length) * bP≤140737488355328) (hm:xs.length+ys.length≤4611686018427387904):
  ∃ v' cF h',aAppend P t tx v x h=some (v',h')∧RCs Z cF (xs++ys)∧St h0 D Z0 Rv Z h' (L.set i (.gs v' cF (aa α))):=by
 have hl:=hS.dn hi hR
 have hp:=hS.ok _ (List.mem_of_getElem? hi)
 have hlen:=hR.length
 have qV:=hR.append hY
 have U:=qV.length
 rw [List.length_append,List.length_append] at U
 by_cases nq:ys.length=0
 ·have x9:ys=[]:=List.eq_nil_of_length_eq_zero nq
  subst x9
  have gm:L.set i (.gs v cells (aa α))=L:=by
   obtain ⟨j,J⟩:=List.getElem?_eq_some_iff.1 hi
   rw [← J];exact List.set_getElem_self j
  refine ⟨v,cells,h,?_,by simpa using hR,by rw [gm];exact hS⟩
  cases v with
  | slice base n c=>
   simp only [lenOf,Option.some.injEq] at hl
   subst hl
   rw [app_eq ht hx hb hm hY.one,if_pos nq]
  | _=>cases hl
 ·rcases hp with ⟨rfl,rfl⟩ | ⟨b,n,c,rfl,h1,h2,I⟩
  ·simp only [lenOf,Option.some.injEq] at hl
   have AS:xs=[]:=List.eq_nil_of_length_eq_zero hl.symm
   subst AS
   refine ⟨_,news,h.alloc news (aa α),by rw [show (Value.slice none 0 0)= .slice none ([]:List α).length 0 from rfl,app_eq ht hx hb hm hY.one,if_neg nq];rfl,hY,?_⟩
   refine hS.step hi _ (fun q hq bq=>by rw [AH.e5,if_neg (by omega)]) (.inr ⟨h.next,_,_,rfl,by have:=hY.length;omega, .inr rfl,by rw [AH.e5,if_pos rfl]⟩) (fun q hq=>?_) (Nat.le_succ _) (qP hS.cw _ _) (fun x j _=>j)
   simp only [Itm.ids,List.mem_singleton] at hq
   exact .inr (by omega)
  ·simp only [lenOf,Option.some.injEq] at hl
   subst hl
   have fZ:b<h.next:=hS.cw b (by rw [I];simp)
   have th:(xs.length+ys.length) * aa α=(cells++news).length:=by rw [List.length_append,U]
   by_cases hc:c=xs.length
   ·refine ⟨.slice (some ⟨h.next,0,none⟩) (xs.length+ys.length) (xs.length+ys.length+1),cells++news,h.alloc (cells++news) (aa α),?_,qV,?_⟩
    ·rw [app_eq ht hx hb hm hY.one,if_neg nq]
     simp only [if_pos hc]
     have nf:h.cv ⟨b,0,none⟩ (xs.length * aa α)=some cells:=by
      simp only [AH.cv,I,Option.bind_some]
      rw [if_pos (by omega),List.drop_zero,List.take_of_length_le (by omega)]
     rw [nf];rfl
    ·refine hS.step hi _ (fun q hq bq=>by rw [AH.e5,if_neg (by omega)]) (.inr ⟨h.next,_,_,rfl,th, .inr rfl,by rw [AH.e5,if_pos rfl]⟩) (fun q hq=>?_) (Nat.le_succ _) (qP hS.cw _ _) (fun x j _=>j)
     simp only [Itm.ids,List.mem_singleton] at hq
     exact .inr (by omega)
   ·have ab:c=xs.length+1:=by omega
    refine ⟨.slice (some ⟨h.next,0,none⟩) (xs.length+ys.length) (xs.length+ys.length+1),cells++news,(h.put b none).alloc (cells++news) (aa α),?_,qV,?_⟩
    ·rw [app_eq ht hx hb hm hY.one,if_neg nq]
     simp only [if_neg hc]
     rw [if_pos ⟨ab,trivial⟩,I]
     simp only [Option.bind_some]
     rw [if_pos ⟨trivial,trivial,by omega⟩,List.drop_zero]
    ·refine hS.step hi _ (fun q hq bq=>?_) (.inr ⟨h.next,_,_,rfl,th, .inr rfl,by rw [AH.e5,AH.mP,if_pos rfl]⟩) (fun q hq=>?_) (Nat.le_succ _) (qP (oe hS.cw (by rw [I];simp)) _ _) (fun x j J=>?_)
     ·rw [AH.e5,AH.mP,if_neg (by omega),AH.gD,if_neg (by simpa [Itm.ids] using hq)]
     ·simp only [Itm.ids,List.mem_singleton] at hq
      exact .inr (by omega)
     ·rw [AH.Dh,AH.lb]
      have:=J b (by simp [Itm.ids])
      split<;>omega
theorem dM {α:Type} [Cell α] {t tx:TypeId} {a b:Operand} {bP i:Nat} {v x:Value} {cells news:List Value} {xs ys:List α} (hS:St h0 D Z0 Rv Z h L) (hi:L[i]?=some (.gs v cells (aa α))) (hR:RCs Z cells xs)
  (hN:aNews (aa α) x h=some (ys.length,news)∧RCs Z news ys) (ha:opv l a=some v) (hb:opv l b=some x) (ht:appTy P t tx=some (aa α,bP)) (oS:(xs.length+ys.length) * bP≤140737488355328) (hm:xs.length+ys.length≤4611686018427387904):
  ∃ v' cF h',b5 P l (.call ⟨.builtin .append,#[a,b],#[t,tx]⟩) h v' h'∧RCs Z cF (xs++ys)∧St h0 D Z0 Rv Z h' (L.set i (.gs v' cF (aa α))):=by
 obtain ⟨v',cF,h',h1,h2,j⟩:=hS.append hi hR hN.2 ht hN.1 oS hm
 refine ⟨v',cF,h',fun e he=>?_,h2,j⟩
 simp only [aOp,List.map_cons,List.map_nil,he.opv ha,he.opv hb,aBuiltin,h1]
theorem RS.news {α:Type} [Cell α] {v:Value} {xs:List α} (hR:RS Z v xs) (hI:Inv Z h):∃ news,aNews (aa α) v h=some (xs.length,news)∧RCs Z news xs:=by
 obtain ⟨a,c,rfl,h2,j⟩:=hR
 cases a with
 | none=>
  subst j
  exact ⟨[],rfl,rfl⟩
 | some a=>
  obtain ⟨I,all,J,ae,U⟩:=j
  obtain ⟨B,ab,ad⟩:=hI.b2 _ _ J
  refine ⟨_,?_,U⟩
  simp only [aNews,AH.cv,I,ab,Option.bind_some]
  rw [ad,if_pos (by omega)];rfl
theorem St.eI {α:Type} [Cell α] {v:Value} {cells:List Value} {xs:List α} {j:Nat} (hS:St h0 D Z0 Rv Z h L) (hi:L[j]?=some (.gs v cells (aa α))) (hR:RCs Z cells xs):aNews (aa α) v h=some (xs.length,cells)∧RCs Z cells xs:=by
 have hl:=hS.dn hi hR
 have hlen:=hR.length
 refine ⟨?_,hR⟩
 rcases hS.ok _ (List.mem_of_getElem? hi) with ⟨rfl,rfl⟩ | ⟨b,n,c,rfl,h1,h2,I⟩
 ·simp only [lenOf,Option.some.injEq] at hl
  rw [← hl];rfl
 ·simp only [lenOf,Option.some.injEq] at hl
  subst hl
  simp only [aNews,AH.cv,I,Option.bind_some]
  rw [if_pos (by omega),List.drop_zero,List.take_of_length_le (by omega)];rfl
def loIs (l:KL) (x:Option Operand) (a:Int):Prop:=match x with | none=>a=0 | some y=>∃ kd,opv l y=some (.int kd a)
def nF (l:KL) (x:Option Operand) (a:Int) (n:Nat):Prop:=match x with | none=>a=n | some y=>∃ kd,opv l y=some (.int kd a)
theorem rD {e:Env} (he:cj e l) {lo hi:Option Operand} {a b:Int} {n:Nat} (g8:loIs l lo a) (jc:nF l hi b n) (h1:0≤a) (h2:a≤b) (j:b≤n):aBounds n (lo.map e.ev) (hi.map e.ev) none=some (a.toNat,b.toNat,none):=by
 have low:∀ m:Nat,(m:Int)=b→aLow m none (lo.map e.ev)=some (a.toNat,m,none):=by
  intro m hm
  cases lo with
  | none=>simp only [loIs] at g8;subst g8;rfl
  | some y=>
   obtain ⟨kd,hy⟩:=g8
   simp only [Option.map_some,he.opv hy,aLow,aBnd]
   rw [if_pos ⟨h1,by omega⟩];rfl
 cases hi with
 | none=>
  simp only [nF] at jc
  subst jc
  simp only [Option.map_none,aBounds]
  rw [low n rfl];simp
 | some y=>
  obtain ⟨kd,hy⟩:=jc
  simp only [Option.map_some,he.opv hy,aBounds,aBnd]
  rw [if_pos ⟨by omega,j⟩]
  simp only [Option.bind_some]
  rw [low b.toNat (by omega)]
theorem add_eq (a:Addr) (n:Nat) (hs:a.spot=none):a.add n=⟨a.block,a.off+n,none⟩:=by
 cases a
 simp only at hs
 subst hs
 unfold Addr.add
 split
 ·rename_i h;subst h;rfl
 ·rfl
theorem RS.part {α:Type} [Cell α] {v:Value} {xs:List α} (hR:RS Z v xs) {a b c':Nat} (h1:a≤b) (h2:b≤xs.length) (hc:b - a≤c'):∀ base,(∃ n c,v= .slice base n c)→RS Z (match base with | none=> .slice none (b - a) c' | some ad=> .slice (some (ad.add (a * aa α))) (b - a) c') ((xs.take b).drop a):=by
 rintro base ⟨n,c,hv⟩
 obtain ⟨a0,c0,rfl,af,I⟩:=hR
 injection hv with e1 J U
 subst e1 J U
 have hlen:((xs.take b).drop a).length=b - a:=by rw [List.length_drop,List.length_take];omega
 cases a0 with
 | none=>
  subst I
  refine ⟨none,c',by simp only [hlen],by rw [hlen];exact hc,by simp⟩
 | some ad=>
  obtain ⟨j,all,ab,ag,ae⟩:=I
  have hm:b * aa α≤xs.length * aa α:=Nat.mul_le_mul_right _ h2
  have ah:(b - a) * aa α+a * aa α=b * aa α:=by rw [← Nat.add_mul,Nat.sub_add_cancel h1]
  refine ⟨some (ad.add (a * aa α)),c',by simp only [hlen],by rw [hlen];exact hc,?_,all,by rw [add_eq _ _ j];exact ab,?_,?_⟩
  ·rw [add_eq _ _ j]
  ·rw [hlen,add_eq _ _ j];show ad.off+a * aa α+_≤_;omega
  ·rw [hlen,add_eq _ _ j]
   have:=(ae.take b).drop a
   rw [List.take_take,Nat.min_eq_left hm,List.drop_take,List.drop_drop] at this
   have e:b * aa α - a * aa α=(b - a) * aa α:=by omega
   rw [e] at this
   exact this
theorem iW {α:Type} [Cell α] {t:TypeId} {x:Operand} {lo hi:Option Operand} {v:Value} {xs:List α} {a b:Int} (hR:RS Z v xs) (hx:opv l x=some v) (ht:slTy P t=some (aa α)) (g8:loIs l lo a) (jc:nF l hi b xs.length)
  (h1:0≤a) (h2:a≤b) (j:b≤xs.length):
  ∃ v',b5 P l (.slice t x lo hi none) h v' h∧RS Z v' ((xs.take b.toNat).drop a.toNat):=by
 obtain ⟨base,c,rfl,J,I⟩:=id hR
 have hp:=hR.part (a:=a.toNat) (b:=b.toNat) (c':=if c=xs.length∧b.toNat=xs.length then b.toNat - a.toNat else b.toNat - a.toNat+2) (by omega) (by omega) (by split<;>omega) base ⟨_,_,rfl⟩
 refine ⟨_,fun e he=>?_,hp⟩
 unfold slTy at ht
 split at ht
 ·rename_i u hu
  simp only [aOp,he.opv hx,aSlice,hu,ht,Option.bind_some,Option.map_none,rD he g8 jc h1 h2 j]
  cases base with
  | none=>rfl
  | some ad=>simp only [I.1];rfl
 ·cases ht
theorem dy {f:Operand} {cY:Array Operand} {ts:Array TypeId} {fi:FuncId} {first captured:Array Value} {vs args:List Value} {v:Value} (hc:bS P fi args h=some (v,h')) (hf:opv l f=some (.func (.func fi) first captured)) (ha:opvs l cY.toList=some vs)
  (dU:first.toList++vs++captured.toList=args):b5 P l (.call ⟨.value f,cY,ts⟩) h v h':=by
 intro e he
 simp only [aOp,he.opv hf,iE he _ ha,dU,hc]
def ResL (P:Program) (l:KL) (h:AH):List ResultVar→List Value→Prop
 | [],vs=>vs=[]
 | r::rs,vs=>∃ v cO,vs=v::cO∧(∀ e,cj e l→aResult P e h r=some v)∧ResL P l h rs cO
theorem ResL.run {e:Env} (he:cj e l):∀ {rs:List ResultVar} {vs:List Value},ResL P l h rs vs→rs.mapM (aResult P e h)=some vs:=by
 intro rs
 induction rs with
 | nil=>intro vs hr;simp only [ResL] at hr;subst hr;rfl
 | cons r rs ih=>
  rintro vs ⟨v,cO,rfl,h1,h2⟩
  rw [List.mapM_cons,h1 e he,ih h2];rfl
theorem ResL.nil:ResL P l h [] []:=rfl
theorem ResL.tmp {t:Nat} {v:Value} {rs:List ResultVar} {vs:List Value} (hv:lk l t=some v) (hr:ResL P l h rs vs):ResL P l h (.tmp t::rs) (v::vs):=
 ⟨v,vs,rfl,fun e he=>by simp only [aResult,he t v hv],hr⟩
theorem ResL.cell {t:TypeId} {a b i:Nat} {v:Value} {cells:List Value} {rs:List ResultVar} {vs:List Value} (ha:lk l a=some (.pointer (some ⟨b,0,none⟩))) (hS:St h0 D Z0 Rv Z h L) (hi:L[i]?=some (.ae b cells)) (hv:ldB P t 0 cells=some v) (hr:ResL P l h rs vs):ResL P l h (.cell a t::rs) (v::vs):=by
 refine ⟨v,vs,rfl,fun e he=>?_,hr⟩
 obtain ⟨z,hz⟩:=hS.ok _ (List.mem_of_getElem? hi)
 simp only [aResult,he a _ ha]
 exact lq (h:=h) (a:=⟨b,0,none⟩) (off:=0) (cells:=cells) rfl hz hv (fun _ _ _=>trivial) (fun i _=>rfl) (by show 0+(cells.length - 0)≤cells.length;omega)
def tupV:List Value→Value
 | [v]=>v
 | vs=> .tuple vs.toArray
def Fin (P:Program) (fn:Func) (hs:AH) (A:List Itm) (Z:Zn) (Q:Value→Zn→List Itm→Prop) (l:KL) (h1:AH):Prop:=
 ∃ vs Z' A',ResL P l h1 fn.results.toList vs∧St hs (aR A) Z (0,0) Z' h1 A'∧Q (tupV vs) Z' A'
theorem AM {A:List Itm} {f:FuncId} {fn:Func} {args:List Value} {Q:Value→Zn→List Itm→Prop} (hf:P.funcs[f]?=some fn) (hb:fn.body.isSome=true) (hn:Nat.ble args.length fn.ntmps=true) (mu:gI P fn=false) (hP:Pre Z h A)
  (hw:∀ hs,St hs (aR A) Z (0,0) Z hs A→W P (iQ fn) (argsL 0 args) hs (Fin P fn hs A Z Q) (fun x l h=>x= .ret∧Fin P fn hs A Z Q l h)):
  ∃ v h' Z' A',bS P f args h=some (v,h')∧St h (aR A) Z (0,0) Z' h' A'∧Q v Z' A':=by
 obtain ⟨c,hc⟩:=Option.isSome_iff_exists.1 hb
 have r5:iQ fn=c:=by simp [iQ,hc]
 rw [r5] at hw
 have main:∀ e l h1,cj e l→Fin P fn {h with low:=h.next} A Z Q l h1→∃ v,aResults P fn.results.toList e h1=some v∧∃ Z' A',St h (aR A) Z (0,0) Z' (e4 (gI P fn) h v h1).2 A'∧Q v Z' A':=by
  rintro e l h1 he ⟨vs,Z',A',hr,hS,hq⟩
  refine ⟨tupV vs,?_,Z',A',?_,hq⟩
  ·simp only [aResults,hr.run he,Option.map_some,Option.some.injEq]
   unfold tupV
   split
   ·rfl
   ·rename_i bU;split
    ·rename_i q;exact absurd rfl (bU _)
    ·rfl
  ·rw [mu]
   simp only [e4]
   rw [if_neg (fun q=>by cases q.1)]
   exact hS.leave
 obtain ⟨v,h',h1,Z',A',h2,j⟩:=tc (P:=P) (h:=h) (Q:=fun v h'=>∃ Z' A',St h (aR A) Z (0,0) Z' h' A'∧Q v Z' A') hf hc (Nat.le_of_ble_eq_true hn)
  (Am.wp_mono (hw _ hP.start _ (cj.args args)) (fun e h1 ⟨l,he,j9⟩=>main e l h1 he j9) (fun x e h1 ⟨l,he,hx,j9⟩=>⟨hx,main e l h1 he j9⟩))
 exact ⟨v,h',Z',A',h1,h2,j⟩
theorem St.shrink (hS:St h0 D Z Rv Z' h L):St h0 D Z Rv Z h []:=
 {hS with
  b2:=fun b cs hz=>hS.b2 b cs (hS.ag b cs hz)
  ok:=fun p hp=>by cases hp
  dj:=List.Pairwise.nil
  dz:=fun p hp=>by cases hp
  new:=fun p hp=>by cases hp
  ag:=aM.refl _
  e2:=fun b hb=> .inl hb}
theorem Inv.st (hI:Inv Z h):St h [] Z (0,0) Z h [] where
 b2:=hI.b2
 cw:=hI.cw
 ok p hp:=by cases hp
 dj:=List.Pairwise.nil
 dz p hp:=by cases hp
 aH b _ _:=rfl
 c9:=Nat.le_refl _
 new p hp:=by cases hp
 low x h1 _ _:=h1
 ag:=aM.refl _
 e2 b hb:= .inl hb
 eG b _ h2:=absurd h2 (Nat.not_lt_zero _)
 dR:=Nat.zero_le _
 eL:= .inr rfl
theorem EX {f:FuncId} {fn:Func} {args:List Value} {Q:Value→Prop} (hf:P.funcs[f]?=some fn) (hb:fn.body.isSome=true) (hn:Nat.ble args.length fn.ntmps=true) (hI:Inv Z h)
  (hw:∀ hs,St hs [] Z (0,0) Z hs []→W P (iQ fn) (argsL 0 args) hs (Fin P fn hs [] Z (fun v _ _=>Q v)) (fun x l h=>x= .ret∧Fin P fn hs [] Z (fun v _ _=>Q v) l h)):
  ∃ v h',bS P f args h=some (v,h')∧St h [] Z (0,0) Z h' []∧Q v:=by
 obtain ⟨c,hc⟩:=Option.isSome_iff_exists.1 hb
 have r5:iQ fn=c:=by simp [iQ,hc]
 rw [r5] at hw
 have main:∀ e l h1,cj e l→Fin P fn {h with low:=h.next} [] Z (fun v _ _=>Q v) l h1→∃ v,aResults P fn.results.toList e h1=some v∧St h [] Z (0,0) Z (e4 (gI P fn) h v h1).2 []∧Q v:=by
  rintro e l h1 he ⟨vs,Z',A',hr,hS,hq⟩
  refine ⟨tupV vs,?_,?_,hq⟩
  ·simp only [aResults,hr.run he,Option.map_some,Option.some.injEq]
   unfold tupV
   split
   ·rfl
   ·rename_i bU;split
    ·rename_i q;exact absurd rfl (bU _)
    ·rfl
  ·unfold e4
   split
   ·exact hI.st
   ·exact (hS.leave).shrink
 obtain ⟨v,h',h1,h2,j⟩:=tc (P:=P) (h:=h) (Q:=fun v h'=>St h [] Z (0,0) Z h' []∧Q v) hf hc (Nat.le_of_ble_eq_true hn)
  (Am.wp_mono (hw _ hI.start _ (cj.args args)) (fun e h1 ⟨l,he,j9⟩=>main e l h1 he j9) (fun x e h1 ⟨l,he,hx,j9⟩=>⟨hx,main e l h1 he j9⟩))
 exact ⟨v,h',h1,h2,j⟩
end
end Go.Proofs.Ytcilejikekccmaa.Sy
namespace Go.Proofs.Ytcilejikekccmaa.Sy
open Go Am
open Cell (rc)
theorem ifs {α:Type} {p:Prop} [Decidable p] {a b:Option α} {r:α} (h:(if p then a else b)=some r):(p∧a=some r)∨(¬ p∧b=some r):=by
 by_cases hp:p
 ·rw [if_pos hp] at h;exact .inl ⟨hp,h⟩
 ·rw [if_neg hp] at h;exact .inr ⟨hp,h⟩
theorem aJ {α:Type} {p:Prop} [Decidable p] {a:Option α} {r:α} (h:(if p then a else none)=some r):p∧a=some r:=by
 by_cases hp:p
 ·rw [if_pos hp] at h;exact ⟨hp,h⟩
 ·rw [if_neg hp] at h;cases h
theorem ah {α β:Type} {x:Option α} {f:α→Option β} {r:β} (h:x.bind f=some r):∃ a,x=some a∧f a=some r:=Option.bind_eq_some_iff.1 h
abbrev af (x:Int):Int:=IntKind.i64.wrap x
abbrev w8 (x:Int):Int:=IntKind.u8.wrap x
theorem a8 {x:Int} (h0: -9223372036854775808≤x) (h1:x<9223372036854775808):af x=x:=by
 unfold af IntKind.wrap
 have hb:(2:Int) ^ IntKind.i64.bits=18446744073709551616:=by decide
 have j:(2:Int) ^ (IntKind.i64.bits - 1)=9223372036854775808:=by decide
 have hs:IntKind.i64.signed=true:=rfl
 simp only [hb,j,hs,Bool.true_and,decide_eq_true_eq]
 split<;>omega
abbrev imax (x y:Int):Int:=if y>x then y else x
abbrev dC (x y:Int):Int:=if y<x then y else x
structure ar where
 b:List UInt8
 deriving DecidableEq,Inhabited
section
variable {P:Program} {l:KL} {h h':AH} {t t2:TypeId} {x y:Operand} {k:IntKind} {a b:Int} {o:BinOp} {w:Bool} {u v:Value}
theorem a9 (hx:opv l x=some u) (hy:opv l y=some v) (hv:aBin P o t u v=some (.bool w)):b5 P l (.binOp o t x y t2) h (.bool w) h:=by
 intro e he
 simp only [aOp,he.opv hx,he.opv hy,hv,Option.map_some]
theorem l2 (q:a<b):aBin P .lss t (.int k a) (.int k b)=some (.bool true):=by simp [aBin,aInt,q]
theorem lG (q:¬ a<b):aBin P .lss t (.int k a) (.int k b)=some (.bool false):=by simp [aBin,aInt];omega
theorem p9 (q:a≤b):aBin P .leq t (.int k a) (.int k b)=some (.bool true):=by simp [aBin,aInt,q]
theorem rq (q:¬ a≤b):aBin P .leq t (.int k a) (.int k b)=some (.bool false):=by simp [aBin,aInt];omega
theorem jG (q:b<a):aBin P .gtr t (.int k a) (.int k b)=some (.bool true):=by simp [aBin,aInt,q]
theorem jD (q:¬ b<a):aBin P .gtr t (.int k a) (.int k b)=some (.bool false):=by simp [aBin,aInt];omega
theorem il (q:b≤a):aBin P .geq t (.int k a) (.int k b)=some (.bool true):=by simp [aBin,aInt,q]
theorem ig (q:¬ b≤a):aBin P .geq t (.int k a) (.int k b)=some (.bool false):=by simp [aBin,aInt];omega
theorem eV (q:a=b):aBin P .eql t (.int k a) (.int k b)=some (.bool true):=by simp [aBin,aInt,q]
theorem eX (q:¬ a=b):aBin P .eql t (.int k a) (.int k b)=some (.bool false):=by simp [aBin,aInt,q]
theorem uX (q:¬ a=b):aBin P .neq t (.int k a) (.int k b)=some (.bool true):=by simp [aBin,aInt,q]
theorem sV (q:a=b):aBin P .neq t (.int k a) (.int k b)=some (.bool false):=by simp [aBin,aInt,q]
theorem zV {a b:ar} (q:a=b):aBin P .eql t (.string ⟨⟨a.b⟩⟩) (.string ⟨⟨b.b⟩⟩)=some (.bool true):=by subst q;simp [aBin,aStr]
theorem A4 {a b:ar} (q:¬ a=b):aBin P .eql t (.string ⟨⟨a.b⟩⟩) (.string ⟨⟨b.b⟩⟩)=some (.bool false):=by
 have:a.b≠b.b:=fun e=>q (by cases a;cases b;simp_all)
 simp [aBin,aStr,ByteArray.toList_eq,this]
end
section
variable {Z Z':Zn}
instance:Cell Int where
 size:=1
 rc _ cs x:=cs=[.int .i64 x]
 len h:=by rw [h];rfl
 mono _ h:=h
 one h:=by rw [h];rfl
 pos:=by decide
instance:Cell UInt8 where
 size:=1
 rc _ cs x:=cs=[.int .u8 (x.toNat:Int)]
 len h:=by rw [h];rfl
 mono _ h:=h
 one h:=by rw [h];rfl
 pos:=by decide
instance:Cell Bool where
 size:=1
 rc _ cs x:=cs=[.bool x]
 len h:=by rw [h];rfl
 mono _ h:=h
 one h:=by rw [h];rfl
 pos:=by decide
instance:Cell ar where
 size:=1
 rc _ cs x:=cs=[.string ⟨⟨x.b⟩⟩]
 len h:=by rw [h];rfl
 mono _ h:=h
 one h:=by rw [h];rfl
 pos:=by decide
instance {α:Type} [Cell α]:Cell (List α) where
 size:=1
 rc Z cs xs:=∃ v,RS Z v xs∧cs=[v]
 len h:=by obtain ⟨v,_,h⟩:=h;rw [h];rfl
 mono hz h:=by obtain ⟨v,h1,h2⟩:=h;exact ⟨v,h1.mono hz,h2⟩
 one h:=by obtain ⟨v,⟨a,c,h1,_⟩,h2⟩:=h;subst h2 h1;rfl
 pos:=by decide
theorem dw {α:Type} {xs:List α} {i:Nat} {x:α} (h:xs[i]?=some x):0<xs.length:=by
 cases xs with
 | nil=>simp at h
 | cons a l=>simp
theorem zO {α:Type} [Cell α] {v:Value} {xs:List α} (hR:RS Z v xs):(xs=[]∧∃ c,v= .slice none 0 c)∨∃ ad n c,v= .slice (some ad) n c:=by
 obtain ⟨a,c,rfl,h2,j⟩:=hR
 cases a with
 | none=>subst j;exact .inl ⟨rfl,c,rfl⟩
 | some a=>exact .inr ⟨a,_,c,rfl⟩
theorem xL {P:Program} {t:TypeId} {v:Value} (ht:∃ e,P.underlying t=some (.slice e)) (hv:∃ c,v= .slice none 0 c):aBin P .eql t v (.slice none 0 0)=some (.bool true):=by
 obtain ⟨e,he⟩:=ht
 obtain ⟨c,rfl⟩:=hv
 simp only [aBin,aEqTop,l0,aEq,he];rfl
theorem za {P:Program} {t:TypeId} {v:Value} (ht:∃ e,P.underlying t=some (.slice e)) (hv:∃ ad n c,v= .slice (some ad) n c):aBin P .eql t v (.slice none 0 0)=some (.bool false):=by
 obtain ⟨e,he⟩:=ht
 obtain ⟨ad,n,c,rfl⟩:=hv
 simp only [aBin,aEqTop,l0,aEq,he];rfl
theorem ji {cs:List Value} {x:Int} (h:rc Z cs x):cs=[.int .i64 x]:=h
theorem pC {cs:List Value} {x:UInt8} (h:rc Z cs x):cs=[.int .u8 (x.toNat:Int)]:=h
theorem BR {cs:List Value} {x:Bool} (h:rc Z cs x):cs=[.bool x]:=h
theorem RS.bu {α:Type} [Cell α] (Z:Zn):RS Z (.slice none 0 0) ([]:List α):=⟨none,0,rfl,Nat.le_refl _,rfl⟩
theorem RCs.bu {α:Type} [Cell α] (Z:Zn):RCs Z [] ([]:List α):=rfl
theorem St.takeN {h0 h:AH} {D:List Nat} {Z0:Zn} {R:Nat×Nat} {L:List Itm} (n:Nat) (hS:St h0 D Z0 R Z h L):St h0 D Z0 R Z h (L.take n):=
 {hS with
  ok:=fun p hp=>hS.ok p (List.mem_of_mem_take hp)
  dj:=hS.dj.sublist (List.take_sublist n L)
  dz:=fun p hp=>hS.dz p (List.mem_of_mem_take hp)
  new:=fun p hp=>hS.new p (List.mem_of_mem_take hp)}
end
section
variable {P:Program} {h0 h:AH} {D:List Nat} {Z0 Z:Zn} {R:Nat×Nat} {L:List Itm} {α:Type} [Cell α] {v:Value} {cells:List Value} {xs:List α} {s:Nat}
theorem RS.rO (hR:RS Z v xs):v.cells.toList=[v]:=by obtain ⟨a,c,rfl,_⟩:=hR;rfl
theorem RS.c7 (hR:RS Z v xs):Value.oneCell' v=true:=by obtain ⟨a,c,rfl,_⟩:=hR;rfl
theorem St.fE {i:Nat} (hS:St h0 D Z0 R Z h L) (hi:L[i]?=some (.gs v cells s)):v.cells.toList=[v]:=by
 rcases hS.ok _ (List.mem_of_getElem? hi) with ⟨rfl,_⟩ | ⟨b,n,c,rfl,_⟩<;>rfl
theorem St.fF {i:Nat} (hS:St h0 D Z0 R Z h L) (hi:L[i]?=some (.gs v cells s)):Value.oneCell' v=true:=by
 rcases hS.ok _ (List.mem_of_getElem? hi) with ⟨rfl,_⟩ | ⟨b,n,c,rfl,_⟩<;>rfl
theorem cm:([]:List Value).all Value.oneCell'=true:=rfl
theorem br {a:Value} {l:List Value} (h1:Value.oneCell' a=true) (h2:l.all Value.oneCell'=true):(a::l).all Value.oneCell'=true:=by rw [List.all_cons,h1,h2];rfl
theorem St.eF {A B:List Itm} (hS:St h0 D Z0 R Z h (A++B)):Pre Z h A where
 b2:=hS.b2
 cw:=hS.cw
 ok p hp:=hS.ok p (List.mem_append_left _ hp)
 dj:=(List.pairwise_append.1 hS.dj).1
 dz p hp:=hS.dz p (List.mem_append_left _ hp)
end
theorem p4 {P:Program} {R:List aN} {k:Nat} {l:KL} {h:AH} {K:KL→AH→Prop} {g:Option (Option Nat×Bool)} {d:Option Nat} {op:Op} {h0:AH} {D:List Nat} {Z0 Z:Zn} {Rv:Nat×Nat} {L:List Itm} {α:Type} [Cell α] {n:Nat} {xs:List α}
  (ho:R[k]?=some ⟨g,d,op⟩) (hg:gon l g) (hx:∃ cells,gr P l op (fun id=> .slice (some ⟨id,0,none⟩) n n,cells,aa α)∧RCs Z cells xs∧n * aa α=cells.length) (hS:St h0 D Z0 Rv Z h L)
  (hk:∀ v cells h',RCs Z cells xs→St h0 D Z0 Rv Z h' (.gs v cells (aa α)::L)→aW P R (k+1) (bC l d v) h' K):aW P R k l h K:=by
 obtain ⟨cells,h1,h2,j⟩:=hx
 exact dP ho hg h1 j hS fun v h' rS=>hk v cells h' h2 rS
def CA:List Value→List (List Value)→Prop
 | [],dc=>dc=[]
 | v::vs,dc=>∃ cs o8,dc=cs::o8∧v.cells.toList=cs∧CA vs o8
theorem CA.bu:CA [] []:=rfl
theorem CA.cons {v:Value} {vs:List Value} {cs:List Value} {dc:List (List Value)} (h:v.cells.toList=cs) (k:CA vs dc):CA (v::vs) (cs::dc):=⟨cs,dc,rfl,h,k⟩
theorem v8 {place:Nat→Option (Nat×Nat)}:∀ (ids:List Nat) (vs:List Value) (dc:List (List Value)) (cells:Array Value),CA vs dc→
  Instr.fill place cells (ids.zip vs)=Instr.fill place cells (ids.zip (dc.map fun cs=> .agg cs.toArray)):=by
 intro ids
 induction ids with
 | nil=>intro vs dc cells _;rfl
 | cons i ids ih=>
  intro vs dc cells hc
  cases vs with
  | nil=>simp only [CA] at hc;subst hc;rfl
  | cons v vs=>
   obtain ⟨cs,o8,rfl,h1,h2⟩:=hc
   have hv:v.cells=(Value.agg cs.toArray).cells:=by
    show v.cells=cs.toArray
    rw [← h1]
   simp only [List.map_cons,List.zip_cons_cons,Instr.fill,hv]
   split
   ·rfl
   ·split
    ·rfl
    ·exact ih vs o8 _ h2
theorem jK {P:Program} {l:KL} {h:AH} {t:TypeId} {ps:Array (Nat×Operand)} {vs:List Value} {dc:List (List Value)} {v:Value} (gC:opvs l (ps.toList.map (·.2))=some vs) (hc:CA vs dc)
  (hb:aBuild P t ((ps.toList.map (·.1)).zip (dc.map fun cs=> .agg cs.toArray))=some v):b5 P l (.build t ps) h v h:=by
 intro e he
 have j:=iE he _ gC
 have:(ps.toList.map fun p=>(p.1,e.ev p.2))=(ps.toList.map (·.1)).zip vs:=by
  rw [← j,List.map_map,List.zip_map'];rfl
 simp only [aOp]
 rw [this]
 have:aBuild P t ((ps.toList.map (·.1)).zip vs)=some v:=by
  rw [← hb]
  unfold aBuild
  simp only [v8 _ _ _ _ hc]
 rw [this];rfl
section
variable {P:Program} {l:KL} {h h':AH}
def cvTy (P:Program) (s d:TypeId):Option IntKind:=match P.underlying s,P.underlying d with | some _,some (.int k)=>some k | _,_=>none
theorem DJ {s d:TypeId} {x:Operand} {k kk:IntKind} {n:Int} (hx:opv l x=some (.int kk n)) (ht:cvTy P s d=some k):b5 P l (.convert s d x) h (.int k (k.wrap n)) h:=by
 intro e he
 unfold cvTy at ht
 split at ht
 ·rename_i a b h1 h2
  simp only [Option.some.injEq] at ht
  subst ht
  simp only [aOp,he.opv hx,aConvert,h1,h2]
 ·cases ht
theorem yu {t t2:TypeId} {x y:Operand} {k:IntKind} {a b:Int} (hb:b≠0) (hx:opv l x=some (.int k a)) (hy:opv l y=some (.int k b)):b5 P l (.binOp .rem t x y t2) h (.int k (a.tmod b)) h:=by
 intro e he
 simp only [aOp,he.opv hx,he.opv hy,aBin,aInt,if_true,if_neg hb,Option.map_some]
theorem CI {t t2:TypeId} {x y:Operand} {k:IntKind} {a b:Int} (hb:b≠0) (hx:opv l x=some (.int k a)) (hy:opv l y=some (.int k b)):b5 P l (.binOp .quo t x y t2) h (.int k (k.wrap (a.tdiv b))) h:=by
 intro e he
 simp only [aOp,he.opv hx,he.opv hy,aBin,aInt,if_true,if_neg hb,Option.map_some]
end
end Go.Proofs.Ytcilejikekccmaa.Sy
namespace Go.Proofs.Ytcilejikekccmaa.Sy
open Go Am
open Cell (rc)
section
variable {P:Program}
theorem qo (ps:List Nat) (i j:Nat):ordered ps i j=ordered ps j i:=by unfold ordered;rw [Bool.or_comm]
theorem Bs:fM (bS P):=by
 intro f a h v h' hh
 obtain ⟨k,hk⟩:=qW hh
 exact vC (P:=P) (fun f a h v h' hh=>by cases hh) k f a h v h' hk
variable {h0 h h' h1:AH} {D:List Nat} {Z0 Z Z':Zn} {Rv:Nat×Nat} {L L':List Itm}
theorem St.tE (hS:St h0 D Z0 Rv Z h L) (n:Nat):St h0 D Z0 (h.next,h.next+n) Z {h with next:=h.next+n} L:=
 {hS with
  b2:=hS.b2
  ok:=fun p hp=>Itm.jY (hS.ok p hp) fun _ _=>rfl
  cw:=fun b hb=>Nat.lt_of_lt_of_le (hS.cw b hb) (Nat.le_add_right _ _)
  aH:=hS.aH
  c9:=Nat.le_trans hS.c9 (Nat.le_add_right _ _)
  low:=hS.low
  eG:=fun b h1 _=>by
   show h.ae b=none
   cases hb:h.ae b with
   | none=>rfl
   | some B=>have:=hS.cw b (by rw [hb];simp);simp only at h1;omega
  dR:=Nat.le_refl _
  eL:= .inl hS.c9}
theorem St.aY (hS:St h0 D Z0 Rv Z h L):St h0 D Z0 (0,0) Z h L:=
 {hS with
  eG:=fun b _ h2=>absurd h2 (Nat.not_lt_zero _)
  dR:=Nat.zero_le _
  eL:= .inr rfl}
theorem St.shr (hS:St h0 D Z0 Rv Z h L) {lo:Nat} (hl:Rv.1≤lo) (hz:h0.next≤Rv.1):St h0 D Z0 (lo,Rv.2) Z h L:=
 {hS with
  eG:=fun b h1 h2=>hS.eG b (Nat.le_trans hl h1) h2
  dR:=hS.dR
  eL:= .inl (Nat.le_trans hz hl)}
theorem St.cM (hS:St h0 D Z0 Rv Z h L):St h0 D Z0 Rv Z {h with low:=h.next} L:=
 {hS with
  b2:=hS.b2
  ok:=fun p hp=>Itm.jY (hS.ok p hp) fun _ _=>rfl
  cw:=hS.cw
  aH:=hS.aH
  c9:=hS.c9
  low:=fun x h1 h2 j=>Nat.le_trans h2 hS.c9
  eG:=hS.eG
  dR:=hS.dR
  eL:=hS.eL}
theorem St.tO (hS:St h0 D Z0 Rv Z h L) (j:St h0 D Z0 Rv Z' h1 L'):St h0 D Z0 Rv Z' {h1 with low:=if h1.low<h.low then h1.low else h.low} L':=
 {j with
  b2:=j.b2
  ok:=fun p hp=>Itm.jY (j.ok p hp) fun _ _=>rfl
  cw:=j.cw
  aH:=j.aH
  c9:=j.c9
  low:=fun x I J U=>by
   have a:=hS.low x I J U
   have b:=j.low x I J U
   show x≤if h1.low<h.low then h1.low else h.low
   split<;>omega
  eG:=j.eG
  dR:=j.dR
  eL:=j.eL}
theorem St.vv (hS:St h0 D Z0 Rv Z h L) {b:Nat} (h1:Rv.1≤b) (h2:b<Rv.2) (cs:List Value) (z:Nat) (q:Itm) (ez:q.ids=[b]) (hq:q.ok {h with t:=h.t.set b (some ⟨cs,true,z⟩)}):
  St h0 D Z0 (b+1,Rv.2) Z {h with t:=h.t.set b (some ⟨cs,true,z⟩)} (q::L):=by
 have hz:h0.next≤Rv.1:=by rcases hS.eL with q | q<;>omega
 have qO:=hS.eG b h1 h2
 have j:=hS.shr (lo:=b+1) (by omega) hz
 have fN:∀ c,AH.ae {h with t:=h.t.set b (some ⟨cs,true,z⟩)} c=if c=b then some ⟨cs,true,z⟩ else h.ae c:=fun c=>Tr.eT _ _ _ _
 refine j.add q (fun c hc _=>?_) hq (fun c hc=>?_) (Nat.le_refl _) (fun c hc=>?_) (fun x hx=>hx)
 ·rw [fN,if_neg (by rw [ez,List.mem_singleton] at hc;exact hc)]
 ·rw [ez,List.mem_singleton] at hc
  subst hc
  exact ⟨qO,by omega, .inr (Nat.lt_succ_self _)⟩
 ·rw [fN] at hc
  by_cases e:c=b
  ·subst e;exact Nat.lt_of_lt_of_le h2 hS.dR
  ·rw [if_neg e] at hc;exact hS.cw c hc
variable {l:KL} {op:Op} {base:Nat}
theorem pR {ev:Operand→Value} {v:Value} {h2:AH} (hc:cls P op= .look) (ho:aOp P (bS P) ev op h=some (v,h2)):aLook P ev op h=some v:=by
 cases op with
 | load t a=>
  simp only [aOp] at ho
  obtain ⟨u,h1,j⟩:=Option.map_eq_some_iff.1 ho
  injection j with j I
  subst j
  exact h1
 | convert s t x=>
  simp only [aOp] at ho
  simp only [aLook,ho,Option.map_some]
 | call c=>
  simp only [cls] at hc
  split at hc<;>cases hc
 | _=>cases hc
theorem St.fw {A:List Itm} (hc:St {h with low:=h.next} [] Z (0,0) Z' h1 A):h.next≤h1.low:=hc.low h.next (Nat.le_refl _) (Nat.le_refl _) (fun d hd=>by cases hd)
def Sim1:Value→Prop
 | .bool _ | .int .. | .string _ | .pointer _ | .slice .. =>True
 | _=>False
theorem aC {v:Value} (h:Sim1 v):sameV v v=true:=by
 cases v<;>simp_all [sameV,Sim1]
inductive oq:List Value→Prop where
 | nil:oq []
 | cons {v:Value} {vs:List Value} (h:Sim1 v) (k:oq vs):oq (v::vs)
theorem ir {cs:List Value} (h:oq cs):sameV (.agg cs.toArray) (.agg cs.toArray)=true:=by
 simp only [sameV,decide_true,Bool.true_and]
 induction h with
 | nil=>rfl
 | cons h k ih=>
  rename_i v vs
  simp only [List.zip_cons_cons,List.all_cons,Bool.and_eq_true]
  refine ⟨?_,ih⟩
  cases v<;>simp_all [Sim1]
theorem RS.dG {α:Type} [Cell α] {v:Value} {xs:List α} (hR:RS Z v xs):Sim1 v:=by obtain ⟨a,c,rfl,_⟩:=hR;trivial
theorem St.di {v:Value} {cells:List Value} {s i:Nat} (hS:St h0 D Z0 Rv Z h L) (hi:L[i]?=some (.gs v cells s)):Sim1 v:=by
 rcases hS.ok _ (List.mem_of_getElem? hi) with ⟨rfl,_⟩ | ⟨b,n,c,rfl,_⟩<;>trivial
theorem dk {v:Value} {c:List Value} {s n:Nat} (hz:∀ b∈(Itm.gs v c s).ids,b<base) (hB:jU v n):(baseOf v).block<base:=by
 obtain ⟨a,c,rfl,_⟩:=hB
 exact hz a.block (by simp [Itm.ids])
end
end Go.Proofs.Ytcilejikekccmaa.Sy
namespace Go.Proofs.Ytcilejikekccmaa.M
open Go Am Sy
theorem C7 [Marks]:mB Go.Proofs.Try.prog:=⟨by kernel_rfl,by kernel_rfl⟩
end Go.Proofs.Ytcilejikekccmaa.M
namespace Go.Proofs.Ytcilejikekccmaa.Sy
open Go Am Go.Deep
open Cell (rc)
variable [Marks]
def nC (h:AH) (cs:List Value):AH:=⟨h.t.set h.next (some ⟨cs,false,1⟩),h.next+1,h.low⟩
omit [Marks] in
theorem ki (h:AH) (cs:List Value) (b:Nat):(nC h cs).ae b=if b=h.next then some ⟨cs,false,1⟩ else h.ae b:=Tr.eT _ _ _ _
structure Hand (w:World) (ρ:aT) (Z:Zn) (h:AH):Prop where
 dZ:bh ρ w h.ae h.next
 inv:Inv Z h
 no:∀ b B,h.ae b=some B→B.own=false
theorem yl (w:World):Hand w ρ0 (fun _=>none) AH.none:=
 ⟨wA w,⟨fun b cs h=>(by cases h),fun b h=>absurd (AH.k7 b) h⟩,fun b B h=>by rw [AH.k7] at h;cases h⟩
section
variable {w:World} {ρ:aT} {Z:Zn} {h:AH}
theorem Hand.zn (H:Hand w ρ Z h):Z h.next=none:=by
 cases hz:Z h.next with
 | none=>rfl
 | some cs=>
  obtain ⟨B,h1,h2⟩:=H.inv.b2 _ _ hz
  have:=H.inv.cw h.next (by rw [h1];simp)
  omega
theorem Hand.ag (H:Hand w ρ Z h) (cs:List Value):aM Z (Z.ins h.next cs):=fun b c hb=>by
 rw [Zn.lx Z cs (fun e=>by rw [e,H.zn] at hb;cases hb)];exact hb
theorem Hand.uu (H:Hand w ρ Z h) (cs:List Value):Inv (Z.ins h.next cs) (nC h cs):=by
 refine ⟨fun b c hb=>?_,fun b hb=>?_⟩
 ·rw [ki]
  by_cases e:b=h.next
  ·subst e
   rw [Zn.m5] at hb
   cases hb
   exact ⟨_,by rw [if_pos rfl],rfl⟩
  ·rw [Zn.lx Z cs e] at hb
   rw [if_neg e]
   exact H.inv.b2 b c hb
 ·show b<h.next+1
  rw [ki] at hb
  by_cases e:b=h.next
  ·omega
  ·rw [if_neg e] at hb
   have:=H.inv.cw b hb
   omega
theorem Hand.lN (H:Hand w ρ Z h) (cs:List Value):∀ b B,(nC h cs).ae b=some B→B.own=false:=fun b B hb=>by
 rw [ki] at hb
 split at hb
 ·cases hb;rfl
 ·exact H.no b B hb
theorem Hand.row (H:Hand w ρ Z h) {cs aZ:List Value} {a b0:Nat} (hl:LR ρ cs aZ) (hc:∀ i v',aZ[i]?=some v'→w.cell? ⟨b0,a+i,none⟩=some v') (hb:b0<w.heap.size):
  ∃ ρ',Hand w ρ' (Z.ins h.next cs) (nC h cs)∧cD ρ ρ'∧ρ' h.next=some ⟨b0,a,0,0⟩:=by
 refine ⟨fun b=>if b=h.next then some ⟨b0,a,0,0⟩ else ρ b,⟨⟨?_,?_,?_,?_,?_,?_⟩,H.uu cs,H.lN cs⟩,?_,by simp⟩
 ·intro b p hp
  show b<h.next+1
  by_cases e:b=h.next
  ·omega
  ·simp only [if_neg e] at hp
   have:=H.dZ.dV b p hp
   omega
 ·intro b p hp
  by_cases e:b=h.next
  ·simp only [if_pos e] at hp
   cases hp;exact hb
  ·simp only [if_neg e] at hp
   exact H.dZ.lt b p hp
 ·intro b B p hB hp i v hv
  have hr:cD ρ (fun b=>if b=h.next then some ⟨b0,a,0,0⟩ else ρ b):=fun x q hq=>by
   have:=H.dZ.dV x q hq
   simp only []
   rw [if_neg (by omega)];exact hq
  rw [ki] at hB
  by_cases e:b=h.next
  ·simp only [if_pos e] at hp hB
   cases hp;cases hB
   obtain ⟨v',h1,h2⟩:=hl.get hv
   exact ⟨v',hc i v' h1,h2.mono hr⟩
  ·simp only [if_neg e] at hp hB
   obtain ⟨v',h1,h2⟩:=H.dZ.cell b B p hB hp i v hv
   exact ⟨v',h1,h2.mono hr⟩
 ·intro b B p hB hp ho
  rw [H.lN cs b B hB] at ho;cases ho
 ·intro b c B C p q ib hB hC hp hq ho
  rw [H.lN cs b B hB] at ho;cases ho
 ·intro b eR
  show b<h.next+1
  rw [ki] at eR
  by_cases e:b=h.next
  ·omega
  ·rw [if_neg e] at eR
   have:=H.dZ.live b eR
   omega
 ·intro x q hq
  have:=H.dZ.dV x q hq
  simp only []
  rw [if_neg (by omega)];exact hq
theorem Hand.DW (H:Hand w ρ Z h):Hand w ρ (Z.ins h.next []) (nC h []):=by
 refine ⟨⟨?_,H.dZ.lt,?_,?_,?_,?_⟩,H.uu [],H.lN []⟩
 ·intro b p hp
  show b<h.next+1
  have:=H.dZ.dV b p hp
  omega
 ·intro b B p hB hp i v hv
  rw [ki] at hB
  have:=H.dZ.dV b p hp
  rw [if_neg (by omega)] at hB
  exact H.dZ.cell b B p hB hp i v hv
 ·intro b B p hB hp ho
  rw [H.lN [] b B hB] at ho;cases ho
 ·intro b c B C p q ib hB hC hp hq ho
  rw [H.lN [] b B hB] at ho;cases ho
 ·intro b eR
  show b<h.next+1
  rw [ki] at eR
  by_cases e:b=h.next
  ·omega
  ·rw [if_neg e] at eR
   have:=H.dZ.live b eR
   omega
end
def Reads (P:Program) (t:TypeId) (α:Type) [Cell α] (gq:α→Prop):Prop:=
 ∀ (Hd:Type) (enc:TypeId×Value→Hd) (w:World) (n:Nat) (cs:List Value) (x:DataW Hd×List MemPlace),DataW.trod enc P w 0 (fun _=>true) true n t cs=some x→
 ∀ (ρ:aT) (Z:Zn) (h:AH),Hand w ρ Z h→∃ ρ' Z' h' gl y,Hand w ρ' Z' h'∧cD ρ ρ'∧aM Z Z'∧LR ρ' gl cs∧rc (α:=α) Z' gl y∧gq y
section
variable {P:Program} {t:TypeId}
theorem Cd (ht:P.underlying t=some (.int .i64)):Reads P t Int (fun n=>(Lit.int .i64 n).wf=true):=by
 intro Hd enc w n cs x hx ρ Z h H
 obtain ⟨m,rfl,rfl,hw⟩:=DataW.trod_int ht hx
 exact ⟨ρ,Z,h,_,m,H,cD.refl _,aM.refl _,LR.cons (.int _ _) (LR.nil _),rfl,hw⟩
theorem DA (ht:P.underlying t=some (.int .u8)):Reads P t UInt8 (fun _=>True):=by
 intro Hd enc w n cs x hx ρ Z h H
 obtain ⟨m,rfl,rfl,hw⟩:=DataW.trod_int ht hx
 have hm:0≤m∧m<256:=by
  simp [Lit.wf,IntKind.min,IntKind.max,IntKind.signed,IntKind.bits] at hw
  omega
 refine ⟨ρ,Z,h,[.int .u8 m],UInt8.ofNat m.toNat,H,cD.refl _,aM.refl _,LR.cons (.int _ _) (LR.nil _),?_,trivial⟩
 show [Value.int .u8 m]=[Value.int .u8 _]
 have:((UInt8.ofNat m.toNat).toNat:Int)=m:=by
  rw [UInt8.toNat_ofNat']
  omega
 rw [this]
theorem zd {e:TypeId} {α:Type} [Cell α] {gq:α→Prop} (hr:Reads P e α gq) {Hd:Type} {enc:TypeId×Value→Hd} {w:World} {n:Nat} {D:Nat→DataW Hd} {Pl:Nat→List MemPlace} {dc:Nat→List Value}:
  ∀ (m:Nat),(∀ i,i<m→DataW.trod enc P w 0 (fun _=>true) true n e (dc i)=some (D i,Pl i))→∀ (ρ:aT) (Z:Zn) (h:AH),Hand w ρ Z h→
  ∃ ρ' Z' h' gl ys,Hand w ρ' Z' h'∧cD ρ ρ'∧aM Z Z'∧LR ρ' gl ((List.range m).flatMap dc)∧RCs (α:=α) Z' gl ys∧ys.length=m∧∀ y∈ys,gq y:=by
 intro m
 induction m with
 | zero=>exact fun _ ρ Z h H=>⟨ρ,Z,h,[],[],H,cD.refl _,aM.refl _,LR.nil _,rfl,rfl,fun y hy=>by cases hy⟩
 | succ m ih=>
  intro hx ρ Z h H
  obtain ⟨ρ1,Z1,h1,c1,J,H1,r1,U,aa,ab,ad,ae⟩:=ih (fun i hi=>hx i (by omega)) ρ Z h H
  obtain ⟨ρ2,af,h2,c2,ag,ah,j,I,ai,aj,ak⟩:=hr Hd enc w n _ _ (hx m (by omega)) ρ1 Z1 h1 H1
  refine ⟨ρ2,af,h2,c1++c2,J++[ag],ah,r1.trans j,U.trans I,?_,(ab.mono I).append (RCs.single aj),by simp [ad],?_⟩
  ·rw [List.range_succ,List.flatMap_append]
   refine (aa.mono j).append ?_
   simpa using ai
  ·intro y hy
   rcases List.mem_append.1 hy with hy | hy
   ·exact ae y hy
   ·rw [List.mem_singleton.1 hy];exact ak
omit [Marks] in
theorem BO {dc:Nat→List Value} {k m:Nat} (hl:∀ i,i<m→(dc i).length=k):((List.range m).flatMap dc).length=m * k∧∀ (j:Nat) v,((List.range m).flatMap dc)[j]?=some v→∃ i r,i<m∧r<k∧j=i * k+r∧(dc i)[r]?=some v:=by
 induction m with
 | zero=>exact ⟨by simp,fun j v h=>by simp at h⟩
 | succ m ih=>
  obtain ⟨h1,h2⟩:=ih fun i hi=>hl i (by omega)
  rw [List.range_succ,List.flatMap_append]
  refine ⟨by simp only [List.length_append,h1];simp [hl m (by omega),Nat.add_mul],fun j v h=>?_⟩
  by_cases hj:j<m * k
  ·rw [List.getElem?_append_left (by omega)] at h
   obtain ⟨i,r,aa,I,J,U⟩:=h2 j v h
   exact ⟨i,r,by omega,I,J,U⟩
  ·rw [List.getElem?_append_right (by omega),h1] at h
   have h':(dc m)[j - m * k]?=some v:=by simpa using h
   have:=(List.getElem?_eq_some_iff.1 h').1
   rw [hl m (by omega)] at this
   exact ⟨m,j - m * k,by omega,this,by omega,h'⟩
theorem sx {e:TypeId} {α:Type} [Cell α] {gq:α→Prop} (ht:P.underlying t=some (.slice e)) (hc:P.cellsOf e=aa α) (hr:Reads P e α gq):Reads P t (List α) (fun xs=>(∀ y∈xs,gq y)∧xs.length≤maxLen):=by
 intro Hd enc w n cs x hx ρ Z h H
 rcases open_slice ht hx with ⟨rfl,rfl⟩ | ⟨a,len,cap,m,n,D,Pl,rfl,hb,hl,hm,qu,rfl,zM⟩
 ·exact ⟨ρ,Z,h,[.slice none 0 0],[],H,cD.refl _,aM.refl _,LR.cons (.fV (fun e=>e) (Nat.le_refl _)) (LR.nil _),⟨_,⟨none,0,rfl,Nat.le_refl _,rfl⟩,rfl⟩,⟨fun y hy=>(by cases hy),by simp⟩⟩
 ·simp only [if_true] at qu
  subst qu
  obtain ⟨dc,de⟩:=choose_lt (α:=List Value) (n:=len) (p:=fun i c=>w.cells? 0 (a.add (i * P.cellsOf e)) (P.cellsOf e)=some c∧DataW.trod enc P w 0 (fun _=>true) true n e c=some (D i,Pl i)) (fun i hi=>zM i (by omega))
  obtain ⟨ρ1,Z1,h1,gl,ys,H1,r1,U,ad,ae,I,af⟩:=zd hr len (fun i hi=>(de i hi).2) ρ Z h H
  have hp:=Cell.pos (α:=α)
  rcases Nat.eq_zero_or_pos len with h0 | h0
  ·subst h0
   have hy:ys=[]:=List.eq_nil_of_length_eq_zero I
   subst hy
   refine ⟨ρ1,_,_,[.slice (some ⟨h1.next,0,none⟩) 0 2],[],H1.DW,r1,U.trans (H1.ag []),LR.cons (.sl (fun e=>by omega) (by omega) (fun q=>by omega) (fun q=>by omega)) (LR.nil _),?_,⟨fun y hy=>(by cases hy),by simp⟩⟩
   exact ⟨_,⟨some ⟨h1.next,0,none⟩,2,rfl,by simp,rfl,[],Zn.m5 _ _ _,by simp,by simp [RCs]⟩,rfl⟩
  ·have hlen:∀ i,i<len→(dc i).length=aa α:=fun i hi=>by
    have:=(World.cells?_some (de i hi).1).2.1
    rw [← hc];exact this
   have e6:∀ i,i<len→∀ (r:Nat) v,(dc i)[r]?=some v→w.cell? (a.add (i * aa α+r))=some v:=fun i hi r v hv=>by
    have ah:=(World.cells?_some (de i hi).1).2.2
    have bq:=(List.getElem?_eq_some_iff.1 hv).1
    rw [hlen i hi] at bq
    rw [← add_add,← hc,← hv]
    exact ah r (by rw [hc];exact bq)
   obtain ⟨fl,fa⟩:=BO (m:=len) hlen
   have J:w.cell? (a.add 0)=some ((dc 0)[0]'(by rw [hlen 0 h0];exact hp)):=by
    have:=e6 0 h0 0 _ (List.getElem?_eq_getElem (by rw [hlen 0 h0];exact hp))
    simpa using this
   obtain ⟨ab,ao,BA⟩:=a
   have hs:BA=none:=by simpa [Addr.add] using World.cell?_spot J
   subst hs
   have fZ:ab<w.heap.size:=by
    rcases Nat.lt_or_ge ab w.heap.size with q | q
    ·exact q
    ·unfold World.cell? at J
     simp [Addr.add,Array.getElem?_eq_none q] at J
   obtain ⟨ρ2,ai,aj,ak⟩:=H1.row (a:=ao) (b0:=ab) ad (fun j v hv=>by
    obtain ⟨i,r,i1,i2,rfl,i4⟩:=fa j v hv
    have:=e6 i i1 r v i4
    rwa [Go.WideShapes.add_plain] at this) fZ
   have c4:gl.length=len * aa α:=by rw [ad.1,fl]
   refine ⟨ρ2,_,_,[.slice (some ⟨h1.next,0,none⟩) len (len+2)],ys,ai,r1.trans aj,U.trans (H1.ag gl),LR.cons (.sl (fun e=>by omega) hl (fun _=>⟨rfl,_,ak,by simp⟩) (fun q=>by omega)) (LR.nil _),?_,⟨af,by omega⟩⟩
   refine ⟨_,⟨some ⟨h1.next,0,none⟩,len+2,by rw [I],by omega,rfl,gl,Zn.m5 _ _ _,by rw [I,c4];simp,?_⟩,rfl⟩
   have:(gl.drop 0).take (ys.length * aa α)=gl:=by rw [I,List.drop_zero,List.take_of_length_le (by omega)]
   rw [this]
   exact ae.mono (H1.ag gl)
end
end Go.Proofs.Ytcilejikekccmaa.Sy
namespace Go.Proofs.Ytcilejikekccmaa.M
open Go Am Sy Go.ChangeShapes Go.WideShapes
open Sy.Cell (rc)
variable [Marks]
section
variable {P:Program} {t:TypeId} {Hd:Type} {enc:TypeId×Value→Hd} {w:World} {ρ:aT} {Z:Zn} {h:AH}
theorem sD {e:TypeId} {α:Type} [Cell α] {gq:List α→Prop} (hr:Reads P t (List α) gq) (ht:P.underlying t=some (.slice e)) {r:Reach} {b:Nat} {v:Value} {d:DataW Hd} {ps:List MemPlace}
  (hv:Value.okWide P w r b t v) (hd:DataW.Trod enc P w 0 (fun _=>true) true t v d ps) (H:Hand w ρ Z h):
  ∃ ρ' Z' h' u xs,Hand w ρ' Z' h'∧cD ρ ρ'∧aM Z Z'∧VR ρ' u v∧RS (α:=α) Z' u xs∧gq xs:=by
 obtain ⟨a,len,cap,rfl⟩:=okWide_slice ht hv
 obtain ⟨n,hn⟩:=hd
 obtain ⟨ρ',Z',h',gl,xs,H',r1,j,I,⟨u,J,rfl⟩,U⟩:=hr _ _ _ _ _ _ hn ρ Z h H
 exact ⟨ρ',Z',h',u,xs,H',r1,j,LR.head (by simpa [Value.cells] using I),J,U⟩
theorem Bx {f:FuncId} {args ff:List Value} {h':AH} (hP:mB P) (H:Hand w ρ Z h) (hc:bS P f args h=some (.bool true,h')) (hl:LR ρ args ff):
  Calls P f ff.toArray w fun e w'=>e= .returned (.bool true)∧ij w w':=by
 obtain ⟨k,hk⟩:=qW hc
 refine ((xW hP s4.1 (s4 (P:=P)).2 k f args h _ h' hk).2 ρ w ff hl H.dZ).mono fun e w' hq=>?_
 obtain ⟨ρ',v',j,I,U,J⟩:=hq
 cases I
 exact ⟨j,J.Bi H.no⟩
omit [Marks] in
theorem ij.sameAt {W W':World} (hg:ij W W') {p:MemPlace} (hp:p.block<W.heap.size):W.sameAt W' p:=by
 have I:=hg.1.2.2 p.block hp
 cases p with
 | cell b off=>
  simp only [MemPlace.block] at I hp
  simp only [World.sameAt,World.cell?]
  split at I
  ·rename_i e1 J
   rw [e1,J]
   simp [I.2.2.2 off (by simp)]
  ·rename_i e1 J
   rcases I with q | ⟨rfl,rfl⟩
   ·exact q.elim
   ·rw [e1,J]
  ·rw [I]
 | map b=>
  simp only [MemPlace.block] at I hp
  simp only [World.sameAt]
  split at I
  ·rename_i e1 J
   obtain ⟨rfl,rfl,U,aa⟩:=I
   rw [e1,J]
   have:∀ (x y:Array Value),y.size=x.size→(∀ j:Nat,y[j]?=x[j]?)→y=x:=fun x y _ q=>Array.ext_getElem? q
   rw [this _ _ U fun j=>aa j (by simp)]
  ·rename_i e1 J
   rcases I with q | ⟨rfl,rfl⟩
   ·exact q.elim
   ·rw [e1,J]
  ·exact I
theorem vt {T:TypeId→Prop} (K:Kids P T) (hz:∀ t e,T t→P.underlying t=some (.slice e)→0<P.cellsOf e) {W W':World} (hg:ij W W') {sp:Nat→Bool}:
  ∀ {ts:List TypeId} {vs:List Value} {ds:List (DataW Hd)} {ps:List MemPlace},(∀ t∈ts,T t)→DataW.TrodAll enc P W 0 (fun _=>true) true ts vs ds ps→(∀ p∈ps,p.block<W.heap.size)→(∀ p∈ps,sp p.block=true)→DataW.TrodAll enc P W' 0 sp true ts vs ds ps
 | [],[],[],_,_,h,_,_=>h
 | _::_,_::_,_::_,_,hT,⟨p,q,⟨n,h1⟩,h2,e⟩,hb,hs=>
  ⟨p,q,⟨n,DataW.trod_stays K (fun {_ _} a b=>hz _ _ a b) (fun a=>by cases a) (hT _ List.mem_cons_self) h1 (fun x hx=>ij.sameAt hg (hb x (by rw [e];exact List.mem_append_left _ hx))) (fun x hx=>hs x (by rw [e];exact List.mem_append_left _ hx))⟩,
   vt K hz hg (fun t ht=>hT t (List.mem_cons.2 (Or.inr ht))) h2 (fun x hx=>hb x (by rw [e];exact List.mem_append_right _ hx)) (fun x hx=>hs x (by rw [e];exact List.mem_append_right _ hx)),e⟩
end
end Go.Proofs.Ytcilejikekccmaa.M
namespace Go.Proofs.Ytcilejikekccmaa.Sy
open Go Am
open Cell (rc)
abbrev bx (k:IntKind) (a b:Int):Int:=k.wrap (BitVec.ofInt k.bits a &&& BitVec.ofInt k.bits b).toNat
abbrev a6 (k:IntKind) (a b:Int):Int:=k.wrap (BitVec.ofInt k.bits a ||| BitVec.ofInt k.bits b).toNat
abbrev ur (k:IntKind) (a b:Int):Int:=k.wrap (a * 2 ^ (min b.toNat k.bits))
abbrev bL (k:IntKind) (a b:Int):Int:=a.fdiv (2 ^ (min b.toNat k.bits))
section
variable {P:Program} {l:KL} {h h':AH} {Z Z' Z0:Zn} {h0:AH} {D:List Nat} {Rv:Nat×Nat} {L:List Itm}
theorem pw {t t2:TypeId} {x y:Operand} {a b:List UInt8} (hx:opv l x=some (.string ⟨⟨a⟩⟩)) (hy:opv l y=some (.string ⟨⟨b⟩⟩)) (hl:a.length+b.length≤4611686018427387904):
  b5 P l (.binOp .add t x y t2) h (.string ⟨⟨a++b⟩⟩) h:=by
 intro e he
 have hs:(ByteArray.mk ⟨a⟩++ByteArray.mk ⟨b⟩)=ByteArray.mk ⟨a++b⟩:=by apply ByteArray.ext;simp
 have hn:¬ (((ByteArray.mk ⟨a⟩).size+(ByteArray.mk ⟨b⟩).size:Nat):Int)>IntKind.i64.max:=by
  have h1:IntKind.i64.max=9223372036854775807:=by decide
  have h2:(ByteArray.mk ⟨a⟩).size=a.length:=rfl
  have j:(ByteArray.mk ⟨b⟩).size=b.length:=rfl
  rw [h1,h2,j];omega
 simp only [aOp,he.opv hx,he.opv hy,aBin,aStr,if_neg hn,hs,Option.map_some]
def strTy (P:Program) (t:TypeId):Bool:=match P.underlying t with | some .string=>true | _=>false
theorem u9 {t:TypeId} (ht:strTy P t=true):P.underlying t=some .string:=by
 unfold strTy at ht;split at ht
 ·assumption
 ·cases ht
theorem pc {t:TypeId} {x:Operand} {lo hi:Option Operand} {bs:List UInt8} {a b:Int} (hx:opv l x=some (.string ⟨⟨bs⟩⟩)) (ht:strTy P t=true) (g8:loIs l lo a) (jc:nF l hi b bs.length) (h1:0≤a) (h2:a≤b) (j:b≤bs.length):
  b5 P l (.slice t x lo hi none) h (.string ⟨⟨(bs.take b.toNat).drop a.toNat⟩⟩) h:=by
 intro e he
 have hs:∀ m n,(ByteArray.mk ⟨bs⟩).extract m n=ByteArray.mk ⟨(bs.take n).drop m⟩:=fun m n=>by apply ByteArray.ext;simp [List.drop_take]
 have hb:=rD he g8 jc h1 h2 j
 have b1:(ByteArray.mk ⟨bs⟩).size=bs.length:=rfl
 simp only [aOp,he.opv hx,aSlice,u9 ht,Option.map_none,Option.isSome_none,Bool.false_eq_true,if_false,b1,hb,Option.map_some,hs]
theorem Ba (l:List UInt8) (a:Nat):(ByteArray.mk ⟨l⟩)[a]?=l[a]?:=by
 by_cases h:a<l.length
 ·rw [List.getElem?_eq_getElem h,getElem?_pos (ByteArray.mk ⟨l⟩) a h];rfl
 ·rw [List.getElem?_eq_none (by omega),getElem?_neg (ByteArray.mk ⟨l⟩) a h]
theorem jn {t:TypeId} {x y:Operand} {bs:List UInt8} {i:Int} {kd:IntKind} {c:UInt8} (hx:opv l x=some (.string ⟨⟨bs⟩⟩)) (hy:opv l y=some (.int kd i)) (ht:strTy P t=true) (h1:0≤i) (hc:bs[i.toNat]?=some c):
  b5 P l (.index t x y) h (.int .u8 (c.toNat:Int)) h:=by
 intro e he
 simp only [aOp,he.opv hx,he.opv hy,aIndex,u9 ht,if_pos h1,Ba,hc,Option.map_some]
theorem Dv (bs:List UInt8):RCs Z (bs.map e9) bs:=by
 induction bs with
 | nil=>exact RCs.nil
 | cons b bs ih=>exact ⟨[e9 b],bs.map e9,rfl,rfl,ih⟩
theorem Dl (bs:List UInt8) (h:AH):aNews 1 (.string ⟨⟨bs⟩⟩) h=some (bs.length,bs.map e9)∧RCs Z (bs.map e9) bs:=⟨rfl,Dv bs⟩
def u8Ty (P:Program) (e:TypeId):Bool:=match P.underlying e with | some (.int .u8)=>true | _=>false
theorem s3 {t:TypeId} (ht:u8Ty P t=true):P.underlying t=some (.int .u8):=by
 unfold u8Ty at ht;split at ht
 ·assumption
 ·cases ht
def tsTy (P:Program) (s d:TypeId):Bool:=match P.underlying s,P.underlying d with | some (.slice e),some .string=>u8Ty P e | _,_=>false
theorem y0 {s d:TypeId} (ht:tsTy P s d=true):P.underlying d=some .string∧∃ e,P.underlying s=some (.slice e)∧P.underlying e=some (.int .u8):=by
 unfold tsTy at ht;split at ht
 ·rename_i e h1 h2;exact ⟨h2,e,h1,s3 ht⟩
 ·cases ht
theorem xU:∀ (xs:List UInt8) (cells:List Value),RCs Z cells xs→bytesOf cells=some xs:=by
 intro xs
 induction xs with
 | nil=>intro cells hc;simp only [RCs] at hc;subst hc;rfl
 | cons x xs ih=>
  rintro cells ⟨cs,rest,rfl,h1,h2⟩
  have dJ:cs=[.int .u8 (x.toNat:Int)]:=h1
  subst dJ
  simp only [List.singleton_append,bytesOf,ih rest h2,Option.map_some,Int.toNat_natCast]
  congr 2
  simp
theorem vL {s d:TypeId} {v:Value} {xs:List UInt8} {cells:List Value} (hv:∃ a c,v= .slice a xs.length c) (hn:aNews 1 v h=some (xs.length,cells)) (hR:RCs Z cells xs) (ht:tsTy P s d=true):
  aConvert P s d v h=some (.string ⟨⟨xs⟩⟩,h):=by
 obtain ⟨h1,e,h2,I⟩:=y0 ht
 obtain ⟨a,c,rfl⟩:=hv
 cases a with
 | none=>
  simp only [aNews] at hn
  split at hn
  ·rename_i q
   have:xs=[]:=List.eq_nil_of_length_eq_zero q
   subst this
   simp only [aConvert,h1,h2,I];rfl
  ·cases hn
 | some a=>
  simp only [aNews] at hn
  obtain ⟨cs,J,j⟩:=Option.map_eq_some_iff.1 hn
  injection j with _ j
  subst j
  rw [Nat.mul_one] at J
  simp only [aConvert,h1,h2,I]
  split
  ·rename_i q
   have:xs=[]:=List.eq_nil_of_length_eq_zero q
   subst this;rfl
  ·rw [J]
   simp only [Option.bind_some,xU xs _ hR,Option.map_some]
theorem vg {s d:TypeId} {x:Operand} {v:Value} {xs:List UInt8} {cells:List Value} {j:Nat} (hS:St h0 D Z0 Rv Z h L) (hi:L[j]?=some (.gs v cells (aa UInt8))) (hR:RCs Z cells xs) (hx:opv l x=some v) (ht:tsTy P s d=true):b5 P l (.convert s d x) h (.string ⟨⟨xs⟩⟩) h:=by
 intro e he
 obtain ⟨h1,h2⟩:=hS.eI hi hR
 have hlen:=hR.length
 simp only [aOp,he.opv hx]
 refine vL ?_ h1 h2 ht
 rcases hS.ok _ (List.mem_of_getElem? hi) with ⟨rfl,rfl⟩ | ⟨b,n,c,rfl,I,J,U⟩
 ·have:xs=[]:=by
   cases xs with
   | nil=>rfl
   | cons y ys=>
    have:aa UInt8=1:=rfl
    simp [this] at hlen
  subst this;exact ⟨none,0,rfl⟩
 ·have hn:n=xs.length:=Nat.eq_of_mul_eq_mul_right (Cell.pos (α:=UInt8)) (by show n * aa UInt8=xs.length * aa UInt8;omega)
  subst hn;exact ⟨_,_,rfl⟩
def idTy (P:Program) (s d:TypeId):Bool:=Nat.beq s d && (match P.underlying d with | some (.slice e)=>u8Ty P e | _=>false)
theorem Ay {s d:TypeId} (ht:idTy P s d=true):s=d∧∃ e,P.underlying d=some (.slice e)∧P.underlying e=some (.int .u8):=by
 unfold idTy at ht
 rw [Bool.and_eq_true] at ht
 refine ⟨Nat.eq_of_beq_eq_true ht.1,?_⟩
 have h2:=ht.2
 split at h2
 ·rename_i e he;exact ⟨e,he,s3 h2⟩
 ·cases h2
theorem BM {s d:TypeId} {x:Operand} {v:Value} {xs:List UInt8} {cells:List Value} {j:Nat} (hS:St h0 D Z0 Rv Z h L) (hi:L[j]?=some (.gs v cells (aa UInt8))) (hR:RCs Z cells xs) (hn:0<xs.length) (hx:opv l x=some v) (ht:idTy P s d=true):b5 P l (.convert s d x) h v h:=by
 obtain ⟨rfl,e,h1,h2⟩:=Ay ht
 have hlen:=hR.length
 have e1:aa UInt8=1:=rfl
 rw [e1] at hlen
 intro ev he
 rcases hS.ok _ (List.mem_of_getElem? hi) with ⟨rfl,rfl⟩ | ⟨b,n,c,rfl,I,U,J⟩
 ·simp at hlen;omega
 ·rw [e1] at I
  simp only [aOp,he.opv hx,aConvert,h1,h2]
  rw [if_pos ⟨trivial,by omega,by rw [J];rfl⟩]
end
section
variable {P:Program} {l:KL} {h:AH}
end
section
variable {P:Program} {c:Code} {R:List aN} {k:Nat} {l:KL} {h:AH} {K:KL→AH→Prop} {N:KL→AH→Prop} {X:cZ→KL→AH→Prop}
theorem xq (m:Nat) (l':KL) (hk:aW P R (k+m) l' h K) (hr:(runP P (R.drop k) m l).map (fun q=>pick q (l'.map Prod.fst))=some l':=by kernel_rfl):aW P R k l h K:=by
 obtain ⟨q,h1,h2⟩:=Option.map_eq_some_iff.1 hr
 exact uV m h1 (uo _ h2 hk)
theorem xe (m:Nat) (l':KL) (hk:K l' h) (hr:(runP P (R.drop k) m l).map (fun q=>pick q (l'.map Prod.fst))=some l':=by kernel_rfl) (ho:R.length=k+m:=by kernel_rfl):aW P R k l h K:=xq m l' (qI ho hk) hr
theorem xf (l':KL) (hk:K l' h) (hp:pick l (l'.map Prod.fst)=l':=by kernel_rfl) (ho:R.length=k:=by kernel_rfl):aW P R k l h K:=uo _ hp (qI ho hk)
theorem sq (hw:W P (cL c) l h (fun l h=>W P (cR c) l h N X) X) (hc:c= .seq (cL c) (cR c):=by kernel_rfl):W P c l h N X:=oW hc hw
theorem rg (R:List aN) (hw:aW P R 0 l h N) (hc:regOf c=some R:=by kernel_rfl):W P c l h N X:=sE hc hw
def pA:Code→Option (List aN)
 | .seq a _=>regOf a
 | _=>none
theorem sr (R:List aN) (hw:aW P R 0 l h (fun l h=>W P (cR c) l h N X)) (hc:pA c=some R:=by kernel_rfl):W P c l h N X:=by
 cases c with
 | seq a b=>exact oW rfl (sE hc hw)
 | _=>cases hc
theorem bk (i:Nat) (hw:W P (cI c) l h N (blkX i N X)) (hc:c= .block i (cI c):=by kernel_rfl):W P c l h N X:=zt hc hw
theorem sk (hn:N l h) (hc:c= .skip:=by kernel_rfl):W P c l h N X:=Br hc hn
theorem xt (i:Nat) (hn:X (.exit i) l h) (hc:c= .exit i:=by kernel_rfl):W P c l h N X:=xD hc hn
theorem rt (hn:X .ret l h) (hc:c= .ret:=by kernel_rfl):W P c l h N X:=A0 hc hn
theorem lp (ts:List Nat) (I:Nat→KL→AH→Prop) (m:Nat) (h0:I m (pick l ts) h) (hI:∀ m l h,I m l h→W P (cI c) l h (fun l' h'=>∃ k,k<m∧I k (pick l' ts) h') X) (hc:c= .loop (cI c):=by kernel_rfl):W P c l h N X:=Ck ts I m hc h0 hI
end
section
variable {P:Program}
theorem zk {d:Nat} {t:TypeId} {fs:Array Field} {xs ys:Array Value} (hu:P.underlying t=some (.struct fs)) (h2:P.stoodInHeld t=false):aEq P (d+1) t (.agg xs) (.agg ys)=aEqFields P (aEq P d) fs.toList xs ys:=by
 simp only [aEq,hu,h2,if_true]
theorem A8 {t:TypeId} {fs:Array Field} {xs ys:Array Value} {w:Bool} (hu:P.underlying t=some (.struct fs)) (h2:P.stoodInHeld t=false) (j:aEqFields P (aEq P 19) fs.toList xs ys=some w):aEq P l0 t (.agg xs) (.agg ys)=some w:=
 (zk (d:=19) hu h2).trans j
theorem uq {t:TypeId} {fs:Array Field} {xs ys:Array Value} {w:Bool} (hu:P.underlying t=some (.struct fs)) (h1:P.eqGuardType P.depth t=false) (h2:P.stoodInHeld t=false) (j:aEqFields P (aEq P 19) fs.toList xs ys=some w):
  aBin P .eql t (.agg xs) (.agg ys)=some (.bool w):=by
 simp only [aBin,aEqTop,h1,if_true,A8 hu h2 j,Option.map_some]
theorem ly {eq:TypeId→Value→Value→Option Bool} {f:Field} {fs:List Field} {xs ys:Array Value} {a b:Value} {r:Option Bool} (hn:f.name≠ "_") (ha:gF P f.type xs f.offset=some a) (hb:gF P f.type ys f.offset=some b) (he:eq f.type a b=some true) (hr:aEqFields P eq fs xs ys=r):aEqFields P eq (f::fs) xs ys=r:=by
 simp only [aEqFields,if_pos hn,ha,hb,he,hr]
theorem qm {eq:TypeId→Value→Value→Option Bool} {f:Field} {fs:List Field} {xs ys:Array Value} {a b:Value} (hn:f.name≠ "_") (ha:gF P f.type xs f.offset=some a) (hb:gF P f.type ys f.offset=some b) (he:eq f.type a b=some false):aEqFields P eq (f::fs) xs ys=some false:=by
 simp only [aEqFields,if_pos hn,ha,hb,he]
theorem iU {t:TypeId} {k:IntKind} {a b:Int} {d:Nat} (hu:∃ k',P.underlying t=some (.int k')):aEq P (d+1) t (.int k a) (.int k b)=some (a == b):=by
 obtain ⟨k',hu⟩:=hu;simp only [aEq,hu,if_true]
end
section
variable {P:Program} {C c:Code} {l l':KL} {h:AH} {N:KL→AH→Prop} {X X':cZ→KL→AH→Prop}
end
end Go.Proofs.Ytcilejikekccmaa.Sy
namespace Go.Proofs.Ytcilejikekccmaa.Sy
open Go Am
open Cell (rc)
inductive c5 where
 | no | iB | ae (b:Nat) | on (b:Nat) (S:(Nat→Option dD)→Prop)
def c5.at:c5→Option Nat
 | .ae b=>some b
 | .on b _=>some b
 | _=>none
inductive Fp where
 | any | dI (C:List Nat)
structure bt where
 g:Option (Option Nat×Bool)
 d:Option Nat
 op:Op
 cl:fu
 om:List Nat
theorem si {α:Type} {a b:α} (h:some a=some b):a=b:=Option.some.inj h
abbrev t (n:Nat):Operand:= .tmp n
abbrev ci (n:Int):Operand:= .const (.int .i64 n)
abbrev cf (f:Nat) (cY:Array Operand) (ts:Array TypeId):Op:= .call {callee:= .value (.func f),args:=cY,argTypes:=ts}
abbrev cb (b:Builtin) (cY:Array Operand) (ts:Array TypeId):Op:= .call {callee:= .builtin b,args:=cY,argTypes:=ts}
abbrev o (op:Op):aN:=⟨none,none,op⟩
abbrev u (d:Nat) (op:Op):aN:=⟨none,some d,op⟩
abbrev oF (op:Op) (cl:fu) (om:List Nat):bt:=⟨none,none,op,cl,om⟩
abbrev uF (d:Nat) (op:Op) (cl:fu) (om:List Nat):bt:=⟨none,some d,op,cl,om⟩
abbrev jB (c:Nat) (d:Option Nat) (op:Op) (cl:fu) (om:List Nat):bt:=⟨some (some c,true),d,op,cl,om⟩
abbrev mv (n:Nat):Op:= .move (t n)
abbrev sg (n:Nat):Op:= .assign (t n)
abbrev nk (n:Nat):Op:= .nilCheck (t n)
abbrev fa (T n k:Nat):Op:= .fieldAddr T (t n) k
abbrev ld (T n:Nat):Op:= .load T (t n)
abbrev ia (T n m:Nat):Op:= .indexAddr T (t n) (t m)
abbrev bo (b:BinOp) (T n m U:Nat):Op:= .binOp b T (t n) (t m) U
abbrev bc (b:BinOp) (T n:Nat) (m:Int) (U:Nat):Op:= .binOp b T (t n) (ci m) U
abbrev pf (n m:Nat):Op:= .pick (t n) (t m) (.const (.bool false))
abbrev pt (n m:Nat):Op:= .pick (t n) (.const (.bool true)) (t m)
abbrev gn (c d:Nat) (op:Op):aN:=⟨some (some c,false),some d,op⟩
abbrev uP (d:Nat) (op:Op):bt:=⟨none,some d,op, .pure,[]⟩
abbrev uL (d:Nat) (op:Op):bt:=⟨none,some d,op, .look,[]⟩
abbrev aK (c d:Nat) (op:Op):bt:=⟨some (some c,true),some d,op, .pure,[]⟩
abbrev bK (c d:Nat) (op:Op):bt:=⟨some (some c,false),some d,op, .pure,[]⟩
abbrev cJ (c d:Nat) (op:Op):bt:=⟨some (some c,true),some d,op, .look,[]⟩
abbrev gj (c d:Nat) (op:Op):bt:=⟨some (some c,false),some d,op, .look,[]⟩
abbrev V (n:Int):Value:= .int .i64 n
abbrev Pt (b o:Nat):Value:= .pointer (some ⟨b,o,none⟩)
def other:fu→fu→Bool
 | .look, .make=>true
 | .make, .look=>true
 | _,_=>false
def oH (P:Program) (ops:List Oper) (ps:List Nat) (i:Nat) (c:fu):List Nat:=(List.range i).filter fun j=>other c (cls P (ops.getD j default).op) && ordered ps i j
def stripF (P:Program) (ops:Array Oper) (ps:List Nat):Nat→List Oper→List bt
 | _,[]=>[]
 | i,o::os=>⟨o.guard.map fun x=>((ops[x.1]?).bind (·.dst),x.2),o.dst,o.op,cls P o.op,oH P ops.toList ps i (cls P o.op)⟩::stripF P ops ps (i+1) os
def regOfF (P:Program):Code→Option (List bt)
 | .region _ ops true=>some (stripF P ops (da ops.toList) 0 ops.toList)
 | _=>none
def ga (Zs:Zn) (h:AH):Prop:=∀ b cs,Zs b=some cs→∃ B,h.ae b=some B∧B.cells=cs
def kg (P:Program) (Zs:Zn) (top:Nat) (h:AH) (ev:Operand→Value) (op:Op) (v:Value):c5→Prop
 | .no=>True
 | .iB=>sameV v v=true∧∀ h2,ga Zs h2→aLook P ev op h2=some v
 | .ae b=>sameV v v=true∧b<top∧∀ h2,h2.ae b=h.ae b→aLook P ev op h2=some v
 | .on b S=>sameV v v=true∧b<top∧S h.ae∧(∀ h2:AH,S h2.ae→aLook P ev op h2=some v)∧∀ f f':Nat→Option dD,f' b=f b→S f→S f'
def tF (base:Nat):c5→Nat×Fp→Prop
 | .iB,_=>True
 | .ae b,(m, .dI C)=>b<base+m∧b∉C
 | .on b _,(m, .dI C)=>b<base+m∧b∉C
 | _,_=>False
def vx:c5→Fp→Prop
 | .iB,_=>True
 | .ae b, .dI C=>b∉C
 | .on b _, .dI C=>b∉C
 | _,_=>False
def jl (base:Nat) (om:List Nat) (d:c5):List (Nat×Fp)→Prop
 | []=>True
 | x::r=>(tF base d x∧jl base om d r)∨∀ y∈x::r,y.1∈om
inductive e7 (Q:((Nat→Option dD)→Prop)→Prop) (om:List Nat) (fp:Fp):List (Nat×c5)→List (Nat×c5)→Prop where
 | nil:e7 Q om fp [] []
 | a5 {j:Nat} {d:c5} {r r':List (Nat×c5)} (h:vx d fp) (k:e7 Q om fp r r'):e7 Q om fp ((j,d)::r) ((j,d)::r')
 | drop {j:Nat} {d:c5} {r r':List (Nat×c5)} (h:j∈om) (k:e7 Q om fp r r'):e7 Q om fp ((j,d)::r) ((j, .no)::r')
 | pQ {j b:Nat} {S:(Nat→Option dD)→Prop} {r r':List (Nat×c5)} (h:Q S) (k:e7 Q om fp r r'):e7 Q om fp ((j, .on b S)::r) ((j, .on b S)::r')
def m9 (Zs:Zn) (h h1:AH):Fp→Prop
 | .any=>ga Zs h1
 | .dI C=>ga Zs h1∧∀ b,b<h.next→b∉C→h1.ae b=h.ae b
theorem m9.b2 {Zs:Zn} {h h1:AH} {fp:Fp} (hf:m9 Zs h h1 fp):ga Zs h1:=by cases fp<;>first | exact hf | exact hf.1
def gA (h h1:AH):AH:={h1 with low:=if h1.low<h.low then h1.low else h.low}
def wpDF (P:Program) (base:Nat) (Zs:Zn):List (Nat×c5)→List (Nat×Fp)→Nat→List bt→Env→AH→(Env→AH→Prop)→Prop
 | _,_,_,[],e,h,K=>K e h
 | lk,ef,i,o::os,e,h,K=>
  let step:Prop:=match o.cl with
   | .pure=>∃ v h',aOp P (bS P) e.ev o.op h=some (v,h')∧wpDF P base Zs lk ef (i+1) os (e.put o.d v) h K
   | .look=>∃ v d,aLook P e.ev o.op h=some v∧kg P Zs (base+i) h e.ev o.op v d∧jl base o.om d ef∧wpDF P base Zs ((i,d)::lk) ef (i+1) os (e.put o.d v) h K
   | .fresh=>∃ f,aFresh P e.ev o.op=some f∧wpDF P base Zs lk ef (i+1) os (e.put o.d (f.1 (base+i))) {h with t:=h.t.set (base+i) (some ⟨f.2.1,true,f.2.2⟩)} K
   | .make=>∃ v h1,aOp P (bS P) e.ev o.op {h with low:=h.next}=some (v,h1)∧
     ((h.next≤h1.low∧wpDF P base Zs lk ef (i+1) os (e.put o.d v) (gA h h1) K)∨
      (∃ fp dE,m9 Zs h h1 fp∧e7 (fun S=>S h1.ae) o.om fp lk dE∧wpDF P base Zs dE ((i,fp)::ef) (i+1) os (e.put o.d v) (gA h h1) K))
  match o.g with
  | none=>step
  | some (t,w)=>∃ j,t=some j∧((e.get j= .bool w∧step)∨(e.get j≠ .bool w∧wpDF P base Zs lk ef (i+1) os (e.put o.d undef) h K))
section
variable {P:Program}
theorem vw {ops:List Oper} {ps:List Nat} {i j:Nat} {c:fu} (h:j∈oH P ops ps i c):ordered ps i j=true:=by
 have:=(List.mem_filter.1 h).2
 rw [Bool.and_eq_true] at this
 exact this.2
def Et (P:Program) (ops:List Oper) (Zs:Zn) (top:Nat) (h:AH) (lk:List (Nat×c5)) (x:Nat×Env×Value):Prop:=
 ∃ d,(x.1,d)∈lk∧kg P Zs top h x.2.1.ev (ops.getD x.1 default).op x.2.2 d
def xI (base:Nat) (Zs:Zn) (h:AH) (ef:List (Nat×Fp)) (x:Nat×AH):Prop:=
 ga Zs x.2∧∃ pre fp r,ef=pre++(x.1,fp)::r∧∀ b,b<base+x.1→(∀ y∈pre++[(x.1,fp)],∃ C,y.2= .dI C∧b∉C)→h.ae b=x.2.ae b
structure sQ (P:Program) (ops:Array Oper) (base:Nat) (Zs:Zn) (i:Nat) (lk:List (Nat×c5)) (ef:List (Nat×Fp)) (h:AH) (looks:List (Nat×Env×Value)) (dS:List (Nat×AH)):Prop where
 bn:base+ops.toList.length≤h.next
 zb:∀ b,Zs b≠none→b<base
 b2:ga Zs h
 look:∀ x∈looks,Et P ops.toList Zs (base+i) h lk x
 iv:∀ x∈ef,x.1<i
 h8:∀ x∈dS,xI base Zs h ef x
theorem EJ {base:Nat} {om:List Nat} {d:c5}:∀ {pre r:List (Nat×Fp)} {x:Nat×Fp},jl base om d (pre++x::r)→(∀ y∈pre++[x],tF base d y)∨x.1∈om:=by
 intro pre
 induction pre with
 | nil=>
  intro r x h
  rcases h with h | h
  ·exact .inl fun y hy=>by simp at hy;subst hy;exact h.1
  ·exact .inr (h x (by simp))
 | cons p pre ih=>
  intro r x h
  rcases h with ⟨h1,h2⟩ | h
  ·rcases ih h2 with q | q
   ·exact .inl fun y hy=>by
     rcases List.mem_cons.1 hy with rfl | hy
     ·exact h1
     ·exact q y hy
   ·exact .inr q
  ·exact .inr (h x (by simp))
theorem e7.at {Q:((Nat→Option dD)→Prop)→Prop} {om:List Nat} {fp:Fp} {lk dE:List (Nat×c5)} (h:e7 Q om fp lk dE):∀ {j:Nat} {d:c5},(j,d)∈lk→(vx d fp∧(j,d)∈dE)∨(j∈om∧(j, .no)∈dE)∨∃ b S,d= .on b S∧Q S∧(j,d)∈dE:=by
 induction h with
 | nil=>intro j d h;cases h
 | a5 h k ih=>
  intro j d hm
  rcases List.mem_cons.1 hm with e | hm
  ·injection e with e1 I;subst e1;subst I;exact .inl ⟨h,List.mem_cons_self⟩
  ·exact (ih hm).imp (fun q=>⟨q.1,List.mem_cons_of_mem _ q.2⟩) (fun q=>q.imp (fun q=>⟨q.1,List.mem_cons_of_mem _ q.2⟩) (fun ⟨b,S,J,U,aa⟩=>⟨b,S,J,U,List.mem_cons_of_mem _ aa⟩))
 | drop h k ih=>
  intro j d hm
  rcases List.mem_cons.1 hm with e | hm
  ·injection e with e1 I;subst e1;subst I;exact .inr (.inl ⟨h,List.mem_cons_self⟩)
  ·exact (ih hm).imp (fun q=>⟨q.1,List.mem_cons_of_mem _ q.2⟩) (fun q=>q.imp (fun q=>⟨q.1,List.mem_cons_of_mem _ q.2⟩) (fun ⟨b,S,J,U,aa⟩=>⟨b,S,J,U,List.mem_cons_of_mem _ aa⟩))
 | pQ h k ih=>
  intro j d hm
  rcases List.mem_cons.1 hm with e | hm
  ·injection e with e1 I;subst e1;subst I;exact .inr (.inr ⟨_,_,rfl,h,List.mem_cons_self⟩)
  ·exact (ih hm).imp (fun q=>⟨q.1,List.mem_cons_of_mem _ q.2⟩) (fun q=>q.imp (fun q=>⟨q.1,List.mem_cons_of_mem _ q.2⟩) (fun ⟨b,S,J,U,aa⟩=>⟨b,S,J,U,List.mem_cons_of_mem _ aa⟩))
theorem kg.same {Zs:Zn} {top tt:Nat} {h h':AH} {ev:Operand→Value} {op:Op} {v:Value} {d:c5} (hs:kg P Zs top h ev op v d) (ht:top≤tt) (hh:∀ b,b<top→d.at=some b→h'.ae b=h.ae b):kg P Zs tt h' ev op v d:=by
 cases d with
 | no=>trivial
 | iB=>exact hs
 | ae b=>exact ⟨hs.1,Nat.lt_of_lt_of_le hs.2.1 ht,fun h2 q=>hs.2.2 h2 (q.trans (hh b hs.2.1 rfl))⟩
 | on b S=>exact ⟨hs.1,Nat.lt_of_lt_of_le hs.2.1 ht,hs.2.2.2.2 _ _ (hh b hs.2.1 rfl) hs.2.2.1,hs.2.2.2.1,hs.2.2.2.2⟩
theorem zf {ops:Array Oper} {base:Nat} {Zs:Zn}:∀ (os:List Oper) (i:Nat) {lk:List (Nat×c5)} {ef:List (Nat×Fp)} {e:Env} {h:AH} {K:Env→AH→Prop} {looks:List (Nat×Env×Value)} {dS:List (Nat×AH)},
  ops.toList.drop i=os→sQ P ops base Zs i lk ef h looks dS→
  wpDF P base Zs lk ef i (stripF P ops (da ops.toList) i os) e h K→∃ s,aDraw P (bS P) ops base i os ⟨e,h,looks,dS⟩=some s∧K s.e s.h:=by
 intro os
 induction os with
 | nil=>intro i lk ef e h K looks dS hd hI hw;exact ⟨_,rfl,hw⟩
 | cons o os ih=>
  intro i lk ef e h K looks dS hd hI hw
  have hi:ops.toList[i]?=some o:=by
   have:(ops.toList.drop i)[0]?=some o:=by rw [hd];rfl
   rw [List.getElem?_drop] at this;simpa using this
  have dq:i<ops.toList.length:=by
   rcases Nat.lt_or_ge i ops.toList.length with q | q
   ·exact q
   ·rw [List.getElem?_eq_none q] at hi;cases hi
  have Cq:ops.toList.getD i default=o:=by rw [List.getD_eq_getElem?_getD,hi];rfl
  have j7:ops.toList.drop (i+1)=os:=by
   have:=congrArg List.tail hd
   rw [List.tail_drop] at this;exact this
  have l6:sQ P ops base Zs (i+1) lk ef h looks dS:=
   ⟨hI.bn,hI.zb,hI.b2,fun x hx=>by
    obtain ⟨d,h1,h2⟩:=hI.look x hx
    exact ⟨d,h1,h2.same (by omega) (fun _ _ _=>rfl)⟩,fun x hx=>Nat.lt_succ_of_lt (hI.iv x hx),hI.h8⟩
  simp only [stripF,wpDF] at hw
  simp only [aDraw]
  have main:(match cls P o.op with
   | .pure=>∃ v h',aOp P (bS P) e.ev o.op h=some (v,h')∧wpDF P base Zs lk ef (i+1) (stripF P ops (da ops.toList) (i+1) os) (e.put o.dst v) h K
   | .look=>∃ v d,aLook P e.ev o.op h=some v∧kg P Zs (base+i) h e.ev o.op v d∧jl base (oH P ops.toList (da ops.toList) i (cls P o.op)) d ef∧wpDF P base Zs ((i,d)::lk) ef (i+1) (stripF P ops (da ops.toList) (i+1) os) (e.put o.dst v) h K
   | .fresh=>∃ f,aFresh P e.ev o.op=some f∧wpDF P base Zs lk ef (i+1) (stripF P ops (da ops.toList) (i+1) os) (e.put o.dst (f.1 (base+i))) {h with t:=h.t.set (base+i) (some ⟨f.2.1,true,f.2.2⟩)} K
   | .make=>∃ v h1,aOp P (bS P) e.ev o.op {h with low:=h.next}=some (v,h1)∧
     ((h.next≤h1.low∧wpDF P base Zs lk ef (i+1) (stripF P ops (da ops.toList) (i+1) os) (e.put o.dst v) (gA h h1) K)∨
      (∃ fp dE,m9 Zs h h1 fp∧e7 (fun S=>S h1.ae) (oH P ops.toList (da ops.toList) i (cls P o.op)) fp lk dE∧wpDF P base Zs dE ((i,fp)::ef) (i+1) (stripF P ops (da ops.toList) (i+1) os) (e.put o.dst v) (gA h h1) K)))→
   ∃ s,(aDrawOp P (bS P) ops.toList base i o ⟨e,h,looks,dS⟩).bind (fun s'=>aDraw P (bS P) ops base (i+1) os s')=some s∧K s.e s.h:=by
   intro hs
   unfold aDrawOp
   cases hc:cls P o.op with
   | pure=>
    rw [hc] at hs
    obtain ⟨v,h',h1,h2⟩:=hs
    simp only [h1,Option.map_some,Option.bind_some]
    exact ih (i+1) j7 l6 h2
   | look=>
    rw [hc] at hs
    obtain ⟨v,d,h1,h2,ao,aq⟩:=hs
    simp only [h1,Option.bind_some]
    rw [if_pos (List.all_eq_true.2 fun x hx=>by
     obtain ⟨aa,pre,fp,r,rfl,U⟩:=hI.h8 x hx
     rcases EJ ao with q | q
     ·have j3:aLook P e.ev o.op x.2=some v∧sameV v v=true:=by
       cases d with
       | no=>exact (q (x.1,fp) (by simp)).elim
       | iB=>exact ⟨h2.2 _ aa,h2.1⟩
       | ae b=>
        have lr:b<base+x.1:=by
         have:=q (x.1,fp) (by simp)
         cases fp with
         | any=>exact this.elim
         | dI C=>exact this.1
        refine ⟨h2.2.2 _ (U b lr fun y hy=>?_).symm,h2.1⟩
        have:=q y hy
        obtain ⟨m,fy⟩:=y
        cases fy with
        | any=>exact this.elim
        | dI C=>exact ⟨C,rfl,this.2⟩
       | on b S=>
        have lr:b<base+x.1:=by
         have:=q (x.1,fp) (by simp)
         cases fp with
         | any=>exact this.elim
         | dI C=>exact this.1
        refine ⟨h2.2.2.2.1 _ (h2.2.2.2.2 _ _ (U b lr fun y hy=>?_).symm h2.2.2.1),h2.1⟩
        have:=q y hy
        obtain ⟨m,fy⟩:=y
        cases fy with
        | any=>exact this.elim
        | dI C=>exact ⟨C,rfl,this.2⟩
      rw [j3.1];simp only [j3.2,Bool.or_true]
     ·rw [vw q];rfl)]
    simp only [Option.bind_some]
    refine ih (i+1) j7 ⟨hI.bn,hI.zb,hI.b2,fun x hx=>?_,l6.iv,hI.h8⟩ aq
    rcases List.mem_cons.1 hx with rfl | hx
    ·exact ⟨d,List.mem_cons_self,by rw [Cq];exact h2.same (by omega) (fun _ _ _=>rfl)⟩
    ·obtain ⟨d',ah,ad⟩:=l6.look x hx
     exact ⟨d',List.mem_cons_of_mem _ ah,ad⟩
   | fresh=>
    rw [hc] at hs
    obtain ⟨f,h1,h2⟩:=hs
    simp only [h1,Option.map_some,Option.bind_some]
    have ec:∀ b,b≠base+i→AH.ae {h with t:=h.t.set (base+i) (some ⟨f.2.1,true,f.2.2⟩)} b=h.ae b:=fun b hb=>(Tr.eT _ _ _ _).trans (if_neg hb)
    refine ih (i+1) j7 ⟨hI.bn,hI.zb,fun b cs hz=>?_,fun x hx=>?_,l6.iv,fun x hx=>?_⟩ h2
    ·have:=hI.zb b (by rw [hz];simp)
     rw [ec b (by omega)];exact hI.b2 b cs hz
    ·obtain ⟨d,ah,ad⟩:=hI.look x hx
     exact ⟨d,ah,ad.same (by omega) fun b hb _=>ec b (by omega)⟩
    ·obtain ⟨aa,pre,fp,r,U,af⟩:=hI.h8 x hx
     have sn:x.1<i:=hI.iv (x.1,fp) (by rw [U];simp)
     exact ⟨aa,pre,fp,r,U,fun b hb hy=>(ec b (by omega)).trans (af b hb hy)⟩
   | make=>
    rw [hc] at hs
    obtain ⟨v,h1,ah,ad⟩:=hs
    simp only [ah,Option.bind_some]
    have uE:=mJ (Bs (P:=P)) ah
    have nb:base+ops.toList.length≤h1.next:=Nat.le_trans hI.bn uE.next
    have fN:∀ b,(gA h h1).ae b=h1.ae b:=fun _=>rfl
    by_cases gQ:h.next≤h1.low
    ·rw [if_pos gQ]
     simp only [Option.bind_some]
     have ec:∀ b,b<h.next→h1.ae b=h.ae b:=fun b hb=>uE.ae b hb (Nat.lt_of_lt_of_le hb gQ)
     have hz:ga Zs (gA h h1):=fun b cs hz=>by
      have:=hI.zb b (by rw [hz];simp)
      obtain ⟨B,aa,U⟩:=hI.b2 b cs hz
      exact ⟨B,by rw [fN,ec b (by have:=hI.bn;omega)];exact aa,U⟩
     rcases ad with ⟨_,ab⟩ | ⟨fp,dE,ab,aj,ak⟩
     ·refine ih (i+1) j7 ⟨nb,hI.zb,hz,fun x hx=>?_,l6.iv,fun x hx=>?_⟩ ab
      ·obtain ⟨d,ag,I⟩:=hI.look x hx
       exact ⟨d,ag,I.same (by omega) fun b hb _=>ec b (by have:=hI.bn;omega)⟩
      ·obtain ⟨aa,pre,fp,r,U,af⟩:=hI.h8 x hx
       have sn:x.1<i:=hI.iv (x.1,fp) (by rw [U];simp)
       exact ⟨aa,pre,fp,r,U,fun b hb hy=>(ec b (by have:=hI.bn;omega)).trans (af b hb hy)⟩
     ·refine ih (i+1) j7 ⟨nb,hI.zb,hz,fun x hx=>?_,fun x hx=>?_,fun x hx=>?_⟩ ak
      ·obtain ⟨d,ag,I⟩:=hI.look x hx
       rcases aj.at ag with ⟨_,J⟩ | ⟨_,J⟩ | ⟨_,_,rfl,_,J⟩
       ·exact ⟨d,J,I.same (by omega) fun b hb _=>ec b (by have:=hI.bn;omega)⟩
       ·exact ⟨.no,J,trivial⟩
       ·exact ⟨_,J,I.same (by omega) fun b hb _=>ec b (by have:=hI.bn;omega)⟩
      ·rcases List.mem_cons.1 hx with rfl | hx
       ·exact Nat.lt_succ_self _
       ·exact Nat.lt_succ_of_lt (hI.iv x hx)
      ·obtain ⟨aa,pre,mY,r,U,af⟩:=hI.h8 x hx
       have sn:x.1<i:=hI.iv (x.1,mY) (by rw [U];simp)
       refine ⟨aa,(i,fp)::pre,mY,r,by rw [U];rfl,fun b hb hy=>(ec b (by have:=hI.bn;omega)).trans (af b hb fun y qA=>hy y (List.mem_cons_of_mem _ qA))⟩
    ·rw [if_neg gQ]
     rcases ad with ⟨ad,_⟩ | ⟨fp,dE,ab,aj,ak⟩
     ·exact absurd ad gQ
     ·rw [if_pos (List.all_eq_true.2 fun x hx=>by
       obtain ⟨d,ag,I⟩:=hI.look x hx
       rcases aj.at ag with ⟨J,_⟩ | ⟨J,_⟩ | ⟨_,_,rfl,J,_⟩
       ·have:aLook P x.2.1.ev (ops.toList.getD x.1 default).op (gA h h1)=some x.2.2∧sameV x.2.2 x.2.2=true:=by
         cases d with
         | no=>exact J.elim
         | iB=>exact ⟨I.2 _ ab.b2,I.1⟩
         | ae b=>
          cases fp with
          | any=>exact J.elim
          | dI C=>exact ⟨I.2.2 _ (ab.2 b (by have:=I.2.1;have:=hI.bn;omega) J),I.1⟩
         | on b S=>
          cases fp with
          | any=>exact J.elim
          | dI C=>exact ⟨I.2.2.2.1 _ (I.2.2.2.2 _ _ (ab.2 b (by have:=I.2.1;have:=hI.bn;omega) J) I.2.2.1),I.1⟩
        have e1:=this.1
        unfold gA at e1
        rw [e1];simp only [this.2,Bool.or_true]
       ·rw [vw J];rfl
       ·have e1:aLook P x.2.1.ev (ops.toList.getD x.1 default).op (gA h h1)=some x.2.2:=I.2.2.2.1 _ J
        unfold gA at e1
        rw [e1];simp only [I.1,Bool.or_true])]
      simp only [Option.bind_some]
      refine ih (i+1) j7 ⟨nb,hI.zb,ab.b2,fun x hx=>?_,fun x hx=>?_,fun x hx=>?_⟩ ak
      ·obtain ⟨d,ag,I⟩:=hI.look x hx
       rcases aj.at ag with ⟨J,ai⟩ | ⟨_,ai⟩ | ⟨_,_,rfl,J,ai⟩
       ·refine ⟨d,ai,I.same (by omega) fun b hb e=>?_⟩
        cases d with
        | no=>cases e
        | iB=>cases e
        | ae c=>
         injection e with e;subst e
         cases fp with
         | any=>exact J.elim
         | dI C=>exact ab.2 _ (by have:=hI.bn;omega) J
        | on c S=>
         injection e with e;subst e
         cases fp with
         | any=>exact J.elim
         | dI C=>exact ab.2 _ (by have:=hI.bn;omega) J
       ·exact ⟨.no,ai,trivial⟩
       ·exact ⟨_,ai,I.1,Nat.lt_of_lt_of_le I.2.1 (by omega),J,I.2.2.2.1,I.2.2.2.2⟩
      ·rcases List.mem_cons.1 hx with rfl | hx
       ·exact Nat.lt_succ_self _
       ·exact Nat.lt_succ_of_lt (hI.iv x hx)
      ·rcases List.mem_cons.1 hx with rfl | hx
       ·refine ⟨hI.b2,[],fp,ef,rfl,fun b hb hy=>?_⟩
        obtain ⟨C,e1,an⟩:=hy (i,fp) (by simp)
        have pY:fp= .dI C:=e1
        subst pY
        exact ab.2 b (by have:=hI.bn;omega) an
       ·obtain ⟨aa,pre,mY,r,U,af⟩:=hI.h8 x hx
        have sn:x.1<i:=hI.iv (x.1,mY) (by rw [U];simp)
        refine ⟨aa,(i,fp)::pre,mY,r,by rw [U];rfl,fun b hb hy=>?_⟩
        obtain ⟨C,e1,an⟩:=hy (i,fp) (by simp)
        have pY:fp= .dI C:=e1
        subst pY
        exact (ab.2 b (by have:=hI.bn;omega) an).trans (af b hb fun y qA=>hy y (List.mem_cons_of_mem _ qA))
  cases hg:o.guard with
  | none=>
   rw [hg] at hw
   simp only [Option.map_none] at hw
   have kK:b8 ops e o=true:=by simp only [b8,hg]
   rw [if_pos kK]
   exact main hw
  | some g=>
   obtain ⟨ar,w⟩:=g
   rw [hg] at hw
   simp only [Option.map_some] at hw
   obtain ⟨j,hj,hw⟩:=hw
   have hy:b8 ops e o=true↔e.get j= .bool w:=vH hg hj
   rcases hw with ⟨hb,hw⟩ | ⟨hb,hw⟩
   ·rw [if_pos (hy.2 hb)]
    exact main hw
   ·rw [if_neg (fun q=>hb (hy.1 q))]
    exact ih (i+1) j7 l6 hw
theorem BH {ops:Array Oper} {ps:List Nat}:∀ (os:List Oper) (i:Nat),(stripF P ops ps i os).length=os.length:=by
 intro os
 induction os with
 | nil=>intro i;rfl
 | cons o os ih=>intro i;simp only [stripF,List.length_cons,ih]
def b7 (P:Program) (R:List bt) (base:Nat) (Zs:Zn) (lk:List (Nat×c5)) (ef:List (Nat×Fp)) (k:Nat) (l:KL) (h:AH) (K:KL→AH→Prop):Prop:=∀ e,cj e l→wpDF P base Zs lk ef k (R.drop k) e h (fun e' h'=>∃ l',cj e' l'∧K l' h')
end
section
variable {P:Program} {h0 h h' h1:AH} {D:List Nat} {Z0 Z Z' Z1 Zs:Zn} {Rv:Nat×Nat} {L L':List Itm} {R:List bt} {base k:Nat} {l l':KL} {K:KL→AH→Prop} {g:Option (Option Nat×Bool)} {d:Option Nat} {op:Op} {om:List Nat} {lk dE:List (Nat×c5)} {ef:List (Nat×Fp)}
theorem ve {c:Code} {N:KL→AH→Prop} {X:cZ→KL→AH→Prop} (hc:regOfF P c=some R) (hS:St h0 D Z0 Rv Z h L) (hw:∀ base h',(∀ p∈L,∀ b∈p.ids,b<base)∧(∀ b,Z b≠none→b<base)→St h0 D Z0 (base,base+R.length) Z h' L→b7 P R base Z [] [] 0 l h' N):W P c l h N X:=by
 intro e he
 cases c with
 | region i ops dr=>
  cases dr with
  | false=>cases hc
  | true=>
   simp only [regOfF,Option.some.injEq] at hc
   have hlen:R.length=ops.size:=by rw [← hc,BH,Array.length_toList]
   have oO:∀ b,Z b≠none→b<h.next:=fun b hb=>by
    cases hz:Z b with
    | none=>exact absurd hz hb
    | some cs=>obtain ⟨B,q,_⟩:=hS.b2 b cs hz;exact hS.cw b (by rw [q];simp)
   have h1:=hw h.next _ ⟨fun p hp b hb=>hS.toPre.lt hp hb,oO⟩ (hS.tE R.length) e he
   rw [List.drop_zero,← hc] at h1
   obtain ⟨s,h2,j⟩:=zf (base:=h.next) ops.toList 0 (looks:=[]) (dS:=[]) (by simp) ⟨by rw [hc,hlen,Array.length_toList];exact Nat.le_refl _,oO,fun b cs hz=>(hS.tE (stripF P ops (da ops.toList) 0 ops.toList).length).b2 b cs hz,fun x hx=>(by cases hx),fun x hx=>(by cases hx),fun x hx=>(by cases hx)⟩ h1
   refine ⟨.normal,s.e,s.h,⟨1,?_⟩,j⟩
   simp only [aCode,fh]
   rw [hc,hlen] at h2
   rw [h2];rfl
 | _=>cases hc
theorem aD (ho:R[k]?=some ⟨g,d,op, .pure,om⟩) (hg:gon l g) {v:Value} (dJ:b5 P l op h v h) (hk:b7 P R base Zs lk ef (k+1) (bC l d v) h K):b7 P R base Zs lk ef k l h K:=by
 intro e he
 rw [lC ho]
 simp only [wpDF]
 have hx:=hk (e.put d v) (he.bE d v)
 match g,hg with
 | none,_=>exact ⟨v,h,dJ e he,hx⟩
 | some (some t,w),hg=>exact ⟨t,rfl, .inl ⟨he t _ hg,v,h,dJ e he,hx⟩⟩
theorem pn {Q:Value→Prop} (ho:R[k]?=some ⟨g,d,op, .pure,om⟩) (hg:gon l g) (hx:∃ v,b5 P l op h v h∧Q v) (hk:∀ v,Q v→b7 P R base Zs lk ef (k+1) (bC l d v) h K):b7 P R base Zs lk ef k l h K:=by
 obtain ⟨v,h1,h2⟩:=hx
 exact aD ho hg h1 (hk v h2)
theorem pO (dp:c5) (c4:cls P op= .look) (ho:R[k]?=some ⟨g,d,op, .look,om⟩) (hg:gon l g) {v:Value} (dJ:b5 P l op h v h) (hs:∀ e,cj e l→kg P Zs (base+k) h e.ev op v dp) (bX:jl base om dp ef)
  (hk:b7 P R base Zs ((k,dp)::lk) ef (k+1) (bC l d v) h K):b7 P R base Zs lk ef k l h K:=by
 intro e he
 rw [lC ho]
 simp only [wpDF]
 have hx:=hk (e.put d v) (he.bE d v)
 have hv:=pR c4 (dJ e he)
 match g,hg with
 | none,_=>exact ⟨v,dp,hv,hs e he,bX,hx⟩
 | some (some t,w),hg=>exact ⟨t,rfl, .inl ⟨he t _ hg,v,dp,hv,hs e he,bX,hx⟩⟩
theorem dt {t:TypeId} {x:Operand} {a:Addr} {v:Value} (ho:R[k]?=some ⟨g,d, .load t x, .look,om⟩) (hg:gon l g) (hx:opv l x=some (.pointer (some a))) (hb:a.block<base+k) (hs:sameV v v=true) (dJ:b5 P l (.load t x) h v h) (bX:jl base om (.ae a.block) ef)
  (hk:b7 P R base Zs ((k, .ae a.block)::lk) ef (k+1) (bC l d v) h K):b7 P R base Zs lk ef k l h K:=by
 refine pO (.ae a.block) rfl ho hg dJ (fun e he=>⟨hs,hb,fun h2 hh=>?_⟩) bX hk
 have hv:aLook P e.ev (.load t x) h=some v:=pR rfl (dJ e he)
 simp only [aLook,he.opv hx,aLoad,AH.cv,AH.load] at hv ⊢
 rw [hh];exact hv
def ju (P:Program) (t:TypeId) (b off:Nat) (v:Value):(Nat→Option dD)→Prop:=fun f=>∃ B,f b=some B∧ldB P t off B.cells=some v
theorem St.aS {t:TypeId} {b off i:Nat} {cells:List Value} {v:Value} (hS:St h0 D Z0 Rv Z h L) (hi:L[i]?=some (.ae b cells)) (hv:ldB P t off cells=some v):ju P t b off v h.ae:=by
 obtain ⟨z,hz⟩:=hS.ok _ (List.mem_of_getElem? hi)
 exact ⟨_,hz,hv⟩
theorem ju.load {t:TypeId} {b off:Nat} {v:Value} {h2:AH} (hL:ju P t b off v h2.ae):aLoad P t (.pointer (some ⟨b,off,none⟩)) h2=some v:=by
 obtain ⟨B,hb,hv⟩:=hL
 have hle:off≤B.cells.length:=by
  unfold ldB at hv
  split at hv
  ·split at hv
   ·split at hv
    ·split at hv
     ·omega
     ·cases hv
    ·cases hv
   ·rcases Nat.lt_or_ge off B.cells.length with q | q
    ·omega
    ·rw [List.getElem?_eq_none q] at hv;cases hv
  ·cases hv
 exact lq (h:=h2) (a:=⟨b,off,none⟩) (off:=off) (cells:=B.cells) rfl hb hv (fun _ _ _=>trivial) (fun i _=>rfl) (by show off+(B.cells.length - off)≤B.cells.length;omega)
theorem aX {t:TypeId} {x:Operand} {b off:Nat} {v:Value} (ho:R[k]?=some ⟨g,d, .load t x, .look,om⟩) (hg:gon l g) (hx:opv l x=some (.pointer (some ⟨b,off,none⟩))) (hb:b<base+k) (hs:sameV v v=true) (hL:ju P t b off v h.ae) (bX:jl base om (.on b (ju P t b off v)) ef)
  (hk:b7 P R base Zs ((k, .on b (ju P t b off v))::lk) ef (k+1) (bC l d v) h K):b7 P R base Zs lk ef k l h K:=by
 have hl:∀ e,cj e l→∀ h2:AH,ju P t b off v h2.ae→aLook P e.ev (.load t x) h2=some v:=fun e he h2 q=>by
  simp only [aLook,he.opv hx];exact q.load
 refine pO (.on b (ju P t b off v)) rfl ho hg (fun e he=>?_) (fun e he=>⟨hs,hb,hL,hl e he,fun f f' q ⟨B,j,I⟩=>⟨B,by rw [q];exact j,I⟩⟩) bX hk
 simp only [aOp,he.opv hx,hL.load,Option.map_some]
theorem ct (c4:cls P op= .look) (ho:R[k]?=some ⟨g,d,op, .look,om⟩) (hg:gon l g) {v:Value} (av:∀ h2,ga Zs h2→b5 P l op h2 v h2) (hz:ga Zs h) (hs:sameV v v=true) (bX:jl base om .iB ef)
  (hk:b7 P R base Zs ((k, .iB)::lk) ef (k+1) (bC l d v) h K):b7 P R base Zs lk ef k l h K:=
 pO .iB c4 ho hg (av h hz) (fun e he=>⟨hs,fun h2 q=>pR c4 (av h2 q e he)⟩) bX hk
theorem St.bM (hS:St h0 D Z0 Rv Z h L) (hz:aM Zs Z):ga Zs h:=fun b cs q=>hS.b2 b cs (hz b cs q)
theorem RS.bR {α:Type} [Cell α] {v:Value} {xs:List α} (hR:RS Z v xs) {i:Int} {x:α} (hx:xs[i.toNat]?=some x):∃ cs,rc Z cs x∧∀ h2,ga Z h2→kV h2 v i (aa α) cs:=by
 obtain ⟨a,c,rfl,h2,j⟩:=hR
 have hi:i.toNat<xs.length:=by
  rcases Nat.lt_or_ge i.toNat xs.length with q | q
  ·exact q
  ·rw [List.getElem?_eq_none q] at hx;cases hx
 cases a with
 | none=>subst j;simp at hi
 | some a=>
  obtain ⟨af,all,J,ag,U⟩:=j
  obtain ⟨cs,ab,ad⟩:=U.elem hx
  have hm:i.toNat * aa α+aa α≤xs.length * aa α:=by
   have:=Nat.mul_le_mul_right (aa α) (Nat.succ_le_of_lt hi)
   rw [Nat.succ_mul] at this;exact this
  refine ⟨cs,ab,fun h hz=>?_⟩
  obtain ⟨B,ae,I⟩:=hz _ _ J
  refine ⟨B,ae,by rw [I];show a.off+_+_≤_;omega,?_⟩
  rw [I,← ad]
  show List.take _ (List.drop (a.off+_) all)=_
  rw [List.drop_take,List.drop_drop,List.take_take,Nat.min_eq_left (by omega)]
theorem BG {s t:TypeId} {x:Operand} {v:Value} {xs:List UInt8} (hR:RS Z v xs) (hx:opv l x=some v) (ht:tsTy P s t=true):∀ h2,ga Z h2→b5 P l (.convert s t x) h2 (.string ⟨⟨xs⟩⟩) h2:=by
 intro h2 hz e he
 have hn:∃ news,aNews 1 v h2=some (xs.length,news)∧RCs Z news xs:=by
  obtain ⟨a,c,rfl,af,J⟩:=hR
  cases a with
  | none=>subst J;exact ⟨[],rfl,rfl⟩
  | some a=>
   obtain ⟨ab,all,ad,ae,U⟩:=J
   obtain ⟨B,j,I⟩:=hz _ _ ad
   have e1:aa UInt8=1:=rfl
   rw [e1] at ae U
   refine ⟨_,?_,U⟩
   simp only [aNews,AH.cv,ab,j,Option.bind_some]
   rw [I,if_pos (by omega)];rfl
 obtain ⟨news,j,I⟩:=hn
 obtain ⟨a,c,hv,_⟩:=hR
 simp only [aOp,he.opv hx]
 exact vL ⟨a,c,hv⟩ j I ht
theorem te {f:gB} (ho:R[k]?=some ⟨g,d,op, .fresh,om⟩) (hg:gon l g) (hf:gr P l op f) (hk:b7 P R base Zs lk ef (k+1) (bC l d (f.1 (base+k))) {h with t:=h.t.set (base+k) (some ⟨f.2.1,true,f.2.2⟩)} K):b7 P R base Zs lk ef k l h K:=by
 intro e he
 rw [lC ho]
 simp only [wpDF]
 have hx:=hk (e.put d _) (he.bE d _)
 have hv:=hf.2 e he
 match g,hg with
 | none,_=>exact ⟨f,hv,hx⟩
 | some (some t,w),hg=>exact ⟨t,rfl, .inl ⟨he t _ hg,f,hv,hx⟩⟩
theorem wZ {lw hi:Nat} {cs:List Value} {z:Nat} (ho:R[k]?=some ⟨g,d,op, .fresh,om⟩) (hg:gon l g) (hf:gr P l op (fun id=> .pointer (some ⟨id,0,none⟩),cs,z)) (hS:St h0 D Z0 (lw,hi) Z h L) (h1:lw≤base+k) (h2:base+k<hi)
  (hk:∀ b h',b=base+k→St h0 D Z0 (b+1,hi) Z h' (.ae b cs::L)→b7 P R base Zs lk ef (k+1) (bC l d (.pointer (some ⟨b,0,none⟩))) h' K):b7 P R base Zs lk ef k l h K:=
 te ho hg hf (hk (base+k) _ rfl (hS.vv h1 h2 cs z _ rfl ⟨z,by
  show AH.ae {h with t:=h.t.set (base+k) (some ⟨cs,true,z⟩)} (base+k)=_
  exact (Tr.eT _ _ _ _).trans (if_pos rfl)⟩))
theorem jE {lw hi:Nat} {cells:List Value} {n s:Nat} (ho:R[k]?=some ⟨g,d,op, .fresh,om⟩) (hg:gon l g) (hf:gr P l op (fun id=> .slice (some ⟨id,0,none⟩) n n,cells,s)) (hn:n * s=cells.length) (hS:St h0 D Z0 (lw,hi) Z h L) (h1:lw≤base+k) (h2:base+k<hi)
  (hk:∀ v h' b,b=base+k→(baseOf v).block=b→St h0 D Z0 (b+1,hi) Z h' (.gs v cells s::L)→b7 P R base Zs lk ef (k+1) (bC l d v) h' K):b7 P R base Zs lk ef k l h K:=
 te ho hg hf (hk _ _ (base+k) rfl rfl (hS.vv h1 h2 cells s _ rfl (.inr ⟨base+k,n,n,rfl,hn, .inl rfl,(Tr.eT _ _ _ _).trans (if_pos rfl)⟩)))
theorem tB (ho:R.length=k) (hk:K l h):b7 P R base Zs lk ef k l h K:=by
 intro e he
 rw [List.drop_eq_nil_of_le (by omega)]
 exact ⟨l,he,hk⟩
theorem vN {t:Nat} {b w:Bool} (hl:Sy.lk l t=some (.bool b)) (hb:b=w) (hk:b7 P R base Zs lk ef k ((t, .bool w)::l) h K):b7 P R base Zs lk ef k l h K:=by
 intro e he
 subst hb
 refine hk e fun u v hu=>?_
 simp only [Sy.lk] at hu
 cases hx:Nat.beq t u with
 | true=>
  rw [hx] at hu
  have:=Nat.eq_of_beq_eq_true hx
  subst this
  simp only [Option.some.injEq] at hu
  subst hu
  exact he t _ hl
 | false=>rw [hx] at hu;exact he u v hu
theorem uY (ts:List Nat) (hp:Sy.pick l ts=l') (hk:b7 P R base Zs lk ef k l' h K):b7 P R base Zs lk ef k l h K:=by
 subst hp
 exact fun e he=>hk e (he.pick ts)
def runF (P:Program):List bt→Nat→KL→Option KL
 | _,0,l=>some l
 | [],_+1,_=>none
 | o::os,m+1,l=>
  match o.g with
  | none=>(match o.cl,pureV P l o.op with | .pure,some v=>runF P os m (bC l o.d v) | _,_=>none)
  | some (some t,w)=>(match Sy.lk l t with
   | some b=>(match isB w b with
    | true=>(match o.cl,pureV P l o.op with | .pure,some v=>runF P os m (bC l o.d v) | _,_=>none)
    | false=>runF P os m (bC l o.d undef))
   | none=>none)
  | some (none,_)=>none
theorem uc {cl:fu} {os:List bt} {m i:Nat} {l l':KL} {h:AH} {K:Env→AH→Prop} {e:Env} (he:cj e l) (hr:(match cl,pureV P l op with | .pure,some v=>runF P os m (bC l d v) | _,_=>none)=some l')
  (ih:∀ {v:Value},runF P os m (bC l d v)=some l'→wpDF P base Zs lk ef (i+1) os (e.put d v) h K):cl= .pure∧∃ v h',aOp P (bS P) e.ev op h=some (v,h')∧wpDF P base Zs lk ef (i+1) os (e.put d v) h K:=by
 split at hr
 ·rename_i v hv
  exact ⟨rfl,v,h,qf he hv,ih hr⟩
 ·cases hr
theorem Bq:∀ (m:Nat) {R:List bt} {i:Nat} {l l':KL} {h:AH} {K:Env→AH→Prop} {e:Env},runF P R m l=some l'→cj e l→(∀ e',cj e' l'→wpDF P base Zs lk ef (i+m) (R.drop m) e' h K)→wpDF P base Zs lk ef i R e h K:=by
 intro m
 induction m with
 | zero=>
  intro R i l l' h K e hr he hk
  simp only [runF,Option.some.injEq] at hr
  subst hr
  exact hk e he
 | succ m ih=>
  intro R i l l' h K e hr he hk
  cases R with
  | nil=>cases hr
  | cons o os=>
   have jN:∀ e',cj e' l'→wpDF P base Zs lk ef (i+1+m) (os.drop m) e' h K:=fun e' nz=>by
    have:=hk e' nz
    rw [List.drop_succ_cons] at this
    rw [show i+1+m=i+(m+1) by omega];exact this
   simp only [runF] at hr
   obtain ⟨g,d,op,cl,om⟩:=o
   match g with
   | none=>
    simp only at hr
    obtain ⟨rfl,hx⟩:=uc (base:=base) (Zs:=Zs) (lk:=lk) (ef:=ef) (i:=i) (h:=h) (K:=K) he hr (fun hr=>ih hr (he.bE _ _) jN)
    simp only [wpDF]
    exact hx
   | some (some t,w)=>
    simp only at hr
    split at hr
    ·rename_i b hl
     cases hb:isB w b with
     | true=>
      rw [hb] at hr
      simp only at hr
      obtain ⟨rfl,hx⟩:=uc (base:=base) (Zs:=Zs) (lk:=lk) (ef:=ef) (i:=i) (h:=h) (K:=K) he hr (fun hr=>ih hr (he.bE _ _) jN)
      simp only [wpDF]
      refine ⟨t,rfl, .inl ⟨?_,hx⟩⟩
      rw [he t _ hl]
      exact nT.1 hb
     | false=>
      rw [hb] at hr
      simp only [wpDF]
      refine ⟨t,rfl, .inr ⟨fun q=>?_,ih hr (he.bE _ _) jN⟩⟩
      rw [he t _ hl] at q
      rw [nT.2 q] at hb
      cases hb
    ·cases hr
   | some (none,_)=>cases hr
theorem wc (m:Nat) (hr:runF P (R.drop k) m l=some l') (hk:b7 P R base Zs lk ef (k+m) l' h K):b7 P R base Zs lk ef k l h K:=by
 intro e he
 refine Bq m hr he fun e' nz=>?_
 have:=hk e' nz
 rw [List.drop_drop]
 exact this
theorem yq (m:Nat) (l':KL) (hk:b7 P R base Zs lk ef (k+m) l' h K) (hr:(runF P (R.drop k) m l).map (fun q=>pick q (l'.map Prod.fst))=some l':=by kernel_rfl):b7 P R base Zs lk ef k l h K:=by
 obtain ⟨q,h1,h2⟩:=Option.map_eq_some_iff.1 hr
 exact wc m h1 (uY _ h2 hk)
theorem ye (m:Nat) (l':KL) (hk:K l' h) (hr:(runF P (R.drop k) m l).map (fun q=>pick q (l'.map Prod.fst))=some l':=by kernel_rfl) (ho:R.length=k+m:=by kernel_rfl):b7 P R base Zs lk ef k l h K:=yq m l' (tB ho hk) hr
theorem yf (l':KL) (hk:K l' h) (hp:pick l (l'.map Prod.fst)=l':=by kernel_rfl) (ho:R.length=k:=by kernel_rfl):b7 P R base Zs lk ef k l h K:=uY _ hp (tB ho hk)
theorem ey {c:Code} {N:KL→AH→Prop} {X:cZ→KL→AH→Prop} (R:List bt) (hS:St h0 D Z0 Rv Z h L) (hw:∀ base h',(∀ p∈L,∀ b∈p.ids,b<base)∧(∀ b,Z b≠none→b<base)→St h0 D Z0 (base,base+R.length) Z h' L→b7 P R base Z [] [] 0 l h' N) (hc:regOfF P c=some R:=by kernel_rfl):W P c l h N X:=ve hc hS hw
def Al (P:Program):Code→Option (List bt)
 | .seq a _=>regOfF P a
 | _=>none
theorem cU {c:Code} {N:KL→AH→Prop} {X:cZ→KL→AH→Prop} (R:List bt) (hS:St h0 D Z0 Rv Z h L)
  (hw:∀ base h',(∀ p∈L,∀ b∈p.ids,b<base)∧(∀ b,Z b≠none→b<base)→St h0 D Z0 (base,base+R.length) Z h' L→b7 P R base Z [] [] 0 l h' (fun l h=>W P (cR c) l h N X)) (hc:Al P c=some R:=by kernel_rfl):W P c l h N X:=by
 cases c with
 | seq a b=>exact oW rfl (ve hc hS hw)
 | _=>cases hc
theorem BS (ho:R[k]?=some ⟨g,d,op, .make,om⟩) (hg:gon l g) {v:Value} (dJ:b5 P l op {h with low:=h.next} v h1) (hl:h.next≤h1.low) (hk:b7 P R base Zs lk ef (k+1) (bC l d v) (gA h h1) K):b7 P R base Zs lk ef k l h K:=by
 intro e he
 rw [lC ho]
 simp only [wpDF]
 have hx:=hk (e.put d v) (he.bE d v)
 match g,hg with
 | none,_=>exact ⟨v,h1,dJ e he, .inl ⟨hl,hx⟩⟩
 | some (some t,w),hg=>exact ⟨t,rfl, .inl ⟨he t _ hg,v,h1,dJ e he, .inl ⟨hl,hx⟩⟩⟩
theorem C2 {fp:Fp} (ho:R[k]?=some ⟨g,d,op, .make,om⟩) (hg:gon l g) {v:Value} (dJ:b5 P l op {h with low:=h.next} v h1) (hf:m9 Zs h h1 fp) (hm:e7 (fun S=>S h1.ae) om fp lk dE) (hk:b7 P R base Zs dE ((k,fp)::ef) (k+1) (bC l d v) (gA h h1) K):b7 P R base Zs lk ef k l h K:=by
 intro e he
 rw [lC ho]
 simp only [wpDF]
 have hx:=hk (e.put d v) (he.bE d v)
 match g,hg with
 | none,_=>exact ⟨v,h1,dJ e he, .inr ⟨fp,dE,hf,hm,hx⟩⟩
 | some (some t,w),hg=>exact ⟨t,rfl, .inl ⟨he t _ hg,v,h1,dJ e he, .inr ⟨fp,dE,hf,hm,hx⟩⟩⟩
theorem fv (ho:R[k]?=some ⟨g,d,op, .make,om⟩) (hg:gon l g) (hS:St h0 D Z0 Rv Z h L) {v:Value} (dJ:b5 P l op {h with low:=h.next} v h1) (j:St h0 D Z0 Rv Z1 h1 L') (hl:h.next≤h1.low)
  (hk:∀ h',St h0 D Z0 Rv Z1 h' L'→b7 P R base Zs lk ef (k+1) (bC l d v) h' K):b7 P R base Zs lk ef k l h K:=
 BS ho hg dJ hl (hk _ (hS.tO j))
theorem fK {A A' B:List Itm} (ho:R[k]?=some ⟨g,d,op, .make,om⟩) (hg:gon l g) (hS:St h0 D Z0 Rv Z h (A++B)) {v:Value} (dJ:b5 P l op {h with low:=h.next} v h1) (hc:St {h with low:=h.next} (aR A) Z (0,0) Z1 h1 A') (hz:aM Zs Z1) (hm:e7 (fun S=>S h1.ae) om (.dI (aR A)) lk dE)
  (hk:∀ h',St h0 D Z0 Rv Z1 h' (A'++B)→b7 P R base Zs dE ((k, .dI (aR A))::ef) (k+1) (bC l d v) h' K):b7 P R base Zs lk ef k l h K:=by
 refine C2 (fp:= .dI (aR A)) ho hg dJ ⟨fun b cs q=>hc.b2 b cs (hz b cs q),fun b hb hn=>hc.aH b hb hn⟩ hm (hk _ ?_)
 exact hS.tO (hS.cM.call hc)
theorem St.sub {A B:List Itm} (hS:St h0 D Z0 Rv Z h (A++B)):St {h with low:=h.next} (aR A) Z (0,0) Z {h with low:=h.next} A:=hS.eF.start
theorem g3 {p p':Itm} {B:List Itm} {v:Value} (ho:R[k]?=some ⟨g,d,op, .make,om⟩) (hg:gon l g) (hS:St h0 D Z0 Rv Z h ([p]++B)) (hx:∃ h1,b5 P l op {h with low:=h.next} v h1∧St {h with low:=h.next} (aR [p]) Z (0,0) Z h1 [p']) (hz:aM Zs Z) (hm:∀ {Q},e7 Q om (.dI (aR [p])) lk dE)
  (hk:∀ h',St h0 D Z0 Rv Z h' (p'::B)→b7 P R base Zs dE ((k, .dI (aR [p]))::ef) (k+1) (bC l d v) h' K):b7 P R base Zs lk ef k l h K:=by
 obtain ⟨h1,j,I⟩:=hx
 exact fK (A:=[p]) (A':=[p']) (B:=B) ho hg hS j I hz hm hk
theorem nN {p:Itm} {B:List Itm} {v:Value} {T:List Value→Prop} {F:List Value→List Itm} (ho:R[k]?=some ⟨g,d,op, .make,om⟩) (hg:gon l g) (hS:St h0 D Z0 Rv Z h ([p]++B)) (hx:∃ h1 c,b5 P l op {h with low:=h.next} v h1∧T c∧St {h with low:=h.next} (aR [p]) Z (0,0) Z h1 (F c)) (hz:aM Zs Z) (hm:∀ {Q},e7 Q om (.dI (aR [p])) lk dE)
  (hk:∀ h' c,T c∧St h0 D Z0 Rv Z h' (F c++B)→b7 P R base Zs dE ((k, .dI (aR [p]))::ef) (k+1) (bC l d v) h' K):b7 P R base Zs lk ef k l h K:=by
 obtain ⟨h1,c,j,I,J⟩:=hx
 exact fK (A:=[p]) (A':=F c) (B:=B) ho hg hS j J hz hm fun h' q=>hk h' c ⟨I,q⟩
theorem iK {p:Itm} {B:List Itm} {T:List Value→Prop} {F:Value→List Value→List Itm} (ho:R[k]?=some ⟨g,d,op, .make,om⟩) (hg:gon l g) (hS:St h0 D Z0 Rv Z h ([p]++B)) (hx:∃ v c h1,b5 P l op {h with low:=h.next} v h1∧T c∧St {h with low:=h.next} (aR [p]) Z (0,0) Z h1 (F v c)) (hz:aM Zs Z) (hm:∀ {Q},e7 Q om (.dI (aR [p])) lk dE)
  (hk:∀ v c h',T c∧St h0 D Z0 Rv Z h' (F v c++B)→b7 P R base Zs dE ((k, .dI (aR [p]))::ef) (k+1) (bC l d v) h' K):b7 P R base Zs lk ef k l h K:=by
 obtain ⟨v,c,h1,j,I,J⟩:=hx
 exact fK (A:=[p]) (A':=F v c) (B:=B) ho hg hS j J hz hm fun h' q=>hk v c h' ⟨I,q⟩
theorem St.bJ {A B:List Itm} (hS:St h0 D Z0 Rv Z h (A++B)) (j:Nat) {q:Itm} (hj:B[j]?=some q) {b:Nat} (hb:b∈q.ids):b∉aR A:=by
 intro hA
 obtain ⟨p,hp,iV⟩:=j8.1 hA
 exact (List.pairwise_append.1 hS.dj).2.2 p hp q (List.mem_of_getElem? hj) b iV hb
theorem bO {b:Nat} {c:List Value}:b∈(Itm.ae b c).ids:=by simp [Itm.ids]
theorem kZ {v:Value} {c:List Value} {s n:Nat} (hB:jU v n):(baseOf v).block∈(Itm.gs v c s).ids:=by
 obtain ⟨a,c,rfl,_⟩:=hB
 simp [Itm.ids,baseOf]
end
end Go.Proofs.Ytcilejikekccmaa.Sy
namespace Go.Proofs.Ytcilejikekccmaa.Sy
open Go Am
open Cell (rc)
abbrev Bk:=Nat×List Value×Nat
class cV (α:Type) (β:outParam Type) [Cell α] [Cell β] where
 row:α→List β
 dQ:Value→List Value→α→Prop
 o6:∀ {Z:Zn} {cs:List Value} {x:α} {v:Value},RS (α:=β) Z v (row x)→dQ v cs x→rc Z cs x
 kJ:∀ {v:Value} {cs:List Value} {x:α},dQ v cs x→cs.length=Cell.size α
 done:∀ {v:Value} {cs:List Value} {x:α},Value.oneCell' v=true→dQ v cs x→cs.all Value.oneCell'=true
 inj:∀ {v w:Value} {cs:List Value} {x:α},dQ v cs x→dQ w cs x→v=w
 fn:∀ {v:Value} {cs aZ:List Value} {x:α},dQ v cs x→dQ v aZ x→cs=aZ
structure DV (α:Type) where
 x:α
 v:Value
section
variable {α β:Type} [Cell α] [Cell β] [cV α β]
instance:Cell (DV α) where
 size:=Cell.size α
 rc _ cs d:=Value.oneCell' d.v=true∧cV.dQ d.v cs d.x
 len h:=cV.kJ h.2
 mono _ h:=h
 one h:=cV.done h.1 h.2
 pos:=Cell.pos (α:=α)
variable {P:Program} {l:KL} {h h':AH} {h0:AH} {D:List Nat} {Z0 Z Z':Zn} {Rv:Nat×Nat} {L L':List Itm}
variable {v w:Value} {cells:List Value} {xs:List α} {bs:List Bk}
def hM (Z:Zn) (v:Value) (ys:List β) (k:List Bk):Prop:=
 ∃ cells,RCs Z cells ys∧((v= .slice none 0 0∧cells=[]∧k=[])∨∃ b n c,v= .slice (some ⟨b,0,none⟩) n c∧n * aa β=cells.length∧(c=n∨c=n+1)∧k=[(b,cells,aa β)])
def Own (Z:Zn):List (DV α)→List Bk→Prop
 | [],bs=>bs=[]
 | d::ds,bs=>∃ k r,bs=k++r∧hM Z d.v (cV.row (β:=β) d.x) k∧Own Z ds r
def RD (Z:Zn) (cells:List Value) (xs:List α) (bs:List Bk):Prop:=
 ∃ ds:List (DV α),ds.map DV.x=xs∧RCs Z cells ds∧Own Z ds bs
def RH (Z:Zn) (cells:List Value) (xs:List α) (bs:List Bk) (i:Nat) (w:Value):Prop:=
 ∃ (j:List (DV α)) (d:DV α) (I:List (DV α)) (J U:List Bk),(j++d::I).map DV.x=xs∧j.length=i∧d.v=w∧RCs Z cells (j++d::I)∧bs=J++U∧Own Z j J∧Own Z I U
theorem hM.mono (hz:aM Z Z') {v:Value} {ys:List β} {k:List Bk} (hO:hM Z v ys k):hM Z' v ys k:=by
 obtain ⟨cells,h1,h2⟩:=hO
 exact ⟨cells,h1.mono hz,h2⟩
theorem Own.mono (hz:aM Z Z'):∀ {ds:List (DV α)} {bs:List Bk},Own Z ds bs→Own Z' ds bs:=by
 intro ds
 induction ds with
 | nil=>intro bs h;exact h
 | cons d ds ih=>
  rintro bs ⟨k,r,rfl,h1,h2⟩
  exact ⟨k,r,rfl,h1.mono hz,ih h2⟩
theorem RD.mono (hz:aM Z Z') (hR:RD Z cells xs bs):RD Z' cells xs bs:=by
 obtain ⟨ds,h1,h2,j⟩:=hR
 exact ⟨ds,h1,h2.mono hz,j.mono hz⟩
theorem RH.mono (hz:aM Z Z') {i:Nat} (hR:RH Z cells xs bs i w):RH Z' cells xs bs i w:=by
 obtain ⟨j,d,I,J,U,h1,h2,aa,ab,ad,ae,af⟩:=hR
 exact ⟨j,d,I,J,U,h1,h2,aa,ab.mono hz,ad,ae.mono hz,af.mono hz⟩
theorem Own.append:∀ {d1 d2:List (DV α)} {I j:List Bk},Own Z d1 I→Own Z d2 j→Own Z (d1++d2) (I++j):=by
 intro d1
 induction d1 with
 | nil=>intro d2 I j h1 h2;simp only [Own] at h1;subst h1;exact h2
 | cons d d1 ih=>
  rintro d2 I j ⟨k,r,rfl,h1,h2⟩ J
  exact ⟨k,r++j,by rw [List.append_assoc],h1,ih h2 J⟩
theorem Own.split:∀ {d1 d2:List (DV α)} {bs:List Bk},Own Z (d1++d2) bs→∃ j I,bs=j++I∧Own Z d1 j∧Own Z d2 I:=by
 intro d1
 induction d1 with
 | nil=>intro d2 bs h;exact ⟨[],bs,rfl,rfl,h⟩
 | cons d d1 ih=>
  rintro d2 bs ⟨k,r,rfl,h1,h2⟩
  obtain ⟨j,I,rfl,J,U⟩:=ih h2
  exact ⟨k++j,I,by rw [List.append_assoc],⟨k,j,rfl,h1,J⟩,U⟩
theorem RD.raw (hR:RD Z cells xs bs):∃ ds:List (DV α),ds.map DV.x=xs∧RCs Z cells ds:=⟨hR.choose,hR.choose_spec.1,hR.choose_spec.2.1⟩
theorem RH.raw {i:Nat} (hR:RH Z cells xs bs i w):∃ ds:List (DV α),ds.map DV.x=xs∧RCs Z cells ds:=by
 obtain ⟨I,d,J,U,aa,h1,h2,ab,j,ad,ae,af⟩:=hR
 exact ⟨_,h1,j⟩
theorem St.kJ (hS:St h0 D Z0 Rv Z h L) {i:Nat} (hi:L[i]?=some (.gs v cells (aa α))) (hR:∃ ds:List (DV α),ds.map DV.x=xs∧RCs Z cells ds):lenOf v=some xs.length:=by
 obtain ⟨ds,rfl,h2⟩:=hR
 rw [List.length_map]
 exact hS.dn (α:=DV α) hi h2
theorem St.mW (hS:St h0 D Z0 Rv Z h L) {i:Nat} (hi:L[i]?=some (.gs v cells (aa α))) (hR:∃ ds:List (DV α),ds.map DV.x=xs∧RCs Z cells ds) (hn:0<xs.length):jU v xs.length:=by
 obtain ⟨ds,rfl,h2⟩:=hR
 rw [List.length_map] at hn ⊢
 exact hS.bN (α:=DV α) hi h2 hn
theorem St.del (hS:St h0 D Z0 Rv Z h L) {j:Nat} (hi:L[j]?=some (.gs v cells (aa α))) (hR:∃ ds:List (DV α),ds.map DV.x=xs∧RCs Z cells ds) {i:Int} {x:α} (hx:xs[i.toNat]?=some x):
  ∃ w cs,cV.dQ (β:=β) w cs x∧Value.oneCell' w=true∧kV h v i (aa α) cs∧(cells.drop (i.toNat * aa α)).take (aa α)=cs:=by
 obtain ⟨ds,rfl,h2⟩:=hR
 rw [List.getElem?_map] at hx
 obtain ⟨d,hd,rfl⟩:=Option.map_eq_some_iff.1 hx
 obtain ⟨cs,I,J,U⟩:=hS.cp (α:=DV α) hi h2 hd
 exact ⟨d.v,cs,I.2,I.1,J,U⟩
theorem Own.at:∀ {ds:List (DV α)} {bs:List Bk} {i:Nat} {d:DV α},Own Z ds bs→ds[i]?=some d→∃ d1 d2 j k I,ds=d1++d::d2∧d1.length=i∧bs=j++(k++I)∧Own Z d1 j∧hM Z d.v (cV.row (β:=β) d.x) k∧Own Z d2 I:=by
 intro ds
 induction ds with
 | nil=>intro bs i d h hd;simp at hd
 | cons e ds ih=>
  rintro bs i d ⟨k,r,rfl,h1,h2⟩ hd
  cases i with
  | zero=>simp at hd;subst hd;exact ⟨[],ds,[],k,r,rfl,rfl,rfl,rfl,h1,h2⟩
  | succ i=>
   simp only [List.getElem?_cons_succ] at hd
   obtain ⟨d1,d2,j,k',I,rfl,rfl,rfl,J,U,aa⟩:=ih h2 hd
   exact ⟨e::d1,d2,k++j,k',I,rfl,rfl,by simp only [List.append_assoc],⟨k,j,rfl,h1,J⟩,U,aa⟩
theorem St.pS (hS:St h0 D Z0 Rv Z h L):St h0 D Z0 Rv Z h (.bF []::L):=
 hS.add _ (fun _ _ _=>rfl) ⟨List.nodup_nil,fun x hx=>by cases hx⟩ (fun b hb=>by simp [Itm.ids] at hb) (Nat.le_refl _) hS.cw (fun _ q=>q)
theorem St.swap {A A':List Itm} (hS:St h0 D Z0 Rv Z h (A++L)) (bX:(∀ p∈A,p.ok h)→A.Pairwise (fun p q=>∀ b∈p.ids,b∉q.ids)→(∀ p∈A',p.ok h)∧A'.Pairwise (fun p q=>∀ b∈p.ids,b∉q.ids)) (c8:∀ b,b∈aR A'→b∈aR A):St h0 D Z0 Rv Z h (A'++L):=by
 obtain ⟨d1,d2,d3⟩:=List.pairwise_append.1 hS.dj
 obtain ⟨j,I⟩:=bX (fun p hp=>hS.ok p (List.mem_append_left _ hp)) d1
 have eQ:∀ p∈A',∀ b∈p.ids,∃ q∈A,b∈q.ids:=fun p hp b hb=>j8.1 (c8 b (j8.2 ⟨p,hp,hb⟩))
 exact {hS with
  ok:=fun p hp=>by
   rcases List.mem_append.1 hp with hp | hp
   ·exact j p hp
   ·exact hS.ok p (List.mem_append_right _ hp)
  dj:=List.pairwise_append.2 ⟨I,d2,fun p hp q hq b hb oB=>by
   obtain ⟨r,hr,gO⟩:=eQ p hp b hb
   exact d3 r hr q hq b gO oB⟩
  dz:=fun p hp b hb=>by
   rcases List.mem_append.1 hp with hp | hp
   ·obtain ⟨r,hr,gO⟩:=eQ p hp b hb
    exact hS.dz r (List.mem_append_left _ hr) b gO
   ·exact hS.dz p (List.mem_append_right _ hp) b hb
  new:=fun p hp b hb=>by
   rcases List.mem_append.1 hp with hp | hp
   ·obtain ⟨r,hr,gO⟩:=eQ p hp b hb
    exact hS.new r (List.mem_append_left _ hr) b gO
   ·exact hS.new p (List.mem_append_right _ hp) b hb}
theorem vk (bs:List Bk):(Itm.bF bs).ids=bs.map (·.1):=rfl
theorem St.ox {a b:List Bk} (hS:St h0 D Z0 Rv Z h (.bF a:: .bF b::L)):St h0 D Z0 Rv Z h (.bF (a++b)::L):=by
 refine St.swap (A:=[.bF a, .bF b]) (A':=[.bF (a++b)]) hS (fun o d=>⟨fun p hp=>?_,List.pairwise_singleton _ _⟩) (fun x hx=>?_)
 ·simp only [List.mem_singleton] at hp
  subst hp
  have oa:=o (.bF a) (by simp)
  have ob:=o (.bF b) (by simp)
  have EZ:∀ x∈(Itm.bF a).ids,x∉(Itm.bF b).ids:=by simpa using d
  refine ⟨?_,fun x hx=>?_⟩
  ·rw [List.map_append,List.nodup_append]
   exact ⟨oa.1,ob.1,fun x hx y hy e=>EZ x hx (by rw [e];exact hy)⟩
  ·rcases List.mem_append.1 hx with q | q
   ·exact oa.2 x q
   ·exact ob.2 x q
 ·simp only [aR,List.flatMap_cons,List.flatMap_nil,List.append_nil,vk,List.map_append] at hx ⊢
  exact hx
theorem St.pH {a b:List Bk} (hS:St h0 D Z0 Rv Z h (.bF (a++b)::L)):St h0 D Z0 Rv Z h (.bF a:: .bF b::L):=by
 refine St.swap (A:=[.bF (a++b)]) (A':=[.bF a, .bF b]) hS (fun o d=>?_) (fun x hx=>?_)
 ·have oa:=o (.bF (a++b)) (by simp)
  have on:=oa.1
  rw [List.map_append,List.nodup_append] at on
  refine ⟨fun p hp=>?_,?_⟩
  ·simp only [List.mem_cons,List.not_mem_nil,or_false] at hp
   rcases hp with rfl | rfl
   ·exact ⟨on.1,fun x hx=>oa.2 x (List.mem_append_left _ hx)⟩
   ·exact ⟨on.2.1,fun x hx=>oa.2 x (List.mem_append_right _ hx)⟩
  ·simp only [List.pairwise_cons,List.mem_singleton,forall_eq,List.not_mem_nil,false_imp_iff,implies_true,List.Pairwise.nil,and_true]
   exact fun x hx hy=>on.2.2 x hx x hy rfl
 ·simp only [aR,List.flatMap_cons,List.flatMap_nil,List.append_nil,vk,List.map_append] at hx ⊢
  exact hx
theorem St.uW {v:Value} {ck:List Value} {ys:List β} (hS:St h0 D Z0 Rv Z h (.gs v ck (aa β)::L)) (hR:RCs Z ck ys):∃ k,hM Z v ys k∧St h0 D Z0 Rv Z h (.bF k::L):=by
 rcases hS.ok _ List.mem_cons_self with ⟨rfl,rfl⟩ | ⟨b,n,c,rfl,h1,h2,j⟩
 ·exact ⟨[],⟨[],hR, .inl ⟨rfl,rfl,rfl⟩⟩,hS.tail.pS⟩
 ·refine ⟨[(b,ck,aa β)],⟨ck,hR, .inr ⟨b,n,c,rfl,h1,h2,rfl⟩⟩,St.swap (A:=[.gs (.slice (some ⟨b,0,none⟩) n c) ck (aa β)]) (A':=[.bF [(b,ck,aa β)]]) hS (fun o d=>⟨fun p hp=>?_,List.pairwise_singleton _ _⟩) (fun x hx=>hx)⟩
  simp only [List.mem_singleton] at hp
  subst hp
  exact ⟨by simp,fun x hx=>by simp only [List.mem_singleton] at hx;subst hx;exact j⟩
theorem St.sZ {v:Value} {k:List Bk} {ys:List β} (hS:St h0 D Z0 Rv Z h (.bF k::L)) (hR:hM Z v ys k):∃ ck,RCs Z ck ys∧St h0 D Z0 Rv Z h (.gs v ck (aa β)::L):=by
 obtain ⟨ck,hR,⟨rfl,rfl,rfl⟩ | ⟨b,n,c,rfl,h1,h2,rfl⟩⟩:=hR
 ·exact ⟨[],hR,hS.tail.dh _⟩
 ·refine ⟨ck,hR,St.swap (A:=[.bF [(b,ck,aa β)]]) (A':=[.gs (.slice (some ⟨b,0,none⟩) n c) ck (aa β)]) hS (fun o d=>⟨fun p hp=>?_,List.pairwise_singleton _ _⟩) (fun x hx=>hx)⟩
  simp only [List.mem_singleton] at hp
  subst hp
  exact .inr ⟨b,n,c,rfl,h1,h2,(o (.bF [(b,ck,aa β)]) (by simp)).2 (b,ck,aa β) (by simp)⟩
theorem RD.nil:RD (α:=α) Z [] [] []:=⟨[],rfl,rfl,rfl⟩
theorem St.y1 (hS:St h0 D Z0 Rv Z h L) (s:Nat):St h0 D Z0 Rv Z h (.gs (.slice none 0 0) [] s:: .bF []::L):=hS.pS.dh s
theorem RD.one {cs:List Value} {x:α} {k:List Bk} (hd:cV.dQ (β:=β) w cs x) (ho:Value.oneCell' w=true) (hO:hM Z w (cV.row (β:=β) x) k):RD Z cs [x] k:=
 ⟨[⟨x,w⟩],rfl,RCs.single (x:=(⟨x,w⟩:DV α)) ⟨ho,hd⟩,k,[],by simp,hO,rfl⟩
theorem hM.nil:hM (β:=β) Z (.slice none 0 0) [] []:=⟨[],rfl, .inl ⟨rfl,rfl,rfl⟩⟩
theorem St.xA (hS:St h0 D Z0 Rv Z h (.gs v cells (aa α):: .bF bs::L)) (hR:RD Z cells xs bs) {i:Int} {x:α} (hx:xs[i.toNat]?=some x):
  ∃ w cs ck jJ,cV.dQ (β:=β) w cs x∧kV h v i (aa α) cs∧RCs Z ck (cV.row (β:=β) x)∧RH Z cells xs jJ i.toNat w∧St h0 D Z0 Rv Z h (.gs w ck (aa β):: .gs v cells (aa α):: .bF jJ::L):=by
 obtain ⟨ds,rfl,h2,U⟩:=hR
 rw [List.getElem?_map] at hx
 obtain ⟨d,hd,rfl⟩:=Option.map_eq_some_iff.1 hx
 obtain ⟨cs,ab,ad,an⟩:=hS.cp (α:=DV α) (j:=0) rfl h2 hd
 obtain ⟨d1,d2,I,k,J,rfl,hl,rfl,ae,af,ag⟩:=U.at hd
 have ah:=(hS.front 1 rfl).pH
 have ai:=(ah.front 1 rfl).pH
 obtain ⟨ck,rU,aj⟩:=ai.sZ af
 have ak:=((aj.front 1 rfl).front 2 rfl).ox
 refine ⟨d.v,cs,ck,I++J,ab.2,ad,rU,⟨d1,d,d2,I,J,rfl,hl,rfl,h2,rfl,ae,ag⟩,?_⟩
 exact ((ak.front 1 rfl).front 2 rfl).front 1 rfl
theorem vV {t:TypeId} {x y:Operand} {u:Value} {i:Int} {j m:Nat} {cs aZ vs:List Value} {z z':α} (hS:St h0 D Z0 Rv Z h L) (hi:L[m]?=some (.gs v cells (aa α))) (hR:RD Z cells xs bs)
  (hu:xs[i.toNat]?=some z) (de:(cells.drop (i.toNat * aa α)).take (aa α)=cs)
  (hx:opv l x=some (.pointer (some (ba v i (aa α) j)))) (hy:opv l y=some u) (gC:lv u=vs) (ht:bW P t=some vs.length) (fq:vs.all Value.oneCell'=true) (hl:Nat.ble (j+vs.length) cs.length=true)
  (hc:cs.take j++vs++cs.drop (j+vs.length)=aZ) (J:cV.dQ (β:=β) w cs z) (U:cV.dQ (β:=β) w aZ z') (kA:cV.row (β:=β) z'=cV.row z):
  ∃ h' cF,b5 P l (.store t x y) h undef h'∧RD Z cF (xs.set i.toNat z') bs∧St h0 D Z0 Rv Z h' (L.set m (.gs v cF (aa α))):=by
 obtain ⟨ds,rfl,h2,ab⟩:=hR
 rw [List.getElem?_map] at hu
 obtain ⟨d,hd,rfl⟩:=Option.map_eq_some_iff.1 hu
 obtain ⟨ad,I,an,ae⟩:=hS.cp (α:=DV α) hi h2 hd
 have e:ad=cs:=ae.symm.trans de
 subst e
 obtain ⟨h',c',r1,af,ag⟩:=gi (α:=DV α) (u':=⟨z',d.v⟩) hS hi h2 hd de hx hy gC ht fq hl hc ⟨I.1,by rw [cV.inj I.2 J];exact U⟩
 refine ⟨h',c',r1,⟨_,?_,af,?_⟩,ag⟩
 ·rw [List.map_set]
 ·obtain ⟨d1,d2,ao,k,ah,rfl,hl,rfl,ai,aj,ak⟩:=ab.at hd
  rw [← hl,List.set_append_right _ _ (Nat.le_refl _),Nat.sub_self,List.set_cons_zero]
  exact ai.append ⟨k,ah,rfl,by rw [show cV.row (β:=β) (DV.mk z' d.v).x=cV.row d.x from kA];exact aj,ak⟩
theorem y4 {t:TypeId} {x y:Operand} {u:Value} {ck cs aZ:List Value} {ys:List β} {i:Int} {j:Nat} {z z':α} (hS:St h0 D Z0 Rv Z h (.gs u ck (aa β):: .gs v cells (aa α):: .bF bs::L)) (hH:RH Z cells xs bs i.toNat w) (hk:RCs Z ck ys)
  (hz:xs[i.toNat]?=some z) (hx:opv l x=some (.pointer (some (ba v i (aa α) j)))) (hy:opv l y=some u) (ht:bW P t=some 1) (hl:Nat.ble (j+1) (aa α)=true)
  (ad:cV.dQ (β:=β) w cs z) (hc:cs.take j++[u]++cs.drop (j+1)=aZ) (ae:cV.dQ (β:=β) u aZ z') (kA:cV.row (β:=β) z'=ys):
  ∃ h' cF jJ,b5 P l (.store t x y) h undef h'∧RD Z cF (xs.set i.toNat z') jJ∧St h0 D Z0 Rv Z h' (.gs v cF (aa α):: .bF jJ::L):=by
 subst kA
 obtain ⟨af,d,ag,ah,I,rfl,h2,rfl,J,rfl,ai,aj⟩:=hH
 have hd:(af++d::ag)[i.toNat]?=some d:=by rw [← h2];simp
 rw [List.getElem?_map,hd] at hz
 simp only [Option.map_some,Option.some.injEq] at hz
 subst hz
 obtain ⟨ak,U,ax,an⟩:=hS.cp (α:=DV α) (j:=1) rfl J hd
 have e:cs=ak:=(cV.fn U.2 ad).symm
 subst e
 have ab:Value.oneCell' u=true:=hS.fF (i:=0) rfl
 have c4:cs.length=aa α:=cV.kJ U.2
 obtain ⟨h',c',r1,ao,aq⟩:=gi (α:=DV α) (P:=P) (t:=t) (vs:=[u]) (u':=⟨z',u⟩) hS (m:=1) rfl J hd an hx hy (hS.fE (i:=0) rfl) ht (by simp [ab]) (by rw [c4];exact hl) hc ⟨ab,ae⟩
 obtain ⟨k,hO,ar⟩:=St.uW (β:=β) aq (ys:=cV.row (β:=β) z') hk
 have au:=(ar.front 2 rfl).pH
 have av:=(((au.front 2 rfl).front 2 rfl).front 1 rfl).ox
 have aw:=(av.front 1 rfl).ox
 refine ⟨h',c',ah++(k++I),r1,⟨_,?_,ao,?_⟩,(aw.front 1 rfl)⟩
 ·rw [List.map_set]
 ·rw [← h2,List.set_append_right _ _ (Nat.le_refl _),Nat.sub_self,List.set_cons_zero]
  exact ai.append ⟨k,I,rfl,hO,aj⟩
theorem RD.freeze (hS:St h0 D Z0 Rv Z h (.bF bs::L)) (hR:RD Z cells xs bs):∃ Z',aM Z Z'∧RCs Z' cells xs∧St h0 D Z0 Rv Z' h L:=by
 obtain ⟨ds,rfl,h2,J⟩:=hR
 induction ds generalizing Z cells bs with
 | nil=>
  simp only [RCs] at h2;subst h2
  exact ⟨Z,aM.refl _,rfl,hS.tail⟩
 | cons d ds ih=>
  obtain ⟨cs,rest,rfl,U,aa⟩:=h2
  obtain ⟨k,r,rfl,ab,ad⟩:=J
  obtain ⟨ck,rU,ae⟩:=hS.pH.sZ ab
  obtain ⟨Z1,j,af,ag⟩:=ae.freeze rU
  obtain ⟨ah,I,ai,aj⟩:=ih ag (aa.mono j) (ad.mono j)
  exact ⟨ah,j.trans I,⟨cs,rest,rfl,cV.o6 (af.mono I) U.2,ai⟩,aj⟩
theorem St.shallow (hS:St h0 D Z0 Rv Z h (.gs v cells (aa α):: .bF bs::L)) (hR:RD Z cells xs bs):∃ Z',aM Z Z'∧RCs Z' cells xs∧St h0 D Z0 Rv Z' h (.gs v cells (aa α)::L):=by
 obtain ⟨Z',h1,h2,j⟩:=RD.freeze (hS.front 1 rfl) hR
 exact ⟨Z',h1,h2,j⟩
theorem tG {t tx:TypeId} {a b:Operand} {bP:Nat} {v2:Value} {c2:List Value} {I:List Bk} {ys:List α} (hS:St h0 D Z0 Rv Z h (.gs v cells (aa α):: .bF bs:: .gs v2 c2 (aa α):: .bF I::L)) (hR:RD Z cells xs bs) (J:RD Z c2 ys I)
  (ha:opv l a=some v) (hb:opv l b=some v2) (ht:appTy P t tx=some (aa α,bP)) (oS:(xs.length+ys.length) * bP≤140737488355328) (hm:xs.length+ys.length≤4611686018427387904):
  ∃ v' cF h',b5 P l (.call ⟨.builtin .append,#[a,b],#[t,tx]⟩) h v' h'∧RD Z cF (xs++ys) (bs++I)∧St h0 D Z0 Rv Z h' (.gs v' cF (aa α):: .bF (bs++I)::L):=by
 obtain ⟨ds,rfl,h2,U⟩:=hR
 obtain ⟨es,rfl,ab,ad⟩:=J
 rw [List.length_map,List.length_map] at oS hm
 obtain ⟨v',c',h',r1,ae,af⟩:=dM (α:=DV α) (P:=P) hS (i:=0) rfl h2 (hS.eI (α:=DV α) (j:=2) rfl ab) ha hb ht oS hm
 refine ⟨v',c',h',r1,⟨ds++es,by rw [List.map_append],ae,U.append ad⟩,?_⟩
 have ag:=(af.front 2 rfl).tail
 have ah:=(ag.front 2 rfl)
 have ai:=(ah.front 2 rfl).ox
 exact ai.front 1 rfl
end
section
variable {P:Program} {l:KL} {h h':AH} {h0:AH} {D:List Nat} {Z0 Z Z':Zn} {Rv:Nat×Nat} {L:List Itm}
def bj (Z:Zn):Itm→Prop
 | .ae b cells=>Z b=some cells
 | .gs v cells s=>(v= .slice none 0 0∧cells=[])∨∃ b n c,v= .slice (some ⟨b,0,none⟩) n c∧n * s=cells.length∧n≤c∧Z b=some cells
 | .bF _=>True
theorem St.jP (hS:St h0 D Z0 Rv Z h L):∃ Z',aM Z Z'∧Inv Z' h∧∀ p∈L,bj Z' p:=by
 classical
 let Z':Zn:=fun b=>if ∃ p∈L,b∈p.ids then (h.ae b).map (·.cells) else Z b
 have eP:∀ b,(∃ p∈L,b∈p.ids)→Z' b=(h.ae b).map (·.cells):=fun b hb=>if_pos hb
 have oL:∀ b,¬ (∃ p∈L,b∈p.ids)→Z' b=Z b:=fun b hb=>if_neg hb
 refine ⟨Z',fun b cs hz=>?_,⟨fun b cs hz=>?_,hS.cw⟩,fun p hp=>?_⟩
 ·rw [oL b (fun ⟨p,hp,hb⟩=>by rw [hS.dz p hp b hb] at hz;cases hz)];exact hz
 ·by_cases e:∃ p∈L,b∈p.ids
  ·rw [eP b e] at hz
   cases hB:h.ae b with
   | none=>rw [hB] at hz;cases hz
   | some B=>rw [hB] at hz;exact ⟨B,rfl,Option.some.inj hz⟩
  ·rw [oL b e] at hz;exact hS.b2 b cs hz
 ·cases p with
  | ae b cells=>
   obtain ⟨z,hz⟩:=hS.ok _ hp
   show Z' b=some cells
   rw [eP b ⟨_,hp,by simp [Itm.ids]⟩,hz];rfl
  | gs v cells s=>
   rcases hS.ok _ hp with ⟨rfl,rfl⟩ | ⟨b,n,c,rfl,h1,h2,j⟩
   ·exact .inl ⟨rfl,rfl⟩
   ·refine .inr ⟨b,n,c,rfl,h1,by omega,?_⟩
    rw [eP b ⟨_,hp,by simp [Itm.ids]⟩,j];rfl
  | bF bs=>trivial
theorem bj.row {α:Type} [Cell α] {v:Value} {cells:List Value} {xs:List α} (hi:bj Z' (.gs v cells (aa α))) (hz:aM Z Z') (hR:RCs Z cells xs):RS Z' v xs:=by
 rcases hi with ⟨rfl,rfl⟩ | ⟨b,n,c,rfl,h1,h2,j⟩
 ·have:xs=[]:=by
   cases xs with
   | nil=>rfl
   | cons x xs=>
    obtain ⟨cs,rest,I,J,_⟩:=hR
    have:=Cell.len J
    have:=Cell.pos (α:=α)
    cases cs with
    | nil=>simp at *;omega
    | cons=>simp at I
  subst this
  exact ⟨none,0,rfl,Nat.le_refl _,rfl⟩
 ·have hlen:=hR.length
  have hn:n=xs.length:=Nat.eq_of_mul_eq_mul_right (Cell.pos (α:=α)) (by show n * aa α=xs.length * aa α;omega)
  refine ⟨some ⟨b,0,none⟩,c,by rw [hn],by omega,rfl,cells,j,by show 0+_≤_;omega,?_⟩
  have:List.take (xs.length * aa α) (List.drop 0 cells)=cells:=by rw [List.drop_zero,List.take_of_length_le (by omega)]
  rw [this]
  exact hR.mono hz
theorem St.jX (hz:aM Z Z') (hc:St h [] Z' (0,0) Z' h' []):St h [] Z (0,0) Z h' []:=
 {hc with
  b2:=fun b cs q=>hc.b2 b cs (hz b cs q)
  ok:=fun p hp=>by cases hp
  dj:=List.Pairwise.nil
  dz:=fun p hp=>by cases hp
  new:=fun p hp=>by cases hp
  ag:=aM.refl _
  e2:=fun b hb=> .inl hb}
theorem k8 {Zs:Zn} {t:TypeId} {x:Operand} {b off:Nat} {cells:List Value} {v:Value} (h2:AH) (hz:ga Zs h2) (hi:Zs b=some cells)
  (hx:opv l x=some (.pointer (some ⟨b,off,none⟩))) (hv:ldB P t off cells=some v):b5 P l (.load t x) h2 v h2:=by
 obtain ⟨B,hb,de⟩:=hz _ _ hi
 have hle:off≤cells.length:=by
  unfold ldB at hv
  split at hv
  ·split at hv
   ·split at hv
    ·split at hv
     ·omega
     ·cases hv
    ·cases hv
   ·rcases Nat.lt_or_ge off cells.length with q | q
    ·omega
    ·rw [List.getElem?_eq_none q] at hv;cases hv
  ·cases hv
 intro e he
 simp only [aOp,he.opv hx]
 rw [lq (h:=h2) (a:=⟨b,off,none⟩) (off:=off) (cells:=cells) rfl hb hv (fun _ _ _=>trivial) (fun i _=>by rw [de]) (by rw [de];show off+(cells.length - off)≤cells.length;omega)]
 rfl
end
section
variable {α:Type} [Cell α] {P:Program} {l:KL} {h h':AH} {h0:AH} {D:List Nat} {Z0 Z Z':Zn} {Rv:Nat×Nat} {L:List Itm} {v vd vs:Value} {cells:List Value} {xs:List α}
def View (v v':Value) (a n s:Nat):Prop:=∃ b m c c',v= .slice (some ⟨b,0,none⟩) m c∧v'= .slice (some ⟨b,a * s,none⟩) n c'
theorem uz {i:Nat} {t:TypeId} {x:Operand} {lo hi:Option Operand} {a b:Int} (hS:St h0 D Z0 Rv Z h L) (eS:L[i]?=some (.gs v cells (aa α))) (hR:RCs Z cells xs) (eP:0<xs.length) (hx:opv l x=some v) (ht:slTy P t=some (aa α)) (g8:loIs l lo a) (jc:nF l hi b xs.length)
  (h1:0≤a) (h2:a≤b) (j:b≤xs.length):∃ v',b5 P l (.slice t x lo hi none) h v' h∧View v v' a.toNat (b.toNat - a.toNat) (aa α):=by
 have hl:=hS.dn eS hR
 rcases hS.ok _ (List.mem_of_getElem? eS) with ⟨rfl,rfl⟩ | ⟨bb,n,c,rfl,I,J,U⟩
 ·simp only [lenOf,Option.some.injEq] at hl;omega
 ·simp only [lenOf,Option.some.injEq] at hl
  subst hl
  refine ⟨.slice (some ⟨bb,a.toNat * aa α,none⟩) (b.toNat - a.toNat) (if c=xs.length∧b.toNat=xs.length then b.toNat - a.toNat else b.toNat - a.toNat+2),fun e he=>?_,bb,_,_,_,rfl,rfl⟩
  unfold slTy at ht
  split at ht
  ·rename_i u hu
   simp only [aOp,he.opv hx,aSlice,hu,ht,Option.bind_some,Option.map_none,rD he g8 jc h1 h2 j,if_true,Option.map_some,Option.some.injEq,Prod.mk.injEq,Value.slice.injEq,and_true]
   rw [add_eq _ _ rfl]
   simp
  ·cases ht
def iF (xs:List α) (a b k:Nat):List α:=xs.take a++((xs.drop b).take k++xs.drop (a+k))
theorem EL {i a b m n:Nat} {t tx:TypeId} {x y:Operand} (hS:St h0 D Z0 Rv Z h L) (eS:L[i]?=some (.gs v cells (aa α))) (hR:RCs Z cells xs) (hd:View v vd a m (aa α)) (hs:View v vs b n (aa α))
  (hx:opv l x=some vd) (hy:opv l y=some vs) (ht:slTy P t=some (aa α)) (ha:a+m≤xs.length) (hb:b+n≤xs.length):
  ∃ h' cF,b5 P l (.call ⟨.builtin .copy,#[x,y],#[t,tx]⟩) h (.int .i64 (Nat.min n m)) h'∧RCs Z cF (iF xs a b (Nat.min n m))∧St h0 D Z0 Rv Z h' (L.set i (.gs v cF (aa α))):=by
 have hl:=hS.dn eS hR
 have hlen:=hR.length
 obtain ⟨bb,I,c1,c2,e1,rfl⟩:=hd
 obtain ⟨aj,ak,an,ao,ah,rfl⟩:=hs
 subst e1
 injection ah with j J U
 injection j with j
 injection j with j
 subst j J U
 have hu:∃ u,P.underlying t=some (.slice u)∧bW P u=some (aa α):=by
  unfold slTy at ht
  split at ht
  ·exact ⟨_,by assumption,ht⟩
  ·cases ht
 obtain ⟨u,ae,af⟩:=hu
 by_cases hk:Nat.min n m=0
 ·have gm:L.set i (.gs (.slice (some ⟨bb,0,none⟩) I c1) cells (aa α))=L:=by
   obtain ⟨ag,ab⟩:=List.getElem?_eq_some_iff.1 eS
   rw [← ab];exact List.set_getElem_self ag
  refine ⟨h,cells,fun e he=>?_,?_,by rw [gm];exact hS⟩
  ·simp only [aOp,List.map_cons,List.map_nil,he.opv hx,he.opv hy,aBuiltin,aCopy,ae,af,Option.bind_some,if_pos hk,hk];rfl
  ·rw [hk];unfold iF;simpa using hR
 ·rcases hS.ok _ (List.mem_of_getElem? eS) with ⟨q,_⟩ | ⟨aq,ar,au,q,ag,ab,ad⟩
  ·cases q
  ·injection q with j J U
   injection j with j
   injection j with j
   subst j J U
   have Fh:Nat.min n m≤m:=Nat.min_le_right _ _
   have Ff:Nat.min n m≤n:=Nat.min_le_left _ _
   generalize iJ:Nat.min n m=k at *
   have f1:(b+k) * aa α≤xs.length * aa α:=Nat.mul_le_mul_right _ (by omega)
   have f2:(a+k) * aa α≤xs.length * aa α:=Nat.mul_le_mul_right _ (by omega)
   rw [Nat.add_mul] at f1 f2
   have py:RCs Z (cells.take (a * aa α)++((cells.drop (b * aa α)).take (k * aa α)++cells.drop ((a+k) * aa α))) (iF xs a b k):=(hR.take a).append (((hR.drop b).take k).append (hR.drop (a+k)))
   have c4:((cells.drop (b * aa α)).take (k * aa α)).length=k * aa α:=by rw [List.length_take,List.length_drop];omega
   have nf:h.cv ⟨bb,b * aa α,none⟩ (k * aa α)=some ((cells.drop (b * aa α)).take (k * aa α)):=by
    simp only [AH.cv,ad,Option.bind_some]
    rw [if_pos (by omega)]
   have fq:((cells.drop (b * aa α)).take (k * aa α)).all Value.oneCell'=true:=((hR.drop b).take k).one
   have bd:AH.store h ⟨bb,a * aa α,none⟩ ((cells.drop (b * aa α)).take (k * aa α))=some (h.put bb (some ⟨cells.take (a * aa α)++((cells.drop (b * aa α)).take (k * aa α)++cells.drop ((a+k) * aa α)),true,aa α⟩)):=by
    simp only [AH.store,ad,Option.bind_some]
    rw [if_pos ⟨trivial,by rw [c4];omega,fq⟩,c4,Nat.add_mul,List.append_assoc]
   refine ⟨h.put bb (some ⟨cells.take (a * aa α)++((cells.drop (b * aa α)).take (k * aa α)++cells.drop ((a+k) * aa α)),true,aa α⟩),_,fun e he=>?_,py,hS.step (q:= .gs (.slice (some ⟨bb,0,none⟩) I c1) _ (aa α)) eS (fun q hq _=>?_) (.inr ⟨bb,I,c1,rfl,?_,ab,by rw [AH.gD,if_pos rfl]⟩) (fun q hq=> .inl hq) (Nat.le_refl _) (oe hS.cw (by rw [ad];simp)) (fun x av ai=>?_)⟩
   ·simp only [aOp,List.map_cons,List.map_nil,he.opv hx,he.opv hy,aBuiltin,aCopy,ae,af,Option.bind_some,iJ,if_neg hk,nf,bd,Option.map_some]
   ·rw [AH.gD,if_neg (by simpa [Itm.ids] using hq)]
   ·rw [List.length_append,List.length_append,c4,List.length_take,List.length_drop]
    rw [Nat.add_mul];omega
   ·rw [AH.lb]
    have:=ai bb (by simp [Itm.ids])
    split<;>omega
theorem Da {e:Int} (h0:0≤e) (h1:e<256):((UInt8.ofNat e.toNat).toNat:Int)=e:=by
 have:e.toNat<256:=by omega
 rw [UInt8.toNat_ofNat',Nat.mod_eq_of_lt this];omega
theorem g7 {e:Int} (h:0≤e∧e<256):rc Z [.int .u8 e] (UInt8.ofNat e.toNat):=by
 show [Value.int .u8 e]=[e9 (UInt8.ofNat e.toNat)]
 rw [e9,Da h.1 h.2]
end
section
variable {P:Program} {R:List aN} {k:Nat} {l:KL} {h:AH} {K:KL→AH→Prop} {g:Option (Option Nat×Bool)} {d:Option Nat} {op:Op}
theorem Aa {α γ:Type} {v:Value} {Q:AH→α→γ→Prop} (ho:R[k]?=some ⟨g,d,op⟩) (hg:gon l g) (hx:∃ h' c b,b5 P l op h v h'∧Q h' c b) (hk:∀ h' c b,Q h' c b→aW P R (k+1) (bC l d v) h' K):aW P R k l h K:=by
 obtain ⟨h',c,b,h1,h2⟩:=hx
 exact bT ho hg h1 (hk h' c b h2)
variable {RF:List bt} {base:Nat} {Zs Z Z0:Zn} {lk dE:List (Nat×c5)} {ef:List (Nat×Fp)} {h0:AH} {D:List Nat} {Rv:Nat×Nat} {om:List Nat}
end
end Go.Proofs.Ytcilejikekccmaa.Sy
namespace Go.Proofs.Ytcilejikekccmaa.Sy
open Go Am
section
variable {P:Program} {c:Code} {l:KL} {h:AH} {N:KL→AH→Prop} {X:cZ→KL→AH→Prop} {R:List aN} {k:Nat} {K:KL→AH→Prop}
def l7 (c:Code):List aN:=(pA c).getD []
def lA (c:Code):List aN:=(regOf c).getD []
theorem s0 (hw:aW P (l7 c) 0 l h (fun l h=>W P (cR c) l h N X)) (hc:(pA c).isSome=true:=by kernel_rfl):W P c l h N X:=by
 obtain ⟨R,hR⟩:=Option.isSome_iff_exists.1 hc
 have:l7 c=R:=by unfold l7;rw [hR];rfl
 rw [this] at hw
 exact sr R hw hR
theorem g0 (hw:aW P (lA c) 0 l h N) (hc:(regOf c).isSome=true:=by kernel_rfl):W P c l h N X:=by
 obtain ⟨R,hR⟩:=Option.isSome_iff_exists.1 hc
 have:lA c=R:=by unfold lA;rw [hR];rfl
 rw [this] at hw
 exact rg R hw hR
def fr (P:Program) (R:List aN) (k m:Nat) (l:KL):KL:=(runP P (R.drop k) m l).getD []
theorem xk (m:Nat) (hr:(runP P (R.drop k) m l).isSome=true) (hk:aW P R (k+m) (fr P R k m l) h K):aW P R k l h K:=by
 obtain ⟨q,hq⟩:=Option.isSome_iff_exists.1 hr
 have:fr P R k m l=q:=by unfold fr;rw [hq];rfl
 rw [this] at hk
 exact uV m hq hk
theorem xn (m:Nat) (hk:K (fr P R k m l) h) (hr:(runP P (R.drop k) m l).isSome=true:=by kernel_rfl) (ho:R.length=k+m:=by kernel_rfl):aW P R k l h K:=xk m hr (qI ho hk)
theorem sp (m:Nat) (hk:W P (cR c) (fr P (l7 c) 0 m l) h N X) (hc:(pA c).isSome=true:=by kernel_rfl) (hr:(runP P (l7 c) m l).isSome=true:=by kernel_rfl) (ho:(l7 c).length=m:=by kernel_rfl):W P c l h N X:=
 s0 (xn m hk hr (by rw [ho,Nat.zero_add])) hc
theorem gp (m:Nat) (hk:N (fr P (lA c) 0 m l) h) (hc:(regOf c).isSome=true:=by kernel_rfl) (hr:(runP P (lA c) m l).isSome=true:=by kernel_rfl) (ho:(lA c).length=m:=by kernel_rfl):W P c l h N X:=
 g0 (xn m hk hr (by rw [ho,Nat.zero_add])) hc
def b9 (R:List aN) (k:Nat):Option Nat:=(R[k]?).bind (·.d)
def gonB (l:KL):Option (Option Nat×Bool)→Bool
 | none=>true
 | some (some t,w)=>(match lk l t with | some b=>isB w b | none=>false)
 | some (none,_)=>false
theorem me {l:KL}:∀ {g},gonB l g=true→gon l g
 | none,_=>trivial
 | some (some t,w),q=>by
  simp only [gonB] at q
  cases hl:lk l t with
  | none=>rw [hl] at q;cases q
  | some b=>rw [hl] at q;have:=nT.1 q;subst this;exact hl
 | some (none,_),q=>by cases q
def callAt (R:List aN) (k:Nat) (l:KL):Option (FuncId×List Value):=match R[k]? with
 | some o=>(match gonB l o.g with
  | true=>(match o.op with
   | .call ⟨.value f,cY,_⟩=>(match opv l f,opvs l cY.toList with
    | some (.func (.func fi) a b),some vs=>some (fi,a.toList++vs++b.toList)
    | _,_=>none)
   | _=>none)
  | false=>none)
 | none=>none
theorem n8 {f:FuncId} {cY:List Value} {v:Value} {h':AH} (hr:callAt R k l=some (f,cY)) (hc:bS P f cY h=some (v,h')) (hk:aW P R (k+1) (bC l (b9 R k) v) h' K):aW P R k l h K:=by
 unfold callAt at hr
 split at hr
 ·rename_i o ho
  split at hr
  ·rename_i hg
   split at hr
   ·rename_i fo Fq ts av
    split at hr
    ·rename_i fi a b vs h1 h2
     simp only [Option.some.injEq,Prod.mk.injEq] at hr
     obtain ⟨rfl,rfl⟩:=hr
     obtain ⟨g,d,op⟩:=o
     subst av
     have hd:b9 R k=d:=by unfold b9;rw [ho];rfl
     rw [hd] at hk
     exact bT ho (me hg) (dy hc h1 h2 rfl) hk
    ·cases hr
   ·cases hr
  ·cases hr
 ·cases hr
def bQ (P:Program) (f:FuncId) (cY:List Value) (h:AH) (Z:Zn) (A:List Itm) (Q:Value→Zn→List Itm→Prop):Prop:=
 ∃ v h' Z' A',bS P f cY h=some (v,h')∧St h (aR A) Z (0,0) Z' h' A'∧Q v Z' A'
section
variable {h0:AH} {D:List Nat} {Z0 Z:Zn} {Rv:Nat×Nat} {A B:List Itm} {f:FuncId} {cY:List Value} {Q:Value→Zn→List Itm→Prop}
theorem cA (m:Nat) (hS:St h0 D Z0 Rv Z h A) (hc:Pre Z h A→bQ P f cY h Z A Q) (hk:∀ v h' Z' A',aM Z Z'→St h0 D Z0 Rv Z' h' A'→Q v Z' A'→aW P R (k+m+1) (bC (fr P R k m l) (b9 R (k+m)) v) h' K)
  (hr:(runP P (R.drop k) m l).isSome=true:=by kernel_rfl) (ha:callAt R (k+m) (fr P R k m l)=some (f,cY):=by kernel_rfl):aW P R k l h K:=by
 obtain ⟨v,h',Z',A',h1,h2,j⟩:=hc hS.pre
 refine xk m hr (n8 ha h1 (hk v h' Z' A' h2.ag ?_ j))
 have rS:St h0 D Z0 Rv Z h (A++[]):=by rw [List.append_nil];exact hS
 have:=rS.call h2
 rwa [List.append_nil] at this
theorem c0 (m:Nat) (hS:St h0 D Z0 Rv Z h B) (hc:bQ P f cY h Z [] Q) (hk:∀ v h' Z' A',aM Z Z'→St h0 D Z0 Rv Z' h' (A'++B)→Q v Z' A'→aW P R (k+m+1) (bC (fr P R k m l) (b9 R (k+m)) v) h' K)
  (hr:(runP P (R.drop k) m l).isSome=true:=by kernel_rfl) (ha:callAt R (k+m) (fr P R k m l)=some (f,cY):=by kernel_rfl):aW P R k l h K:=by
 obtain ⟨v,h',Z',A',h1,h2,j⟩:=hc
 exact xk m hr (n8 ha h1 (hk v h' Z' A' h2.ag (St.call (A:=[]) (B:=B) hS h2) j))
theorem cP {Q':Value→Prop} (m:Nat) (hS:St h0 D Z0 Rv Z h B) (hc:∃ v h',bS P f cY h=some (v,h')∧St h [] Z (0,0) Z h' []∧Q' v) (hk:∀ v h',St h0 D Z0 Rv Z h' B→Q' v→aW P R (k+m+1) (bC (fr P R k m l) (b9 R (k+m)) v) h' K)
  (hr:(runP P (R.drop k) m l).isSome=true:=by kernel_rfl) (ha:callAt R (k+m) (fr P R k m l)=some (f,cY):=by kernel_rfl):aW P R k l h K:=by
 obtain ⟨v,h',h1,h2,j⟩:=hc
 exact xk m hr (n8 ha h1 (hk v h' (St.call (A:=[]) (B:=B) hS h2) j))
theorem cB (m:Nat) (hS:St h0 D Z0 Rv Z h (A++B)) (hc:Pre Z h A→bQ P f cY h Z A Q) (hk:∀ v h' Z' A',aM Z Z'→St h0 D Z0 Rv Z' h' (A'++B)→Q v Z' A'→aW P R (k+m+1) (bC (fr P R k m l) (b9 R (k+m)) v) h' K)
  (hr:(runP P (R.drop k) m l).isSome=true:=by kernel_rfl) (ha:callAt R (k+m) (fr P R k m l)=some (f,cY):=by kernel_rfl):aW P R k l h K:=by
 obtain ⟨v,h',Z',A',h1,h2,j⟩:=hc hS.eF
 exact xk m hr (n8 ha h1 (hk v h' Z' A' h2.ag (hS.call h2) j))
end
def cmpAt (R:List aN) (k:Nat) (l:KL):Option (BinOp×Value×Value):=match R[k]? with
 | some o=>(match gonB l o.g with
  | true=>(match o.op with
   | .binOp b _ x y _=>(match opv l x,opv l y with | some u,some v=>some (b,u,v) | _,_=>none)
   | _=>none)
  | false=>none)
 | none=>none
theorem gH {b:BinOp} {u v:Value} {w:Bool} (hr:cmpAt R k l=some (b,u,v)) (hv:∀ t,aBin P b t u v=some (.bool w)) (hk:aW P R (k+1) (bC l (b9 R k) (.bool w)) h K):aW P R k l h K:=by
 unfold cmpAt at hr
 split at hr
 ·rename_i o ho
  split at hr
  ·rename_i hg
   split at hr
   ·rename_i b' t x y t2 av
    split at hr
    ·rename_i u' v' h1 h2
     simp only [Option.some.injEq,Prod.mk.injEq] at hr
     obtain ⟨rfl,rfl,rfl⟩:=hr
     obtain ⟨g,d,op⟩:=o
     subst av
     have hd:b9 R k=d:=by unfold b9;rw [ho];rfl
     rw [hd] at hk
     exact bT ho (me hg) (a9 h1 h2 (hv _)) hk
    ·cases hr
   ·cases hr
  ·cases hr
 ·cases hr
theorem aP {α:Type} {r:α} {x y:Option α} {a b:Int} (m:Nat) (hm:(if a<b then x else y)=some r) (hT:a<b→x=some r→aW P R (k+m+1) (bC (fr P R k m l) (b9 R (k+m)) (.bool true)) h K) (hF:¬ a<b→y=some r→aW P R (k+m+1) (bC (fr P R k m l) (b9 R (k+m)) (.bool false)) h K) (kd:IntKind:= .i64)
  (hr:(runP P (R.drop k) m l).isSome=true:=by kernel_rfl) (ha:cmpAt R (k+m) (fr P R k m l)=some (.lss, .int kd a, .int kd b):=by kernel_rfl):aW P R k l h K:=by
 rcases ifs hm with ⟨q,hx⟩ | ⟨q,hx⟩
 ·exact xk m hr (gH ha (fun t=>l2 q) (hT q hx))
 ·exact xk m hr (gH ha (fun t=>lG q) (hF q hx))
theorem fH {α:Type} {r:α} {x y:Option α} {a b:Int} (m:Nat) (hm:(if a≤b then x else y)=some r) (hT:a≤b→x=some r→aW P R (k+m+1) (bC (fr P R k m l) (b9 R (k+m)) (.bool true)) h K) (hF:¬ a≤b→y=some r→aW P R (k+m+1) (bC (fr P R k m l) (b9 R (k+m)) (.bool false)) h K) (kd:IntKind:= .i64)
  (hr:(runP P (R.drop k) m l).isSome=true:=by kernel_rfl) (ha:cmpAt R (k+m) (fr P R k m l)=some (.leq, .int kd a, .int kd b):=by kernel_rfl):aW P R k l h K:=by
 rcases ifs hm with ⟨q,hx⟩ | ⟨q,hx⟩
 ·exact xk m hr (gH ha (fun t=>p9 q) (hT q hx))
 ·exact xk m hr (gH ha (fun t=>rq q) (hF q hx))
theorem cH {α:Type} {r:α} {x y:Option α} {a b:Int} (m:Nat) (hm:(if b<a then x else y)=some r) (hT:b<a→x=some r→aW P R (k+m+1) (bC (fr P R k m l) (b9 R (k+m)) (.bool true)) h K) (hF:¬ b<a→y=some r→aW P R (k+m+1) (bC (fr P R k m l) (b9 R (k+m)) (.bool false)) h K) (kd:IntKind:= .i64)
  (hr:(runP P (R.drop k) m l).isSome=true:=by kernel_rfl) (ha:cmpAt R (k+m) (fr P R k m l)=some (.gtr, .int kd a, .int kd b):=by kernel_rfl):aW P R k l h K:=by
 rcases ifs hm with ⟨q,hx⟩ | ⟨q,hx⟩
 ·exact xk m hr (gH ha (fun t=>jG q) (hT q hx))
 ·exact xk m hr (gH ha (fun t=>jD q) (hF q hx))
theorem cC {α:Type} {r:α} {x y:Option α} {a b:Int} (m:Nat) (hm:(if b≤a then x else y)=some r) (hT:b≤a→x=some r→aW P R (k+m+1) (bC (fr P R k m l) (b9 R (k+m)) (.bool true)) h K) (hF:¬ b≤a→y=some r→aW P R (k+m+1) (bC (fr P R k m l) (b9 R (k+m)) (.bool false)) h K) (kd:IntKind:= .i64)
  (hr:(runP P (R.drop k) m l).isSome=true:=by kernel_rfl) (ha:cmpAt R (k+m) (fr P R k m l)=some (.geq, .int kd a, .int kd b):=by kernel_rfl):aW P R k l h K:=by
 rcases ifs hm with ⟨q,hx⟩ | ⟨q,hx⟩
 ·exact xk m hr (gH ha (fun t=>il q) (hT q hx))
 ·exact xk m hr (gH ha (fun t=>ig q) (hF q hx))
theorem aG {α:Type} {r:α} {x y:Option α} {a b:Int} (m:Nat) (hm:(if a=b then x else y)=some r) (hT:a=b→x=some r→aW P R (k+m+1) (bC (fr P R k m l) (b9 R (k+m)) (.bool true)) h K) (hF:¬ a=b→y=some r→aW P R (k+m+1) (bC (fr P R k m l) (b9 R (k+m)) (.bool false)) h K) (kd:IntKind:= .i64)
  (hr:(runP P (R.drop k) m l).isSome=true:=by kernel_rfl) (ha:cmpAt R (k+m) (fr P R k m l)=some (.eql, .int kd a, .int kd b):=by kernel_rfl):aW P R k l h K:=by
 rcases ifs hm with ⟨q,hx⟩ | ⟨q,hx⟩
 ·exact xk m hr (gH ha (fun t=>eV q) (hT q hx))
 ·exact xk m hr (gH ha (fun t=>eX q) (hF q hx))
theorem cS {α:Type} {r:α} {x y:Option α} {a b:Int} (m:Nat) (hm:(if a=b then x else y)=some r) (hT:a=b→x=some r→aW P R (k+m+1) (bC (fr P R k m l) (b9 R (k+m)) (.bool false)) h K) (hF:¬ a=b→y=some r→aW P R (k+m+1) (bC (fr P R k m l) (b9 R (k+m)) (.bool true)) h K) (kd:IntKind:= .i64)
  (hr:(runP P (R.drop k) m l).isSome=true:=by kernel_rfl) (ha:cmpAt R (k+m) (fr P R k m l)=some (.neq, .int kd a, .int kd b):=by kernel_rfl):aW P R k l h K:=by
 rcases ifs hm with ⟨q,hx⟩ | ⟨q,hx⟩
 ·exact xk m hr (gH ha (fun t=>sV q) (hT q hx))
 ·exact xk m hr (gH ha (fun t=>uX q) (hF q hx))
def ldX (R:List aN) (k:Nat) (l:KL):Option (TypeId×Value):=match R[k]? with
 | some o=>(match gonB l o.g with
  | true=>(match o.op with
   | .load t x=>(match opv l x with | some u=>some (t,u) | _=>none)
   | _=>none)
  | false=>none)
 | none=>none
def gS (R:List aN) (k:Nat) (l:KL):TypeId:=match ldX R k l with | some (t,_)=>t | none=>0
def n9 (R:List aN) (k:Nat) (l:KL):Nat:=match ldX R k l with | some (_, .pointer (some a))=>a.off | _=>0
theorem xi {h0:AH} {D:List Nat} {Z0 Z:Zn} {Rv:Nat×Nat} {L:List Itm} {b off i:Nat} {t:TypeId} {cells:List Value} {v:Value} (hS:St h0 D Z0 Rv Z h L) (hi:L[i]?=some (.ae b cells)) (hr:ldX R k l=some (t, .pointer (some ⟨b,off,none⟩))) (hv:ldB P t off cells=some v) (hk:aW P R (k+1) (bC l (b9 R k) v) h K):aW P R k l h K:=by
 unfold ldX at hr
 split at hr
 ·rename_i o ho
  split at hr
  ·rename_i hg
   split at hr
   ·rename_i t' x av
    split at hr
    ·rename_i u h1
     simp only [Option.some.injEq,Prod.mk.injEq] at hr
     obtain ⟨rfl,rfl⟩:=hr
     obtain ⟨g,d,op⟩:=o
     subst av
     have hd:b9 R k=d:=by unfold b9;rw [ho];rfl
     rw [hd] at hk
     exact bT ho (me hg) (B8 hS hi h1 hv) hk
    ·cases hr
   ·cases hr
  ·cases hr
 ·cases hr
theorem aB {h0:AH} {D:List Nat} {Z0 Z:Zn} {Rv:Nat×Nat} {L:List Itm} {b:Nat} {cells:List Value} (m i:Nat) (v:Value) (hS:St h0 D Z0 Rv Z h L) (hi:L[i]?=some (.ae b cells)) (hk:aW P R (k+m+1) (bC (fr P R k m l) (b9 R (k+m)) v) h K)
  (hr:(runP P (R.drop k) m l).isSome=true:=by kernel_rfl) (ha:ldX R (k+m) (fr P R k m l)=some (gS R (k+m) (fr P R k m l), .pointer (some ⟨b,n9 R (k+m) (fr P R k m l),none⟩)):=by kernel_rfl) (hv:ldB P (gS R (k+m) (fr P R k m l)) (n9 R (k+m) (fr P R k m l)) cells=some v:=by kernel_rfl):aW P R k l h K:=
 xk m hr (xi hS hi ha hv hk)
def pk (c:Code) (l:KL):Option Value:=match c with | .cond x _ _=>opv l x | _=>none
theorem qX {v:Value} (hc:pk c l=some v):∃ x,c= .cond x (cL c) (cR c)∧opv l x=some v:=by
 cases c with
 | cond x a b=>exact ⟨x,rfl,hc⟩
 | _=>cases hc
theorem dT (hw:W P (cL c) l h N X) (hc:pk c l=some (.bool true):=by kernel_rfl):W P c l h N X:=by
 obtain ⟨x,h1,h2⟩:=qX hc
 exact tY h1 h2 rfl hw
theorem dF (hw:W P (cR c) l h N X) (hc:pk c l=some (.bool false):=by kernel_rfl):W P c l h N X:=by
 obtain ⟨x,h1,h2⟩:=qX hc
 exact vD h1 h2 rfl hw
theorem db {α:Type} {r:α} {x y:Option α} {b:Bool} (hm:(if b=true then x else y)=some r) (hT:b=true→x=some r→W P (cL c) l h N X) (hF:¬ b=true→y=some r→W P (cR c) l h N X) (hc:pk c l=some (.bool b):=by kernel_rfl):W P c l h N X:=by
 obtain ⟨u,h1,h2⟩:=qX hc
 cases b with
 | true=>exact tY h1 h2 rfl (hT rfl (by simpa using hm))
 | false=>exact vD h1 h2 rfl (hF (by simp) (by simpa using hm))
theorem tk {t:Nat} (v:Value) {rs:List ResultVar} {vs:List Value} (hr:ResL P l h rs vs) (hv:lk l t=some v:=by kernel_rfl):ResL P l h (.tmp t::rs) (v::vs):=ResL.tmp hv hr
end
end Go.Proofs.Ytcilejikekccmaa.Sy
namespace Go.Proofs.Ytcilejikekccmaa.Sy
open Go Am
open Cell (rc)
section
variable {P:Program} {c:Code} {l:KL} {h:AH} {N:KL→AH→Prop} {X:cZ→KL→AH→Prop} {R:List aN} {k:Nat} {K:KL→AH→Prop}
variable {h0:AH} {D:List Nat} {Z0 Z:Zn} {Rv:Nat×Nat} {L:List Itm} {β:Type} {r:β}
def opA (R:List aN) (k:Nat) (l:KL):Option Op:=match R[k]? with
 | some o=>(match gonB l o.g with | true=>some o.op | false=>none)
 | none=>none
theorem lR {op:Op} {v:Value} {h':AH} (ha:opA R k l=some op) (h1:b5 P l op h v h') (hk:aW P R (k+1) (bC l (b9 R k) v) h' K):aW P R k l h K:=by
 unfold opA at ha
 split at ha
 ·rename_i o ho
  split at ha
  ·rename_i hg
   simp only [Option.some.injEq] at ha
   obtain ⟨g,d,Fz⟩:=o
   subst ha
   have hd:b9 R k=d:=by unfold b9;rw [ho];rfl
   rw [hd] at hk
   exact bT ho (me hg) h1 hk
  ·cases ha
 ·cases ha
def alX (P:Program) (R:List aN) (k:Nat) (l:KL):Option (List Value):=match opA R k l with
 | some (.alloc t)=>zeroCells P t
 | some (.box _ x)=>(match opv l x with | some v=>some v.cells.toList | none=>none)
 | _=>none
theorem dK (m:Nat) (cs:List Value) (hS:St h0 D Z0 Rv Z h L) (hk:∀ b h',St h0 D Z0 Rv Z h' (.ae b cs::L)→aW P R (k+m+1) (bC (fr P R k m l) (b9 R (k+m)) (.pointer (some ⟨b,0,none⟩))) h' K)
  (hr:(runP P (R.drop k) m l).isSome=true:=by kernel_rfl) (ha:alX P R (k+m) (fr P R k m l)=some cs:=by kernel_rfl):aW P R k l h K:=by
 refine xk m hr ?_
 generalize fr P R k m l=l at ha hk
 unfold alX at ha
 split at ha
 ·rename_i t ho
  exact lR ho (u1 ha).run (hk _ _ (hS.alloc cs 0 _ ⟨0,by rw [AH.e5,if_pos rfl]⟩ rfl))
 ·rename_i t x ho
  split at ha
  ·rename_i v hv
   simp only [Option.some.injEq] at ha
   exact lR ho (gv hv ha).run (hk _ _ (hS.alloc cs 0 _ ⟨0,by rw [AH.e5,if_pos rfl]⟩ rfl))
  ·cases ha
 ·cases ha
theorem bw {b:Nat} {cells:List Value} (m:Nat) (v:Value) (hS:St h0 D Z0 Rv Z h L) (hi:Z b=some cells) (hk:aW P R (k+m+1) (bC (fr P R k m l) (b9 R (k+m)) v) h K)
  (hr:(runP P (R.drop k) m l).isSome=true:=by kernel_rfl) (ha:ldX R (k+m) (fr P R k m l)=some (gS R (k+m) (fr P R k m l), .pointer (some ⟨b,n9 R (k+m) (fr P R k m l),none⟩)):=by kernel_rfl) (hv:ldB P (gS R (k+m) (fr P R k m l)) (n9 R (k+m) (fr P R k m l)) cells=some v:=by kernel_rfl):aW P R k l h K:=by
 refine xk m hr ?_
 generalize gS R (k+m) (fr P R k m l)=t at ha hv
 generalize n9 R (k+m) (fr P R k m l)=off at ha hv
 generalize fr P R k m l=l at ha hk
 unfold ldX at ha
 split at ha
 ·rename_i o ho
  split at ha
  ·rename_i hg
   split at ha
   ·rename_i t' x av
    split at ha
    ·rename_i u h1
     simp only [Option.some.injEq,Prod.mk.injEq] at ha
     obtain ⟨rfl,rfl⟩:=ha
     obtain ⟨g,d,op⟩:=o
     subst av
     have hd:b9 R (k+m)=d:=by unfold b9;rw [ho];rfl
     rw [hd] at hk
     exact bT ho (me hg) (A1 hS hi h1 hv) hk
    ·cases ha
   ·cases ha
  ·cases ha
 ·cases ha
def lnX (P:Program) (R:List aN) (k:Nat) (l:KL):Option Value:=match opA R k l with
 | some (.call ⟨.builtin .len,⟨[x]⟩,⟨[t]⟩⟩)=>(match P.underlying t with | some (.slice _)=>opv l x | _=>none)
 | _=>none
theorem bD {n:Nat} (m:Nat) (v:Value) (hn:lenOf v=some n) (hk:aW P R (k+m+1) (bC (fr P R k m l) (b9 R (k+m)) (.int .i64 n)) h K)
  (hr:(runP P (R.drop k) m l).isSome=true:=by kernel_rfl) (ha:lnX P R (k+m) (fr P R k m l)=some v:=by kernel_rfl):aW P R k l h K:=by
 refine xk m hr ?_
 generalize fr P R k m l=l at ha hk
 unfold lnX at ha
 split at ha
 ·rename_i x t ho
  split at ha
  ·rename_i e hu
   exact lR ho (gG ha hn ⟨e,hu⟩) hk
  ·cases ha
 ·cases ha
def ixX (P:Program) (R:List aN) (k:Nat) (l:KL):Option (Value×Int×Nat):=match opA R k l with
 | some (.indexAddr t x y)=>(match opv l x,opv l y,slTy P t with | some v,some (.int _ i),some s=>some (v,i,s) | _,_,_=>none)
 | _=>none
theorem uA {v:Value} {n s:Nat} {i:Int} (ha:ixX P R k l=some (v,i,s)) (hb:jU v n) (h1:0≤i) (h2:i<n) (hk:aW P R (k+1) (bC l (b9 R k) (.pointer (some (ba v i s 0)))) h K):aW P R k l h K:=by
 unfold ixX at ha
 split at ha
 ·rename_i t x y ho
  split at ha
  ·rename_i v' kd i' s' j I J
   simp only [Option.some.injEq,Prod.mk.injEq] at ha
   obtain ⟨rfl,rfl,rfl⟩:=ha
   exact lR ho (bA j I J hb h1 h2) hk
  ·cases ha
 ·cases ha
section
variable {α:Type} [Cell α] {xs:List α} {v:Value} {cells:List Value} {x:Option β} {i:Int}
theorem a2 (m:Nat) (hm:(if 0≤i∧i<(xs.length:Int) then x else none)=some r) (hR:RS Z v xs) (hk:0≤i∧i<(xs.length:Int)→x=some r→aW P R (k+m+1) (bC (fr P R k m l) (b9 R (k+m)) (.pointer (some (ba v i (aa α) 0)))) h K)
  (hr:(runP P (R.drop k) m l).isSome=true:=by kernel_rfl) (ha:ixX P R (k+m) (fr P R k m l)=some (v,i,aa α):=by kernel_rfl):aW P R k l h K:=by
 obtain ⟨hc,hm⟩:=aJ hm
 exact xk m hr (uA ha (hR.cQ (by omega)) hc.1 hc.2 (hk hc hm))
theorem dv (m j:Nat) (hm:(if 0≤i∧i<(xs.length:Int) then x else none)=some r) (hS:St h0 D Z0 Rv Z h L) (hR:RCs Z cells xs) (hi:L[j]?=some (.gs v cells (aa α))) (hk:0≤i∧i<(xs.length:Int)→x=some r→aW P R (k+m+1) (bC (fr P R k m l) (b9 R (k+m)) (.pointer (some (ba v i (aa α) 0)))) h K)
  (hr:(runP P (R.drop k) m l).isSome=true:=by kernel_rfl) (ha:ixX P R (k+m) (fr P R k m l)=some (v,i,aa α):=by kernel_rfl):aW P R k l h K:=by
 obtain ⟨hc,hm⟩:=aJ hm
 exact xk m hr (uA ha (hS.bN hi hR (by omega)) hc.1 hc.2 (hk hc hm))
end
theorem eg {v:Value} {i:Int} {s:Nat} {cs:List Value} (m j:Nat) (w:Value) (hE:kV h v i s cs) (hk:aW P R (k+m+1) (bC (fr P R k m l) (b9 R (k+m)) w) h K)
  (hr:(runP P (R.drop k) m l).isSome=true:=by kernel_rfl) (ha:ldX R (k+m) (fr P R k m l)=some (gS R (k+m) (fr P R k m l), .pointer (some (ba v i s j))):=by kernel_rfl) (hv:ldB P (gS R (k+m) (fr P R k m l)) j cs=some w:=by kernel_rfl):aW P R k l h K:=by
 refine xk m hr ?_
 generalize gS R (k+m) (fr P R k m l)=t at ha hv
 generalize fr P R k m l=l at ha hk
 unfold ldX at ha
 split at ha
 ·rename_i o ho
  split at ha
  ·rename_i hg
   split at ha
   ·rename_i t' x av
    split at ha
    ·rename_i u h1
     simp only [Option.some.injEq,Prod.mk.injEq] at ha
     obtain ⟨rfl,rfl⟩:=ha
     obtain ⟨g,d,op⟩:=o
     subst av
     have hd:b9 R (k+m)=d:=by unfold b9;rw [ho];rfl
     rw [hd] at hk
     exact bT ho (me hg) (bH hE h1 hv) hk
    ·cases ha
   ·cases ha
  ·cases ha
 ·cases ha
class FC (α:Type) [Cell α] where
 fc:α→List Value
 eq:∀ {Z cs x},rc Z cs x→cs=fc x
instance:FC Int:=⟨fun x=>[.int .i64 x],fun q=>q⟩
instance:FC UInt8:=⟨fun x=>[.int .u8 (x.toNat:Int)],fun q=>q⟩
instance:FC Bool:=⟨fun x=>[.bool x],fun q=>q⟩
instance:FC ar:=⟨fun x=>[.string ⟨⟨x.b⟩⟩],fun q=>q⟩
section
variable {α:Type} [Cell α] [FC α] {xs:List α} {v:Value} {cells:List Value} {f:α→Option β} {i:Int}
theorem bm (m j:Nat) (w:α→Value) (hm:(xs[i.toNat]?).bind f=some r) (hR:RS Z v xs) (hS:St h0 D Z0 Rv Z h L) (hk:∀ x,xs[i.toNat]?=some x→f x=some r→aW P R (k+m+1) (bC (fr P R k m l) (b9 R (k+m)) (w x)) h K)
  (hr:(runP P (R.drop k) m l).isSome=true:=by kernel_rfl) (ha:ldX R (k+m) (fr P R k m l)=some (gS R (k+m) (fr P R k m l), .pointer (some (ba v i (aa α) j))):=by kernel_rfl) (hv:∀ x:α,ldB P (gS R (k+m) (fr P R k m l)) j (FC.fc x)=some (w x):=by intro;kernel_rfl):aW P R k l h K:=by
 obtain ⟨x,hx,hm⟩:=ah hm
 obtain ⟨cs,hc,he⟩:=RS.bR hR (i:=i) hx
 have:=FC.eq hc
 subst this
 exact eg m j (w x) (he _ (hS.bM (aM.refl _))) (hk x hx hm) hr ha (hv x)
theorem eh (m j n:Nat) (w:α→Value) (hm:(xs[i.toNat]?).bind f=some r) (hS:St h0 D Z0 Rv Z h L) (hR:RCs Z cells xs) (hi:L[n]?=some (.gs v cells (aa α))) (hk:∀ x,xs[i.toNat]?=some x→f x=some r→aW P R (k+m+1) (bC (fr P R k m l) (b9 R (k+m)) (w x)) h K)
  (hr:(runP P (R.drop k) m l).isSome=true:=by kernel_rfl) (ha:ldX R (k+m) (fr P R k m l)=some (gS R (k+m) (fr P R k m l), .pointer (some (ba v i (aa α) j))):=by kernel_rfl) (hv:∀ x:α,ldB P (gS R (k+m) (fr P R k m l)) j (FC.fc x)=some (w x):=by intro;kernel_rfl):aW P R k l h K:=by
 obtain ⟨x,hx,hm⟩:=ah hm
 obtain ⟨cs,hc,he,_⟩:=hS.cp hi hR hx
 have:=FC.eq hc
 subst this
 exact eg m j (w x) he (hk x hx hm) hr ha (hv x)
end
def cvX (P:Program) (R:List aN) (k:Nat) (l:KL):Option Value:=match opA R k l with
 | some (.convert s d x)=>(match opv l x,cvTy P s d with | some (.int _ n),some k=>some (.int k (k.wrap n)) | _,_=>none)
 | _=>none
theorem eE (m:Nat) (v:Value) (hk:aW P R (k+m+1) (bC (fr P R k m l) (b9 R (k+m)) v) h K)
  (hr:(runP P (R.drop k) m l).isSome=true:=by kernel_rfl) (ha:cvX P R (k+m) (fr P R k m l)=some v:=by kernel_rfl):aW P R k l h K:=by
 refine xk m hr ?_
 generalize fr P R k m l=l at ha hk
 unfold cvX at ha
 split at ha
 ·rename_i s d x ho
  split at ha
  ·rename_i kd n kk j I
   simp only [Option.some.injEq] at ha
   subst ha
   exact lR ho (DJ j I) hk
  ·cases ha
 ·cases ha
def stX (R:List aN) (k:Nat) (l:KL):Option (TypeId×Value×Value):=match opA R k l with
 | some (.store t x y)=>(match opv l x,opv l y with | some u,some v=>some (t,u,v) | _,_=>none)
 | _=>none
def p6 (R:List aN) (k:Nat) (l:KL):TypeId:=match stX R k l with | some (t,_)=>t | none=>0
def nZ (R:List aN) (k:Nat) (l:KL):Nat:=match stX R k l with | some (_, .pointer (some a),_)=>a.off | _=>0
theorem bG {b:Nat} {cells:List Value} (m i:Nat) (v:Value) (vs cF:List Value) (hS:St h0 D Z0 Rv Z h L) (hi:L[i]?=some (.ae b cells)) (gC:lv v=vs) (fq:vs.all Value.oneCell'=true)
  (hk:∀ h',St h0 D Z0 Rv Z h' (L.set i (.ae b cF))→aW P R (k+m+1) (bC (fr P R k m l) (b9 R (k+m)) undef) h' K)
  (hr:(runP P (R.drop k) m l).isSome=true:=by kernel_rfl) (ha:stX R (k+m) (fr P R k m l)=some (p6 R (k+m) (fr P R k m l), .pointer (some ⟨b,nZ R (k+m) (fr P R k m l),none⟩),v):=by kernel_rfl)
  (ht:bW P (p6 R (k+m) (fr P R k m l))=some vs.length:=by kernel_rfl) (hl:Nat.ble (nZ R (k+m) (fr P R k m l)+vs.length) cells.length=true:=by kernel_rfl)
  (hc:cells.take (nZ R (k+m) (fr P R k m l))++vs++cells.drop (nZ R (k+m) (fr P R k m l)+vs.length)=cF:=by kernel_rfl):aW P R k l h K:=by
 refine xk m hr ?_
 generalize p6 R (k+m) (fr P R k m l)=t at ha ht
 generalize nZ R (k+m) (fr P R k m l)=off at ha hl hc
 generalize fr P R k m l=l at ha hk
 unfold stX at ha
 split at ha
 ·rename_i t' x y ho
  split at ha
  ·rename_i u w j I
   simp only [Option.some.injEq,Prod.mk.injEq] at ha
   obtain ⟨rfl,rfl,rfl⟩:=ha
   obtain ⟨h',h1,h2⟩:=gK hS hi j I gC ht fq hl hc rfl
   exact lR ho h1 (hk h' h2)
  ·cases ha
 ·cases ha
theorem sF {b:Bool} (t:Nat) (hb:¬ b=true) (hk:aW P R k ((t, .bool false)::l) h K) (hl:lk l t=some (.bool b):=by kernel_rfl):aW P R k l h K:=rm hl (Bool.eq_false_iff.2 hb) hk
theorem kb {b:Bool} {x y:Option β} (m t:Nat) (hm:(if b=true then x else y)=some r) (hT:b=true→x=some r→aW P R (k+m) ((t, .bool true)::fr P R k m l) h K) (hF:¬ b=true→y=some r→aW P R (k+m) ((t, .bool false)::fr P R k m l) h K)
  (hr:(runP P (R.drop k) m l).isSome=true:=by kernel_rfl) (hl:lk (fr P R k m l) t=some (.bool b):=by kernel_rfl):aW P R k l h K:=by
 rcases ifs hm with ⟨q,hx⟩ | ⟨q,hx⟩
 ·exact xk m hr (rm hl q (hT q hx))
 ·exact xk m hr (rm hl (Bool.eq_false_iff.2 q) (hF q hx))
theorem cE {f:FuncId} {cY:List Value} {B:List Itm} {Q':Value→Prop} (m:Nat) (hS:St h0 D Z0 Rv Z h B) (hc:∀ Zl,aM Z Zl→Inv Zl h→(∀ p∈B,bj Zl p)→∃ v h',bS P f cY h=some (v,h')∧St h [] Zl (0,0) Zl h' []∧Q' v)
  (hk:∀ v h',St h0 D Z0 Rv Z h' B→Q' v→aW P R (k+m+1) (bC (fr P R k m l) (b9 R (k+m)) v) h' K)
  (hr:(runP P (R.drop k) m l).isSome=true:=by kernel_rfl) (ha:callAt R (k+m) (fr P R k m l)=some (f,cY):=by kernel_rfl):aW P R k l h K:=by
 obtain ⟨Zl,hz,hI,eQ⟩:=hS.jP
 obtain ⟨v,h',h1,h2,j⟩:=hc Zl hz hI eQ
 exact xk m hr (n8 ha h1 (hk v h' (St.call (A:=[]) (B:=B) hS (St.jX hz h2)) j))
end
theorem St.eJ {h0 h:AH} {D:List Nat} {Z0 Z:Zn} {Rv:Nat×Nat} {L:List Itm} (hS:St h0 D Z0 Rv Z h L):Pre Z h []:=St.eF (A:=[]) (B:=L) hS
def b3 (P:Program) (f:FuncId) (cY:List Value) (h:AH) (Z:Zn) (u:Value):Prop:=∃ v h',bS P f cY h=some (v,h')∧St h [] Z (0,0) Z h' []∧v=u
theorem b6 {P:Program} {Z:Zn} {h:AH} {A:List Itm} {f:FuncId} {fn:Func} {args:List Value} {Q:Value→Zn→List Itm→Prop} (hf:P.funcs[f]?=some fn) (hP:Pre Z h A)
  (hw:∀ hs,St hs (aR A) Z (0,0) Z hs A→W P (iQ fn) (argsL 0 args) hs (Fin P fn hs A Z Q) (fun x l h1=>x= .ret∧Fin P fn hs A Z Q l h1))
  (hb:fn.body.isSome=true:=by kernel_rfl) (hn:Nat.ble args.length fn.ntmps=true:=by kernel_rfl) (mu:gI P fn=false:=by kernel_rfl):bQ P f args h Z A Q:=AM hf hb hn mu hP hw
theorem b4 {P:Program} {Z:Zn} {h:AH} {f:FuncId} {fn:Func} {args:List Value} {u:Value} (hf:P.funcs[f]?=some fn) (hI:Inv Z h)
  (hw:∀ hs,St hs [] Z (0,0) Z hs []→W P (iQ fn) (argsL 0 args) hs (Fin P fn hs [] Z (fun v _ _=>v=u)) (fun x l h=>x= .ret∧Fin P fn hs [] Z (fun v _ _=>v=u) l h))
  (hb:fn.body.isSome=true:=by kernel_rfl) (hn:Nat.ble args.length fn.ntmps=true:=by kernel_rfl):b3 P f args h Z u:=EX hf hb hn hI hw
end Go.Proofs.Ytcilejikekccmaa.Sy
