/- A node's bytes have those of each node in it, and are the text's from one place on ('Rows.WalkSpansSaid'). -/
import Derived.Test.YtcilejikekccmaaWs4
import Derived.Test.YtcilejikekccmaaRows
import Derived.WalkKit
import Derived.ProofKit
import Derived.OpenShut
import Derived.ChangeMaps5
set_option linter.unusedVariables false
set_option linter.unusedSimpArgs false
set_option maxRecDepth 100000
set_option linter.unnecessarySimpa false
namespace Go.Proofs.Ytcilejikekccmaa.M
open Go Am Sy
abbrev Oo:=ar
structure So (N:List aq) (d:Nat) (S:List Oo):Prop where
 node:∀ (i:Nat) o,S[i]?=some o→∃ m:Nat,o.Node=m∧d<m∧Sp N m
 inc:∀ (i j:Nat) o o',i<j→S[i]?=some o→S[j]?=some o'→o.Node<o'.Node
 has:∀ (i:Nat) o,S[i]?=some o→i+1<S.length→o.Has=true
 cur:∀ (i:Nat) o,S[i]?=some o→o.Has=false→∃ c:Nat,o.bP=c∧o.Node<c∧Sp N c
theorem gm {α:Type} {S:List α} {i:Nat} {o:α} (h:S[i]?=some o):i<S.length:=by
 rcases Nat.lt_or_ge i S.length with q | q
 ·exact q
 ·rw [List.getElem?_eq_none q] at h;cases h
theorem So.nil (N:List aq) (d:Nat):So N d []:=⟨fun i o h=>by simp at h,fun i j o o' _ h=>by simp at h,fun i o h=>by simp at h,fun i o h=>by simp at h⟩
theorem lR {α:Type} {S:List α} {k i:Nat} {o:α} (h:(S.take k)[i]?=some o):S[i]?=some o∧i<k:=by
 rw [List.getElem?_take] at h
 split at h
 ·rename_i c;exact ⟨h,c⟩
 ·cases h
theorem So.take {N:List aq} {d:Nat} {S:List Oo} (h:So N d S) (k:Nat):So N d (S.take k) where
 node i o q:=h.node i o (lR q).1
 inc i j o o' J I U:=h.inc i j o o' J (lR I).1 (lR U).1
 has i o q I:=h.has i o (lR q).1 (by rw [List.length_take] at I;omega)
 cur i o q:=h.cur i o (lR q).1
def Up (S:List Oo) (u:Nat):Prop:=∀ (i:Nat) o,S[i]?=some o→o.Node≤u∧(o.Has=false→o.bP≤u)
theorem So.to {N N':List aq} {d u:Nat} {S:List Oo} (h:So N d S) (hu:Up S u) (hs:∀ v,v≤u→Sp N v→Sp N' v):So N' d S where
 node i o q:=by
  obtain ⟨m,J,j,I⟩:=h.node i o q
  exact ⟨m,J,j,hs m (by have:=(hu i o q).1;omega) I⟩
 inc:=h.inc
 has:=h.has
 cur i o q j:=by
  obtain ⟨c,I,U,aa⟩:=h.cur i o q j
  exact ⟨c,I,U,hs c (by have:=(hu i o q).2 j;omega) aa⟩
theorem So.push {N:List aq} {d:Nat} {S:List Oo} (h:So N d S) (hh:∀ (i:Nat) o,S[i]?=some o→o.Has=true) {o:Oo} {m c:Nat} (hn:o.Node=m) (hd:d<m) (hm:Sp N m) (bm:∀ (i:Nat) x,S[i]?=some x→x.Node<m) (hc:o.Has=false→o.bP=c∧m<c∧Sp N c):So N d (S++[o]):=by
 have e6:∀ (i:Nat) x,(S++[o])[i]?=some x→(i<S.length∧S[i]?=some x)∨(i=S.length∧x=o):=by
  intro i x hx
  have hl:=gm hx
  rw [List.length_append,List.length_singleton] at hl
  rcases Nat.lt_or_ge i S.length with q | q
  ·rw [List.getElem?_append_left q] at hx;exact .inl ⟨q,hx⟩
  ·have:i=S.length:=by omega
   subst this
   rw [List.getElem?_append_right (Nat.le_refl _)] at hx
   simp at hx
   exact .inr ⟨rfl,hx.symm⟩
 refine ⟨fun i x hx=>?_,fun i j x y k3 hx hy=>?_,fun i x hx hl=>?_,fun i x hx hf=>?_⟩
 ·rcases e6 i x hx with ⟨_,q⟩ | ⟨_,rfl⟩
  ·exact h.node i x q
  ·exact ⟨m,hn,hd,hm⟩
 ·rcases e6 i x hx with ⟨_,q⟩ | ⟨q,rfl⟩
  ·rcases e6 j y hy with ⟨_,I⟩ | ⟨_,rfl⟩
   ·exact h.inc i j x y k3 q I
   ·rw [hn];exact bm i x q
  ·rcases e6 j y hy with ⟨I,_⟩ | ⟨I,_⟩<;>omega
 ·rcases e6 i x hx with ⟨_,q⟩ | ⟨q,rfl⟩
  ·exact hh i x q
  ·rw [List.length_append,List.length_singleton] at hl;omega
 ·rcases e6 i x hx with ⟨_,q⟩ | ⟨q,rfl⟩
  ·rw [hh i x q] at hf;cases hf
  ·obtain ⟨J,I,U⟩:=hc hf
   exact ⟨c,J,by rw [hn];omega,U⟩
structure PD (n:Int) (p:Pp) (q:Int) (d:Nat):Prop where
 rd:Rd n p.R q
 ro:RO p.R.L p.Rows
 dep:0≤p.av∧p.av≤100
 sl:(p.S.length:Int)≤p.av
 doc:p.Doc=d
 ds:Sp p.R.T.al d
 si:So p.R.T.al d p.S
 sz:(p.R.T.al.length:Int)≤4 * q+5
 dl:(p.R.D.length:Int)≤4 * q+4
structure PI (n:Int) (p:Pp) (q:Int):Prop where
 rd:Rd n p.R q
 ro:RO p.R.L p.Rows
 dep:0≤p.av∧p.av≤100
 doc:(p.Doc= -1∧p.S=[])∨(∃ d:Nat,p.Doc=d∧Sp p.R.T.al d∧So p.R.T.al d p.S∧(p.S.length:Int)≤p.av)
 sz:(p.R.T.al.length:Int)≤4 * q+4
 dl:(p.R.D.length:Int)≤4 * q+4
theorem PD.mono {n:Int} {p:Pp} {q q':Int} {d:Nat} (h:PD n p q d) (hq:q≤q'):PD n p q' d:={h with rd:=h.rd.mono hq,sz:=by have:=h.sz;omega,dl:=by have:=h.dl;omega}
theorem PI.mono {n:Int} {p:Pp} {q q':Int} (h:PI n p q) (hq:q≤q'):PI n p q':={h with rd:=h.rd.mono hq,sz:=by have:=h.sz;omega,dl:=by have:=h.dl;omega}
theorem PD.pi {n:Int} {p:Pp} {q q':Int} {d:Nat} (h:PD n p q d) (hq:q<q'):PI n p q':=⟨h.rd.mono (by omega),h.ro,h.dep, .inr ⟨d,h.doc,h.ds,h.si,h.sl⟩,by have:=h.sz;omega,by have:=h.dl;omega⟩
theorem uJ (F:Nat) (hF:2500≤F) {n:Int} {p:Pp} {q a:Int} (h:PI n p q) (h0:0≤q) (hq:q≤a) (ha:a≤n):∃ p' d,l7 F p a=some p'∧PD n p' a d∧p'.Read=p.Read∧p'.Rows=p.Rows∧p'.R.L=p.R.L:=by
 have hn:=h.rd.nl
 have de:=h.rd.ri.n
 have b7:=h.sz
 have fx:=h.dl
 unfold l7
 rcases h.doc with ⟨j,I⟩ | ⟨d,j,I,U,aa⟩
 ·rw [j,if_pos (by decide)]
  obtain ⟨r1,a1,ab,J,ad,ae,af,_⟩:=iW F hF h.rd (by omega) (up:=0) .root (kind:=2) (aG:=a) (to:=a) (by omega) (Int.le_refl _) ha hq (h.rd.endOf h0 0 hq)
  rw [show ((0:Nat):Int)=0 from rfl] at a1
  rw [a1]
  exact ⟨_,_,rfl,⟨ab,by show RO r1.L p.Rows;rw [J.l];exact h.ro,h.dep,by show ((0:Nat):Int)≤_;exact h.dep.1,rfl,ad,So.nil _ _,by show (r1.T.al.length:Int)≤_;omega,by show (r1.D.length:Int)≤_;rw [ae];omega⟩,rfl,rfl,J.l⟩
 ·rw [if_neg (by omega)]
  exact ⟨p,d,rfl,⟨h.rd.mono hq,h.ro,h.dep,aa,j,I,U,by omega,by omega⟩,rfl,rfl,rfl⟩
theorem qh (F:Nat) {n:Int} {p:Pp} {q:Int} {d:Nat} (h:PD n p q d):∃ u:Nat,iK F p=some (u:Int)∧Sp p.R.T.al u∧d≤u∧Up p.S u:=by
 unfold iK
 by_cases c:(p.S.length:Int)=0
 ·rw [if_pos c,h.doc]
  have:p.S=[]:=List.eq_nil_of_length_eq_zero (by omega)
  exact ⟨d,rfl,h.ds,Nat.le_refl _,fun i o q=>by rw [this] at q;simp at q⟩
 have eJ:=h.dep
 have gR:=h.sl
 have hw:af ((p.S.length:Int) - 1)=((p.S.length - 1:Nat):Int):=by rw [a4 (by omega) (by omega)];omega
 have hl:p.S.length - 1<p.S.length:=by omega
 have hg:p.S[p.S.length - 1]?=some p.S[p.S.length - 1]:=List.getElem?_eq_getElem hl
 rw [if_neg c,hw,if_pos (by omega),Int.toNat_natCast,hg]
 simp only [Option.bind_some]
 obtain ⟨m,I,aa,J⟩:=h.si.node _ _ hg
 have hle:∀ (i:Nat) o,p.S[i]?=some o→o.Node≤p.S[p.S.length - 1].Node∧(o.Has=false→o=p.S[p.S.length - 1]):=by
  intro i o hi
  have di:=gm hi
  rcases Nat.lt_or_ge i (p.S.length - 1) with z | z
  ·have h1:=h.si.inc _ _ _ _ z hi hg
   exact ⟨by omega,fun e=>by rw [h.si.has i o hi (by omega)] at e;cases e⟩
  ·have:i=p.S.length - 1:=by omega
   subst this
   rw [hg] at hi
   simp only [Option.some.injEq] at hi
   subst hi;exact ⟨Int.le_refl _,fun _=>rfl⟩
 by_cases c2:p.S[p.S.length - 1].Has=true
 ·rw [if_pos c2,I]
  refine ⟨m,rfl,J,by omega,fun i o hi=>⟨by have:=(hle i o hi).1;omega,fun e=>?_⟩⟩
  rw [(hle i o hi).2 e,c2] at e;cases e
 ·rw [if_neg c2]
  obtain ⟨k,j,ab,U⟩:=h.si.cur _ _ hg (by simpa using c2)
  rw [j]
  refine ⟨k,rfl,U,by omega,fun i o hi=>⟨by have:=(hle i o hi).1;omega,fun e=>?_⟩⟩
  rw [(hle i o hi).2 e,j];exact Int.le_refl _
theorem pT (F:Nat) (hF:2500≤F) {n:Int} {p:Pp} {q:Int} {d u:Nat} (h:PD n p q d) (h0:0≤q) (hs:Sp p.R.T.al u) (mT:d≤u) (hu:Up p.S u) {aG to code:Int} (hf:q≤aG) (fb:aG<to) (ht:to≤n):
  ∃ r,dM F p.R (u:Int) aG to code=some ((p.R.T.al.length:Int),r)∧PD n (⟨r,p.Rows,p.Doc,p.az,p.S,p.av,p.Read⟩:Pp) to d∧r.L=p.R.L∧(r.T.al.length:Int)≤4 * to+2:=by
 have hn:=h.rd.nl
 have de:=h.rd.ri.n
 have b7:=h.sz
 have fx:=h.dl
 obtain ⟨r,I,J,j,_⟩:=me F hF h.rd (by omega) (by omega) hs (code:=code) (aG:=aG) (to:=to) (by omega) fb ht (by omega) (h.rd.endOf h0 u hf)
 have h1:=j.sz
 have h2:=j.dl
 exact ⟨r,I,⟨J,by show RO r.L p.Rows;rw [j.l];exact h.ro,h.dep,h.sl,h.doc,j.sp d mT h.ds,h.si.to hu j.sp,by show (r.T.al.length:Int)≤_;omega,by show (r.D.length:Int)≤_;omega⟩,j.l,by omega⟩
theorem o4 (F:Nat) (hF:2500≤F) {n:Int} {p:Pp} {q:Int} {d u:Nat} (h:PD n p q d) (h0:0≤q) (hs:Sp p.R.T.al u) (mT:d≤u) (hu:Up p.S u) {at_:Int} (hf:q≤at_) (ht:at_<n):
  ∃ b p',ja F p (u:Int) at_=some (b,p')∧Sm p p'∧at_<p'.Read∧p'.Read≤n∧PD n p' p'.Read d∧p'.R.L=p.R.L∧(∀ v,v≤u→Sp p.R.T.al v→Sp p'.R.T.al v)∧(p'.R.T.al.length:Int)≤4 * p'.Read+3∧(p'.R.D.length:Int)≤4 * p'.Read+4:=by
 have hn:=h.rd.nl
 have de:=h.rd.ri.n
 have b7:=h.sz
 have fx:=h.dl
 have eJ:=h.dep
 have gR:=h.sl
 obtain ⟨b,p',v1,v2,j,v4,I,v6⟩:=x4 F hF (p:=p) (at_:=at_) (h.rd.mono (by omega)) h.ro (by omega) ht eJ (by omega) (up:=u) (h.rd.endOf h0 u hf) (h.rd.b.mono hf) hs (by omega) (by omega)
 have h1:=v6.sz
 have h2:=v6.dl
 refine ⟨b,p',v1,v2,j,v4,⟨I,by rw [v6.l,v2.rows];exact h.ro,by rw [v2.dep];exact eJ,by rw [v2.s,v2.dep];exact gR,by rw [v2.doc];exact h.doc,v6.sp d mT h.ds,by rw [v2.s];exact h.si.to hu v6.sp,by omega,by omega⟩,v6.l,v6.sp,by omega,by omega⟩
end Go.Proofs.Ytcilejikekccmaa.M
namespace Go.Proofs.Ytcilejikekccmaa.M
open Go Am Sy
def Wp {α:Type} (o:Option α) (P:α→Prop):Prop:=∃ a,o=some a∧P a
theorem wpS {α:Type} {a:α} {P:α→Prop} (h:P a):Wp (some a) P:=⟨a,rfl,h⟩
theorem ay {α β:Type} {o:Option α} {f:α→Option β} {P:β→Prop} (h:Wp o (fun a=>Wp (f a) P)):Wp (o.bind f) P:=by
 obtain ⟨a,rfl,b,h1,h2⟩:=h
 exact ⟨b,by simpa using h1,h2⟩
theorem aw {α:Type} {c:Prop} [Decidable c] {x y:Option α} {P:α→Prop} (h1:c→Wp x P) (h2:¬c→Wp y P):Wp (if c then x else y) P:=by
 by_cases h:c
 ·rw [if_pos h];exact h1 h
 ·rw [if_neg h];exact h2 h
theorem aY {α:Type} {l:List α} {i:Int} {P:α→Prop} (h:0≤i∧i<(l.length:Int)) (h1:∀ x,l[i.toNat]?=some x→P x):Wp (l[i.toNat]?) P:=by
 have:i.toNat<l.length:=by omega
 exact ⟨l[i.toNat],by simp [this],h1 _ (by simp [this])⟩
theorem wpE {α:Type} {o:Option α} {a:α} {P:α→Prop} (h:o=some a) (h1:P a):Wp o P:=⟨a,h,h1⟩
theorem bW {α:Type} {P:α→Prop} (h:False):Wp none P:=h.elim
theorem Wp.mono {α:Type} {o:Option α} {P Q:α→Prop} (h:Wp o P) (k:∀ a,P a→Q a):Wp o Q:=by
 obtain ⟨a,h1,h2⟩:=h;exact ⟨a,h1,k a h2⟩
theorem aW {α:Type} {c:Prop} [Decidable c] {x y:Option α} {P:α→Prop} (h:c) (h1:Wp x P):Wp (if c then x else y) P:=by rw [if_pos h];exact h1
theorem gG {α:Type} {c:Prop} [Decidable c] {x y:Option α} {P:α→Prop} (h:¬ c) (h1:Wp y P):Wp (if c then x else y) P:=by rw [if_neg h];exact h1
theorem bt {α β:Type} {o:Option α} {f:α→Option β} {a:α} {P:β→Prop} (h:o=some a) (h1:Wp (f a) P):Wp (o.bind f) P:=ay ⟨a,h,h1⟩
theorem bj {α β:Type} {o:Option α} {f:α→Option β} {Q:α→Prop} {P:β→Prop} (h:Wp o Q) (h1:∀ a,Q a→Wp (f a) P):Wp (o.bind f) P:=ay (h.mono h1)
end Go.Proofs.Ytcilejikekccmaa.M
namespace Go.Proofs.Ytcilejikekccmaa.M
open Go Am Sy
structure Nx (n:Int) (p p':Pp):Prop where
  pi:PI n p' p'.Read
  r0:0≤p'.Read
  r1:p'.Read≤n
  rows:p'.Rows=p.Rows
  l:p'.R.L=p.R.L
theorem FI.in {L:List ak} {aG to a:Int} (h:FI L aG to a) (hc:∃ (i:Int) (t:ak),aG≤i∧i<to∧L[i.toNat]?=some t∧cn t.Kind=true):a<to:=by
  obtain ⟨i,t,I,U,J,j⟩:=hc
  rcases Int.lt_or_eq_of_le h.2.1 with z | z
  · exact z
  · rw [h.2.2.1 i t I (by omega) J] at j;cases j
theorem y7 (F:Nat) (hF:2500≤F) {n:Int} {p:Pp} {q:Int} (h:PI n p q) (h0:0≤q) {r:an} (hq:q≤r.ah) (hr:r.ah<r.To) (aS:r.To≤n) (hc:∃ (i:Int) (t:ak),r.ah≤i∧i<r.To∧p.R.L[i.toNat]?=some t∧cn t.Kind=true) (jJ:p.Read=r.To):Wp (m2 F p r) (Nx n p):=by
  have hn:=h.rd.nl
  have de:=h.rd.ri.n
  have b7:=h.sz
  have fx:=h.dl
  have eJ:=h.dep
  obtain ⟨a,b,a1,aj,aT,aU,aF,_⟩:=jY F hF p de r.ah r.To (by omega) (by omega) (by omega)
  have eP:=aj.in hc
  have gK:=aF eP
  have aX:=aj.1
  have hw:af (a+1)=a+1:=w1 (by omega) (by omega)
  unfold m2
  refine bt a1 ?_
  simp only [hw]
  refine aW (by omega) ?_
  refine ay (aY (by omega) fun t ht=>?_)
  refine aw (fun hk=>?_) (fun hk=>?_)
  · obtain ⟨r1,ao,aq,ar,au,ax,aZ,_⟩:=iW F hF h.rd (by omega) (up:=0) .root (kind:=2) (aG:=a) (to:=a+1) (by omega) (by omega) (by omega) (by omega) (h.rd.endOf h0 0 (by omega))
    rw [show ((0:Nat):Int)=0 from rfl] at ao
    refine bt ao ?_
    have aa:r1.L=p.R.L:=ar.l
    have a0:=ar.sz
    have J:PD n (⟨r1,p.Rows,(p.R.T.al.length:Int),false,[],p.av,p.Read⟩:Pp) (a+1) p.R.T.al.length:=
      ⟨aq,by show RO r1.L p.Rows;rw [aa];exact h.ro,eJ,by show ((0:Nat):Int)≤_;exact eJ.1,rfl,au,So.nil _ _,by show (r1.T.al.length:Int)≤_;omega,by show (r1.D.length:Int)≤_;rw [ax];omega⟩
    obtain ⟨x,y,c1,c2,aH,aI,aK,_⟩:=jY F hF (⟨r1,p.Rows,(p.R.T.al.length:Int),false,[],p.av,p.Read⟩:Pp) (by show r1.L.length≤450;rw [aa];exact de) (a+1) r.To (by omega) (by omega) (by show _≤(r1.L.length:Int);rw [aa];omega)
    refine bt c1 ?_
    refine ay ?_
    refine aw (fun js=>?_) (fun js=>?_)
    · have hx:=c2.1
      obtain ⟨bb,ab,v1,v2,a2,v4,j,v6,a3,a4,a5⟩:=o4 F hF J (by omega) au (Nat.le_refl _) (fun i o hi=>by simp at hi) (at_:=x) (by omega) (by omega)
      refine bt v1 ?_
      refine wpS (wpS ⟨⟨j.rd,j.ro,j.dep, .inr ⟨_,j.doc,j.ds,j.si,j.sl⟩,?_,?_⟩,?_,v4,v2.rows,v6.trans aa⟩)
      · show (ab.R.T.al.length:Int)≤4 * ab.Read+4;omega
      · show (ab.R.D.length:Int)≤4 * ab.Read+4;omega
      · show 0≤ab.Read;omega
    · refine wpS (wpS ⟨⟨?_,J.ro,eJ, .inr ⟨_,J.doc,J.ds,J.si,J.sl⟩,?_,?_⟩,?_,?_,rfl,aa⟩)
      · show Rd n r1 p.Read;exact aq.mono (by omega)
      · show (r1.T.al.length:Int)≤4 * p.Read+4;omega
      · show (r1.D.length:Int)≤4 * p.Read+4;rw [ax];omega
      · show 0≤p.Read;omega
      · show p.Read≤n;omega
  ·
    have B6:Wp (if (0:Int)≤p.Doc then
        (h6 F p.R.T p.Doc (a+1)).bind fun aL=>
        some ((⟨p.R.L,aL,p.R.D,p.R.End⟩:aJ),p.Rows,p.Doc,p.az,p.av,p.Read)
       else
        some (p.R,p.Rows,p.Doc,p.az,p.av,p.Read):Option (aJ×(List an)×Int×Bool×Int×Int))
        (fun z=>z.2.1=p.Rows∧z.2.2.2.2.1=p.av∧z.2.2.2.2.2=p.Read∧Rd n z.1 (a+1)∧To p.R z.1 0 0 0):=by
      rcases h.doc with ⟨aA,aB⟩ | ⟨d,aA,aB,a6,a7⟩
      · exact gG (by omega) (wpS ⟨rfl,rfl,rfl,h.rd.mono (by omega),To.refl _ _⟩)
      · obtain ⟨t',aM,aN,aO⟩:=oU F hF h.rd (by omega) aB (to:=a+1) (by omega) (by omega)
        rw [aA]
        exact aW (by omega) (bt aM (wpS ⟨rfl,rfl,rfl,aN,aO 0⟩))
    refine bj B6 ?_
    rintro ⟨I,a8,a9,aP,ba,bc⟩ ⟨e1,aC,aD,ad,ae⟩
    simp only at e1 aC aD ad ae
    subst e1 aC aD
    have U:=ae.l
    have bd:=ae.sz
    have bf:=ae.dl
    obtain ⟨x,y,c1,c2,aH,aI,aK,_⟩:=jY F hF (⟨I,p.Rows, -1,aP,[],p.av,p.Read⟩:Pp) (by show I.L.length≤450;rw [U];exact de) (a+1) b (by omega) (by omega) (by show _≤(I.L.length:Int);rw [U];omega)
    refine bt c1 ?_
    have hx:=c2.1
    refine aw (fun js=>?_) (fun js=>?_)
    · obtain ⟨ag,aE,aR,ai,_⟩:=me F hF ad (by omega) (by omega) (up:=0) .root (code:=8) (aG:=x) (to:=y) (by omega) js (by omega) (by omega) (ad.endOf (by omega) 0 (by omega))
      rw [show ((0:Nat):Int)=0 from rfl] at aE
      have bg:=ai.sz
      have bh:=ai.dl
      refine bt aE (wpS ⟨⟨?_,?_,eJ, .inl ⟨rfl,rfl⟩,?_,?_⟩,?_,?_,rfl,ai.l.trans U⟩)
      · show Rd n ag p.Read;exact aR.mono (by omega)
      · show RO ag.L p.Rows;rw [ai.l,U];exact h.ro
      · show (ag.T.al.length:Int)≤4 * p.Read+4;omega
      · show (ag.D.length:Int)≤4 * p.Read+4;omega
      · show 0≤p.Read;omega
      · show p.Read≤n;omega
    · refine wpS ⟨⟨?_,?_,eJ, .inl ⟨rfl,rfl⟩,?_,?_⟩,?_,?_,rfl,U⟩
      · show Rd n I p.Read;exact ad.mono (by omega)
      · show RO I.L p.Rows;rw [U];exact h.ro
      · show (I.T.al.length:Int)≤4 * p.Read+4;omega
      · show (I.D.length:Int)≤4 * p.Read+4;omega
      · show 0≤p.Read;omega
      · show p.Read≤n;omega
theorem So.last {N:List aq} {d:Nat} {S:List Oo} (h:So N d S) {k:Nat} {o o':Oo} (hk:S[k]?=some o) (hl:k+1=S.length) (hn:o'.Node=o.Node) (hc:o'.Has=false→∃ c:Nat,o'.bP=c∧o.Node<c∧Sp N c):So N d (S.set k o'):=by
  have e6:∀ (i:Nat) x,(S.set k o')[i]?=some x→(i=k∧x=o')∨(i≠k∧S[i]?=some x):=by
    intro i x hx
    by_cases e:i=k
    · subst e
      rw [List.getElem?_set_self (gm hk)] at hx
      exact .inl ⟨rfl,(Option.some.inj hx).symm⟩
    · rw [List.getElem?_set_ne (Ne.symm e)] at hx;exact .inr ⟨e,hx⟩
  refine ⟨fun i x hx=>?_,fun i j x y k3 hx hy=>?_,fun i x hx I=>?_,fun i x hx hf=>?_⟩
  · rcases e6 i x hx with ⟨rfl,rfl⟩ | ⟨_,q⟩
    · rw [hn];exact h.node i o hk
    · exact h.node i x q
  · have hj:=gm hy
    rw [List.length_set] at hj
    rcases e6 i x hx with ⟨rfl,rfl⟩ | ⟨_,q⟩
    · omega
    · rcases e6 j y hy with ⟨rfl,rfl⟩ | ⟨_,J⟩
      · rw [hn];exact h.inc i j x o k3 q hk
      · exact h.inc i j x y k3 q J
  · rw [List.length_set] at I
    rcases e6 i x hx with ⟨rfl,rfl⟩ | ⟨_,q⟩
    · omega
    · exact h.has i x q I
  · rcases e6 i x hx with ⟨rfl,rfl⟩ | ⟨_,q⟩
    · rw [hn];exact hc hf
    · exact h.cur i x q hf
theorem So.open_ {N:List aq} {d:Nat} {S:List Oo} (h:So N d S) {k:Nat} {o:Oo} (hk:S[k]?=some o) (hf:o.Has=false):k+1=S.length∧∃ c:Nat,o.bP=c∧o.Node<c∧Sp N c∧d≤c∧Up S c:=by
  have hl:=gm hk
  have I:k+1=S.length:=by
    rcases Nat.lt_or_ge (k+1) S.length with z | z
    · rw [h.has k o hk z] at hf;cases hf
    · omega
  obtain ⟨c,c1,c2,J⟩:=h.cur k o hk hf
  obtain ⟨m,U,aa,_⟩:=h.node k o hk
  refine ⟨I,c,c1,c2,J,by omega,fun i x hx=>?_⟩
  have hi:=gm hx
  by_cases e:i=k
  · subst e
    rw [hk] at hx;simp only [Option.some.injEq] at hx;subst hx
    exact ⟨by omega,fun _=>by omega⟩
  · have h1:=h.inc i k x o (by omega) hx hk
    exact ⟨by omega,fun j=>by rw [h.has i x hx (by omega)] at j;cases j⟩
theorem uf (S:List Oo) (k:Int) (h0: -1≤k) (h1:k<S.length):([]:List Oo)++((S.take (k+1).toNat).drop (0:Int).toNat)=S.take (k+1).toNat:=rfl
theorem Bc (F:Nat) (hF:2500≤F) {n:Int} {p:Pp} {d:Nat} {r:an} {a b:Int} (h:PD n p a d) (h0:0≤a) (gK:a<b) (hb:b≤p.Read) (jX:p.Read≤n):Wp (nD F p r a b) (Nx n p):=by
  have hn:=h.rd.nl
  have de:=h.rd.ri.n
  have eJ:=h.dep
  have gR:=h.sl
  have pQ:af ((p.S.length:Int) - 1)=(p.S.length:Int) - 1:=a4 (by omega) (by omega)
  have key:∀ (m:Nat) (k:Int), -1≤k→k<p.S.length→k+1<m→∃ k',correctorref12_parser_bare_l0 F p r a b m r k=some k'∧ -1≤k'∧k'<p.S.length:=by
    intro m
    induction m with
    | zero=>intro k h1 h2 ae;omega
    | succ m ih=>
      intro k h1 h2 ae
      rw [correctorref12_parser_bare_l0]
      by_cases c:0≤k
      case neg=>rw [if_neg c];exact ⟨k,rfl,h1,h2⟩
      have hl:k.toNat<p.S.length:=by omega
      rw [if_pos c,if_pos (by omega),List.getElem?_eq_getElem hl]
      simp only [Option.bind_some]
      split
      · rw [ju (by omega) (by omega)]
        exact ih (k - 1) (by omega) (by omega) (by omega)
      · exact ⟨k,rfl,h1,h2⟩
  obtain ⟨k,ag,ah,ai⟩:=key F ((p.S.length:Int) - 1) (by omega) (by omega) (by omega)
  obtain ⟨u,aa,aj,ao,aq⟩:=qh F h
  obtain ⟨re,e1,J,ar,aH⟩:=pT F hF h h0 aj ao aq (aG:=a) (to:=b) (code:=7) (Int.le_refl _) gK (by omega)
  have uc:Nx n p (⟨re,p.Rows,p.Doc,p.az,p.S,p.av,p.Read⟩:Pp):=by
    have au:=J.sz
    have ax:=J.dl
    simp only at au ax
    have aI:=h.sz
    refine ⟨⟨J.rd.mono hb,J.ro,J.dep, .inr ⟨d,J.doc,J.ds,J.si,J.sl⟩,?_,?_⟩,?_,jX,rfl,ar⟩
    · show (re.T.al.length:Int)≤4 * p.Read+4;omega
    · show (re.D.length:Int)≤4 * p.Read+4;omega
    · show 0≤p.Read;omega
  unfold nD
  rw [pQ]
  refine bt ag ?_
  have pU:af (k+1)=k+1:=a4 (by omega) (by omega)
  refine bj (Q:=fun s=>match s with | .inl _=>(k<0∨∃ o,p.S[k.toNat]?=some o∧o.Has=false) | .inr p'=>Nx n p p') ?_ ?_
  · refine aw (fun hk=>?_) (fun hk=>?_)
    · refine aw (fun rq=>?_) (fun rq=>?_)
      · exact bt aa (bt e1 (wpS uc))
      · exact gG (by omega) (wpS (.inl hk))
    · refine aW (by omega) (aW (by omega) (ay (aY (by omega) fun o ho=>?_)))
      refine aw (fun hh=>?_) (fun hh=>?_)
      · exact bt aa (bt e1 (wpS uc))
      · exact wpS (.inr ⟨o,ho,by simpa using hh⟩)
  · rintro (_ | p') hs
    · simp only at hs ⊢
      simp only [pU,uf p.S k ah ai]
      refine aW (by omega) (aW (by rw [show (0:Int).toNat=0 from rfl,List.drop_zero,List.length_take,List.length_nil];omega) ?_)
      refine aw (fun hk=>?_) (fun hk=>?_)
      · have e:(k+1).toNat=0:=by omega
        rw [e,List.take_zero,h.doc]
        have hp:PD n (⟨p.R,p.Rows,(d:Int),p.az,[],p.av,p.Read⟩:Pp) a d:=⟨h.rd,h.ro,eJ,by show ((0:Nat):Int)≤_;exact eJ.1,rfl,h.ds,So.nil _ _,h.sz,h.dl⟩
        obtain ⟨bb,I,v1,v2,aA,v4,j,v6,ab,aB,aC⟩:=o4 F hF hp h0 h.ds (Nat.le_refl _) (fun i o hi=>by simp at hi) (at_:=a) (Int.le_refl _) (by omega)
        refine bt v1 (wpS ⟨⟨j.rd,j.ro,j.dep, .inr ⟨_,j.doc,j.ds,j.si,j.sl⟩,?_,?_⟩,?_,v4,v2.rows,v6⟩)
        · show (I.R.T.al.length:Int)≤4 * I.Read+4;omega
        · show (I.R.D.length:Int)≤4 * I.Read+4;omega
        · show 0≤I.Read;omega
      · rcases hs with hs | ⟨o,ho,hf⟩
        · exact absurd hs hk
        obtain ⟨aD,c,c1,c2,ad,aE,aF⟩:=h.si.open_ ho hf
        have e:p.S.take (k+1).toNat=p.S:=List.take_of_length_le (by omega)
        rw [e]
        refine aW (by omega) ?_
        rw [ho]
        refine bt rfl ?_
        rw [c1]
        obtain ⟨bb,I,v1,v2,aA,v4,j,v6,ab,aB,aC⟩:=o4 F hF h h0 ad aE aF (at_:=a) (Int.le_refl _) (by omega)
        refine bt v1 ?_
        have U:=v2.s
        refine aW (by rw [U];omega) ?_
        rw [U,ho]
        refine bt rfl (wpS ⟨⟨j.rd,j.ro,j.dep, .inr ⟨d,j.doc,j.ds,?_,?_⟩,?_,?_⟩,?_,v4,v2.rows,v6⟩)
        · have h2:=j.si
          rw [U] at h2
          exact h2.last ho aD rfl (fun _=>⟨c,c1,c2,ab c (Nat.le_refl _) ad⟩)
        · show ((p.S.set _ _).length:Int)≤I.av
          rw [List.length_set,v2.dep];exact gR
        · show (I.R.T.al.length:Int)≤4 * I.Read+4;omega
        · show (I.R.D.length:Int)≤4 * I.Read+4;omega
        · show 0≤I.Read;omega
    · exact wpS hs
end Go.Proofs.Ytcilejikekccmaa.M
namespace Go.Proofs.Ytcilejikekccmaa.M
open Go Am Sy
structure Ls (n:Int) (R:Rr) (d:Nat) (S:List Oo) (S0:List Oo) (o:Oo) (m:Nat) (aG to:Int):Prop where
 eq:S=S0++[o]
 nd:o.Node=m
 dm:d<m
 sm:Sp R.T.al m
 sd:Sp R.T.al d
 en:∀ e,endOf R.T.al m=some e→e≤aG
 so:So R.T.al d S0
 has:∀ (i:Nat) x,S0[i]?=some x→x.Has=true∧x.Node<m
 rd:Rd n R to
theorem BK {α:Type} (S:List α) (o x:α):(S++[o]).set S.length x=S++[x]:=by
 rw [List.set_append_right _ _ (Nat.le_refl _)];simp
theorem pC {α:Type} (S:List α) (o:α):(S++[o])[S.length]?=some o:=by simp
theorem So.up {N:List aq} {d:Nat} {S:List Oo} {m:Nat} (hh:∀ (i:Nat) x,S[i]?=some x→x.Has=true∧x.Node<m):Up S m:=fun i x hx=>⟨by have:=(hh i x hx).2;omega,fun q=>by rw [(hh i x hx).1] at q;cases q⟩
theorem y4 (F:Nat) (p:Pp) (e:aZ) (hl:p.S.length≤1000):∀ (m:Nat) (mm k:Int), -1≤k→k<p.S.length→k+1<m→∃ k',correctorref12_parser_place_l0 F p e m e mm k=some (e,mm,k')∧ -1≤k'∧k'<p.S.length:=by
 intro m
 induction m with
 | zero=>intro mm k h1 h2 j;omega
 | succ m ih=>
  intro mm k h1 h2 j
  rw [correctorref12_parser_place_l0]
  by_cases c:0≤k
  case neg=>rw [if_neg c];exact ⟨k,rfl,h1,h2⟩
  have hi:k.toNat<p.S.length:=by omega
  rw [if_pos c,if_pos (by omega),List.getElem?_eq_getElem hi]
  simp only [Option.bind_some]
  split
  ·rw [ju (by omega) (by omega)]
   exact ih mm (k - 1) (by omega) (by omega) (by omega)
  ·exact ⟨k,rfl,h1,h2⟩
theorem wP (F:Nat) (hF:2500≤F) {n:Int} {p:Pp} {q:Int} {d:Nat} (h:PD n p q d) (h0:0≤q) {e:aZ} (hq:q≤e.ah) (fb:e.ah<e.To) (ht:e.To≤n):
  Wp (correctorref12_parser_place F p e) (fun z=>z.2.Rows=p.Rows∧z.2.R.L=p.R.L∧z.2.Read=p.Read∧((0<z.1∧z.2=p)∨(z.1=0∧(PD n z.2 e.To d∧(z.2.R.T.al.length:Int)≤4 * e.To+3)∧∃ (k:Nat) (o:Oo),z.2.S[k]?=some o∧k+1=z.2.S.length∧o.Has=false))):=by
 have hn:=h.rd.nl
 have de:=h.rd.ri.n
 have eJ:=h.dep
 have gR:=h.sl
 have b7:=h.sz
 have fx:=h.dl
 have pQ:af ((p.S.length:Int) - 1)=(p.S.length:Int) - 1:=a4 (by omega) (by omega)
 unfold correctorref12_parser_place
 refine bj (Q:=fun s=>s.1=e∧(s.2=3∨s.2=5)) (aw (fun _=>wpS ⟨rfl, .inl rfl⟩) (fun _=>wpS ⟨rfl, .inr rfl⟩)) ?_
 rintro ⟨e1,kind⟩ ⟨rfl,mo⟩
 simp only at mo hq fb ht ⊢
 rw [pQ]
 obtain ⟨k,aU,aJ,ax⟩:=y4 F p e1 (by omega) F kind ((p.S.length:Int) - 1) (by omega) (by omega) (by omega)
 refine bt aU ?_
 simp only
 refine bj (Q:=fun s=>match s with
  | .inl (e',k',fresh)=>e'=e1∧((fresh=false∧0≤k'∧k'<p.S.length)∨(fresh=true∧ -1≤k'∧k'<p.S.length∧(k'<0∨∃ o,p.S[k'.toNat]?=some o∧o.Has=false)))
  | .inr z=>0<z.1∧z.2=p) ?_ ?_
 ·refine bj (Q:=fun s=>s.1=e1∧(s.2=true→0≤k)) ?_ ?_
  ·refine aw (fun c=>aW (by omega) (ay (aY (by omega) fun o ho=>aw (fun _=>aW (by omega) (ay (aY (by omega) fun o ho=>aw (fun _=>wpS ⟨rfl,fun _=>c⟩) (fun _=>wpS ⟨rfl,fun q=>by cases q⟩)))) (fun _=>wpS ⟨rfl,fun q=>by cases q⟩)))) (fun _=>wpS ⟨rfl,fun q=>by cases q⟩)
  rintro ⟨aK,bl⟩ ⟨rfl,aX⟩
  refine aw (fun c=>wpS ⟨rfl, .inl ⟨rfl,aX c,ax⟩⟩) (fun _=>?_)
  refine bj (Q:=fun s=>s.1=aK∧(s.2=true→0≤k)) ?_ ?_
  ·refine aw (fun c=>aW (by omega) (ay (aY (by omega) fun o ho=>aw (fun _=>aw (fun _=>wpS ⟨rfl,fun _=>c⟩) (fun _=>wpS ⟨rfl,fun q=>by cases q⟩)) (fun _=>wpS ⟨rfl,fun q=>by cases q⟩)))) (fun _=>wpS ⟨rfl,fun q=>by cases q⟩)
  rintro ⟨ab,bm⟩ ⟨rfl,a0⟩
  refine aw (fun c=>?_) (fun _=>?_)
  ·have az:=a0 c
   refine aW (by omega) (ay (aY (by omega) fun o ho=>aw (fun _=>wpS ⟨by simp,rfl⟩) (fun hh=>wpS ⟨rfl, .inr ⟨rfl,aJ,ax, .inr ⟨o,ho,by simpa using hh⟩⟩⟩)))
  refine bj (Q:=fun s=>s.1=ab∧(s.2=true→0<k)) ?_ ?_
  ·have hw:0<k→af (k - 1)=k - 1:=fun c=>ju (by omega) (by omega)
   refine aw (fun c=>?_) (fun _=>wpS ⟨rfl,fun q=>by cases q⟩)
   rw [hw c]
   exact aW (by omega) (ay (aY (by omega) fun o ho=>aw (fun _=>aW (by omega) (ay (aY (by omega) fun o ho=>aw (fun _=>aW (by omega) (ay (aY (by omega) fun o ho=>aw (fun _=>wpS ⟨rfl,fun _=>c⟩) (fun _=>wpS ⟨rfl,fun q=>by cases q⟩)))) (fun _=>wpS ⟨rfl,fun q=>by cases q⟩)))) (fun _=>wpS ⟨rfl,fun q=>by cases q⟩)))
  rintro ⟨j,bn⟩ ⟨rfl,a2⟩
  refine aw (fun c=>?_) (fun _=>?_)
  ·have az:=a2 c
   rw [ju (by omega) (by omega)]
   exact wpS ⟨rfl, .inl ⟨rfl,by omega,by omega⟩⟩
  refine bj (Q:=fun s=>s.1=j) ?_ ?_
  ·refine aw (fun c=>aW (by omega) (ay (aY (by omega) fun o ho=>aw (fun _=>wpS rfl) (fun _=>wpS rfl)))) (fun _=>wpS rfl)
  rintro ⟨bo,bp⟩ rfl
  refine aw (fun c=>wpS ⟨by simp,rfl⟩) (fun _=>?_)
  refine aw (fun c=>?_) (fun c=>?_)
  ·refine aw (fun _=>wpS ⟨by simp,rfl⟩) (fun _=>gG (by omega) (wpS ⟨rfl, .inr ⟨rfl,aJ,ax, .inl c⟩⟩))
  ·refine aW (by omega) (aW (by omega) (ay (aY (by omega) fun o ho=>aw (fun _=>wpS ⟨by simp,rfl⟩) (fun hh=>wpS ⟨rfl, .inr ⟨rfl,aJ,ax, .inr ⟨o,ho,by simpa using hh⟩⟩⟩))))
 rintro (⟨aK,k',fresh⟩ | ⟨code,p'⟩) hs
 case inr=>obtain ⟨U,rfl⟩:=hs;exact wpS ⟨rfl,rfl,rfl, .inl ⟨U,rfl⟩⟩
 obtain ⟨rfl,hs⟩:=hs
 simp only at hs ⊢
 have jn: -1≤k'∧k'<p.S.length:=by rcases hs with ⟨_,z⟩ | ⟨_,U,aa,_⟩<;>omega
 have a3:af (k'+1)=k'+1:=a4 (by omega) (by omega)
 have a5:af (k'+2)=k'+2:=a4 (by omega) (by omega)
 rw [a3,a5]
 refine bj (Q:=fun s=>match s with
  | .inl e'=>e'=aK∧(fresh=true→k'+2≤p.av)
  | .inr z=>0<z.1∧z.2=p) ?_ ?_
 ·refine aw (fun c=>aw (fun _=>wpS ⟨by simp,rfl⟩) (fun c2=>wpS ⟨rfl,fun _=>by omega⟩)) (fun c=>wpS ⟨rfl,fun q=>absurd q c⟩)
 rintro (ab | ⟨code,p'⟩) aO
 case inr=>obtain ⟨U,rfl⟩:=aO;exact wpS ⟨rfl,rfl,rfl, .inl ⟨U,rfl⟩⟩
 obtain ⟨rfl,zq⟩:=aO
 simp only [uf p.S k' jn.1 jn.2]
 refine aW (by omega) (aW (by rw [show (0:Int).toNat=0 from rfl,List.drop_zero,List.length_take,List.length_nil];omega) ?_)
 refine bj (Q:=fun z=>z.2.1=p.Rows∧z.2.2.1=p.Doc∧z.2.2.2.2.2.1=p.av∧z.2.2.2.2.2.2.1=p.Read∧z.2.2.2.2.2.2.2=ab∧z.1.L=p.R.L∧z.1.D=p.R.D∧(z.1.T.al.length:Int)≤p.R.T.al.length+1∧(z.2.2.2.2.1.length:Int)≤p.av∧∃ S0 o m,Ls n z.1 d z.2.2.2.2.1 S0 o m ab.ah ab.To) ?_ ?_
 ·refine aw (fun jZ=>?_) (fun jZ=>?_)
  ·have a6:k'<0∨∃ o,p.S[k'.toNat]?=some o∧o.Has=false:=by
    rcases hs with ⟨z,_⟩ | ⟨_,_,_,z⟩
    ·rw [jZ] at z;cases z
    ·exact z
   have br:=zq jZ
   refine bj (Q:=fun z=>z.1=p.Rows∧z.2.1=p.Doc∧z.2.2.2.2.1=p.av∧z.2.2.2.2.2.1=p.Read∧z.2.2.2.2.2.2.1=ab∧(z.2.2.2.1.length:Int)+1≤p.av∧∃ u:Nat,z.2.2.2.2.2.2.2=(u:Int)∧Sp p.R.T.al u∧d≤u∧So p.R.T.al d z.2.2.2.1∧∀ (i:Nat) (x:Oo),z.2.2.2.1[i]?=some x→x.Has=true∧x.Node<(u:Int)) ?_ ?_
   ·refine aw (fun az=>?_) (fun az=>?_)
    ·rcases a6 with z | ⟨o,ho,hf⟩
     ·omega
     obtain ⟨aA,c,c1,c2,a7,a8,bu⟩:=h.si.open_ ho hf
     have e:p.S.take (k'+1).toNat=p.S:=List.take_of_length_le (by omega)
     rw [e]
     refine aW (by omega) ?_
     rw [ho]
     refine bt rfl (aW (by omega) (bt rfl (wpS ⟨rfl,rfl,rfl,rfl,rfl,?_,c,c1,a7,a8,?_,fun i x hx=>?_⟩)))
     ·show ((p.S.set _ _).length:Int)+1≤p.av
      rw [List.length_set];omega
     ·exact h.si.last ho aA rfl (fun z=>by cases z)
     ·have kP:(p.S.set k'.toNat {o with Has:=true})[i]?=some x:=hx
      by_cases ei:i=k'.toNat
      ·subst ei
       rw [List.getElem?_set_self (gm ho)] at kP
       simp only [Option.some.injEq] at kP
       subst kP
       exact ⟨rfl,c2⟩
      ·rw [List.getElem?_set_ne (Ne.symm ei)] at kP
       have hi:=gm kP
       have h1:=h.si.inc i k'.toNat x o (by omega) kP ho
       exact ⟨h.si.has i x kP (by omega),by omega⟩
    ·have e:(k'+1).toNat=0:=by omega
     rw [e,List.take_zero]
     exact wpS ⟨rfl,rfl,rfl,rfl,rfl,by show ((0:Nat):Int)+1≤p.av;omega,d,h.doc,h.ds,Nat.le_refl _,So.nil _ _,fun i x hx=>by simp at hx⟩
   ·rintro ⟨a9,ba,aL,aP,bb,bc,j,up⟩ ⟨ag,ai,aj,an,ao,ad,u,aq,aB,aD,aR,aE⟩
    simp only at ag ai aj an ao ad aq aR aE ⊢
    subst ag ai aj an ao aq
    obtain ⟨r1,a1,ar,I,au,aF,bd,z,hz,nV,m0⟩:=iW F hF h.rd (by omega) aB (kind:=kind) (aG:=j.ah) (to:=j.To) (by omega) (by omega) ht (by omega) (h.rd.endOf h0 u hq)
    have hu:=aB.lt h.rd.g
    have bw:=I.sz
    refine bt a1 (aW (by rw [List.length_singleton];omega) (wpS ⟨rfl,rfl,rfl,rfl,rfl,I.l,aF,?_,?_,aP,_,p.R.T.al.length,rfl,rfl,by omega,au,I.sp d aD h.ds,fun e he=>by rw [rr hz m0 e he,nV];exact Int.le_refl _,aR.to (So.up (d:=d) (N:=p.R.T.al) aE) I.sp,fun i x hx=>⟨(aE i x hx).1,by have:=(aE i x hx).2;omega⟩,ar⟩))
    ·show (r1.T.al.length:Int)≤_;omega
    ·show ((aP++[_]).length:Int)≤_
     rw [List.length_append,List.length_singleton];omega
  ·have az:0≤k':=by
    rcases hs with ⟨_,z,_⟩ | ⟨z,_⟩
    ·exact z
    ·exact absurd z jZ
   have hl:k'.toNat<p.S.length:=by omega
   have hg:=List.getElem?_eq_getElem hl
   obtain ⟨m,bf,bg,bh⟩:=h.si.node _ _ hg
   have e:(k'+1).toNat=k'.toNat+1:=by omega
   refine wpS ⟨rfl,rfl,rfl,rfl,rfl,rfl,rfl,by show (p.R.T.al.length:Int)≤_;omega,?_,p.S.take k'.toNat,p.S[k'.toNat],m,?_,bf,bg,bh,h.ds,h.rd.endOf h0 m hq,h.si.take _,fun i x hx=>?_,h.rd.mono (by omega)⟩
   ·show ((p.S.take (k'+1).toNat).length:Int)≤_
    rw [List.length_take];omega
   ·show p.S.take (k'+1).toNat=_
    rw [e,List.take_succ_eq_append_getElem hl]
   ·obtain ⟨aA,bk⟩:=lR hx
    have h1:=h.si.inc i k'.toNat x _ bk aA hg
    exact ⟨h.si.has i x aA (by omega),by omega⟩
 ·rintro ⟨ae,a9,ba,aL,bx,bb,bc,j⟩ ⟨ag,ai,aj,an,ao,ad,aq,aB,aD,S0,o,m,hL⟩
  simp only at ag ai aj an ao ad aq aB aD hL ⊢
  subst ag ai aj an ao
  have heq:=hL.eq
  subst heq
  rw [List.length_append,List.length_singleton] at aD
  have jS:af (((S0++[o]).length:Int) - 1)=(S0.length:Int):=by rw [List.length_append,List.length_singleton,a4 (by omega) (by omega)];omega
  have hS:(S0++[o]).length=S0.length+1:=by simp
  simp only [jS,Int.toNat_natCast,pC,BK]
  refine aW (by rw [hS];omega) (bt rfl ?_)
  refine bj (Q:=fun z=>z.2.1=p.Rows∧z.2.2.1=p.Doc∧z.2.2.2.2.2.1=p.av∧z.2.2.2.2.2.2=p.Read∧z.1.L=p.R.L∧(PD n (⟨z.1,z.2.1,z.2.2.1,z.2.2.2.1,z.2.2.2.2.1,z.2.2.2.2.2.1,z.2.2.2.2.2.2⟩:Pp) j.To d∧(z.1.T.al.length:Int)≤4 * j.To+3)∧∃ (k:Nat) (o:Oo),z.2.2.2.2.1[k]?=some o∧k+1=z.2.2.2.2.1.length∧o.Has=false) ?_ ?_
  ·have fin:∀ (J:Rr) (c:Nat) (root:Bool) (s:Int),Rd n J j.To→To ae J m s 0→Sp J.T.al c→m<c→s≤2 * (j.To - j.ah) - 1∨((ae.T.al.length:Int)≤p.R.T.al.length∧s≤2 * (j.To - j.ah))∨s≤1→PD n (⟨J,p.Rows,p.Doc,root,S0++[(⟨o.Node,o.Kind,o.aC,(c:Int),false⟩:Oo)],p.av,p.Read⟩:Pp) j.To d∧(J.T.al.length:Int)≤4 * j.To+3:=by
    intro J c root s U aa aM aH aN
    have t1:=aa.sz
    have t2:=aa.dl
    rw [aq] at t2
    refine ⟨⟨U,by show RO J.L p.Rows;rw [aa.l,ad];exact h.ro,eJ,?_,h.doc,aa.sp d (by have:=hL.dm;omega) hL.sd,?_,?_,?_⟩,by omega⟩
    ·show ((S0++[_]).length:Int)≤_
     rw [List.length_append,List.length_singleton];omega
    ·exact So.push (hL.so.to (So.up (d:=d) (N:=ae.T.al) hL.has) aa.sp) (fun i x hx=>(hL.has i x hx).1) hL.nd hL.dm (aa.sp m (Nat.le_refl _) hL.sm) (fun i x hx=>(hL.has i x hx).2) (fun _=>⟨rfl,aH,aM⟩)
    ·show (J.T.al.length:Int)≤4 * j.To+5;omega
    ·show (J.D.length:Int)≤4 * j.To+4;omega
   refine aw (fun hd=>?_) (fun hd=>?_)
   ·obtain ⟨aI,a1,ar,I,au,aF,bd,_⟩:=iW F hF hL.rd (by omega) hL.sm (kind:=4) (aG:=j.ah) (to:=j.To) (by omega) (by omega) ht (Int.le_refl _) hL.en
    refine bt rfl ?_
    rw [hL.nd]
    refine bt a1 (bt rfl (wpS ⟨rfl,rfl,rfl,rfl,I.l.trans ad,?_,S0.length,_,pC _ _,by simp,rfl⟩))
    have:=fin aI ae.T.al.length aL 1 ar I au (hL.sm.lt hL.rd.g) (.inr (.inr (Int.le_refl _)))
    rw [hL.nd] at this
    exact this
   ·obtain ⟨aI,a1,ar,I,au,aF⟩:=sU F hF hL.rd (by omega) hL.sm (aG:=j.ah) (to:=j.To) (by omega) (by omega) ht (Int.le_refl _) hL.en
    refine bt rfl ?_
    rw [hL.nd]
    refine bt a1 (bt rfl (wpS ⟨rfl,rfl,rfl,rfl,I.l.trans ad,?_,S0.length,_,pC _ _,by simp,rfl⟩))
    have t:To ae aI m (if j.To - j.ah<2 then 1 else 2) 0:=by
     refine ⟨I.l,I.e,?_,I.ge,I.dl,I.sp⟩
     have:=I.sz
     split
     ·rename_i z;have:=aF z;omega
     ·omega
    have:=fin aI ae.T.al.length aL _ ar t au (hL.sm.lt hL.rd.g) (by split<;>omega)
    rw [hL.nd] at this
    exact this
  ·rintro ⟨J,bz,bA,bB,bC,bD,bE⟩ ⟨U,aa,aM,aH,aN,aS,aT⟩
   simp only at U aa aM aH aN aS aT ⊢
   exact wpS ⟨U,aN,aH, .inr ⟨rfl,aS,aT⟩⟩
end Go.Proofs.Ytcilejikekccmaa.M
namespace Go.Proofs.Ytcilejikekccmaa.M
open Go Am Sy
abbrev Cu:=Rr×(List an)×Int×Bool×(List Oo)×Int×Int×an×Int
def Cu.p (z:Cu):Pp:=⟨z.1,z.2.1,z.2.2.1,z.2.2.2.1,z.2.2.2.2.1,z.2.2.2.2.2.1,z.2.2.2.2.2.2.1⟩
def tP (S:List Oo):Prop:=∃ (k:Nat) (o:Oo),S[k]?=some o∧k+1=S.length∧o.Has=false
theorem body_l0_wp (F:Nat) (hF:2500≤F) {n:Int} {p a0:Pp} {d:Nat} {r:an} {b rest:Int} {es:List aZ} (hn:n≤450) (Eo:rest≤r.To) (aj:b≤r.To) (nE:r.To≤n) (jJ:p.Read=r.To)
  (hb:∀ (i:Int) (t:ak),b≤i→i<r.To→p.R.L[i.toNat]?=some t→cn t.Kind=false):
  ∀ (m:Nat) (R:Rr) (Doc:Int) (az:Bool) (S:List Oo) (c4:Int) (q:Int) (u:Nat) (i:Nat),es.length+1 - i<m→i≤es.length→es.length≤1000→0≤q→R.L=p.R.L→PD n (⟨R,p.Rows,Doc,az,S,c4,r.To⟩:Pp) q d→Ec p.R.L q (es.drop i) rest→Sp R.T.al u→d≤u→Up S u→(i≠0→tP S∧(R.T.al.length:Int)≤4 * q+3)→
  Wp (lg F a0 r m R p.Rows Doc az S c4 r.To r b es rest (u:Int) (i:Int)) (fun s=>match s with
   | .inl z=>z.2.1=p.Rows∧z.2.2.2.2.2.2.1=r.To∧z.2.2.2.2.2.2.2.1=r∧z.2.2.2.2.2.2.2.2=rest∧z.1.L=p.R.L∧∃ q',0≤q'∧q'≤rest∧PD n (Cu.p z) q' d∧(es≠[]→tP z.2.2.2.2.1∧(z.1.T.al.length:Int)≤4 * q'+3)
   | .inr p'=>Nx n p p'):=by
 intro m
 induction m with
 | zero=>intro R Doc az S c4 q u i h1;omega
 | succ m ih=>
  intro R Doc az S c4 q u i h1 h2 vY U hl h ka hs mT hu au
  rw [lg]
  refine aw (fun c=>?_) (fun c=>?_)
  ·have hi:i<es.length:=by omega
   have hg:=List.getElem?_eq_getElem hi
   have qA:es.drop i=es[i]::es.drop (i+1):=List.drop_eq_getElem_cons hi
   rw [qA] at ka
   obtain ⟨ad,ao,aq,ae⟩:=ka
   have Es:=ae.le
   refine aW (by omega) ?_
   simp only [Int.toNat_natCast,hg]
   refine bt rfl ?_
   refine bj (wP F hF h U ad ao (by omega)) ?_
   rintro ⟨code,p'⟩ ⟨aa,ag,ab,j⟩
   simp only at aa ag ab j ⊢
   rcases j with ⟨j,rfl⟩ | ⟨rfl,⟨j,vF⟩,k,o,J,ar,ai⟩
   ·refine aW j (aW (by omega) (bt rfl ?_))
    have sO:es[i].ah<b:=by
     by_cases z:es[i].ah<b
     ·exact z
     ·obtain ⟨t,t1,t2⟩:=aq
      rw [hb _ t (by omega) (by omega) t1] at t2;cases t2
    obtain ⟨re,e1,I,ax,aC⟩:=pT F hF h U hs mT hu (aG:=es[i].ah) (to:=b) (code:=code) ad sO (by omega)
    refine bt e1 (wpS ⟨⟨I.rd.mono aj,I.ro,I.dep, .inr ⟨d,I.doc,I.ds,I.si,I.sl⟩,?_,?_⟩,?_,?_,rfl,ax.trans hl⟩)
    ·show (re.T.al.length:Int)≤4 * r.To+4;omega
    ·have:=I.dl
     simp only at this
     show (re.D.length:Int)≤4 * r.To+4;omega
    ·show 0≤r.To;omega
    ·show r.To≤n;omega
   ·refine gG (by omega) ?_
    have eJ:=j.dep
    have gR:=j.sl
    have jS:af ((p'.S.length:Int) - 1)=(k:Int):=by rw [a4 (by omega) (by omega)];omega
    have kX:af ((i:Int)+1)=((i+1:Nat):Int):=by rw [a4 (by omega) (by omega)];omega
    have hk:=gm J
    simp only [jS,kX,Int.toNat_natCast,J]
    refine aW (by omega) (bt rfl ?_)
    obtain ⟨_,cu,c1,c2,ay,aA,aB⟩:=j.si.open_ J ai
    rw [c1,aa,ab]
    refine ih p'.R p'.Doc p'.az p'.S p'.av es[i].To cu (i+1) (by omega) (by omega) vY (by omega) (ag.trans hl) ?_ ae ay aA aB (fun _=>⟨⟨k,o,J,ar,ai⟩,vF⟩)
    have e:(⟨p'.R,p.Rows,p'.Doc,p'.az,p'.S,p'.av,r.To⟩:Pp)=p':=by
     rw [show p.Rows=p'.Rows from aa.symm,show r.To=p'.Read from ab.symm]
    rw [e];exact j
  ·have hi:i=es.length:=by omega
   refine wpS ⟨rfl,rfl,rfl,rfl,hl,q,U,?_,h,fun bY=>au ?_⟩
   ·rw [hi,List.drop_length] at ka;exact ka
   ·have:es.length≠0:=fun z=>bY (List.eq_nil_of_length_eq_zero z)
    omega
theorem Nx.of {n:Int} {p j p':Pp} (h:Nx n j p') (h1:j.Rows=p.Rows) (h2:j.R.L=p.R.L):Nx n p p':=⟨h.pi,h.r0,h.r1,h.rows.trans h1,h.l.trans h2⟩
theorem C2 (F:Nat) (hF:2500≤F) {n:Int} {p:Pp} {q:Int} (h:PI n p q) (h0:0≤q) {r:an} (hk:r.Kind=5) (hq:q≤r.ah) (hr:r.ah<r.To) (ao:r.To≤n) (hc:∃ (i:Int) (t:ak),r.ah≤i∧i<r.To∧p.R.L[i.toNat]?=some t∧cn t.Kind=true) (jJ:p.Read=r.To):Wp (n3 F p r) (Nx n p):=by
 have hn:=h.rd.nl
 have de:=h.rd.ri.n
 obtain ⟨a,b,a1,aq,a6,ay,aC,aD⟩:=jY F hF p de r.ah r.To (by omega) (by omega) (by omega)
 have eP:=aq.in hc
 have gK:=aC eP
 have a7:=aq.1
 obtain ⟨j,d,aE,ar,ad,ai,J⟩:=uJ F hF h h0 (a:=a) (by omega) (by omega)
 obtain ⟨es,rest,e1,first,aA,aB,aF⟩:=As F hF j.R.L (by rw [J];exact de) r hk ⟨by omega,hr,by rw [J];omega⟩
 have wW:first=a:=by rw [J] at aA;exact aA.eq aq
 subst wW
 unfold n3
 refine bt a1 (bt aE (bt e1 ?_))
 refine aw (fun c=>?_) (fun c=>?_)
 ·have:=Bc F hF (r:=r) ar (by omega) gK (by rw [ad,jJ];exact ay) (by rw [ad,jJ];exact ao)
  exact bj this fun p' eE=>wpS (eE.of ai J)
 ·have bY:es≠[]:=fun z=>c (by rw [z];rfl)
  have ka:Ec j.R.L first es rest:=by rcases aF with z | z;exact absurd z bY;exact z
  have hlen:=ka.le
  obtain ⟨u,aG,aH,aI,aJ⟩:=qh F ar
  refine bt aG ?_
  have vS:=body_l0_wp F hF (n:=n) (p:=j) (a0:=p) (d:=d) (r:=r) (b:=b) (rest:=rest) (es:=es) (by omega) aB ay ao (by rw [ad,jJ]) (fun i t aK aL aM=>aD i t aK aL (by rw [← J];exact aM)) F j.R j.Doc j.az j.S j.av first u 0 (by omega) (by omega) (by omega) (by omega) rfl (by
   have e:(⟨j.R,j.Rows,j.Doc,j.az,j.S,j.av,r.To⟩:Pp)=j:=by rw [show r.To=j.Read from by rw [ad,jJ]]
   rw [e];exact ar) ka aH aI aJ (fun z=>absurd rfl z)
  rw [show j.Read=r.To from by rw [ad,jJ]]
  refine bj vS ?_
  rintro (⟨ae,a8,aN,aO,au,aP,a9,U,aR⟩ | p') hs
  case inr=>exact wpS (hs.of ai J)
  simp only [Cu.p] at hs ⊢
  obtain ⟨aS,aT,aU,aX,aj,q',aY,ba,I,aZ⟩:=hs
  subst aS aT aU aX
  obtain ⟨⟨k,o,ag,a2,a3⟩,bc⟩:=aZ bY
  have eJ:=I.dep
  have gR:=I.sl
  simp only at eJ gR
  obtain ⟨x,y,c1,c2,bd,bf,bg,_⟩:=jY F hF (⟨ae,j.Rows,aN,aO,au,aP,U.To⟩:Pp) (by show ae.L.length≤450;rw [aj,J];exact de) aR U.To (by omega) aB (by show _≤(ae.L.length:Int);rw [aj,J];omega)
  refine bt c1 ?_
  have hx:=c2.1
  have hk:=gm ag
  have jS:af ((au.length:Int) - 1)=(k:Int):=by rw [a4 (by omega) (by omega)];omega
  refine aw (fun js=>?_) (fun js=>?_)
  ·obtain ⟨_,cu,d1,d2,d3,d4,d5⟩:=I.si.open_ ag a3
   obtain ⟨bb,aa,v1,v2,bh,v4,ab,v6,a5,bk,bl⟩:=o4 F hF I aY d3 d4 d5 (at_:=x) (by omega) (by omega)
   simp only [jS,Int.toNat_natCast,ag]
   refine aW (by omega) (bt rfl ?_)
   rw [d1]
   refine bt v1 ?_
   have ax:=v2.s
   simp only at ax
   rw [ax,ag]
   refine aW (by omega) (bt rfl (wpS ⟨⟨ab.rd,ab.ro,ab.dep, .inr ⟨d,ab.doc,ab.ds,?_,?_⟩,?_,?_⟩,?_,v4,v2.rows.trans ai,(v6.trans aj).trans J⟩))
   ·have h2:=ab.si
    rw [ax] at h2
    exact h2.last ag a2 rfl (fun _=>⟨cu,d1,d2,a5 cu (Nat.le_refl _) d3⟩)
   ·show ((au.set _ _).length:Int)≤aa.av
    rw [List.length_set,v2.dep];exact gR
   ·show (aa.R.T.al.length:Int)≤4 * aa.Read+4;omega
   ·show (aa.R.D.length:Int)≤4 * aa.Read+4;omega
   ·show 0≤aa.Read;omega
  ·have hd:=I.dl
   simp only at hd
   refine wpS ⟨⟨I.rd.mono (by show q'≤U.To;omega),I.ro,I.dep, .inr ⟨d,I.doc,I.ds,I.si,I.sl⟩,?_,?_⟩,?_,ao,ai,aj.trans J⟩
   ·show (ae.T.al.length:Int)≤4 * U.To+4;omega
   ·show (ae.D.length:Int)≤4 * U.To+4;omega
   ·show 0≤U.To;omega
theorem w3 (F:Nat) (hF:2500≤F) {n:Int} {p:Pp} {q:Int} (h:PI n p q) (h0:0≤q) {r:an} (hm:r∈p.Rows) (hq:q≤r.ah):Wp (mG F p r) (Nx n p):=by
 have hn:=h.rd.nl
 have de:=h.rd.ri.n
 obtain ⟨aI,ab,ar⟩:=h.ro.lZ r hm
 have fW:=h.ro.jl r hm
 have hp:PI n (⟨p.R,p.Rows,p.Doc,p.az,p.S,p.av,r.To⟩:Pp) q:=⟨h.rd,h.ro,h.dep,h.doc,h.sz,h.dl⟩
 unfold mG
 refine aw (fun ad=>?_) (fun ad=>?_)
 ·exact bj (y7 F hF hp h0 hq ab (by omega) (fW (.inl ad)) rfl) fun p' eE=>wpS (eE.of rfl rfl)
 refine aw (fun U=>?_) (fun U=>?_)
 ·exact bj (C2 F hF hp h0 U hq ab (by omega) (fW (.inr U)) rfl) fun p' eE=>wpS (eE.of rfl rfl)
 refine bj (Q:=fun z=>z.1=p.Rows∧z.2.1=p.Doc∧z.2.2.1=p.az∧z.2.2.2.1=p.S∧z.2.2.2.2.1=p.av∧z.2.2.2.2.2.1=r.To∧z.2.2.2.2.2.2.1=r) (aw (fun _=>wpS ⟨rfl,rfl,rfl,rfl,rfl,rfl,rfl⟩) (fun _=>aw (fun _=>wpS ⟨rfl,rfl,rfl,rfl,rfl,rfl,rfl⟩) (fun _=>wpS ⟨rfl,rfl,rfl,rfl,rfl,rfl,rfl⟩))) ?_
 rintro ⟨aJ,aK,aL,aM,aN,aO,j,aa⟩ ⟨ae,af,ag,ai,aj,ao,aq⟩
 simp only at ae af ag ai aj ao aq ⊢
 subst ae af ag ai aj ao aq
 have stay:Nx n p (⟨p.R,p.Rows,p.Doc,p.az,p.S,p.av,j.To⟩:Pp):=⟨hp.mono (by show q≤j.To;omega),by show 0≤j.To;omega,by show j.To≤n;omega,rfl,rfl⟩
 refine aw (fun _=>?_) (fun _=>wpS stay)
 obtain ⟨a,b,a1,au,aP,aR,aS,aT⟩:=jY F hF (⟨p.R,p.Rows,p.Doc,p.az,p.S,p.av,j.To⟩:Pp) de j.ah j.To (by omega) (by omega) ar
 have ha:=au.1
 refine bt a1 (aw (fun gK=>?_) (fun _=>wpS stay))
 obtain ⟨J,d,ax,aa,ay,aA,aB⟩:=uJ F hF hp h0 (a:=a) (by omega) (by omega)
 obtain ⟨u,aC,aD,aE,aF⟩:=qh F aa
 obtain ⟨re,e1,I,aH,aU⟩:=pT F hF aa (by omega) aD aE aF (aG:=a) (to:=b) (code:=8) (Int.le_refl _) gK (by omega)
 have hd:=I.dl
 simp only at hd
 have jX:J.Read=j.To:=ay
 refine bt ax (bt aC (bt e1 (wpS ⟨⟨I.rd.mono (by show b≤J.Read;omega),I.ro,I.dep, .inr ⟨d,I.doc,I.ds,I.si,I.sl⟩,?_,?_⟩,?_,?_,aA,aH.trans aB⟩)))
 ·show (re.T.al.length:Int)≤4 * J.Read+4;omega
 ·show (re.D.length:Int)≤4 * J.Read+4;omega
 ·show 0≤J.Read;omega
 ·show J.Read≤n;omega
theorem Br (F:Nat) (hF:2500≤F) (B:List UInt8) (depth:Int) {n:Int} {L:List ak} {rs:List an}:
  ∀ (m:Nat) (p:Pp) (i:Nat),rs.length+1 - i<m→i≤rs.length→p.Rows=rs→p.R.L=L→PI n p p.Read→0≤p.Read→p.Read≤n→
  Wp (correctorref12_Tree_l0 F B depth m L rs p.R p.Doc p.az p.S p.av p.Read (i:Int)) (fun z=>z.1=L∧z.2.1=rs∧z.2.2.1.L=L∧G z.2.2.1.T.al n∧(z.2.2.1.D.length:Int)≤4 * n+4∧(z.2.2.1.T.al.length:Int)≤4 * n+4):=by
 intro m
 induction m with
 | zero=>intro p i h1;omega
 | succ m ih=>
  intro p i h1 h2 j I h h0 hn
  have hlen:=h.ro.len
  rw [j] at hlen
  rw [correctorref12_Tree_l0]
  refine aw (fun c=>?_) (fun c=>?_)
  ·have hi:i<rs.length:=by omega
   have hg:=List.getElem?_eq_getElem hi
   have kX:af ((i:Int)+1)=((i+1:Nat):Int):=by rw [a4 (by omega) (by omega)];omega
   have hb:0≤(i:Int)∧(i:Int)<(rs.length:Int):=by omega
   simp only [if_pos hb,Int.toNat_natCast,hg,kX]
   refine ay (bt rfl ?_)
   refine aw (fun hf=>?_) (fun hf=>?_)
   ·refine bt rfl ?_
    have e:(⟨p.R,rs,p.Doc,p.az,p.S,p.av,p.Read⟩:Pp)=p:=by rw [← j]
    rw [e]
    refine bj (w3 F hF h h0 (by rw [j];exact List.getElem_mem hi) hf) ?_
    intro p' eE
    refine wpS ?_
    simp only
    rw [eE.rows,j]
    exact ih p' (i+1) (by omega) (by omega) (eE.rows.trans j) (eE.l.trans I) eE.pi eE.r0 eE.r1
   ·refine wpS ?_
    simp only
    exact ih p (i+1) (by omega) (by omega) j I h h0 hn
  ·have:=h.dl
   have:=h.sz
   exact wpS ⟨rfl,rfl,I,h.rd.g,by show (p.R.D.length:Int)≤_;omega,by show (p.R.T.al.length:Int)≤_;omega⟩
end Go.Proofs.Ytcilejikekccmaa.M
namespace Go.Proofs.Ytcilejikekccmaa.M
open Go Am Sy
theorem kn (F:Nat) (c:Int):Wp (gq F c) (fun _=>True):=by
 unfold gq;(repeat' (first | with_reducible refine ay ?_ | (with_reducible refine aw ?_ ?_<;>intro _) | (with_reducible refine aY (by assumption) ?_;intro _ _) | with_reducible refine wpS ?_ | (with_reducible refine bW ?_;omega) | dsimp only))<;>trivial
theorem rQ (F:Nat) (c:Int):Wp (jU F c) (fun _=>True):=by
 unfold jU;(repeat' (first | with_reducible refine ay ?_ | (with_reducible refine aw ?_ ?_<;>intro _) | (with_reducible refine aY (by assumption) ?_;intro _ _) | with_reducible refine wpS ?_ | (with_reducible refine bW ?_;omega) | dsimp only))<;>trivial
theorem A0 (F:Nat) (c:Int):Wp (mY F c) (fun _=>True):=by
 unfold mY;(repeat' (first | with_reducible refine ay ?_ | (with_reducible refine aw ?_ ?_<;>intro _) | (with_reducible refine aY (by assumption) ?_;intro _ _) | with_reducible refine wpS ?_ | (with_reducible refine bW ?_;omega) | dsimp only))<;>trivial
theorem k2 (F:Nat) (B:List UInt8) (i:Int) (h:0≤i) (hn:B.length≤20000):Wp (correctorref2_Break F B i) (fun r=>0≤r∧(0<r→i+r≤B.length)):=by
 unfold correctorref2_Break
 refine aw ?_ ?_<;>intro _
 ·exact wpS (by omega)
 ·have e:af (i+1)=i+1:=a4 (by omega) (by omega)
  simp only [e]
  (repeat' (first | with_reducible refine ay ?_ | (with_reducible refine aw ?_ ?_<;>intro _) | (with_reducible refine aY (by assumption) ?_;intro _ _) | with_reducible refine wpS ?_ | (with_reducible refine bW ?_;omega) | dsimp only))<;>omega
theorem pX (F:Nat) (s:aE) (i:Int) (h:0≤i) (hn:s.B.length≤20000):Wp (jR F s i) (fun _=>True):=by
 unfold jR
 refine aw ?_ ?_<;>intro hi
 ·exact wpS trivial
 ·(repeat' (first | with_reducible refine ay ?_ | (with_reducible refine aw ?_ ?_<;>intro _) | (with_reducible refine aY (by assumption) ?_;intro _ _) | with_reducible refine wpS ?_ | (with_reducible refine bW ?_;omega) | dsimp only))
  refine (kn _ _).mono ?_
  intro r _
  (repeat' (first | with_reducible refine ay ?_ | (with_reducible refine aw ?_ ?_<;>intro _) | (with_reducible refine aY (by assumption) ?_;intro _ _) | with_reducible refine wpS ?_ | (with_reducible refine bW ?_;omega) | dsimp only))
  refine (k2 _ _ _ h hn).mono ?_
  intro r _
  (repeat' (first | with_reducible refine ay ?_ | (with_reducible refine aw ?_ ?_<;>intro _) | (with_reducible refine aY (by assumption) ?_;intro _ _) | with_reducible refine wpS ?_ | (with_reducible refine bW ?_;omega) | dsimp only))<;>trivial
theorem nu (F:Nat) (s:aE) (i:Int):Wp (ib F s i) (fun r=>r≠0→i<s.B.length):=by
 unfold ib
 (repeat' (first | with_reducible refine ay ?_ | (with_reducible refine aw ?_ ?_<;>intro _) | (with_reducible refine aY (by assumption) ?_;intro _ _) | with_reducible refine wpS ?_ | (with_reducible refine bW ?_;omega) | dsimp only))<;>omega
theorem r6 (F:Nat) (s:aE) (i:Int) (h:0≤i∧i≤s.B.length) (hn:s.B.length≤20000):
  Wp (l4 F s i) (fun r=>r=0∨(r=20∨r=21)∧i+3≤s.B.length):=by
 unfold l4
 have e1:af (i+1)=i+1:=a4 (by omega) (by omega)
 have j:af (i+2)=i+2:=a4 (by omega) (by omega)
 have I:af (i+3)=i+3:=a4 (by omega) (by omega)
 simp only [e1,j,I]
 refine ay ((nu F s i).mono ?_)
 intro r _
 (repeat' (first | with_reducible refine ay ?_ | (with_reducible refine aw ?_ ?_<;>intro _) | (with_reducible refine aY (by assumption) ?_;intro _ _) | with_reducible refine wpS ?_ | (with_reducible refine bW ?_;omega) | dsimp only))
 ·omega
 ·refine (pX _ _ _ (by omega) hn).mono ?_
  intro r _
  (repeat' (first | with_reducible refine ay ?_ | (with_reducible refine aw ?_ ?_<;>intro _) | (with_reducible refine aY (by assumption) ?_;intro _ _) | with_reducible refine wpS ?_ | (with_reducible refine bW ?_;omega) | dsimp only))<;>omega
 all_goals omega
def jl (k:Int):Bool:=!(k == 1 || k == 2 || k == 3 || k == 4)
theorem tH (F:Nat) (k:Int):fh F k=some (jl k):=by
 unfold fh jl
 repeat' split
 all_goals simp_all
theorem AO (F:Nat) (s:aE) (k to:Int) (hl:s.L.length≤20000):
  Wp (cS F s k to) (fun r=>r.B=s.B∧r.At=to∧r.Row=s.Row∧r.Open=s.Open∧r.L=s.L++[⟨k,s.At,to⟩]):=by
 unfold cS
 rw [tH]
 refine ay (ay ?_)
 refine Wp.mono (P:=fun _=>True) ?_ ?_
 ·(repeat' (first | with_reducible refine ay ?_ | (with_reducible refine aw ?_ ?_<;>intro _) | (with_reducible refine aY (by assumption) ?_;intro _ _) | with_reducible refine wpS ?_ | (with_reducible refine bW ?_;omega) | dsimp only))<;>trivial
 intro c _
 have e:s.L.length+[(⟨k,s.At,to⟩:ak)].length≤5864062014805:=by simp;omega
 (repeat' (first | with_reducible refine ay ?_ | (with_reducible refine aw ?_ ?_<;>intro _) | (with_reducible refine aY (by assumption) ?_;intro _ _) | with_reducible refine wpS ?_ | (with_reducible refine bW ?_;omega) | dsimp only))
 all_goals first | exact ⟨rfl,rfl,rfl,rfl,rfl⟩ | (exfalso;simp_all;done) | (exfalso;simp_all;omega)
theorem qe (F:Nat) (s:aE) (i:Int) (h:0≤i∧i≤s.B.length) (hn:s.B.length≤20000) (hF:s.B.length<F):
  Wp (fC F s i) (fun r=>i≤r∧r≤s.B.length∧(r=s.B.length∨Wp (correctorref2_Break F s.B r) (fun b=>0<b))):=by
 have key:∀ (m:Nat) (x:Int),i≤x→x≤s.B.length→s.B.length - x<m→Wp (correctorref6_scanner_rowEnd_l0 F s i m x)
   (fun r=>i≤r∧r≤s.B.length∧(r=s.B.length∨Wp (correctorref2_Break F s.B r) (fun b=>0<b))):=by
  intro m
  induction m with
  | zero=>intro x h1 h2 j;omega
  | succ m ih=>
   intro x h1 h2 j
   rw [correctorref6_scanner_rowEnd_l0]
   refine aw ?_ ?_<;>intro hx
   ·refine ay ?_
    obtain ⟨b,hb,I,J⟩:=k2 F s.B x (by omega) hn
    refine ⟨b,hb,?_⟩
    refine aw ?_ ?_<;>intro hz
    ·rw [a4 (by omega) (by omega)]
     exact ih _ (by omega) (by omega) (by omega)
    ·exact wpS ⟨h1,h2, .inr ⟨b,hb,by omega⟩⟩
   ·exact wpS ⟨h1,h2, .inl (by omega)⟩
 unfold fC
 refine ay ((key F i (by omega) (by omega) (by omega)).mono ?_)
 intro a ha
 exact wpS ha
end Go.Proofs.Ytcilejikekccmaa.M
namespace Go.Proofs.Ytcilejikekccmaa.M
open Go Am Sy
theorem ss (F:Nat) (s:aE) (i:Int) (t:Bool) (h:0≤i∧i≤s.B.length) (hn:s.B.length≤20000) (hF:s.B.length<F):
  Wp (lu F s i t) (fun r=>i≤r∧r≤s.B.length):=by
 have key:∀ (m:Nat) (x:Int),i≤x→x≤s.B.length→s.B.length - x<m→Wp (jP F s i t m x)
   (fun r=>i≤r∧r≤s.B.length):=by
  intro m
  induction m with
  | zero=>intro x h1 h2 j;omega
  | succ m ih=>
   intro x h1 h2 j
   have e:x<s.B.length→af (x+1)=x+1:=fun _=>a4 (by omega) (by omega)
   have st:x<s.B.length→Wp (jP F s i t m (af (x+1))) (fun r=>i≤r∧r≤s.B.length):=by
    intro hx;rw [e hx];exact ih _ (by omega) (by omega) (by omega)
   rw [jP]
   refine ay ?_
   refine aw ?_ ?_<;>intro hx
   ·have st:=st hx
    (repeat' (first | with_reducible refine ay ?_ | (with_reducible refine aw ?_ ?_<;>intro _) | (with_reducible refine aY (by assumption) ?_;intro _ _) | with_reducible refine wpS ?_ | (with_reducible refine bW ?_;omega) | dsimp only))
    refine (A0 _ _).mono ?_
    intro r _
    (repeat' (first | with_reducible refine ay ?_ | (with_reducible refine aw ?_ ?_<;>intro _) | (with_reducible refine aY (by assumption) ?_;intro _ _) | with_reducible refine wpS ?_ | (with_reducible refine bW ?_;omega) | dsimp only))
    all_goals first | exact st | omega
   ·exact wpS (wpS ⟨h1,h2⟩)
 unfold lu
 refine ay ((key F i (by omega) (by omega) (by omega)).mono ?_)
 intro a ha
 exact wpS ha
theorem tE (F:Nat) (s:aE) (i:Int) (h:0≤i) (hn:s.B.length≤20000):Wp (la F s i) (fun _=>True):=by
 unfold la
 refine ay ((nu F s i).mono ?_)
 intro r _
 refine aw ?_ ?_<;>intro _
 ·refine aw ?_ ?_<;>intro _
  ·rw [a4 (by omega) (by omega)]
   refine ay ((pX _ _ _ (by omega) hn).mono ?_)
   intro r _
   (repeat' (first | with_reducible refine ay ?_ | (with_reducible refine aw ?_ ?_<;>intro _) | (with_reducible refine aY (by assumption) ?_;intro _ _) | with_reducible refine wpS ?_ | (with_reducible refine bW ?_;omega) | dsimp only))
   refine (nu F s _).mono ?_
   intro r _
   (repeat' (first | with_reducible refine ay ?_ | (with_reducible refine aw ?_ ?_<;>intro _) | (with_reducible refine aY (by assumption) ?_;intro _ _) | with_reducible refine wpS ?_ | (with_reducible refine bW ?_;omega) | dsimp only))
   refine (rQ _ _).mono ?_
   intro r _
   (repeat' (first | with_reducible refine ay ?_ | (with_reducible refine aw ?_ ?_<;>intro _) | (with_reducible refine aY (by assumption) ?_;intro _ _) | with_reducible refine wpS ?_ | (with_reducible refine bW ?_;omega) | dsimp only))
  ·exact wpS trivial
 ·exact wpS trivial
theorem BG (F:Nat) (s:aE) (i e:Int) (h:0≤i∧i≤e∧e≤s.B.length) (hn:s.B.length≤20000) (hF:s.B.length<F):
  Wp (mR F s i e) (fun r=>i≤r∧r≤e):=by
 have key:∀ (m:Nat) (x:Int),i≤x→x≤e→e - x<m→Wp (correctorref6_scanner_single_l0 F s i e m x)
   (fun r=>∀ y,r= .inr y→i≤y∧y≤e):=by
  intro m
  induction m with
  | zero=>intro x h1 h2 j;omega
  | succ m ih=>
   intro x h1 h2 j
   rw [correctorref6_scanner_single_l0]
   refine aw ?_ ?_<;>intro hx
   ·have e1:af (x+1)=x+1:=a4 (by omega) (by omega)
    have I:af (x+2)=x+2:=a4 (by omega) (by omega)
    simp only [e1,I]
    (repeat' (first | with_reducible refine ay ?_ | (with_reducible refine aw ?_ ?_<;>intro _) | (with_reducible refine aY (by assumption) ?_;intro _ _) | with_reducible refine wpS ?_ | (with_reducible refine bW ?_;omega) | dsimp only))
    ·exact ih _ (by omega) (by omega) (by omega)
    ·intro y hy;cases hy;omega
    ·intro y hy;cases hy;omega
    ·exact ih _ (by omega) (by omega) (by omega)
   ·exact wpS (fun y hy=>by cases hy)
 unfold mR
 refine ay ((key F i (by omega) (by omega) (by omega)).mono ?_)
 intro a ha
 rcases a with _ | y
 ·exact wpS ⟨h.2.1,Int.le_refl _⟩
 ·exact wpS (ha y rfl)
theorem BA (F:Nat) (s:aE) (i e:Int) (h:0≤i∧i≤e∧e≤s.B.length) (hn:s.B.length≤20000) (hF:s.B.length+2<F):
  Wp (mh F s i e) (fun r=>i≤r):=by
 have key:∀ (m:Nat) (x:Int),i≤x→x≤e+1→e+1 - x<m→Wp (lU F s i e m x)
   (fun r=>∀ y,r= .inr y→i≤y):=by
  intro m
  induction m with
  | zero=>intro x h1 h2 j;omega
  | succ m ih=>
   intro x h1 h2 j
   rw [lU]
   refine aw ?_ ?_<;>intro hx
   ·have e1:af (x+1)=x+1:=a4 (by omega) (by omega)
    have I:af (x+1+1)=x+1+1:=a4 (by omega) (by omega)
    (repeat' (first | with_reducible refine ay ?_ | (with_reducible refine aw ?_ ?_<;>intro _) | (with_reducible refine aY (by assumption) ?_;intro _ _) | with_reducible refine wpS ?_ | (with_reducible refine bW ?_;omega) | dsimp only))
    ·intro y hy;cases hy;omega
    ·rw [e1,I];exact ih _ (by omega) (by omega) (by omega)
    ·rw [e1];exact ih _ (by omega) (by omega) (by omega)
   ·exact wpS (fun y hy=>by cases hy)
 unfold mh
 refine ay ((key F i (by omega) (by omega) (by omega)).mono ?_)
 intro a ha
 rcases a with _ | y
 ·exact wpS h.2.1
 ·exact wpS (ha y rfl)
theorem vB (F:Nat) (s:aE) (h:0≤s.At∧s.At<s.B.length) (hn:s.B.length≤20000) (hF:s.B.length+2<F):
  Wp (hU F s) (fun r=>0≤r∧s.At+r≤s.B.length):=by
 have key:∀ (j:Int),s.At≤j→j≤s.B.length→∀ (m:Nat) (x:Int),j≤x→x≤s.B.length→s.B.length - x<m→Wp (gU F s m j x)
   (fun r=>r.1=j∧j≤r.2∧r.2≤s.B.length):=by
  intro j J U m
  induction m with
  | zero=>intro x h1 h2 ad;omega
  | succ m ih=>
   intro x h1 h2 ad
   rw [gU]
   refine aw ?_ ?_<;>intro hx
   ·have e1:af (x+1)=x+1:=a4 (by omega) (by omega)
    rw [e1]
    (repeat' (first | with_reducible refine ay ?_ | (with_reducible refine aw ?_ ?_<;>intro _) | (with_reducible refine aY (by assumption) ?_;intro _ _) | with_reducible refine wpS ?_ | (with_reducible refine bW ?_;omega) | dsimp only))
    refine (kn _ _).mono ?_
    intro r _
    (repeat' (first | with_reducible refine ay ?_ | (with_reducible refine aw ?_ ?_<;>intro _) | (with_reducible refine aY (by assumption) ?_;intro _ _) | with_reducible refine wpS ?_ | (with_reducible refine bW ?_;omega) | dsimp only))
    ·exact ih _ (by omega) (by omega) (by omega)
    ·exact ⟨rfl,h1,h2⟩
   ·exact wpS ⟨rfl,h1,h2⟩
 have e1:af (s.At+1)=s.At+1:=a4 (by omega) (by omega)
 have ae:af (s.At+1+1)=s.At+1+1:=a4 (by omega) (by omega)
 have tail:∀ j:Int,s.At≤j→j≤s.B.length→Wp ((gU F s F j j).bind fun o=>match o with
     | (aa,I)=>((if I<(s.B.length:Int) then
       (correctorref2_Break F s.B I).bind fun ag=>
       if ag=(0:Int) then
        if 0≤I∧I<(s.B.length:Int) then
         (s.B[I.toNat]?).bind fun ah=>
         if (ah.toNat:Int)=(35:Int) then
          if aa<I then
           some (.inl ())
          else
           some (.inr 0)
         else
          some (.inr 0)
        else none
       else
        some (.inl ())
      else
       some (.inl ())):Option (Sum Unit Int)).bind fun o=>match o with
      | .inl ()=>some (af (aa - s.At))
      | .inr y=>some y) (fun r=>0≤r∧s.At+r≤s.B.length):=by
  intro j J U
  refine ay ((key j J U F j (by omega) (by omega) (by omega)).mono ?_)
  rintro ⟨a,b⟩ ⟨ab,ai,aj⟩
  dsimp only at ab ai aj ⊢
  subst ab
  have al:af (a - s.At)=a - s.At:=a4 (by omega) (by omega)
  rw [al]
  refine ay ?_
  refine aw ?_ ?_<;>intro hx
  ·refine ay ((k2 _ _ _ (by omega) hn).mono ?_)
   intro r _
   (repeat' (first | with_reducible refine ay ?_ | (with_reducible refine aw ?_ ?_<;>intro _) | (with_reducible refine aY (by assumption) ?_;intro _ _) | with_reducible refine wpS ?_ | (with_reducible refine bW ?_;omega) | dsimp only))<;>omega
  ·exact wpS (wpS (by omega))
 unfold hU
 simp only [e1,ae]
 refine aw ?_ ?_<;>intro hx
 ·refine ay (aY hx ?_)
  intro c hc
  refine ay ?_
  refine Wp.mono (P:=fun r=>∀ y,r= .inr y→y=0) ?_ ?_
  ·(repeat' (first | with_reducible refine ay ?_ | (with_reducible refine aw ?_ ?_<;>intro _) | (with_reducible refine aY (by assumption) ?_;intro _ _) | with_reducible refine wpS ?_ | (with_reducible refine bW ?_;omega) | dsimp only))
   all_goals intro y hy;cases hy
   all_goals rfl
  intro a ha
  rcases a with _ | y
  ·dsimp only
   refine ay ?_
   refine Wp.mono (P:=fun r=>s.At≤r∧r≤s.B.length) ?_ ?_
   ·refine ay ((nu F s _).mono ?_)
    intro r hr
    (repeat' (first | with_reducible refine ay ?_ | (with_reducible refine aw ?_ ?_<;>intro _) | (with_reducible refine aY (by assumption) ?_;intro _ _) | with_reducible refine wpS ?_ | (with_reducible refine bW ?_;omega) | dsimp only))
    ·omega
    ·refine (nu F s _).mono ?_
     intro r' ng
     (repeat' (first | with_reducible refine ay ?_ | (with_reducible refine aw ?_ ?_<;>intro _) | (with_reducible refine aY (by assumption) ?_;intro _ _) | with_reducible refine wpS ?_ | (with_reducible refine bW ?_;omega) | dsimp only))<;>omega
   ·intro j hj
    exact tail j hj.1 hj.2
  ·have:=ha y rfl
   subst this
   exact wpS (by omega)
 ·omega
end Go.Proofs.Ytcilejikekccmaa.M
namespace Go.Proofs.Ytcilejikekccmaa.M
open Go Am Sy
theorem zh (F:Nat) (b:List UInt8) (n x low:Int) (h:1≤n∧n≤4) (hF:10<F):Wp (jh F b n x low) (fun r=>r.2=1∨(1≤r.2∧r.2≤b.length)):=by
 have key:n≤b.length→∀ (m:Nat) (v i:Int),1≤i→i≤n→n - i<m→Wp (correctorref1_sign_l0 F b n x low m v i)
   (fun r=>∀ y,r= .inr y→y.2=1):=by
  intro hn m
  induction m with
  | zero=>intro v i h1 h2 j;omega
  | succ m ih=>
   intro v i h1 h2 j
   rw [correctorref1_sign_l0]
   refine aw ?_ ?_<;>intro hx
   ·have e1:af (i+1)=i+1:=a4 (by omega) (by omega)
    rw [e1]
    (repeat' (first | with_reducible refine ay ?_ | (with_reducible refine aw ?_ ?_<;>intro _) | (with_reducible refine aY (by assumption) ?_;intro _ _) | with_reducible refine wpS ?_ | (with_reducible refine bW ?_;omega) | dsimp only))
    ·intro y hy;cases hy;rfl
    ·intro y hy;cases hy;rfl
    ·exact ih _ _ (by omega) (by omega) (by omega)
   ·exact wpS (fun y hy=>by cases hy)
 unfold jh
 refine aw ?_ ?_<;>intro hx
 ·exact wpS (.inl rfl)
 ·refine ay ((key (by omega) F x 1 (by omega) (by omega) (by omega)).mono ?_)
  intro a ha
  rcases a with v | y
  ·(repeat' (first | with_reducible refine ay ?_ | (with_reducible refine aw ?_ ?_<;>intro _) | (with_reducible refine aY (by assumption) ?_;intro _ _) | with_reducible refine wpS ?_ | (with_reducible refine bW ?_;omega) | dsimp only))
   all_goals first | exact .inl rfl | exact .inr ⟨h.1,by omega⟩
  ·exact wpS (.inl (ha y rfl))
theorem o6 (F:Nat) (b:List UInt8) (hb:0<b.length) (hF:10<F):Wp (ji F b) (fun r=>1≤r.2∧r.2≤b.length):=by
 unfold ji
 rw [if_neg (by omega)]
 refine aw ?_ ?_<;>intro h0
 ·refine ay (aY h0 ?_)
  intro c hc
  refine ay ?_
  have sg:∀ n x low,1≤n∧n≤4→Wp (jh F b n x low) (fun r=>1≤r.2∧r.2≤b.length):=
   fun n x low h=>(zh F b n x low h hF).mono (fun r hr=>by omega)
  (repeat' (first | with_reducible refine ay ?_ | (with_reducible refine aw ?_ ?_<;>intro _) | (with_reducible refine aY (by assumption) ?_;intro _ _) | with_reducible refine wpS ?_ | (with_reducible refine bW ?_;omega) | dsimp only))
  all_goals first
   | omega
   | (exfalso;simp_all;done)
   | (refine (sg 2 _ _ (by omega)).mono ?_;intro r hr;(repeat' (first | with_reducible refine ay ?_ | (with_reducible refine aw ?_ ?_<;>intro _) | (with_reducible refine aY (by assumption) ?_;intro _ _) | with_reducible refine wpS ?_ | (with_reducible refine bW ?_;omega) | dsimp only));exact hr)
   | (refine (sg 3 _ _ (by omega)).mono ?_;intro r hr;(repeat' (first | with_reducible refine ay ?_ | (with_reducible refine aw ?_ ?_<;>intro _) | (with_reducible refine aY (by assumption) ?_;intro _ _) | with_reducible refine wpS ?_ | (with_reducible refine bW ?_;omega) | dsimp only));exact hr)
   | (refine (sg 4 _ _ (by omega)).mono ?_;intro r hr;(repeat' (first | with_reducible refine ay ?_ | (with_reducible refine aw ?_ ?_<;>intro _) | (with_reducible refine aY (by assumption) ?_;intro _ _) | with_reducible refine wpS ?_ | (with_reducible refine bW ?_;omega) | dsimp only));exact hr)
 ·omega
theorem zo (F:Nat) (s:aE) (h:0≤s.At∧s.At<s.B.length) (hn:s.B.length≤20000) (hF:s.B.length+10<F):
  Wp (nK F s) (fun r=>s.At<r∧r≤s.B.length):=by
 have k0:∀ (m:Nat) (x:Int),s.At<x→x≤s.B.length→s.B.length - x<m→Wp (kj F s m x)
   (fun r=>s.At<r∧r≤s.B.length):=by
  intro m
  induction m with
  | zero=>intro x h1 h2 j;omega
  | succ m ih=>
   intro x h1 h2 j
   rw [kj]
   refine aw ?_ ?_<;>intro hx
   ·refine aw ?_ ?_<;>intro hy
    ·have e1:af (x - 1)=x - 1:=a4 (by omega) (by omega)
     rw [e1]
     refine ay ((o6 F _ (by simp;omega) (by omega)).mono ?_)
     intro r hr
     have hl:((s.B.take (s.B.length:Int).toNat).drop x.toNat).length=s.B.length - x.toNat:=by simp
     rw [hl] at hr
     have st:Wp (kj F s m (af (x+r.2))) (fun r=>s.At<r∧r≤s.B.length):=by
      rw [a4 (by omega) (by omega)]
      exact ih _ (by omega) (by omega) (by omega)
     refine ay ?_
     refine Wp.mono (P:=fun r=>r= .inl ()∨r= .inr x) ?_ ?_
     ·(repeat' (first | with_reducible refine ay ?_ | (with_reducible refine aw ?_ ?_<;>intro _) | (with_reducible refine aY (by assumption) ?_;intro _ _) | with_reducible refine wpS ?_ | (with_reducible refine bW ?_;omega) | dsimp only))
      ·exact .inr rfl
      ·refine (k2 _ _ _ (by omega) hn).mono ?_
       intro r _
       (repeat' (first | with_reducible refine ay ?_ | (with_reducible refine aw ?_ ?_<;>intro _) | (with_reducible refine aY (by assumption) ?_;intro _ _) | with_reducible refine wpS ?_ | (with_reducible refine bW ?_;omega) | dsimp only))
       ·exact .inr rfl
       ·refine (tE _ _ _ (by omega) hn).mono ?_
        intro r _
        (repeat' (first | with_reducible refine ay ?_ | (with_reducible refine aw ?_ ?_<;>intro _) | (with_reducible refine aY (by assumption) ?_;intro _ _) | with_reducible refine wpS ?_ | (with_reducible refine bW ?_;omega) | dsimp only))
        ·exact .inr rfl
        ·refine (kn _ _).mono ?_
         intro r _
         (repeat' (first | with_reducible refine ay ?_ | (with_reducible refine aw ?_ ?_<;>intro _) | (with_reducible refine aY (by assumption) ?_;intro _ _) | with_reducible refine wpS ?_ | (with_reducible refine bW ?_;omega) | dsimp only))
         ·exact .inr rfl
         ·refine (rQ _ _).mono ?_
          intro r _
          (repeat' (first | with_reducible refine ay ?_ | (with_reducible refine aw ?_ ?_<;>intro _) | (with_reducible refine aY (by assumption) ?_;intro _ _) | with_reducible refine wpS ?_ | (with_reducible refine bW ?_;omega) | dsimp only))
          ·exact .inr rfl
          ·exact .inl rfl
         ·exact .inl rfl
        ·refine (rQ _ _).mono ?_
         intro r _
         (repeat' (first | with_reducible refine ay ?_ | (with_reducible refine aw ?_ ?_<;>intro _) | (with_reducible refine aY (by assumption) ?_;intro _ _) | with_reducible refine wpS ?_ | (with_reducible refine bW ?_;omega) | dsimp only))
         ·exact .inr rfl
         ·exact .inl rfl
        ·exact .inl rfl
     ·intro a ha
      rcases ha with rfl | rfl
      ·exact st
      ·exact wpS ⟨h1,h2⟩
    ·omega
   ·exact wpS ⟨h1,h2⟩
 have I:∀ (m:Nat) (x:Int),s.At<x→x≤s.B.length→x - s.At<m→Wp (k4 F s m x)
   (fun r=>s.At<r∧r≤s.B.length):=by
  intro m
  induction m with
  | zero=>intro x h1 h2 j;omega
  | succ m ih=>
   intro x h1 h2 j
   rw [k4]
   have e1:af (x - 1)=x - 1:=a4 (by omega) (by omega)
   have J:af (s.At+1)=s.At+1:=a4 (by omega) (by omega)
   rw [e1,J]
   (repeat' (first | with_reducible refine ay ?_ | (with_reducible refine aw ?_ ?_<;>intro _) | (with_reducible refine aY (by assumption) ?_;intro _ _) | with_reducible refine wpS ?_ | (with_reducible refine bW ?_;omega) | dsimp only))
   ·refine (kn _ _).mono ?_
    intro r _
    (repeat' (first | with_reducible refine ay ?_ | (with_reducible refine aw ?_ ?_<;>intro _) | (with_reducible refine aY (by assumption) ?_;intro _ _) | with_reducible refine wpS ?_ | (with_reducible refine bW ?_;omega) | dsimp only))
    ·exact ih _ (by omega) (by omega) (by omega)
    ·exact ⟨h1,h2⟩
   ·exact ⟨h1,h2⟩
 unfold nK
 refine aw ?_ ?_<;>intro hx
 ·refine ay ((o6 F _ (by simp;omega) (by omega)).mono ?_)
  intro r hr
  have hl:((s.B.take (s.B.length:Int).toNat).drop s.At.toNat).length=s.B.length - s.At.toNat:=by simp
  rw [hl] at hr
  rw [a4 (by omega) (by omega)]
  refine ay ((k0 F _ (by omega) (by omega) (by omega)).mono ?_)
  intro a ha
  refine ay ((I F _ ha.1 ha.2 (by omega)).mono ?_)
  intro a ha
  exact wpS ha
 ·omega
def Ends (l:List ak):Prop:=l=[]∨∃ p t,l=p++[t]∧(t.Kind=1∨t.Kind=19)
def gi (l:List ak) (k:Int):Prop:=∃ p t,l=p++[t]∧t.Kind=k
inductive Tk (n:Int):List ak→Int→Prop
 | nil:Tk n [] 0
 | snoc {l:List ak} {mn:Int} (k to:Int):Tk n l mn→mn<to→to≤n→(k=2∨k=20∨k=21→Ends l)→(gi l 4→k=1)→0<k→Tk n (l++[⟨k,mn,to⟩]) to
theorem Tk.bounds {n:Int} {l:List ak} {a:Int} (h:Tk n l a):(l.length:Int)≤a∧(0<a→l≠[]):=by
 induction h with
 | nil=>simp
 | snoc k to h1 h2 j I J U ih=>simp;omega
structure SI (F:Nat) (B:List UInt8) (s:aE):Prop where
 b:s.B=B
 r:0≤s.Row∧s.Row≤s.At∧s.At≤B.length
 o:0≤s.Open∧s.Open≤s.At
 t:Tk B.length s.L s.At
 w:s.At=s.Row→Ends s.L
 c:gi s.L 4→s.At=B.length∨Wp (correctorref2_Break F B s.At) (fun b=>0<b)
theorem SI.ll {F:Nat} {B:List UInt8} {s:aE} (h:SI F B s) (hn:B.length≤20000):s.L.length≤20000:=by
 have:=h.t.bounds.1;have:=h.r;omega
theorem qL (l:List ak) (t:ak) (k:Int):gi (l++[t]) k↔t.Kind=k:=by
 constructor
 ·rintro ⟨p,t',h,h1⟩
  have:=List.append_inj_right' h rfl
  simp at this;subst this;exact h1
 ·intro h;exact ⟨l,t,rfl,h⟩
theorem SI.add {F:Nat} {B:List UInt8} {s r:aE} {k to:Int} (h:SI F B s)
  (hr:r.B=s.B∧r.At=to∧r.Row=s.Row∧r.Open=s.Open∧r.L=s.L++[⟨k,s.At,to⟩])
  (h1:s.At<to) (h2:to≤B.length) (U:k=2∨k=20∨k=21→s.At=s.Row)
  (aa:k≠1→¬ gi s.L 4)
  (ab:k=4→to=B.length∨Wp (correctorref2_Break F B to) (fun b=>0<b)) (ad:0<k):SI F B r:=by
 obtain ⟨e1,j,I,ae,J⟩:=hr
 have hR:=h.r
 have hO:=h.o
 refine ⟨by rw [e1,h.b],by rw [j,I];omega,by rw [j,ae];omega,?_,by rw [j,I];omega,?_⟩
 ·rw [J,j]
  refine .snoc k to h.t h1 h2 (fun q=>h.w (U q)) ?_ ad
  intro q
  by_cases hk:k=1
  ·exact hk
  ·exact absurd q (aa hk)
 ·rw [J,j,qL]
  exact ab
theorem SI.jW {F:Nat} {B:List UInt8} {s:aE} (h:SI F B s) (h1:s.At<B.length) (h2:Wp (correctorref2_Break F B s.At) (fun b=>b=0)):¬ gi s.L 4:=by
 intro q
 obtain ⟨b,I,J⟩:=h2
 rcases h.c q with j | ⟨b',j,U⟩
 ·omega
 ·rw [I] at j;injection j;omega
theorem Ends.jW {l:List ak} (h:Ends l):¬ gi l 4:=by
 rcases h with rfl | ⟨p,t,rfl,h⟩
 ·rintro ⟨p,t,h,_⟩;simp at h
 ·rw [qL];omega
theorem SI.re {F:Nat} {B:List UInt8} {s:aE} (h:SI F B s) (o base text:Int) (only:Bool) (ho:0≤o∧o≤s.At):
  SI F B ⟨s.B,s.At,s.Row,o,base,only,text,s.L⟩:=⟨h.b,h.r,ho,h.t,h.w,h.c⟩
theorem SI.row {F:Nat} {B:List UInt8} {s:aE} (h:SI F B s) (he:Ends s.L) (base text:Int) (only:Bool):
  SI F B ⟨s.B,s.At,s.At,s.Open,base,only,text,s.L⟩:=by
 have:=h.r
 exact ⟨h.b,by dsimp only;omega,h.o,h.t,fun _=>he,h.c⟩
theorem iD {F:Nat} {B:List UInt8} {s:aE} (h:SI F B s) (hn:B.length≤20000) (k to:Int)
  (h1:s.At<to) (h2:to≤B.length) (j:k=2∨k=20∨k=21→s.At=s.Row)
  (I:k≠1→¬ gi s.L 4)
  (J:k=4→to=B.length∨Wp (correctorref2_Break F B to) (fun b=>0<b)) (U:0<k:=by omega):
  Wp (cS F s k to) (fun r=>SI F B r∧r.At=to∧r.Row=s.Row∧r.Open=s.Open∧gi r.L k):=by
 refine (AO F s k to (h.ll hn)).mono ?_
 intro r hr
 refine ⟨h.add hr h1 h2 j I J U,hr.2.1,hr.2.2.1,hr.2.2.2.1,?_⟩
 rw [hr.2.2.2.2,qL]
end Go.Proofs.Ytcilejikekccmaa.M
namespace Go.Proofs.Ytcilejikekccmaa.M
open Go Am Sy
theorem rL {l:List ak} {k:Int} (h:gi l k) (hk:k=1∨k=19):Ends l:=by
 obtain ⟨p,t,rfl,h⟩:=h
 exact .inr ⟨p,t,rfl,by omega⟩
theorem xx (F:Nat) (a s:aE) (e:Int) (hn:s.B.length≤20000) (he:e≤s.B.length):∀ (m:Nat) (x:Int),0≤x→x≤e→e - x<m→
  Wp (correctorref6_scanner_texts_l1 F a m s e x) (fun r=>r.1=s∧r.2.1=e∧x≤r.2.2∧r.2.2≤e):=by
 intro m
 induction m with
 | zero=>intro x h1 h2 j;omega
 | succ m ih=>
  intro x h1 h2 j
  rw [correctorref6_scanner_texts_l1]
  refine aw ?_ ?_<;>intro hx
  ·rw [a4 (by omega) (by omega)]
   (repeat' (first | with_reducible refine ay ?_ | (with_reducible refine aw ?_ ?_<;>intro _) | (with_reducible refine aY (by assumption) ?_;intro _ _) | with_reducible refine wpS ?_ | (with_reducible refine bW ?_;omega) | dsimp only))
   ·refine (ih _ (by omega) (by omega) (by omega)).mono ?_
    intro r hr;exact ⟨hr.1,hr.2.1,by omega,hr.2.2.2⟩
   ·exact ⟨rfl,rfl,Int.le_refl _,h2⟩
  ·exact wpS ⟨rfl,rfl,Int.le_refl _,h2⟩
theorem BY (F:Nat) (a s:aE) (e j:Int) (hn:s.B.length≤20000) (he:e≤s.B.length):∀ (m:Nat) (x:Int),0≤x→x≤e→e - x<m→
  Wp (correctorref6_scanner_texts_l2 F a m s e j x) (fun r=>r.1=s∧r.2.1=e∧r.2.2.1=j∧x≤r.2.2.2∧r.2.2.2≤e):=by
 intro m
 induction m with
 | zero=>intro x h1 h2 I;omega
 | succ m ih=>
  intro x h1 h2 I
  rw [correctorref6_scanner_texts_l2]
  refine aw ?_ ?_<;>intro hx
  ·rw [a4 (by omega) (by omega)]
   (repeat' (first | with_reducible refine ay ?_ | (with_reducible refine aw ?_ ?_<;>intro _) | (with_reducible refine aY (by assumption) ?_;intro _ _) | with_reducible refine wpS ?_ | (with_reducible refine bW ?_;omega) | dsimp only))
   refine (kn _ _).mono ?_
   intro r _
   (repeat' (first | with_reducible refine ay ?_ | (with_reducible refine aw ?_ ?_<;>intro _) | (with_reducible refine aY (by assumption) ?_;intro _ _) | with_reducible refine wpS ?_ | (with_reducible refine bW ?_;omega) | dsimp only))
   ·refine (ih _ (by omega) (by omega) (by omega)).mono ?_
    intro r hr;exact ⟨hr.1,hr.2.1,hr.2.2.1,by omega,hr.2.2.2.2⟩
   ·exact ⟨rfl,rfl,rfl,Int.le_refl _,h2⟩
  ·exact wpS ⟨rfl,rfl,rfl,Int.le_refl _,h2⟩
theorem C8 (F:Nat) (B:List UInt8) (a:aE) (h:SI F B a) (he:Ends a.L) (hn:B.length≤20000) (hF:B.length+10<F):
  Wp (nT F a) (fun r=>SI F B r∧a.At≤r.At):=by
 have key:∀ (m:Nat) (s:aE),SI F B s→Ends s.L→a.At≤s.At→B.length - s.At<m→
   Wp (correctorref6_scanner_texts_l0 F a m s) (fun r=>∃ q,(r= .inl q∨r= .inr q)∧SI F B q∧a.At≤q.At):=by
  intro m
  induction m with
  | zero=>intro s h1 h2 I ag;have:=h1.r;omega
  | succ m ih=>
   intro s h1 h2 I ag
   have hb:=h1.b
   have hr:=h1.r
   rw [correctorref6_scanner_texts_l0,hb]
   refine aw ?_ ?_<;>intro hx
   ·refine ay ((r6 F s s.At (by rw [hb];omega) (by rw [hb];exact hn)).mono ?_)
    intro mk _
    refine aw ?_ ?_<;>intro hm
    ·refine ay ((qe F s s.At (by rw [hb];omega) (by rw [hb];exact hn) (by rw [hb];omega)).mono ?_)
     rintro e ⟨e1,ah,j⟩
     rw [hb] at ah j
     refine ay ((xx F a s e (by rw [hb];exact hn) (by rw [hb];omega) F s.At (by omega) (by omega) (by omega)).mono ?_)
     rintro ⟨s1,e',J⟩ ⟨U,aa,ai,aj⟩
     dsimp only at U aa ai aj ⊢
     subst U aa
     refine ay ((BY F a s1 e' J (by rw [hb];exact hn) (by rw [hb];omega) F J (by omega) (by omega) (by omega)).mono ?_)
     rintro ⟨s2,oq,aq,ar⟩ ⟨ab,ad,ae,al,an⟩
     dsimp only at ab ad ae al an ⊢
     subst ab ad ae
     refine ay ?_
     refine Wp.mono (P:=fun r=>r= .inl s2∨r= .inr s2) ?_ ?_
     ·(repeat' (first | with_reducible refine ay ?_ | (with_reducible refine aw ?_ ?_<;>intro _) | (with_reducible refine aY (by assumption) ?_;intro _ _) | with_reducible refine wpS ?_ | (with_reducible refine bW ?_;omega) | dsimp only))
      all_goals first | exact .inl rfl | exact .inr rfl
     rintro r (rfl | rfl)
     ·dsimp only
      rw [hb]
      refine ay ?_
      obtain ⟨b,gu,au,ao⟩:=k2 F B oq (by omega) hn
      refine (wpE gu ?_)
      have yI:s2.At<oq+b:=by
       rcases j with j | ⟨b',j,av⟩
       ·omega
       ·rw [gu] at j;injection j;omega
      have nE:oq+b≤B.length:=by
       by_cases hz:0<b
       ·exact ao hz
       ·omega
      rw [a4 (by omega) (by omega)]
      refine ay ((iD h1 hn 19 (oq+b) yI nE (by omega) (fun _=>h2.jW) (by omega)).mono ?_)
      rintro r ⟨r1,ax,az,aA,af⟩
      refine ay (wpS ?_)
      exact ih _ (r1.row (rL af (.inr rfl)) _ _ _) (rL af (.inr rfl)) (by dsimp only;omega) (by dsimp only;omega)
     ·exact wpS ⟨s2, .inr rfl,h1,I⟩
    ·exact wpS ⟨s, .inl rfl,h1,I⟩
   ·exact wpS ⟨s, .inl rfl,h1,I⟩
 unfold nT
 refine ay ((key F _ (h.re a.Open a.bT (-2) a.cg h.o) he (Int.le_refl _) (by have:=h.r;dsimp only;omega)).mono ?_)
 rintro r ⟨q,rfl | rfl,h1,h2⟩
 ·exact wpS ⟨h1,h2⟩
 ·exact wpS ⟨h1,h2⟩
theorem vz (F:Nat) (s:aE) (hn:s.B.length≤20000):∀ (m:Nat) (x:Int),0≤x→x≤s.B.length→s.B.length - x<m→
  Wp (lD F s m x) (fun r=>x≤r∧r≤s.B.length∧(∀ c,s.B[x.toNat]?=some c→(c.toNat:Int)=32→x<r)):=by
 intro m
 induction m with
 | zero=>intro x h1 h2 j;omega
 | succ m ih=>
  intro x h1 h2 j
  rw [lD]
  refine aw ?_ ?_<;>intro hx
  ·rw [a4 (by omega) (by omega)]
   refine aw ?_ ?_<;>intro hy
   ·refine ay (aY hy ?_)
    intro c hc
    refine aw ?_ ?_<;>intro hz
    ·refine (ih _ (by omega) (by omega) (by omega)).mono ?_
     intro r hr
     exact ⟨by omega,hr.2.1,fun _ _ _=>by omega⟩
    ·refine wpS ⟨Int.le_refl _,h2,?_⟩
     intro c' dI h'
     rw [hc] at dI;injection dI with dI;subst dI;exact absurd h' hz
   ·omega
  ·refine wpS ⟨Int.le_refl _,h2,?_⟩
   intro c' dI h'
   have:s.B[x.toNat]?=none:=by simp;omega
   rw [this] at dI;cases dI
theorem DH (F:Nat) (s:aE) (hn:s.B.length≤20000):∀ (m:Nat) (x:Int),0≤x→x≤s.B.length→s.B.length - x<m→
  Wp (ln F s m x) (fun r=>x≤r∧r≤s.B.length∧(∀ c,s.B[x.toNat]?=some c→gq F (c.toNat:Int)=some true→x<r)):=by
 intro m
 induction m with
 | zero=>intro x h1 h2 j;omega
 | succ m ih=>
  intro x h1 h2 j
  rw [ln]
  refine aw ?_ ?_<;>intro hx
  ·rw [a4 (by omega) (by omega)]
   refine aw ?_ ?_<;>intro hy
   ·refine ay (aY hy ?_)
    intro c hc
    obtain ⟨bl,fO,_⟩:=kn F (c.toNat:Int)
    refine ay (wpE fO ?_)
    refine aw ?_ ?_<;>intro hz
    ·refine (ih _ (by omega) (by omega) (by omega)).mono ?_
     intro r hr
     exact ⟨by omega,hr.2.1,fun _ _ _=>by omega⟩
    ·refine wpS ⟨Int.le_refl _,h2,?_⟩
     intro c' dI h'
     rw [hc] at dI;injection dI with dI;subst dI
     rw [fO] at h';injection h' with h';exact absurd h' hz
   ·omega
  ·refine wpS ⟨Int.le_refl _,h2,?_⟩
   intro c' dI h'
   have:s.B[x.toNat]?=none:=by simp;omega
   rw [this] at dI;cases dI
theorem D4 (F:Nat) (B:List UInt8) (s:aE) (h:SI F B s) (hx:s.At<B.length) (hn:B.length≤20000) (hF:B.length+10<F):
  Wp (mC F s) (fun r=>(r.1=true∧SI F B r.2∧s.At<r.2.At)∨(r.1=false∧r.2=s∧Wp (correctorref2_Break F B s.At) (fun b=>b=0))):=by
 have hb:=h.b
 have hr:=h.r
 unfold mC
 rw [hb]
 refine aw ?_ ?_<;>intro hy
 ·refine ay (aY hy ?_)
  intro c hc
  obtain ⟨b,gu,aj,ag⟩:=k2 F B s.At (by omega) hn
  refine ay (wpE gu ?_)
  refine aw ?_ ?_<;>intro hz
  ·have:=ag hz
   rw [a4 (by omega) (by omega)]
   refine ay ((iD h hn 1 (s.At+b) (by omega) (by omega) (by omega) (by omega) (by omega)).mono ?_)
   rintro r ⟨r1,aa,al,an,ah⟩
   have he:=rL ah (.inl rfl)
   refine ay (wpS ?_)
   refine ay ?_
   refine Wp.mono (P:=fun q=>SI F B q∧r.At≤q.At) ?_ ?_
   ·refine aw ?_ ?_<;>intro _
    ·refine ay ((C8 F B _ (r1.row he _ _ _) he hn hF).mono ?_)
     intro q hq;exact wpS hq
    ·exact wpS ⟨r1.row he _ _ _,Int.le_refl _⟩
   ·rintro q ⟨J,U⟩
    exact wpS (.inl ⟨rfl,J,by dsimp only;omega⟩)
  ·have af:Wp (correctorref2_Break F B s.At) (fun b=>b=0):=⟨b,gu,by omega⟩
   have ab:=h.jW hx af
   have zx:Wp ((fC F s s.At).bind fun ad=>(cS F s 4 ad)) (fun r=>SI F B r∧s.At<r.At):=by
    refine ay ((qe F s s.At (by rw [hb];omega) (by rw [hb];exact hn) (by rw [hb];omega)).mono ?_)
    rintro e ⟨e1,I,j⟩
    rw [hb] at I j
    have:s.At<e:=by
     rcases j with j | ⟨b',j,ao⟩
     ·omega
     ·by_cases hh:e=s.At
      ·rw [hh,gu] at j;injection j;omega
      ·omega
    refine (iD h hn 4 e this I (by omega) (fun _=>ab) (fun _=>j)).mono ?_
    rintro r ⟨r1,aa,_⟩
    exact ⟨r1,by omega⟩
   refine ay ?_
   refine Wp.mono (P:=fun r=>r=true→s.At=s.Row∧(c.toNat:Int)=32) ?_ ?_
   ·(repeat' (first | with_reducible refine ay ?_ | (with_reducible refine aw ?_ ?_<;>intro _) | (with_reducible refine aY (by assumption) ?_;intro _ _) | with_reducible refine wpS ?_ | (with_reducible refine bW ?_;omega) | dsimp only))
    ·exact fun _=>⟨by assumption,by assumption⟩
    all_goals (intro hh;cases hh)
   intro r uM
   refine aw ?_ ?_<;>intro hw
   ·obtain ⟨w1,w2⟩:=uM hw
    have:=vz F s (by rw [hb];exact hn) F s.At (by omega) (by rw [hb];omega) (by rw [hb];omega)
    rw [hb] at this
    refine ay (this.mono ?_)
    rintro e ⟨e1,I,j⟩
    refine ay ((iD h hn 2 e (j c hc w2) I (fun _=>w1) (fun _=>ab) (by omega)).mono ?_)
    rintro r ⟨r1,aa,_⟩
    have:=j c hc w2
    exact wpS (.inl ⟨rfl,r1,by dsimp only;omega⟩)
   ·obtain ⟨bl,fO,_⟩:=kn F (c.toNat:Int)
    refine ay (wpE fO ?_)
    refine aw ?_ ?_<;>intro hv
    ·subst hv
     have:=DH F s (by rw [hb];exact hn) F s.At (by omega) (by rw [hb];omega) (by rw [hb];omega)
     rw [hb] at this
     refine ay (this.mono ?_)
     rintro e ⟨e1,I,j⟩
     have:=j c hc fO
     refine ay ((iD h hn 3 e this I (by omega) (fun _=>ab) (by omega)).mono ?_)
     rintro r ⟨r1,aa,_⟩
     exact wpS (.inl ⟨rfl,r1,by dsimp only;omega⟩)
    ·refine ay ?_
     refine Wp.mono (P:=fun r=>r= .inl ()∨∃ q,r= .inr (true,q)∧SI F B q∧s.At<q.At) ?_ ?_
     ·obtain ⟨q,hq,J,U⟩:=zx
      have ae:Wp ((fC F s s.At).bind fun ad=>(cS F s 4 ad).bind fun ai=>some ((.inr (true,ai)):Sum Unit (Bool×aE)))
        (fun r=>r= .inl ()∨∃ q,r= .inr (true,q)∧SI F B q∧s.At<q.At):=by
       refine ⟨.inr (true,q),?_, .inr ⟨q,rfl,J,U⟩⟩
       rw [← Option.bind_assoc,hq];rfl
      refine aw ?_ ?_<;>intro aq
      ·refine aw ?_ ?_<;>intro sw
       ·exact ae
       ·have hl:=h.t.bounds.2 (by omega)
        have:0<s.L.length:=List.length_pos_iff.2 hl
        have mu:=h.ll hn
        rw [a4 (by omega) (by omega)]
        refine aw ?_ ?_<;>intro hi
        ·refine ay (aY hi ?_)
         intro t ht
         refine aw ?_ ?_<;>intro hk
         ·exact ae
         ·rw [if_pos hi]
          refine ay (aY hi ?_)
          intro t ht
          refine aw ?_ ?_<;>intro hk
          ·exact ae
          ·exact wpS (.inl rfl)
        ·omega
      ·exact wpS (.inl rfl)
     ·rintro r (rfl | ⟨q,rfl,J,U⟩)
      ·exact wpS (.inr ⟨rfl,rfl,af⟩)
      ·exact wpS (.inl ⟨rfl,J,U⟩)
 ·omega
theorem Ce (F:Nat) (B:List UInt8) (s:aE) (h:SI F B s) (hx:s.At<B.length) (hn:B.length≤20000) (hc:¬ gi s.L 4):
  Wp (mb F s) (fun r=>(r.1=true∧SI F B r.2∧s.At<r.2.At)∨(r.1=false∧r.2=s)):=by
 have hb:=h.b
 have hr:=h.r
 have ho:=h.o
 unfold mb
 rw [hb]
 have e1:af (s.At+1)=s.At+1:=a4 (by omega) (by omega)
 rw [e1]
 have T:∀ k,0<k∧k≠2∧k≠4∧k≠20∧k≠21→Wp (cS F s k (s.At+1)) (fun r=>SI F B r∧r.At=s.At+1∧r.Row=s.Row∧r.Open=s.Open∧gi r.L k):=
  fun k hk=>iD h hn k (s.At+1) (by omega) (by omega) (by omega) (fun _=>hc) (by omega)
 refine aw ?_ ?_<;>intro hy
 ·refine ay (aY hy ?_)
  intro c _
  refine ay ?_
  refine Wp.mono (P:=fun r=>(∃ q,r= .inl q∧SI F B q∧s.At<q.At)∨r= .inr (false,s)) ?_ ?_
  ·have up:∀ r:aE,SI F B r∧r.At=s.At+1∧r.Row=s.Row∧r.Open=s.Open∧gi r.L 0→True:=fun _ _=>trivial
   refine aw ?_ ?_<;>intro _
   ·refine ay ((T 8 (by omega)).mono ?_)
    rintro r ⟨r1,j,I,J,_⟩
    rw [a4 (by omega) (by omega)]
    exact wpS (.inl ⟨_,rfl,r1.re _ _ _ _ (by omega),by dsimp only;omega⟩)
   refine aw ?_ ?_<;>intro _
   ·refine ay ((T 9 (by omega)).mono ?_)
    rintro r ⟨r1,j,I,J,_⟩
    rw [a4 (by omega) (by omega)]
    exact wpS (.inl ⟨_,rfl,r1.re _ _ _ _ (by omega),by dsimp only;omega⟩)
   refine aw ?_ ?_<;>intro _
   ·refine ay ((T 10 (by omega)).mono ?_)
    rintro r ⟨r1,j,I,J,_⟩
    rw [a4 (by omega) (by omega)]
    exact wpS (.inl ⟨_,rfl,r1.re _ _ _ _ (by unfold imax;split<;>omega),by dsimp only;omega⟩)
   refine aw ?_ ?_<;>intro _
   ·refine ay ((T 11 (by omega)).mono ?_)
    rintro r ⟨r1,j,I,J,_⟩
    rw [a4 (by omega) (by omega)]
    exact wpS (.inl ⟨_,rfl,r1.re _ _ _ _ (by unfold imax;split<;>omega),by dsimp only;omega⟩)
   refine aw ?_ ?_<;>intro _
   ·refine aw ?_ ?_<;>intro _
    ·refine ay ((T 7 (by omega)).mono ?_)
     rintro r ⟨r1,j,I,J,_⟩
     exact wpS (.inl ⟨_,rfl,r1,by omega⟩)
    ·exact wpS (.inr rfl)
   ·exact wpS (.inr rfl)
  ·rintro r (⟨q,rfl,U,aa⟩ | rfl)
   ·exact wpS (.inl ⟨rfl,U,aa⟩)
   ·exact wpS (.inr ⟨rfl,rfl⟩)
 ·omega
end Go.Proofs.Ytcilejikekccmaa.M
namespace Go.Proofs.Ytcilejikekccmaa.M
open Go Am Sy
theorem z9 (F:Nat) (B:List UInt8) (s:aE) (h:SI F B s) (hx:s.At<B.length) (hn:B.length≤20000) (hF:B.length+10<F)
  (U:Wp (correctorref2_Break F B s.At) (fun b=>b=0)):Wp (mW F s) (fun r=>SI F B r∧s.At<r.At):=by
 have hb:=h.b
 have hr:=h.r
 have hc:=h.jW hx U
 have e1:af (s.At+1)=s.At+1:=a4 (by omega) (by omega)
 have T:∀ k to,0<k∧k≠2∧k≠4∧k≠20∧k≠21→s.At<to→to≤B.length→Wp (cS F s k to) (fun r=>Wp (some r) (fun r=>SI F B r∧s.At<r.At)):=
  fun k to hk h1 h2=>(iD h hn k to h1 h2 (by omega) (fun _=>hc) (by omega)).mono (fun r hr=>wpS ⟨hr.1,by omega⟩)
 have RE:Wp (fC F s s.At) (fun e=>s.At<e∧e≤B.length):=by
  have:=qe F s s.At (by rw [hb];omega) (by rw [hb];exact hn) (by rw [hb];omega)
  rw [hb] at this
  refine this.mono ?_
  rintro e ⟨J,I,j⟩
  refine ⟨?_,I⟩
  rcases j with j | ⟨b',j,aa⟩
  ·omega
  ·by_cases hh:e=s.At
   ·obtain ⟨b,ab,an⟩:=U
    rw [hh,ab] at j;injection j;omega
   ·omega
 unfold mW
 rw [hb,e1]
 refine aw ?_ ?_<;>intro hy
 ·refine ay (aY hy ?_)
  intro c _
  refine aw ?_ ?_<;>intro hz
  ·refine ay ((o6 F _ (by simp;omega) (by omega)).mono ?_)
   intro rn _
   refine ay ((ss F s (s.At+1) false (by rw [hb];omega) (by rw [hb];exact hn) (by rw [hb];omega)).mono ?_)
   rintro nm ⟨ao,ad⟩
   rw [hb] at ad
   refine ay ?_
   refine Wp.mono (P:=fun _=>True) ?_ ?_
   ·(repeat' (first | with_reducible refine ay ?_ | (with_reducible refine aw ?_ ?_<;>intro _) | (with_reducible refine aY (by assumption) ?_;intro _ _) | with_reducible refine wpS ?_ | (with_reducible refine bW ?_;omega) | dsimp only))
    refine (pX _ _ _ (by omega) (by rw [hb];exact hn)).mono ?_
    intro r _
    (repeat' (first | with_reducible refine ay ?_ | (with_reducible refine aw ?_ ?_<;>intro _) | (with_reducible refine aY (by assumption) ?_;intro _ _) | with_reducible refine wpS ?_ | (with_reducible refine bW ?_;omega) | dsimp only))
   intro f1 _
   refine aw ?_ ?_<;>intro _
   ·exact ay (T 5 _ (by omega) (by omega) (by omega))
   refine ay ((tE F s s.At (by omega) (by rw [hb];exact hn)).mono ?_)
   intro f2 _
   refine aw ?_ ?_<;>intro _
   ·exact ay (T 6 _ (by omega) (by omega) (by omega))
   refine ay ?_
   refine Wp.mono (P:=fun r=>True) ?_ ?_
   ·(repeat' (first | with_reducible refine ay ?_ | (with_reducible refine aw ?_ ?_<;>intro _) | (with_reducible refine aY (by assumption) ?_;intro _ _) | with_reducible refine wpS ?_ | (with_reducible refine bW ?_;omega) | dsimp only))
   intro f3 _
   refine aw ?_ ?_<;>intro _
   ·exact ay (T 12 _ (by omega) (by omega) (by omega))
   refine ay ?_
   refine Wp.mono (P:=fun r=>True) ?_ ?_
   ·(repeat' (first | with_reducible refine ay ?_ | (with_reducible refine aw ?_ ?_<;>intro _) | (with_reducible refine aY (by assumption) ?_;intro _ _) | with_reducible refine wpS ?_ | (with_reducible refine bW ?_;omega) | dsimp only))
   intro f4 _
   refine aw ?_ ?_<;>intro _
   ·exact ay (T 13 _ (by omega) (by omega) (by omega))
   refine aw ?_ ?_<;>intro _
   ·refine ay ((ss F s (s.At+1) true (by rw [hb];omega) (by rw [hb];exact hn) (by rw [hb];omega)).mono ?_)
    rintro aq ⟨ar,ae⟩
    rw [hb] at ae
    exact ay (T 14 _ (by omega) (by omega) (by omega))
   refine aw ?_ ?_<;>intro _
   ·refine ay (RE.mono ?_)
    rintro e ⟨J,I⟩
    refine ay ((BG F s (s.At+1) e (by rw [hb];omega) (by rw [hb];exact hn) (by rw [hb];omega)).mono ?_)
    rintro e' ⟨j,aa⟩
    exact ay (T 16 _ (by omega) (by omega) (by omega))
   refine aw ?_ ?_<;>intro _
   ·obtain ⟨e,he,J,I⟩:=RE
    refine ay (wpE he ?_)
    refine ay ((BA F s (s.At+1) e (by rw [hb];omega) (by rw [hb];exact hn) (by rw [hb];omega)).mono ?_)
    intro e' j
    refine ay (wpE he ?_)
    exact ay (T 17 _ (by omega) (by unfold pY;split<;>omega) (by unfold pY;split<;>omega))
   have HD:=vB F s (by rw [hb];omega) (by rw [hb];exact hn) (by rw [hb];omega)
   obtain ⟨hd,hh,J,I⟩:=HD
   rw [hb] at I
   refine ay (wpE hh ?_)
   refine aw ?_ ?_<;>intro gr
   ·have fin:∀ t:Int,Wp ((hU F (⟨B,s.At,s.Row,s.Open,s.bT,s.cg,t,s.L⟩:aE)).bind fun ag=>
      (cS F (⟨B,s.At,s.Row,s.Open,s.bT,s.cg,t,s.L⟩:aE) 18 (af (s.At+ag))).bind fun ah=>some ah) (fun r=>SI F B r∧s.At<r.At):=by
     intro t
     have hs:hU F (⟨B,s.At,s.Row,s.Open,s.bT,s.cg,t,s.L⟩:aE)=hU F s:=by
      have ai:∀ m x y,gU F (⟨B,s.At,s.Row,s.Open,s.bT,s.cg,t,s.L⟩:aE) m x y=gU F s m x y:=by
       intro m
       induction m with
       | zero=>intro x y;rfl
       | succ m ih=>
        intro x y
        rw [gU,gU]
        simp only [ih,hb]
      unfold hU
      simp only [ai,hb,ib]
     rw [hs]
     refine ay (wpE hh ?_)
     rw [a4 (by omega) (by omega)]
     have h':SI F B (⟨B,s.At,s.Row,s.Open,s.bT,s.cg,t,s.L⟩:aE):=by
      have:=h.re s.Open s.bT t s.cg h.o
      rw [hb] at this;exact this
     refine ay ((iD h' hn 18 (s.At+hd) (by dsimp only;omega) (by omega) (by omega) (fun _=>hc) (by omega)).mono ?_)
     rintro r ⟨r1,au,_⟩
     exact wpS ⟨r1,by omega⟩
    refine ay ?_
    refine aw ?_ ?_<;>intro _
    ·exact wpS (fin _)
    ·exact wpS (fin _)
   refine aw ?_ ?_<;>intro _
   ·exact ay (T 22 _ (by omega) (by omega) (by omega))
   ·have:=zo F s (by rw [hb];omega) (by rw [hb];exact hn) (by rw [hb];omega)
    rw [hb] at this
    refine ay (this.mono ?_)
    rintro e ⟨aj,al⟩
    exact ay (T 15 _ (by omega) aj al)
  ·omega
 ·omega
theorem Df (F:Nat) (B:List UInt8) (hn:B.length≤20000) (hF:B.length+10<F):∀ (m:Nat) (s:aE),SI F B s→B.length - s.At<m→
  Wp (correctorref6_Tokens_l0 F B m s) (fun r=>SI F B r∧r.At=B.length):=by
 intro m
 induction m with
 | zero=>intro s h1 h2;have:=h1.r;omega
 | succ m ih=>
  intro s h1 h2
  have hb:=h1.b
  have hr:=h1.r
  rw [correctorref6_Tokens_l0]
  refine aw ?_ ?_<;>intro hx
  ·refine ay ?_
   refine Wp.mono (P:=fun r=>r.1=s∧(0<r.2→s.At=s.Row∧(r.2=20∨r.2=21)∧s.At+3≤B.length)) ?_ ?_
   ·refine aw ?_ ?_<;>intro sw
    ·refine ay ((r6 F s s.At (by rw [hb];omega) (by rw [hb];exact hn)).mono ?_)
     intro k hk
     rw [hb] at hk
     exact wpS ⟨rfl,fun hp=>⟨sw,by dsimp only at hp;dsimp only;omega,by dsimp only at hp;omega⟩⟩
    ·exact wpS ⟨rfl,fun hp=>by dsimp only at hp;omega⟩
   rintro ⟨s',k⟩ ⟨U,aa⟩
   dsimp only at U aa ⊢
   subst U
   refine aw ?_ ?_<;>intro hk
   ·obtain ⟨ab,ag,ad⟩:=aa hk
    rw [a4 (by omega) (by omega)]
    refine ay ((iD h1 hn k (s'.At+3) (by omega) ad (fun _=>ab) (fun _=>(h1.w ab).jW) (by omega)).mono ?_)
    rintro r ⟨r1,ae,ah,ai,_⟩
    have ho:=h1.o
    exact ih _ (r1.re _ _ _ _ (by omega)) (by dsimp only;omega)
   ·refine ay ((D4 F B s' h1 hx hn hF).mono ?_)
    rintro ⟨f,s1⟩ (⟨j,I,J⟩ | ⟨j,I,J⟩)
    ·dsimp only at j I J ⊢
     rw [if_pos j]
     exact ih _ I (by omega)
    ·dsimp only at j I J ⊢
     subst j I
     rw [if_neg (by decide)]
     refine ay ((Ce F B s1 h1 hx hn (h1.jW hx J)).mono ?_)
     rintro ⟨f,s2⟩ (⟨j,I,af⟩ | ⟨j,I⟩)
     ·dsimp only at j I af ⊢
      rw [if_pos j]
      exact ih _ I (by omega)
     ·dsimp only at j I ⊢
      subst j I
      rw [if_neg (by decide)]
      refine ay ((z9 F B s2 h1 hx hn hF J).mono ?_)
      rintro r ⟨r1,ae⟩
      exact ih _ r1 (by omega)
  ·exact wpS ⟨h1,by omega⟩
theorem zD (F:Nat) (B:List UInt8) (hn:B.length≤16384) (hF:B.length+10<F):Wp (nN F B) (fun l=>Tk B.length l B.length):=by
 unfold nN
 refine aw ?_ ?_<;>intro hx
 ·omega
 ·refine ay (wpS ?_)
  have h0:SI F B (⟨B,0,0,0,(-1),true,(-2),[]⟩:aE):=
   ⟨rfl,by dsimp only;omega,by dsimp only;omega, .nil,fun _=> .inl rfl,fun q=>absurd q (Ends.jW (.inl rfl))⟩
  refine ay ((Df F B (by omega) hF F _ h0 (by dsimp only;omega)).mono ?_)
  rintro r ⟨r1,j⟩
  refine wpS ?_
  have:=r1.t
  rw [j] at this;exact this
end Go.Proofs.Ytcilejikekccmaa.M
namespace Go.Proofs.Ytcilejikekccmaa.M
open Go Am Sy
theorem v7 {α:Type} (p c s:List α) (x:α):(p++c++x::s)[((p.length:Int)+(c.length:Int)).toNat]?=some x:=by
 have:((p.length:Int)+(c.length:Int)).toNat=(p++c).length:=by simp;omega
 rw [this];simp
theorem vL {α:Type} (p c s:List α) (x:α):(0:Int)≤(p.length:Int)+(c.length:Int)∧(p.length:Int)+(c.length:Int)<((p++c++x::s).length:Int):=by simp;omega
def gM (k:Int):Bool:=k == 1 || k == 19
def eD (k o:Int):Int:=if k=8∨k=9 then o+1 else if k=10∨k=11 then (if 0>o - 1 then 0 else o - 1) else if k=20∨k=21 then 0 else o
theorem n9 {k o n:Int} (h:0≤o∧o≤n):0≤eD k o∧eD k o≤n+1:=by
 unfold eD
 repeat' split
 all_goals omega
def fc (c:List ak):Option ak:=c.find? (fun t=>jl t.Kind)
def hd (c:List ak):Int:=match c with | []=>0 | t::_=>t.ah
def hk (c:List ak):Int:=match c with | []=>0 | t::_=>t.Kind
def fA (c:List ak):Int:=match fc c with | some t=>t.ah - hd c | none=> -1
def k0 (c:List ak):Int:=match fc c with | some t=>if t.Kind=20∨t.Kind=21 then 4 else 5 | none=>1
def kR (c:List ak) (o:Int):Int:=if hk c=19 then 2 else if 0<o then (if k0 c=4 then k0 c else 3) else k0 c
def goR (K:List ak→Int→Int):Int→List ak→Int→Int→List ak→List an
 | f,c,o,n,[]=>if c=[] then [] else [⟨K c o,f,f+c.length,fA c⟩]
 | f,c,o,n,t::s=>if gM t.Kind=true then ⟨K (c++[t]) o,f,f+(c++[t]).length,fA (c++[t])⟩::goR K (f+(c++[t]).length) [] (eD t.Kind n) (eD t.Kind n) s
   else goR K f (c++[t]) o (eD t.Kind n) s
def n8 (l:List ak):Prop:=∀ t∈l,0≤t.ah∧t.ah≤20000
def span:List ak→Int→List ak→List ak×Int×List ak
 | c,n,[]=>(c,n,[])
 | c,n,t::s=>if gM t.Kind=true then (c++[t],eD t.Kind n,s) else span (c++[t]) (eD t.Kind n) s
theorem Az (K:List ak→Int→Int):∀ (s c:List ak) (f o n:Int),¬(c=[]∧s=[])→
  goR K f c o n s=⟨K (span c n s).1 o,f,f+(span c n s).1.length,fA (span c n s).1⟩::goR K (f+(span c n s).1.length) [] (span c n s).2.1 (span c n s).2.1 (span c n s).2.2:=by
 intro s
 induction s with
 | nil=>intro c f o n h;rw [goR,if_neg (by simpa using h)];rfl
 | cons t s ih=>
  intro c f o n h
  rw [goR,span]
  by_cases hk:gM t.Kind=true
  ·rw [if_pos hk,if_pos hk]
  ·rw [if_neg hk,if_neg hk]
   exact ih _ _ _ _ (by simp)
theorem Dj:∀ (s c:List ak) (n:Int),c++s=(span c n s).1++(span c n s).2.2∧c.length≤(span c n s).1.length∧(s≠[]→c.length<(span c n s).1.length)∧(0≤n∧n≤c.length→0≤(span c n s).2.1):=by
 intro s
 induction s with
 | nil=>intro c n;simp [span];omega
 | cons t s ih=>
  intro c n
  rw [span]
  by_cases hk:gM t.Kind=true
  ·rw [if_pos hk]
   refine ⟨by simp,by simp,fun _=>by simp,fun h=>(n9 h).1⟩
  ·rw [if_neg hk]
   obtain ⟨h1,h2,I,j⟩:=ih (c++[t]) (eD t.Kind n)
   refine ⟨by rw [← h1];simp,by simp at h2;omega,fun _=>by simp at h2;omega,fun h=>j (by have:=n9 (k:=t.Kind) h;simp;omega)⟩
theorem Bn:∀ (s c:List ak) (n p:Int),0≤n∧n≤p+c.length→0≤(span c n s).2.1∧(span c n s).2.1≤p+(span c n s).1.length:=by
 intro s
 induction s with
 | nil=>intro c n p h;simpa [span] using h
 | cons t s ih=>
  intro c n p h
  rw [span]
  have:=n9 (k:=t.Kind) h
  by_cases hk:gM t.Kind=true
  ·rw [if_pos hk];simp;omega
  ·rw [if_neg hk]
   exact ih (c++[t]) (eD t.Kind n) p (by simp;omega)
def kE (l:List ak):Prop:=l.Pairwise (fun a b=>a.ah≤b.ah)
theorem AL {c:List ak} {u:ak} (h:fc c=some u) (hs:kE c):0≤fA c:=by
 unfold fA
 rw [h]
 dsimp only
 cases c with
 | nil=>cases h
 | cons t c=>
  have:u∈t::c:=List.mem_of_find?_eq_some h
  rcases List.mem_cons.1 this with rfl | h1
  ·simp [hd]
  ·have:=(List.pairwise_cons.1 hs).1 u h1
   simp only [hd];omega
theorem rz {c:List ak} (h:fc c=none):fA c= -1:=by unfold fA;rw [h]
theorem u7 {c:List ak} (t:ak):hd (c++[t])=(match c with | []=>t.ah | u::_=>u.ah):=by cases c<;>rfl
theorem DP (F:Nat) (l:List ak) (hs:n8 l) (ho:kE l) (hn:l.length≤20000) (out:List an) (begun:Bool):∀ (s p c:List ak) (m:Nat) (n:Int) (r:an),
  l=p++c++s→s.length<m→0≤n∧n≤(p.length:Int)+(c.length:Int)→r.ah=p.length→r.Kind=k0 c→r.aC=fA c→
  Wp (correctorref9_Rows_l1 F l m out n ((p.length:Int)+(c.length:Int)) r begun) (fun z=>z.1=out∧z.2.1=(span c n s).2.1∧z.2.2.1=(p.length:Int)+((span c n s).1.length:Int)∧z.2.2.2.1.ah=p.length∧z.2.2.2.1.Kind=k0 (span c n s).1∧z.2.2.2.1.aC=fA (span c n s).1∧z.2.2.2.2=begun):=by
 intro s
 induction s with
 | nil=>
  intro p c m n r h1 h2 aj j U J
  obtain ⟨m,rfl⟩:∃ k,m=k+1:=⟨m - 1,by omega⟩
  have hl:l.length=p.length+c.length:=by rw [h1];simp
  rw [correctorref9_Rows_l1,if_neg (by omega)]
  exact wpS ⟨rfl,rfl,rfl,j,U,J,rfl⟩
 | cons t s ih=>
  intro p c m n r h1 h2 aj j U J
  obtain ⟨m,rfl⟩:∃ k,m=k+1:=⟨m - 1,by omega⟩
  simp only [List.length_cons] at h2
  have hl:l.length=p.length+c.length+s.length+1:=by rw [h1];simp;omega
  have e1:=vL p c s t
  have al:=v7 p c s t
  rw [← h1] at e1 al
  have yd:t∈l:=by rw [h1];simp
  have Ed:kE c:=by
   have:kE l:=ho
   rw [h1] at this
   exact (List.pairwise_append.1 (List.pairwise_append.1 this).1).2.1
  rw [correctorref9_Rows_l1]
  simp only [if_pos e1.2,if_pos e1,al,Option.bind_some]
  refine ay ?_
  refine Wp.mono (P:=fun z:List an×an=>z.1=out∧z.2.ah=(p.length:Int)∧z.2.Kind=k0 (c++[t])∧z.2.aC=fA (c++[t])) ?_ ?_
  ·rcases hf:fc c with _ | u
   ·rw [if_pos (by rw [J,rz hf];omega),tH]
    simp only [Option.bind_some]
    by_cases hk:jl t.Kind=true
    ·rw [if_pos hk]
     have hg:(l[r.ah.toNat]?).map (·.ah)=some (hd (c++[t])):=by
      rw [j,h1,u7]
      cases c with
      | nil=>simp
      | cons u c=>simp
     rw [if_pos (by rw [j];omega)]
     obtain ⟨u,hu⟩:∃ u,l[r.ah.toNat]?=some u:=⟨l[r.ah.toNat]'(by rw [j];omega),by simp⟩
     rw [hu] at hg ⊢
     simp only [Option.map_some] at hg
     injection hg with hg
     have wN:u∈l:=List.mem_of_getElem? hu
     have:=hs u wN
     have:=hs t yd
     have I:fc (c++[t])=some t:=by
      unfold fc at hf ⊢
      rw [List.find?_append,hf];simp [hk]
     simp only [Option.bind_some]
     rw [a4 (by omega) (by omega)]
     unfold k0 fA
     rw [I]
     dsimp only
     rw [← hg]
     by_cases ai:t.Kind=20
     ·simp only [ai,if_true];exact wpS ⟨rfl,j,by simp,rfl⟩
     ·by_cases ao:t.Kind=21
      ·simp only [ai,ao,if_true,if_false];exact wpS ⟨rfl,j,by simp,rfl⟩
      ·simp only [ai,ao,if_false];exact wpS ⟨rfl,j,by simp,rfl⟩
    ·rw [if_neg hk]
     have I:fc (c++[t])=none:=by
      unfold fc at hf ⊢
      rw [List.find?_append,hf];simp [hk]
     refine wpS ⟨rfl,j,?_,?_⟩
     ·rw [U];unfold k0;rw [hf,I]
     ·rw [J,rz hf,rz I]
   ·have:=AL hf Ed
    rw [if_neg (by rw [J];omega)]
    have I:fc (c++[t])=some u:=by
     unfold fc at hf ⊢
     rw [List.find?_append,hf];rfl
    refine wpS ⟨rfl,j,?_,?_⟩
    ·rw [U];unfold k0;rw [hf,I]
    ·rw [J];unfold fA;rw [hf,I]
     dsimp only
     rw [u7]
     cases c with
     | nil=>cases hf
     | cons v c=>rfl
  ·rintro ⟨Ab,r'⟩ ⟨aq,aa,ab,ad⟩
   dsimp only at aq aa ab ad ⊢
   subst aq
   refine ay ?_
   refine Wp.mono (P:=fun z:List an×Int×an=>z=(Ab,eD t.Kind n,r')) ?_ ?_
   ·have w1:af (n+1)=n+1:=a4 (by omega) (by omega)
    have w2:af (n - 1)=n - 1:=a4 (by omega) (by omega)
    rw [w1,w2]
    unfold eD
    by_cases ar:t.Kind=8
    ·simp only [ar];exact ⟨_,rfl,rfl⟩
    by_cases au:t.Kind=9
    ·simp only [au];exact ⟨_,rfl,rfl⟩
    by_cases av:t.Kind=10
    ·simp only [av];exact ⟨_,rfl,rfl⟩
    by_cases aw:t.Kind=11
    ·simp only [aw];exact ⟨_,rfl,rfl⟩
    by_cases ax:t.Kind=20
    ·simp only [ax];exact ⟨_,rfl,rfl⟩
    by_cases az:t.Kind=21
    ·simp only [az];exact ⟨_,rfl,rfl⟩
    simp only [ar,au,av,aw,ax,az,if_false,Option.bind_some,or_self]
    exact ⟨_,rfl,rfl⟩
   ·rintro _ rfl
    dsimp only
    have dB:l=p++(c++[t])++s:=by rw [h1];simp
    have ew:af ((p.length:Int)+(c.length:Int)+1)=(p.length:Int)+((c++[t]).length:Int):=by rw [a4 (by omega) (by omega)];simp;omega
    rw [ew]
    by_cases ae:t.Kind=1
    ·rw [if_pos ae,span,if_pos (by simp [gM,ae])]
     exact wpS ⟨rfl,rfl,rfl,aa,ab,ad,rfl⟩
    ·rw [if_neg ae]
     by_cases ag:t.Kind=19
     ·rw [if_pos ag,span,if_pos (by simp [gM,ag])]
      exact wpS ⟨rfl,rfl,rfl,aa,ab,ad,rfl⟩
     ·rw [if_neg ag,span,if_neg (by simp [gM,ae,ag])]
      exact ih p (c++[t]) m _ r' dB (by omega) (by have:=n9 (k:=t.Kind) aj;simp;omega) aa ab ad
theorem Ee (F:Nat) (l:List ak) (hs:n8 l) (ho:kE l) (hn:l.length≤20000) (hF:l.length+10<F):∀ (m:Nat) (s p:List ak) (n:Int) (out:List an),
  l=p++s→s.length<m→0≤n∧n≤(p.length:Int)→out.length≤p.length→
  correctorref9_Rows_l0 F l m out n p.length=some (out++goR kR p.length [] n n s):=by
 intro m
 induction m with
 | zero=>intro s p n out h1 h2;omega
 | succ m ih=>
  intro s p n out h1 h2 U ar
  have hl:l.length=p.length+s.length:=by rw [h1];simp
  rw [correctorref9_Rows_l0]
  by_cases pb:s=[]
  ·subst pb
   simp only [List.length_nil,Nat.add_zero] at hl
   rw [if_neg (by omega)]
   simp [goR]
  ·have hp:0<s.length:=List.length_pos_iff.2 pb
   rw [if_pos (by omega)]
   have Cb:((if (0:Int)<n then some (out,(⟨1,(p.length:Int),0,(-1)⟩:an),true) else some (out,(⟨1,(p.length:Int),0,(-1)⟩:an),false)):Option ((List an)×an×Bool))=some (out,(⟨1,(p.length:Int),0,(-1)⟩:an),decide (0<n)):=by
    by_cases h:0<n
    ·rw [if_pos h,decide_eq_true h]
    ·rw [if_neg h,decide_eq_false h]
   rw [Cb]
   simp only [Option.bind_some]
   obtain ⟨⟨o',n',i',r',b'⟩,g0,aa,ab,ad,j,ae,af,ag⟩:=DP F l hs ho hn out (decide (0<n)) s p [] F n ⟨1,(p.length:Int),0,(-1)⟩ (by rw [h1];simp) (by omega) (by simpa using U) rfl rfl rfl
   dsimp only at aa ab ad j ae af ag
   simp only [List.length_nil,Int.add_zero,show ((0:Nat):Int)=0 from rfl] at g0
   rw [g0]
   simp only [Option.bind_some]
   subst aa ab ad ag
   obtain ⟨a1,al,ai,_⟩:=Dj s [] n
   have ao:=Bn s [] n p.length (by simpa using U)
   have aq:0<(span [] n s).1.length:=by have:=ai pb;simpa using this
   clear ai al
   rw [Az kR s [] _ _ _ (by simp [pb])]
   generalize span [] n s=z at *
   obtain ⟨c,n',s'⟩:=z
   dsimp only at *
   simp only [List.nil_append] at a1
   subst a1
   obtain ⟨t,c',rfl⟩:∃ t c',c=t::c':=by
    cases c with
    | nil=>simp at aq
    | cons t c'=>exact ⟨t,c',rfl⟩
   have hg:l[r'.ah.toNat]?=some t:=by rw [j,h1];simp
   rw [if_pos (by rw [j];omega),hg]
   simp only [Option.bind_some]
   have kz:((if t.Kind=(19:Int) then
        some (o',(⟨2,r'.ah,(p.length:Int)+((t::c').length:Int),r'.aC⟩:an))
       else
        if (decide (0<n))=true then
         if r'.Kind=(4:Int) then
          some (o',(⟨r'.Kind,r'.ah,(p.length:Int)+((t::c').length:Int),r'.aC⟩:an))
         else
          some (o',(⟨3,r'.ah,(p.length:Int)+((t::c').length:Int),r'.aC⟩:an))
        else
         some (o',(⟨r'.Kind,r'.ah,(p.length:Int)+((t::c').length:Int),r'.aC⟩:an))):Option ((List an)×an))
     =some (o',⟨kR (t::c') n,(p.length:Int),(p.length:Int)+((t::c').length:Int),fA (t::c')⟩):=by
    rw [j,ae,af]
    unfold kR hk
    dsimp only
    by_cases I:t.Kind=19
    ·simp [I]
    ·by_cases J:0<n
     ·by_cases aj:k0 (t::c')=4
      ·simp [I,J,aj]
      ·simp [I,J,aj]
     ·simp [I,J]
   rw [kz]
   simp only [Option.bind_some]
   rw [if_pos (by simp;omega)]
   have:=ih s' (p++t::c') n' (o'++[⟨kR (t::c') n,(p.length:Int),(p.length:Int)+((t::c').length:Int),fA (t::c')⟩]) (by rw [h1];simp) (by simp at h2;omega) (by simp at ao ⊢;omega) (by simp;omega)
   have ep:((p++t::c').length:Int)=(p.length:Int)+((t::c').length:Int):=by simp
   rw [ep] at this
   rw [this];simp
theorem vT (F:Nat) (l:List ak) (hs:n8 l) (ho:kE l) (hn:l.length≤20000) (hF:l.length+10<F):lK F l=some (goR kR 0 [] 0 0 l):=by
 unfold lK
 have:=Ee F l hs ho hn hF F l [] 0 [] rfl (by omega) (by simp) (by simp)
 simp only [List.length_nil,show ((0:Nat):Int)=0 from rfl] at this
 rw [this];simp
theorem Tk.xX {n:Int} {l:List ak} {a:Int} (h:Tk n l a):(∀ t∈l,0≤t.ah∧t.ah<a)∧l.Pairwise (fun a b=>a.ah<b.ah)∧0≤a:=by
 induction h with
 | nil=>simp
 | @snoc l mn k to h1 h2 j I J U ih=>
  obtain ⟨i1,i2,i3⟩:=ih
  refine ⟨?_,?_,by omega⟩
  ·intro t ht
   rcases List.mem_append.1 ht with ht | ht
   ·have:=i1 t ht;omega
   ·simp at ht;subst ht;dsimp only;omega
  ·rw [List.pairwise_append]
   refine ⟨i2,by simp,?_⟩
   intro x hx y hy
   simp at hy;subst hy
   exact (i1 x hx).2
theorem wJ (K:List ak→Int→Int) {l:List ak}:∀ (s p c:List ak) (o n:Int),l=p++c++s→∀ r∈goR K p.length c o n s,0≤r.ah∧r.ah<r.To∧r.To≤l.length:=by
 intro s
 induction s with
 | nil=>
  intro p c o n h r hr
  rw [goR] at hr
  by_cases hc:c=[]
  ·rw [if_pos hc] at hr;cases hr
  ·have:=List.length_pos_iff.2 hc
   rw [if_neg hc] at hr
   simp at hr
   subst hr
   rw [h]
   dsimp only
   simp
   omega
 | cons t s ih=>
  intro p c o n h r hr
  rw [goR] at hr
  by_cases hk:gM t.Kind=true
  ·rw [if_pos hk] at hr
   rcases List.mem_cons.1 hr with rfl | hr
   ·rw [h];simp;omega
   ·have e:(p.length:Int)+((c++[t]).length:Int)=((p++(c++[t])).length:Int):=by simp
    rw [e] at hr
    exact ih (p++(c++[t])) [] _ _ (by rw [h];simp) r hr
  ·rw [if_neg hk] at hr
   exact ih p (c++[t]) _ _ (by rw [h];simp) r hr
theorem AY (K:List ak→Int→Int):∀ (s c:List ak) (f o n:Int),(goR K f c o n s).length≤c.length+s.length:=by
 intro s
 induction s with
 | nil=>
  intro c f o n
  rw [goR]
  by_cases h:c=[]
  ·simp [h]
  ·have:=List.length_pos_iff.2 h
   rw [if_neg h];simp;omega
 | cons t s ih=>
  intro c f o n
  rw [goR]
  by_cases h:gM t.Kind=true
  ·rw [if_pos h]
   have:=ih [] (f+((c++[t]).length:Int)) (eD t.Kind n) (eD t.Kind n)
   simp at this ⊢;omega
  ·rw [if_neg h]
   have:=ih (c++[t]) f o (eD t.Kind n)
   simp at this ⊢;omega
theorem Tk.kinds {n:Int} {l:List ak} {a:Int} (h:Tk n l a):∀ t∈l,0<t.Kind:=by
 induction h with
 | nil=>simp
 | @snoc l mn k to h1 h2 I J U j ih=>
  intro t ht
  rcases List.mem_append.1 ht with ht | ht
  ·exact ih t ht
  ·simp at ht;subst ht;exact j
theorem AX (k:Int):jl k=cn k:=by
 unfold jl cn
 by_cases h1:k=1
 ·simp [h1]
 by_cases h2:k=2
 ·simp [h2]
 by_cases j:k=3
 ·simp [j]
 by_cases I:k=4
 ·simp [I]
 simp [h1,h2,j,I]
theorem C4 (K:List ak→Int→Int):∀ (s c:List ak) (f o n:Int),¬ (c=[]∧s=[])→∃ r∈goR K f c o n s,r.To=f+c.length+s.length:=by
 intro s
 induction s with
 | nil=>
  intro c f o n h
  rw [goR,if_neg (by simpa using h)]
  exact ⟨_,List.mem_singleton.2 rfl,by simp⟩
 | cons t s ih=>
  intro c f o n h
  rw [goR]
  by_cases hk:gM t.Kind=true
  ·rw [if_pos hk]
   by_cases hs:s=[]
   ·subst hs
    exact ⟨_,List.mem_cons_self,by simp;omega⟩
   ·obtain ⟨r,r1,j⟩:=ih [] (f+(c++[t]).length) (eD t.Kind n) (eD t.Kind n) (by simpa using hs)
    exact ⟨r,List.mem_cons_of_mem _ r1,by rw [j];simp;omega⟩
  ·rw [if_neg hk]
   obtain ⟨r,r1,j⟩:=ih (c++[t]) f o (eD t.Kind n) (by simp)
   exact ⟨r,r1,by rw [j];simp;omega⟩
theorem yg {c:List ak} {o:Int} (h:kR c o=4∨kR c o=5):∃ t∈c,cn t.Kind=true:=by
 have hk:k0 c=4∨k0 c=5:=by
  unfold kR at h
  split at h
  ·omega
  ·split at h
   ·split at h<;>omega
   ·exact h
 unfold k0 at hk
 cases hf:fc c with
 | none=>rw [hf] at hk;simp at hk
 | some t=>
  refine ⟨t,List.mem_of_find?_eq_some hf,?_⟩
  have:=List.find?_some hf
  rw [← AX];simpa using this
theorem su {l p c s:List ak} {o:Int} (h:l=p++c++s) (hk:kR c o=4∨kR c o=5):∃ (i:Int) (t:ak),(p.length:Int)≤i∧i<(p.length:Int)+c.length∧l[i.toNat]?=some t∧cn t.Kind=true:=by
 obtain ⟨t,h1,h2⟩:=yg hk
 obtain ⟨j,hj⟩:=List.getElem?_of_mem h1
 have qn:j<c.length:=by
  rcases Nat.lt_or_ge j c.length with q | q
  ·exact q
  ·rw [List.getElem?_eq_none q] at hj;cases hj
 refine ⟨(p.length:Int)+j,t,by omega,by omega,?_,h2⟩
 have:((p.length:Int)+j).toNat=p.length+j:=by omega
 rw [this,h,List.append_assoc,List.getElem?_append_right (by omega),Nat.add_sub_cancel_left,List.getElem?_append_left qn]
 exact hj
theorem xA {l:List ak}:∀ (s p c:List ak) (o n:Int),l=p++c++s→∀ r∈goR kR p.length c o n s,(r.Kind=4∨r.Kind=5)→∃ (i:Int) (t:ak),r.ah≤i∧i<r.To∧l[i.toNat]?=some t∧cn t.Kind=true:=by
 intro s
 induction s with
 | nil=>
  intro p c o n h r hr hk
  rw [goR] at hr
  split at hr
  ·simp at hr
  ·simp at hr;subst hr
   exact su h hk
 | cons t s ih=>
  intro p c o n h r hr hk
  rw [goR] at hr
  have h':l=p++(c++[t])++s:=by rw [h];simp
  split at hr
  ·rcases List.mem_cons.1 hr with rfl | hr
   ·exact su h' hk
   ·have e:((p++(c++[t])).length:Int)=(p.length:Int)+(c++[t]).length:=by simp
    rw [← e] at hr
    exact ih (p++(c++[t])) [] _ _ (by rw [h'];simp) r hr hk
  ·exact ih p (c++[t]) _ _ h' r hr hk
theorem yn (K:List ak→Int→Int):∀ (s c:List ak) (f o n:Int),Tl f (goR K f c o n s):=by
 intro s
 induction s with
 | nil=>intro c f o n;rw [goR];split;trivial;exact ⟨rfl,trivial⟩
 | cons t s ih=>
  intro c f o n
  rw [goR]
  split
  ·exact ⟨rfl,ih _ _ _ _⟩
  ·exact ih _ _ _ _
def Tg:Int→List ak→Int→Prop
 | f,[],e=>f=e
 | f,t::s,e=>t.ah=f∧f<t.To∧Tg t.To s e
theorem Tg.snoc {k:Int}:∀ {s:List ak} {f e to:Int},Tg f s e→e<to→Tg f (s++[⟨k,e,to⟩]) to:=by
 intro s
 induction s with
 | nil=>intro f e to h h2;have:f=e:=h;subst this;exact ⟨rfl,h2,rfl⟩
 | cons t s ih=>rintro f e to ⟨h1,h2,j⟩ I;exact ⟨h1,h2,ih j I⟩
theorem Tk.tg {n:Int} {l:List ak} {a:Int} (h:Tk n l a):Tg 0 l a:=by
 induction h with
 | nil=>rfl
 | snoc k to h1 h2 j I J U ih=>exact ih.snoc h2
theorem Tg.le:∀ {s:List ak} {f e:Int},Tg f s e→f+s.length≤e:=by
 intro s
 induction s with
 | nil=>intro f e h;have:f=e:=h;simp;omega
 | cons t s ih=>rintro f e ⟨h1,h2,j⟩;have:=ih j;rw [List.length_cons];omega
theorem Tg.drop:∀ {s:List ak} {f e:Int} (i:Nat),Tg f s e→i≤s.length→∃ f',f+i≤f'∧Tg f' (s.drop i) e:=by
 intro s
 induction s with
 | nil=>intro f e i h hi;exact ⟨f,by simp at hi;omega,by simpa using h⟩
 | cons t s ih=>
  rintro f e i ⟨h1,h2,j⟩ hi
  cases i with
  | zero=>exact ⟨f,by omega,h1,h2,j⟩
  | succ i=>
   obtain ⟨f',J,I⟩:=ih i j (by simpa using hi)
   exact ⟨f',by omega,I⟩
theorem CR (F:Nat) (hF:2500≤F) {n a:Int} {l:List ak} (h:Tk n l a) (hn:n≤450) (ha:a≤n):∃ rs,lK F l=some rs∧RO l rs:=by
 have h1:=h.xX
 have h2:=h.bounds
 have hs:n8 l:=fun t ht=>by have:=h1.1 t ht;omega
 have ho:kE l:=h1.2.1.imp (fun q=>Int.le_of_lt q)
 have hlen:l.length≤450:=by omega
 refine ⟨_,vT F l hs ho (by omega) (by omega),?_⟩
 have hr:=wJ kR (l:=l) l [] [] 0 0 rfl
 have hc:=xA (l:=l) l [] [] 0 0 rfl
 have hL:=AY kR l [] 0 0 0
 simp only [List.length_nil,Nat.zero_add] at hL
 refine ⟨hr,fun x I hx=>?_,hc,by omega,yn _ _ _ _ _ _⟩
 obtain ⟨r,r1,j⟩:=C4 kR l [] 0 0 0 (fun z=>by rw [z.2] at hx;simp at hx;omega)
 obtain ⟨i,hi⟩:=List.getElem?_of_mem r1
 exact ⟨i,r,hi,by rw [j];simp;omega⟩
end Go.Proofs.Ytcilejikekccmaa.M
namespace Go.Proofs.Ytcilejikekccmaa.M
open Go Am Sy
theorem tr {α:Type} (l:List α) (i:Int) (h:0≤i∧i≤l.length):(((l.take (l.length:Int).toNat).drop i.toNat).length:Int)=l.length - i:=by
 rw [Int.toNat_natCast,List.take_length,List.length_drop];omega
theorem BF (F:Nat) (b:List UInt8) (hn:b.length≤20000) (hF:b.length+10<F):Wp (mL F b) (fun l=>l.length≤b.length):=by
 have key:∀ (m:Nat) (l:List Int) (x:Int),0≤x→x≤b.length→b.length - x<m→(l.length:Int)≤x→Wp (correctorref1_Bad_l0 F b m l x) (fun l=>l.length≤b.length):=by
  intro m
  induction m with
  | zero=>intro l x h1 h2 j;omega
  | succ m ih=>
   intro l x h1 h2 j U
   rw [correctorref1_Bad_l0]
   refine aw (fun c=>?_) (fun c=>wpS (by omega))
   have hl:=tr b x ⟨h1,h2⟩
   refine aW (by omega) (bj (o6 F _ (by omega) (by omega)) ?_)
   rintro ⟨r,k⟩ ⟨I,J⟩
   simp only at I J ⊢
   have hw:af (x+k)=x+k:=a4 (by omega) (by omega)
   rw [hw]
   refine bj (Q:=fun l'=>(l'.length:Int)≤l.length+1) (aw (fun _=>aW (by rw [List.length_singleton];omega) (wpS (by rw [List.length_append,List.length_singleton];omega))) (fun _=>wpS (by omega))) ?_
   intro l' iZ
   exact ih l' (x+k) (by omega) (by omega) (by omega) (by omega)
 unfold mL
 exact bj (key F [] 0 (by omega) (by omega) (by omega) (by simp)) fun l hl=>wpS hl
theorem B7 (F:Nat) (s:aL) (hn:s.b.length≤20000) (hF:s.b.length+10<F):Wp (nZ F s) (fun _=>True):=by
 have key:∀ (m:Nat) (o:aL) (x:Int),0≤x→x≤s.b.length+2→s.b.length+3 - x<m→(o.b.length:Int)≤x→Wp (correctorref7_single_l0 F s m o x) (fun _=>True):=by
  intro m
  induction m with
  | zero=>intro o x h1 h2 j;omega
  | succ m ih=>
   intro o x h1 h2 j U
   have hw:af (x+1)=x+1:=a4 (by omega) (by omega)
   have I:af (x+1+1)=x+2:=by rw [a4 (by omega) (by omega)];omega
   rw [correctorref7_single_l0,hw,I]
   refine aw (fun c=>?_) (fun c=>wpS trivial)
   refine aW h1 (ay (aY (by omega) fun t ht=>?_))
   refine aw (fun c1=>?_) (fun c1=>?_)
   ·refine aw (fun c2=>wpS trivial) (fun c2=>?_)
    refine aW (by omega) (ay (aY (by omega) fun t ht=>?_))
    refine aw (fun J=>?_) (fun J=>wpS trivial)
    refine aW (by rw [List.length_singleton];omega) (ih _ _ (by omega) (by omega) (by omega) (by show ((o.b++[39]).length:Int)≤_;rw [List.length_append,List.length_singleton];omega))
   ·have hl:((s.b.take (x+1).toNat).drop x.toNat).length=1:=by rw [List.length_drop,List.length_take];omega
    refine aW (by omega) (aW (by rw [hl];omega) (ih _ _ (by omega) (by omega) (by omega) (by show ((o.b++_).length:Int)≤_;rw [List.length_append,hl];omega)))
 unfold nZ
 refine bj (key F ⟨[]⟩ 1 (by omega) (by omega) (by omega) (by simp)) ?_
 rintro (x | y) _<;>exact wpS trivial
theorem xH (F:Nat) (k:Int) (h:0≤k∧k<256):Wp (nU F k) (fun r=>r.1.b.length≤1):=by
 unfold nU
 repeat' (first | (refine aw (fun _=>wpS (by simp)) (fun _=>?_)))
 refine bj (Q:=fun _=>True) ?_ ?_
 ·repeat' (first | (refine aw (fun _=>wpS trivial) (fun _=>?_)) | exact wpS trivial)
 ·intro b _
  exact aw (fun _=>aW h (wpS (by simp))) (fun _=>wpS (by simp))
theorem Dl (F:Nat) (k:Int):Wp (mZ F k) (fun _=>True):=by
 unfold mZ
 refine bj (Q:=fun _=>True) ?_ ?_
 ·repeat' (first | (refine aw (fun _=>?_) (fun _=>?_)) | exact wpS trivial)
 ·intro b _
  refine bj (Q:=fun _=>True) ?_ ?_
  ·refine aw (fun _=>wpS trivial) (fun _=>?_)
   refine bj (Q:=fun _=>True) ?_ ?_
   ·repeat' (first | (refine aw (fun _=>?_) (fun _=>?_)) | exact wpS trivial)
   ·intro b _
    repeat' (first | (refine aw (fun _=>?_) (fun _=>?_)) | exact wpS trivial)
  ·rintro (x | y) _<;>exact wpS trivial
theorem iu (e:Int):0≤IntKind.wrap .u8 e∧IntKind.wrap .u8 e<256:=by
 have h1:IntKind.wrap .u8 e=e % 256:=by
  simp [IntKind.wrap,IntKind.bits,IntKind.signed]
 rw [h1];omega
theorem z1 (F:Nat) (k:Int):Wp (nf F k) (fun l=>l.length≤4):=by
 unfold nf
 refine aw (fun _=>aW (iu _) (wpS (by simp))) (fun _=>?_)
 refine aw (fun _=>aW ⟨iu _,iu _⟩ (wpS (by simp))) (fun _=>?_)
 refine aw (fun _=>aW ⟨iu _,iu _,iu _⟩ (wpS (by simp))) (fun _=>?_)
 exact aW ⟨iu _,iu _,iu _,iu _⟩ (wpS (by simp))
theorem zZ (F:Nat) (s:aL) (hn:s.b.length≤20000) (hF:20<F):Wp (correctorref5_Escape F s) (fun r=>0≤r.2∧r.2≤10∧r.1.b.length≤4):=by
 have eW:∀ {α:Type} (x:α),(0:Int)≤0∧(0:Int)≤10∧([]:List UInt8).length≤4:=fun _=>by simp
 unfold correctorref5_Escape
 refine aw (fun _=>wpS (by simp)) (fun c0=>?_)
 refine aW (by omega) (ay (aY (by omega) fun t ht=>?_))
 refine aw (fun _=>?_) (fun _=>wpS (by simp))
 refine aW (by omega) (ay (aY (by omega) fun t ht=>?_))
 have ab:=t.toNat_lt
 refine bj (xH F _ (by omega)) ?_
 rintro ⟨o,b⟩ ho
 simp only at ho ⊢
 refine aw (fun _=>wpS ⟨by simp,by simp,by show o.b.length≤4;omega⟩) (fun _=>?_)
 refine bj (Q:=fun x=>x=0∨x=2∨x=4∨x=8) ?_ ?_
 ·refine aW (by omega) (ay (aY (by omega) fun t ht=>?_))
  repeat' (first | (refine aw (fun _=>?_) (fun _=>?_)) | exact wpS (by simp))
 intro x hx
 refine aw (fun _=>wpS (by simp)) (fun cx=>?_)
 have hw:af (2+x)=2+x:=a4 (by omega) (by omega)
 rw [hw]
 refine aw (fun _=>wpS (by simp)) (fun c1=>?_)
 have key:∀ (m:Nat) (v i:Int),0≤i→i≤x→x - i<m→Wp (correctorref5_Escape_l0 F s m x v i) (fun r=>match r with | .inl z=>z.1=x | .inr z=>z.2=0∧z.1.b.length≤4):=by
  intro m
  induction m with
  | zero=>intro v i h1 h2 I;omega
  | succ m ih=>
   intro v i h1 h2 I
   have J:af (2+i)=2+i:=a4 (by omega) (by omega)
   have U:af (i+1)=i+1:=a4 (by omega) (by omega)
   rw [correctorref5_Escape_l0,J,U]
   refine aw (fun c=>?_) (fun c=>wpS rfl)
   refine aW (by omega) (ay (aY (by omega) fun t ht=>?_))
   refine bj (Dl F _) fun h _=>?_
   exact aw (fun _=>wpS ⟨rfl,by simp⟩) (fun _=>ih _ _ (by omega) (by omega) (by omega))
 refine bj (key F 0 0 (by omega) (by omega) (by omega)) ?_
 rintro (⟨j,aa⟩ | ⟨j,aa⟩) hz
 ·simp only at hz ⊢
  subst hz
  refine bj (Q:=fun r=>match r with | .inl _=>True | .inr z=>z.2=0∧z.1.b.length≤4) ?_ ?_
  ·repeat' (first | (refine aw (fun _=>?_) (fun _=>?_)) | exact wpS trivial | exact wpS ⟨rfl,by simp⟩)
  ·rintro (u | ⟨ad,ae⟩) hy
   ·refine bj (z1 F _) fun l hl=>?_
    rw [hw]
    exact wpS ⟨by show 0≤2+j;omega,by show 2+j≤10;omega,hl⟩
   ·simp only at hy;obtain ⟨rfl,hy⟩:=hy;exact wpS ⟨by simp,by simp,hy⟩
 ·simp only at hz;obtain ⟨rfl,hz⟩:=hz;exact wpS ⟨by simp,by simp,hz⟩
theorem qdouble_wp (F:Nat) (s:aL) (hn:s.b.length≤20000) (hF:s.b.length+30<F):Wp (mg F s) (fun r=>(r.2.1.length:Int)≤s.b.length):=by
 have key:∀ (m:Nat) (o:aL) (l:List Int) (x:Int),1≤x→x≤s.b.length+20→s.b.length+21 - x<m→(o.b.length:Int)≤4 * x→(l.length:Int)≤x - 1→((l.length:Int)≤s.b.length)→Wp (correctorref7_double_l0 F s m o l x) (fun r=>match r with | .inl z=>(z.2.length:Int)≤s.b.length | .inr z=>(z.2.1.length:Int)≤s.b.length):=by
  intro m
  induction m with
  | zero=>intro o l x h1 h2 U;omega
  | succ m ih=>
   intro o l x h1 h2 U ah ai j
   have hw:af (x+1)=x+1:=a4 (by omega) (by omega)
   rw [correctorref7_double_l0,hw]
   refine aw (fun c=>?_) (fun c=>wpS j)
   have hl:((s.b.take (x+1).toNat).drop x.toNat).length=1:=by rw [List.length_drop,List.length_take];omega
   refine aW (by omega) (ay (aY (by omega) fun t ht=>?_))
   refine aw (fun _=>wpS j) (fun _=>?_)
   refine aW (by omega) (ay (aY (by omega) fun t ht=>?_))
   refine aw (fun _=>?_) (fun _=>?_)
   ·have hle:=tr s.b x (by omega)
    refine aW (by omega) (bj (zZ F _ (by show ((s.b.take _).drop _).length≤20000;omega) (by omega)) ?_)
    rintro ⟨e,k⟩ ⟨aa,I,J⟩
    simp only at aa I J ⊢
    refine bj (Q:=fun z=>(z.1.length:Int)≤l.length+1∧z.2.1.b.length≤4∧1≤z.2.2∧z.2.2≤10) ?_ ?_
    ·refine aw (fun _=>?_) (fun _=>wpS ⟨by simp only;omega,J,by simp only;omega,I⟩)
     refine aW (by rw [List.length_singleton];omega) (aW (by omega) (wpS ⟨by show ((l++[x]).length:Int)≤_;simp,by show ((s.b.take _).drop _).length≤4;omega,by simp,by simp⟩))
    ·rintro ⟨l',e',k'⟩ ⟨r1,ab,ad,ae⟩
     simp only at r1 ab ad ae ⊢
     have ag:af (x+k')=x+k':=a4 (by omega) (by omega)
     rw [ag]
     exact aW (by omega) (ih _ _ _ (by omega) (by omega) (by omega) (by show ((o.b++e'.b).length:Int)≤_;rw [List.length_append];omega) (by omega) (by omega))
   ·refine aW (by omega) (aW (by rw [hl];omega) (ih _ _ _ (by omega) (by omega) (by omega) (by show ((o.b++_).length:Int)≤_;rw [List.length_append,hl];omega) (by omega) j))
 unfold mg
 refine bj (key F ⟨[]⟩ [] 1 (by omega) (by omega) (by omega) (by simp) (by simp) (by simp)) ?_
 rintro (⟨x,y⟩ | y) h<;>exact wpS h
theorem wX (F:Nat) (k:Int) (s:aL) (hn:s.b.length≤20000) (hF:s.b.length+30<F):Wp (nA F k s) (fun r=>(r.2.1.length:Int)≤s.b.length):=by
 unfold nA
 refine aw (fun _=>wpS (by simp)) (fun _=>?_)
 refine aw (fun _=>wpS (by simp)) (fun _=>?_)
 refine aw (fun _=>bj (B7 F s hn (by omega)) fun r _=>wpS (by simp)) (fun _=>?_)
 refine aw (fun _=>bj (qdouble_wp F s hn hF) fun r hr=>wpS hr) (fun _=>?_)
 exact wpS (by simp)
end Go.Proofs.Ytcilejikekccmaa.M
namespace Go.Proofs.Ytcilejikekccmaa.M
open Go Am Sy
theorem z7 (F:Nat) (B:List UInt8) (L:List ak) (rs:List an) (bad:List Int) (hb:bad.length≤1000):∀ (m:Nat) (D:List aj) (i:Nat),bad.length - i<m→i≤bad.length→D.length+(bad.length - i)≤100000→Wp (correctorref12_told_l0 F B L rs m D bad (i:Int)) (fun D'=>D'.length≤D.length+(bad.length - i)):=by
 intro m
 induction m with
 | zero=>intro D i h1;omega
 | succ m ih=>
  intro D i h1 h2 j
  rw [correctorref12_told_l0]
  refine aw (fun c=>?_) (fun c=>wpS (by omega))
  have hw:af ((i:Int)+1)=((i+1:Nat):Int):=by rw [a4 (by omega) (by omega)];omega
  refine aW (by omega) (ay (aY (by omega) fun t ht=>?_))
  refine aW (by omega) (ay (aY (by omega) fun t ht=>?_))
  refine aW (by rw [List.length_singleton];omega) ?_
  rw [hw]
  refine (ih _ (i+1) (by omega) (by omega) (by rw [List.length_append,List.length_singleton];omega)).mono fun D' jj=>?_
  rw [List.length_append,List.length_singleton] at jj;omega
def TB (B:List UInt8) (L:List ak):Prop:=∀ t∈L,0≤t.ah∧t.ah<t.To∧t.To≤B.length
theorem Tg.tb {n:Int}:∀ {s:List ak} {f e:Int},Tg f s e→0≤f→e≤n→∀ t∈s,0≤t.ah∧t.ah<t.To∧t.To≤n:=by
 intro s
 induction s with
 | nil=>intro f e _ _ _ t ht;cases ht
 | cons x s ih=>
  rintro f e ⟨h1,h2,j⟩ h0 he t ht
  have:=j.le
  rcases List.mem_cons.1 ht with rfl | ht
  ·omega
  ·exact ih j (by omega) he t ht
theorem xW (F:Nat) (B:List UInt8) (L:List ak) (rs:List an) (hB:B.length≤20000) (hT:TB B L) (D:List aj) (i:Int) (k:Nat) (t:ak) (hk:L[k]?=some t):∀ (m:Nat) (ph:Bool) (j:Int),0≤j→t.To - j<m→j≤20001→0<m→Wp (correctorref12_told_l3 F B L rs m D i (k:Int) ph j) (fun r=>r.1=D∧r.2.1=i∧r.2.2.1=k):=by
 obtain ⟨t1,t2,t3⟩:=hT t (List.mem_of_getElem? hk)
 have oK:=gm hk
 intro m
 induction m with
 | zero=>intro ph j h1 h2 I J;omega
 | succ m ih=>
  intro ph j h1 h2 I J
  have hw:af (j+1)=j+1:=a4 (by omega) (by omega)
  rw [correctorref12_told_l3,hw]
  refine aW (by omega) ?_
  rw [Int.toNat_natCast,hk]
  refine bt rfl (aw (fun c=>?_) (fun c=>wpS ⟨rfl,rfl,rfl⟩))
  refine bj (Q:=fun r=>r.1=D) (aw (fun _=>wpS rfl) (fun _=>aW (by omega) (ay (aY (by omega) fun b hb=>aw (fun _=>wpS rfl) (fun _=>wpS rfl))))) ?_
  rintro ⟨D',Dv⟩ rfl
  exact ih Dv (j+1) (by omega) (by omega) (by omega) (by omega)
theorem y5 (F:Nat) (hF:2500≤F) (B:List UInt8) (L:List ak) (rs:List an) (hB:B.length≤1000) (hL:L.length≤450) (hT:TB B L) (i:Nat) (r:an) (hi:rs[i]?=some r) (hr:0≤r.ah∧r.ah<r.To∧r.To≤L.length):∀ (m:Nat) (D:List aj) (k:Nat),(k:Int)≤r.To→r.To - k<m→D.length+(r.To.toNat - k)≤100000→Wp (correctorref12_told_l2 F B L rs m D (i:Int) (k:Int)) (fun z=>z.1.length≤D.length+(r.To.toNat - k)∧z.2=(i:Int)):=by
 have di:=gm hi
 intro m
 induction m with
 | zero=>intro D k h1 h2;omega
 | succ m ih=>
  intro D k h1 h2 ag
  rw [correctorref12_told_l2]
  have hb:0≤(i:Int)∧(i:Int)<(rs.length:Int):=by omega
  simp only [if_pos hb,Int.toNat_natCast,hi]
  refine bt rfl (aw (fun c=>?_) (fun c=>wpS ⟨by simp,rfl⟩))
  have oK:k<L.length:=by omega
  have hg:=List.getElem?_eq_getElem oK
  have j:0≤(k:Int)∧(k:Int)<(L.length:Int):=by omega
  have hw:af ((k:Int)+1)=((k+1:Nat):Int):=by rw [a4 (by omega) (by omega)];omega
  refine bt rfl (aw (fun ab=>?_) (fun ab=>wpS ⟨by simp,rfl⟩))
  simp only [if_pos j,hg,kx]
  refine bt rfl (bt rfl (aw (fun _=>wpS ⟨by simp,rfl⟩) (fun _=>?_)))
  obtain ⟨t1,t2,t3⟩:=hT _ (List.mem_of_getElem? hg)
  refine bt rfl (bj (xW F B L rs (by omega) hT D i k _ hg F false L[k].ah t1 (by omega) (by omega) (by omega)) ?_)
  rintro ⟨ad,i1,ai,ph⟩ ⟨I,J,U⟩
  simp only at I J U ⊢
  subst I J U
  simp only [if_pos j,Int.toNat_natCast,hg]
  refine bj (Q:=fun z=>z.1=ad) (aw (fun _=>bt rfl (aw (fun _=>wpS rfl) (fun _=>wpS rfl))) (fun _=>wpS rfl)) ?_
  rintro ⟨ae,al⟩ aa
  simp only at aa ⊢
  subst aa
  refine bj (Q:=fun D'=>D'.length≤ae.length+1) (aw (fun _=>bt rfl (bt rfl (aW (by rw [List.length_singleton];omega) (wpS (by rw [List.length_append,List.length_singleton];omega))))) (fun _=>wpS (by omega))) ?_
  intro D' jj
  rw [hw]
  refine (ih D' (k+1) (by omega) (by omega) (by omega)).mono fun z hz=>⟨by omega,hz.2⟩
theorem Ba (F:Nat) (hF:2500≤F) (B:List UInt8) (L:List ak) (rs:List an) (hB:B.length≤1000) (hL:L.length≤450) (hT:TB B L) (hR:RO L rs):∀ (m:Nat) (D:List aj) (i:Nat) (f:Int),rs.length - i<m→i≤rs.length→0≤f→f≤L.length→Tl f (rs.drop i)→D.length+(L.length - f.toNat)≤100000→Wp (correctorref12_told_l1 F B L rs m D (i:Int)) (fun D'=>D'.length≤D.length+(L.length - f.toNat)):=by
 have hlen:=hR.len
 intro m
 induction m with
 | zero=>intro D i f h1;omega
 | succ m ih=>
  intro D i f h1 h2 ad ae j ag
  rw [correctorref12_told_l1]
  refine aw (fun c=>?_) (fun c=>wpS (by omega))
  have hi:i<rs.length:=by omega
  have hg:=List.getElem?_eq_getElem hi
  have hb:0≤(i:Int)∧(i:Int)<(rs.length:Int):=by omega
  have hw:af ((i:Int)+1)=((i+1:Nat):Int):=by rw [a4 (by omega) (by omega)];omega
  obtain ⟨r0,r1,J⟩:=hR.lZ _ (List.mem_of_getElem? hg)
  rw [List.drop_eq_getElem_cons hi] at j
  obtain ⟨ai,U⟩:=j
  simp only [if_pos hb,Int.toNat_natCast,hg]
  have e:rs[i].ah=((rs[i].ah.toNat:Nat):Int):=by omega
  have hh:=y5 F hF B L rs hB hL hT i _ hg ⟨r0,r1,J⟩ F D rs[i].ah.toNat (by omega) (by omega) (by omega)
  rw [← e] at hh
  refine bt rfl (bj hh ?_)
  rintro ⟨aa,i1⟩ ⟨ab,I⟩
  simp only at ab I ⊢
  subst I
  rw [hw]
  refine (ih aa (i+1) rs[i].To (by omega) (by omega) (by omega) (by omega) U (by omega)).mono fun D' jj=>by omega
theorem Au (F:Nat) (B:List UInt8) (L:List ak) (rs:List an) (i:Nat) (hi:i<L.length) (l:List Int) (hl:l.length≤1000):∀ (m:Nat) (D:List aj) (j:Nat),l.length - j<m→j≤l.length→D.length+(l.length - j)≤100000→Wp (correctorref12_told_l5 F B L rs m D (i:Int) l (j:Int)) (fun z=>z.1.length≤D.length+(l.length - j)∧z.2=(i:Int)):=by
 intro m
 induction m with
 | zero=>intro D j h1;omega
 | succ m ih=>
  intro D j h1 h2 I
  rw [correctorref12_told_l5]
  have hw:af ((j:Int)+1)=((j+1:Nat):Int):=by rw [a4 (by omega) (by omega)];omega
  refine aw (fun c=>?_) (fun c=>wpS ⟨by simp,rfl⟩)
  refine aW (by omega) (ay (aY (by omega) fun t ht=>?_))
  refine aW (by omega) (ay (aY (by omega) fun t ht=>?_))
  refine aW (by omega) (ay (aY (by omega) fun t ht=>?_))
  refine aW (by omega) (ay (aY (by omega) fun t ht=>?_))
  refine aW (by rw [List.length_singleton];omega) ?_
  rw [hw]
  refine (ih _ (j+1) (by omega) (by omega) (by rw [List.length_append,List.length_singleton];omega)).mono fun z hz=>?_
  rw [List.length_append,List.length_singleton] at hz
  exact ⟨by omega,hz.2⟩
theorem An (F:Nat) (hF:2500≤F) (B:List UInt8) (L:List ak) (rs:List an) (hB:B.length≤1000) (hL:L.length≤450) (hT:TB B L):∀ (m:Nat) (D:List aj) (i:Nat) (f e:Int),L.length - i<m→i≤L.length→0≤f→e≤B.length→Tg f (L.drop i) e→D.length+((e - f).toNat+(L.length - i))≤100000→Wp (correctorref12_told_l4 F B L rs m D (i:Int)) (fun D'=>D'.length≤D.length+((e - f).toNat+(L.length - i))):=by
 intro m
 induction m with
 | zero=>intro D i f e h1;omega
 | succ m ih=>
  intro D i f e h1 h2 al ad j ao
  rw [correctorref12_told_l4]
  refine aw (fun c=>?_) (fun c=>wpS (by omega))
  have hi:i<L.length:=by omega
  have hg:=List.getElem?_eq_getElem hi
  have hb:0≤(i:Int)∧(i:Int)<(L.length:Int):=by omega
  have hw:af ((i:Int)+1)=((i+1:Nat):Int):=by rw [a4 (by omega) (by omega)];omega
  obtain ⟨t1,t2,t3⟩:=hT _ (List.mem_of_getElem? hg)
  rw [List.drop_eq_getElem_cons hi] at j
  obtain ⟨aq,ar,U⟩:=j
  have au:=U.le
  simp only [if_pos hb,Int.toNat_natCast,hg]
  refine bj (Q:=fun z=>z.1.length≤D.length+((L[i].To - f).toNat+1)∧z.2=(i:Int)) ?_ ?_
  ·refine bj (Q:=fun z=>match z with | .inl J=>J=D | .inr z=>z=(D,(i:Int))) ?_ ?_
   ·exact bt rfl (aw (fun _=>wpS rfl) (fun _=>bt rfl (aw (fun _=>wpS rfl) (fun _=>wpS rfl))))
   rintro (J | z) hz
   ·simp only at hz ⊢
    subst hz
    refine bt rfl (bt rfl (bt rfl (aW (by omega) ?_)))
    have gR:((B.take L[i].To.toNat).drop L[i].ah.toNat).length≤(L[i].To - f).toNat:=by rw [List.length_drop,List.length_take];omega
    refine bj (wX F L[i].Kind _ (by show (List.drop _ _).length≤20000;omega) (by show (List.drop _ _).length+30<F;omega)) ?_
    rintro ⟨s,l,en⟩ hl
    have iZ:(l.length:Int)≤(L[i].To - f).toNat:=Int.le_trans hl (by show ((List.drop _ _).length:Int)≤_;omega)
    simp only
    refine bj (Q:=fun z=>z.1.length≤J.length+1∧z.2=l) (aw (fun _=>wpS ⟨by simp,rfl⟩) (fun _=>bt rfl (bt rfl (aW (by rw [List.length_singleton];omega) (wpS ⟨by simp,rfl⟩))))) ?_
    rintro ⟨ae,ag⟩ ⟨ai,aa⟩
    simp only at ai aa ⊢
    subst aa
    have j:=Au F B L rs i hi ag (by omega) F ae 0 (by omega) (by omega) (by omega)
    refine bj j ?_
    rintro ⟨ab,i3⟩ ⟨r1,I⟩
    exact wpS ⟨by simp only at r1 ⊢;omega,I⟩
   ·simp only at hz ⊢
    subst hz
    exact wpS ⟨by simp only;omega,rfl⟩
  ·rintro ⟨ab,i3⟩ ⟨r1,I⟩
   simp only at r1 I ⊢
   subst I
   rw [hw]
   refine (ih ab (i+1) L[i].To e (by omega) (by omega) (by omega) ad U (by omega)).mono fun D' jj=>by omega
theorem B4 (F:Nat) (hF:2500≤F) (B:List UInt8) (L:List ak) (rs:List an) (hB:B.length≤450) {e:Int} (hT:Tg 0 L e) (he:e≤B.length) (hR:RO L rs):Wp (nM F B L rs) (fun D=>D.length≤1800):=by
 have uT:TB B L:=hT.tb (Int.le_refl _) he
 have hle:=hT.le
 unfold nM
 refine bj (BF F B (by omega) (by omega)) fun bad Em=>?_
 refine bj (z7 F B L rs bad (by omega) F [] 0 (by omega) (by omega) (by simp;omega)) fun j h1=>?_
 simp only [List.length_nil] at h1
 refine bj (Ba F hF B L rs (by omega) (by omega) uT hR F j 0 0 (by have:=hR.len;omega) (by omega) (Int.le_refl _) (by omega) hR.tl (by omega)) fun I h2=>?_
 refine bj (An F hF B L rs (by omega) (by omega) uT F I 0 0 e (by omega) (by omega) (Int.le_refl _) he hT (by omega)) fun J U=>wpS (by omega)
theorem xV (F:Nat) (a b:aj):Wp (nz F a b) (fun _=>True):=by
 unfold nz
 repeat' (first | (refine aw (fun _=>?_) (fun _=>?_)) | exact wpS trivial)
theorem Bv {α:Type} (xs:List α) (a b k:Nat) (h:a+k≤xs.length) (h2:b+k≤xs.length):(iH xs a b k).length=xs.length:=by
 unfold iH
 simp only [List.length_append,List.length_take,List.length_drop];omega
theorem Ax (F:Nat) (a:List aj) (i:Nat) (hi:i<a.length) (out:List aj) (ho:out.length≤100000):∀ (m:Nat) (n:Nat),n<m→n≤out.length→Wp (lM F a m out (i:Int) (n:Int)) (fun z=>z.1=out∧z.2.1=(i:Int)∧0≤z.2.2∧z.2.2≤out.length):=by
 intro m
 induction m with
 | zero=>intro n h1;omega
 | succ m ih=>
  intro n h1 h2
  rw [lM]
  refine aw (fun c=>?_) (fun c=>wpS ⟨rfl,rfl,by simp,by simp only;omega⟩)
  have hw:af ((n:Int) - 1)=((n - 1:Nat):Int):=by rw [a4 (by omega) (by omega)];omega
  rw [hw]
  refine aW (by omega) (ay (aY (by omega) fun t ht=>?_))
  refine aW (by omega) (ay (aY (by omega) fun u hu=>?_))
  refine bj (xV F t u) fun b _=>?_
  exact aw (fun _=>ih (n - 1) (by omega) (by omega)) (fun _=>wpS ⟨rfl,rfl,by simp,by simp only;omega⟩)
theorem A6 (F:Nat) (a:List aj) (ha:a.length≤90000) (hF:a.length+10<F):Wp (nQ F a) (fun _=>True):=by
 have key:∀ (m:Nat) (out:List aj) (i:Nat),a.length - i<m→i≤a.length→out.length≤i→Wp (correctorref14_Sort_l0 F a m out (i:Int)) (fun _=>True):=by
  intro m
  induction m with
  | zero=>intro out i h1;omega
  | succ m ih=>
   intro out i h1 h2 ag
   rw [correctorref14_Sort_l0]
   refine aw (fun c=>?_) (fun c=>wpS trivial)
   have hi:i<a.length:=by omega
   have hw:af ((i:Int)+1)=((i+1:Nat):Int):=by rw [a4 (by omega) (by omega)];omega
   refine bj (Q:=fun z=>z.1.length≤i+1∧z.2=(i:Int)) ?_ ?_
   ·refine bj (Ax F a i hi out (by omega) F out.length (by omega) (Nat.le_refl _)) ?_
    rintro ⟨I,i2,k⟩ ⟨J,U,ab,ad⟩
    simp only at J U ab ad ⊢
    subst J U
    have pU:af (k+1)=k+1:=a4 (by omega) (by omega)
    rw [pU]
    refine bj (Q:=fun z=>match z with | .inl o=>o=I | .inr z=>z=(I,(i:Int))) ?_ ?_
    ·refine aw (fun c0=>?_) (fun _=>wpS rfl)
     rw [a4 (by omega) (by omega)]
     refine aW (by omega) (ay (aY (by omega) fun t ht=>?_))
     refine aW (by omega) (ay (aY (by omega) fun u hu=>?_))
     exact aw (fun _=>wpS rfl) (fun _=>wpS rfl)
    rintro (j | z) hz
    ·simp only at hz ⊢
     subst hz
     have hlen:(j++[(⟨0,0,0⟩:aj)]).length=j.length+1:=by simp
     have c3:=Bv (j++[(⟨0,0,0⟩:aj)]) (k+1).toNat k.toNat (Nat.min (((j++[(⟨0,0,0⟩:aj)]).length:Int).toNat - k.toNat) (((j++[(⟨0,0,0⟩:aj)]).length:Int).toNat - (k+1).toNat)) (by rw [hlen];simp only [Nat.min_def];split<;>omega) (by rw [hlen];simp only [Nat.min_def];split<;>omega)
     refine aW (by rw [List.length_singleton];omega) (aW (by rw [hlen];omega) (aW (by rw [hlen];omega) ?_))
     refine aW (by omega) (ay (aY (by omega) fun t ht=>?_))
     refine aW (by rw [c3,hlen];omega) (ay (aY (by rw [c3,hlen];omega) fun u hu=>wpS ⟨?_,rfl⟩))
     show (List.set _ _ _).length≤_
     rw [List.length_set,c3,hlen];omega
    ·simp only at hz ⊢
     subst hz
     exact wpS ⟨by simp only;omega,rfl⟩
   ·rintro ⟨ae,i4⟩ ⟨r1,aa⟩
    simp only at r1 aa ⊢
    subst aa
    rw [hw]
    exact ih ae (i+1) (by omega) (by omega) r1
 unfold nQ
 exact bj (key F [] 0 (by omega) (by omega) (by simp)) fun _ _=>wpS trivial
theorem DF (F:Nat) (hF:5000≤F) (B:List UInt8) (hB:B.length≤450) (depth:Int) (hd:1≤depth∧depth≤50):Wp (ly F B depth) (fun z=>Tg 0 z.1 B.length∧G z.2.1.al z.1.length∧(z.2.1.al.length:Int)≤2000):=by
 unfold ly
 refine gG (by omega) (gG (by omega) ?_)
 refine bj (zD F B (by omega) (by omega)) fun L hL=>?_
 have hT:=hL.tg
 have hle:=hT.le
 obtain ⟨rs,r1,j⟩:=CR F (by omega) hL (by omega) (Int.le_refl _)
 refine bt r1 (bt (vJ F (L.length:Int) (by omega) (by omega)) ?_)
 have hp:PI (L.length:Int) (⟨⟨L,⟨[⟨1,0,(L.length:Int), -1,[],false⟩]⟩,[],(L.length:Int)⟩,rs, -1,false,[],depth,0⟩:Pp) 0:=
  ⟨⟨⟨by show (0:Int)≤L.length;omega,Int.le_refl _,by show L.length≤450;omega,hL.kinds⟩,rfl,G.new _ (by omega),fun i x hx h0=>by
   cases i with
   | zero=>omega
   | succ i=>simp at hx⟩,j,by show 0≤depth∧depth≤100;omega, .inl ⟨rfl,rfl⟩,by simp,by simp⟩
 have hlen:=j.len
 have vI:=Br F (by omega) B depth (n:=(L.length:Int)) (L:=L) (rs:=rs) F (⟨⟨L,⟨[⟨1,0,(L.length:Int), -1,[],false⟩]⟩,[],(L.length:Int)⟩,rs, -1,false,[],depth,0⟩:Pp) 0 (by omega) (by omega) rfl rfl hp (Int.le_refl _) (by show (0:Int)≤L.length;omega)
 refine bj vI ?_
 rintro ⟨ab,ad,I,doc,root,S,dep,read⟩ ⟨J,U,ae,aa,af,ag⟩
 simp only at J U ae aa af ag ⊢
 subst J U
 refine bj (B4 F (by omega) B ab ad hB hT (Int.le_refl _) j) fun D hD=>?_
 refine aW (by omega) (bj (A6 F (I.D++D) (by rw [List.length_append];omega) (by rw [List.length_append];omega)) fun ah _=>wpS ⟨hT,aa,by show (I.T.al.length:Int)≤2000;omega⟩)
end Go.Proofs.Ytcilejikekccmaa.M
namespace Go.Proofs.Ytcilejikekccmaa.M
open Go Am Sy
def wi (a n:Int):Int:=if a.tmod n<0 then a.tmod n+n else a.tmod n
theorem rl (a n:Int) (hn:0<n):0≤wi a n∧wi a n<n:=by
 unfold wi
 have h1:=Int.tmod_lt_of_pos a hn
 have h2:=Int.lt_tmod_of_pos a hn
 split<;>omega
theorem pP (F:Nat) (a n:Int) (hn:0<n) (hm:n≤1000000000):kS F a n=some (wi a n):=by
 unfold kS
 have h1:=Int.tmod_lt_of_pos a hn
 have h2:=Int.lt_tmod_of_pos a hn
 rw [if_pos (by omega)]
 by_cases h:a.tmod n<0
 ·rw [if_pos h]
  simp only [Option.bind_some]
  unfold wi
  rw [if_pos h,a4 (by omega) (by omega)]
 ·rw [if_neg h]
  simp only [Option.bind_some]
  unfold wi
  rw [if_neg h]
theorem zX:py 6000=some true:=by decide+kernel
theorem Tg.ord:∀ {s:List ak} {f e:Int},Tg f s e→(∀ (j:Nat) t,s[j]?=some t→f≤t.ah∧t.ah<t.To∧t.To≤e)∧∀ (i j:Nat) t u,i<j→s[i]?=some t→s[j]?=some u→t.To≤u.ah:=by
 intro s
 induction s with
 | nil=>intro f e h;exact ⟨fun j t ht=>by simp at ht,fun i j t u _ ht=>by simp at ht⟩
 | cons x s ih=>
  rintro f e ⟨h1,h2,I⟩
  obtain ⟨i1,i2⟩:=ih I
  have hle:=I.le
  refine ⟨fun j t ht=>?_,fun i j t u k3 ht hu=>?_⟩
  ·cases j with
   | zero=>simp at ht;subst ht;omega
   | succ j=>have:=i1 j t (by simpa using ht);omega
  ·cases j with
   | zero=>omega
   | succ j=>
    simp only [List.getElem?_cons_succ] at hu
    cases i with
    | zero=>simp at ht;subst ht;exact (i1 j u hu).1
    | succ i=>exact i2 i j t u (by omega) (by simpa using ht) hu
theorem se (F:Nat) (L:List ak) (x:aq) (hL:L.length≤1000) (h0:0≤x.ah) (h1:x.ah≤x.To) (h2:x.To≤L.length):Wp (lS F L x) (fun s=>(x.ah<x.To→∃ t u,L[x.ah.toNat]?=some t∧L[(x.To - 1).toNat]?=some u∧s=⟨t.ah,u.To⟩)∧(x.ah=x.To→s.ah=s.To)):=by
 unfold lS oR
 have hw:af (x.To - 1)=x.To - 1:=a4 (by omega) (by omega)
 rw [hw]
 by_cases c:x.ah<x.To
 ·refine bj (Q:=fun s=>∃ t u,L[x.ah.toNat]?=some t∧L[(x.To - 1).toNat]?=some u∧s= .inr ⟨t.ah,u.To⟩) ?_ ?_
  ·refine bj (Q:=fun b=>b=true) (aW c (aW h0 (aW h2 (wpS rfl)))) ?_
   rintro b rfl
   exact aW rfl (aW (by omega) (ay (aY (by omega) fun t ht=>aW (by omega) (ay (aY (by omega) fun u hu=>wpS ⟨t,u,ht,hu,rfl⟩)))))
  ·rintro s ⟨t,u,j,I,rfl⟩
   exact wpS ⟨fun _=>⟨t,u,j,I,rfl⟩,fun q=>by omega⟩
 ·refine bj (Q:=fun s=>∃ y,s= .inl y) ?_ ?_
  ·refine bj (Q:=fun b=>b=false) (gG c (wpS rfl)) ?_
   rintro b rfl
   refine gG (by simp) ?_
   refine bj (Q:=fun b=>b=true→x.ah<L.length) (aw (fun _=>aw (fun q=>wpS fun _=>q) (fun _=>wpS fun q=>by cases q)) (fun _=>wpS fun q=>by cases q)) ?_
   intro b hb
   refine aw (fun q=>aW (by have:=hb q;omega) (ay (aY (by have:=hb q;omega) fun t ht=>wpS ⟨_,rfl⟩))) (fun _=>?_)
   refine aw (fun q=>?_) (fun _=>wpS ⟨_,rfl⟩)
   rw [a4 (by omega) (by omega)]
   exact aW (by omega) (ay (aY (by omega) fun t ht=>wpS ⟨_,rfl⟩))
  ·rintro s ⟨y,rfl⟩
   exact wpS ⟨fun q=>absurd q c,fun _=>rfl⟩
theorem xz:∀ (n:Nat) (l:List Nat),l.Nodup→(∀ x∈l,x<n)→l.length≤n:=by
 intro n
 induction n with
 | zero=>
  intro l _ h
  cases l with
  | nil=>simp
  | cons x l=>exact absurd (h x List.mem_cons_self) (by omega)
 | succ n ih=>
  intro l hn h
  by_cases c:n∈l
  ·have h1:=ih (l.erase n) (hn.erase n) (fun x hx=>by
    have h2:=h x (List.mem_of_mem_erase hx)
    have:x≠n:=fun e=>by subst e;exact (hn.not_mem_erase) hx
    omega)
   rw [List.length_erase_of_mem c] at h1
   omega
  ·have:=ih l hn (fun x hx=>by
    have h2:=h x hx
    have:x≠n:=fun e=>by subst e;exact c hx
    omega)
   omega
theorem CL:∀ (n:Nat) (l:List Nat),l.Nodup→(∀ x∈l,x<n)→n≤l.length→∀ k,k<n→k∈l:=by
 intro n l hn h hl k hk
 rcases Classical.em (k∈l) with c | c
 ·exact c
 ·have h1:=xz n (k::l) (List.nodup_cons.2 ⟨c,hn⟩) (fun x hx=>by
   rcases List.mem_cons.1 hx with rfl | hx
   ·exact hk
   ·exact h x hx)
  rw [List.length_cons] at h1
  omega
theorem yc {N:List aq} {n:Int} (h:G N n):∀ (i:Nat),(((N.drop i).flatMap (·.Kids)).map Int.toNat).Nodup∧(∀ k∈((N.drop i).flatMap (·.Kids)).map Int.toNat,k<N.length∧0<k∧∃ (j:Nat) (x:aq),i≤j∧N[j]?=some x∧(k:Int)∈x.Kids):=by
 have fin:∀ i,N.length≤i→(((N.drop i).flatMap (·.Kids)).map Int.toNat).Nodup∧(∀ k∈((N.drop i).flatMap (·.Kids)).map Int.toNat,k<N.length∧0<k∧∃ (j:Nat) (x:aq),i≤j∧N[j]?=some x∧(k:Int)∈x.Kids):=by
  intro i hi
  rw [List.drop_eq_nil_of_le hi]
  exact ⟨List.nodup_nil,fun k hk=>by simp at hk⟩
 have gen:∀ (d i:Nat),i+d=N.length→(((N.drop i).flatMap (·.Kids)).map Int.toNat).Nodup∧(∀ k∈((N.drop i).flatMap (·.Kids)).map Int.toNat,k<N.length∧0<k∧∃ (j:Nat) (x:aq),i≤j∧N[j]?=some x∧(k:Int)∈x.Kids):=by
  intro d
  induction d with
  | zero=>intro i hi;exact fin i (by omega)
  | succ d ih=>
   intro i hi
   have di:i<N.length:=by omega
   have hg:=List.getElem?_eq_getElem di
   obtain ⟨af,ad⟩:=ih (i+1) (by omega)
   rw [List.drop_eq_getElem_cons di,List.flatMap_cons,List.map_append]
   have hm:∀ k∈N[i].Kids,(i:Int)<k∧k<N.length∧∃ y,N[k.toNat]?=some y∧y.Up=i:=fun k hk=>by
    obtain ⟨y,I,J,U,ae,_⟩:=(h.c5 i _ hg).1.mem k hk
    exact ⟨I,J,y,U,ae⟩
   refine ⟨List.nodup_append.2 ⟨?_,af,?_⟩,?_⟩
   ·have gw:=h.nd _ (List.mem_of_getElem? hg)
    refine List.Pairwise.map _ (fun a b gK=>gK) ?_
    refine List.Pairwise.imp_of_mem (fun {a b} ha hb gK e=>gK ?_) gw
    obtain ⟨I,_⟩:=hm a ha
    obtain ⟨J,_⟩:=hm b hb
    omega
   ·intro a ha b hb e
    subst e
    obtain ⟨k,hk,rfl⟩:=List.mem_map.1 ha
    obtain ⟨I,J,y,U,ae⟩:=hm k hk
    obtain ⟨_,_,j,x,w1,w2,aa⟩:=ad _ hb
    obtain ⟨ah,_,_,ab,v4,_⟩:=(h.c5 j x w2).1.mem _ aa
    rw [Int.toNat_natCast,U] at ab
    simp only [Option.some.injEq] at ab
    subst ab
    omega
   ·intro k hk
    rcases List.mem_append.1 hk with hk | hk
    ·obtain ⟨c,hc,rfl⟩:=List.mem_map.1 hk
     obtain ⟨I,J,_⟩:=hm c hc
     exact ⟨by omega,by omega,i,_,Nat.le_refl _,hg,by rw [Int.toNat_of_nonneg (by omega)];exact hc⟩
    ·obtain ⟨w0,ag,j,x,w1,w2,aa⟩:=ad k hk
     exact ⟨w0,ag,j,x,by omega,w2,aa⟩
 intro i
 rcases Nat.lt_or_ge i N.length with q | q
 ·exact gen (N.length - i) i (by omega)
 ·exact fin i q
theorem G.gg {N:List aq} {n:Int} (h:G N n) {k:Nat} (h0:0<k) (hk:k<N.length) {z:aq} (hz:N[k]?=some z):∃ (j:Nat) (x:aq),z.Up=j∧N[j]?=some x∧(k:Int)∈x.Kids∧j<k:=by
 obtain ⟨U,I⟩:=yc h 0
 rw [List.drop_zero] at U I
 have hlen:(((N.flatMap (·.Kids)).map Int.toNat)).length=dU N:=by
  rw [List.length_map,List.length_flatMap];rfl
 have hs:=h.sum
 have ab:0∉(N.flatMap (·.Kids)).map Int.toNat:=fun hm=>by have:=(I 0 hm).2.1;omega
 have hm:=CL N.length (0::(N.flatMap (·.Kids)).map Int.toNat) (List.nodup_cons.2 ⟨ab,U⟩) (fun x hx=>by
  rcases List.mem_cons.1 hx with rfl | hx
  ·exact h.pos
  ·exact (I x hx).1) (by rw [List.length_cons,hlen];omega) k hk
 rcases List.mem_cons.1 hm with rfl | hm
 ·omega
 ·obtain ⟨_,_,j,x,_,w2,aa⟩:=I k hm
  obtain ⟨y,v1,_,J,v4,_⟩:=(h.c5 j x w2).1.mem _ aa
  rw [Int.toNat_natCast,hz] at J
  simp only [Option.some.injEq] at J
  subst J
  exact ⟨j,x,v4,w2,aa,by omega⟩
theorem LP.gg {l:List aq} {i To:Int}:∀ {ks:List Int} {e:Int},LP l i To e ks→(∀ k∈ks,∀ y,l[k.toNat]?=some y→y.ah≤y.To)→∀ k∈ks,∃ y,l[k.toNat]?=some y∧e≤y.ah∧y.To≤To:=by
 intro ks
 induction ks with
 | nil=>intro e _ _ k hk;cases hk
 | cons j ks ih=>
  rintro e ⟨y,h1,h2,ae,I,af,J,U,aa⟩ hr k hk
  have hy:=hr j List.mem_cons_self y I
  rcases List.mem_cons.1 hk with rfl | hk
  ·exact ⟨y,I,J,U⟩
  ·obtain ⟨z,ab,ag,ad⟩:=ih aa (fun k hk=>hr k (List.mem_cons_of_mem _ hk)) k hk
   exact ⟨z,ab,by omega,ad⟩
theorem G.u3 {N:List aq} {n:Int} (h:G N n) {i:Nat} {x:aq} (hx:N[i]?=some x) {k:Int} (hk:k∈x.Kids):∃ y,N[k.toNat]?=some y∧x.ah≤y.ah∧y.ah≤y.To∧y.To≤x.To:=by
 obtain ⟨y,j,I,J⟩:=(h.c5 i x hx).1.gg (fun k _ y hy=>(h.c5 _ y hy).2) k hk
 exact ⟨y,j,I,(h.c5 _ y j).2,J⟩
theorem G.lZ {N:List aq} {n:Int} (h:G N n):∀ (m k:Nat),k<m→∀ x,N[k]?=some x→0≤x.ah∧x.ah≤x.To∧x.To≤n:=by
 intro m
 induction m with
 | zero=>intro k hk;omega
 | succ m ih=>
  intro k hk x hx
  rcases Nat.eq_zero_or_pos k with z | z
  ·subst z
   obtain ⟨r,r1,_,U,aa,_⟩:=h.root
   rw [hx] at r1;simp only [Option.some.injEq] at r1;subst r1
   have:=(h.c5 0 x hx).2
   omega
  ·obtain ⟨j,y,ab,I,J,ad⟩:=h.gg z (iA hx) hx
   obtain ⟨w,w1,w2,ae,af⟩:=h.u3 I J
   rw [Int.toNat_natCast,hx] at w1;simp only [Option.some.injEq] at w1;subst w1
   have:=ih j (by omega) y I
   omega
end Go.Proofs.Ytcilejikekccmaa.M
namespace Go.Proofs.Ytcilejikekccmaa.M
open Go Am Sy
theorem wm (F:Nat) (hF:2500≤F) (ls:List Int):Wp (m7 F ls) (fun b=>b.length≤400):=by
 have key:∀ (m:Nat) (s:aL) (i:Nat),21 - i<m→i≤20→s.b.length≤20 * i→Wp (correctorlaw13_lines_l0 F ls m s (i:Int)) (fun s'=>s'.b.length≤400):=by
  intro m
  induction m with
  | zero=>intro s i h1;omega
  | succ m ih=>
   intro s i h1 h2 J
   rw [correctorlaw13_lines_l0]
   refine aw (fun c=>?_) (fun c=>wpS (by omega))
   refine aw (fun c2=>?_) (fun c2=>wpS (by omega))
   have hw:af ((i:Int)+1)=((i+1:Nat):Int):=by rw [a4 (by omega) (by omega)];omega
   refine aW (by omega) (ay (aY (by omega) fun t ht=>?_))
   have hr:=rl t 5 (by omega)
   refine bt (pP F t 5 (by omega) (by omega)) ?_
   generalize wi t 5=k at hr
   have hl:((([32,32,32,32,32,32]:List UInt8).take k.toNat).drop (0:Int).toNat).length≤4:=by
    rw [show (0:Int).toNat=0 from rfl,List.drop_zero,List.length_take];omega
   refine aW (by simp only [List.length_cons,List.length_nil];omega) (aW (by omega) (aW (by omega) (ay (aY (by omega) fun u hu=>?_))))
   have I:=rl (af (u.tdiv 5)) 8 (by omega)
   refine bt (pP F _ 8 (by omega) (by omega)) ?_
   generalize wi (af (u.tdiv 5)) 8=j at I
   refine aW (by simp only [List.length_cons,List.length_nil];omega) (ay (aY (by simp only [List.length_cons,List.length_nil];omega) fun v hv=>?_))
   have U:v.b.length≤9:=by
    have hm:=List.mem_of_getElem? hv
    simp only [List.mem_cons,List.not_mem_nil,or_false] at hm
    rcases hm with rfl | rfl | rfl | rfl | rfl | rfl | rfl | rfl<;>simp
   have aa:(s.b++((([32,32,32,32,32,32]:List UInt8).take k.toNat).drop (0:Int).toNat)).length≤20 * i+4:=by rw [List.length_append];omega
   refine aW (by omega) (aW (by rw [List.length_append,List.length_singleton];omega) ?_)
   rw [hw]
   refine ih _ (i+1) (by omega) (by omega) ?_
   show (List.length (_++_))≤_
   rw [List.length_append,List.length_append,List.length_singleton];omega
 unfold m7
 refine bj (key F ⟨[]⟩ 0 (by omega) (by omega) (by simp)) fun s hs=>wpS hs
theorem Ds (F:Nat) (N:List aq) (hN:N.length≤100000) (hF:N.length+10<F):Wp (nS F ⟨N⟩) (fun k=>0≤k):=by
 have key:∀ (m:Nat) (e:Int) (i:Nat),N.length - i<m→i≤N.length→0≤e→e≤i→Wp (walk_Errors_l0 F ⟨N⟩ m e (i:Int)) (fun k=>0≤k):=by
  intro m
  induction m with
  | zero=>intro e i h1;omega
  | succ m ih=>
   intro e i h1 h2 j J
   rw [walk_Errors_l0]
   refine aw (fun c=>?_) (fun c=>wpS j)
   simp only at c
   have hw:af ((i:Int)+1)=((i+1:Nat):Int):=by rw [a4 (by omega) (by omega)];omega
   have I:af (e+1)=e+1:=a4 (by omega) (by omega)
   refine aW (by simp only;omega) (ay (aY (by simp only;omega) fun t ht=>?_))
   refine bj (Q:=fun z=>z=e∨z=e+1) (aw (fun _=>wpS (by rw [I];exact .inr rfl)) (fun _=>wpS (.inl rfl))) ?_
   intro z hz
   rw [hw]
   exact ih z (i+1) (by omega) (by omega) (by omega) (by omega)
 unfold nS
 exact bj (key F 0 0 (by omega) (by omega) (by omega) (by omega)) fun k hk=>wpS hk
theorem xI (F:Nat) (ls:List Int) (d:Int) {L:List ak} {N:List aq} {e:Int} (hT:Tg 0 L e) (h:G N L.length) (hL:L.length≤1000) (hN:N.length≤100000):∀ (m i:Nat),N.length - i<m→1≤i→Wp (correctorlaw13_WalkSpans_l0 F ls d m L N (i:Int)) (fun s=>s= .inl N):=by
 intro m
 induction m with
 | zero=>intro i h1;omega
 | succ m ih=>
  intro i h1 h2
  rw [correctorlaw13_WalkSpans_l0]
  refine aw (fun c=>?_) (fun c=>wpS rfl)
  have hi:i<N.length:=by omega
  have hg:=List.getElem?_eq_getElem hi
  have hw:af ((i:Int)+1)=((i+1:Nat):Int):=by rw [a4 (by omega) (by omega)];omega
  have hr:=h.lZ (i+1) i (by omega) _ hg
  obtain ⟨j,u,ab,I,ad,aj⟩:=h.gg (by omega) hi hg
  obtain ⟨w,w1,w2,al,an⟩:=h.u3 I ad
  rw [Int.toNat_natCast,hg] at w1;simp only [Option.some.injEq] at w1;subst w1
  have J:=h.lZ (j+1) j (by omega) _ I
  obtain ⟨U,ae⟩:=hT.ord
  refine aW (by omega) ?_
  rw [Int.toNat_natCast,hg]
  refine bt rfl (bj (se F L _ hL hr.1 hr.2.1 hr.2.2) ?_)
  intro a ha
  rw [ab]
  refine aW (by have:=iA I;omega) ?_
  rw [Int.toNat_natCast,I]
  refine bt rfl (bj (se F L _ hL J.1 J.2.1 J.2.2) ?_)
  intro b hb
  refine bj (Q:=fun s=>s= .inl (L,N)) ?_ ?_
  ·refine aw (fun c1=>?_) (fun c1=>?_)
   ·obtain ⟨t1,t2,a1,aa,rfl⟩:=ha.1 c1
    obtain ⟨t3,t4,ag,ai,rfl⟩:=hb.1 (by omega)
    have ord:∀ (x y:Int) t u,0≤x→x≤y→L[x.toNat]?=some t→L[y.toNat]?=some u→t.ah≤u.ah∧t.To≤u.To:=by
     intro x y t u h0 js ht hu
     rcases Int.lt_or_eq_of_le js with z | z
     ·have ao:=ae x.toNat y.toNat t u (by omega) ht hu
      have ar:=U _ t ht
      have au:=U _ u hu
      omega
     ·subst z;rw [ht] at hu;simp only [Option.some.injEq] at hu;subst hu;omega
    have e1:=ord u.ah N[i].ah t3 t1 (by omega) w2 ag a1
    have av:=ord (N[i].To - 1) (u.To - 1) t2 t4 (by omega) (by omega) aa ai
    have ax:=ord N[i].ah (N[i].To - 1) t1 t2 (by omega) (by omega) a1 aa
    have ay:=U _ t1 a1
    refine gG (by show ¬ t1.ah<t3.ah;omega) (gG (by show ¬ t4.To<t2.To;omega) (gG (by show ¬ t2.To≤t1.ah;omega) (gG (by omega) (wpS rfl))))
   ·exact aW (by omega) (aW (ha.2 (by omega)) (wpS rfl))
  ·rintro s rfl
   simp only
   rw [hw]
   exact ih (i+1) (by omega) (by omega)
theorem xy (F:Nat) (ls:List Int) (depth:Int) (hF:F=6000):correctorlaw13_WalkSpans F ls depth=some true:=by
 have:Wp (correctorlaw13_WalkSpans F ls depth) (fun b=>b=true):=by
  unfold correctorlaw13_WalkSpans
  rw [hF]
  refine bt zX (aW rfl ?_)
  rw [← hF]
  refine bj (wm F (by omega) ls) fun b hb=>?_
  have hr:=rl depth 20 (by omega)
  refine bt (pP F depth 20 (by omega) (by omega)) ?_
  have hw:af (1+wi depth 20)=1+wi depth 20:=a4 (by omega) (by omega)
  rw [hw]
  refine bj (DF F (by omega) b (by omega) _ (by omega)) ?_
  rintro ⟨L,T,D⟩ ⟨h1,h2,j⟩
  simp only at h1 h2 j ⊢
  have hle:=h1.le
  refine bj (xI F ls depth h1 h2 (by omega) (by omega) F 1 (by omega) (by omega)) ?_
  rintro s rfl
  unfold lj
  refine bt rfl (bj (Ds F T.al (by omega) (by omega)) fun k hk=>aW hk (wpS rfl))
 obtain ⟨b,h1,rfl⟩:=this
 exact h1
end Go.Proofs.Ytcilejikekccmaa.M
namespace Go.Proofs.Ytcilejikekccmaa.walkSpans
open Go.Proofs.Ytcilejikekccmaa.Am
open Go.Proofs.Ytcilejikekccmaa
open Go.ChangeShapes Go.WideShapes Go.ChangeAt Go.RowKit
theorem own:ownKnob Try.prog.godebug=none:=by kernel_rfl
theorem kids:Kids Try.prog (·<Try.prog.types.size):=kids_rows (by kernel_rfl) (by kernel_rfl)
theorem full:∀ t e,t<Try.prog.types.size→Try.prog.underlying t=some (.slice e)→0<Try.prog.cellsOf e:=slices_full_of _ (by kernel_rfl)
theorem wM:∀ t∈Try.f5.params.toList,t<Try.prog.types.size:=by
  rw [Try.params5]
  exact of_decide_eq_true (by kernel_rfl)
set_option maxRecDepth 100000 in
theorem lifted (os:Os) (started:os.Started) (H:Type) (enc:TypeId×Value→H):
    ReturnsInHanded {} Try.checked os 5 .any (Rows.walkSpansSpec.pre6 enc Try.prog Try.f5 Rows.walkSpansRow.domain false) (Rows.walkSpansSpec.post enc Try.prog Try.f5 false true false false):=by
  refine returnsInHanded_of_change (C:=Try.checked) own started (by kernel_rfl) Try.func5
    (ChangeSpec.witness6 (enc:=enc) (C:=Try.checked) false ⟨#[],#[.slice none 0 0, .int .i64 0],[]⟩ 8 (by kernel_rfl) (by kernel_rfl) (by kernel_rfl) (by kernel_rfl)) ?_
  intro W base args ds gs before U hW Ey _
  have p7:∀ (j:Nat) t v,Try.f5.params[j]?=some t→args[j]?=some v→Value.okWide Try.prog W .any base t v:=U
  have s7:=hW
  have bm:=fun p hp=>s7.lt p hp
  obtain ⟨p,q,I,hV,rfl,Er,gw⟩:=hW
  have hA:DataW.TrodAll enc Try.prog W 0 (fun _=>true) true Try.f5.params.toList args.toList ds p:=I
  rw [Try.params5] at hA p7
  obtain ⟨v0,ad,d0,ae,af,ag,dQ,rfl,rfl,h0,r0⟩:=trodAll_cons hA
  obtain ⟨v1,ah,d1,ai,aj,al,rfl,rfl,rfl,h1,r1⟩:=trodAll_cons r0
  obtain ⟨rfl,rfl,rfl⟩:=trodAll_nil r1
  obtain rfl:args=#[v0,v1]:=by cases args;simp_all
  obtain ⟨rfl,rfl⟩:=trodVars_none hV
  obtain ⟨aa,rfl,rfl,rfl,w1⟩:=open_int Try.underlying3 (p7 1 3 v1 rfl rfl) h1
  letI:Marks:=⟨fun _=>0⟩
  obtain ⟨ρ0,Z0,an,ao,ab,J,aq,ar,e0,s0,g0⟩:=M.zW (Sy.C3 Try.underlying23 (by kernel_rfl) (Sy.wT Try.underlying3)) Try.underlying23 (p7 0 23 v0 rfl rfl) h0 (Sy.wE W)
  obtain ⟨v,h',hc,_,rfl⟩:=M.yF (6000) (J).inv s0 (M.xy (6000) ab aa rfl)
  refine (M.B5 M.zT J hc (LR.cons e0 (LR.cons (.int _ _) (LR.nil _)))).mono fun e W' ⟨he,hg⟩=>?_
  subst he
  exact ⟨_,rfl,DL (pv:=[]) s7 (fun _ _ _=>(trodAll_cons_mk (shut_bool Try.underlying4 _) trodAll_mk0)) (fun sp fB=>M.sj kids full hg wM I (fun x hx=>bm x (by simpa using hx)) (fun x hx=>fB x (by simpa using hx))) (fun _ _=>rfl) rfl
    hg (ok_one (by kernel_rfl) rfl (okWide_bool_mk Try.underlying4 _))⟩
theorem over:Rows.walkSpansRow.holds Try.pinned (OpenSpec.ofChange Rows.walkSpansSpec):=
  OpenClaim.holds_of_wide 5 Try.f5 rfl rfl rfl rfl rfl rfl rfl ⟨rfl,rfl,rfl,rfl,rfl⟩ rfl rfl rfl rfl rfl (by kernel_rfl) Try.func5 (by kernel_rfl)
    (of_decide_eq_true (by kernel_rfl)) (by unfold Func.isWrapper;first | (rw [if_pos (by decide+kernel)];kernel_rfl) | (rw [if_neg (by decide+kernel)];exact ⟨rfl,rfl⟩))
    (fun os started H enc _=>lifted os started H enc)
theorem proved:Rows.WalkSpansSaid:=
  over
end Go.Proofs.Ytcilejikekccmaa.walkSpans
