/- The node of a byte has it; none in that node has; its way leads there. -/
import Derived.Test.YtcilejikekccmaaWi4
import Derived.Test.YtcilejikekccmaaRows
import Derived.WalkKit
import Derived.ProofKit
import Derived.OpenShut
import Derived.ChangeMaps5
set_option linter.unusedVariables false
set_option linter.unusedSimpArgs false
set_option maxRecDepth 100000
set_option linter.unnecessarySimpa false
namespace Go.Proofs.Ytcilejikekccmaa.M
open Go Am Sy
def Wp {α:Type} (o:Option α) (P:α→Prop):Prop:=∃ a,o=some a∧P a
theorem wpS {α:Type} {a:α} {P:α→Prop} (h:P a):Wp (some a) P:=⟨a,rfl,h⟩
theorem az {α β:Type} {o:Option α} {f:α→Option β} {P:β→Prop} (h:Wp o (fun a=>Wp (f a) P)):Wp (o.bind f) P:=by
 obtain ⟨a,rfl,b,h1,h2⟩:=h
 exact ⟨b,by simpa using h1,h2⟩
theorem aw {α:Type} {c:Prop} [Decidable c] {x y:Option α} {P:α→Prop} (h1:c→Wp x P) (h2:¬c→Wp y P):Wp (if c then x else y) P:=by
 by_cases h:c
 ·rw [if_pos h];exact h1 h
 ·rw [if_neg h];exact h2 h
theorem aY {α:Type} {l:List α} {i:Int} {P:α→Prop} (h:0≤i∧i<(l.length:Int)) (h1:∀ x,l[i.toNat]?=some x→P x):Wp (l[i.toNat]?) P:=by
 have:i.toNat<l.length:=by omega
 exact ⟨l[i.toNat],by simp [this],h1 _ (by simp [this])⟩
theorem wpE {α:Type} {o:Option α} {a:α} {P:α→Prop} (h:o=some a) (h1:P a):Wp o P:=⟨a,h,h1⟩
theorem bZ {α:Type} {P:α→Prop} (h:False):Wp none P:=h.elim
theorem Wp.mono {α:Type} {o:Option α} {P Q:α→Prop} (h:Wp o P) (k:∀ a,P a→Q a):Wp o Q:=by
 obtain ⟨a,h1,h2⟩:=h;exact ⟨a,h1,k a h2⟩
theorem aM {α:Type} {c:Prop} [Decidable c] {x y:Option α} {P:α→Prop} (h:c) (h1:Wp x P):Wp (if c then x else y) P:=by rw [if_pos h];exact h1
theorem eI {α:Type} {c:Prop} [Decidable c] {x y:Option α} {P:α→Prop} (h:¬ c) (h1:Wp y P):Wp (if c then x else y) P:=by rw [if_neg h];exact h1
theorem a7 {α β:Type} {o:Option α} {f:α→Option β} {a:α} {P:β→Prop} (h:o=some a) (h1:Wp (f a) P):Wp (o.bind f) P:=az ⟨a,h,h1⟩
theorem a8 {α β:Type} {o:Option α} {f:α→Option β} {Q:α→Prop} {P:β→Prop} (h:Wp o Q) (h1:∀ a,Q a→Wp (f a) P):Wp (o.bind f) P:=az (h.mono h1)
end Go.Proofs.Ytcilejikekccmaa.M
namespace Go.Proofs.Ytcilejikekccmaa.M
open Go Am Sy
structure Nx (n:Int) (p p':Pp):Prop where
  pi:PI n p' p'.Read
  r0:0≤p'.Read
  r1:p'.Read≤n
  rows:p'.Rows=p.Rows
  l:p'.R.L=p.R.L
theorem FI.in {L:List ak} {aH to a:Int} (h:FI L aH to a) (hc:∃ (i:Int) (t:ak),aH≤i∧i<to∧L[i.toNat]?=some t∧cn t.Kind=true):a<to:=by
  obtain ⟨i,t,I,U,J,j⟩:=hc
  rcases Int.lt_or_eq_of_le h.2.1 with z | z
  · exact z
  · rw [h.2.2.1 i t I (by omega) J] at j;cases j
theorem CP (F:Nat) (hF:2500≤F) {n:Int} {p:Pp} {q:Int} (h:PI n p q) (h0:0≤q) {r:an} (hq:q≤r.ah) (hr:r.ah<r.To) (aU:r.To≤n) (hc:∃ (i:Int) (t:ak),r.ah≤i∧i<r.To∧p.R.L[i.toNat]?=some t∧cn t.Kind=true) (kX:p.Read=r.To):Wp (nG F p r) (Nx n p):=by
  have hn:=h.rd.nl
  have dc:=h.rd.ri.n
  have b8:=h.sz
  have fM:=h.dl
  have eF:=h.dep
  obtain ⟨a,b,a1,aj,aV,aW,aF,_⟩:=jK F hF p dc r.ah r.To (by omega) (by omega) (by omega)
  have eT:=aj.in hc
  have gB:=aF eT
  have aX:=aj.1
  have hw:af (a+1)=a+1:=w1 (by omega) (by omega)
  unfold nG
  refine a7 a1 ?_
  simp only [hw]
  refine aM (by omega) ?_
  refine az (aY (by omega) fun t ht=>?_)
  refine aw (fun hk=>?_) (fun hk=>?_)
  · obtain ⟨r1,ao,aq,ar,au,av,aZ,_⟩:=iT F hF h.rd (by omega) (up:=0) .root (kind:=2) (aH:=a) (to:=a+1) (by omega) (by omega) (by omega) (by omega) (h.rd.endOf h0 0 (by omega))
    rw [show ((0:Nat):Int)=0 from rfl] at ao
    refine a7 ao ?_
    have aa:r1.L=p.R.L:=ar.l
    have a0:=ar.sz
    have J:PD n (⟨r1,p.Rows,(p.R.T.al.length:Int),false,[],p.ax,p.Read⟩:Pp) (a+1) p.R.T.al.length:=
      ⟨aq,by show RO r1.L p.Rows;rw [aa];exact h.ro,eF,by show ((0:Nat):Int)≤_;exact eF.1,rfl,au,So.nil _ _,by show (r1.T.al.length:Int)≤_;omega,by show (r1.D.length:Int)≤_;rw [av];omega⟩
    obtain ⟨x,y,c1,c2,aG,aI,aJ,_⟩:=jK F hF (⟨r1,p.Rows,(p.R.T.al.length:Int),false,[],p.ax,p.Read⟩:Pp) (by show r1.L.length≤450;rw [aa];exact dc) (a+1) r.To (by omega) (by omega) (by show _≤(r1.L.length:Int);rw [aa];omega)
    refine a7 c1 ?_
    refine az ?_
    refine aw (fun lv=>?_) (fun lv=>?_)
    · have hx:=c2.1
      obtain ⟨bb,ab,v1,v2,a2,v4,j,v6,a3,a4,a5⟩:=oR F hF J (by omega) au (Nat.le_refl _) (fun i o hi=>by simp at hi) (at_:=x) (by omega) (by omega)
      refine a7 v1 ?_
      refine wpS (wpS ⟨⟨j.rd,j.ro,j.dep, .inr ⟨_,j.doc,j.ds,j.si,j.sl⟩,?_,?_⟩,?_,v4,v2.rows,v6.trans aa⟩)
      · show (ab.R.T.al.length:Int)≤4 * ab.Read+4;omega
      · show (ab.R.D.length:Int)≤4 * ab.Read+4;omega
      · show 0≤ab.Read;omega
    · refine wpS (wpS ⟨⟨?_,J.ro,eF, .inr ⟨_,J.doc,J.ds,J.si,J.sl⟩,?_,?_⟩,?_,?_,rfl,aa⟩)
      · show Rd n r1 p.Read;exact aq.mono (by omega)
      · show (r1.T.al.length:Int)≤4 * p.Read+4;omega
      · show (r1.D.length:Int)≤4 * p.Read+4;rw [av];omega
      · show 0≤p.Read;omega
      · show p.Read≤n;omega
  ·
    have xF:Wp (if (0:Int)≤p.Doc then
        (ij F p.R.T p.Doc (a+1)).bind fun aK=>
        some ((⟨p.R.L,aK,p.R.D,p.R.End⟩:aL),p.Rows,p.Doc,p.aA,p.ax,p.Read)
       else
        some (p.R,p.Rows,p.Doc,p.aA,p.ax,p.Read):Option (aL×(List an)×Int×Bool×Int×Int))
        (fun z=>z.2.1=p.Rows∧z.2.2.2.2.1=p.ax∧z.2.2.2.2.2=p.Read∧Rd n z.1 (a+1)∧To p.R z.1 0 0 0):=by
      rcases h.doc with ⟨ay,aB⟩ | ⟨d,ay,aB,a6,a9⟩
      · exact eI (by omega) (wpS ⟨rfl,rfl,rfl,h.rd.mono (by omega),To.refl _ _⟩)
      · obtain ⟨t',aN,aO,aP⟩:=pK F hF h.rd (by omega) aB (to:=a+1) (by omega) (by omega)
        rw [ay]
        exact aM (by omega) (a7 aN (wpS ⟨rfl,rfl,rfl,aO,aP 0⟩))
    refine a8 xF ?_
    rintro ⟨I,ba,bc,aR,bd,bf⟩ ⟨e1,aC,aD,ad,ae⟩
    simp only at e1 aC aD ad ae
    subst e1 aC aD
    have U:=ae.l
    have bg:=ae.sz
    have bh:=ae.dl
    obtain ⟨x,y,c1,c2,aG,aI,aJ,_⟩:=jK F hF (⟨I,p.Rows, -1,aR,[],p.ax,p.Read⟩:Pp) (by show I.L.length≤450;rw [U];exact dc) (a+1) b (by omega) (by omega) (by show _≤(I.L.length:Int);rw [U];omega)
    refine a7 c1 ?_
    have hx:=c2.1
    refine aw (fun lv=>?_) (fun lv=>?_)
    · obtain ⟨ag,aE,aT,ai,_⟩:=nv F hF ad (by omega) (by omega) (up:=0) .root (code:=8) (aH:=x) (to:=y) (by omega) lv (by omega) (by omega) (ad.endOf (by omega) 0 (by omega))
      rw [show ((0:Nat):Int)=0 from rfl] at aE
      have bj:=ai.sz
      have bk:=ai.dl
      refine a7 aE (wpS ⟨⟨?_,?_,eF, .inl ⟨rfl,rfl⟩,?_,?_⟩,?_,?_,rfl,ai.l.trans U⟩)
      · show Rd n ag p.Read;exact aT.mono (by omega)
      · show RO ag.L p.Rows;rw [ai.l,U];exact h.ro
      · show (ag.T.al.length:Int)≤4 * p.Read+4;omega
      · show (ag.D.length:Int)≤4 * p.Read+4;omega
      · show 0≤p.Read;omega
      · show p.Read≤n;omega
    · refine wpS ⟨⟨?_,?_,eF, .inl ⟨rfl,rfl⟩,?_,?_⟩,?_,?_,rfl,U⟩
      · show Rd n I p.Read;exact ad.mono (by omega)
      · show RO I.L p.Rows;rw [U];exact h.ro
      · show (I.T.al.length:Int)≤4 * p.Read+4;omega
      · show (I.D.length:Int)≤4 * p.Read+4;omega
      · show 0≤p.Read;omega
      · show p.Read≤n;omega
theorem So.last {N:List aq} {d:Nat} {S:List Oo} (h:So N d S) {k:Nat} {o o':Oo} (hk:S[k]?=some o) (hl:k+1=S.length) (hn:o'.Node=o.Node) (hc:o'.Has=false→∃ c:Nat,o'.bP=c∧o.Node<c∧Sp N c):So N d (S.set k o'):=by
  have eY:∀ (i:Nat) x,(S.set k o')[i]?=some x→(i=k∧x=o')∨(i≠k∧S[i]?=some x):=by
    intro i x hx
    by_cases e:i=k
    · subst e
      rw [List.getElem?_set_self (eZ hk)] at hx
      exact .inl ⟨rfl,(Option.some.inj hx).symm⟩
    · rw [List.getElem?_set_ne (Ne.symm e)] at hx;exact .inr ⟨e,hx⟩
  refine ⟨fun i x hx=>?_,fun i j x y lJ hx hy=>?_,fun i x hx I=>?_,fun i x hx hf=>?_⟩
  · rcases eY i x hx with ⟨rfl,rfl⟩ | ⟨_,q⟩
    · rw [hn];exact h.node i o hk
    · exact h.node i x q
  · have hj:=eZ hy
    rw [List.length_set] at hj
    rcases eY i x hx with ⟨rfl,rfl⟩ | ⟨_,q⟩
    · omega
    · rcases eY j y hy with ⟨rfl,rfl⟩ | ⟨_,J⟩
      · rw [hn];exact h.inc i j x o lJ q hk
      · exact h.inc i j x y lJ q J
  · rw [List.length_set] at I
    rcases eY i x hx with ⟨rfl,rfl⟩ | ⟨_,q⟩
    · omega
    · exact h.has i x q I
  · rcases eY i x hx with ⟨rfl,rfl⟩ | ⟨_,q⟩
    · rw [hn];exact hc hf
    · exact h.cur i x q hf
theorem So.open_ {N:List aq} {d:Nat} {S:List Oo} (h:So N d S) {k:Nat} {o:Oo} (hk:S[k]?=some o) (hf:o.Has=false):k+1=S.length∧∃ c:Nat,o.bP=c∧o.Node<c∧Sp N c∧d≤c∧Up S c:=by
  have hl:=eZ hk
  have I:k+1=S.length:=by
    rcases Nat.lt_or_ge (k+1) S.length with z | z
    · rw [h.has k o hk z] at hf;cases hf
    · omega
  obtain ⟨c,c1,c2,J⟩:=h.cur k o hk hf
  obtain ⟨m,U,aa,_⟩:=h.node k o hk
  refine ⟨I,c,c1,c2,J,by omega,fun i x hx=>?_⟩
  have hi:=eZ hx
  by_cases e:i=k
  · subst e
    rw [hk] at hx;simp only [Option.some.injEq] at hx;subst hx
    exact ⟨by omega,fun _=>by omega⟩
  · have h1:=h.inc i k x o (by omega) hx hk
    exact ⟨by omega,fun j=>by rw [h.has i x hx (by omega)] at j;cases j⟩
theorem vg (S:List Oo) (k:Int) (h0: -1≤k) (h1:k<S.length):([]:List Oo)++((S.take (k+1).toNat).drop (0:Int).toNat)=S.take (k+1).toNat:=rfl
theorem B9 (F:Nat) (hF:2500≤F) {n:Int} {p:Pp} {d:Nat} {r:an} {a b:Int} (h:PD n p a d) (h0:0≤a) (gB:a<b) (hb:b≤p.Read) (jL:p.Read≤n):Wp (n0 F p r a b) (Nx n p):=by
  have hn:=h.rd.nl
  have dc:=h.rd.ri.n
  have eF:=h.dep
  have gW:=h.sl
  have rC:af ((p.S.length:Int) - 1)=(p.S.length:Int) - 1:=aX (by omega) (by omega)
  have key:∀ (m:Nat) (k:Int), -1≤k→k<p.S.length→k+1<m→∃ k',correctorref12_parser_bare_l0 F p r a b m r k=some k'∧ -1≤k'∧k'<p.S.length:=by
    intro m
    induction m with
    | zero=>intro k h1 h2 ae;omega
    | succ m ih=>
      intro k h1 h2 ae
      rw [correctorref12_parser_bare_l0]
      by_cases c:0≤k
      case neg=>rw [if_neg c];exact ⟨k,rfl,h1,h2⟩
      have hl:k.toNat<p.S.length:=by omega
      rw [if_pos c,if_pos (by omega),List.getElem?_eq_getElem hl]
      simp only [Option.bind_some]
      split
      · rw [jB (by omega) (by omega)]
        exact ih (k - 1) (by omega) (by omega) (by omega)
      · exact ⟨k,rfl,h1,h2⟩
  obtain ⟨k,ag,ah,ai⟩:=key F ((p.S.length:Int) - 1) (by omega) (by omega) (by omega)
  obtain ⟨u,aa,aj,ao,aq⟩:=qz F h
  obtain ⟨re,e1,J,ar,aG⟩:=qR F hF h h0 aj ao aq (aH:=a) (to:=b) (code:=7) (Int.le_refl _) gB (by omega)
  have vl:Nx n p (⟨re,p.Rows,p.Doc,p.aA,p.S,p.ax,p.Read⟩:Pp):=by
    have au:=J.sz
    have av:=J.dl
    simp only at au av
    have aI:=h.sz
    refine ⟨⟨J.rd.mono hb,J.ro,J.dep, .inr ⟨d,J.doc,J.ds,J.si,J.sl⟩,?_,?_⟩,?_,jL,rfl,ar⟩
    · show (re.T.al.length:Int)≤4 * p.Read+4;omega
    · show (re.D.length:Int)≤4 * p.Read+4;omega
    · show 0≤p.Read;omega
  unfold n0
  rw [rC]
  refine a7 ag ?_
  have rK:af (k+1)=k+1:=aX (by omega) (by omega)
  refine a8 (Q:=fun s=>match s with | .inl _=>(k<0∨∃ o,p.S[k.toNat]?=some o∧o.Has=false) | .inr p'=>Nx n p p') ?_ ?_
  · refine aw (fun hk=>?_) (fun hk=>?_)
    · refine aw (fun qf=>?_) (fun qf=>?_)
      · exact a7 aa (a7 e1 (wpS vl))
      · exact eI (by omega) (wpS (.inl hk))
    · refine aM (by omega) (aM (by omega) (az (aY (by omega) fun o ho=>?_)))
      refine aw (fun hh=>?_) (fun hh=>?_)
      · exact a7 aa (a7 e1 (wpS vl))
      · exact wpS (.inr ⟨o,ho,by simpa using hh⟩)
  · rintro (_ | p') hs
    · simp only at hs ⊢
      simp only [rK,vg p.S k ah ai]
      refine aM (by omega) (aM (by rw [show (0:Int).toNat=0 from rfl,List.drop_zero,List.length_take,List.length_nil];omega) ?_)
      refine aw (fun hk=>?_) (fun hk=>?_)
      · have e:(k+1).toNat=0:=by omega
        rw [e,List.take_zero,h.doc]
        have hp:PD n (⟨p.R,p.Rows,(d:Int),p.aA,[],p.ax,p.Read⟩:Pp) a d:=⟨h.rd,h.ro,eF,by show ((0:Nat):Int)≤_;exact eF.1,rfl,h.ds,So.nil _ _,h.sz,h.dl⟩
        obtain ⟨bb,I,v1,v2,ay,v4,j,v6,ab,aB,aC⟩:=oR F hF hp h0 h.ds (Nat.le_refl _) (fun i o hi=>by simp at hi) (at_:=a) (Int.le_refl _) (by omega)
        refine a7 v1 (wpS ⟨⟨j.rd,j.ro,j.dep, .inr ⟨_,j.doc,j.ds,j.si,j.sl⟩,?_,?_⟩,?_,v4,v2.rows,v6⟩)
        · show (I.R.T.al.length:Int)≤4 * I.Read+4;omega
        · show (I.R.D.length:Int)≤4 * I.Read+4;omega
        · show 0≤I.Read;omega
      · rcases hs with hs | ⟨o,ho,hf⟩
        · exact absurd hs hk
        obtain ⟨aD,c,c1,c2,ad,aE,aF⟩:=h.si.open_ ho hf
        have e:p.S.take (k+1).toNat=p.S:=List.take_of_length_le (by omega)
        rw [e]
        refine aM (by omega) ?_
        rw [ho]
        refine a7 rfl ?_
        rw [c1]
        obtain ⟨bb,I,v1,v2,ay,v4,j,v6,ab,aB,aC⟩:=oR F hF h h0 ad aE aF (at_:=a) (Int.le_refl _) (by omega)
        refine a7 v1 ?_
        have U:=v2.s
        refine aM (by rw [U];omega) ?_
        rw [U,ho]
        refine a7 rfl (wpS ⟨⟨j.rd,j.ro,j.dep, .inr ⟨d,j.doc,j.ds,?_,?_⟩,?_,?_⟩,?_,v4,v2.rows,v6⟩)
        · have h2:=j.si
          rw [U] at h2
          exact h2.last ho aD rfl (fun _=>⟨c,c1,c2,ab c (Nat.le_refl _) ad⟩)
        · show ((p.S.set _ _).length:Int)≤I.ax
          rw [List.length_set,v2.dep];exact gW
        · show (I.R.T.al.length:Int)≤4 * I.Read+4;omega
        · show (I.R.D.length:Int)≤4 * I.Read+4;omega
        · show 0≤I.Read;omega
    · exact wpS hs
end Go.Proofs.Ytcilejikekccmaa.M
namespace Go.Proofs.Ytcilejikekccmaa.M
open Go Am Sy
structure Ls (n:Int) (R:Rr) (d:Nat) (S:List Oo) (S0:List Oo) (o:Oo) (m:Nat) (aH to:Int):Prop where
 eq:S=S0++[o]
 nd:o.Node=m
 dm:d<m
 sm:Sp R.T.al m
 sd:Sp R.T.al d
 en:∀ e,endOf R.T.al m=some e→e≤aH
 so:So R.T.al d S0
 has:∀ (i:Nat) x,S0[i]?=some x→x.Has=true∧x.Node<m
 rd:Rd n R to
theorem y2 {α:Type} (S:List α) (o x:α):(S++[o]).set S.length x=S++[x]:=by
 rw [List.set_append_right _ _ (Nat.le_refl _)];simp
theorem qF {α:Type} (S:List α) (o:α):(S++[o])[S.length]?=some o:=by simp
theorem So.up {N:List aq} {d:Nat} {S:List Oo} {m:Nat} (hh:∀ (i:Nat) x,S[i]?=some x→x.Has=true∧x.Node<m):Up S m:=fun i x hx=>⟨by have:=(hh i x hx).2;omega,fun q=>by rw [(hh i x hx).1] at q;cases q⟩
theorem xa (F:Nat) (p:Pp) (e:a2) (hl:p.S.length≤1000):∀ (m:Nat) (mD k:Int), -1≤k→k<p.S.length→k+1<m→∃ k',correctorref12_parser_place_l0 F p e m e mD k=some (e,mD,k')∧ -1≤k'∧k'<p.S.length:=by
 intro m
 induction m with
 | zero=>intro mD k h1 h2 j;omega
 | succ m ih=>
  intro mD k h1 h2 j
  rw [correctorref12_parser_place_l0]
  by_cases c:0≤k
  case neg=>rw [if_neg c];exact ⟨k,rfl,h1,h2⟩
  have hi:k.toNat<p.S.length:=by omega
  rw [if_pos c,if_pos (by omega),List.getElem?_eq_getElem hi]
  simp only [Option.bind_some]
  split
  ·rw [jB (by omega) (by omega)]
   exact ih mD (k - 1) (by omega) (by omega) (by omega)
  ·exact ⟨k,rfl,h1,h2⟩
theorem Bw (F:Nat) (hF:2500≤F) {n:Int} {p:Pp} {q:Int} {d:Nat} (h:PD n p q d) (h0:0≤q) {e:a2} (hq:q≤e.ah) (fg:e.ah<e.To) (ht:e.To≤n):
  Wp (correctorref12_parser_place F p e) (fun z=>z.2.Rows=p.Rows∧z.2.R.L=p.R.L∧z.2.Read=p.Read∧((0<z.1∧z.2=p)∨(z.1=0∧(PD n z.2 e.To d∧(z.2.R.T.al.length:Int)≤4 * e.To+3)∧∃ (k:Nat) (o:Oo),z.2.S[k]?=some o∧k+1=z.2.S.length∧o.Has=false))):=by
 have hn:=h.rd.nl
 have dc:=h.rd.ri.n
 have eF:=h.dep
 have gW:=h.sl
 have b8:=h.sz
 have fM:=h.dl
 have rC:af ((p.S.length:Int) - 1)=(p.S.length:Int) - 1:=aX (by omega) (by omega)
 unfold correctorref12_parser_place
 refine a8 (Q:=fun s=>s.1=e∧(s.2=3∨s.2=5)) (aw (fun _=>wpS ⟨rfl, .inl rfl⟩) (fun _=>wpS ⟨rfl, .inr rfl⟩)) ?_
 rintro ⟨e1,kind⟩ ⟨rfl,nc⟩
 simp only at nc hq fg ht ⊢
 rw [rC]
 obtain ⟨k,aW,aJ,av⟩:=xa F p e1 (by omega) F kind ((p.S.length:Int) - 1) (by omega) (by omega) (by omega)
 refine a7 aW ?_
 simp only
 refine a8 (Q:=fun s=>match s with
  | .inl (e',k',fresh)=>e'=e1∧((fresh=false∧0≤k'∧k'<p.S.length)∨(fresh=true∧ -1≤k'∧k'<p.S.length∧(k'<0∨∃ o,p.S[k'.toNat]?=some o∧o.Has=false)))
  | .inr z=>0<z.1∧z.2=p) ?_ ?_
 ·refine a8 (Q:=fun s=>s.1=e1∧(s.2=true→0≤k)) ?_ ?_
  ·refine aw (fun c=>aM (by omega) (az (aY (by omega) fun o ho=>aw (fun _=>aM (by omega) (az (aY (by omega) fun o ho=>aw (fun _=>wpS ⟨rfl,fun _=>c⟩) (fun _=>wpS ⟨rfl,fun q=>by cases q⟩)))) (fun _=>wpS ⟨rfl,fun q=>by cases q⟩)))) (fun _=>wpS ⟨rfl,fun q=>by cases q⟩)
  rintro ⟨aK,bm⟩ ⟨rfl,aZ⟩
  refine aw (fun c=>wpS ⟨rfl, .inl ⟨rfl,aZ c,av⟩⟩) (fun _=>?_)
  refine a8 (Q:=fun s=>s.1=aK∧(s.2=true→0≤k)) ?_ ?_
  ·refine aw (fun c=>aM (by omega) (az (aY (by omega) fun o ho=>aw (fun _=>aw (fun _=>wpS ⟨rfl,fun _=>c⟩) (fun _=>wpS ⟨rfl,fun q=>by cases q⟩)) (fun _=>wpS ⟨rfl,fun q=>by cases q⟩)))) (fun _=>wpS ⟨rfl,fun q=>by cases q⟩)
  rintro ⟨ab,bn⟩ ⟨rfl,a0⟩
  refine aw (fun c=>?_) (fun _=>?_)
  ·have ay:=a0 c
   refine aM (by omega) (az (aY (by omega) fun o ho=>aw (fun _=>wpS ⟨by simp,rfl⟩) (fun hh=>wpS ⟨rfl, .inr ⟨rfl,aJ,av, .inr ⟨o,ho,by simpa using hh⟩⟩⟩)))
  refine a8 (Q:=fun s=>s.1=ab∧(s.2=true→0<k)) ?_ ?_
  ·have hw:0<k→af (k - 1)=k - 1:=fun c=>jB (by omega) (by omega)
   refine aw (fun c=>?_) (fun _=>wpS ⟨rfl,fun q=>by cases q⟩)
   rw [hw c]
   exact aM (by omega) (az (aY (by omega) fun o ho=>aw (fun _=>aM (by omega) (az (aY (by omega) fun o ho=>aw (fun _=>aM (by omega) (az (aY (by omega) fun o ho=>aw (fun _=>wpS ⟨rfl,fun _=>c⟩) (fun _=>wpS ⟨rfl,fun q=>by cases q⟩)))) (fun _=>wpS ⟨rfl,fun q=>by cases q⟩)))) (fun _=>wpS ⟨rfl,fun q=>by cases q⟩)))
  rintro ⟨j,bo⟩ ⟨rfl,a3⟩
  refine aw (fun c=>?_) (fun _=>?_)
  ·have ay:=a3 c
   rw [jB (by omega) (by omega)]
   exact wpS ⟨rfl, .inl ⟨rfl,by omega,by omega⟩⟩
  refine a8 (Q:=fun s=>s.1=j) ?_ ?_
  ·refine aw (fun c=>aM (by omega) (az (aY (by omega) fun o ho=>aw (fun _=>wpS rfl) (fun _=>wpS rfl)))) (fun _=>wpS rfl)
  rintro ⟨bp,br⟩ rfl
  refine aw (fun c=>wpS ⟨by simp,rfl⟩) (fun _=>?_)
  refine aw (fun c=>?_) (fun c=>?_)
  ·refine aw (fun _=>wpS ⟨by simp,rfl⟩) (fun _=>eI (by omega) (wpS ⟨rfl, .inr ⟨rfl,aJ,av, .inl c⟩⟩))
  ·refine aM (by omega) (aM (by omega) (az (aY (by omega) fun o ho=>aw (fun _=>wpS ⟨by simp,rfl⟩) (fun hh=>wpS ⟨rfl, .inr ⟨rfl,aJ,av, .inr ⟨o,ho,by simpa using hh⟩⟩⟩))))
 rintro (⟨aK,k',fresh⟩ | ⟨code,p'⟩) hs
 case inr=>obtain ⟨U,rfl⟩:=hs;exact wpS ⟨rfl,rfl,rfl, .inl ⟨U,rfl⟩⟩
 obtain ⟨rfl,hs⟩:=hs
 simp only at hs ⊢
 have jE: -1≤k'∧k'<p.S.length:=by rcases hs with ⟨_,z⟩ | ⟨_,U,aa,_⟩<;>omega
 have a4:af (k'+1)=k'+1:=aX (by omega) (by omega)
 have a5:af (k'+2)=k'+2:=aX (by omega) (by omega)
 rw [a4,a5]
 refine a8 (Q:=fun s=>match s with
  | .inl e'=>e'=aK∧(fresh=true→k'+2≤p.ax)
  | .inr z=>0<z.1∧z.2=p) ?_ ?_
 ·refine aw (fun c=>aw (fun _=>wpS ⟨by simp,rfl⟩) (fun c2=>wpS ⟨rfl,fun _=>by omega⟩)) (fun c=>wpS ⟨rfl,fun q=>absurd q c⟩)
 rintro (ab | ⟨code,p'⟩) aP
 case inr=>obtain ⟨U,rfl⟩:=aP;exact wpS ⟨rfl,rfl,rfl, .inl ⟨U,rfl⟩⟩
 obtain ⟨rfl,y9⟩:=aP
 simp only [vg p.S k' jE.1 jE.2]
 refine aM (by omega) (aM (by rw [show (0:Int).toNat=0 from rfl,List.drop_zero,List.length_take,List.length_nil];omega) ?_)
 refine a8 (Q:=fun z=>z.2.1=p.Rows∧z.2.2.1=p.Doc∧z.2.2.2.2.2.1=p.ax∧z.2.2.2.2.2.2.1=p.Read∧z.2.2.2.2.2.2.2=ab∧z.1.L=p.R.L∧z.1.D=p.R.D∧(z.1.T.al.length:Int)≤p.R.T.al.length+1∧(z.2.2.2.2.1.length:Int)≤p.ax∧∃ S0 o m,Ls n z.1 d z.2.2.2.2.1 S0 o m ab.ah ab.To) ?_ ?_
 ·refine aw (fun j8=>?_) (fun j8=>?_)
  ·have a6:k'<0∨∃ o,p.S[k'.toNat]?=some o∧o.Has=false:=by
    rcases hs with ⟨z,_⟩ | ⟨_,_,_,z⟩
    ·rw [j8] at z;cases z
    ·exact z
   have bt:=y9 j8
   refine a8 (Q:=fun z=>z.1=p.Rows∧z.2.1=p.Doc∧z.2.2.2.2.1=p.ax∧z.2.2.2.2.2.1=p.Read∧z.2.2.2.2.2.2.1=ab∧(z.2.2.2.1.length:Int)+1≤p.ax∧∃ u:Nat,z.2.2.2.2.2.2.2=(u:Int)∧Sp p.R.T.al u∧d≤u∧So p.R.T.al d z.2.2.2.1∧∀ (i:Nat) (x:Oo),z.2.2.2.1[i]?=some x→x.Has=true∧x.Node<(u:Int)) ?_ ?_
   ·refine aw (fun ay=>?_) (fun ay=>?_)
    ·rcases a6 with z | ⟨o,ho,hf⟩
     ·omega
     obtain ⟨aA,c,c1,c2,a9,ba,bu⟩:=h.si.open_ ho hf
     have e:p.S.take (k'+1).toNat=p.S:=List.take_of_length_le (by omega)
     rw [e]
     refine aM (by omega) ?_
     rw [ho]
     refine a7 rfl (aM (by omega) (a7 rfl (wpS ⟨rfl,rfl,rfl,rfl,rfl,?_,c,c1,a9,ba,?_,fun i x hx=>?_⟩)))
     ·show ((p.S.set _ _).length:Int)+1≤p.ax
      rw [List.length_set];omega
     ·exact h.si.last ho aA rfl (fun z=>by cases z)
     ·have jM:(p.S.set k'.toNat {o with Has:=true})[i]?=some x:=hx
      by_cases ei:i=k'.toNat
      ·subst ei
       rw [List.getElem?_set_self (eZ ho)] at jM
       simp only [Option.some.injEq] at jM
       subst jM
       exact ⟨rfl,c2⟩
      ·rw [List.getElem?_set_ne (Ne.symm ei)] at jM
       have hi:=eZ jM
       have h1:=h.si.inc i k'.toNat x o (by omega) jM ho
       exact ⟨h.si.has i x jM (by omega),by omega⟩
    ·have e:(k'+1).toNat=0:=by omega
     rw [e,List.take_zero]
     exact wpS ⟨rfl,rfl,rfl,rfl,rfl,by show ((0:Nat):Int)+1≤p.ax;omega,d,h.doc,h.ds,Nat.le_refl _,So.nil _ _,fun i x hx=>by simp at hx⟩
   ·rintro ⟨bb,bc,aL,aR,bd,bf,j,up⟩ ⟨ag,ai,aj,an,ao,ad,u,aq,aB,aC,aT,aE⟩
    simp only at ag ai aj an ao ad aq aT aE ⊢
    subst ag ai aj an ao aq
    obtain ⟨r1,a1,ar,I,au,aF,bg,z,hz,nD,m3⟩:=iT F hF h.rd (by omega) aB (kind:=kind) (aH:=j.ah) (to:=j.To) (by omega) (by omega) ht (by omega) (h.rd.endOf h0 u hq)
    have hu:=aB.lt h.rd.g
    have bw:=I.sz
    refine a7 a1 (aM (by rw [List.length_singleton];omega) (wpS ⟨rfl,rfl,rfl,rfl,rfl,I.l,aF,?_,?_,aR,_,p.R.T.al.length,rfl,rfl,by omega,au,I.sp d aC h.ds,fun e he=>by rw [rI hz m3 e he,nD];exact Int.le_refl _,aT.to (So.up (d:=d) (N:=p.R.T.al) aE) I.sp,fun i x hx=>⟨(aE i x hx).1,by have:=(aE i x hx).2;omega⟩,ar⟩))
    ·show (r1.T.al.length:Int)≤_;omega
    ·show ((aR++[_]).length:Int)≤_
     rw [List.length_append,List.length_singleton];omega
  ·have ay:0≤k':=by
    rcases hs with ⟨_,z,_⟩ | ⟨z,_⟩
    ·exact z
    ·exact absurd z j8
   have hl:k'.toNat<p.S.length:=by omega
   have hg:=List.getElem?_eq_getElem hl
   obtain ⟨m,bh,bj,bk⟩:=h.si.node _ _ hg
   have e:(k'+1).toNat=k'.toNat+1:=by omega
   refine wpS ⟨rfl,rfl,rfl,rfl,rfl,rfl,rfl,by show (p.R.T.al.length:Int)≤_;omega,?_,p.S.take k'.toNat,p.S[k'.toNat],m,?_,bh,bj,bk,h.ds,h.rd.endOf h0 m hq,h.si.take _,fun i x hx=>?_,h.rd.mono (by omega)⟩
   ·show ((p.S.take (k'+1).toNat).length:Int)≤_
    rw [List.length_take];omega
   ·show p.S.take (k'+1).toNat=_
    rw [e,List.take_succ_eq_append_getElem hl]
   ·obtain ⟨aA,bl⟩:=k3 hx
    have h1:=h.si.inc i k'.toNat x _ bl aA hg
    exact ⟨h.si.has i x aA (by omega),by omega⟩
 ·rintro ⟨ae,bb,bc,aL,bx,bd,bf,j⟩ ⟨ag,ai,aj,an,ao,ad,aq,aB,aC,S0,o,m,hL⟩
  simp only at ag ai aj an ao ad aq aB aC hL ⊢
  subst ag ai aj an ao
  have heq:=hL.eq
  subst heq
  rw [List.length_append,List.length_singleton] at aC
  have jO:af (((S0++[o]).length:Int) - 1)=(S0.length:Int):=by rw [List.length_append,List.length_singleton,aX (by omega) (by omega)];omega
  have hS:(S0++[o]).length=S0.length+1:=by simp
  simp only [jO,Int.toNat_natCast,qF,y2]
  refine aM (by rw [hS];omega) (a7 rfl ?_)
  refine a8 (Q:=fun z=>z.2.1=p.Rows∧z.2.2.1=p.Doc∧z.2.2.2.2.2.1=p.ax∧z.2.2.2.2.2.2=p.Read∧z.1.L=p.R.L∧(PD n (⟨z.1,z.2.1,z.2.2.1,z.2.2.2.1,z.2.2.2.2.1,z.2.2.2.2.2.1,z.2.2.2.2.2.2⟩:Pp) j.To d∧(z.1.T.al.length:Int)≤4 * j.To+3)∧∃ (k:Nat) (o:Oo),z.2.2.2.2.1[k]?=some o∧k+1=z.2.2.2.2.1.length∧o.Has=false) ?_ ?_
  ·have fin:∀ (J:Rr) (c:Nat) (root:Bool) (s:Int),Rd n J j.To→To ae J m s 0→Sp J.T.al c→m<c→s≤2 * (j.To - j.ah) - 1∨((ae.T.al.length:Int)≤p.R.T.al.length∧s≤2 * (j.To - j.ah))∨s≤1→PD n (⟨J,p.Rows,p.Doc,root,S0++[(⟨o.Node,o.Kind,o.aD,(c:Int),false⟩:Oo)],p.ax,p.Read⟩:Pp) j.To d∧(J.T.al.length:Int)≤4 * j.To+3:=by
    intro J c root s U aa aN aG aO
    have t1:=aa.sz
    have t2:=aa.dl
    rw [aq] at t2
    refine ⟨⟨U,by show RO J.L p.Rows;rw [aa.l,ad];exact h.ro,eF,?_,h.doc,aa.sp d (by have:=hL.dm;omega) hL.sd,?_,?_,?_⟩,by omega⟩
    ·show ((S0++[_]).length:Int)≤_
     rw [List.length_append,List.length_singleton];omega
    ·exact So.push (hL.so.to (So.up (d:=d) (N:=ae.T.al) hL.has) aa.sp) (fun i x hx=>(hL.has i x hx).1) hL.nd hL.dm (aa.sp m (Nat.le_refl _) hL.sm) (fun i x hx=>(hL.has i x hx).2) (fun _=>⟨rfl,aG,aN⟩)
    ·show (J.T.al.length:Int)≤4 * j.To+5;omega
    ·show (J.D.length:Int)≤4 * j.To+4;omega
   refine aw (fun hd=>?_) (fun hd=>?_)
   ·obtain ⟨aI,a1,ar,I,au,aF,bg,_⟩:=iT F hF hL.rd (by omega) hL.sm (kind:=4) (aH:=j.ah) (to:=j.To) (by omega) (by omega) ht (Int.le_refl _) hL.en
    refine a7 rfl ?_
    rw [hL.nd]
    refine a7 a1 (a7 rfl (wpS ⟨rfl,rfl,rfl,rfl,I.l.trans ad,?_,S0.length,_,qF _ _,by simp,rfl⟩))
    have:=fin aI ae.T.al.length aL 1 ar I au (hL.sm.lt hL.rd.g) (.inr (.inr (Int.le_refl _)))
    rw [hL.nd] at this
    exact this
   ·obtain ⟨aI,a1,ar,I,au,aF⟩:=s3 F hF hL.rd (by omega) hL.sm (aH:=j.ah) (to:=j.To) (by omega) (by omega) ht (Int.le_refl _) hL.en
    refine a7 rfl ?_
    rw [hL.nd]
    refine a7 a1 (a7 rfl (wpS ⟨rfl,rfl,rfl,rfl,I.l.trans ad,?_,S0.length,_,qF _ _,by simp,rfl⟩))
    have t:To ae aI m (if j.To - j.ah<2 then 1 else 2) 0:=by
     refine ⟨I.l,I.e,?_,I.ge,I.dl,I.sp⟩
     have:=I.sz
     split
     ·rename_i z;have:=aF z;omega
     ·omega
    have:=fin aI ae.T.al.length aL _ ar t au (hL.sm.lt hL.rd.g) (by split<;>omega)
    rw [hL.nd] at this
    exact this
  ·rintro ⟨J,bz,bA,bB,bC,bD,bE⟩ ⟨U,aa,aN,aG,aO,aU,aV⟩
   simp only at U aa aN aG aO aU aV ⊢
   exact wpS ⟨U,aO,aG, .inr ⟨rfl,aU,aV⟩⟩
end Go.Proofs.Ytcilejikekccmaa.M
namespace Go.Proofs.Ytcilejikekccmaa.M
open Go Am Sy
abbrev Cu:=Rr×(List an)×Int×Bool×(List Oo)×Int×Int×an×Int
def Cu.p (z:Cu):Pp:=⟨z.1,z.2.1,z.2.2.1,z.2.2.2.1,z.2.2.2.2.1,z.2.2.2.2.2.1,z.2.2.2.2.2.2.1⟩
def u6 (S:List Oo):Prop:=∃ (k:Nat) (o:Oo),S[k]?=some o∧k+1=S.length∧o.Has=false
theorem body_l0_wp (F:Nat) (hF:2500≤F) {n:Int} {p a0:Pp} {d:Nat} {r:an} {b rest:Int} {es:List a2} (hn:n≤450) (E1:rest≤r.To) (aj:b≤r.To) (nA:r.To≤n) (kX:p.Read=r.To)
  (hb:∀ (i:Int) (t:ak),b≤i→i<r.To→p.R.L[i.toNat]?=some t→cn t.Kind=false):
  ∀ (m:Nat) (R:Rr) (Doc:Int) (aA:Bool) (S:List Oo) (cZ:Int) (q:Int) (u:Nat) (i:Nat),es.length+1 - i<m→i≤es.length→es.length≤1000→0≤q→R.L=p.R.L→PD n (⟨R,p.Rows,Doc,aA,S,cZ,r.To⟩:Pp) q d→Ec p.R.L q (es.drop i) rest→Sp R.T.al u→d≤u→Up S u→(i≠0→u6 S∧(R.T.al.length:Int)≤4 * q+3)→
  Wp (ln F a0 r m R p.Rows Doc aA S cZ r.To r b es rest (u:Int) (i:Int)) (fun s=>match s with
   | .inl z=>z.2.1=p.Rows∧z.2.2.2.2.2.2.1=r.To∧z.2.2.2.2.2.2.2.1=r∧z.2.2.2.2.2.2.2.2=rest∧z.1.L=p.R.L∧∃ q',0≤q'∧q'≤rest∧PD n (Cu.p z) q' d∧(es≠[]→u6 z.2.2.2.2.1∧(z.1.T.al.length:Int)≤4 * q'+3)
   | .inr p'=>Nx n p p'):=by
 intro m
 induction m with
 | zero=>intro R Doc aA S cZ q u i h1;omega
 | succ m ih=>
  intro R Doc aA S cZ q u i h1 h2 Bi U hl h jH hs nO hu av
  rw [ln]
  refine aw (fun c=>?_) (fun c=>?_)
  ·have hi:i<es.length:=by omega
   have hg:=List.getElem?_eq_getElem hi
   have rO:es.drop i=es[i]::es.drop (i+1):=List.drop_eq_getElem_cons hi
   rw [rO] at jH
   obtain ⟨ad,ao,aq,ae⟩:=jH
   have EU:=ae.le
   refine aM (by omega) ?_
   simp only [Int.toNat_natCast,hg]
   refine a7 rfl ?_
   refine a8 (Bw F hF h U ad ao (by omega)) ?_
   rintro ⟨code,p'⟩ ⟨aa,ag,ab,j⟩
   simp only at aa ag ab j ⊢
   rcases j with ⟨j,rfl⟩ | ⟨rfl,⟨j,xA⟩,k,o,J,ar,ai⟩
   ·refine aM j (aM (by omega) (a7 rfl ?_))
    have tM:es[i].ah<b:=by
     by_cases z:es[i].ah<b
     ·exact z
     ·obtain ⟨t,t1,t2⟩:=aq
      rw [hb _ t (by omega) (by omega) t1] at t2;cases t2
    obtain ⟨re,e1,I,au,aC⟩:=qR F hF h U hs nO hu (aH:=es[i].ah) (to:=b) (code:=code) ad tM (by omega)
    refine a7 e1 (wpS ⟨⟨I.rd.mono aj,I.ro,I.dep, .inr ⟨d,I.doc,I.ds,I.si,I.sl⟩,?_,?_⟩,?_,?_,rfl,au.trans hl⟩)
    ·show (re.T.al.length:Int)≤4 * r.To+4;omega
    ·have:=I.dl
     simp only at this
     show (re.D.length:Int)≤4 * r.To+4;omega
    ·show 0≤r.To;omega
    ·show r.To≤n;omega
   ·refine eI (by omega) ?_
    have eF:=j.dep
    have gW:=j.sl
    have jO:af ((p'.S.length:Int) - 1)=(k:Int):=by rw [aX (by omega) (by omega)];omega
    have ky:af ((i:Int)+1)=((i+1:Nat):Int):=by rw [aX (by omega) (by omega)];omega
    have hk:=eZ J
    simp only [jO,ky,Int.toNat_natCast,J]
    refine aM (by omega) (a7 rfl ?_)
    obtain ⟨_,cu,c1,c2,ay,az,aB⟩:=j.si.open_ J ai
    rw [c1,aa,ab]
    refine ih p'.R p'.Doc p'.aA p'.S p'.ax es[i].To cu (i+1) (by omega) (by omega) Bi (by omega) (ag.trans hl) ?_ ae ay az aB (fun _=>⟨⟨k,o,J,ar,ai⟩,xA⟩)
    have e:(⟨p'.R,p.Rows,p'.Doc,p'.aA,p'.S,p'.ax,r.To⟩:Pp)=p':=by
     rw [show p.Rows=p'.Rows from aa.symm,show r.To=p'.Read from ab.symm]
    rw [e];exact j
  ·have hi:i=es.length:=by omega
   refine wpS ⟨rfl,rfl,rfl,rfl,hl,q,U,?_,h,fun bY=>av ?_⟩
   ·rw [hi,List.drop_length] at jH;exact jH
   ·have:es.length≠0:=fun z=>bY (List.eq_nil_of_length_eq_zero z)
    omega
theorem Nx.of {n:Int} {p j p':Pp} (h:Nx n j p') (h1:j.Rows=p.Rows) (h2:j.R.L=p.R.L):Nx n p p':=⟨h.pi,h.r0,h.r1,h.rows.trans h1,h.l.trans h2⟩
theorem zM (F:Nat) (hF:2500≤F) {n:Int} {p:Pp} {q:Int} (h:PI n p q) (h0:0≤q) {r:an} (hk:r.Kind=5) (hq:q≤r.ah) (hr:r.ah<r.To) (ao:r.To≤n) (hc:∃ (i:Int) (t:ak),r.ah≤i∧i<r.To∧p.R.L[i.toNat]?=some t∧cn t.Kind=true) (kX:p.Read=r.To):Wp (mi F p r) (Nx n p):=by
 have hn:=h.rd.nl
 have dc:=h.rd.ri.n
 obtain ⟨a,b,a1,aq,a6,ay,aC,aD⟩:=jK F hF p dc r.ah r.To (by omega) (by omega) (by omega)
 have eT:=aq.in hc
 have gB:=aC eT
 have a9:=aq.1
 obtain ⟨j,d,aE,ar,ad,ai,J⟩:=sU F hF h h0 (a:=a) (by omega) (by omega)
 obtain ⟨es,rest,e1,first,az,aB,aF⟩:=BK F hF j.R.L (by rw [J];exact dc) r hk ⟨by omega,hr,by rw [J];omega⟩
 have xr:first=a:=by rw [J] at az;exact az.eq aq
 subst xr
 unfold mi
 refine a7 a1 (a7 aE (a7 e1 ?_))
 refine aw (fun c=>?_) (fun c=>?_)
 ·have:=B9 F hF (r:=r) ar (by omega) gB (by rw [ad,kX];exact ay) (by rw [ad,kX];exact ao)
  exact a8 this fun p' eG=>wpS (eG.of ai J)
 ·have bY:es≠[]:=fun z=>c (by rw [z];rfl)
  have jH:Ec j.R.L first es rest:=by rcases aF with z | z;exact absurd z bY;exact z
  have hlen:=jH.le
  obtain ⟨u,aG,aH,aI,aJ⟩:=qz F ar
  refine a7 aG ?_
  have zo:=body_l0_wp F hF (n:=n) (p:=j) (a0:=p) (d:=d) (r:=r) (b:=b) (rest:=rest) (es:=es) (by omega) aB ay ao (by rw [ad,kX]) (fun i t aK aL aN=>aD i t aK aL (by rw [← J];exact aN)) F j.R j.Doc j.aA j.S j.ax first u 0 (by omega) (by omega) (by omega) (by omega) rfl (by
   have e:(⟨j.R,j.Rows,j.Doc,j.aA,j.S,j.ax,r.To⟩:Pp)=j:=by rw [show r.To=j.Read from by rw [ad,kX]]
   rw [e];exact ar) jH aH aI aJ (fun z=>absurd rfl z)
  rw [show j.Read=r.To from by rw [ad,kX]]
  refine a8 zo ?_
  rintro (⟨ae,ba,aO,aP,au,aR,bc,U,aT⟩ | p') hs
  case inr=>exact wpS (hs.of ai J)
  simp only [Cu.p] at hs ⊢
  obtain ⟨aU,aV,aW,aY,aj,q',aZ,bd,I,a2⟩:=hs
  subst aU aV aW aY
  obtain ⟨⟨k,o,ag,a3,a4⟩,bf⟩:=a2 bY
  have eF:=I.dep
  have gW:=I.sl
  simp only at eF gW
  obtain ⟨x,y,c1,c2,bg,bh,bj,_⟩:=jK F hF (⟨ae,j.Rows,aO,aP,au,aR,U.To⟩:Pp) (by show ae.L.length≤450;rw [aj,J];exact dc) aT U.To (by omega) aB (by show _≤(ae.L.length:Int);rw [aj,J];omega)
  refine a7 c1 ?_
  have hx:=c2.1
  have hk:=eZ ag
  have jO:af ((au.length:Int) - 1)=(k:Int):=by rw [aX (by omega) (by omega)];omega
  refine aw (fun lv=>?_) (fun lv=>?_)
  ·obtain ⟨_,cu,d1,d2,d3,d4,d5⟩:=I.si.open_ ag a4
   obtain ⟨bb,aa,v1,v2,bk,v4,ab,v6,a5,bl,bm⟩:=oR F hF I aZ d3 d4 d5 (at_:=x) (by omega) (by omega)
   simp only [jO,Int.toNat_natCast,ag]
   refine aM (by omega) (a7 rfl ?_)
   rw [d1]
   refine a7 v1 ?_
   have av:=v2.s
   simp only at av
   rw [av,ag]
   refine aM (by omega) (a7 rfl (wpS ⟨⟨ab.rd,ab.ro,ab.dep, .inr ⟨d,ab.doc,ab.ds,?_,?_⟩,?_,?_⟩,?_,v4,v2.rows.trans ai,(v6.trans aj).trans J⟩))
   ·have h2:=ab.si
    rw [av] at h2
    exact h2.last ag a3 rfl (fun _=>⟨cu,d1,d2,a5 cu (Nat.le_refl _) d3⟩)
   ·show ((au.set _ _).length:Int)≤aa.ax
    rw [List.length_set,v2.dep];exact gW
   ·show (aa.R.T.al.length:Int)≤4 * aa.Read+4;omega
   ·show (aa.R.D.length:Int)≤4 * aa.Read+4;omega
   ·show 0≤aa.Read;omega
  ·have hd:=I.dl
   simp only at hd
   refine wpS ⟨⟨I.rd.mono (by show q'≤U.To;omega),I.ro,I.dep, .inr ⟨d,I.doc,I.ds,I.si,I.sl⟩,?_,?_⟩,?_,ao,ai,aj.trans J⟩
   ·show (ae.T.al.length:Int)≤4 * U.To+4;omega
   ·show (ae.D.length:Int)≤4 * U.To+4;omega
   ·show 0≤U.To;omega
theorem AK (F:Nat) (hF:2500≤F) {n:Int} {p:Pp} {q:Int} (h:PI n p q) (h0:0≤q) {r:an} (hm:r∈p.Rows) (hq:q≤r.ah):Wp (nW F p r) (Nx n p):=by
 have hn:=h.rd.nl
 have dc:=h.rd.ri.n
 obtain ⟨aI,ab,ar⟩:=h.ro.l5 r hm
 have gf:=h.ro.ji r hm
 have hp:PI n (⟨p.R,p.Rows,p.Doc,p.aA,p.S,p.ax,r.To⟩:Pp) q:=⟨h.rd,h.ro,h.dep,h.doc,h.sz,h.dl⟩
 unfold nW
 refine aw (fun ad=>?_) (fun ad=>?_)
 ·exact a8 (CP F hF hp h0 hq ab (by omega) (gf (.inl ad)) rfl) fun p' eG=>wpS (eG.of rfl rfl)
 refine aw (fun U=>?_) (fun U=>?_)
 ·exact a8 (zM F hF hp h0 U hq ab (by omega) (gf (.inr U)) rfl) fun p' eG=>wpS (eG.of rfl rfl)
 refine a8 (Q:=fun z=>z.1=p.Rows∧z.2.1=p.Doc∧z.2.2.1=p.aA∧z.2.2.2.1=p.S∧z.2.2.2.2.1=p.ax∧z.2.2.2.2.2.1=r.To∧z.2.2.2.2.2.2.1=r) (aw (fun _=>wpS ⟨rfl,rfl,rfl,rfl,rfl,rfl,rfl⟩) (fun _=>aw (fun _=>wpS ⟨rfl,rfl,rfl,rfl,rfl,rfl,rfl⟩) (fun _=>wpS ⟨rfl,rfl,rfl,rfl,rfl,rfl,rfl⟩))) ?_
 rintro ⟨aJ,aK,aL,aM,aN,aO,j,aa⟩ ⟨ae,af,ag,ai,aj,ao,aq⟩
 simp only at ae af ag ai aj ao aq ⊢
 subst ae af ag ai aj ao aq
 have stay:Nx n p (⟨p.R,p.Rows,p.Doc,p.aA,p.S,p.ax,j.To⟩:Pp):=⟨hp.mono (by show q≤j.To;omega),by show 0≤j.To;omega,by show j.To≤n;omega,rfl,rfl⟩
 refine aw (fun _=>?_) (fun _=>wpS stay)
 obtain ⟨a,b,a1,au,aP,aR,aT,aU⟩:=jK F hF (⟨p.R,p.Rows,p.Doc,p.aA,p.S,p.ax,j.To⟩:Pp) dc j.ah j.To (by omega) (by omega) ar
 have ha:=au.1
 refine a7 a1 (aw (fun gB=>?_) (fun _=>wpS stay))
 obtain ⟨J,d,av,aa,ay,az,aB⟩:=sU F hF hp h0 (a:=a) (by omega) (by omega)
 obtain ⟨u,aC,aD,aE,aF⟩:=qz F aa
 obtain ⟨re,e1,I,aG,aV⟩:=qR F hF aa (by omega) aD aE aF (aH:=a) (to:=b) (code:=8) (Int.le_refl _) gB (by omega)
 have hd:=I.dl
 simp only at hd
 have jL:J.Read=j.To:=ay
 refine a7 av (a7 aC (a7 e1 (wpS ⟨⟨I.rd.mono (by show b≤J.Read;omega),I.ro,I.dep, .inr ⟨d,I.doc,I.ds,I.si,I.sl⟩,?_,?_⟩,?_,?_,az,aG.trans aB⟩)))
 ·show (re.T.al.length:Int)≤4 * J.Read+4;omega
 ·show (re.D.length:Int)≤4 * J.Read+4;omega
 ·show 0≤J.Read;omega
 ·show J.Read≤n;omega
theorem yJ (F:Nat) (hF:2500≤F) (B:List UInt8) (depth:Int) {n:Int} {L:List ak} {rs:List an}:
  ∀ (m:Nat) (p:Pp) (i:Nat),rs.length+1 - i<m→i≤rs.length→p.Rows=rs→p.R.L=L→PI n p p.Read→0≤p.Read→p.Read≤n→
  Wp (correctorref12_Tree_l0 F B depth m L rs p.R p.Doc p.aA p.S p.ax p.Read (i:Int)) (fun z=>z.1=L∧z.2.1=rs∧z.2.2.1.L=L∧G z.2.2.1.T.al n∧(z.2.2.1.D.length:Int)≤4 * n+4∧(z.2.2.1.T.al.length:Int)≤4 * n+4):=by
 intro m
 induction m with
 | zero=>intro p i h1;omega
 | succ m ih=>
  intro p i h1 h2 j I h h0 hn
  have hlen:=h.ro.len
  rw [j] at hlen
  rw [correctorref12_Tree_l0]
  refine aw (fun c=>?_) (fun c=>?_)
  ·have hi:i<rs.length:=by omega
   have hg:=List.getElem?_eq_getElem hi
   have ky:af ((i:Int)+1)=((i+1:Nat):Int):=by rw [aX (by omega) (by omega)];omega
   have hb:0≤(i:Int)∧(i:Int)<(rs.length:Int):=by omega
   simp only [if_pos hb,Int.toNat_natCast,hg,ky]
   refine az (a7 rfl ?_)
   refine aw (fun hf=>?_) (fun hf=>?_)
   ·refine a7 rfl ?_
    have e:(⟨p.R,rs,p.Doc,p.aA,p.S,p.ax,p.Read⟩:Pp)=p:=by rw [← j]
    rw [e]
    refine a8 (AK F hF h h0 (by rw [j];exact List.getElem_mem hi) hf) ?_
    intro p' eG
    refine wpS ?_
    simp only
    rw [eG.rows,j]
    exact ih p' (i+1) (by omega) (by omega) (eG.rows.trans j) (eG.l.trans I) eG.pi eG.r0 eG.r1
   ·refine wpS ?_
    simp only
    exact ih p (i+1) (by omega) (by omega) j I h h0 hn
  ·have:=h.dl
   have:=h.sz
   exact wpS ⟨rfl,rfl,I,h.rd.g,by show (p.R.D.length:Int)≤_;omega,by show (p.R.T.al.length:Int)≤_;omega⟩
end Go.Proofs.Ytcilejikekccmaa.M
namespace Go.Proofs.Ytcilejikekccmaa.M
open Go Am Sy
theorem kW (F:Nat) (c:Int):Wp (gu F c) (fun _=>True):=by
 unfold gu;(repeat' (first | with_reducible refine az ?_ | (with_reducible refine aw ?_ ?_<;>intro _) | (with_reducible refine aY (by assumption) ?_;intro _ _) | with_reducible refine wpS ?_ | (with_reducible refine bZ ?_;omega) | dsimp only))<;>trivial
theorem p1 (F:Nat) (c:Int):Wp (kO F c) (fun _=>True):=by
 unfold kO;(repeat' (first | with_reducible refine az ?_ | (with_reducible refine aw ?_ ?_<;>intro _) | (with_reducible refine aY (by assumption) ?_;intro _ _) | with_reducible refine wpS ?_ | (with_reducible refine bZ ?_;omega) | dsimp only))<;>trivial
theorem BV (F:Nat) (c:Int):Wp (mu F c) (fun _=>True):=by
 unfold mu;(repeat' (first | with_reducible refine az ?_ | (with_reducible refine aw ?_ ?_<;>intro _) | (with_reducible refine aY (by assumption) ?_;intro _ _) | with_reducible refine wpS ?_ | (with_reducible refine bZ ?_;omega) | dsimp only))<;>trivial
theorem lE (F:Nat) (B:List UInt8) (i:Int) (h:0≤i) (hn:B.length≤20000):Wp (correctorref2_Break F B i) (fun r=>0≤r∧(0<r→i+r≤B.length)):=by
 unfold correctorref2_Break
 refine aw ?_ ?_<;>intro _
 ·exact wpS (by omega)
 ·have e:af (i+1)=i+1:=aX (by omega) (by omega)
  simp only [e]
  (repeat' (first | with_reducible refine az ?_ | (with_reducible refine aw ?_ ?_<;>intro _) | (with_reducible refine aY (by assumption) ?_;intro _ _) | with_reducible refine wpS ?_ | (with_reducible refine bZ ?_;omega) | dsimp only))<;>omega
theorem pU (F:Nat) (s:aF) (i:Int) (h:0≤i) (hn:s.B.length≤20000):Wp (jF F s i) (fun _=>True):=by
 unfold jF
 refine aw ?_ ?_<;>intro hi
 ·exact wpS trivial
 ·(repeat' (first | with_reducible refine az ?_ | (with_reducible refine aw ?_ ?_<;>intro _) | (with_reducible refine aY (by assumption) ?_;intro _ _) | with_reducible refine wpS ?_ | (with_reducible refine bZ ?_;omega) | dsimp only))
  refine (kW _ _).mono ?_
  intro r _
  (repeat' (first | with_reducible refine az ?_ | (with_reducible refine aw ?_ ?_<;>intro _) | (with_reducible refine aY (by assumption) ?_;intro _ _) | with_reducible refine wpS ?_ | (with_reducible refine bZ ?_;omega) | dsimp only))
  refine (lE _ _ _ h hn).mono ?_
  intro r _
  (repeat' (first | with_reducible refine az ?_ | (with_reducible refine aw ?_ ?_<;>intro _) | (with_reducible refine aY (by assumption) ?_;intro _ _) | with_reducible refine wpS ?_ | (with_reducible refine bZ ?_;omega) | dsimp only))<;>trivial
theorem nN (F:Nat) (s:aF) (i:Int):Wp (iq F s i) (fun r=>r≠0→i<s.B.length):=by
 unfold iq
 (repeat' (first | with_reducible refine az ?_ | (with_reducible refine aw ?_ ?_<;>intro _) | (with_reducible refine aY (by assumption) ?_;intro _ _) | with_reducible refine wpS ?_ | (with_reducible refine bZ ?_;omega) | dsimp only))<;>omega
theorem ui (F:Nat) (s:aF) (i:Int) (h:0≤i∧i≤s.B.length) (hn:s.B.length≤20000):
  Wp (l2 F s i) (fun r=>r=0∨(r=20∨r=21)∧i+3≤s.B.length):=by
 unfold l2
 have e1:af (i+1)=i+1:=aX (by omega) (by omega)
 have j:af (i+2)=i+2:=aX (by omega) (by omega)
 have I:af (i+3)=i+3:=aX (by omega) (by omega)
 simp only [e1,j,I]
 refine az ((nN F s i).mono ?_)
 intro r _
 (repeat' (first | with_reducible refine az ?_ | (with_reducible refine aw ?_ ?_<;>intro _) | (with_reducible refine aY (by assumption) ?_;intro _ _) | with_reducible refine wpS ?_ | (with_reducible refine bZ ?_;omega) | dsimp only))
 ·omega
 ·refine (pU _ _ _ (by omega) hn).mono ?_
  intro r _
  (repeat' (first | with_reducible refine az ?_ | (with_reducible refine aw ?_ ?_<;>intro _) | (with_reducible refine aY (by assumption) ?_;intro _ _) | with_reducible refine wpS ?_ | (with_reducible refine bZ ?_;omega) | dsimp only))<;>omega
 all_goals omega
def ji (k:Int):Bool:=!(k == 1 || k == 2 || k == 3 || k == 4)
theorem vx (F:Nat) (k:Int):ft F k=some (ji k):=by
 unfold ft ji
 repeat' split
 all_goals simp_all
theorem yB (F:Nat) (s:aF) (k to:Int) (hl:s.L.length≤20000):
  Wp (cS F s k to) (fun r=>r.B=s.B∧r.At=to∧r.Row=s.Row∧r.Open=s.Open∧r.L=s.L++[⟨k,s.At,to⟩]):=by
 unfold cS
 rw [vx]
 refine az (az ?_)
 refine Wp.mono (P:=fun _=>True) ?_ ?_
 ·(repeat' (first | with_reducible refine az ?_ | (with_reducible refine aw ?_ ?_<;>intro _) | (with_reducible refine aY (by assumption) ?_;intro _ _) | with_reducible refine wpS ?_ | (with_reducible refine bZ ?_;omega) | dsimp only))<;>trivial
 intro c _
 have e:s.L.length+[(⟨k,s.At,to⟩:ak)].length≤5864062014805:=by simp;omega
 (repeat' (first | with_reducible refine az ?_ | (with_reducible refine aw ?_ ?_<;>intro _) | (with_reducible refine aY (by assumption) ?_;intro _ _) | with_reducible refine wpS ?_ | (with_reducible refine bZ ?_;omega) | dsimp only))
 all_goals first | exact ⟨rfl,rfl,rfl,rfl,rfl⟩ | (exfalso;simp_all;done) | (exfalso;simp_all;omega)
theorem p6 (F:Nat) (s:aF) (i:Int) (h:0≤i∧i≤s.B.length) (hn:s.B.length≤20000) (hF:s.B.length<F):
  Wp (fB F s i) (fun r=>i≤r∧r≤s.B.length∧(r=s.B.length∨Wp (correctorref2_Break F s.B r) (fun b=>0<b))):=by
 have key:∀ (m:Nat) (x:Int),i≤x→x≤s.B.length→s.B.length - x<m→Wp (correctorref6_scanner_rowEnd_l0 F s i m x)
   (fun r=>i≤r∧r≤s.B.length∧(r=s.B.length∨Wp (correctorref2_Break F s.B r) (fun b=>0<b))):=by
  intro m
  induction m with
  | zero=>intro x h1 h2 j;omega
  | succ m ih=>
   intro x h1 h2 j
   rw [correctorref6_scanner_rowEnd_l0]
   refine aw ?_ ?_<;>intro hx
   ·refine az ?_
    obtain ⟨b,hb,I,J⟩:=lE F s.B x (by omega) hn
    refine ⟨b,hb,?_⟩
    refine aw ?_ ?_<;>intro hz
    ·rw [aX (by omega) (by omega)]
     exact ih _ (by omega) (by omega) (by omega)
    ·exact wpS ⟨h1,h2, .inr ⟨b,hb,by omega⟩⟩
   ·exact wpS ⟨h1,h2, .inl (by omega)⟩
 unfold fB
 refine az ((key F i (by omega) (by omega) (by omega)).mono ?_)
 intro a ha
 exact wpS ha
end Go.Proofs.Ytcilejikekccmaa.M
namespace Go.Proofs.Ytcilejikekccmaa.M
open Go Am Sy
theorem td (F:Nat) (s:aF) (i:Int) (t:Bool) (h:0≤i∧i≤s.B.length) (hn:s.B.length≤20000) (hF:s.B.length<F):
  Wp (lg F s i t) (fun r=>i≤r∧r≤s.B.length):=by
 have key:∀ (m:Nat) (x:Int),i≤x→x≤s.B.length→s.B.length - x<m→Wp (kN F s i t m x)
   (fun r=>i≤r∧r≤s.B.length):=by
  intro m
  induction m with
  | zero=>intro x h1 h2 j;omega
  | succ m ih=>
   intro x h1 h2 j
   have e:x<s.B.length→af (x+1)=x+1:=fun _=>aX (by omega) (by omega)
   have st:x<s.B.length→Wp (kN F s i t m (af (x+1))) (fun r=>i≤r∧r≤s.B.length):=by
    intro hx;rw [e hx];exact ih _ (by omega) (by omega) (by omega)
   rw [kN]
   refine az ?_
   refine aw ?_ ?_<;>intro hx
   ·have st:=st hx
    (repeat' (first | with_reducible refine az ?_ | (with_reducible refine aw ?_ ?_<;>intro _) | (with_reducible refine aY (by assumption) ?_;intro _ _) | with_reducible refine wpS ?_ | (with_reducible refine bZ ?_;omega) | dsimp only))
    refine (BV _ _).mono ?_
    intro r _
    (repeat' (first | with_reducible refine az ?_ | (with_reducible refine aw ?_ ?_<;>intro _) | (with_reducible refine aY (by assumption) ?_;intro _ _) | with_reducible refine wpS ?_ | (with_reducible refine bZ ?_;omega) | dsimp only))
    all_goals first | exact st | omega
   ·exact wpS (wpS ⟨h1,h2⟩)
 unfold lg
 refine az ((key F i (by omega) (by omega) (by omega)).mono ?_)
 intro a ha
 exact wpS ha
theorem tV (F:Nat) (s:aF) (i:Int) (h:0≤i) (hn:s.B.length≤20000):Wp (l6 F s i) (fun _=>True):=by
 unfold l6
 refine az ((nN F s i).mono ?_)
 intro r _
 refine aw ?_ ?_<;>intro _
 ·refine aw ?_ ?_<;>intro _
  ·rw [aX (by omega) (by omega)]
   refine az ((pU _ _ _ (by omega) hn).mono ?_)
   intro r _
   (repeat' (first | with_reducible refine az ?_ | (with_reducible refine aw ?_ ?_<;>intro _) | (with_reducible refine aY (by assumption) ?_;intro _ _) | with_reducible refine wpS ?_ | (with_reducible refine bZ ?_;omega) | dsimp only))
   refine (nN F s _).mono ?_
   intro r _
   (repeat' (first | with_reducible refine az ?_ | (with_reducible refine aw ?_ ?_<;>intro _) | (with_reducible refine aY (by assumption) ?_;intro _ _) | with_reducible refine wpS ?_ | (with_reducible refine bZ ?_;omega) | dsimp only))
   refine (p1 _ _).mono ?_
   intro r _
   (repeat' (first | with_reducible refine az ?_ | (with_reducible refine aw ?_ ?_<;>intro _) | (with_reducible refine aY (by assumption) ?_;intro _ _) | with_reducible refine wpS ?_ | (with_reducible refine bZ ?_;omega) | dsimp only))
  ·exact wpS trivial
 ·exact wpS trivial
theorem xC (F:Nat) (s:aF) (i e:Int) (h:0≤i∧i≤e∧e≤s.B.length) (hn:s.B.length≤20000) (hF:s.B.length<F):
  Wp (na F s i e) (fun r=>i≤r∧r≤e):=by
 have key:∀ (m:Nat) (x:Int),i≤x→x≤e→e - x<m→Wp (correctorref6_scanner_single_l0 F s i e m x)
   (fun r=>∀ y,r= .inr y→i≤y∧y≤e):=by
  intro m
  induction m with
  | zero=>intro x h1 h2 j;omega
  | succ m ih=>
   intro x h1 h2 j
   rw [correctorref6_scanner_single_l0]
   refine aw ?_ ?_<;>intro hx
   ·have e1:af (x+1)=x+1:=aX (by omega) (by omega)
    have I:af (x+2)=x+2:=aX (by omega) (by omega)
    simp only [e1,I]
    (repeat' (first | with_reducible refine az ?_ | (with_reducible refine aw ?_ ?_<;>intro _) | (with_reducible refine aY (by assumption) ?_;intro _ _) | with_reducible refine wpS ?_ | (with_reducible refine bZ ?_;omega) | dsimp only))
    ·exact ih _ (by omega) (by omega) (by omega)
    ·intro y hy;cases hy;omega
    ·intro y hy;cases hy;omega
    ·exact ih _ (by omega) (by omega) (by omega)
   ·exact wpS (fun y hy=>by cases hy)
 unfold na
 refine az ((key F i (by omega) (by omega) (by omega)).mono ?_)
 intro a ha
 rcases a with _ | y
 ·exact wpS ⟨h.2.1,Int.le_refl _⟩
 ·exact wpS (ha y rfl)
theorem yZ (F:Nat) (s:aF) (i e:Int) (h:0≤i∧i≤e∧e≤s.B.length) (hn:s.B.length≤20000) (hF:s.B.length+2<F):
  Wp (n8 F s i e) (fun r=>i≤r):=by
 have key:∀ (m:Nat) (x:Int),i≤x→x≤e+1→e+1 - x<m→Wp (la F s i e m x)
   (fun r=>∀ y,r= .inr y→i≤y):=by
  intro m
  induction m with
  | zero=>intro x h1 h2 j;omega
  | succ m ih=>
   intro x h1 h2 j
   rw [la]
   refine aw ?_ ?_<;>intro hx
   ·have e1:af (x+1)=x+1:=aX (by omega) (by omega)
    have I:af (x+1+1)=x+1+1:=aX (by omega) (by omega)
    (repeat' (first | with_reducible refine az ?_ | (with_reducible refine aw ?_ ?_<;>intro _) | (with_reducible refine aY (by assumption) ?_;intro _ _) | with_reducible refine wpS ?_ | (with_reducible refine bZ ?_;omega) | dsimp only))
    ·intro y hy;cases hy;omega
    ·rw [e1,I];exact ih _ (by omega) (by omega) (by omega)
    ·rw [e1];exact ih _ (by omega) (by omega) (by omega)
   ·exact wpS (fun y hy=>by cases hy)
 unfold n8
 refine az ((key F i (by omega) (by omega) (by omega)).mono ?_)
 intro a ha
 rcases a with _ | y
 ·exact wpS h.2.1
 ·exact wpS (ha y rfl)
theorem C2 (F:Nat) (s:aF) (h:0≤s.At∧s.At<s.B.length) (hn:s.B.length≤20000) (hF:s.B.length+2<F):
  Wp (ib F s) (fun r=>0≤r∧s.At+r≤s.B.length):=by
 have key:∀ (j:Int),s.At≤j→j≤s.B.length→∀ (m:Nat) (x:Int),j≤x→x≤s.B.length→s.B.length - x<m→Wp (gM F s m j x)
   (fun r=>r.1=j∧j≤r.2∧r.2≤s.B.length):=by
  intro j J U m
  induction m with
  | zero=>intro x h1 h2 ad;omega
  | succ m ih=>
   intro x h1 h2 ad
   rw [gM]
   refine aw ?_ ?_<;>intro hx
   ·have e1:af (x+1)=x+1:=aX (by omega) (by omega)
    rw [e1]
    (repeat' (first | with_reducible refine az ?_ | (with_reducible refine aw ?_ ?_<;>intro _) | (with_reducible refine aY (by assumption) ?_;intro _ _) | with_reducible refine wpS ?_ | (with_reducible refine bZ ?_;omega) | dsimp only))
    refine (kW _ _).mono ?_
    intro r _
    (repeat' (first | with_reducible refine az ?_ | (with_reducible refine aw ?_ ?_<;>intro _) | (with_reducible refine aY (by assumption) ?_;intro _ _) | with_reducible refine wpS ?_ | (with_reducible refine bZ ?_;omega) | dsimp only))
    ·exact ih _ (by omega) (by omega) (by omega)
    ·exact ⟨rfl,h1,h2⟩
   ·exact wpS ⟨rfl,h1,h2⟩
 have e1:af (s.At+1)=s.At+1:=aX (by omega) (by omega)
 have ae:af (s.At+1+1)=s.At+1+1:=aX (by omega) (by omega)
 have tail:∀ j:Int,s.At≤j→j≤s.B.length→Wp ((gM F s F j j).bind fun o=>match o with
     | (aa,I)=>((if I<(s.B.length:Int) then
       (correctorref2_Break F s.B I).bind fun ag=>
       if ag=(0:Int) then
        if 0≤I∧I<(s.B.length:Int) then
         (s.B[I.toNat]?).bind fun ah=>
         if (ah.toNat:Int)=(35:Int) then
          if aa<I then
           some (.inl ())
          else
           some (.inr 0)
         else
          some (.inr 0)
        else none
       else
        some (.inl ())
      else
       some (.inl ())):Option (Sum Unit Int)).bind fun o=>match o with
      | .inl ()=>some (af (aa - s.At))
      | .inr y=>some y) (fun r=>0≤r∧s.At+r≤s.B.length):=by
  intro j J U
  refine az ((key j J U F j (by omega) (by omega) (by omega)).mono ?_)
  rintro ⟨a,b⟩ ⟨ab,ai,aj⟩
  dsimp only at ab ai aj ⊢
  subst ab
  have al:af (a - s.At)=a - s.At:=aX (by omega) (by omega)
  rw [al]
  refine az ?_
  refine aw ?_ ?_<;>intro hx
  ·refine az ((lE _ _ _ (by omega) hn).mono ?_)
   intro r _
   (repeat' (first | with_reducible refine az ?_ | (with_reducible refine aw ?_ ?_<;>intro _) | (with_reducible refine aY (by assumption) ?_;intro _ _) | with_reducible refine wpS ?_ | (with_reducible refine bZ ?_;omega) | dsimp only))<;>omega
  ·exact wpS (wpS (by omega))
 unfold ib
 simp only [e1,ae]
 refine aw ?_ ?_<;>intro hx
 ·refine az (aY hx ?_)
  intro c hc
  refine az ?_
  refine Wp.mono (P:=fun r=>∀ y,r= .inr y→y=0) ?_ ?_
  ·(repeat' (first | with_reducible refine az ?_ | (with_reducible refine aw ?_ ?_<;>intro _) | (with_reducible refine aY (by assumption) ?_;intro _ _) | with_reducible refine wpS ?_ | (with_reducible refine bZ ?_;omega) | dsimp only))
   all_goals intro y hy;cases hy
   all_goals rfl
  intro a ha
  rcases a with _ | y
  ·dsimp only
   refine az ?_
   refine Wp.mono (P:=fun r=>s.At≤r∧r≤s.B.length) ?_ ?_
   ·refine az ((nN F s _).mono ?_)
    intro r hr
    (repeat' (first | with_reducible refine az ?_ | (with_reducible refine aw ?_ ?_<;>intro _) | (with_reducible refine aY (by assumption) ?_;intro _ _) | with_reducible refine wpS ?_ | (with_reducible refine bZ ?_;omega) | dsimp only))
    ·omega
    ·refine (nN F s _).mono ?_
     intro r' nU
     (repeat' (first | with_reducible refine az ?_ | (with_reducible refine aw ?_ ?_<;>intro _) | (with_reducible refine aY (by assumption) ?_;intro _ _) | with_reducible refine wpS ?_ | (with_reducible refine bZ ?_;omega) | dsimp only))<;>omega
   ·intro j hj
    exact tail j hj.1 hj.2
  ·have:=ha y rfl
   subst this
   exact wpS (by omega)
 ·omega
end Go.Proofs.Ytcilejikekccmaa.M
namespace Go.Proofs.Ytcilejikekccmaa.M
open Go Am Sy
theorem z3 (F:Nat) (b:List UInt8) (n x low:Int) (h:1≤n∧n≤4) (hF:10<F):Wp (jd F b n x low) (fun r=>r.2=1∨(1≤r.2∧r.2≤b.length)):=by
 have key:n≤b.length→∀ (m:Nat) (v i:Int),1≤i→i≤n→n - i<m→Wp (correctorref1_sign_l0 F b n x low m v i)
   (fun r=>∀ y,r= .inr y→y.2=1):=by
  intro hn m
  induction m with
  | zero=>intro v i h1 h2 j;omega
  | succ m ih=>
   intro v i h1 h2 j
   rw [correctorref1_sign_l0]
   refine aw ?_ ?_<;>intro hx
   ·have e1:af (i+1)=i+1:=aX (by omega) (by omega)
    rw [e1]
    (repeat' (first | with_reducible refine az ?_ | (with_reducible refine aw ?_ ?_<;>intro _) | (with_reducible refine aY (by assumption) ?_;intro _ _) | with_reducible refine wpS ?_ | (with_reducible refine bZ ?_;omega) | dsimp only))
    ·intro y hy;cases hy;rfl
    ·intro y hy;cases hy;rfl
    ·exact ih _ _ (by omega) (by omega) (by omega)
   ·exact wpS (fun y hy=>by cases hy)
 unfold jd
 refine aw ?_ ?_<;>intro hx
 ·exact wpS (.inl rfl)
 ·refine az ((key (by omega) F x 1 (by omega) (by omega) (by omega)).mono ?_)
  intro a ha
  rcases a with v | y
  ·(repeat' (first | with_reducible refine az ?_ | (with_reducible refine aw ?_ ?_<;>intro _) | (with_reducible refine aY (by assumption) ?_;intro _ _) | with_reducible refine wpS ?_ | (with_reducible refine bZ ?_;omega) | dsimp only))
   all_goals first | exact .inl rfl | exact .inr ⟨h.1,by omega⟩
  ·exact wpS (.inl (ha y rfl))
theorem oH (F:Nat) (b:List UInt8) (hb:0<b.length) (hF:10<F):Wp (jj F b) (fun r=>1≤r.2∧r.2≤b.length):=by
 unfold jj
 rw [if_neg (by omega)]
 refine aw ?_ ?_<;>intro h0
 ·refine az (aY h0 ?_)
  intro c hc
  refine az ?_
  have sg:∀ n x low,1≤n∧n≤4→Wp (jd F b n x low) (fun r=>1≤r.2∧r.2≤b.length):=
   fun n x low h=>(z3 F b n x low h hF).mono (fun r hr=>by omega)
  (repeat' (first | with_reducible refine az ?_ | (with_reducible refine aw ?_ ?_<;>intro _) | (with_reducible refine aY (by assumption) ?_;intro _ _) | with_reducible refine wpS ?_ | (with_reducible refine bZ ?_;omega) | dsimp only))
  all_goals first
   | omega
   | (exfalso;simp_all;done)
   | (refine (sg 2 _ _ (by omega)).mono ?_;intro r hr;(repeat' (first | with_reducible refine az ?_ | (with_reducible refine aw ?_ ?_<;>intro _) | (with_reducible refine aY (by assumption) ?_;intro _ _) | with_reducible refine wpS ?_ | (with_reducible refine bZ ?_;omega) | dsimp only));exact hr)
   | (refine (sg 3 _ _ (by omega)).mono ?_;intro r hr;(repeat' (first | with_reducible refine az ?_ | (with_reducible refine aw ?_ ?_<;>intro _) | (with_reducible refine aY (by assumption) ?_;intro _ _) | with_reducible refine wpS ?_ | (with_reducible refine bZ ?_;omega) | dsimp only));exact hr)
   | (refine (sg 4 _ _ (by omega)).mono ?_;intro r hr;(repeat' (first | with_reducible refine az ?_ | (with_reducible refine aw ?_ ?_<;>intro _) | (with_reducible refine aY (by assumption) ?_;intro _ _) | with_reducible refine wpS ?_ | (with_reducible refine bZ ?_;omega) | dsimp only));exact hr)
 ·omega
theorem BJ (F:Nat) (s:aF) (h:0≤s.At∧s.At<s.B.length) (hn:s.B.length≤20000) (hF:s.B.length+10<F):
  Wp (mz F s) (fun r=>s.At<r∧r≤s.B.length):=by
 have k0:∀ (m:Nat) (x:Int),s.At<x→x≤s.B.length→s.B.length - x<m→Wp (ki F s m x)
   (fun r=>s.At<r∧r≤s.B.length):=by
  intro m
  induction m with
  | zero=>intro x h1 h2 j;omega
  | succ m ih=>
   intro x h1 h2 j
   rw [ki]
   refine aw ?_ ?_<;>intro hx
   ·refine aw ?_ ?_<;>intro hy
    ·have e1:af (x - 1)=x - 1:=aX (by omega) (by omega)
     rw [e1]
     refine az ((oH F _ (by simp;omega) (by omega)).mono ?_)
     intro r hr
     have hl:((s.B.take (s.B.length:Int).toNat).drop x.toNat).length=s.B.length - x.toNat:=by simp
     rw [hl] at hr
     have st:Wp (ki F s m (af (x+r.2))) (fun r=>s.At<r∧r≤s.B.length):=by
      rw [aX (by omega) (by omega)]
      exact ih _ (by omega) (by omega) (by omega)
     refine az ?_
     refine Wp.mono (P:=fun r=>r= .inl ()∨r= .inr x) ?_ ?_
     ·(repeat' (first | with_reducible refine az ?_ | (with_reducible refine aw ?_ ?_<;>intro _) | (with_reducible refine aY (by assumption) ?_;intro _ _) | with_reducible refine wpS ?_ | (with_reducible refine bZ ?_;omega) | dsimp only))
      ·exact .inr rfl
      ·refine (lE _ _ _ (by omega) hn).mono ?_
       intro r _
       (repeat' (first | with_reducible refine az ?_ | (with_reducible refine aw ?_ ?_<;>intro _) | (with_reducible refine aY (by assumption) ?_;intro _ _) | with_reducible refine wpS ?_ | (with_reducible refine bZ ?_;omega) | dsimp only))
       ·exact .inr rfl
       ·refine (tV _ _ _ (by omega) hn).mono ?_
        intro r _
        (repeat' (first | with_reducible refine az ?_ | (with_reducible refine aw ?_ ?_<;>intro _) | (with_reducible refine aY (by assumption) ?_;intro _ _) | with_reducible refine wpS ?_ | (with_reducible refine bZ ?_;omega) | dsimp only))
        ·exact .inr rfl
        ·refine (kW _ _).mono ?_
         intro r _
         (repeat' (first | with_reducible refine az ?_ | (with_reducible refine aw ?_ ?_<;>intro _) | (with_reducible refine aY (by assumption) ?_;intro _ _) | with_reducible refine wpS ?_ | (with_reducible refine bZ ?_;omega) | dsimp only))
         ·exact .inr rfl
         ·refine (p1 _ _).mono ?_
          intro r _
          (repeat' (first | with_reducible refine az ?_ | (with_reducible refine aw ?_ ?_<;>intro _) | (with_reducible refine aY (by assumption) ?_;intro _ _) | with_reducible refine wpS ?_ | (with_reducible refine bZ ?_;omega) | dsimp only))
          ·exact .inr rfl
          ·exact .inl rfl
         ·exact .inl rfl
        ·refine (p1 _ _).mono ?_
         intro r _
         (repeat' (first | with_reducible refine az ?_ | (with_reducible refine aw ?_ ?_<;>intro _) | (with_reducible refine aY (by assumption) ?_;intro _ _) | with_reducible refine wpS ?_ | (with_reducible refine bZ ?_;omega) | dsimp only))
         ·exact .inr rfl
         ·exact .inl rfl
        ·exact .inl rfl
     ·intro a ha
      rcases ha with rfl | rfl
      ·exact st
      ·exact wpS ⟨h1,h2⟩
    ·omega
   ·exact wpS ⟨h1,h2⟩
 have I:∀ (m:Nat) (x:Int),s.At<x→x≤s.B.length→x - s.At<m→Wp (lS F s m x)
   (fun r=>s.At<r∧r≤s.B.length):=by
  intro m
  induction m with
  | zero=>intro x h1 h2 j;omega
  | succ m ih=>
   intro x h1 h2 j
   rw [lS]
   have e1:af (x - 1)=x - 1:=aX (by omega) (by omega)
   have J:af (s.At+1)=s.At+1:=aX (by omega) (by omega)
   rw [e1,J]
   (repeat' (first | with_reducible refine az ?_ | (with_reducible refine aw ?_ ?_<;>intro _) | (with_reducible refine aY (by assumption) ?_;intro _ _) | with_reducible refine wpS ?_ | (with_reducible refine bZ ?_;omega) | dsimp only))
   ·refine (kW _ _).mono ?_
    intro r _
    (repeat' (first | with_reducible refine az ?_ | (with_reducible refine aw ?_ ?_<;>intro _) | (with_reducible refine aY (by assumption) ?_;intro _ _) | with_reducible refine wpS ?_ | (with_reducible refine bZ ?_;omega) | dsimp only))
    ·exact ih _ (by omega) (by omega) (by omega)
    ·exact ⟨h1,h2⟩
   ·exact ⟨h1,h2⟩
 unfold mz
 refine aw ?_ ?_<;>intro hx
 ·refine az ((oH F _ (by simp;omega) (by omega)).mono ?_)
  intro r hr
  have hl:((s.B.take (s.B.length:Int).toNat).drop s.At.toNat).length=s.B.length - s.At.toNat:=by simp
  rw [hl] at hr
  rw [aX (by omega) (by omega)]
  refine az ((k0 F _ (by omega) (by omega) (by omega)).mono ?_)
  intro a ha
  refine az ((I F _ ha.1 ha.2 (by omega)).mono ?_)
  intro a ha
  exact wpS ha
 ·omega
def Ends (l:List ak):Prop:=l=[]∨∃ p t,l=p++[t]∧(t.Kind=1∨t.Kind=19)
def gg (l:List ak) (k:Int):Prop:=∃ p t,l=p++[t]∧t.Kind=k
inductive Tk (n:Int):List ak→Int→Prop
 | nil:Tk n [] 0
 | snoc {l:List ak} {mY:Int} (k to:Int):Tk n l mY→mY<to→to≤n→(k=2∨k=20∨k=21→Ends l)→(gg l 4→k=1)→0<k→Tk n (l++[⟨k,mY,to⟩]) to
theorem Tk.bounds {n:Int} {l:List ak} {a:Int} (h:Tk n l a):(l.length:Int)≤a∧(0<a→l≠[]):=by
 induction h with
 | nil=>simp
 | snoc k to h1 h2 j I J U ih=>simp;omega
structure SI (F:Nat) (B:List UInt8) (s:aF):Prop where
 b:s.B=B
 r:0≤s.Row∧s.Row≤s.At∧s.At≤B.length
 o:0≤s.Open∧s.Open≤s.At
 t:Tk B.length s.L s.At
 w:s.At=s.Row→Ends s.L
 c:gg s.L 4→s.At=B.length∨Wp (correctorref2_Break F B s.At) (fun b=>0<b)
theorem SI.ll {F:Nat} {B:List UInt8} {s:aF} (h:SI F B s) (hn:B.length≤20000):s.L.length≤20000:=by
 have:=h.t.bounds.1;have:=h.r;omega
theorem qT (l:List ak) (t:ak) (k:Int):gg (l++[t]) k↔t.Kind=k:=by
 constructor
 ·rintro ⟨p,t',h,h1⟩
  have:=List.append_inj_right' h rfl
  simp at this;subst this;exact h1
 ·intro h;exact ⟨l,t,rfl,h⟩
theorem SI.add {F:Nat} {B:List UInt8} {s r:aF} {k to:Int} (h:SI F B s)
  (hr:r.B=s.B∧r.At=to∧r.Row=s.Row∧r.Open=s.Open∧r.L=s.L++[⟨k,s.At,to⟩])
  (h1:s.At<to) (h2:to≤B.length) (U:k=2∨k=20∨k=21→s.At=s.Row)
  (aa:k≠1→¬ gg s.L 4)
  (ab:k=4→to=B.length∨Wp (correctorref2_Break F B to) (fun b=>0<b)) (ad:0<k):SI F B r:=by
 obtain ⟨e1,j,I,ae,J⟩:=hr
 have hR:=h.r
 have hO:=h.o
 refine ⟨by rw [e1,h.b],by rw [j,I];omega,by rw [j,ae];omega,?_,by rw [j,I];omega,?_⟩
 ·rw [J,j]
  refine .snoc k to h.t h1 h2 (fun q=>h.w (U q)) ?_ ad
  intro q
  by_cases hk:k=1
  ·exact hk
  ·exact absurd q (aa hk)
 ·rw [J,j,qT]
  exact ab
theorem SI.kV {F:Nat} {B:List UInt8} {s:aF} (h:SI F B s) (h1:s.At<B.length) (h2:Wp (correctorref2_Break F B s.At) (fun b=>b=0)):¬ gg s.L 4:=by
 intro q
 obtain ⟨b,I,J⟩:=h2
 rcases h.c q with j | ⟨b',j,U⟩
 ·omega
 ·rw [I] at j;injection j;omega
theorem Ends.kV {l:List ak} (h:Ends l):¬ gg l 4:=by
 rcases h with rfl | ⟨p,t,rfl,h⟩
 ·rintro ⟨p,t,h,_⟩;simp at h
 ·rw [qT];omega
theorem SI.re {F:Nat} {B:List UInt8} {s:aF} (h:SI F B s) (o base text:Int) (only:Bool) (ho:0≤o∧o≤s.At):
  SI F B ⟨s.B,s.At,s.Row,o,base,only,text,s.L⟩:=⟨h.b,h.r,ho,h.t,h.w,h.c⟩
theorem SI.row {F:Nat} {B:List UInt8} {s:aF} (h:SI F B s) (he:Ends s.L) (base text:Int) (only:Bool):
  SI F B ⟨s.B,s.At,s.At,s.Open,base,only,text,s.L⟩:=by
 have:=h.r
 exact ⟨h.b,by dsimp only;omega,h.o,h.t,fun _=>he,h.c⟩
theorem iI {F:Nat} {B:List UInt8} {s:aF} (h:SI F B s) (hn:B.length≤20000) (k to:Int)
  (h1:s.At<to) (h2:to≤B.length) (j:k=2∨k=20∨k=21→s.At=s.Row)
  (I:k≠1→¬ gg s.L 4)
  (J:k=4→to=B.length∨Wp (correctorref2_Break F B to) (fun b=>0<b)) (U:0<k:=by omega):
  Wp (cS F s k to) (fun r=>SI F B r∧r.At=to∧r.Row=s.Row∧r.Open=s.Open∧gg r.L k):=by
 refine (yB F s k to (h.ll hn)).mono ?_
 intro r hr
 refine ⟨h.add hr h1 h2 j I J U,hr.2.1,hr.2.2.1,hr.2.2.2.1,?_⟩
 rw [hr.2.2.2.2,qT]
end Go.Proofs.Ytcilejikekccmaa.M
namespace Go.Proofs.Ytcilejikekccmaa.M
open Go Am Sy
theorem qu {l:List ak} {k:Int} (h:gg l k) (hk:k=1∨k=19):Ends l:=by
 obtain ⟨p,t,rfl,h⟩:=h
 exact .inr ⟨p,t,rfl,by omega⟩
theorem EI (F:Nat) (a s:aF) (e:Int) (hn:s.B.length≤20000) (he:e≤s.B.length):∀ (m:Nat) (x:Int),0≤x→x≤e→e - x<m→
  Wp (correctorref6_scanner_texts_l1 F a m s e x) (fun r=>r.1=s∧r.2.1=e∧x≤r.2.2∧r.2.2≤e):=by
 intro m
 induction m with
 | zero=>intro x h1 h2 j;omega
 | succ m ih=>
  intro x h1 h2 j
  rw [correctorref6_scanner_texts_l1]
  refine aw ?_ ?_<;>intro hx
  ·rw [aX (by omega) (by omega)]
   (repeat' (first | with_reducible refine az ?_ | (with_reducible refine aw ?_ ?_<;>intro _) | (with_reducible refine aY (by assumption) ?_;intro _ _) | with_reducible refine wpS ?_ | (with_reducible refine bZ ?_;omega) | dsimp only))
   ·refine (ih _ (by omega) (by omega) (by omega)).mono ?_
    intro r hr;exact ⟨hr.1,hr.2.1,by omega,hr.2.2.2⟩
   ·exact ⟨rfl,rfl,Int.le_refl _,h2⟩
  ·exact wpS ⟨rfl,rfl,Int.le_refl _,h2⟩
theorem Eu (F:Nat) (a s:aF) (e j:Int) (hn:s.B.length≤20000) (he:e≤s.B.length):∀ (m:Nat) (x:Int),0≤x→x≤e→e - x<m→
  Wp (correctorref6_scanner_texts_l2 F a m s e j x) (fun r=>r.1=s∧r.2.1=e∧r.2.2.1=j∧x≤r.2.2.2∧r.2.2.2≤e):=by
 intro m
 induction m with
 | zero=>intro x h1 h2 I;omega
 | succ m ih=>
  intro x h1 h2 I
  rw [correctorref6_scanner_texts_l2]
  refine aw ?_ ?_<;>intro hx
  ·rw [aX (by omega) (by omega)]
   (repeat' (first | with_reducible refine az ?_ | (with_reducible refine aw ?_ ?_<;>intro _) | (with_reducible refine aY (by assumption) ?_;intro _ _) | with_reducible refine wpS ?_ | (with_reducible refine bZ ?_;omega) | dsimp only))
   refine (kW _ _).mono ?_
   intro r _
   (repeat' (first | with_reducible refine az ?_ | (with_reducible refine aw ?_ ?_<;>intro _) | (with_reducible refine aY (by assumption) ?_;intro _ _) | with_reducible refine wpS ?_ | (with_reducible refine bZ ?_;omega) | dsimp only))
   ·refine (ih _ (by omega) (by omega) (by omega)).mono ?_
    intro r hr;exact ⟨hr.1,hr.2.1,hr.2.2.1,by omega,hr.2.2.2.2⟩
   ·exact ⟨rfl,rfl,rfl,Int.le_refl _,h2⟩
  ·exact wpS ⟨rfl,rfl,rfl,Int.le_refl _,h2⟩
theorem xi (F:Nat) (B:List UInt8) (a:aF) (h:SI F B a) (he:Ends a.L) (hn:B.length≤20000) (hF:B.length+10<F):
  Wp (mE F a) (fun r=>SI F B r∧a.At≤r.At):=by
 have key:∀ (m:Nat) (s:aF),SI F B s→Ends s.L→a.At≤s.At→B.length - s.At<m→
   Wp (correctorref6_scanner_texts_l0 F a m s) (fun r=>∃ q,(r= .inl q∨r= .inr q)∧SI F B q∧a.At≤q.At):=by
  intro m
  induction m with
  | zero=>intro s h1 h2 I ag;have:=h1.r;omega
  | succ m ih=>
   intro s h1 h2 I ag
   have hb:=h1.b
   have hr:=h1.r
   rw [correctorref6_scanner_texts_l0,hb]
   refine aw ?_ ?_<;>intro hx
   ·refine az ((ui F s s.At (by rw [hb];omega) (by rw [hb];exact hn)).mono ?_)
    intro mk _
    refine aw ?_ ?_<;>intro hm
    ·refine az ((p6 F s s.At (by rw [hb];omega) (by rw [hb];exact hn) (by rw [hb];omega)).mono ?_)
     rintro e ⟨e1,ah,j⟩
     rw [hb] at ah j
     refine az ((EI F a s e (by rw [hb];exact hn) (by rw [hb];omega) F s.At (by omega) (by omega) (by omega)).mono ?_)
     rintro ⟨s1,e',J⟩ ⟨U,aa,ai,aj⟩
     dsimp only at U aa ai aj ⊢
     subst U aa
     refine az ((Eu F a s1 e' J (by rw [hb];exact hn) (by rw [hb];omega) F J (by omega) (by omega) (by omega)).mono ?_)
     rintro ⟨s2,pj,aq,ar⟩ ⟨ab,ad,ae,al,an⟩
     dsimp only at ab ad ae al an ⊢
     subst ab ad ae
     refine az ?_
     refine Wp.mono (P:=fun r=>r= .inl s2∨r= .inr s2) ?_ ?_
     ·(repeat' (first | with_reducible refine az ?_ | (with_reducible refine aw ?_ ?_<;>intro _) | (with_reducible refine aY (by assumption) ?_;intro _ _) | with_reducible refine wpS ?_ | (with_reducible refine bZ ?_;omega) | dsimp only))
      all_goals first | exact .inl rfl | exact .inr rfl
     rintro r (rfl | rfl)
     ·dsimp only
      rw [hb]
      refine az ?_
      obtain ⟨b,gH,au,ao⟩:=lE F B pj (by omega) hn
      refine (wpE gH ?_)
      have CU:s2.At<pj+b:=by
       rcases j with j | ⟨b',j,av⟩
       ·omega
       ·rw [gH] at j;injection j;omega
      have nA:pj+b≤B.length:=by
       by_cases hz:0<b
       ·exact ao hz
       ·omega
      rw [aX (by omega) (by omega)]
      refine az ((iI h1 hn 19 (pj+b) CU nA (by omega) (fun _=>h2.kV) (by omega)).mono ?_)
      rintro r ⟨r1,ax,ay,aA,af⟩
      refine az (wpS ?_)
      exact ih _ (r1.row (qu af (.inr rfl)) _ _ _) (qu af (.inr rfl)) (by dsimp only;omega) (by dsimp only;omega)
     ·exact wpS ⟨s2, .inr rfl,h1,I⟩
    ·exact wpS ⟨s, .inl rfl,h1,I⟩
   ·exact wpS ⟨s, .inl rfl,h1,I⟩
 unfold mE
 refine az ((key F _ (h.re a.Open a.bU (-2) a.cj h.o) he (Int.le_refl _) (by have:=h.r;dsimp only;omega)).mono ?_)
 rintro r ⟨q,rfl | rfl,h1,h2⟩
 ·exact wpS ⟨h1,h2⟩
 ·exact wpS ⟨h1,h2⟩
theorem xv (F:Nat) (s:aF) (hn:s.B.length≤20000):∀ (m:Nat) (x:Int),0≤x→x≤s.B.length→s.B.length - x<m→
  Wp (mc F s m x) (fun r=>x≤r∧r≤s.B.length∧(∀ c,s.B[x.toNat]?=some c→(c.toNat:Int)=32→x<r)):=by
 intro m
 induction m with
 | zero=>intro x h1 h2 j;omega
 | succ m ih=>
  intro x h1 h2 j
  rw [mc]
  refine aw ?_ ?_<;>intro hx
  ·rw [aX (by omega) (by omega)]
   refine aw ?_ ?_<;>intro hy
   ·refine az (aY hy ?_)
    intro c hc
    refine aw ?_ ?_<;>intro hz
    ·refine (ih _ (by omega) (by omega) (by omega)).mono ?_
     intro r hr
     exact ⟨by omega,hr.2.1,fun _ _ _=>by omega⟩
    ·refine wpS ⟨Int.le_refl _,h2,?_⟩
     intro c' dM h'
     rw [hc] at dM;injection dM with dM;subst dM;exact absurd h' hz
   ·omega
  ·refine wpS ⟨Int.le_refl _,h2,?_⟩
   intro c' dM h'
   have:s.B[x.toNat]?=none:=by simp;omega
   rw [this] at dM;cases dM
theorem AV (F:Nat) (s:aF) (hn:s.B.length≤20000):∀ (m:Nat) (x:Int),0≤x→x≤s.B.length→s.B.length - x<m→
  Wp (lA F s m x) (fun r=>x≤r∧r≤s.B.length∧(∀ c,s.B[x.toNat]?=some c→gu F (c.toNat:Int)=some true→x<r)):=by
 intro m
 induction m with
 | zero=>intro x h1 h2 j;omega
 | succ m ih=>
  intro x h1 h2 j
  rw [lA]
  refine aw ?_ ?_<;>intro hx
  ·rw [aX (by omega) (by omega)]
   refine aw ?_ ?_<;>intro hy
   ·refine az (aY hy ?_)
    intro c hc
    obtain ⟨bl,ga,_⟩:=kW F (c.toNat:Int)
    refine az (wpE ga ?_)
    refine aw ?_ ?_<;>intro hz
    ·refine (ih _ (by omega) (by omega) (by omega)).mono ?_
     intro r hr
     exact ⟨by omega,hr.2.1,fun _ _ _=>by omega⟩
    ·refine wpS ⟨Int.le_refl _,h2,?_⟩
     intro c' dM h'
     rw [hc] at dM;injection dM with dM;subst dM
     rw [ga] at h';injection h' with h';exact absurd h' hz
   ·omega
  ·refine wpS ⟨Int.le_refl _,h2,?_⟩
   intro c' dM h'
   have:s.B[x.toNat]?=none:=by simp;omega
   rw [this] at dM;cases dM
theorem zU (F:Nat) (B:List UInt8) (s:aF) (h:SI F B s) (hx:s.At<B.length) (hn:B.length≤20000) (hF:B.length+10<F):
  Wp (m9 F s) (fun r=>(r.1=true∧SI F B r.2∧s.At<r.2.At)∨(r.1=false∧r.2=s∧Wp (correctorref2_Break F B s.At) (fun b=>b=0))):=by
 have hb:=h.b
 have hr:=h.r
 unfold m9
 rw [hb]
 refine aw ?_ ?_<;>intro hy
 ·refine az (aY hy ?_)
  intro c hc
  obtain ⟨b,gH,aj,ag⟩:=lE F B s.At (by omega) hn
  refine az (wpE gH ?_)
  refine aw ?_ ?_<;>intro hz
  ·have:=ag hz
   rw [aX (by omega) (by omega)]
   refine az ((iI h hn 1 (s.At+b) (by omega) (by omega) (by omega) (by omega) (by omega)).mono ?_)
   rintro r ⟨r1,aa,al,an,ah⟩
   have he:=qu ah (.inl rfl)
   refine az (wpS ?_)
   refine az ?_
   refine Wp.mono (P:=fun q=>SI F B q∧r.At≤q.At) ?_ ?_
   ·refine aw ?_ ?_<;>intro _
    ·refine az ((xi F B _ (r1.row he _ _ _) he hn hF).mono ?_)
     intro q hq;exact wpS hq
    ·exact wpS ⟨r1.row he _ _ _,Int.le_refl _⟩
   ·rintro q ⟨J,U⟩
    exact wpS (.inl ⟨rfl,J,by dsimp only;omega⟩)
  ·have af:Wp (correctorref2_Break F B s.At) (fun b=>b=0):=⟨b,gH,by omega⟩
   have ab:=h.kV hx af
   have DX:Wp ((fB F s s.At).bind fun ad=>(cS F s 4 ad)) (fun r=>SI F B r∧s.At<r.At):=by
    refine az ((p6 F s s.At (by rw [hb];omega) (by rw [hb];exact hn) (by rw [hb];omega)).mono ?_)
    rintro e ⟨e1,I,j⟩
    rw [hb] at I j
    have:s.At<e:=by
     rcases j with j | ⟨b',j,ao⟩
     ·omega
     ·by_cases hh:e=s.At
      ·rw [hh,gH] at j;injection j;omega
      ·omega
    refine (iI h hn 4 e this I (by omega) (fun _=>ab) (fun _=>j)).mono ?_
    rintro r ⟨r1,aa,_⟩
    exact ⟨r1,by omega⟩
   refine az ?_
   refine Wp.mono (P:=fun r=>r=true→s.At=s.Row∧(c.toNat:Int)=32) ?_ ?_
   ·(repeat' (first | with_reducible refine az ?_ | (with_reducible refine aw ?_ ?_<;>intro _) | (with_reducible refine aY (by assumption) ?_;intro _ _) | with_reducible refine wpS ?_ | (with_reducible refine bZ ?_;omega) | dsimp only))
    ·exact fun _=>⟨by assumption,by assumption⟩
    all_goals (intro hh;cases hh)
   intro r sM
   refine aw ?_ ?_<;>intro hw
   ·obtain ⟨w1,w2⟩:=sM hw
    have:=xv F s (by rw [hb];exact hn) F s.At (by omega) (by rw [hb];omega) (by rw [hb];omega)
    rw [hb] at this
    refine az (this.mono ?_)
    rintro e ⟨e1,I,j⟩
    refine az ((iI h hn 2 e (j c hc w2) I (fun _=>w1) (fun _=>ab) (by omega)).mono ?_)
    rintro r ⟨r1,aa,_⟩
    have:=j c hc w2
    exact wpS (.inl ⟨rfl,r1,by dsimp only;omega⟩)
   ·obtain ⟨bl,ga,_⟩:=kW F (c.toNat:Int)
    refine az (wpE ga ?_)
    refine aw ?_ ?_<;>intro hv
    ·subst hv
     have:=AV F s (by rw [hb];exact hn) F s.At (by omega) (by rw [hb];omega) (by rw [hb];omega)
     rw [hb] at this
     refine az (this.mono ?_)
     rintro e ⟨e1,I,j⟩
     have:=j c hc ga
     refine az ((iI h hn 3 e this I (by omega) (fun _=>ab) (by omega)).mono ?_)
     rintro r ⟨r1,aa,_⟩
     exact wpS (.inl ⟨rfl,r1,by dsimp only;omega⟩)
    ·refine az ?_
     refine Wp.mono (P:=fun r=>r= .inl ()∨∃ q,r= .inr (true,q)∧SI F B q∧s.At<q.At) ?_ ?_
     ·obtain ⟨q,hq,J,U⟩:=DX
      have ae:Wp ((fB F s s.At).bind fun ad=>(cS F s 4 ad).bind fun ai=>some ((.inr (true,ai)):Sum Unit (Bool×aF)))
        (fun r=>r= .inl ()∨∃ q,r= .inr (true,q)∧SI F B q∧s.At<q.At):=by
       refine ⟨.inr (true,q),?_, .inr ⟨q,rfl,J,U⟩⟩
       rw [← Option.bind_assoc,hq];rfl
      refine aw ?_ ?_<;>intro aq
      ·refine aw ?_ ?_<;>intro sy
       ·exact ae
       ·have hl:=h.t.bounds.2 (by omega)
        have:0<s.L.length:=List.length_pos_iff.2 hl
        have nH:=h.ll hn
        rw [aX (by omega) (by omega)]
        refine aw ?_ ?_<;>intro hi
        ·refine az (aY hi ?_)
         intro t ht
         refine aw ?_ ?_<;>intro hk
         ·exact ae
         ·rw [if_pos hi]
          refine az (aY hi ?_)
          intro t ht
          refine aw ?_ ?_<;>intro hk
          ·exact ae
          ·exact wpS (.inl rfl)
        ·omega
      ·exact wpS (.inl rfl)
     ·rintro r (rfl | ⟨q,rfl,J,U⟩)
      ·exact wpS (.inr ⟨rfl,rfl,af⟩)
      ·exact wpS (.inl ⟨rfl,J,U⟩)
 ·omega
theorem Cf (F:Nat) (B:List UInt8) (s:aF) (h:SI F B s) (hx:s.At<B.length) (hn:B.length≤20000) (hc:¬ gg s.L 4):
  Wp (nh F s) (fun r=>(r.1=true∧SI F B r.2∧s.At<r.2.At)∨(r.1=false∧r.2=s)):=by
 have hb:=h.b
 have hr:=h.r
 have ho:=h.o
 unfold nh
 rw [hb]
 have e1:af (s.At+1)=s.At+1:=aX (by omega) (by omega)
 rw [e1]
 have T:∀ k,0<k∧k≠2∧k≠4∧k≠20∧k≠21→Wp (cS F s k (s.At+1)) (fun r=>SI F B r∧r.At=s.At+1∧r.Row=s.Row∧r.Open=s.Open∧gg r.L k):=
  fun k hk=>iI h hn k (s.At+1) (by omega) (by omega) (by omega) (fun _=>hc) (by omega)
 refine aw ?_ ?_<;>intro hy
 ·refine az (aY hy ?_)
  intro c _
  refine az ?_
  refine Wp.mono (P:=fun r=>(∃ q,r= .inl q∧SI F B q∧s.At<q.At)∨r= .inr (false,s)) ?_ ?_
  ·have up:∀ r:aF,SI F B r∧r.At=s.At+1∧r.Row=s.Row∧r.Open=s.Open∧gg r.L 0→True:=fun _ _=>trivial
   refine aw ?_ ?_<;>intro _
   ·refine az ((T 8 (by omega)).mono ?_)
    rintro r ⟨r1,j,I,J,_⟩
    rw [aX (by omega) (by omega)]
    exact wpS (.inl ⟨_,rfl,r1.re _ _ _ _ (by omega),by dsimp only;omega⟩)
   refine aw ?_ ?_<;>intro _
   ·refine az ((T 9 (by omega)).mono ?_)
    rintro r ⟨r1,j,I,J,_⟩
    rw [aX (by omega) (by omega)]
    exact wpS (.inl ⟨_,rfl,r1.re _ _ _ _ (by omega),by dsimp only;omega⟩)
   refine aw ?_ ?_<;>intro _
   ·refine az ((T 10 (by omega)).mono ?_)
    rintro r ⟨r1,j,I,J,_⟩
    rw [aX (by omega) (by omega)]
    exact wpS (.inl ⟨_,rfl,r1.re _ _ _ _ (by unfold imax;split<;>omega),by dsimp only;omega⟩)
   refine aw ?_ ?_<;>intro _
   ·refine az ((T 11 (by omega)).mono ?_)
    rintro r ⟨r1,j,I,J,_⟩
    rw [aX (by omega) (by omega)]
    exact wpS (.inl ⟨_,rfl,r1.re _ _ _ _ (by unfold imax;split<;>omega),by dsimp only;omega⟩)
   refine aw ?_ ?_<;>intro _
   ·refine aw ?_ ?_<;>intro _
    ·refine az ((T 7 (by omega)).mono ?_)
     rintro r ⟨r1,j,I,J,_⟩
     exact wpS (.inl ⟨_,rfl,r1,by omega⟩)
    ·exact wpS (.inr rfl)
   ·exact wpS (.inr rfl)
  ·rintro r (⟨q,rfl,U,aa⟩ | rfl)
   ·exact wpS (.inl ⟨rfl,U,aa⟩)
   ·exact wpS (.inr ⟨rfl,rfl⟩)
 ·omega
end Go.Proofs.Ytcilejikekccmaa.M
namespace Go.Proofs.Ytcilejikekccmaa.M
open Go Am Sy
theorem Bl (F:Nat) (B:List UInt8) (s:aF) (h:SI F B s) (hx:s.At<B.length) (hn:B.length≤20000) (hF:B.length+10<F)
  (U:Wp (correctorref2_Break F B s.At) (fun b=>b=0)):Wp (m1 F s) (fun r=>SI F B r∧s.At<r.At):=by
 have hb:=h.b
 have hr:=h.r
 have hc:=h.kV hx U
 have e1:af (s.At+1)=s.At+1:=aX (by omega) (by omega)
 have T:∀ k to,0<k∧k≠2∧k≠4∧k≠20∧k≠21→s.At<to→to≤B.length→Wp (cS F s k to) (fun r=>Wp (some r) (fun r=>SI F B r∧s.At<r.At)):=
  fun k to hk h1 h2=>(iI h hn k to h1 h2 (by omega) (fun _=>hc) (by omega)).mono (fun r hr=>wpS ⟨hr.1,by omega⟩)
 have RE:Wp (fB F s s.At) (fun e=>s.At<e∧e≤B.length):=by
  have:=p6 F s s.At (by rw [hb];omega) (by rw [hb];exact hn) (by rw [hb];omega)
  rw [hb] at this
  refine this.mono ?_
  rintro e ⟨J,I,j⟩
  refine ⟨?_,I⟩
  rcases j with j | ⟨b',j,aa⟩
  ·omega
  ·by_cases hh:e=s.At
   ·obtain ⟨b,ab,an⟩:=U
    rw [hh,ab] at j;injection j;omega
   ·omega
 unfold m1
 rw [hb,e1]
 refine aw ?_ ?_<;>intro hy
 ·refine az (aY hy ?_)
  intro c _
  refine aw ?_ ?_<;>intro hz
  ·refine az ((oH F _ (by simp;omega) (by omega)).mono ?_)
   intro rn _
   refine az ((td F s (s.At+1) false (by rw [hb];omega) (by rw [hb];exact hn) (by rw [hb];omega)).mono ?_)
   rintro nm ⟨ao,ad⟩
   rw [hb] at ad
   refine az ?_
   refine Wp.mono (P:=fun _=>True) ?_ ?_
   ·(repeat' (first | with_reducible refine az ?_ | (with_reducible refine aw ?_ ?_<;>intro _) | (with_reducible refine aY (by assumption) ?_;intro _ _) | with_reducible refine wpS ?_ | (with_reducible refine bZ ?_;omega) | dsimp only))
    refine (pU _ _ _ (by omega) (by rw [hb];exact hn)).mono ?_
    intro r _
    (repeat' (first | with_reducible refine az ?_ | (with_reducible refine aw ?_ ?_<;>intro _) | (with_reducible refine aY (by assumption) ?_;intro _ _) | with_reducible refine wpS ?_ | (with_reducible refine bZ ?_;omega) | dsimp only))
   intro f1 _
   refine aw ?_ ?_<;>intro _
   ·exact az (T 5 _ (by omega) (by omega) (by omega))
   refine az ((tV F s s.At (by omega) (by rw [hb];exact hn)).mono ?_)
   intro f2 _
   refine aw ?_ ?_<;>intro _
   ·exact az (T 6 _ (by omega) (by omega) (by omega))
   refine az ?_
   refine Wp.mono (P:=fun r=>True) ?_ ?_
   ·(repeat' (first | with_reducible refine az ?_ | (with_reducible refine aw ?_ ?_<;>intro _) | (with_reducible refine aY (by assumption) ?_;intro _ _) | with_reducible refine wpS ?_ | (with_reducible refine bZ ?_;omega) | dsimp only))
   intro f3 _
   refine aw ?_ ?_<;>intro _
   ·exact az (T 12 _ (by omega) (by omega) (by omega))
   refine az ?_
   refine Wp.mono (P:=fun r=>True) ?_ ?_
   ·(repeat' (first | with_reducible refine az ?_ | (with_reducible refine aw ?_ ?_<;>intro _) | (with_reducible refine aY (by assumption) ?_;intro _ _) | with_reducible refine wpS ?_ | (with_reducible refine bZ ?_;omega) | dsimp only))
   intro f4 _
   refine aw ?_ ?_<;>intro _
   ·exact az (T 13 _ (by omega) (by omega) (by omega))
   refine aw ?_ ?_<;>intro _
   ·refine az ((td F s (s.At+1) true (by rw [hb];omega) (by rw [hb];exact hn) (by rw [hb];omega)).mono ?_)
    rintro aq ⟨ar,ae⟩
    rw [hb] at ae
    exact az (T 14 _ (by omega) (by omega) (by omega))
   refine aw ?_ ?_<;>intro _
   ·refine az (RE.mono ?_)
    rintro e ⟨J,I⟩
    refine az ((xC F s (s.At+1) e (by rw [hb];omega) (by rw [hb];exact hn) (by rw [hb];omega)).mono ?_)
    rintro e' ⟨j,aa⟩
    exact az (T 16 _ (by omega) (by omega) (by omega))
   refine aw ?_ ?_<;>intro _
   ·obtain ⟨e,he,J,I⟩:=RE
    refine az (wpE he ?_)
    refine az ((yZ F s (s.At+1) e (by rw [hb];omega) (by rw [hb];exact hn) (by rw [hb];omega)).mono ?_)
    intro e' j
    refine az (wpE he ?_)
    exact az (T 17 _ (by omega) (by unfold dy;split<;>omega) (by unfold dy;split<;>omega))
   have HD:=C2 F s (by rw [hb];omega) (by rw [hb];exact hn) (by rw [hb];omega)
   obtain ⟨hd,hh,J,I⟩:=HD
   rw [hb] at I
   refine az (wpE hh ?_)
   refine aw ?_ ?_<;>intro fN
   ·have fin:∀ t:Int,Wp ((ib F (⟨B,s.At,s.Row,s.Open,s.bU,s.cj,t,s.L⟩:aF)).bind fun ag=>
      (cS F (⟨B,s.At,s.Row,s.Open,s.bU,s.cj,t,s.L⟩:aF) 18 (af (s.At+ag))).bind fun ah=>some ah) (fun r=>SI F B r∧s.At<r.At):=by
     intro t
     have hs:ib F (⟨B,s.At,s.Row,s.Open,s.bU,s.cj,t,s.L⟩:aF)=ib F s:=by
      have ai:∀ m x y,gM F (⟨B,s.At,s.Row,s.Open,s.bU,s.cj,t,s.L⟩:aF) m x y=gM F s m x y:=by
       intro m
       induction m with
       | zero=>intro x y;rfl
       | succ m ih=>
        intro x y
        rw [gM,gM]
        simp only [ih,hb]
      unfold ib
      simp only [ai,hb,iq]
     rw [hs]
     refine az (wpE hh ?_)
     rw [aX (by omega) (by omega)]
     have h':SI F B (⟨B,s.At,s.Row,s.Open,s.bU,s.cj,t,s.L⟩:aF):=by
      have:=h.re s.Open s.bU t s.cj h.o
      rw [hb] at this;exact this
     refine az ((iI h' hn 18 (s.At+hd) (by dsimp only;omega) (by omega) (by omega) (fun _=>hc) (by omega)).mono ?_)
     rintro r ⟨r1,au,_⟩
     exact wpS ⟨r1,by omega⟩
    refine az ?_
    refine aw ?_ ?_<;>intro _
    ·exact wpS (fin _)
    ·exact wpS (fin _)
   refine aw ?_ ?_<;>intro _
   ·exact az (T 22 _ (by omega) (by omega) (by omega))
   ·have:=BJ F s (by rw [hb];omega) (by rw [hb];exact hn) (by rw [hb];omega)
    rw [hb] at this
    refine az (this.mono ?_)
    rintro e ⟨aj,al⟩
    exact az (T 15 _ (by omega) aj al)
  ·omega
 ·omega
theorem BH (F:Nat) (B:List UInt8) (hn:B.length≤20000) (hF:B.length+10<F):∀ (m:Nat) (s:aF),SI F B s→B.length - s.At<m→
  Wp (correctorref6_Tokens_l0 F B m s) (fun r=>SI F B r∧r.At=B.length):=by
 intro m
 induction m with
 | zero=>intro s h1 h2;have:=h1.r;omega
 | succ m ih=>
  intro s h1 h2
  have hb:=h1.b
  have hr:=h1.r
  rw [correctorref6_Tokens_l0]
  refine aw ?_ ?_<;>intro hx
  ·refine az ?_
   refine Wp.mono (P:=fun r=>r.1=s∧(0<r.2→s.At=s.Row∧(r.2=20∨r.2=21)∧s.At+3≤B.length)) ?_ ?_
   ·refine aw ?_ ?_<;>intro sy
    ·refine az ((ui F s s.At (by rw [hb];omega) (by rw [hb];exact hn)).mono ?_)
     intro k hk
     rw [hb] at hk
     exact wpS ⟨rfl,fun hp=>⟨sy,by dsimp only at hp;dsimp only;omega,by dsimp only at hp;omega⟩⟩
    ·exact wpS ⟨rfl,fun hp=>by dsimp only at hp;omega⟩
   rintro ⟨s',k⟩ ⟨U,aa⟩
   dsimp only at U aa ⊢
   subst U
   refine aw ?_ ?_<;>intro hk
   ·obtain ⟨ab,ag,ad⟩:=aa hk
    rw [aX (by omega) (by omega)]
    refine az ((iI h1 hn k (s'.At+3) (by omega) ad (fun _=>ab) (fun _=>(h1.w ab).kV) (by omega)).mono ?_)
    rintro r ⟨r1,ae,ah,ai,_⟩
    have ho:=h1.o
    exact ih _ (r1.re _ _ _ _ (by omega)) (by dsimp only;omega)
   ·refine az ((zU F B s' h1 hx hn hF).mono ?_)
    rintro ⟨f,s1⟩ (⟨j,I,J⟩ | ⟨j,I,J⟩)
    ·dsimp only at j I J ⊢
     rw [if_pos j]
     exact ih _ I (by omega)
    ·dsimp only at j I J ⊢
     subst j I
     rw [if_neg (by decide)]
     refine az ((Cf F B s1 h1 hx hn (h1.kV hx J)).mono ?_)
     rintro ⟨f,s2⟩ (⟨j,I,af⟩ | ⟨j,I⟩)
     ·dsimp only at j I af ⊢
      rw [if_pos j]
      exact ih _ I (by omega)
     ·dsimp only at j I ⊢
      subst j I
      rw [if_neg (by decide)]
      refine az ((Bl F B s2 h1 hx hn hF J).mono ?_)
      rintro r ⟨r1,ae⟩
      exact ih _ r1 (by omega)
  ·exact wpS ⟨h1,by omega⟩
theorem wx (F:Nat) (B:List UInt8) (hn:B.length≤16384) (hF:B.length+10<F):Wp (m8 F B) (fun l=>Tk B.length l B.length):=by
 unfold m8
 refine aw ?_ ?_<;>intro hx
 ·omega
 ·refine az (wpS ?_)
  have h0:SI F B (⟨B,0,0,0,(-1),true,(-2),[]⟩:aF):=
   ⟨rfl,by dsimp only;omega,by dsimp only;omega, .nil,fun _=> .inl rfl,fun q=>absurd q (Ends.kV (.inl rfl))⟩
  refine az ((BH F B (by omega) hF F _ h0 (by dsimp only;omega)).mono ?_)
  rintro r ⟨r1,j⟩
  refine wpS ?_
  have:=r1.t
  rw [j] at this;exact this
end Go.Proofs.Ytcilejikekccmaa.M
namespace Go.Proofs.Ytcilejikekccmaa.M
open Go Am Sy
theorem Ag {α:Type} (p c s:List α) (x:α):(p++c++x::s)[((p.length:Int)+(c.length:Int)).toNat]?=some x:=by
 have:((p.length:Int)+(c.length:Int)).toNat=(p++c).length:=by simp;omega
 rw [this];simp
theorem BR {α:Type} (p c s:List α) (x:α):(0:Int)≤(p.length:Int)+(c.length:Int)∧(p.length:Int)+(c.length:Int)<((p++c++x::s).length:Int):=by simp;omega
def gU (k:Int):Bool:=k == 1 || k == 19
def eK (k o:Int):Int:=if k=8∨k=9 then o+1 else if k=10∨k=11 then (if 0>o - 1 then 0 else o - 1) else if k=20∨k=21 then 0 else o
theorem oE {k o n:Int} (h:0≤o∧o≤n):0≤eK k o∧eK k o≤n+1:=by
 unfold eK
 repeat' split
 all_goals omega
def fc (c:List ak):Option ak:=c.find? (fun t=>ji t.Kind)
def hd (c:List ak):Int:=match c with | []=>0 | t::_=>t.ah
def hk (c:List ak):Int:=match c with | []=>0 | t::_=>t.Kind
def fH (c:List ak):Int:=match fc c with | some t=>t.ah - hd c | none=> -1
def k0 (c:List ak):Int:=match fc c with | some t=>if t.Kind=20∨t.Kind=21 then 4 else 5 | none=>1
def kR (c:List ak) (o:Int):Int:=if hk c=19 then 2 else if 0<o then (if k0 c=4 then k0 c else 3) else k0 c
def goR (K:List ak→Int→Int):Int→List ak→Int→Int→List ak→List an
 | f,c,o,n,[]=>if c=[] then [] else [⟨K c o,f,f+c.length,fH c⟩]
 | f,c,o,n,t::s=>if gU t.Kind=true then ⟨K (c++[t]) o,f,f+(c++[t]).length,fH (c++[t])⟩::goR K (f+(c++[t]).length) [] (eK t.Kind n) (eK t.Kind n) s
   else goR K f (c++[t]) o (eK t.Kind n) s
def ox (l:List ak):Prop:=∀ t∈l,0≤t.ah∧t.ah≤20000
def span:List ak→Int→List ak→List ak×Int×List ak
 | c,n,[]=>(c,n,[])
 | c,n,t::s=>if gU t.Kind=true then (c++[t],eK t.Kind n,s) else span (c++[t]) (eK t.Kind n) s
theorem x0 (K:List ak→Int→Int):∀ (s c:List ak) (f o n:Int),¬(c=[]∧s=[])→
  goR K f c o n s=⟨K (span c n s).1 o,f,f+(span c n s).1.length,fH (span c n s).1⟩::goR K (f+(span c n s).1.length) [] (span c n s).2.1 (span c n s).2.1 (span c n s).2.2:=by
 intro s
 induction s with
 | nil=>intro c f o n h;rw [goR,if_neg (by simpa using h)];rfl
 | cons t s ih=>
  intro c f o n h
  rw [goR,span]
  by_cases hk:gU t.Kind=true
  ·rw [if_pos hk,if_pos hk]
  ·rw [if_neg hk,if_neg hk]
   exact ih _ _ _ _ (by simp)
theorem BO:∀ (s c:List ak) (n:Int),c++s=(span c n s).1++(span c n s).2.2∧c.length≤(span c n s).1.length∧(s≠[]→c.length<(span c n s).1.length)∧(0≤n∧n≤c.length→0≤(span c n s).2.1):=by
 intro s
 induction s with
 | nil=>intro c n;simp [span];omega
 | cons t s ih=>
  intro c n
  rw [span]
  by_cases hk:gU t.Kind=true
  ·rw [if_pos hk]
   refine ⟨by simp,by simp,fun _=>by simp,fun h=>(oE h).1⟩
  ·rw [if_neg hk]
   obtain ⟨h1,h2,I,j⟩:=ih (c++[t]) (eK t.Kind n)
   refine ⟨by rw [← h1];simp,by simp at h2;omega,fun _=>by simp at h2;omega,fun h=>j (by have:=oE (k:=t.Kind) h;simp;omega)⟩
theorem Bz:∀ (s c:List ak) (n p:Int),0≤n∧n≤p+c.length→0≤(span c n s).2.1∧(span c n s).2.1≤p+(span c n s).1.length:=by
 intro s
 induction s with
 | nil=>intro c n p h;simpa [span] using h
 | cons t s ih=>
  intro c n p h
  rw [span]
  have:=oE (k:=t.Kind) h
  by_cases hk:gU t.Kind=true
  ·rw [if_pos hk];simp;omega
  ·rw [if_neg hk]
   exact ih (c++[t]) (eK t.Kind n) p (by simp;omega)
def kS (l:List ak):Prop:=l.Pairwise (fun a b=>a.ah≤b.ah)
theorem zS {c:List ak} {u:ak} (h:fc c=some u) (hs:kS c):0≤fH c:=by
 unfold fH
 rw [h]
 dsimp only
 cases c with
 | nil=>cases h
 | cons t c=>
  have:u∈t::c:=List.mem_of_find?_eq_some h
  rcases List.mem_cons.1 this with rfl | h1
  ·simp [hd]
  ·have:=(List.pairwise_cons.1 hs).1 u h1
   simp only [hd];omega
theorem rz {c:List ak} (h:fc c=none):fH c= -1:=by unfold fH;rw [h]
theorem uT {c:List ak} (t:ak):hd (c++[t])=(match c with | []=>t.ah | u::_=>u.ah):=by cases c<;>rfl
theorem zw (F:Nat) (l:List ak) (hs:ox l) (ho:kS l) (hn:l.length≤20000) (out:List an) (begun:Bool):∀ (s p c:List ak) (m:Nat) (n:Int) (r:an),
  l=p++c++s→s.length<m→0≤n∧n≤(p.length:Int)+(c.length:Int)→r.ah=p.length→r.Kind=k0 c→r.aD=fH c→
  Wp (correctorref9_Rows_l1 F l m out n ((p.length:Int)+(c.length:Int)) r begun) (fun z=>z.1=out∧z.2.1=(span c n s).2.1∧z.2.2.1=(p.length:Int)+((span c n s).1.length:Int)∧z.2.2.2.1.ah=p.length∧z.2.2.2.1.Kind=k0 (span c n s).1∧z.2.2.2.1.aD=fH (span c n s).1∧z.2.2.2.2=begun):=by
 intro s
 induction s with
 | nil=>
  intro p c m n r h1 h2 aj j U J
  obtain ⟨m,rfl⟩:∃ k,m=k+1:=⟨m - 1,by omega⟩
  have hl:l.length=p.length+c.length:=by rw [h1];simp
  rw [correctorref9_Rows_l1,if_neg (by omega)]
  exact wpS ⟨rfl,rfl,rfl,j,U,J,rfl⟩
 | cons t s ih=>
  intro p c m n r h1 h2 aj j U J
  obtain ⟨m,rfl⟩:∃ k,m=k+1:=⟨m - 1,by omega⟩
  simp only [List.length_cons] at h2
  have hl:l.length=p.length+c.length+s.length+1:=by rw [h1];simp;omega
  have e1:=BR p c s t
  have al:=Ag p c s t
  rw [← h1] at e1 al
  have D1:t∈l:=by rw [h1];simp
  have xu:kS c:=by
   have:kS l:=ho
   rw [h1] at this
   exact (List.pairwise_append.1 (List.pairwise_append.1 this).1).2.1
  rw [correctorref9_Rows_l1]
  simp only [if_pos e1.2,if_pos e1,al,Option.bind_some]
  refine az ?_
  refine Wp.mono (P:=fun z:List an×an=>z.1=out∧z.2.ah=(p.length:Int)∧z.2.Kind=k0 (c++[t])∧z.2.aD=fH (c++[t])) ?_ ?_
  ·rcases hf:fc c with _ | u
   ·rw [if_pos (by rw [J,rz hf];omega),vx]
    simp only [Option.bind_some]
    by_cases hk:ji t.Kind=true
    ·rw [if_pos hk]
     have hg:(l[r.ah.toNat]?).map (·.ah)=some (hd (c++[t])):=by
      rw [j,h1,uT]
      cases c with
      | nil=>simp
      | cons u c=>simp
     rw [if_pos (by rw [j];omega)]
     obtain ⟨u,hu⟩:∃ u,l[r.ah.toNat]?=some u:=⟨l[r.ah.toNat]'(by rw [j];omega),by simp⟩
     rw [hu] at hg ⊢
     simp only [Option.map_some] at hg
     injection hg with hg
     have CF:u∈l:=List.mem_of_getElem? hu
     have:=hs u CF
     have:=hs t D1
     have I:fc (c++[t])=some t:=by
      unfold fc at hf ⊢
      rw [List.find?_append,hf];simp [hk]
     simp only [Option.bind_some]
     rw [aX (by omega) (by omega)]
     unfold k0 fH
     rw [I]
     dsimp only
     rw [← hg]
     by_cases ai:t.Kind=20
     ·simp only [ai,if_true];exact wpS ⟨rfl,j,by simp,rfl⟩
     ·by_cases ao:t.Kind=21
      ·simp only [ai,ao,if_true,if_false];exact wpS ⟨rfl,j,by simp,rfl⟩
      ·simp only [ai,ao,if_false];exact wpS ⟨rfl,j,by simp,rfl⟩
    ·rw [if_neg hk]
     have I:fc (c++[t])=none:=by
      unfold fc at hf ⊢
      rw [List.find?_append,hf];simp [hk]
     refine wpS ⟨rfl,j,?_,?_⟩
     ·rw [U];unfold k0;rw [hf,I]
     ·rw [J,rz hf,rz I]
   ·have:=zS hf xu
    rw [if_neg (by rw [J];omega)]
    have I:fc (c++[t])=some u:=by
     unfold fc at hf ⊢
     rw [List.find?_append,hf];rfl
    refine wpS ⟨rfl,j,?_,?_⟩
    ·rw [U];unfold k0;rw [hf,I]
    ·rw [J];unfold fH;rw [hf,I]
     dsimp only
     rw [uT]
     cases c with
     | nil=>cases hf
     | cons v c=>rfl
  ·rintro ⟨DU,r'⟩ ⟨aq,aa,ab,ad⟩
   dsimp only at aq aa ab ad ⊢
   subst aq
   refine az ?_
   refine Wp.mono (P:=fun z:List an×Int×an=>z=(DU,eK t.Kind n,r')) ?_ ?_
   ·have w1:af (n+1)=n+1:=aX (by omega) (by omega)
    have w2:af (n - 1)=n - 1:=aX (by omega) (by omega)
    rw [w1,w2]
    unfold eK
    by_cases ar:t.Kind=8
    ·simp only [ar];exact ⟨_,rfl,rfl⟩
    by_cases au:t.Kind=9
    ·simp only [au];exact ⟨_,rfl,rfl⟩
    by_cases av:t.Kind=10
    ·simp only [av];exact ⟨_,rfl,rfl⟩
    by_cases aw:t.Kind=11
    ·simp only [aw];exact ⟨_,rfl,rfl⟩
    by_cases ax:t.Kind=20
    ·simp only [ax];exact ⟨_,rfl,rfl⟩
    by_cases ay:t.Kind=21
    ·simp only [ay];exact ⟨_,rfl,rfl⟩
    simp only [ar,au,av,aw,ax,ay,if_false,Option.bind_some,or_self]
    exact ⟨_,rfl,rfl⟩
   ·rintro _ rfl
    dsimp only
    have dD:l=p++(c++[t])++s:=by rw [h1];simp
    have ew:af ((p.length:Int)+(c.length:Int)+1)=(p.length:Int)+((c++[t]).length:Int):=by rw [aX (by omega) (by omega)];simp;omega
    rw [ew]
    by_cases ae:t.Kind=1
    ·rw [if_pos ae,span,if_pos (by simp [gU,ae])]
     exact wpS ⟨rfl,rfl,rfl,aa,ab,ad,rfl⟩
    ·rw [if_neg ae]
     by_cases ag:t.Kind=19
     ·rw [if_pos ag,span,if_pos (by simp [gU,ag])]
      exact wpS ⟨rfl,rfl,rfl,aa,ab,ad,rfl⟩
     ·rw [if_neg ag,span,if_neg (by simp [gU,ae,ag])]
      exact ih p (c++[t]) m _ r' dD (by omega) (by have:=oE (k:=t.Kind) aj;simp;omega) aa ab ad
theorem wU (F:Nat) (l:List ak) (hs:ox l) (ho:kS l) (hn:l.length≤20000) (hF:l.length+10<F):∀ (m:Nat) (s p:List ak) (n:Int) (out:List an),
  l=p++s→s.length<m→0≤n∧n≤(p.length:Int)→out.length≤p.length→
  correctorref9_Rows_l0 F l m out n p.length=some (out++goR kR p.length [] n n s):=by
 intro m
 induction m with
 | zero=>intro s p n out h1 h2;omega
 | succ m ih=>
  intro s p n out h1 h2 U ar
  have hl:l.length=p.length+s.length:=by rw [h1];simp
  rw [correctorref9_Rows_l0]
  by_cases oC:s=[]
  ·subst oC
   simp only [List.length_nil,Nat.add_zero] at hl
   rw [if_neg (by omega)]
   simp [goR]
  ·have hp:0<s.length:=List.length_pos_iff.2 oC
   rw [if_pos (by omega)]
   have C7:((if (0:Int)<n then some (out,(⟨1,(p.length:Int),0,(-1)⟩:an),true) else some (out,(⟨1,(p.length:Int),0,(-1)⟩:an),false)):Option ((List an)×an×Bool))=some (out,(⟨1,(p.length:Int),0,(-1)⟩:an),decide (0<n)):=by
    by_cases h:0<n
    ·rw [if_pos h,decide_eq_true h]
    ·rw [if_neg h,decide_eq_false h]
   rw [C7]
   simp only [Option.bind_some]
   obtain ⟨⟨o',n',i',r',b'⟩,g0,aa,ab,ad,j,ae,af,ag⟩:=zw F l hs ho hn out (decide (0<n)) s p [] F n ⟨1,(p.length:Int),0,(-1)⟩ (by rw [h1];simp) (by omega) (by simpa using U) rfl rfl rfl
   dsimp only at aa ab ad j ae af ag
   simp only [List.length_nil,Int.add_zero,show ((0:Nat):Int)=0 from rfl] at g0
   rw [g0]
   simp only [Option.bind_some]
   subst aa ab ad ag
   obtain ⟨a1,al,ai,_⟩:=BO s [] n
   have ao:=Bz s [] n p.length (by simpa using U)
   have aq:0<(span [] n s).1.length:=by have:=ai oC;simpa using this
   clear ai al
   rw [x0 kR s [] _ _ _ (by simp [oC])]
   generalize span [] n s=z at *
   obtain ⟨c,n',s'⟩:=z
   dsimp only at *
   simp only [List.nil_append] at a1
   subst a1
   obtain ⟨t,c',rfl⟩:∃ t c',c=t::c':=by
    cases c with
    | nil=>simp at aq
    | cons t c'=>exact ⟨t,c',rfl⟩
   have hg:l[r'.ah.toNat]?=some t:=by rw [j,h1];simp
   rw [if_pos (by rw [j];omega),hg]
   simp only [Option.bind_some]
   have kf:((if t.Kind=(19:Int) then
        some (o',(⟨2,r'.ah,(p.length:Int)+((t::c').length:Int),r'.aD⟩:an))
       else
        if (decide (0<n))=true then
         if r'.Kind=(4:Int) then
          some (o',(⟨r'.Kind,r'.ah,(p.length:Int)+((t::c').length:Int),r'.aD⟩:an))
         else
          some (o',(⟨3,r'.ah,(p.length:Int)+((t::c').length:Int),r'.aD⟩:an))
        else
         some (o',(⟨r'.Kind,r'.ah,(p.length:Int)+((t::c').length:Int),r'.aD⟩:an))):Option ((List an)×an))
     =some (o',⟨kR (t::c') n,(p.length:Int),(p.length:Int)+((t::c').length:Int),fH (t::c')⟩):=by
    rw [j,ae,af]
    unfold kR hk
    dsimp only
    by_cases I:t.Kind=19
    ·simp [I]
    ·by_cases J:0<n
     ·by_cases aj:k0 (t::c')=4
      ·simp [I,J,aj]
      ·simp [I,J,aj]
     ·simp [I,J]
   rw [kf]
   simp only [Option.bind_some]
   rw [if_pos (by simp;omega)]
   have:=ih s' (p++t::c') n' (o'++[⟨kR (t::c') n,(p.length:Int),(p.length:Int)+((t::c').length:Int),fH (t::c')⟩]) (by rw [h1];simp) (by simp at h2;omega) (by simp at ao ⊢;omega) (by simp;omega)
   have ep:((p++t::c').length:Int)=(p.length:Int)+((t::c').length:Int):=by simp
   rw [ep] at this
   rw [this];simp
theorem B0 (F:Nat) (l:List ak) (hs:ox l) (ho:kS l) (hn:l.length≤20000) (hF:l.length+10<F):lO F l=some (goR kR 0 [] 0 0 l):=by
 unfold lO
 have:=wU F l hs ho hn hF F l [] 0 [] rfl (by omega) (by simp) (by simp)
 simp only [List.length_nil,show ((0:Nat):Int)=0 from rfl] at this
 rw [this];simp
theorem Tk.Ai {n:Int} {l:List ak} {a:Int} (h:Tk n l a):(∀ t∈l,0≤t.ah∧t.ah<a)∧l.Pairwise (fun a b=>a.ah<b.ah)∧0≤a:=by
 induction h with
 | nil=>simp
 | @snoc l mY k to h1 h2 j I J U ih=>
  obtain ⟨i1,i2,i3⟩:=ih
  refine ⟨?_,?_,by omega⟩
  ·intro t ht
   rcases List.mem_append.1 ht with ht | ht
   ·have:=i1 t ht;omega
   ·simp at ht;subst ht;dsimp only;omega
  ·rw [List.pairwise_append]
   refine ⟨i2,by simp,?_⟩
   intro x hx y hy
   simp at hy;subst hy
   exact (i1 x hx).2
theorem Bb (K:List ak→Int→Int) {l:List ak}:∀ (s p c:List ak) (o n:Int),l=p++c++s→∀ r∈goR K p.length c o n s,0≤r.ah∧r.ah<r.To∧r.To≤l.length:=by
 intro s
 induction s with
 | nil=>
  intro p c o n h r hr
  rw [goR] at hr
  by_cases hc:c=[]
  ·rw [if_pos hc] at hr;cases hr
  ·have:=List.length_pos_iff.2 hc
   rw [if_neg hc] at hr
   simp at hr
   subst hr
   rw [h]
   dsimp only
   simp
   omega
 | cons t s ih=>
  intro p c o n h r hr
  rw [goR] at hr
  by_cases hk:gU t.Kind=true
  ·rw [if_pos hk] at hr
   rcases List.mem_cons.1 hr with rfl | hr
   ·rw [h];simp;omega
   ·have e:(p.length:Int)+((c++[t]).length:Int)=((p++(c++[t])).length:Int):=by simp
    rw [e] at hr
    exact ih (p++(c++[t])) [] _ _ (by rw [h];simp) r hr
  ·rw [if_neg hk] at hr
   exact ih p (c++[t]) _ _ (by rw [h];simp) r hr
theorem x9 (K:List ak→Int→Int):∀ (s c:List ak) (f o n:Int),(goR K f c o n s).length≤c.length+s.length:=by
 intro s
 induction s with
 | nil=>
  intro c f o n
  rw [goR]
  by_cases h:c=[]
  ·simp [h]
  ·have:=List.length_pos_iff.2 h
   rw [if_neg h];simp;omega
 | cons t s ih=>
  intro c f o n
  rw [goR]
  by_cases h:gU t.Kind=true
  ·rw [if_pos h]
   have:=ih [] (f+((c++[t]).length:Int)) (eK t.Kind n) (eK t.Kind n)
   simp at this ⊢;omega
  ·rw [if_neg h]
   have:=ih (c++[t]) f o (eK t.Kind n)
   simp at this ⊢;omega
theorem Tk.kinds {n:Int} {l:List ak} {a:Int} (h:Tk n l a):∀ t∈l,0<t.Kind:=by
 induction h with
 | nil=>simp
 | @snoc l mY k to h1 h2 I J U j ih=>
  intro t ht
  rcases List.mem_append.1 ht with ht | ht
  ·exact ih t ht
  ·simp at ht;subst ht;exact j
theorem Ed (k:Int):ji k=cn k:=by
 unfold ji cn
 by_cases h1:k=1
 ·simp [h1]
 by_cases h2:k=2
 ·simp [h2]
 by_cases j:k=3
 ·simp [j]
 by_cases I:k=4
 ·simp [I]
 simp [h1,h2,j,I]
theorem C1 (K:List ak→Int→Int):∀ (s c:List ak) (f o n:Int),¬ (c=[]∧s=[])→∃ r∈goR K f c o n s,r.To=f+c.length+s.length:=by
 intro s
 induction s with
 | nil=>
  intro c f o n h
  rw [goR,if_neg (by simpa using h)]
  exact ⟨_,List.mem_singleton.2 rfl,by simp⟩
 | cons t s ih=>
  intro c f o n h
  rw [goR]
  by_cases hk:gU t.Kind=true
  ·rw [if_pos hk]
   by_cases hs:s=[]
   ·subst hs
    exact ⟨_,List.mem_cons_self,by simp;omega⟩
   ·obtain ⟨r,r1,j⟩:=ih [] (f+(c++[t]).length) (eK t.Kind n) (eK t.Kind n) (by simpa using hs)
    exact ⟨r,List.mem_cons_of_mem _ r1,by rw [j];simp;omega⟩
  ·rw [if_neg hk]
   obtain ⟨r,r1,j⟩:=ih (c++[t]) f o (eK t.Kind n) (by simp)
   exact ⟨r,r1,by rw [j];simp;omega⟩
theorem yL {c:List ak} {o:Int} (h:kR c o=4∨kR c o=5):∃ t∈c,cn t.Kind=true:=by
 have hk:k0 c=4∨k0 c=5:=by
  unfold kR at h
  split at h
  ·omega
  ·split at h
   ·split at h<;>omega
   ·exact h
 unfold k0 at hk
 cases hf:fc c with
 | none=>rw [hf] at hk;simp at hk
 | some t=>
  refine ⟨t,List.mem_of_find?_eq_some hf,?_⟩
  have:=List.find?_some hf
  rw [← Ed];simpa using this
theorem u4 {l p c s:List ak} {o:Int} (h:l=p++c++s) (hk:kR c o=4∨kR c o=5):∃ (i:Int) (t:ak),(p.length:Int)≤i∧i<(p.length:Int)+c.length∧l[i.toNat]?=some t∧cn t.Kind=true:=by
 obtain ⟨t,h1,h2⟩:=yL hk
 obtain ⟨j,hj⟩:=List.getElem?_of_mem h1
 have n5:j<c.length:=by
  rcases Nat.lt_or_ge j c.length with q | q
  ·exact q
  ·rw [List.getElem?_eq_none q] at hj;cases hj
 refine ⟨(p.length:Int)+j,t,by omega,by omega,?_,h2⟩
 have:((p.length:Int)+j).toNat=p.length+j:=by omega
 rw [this,h,List.append_assoc,List.getElem?_append_right (by omega),Nat.add_sub_cancel_left,List.getElem?_append_left n5]
 exact hj
theorem wW {l:List ak}:∀ (s p c:List ak) (o n:Int),l=p++c++s→∀ r∈goR kR p.length c o n s,(r.Kind=4∨r.Kind=5)→∃ (i:Int) (t:ak),r.ah≤i∧i<r.To∧l[i.toNat]?=some t∧cn t.Kind=true:=by
 intro s
 induction s with
 | nil=>
  intro p c o n h r hr hk
  rw [goR] at hr
  split at hr
  ·simp at hr
  ·simp at hr;subst hr
   exact u4 h hk
 | cons t s ih=>
  intro p c o n h r hr hk
  rw [goR] at hr
  have h':l=p++(c++[t])++s:=by rw [h];simp
  split at hr
  ·rcases List.mem_cons.1 hr with rfl | hr
   ·exact u4 h' hk
   ·have e:((p++(c++[t])).length:Int)=(p.length:Int)+(c++[t]).length:=by simp
    rw [← e] at hr
    exact ih (p++(c++[t])) [] _ _ (by rw [h'];simp) r hr hk
  ·exact ih p (c++[t]) _ _ h' r hr hk
theorem A5 (K:List ak→Int→Int):∀ (s c:List ak) (f o n:Int),Tl f (goR K f c o n s):=by
 intro s
 induction s with
 | nil=>intro c f o n;rw [goR];split;trivial;exact ⟨rfl,trivial⟩
 | cons t s ih=>
  intro c f o n
  rw [goR]
  split
  ·exact ⟨rfl,ih _ _ _ _⟩
  ·exact ih _ _ _ _
def Tg:Int→List ak→Int→Prop
 | f,[],e=>f=e
 | f,t::s,e=>t.ah=f∧f<t.To∧Tg t.To s e
theorem Tg.snoc {k:Int}:∀ {s:List ak} {f e to:Int},Tg f s e→e<to→Tg f (s++[⟨k,e,to⟩]) to:=by
 intro s
 induction s with
 | nil=>intro f e to h h2;have:f=e:=h;subst this;exact ⟨rfl,h2,rfl⟩
 | cons t s ih=>rintro f e to ⟨h1,h2,j⟩ I;exact ⟨h1,h2,ih j I⟩
theorem Tk.tg {n:Int} {l:List ak} {a:Int} (h:Tk n l a):Tg 0 l a:=by
 induction h with
 | nil=>rfl
 | snoc k to h1 h2 j I J U ih=>exact ih.snoc h2
theorem Tg.le:∀ {s:List ak} {f e:Int},Tg f s e→f+s.length≤e:=by
 intro s
 induction s with
 | nil=>intro f e h;have:f=e:=h;simp;omega
 | cons t s ih=>rintro f e ⟨h1,h2,j⟩;have:=ih j;rw [List.length_cons];omega
theorem Tg.drop:∀ {s:List ak} {f e:Int} (i:Nat),Tg f s e→i≤s.length→∃ f',f+i≤f'∧Tg f' (s.drop i) e:=by
 intro s
 induction s with
 | nil=>intro f e i h hi;exact ⟨f,by simp at hi;omega,by simpa using h⟩
 | cons t s ih=>
  rintro f e i ⟨h1,h2,j⟩ hi
  cases i with
  | zero=>exact ⟨f,by omega,h1,h2,j⟩
  | succ i=>
   obtain ⟨f',J,I⟩:=ih i j (by simpa using hi)
   exact ⟨f',by omega,I⟩
theorem yu (F:Nat) (hF:2500≤F) {n a:Int} {l:List ak} (h:Tk n l a) (hn:n≤450) (ha:a≤n):∃ rs,lO F l=some rs∧RO l rs:=by
 have h1:=h.Ai
 have h2:=h.bounds
 have hs:ox l:=fun t ht=>by have:=h1.1 t ht;omega
 have ho:kS l:=h1.2.1.imp (fun q=>Int.le_of_lt q)
 have hlen:l.length≤450:=by omega
 refine ⟨_,B0 F l hs ho (by omega) (by omega),?_⟩
 have hr:=Bb kR (l:=l) l [] [] 0 0 rfl
 have hc:=wW (l:=l) l [] [] 0 0 rfl
 have hL:=x9 kR l [] 0 0 0
 simp only [List.length_nil,Nat.zero_add] at hL
 refine ⟨hr,fun x I hx=>?_,hc,by omega,A5 _ _ _ _ _ _⟩
 obtain ⟨r,r1,j⟩:=C1 kR l [] 0 0 0 (fun z=>by rw [z.2] at hx;simp at hx;omega)
 obtain ⟨i,hi⟩:=List.getElem?_of_mem r1
 exact ⟨i,r,hi,by rw [j];simp;omega⟩
end Go.Proofs.Ytcilejikekccmaa.M
namespace Go.Proofs.Ytcilejikekccmaa.M
open Go Am Sy
theorem sB {α:Type} (l:List α) (i:Int) (h:0≤i∧i≤l.length):(((l.take (l.length:Int).toNat).drop i.toNat).length:Int)=l.length - i:=by
 rw [Int.toNat_natCast,List.take_length,List.length_drop];omega
theorem wQ (F:Nat) (b:List UInt8) (hn:b.length≤20000) (hF:b.length+10<F):Wp (mM F b) (fun l=>l.length≤b.length):=by
 have key:∀ (m:Nat) (l:List Int) (x:Int),0≤x→x≤b.length→b.length - x<m→(l.length:Int)≤x→Wp (correctorref1_Bad_l0 F b m l x) (fun l=>l.length≤b.length):=by
  intro m
  induction m with
  | zero=>intro l x h1 h2 j;omega
  | succ m ih=>
   intro l x h1 h2 j U
   rw [correctorref1_Bad_l0]
   refine aw (fun c=>?_) (fun c=>wpS (by omega))
   have hl:=sB b x ⟨h1,h2⟩
   refine aM (by omega) (a8 (oH F _ (by omega) (by omega)) ?_)
   rintro ⟨r,k⟩ ⟨I,J⟩
   simp only at I J ⊢
   have hw:af (x+k)=x+k:=aX (by omega) (by omega)
   rw [hw]
   refine a8 (Q:=fun l'=>(l'.length:Int)≤l.length+1) (aw (fun _=>aM (by rw [List.length_singleton];omega) (wpS (by rw [List.length_append,List.length_singleton];omega))) (fun _=>wpS (by omega))) ?_
   intro l' iZ
   exact ih l' (x+k) (by omega) (by omega) (by omega) (by omega)
 unfold mM
 exact a8 (key F [] 0 (by omega) (by omega) (by omega) (by simp)) fun l hl=>wpS hl
theorem y4 (F:Nat) (s:ar) (hn:s.b.length≤20000) (hF:s.b.length+10<F):Wp (nK F s) (fun _=>True):=by
 have key:∀ (m:Nat) (o:ar) (x:Int),0≤x→x≤s.b.length+2→s.b.length+3 - x<m→(o.b.length:Int)≤x→Wp (correctorref7_single_l0 F s m o x) (fun _=>True):=by
  intro m
  induction m with
  | zero=>intro o x h1 h2 j;omega
  | succ m ih=>
   intro o x h1 h2 j U
   have hw:af (x+1)=x+1:=aX (by omega) (by omega)
   have I:af (x+1+1)=x+2:=by rw [aX (by omega) (by omega)];omega
   rw [correctorref7_single_l0,hw,I]
   refine aw (fun c=>?_) (fun c=>wpS trivial)
   refine aM h1 (az (aY (by omega) fun t ht=>?_))
   refine aw (fun c1=>?_) (fun c1=>?_)
   ·refine aw (fun c2=>wpS trivial) (fun c2=>?_)
    refine aM (by omega) (az (aY (by omega) fun t ht=>?_))
    refine aw (fun J=>?_) (fun J=>wpS trivial)
    refine aM (by rw [List.length_singleton];omega) (ih _ _ (by omega) (by omega) (by omega) (by show ((o.b++[39]).length:Int)≤_;rw [List.length_append,List.length_singleton];omega))
   ·have hl:((s.b.take (x+1).toNat).drop x.toNat).length=1:=by rw [List.length_drop,List.length_take];omega
    refine aM (by omega) (aM (by rw [hl];omega) (ih _ _ (by omega) (by omega) (by omega) (by show ((o.b++_).length:Int)≤_;rw [List.length_append,hl];omega)))
 unfold nK
 refine a8 (key F ⟨[]⟩ 1 (by omega) (by omega) (by omega) (by simp)) ?_
 rintro (x | y) _<;>exact wpS trivial
theorem C5 (F:Nat) (k:Int) (h:0≤k∧k<256):Wp (nI F k) (fun r=>r.1.b.length≤1):=by
 unfold nI
 repeat' (first | (refine aw (fun _=>wpS (by simp)) (fun _=>?_)))
 refine a8 (Q:=fun _=>True) ?_ ?_
 ·repeat' (first | (refine aw (fun _=>wpS trivial) (fun _=>?_)) | exact wpS trivial)
 ·intro b _
  exact aw (fun _=>aM h (wpS (by simp))) (fun _=>wpS (by simp))
theorem xd (F:Nat) (k:Int):Wp (nE F k) (fun _=>True):=by
 unfold nE
 refine a8 (Q:=fun _=>True) ?_ ?_
 ·repeat' (first | (refine aw (fun _=>?_) (fun _=>?_)) | exact wpS trivial)
 ·intro b _
  refine a8 (Q:=fun _=>True) ?_ ?_
  ·refine aw (fun _=>wpS trivial) (fun _=>?_)
   refine a8 (Q:=fun _=>True) ?_ ?_
   ·repeat' (first | (refine aw (fun _=>?_) (fun _=>?_)) | exact wpS trivial)
   ·intro b _
    repeat' (first | (refine aw (fun _=>?_) (fun _=>?_)) | exact wpS trivial)
  ·rintro (x | y) _<;>exact wpS trivial
theorem hU (e:Int):0≤IntKind.wrap .u8 e∧IntKind.wrap .u8 e<256:=by
 have h1:IntKind.wrap .u8 e=e % 256:=by
  simp [IntKind.wrap,IntKind.bits,IntKind.signed]
 rw [h1];omega
theorem Cz (F:Nat) (k:Int):Wp (nS F k) (fun l=>l.length≤4):=by
 unfold nS
 refine aw (fun _=>aM (hU _) (wpS (by simp))) (fun _=>?_)
 refine aw (fun _=>aM ⟨hU _,hU _⟩ (wpS (by simp))) (fun _=>?_)
 refine aw (fun _=>aM ⟨hU _,hU _,hU _⟩ (wpS (by simp))) (fun _=>?_)
 exact aM ⟨hU _,hU _,hU _,hU _⟩ (wpS (by simp))
theorem Dw (F:Nat) (s:ar) (hn:s.b.length≤20000) (hF:20<F):Wp (correctorref5_Escape F s) (fun r=>0≤r.2∧r.2≤10∧r.1.b.length≤4):=by
 have dJ:∀ {α:Type} (x:α),(0:Int)≤0∧(0:Int)≤10∧([]:List UInt8).length≤4:=fun _=>by simp
 unfold correctorref5_Escape
 refine aw (fun _=>wpS (by simp)) (fun c0=>?_)
 refine aM (by omega) (az (aY (by omega) fun t ht=>?_))
 refine aw (fun _=>?_) (fun _=>wpS (by simp))
 refine aM (by omega) (az (aY (by omega) fun t ht=>?_))
 have ab:=t.toNat_lt
 refine a8 (C5 F _ (by omega)) ?_
 rintro ⟨o,b⟩ ho
 simp only at ho ⊢
 refine aw (fun _=>wpS ⟨by simp,by simp,by show o.b.length≤4;omega⟩) (fun _=>?_)
 refine a8 (Q:=fun x=>x=0∨x=2∨x=4∨x=8) ?_ ?_
 ·refine aM (by omega) (az (aY (by omega) fun t ht=>?_))
  repeat' (first | (refine aw (fun _=>?_) (fun _=>?_)) | exact wpS (by simp))
 intro x hx
 refine aw (fun _=>wpS (by simp)) (fun cx=>?_)
 have hw:af (2+x)=2+x:=aX (by omega) (by omega)
 rw [hw]
 refine aw (fun _=>wpS (by simp)) (fun c1=>?_)
 have key:∀ (m:Nat) (v i:Int),0≤i→i≤x→x - i<m→Wp (correctorref5_Escape_l0 F s m x v i) (fun r=>match r with | .inl z=>z.1=x | .inr z=>z.2=0∧z.1.b.length≤4):=by
  intro m
  induction m with
  | zero=>intro v i h1 h2 I;omega
  | succ m ih=>
   intro v i h1 h2 I
   have J:af (2+i)=2+i:=aX (by omega) (by omega)
   have U:af (i+1)=i+1:=aX (by omega) (by omega)
   rw [correctorref5_Escape_l0,J,U]
   refine aw (fun c=>?_) (fun c=>wpS rfl)
   refine aM (by omega) (az (aY (by omega) fun t ht=>?_))
   refine a8 (xd F _) fun h _=>?_
   exact aw (fun _=>wpS ⟨rfl,by simp⟩) (fun _=>ih _ _ (by omega) (by omega) (by omega))
 refine a8 (key F 0 0 (by omega) (by omega) (by omega)) ?_
 rintro (⟨j,aa⟩ | ⟨j,aa⟩) hz
 ·simp only at hz ⊢
  subst hz
  refine a8 (Q:=fun r=>match r with | .inl _=>True | .inr z=>z.2=0∧z.1.b.length≤4) ?_ ?_
  ·repeat' (first | (refine aw (fun _=>?_) (fun _=>?_)) | exact wpS trivial | exact wpS ⟨rfl,by simp⟩)
  ·rintro (u | ⟨ad,ae⟩) hy
   ·refine a8 (Cz F _) fun l hl=>?_
    rw [hw]
    exact wpS ⟨by show 0≤2+j;omega,by show 2+j≤10;omega,hl⟩
   ·simp only at hy;obtain ⟨rfl,hy⟩:=hy;exact wpS ⟨by simp,by simp,hy⟩
 ·simp only at hz;obtain ⟨rfl,hz⟩:=hz;exact wpS ⟨by simp,by simp,hz⟩
theorem qdouble_wp (F:Nat) (s:ar) (hn:s.b.length≤20000) (hF:s.b.length+30<F):Wp (mQ F s) (fun r=>(r.2.1.length:Int)≤s.b.length):=by
 have key:∀ (m:Nat) (o:ar) (l:List Int) (x:Int),1≤x→x≤s.b.length+20→s.b.length+21 - x<m→(o.b.length:Int)≤4 * x→(l.length:Int)≤x - 1→((l.length:Int)≤s.b.length)→Wp (correctorref7_double_l0 F s m o l x) (fun r=>match r with | .inl z=>(z.2.length:Int)≤s.b.length | .inr z=>(z.2.1.length:Int)≤s.b.length):=by
  intro m
  induction m with
  | zero=>intro o l x h1 h2 U;omega
  | succ m ih=>
   intro o l x h1 h2 U ah ai j
   have hw:af (x+1)=x+1:=aX (by omega) (by omega)
   rw [correctorref7_double_l0,hw]
   refine aw (fun c=>?_) (fun c=>wpS j)
   have hl:((s.b.take (x+1).toNat).drop x.toNat).length=1:=by rw [List.length_drop,List.length_take];omega
   refine aM (by omega) (az (aY (by omega) fun t ht=>?_))
   refine aw (fun _=>wpS j) (fun _=>?_)
   refine aM (by omega) (az (aY (by omega) fun t ht=>?_))
   refine aw (fun _=>?_) (fun _=>?_)
   ·have hle:=sB s.b x (by omega)
    refine aM (by omega) (a8 (Dw F _ (by show ((s.b.take _).drop _).length≤20000;omega) (by omega)) ?_)
    rintro ⟨e,k⟩ ⟨aa,I,J⟩
    simp only at aa I J ⊢
    refine a8 (Q:=fun z=>(z.1.length:Int)≤l.length+1∧z.2.1.b.length≤4∧1≤z.2.2∧z.2.2≤10) ?_ ?_
    ·refine aw (fun _=>?_) (fun _=>wpS ⟨by simp only;omega,J,by simp only;omega,I⟩)
     refine aM (by rw [List.length_singleton];omega) (aM (by omega) (wpS ⟨by show ((l++[x]).length:Int)≤_;simp,by show ((s.b.take _).drop _).length≤4;omega,by simp,by simp⟩))
    ·rintro ⟨l',e',k'⟩ ⟨r1,ab,ad,ae⟩
     simp only at r1 ab ad ae ⊢
     have ag:af (x+k')=x+k':=aX (by omega) (by omega)
     rw [ag]
     exact aM (by omega) (ih _ _ _ (by omega) (by omega) (by omega) (by show ((o.b++e'.b).length:Int)≤_;rw [List.length_append];omega) (by omega) (by omega))
   ·refine aM (by omega) (aM (by rw [hl];omega) (ih _ _ _ (by omega) (by omega) (by omega) (by show ((o.b++_).length:Int)≤_;rw [List.length_append,hl];omega) (by omega) j))
 unfold mQ
 refine a8 (key F ⟨[]⟩ [] 1 (by omega) (by omega) (by omega) (by simp) (by simp) (by simp)) ?_
 rintro (⟨x,y⟩ | y) h<;>exact wpS h
theorem A0 (F:Nat) (k:Int) (s:ar) (hn:s.b.length≤20000) (hF:s.b.length+30<F):Wp (nZ F k s) (fun r=>(r.2.1.length:Int)≤s.b.length):=by
 unfold nZ
 refine aw (fun _=>wpS (by simp)) (fun _=>?_)
 refine aw (fun _=>wpS (by simp)) (fun _=>?_)
 refine aw (fun _=>a8 (y4 F s hn (by omega)) fun r _=>wpS (by simp)) (fun _=>?_)
 refine aw (fun _=>a8 (qdouble_wp F s hn hF) fun r hr=>wpS hr) (fun _=>?_)
 exact wpS (by simp)
end Go.Proofs.Ytcilejikekccmaa.M
namespace Go.Proofs.Ytcilejikekccmaa.M
open Go Am Sy
theorem Ey (F:Nat) (B:List UInt8) (L:List ak) (rs:List an) (bad:List Int) (hb:bad.length≤1000):∀ (m:Nat) (D:List aj) (i:Nat),bad.length - i<m→i≤bad.length→D.length+(bad.length - i)≤100000→Wp (correctorref12_told_l0 F B L rs m D bad (i:Int)) (fun D'=>D'.length≤D.length+(bad.length - i)):=by
 intro m
 induction m with
 | zero=>intro D i h1;omega
 | succ m ih=>
  intro D i h1 h2 j
  rw [correctorref12_told_l0]
  refine aw (fun c=>?_) (fun c=>wpS (by omega))
  have hw:af ((i:Int)+1)=((i+1:Nat):Int):=by rw [aX (by omega) (by omega)];omega
  refine aM (by omega) (az (aY (by omega) fun t ht=>?_))
  refine aM (by omega) (az (aY (by omega) fun t ht=>?_))
  refine aM (by rw [List.length_singleton];omega) ?_
  rw [hw]
  refine (ih _ (i+1) (by omega) (by omega) (by rw [List.length_append,List.length_singleton];omega)).mono fun D' jn=>?_
  rw [List.length_append,List.length_singleton] at jn;omega
def TB (B:List UInt8) (L:List ak):Prop:=∀ t∈L,0≤t.ah∧t.ah<t.To∧t.To≤B.length
theorem Tg.tb {n:Int}:∀ {s:List ak} {f e:Int},Tg f s e→0≤f→e≤n→∀ t∈s,0≤t.ah∧t.ah<t.To∧t.To≤n:=by
 intro s
 induction s with
 | nil=>intro f e _ _ _ t ht;cases ht
 | cons x s ih=>
  rintro f e ⟨h1,h2,j⟩ h0 he t ht
  have:=j.le
  rcases List.mem_cons.1 ht with rfl | ht
  ·omega
  ·exact ih j (by omega) he t ht
theorem wH (F:Nat) (B:List UInt8) (L:List ak) (rs:List an) (hB:B.length≤20000) (hT:TB B L) (D:List aj) (i:Int) (k:Nat) (t:ak) (hk:L[k]?=some t):∀ (m:Nat) (pq:Bool) (j:Int),0≤j→t.To - j<m→j≤20001→0<m→Wp (correctorref12_told_l3 F B L rs m D i (k:Int) pq j) (fun r=>r.1=D∧r.2.1=i∧r.2.2.1=k):=by
 obtain ⟨t1,t2,t3⟩:=hT t (List.mem_of_getElem? hk)
 have lR:=eZ hk
 intro m
 induction m with
 | zero=>intro pq j h1 h2 I J;omega
 | succ m ih=>
  intro pq j h1 h2 I J
  have hw:af (j+1)=j+1:=aX (by omega) (by omega)
  rw [correctorref12_told_l3,hw]
  refine aM (by omega) ?_
  rw [Int.toNat_natCast,hk]
  refine a7 rfl (aw (fun c=>?_) (fun c=>wpS ⟨rfl,rfl,rfl⟩))
  refine a8 (Q:=fun r=>r.1=D) (aw (fun _=>wpS rfl) (fun _=>aM (by omega) (az (aY (by omega) fun b hb=>aw (fun _=>wpS rfl) (fun _=>wpS rfl))))) ?_
  rintro ⟨D',Ad⟩ rfl
  exact ih Ad (j+1) (by omega) (by omega) (by omega) (by omega)
theorem z2 (F:Nat) (hF:2500≤F) (B:List UInt8) (L:List ak) (rs:List an) (hB:B.length≤1000) (hL:L.length≤450) (hT:TB B L) (i:Nat) (r:an) (hi:rs[i]?=some r) (hr:0≤r.ah∧r.ah<r.To∧r.To≤L.length):∀ (m:Nat) (D:List aj) (k:Nat),(k:Int)≤r.To→r.To - k<m→D.length+(r.To.toNat - k)≤100000→Wp (correctorref12_told_l2 F B L rs m D (i:Int) (k:Int)) (fun z=>z.1.length≤D.length+(r.To.toNat - k)∧z.2=(i:Int)):=by
 have dq:=eZ hi
 intro m
 induction m with
 | zero=>intro D k h1 h2;omega
 | succ m ih=>
  intro D k h1 h2 ag
  rw [correctorref12_told_l2]
  have hb:0≤(i:Int)∧(i:Int)<(rs.length:Int):=by omega
  simp only [if_pos hb,Int.toNat_natCast,hi]
  refine a7 rfl (aw (fun c=>?_) (fun c=>wpS ⟨by simp,rfl⟩))
  have lR:k<L.length:=by omega
  have hg:=List.getElem?_eq_getElem lR
  have j:0≤(k:Int)∧(k:Int)<(L.length:Int):=by omega
  have hw:af ((k:Int)+1)=((k+1:Nat):Int):=by rw [aX (by omega) (by omega)];omega
  refine a7 rfl (aw (fun ab=>?_) (fun ab=>wpS ⟨by simp,rfl⟩))
  simp only [if_pos j,hg,kM]
  refine a7 rfl (a7 rfl (aw (fun _=>wpS ⟨by simp,rfl⟩) (fun _=>?_)))
  obtain ⟨t1,t2,t3⟩:=hT _ (List.mem_of_getElem? hg)
  refine a7 rfl (a8 (wH F B L rs (by omega) hT D i k _ hg F false L[k].ah t1 (by omega) (by omega) (by omega)) ?_)
  rintro ⟨ad,i1,ai,pq⟩ ⟨I,J,U⟩
  simp only at I J U ⊢
  subst I J U
  simp only [if_pos j,Int.toNat_natCast,hg]
  refine a8 (Q:=fun z=>z.1=ad) (aw (fun _=>a7 rfl (aw (fun _=>wpS rfl) (fun _=>wpS rfl))) (fun _=>wpS rfl)) ?_
  rintro ⟨ae,al⟩ aa
  simp only at aa ⊢
  subst aa
  refine a8 (Q:=fun D'=>D'.length≤ae.length+1) (aw (fun _=>a7 rfl (a7 rfl (aM (by rw [List.length_singleton];omega) (wpS (by rw [List.length_append,List.length_singleton];omega))))) (fun _=>wpS (by omega))) ?_
  intro D' jn
  rw [hw]
  refine (ih D' (k+1) (by omega) (by omega) (by omega)).mono fun z hz=>⟨by omega,hz.2⟩
theorem wV (F:Nat) (hF:2500≤F) (B:List UInt8) (L:List ak) (rs:List an) (hB:B.length≤1000) (hL:L.length≤450) (hT:TB B L) (hR:RO L rs):∀ (m:Nat) (D:List aj) (i:Nat) (f:Int),rs.length - i<m→i≤rs.length→0≤f→f≤L.length→Tl f (rs.drop i)→D.length+(L.length - f.toNat)≤100000→Wp (correctorref12_told_l1 F B L rs m D (i:Int)) (fun D'=>D'.length≤D.length+(L.length - f.toNat)):=by
 have hlen:=hR.len
 intro m
 induction m with
 | zero=>intro D i f h1;omega
 | succ m ih=>
  intro D i f h1 h2 ad ae j ag
  rw [correctorref12_told_l1]
  refine aw (fun c=>?_) (fun c=>wpS (by omega))
  have hi:i<rs.length:=by omega
  have hg:=List.getElem?_eq_getElem hi
  have hb:0≤(i:Int)∧(i:Int)<(rs.length:Int):=by omega
  have hw:af ((i:Int)+1)=((i+1:Nat):Int):=by rw [aX (by omega) (by omega)];omega
  obtain ⟨r0,r1,J⟩:=hR.l5 _ (List.mem_of_getElem? hg)
  rw [List.drop_eq_getElem_cons hi] at j
  obtain ⟨ai,U⟩:=j
  simp only [if_pos hb,Int.toNat_natCast,hg]
  have e:rs[i].ah=((rs[i].ah.toNat:Nat):Int):=by omega
  have hh:=z2 F hF B L rs hB hL hT i _ hg ⟨r0,r1,J⟩ F D rs[i].ah.toNat (by omega) (by omega) (by omega)
  rw [← e] at hh
  refine a7 rfl (a8 hh ?_)
  rintro ⟨aa,i1⟩ ⟨ab,I⟩
  simp only at ab I ⊢
  subst I
  rw [hw]
  refine (ih aa (i+1) rs[i].To (by omega) (by omega) (by omega) (by omega) U (by omega)).mono fun D' jn=>by omega
theorem CR (F:Nat) (B:List UInt8) (L:List ak) (rs:List an) (i:Nat) (hi:i<L.length) (l:List Int) (hl:l.length≤1000):∀ (m:Nat) (D:List aj) (j:Nat),l.length - j<m→j≤l.length→D.length+(l.length - j)≤100000→Wp (correctorref12_told_l5 F B L rs m D (i:Int) l (j:Int)) (fun z=>z.1.length≤D.length+(l.length - j)∧z.2=(i:Int)):=by
 intro m
 induction m with
 | zero=>intro D j h1;omega
 | succ m ih=>
  intro D j h1 h2 I
  rw [correctorref12_told_l5]
  have hw:af ((j:Int)+1)=((j+1:Nat):Int):=by rw [aX (by omega) (by omega)];omega
  refine aw (fun c=>?_) (fun c=>wpS ⟨by simp,rfl⟩)
  refine aM (by omega) (az (aY (by omega) fun t ht=>?_))
  refine aM (by omega) (az (aY (by omega) fun t ht=>?_))
  refine aM (by omega) (az (aY (by omega) fun t ht=>?_))
  refine aM (by omega) (az (aY (by omega) fun t ht=>?_))
  refine aM (by rw [List.length_singleton];omega) ?_
  rw [hw]
  refine (ih _ (j+1) (by omega) (by omega) (by rw [List.length_append,List.length_singleton];omega)).mono fun z hz=>?_
  rw [List.length_append,List.length_singleton] at hz
  exact ⟨by omega,hz.2⟩
theorem we (F:Nat) (hF:2500≤F) (B:List UInt8) (L:List ak) (rs:List an) (hB:B.length≤1000) (hL:L.length≤450) (hT:TB B L):∀ (m:Nat) (D:List aj) (i:Nat) (f e:Int),L.length - i<m→i≤L.length→0≤f→e≤B.length→Tg f (L.drop i) e→D.length+((e - f).toNat+(L.length - i))≤100000→Wp (correctorref12_told_l4 F B L rs m D (i:Int)) (fun D'=>D'.length≤D.length+((e - f).toNat+(L.length - i))):=by
 intro m
 induction m with
 | zero=>intro D i f e h1;omega
 | succ m ih=>
  intro D i f e h1 h2 al ad j ao
  rw [correctorref12_told_l4]
  refine aw (fun c=>?_) (fun c=>wpS (by omega))
  have hi:i<L.length:=by omega
  have hg:=List.getElem?_eq_getElem hi
  have hb:0≤(i:Int)∧(i:Int)<(L.length:Int):=by omega
  have hw:af ((i:Int)+1)=((i+1:Nat):Int):=by rw [aX (by omega) (by omega)];omega
  obtain ⟨t1,t2,t3⟩:=hT _ (List.mem_of_getElem? hg)
  rw [List.drop_eq_getElem_cons hi] at j
  obtain ⟨aq,ar,U⟩:=j
  have au:=U.le
  simp only [if_pos hb,Int.toNat_natCast,hg]
  refine a8 (Q:=fun z=>z.1.length≤D.length+((L[i].To - f).toNat+1)∧z.2=(i:Int)) ?_ ?_
  ·refine a8 (Q:=fun z=>match z with | .inl J=>J=D | .inr z=>z=(D,(i:Int))) ?_ ?_
   ·exact a7 rfl (aw (fun _=>wpS rfl) (fun _=>a7 rfl (aw (fun _=>wpS rfl) (fun _=>wpS rfl))))
   rintro (J | z) hz
   ·simp only at hz ⊢
    subst hz
    refine a7 rfl (a7 rfl (a7 rfl (aM (by omega) ?_)))
    have gW:((B.take L[i].To.toNat).drop L[i].ah.toNat).length≤(L[i].To - f).toNat:=by rw [List.length_drop,List.length_take];omega
    refine a8 (A0 F L[i].Kind _ (by show (List.drop _ _).length≤20000;omega) (by show (List.drop _ _).length+30<F;omega)) ?_
    rintro ⟨s,l,en⟩ hl
    have iZ:(l.length:Int)≤(L[i].To - f).toNat:=Int.le_trans hl (by show ((List.drop _ _).length:Int)≤_;omega)
    simp only
    refine a8 (Q:=fun z=>z.1.length≤J.length+1∧z.2=l) (aw (fun _=>wpS ⟨by simp,rfl⟩) (fun _=>a7 rfl (a7 rfl (aM (by rw [List.length_singleton];omega) (wpS ⟨by simp,rfl⟩))))) ?_
    rintro ⟨ae,ag⟩ ⟨ai,aa⟩
    simp only at ai aa ⊢
    subst aa
    have j:=CR F B L rs i hi ag (by omega) F ae 0 (by omega) (by omega) (by omega)
    refine a8 j ?_
    rintro ⟨ab,i3⟩ ⟨r1,I⟩
    exact wpS ⟨by simp only at r1 ⊢;omega,I⟩
   ·simp only at hz ⊢
    subst hz
    exact wpS ⟨by simp only;omega,rfl⟩
  ·rintro ⟨ab,i3⟩ ⟨r1,I⟩
   simp only at r1 I ⊢
   subst I
   rw [hw]
   refine (ih ab (i+1) L[i].To e (by omega) (by omega) (by omega) ad U (by omega)).mono fun D' jn=>by omega
theorem C9 (F:Nat) (hF:2500≤F) (B:List UInt8) (L:List ak) (rs:List an) (hB:B.length≤450) {e:Int} (hT:Tg 0 L e) (he:e≤B.length) (hR:RO L rs):Wp (mn F B L rs) (fun D=>D.length≤1800):=by
 have uW:TB B L:=hT.tb (Int.le_refl _) he
 have hle:=hT.le
 unfold mn
 refine a8 (wQ F B (by omega) (by omega)) fun bad EW=>?_
 refine a8 (Ey F B L rs bad (by omega) F [] 0 (by omega) (by omega) (by simp;omega)) fun j h1=>?_
 simp only [List.length_nil] at h1
 refine a8 (wV F hF B L rs (by omega) (by omega) uW hR F j 0 0 (by have:=hR.len;omega) (by omega) (Int.le_refl _) (by omega) hR.tl (by omega)) fun I h2=>?_
 refine a8 (we F hF B L rs (by omega) (by omega) uW F I 0 0 e (by omega) (by omega) (Int.le_refl _) he hT (by omega)) fun J U=>wpS (by omega)
theorem yE (F:Nat) (a b:aj):Wp (nY F a b) (fun _=>True):=by
 unfold nY
 repeat' (first | (refine aw (fun _=>?_) (fun _=>?_)) | exact wpS trivial)
theorem Ew {α:Type} (xs:List α) (a b k:Nat) (h:a+k≤xs.length) (h2:b+k≤xs.length):(iO xs a b k).length=xs.length:=by
 unfold iO
 simp only [List.length_append,List.length_take,List.length_drop];omega
theorem Ef (F:Nat) (a:List aj) (i:Nat) (hi:i<a.length) (out:List aj) (ho:out.length≤100000):∀ (m:Nat) (n:Nat),n<m→n≤out.length→Wp (lj F a m out (i:Int) (n:Int)) (fun z=>z.1=out∧z.2.1=(i:Int)∧0≤z.2.2∧z.2.2≤out.length):=by
 intro m
 induction m with
 | zero=>intro n h1;omega
 | succ m ih=>
  intro n h1 h2
  rw [lj]
  refine aw (fun c=>?_) (fun c=>wpS ⟨rfl,rfl,by simp,by simp only;omega⟩)
  have hw:af ((n:Int) - 1)=((n - 1:Nat):Int):=by rw [aX (by omega) (by omega)];omega
  rw [hw]
  refine aM (by omega) (az (aY (by omega) fun t ht=>?_))
  refine aM (by omega) (az (aY (by omega) fun u hu=>?_))
  refine a8 (yE F t u) fun b _=>?_
  exact aw (fun _=>ih (n - 1) (by omega) (by omega)) (fun _=>wpS ⟨rfl,rfl,by simp,by simp only;omega⟩)
theorem Bs (F:Nat) (a:List aj) (ha:a.length≤90000) (hF:a.length+10<F):Wp (nQ F a) (fun _=>True):=by
 have key:∀ (m:Nat) (out:List aj) (i:Nat),a.length - i<m→i≤a.length→out.length≤i→Wp (correctorref14_Sort_l0 F a m out (i:Int)) (fun _=>True):=by
  intro m
  induction m with
  | zero=>intro out i h1;omega
  | succ m ih=>
   intro out i h1 h2 ag
   rw [correctorref14_Sort_l0]
   refine aw (fun c=>?_) (fun c=>wpS trivial)
   have hi:i<a.length:=by omega
   have hw:af ((i:Int)+1)=((i+1:Nat):Int):=by rw [aX (by omega) (by omega)];omega
   refine a8 (Q:=fun z=>z.1.length≤i+1∧z.2=(i:Int)) ?_ ?_
   ·refine a8 (Ef F a i hi out (by omega) F out.length (by omega) (Nat.le_refl _)) ?_
    rintro ⟨I,i2,k⟩ ⟨J,U,ab,ad⟩
    simp only at J U ab ad ⊢
    subst J U
    have rK:af (k+1)=k+1:=aX (by omega) (by omega)
    rw [rK]
    refine a8 (Q:=fun z=>match z with | .inl o=>o=I | .inr z=>z=(I,(i:Int))) ?_ ?_
    ·refine aw (fun c0=>?_) (fun _=>wpS rfl)
     rw [aX (by omega) (by omega)]
     refine aM (by omega) (az (aY (by omega) fun t ht=>?_))
     refine aM (by omega) (az (aY (by omega) fun u hu=>?_))
     exact aw (fun _=>wpS rfl) (fun _=>wpS rfl)
    rintro (j | z) hz
    ·simp only at hz ⊢
     subst hz
     have hlen:(j++[(⟨0,0,0⟩:aj)]).length=j.length+1:=by simp
     have c3:=Ew (j++[(⟨0,0,0⟩:aj)]) (k+1).toNat k.toNat (Nat.min (((j++[(⟨0,0,0⟩:aj)]).length:Int).toNat - k.toNat) (((j++[(⟨0,0,0⟩:aj)]).length:Int).toNat - (k+1).toNat)) (by rw [hlen];simp only [Nat.min_def];split<;>omega) (by rw [hlen];simp only [Nat.min_def];split<;>omega)
     refine aM (by rw [List.length_singleton];omega) (aM (by rw [hlen];omega) (aM (by rw [hlen];omega) ?_))
     refine aM (by omega) (az (aY (by omega) fun t ht=>?_))
     refine aM (by rw [c3,hlen];omega) (az (aY (by rw [c3,hlen];omega) fun u hu=>wpS ⟨?_,rfl⟩))
     show (List.set _ _ _).length≤_
     rw [List.length_set,c3,hlen];omega
    ·simp only at hz ⊢
     subst hz
     exact wpS ⟨by simp only;omega,rfl⟩
   ·rintro ⟨ae,i4⟩ ⟨r1,aa⟩
    simp only at r1 aa ⊢
    subst aa
    rw [hw]
    exact ih ae (i+1) (by omega) (by omega) r1
 unfold nQ
 exact a8 (key F [] 0 (by omega) (by omega) (by simp)) fun _ _=>wpS trivial
theorem Ci (F:Nat) (hF:5000≤F) (B:List UInt8) (hB:B.length≤450) (depth:Int) (hd:1≤depth∧depth≤50):Wp (k9 F B depth) (fun z=>Tg 0 z.1 B.length∧G z.2.1.al z.1.length∧(z.2.1.al.length:Int)≤2000):=by
 unfold k9
 refine eI (by omega) (eI (by omega) ?_)
 refine a8 (wx F B (by omega) (by omega)) fun L hL=>?_
 have hT:=hL.tg
 have hle:=hT.le
 obtain ⟨rs,r1,j⟩:=yu F (by omega) hL (by omega) (Int.le_refl _)
 refine a7 r1 (a7 (BA F (L.length:Int) (by omega) (by omega)) ?_)
 have hp:PI (L.length:Int) (⟨⟨L,⟨[⟨1,0,(L.length:Int), -1,[],false⟩]⟩,[],(L.length:Int)⟩,rs, -1,false,[],depth,0⟩:Pp) 0:=
  ⟨⟨⟨by show (0:Int)≤L.length;omega,Int.le_refl _,by show L.length≤450;omega,hL.kinds⟩,rfl,G.new _ (by omega),fun i x hx h0=>by
   cases i with
   | zero=>omega
   | succ i=>simp at hx⟩,j,by show 0≤depth∧depth≤100;omega, .inl ⟨rfl,rfl⟩,by simp,by simp⟩
 have hlen:=j.len
 have yO:=yJ F (by omega) B depth (n:=(L.length:Int)) (L:=L) (rs:=rs) F (⟨⟨L,⟨[⟨1,0,(L.length:Int), -1,[],false⟩]⟩,[],(L.length:Int)⟩,rs, -1,false,[],depth,0⟩:Pp) 0 (by omega) (by omega) rfl rfl hp (Int.le_refl _) (by show (0:Int)≤L.length;omega)
 refine a8 yO ?_
 rintro ⟨ab,ad,I,doc,root,S,dep,read⟩ ⟨J,U,ae,aa,af,ag⟩
 simp only at J U ae aa af ag ⊢
 subst J U
 refine a8 (C9 F (by omega) B ab ad hB hT (Int.le_refl _) j) fun D hD=>?_
 refine aM (by omega) (a8 (Bs F (I.D++D) (by rw [List.length_append];omega) (by rw [List.length_append];omega)) fun ah _=>wpS ⟨hT,aa,by show (I.T.al.length:Int)≤2000;omega⟩)
end Go.Proofs.Ytcilejikekccmaa.M
namespace Go.Proofs.Ytcilejikekccmaa.M
open Go Am Sy
def wi (a n:Int):Int:=if a.tmod n<0 then a.tmod n+n else a.tmod n
theorem sE (a n:Int) (hn:0<n):0≤wi a n∧wi a n<n:=by
 unfold wi
 have h1:=Int.tmod_lt_of_pos a hn
 have h2:=Int.lt_tmod_of_pos a hn
 split<;>omega
theorem yh (F:Nat) (a n:Int) (hn:0<n) (hm:n≤1000000000):nL F a n=some (wi a n):=by
 unfold nL
 have h1:=Int.tmod_lt_of_pos a hn
 have h2:=Int.lt_tmod_of_pos a hn
 rw [if_pos (by omega)]
 by_cases h:a.tmod n<0
 ·rw [if_pos h]
  simp only [Option.bind_some]
  unfold wi
  rw [if_pos h,aX (by omega) (by omega)]
 ·rw [if_neg h]
  simp only [Option.bind_some]
  unfold wi
  rw [if_neg h]
theorem xM:pe 6000=some true:=by decide+kernel
theorem xI (F:Nat) (L:List ak) (at_:Int) (hL:L.length≤1000) (hF:2500≤F):Wp (mO F L at_) (fun k=>(k= -1∧∀ (i:Nat) t,L[i]?=some t→¬ (t.ah≤at_∧at_<t.To))∨∃ (j:Nat) (t:ak),k=(j:Int)∧L[j]?=some t∧t.ah≤at_∧at_<t.To):=by
 have key:∀ (m i:Nat),L.length - i<m→i≤L.length→(∀ (j:Nat) t,j<i→L[j]?=some t→¬ (t.ah≤at_∧at_<t.To))→Wp (slices_IndexFunc_api_Token_l0 F L at_ m (i:Int)) (fun s=>match s with
   | .inl _=>∀ (i:Nat) t,L[i]?=some t→¬ (t.ah≤at_∧at_<t.To)
   | .inr k=>∃ (j:Nat) (t:ak),k=(j:Int)∧L[j]?=some t∧t.ah≤at_∧at_<t.To):=by
  intro m
  induction m with
  | zero=>intro i h1;omega
  | succ m ih=>
   intro i h1 h2 I
   rw [slices_IndexFunc_api_Token_l0]
   refine aw (fun c=>?_) (fun c=>wpS fun j t hj=>I j t (by have:=eZ hj;omega) hj)
   have hi:i<L.length:=by omega
   have hg:=List.getElem?_eq_getElem hi
   have hw:af ((i:Int)+1)=((i+1:Nat):Int):=by rw [aX (by omega) (by omega)];omega
   refine aM (by omega) ?_
   rw [Int.toNat_natCast,hg]
   refine a7 rfl ?_
   refine a8 (Q:=fun b=>b=true↔(L[i].ah≤at_∧at_<L[i].To)) ?_ ?_
   ·unfold o2
    refine aw (fun a=>aw (fun b=>wpS (by simp [a,b])) (fun b=>wpS (by simp;omega))) (fun a=>wpS (by simp;omega))
   intro b hb
   refine aw (fun c1=>wpS ⟨i,_,rfl,hg,hb.1 c1⟩) (fun c1=>?_)
   rw [hw]
   refine ih (i+1) (by omega) (by omega) (fun j t hj ht=>?_)
   rcases Nat.lt_or_ge j i with z | z
   ·exact I j t z ht
   ·have:j=i:=by omega
    subst this
    rw [hg] at ht
    simp only [Option.some.injEq] at ht
    subst ht
    exact fun q=>c1 (hb.2 q)
 unfold mO oM
 refine az (a8 (key F 0 (by omega) (by omega) (fun j t hj=>by omega)) ?_)
 rintro (u | k) h
 ·exact wpS (wpS (.inl ⟨rfl,h⟩))
 ·exact wpS (wpS (.inr h))
theorem Tg.DH:∀ {s:List ak} {f e:Int},Tg f s e→∀ x,f≤x→x<e→∃ (j:Nat) (t:ak),s[j]?=some t∧t.ah≤x∧x<t.To:=by
 intro s
 induction s with
 | nil=>intro f e h x h1 h2;have:f=e:=h;omega
 | cons t s ih=>
  rintro f e ⟨h1,h2,I⟩ x ab J
  by_cases c:x<t.To
  ·exact ⟨0,t,rfl,by omega,c⟩
  ·obtain ⟨j,u,U,aa⟩:=ih I x (by omega) J
   exact ⟨j+1,u,by simpa using U,aa⟩
theorem Tg.ord:∀ {s:List ak} {f e:Int},Tg f s e→(∀ (j:Nat) t,s[j]?=some t→f≤t.ah∧t.ah<t.To∧t.To≤e)∧∀ (i j:Nat) t u,i<j→s[i]?=some t→s[j]?=some u→t.To≤u.ah:=by
 intro s
 induction s with
 | nil=>intro f e h;exact ⟨fun j t ht=>by simp at ht,fun i j t u _ ht=>by simp at ht⟩
 | cons x s ih=>
  rintro f e ⟨h1,h2,I⟩
  obtain ⟨i1,i2⟩:=ih I
  have hle:=I.le
  refine ⟨fun j t ht=>?_,fun i j t u lJ ht hu=>?_⟩
  ·cases j with
   | zero=>simp at ht;subst ht;omega
   | succ j=>have:=i1 j t (by simpa using ht);omega
  ·cases j with
   | zero=>omega
   | succ j=>
    simp only [List.getElem?_cons_succ] at hu
    cases i with
    | zero=>simp at ht;subst ht;exact (i1 j u hu).1
    | succ i=>exact i2 i j t u (by omega) (by simpa using ht) hu
theorem tO (F:Nat) (L:List ak) (x:aq) (hL:L.length≤1000) (h0:0≤x.ah) (h1:x.ah≤x.To) (h2:x.To≤L.length):Wp (ly F L x) (fun s=>(x.ah<x.To→∃ t u,L[x.ah.toNat]?=some t∧L[(x.To - 1).toNat]?=some u∧s=⟨t.ah,u.To⟩)∧(x.ah=x.To→s.ah=s.To)):=by
 unfold ly oI
 have hw:af (x.To - 1)=x.To - 1:=aX (by omega) (by omega)
 rw [hw]
 by_cases c:x.ah<x.To
 ·refine a8 (Q:=fun s=>∃ t u,L[x.ah.toNat]?=some t∧L[(x.To - 1).toNat]?=some u∧s= .inr ⟨t.ah,u.To⟩) ?_ ?_
  ·refine a8 (Q:=fun b=>b=true) (aM c (aM h0 (aM h2 (wpS rfl)))) ?_
   rintro b rfl
   exact aM rfl (aM (by omega) (az (aY (by omega) fun t ht=>aM (by omega) (az (aY (by omega) fun u hu=>wpS ⟨t,u,ht,hu,rfl⟩)))))
  ·rintro s ⟨t,u,j,I,rfl⟩
   exact wpS ⟨fun _=>⟨t,u,j,I,rfl⟩,fun q=>by omega⟩
 ·refine a8 (Q:=fun s=>∃ y,s= .inl y) ?_ ?_
  ·refine a8 (Q:=fun b=>b=false) (eI c (wpS rfl)) ?_
   rintro b rfl
   refine eI (by simp) ?_
   refine a8 (Q:=fun b=>b=true→x.ah<L.length) (aw (fun _=>aw (fun q=>wpS fun _=>q) (fun _=>wpS fun q=>by cases q)) (fun _=>wpS fun q=>by cases q)) ?_
   intro b hb
   refine aw (fun q=>aM (by have:=hb q;omega) (az (aY (by have:=hb q;omega) fun t ht=>wpS ⟨_,rfl⟩))) (fun _=>?_)
   refine aw (fun q=>?_) (fun _=>wpS ⟨_,rfl⟩)
   rw [aX (by omega) (by omega)]
   exact aM (by omega) (az (aY (by omega) fun t ht=>wpS ⟨_,rfl⟩))
  ·rintro s ⟨y,rfl⟩
   exact wpS ⟨fun q=>absurd q c,fun _=>rfl⟩
theorem wF:∀ (n:Nat) (l:List Nat),l.Nodup→(∀ x∈l,x<n)→l.length≤n:=by
 intro n
 induction n with
 | zero=>
  intro l _ h
  cases l with
  | nil=>simp
  | cons x l=>exact absurd (h x List.mem_cons_self) (by omega)
 | succ n ih=>
  intro l hn h
  by_cases c:n∈l
  ·have h1:=ih (l.erase n) (hn.erase n) (fun x hx=>by
    have h2:=h x (List.mem_of_mem_erase hx)
    have:x≠n:=fun e=>by subst e;exact (hn.not_mem_erase) hx
    omega)
   rw [List.length_erase_of_mem c] at h1
   omega
  ·have:=ih l hn (fun x hx=>by
    have h2:=h x hx
    have:x≠n:=fun e=>by subst e;exact c hx
    omega)
   omega
theorem Bt:∀ (n:Nat) (l:List Nat),l.Nodup→(∀ x∈l,x<n)→n≤l.length→∀ k,k<n→k∈l:=by
 intro n l hn h hl k hk
 rcases Classical.em (k∈l) with c | c
 ·exact c
 ·have h1:=wF n (k::l) (List.nodup_cons.2 ⟨c,hn⟩) (fun x hx=>by
   rcases List.mem_cons.1 hx with rfl | hx
   ·exact hk
   ·exact h x hx)
  rw [List.length_cons] at h1
  omega
theorem z1 {N:List aq} {n:Int} (h:G N n):∀ (i:Nat),(((N.drop i).flatMap (·.Kids)).map Int.toNat).Nodup∧(∀ k∈((N.drop i).flatMap (·.Kids)).map Int.toNat,k<N.length∧0<k∧∃ (j:Nat) (x:aq),i≤j∧N[j]?=some x∧(k:Int)∈x.Kids):=by
 have fin:∀ i,N.length≤i→(((N.drop i).flatMap (·.Kids)).map Int.toNat).Nodup∧(∀ k∈((N.drop i).flatMap (·.Kids)).map Int.toNat,k<N.length∧0<k∧∃ (j:Nat) (x:aq),i≤j∧N[j]?=some x∧(k:Int)∈x.Kids):=by
  intro i hi
  rw [List.drop_eq_nil_of_le hi]
  exact ⟨List.nodup_nil,fun k hk=>by simp at hk⟩
 have gen:∀ (d i:Nat),i+d=N.length→(((N.drop i).flatMap (·.Kids)).map Int.toNat).Nodup∧(∀ k∈((N.drop i).flatMap (·.Kids)).map Int.toNat,k<N.length∧0<k∧∃ (j:Nat) (x:aq),i≤j∧N[j]?=some x∧(k:Int)∈x.Kids):=by
  intro d
  induction d with
  | zero=>intro i hi;exact fin i (by omega)
  | succ d ih=>
   intro i hi
   have dq:i<N.length:=by omega
   have hg:=List.getElem?_eq_getElem dq
   obtain ⟨af,ad⟩:=ih (i+1) (by omega)
   rw [List.drop_eq_getElem_cons dq,List.flatMap_cons,List.map_append]
   have hm:∀ k∈N[i].Kids,(i:Int)<k∧k<N.length∧∃ y,N[k.toNat]?=some y∧y.Up=i:=fun k hk=>by
    obtain ⟨y,I,J,U,ae,_⟩:=(h.cQ i _ hg).1.mem k hk
    exact ⟨I,J,y,U,ae⟩
   refine ⟨List.nodup_append.2 ⟨?_,af,?_⟩,?_⟩
   ·have gI:=h.nd _ (List.mem_of_getElem? hg)
    refine List.Pairwise.map _ (fun a b gB=>gB) ?_
    refine List.Pairwise.imp_of_mem (fun {a b} ha hb gB e=>gB ?_) gI
    obtain ⟨I,_⟩:=hm a ha
    obtain ⟨J,_⟩:=hm b hb
    omega
   ·intro a ha b hb e
    subst e
    obtain ⟨k,hk,rfl⟩:=List.mem_map.1 ha
    obtain ⟨I,J,y,U,ae⟩:=hm k hk
    obtain ⟨_,_,j,x,w1,w2,aa⟩:=ad _ hb
    obtain ⟨ah,_,_,ab,v4,_⟩:=(h.cQ j x w2).1.mem _ aa
    rw [Int.toNat_natCast,U] at ab
    simp only [Option.some.injEq] at ab
    subst ab
    omega
   ·intro k hk
    rcases List.mem_append.1 hk with hk | hk
    ·obtain ⟨c,hc,rfl⟩:=List.mem_map.1 hk
     obtain ⟨I,J,_⟩:=hm c hc
     exact ⟨by omega,by omega,i,_,Nat.le_refl _,hg,by rw [Int.toNat_of_nonneg (by omega)];exact hc⟩
    ·obtain ⟨w0,ag,j,x,w1,w2,aa⟩:=ad k hk
     exact ⟨w0,ag,j,x,by omega,w2,aa⟩
 intro i
 rcases Nat.lt_or_ge i N.length with q | q
 ·exact gen (N.length - i) i (by omega)
 ·exact fin i q
theorem G.gY {N:List aq} {n:Int} (h:G N n) {k:Nat} (h0:0<k) (hk:k<N.length) {z:aq} (hz:N[k]?=some z):∃ (j:Nat) (x:aq),z.Up=j∧N[j]?=some x∧(k:Int)∈x.Kids∧j<k:=by
 obtain ⟨U,I⟩:=z1 h 0
 rw [List.drop_zero] at U I
 have hlen:(((N.flatMap (·.Kids)).map Int.toNat)).length=ea N:=by
  rw [List.length_map,List.length_flatMap];rfl
 have hs:=h.sum
 have ab:0∉(N.flatMap (·.Kids)).map Int.toNat:=fun hm=>by have:=(I 0 hm).2.1;omega
 have hm:=Bt N.length (0::(N.flatMap (·.Kids)).map Int.toNat) (List.nodup_cons.2 ⟨ab,U⟩) (fun x hx=>by
  rcases List.mem_cons.1 hx with rfl | hx
  ·exact h.pos
  ·exact (I x hx).1) (by rw [List.length_cons,hlen];omega) k hk
 rcases List.mem_cons.1 hm with rfl | hm
 ·omega
 ·obtain ⟨_,_,j,x,_,w2,aa⟩:=I k hm
  obtain ⟨y,v1,_,J,v4,_⟩:=(h.cQ j x w2).1.mem _ aa
  rw [Int.toNat_natCast,hz] at J
  simp only [Option.some.injEq] at J
  subst J
  exact ⟨j,x,v4,w2,aa,by omega⟩
theorem LP.gY {l:List aq} {i To:Int}:∀ {ks:List Int} {e:Int},LP l i To e ks→(∀ k∈ks,∀ y,l[k.toNat]?=some y→y.ah≤y.To)→∀ k∈ks,∃ y,l[k.toNat]?=some y∧e≤y.ah∧y.To≤To:=by
 intro ks
 induction ks with
 | nil=>intro e _ _ k hk;cases hk
 | cons j ks ih=>
  rintro e ⟨y,h1,h2,ae,I,af,J,U,aa⟩ hr k hk
  have hy:=hr j List.mem_cons_self y I
  rcases List.mem_cons.1 hk with rfl | hk
  ·exact ⟨y,I,J,U⟩
  ·obtain ⟨z,ab,ag,ad⟩:=ih aa (fun k hk=>hr k (List.mem_cons_of_mem _ hk)) k hk
   exact ⟨z,ab,by omega,ad⟩
theorem G.tf {N:List aq} {n:Int} (h:G N n) {i:Nat} {x:aq} (hx:N[i]?=some x) {k:Int} (hk:k∈x.Kids):∃ y,N[k.toNat]?=some y∧x.ah≤y.ah∧y.ah≤y.To∧y.To≤x.To:=by
 obtain ⟨y,j,I,J⟩:=(h.cQ i x hx).1.gY (fun k _ y hy=>(h.cQ _ y hy).2) k hk
 exact ⟨y,j,I,(h.cQ _ y j).2,J⟩
theorem G.l5 {N:List aq} {n:Int} (h:G N n):∀ (m k:Nat),k<m→∀ x,N[k]?=some x→0≤x.ah∧x.ah≤x.To∧x.To≤n:=by
 intro m
 induction m with
 | zero=>intro k hk;omega
 | succ m ih=>
  intro k hk x hx
  rcases Nat.eq_zero_or_pos k with z | z
  ·subst z
   obtain ⟨r,r1,_,U,aa,_⟩:=h.root
   rw [hx] at r1;simp only [Option.some.injEq] at r1;subst r1
   have:=(h.cQ 0 x hx).2
   omega
  ·obtain ⟨j,y,ab,I,J,ad⟩:=h.gY z (gP hx) hx
   obtain ⟨w,w1,w2,ae,af⟩:=h.tf I J
   rw [Int.toNat_natCast,hx] at w1;simp only [Option.some.injEq] at w1;subst w1
   have:=ih j (by omega) y I
   omega
end Go.Proofs.Ytcilejikekccmaa.M
namespace Go.Proofs.Ytcilejikekccmaa.M
open Go Am Sy
theorem DT (F:Nat) (a:Int):Wp (m4 F a) (fun s=>s.b.length≤20):=by
 unfold m4
 have hw:∀ n:Int,0<n→n≤1000→n9 F a n=some (wi a n):=by
  intro n hn hm
  unfold n9
  have h1:=Int.tmod_lt_of_pos a hn
  have h2:=Int.lt_tmod_of_pos a hn
  rw [if_pos (by omega)]
  by_cases h:a.tmod n<0
  ·rw [if_pos h]
   simp only [Option.bind_some]
   unfold wi
   rw [if_pos h,aX (by omega) (by omega)]
  ·rw [if_neg h]
   simp only [Option.bind_some]
   unfold wi
   rw [if_neg h]
 rw [hw _ (by decide) (by decide)]
 refine az (wpS ?_)
 refine aw ?_ ?_<;>intro h
 ·refine az (aY h ?_)
  intro x hx
  refine wpS ?_
  have hm:=List.mem_of_getElem? hx
  revert x
  intro x _ hm
  have all:∀ x∈([(⟨[97]⟩:ar),(⟨[98,58,32]⟩:ar),(⟨[45,32]⟩:ar),(⟨[10]⟩:ar),(⟨[10]⟩:ar),(⟨[10,32,32]⟩:ar),(⟨[10,32,32,32,32]⟩:ar),(⟨[107,101,121,58,32]⟩:ar),(⟨[91]⟩:ar),(⟨[93]⟩:ar),(⟨[123]⟩:ar),(⟨[125]⟩:ar),(⟨[44,32]⟩:ar),(⟨[58,32]⟩:ar),(⟨[39,105,116,39,39,115,39]⟩:ar),(⟨[34,120,92,110,34]⟩:ar),(⟨[35,32,110,111,116,101,10]⟩:ar),(⟨[38,110,32]⟩:ar),(⟨[42,110]⟩:ar),(⟨[33,33,105,110,116,32]⟩:ar),(⟨[124,10]⟩:ar),(⟨[62,45,10]⟩:ar),(⟨[45,45,45]⟩:ar),(⟨[46,46,46]⟩:ar),(⟨[9]⟩:ar),(⟨[13,10]⟩:ar),(⟨[32]⟩:ar),(⟨[49]⟩:ar),(⟨[126]⟩:ar),(⟨[39,111,112,101,110]⟩:ar),(⟨[34,92,113,34]⟩:ar),(⟨[45]⟩:ar),(⟨[58]⟩:ar),(⟨[116,101,120,116,32,111,102,32,119,111,114,100,115]⟩:ar),(⟨[10,45,32]⟩:ar),(⟨[10,107,58,32]⟩:ar),(⟨[32,32]⟩:ar),(⟨[35,32,111,102,102]⟩:ar),(⟨[44]⟩:ar),(⟨[124,43]⟩:ar),(⟨[10,10]⟩:ar)]:List ar),x.b.length≤20:=by decide+kernel
  exact all x hm
 ·exact absurd (sE a _ (by decide)) h
theorem x3 (F:Nat) (ns:List Int) (raw:List UInt8):∀ (m:Nat) (out:List UInt8) (i:Int),0≤i→i≤60→60 - i<m→(out.length:Int)≤60 * i→
  Wp (correctorlaw6_Text_l0 F ns raw m out i) (fun _=>True):=by
 intro m
 induction m with
 | zero=>intro out i h1 h2 j;omega
 | succ m ih=>
  intro out i h1 h2 j I
  rw [correctorlaw6_Text_l0]
  refine aw ?_ ?_<;>intro hx
  ·refine aw ?_ ?_<;>intro hy
   ·refine az ?_
    have hi:0≤dy (raw.length:Int) 30∧dy (raw.length:Int) 30≤30∧dy (raw.length:Int) 30≤raw.length:=by unfold dy;split<;>omega
    generalize dy (raw.length:Int) 30=k at hi
    have hl:((raw.take k.toNat).drop (0:Int).toNat).length=k.toNat:=by simp;omega
    refine Wp.mono (P:=fun z:List UInt8=>(z.length:Int)≤60 * i+30) ?_ ?_
    ·refine aw ?_ ?_<;>intro hz
     ·rw [if_pos ⟨by omega,by omega,by omega⟩,if_pos (by rw [hl];omega)]
      refine wpS ?_
      rw [List.length_append,hl];omega
     ·exact wpS (by omega)
    ·intro z hz
     rw [if_pos ⟨h1,hx⟩]
     refine az (aY ⟨h1,hx⟩ ?_)
     intro x _
     refine az ((DT F x).mono ?_)
     intro s hs
     rw [if_pos (by omega),aX (by omega) (by omega)]
     exact ih _ _ (by omega) (by omega) (by omega) (by rw [List.length_append];omega)
   ·exact wpS trivial
  ·exact wpS trivial
theorem xh (F:Nat) (hF:100≤F) (ns:List Int) (raw:List UInt8):Wp (mq F ns raw) (fun b=>b.length≤400):=by
 unfold mq
 refine az ((x3 F ns raw F [] 0 (by omega) (by omega) (by omega) (by simp)).mono ?_)
 intro z _
 have hi:0≤dy (z.length:Int) 400∧dy (z.length:Int) 400≤400∧dy (z.length:Int) 400≤z.length:=by unfold dy;split<;>omega
 rw [if_pos ⟨by omega,by omega,by omega⟩]
 refine wpS ?_
 generalize dy (z.length:Int) 400=k at hi
 simp;omega
theorem u7 (F:Nat) (N:List aq) (i:Int):lB F ⟨N⟩ i=some (decide (0≤i∧i<N.length)):=by
 unfold lB
 by_cases h1:0≤i
 ·rw [if_pos h1]
  by_cases h2:i<N.length
  ·rw [if_pos h2];simp [h1,h2]
  ·rw [if_neg h2];simp [h2]
 ·rw [if_neg h1];simp [h1]
theorem vY (F:Nat) (N:List aq) (k:Int) (ks:List Int) (hk:ks.length≤100000) (hF:ks.length+10<F) (hv:∀ c∈ks,0≤c∧c<N.length):Wp (m7 F ks ⟨N⟩ k) (fun r=>(r= -1∧∀ c∈ks,∀ y,N[c.toNat]?=some y→¬ (y.ah≤k∧k<y.To))∨∃ (j:Nat) (c:Int) (y:aq),r=(j:Int)∧ks[j]?=some c∧N[c.toNat]?=some y∧y.ah≤k∧k<y.To∧∀ (i:Nat) c' y',i<j→ks[i]?=some c'→N[c'.toNat]?=some y'→¬ (y'.ah≤k∧k<y'.To)):=by
 have key:∀ (m i:Nat),ks.length - i<m→i≤ks.length→(∀ (j:Nat) c y,j<i→ks[j]?=some c→N[c.toNat]?=some y→¬ (y.ah≤k∧k<y.To))→Wp (lL F ks ⟨N⟩ k m (i:Int)) (fun s=>match s with
   | .inl _=>∀ c∈ks,∀ y,N[c.toNat]?=some y→¬ (y.ah≤k∧k<y.To)
   | .inr r=>∃ (j:Nat) (c:Int) (y:aq),r=(j:Int)∧ks[j]?=some c∧N[c.toNat]?=some y∧y.ah≤k∧k<y.To∧∀ (i:Nat) c' y',i<j→ks[i]?=some c'→N[c'.toNat]?=some y'→¬ (y'.ah≤k∧k<y'.To)):=by
  intro m
  induction m with
  | zero=>intro i h1;omega
  | succ m ih=>
   intro i h1 h2 I
   rw [lL]
   refine aw (fun c=>?_) (fun c=>wpS fun c hc y hy=>?_)
   ·have hi:i<ks.length:=by omega
    have hg:=List.getElem?_eq_getElem hi
    have hw:af ((i:Int)+1)=((i+1:Nat):Int):=by rw [aX (by omega) (by omega)];omega
    have J:=hv _ (List.mem_of_getElem? hg)
    have hl:ks[i].toNat<N.length:=by omega
    have qK:=List.getElem?_eq_getElem hl
    refine aM (by omega) ?_
    rw [Int.toNat_natCast,hg]
    refine a7 rfl ?_
    refine a8 (Q:=fun b=>b=true↔(N[ks[i].toNat].ah≤k∧k<N[ks[i].toNat].To)) ?_ ?_
    ·unfold oW
     rw [u7,decide_eq_true J]
     refine a7 rfl (aM rfl (aM J ?_))
     simp only [qK]
     refine a7 rfl (aw (fun a=>aM J (a7 rfl (aw (fun b=>wpS (by simp [a,b])) (fun b=>wpS (by simp;omega))))) (fun a=>wpS (by simp;omega)))
    intro b hb
    refine aw (fun c1=>wpS ⟨i,_,_,rfl,hg,qK,(hb.1 c1).1,(hb.1 c1).2,fun j c' y' hj=>I j c' y' hj⟩) (fun c1=>?_)
    rw [hw]
    refine ih (i+1) (by omega) (by omega) (fun j c y hj hc hy=>?_)
    rcases Nat.lt_or_ge j i with z | z
    ·exact I j c y z hc hy
    ·have:j=i:=by omega
     subst this
     rw [hg] at hc
     simp only [Option.some.injEq] at hc
     subst hc
     rw [qK] at hy
     simp only [Option.some.injEq] at hy
     subst hy
     exact fun q=>c1 (hb.2 q)
   ·obtain ⟨j,hj⟩:=List.getElem?_of_mem hc
    exact I j c y (by have:=eZ hj;omega) hj hy
 unfold m7
 refine a8 (key F 0 (by omega) (by omega) (fun j c y hj=>by omega)) ?_
 rintro (u | r) h
 ·exact wpS (.inl ⟨rfl,h⟩)
 ·exact wpS (.inr h)
def pV (N:List aq) (k:Int) (i:Nat) (x:aq):Prop:=N[i]?=some x∧x.ah≤k∧k<x.To∧∀ c∈x.Kids,∀ y,N[c.toNat]?=some y→¬ (y.ah≤k∧k<y.To)
theorem yT (F:Nat) (hF:2500≤F) {L:List ak} {N:List aq} {e:Int} (hT:Tg 0 L e) (h:G N L.length) (hL:L.length≤1000) (hN:N.length≤2000) {at_:Int} (h0:0≤at_) (h1:at_<e):
  Wp (kE F L ⟨N⟩ at_) (fun r=>∃ (i:Nat) (x:aq) (k:Nat) (t:ak),r=(i:Int)∧pV N k i x∧L[k]?=some t∧t.ah≤at_∧at_<t.To):=by
 have fN:=h.pos
 unfold kE
 refine a8 (xI F L at_ hL hF) ?_
 rintro r hr
 rcases hr with ⟨_,dJ⟩ | ⟨k,t,rfl,ht,t1,t2⟩
 ·obtain ⟨j,t,I,J⟩:=hT.DH at_ h0 h1
  exact absurd J (dJ j t I)
 have lR:=eZ ht
 refine eI (by omega) (eI (by omega) (eI (by simp only;omega) ?_))
 have key:∀ (m i c:Nat),N.length - c<m→c≤i→∀ x,N[i]?=some x→x.ah≤(k:Int)→(k:Int)<x.To→Wp (walk_At_l0 F L ⟨N⟩ at_ m (k:Int) (i:Int) (c:Int)) (fun r=>∃ (i:Nat) (x:aq),r=(i:Int)∧pV N k i x):=by
  intro m
  induction m with
  | zero=>intro i c h1 h2 x hx;have:=gP hx;omega
  | succ m ih=>
   intro i c ai aj x hx U aa
   have hi:=gP hx
   rw [walk_At_l0]
   refine aM (by simp only;omega) (aM (by simp only;omega) ?_)
   rw [Int.toNat_natCast]
   simp only [hx]
   have CW:∀ c∈x.Kids,0≤c∧c<N.length:=fun c hc=>by
    obtain ⟨y,ab,ad,_⟩:=(h.cQ i x hx).1.mem c hc
    omega
   have al:x.Kids.length≤2000:=by have:=rP (List.mem_of_getElem? hx);have:=h.sum;omega
   refine a7 rfl (a8 (vY F N k x.Kids (by omega) (by omega) CW) ?_)
   rintro r hr
   rcases hr with ⟨rfl,dJ⟩ | ⟨j,c',y,rfl,hc,hy,ae,ag,_⟩
   ·exact aM (by omega) (wpS ⟨i,x,rfl,hx,U,aa,dJ⟩)
   ·refine eI (by omega) (aM (by omega) ?_)
    have hj:=eZ hc
    refine a7 rfl (aM (by omega) ?_)
    rw [Int.toNat_natCast,hc]
    refine a7 rfl ?_
    obtain ⟨w,ab,ad,an,ao,_⟩:=(h.cQ i x hx).1.mem c' (List.mem_of_getElem? hc)
    have hw:af ((c:Int)+1)=((c+1:Nat):Int):=by rw [aX (by omega) (by omega)];omega
    have e:c'=((c'.toNat:Nat):Int):=by omega
    rw [hw]
    have:=ih c'.toNat (c+1) (by omega) (by omega) y hy ae ag
    rw [← e] at this
    exact this
 obtain ⟨r,r1,_,ar,au,_⟩:=h.root
 refine a8 (key F 0 0 (by omega) (Nat.le_refl _) r r1 (by omega) (by omega)) ?_
 rintro r ⟨i,x,rfl,hl⟩
 exact wpS ⟨i,x,k,t,rfl,hl,ht,t1,t2⟩
theorem DI (F:Nat) (l:List Int) (hl:l.length≤100000) (hF:l.length+10<F):Wp (nC F l) (fun r=>r=l.reverse):=by
 have key:∀ (m:Nat) (x:List Int) (i:Nat) (j:Int),l.length - i<m→j=(l.length:Int) - 1 - i→2 * (i:Int)≤l.length+1→x.length=l.length→(∀ k:Nat,k<l.length→x[k]?=if k<i∨j<k then l[l.length - 1 - k]? else l[k]?)→Wp (slices_Reverse_int_l0 F l m x (i:Int) j) (fun r=>r=l.reverse):=by
  intro m
  induction m with
  | zero=>intro x i j h1 h2 aa;omega
  | succ m ih=>
   intro x i j h1 h2 aa ab I
   rw [slices_Reverse_int_l0]
   refine aw (fun c=>?_) (fun c=>wpS ?_)
   ·have hj:j.toNat<x.length:=by omega
    have hi:i<x.length:=by omega
    have ad:af ((i:Int)+1)=((i+1:Nat):Int):=by rw [aX (by omega) (by omega)];omega
    have ae:af (j - 1)=j - 1:=aX (by omega) (by omega)
    refine aM (by omega) ?_
    rw [List.getElem?_eq_getElem hj]
    refine a7 rfl (aM (by omega) ?_)
    rw [Int.toNat_natCast,List.getElem?_eq_getElem hi]
    refine a7 rfl (aM (by omega) (a7 rfl (aM (by rw [List.length_set];omega) ?_)))
    rw [List.getElem?_set_ne (by omega),List.getElem?_eq_getElem hj]
    refine a7 rfl ?_
    rw [ad,ae]
    refine ih _ (i+1) (j - 1) (by omega) (by omega) (by omega) (by rw [List.length_set,List.length_set];exact ab) (fun k hk=>?_)
    have lW:=I i (by omega)
    have sn:=I j.toNat (by omega)
    rw [if_neg (by omega),List.getElem?_eq_getElem hi] at lW
    rw [if_neg (by omega),List.getElem?_eq_getElem hj] at sn
    by_cases e1:k=j.toNat
    ·subst e1
     rw [List.getElem?_set_self (by rw [List.length_set];exact hj),if_pos (by omega),lW]
     congr 1;omega
    ·rw [List.getElem?_set_ne (Ne.symm e1)]
     by_cases J:k=i
     ·subst J
      rw [List.getElem?_set_self hi,if_pos (by omega),sn]
      congr 1;omega
     ·rw [List.getElem?_set_ne (Ne.symm J),I k hk]
      by_cases U:k<i∨j<k
      ·rw [if_pos U,if_pos (by omega)]
      ·rw [if_neg U,if_neg (by omega)]
   ·apply List.ext_getElem?
    intro k
    rcases Nat.lt_or_ge k l.length with z | z
    ·rw [I k z,List.getElem?_reverse z]
     split
     ·rfl
     ·congr 1;omega
    ·rw [List.getElem?_eq_none (by omega),List.getElem?_eq_none (by rw [List.length_reverse];exact z)]
 unfold nC
 by_cases c:l=[]
 ·subst c
  refine a8 (Q:=fun r=>r=[]) ?_ (fun r hr=>wpS (by rw [hr];rfl))
  obtain ⟨F,rfl⟩:∃ k,F=k+1:=⟨F - 1,by omega⟩
  rw [slices_Reverse_int_l0,if_neg (by decide)]
  exact wpS rfl
 ·have fN:0<l.length:=by cases l with | nil=>exact absurd rfl c | cons=>simp
  have hw:af ((l.length:Int) - 1)=(l.length:Int) - 1 - ((0:Nat):Int):=by rw [aX (by omega) (by omega)];omega
  rw [hw]
  exact a8 (key F l 0 _ (by omega) rfl (by omega) rfl (fun k hk=>by rw [if_neg (by omega)])) fun r hr=>wpS hr
def ups (N:List aq):Nat→Int→List Int
 | 0,_=>[]
 | f+1,i=>if 0≤i then i::(match N[i.toNat]? with | some x=>ups N f x.Up | none=>[]) else []
theorem Aw (F:Nat) (hF:2500≤F) {N:List aq} {n:Int} (h:G N n) (hN:N.length≤2000) (i:Nat) (hi:i<N.length):Wp (mC F ⟨N⟩ (i:Int)) (fun p=>p=(ups N (i+1) i).reverse):=by
 have key:∀ (m f:Nat) (a:Int) (out:List Int),f+1<m→a<f→a<N.length→(out.length:Int)+a≤i→(out.length:Int)≤i+1→Wp (walk_Path_l0 F ⟨N⟩ (i:Int) m a out) (fun p=>p=out++ups N f a):=by
  intro m
  induction m with
  | zero=>intro f a out h1;omega
  | succ m ih=>
   intro f a out h1 h2 j I J
   rw [walk_Path_l0,u7]
   refine a7 rfl ?_
   by_cases c:0≤a
   ·rw [decide_eq_true ⟨c,j⟩]
    have hl:a.toNat<N.length:=by omega
    have hg:=List.getElem?_eq_getElem hl
    have hu:=h.qo _ _ hg
    obtain ⟨f,rfl⟩:∃ k,f=k+1:=⟨f - 1,by omega⟩
    refine aM rfl (aM (by simp only;omega) (aM (by rw [List.length_singleton];omega) (aM ⟨c,j⟩ ?_)))
    simp only [hg]
    refine a7 rfl ?_
    have:=ih f N[a.toNat].Up (out++[a]) (by omega) (by omega) (by omega) (by rw [List.length_append,List.length_singleton];omega) (by rw [List.length_append,List.length_singleton];omega)
    refine this.mono fun p hp=>?_
    rw [hp,ups,if_pos c,hg]
    simp
   ·rw [decide_eq_false (by omega)]
    refine eI (by simp) (wpS ?_)
    cases f with
    | zero=>simp [ups]
    | succ f=>rw [ups,if_neg c];simp
 have hlen:∀ (f:Nat) (a:Int),(ups N f a).length≤f:=by
  intro f
  induction f with
  | zero=>intro a;simp [ups]
  | succ f ih=>
   intro a
   rw [ups]
   split
   ·rw [List.length_cons]
    split
    ·have:=ih (by assumption:aq).Up;omega
    ·simp
   ·simp
 unfold mC
 refine a8 (key F (i+1) i [] (by omega) (by omega) (by omega) (by simp) (by simp;omega)) ?_
 rintro p rfl
 have hl:=hlen (i+1) i
 refine a8 (DI F _ (by rw [List.nil_append];omega) (by rw [List.nil_append];omega)) ?_
 rintro r rfl
 unfold pw
 refine az (aM (by rw [List.length_nil,List.length_reverse,List.nil_append];omega) (wpS (wpS (by simp))))
end Go.Proofs.Ytcilejikekccmaa.M
namespace Go.Proofs.Ytcilejikekccmaa.M
open Go Am Sy
theorem x2 (N:List aq) (f i:Nat):(ups N (f+1) i).head?=some (i:Int):=by rw [ups,if_pos (by omega)];rfl
theorem vS (N:List aq):∀ (f:Nat) (a:Int),(ups N f a).length≤f:=by
 intro f
 induction f with
 | zero=>intro a;simp [ups]
 | succ f ih=>
  intro a
  rw [ups]
  split
  ·rw [List.length_cons]
   split
   ·have:=ih (by assumption:aq).Up;omega
   ·simp
  ·simp
theorem BG {N:List aq} {n:Int} (h:G N n):∀ (f i:Nat),i<f→i<N.length→(ups N f i).getLast?=some 0:=by
 intro f
 induction f with
 | zero=>intro i h1;omega
 | succ f ih=>
  intro i h1 h2
  have hg:=List.getElem?_eq_getElem h2
  rw [ups,if_pos (by omega),Int.toNat_natCast,hg]
  simp only
  rcases h.ups i _ hg with z | ⟨J,U⟩
  ·subst z
   obtain ⟨r,r1,_,_,_,I⟩:=h.root
   rw [hg] at r1;simp only [Option.some.injEq] at r1
   rw [r1,I]
   cases f with
   | zero=>simp [ups]
   | succ f=>rw [ups,if_neg (by decide)];simp
  ·have e:N[i].Up=((N[i].Up.toNat:Nat):Int):=by omega
   have j:=ih N[i].Up.toNat (by omega) (by omega)
   rw [← e] at j
   rw [List.getLast?_cons,j];rfl
theorem EE {L:List ak} {e:Int} (hT:Tg 0 L e) {k:Nat} {t:ak} (hk:L[k]?=some t) {at_:Int} (h1:t.ah≤at_) (h2:at_<t.To) {y:aq} (aa:0≤y.ah) (I:y.ah≤y.To) (dJ:¬ (y.ah≤(k:Int)∧(k:Int)<y.To)) {s:ie}
  (hs:(y.ah<y.To→∃ t u,L[y.ah.toNat]?=some t∧L[(y.To - 1).toNat]?=some u∧s=⟨t.ah,u.To⟩)∧(y.ah=y.To→s.ah=s.To)):¬ (s.ah≤at_∧at_<s.To):=by
 obtain ⟨ab,j⟩:=hT.ord
 rintro ⟨J,U⟩
 rcases Int.lt_or_eq_of_le I with z | z
 ·obtain ⟨a,b,ha,hb,rfl⟩:=hs.1 z
  simp only at J U
  apply dJ
  refine ⟨?_,?_⟩
  ·by_cases c:y.ah≤(k:Int)
   ·exact c
   ·have:=j k y.ah.toNat t a (by omega) hk ha
    omega
  ·by_cases c:(k:Int)<y.To
   ·exact c
   ·have:=j (y.To - 1).toNat k b t (by omega) hb hk
    omega
 ·have:=hs.2 z
  omega
theorem wX (F:Nat) (ns:List Int) (raw:List UInt8) (U:Int) {L:List ak} {N N':List aq} {e:Int} (hT:Tg 0 L e) (h:G N L.length) (hL:L.length≤1000) {k:Nat} {t:ak} (hk:L[k]?=some t) {at_:Int} (h1:t.ah≤at_) (h2:at_<t.To) {i:Nat} {x:aq} (hx:pV N k i x) (lR:x.Kids.length≤100000):
  ∀ (m j:Nat),x.Kids.length - j<m→Wp (correctorlaw13_WalkIn_l0 F ns raw U m at_ L N N' (i:Int) x.Kids (x.Kids.length:Int) (j:Int)) (fun s=>s= .inl (N',(i:Int))):=by
 intro m
 induction m with
 | zero=>intro j h1;omega
 | succ m ih=>
  intro j hj
  rw [correctorlaw13_WalkIn_l0]
  refine aw (fun c=>?_) (fun c=>wpS rfl)
  have n5:j<x.Kids.length:=by omega
  have hg:=List.getElem?_eq_getElem n5
  obtain ⟨y,I,aa,J,ab⟩:=h.tf hx.1 (List.mem_of_getElem? hg)
  obtain ⟨w,w1,w2,ad,_⟩:=(h.cQ i x hx.1).1.mem _ (List.mem_of_getElem? hg)
  have hr:=h.l5 (i+1) i (by omega) x hx.1
  have dJ:=hx.2.2.2 _ (List.mem_of_getElem? hg) y I
  have hw:af ((j:Int)+1)=((j+1:Nat):Int):=by rw [aX (by omega) (by omega)];omega
  refine aM (by omega) ?_
  rw [Int.toNat_natCast,hg]
  refine a7 rfl (aM (by omega) ?_)
  simp only [I]
  refine a7 rfl (a8 (tO F L y hL (by omega) J (by omega)) ?_)
  intro s hs
  have qI:=EE hT hk h1 h2 (by omega) J dJ hs
  refine a8 (Q:=fun z=>z= .inl (L,N,N',x.Kids)) (aw (fun c1=>eI (by omega) (wpS rfl)) (fun _=>wpS rfl)) ?_
  rintro z rfl
  simp only
  rw [hw]
  exact ih (j+1) (by omega)
theorem B8 (F:Nat) (ns:List Int) (raw:List UInt8) (at_:Int) (hF:F=6000):correctorlaw13_WalkIn F ns raw at_=some true:=by
 have:Wp (correctorlaw13_WalkIn F ns raw at_) (fun b=>b=true):=by
  unfold correctorlaw13_WalkIn
  rw [hF]
  refine a7 xM (aM rfl ?_)
  rw [← hF]
  refine a8 (xh F (by omega) ns raw) fun b hb=>?_
  refine aw (fun _=>wpS rfl) (fun ad=>?_)
  have hr:=sE at_ (b.length:Int) (by omega)
  refine a7 (yh F at_ _ (by omega) (by omega)) ?_
  generalize wi at_ (b.length:Int)=a at hr
  refine a8 (Ci F (by omega) b (by omega) 20 (by omega)) ?_
  rintro ⟨L,T,D⟩ ⟨h1,h2,aa⟩
  simp only at h1 h2 aa ⊢
  have hle:=h1.le
  unfold lN
  refine a7 rfl (a8 (yT F (by omega) h1 h2 (by omega) (by omega) hr.1 hr.2) ?_)
  rintro r ⟨i,x,k,t,rfl,hx,ht,t1,t2⟩
  have hi:=gP hx.1
  have qU:=h2.l5 (i+1) i (by omega) x hx.1
  have ae:x.Kids.length≤2000:=by have:=rP (List.mem_of_getElem? hx.1);have:=h2.sum;omega
  refine eI (by omega) (eI (by omega) (aM (by omega) ?_))
  simp only [Int.toNat_natCast,hx.1]
  refine a7 rfl (a8 (tO F L x (by omega) qU.1 qU.2.1 qU.2.2) ?_)
  intro s hs
  obtain ⟨a1,I,ha,j,rfl⟩:=hs.1 (by have:=hx.2.1;have:=hx.2.2.1;omega)
  obtain ⟨J,U⟩:=h1.ord
  have ag:a1.ah≤a:=by
   rcases Int.lt_or_eq_of_le hx.2.1 with z | z
   ·have:=U x.ah.toNat k a1 t (by omega) ha ht
    have:=J _ a1 ha
    omega
   ·rw [z,Int.toNat_natCast,ht] at ha;simp only [Option.some.injEq] at ha;subst ha;exact t1
  have ai:a<I.To:=by
   have aj:=hx.2.2.1
   rcases Int.lt_or_eq_of_le (show (k:Int)≤x.To - 1 by omega) with z | z
   ·have:=U k (x.To - 1).toNat t I (by omega) ht j
    have:=J _ I j
    omega
   ·rw [← z,Int.toNat_natCast,ht] at j;simp only [Option.some.injEq] at j;subst j;exact t2
  refine eI (by show ¬ a<a1.ah;omega) (eI (by show ¬ I.To≤a;omega) (aM (by omega) ?_))
  refine a7 rfl (a8 (wX F ns raw at_ h1 h2 (by omega) ht t1 t2 hx (by omega) F 0 (by omega)) ?_)
  rintro z rfl
  simp only
  refine a8 (Aw F (by omega) h2 (by omega) i hi) ?_
  rintro p rfl
  have hh:=x2 T.al i i
  have hl:=BG h2 (i+1) i (by omega) hi
  have ka:=vS T.al (i+1) i
  generalize ups T.al (i+1) (i:Int)=us at hh hl ka
  cases us with
  | nil=>simp at hh
  | cons u us=>
   simp only [List.head?_cons,Option.some.injEq] at hh
   subst hh
   have hlen:(((i:Int)::us).reverse).length=us.length+1:=by simp
   have g0:(((i:Int)::us).reverse)[(0:Int).toNat]?=some 0:=by
    rw [show (0:Int).toNat=0 from rfl,List.getElem?_reverse (by simp)]
    rw [List.getLast?_eq_getElem?] at hl
    rw [Nat.sub_zero];exact hl
   have ab:(((i:Int)::us).reverse)[us.length]?=some (i:Int):=by
    rw [List.getElem?_reverse (by simp)];simp
   rw [List.length_cons] at ka
   have hw:af (((((i:Int)::us).reverse).length:Int) - 1)=(us.length:Int):=by rw [hlen,aX (by omega) (by omega)];omega
   rw [hw]
   refine aM (by rw [hlen];omega) (aM (by rw [hlen];omega) ?_)
   rw [g0]
   refine a7 rfl (aM rfl (aM (by rw [hlen];omega) ?_))
   rw [Int.toNat_natCast,ab]
   exact a7 rfl (aM rfl (wpS rfl))
 obtain ⟨b,h1,rfl⟩:=this
 exact h1
end Go.Proofs.Ytcilejikekccmaa.M
namespace Go.Proofs.Ytcilejikekccmaa.walkIn
open Go.Proofs.Ytcilejikekccmaa.Am
open Go.Proofs.Ytcilejikekccmaa
open Go.ChangeShapes Go.WideShapes Go.ChangeAt Go.RowKit
theorem own:ownKnob Try.prog.godebug=none:=by kernel_rfl
theorem kids:Kids Try.prog (·<Try.prog.types.size):=kids_rows (by kernel_rfl) (by kernel_rfl)
theorem full:∀ t e,t<Try.prog.types.size→Try.prog.underlying t=some (.slice e)→0<Try.prog.cellsOf e:=slices_full_of _ (by kernel_rfl)
theorem yl:∀ t∈Try.f6.params.toList,t<Try.prog.types.size:=by
  rw [Try.params6]
  exact of_decide_eq_true (by kernel_rfl)
set_option maxRecDepth 100000 in
theorem lifted (os:Os) (started:os.Started) (H:Type) (enc:TypeId×Value→H):
    ReturnsInHanded {} Try.checked os 6 .any (Rows.walkInSpec.pre6 enc Try.prog Try.f6 Rows.walkInRow.domain false) (Rows.walkInSpec.post enc Try.prog Try.f6 false true false false):=by
  refine returnsInHanded_of_change (C:=Try.checked) own started (by kernel_rfl) Try.func6
    (ChangeSpec.witness6 (enc:=enc) (C:=Try.checked) false ⟨#[],#[.slice none 0 0, .slice none 0 0, .int .i64 0],[]⟩ 8 (by kernel_rfl) (by kernel_rfl) (by kernel_rfl) (by kernel_rfl)) ?_
  intro W base args ds gs before J hW E7 _
  have oX:∀ (j:Nat) t v,Try.f6.params[j]?=some t→args[j]?=some v→Value.okWide Try.prog W .any base t v:=J
  have u5:=hW
  have bm:=fun p hp=>u5.lt p hp
  obtain ⟨p,q,I,hV,rfl,E8,gI⟩:=hW
  have hA:DataW.TrodAll enc Try.prog W 0 (fun _=>true) true Try.f6.params.toList args.toList ds p:=I
  rw [Try.params6] at hA oX
  obtain ⟨v0,ah,d0,ai,aj,al,dS,rfl,rfl,h0,r0⟩:=trodAll_cons hA
  obtain ⟨v1,an,d1,ao,aq,ar,rfl,rfl,rfl,h1,r1⟩:=trodAll_cons r0
  obtain ⟨v2,au,d2,av,aw,ax,rfl,rfl,rfl,h2,U⟩:=trodAll_cons r1
  obtain ⟨rfl,rfl,rfl⟩:=trodAll_nil U
  obtain rfl:args=#[v0,v1,v2]:=by cases args;simp_all
  obtain ⟨rfl,rfl⟩:=trodVars_none hV
  obtain ⟨aa,rfl,rfl,rfl,w2⟩:=open_int Try.underlying3 (oX 2 3 v2 rfl rfl) h2
  letI:Marks:=⟨fun _=>0⟩
  obtain ⟨ρ0,Z0,ay,az,ab,ad,aA,aB,e0,s0,g0⟩:=M.vo (Sy.vf Try.underlying23 (by kernel_rfl) (Sy.zy Try.underlying3)) Try.underlying23 (oX 0 23 v0 rfl rfl) h0 (Sy.CK W)
  obtain ⟨ρ1,Z1,aC,aD,ae,H1,af,ag,e1,s1,aE⟩:=M.vo (Sy.vf Try.underlying31 (by kernel_rfl) (Sy.AZ Try.underlying5)) Try.underlying31 (oX 1 31 v1 rfl rfl) h1 ad
  replace e0:=e0.mono af
  replace s0:=s0.mono ag
  obtain ⟨v,h',hc,_,rfl⟩:=M.Dh (6000) (H1).inv s0 s1 (M.B8 (6000) ab ae aa rfl)
  refine (M.DM M.v8 H1 hc (LR.cons e0 (LR.cons e1 (LR.cons (.int _ _) (LR.nil _))))).mono fun e W' ⟨he,hg⟩=>?_
  subst he
  exact ⟨_,rfl,CY (pv:=[]) u5 (fun _ _ _=>(trodAll_cons_mk (shut_bool Try.underlying4 _) trodAll_mk0)) (fun sp fI=>M.uh kids full hg yl I (fun x hx=>bm x (by simpa using hx)) (fun x hx=>fI x (by simpa using hx))) (fun _ _=>rfl) rfl
    hg (ok_one (by kernel_rfl) rfl (okWide_bool_mk Try.underlying4 _))⟩
theorem over:Rows.walkInRow.holds Try.pinned (OpenSpec.ofChange Rows.walkInSpec):=
  OpenClaim.holds_of_wide 6 Try.f6 rfl rfl rfl rfl rfl rfl rfl ⟨rfl,rfl,rfl,rfl,rfl⟩ rfl rfl rfl rfl rfl (by kernel_rfl) Try.func6 (by kernel_rfl)
    (of_decide_eq_true (by kernel_rfl)) (by unfold Func.isWrapper;first | (rw [if_pos (by decide+kernel)];kernel_rfl) | (rw [if_neg (by decide+kernel)];exact ⟨rfl,rfl⟩))
    (fun os started H enc _=>lifted os started H enc)
theorem proved:Rows.WalkInSaid:=
  over
end Go.Proofs.Ytcilejikekccmaa.walkIn
