/- All nodes in their order, each once, each behind its Up. -/
import Derived.Test.YtcilejikekccmaaWo4
import Derived.Test.YtcilejikekccmaaRows
import Derived.WalkKit
import Derived.ProofKit
import Derived.OpenShut
import Derived.ChangeMaps5
set_option linter.unusedVariables false
set_option linter.unusedSimpArgs false
set_option maxRecDepth 100000
set_option linter.unnecessarySimpa false
namespace Go.Proofs.Ytcilejikekccmaa.M
open Go Am Sy
structure Nx (n:Int) (p p':Pp):Prop where
  pi:PI n p' p'.Read
  r0:0≤p'.Read
  r1:p'.Read≤n
  rows:p'.Rows=p.Rows
  l:p'.R.L=p.R.L
theorem FI.in {L:List al} {aH to a:Int} (h:FI L aH to a) (hc:∃ (i:Int) (t:al),aH≤i∧i<to∧L[i.toNat]?=some t∧cn t.Kind=true):a<to:=by
  obtain ⟨i,t,I,U,J,j⟩:=hc
  rcases Int.lt_or_eq_of_le h.2.1 with z | z
  · exact z
  · rw [h.2.2.1 i t I (by omega) J] at j;cases j
theorem Bb (F:Nat) (hF:2500≤F) {n:Int} {p:Pp} {q:Int} (h:PI n p q) (h0:0≤q) {r:an} (hq:q≤r.ai) (hr:r.ai<r.To) (aV:r.To≤n) (hc:∃ (i:Int) (t:al),r.ai≤i∧i<r.To∧p.R.L[i.toNat]?=some t∧cn t.Kind=true) (kz:p.Read=r.To):Wp (mM F p r) (Nx n p):=by
  have hn:=h.rd.nl
  have dg:=h.rd.ri.n
  have b1:=h.sz
  have fT:=h.dl
  have eU:=h.dep
  obtain ⟨a,b,a1,aj,aW,aX,aF,_⟩:=kN F hF p dg r.ai r.To (by omega) (by omega) (by omega)
  have e6:=aj.in hc
  have dY:=aF e6
  have aY:=aj.1
  have hw:af (a+1)=a+1:=w1 (by omega) (by omega)
  unfold mM
  refine aU a1 ?_
  simp only [hw]
  refine aQ (by omega) ?_
  refine az (a7 (by omega) fun t ht=>?_)
  refine ax (fun hk=>?_) (fun hk=>?_)
  · obtain ⟨r1,ao,aq,ar,au,av,aZ,_⟩:=iG F hF h.rd (by omega) (up:=0) .root (kind:=2) (aH:=a) (to:=a+1) (by omega) (by omega) (by omega) (by omega) (h.rd.endOf h0 0 (by omega))
    rw [show ((0:Nat):Int)=0 from rfl] at ao
    refine aU ao ?_
    have aa:r1.L=p.R.L:=ar.l
    have a0:=ar.sz
    have J:PD n (⟨r1,p.Rows,(p.R.T.ak.length:Int),false,[],p.aw,p.Read⟩:Pp) (a+1) p.R.T.ak.length:=
      ⟨aq,by show RO r1.L p.Rows;rw [aa];exact h.ro,eU,by show ((0:Nat):Int)≤_;exact eU.1,rfl,au,So.nil _ _,by show (r1.T.ak.length:Int)≤_;omega,by show (r1.D.length:Int)≤_;rw [av];omega⟩
    obtain ⟨x,y,c1,c2,aG,aI,aJ,_⟩:=kN F hF (⟨r1,p.Rows,(p.R.T.ak.length:Int),false,[],p.aw,p.Read⟩:Pp) (by show r1.L.length≤450;rw [aa];exact dg) (a+1) r.To (by omega) (by omega) (by show _≤(r1.L.length:Int);rw [aa];omega)
    refine aU c1 ?_
    refine az ?_
    refine ax (fun l3=>?_) (fun l3=>?_)
    · have hx:=c2.1
      obtain ⟨bb,ab,v1,v2,a2,v4,j,v6,a3,a4,a5⟩:=pI F hF J (by omega) au (Nat.le_refl _) (fun i o hi=>by simp at hi) (at_:=x) (by omega) (by omega)
      refine aU v1 ?_
      refine wpS (wpS ⟨⟨j.rd,j.ro,j.dep, .inr ⟨_,j.doc,j.ds,j.si,j.sl⟩,?_,?_⟩,?_,v4,v2.rows,v6.trans aa⟩)
      · show (ab.R.T.ak.length:Int)≤4 * ab.Read+4;omega
      · show (ab.R.D.length:Int)≤4 * ab.Read+4;omega
      · show 0≤ab.Read;omega
    · refine wpS (wpS ⟨⟨?_,J.ro,eU, .inr ⟨_,J.doc,J.ds,J.si,J.sl⟩,?_,?_⟩,?_,?_,rfl,aa⟩)
      · show Rd n r1 p.Read;exact aq.mono (by omega)
      · show (r1.T.ak.length:Int)≤4 * p.Read+4;omega
      · show (r1.D.length:Int)≤4 * p.Read+4;rw [av];omega
      · show 0≤p.Read;omega
      · show p.Read≤n;omega
  ·
    have y8:Wp (if (0:Int)≤p.Doc then
        (h6 F p.R.T p.Doc (a+1)).bind fun aK=>
        some ((⟨p.R.L,aK,p.R.D,p.R.End⟩:aL),p.Rows,p.Doc,p.aA,p.aw,p.Read)
       else
        some (p.R,p.Rows,p.Doc,p.aA,p.aw,p.Read):Option (aL×(List an)×Int×Bool×Int×Int))
        (fun z=>z.2.1=p.Rows∧z.2.2.2.2.1=p.aw∧z.2.2.2.2.2=p.Read∧Rd n z.1 (a+1)∧To p.R z.1 0 0 0):=by
      rcases h.doc with ⟨ay,aB⟩ | ⟨d,ay,aB,a6,a8⟩
      · exact eH (by omega) (wpS ⟨rfl,rfl,rfl,h.rd.mono (by omega),To.refl _ _⟩)
      · obtain ⟨t',aM,aO,aP⟩:=px F hF h.rd (by omega) aB (to:=a+1) (by omega) (by omega)
        rw [ay]
        exact aQ (by omega) (aU aM (wpS ⟨rfl,rfl,rfl,aO,aP 0⟩))
    refine bp y8 ?_
    rintro ⟨I,a9,ba,aR,bc,bd⟩ ⟨e1,aC,aD,ad,ae⟩
    simp only at e1 aC aD ad ae
    subst e1 aC aD
    have U:=ae.l
    have bf:=ae.sz
    have bg:=ae.dl
    obtain ⟨x,y,c1,c2,aG,aI,aJ,_⟩:=kN F hF (⟨I,p.Rows, -1,aR,[],p.aw,p.Read⟩:Pp) (by show I.L.length≤450;rw [U];exact dg) (a+1) b (by omega) (by omega) (by show _≤(I.L.length:Int);rw [U];omega)
    refine aU c1 ?_
    have hx:=c2.1
    refine ax (fun l3=>?_) (fun l3=>?_)
    · obtain ⟨ag,aE,aS,ah,_⟩:=mC F hF ad (by omega) (by omega) (up:=0) .root (code:=8) (aH:=x) (to:=y) (by omega) l3 (by omega) (by omega) (ad.endOf (by omega) 0 (by omega))
      rw [show ((0:Nat):Int)=0 from rfl] at aE
      have bh:=ah.sz
      have bj:=ah.dl
      refine aU aE (wpS ⟨⟨?_,?_,eU, .inl ⟨rfl,rfl⟩,?_,?_⟩,?_,?_,rfl,ah.l.trans U⟩)
      · show Rd n ag p.Read;exact aS.mono (by omega)
      · show RO ag.L p.Rows;rw [ah.l,U];exact h.ro
      · show (ag.T.ak.length:Int)≤4 * p.Read+4;omega
      · show (ag.D.length:Int)≤4 * p.Read+4;omega
      · show 0≤p.Read;omega
      · show p.Read≤n;omega
    · refine wpS ⟨⟨?_,?_,eU, .inl ⟨rfl,rfl⟩,?_,?_⟩,?_,?_,rfl,U⟩
      · show Rd n I p.Read;exact ad.mono (by omega)
      · show RO I.L p.Rows;rw [U];exact h.ro
      · show (I.T.ak.length:Int)≤4 * p.Read+4;omega
      · show (I.D.length:Int)≤4 * p.Read+4;omega
      · show 0≤p.Read;omega
      · show p.Read≤n;omega
theorem So.last {N:List aq} {d:Nat} {S:List Oo} (h:So N d S) {k:Nat} {o o':Oo} (hk:S[k]?=some o) (hl:k+1=S.length) (hn:o'.Node=o.Node) (hc:o'.Has=false→∃ c:Nat,o'.bV=c∧o.Node<c∧Sp N c):So N d (S.set k o'):=by
  have fg:∀ (i:Nat) x,(S.set k o')[i]?=some x→(i=k∧x=o')∨(i≠k∧S[i]?=some x):=by
    intro i x hx
    by_cases e:i=k
    · subst e
      rw [List.getElem?_set_self (gL hk)] at hx
      exact .inl ⟨rfl,(Option.some.inj hx).symm⟩
    · rw [List.getElem?_set_ne (Ne.symm e)] at hx;exact .inr ⟨e,hx⟩
  refine ⟨fun i x hx=>?_,fun i j x y mo hx hy=>?_,fun i x hx I=>?_,fun i x hx hf=>?_⟩
  · rcases fg i x hx with ⟨rfl,rfl⟩ | ⟨_,q⟩
    · rw [hn];exact h.node i o hk
    · exact h.node i x q
  · have hj:=gL hy
    rw [List.length_set] at hj
    rcases fg i x hx with ⟨rfl,rfl⟩ | ⟨_,q⟩
    · omega
    · rcases fg j y hy with ⟨rfl,rfl⟩ | ⟨_,J⟩
      · rw [hn];exact h.inc i j x o mo q hk
      · exact h.inc i j x y mo q J
  · rw [List.length_set] at I
    rcases fg i x hx with ⟨rfl,rfl⟩ | ⟨_,q⟩
    · omega
    · exact h.has i x q I
  · rcases fg i x hx with ⟨rfl,rfl⟩ | ⟨_,q⟩
    · rw [hn];exact hc hf
    · exact h.cur i x q hf
theorem So.open_ {N:List aq} {d:Nat} {S:List Oo} (h:So N d S) {k:Nat} {o:Oo} (hk:S[k]?=some o) (hf:o.Has=false):k+1=S.length∧∃ c:Nat,o.bV=c∧o.Node<c∧Sp N c∧d≤c∧Up S c:=by
  have hl:=gL hk
  have I:k+1=S.length:=by
    rcases Nat.lt_or_ge (k+1) S.length with z | z
    · rw [h.has k o hk z] at hf;cases hf
    · omega
  obtain ⟨c,c1,c2,J⟩:=h.cur k o hk hf
  obtain ⟨m,U,aa,_⟩:=h.node k o hk
  refine ⟨I,c,c1,c2,J,by omega,fun i x hx=>?_⟩
  have hi:=gL hx
  by_cases e:i=k
  · subst e
    rw [hk] at hx;simp only [Option.some.injEq] at hx;subst hx
    exact ⟨by omega,fun _=>by omega⟩
  · have h1:=h.inc i k x o (by omega) hx hk
    exact ⟨by omega,fun j=>by rw [h.has i x hx (by omega)] at j;cases j⟩
theorem vP (S:List Oo) (k:Int) (h0: -1≤k) (h1:k<S.length):([]:List Oo)++((S.take (k+1).toNat).drop (0:Int).toNat)=S.take (k+1).toNat:=rfl
theorem DU (F:Nat) (hF:2500≤F) {n:Int} {p:Pp} {d:Nat} {r:an} {a b:Int} (h:PD n p a d) (h0:0≤a) (dY:a<b) (hb:b≤p.Read) (kc:p.Read≤n):Wp (m0 F p r a b) (Nx n p):=by
  have hn:=h.rd.nl
  have dg:=h.rd.ri.n
  have eU:=h.dep
  have gu:=h.sl
  have qn:af ((p.S.length:Int) - 1)=(p.S.length:Int) - 1:=a8 (by omega) (by omega)
  have key:∀ (m:Nat) (k:Int), -1≤k→k<p.S.length→k+1<m→∃ k',correctorref12_parser_bare_l0 F p r a b m r k=some k'∧ -1≤k'∧k'<p.S.length:=by
    intro m
    induction m with
    | zero=>intro k h1 h2 ae;omega
    | succ m ih=>
      intro k h1 h2 ae
      rw [correctorref12_parser_bare_l0]
      by_cases c:0≤k
      case neg=>rw [if_neg c];exact ⟨k,rfl,h1,h2⟩
      have hl:k.toNat<p.S.length:=by omega
      rw [if_pos c,if_pos (by omega),List.getElem?_eq_getElem hl]
      simp only [Option.bind_some]
      split
      · rw [jI (by omega) (by omega)]
        exact ih (k - 1) (by omega) (by omega) (by omega)
      · exact ⟨k,rfl,h1,h2⟩
  obtain ⟨k,ag,ah,ai⟩:=key F ((p.S.length:Int) - 1) (by omega) (by omega) (by omega)
  obtain ⟨u,aa,aj,ao,aq⟩:=rL F h
  obtain ⟨re,e1,J,ar,aG⟩:=rr F hF h h0 aj ao aq (aH:=a) (to:=b) (code:=7) (Int.le_refl _) dY (by omega)
  have u5:Nx n p (⟨re,p.Rows,p.Doc,p.aA,p.S,p.aw,p.Read⟩:Pp):=by
    have au:=J.sz
    have av:=J.dl
    simp only at au av
    have aI:=h.sz
    refine ⟨⟨J.rd.mono hb,J.ro,J.dep, .inr ⟨d,J.doc,J.ds,J.si,J.sl⟩,?_,?_⟩,?_,kc,rfl,ar⟩
    · show (re.T.ak.length:Int)≤4 * p.Read+4;omega
    · show (re.D.length:Int)≤4 * p.Read+4;omega
    · show 0≤p.Read;omega
  unfold m0
  rw [qn]
  refine aU ag ?_
  have qT:af (k+1)=k+1:=a8 (by omega) (by omega)
  refine bp (Q:=fun s=>match s with | .inl _=>(k<0∨∃ o,p.S[k.toNat]?=some o∧o.Has=false) | .inr p'=>Nx n p p') ?_ ?_
  · refine ax (fun hk=>?_) (fun hk=>?_)
    · refine ax (fun q9=>?_) (fun q9=>?_)
      · exact aU aa (aU e1 (wpS u5))
      · exact eH (by omega) (wpS (.inl hk))
    · refine aQ (by omega) (aQ (by omega) (az (a7 (by omega) fun o ho=>?_)))
      refine ax (fun hh=>?_) (fun hh=>?_)
      · exact aU aa (aU e1 (wpS u5))
      · exact wpS (.inr ⟨o,ho,by simpa using hh⟩)
  · rintro (_ | p') hs
    · simp only at hs ⊢
      simp only [qT,vP p.S k ah ai]
      refine aQ (by omega) (aQ (by rw [show (0:Int).toNat=0 from rfl,List.drop_zero,List.length_take,List.length_nil];omega) ?_)
      refine ax (fun hk=>?_) (fun hk=>?_)
      · have e:(k+1).toNat=0:=by omega
        rw [e,List.take_zero,h.doc]
        have hp:PD n (⟨p.R,p.Rows,(d:Int),p.aA,[],p.aw,p.Read⟩:Pp) a d:=⟨h.rd,h.ro,eU,by show ((0:Nat):Int)≤_;exact eU.1,rfl,h.ds,So.nil _ _,h.sz,h.dl⟩
        obtain ⟨bb,I,v1,v2,ay,v4,j,v6,ab,aB,aC⟩:=pI F hF hp h0 h.ds (Nat.le_refl _) (fun i o hi=>by simp at hi) (at_:=a) (Int.le_refl _) (by omega)
        refine aU v1 (wpS ⟨⟨j.rd,j.ro,j.dep, .inr ⟨_,j.doc,j.ds,j.si,j.sl⟩,?_,?_⟩,?_,v4,v2.rows,v6⟩)
        · show (I.R.T.ak.length:Int)≤4 * I.Read+4;omega
        · show (I.R.D.length:Int)≤4 * I.Read+4;omega
        · show 0≤I.Read;omega
      · rcases hs with hs | ⟨o,ho,hf⟩
        · exact absurd hs hk
        obtain ⟨aD,c,c1,c2,ad,aE,aF⟩:=h.si.open_ ho hf
        have e:p.S.take (k+1).toNat=p.S:=List.take_of_length_le (by omega)
        rw [e]
        refine aQ (by omega) ?_
        rw [ho]
        refine aU rfl ?_
        rw [c1]
        obtain ⟨bb,I,v1,v2,ay,v4,j,v6,ab,aB,aC⟩:=pI F hF h h0 ad aE aF (at_:=a) (Int.le_refl _) (by omega)
        refine aU v1 ?_
        have U:=v2.s
        refine aQ (by rw [U];omega) ?_
        rw [U,ho]
        refine aU rfl (wpS ⟨⟨j.rd,j.ro,j.dep, .inr ⟨d,j.doc,j.ds,?_,?_⟩,?_,?_⟩,?_,v4,v2.rows,v6⟩)
        · have h2:=j.si
          rw [U] at h2
          exact h2.last ho aD rfl (fun _=>⟨c,c1,c2,ab c (Nat.le_refl _) ad⟩)
        · show ((p.S.set _ _).length:Int)≤I.aw
          rw [List.length_set,v2.dep];exact gu
        · show (I.R.T.ak.length:Int)≤4 * I.Read+4;omega
        · show (I.R.D.length:Int)≤4 * I.Read+4;omega
        · show 0≤I.Read;omega
    · exact wpS hs
end Go.Proofs.Ytcilejikekccmaa.M
namespace Go.Proofs.Ytcilejikekccmaa.M
open Go Am Sy
structure Ls (n:Int) (R:Rr) (d:Nat) (S:List Oo) (S0:List Oo) (o:Oo) (m:Nat) (aH to:Int):Prop where
 eq:S=S0++[o]
 nd:o.Node=m
 dm:d<m
 sm:Sp R.T.ak m
 sd:Sp R.T.ak d
 en:∀ e,endOf R.T.ak m=some e→e≤aH
 so:So R.T.ak d S0
 has:∀ (i:Nat) x,S0[i]?=some x→x.Has=true∧x.Node<m
 rd:Rd n R to
theorem Ea {α:Type} (S:List α) (o x:α):(S++[o]).set S.length x=S++[x]:=by
 rw [List.set_append_right _ _ (Nat.le_refl _)];simp
theorem rH {α:Type} (S:List α) (o:α):(S++[o])[S.length]?=some o:=by simp
theorem So.up {N:List aq} {d:Nat} {S:List Oo} {m:Nat} (hh:∀ (i:Nat) x,S[i]?=some x→x.Has=true∧x.Node<m):Up S m:=fun i x hx=>⟨by have:=(hh i x hx).2;omega,fun q=>by rw [(hh i x hx).1] at q;cases q⟩
theorem D1 (F:Nat) (p:Pp) (e:a4) (hl:p.S.length≤1000):∀ (m:Nat) (n0 k:Int), -1≤k→k<p.S.length→k+1<m→∃ k',correctorref12_parser_place_l0 F p e m e n0 k=some (e,n0,k')∧ -1≤k'∧k'<p.S.length:=by
 intro m
 induction m with
 | zero=>intro n0 k h1 h2 j;omega
 | succ m ih=>
  intro n0 k h1 h2 j
  rw [correctorref12_parser_place_l0]
  by_cases c:0≤k
  case neg=>rw [if_neg c];exact ⟨k,rfl,h1,h2⟩
  have hi:k.toNat<p.S.length:=by omega
  rw [if_pos c,if_pos (by omega),List.getElem?_eq_getElem hi]
  simp only [Option.bind_some]
  split
  ·rw [jI (by omega) (by omega)]
   exact ih n0 (k - 1) (by omega) (by omega) (by omega)
  ·exact ⟨k,rfl,h1,h2⟩
theorem CM (F:Nat) (hF:2500≤F) {n:Int} {p:Pp} {q:Int} {d:Nat} (h:PD n p q d) (h0:0≤q) {e:a4} (hq:q≤e.ai) (fm:e.ai<e.To) (ht:e.To≤n):
  Wp (correctorref12_parser_place F p e) (fun z=>z.2.Rows=p.Rows∧z.2.R.L=p.R.L∧z.2.Read=p.Read∧((0<z.1∧z.2=p)∨(z.1=0∧(PD n z.2 e.To d∧(z.2.R.T.ak.length:Int)≤4 * e.To+3)∧∃ (k:Nat) (o:Oo),z.2.S[k]?=some o∧k+1=z.2.S.length∧o.Has=false))):=by
 have hn:=h.rd.nl
 have dg:=h.rd.ri.n
 have eU:=h.dep
 have gu:=h.sl
 have b1:=h.sz
 have fT:=h.dl
 have qn:af ((p.S.length:Int) - 1)=(p.S.length:Int) - 1:=a8 (by omega) (by omega)
 unfold correctorref12_parser_place
 refine bp (Q:=fun s=>s.1=e∧(s.2=3∨s.2=5)) (ax (fun _=>wpS ⟨rfl, .inl rfl⟩) (fun _=>wpS ⟨rfl, .inr rfl⟩)) ?_
 rintro ⟨e1,kind⟩ ⟨rfl,na⟩
 simp only at na hq fm ht ⊢
 rw [qn]
 obtain ⟨k,aX,aJ,av⟩:=D1 F p e1 (by omega) F kind ((p.S.length:Int) - 1) (by omega) (by omega) (by omega)
 refine aU aX ?_
 simp only
 refine bp (Q:=fun s=>match s with
  | .inl (e',k',fresh)=>e'=e1∧((fresh=false∧0≤k'∧k'<p.S.length)∨(fresh=true∧ -1≤k'∧k'<p.S.length∧(k'<0∨∃ o,p.S[k'.toNat]?=some o∧o.Has=false)))
  | .inr z=>0<z.1∧z.2=p) ?_ ?_
 ·refine bp (Q:=fun s=>s.1=e1∧(s.2=true→0≤k)) ?_ ?_
  ·refine ax (fun c=>aQ (by omega) (az (a7 (by omega) fun o ho=>ax (fun _=>aQ (by omega) (az (a7 (by omega) fun o ho=>ax (fun _=>wpS ⟨rfl,fun _=>c⟩) (fun _=>wpS ⟨rfl,fun q=>by cases q⟩)))) (fun _=>wpS ⟨rfl,fun q=>by cases q⟩)))) (fun _=>wpS ⟨rfl,fun q=>by cases q⟩)
  rintro ⟨aK,bl⟩ ⟨rfl,aY⟩
  refine ax (fun c=>wpS ⟨rfl, .inl ⟨rfl,aY c,av⟩⟩) (fun _=>?_)
  refine bp (Q:=fun s=>s.1=aK∧(s.2=true→0≤k)) ?_ ?_
  ·refine ax (fun c=>aQ (by omega) (az (a7 (by omega) fun o ho=>ax (fun _=>ax (fun _=>wpS ⟨rfl,fun _=>c⟩) (fun _=>wpS ⟨rfl,fun q=>by cases q⟩)) (fun _=>wpS ⟨rfl,fun q=>by cases q⟩)))) (fun _=>wpS ⟨rfl,fun q=>by cases q⟩)
  rintro ⟨ab,bm⟩ ⟨rfl,aZ⟩
  refine ax (fun c=>?_) (fun _=>?_)
  ·have ay:=aZ c
   refine aQ (by omega) (az (a7 (by omega) fun o ho=>ax (fun _=>wpS ⟨by simp,rfl⟩) (fun hh=>wpS ⟨rfl, .inr ⟨rfl,aJ,av, .inr ⟨o,ho,by simpa using hh⟩⟩⟩)))
  refine bp (Q:=fun s=>s.1=ab∧(s.2=true→0<k)) ?_ ?_
  ·have hw:0<k→af (k - 1)=k - 1:=fun c=>jI (by omega) (by omega)
   refine ax (fun c=>?_) (fun _=>wpS ⟨rfl,fun q=>by cases q⟩)
   rw [hw c]
   exact aQ (by omega) (az (a7 (by omega) fun o ho=>ax (fun _=>aQ (by omega) (az (a7 (by omega) fun o ho=>ax (fun _=>aQ (by omega) (az (a7 (by omega) fun o ho=>ax (fun _=>wpS ⟨rfl,fun _=>c⟩) (fun _=>wpS ⟨rfl,fun q=>by cases q⟩)))) (fun _=>wpS ⟨rfl,fun q=>by cases q⟩)))) (fun _=>wpS ⟨rfl,fun q=>by cases q⟩)))
  rintro ⟨j,bn⟩ ⟨rfl,a0⟩
  refine ax (fun c=>?_) (fun _=>?_)
  ·have ay:=a0 c
   rw [jI (by omega) (by omega)]
   exact wpS ⟨rfl, .inl ⟨rfl,by omega,by omega⟩⟩
  refine bp (Q:=fun s=>s.1=j) ?_ ?_
  ·refine ax (fun c=>aQ (by omega) (az (a7 (by omega) fun o ho=>ax (fun _=>wpS rfl) (fun _=>wpS rfl)))) (fun _=>wpS rfl)
  rintro ⟨bo,bq⟩ rfl
  refine ax (fun c=>wpS ⟨by simp,rfl⟩) (fun _=>?_)
  refine ax (fun c=>?_) (fun c=>?_)
  ·refine ax (fun _=>wpS ⟨by simp,rfl⟩) (fun _=>eH (by omega) (wpS ⟨rfl, .inr ⟨rfl,aJ,av, .inl c⟩⟩))
  ·refine aQ (by omega) (aQ (by omega) (az (a7 (by omega) fun o ho=>ax (fun _=>wpS ⟨by simp,rfl⟩) (fun hh=>wpS ⟨rfl, .inr ⟨rfl,aJ,av, .inr ⟨o,ho,by simpa using hh⟩⟩⟩))))
 rintro (⟨aK,k',fresh⟩ | ⟨code,p'⟩) hs
 case inr=>obtain ⟨U,rfl⟩:=hs;exact wpS ⟨rfl,rfl,rfl, .inl ⟨U,rfl⟩⟩
 obtain ⟨rfl,hs⟩:=hs
 simp only at hs ⊢
 have jN: -1≤k'∧k'<p.S.length:=by rcases hs with ⟨_,z⟩ | ⟨_,U,aa,_⟩<;>omega
 have a2:af (k'+1)=k'+1:=a8 (by omega) (by omega)
 have a3:af (k'+2)=k'+2:=a8 (by omega) (by omega)
 rw [a2,a3]
 refine bp (Q:=fun s=>match s with
  | .inl e'=>e'=aK∧(fresh=true→k'+2≤p.aw)
  | .inr z=>0<z.1∧z.2=p) ?_ ?_
 ·refine ax (fun c=>ax (fun _=>wpS ⟨by simp,rfl⟩) (fun c2=>wpS ⟨rfl,fun _=>by omega⟩)) (fun c=>wpS ⟨rfl,fun q=>absurd q c⟩)
 rintro (ab | ⟨code,p'⟩) aP
 case inr=>obtain ⟨U,rfl⟩:=aP;exact wpS ⟨rfl,rfl,rfl, .inl ⟨U,rfl⟩⟩
 obtain ⟨rfl,ES⟩:=aP
 simp only [vP p.S k' jN.1 jN.2]
 refine aQ (by omega) (aQ (by rw [show (0:Int).toNat=0 from rfl,List.drop_zero,List.length_take,List.length_nil];omega) ?_)
 refine bp (Q:=fun z=>z.2.1=p.Rows∧z.2.2.1=p.Doc∧z.2.2.2.2.2.1=p.aw∧z.2.2.2.2.2.2.1=p.Read∧z.2.2.2.2.2.2.2=ab∧z.1.L=p.R.L∧z.1.D=p.R.D∧(z.1.T.ak.length:Int)≤p.R.T.ak.length+1∧(z.2.2.2.2.1.length:Int)≤p.aw∧∃ S0 o m,Ls n z.1 d z.2.2.2.2.1 S0 o m ab.ai ab.To) ?_ ?_
 ·refine ax (fun kU=>?_) (fun kU=>?_)
  ·have a5:k'<0∨∃ o,p.S[k'.toNat]?=some o∧o.Has=false:=by
    rcases hs with ⟨z,_⟩ | ⟨_,_,_,z⟩
    ·rw [kU] at z;cases z
    ·exact z
   have br:=ES kU
   refine bp (Q:=fun z=>z.1=p.Rows∧z.2.1=p.Doc∧z.2.2.2.2.1=p.aw∧z.2.2.2.2.2.1=p.Read∧z.2.2.2.2.2.2.1=ab∧(z.2.2.2.1.length:Int)+1≤p.aw∧∃ u:Nat,z.2.2.2.2.2.2.2=(u:Int)∧Sp p.R.T.ak u∧d≤u∧So p.R.T.ak d z.2.2.2.1∧∀ (i:Nat) (x:Oo),z.2.2.2.1[i]?=some x→x.Has=true∧x.Node<(u:Int)) ?_ ?_
   ·refine ax (fun ay=>?_) (fun ay=>?_)
    ·rcases a5 with z | ⟨o,ho,hf⟩
     ·omega
     obtain ⟨aA,c,c1,c2,a6,a9,bu⟩:=h.si.open_ ho hf
     have e:p.S.take (k'+1).toNat=p.S:=List.take_of_length_le (by omega)
     rw [e]
     refine aQ (by omega) ?_
     rw [ho]
     refine aU rfl (aQ (by omega) (aU rfl (wpS ⟨rfl,rfl,rfl,rfl,rfl,?_,c,c1,a6,a9,?_,fun i x hx=>?_⟩)))
     ·show ((p.S.set _ _).length:Int)+1≤p.aw
      rw [List.length_set];omega
     ·exact h.si.last ho aA rfl (fun z=>by cases z)
     ·have kC:(p.S.set k'.toNat {o with Has:=true})[i]?=some x:=hx
      by_cases ei:i=k'.toNat
      ·subst ei
       rw [List.getElem?_set_self (gL ho)] at kC
       simp only [Option.some.injEq] at kC
       subst kC
       exact ⟨rfl,c2⟩
      ·rw [List.getElem?_set_ne (Ne.symm ei)] at kC
       have hi:=gL kC
       have h1:=h.si.inc i k'.toNat x o (by omega) kC ho
       exact ⟨h.si.has i x kC (by omega),by omega⟩
    ·have e:(k'+1).toNat=0:=by omega
     rw [e,List.take_zero]
     exact wpS ⟨rfl,rfl,rfl,rfl,rfl,by show ((0:Nat):Int)+1≤p.aw;omega,d,h.doc,h.ds,Nat.le_refl _,So.nil _ _,fun i x hx=>by simp at hx⟩
   ·rintro ⟨ba,bb,aL,aR,bc,bd,j,up⟩ ⟨ag,ah,aj,an,ao,ad,u,aq,aB,aC,aS,aD⟩
    simp only at ag ah aj an ao ad aq aS aD ⊢
    subst ag ah aj an ao aq
    obtain ⟨r1,a1,ar,I,au,aF,bf,z,hz,nS,nO⟩:=iG F hF h.rd (by omega) aB (kind:=kind) (aH:=j.ai) (to:=j.To) (by omega) (by omega) ht (by omega) (h.rd.endOf h0 u hq)
    have hu:=aB.lt h.rd.g
    have bw:=I.sz
    refine aU a1 (aQ (by rw [List.length_singleton];omega) (wpS ⟨rfl,rfl,rfl,rfl,rfl,I.l,aF,?_,?_,aR,_,p.R.T.ak.length,rfl,rfl,by omega,au,I.sp d aC h.ds,fun e he=>by rw [rh hz nO e he,nS];exact Int.le_refl _,aS.to (So.up (d:=d) (N:=p.R.T.ak) aD) I.sp,fun i x hx=>⟨(aD i x hx).1,by have:=(aD i x hx).2;omega⟩,ar⟩))
    ·show (r1.T.ak.length:Int)≤_;omega
    ·show ((aR++[_]).length:Int)≤_
     rw [List.length_append,List.length_singleton];omega
  ·have ay:0≤k':=by
    rcases hs with ⟨_,z,_⟩ | ⟨z,_⟩
    ·exact z
    ·exact absurd z kU
   have hl:k'.toNat<p.S.length:=by omega
   have hg:=List.getElem?_eq_getElem hl
   obtain ⟨m,bg,bh,bj⟩:=h.si.node _ _ hg
   have e:(k'+1).toNat=k'.toNat+1:=by omega
   refine wpS ⟨rfl,rfl,rfl,rfl,rfl,rfl,rfl,by show (p.R.T.ak.length:Int)≤_;omega,?_,p.S.take k'.toNat,p.S[k'.toNat],m,?_,bg,bh,bj,h.ds,h.rd.endOf h0 m hq,h.si.take _,fun i x hx=>?_,h.rd.mono (by omega)⟩
   ·show ((p.S.take (k'+1).toNat).length:Int)≤_
    rw [List.length_take];omega
   ·show p.S.take (k'+1).toNat=_
    rw [e,List.take_succ_eq_append_getElem hl]
   ·obtain ⟨aA,bk⟩:=lW hx
    have h1:=h.si.inc i k'.toNat x _ bk aA hg
    exact ⟨h.si.has i x aA (by omega),by omega⟩
 ·rintro ⟨ae,ba,bb,aL,bx,bc,bd,j⟩ ⟨ag,ah,aj,an,ao,ad,aq,aB,aC,S0,o,m,hL⟩
  simp only at ag ah aj an ao ad aq aB aC hL ⊢
  subst ag ah aj an ao
  have heq:=hL.eq
  subst heq
  rw [List.length_append,List.length_singleton] at aC
  have kG:af (((S0++[o]).length:Int) - 1)=(S0.length:Int):=by rw [List.length_append,List.length_singleton,a8 (by omega) (by omega)];omega
  have hS:(S0++[o]).length=S0.length+1:=by simp
  simp only [kG,Int.toNat_natCast,rH,Ea]
  refine aQ (by rw [hS];omega) (aU rfl ?_)
  refine bp (Q:=fun z=>z.2.1=p.Rows∧z.2.2.1=p.Doc∧z.2.2.2.2.2.1=p.aw∧z.2.2.2.2.2.2=p.Read∧z.1.L=p.R.L∧(PD n (⟨z.1,z.2.1,z.2.2.1,z.2.2.2.1,z.2.2.2.2.1,z.2.2.2.2.2.1,z.2.2.2.2.2.2⟩:Pp) j.To d∧(z.1.T.ak.length:Int)≤4 * j.To+3)∧∃ (k:Nat) (o:Oo),z.2.2.2.2.1[k]?=some o∧k+1=z.2.2.2.2.1.length∧o.Has=false) ?_ ?_
  ·have fin:∀ (J:Rr) (c:Nat) (root:Bool) (s:Int),Rd n J j.To→To ae J m s 0→Sp J.T.ak c→m<c→s≤2 * (j.To - j.ai) - 1∨((ae.T.ak.length:Int)≤p.R.T.ak.length∧s≤2 * (j.To - j.ai))∨s≤1→PD n (⟨J,p.Rows,p.Doc,root,S0++[(⟨o.Node,o.Kind,o.aE,(c:Int),false⟩:Oo)],p.aw,p.Read⟩:Pp) j.To d∧(J.T.ak.length:Int)≤4 * j.To+3:=by
    intro J c root s U aa aM aG aO
    have t1:=aa.sz
    have t2:=aa.dl
    rw [aq] at t2
    refine ⟨⟨U,by show RO J.L p.Rows;rw [aa.l,ad];exact h.ro,eU,?_,h.doc,aa.sp d (by have:=hL.dm;omega) hL.sd,?_,?_,?_⟩,by omega⟩
    ·show ((S0++[_]).length:Int)≤_
     rw [List.length_append,List.length_singleton];omega
    ·exact So.push (hL.so.to (So.up (d:=d) (N:=ae.T.ak) hL.has) aa.sp) (fun i x hx=>(hL.has i x hx).1) hL.nd hL.dm (aa.sp m (Nat.le_refl _) hL.sm) (fun i x hx=>(hL.has i x hx).2) (fun _=>⟨rfl,aG,aM⟩)
    ·show (J.T.ak.length:Int)≤4 * j.To+5;omega
    ·show (J.D.length:Int)≤4 * j.To+4;omega
   refine ax (fun hd=>?_) (fun hd=>?_)
   ·obtain ⟨aI,a1,ar,I,au,aF,bf,_⟩:=iG F hF hL.rd (by omega) hL.sm (kind:=4) (aH:=j.ai) (to:=j.To) (by omega) (by omega) ht (Int.le_refl _) hL.en
    refine aU rfl ?_
    rw [hL.nd]
    refine aU a1 (aU rfl (wpS ⟨rfl,rfl,rfl,rfl,I.l.trans ad,?_,S0.length,_,rH _ _,by simp,rfl⟩))
    have:=fin aI ae.T.ak.length aL 1 ar I au (hL.sm.lt hL.rd.g) (.inr (.inr (Int.le_refl _)))
    rw [hL.nd] at this
    exact this
   ·obtain ⟨aI,a1,ar,I,au,aF⟩:=vo F hF hL.rd (by omega) hL.sm (aH:=j.ai) (to:=j.To) (by omega) (by omega) ht (Int.le_refl _) hL.en
    refine aU rfl ?_
    rw [hL.nd]
    refine aU a1 (aU rfl (wpS ⟨rfl,rfl,rfl,rfl,I.l.trans ad,?_,S0.length,_,rH _ _,by simp,rfl⟩))
    have t:To ae aI m (if j.To - j.ai<2 then 1 else 2) 0:=by
     refine ⟨I.l,I.e,?_,I.ge,I.dl,I.sp⟩
     have:=I.sz
     split
     ·rename_i z;have:=aF z;omega
     ·omega
    have:=fin aI ae.T.ak.length aL _ ar t au (hL.sm.lt hL.rd.g) (by split<;>omega)
    rw [hL.nd] at this
    exact this
  ·rintro ⟨J,bz,bA,bB,bC,bD,bE⟩ ⟨U,aa,aM,aG,aO,aV,aW⟩
   simp only at U aa aM aG aO aV aW ⊢
   exact wpS ⟨U,aO,aG, .inr ⟨rfl,aV,aW⟩⟩
end Go.Proofs.Ytcilejikekccmaa.M
namespace Go.Proofs.Ytcilejikekccmaa.M
open Go Am Sy
abbrev Cu:=Rr×(List an)×Int×Bool×(List Oo)×Int×Int×an×Int
def Cu.p (z:Cu):Pp:=⟨z.1,z.2.1,z.2.2.1,z.2.2.2.1,z.2.2.2.2.1,z.2.2.2.2.2.1,z.2.2.2.2.2.2.1⟩
def tq (S:List Oo):Prop:=∃ (k:Nat) (o:Oo),S[k]?=some o∧k+1=S.length∧o.Has=false
theorem body_l0_wp (F:Nat) (hF:2500≤F) {n:Int} {p a0:Pp} {d:Nat} {r:an} {b rest:Int} {es:List a4} (hn:n≤450) (Fo:rest≤r.To) (aj:b≤r.To) (nG:r.To≤n) (kz:p.Read=r.To)
  (hb:∀ (i:Int) (t:al),b≤i→i<r.To→p.R.L[i.toNat]?=some t→cn t.Kind=false):
  ∀ (m:Nat) (R:Rr) (Doc:Int) (aA:Bool) (S:List Oo) (c5:Int) (q:Int) (u:Nat) (i:Nat),es.length+1 - i<m→i≤es.length→es.length≤1000→0≤q→R.L=p.R.L→PD n (⟨R,p.Rows,Doc,aA,S,c5,r.To⟩:Pp) q d→Ec p.R.L q (es.drop i) rest→Sp R.T.ak u→d≤u→Up S u→(i≠0→tq S∧(R.T.ak.length:Int)≤4 * q+3)→
  Wp (lI F a0 r m R p.Rows Doc aA S c5 r.To r b es rest (u:Int) (i:Int)) (fun s=>match s with
   | .inl z=>z.2.1=p.Rows∧z.2.2.2.2.2.2.1=r.To∧z.2.2.2.2.2.2.2.1=r∧z.2.2.2.2.2.2.2.2=rest∧z.1.L=p.R.L∧∃ q',0≤q'∧q'≤rest∧PD n (Cu.p z) q' d∧(es≠[]→tq z.2.2.2.2.1∧(z.1.T.ak.length:Int)≤4 * q'+3)
   | .inr p'=>Nx n p p'):=by
 intro m
 induction m with
 | zero=>intro R Doc aA S c5 q u i h1;omega
 | succ m ih=>
  intro R Doc aA S c5 q u i h1 h2 Er U hl h kB hs nR hu av
  rw [lI]
  refine ax (fun c=>?_) (fun c=>?_)
  ·have hi:i<es.length:=by omega
   have hg:=List.getElem?_eq_getElem hi
   have rN:es.drop i=es[i]::es.drop (i+1):=List.drop_eq_getElem_cons hi
   rw [rN] at kB
   obtain ⟨ad,ao,aq,ae⟩:=kB
   have Fu:=ae.le
   refine aQ (by omega) ?_
   simp only [Int.toNat_natCast,hg]
   refine aU rfl ?_
   refine bp (CM F hF h U ad ao (by omega)) ?_
   rintro ⟨code,p'⟩ ⟨aa,ag,ab,j⟩
   simp only at aa ag ab j ⊢
   rcases j with ⟨j,rfl⟩ | ⟨rfl,⟨j,AF⟩,k,o,J,ar,ah⟩
   ·refine aQ j (aQ (by omega) (aU rfl ?_))
    have vn:es[i].ai<b:=by
     by_cases z:es[i].ai<b
     ·exact z
     ·obtain ⟨t,t1,t2⟩:=aq
      rw [hb _ t (by omega) (by omega) t1] at t2;cases t2
    obtain ⟨re,e1,I,au,aC⟩:=rr F hF h U hs nR hu (aH:=es[i].ai) (to:=b) (code:=code) ad vn (by omega)
    refine aU e1 (wpS ⟨⟨I.rd.mono aj,I.ro,I.dep, .inr ⟨d,I.doc,I.ds,I.si,I.sl⟩,?_,?_⟩,?_,?_,rfl,au.trans hl⟩)
    ·show (re.T.ak.length:Int)≤4 * r.To+4;omega
    ·have:=I.dl
     simp only at this
     show (re.D.length:Int)≤4 * r.To+4;omega
    ·show 0≤r.To;omega
    ·show r.To≤n;omega
   ·refine eH (by omega) ?_
    have eU:=j.dep
    have gu:=j.sl
    have kG:af ((p'.S.length:Int) - 1)=(k:Int):=by rw [a8 (by omega) (by omega)];omega
    have kK:af ((i:Int)+1)=((i+1:Nat):Int):=by rw [a8 (by omega) (by omega)];omega
    have hk:=gL J
    simp only [kG,kK,Int.toNat_natCast,J]
    refine aQ (by omega) (aU rfl ?_)
    obtain ⟨_,cu,c1,c2,ay,az,aB⟩:=j.si.open_ J ah
    rw [c1,aa,ab]
    refine ih p'.R p'.Doc p'.aA p'.S p'.aw es[i].To cu (i+1) (by omega) (by omega) Er (by omega) (ag.trans hl) ?_ ae ay az aB (fun _=>⟨⟨k,o,J,ar,ah⟩,AF⟩)
    have e:(⟨p'.R,p.Rows,p'.Doc,p'.aA,p'.S,p'.aw,r.To⟩:Pp)=p':=by
     rw [show p.Rows=p'.Rows from aa.symm,show r.To=p'.Read from ab.symm]
    rw [e];exact j
  ·have hi:i=es.length:=by omega
   refine wpS ⟨rfl,rfl,rfl,rfl,hl,q,U,?_,h,fun bU=>av ?_⟩
   ·rw [hi,List.drop_length] at kB;exact kB
   ·have:es.length≠0:=fun z=>bU (List.eq_nil_of_length_eq_zero z)
    omega
theorem Nx.of {n:Int} {p j p':Pp} (h:Nx n j p') (h1:j.Rows=p.Rows) (h2:j.R.L=p.R.L):Nx n p p':=⟨h.pi,h.r0,h.r1,h.rows.trans h1,h.l.trans h2⟩
theorem AZ (F:Nat) (hF:2500≤F) {n:Int} {p:Pp} {q:Int} (h:PI n p q) (h0:0≤q) {r:an} (hk:r.Kind=5) (hq:q≤r.ai) (hr:r.ai<r.To) (ao:r.To≤n) (hc:∃ (i:Int) (t:al),r.ai≤i∧i<r.To∧p.R.L[i.toNat]?=some t∧cn t.Kind=true) (kz:p.Read=r.To):Wp (nQ F p r) (Nx n p):=by
 have hn:=h.rd.nl
 have dg:=h.rd.ri.n
 obtain ⟨a,b,a1,aq,a6,ay,aC,aD⟩:=kN F hF p dg r.ai r.To (by omega) (by omega) (by omega)
 have e6:=aq.in hc
 have dY:=aC e6
 have a7:=aq.1
 obtain ⟨j,d,aE,ar,ad,ah,J⟩:=ub F hF h h0 (a:=a) (by omega) (by omega)
 obtain ⟨es,rest,e1,first,az,aB,aF⟩:=E5 F hF j.R.L (by rw [J];exact dg) r hk ⟨by omega,hr,by rw [J];omega⟩
 have zl:first=a:=by rw [J] at az;exact az.eq aq
 subst zl
 unfold nQ
 refine aU a1 (aU aE (aU e1 ?_))
 refine ax (fun c=>?_) (fun c=>?_)
 ·have:=DU F hF (r:=r) ar (by omega) dY (by rw [ad,kz];exact ay) (by rw [ad,kz];exact ao)
  exact bp this fun p' eM=>wpS (eM.of ah J)
 ·have bU:es≠[]:=fun z=>c (by rw [z];rfl)
  have kB:Ec j.R.L first es rest:=by rcases aF with z | z;exact absurd z bU;exact z
  have hlen:=kB.le
  obtain ⟨u,aG,aH,aI,aJ⟩:=rL F ar
  refine aU aG ?_
  have Dz:=body_l0_wp F hF (n:=n) (p:=j) (a0:=p) (d:=d) (r:=r) (b:=b) (rest:=rest) (es:=es) (by omega) aB ay ao (by rw [ad,kz]) (fun i t aK aL aM=>aD i t aK aL (by rw [← J];exact aM)) F j.R j.Doc j.aA j.S j.aw first u 0 (by omega) (by omega) (by omega) (by omega) rfl (by
   have e:(⟨j.R,j.Rows,j.Doc,j.aA,j.S,j.aw,r.To⟩:Pp)=j:=by rw [show r.To=j.Read from by rw [ad,kz]]
   rw [e];exact ar) kB aH aI aJ (fun z=>absurd rfl z)
  rw [show j.Read=r.To from by rw [ad,kz]]
  refine bp Dz ?_
  rintro (⟨ae,a9,aO,aP,au,aR,ba,U,aS⟩ | p') hs
  case inr=>exact wpS (hs.of ah J)
  simp only [Cu.p] at hs ⊢
  obtain ⟨aV,aW,aX,aY,aj,q',aZ,bc,I,a2⟩:=hs
  subst aV aW aX aY
  obtain ⟨⟨k,o,ag,a3,a4⟩,bd⟩:=a2 bU
  have eU:=I.dep
  have gu:=I.sl
  simp only at eU gu
  obtain ⟨x,y,c1,c2,bf,bg,bh,_⟩:=kN F hF (⟨ae,j.Rows,aO,aP,au,aR,U.To⟩:Pp) (by show ae.L.length≤450;rw [aj,J];exact dg) aS U.To (by omega) aB (by show _≤(ae.L.length:Int);rw [aj,J];omega)
  refine aU c1 ?_
  have hx:=c2.1
  have hk:=gL ag
  have kG:af ((au.length:Int) - 1)=(k:Int):=by rw [a8 (by omega) (by omega)];omega
  refine ax (fun l3=>?_) (fun l3=>?_)
  ·obtain ⟨_,cu,d1,d2,d3,d4,d5⟩:=I.si.open_ ag a4
   obtain ⟨bb,aa,v1,v2,bj,v4,ab,v6,a5,bk,bl⟩:=pI F hF I aZ d3 d4 d5 (at_:=x) (by omega) (by omega)
   simp only [kG,Int.toNat_natCast,ag]
   refine aQ (by omega) (aU rfl ?_)
   rw [d1]
   refine aU v1 ?_
   have av:=v2.s
   simp only at av
   rw [av,ag]
   refine aQ (by omega) (aU rfl (wpS ⟨⟨ab.rd,ab.ro,ab.dep, .inr ⟨d,ab.doc,ab.ds,?_,?_⟩,?_,?_⟩,?_,v4,v2.rows.trans ah,(v6.trans aj).trans J⟩))
   ·have h2:=ab.si
    rw [av] at h2
    exact h2.last ag a3 rfl (fun _=>⟨cu,d1,d2,a5 cu (Nat.le_refl _) d3⟩)
   ·show ((au.set _ _).length:Int)≤aa.aw
    rw [List.length_set,v2.dep];exact gu
   ·show (aa.R.T.ak.length:Int)≤4 * aa.Read+4;omega
   ·show (aa.R.D.length:Int)≤4 * aa.Read+4;omega
   ·show 0≤aa.Read;omega
  ·have hd:=I.dl
   simp only at hd
   refine wpS ⟨⟨I.rd.mono (by show q'≤U.To;omega),I.ro,I.dep, .inr ⟨d,I.doc,I.ds,I.si,I.sl⟩,?_,?_⟩,?_,ao,ah,aj.trans J⟩
   ·show (ae.T.ak.length:Int)≤4 * U.To+4;omega
   ·show (ae.D.length:Int)≤4 * U.To+4;omega
   ·show 0≤U.To;omega
theorem yp (F:Nat) (hF:2500≤F) {n:Int} {p:Pp} {q:Int} (h:PI n p q) (h0:0≤q) {r:an} (hm:r∈p.Rows) (hq:q≤r.ai):Wp (ml F p r) (Nx n p):=by
 have hn:=h.rd.nl
 have dg:=h.rd.ri.n
 obtain ⟨aI,ab,ar⟩:=h.ro.gh r hm
 have fU:=h.ro.jo r hm
 have hp:PI n (⟨p.R,p.Rows,p.Doc,p.aA,p.S,p.aw,r.To⟩:Pp) q:=⟨h.rd,h.ro,h.dep,h.doc,h.sz,h.dl⟩
 unfold ml
 refine ax (fun ad=>?_) (fun ad=>?_)
 ·exact bp (Bb F hF hp h0 hq ab (by omega) (fU (.inl ad)) rfl) fun p' eM=>wpS (eM.of rfl rfl)
 refine ax (fun U=>?_) (fun U=>?_)
 ·exact bp (AZ F hF hp h0 U hq ab (by omega) (fU (.inr U)) rfl) fun p' eM=>wpS (eM.of rfl rfl)
 refine bp (Q:=fun z=>z.1=p.Rows∧z.2.1=p.Doc∧z.2.2.1=p.aA∧z.2.2.2.1=p.S∧z.2.2.2.2.1=p.aw∧z.2.2.2.2.2.1=r.To∧z.2.2.2.2.2.2.1=r) (ax (fun _=>wpS ⟨rfl,rfl,rfl,rfl,rfl,rfl,rfl⟩) (fun _=>ax (fun _=>wpS ⟨rfl,rfl,rfl,rfl,rfl,rfl,rfl⟩) (fun _=>wpS ⟨rfl,rfl,rfl,rfl,rfl,rfl,rfl⟩))) ?_
 rintro ⟨aJ,aK,aL,aM,aO,aP,j,aa⟩ ⟨ae,af,ag,ah,aj,ao,aq⟩
 simp only at ae af ag ah aj ao aq ⊢
 subst ae af ag ah aj ao aq
 have stay:Nx n p (⟨p.R,p.Rows,p.Doc,p.aA,p.S,p.aw,j.To⟩:Pp):=⟨hp.mono (by show q≤j.To;omega),by show 0≤j.To;omega,by show j.To≤n;omega,rfl,rfl⟩
 refine ax (fun _=>?_) (fun _=>wpS stay)
 obtain ⟨a,b,a1,au,aQ,aR,aS,aV⟩:=kN F hF (⟨p.R,p.Rows,p.Doc,p.aA,p.S,p.aw,j.To⟩:Pp) dg j.ai j.To (by omega) (by omega) ar
 have ha:=au.1
 refine aU a1 (ax (fun dY=>?_) (fun _=>wpS stay))
 obtain ⟨J,d,av,aa,ay,az,aB⟩:=ub F hF hp h0 (a:=a) (by omega) (by omega)
 obtain ⟨u,aC,aD,aE,aF⟩:=rL F aa
 obtain ⟨re,e1,I,aG,aW⟩:=rr F hF aa (by omega) aD aE aF (aH:=a) (to:=b) (code:=8) (Int.le_refl _) dY (by omega)
 have hd:=I.dl
 simp only at hd
 have kc:J.Read=j.To:=ay
 refine aU av (aU aC (aU e1 (wpS ⟨⟨I.rd.mono (by show b≤J.Read;omega),I.ro,I.dep, .inr ⟨d,I.doc,I.ds,I.si,I.sl⟩,?_,?_⟩,?_,?_,az,aG.trans aB⟩)))
 ·show (re.T.ak.length:Int)≤4 * J.Read+4;omega
 ·show (re.D.length:Int)≤4 * J.Read+4;omega
 ·show 0≤J.Read;omega
 ·show J.Read≤n;omega
theorem xQ (F:Nat) (hF:2500≤F) (B:List UInt8) (depth:Int) {n:Int} {L:List al} {rs:List an}:
  ∀ (m:Nat) (p:Pp) (i:Nat),rs.length+1 - i<m→i≤rs.length→p.Rows=rs→p.R.L=L→PI n p p.Read→0≤p.Read→p.Read≤n→
  Wp (correctorref12_Tree_l0 F B depth m L rs p.R p.Doc p.aA p.S p.aw p.Read (i:Int)) (fun z=>z.1=L∧z.2.1=rs∧z.2.2.1.L=L∧G z.2.2.1.T.ak n∧(z.2.2.1.D.length:Int)≤4 * n+4∧(z.2.2.1.T.ak.length:Int)≤4 * n+4):=by
 intro m
 induction m with
 | zero=>intro p i h1;omega
 | succ m ih=>
  intro p i h1 h2 j I h h0 hn
  have hlen:=h.ro.len
  rw [j] at hlen
  rw [correctorref12_Tree_l0]
  refine ax (fun c=>?_) (fun c=>?_)
  ·have hi:i<rs.length:=by omega
   have hg:=List.getElem?_eq_getElem hi
   have kK:af ((i:Int)+1)=((i+1:Nat):Int):=by rw [a8 (by omega) (by omega)];omega
   have hb:0≤(i:Int)∧(i:Int)<(rs.length:Int):=by omega
   simp only [if_pos hb,Int.toNat_natCast,hg,kK]
   refine az (aU rfl ?_)
   refine ax (fun hf=>?_) (fun hf=>?_)
   ·refine aU rfl ?_
    have e:(⟨p.R,rs,p.Doc,p.aA,p.S,p.aw,p.Read⟩:Pp)=p:=by rw [← j]
    rw [e]
    refine bp (yp F hF h h0 (by rw [j];exact List.getElem_mem hi) hf) ?_
    intro p' eM
    refine wpS ?_
    simp only
    rw [eM.rows,j]
    exact ih p' (i+1) (by omega) (by omega) (eM.rows.trans j) (eM.l.trans I) eM.pi eM.r0 eM.r1
   ·refine wpS ?_
    simp only
    exact ih p (i+1) (by omega) (by omega) j I h h0 hn
  ·have:=h.dl
   have:=h.sz
   exact wpS ⟨rfl,rfl,I,h.rd.g,by show (p.R.D.length:Int)≤_;omega,by show (p.R.T.ak.length:Int)≤_;omega⟩
end Go.Proofs.Ytcilejikekccmaa.M
namespace Go.Proofs.Ytcilejikekccmaa.M
open Go Am Sy
theorem ku (F:Nat) (c:Int):Wp (gy F c) (fun _=>True):=by
 unfold gy;(repeat' (first | with_reducible refine az ?_ | (with_reducible refine ax ?_ ?_<;>intro _) | (with_reducible refine a7 (by assumption) ?_;intro _ _) | with_reducible refine wpS ?_ | (with_reducible refine bZ ?_;omega) | dsimp only))<;>trivial
theorem rA (F:Nat) (c:Int):Wp (kW F c) (fun _=>True):=by
 unfold kW;(repeat' (first | with_reducible refine az ?_ | (with_reducible refine ax ?_ ?_<;>intro _) | (with_reducible refine a7 (by assumption) ?_;intro _ _) | with_reducible refine wpS ?_ | (with_reducible refine bZ ?_;omega) | dsimp only))<;>trivial
theorem v3 (F:Nat) (c:Int):Wp (mH F c) (fun _=>True):=by
 unfold mH;(repeat' (first | with_reducible refine az ?_ | (with_reducible refine ax ?_ ?_<;>intro _) | (with_reducible refine a7 (by assumption) ?_;intro _ _) | with_reducible refine wpS ?_ | (with_reducible refine bZ ?_;omega) | dsimp only))<;>trivial
theorem k5 (F:Nat) (B:List UInt8) (i:Int) (h:0≤i) (hn:B.length≤20000):Wp (correctorref2_Break F B i) (fun r=>0≤r∧(0<r→i+r≤B.length)):=by
 unfold correctorref2_Break
 refine ax ?_ ?_<;>intro _
 ·exact wpS (by omega)
 ·have e:af (i+1)=i+1:=a8 (by omega) (by omega)
  simp only [e]
  (repeat' (first | with_reducible refine az ?_ | (with_reducible refine ax ?_ ?_<;>intro _) | (with_reducible refine a7 (by assumption) ?_;intro _ _) | with_reducible refine wpS ?_ | (with_reducible refine bZ ?_;omega) | dsimp only))<;>omega
theorem q7 (F:Nat) (s:aF) (i:Int) (h:0≤i) (hn:s.B.length≤20000):Wp (jR F s i) (fun _=>True):=by
 unfold jR
 refine ax ?_ ?_<;>intro hi
 ·exact wpS trivial
 ·(repeat' (first | with_reducible refine az ?_ | (with_reducible refine ax ?_ ?_<;>intro _) | (with_reducible refine a7 (by assumption) ?_;intro _ _) | with_reducible refine wpS ?_ | (with_reducible refine bZ ?_;omega) | dsimp only))
  refine (ku _ _).mono ?_
  intro r _
  (repeat' (first | with_reducible refine az ?_ | (with_reducible refine ax ?_ ?_<;>intro _) | (with_reducible refine a7 (by assumption) ?_;intro _ _) | with_reducible refine wpS ?_ | (with_reducible refine bZ ?_;omega) | dsimp only))
  refine (k5 _ _ _ h hn).mono ?_
  intro r _
  (repeat' (first | with_reducible refine az ?_ | (with_reducible refine ax ?_ ?_<;>intro _) | (with_reducible refine a7 (by assumption) ?_;intro _ _) | with_reducible refine wpS ?_ | (with_reducible refine bZ ?_;omega) | dsimp only))<;>trivial
theorem nu (F:Nat) (s:aF) (i:Int):Wp (h5 F s i) (fun r=>r≠0→i<s.B.length):=by
 unfold h5
 (repeat' (first | with_reducible refine az ?_ | (with_reducible refine ax ?_ ?_<;>intro _) | (with_reducible refine a7 (by assumption) ?_;intro _ _) | with_reducible refine wpS ?_ | (with_reducible refine bZ ?_;omega) | dsimp only))<;>omega
theorem uR (F:Nat) (s:aF) (i:Int) (h:0≤i∧i≤s.B.length) (hn:s.B.length≤20000):
  Wp (lg F s i) (fun r=>r=0∨(r=20∨r=21)∧i+3≤s.B.length):=by
 unfold lg
 have e1:af (i+1)=i+1:=a8 (by omega) (by omega)
 have j:af (i+2)=i+2:=a8 (by omega) (by omega)
 have I:af (i+3)=i+3:=a8 (by omega) (by omega)
 simp only [e1,j,I]
 refine az ((nu F s i).mono ?_)
 intro r _
 (repeat' (first | with_reducible refine az ?_ | (with_reducible refine ax ?_ ?_<;>intro _) | (with_reducible refine a7 (by assumption) ?_;intro _ _) | with_reducible refine wpS ?_ | (with_reducible refine bZ ?_;omega) | dsimp only))
 ·omega
 ·refine (q7 _ _ _ (by omega) hn).mono ?_
  intro r _
  (repeat' (first | with_reducible refine az ?_ | (with_reducible refine ax ?_ ?_<;>intro _) | (with_reducible refine a7 (by assumption) ?_;intro _ _) | with_reducible refine wpS ?_ | (with_reducible refine bZ ?_;omega) | dsimp only))<;>omega
 all_goals omega
def jo (k:Int):Bool:=!(k == 1 || k == 2 || k == 3 || k == 4)
theorem vh (F:Nat) (k:Int):fA F k=some (jo k):=by
 unfold fA jo
 repeat' split
 all_goals simp_all
theorem z8 (F:Nat) (s:aF) (k to:Int) (hl:s.L.length≤20000):
  Wp (cX F s k to) (fun r=>r.B=s.B∧r.At=to∧r.Row=s.Row∧r.Open=s.Open∧r.L=s.L++[⟨k,s.At,to⟩]):=by
 unfold cX
 rw [vh]
 refine az (az ?_)
 refine Wp.mono (P:=fun _=>True) ?_ ?_
 ·(repeat' (first | with_reducible refine az ?_ | (with_reducible refine ax ?_ ?_<;>intro _) | (with_reducible refine a7 (by assumption) ?_;intro _ _) | with_reducible refine wpS ?_ | (with_reducible refine bZ ?_;omega) | dsimp only))<;>trivial
 intro c _
 have e:s.L.length+[(⟨k,s.At,to⟩:al)].length≤5864062014805:=by simp;omega
 (repeat' (first | with_reducible refine az ?_ | (with_reducible refine ax ?_ ?_<;>intro _) | (with_reducible refine a7 (by assumption) ?_;intro _ _) | with_reducible refine wpS ?_ | (with_reducible refine bZ ?_;omega) | dsimp only))
 all_goals first | exact ⟨rfl,rfl,rfl,rfl,rfl⟩ | (exfalso;simp_all;done) | (exfalso;simp_all;omega)
theorem pX (F:Nat) (s:aF) (i:Int) (h:0≤i∧i≤s.B.length) (hn:s.B.length≤20000) (hF:s.B.length<F):
  Wp (fS F s i) (fun r=>i≤r∧r≤s.B.length∧(r=s.B.length∨Wp (correctorref2_Break F s.B r) (fun b=>0<b))):=by
 have key:∀ (m:Nat) (x:Int),i≤x→x≤s.B.length→s.B.length - x<m→Wp (correctorref6_scanner_rowEnd_l0 F s i m x)
   (fun r=>i≤r∧r≤s.B.length∧(r=s.B.length∨Wp (correctorref2_Break F s.B r) (fun b=>0<b))):=by
  intro m
  induction m with
  | zero=>intro x h1 h2 j;omega
  | succ m ih=>
   intro x h1 h2 j
   rw [correctorref6_scanner_rowEnd_l0]
   refine ax ?_ ?_<;>intro hx
   ·refine az ?_
    obtain ⟨b,hb,I,J⟩:=k5 F s.B x (by omega) hn
    refine ⟨b,hb,?_⟩
    refine ax ?_ ?_<;>intro hz
    ·rw [a8 (by omega) (by omega)]
     exact ih _ (by omega) (by omega) (by omega)
    ·exact wpS ⟨h1,h2, .inr ⟨b,hb,by omega⟩⟩
   ·exact wpS ⟨h1,h2, .inl (by omega)⟩
 unfold fS
 refine az ((key F i (by omega) (by omega) (by omega)).mono ?_)
 intro a ha
 exact wpS ha
end Go.Proofs.Ytcilejikekccmaa.M
namespace Go.Proofs.Ytcilejikekccmaa.M
open Go Am Sy
theorem tM (F:Nat) (s:aF) (i:Int) (t:Bool) (h:0≤i∧i≤s.B.length) (hn:s.B.length≤20000) (hF:s.B.length<F):
  Wp (mc F s i t) (fun r=>i≤r∧r≤s.B.length):=by
 have key:∀ (m:Nat) (x:Int),i≤x→x≤s.B.length→s.B.length - x<m→Wp (j0 F s i t m x)
   (fun r=>i≤r∧r≤s.B.length):=by
  intro m
  induction m with
  | zero=>intro x h1 h2 j;omega
  | succ m ih=>
   intro x h1 h2 j
   have e:x<s.B.length→af (x+1)=x+1:=fun _=>a8 (by omega) (by omega)
   have st:x<s.B.length→Wp (j0 F s i t m (af (x+1))) (fun r=>i≤r∧r≤s.B.length):=by
    intro hx;rw [e hx];exact ih _ (by omega) (by omega) (by omega)
   rw [j0]
   refine az ?_
   refine ax ?_ ?_<;>intro hx
   ·have st:=st hx
    (repeat' (first | with_reducible refine az ?_ | (with_reducible refine ax ?_ ?_<;>intro _) | (with_reducible refine a7 (by assumption) ?_;intro _ _) | with_reducible refine wpS ?_ | (with_reducible refine bZ ?_;omega) | dsimp only))
    refine (v3 _ _).mono ?_
    intro r _
    (repeat' (first | with_reducible refine az ?_ | (with_reducible refine ax ?_ ?_<;>intro _) | (with_reducible refine a7 (by assumption) ?_;intro _ _) | with_reducible refine wpS ?_ | (with_reducible refine bZ ?_;omega) | dsimp only))
    all_goals first | exact st | omega
   ·exact wpS (wpS ⟨h1,h2⟩)
 unfold mc
 refine az ((key F i (by omega) (by omega) (by omega)).mono ?_)
 intro a ha
 exact wpS ha
theorem u6 (F:Nat) (s:aF) (i:Int) (h:0≤i) (hn:s.B.length≤20000):Wp (lL F s i) (fun _=>True):=by
 unfold lL
 refine az ((nu F s i).mono ?_)
 intro r _
 refine ax ?_ ?_<;>intro _
 ·refine ax ?_ ?_<;>intro _
  ·rw [a8 (by omega) (by omega)]
   refine az ((q7 _ _ _ (by omega) hn).mono ?_)
   intro r _
   (repeat' (first | with_reducible refine az ?_ | (with_reducible refine ax ?_ ?_<;>intro _) | (with_reducible refine a7 (by assumption) ?_;intro _ _) | with_reducible refine wpS ?_ | (with_reducible refine bZ ?_;omega) | dsimp only))
   refine (nu F s _).mono ?_
   intro r _
   (repeat' (first | with_reducible refine az ?_ | (with_reducible refine ax ?_ ?_<;>intro _) | (with_reducible refine a7 (by assumption) ?_;intro _ _) | with_reducible refine wpS ?_ | (with_reducible refine bZ ?_;omega) | dsimp only))
   refine (rA _ _).mono ?_
   intro r _
   (repeat' (first | with_reducible refine az ?_ | (with_reducible refine ax ?_ ?_<;>intro _) | (with_reducible refine a7 (by assumption) ?_;intro _ _) | with_reducible refine wpS ?_ | (with_reducible refine bZ ?_;omega) | dsimp only))
  ·exact wpS trivial
 ·exact wpS trivial
theorem zx (F:Nat) (s:aF) (i e:Int) (h:0≤i∧i≤e∧e≤s.B.length) (hn:s.B.length≤20000) (hF:s.B.length<F):
  Wp (mf F s i e) (fun r=>i≤r∧r≤e):=by
 have key:∀ (m:Nat) (x:Int),i≤x→x≤e→e - x<m→Wp (correctorref6_scanner_single_l0 F s i e m x)
   (fun r=>∀ y,r= .inr y→i≤y∧y≤e):=by
  intro m
  induction m with
  | zero=>intro x h1 h2 j;omega
  | succ m ih=>
   intro x h1 h2 j
   rw [correctorref6_scanner_single_l0]
   refine ax ?_ ?_<;>intro hx
   ·have e1:af (x+1)=x+1:=a8 (by omega) (by omega)
    have I:af (x+2)=x+2:=a8 (by omega) (by omega)
    simp only [e1,I]
    (repeat' (first | with_reducible refine az ?_ | (with_reducible refine ax ?_ ?_<;>intro _) | (with_reducible refine a7 (by assumption) ?_;intro _ _) | with_reducible refine wpS ?_ | (with_reducible refine bZ ?_;omega) | dsimp only))
    ·exact ih _ (by omega) (by omega) (by omega)
    ·intro y hy;cases hy;omega
    ·intro y hy;cases hy;omega
    ·exact ih _ (by omega) (by omega) (by omega)
   ·exact wpS (fun y hy=>by cases hy)
 unfold mf
 refine az ((key F i (by omega) (by omega) (by omega)).mono ?_)
 intro a ha
 rcases a with _ | y
 ·exact wpS ⟨h.2.1,Int.le_refl _⟩
 ·exact wpS (ha y rfl)
theorem AG (F:Nat) (s:aF) (i e:Int) (h:0≤i∧i≤e∧e≤s.B.length) (hn:s.B.length≤20000) (hF:s.B.length+2<F):
  Wp (n2 F s i e) (fun r=>i≤r):=by
 have key:∀ (m:Nat) (x:Int),i≤x→x≤e+1→e+1 - x<m→Wp (lj F s i e m x)
   (fun r=>∀ y,r= .inr y→i≤y):=by
  intro m
  induction m with
  | zero=>intro x h1 h2 j;omega
  | succ m ih=>
   intro x h1 h2 j
   rw [lj]
   refine ax ?_ ?_<;>intro hx
   ·have e1:af (x+1)=x+1:=a8 (by omega) (by omega)
    have I:af (x+1+1)=x+1+1:=a8 (by omega) (by omega)
    (repeat' (first | with_reducible refine az ?_ | (with_reducible refine ax ?_ ?_<;>intro _) | (with_reducible refine a7 (by assumption) ?_;intro _ _) | with_reducible refine wpS ?_ | (with_reducible refine bZ ?_;omega) | dsimp only))
    ·intro y hy;cases hy;omega
    ·rw [e1,I];exact ih _ (by omega) (by omega) (by omega)
    ·rw [e1];exact ih _ (by omega) (by omega) (by omega)
   ·exact wpS (fun y hy=>by cases hy)
 unfold n2
 refine az ((key F i (by omega) (by omega) (by omega)).mono ?_)
 intro a ha
 rcases a with _ | y
 ·exact wpS h.2.1
 ·exact wpS (ha y rfl)
theorem yy (F:Nat) (s:aF) (h:0≤s.At∧s.At<s.B.length) (hn:s.B.length≤20000) (hF:s.B.length+2<F):
  Wp (ik F s) (fun r=>0≤r∧s.At+r≤s.B.length):=by
 have key:∀ (j:Int),s.At≤j→j≤s.B.length→∀ (m:Nat) (x:Int),j≤x→x≤s.B.length→s.B.length - x<m→Wp (gX F s m j x)
   (fun r=>r.1=j∧j≤r.2∧r.2≤s.B.length):=by
  intro j J U m
  induction m with
  | zero=>intro x h1 h2 ad;omega
  | succ m ih=>
   intro x h1 h2 ad
   rw [gX]
   refine ax ?_ ?_<;>intro hx
   ·have e1:af (x+1)=x+1:=a8 (by omega) (by omega)
    rw [e1]
    (repeat' (first | with_reducible refine az ?_ | (with_reducible refine ax ?_ ?_<;>intro _) | (with_reducible refine a7 (by assumption) ?_;intro _ _) | with_reducible refine wpS ?_ | (with_reducible refine bZ ?_;omega) | dsimp only))
    refine (ku _ _).mono ?_
    intro r _
    (repeat' (first | with_reducible refine az ?_ | (with_reducible refine ax ?_ ?_<;>intro _) | (with_reducible refine a7 (by assumption) ?_;intro _ _) | with_reducible refine wpS ?_ | (with_reducible refine bZ ?_;omega) | dsimp only))
    ·exact ih _ (by omega) (by omega) (by omega)
    ·exact ⟨rfl,h1,h2⟩
   ·exact wpS ⟨rfl,h1,h2⟩
 have e1:af (s.At+1)=s.At+1:=a8 (by omega) (by omega)
 have ae:af (s.At+1+1)=s.At+1+1:=a8 (by omega) (by omega)
 have tail:∀ j:Int,s.At≤j→j≤s.B.length→Wp ((gX F s F j j).bind fun o=>match o with
     | (aa,I)=>((if I<(s.B.length:Int) then
       (correctorref2_Break F s.B I).bind fun ag=>
       if ag=(0:Int) then
        if 0≤I∧I<(s.B.length:Int) then
         (s.B[I.toNat]?).bind fun ah=>
         if (ah.toNat:Int)=(35:Int) then
          if aa<I then
           some (.inl ())
          else
           some (.inr 0)
         else
          some (.inr 0)
        else none
       else
        some (.inl ())
      else
       some (.inl ())):Option (Sum Unit Int)).bind fun o=>match o with
      | .inl ()=>some (af (aa - s.At))
      | .inr y=>some y) (fun r=>0≤r∧s.At+r≤s.B.length):=by
  intro j J U
  refine az ((key j J U F j (by omega) (by omega) (by omega)).mono ?_)
  rintro ⟨a,b⟩ ⟨ab,ai,aj⟩
  dsimp only at ab ai aj ⊢
  subst ab
  have ak:af (a - s.At)=a - s.At:=a8 (by omega) (by omega)
  rw [ak]
  refine az ?_
  refine ax ?_ ?_<;>intro hx
  ·refine az ((k5 _ _ _ (by omega) hn).mono ?_)
   intro r _
   (repeat' (first | with_reducible refine az ?_ | (with_reducible refine ax ?_ ?_<;>intro _) | (with_reducible refine a7 (by assumption) ?_;intro _ _) | with_reducible refine wpS ?_ | (with_reducible refine bZ ?_;omega) | dsimp only))<;>omega
  ·exact wpS (wpS (by omega))
 unfold ik
 simp only [e1,ae]
 refine ax ?_ ?_<;>intro hx
 ·refine az (a7 hx ?_)
  intro c hc
  refine az ?_
  refine Wp.mono (P:=fun r=>∀ y,r= .inr y→y=0) ?_ ?_
  ·(repeat' (first | with_reducible refine az ?_ | (with_reducible refine ax ?_ ?_<;>intro _) | (with_reducible refine a7 (by assumption) ?_;intro _ _) | with_reducible refine wpS ?_ | (with_reducible refine bZ ?_;omega) | dsimp only))
   all_goals intro y hy;cases hy
   all_goals rfl
  intro a ha
  rcases a with _ | y
  ·dsimp only
   refine az ?_
   refine Wp.mono (P:=fun r=>s.At≤r∧r≤s.B.length) ?_ ?_
   ·refine az ((nu F s _).mono ?_)
    intro r hr
    (repeat' (first | with_reducible refine az ?_ | (with_reducible refine ax ?_ ?_<;>intro _) | (with_reducible refine a7 (by assumption) ?_;intro _ _) | with_reducible refine wpS ?_ | (with_reducible refine bZ ?_;omega) | dsimp only))
    ·omega
    ·refine (nu F s _).mono ?_
     intro r' n3
     (repeat' (first | with_reducible refine az ?_ | (with_reducible refine ax ?_ ?_<;>intro _) | (with_reducible refine a7 (by assumption) ?_;intro _ _) | with_reducible refine wpS ?_ | (with_reducible refine bZ ?_;omega) | dsimp only))<;>omega
   ·intro j hj
    exact tail j hj.1 hj.2
  ·have:=ha y rfl
   subst this
   exact wpS (by omega)
 ·omega
end Go.Proofs.Ytcilejikekccmaa.M
namespace Go.Proofs.Ytcilejikekccmaa.M
open Go Am Sy
theorem B6 (F:Nat) (b:List UInt8) (n x low:Int) (h:1≤n∧n≤4) (hF:10<F):Wp (jL F b n x low) (fun r=>r.2=1∨(1≤r.2∧r.2≤b.length)):=by
 have key:n≤b.length→∀ (m:Nat) (v i:Int),1≤i→i≤n→n - i<m→Wp (correctorref1_sign_l0 F b n x low m v i)
   (fun r=>∀ y,r= .inr y→y.2=1):=by
  intro hn m
  induction m with
  | zero=>intro v i h1 h2 j;omega
  | succ m ih=>
   intro v i h1 h2 j
   rw [correctorref1_sign_l0]
   refine ax ?_ ?_<;>intro hx
   ·have e1:af (i+1)=i+1:=a8 (by omega) (by omega)
    rw [e1]
    (repeat' (first | with_reducible refine az ?_ | (with_reducible refine ax ?_ ?_<;>intro _) | (with_reducible refine a7 (by assumption) ?_;intro _ _) | with_reducible refine wpS ?_ | (with_reducible refine bZ ?_;omega) | dsimp only))
    ·intro y hy;cases hy;rfl
    ·intro y hy;cases hy;rfl
    ·exact ih _ _ (by omega) (by omega) (by omega)
   ·exact wpS (fun y hy=>by cases hy)
 unfold jL
 refine ax ?_ ?_<;>intro hx
 ·exact wpS (.inl rfl)
 ·refine az ((key (by omega) F x 1 (by omega) (by omega) (by omega)).mono ?_)
  intro a ha
  rcases a with v | y
  ·(repeat' (first | with_reducible refine az ?_ | (with_reducible refine ax ?_ ?_<;>intro _) | (with_reducible refine a7 (by assumption) ?_;intro _ _) | with_reducible refine wpS ?_ | (with_reducible refine bZ ?_;omega) | dsimp only))
   all_goals first | exact .inl rfl | exact .inr ⟨h.1,by omega⟩
  ·exact wpS (.inl (ha y rfl))
theorem pJ (F:Nat) (b:List UInt8) (hb:0<b.length) (hF:10<F):Wp (jr F b) (fun r=>1≤r.2∧r.2≤b.length):=by
 unfold jr
 rw [if_neg (by omega)]
 refine ax ?_ ?_<;>intro h0
 ·refine az (a7 h0 ?_)
  intro c hc
  refine az ?_
  have sg:∀ n x low,1≤n∧n≤4→Wp (jL F b n x low) (fun r=>1≤r.2∧r.2≤b.length):=
   fun n x low h=>(B6 F b n x low h hF).mono (fun r hr=>by omega)
  (repeat' (first | with_reducible refine az ?_ | (with_reducible refine ax ?_ ?_<;>intro _) | (with_reducible refine a7 (by assumption) ?_;intro _ _) | with_reducible refine wpS ?_ | (with_reducible refine bZ ?_;omega) | dsimp only))
  all_goals first
   | omega
   | (exfalso;simp_all;done)
   | (refine (sg 2 _ _ (by omega)).mono ?_;intro r hr;(repeat' (first | with_reducible refine az ?_ | (with_reducible refine ax ?_ ?_<;>intro _) | (with_reducible refine a7 (by assumption) ?_;intro _ _) | with_reducible refine wpS ?_ | (with_reducible refine bZ ?_;omega) | dsimp only));exact hr)
   | (refine (sg 3 _ _ (by omega)).mono ?_;intro r hr;(repeat' (first | with_reducible refine az ?_ | (with_reducible refine ax ?_ ?_<;>intro _) | (with_reducible refine a7 (by assumption) ?_;intro _ _) | with_reducible refine wpS ?_ | (with_reducible refine bZ ?_;omega) | dsimp only));exact hr)
   | (refine (sg 4 _ _ (by omega)).mono ?_;intro r hr;(repeat' (first | with_reducible refine az ?_ | (with_reducible refine ax ?_ ?_<;>intro _) | (with_reducible refine a7 (by assumption) ?_;intro _ _) | with_reducible refine wpS ?_ | (with_reducible refine bZ ?_;omega) | dsimp only));exact hr)
 ·omega
theorem BE (F:Nat) (s:aF) (h:0≤s.At∧s.At<s.B.length) (hn:s.B.length≤20000) (hF:s.B.length+10<F):
  Wp (nW F s) (fun r=>s.At<r∧r≤s.B.length):=by
 have k0:∀ (m:Nat) (x:Int),s.At<x→x≤s.B.length→s.B.length - x<m→Wp (kP F s m x)
   (fun r=>s.At<r∧r≤s.B.length):=by
  intro m
  induction m with
  | zero=>intro x h1 h2 j;omega
  | succ m ih=>
   intro x h1 h2 j
   rw [kP]
   refine ax ?_ ?_<;>intro hx
   ·refine ax ?_ ?_<;>intro hy
    ·have e1:af (x - 1)=x - 1:=a8 (by omega) (by omega)
     rw [e1]
     refine az ((pJ F _ (by simp;omega) (by omega)).mono ?_)
     intro r hr
     have hl:((s.B.take (s.B.length:Int).toNat).drop x.toNat).length=s.B.length - x.toNat:=by simp
     rw [hl] at hr
     have st:Wp (kP F s m (af (x+r.2))) (fun r=>s.At<r∧r≤s.B.length):=by
      rw [a8 (by omega) (by omega)]
      exact ih _ (by omega) (by omega) (by omega)
     refine az ?_
     refine Wp.mono (P:=fun r=>r= .inl ()∨r= .inr x) ?_ ?_
     ·(repeat' (first | with_reducible refine az ?_ | (with_reducible refine ax ?_ ?_<;>intro _) | (with_reducible refine a7 (by assumption) ?_;intro _ _) | with_reducible refine wpS ?_ | (with_reducible refine bZ ?_;omega) | dsimp only))
      ·exact .inr rfl
      ·refine (k5 _ _ _ (by omega) hn).mono ?_
       intro r _
       (repeat' (first | with_reducible refine az ?_ | (with_reducible refine ax ?_ ?_<;>intro _) | (with_reducible refine a7 (by assumption) ?_;intro _ _) | with_reducible refine wpS ?_ | (with_reducible refine bZ ?_;omega) | dsimp only))
       ·exact .inr rfl
       ·refine (u6 _ _ _ (by omega) hn).mono ?_
        intro r _
        (repeat' (first | with_reducible refine az ?_ | (with_reducible refine ax ?_ ?_<;>intro _) | (with_reducible refine a7 (by assumption) ?_;intro _ _) | with_reducible refine wpS ?_ | (with_reducible refine bZ ?_;omega) | dsimp only))
        ·exact .inr rfl
        ·refine (ku _ _).mono ?_
         intro r _
         (repeat' (first | with_reducible refine az ?_ | (with_reducible refine ax ?_ ?_<;>intro _) | (with_reducible refine a7 (by assumption) ?_;intro _ _) | with_reducible refine wpS ?_ | (with_reducible refine bZ ?_;omega) | dsimp only))
         ·exact .inr rfl
         ·refine (rA _ _).mono ?_
          intro r _
          (repeat' (first | with_reducible refine az ?_ | (with_reducible refine ax ?_ ?_<;>intro _) | (with_reducible refine a7 (by assumption) ?_;intro _ _) | with_reducible refine wpS ?_ | (with_reducible refine bZ ?_;omega) | dsimp only))
          ·exact .inr rfl
          ·exact .inl rfl
         ·exact .inl rfl
        ·refine (rA _ _).mono ?_
         intro r _
         (repeat' (first | with_reducible refine az ?_ | (with_reducible refine ax ?_ ?_<;>intro _) | (with_reducible refine a7 (by assumption) ?_;intro _ _) | with_reducible refine wpS ?_ | (with_reducible refine bZ ?_;omega) | dsimp only))
         ·exact .inr rfl
         ·exact .inl rfl
        ·exact .inl rfl
     ·intro a ha
      rcases ha with rfl | rfl
      ·exact st
      ·exact wpS ⟨h1,h2⟩
    ·omega
   ·exact wpS ⟨h1,h2⟩
 have I:∀ (m:Nat) (x:Int),s.At<x→x≤s.B.length→x - s.At<m→Wp (lQ F s m x)
   (fun r=>s.At<r∧r≤s.B.length):=by
  intro m
  induction m with
  | zero=>intro x h1 h2 j;omega
  | succ m ih=>
   intro x h1 h2 j
   rw [lQ]
   have e1:af (x - 1)=x - 1:=a8 (by omega) (by omega)
   have J:af (s.At+1)=s.At+1:=a8 (by omega) (by omega)
   rw [e1,J]
   (repeat' (first | with_reducible refine az ?_ | (with_reducible refine ax ?_ ?_<;>intro _) | (with_reducible refine a7 (by assumption) ?_;intro _ _) | with_reducible refine wpS ?_ | (with_reducible refine bZ ?_;omega) | dsimp only))
   ·refine (ku _ _).mono ?_
    intro r _
    (repeat' (first | with_reducible refine az ?_ | (with_reducible refine ax ?_ ?_<;>intro _) | (with_reducible refine a7 (by assumption) ?_;intro _ _) | with_reducible refine wpS ?_ | (with_reducible refine bZ ?_;omega) | dsimp only))
    ·exact ih _ (by omega) (by omega) (by omega)
    ·exact ⟨h1,h2⟩
   ·exact ⟨h1,h2⟩
 unfold nW
 refine ax ?_ ?_<;>intro hx
 ·refine az ((pJ F _ (by simp;omega) (by omega)).mono ?_)
  intro r hr
  have hl:((s.B.take (s.B.length:Int).toNat).drop s.At.toNat).length=s.B.length - s.At.toNat:=by simp
  rw [hl] at hr
  rw [a8 (by omega) (by omega)]
  refine az ((k0 F _ (by omega) (by omega) (by omega)).mono ?_)
  intro a ha
  refine az ((I F _ ha.1 ha.2 (by omega)).mono ?_)
  intro a ha
  exact wpS ha
 ·omega
def Ends (l:List al):Prop:=l=[]∨∃ p t,l=p++[t]∧(t.Kind=1∨t.Kind=19)
def gJ (l:List al) (k:Int):Prop:=∃ p t,l=p++[t]∧t.Kind=k
inductive Tk (n:Int):List al→Int→Prop
 | nil:Tk n [] 0
 | snoc {l:List al} {mh:Int} (k to:Int):Tk n l mh→mh<to→to≤n→(k=2∨k=20∨k=21→Ends l)→(gJ l 4→k=1)→0<k→Tk n (l++[⟨k,mh,to⟩]) to
theorem Tk.bounds {n:Int} {l:List al} {a:Int} (h:Tk n l a):(l.length:Int)≤a∧(0<a→l≠[]):=by
 induction h with
 | nil=>simp
 | snoc k to h1 h2 j I J U ih=>simp;omega
structure SI (F:Nat) (B:List UInt8) (s:aF):Prop where
 b:s.B=B
 r:0≤s.Row∧s.Row≤s.At∧s.At≤B.length
 o:0≤s.Open∧s.Open≤s.At
 t:Tk B.length s.L s.At
 w:s.At=s.Row→Ends s.L
 c:gJ s.L 4→s.At=B.length∨Wp (correctorref2_Break F B s.At) (fun b=>0<b)
theorem SI.ll {F:Nat} {B:List UInt8} {s:aF} (h:SI F B s) (hn:B.length≤20000):s.L.length≤20000:=by
 have:=h.t.bounds.1;have:=h.r;omega
theorem pU (l:List al) (t:al) (k:Int):gJ (l++[t]) k↔t.Kind=k:=by
 constructor
 ·rintro ⟨p,t',h,h1⟩
  have:=List.append_inj_right' h rfl
  simp at this;subst this;exact h1
 ·intro h;exact ⟨l,t,rfl,h⟩
theorem SI.add {F:Nat} {B:List UInt8} {s r:aF} {k to:Int} (h:SI F B s)
  (hr:r.B=s.B∧r.At=to∧r.Row=s.Row∧r.Open=s.Open∧r.L=s.L++[⟨k,s.At,to⟩])
  (h1:s.At<to) (h2:to≤B.length) (U:k=2∨k=20∨k=21→s.At=s.Row)
  (aa:k≠1→¬ gJ s.L 4)
  (ab:k=4→to=B.length∨Wp (correctorref2_Break F B to) (fun b=>0<b)) (ad:0<k):SI F B r:=by
 obtain ⟨e1,j,I,ae,J⟩:=hr
 have hR:=h.r
 have hO:=h.o
 refine ⟨by rw [e1,h.b],by rw [j,I];omega,by rw [j,ae];omega,?_,by rw [j,I];omega,?_⟩
 ·rw [J,j]
  refine .snoc k to h.t h1 h2 (fun q=>h.w (U q)) ?_ ad
  intro q
  by_cases hk:k=1
  ·exact hk
  ·exact absurd q (aa hk)
 ·rw [J,j,pU]
  exact ab
theorem SI.kS {F:Nat} {B:List UInt8} {s:aF} (h:SI F B s) (h1:s.At<B.length) (h2:Wp (correctorref2_Break F B s.At) (fun b=>b=0)):¬ gJ s.L 4:=by
 intro q
 obtain ⟨b,I,J⟩:=h2
 rcases h.c q with j | ⟨b',j,U⟩
 ·omega
 ·rw [I] at j;injection j;omega
theorem Ends.kS {l:List al} (h:Ends l):¬ gJ l 4:=by
 rcases h with rfl | ⟨p,t,rfl,h⟩
 ·rintro ⟨p,t,h,_⟩;simp at h
 ·rw [pU];omega
theorem SI.re {F:Nat} {B:List UInt8} {s:aF} (h:SI F B s) (o base text:Int) (only:Bool) (ho:0≤o∧o≤s.At):
  SI F B ⟨s.B,s.At,s.Row,o,base,only,text,s.L⟩:=⟨h.b,h.r,ho,h.t,h.w,h.c⟩
theorem SI.row {F:Nat} {B:List UInt8} {s:aF} (h:SI F B s) (he:Ends s.L) (base text:Int) (only:Bool):
  SI F B ⟨s.B,s.At,s.At,s.Open,base,only,text,s.L⟩:=by
 have:=h.r
 exact ⟨h.b,by dsimp only;omega,h.o,h.t,fun _=>he,h.c⟩
theorem jd {F:Nat} {B:List UInt8} {s:aF} (h:SI F B s) (hn:B.length≤20000) (k to:Int)
  (h1:s.At<to) (h2:to≤B.length) (j:k=2∨k=20∨k=21→s.At=s.Row)
  (I:k≠1→¬ gJ s.L 4)
  (J:k=4→to=B.length∨Wp (correctorref2_Break F B to) (fun b=>0<b)) (U:0<k:=by omega):
  Wp (cX F s k to) (fun r=>SI F B r∧r.At=to∧r.Row=s.Row∧r.Open=s.Open∧gJ r.L k):=by
 refine (z8 F s k to (h.ll hn)).mono ?_
 intro r hr
 refine ⟨h.add hr h1 h2 j I J U,hr.2.1,hr.2.2.1,hr.2.2.2.1,?_⟩
 rw [hr.2.2.2.2,pU]
end Go.Proofs.Ytcilejikekccmaa.M
namespace Go.Proofs.Ytcilejikekccmaa.M
open Go Am Sy
theorem sf {l:List al} {k:Int} (h:gJ l k) (hk:k=1∨k=19):Ends l:=by
 obtain ⟨p,t,rfl,h⟩:=h
 exact .inr ⟨p,t,rfl,by omega⟩
theorem Eo (F:Nat) (a s:aF) (e:Int) (hn:s.B.length≤20000) (he:e≤s.B.length):∀ (m:Nat) (x:Int),0≤x→x≤e→e - x<m→
  Wp (correctorref6_scanner_texts_l1 F a m s e x) (fun r=>r.1=s∧r.2.1=e∧x≤r.2.2∧r.2.2≤e):=by
 intro m
 induction m with
 | zero=>intro x h1 h2 j;omega
 | succ m ih=>
  intro x h1 h2 j
  rw [correctorref6_scanner_texts_l1]
  refine ax ?_ ?_<;>intro hx
  ·rw [a8 (by omega) (by omega)]
   (repeat' (first | with_reducible refine az ?_ | (with_reducible refine ax ?_ ?_<;>intro _) | (with_reducible refine a7 (by assumption) ?_;intro _ _) | with_reducible refine wpS ?_ | (with_reducible refine bZ ?_;omega) | dsimp only))
   ·refine (ih _ (by omega) (by omega) (by omega)).mono ?_
    intro r hr;exact ⟨hr.1,hr.2.1,by omega,hr.2.2.2⟩
   ·exact ⟨rfl,rfl,Int.le_refl _,h2⟩
  ·exact wpS ⟨rfl,rfl,Int.le_refl _,h2⟩
theorem BL (F:Nat) (a s:aF) (e j:Int) (hn:s.B.length≤20000) (he:e≤s.B.length):∀ (m:Nat) (x:Int),0≤x→x≤e→e - x<m→
  Wp (correctorref6_scanner_texts_l2 F a m s e j x) (fun r=>r.1=s∧r.2.1=e∧r.2.2.1=j∧x≤r.2.2.2∧r.2.2.2≤e):=by
 intro m
 induction m with
 | zero=>intro x h1 h2 I;omega
 | succ m ih=>
  intro x h1 h2 I
  rw [correctorref6_scanner_texts_l2]
  refine ax ?_ ?_<;>intro hx
  ·rw [a8 (by omega) (by omega)]
   (repeat' (first | with_reducible refine az ?_ | (with_reducible refine ax ?_ ?_<;>intro _) | (with_reducible refine a7 (by assumption) ?_;intro _ _) | with_reducible refine wpS ?_ | (with_reducible refine bZ ?_;omega) | dsimp only))
   refine (ku _ _).mono ?_
   intro r _
   (repeat' (first | with_reducible refine az ?_ | (with_reducible refine ax ?_ ?_<;>intro _) | (with_reducible refine a7 (by assumption) ?_;intro _ _) | with_reducible refine wpS ?_ | (with_reducible refine bZ ?_;omega) | dsimp only))
   ·refine (ih _ (by omega) (by omega) (by omega)).mono ?_
    intro r hr;exact ⟨hr.1,hr.2.1,hr.2.2.1,by omega,hr.2.2.2.2⟩
   ·exact ⟨rfl,rfl,rfl,Int.le_refl _,h2⟩
  ·exact wpS ⟨rfl,rfl,rfl,Int.le_refl _,h2⟩
theorem AV (F:Nat) (B:List UInt8) (a:aF) (h:SI F B a) (he:Ends a.L) (hn:B.length≤20000) (hF:B.length+10<F):
  Wp (nD F a) (fun r=>SI F B r∧a.At≤r.At):=by
 have key:∀ (m:Nat) (s:aF),SI F B s→Ends s.L→a.At≤s.At→B.length - s.At<m→
   Wp (correctorref6_scanner_texts_l0 F a m s) (fun r=>∃ q,(r= .inl q∨r= .inr q)∧SI F B q∧a.At≤q.At):=by
  intro m
  induction m with
  | zero=>intro s h1 h2 I ag;have:=h1.r;omega
  | succ m ih=>
   intro s h1 h2 I ag
   have hb:=h1.b
   have hr:=h1.r
   rw [correctorref6_scanner_texts_l0,hb]
   refine ax ?_ ?_<;>intro hx
   ·refine az ((uR F s s.At (by rw [hb];omega) (by rw [hb];exact hn)).mono ?_)
    intro mk _
    refine ax ?_ ?_<;>intro hm
    ·refine az ((pX F s s.At (by rw [hb];omega) (by rw [hb];exact hn) (by rw [hb];omega)).mono ?_)
     rintro e ⟨e1,ah,j⟩
     rw [hb] at ah j
     refine az ((Eo F a s e (by rw [hb];exact hn) (by rw [hb];omega) F s.At (by omega) (by omega) (by omega)).mono ?_)
     rintro ⟨s1,e',J⟩ ⟨U,aa,ai,aj⟩
     dsimp only at U aa ai aj ⊢
     subst U aa
     refine az ((BL F a s1 e' J (by rw [hb];exact hn) (by rw [hb];omega) F J (by omega) (by omega) (by omega)).mono ?_)
     rintro ⟨s2,oJ,aq,ar⟩ ⟨ab,ad,ae,ak,an⟩
     dsimp only at ab ad ae ak an ⊢
     subst ab ad ae
     refine az ?_
     refine Wp.mono (P:=fun r=>r= .inl s2∨r= .inr s2) ?_ ?_
     ·(repeat' (first | with_reducible refine az ?_ | (with_reducible refine ax ?_ ?_<;>intro _) | (with_reducible refine a7 (by assumption) ?_;intro _ _) | with_reducible refine wpS ?_ | (with_reducible refine bZ ?_;omega) | dsimp only))
      all_goals first | exact .inl rfl | exact .inr rfl
     rintro r (rfl | rfl)
     ·dsimp only
      rw [hb]
      refine az ?_
      obtain ⟨b,gO,au,ao⟩:=k5 F B oJ (by omega) hn
      refine (wpE gO ?_)
      have C3:s2.At<oJ+b:=by
       rcases j with j | ⟨b',j,av⟩
       ·omega
       ·rw [gO] at j;injection j;omega
      have nG:oJ+b≤B.length:=by
       by_cases hz:0<b
       ·exact ao hz
       ·omega
      rw [a8 (by omega) (by omega)]
      refine az ((jd h1 hn 19 (oJ+b) C3 nG (by omega) (fun _=>h2.kS) (by omega)).mono ?_)
      rintro r ⟨r1,aw,ay,aA,af⟩
      refine az (wpS ?_)
      exact ih _ (r1.row (sf af (.inr rfl)) _ _ _) (sf af (.inr rfl)) (by dsimp only;omega) (by dsimp only;omega)
     ·exact wpS ⟨s2, .inr rfl,h1,I⟩
    ·exact wpS ⟨s, .inl rfl,h1,I⟩
   ·exact wpS ⟨s, .inl rfl,h1,I⟩
 unfold nD
 refine az ((key F _ (h.re a.Open a.bY (-2) a.cr h.o) he (Int.le_refl _) (by have:=h.r;dsimp only;omega)).mono ?_)
 rintro r ⟨q,rfl | rfl,h1,h2⟩
 ·exact wpS ⟨h1,h2⟩
 ·exact wpS ⟨h1,h2⟩
theorem Bn (F:Nat) (s:aF) (hn:s.B.length≤20000):∀ (m:Nat) (x:Int),0≤x→x≤s.B.length→s.B.length - x<m→
  Wp (lu F s m x) (fun r=>x≤r∧r≤s.B.length∧(∀ c,s.B[x.toNat]?=some c→(c.toNat:Int)=32→x<r)):=by
 intro m
 induction m with
 | zero=>intro x h1 h2 j;omega
 | succ m ih=>
  intro x h1 h2 j
  rw [lu]
  refine ax ?_ ?_<;>intro hx
  ·rw [a8 (by omega) (by omega)]
   refine ax ?_ ?_<;>intro hy
   ·refine az (a7 hy ?_)
    intro c hc
    refine ax ?_ ?_<;>intro hz
    ·refine (ih _ (by omega) (by omega) (by omega)).mono ?_
     intro r hr
     exact ⟨by omega,hr.2.1,fun _ _ _=>by omega⟩
    ·refine wpS ⟨Int.le_refl _,h2,?_⟩
     intro c' dN h'
     rw [hc] at dN;injection dN with dN;subst dN;exact absurd h' hz
   ·omega
  ·refine wpS ⟨Int.le_refl _,h2,?_⟩
   intro c' dN h'
   have:s.B[x.toNat]?=none:=by simp;omega
   rw [this] at dN;cases dN
theorem zq (F:Nat) (s:aF) (hn:s.B.length≤20000):∀ (m:Nat) (x:Int),0≤x→x≤s.B.length→s.B.length - x<m→
  Wp (lM F s m x) (fun r=>x≤r∧r≤s.B.length∧(∀ c,s.B[x.toNat]?=some c→gy F (c.toNat:Int)=some true→x<r)):=by
 intro m
 induction m with
 | zero=>intro x h1 h2 j;omega
 | succ m ih=>
  intro x h1 h2 j
  rw [lM]
  refine ax ?_ ?_<;>intro hx
  ·rw [a8 (by omega) (by omega)]
   refine ax ?_ ?_<;>intro hy
   ·refine az (a7 hy ?_)
    intro c hc
    obtain ⟨bl,fZ,_⟩:=ku F (c.toNat:Int)
    refine az (wpE fZ ?_)
    refine ax ?_ ?_<;>intro hz
    ·refine (ih _ (by omega) (by omega) (by omega)).mono ?_
     intro r hr
     exact ⟨by omega,hr.2.1,fun _ _ _=>by omega⟩
    ·refine wpS ⟨Int.le_refl _,h2,?_⟩
     intro c' dN h'
     rw [hc] at dN;injection dN with dN;subst dN
     rw [fZ] at h';injection h' with h';exact absurd h' hz
   ·omega
  ·refine wpS ⟨Int.le_refl _,h2,?_⟩
   intro c' dN h'
   have:s.B[x.toNat]?=none:=by simp;omega
   rw [this] at dN;cases dN
theorem A5 (F:Nat) (B:List UInt8) (s:aF) (h:SI F B s) (hx:s.At<B.length) (hn:B.length≤20000) (hF:B.length+10<F):
  Wp (mi F s) (fun r=>(r.1=true∧SI F B r.2∧s.At<r.2.At)∨(r.1=false∧r.2=s∧Wp (correctorref2_Break F B s.At) (fun b=>b=0))):=by
 have hb:=h.b
 have hr:=h.r
 unfold mi
 rw [hb]
 refine ax ?_ ?_<;>intro hy
 ·refine az (a7 hy ?_)
  intro c hc
  obtain ⟨b,gO,aj,ag⟩:=k5 F B s.At (by omega) hn
  refine az (wpE gO ?_)
  refine ax ?_ ?_<;>intro hz
  ·have:=ag hz
   rw [a8 (by omega) (by omega)]
   refine az ((jd h hn 1 (s.At+b) (by omega) (by omega) (by omega) (by omega) (by omega)).mono ?_)
   rintro r ⟨r1,aa,ak,an,ah⟩
   have he:=sf ah (.inl rfl)
   refine az (wpS ?_)
   refine az ?_
   refine Wp.mono (P:=fun q=>SI F B q∧r.At≤q.At) ?_ ?_
   ·refine ax ?_ ?_<;>intro _
    ·refine az ((AV F B _ (r1.row he _ _ _) he hn hF).mono ?_)
     intro q hq;exact wpS hq
    ·exact wpS ⟨r1.row he _ _ _,Int.le_refl _⟩
   ·rintro q ⟨J,U⟩
    exact wpS (.inl ⟨rfl,J,by dsimp only;omega⟩)
  ·have af:Wp (correctorref2_Break F B s.At) (fun b=>b=0):=⟨b,gO,by omega⟩
   have ab:=h.kS hx af
   have zN:Wp ((fS F s s.At).bind fun ad=>(cX F s 4 ad)) (fun r=>SI F B r∧s.At<r.At):=by
    refine az ((pX F s s.At (by rw [hb];omega) (by rw [hb];exact hn) (by rw [hb];omega)).mono ?_)
    rintro e ⟨e1,I,j⟩
    rw [hb] at I j
    have:s.At<e:=by
     rcases j with j | ⟨b',j,ao⟩
     ·omega
     ·by_cases hh:e=s.At
      ·rw [hh,gO] at j;injection j;omega
      ·omega
    refine (jd h hn 4 e this I (by omega) (fun _=>ab) (fun _=>j)).mono ?_
    rintro r ⟨r1,aa,_⟩
    exact ⟨r1,by omega⟩
   refine az ?_
   refine Wp.mono (P:=fun r=>r=true→s.At=s.Row∧(c.toNat:Int)=32) ?_ ?_
   ·(repeat' (first | with_reducible refine az ?_ | (with_reducible refine ax ?_ ?_<;>intro _) | (with_reducible refine a7 (by assumption) ?_;intro _ _) | with_reducible refine wpS ?_ | (with_reducible refine bZ ?_;omega) | dsimp only))
    ·exact fun _=>⟨by assumption,by assumption⟩
    all_goals (intro hh;cases hh)
   intro r uJ
   refine ax ?_ ?_<;>intro hw
   ·obtain ⟨w1,w2⟩:=uJ hw
    have:=Bn F s (by rw [hb];exact hn) F s.At (by omega) (by rw [hb];omega) (by rw [hb];omega)
    rw [hb] at this
    refine az (this.mono ?_)
    rintro e ⟨e1,I,j⟩
    refine az ((jd h hn 2 e (j c hc w2) I (fun _=>w1) (fun _=>ab) (by omega)).mono ?_)
    rintro r ⟨r1,aa,_⟩
    have:=j c hc w2
    exact wpS (.inl ⟨rfl,r1,by dsimp only;omega⟩)
   ·obtain ⟨bl,fZ,_⟩:=ku F (c.toNat:Int)
    refine az (wpE fZ ?_)
    refine ax ?_ ?_<;>intro hv
    ·subst hv
     have:=zq F s (by rw [hb];exact hn) F s.At (by omega) (by rw [hb];omega) (by rw [hb];omega)
     rw [hb] at this
     refine az (this.mono ?_)
     rintro e ⟨e1,I,j⟩
     have:=j c hc fZ
     refine az ((jd h hn 3 e this I (by omega) (fun _=>ab) (by omega)).mono ?_)
     rintro r ⟨r1,aa,_⟩
     exact wpS (.inl ⟨rfl,r1,by dsimp only;omega⟩)
    ·refine az ?_
     refine Wp.mono (P:=fun r=>r= .inl ()∨∃ q,r= .inr (true,q)∧SI F B q∧s.At<q.At) ?_ ?_
     ·obtain ⟨q,hq,J,U⟩:=zN
      have ae:Wp ((fS F s s.At).bind fun ad=>(cX F s 4 ad).bind fun ai=>some ((.inr (true,ai)):Sum Unit (Bool×aF)))
        (fun r=>r= .inl ()∨∃ q,r= .inr (true,q)∧SI F B q∧s.At<q.At):=by
       refine ⟨.inr (true,q),?_, .inr ⟨q,rfl,J,U⟩⟩
       rw [← Option.bind_assoc,hq];rfl
      refine ax ?_ ?_<;>intro aq
      ·refine ax ?_ ?_<;>intro vq
       ·exact ae
       ·have hl:=h.t.bounds.2 (by omega)
        have:0<s.L.length:=List.length_pos_iff.2 hl
        have m4:=h.ll hn
        rw [a8 (by omega) (by omega)]
        refine ax ?_ ?_<;>intro hi
        ·refine az (a7 hi ?_)
         intro t ht
         refine ax ?_ ?_<;>intro hk
         ·exact ae
         ·rw [if_pos hi]
          refine az (a7 hi ?_)
          intro t ht
          refine ax ?_ ?_<;>intro hk
          ·exact ae
          ·exact wpS (.inl rfl)
        ·omega
      ·exact wpS (.inl rfl)
     ·rintro r (rfl | ⟨q,rfl,J,U⟩)
      ·exact wpS (.inr ⟨rfl,rfl,af⟩)
      ·exact wpS (.inl ⟨rfl,J,U⟩)
 ·omega
theorem C6 (F:Nat) (B:List UInt8) (s:aF) (h:SI F B s) (hx:s.At<B.length) (hn:B.length≤20000) (hc:¬ gJ s.L 4):
  Wp (mL F s) (fun r=>(r.1=true∧SI F B r.2∧s.At<r.2.At)∨(r.1=false∧r.2=s)):=by
 have hb:=h.b
 have hr:=h.r
 have ho:=h.o
 unfold mL
 rw [hb]
 have e1:af (s.At+1)=s.At+1:=a8 (by omega) (by omega)
 rw [e1]
 have T:∀ k,0<k∧k≠2∧k≠4∧k≠20∧k≠21→Wp (cX F s k (s.At+1)) (fun r=>SI F B r∧r.At=s.At+1∧r.Row=s.Row∧r.Open=s.Open∧gJ r.L k):=
  fun k hk=>jd h hn k (s.At+1) (by omega) (by omega) (by omega) (fun _=>hc) (by omega)
 refine ax ?_ ?_<;>intro hy
 ·refine az (a7 hy ?_)
  intro c _
  refine az ?_
  refine Wp.mono (P:=fun r=>(∃ q,r= .inl q∧SI F B q∧s.At<q.At)∨r= .inr (false,s)) ?_ ?_
  ·have up:∀ r:aF,SI F B r∧r.At=s.At+1∧r.Row=s.Row∧r.Open=s.Open∧gJ r.L 0→True:=fun _ _=>trivial
   refine ax ?_ ?_<;>intro _
   ·refine az ((T 8 (by omega)).mono ?_)
    rintro r ⟨r1,j,I,J,_⟩
    rw [a8 (by omega) (by omega)]
    exact wpS (.inl ⟨_,rfl,r1.re _ _ _ _ (by omega),by dsimp only;omega⟩)
   refine ax ?_ ?_<;>intro _
   ·refine az ((T 9 (by omega)).mono ?_)
    rintro r ⟨r1,j,I,J,_⟩
    rw [a8 (by omega) (by omega)]
    exact wpS (.inl ⟨_,rfl,r1.re _ _ _ _ (by omega),by dsimp only;omega⟩)
   refine ax ?_ ?_<;>intro _
   ·refine az ((T 10 (by omega)).mono ?_)
    rintro r ⟨r1,j,I,J,_⟩
    rw [a8 (by omega) (by omega)]
    exact wpS (.inl ⟨_,rfl,r1.re _ _ _ _ (by unfold imax;split<;>omega),by dsimp only;omega⟩)
   refine ax ?_ ?_<;>intro _
   ·refine az ((T 11 (by omega)).mono ?_)
    rintro r ⟨r1,j,I,J,_⟩
    rw [a8 (by omega) (by omega)]
    exact wpS (.inl ⟨_,rfl,r1.re _ _ _ _ (by unfold imax;split<;>omega),by dsimp only;omega⟩)
   refine ax ?_ ?_<;>intro _
   ·refine ax ?_ ?_<;>intro _
    ·refine az ((T 7 (by omega)).mono ?_)
     rintro r ⟨r1,j,I,J,_⟩
     exact wpS (.inl ⟨_,rfl,r1,by omega⟩)
    ·exact wpS (.inr rfl)
   ·exact wpS (.inr rfl)
  ·rintro r (⟨q,rfl,U,aa⟩ | rfl)
   ·exact wpS (.inl ⟨rfl,U,aa⟩)
   ·exact wpS (.inr ⟨rfl,rfl⟩)
 ·omega
end Go.Proofs.Ytcilejikekccmaa.M
namespace Go.Proofs.Ytcilejikekccmaa.M
open Go Am Sy
theorem B2 (F:Nat) (B:List UInt8) (s:aF) (h:SI F B s) (hx:s.At<B.length) (hn:B.length≤20000) (hF:B.length+10<F)
  (U:Wp (correctorref2_Break F B s.At) (fun b=>b=0)):Wp (n4 F s) (fun r=>SI F B r∧s.At<r.At):=by
 have hb:=h.b
 have hr:=h.r
 have hc:=h.kS hx U
 have e1:af (s.At+1)=s.At+1:=a8 (by omega) (by omega)
 have T:∀ k to,0<k∧k≠2∧k≠4∧k≠20∧k≠21→s.At<to→to≤B.length→Wp (cX F s k to) (fun r=>Wp (some r) (fun r=>SI F B r∧s.At<r.At)):=
  fun k to hk h1 h2=>(jd h hn k to h1 h2 (by omega) (fun _=>hc) (by omega)).mono (fun r hr=>wpS ⟨hr.1,by omega⟩)
 have RE:Wp (fS F s s.At) (fun e=>s.At<e∧e≤B.length):=by
  have:=pX F s s.At (by rw [hb];omega) (by rw [hb];exact hn) (by rw [hb];omega)
  rw [hb] at this
  refine this.mono ?_
  rintro e ⟨J,I,j⟩
  refine ⟨?_,I⟩
  rcases j with j | ⟨b',j,aa⟩
  ·omega
  ·by_cases hh:e=s.At
   ·obtain ⟨b,ab,an⟩:=U
    rw [hh,ab] at j;injection j;omega
   ·omega
 unfold n4
 rw [hb,e1]
 refine ax ?_ ?_<;>intro hy
 ·refine az (a7 hy ?_)
  intro c _
  refine ax ?_ ?_<;>intro hz
  ·refine az ((pJ F _ (by simp;omega) (by omega)).mono ?_)
   intro rn _
   refine az ((tM F s (s.At+1) false (by rw [hb];omega) (by rw [hb];exact hn) (by rw [hb];omega)).mono ?_)
   rintro nm ⟨ao,ad⟩
   rw [hb] at ad
   refine az ?_
   refine Wp.mono (P:=fun _=>True) ?_ ?_
   ·(repeat' (first | with_reducible refine az ?_ | (with_reducible refine ax ?_ ?_<;>intro _) | (with_reducible refine a7 (by assumption) ?_;intro _ _) | with_reducible refine wpS ?_ | (with_reducible refine bZ ?_;omega) | dsimp only))
    refine (q7 _ _ _ (by omega) (by rw [hb];exact hn)).mono ?_
    intro r _
    (repeat' (first | with_reducible refine az ?_ | (with_reducible refine ax ?_ ?_<;>intro _) | (with_reducible refine a7 (by assumption) ?_;intro _ _) | with_reducible refine wpS ?_ | (with_reducible refine bZ ?_;omega) | dsimp only))
   intro f1 _
   refine ax ?_ ?_<;>intro _
   ·exact az (T 5 _ (by omega) (by omega) (by omega))
   refine az ((u6 F s s.At (by omega) (by rw [hb];exact hn)).mono ?_)
   intro f2 _
   refine ax ?_ ?_<;>intro _
   ·exact az (T 6 _ (by omega) (by omega) (by omega))
   refine az ?_
   refine Wp.mono (P:=fun r=>True) ?_ ?_
   ·(repeat' (first | with_reducible refine az ?_ | (with_reducible refine ax ?_ ?_<;>intro _) | (with_reducible refine a7 (by assumption) ?_;intro _ _) | with_reducible refine wpS ?_ | (with_reducible refine bZ ?_;omega) | dsimp only))
   intro f3 _
   refine ax ?_ ?_<;>intro _
   ·exact az (T 12 _ (by omega) (by omega) (by omega))
   refine az ?_
   refine Wp.mono (P:=fun r=>True) ?_ ?_
   ·(repeat' (first | with_reducible refine az ?_ | (with_reducible refine ax ?_ ?_<;>intro _) | (with_reducible refine a7 (by assumption) ?_;intro _ _) | with_reducible refine wpS ?_ | (with_reducible refine bZ ?_;omega) | dsimp only))
   intro f4 _
   refine ax ?_ ?_<;>intro _
   ·exact az (T 13 _ (by omega) (by omega) (by omega))
   refine ax ?_ ?_<;>intro _
   ·refine az ((tM F s (s.At+1) true (by rw [hb];omega) (by rw [hb];exact hn) (by rw [hb];omega)).mono ?_)
    rintro aq ⟨ar,ae⟩
    rw [hb] at ae
    exact az (T 14 _ (by omega) (by omega) (by omega))
   refine ax ?_ ?_<;>intro _
   ·refine az (RE.mono ?_)
    rintro e ⟨J,I⟩
    refine az ((zx F s (s.At+1) e (by rw [hb];omega) (by rw [hb];exact hn) (by rw [hb];omega)).mono ?_)
    rintro e' ⟨j,aa⟩
    exact az (T 16 _ (by omega) (by omega) (by omega))
   refine ax ?_ ?_<;>intro _
   ·obtain ⟨e,he,J,I⟩:=RE
    refine az (wpE he ?_)
    refine az ((AG F s (s.At+1) e (by rw [hb];omega) (by rw [hb];exact hn) (by rw [hb];omega)).mono ?_)
    intro e' j
    refine az (wpE he ?_)
    exact az (T 17 _ (by omega) (by unfold dC;split<;>omega) (by unfold dC;split<;>omega))
   have HD:=yy F s (by rw [hb];omega) (by rw [hb];exact hn) (by rw [hb];omega)
   obtain ⟨hd,hh,J,I⟩:=HD
   rw [hb] at I
   refine az (wpE hh ?_)
   refine ax ?_ ?_<;>intro eP
   ·have fin:∀ t:Int,Wp ((ik F (⟨B,s.At,s.Row,s.Open,s.bY,s.cr,t,s.L⟩:aF)).bind fun ag=>
      (cX F (⟨B,s.At,s.Row,s.Open,s.bY,s.cr,t,s.L⟩:aF) 18 (af (s.At+ag))).bind fun ah=>some ah) (fun r=>SI F B r∧s.At<r.At):=by
     intro t
     have hs:ik F (⟨B,s.At,s.Row,s.Open,s.bY,s.cr,t,s.L⟩:aF)=ik F s:=by
      have ai:∀ m x y,gX F (⟨B,s.At,s.Row,s.Open,s.bY,s.cr,t,s.L⟩:aF) m x y=gX F s m x y:=by
       intro m
       induction m with
       | zero=>intro x y;rfl
       | succ m ih=>
        intro x y
        rw [gX,gX]
        simp only [ih,hb]
      unfold ik
      simp only [ai,hb,h5]
     rw [hs]
     refine az (wpE hh ?_)
     rw [a8 (by omega) (by omega)]
     have h':SI F B (⟨B,s.At,s.Row,s.Open,s.bY,s.cr,t,s.L⟩:aF):=by
      have:=h.re s.Open s.bY t s.cr h.o
      rw [hb] at this;exact this
     refine az ((jd h' hn 18 (s.At+hd) (by dsimp only;omega) (by omega) (by omega) (fun _=>hc) (by omega)).mono ?_)
     rintro r ⟨r1,au,_⟩
     exact wpS ⟨r1,by omega⟩
    refine az ?_
    refine ax ?_ ?_<;>intro _
    ·exact wpS (fin _)
    ·exact wpS (fin _)
   refine ax ?_ ?_<;>intro _
   ·exact az (T 22 _ (by omega) (by omega) (by omega))
   ·have:=BE F s (by rw [hb];omega) (by rw [hb];exact hn) (by rw [hb];omega)
    rw [hb] at this
    refine az (this.mono ?_)
    rintro e ⟨aj,ak⟩
    exact az (T 15 _ (by omega) aj ak)
  ·omega
 ·omega
theorem DE (F:Nat) (B:List UInt8) (hn:B.length≤20000) (hF:B.length+10<F):∀ (m:Nat) (s:aF),SI F B s→B.length - s.At<m→
  Wp (correctorref6_Tokens_l0 F B m s) (fun r=>SI F B r∧r.At=B.length):=by
 intro m
 induction m with
 | zero=>intro s h1 h2;have:=h1.r;omega
 | succ m ih=>
  intro s h1 h2
  have hb:=h1.b
  have hr:=h1.r
  rw [correctorref6_Tokens_l0]
  refine ax ?_ ?_<;>intro hx
  ·refine az ?_
   refine Wp.mono (P:=fun r=>r.1=s∧(0<r.2→s.At=s.Row∧(r.2=20∨r.2=21)∧s.At+3≤B.length)) ?_ ?_
   ·refine ax ?_ ?_<;>intro vq
    ·refine az ((uR F s s.At (by rw [hb];omega) (by rw [hb];exact hn)).mono ?_)
     intro k hk
     rw [hb] at hk
     exact wpS ⟨rfl,fun hp=>⟨vq,by dsimp only at hp;dsimp only;omega,by dsimp only at hp;omega⟩⟩
    ·exact wpS ⟨rfl,fun hp=>by dsimp only at hp;omega⟩
   rintro ⟨s',k⟩ ⟨U,aa⟩
   dsimp only at U aa ⊢
   subst U
   refine ax ?_ ?_<;>intro hk
   ·obtain ⟨ab,ag,ad⟩:=aa hk
    rw [a8 (by omega) (by omega)]
    refine az ((jd h1 hn k (s'.At+3) (by omega) ad (fun _=>ab) (fun _=>(h1.w ab).kS) (by omega)).mono ?_)
    rintro r ⟨r1,ae,ah,ai,_⟩
    have ho:=h1.o
    exact ih _ (r1.re _ _ _ _ (by omega)) (by dsimp only;omega)
   ·refine az ((A5 F B s' h1 hx hn hF).mono ?_)
    rintro ⟨f,s1⟩ (⟨j,I,J⟩ | ⟨j,I,J⟩)
    ·dsimp only at j I J ⊢
     rw [if_pos j]
     exact ih _ I (by omega)
    ·dsimp only at j I J ⊢
     subst j I
     rw [if_neg (by decide)]
     refine az ((C6 F B s1 h1 hx hn (h1.kS hx J)).mono ?_)
     rintro ⟨f,s2⟩ (⟨j,I,af⟩ | ⟨j,I⟩)
     ·dsimp only at j I af ⊢
      rw [if_pos j]
      exact ih _ I (by omega)
     ·dsimp only at j I ⊢
      subst j I
      rw [if_neg (by decide)]
      refine az ((B2 F B s2 h1 hx hn hF J).mono ?_)
      rintro r ⟨r1,ae⟩
      exact ih _ r1 (by omega)
  ·exact wpS ⟨h1,by omega⟩
theorem ym (F:Nat) (B:List UInt8) (hn:B.length≤16384) (hF:B.length+10<F):Wp (mG F B) (fun l=>Tk B.length l B.length):=by
 unfold mG
 refine ax ?_ ?_<;>intro hx
 ·omega
 ·refine az (wpS ?_)
  have h0:SI F B (⟨B,0,0,0,(-1),true,(-2),[]⟩:aF):=
   ⟨rfl,by dsimp only;omega,by dsimp only;omega, .nil,fun _=> .inl rfl,fun q=>absurd q (Ends.kS (.inl rfl))⟩
  refine az ((DE F B (by omega) hF F _ h0 (by dsimp only;omega)).mono ?_)
  rintro r ⟨r1,j⟩
  refine wpS ?_
  have:=r1.t
  rw [j] at this;exact this
end Go.Proofs.Ytcilejikekccmaa.M
namespace Go.Proofs.Ytcilejikekccmaa.M
open Go Am Sy
theorem Bc {α:Type} (p c s:List α) (x:α):(p++c++x::s)[((p.length:Int)+(c.length:Int)).toNat]?=some x:=by
 have:((p.length:Int)+(c.length:Int)).toNat=(p++c).length:=by simp;omega
 rw [this];simp
theorem xX {α:Type} (p c s:List α) (x:α):(0:Int)≤(p.length:Int)+(c.length:Int)∧(p.length:Int)+(c.length:Int)<((p++c++x::s).length:Int):=by simp;omega
def gZ (k:Int):Bool:=k == 1 || k == 19
def eO (k o:Int):Int:=if k=8∨k=9 then o+1 else if k=10∨k=11 then (if 0>o - 1 then 0 else o - 1) else if k=20∨k=21 then 0 else o
theorem oK {k o n:Int} (h:0≤o∧o≤n):0≤eO k o∧eO k o≤n+1:=by
 unfold eO
 repeat' split
 all_goals omega
def fc (c:List al):Option al:=c.find? (fun t=>jo t.Kind)
def hd (c:List al):Int:=match c with | []=>0 | t::_=>t.ai
def hk (c:List al):Int:=match c with | []=>0 | t::_=>t.Kind
def fQ (c:List al):Int:=match fc c with | some t=>t.ai - hd c | none=> -1
def k0 (c:List al):Int:=match fc c with | some t=>if t.Kind=20∨t.Kind=21 then 4 else 5 | none=>1
def kR (c:List al) (o:Int):Int:=if hk c=19 then 2 else if 0<o then (if k0 c=4 then k0 c else 3) else k0 c
def goR (K:List al→Int→Int):Int→List al→Int→Int→List al→List an
 | f,c,o,n,[]=>if c=[] then [] else [⟨K c o,f,f+c.length,fQ c⟩]
 | f,c,o,n,t::s=>if gZ t.Kind=true then ⟨K (c++[t]) o,f,f+(c++[t]).length,fQ (c++[t])⟩::goR K (f+(c++[t]).length) [] (eO t.Kind n) (eO t.Kind n) s
   else goR K f (c++[t]) o (eO t.Kind n) s
def og (l:List al):Prop:=∀ t∈l,0≤t.ai∧t.ai≤20000
def span:List al→Int→List al→List al×Int×List al
 | c,n,[]=>(c,n,[])
 | c,n,t::s=>if gZ t.Kind=true then (c++[t],eO t.Kind n,s) else span (c++[t]) (eO t.Kind n) s
theorem yx (K:List al→Int→Int):∀ (s c:List al) (f o n:Int),¬(c=[]∧s=[])→
  goR K f c o n s=⟨K (span c n s).1 o,f,f+(span c n s).1.length,fQ (span c n s).1⟩::goR K (f+(span c n s).1.length) [] (span c n s).2.1 (span c n s).2.1 (span c n s).2.2:=by
 intro s
 induction s with
 | nil=>intro c f o n h;rw [goR,if_neg (by simpa using h)];rfl
 | cons t s ih=>
  intro c f o n h
  rw [goR,span]
  by_cases hk:gZ t.Kind=true
  ·rw [if_pos hk,if_pos hk]
  ·rw [if_neg hk,if_neg hk]
   exact ih _ _ _ _ (by simp)
theorem E8:∀ (s c:List al) (n:Int),c++s=(span c n s).1++(span c n s).2.2∧c.length≤(span c n s).1.length∧(s≠[]→c.length<(span c n s).1.length)∧(0≤n∧n≤c.length→0≤(span c n s).2.1):=by
 intro s
 induction s with
 | nil=>intro c n;simp [span];omega
 | cons t s ih=>
  intro c n
  rw [span]
  by_cases hk:gZ t.Kind=true
  ·rw [if_pos hk]
   refine ⟨by simp,by simp,fun _=>by simp,fun h=>(oK h).1⟩
  ·rw [if_neg hk]
   obtain ⟨h1,h2,I,j⟩:=ih (c++[t]) (eO t.Kind n)
   refine ⟨by rw [← h1];simp,by simp at h2;omega,fun _=>by simp at h2;omega,fun h=>j (by have:=oK (k:=t.Kind) h;simp;omega)⟩
theorem BF:∀ (s c:List al) (n p:Int),0≤n∧n≤p+c.length→0≤(span c n s).2.1∧(span c n s).2.1≤p+(span c n s).1.length:=by
 intro s
 induction s with
 | nil=>intro c n p h;simpa [span] using h
 | cons t s ih=>
  intro c n p h
  rw [span]
  have:=oK (k:=t.Kind) h
  by_cases hk:gZ t.Kind=true
  ·rw [if_pos hk];simp;omega
  ·rw [if_neg hk]
   exact ih (c++[t]) (eO t.Kind n) p (by simp;omega)
def jW (l:List al):Prop:=l.Pairwise (fun a b=>a.ai≤b.ai)
theorem Cr {c:List al} {u:al} (h:fc c=some u) (hs:jW c):0≤fQ c:=by
 unfold fQ
 rw [h]
 dsimp only
 cases c with
 | nil=>cases h
 | cons t c=>
  have:u∈t::c:=List.mem_of_find?_eq_some h
  rcases List.mem_cons.1 this with rfl | h1
  ·simp [hd]
  ·have:=(List.pairwise_cons.1 hs).1 u h1
   simp only [hd];omega
theorem q4 {c:List al} (h:fc c=none):fQ c= -1:=by unfold fQ;rw [h]
theorem sH {c:List al} (t:al):hd (c++[t])=(match c with | []=>t.ai | u::_=>u.ai):=by cases c<;>rfl
theorem Ce (F:Nat) (l:List al) (hs:og l) (ho:jW l) (hn:l.length≤20000) (out:List an) (begun:Bool):∀ (s p c:List al) (m:Nat) (n:Int) (r:an),
  l=p++c++s→s.length<m→0≤n∧n≤(p.length:Int)+(c.length:Int)→r.ai=p.length→r.Kind=k0 c→r.aE=fQ c→
  Wp (correctorref9_Rows_l1 F l m out n ((p.length:Int)+(c.length:Int)) r begun) (fun z=>z.1=out∧z.2.1=(span c n s).2.1∧z.2.2.1=(p.length:Int)+((span c n s).1.length:Int)∧z.2.2.2.1.ai=p.length∧z.2.2.2.1.Kind=k0 (span c n s).1∧z.2.2.2.1.aE=fQ (span c n s).1∧z.2.2.2.2=begun):=by
 intro s
 induction s with
 | nil=>
  intro p c m n r h1 h2 aj j U J
  obtain ⟨m,rfl⟩:∃ k,m=k+1:=⟨m - 1,by omega⟩
  have hl:l.length=p.length+c.length:=by rw [h1];simp
  rw [correctorref9_Rows_l1,if_neg (by omega)]
  exact wpS ⟨rfl,rfl,rfl,j,U,J,rfl⟩
 | cons t s ih=>
  intro p c m n r h1 h2 aj j U J
  obtain ⟨m,rfl⟩:∃ k,m=k+1:=⟨m - 1,by omega⟩
  simp only [List.length_cons] at h2
  have hl:l.length=p.length+c.length+s.length+1:=by rw [h1];simp;omega
  have e1:=xX p c s t
  have ak:=Bc p c s t
  rw [← h1] at e1 ak
  have xF:t∈l:=by rw [h1];simp
  have Au:jW c:=by
   have:jW l:=ho
   rw [h1] at this
   exact (List.pairwise_append.1 (List.pairwise_append.1 this).1).2.1
  rw [correctorref9_Rows_l1]
  simp only [if_pos e1.2,if_pos e1,ak,Option.bind_some]
  refine az ?_
  refine Wp.mono (P:=fun z:List an×an=>z.1=out∧z.2.ai=(p.length:Int)∧z.2.Kind=k0 (c++[t])∧z.2.aE=fQ (c++[t])) ?_ ?_
  ·rcases hf:fc c with _ | u
   ·rw [if_pos (by rw [J,q4 hf];omega),vh]
    simp only [Option.bind_some]
    by_cases hk:jo t.Kind=true
    ·rw [if_pos hk]
     have hg:(l[r.ai.toNat]?).map (·.ai)=some (hd (c++[t])):=by
      rw [j,h1,sH]
      cases c with
      | nil=>simp
      | cons u c=>simp
     rw [if_pos (by rw [j];omega)]
     obtain ⟨u,hu⟩:∃ u,l[r.ai.toNat]?=some u:=⟨l[r.ai.toNat]'(by rw [j];omega),by simp⟩
     rw [hu] at hg ⊢
     simp only [Option.map_some] at hg
     injection hg with hg
     have AN:u∈l:=List.mem_of_getElem? hu
     have:=hs u AN
     have:=hs t xF
     have I:fc (c++[t])=some t:=by
      unfold fc at hf ⊢
      rw [List.find?_append,hf];simp [hk]
     simp only [Option.bind_some]
     rw [a8 (by omega) (by omega)]
     unfold k0 fQ
     rw [I]
     dsimp only
     rw [← hg]
     by_cases ah:t.Kind=20
     ·simp only [ah,if_true];exact wpS ⟨rfl,j,by simp,rfl⟩
     ·by_cases ao:t.Kind=21
      ·simp only [ah,ao,if_true,if_false];exact wpS ⟨rfl,j,by simp,rfl⟩
      ·simp only [ah,ao,if_false];exact wpS ⟨rfl,j,by simp,rfl⟩
    ·rw [if_neg hk]
     have I:fc (c++[t])=none:=by
      unfold fc at hf ⊢
      rw [List.find?_append,hf];simp [hk]
     refine wpS ⟨rfl,j,?_,?_⟩
     ·rw [U];unfold k0;rw [hf,I]
     ·rw [J,q4 hf,q4 I]
   ·have:=Cr hf Au
    rw [if_neg (by rw [J];omega)]
    have I:fc (c++[t])=some u:=by
     unfold fc at hf ⊢
     rw [List.find?_append,hf];rfl
    refine wpS ⟨rfl,j,?_,?_⟩
    ·rw [U];unfold k0;rw [hf,I]
    ·rw [J];unfold fQ;rw [hf,I]
     dsimp only
     rw [sH]
     cases c with
     | nil=>cases hf
     | cons v c=>rfl
  ·rintro ⟨po,r'⟩ ⟨aq,aa,ab,ad⟩
   dsimp only at aq aa ab ad ⊢
   subst aq
   refine az ?_
   refine Wp.mono (P:=fun z:List an×Int×an=>z=(po,eO t.Kind n,r')) ?_ ?_
   ·have w1:af (n+1)=n+1:=a8 (by omega) (by omega)
    have w2:af (n - 1)=n - 1:=a8 (by omega) (by omega)
    rw [w1,w2]
    unfold eO
    by_cases ar:t.Kind=8
    ·simp only [ar];exact ⟨_,rfl,rfl⟩
    by_cases au:t.Kind=9
    ·simp only [au];exact ⟨_,rfl,rfl⟩
    by_cases av:t.Kind=10
    ·simp only [av];exact ⟨_,rfl,rfl⟩
    by_cases aw:t.Kind=11
    ·simp only [aw];exact ⟨_,rfl,rfl⟩
    by_cases ax:t.Kind=20
    ·simp only [ax];exact ⟨_,rfl,rfl⟩
    by_cases ay:t.Kind=21
    ·simp only [ay];exact ⟨_,rfl,rfl⟩
    simp only [ar,au,av,aw,ax,ay,if_false,Option.bind_some,or_self]
    exact ⟨_,rfl,rfl⟩
   ·rintro _ rfl
    dsimp only
    have dJ:l=p++(c++[t])++s:=by rw [h1];simp
    have ew:af ((p.length:Int)+(c.length:Int)+1)=(p.length:Int)+((c++[t]).length:Int):=by rw [a8 (by omega) (by omega)];simp;omega
    rw [ew]
    by_cases ae:t.Kind=1
    ·rw [if_pos ae,span,if_pos (by simp [gZ,ae])]
     exact wpS ⟨rfl,rfl,rfl,aa,ab,ad,rfl⟩
    ·rw [if_neg ae]
     by_cases ag:t.Kind=19
     ·rw [if_pos ag,span,if_pos (by simp [gZ,ag])]
      exact wpS ⟨rfl,rfl,rfl,aa,ab,ad,rfl⟩
     ·rw [if_neg ag,span,if_neg (by simp [gZ,ae,ag])]
      exact ih p (c++[t]) m _ r' dJ (by omega) (by have:=oK (k:=t.Kind) aj;simp;omega) aa ab ad
theorem A2 (F:Nat) (l:List al) (hs:og l) (ho:jW l) (hn:l.length≤20000) (hF:l.length+10<F):∀ (m:Nat) (s p:List al) (n:Int) (out:List an),
  l=p++s→s.length<m→0≤n∧n≤(p.length:Int)→out.length≤p.length→
  correctorref9_Rows_l0 F l m out n p.length=some (out++goR kR p.length [] n n s):=by
 intro m
 induction m with
 | zero=>intro s p n out h1 h2;omega
 | succ m ih=>
  intro s p n out h1 h2 U ar
  have hl:l.length=p.length+s.length:=by rw [h1];simp
  rw [correctorref9_Rows_l0]
  by_cases o7:s=[]
  ·subst o7
   simp only [List.length_nil,Nat.add_zero] at hl
   rw [if_neg (by omega)]
   simp [goR]
  ·have hp:0<s.length:=List.length_pos_iff.2 o7
   rw [if_pos (by omega)]
   have xN:((if (0:Int)<n then some (out,(⟨1,(p.length:Int),0,(-1)⟩:an),true) else some (out,(⟨1,(p.length:Int),0,(-1)⟩:an),false)):Option ((List an)×an×Bool))=some (out,(⟨1,(p.length:Int),0,(-1)⟩:an),decide (0<n)):=by
    by_cases h:0<n
    ·rw [if_pos h,decide_eq_true h]
    ·rw [if_neg h,decide_eq_false h]
   rw [xN]
   simp only [Option.bind_some]
   obtain ⟨⟨o',n',i',r',b'⟩,g0,aa,ab,ad,j,ae,af,ag⟩:=Ce F l hs ho hn out (decide (0<n)) s p [] F n ⟨1,(p.length:Int),0,(-1)⟩ (by rw [h1];simp) (by omega) (by simpa using U) rfl rfl rfl
   dsimp only at aa ab ad j ae af ag
   simp only [List.length_nil,Int.add_zero,show ((0:Nat):Int)=0 from rfl] at g0
   rw [g0]
   simp only [Option.bind_some]
   subst aa ab ad ag
   obtain ⟨a1,ak,ah,_⟩:=E8 s [] n
   have ao:=BF s [] n p.length (by simpa using U)
   have aq:0<(span [] n s).1.length:=by have:=ah o7;simpa using this
   clear ah ak
   rw [yx kR s [] _ _ _ (by simp [o7])]
   generalize span [] n s=z at *
   obtain ⟨c,n',s'⟩:=z
   dsimp only at *
   simp only [List.nil_append] at a1
   subst a1
   obtain ⟨t,c',rfl⟩:∃ t c',c=t::c':=by
    cases c with
    | nil=>simp at aq
    | cons t c'=>exact ⟨t,c',rfl⟩
   have hg:l[r'.ai.toNat]?=some t:=by rw [j,h1];simp
   rw [if_pos (by rw [j];omega),hg]
   simp only [Option.bind_some]
   have kA:((if t.Kind=(19:Int) then
        some (o',(⟨2,r'.ai,(p.length:Int)+((t::c').length:Int),r'.aE⟩:an))
       else
        if (decide (0<n))=true then
         if r'.Kind=(4:Int) then
          some (o',(⟨r'.Kind,r'.ai,(p.length:Int)+((t::c').length:Int),r'.aE⟩:an))
         else
          some (o',(⟨3,r'.ai,(p.length:Int)+((t::c').length:Int),r'.aE⟩:an))
        else
         some (o',(⟨r'.Kind,r'.ai,(p.length:Int)+((t::c').length:Int),r'.aE⟩:an))):Option ((List an)×an))
     =some (o',⟨kR (t::c') n,(p.length:Int),(p.length:Int)+((t::c').length:Int),fQ (t::c')⟩):=by
    rw [j,ae,af]
    unfold kR hk
    dsimp only
    by_cases I:t.Kind=19
    ·simp [I]
    ·by_cases J:0<n
     ·by_cases aj:k0 (t::c')=4
      ·simp [I,J,aj]
      ·simp [I,J,aj]
     ·simp [I,J]
   rw [kA]
   simp only [Option.bind_some]
   rw [if_pos (by simp;omega)]
   have:=ih s' (p++t::c') n' (o'++[⟨kR (t::c') n,(p.length:Int),(p.length:Int)+((t::c').length:Int),fQ (t::c')⟩]) (by rw [h1];simp) (by simp at h2;omega) (by simp at ao ⊢;omega) (by simp;omega)
   have ep:((p++t::c').length:Int)=(p.length:Int)+((t::c').length:Int):=by simp
   rw [ep] at this
   rw [this];simp
theorem B3 (F:Nat) (l:List al) (hs:og l) (ho:jW l) (hn:l.length≤20000) (hF:l.length+10<F):l8 F l=some (goR kR 0 [] 0 0 l):=by
 unfold l8
 have:=A2 F l hs ho hn hF F l [] 0 [] rfl (by omega) (by simp) (by simp)
 simp only [List.length_nil,show ((0:Nat):Int)=0 from rfl] at this
 rw [this];simp
theorem Tk.xa {n:Int} {l:List al} {a:Int} (h:Tk n l a):(∀ t∈l,0≤t.ai∧t.ai<a)∧l.Pairwise (fun a b=>a.ai<b.ai)∧0≤a:=by
 induction h with
 | nil=>simp
 | @snoc l mh k to h1 h2 j I J U ih=>
  obtain ⟨i1,i2,i3⟩:=ih
  refine ⟨?_,?_,by omega⟩
  ·intro t ht
   rcases List.mem_append.1 ht with ht | ht
   ·have:=i1 t ht;omega
   ·simp at ht;subst ht;dsimp only;omega
  ·rw [List.pairwise_append]
   refine ⟨i2,by simp,?_⟩
   intro x hx y hy
   simp at hy;subst hy
   exact (i1 x hx).2
theorem Bv (K:List al→Int→Int) {l:List al}:∀ (s p c:List al) (o n:Int),l=p++c++s→∀ r∈goR K p.length c o n s,0≤r.ai∧r.ai<r.To∧r.To≤l.length:=by
 intro s
 induction s with
 | nil=>
  intro p c o n h r hr
  rw [goR] at hr
  by_cases hc:c=[]
  ·rw [if_pos hc] at hr;cases hr
  ·have:=List.length_pos_iff.2 hc
   rw [if_neg hc] at hr
   simp at hr
   subst hr
   rw [h]
   dsimp only
   simp
   omega
 | cons t s ih=>
  intro p c o n h r hr
  rw [goR] at hr
  by_cases hk:gZ t.Kind=true
  ·rw [if_pos hk] at hr
   rcases List.mem_cons.1 hr with rfl | hr
   ·rw [h];simp;omega
   ·have e:(p.length:Int)+((c++[t]).length:Int)=((p++(c++[t])).length:Int):=by simp
    rw [e] at hr
    exact ih (p++(c++[t])) [] _ _ (by rw [h];simp) r hr
  ·rw [if_neg hk] at hr
   exact ih p (c++[t]) _ _ (by rw [h];simp) r hr
theorem xl (K:List al→Int→Int):∀ (s c:List al) (f o n:Int),(goR K f c o n s).length≤c.length+s.length:=by
 intro s
 induction s with
 | nil=>
  intro c f o n
  rw [goR]
  by_cases h:c=[]
  ·simp [h]
  ·have:=List.length_pos_iff.2 h
   rw [if_neg h];simp;omega
 | cons t s ih=>
  intro c f o n
  rw [goR]
  by_cases h:gZ t.Kind=true
  ·rw [if_pos h]
   have:=ih [] (f+((c++[t]).length:Int)) (eO t.Kind n) (eO t.Kind n)
   simp at this ⊢;omega
  ·rw [if_neg h]
   have:=ih (c++[t]) f o (eO t.Kind n)
   simp at this ⊢;omega
theorem Tk.kinds {n:Int} {l:List al} {a:Int} (h:Tk n l a):∀ t∈l,0<t.Kind:=by
 induction h with
 | nil=>simp
 | @snoc l mh k to h1 h2 I J U j ih=>
  intro t ht
  rcases List.mem_append.1 ht with ht | ht
  ·exact ih t ht
  ·simp at ht;subst ht;exact j
theorem w3 (k:Int):jo k=cn k:=by
 unfold jo cn
 by_cases h1:k=1
 ·simp [h1]
 by_cases h2:k=2
 ·simp [h2]
 by_cases j:k=3
 ·simp [j]
 by_cases I:k=4
 ·simp [I]
 simp [h1,h2,j,I]
theorem CE (K:List al→Int→Int):∀ (s c:List al) (f o n:Int),¬ (c=[]∧s=[])→∃ r∈goR K f c o n s,r.To=f+c.length+s.length:=by
 intro s
 induction s with
 | nil=>
  intro c f o n h
  rw [goR,if_neg (by simpa using h)]
  exact ⟨_,List.mem_singleton.2 rfl,by simp⟩
 | cons t s ih=>
  intro c f o n h
  rw [goR]
  by_cases hk:gZ t.Kind=true
  ·rw [if_pos hk]
   by_cases hs:s=[]
   ·subst hs
    exact ⟨_,List.mem_cons_self,by simp;omega⟩
   ·obtain ⟨r,r1,j⟩:=ih [] (f+(c++[t]).length) (eO t.Kind n) (eO t.Kind n) (by simpa using hs)
    exact ⟨r,List.mem_cons_of_mem _ r1,by rw [j];simp;omega⟩
  ·rw [if_neg hk]
   obtain ⟨r,r1,j⟩:=ih (c++[t]) f o (eO t.Kind n) (by simp)
   exact ⟨r,r1,by rw [j];simp;omega⟩
theorem Az {c:List al} {o:Int} (h:kR c o=4∨kR c o=5):∃ t∈c,cn t.Kind=true:=by
 have hk:k0 c=4∨k0 c=5:=by
  unfold kR at h
  split at h
  ·omega
  ·split at h
   ·split at h<;>omega
   ·exact h
 unfold k0 at hk
 cases hf:fc c with
 | none=>rw [hf] at hk;simp at hk
 | some t=>
  refine ⟨t,List.mem_of_find?_eq_some hf,?_⟩
  have:=List.find?_some hf
  rw [← w3];simpa using this
theorem u2 {l p c s:List al} {o:Int} (h:l=p++c++s) (hk:kR c o=4∨kR c o=5):∃ (i:Int) (t:al),(p.length:Int)≤i∧i<(p.length:Int)+c.length∧l[i.toNat]?=some t∧cn t.Kind=true:=by
 obtain ⟨t,h1,h2⟩:=Az hk
 obtain ⟨j,hj⟩:=List.getElem?_of_mem h1
 have rP:j<c.length:=by
  rcases Nat.lt_or_ge j c.length with q | q
  ·exact q
  ·rw [List.getElem?_eq_none q] at hj;cases hj
 refine ⟨(p.length:Int)+j,t,by omega,by omega,?_,h2⟩
 have:((p.length:Int)+j).toNat=p.length+j:=by omega
 rw [this,h,List.append_assoc,List.getElem?_append_right (by omega),Nat.add_sub_cancel_left,List.getElem?_append_left rP]
 exact hj
theorem z9 {l:List al}:∀ (s p c:List al) (o n:Int),l=p++c++s→∀ r∈goR kR p.length c o n s,(r.Kind=4∨r.Kind=5)→∃ (i:Int) (t:al),r.ai≤i∧i<r.To∧l[i.toNat]?=some t∧cn t.Kind=true:=by
 intro s
 induction s with
 | nil=>
  intro p c o n h r hr hk
  rw [goR] at hr
  split at hr
  ·simp at hr
  ·simp at hr;subst hr
   exact u2 h hk
 | cons t s ih=>
  intro p c o n h r hr hk
  rw [goR] at hr
  have h':l=p++(c++[t])++s:=by rw [h];simp
  split at hr
  ·rcases List.mem_cons.1 hr with rfl | hr
   ·exact u2 h' hk
   ·have e:((p++(c++[t])).length:Int)=(p.length:Int)+(c++[t]).length:=by simp
    rw [← e] at hr
    exact ih (p++(c++[t])) [] _ _ (by rw [h'];simp) r hr hk
  ·exact ih p (c++[t]) _ _ h' r hr hk
theorem Aw (K:List al→Int→Int):∀ (s c:List al) (f o n:Int),Tl f (goR K f c o n s):=by
 intro s
 induction s with
 | nil=>intro c f o n;rw [goR];split;trivial;exact ⟨rfl,trivial⟩
 | cons t s ih=>
  intro c f o n
  rw [goR]
  split
  ·exact ⟨rfl,ih _ _ _ _⟩
  ·exact ih _ _ _ _
def Tg:Int→List al→Int→Prop
 | f,[],e=>f=e
 | f,t::s,e=>t.ai=f∧f<t.To∧Tg t.To s e
theorem Tg.snoc {k:Int}:∀ {s:List al} {f e to:Int},Tg f s e→e<to→Tg f (s++[⟨k,e,to⟩]) to:=by
 intro s
 induction s with
 | nil=>intro f e to h h2;have:f=e:=h;subst this;exact ⟨rfl,h2,rfl⟩
 | cons t s ih=>rintro f e to ⟨h1,h2,j⟩ I;exact ⟨h1,h2,ih j I⟩
theorem Tk.tg {n:Int} {l:List al} {a:Int} (h:Tk n l a):Tg 0 l a:=by
 induction h with
 | nil=>rfl
 | snoc k to h1 h2 j I J U ih=>exact ih.snoc h2
theorem Tg.le:∀ {s:List al} {f e:Int},Tg f s e→f+s.length≤e:=by
 intro s
 induction s with
 | nil=>intro f e h;have:f=e:=h;simp;omega
 | cons t s ih=>rintro f e ⟨h1,h2,j⟩;have:=ih j;rw [List.length_cons];omega
theorem Tg.drop:∀ {s:List al} {f e:Int} (i:Nat),Tg f s e→i≤s.length→∃ f',f+i≤f'∧Tg f' (s.drop i) e:=by
 intro s
 induction s with
 | nil=>intro f e i h hi;exact ⟨f,by simp at hi;omega,by simpa using h⟩
 | cons t s ih=>
  rintro f e i ⟨h1,h2,j⟩ hi
  cases i with
  | zero=>exact ⟨f,by omega,h1,h2,j⟩
  | succ i=>
   obtain ⟨f',J,I⟩:=ih i j (by simpa using hi)
   exact ⟨f',by omega,I⟩
theorem wO (F:Nat) (hF:2500≤F) {n a:Int} {l:List al} (h:Tk n l a) (hn:n≤450) (ha:a≤n):∃ rs,l8 F l=some rs∧RO l rs:=by
 have h1:=h.xa
 have h2:=h.bounds
 have hs:og l:=fun t ht=>by have:=h1.1 t ht;omega
 have ho:jW l:=h1.2.1.imp (fun q=>Int.le_of_lt q)
 have hlen:l.length≤450:=by omega
 refine ⟨_,B3 F l hs ho (by omega) (by omega),?_⟩
 have hr:=Bv kR (l:=l) l [] [] 0 0 rfl
 have hc:=z9 (l:=l) l [] [] 0 0 rfl
 have hL:=xl kR l [] 0 0 0
 simp only [List.length_nil,Nat.zero_add] at hL
 refine ⟨hr,fun x I hx=>?_,hc,by omega,Aw _ _ _ _ _ _⟩
 obtain ⟨r,r1,j⟩:=CE kR l [] 0 0 0 (fun z=>by rw [z.2] at hx;simp at hx;omega)
 obtain ⟨i,hi⟩:=List.getElem?_of_mem r1
 exact ⟨i,r,hi,by rw [j];simp;omega⟩
end Go.Proofs.Ytcilejikekccmaa.M
namespace Go.Proofs.Ytcilejikekccmaa.M
open Go Am Sy
theorem vz {α:Type} (l:List α) (i:Int) (h:0≤i∧i≤l.length):(((l.take (l.length:Int).toNat).drop i.toNat).length:Int)=l.length - i:=by
 rw [Int.toNat_natCast,List.take_length,List.length_drop];omega
theorem yb (F:Nat) (b:List UInt8) (hn:b.length≤20000) (hF:b.length+10<F):Wp (n5 F b) (fun l=>l.length≤b.length):=by
 have key:∀ (m:Nat) (l:List Int) (x:Int),0≤x→x≤b.length→b.length - x<m→(l.length:Int)≤x→Wp (correctorref1_Bad_l0 F b m l x) (fun l=>l.length≤b.length):=by
  intro m
  induction m with
  | zero=>intro l x h1 h2 j;omega
  | succ m ih=>
   intro l x h1 h2 j U
   rw [correctorref1_Bad_l0]
   refine ax (fun c=>?_) (fun c=>wpS (by omega))
   have hl:=vz b x ⟨h1,h2⟩
   refine aQ (by omega) (bp (pJ F _ (by omega) (by omega)) ?_)
   rintro ⟨r,k⟩ ⟨I,J⟩
   simp only at I J ⊢
   have hw:af (x+k)=x+k:=a8 (by omega) (by omega)
   rw [hw]
   refine bp (Q:=fun l'=>(l'.length:Int)≤l.length+1) (ax (fun _=>aQ (by rw [List.length_singleton];omega) (wpS (by rw [List.length_append,List.length_singleton];omega))) (fun _=>wpS (by omega))) ?_
   intro l' jh
   exact ih l' (x+k) (by omega) (by omega) (by omega) (by omega)
 unfold n5
 exact bp (key F [] 0 (by omega) (by omega) (by omega) (by simp)) fun l hl=>wpS hl
theorem xg (F:Nat) (s:ar) (hn:s.b.length≤20000) (hF:s.b.length+10<F):Wp (n6 F s) (fun _=>True):=by
 have key:∀ (m:Nat) (o:ar) (x:Int),0≤x→x≤s.b.length+2→s.b.length+3 - x<m→(o.b.length:Int)≤x→Wp (correctorref7_single_l0 F s m o x) (fun _=>True):=by
  intro m
  induction m with
  | zero=>intro o x h1 h2 j;omega
  | succ m ih=>
   intro o x h1 h2 j U
   have hw:af (x+1)=x+1:=a8 (by omega) (by omega)
   have I:af (x+1+1)=x+2:=by rw [a8 (by omega) (by omega)];omega
   rw [correctorref7_single_l0,hw,I]
   refine ax (fun c=>?_) (fun c=>wpS trivial)
   refine aQ h1 (az (a7 (by omega) fun t ht=>?_))
   refine ax (fun c1=>?_) (fun c1=>?_)
   ·refine ax (fun c2=>wpS trivial) (fun c2=>?_)
    refine aQ (by omega) (az (a7 (by omega) fun t ht=>?_))
    refine ax (fun J=>?_) (fun J=>wpS trivial)
    refine aQ (by rw [List.length_singleton];omega) (ih _ _ (by omega) (by omega) (by omega) (by show ((o.b++[39]).length:Int)≤_;rw [List.length_append,List.length_singleton];omega))
   ·have hl:((s.b.take (x+1).toNat).drop x.toNat).length=1:=by rw [List.length_drop,List.length_take];omega
    refine aQ (by omega) (aQ (by rw [hl];omega) (ih _ _ (by omega) (by omega) (by omega) (by show ((o.b++_).length:Int)≤_;rw [List.length_append,hl];omega)))
 unfold n6
 refine bp (key F ⟨[]⟩ 1 (by omega) (by omega) (by omega) (by simp)) ?_
 rintro (x | y) _<;>exact wpS trivial
theorem y6 (F:Nat) (k:Int) (h:0≤k∧k<256):Wp (nJ F k) (fun r=>r.1.b.length≤1):=by
 unfold nJ
 repeat' (first | (refine ax (fun _=>wpS (by simp)) (fun _=>?_)))
 refine bp (Q:=fun _=>True) ?_ ?_
 ·repeat' (first | (refine ax (fun _=>wpS trivial) (fun _=>?_)) | exact wpS trivial)
 ·intro b _
  exact ax (fun _=>aQ h (wpS (by simp))) (fun _=>wpS (by simp))
theorem zL (F:Nat) (k:Int):Wp (mS F k) (fun _=>True):=by
 unfold mS
 refine bp (Q:=fun _=>True) ?_ ?_
 ·repeat' (first | (refine ax (fun _=>?_) (fun _=>?_)) | exact wpS trivial)
 ·intro b _
  refine bp (Q:=fun _=>True) ?_ ?_
  ·refine ax (fun _=>wpS trivial) (fun _=>?_)
   refine bp (Q:=fun _=>True) ?_ ?_
   ·repeat' (first | (refine ax (fun _=>?_) (fun _=>?_)) | exact wpS trivial)
   ·intro b _
    repeat' (first | (refine ax (fun _=>?_) (fun _=>?_)) | exact wpS trivial)
  ·rintro (x | y) _<;>exact wpS trivial
theorem iz (e:Int):0≤IntKind.wrap .u8 e∧IntKind.wrap .u8 e<256:=by
 have h1:IntKind.wrap .u8 e=e % 256:=by
  simp [IntKind.wrap,IntKind.bits,IntKind.signed]
 rw [h1];omega
theorem wQ (F:Nat) (k:Int):Wp (nU F k) (fun l=>l.length≤4):=by
 unfold nU
 refine ax (fun _=>aQ (iz _) (wpS (by simp))) (fun _=>?_)
 refine ax (fun _=>aQ ⟨iz _,iz _⟩ (wpS (by simp))) (fun _=>?_)
 refine ax (fun _=>aQ ⟨iz _,iz _,iz _⟩ (wpS (by simp))) (fun _=>?_)
 exact aQ ⟨iz _,iz _,iz _,iz _⟩ (wpS (by simp))
theorem D9 (F:Nat) (s:ar) (hn:s.b.length≤20000) (hF:20<F):Wp (correctorref5_Escape F s) (fun r=>0≤r.2∧r.2≤10∧r.1.b.length≤4):=by
 have eB:∀ {α:Type} (x:α),(0:Int)≤0∧(0:Int)≤10∧([]:List UInt8).length≤4:=fun _=>by simp
 unfold correctorref5_Escape
 refine ax (fun _=>wpS (by simp)) (fun c0=>?_)
 refine aQ (by omega) (az (a7 (by omega) fun t ht=>?_))
 refine ax (fun _=>?_) (fun _=>wpS (by simp))
 refine aQ (by omega) (az (a7 (by omega) fun t ht=>?_))
 have ab:=t.toNat_lt
 refine bp (y6 F _ (by omega)) ?_
 rintro ⟨o,b⟩ ho
 simp only at ho ⊢
 refine ax (fun _=>wpS ⟨by simp,by simp,by show o.b.length≤4;omega⟩) (fun _=>?_)
 refine bp (Q:=fun x=>x=0∨x=2∨x=4∨x=8) ?_ ?_
 ·refine aQ (by omega) (az (a7 (by omega) fun t ht=>?_))
  repeat' (first | (refine ax (fun _=>?_) (fun _=>?_)) | exact wpS (by simp))
 intro x hx
 refine ax (fun _=>wpS (by simp)) (fun cx=>?_)
 have hw:af (2+x)=2+x:=a8 (by omega) (by omega)
 rw [hw]
 refine ax (fun _=>wpS (by simp)) (fun c1=>?_)
 have key:∀ (m:Nat) (v i:Int),0≤i→i≤x→x - i<m→Wp (correctorref5_Escape_l0 F s m x v i) (fun r=>match r with | .inl z=>z.1=x | .inr z=>z.2=0∧z.1.b.length≤4):=by
  intro m
  induction m with
  | zero=>intro v i h1 h2 I;omega
  | succ m ih=>
   intro v i h1 h2 I
   have J:af (2+i)=2+i:=a8 (by omega) (by omega)
   have U:af (i+1)=i+1:=a8 (by omega) (by omega)
   rw [correctorref5_Escape_l0,J,U]
   refine ax (fun c=>?_) (fun c=>wpS rfl)
   refine aQ (by omega) (az (a7 (by omega) fun t ht=>?_))
   refine bp (zL F _) fun h _=>?_
   exact ax (fun _=>wpS ⟨rfl,by simp⟩) (fun _=>ih _ _ (by omega) (by omega) (by omega))
 refine bp (key F 0 0 (by omega) (by omega) (by omega)) ?_
 rintro (⟨j,aa⟩ | ⟨j,aa⟩) hz
 ·simp only at hz ⊢
  subst hz
  refine bp (Q:=fun r=>match r with | .inl _=>True | .inr z=>z.2=0∧z.1.b.length≤4) ?_ ?_
  ·repeat' (first | (refine ax (fun _=>?_) (fun _=>?_)) | exact wpS trivial | exact wpS ⟨rfl,by simp⟩)
  ·rintro (u | ⟨ad,ae⟩) hy
   ·refine bp (wQ F _) fun l hl=>?_
    rw [hw]
    exact wpS ⟨by show 0≤2+j;omega,by show 2+j≤10;omega,hl⟩
   ·simp only at hy;obtain ⟨rfl,hy⟩:=hy;exact wpS ⟨by simp,by simp,hy⟩
 ·simp only at hz;obtain ⟨rfl,hz⟩:=hz;exact wpS ⟨by simp,by simp,hz⟩
theorem qdouble_wp (F:Nat) (s:ar) (hn:s.b.length≤20000) (hF:s.b.length+30<F):Wp (oc F s) (fun r=>(r.2.1.length:Int)≤s.b.length):=by
 have key:∀ (m:Nat) (o:ar) (l:List Int) (x:Int),1≤x→x≤s.b.length+20→s.b.length+21 - x<m→(o.b.length:Int)≤4 * x→(l.length:Int)≤x - 1→((l.length:Int)≤s.b.length)→Wp (correctorref7_double_l0 F s m o l x) (fun r=>match r with | .inl z=>(z.2.length:Int)≤s.b.length | .inr z=>(z.2.1.length:Int)≤s.b.length):=by
  intro m
  induction m with
  | zero=>intro o l x h1 h2 U;omega
  | succ m ih=>
   intro o l x h1 h2 U ah ai j
   have hw:af (x+1)=x+1:=a8 (by omega) (by omega)
   rw [correctorref7_double_l0,hw]
   refine ax (fun c=>?_) (fun c=>wpS j)
   have hl:((s.b.take (x+1).toNat).drop x.toNat).length=1:=by rw [List.length_drop,List.length_take];omega
   refine aQ (by omega) (az (a7 (by omega) fun t ht=>?_))
   refine ax (fun _=>wpS j) (fun _=>?_)
   refine aQ (by omega) (az (a7 (by omega) fun t ht=>?_))
   refine ax (fun _=>?_) (fun _=>?_)
   ·have hle:=vz s.b x (by omega)
    refine aQ (by omega) (bp (D9 F _ (by show ((s.b.take _).drop _).length≤20000;omega) (by omega)) ?_)
    rintro ⟨e,k⟩ ⟨aa,I,J⟩
    simp only at aa I J ⊢
    refine bp (Q:=fun z=>(z.1.length:Int)≤l.length+1∧z.2.1.b.length≤4∧1≤z.2.2∧z.2.2≤10) ?_ ?_
    ·refine ax (fun _=>?_) (fun _=>wpS ⟨by simp only;omega,J,by simp only;omega,I⟩)
     refine aQ (by rw [List.length_singleton];omega) (aQ (by omega) (wpS ⟨by show ((l++[x]).length:Int)≤_;simp,by show ((s.b.take _).drop _).length≤4;omega,by simp,by simp⟩))
    ·rintro ⟨l',e',k'⟩ ⟨r1,ab,ad,ae⟩
     simp only at r1 ab ad ae ⊢
     have ag:af (x+k')=x+k':=a8 (by omega) (by omega)
     rw [ag]
     exact aQ (by omega) (ih _ _ _ (by omega) (by omega) (by omega) (by show ((o.b++e'.b).length:Int)≤_;rw [List.length_append];omega) (by omega) (by omega))
   ·refine aQ (by omega) (aQ (by rw [hl];omega) (ih _ _ _ (by omega) (by omega) (by omega) (by show ((o.b++_).length:Int)≤_;rw [List.length_append,hl];omega) (by omega) j))
 unfold oc
 refine bp (key F ⟨[]⟩ [] 1 (by omega) (by omega) (by omega) (by simp) (by simp) (by simp)) ?_
 rintro (⟨x,y⟩ | y) h<;>exact wpS h
theorem v7 (F:Nat) (k:Int) (s:ar) (hn:s.b.length≤20000) (hF:s.b.length+30<F):Wp (mU F k s) (fun r=>(r.2.1.length:Int)≤s.b.length):=by
 unfold mU
 refine ax (fun _=>wpS (by simp)) (fun _=>?_)
 refine ax (fun _=>wpS (by simp)) (fun _=>?_)
 refine ax (fun _=>bp (xg F s hn (by omega)) fun r _=>wpS (by simp)) (fun _=>?_)
 refine ax (fun _=>bp (qdouble_wp F s hn hF) fun r hr=>wpS hr) (fun _=>?_)
 exact wpS (by simp)
end Go.Proofs.Ytcilejikekccmaa.M
namespace Go.Proofs.Ytcilejikekccmaa.M
open Go Am Sy
theorem Cf (F:Nat) (B:List UInt8) (L:List al) (rs:List an) (bad:List Int) (hb:bad.length≤1000):∀ (m:Nat) (D:List aj) (i:Nat),bad.length - i<m→i≤bad.length→D.length+(bad.length - i)≤100000→Wp (correctorref12_told_l0 F B L rs m D bad (i:Int)) (fun D'=>D'.length≤D.length+(bad.length - i)):=by
 intro m
 induction m with
 | zero=>intro D i h1;omega
 | succ m ih=>
  intro D i h1 h2 j
  rw [correctorref12_told_l0]
  refine ax (fun c=>?_) (fun c=>wpS (by omega))
  have hw:af ((i:Int)+1)=((i+1:Nat):Int):=by rw [a8 (by omega) (by omega)];omega
  refine aQ (by omega) (az (a7 (by omega) fun t ht=>?_))
  refine aQ (by omega) (az (a7 (by omega) fun t ht=>?_))
  refine aQ (by rw [List.length_singleton];omega) ?_
  rw [hw]
  refine (ih _ (i+1) (by omega) (by omega) (by rw [List.length_append,List.length_singleton];omega)).mono fun D' jt=>?_
  rw [List.length_append,List.length_singleton] at jt;omega
def TB (B:List UInt8) (L:List al):Prop:=∀ t∈L,0≤t.ai∧t.ai<t.To∧t.To≤B.length
theorem Tg.tb {n:Int}:∀ {s:List al} {f e:Int},Tg f s e→0≤f→e≤n→∀ t∈s,0≤t.ai∧t.ai<t.To∧t.To≤n:=by
 intro s
 induction s with
 | nil=>intro f e _ _ _ t ht;cases ht
 | cons x s ih=>
  rintro f e ⟨h1,h2,j⟩ h0 he t ht
  have:=j.le
  rcases List.mem_cons.1 ht with rfl | ht
  ·omega
  ·exact ih j (by omega) he t ht
theorem Dq (F:Nat) (B:List UInt8) (L:List al) (rs:List an) (hB:B.length≤20000) (hT:TB B L) (D:List aj) (i:Int) (k:Nat) (t:al) (hk:L[k]?=some t):∀ (m:Nat) (pq:Bool) (j:Int),0≤j→t.To - j<m→j≤20001→0<m→Wp (correctorref12_told_l3 F B L rs m D i (k:Int) pq j) (fun r=>r.1=D∧r.2.1=i∧r.2.2.1=k):=by
 obtain ⟨t1,t2,t3⟩:=hT t (List.mem_of_getElem? hk)
 have gV:=gL hk
 intro m
 induction m with
 | zero=>intro pq j h1 h2 I J;omega
 | succ m ih=>
  intro pq j h1 h2 I J
  have hw:af (j+1)=j+1:=a8 (by omega) (by omega)
  rw [correctorref12_told_l3,hw]
  refine aQ (by omega) ?_
  rw [Int.toNat_natCast,hk]
  refine aU rfl (ax (fun c=>?_) (fun c=>wpS ⟨rfl,rfl,rfl⟩))
  refine bp (Q:=fun r=>r.1=D) (ax (fun _=>wpS rfl) (fun _=>aQ (by omega) (az (a7 (by omega) fun b hb=>ax (fun _=>wpS rfl) (fun _=>wpS rfl))))) ?_
  rintro ⟨D',Cz⟩ rfl
  exact ih Cz (j+1) (by omega) (by omega) (by omega) (by omega)
theorem Ae (F:Nat) (hF:2500≤F) (B:List UInt8) (L:List al) (rs:List an) (hB:B.length≤1000) (hL:L.length≤450) (hT:TB B L) (i:Nat) (r:an) (hi:rs[i]?=some r) (hr:0≤r.ai∧r.ai<r.To∧r.To≤L.length):∀ (m:Nat) (D:List aj) (k:Nat),(k:Int)≤r.To→r.To - k<m→D.length+(r.To.toNat - k)≤100000→Wp (correctorref12_told_l2 F B L rs m D (i:Int) (k:Int)) (fun z=>z.1.length≤D.length+(r.To.toNat - k)∧z.2=(i:Int)):=by
 have dq:=gL hi
 intro m
 induction m with
 | zero=>intro D k h1 h2;omega
 | succ m ih=>
  intro D k h1 h2 ag
  rw [correctorref12_told_l2]
  have hb:0≤(i:Int)∧(i:Int)<(rs.length:Int):=by omega
  simp only [if_pos hb,Int.toNat_natCast,hi]
  refine aU rfl (ax (fun c=>?_) (fun c=>wpS ⟨by simp,rfl⟩))
  have gV:k<L.length:=by omega
  have hg:=List.getElem?_eq_getElem gV
  have j:0≤(k:Int)∧(k:Int)<(L.length:Int):=by omega
  have hw:af ((k:Int)+1)=((k+1:Nat):Int):=by rw [a8 (by omega) (by omega)];omega
  refine aU rfl (ax (fun ab=>?_) (fun ab=>wpS ⟨by simp,rfl⟩))
  simp only [if_pos j,hg,k2]
  refine aU rfl (aU rfl (ax (fun _=>wpS ⟨by simp,rfl⟩) (fun _=>?_)))
  obtain ⟨t1,t2,t3⟩:=hT _ (List.mem_of_getElem? hg)
  refine aU rfl (bp (Dq F B L rs (by omega) hT D i k _ hg F false L[k].ai t1 (by omega) (by omega) (by omega)) ?_)
  rintro ⟨ad,i1,ah,pq⟩ ⟨I,J,U⟩
  simp only at I J U ⊢
  subst I J U
  simp only [if_pos j,Int.toNat_natCast,hg]
  refine bp (Q:=fun z=>z.1=ad) (ax (fun _=>aU rfl (ax (fun _=>wpS rfl) (fun _=>wpS rfl))) (fun _=>wpS rfl)) ?_
  rintro ⟨ae,ak⟩ aa
  simp only at aa ⊢
  subst aa
  refine bp (Q:=fun D'=>D'.length≤ae.length+1) (ax (fun _=>aU rfl (aU rfl (aQ (by rw [List.length_singleton];omega) (wpS (by rw [List.length_append,List.length_singleton];omega))))) (fun _=>wpS (by omega))) ?_
  intro D' jt
  rw [hw]
  refine (ih D' (k+1) (by omega) (by omega) (by omega)).mono fun z hz=>⟨by omega,hz.2⟩
theorem vS (F:Nat) (hF:2500≤F) (B:List UInt8) (L:List al) (rs:List an) (hB:B.length≤1000) (hL:L.length≤450) (hT:TB B L) (hR:RO L rs):∀ (m:Nat) (D:List aj) (i:Nat) (f:Int),rs.length - i<m→i≤rs.length→0≤f→f≤L.length→Tl f (rs.drop i)→D.length+(L.length - f.toNat)≤100000→Wp (correctorref12_told_l1 F B L rs m D (i:Int)) (fun D'=>D'.length≤D.length+(L.length - f.toNat)):=by
 have hlen:=hR.len
 intro m
 induction m with
 | zero=>intro D i f h1;omega
 | succ m ih=>
  intro D i f h1 h2 ad ae j ag
  rw [correctorref12_told_l1]
  refine ax (fun c=>?_) (fun c=>wpS (by omega))
  have hi:i<rs.length:=by omega
  have hg:=List.getElem?_eq_getElem hi
  have hb:0≤(i:Int)∧(i:Int)<(rs.length:Int):=by omega
  have hw:af ((i:Int)+1)=((i+1:Nat):Int):=by rw [a8 (by omega) (by omega)];omega
  obtain ⟨r0,r1,J⟩:=hR.gh _ (List.mem_of_getElem? hg)
  rw [List.drop_eq_getElem_cons hi] at j
  obtain ⟨ah,U⟩:=j
  simp only [if_pos hb,Int.toNat_natCast,hg]
  have e:rs[i].ai=((rs[i].ai.toNat:Nat):Int):=by omega
  have hh:=Ae F hF B L rs hB hL hT i _ hg ⟨r0,r1,J⟩ F D rs[i].ai.toNat (by omega) (by omega) (by omega)
  rw [← e] at hh
  refine aU rfl (bp hh ?_)
  rintro ⟨aa,i1⟩ ⟨ab,I⟩
  simp only at ab I ⊢
  subst I
  rw [hw]
  refine (ih aa (i+1) rs[i].To (by omega) (by omega) (by omega) (by omega) U (by omega)).mono fun D' jt=>by omega
theorem EM (F:Nat) (B:List UInt8) (L:List al) (rs:List an) (i:Nat) (hi:i<L.length) (l:List Int) (hl:l.length≤1000):∀ (m:Nat) (D:List aj) (j:Nat),l.length - j<m→j≤l.length→D.length+(l.length - j)≤100000→Wp (correctorref12_told_l5 F B L rs m D (i:Int) l (j:Int)) (fun z=>z.1.length≤D.length+(l.length - j)∧z.2=(i:Int)):=by
 intro m
 induction m with
 | zero=>intro D j h1;omega
 | succ m ih=>
  intro D j h1 h2 I
  rw [correctorref12_told_l5]
  have hw:af ((j:Int)+1)=((j+1:Nat):Int):=by rw [a8 (by omega) (by omega)];omega
  refine ax (fun c=>?_) (fun c=>wpS ⟨by simp,rfl⟩)
  refine aQ (by omega) (az (a7 (by omega) fun t ht=>?_))
  refine aQ (by omega) (az (a7 (by omega) fun t ht=>?_))
  refine aQ (by omega) (az (a7 (by omega) fun t ht=>?_))
  refine aQ (by omega) (az (a7 (by omega) fun t ht=>?_))
  refine aQ (by rw [List.length_singleton];omega) ?_
  rw [hw]
  refine (ih _ (j+1) (by omega) (by omega) (by rw [List.length_append,List.length_singleton];omega)).mono fun z hz=>?_
  rw [List.length_append,List.length_singleton] at hz
  exact ⟨by omega,hz.2⟩
theorem Ez (F:Nat) (hF:2500≤F) (B:List UInt8) (L:List al) (rs:List an) (hB:B.length≤1000) (hL:L.length≤450) (hT:TB B L):∀ (m:Nat) (D:List aj) (i:Nat) (f e:Int),L.length - i<m→i≤L.length→0≤f→e≤B.length→Tg f (L.drop i) e→D.length+((e - f).toNat+(L.length - i))≤100000→Wp (correctorref12_told_l4 F B L rs m D (i:Int)) (fun D'=>D'.length≤D.length+((e - f).toNat+(L.length - i))):=by
 intro m
 induction m with
 | zero=>intro D i f e h1;omega
 | succ m ih=>
  intro D i f e h1 h2 ak ad j ao
  rw [correctorref12_told_l4]
  refine ax (fun c=>?_) (fun c=>wpS (by omega))
  have hi:i<L.length:=by omega
  have hg:=List.getElem?_eq_getElem hi
  have hb:0≤(i:Int)∧(i:Int)<(L.length:Int):=by omega
  have hw:af ((i:Int)+1)=((i+1:Nat):Int):=by rw [a8 (by omega) (by omega)];omega
  obtain ⟨t1,t2,t3⟩:=hT _ (List.mem_of_getElem? hg)
  rw [List.drop_eq_getElem_cons hi] at j
  obtain ⟨aq,ar,U⟩:=j
  have au:=U.le
  simp only [if_pos hb,Int.toNat_natCast,hg]
  refine bp (Q:=fun z=>z.1.length≤D.length+((L[i].To - f).toNat+1)∧z.2=(i:Int)) ?_ ?_
  ·refine bp (Q:=fun z=>match z with | .inl J=>J=D | .inr z=>z=(D,(i:Int))) ?_ ?_
   ·exact aU rfl (ax (fun _=>wpS rfl) (fun _=>aU rfl (ax (fun _=>wpS rfl) (fun _=>wpS rfl))))
   rintro (J | z) hz
   ·simp only at hz ⊢
    subst hz
    refine aU rfl (aU rfl (aU rfl (aQ (by omega) ?_)))
    have gu:((B.take L[i].To.toNat).drop L[i].ai.toNat).length≤(L[i].To - f).toNat:=by rw [List.length_drop,List.length_take];omega
    refine bp (v7 F L[i].Kind _ (by show (List.drop _ _).length≤20000;omega) (by show (List.drop _ _).length+30<F;omega)) ?_
    rintro ⟨s,l,en⟩ hl
    have jh:(l.length:Int)≤(L[i].To - f).toNat:=Int.le_trans hl (by show ((List.drop _ _).length:Int)≤_;omega)
    simp only
    refine bp (Q:=fun z=>z.1.length≤J.length+1∧z.2=l) (ax (fun _=>wpS ⟨by simp,rfl⟩) (fun _=>aU rfl (aU rfl (aQ (by rw [List.length_singleton];omega) (wpS ⟨by simp,rfl⟩))))) ?_
    rintro ⟨ae,ag⟩ ⟨ah,aa⟩
    simp only at ah aa ⊢
    subst aa
    have j:=EM F B L rs i hi ag (by omega) F ae 0 (by omega) (by omega) (by omega)
    refine bp j ?_
    rintro ⟨ab,i3⟩ ⟨r1,I⟩
    exact wpS ⟨by simp only at r1 ⊢;omega,I⟩
   ·simp only at hz ⊢
    subst hz
    exact wpS ⟨by simp only;omega,rfl⟩
  ·rintro ⟨ab,i3⟩ ⟨r1,I⟩
   simp only at r1 I ⊢
   subst I
   rw [hw]
   refine (ih ab (i+1) L[i].To e (by omega) (by omega) (by omega) ad U (by omega)).mono fun D' jt=>by omega
theorem y2 (F:Nat) (hF:2500≤F) (B:List UInt8) (L:List al) (rs:List an) (hB:B.length≤450) {e:Int} (hT:Tg 0 L e) (he:e≤B.length) (hR:RO L rs):Wp (mT F B L rs) (fun D=>D.length≤1800):=by
 have uk:TB B L:=hT.tb (Int.le_refl _) he
 have hle:=hT.le
 unfold mT
 refine bp (yb F B (by omega) (by omega)) fun bad Fk=>?_
 refine bp (Cf F B L rs bad (by omega) F [] 0 (by omega) (by omega) (by simp;omega)) fun j h1=>?_
 simp only [List.length_nil] at h1
 refine bp (vS F hF B L rs (by omega) (by omega) uk hR F j 0 0 (by have:=hR.len;omega) (by omega) (Int.le_refl _) (by omega) hR.tl (by omega)) fun I h2=>?_
 refine bp (Ez F hF B L rs (by omega) (by omega) uk F I 0 0 e (by omega) (by omega) (Int.le_refl _) he hT (by omega)) fun J U=>wpS (by omega)
theorem C9 (F:Nat) (a b:aj):Wp (nH F a b) (fun _=>True):=by
 unfold nH
 repeat' (first | (refine ax (fun _=>?_) (fun _=>?_)) | exact wpS trivial)
theorem wa {α:Type} (xs:List α) (a b k:Nat) (h:a+k≤xs.length) (h2:b+k≤xs.length):(iF xs a b k).length=xs.length:=by
 unfold iF
 simp only [List.length_append,List.length_take,List.length_drop];omega
theorem yH (F:Nat) (a:List aj) (i:Nat) (hi:i<a.length) (out:List aj) (ho:out.length≤100000):∀ (m:Nat) (n:Nat),n<m→n≤out.length→Wp (lU F a m out (i:Int) (n:Int)) (fun z=>z.1=out∧z.2.1=(i:Int)∧0≤z.2.2∧z.2.2≤out.length):=by
 intro m
 induction m with
 | zero=>intro n h1;omega
 | succ m ih=>
  intro n h1 h2
  rw [lU]
  refine ax (fun c=>?_) (fun c=>wpS ⟨rfl,rfl,by simp,by simp only;omega⟩)
  have hw:af ((n:Int) - 1)=((n - 1:Nat):Int):=by rw [a8 (by omega) (by omega)];omega
  rw [hw]
  refine aQ (by omega) (az (a7 (by omega) fun t ht=>?_))
  refine aQ (by omega) (az (a7 (by omega) fun u hu=>?_))
  refine bp (C9 F t u) fun b _=>?_
  exact ax (fun _=>ih (n - 1) (by omega) (by omega)) (fun _=>wpS ⟨rfl,rfl,by simp,by simp only;omega⟩)
theorem xb (F:Nat) (a:List aj) (ha:a.length≤90000) (hF:a.length+10<F):Wp (nX F a) (fun _=>True):=by
 have key:∀ (m:Nat) (out:List aj) (i:Nat),a.length - i<m→i≤a.length→out.length≤i→Wp (correctorref14_Sort_l0 F a m out (i:Int)) (fun _=>True):=by
  intro m
  induction m with
  | zero=>intro out i h1;omega
  | succ m ih=>
   intro out i h1 h2 ag
   rw [correctorref14_Sort_l0]
   refine ax (fun c=>?_) (fun c=>wpS trivial)
   have hi:i<a.length:=by omega
   have hw:af ((i:Int)+1)=((i+1:Nat):Int):=by rw [a8 (by omega) (by omega)];omega
   refine bp (Q:=fun z=>z.1.length≤i+1∧z.2=(i:Int)) ?_ ?_
   ·refine bp (yH F a i hi out (by omega) F out.length (by omega) (Nat.le_refl _)) ?_
    rintro ⟨I,i2,k⟩ ⟨J,U,ab,ad⟩
    simp only at J U ab ad ⊢
    subst J U
    have qT:af (k+1)=k+1:=a8 (by omega) (by omega)
    rw [qT]
    refine bp (Q:=fun z=>match z with | .inl o=>o=I | .inr z=>z=(I,(i:Int))) ?_ ?_
    ·refine ax (fun c0=>?_) (fun _=>wpS rfl)
     rw [a8 (by omega) (by omega)]
     refine aQ (by omega) (az (a7 (by omega) fun t ht=>?_))
     refine aQ (by omega) (az (a7 (by omega) fun u hu=>?_))
     exact ax (fun _=>wpS rfl) (fun _=>wpS rfl)
    rintro (j | z) hz
    ·simp only at hz ⊢
     subst hz
     have hlen:(j++[(⟨0,0,0⟩:aj)]).length=j.length+1:=by simp
     have c4:=wa (j++[(⟨0,0,0⟩:aj)]) (k+1).toNat k.toNat (Nat.min (((j++[(⟨0,0,0⟩:aj)]).length:Int).toNat - k.toNat) (((j++[(⟨0,0,0⟩:aj)]).length:Int).toNat - (k+1).toNat)) (by rw [hlen];simp only [Nat.min_def];split<;>omega) (by rw [hlen];simp only [Nat.min_def];split<;>omega)
     refine aQ (by rw [List.length_singleton];omega) (aQ (by rw [hlen];omega) (aQ (by rw [hlen];omega) ?_))
     refine aQ (by omega) (az (a7 (by omega) fun t ht=>?_))
     refine aQ (by rw [c4,hlen];omega) (az (a7 (by rw [c4,hlen];omega) fun u hu=>wpS ⟨?_,rfl⟩))
     show (List.set _ _ _).length≤_
     rw [List.length_set,c4,hlen];omega
    ·simp only at hz ⊢
     subst hz
     exact wpS ⟨by simp only;omega,rfl⟩
   ·rintro ⟨ae,i4⟩ ⟨r1,aa⟩
    simp only at r1 aa ⊢
    subst aa
    rw [hw]
    exact ih ae (i+1) (by omega) (by omega) r1
 unfold nX
 exact bp (key F [] 0 (by omega) (by omega) (by simp)) fun _ _=>wpS trivial
theorem DI (F:Nat) (hF:5000≤F) (B:List UInt8) (hB:B.length≤450) (depth:Int) (hd:1≤depth∧depth≤50):Wp (lF F B depth) (fun z=>Tg 0 z.1 B.length∧G z.2.1.ak z.1.length∧(z.2.1.ak.length:Int)≤2000):=by
 unfold lF
 refine eH (by omega) (eH (by omega) ?_)
 refine bp (ym F B (by omega) (by omega)) fun L hL=>?_
 have hT:=hL.tg
 have hle:=hT.le
 obtain ⟨rs,r1,j⟩:=wO F (by omega) hL (by omega) (Int.le_refl _)
 refine aU r1 (aU (Ds F (L.length:Int) (by omega) (by omega)) ?_)
 have hp:PI (L.length:Int) (⟨⟨L,⟨[⟨1,0,(L.length:Int), -1,[],false⟩]⟩,[],(L.length:Int)⟩,rs, -1,false,[],depth,0⟩:Pp) 0:=
  ⟨⟨⟨by show (0:Int)≤L.length;omega,Int.le_refl _,by show L.length≤450;omega,hL.kinds⟩,rfl,G.new _ (by omega),fun i x hx h0=>by
   cases i with
   | zero=>omega
   | succ i=>simp at hx⟩,j,by show 0≤depth∧depth≤100;omega, .inl ⟨rfl,rfl⟩,by simp,by simp⟩
 have hlen:=j.len
 have wm:=xQ F (by omega) B depth (n:=(L.length:Int)) (L:=L) (rs:=rs) F (⟨⟨L,⟨[⟨1,0,(L.length:Int), -1,[],false⟩]⟩,[],(L.length:Int)⟩,rs, -1,false,[],depth,0⟩:Pp) 0 (by omega) (by omega) rfl rfl hp (Int.le_refl _) (by show (0:Int)≤L.length;omega)
 refine bp wm ?_
 rintro ⟨ab,ad,I,doc,root,S,dep,read⟩ ⟨J,U,ae,aa,af,ag⟩
 simp only at J U ae aa af ag ⊢
 subst J U
 refine bp (y2 F (by omega) B ab ad hB hT (Int.le_refl _) j) fun D hD=>?_
 refine aQ (by omega) (bp (xb F (I.D++D) (by rw [List.length_append];omega) (by rw [List.length_append];omega)) fun ah _=>wpS ⟨hT,aa,by show (I.T.ak.length:Int)≤2000;omega⟩)
end Go.Proofs.Ytcilejikekccmaa.M
namespace Go.Proofs.Ytcilejikekccmaa.M
open Go Am Sy
def wi (a n:Int):Int:=if a.tmod n<0 then a.tmod n+n else a.tmod n
theorem xG (a n:Int) (hn:0<n):0≤wi a n∧wi a n<n:=by
 unfold wi
 have h1:=Int.tmod_lt_of_pos a hn
 have h2:=Int.lt_tmod_of_pos a hn
 split<;>omega
theorem BB:pb 6000=some true:=by decide+kernel
theorem tr:∀ (n:Nat) (l:List Nat),l.Nodup→(∀ x∈l,x<n)→l.length≤n:=by
 intro n
 induction n with
 | zero=>
  intro l _ h
  cases l with
  | nil=>simp
  | cons x l=>exact absurd (h x List.mem_cons_self) (by omega)
 | succ n ih=>
  intro l hn h
  by_cases c:n∈l
  ·have h1:=ih (l.erase n) (hn.erase n) (fun x hx=>by
    have h2:=h x (List.mem_of_mem_erase hx)
    have:x≠n:=fun e=>by subst e;exact (hn.not_mem_erase) hx
    omega)
   rw [List.length_erase_of_mem c] at h1
   omega
  ·have:=ih l hn (fun x hx=>by
    have h2:=h x hx
    have:x≠n:=fun e=>by subst e;exact c hx
    omega)
   omega
theorem wY:∀ (n:Nat) (l:List Nat),l.Nodup→(∀ x∈l,x<n)→n≤l.length→∀ k,k<n→k∈l:=by
 intro n l hn h hl k hk
 rcases Classical.em (k∈l) with c | c
 ·exact c
 ·have h1:=tr n (k::l) (List.nodup_cons.2 ⟨c,hn⟩) (fun x hx=>by
   rcases List.mem_cons.1 hx with rfl | hx
   ·exact hk
   ·exact h x hx)
  rw [List.length_cons] at h1
  omega
theorem yC {N:List aq} {n:Int} (h:G N n):∀ (i:Nat),(((N.drop i).flatMap (·.Kids)).map Int.toNat).Nodup∧(∀ k∈((N.drop i).flatMap (·.Kids)).map Int.toNat,k<N.length∧0<k∧∃ (j:Nat) (x:aq),i≤j∧N[j]?=some x∧(k:Int)∈x.Kids):=by
 have fin:∀ i,N.length≤i→(((N.drop i).flatMap (·.Kids)).map Int.toNat).Nodup∧(∀ k∈((N.drop i).flatMap (·.Kids)).map Int.toNat,k<N.length∧0<k∧∃ (j:Nat) (x:aq),i≤j∧N[j]?=some x∧(k:Int)∈x.Kids):=by
  intro i hi
  rw [List.drop_eq_nil_of_le hi]
  exact ⟨List.nodup_nil,fun k hk=>by simp at hk⟩
 have gen:∀ (d i:Nat),i+d=N.length→(((N.drop i).flatMap (·.Kids)).map Int.toNat).Nodup∧(∀ k∈((N.drop i).flatMap (·.Kids)).map Int.toNat,k<N.length∧0<k∧∃ (j:Nat) (x:aq),i≤j∧N[j]?=some x∧(k:Int)∈x.Kids):=by
  intro d
  induction d with
  | zero=>intro i hi;exact fin i (by omega)
  | succ d ih=>
   intro i hi
   have dq:i<N.length:=by omega
   have hg:=List.getElem?_eq_getElem dq
   obtain ⟨af,ad⟩:=ih (i+1) (by omega)
   rw [List.drop_eq_getElem_cons dq,List.flatMap_cons,List.map_append]
   have hm:∀ k∈N[i].Kids,(i:Int)<k∧k<N.length∧∃ y,N[k.toNat]?=some y∧y.Up=i:=fun k hk=>by
    obtain ⟨y,I,J,U,ae,_⟩:=(h.cT i _ hg).1.mem k hk
    exact ⟨I,J,y,U,ae⟩
   refine ⟨List.nodup_append.2 ⟨?_,af,?_⟩,?_⟩
   ·have fG:=h.nd _ (List.mem_of_getElem? hg)
    refine List.Pairwise.map _ (fun a b dY=>dY) ?_
    refine List.Pairwise.imp_of_mem (fun {a b} ha hb dY e=>dY ?_) fG
    obtain ⟨I,_⟩:=hm a ha
    obtain ⟨J,_⟩:=hm b hb
    omega
   ·intro a ha b hb e
    subst e
    obtain ⟨k,hk,rfl⟩:=List.mem_map.1 ha
    obtain ⟨I,J,y,U,ae⟩:=hm k hk
    obtain ⟨_,_,j,x,w1,w2,aa⟩:=ad _ hb
    obtain ⟨ah,_,_,ab,v4,_⟩:=(h.cT j x w2).1.mem _ aa
    rw [Int.toNat_natCast,U] at ab
    simp only [Option.some.injEq] at ab
    subst ab
    omega
   ·intro k hk
    rcases List.mem_append.1 hk with hk | hk
    ·obtain ⟨c,hc,rfl⟩:=List.mem_map.1 hk
     obtain ⟨I,J,_⟩:=hm c hc
     exact ⟨by omega,by omega,i,_,Nat.le_refl _,hg,by rw [Int.toNat_of_nonneg (by omega)];exact hc⟩
    ·obtain ⟨w0,ag,j,x,w1,w2,aa⟩:=ad k hk
     exact ⟨w0,ag,j,x,by omega,w2,aa⟩
 intro i
 rcases Nat.lt_or_ge i N.length with q | q
 ·exact gen (N.length - i) i (by omega)
 ·exact fin i q
theorem G.gg {N:List aq} {n:Int} (h:G N n) {k:Nat} (h0:0<k) (hk:k<N.length) {z:aq} (hz:N[k]?=some z):∃ (j:Nat) (x:aq),z.Up=j∧N[j]?=some x∧(k:Int)∈x.Kids∧j<k:=by
 obtain ⟨U,I⟩:=yC h 0
 rw [List.drop_zero] at U I
 have hlen:(((N.flatMap (·.Kids)).map Int.toNat)).length=ee N:=by
  rw [List.length_map,List.length_flatMap];rfl
 have hs:=h.sum
 have ab:0∉(N.flatMap (·.Kids)).map Int.toNat:=fun hm=>by have:=(I 0 hm).2.1;omega
 have hm:=wY N.length (0::(N.flatMap (·.Kids)).map Int.toNat) (List.nodup_cons.2 ⟨ab,U⟩) (fun x hx=>by
  rcases List.mem_cons.1 hx with rfl | hx
  ·exact h.pos
  ·exact (I x hx).1) (by rw [List.length_cons,hlen];omega) k hk
 rcases List.mem_cons.1 hm with rfl | hm
 ·omega
 ·obtain ⟨_,_,j,x,_,w2,aa⟩:=I k hm
  obtain ⟨y,v1,_,J,v4,_⟩:=(h.cT j x w2).1.mem _ aa
  rw [Int.toNat_natCast,hz] at J
  simp only [Option.some.injEq] at J
  subst J
  exact ⟨j,x,v4,w2,aa,by omega⟩
theorem LP.gg {l:List aq} {i To:Int}:∀ {ks:List Int} {e:Int},LP l i To e ks→(∀ k∈ks,∀ y,l[k.toNat]?=some y→y.ai≤y.To)→∀ k∈ks,∃ y,l[k.toNat]?=some y∧e≤y.ai∧y.To≤To:=by
 intro ks
 induction ks with
 | nil=>intro e _ _ k hk;cases hk
 | cons j ks ih=>
  rintro e ⟨y,h1,h2,ae,I,af,J,U,aa⟩ hr k hk
  have hy:=hr j List.mem_cons_self y I
  rcases List.mem_cons.1 hk with rfl | hk
  ·exact ⟨y,I,J,U⟩
  ·obtain ⟨z,ab,ag,ad⟩:=ih aa (fun k hk=>hr k (List.mem_cons_of_mem _ hk)) k hk
   exact ⟨z,ab,by omega,ad⟩
theorem G.xr {N:List aq} {n:Int} (h:G N n) {i:Nat} {x:aq} (hx:N[i]?=some x) {k:Int} (hk:k∈x.Kids):∃ y,N[k.toNat]?=some y∧x.ai≤y.ai∧y.ai≤y.To∧y.To≤x.To:=by
 obtain ⟨y,j,I,J⟩:=(h.cT i x hx).1.gg (fun k _ y hy=>(h.cT _ y hy).2) k hk
 exact ⟨y,j,I,(h.cT _ y j).2,J⟩
theorem G.gh {N:List aq} {n:Int} (h:G N n):∀ (m k:Nat),k<m→∀ x,N[k]?=some x→0≤x.ai∧x.ai≤x.To∧x.To≤n:=by
 intro m
 induction m with
 | zero=>intro k hk;omega
 | succ m ih=>
  intro k hk x hx
  rcases Nat.eq_zero_or_pos k with z | z
  ·subst z
   obtain ⟨r,r1,_,U,aa,_⟩:=h.root
   rw [hx] at r1;simp only [Option.some.injEq] at r1;subst r1
   have:=(h.cT 0 x hx).2
   omega
  ·obtain ⟨j,y,ab,I,J,ad⟩:=h.gg z (fI hx) hx
   obtain ⟨w,w1,w2,ae,af⟩:=h.xr I J
   rw [Int.toNat_natCast,hx] at w1;simp only [Option.some.injEq] at w1;subst w1
   have:=ih j (by omega) y I
   omega
end Go.Proofs.Ytcilejikekccmaa.M
namespace Go.Proofs.Ytcilejikekccmaa.M
open Go Am Sy
theorem B0 (F:Nat) (a:Int):Wp (mA F a) (fun s=>s.b.length≤20):=by
 unfold mA
 have hw:∀ n:Int,0<n→n≤1000→mV F a n=some (wi a n):=by
  intro n hn hm
  unfold mV
  have h1:=Int.tmod_lt_of_pos a hn
  have h2:=Int.lt_tmod_of_pos a hn
  rw [if_pos (by omega)]
  by_cases h:a.tmod n<0
  ·rw [if_pos h]
   simp only [Option.bind_some]
   unfold wi
   rw [if_pos h,a8 (by omega) (by omega)]
  ·rw [if_neg h]
   simp only [Option.bind_some]
   unfold wi
   rw [if_neg h]
 rw [hw _ (by decide) (by decide)]
 refine az (wpS ?_)
 refine ax ?_ ?_<;>intro h
 ·refine az (a7 h ?_)
  intro x hx
  refine wpS ?_
  have hm:=List.mem_of_getElem? hx
  revert x
  intro x _ hm
  have all:∀ x∈([(⟨[97]⟩:ar),(⟨[98,58,32]⟩:ar),(⟨[45,32]⟩:ar),(⟨[10]⟩:ar),(⟨[10]⟩:ar),(⟨[10,32,32]⟩:ar),(⟨[10,32,32,32,32]⟩:ar),(⟨[107,101,121,58,32]⟩:ar),(⟨[91]⟩:ar),(⟨[93]⟩:ar),(⟨[123]⟩:ar),(⟨[125]⟩:ar),(⟨[44,32]⟩:ar),(⟨[58,32]⟩:ar),(⟨[39,105,116,39,39,115,39]⟩:ar),(⟨[34,120,92,110,34]⟩:ar),(⟨[35,32,110,111,116,101,10]⟩:ar),(⟨[38,110,32]⟩:ar),(⟨[42,110]⟩:ar),(⟨[33,33,105,110,116,32]⟩:ar),(⟨[124,10]⟩:ar),(⟨[62,45,10]⟩:ar),(⟨[45,45,45]⟩:ar),(⟨[46,46,46]⟩:ar),(⟨[9]⟩:ar),(⟨[13,10]⟩:ar),(⟨[32]⟩:ar),(⟨[49]⟩:ar),(⟨[126]⟩:ar),(⟨[39,111,112,101,110]⟩:ar),(⟨[34,92,113,34]⟩:ar),(⟨[45]⟩:ar),(⟨[58]⟩:ar),(⟨[116,101,120,116,32,111,102,32,119,111,114,100,115]⟩:ar),(⟨[10,45,32]⟩:ar),(⟨[10,107,58,32]⟩:ar),(⟨[32,32]⟩:ar),(⟨[35,32,111,102,102]⟩:ar),(⟨[44]⟩:ar),(⟨[124,43]⟩:ar),(⟨[10,10]⟩:ar)]:List ar),x.b.length≤20:=by decide+kernel
  exact all x hm
 ·exact absurd (xG a _ (by decide)) h
theorem vU (F:Nat) (ns:List Int) (raw:List UInt8):∀ (m:Nat) (out:List UInt8) (i:Int),0≤i→i≤60→60 - i<m→(out.length:Int)≤60 * i→
  Wp (correctorlaw6_Text_l0 F ns raw m out i) (fun _=>True):=by
 intro m
 induction m with
 | zero=>intro out i h1 h2 j;omega
 | succ m ih=>
  intro out i h1 h2 j I
  rw [correctorlaw6_Text_l0]
  refine ax ?_ ?_<;>intro hx
  ·refine ax ?_ ?_<;>intro hy
   ·refine az ?_
    have hi:0≤dC (raw.length:Int) 30∧dC (raw.length:Int) 30≤30∧dC (raw.length:Int) 30≤raw.length:=by unfold dC;split<;>omega
    generalize dC (raw.length:Int) 30=k at hi
    have hl:((raw.take k.toNat).drop (0:Int).toNat).length=k.toNat:=by simp;omega
    refine Wp.mono (P:=fun z:List UInt8=>(z.length:Int)≤60 * i+30) ?_ ?_
    ·refine ax ?_ ?_<;>intro hz
     ·rw [if_pos ⟨by omega,by omega,by omega⟩,if_pos (by rw [hl];omega)]
      refine wpS ?_
      rw [List.length_append,hl];omega
     ·exact wpS (by omega)
    ·intro z hz
     rw [if_pos ⟨h1,hx⟩]
     refine az (a7 ⟨h1,hx⟩ ?_)
     intro x _
     refine az ((B0 F x).mono ?_)
     intro s hs
     rw [if_pos (by omega),a8 (by omega) (by omega)]
     exact ih _ _ (by omega) (by omega) (by omega) (by rw [List.length_append];omega)
   ·exact wpS trivial
  ·exact wpS trivial
theorem B1 (F:Nat) (hF:100≤F) (ns:List Int) (raw:List UInt8):Wp (np F ns raw) (fun b=>b.length≤400):=by
 unfold np
 refine az ((vU F ns raw F [] 0 (by omega) (by omega) (by omega) (by simp)).mono ?_)
 intro z _
 have hi:0≤dC (z.length:Int) 400∧dC (z.length:Int) 400≤400∧dC (z.length:Int) 400≤z.length:=by unfold dC;split<;>omega
 rw [if_pos ⟨by omega,by omega,by omega⟩]
 refine wpS ?_
 generalize dC (z.length:Int) 400=k at hi
 simp;omega
theorem EF (F:Nat) (N:List aq) (i:Int):k9 F ⟨N⟩ i=some (decide (0≤i∧i<N.length)):=by
 unfold k9
 by_cases h1:0≤i
 ·rw [if_pos h1]
  by_cases h2:i<N.length
  ·rw [if_pos h2];simp [h1,h2]
  ·rw [if_neg h2];simp [h2]
 ·rw [if_neg h1];simp [h1]
def ups (N:List aq):Nat→Int→List Int
 | 0,_=>[]
 | f+1,i=>if 0≤i then i::(match N[i.toNat]? with | some x=>ups N f x.Up | none=>[]) else []
end Go.Proofs.Ytcilejikekccmaa.M
namespace Go.Proofs.Ytcilejikekccmaa.M
open Go Am Sy
def Sn (N:List aq) (i:Nat) (s:List Int):Prop:=s.length=N.length∧∀ (k:Nat) x,N[k]?=some x→s[k]?=some (if 0<k∧x.Up<(i:Int) then 1 else 0)
theorem zB {N:List aq} {n:Int} (h:G N n) {i:Nat} {x:aq} (hx:N[i]?=some x) {k:Nat} {y:aq} (hy:N[k]?=some y):(k:Int)∈x.Kids↔0<k∧y.Up=i:=by
 constructor
 ·intro hk
  obtain ⟨z,ab,ad,I,U,_⟩:=(h.cT i x hx).1.mem _ hk
  rw [Int.toNat_natCast,hy] at I;simp only [Option.some.injEq] at I;subst I
  exact ⟨by omega,U⟩
 ·rintro ⟨h0,hu⟩
  obtain ⟨j,w,ae,J,aa,_⟩:=h.gg h0 (fI hy) hy
  have:j=i:=by omega
  subst this
  rw [hx] at J;simp only [Option.some.injEq] at J;subst J
  exact aa
theorem DY (F:Nat) {N:List aq} {n:Int} (h:G N n) (hN:N.length≤2000) (hF:2500≤F) {i:Nat} {x:aq} (hx:N[i]?=some x) {s0:List Int} (hs:Sn N i s0):Wp (correctorref10_kids F N (i:Int) s0) (fun r=>r.1=true∧Sn N (i+1) r.2):=by
 have hi:=fI hx
 have gV:x.Kids.length≤2000:=by have:=qs (List.mem_of_getElem? hx);have:=h.sum;omega
 have fG:=h.nd x (List.mem_of_getElem? hx)
 have key:∀ (m j:Nat) (s:List Int) (e:Int),x.Kids.length - j<m→j≤x.Kids.length→LP N i x.To e (x.Kids.drop j)→s.length=N.length→(∀ (k:Nat) y,N[k]?=some y→s[k]?=some (if 0<k∧(y.Up<(i:Int)∨(k:Int)∈x.Kids.take j) then 1 else 0))→
   Wp (correctorref10_kids_l0 F N (i:Int) s0 m s e (j:Int)) (fun r=>∃ s',r= .inl s'∧Sn N (i+1) s'):=by
  intro m
  induction m with
  | zero=>intro j s e h1;omega
  | succ m ih=>
   intro j s e h1 h2 aa I J
   have hb:0≤(i:Int)∧(i:Int)<(N.length:Int):=by omega
   rw [correctorref10_kids_l0]
   simp only [if_pos hb,Int.toNat_natCast,hx]
   refine aU rfl (ax (fun c=>?_) (fun c=>wpS ⟨s,rfl,I,fun k y hy=>?_⟩))
   ·have hj:j<x.Kids.length:=by omega
    have hg:=List.getElem?_eq_getElem hj
    rw [List.drop_eq_getElem_cons hj] at aa
    obtain ⟨y,ag,ah,aj,U,ab,ak,an,ad⟩:=aa
    have Fe:=(h.cT _ y U).2
    have oI:0≤x.Kids[j]∧x.Kids[j]<(N.length:Int):=by omega
    have hw:af ((j:Int)+1)=((j+1:Nat):Int):=by rw [a8 (by omega) (by omega)];omega
    have C4:0≤(j:Int)∧(j:Int)<(x.Kids.length:Int):=by omega
    have uG:=J x.Kids[j].toNat y U
    have Dx:(x.Kids[j].toNat:Int)∉x.Kids.take j:=fun hm=>by
     rw [Int.toNat_of_nonneg oI.1] at hm
     have ae:(x.Kids.take j++x.Kids[j]::x.Kids.drop (j+1)).Nodup:=by rw [← List.drop_eq_getElem_cons hj,List.take_append_drop];exact fG
     exact (List.nodup_append.1 ae).2.2 _ hm _ List.mem_cons_self rfl
    rw [if_neg (fun z=>by rcases z.2 with z | z;omega;exact Dx z)] at uG
    have yB:0≤x.Kids[j]∧x.Kids[j]<(s.length:Int):=by rw [I];exact oI
    refine aU rfl (aQ C4 ?_)
    rw [hg]
    refine aU rfl (eH (by omega) (eH (by omega) ?_))
    simp only [if_pos oI,if_pos yB,U,uG]
    refine aU rfl (aQ ab (aU rfl (eH (by omega) (aU rfl (aU rfl (eH (by omega) (aU rfl (aU rfl (eH (by omega) (aU rfl (aU rfl (aU rfl ?_))))))))))))
    rw [hw,show af ((0:Int)+1)=1 from a8 (by omega) (by omega)]
    refine ih (j+1) _ y.To (by omega) (by omega) ad (by rw [List.length_set];exact I) (fun k z hz=>?_)
    have s9:x.Kids.take (j+1)=x.Kids.take j++[x.Kids[j]]:=List.take_succ_eq_append_getElem hj
    by_cases ek:k=x.Kids[j].toNat
    ·subst ek
     rw [List.getElem?_set_self (by omega),if_pos ⟨by omega, .inr (by rw [s9,Int.toNat_of_nonneg oI.1];exact List.mem_append_right _ List.mem_cons_self)⟩]
    ·rw [List.getElem?_set_ne (Ne.symm ek),J k z hz]
     congr 1
     have:(k:Int)∈x.Kids.take (j+1)↔(k:Int)∈x.Kids.take j:=by
      rw [s9,List.mem_append,List.mem_singleton]
      exact ⟨fun q=>q.resolve_right (fun e=>ek (by omega)), .inl⟩
     simp only [this]
   ·have eD:x.Kids.take j=x.Kids:=List.take_of_length_le (by omega)
    rw [J k y hy,eD]
    congr 1
    have:=zB h hx hy
    by_cases c1:0<k∧(y.Up<(i:Int)∨(k:Int)∈x.Kids)
    ·rw [if_pos c1,if_pos ⟨c1.1,by rcases c1.2 with z | z;omega;have:=(this.1 z).2;omega⟩]
    ·rw [if_neg c1,if_neg (fun z=>c1 ⟨z.1,by
      rcases Int.lt_or_eq_of_le (show y.Up≤i by omega) with w | w
      ·exact .inl w
      ·exact .inr (this.2 ⟨z.1,w⟩)⟩)]
 have hb:0≤(i:Int)∧(i:Int)<(N.length:Int):=by omega
 unfold correctorref10_kids
 simp only [if_pos hb,Int.toNat_natCast,hx]
 refine aU rfl (bp (key F 0 s0 x.ai (by omega) (by omega) (h.cT i x hx).1 hs.1 (fun k y hy=>?_)) ?_)
 ·rw [hs.2 k y hy];simp
 ·rintro r ⟨s',rfl,h'⟩
  exact wpS ⟨rfl,h'⟩
theorem y3 (F:Nat) (hF:2500≤F) {N:List aq} {n:Int} (h:G N n) (hN:N.length≤2000) (hn:0≤n):Wp (correctorref10_Check F ⟨N⟩ n) (fun b=>b=true):=by
 have eP:=h.pos
 obtain ⟨r,r1,J,U,aa,ab⟩:=h.root
 have hb:0≤(0:Int)∧(0:Int)<(N.length:Int):=by omega
 have hz:((0:Int)).toNat=0:=rfl
 have ad:∀ (m i:Nat) (s:List Int),N.length - i<m→i≤N.length→Sn N i s→Wp (correctorref10_Check_l0 F ⟨N⟩ n m s (i:Int)) (fun r=>∃ s',r= .inl s'∧Sn N N.length s'):=by
  intro m
  induction m with
  | zero=>intro i s h1;omega
  | succ m ih=>
   intro i s h1 h2 j
   rw [correctorref10_Check_l0]
   refine ax (fun c=>?_) (fun c=>wpS ⟨s,rfl,by simp only at c;rw [show N.length=i by omega];exact j⟩)
   simp only at c
   have hi:i<N.length:=by omega
   have hg:=List.getElem?_eq_getElem hi
   have zs:0≤(i:Int)∧(i:Int)<(N.length:Int):=by omega
   have hw:af ((i:Int)+1)=((i+1:Nat):Int):=by rw [a8 (by omega) (by omega)];omega
   have Eg:=DY F h hN hF hg j
   refine bp (Q:=fun r=>∃ s',r= .inl s'∧Sn N (i+1) s') ?_ ?_
   ·have fin:Wp ((correctorref10_kids F N (i:Int) s).bind fun I=>if I.1=true then (some (.inl I.2):Option (Sum (List Int) Bool)) else some (.inr false)) (fun r=>∃ s',r= .inl s'∧Sn N (i+1) s'):=
     bp Eg fun r hr=>aQ hr.1 (wpS ⟨_,rfl,hr.2⟩)
    refine ax (fun c0=>?_) (fun _=>fin)
    have hu:=h.ups i _ hg
    simp only [if_pos zs,Int.toNat_natCast,hg]
    exact aU rfl (eH (by omega) (aU rfl (eH (by omega) fin)))
   ·rintro r ⟨s',rfl,fx⟩
    simp only
    rw [hw]
    exact ih (i+1) s' (by omega) (by omega) fx
 have ae:∀ (m i:Nat) (s:List Int),N.length - i<m→1≤i→Sn N N.length s→Wp (lO F ⟨N⟩ n m s (i:Int)) (fun r=>r= .inl ()):=by
  intro m
  induction m with
  | zero=>intro i s h1;omega
  | succ m ih=>
   intro i s h1 h2 j
   rw [lO]
   refine ax (fun c=>?_) (fun c=>wpS rfl)
   simp only at c
   have hi:i<N.length:=by omega
   have hg:=List.getElem?_eq_getElem hi
   have hw:af ((i:Int)+1)=((i+1:Nat):Int):=by rw [a8 (by omega) (by omega)];omega
   have hu:=h.qS i _ hg
   have tL:=j.2 i _ hg
   rw [if_pos ⟨by omega,by omega⟩] at tL
   have gu:=j.1
   refine aQ (by omega) ?_
   rw [Int.toNat_natCast,tL]
   refine aU rfl (aQ rfl ?_)
   rw [hw]
   exact ih (i+1) s (by omega) (by omega) j
 unfold correctorref10_Check
 simp only [if_pos hb,hz,r1]
 refine eH (by omega) (aU rfl (aQ J (aU rfl (aQ U (aU rfl (aQ aa (aU rfl (aQ ab (eH (by omega) (aQ (by omega) ?_))))))))))
 have h0:Sn N 0 (List.replicate (N.length:Int).toNat 0):=by
  refine ⟨by simp,fun k x hx=>?_⟩
  have hk:=fI hx
  rw [List.getElem?_replicate,if_pos (by simpa using hk)]
  rcases Nat.eq_zero_or_pos k with z | z
  ·rw [if_neg (by omega)]
  ·have:=h.ups k x hx
   rw [if_neg (by omega)]
 refine bp (ad F 0 _ (by omega) (by omega) h0) ?_
 rintro r ⟨s',rfl,fx⟩
 refine bp (ae F 1 s' (by omega) (by omega) fx) ?_
 rintro r rfl
 exact wpS rfl
theorem EW {α:Type} [BEq α] [LawfulBEq α]:∀ (a b:List α),a.Nodup→(∀ x∈a,x∈b)→a.length≤b.length:=by
 intro a
 induction a with
 | nil=>intro b _ _;simp
 | cons x a ih=>
  intro b hn h
  obtain ⟨j,I⟩:=List.nodup_cons.1 hn
  have hx:=h x List.mem_cons_self
  have:=ih (b.erase x) I (fun y hy=>(List.mem_erase_of_ne (fun e=>j (by rw [← e];exact hy))).2 (h y (List.mem_cons_of_mem _ hy)))
  rw [List.length_erase_of_mem hx] at this
  have hb:0<b.length:=List.length_pos_of_mem hx
  rw [List.length_cons];omega
structure OI (N:List aq) (seen:List Bool) (out:List Int):Prop where
 len:seen.length=N.length
 seen:∀ (j:Nat),j<N.length→seen[j]?=some (decide ((j:Int)∈out))
 nd:out.Nodup
 gh:∀ c∈out,0≤c∧c<N.length
 up:∀ (p:List Int) (c:Int) (s:List Int),out=p++c::s→c≠0→∃ x,N[c.toNat]?=some x∧x.Up∈p
def Ex (N:List aq) (out po:List Int):Prop:=∃ new,po=out++new∧∀ c∈new,∀ x,N[c.toNat]?=some x→∀ d∈x.Kids,d∈po
theorem OI.size {N:List aq} {seen:List Bool} {out:List Int} (h:OI N seen out):out.length≤N.length:=by
 have hm:(out.map Int.toNat).Nodup:=by
  refine List.Pairwise.map _ (fun a b dY=>dY) ?_
  refine List.Pairwise.imp_of_mem (fun {a b} ha hb dY e=>dY ?_) h.nd
  have:=h.gh a ha
  have:=h.gh b hb
  omega
 have:=tr N.length (out.map Int.toNat) hm (fun x hx=>by
  obtain ⟨c,hc,rfl⟩:=List.mem_map.1 hx
  have:=h.gh c hc;omega)
 rwa [List.length_map] at this
theorem OI.push {N:List aq} {seen:List Bool} {out:List Int} (h:OI N seen out) {k:Nat} {x:aq} (hx:N[k]?=some x) (hk:(k:Int)∉out) (hu:(k=0∧out=[])∨x.Up∈out):OI N (seen.set k true) (out++[(k:Int)]):=by
 have gV:=fI hx
 refine ⟨by rw [List.length_set];exact h.len,fun j hj=>?_,?_,fun c hc=>?_,fun p c s gT hc=>?_⟩
 ·by_cases e:j=k
  ·subst e
   rw [List.getElem?_set_self (by rw [h.len];exact gV)];simp
  ·rw [List.getElem?_set_ne (Ne.symm e),h.seen j hj]
   congr 1
   have:(j:Int)≠k:=by omega
   simp [this]
 ·refine List.nodup_append.2 ⟨h.nd,by simp,fun a ha b hb e=>?_⟩
  simp only [List.mem_singleton] at hb
  subst hb;subst e;exact hk ha
 ·rcases List.mem_append.1 hc with hc | hc
  ·exact h.gh c hc
  ·simp only [List.mem_singleton] at hc;omega
 ·rcases List.eq_nil_or_concat s with rfl | ⟨s',y,rfl⟩
  ·have:=List.append_inj' gT (by simp)
   simp only [List.cons.injEq,and_true] at this
   obtain ⟨rfl,rfl⟩:=this
   rcases hu with ⟨z,_⟩ | z
   ·omega
   ·exact ⟨x,by rw [Int.toNat_natCast];exact hx,z⟩
  ·rw [show p++c::List.concat s' y=(p++c::s')++[y] by simp] at gT
   have:=List.append_inj' gT (by simp)
   exact h.up p c s' this.1 hc
theorem E2 (F:Nat) (hF:2500≤F) {N:List aq} {n:Int} (h:G N n) (hN:N.length≤2000):∀ (m k:Nat) (seen:List Bool) (out:List Int) (x:aq),N.length - k<m→N[k]?=some x→OI N seen out→((k=0∧out=[])∨x.Up∈out)→
  Wp (la F m (k:Int) ⟨N⟩ seen out) (fun z=>OI N z.1 z.2∧Ex N out z.2∧(k:Int)∈z.2):=by
 intro m
 induction m with
 | zero=>intro k seen out x h1;omega
 | succ m ih=>
  intro k seen out x h1 hx hO hu
  have hk:=fI hx
  have gV:x.Kids.length≤2000:=by have:=qs (List.mem_of_getElem? hx);have:=h.sum;omega
  have b1:=hO.size
  have hb:0≤(k:Int)∧(k:Int)<(N.length:Int):=by omega
  have m6:0≤(k:Int)∧(k:Int)<(seen.length:Int):=by rw [hO.len];exact hb
  show Wp (nY F (la F m) (k:Int) ⟨N⟩ seen out) _
  unfold nY
  rw [EF,decide_eq_true hb]
  simp only [if_pos m6,if_pos hb,Int.toNat_natCast,hO.seen k hk,hx]
  refine aU rfl (aQ rfl (aU rfl (ax (fun c=>?_) (fun c=>?_))))
  ·have hm:(k:Int)∈out:=by simpa using c
   exact wpS ⟨hO,⟨[],by simp,fun c hc=>by cases hc⟩,hm⟩
  have hm:(k:Int)∉out:=by simpa using c
  have ad:=hO.push hx hm hu
  refine aU rfl (aQ (by rw [List.length_singleton];omega) (aU rfl ?_))
  have key:∀ (q j:Nat) (sj:List Bool) (oj:List Int),x.Kids.length - j<q→j≤x.Kids.length→OI N sj oj→(∃ new,oj=(out++[(k:Int)])++new∧∀ c∈new,∀ x,N[c.toNat]?=some x→∀ d∈x.Kids,d∈oj)→(∀ d∈x.Kids.take j,d∈oj)→
    Wp (walk_Order_1_l0 F (la F m) (k:Int) ⟨N⟩ seen out q x.Kids (x.Kids.length:Int) (j:Int) sj oj) (fun z=>OI N z.1 z.2∧(∃ new,z.2=(out++[(k:Int)])++new∧∀ c∈new,∀ x,N[c.toNat]?=some x→∀ d∈x.Kids,d∈z.2)∧∀ d∈x.Kids,d∈z.2):=by
   intro q
   induction q with
   | zero=>intro j sj oj ae;omega
   | succ q iq=>
    intro j sj oj ae aj J U aa
    rw [walk_Order_1_l0]
    refine ax (fun c=>?_) (fun c=>wpS ⟨J,U,by rw [← List.take_of_length_le (show x.Kids.length≤j by omega)];exact aa⟩)
    have hj:j<x.Kids.length:=by omega
    have hg:=List.getElem?_eq_getElem hj
    obtain ⟨y,ak,an,ag,ah,_⟩:=(h.cT k x hx).1.mem _ (List.mem_of_getElem? hg)
    have hw:af ((j:Int)+1)=((j+1:Nat):Int):=by rw [a8 (by omega) (by omega)];omega
    obtain ⟨new,ab,ai⟩:=U
    have e:x.Kids[j]=((x.Kids[j].toNat:Nat):Int):=by omega
    have hv:=ih x.Kids[j].toNat sj oj y (by omega) ag J (.inr (by rw [ah,ab];simp))
    rw [← e] at hv
    refine aQ (by omega) ?_
    rw [Int.toNat_natCast,hg]
    refine aU rfl (bp hv ?_)
    rintro ⟨s',o'⟩ ⟨v1,⟨yD,v2,I⟩,v4⟩
    simp only at v1 v2 I v4 ⊢
    rw [hw]
    refine iq (j+1) s' o' (by omega) (by omega) v1 ⟨new++yD,by rw [v2,ab];simp,fun c hc z hz d hd=>?_⟩ (fun d hd=>?_)
    ·rcases List.mem_append.1 hc with hc | hc
     ·rw [v2];exact List.mem_append_left _ (ai c hc z hz d hd)
     ·exact I c hc z hz d hd
    ·rw [List.take_succ_eq_append_getElem hj] at hd
     rcases List.mem_append.1 hd with hd | hd
     ·rw [v2];exact List.mem_append_left _ (aa d hd)
     ·simp only [List.mem_singleton] at hd;rw [hd];exact v4
  refine bp (key F 0 _ _ (by omega) (by omega) ad ⟨[],by simp,fun c hc=>by cases hc⟩ (by simp)) ?_
  rintro ⟨s',o'⟩ ⟨v1,⟨new,v2,I⟩,v4⟩
  simp only at v1 v2 I v4 ⊢
  refine wpS ⟨v1,⟨(k:Int)::new,by rw [v2];simp,fun c hc z hz d hd=>?_⟩,by simp only;rw [v2];simp⟩
  rcases List.mem_cons.1 hc with rfl | hc
  ·rw [Int.toNat_natCast,hx] at hz;simp only [Option.some.injEq] at hz;subst hz
   exact v4 d hd
  ·exact I c hc z hz d hd
structure Or (N:List aq) (o:List Int):Prop where
 nd:o.Nodup
 gh:∀ c∈o,0≤c∧c<N.length
 all:∀ (k:Nat),k<N.length→(k:Int)∈o
 up:∀ (p:List Int) (c:Int) (s:List Int),o=p++c::s→c≠0→∃ x,N[c.toNat]?=some x∧x.Up∈p
 len:o.length=N.length
theorem CY (F:Nat) (hF:2500≤F) {N:List aq} {n:Int} (h:G N n) (hN:N.length≤2000):Wp (n7 F ⟨N⟩) (Or N):=by
 have eP:=h.pos
 obtain ⟨r,r1,_⟩:=h.root
 have h0:OI N (List.replicate (N.length:Int).toNat false) []:=by
  refine ⟨by simp,fun j hj=>?_,List.nodup_nil,fun c hc=>(by cases hc),fun p c s hp=>(by simp at hp)⟩
  rw [List.getElem?_replicate,if_pos (by simpa using hj)];simp
 unfold n7 qt
 refine aQ (by simp only;omega) ?_
 refine bp (E2 F hF h hN F 0 _ [] r (by omega) r1 h0 (.inl ⟨rfl,rfl⟩)) ?_
 rintro ⟨s,o⟩ ⟨v1,⟨new,v2,I⟩,v4⟩
 simp only at v1 v2 I v4 ⊢
 rw [List.nil_append] at v2
 subst v2
 have eD:∀ (m k:Nat),k<m→k<N.length→(k:Int)∈o:=by
  intro m
  induction m with
  | zero=>intro k hk;omega
  | succ m ih=>
   intro k hk gV
   rcases Nat.eq_zero_or_pos k with z | z
   ·subst z;exact v4
   ·have hg:=List.getElem?_eq_getElem gV
    obtain ⟨j,x,aa,J,U,ab⟩:=h.gg z gV hg
    have hj:=ih j (by omega) (fI J)
    exact I _ hj x (by rw [Int.toNat_natCast];exact J) _ U
 have b1:=v1.size
 have o9:N.length≤o.length:=by
  have:=EW ((List.range N.length).map (fun i:Nat=>(i:Int))) o (by
   refine List.Pairwise.map _ (fun a b dY=>dY) ?_
   exact List.nodup_range.imp (fun {a b} dY e=>dY (by omega))) (fun c hc=>by
   obtain ⟨k,hk,rfl⟩:=List.mem_map.1 hc
   exact eD (k+1) k (by omega) (by simpa using hk))
  simpa using this
 unfold oR
 refine az (aQ (by rw [List.length_nil];omega) (wpS (wpS ?_)))
 rw [List.nil_append]
 exact ⟨v1.nd,v1.gh,fun k hk=>eD (k+1) k (by omega) hk,v1.up,by omega⟩
end Go.Proofs.Ytcilejikekccmaa.M
namespace Go.Proofs.Ytcilejikekccmaa.M
open Go Am Sy
def Pl (N:List aq) (o:List Int) (i:Nat) (a:List Int):Prop:=
 a.length=N.length∧(∀ (j k:Nat),j<i→o[j]?=some (k:Int)→a[k]?=some ((j:Int)+1))∧∀ (k:Nat),k<N.length→(∀ (j:Nat),j<i→o[j]?≠some (k:Int))→a[k]?=some 0
theorem wL (F:Nat) (ns:List Int) (raw:List UInt8) {N:List aq} {o:List Int} (h:Or N o) (hN:N.length≤2000):
  ∀ (m i:Nat) (a:List Int),N.length - i<m→i≤N.length→Pl N o i a→Wp (correctorlaw13_WalkOrder_l0 F ns raw m N o a (i:Int)) (fun s=>∃ a',s= .inl (N,a')∧Pl N o N.length a'):=by
 intro m
 induction m with
 | zero=>intro i a h1;omega
 | succ m ih=>
  intro i a h1 h2 ha
  have hl:=h.len
  rw [correctorlaw13_WalkOrder_l0]
  refine ax (fun c=>?_) (fun c=>?_)
  ·have hi:i<o.length:=by omega
   have hg:=List.getElem?_eq_getElem hi
   have hr:=h.gh _ (List.mem_of_getElem? hg)
   have hw:af ((i:Int)+1)=((i+1:Nat):Int):=by rw [a8 (by omega) (by omega)];omega
   have hb:0≤(i:Int)∧(i:Int)<(o.length:Int):=by omega
   obtain ⟨a1,U,J⟩:=ha
   have ek:o[i]=((o[i].toNat:Nat):Int):=by omega
   have bU:∀ (j:Nat),j<i→o[j]?≠some ((o[i].toNat:Nat):Int):=by
    intro j hj hh
    rw [← ek,← hg] at hh
    have:=(List.getElem?_inj (by omega) h.nd).1 hh
    omega
   have hz:=J o[i].toNat (by omega) bU
   have dY:0≤o[i]∧o[i]<(a.length:Int):=by omega
   refine aQ hb ?_
   rw [Int.toNat_natCast,hg]
   refine aU rfl (eH (by omega) (aQ hb (aU rfl (eH (by omega) (aQ hb (aU rfl (aQ dY ?_)))))))
   rw [hz]
   refine aU rfl (eH (by omega) (aQ hb (aU rfl (aQ dY (aU hz ?_)))))
   rw [hw]
   refine ih (i+1) _ (by omega) (by omega) ⟨by rw [List.length_set];exact a1,?_,?_⟩
   ·intro j k hj hk
    by_cases e:j=i
    ·subst e
     rw [hg] at hk;simp only [Option.some.injEq] at hk
     rw [hk,Int.toNat_natCast,List.getElem?_set_self (by omega)]
     rfl
    ·have iJ:o[i].toNat≠k:=by
      intro I
      exact bU j (by omega) (by rw [I];exact hk)
     rw [List.getElem?_set_ne iJ]
     exact U j k (by omega) hk
   ·intro k hk eB
    have iJ:o[i].toNat≠k:=by
     intro I
     exact eB i (by omega) (by rw [hg,ek,I])
    rw [List.getElem?_set_ne iJ]
    exact J k hk fun j hj=>eB j (by omega)
  ·have e:i=N.length:=by omega
   subst e
   exact wpS ⟨a,rfl,ha⟩
theorem yi (F:Nat) (ns:List Int) (raw:List UInt8) {N:List aq} {o a:List Int} (h:Or N o) (hN:N.length≤2000) (ha:Pl N o N.length a):
  ∀ (m i:Nat),N.length - i<m→1≤i→Wp (correctorlaw13_WalkOrder_l1 F ns raw m N a (i:Int)) (fun s=>s= .inl N):=by
 intro m
 induction m with
 | zero=>intro i h1;omega
 | succ m ih=>
  intro i h1 h2
  rw [correctorlaw13_WalkOrder_l1]
  refine ax (fun c=>?_) (fun c=>wpS rfl)
  have hi:i<N.length:=by omega
  have hg:=List.getElem?_eq_getElem hi
  have hl:=h.len
  have hw:af ((i:Int)+1)=((i+1:Nat):Int):=by rw [a8 (by omega) (by omega)];omega
  obtain ⟨a1,I,ab⟩:=ha
  obtain ⟨p,s,hs⟩:=List.append_of_mem (h.all i hi)
  obtain ⟨x,j,J⟩:=h.up p i s hs (by omega)
  rw [Int.toNat_natCast,hg] at j;simp only [Option.some.injEq] at j;subst j
  obtain ⟨q,hq,U⟩:=List.getElem_of_mem J
  have Av:=h.gh N[i].Up (by rw [hs];exact List.mem_append_left _ J)
  have mz:p.length+(s.length+1)=o.length:=by rw [hs];simp
  have oi:o[p.length]?=some (i:Int):=by rw [hs,List.getElem?_append_right (Nat.le_refl _),Nat.sub_self];rfl
  have ou:o[q]?=some ((N[i].Up.toNat:Nat):Int):=by rw [hs,List.getElem?_append_left hq,List.getElem?_eq_getElem hq,U];congr 1;omega
  have e1:=I p.length i (by omega) oi
  have aa:=I q N[i].Up.toNat (by omega) ou
  refine aQ (by omega) ?_
  rw [Int.toNat_natCast,hg]
  refine aU rfl (aQ (by rw [a1];exact Av) ?_)
  rw [aa]
  refine aU rfl (aQ (by omega) ?_)
  rw [e1]
  refine aU rfl (eH (by omega) ?_)
  rw [hw]
  exact ih (i+1) (by omega) (by omega)
theorem DN (F:Nat) (ns:List Int) (raw:List UInt8) (hF:F=6000):correctorlaw13_WalkOrder F ns raw=some true:=by
 have:Wp (correctorlaw13_WalkOrder F ns raw) (fun b=>b=true):=by
  unfold correctorlaw13_WalkOrder
  rw [hF]
  refine aU BB (aQ rfl ?_)
  rw [← hF]
  refine bp (B1 F (by omega) ns raw) fun b hb=>?_
  refine bp (DI F (by omega) b (by omega) 20 (by omega)) ?_
  rintro ⟨L,T,D⟩ ⟨h1,h2,I⟩
  simp only at h1 h2 I ⊢
  have hle:=h1.le
  unfold ma
  refine aU rfl (bp (CY F (by omega) h2 (by omega)) ?_)
  intro o ho
  have hl:=ho.len
  refine aQ (by omega) (aQ (by omega) ?_)
  rw [Int.toNat_natCast]
  refine bp (wL F ns raw ho (by omega) F 0 _ (by omega) (by omega) ⟨by simp,by intro j k hj;omega,fun k hk _=>by rw [List.getElem?_replicate,if_pos hk]⟩) ?_
  rintro s ⟨a,rfl,ha⟩
  simp only
  refine bp (yi F ns raw ho (by omega) ha F 1 (by omega) (by omega)) ?_
  rintro s rfl
  simp only
  obtain ⟨r,r1,J,U,aa,ab⟩:=h2.root
  have eP:=h2.pos
  refine aQ (by omega) ?_
  rw [show (0:Int).toNat=0 from rfl,r1]
  refine aU rfl ?_
  rw [show r.To=(L.length:Int) by omega]
  refine bp (y3 F (by omega) h2 (by omega) (by omega)) ?_
  rintro b rfl
  exact wpS rfl
 obtain ⟨b,h1,rfl⟩:=this
 exact h1
end Go.Proofs.Ytcilejikekccmaa.M
namespace Go.Proofs.Ytcilejikekccmaa.walkOrder
open Go.Proofs.Ytcilejikekccmaa.Am
open Go.Proofs.Ytcilejikekccmaa
open Go.ChangeShapes Go.WideShapes Go.ChangeAt Go.RowKit
theorem own:ownKnob Try.prog.godebug=none:=by kernel_rfl
theorem kids:Kids Try.prog (·<Try.prog.types.size):=kids_rows (by kernel_rfl) (by kernel_rfl)
theorem full:∀ t e,t<Try.prog.types.size→Try.prog.underlying t=some (.slice e)→0<Try.prog.cellsOf e:=slices_full_of _ (by kernel_rfl)
theorem wz:∀ t∈Try.f4.params.toList,t<Try.prog.types.size:=by
  rw [Try.params4]
  exact of_decide_eq_true (by kernel_rfl)
set_option maxRecDepth 100000 in
theorem lifted (os:Os) (started:os.Started) (H:Type) (enc:TypeId×Value→H):
    ReturnsInHanded {} Try.checked os 4 .any (Rows.walkOrderSpec.pre6 enc Try.prog Try.f4 Rows.walkOrderRow.domain false) (Rows.walkOrderSpec.post enc Try.prog Try.f4 false true false false):=by
  refine returnsInHanded_of_change (C:=Try.checked) own started (by kernel_rfl) Try.func4
    (ChangeSpec.witness6 (enc:=enc) (C:=Try.checked) false ⟨#[],#[.slice none 0 0, .slice none 0 0],[]⟩ 8 (by kernel_rfl) (by kernel_rfl) (by kernel_rfl) (by kernel_rfl)) ?_
  intro W base args ds gs before J hW Fl _
  have rQ:∀ (j:Nat) t v,Try.f4.params[j]?=some t→args[j]?=some v→Value.okWide Try.prog W .any base t v:=J
  have uU:=hW
  have bq:=fun p hp=>uU.lt p hp
  obtain ⟨p,q,I,hV,rfl,Fv,fG⟩:=hW
  have hA:DataW.TrodAll enc Try.prog W 0 (fun _=>true) true Try.f4.params.toList args.toList ds p:=I
  rw [Try.params4] at hA rQ
  obtain ⟨v0,ae,d0,af,ag,ah,dU,rfl,rfl,h0,r0⟩:=trodAll_cons hA
  obtain ⟨v1,ai,d1,aj,ak,an,rfl,rfl,rfl,h1,r1⟩:=trodAll_cons r0
  obtain ⟨rfl,rfl,rfl⟩:=trodAll_nil r1
  obtain rfl:args=#[v0,v1]:=by cases args;simp_all
  obtain ⟨rfl,rfl⟩:=trodVars_none hV
  letI:Marks:=⟨fun _=>0⟩
  obtain ⟨ρ0,Z0,ao,aq,x0,U,ar,au,e0,s0,g0⟩:=M.sD (Sy.sx Try.underlying23 (by kernel_rfl) (Sy.Cd Try.underlying3)) Try.underlying23 (rQ 0 23 v0 rfl rfl) h0 (Sy.yl W)
  obtain ⟨ρ1,Z1,av,aw,aa,H1,ab,ad,e1,s1,ax⟩:=M.sD (Sy.sx Try.underlying31 (by kernel_rfl) (Sy.DA Try.underlying5)) Try.underlying31 (rQ 1 31 v1 rfl rfl) h1 U
  replace e0:=e0.mono ab
  replace s0:=s0.mono ad
  obtain ⟨v,h',hc,_,rfl⟩:=M.w7 (6000) (H1).inv s0 s1 (M.DN (6000) x0 aa rfl)
  refine (M.Bx M.C7 H1 hc (LR.cons e0 (LR.cons e1 (LR.nil _)))).mono fun e W' ⟨he,hg⟩=>?_
  subst he
  exact ⟨_,rfl,Ad (pv:=[]) uU (fun _ _ _=>(trodAll_cons_mk (shut_bool Try.underlying4 _) trodAll_mk0)) (fun sp fO=>M.vt kids full hg wz I (fun x hx=>bq x (by simpa using hx)) (fun x hx=>fO x (by simpa using hx))) (fun _ _=>rfl) rfl
    hg (ok_one (by kernel_rfl) rfl (okWide_bool_mk Try.underlying4 _))⟩
theorem over:Rows.walkOrderRow.holds Try.pinned (OpenSpec.ofChange Rows.walkOrderSpec):=
  OpenClaim.holds_of_wide 4 Try.f4 rfl rfl rfl rfl rfl rfl rfl ⟨rfl,rfl,rfl,rfl,rfl⟩ rfl rfl rfl rfl rfl (by kernel_rfl) Try.func4 (by kernel_rfl)
    (of_decide_eq_true (by kernel_rfl)) (by unfold Func.isWrapper;first | (rw [if_pos (by decide+kernel)];kernel_rfl) | (rw [if_neg (by decide+kernel)];exact ⟨rfl,rfl⟩))
    (fun os started H enc _=>lifted os started H enc)
theorem proved:Rows.WalkOrderSaid:=
  over
end Go.Proofs.Ytcilejikekccmaa.walkOrder
