/- Of any text's tree each byte's node, each node's way, order and bytes, and the errors, are the document's. -/
import Derived.Test.YtcilejikekccmaaGreatWa4
import Derived.Test.YtcilejikekccmaaGreatRows
import Derived.WalkKit
import Derived.ProofKit
import Derived.OpenShut
import Derived.ChangeMaps5
set_option linter.unusedVariables false
set_option linter.unusedSimpArgs false
set_option maxRecDepth 100000
set_option linter.unnecessarySimpa false
namespace Go.Proofs.YtcilejikekccmaaGreat.M
section
open Go Am Sy
abbrev Rr:=aQ
structure RI (r:Rr):Prop where
 e0:0≤r.End
 e1:r.End≤r.L.length
 n:r.L.length≤450
 kp:∀ t∈r.L,0<t.Kind
def kd (r:Rr) (i:Int):Int:=if r.End≤i then 0 else match r.L[i.toNat]? with | some x=>if x.Kind=20∨x.Kind=21 then 0 else x.Kind | none=>0
theorem fE (F:Nat) (r:Rr) (h:RI r) (i:Int) (h0:0≤i):eP F r i=some (kd r i):=by
 unfold eP kd
 by_cases c2:r.End≤i
 ·rw [if_pos c2,if_pos c2]
 have:=h.e1
 have hl:i.toNat<r.L.length:=by omega
 rw [if_neg c2,if_neg c2]
 have hb:0≤i∧i<(r.L.length:Int):=by omega
 simp only [if_pos hb,aX hl,ax]
 by_cases j:r.L[i.toNat].Kind=20
 ·rw [if_pos j,if_pos (.inl j)]
 rw [if_neg j]
 by_cases I:r.L[i.toNat].Kind=21
 ·rw [if_pos I,if_pos (.inr I)]
 ·rw [if_neg I,if_neg (by omega)]
theorem fN {r:Rr} {i:Int} (h:kd r i≠0):i<r.End:=by
 unfold kd at h
 split at h
 ·exact absurd rfl h
 ·omega
theorem yw {r:Rr} (h:RI r) (i:Int):0≤kd r i:=by
 unfold kd
 split
 ·exact Int.le_refl _
 ·split
  ·rename_i x hx
   have:=h.kp x (au hx)
   split<;>omega
  ·exact Int.le_refl _
theorem iO {r:Rr} {i:Int} (h:r.End≤i):kd r i=0:=by unfold kd;rw [if_pos h]
theorem sK {r:Rr} (hr:RI r) {i:Int} (h0:0≤i) (h1:i<r.End):∃ x,r.L[i.toNat]?=some x∧(kd r i≠0→kd r i=x.Kind):=by
 have:=hr.e1
 have hl:i.toNat<r.L.length:=by omega
 refine ⟨_,aX hl,fun q=>?_⟩
 unfold kd at q ⊢
 rw [if_neg (by omega),aX hl] at q ⊢
 simp only at q ⊢
 split
 ·rename_i c;rw [if_pos c] at q;exact absurd rfl q
 ·rfl
def cn (k:Int):Bool:=decide (k≠1∧k≠2∧k≠3∧k≠4)
theorem kl (F:Nat) (k:Int):fH F k=some (cn k):=by
 unfold fH cn
 by_cases h1:k=1
 ·simp [h1]
 by_cases h2:k=2
 ·simp [h2]
 by_cases j:k=3
 ·simp [j]
 by_cases I:k=4
 ·simp [I]
 simp [h1,h2,j,I]
theorem n5 (F:Nat) (k:Int):iS F k=some (decide (k=8∨k=9)):=by
 unfold iS
 by_cases h1:k=8
 ·simp [h1]
 by_cases h2:k=9
 ·simp [h2]
 simp [h1,h2]
theorem p7 (F:Nat) (k:Int):iQ F k=some (decide (k=10∨k=11)):=by
 unfold iQ
 by_cases h1:k=10
 ·simp [h1]
 by_cases h2:k=11
 ·simp [h2]
 simp [h1,h2]
theorem pK (F:Nat) (k:Int):∃ b,fC F k=some b:=by
 unfold fC
 by_cases h1:k=15
 ·simp [h1]
 by_cases h2:k=16
 ·simp [h2]
 by_cases j:k=17
 ·simp [j]
 by_cases I:k=13
 ·simp [I]
 simp [h1,h2,j,I]
theorem xK {F:Nat} {k:Int} (h:fC F k=some true):k≠0:=by
 rintro rfl
 unfold fC at h
 simp at h
def Ct (L:List al) (j:Int):Prop:=∃ t,L[(j - 1).toNat]?=some t∧cn t.Kind=true
theorem Ct.of {r:Rr} (h:RI r) {i:Int} (h0:0≤i) {k:Int} (hk:kd r i=k) (J:k≠0) (hc:cn k=true):Ct r.L (i+1):=by
 have fb:=fN (r:=r) (i:=i) (by omega)
 obtain ⟨t,j,I⟩:=sK h h0 fb
 refine ⟨t,by rw [Int.add_sub_cancel];exact j,?_⟩
 rw [← I (by omega),hk];exact hc
theorem w1 {i:Int} (h0:0≤i) (h1:i≤100000):af (i+1)=i+1:=aZ (by omega) (by omega)
theorem jU {i:Int} (h0:0≤i) (h1:i≤100000):af (i - 1)=i - 1:=aZ (by omega) (by omega)
theorem tN (F:Nat) (hF:2500≤F) (r:Rr) (h:RI r) (i:Int) (h0:0≤i) (h1:i≤2000):∃ j,kS F r i=some j∧i≤j∧(j=i∨j≤r.End)∧(kd r i≠0→kd r i≠3→j=i):=by
 have hn:=h.n
 have he:=h.e1
 have key:∀ (d n:Nat) (x:Int),i≤x→x≤2000→(r.End - x).toNat≤d→d<n→(x=i∨x≤r.End)→(kd r i≠0→kd r i≠3→x=i)→∃ j,kD F r i n x=some j∧i≤j∧(j=i∨j≤r.End)∧(kd r i≠0→kd r i≠3→j=i):=by
  intro d
  induction d with
  | zero=>
   intro n x hx U hd hn hq hz
   obtain ⟨n,rfl⟩:∃ m,n=m+1:=⟨n - 1,by omega⟩
   rw [kD,if_neg (by omega)]
   exact ⟨x,rfl,hx,hq,hz⟩
  | succ d ih=>
   intro n x hx U hd hn hq hz
   obtain ⟨n,rfl⟩:∃ m,n=m+1:=⟨n - 1,by omega⟩
   rw [kD]
   by_cases c0:x<r.End
   case neg=>rw [if_neg c0];exact ⟨x,rfl,hx,hq,hz⟩
   obtain ⟨y,aa,ab⟩:=sK h (by omega) c0
   rw [if_pos c0,if_pos (by omega),aa]
   simp only [ax]
   split
   ·rename_i ad
    rw [w1 (by omega) (by omega)]
    exact ih n (x+1) (by omega) (by omega) (by omega) (by omega) (by omega) (fun I J=>by
     have:=hz I J
     subst this
     exact absurd ((ab I).trans ad) J)
   ·exact ⟨x,rfl,hx,hq,hz⟩
 unfold kS
 obtain ⟨j,I,J⟩:=key (r.End - i).toNat F i (Int.le_refl _) h1 (Nat.le_refl _) (by omega) (.inl rfl) (fun _ _=>rfl)
 exact ⟨j,by rw [I];rfl,J⟩
theorem o6 (F:Nat) (hF:2500≤F) (r:Rr) (h:RI r) (i:Int) (h0:0≤i) (h1:i≤2000):∃ j,iL F r i=some j∧i≤j∧(j=i∨j≤r.End)∧(kd r j≠0→cn (kd r j)=true):=by
 have hn:=h.n
 have he:=h.e1
 have key:∀ (d n:Nat) (x:Int),i≤x→x≤2000→(r.End - x).toNat≤d→d<n→(x=i∨x≤r.End)→∃ j,k5 F r i n x=some j∧i≤j∧(j=i∨j≤r.End)∧(kd r j≠0→cn (kd r j)=true):=by
  intro d
  induction d with
  | zero=>
   intro n x hx I hd hn hq
   obtain ⟨n,rfl⟩:∃ m,n=m+1:=⟨n - 1,by omega⟩
   rw [k5,if_neg (by omega)]
   exact ⟨x,rfl,hx,hq,fun q=>absurd (iO (by omega)) q⟩
  | succ d ih=>
   intro n x hx I hd hn hq
   obtain ⟨n,rfl⟩:∃ m,n=m+1:=⟨n - 1,by omega⟩
   rw [k5]
   by_cases c0:x<r.End
   case neg=>rw [if_neg c0];exact ⟨x,rfl,hx,hq,fun q=>absurd (iO (by omega)) q⟩
   obtain ⟨t,J,U⟩:=sK h (by omega) c0
   rw [if_pos c0,if_pos (by omega),J]
   simp only [ax,kl]
   by_cases c:cn t.Kind=true
   ·rw [if_pos c];exact ⟨x,rfl,hx,hq,fun q=>by rw [U q];exact c⟩
   ·rw [if_neg c,w1 (by omega) (by omega)]
    exact ih n (x+1) (by omega) (by omega) (by omega) (by omega) (by omega)
 unfold iL
 obtain ⟨j,aa,ab⟩:=key (r.End - i).toNat F i (Int.le_refl _) h1 (Nat.le_refl _) (by omega) (.inl rfl)
 exact ⟨j,by rw [aa];rfl,ab⟩
theorem qc (F:Nat) (hF:2500≤F) (r:Rr) (hn:r.L.length≤450) (b a:Int) (h0:0≤a) (h1:a≤b) (h2:b≤r.L.length):∃ j,jJ F r b a=some j∧a≤j∧j≤b∧(j=a∨Ct r.L j)∧(a<b→Ct r.L b→j=b):=by
 have key:∀ (d n:Nat) (x:Int),a≤x→x≤b→(x - a).toNat≤d→d<n→∃ j,kO F r b a n x=some j∧a≤j∧j≤b∧(j=a∨Ct r.L j)∧(a<x→Ct r.L x→j=x):=by
  intro d
  induction d with
  | zero=>
   intro n x hx I hd hn
   obtain ⟨n,rfl⟩:∃ m,n=m+1:=⟨n - 1,by omega⟩
   rw [kO,if_neg (by omega)]
   exact ⟨x,rfl,hx,I, .inl (by omega),fun _ _=>rfl⟩
  | succ d ih=>
   intro n x hx I hd hn
   obtain ⟨n,rfl⟩:∃ m,n=m+1:=⟨n - 1,by omega⟩
   rw [kO]
   by_cases c:a<x
   ·have hl:(x - 1).toNat<r.L.length:=by omega
    rw [if_pos c,jU (by omega) (by omega),if_pos (by omega),aX hl]
    simp only [ax,kl]
    split
    ·rename_i hc
     exact ⟨x,rfl,hx,I, .inr ⟨_,aX hl,hc⟩,fun _ _=>rfl⟩
    ·rename_i hc
     obtain ⟨j,J,U,ab,ad,_⟩:=ih n (x - 1) (by omega) (by omega) (by omega) (by omega)
     refine ⟨j,J,U,ab,ad,fun _ z=>?_⟩
     obtain ⟨t,aa,ae⟩:=z
     rw [aX hl] at aa
     simp only [Option.some.injEq] at aa
     subst aa;exact absurd ae hc
   ·rw [if_neg c];exact ⟨x,rfl,hx,I, .inl (by omega),fun q=>absurd q c⟩
 unfold jJ
 obtain ⟨j,J,U⟩:=key (b - a).toNat F b h1 (Int.le_refl _) (Nat.le_refl _) (by omega)
 exact ⟨j,by rw [J];rfl,U⟩
theorem Eh (F:Nat) (hF:2500≤F) (r:Rr) (h:RI r) (a:Int) (h0:0≤a) (h1:a<r.End) (hk:Ct r.L (a+1)):∃ j,nW F r a=some j∧a<j∧j≤r.End∧Ct r.L j:=by
 have hn:=h.n
 have he:=h.e1
 have ab:∀ (d n:Nat) (x:Int),a+1≤x→x≤r.End→(r.End - x).toNat≤d→d<n→∃ j,lu F r a n x=some j∧a<j∧j≤r.End:=by
  intro d
  induction d with
  | zero=>
   intro n x hx I hd hn
   obtain ⟨n,rfl⟩:∃ m,n=m+1:=⟨n - 1,by omega⟩
   rw [lu,if_neg (by omega)]
   exact ⟨x,rfl,by omega,I⟩
  | succ d ih=>
   intro n x hx I hd hn
   obtain ⟨n,rfl⟩:∃ m,n=m+1:=⟨n - 1,by omega⟩
   rw [lu]
   by_cases c0:x<r.End
   case neg=>rw [if_neg c0];exact ⟨x,rfl,by omega,I⟩
   have hl:x.toNat<r.L.length:=by omega
   have hb:0≤x∧x<(r.L.length:Int):=by omega
   simp only [if_pos c0,if_pos hb,aX hl,ax,kl]
   split
   ·exact ⟨x,rfl,by omega,I⟩
   split
   ·exact ⟨x,rfl,by omega,I⟩
   rw [w1 (by omega) (by omega)]
   exact ih n (x+1) (by omega) (by omega) (by omega) (by omega)
 have ad:∀ (d n:Nat) (x:Int),a+1≤x→x≤r.End→(r.End - x).toNat≤d→d<n→(x=a+1∨Ct r.L x∨∃ t,r.L[x.toNat]?=some t∧t.Kind=19∧x<r.End)→∃ j,kE F r a n x=some j∧a<j∧j≤r.End∧Ct r.L j:=by
  intro d
  induction d with
  | zero=>
   intro n x hx I hd hn hc
   obtain ⟨n,rfl⟩:∃ m,n=m+1:=⟨n - 1,by omega⟩
   rw [kE,if_neg (by omega)]
   refine ⟨x,rfl,by omega,I,?_⟩
   rcases hc with rfl | hc | ⟨_,_,_,hc⟩
   ·exact hk
   ·exact hc
   ·omega
  | succ d ih=>
   intro n x hx I hd hn hc
   obtain ⟨n,rfl⟩:∃ m,n=m+1:=⟨n - 1,by omega⟩
   rw [kE]
   by_cases c0:x<r.End
   case neg=>
    rw [if_neg c0]
    refine ⟨x,rfl,by omega,I,?_⟩
    rcases hc with rfl | hc | ⟨_,_,_,hc⟩
    ·exact hk
    ·exact hc
    ·omega
   have hl:x.toNat<r.L.length:=by omega
   rw [if_pos c0,if_pos (by omega),aX hl]
   simp only [ax]
   split
   ·rename_i J
    rw [w1 (by omega) (by omega)]
    exact ih n (x+1) (by omega) (by omega) (by omega) (by omega) (.inr (.inl ⟨_,by rw [Int.add_sub_cancel];exact aX hl,by rw [J];rfl⟩))
   ·rename_i J
    refine ⟨x,rfl,by omega,I,?_⟩
    rcases hc with rfl | hc | ⟨t,U,aa,_⟩
    ·exact hk
    ·exact hc
    ·rw [aX hl] at U
     simp only [Option.some.injEq] at U
     subst U;exact absurd aa J
 unfold nW
 rw [w1 h0 (by omega)]
 obtain ⟨j,U,aa,ag⟩:=ab (r.End - (a+1)).toNat F (a+1) (Int.le_refl _) (by omega) (Nat.le_refl _) (by omega)
 rw [U]
 simp only [ax]
 by_cases c1:r.End≤j
 ·rw [if_pos c1];exact ⟨_,rfl,by omega,by omega,hk⟩
 have hl:j.toNat<r.L.length:=by omega
 rw [if_neg c1,if_pos (by omega),aX hl]
 simp only [ax]
 split
 case isFalse=>exact ⟨_,rfl,by omega,by omega,hk⟩
 rw [w1 (by omega) (by omega)]
 by_cases c2:r.End≤j+1
 ·rw [if_pos c2];exact ⟨_,rfl,by omega,by omega,hk⟩
 have hl:(j+1).toNat<r.L.length:=by omega
 rw [if_neg c2,if_pos (by omega),aX hl]
 simp only [ax]
 split
 case isFalse=>exact ⟨_,rfl,by omega,by omega,hk⟩
 rename_i J
 obtain ⟨k,ae,af⟩:=ad (r.End - (j+1)).toNat F (j+1) (by omega) (by omega) (Nat.le_refl _) (by omega) (.inr (.inr ⟨_,aX hl,J,by omega⟩))
 rw [ae]
 exact ⟨k,rfl,af⟩
theorem balanced_ex (F:Nat) (hF:2500≤F) (r:Rr) (h:RI r) (a:Int) (h0:0≤a) (hk:kd r a=8∨kd r a=9):∃ j,correctorref11_Reader_balanced F r a=some j∧a<j∧j≤r.End∧Ct r.L j:=by
 have hn:=h.n
 have he:=h.e1
 have fb:=fN (r:=r) (i:=a) (by omega)
 have key:∀ (d n:Nat) (x o:Int),a≤x→x≤r.End→(r.End - x).toNat≤d→d<n→o≤x - a→0≤o→(a<x→1≤o)→∃ s,jP F r a n o x=some s∧(match s with | .inl _=>True | .inr j=>a<j∧j≤r.End∧Ct r.L j):=by
  intro d
  induction d with
  | zero=>
   intro n x o hx I hd hn ad ae U
   obtain ⟨n,rfl⟩:∃ m,n=m+1:=⟨n - 1,by omega⟩
   rw [jP,fE F r h _ (by omega),iO (by omega)]
   exact ⟨_,rfl,trivial⟩
  | succ d ih=>
   intro n x o hx I hd hn ad ae U
   obtain ⟨n,rfl⟩:∃ m,n=m+1:=⟨n - 1,by omega⟩
   have ag:=fE F r h x (by omega)
   rw [jP]
   simp only [ag,ax,n5,p7,decide_eq_true_eq]
   by_cases c:0<kd r x
   case neg=>rw [if_neg c];exact ⟨_,rfl,trivial⟩
   have jj:=fN (r:=r) (i:=x) (by omega)
   have hw:af (x+1)=x+1:=w1 (by omega) (by omega)
   have ah:af (o+1)=o+1:=aZ (by omega) (by omega)
   rw [if_pos c,hw,ah]
   have fin:∀ o':Int,0≤o'→o'≤o+1→(o'=0→Ct r.L (x+1))→∃ s,(if o'=(0:Int) then (some (.inr (x+1)):Option (Sum Unit Int)) else jP F r a n o' (x+1))=some s∧(match s with | .inl _=>True | .inr j=>a<j∧j≤r.End∧Ct r.L j):=by
    intro o' aa ai ab
    by_cases c2:o'=0
    ·rw [if_pos c2];exact ⟨_,rfl,by omega,by omega,ab c2⟩
    ·rw [if_neg c2];exact ih n (x+1) o' (by omega) (by omega) (by omega) (by omega) (by omega) (by omega) (by omega)
   by_cases c1:kd r x=8∨kd r x=9
   ·rw [if_pos c1]
    simp only [ax]
    rw [if_neg (by omega)]
    simp only [ax]
    exact fin _ (by omega) (by omega) (fun q=>by omega)
   rw [if_neg c1]
   simp only [ax]
   have aj:af (o - 1)=o - 1:=aZ (by omega) (by omega)
   have DT:a<x:=by
    rcases Int.lt_or_eq_of_le hx with q | q
    ·exact q
    ·subst q;exact absurd hk c1
   have ar:=U DT
   by_cases c2:kd r x=10∨kd r x=11
   ·rw [if_pos c2,aj]
    simp only [ax]
    exact fin _ (by omega) (by omega) (fun _=>by rcases c2 with z | z<;>exact Ct.of h (by omega) z (by decide) rfl)
   ·rw [if_neg c2]
    simp only [ax]
    exact fin _ (by omega) (by omega) (fun q=>by omega)
 have ak:∀ (d n:Nat) (x:Int),a≤x→x≤r.End→(r.End - x).toNat≤d→d<n→∃ j,kf F r a n x=some j∧a<j∧j≤r.End:=by
  intro d
  induction d with
  | zero=>
   intro n x hx I hd hn
   obtain ⟨n,rfl⟩:∃ m,n=m+1:=⟨n - 1,by omega⟩
   rw [kf,fE F r h _ (by omega),iO (by omega)]
   exact ⟨_,rfl,by omega,by omega⟩
  | succ d ih=>
   intro n x hx I hd hn
   obtain ⟨n,rfl⟩:∃ m,n=m+1:=⟨n - 1,by omega⟩
   rw [kf,fE F r h _ (by omega)]
   simp only [ax]
   by_cases c:0<kd r x
   ·have jj:=fN (r:=r) (i:=x) (by omega)
    rw [if_pos c,w1 (by omega) (by omega)]
    exact ih n (x+1) (by omega) (by omega) (by omega) (by omega)
   ·rw [if_neg c]
    refine ⟨_,rfl,?_,by omega⟩
    rcases Int.lt_or_eq_of_le hx with q | q
    ·exact q
    ·subst q;omega
 unfold correctorref11_Reader_balanced
 obtain ⟨s,an,ao⟩:=key (r.End - a).toNat F a 0 (Int.le_refl _) (by omega) (Nat.le_refl _) (by omega) (by omega) (by omega) (by omega)
 rw [an]
 cases s with
 | inl u=>
  obtain ⟨j,aa,ai,ab⟩:=ak (r.End - a).toNat F a (Int.le_refl _) (by omega) (Nat.le_refl _) (by omega)
  obtain ⟨k,aq,au,av,J,_⟩:=qc F hF r hn j (a+1) (by omega) (by omega) (by omega)
  simp only [ax,aa,w1 h0 (by omega:a≤100000),aq]
  refine ⟨k,rfl,by omega,by omega,?_⟩
  rcases J with rfl | J
  ·rcases hk with z | z<;>exact Ct.of h h0 z (by decide) rfl
  ·exact J
 | inr j=>exact ⟨j,rfl,ao⟩
theorem vH (F:Nat) (hF:2500≤F) (r:Rr) (h:RI r) (a:Int) (h0:0≤a) (h1:a≤1500):∃ j,iJ F r a=some j∧(j=0∨(a<j∧j≤r.End∧Ct r.L j)):=by
 have hn:=h.n
 have he:=h.e1
 have key:∀ (d n:Nat) (x:Int),a≤x→x≤1600→(r.End - x).toNat≤d→d<n→∃ j,jC F r a n x=some j∧a≤j∧j≤1600:=by
  intro d
  induction d with
  | zero=>
   intro n x hx J hd hn
   obtain ⟨n,rfl⟩:∃ m,n=m+1:=⟨n - 1,by omega⟩
   have I:=fE F r h x (by omega)
   rw [iO (by omega)] at I
   rw [jC]
   simp only [I,ax]
   exact ⟨x,rfl,hx,J⟩
  | succ d ih=>
   intro n x hx J hd hn
   obtain ⟨n,rfl⟩:∃ m,n=m+1:=⟨n - 1,by omega⟩
   have I:=fE F r h x (by omega)
   rw [jC]
   simp only [I,ax]
   have go:kd r x≠0→∃ j,((iL F r (af (x+1))).bind fun ab=>jC F r a n ab)=some j∧a≤j∧j≤1600:=by
    intro c
    have fb:=fN c
    obtain ⟨j,U,aa,ad,_⟩:=o6 F hF r h (x+1) (by omega) (by omega)
    rw [w1 (by omega) (by omega),U]
    simp only [ax]
    exact ih n j (by omega) (by omega) (by omega) (by omega)
   by_cases c:kd r x=12
   ·rw [if_pos c];simp only [ax];exact go (by omega)
   rw [if_neg c]
   by_cases c:kd r x=14
   ·rw [if_pos c];simp only [ax];exact go (by omega)
   rw [if_neg c]
   exact ⟨x,rfl,hx,J⟩
 unfold iJ
 obtain ⟨j,U,aa,ad⟩:=key (r.End - a).toNat F a (Int.le_refl _) (by omega) (Nat.le_refl _) (by omega)
 rw [U]
 simp only [ax,fE F r h j (by omega)]
 obtain ⟨b,hb⟩:=pK F (kd r j)
 rw [hb]
 simp only [ax]
 have fin:∀ z:Int,a≤z→z≤2000→∃ y,((eP F r z).bind fun ae=>if ae=(6:Int) then (some (af (z+1)):Option Int) else some 0)=some y∧(y=0∨(a<y∧y≤r.End∧Ct r.L y)):=by
  intro z hz ah
  rw [fE F r h z (by omega)]
  simp only [ax]
  by_cases c:kd r z=6
  ·have fb:=fN (r:=r) (i:=z) (by omega)
   rw [if_pos c,w1 (by omega) (by omega)];exact ⟨_,rfl, .inr ⟨by omega,by omega,Ct.of h (by omega) c (by decide) rfl⟩⟩
  ·rw [if_neg c];exact ⟨_,rfl, .inl rfl⟩
 cases b with
 | true=>
  have fb:=fN (xK hb)
  obtain ⟨z,ag,ai,aj,_⟩:=o6 F hF r h (j+1) (by omega) (by omega)
  rw [if_pos rfl,w1 (by omega) (by omega),ag]
  simp only [ax]
  exact fin z (by omega) (by omega)
 | false=>
  simp only [Bool.false_eq_true,if_false,ax]
  exact fin j aa (by omega)
theorem zi (F:Nat) (hF:2500≤F) (r:Rr) (h:RI r) (a:Int) (h0:0≤a) (hk:0<kd r a) (gw:cn (kd r a)=true) (aq:kd r a≠7) (ar:¬ (kd r a=10∨kd r a=11)):∃ j,kj F r a=some j∧a<j∧j≤r.End∧Ct r.L j:=by
 have hn:=h.n
 have he:=h.e1
 have fb:=fN (r:=r) (i:=a) (by omega)
 have key:∀ (d n:Nat) (x o:Int),a≤x→x≤r.End→(r.End - x).toNat≤d→d<n→o≤x - a→ -(x - a)≤o→(x=a→o=0)→∃ j,jO F r a n o x=some j∧a<j∧j≤r.End:=by
  intro d
  induction d with
  | zero=>
   intro n x o hx I hd hn ad ae ag
   obtain ⟨n,rfl⟩:∃ m,n=m+1:=⟨n - 1,by omega⟩
   rw [jO,fE F r h _ (by omega),iO (by omega)]
   exact ⟨x,rfl,by omega,I⟩
  | succ d ih=>
   intro n x o hx I hd hn ad ae ag
   obtain ⟨n,rfl⟩:∃ m,n=m+1:=⟨n - 1,by omega⟩
   have ah:=fE F r h x (by omega)
   rw [jO]
   simp only [ah,ax,n5,p7,decide_eq_true_eq]
   by_cases c:0<kd r x
   case neg=>
    rw [if_neg c]
    refine ⟨x,rfl,?_,I⟩
    rcases Int.lt_or_eq_of_le hx with q | q
    ·exact q
    ·subst q;omega
   have jj:=fN (r:=r) (i:=x) (by omega)
   have hw:af (x+1)=x+1:=w1 (by omega) (by omega)
   have ai:af (o+1)=o+1:=aZ (by omega) (by omega)
   rw [if_pos c,hw,ai]
   have go:∃ j,((if kd r x=8∨kd r x=9 then (some (o+1):Option Int) else some o).bind fun U=>
       (if kd r x=10∨kd r x=11 then (some (af (U - 1)):Option Int) else some U).bind fun aj=>jO F r a n aj (x+1))=some j∧a<j∧j≤r.End:=by
    by_cases aa:kd r x=8∨kd r x=9
    ·rw [if_pos aa]
     simp only [ax]
     rw [if_neg (by omega)]
     simp only [ax]
     exact ih n (x+1) (o+1) (by omega) (by omega) (by omega) (by omega) (by omega) (by omega) (by omega)
    ·rw [if_neg aa]
     simp only [ax]
     have ak:af (o - 1)=o - 1:=aZ (by omega) (by omega)
     by_cases ab:kd r x=10∨kd r x=11
     ·rw [if_pos ab,ak]
      simp only [ax]
      exact ih n (x+1) (o - 1) (by omega) (by omega) (by omega) (by omega) (by omega) (by omega) (by omega)
     ·rw [if_neg ab]
      simp only [ax]
      exact ih n (x+1) o (by omega) (by omega) (by omega) (by omega) (by omega) (by omega) (by omega)
   have out:(kd r x=7∨kd r x=10∨kd r x=11)→a<x:=fun q=>by
    rcases Int.lt_or_eq_of_le hx with z | z
    ·exact z
    ·subst z;omega
   by_cases c0:o=0
   ·rw [if_pos c0]
    by_cases c1:kd r x=7
    ·rw [if_pos c1]
     exact ⟨x,rfl,out (.inl c1),I⟩
    rw [if_neg c1]
    by_cases c2:kd r x=10∨kd r x=11
    ·rw [if_pos c2]
     exact ⟨x,rfl,out (.inr c2),I⟩
    rw [if_neg c2]
    exact go
   ·rw [if_neg c0]
    exact go
 unfold kj
 obtain ⟨j,an,au,av⟩:=key (r.End - a).toNat F a 0 (Int.le_refl _) (by omega) (Nat.le_refl _) (by omega) (by omega) (by omega) (fun _=>rfl)
 rw [an]
 obtain ⟨k,ao,aw,ay,J,_⟩:=qc F hF r hn j (a+1) (by omega) (by omega) (by omega)
 simp only [ax,w1 h0 (by omega:a≤100000),ao]
 refine ⟨k,rfl,by omega,by omega,?_⟩
 rcases J with rfl | J
 ·exact Ct.of h h0 rfl (by omega) gw
 ·exact J
end
section
open Go Am Sy
structure Rd (n:Int) (r:Rr) (p:Int):Prop where
 ri:RI r
 nl:n=r.L.length
 g:G r.T.an n
 b:Below r.T.an p
structure To (r r':Rr) (up:Nat) (s m:Int):Prop where
 l:r'.L=r.L
 e:r'.End=r.End
 sz:(r'.T.an.length:Int)≤r.T.an.length+s
 ge:r.T.an.length≤r'.T.an.length
 dl:(r'.D.length:Int)≤r.D.length+m
 sp:∀ v,v≤up→Sp r.T.an v→Sp r'.T.an v
theorem To.refl (r:Rr) (up:Nat):To r r up 0 0:=⟨rfl,rfl,by omega,Nat.le_refl _,by omega,fun v _ h=>h⟩
theorem To.trans {a b c:Rr} {up j:Nat} {s m s2 I:Int} (h:To a b up s m) (k:To b c j s2 I) (hu:up≤j):To a c up (s+s2) (m+I):=
 ⟨k.l.trans h.l,k.e.trans h.e,by have:=h.sz;have:=k.sz;omega,Nat.le_trans h.ge k.ge,by have:=h.dl;have:=k.dl;omega,fun v hv q=>k.sp v (by omega) (h.sp v hv q)⟩
theorem To.le {a b:Rr} {up:Nat} {s m s2 j:Int} (h:To a b up s m) (hs:s≤s2) (hm:m≤j):To a b up s2 j:={h with sz:=by have:=h.sz;omega,dl:=by have:=h.dl;omega}
theorem Below.mono {N:List aq} {p q:Int} (h:Below N p) (qD:p≤q):Below N q:=fun i x hx hi=>Int.le_trans (h i x hx hi) qD
theorem RI.of {r r':Rr} (h:RI r) (hl:r'.L=r.L) (he:r'.End=r.End):RI r':=⟨by rw [he];exact h.e0,by rw [he,hl];exact h.e1,by rw [hl];exact h.n,by rw [hl];exact h.kp⟩
theorem Rd.mono {n:Int} {r:Rr} {p q:Int} (h:Rd n r p) (qD:p≤q):Rd n r q:=⟨h.ri,h.nl,h.g,h.b.mono qD⟩
theorem Sp.lt {N:List aq} {n:Int} (h:G N n) {v:Nat} (hs:Sp N v):v<N.length:=by
 cases hs with
 | root=>exact h.pos
 | g9 h1 hx hk=>
  obtain ⟨_,_,q,_⟩:=(h.cU _ _ hx).1.mem _ (List.mem_of_getLast? hk)
  omega
theorem vG (F:Nat) (hF:2500≤F) (r:Rr) {n:Int} (h:G r.T.an n) (hl:r.T.an.length≤2400) {up:Nat} (hu:up<r.T.an.length) (hs:Sp r.T.an up) {kind aN to:Int} (hk:1≤kind∧kind≤11) (fG:aN≤to) (ht:to≤n) (he:∀ e,endOf r.T.an up=some e→e≤aN):
  ∃ N',eO F r (up:Int) kind aN to=some ((r.T.an.length:Int),(⟨r.L,⟨N'⟩,r.D,r.End⟩:Rr))∧v8 r.T.an N' n up kind aN to:=by
 refine ⟨od r.T.an up kind aN to,?_,added h hu hs fG ht he⟩
 unfold eO
 rw [xN F r.T up kind aN to (h.small (by omega)) (by omega) (by omega) h.nC hu hk fG (fun x hx=>by
  obtain ⟨y,j,I⟩:=h.uA
  rw [hx] at j;simp only [Option.some.injEq] at j;subst j;omega) (fun x hx c hc=>h.last up x hx c hc) he]
 rfl
theorem js (F:Nat) (hF:2500≤F) {n:Int} {r:Rr} {p:Int} (h:Rd n r p) (hl:r.T.an.length≤2400) {up:Nat} (hs:Sp r.T.an up) {kind aN to:Int} (hk:1≤kind∧kind≤11) (fG:aN≤to) (ht:to≤n) (lg:p≤to) (he:∀ e,endOf r.T.an up=some e→e≤aN):
  ∃ r',eO F r (up:Int) kind aN to=some ((r.T.an.length:Int),r')∧Rd n r' to∧To r r' up 1 0∧Sp r'.T.an r.T.an.length∧r'.D=r.D∧r'.T.an.length=r.T.an.length+1∧(∃ z,r'.T.an[r.T.an.length]?=some z∧z.ah=aN∧z.Kids=[]):=by
 have hn:=h.nl
 have J:=h.ri.e1
 obtain ⟨N',I,j⟩:=vG F hF r h.g hl (hs.lt h.g) hs hk fG ht he
 refine ⟨_,I,⟨h.ri.of rfl rfl,hn,j.g,j.wg _ (h.b.mono lg) (Int.le_refl _)⟩,⟨rfl,rfl,?_,?_,?_,j.c4⟩,j.new,rfl,j.len,j.fresh⟩
 ·show (N'.length:Int)≤_;rw [j.len];omega
 ·show _≤N'.length;rw [j.len];omega
 ·show (r.D.length:Int)≤_;omega
theorem Rd.endOf {n:Int} {r:Rr} {p:Int} (h:Rd n r p) (hp:0≤p) (up:Nat) {q:Int} (hq:p≤q):∀ e,endOf r.T.an up=some e→e≤q:=fun e he=>Int.le_trans (vt h.g h.b hp up e he) hq
theorem o3 (F:Nat) (hF:2500≤F) {n:Int} {r:Rr} {p:Int} (h:Rd n r p) (hl:r.T.an.length≤2400) (hd:r.D.length≤100000) {up:Nat} (hs:Sp r.T.an up) {code aN to:Int} (h0:0≤aN) (fG:aN<to) (ht:to≤n) (lg:p≤to) (he:∀ e,endOf r.T.an up=some e→e≤aN):
  ∃ r',eu F r (up:Int) aN to code=some ((r.T.an.length:Int),r')∧Rd n r' to∧To r r' up 1 1∧Sp r'.T.an r.T.an.length:=by
 have hn:=h.nl
 have dH:=h.ri.n
 obtain ⟨r1,a1,I,j,aa,J,ab,_⟩:=js F hF h hl hs (kind:=11) (by omega) (Int.le_of_lt fG) ht lg he
 have U:=j.l
 unfold eu
 have ha:aN.toNat<r.L.length:=by omega
 have hb:(to - 1).toNat<r.L.length:=by omega
 rw [a1]
 simp only [ax,U]
 rw [if_pos (by omega),aX ha]
 simp only [ax]
 rw [jU (by omega) (by omega),if_pos (by omega),aX hb]
 simp only [ax]
 rw [if_pos (by rw [cQ,J];omega)]
 refine ⟨_,rfl,⟨I.ri.of U.symm rfl,by show n=(r.L.length:Int);exact hn,I.g,I.b⟩,⟨rfl,j.e,j.sz,j.ge,?_,j.sp⟩,aa⟩
 show ((r1.D++_).length:Int)≤_
 rw [b7,cQ,J];omega
theorem qg (F:Nat) (hF:2500≤F) {n:Int} {r:Rr} {p:Int} (h:Rd n r p) (hl:r.T.an.length≤2400) {c:Nat} (hs:Sp r.T.an c) {to:Int} (ht:to≤n) (lg:p≤to):
  ∃ t',iI F r.T (c:Int) to=some t'∧Rd n (⟨r.L,t',r.D,r.End⟩:Rr) to∧∀ up,To r (⟨r.L,t',r.D,r.End⟩:Rr) up 0 0:=by
 have hn:=h.nl
 have hc:=hs.lt h.g
 refine ⟨_,xQ F r.T c to (h.g.small (by omega)) (by omega) h.g.nC hc (fun x hx=>by
  obtain ⟨y,j,I⟩:=h.g.uA
  rw [hx] at j;simp only [Option.some.injEq] at j;subst j;omega),⟨h.ri.of rfl rfl,hn,?_,vi _ _ _ _ _ (h.b.mono lg) (Int.le_refl _)⟩,fun up=>⟨rfl,rfl,?_,?_,?_,fun v _ q=>q.kids (tK _ _ _ _)⟩⟩
 ·exact (h.g.gx (c:Int) to).grow ht _ _ _ (by omega) (by omega) (fun _=>by rw [b2];exact hs)
 ·show ((growL r.T.an.length r.T.an (c:Int) to).length:Int)≤_;rw [qs];omega
 ·show _≤(growL r.T.an.length r.T.an (c:Int) to).length;rw [qs];exact Nat.le_refl _
 ·show (r.D.length:Int)≤_;omega
theorem tO (F:Nat) {n:Int} {r:Rr} {p:Int} (h:Rd n r p) (hl:r.T.an.length≤2500) {i:Nat} (hi:i<r.T.an.length):
  ∃ r',mP F r (i:Int)=some r'∧Rd n r' p∧(∀ up,To r r' up 0 0)∧r'.T.an.length=r.T.an.length∧(∀ j,endOf r'.T.an j=endOf r.T.an j):=by
 have hx:r.T.an[i]?=some r.T.an[i]:=aX hi
 have hk:=p1 (y:=(⟨r.T.an[i].Kind,r.T.an[i].ah,r.T.an[i].To,r.T.an[i].Up,r.T.an[i].Kids,true⟩:aq)) hx rfl
 have gT:∀ (j:Nat) y',(r.T.an.set i (⟨r.T.an[i].Kind,r.T.an[i].ah,r.T.an[i].To,r.T.an[i].Up,r.T.an[i].Kids,true⟩:aq))[j]?=some y'→∃ y,r.T.an[j]?=some y∧y'.Kind=y.Kind∧y'.ah=y.ah∧y'.To=y.To∧y'.Up=y.Up∧y'.Kids=y.Kids:=by
  intro j y' hy
  by_cases e:j=i
  ·subst e
   rw [List.getElem?_set_self hi] at hy;simp only [Option.some.injEq] at hy;subst hy
   exact ⟨_,hx,rfl,rfl,rfl,rfl,rfl⟩
  ·rw [List.getElem?_set_ne (Ne.symm e)] at hy;exact ⟨y',hy,rfl,rfl,rfl,rfl,rfl⟩
 have wL:∀ (j:Nat),(r.T.an.set i (⟨r.T.an[i].Kind,r.T.an[i].ah,r.T.an[i].To,r.T.an[i].Up,r.T.an[i].Kids,true⟩:aq))[j]?.map (fun x=>(x.ah,x.To,x.Kids))=r.T.an[j]?.map (fun x=>(x.ah,x.To,x.Kids)):=by
  intro j
  by_cases e:j=i
  ·subst e;rw [List.getElem?_set_self hi,hx];rfl
  ·rw [List.getElem?_set_ne (Ne.symm e)]
 have lj:∀ l:List aq,([]:List aq)++l=l:=fun l=>rfl
 unfold mP
 simp only [lj]
 rw [if_pos (by rw [List.length_nil];omega),if_pos (by omega),b2,hx]
 simp only [ax]
 refine ⟨_,rfl,⟨h.ri.of rfl rfl,h.nl,h.g.same (List.length_set) gT,fun j y' hy hj=>?_⟩,fun up=>⟨rfl,rfl,?_,?_,?_,fun v _ q=>q.kids hk⟩,List.length_set,fun j=>?_⟩
 ·obtain ⟨y,I,_,_,J,_⟩:=gT j y' hy
  rw [J];exact h.b j y I hj
 ·show ((r.T.an.set i _).length:Int)≤_;rw [List.length_set];omega
 ·show _≤(r.T.an.set i _).length;rw [List.length_set];exact Nat.le_refl _
 ·show (r.D.length:Int)≤_;omega
 ·show M.endOf (r.T.an.set i _) j=_
  unfold M.endOf
  have:=wL j
  revert this
  cases r.T.an[j]? with
  | none=>
   intro this
   simp only [Option.map_none,Option.map_eq_none_iff] at this
   rw [this];rfl
  | some x=>
   intro this
   obtain ⟨y,hy,e⟩:=Option.map_eq_some_iff.1 this
   simp only [Prod.mk.injEq] at e
   obtain ⟨e1,aa,U⟩:=e
   rw [hy]
   simp only [Option.map_some,e1,U]
   congr 1
   cases x.Kids.getLast? with
   | none=>rfl
   | some k=>
    simp only
    split
    ·have:=wL k.toNat
     revert this
     cases r.T.an[k.toNat]? with
     | none=>intro this;simp only [Option.map_none,Option.map_eq_none_iff] at this;rw [this]
     | some z=>
      intro this
      obtain ⟨w,hw,e⟩:=Option.map_eq_some_iff.1 this
      simp only [Prod.mk.injEq] at e
      rw [hw];simp only [e.2.1]
    ·rfl
theorem tw (F:Nat) (hF:2500≤F) {n:Int} {r:Rr} {p:Int} (h:Rd n r p) (hl:r.T.an.length≤2300) {up:Nat} (hs:Sp r.T.an up) {aN to:Int} (h0:0≤aN) (fG:aN<to) (ht:to≤n) (lg:p≤to) (he:∀ e,endOf r.T.an up=some e→e≤aN):
  ∃ r',ma F r (up:Int) aN to=some ((r.T.an.length:Int),r')∧Rd n r' to∧To r r' up 2 0∧Sp r'.T.an r.T.an.length∧(to - aN<2→r'.T.an.length≤r.T.an.length+1):=by
 have hn:=h.nl
 have dH:=h.ri.n
 have pq:=hs.lt h.g
 obtain ⟨r1,a1,J,ad,ae,az,ah,z,hz,oP,nh⟩:=js F hF h (by omega) hs (kind:=6) (by omega) (Int.le_of_lt fG) ht lg he
 unfold ma
 rw [a1]
 simp only [ax]
 have hw:af (to - aN)=to - aN:=aZ (by omega) (by omega)
 rw [hw]
 by_cases c:to - aN<2
 ·rw [if_pos c]
  exact ⟨r1,rfl,J,ad.le (by omega) (by omega),ae,fun _=>by omega⟩
 rw [if_neg c]
 have aa:=ad.l
 have key:∀ (d m:Nat) (k i:Int),aN≤i→i≤to→(to - i).toNat≤d→d<m→(1≤k∧k≤11)→∃ k' i',correctorref11_Reader_Pair_l0 F r (up:Int) aN to m r1 (r.T.an.length:Int) k i=some (r1,(r.T.an.length:Int),k')∧(1≤k'∧k'≤11)∧i'=i:=by
  intro d
  induction d with
  | zero=>
   intro m k i h1 h2 ai aj ab
   obtain ⟨m,rfl⟩:∃ q,m=q+1:=⟨m - 1,by omega⟩
   rw [correctorref11_Reader_Pair_l0,if_neg (by omega)]
   exact ⟨k,i,rfl,ab,rfl⟩
  | succ d ih=>
   intro m k i h1 h2 ai aj ab
   obtain ⟨m,rfl⟩:∃ q,m=q+1:=⟨m - 1,by omega⟩
   rw [correctorref11_Reader_Pair_l0]
   by_cases c0:i<to
   case neg=>rw [if_neg c0];exact ⟨k,i,rfl,ab,rfl⟩
   have dJ:i.toNat<r1.L.length:=by rw [aa];omega
   rw [if_pos c0,if_pos (by rw [aa];omega),aX dJ,w1 (by omega) (by omega)]
   simp only [ax]
   split
   ·simp only [ax]
    obtain ⟨k',i',U,I,_⟩:=ih m 8 (i+1) (by omega) (by omega) (by omega) (by omega) (by omega)
    exact ⟨k',i,U,I,rfl⟩
   ·simp only [ax]
    obtain ⟨k',i',U,I,_⟩:=ih m k (i+1) (by omega) (by omega) (by omega) (by omega) ab
    exact ⟨k',i,U,I,rfl⟩
 obtain ⟨k',_,ak,ao,_⟩:=key (to - aN).toNat F 7 aN (Int.le_refl _) (by omega) (Nat.le_refl _) (by omega) (by omega)
 rw [ak]
 simp only [ax]
 obtain ⟨j,aq,aA,aB,_⟩:=qc F hF r1 J.ri.n (to - 1) (aN+1) (by omega) (by omega) (by rw [aa];omega)
 rw [jU (by omega) (by omega),w1 (by omega) (by omega),aq]
 simp only [ax]
 obtain ⟨N',U,I⟩:=vG F hF r1 J.g (by omega) (up:=r.T.an.length) (by omega) ae (kind:=k') (aN:=aN) (to:=j) ao (by omega) (by omega) (fun e he=>by rw [qK hz nh e he,oP];exact Int.le_refl _)
 rw [U]
 simp only [ax]
 have kY:Rd n (⟨r1.L,⟨N'⟩,r1.D,r1.End⟩:Rr) to:=⟨J.ri.of rfl rfl,by show n=(r1.L.length:Int);rw [aa];exact hn,I.g,I.wg _ J.b (by omega)⟩
 have hlen:N'.length=r.T.an.length+2:=by rw [I.len,ah]
 obtain ⟨ar,au,av,aw,aC,_⟩:=tO F kY (i:=r.T.an.length) (by show N'.length≤2500;omega) (by show r.T.an.length<N'.length;omega)
 rw [au]
 have ay:To r1 (⟨r1.L,⟨N'⟩,r1.D,r1.End⟩:Rr) r.T.an.length 1 0:=⟨rfl,rfl,by show (N'.length:Int)≤_;rw [I.len];omega,by show _≤N'.length;rw [I.len];omega,by show (r1.D.length:Int)≤_;omega,I.c4⟩
 have ag:=ay.trans (aw r.T.an.length) (Nat.le_refl _)
 exact ⟨ar,rfl,av,(ad.trans ag (by omega)).le (by omega) (by omega),ag.sp _ (Nat.le_refl _) ae,fun q=>absurd q c⟩
end
section
open Go Am Sy
abbrev Rec:=Rr→Int→Int→Int→Option (Int×Int×Rr)
def bg (k:Int):Prop:=k=12∨k=14∨k=15∨k=16∨k=17∨k=13∨k=8∨k=9∨k=18
def Vl (n:Int) (r:Rr) (up:Nat) (at_:Int) (node next:Int) (r':Rr):Prop:=
  (node= -1∧next=at_∧r'=r∧¬ bg (kd r at_))∨(0≤node∧at_<next∧next≤r.End∧Rd n r' next∧To r r' up (2 * (next - at_) - 1) (4 * (next - at_))∧Ct r.L next)
def VS (rec:Rec) (depth:Int):Prop:=
  ∀ (n:Int) (r:Rr) (up:Nat) (at_:Int),Rd n r (at_+1)→(∀ e,endOf r.T.an up=some e→e≤at_)→Sp r.T.an up→0≤at_→at_≤r.End→(r.T.an.length:Int)≤4 * at_+5→(r.D.length:Int)≤4 * at_+5→
    ∃ node next r',rec r (up:Int) at_ depth=some (node,next,r')∧Vl n r up at_ node next r'
theorem zZ (F:Nat) (hF:2500≤F) (rec:Rec) (depth:Int) (v7: -1000≤depth∧depth≤1000) (jh:VS rec (depth - 1)) {n:Int} {r:Rr} {i:Int} (h:Rd n r i) (h0:0≤i) (h2:i<r.End) {c:Nat} (hs:Sp r.T.an c) (hN:(r.T.an.length:Int)≤4 * i+4) (hd:(r.D.length:Int)≤4 * i+4) {q:Int} (hq:iJ F r i=some q) (hb:0<q∨bg (kd r i)):
    ∃ next r',ic F rec r (c:Int) i depth=some (next,r')∧i<next∧next≤r.End∧Rd n r' next∧To r r' c (2 * (next - i)) (4 * (next - i))∧Ct r.L next:=by
  have ay:=h.ri.e1
  have dH:=h.ri.n
  have hn:=h.nl
  have pq:=hs.lt h.g
  have rE:af (depth - 1)=depth - 1:=aZ (by omega) (by omega)
  have j7:=h.endOf h0 c (Int.le_refl i)
  obtain ⟨q',ae,au⟩:=vH F hF r h.ri i h0 (by omega)
  rw [hq] at ae;simp only [Option.some.injEq] at ae;subst ae
  unfold ic
  rw [hq]
  simp only [ax]
  by_cases c0:0<q
  · rw [if_pos c0]
    have eL:i<q∧q≤r.End:=by omega
    obtain ⟨r1,a1,I,j,ag,ao⟩:=tw F hF h (by omega) hs h0 eL.1 (by omega) (by omega) j7
    have av:=j.e
    have cc:=j.sz
    have fY:=j.dl
    obtain ⟨x,ah,ai,aj,_⟩:=o6 F hF r1 I.ri q (by omega) (by omega)
    rw [a1]
    simp only [ax,ah,fE F r1 I.ri x (by omega),p7,decide_eq_true_eq]
    have vD:To r r1 c (2 * (q - i)) (4 * (q - i)):=by
      refine ⟨j.l,j.e,?_,j.ge,by omega,j.sp⟩
      by_cases z:q - i<2
      · have:=ao z;omega
      · omega
    have stay:∃ next r',(some (q,r1):Option (Int×Rr))=some (next,r')∧i<next∧next≤r.End∧Rd n r' next∧To r r' c (2 * (next - i)) (4 * (next - i))∧Ct r.L next:=⟨q,r1,rfl,eL.1,eL.2,I,vD,by rcases au with z | z;omega;exact z.2.2⟩
    by_cases c1:kd r1 x=0
    · rw [if_pos c1];exact stay
    rw [if_neg c1]
    by_cases c2:kd r1 x=7
    · rw [if_pos c2];exact stay
    rw [if_neg c2]
    by_cases aq:kd r1 x=10∨kd r1 x=11
    · rw [if_pos aq];exact stay
    rw [if_neg aq,rE]
    have jj:=fN c1
    obtain ⟨node,next,ab,d1,d2⟩:=jh n r1 r.T.an.length x (I.mono (by omega)) (fun e he=>Int.le_trans (vt I.g I.b (by omega) _ e he) ai) ag (by omega) (by omega) (by omega) (by omega)
    rw [d1]
    simp only [ax]
    rcases d2 with ⟨rfl,rfl,rfl,_⟩ | ⟨e1,ad,ar,J,U,aa⟩
    · rw [if_pos (by omega)];exact stay
    · rw [if_neg (by omega)]
      exact ⟨next,ab,rfl,by omega,by omega,J,(vD.trans U (by omega)).le (by omega) (by omega),by rw [← j.l];exact aa⟩
  · rw [if_neg c0]
    have nB:bg (kd r i):=by rcases hb with z | z;exact absurd z c0;exact z
    have du:(c:Int)<r.T.an.length:=by omega
    rw [if_pos ⟨by omega,du⟩,b2,aX pq]
    simp only [ax]
    by_cases c1:r.T.an[c].Kind=10
    · rw [if_pos c1,w1 h0 (by omega)]
      obtain ⟨r1,a1,I,j,ag,ao,az,z,hz,oP,nh⟩:=js F hF h (by omega) hs (kind:=6) (aN:=i) (to:=i+1) (by omega) (by omega) (by omega) (by omega) j7
      have cc:=j.sz
      obtain ⟨ab,ah,ai,aj,aA,aw⟩:=tO F I (i:=r.T.an.length) (by omega) (by omega)
      have t12:=j.trans (aj c) (Nat.le_refl _)
      have oI:kd ab i=kd r i:=by unfold kd;rw [t12.l,t12.e]
      have fY:=t12.dl
      have av:=t12.e
      rw [a1]
      simp only [ax,ah,rE]
      obtain ⟨node,next,ak,d1,d2⟩:=jh n ab r.T.an.length i ai (fun e he=>by rw [aw,] at he;rw [qK hz nh e he,oP];exact Int.le_refl _) ((aj r.T.an.length).sp _ (Nat.le_refl _) ag) h0 (by omega) (by omega) (by omega)
      rw [d1]
      simp only [ax]
      rcases d2 with ⟨_,_,_,e1⟩ | ⟨e1,ad,ar,J,U,aa⟩
      · rw [oI] at e1;exact absurd nB e1
      · exact ⟨next,ak,rfl,ad,by omega,J,(t12.trans U (by omega)).le (by omega) (by omega),by rw [← t12.l];exact aa⟩
    · rw [if_neg c1]
      simp only [ax,rE]
      obtain ⟨node,next,ak,d1,d2⟩:=jh n r c i (h.mono (by omega)) j7 hs h0 (by omega) (by omega) (by omega)
      rw [d1]
      simp only [ax]
      rcases d2 with ⟨_,_,_,e1⟩ | ⟨e1,ad,ar,J,U,aa⟩
      · exact absurd nB e1
      · exact ⟨next,ak,rfl,ad,by omega,J,U.le (by omega) (by omega),aa⟩
theorem D0 {F:Nat} {k:Int} {b:Bool} (h:jf F k=some b) (hb:b=true):bg k:=by
  subst hb
  unfold jf at h
  unfold bg
  by_cases c1:k=12
  · omega
  by_cases c2:k=14
  · omega
  rw [if_neg c1,if_neg c2] at h
  unfold fC at h
  by_cases d1:k=15
  · omega
  by_cases d2:k=16
  · omega
  by_cases d3:k=17
  · omega
  by_cases d4:k=13
  · omega
  rw [if_neg d1,if_neg d2,if_neg d3,if_neg d4] at h
  simp only [ax,Bool.false_eq_true,if_false,n5,decide_eq_true_eq] at h
  by_cases e1:k=8∨k=9
  · omega
  rw [if_neg e1] at h
  by_cases j:k=18
  · omega
  rw [if_neg j] at h
  simp at h
theorem CT (F:Nat) (k:Int):∃ b,jf F k=some b:=by
  unfold jf
  obtain ⟨b,hb⟩:=pK F k
  rw [hb]
  simp only [ax,n5]
  repeat' split
  all_goals exact ⟨_,rfl⟩
theorem wT (F:Nat) (hF:2500≤F) (rec:Rec) (depth:Int) (aD: -1000≤depth∧depth≤1000) (jh:VS rec (depth - 1)) {n:Int} (a0:Rr) (op:Int) (c:Nat) (aE:0≤op):
    ∀ (d m:Nat) (r:Rr) (next dX:Int) (hv:Bool),(dX=10∨dX=11)→(r.End - next).toNat≤d→d<m→Rd n r next→op<next→next≤r.End→Sp r.T.an c→(r.T.an.length:Int)≤4 * next+4→(r.D.length:Int)≤4 * next+3→Ct r.L next→
    ∃ q r',correctorref11_Reader_collection_l0 F rec a0 (c:Int) op depth m r hv next dX=some (q,r')∧next≤q∧q≤r.End∧Rd n r' q∧To r r' c (2 * (q - next)) (4 * (q - next)+1)∧Ct r.L q:=by
  have stop:∀ (m:Nat) (r:Rr) (next dX:Int) (hv:Bool) (j:Int),Rd n r next→op<next→next≤r.End→(r.D.length:Int)≤4 * next+3→Ct r.L next→iL F r next=some j→kd r j=0→next≤j→
      ∃ q r',correctorref11_Reader_collection_l0 F rec a0 (c:Int) op depth (m+1) r hv next dX=some (q,r')∧next≤q∧q≤r.End∧Rd n r' q∧To r r' c (2 * (q - next)) (4 * (q - next)+1)∧Ct r.L q:=by
    intro m r next dX hv j h h1 h2 hd hc hj hk GP
    have ay:=h.ri.e1
    have dH:=h.ri.n
    have r9:op.toNat<r.L.length:=by omega
    rw [correctorref11_Reader_collection_l0,hj]
    simp only [ax,fE F r h.ri j (by omega),hk,if_true]
    rw [if_pos (by omega),aX r9]
    simp only [ax]
    rw [if_pos (by omega)]
    rw [if_pos (by rw [cQ];omega),w1 aE (by omega)]
    obtain ⟨q,aF,aV,aW,aY,aG⟩:=qc F hF (⟨r.L,r.T,r.D++[(⟨9,r.L[op.toNat].ah,r.L[op.toNat].To⟩:aj)],r.End⟩:Rr) dH next (op+1) (by omega) (by omega) (by show next≤(r.L.length:Int);omega)
    have hq:q=next:=by
      rcases Int.lt_or_eq_of_le (show op+1≤next by omega) with z | z
      · exact aG z hc
      · omega
    subst hq
    rw [aF]
    simp only [ax]
    refine ⟨q,_,rfl,Int.le_refl _,h2,⟨h.ri.of rfl rfl,h.nl,h.g,h.b⟩,⟨rfl,rfl,by show (r.T.an.length:Int)≤_;omega,Nat.le_refl _,?_,fun v _ z=>z⟩,hc⟩
    show ((r.D++_).length:Int)≤_
    rw [b7,cQ];omega
  intro d
  induction d with
  | zero=>
    intro m r next dX hv uf hd hm h aq ar hs hN fY hc
    obtain ⟨m,rfl⟩:∃ k,m=k+1:=⟨m - 1,by omega⟩
    have ay:=h.ri.e1
    have dH:=h.ri.n
    obtain ⟨i,ao,J,aH,az⟩:=o6 F hF r h.ri next (by omega) (by omega)
    exact stop m r next dX hv i h aq ar fY hc ao (iO (by omega)) J
  | succ d ih=>
    intro m r next dX hv uf hd hm h aq ar hs hN fY hc
    obtain ⟨m,rfl⟩:∃ k,m=k+1:=⟨m - 1,by omega⟩
    have ay:=h.ri.e1
    have dH:=h.ri.n
    have lz:=h.nl
    have pq:=hs.lt h.g
    obtain ⟨i,ao,J,aH,az⟩:=o6 F hF r h.ri next (by omega) (by omega)
    by_cases c0:kd r i=0
    · exact stop m r next dX hv i h aq ar fY hc ao c0 J
    have qo:=fN c0
    have gw:=az c0
    have eN:0<kd r i:=by have:=yw h.ri i;omega
    have fM:Ct r.L (i+1):=Ct.of h.ri (by omega) rfl c0 gw
    have hi:=h.mono J
    have m6:=h.endOf (by omega) c J
    have hw:af (i+1)=i+1:=w1 (by omega) (by omega)
    rw [correctorref11_Reader_collection_l0,ao]
    simp only [ax,fE F r h.ri i (by omega),p7,decide_eq_true_eq,hw]
    rw [if_neg c0]
    have go:∀ (next':Int) (r1:Rr) (b:Bool),i<next'→next'≤r.End→Rd n r1 next'→To r r1 c (2 * (next' - i)) (4 * (next' - i))→Ct r.L next'→∃ q r',correctorref11_Reader_collection_l0 F rec a0 (c:Int) op depth m r1 b next' dX=some (q,r')∧next≤q∧q≤r.End∧Rd n r' q∧To r r' c (2 * (q - next)) (4 * (q - next)+1)∧Ct r.L q:=by
      intro next' r1 b au aA av I aI
      have e1:=I.e
      have s1:=I.sz
      have s2:=I.dl
      obtain ⟨q,r',w1,w2,aZ,aJ,aK,aL⟩:=ih m r1 next' dX b uf (by omega) (by omega) av (by omega) (by omega) (I.sp c (Nat.le_refl _) hs) (by omega) (by omega) (by rw [I.l];exact aI)
      exact ⟨q,r',w1,by omega,by omega,aJ,(I.trans aK (Nat.le_refl _)).le (by omega) (by omega),by rw [← I.l];exact aL⟩
    have pV:∀ (j:Int) (b:Bool),i<j→j≤r.End→Ct r.L j→∃ q r',((eu F r (c:Int) i j 8).bind fun aM=>correctorref11_Reader_collection_l0 F rec a0 (c:Int) op depth m aM.2 b j dX)=some (q,r')∧next≤q∧q≤r.End∧Rd n r' q∧To r r' c (2 * (q - next)) (4 * (q - next)+1)∧Ct r.L q:=by
      intro j b au aA av
      obtain ⟨r1,U,aa,ab,_⟩:=o3 F hF h (by omega) (by omega) hs (code:=8) (aN:=i) (to:=j) (by omega) au (by omega) (by omega) m6
      rw [U]
      simp only [ax]
      exact go j r1 b au aA aa (ab.le (by omega) (by omega)) av
    have vn:∀ q:Int,iJ F r i=some q→(0<q∨bg (kd r i))→∃ q r',((ic F rec r (c:Int) i depth).bind fun ad=>correctorref11_Reader_collection_l0 F rec a0 (c:Int) op depth m ad.2 true ad.1 dX)=some (q,r')∧next≤q∧q≤r.End∧Rd n r' q∧To r r' c (2 * (q - next)) (4 * (q - next)+1)∧Ct r.L q:=by
      intro q hq hb
      obtain ⟨nx,r1,U,aa,ab,aw,aO,aP⟩:=zZ F hF rec depth aD jh hi (by omega) qo hs (by omega) (by omega) hq hb
      rw [U]
      simp only [ax]
      exact go nx r1 true aa ab aw aO aP
    have G2:∀ {α:Type} (f:bK→Option α) (P:α→Prop),(∀ t',Rd n (⟨r.L,t',r.D,r.End⟩:Rr) (i+1)→To r (⟨r.L,t',r.D,r.End⟩:Rr) c 0 0→∃ a,f t'=some a∧P a)→∃ a,((iI F r.T (c:Int) (i+1)).bind f)=some a∧P a:=by
      intro α f P hf
      obtain ⟨t',ae,ag,ai⟩:=qg F hF h (by omega) hs (to:=i+1) (by omega) (by omega)
      rw [ae]
      exact hf t' ag (ai c)
    by_cases c1:kd r i=dX
    · rw [if_pos c1]
      obtain ⟨t',ae,ag,ai⟩:=qg F hF h (by omega) hs (to:=i+1) (by omega) (by omega)
      rw [ae]
      simp only [ax]
      exact ⟨i+1,_,rfl,by omega,by omega,ag,(ai c).le (by omega) (by omega),fM⟩
    rw [if_neg c1]
    by_cases c2:kd r i=10∨kd r i=11
    · rw [if_pos c2]
      exact pV (i+1) hv (by omega) (by omega) fM
    rw [if_neg c2]
    obtain ⟨kq,qy,_⟩:=vH F hF r h.ri i (by omega) (by omega)
    obtain ⟨bb,kG⟩:=CT F (kd r i)
    have tail:kd r i≠7→∃ q r',(if hv=true then
         (kj F r i).bind fun aB=>
         (eu F r (c:Int) i aB 8).bind fun aQ=>
         correctorref11_Reader_collection_l0 F rec a0 (c:Int) op depth m aQ.2 hv aB dX
        else
         (iJ F r i).bind fun aS=>
         if (0:Int)<aS then
          (ic F rec r (c:Int) i depth).bind fun ad=>
          correctorref11_Reader_collection_l0 F rec a0 (c:Int) op depth m ad.2 true ad.1 dX
         else
          (jf F (kd r i)).bind fun aT=>
          if aT=true then
           (ic F rec r (c:Int) i depth).bind fun aC=>
           correctorref11_Reader_collection_l0 F rec a0 (c:Int) op depth m aC.2 true aC.1 dX
          else
           (eu F r (c:Int) i (i+1) 8).bind fun aU=>
           correctorref11_Reader_collection_l0 F rec a0 (c:Int) op depth m aU.2 hv (i+1) dX)=some (q,r')∧next≤q∧q≤r.End∧Rd n r' q∧To r r' c (2 * (q - next)) (4 * (q - next)+1)∧Ct r.L q:=by
      intro ak
      cases hv with
      | true=>
        simp only [if_true]
        obtain ⟨j,U,aa,ab,aw⟩:=zi F hF r h.ri i (by omega) eN gw ak c2
        rw [U]
        simp only [ax]
        exact pV j true aa ab aw
      | false=>
        simp only [Bool.false_eq_true,if_false,qy,ax]
        by_cases k0:0<kq
        · rw [if_pos k0];exact vn kq qy (.inl k0)
        rw [if_neg k0,kG]
        simp only [ax]
        by_cases b0:bb=true
        · rw [if_pos b0];exact vn kq qy (.inr (D0 kG b0))
        · rw [if_neg b0];exact pV (i+1) false (by omega) (by omega) fM
    by_cases ak:kd r i=7
    · simp only [if_pos ak]
      cases hv with
      | true=>
        simp only [if_true]
        obtain ⟨t',ae,ag,ai⟩:=qg F hF h (by omega) hs (to:=i+1) (by omega) (by omega)
        rw [ae]
        simp only [ax]
        exact go (i+1) _ false (by omega) (by omega) ag ((ai c).le (by omega) (by omega)) fM
      | false=>
        simp only [Bool.false_eq_true,if_false]
        exact pV (i+1) false (by omega) (by omega) fM
    · simp only [if_neg ak]
      exact tail ak
end
section
open Go Am Sy
theorem BL (F:Nat) (hF:2500≤F) (rec:Rec) (depth:Int) (j: -1000≤depth∧depth≤1000) (jh:VS rec (depth - 1)) {n:Int} {r:Rr} {op:Int} (h:Rd n r (op+1)) (h0:0≤op) (h1:op<r.End) (hk:kd r op=8∨kd r op=9) {c:Nat} (hs:Sp r.T.an c) (hN:(r.T.an.length:Int)≤4 * op+8) (hd:(r.D.length:Int)≤4 * op+7):
  ∃ q r',mI F rec r (c:Int) op depth=some (q,r')∧op<q∧q≤r.End∧Rd n r' q∧To r r' c (2 * (q - (op+1))) (4 * (q - (op+1))+1)∧Ct r.L q:=by
 have ad:=h.ri.e1
 have dH:=h.ri.n
 have r9:op.toNat<r.L.length:=by omega
 have qH:Ct r.L (op+1):=by rcases hk with z | z<;>exact Ct.of h.ri h0 z (by decide) rfl
 have main:∀ dX:Int,(dX=10∨dX=11)→∃ q r',((correctorref11_Reader_collection_l0 F rec r (c:Int) op depth F r false (af (op+1)) dX).bind fun o=>match o with
   | y=>some y)=some (q,r')∧op<q∧q≤r.End∧Rd n r' q∧To r r' c (2 * (q - (op+1))) (4 * (q - (op+1))+1)∧Ct r.L q:=by
  intro dX hm
  obtain ⟨q,r',I,ae,J,U,aa,ab⟩:=wT F hF rec depth j jh r op c h0 (r.End - (op+1)).toNat F r (op+1) dX false hm (Nat.le_refl _) (by omega) h (by omega) (by omega) hs (by omega) (by omega) qH
  rw [w1 h0 (by omega),I]
  exact ⟨q,r',rfl,by omega,J,U,aa,ab⟩
 unfold mI
 rw [if_pos (by omega),aX r9]
 simp only [ax]
 split
 ·simp only [ax];exact main 11 (.inr rfl)
 ·simp only [ax];exact main 10 (.inl rfl)
theorem tG (F:Nat) (hF:2500≤F) (rec:Rec) (depth:Int) (aw: -1000≤depth∧depth≤1000) (jh:0<depth→VS rec (depth - 1)):VS (o2 F rec) depth:=by
 intro n r up at_ h j7 hs h0 fh hN hd
 have aS:=h.ri.e1
 have dH:=h.ri.n
 have lz:=h.nl
 have pq:=hs.lt h.g
 obtain ⟨i0,ay,az,aT,aA⟩:=tN F hF r h.ri at_ h0 (by omega)
 have key:∀ (d m:Nat) (i first last:Int),i0≤i→i≤1600→(r.End - i).toNat≤d→d<m→((first= -1∧i=i0)∨(first=i0∧i0≤last∧last<r.End∧Ct r.L (last+1)))→
   ∃ i' fI jx,correctorref11_Reader_Value_l0 F rec r (up:Int) at_ depth m i first last=some (i',fI,jx)∧i0≤i'∧i'≤1600∧((fI= -1∧i'=i0∧kd r i0≠12∧kd r i0≠14)∨(fI=i0∧i0≤jx∧jx<r.End∧Ct r.L (jx+1))):=by
  intro d
  induction d with
  | zero=>
   intro m i first last hi ae v7 hm hl
   obtain ⟨m,rfl⟩:∃ k,m=k+1:=⟨m - 1,by omega⟩
   have aa:=fE F r h.ri i (by omega)
   rw [iO (by omega)] at aa
   rw [correctorref11_Reader_Value_l0]
   simp only [aa,ax]
   refine ⟨i,first,last,rfl,hi,ae,?_⟩
   rcases hl with ⟨U,rfl⟩ | z
   ·exact .inl ⟨U,rfl,by rw [iO (by omega)];decide,by rw [iO (by omega)];decide⟩
   ·exact .inr z
  | succ d ih=>
   intro m i first last hi ae v7 hm hl
   obtain ⟨m,rfl⟩:∃ k,m=k+1:=⟨m - 1,by omega⟩
   have aa:=fE F r h.ri i (by omega)
   have o7:(if first<(0:Int) then (some i:Option Int) else some first)=some i0:=by
    rcases hl with ⟨rfl,rfl⟩ | ⟨rfl,_⟩
    ·rfl
    ·rw [if_neg (by omega)]
   have go:(kd r i=12∨kd r i=14)→∃ i' fI jx,(((if first<(0:Int) then (some i:Option Int) else some first).bind fun o=>match o with
     | aB=>(kS F r (af (i+1))).bind fun aC=>
     correctorref11_Reader_Value_l0 F rec r (up:Int) at_ depth m aC aB i):Option (Int×Int×Int))=some (i',fI,jx)∧i0≤i'∧i'≤1600∧((fI= -1∧i'=i0∧kd r i0≠12∧kd r i0≠14)∨(fI=i0∧i0≤jx∧jx<r.End∧Ct r.L (jx+1))):=by
    intro c
    have fb:=fN (r:=r) (i:=i) (by omega)
    obtain ⟨j,aD,aU,aV,_⟩:=tN F hF r h.ri (i+1) (by omega) (by omega)
    rw [o7,w1 (by omega) (by omega),aD]
    simp only [ax]
    exact ih m j i0 i (by omega) (by omega) (by omega) (by omega) (.inr ⟨rfl,hi,fb,by rcases c with c | c<;>exact Ct.of h.ri (by omega) c (by decide) rfl⟩)
   rw [correctorref11_Reader_Value_l0]
   simp only [aa,ax]
   by_cases c:kd r i=12
   ·simp only [if_pos c,ax];exact go (.inl c)
   rw [if_neg c]
   by_cases c':kd r i=14
   ·simp only [if_pos c',ax];exact go (.inr c')
   simp only [if_neg c',ax]
   refine ⟨i,first,last,rfl,hi,ae,?_⟩
   rcases hl with ⟨U,rfl⟩ | z
   ·exact .inl ⟨U,rfl,c,c'⟩
   ·exact .inr z
 obtain ⟨i,first,last,aE,aW,aX,ao⟩:=key (r.End - i0).toNat F i0 (-1) 0 (Int.le_refl _) (by omega) (Nat.le_refl _) (by omega) (.inl ⟨rfl,rfl⟩)
 have rU:(if (0:Int)≤first then (some first:Option Int) else some i)=some i0:=by
  rcases ao with ⟨rfl,rfl,_⟩ | ⟨rfl,_⟩
  ·rfl
  ·rw [if_pos (by omega)]
 unfold o2
 rw [ay]
 simp only [ax,aE,rU,fE F r h.ri i (by omega),n5,decide_eq_true_eq]
 have m6:∀ e,endOf r.T.an up=some e→e≤i0:=fun e he=>Int.le_trans (j7 e he) az
 have put:∀ (kind to:Int),(1≤kind∧kind≤11)→i0<to→to≤r.End→Ct r.L to→∃ node next r',((eO F r (up:Int) kind i0 to).bind fun aq=>some (aq.1,to,aq.2))=some (node,next,r')∧Vl n r up at_ node next r':=by
  intro kind to U aF ag ab
  obtain ⟨r1,a1,ah,I,_⟩:=js F hF h (by omega) hs (kind:=kind) (aN:=i0) (to:=to) U (by omega) (by omega) (by omega) m6
  rw [a1]
  exact ⟨_,to,r1,rfl, .inr ⟨by omega,by omega,ag,ah,I.le (by omega) (by omega),ab⟩⟩
 have fb:kd r i≠0→af (i+1)=i+1∧i+1≤r.End∧i0<i+1:=fun q=>by
  have:=fN q
  exact ⟨w1 (by omega) (by omega),by omega,by omega⟩
 by_cases ad:kd r i=13
 ·rw [if_pos ad]
  obtain ⟨w0,w2,ai⟩:=fb (by omega)
  rw [w0]
  exact put 8 (i+1) (by omega) ai w2 (Ct.of h.ri (by omega) ad (by decide) rfl)
 rw [if_neg ad]
 obtain ⟨b,hb⟩:=pK F (kd r i)
 rw [hb]
 simp only [ax]
 have n2:b=true→kd r i=15∨kd r i=16∨kd r i=17:=by
  rintro rfl
  unfold fC at hb
  by_cases d1:kd r i=15
  ·exact .inl d1
  by_cases d2:kd r i=16
  ·exact .inr (.inl d2)
  by_cases d3:kd r i=17
  ·exact .inr (.inr d3)
  rw [if_neg d1,if_neg d2,if_neg d3,if_neg ad] at hb
  simp at hb
 by_cases cb:b=true
 ·rw [if_pos cb]
  have hk:=n2 cb
  obtain ⟨w0,w2,ai⟩:=fb (by omega)
  rw [w0]
  exact put 7 (i+1) (by omega) ai w2 (by rcases hk with z | z | z<;>exact Ct.of h.ri (by omega) z (by decide) rfl)
 rw [if_neg cb]
 by_cases aj:kd r i=18
 ·rw [if_pos aj]
  have qo:=fN (r:=r) (i:=i) (by omega)
  obtain ⟨j,t1,t2,t3,t4⟩:=Eh F hF r h.ri i (by omega) qo (Ct.of h.ri (by omega) aj (by decide) rfl)
  rw [t1]
  simp only [ax]
  exact put 7 j (by omega) (by omega) t3 t4
 rw [if_neg aj]
 by_cases J:kd r i=8∨kd r i=9
 ·have qo:=fN (r:=r) (i:=i) (by omega)
  by_cases ar:depth≤0
  ·rw [if_pos J,if_pos ar]
   simp only [ax,if_true]
   obtain ⟨j,t1,t2,t3,t4⟩:=balanced_ex F hF r h.ri i (by omega) J
   rw [t1]
   simp only [ax]
   obtain ⟨r1,aG,aH,aI,_⟩:=o3 F hF h (by omega) (by omega) hs (code:=10) (aN:=i0) (to:=j) (by omega) (by omega) (by omega) (by omega) m6
   rw [aG]
   exact ⟨_,_,_,rfl, .inr ⟨by omega,by omega,t3,aH,aI.le (by omega) (by omega),t4⟩⟩
  ·rw [if_pos J,if_neg ar]
   simp only [ax,Bool.false_eq_true,if_false,if_pos J]
   have main:∀ kind:Int,(1≤kind∧kind≤11)→∃ node next r',((eO F r (up:Int) kind i0 (af (i+1))).bind fun ak=>
     (mI F rec ak.2 ak.1 i depth).bind fun au=>some (ak.1,au.1,au.2))=some (node,next,r')∧Vl n r up at_ node next r':=by
    intro kind oz
    obtain ⟨r1,a1,ah,I,aJ,aK,aY,_⟩:=js F hF h (by omega) hs (kind:=kind) (aN:=i0) (to:=i+1) oz (by omega) (by omega) (by omega) m6
    have oI:kd r1 i=kd r i:=by unfold kd;rw [I.l,I.e]
    have aZ:=I.e
    obtain ⟨q,aL,aM,a0,a2,aO,aP,aQ⟩:=BL F hF rec depth aw (jh (by omega)) ah (by omega) (by omega) (by rw [oI];exact J) aJ (by omega) (by rw [aK];omega)
    rw [w1 (by omega) (by omega),a1]
    simp only [ax,aM]
    exact ⟨_,q,aL,rfl, .inr ⟨by omega,by omega,by omega,aO,(I.trans aP (by omega)).le (by omega) (by omega),by rw [← I.l];exact aQ⟩⟩
   by_cases av:kd r i=9
   ·rw [if_pos av];simp only [ax];exact main 10 (by omega)
   ·rw [if_neg av];simp only [ax];exact main 9 (by omega)
 ·simp only [if_neg J,ax,Bool.false_eq_true,if_false]
  rcases ao with ⟨rfl,rfl,ag,ab⟩ | ⟨rfl,aF,ag,ab⟩
  ·rw [if_neg (by omega)]
   refine ⟨_,_,_,rfl, .inl ⟨rfl,rfl,rfl,fun nB=>?_⟩⟩
   have cp:kd r at_≠0∧kd r at_≠3:=by unfold bg at nB;omega
   have e:=aA cp.1 cp.2
   subst e
   unfold bg at nB
   have a3:¬ (kd r i=15∨kd r i=16∨kd r i=17):=fun q=>by
    unfold fC at hb
    rcases q with q | q | q<;>rw [q] at hb<;>simp at hb<;>first | exact cb hb.symm | exact cb hb
   omega
  ·rw [if_pos (by omega),w1 (by omega) (by omega)]
   exact put 7 (last+1) (by omega) (by omega) (by omega) ab
theorem x2 (F:Nat) (hF:2500≤F):∀ (j:Nat) (k:Nat) (depth:Int), -1000≤depth→depth≤j→j≤1000→j+1≤k→VS (pP F k) depth:=by
 intro j
 induction j with
 | zero=>
  intro k depth h0 h1 h2 I
  obtain ⟨k,rfl⟩:∃ m,k=m+1:=⟨k - 1,by omega⟩
  exact tG F hF _ depth (by omega) (fun q=>by omega)
 | succ j ih=>
  intro k depth h0 h1 h2 I
  obtain ⟨k,rfl⟩:∃ m,k=m+1:=⟨k - 1,by omega⟩
  exact tG F hF _ depth (by omega) (fun q=>ih k (depth - 1) (by omega) (by omega) (by omega) (by omega))
theorem F6 (F:Nat) (hF:2500≤F) (depth:Int) (h0: -500≤depth) (h1:depth≤100):VS (rr F) depth:=x2 F hF 100 F depth (by omega) (by omega) (by omega) (by omega)
end
section
open Go Am Sy
abbrev Pp:=a5
def Tl:Int→List av→Prop
 | _,[]=>True
 | f,r::rs=>r.ah=f∧Tl r.To rs
structure RO (L:List al) (rs:List av):Prop where
 iy:∀ r∈rs,0≤r.ah∧r.ah<r.To∧r.To≤L.length
 tp:∀ x:Int,0≤x→x<L.length→∃ (i:Nat) (r:av),rs[i]?=some r∧x<r.To
 jQ:∀ r∈rs,(r.Kind=4∨r.Kind=5)→∃ (i:Int) (t:al),r.ah≤i∧i<r.To∧L[i.toNat]?=some t∧cn t.Kind=true
 len:rs.length≤450
 tl:Tl 0 rs
def FI (L:List al) (aN to a:Int):Prop:=aN≤a∧a≤to∧(∀ (i:Int) (t:al),aN≤i→i<a→L[i.toNat]?=some t→cn t.Kind=false)∧(a<to→∃ t,L[a.toNat]?=some t∧cn t.Kind=true)
theorem FI.eq {L:List al} {aN to a b:Int} (h:FI L aN to a) (k:FI L aN to b):a=b:=by
 obtain ⟨h1,h2,J,U⟩:=h
 obtain ⟨aa,ae,ab,ad⟩:=k
 rcases Int.lt_trichotomy a b with z | z | z
 ·obtain ⟨t,I,j⟩:=U (by omega)
  rw [ab a t h1 z I] at j;cases j
 ·exact z
 ·obtain ⟨t,I,j⟩:=ad (by omega)
  rw [J b t aa z I] at j;cases j
theorem k3 (F:Nat) (hF:2500≤F) (p:Pp) (hn:p.R.L.length≤450) (aN to:Int) (h0:0≤aN) (h1:aN≤to) (h2:to≤p.R.L.length):
  ∃ a b,g8 F p aN to=some (a,b)∧FI p.R.L aN to a∧a≤b∧b≤to∧(a<to→a<b)∧(∀ (i:Int) (t:al),b≤i→i<to→p.R.L[i.toNat]?=some t→cn t.Kind=false):=by
 have key:∀ (d m:Nat) (x:Int),aN≤x→x≤to→(to - x).toNat≤d→d<m→(∀ (i:Int) (t:al),aN≤i→i<x→p.R.L[i.toNat]?=some t→cn t.Kind=false)→∃ a,correctorref12_parser_counting_l0 F p aN to m x=some a∧FI p.R.L aN to a:=by
  intro d
  induction d with
  | zero=>
   intro m x hx j hd hm hq
   obtain ⟨m,rfl⟩:∃ k,m=k+1:=⟨m - 1,by omega⟩
   rw [correctorref12_parser_counting_l0,if_neg (by omega)]
   exact ⟨x,rfl,hx,j,hq,fun q=>by omega⟩
  | succ d ih=>
   intro m x hx j hd hm hq
   obtain ⟨m,rfl⟩:∃ k,m=k+1:=⟨m - 1,by omega⟩
   rw [correctorref12_parser_counting_l0]
   by_cases c:x<to
   case neg=>rw [if_neg c];exact ⟨x,rfl,hx,j,hq,fun q=>absurd q c⟩
   have hl:x.toNat<p.R.L.length:=by omega
   rw [if_pos c,if_pos (by omega),aX hl]
   simp only [ax,kl]
   by_cases c1:cn p.R.L[x.toNat].Kind=true
   ·rw [if_pos c1];exact ⟨x,rfl,hx,j,hq,fun _=>⟨_,aX hl,c1⟩⟩
   ·rw [if_neg c1,w1 (by omega) (by omega)]
    refine ih m (x+1) (by omega) (by omega) (by omega) (by omega) (fun i t I U J=>?_)
    rcases Int.lt_or_eq_of_le (show i≤x by omega) with z | z
    ·exact hq i t I z J
    ·subst z
     rw [aX hl] at J
     simp only [Option.some.injEq] at J
     subst J;simpa using c1
 obtain ⟨a,a1,aa⟩:=key (to - aN).toNat F aN (Int.le_refl _) h1 (Nat.le_refl _) (by omega) (fun i t I U=>by omega)
 have ab:∀ (d m:Nat) (x:Int),a≤x→x≤to→(x - a).toNat≤d→d<m→(a<to→a<x)→(∀ (i:Int) (t:al),x≤i→i<to→p.R.L[i.toNat]?=some t→cn t.Kind=false)→∃ b,correctorref12_parser_counting_l1 F p aN to m a x=some (a,b)∧a≤b∧b≤to∧(a<to→a<b)∧(∀ (i:Int) (t:al),b≤i→i<to→p.R.L[i.toNat]?=some t→cn t.Kind=false):=by
  intro d
  induction d with
  | zero=>
   intro m x hx j hd hm hq hz
   obtain ⟨m,rfl⟩:∃ k,m=k+1:=⟨m - 1,by omega⟩
   rw [correctorref12_parser_counting_l1,if_neg (by omega)]
   exact ⟨x,rfl,hx,j,hq,hz⟩
  | succ d ih=>
   intro m x hx j hd hm hq hz
   obtain ⟨m,rfl⟩:∃ k,m=k+1:=⟨m - 1,by omega⟩
   rw [correctorref12_parser_counting_l1]
   by_cases c:a<x
   case neg=>rw [if_neg c];exact ⟨x,rfl,hx,j,hq,hz⟩
   have ha:=aa.1
   have hl:(x - 1).toNat<p.R.L.length:=by omega
   rw [if_pos c,jU (by omega) (by omega),if_pos (by omega),aX hl]
   simp only [ax,kl]
   by_cases c1:cn p.R.L[(x - 1).toNat].Kind=true
   ·rw [if_pos c1];exact ⟨x,rfl,hx,j,hq,hz⟩
   ·rw [if_neg c1]
    refine ih m (x - 1) (by omega) (by omega) (by omega) (by omega) (fun q=>?_) (fun i t I U J=>?_)
    rotate_left
    ·rcases Int.lt_or_eq_of_le I with z | z
     ·exact hz i t (by omega) U J
     ·subst z
      rw [aX hl] at J
      simp only [Option.some.injEq] at J
      subst J;simpa using c1
    rcases Int.lt_or_eq_of_le (show a≤x - 1 by omega) with z | z
    ·exact z
    ·obtain ⟨t,I,U⟩:=aa.2.2.2 q
     rw [z,aX hl] at I
     simp only [Option.some.injEq] at I
     subst I;exact absurd U c1
 obtain ⟨b,ad,ae⟩:=ab (to - a).toNat F to aa.2.1 (Int.le_refl _) (Nat.le_refl _) (by have:=aa.1;omega) (fun q=>q) (fun i t I U=>by omega)
 unfold g8
 rw [a1]
 simp only [ax,ad]
 exact ⟨a,b,rfl,aa,ae⟩
theorem B8 (F:Nat) (hF:2500≤F) (p:Pp) (hn:p.R.L.length≤450) (aN:Int) (h0:0≤aN) (h1:aN≤p.R.L.length):∃ e,oE F p aN=some e∧aN≤e∧e≤p.R.L.length:=by
 have key:∀ (d m:Nat) (x:Int),aN≤x→x≤p.R.L.length→((p.R.L.length:Int) - x).toNat≤d→d<m→∃ e,ly F p aN m x=some e∧aN≤e∧e≤p.R.L.length:=by
  intro d
  induction d with
  | zero=>
   intro m x hx j hd hm
   obtain ⟨m,rfl⟩:∃ k,m=k+1:=⟨m - 1,by omega⟩
   rw [ly,if_neg (by omega)]
   exact ⟨x,rfl,hx,j⟩
  | succ d ih=>
   intro m x hx j hd hm
   obtain ⟨m,rfl⟩:∃ k,m=k+1:=⟨m - 1,by omega⟩
   rw [ly]
   by_cases c:x<(p.R.L.length:Int)
   case neg=>rw [if_neg c];exact ⟨x,rfl,hx,j⟩
   have hl:x.toNat<p.R.L.length:=by omega
   have hb:0≤x∧x<(p.R.L.length:Int):=by omega
   simp only [if_pos c,if_pos hb,aX hl,ax]
   split
   ·exact ⟨x,rfl,hx,j⟩
   split
   ·exact ⟨x,rfl,hx,j⟩
   rw [w1 (by omega) (by omega)]
   exact ih m (x+1) (by omega) (by omega) (by omega) (by omega)
 unfold oE
 obtain ⟨e,I,J⟩:=key ((p.R.L.length:Int) - aN).toNat F aN (Int.le_refl _) h1 (Nat.le_refl _) (by omega)
 exact ⟨e,by rw [I];rfl,J⟩
structure Sm (p p':Pp):Prop where
 rows:p'.Rows=p.Rows
 doc:p'.Doc=p.Doc
 root:p'.aE=p.aE
 s:p'.S=p.S
 dep:p'.aA=p.aA
theorem wC (F:Nat) (hF:2500≤F) {n:Int} {p:Pp} {next:Int} (h:Rd n p.R next) (hr:RO p.R.L p.Rows) (h0:0≤next) (h1:next≤n) (no:Bool) (cp:no=true→next<n) (dO:no=false→0<next) {up:Nat} (hs:Sp p.R.T.an up) (hN:p.R.T.an.length≤2300) (hd:p.R.D.length≤90000):
  ∃ p',mL F p (up:Int) next no=some p'∧Sm p p'∧next≤p'.Read∧p'.Read≤n∧(no=true→next<p'.Read)∧Rd n p'.R p'.Read∧To p.R p'.R up (p'.Read - next) (p'.Read - next):=by
 have hn:=h.nl
 have dH:=h.ri.n
 have hlen:=hr.len
 have hex:∃ (k:Nat) (r:av),p.Rows[k]?=some r∧next≤r.To∧(no=true→next<r.To):=by
  cases no with
  | true=>obtain ⟨k,r,U,ab⟩:=hr.tp next h0 (by have:=cp rfl;omega);exact ⟨k,r,U,by omega,fun _=>ab⟩
  | false=>obtain ⟨k,r,U,ab⟩:=hr.tp (next - 1) (by have:=dO rfl;omega) (by omega);exact ⟨k,r,U,by omega,fun q=>by cases q⟩
 obtain ⟨k,rk,aa,ae,ad⟩:=hex
 have jq:k<p.Rows.length:=by
  rcases Nat.lt_or_ge k p.Rows.length with q | q
  ·exact q
  ·rw [List.getElem?_eq_none q] at aa;cases aa
 have key:∀ (d m i:Nat),i+d=k→d<m→∃ (j:Nat) (r:av),lx F p (up:Int) next no m (i:Int)=some (j:Int)∧p.Rows[j]?=some r∧next≤r.To∧(no=true→next<r.To):=by
  intro d
  induction d with
  | zero=>
   intro m i hi hm
   obtain ⟨m,rfl⟩:∃ q,m=q+1:=⟨m - 1,by omega⟩
   have:i=k:=by omega
   subst this
   rw [lx]
   have hb:0≤(i:Int)∧(i:Int)<(p.Rows.length:Int):=by omega
   simp only [if_pos hb,b2,aa,ax]
   rw [if_neg (by omega)]
   by_cases I:no=true
   ·rw [if_pos I,if_neg (by have:=ad I;omega)]
    exact ⟨i,rk,rfl,aa,ae,ad⟩
   ·rw [if_neg I]
    exact ⟨i,rk,rfl,aa,ae,ad⟩
  | succ d ih=>
   intro m i hi hm
   obtain ⟨m,rfl⟩:∃ q,m=q+1:=⟨m - 1,by omega⟩
   have dJ:i<p.Rows.length:=by omega
   rw [lx]
   have hb:0≤(i:Int)∧(i:Int)<(p.Rows.length:Int):=by omega
   have hw:af ((i:Int)+1)=((i+1:Nat):Int):=by rw [aZ (by omega) (by omega)];omega
   simp only [if_pos hb,b2,aX dJ,ax,hw]
   have stay:next≤p.Rows[i].To→(no=true→next<p.Rows[i].To)→∃ (j:Nat) (r:av),(some (i:Int):Option Int)=some (j:Int)∧p.Rows[j]?=some r∧next≤r.To∧(no=true→next<r.To):=fun U ab=>⟨i,_,rfl,aX dJ,U,ab⟩
   by_cases c:p.Rows[i].To<next
   ·rw [if_pos c];exact ih m (i+1) (by omega) (by omega)
   rw [if_neg c]
   by_cases I:no=true
   ·rw [if_pos I]
    by_cases c2:p.Rows[i].To=next
    ·rw [if_pos c2];exact ih m (i+1) (by omega) (by omega)
    ·rw [if_neg c2];exact stay (by omega) (fun _=>by omega)
   ·rw [if_neg I]
    exact stay (by omega) (fun q=>absurd q I)
 obtain ⟨j,r,ag,J,ah,ai⟩:=key k F 0 (by omega) (by omega)
 have hj:j<p.Rows.length:=by
  rcases Nat.lt_or_ge j p.Rows.length with q | q
  ·exact q
  ·rw [List.getElem?_eq_none q] at J;cases J
 have tL:=hr.iy r (au J)
 obtain ⟨a,b,a1,aj,aw,ak,ay,_⟩:=k3 F hF p dH next r.To h0 ah (by omega)
 unfold mL
 rw [show ((0:Nat):Int)=0 from rfl] at ag
 rw [ag]
 simp only [ax]
 rw [if_pos (by omega),b2,J]
 simp only [ax,a1]
 by_cases c:a<b
 ·have ha:=aj.1
  obtain ⟨r1,ao,aq,ar,_⟩:=o3 F hF h (by omega) (by omega) hs (code:=8) (aN:=a) (to:=b) (by omega) c (by omega) (by omega) (h.endOf h0 up ha)
  rw [if_pos c,ao]
  simp only [ax]
  rw [if_pos (by omega)]
  simp only [J,ax]
  exact ⟨_,rfl,⟨rfl,rfl,rfl,rfl,rfl⟩,by show next≤r.To;omega,by show r.To≤n;omega,ai,aq.mono ak,ar.le (by show (1:Int)≤r.To - next;omega) (by show (1:Int)≤r.To - next;omega)⟩
 ·rw [if_neg c]
  simp only [ax]
  rw [if_pos (by omega)]
  simp only [J,ax]
  exact ⟨_,rfl,⟨rfl,rfl,rfl,rfl,rfl⟩,by show next≤r.To;omega,by show r.To≤n;omega,ai,h.mono ah,(To.refl p.R up).le (by show (0:Int)≤r.To - next;omega) (by show (0:Int)≤r.To - next;omega)⟩
structure Gw (p p':Pp) (up:Nat) (s m:Int):Prop where
 l:p'.R.L=p.R.L
 sz:(p'.R.T.an.length:Int)≤p.R.T.an.length+s
 dl:(p'.R.D.length:Int)≤p.R.D.length+m
 sp:∀ v,v≤up→Sp p.R.T.an v→Sp p'.R.T.an v
theorem E9 (F:Nat) (hF:2500≤F) {n:Int} {p:Pp} {at_:Int} (h:Rd n p.R (at_+1)) (hr:RO p.R.L p.Rows) (h0:0≤at_) (h1:at_<n) (e5:0≤p.aA∧p.aA≤100) (hZ:p.S.length≤400) {up:Nat} (j7:∀ e,endOf p.R.T.an up=some e→e≤at_) (hb:Below p.R.T.an at_) (hs:Sp p.R.T.an up) (hN:(p.R.T.an.length:Int)≤4 * at_+5) (hd:(p.R.D.length:Int)≤4 * at_+5):
  ∃ b p',jy F p (up:Int) at_=some (b,p')∧Sm p p'∧at_<p'.Read∧p'.Read≤n∧Rd n p'.R p'.Read∧Gw p p' up (2 * (p'.Read - at_)) (4 * (p'.Read - at_)):=by
 have hn:=h.nl
 have dH:=h.ri.n
 obtain ⟨e,e1,ae,ag⟩:=B8 F hF p dH at_ h0 (by omega)
 have hw:af (p.aA - (p.S.length:Int))=p.aA - p.S.length:=aZ (by omega) (by omega)
 have kY:Rd n (⟨p.R.L,p.R.T,p.R.D,e⟩:Rr) (at_+1):=⟨⟨by show 0≤e;omega,ag,dH,h.ri.kp⟩,hn,h.g,h.b⟩
 obtain ⟨node,next,r',v1,v2⟩:=F6 F hF (p.aA - p.S.length) (by omega) (by omega) n (⟨p.R.L,p.R.T,p.R.D,e⟩:Rr) up at_ kY j7 hs h0 ae hN hd
 unfold jy
 rw [e1]
 simp only [ax,hw,v1]
 have ud:∀ a b:Int,b≤a→imax a b=a:=fun a b q=>by rw [jD];omega
 rcases v2 with ⟨rfl,rfl,rfl,_⟩ | ⟨ah,au,ai,aj,J,_⟩
 ·have ak:Rd n (⟨p.R.L,p.R.T,p.R.D,e⟩:Rr) next:=⟨kY.ri,hn,h.g,hb⟩
  obtain ⟨p',U,j,ao,aa,ad,ab,I⟩:=wC F hF (p:=⟨⟨p.R.L,p.R.T,p.R.D,e⟩,p.Rows,p.Doc,p.aE,p.S,p.aA,p.Read⟩) (next:=next) ak hr h0 (by omega) true (fun _=>h1) (fun q=>by cases q) hs (by show p.R.T.an.length≤2300;omega) (by show p.R.D.length≤90000;omega)
  have bD:=ad rfl
  simp only [show ((-1:Int)<0) from by decide,if_true,ax,ud next next (Int.le_refl _),U,show ¬ ((0:Int)≤ -1) from by decide,if_false]
  have cc:=I.sz
  have fY:=I.dl
  simp only at cc fY
  exact ⟨_,_,rfl,⟨j.rows,j.doc,j.root,j.s,j.dep⟩,bD,aa,ab,⟨I.l,by show (p'.R.T.an.length:Int)≤p.R.T.an.length+2 * (p'.Read - next);omega,by show (p'.R.D.length:Int)≤p.R.D.length+4 * (p'.Read - next);omega,I.sp⟩⟩
 ·have hl:r'.L=p.R.L:=J.l
  have he:r'.End=e:=J.e
  have cc:=J.sz
  have fY:=J.dl
  simp only at cc fY
  simp only at ai
  obtain ⟨p',U,j,ao,aa,ad,ab,I⟩:=wC F hF (p:=⟨r',p.Rows,p.Doc,p.aE,p.S,p.aA,p.Read⟩) (next:=next) aj (by show RO r'.L p.Rows;rw [hl];exact hr) (by omega) (by omega) false (fun q=>by cases q) (fun _=>by omega) (J.sp up (Nat.le_refl _) hs) (by show r'.T.an.length≤2300;omega) (by show r'.D.length≤90000;omega)
  have qi:¬ node<0:=by omega
  simp only [if_neg qi,ax,ud next at_ (by omega),U,if_pos ah]
  have aq:=I.sz
  have ar:=I.dl
  simp only at aq ar
  exact ⟨_,_,rfl,⟨j.rows,j.doc,j.root,j.s,j.dep⟩,by show at_<p'.Read;omega,aa,ab,⟨I.l.trans hl,by show (p'.R.T.an.length:Int)≤p.R.T.an.length+2 * (p'.Read - at_);omega,by show (p'.R.D.length:Int)≤p.R.D.length+4 * (p'.Read - at_);omega,fun v hv q=>I.sp v hv (J.sp v hv q)⟩⟩
end
section
open Go Am Sy
def Cn (L:List al) (i:Int):Prop:=∃ t,L[i.toNat]?=some t∧cn t.Kind=true
def Ec (L:List al):Int→List bd→Int→Prop
  | a,[],b=>a≤b
  | a,e::es,b=>a≤e.ah∧e.ah<e.To∧Cn L e.ah∧Ec L e.To es b
section
variable {L:List al}
theorem Ec.le:∀ {es:List bd} {a b:Int},Ec L a es b→a+es.length≤b:=by
  intro es
  induction es with
  | nil=>intro a b h;have:a≤b:=h;simpa using this
  | cons e es ih=>
    rintro a b ⟨h1,h2,_,j⟩
    have:=ih j
    rw [List.length_cons];omega
theorem Ec.mono:∀ {es:List bd} {a b c:Int},Ec L a es b→b≤c→Ec L a es c:=by
  intro es
  induction es with
  | nil=>intro a b c h hc;exact Int.le_trans h hc
  | cons e es ih=>rintro a b c ⟨h1,h2,eg,j⟩ hc;exact ⟨h1,h2,eg,ih j hc⟩
theorem Ec.snoc:∀ {es:List bd} {a b:Int} {e:bd},Ec L a es b→b≤e.ah→e.ah<e.To→Cn L e.ah→Ec L a (es++[e]) e.To:=by
  intro es
  induction es with
  | nil=>intro a b e h h1 h2 j;exact ⟨Int.le_trans h h1,h2,j,Int.le_refl _⟩
  | cons x es ih=>rintro a b e ⟨h1,h2,hc,j⟩ I J U;exact ⟨h1,h2,hc,ih j I J U⟩
theorem Ec.last:∀ {es:List bd} {a b:Int} {e:bd},Ec L a es b→es.getLast?=some e→Ec L a es e.To∧e.To≤b:=by
  intro es
  induction es with
  | nil=>intro a b e h h1;simp at h1
  | cons x es ih=>
    rintro a b e ⟨h1,h2,hc,I⟩ j
    cases es with
    | nil=>simp at j;subst j;exact ⟨⟨h1,h2,hc,Int.le_refl _⟩,I⟩
    | cons y es=>
      rw [List.getLast?_cons_cons] at j
      obtain ⟨J,U⟩:=ih I j
      exact ⟨⟨h1,h2,hc,J⟩,U⟩
end
theorem rH (F:Nat) (hF:2500≤F) (L:List al) (hn:L.length≤450) (a e kind:Int) (h0:0≤a) (h1:a≤e) (h2:e≤L.length):∃ j,jN F L a e kind=some j∧a≤j∧j≤e:=by
  have key:∀ (d m:Nat) (x:Int),a≤x→x≤e→(e - x).toNat≤d→d<m→∃ j,correctorref9_skip_l0 F L a e kind m x=some j∧a≤j∧j≤e:=by
    intro d
    induction d with
    | zero=>
      intro m x hx I hd hm
      obtain ⟨m,rfl⟩:∃ k,m=k+1:=⟨m - 1,by omega⟩
      rw [correctorref9_skip_l0,if_neg (by omega)]
      exact ⟨x,rfl,hx,I⟩
    | succ d ih=>
      intro m x hx I hd hm
      obtain ⟨m,rfl⟩:∃ k,m=k+1:=⟨m - 1,by omega⟩
      rw [correctorref9_skip_l0]
      by_cases c:x<e
      case neg=>rw [if_neg c];exact ⟨x,rfl,hx,I⟩
      have hl:x.toNat<L.length:=by omega
      rw [if_pos c,if_pos (by omega),aX hl]
      simp only [ax]
      split
      · rw [w1 (by omega) (by omega)]
        exact ih m (x+1) (by omega) (by omega) (by omega) (by omega)
      · exact ⟨x,rfl,hx,I⟩
  unfold jN
  obtain ⟨j,J,U⟩:=key (e - a).toNat F a (Int.le_refl _) h1 (Nat.le_refl _) (by omega)
  exact ⟨j,by rw [J];rfl,U⟩
theorem z8 {F:Nat} {k:Int} (h:fC F k=some true):cn k=true:=by
  unfold fC at h
  by_cases h1:k=15
  · rw [h1];rfl
  by_cases h2:k=16
  · rw [h2];rfl
  by_cases j:k=17
  · rw [j];rfl
  by_cases I:k=13
  · rw [I];rfl
  rw [if_neg h1,if_neg h2,if_neg j,if_neg I] at h
  simp at h
def EO (L:List al) (r:av) (es:List bd) (rest:Int):Prop:=
  ∃ first,FI L r.ah r.To first∧rest≤r.To∧(es=[]∨Ec L first es rest)
theorem BS (F:Nat) (hF:2500≤F) (L:List al) (hn:L.length≤450) (r:av) (hk:r.Kind=5) (hr:0≤r.ah∧r.ah<r.To∧r.To≤L.length):∃ es rest,nJ F L r=some (es,rest)∧EO L r es rest:=by
  obtain ⟨aQ,aS,ag⟩:=hr
  have ay:∀ (d m:Nat) (x:Int),r.ah≤x→x≤r.To→(r.To - x).toNat≤d→d<m→(∀ (i:Int) (t:al),r.ah≤i→i<x→L[i.toNat]?=some t→cn t.Kind=false)→∃ a,correctorref9_Entries_l0 F L r m r x=some (r,a)∧FI L r.ah r.To a:=by
    intro d
    induction d with
    | zero=>
      intro m x hx ab hd hm hq
      obtain ⟨m,rfl⟩:∃ k,m=k+1:=⟨m - 1,by omega⟩
      rw [correctorref9_Entries_l0,if_neg (by omega)]
      exact ⟨x,rfl,hx,ab,hq,fun q=>by omega⟩
    | succ d ih=>
      intro m x hx ab hd hm hq
      obtain ⟨m,rfl⟩:∃ k,m=k+1:=⟨m - 1,by omega⟩
      rw [correctorref9_Entries_l0]
      by_cases c:x<r.To
      case neg=>rw [if_neg c];exact ⟨x,rfl,hx,ab,hq,fun q=>absurd q c⟩
      have hl:x.toNat<L.length:=by omega
      rw [if_pos c,if_pos (by omega),aX hl]
      simp only [ax,kl]
      by_cases c1:cn L[x.toNat].Kind=true
      · rw [if_pos c1];exact ⟨x,rfl,hx,ab,hq,fun _=>⟨_,aX hl,c1⟩⟩
      · rw [if_neg c1,w1 (by omega) (by omega)]
        refine ih m (x+1) (by omega) (by omega) (by omega) (by omega) (fun i t ad ao U=>?_)
        rcases Int.lt_or_eq_of_le (show i≤x by omega) with z | z
        · exact hq i t ad z U
        · subst z
          rw [aX hl] at U
          simp only [Option.some.injEq] at U
          subst U;simpa using c1
  obtain ⟨first,f1,f2⟩:=ay (r.To - r.ah).toNat F r.ah (Int.le_refl _) (by omega) (Nat.le_refl _) (by omega) (fun i t ad ao=>by omega)
  have tR:=f2.1
  have pN:=f2.2.1
  have az:∀ (d m:Nat) (i g2:Int) (e:List bd),first≤i→i≤r.To→(r.To - i).toNat≤d→d<m→Ec L first e i→∃ i' e',correctorref9_Entries_l1 F L r m r i first g2 e=some (r,i',first,g2,e')∧first≤i'∧i'≤r.To∧Ec L first e' i':=by
    intro d
    induction d with
    | zero=>
      intro m i g2 e hi I hd hm he
      obtain ⟨m,rfl⟩:∃ k,m=k+1:=⟨m - 1,by omega⟩
      rw [correctorref9_Entries_l1,if_neg (by omega)]
      exact ⟨i,e,rfl,hi,I,he⟩
    | succ d ih=>
      intro m i g2 e hi I hd hm he
      obtain ⟨m,rfl⟩:∃ k,m=k+1:=⟨m - 1,by omega⟩
      rw [correctorref9_Entries_l1]
      by_cases c:i<r.To
      case neg=>rw [if_neg c];exact ⟨i,e,rfl,hi,I,he⟩
      have hl:i.toNat<L.length:=by omega
      have hb:0≤i∧i<(L.length:Int):=by omega
      have hlen:=he.le
      simp only [if_pos c,if_pos hb,aX hl,ax]
      split
      case isFalse=>exact ⟨i,e,rfl,hi,I,he⟩
      rename_i aA
      have hw:af (i+1)=i+1:=w1 (by omega) (by omega)
      obtain ⟨j,J,ai,aa⟩:=rH F hF L hn (i+1) r.To 3 (by omega) (by omega) ag
      rw [if_pos (by rw [cQ];omega),hw,J]
      simp only [ax]
      exact ih m j g2 _ (by omega) aa (by omega) (by omega) (Ec.mono (Ec.snoc (e:=⟨true,_,i,i+1⟩) he (Int.le_refl _) (by show i<i+1;omega) ⟨_,aX hl,by rw [aA];rfl⟩) ai)
  have aB:∀ (d m:Nat) (i g2 k:Int) (e:List bd),i≤k→0≤i→k≤r.To→(r.To - k).toNat≤d→d<m→(k=i∨Cn L i)→∃ k',correctorref9_Entries_l2 F L r m r i first g2 e k=some (r,i,first,g2,e,k')∧i≤k'∧k'≤r.To∧(k'=i∨Cn L i):=by
    intro d
    induction d with
    | zero=>
      intro m i g2 k e hi aq I hd hm hg
      obtain ⟨m,rfl⟩:∃ k,m=k+1:=⟨m - 1,by omega⟩
      rw [correctorref9_Entries_l2,if_neg (by omega)]
      exact ⟨k,rfl,hi,I,hg⟩
    | succ d ih=>
      intro m i g2 k e hi aq I hd hm hg
      obtain ⟨m,rfl⟩:∃ k,m=k+1:=⟨m - 1,by omega⟩
      rw [correctorref9_Entries_l2]
      by_cases c:k<r.To
      case neg=>rw [if_neg c];exact ⟨k,rfl,hi,I,hg⟩
      have hl:k.toNat<L.length:=by omega
      have hb:0≤k∧k<(L.length:Int):=by omega
      have hw:af (k+1)=k+1:=w1 (by omega) (by omega)
      obtain ⟨j,J,ai,aa⟩:=rH F hF L hn (k+1) r.To 3 (by omega) (by omega) ag
      simp only [if_pos c,if_pos hb,aX hl,ax,hw]
      have go:cn L[k.toNat].Kind=true→_:=fun q=>ih m i g2 j e (by omega) aq aa (by omega) (by omega) (by
        rcases hg with z | z
        · subst z;exact .inr ⟨_,aX hl,q⟩
        · exact .inr z)
      split
      · rename_i aC;simp only [ax,J];exact go (by rw [aC];rfl)
      split
      · rename_i aD;simp only [ax,J];exact go (by rw [aD];rfl)
      exact ⟨k,rfl,hi,I,hg⟩
  have Et:r.ah.toNat<L.length:=by omega
  unfold nJ
  rw [if_pos hk,f1]
  simp only [ax]
  rw [if_pos (by omega),aX Et]
  simp only [ax]
  obtain ⟨i,e,aE,aT,aj,ae⟩:=az (r.To - first).toNat F first L[r.ah.toNat].ah [] (Int.le_refl _) pN (Nat.le_refl _) (by omega) (Int.le_refl _)
  rw [aE]
  simp only [ax]
  obtain ⟨k,aF,ar,au,ak⟩:=aB (r.To - i).toNat F i L[r.ah.toNat].ah i e (Int.le_refl _) (by omega) aj (Nat.le_refl _) (by omega) (.inl rfl)
  rw [aF]
  simp only [ax]
  have aG:∃ k',((if k<r.To then
        if 0≤k∧k<(L.length:Int) then
         (L[k.toNat]?).bind fun aH=>
         (fC F aH.Kind).bind fun aI=>
         if aI=true then
          (jN F L (af (k+1)) r.To 3).bind fun aJ=>
          some (r,e,aJ)
         else
          some (r,e,k)
        else none
       else
        some (r,e,k)):Option (av×(List bd)×Int))=some (r,e,k')∧i≤k'∧k'≤r.To∧(k'=i∨Cn L i):=by
    by_cases c:k<r.To
    case neg=>rw [if_neg c];exact ⟨k,rfl,ar,au,ak⟩
    have hl:k.toNat<L.length:=by omega
    rw [if_pos c,if_pos (by omega),aX hl]
    simp only [ax]
    obtain ⟨b,hb⟩:=pK F L[k.toNat].Kind
    rw [hb]
    simp only [ax]
    split
    · obtain ⟨j,J,ai,aa⟩:=rH F hF L hn (k+1) r.To 3 (by omega) (by omega) ag
      rw [w1 (by omega) (by omega),J]
      refine ⟨j,rfl,by omega,aa, .inr ?_⟩
      rcases ak with z | z
      · subst z
        rename_i cb
        refine ⟨_,aX hl,?_⟩
        rw [cb] at hb
        exact z8 hb
      · exact z
    · exact ⟨k,rfl,ar,au,ak⟩
  obtain ⟨k',ad,ao,U,aK⟩:=aG
  rw [ad]
  simp only [ax]
  have hlen:=ae.le
  have hx:∃ e',((((if k'<r.To then
          if 0≤k'∧k'<(L.length:Int) then
           (L[k'.toNat]?).bind fun aL=>
           if aL.Kind=(6:Int) then
            some (e,true)
           else
            some (e,false)
          else none
         else
          some (e,false)):Option ((List bd)×Bool)).bind fun o=>match o with
         | (an,aM)=>if aM=true then
          if 0≤i∧i<(L.length:Int) then
           (L[i.toNat]?).bind fun aw=>
           if an.length+[(⟨false,af (aw.ah - L[r.ah.toNat].ah),i,af (k'+1)⟩:bd)].length≤4398046511104 then
            some (an++[(⟨false,af (aw.ah - L[r.ah.toNat].ah),i,af (k'+1)⟩:bd)])
           else none
          else none
         else
          some an):Option (List bd))=some e'∧Ec L first e' r.To:=by
    by_cases c:k'<r.To
    case neg=>rw [if_neg c];exact ⟨e,rfl,ae.mono aj⟩
    have hl:k'.toNat<L.length:=by omega
    have dJ:i.toNat<L.length:=by omega
    rw [if_pos c,if_pos (by omega),aX hl]
    simp only [ax]
    split
    · rename_i aN
      have fM:Cn L i:=by
        rcases aK with z | z
        · subst z;exact ⟨_,aX hl,by rw [aN];rfl⟩
        · exact z
      simp only [ax,if_true]
      rw [if_pos (by omega),aX dJ]
      simp only [ax]
      rw [if_pos (by rw [cQ];omega),w1 (by omega) (by omega)]
      exact ⟨_,rfl,Ec.mono (Ec.snoc (e:=⟨false,_,i,k'+1⟩) ae (Int.le_refl _) (by show i<k'+1;omega) fM) (by show k'+1≤r.To;omega)⟩
    · simp only [ax,Bool.false_eq_true,if_false]
      exact ⟨e,rfl,ae.mono aj⟩
  obtain ⟨e',h1,h2⟩:=hx
  rw [h1]
  simp only [ax]
  by_cases c:(e'.length:Int)=0
  · rw [if_pos c]
    exact ⟨_,_,rfl,first,f2,pN, .inl rfl⟩
  · have aU:=h2.le
    have hw:af ((e'.length:Int) - 1)=((e'.length - 1:Nat):Int):=by rw [aZ (by omega) (by omega)];omega
    have nD:e'.length - 1<e'.length:=by omega
    rw [if_neg c,hw,if_pos (by omega),b2,aX nD]
    simp only [ax]
    have q7:e'.getLast?=some e'[e'.length - 1]:=by rw [List.getLast?_eq_getElem?,aX nD]
    obtain ⟨aO,aP⟩:=h2.last q7
    exact ⟨_,_,rfl,first,f2,aP, .inr aO⟩
end
section
open Go Am Sy
abbrev Oo:=aw
structure So (N:List aq) (d:Nat) (S:List Oo):Prop where
 node:∀ (i:Nat) o,S[i]?=some o→∃ m:Nat,o.Node=m∧d<m∧Sp N m
 inc:∀ (i j:Nat) o o',i<j→S[i]?=some o→S[j]?=some o'→o.Node<o'.Node
 has:∀ (i:Nat) o,S[i]?=some o→i+1<S.length→o.Has=true
 cur:∀ (i:Nat) o,S[i]?=some o→o.Has=false→∃ c:Nat,o.b4=c∧o.Node<c∧Sp N c
theorem fA {α:Type} {S:List α} {i:Nat} {o:α} (h:S[i]?=some o):i<S.length:=by
 rcases Nat.lt_or_ge i S.length with q | q
 ·exact q
 ·rw [List.getElem?_eq_none q] at h;cases h
theorem So.nil (N:List aq) (d:Nat):So N d []:=⟨fun i o h=>by simp at h,fun i j o o' _ h=>by simp at h,fun i o h=>by simp at h,fun i o h=>by simp at h⟩
theorem mF {α:Type} {S:List α} {k i:Nat} {o:α} (h:(S.take k)[i]?=some o):S[i]?=some o∧i<k:=by
 rw [List.getElem?_take] at h
 split at h
 ·rename_i c;exact ⟨h,c⟩
 ·cases h
theorem So.take {N:List aq} {d:Nat} {S:List Oo} (h:So N d S) (k:Nat):So N d (S.take k) where
 node i o q:=h.node i o (mF q).1
 inc i j o o' J I U:=h.inc i j o o' J (mF I).1 (mF U).1
 has i o q I:=h.has i o (mF q).1 (by rw [List.length_take] at I;omega)
 cur i o q:=h.cur i o (mF q).1
def Up (S:List Oo) (u:Nat):Prop:=∀ (i:Nat) o,S[i]?=some o→o.Node≤u∧(o.Has=false→o.b4≤u)
theorem So.to {N N':List aq} {d u:Nat} {S:List Oo} (h:So N d S) (hu:Up S u) (hs:∀ v,v≤u→Sp N v→Sp N' v):So N' d S where
 node i o q:=by
  obtain ⟨m,J,j,I⟩:=h.node i o q
  exact ⟨m,J,j,hs m (by have:=(hu i o q).1;omega) I⟩
 inc:=h.inc
 has:=h.has
 cur i o q j:=by
  obtain ⟨c,I,U,aa⟩:=h.cur i o q j
  exact ⟨c,I,U,hs c (by have:=(hu i o q).2 j;omega) aa⟩
theorem So.push {N:List aq} {d:Nat} {S:List Oo} (h:So N d S) (hh:∀ (i:Nat) o,S[i]?=some o→o.Has=true) {o:Oo} {m c:Nat} (hn:o.Node=m) (hd:d<m) (hm:Sp N m) (bD:∀ (i:Nat) x,S[i]?=some x→x.Node<m) (hc:o.Has=false→o.b4=c∧m<c∧Sp N c):So N d (S++[o]):=by
 have fq:∀ (i:Nat) x,(S++[o])[i]?=some x→(i<S.length∧S[i]?=some x)∨(i=S.length∧x=o):=by
  intro i x hx
  have hl:=fA hx
  rw [b7,cQ] at hl
  rcases Nat.lt_or_ge i S.length with q | q
  ·rw [List.getElem?_append_left q] at hx;exact .inl ⟨q,hx⟩
  ·have:i=S.length:=by omega
   subst this
   rw [List.getElem?_append_right (Nat.le_refl _)] at hx
   simp at hx
   exact .inr ⟨rfl,hx.symm⟩
 refine ⟨fun i x hx=>?_,fun i j x y mi hx hy=>?_,fun i x hx hl=>?_,fun i x hx hf=>?_⟩
 ·rcases fq i x hx with ⟨_,q⟩ | ⟨_,rfl⟩
  ·exact h.node i x q
  ·exact ⟨m,hn,hd,hm⟩
 ·rcases fq i x hx with ⟨_,q⟩ | ⟨q,rfl⟩
  ·rcases fq j y hy with ⟨_,I⟩ | ⟨_,rfl⟩
   ·exact h.inc i j x y mi q I
   ·rw [hn];exact bD i x q
  ·rcases fq j y hy with ⟨I,_⟩ | ⟨I,_⟩<;>omega
 ·rcases fq i x hx with ⟨_,q⟩ | ⟨q,rfl⟩
  ·exact hh i x q
  ·rw [b7,cQ] at hl;omega
 ·rcases fq i x hx with ⟨_,q⟩ | ⟨q,rfl⟩
  ·rw [hh i x q] at hf;cases hf
  ·obtain ⟨J,I,U⟩:=hc hf
   exact ⟨c,J,by rw [hn];omega,U⟩
structure PD (n:Int) (p:Pp) (q:Int) (d:Nat):Prop where
 rd:Rd n p.R q
 ro:RO p.R.L p.Rows
 dep:0≤p.aA∧p.aA≤100
 sl:(p.S.length:Int)≤p.aA
 doc:p.Doc=d
 ds:Sp p.R.T.an d
 si:So p.R.T.an d p.S
 sz:(p.R.T.an.length:Int)≤4 * q+5
 dl:(p.R.D.length:Int)≤4 * q+4
structure PI (n:Int) (p:Pp) (q:Int):Prop where
 rd:Rd n p.R q
 ro:RO p.R.L p.Rows
 dep:0≤p.aA∧p.aA≤100
 doc:(p.Doc= -1∧p.S=[])∨(∃ d:Nat,p.Doc=d∧Sp p.R.T.an d∧So p.R.T.an d p.S∧(p.S.length:Int)≤p.aA)
 sz:(p.R.T.an.length:Int)≤4 * q+4
 dl:(p.R.D.length:Int)≤4 * q+4
theorem PD.mono {n:Int} {p:Pp} {q q':Int} {d:Nat} (h:PD n p q d) (hq:q≤q'):PD n p q' d:={h with rd:=h.rd.mono hq,sz:=by have:=h.sz;omega,dl:=by have:=h.dl;omega}
theorem PI.mono {n:Int} {p:Pp} {q q':Int} (h:PI n p q) (hq:q≤q'):PI n p q':={h with rd:=h.rd.mono hq,sz:=by have:=h.sz;omega,dl:=by have:=h.dl;omega}
theorem PD.pi {n:Int} {p:Pp} {q q':Int} {d:Nat} (h:PD n p q d) (hq:q<q'):PI n p q':=⟨h.rd.mono (by omega),h.ro,h.dep, .inr ⟨d,h.doc,h.ds,h.si,h.sl⟩,by have:=h.sz;omega,by have:=h.dl;omega⟩
theorem u2 (F:Nat) (hF:2500≤F) {n:Int} {p:Pp} {q a:Int} (h:PI n p q) (h0:0≤q) (hq:q≤a) (ha:a≤n):∃ p' d,mc F p a=some p'∧PD n p' a d∧p'.Read=p.Read∧p'.Rows=p.Rows∧p'.R.L=p.R.L:=by
 have hn:=h.rd.nl
 have dH:=h.rd.ri.n
 have cc:=h.sz
 have fY:=h.dl
 unfold mc
 rcases h.doc with ⟨j,I⟩ | ⟨d,j,I,U,aa⟩
 ·rw [j,if_pos (by decide)]
  obtain ⟨r1,a1,ab,J,ad,ae,af,_⟩:=js F hF h.rd (by omega) (up:=0) .root (kind:=2) (aN:=a) (to:=a) (by omega) (Int.le_refl _) ha hq (h.rd.endOf h0 0 hq)
  rw [show ((0:Nat):Int)=0 from rfl] at a1
  rw [a1]
  exact ⟨_,_,rfl,⟨ab,by show RO r1.L p.Rows;rw [J.l];exact h.ro,h.dep,by show ((0:Nat):Int)≤_;exact h.dep.1,rfl,ad,So.nil _ _,by show (r1.T.an.length:Int)≤_;omega,by show (r1.D.length:Int)≤_;rw [ae];omega⟩,rfl,rfl,J.l⟩
 ·rw [if_neg (by omega)]
  exact ⟨p,d,rfl,⟨h.rd.mono hq,h.ro,h.dep,aa,j,I,U,by omega,by omega⟩,rfl,rfl,rfl⟩
theorem ss (F:Nat) {n:Int} {p:Pp} {q:Int} {d:Nat} (h:PD n p q d):∃ u:Nat,iR F p=some (u:Int)∧Sp p.R.T.an u∧d≤u∧Up p.S u:=by
 unfold iR
 by_cases c:(p.S.length:Int)=0
 ·rw [if_pos c,h.doc]
  have:p.S=[]:=List.eq_nil_of_length_eq_zero (by omega)
  exact ⟨d,rfl,h.ds,Nat.le_refl _,fun i o q=>by rw [this] at q;simp at q⟩
 have e5:=h.dep
 have hZ:=h.sl
 have hw:af ((p.S.length:Int) - 1)=((p.S.length - 1:Nat):Int):=by rw [aZ (by omega) (by omega)];omega
 have hl:p.S.length - 1<p.S.length:=by omega
 have hg:p.S[p.S.length - 1]?=some p.S[p.S.length - 1]:=aX hl
 rw [if_neg c,hw,if_pos (by omega),b2,hg]
 simp only [ax]
 obtain ⟨m,I,aa,J⟩:=h.si.node _ _ hg
 have hle:∀ (i:Nat) o,p.S[i]?=some o→o.Node≤p.S[p.S.length - 1].Node∧(o.Has=false→o=p.S[p.S.length - 1]):=by
  intro i o hi
  have dJ:=fA hi
  rcases Nat.lt_or_ge i (p.S.length - 1) with z | z
  ·have h1:=h.si.inc _ _ _ _ z hi hg
   exact ⟨by omega,fun e=>by rw [h.si.has i o hi (by omega)] at e;cases e⟩
  ·have:i=p.S.length - 1:=by omega
   subst this
   rw [hg] at hi
   simp only [Option.some.injEq] at hi
   subst hi;exact ⟨Int.le_refl _,fun _=>rfl⟩
 by_cases c2:p.S[p.S.length - 1].Has=true
 ·rw [if_pos c2,I]
  refine ⟨m,rfl,J,by omega,fun i o hi=>⟨by have:=(hle i o hi).1;omega,fun e=>?_⟩⟩
  rw [(hle i o hi).2 e,c2] at e;cases e
 ·rw [if_neg c2]
  obtain ⟨k,j,ab,U⟩:=h.si.cur _ _ hg (by simpa using c2)
  rw [j]
  refine ⟨k,rfl,U,by omega,fun i o hi=>⟨by have:=(hle i o hi).1;omega,fun e=>?_⟩⟩
  rw [(hle i o hi).2 e,j];exact Int.le_refl _
theorem rT (F:Nat) (hF:2500≤F) {n:Int} {p:Pp} {q:Int} {d u:Nat} (h:PD n p q d) (h0:0≤q) (hs:Sp p.R.T.an u) (nR:d≤u) (hu:Up p.S u) {aN to code:Int} (hf:q≤aN) (fG:aN<to) (ht:to≤n):
  ∃ r,eu F p.R (u:Int) aN to code=some ((p.R.T.an.length:Int),r)∧PD n (⟨r,p.Rows,p.Doc,p.aE,p.S,p.aA,p.Read⟩:Pp) to d∧r.L=p.R.L∧(r.T.an.length:Int)≤4 * to+2:=by
 have hn:=h.rd.nl
 have dH:=h.rd.ri.n
 have cc:=h.sz
 have fY:=h.dl
 obtain ⟨r,I,J,j,_⟩:=o3 F hF h.rd (by omega) (by omega) hs (code:=code) (aN:=aN) (to:=to) (by omega) fG ht (by omega) (h.rd.endOf h0 u hf)
 have h1:=j.sz
 have h2:=j.dl
 exact ⟨r,I,⟨J,by show RO r.L p.Rows;rw [j.l];exact h.ro,h.dep,h.sl,h.doc,j.sp d nR h.ds,h.si.to hu j.sp,by show (r.T.an.length:Int)≤_;omega,by show (r.D.length:Int)≤_;omega⟩,j.l,by omega⟩
theorem pn (F:Nat) (hF:2500≤F) {n:Int} {p:Pp} {q:Int} {d u:Nat} (h:PD n p q d) (h0:0≤q) (hs:Sp p.R.T.an u) (nR:d≤u) (hu:Up p.S u) {at_:Int} (hf:q≤at_) (ht:at_<n):
  ∃ b p',jy F p (u:Int) at_=some (b,p')∧Sm p p'∧at_<p'.Read∧p'.Read≤n∧PD n p' p'.Read d∧p'.R.L=p.R.L∧(∀ v,v≤u→Sp p.R.T.an v→Sp p'.R.T.an v)∧(p'.R.T.an.length:Int)≤4 * p'.Read+3∧(p'.R.D.length:Int)≤4 * p'.Read+4:=by
 have hn:=h.rd.nl
 have dH:=h.rd.ri.n
 have cc:=h.sz
 have fY:=h.dl
 have e5:=h.dep
 have hZ:=h.sl
 obtain ⟨b,p',v1,v2,j,v4,I,v6⟩:=E9 F hF (p:=p) (at_:=at_) (h.rd.mono (by omega)) h.ro (by omega) ht e5 (by omega) (up:=u) (h.rd.endOf h0 u hf) (h.rd.b.mono hf) hs (by omega) (by omega)
 have h1:=v6.sz
 have h2:=v6.dl
 refine ⟨b,p',v1,v2,j,v4,⟨I,by rw [v6.l,v2.rows];exact h.ro,by rw [v2.dep];exact e5,by rw [v2.s,v2.dep];exact hZ,by rw [v2.doc];exact h.doc,v6.sp d nR h.ds,by rw [v2.s];exact h.si.to hu v6.sp,by omega,by omega⟩,v6.l,v6.sp,by omega,by omega⟩
end
section
open Go Am Sy
def Wp {α:Type} (o:Option α) (P:α→Prop):Prop:=∃ a,o=some a∧P a
theorem wpS {α:Type} {a:α} {P:α→Prop} (h:P a):Wp (some a) P:=⟨a,rfl,h⟩
theorem aC {α β:Type} {o:Option α} {f:α→Option β} {P:β→Prop} (h:Wp o (fun a=>Wp (f a) P)):Wp (o.bind f) P:=by
 obtain ⟨a,rfl,b,h1,h2⟩:=h
 exact ⟨b,by simpa using h1,h2⟩
theorem az {α:Type} {c:Prop} [Decidable c] {x y:Option α} {P:α→Prop} (h1:c→Wp x P) (h2:¬c→Wp y P):Wp (if c then x else y) P:=by
 by_cases h:c
 ·rw [if_pos h];exact h1 h
 ·rw [if_neg h];exact h2 h
theorem ba {α:Type} {l:List α} {i:Int} {P:α→Prop} (h:0≤i∧i<(l.length:Int)) (h1:∀ x,l[i.toNat]?=some x→P x):Wp (l[i.toNat]?) P:=by
 have:i.toNat<l.length:=by omega
 exact ⟨l[i.toNat],by simp [this],h1 _ (by simp [this])⟩
theorem wpE {α:Type} {o:Option α} {a:α} {P:α→Prop} (h:o=some a) (h1:P a):Wp o P:=⟨a,h,h1⟩
theorem cm {α:Type} {P:α→Prop} (h:False):Wp none P:=h.elim
theorem Wp.mono {α:Type} {o:Option α} {P Q:α→Prop} (h:Wp o P) (k:∀ a,P a→Q a):Wp o Q:=by
 obtain ⟨a,h1,h2⟩:=h;exact ⟨a,h1,k a h2⟩
theorem aP {α:Type} {c:Prop} [Decidable c] {x y:Option α} {P:α→Prop} (h:c) (h1:Wp x P):Wp (if c then x else y) P:=by rw [if_pos h];exact h1
theorem gm {α:Type} {c:Prop} [Decidable c] {x y:Option α} {P:α→Prop} (h:¬ c) (h1:Wp y P):Wp (if c then x else y) P:=by rw [if_neg h];exact h1
theorem aU {α β:Type} {o:Option α} {f:α→Option β} {a:α} {P:β→Prop} (h:o=some a) (h1:Wp (f a) P):Wp (o.bind f) P:=aC ⟨a,h,h1⟩
theorem bh {α β:Type} {o:Option α} {f:α→Option β} {Q:α→Prop} {P:β→Prop} (h:Wp o Q) (h1:∀ a,Q a→Wp (f a) P):Wp (o.bind f) P:=aC (h.mono h1)
end
section
open Go Am Sy
structure Nx (n:Int) (p p':Pp):Prop where
  pi:PI n p' p'.Read
  r0:0≤p'.Read
  r1:p'.Read≤n
  rows:p'.Rows=p.Rows
  l:p'.R.L=p.R.L
theorem FI.in {L:List al} {aN to a:Int} (h:FI L aN to a) (hc:∃ (i:Int) (t:al),aN≤i∧i<to∧L[i.toNat]?=some t∧cn t.Kind=true):a<to:=by
  obtain ⟨i,t,I,U,J,j⟩:=hc
  rcases Int.lt_or_eq_of_le h.2.1 with z | z
  · exact z
  · rw [h.2.2.1 i t I (by omega) J] at j;cases j
theorem yh (F:Nat) (hF:2500≤F) {n:Int} {p:Pp} {q:Int} (h:PI n p q) (h0:0≤q) {r:av} (hq:q≤r.ah) (hr:r.ah<r.To) (aT:r.To≤n) (hc:∃ (i:Int) (t:al),r.ah≤i∧i<r.To∧p.R.L[i.toNat]?=some t∧cn t.Kind=true) (k1:p.Read=r.To):Wp (nQ F p r) (Nx n p):=by
  have hn:=h.rd.nl
  have dH:=h.rd.ri.n
  have cc:=h.sz
  have fY:=h.dl
  have e5:=h.dep
  obtain ⟨a,b,a1,aj,aV,aW,aF,_⟩:=k3 F hF p dH r.ah r.To (by omega) (by omega) (by omega)
  have fh:=aj.in hc
  have fw:=aF fh
  have aX:=aj.1
  have hw:af (a+1)=a+1:=w1 (by omega) (by omega)
  unfold nQ
  refine aU a1 ?_
  simp only [hw]
  refine aP (by omega) ?_
  refine aC (ba (by omega) fun t ht=>?_)
  refine az (fun hk=>?_) (fun hk=>?_)
  · obtain ⟨r1,ak,ao,aq,ar,au,aY,_⟩:=js F hF h.rd (by omega) (up:=0) .root (kind:=2) (aN:=a) (to:=a+1) (by omega) (by omega) (by omega) (by omega) (h.rd.endOf h0 0 (by omega))
    rw [show ((0:Nat):Int)=0 from rfl] at ak
    refine aU ak ?_
    have aa:r1.L=p.R.L:=aq.l
    have aZ:=aq.sz
    have J:PD n (⟨r1,p.Rows,(p.R.T.an.length:Int),false,[],p.aA,p.Read⟩:Pp) (a+1) p.R.T.an.length:=
      ⟨ao,by show RO r1.L p.Rows;rw [aa];exact h.ro,e5,by show ((0:Nat):Int)≤_;exact e5.1,rfl,ar,So.nil _ _,by show (r1.T.an.length:Int)≤_;omega,by show (r1.D.length:Int)≤_;rw [au];omega⟩
    obtain ⟨x,y,c1,c2,aG,aH,aI,_⟩:=k3 F hF (⟨r1,p.Rows,(p.R.T.an.length:Int),false,[],p.aA,p.Read⟩:Pp) (by show r1.L.length≤450;rw [aa];exact dH) (a+1) r.To (by omega) (by omega) (by show _≤(r1.L.length:Int);rw [aa];omega)
    refine aU c1 ?_
    refine aC ?_
    refine az (fun mz=>?_) (fun mz=>?_)
    · have hx:=c2.1
      obtain ⟨bb,ab,v1,v2,a0,v4,j,v6,a2,a3,a5⟩:=pn F hF J (by omega) ar (Nat.le_refl _) (fun i o hi=>by simp at hi) (at_:=x) (by omega) (by omega)
      refine aU v1 ?_
      refine wpS (wpS ⟨⟨j.rd,j.ro,j.dep, .inr ⟨_,j.doc,j.ds,j.si,j.sl⟩,?_,?_⟩,?_,v4,v2.rows,v6.trans aa⟩)
      · show (ab.R.T.an.length:Int)≤4 * ab.Read+4;omega
      · show (ab.R.D.length:Int)≤4 * ab.Read+4;omega
      · show 0≤ab.Read;omega
    · refine wpS (wpS ⟨⟨?_,J.ro,e5, .inr ⟨_,J.doc,J.ds,J.si,J.sl⟩,?_,?_⟩,?_,?_,rfl,aa⟩)
      · show Rd n r1 p.Read;exact ao.mono (by omega)
      · show (r1.T.an.length:Int)≤4 * p.Read+4;omega
      · show (r1.D.length:Int)≤4 * p.Read+4;rw [au];omega
      · show 0≤p.Read;omega
      · show p.Read≤n;omega
  ·
    have yG:Wp (if (0:Int)≤p.Doc then
        (iI F p.R.T p.Doc (a+1)).bind fun aJ=>
        some ((⟨p.R.L,aJ,p.R.D,p.R.End⟩:aQ),p.Rows,p.Doc,p.aE,p.aA,p.Read)
       else
        some (p.R,p.Rows,p.Doc,p.aE,p.aA,p.Read):Option (aQ×(List av)×Int×Bool×Int×Int))
        (fun z=>z.2.1=p.Rows∧z.2.2.2.2.1=p.aA∧z.2.2.2.2.2=p.Read∧Rd n z.1 (a+1)∧To p.R z.1 0 0 0):=by
      rcases h.doc with ⟨aw,ax⟩ | ⟨d,aw,ax,a6,a7⟩
      · exact gm (by omega) (wpS ⟨rfl,rfl,rfl,h.rd.mono (by omega),To.refl _ _⟩)
      · obtain ⟨t',aK,aL,aM⟩:=qg F hF h.rd (by omega) ax (to:=a+1) (by omega) (by omega)
        rw [aw]
        exact aP (by omega) (aU aK (wpS ⟨rfl,rfl,rfl,aL,aM 0⟩))
    refine bh yG ?_
    rintro ⟨I,a8,a9,aO,bc,bd⟩ ⟨e1,ay,aB,ad,ae⟩
    simp only at e1 ay aB ad ae
    subst e1 ay aB
    have U:=ae.l
    have bf:=ae.sz
    have bg:=ae.dl
    obtain ⟨x,y,c1,c2,aG,aH,aI,_⟩:=k3 F hF (⟨I,p.Rows, -1,aO,[],p.aA,p.Read⟩:Pp) (by show I.L.length≤450;rw [U];exact dH) (a+1) b (by omega) (by omega) (by show _≤(I.L.length:Int);rw [U];omega)
    refine aU c1 ?_
    have hx:=c2.1
    refine az (fun mz=>?_) (fun mz=>?_)
    · obtain ⟨ag,aD,aS,ai,_⟩:=o3 F hF ad (by omega) (by omega) (up:=0) .root (code:=8) (aN:=x) (to:=y) (by omega) mz (by omega) (by omega) (ad.endOf (by omega) 0 (by omega))
      rw [show ((0:Nat):Int)=0 from rfl] at aD
      have bj:=ai.sz
      have bk:=ai.dl
      refine aU aD (wpS ⟨⟨?_,?_,e5, .inl ⟨rfl,rfl⟩,?_,?_⟩,?_,?_,rfl,ai.l.trans U⟩)
      · show Rd n ag p.Read;exact aS.mono (by omega)
      · show RO ag.L p.Rows;rw [ai.l,U];exact h.ro
      · show (ag.T.an.length:Int)≤4 * p.Read+4;omega
      · show (ag.D.length:Int)≤4 * p.Read+4;omega
      · show 0≤p.Read;omega
      · show p.Read≤n;omega
    · refine wpS ⟨⟨?_,?_,e5, .inl ⟨rfl,rfl⟩,?_,?_⟩,?_,?_,rfl,U⟩
      · show Rd n I p.Read;exact ad.mono (by omega)
      · show RO I.L p.Rows;rw [U];exact h.ro
      · show (I.T.an.length:Int)≤4 * p.Read+4;omega
      · show (I.D.length:Int)≤4 * p.Read+4;omega
      · show 0≤p.Read;omega
      · show p.Read≤n;omega
theorem So.last {N:List aq} {d:Nat} {S:List Oo} (h:So N d S) {k:Nat} {o o':Oo} (hk:S[k]?=some o) (hl:k+1=S.length) (hn:o'.Node=o.Node) (hc:o'.Has=false→∃ c:Nat,o'.b4=c∧o.Node<c∧Sp N c):So N d (S.set k o'):=by
  have fq:∀ (i:Nat) x,(S.set k o')[i]?=some x→(i=k∧x=o')∨(i≠k∧S[i]?=some x):=by
    intro i x hx
    by_cases e:i=k
    · subst e
      rw [List.getElem?_set_self (fA hk)] at hx
      exact .inl ⟨rfl,(Option.some.inj hx).symm⟩
    · rw [List.getElem?_set_ne (Ne.symm e)] at hx;exact .inr ⟨e,hx⟩
  refine ⟨fun i x hx=>?_,fun i j x y mi hx hy=>?_,fun i x hx I=>?_,fun i x hx hf=>?_⟩
  · rcases fq i x hx with ⟨rfl,rfl⟩ | ⟨_,q⟩
    · rw [hn];exact h.node i o hk
    · exact h.node i x q
  · have hj:=fA hy
    rw [List.length_set] at hj
    rcases fq i x hx with ⟨rfl,rfl⟩ | ⟨_,q⟩
    · omega
    · rcases fq j y hy with ⟨rfl,rfl⟩ | ⟨_,J⟩
      · rw [hn];exact h.inc i j x o mi q hk
      · exact h.inc i j x y mi q J
  · rw [List.length_set] at I
    rcases fq i x hx with ⟨rfl,rfl⟩ | ⟨_,q⟩
    · omega
    · exact h.has i x q I
  · rcases fq i x hx with ⟨rfl,rfl⟩ | ⟨_,q⟩
    · rw [hn];exact hc hf
    · exact h.cur i x q hf
theorem So.open_ {N:List aq} {d:Nat} {S:List Oo} (h:So N d S) {k:Nat} {o:Oo} (hk:S[k]?=some o) (hf:o.Has=false):k+1=S.length∧∃ c:Nat,o.b4=c∧o.Node<c∧Sp N c∧d≤c∧Up S c:=by
  have hl:=fA hk
  have I:k+1=S.length:=by
    rcases Nat.lt_or_ge (k+1) S.length with z | z
    · rw [h.has k o hk z] at hf;cases hf
    · omega
  obtain ⟨c,c1,c2,J⟩:=h.cur k o hk hf
  obtain ⟨m,U,aa,_⟩:=h.node k o hk
  refine ⟨I,c,c1,c2,J,by omega,fun i x hx=>?_⟩
  have hi:=fA hx
  by_cases e:i=k
  · subst e
    rw [hk] at hx;simp only [Option.some.injEq] at hx;subst hx
    exact ⟨by omega,fun _=>by omega⟩
  · have h1:=h.inc i k x o (by omega) hx hk
    exact ⟨by omega,fun j=>by rw [h.has i x hx (by omega)] at j;cases j⟩
theorem th (S:List Oo) (k:Int) (h0: -1≤k) (h1:k<S.length):([]:List Oo)++((S.take (k+1).toNat).drop (0:Int).toNat)=S.take (k+1).toNat:=rfl
theorem FD (F:Nat) (hF:2500≤F) {n:Int} {p:Pp} {d:Nat} {r:av} {a b:Int} (h:PD n p a d) (h0:0≤a) (fw:a<b) (hb:b≤p.Read) (kY:p.Read≤n):Wp (ni F p r a b) (Nx n p):=by
  have hn:=h.rd.nl
  have dH:=h.rd.ri.n
  have e5:=h.dep
  have hZ:=h.sl
  have rF:af ((p.S.length:Int) - 1)=(p.S.length:Int) - 1:=aZ (by omega) (by omega)
  have key:∀ (m:Nat) (k:Int), -1≤k→k<p.S.length→k+1<m→∃ k',correctorref12_parser_bare_l0 F p r a b m r k=some k'∧ -1≤k'∧k'<p.S.length:=by
    intro m
    induction m with
    | zero=>intro k h1 h2 ae;omega
    | succ m ih=>
      intro k h1 h2 ae
      rw [correctorref12_parser_bare_l0]
      by_cases c:0≤k
      case neg=>rw [if_neg c];exact ⟨k,rfl,h1,h2⟩
      have hl:k.toNat<p.S.length:=by omega
      rw [if_pos c,if_pos (by omega),aX hl]
      simp only [ax]
      split
      · rw [jU (by omega) (by omega)]
        exact ih (k - 1) (by omega) (by omega) (by omega)
      · exact ⟨k,rfl,h1,h2⟩
  obtain ⟨k,ag,ah,ai⟩:=key F ((p.S.length:Int) - 1) (by omega) (by omega) (by omega)
  obtain ⟨u,aa,aj,ak,ao⟩:=ss F h
  obtain ⟨re,e1,J,aq,aH⟩:=rT F hF h h0 aj ak ao (aN:=a) (to:=b) (code:=7) (Int.le_refl _) fw (by omega)
  have tZ:Nx n p (⟨re,p.Rows,p.Doc,p.aE,p.S,p.aA,p.Read⟩:Pp):=by
    have ar:=J.sz
    have au:=J.dl
    simp only at ar au
    have aI:=h.sz
    refine ⟨⟨J.rd.mono hb,J.ro,J.dep, .inr ⟨d,J.doc,J.ds,J.si,J.sl⟩,?_,?_⟩,?_,kY,rfl,aq⟩
    · show (re.T.an.length:Int)≤4 * p.Read+4;omega
    · show (re.D.length:Int)≤4 * p.Read+4;omega
    · show 0≤p.Read;omega
  unfold ni
  rw [rF]
  refine aU ag ?_
  have s9:af (k+1)=k+1:=aZ (by omega) (by omega)
  refine bh (Q:=fun s=>match s with | .inl _=>(k<0∨∃ o,p.S[k.toNat]?=some o∧o.Has=false) | .inr p'=>Nx n p p') ?_ ?_
  · refine az (fun hk=>?_) (fun hk=>?_)
    · refine az (fun qR=>?_) (fun qR=>?_)
      · exact aU aa (aU e1 (wpS tZ))
      · exact gm (by omega) (wpS (.inl hk))
    · refine aP (by omega) (aP (by omega) (aC (ba (by omega) fun o ho=>?_)))
      refine az (fun hh=>?_) (fun hh=>?_)
      · exact aU aa (aU e1 (wpS tZ))
      · exact wpS (.inr ⟨o,ho,by simpa using hh⟩)
  · rintro (_ | p') hs
    · simp only at hs ⊢
      simp only [s9,th p.S k ah ai]
      refine aP (by omega) (aP (by rw [show (0:Int).toNat=0 from rfl,List.drop_zero,List.length_take,List.length_nil];omega) ?_)
      refine az (fun hk=>?_) (fun hk=>?_)
      · have e:(k+1).toNat=0:=by omega
        rw [e,List.take_zero,h.doc]
        have hp:PD n (⟨p.R,p.Rows,(d:Int),p.aE,[],p.aA,p.Read⟩:Pp) a d:=⟨h.rd,h.ro,e5,by show ((0:Nat):Int)≤_;exact e5.1,rfl,h.ds,So.nil _ _,h.sz,h.dl⟩
        obtain ⟨bb,I,v1,v2,aw,v4,j,v6,ab,ay,aB⟩:=pn F hF hp h0 h.ds (Nat.le_refl _) (fun i o hi=>by simp at hi) (at_:=a) (Int.le_refl _) (by omega)
        refine aU v1 (wpS ⟨⟨j.rd,j.ro,j.dep, .inr ⟨_,j.doc,j.ds,j.si,j.sl⟩,?_,?_⟩,?_,v4,v2.rows,v6⟩)
        · show (I.R.T.an.length:Int)≤4 * I.Read+4;omega
        · show (I.R.D.length:Int)≤4 * I.Read+4;omega
        · show 0≤I.Read;omega
      · rcases hs with hs | ⟨o,ho,hf⟩
        · exact absurd hs hk
        obtain ⟨aD,c,c1,c2,ad,aF,aG⟩:=h.si.open_ ho hf
        have e:p.S.take (k+1).toNat=p.S:=List.take_of_length_le (by omega)
        rw [e]
        refine aP (by omega) ?_
        rw [ho]
        refine aU rfl ?_
        rw [c1]
        obtain ⟨bb,I,v1,v2,aw,v4,j,v6,ab,ay,aB⟩:=pn F hF h h0 ad aF aG (at_:=a) (Int.le_refl _) (by omega)
        refine aU v1 ?_
        have U:=v2.s
        refine aP (by rw [U];omega) ?_
        rw [U,ho]
        refine aU rfl (wpS ⟨⟨j.rd,j.ro,j.dep, .inr ⟨d,j.doc,j.ds,?_,?_⟩,?_,?_⟩,?_,v4,v2.rows,v6⟩)
        · have h2:=j.si
          rw [U] at h2
          exact h2.last ho aD rfl (fun _=>⟨c,c1,c2,ab c (Nat.le_refl _) ad⟩)
        · show ((p.S.set _ _).length:Int)≤I.aA
          rw [List.length_set,v2.dep];exact hZ
        · show (I.R.T.an.length:Int)≤4 * I.Read+4;omega
        · show (I.R.D.length:Int)≤4 * I.Read+4;omega
        · show 0≤I.Read;omega
    · exact wpS hs
end
section
open Go Am Sy
structure Ls (n:Int) (R:Rr) (d:Nat) (S:List Oo) (S0:List Oo) (o:Oo) (m:Nat) (aN to:Int):Prop where
 eq:S=S0++[o]
 nd:o.Node=m
 dm:d<m
 sm:Sp R.T.an m
 sd:Sp R.T.an d
 en:∀ e,endOf R.T.an m=some e→e≤aN
 so:So R.T.an d S0
 has:∀ (i:Nat) x,S0[i]?=some x→x.Has=true∧x.Node<m
 rd:Rd n R to
theorem Ac {α:Type} (S:List α) (o x:α):(S++[o]).set S.length x=S++[x]:=by
 rw [List.set_append_right _ _ (Nat.le_refl _)];simp
theorem qP {α:Type} (S:List α) (o:α):(S++[o])[S.length]?=some o:=by simp
theorem So.up {N:List aq} {d:Nat} {S:List Oo} {m:Nat} (hh:∀ (i:Nat) x,S[i]?=some x→x.Has=true∧x.Node<m):Up S m:=fun i x hx=>⟨by have:=(hh i x hx).2;omega,fun q=>by rw [(hh i x hx).1] at q;cases q⟩
theorem xx (F:Nat) (p:Pp) (e:bd) (hl:p.S.length≤1000):∀ (m:Nat) (oJ k:Int), -1≤k→k<p.S.length→k+1<m→∃ k',correctorref12_parser_place_l0 F p e m e oJ k=some (e,oJ,k')∧ -1≤k'∧k'<p.S.length:=by
 intro m
 induction m with
 | zero=>intro oJ k h1 h2 j;omega
 | succ m ih=>
  intro oJ k h1 h2 j
  rw [correctorref12_parser_place_l0]
  by_cases c:0≤k
  case neg=>rw [if_neg c];exact ⟨k,rfl,h1,h2⟩
  have hi:k.toNat<p.S.length:=by omega
  rw [if_pos c,if_pos (by omega),aX hi]
  simp only [ax]
  split
  ·rw [jU (by omega) (by omega)]
   exact ih oJ (k - 1) (by omega) (by omega) (by omega)
  ·exact ⟨k,rfl,h1,h2⟩
theorem Cz (F:Nat) (hF:2500≤F) {n:Int} {p:Pp} {q:Int} {d:Nat} (h:PD n p q d) (h0:0≤q) {e:bd} (hq:q≤e.ah) (fG:e.ah<e.To) (ht:e.To≤n):
  Wp (correctorref12_parser_place F p e) (fun z=>z.2.Rows=p.Rows∧z.2.R.L=p.R.L∧z.2.Read=p.Read∧((0<z.1∧z.2=p)∨(z.1=0∧(PD n z.2 e.To d∧(z.2.R.T.an.length:Int)≤4 * e.To+3)∧∃ (k:Nat) (o:Oo),z.2.S[k]?=some o∧k+1=z.2.S.length∧o.Has=false))):=by
 have hn:=h.rd.nl
 have dH:=h.rd.ri.n
 have e5:=h.dep
 have hZ:=h.sl
 have cc:=h.sz
 have fY:=h.dl
 have rF:af ((p.S.length:Int) - 1)=(p.S.length:Int) - 1:=aZ (by omega) (by omega)
 unfold correctorref12_parser_place
 refine bh (Q:=fun s=>s.1=e∧(s.2=3∨s.2=5)) (az (fun _=>wpS ⟨rfl, .inl rfl⟩) (fun _=>wpS ⟨rfl, .inr rfl⟩)) ?_
 rintro ⟨e1,kind⟩ ⟨rfl,oz⟩
 simp only at oz hq fG ht ⊢
 rw [rF]
 obtain ⟨k,aW,aH,av⟩:=xx F p e1 (by omega) F kind ((p.S.length:Int) - 1) (by omega) (by omega) (by omega)
 refine aU aW ?_
 simp only
 refine bh (Q:=fun s=>match s with
  | .inl (e',k',fresh)=>e'=e1∧((fresh=false∧0≤k'∧k'<p.S.length)∨(fresh=true∧ -1≤k'∧k'<p.S.length∧(k'<0∨∃ o,p.S[k'.toNat]?=some o∧o.Has=false)))
  | .inr z=>0<z.1∧z.2=p) ?_ ?_
 ·refine bh (Q:=fun s=>s.1=e1∧(s.2=true→0≤k)) ?_ ?_
  ·refine az (fun c=>aP (by omega) (aC (ba (by omega) fun o ho=>az (fun _=>aP (by omega) (aC (ba (by omega) fun o ho=>az (fun _=>wpS ⟨rfl,fun _=>c⟩) (fun _=>wpS ⟨rfl,fun q=>by cases q⟩)))) (fun _=>wpS ⟨rfl,fun q=>by cases q⟩)))) (fun _=>wpS ⟨rfl,fun q=>by cases q⟩)
  rintro ⟨aJ,bn⟩ ⟨rfl,aY⟩
  refine az (fun c=>wpS ⟨rfl, .inl ⟨rfl,aY c,av⟩⟩) (fun _=>?_)
  refine bh (Q:=fun s=>s.1=aJ∧(s.2=true→0≤k)) ?_ ?_
  ·refine az (fun c=>aP (by omega) (aC (ba (by omega) fun o ho=>az (fun _=>az (fun _=>wpS ⟨rfl,fun _=>c⟩) (fun _=>wpS ⟨rfl,fun q=>by cases q⟩)) (fun _=>wpS ⟨rfl,fun q=>by cases q⟩)))) (fun _=>wpS ⟨rfl,fun q=>by cases q⟩)
  rintro ⟨ab,bo⟩ ⟨rfl,a0⟩
  refine az (fun c=>?_) (fun _=>?_)
  ·have aw:=a0 c
   refine aP (by omega) (aC (ba (by omega) fun o ho=>az (fun _=>wpS ⟨by simp,rfl⟩) (fun hh=>wpS ⟨rfl, .inr ⟨rfl,aH,av, .inr ⟨o,ho,by simpa using hh⟩⟩⟩)))
  refine bh (Q:=fun s=>s.1=ab∧(s.2=true→0<k)) ?_ ?_
  ·have hw:0<k→af (k - 1)=k - 1:=fun c=>jU (by omega) (by omega)
   refine az (fun c=>?_) (fun _=>wpS ⟨rfl,fun q=>by cases q⟩)
   rw [hw c]
   exact aP (by omega) (aC (ba (by omega) fun o ho=>az (fun _=>aP (by omega) (aC (ba (by omega) fun o ho=>az (fun _=>aP (by omega) (aC (ba (by omega) fun o ho=>az (fun _=>wpS ⟨rfl,fun _=>c⟩) (fun _=>wpS ⟨rfl,fun q=>by cases q⟩)))) (fun _=>wpS ⟨rfl,fun q=>by cases q⟩)))) (fun _=>wpS ⟨rfl,fun q=>by cases q⟩)))
  rintro ⟨j,bp⟩ ⟨rfl,a2⟩
  refine az (fun c=>?_) (fun _=>?_)
  ·have aw:=a2 c
   rw [jU (by omega) (by omega)]
   exact wpS ⟨rfl, .inl ⟨rfl,by omega,by omega⟩⟩
  refine bh (Q:=fun s=>s.1=j) ?_ ?_
  ·refine az (fun c=>aP (by omega) (aC (ba (by omega) fun o ho=>az (fun _=>wpS rfl) (fun _=>wpS rfl)))) (fun _=>wpS rfl)
  rintro ⟨bq,bt⟩ rfl
  refine az (fun c=>wpS ⟨by simp,rfl⟩) (fun _=>?_)
  refine az (fun c=>?_) (fun c=>?_)
  ·refine az (fun _=>wpS ⟨by simp,rfl⟩) (fun _=>gm (by omega) (wpS ⟨rfl, .inr ⟨rfl,aH,av, .inl c⟩⟩))
  ·refine aP (by omega) (aP (by omega) (aC (ba (by omega) fun o ho=>az (fun _=>wpS ⟨by simp,rfl⟩) (fun hh=>wpS ⟨rfl, .inr ⟨rfl,aH,av, .inr ⟨o,ho,by simpa using hh⟩⟩⟩))))
 rintro (⟨aJ,k',fresh⟩ | ⟨code,p'⟩) hs
 case inr=>obtain ⟨U,rfl⟩:=hs;exact wpS ⟨rfl,rfl,rfl, .inl ⟨U,rfl⟩⟩
 obtain ⟨rfl,hs⟩:=hs
 simp only at hs ⊢
 have ir: -1≤k'∧k'<p.S.length:=by rcases hs with ⟨_,z⟩ | ⟨_,U,aa,_⟩<;>omega
 have a3:af (k'+1)=k'+1:=aZ (by omega) (by omega)
 have a5:af (k'+2)=k'+2:=aZ (by omega) (by omega)
 rw [a3,a5]
 refine bh (Q:=fun s=>match s with
  | .inl e'=>e'=aJ∧(fresh=true→k'+2≤p.aA)
  | .inr z=>0<z.1∧z.2=p) ?_ ?_
 ·refine az (fun c=>az (fun _=>wpS ⟨by simp,rfl⟩) (fun c2=>wpS ⟨rfl,fun _=>by omega⟩)) (fun c=>wpS ⟨rfl,fun q=>absurd q c⟩)
 rintro (ab | ⟨code,p'⟩) aO
 case inr=>obtain ⟨U,rfl⟩:=aO;exact wpS ⟨rfl,rfl,rfl, .inl ⟨U,rfl⟩⟩
 obtain ⟨rfl,Bh⟩:=aO
 simp only [th p.S k' ir.1 ir.2]
 refine aP (by omega) (aP (by rw [show (0:Int).toNat=0 from rfl,List.drop_zero,List.length_take,List.length_nil];omega) ?_)
 refine bh (Q:=fun z=>z.2.1=p.Rows∧z.2.2.1=p.Doc∧z.2.2.2.2.2.1=p.aA∧z.2.2.2.2.2.2.1=p.Read∧z.2.2.2.2.2.2.2=ab∧z.1.L=p.R.L∧z.1.D=p.R.D∧(z.1.T.an.length:Int)≤p.R.T.an.length+1∧(z.2.2.2.2.1.length:Int)≤p.aA∧∃ S0 o m,Ls n z.1 d z.2.2.2.2.1 S0 o m ab.ah ab.To) ?_ ?_
 ·refine az (fun kK=>?_) (fun kK=>?_)
  ·have a6:k'<0∨∃ o,p.S[k'.toNat]?=some o∧o.Has=false:=by
    rcases hs with ⟨z,_⟩ | ⟨_,_,_,z⟩
    ·rw [kK] at z;cases z
    ·exact z
   have bu:=Bh kK
   refine bh (Q:=fun z=>z.1=p.Rows∧z.2.1=p.Doc∧z.2.2.2.2.1=p.aA∧z.2.2.2.2.2.1=p.Read∧z.2.2.2.2.2.2.1=ab∧(z.2.2.2.1.length:Int)+1≤p.aA∧∃ u:Nat,z.2.2.2.2.2.2.2=(u:Int)∧Sp p.R.T.an u∧d≤u∧So p.R.T.an d z.2.2.2.1∧∀ (i:Nat) (x:Oo),z.2.2.2.1[i]?=some x→x.Has=true∧x.Node<(u:Int)) ?_ ?_
   ·refine az (fun aw=>?_) (fun aw=>?_)
    ·rcases a6 with z | ⟨o,ho,hf⟩
     ·omega
     obtain ⟨ax,c,c1,c2,a7,a8,bw⟩:=h.si.open_ ho hf
     have e:p.S.take (k'+1).toNat=p.S:=List.take_of_length_le (by omega)
     rw [e]
     refine aP (by omega) ?_
     rw [ho]
     refine aU rfl (aP (by omega) (aU rfl (wpS ⟨rfl,rfl,rfl,rfl,rfl,?_,c,c1,a7,a8,?_,fun i x hx=>?_⟩)))
     ·show ((p.S.set _ _).length:Int)+1≤p.aA
      rw [List.length_set];omega
     ·exact h.si.last ho ax rfl (fun z=>by cases z)
     ·have h4:(p.S.set k'.toNat {o with Has:=true})[i]?=some x:=hx
      by_cases ei:i=k'.toNat
      ·subst ei
       rw [List.getElem?_set_self (fA ho)] at h4
       simp only [Option.some.injEq] at h4
       subst h4
       exact ⟨rfl,c2⟩
      ·rw [List.getElem?_set_ne (Ne.symm ei)] at h4
       have hi:=fA h4
       have h1:=h.si.inc i k'.toNat x o (by omega) h4 ho
       exact ⟨h.si.has i x h4 (by omega),by omega⟩
    ·have e:(k'+1).toNat=0:=by omega
     rw [e,List.take_zero]
     exact wpS ⟨rfl,rfl,rfl,rfl,rfl,by show ((0:Nat):Int)+1≤p.aA;omega,d,h.doc,h.ds,Nat.le_refl _,So.nil _ _,fun i x hx=>by simp at hx⟩
   ·rintro ⟨a9,bb,aK,aQ,bc,bf,j,up⟩ ⟨ag,ai,aj,ak,ao,ad,u,aq,ay,aB,aS,aD⟩
    simp only at ag ai aj ak ao ad aq aS aD ⊢
    subst ag ai aj ak ao aq
    obtain ⟨r1,a1,ar,I,au,aE,bg,z,hz,oP,nh⟩:=js F hF h.rd (by omega) ay (kind:=kind) (aN:=j.ah) (to:=j.To) (by omega) (by omega) ht (by omega) (h.rd.endOf h0 u hq)
    have hu:=ay.lt h.rd.g
    have bx:=I.sz
    refine aU a1 (aP (by rw [cQ];omega) (wpS ⟨rfl,rfl,rfl,rfl,rfl,I.l,aE,?_,?_,aQ,_,p.R.T.an.length,rfl,rfl,by omega,au,I.sp d aB h.ds,fun e he=>by rw [qK hz nh e he,oP];exact Int.le_refl _,aS.to (So.up (d:=d) (N:=p.R.T.an) aD) I.sp,fun i x hx=>⟨(aD i x hx).1,by have:=(aD i x hx).2;omega⟩,ar⟩))
    ·show (r1.T.an.length:Int)≤_;omega
    ·show ((aQ++[_]).length:Int)≤_
     rw [b7,cQ];omega
  ·have aw:0≤k':=by
    rcases hs with ⟨_,z,_⟩ | ⟨z,_⟩
    ·exact z
    ·exact absurd z kK
   have hl:k'.toNat<p.S.length:=by omega
   have hg:=aX hl
   obtain ⟨m,bj,bk,bl⟩:=h.si.node _ _ hg
   have e:(k'+1).toNat=k'.toNat+1:=by omega
   refine wpS ⟨rfl,rfl,rfl,rfl,rfl,rfl,rfl,by show (p.R.T.an.length:Int)≤_;omega,?_,p.S.take k'.toNat,p.S[k'.toNat],m,?_,bj,bk,bl,h.ds,h.rd.endOf h0 m hq,h.si.take _,fun i x hx=>?_,h.rd.mono (by omega)⟩
   ·show ((p.S.take (k'+1).toNat).length:Int)≤_
    rw [List.length_take];omega
   ·show p.S.take (k'+1).toNat=_
    rw [e,List.take_succ_eq_append_getElem hl]
   ·obtain ⟨ax,bm⟩:=mF hx
    have h1:=h.si.inc i k'.toNat x _ bm ax hg
    exact ⟨h.si.has i x ax (by omega),by omega⟩
 ·rintro ⟨ae,a9,bb,aK,bz,bc,bf,j⟩ ⟨ag,ai,aj,ak,ao,ad,aq,ay,aB,S0,o,m,hL⟩
  simp only at ag ai aj ak ao ad aq ay aB hL ⊢
  subst ag ai aj ak ao
  have heq:=hL.eq
  subst heq
  rw [b7,cQ] at aB
  have lv:af (((S0++[o]).length:Int) - 1)=(S0.length:Int):=by rw [b7,cQ,aZ (by omega) (by omega)];omega
  have hS:(S0++[o]).length=S0.length+1:=by simp
  simp only [lv,b2,qP,Ac]
  refine aP (by rw [hS];omega) (aU rfl ?_)
  refine bh (Q:=fun z=>z.2.1=p.Rows∧z.2.2.1=p.Doc∧z.2.2.2.2.2.1=p.aA∧z.2.2.2.2.2.2=p.Read∧z.1.L=p.R.L∧(PD n (⟨z.1,z.2.1,z.2.2.1,z.2.2.2.1,z.2.2.2.2.1,z.2.2.2.2.2.1,z.2.2.2.2.2.2⟩:Pp) j.To d∧(z.1.T.an.length:Int)≤4 * j.To+3)∧∃ (k:Nat) (o:Oo),z.2.2.2.2.1[k]?=some o∧k+1=z.2.2.2.2.1.length∧o.Has=false) ?_ ?_
  ·have fin:∀ (J:Rr) (c:Nat) (root:Bool) (s:Int),Rd n J j.To→To ae J m s 0→Sp J.T.an c→m<c→s≤2 * (j.To - j.ah) - 1∨((ae.T.an.length:Int)≤p.R.T.an.length∧s≤2 * (j.To - j.ah))∨s≤1→PD n (⟨J,p.Rows,p.Doc,root,S0++[(⟨o.Node,o.Kind,o.aI,(c:Int),false⟩:Oo)],p.aA,p.Read⟩:Pp) j.To d∧(J.T.an.length:Int)≤4 * j.To+3:=by
    intro J c root s U aa aL aF aM
    have t1:=aa.sz
    have t2:=aa.dl
    rw [aq] at t2
    refine ⟨⟨U,by show RO J.L p.Rows;rw [aa.l,ad];exact h.ro,e5,?_,h.doc,aa.sp d (by have:=hL.dm;omega) hL.sd,?_,?_,?_⟩,by omega⟩
    ·show ((S0++[_]).length:Int)≤_
     rw [b7,cQ];omega
    ·exact So.push (hL.so.to (So.up (d:=d) (N:=ae.T.an) hL.has) aa.sp) (fun i x hx=>(hL.has i x hx).1) hL.nd hL.dm (aa.sp m (Nat.le_refl _) hL.sm) (fun i x hx=>(hL.has i x hx).2) (fun _=>⟨rfl,aF,aL⟩)
    ·show (J.T.an.length:Int)≤4 * j.To+5;omega
    ·show (J.D.length:Int)≤4 * j.To+4;omega
   refine az (fun hd=>?_) (fun hd=>?_)
   ·obtain ⟨aG,a1,ar,I,au,aE,bg,_⟩:=js F hF hL.rd (by omega) hL.sm (kind:=4) (aN:=j.ah) (to:=j.To) (by omega) (by omega) ht (Int.le_refl _) hL.en
    refine aU rfl ?_
    rw [hL.nd]
    refine aU a1 (aU rfl (wpS ⟨rfl,rfl,rfl,rfl,I.l.trans ad,?_,S0.length,_,qP _ _,by simp,rfl⟩))
    have:=fin aG ae.T.an.length aK 1 ar I au (hL.sm.lt hL.rd.g) (.inr (.inr (Int.le_refl _)))
    rw [hL.nd] at this
    exact this
   ·obtain ⟨aG,a1,ar,I,au,aE⟩:=tw F hF hL.rd (by omega) hL.sm (aN:=j.ah) (to:=j.To) (by omega) (by omega) ht (Int.le_refl _) hL.en
    refine aU rfl ?_
    rw [hL.nd]
    refine aU a1 (aU rfl (wpS ⟨rfl,rfl,rfl,rfl,I.l.trans ad,?_,S0.length,_,qP _ _,by simp,rfl⟩))
    have t:To ae aG m (if j.To - j.ah<2 then 1 else 2) 0:=by
     refine ⟨I.l,I.e,?_,I.ge,I.dl,I.sp⟩
     have:=I.sz
     split
     ·rename_i z;have:=aE z;omega
     ·omega
    have:=fin aG ae.T.an.length aK _ ar t au (hL.sm.lt hL.rd.g) (by split<;>omega)
    rw [hL.nd] at this
    exact this
  ·rintro ⟨J,bA,bB,bC,bD,bE,bF⟩ ⟨U,aa,aL,aF,aM,aT,aV⟩
   simp only at U aa aL aF aM aT aV ⊢
   exact wpS ⟨U,aM,aF, .inr ⟨rfl,aT,aV⟩⟩
end
section
open Go Am Sy
abbrev Cu:=Rr×(List av)×Int×Bool×(List Oo)×Int×Int×av×Int
def Cu.p (z:Cu):Pp:=⟨z.1,z.2.1,z.2.2.1,z.2.2.2.1,z.2.2.2.2.1,z.2.2.2.2.2.1,z.2.2.2.2.2.2.1⟩
def ux (S:List Oo):Prop:=∃ (k:Nat) (o:Oo),S[k]?=some o∧k+1=S.length∧o.Has=false
theorem body_l0_wp (F:Nat) (hF:2500≤F) {n:Int} {p a0:Pp} {d:Nat} {r:av} {b rest:Int} {es:List bd} (hn:n≤450) (G1:rest≤r.To) (aj:b≤r.To) (oL:r.To≤n) (k1:p.Read=r.To)
  (hb:∀ (i:Int) (t:al),b≤i→i<r.To→p.R.L[i.toNat]?=some t→cn t.Kind=false):
  ∀ (m:Nat) (R:Rr) (Doc:Int) (aE:Bool) (S:List Oo) (dq:Int) (q:Int) (u:Nat) (i:Nat),es.length+1 - i<m→i≤es.length→es.length≤1000→0≤q→R.L=p.R.L→PD n (⟨R,p.Rows,Doc,aE,S,dq,r.To⟩:Pp) q d→Ec p.R.L q (es.drop i) rest→Sp R.T.an u→d≤u→Up S u→(i≠0→ux S∧(R.T.an.length:Int)≤4 * q+3)→
  Wp (lA F a0 r m R p.Rows Doc aE S dq r.To r b es rest (u:Int) (i:Int)) (fun s=>match s with
   | .inl z=>z.2.1=p.Rows∧z.2.2.2.2.2.2.1=r.To∧z.2.2.2.2.2.2.2.1=r∧z.2.2.2.2.2.2.2.2=rest∧z.1.L=p.R.L∧∃ q',0≤q'∧q'≤rest∧PD n (Cu.p z) q' d∧(es≠[]→ux z.2.2.2.2.1∧(z.1.T.an.length:Int)≤4 * q'+3)
   | .inr p'=>Nx n p p'):=by
 intro m
 induction m with
 | zero=>intro R Doc aE S dq q u i h1;omega
 | succ m ih=>
  intro R Doc aE S dq q u i h1 h2 Fg U hl h ki hs nR hu ay
  rw [lA]
  refine az (fun c=>?_) (fun c=>?_)
  ·have hi:i<es.length:=by omega
   have hg:=aX hi
   have sI:es.drop i=es[i]::es.drop (i+1):=List.drop_eq_getElem_cons hi
   rw [sI] at ki
   obtain ⟨ad,ak,ao,ae⟩:=ki
   have G6:=ae.le
   refine aP (by omega) ?_
   simp only [b2,hg]
   refine aU rfl ?_
   refine bh (Cz F hF h U ad ak (by omega)) ?_
   rintro ⟨code,p'⟩ ⟨aa,ag,ab,j⟩
   simp only at aa ag ab j ⊢
   rcases j with ⟨j,rfl⟩ | ⟨rfl,⟨j,yE⟩,k,o,J,aq,ai⟩
   ·refine aP j (aP (by omega) (aU rfl ?_))
    have tR:es[i].ah<b:=by
     by_cases z:es[i].ah<b
     ·exact z
     ·obtain ⟨t,t1,t2⟩:=ao
      rw [hb _ t (by omega) (by omega) t1] at t2;cases t2
    obtain ⟨re,e1,I,ar,aB⟩:=rT F hF h U hs nR hu (aN:=es[i].ah) (to:=b) (code:=code) ad tR (by omega)
    refine aU e1 (wpS ⟨⟨I.rd.mono aj,I.ro,I.dep, .inr ⟨d,I.doc,I.ds,I.si,I.sl⟩,?_,?_⟩,?_,?_,rfl,ar.trans hl⟩)
    ·show (re.T.an.length:Int)≤4 * r.To+4;omega
    ·have:=I.dl
     simp only at this
     show (re.D.length:Int)≤4 * r.To+4;omega
    ·show 0≤r.To;omega
    ·show r.To≤n;omega
   ·refine gm (by omega) ?_
    have e5:=j.dep
    have hZ:=j.sl
    have lv:af ((p'.S.length:Int) - 1)=(k:Int):=by rw [aZ (by omega) (by omega)];omega
    have lf:af ((i:Int)+1)=((i+1:Nat):Int):=by rw [aZ (by omega) (by omega)];omega
    have hk:=fA J
    simp only [lv,lf,b2,J]
    refine aP (by omega) (aU rfl ?_)
    obtain ⟨_,cu,c1,c2,au,aw,ax⟩:=j.si.open_ J ai
    rw [c1,aa,ab]
    refine ih p'.R p'.Doc p'.aE p'.S p'.aA es[i].To cu (i+1) (by omega) (by omega) Fg (by omega) (ag.trans hl) ?_ ae au aw ax (fun _=>⟨⟨k,o,J,aq,ai⟩,yE⟩)
    have e:(⟨p'.R,p.Rows,p'.Doc,p'.aE,p'.S,p'.aA,r.To⟩:Pp)=p':=by
     rw [show p.Rows=p'.Rows from aa.symm,show r.To=p'.Read from ab.symm]
    rw [e];exact j
  ·have hi:i=es.length:=by omega
   refine wpS ⟨rfl,rfl,rfl,rfl,hl,q,U,?_,h,fun cp=>ay ?_⟩
   ·rw [hi,List.drop_length] at ki;exact ki
   ·have:es.length≠0:=fun z=>cp (List.eq_nil_of_length_eq_zero z)
    omega
theorem Nx.of {n:Int} {p j p':Pp} (h:Nx n j p') (h1:j.Rows=p.Rows) (h2:j.R.L=p.R.L):Nx n p p':=⟨h.pi,h.r0,h.r1,h.rows.trans h1,h.l.trans h2⟩
theorem y9 (F:Nat) (hF:2500≤F) {n:Int} {p:Pp} {q:Int} (h:PI n p q) (h0:0≤q) {r:av} (hk:r.Kind=5) (hq:q≤r.ah) (hr:r.ah<r.To) (ak:r.To≤n) (hc:∃ (i:Int) (t:al),r.ah≤i∧i<r.To∧p.R.L[i.toNat]?=some t∧cn t.Kind=true) (k1:p.Read=r.To):Wp (oM F p r) (Nx n p):=by
 have hn:=h.rd.nl
 have dH:=h.rd.ri.n
 obtain ⟨a,b,a1,ao,a7,aw,aB,aC⟩:=k3 F hF p dH r.ah r.To (by omega) (by omega) (by omega)
 have fh:=ao.in hc
 have fw:=aB fh
 have a8:=ao.1
 obtain ⟨j,d,aD,aq,ad,ai,J⟩:=u2 F hF h h0 (a:=a) (by omega) (by omega)
 obtain ⟨es,rest,e1,first,ax,ay,aF⟩:=BS F hF j.R.L (by rw [J];exact dH) r hk ⟨by omega,hr,by rw [J];omega⟩
 have Az:first=a:=by rw [J] at ax;exact ax.eq ao
 subst Az
 unfold oM
 refine aU a1 (aU aD (aU e1 ?_))
 refine az (fun c=>?_) (fun c=>?_)
 ·have:=FD F hF (r:=r) aq (by omega) fw (by rw [ad,k1];exact aw) (by rw [ad,k1];exact ak)
  exact bh this fun p' e3=>wpS (e3.of ai J)
 ·have cp:es≠[]:=fun z=>c (by rw [z];rfl)
  have ki:Ec j.R.L first es rest:=by rcases aF with z | z;exact absurd z cp;exact z
  have hlen:=ki.le
  obtain ⟨u,aG,aH,aI,aJ⟩:=ss F aq
  refine aU aG ?_
  have Aa:=body_l0_wp F hF (n:=n) (p:=j) (a0:=p) (d:=d) (r:=r) (b:=b) (rest:=rest) (es:=es) (by omega) ay aw ak (by rw [ad,k1]) (fun i t aK aL aM=>aC i t aK aL (by rw [← J];exact aM)) F j.R j.Doc j.aE j.S j.aA first u 0 (by omega) (by omega) (by omega) (by omega) rfl (by
   have e:(⟨j.R,j.Rows,j.Doc,j.aE,j.S,j.aA,r.To⟩:Pp)=j:=by rw [show r.To=j.Read from by rw [ad,k1]]
   rw [e];exact aq) ki aH aI aJ (fun z=>absurd rfl z)
  rw [show j.Read=r.To from by rw [ad,k1]]
  refine bh Aa ?_
  rintro (⟨ae,a9,aN,aO,ar,aQ,ba,U,aS⟩ | p') hs
  case inr=>exact wpS (hs.of ai J)
  simp only [Cu.p] at hs ⊢
  obtain ⟨aT,aV,aW,aX,aj,q',aY,bc,I,a2⟩:=hs
  subst aT aV aW aX
  obtain ⟨⟨k,o,ag,a3,a5⟩,bd⟩:=a2 cp
  have e5:=I.dep
  have hZ:=I.sl
  simp only at e5 hZ
  obtain ⟨x,y,c1,c2,bf,bg,bj,_⟩:=k3 F hF (⟨ae,j.Rows,aN,aO,ar,aQ,U.To⟩:Pp) (by show ae.L.length≤450;rw [aj,J];exact dH) aS U.To (by omega) ay (by show _≤(ae.L.length:Int);rw [aj,J];omega)
  refine aU c1 ?_
  have hx:=c2.1
  have hk:=fA ag
  have lv:af ((ar.length:Int) - 1)=(k:Int):=by rw [aZ (by omega) (by omega)];omega
  refine az (fun mz=>?_) (fun mz=>?_)
  ·obtain ⟨_,cu,d1,d2,d3,d4,d5⟩:=I.si.open_ ag a5
   obtain ⟨bb,aa,v1,v2,bk,v4,ab,v6,a6,bl,bm⟩:=pn F hF I aY d3 d4 d5 (at_:=x) (by omega) (by omega)
   simp only [lv,b2,ag]
   refine aP (by omega) (aU rfl ?_)
   rw [d1]
   refine aU v1 ?_
   have au:=v2.s
   simp only at au
   rw [au,ag]
   refine aP (by omega) (aU rfl (wpS ⟨⟨ab.rd,ab.ro,ab.dep, .inr ⟨d,ab.doc,ab.ds,?_,?_⟩,?_,?_⟩,?_,v4,v2.rows.trans ai,(v6.trans aj).trans J⟩))
   ·have h2:=ab.si
    rw [au] at h2
    exact h2.last ag a3 rfl (fun _=>⟨cu,d1,d2,a6 cu (Nat.le_refl _) d3⟩)
   ·show ((ar.set _ _).length:Int)≤aa.aA
    rw [List.length_set,v2.dep];exact hZ
   ·show (aa.R.T.an.length:Int)≤4 * aa.Read+4;omega
   ·show (aa.R.D.length:Int)≤4 * aa.Read+4;omega
   ·show 0≤aa.Read;omega
  ·have hd:=I.dl
   simp only at hd
   refine wpS ⟨⟨I.rd.mono (by show q'≤U.To;omega),I.ro,I.dep, .inr ⟨d,I.doc,I.ds,I.si,I.sl⟩,?_,?_⟩,?_,ak,ai,aj.trans J⟩
   ·show (ae.T.an.length:Int)≤4 * U.To+4;omega
   ·show (ae.D.length:Int)≤4 * U.To+4;omega
   ·show 0≤U.To;omega
theorem Fi (F:Nat) (hF:2500≤F) {n:Int} {p:Pp} {q:Int} (h:PI n p q) (h0:0≤q) {r:av} (hm:r∈p.Rows) (hq:q≤r.ah):Wp (oS F p r) (Nx n p):=by
 have hn:=h.rd.nl
 have dH:=h.rd.ri.n
 obtain ⟨aH,ab,aq⟩:=h.ro.iy r hm
 have gw:=h.ro.jQ r hm
 have hp:PI n (⟨p.R,p.Rows,p.Doc,p.aE,p.S,p.aA,r.To⟩:Pp) q:=⟨h.rd,h.ro,h.dep,h.doc,h.sz,h.dl⟩
 unfold oS
 refine az (fun ad=>?_) (fun ad=>?_)
 ·exact bh (yh F hF hp h0 hq ab (by omega) (gw (.inl ad)) rfl) fun p' e3=>wpS (e3.of rfl rfl)
 refine az (fun U=>?_) (fun U=>?_)
 ·exact bh (y9 F hF hp h0 U hq ab (by omega) (gw (.inr U)) rfl) fun p' e3=>wpS (e3.of rfl rfl)
 refine bh (Q:=fun z=>z.1=p.Rows∧z.2.1=p.Doc∧z.2.2.1=p.aE∧z.2.2.2.1=p.S∧z.2.2.2.2.1=p.aA∧z.2.2.2.2.2.1=r.To∧z.2.2.2.2.2.2.1=r) (az (fun _=>wpS ⟨rfl,rfl,rfl,rfl,rfl,rfl,rfl⟩) (fun _=>az (fun _=>wpS ⟨rfl,rfl,rfl,rfl,rfl,rfl,rfl⟩) (fun _=>wpS ⟨rfl,rfl,rfl,rfl,rfl,rfl,rfl⟩))) ?_
 rintro ⟨aI,aJ,aK,aL,aM,aO,j,aa⟩ ⟨ae,af,ag,ai,aj,ak,ao⟩
 simp only at ae af ag ai aj ak ao ⊢
 subst ae af ag ai aj ak ao
 have stay:Nx n p (⟨p.R,p.Rows,p.Doc,p.aE,p.S,p.aA,j.To⟩:Pp):=⟨hp.mono (by show q≤j.To;omega),by show 0≤j.To;omega,by show j.To≤n;omega,rfl,rfl⟩
 refine az (fun _=>?_) (fun _=>wpS stay)
 obtain ⟨a,b,a1,ar,aP,aQ,aS,aT⟩:=k3 F hF (⟨p.R,p.Rows,p.Doc,p.aE,p.S,p.aA,j.To⟩:Pp) dH j.ah j.To (by omega) (by omega) aq
 have ha:=ar.1
 refine aU a1 (az (fun fw=>?_) (fun _=>wpS stay))
 obtain ⟨J,d,au,aa,aw,ax,ay⟩:=u2 F hF hp h0 (a:=a) (by omega) (by omega)
 obtain ⟨u,aB,aC,aD,aF⟩:=ss F aa
 obtain ⟨re,e1,I,aG,aV⟩:=rT F hF aa (by omega) aC aD aF (aN:=a) (to:=b) (code:=8) (Int.le_refl _) fw (by omega)
 have hd:=I.dl
 simp only at hd
 have kY:J.Read=j.To:=aw
 refine aU au (aU aB (aU e1 (wpS ⟨⟨I.rd.mono (by show b≤J.Read;omega),I.ro,I.dep, .inr ⟨d,I.doc,I.ds,I.si,I.sl⟩,?_,?_⟩,?_,?_,ax,aG.trans ay⟩)))
 ·show (re.T.an.length:Int)≤4 * J.Read+4;omega
 ·show (re.D.length:Int)≤4 * J.Read+4;omega
 ·show 0≤J.Read;omega
 ·show J.Read≤n;omega
theorem Fq (F:Nat) (hF:2500≤F) (B:List UInt8) (depth:Int) {n:Int} {L:List al} {rs:List av}:
  ∀ (m:Nat) (p:Pp) (i:Nat),rs.length+1 - i<m→i≤rs.length→p.Rows=rs→p.R.L=L→PI n p p.Read→0≤p.Read→p.Read≤n→
  Wp (correctorref12_Tree_l0 F B depth m L rs p.R p.Doc p.aE p.S p.aA p.Read (i:Int)) (fun z=>z.1=L∧z.2.1=rs∧z.2.2.1.L=L∧G z.2.2.1.T.an n∧(z.2.2.1.D.length:Int)≤4 * n+4∧(z.2.2.1.T.an.length:Int)≤4 * n+4):=by
 intro m
 induction m with
 | zero=>intro p i h1;omega
 | succ m ih=>
  intro p i h1 h2 j I h h0 hn
  have hlen:=h.ro.len
  rw [j] at hlen
  rw [correctorref12_Tree_l0]
  refine az (fun c=>?_) (fun c=>?_)
  ·have hi:i<rs.length:=by omega
   have hg:=aX hi
   have lf:af ((i:Int)+1)=((i+1:Nat):Int):=by rw [aZ (by omega) (by omega)];omega
   have hb:0≤(i:Int)∧(i:Int)<(rs.length:Int):=by omega
   simp only [if_pos hb,b2,hg,lf]
   refine aC (aU rfl ?_)
   refine az (fun hf=>?_) (fun hf=>?_)
   ·refine aU rfl ?_
    have e:(⟨p.R,rs,p.Doc,p.aE,p.S,p.aA,p.Read⟩:Pp)=p:=by rw [← j]
    rw [e]
    refine bh (Fi F hF h h0 (by rw [j];exact List.getElem_mem hi) hf) ?_
    intro p' e3
    refine wpS ?_
    simp only
    rw [e3.rows,j]
    exact ih p' (i+1) (by omega) (by omega) (e3.rows.trans j) (e3.l.trans I) e3.pi e3.r0 e3.r1
   ·refine wpS ?_
    simp only
    exact ih p (i+1) (by omega) (by omega) j I h h0 hn
  ·have:=h.dl
   have:=h.sz
   exact wpS ⟨rfl,rfl,I,h.rd.g,by show (p.R.D.length:Int)≤_;omega,by show (p.R.T.an.length:Int)≤_;omega⟩
end
section
open Go Am Sy
theorem kn (F:Nat) (c:Int):Wp (gI F c) (fun _=>True):=by
 unfold gI;(repeat' (first | with_reducible refine aC ?_ | (with_reducible refine az ?_ ?_<;>intro _) | (with_reducible refine ba (by assumption) ?_;intro _ _) | with_reducible refine wpS ?_ | (with_reducible refine cm ?_;omega) | dsimp only))<;>trivial
theorem sB (F:Nat) (c:Int):Wp (kv F c) (fun _=>True):=by
 unfold kv;(repeat' (first | with_reducible refine aC ?_ | (with_reducible refine az ?_ ?_<;>intro _) | (with_reducible refine ba (by assumption) ?_;intro _ _) | with_reducible refine wpS ?_ | (with_reducible refine cm ?_;omega) | dsimp only))<;>trivial
theorem Gr (F:Nat) (c:Int):Wp (mZ F c) (fun _=>True):=by
 unfold mZ;(repeat' (first | with_reducible refine aC ?_ | (with_reducible refine az ?_ ?_<;>intro _) | (with_reducible refine ba (by assumption) ?_;intro _ _) | with_reducible refine wpS ?_ | (with_reducible refine cm ?_;omega) | dsimp only))<;>trivial
theorem lI (F:Nat) (B:List UInt8) (i:Int) (h:0≤i) (hn:B.length≤20000):Wp (correctorref2_Break F B i) (fun r=>0≤r∧(0<r→i+r≤B.length)):=by
 unfold correctorref2_Break
 refine az ?_ ?_<;>intro _
 ·exact wpS (by omega)
 ·have e:af (i+1)=i+1:=aZ (by omega) (by omega)
  simp only [e]
  (repeat' (first | with_reducible refine aC ?_ | (with_reducible refine az ?_ ?_<;>intro _) | (with_reducible refine ba (by assumption) ?_;intro _ _) | with_reducible refine wpS ?_ | (with_reducible refine cm ?_;omega) | dsimp only))<;>omega
theorem sh (F:Nat) (s:aL) (i:Int) (h:0≤i) (hn:s.B.length≤20000):Wp (k4 F s i) (fun _=>True):=by
 unfold k4
 refine az ?_ ?_<;>intro hi
 ·exact wpS trivial
 ·(repeat' (first | with_reducible refine aC ?_ | (with_reducible refine az ?_ ?_<;>intro _) | (with_reducible refine ba (by assumption) ?_;intro _ _) | with_reducible refine wpS ?_ | (with_reducible refine cm ?_;omega) | dsimp only))
  refine (kn _ _).mono ?_
  intro r _
  (repeat' (first | with_reducible refine aC ?_ | (with_reducible refine az ?_ ?_<;>intro _) | (with_reducible refine ba (by assumption) ?_;intro _ _) | with_reducible refine wpS ?_ | (with_reducible refine cm ?_;omega) | dsimp only))
  refine (lI _ _ _ h hn).mono ?_
  intro r _
  (repeat' (first | with_reducible refine aC ?_ | (with_reducible refine az ?_ ?_<;>intro _) | (with_reducible refine ba (by assumption) ?_;intro _ _) | with_reducible refine wpS ?_ | (with_reducible refine cm ?_;omega) | dsimp only))<;>trivial
theorem oH (F:Nat) (s:aL) (i:Int):Wp (iN F s i) (fun r=>r≠0→i<s.B.length):=by
 unfold iN
 (repeat' (first | with_reducible refine aC ?_ | (with_reducible refine az ?_ ?_<;>intro _) | (with_reducible refine ba (by assumption) ?_;intro _ _) | with_reducible refine wpS ?_ | (with_reducible refine cm ?_;omega) | dsimp only))<;>omega
theorem we (F:Nat) (s:aL) (i:Int) (h:0≤i∧i≤s.B.length) (hn:s.B.length≤20000):
  Wp (mm F s i) (fun r=>r=0∨(r=20∨r=21)∧i+3≤s.B.length):=by
 unfold mm
 have e1:af (i+1)=i+1:=aZ (by omega) (by omega)
 have j:af (i+2)=i+2:=aZ (by omega) (by omega)
 have I:af (i+3)=i+3:=aZ (by omega) (by omega)
 simp only [e1,j,I]
 refine aC ((oH F s i).mono ?_)
 intro r _
 (repeat' (first | with_reducible refine aC ?_ | (with_reducible refine az ?_ ?_<;>intro _) | (with_reducible refine ba (by assumption) ?_;intro _ _) | with_reducible refine wpS ?_ | (with_reducible refine cm ?_;omega) | dsimp only))
 ·omega
 ·refine (sh _ _ _ (by omega) hn).mono ?_
  intro r _
  (repeat' (first | with_reducible refine aC ?_ | (with_reducible refine az ?_ ?_<;>intro _) | (with_reducible refine ba (by assumption) ?_;intro _ _) | with_reducible refine wpS ?_ | (with_reducible refine cm ?_;omega) | dsimp only))<;>omega
 all_goals omega
def jQ (k:Int):Bool:=!(k == 1 || k == 2 || k == 3 || k == 4)
theorem tq (F:Nat) (k:Int):fH F k=some (jQ k):=by
 unfold fH jQ
 repeat' split
 all_goals simp_all
theorem Ew (F:Nat) (s:aL) (k to:Int) (hl:s.L.length≤20000):
  Wp (dg F s k to) (fun r=>r.B=s.B∧r.At=to∧r.Row=s.Row∧r.Open=s.Open∧r.L=s.L++[⟨k,s.At,to⟩]):=by
 unfold dg
 rw [tq]
 refine aC (aC ?_)
 refine Wp.mono (P:=fun _=>True) ?_ ?_
 ·(repeat' (first | with_reducible refine aC ?_ | (with_reducible refine az ?_ ?_<;>intro _) | (with_reducible refine ba (by assumption) ?_;intro _ _) | with_reducible refine wpS ?_ | (with_reducible refine cm ?_;omega) | dsimp only))<;>trivial
 intro c _
 have e:s.L.length+[(⟨k,s.At,to⟩:al)].length≤5864062014805:=by simp;omega
 (repeat' (first | with_reducible refine aC ?_ | (with_reducible refine az ?_ ?_<;>intro _) | (with_reducible refine ba (by assumption) ?_;intro _ _) | with_reducible refine wpS ?_ | (with_reducible refine cm ?_;omega) | dsimp only))
 all_goals first | exact ⟨rfl,rfl,rfl,rfl,rfl⟩ | (exfalso;simp_all;done) | (exfalso;simp_all;omega)
theorem rf (F:Nat) (s:aL) (i:Int) (h:0≤i∧i≤s.B.length) (hn:s.B.length≤20000) (hF:s.B.length<F):
  Wp (fT F s i) (fun r=>i≤r∧r≤s.B.length∧(r=s.B.length∨Wp (correctorref2_Break F s.B r) (fun b=>0<b))):=by
 have key:∀ (m:Nat) (x:Int),i≤x→x≤s.B.length→s.B.length - x<m→Wp (correctorref6_scanner_rowEnd_l0 F s i m x)
   (fun r=>i≤r∧r≤s.B.length∧(r=s.B.length∨Wp (correctorref2_Break F s.B r) (fun b=>0<b))):=by
  intro m
  induction m with
  | zero=>intro x h1 h2 j;omega
  | succ m ih=>
   intro x h1 h2 j
   rw [correctorref6_scanner_rowEnd_l0]
   refine az ?_ ?_<;>intro hx
   ·refine aC ?_
    obtain ⟨b,hb,I,J⟩:=lI F s.B x (by omega) hn
    refine ⟨b,hb,?_⟩
    refine az ?_ ?_<;>intro hz
    ·rw [aZ (by omega) (by omega)]
     exact ih _ (by omega) (by omega) (by omega)
    ·exact wpS ⟨h1,h2, .inr ⟨b,hb,by omega⟩⟩
   ·exact wpS ⟨h1,h2, .inl (by omega)⟩
 unfold fT
 refine aC ((key F i (by omega) (by omega) (by omega)).mono ?_)
 intro a ha
 exact wpS ha
end
section
open Go Am Sy
theorem u1 (F:Nat) (s:aL) (i:Int) (t:Bool) (h:0≤i∧i≤s.B.length) (hn:s.B.length≤20000) (hF:s.B.length<F):
  Wp (lQ F s i t) (fun r=>i≤r∧r≤s.B.length):=by
 have key:∀ (m:Nat) (x:Int),i≤x→x≤s.B.length→s.B.length - x<m→Wp (kP F s i t m x)
   (fun r=>i≤r∧r≤s.B.length):=by
  intro m
  induction m with
  | zero=>intro x h1 h2 j;omega
  | succ m ih=>
   intro x h1 h2 j
   have e:x<s.B.length→af (x+1)=x+1:=fun _=>aZ (by omega) (by omega)
   have st:x<s.B.length→Wp (kP F s i t m (af (x+1))) (fun r=>i≤r∧r≤s.B.length):=by
    intro hx;rw [e hx];exact ih _ (by omega) (by omega) (by omega)
   rw [kP]
   refine aC ?_
   refine az ?_ ?_<;>intro hx
   ·have st:=st hx
    (repeat' (first | with_reducible refine aC ?_ | (with_reducible refine az ?_ ?_<;>intro _) | (with_reducible refine ba (by assumption) ?_;intro _ _) | with_reducible refine wpS ?_ | (with_reducible refine cm ?_;omega) | dsimp only))
    refine (Gr _ _).mono ?_
    intro r _
    (repeat' (first | with_reducible refine aC ?_ | (with_reducible refine az ?_ ?_<;>intro _) | (with_reducible refine ba (by assumption) ?_;intro _ _) | with_reducible refine wpS ?_ | (with_reducible refine cm ?_;omega) | dsimp only))
    all_goals first | exact st | omega
   ·exact wpS (wpS ⟨h1,h2⟩)
 unfold lQ
 refine aC ((key F i (by omega) (by omega) (by omega)).mono ?_)
 intro a ha
 exact wpS ha
theorem vl (F:Nat) (s:aL) (i:Int) (h:0≤i) (hn:s.B.length≤20000):Wp (lU F s i) (fun _=>True):=by
 unfold lU
 refine aC ((oH F s i).mono ?_)
 intro r _
 refine az ?_ ?_<;>intro _
 ·refine az ?_ ?_<;>intro _
  ·rw [aZ (by omega) (by omega)]
   refine aC ((sh _ _ _ (by omega) hn).mono ?_)
   intro r _
   (repeat' (first | with_reducible refine aC ?_ | (with_reducible refine az ?_ ?_<;>intro _) | (with_reducible refine ba (by assumption) ?_;intro _ _) | with_reducible refine wpS ?_ | (with_reducible refine cm ?_;omega) | dsimp only))
   refine (oH F s _).mono ?_
   intro r _
   (repeat' (first | with_reducible refine aC ?_ | (with_reducible refine az ?_ ?_<;>intro _) | (with_reducible refine ba (by assumption) ?_;intro _ _) | with_reducible refine wpS ?_ | (with_reducible refine cm ?_;omega) | dsimp only))
   refine (sB _ _).mono ?_
   intro r _
   (repeat' (first | with_reducible refine aC ?_ | (with_reducible refine az ?_ ?_<;>intro _) | (with_reducible refine ba (by assumption) ?_;intro _ _) | with_reducible refine wpS ?_ | (with_reducible refine cm ?_;omega) | dsimp only))
  ·exact wpS trivial
 ·exact wpS trivial
theorem Ej (F:Nat) (s:aL) (i e:Int) (h:0≤i∧i≤e∧e≤s.B.length) (hn:s.B.length≤20000) (hF:s.B.length<F):
  Wp (nV F s i e) (fun r=>i≤r∧r≤e):=by
 have key:∀ (m:Nat) (x:Int),i≤x→x≤e→e - x<m→Wp (correctorref6_scanner_single_l0 F s i e m x)
   (fun r=>∀ y,r= .inr y→i≤y∧y≤e):=by
  intro m
  induction m with
  | zero=>intro x h1 h2 j;omega
  | succ m ih=>
   intro x h1 h2 j
   rw [correctorref6_scanner_single_l0]
   refine az ?_ ?_<;>intro hx
   ·have e1:af (x+1)=x+1:=aZ (by omega) (by omega)
    have I:af (x+2)=x+2:=aZ (by omega) (by omega)
    simp only [e1,I]
    (repeat' (first | with_reducible refine aC ?_ | (with_reducible refine az ?_ ?_<;>intro _) | (with_reducible refine ba (by assumption) ?_;intro _ _) | with_reducible refine wpS ?_ | (with_reducible refine cm ?_;omega) | dsimp only))
    ·exact ih _ (by omega) (by omega) (by omega)
    ·intro y hy;cases hy;omega
    ·intro y hy;cases hy;omega
    ·exact ih _ (by omega) (by omega) (by omega)
   ·exact wpS (fun y hy=>by cases hy)
 unfold nV
 refine aC ((key F i (by omega) (by omega) (by omega)).mono ?_)
 intro a ha
 rcases a with _ | y
 ·exact wpS ⟨h.2.1,Int.le_refl _⟩
 ·exact wpS (ha y rfl)
theorem D3 (F:Nat) (s:aL) (i e:Int) (h:0≤i∧i≤e∧e≤s.B.length) (hn:s.B.length≤20000) (hF:s.B.length+2<F):
  Wp (m7 F s i e) (fun r=>i≤r):=by
 have key:∀ (m:Nat) (x:Int),i≤x→x≤e+1→e+1 - x<m→Wp (lB F s i e m x)
   (fun r=>∀ y,r= .inr y→i≤y):=by
  intro m
  induction m with
  | zero=>intro x h1 h2 j;omega
  | succ m ih=>
   intro x h1 h2 j
   rw [lB]
   refine az ?_ ?_<;>intro hx
   ·have e1:af (x+1)=x+1:=aZ (by omega) (by omega)
    have I:af (x+1+1)=x+1+1:=aZ (by omega) (by omega)
    (repeat' (first | with_reducible refine aC ?_ | (with_reducible refine az ?_ ?_<;>intro _) | (with_reducible refine ba (by assumption) ?_;intro _ _) | with_reducible refine wpS ?_ | (with_reducible refine cm ?_;omega) | dsimp only))
    ·intro y hy;cases hy;omega
    ·rw [e1,I];exact ih _ (by omega) (by omega) (by omega)
    ·rw [e1];exact ih _ (by omega) (by omega) (by omega)
   ·exact wpS (fun y hy=>by cases hy)
 unfold m7
 refine aC ((key F i (by omega) (by omega) (by omega)).mono ?_)
 intro a ha
 rcases a with _ | y
 ·exact wpS h.2.1
 ·exact wpS (ha y rfl)
theorem xB (F:Nat) (s:aL) (h:0≤s.At∧s.At<s.B.length) (hn:s.B.length≤20000) (hF:s.B.length+2<F):
  Wp (iB F s) (fun r=>0≤r∧s.At+r≤s.B.length):=by
 have key:∀ (j:Int),s.At≤j→j≤s.B.length→∀ (m:Nat) (x:Int),j≤x→x≤s.B.length→s.B.length - x<m→Wp (g7 F s m j x)
   (fun r=>r.1=j∧j≤r.2∧r.2≤s.B.length):=by
  intro j J U m
  induction m with
  | zero=>intro x h1 h2 ad;omega
  | succ m ih=>
   intro x h1 h2 ad
   rw [g7]
   refine az ?_ ?_<;>intro hx
   ·have e1:af (x+1)=x+1:=aZ (by omega) (by omega)
    rw [e1]
    (repeat' (first | with_reducible refine aC ?_ | (with_reducible refine az ?_ ?_<;>intro _) | (with_reducible refine ba (by assumption) ?_;intro _ _) | with_reducible refine wpS ?_ | (with_reducible refine cm ?_;omega) | dsimp only))
    refine (kn _ _).mono ?_
    intro r _
    (repeat' (first | with_reducible refine aC ?_ | (with_reducible refine az ?_ ?_<;>intro _) | (with_reducible refine ba (by assumption) ?_;intro _ _) | with_reducible refine wpS ?_ | (with_reducible refine cm ?_;omega) | dsimp only))
    ·exact ih _ (by omega) (by omega) (by omega)
    ·exact ⟨rfl,h1,h2⟩
   ·exact wpS ⟨rfl,h1,h2⟩
 have e1:af (s.At+1)=s.At+1:=aZ (by omega) (by omega)
 have ae:af (s.At+1+1)=s.At+1+1:=aZ (by omega) (by omega)
 have tail:∀ j:Int,s.At≤j→j≤s.B.length→Wp ((g7 F s F j j).bind fun o=>match o with
     | (aa,I)=>((if I<(s.B.length:Int) then
       (correctorref2_Break F s.B I).bind fun ag=>
       if ag=(0:Int) then
        if 0≤I∧I<(s.B.length:Int) then
         (s.B[I.toNat]?).bind fun ah=>
         if (ah.toNat:Int)=(35:Int) then
          if aa<I then
           some (.inl ())
          else
           some (.inr 0)
         else
          some (.inr 0)
        else none
       else
        some (.inl ())
      else
       some (.inl ())):Option (Sum Unit Int)).bind fun o=>match o with
      | .inl ()=>some (af (aa - s.At))
      | .inr y=>some y) (fun r=>0≤r∧s.At+r≤s.B.length):=by
  intro j J U
  refine aC ((key j J U F j (by omega) (by omega) (by omega)).mono ?_)
  rintro ⟨a,b⟩ ⟨ab,ai,aj⟩
  dsimp only at ab ai aj ⊢
  subst ab
  have ak:af (a - s.At)=a - s.At:=aZ (by omega) (by omega)
  rw [ak]
  refine aC ?_
  refine az ?_ ?_<;>intro hx
  ·refine aC ((lI _ _ _ (by omega) hn).mono ?_)
   intro r _
   (repeat' (first | with_reducible refine aC ?_ | (with_reducible refine az ?_ ?_<;>intro _) | (with_reducible refine ba (by assumption) ?_;intro _ _) | with_reducible refine wpS ?_ | (with_reducible refine cm ?_;omega) | dsimp only))<;>omega
  ·exact wpS (wpS (by omega))
 unfold iB
 simp only [e1,ae]
 refine az ?_ ?_<;>intro hx
 ·refine aC (ba hx ?_)
  intro c hc
  refine aC ?_
  refine Wp.mono (P:=fun r=>∀ y,r= .inr y→y=0) ?_ ?_
  ·(repeat' (first | with_reducible refine aC ?_ | (with_reducible refine az ?_ ?_<;>intro _) | (with_reducible refine ba (by assumption) ?_;intro _ _) | with_reducible refine wpS ?_ | (with_reducible refine cm ?_;omega) | dsimp only))
   all_goals intro y hy;cases hy
   all_goals rfl
  intro a ha
  rcases a with _ | y
  ·dsimp only
   refine aC ?_
   refine Wp.mono (P:=fun r=>s.At≤r∧r≤s.B.length) ?_ ?_
   ·refine aC ((oH F s _).mono ?_)
    intro r hr
    (repeat' (first | with_reducible refine aC ?_ | (with_reducible refine az ?_ ?_<;>intro _) | (with_reducible refine ba (by assumption) ?_;intro _ _) | with_reducible refine wpS ?_ | (with_reducible refine cm ?_;omega) | dsimp only))
    ·omega
    ·refine (oH F s _).mono ?_
     intro r' nt
     (repeat' (first | with_reducible refine aC ?_ | (with_reducible refine az ?_ ?_<;>intro _) | (with_reducible refine ba (by assumption) ?_;intro _ _) | with_reducible refine wpS ?_ | (with_reducible refine cm ?_;omega) | dsimp only))<;>omega
   ·intro j hj
    exact tail j hj.1 hj.2
  ·have:=ha y rfl
   subst this
   exact wpS (by omega)
 ·omega
end
section
open Go Am Sy
theorem GF (F:Nat) (b:List UInt8) (n x low:Int) (h:1≤n∧n≤4) (hF:10<F):Wp (jI F b n x low) (fun r=>r.2=1∨(1≤r.2∧r.2≤b.length)):=by
 have key:n≤b.length→∀ (m:Nat) (v i:Int),1≤i→i≤n→n - i<m→Wp (correctorref1_sign_l0 F b n x low m v i)
   (fun r=>∀ y,r= .inr y→y.2=1):=by
  intro hn m
  induction m with
  | zero=>intro v i h1 h2 j;omega
  | succ m ih=>
   intro v i h1 h2 j
   rw [correctorref1_sign_l0]
   refine az ?_ ?_<;>intro hx
   ·have e1:af (i+1)=i+1:=aZ (by omega) (by omega)
    rw [e1]
    (repeat' (first | with_reducible refine aC ?_ | (with_reducible refine az ?_ ?_<;>intro _) | (with_reducible refine ba (by assumption) ?_;intro _ _) | with_reducible refine wpS ?_ | (with_reducible refine cm ?_;omega) | dsimp only))
    ·intro y hy;cases hy;rfl
    ·intro y hy;cases hy;rfl
    ·exact ih _ _ (by omega) (by omega) (by omega)
   ·exact wpS (fun y hy=>by cases hy)
 unfold jI
 refine az ?_ ?_<;>intro hx
 ·exact wpS (.inl rfl)
 ·refine aC ((key (by omega) F x 1 (by omega) (by omega) (by omega)).mono ?_)
  intro a ha
  rcases a with v | y
  ·(repeat' (first | with_reducible refine aC ?_ | (with_reducible refine az ?_ ?_<;>intro _) | (with_reducible refine ba (by assumption) ?_;intro _ _) | with_reducible refine wpS ?_ | (with_reducible refine cm ?_;omega) | dsimp only))
   all_goals first | exact .inl rfl | exact .inr ⟨h.1,by omega⟩
  ·exact wpS (.inl (ha y rfl))
theorem pW (F:Nat) (b:List UInt8) (hb:0<b.length) (hF:10<F):Wp (jY F b) (fun r=>1≤r.2∧r.2≤b.length):=by
 unfold jY
 rw [if_neg (by omega)]
 refine az ?_ ?_<;>intro h0
 ·refine aC (ba h0 ?_)
  intro c hc
  refine aC ?_
  have sg:∀ n x low,1≤n∧n≤4→Wp (jI F b n x low) (fun r=>1≤r.2∧r.2≤b.length):=
   fun n x low h=>(GF F b n x low h hF).mono (fun r hr=>by omega)
  (repeat' (first | with_reducible refine aC ?_ | (with_reducible refine az ?_ ?_<;>intro _) | (with_reducible refine ba (by assumption) ?_;intro _ _) | with_reducible refine wpS ?_ | (with_reducible refine cm ?_;omega) | dsimp only))
  all_goals first
   | omega
   | (exfalso;simp_all;done)
   | (refine (sg 2 _ _ (by omega)).mono ?_;intro r hr;(repeat' (first | with_reducible refine aC ?_ | (with_reducible refine az ?_ ?_<;>intro _) | (with_reducible refine ba (by assumption) ?_;intro _ _) | with_reducible refine wpS ?_ | (with_reducible refine cm ?_;omega) | dsimp only));exact hr)
   | (refine (sg 3 _ _ (by omega)).mono ?_;intro r hr;(repeat' (first | with_reducible refine aC ?_ | (with_reducible refine az ?_ ?_<;>intro _) | (with_reducible refine ba (by assumption) ?_;intro _ _) | with_reducible refine wpS ?_ | (with_reducible refine cm ?_;omega) | dsimp only));exact hr)
   | (refine (sg 4 _ _ (by omega)).mono ?_;intro r hr;(repeat' (first | with_reducible refine aC ?_ | (with_reducible refine az ?_ ?_<;>intro _) | (with_reducible refine ba (by assumption) ?_;intro _ _) | with_reducible refine wpS ?_ | (with_reducible refine cm ?_;omega) | dsimp only));exact hr)
 ·omega
theorem Ai (F:Nat) (s:aL) (h:0≤s.At∧s.At<s.B.length) (hn:s.B.length≤20000) (hF:s.B.length+10<F):
  Wp (m1 F s) (fun r=>s.At<r∧r≤s.B.length):=by
 have k0:∀ (m:Nat) (x:Int),s.At<x→x≤s.B.length→s.B.length - x<m→Wp (kL F s m x)
   (fun r=>s.At<r∧r≤s.B.length):=by
  intro m
  induction m with
  | zero=>intro x h1 h2 j;omega
  | succ m ih=>
   intro x h1 h2 j
   rw [kL]
   refine az ?_ ?_<;>intro hx
   ·refine az ?_ ?_<;>intro hy
    ·have e1:af (x - 1)=x - 1:=aZ (by omega) (by omega)
     rw [e1]
     refine aC ((pW F _ (by simp;omega) (by omega)).mono ?_)
     intro r hr
     have hl:((s.B.take (s.B.length:Int).toNat).drop x.toNat).length=s.B.length - x.toNat:=by simp
     rw [hl] at hr
     have st:Wp (kL F s m (af (x+r.2))) (fun r=>s.At<r∧r≤s.B.length):=by
      rw [aZ (by omega) (by omega)]
      exact ih _ (by omega) (by omega) (by omega)
     refine aC ?_
     refine Wp.mono (P:=fun r=>r= .inl ()∨r= .inr x) ?_ ?_
     ·(repeat' (first | with_reducible refine aC ?_ | (with_reducible refine az ?_ ?_<;>intro _) | (with_reducible refine ba (by assumption) ?_;intro _ _) | with_reducible refine wpS ?_ | (with_reducible refine cm ?_;omega) | dsimp only))
      ·exact .inr rfl
      ·refine (lI _ _ _ (by omega) hn).mono ?_
       intro r _
       (repeat' (first | with_reducible refine aC ?_ | (with_reducible refine az ?_ ?_<;>intro _) | (with_reducible refine ba (by assumption) ?_;intro _ _) | with_reducible refine wpS ?_ | (with_reducible refine cm ?_;omega) | dsimp only))
       ·exact .inr rfl
       ·refine (vl _ _ _ (by omega) hn).mono ?_
        intro r _
        (repeat' (first | with_reducible refine aC ?_ | (with_reducible refine az ?_ ?_<;>intro _) | (with_reducible refine ba (by assumption) ?_;intro _ _) | with_reducible refine wpS ?_ | (with_reducible refine cm ?_;omega) | dsimp only))
        ·exact .inr rfl
        ·refine (kn _ _).mono ?_
         intro r _
         (repeat' (first | with_reducible refine aC ?_ | (with_reducible refine az ?_ ?_<;>intro _) | (with_reducible refine ba (by assumption) ?_;intro _ _) | with_reducible refine wpS ?_ | (with_reducible refine cm ?_;omega) | dsimp only))
         ·exact .inr rfl
         ·refine (sB _ _).mono ?_
          intro r _
          (repeat' (first | with_reducible refine aC ?_ | (with_reducible refine az ?_ ?_<;>intro _) | (with_reducible refine ba (by assumption) ?_;intro _ _) | with_reducible refine wpS ?_ | (with_reducible refine cm ?_;omega) | dsimp only))
          ·exact .inr rfl
          ·exact .inl rfl
         ·exact .inl rfl
        ·refine (sB _ _).mono ?_
         intro r _
         (repeat' (first | with_reducible refine aC ?_ | (with_reducible refine az ?_ ?_<;>intro _) | (with_reducible refine ba (by assumption) ?_;intro _ _) | with_reducible refine wpS ?_ | (with_reducible refine cm ?_;omega) | dsimp only))
         ·exact .inr rfl
         ·exact .inl rfl
        ·exact .inl rfl
     ·intro a ha
      rcases ha with rfl | rfl
      ·exact st
      ·exact wpS ⟨h1,h2⟩
    ·omega
   ·exact wpS ⟨h1,h2⟩
 have I:∀ (m:Nat) (x:Int),s.At<x→x≤s.B.length→x - s.At<m→Wp (mE F s m x)
   (fun r=>s.At<r∧r≤s.B.length):=by
  intro m
  induction m with
  | zero=>intro x h1 h2 j;omega
  | succ m ih=>
   intro x h1 h2 j
   rw [mE]
   have e1:af (x - 1)=x - 1:=aZ (by omega) (by omega)
   have J:af (s.At+1)=s.At+1:=aZ (by omega) (by omega)
   rw [e1,J]
   (repeat' (first | with_reducible refine aC ?_ | (with_reducible refine az ?_ ?_<;>intro _) | (with_reducible refine ba (by assumption) ?_;intro _ _) | with_reducible refine wpS ?_ | (with_reducible refine cm ?_;omega) | dsimp only))
   ·refine (kn _ _).mono ?_
    intro r _
    (repeat' (first | with_reducible refine aC ?_ | (with_reducible refine az ?_ ?_<;>intro _) | (with_reducible refine ba (by assumption) ?_;intro _ _) | with_reducible refine wpS ?_ | (with_reducible refine cm ?_;omega) | dsimp only))
    ·exact ih _ (by omega) (by omega) (by omega)
    ·exact ⟨h1,h2⟩
   ·exact ⟨h1,h2⟩
 unfold m1
 refine az ?_ ?_<;>intro hx
 ·refine aC ((pW F _ (by simp;omega) (by omega)).mono ?_)
  intro r hr
  have hl:((s.B.take (s.B.length:Int).toNat).drop s.At.toNat).length=s.B.length - s.At.toNat:=by simp
  rw [hl] at hr
  rw [aZ (by omega) (by omega)]
  refine aC ((k0 F _ (by omega) (by omega) (by omega)).mono ?_)
  intro a ha
  refine aC ((I F _ ha.1 ha.2 (by omega)).mono ?_)
  intro a ha
  exact wpS ha
 ·omega
def Ends (l:List al):Prop:=l=[]∨∃ p t,l=p++[t]∧(t.Kind=1∨t.Kind=19)
def gV (l:List al) (k:Int):Prop:=∃ p t,l=p++[t]∧t.Kind=k
inductive Tk (n:Int):List al→Int→Prop
 | nil:Tk n [] 0
 | snoc {l:List al} {n1:Int} (k to:Int):Tk n l n1→n1<to→to≤n→(k=2∨k=20∨k=21→Ends l)→(gV l 4→k=1)→0<k→Tk n (l++[⟨k,n1,to⟩]) to
theorem Tk.bounds {n:Int} {l:List al} {a:Int} (h:Tk n l a):(l.length:Int)≤a∧(0<a→l≠[]):=by
 induction h with
 | nil=>simp
 | snoc k to h1 h2 j I J U ih=>simp;omega
structure SI (F:Nat) (B:List UInt8) (s:aL):Prop where
 b:s.B=B
 r:0≤s.Row∧s.Row≤s.At∧s.At≤B.length
 o:0≤s.Open∧s.Open≤s.At
 t:Tk B.length s.L s.At
 w:s.At=s.Row→Ends s.L
 c:gV s.L 4→s.At=B.length∨Wp (correctorref2_Break F B s.At) (fun b=>0<b)
theorem SI.ll {F:Nat} {B:List UInt8} {s:aL} (h:SI F B s) (hn:B.length≤20000):s.L.length≤20000:=by
 have:=h.t.bounds.1;have:=h.r;omega
theorem qQ (l:List al) (t:al) (k:Int):gV (l++[t]) k↔t.Kind=k:=by
 constructor
 ·rintro ⟨p,t',h,h1⟩
  have:=List.append_inj_right' h rfl
  simp at this;subst this;exact h1
 ·intro h;exact ⟨l,t,rfl,h⟩
theorem SI.add {F:Nat} {B:List UInt8} {s r:aL} {k to:Int} (h:SI F B s)
  (hr:r.B=s.B∧r.At=to∧r.Row=s.Row∧r.Open=s.Open∧r.L=s.L++[⟨k,s.At,to⟩])
  (h1:s.At<to) (h2:to≤B.length) (U:k=2∨k=20∨k=21→s.At=s.Row)
  (aa:k≠1→¬ gV s.L 4)
  (ab:k=4→to=B.length∨Wp (correctorref2_Break F B to) (fun b=>0<b)) (ad:0<k):SI F B r:=by
 obtain ⟨e1,j,I,ae,J⟩:=hr
 have hR:=h.r
 have hO:=h.o
 refine ⟨by rw [e1,h.b],by rw [j,I];omega,by rw [j,ae];omega,?_,by rw [j,I];omega,?_⟩
 ·rw [J,j]
  refine .snoc k to h.t h1 h2 (fun q=>h.w (U q)) ?_ ad
  intro q
  by_cases hk:k=1
  ·exact hk
  ·exact absurd q (aa hk)
 ·rw [J,j,qQ]
  exact ab
theorem SI.kc {F:Nat} {B:List UInt8} {s:aL} (h:SI F B s) (h1:s.At<B.length) (h2:Wp (correctorref2_Break F B s.At) (fun b=>b=0)):¬ gV s.L 4:=by
 intro q
 obtain ⟨b,I,J⟩:=h2
 rcases h.c q with j | ⟨b',j,U⟩
 ·omega
 ·rw [I] at j;injection j;omega
theorem Ends.kc {l:List al} (h:Ends l):¬ gV l 4:=by
 rcases h with rfl | ⟨p,t,rfl,h⟩
 ·rintro ⟨p,t,h,_⟩;simp at h
 ·rw [qQ];omega
theorem SI.re {F:Nat} {B:List UInt8} {s:aL} (h:SI F B s) (o base text:Int) (only:Bool) (ho:0≤o∧o≤s.At):
  SI F B ⟨s.B,s.At,s.Row,o,base,only,text,s.L⟩:=⟨h.b,h.r,ho,h.t,h.w,h.c⟩
theorem SI.row {F:Nat} {B:List UInt8} {s:aL} (h:SI F B s) (he:Ends s.L) (base text:Int) (only:Bool):
  SI F B ⟨s.B,s.At,s.At,s.Open,base,only,text,s.L⟩:=by
 have:=h.r
 exact ⟨h.b,by dsimp only;omega,h.o,h.t,fun _=>he,h.c⟩
theorem jc {F:Nat} {B:List UInt8} {s:aL} (h:SI F B s) (hn:B.length≤20000) (k to:Int)
  (h1:s.At<to) (h2:to≤B.length) (j:k=2∨k=20∨k=21→s.At=s.Row)
  (I:k≠1→¬ gV s.L 4)
  (J:k=4→to=B.length∨Wp (correctorref2_Break F B to) (fun b=>0<b)) (U:0<k:=by omega):
  Wp (dg F s k to) (fun r=>SI F B r∧r.At=to∧r.Row=s.Row∧r.Open=s.Open∧gV r.L k):=by
 refine (Ew F s k to (h.ll hn)).mono ?_
 intro r hr
 refine ⟨h.add hr h1 h2 j I J U,hr.2.1,hr.2.2.1,hr.2.2.2.1,?_⟩
 rw [hr.2.2.2.2,qQ]
end
section
open Go Am Sy
theorem sT {l:List al} {k:Int} (h:gV l k) (hk:k=1∨k=19):Ends l:=by
 obtain ⟨p,t,rfl,h⟩:=h
 exact .inr ⟨p,t,rfl,by omega⟩
theorem AA (F:Nat) (a s:aL) (e:Int) (hn:s.B.length≤20000) (he:e≤s.B.length):∀ (m:Nat) (x:Int),0≤x→x≤e→e - x<m→
  Wp (correctorref6_scanner_texts_l1 F a m s e x) (fun r=>r.1=s∧r.2.1=e∧x≤r.2.2∧r.2.2≤e):=by
 intro m
 induction m with
 | zero=>intro x h1 h2 j;omega
 | succ m ih=>
  intro x h1 h2 j
  rw [correctorref6_scanner_texts_l1]
  refine az ?_ ?_<;>intro hx
  ·rw [aZ (by omega) (by omega)]
   (repeat' (first | with_reducible refine aC ?_ | (with_reducible refine az ?_ ?_<;>intro _) | (with_reducible refine ba (by assumption) ?_;intro _ _) | with_reducible refine wpS ?_ | (with_reducible refine cm ?_;omega) | dsimp only))
   ·refine (ih _ (by omega) (by omega) (by omega)).mono ?_
    intro r hr;exact ⟨hr.1,hr.2.1,by omega,hr.2.2.2⟩
   ·exact ⟨rfl,rfl,Int.le_refl _,h2⟩
  ·exact wpS ⟨rfl,rfl,Int.le_refl _,h2⟩
theorem Bz (F:Nat) (a s:aL) (e j:Int) (hn:s.B.length≤20000) (he:e≤s.B.length):∀ (m:Nat) (x:Int),0≤x→x≤e→e - x<m→
  Wp (correctorref6_scanner_texts_l2 F a m s e j x) (fun r=>r.1=s∧r.2.1=e∧r.2.2.1=j∧x≤r.2.2.2∧r.2.2.2≤e):=by
 intro m
 induction m with
 | zero=>intro x h1 h2 I;omega
 | succ m ih=>
  intro x h1 h2 I
  rw [correctorref6_scanner_texts_l2]
  refine az ?_ ?_<;>intro hx
  ·rw [aZ (by omega) (by omega)]
   (repeat' (first | with_reducible refine aC ?_ | (with_reducible refine az ?_ ?_<;>intro _) | (with_reducible refine ba (by assumption) ?_;intro _ _) | with_reducible refine wpS ?_ | (with_reducible refine cm ?_;omega) | dsimp only))
   refine (kn _ _).mono ?_
   intro r _
   (repeat' (first | with_reducible refine aC ?_ | (with_reducible refine az ?_ ?_<;>intro _) | (with_reducible refine ba (by assumption) ?_;intro _ _) | with_reducible refine wpS ?_ | (with_reducible refine cm ?_;omega) | dsimp only))
   ·refine (ih _ (by omega) (by omega) (by omega)).mono ?_
    intro r hr;exact ⟨hr.1,hr.2.1,hr.2.2.1,by omega,hr.2.2.2.2⟩
   ·exact ⟨rfl,rfl,rfl,Int.le_refl _,h2⟩
  ·exact wpS ⟨rfl,rfl,rfl,Int.le_refl _,h2⟩
theorem GK (F:Nat) (B:List UInt8) (a:aL) (h:SI F B a) (he:Ends a.L) (hn:B.length≤20000) (hF:B.length+10<F):
  Wp (nT F a) (fun r=>SI F B r∧a.At≤r.At):=by
 have key:∀ (m:Nat) (s:aL),SI F B s→Ends s.L→a.At≤s.At→B.length - s.At<m→
   Wp (correctorref6_scanner_texts_l0 F a m s) (fun r=>∃ q,(r= .inl q∨r= .inr q)∧SI F B q∧a.At≤q.At):=by
  intro m
  induction m with
  | zero=>intro s h1 h2 I ag;have:=h1.r;omega
  | succ m ih=>
   intro s h1 h2 I ag
   have hb:=h1.b
   have hr:=h1.r
   rw [correctorref6_scanner_texts_l0,hb]
   refine az ?_ ?_<;>intro hx
   ·refine aC ((we F s s.At (by rw [hb];omega) (by rw [hb];exact hn)).mono ?_)
    intro mk _
    refine az ?_ ?_<;>intro hm
    ·refine aC ((rf F s s.At (by rw [hb];omega) (by rw [hb];exact hn) (by rw [hb];omega)).mono ?_)
     rintro e ⟨e1,ah,j⟩
     rw [hb] at ah j
     refine aC ((AA F a s e (by rw [hb];exact hn) (by rw [hb];omega) F s.At (by omega) (by omega) (by omega)).mono ?_)
     rintro ⟨s1,e',J⟩ ⟨U,aa,ai,aj⟩
     dsimp only at U aa ai aj ⊢
     subst U aa
     refine aC ((Bz F a s1 e' J (by rw [hb];exact hn) (by rw [hb];omega) F J (by omega) (by omega) (by omega)).mono ?_)
     rintro ⟨s2,pd,aq,ar⟩ ⟨ab,ad,ae,ak,an⟩
     dsimp only at ab ad ae ak an ⊢
     subst ab ad ae
     refine aC ?_
     refine Wp.mono (P:=fun r=>r= .inl s2∨r= .inr s2) ?_ ?_
     ·(repeat' (first | with_reducible refine aC ?_ | (with_reducible refine az ?_ ?_<;>intro _) | (with_reducible refine ba (by assumption) ?_;intro _ _) | with_reducible refine wpS ?_ | (with_reducible refine cm ?_;omega) | dsimp only))
      all_goals first | exact .inl rfl | exact .inr rfl
     rintro r (rfl | rfl)
     ·dsimp only
      rw [hb]
      refine aC ?_
      obtain ⟨b,gZ,au,ao⟩:=lI F B pd (by omega) hn
      refine (wpE gZ ?_)
      have Aw:s2.At<pd+b:=by
       rcases j with j | ⟨b',j,av⟩
       ·omega
       ·rw [gZ] at j;injection j;omega
      have oL:pd+b≤B.length:=by
       by_cases hz:0<b
       ·exact ao hz
       ·omega
      rw [aZ (by omega) (by omega)]
      refine aC ((jc h1 hn 19 (pd+b) Aw oL (by omega) (fun _=>h2.kc) (by omega)).mono ?_)
      rintro r ⟨r1,aw,ax,ay,af⟩
      refine aC (wpS ?_)
      exact ih _ (r1.row (sT af (.inr rfl)) _ _ _) (sT af (.inr rfl)) (by dsimp only;omega) (by dsimp only;omega)
     ·exact wpS ⟨s2, .inr rfl,h1,I⟩
    ·exact wpS ⟨s, .inl rfl,h1,I⟩
   ·exact wpS ⟨s, .inl rfl,h1,I⟩
 unfold nT
 refine aC ((key F _ (h.re a.Open a.cj (-2) a.cH h.o) he (Int.le_refl _) (by have:=h.r;dsimp only;omega)).mono ?_)
 rintro r ⟨q,rfl | rfl,h1,h2⟩
 ·exact wpS ⟨h1,h2⟩
 ·exact wpS ⟨h1,h2⟩
theorem CP (F:Nat) (s:aL) (hn:s.B.length≤20000):∀ (m:Nat) (x:Int),0≤x→x≤s.B.length→s.B.length - x<m→
  Wp (mr F s m x) (fun r=>x≤r∧r≤s.B.length∧(∀ c,s.B[x.toNat]?=some c→(c.toNat:Int)=32→x<r)):=by
 intro m
 induction m with
 | zero=>intro x h1 h2 j;omega
 | succ m ih=>
  intro x h1 h2 j
  rw [mr]
  refine az ?_ ?_<;>intro hx
  ·rw [aZ (by omega) (by omega)]
   refine az ?_ ?_<;>intro hy
   ·refine aC (ba hy ?_)
    intro c hc
    refine az ?_ ?_<;>intro hz
    ·refine (ih _ (by omega) (by omega) (by omega)).mono ?_
     intro r hr
     exact ⟨by omega,hr.2.1,fun _ _ _=>by omega⟩
    ·refine wpS ⟨Int.le_refl _,h2,?_⟩
     intro c' eg h'
     rw [hc] at eg;injection eg with eg;subst eg;exact absurd h' hz
   ·omega
  ·refine wpS ⟨Int.le_refl _,h2,?_⟩
   intro c' eg h'
   have:s.B[x.toNat]?=none:=by simp;omega
   rw [this] at eg;cases eg
theorem zD (F:Nat) (s:aL) (hn:s.B.length≤20000):∀ (m:Nat) (x:Int),0≤x→x≤s.B.length→s.B.length - x<m→
  Wp (lP F s m x) (fun r=>x≤r∧r≤s.B.length∧(∀ c,s.B[x.toNat]?=some c→gI F (c.toNat:Int)=some true→x<r)):=by
 intro m
 induction m with
 | zero=>intro x h1 h2 j;omega
 | succ m ih=>
  intro x h1 h2 j
  rw [lP]
  refine az ?_ ?_<;>intro hx
  ·rw [aZ (by omega) (by omega)]
   refine az ?_ ?_<;>intro hy
   ·refine aC (ba hy ?_)
    intro c hc
    obtain ⟨bl,gi,_⟩:=kn F (c.toNat:Int)
    refine aC (wpE gi ?_)
    refine az ?_ ?_<;>intro hz
    ·refine (ih _ (by omega) (by omega) (by omega)).mono ?_
     intro r hr
     exact ⟨by omega,hr.2.1,fun _ _ _=>by omega⟩
    ·refine wpS ⟨Int.le_refl _,h2,?_⟩
     intro c' eg h'
     rw [hc] at eg;injection eg with eg;subst eg
     rw [gi] at h';injection h' with h';exact absurd h' hz
   ·omega
  ·refine wpS ⟨Int.le_refl _,h2,?_⟩
   intro c' eg h'
   have:s.B[x.toNat]?=none:=by simp;omega
   rw [this] at eg;cases eg
theorem y0 (F:Nat) (B:List UInt8) (s:aL) (h:SI F B s) (hx:s.At<B.length) (hn:B.length≤20000) (hF:B.length+10<F):
  Wp (oQ F s) (fun r=>(r.1=true∧SI F B r.2∧s.At<r.2.At)∨(r.1=false∧r.2=s∧Wp (correctorref2_Break F B s.At) (fun b=>b=0))):=by
 have hb:=h.b
 have hr:=h.r
 unfold oQ
 rw [hb]
 refine az ?_ ?_<;>intro hy
 ·refine aC (ba hy ?_)
  intro c hc
  obtain ⟨b,gZ,aj,ag⟩:=lI F B s.At (by omega) hn
  refine aC (wpE gZ ?_)
  refine az ?_ ?_<;>intro hz
  ·have:=ag hz
   rw [aZ (by omega) (by omega)]
   refine aC ((jc h hn 1 (s.At+b) (by omega) (by omega) (by omega) (by omega) (by omega)).mono ?_)
   rintro r ⟨r1,aa,ak,an,ah⟩
   have he:=sT ah (.inl rfl)
   refine aC (wpS ?_)
   refine aC ?_
   refine Wp.mono (P:=fun q=>SI F B q∧r.At≤q.At) ?_ ?_
   ·refine az ?_ ?_<;>intro _
    ·refine aC ((GK F B _ (r1.row he _ _ _) he hn hF).mono ?_)
     intro q hq;exact wpS hq
    ·exact wpS ⟨r1.row he _ _ _,Int.le_refl _⟩
   ·rintro q ⟨J,U⟩
    exact wpS (.inl ⟨rfl,J,by dsimp only;omega⟩)
  ·have af:Wp (correctorref2_Break F B s.At) (fun b=>b=0):=⟨b,gZ,by omega⟩
   have ab:=h.kc hx af
   have yb:Wp ((fT F s s.At).bind fun ad=>(dg F s 4 ad)) (fun r=>SI F B r∧s.At<r.At):=by
    refine aC ((rf F s s.At (by rw [hb];omega) (by rw [hb];exact hn) (by rw [hb];omega)).mono ?_)
    rintro e ⟨e1,I,j⟩
    rw [hb] at I j
    have:s.At<e:=by
     rcases j with j | ⟨b',j,ao⟩
     ·omega
     ·by_cases hh:e=s.At
      ·rw [hh,gZ] at j;injection j;omega
      ·omega
    refine (jc h hn 4 e this I (by omega) (fun _=>ab) (fun _=>j)).mono ?_
    rintro r ⟨r1,aa,_⟩
    exact ⟨r1,by omega⟩
   refine aC ?_
   refine Wp.mono (P:=fun r=>r=true→s.At=s.Row∧(c.toNat:Int)=32) ?_ ?_
   ·(repeat' (first | with_reducible refine aC ?_ | (with_reducible refine az ?_ ?_<;>intro _) | (with_reducible refine ba (by assumption) ?_;intro _ _) | with_reducible refine wpS ?_ | (with_reducible refine cm ?_;omega) | dsimp only))
    ·exact fun _=>⟨by assumption,by assumption⟩
    all_goals (intro hh;cases hh)
   intro r tL
   refine az ?_ ?_<;>intro hw
   ·obtain ⟨w1,w2⟩:=tL hw
    have:=CP F s (by rw [hb];exact hn) F s.At (by omega) (by rw [hb];omega) (by rw [hb];omega)
    rw [hb] at this
    refine aC (this.mono ?_)
    rintro e ⟨e1,I,j⟩
    refine aC ((jc h hn 2 e (j c hc w2) I (fun _=>w1) (fun _=>ab) (by omega)).mono ?_)
    rintro r ⟨r1,aa,_⟩
    have:=j c hc w2
    exact wpS (.inl ⟨rfl,r1,by dsimp only;omega⟩)
   ·obtain ⟨bl,gi,_⟩:=kn F (c.toNat:Int)
    refine aC (wpE gi ?_)
    refine az ?_ ?_<;>intro hv
    ·subst hv
     have:=zD F s (by rw [hb];exact hn) F s.At (by omega) (by rw [hb];omega) (by rw [hb];omega)
     rw [hb] at this
     refine aC (this.mono ?_)
     rintro e ⟨e1,I,j⟩
     have:=j c hc gi
     refine aC ((jc h hn 3 e this I (by omega) (fun _=>ab) (by omega)).mono ?_)
     rintro r ⟨r1,aa,_⟩
     exact wpS (.inl ⟨rfl,r1,by dsimp only;omega⟩)
    ·refine aC ?_
     refine Wp.mono (P:=fun r=>r= .inl ()∨∃ q,r= .inr (true,q)∧SI F B q∧s.At<q.At) ?_ ?_
     ·obtain ⟨q,hq,J,U⟩:=yb
      have ae:Wp ((fT F s s.At).bind fun ad=>(dg F s 4 ad).bind fun ai=>some ((.inr (true,ai)):Sum Unit (Bool×aL)))
        (fun r=>r= .inl ()∨∃ q,r= .inr (true,q)∧SI F B q∧s.At<q.At):=by
       refine ⟨.inr (true,q),?_, .inr ⟨q,rfl,J,U⟩⟩
       rw [← Option.bind_assoc,hq];rfl
      refine az ?_ ?_<;>intro aq
      ·refine az ?_ ?_<;>intro ti
       ·exact ae
       ·have hl:=h.t.bounds.2 (by omega)
        have:0<s.L.length:=List.length_pos_iff.2 hl
        have mT:=h.ll hn
        rw [aZ (by omega) (by omega)]
        refine az ?_ ?_<;>intro hi
        ·refine aC (ba hi ?_)
         intro t ht
         refine az ?_ ?_<;>intro hk
         ·exact ae
         ·rw [if_pos hi]
          refine aC (ba hi ?_)
          intro t ht
          refine az ?_ ?_<;>intro hk
          ·exact ae
          ·exact wpS (.inl rfl)
        ·omega
      ·exact wpS (.inl rfl)
     ·rintro r (rfl | ⟨q,rfl,J,U⟩)
      ·exact wpS (.inr ⟨rfl,rfl,af⟩)
      ·exact wpS (.inl ⟨rfl,J,U⟩)
 ·omega
theorem F1 (F:Nat) (B:List UInt8) (s:aL) (h:SI F B s) (hx:s.At<B.length) (hn:B.length≤20000) (hc:¬ gV s.L 4):
  Wp (o4 F s) (fun r=>(r.1=true∧SI F B r.2∧s.At<r.2.At)∨(r.1=false∧r.2=s)):=by
 have hb:=h.b
 have hr:=h.r
 have ho:=h.o
 unfold o4
 rw [hb]
 have e1:af (s.At+1)=s.At+1:=aZ (by omega) (by omega)
 rw [e1]
 have T:∀ k,0<k∧k≠2∧k≠4∧k≠20∧k≠21→Wp (dg F s k (s.At+1)) (fun r=>SI F B r∧r.At=s.At+1∧r.Row=s.Row∧r.Open=s.Open∧gV r.L k):=
  fun k hk=>jc h hn k (s.At+1) (by omega) (by omega) (by omega) (fun _=>hc) (by omega)
 refine az ?_ ?_<;>intro hy
 ·refine aC (ba hy ?_)
  intro c _
  refine aC ?_
  refine Wp.mono (P:=fun r=>(∃ q,r= .inl q∧SI F B q∧s.At<q.At)∨r= .inr (false,s)) ?_ ?_
  ·have up:∀ r:aL,SI F B r∧r.At=s.At+1∧r.Row=s.Row∧r.Open=s.Open∧gV r.L 0→True:=fun _ _=>trivial
   refine az ?_ ?_<;>intro _
   ·refine aC ((T 8 (by omega)).mono ?_)
    rintro r ⟨r1,j,I,J,_⟩
    rw [aZ (by omega) (by omega)]
    exact wpS (.inl ⟨_,rfl,r1.re _ _ _ _ (by omega),by dsimp only;omega⟩)
   refine az ?_ ?_<;>intro _
   ·refine aC ((T 9 (by omega)).mono ?_)
    rintro r ⟨r1,j,I,J,_⟩
    rw [aZ (by omega) (by omega)]
    exact wpS (.inl ⟨_,rfl,r1.re _ _ _ _ (by omega),by dsimp only;omega⟩)
   refine az ?_ ?_<;>intro _
   ·refine aC ((T 10 (by omega)).mono ?_)
    rintro r ⟨r1,j,I,J,_⟩
    rw [aZ (by omega) (by omega)]
    exact wpS (.inl ⟨_,rfl,r1.re _ _ _ _ (by unfold imax;split<;>omega),by dsimp only;omega⟩)
   refine az ?_ ?_<;>intro _
   ·refine aC ((T 11 (by omega)).mono ?_)
    rintro r ⟨r1,j,I,J,_⟩
    rw [aZ (by omega) (by omega)]
    exact wpS (.inl ⟨_,rfl,r1.re _ _ _ _ (by unfold imax;split<;>omega),by dsimp only;omega⟩)
   refine az ?_ ?_<;>intro _
   ·refine az ?_ ?_<;>intro _
    ·refine aC ((T 7 (by omega)).mono ?_)
     rintro r ⟨r1,j,I,J,_⟩
     exact wpS (.inl ⟨_,rfl,r1,by omega⟩)
    ·exact wpS (.inr rfl)
   ·exact wpS (.inr rfl)
  ·rintro r (⟨q,rfl,U,aa⟩ | rfl)
   ·exact wpS (.inl ⟨rfl,U,aa⟩)
   ·exact wpS (.inr ⟨rfl,rfl⟩)
 ·omega
end
section
open Go Am Sy
theorem x7 (F:Nat) (B:List UInt8) (s:aL) (h:SI F B s) (hx:s.At<B.length) (hn:B.length≤20000) (hF:B.length+10<F)
  (U:Wp (correctorref2_Break F B s.At) (fun b=>b=0)):Wp (oN F s) (fun r=>SI F B r∧s.At<r.At):=by
 have hb:=h.b
 have hr:=h.r
 have hc:=h.kc hx U
 have e1:af (s.At+1)=s.At+1:=aZ (by omega) (by omega)
 have T:∀ k to,0<k∧k≠2∧k≠4∧k≠20∧k≠21→s.At<to→to≤B.length→Wp (dg F s k to) (fun r=>Wp (some r) (fun r=>SI F B r∧s.At<r.At)):=
  fun k to hk h1 h2=>(jc h hn k to h1 h2 (by omega) (fun _=>hc) (by omega)).mono (fun r hr=>wpS ⟨hr.1,by omega⟩)
 have RE:Wp (fT F s s.At) (fun e=>s.At<e∧e≤B.length):=by
  have:=rf F s s.At (by rw [hb];omega) (by rw [hb];exact hn) (by rw [hb];omega)
  rw [hb] at this
  refine this.mono ?_
  rintro e ⟨J,I,j⟩
  refine ⟨?_,I⟩
  rcases j with j | ⟨b',j,aa⟩
  ·omega
  ·by_cases hh:e=s.At
   ·obtain ⟨b,ab,an⟩:=U
    rw [hh,ab] at j;injection j;omega
   ·omega
 unfold oN
 rw [hb,e1]
 refine az ?_ ?_<;>intro hy
 ·refine aC (ba hy ?_)
  intro c _
  refine az ?_ ?_<;>intro hz
  ·refine aC ((pW F _ (by simp;omega) (by omega)).mono ?_)
   intro rn _
   refine aC ((u1 F s (s.At+1) false (by rw [hb];omega) (by rw [hb];exact hn) (by rw [hb];omega)).mono ?_)
   rintro nm ⟨ao,ad⟩
   rw [hb] at ad
   refine aC ?_
   refine Wp.mono (P:=fun _=>True) ?_ ?_
   ·(repeat' (first | with_reducible refine aC ?_ | (with_reducible refine az ?_ ?_<;>intro _) | (with_reducible refine ba (by assumption) ?_;intro _ _) | with_reducible refine wpS ?_ | (with_reducible refine cm ?_;omega) | dsimp only))
    refine (sh _ _ _ (by omega) (by rw [hb];exact hn)).mono ?_
    intro r _
    (repeat' (first | with_reducible refine aC ?_ | (with_reducible refine az ?_ ?_<;>intro _) | (with_reducible refine ba (by assumption) ?_;intro _ _) | with_reducible refine wpS ?_ | (with_reducible refine cm ?_;omega) | dsimp only))
   intro f1 _
   refine az ?_ ?_<;>intro _
   ·exact aC (T 5 _ (by omega) (by omega) (by omega))
   refine aC ((vl F s s.At (by omega) (by rw [hb];exact hn)).mono ?_)
   intro f2 _
   refine az ?_ ?_<;>intro _
   ·exact aC (T 6 _ (by omega) (by omega) (by omega))
   refine aC ?_
   refine Wp.mono (P:=fun r=>True) ?_ ?_
   ·(repeat' (first | with_reducible refine aC ?_ | (with_reducible refine az ?_ ?_<;>intro _) | (with_reducible refine ba (by assumption) ?_;intro _ _) | with_reducible refine wpS ?_ | (with_reducible refine cm ?_;omega) | dsimp only))
   intro f3 _
   refine az ?_ ?_<;>intro _
   ·exact aC (T 12 _ (by omega) (by omega) (by omega))
   refine aC ?_
   refine Wp.mono (P:=fun r=>True) ?_ ?_
   ·(repeat' (first | with_reducible refine aC ?_ | (with_reducible refine az ?_ ?_<;>intro _) | (with_reducible refine ba (by assumption) ?_;intro _ _) | with_reducible refine wpS ?_ | (with_reducible refine cm ?_;omega) | dsimp only))
   intro f4 _
   refine az ?_ ?_<;>intro _
   ·exact aC (T 13 _ (by omega) (by omega) (by omega))
   refine az ?_ ?_<;>intro _
   ·refine aC ((u1 F s (s.At+1) true (by rw [hb];omega) (by rw [hb];exact hn) (by rw [hb];omega)).mono ?_)
    rintro aq ⟨ar,ae⟩
    rw [hb] at ae
    exact aC (T 14 _ (by omega) (by omega) (by omega))
   refine az ?_ ?_<;>intro _
   ·refine aC (RE.mono ?_)
    rintro e ⟨J,I⟩
    refine aC ((Ej F s (s.At+1) e (by rw [hb];omega) (by rw [hb];exact hn) (by rw [hb];omega)).mono ?_)
    rintro e' ⟨j,aa⟩
    exact aC (T 16 _ (by omega) (by omega) (by omega))
   refine az ?_ ?_<;>intro _
   ·obtain ⟨e,he,J,I⟩:=RE
    refine aC (wpE he ?_)
    refine aC ((D3 F s (s.At+1) e (by rw [hb];omega) (by rw [hb];exact hn) (by rw [hb];omega)).mono ?_)
    intro e' j
    refine aC (wpE he ?_)
    exact aC (T 17 _ (by omega) (by unfold dR;split<;>omega) (by unfold dR;split<;>omega))
   have HD:=xB F s (by rw [hb];omega) (by rw [hb];exact hn) (by rw [hb];omega)
   obtain ⟨hd,hh,J,I⟩:=HD
   rw [hb] at I
   refine aC (wpE hh ?_)
   refine az ?_ ?_<;>intro eN
   ·have fin:∀ t:Int,Wp ((iB F (⟨B,s.At,s.Row,s.Open,s.cj,s.cH,t,s.L⟩:aL)).bind fun ag=>
      (dg F (⟨B,s.At,s.Row,s.Open,s.cj,s.cH,t,s.L⟩:aL) 18 (af (s.At+ag))).bind fun ah=>some ah) (fun r=>SI F B r∧s.At<r.At):=by
     intro t
     have hs:iB F (⟨B,s.At,s.Row,s.Open,s.cj,s.cH,t,s.L⟩:aL)=iB F s:=by
      have ai:∀ m x y,g7 F (⟨B,s.At,s.Row,s.Open,s.cj,s.cH,t,s.L⟩:aL) m x y=g7 F s m x y:=by
       intro m
       induction m with
       | zero=>intro x y;rfl
       | succ m ih=>
        intro x y
        rw [g7,g7]
        simp only [ih,hb]
      unfold iB
      simp only [ai,hb,iN]
     rw [hs]
     refine aC (wpE hh ?_)
     rw [aZ (by omega) (by omega)]
     have h':SI F B (⟨B,s.At,s.Row,s.Open,s.cj,s.cH,t,s.L⟩:aL):=by
      have:=h.re s.Open s.cj t s.cH h.o
      rw [hb] at this;exact this
     refine aC ((jc h' hn 18 (s.At+hd) (by dsimp only;omega) (by omega) (by omega) (fun _=>hc) (by omega)).mono ?_)
     rintro r ⟨r1,au,_⟩
     exact wpS ⟨r1,by omega⟩
    refine aC ?_
    refine az ?_ ?_<;>intro _
    ·exact wpS (fin _)
    ·exact wpS (fin _)
   refine az ?_ ?_<;>intro _
   ·exact aC (T 22 _ (by omega) (by omega) (by omega))
   ·have:=Ai F s (by rw [hb];omega) (by rw [hb];exact hn) (by rw [hb];omega)
    rw [hb] at this
    refine aC (this.mono ?_)
    rintro e ⟨aj,ak⟩
    exact aC (T 15 _ (by omega) aj ak)
  ·omega
 ·omega
theorem BE (F:Nat) (B:List UInt8) (hn:B.length≤20000) (hF:B.length+10<F):∀ (m:Nat) (s:aL),SI F B s→B.length - s.At<m→
  Wp (correctorref6_Tokens_l0 F B m s) (fun r=>SI F B r∧r.At=B.length):=by
 intro m
 induction m with
 | zero=>intro s h1 h2;have:=h1.r;omega
 | succ m ih=>
  intro s h1 h2
  have hb:=h1.b
  have hr:=h1.r
  rw [correctorref6_Tokens_l0]
  refine az ?_ ?_<;>intro hx
  ·refine aC ?_
   refine Wp.mono (P:=fun r=>r.1=s∧(0<r.2→s.At=s.Row∧(r.2=20∨r.2=21)∧s.At+3≤B.length)) ?_ ?_
   ·refine az ?_ ?_<;>intro ti
    ·refine aC ((we F s s.At (by rw [hb];omega) (by rw [hb];exact hn)).mono ?_)
     intro k hk
     rw [hb] at hk
     exact wpS ⟨rfl,fun hp=>⟨ti,by dsimp only at hp;dsimp only;omega,by dsimp only at hp;omega⟩⟩
    ·exact wpS ⟨rfl,fun hp=>by dsimp only at hp;omega⟩
   rintro ⟨s',k⟩ ⟨U,aa⟩
   dsimp only at U aa ⊢
   subst U
   refine az ?_ ?_<;>intro hk
   ·obtain ⟨ab,ag,ad⟩:=aa hk
    rw [aZ (by omega) (by omega)]
    refine aC ((jc h1 hn k (s'.At+3) (by omega) ad (fun _=>ab) (fun _=>(h1.w ab).kc) (by omega)).mono ?_)
    rintro r ⟨r1,ae,ah,ai,_⟩
    have ho:=h1.o
    exact ih _ (r1.re _ _ _ _ (by omega)) (by dsimp only;omega)
   ·refine aC ((y0 F B s' h1 hx hn hF).mono ?_)
    rintro ⟨f,s1⟩ (⟨j,I,J⟩ | ⟨j,I,J⟩)
    ·dsimp only at j I J ⊢
     rw [if_pos j]
     exact ih _ I (by omega)
    ·dsimp only at j I J ⊢
     subst j I
     rw [if_neg (by decide)]
     refine aC ((F1 F B s1 h1 hx hn (h1.kc hx J)).mono ?_)
     rintro ⟨f,s2⟩ (⟨j,I,af⟩ | ⟨j,I⟩)
     ·dsimp only at j I af ⊢
      rw [if_pos j]
      exact ih _ I (by omega)
     ·dsimp only at j I ⊢
      subst j I
      rw [if_neg (by decide)]
      refine aC ((x7 F B s2 h1 hx hn hF J).mono ?_)
      rintro r ⟨r1,ae⟩
      exact ih _ r1 (by omega)
  ·exact wpS ⟨h1,by omega⟩
theorem BN (F:Nat) (B:List UInt8) (hn:B.length≤16384) (hF:B.length+10<F):Wp (oR F B) (fun l=>Tk B.length l B.length):=by
 unfold oR
 refine az ?_ ?_<;>intro hx
 ·omega
 ·refine aC (wpS ?_)
  have h0:SI F B (⟨B,0,0,0,(-1),true,(-2),[]⟩:aL):=
   ⟨rfl,by dsimp only;omega,by dsimp only;omega, .nil,fun _=> .inl rfl,fun q=>absurd q (Ends.kc (.inl rfl))⟩
  refine aC ((BE F B (by omega) hF F _ h0 (by dsimp only;omega)).mono ?_)
  rintro r ⟨r1,j⟩
  refine wpS ?_
  have:=r1.t
  rw [j] at this;exact this
end
section
open Go Am Sy
theorem CY {α:Type} (p c s:List α) (x:α):(p++c++x::s)[((p.length:Int)+(c.length:Int)).toNat]?=some x:=by
 have:((p.length:Int)+(c.length:Int)).toNat=(p++c).length:=by simp;omega
 rw [this];simp
theorem Ca {α:Type} (p c s:List α) (x:α):(0:Int)≤(p.length:Int)+(c.length:Int)∧(p.length:Int)+(c.length:Int)<((p++c++x::s).length:Int):=by simp;omega
def g5 (k:Int):Bool:=k == 1 || k == 19
def e6 (k o:Int):Int:=if k=8∨k=9 then o+1 else if k=10∨k=11 then (if 0>o - 1 then 0 else o - 1) else if k=20∨k=21 then 0 else o
theorem pG {k o n:Int} (h:0≤o∧o≤n):0≤e6 k o∧e6 k o≤n+1:=by
 unfold e6
 repeat' split
 all_goals omega
def fc (c:List al):Option al:=c.find? (fun t=>jQ t.Kind)
def hd (c:List al):Int:=match c with | []=>0 | t::_=>t.ah
def hk (c:List al):Int:=match c with | []=>0 | t::_=>t.Kind
def gj (c:List al):Int:=match fc c with | some t=>t.ah - hd c | none=> -1
def k0 (c:List al):Int:=match fc c with | some t=>if t.Kind=20∨t.Kind=21 then 4 else 5 | none=>1
def kR (c:List al) (o:Int):Int:=if hk c=19 then 2 else if 0<o then (if k0 c=4 then k0 c else 3) else k0 c
def goR (K:List al→Int→Int):Int→List al→Int→Int→List al→List av
 | f,c,o,n,[]=>if c=[] then [] else [⟨K c o,f,f+c.length,gj c⟩]
 | f,c,o,n,t::s=>if g5 t.Kind=true then ⟨K (c++[t]) o,f,f+(c++[t]).length,gj (c++[t])⟩::goR K (f+(c++[t]).length) [] (e6 t.Kind n) (e6 t.Kind n) s
   else goR K f (c++[t]) o (e6 t.Kind n) s
def qa (l:List al):Prop:=∀ t∈l,0≤t.ah∧t.ah≤20000
def span:List al→Int→List al→List al×Int×List al
 | c,n,[]=>(c,n,[])
 | c,n,t::s=>if g5 t.Kind=true then (c++[t],e6 t.Kind n,s) else span (c++[t]) (e6 t.Kind n) s
theorem C3 (K:List al→Int→Int):∀ (s c:List al) (f o n:Int),¬(c=[]∧s=[])→
  goR K f c o n s=⟨K (span c n s).1 o,f,f+(span c n s).1.length,gj (span c n s).1⟩::goR K (f+(span c n s).1.length) [] (span c n s).2.1 (span c n s).2.1 (span c n s).2.2:=by
 intro s
 induction s with
 | nil=>intro c f o n h;rw [goR,if_neg (by simpa using h)];rfl
 | cons t s ih=>
  intro c f o n h
  rw [goR,span]
  by_cases hk:g5 t.Kind=true
  ·rw [if_pos hk,if_pos hk]
  ·rw [if_neg hk,if_neg hk]
   exact ih _ _ _ _ (by simp)
theorem Av:∀ (s c:List al) (n:Int),c++s=(span c n s).1++(span c n s).2.2∧c.length≤(span c n s).1.length∧(s≠[]→c.length<(span c n s).1.length)∧(0≤n∧n≤c.length→0≤(span c n s).2.1):=by
 intro s
 induction s with
 | nil=>intro c n;simp [span];omega
 | cons t s ih=>
  intro c n
  rw [span]
  by_cases hk:g5 t.Kind=true
  ·rw [if_pos hk]
   refine ⟨by simp,by simp,fun _=>by simp,fun h=>(pG h).1⟩
  ·rw [if_neg hk]
   obtain ⟨h1,h2,I,j⟩:=ih (c++[t]) (e6 t.Kind n)
   refine ⟨by rw [← h1];simp,by simp at h2;omega,fun _=>by simp at h2;omega,fun h=>j (by have:=pG (k:=t.Kind) h;simp;omega)⟩
theorem FO:∀ (s c:List al) (n p:Int),0≤n∧n≤p+c.length→0≤(span c n s).2.1∧(span c n s).2.1≤p+(span c n s).1.length:=by
 intro s
 induction s with
 | nil=>intro c n p h;simpa [span] using h
 | cons t s ih=>
  intro c n p h
  rw [span]
  have:=pG (k:=t.Kind) h
  by_cases hk:g5 t.Kind=true
  ·rw [if_pos hk];simp;omega
  ·rw [if_neg hk]
   exact ih (c++[t]) (e6 t.Kind n) p (by simp;omega)
def j8 (l:List al):Prop:=l.Pairwise (fun a b=>a.ah≤b.ah)
theorem CN {c:List al} {u:al} (h:fc c=some u) (hs:j8 c):0≤gj c:=by
 unfold gj
 rw [h]
 dsimp only
 cases c with
 | nil=>cases h
 | cons t c=>
  have:u∈t::c:=List.mem_of_find?_eq_some h
  rcases List.mem_cons.1 this with rfl | h1
  ·simp [hd]
  ·have:=(List.pairwise_cons.1 hs).1 u h1
   simp only [hd];omega
theorem qw {c:List al} (h:fc c=none):gj c= -1:=by unfold gj;rw [h]
theorem uO {c:List al} (t:al):hd (c++[t])=(match c with | []=>t.ah | u::_=>u.ah):=by cases c<;>rfl
theorem BG (F:Nat) (l:List al) (hs:qa l) (ho:j8 l) (hn:l.length≤20000) (out:List av) (begun:Bool):∀ (s p c:List al) (m:Nat) (n:Int) (r:av),
  l=p++c++s→s.length<m→0≤n∧n≤(p.length:Int)+(c.length:Int)→r.ah=p.length→r.Kind=k0 c→r.aI=gj c→
  Wp (correctorref9_Rows_l1 F l m out n ((p.length:Int)+(c.length:Int)) r begun) (fun z=>z.1=out∧z.2.1=(span c n s).2.1∧z.2.2.1=(p.length:Int)+((span c n s).1.length:Int)∧z.2.2.2.1.ah=p.length∧z.2.2.2.1.Kind=k0 (span c n s).1∧z.2.2.2.1.aI=gj (span c n s).1∧z.2.2.2.2=begun):=by
 intro s
 induction s with
 | nil=>
  intro p c m n r h1 h2 aj j U J
  obtain ⟨m,rfl⟩:∃ k,m=k+1:=⟨m - 1,by omega⟩
  have hl:l.length=p.length+c.length:=by rw [h1];simp
  rw [correctorref9_Rows_l1,if_neg (by omega)]
  exact wpS ⟨rfl,rfl,rfl,j,U,J,rfl⟩
 | cons t s ih=>
  intro p c m n r h1 h2 aj j U J
  obtain ⟨m,rfl⟩:∃ k,m=k+1:=⟨m - 1,by omega⟩
  simp only [List.length_cons] at h2
  have hl:l.length=p.length+c.length+s.length+1:=by rw [h1];simp;omega
  have e1:=Ca p c s t
  have ak:=CY p c s t
  rw [← h1] at e1 ak
  have EE:t∈l:=by rw [h1];simp
  have DH:j8 c:=by
   have:j8 l:=ho
   rw [h1] at this
   exact (List.pairwise_append.1 (List.pairwise_append.1 this).1).2.1
  rw [correctorref9_Rows_l1]
  simp only [if_pos e1.2,if_pos e1,ak,ax]
  refine aC ?_
  refine Wp.mono (P:=fun z:List av×av=>z.1=out∧z.2.ah=(p.length:Int)∧z.2.Kind=k0 (c++[t])∧z.2.aI=gj (c++[t])) ?_ ?_
  ·rcases hf:fc c with _ | u
   ·rw [if_pos (by rw [J,qw hf];omega),tq]
    simp only [ax]
    by_cases hk:jQ t.Kind=true
    ·rw [if_pos hk]
     have hg:(l[r.ah.toNat]?).map (·.ah)=some (hd (c++[t])):=by
      rw [j,h1,uO]
      cases c with
      | nil=>simp
      | cons u c=>simp
     rw [if_pos (by rw [j];omega)]
     obtain ⟨u,hu⟩:∃ u,l[r.ah.toNat]?=some u:=⟨l[r.ah.toNat]'(by rw [j];omega),by simp⟩
     rw [hu] at hg ⊢
     simp only [Option.map_some] at hg
     injection hg with hg
     have FJ:u∈l:=au hu
     have:=hs u FJ
     have:=hs t EE
     have I:fc (c++[t])=some t:=by
      unfold fc at hf ⊢
      rw [List.find?_append,hf];simp [hk]
     simp only [ax]
     rw [aZ (by omega) (by omega)]
     unfold k0 gj
     rw [I]
     dsimp only
     rw [← hg]
     by_cases ai:t.Kind=20
     ·simp only [ai,if_true];exact wpS ⟨rfl,j,by simp,rfl⟩
     ·by_cases an:t.Kind=21
      ·simp only [ai,an,if_true,if_false];exact wpS ⟨rfl,j,by simp,rfl⟩
      ·simp only [ai,an,if_false];exact wpS ⟨rfl,j,by simp,rfl⟩
    ·rw [if_neg hk]
     have I:fc (c++[t])=none:=by
      unfold fc at hf ⊢
      rw [List.find?_append,hf];simp [hk]
     refine wpS ⟨rfl,j,?_,?_⟩
     ·rw [U];unfold k0;rw [hf,I]
     ·rw [J,qw hf,qw I]
   ·have:=CN hf DH
    rw [if_neg (by rw [J];omega)]
    have I:fc (c++[t])=some u:=by
     unfold fc at hf ⊢
     rw [List.find?_append,hf];rfl
    refine wpS ⟨rfl,j,?_,?_⟩
    ·rw [U];unfold k0;rw [hf,I]
    ·rw [J];unfold gj;rw [hf,I]
     dsimp only
     rw [uO]
     cases c with
     | nil=>cases hf
     | cons v c=>rfl
  ·rintro ⟨ES,r'⟩ ⟨ao,aa,ab,ad⟩
   dsimp only at ao aa ab ad ⊢
   subst ao
   refine aC ?_
   refine Wp.mono (P:=fun z:List av×Int×av=>z=(ES,e6 t.Kind n,r')) ?_ ?_
   ·have w1:af (n+1)=n+1:=aZ (by omega) (by omega)
    have w2:af (n - 1)=n - 1:=aZ (by omega) (by omega)
    rw [w1,w2]
    unfold e6
    by_cases aq:t.Kind=8
    ·simp only [aq];exact ⟨_,rfl,rfl⟩
    by_cases ar:t.Kind=9
    ·simp only [ar];exact ⟨_,rfl,rfl⟩
    by_cases aw:t.Kind=10
    ·simp only [aw];exact ⟨_,rfl,rfl⟩
    by_cases ay:t.Kind=11
    ·simp only [ay];exact ⟨_,rfl,rfl⟩
    by_cases az:t.Kind=20
    ·simp only [az];exact ⟨_,rfl,rfl⟩
    by_cases aA:t.Kind=21
    ·simp only [aA];exact ⟨_,rfl,rfl⟩
    simp only [aq,ar,aw,ay,az,aA,if_false,ax,or_self]
    exact ⟨_,rfl,rfl⟩
   ·rintro _ rfl
    dsimp only
    have dY:l=p++(c++[t])++s:=by rw [h1];simp
    have ew:af ((p.length:Int)+(c.length:Int)+1)=(p.length:Int)+((c++[t]).length:Int):=by rw [aZ (by omega) (by omega)];simp;omega
    rw [ew]
    by_cases ae:t.Kind=1
    ·rw [if_pos ae,span,if_pos (by simp [g5,ae])]
     exact wpS ⟨rfl,rfl,rfl,aa,ab,ad,rfl⟩
    ·rw [if_neg ae]
     by_cases ag:t.Kind=19
     ·rw [if_pos ag,span,if_pos (by simp [g5,ag])]
      exact wpS ⟨rfl,rfl,rfl,aa,ab,ad,rfl⟩
     ·rw [if_neg ag,span,if_neg (by simp [g5,ae,ag])]
      exact ih p (c++[t]) m _ r' dY (by omega) (by have:=pG (k:=t.Kind) aj;simp;omega) aa ab ad
theorem x3 (F:Nat) (l:List al) (hs:qa l) (ho:j8 l) (hn:l.length≤20000) (hF:l.length+10<F):∀ (m:Nat) (s p:List al) (n:Int) (out:List av),
  l=p++s→s.length<m→0≤n∧n≤(p.length:Int)→out.length≤p.length→
  correctorref9_Rows_l0 F l m out n p.length=some (out++goR kR p.length [] n n s):=by
 intro m
 induction m with
 | zero=>intro s p n out h1 h2;omega
 | succ m ih=>
  intro s p n out h1 h2 U aq
  have hl:l.length=p.length+s.length:=by rw [h1];simp
  rw [correctorref9_Rows_l0]
  by_cases p3:s=[]
  ·subst p3
   simp only [List.length_nil,Nat.add_zero] at hl
   rw [if_neg (by omega)]
   simp [goR]
  ·have hp:0<s.length:=List.length_pos_iff.2 p3
   rw [if_pos (by omega)]
   have xm:((if (0:Int)<n then some (out,(⟨1,(p.length:Int),0,(-1)⟩:av),true) else some (out,(⟨1,(p.length:Int),0,(-1)⟩:av),false)):Option ((List av)×av×Bool))=some (out,(⟨1,(p.length:Int),0,(-1)⟩:av),decide (0<n)):=by
    by_cases h:0<n
    ·rw [if_pos h,decide_eq_true h]
    ·rw [if_neg h,decide_eq_false h]
   rw [xm]
   simp only [ax]
   obtain ⟨⟨o',n',i',r',b'⟩,g0,aa,ab,ad,j,ae,af,ag⟩:=BG F l hs ho hn out (decide (0<n)) s p [] F n ⟨1,(p.length:Int),0,(-1)⟩ (by rw [h1];simp) (by omega) (by simpa using U) rfl rfl rfl
   dsimp only at aa ab ad j ae af ag
   simp only [List.length_nil,Int.add_zero,show ((0:Nat):Int)=0 from rfl] at g0
   rw [g0]
   simp only [ax]
   subst aa ab ad ag
   obtain ⟨a1,ak,ai,_⟩:=Av s [] n
   have an:=FO s [] n p.length (by simpa using U)
   have ao:0<(span [] n s).1.length:=by have:=ai p3;simpa using this
   clear ai ak
   rw [C3 kR s [] _ _ _ (by simp [p3])]
   generalize span [] n s=z at *
   obtain ⟨c,n',s'⟩:=z
   dsimp only at *
   simp only [List.nil_append] at a1
   subst a1
   obtain ⟨t,c',rfl⟩:∃ t c',c=t::c':=by
    cases c with
    | nil=>simp at ao
    | cons t c'=>exact ⟨t,c',rfl⟩
   have hg:l[r'.ah.toNat]?=some t:=by rw [j,h1];simp
   rw [if_pos (by rw [j];omega),hg]
   simp only [ax]
   have kC:((if t.Kind=(19:Int) then
        some (o',(⟨2,r'.ah,(p.length:Int)+((t::c').length:Int),r'.aI⟩:av))
       else
        if (decide (0<n))=true then
         if r'.Kind=(4:Int) then
          some (o',(⟨r'.Kind,r'.ah,(p.length:Int)+((t::c').length:Int),r'.aI⟩:av))
         else
          some (o',(⟨3,r'.ah,(p.length:Int)+((t::c').length:Int),r'.aI⟩:av))
        else
         some (o',(⟨r'.Kind,r'.ah,(p.length:Int)+((t::c').length:Int),r'.aI⟩:av))):Option ((List av)×av))
     =some (o',⟨kR (t::c') n,(p.length:Int),(p.length:Int)+((t::c').length:Int),gj (t::c')⟩):=by
    rw [j,ae,af]
    unfold kR hk
    dsimp only
    by_cases I:t.Kind=19
    ·simp [I]
    ·by_cases J:0<n
     ·by_cases aj:k0 (t::c')=4
      ·simp [I,J,aj]
      ·simp [I,J,aj]
     ·simp [I,J]
   rw [kC]
   simp only [ax]
   rw [if_pos (by simp;omega)]
   have:=ih s' (p++t::c') n' (o'++[⟨kR (t::c') n,(p.length:Int),(p.length:Int)+((t::c').length:Int),gj (t::c')⟩]) (by rw [h1];simp) (by simp at h2;omega) (by simp at an ⊢;omega) (by simp;omega)
   have ep:((p++t::c').length:Int)=(p.length:Int)+((t::c').length:Int):=by simp
   rw [ep] at this
   rw [this];simp
theorem DG (F:Nat) (l:List al) (hs:qa l) (ho:j8 l) (hn:l.length≤20000) (hF:l.length+10<F):l8 F l=some (goR kR 0 [] 0 0 l):=by
 unfold l8
 have:=x3 F l hs ho hn hF F l [] 0 [] rfl (by omega) (by simp) (by simp)
 simp only [List.length_nil,show ((0:Nat):Int)=0 from rfl] at this
 rw [this];simp
theorem Tk.zL {n:Int} {l:List al} {a:Int} (h:Tk n l a):(∀ t∈l,0≤t.ah∧t.ah<a)∧l.Pairwise (fun a b=>a.ah<b.ah)∧0≤a:=by
 induction h with
 | nil=>simp
 | @snoc l n1 k to h1 h2 j I J U ih=>
  obtain ⟨i1,i2,i3⟩:=ih
  refine ⟨?_,?_,by omega⟩
  ·intro t ht
   rcases List.mem_append.1 ht with ht | ht
   ·have:=i1 t ht;omega
   ·simp at ht;subst ht;dsimp only;omega
  ·rw [List.pairwise_append]
   refine ⟨i2,by simp,?_⟩
   intro x hx y hy
   simp at hy;subst hy
   exact (i1 x hx).2
theorem AE (K:List al→Int→Int) {l:List al}:∀ (s p c:List al) (o n:Int),l=p++c++s→∀ r∈goR K p.length c o n s,0≤r.ah∧r.ah<r.To∧r.To≤l.length:=by
 intro s
 induction s with
 | nil=>
  intro p c o n h r hr
  rw [goR] at hr
  by_cases hc:c=[]
  ·rw [if_pos hc] at hr;cases hr
  ·have:=List.length_pos_iff.2 hc
   rw [if_neg hc] at hr
   simp at hr
   subst hr
   rw [h]
   dsimp only
   simp
   omega
 | cons t s ih=>
  intro p c o n h r hr
  rw [goR] at hr
  by_cases hk:g5 t.Kind=true
  ·rw [if_pos hk] at hr
   rcases List.mem_cons.1 hr with rfl | hr
   ·rw [h];simp;omega
   ·have e:(p.length:Int)+((c++[t]).length:Int)=((p++(c++[t])).length:Int):=by simp
    rw [e] at hr
    exact ih (p++(c++[t])) [] _ _ (by rw [h];simp) r hr
  ·rw [if_neg hk] at hr
   exact ih p (c++[t]) _ _ (by rw [h];simp) r hr
theorem Dd (K:List al→Int→Int):∀ (s c:List al) (f o n:Int),(goR K f c o n s).length≤c.length+s.length:=by
 intro s
 induction s with
 | nil=>
  intro c f o n
  rw [goR]
  by_cases h:c=[]
  ·simp [h]
  ·have:=List.length_pos_iff.2 h
   rw [if_neg h];simp;omega
 | cons t s ih=>
  intro c f o n
  rw [goR]
  by_cases h:g5 t.Kind=true
  ·rw [if_pos h]
   have:=ih [] (f+((c++[t]).length:Int)) (e6 t.Kind n) (e6 t.Kind n)
   simp at this ⊢;omega
  ·rw [if_neg h]
   have:=ih (c++[t]) f o (e6 t.Kind n)
   simp at this ⊢;omega
theorem Tk.kinds {n:Int} {l:List al} {a:Int} (h:Tk n l a):∀ t∈l,0<t.Kind:=by
 induction h with
 | nil=>simp
 | @snoc l n1 k to h1 h2 I J U j ih=>
  intro t ht
  rcases List.mem_append.1 ht with ht | ht
  ·exact ih t ht
  ·simp at ht;subst ht;exact j
theorem xL (k:Int):jQ k=cn k:=by
 unfold jQ cn
 by_cases h1:k=1
 ·simp [h1]
 by_cases h2:k=2
 ·simp [h2]
 by_cases j:k=3
 ·simp [j]
 by_cases I:k=4
 ·simp [I]
 simp [h1,h2,j,I]
theorem xT (K:List al→Int→Int):∀ (s c:List al) (f o n:Int),¬ (c=[]∧s=[])→∃ r∈goR K f c o n s,r.To=f+c.length+s.length:=by
 intro s
 induction s with
 | nil=>
  intro c f o n h
  rw [goR,if_neg (by simpa using h)]
  exact ⟨_,List.mem_singleton.2 rfl,by simp⟩
 | cons t s ih=>
  intro c f o n h
  rw [goR]
  by_cases hk:g5 t.Kind=true
  ·rw [if_pos hk]
   by_cases hs:s=[]
   ·subst hs
    exact ⟨_,List.mem_cons_self,by simp;omega⟩
   ·obtain ⟨r,r1,j⟩:=ih [] (f+(c++[t]).length) (e6 t.Kind n) (e6 t.Kind n) (by simpa using hs)
    exact ⟨r,List.mem_cons_of_mem _ r1,by rw [j];simp;omega⟩
  ·rw [if_neg hk]
   obtain ⟨r,r1,j⟩:=ih (c++[t]) f o (e6 t.Kind n) (by simp)
   exact ⟨r,r1,by rw [j];simp;omega⟩
theorem AZ {c:List al} {o:Int} (h:kR c o=4∨kR c o=5):∃ t∈c,cn t.Kind=true:=by
 have hk:k0 c=4∨k0 c=5:=by
  unfold kR at h
  split at h
  ·omega
  ·split at h
   ·split at h<;>omega
   ·exact h
 unfold k0 at hk
 cases hf:fc c with
 | none=>rw [hf] at hk;simp at hk
 | some t=>
  refine ⟨t,List.mem_of_find?_eq_some hf,?_⟩
  have:=List.find?_some hf
  rw [← xL];simpa using this
theorem vF {l p c s:List al} {o:Int} (h:l=p++c++s) (hk:kR c o=4∨kR c o=5):∃ (i:Int) (t:al),(p.length:Int)≤i∧i<(p.length:Int)+c.length∧l[i.toNat]?=some t∧cn t.Kind=true:=by
 obtain ⟨t,h1,h2⟩:=AZ hk
 obtain ⟨j,hj⟩:=List.getElem?_of_mem h1
 have q5:j<c.length:=by
  rcases Nat.lt_or_ge j c.length with q | q
  ·exact q
  ·rw [List.getElem?_eq_none q] at hj;cases hj
 refine ⟨(p.length:Int)+j,t,by omega,by omega,?_,h2⟩
 have:((p.length:Int)+j).toNat=p.length+j:=by omega
 rw [this,h,List.append_assoc,List.getElem?_append_right (by omega),Nat.add_sub_cancel_left,List.getElem?_append_left q5]
 exact hj
theorem yR {l:List al}:∀ (s p c:List al) (o n:Int),l=p++c++s→∀ r∈goR kR p.length c o n s,(r.Kind=4∨r.Kind=5)→∃ (i:Int) (t:al),r.ah≤i∧i<r.To∧l[i.toNat]?=some t∧cn t.Kind=true:=by
 intro s
 induction s with
 | nil=>
  intro p c o n h r hr hk
  rw [goR] at hr
  split at hr
  ·simp at hr
  ·simp at hr;subst hr
   exact vF h hk
 | cons t s ih=>
  intro p c o n h r hr hk
  rw [goR] at hr
  have h':l=p++(c++[t])++s:=by rw [h];simp
  split at hr
  ·rcases List.mem_cons.1 hr with rfl | hr
   ·exact vF h' hk
   ·have e:((p++(c++[t])).length:Int)=(p.length:Int)+(c++[t]).length:=by simp
    rw [← e] at hr
    exact ih (p++(c++[t])) [] _ _ (by rw [h'];simp) r hr hk
  ·exact ih p (c++[t]) _ _ h' r hr hk
theorem xW (K:List al→Int→Int):∀ (s c:List al) (f o n:Int),Tl f (goR K f c o n s):=by
 intro s
 induction s with
 | nil=>intro c f o n;rw [goR];split;trivial;exact ⟨rfl,trivial⟩
 | cons t s ih=>
  intro c f o n
  rw [goR]
  split
  ·exact ⟨rfl,ih _ _ _ _⟩
  ·exact ih _ _ _ _
def Tg:Int→List al→Int→Prop
 | f,[],e=>f=e
 | f,t::s,e=>t.ah=f∧f<t.To∧Tg t.To s e
theorem Tg.snoc {k:Int}:∀ {s:List al} {f e to:Int},Tg f s e→e<to→Tg f (s++[⟨k,e,to⟩]) to:=by
 intro s
 induction s with
 | nil=>intro f e to h h2;have:f=e:=h;subst this;exact ⟨rfl,h2,rfl⟩
 | cons t s ih=>rintro f e to ⟨h1,h2,j⟩ I;exact ⟨h1,h2,ih j I⟩
theorem Tk.tg {n:Int} {l:List al} {a:Int} (h:Tk n l a):Tg 0 l a:=by
 induction h with
 | nil=>rfl
 | snoc k to h1 h2 j I J U ih=>exact ih.snoc h2
theorem Tg.le:∀ {s:List al} {f e:Int},Tg f s e→f+s.length≤e:=by
 intro s
 induction s with
 | nil=>intro f e h;have:f=e:=h;simp;omega
 | cons t s ih=>rintro f e ⟨h1,h2,j⟩;have:=ih j;rw [List.length_cons];omega
theorem Tg.drop:∀ {s:List al} {f e:Int} (i:Nat),Tg f s e→i≤s.length→∃ f',f+i≤f'∧Tg f' (s.drop i) e:=by
 intro s
 induction s with
 | nil=>intro f e i h hi;exact ⟨f,by simp at hi;omega,by simpa using h⟩
 | cons t s ih=>
  rintro f e i ⟨h1,h2,j⟩ hi
  cases i with
  | zero=>exact ⟨f,by omega,h1,h2,j⟩
  | succ i=>
   obtain ⟨f',J,I⟩:=ih i j (by simpa using hi)
   exact ⟨f',by omega,I⟩
theorem z1 (F:Nat) (hF:2500≤F) {n a:Int} {l:List al} (h:Tk n l a) (hn:n≤450) (ha:a≤n):∃ rs,l8 F l=some rs∧RO l rs:=by
 have h1:=h.zL
 have h2:=h.bounds
 have hs:qa l:=fun t ht=>by have:=h1.1 t ht;omega
 have ho:j8 l:=h1.2.1.imp (fun q=>Int.le_of_lt q)
 have hlen:l.length≤450:=by omega
 refine ⟨_,DG F l hs ho (by omega) (by omega),?_⟩
 have hr:=AE kR (l:=l) l [] [] 0 0 rfl
 have hc:=yR (l:=l) l [] [] 0 0 rfl
 have hL:=Dd kR l [] 0 0 0
 simp only [List.length_nil,Nat.zero_add] at hL
 refine ⟨hr,fun x I hx=>?_,hc,by omega,xW _ _ _ _ _ _⟩
 obtain ⟨r,r1,j⟩:=xT kR l [] 0 0 0 (fun z=>by rw [z.2] at hx;simp at hx;omega)
 obtain ⟨i,hi⟩:=List.getElem?_of_mem r1
 exact ⟨i,r,hi,by rw [j];simp;omega⟩
end
section
open Go Am Sy
theorem um {α:Type} (l:List α) (i:Int) (h:0≤i∧i≤l.length):(((l.take (l.length:Int).toNat).drop i.toNat).length:Int)=l.length - i:=by
 rw [b2,List.take_length,List.length_drop];omega
theorem CD (F:Nat) (b:List UInt8) (hn:b.length≤20000) (hF:b.length+10<F):Wp (m5 F b) (fun l=>l.length≤b.length):=by
 have key:∀ (m:Nat) (l:List Int) (x:Int),0≤x→x≤b.length→b.length - x<m→(l.length:Int)≤x→Wp (correctorref1_Bad_l0 F b m l x) (fun l=>l.length≤b.length):=by
  intro m
  induction m with
  | zero=>intro l x h1 h2 j;omega
  | succ m ih=>
   intro l x h1 h2 j U
   rw [correctorref1_Bad_l0]
   refine az (fun c=>?_) (fun c=>wpS (by omega))
   have hl:=um b x ⟨h1,h2⟩
   refine aP (by omega) (bh (pW F _ (by omega) (by omega)) ?_)
   rintro ⟨r,k⟩ ⟨I,J⟩
   simp only at I J ⊢
   have hw:af (x+k)=x+k:=aZ (by omega) (by omega)
   rw [hw]
   refine bh (Q:=fun l'=>(l'.length:Int)≤l.length+1) (az (fun _=>aP (by rw [cQ];omega) (wpS (by rw [b7,cQ];omega))) (fun _=>wpS (by omega))) ?_
   intro l' je
   exact ih l' (x+k) (by omega) (by omega) (by omega) (by omega)
 unfold m5
 exact bh (key F [] 0 (by omega) (by omega) (by omega) (by simp)) fun l hl=>wpS hl
theorem Gp (F:Nat) (s:ar) (hn:s.b.length≤20000) (hF:s.b.length+10<F):Wp (oO F s) (fun _=>True):=by
 have key:∀ (m:Nat) (o:ar) (x:Int),0≤x→x≤s.b.length+2→s.b.length+3 - x<m→(o.b.length:Int)≤x→Wp (correctorref7_single_l0 F s m o x) (fun _=>True):=by
  intro m
  induction m with
  | zero=>intro o x h1 h2 j;omega
  | succ m ih=>
   intro o x h1 h2 j U
   have hw:af (x+1)=x+1:=aZ (by omega) (by omega)
   have I:af (x+1+1)=x+2:=by rw [aZ (by omega) (by omega)];omega
   rw [correctorref7_single_l0,hw,I]
   refine az (fun c=>?_) (fun c=>wpS trivial)
   refine aP h1 (aC (ba (by omega) fun t ht=>?_))
   refine az (fun c1=>?_) (fun c1=>?_)
   ·refine az (fun c2=>wpS trivial) (fun c2=>?_)
    refine aP (by omega) (aC (ba (by omega) fun t ht=>?_))
    refine az (fun J=>?_) (fun J=>wpS trivial)
    refine aP (by rw [cQ];omega) (ih _ _ (by omega) (by omega) (by omega) (by show ((o.b++[39]).length:Int)≤_;rw [b7,cQ];omega))
   ·have hl:((s.b.take (x+1).toNat).drop x.toNat).length=1:=by rw [List.length_drop,List.length_take];omega
    refine aP (by omega) (aP (by rw [hl];omega) (ih _ _ (by omega) (by omega) (by omega) (by show ((o.b++_).length:Int)≤_;rw [b7,hl];omega)))
 unfold oO
 refine bh (key F ⟨[]⟩ 1 (by omega) (by omega) (by omega) (by simp)) ?_
 rintro (x | y) _<;>exact wpS trivial
theorem zN (F:Nat) (k:Int) (h:0≤k∧k<256):Wp (oq F k) (fun r=>r.1.b.length≤1):=by
 unfold oq
 repeat' (first | (refine az (fun _=>wpS (by simp)) (fun _=>?_)))
 refine bh (Q:=fun _=>True) ?_ ?_
 ·repeat' (first | (refine az (fun _=>wpS trivial) (fun _=>?_)) | exact wpS trivial)
 ·intro b _
  exact az (fun _=>aP h (wpS (by simp))) (fun _=>wpS (by simp))
theorem A6 (F:Nat) (k:Int):Wp (o9 F k) (fun _=>True):=by
 unfold o9
 refine bh (Q:=fun _=>True) ?_ ?_
 ·repeat' (first | (refine az (fun _=>?_) (fun _=>?_)) | exact wpS trivial)
 ·intro b _
  refine bh (Q:=fun _=>True) ?_ ?_
  ·refine az (fun _=>wpS trivial) (fun _=>?_)
   refine bh (Q:=fun _=>True) ?_ ?_
   ·repeat' (first | (refine az (fun _=>?_) (fun _=>?_)) | exact wpS trivial)
   ·intro b _
    repeat' (first | (refine az (fun _=>?_) (fun _=>?_)) | exact wpS trivial)
  ·rintro (x | y) _<;>exact wpS trivial
theorem iA (e:Int):0≤IntKind.wrap .u8 e∧IntKind.wrap .u8 e<256:=by
 have h1:IntKind.wrap .u8 e=e % 256:=by
  simp [IntKind.wrap,IntKind.bits,IntKind.signed]
 rw [h1];omega
theorem CU (F:Nat) (k:Int):Wp (nX F k) (fun l=>l.length≤4):=by
 unfold nX
 refine az (fun _=>aP (iA _) (wpS (by simp))) (fun _=>?_)
 refine az (fun _=>aP ⟨iA _,iA _⟩ (wpS (by simp))) (fun _=>?_)
 refine az (fun _=>aP ⟨iA _,iA _,iA _⟩ (wpS (by simp))) (fun _=>?_)
 exact aP ⟨iA _,iA _,iA _,iA _⟩ (wpS (by simp))
theorem AD (F:Nat) (s:ar) (hn:s.b.length≤20000) (hF:20<F):Wp (correctorref5_Escape F s) (fun r=>0≤r.2∧r.2≤10∧r.1.b.length≤4):=by
 have dO:∀ {α:Type} (x:α),(0:Int)≤0∧(0:Int)≤10∧([]:List UInt8).length≤4:=fun _=>by simp
 unfold correctorref5_Escape
 refine az (fun _=>wpS (by simp)) (fun c0=>?_)
 refine aP (by omega) (aC (ba (by omega) fun t ht=>?_))
 refine az (fun _=>?_) (fun _=>wpS (by simp))
 refine aP (by omega) (aC (ba (by omega) fun t ht=>?_))
 have ab:=t.toNat_lt
 refine bh (zN F _ (by omega)) ?_
 rintro ⟨o,b⟩ ho
 simp only at ho ⊢
 refine az (fun _=>wpS ⟨by simp,by simp,by show o.b.length≤4;omega⟩) (fun _=>?_)
 refine bh (Q:=fun x=>x=0∨x=2∨x=4∨x=8) ?_ ?_
 ·refine aP (by omega) (aC (ba (by omega) fun t ht=>?_))
  repeat' (first | (refine az (fun _=>?_) (fun _=>?_)) | exact wpS (by simp))
 intro x hx
 refine az (fun _=>wpS (by simp)) (fun cx=>?_)
 have hw:af (2+x)=2+x:=aZ (by omega) (by omega)
 rw [hw]
 refine az (fun _=>wpS (by simp)) (fun c1=>?_)
 have key:∀ (m:Nat) (v i:Int),0≤i→i≤x→x - i<m→Wp (correctorref5_Escape_l0 F s m x v i) (fun r=>match r with | .inl z=>z.1=x | .inr z=>z.2=0∧z.1.b.length≤4):=by
  intro m
  induction m with
  | zero=>intro v i h1 h2 I;omega
  | succ m ih=>
   intro v i h1 h2 I
   have J:af (2+i)=2+i:=aZ (by omega) (by omega)
   have U:af (i+1)=i+1:=aZ (by omega) (by omega)
   rw [correctorref5_Escape_l0,J,U]
   refine az (fun c=>?_) (fun c=>wpS rfl)
   refine aP (by omega) (aC (ba (by omega) fun t ht=>?_))
   refine bh (A6 F _) fun h _=>?_
   exact az (fun _=>wpS ⟨rfl,by simp⟩) (fun _=>ih _ _ (by omega) (by omega) (by omega))
 refine bh (key F 0 0 (by omega) (by omega) (by omega)) ?_
 rintro (⟨j,aa⟩ | ⟨j,aa⟩) hz
 ·simp only at hz ⊢
  subst hz
  refine bh (Q:=fun r=>match r with | .inl _=>True | .inr z=>z.2=0∧z.1.b.length≤4) ?_ ?_
  ·repeat' (first | (refine az (fun _=>?_) (fun _=>?_)) | exact wpS trivial | exact wpS ⟨rfl,by simp⟩)
  ·rintro (u | ⟨ad,ae⟩) hy
   ·refine bh (CU F _) fun l hl=>?_
    rw [hw]
    exact wpS ⟨by show 0≤2+j;omega,by show 2+j≤10;omega,hl⟩
   ·simp only at hy;obtain ⟨rfl,hy⟩:=hy;exact wpS ⟨by simp,by simp,hy⟩
 ·simp only at hz;obtain ⟨rfl,hz⟩:=hz;exact wpS ⟨by simp,by simp,hz⟩
theorem qdouble_wp (F:Nat) (s:ar) (hn:s.b.length≤20000) (hF:s.b.length+30<F):Wp (nb F s) (fun r=>(r.2.1.length:Int)≤s.b.length):=by
 have key:∀ (m:Nat) (o:ar) (l:List Int) (x:Int),1≤x→x≤s.b.length+20→s.b.length+21 - x<m→(o.b.length:Int)≤4 * x→(l.length:Int)≤x - 1→((l.length:Int)≤s.b.length)→Wp (correctorref7_double_l0 F s m o l x) (fun r=>match r with | .inl z=>(z.2.length:Int)≤s.b.length | .inr z=>(z.2.1.length:Int)≤s.b.length):=by
  intro m
  induction m with
  | zero=>intro o l x h1 h2 U;omega
  | succ m ih=>
   intro o l x h1 h2 U ah ai j
   have hw:af (x+1)=x+1:=aZ (by omega) (by omega)
   rw [correctorref7_double_l0,hw]
   refine az (fun c=>?_) (fun c=>wpS j)
   have hl:((s.b.take (x+1).toNat).drop x.toNat).length=1:=by rw [List.length_drop,List.length_take];omega
   refine aP (by omega) (aC (ba (by omega) fun t ht=>?_))
   refine az (fun _=>wpS j) (fun _=>?_)
   refine aP (by omega) (aC (ba (by omega) fun t ht=>?_))
   refine az (fun _=>?_) (fun _=>?_)
   ·have hle:=um s.b x (by omega)
    refine aP (by omega) (bh (AD F _ (by show ((s.b.take _).drop _).length≤20000;omega) (by omega)) ?_)
    rintro ⟨e,k⟩ ⟨aa,I,J⟩
    simp only at aa I J ⊢
    refine bh (Q:=fun z=>(z.1.length:Int)≤l.length+1∧z.2.1.b.length≤4∧1≤z.2.2∧z.2.2≤10) ?_ ?_
    ·refine az (fun _=>?_) (fun _=>wpS ⟨by simp only;omega,J,by simp only;omega,I⟩)
     refine aP (by rw [cQ];omega) (aP (by omega) (wpS ⟨by show ((l++[x]).length:Int)≤_;simp,by show ((s.b.take _).drop _).length≤4;omega,by simp,by simp⟩))
    ·rintro ⟨l',e',k'⟩ ⟨r1,ab,ad,ae⟩
     simp only at r1 ab ad ae ⊢
     have ag:af (x+k')=x+k':=aZ (by omega) (by omega)
     rw [ag]
     exact aP (by omega) (ih _ _ _ (by omega) (by omega) (by omega) (by show ((o.b++e'.b).length:Int)≤_;rw [b7];omega) (by omega) (by omega))
   ·refine aP (by omega) (aP (by rw [hl];omega) (ih _ _ _ (by omega) (by omega) (by omega) (by show ((o.b++_).length:Int)≤_;rw [b7,hl];omega) (by omega) j))
 unfold nb
 refine bh (key F ⟨[]⟩ [] 1 (by omega) (by omega) (by omega) (by simp) (by simp) (by simp)) ?_
 rintro (⟨x,y⟩ | y) h<;>exact wpS h
theorem DN (F:Nat) (k:Int) (s:ar) (hn:s.b.length≤20000) (hF:s.b.length+30<F):Wp (oC F k s) (fun r=>(r.2.1.length:Int)≤s.b.length):=by
 unfold oC
 refine az (fun _=>wpS (by simp)) (fun _=>?_)
 refine az (fun _=>wpS (by simp)) (fun _=>?_)
 refine az (fun _=>bh (Gp F s hn (by omega)) fun r _=>wpS (by simp)) (fun _=>?_)
 refine az (fun _=>bh (qdouble_wp F s hn hF) fun r hr=>wpS hr) (fun _=>?_)
 exact wpS (by simp)
end
section
open Go Am Sy
theorem EY (F:Nat) (B:List UInt8) (L:List al) (rs:List av) (bad:List Int) (hb:bad.length≤1000):∀ (m:Nat) (D:List aj) (i:Nat),bad.length - i<m→i≤bad.length→D.length+(bad.length - i)≤100000→Wp (correctorref12_told_l0 F B L rs m D bad (i:Int)) (fun D'=>D'.length≤D.length+(bad.length - i)):=by
 intro m
 induction m with
 | zero=>intro D i h1;omega
 | succ m ih=>
  intro D i h1 h2 j
  rw [correctorref12_told_l0]
  refine az (fun c=>?_) (fun c=>wpS (by omega))
  have hw:af ((i:Int)+1)=((i+1:Nat):Int):=by rw [aZ (by omega) (by omega)];omega
  refine aP (by omega) (aC (ba (by omega) fun t ht=>?_))
  refine aP (by omega) (aC (ba (by omega) fun t ht=>?_))
  refine aP (by rw [cQ];omega) ?_
  rw [hw]
  refine (ih _ (i+1) (by omega) (by omega) (by rw [b7,cQ];omega)).mono fun D' jX=>?_
  rw [b7,cQ] at jX;omega
def TB (B:List UInt8) (L:List al):Prop:=∀ t∈L,0≤t.ah∧t.ah<t.To∧t.To≤B.length
theorem Tg.tb {n:Int}:∀ {s:List al} {f e:Int},Tg f s e→0≤f→e≤n→∀ t∈s,0≤t.ah∧t.ah<t.To∧t.To≤n:=by
 intro s
 induction s with
 | nil=>intro f e _ _ _ t ht;cases ht
 | cons x s ih=>
  rintro f e ⟨h1,h2,j⟩ h0 he t ht
  have:=j.le
  rcases List.mem_cons.1 ht with rfl | ht
  ·omega
  ·exact ih j (by omega) he t ht
theorem xa (F:Nat) (B:List UInt8) (L:List al) (rs:List av) (hB:B.length≤20000) (hT:TB B L) (D:List aj) (i:Int) (k:Nat) (t:al) (hk:L[k]?=some t):∀ (m:Nat) (pU:Bool) (j:Int),0≤j→t.To - j<m→j≤20001→0<m→Wp (correctorref12_told_l3 F B L rs m D i (k:Int) pU j) (fun r=>r.1=D∧r.2.1=i∧r.2.2.1=k):=by
 obtain ⟨t1,t2,t3⟩:=hT t (au hk)
 have jq:=fA hk
 intro m
 induction m with
 | zero=>intro pU j h1 h2 I J;omega
 | succ m ih=>
  intro pU j h1 h2 I J
  have hw:af (j+1)=j+1:=aZ (by omega) (by omega)
  rw [correctorref12_told_l3,hw]
  refine aP (by omega) ?_
  rw [b2,hk]
  refine aU rfl (az (fun c=>?_) (fun c=>wpS ⟨rfl,rfl,rfl⟩))
  refine bh (Q:=fun r=>r.1=D) (az (fun _=>wpS rfl) (fun _=>aP (by omega) (aC (ba (by omega) fun b hb=>az (fun _=>wpS rfl) (fun _=>wpS rfl))))) ?_
  rintro ⟨D',DP⟩ rfl
  exact ih DP (j+1) (by omega) (by omega) (by omega) (by omega)
theorem Gm (F:Nat) (hF:2500≤F) (B:List UInt8) (L:List al) (rs:List av) (hB:B.length≤1000) (hL:L.length≤450) (hT:TB B L) (i:Nat) (r:av) (hi:rs[i]?=some r) (hr:0≤r.ah∧r.ah<r.To∧r.To≤L.length):∀ (m:Nat) (D:List aj) (k:Nat),(k:Int)≤r.To→r.To - k<m→D.length+(r.To.toNat - k)≤100000→Wp (correctorref12_told_l2 F B L rs m D (i:Int) (k:Int)) (fun z=>z.1.length≤D.length+(r.To.toNat - k)∧z.2=(i:Int)):=by
 have dJ:=fA hi
 intro m
 induction m with
 | zero=>intro D k h1 h2;omega
 | succ m ih=>
  intro D k h1 h2 ag
  rw [correctorref12_told_l2]
  have hb:0≤(i:Int)∧(i:Int)<(rs.length:Int):=by omega
  simp only [if_pos hb,b2,hi]
  refine aU rfl (az (fun c=>?_) (fun c=>wpS ⟨by simp,rfl⟩))
  have jq:k<L.length:=by omega
  have hg:=aX jq
  have j:0≤(k:Int)∧(k:Int)<(L.length:Int):=by omega
  have hw:af ((k:Int)+1)=((k+1:Nat):Int):=by rw [aZ (by omega) (by omega)];omega
  refine aU rfl (az (fun ab=>?_) (fun ab=>wpS ⟨by simp,rfl⟩))
  simp only [if_pos j,hg,kl]
  refine aU rfl (aU rfl (az (fun _=>wpS ⟨by simp,rfl⟩) (fun _=>?_)))
  obtain ⟨t1,t2,t3⟩:=hT _ (au hg)
  refine aU rfl (bh (xa F B L rs (by omega) hT D i k _ hg F false L[k].ah t1 (by omega) (by omega) (by omega)) ?_)
  rintro ⟨ad,i1,ai,pU⟩ ⟨I,J,U⟩
  simp only at I J U ⊢
  subst I J U
  simp only [if_pos j,b2,hg]
  refine bh (Q:=fun z=>z.1=ad) (az (fun _=>aU rfl (az (fun _=>wpS rfl) (fun _=>wpS rfl))) (fun _=>wpS rfl)) ?_
  rintro ⟨ae,ak⟩ aa
  simp only at aa ⊢
  subst aa
  refine bh (Q:=fun D'=>D'.length≤ae.length+1) (az (fun _=>aU rfl (aU rfl (aP (by rw [cQ];omega) (wpS (by rw [b7,cQ];omega))))) (fun _=>wpS (by omega))) ?_
  intro D' jX
  rw [hw]
  refine (ih D' (k+1) (by omega) (by omega) (by omega)).mono fun z hz=>⟨by omega,hz.2⟩
theorem F0 (F:Nat) (hF:2500≤F) (B:List UInt8) (L:List al) (rs:List av) (hB:B.length≤1000) (hL:L.length≤450) (hT:TB B L) (hR:RO L rs):∀ (m:Nat) (D:List aj) (i:Nat) (f:Int),rs.length - i<m→i≤rs.length→0≤f→f≤L.length→Tl f (rs.drop i)→D.length+(L.length - f.toNat)≤100000→Wp (correctorref12_told_l1 F B L rs m D (i:Int)) (fun D'=>D'.length≤D.length+(L.length - f.toNat)):=by
 have hlen:=hR.len
 intro m
 induction m with
 | zero=>intro D i f h1;omega
 | succ m ih=>
  intro D i f h1 h2 ad ae j ag
  rw [correctorref12_told_l1]
  refine az (fun c=>?_) (fun c=>wpS (by omega))
  have hi:i<rs.length:=by omega
  have hg:=aX hi
  have hb:0≤(i:Int)∧(i:Int)<(rs.length:Int):=by omega
  have hw:af ((i:Int)+1)=((i+1:Nat):Int):=by rw [aZ (by omega) (by omega)];omega
  obtain ⟨r0,r1,J⟩:=hR.iy _ (au hg)
  rw [List.drop_eq_getElem_cons hi] at j
  obtain ⟨ai,U⟩:=j
  simp only [if_pos hb,b2,hg]
  have e:rs[i].ah=((rs[i].ah.toNat:Nat):Int):=by omega
  have hh:=Gm F hF B L rs hB hL hT i _ hg ⟨r0,r1,J⟩ F D rs[i].ah.toNat (by omega) (by omega) (by omega)
  rw [← e] at hh
  refine aU rfl (bh hh ?_)
  rintro ⟨aa,i1⟩ ⟨ab,I⟩
  simp only at ab I ⊢
  subst I
  rw [hw]
  refine (ih aa (i+1) rs[i].To (by omega) (by omega) (by omega) (by omega) U (by omega)).mono fun D' jX=>by omega
theorem GA (F:Nat) (B:List UInt8) (L:List al) (rs:List av) (i:Nat) (hi:i<L.length) (l:List Int) (hl:l.length≤1000):∀ (m:Nat) (D:List aj) (j:Nat),l.length - j<m→j≤l.length→D.length+(l.length - j)≤100000→Wp (correctorref12_told_l5 F B L rs m D (i:Int) l (j:Int)) (fun z=>z.1.length≤D.length+(l.length - j)∧z.2=(i:Int)):=by
 intro m
 induction m with
 | zero=>intro D j h1;omega
 | succ m ih=>
  intro D j h1 h2 I
  rw [correctorref12_told_l5]
  have hw:af ((j:Int)+1)=((j+1:Nat):Int):=by rw [aZ (by omega) (by omega)];omega
  refine az (fun c=>?_) (fun c=>wpS ⟨by simp,rfl⟩)
  refine aP (by omega) (aC (ba (by omega) fun t ht=>?_))
  refine aP (by omega) (aC (ba (by omega) fun t ht=>?_))
  refine aP (by omega) (aC (ba (by omega) fun t ht=>?_))
  refine aP (by omega) (aC (ba (by omega) fun t ht=>?_))
  refine aP (by rw [cQ];omega) ?_
  rw [hw]
  refine (ih _ (j+1) (by omega) (by omega) (by rw [b7,cQ];omega)).mono fun z hz=>?_
  rw [b7,cQ] at hz
  exact ⟨by omega,hz.2⟩
theorem AW (F:Nat) (hF:2500≤F) (B:List UInt8) (L:List al) (rs:List av) (hB:B.length≤1000) (hL:L.length≤450) (hT:TB B L):∀ (m:Nat) (D:List aj) (i:Nat) (f e:Int),L.length - i<m→i≤L.length→0≤f→e≤B.length→Tg f (L.drop i) e→D.length+((e - f).toNat+(L.length - i))≤100000→Wp (correctorref12_told_l4 F B L rs m D (i:Int)) (fun D'=>D'.length≤D.length+((e - f).toNat+(L.length - i))):=by
 intro m
 induction m with
 | zero=>intro D i f e h1;omega
 | succ m ih=>
  intro D i f e h1 h2 ak ad j an
  rw [correctorref12_told_l4]
  refine az (fun c=>?_) (fun c=>wpS (by omega))
  have hi:i<L.length:=by omega
  have hg:=aX hi
  have hb:0≤(i:Int)∧(i:Int)<(L.length:Int):=by omega
  have hw:af ((i:Int)+1)=((i+1:Nat):Int):=by rw [aZ (by omega) (by omega)];omega
  obtain ⟨t1,t2,t3⟩:=hT _ (au hg)
  rw [List.drop_eq_getElem_cons hi] at j
  obtain ⟨ao,aq,U⟩:=j
  have ar:=U.le
  simp only [if_pos hb,b2,hg]
  refine bh (Q:=fun z=>z.1.length≤D.length+((L[i].To - f).toNat+1)∧z.2=(i:Int)) ?_ ?_
  ·refine bh (Q:=fun z=>match z with | .inl J=>J=D | .inr z=>z=(D,(i:Int))) ?_ ?_
   ·exact aU rfl (az (fun _=>wpS rfl) (fun _=>aU rfl (az (fun _=>wpS rfl) (fun _=>wpS rfl))))
   rintro (J | z) hz
   ·simp only at hz ⊢
    subst hz
    refine aU rfl (aU rfl (aU rfl (aP (by omega) ?_)))
    have hZ:((B.take L[i].To.toNat).drop L[i].ah.toNat).length≤(L[i].To - f).toNat:=by rw [List.length_drop,List.length_take];omega
    refine bh (DN F L[i].Kind _ (by show (List.drop _ _).length≤20000;omega) (by show (List.drop _ _).length+30<F;omega)) ?_
    rintro ⟨s,l,en⟩ hl
    have je:(l.length:Int)≤(L[i].To - f).toNat:=Int.le_trans hl (by show ((List.drop _ _).length:Int)≤_;omega)
    simp only
    refine bh (Q:=fun z=>z.1.length≤J.length+1∧z.2=l) (az (fun _=>wpS ⟨by simp,rfl⟩) (fun _=>aU rfl (aU rfl (aP (by rw [cQ];omega) (wpS ⟨by simp,rfl⟩))))) ?_
    rintro ⟨ae,ag⟩ ⟨ai,aa⟩
    simp only at ai aa ⊢
    subst aa
    have j:=GA F B L rs i hi ag (by omega) F ae 0 (by omega) (by omega) (by omega)
    refine bh j ?_
    rintro ⟨ab,i3⟩ ⟨r1,I⟩
    exact wpS ⟨by simp only at r1 ⊢;omega,I⟩
   ·simp only at hz ⊢
    subst hz
    exact wpS ⟨by simp only;omega,rfl⟩
  ·rintro ⟨ab,i3⟩ ⟨r1,I⟩
   simp only at r1 I ⊢
   subst I
   rw [hw]
   refine (ih ab (i+1) L[i].To e (by omega) (by omega) (by omega) ad U (by omega)).mono fun D' jX=>by omega
theorem GN (F:Nat) (hF:2500≤F) (B:List UInt8) (L:List al) (rs:List av) (hB:B.length≤450) {e:Int} (hT:Tg 0 L e) (he:e≤B.length) (hR:RO L rs):Wp (mX F B L rs) (fun D=>D.length≤1800):=by
 have vr:TB B L:=hT.tb (Int.le_refl _) he
 have hle:=hT.le
 unfold mX
 refine bh (CD F B (by omega) (by omega)) fun bad GQ=>?_
 refine bh (EY F B L rs bad (by omega) F [] 0 (by omega) (by omega) (by simp;omega)) fun j h1=>?_
 simp only [List.length_nil] at h1
 refine bh (F0 F hF B L rs (by omega) (by omega) vr hR F j 0 0 (by have:=hR.len;omega) (by omega) (Int.le_refl _) (by omega) hR.tl (by omega)) fun I h2=>?_
 refine bh (AW F hF B L rs (by omega) (by omega) vr F I 0 0 e (by omega) (by omega) (Int.le_refl _) he hT (by omega)) fun J U=>wpS (by omega)
theorem zK (F:Nat) (a b:aj):Wp (oB F a b) (fun _=>True):=by
 unfold oB
 repeat' (first | (refine az (fun _=>?_) (fun _=>?_)) | exact wpS trivial)
theorem Eu {α:Type} (xs:List α) (a b k:Nat) (h:a+k≤xs.length) (h2:b+k≤xs.length):(jo xs a b k).length=xs.length:=by
 unfold jo
 simp only [b7,List.length_take,List.length_drop];omega
theorem FX (F:Nat) (a:List aj) (i:Nat) (hi:i<a.length) (out:List aj) (ho:out.length≤100000):∀ (m:Nat) (n:Nat),n<m→n≤out.length→Wp (lE F a m out (i:Int) (n:Int)) (fun z=>z.1=out∧z.2.1=(i:Int)∧0≤z.2.2∧z.2.2≤out.length):=by
 intro m
 induction m with
 | zero=>intro n h1;omega
 | succ m ih=>
  intro n h1 h2
  rw [lE]
  refine az (fun c=>?_) (fun c=>wpS ⟨rfl,rfl,by simp,by simp only;omega⟩)
  have hw:af ((n:Int) - 1)=((n - 1:Nat):Int):=by rw [aZ (by omega) (by omega)];omega
  rw [hw]
  refine aP (by omega) (aC (ba (by omega) fun t ht=>?_))
  refine aP (by omega) (aC (ba (by omega) fun u hu=>?_))
  refine bh (zK F t u) fun b _=>?_
  exact az (fun _=>ih (n - 1) (by omega) (by omega)) (fun _=>wpS ⟨rfl,rfl,by simp,by simp only;omega⟩)
theorem Bi (F:Nat) (a:List aj) (ha:a.length≤90000) (hF:a.length+10<F):Wp (nS F a) (fun _=>True):=by
 have key:∀ (m:Nat) (out:List aj) (i:Nat),a.length - i<m→i≤a.length→out.length≤i→Wp (correctorref14_Sort_l0 F a m out (i:Int)) (fun _=>True):=by
  intro m
  induction m with
  | zero=>intro out i h1;omega
  | succ m ih=>
   intro out i h1 h2 ag
   rw [correctorref14_Sort_l0]
   refine az (fun c=>?_) (fun c=>wpS trivial)
   have hi:i<a.length:=by omega
   have hw:af ((i:Int)+1)=((i+1:Nat):Int):=by rw [aZ (by omega) (by omega)];omega
   refine bh (Q:=fun z=>z.1.length≤i+1∧z.2=(i:Int)) ?_ ?_
   ·refine bh (FX F a i hi out (by omega) F out.length (by omega) (Nat.le_refl _)) ?_
    rintro ⟨I,i2,k⟩ ⟨J,U,ab,ad⟩
    simp only at J U ab ad ⊢
    subst J U
    have s9:af (k+1)=k+1:=aZ (by omega) (by omega)
    rw [s9]
    refine bh (Q:=fun z=>match z with | .inl o=>o=I | .inr z=>z=(I,(i:Int))) ?_ ?_
    ·refine az (fun c0=>?_) (fun _=>wpS rfl)
     rw [aZ (by omega) (by omega)]
     refine aP (by omega) (aC (ba (by omega) fun t ht=>?_))
     refine aP (by omega) (aC (ba (by omega) fun u hu=>?_))
     exact az (fun _=>wpS rfl) (fun _=>wpS rfl)
    rintro (j | z) hz
    ·simp only at hz ⊢
     subst hz
     have hlen:(j++[(⟨0,0,0⟩:aj)]).length=j.length+1:=by simp
     have du:=Eu (j++[(⟨0,0,0⟩:aj)]) (k+1).toNat k.toNat (Nat.min (((j++[(⟨0,0,0⟩:aj)]).length:Int).toNat - k.toNat) (((j++[(⟨0,0,0⟩:aj)]).length:Int).toNat - (k+1).toNat)) (by rw [hlen];simp only [Nat.min_def];split<;>omega) (by rw [hlen];simp only [Nat.min_def];split<;>omega)
     refine aP (by rw [cQ];omega) (aP (by rw [hlen];omega) (aP (by rw [hlen];omega) ?_))
     refine aP (by omega) (aC (ba (by omega) fun t ht=>?_))
     refine aP (by rw [du,hlen];omega) (aC (ba (by rw [du,hlen];omega) fun u hu=>wpS ⟨?_,rfl⟩))
     show (List.set _ _ _).length≤_
     rw [List.length_set,du,hlen];omega
    ·simp only at hz ⊢
     subst hz
     exact wpS ⟨by simp only;omega,rfl⟩
   ·rintro ⟨ae,i4⟩ ⟨r1,aa⟩
    simp only at r1 aa ⊢
    subst aa
    rw [hw]
    exact ih ae (i+1) (by omega) (by omega) r1
 unfold nS
 exact bh (key F [] 0 (by omega) (by omega) (by simp)) fun _ _=>wpS trivial
theorem CK (F:Nat) (hF:5000≤F) (B:List UInt8) (hB:B.length≤450) (depth:Int) (hd:1≤depth∧depth≤50):Wp (l6 F B depth) (fun z=>Tg 0 z.1 B.length∧G z.2.1.an z.1.length∧(z.2.1.an.length:Int)≤2000):=by
 unfold l6
 refine gm (by omega) (gm (by omega) ?_)
 refine bh (BN F B (by omega) (by omega)) fun L hL=>?_
 have hT:=hL.tg
 have hle:=hT.le
 obtain ⟨rs,r1,j⟩:=z1 F (by omega) hL (by omega) (Int.le_refl _)
 refine aU r1 (aU (zH F (L.length:Int) (by omega) (by omega)) ?_)
 have hp:PI (L.length:Int) (⟨⟨L,⟨[⟨1,0,(L.length:Int), -1,[],false⟩]⟩,[],(L.length:Int)⟩,rs, -1,false,[],depth,0⟩:Pp) 0:=
  ⟨⟨⟨by show (0:Int)≤L.length;omega,Int.le_refl _,by show L.length≤450;omega,hL.kinds⟩,rfl,G.new _ (by omega),fun i x hx h0=>by
   cases i with
   | zero=>omega
   | succ i=>simp at hx⟩,j,by show 0≤depth∧depth≤100;omega, .inl ⟨rfl,rfl⟩,by simp,by simp⟩
 have hlen:=j.len
 have xU:=Fq F (by omega) B depth (n:=(L.length:Int)) (L:=L) (rs:=rs) F (⟨⟨L,⟨[⟨1,0,(L.length:Int), -1,[],false⟩]⟩,[],(L.length:Int)⟩,rs, -1,false,[],depth,0⟩:Pp) 0 (by omega) (by omega) rfl rfl hp (Int.le_refl _) (by show (0:Int)≤L.length;omega)
 refine bh xU ?_
 rintro ⟨ab,ad,I,doc,root,S,dep,read⟩ ⟨J,U,ae,aa,af,ag⟩
 simp only at J U ae aa af ag ⊢
 subst J U
 refine bh (GN F (by omega) B ab ad hB hT (Int.le_refl _) j) fun D hD=>?_
 refine aP (by omega) (bh (Bi F (I.D++D) (by rw [b7];omega) (by rw [b7];omega)) fun ah _=>wpS ⟨hT,aa,by show (I.T.an.length:Int)≤2000;omega⟩)
end
section
open Go Am Sy
def wi (a n:Int):Int:=if a.tmod n<0 then a.tmod n+n else a.tmod n
theorem pc (a n:Int) (hn:0<n):0≤wi a n∧wi a n<n:=by
 unfold wi
 have h1:=Int.tmod_lt_of_pos a hn
 have h2:=Int.lt_tmod_of_pos a hn
 split<;>omega
theorem uy (F:Nat) (a n:Int) (hn:0<n) (hm:n≤1000000000):mQ F a n=some (wi a n):=by
 unfold mQ
 have h1:=Int.tmod_lt_of_pos a hn
 have h2:=Int.lt_tmod_of_pos a hn
 rw [if_pos (by omega)]
 by_cases h:a.tmod n<0
 ·rw [if_pos h]
  simp only [ax]
  unfold wi
  rw [if_pos h,aZ (by omega) (by omega)]
 ·rw [if_neg h]
  simp only [ax]
  unfold wi
  rw [if_neg h]
theorem Dx:pZ 6000=some true:=by decide+kernel
theorem EJ (F:Nat) (L:List al) (at_:Int) (hL:L.length≤1000) (hF:2500≤F):Wp (m3 F L at_) (fun k=>(k= -1∧∀ (i:Nat) t,L[i]?=some t→¬ (t.ah≤at_∧at_<t.To))∨∃ (j:Nat) (t:al),k=(j:Int)∧L[j]?=some t∧t.ah≤at_∧at_<t.To):=by
 have key:∀ (m i:Nat),L.length - i<m→i≤L.length→(∀ (j:Nat) t,j<i→L[j]?=some t→¬ (t.ah≤at_∧at_<t.To))→Wp (slices_IndexFunc_api_Token_l0 F L at_ m (i:Int)) (fun s=>match s with
   | .inl _=>∀ (i:Nat) t,L[i]?=some t→¬ (t.ah≤at_∧at_<t.To)
   | .inr k=>∃ (j:Nat) (t:al),k=(j:Int)∧L[j]?=some t∧t.ah≤at_∧at_<t.To):=by
  intro m
  induction m with
  | zero=>intro i h1;omega
  | succ m ih=>
   intro i h1 h2 I
   rw [slices_IndexFunc_api_Token_l0]
   refine az (fun c=>?_) (fun c=>wpS fun j t hj=>I j t (by have:=fA hj;omega) hj)
   have hi:i<L.length:=by omega
   have hg:=aX hi
   have hw:af ((i:Int)+1)=((i+1:Nat):Int):=by rw [aZ (by omega) (by omega)];omega
   refine aP (by omega) ?_
   rw [b2,hg]
   refine aU rfl ?_
   refine bh (Q:=fun b=>b=true↔(L[i].ah≤at_∧at_<L[i].To)) ?_ ?_
   ·unfold pD
    refine az (fun a=>az (fun b=>wpS (by simp [a,b])) (fun b=>wpS (by simp;omega))) (fun a=>wpS (by simp;omega))
   intro b hb
   refine az (fun c1=>wpS ⟨i,_,rfl,hg,hb.1 c1⟩) (fun c1=>?_)
   rw [hw]
   refine ih (i+1) (by omega) (by omega) (fun j t hj ht=>?_)
   rcases Nat.lt_or_ge j i with z | z
   ·exact I j t z ht
   ·have:j=i:=by omega
    subst this
    rw [hg] at ht
    simp only [Option.some.injEq] at ht
    subst ht
    exact fun q=>c1 (hb.2 q)
 unfold m3 pw
 refine aC (bh (key F 0 (by omega) (by omega) (fun j t hj=>by omega)) ?_)
 rintro (u | k) h
 ·exact wpS (wpS (.inl ⟨rfl,h⟩))
 ·exact wpS (wpS (.inr h))
theorem Tg.ord:∀ {s:List al} {f e:Int},Tg f s e→(∀ (j:Nat) t,s[j]?=some t→f≤t.ah∧t.ah<t.To∧t.To≤e)∧∀ (i j:Nat) t u,i<j→s[i]?=some t→s[j]?=some u→t.To≤u.ah:=by
 intro s
 induction s with
 | nil=>intro f e h;exact ⟨fun j t ht=>by simp at ht,fun i j t u _ ht=>by simp at ht⟩
 | cons x s ih=>
  rintro f e ⟨h1,h2,I⟩
  obtain ⟨i1,i2⟩:=ih I
  have hle:=I.le
  refine ⟨fun j t ht=>?_,fun i j t u mi ht hu=>?_⟩
  ·cases j with
   | zero=>simp at ht;subst ht;omega
   | succ j=>have:=i1 j t (by simpa using ht);omega
  ·cases j with
   | zero=>omega
   | succ j=>
    simp only [List.getElem?_cons_succ] at hu
    cases i with
    | zero=>simp at ht;subst ht;exact (i1 j u hu).1
    | succ i=>exact i2 i j t u (by omega) (by simpa using ht) hu
theorem tQ:∀ (n:Nat) (l:List Nat),l.Nodup→(∀ x∈l,x<n)→l.length≤n:=by
 intro n
 induction n with
 | zero=>
  intro l _ h
  cases l with
  | nil=>simp
  | cons x l=>exact absurd (h x List.mem_cons_self) (by omega)
 | succ n ih=>
  intro l hn h
  by_cases c:n∈l
  ·have h1:=ih (l.erase n) (hn.erase n) (fun x hx=>by
    have h2:=h x (List.mem_of_mem_erase hx)
    have:x≠n:=fun e=>by subst e;exact (hn.not_mem_erase) hx
    omega)
   rw [List.length_erase_of_mem c] at h1
   omega
  ·have:=ih l hn (fun x hx=>by
    have h2:=h x hx
    have:x≠n:=fun e=>by subst e;exact c hx
    omega)
   omega
theorem yJ:∀ (n:Nat) (l:List Nat),l.Nodup→(∀ x∈l,x<n)→n≤l.length→∀ k,k<n→k∈l:=by
 intro n l hn h hl k hk
 rcases Classical.em (k∈l) with c | c
 ·exact c
 ·have h1:=tQ n (k::l) (List.nodup_cons.2 ⟨c,hn⟩) (fun x hx=>by
   rcases List.mem_cons.1 hx with rfl | hx
   ·exact hk
   ·exact h x hx)
  rw [List.length_cons] at h1
  omega
theorem Fl {N:List aq} {n:Int} (h:G N n):∀ (i:Nat),(((N.drop i).flatMap (·.Kids)).map Int.toNat).Nodup∧(∀ k∈((N.drop i).flatMap (·.Kids)).map Int.toNat,k<N.length∧0<k∧∃ (j:Nat) (x:aq),i≤j∧N[j]?=some x∧(k:Int)∈x.Kids):=by
 have fin:∀ i,N.length≤i→(((N.drop i).flatMap (·.Kids)).map Int.toNat).Nodup∧(∀ k∈((N.drop i).flatMap (·.Kids)).map Int.toNat,k<N.length∧0<k∧∃ (j:Nat) (x:aq),i≤j∧N[j]?=some x∧(k:Int)∈x.Kids):=by
  intro i hi
  rw [List.drop_eq_nil_of_le hi]
  exact ⟨List.nodup_nil,fun k hk=>by simp at hk⟩
 have gen:∀ (d i:Nat),i+d=N.length→(((N.drop i).flatMap (·.Kids)).map Int.toNat).Nodup∧(∀ k∈((N.drop i).flatMap (·.Kids)).map Int.toNat,k<N.length∧0<k∧∃ (j:Nat) (x:aq),i≤j∧N[j]?=some x∧(k:Int)∈x.Kids):=by
  intro d
  induction d with
  | zero=>intro i hi;exact fin i (by omega)
  | succ d ih=>
   intro i hi
   have dJ:i<N.length:=by omega
   have hg:=aX dJ
   obtain ⟨af,ad⟩:=ih (i+1) (by omega)
   rw [List.drop_eq_getElem_cons dJ,List.flatMap_cons,List.map_append]
   have hm:∀ k∈N[i].Kids,(i:Int)<k∧k<N.length∧∃ y,N[k.toNat]?=some y∧y.Up=i:=fun k hk=>by
    obtain ⟨y,I,J,U,ae,_⟩:=(h.cU i _ hg).1.mem k hk
    exact ⟨I,J,y,U,ae⟩
   refine ⟨List.nodup_append.2 ⟨?_,af,?_⟩,?_⟩
   ·have gO:=h.nd _ (au hg)
    refine List.Pairwise.map _ (fun a b fw=>fw) ?_
    refine List.Pairwise.imp_of_mem (fun {a b} ha hb fw e=>fw ?_) gO
    obtain ⟨I,_⟩:=hm a ha
    obtain ⟨J,_⟩:=hm b hb
    omega
   ·intro a ha b hb e
    subst e
    obtain ⟨k,hk,rfl⟩:=List.mem_map.1 ha
    obtain ⟨I,J,y,U,ae⟩:=hm k hk
    obtain ⟨_,_,j,x,w1,w2,aa⟩:=ad _ hb
    obtain ⟨ah,_,_,ab,v4,_⟩:=(h.cU j x w2).1.mem _ aa
    rw [b2,U] at ab
    simp only [Option.some.injEq] at ab
    subst ab
    omega
   ·intro k hk
    rcases List.mem_append.1 hk with hk | hk
    ·obtain ⟨c,hc,rfl⟩:=List.mem_map.1 hk
     obtain ⟨I,J,_⟩:=hm c hc
     exact ⟨by omega,by omega,i,_,Nat.le_refl _,hg,by rw [Int.toNat_of_nonneg (by omega)];exact hc⟩
    ·obtain ⟨w0,ag,j,x,w1,w2,aa⟩:=ad k hk
     exact ⟨w0,ag,j,x,by omega,w2,aa⟩
 intro i
 rcases Nat.lt_or_ge i N.length with q | q
 ·exact gen (N.length - i) i (by omega)
 ·exact fin i q
theorem G.g9 {N:List aq} {n:Int} (h:G N n) {k:Nat} (h0:0<k) (hk:k<N.length) {z:aq} (hz:N[k]?=some z):∃ (j:Nat) (x:aq),z.Up=j∧N[j]?=some x∧(k:Int)∈x.Kids∧j<k:=by
 obtain ⟨U,I⟩:=Fl h 0
 rw [List.drop_zero] at U I
 have hlen:(((N.flatMap (·.Kids)).map Int.toNat)).length=eD N:=by
  rw [List.length_map,List.length_flatMap];rfl
 have hs:=h.sum
 have ab:0∉(N.flatMap (·.Kids)).map Int.toNat:=fun hm=>by have:=(I 0 hm).2.1;omega
 have hm:=yJ N.length (0::(N.flatMap (·.Kids)).map Int.toNat) (List.nodup_cons.2 ⟨ab,U⟩) (fun x hx=>by
  rcases List.mem_cons.1 hx with rfl | hx
  ·exact h.pos
  ·exact (I x hx).1) (by rw [List.length_cons,hlen];omega) k hk
 rcases List.mem_cons.1 hm with rfl | hm
 ·omega
 ·obtain ⟨_,_,j,x,_,w2,aa⟩:=I k hm
  obtain ⟨y,v1,_,J,v4,_⟩:=(h.cU j x w2).1.mem _ aa
  rw [b2,hz] at J
  simp only [Option.some.injEq] at J
  subst J
  exact ⟨j,x,v4,w2,aa,by omega⟩
theorem LP.g9 {l:List aq} {i To:Int}:∀ {ks:List Int} {e:Int},LP l i To e ks→(∀ k∈ks,∀ y,l[k.toNat]?=some y→y.ah≤y.To)→∀ k∈ks,∃ y,l[k.toNat]?=some y∧e≤y.ah∧y.To≤To:=by
 intro ks
 induction ks with
 | nil=>intro e _ _ k hk;cases hk
 | cons j ks ih=>
  rintro e ⟨y,h1,h2,ae,I,af,J,U,aa⟩ hr k hk
  have hy:=hr j List.mem_cons_self y I
  rcases List.mem_cons.1 hk with rfl | hk
  ·exact ⟨y,I,J,U⟩
  ·obtain ⟨z,ab,ag,ad⟩:=ih aa (fun k hk=>hr k (List.mem_cons_of_mem _ hk)) k hk
   exact ⟨z,ab,by omega,ad⟩
theorem G.zv {N:List aq} {n:Int} (h:G N n) {i:Nat} {x:aq} (hx:N[i]?=some x) {k:Int} (hk:k∈x.Kids):∃ y,N[k.toNat]?=some y∧x.ah≤y.ah∧y.ah≤y.To∧y.To≤x.To:=by
 obtain ⟨y,j,I,J⟩:=(h.cU i x hx).1.g9 (fun k _ y hy=>(h.cU _ y hy).2) k hk
 exact ⟨y,j,I,(h.cU _ y j).2,J⟩
theorem G.iy {N:List aq} {n:Int} (h:G N n):∀ (m k:Nat),k<m→∀ x,N[k]?=some x→0≤x.ah∧x.ah≤x.To∧x.To≤n:=by
 intro m
 induction m with
 | zero=>intro k hk;omega
 | succ m ih=>
  intro k hk x hx
  rcases Nat.eq_zero_or_pos k with z | z
  ·subst z
   obtain ⟨r,r1,_,U,aa,_⟩:=h.root
   rw [hx] at r1;simp only [Option.some.injEq] at r1;subst r1
   have:=(h.cU 0 x hx).2
   omega
  ·obtain ⟨j,y,ab,I,J,ad⟩:=h.g9 z (gf hx) hx
   obtain ⟨w,w1,w2,ae,af⟩:=h.zv I J
   rw [b2,hx] at w1;simp only [Option.some.injEq] at w1;subst w1
   have:=ih j (by omega) y I
   omega
end
section
open Go Am Sy
theorem Fv (F:Nat) (a:Int):Wp (oy F a) (fun s=>s.b.length≤20):=by
 unfold oy
 have hw:∀ n:Int,0<n→n≤1000→n9 F a n=some (wi a n):=by
  intro n hn hm
  unfold n9
  have h1:=Int.tmod_lt_of_pos a hn
  have h2:=Int.lt_tmod_of_pos a hn
  rw [if_pos (by omega)]
  by_cases h:a.tmod n<0
  ·rw [if_pos h]
   simp only [ax]
   unfold wi
   rw [if_pos h,aZ (by omega) (by omega)]
  ·rw [if_neg h]
   simp only [ax]
   unfold wi
   rw [if_neg h]
 rw [hw _ (by decide) (by decide)]
 refine aC (wpS ?_)
 refine az ?_ ?_<;>intro h
 ·refine aC (ba h ?_)
  intro x hx
  refine wpS ?_
  have hm:=au hx
  revert x
  intro x _ hm
  have all:∀ x∈([(⟨[97]⟩:ar),(⟨[98,58,32]⟩:ar),(⟨[45,32]⟩:ar),(⟨[10]⟩:ar),(⟨[10]⟩:ar),(⟨[10,32,32]⟩:ar),(⟨[10,32,32,32,32]⟩:ar),(⟨[107,101,121,58,32]⟩:ar),(⟨[91]⟩:ar),(⟨[93]⟩:ar),(⟨[123]⟩:ar),(⟨[125]⟩:ar),(⟨[44,32]⟩:ar),(⟨[58,32]⟩:ar),(⟨[39,105,116,39,39,115,39]⟩:ar),(⟨[34,120,92,110,34]⟩:ar),(⟨[35,32,110,111,116,101,10]⟩:ar),(⟨[38,110,32]⟩:ar),(⟨[42,110]⟩:ar),(⟨[33,33,105,110,116,32]⟩:ar),(⟨[124,10]⟩:ar),(⟨[62,45,10]⟩:ar),(⟨[45,45,45]⟩:ar),(⟨[46,46,46]⟩:ar),(⟨[9]⟩:ar),(⟨[13,10]⟩:ar),(⟨[32]⟩:ar),(⟨[49]⟩:ar),(⟨[126]⟩:ar),(⟨[39,111,112,101,110]⟩:ar),(⟨[34,92,113,34]⟩:ar),(⟨[45]⟩:ar),(⟨[58]⟩:ar),(⟨[116,101,120,116,32,111,102,32,119,111,114,100,115]⟩:ar),(⟨[10,45,32]⟩:ar),(⟨[10,107,58,32]⟩:ar),(⟨[32,32]⟩:ar),(⟨[35,32,111,102,102]⟩:ar),(⟨[44]⟩:ar),(⟨[124,43]⟩:ar),(⟨[10,10]⟩:ar)]:List ar),x.b.length≤20:=by decide+kernel
  exact all x hm
 ·exact absurd (pc a _ (by decide)) h
theorem Dw (F:Nat) (ns:List Int) (raw:List UInt8):∀ (m:Nat) (out:List UInt8) (i:Int),0≤i→i≤60→60 - i<m→(out.length:Int)≤60 * i→
  Wp (correctorlaw6_Text_l0 F ns raw m out i) (fun _=>True):=by
 intro m
 induction m with
 | zero=>intro out i h1 h2 j;omega
 | succ m ih=>
  intro out i h1 h2 j I
  rw [correctorlaw6_Text_l0]
  refine az ?_ ?_<;>intro hx
  ·refine az ?_ ?_<;>intro hy
   ·refine aC ?_
    have hi:0≤dR (raw.length:Int) 30∧dR (raw.length:Int) 30≤30∧dR (raw.length:Int) 30≤raw.length:=by unfold dR;split<;>omega
    generalize dR (raw.length:Int) 30=k at hi
    have hl:((raw.take k.toNat).drop (0:Int).toNat).length=k.toNat:=by simp;omega
    refine Wp.mono (P:=fun z:List UInt8=>(z.length:Int)≤60 * i+30) ?_ ?_
    ·refine az ?_ ?_<;>intro hz
     ·rw [if_pos ⟨by omega,by omega,by omega⟩,if_pos (by rw [hl];omega)]
      refine wpS ?_
      rw [b7,hl];omega
     ·exact wpS (by omega)
    ·intro z hz
     rw [if_pos ⟨h1,hx⟩]
     refine aC (ba ⟨h1,hx⟩ ?_)
     intro x _
     refine aC ((Fv F x).mono ?_)
     intro s hs
     rw [if_pos (by omega),aZ (by omega) (by omega)]
     exact ih _ _ (by omega) (by omega) (by omega) (by rw [b7];omega)
   ·exact wpS trivial
  ·exact wpS trivial
theorem BZ (F:Nat) (hF:100≤F) (ns:List Int) (raw:List UInt8):Wp (oo F ns raw) (fun b=>b.length≤400):=by
 unfold oo
 refine aC ((Dw F ns raw F [] 0 (by omega) (by omega) (by omega) (by simp)).mono ?_)
 intro z _
 have hi:0≤dR (z.length:Int) 400∧dR (z.length:Int) 400≤400∧dR (z.length:Int) 400≤z.length:=by unfold dR;split<;>omega
 rw [if_pos ⟨by omega,by omega,by omega⟩]
 refine wpS ?_
 generalize dR (z.length:Int) 400=k at hi
 simp;omega
theorem pS (F:Nat) (N:List aq) (i:Int):kA F ⟨N⟩ i=some (decide (0≤i∧i<N.length)):=by
 unfold kA
 by_cases h1:0≤i
 ·rw [if_pos h1]
  by_cases h2:i<N.length
  ·rw [if_pos h2];simp [h1,h2]
  ·rw [if_neg h2];simp [h2]
 ·rw [if_neg h1];simp [h1]
theorem FW (F:Nat) (N:List aq) (k:Int) (ks:List Int) (hk:ks.length≤100000) (hF:ks.length+10<F) (hv:∀ c∈ks,0≤c∧c<N.length):Wp (ot F ks ⟨N⟩ k) (fun r=>(r= -1∧∀ c∈ks,∀ y,N[c.toNat]?=some y→¬ (y.ah≤k∧k<y.To))∨∃ (j:Nat) (c:Int) (y:aq),r=(j:Int)∧ks[j]?=some c∧N[c.toNat]?=some y∧y.ah≤k∧k<y.To∧∀ (i:Nat) c' y',i<j→ks[i]?=some c'→N[c'.toNat]?=some y'→¬ (y'.ah≤k∧k<y'.To)):=by
 have key:∀ (m i:Nat),ks.length - i<m→i≤ks.length→(∀ (j:Nat) c y,j<i→ks[j]?=some c→N[c.toNat]?=some y→¬ (y.ah≤k∧k<y.To))→Wp (mN F ks ⟨N⟩ k m (i:Int)) (fun s=>match s with
   | .inl _=>∀ c∈ks,∀ y,N[c.toNat]?=some y→¬ (y.ah≤k∧k<y.To)
   | .inr r=>∃ (j:Nat) (c:Int) (y:aq),r=(j:Int)∧ks[j]?=some c∧N[c.toNat]?=some y∧y.ah≤k∧k<y.To∧∀ (i:Nat) c' y',i<j→ks[i]?=some c'→N[c'.toNat]?=some y'→¬ (y'.ah≤k∧k<y'.To)):=by
  intro m
  induction m with
  | zero=>intro i h1;omega
  | succ m ih=>
   intro i h1 h2 I
   rw [mN]
   refine az (fun c=>?_) (fun c=>wpS fun c hc y hy=>?_)
   ·have hi:i<ks.length:=by omega
    have hg:=aX hi
    have hw:af ((i:Int)+1)=((i+1:Nat):Int):=by rw [aZ (by omega) (by omega)];omega
    have J:=hv _ (au hg)
    have hl:ks[i].toNat<N.length:=by omega
    have rZ:=aX hl
    refine aP (by omega) ?_
    rw [b2,hg]
    refine aU rfl ?_
    refine bh (Q:=fun b=>b=true↔(N[ks[i].toNat].ah≤k∧k<N[ks[i].toNat].To)) ?_ ?_
    ·unfold qm
     rw [pS,decide_eq_true J]
     refine aU rfl (aP rfl (aP J ?_))
     simp only [rZ]
     refine aU rfl (az (fun a=>aP J (aU rfl (az (fun b=>wpS (by simp [a,b])) (fun b=>wpS (by simp;omega))))) (fun a=>wpS (by simp;omega)))
    intro b hb
    refine az (fun c1=>wpS ⟨i,_,_,rfl,hg,rZ,(hb.1 c1).1,(hb.1 c1).2,fun j c' y' hj=>I j c' y' hj⟩) (fun c1=>?_)
    rw [hw]
    refine ih (i+1) (by omega) (by omega) (fun j c y hj hc hy=>?_)
    rcases Nat.lt_or_ge j i with z | z
    ·exact I j c y z hc hy
    ·have:j=i:=by omega
     subst this
     rw [hg] at hc
     simp only [Option.some.injEq] at hc
     subst hc
     rw [rZ] at hy
     simp only [Option.some.injEq] at hy
     subst hy
     exact fun q=>c1 (hb.2 q)
   ·obtain ⟨j,hj⟩:=List.getElem?_of_mem hc
    exact I j c y (by have:=fA hj;omega) hj hy
 unfold ot
 refine bh (key F 0 (by omega) (by omega) (fun j c y hj=>by omega)) ?_
 rintro (u | r) h
 ·exact wpS (.inl ⟨rfl,h⟩)
 ·exact wpS (.inr h)
theorem tm (F:Nat) (l:List Int) (hl:l.length≤100000) (hF:l.length+10<F):Wp (n7 F l) (fun r=>r=l.reverse):=by
 have key:∀ (m:Nat) (x:List Int) (i:Nat) (j:Int),l.length - i<m→j=(l.length:Int) - 1 - i→2 * (i:Int)≤l.length+1→x.length=l.length→(∀ k:Nat,k<l.length→x[k]?=if k<i∨j<k then l[l.length - 1 - k]? else l[k]?)→Wp (slices_Reverse_int_l0 F l m x (i:Int) j) (fun r=>r=l.reverse):=by
  intro m
  induction m with
  | zero=>intro x i j h1 h2 aa;omega
  | succ m ih=>
   intro x i j h1 h2 aa ab I
   rw [slices_Reverse_int_l0]
   refine az (fun c=>?_) (fun c=>wpS ?_)
   ·have hj:j.toNat<x.length:=by omega
    have hi:i<x.length:=by omega
    have ad:af ((i:Int)+1)=((i+1:Nat):Int):=by rw [aZ (by omega) (by omega)];omega
    have ae:af (j - 1)=j - 1:=aZ (by omega) (by omega)
    refine aP (by omega) ?_
    rw [aX hj]
    refine aU rfl (aP (by omega) ?_)
    rw [b2,aX hi]
    refine aU rfl (aP (by omega) (aU rfl (aP (by rw [List.length_set];omega) ?_)))
    rw [List.getElem?_set_ne (by omega),aX hj]
    refine aU rfl ?_
    rw [ad,ae]
    refine ih _ (i+1) (j - 1) (by omega) (by omega) (by omega) (by rw [List.length_set,List.length_set];exact ab) (fun k hk=>?_)
    have lY:=I i (by omega)
    have u5:=I j.toNat (by omega)
    rw [if_neg (by omega),aX hi] at lY
    rw [if_neg (by omega),aX hj] at u5
    by_cases e1:k=j.toNat
    ·subst e1
     rw [List.getElem?_set_self (by rw [List.length_set];exact hj),if_pos (by omega),lY]
     congr 1;omega
    ·rw [List.getElem?_set_ne (Ne.symm e1)]
     by_cases J:k=i
     ·subst J
      rw [List.getElem?_set_self hi,if_pos (by omega),u5]
      congr 1;omega
     ·rw [List.getElem?_set_ne (Ne.symm J),I k hk]
      by_cases U:k<i∨j<k
      ·rw [if_pos U,if_pos (by omega)]
      ·rw [if_neg U,if_neg (by omega)]
   ·apply List.ext_getElem?
    intro k
    rcases Nat.lt_or_ge k l.length with z | z
    ·rw [I k z,List.getElem?_reverse z]
     split
     ·rfl
     ·congr 1;omega
    ·rw [List.getElem?_eq_none (by omega),List.getElem?_eq_none (by rw [List.length_reverse];exact z)]
 unfold n7
 by_cases c:l=[]
 ·subst c
  refine bh (Q:=fun r=>r=[]) ?_ (fun r hr=>wpS (by rw [hr];rfl))
  obtain ⟨F,rfl⟩:∃ k,F=k+1:=⟨F - 1,by omega⟩
  rw [slices_Reverse_int_l0,if_neg (by decide)]
  exact wpS rfl
 ·have eN:0<l.length:=by cases l with | nil=>exact absurd rfl c | cons=>simp
  have hw:af ((l.length:Int) - 1)=(l.length:Int) - 1 - ((0:Nat):Int):=by rw [aZ (by omega) (by omega)];omega
  rw [hw]
  exact bh (key F l 0 _ (by omega) rfl (by omega) rfl (fun k hk=>by rw [if_neg (by omega)])) fun r hr=>wpS hr
def ups (N:List aq):Nat→Int→List Int
 | 0,_=>[]
 | f+1,i=>if 0≤i then i::(match N[i.toNat]? with | some x=>ups N f x.Up | none=>[]) else []
theorem xJ (F:Nat) (hF:2500≤F) {N:List aq} {n:Int} (h:G N n) (hN:N.length≤2000) (i:Nat) (hi:i<N.length):Wp (kg F ⟨N⟩ (i:Int)) (fun p=>p=(ups N (i+1) i).reverse):=by
 have key:∀ (m f:Nat) (a:Int) (out:List Int),f+1<m→a<f→a<N.length→(out.length:Int)+a≤i→(out.length:Int)≤i+1→Wp (walk_Path_l0 F ⟨N⟩ (i:Int) m a out) (fun p=>p=out++ups N f a):=by
  intro m
  induction m with
  | zero=>intro f a out h1;omega
  | succ m ih=>
   intro f a out h1 h2 j I J
   rw [walk_Path_l0,pS]
   refine aU rfl ?_
   by_cases c:0≤a
   ·rw [decide_eq_true ⟨c,j⟩]
    have hl:a.toNat<N.length:=by omega
    have hg:=aX hl
    have hu:=h.nC _ _ hg
    obtain ⟨f,rfl⟩:∃ k,f=k+1:=⟨f - 1,by omega⟩
    refine aP rfl (aP (by simp only;omega) (aP (by rw [cQ];omega) (aP ⟨c,j⟩ ?_)))
    simp only [hg]
    refine aU rfl ?_
    have:=ih f N[a.toNat].Up (out++[a]) (by omega) (by omega) (by omega) (by rw [b7,cQ];omega) (by rw [b7,cQ];omega)
    refine this.mono fun p hp=>?_
    rw [hp,ups,if_pos c,hg]
    simp
   ·rw [decide_eq_false (by omega)]
    refine gm (by simp) (wpS ?_)
    cases f with
    | zero=>simp [ups]
    | succ f=>rw [ups,if_neg c];simp
 have hlen:∀ (f:Nat) (a:Int),(ups N f a).length≤f:=by
  intro f
  induction f with
  | zero=>intro a;simp [ups]
  | succ f ih=>
   intro a
   rw [ups]
   split
   ·rw [List.length_cons]
    split
    ·have:=ih (by assumption:aq).Up;omega
    ·simp
   ·simp
 unfold kg
 refine bh (key F (i+1) i [] (by omega) (by omega) (by omega) (by simp) (by simp;omega)) ?_
 rintro p rfl
 have hl:=hlen (i+1) i
 refine bh (tm F _ (by rw [List.nil_append];omega) (by rw [List.nil_append];omega)) ?_
 rintro r rfl
 unfold lT
 refine aC (aP (by rw [List.length_nil,List.length_reverse,List.nil_append];omega) (wpS (wpS (by simp))))
end
section
open Go Am Sy
def Hs (N:List aq) (k:Int) (c:Int):Prop:=∃ y,N[c.toNat]?=some y∧y.ah≤k∧k<y.To
inductive Dn (N:List aq) (k:Int):Nat→Int→Prop
 | stop {i:Nat} {x:aq}:N[i]?=some x→(∀ c∈x.Kids,¬ Hs N k c)→Dn N k i i
 | step {i:Nat} {x:aq} {c:Nat} {r:Int}:N[i]?=some x→(c:Int)∈x.Kids→Hs N k c→Dn N k c r→Dn N k i r
theorem LP.one {N:List aq} {i To k:Int}:∀ {ks:List Int} {e:Int},LP N i To e ks→(∀ c∈ks,∀ y,N[c.toNat]?=some y→y.ah≤y.To)→(∀ c∈ks,Hs N k c→e≤k)∧∀ c∈ks,∀ d∈ks,Hs N k c→Hs N k d→c=d:=by
 intro ks
 induction ks with
 | nil=>intro e _ _;exact ⟨fun c hc=>(by cases hc),fun c hc=>(by cases hc)⟩
 | cons j ks ih=>
  rintro e ⟨y,h1,h2,ae,U,af,ag,ai,ad⟩ hr
  obtain ⟨i1,i2⟩:=ih ad (fun c hc=>hr c (List.mem_cons_of_mem _ hc))
  have hy:=hr j List.mem_cons_self y U
  have hj:∀ z,N[j.toNat]?=some z→z=y:=fun z hz=>by rw [U] at hz;simp only [Option.some.injEq] at hz;exact hz.symm
  have no:∀ c∈ks,Hs N k c→Hs N k j→False:=by
   rintro c hc hh ⟨z,I,aa,ab⟩
   have:=i1 c hc hh
   rw [hj z I] at ab
   omega
  refine ⟨fun c hc hh=>?_,fun c hc d hd hh hg=>?_⟩
  ·rcases List.mem_cons.1 hc with e1 | hc
   ·obtain ⟨z,I,aa,ab⟩:=hh
    rw [e1] at I;rw [hj z I] at aa;omega
   ·have:=i1 c hc hh;omega
  ·rcases List.mem_cons.1 hc with e1 | hc
   ·rcases List.mem_cons.1 hd with J | hd
    ·rw [e1,J]
    ·exact (no d hd hg (e1 ▸ hh)).elim
   ·rcases List.mem_cons.1 hd with J | hd
    ·exact (no c hc hh (J ▸ hg)).elim
    ·exact i2 c hc d hd hh hg
theorem G.one {N:List aq} {n k:Int} (h:G N n) {i:Nat} {x:aq} (hx:N[i]?=some x):∀ c∈x.Kids,∀ d∈x.Kids,Hs N k c→Hs N k d→c=d:=
 ((h.cU i x hx).1.one (fun c _ y hy=>(h.cU _ y hy).2)).2
theorem Dn.rX {N:List aq} {n k:Int} (h:G N n) {i:Nat} {r:Int} (h1:Dn N k i r):∀ {r':Int},Dn N k i r'→r=r':=by
 induction h1 with
 | stop hx hn=>
  intro r' h2
  cases h2 with
  | stop _ _=>rfl
  | step hy hc hh _=>
   rw [hx] at hy;simp only [Option.some.injEq] at hy;subst hy
   exact absurd hh (hn _ hc)
 | step hx hc hh _ ih=>
  intro r' h2
  cases h2 with
  | stop hy hn=>
   rw [hx] at hy;simp only [Option.some.injEq] at hy;subst hy
   exact absurd hh (hn _ hc)
  | step hy hd hg j=>
   rw [hx] at hy;simp only [Option.some.injEq] at hy;subst hy
   have:=h.one hx _ hc _ hd hh hg
   have e:=Int.ofNat_inj.1 this
   subst e
   exact ih j
def Ab (L:List al) (N:List aq) (at_ r:Int):Prop:=
 (r= -1∧∀ (i:Nat) t,L[i]?=some t→¬ (t.ah≤at_∧at_<t.To))∨∃ (k:Nat) (t:al),L[k]?=some t∧t.ah≤at_∧at_<t.To∧Dn N k 0 r
theorem Ab.rX {L:List al} {N:List aq} {e n at_ r r':Int} (hT:Tg 0 L e) (h:G N n) (h1:Ab L N at_ r) (h2:Ab L N at_ r'):r=r':=by
 rcases h1 with ⟨a1,ad⟩ | ⟨k,t,I,J,U,ae⟩
 ·rcases h2 with ⟨ah,_⟩ | ⟨k,t,I,J,U,_⟩
  ·omega
  ·exact absurd ⟨J,U⟩ (ad k t I)
 ·rcases h2 with ⟨_,af⟩ | ⟨j,u,aa,ai,aj,ag⟩
  ·exact absurd ⟨J,U⟩ (af k t I)
  ·obtain ⟨_,ab⟩:=hT.ord
   have e:k=j:=by
    rcases Nat.lt_trichotomy k j with z | z | z
    ·have:=ab k j t u z I aa;omega
    ·exact z
    ·have:=ab j k u t z aa I;omega
   subst e
   exact ae.rX h ag
theorem BT (F:Nat) (hF:2500≤F) {L:List al} {N:List aq} {e:Int} (hT:Tg 0 L e) (h:G N L.length) (hL:L.length≤1000) (hN:N.length≤2000) (at_:Int):Wp (jm F L ⟨N⟩ at_) (Ab L N at_):=by
 have eN:=h.pos
 obtain ⟨U,_⟩:=hT.ord
 unfold jm
 refine bh (EJ F L at_ hL hF) ?_
 rintro r hr
 refine az (fun c0=>wpS (.inl ⟨rfl,fun i t ht q=>by have:=U i t ht;omega⟩)) (fun c0=>?_)
 rcases hr with ⟨rfl,dO⟩ | ⟨k,t,rfl,ht,t1,t2⟩
 ·exact aP (by omega) (wpS (.inl ⟨rfl,dO⟩))
 refine gm (by omega) (gm (by simp only;omega) ?_)
 have key:∀ (m i c:Nat),N.length - c<m→c≤i→∀ x,N[i]?=some x→Wp (walk_At_l0 F L ⟨N⟩ at_ m (k:Int) (i:Int) (c:Int)) (Dn N k i):=by
  intro m
  induction m with
  | zero=>intro i c h1 h2 x hx;have:=gf hx;omega
  | succ m ih=>
   intro i c ad ae x hx
   have hi:=gf hx
   rw [walk_At_l0]
   refine aP (by simp only;omega) (aP (by simp only;omega) ?_)
   rw [b2]
   simp only [hx]
   have GD:∀ c∈x.Kids,0≤c∧c<N.length:=fun c hc=>by
    obtain ⟨y,aa,ab,_⟩:=(h.cU i x hx).1.mem c hc
    omega
   have ag:x.Kids.length≤2000:=by have:=oW (au hx);have:=h.sum;omega
   refine aU rfl (bh (FW F N k x.Kids (by omega) (by omega) GD) ?_)
   rintro r hr
   rcases hr with ⟨rfl,dO⟩ | ⟨j,c',y,rfl,hc,hy,I,J,_⟩
   ·exact aP (by omega) (wpS (.stop hx fun c hc hh=>by obtain ⟨y,I,J⟩:=hh;exact dO c hc y I J))
   ·refine gm (by omega) (aP (by omega) ?_)
    have hj:=fA hc
    refine aU rfl (aP (by omega) ?_)
    rw [b2,hc]
    refine aU rfl ?_
    have hm:=au hc
    obtain ⟨w,aa,ab,ah,ai,_⟩:=(h.cU i x hx).1.mem c' hm
    have hw:af ((c:Int)+1)=((c+1:Nat):Int):=by rw [aZ (by omega) (by omega)];omega
    have e:c'=((c'.toNat:Nat):Int):=by omega
    rw [hw]
    have:=ih c'.toNat (c+1) (by omega) (by omega) y hy
    rw [← e] at this
    exact this.mono fun r hr=> .step hx (e ▸ hm) (e ▸ ⟨y,hy,I,J⟩) hr
 obtain ⟨r,r1,_⟩:=h.root
 refine bh (key F 0 0 (by omega) (Nat.le_refl _) r r1) ?_
 intro r hr
 exact wpS (.inr ⟨k,t,ht,t1,t2,hr⟩)
theorem y5 (F:Nat) (L:List al) (T:bK) (at_:Int) (hL:L.length≤1000):∀ (m i:Nat) (k:Int),L.length - i<m→((k= -1∧∀ (j:Nat) t,j<i→L[j]?=some t→¬ (t.ah≤at_∧at_<t.To))∨∃ (j:Nat) (t:al),k=(j:Int)∧L[j]?=some t∧t.ah≤at_∧at_<t.To)→
  Wp (kz F L T at_ m k (i:Int)) (fun k=>(k= -1∧∀ (j:Nat) t,L[j]?=some t→¬ (t.ah≤at_∧at_<t.To))∨∃ (j:Nat) (t:al),k=(j:Int)∧L[j]?=some t∧t.ah≤at_∧at_<t.To):=by
 intro m
 induction m with
 | zero=>intro i k h1;omega
 | succ m ih=>
  intro i k h1 h2
  rw [kz]
  refine az (fun c=>?_) (fun c=>wpS ?_)
  ·have hi:i<L.length:=by omega
   have hg:=aX hi
   have hw:af ((i:Int)+1)=((i+1:Nat):Int):=by rw [aZ (by omega) (by omega)];omega
   have hb:0≤(i:Int)∧(i:Int)<(L.length:Int):=by omega
   simp only [if_pos hb,b2,hg,hw]
   have go:∀ z:Int,((z=k∧¬ (L[i].ah≤at_∧at_<L[i].To))∨(z=i∧L[i].ah≤at_∧at_<L[i].To))→Wp (kz F L T at_ m z ((i+1:Nat):Int)) (fun k=>(k= -1∧∀ (j:Nat) t,L[j]?=some t→¬ (t.ah≤at_∧at_<t.To))∨∃ (j:Nat) (t:al),k=(j:Int)∧L[j]?=some t∧t.ah≤at_∧at_<t.To):=by
    rintro z hz
    refine ih (i+1) z (by clear h2 hz;omega) ?_
    rcases hz with ⟨rfl,hz⟩ | ⟨rfl,hz⟩
    ·rcases h2 with ⟨rfl,h2⟩ | h2
     ·refine .inl ⟨rfl,fun j t hj ht=>?_⟩
      by_cases e:j=i
      ·subst e;rw [hg] at ht;simp only [Option.some.injEq] at ht;subst ht;exact hz
      ·exact h2 j t (by omega) ht
     ·exact .inr h2
    ·exact .inr ⟨i,_,rfl,hg,hz⟩
   refine bh (Q:=fun z=>(z=k∧¬ (L[i].ah≤at_∧at_<L[i].To))∨(z=i∧L[i].ah≤at_∧at_<L[i].To)) ?_ go
   exact aU rfl (az (fun a=>aU rfl (az (fun b=>wpS (.inr ⟨rfl,a,b⟩)) (fun b=>wpS (.inl ⟨rfl,fun q=>b q.2⟩)))) (fun a=>wpS (.inl ⟨rfl,fun q=>a q.1⟩)))
  ·rcases h2 with ⟨rfl,h2⟩ | h2
   ·exact .inl ⟨rfl,fun j t ht=>h2 j t (by have:=fA ht;omega) ht⟩
   ·exact .inr h2
theorem BQ (F:Nat) (L:List al) {N:List aq} {n:Int} (h:G N n) (at_ k:Int) {i:Nat} {x:aq} (hx:N[i]?=some x) (jq:x.Kids.length≤2000):∀ (m j:Nat) (z:Int),x.Kids.length - j<m→((z= -1∧∀ c∈x.Kids.take j,¬ Hs N k c)∨(z∈x.Kids∧Hs N k z))→
  Wp (correctorref13_At_l2 F L ⟨N⟩ at_ m k (i:Int) z x.Kids (j:Int)) (fun o=>o.1=k∧o.2.1=i∧((o.2.2= -1∧∀ c∈x.Kids,¬ Hs N k c)∨(o.2.2∈x.Kids∧Hs N k o.2.2))):=by
 intro m
 induction m with
 | zero=>intro j z h1;omega
 | succ m ih=>
  intro j z h1 h2
  rw [correctorref13_At_l2]
  refine az (fun c=>?_) (fun c=>wpS ⟨rfl,rfl,?_⟩)
  ·have hj:j<x.Kids.length:=by omega
   have hg:=aX hj
   have hm:=au hg
   obtain ⟨y,aa,ab,J,ad,_⟩:=(h.cU i x hx).1.mem _ hm
   have hw:af ((j:Int)+1)=((j+1:Nat):Int):=by rw [aZ (by omega) (by omega)];omega
   have hb:0≤(j:Int)∧(j:Int)<(x.Kids.length:Int):=by omega
   have hv:0≤x.Kids[j]∧x.Kids[j]<(N.length:Int):=by omega
   simp only [if_pos hb,b2,hg,hw]
   refine bh (Q:=fun o=>o.2=x.Kids∧((o.1=z∧¬ Hs N k x.Kids[j])∨(o.1=x.Kids[j]∧Hs N k x.Kids[j]))) ?_ ?_
   ·refine aU rfl (aP hv ?_)
    rw [J]
    have no:¬ (y.ah≤k∧k<y.To)→¬ Hs N k x.Kids[j]:=by
     rintro q ⟨w,w1,w2⟩
     rw [J] at w1;simp only [Option.some.injEq] at w1;subst w1;exact q w2
    refine aU rfl (az (fun a=>?_) (fun a=>wpS ⟨rfl, .inl ⟨rfl,no fun q=>a q.1⟩⟩))
    refine aU rfl (aP hv ?_)
    rw [J]
    refine aU rfl (az (fun b=>?_) (fun b=>wpS ⟨rfl, .inl ⟨rfl,no fun q=>b q.2⟩⟩))
    exact aU rfl (wpS ⟨rfl, .inr ⟨rfl,y,J,a,b⟩⟩)
   ·rintro ⟨z',l⟩ ⟨e1,I⟩
    simp only at e1 I ⊢
    rw [e1]
    refine ih (j+1) z' (by omega) ?_
    rcases I with ⟨rfl,I⟩ | ⟨rfl,I⟩
    ·rcases h2 with ⟨h2,U⟩ | h2
     ·refine .inl ⟨h2,fun c hc=>?_⟩
      rw [List.take_succ_eq_append_getElem hj] at hc
      rcases List.mem_append.1 hc with hc | hc
      ·exact U c hc
      ·simp only [List.mem_singleton] at hc;rw [hc];exact I
     ·exact .inr h2
    ·exact .inr ⟨hm,I⟩
  ·rcases h2 with ⟨h2,U⟩ | h2
   ·exact .inl ⟨h2,fun c hc=>U c (by rw [List.take_of_length_le (by omega)];exact hc)⟩
   ·exact .inr h2
theorem BD (F:Nat) (hF:2500≤F) {L:List al} {N:List aq} {n:Int} (h:G N n) (hL:L.length≤1000) (hN:N.length≤2000) (at_:Int):Wp (j0 F L ⟨N⟩ at_) (Ab L N at_):=by
 have eN:=h.pos
 unfold j0
 refine bh (y5 F L ⟨N⟩ at_ hL F 0 (-1) (by omega) (.inl ⟨rfl,fun j t hj=>by omega⟩)) ?_
 rintro r hr
 rcases hr with ⟨rfl,dO⟩ | ⟨k,t,rfl,ht,t1,t2⟩
 ·exact aP (by omega) (wpS (.inl ⟨rfl,dO⟩))
 refine gm (by omega) ?_
 have key:∀ (m i:Nat),N.length - i<m→∀ x,N[i]?=some x→Wp (correctorref13_At_l1 F L ⟨N⟩ at_ m (k:Int) (i:Int)) (Dn N k i):=by
  intro m
  induction m with
  | zero=>intro i h1;omega
  | succ m ih=>
   intro i h1 x hx
   have hi:=gf hx
   have U:x.Kids.length≤2000:=by have:=oW (au hx);have:=h.sum;omega
   rw [correctorref13_At_l1]
   refine aP (by simp only;omega) ?_
   simp only [b2,hx]
   refine aU rfl (bh (BQ F L h at_ k hx U F 0 (-1) (by omega) (.inl ⟨rfl,fun c hc=>by simp at hc⟩)) ?_)
   rintro ⟨a,b,z⟩ ⟨e1,J,I⟩
   simp only at e1 J I ⊢
   subst e1;subst J
   rcases I with ⟨rfl,I⟩ | ⟨I,aa⟩
   ·exact aP (by omega) (wpS (.stop hx I))
   ·obtain ⟨w,ad,ae,ab,af,_⟩:=(h.cU i x hx).1.mem z I
    have e:z=((z.toNat:Nat):Int):=by omega
    refine gm (by omega) ?_
    have:=ih z.toNat (by omega) w ab
    rw [← e] at this
    exact this.mono fun r hr=> .step hx (e ▸ I) (e ▸ aa) hr
 obtain ⟨r,r1,_⟩:=h.root
 refine bh (key F 0 (by omega) r r1) ?_
 intro r hr
 exact wpS (.inr ⟨k,t,ht,t1,t2,hr⟩)
theorem vK (F:Nat) (hF:2500≤F) {L:List al} {N:List aq} {e:Int} (hT:Tg 0 L e) (h:G N L.length) (hL:L.length≤1000) (hN:N.length≤2000) (at_:Int):∃ r,jm F L ⟨N⟩ at_=some r∧j0 F L ⟨N⟩ at_=some r:=by
 obtain ⟨r,h1,h2⟩:=BT F hF hT h hL hN at_
 obtain ⟨r',j,I⟩:=BD F hF h hL hN at_
 have:=h2.rX hT h I
 subst this
 exact ⟨r,h1,j⟩
theorem xh (F:Nat) (hF:2500≤F) {N:List aq} {n:Int} (h:G N n) (hN:N.length≤2000) (i:Int):∃ p,kg F ⟨N⟩ i=some p∧mf F ⟨N⟩ i=some p∧p.length≤3000:=by
 have eN:=h.pos
 by_cases c:0≤i∧i<N.length
 ·obtain ⟨p,h1,h2⟩:=xJ F hF h hN i.toNat (by omega)
  rw [Int.toNat_of_nonneg c.1] at h1 h2
  have hlen:∀ (f:Nat) (a:Int),(ups N f a).length≤f:=by
   intro f
   induction f with
   | zero=>intro a;simp [ups]
   | succ f ih=>
    intro a
    rw [ups]
    split
    ·rw [List.length_cons]
     split
     ·have:=ih (by assumption:aq).Up;omega
     ·simp
    ·simp
  have key:∀ (m f:Nat) (a:Int) (out:List Int),f+1<m→a<f→a<N.length→out.length+f≤3000→Wp (correctorref13_Path_l0 F ⟨N⟩ i m out a) (fun p=>p=(ups N f a).reverse++out):=by
   intro m
   induction m with
   | zero=>intro f a out h1;omega
   | succ m ih=>
    intro f a out h1 h2 I aa
    rw [correctorref13_Path_l0]
    refine az (fun c=>?_) (fun c=>wpS ?_)
    ·have hl:a.toNat<N.length:=by omega
     have hg:=aX hl
     have hu:=h.nC _ _ hg
     obtain ⟨f,rfl⟩:∃ k,f=k+1:=⟨f - 1,by omega⟩
     refine aP (by rw [cQ];omega) (aP ⟨c,I⟩ ?_)
     simp only [hg]
     refine aU rfl ?_
     have:=ih f N[a.toNat].Up ([a]++out) (by omega) (by omega) (by omega) (by rw [b7,cQ];omega)
     refine this.mono fun p hp=>?_
     rw [hp,ups,if_pos c,hg]
     simp
    ·cases f with
     | zero=>simp [ups]
     | succ f=>rw [ups,if_neg c];simp
  obtain ⟨q,J,j⟩:=key F (i.toNat+1) i [] (by omega) (by omega) c.2 (by simp;omega)
  rw [List.append_nil] at j
  subst j
  subst h2
  refine ⟨_,h1,?_,?_⟩
  ·unfold mf
   rw [if_neg (by omega),if_neg (by simp only;omega),J];rfl
  ·rw [List.length_reverse]
   have:=hlen (i.toNat+1) i
   omega
 ·refine ⟨[],?_,?_,by simp⟩
  ·obtain ⟨F,rfl⟩:∃ k,F=k+1:=⟨F - 1,by omega⟩
   unfold kg
   rw [walk_Path_l0,pS,decide_eq_false c]
   obtain ⟨r,r1,U⟩:=tm (F+1) [] (by simp) (by simp;omega)
   simp only [ax,if_neg Bool.false_ne_true,r1,U]
   rfl
  ·unfold mf
   by_cases c1:i<0
   ·rw [if_pos c1]
   ·rw [if_neg c1,if_pos (by simp only;omega)]
theorem u0 (F:Nat) (p:List Int) (hp:p.length≤5000) (hF:5500≤F):j3 F p p=some true:=by
 have key:∀ (m i:Nat),p.length - i<m→Wp (correctorlaw13_ints_l0 F p p m (i:Int)) (fun s=>s= .inl ()):=by
  intro m
  induction m with
  | zero=>intro i h1;omega
  | succ m ih=>
   intro i h1
   rw [correctorlaw13_ints_l0]
   refine az (fun c=>?_) (fun c=>wpS rfl)
   have hi:i<p.length:=by omega
   have hg:=aX hi
   have hw:af ((i:Int)+1)=((i+1:Nat):Int):=by rw [aZ (by omega) (by omega)];omega
   have hb:0≤(i:Int)∧(i:Int)<(p.length:Int):=by omega
   simp only [if_pos hb,b2,hg,hw]
   exact aU rfl (aU rfl (aP rfl (ih (i+1) (by omega))))
 have:Wp (j3 F p p) (fun b=>b=true):=by
  unfold j3
  refine aP rfl (bh (key F 0 (by omega)) ?_)
  rintro s rfl
  exact wpS rfl
 obtain ⟨b,h1,rfl⟩:=this
 exact h1
theorem Bc (F:Nat) (L:List al) (x:aq) (hL:L.length≤1000) (h0:0≤x.ah) (h1:x.ah≤x.To) (h2:x.To≤L.length):∃ s,walk_Span F L x=some s∧oh F L x=some s:=by
 unfold walk_Span qn oh
 by_cases c:x.ah<x.To
 ·have hw:af (x.To - 1)=x.To - 1:=aZ (by omega) (by omega)
  have j:0≤x.ah∧x.ah<(L.length:Int):=by omega
  have I:0≤x.To - 1∧x.To - 1<(L.length:Int):=by omega
  have e1:=aX (show x.ah.toNat<L.length by omega)
  have J:=aX (show (x.To - 1).toNat<L.length by omega)
  refine ⟨⟨L[x.ah.toNat].ah,L[(x.To - 1).toNat].To⟩,?_,?_⟩<;>simp only [if_pos c,if_pos h0,if_pos h2,hw,ax,if_true,if_pos j,if_pos I,e1,J]
 ·by_cases c2:x.ah<L.length
  ·have j:0≤x.ah∧x.ah<(L.length:Int):=by omega
   have e1:=aX (show x.ah.toNat<L.length by omega)
   refine ⟨⟨L[x.ah.toNat].ah,L[x.ah.toNat].ah⟩,?_,?_⟩<;>simp only [if_neg c,if_pos h0,if_pos c2,ax,if_true,if_neg Bool.false_ne_true,if_pos j,e1]
  ·by_cases U:(0:Int)<L.length
   ·have hw:af ((L.length:Int) - 1)=(L.length:Int) - 1:=aZ (by omega) (by omega)
    have I:0≤(L.length:Int) - 1∧(L.length:Int) - 1<(L.length:Int):=by omega
    have J:=aX (show ((L.length:Int) - 1).toNat<L.length by omega)
    refine ⟨⟨L[((L.length:Int) - 1).toNat].To,L[((L.length:Int) - 1).toNat].To⟩,?_,?_⟩<;>simp only [if_neg c,if_pos h0,if_neg c2,if_pos U,hw,ax,if_neg Bool.false_ne_true,if_pos I,J]
   ·refine ⟨⟨0,0⟩,?_,?_⟩<;>simp only [if_neg c,if_pos h0,if_neg c2,if_neg U,ax,if_neg Bool.false_ne_true]
theorem A0 (F:Nat) (N:List aq) (hN:N.length≤100000) (hF:N.length+10<F):∃ e,nA F ⟨N⟩=some e∧m4 F ⟨N⟩=some e:=by
 have key:∀ (m:Nat) (e:Int) (i:Nat),N.length - i<m→∃ z,walk_Errors_l0 F ⟨N⟩ m e (i:Int)=some z∧correctorref13_Errors_l0 F ⟨N⟩ m e (i:Int)=some z:=by
  intro m
  induction m with
  | zero=>intro e i h1;omega
  | succ m ih=>
   intro e i h1
   rw [walk_Errors_l0,correctorref13_Errors_l0]
   by_cases c:(i:Int)<(N.length:Int)
   ·have hi:i<N.length:=by omega
    have hg:=aX hi
    have hw:af ((i:Int)+1)=((i+1:Nat):Int):=by rw [aZ (by omega) (by omega)];omega
    have hb:0≤(i:Int)∧(i:Int)<(N.length:Int):=by omega
    simp only [if_pos c,if_pos hb,b2,hg,hw,ax]
    by_cases q:N[i].Kind=11
    ·simp only [if_pos q,ax];exact ih _ (i+1) (by omega)
    ·simp only [if_neg q,ax];exact ih _ (i+1) (by omega)
   ·simp only [if_neg c];exact ⟨e,rfl,rfl⟩
 obtain ⟨z,h1,h2⟩:=key F 0 0 (by omega)
 unfold nA m4
 rw [show ((0:Nat):Int)=0 from rfl] at h1 h2
 rw [h1,h2]
 exact ⟨z,rfl,rfl⟩
end
section
open Go Am Sy
inductive An (N:List aq) (y:Int):Int→Prop
 | same:An N y y
 | up {c:Int} {x:aq}:0≤c→N[c.toNat]?=some x→An N y x.Up→An N y c
theorem An.le {N:List aq} {n y c:Int} (h:G N n) (a:An N y c):y≤c:=by
 induction a with
 | same=>exact Int.le_refl _
 | up h0 hx _ ih=>have:=h.nC _ _ hx;omega
theorem An.out {N:List aq} {y c:Int} {x:aq} (h0:0≤y) (hx:N[y.toNat]?=some x) (a:An N y c):An N x.Up c:=by
 induction a with
 | same=>exact .up h0 hx .same
 | up h1 hz _ ih=>exact .up h1 hz ih
theorem An.two {N:List aq} {y y' c:Int} (a:An N y c):An N y' c→An N y y'∨An N y' y:=by
 induction a with
 | same=>exact .inr
 | up h1 hz a ih=>
  intro b
  cases b with
  | same=>exact .inl (.up h1 hz a)
  | up h2 hw b=>
   rw [hz] at hw;simp only [Option.some.injEq] at hw;subst hw
   exact ih b
theorem An.Bn {N:List aq} {n k y y' c:Int} (h:G N n) {x x':aq} (hx:N[y.toNat]?=some x) (h4:N[y'.toNat]?=some x') (hk:k<y) (ir:k<y') (hu:x.Up=k) (iz:x'.Up=k) (a:An N y c) (b:An N y' c):y=y':=by
 have go:∀ {y y':Int} {x':aq},N[y'.toNat]?=some x'→k<y→x'.Up=k→An N y y'→y=y':=by
  intro y y' x' h4 hk iz a
  cases a with
  | same=>rfl
  | up h0 hz a=>
   rw [h4] at hz;simp only [Option.some.injEq] at hz;subst hz
   have:=a.le h
   omega
 rcases a.two b with q | q
 ·exact go h4 hk iz q
 ·exact (go hx ir hu q).symm
def pre (N:List aq):Nat→Int→List Int
 | 0,_=>[]
 | f+1,k=>k::(match N[k.toNat]? with | some x=>x.Kids.flatMap (pre N f) | none=>[])
theorem Em {N:List aq} {n:Int} (h:G N n):∀ (f:Nat) (k:Nat),∀ c∈pre N f k,An N k c:=by
 intro f
 induction f with
 | zero=>intro k c hc;simp [pre] at hc
 | succ f ih=>
  intro k c hc
  rw [pre] at hc
  rcases List.mem_cons.1 hc with rfl | hc
  ·exact .same
  rw [b2] at hc
  cases hx:N[k]? with
  | none=>rw [hx] at hc;simp at hc
  | some x=>
   rw [hx] at hc
   obtain ⟨y,hy,hc⟩:=List.mem_flatMap.1 hc
   obtain ⟨z,J,U,j,I,_⟩:=(h.cU k x hx).1.mem y hy
   have e:y=((y.toNat:Nat):Int):=by omega
   rw [e] at hc
   have:=ih y.toNat c hc
   rw [← e] at this
   rw [← I]
   exact this.out (by omega) j
structure OI (N:List aq) (seen:List Bool) (out:List Int):Prop where
 len:seen.length=N.length
 seen:∀ (j:Nat),j<N.length→seen[j]?=some (decide ((j:Int)∈out))
 nd:out.Nodup
 iy:∀ c∈out,0≤c∧c<N.length
theorem OI.size {N:List aq} {seen:List Bool} {out:List Int} (h:OI N seen out):out.length≤N.length:=by
 have hm:(out.map Int.toNat).Nodup:=by
  refine List.Pairwise.map _ (fun a b fw=>fw) ?_
  refine List.Pairwise.imp_of_mem (fun {a b} ha hb fw e=>fw ?_) h.nd
  have:=h.iy a ha
  have:=h.iy b hb
  omega
 have:=tQ N.length (out.map Int.toNat) hm (fun x hx=>by
  obtain ⟨c,hc,rfl⟩:=List.mem_map.1 hx
  have:=h.iy c hc;omega)
 rwa [List.length_map] at this
theorem OI.push {N:List aq} {seen:List Bool} {out:List Int} (h:OI N seen out) {k:Nat} {x:aq} (hx:N[k]?=some x) (hk:(k:Int)∉out):OI N (seen.set k true) (out++[(k:Int)]):=by
 have jq:=gf hx
 refine ⟨by rw [List.length_set];exact h.len,fun j hj=>?_,?_,fun c hc=>?_⟩
 ·by_cases e:j=k
  ·subst e
   rw [List.getElem?_set_self (by rw [h.len];exact jq)];simp
  ·rw [List.getElem?_set_ne (Ne.symm e),h.seen j hj]
   congr 1
   have:(j:Int)≠k:=by omega
   simp [this]
 ·refine List.nodup_append.2 ⟨h.nd,by simp,fun a ha b hb e=>?_⟩
  simp only [List.mem_singleton] at hb
  subst hb;subst e;exact hk ha
 ·rcases List.mem_append.1 hc with hc | hc
  ·exact h.iy c hc
  ·simp only [List.mem_singleton] at hc;omega
theorem Gl {l:List Int} (hn:l.Nodup) {j:Nat} (hj:j<l.length):l[j]∉l.take j:=fun hm=>by
 have I:(l.take j++l[j]::l.drop (j+1)).Nodup:=by rw [← List.drop_eq_getElem_cons hj,List.take_append_drop];exact hn
 exact (List.nodup_append.1 I).2.2 _ hm _ List.mem_cons_self rfl
theorem Bu (F:Nat) (hF:2500≤F) {N:List aq} {n:Int} (h:G N n) (hN:N.length≤2000):∀ (m f k:Nat) (seen:List Bool) (out:List Int) (x:aq),N.length - k<m→N.length - k<f→N[k]?=some x→OI N seen out→(∀ c∈out,¬ An N k c)→
  Wp (mw F m (k:Int) ⟨N⟩ seen out) (fun z=>OI N z.1 z.2∧z.2=out++pre N f k):=by
 intro m
 induction m with
 | zero=>intro f k seen out x h1;omega
 | succ m ih=>
  intro f k seen out x h1 hf hx hO hu
  obtain ⟨f,rfl⟩:∃ g,f=g+1:=⟨f - 1,by omega⟩
  have hk:=gf hx
  have jq:x.Kids.length≤2000:=by have:=oW (au hx);have:=h.sum;omega
  have cc:=hO.size
  have hb:0≤(k:Int)∧(k:Int)<(N.length:Int):=by omega
  have oV:0≤(k:Int)∧(k:Int)<(seen.length:Int):=by rw [hO.len];exact hb
  have hm:(k:Int)∉out:=fun q=>hu _ q .same
  show Wp (ou F (mw F m) (k:Int) ⟨N⟩ seen out) _
  unfold ou
  rw [pS,decide_eq_true hb]
  simp only [if_pos oV,if_pos hb,b2,hO.seen k hk,hx]
  refine aU rfl (aP rfl (aU rfl (gm (by simpa using hm) ?_)))
  have ab:=hO.push hx hm
  refine aU rfl (aP (by rw [cQ];omega) (aU rfl ?_))
  have key:∀ (q j:Nat) (sj:List Bool) (oj:List Int),x.Kids.length - j<q→j≤x.Kids.length→OI N sj oj→oj=(out++[(k:Int)])++(x.Kids.take j).flatMap (pre N f)→
    Wp (walk_Order_1_l0 F (mw F m) (k:Int) ⟨N⟩ seen out q x.Kids (x.Kids.length:Int) (j:Int) sj oj) (fun z=>OI N z.1 z.2∧z.2=(out++[(k:Int)])++x.Kids.flatMap (pre N f)):=by
   intro q
   induction q with
   | zero=>intro j sj oj ad;omega
   | succ q iq=>
    intro j sj oj ad aj U I
    rw [walk_Order_1_l0]
    refine az (fun c=>?_) (fun c=>wpS ⟨U,by rw [← List.take_of_length_le (show x.Kids.length≤j by omega)];exact I⟩)
    have hj:j<x.Kids.length:=by omega
    have hg:=aX hj
    obtain ⟨y,ae,an,J,aa,_⟩:=(h.cU k x hx).1.mem _ (au hg)
    have hw:af ((j:Int)+1)=((j+1:Nat):Int):=by rw [aZ (by omega) (by omega)];omega
    have e:x.Kids[j]=((x.Kids[j].toNat:Nat):Int):=by omega
    have dO:∀ c∈oj,¬ An N x.Kids[j] c:=by
     intro c hc a
     have ak:An N k c:=aa ▸ a.out (by omega) J
     rw [I] at hc
     rcases List.mem_append.1 hc with hc | hc
     ·rcases List.mem_append.1 hc with hc | hc
      ·exact hu c hc ak
      ·simp only [List.mem_singleton] at hc
       have:=a.le h
       omega
     ·obtain ⟨y',k9,hc⟩:=List.mem_flatMap.1 hc
      obtain ⟨z,ag,ao,ah,ai,_⟩:=(h.cU k x hx).1.mem y' (List.mem_of_mem_take k9)
      have e':y'=((y'.toNat:Nat):Int):=by omega
      rw [e'] at hc
      have b:=Em h f y'.toNat c hc
      rw [← e'] at b
      have:=An.Bn h J ah ae ag aa ai a b
      rw [← this] at k9
      exact Gl (h.nd x (au hx)) hj k9
    rw [e] at dO
    have hv:=ih f x.Kids[j].toNat sj oj y (by omega) (by omega) J U dO
    rw [← e] at hv
    refine aP (by omega) ?_
    rw [b2,hg]
    refine aU rfl (bh hv ?_)
    rintro ⟨s',o'⟩ ⟨v1,v2⟩
    simp only at v1 v2 ⊢
    rw [hw]
    refine iq (j+1) s' o' (by omega) (by omega) v1 ?_
    rw [v2,I,List.take_succ_eq_append_getElem hj,List.flatMap_append,List.flatMap_singleton,List.append_assoc]
  refine bh (key F 0 _ _ (by omega) (by omega) ab (by simp)) ?_
  rintro ⟨s',o'⟩ ⟨v1,v2⟩
  simp only at v1 v2 ⊢
  refine wpS ⟨v1,?_⟩
  simp only
  rw [v2,pre,b2,hx]
  simp
theorem EW {g:Int→List Int}:∀ (l:List Int) (j:Nat) (hj:j<l.length),((l.take j).flatMap g).length+(g l[j]).length≤(l.flatMap g).length:=by
 intro l j hj
 have:l.flatMap g=(l.take j).flatMap g++(g l[j]++(l.drop (j+1)).flatMap g):=by
  rw [← List.flatMap_cons,← List.flatMap_append,← List.drop_eq_getElem_cons hj,List.take_append_drop]
 rw [this,b7,b7];omega
theorem Ep (F:Nat) (hF:2500≤F) {N:List aq} {n:Int} (h:G N n) (hN:N.length≤2000):∀ (m f k:Nat) (x:aq),N.length - k<m→N.length - k<f→N[k]?=some x→(pre N f k).length≤2000→Wp (l2 F m ⟨N⟩ (k:Int)) (fun l=>l=pre N f k):=by
 intro m
 induction m with
 | zero=>intro f k x h1;omega
 | succ m ih=>
  intro f k x h1 hf hx hp
  obtain ⟨f,rfl⟩:∃ g,f=g+1:=⟨f - 1,by omega⟩
  have hk:=gf hx
  have jq:x.Kids.length≤2000:=by have:=oW (au hx);have:=h.sum;omega
  have hb:0≤(k:Int)∧(k:Int)<(N.length:Int):=by omega
  have uc:pre N (f+1) k=(k:Int)::x.Kids.flatMap (pre N f):=by rw [pre,b2,hx]
  rw [uc,List.length_cons] at hp
  show Wp (mV F (l2 F m) ⟨N⟩ (k:Int)) _
  unfold mV
  have key:∀ (q j:Nat),x.Kids.length - j<q→j≤x.Kids.length→
    Wp (lM F (l2 F m) ⟨N⟩ (k:Int) q ([(k:Int)]++(x.Kids.take j).flatMap (pre N f)) (j:Int)) (fun l=>l=(k:Int)::x.Kids.flatMap (pre N f)):=by
   intro q
   induction q with
   | zero=>intro j I;omega
   | succ q iq=>
    intro j I U
    rw [lM]
    simp only [if_pos hb,b2,hx]
    refine aU rfl (az (fun c=>?_) (fun c=>wpS (by rw [List.take_of_length_le (show x.Kids.length≤j by omega)];rfl)))
    have hj:j<x.Kids.length:=by omega
    have hg:=aX hj
    have C7:0≤(j:Int)∧(j:Int)<(x.Kids.length:Int):=by omega
    obtain ⟨y,aa,ab,J,ad,_⟩:=(h.cU k x hx).1.mem _ (au hg)
    have hw:af ((j:Int)+1)=((j+1:Nat):Int):=by rw [aZ (by omega) (by omega)];omega
    have e:x.Kids[j]=((x.Kids[j].toNat:Nat):Int):=by omega
    have hl:=EW (g:=pre N f) x.Kids j hj
    rw [e] at hl
    have hv:=ih f x.Kids[j].toNat y (by omega) (by omega) J (by omega)
    rw [← e] at hv hl
    refine aU rfl (aP C7 ?_)
    simp only [hg,hw]
    refine aU rfl (bh hv ?_)
    rintro r rfl
    refine aP (by rw [b7,cQ];omega) ?_
    have:=iq (j+1) (by omega) (by omega)
    rw [List.take_succ_eq_append_getElem hj,List.flatMap_append] at this
    simpa using this
  have:=key F 0 (by omega) (by omega)
  rw [uc]
  refine bh (Q:=fun l=>l=(k:Int)::x.Kids.flatMap (pre N f)) ?_ (fun l hl=>wpS hl)
  simpa using this
theorem Cf (F:Nat) (hF:2500≤F) {N:List aq} {n:Int} (h:G N n) (hN:N.length≤2000):∃ l,nU F ⟨N⟩=some l∧oX F ⟨N⟩=some l∧l.length≤2000:=by
 have eN:=h.pos
 obtain ⟨r,r1,_⟩:=h.root
 have h0:OI N (List.replicate (N.length:Int).toNat false) []:=by
  refine ⟨by simp,fun j hj=>?_,List.nodup_nil,fun c hc=>(by cases hc)⟩
  rw [List.getElem?_replicate,if_pos (by simpa using hj)];simp
 obtain ⟨⟨s,o⟩,v1,v2,I⟩:=Bu F hF h hN F (N.length+1) 0 _ [] r (by omega) (by omega) r1 h0 (fun c hc=>by cases hc)
 have I:o=pre N (N.length+1) ((0:Nat):Int):=by simpa using I
 have v2:OI N s o:=v2
 have cc:=v2.size
 rw [I] at cc
 obtain ⟨l,J,U⟩:=Ep F hF h hN F (N.length+1) 0 r (by omega) (by omega) r1 (by omega)
 refine ⟨pre N (N.length+1) ((0:Nat):Int),?_,?_,by omega⟩
 ·unfold nU sU
  rw [if_pos (by simp only;omega)]
  rw [show ((0:Nat):Int)=0 from rfl] at v1
  simp only [v1,ax]
  unfold lT
  rw [I]
  rw [if_pos (by rw [List.length_nil];omega)]
  simp
 ·unfold oX r3
  rw [if_neg (by simp only;omega)]
  rw [show ((0:Nat):Int)=0 from rfl] at J
  rw [J,U];rfl
end
section
open Go Am Sy
theorem u3 (F:Nat) (a n:Int) (hn:0<n) (hm:n≤1000000000):ox F a n=some (wi a n):=uy F a n hn hm
theorem Da (F:Nat) (hF:2500≤F) (ls:List Int):Wp (nw F ls) (fun b=>b.length≤450):=by
 have key:∀ (m:Nat) (s:ar) (i:Nat),31 - i<m→i≤30→s.b.length≤15 * i→Wp (correctorlaw12_Lines_l0 F ls m s (i:Int)) (fun s'=>s'.b.length≤450):=by
  intro m
  induction m with
  | zero=>intro s i h1;omega
  | succ m ih=>
   intro s i h1 h2 J
   rw [correctorlaw12_Lines_l0]
   refine az (fun c=>?_) (fun c=>wpS (by omega))
   refine az (fun c2=>?_) (fun c2=>wpS (by omega))
   have hw:af ((i:Int)+1)=((i+1:Nat):Int):=by rw [aZ (by omega) (by omega)];omega
   refine aP (by omega) (aC (ba (by omega) fun t ht=>?_))
   have hr:=pc t 7 (by omega)
   refine aU (u3 F t 7 (by omega) (by omega)) ?_
   generalize wi t 7=k at hr
   have hl:((([32,32,32,32,32,32,32,32]:List UInt8).take k.toNat).drop (0:Int).toNat).length≤6:=by
    rw [show (0:Int).toNat=0 from rfl,List.drop_zero,List.length_take];omega
   refine aP (by simp only [List.length_cons,List.length_nil];omega) (aP (by omega) (aP (by omega) (aC (ba (by omega) fun u hu=>?_))))
   have I:=pc (af (u.tdiv 7)) 20 (by omega)
   refine aU (u3 F _ 20 (by omega) (by omega)) ?_
   generalize wi (af (u.tdiv 7)) 20=j at I
   refine aP (by simp only [List.length_cons,List.length_nil];omega) (aC (ba (by simp only [List.length_cons,List.length_nil];omega) fun v hv=>?_))
   have U:v.b.length≤8:=by
    have hm:=au hv
    simp only [List.mem_cons,List.not_mem_nil,or_false] at hm
    rcases hm with rfl | rfl | rfl | rfl | rfl | rfl | rfl | rfl | rfl | rfl | rfl | rfl | rfl | rfl | rfl | rfl | rfl | rfl | rfl | rfl<;>simp
   have aa:(s.b++((([32,32,32,32,32,32,32,32]:List UInt8).take k.toNat).drop (0:Int).toNat)).length≤15 * i+6:=by rw [b7];omega
   refine aP (by omega) (aP (by rw [b7,cQ];omega) ?_)
   rw [hw]
   refine ih _ (i+1) (by omega) (by omega) ?_
   show (List.length (_++_))≤_
   rw [b7,b7,cQ];omega
 unfold nw
 refine bh (key F ⟨[]⟩ 0 (by omega) (by omega) (by simp)) fun s hs=>wpS hs
theorem BP (F:Nat) (hF:F=6000) (a0 a1:List Int) (j:List UInt8) (J U:Int) {L:List al} {N:List aq} {e:Int} (hT:Tg 0 L e) (h:G N L.length) (hL:L.length≤1000) (hN:N.length≤2000) {I:List (List UInt8)} {k:Int} {b:List UInt8} (hk:0≤k∧k<(I.length:Int)) (hb:I[k.toNat]?=some b) (gi:b.length≤450):
  ∀ (m:Nat) (i:Int), -1≤i→i≤b.length+1→(b.length:Int)+1 - i<m→Wp (correctorlaw13_WalkAll_l1 F a0 a1 j J U m I k L N N i) (fun s=>s= .inl (I,k,L,N,N)):=by
 intro m
 induction m with
 | zero=>intro i h1 h0 h2;omega
 | succ m ih=>
  intro i h1 h0 h2
  rw [correctorlaw13_WalkAll_l1]
  refine aP hk ?_
  rw [hb]
  refine aU rfl (az (fun c=>?_) (fun _=>wpS rfl))
  obtain ⟨r,r1,aa⟩:=vK F (by omega) hT h hL hN i
  rw [aZ (by omega) (by omega)]
  exact aU r1 (aU aa (aP rfl (ih (i+1) (by omega) (by omega) (by omega))))
theorem zP (F:Nat) (hF:F=6000) (a0 a1:List Int) (j:List UInt8) (J U:Int) {L:List al} {N:List aq} {n:Int} (h:G N n) (hN:N.length≤2000) {I:List (List UInt8)} {k:Int}:
  ∀ (m:Nat) (i:Int), -1≤i→i≤N.length+1→(N.length:Int)+1 - i<m→Wp (mB F a0 a1 j J U m I k L N N i) (fun s=>s= .inl (I,k,L,N,N)):=by
 intro m
 induction m with
 | zero=>intro i h1 h0 h2;omega
 | succ m ih=>
  intro i h1 h0 h2
  rw [mB]
  refine az (fun c=>?_) (fun _=>wpS rfl)
  obtain ⟨p,aa,ab,ad⟩:=xh F (by omega) h hN i
  rw [aZ (by omega) (by omega)]
  exact aU aa (aU ab (aU (u0 F p (by omega) (by omega)) (aP rfl (ih (i+1) (by omega) (by omega) (by omega)))))
theorem AK (F:Nat) (a0 a1:List Int) (j:List UInt8) (J U:Int) {L:List al} {N:List aq} (h:G N L.length) (hL:L.length≤1000) (hN:N.length≤2000) {I:List (List UInt8)} {k:Int}:
  ∀ (m i:Nat),N.length - i<m→Wp (l7 F a0 a1 j J U m I k L N N (i:Int)) (fun s=>s= .inl (I,k,L,N,N)):=by
 intro m
 induction m with
 | zero=>intro i h1;omega
 | succ m ih=>
  intro i h1
  rw [l7]
  refine az (fun c=>?_) (fun _=>wpS rfl)
  have hi:i<N.length:=by omega
  have hg:=aX hi
  have hw:af ((i:Int)+1)=((i+1:Nat):Int):=by rw [aZ (by omega) (by omega)];omega
  have hb:0≤(i:Int)∧(i:Int)<(N.length:Int):=by omega
  have hr:=h.iy (i+1) i (by omega) _ hg
  obtain ⟨s,s1,s2⟩:=Bc F L N[i] hL hr.1 hr.2.1 hr.2.2
  simp only [if_pos hb,b2,hg,hw]
  exact aU rfl (aU s1 (aU rfl (aU s2 (aP rfl (ih (i+1) (by omega))))))
theorem yV (F:Nat) (a0 a1:List Int) (J:List UInt8) (U j:Int) (hF:F=6000):nO F a0 a1 J U j=some true:=by
 have:Wp (nO F a0 a1 J U j) (fun b=>b=true):=by
  unfold nO
  rw [hF]
  refine aU Dx (aP rfl ?_)
  rw [← hF]
  refine bh (BZ F (by omega) a0 J) fun b hb=>?_
  refine bh (Da F (by omega) a1) fun b' eQ=>?_
  have hI:∀ (k:Nat) x,([b,b']:List (List UInt8))[k]?=some x→x.length≤450:=by
   intro k x hx
   have:=au hx
   simp only [List.mem_cons,List.not_mem_nil,or_false] at this
   rcases this with rfl | rfl<;>omega
  have xD:([b,b']:List (List UInt8)).length=2:=rfl
  generalize ([b,b']:List (List UInt8))=I at hI xD
  have key:∀ (m k:Nat),2 - k<m→Wp (correctorlaw13_WalkAll_l0 F a0 a1 J U j m I (k:Int)) (fun s=>s= .inl ()):=by
   intro m
   induction m with
   | zero=>intro k h1;omega
   | succ m ih=>
    intro k h1
    rw [correctorlaw13_WalkAll_l0]
    refine az (fun c=>?_) (fun _=>wpS rfl)
    have hw:af ((k:Int)+1)=((k+1:Nat):Int):=by rw [aZ (by omega) (by omega)];omega
    have hk:0≤(k:Int)∧(k:Int)<(I.length:Int):=by omega
    have hg:=aX (show k<I.length by omega)
    have hx:=hI k _ hg
    generalize I[k]=x at hg hx
    have hr:=pc j 12 (by omega)
    refine aP hk ?_
    rw [b2,hg]
    refine aU rfl (aU (uy F j 12 (by omega) (by omega)) ?_)
    rw [show af (1+wi j 12)=1+wi j 12 from aZ (by omega) (by omega)]
    refine bh (CK F (by omega) x (by omega) _ (by omega)) ?_
    rintro ⟨L,T,D⟩ ⟨h1,h2,aa⟩
    simp only at h1 h2 aa ⊢
    have hle:=h1.le
    have hL:L.length≤1000:=by omega
    have hN:T.an.length≤2000:=by omega
    unfold l3
    refine aU rfl (bh (BP F hF a0 a1 J U j h1 h2 hL hN hk (by rw [b2];exact hg) hx F (-1) (by omega) (by omega) (by omega)) ?_)
    rintro s rfl
    refine bh (zP F hF a0 a1 J U j h2 hN F (-1) (by omega) (by omega) (by omega)) ?_
    rintro s rfl
    refine bh (AK F a0 a1 J U j h2 hL hN F 0 (by omega)) ?_
    rintro s rfl
    simp only
    obtain ⟨l,ab,ad,ah⟩:=Cf F (by omega) h2 hN
    obtain ⟨e,e1,ae⟩:=A0 F T.an (by omega) (by omega)
    obtain ⟨r,r1,ag⟩:=vK F (by omega) h1 h2 hL hN U
    rw [hw]
    exact aU ab (aU ad (aU (u0 F l (by omega) (by omega)) (aP rfl (aU e1 (aU ae (aP rfl (aU r1 (aU ag (aP rfl (ih (k+1) (by omega)))))))))))
  refine bh (key F 0 (by omega)) ?_
  rintro s rfl
  exact wpS rfl
 obtain ⟨b,h1,rfl⟩:=this
 exact h1
end
end Go.Proofs.YtcilejikekccmaaGreat.M
namespace Go.Proofs.YtcilejikekccmaaGreat.walkAll
open Go.Proofs.YtcilejikekccmaaGreat.Am
open Go.Proofs.YtcilejikekccmaaGreat
open Go.ChangeShapes Go.WideShapes Go.ChangeAt Go.RowKit
theorem own:ownKnob Tryz.prog.godebug=none:=by kernel_rfl
theorem kids:Kids Tryz.prog (·<Tryz.prog.types.size):=kids_rows (by kernel_rfl) (by kernel_rfl)
theorem full:∀ t e,t<Tryz.prog.types.size→Tryz.prog.underlying t=some (.slice e)→0<Tryz.prog.cellsOf e:=slices_full_of _ (by kernel_rfl)
theorem Gq:∀ t∈Tryz.f3.params.toList,t<Tryz.prog.types.size:=by
  rw [Tryz.params3]
  exact of_decide_eq_true (by kernel_rfl)
set_option maxRecDepth 100000 in
theorem lifted (os:Os) (started:os.Started) (H:Type) (enc:TypeId×Value→H):
    ReturnsInHanded {} Tryz.checked os 3 .any (Rows.walkAllSpec.pre6 enc Tryz.prog Tryz.f3 Rows.walkAllRow.domain false) (Rows.walkAllSpec.post enc Tryz.prog Tryz.f3 false true false false):=by
  refine returnsInHanded_of_change (C:=Tryz.checked) own started (by kernel_rfl) Tryz.func3
    (ChangeSpec.witness6 (enc:=enc) (C:=Tryz.checked) false ⟨#[],#[.slice none 0 0, .slice none 0 0, .slice none 0 0, .int .i64 0, .int .i64 0],[]⟩ 8 (by kernel_rfl) (by kernel_rfl) (by kernel_rfl) (by kernel_rfl)) ?_
  intro W base args ds gs before ad hW G7 _
  have l9:∀ (j:Nat) t v,Tryz.f3.params[j]?=some t→args[j]?=some v→Value.okWide Tryz.prog W .any base t v:=ad
  have tS:=hW
  have bD:=fun p hp=>tS.lt p hp
  obtain ⟨p,q,I,hV,rfl,GW,gO⟩:=hW
  have hA:DataW.TrodAll enc Tryz.prog W 0 (fun _=>true) true Tryz.f3.params.toList args.toList ds p:=I
  rw [Tryz.params3] at hA l9
  obtain ⟨v0,aw,d0,ax,ay,az,ez,rfl,rfl,h0,r0⟩:=trodAll_cons hA
  obtain ⟨v1,aA,d1,aB,aC,aD,rfl,rfl,rfl,h1,r1⟩:=trodAll_cons r0
  obtain ⟨v2,aE,d2,aF,aG,aH,rfl,rfl,rfl,h2,ae⟩:=trodAll_cons r1
  obtain ⟨J,aI,d3,aJ,aK,aL,rfl,rfl,rfl,af,ag⟩:=trodAll_cons ae
  obtain ⟨v4,aM,d4,aN,aO,aP,rfl,rfl,rfl,ah,ai⟩:=trodAll_cons ag
  obtain ⟨rfl,rfl,rfl⟩:=trodAll_nil ai
  obtain rfl:args=#[v0,v1,v2,J,v4]:=by cases args;simp_all
  obtain ⟨rfl,rfl⟩:=trodVars_none hV
  obtain ⟨aj,rfl,rfl,rfl,aQ⟩:=open_int Tryz.underlying3 (l9 3 3 J rfl rfl) af
  obtain ⟨ak,rfl,rfl,rfl,aS⟩:=open_int Tryz.underlying3 (l9 4 3 v4 rfl rfl) ah
  letI:Marks:=⟨fun _=>0⟩
  obtain ⟨ρ0,Z0,aT,aU,x0,an,aV,aW,e0,s0,g0⟩:=M.qI (Sy.q6 Tryz.underlying22 (by kernel_rfl) (Sy.vX Tryz.underlying3)) Tryz.underlying22 (l9 0 22 v0 rfl rfl) h0 (Sy.w9 W)
  obtain ⟨ρ1,Z1,aX,aY,ao,H1,aq,ar,e1,s1,aZ⟩:=M.qI (Sy.q6 Tryz.underlying22 (by kernel_rfl) (Sy.vX Tryz.underlying3)) Tryz.underlying22 (l9 1 22 v1 rfl rfl) h1 an
  replace e0:=e0.mono aq
  replace s0:=s0.mono ar
  obtain ⟨ρ2,a0,a1,a2,au,U,aa,ab,av,s2,a3⟩:=M.qI (Sy.q6 Tryz.underlying23 (by kernel_rfl) (Sy.BI Tryz.underlying5)) Tryz.underlying23 (l9 2 23 v2 rfl rfl) h2 H1
  replace e0:=e0.mono aa
  replace s0:=s0.mono ab
  replace e1:=e1.mono aa
  replace s1:=s1.mono ab
  obtain ⟨v,h',hc,_,rfl⟩:=M.GG (6000) (U).inv s0 s1 s2 (M.yV (6000) x0 ao au aj ak rfl)
  refine (M.FB M.Ap U hc (LR.cons e0 (LR.cons e1 (LR.cons av (LR.cons (.int _ _) (LR.cons (.int _ _) (LR.nil _))))))).mono fun e W' ⟨he,hg⟩=>?_
  subst he
  exact ⟨_,rfl,y8 (pv:=[]) tS (fun _ _ _=>(trodAll_cons_mk (shut_bool Tryz.underlying4 _) trodAll_mk0)) (fun sp gb=>M.wb kids full hg Gq I (fun x hx=>bD x (by simpa using hx)) (fun x hx=>gb x (by simpa using hx))) (fun _ _=>rfl) rfl
    hg (ok_one (by kernel_rfl) rfl (okWide_bool_mk Tryz.underlying4 _))⟩
theorem over:Rows.walkAllRow.holds Tryz.pinned (OpenSpec.ofChange Rows.walkAllSpec):=
  OpenClaim.holds_of_wide 3 Tryz.f3 rfl rfl rfl rfl rfl rfl rfl ⟨rfl,rfl,rfl,rfl,rfl⟩ rfl rfl rfl rfl rfl (by kernel_rfl) Tryz.func3 (by kernel_rfl)
    (of_decide_eq_true (by kernel_rfl)) (by unfold Func.isWrapper;first | (rw [if_pos (by decide+kernel)];kernel_rfl) | (rw [if_neg (by decide+kernel)];exact ⟨rfl,rfl⟩))
    (fun os started H enc _=>lifted os started H enc)
theorem proved:Rows.WalkAllSaid:=
  over
end Go.Proofs.YtcilejikekccmaaGreat.walkAll
