/- Packed by a program of this session (mini.py). -/
import Derived.Test.YtcilejikekccmaaWi2
set_option linter.unusedVariables false
set_option linter.unusedSimpArgs false
set_option maxRecDepth 20000
namespace Go.Proofs.Ytcilejikekccmaa.M
open Go Am Sy
open Sy.Cell (rc)
structure aj where
 Code:Int
 ah:Int
 To:Int
 deriving DecidableEq,Inhabited
instance:Cell aj where
 size:=3
 rc Z cs x:=cs=[V x.Code,V x.ah,V x.To]
 len h:=by rw [h];rfl
 mono _ h:=h
 one h:=by rw [h];rfl
 pos:=by decide
theorem mX {Z:Zn} {cs:List Value} {x:aj} (h:rc Z cs x):cs=[V x.Code,V x.ah,V x.To]:=h
abbrev vZ (x:aj):List Value:=[V x.Code,V x.ah,V x.To]
instance:FC aj:=⟨vZ,fun q=>q⟩
structure aL where
 L:List ak
 T:cT
 D:List aj
 End:Int
 deriving DecidableEq,Inhabited
instance:Cell aL where
 size:=4
 rc Z cs x:=∃ v0,RS (α:=ak) Z v0 x.L∧∃ v1,RS (α:=aq) Z v1 x.T.al∧∃ v2,RS (α:=aj) Z v2 x.D∧cs=[v0,v1,v2,V x.End]
 len h:=by obtain ⟨v0,j,v1,I,v2,J,h⟩:=h;rw [h];rfl
 mono hz h:=by obtain ⟨v0,j,v1,I,v2,J,h⟩:=h;exact ⟨v0,j.mono hz,v1,I.mono hz,v2,J.mono hz,h⟩
 one h:=by obtain ⟨v0,j,v1,I,v2,J,h⟩:=h;subst h;exact (bt j.cY (bt I.cY (bt J.cY (bt rfl cp))))
 pos:=by decide
abbrev ay (v0 v1 v2:Value) (x:aL):List Value:=[v0,v1,v2,V x.End]
structure au where
 Node:Int
 Kind:Int
 aD:Int
 bP:Int
 Has:Bool
 deriving DecidableEq,Inhabited
instance:Cell au where
 size:=5
 rc Z cs x:=cs=[V x.Node,V x.Kind,V x.aD,V x.bP, .bool x.Has]
 len h:=by rw [h];rfl
 mono _ h:=h
 one h:=by rw [h];rfl
 pos:=by decide
theorem ec {Z:Zn} {cs:List Value} {x:au} (h:rc Z cs x):cs=[V x.Node,V x.Kind,V x.aD,V x.bP, .bool x.Has]:=h
abbrev p2 (x:au):List Value:=[V x.Node,V x.Kind,V x.aD,V x.bP, .bool x.Has]
instance:FC au:=⟨p2,fun q=>q⟩
structure aT where
 R:aL
 Rows:List an
 Doc:Int
 aA:Bool
 S:List au
 ax:Int
 Read:Int
 deriving DecidableEq,Inhabited
theorem Az {x y:aj} (h:x=y):aBin Try.prog .eql 92 (.agg #[V x.Code,V x.ah,V x.To]) (.agg #[V y.Code,V y.ah,V y.To])=some (.bool true):=by
 subst h
 refine tR Try.underlying92 (by kernel_rfl) (by kernel_rfl) (w:=true)<|lI (by decide) rfl rfl ((iY ⟨_,Try.underlying3⟩).trans (by simp))<|lI (by decide) rfl rfl ((iY ⟨_,Try.underlying3⟩).trans (by simp))<|lI (by decide) rfl rfl ((iY ⟨_,Try.underlying3⟩).trans (by simp)) ?_
 rfl
theorem BI {x y:aj} (h:¬ x=y):aBin Try.prog .eql 92 (.agg #[V x.Code,V x.ah,V x.To]) (.agg #[V y.Code,V y.ah,V y.To])=some (.bool false):=by
 refine tR Try.underlying92 (by kernel_rfl) (by kernel_rfl) (w:=false) ?_
 by_cases h0:x.Code=y.Code
 case neg=>exact rh (by decide) rfl rfl ((iY ⟨_,Try.underlying3⟩).trans (by simp [h0]))
 refine lI (by decide) rfl rfl ((iY ⟨_,Try.underlying3⟩).trans (by simp [h0])) ?_
 by_cases h1:x.ah=y.ah
 case neg=>exact rh (by decide) rfl rfl ((iY ⟨_,Try.underlying3⟩).trans (by simp [h1]))
 refine lI (by decide) rfl rfl ((iY ⟨_,Try.underlying3⟩).trans (by simp [h1])) ?_
 by_cases h2:x.To=y.To
 case neg=>exact rh (by decide) rfl rfl ((iY ⟨_,Try.underlying3⟩).trans (by simp [h2]))
 refine lI (by decide) rfl rfl ((iY ⟨_,Try.underlying3⟩).trans (by simp [h2])) ?_
 exact absurd (by cases x;cases y;simp_all) h
def correctorref12_parser_counting_l0 (F:Nat) (a0:aT) (a1:Int) (I:Int):Nat→Int→Option Int
 | 0,_=>none
 | n+1,j=>
  if j<I then
   if 0≤j∧j<(a0.R.L.length:Int) then
    (a0.R.L[j.toNat]?).bind fun J=>
    (ft F J.Kind).bind fun U=>
    if U=true then
     some j
    else
     correctorref12_parser_counting_l0 F a0 a1 I n (af (j+1))
   else none
  else
   some j
def correctorref12_parser_counting_l1 (F:Nat) (a0:aT) (a1:Int) (J:Int):Nat→Int→Int→Option (Int×Int)
 | 0,_,_=>none
 | n+1,I,j=>
  if I<j then
   if 0≤(af (j - 1))∧(af (j - 1))<(a0.R.L.length:Int) then
    (a0.R.L[(af (j - 1)).toNat]?).bind fun U=>
    (ft F U.Kind).bind fun aa=>
    if aa=true then
     some (I,j)
    else
     correctorref12_parser_counting_l1 F a0 a1 J n I (af (j - 1))
   else none
  else
   some (I,j)
def gK (F:Nat) (a0:aT) (a1:Int) (j:Int):Option (Int×Int):=
 ((correctorref12_parser_counting_l0 F a0 a1 j F a1):Option Int).bind fun o=>match o with
  | I=>((correctorref12_parser_counting_l1 F a0 a1 j F I j):Option (Int×Int)).bind fun o=>match o with
   | (J,U)=>some (J,U)
theorem j7 (F:Nat) {h:AH} {Z:Zn} {a0:aT} {a1:Int} {aa:Int} {ah ao v4 v6 aF v11 aG} (hI:Inv Z h) (ar:RS (α:=ak) Z v4 a0.R.L) (a3:RS (α:=aq) Z v6 a0.R.T.al) (a4:RS (α:=aj) Z aF a0.R.D) (aH:Z ao=some (ay v4 v6 aF a0.R)) (a5:RS (α:=an) Z v11 a0.Rows) (a7:RS (α:=au) Z aG a0.S) (aJ:Z ah=some [Pt ao 0,v11,V a0.Doc, .bool a0.aA,aG,V a0.ax,V a0.Read]) {r:Int×Int} (hm:gK F a0 a1 aa=some r):
  bV Try.prog 44 [Pt ah 0,V a1,V aa] h Z (.tuple #[V r.1,V r.2]):=by
 refine bW Try.func44 hI ?_
 intro hs hS
 unfold gK at hm
 refine sp 2<|sp 4<|sq ?_
 obtain ⟨aB,j,hm⟩:=ai hm
 refine aI [0,8,9] (fun l h=>∃ aK av,av=aB∧l=[(0,Pt ah 0),(8,V av),(9,V aa)]∧St hs [] Z (0,0) aK h []) ?_ ?_
 rintro l a8 ⟨aK,av,rfl,rfl,aX⟩
 try dsimp only at hm
 refine sq ?_
 obtain ⟨aC,I,hm⟩:=ai hm
 refine aI [8,9] (fun l h=>∃ aL aw az,(aw,az)=aC∧l=[(8,V aw),(9,V az)]∧St hs [] Z (0,0) aL h []) ?_ ?_
 rintro l a9 ⟨aL,aw,az,rfl,rfl,aY⟩
 try dsimp only at hm
 refine sp 4<|rt<|⟨rfl,?_⟩
 obtain rfl:=si hm
 refine ⟨_,_,_,tk (V aw) (tk (V az) (ResL.nil)),aY,?_⟩
 exact rfl
 refine bk 2<|lp [0,8,9] (fun n l h=>∃ aM ab ad,correctorref12_parser_counting_l1 F a0 a1 aa n ab ad=some aC∧l=[(0,Pt ah 0),(8,V ab),(9,V ad)]∧St hs [] Z (0,0) aM h []) F ⟨_,av,aa,I,(by kernel_rfl),aX⟩ ?_
 rintro aD l ba ⟨aM,ab,ad,I,rfl,J⟩
 rcases aD with _ | aD
 cases (show none=some aC from I)
 rw [correctorref12_parser_counting_l1] at I
 refine sq<|s0<|cz 2 I ?_ ?_<;>intro bb I
 refine bu 4 (Pt ao 0) J (J.ag _ _ aJ)<|bu 2 v4 J (J.ag _ _ aH)<|a6 2 I (ar.mono J.ag) ?_
 intro bc I
 refine bh 1 0 (fun aO=>V aO.Kind) I (ar.mono J.ag) J ?_
 intro aO bd I
 obtain ⟨bf,aZ,I⟩:=ai I
 refine cP 0 J (ir F J.inv aZ) ?_
 rintro _ bg aR rfl
 refine kb 0 48 I ?_ ?_<;>intro bj I
 refine xn 2<|dF<|xt 2<|aN ?_
 obtain rfl:=si I
 exact ⟨_,ab,ad,rfl,(by kernel_rfl),aR⟩
 refine xn 2<|dT<|sk<|bk 3<|gp 3 ?_
 exact ⟨aD,Nat.lt_succ_self _,⟨_,ab,af (ad - 1),I,(by kernel_rfl),aR⟩⟩
 refine xn 16<|dF<|xt 2<|aN ?_
 obtain rfl:=si I
 exact ⟨_,ab,ad,rfl,(by kernel_rfl),J⟩
 refine bk 0<|lp [0,8,9] (fun n l h=>∃ aU ae,correctorref12_parser_counting_l0 F a0 a1 aa n ae=some aB∧l=[(0,Pt ah 0),(8,V ae),(9,V aa)]∧St hs [] Z (0,0) aU h []) F ⟨_,a1,j,(by kernel_rfl),hS⟩ ?_
 rintro aE l bl ⟨aU,ae,j,rfl,U⟩
 rcases aE with _ | aE
 cases (show none=some aB from j)
 rw [correctorref12_parser_counting_l0] at j
 refine sq<|s0<|aP 2 j ?_ ?_<;>intro bm j
 refine bu 4 (Pt ao 0) U (U.ag _ _ aJ)<|bu 2 v4 U (U.ag _ _ aH)<|a6 1 j (ar.mono U.ag) ?_
 intro bn j
 refine bh 1 0 (fun aV=>V aV.Kind) j (ar.mono U.ag) U ?_
 intro aV bo j
 obtain ⟨bp,a2,j⟩:=ai j
 refine cP 0 U (ir F U.inv a2) ?_
 rintro _ br aW rfl
 refine kb 0 27 j ?_ ?_<;>intro bt j
 refine xn 2<|dF<|xt 0<|aN ?_
 obtain rfl:=si j
 exact ⟨_,ae,rfl,(by kernel_rfl),aW⟩
 refine xn 2<|dT<|sk<|bk 1<|gp 3 ?_
 exact ⟨aE,Nat.lt_succ_self _,⟨_,af (ae+1),j,(by kernel_rfl),aW⟩⟩
 refine xn 15<|dF<|xt 0<|aN ?_
 obtain rfl:=si j
 exact ⟨_,ae,rfl,(by kernel_rfl),U⟩
def kj (F:Nat) (a0:aT) (a1:Int):Nat→Int→Option Int
 | 0,_=>none
 | n+1,j=>
  if j<(a0.R.L.length:Int) then
   if 0≤j∧j<(a0.R.L.length:Int) then
    (a0.R.L[j.toNat]?).bind fun I=>
    if I.Kind=(20:Int) then
     some j
    else
     if 0≤j∧j<(a0.R.L.length:Int) then
      (a0.R.L[j.toNat]?).bind fun J=>
      if J.Kind=(21:Int) then
       some j
      else
       kj F a0 a1 n (af (j+1))
     else none
   else none
  else
   some j
def mh (F:Nat) (a0:aT) (a1:Int):Option Int:=
 ((kj F a0 a1 F a1):Option Int).bind fun o=>match o with
  | j=>some j
theorem yR (F:Nat) {h:AH} {Z:Zn} {a0:aT} {a1:Int} {ad U v4 v6 av v11 aw} (hI:Inv Z h) (aa:RS (α:=ak) Z v4 a0.R.L) (aF:RS (α:=aq) Z v6 a0.R.T.al) (aG:RS (α:=aj) Z av a0.R.D) (ae:Z U=some (ay v4 v6 av a0.R)) (aH:RS (α:=an) Z v11 a0.Rows) (aJ:RS (α:=au) Z aw a0.S) (ah:Z ad=some [Pt U 0,v11,V a0.Doc, .bool a0.aA,aw,V a0.ax,V a0.Read]) {r:Int} (hm:mh F a0 a1=some r):
  bV Try.prog 79 [Pt ad 0,V a1] h Z (V r):=by
 refine bW Try.func79 hI ?_
 intro hs hS
 unfold mh at hm
 refine sp 1<|sp 2<|sq ?_
 obtain ⟨ao,I,hm⟩:=ai hm
 refine aI [5] (fun l h=>∃ az ab,ab=ao∧l=[(5,V ab)]∧St hs [] Z (0,0) az h []) ?_ ?_
 rintro l aK ⟨az,ab,rfl,rfl,aE⟩
 try dsimp only at hm
 refine sp 2<|rt<|⟨rfl,?_⟩
 obtain rfl:=si hm
 refine ⟨_,_,_,tk (V ab) (ResL.nil),aE,?_⟩
 exact rfl
 refine bk 0<|lp [0,5] (fun n l h=>∃ aB J,kj F a0 a1 n J=some ao∧l=[(0,Pt ad 0),(5,V J)]∧St hs [] Z (0,0) aB h []) F ⟨_,a1,I,(by kernel_rfl),hS⟩ ?_
 rintro ar l aL ⟨aB,J,I,rfl,j⟩
 rcases ar with _ | ar
 cases (show none=some ao from I)
 rw [kj] at I
 refine sq<|s0<|bu 4 (Pt U 0) j (j.ag _ _ ah)<|bu 2 v4 j (j.ag _ _ ae)<|bG 0 v4 (RS.len (aa.mono j.ag))<|aP 0 I ?_ ?_<;>intro aM I
 refine bu 4 (Pt U 0) j (j.ag _ _ ah)<|bu 2 v4 j (j.ag _ _ ae)<|a6 1 I (aa.mono j.ag) ?_
 intro aO I
 refine bh 1 0 (fun aC=>V aC.Kind) I (aa.mono j.ag) j ?_
 intro aC aR I
 refine c7 0 I ?_ ?_<;>intro aU I
 refine xn 15<|dF<|xt 0<|aN ?_
 obtain rfl:=si I
 exact ⟨_,J,rfl,(by kernel_rfl),j⟩
 refine bu 5 (Pt U 0) j (j.ag _ _ ah)<|bu 2 v4 j (j.ag _ _ ae)<|a6 1 I (aa.mono j.ag) ?_
 intro aV I
 refine bh 1 0 (fun aD=>V aD.Kind) I (aa.mono j.ag) j ?_
 intro aD aW I
 refine c7 0 I ?_ ?_<;>intro aX I
 refine xn 1<|dF<|xt 0<|aN ?_
 obtain rfl:=si I
 exact ⟨_,J,rfl,(by kernel_rfl),j⟩
 refine xn 1<|dT<|sk<|bk 1<|gp 3 ?_
 exact ⟨ar,Nat.lt_succ_self _,⟨_,af (J+1),I,(by kernel_rfl),j⟩⟩
 refine xn 28<|dF<|xt 0<|aN ?_
 obtain rfl:=si I
 exact ⟨_,J,rfl,(by kernel_rfl),j⟩
def ko (F:Nat) (a0:aL) (a1:Int):Nat→Int→Option Int
 | 0,_=>none
 | n+1,j=>
  if j<a0.End then
   if 0≤j∧j<(a0.L.length:Int) then
    (a0.L[j.toNat]?).bind fun I=>
    if I.Kind=(3:Int) then
     ko F a0 a1 n (af (j+1))
    else
     some j
   else none
  else
   some j
def kn (F:Nat) (a0:aL) (a1:Int):Option Int:=
 ((ko F a0 a1 F a1):Option Int).bind fun o=>match o with
  | j=>some j
theorem th (F:Nat) {h:AH} {Z:Zn} {a0:aL} {a1:Int} {aa ab ah an} (hI:Inv Z h) (ao:RS (α:=ak) Z ab a0.L) (az:RS (α:=aq) Z ah a0.T.al) (aA:RS (α:=aj) Z an a0.D) (ar:Z aa=some (ay ab ah an a0)) {r:Int} (hm:kn F a0 a1=some r):
  bV Try.prog 88 [Pt aa 0,V a1] h Z (V r):=by
 refine bW Try.func88 hI ?_
 intro hs hS
 unfold kn at hm
 refine sp 1<|sq ?_
 obtain ⟨ad,j,hm⟩:=ai hm
 refine aI [1] (fun l h=>∃ au U,U=ad∧l=[(1,V U)]∧St hs [] Z (0,0) au h []) ?_ ?_
 rintro l aB ⟨au,U,rfl,rfl,ax⟩
 try dsimp only at hm
 refine sp 2<|rt<|⟨rfl,?_⟩
 obtain rfl:=si hm
 refine ⟨_,_,_,tk (V U) (ResL.nil),ax,?_⟩
 exact rfl
 refine bk 0<|lp [0,1] (fun n l h=>∃ av J,ko F a0 a1 n J=some ad∧l=[(0,Pt aa 0),(1,V J)]∧St hs [] Z (0,0) av h []) F ⟨_,a1,j,(by kernel_rfl),hS⟩ ?_
 rintro ae l aC ⟨av,J,j,rfl,I⟩
 rcases ae with _ | ae
 cases (show none=some ad from j)
 rw [ko] at j
 refine sq<|s0<|bu 4 (V a0.End) I (I.ag _ _ ar)<|aP 0 j ?_ ?_<;>intro aD j
 refine bu 4 ab I (I.ag _ _ ar)<|a6 1 j (ao.mono I.ag) ?_
 intro aF j
 refine bh 1 0 (fun aw=>V aw.Kind) j (ao.mono I.ag) I ?_
 intro aw aG j
 refine aE 0 j ?_ ?_<;>intro aH j
 refine xn 1<|dT<|sk<|bk 1<|gp 3 ?_
 exact ⟨ae,Nat.lt_succ_self _,⟨_,af (J+1),j,(by kernel_rfl),I⟩⟩
 refine xn 1<|dF<|xt 0<|aN ?_
 obtain rfl:=si j
 exact ⟨_,J,rfl,(by kernel_rfl),I⟩
 refine xn 11<|dF<|xt 0<|aN ?_
 obtain rfl:=si j
 exact ⟨_,J,rfl,(by kernel_rfl),I⟩
def et (F:Nat) (a0:aL) (a1:Int):Option Int:=
 if a0.End≤a1 then
  some 0
 else
  if 0≤a1∧a1<(a0.L.length:Int) then
   (a0.L[a1.toNat]?).bind fun j=>
   if j.Kind=(20:Int) then
    some 0
   else
    if 0≤a1∧a1<(a0.L.length:Int) then
     (a0.L[a1.toNat]?).bind fun I=>
     if I.Kind=(21:Int) then
      some 0
     else
      if 0≤a1∧a1<(a0.L.length:Int) then
       (a0.L[a1.toNat]?).bind fun J=>
       some J.Kind
      else none
    else none
  else none
theorem fk (F:Nat) {h:AH} {Z:Zn} {a0:aL} {a1:Int} {aa I ab ad} (hI:Inv Z h) (j:RS (α:=ak) Z I a0.L) (ag:RS (α:=aq) Z ab a0.T.al) (ah:RS (α:=aj) Z ad a0.D) (J:Z aa=some (ay I ab ad a0)) {r:Int} (hm:et F a0 a1=some r):
  bV Try.prog 89 [Pt aa 0,V a1] h Z (V r):=by
 refine bW Try.func89 hI ?_
 intro hs hS
 unfold et at hm
 refine sp 1<|sq<|s0<|bu 4 (V a0.End) hS J<|ct 0 hm ?_ ?_<;>intro ai hm
 refine xn 22<|dT<|sp 1<|rt<|⟨rfl,?_⟩
 obtain rfl:=si hm
 refine ⟨_,_,_,tk (V 0) (ResL.nil),hS,?_⟩
 exact rfl
 refine bu 4 I hS J<|a6 1 hm j ?_
 intro an hm
 refine bh 1 0 (fun ae=>V ae.Kind) hm j hS ?_
 intro ae ao hm
 refine aE 0 hm ?_ ?_<;>intro ar hm
 refine xn 12<|dT<|sp 1<|rt<|⟨rfl,?_⟩
 obtain rfl:=si hm
 refine ⟨_,_,_,tk (V 0) (ResL.nil),hS,?_⟩
 exact rfl
 refine bu 5 I hS J<|a6 1 hm j ?_
 intro au hm
 refine bh 1 0 (fun af=>V af.Kind) hm j hS ?_
 intro af av hm
 refine aE 0 hm ?_ ?_<;>intro aw hm
 refine xn 1<|dT<|sp 1<|rt<|⟨rfl,?_⟩
 obtain rfl:=si hm
 refine ⟨_,_,_,tk (V 0) (ResL.nil),hS,?_⟩
 exact rfl
 refine xn 1<|dF<|sk<|s0<|bu 3 I hS J<|a6 1 hm j ?_
 intro ax hm
 refine bh 1 0 (fun U=>V U.Kind) hm j hS ?_
 intro U az hm
 refine xn 1<|rt<|⟨rfl,?_⟩
 obtain rfl:=si hm
 refine ⟨_,_,_,tk (V U.Kind) (ResL.nil),hS,?_⟩
 exact rfl
def ek (F:Nat) (a0:aL) (a1:Int) (I:Int) (J:Int) (U:Int):Option (Int×aL):=
 (correctorref10_Add F a0.T a1 I J U).bind fun j=>
 some (j.2,(⟨a0.L,j.1,a0.D,a0.End⟩:aL))
theorem fT (F:Nat) {h:AH} {Z:Zn} {a0:aL} {a1:Int} {ag:Int} {ah:Int} {an:Int} {U J ab I ad} (hP:Pre Z h [.ae U (ay J ab I a0), .gs I ad (aa aj)]) (aw:RS (α:=ak) Z J a0.L) (ax:RS (α:=aq) Z ab a0.T.al) (az:RCs (α:=aj) Z ad a0.D) {r:Int×aL} (hm:ek F a0 a1 ag ah an=some r):
  bQ Try.prog 67 [Pt U 0,V a1,V ag,V ah,V an] h Z [.ae U (ay J ab I a0), .gs I ad (aa aj)] fun v Z' A'=>∃ v10 ao ar,V r.1=v∧A'=[.ae U (ay v10 ao I r.2), .gs I ar (aa aj)]∧RS (α:=ak) Z' v10 r.2.L∧RS (α:=aq) Z' ao r.2.T.al∧RCs (α:=aj) Z' ar r.2.D:=by
 refine b5 Try.func67 hP ?_
 intro hs hS
 unfold ek at hm
 refine sp 1<|s0<|aB 3 0 (.agg #[ab]) hS rfl ?_
 obtain ⟨aA,aC,hm⟩:=ai hm
 refine c0 4 hS (yv F hS.ez ax aC) ?_
 rintro _ aG aH _ au aD ⟨j,rfl,rfl,af⟩
 refine df 3 [.slice none 0 0] aD ?_
 intro aI aJ aE
 refine bA 0 0 (.agg #[j]) [j] [j] aE rfl rfl (bt (RS.cY af) cp) ?_
 intro aK av
 refine xn 1<|s0<|aB 1 0 (.agg #[j]) av rfl<|bA 2 1 (.agg #[j]) [j] (ay J j I a0) av rfl rfl (bt (RS.cY af) cp) ?_
 intro aM aF
 refine xn 0<|sp 2<|rt<|⟨rfl,?_⟩
 obtain rfl:=si hm
 refine ⟨_,_,_,tk (V aA.2) (ResL.nil),(((aF.front 2 rfl).front 2 rfl).takeN 2),?_⟩
 exact ⟨J,j,ad,rfl,rfl,(aw.mono au),af,(az.mono au)⟩
def kP (F:Nat) (a0:aL) (a1:Int):Nat→Int→Option Int
 | 0,_=>none
 | n+1,j=>
  if j<a0.End then
   if 0≤j∧j<(a0.L.length:Int) then
    (a0.L[j.toNat]?).bind fun I=>
    (ft F I.Kind).bind fun J=>
    if J=true then
     some j
    else
     if 0≤j∧j<(a0.L.length:Int) then
      (a0.L[j.toNat]?).bind fun U=>
      if U.Kind=(1:Int) then
       some j
      else
       kP F a0 a1 n (af (j+1))
     else none
   else none
  else
   some j
def jN (F:Nat) (a0:aL) (a1:Int):Nat→Int→Option Int
 | 0,_=>none
 | n+1,j=>
  if j<a0.End then
   if 0≤j∧j<(a0.L.length:Int) then
    (a0.L[j.toNat]?).bind fun I=>
    if I.Kind=(19:Int) then
     jN F a0 a1 n (af (j+1))
    else
     some j
   else none
  else
   some j
def m5 (F:Nat) (a0:aL) (a1:Int):Option Int:=
 ((kP F a0 a1 F (af (a1+1))):Option Int).bind fun o=>match o with
  | j=>if a0.End≤j then
   some (af (a1+1))
  else
   if 0≤j∧j<(a0.L.length:Int) then
    (a0.L[j.toNat]?).bind fun I=>
    if I.Kind=(1:Int) then
     if a0.End≤(af (j+1)) then
      some (af (a1+1))
     else
      if 0≤(af (j+1))∧(af (j+1))<(a0.L.length:Int) then
       (a0.L[(af (j+1)).toNat]?).bind fun J=>
       if J.Kind=(19:Int) then
        ((jN F a0 a1 F (af (j+1))):Option Int).bind fun o=>match o with
         | U=>some U
       else
        some (af (a1+1))
      else none
    else
     some (af (a1+1))
   else none
theorem Cm (F:Nat) {h:AH} {Z:Zn} {a0:aL} {a1:Int} {ao ae aB aC} (hI:Inv Z h) (aa:RS (α:=ak) Z ae a0.L) (aV:RS (α:=aq) Z aB a0.T.al) (aW:RS (α:=aj) Z aC a0.D) (ad:Z ao=some (ay ae aB aC a0)) {r:Int} (hm:m5 F a0 a1=some r):
  bV Try.prog 90 [Pt ao 0,V a1] h Z (V r):=by
 refine bW Try.func90 hI ?_
 intro hs hS
 unfold m5 at hm
 refine sp 1<|sp 3<|sq ?_
 obtain ⟨aw,j,hm⟩:=ai hm
 refine aI [0,1,5] (fun l h=>∃ aD au,au=aw∧l=[(0,Pt ao 0),(1,V a1),(5,V au)]∧St hs [] Z (0,0) aD h []) ?_ ?_
 rintro l aX ⟨aD,au,rfl,rfl,I⟩
 try dsimp only at hm
 refine sq<|s0<|bu 4 (V a0.End) I (I.ag _ _ ad)<|ct 0 hm ?_ ?_<;>intro aY hm
 refine xn 32<|dT<|sp 3<|rt<|⟨rfl,?_⟩
 obtain rfl:=si hm
 refine ⟨_,_,_,tk (V (af (a1+1))) (ResL.nil),I,?_⟩
 exact rfl
 refine bu 4 ae I (I.ag _ _ ad)<|a6 1 hm (aa.mono I.ag) ?_
 intro aZ hm
 refine bh 1 0 (fun aF=>V aF.Kind) hm (aa.mono I.ag) I ?_
 intro aF a2 hm
 refine c7 0 hm ?_ ?_<;>intro a3 hm
 refine bu 7 (V a0.End) I (I.ag _ _ ad)<|ct 0 hm ?_ ?_<;>intro a4 hm
 refine xn 13<|dT<|sp 3<|rt<|⟨rfl,?_⟩
 obtain rfl:=si hm
 refine ⟨_,_,_,tk (V (af (a1+1))) (ResL.nil),I,?_⟩
 exact rfl
 refine bu 5 ae I (I.ag _ _ ad)<|a6 2 hm (aa.mono I.ag) ?_
 intro a5 hm
 refine bh 1 0 (fun aG=>V aG.Kind) hm (aa.mono I.ag) I ?_
 intro aG a7 hm
 refine c7 0 hm ?_ ?_<;>intro a8 hm
 refine xn 1<|dF<|sk<|sp 3<|sq ?_
 obtain ⟨ax,J,hm⟩:=ai hm
 refine aI [5] (fun l h=>∃ aH av,av=ax∧l=[(5,V av)]∧St hs [] Z (0,0) aH h []) ?_ ?_
 rintro l a9 ⟨aH,av,rfl,rfl,aT⟩
 try dsimp only at hm
 refine sp 2<|rt<|⟨rfl,?_⟩
 obtain rfl:=si hm
 refine ⟨_,_,_,tk (V av) (ResL.nil),aT,?_⟩
 exact rfl
 refine bk 2<|lp [0,5] (fun n l h=>∃ aJ an,jN F a0 a1 n an=some ax∧l=[(0,Pt ao 0),(5,V an)]∧St hs [] Z (0,0) aJ h []) F ⟨_,af (au+1),J,(by kernel_rfl),I⟩ ?_
 rintro az l ba ⟨aJ,an,J,rfl,ab⟩
 rcases az with _ | az
 cases (show none=some ax from J)
 rw [jN] at J
 refine sq<|s0<|bu 4 (V a0.End) ab (ab.ag _ _ ad)<|aP 0 J ?_ ?_<;>intro bb J
 refine bu 4 ae ab (ab.ag _ _ ad)<|a6 1 J (aa.mono ab.ag) ?_
 intro bc J
 refine bh 1 0 (fun aK=>V aK.Kind) J (aa.mono ab.ag) ab ?_
 intro aK bd J
 refine aE 0 J ?_ ?_<;>intro bf J
 refine xn 1<|dT<|sk<|bk 3<|gp 3 ?_
 exact ⟨az,Nat.lt_succ_self _,⟨_,af (an+1),J,(by kernel_rfl),ab⟩⟩
 refine xn 1<|dF<|xt 2<|aN ?_
 obtain rfl:=si J
 exact ⟨_,an,rfl,(by kernel_rfl),ab⟩
 refine xn 11<|dF<|xt 2<|aN ?_
 obtain rfl:=si J
 exact ⟨_,an,rfl,(by kernel_rfl),ab⟩
 refine xn 1<|dT<|sp 3<|rt<|⟨rfl,?_⟩
 obtain rfl:=si hm
 refine ⟨_,_,_,tk (V (af (a1+1))) (ResL.nil),I,?_⟩
 exact rfl
 refine xn 22<|dT<|sp 3<|rt<|⟨rfl,?_⟩
 obtain rfl:=si hm
 refine ⟨_,_,_,tk (V (af (a1+1))) (ResL.nil),I,?_⟩
 exact rfl
 refine bk 0<|lp [0,1,5] (fun n l h=>∃ aM ah,kP F a0 a1 n ah=some aw∧l=[(0,Pt ao 0),(1,V a1),(5,V ah)]∧St hs [] Z (0,0) aM h []) F ⟨_,af (a1+1),j,(by kernel_rfl),hS⟩ ?_
 rintro aA l bg ⟨aM,ah,j,rfl,U⟩
 rcases aA with _ | aA
 cases (show none=some aw from j)
 rw [kP] at j
 refine sq<|s0<|bu 4 (V a0.End) U (U.ag _ _ ad)<|aP 0 j ?_ ?_<;>intro bj j
 refine bu 4 ae U (U.ag _ _ ad)<|a6 1 j (aa.mono U.ag) ?_
 intro bl j
 refine bh 1 0 (fun aO=>V aO.Kind) j (aa.mono U.ag) U ?_
 intro aO bm j
 obtain ⟨bn,aU,j⟩:=ai j
 refine cP 0 U (ir F U.inv aU) ?_
 rintro _ bo ar rfl
 refine kb 0 23 j ?_ ?_<;>intro bp j
 refine xn 13<|dF<|xt 0<|aN ?_
 obtain rfl:=si j
 exact ⟨_,ah,rfl,(by kernel_rfl),ar⟩
 refine bu 6 ae ar (U.ag _ _ ad)<|a6 1 j (aa.mono U.ag) ?_
 intro br j
 refine bh 1 0 (fun aR=>V aR.Kind) j (aa.mono U.ag) ar ?_
 intro aR bt j
 refine c7 0 j ?_ ?_<;>intro bw j
 refine xn 1<|dF<|xt 0<|aN ?_
 obtain rfl:=si j
 exact ⟨_,ah,rfl,(by kernel_rfl),ar⟩
 refine xn 1<|dT<|sk<|bk 1<|gp 3 ?_
 exact ⟨aA,Nat.lt_succ_self _,⟨_,af (ah+1),j,(by kernel_rfl),ar⟩⟩
 refine xn 23<|dF<|xt 0<|aN ?_
 obtain rfl:=si j
 exact ⟨_,ah,rfl,(by kernel_rfl),U⟩
def iW (F:Nat) (a0:Int):Option Bool:=
 if a0=(8:Int) then
  some true
 else
  if a0=(9:Int) then
   some true
  else
   some false
theorem mT (F:Nat) {h:AH} {Z:Zn} {a0:Int} (hI:Inv Z h) {r:Bool} (hm:iW F a0=some r):
  bV Try.prog 91 [V a0] h Z (.bool r):=by
 refine bW Try.func91 hI ?_
 intro hs hS
 unfold iW at hm
 refine sp 1<|s0<|aE 1 hm ?_ ?_<;>intro j hm
 refine xn 5<|rt<|⟨rfl,?_⟩
 obtain rfl:=si hm
 refine ⟨_,_,_,tk (.bool true) (ResL.nil),hS,?_⟩
 exact rfl
 refine aE 2 hm ?_ ?_<;>intro I hm
 refine xn 2<|rt<|⟨rfl,?_⟩
 obtain rfl:=si hm
 refine ⟨_,_,_,tk (.bool true) (ResL.nil),hS,?_⟩
 exact rfl
 refine xn 2<|rt<|⟨rfl,?_⟩
 obtain rfl:=si hm
 refine ⟨_,_,_,tk (.bool false) (ResL.nil),hS,?_⟩
 exact rfl
def iy (F:Nat) (a0:Int):Option Bool:=
 if a0=(10:Int) then
  some true
 else
  if a0=(11:Int) then
   some true
  else
   some false
theorem nJ (F:Nat) {h:AH} {Z:Zn} {a0:Int} (hI:Inv Z h) {r:Bool} (hm:iy F a0=some r):
  bV Try.prog 99 [V a0] h Z (.bool r):=by
 refine bW Try.func99 hI ?_
 intro hs hS
 unfold iy at hm
 refine sp 1<|s0<|aE 1 hm ?_ ?_<;>intro j hm
 refine xn 5<|rt<|⟨rfl,?_⟩
 obtain rfl:=si hm
 refine ⟨_,_,_,tk (.bool true) (ResL.nil),hS,?_⟩
 exact rfl
 refine aE 2 hm ?_ ?_<;>intro I hm
 refine xn 2<|rt<|⟨rfl,?_⟩
 obtain rfl:=si hm
 refine ⟨_,_,_,tk (.bool true) (ResL.nil),hS,?_⟩
 exact rfl
 refine xn 2<|rt<|⟨rfl,?_⟩
 obtain rfl:=si hm
 refine ⟨_,_,_,tk (.bool false) (ResL.nil),hS,?_⟩
 exact rfl
def kQ (F:Nat) (a0:aL) (a1:Int) (I:Int):Nat→Int→Option Int
 | 0,_=>none
 | n+1,j=>
  if I<j then
   if 0≤(af (j - 1))∧(af (j - 1))<(a0.L.length:Int) then
    (a0.L[(af (j - 1)).toNat]?).bind fun J=>
    (ft F J.Kind).bind fun U=>
    if U=true then
     some j
    else
     kQ F a0 a1 I n (af (j - 1))
   else none
  else
   some j
def jq (F:Nat) (a0:aL) (a1:Int) (j:Int):Option Int:=
 ((kQ F a0 a1 j F a1):Option Int).bind fun o=>match o with
  | I=>some I
theorem oo (F:Nat) {h:AH} {Z:Zn} {a0:aL} {a1:Int} {U:Int} {ab ad an ao} (hI:Inv Z h) (ar:RS (α:=ak) Z ad a0.L) (aC:RS (α:=aq) Z an a0.T.al) (aD:RS (α:=aj) Z ao a0.D) (az:Z ab=some (ay ad an ao a0)) {r:Int} (hm:jq F a0 a1 U=some r):
  bV Try.prog 94 [Pt ab 0,V a1,V U] h Z (V r):=by
 refine bW Try.func94 hI ?_
 intro hs hS
 unfold jq at hm
 refine sp 1<|sq ?_
 obtain ⟨ae,j,hm⟩:=ai hm
 refine aI [1] (fun l h=>∃ au aa,aa=ae∧l=[(1,V aa)]∧St hs [] Z (0,0) au h []) ?_ ?_
 rintro l aE ⟨au,aa,rfl,rfl,aA⟩
 try dsimp only at hm
 refine sp 2<|rt<|⟨rfl,?_⟩
 obtain rfl:=si hm
 refine ⟨_,_,_,tk (V aa) (ResL.nil),aA,?_⟩
 exact rfl
 refine bk 0<|lp [0,1,2] (fun n l h=>∃ av J,kQ F a0 a1 U n J=some ae∧l=[(0,Pt ab 0),(1,V J),(2,V U)]∧St hs [] Z (0,0) av h []) F ⟨_,a1,j,(by kernel_rfl),hS⟩ ?_
 rintro ah l aF ⟨av,J,j,rfl,I⟩
 rcases ah with _ | ah
 cases (show none=some ae from j)
 rw [kQ] at j
 refine sq<|s0<|cz 2 j ?_ ?_<;>intro aG j
 refine bu 4 ad I (I.ag _ _ az)<|a6 2 j (ar.mono I.ag) ?_
 intro aH j
 refine bh 1 0 (fun aw=>V aw.Kind) j (ar.mono I.ag) I ?_
 intro aw aJ j
 obtain ⟨aK,aB,j⟩:=ai j
 refine cP 0 I (ir F I.inv aB) ?_
 rintro _ aM ax rfl
 refine kb 0 20 j ?_ ?_<;>intro aO j
 refine xn 2<|dF<|xt 0<|aN ?_
 obtain rfl:=si j
 exact ⟨_,J,rfl,(by kernel_rfl),ax⟩
 refine xn 2<|dT<|sk<|bk 1<|gp 3 ?_
 exact ⟨ah,Nat.lt_succ_self _,⟨_,af (J - 1),j,(by kernel_rfl),ax⟩⟩
 refine xn 13<|dF<|xt 0<|aN ?_
 obtain rfl:=si j
 exact ⟨_,J,rfl,(by kernel_rfl),I⟩
def jc (F:Nat) (a0:aL) (a1:Int):Nat→Int→Int→Option (Sum Unit Int)
 | 0,_,_=>none
 | n+1,I,j=>
  (et F a0 j).bind fun aa=>
  if (0:Int)<aa then
   (((et F a0 j).bind fun ab=>
    (iW F ab).bind fun ad=>
    if ad=true then
     some (af (I+1))
    else
     some I):Option Int).bind fun o=>match o with
    | J=>(((et F a0 j).bind fun ae=>
     (iy F ae).bind fun ag=>
     if ag=true then
      some (af (J - 1))
     else
      some J):Option Int).bind fun o=>match o with
     | U=>if U=(0:Int) then
      some (.inr (af (j+1)))
     else
      jc F a0 a1 n U (af (j+1))
  else
   some (.inl ())
def kx (F:Nat) (a0:aL) (a1:Int):Nat→Int→Option Int
 | 0,_=>none
 | n+1,j=>
  (et F a0 j).bind fun I=>
  if (0:Int)<I then
   kx F a0 a1 n (af (j+1))
  else
   some j
def correctorref11_Reader_balanced (F:Nat) (a0:aL) (a1:Int):Option Int:=
 ((jc F a0 a1 F 0 a1):Option (Sum Unit Int)).bind fun o=>match o with
  | .inl ()=>((kx F a0 a1 F a1):Option Int).bind fun o=>match o with
   | j=>(jq F a0 j (af (a1+1))).bind fun I=>
   some I
  | .inr y=>some y
theorem A3 (F:Nat) {h:AH} {Z:Zn} {a0:aL} {a1:Int} {U aJ aK aM} (hI:Inv Z h) (ao:RS (α:=ak) Z aJ a0.L) (ar:RS (α:=aq) Z aK a0.T.al) (au:RS (α:=aj) Z aM a0.D) (av:Z U=some (ay aJ aK aM a0)) {r:Int} (hm:correctorref11_Reader_balanced F a0 a1=some r):
  bV Try.prog 92 [Pt U 0,V a1] h Z (V r):=by
 refine bW Try.func92 hI ?_
 intro hs hS
 unfold correctorref11_Reader_balanced at hm
 refine sp 1<|sp 1<|sq<|sp 2 ?_
 obtain ⟨aB,j,hm⟩:=ai hm
 refine aI [0,1] (fun l h=>∃ aO, .inl ()=aB∧l=[(0,Pt U 0),(1,V a1)]∧St hs [] Z (0,0) aO h []) ?_ ?_
 rintro l bh ⟨aO,rfl,rfl,a4⟩
 try dsimp only at hm
 refine sp 2<|sq ?_
 obtain ⟨aC,I,hm⟩:=ai hm
 refine aI [0,1,7] (fun l h=>∃ aP aD,aD=aC∧l=[(0,Pt U 0),(1,V a1),(7,V aD)]∧St hs [] Z (0,0) aP h []) ?_ ?_
 rintro l bj ⟨aP,aD,rfl,rfl,ae⟩
 try dsimp only at hm
 refine s0 ?_
 obtain ⟨a5,a6,hm⟩:=ai hm
 refine cP 4 ae (oo F ae.inv (ao.mono ae.ag) (ar.mono ae.ag) (au.mono ae.ag) (ae.ag _ _ av) a6) ?_
 rintro _ bl a7 rfl
 refine xn 1<|rt<|⟨rfl,?_⟩
 obtain rfl:=si hm
 refine ⟨_,_,_,tk (V a5) (ResL.nil),a7,?_⟩
 exact rfl
 refine bk 2<|lp [0,1,7] (fun n l h=>∃ aR aw,kx F a0 a1 n aw=some aC∧l=[(0,Pt U 0),(1,V a1),(7,V aw)]∧St hs [] Z (0,0) aR h []) F ⟨_,a1,I,(by kernel_rfl),a4⟩ ?_
 rintro aF l bm ⟨aR,aw,I,rfl,ah⟩
 rcases aF with _ | aF
 cases (show none=some aC from I)
 rw [kx] at I
 refine sq<|s0 ?_
 obtain ⟨bn,a8,I⟩:=ai I
 refine cP 2 ah (fk F ah.inv (ao.mono ah.ag) (ar.mono ah.ag) (au.mono ah.ag) (ah.ag _ _ av) a8) ?_
 rintro _ bo aT rfl
 refine cz 0 I ?_ ?_<;>intro bp I
 refine xn 0<|dT<|sk<|bk 3<|gp 3 ?_
 exact ⟨aF,Nat.lt_succ_self _,⟨_,af (aw+1),I,(by kernel_rfl),aT⟩⟩
 refine xn 0<|dF<|xt 2<|aN ?_
 obtain rfl:=si I
 exact ⟨_,aw,rfl,(by kernel_rfl),aT⟩
 refine bk 0<|lp [0,1,5,6] (fun n l h=>∃ aU ax ad,jc F a0 a1 n ax ad=some aB∧l=[(0,Pt U 0),(1,V a1),(5,V ax),(6,V ad)]∧St hs [] Z (0,0) aU h []) F ⟨_,0,a1,j,(by kernel_rfl),hS⟩ ?_
 rintro aG l br ⟨aU,ax,ad,j,rfl,J⟩
 rcases aG with _ | aG
 cases (show none=some aB from j)
 rw [jc] at j
 refine sq<|s0 ?_
 obtain ⟨bt,a9,j⟩:=ai j
 refine cP 2 J (fk F J.inv (ao.mono J.ag) (ar.mono J.ag) (au.mono J.ag) (J.ag _ _ av) a9) ?_
 rintro _ bu aH rfl
 refine cz 0 j ?_ ?_<;>intro bx j
 refine xn 0<|dT<|sk<|sq<|bk 1<|sq ?_
 obtain ⟨ba,aa,j⟩:=ai j
 refine aI [0,1,5,6] (fun l h=>∃ aV az,az=ba∧l=[(0,Pt U 0),(1,V a1),(5,V az),(6,V ad)]∧St hs [] Z (0,0) aV h []) ?_ ?_
 rintro l bz ⟨aV,az,rfl,rfl,an⟩
 try dsimp only at j
 refine sq ?_
 obtain ⟨bb,ab,j⟩:=ai j
 refine aI [0,1,5,6] (fun l h=>∃ aW aA,aA=bb∧l=[(0,Pt U 0),(1,V a1),(5,V aA),(6,V ad)]∧St hs [] Z (0,0) aW h []) ?_ ?_
 rintro l bA ⟨aW,aA,rfl,rfl,aX⟩
 try dsimp only at j
 refine s0<|aE 1 j ?_ ?_<;>intro bB j
 refine xn 0<|dT<|sp 3<|rt<|bw<|bw<|⟨rfl,?_⟩
 obtain rfl:=si j
 obtain rfl:=si hm
 refine ⟨_,_,_,tk (V (af (ad+1))) (ResL.nil),aX,?_⟩
 exact rfl
 refine xn 0<|dF<|sk<|gp 3 ?_
 exact ⟨aG,Nat.lt_succ_self _,⟨_,aA,af (ad+1),j,(by kernel_rfl),aX⟩⟩
 refine s0 ?_
 obtain ⟨bC,bc,ab⟩:=ai ab
 refine cP 2 an (fk F an.inv (ao.mono an.ag) (ar.mono an.ag) (au.mono an.ag) (an.ag _ _ av) bc) ?_
 rintro _ bD aY rfl
 obtain ⟨bE,bd,ab⟩:=ai ab
 refine cP 0 aY (nJ F aY.inv bd) ?_
 rintro _ bF aZ rfl
 refine xn 0<|db ab ?_ ?_<;>intro bG ab
 refine gp 3 ?_
 obtain rfl:=si ab
 exact ⟨_,af (az - 1),rfl,(by kernel_rfl),aZ⟩
 refine sk ?_
 obtain rfl:=si ab
 exact ⟨_,az,rfl,(by kernel_rfl),aZ⟩
 refine s0 ?_
 obtain ⟨bH,bf,aa⟩:=ai aa
 refine cP 2 aH (fk F aH.inv (ao.mono J.ag) (ar.mono J.ag) (au.mono J.ag) (J.ag _ _ av) bf) ?_
 rintro _ bI a2 rfl
 obtain ⟨bJ,bg,aa⟩:=ai aa
 refine cP 0 a2 (mT F a2.inv bg) ?_
 rintro _ bK a3 rfl
 refine xn 0<|db aa ?_ ?_<;>intro bL aa
 refine gp 3 ?_
 obtain rfl:=si aa
 exact ⟨_,af (ax+1),rfl,(by kernel_rfl),a3⟩
 refine sk ?_
 obtain rfl:=si aa
 exact ⟨_,ax,rfl,(by kernel_rfl),a3⟩
 refine xn 0<|dF<|xt 0<|aN ?_
 obtain rfl:=si j
 exact ⟨_,rfl,(by kernel_rfl),aH⟩
def yS:List bq:=[uP 17 (mv 0),uP 18 (mv 0),uP 19 (nk 18),uP 20 (fa 58 19 2),uL 21 (ld 28 20),uP 22 (mv 4),uP 23 (mv 0),uP 24 (nk 23),uP 25 (fa 58 24 0),uL 26 (ld 24 25),uP 27 (mv 2),uP 28 (ia 24 26 27),uP 29 (fa 85 28 1),uL 30 (ld 3 29),uP 31 (mv 0),uP 32 (nk 31),uP 33 (fa 58 32 0),uL 34 (ld 24 33),uP 35 (mv 3),uP 36 (bc .sub 3 35 1 3),uP 37 (ia 24 34 36),uP 38 (fa 85 37 2),uL 39 (ld 3 38),uP 40 (.build 92 #[(0,(t 22)),(1,(t 30)),(2,(t 39))]),uF 41 (.buildSlice 28 1 #[(0,(t 40))]) .fresh [],uF 42 (cb .append #[(t 21),(t 41)] #[28,28]) .make [4,9,13,17,22],uP 43 (nk 17),uP 44 (fa 58 43 2),oF (.store 28 (t 44) (t 42)) .make [4,9,13,17,22]]
def dQ (F:Nat) (a0:aL) (a1:Int) (I:Int) (J:Int) (U:Int):Option (Int×aL):=
 (ek F a0 a1 11 I J).bind fun j=>
 if 0≤I∧I<(j.2.L.length:Int) then
  (j.2.L[I.toNat]?).bind fun aa=>
  if 0≤(af (J - 1))∧(af (J - 1))<(j.2.L.length:Int) then
   (j.2.L[(af (J - 1)).toNat]?).bind fun ab=>
   if j.2.D.length+[(⟨U,aa.ah,ab.To⟩:aj)].length≤5864062014805 then
    some (j.1,(⟨j.2.L,j.2.T,j.2.D++[(⟨U,aa.ah,ab.To⟩:aj)],j.2.End⟩:aL))
   else none
  else none
 else none
theorem fh (F:Nat) {h:AH} {Z:Zn} {a0:aL} {a1:Int} {ar:Int} {an:Int} {J:Int} {I aA aB U aD} (hP:Pre Z h [.ae I (ay aA aB U a0), .gs U aD (aa aj)]) (aY:RS (α:=ak) Z aA a0.L) (aZ:RS (α:=aq) Z aB a0.T.al) (a2:RCs (α:=aj) Z aD a0.D) {r:Int×aL} (hm:dQ F a0 a1 ar an J=some r):
  bQ Try.prog 46 [Pt I 0,V a1,V ar,V an,V J] h Z [.ae I (ay aA aB U a0), .gs U aD (aa aj)] fun v Z' A'=>∃ v10 aI aJ aM,V r.1=v∧A'=[.ae I (ay v10 aI aJ r.2), .gs aJ aM (aa aj)]∧RS (α:=ak) Z' v10 r.2.L∧RS (α:=aq) Z' aI r.2.T.al∧RCs (α:=aj) Z' aM r.2.D:=by
 refine b5 Try.func46 hP ?_
 intro hs hS
 unfold dQ at hm
 refine sp 1<|s0 ?_
 obtain ⟨ab,a4,hm⟩:=ai hm
 refine cA 4 hS (fun p=>fT F p aY aZ a2 a4) ?_
 rintro _ bo a6 _ bp a7 ⟨ad,ax,a8,rfl,rfl,au,a9,ba⟩
 refine xn 1<|cU yS a7 ?_
 intro aE bu aF av
 refine yq 4 [(20,Pt I 2),(17,Pt I 0),(11,V ab.1),(0,Pt I 0),(2,V ar),(3,V an),(4,V J)] ?_
 have bw:I<aE:=aF.1 _ (List.mem_of_getElem? (i:=0) rfl) _ (by simp [Itm.ids])
 refine aW (v:=U) rfl trivial rfl (by show I<_;omega) (aC (v:=U) (av.dv (i:=1) rfl)) (av.aU (i:=0) rfl (by kernel_rfl)) trivial<|yq 4 [(25,Pt I 0),(22,V J),(21,U),(17,Pt I 0),(11,V ab.1),(0,Pt I 0),(2,V ar),(3,V an)] ?_
 have bx:I<aE:=aF.1 _ (List.mem_of_getElem? (i:=0) rfl) _ (by simp [Itm.ids])
 refine aW (v:=ad) rfl trivial rfl (by show I<_;omega) (aC (v:=ad) (RS.dZ au)) (av.aU (i:=0) rfl (by kernel_rfl)) trivial<|yq 1 [(27,V ar),(26,ad),(22,V J),(21,U),(17,Pt I 0),(11,V ab.1),(0,Pt I 0),(3,V an)] ?_
 obtain ⟨aN,hm⟩:=aK hm
 refine aG rfl trivial (bF rfl rfl (by kernel_rfl:slTy _ _=some (aa ak)) (RS.c8 au (by omega)) aN.1 aN.2)<|yq 1 [(29, .pointer (some (bj ad ar (aa ak) 1))),(22,V J),(21,U),(17,Pt I 0),(11,V ab.1),(0,Pt I 0),(3,V an)] ?_
 obtain ⟨ag,bb,hm⟩:=ai hm
 obtain ⟨bz,bc,bd⟩:=RS.cy au (i:=ar) bb
 obtain rfl:=ey bc
 refine cM rfl rfl trivial (fun h2 hz=>bL (w:=V ag.ah) (bd h2 hz) rfl (by kernel_rfl)) (av.b1 (aO.refl _)) (aC (v:=V ag.ah) trivial) trivial<|yq 3 [(33,Pt I 0),(30,V ag.ah),(22,V J),(21,U),(17,Pt I 0),(11,V ab.1),(3,V an)] ?_
 have bA:I<aE:=aF.1 _ (List.mem_of_getElem? (i:=0) rfl) _ (by simp [Itm.ids])
 refine aW (v:=ad) rfl trivial rfl (by show I<_;omega) (aC (v:=ad) (RS.dZ au)) (av.aU (i:=0) rfl (by kernel_rfl)) trivial<|yq 2 [(36,V (af (an - 1))),(34,ad),(30,V ag.ah),(22,V J),(21,U),(17,Pt I 0),(11,V ab.1)] ?_
 obtain ⟨aP,hm⟩:=aK hm
 refine aG rfl trivial (bF rfl rfl (by kernel_rfl:slTy _ _=some (aa ak)) (RS.c8 au (by omega)) aP.1 aP.2)<|yq 1 [(38, .pointer (some (bj ad (af (an - 1)) (aa ak) 2))),(30,V ag.ah),(22,V J),(21,U),(17,Pt I 0),(11,V ab.1)] ?_
 obtain ⟨ao,bf,hm⟩:=ai hm
 obtain ⟨bB,bg,bh⟩:=RS.cy au (i:=af (an - 1)) bf
 obtain rfl:=ey bg
 refine cM rfl rfl trivial (fun h2 hz=>bL (w:=V ao.To) (bh h2 hz) rfl (by kernel_rfl)) (av.b1 (aO.refl _)) (aC (v:=V ao.To) trivial) trivial<|yq 1 [(40, .agg #[V J,V ag.ah,V ao.To]),(21,U),(17,Pt I 0),(11,V ab.1)] ?_
 have bk:RCs (α:=aj) a6 [V J,V ag.ah,V ao.To] [(⟨J,ag.ah,ao.To⟩:aj)]:=RCs.cons (cs:=[V J,V ag.ah,V ao.To]) rfl (RCs.br _)
 refine jo rfl trivial (cX (cells:=[V J,V ag.ah,V ao.To]) (s:=3) (by kernel_rfl)) (by kernel_rfl) av (by omega) (Nat.add_lt_add_left (by decide) _) ?_
 intro aR bC bD bE bG aT
 obtain ⟨bI,hm⟩:=aK hm
 have az:St _ _ _ _ _ _ ([.gs U a8 (aa aj)]++[.gs aR [V J,V ag.ah,V ao.To] (aa aj), .ae I (ay ad ax U ab.2)]):=(aT.front 2 rfl)
 refine iz rfl trivial az (dG (ys:=[(⟨J,ag.ah,ao.To⟩:aj)]) (bS:=24) az.sub (i:=0) rfl ba ((aT.cJ).eA (j:=0) rfl bk) rfl rfl (by kernel_rfl) (by omega) (by omega)) (aO.refl _) (.a3 trivial (.a3 (az.bH 1 rfl bM) (.a3 trivial (.a3 (az.bH 1 rfl bM) (.a3 (az.bH 1 rfl bM) .nil))))) ?_
 rintro aw aV bJ ⟨bl,aH⟩
 refine yq 2 [(44,Pt I 2),(42,aw),(11,V ab.1)] ?_
 have aX:St _ _ _ _ _ _ ([.ae I (ay ad ax U ab.2)]++[.gs aw aV (aa aj), .gs aR [V J,V ag.ah,V ao.To] (aa aj)]):=(aH.front 2 rfl)
 refine g5 rfl trivial aX (gv (vs:=[aw]) (cD:=(ay ad ax aw ab.2)) (L':=[.ae I (ay ad ax aw ab.2)]) aX.sub (i:=0) rfl rfl rfl (aH.fU (i:=0) rfl) (by kernel_rfl) (bt (aH.fO (i:=0) rfl) cp) rfl rfl rfl) (aO.refl _) (.a3 trivial (.drop (by decide) (.a3 trivial (.drop (by decide) (.drop (by decide) .nil))))) ?_
 intro bK bm
 refine yf [(11,V ab.1)] ?_
 have bn:=bm.a5
 refine sp 2<|rt<|⟨rfl,?_⟩
 obtain rfl:=si hm
 refine ⟨_,_,_,tk (V ab.1) (ResL.nil),(bn.takeN 2),?_⟩
 exact ⟨ad,ax,aw,aV,rfl,rfl,au,a9,bl⟩
def jU (F:Nat) (a0:aL) (a1:Int):Nat→Int→Option Int
 | 0,_=>none
 | n+1,j=>
  if j<a0.End then
   if 0≤j∧j<(a0.L.length:Int) then
    (a0.L[j.toNat]?).bind fun I=>
    (ft F I.Kind).bind fun J=>
    if J=true then
     some j
    else
     jU F a0 a1 n (af (j+1))
   else none
  else
   some j
def h4 (F:Nat) (a0:aL) (a1:Int):Option Int:=
 ((jU F a0 a1 F a1):Option Int).bind fun o=>match o with
  | j=>some j
theorem po (F:Nat) {h:AH} {Z:Zn} {a0:aL} {a1:Int} {aa ab ah an} (hI:Inv Z h) (ao:RS (α:=ak) Z ab a0.L) (aB:RS (α:=aq) Z ah a0.T.al) (aC:RS (α:=aj) Z an a0.D) (ar:Z aa=some (ay ab ah an a0)) {r:Int} (hm:h4 F a0 a1=some r):
  bV Try.prog 100 [Pt aa 0,V a1] h Z (V r):=by
 refine bW Try.func100 hI ?_
 intro hs hS
 unfold h4 at hm
 refine sp 1<|sq ?_
 obtain ⟨ad,j,hm⟩:=ai hm
 refine aI [1] (fun l h=>∃ au U,U=ad∧l=[(1,V U)]∧St hs [] Z (0,0) au h []) ?_ ?_
 rintro l aD ⟨au,U,rfl,rfl,az⟩
 try dsimp only at hm
 refine sp 2<|rt<|⟨rfl,?_⟩
 obtain rfl:=si hm
 refine ⟨_,_,_,tk (V U) (ResL.nil),az,?_⟩
 exact rfl
 refine bk 0<|lp [0,1] (fun n l h=>∃ av J,jU F a0 a1 n J=some ad∧l=[(0,Pt aa 0),(1,V J)]∧St hs [] Z (0,0) av h []) F ⟨_,a1,j,(by kernel_rfl),hS⟩ ?_
 rintro ae l aE ⟨av,J,j,rfl,I⟩
 rcases ae with _ | ae
 cases (show none=some ad from j)
 rw [jU] at j
 refine sq<|s0<|bu 4 (V a0.End) I (I.ag _ _ ar)<|aP 0 j ?_ ?_<;>intro aF j
 refine bu 4 ab I (I.ag _ _ ar)<|a6 1 j (ao.mono I.ag) ?_
 intro aG j
 refine bh 1 0 (fun aw=>V aw.Kind) j (ao.mono I.ag) I ?_
 intro aw aH j
 obtain ⟨aJ,aA,j⟩:=ai j
 refine cP 0 I (ir F I.inv aA) ?_
 rintro _ aK ax rfl
 refine kb 0 20 j ?_ ?_<;>intro aM j
 refine xn 2<|dF<|xt 0<|aN ?_
 obtain rfl:=si j
 exact ⟨_,J,rfl,(by kernel_rfl),ax⟩
 refine xn 2<|dT<|sk<|bk 1<|gp 3 ?_
 exact ⟨ae,Nat.lt_succ_self _,⟨_,af (J+1),j,(by kernel_rfl),ax⟩⟩
 refine xn 12<|dF<|xt 0<|aN ?_
 obtain rfl:=si j
 exact ⟨_,J,rfl,(by kernel_rfl),I⟩
def jk (F:Nat) (a0:aL) (a1:Int):Nat→Int→Option Int
 | 0,_=>none
 | n+1,j=>
  (((et F a0 j).bind fun I=>
   if I=(12:Int) then
    some (.inl ())
   else
    (et F a0 j).bind fun J=>
    if J=(14:Int) then
     some (.inl ())
    else
     some (.inr j)):Option (Sum Unit Int)).bind fun o=>match o with
   | .inl ()=>(h4 F a0 (af (j+1))).bind fun U=>
   jk F a0 a1 n U
   | .inr y=>some y
def h8 (F:Nat) (a0:aL) (a1:Int):Option Int:=
 ((jk F a0 a1 F a1):Option Int).bind fun o=>match o with
  | j=>(((et F a0 j).bind fun J=>
   (e7 F J).bind fun U=>
   if U=true then
    (h4 F a0 (af (j+1))).bind fun aa=>
    some aa
   else
    some j):Option Int).bind fun o=>match o with
   | I=>(et F a0 I).bind fun ab=>
   if ab=(6:Int) then
    some (af (I+1))
   else
    some 0
theorem r3 (F:Nat) {h:AH} {Z:Zn} {a0:aL} {a1:Int} {ab aC aD aF} (hI:Inv Z h) (ad:RS (α:=ak) Z aC a0.L) (ae:RS (α:=aq) Z aD a0.T.al) (ah:RS (α:=aj) Z aF a0.D) (an:Z ab=some (ay aC aD aF a0)) {r:Int} (hm:h8 F a0 a1=some r):
  bV Try.prog 102 [Pt ab 0,V a1] h Z (V r):=by
 refine bW Try.func102 hI ?_
 intro hs hS
 unfold h8 at hm
 refine sp 1<|sq ?_
 obtain ⟨ax,j,hm⟩:=ai hm
 refine aI [0,1] (fun l h=>∃ aG av,av=ax∧l=[(0,Pt ab 0),(1,V av)]∧St hs [] Z (0,0) aG h []) ?_ ?_
 rintro l a7 ⟨aG,av,rfl,rfl,J⟩
 try dsimp only at hm
 refine sq ?_
 obtain ⟨aR,U,hm⟩:=ai hm
 refine aI [0,1] (fun l h=>∃ aH aw,aw=aR∧l=[(0,Pt ab 0),(1,V aw)]∧St hs [] Z (0,0) aH h []) ?_ ?_
 rintro l a8 ⟨aH,aw,rfl,rfl,ao⟩
 try dsimp only at hm
 refine sq<|s0 ?_
 obtain ⟨a9,aT,hm⟩:=ai hm
 refine cP 2 ao (fk F ao.inv (ad.mono ao.ag) (ae.mono ao.ag) (ah.mono ao.ag) (ao.ag _ _ an) aT) ?_
 rintro _ ba aJ rfl
 refine aE 0 hm ?_ ?_<;>intro bb hm
 refine xn 0<|dT<|sp 3<|rt<|⟨rfl,?_⟩
 obtain rfl:=si hm
 refine ⟨_,_,_,tk (V (af (aw+1))) (ResL.nil),aJ,?_⟩
 exact rfl
 refine xn 0<|dF<|sk<|sp 1<|rt<|⟨rfl,?_⟩
 obtain rfl:=si hm
 refine ⟨_,_,_,tk (V 0) (ResL.nil),aJ,?_⟩
 exact rfl
 refine s0 ?_
 obtain ⟨bc,aU,U⟩:=ai U
 refine cP 2 J (fk F J.inv (ad.mono J.ag) (ae.mono J.ag) (ah.mono J.ag) (J.ag _ _ an) aU) ?_
 rintro _ bd aK rfl
 obtain ⟨bf,aV,U⟩:=ai U
 refine cP 0 aK (pL F aK.inv aV) ?_
 rintro _ bg az rfl
 refine xn 0<|db U ?_ ?_<;>intro bh U
 refine g0 ?_
 obtain ⟨aW,aX,U⟩:=ai U
 refine cP 3 az (po F az.inv (ad.mono J.ag) (ae.mono J.ag) (ah.mono J.ag) (J.ag _ _ an) aX) ?_
 rintro _ bj aY rfl
 refine xn 1 ?_
 obtain rfl:=si U
 exact ⟨_,aW,rfl,(by kernel_rfl),aY⟩
 refine sk ?_
 obtain rfl:=si U
 exact ⟨_,av,rfl,(by kernel_rfl),az⟩
 refine bk 0<|lp [0,1] (fun n l h=>∃ aM au,jk F a0 a1 n au=some ax∧l=[(0,Pt ab 0),(1,V au)]∧St hs [] Z (0,0) aM h []) F ⟨_,a1,j,(by kernel_rfl),hS⟩ ?_
 rintro aA l bl ⟨aM,au,j,rfl,aa⟩
 rcases aA with _ | aA
 cases (show none=some ax from j)
 rw [jk] at j
 refine sq ?_
 obtain ⟨aZ,I,j⟩:=ai j
 refine aI [0,1] (fun l h=>∃ aO, .inl ()=aZ∧l=[(0,Pt ab 0),(1,V au)]∧St hs [] Z (0,0) aO h []) ?_ ?_
 rintro l bm ⟨aO,rfl,rfl,ar⟩
 try dsimp only at j
 refine bk 1<|g0 ?_
 obtain ⟨a2,a3,j⟩:=ai j
 refine cP 3 ar (po F ar.inv (ad.mono ar.ag) (ae.mono ar.ag) (ah.mono ar.ag) (ar.ag _ _ an) a3) ?_
 rintro _ bn a4 rfl
 refine xn 1 ?_
 exact ⟨aA,Nat.lt_succ_self _,⟨_,a2,j,(by kernel_rfl),a4⟩⟩
 refine s0 ?_
 obtain ⟨bo,a5,I⟩:=ai I
 refine cP 2 aa (fk F aa.inv (ad.mono aa.ag) (ae.mono aa.ag) (ah.mono aa.ag) (aa.ag _ _ an) a5) ?_
 rintro _ bp aB rfl
 refine aE 0 I ?_ ?_<;>intro br I
 refine xn 6<|dT<|sk ?_
 obtain rfl:=si I
 exact ⟨_,rfl,(by kernel_rfl),aB⟩
 obtain ⟨bt,a6,I⟩:=ai I
 refine cP 3 aB (fk F aB.inv (ad.mono aa.ag) (ae.mono aa.ag) (ah.mono aa.ag) (aa.ag _ _ an) a6) ?_
 rintro _ bu aP rfl
 refine aE 0 I ?_ ?_<;>intro bw I
 refine xn 1<|dT<|sk ?_
 obtain rfl:=si I
 exact ⟨_,rfl,(by kernel_rfl),aP⟩
 refine xn 1<|dF<|xt 0<|aN ?_
 obtain rfl:=si I
 obtain rfl:=si j
 exact ⟨_,au,rfl,(by kernel_rfl),aP⟩
def ja (F:Nat) (a0:Int):Option Bool:=
 if a0=(12:Int) then
  some true
 else
  if a0=(14:Int) then
   some true
  else
   (e7 F a0).bind fun j=>
   if j=true then
    some true
   else
    (iW F a0).bind fun I=>
    if I=true then
     some true
    else
     if a0=(18:Int) then
      some true
     else
      some false
theorem sf (F:Nat) {h:AH} {Z:Zn} {a0:Int} (hI:Inv Z h) {r:Bool} (hm:ja F a0=some r):
  bV Try.prog 103 [V a0] h Z (.bool r):=by
 refine bW Try.func103 hI ?_
 intro hs hS
 unfold ja at hm
 refine sp 1<|s0<|aE 1 hm ?_ ?_<;>intro aa hm
 refine xn 17<|rt<|⟨rfl,?_⟩
 obtain rfl:=si hm
 refine ⟨_,_,_,tk (.bool true) (ResL.nil),hS,?_⟩
 exact rfl
 refine aE 2 hm ?_ ?_<;>intro ab hm
 refine xn 14<|rt<|⟨rfl,?_⟩
 obtain rfl:=si hm
 refine ⟨_,_,_,tk (.bool true) (ResL.nil),hS,?_⟩
 exact rfl
 obtain ⟨ad,J,hm⟩:=ai hm
 refine cP 3 hS (pL F hS.inv J) ?_
 rintro _ ae j rfl
 refine kb 2 13 hm ?_ ?_<;>intro af hm
 refine xn 8<|rt<|⟨rfl,?_⟩
 obtain rfl:=si hm
 refine ⟨_,_,_,tk (.bool true) (ResL.nil),j,?_⟩
 exact rfl
 obtain ⟨ag,U,hm⟩:=ai hm
 refine cP 1 j (mT F j.inv U) ?_
 rintro _ ah I rfl
 refine kb 2 17 hm ?_ ?_<;>intro aj hm
 refine xn 4<|rt<|⟨rfl,?_⟩
 obtain rfl:=si hm
 refine ⟨_,_,_,tk (.bool true) (ResL.nil),I,?_⟩
 exact rfl
 refine aE 1 hm ?_ ?_<;>intro al hm
 refine xn 2<|rt<|⟨rfl,?_⟩
 obtain rfl:=si hm
 refine ⟨_,_,_,tk (.bool true) (ResL.nil),I,?_⟩
 exact rfl
 refine xn 2<|rt<|⟨rfl,?_⟩
 obtain rfl:=si hm
 refine ⟨_,_,_,tk (.bool false) (ResL.nil),I,?_⟩
 exact rfl
def yp:List aQ:=[u 5 (.buildSlice 25 0 #[]),u 6 (mv 0),u 7 (nk 6),u 8 (fa 58 7 1),u 9 (fa 27 8 0),u 10 (ld 25 9),u 11 (cb .append #[(t 5),(t 10)] #[25,25]),u 4 (sg 11)]
def Ch:List aQ:=[u 12 (mv 4),u 13 (mv 1),u 14 (ia 25 12 13),u 15 (fa 37 14 5),o (.store 4 (t 15) (.const (.bool true)))]
def DO:List aQ:=[u 16 (mv 0),u 17 (mv 4),u 18 (.build 27 #[(0,(t 17))]),u 19 (nk 16),u 20 (fa 58 19 1),o (.store 27 (t 20) (t 18))]
def l7 (F:Nat) (a0:aL) (a1:Int):Option aL:=
 if ([]:List aq).length+a0.T.al.length≤2199023255552 then
  if 0≤a1∧a1<((([]:List aq)++a0.T.al).length:Int) then
   ((([]:List aq)++a0.T.al)[a1.toNat]?).bind fun j=>
   some (⟨a0.L,(⟨(([]:List aq)++a0.T.al).set a1.toNat (⟨j.Kind,j.ah,j.To,j.Up,j.Kids,true⟩:aq)⟩:cT),a0.D,a0.End⟩:aL)
  else none
 else none
theorem tX (F:Nat) {h:AH} {Z:Zn} {a0:aL} {a1:Int} {U ad af ab ag} (hP:Pre Z h [.ae U (ay ad af ab a0), .gs ab ag (aa aj)]) (aA:RS (α:=ak) Z ad a0.L) (aC:RS (α:=aq) Z af a0.T.al) (aD:RCs (α:=aj) Z ag a0.D) {r:aL} (hm:l7 F a0 a1=some r):
  bQ Try.prog 95 [Pt U 0,V a1] h Z [.ae U (ay ad af ab a0), .gs ab ag (aa aj)] fun v Z' A'=>∃ v10 av aw ax, .tuple #[]=v∧A'=[.ae U (ay v10 av ab r), .gs av aw (aa aq), .gs ab ax (aa aj)]∧RS (α:=ak) Z' v10 r.L∧RCs (α:=aq) Z' aw r.T.al∧RCs (α:=aj) Z' ax r.D:=by
 refine b5 Try.func95 hP ?_
 intro hs hS
 unfold l7 at hm
 refine sr yp ?_
 have aE:RCs (α:=aq) Z [] []:=RCs.br _
 refine dP rfl trivial (cX (cells:=[]) (s:=6) (by kernel_rfl)) (by kernel_rfl) hS ?_
 intro aF aR an
 refine xq 4 [(9,Pt U 1),(5,aF),(0,Pt U 0),(1,V a1)]<|aB 0 1 af an rfl ?_
 obtain ⟨aT,aG⟩:=RS.news aC (an).inv
 obtain ⟨aU,hm⟩:=aK hm
 refine eS rfl trivial (dG (ys:=a0.T.al) (bS:=64) an (i:=0) rfl aE aG rfl rfl (by kernel_rfl) (by omega) (by omega)) ?_
 rintro I aV aW ⟨ao,ar⟩
 refine xn 1<|sr Ch<|eJ 2 0 hm ar ao rfl ?_
 intro aX hm
 refine xq 1 [(15, .pointer (some (bj I a1 (aa aq) 5))),(4,I),(0,Pt U 0)] ?_
 obtain ⟨J,az,hm⟩:=ai hm
 obtain ⟨aY,aH,a2,aI⟩:=ar.cm (j:=0) rfl ao (i:=a1) az
 obtain ⟨aJ,aM,rfl⟩:=fw aH
 refine nP rfl trivial (gz (u':=(⟨J.Kind,J.ah,J.To,J.Up,J.Kids,true⟩:aq)) (vs:=[.bool true]) (aZ:=[V J.Kind,V J.ah,V J.To,V J.Up,aJ, .bool true]) ar (m:=0) rfl ao az aI rfl rfl rfl (by kernel_rfl) rfl rfl rfl ⟨_,aM,rfl⟩) ?_
 rintro a3 aN ⟨aO,au⟩
 refine xn 0<|rg DO<|xq 2 [(17,I),(16,Pt U 0)]<|bN rfl trivial (jr (v:= .agg #[I]) rfl (CA.cons (cs:=[I]) (au.fU (i:=0) rfl) (CA.br)) (by kernel_rfl))<|bA 2 1 (.agg #[I]) [I] (ay ad I ab a0) au rfl rfl (bt (au.fO (i:=0) rfl) cp) ?_
 intro a4 aP
 refine xn 0 ?_
 obtain rfl:=si hm
 refine ⟨_,_,_,ResL.nil,(((aP.front 2 rfl).front 1 rfl).front 2 rfl),?_⟩
 exact ⟨ad,I,aN,ag,rfl,rfl,aA,aO,aD⟩
def correctorref11_Reader_Pair_l0 (F:Nat) (a0:aL) (a1:Int) (ab:Int) (J:Int):Nat→aL→Int→Int→Int→Option (aL×Int×Int)
 | 0,_,_,_,_=>none
 | n+1,j,U,aa,I=>
  if I<J then
   ((if 0≤I∧I<(j.L.length:Int) then
     (j.L[I.toNat]?).bind fun ad=>
     if ad.Kind=(13:Int) then
      some (j,8)
     else
      some (j,aa)
    else none):Option (aL×Int)).bind fun o=>match o with
    | (ae,ag)=>correctorref11_Reader_Pair_l0 F a0 a1 ab J n ae U ag (af (I+1))
  else
   some (j,U,aa)
def l8 (F:Nat) (a0:aL) (a1:Int) (j:Int) (I:Int):Option (Int×aL):=
 (ek F a0 a1 6 j I).bind fun J=>
 if (af (I - j))<(2:Int) then
  some (J.1,J.2)
 else
  ((correctorref11_Reader_Pair_l0 F a0 a1 j I F J.2 J.1 7 j):Option (aL×Int×Int)).bind fun o=>match o with
   | (aa,U,ab)=>(jq F aa (af (I - 1)) (af (j+1))).bind fun ad=>
   (ek F aa U ab j ad).bind fun ae=>
   (l7 F ae.2 U).bind fun ag=>
   some (U,ag)
theorem r9 (F:Nat) {h:AH} {Z:Zn} {a0:aL} {a1:Int} {ad:Int} {an:Int} {I ao ar j au} (hP:Pre Z h [.ae I (ay ao ar j a0), .gs j au (aa aj)]) (bu:RS (α:=ak) Z ao a0.L) (bw:RS (α:=aq) Z ar a0.T.al) (bx:RCs (α:=aj) Z au a0.D) {r:Int×aL} (hm:l8 F a0 a1 ad an=some r):
  bQ Try.prog 86 [Pt I 0,V a1,V ad,V an] h Z [.ae I (ay ao ar j a0), .gs j au (aa aj)] fun v Z' A'=>∃ v10 a8 a9,V r.1=v∧A'=[.ae I (ay v10 a8 j r.2), .gs j a9 (aa aj)]∧RS (α:=ak) Z' v10 r.2.L∧RS (α:=aq) Z' a8 r.2.T.al∧RCs (α:=aj) Z' a9 r.2.D:=by
 refine b5 Try.func86 hP ?_
 intro hs hS
 unfold l8 at hm
 refine sp 1<|s0 ?_
 obtain ⟨aV,bz,hm⟩:=ai hm
 refine cA 4 hS (fun p=>fT F p bu bw bx bz) ?_
 rintro _ bZ b0 _ b1 ba ⟨bb,bc,bd,rfl,rfl,bg,bj,bl⟩
 refine xn 1<|sq<|s0<|aP 3 hm ?_ ?_<;>intro b2 hm
 refine xn 0<|dT<|sp 2<|rt<|⟨rfl,?_⟩
 obtain rfl:=si hm
 refine ⟨_,_,_,tk (V aV.1) (ResL.nil),ba,?_⟩
 exact ⟨bb,bc,bd,rfl,rfl,bg,bj,bl⟩
 refine xn 0<|dF<|sk<|sp 1<|sq<|sp 2 ?_
 obtain ⟨aW,J,hm⟩:=ai hm
 refine aI [0,2,3,9,10] (fun l h=>∃ aA av aK aX aY aZ a2,(av,aK,aX)=aW∧RS (α:=ak) aA aY av.L∧RS (α:=aq) aA aZ av.T.al∧RCs (α:=aj) aA a2 av.D∧l=[(0,Pt I 0),(2,V ad),(3,V an),(9,V aK),(10,V aX)]∧St hs (aR [.ae I (ay ao ar j a0), .gs j au (aa aj)]) Z (0,0) aA h [.ae I (ay aY aZ j av), .gs j a2 (aa aj)]) ?_ ?_
 rintro l b3 ⟨aA,av,aK,aX,aY,aZ,a2,rfl,bm,bn,bo,rfl,bA⟩
 try dsimp only at hm
 refine s0 ?_
 obtain ⟨b4,bB,hm⟩:=ai hm
 refine cE 9 bA (fun b6 a3 bC bp=>oo F bC (RS.mono a3 bm) (RS.mono a3 bn) (bf.row (bp _ (List.mem_of_getElem? (i:=1) rfl)) a3 bo) (bp _ (List.mem_of_getElem? (i:=0) rfl)) bB) ?_
 rintro _ b7 bD rfl
 obtain ⟨b8,bE,hm⟩:=ai hm
 refine cA 0 bD (fun p=>fT F p bm bn bo bE) ?_
 rintro _ b9 ca _ cb bF ⟨cc,cd,cf,rfl,rfl,bG,bH,bI⟩
 refine xn 0<|s0 ?_
 obtain ⟨cg,bJ,hm⟩:=ai hm
 refine cA 2 bF (fun p=>tX F p bG bH bI bJ) ?_
 rintro _ ch cj _ ck bK ⟨bL,bM,cl,bN,rfl,rfl,bO,bP,bR⟩
 refine xn 0<|sp 2<|rt<|⟨rfl,?_⟩
 obtain ⟨cm,br,bS,bT⟩:=(bK.front 1 rfl).freeze bP
 obtain rfl:=si hm
 refine ⟨_,_,_,tk (V aK) (ResL.nil),bT,?_⟩
 exact ⟨bL,bM,bN,rfl,rfl,(bO.mono br),bS,(bR.mono br)⟩
 refine bk 0<|lp [0,2,3,9,10,11] (fun n l h=>∃ aC U aw aD aF ag ax az,correctorref11_Reader_Pair_l0 F a0 a1 ad an n U aw aD aF=some aW∧RS (α:=ak) aC ag U.L∧RS (α:=aq) aC ax U.T.al∧RCs (α:=aj) aC az U.D∧l=[(0,Pt I 0),(2,V ad),(3,V an),(9,V aw),(10,V aD),(11,V aF)]∧St hs (aR [.ae I (ay ao ar j a0), .gs j au (aa aj)]) Z (0,0) aC h [.ae I (ay ag ax j U), .gs j az (aa aj)]) F ⟨_,aV.2,aV.1,7,ad,bb,bc,bd,J,bg,bj,bl,(by kernel_rfl),ba⟩ ?_
 rintro a4 l cn ⟨aC,U,aw,aD,aF,ag,ax,az,J,aG,a5,a7,rfl,aH⟩
 rcases a4 with _ | a4
 cases (show none=some aW from J)
 rw [correctorref11_Reader_Pair_l0] at J
 refine sq<|s0<|aP 2 J ?_ ?_<;>intro cp J
 refine xn 0<|dT<|sk<|sq<|bk 1 ?_
 obtain ⟨bU,ab,J⟩:=ai J
 refine dY [0,2,3,9,10,11] (fun l h=>∃ aJ ah aM aO aT aU,(ah,aM)=bU∧RS (α:=ak) aJ aO ah.L∧RS (α:=aq) aJ aT ah.T.al∧RCs (α:=aj) aJ aU ah.D∧l=[(0,Pt I 0),(2,V ad),(3,V an),(9,V aw),(10,V aM),(11,V aF)]∧St hs (aR [.ae I (ay ao ar j a0), .gs j au (aa aj)]) Z (0,0) aJ h [.ae I (ay aO aT j ah), .gs j aU (aa aj)]) (by kernel_rfl) ?_ ?_
 rintro l cq ⟨aJ,ah,aM,aO,aT,aU,rfl,bV,bW,bX,rfl,bY⟩
 try dsimp only at J
 refine gp 3 ?_
 exact ⟨a4,Nat.lt_succ_self _,⟨_,ah,aw,aM,af (aF+1),aO,aT,aU,J,bV,bW,bX,(by kernel_rfl),bY⟩⟩
 refine g0<|aB 3 0 ag aH rfl<|a6 1 ab aG ?_
 intro cr ab
 refine bh 1 0 (fun bt=>V bt.Kind) ab aG aH ?_
 intro bt ct ab
 refine aE 0 ab ?_ ?_<;>intro cu ab
 refine xn 0<|dT<|gp 1 ?_
 obtain rfl:=si ab
 exact ⟨_,U,8,ag,ax,az,rfl,aG,a5,a7,(by kernel_rfl),aH⟩
 refine xn 0<|dF<|sk ?_
 obtain rfl:=si ab
 exact ⟨_,U,aD,ag,ax,az,rfl,aG,a5,a7,(by kernel_rfl),aH⟩
 refine xn 0<|dF<|xt 0<|aN ?_
 obtain rfl:=si J
 exact ⟨_,U,aw,aD,ag,ax,az,rfl,aG,a5,a7,(by kernel_rfl),aH⟩
def ju (F:Nat) (a0:aL) (a1:Int):Nat→Int→Int→Option Int
 | 0,_,_=>none
 | n+1,J,j=>
  (et F a0 j).bind fun aa=>
  if (0:Int)<aa then
   (et F a0 j).bind fun I=>
   ((if J=(0:Int) then
     if I=(7:Int) then
      some (.inr j)
     else
      (iy F I).bind fun ab=>
      if ab=true then
       some (.inr j)
      else
       some (.inl ())
    else
     some (.inl ())):Option (Sum Unit Int)).bind fun o=>match o with
    | .inl ()=>(((iW F I).bind fun ad=>
     if ad=true then
      some (af (J+1))
     else
      some J):Option Int).bind fun o=>match o with
     | U=>(iy F I).bind fun ae=>
     ((if ae=true then
       some (af (U - 1))
      else
       some U):Option Int).bind fun o=>match o with
      | ag=>ju F a0 a1 n ag (af (j+1))
    | .inr y=>some y
  else
   some j
def jG (F:Nat) (a0:aL) (a1:Int):Option Int:=
 ((ju F a0 a1 F 0 a1):Option Int).bind fun o=>match o with
  | j=>(jq F a0 j (af (a1+1))).bind fun I=>
  some I
theorem vi (F:Nat) {h:AH} {Z:Zn} {a0:aL} {a1:Int} {aa aD aF aG} (hI:Inv Z h) (au:RS (α:=ak) Z aD a0.L) (av:RS (α:=aq) Z aF a0.T.al) (aw:RS (α:=aj) Z aG a0.D) (ax:Z aa=some (ay aD aF aG a0)) {r:Int} (hm:jG F a0 a1=some r):
  bV Try.prog 101 [Pt aa 0,V a1] h Z (V r):=by
 refine bW Try.func101 hI ?_
 intro hs hS
 unfold jG at hm
 refine sp 1<|sp 1<|sp 2<|sq ?_
 obtain ⟨az,j,hm⟩:=ai hm
 refine aI [0,1,6] (fun l h=>∃ aH aA,aA=az∧l=[(0,Pt aa 0),(1,V a1),(6,V aA)]∧St hs [] Z (0,0) aH h []) ?_ ?_
 rintro l bb ⟨aH,aA,rfl,rfl,ab⟩
 try dsimp only at hm
 refine s0 ?_
 obtain ⟨aX,aY,hm⟩:=ai hm
 refine cP 4 ab (oo F ab.inv (au.mono ab.ag) (av.mono ab.ag) (aw.mono ab.ag) (ab.ag _ _ ax) aY) ?_
 rintro _ bc aZ rfl
 refine xn 1<|rt<|⟨rfl,?_⟩
 obtain rfl:=si hm
 refine ⟨_,_,_,tk (V aX) (ResL.nil),aZ,?_⟩
 exact rfl
 refine bk 0<|lp [0,1,5,6] (fun n l h=>∃ aJ ad J,ju F a0 a1 n ad J=some az∧l=[(0,Pt aa 0),(1,V a1),(5,V ad),(6,V J)]∧St hs [] Z (0,0) aJ h []) F ⟨_,0,a1,j,(by kernel_rfl),hS⟩ ?_
 rintro aB l bd ⟨aJ,ad,J,j,rfl,U⟩
 rcases aB with _ | aB
 cases (show none=some az from j)
 rw [ju] at j
 refine sq<|s0 ?_
 obtain ⟨bf,a2,j⟩:=ai j
 refine cP 2 U (fk F U.inv (au.mono U.ag) (av.mono U.ag) (aw.mono U.ag) (U.ag _ _ ax) a2) ?_
 rintro _ bg aC rfl
 refine cz 0 j ?_ ?_<;>intro bh j
 refine xn 0<|dT<|sk<|bk 1<|s0 ?_
 obtain ⟨aK,a3,j⟩:=ai j
 refine cP 2 aC (fk F aC.inv (au.mono U.ag) (av.mono U.ag) (aw.mono U.ag) (U.ag _ _ ax) a3) ?_
 rintro _ bj an rfl
 refine xn 1<|sq ?_
 obtain ⟨a4,I,j⟩:=ai j
 refine aI [0,1,5,6,7] (fun l h=>∃ aM, .inl ()=a4∧l=[(0,Pt aa 0),(1,V a1),(5,V ad),(6,V J),(7,V aK)]∧St hs [] Z (0,0) aM h []) ?_ ?_
 rintro l bl ⟨aM,rfl,rfl,aO⟩
 try dsimp only at j
 refine sq ?_
 obtain ⟨a5,ae,j⟩:=ai j
 refine aI [0,1,5,6,7] (fun l h=>∃ aP ah,ah=a5∧l=[(0,Pt aa 0),(1,V a1),(5,V ah),(6,V J),(7,V aK)]∧St hs [] Z (0,0) aP h []) ?_ ?_
 rintro l bm ⟨aP,ah,rfl,rfl,aR⟩
 try dsimp only at j
 refine sq<|s0 ?_
 obtain ⟨bn,a6,j⟩:=ai j
 refine cP 1 aR (nJ F aR.inv a6) ?_
 rintro _ bo aT rfl
 refine xn 0 ?_
 obtain ⟨a7,ao,j⟩:=ai j
 refine aI [0,1,5,6] (fun l h=>∃ aU ar,ar=a7∧l=[(0,Pt aa 0),(1,V a1),(5,V ar),(6,V J)]∧St hs [] Z (0,0) aU h []) ?_ ?_
 rintro l bp ⟨aU,ar,rfl,rfl,a8⟩
 try dsimp only at j
 refine gp 3 ?_
 exact ⟨aB,Nat.lt_succ_self _,⟨_,ar,af (J+1),j,(by kernel_rfl),a8⟩⟩
 refine db ao ?_ ?_<;>intro br ao
 refine gp 3 ?_
 obtain rfl:=si ao
 exact ⟨_,af (ah - 1),rfl,(by kernel_rfl),aT⟩
 refine sk ?_
 obtain rfl:=si ao
 exact ⟨_,ah,rfl,(by kernel_rfl),aT⟩
 refine s0 ?_
 obtain ⟨bt,a9,ae⟩:=ai ae
 refine cP 1 aO (mT F aO.inv a9) ?_
 rintro _ bu aV rfl
 refine xn 0<|db ae ?_ ?_<;>intro bw ae
 refine gp 3 ?_
 obtain rfl:=si ae
 exact ⟨_,af (ad+1),rfl,(by kernel_rfl),aV⟩
 refine sk ?_
 obtain rfl:=si ae
 exact ⟨_,ad,rfl,(by kernel_rfl),aV⟩
 refine s0<|aE 1 I ?_ ?_<;>intro bx I
 refine aE 2 I ?_ ?_<;>intro bz I
 refine xn 5<|dT<|xt 0<|g3 rfl<|aN ?_
 obtain rfl:=si I
 obtain rfl:=si j
 exact ⟨_,J,rfl,(by kernel_rfl),an⟩
 obtain ⟨bA,ba,I⟩:=ai I
 refine cP 2 an (nJ F an.inv ba) ?_
 rintro _ bB aW rfl
 refine xn 2<|db I ?_ ?_<;>intro bC I
 refine xt 0<|g3 rfl<|aN ?_
 obtain rfl:=si I
 obtain rfl:=si j
 exact ⟨_,J,rfl,(by kernel_rfl),aW⟩
 refine sk ?_
 obtain rfl:=si I
 exact ⟨_,rfl,(by kernel_rfl),aW⟩
 refine xn 8<|dF<|sk ?_
 obtain rfl:=si I
 exact ⟨_,rfl,(by kernel_rfl),an⟩
 refine xn 0<|dF<|xt 0<|aN ?_
 obtain rfl:=si j
 exact ⟨_,J,rfl,(by kernel_rfl),aC⟩
def oD (b9:aL→Int→Int→Int→Option (Int×Int×aL)):Prop:=∀ {h:AH} {Z:Zn} {a0:aL} {a1:Int} {ad:Int} {af:Int} {j J U I ab} (hP:Pre Z h [.ae j (ay J U I a0), .gs I ab (aa aj)]) (an:RS (α:=ak) Z J a0.L) (ao:RS (α:=aq) Z U a0.T.al) (ar:RCs (α:=aj) Z ab a0.D) {r:Int×Int×aL} (hm:b9 a0 a1 ad af=some r),bQ Try.prog 80 [Pt j 0,V a1,V ad,V af] h Z [.ae j (ay J U I a0), .gs I ab (aa aj)] fun v Z' A'=>∃ v10 ag ah ai, .tuple #[V r.1,V r.2.1]=v∧A'=[.ae j (ay v10 ag ah r.2.2), .gs ah ai (aa aj)]∧RS (α:=ak) Z' v10 r.2.2.L∧RS (α:=aq) Z' ag r.2.2.T.al∧RCs (α:=aj) Z' ai r.2.2.D
def gL (F:Nat) (b9:aL→Int→Int→Int→Option (Int×Int×aL)) (a0:aL) (a1:Int) (J:Int) (ad:Int):Option (Int×aL):=
 (h8 F a0 J).bind fun j=>
 if (0:Int)<j then
  (l8 F a0 a1 J j).bind fun I=>
  (h4 F I.2 j).bind fun ae=>
  (et F I.2 ae).bind fun aa=>
  if aa=(0:Int) then
   some (j,I.2)
  else
   if aa=(7:Int) then
    some (j,I.2)
   else
    (iy F aa).bind fun ah=>
    if ah=true then
     some (j,I.2)
    else
     (b9 I.2 I.1 ae (af (ad - 1))).bind fun U=>
     if U.1<(0:Int) then
      some (j,U.2.2)
     else
      some (U.2.1,U.2.2)
 else
  ((if 0≤a1∧a1<(a0.T.al.length:Int) then
    (a0.T.al[a1.toNat]?).bind fun ai=>
    if ai.Kind=(10:Int) then
     (ek F a0 a1 6 J (af (J+1))).bind fun ab=>
     (l7 F ab.2 ab.1).bind fun aj=>
     some (aj,ab.1)
    else
     some (a0,a1)
   else none):Option (aL×Int)).bind fun o=>match o with
   | (an,ao)=>(b9 an ao J (af (ad - 1))).bind fun ag=>
   some (ag.2.1,ag.2.2)
theorem o3 (F:Nat) (b9:aL→Int→Int→Int→Option (Int×Int×aL)) (iU:oD b9) {h:AH} {Z:Zn} {a0:aL} {a1:Int} {aA:Int} {aC:Int} {J an U I ao} (hP:Pre Z h [.ae J (ay an U I a0), .gs I ao (aa aj)]) (av:RS (α:=ak) Z an a0.L) (ab:RS (α:=aq) Z U a0.T.al) (aw:RCs (α:=aj) Z ao a0.D) {r:Int×aL} (hm:gL F b9 a0 a1 aA aC=some r):
  bQ Try.prog 104 [Pt J 0,V a1,V aA,V aC] h Z [.ae J (ay an U I a0), .gs I ao (aa aj)] fun v Z' A'=>∃ v10 aV aW aX,V r.1=v∧A'=[.ae J (ay v10 aV aW r.2), .gs aW aX (aa aj)]∧RS (α:=ak) Z' v10 r.2.L∧RS (α:=aq) Z' aV r.2.T.al∧RCs (α:=aj) Z' aX r.2.D:=by
 refine b5 Try.func104 hP ?_
 intro hs hS
 unfold gL at hm
 refine sp 1<|s0 ?_
 obtain ⟨ax,bg,hm⟩:=ai hm
 refine cE 2 hS (fun cb aD bh aY=>r3 F bh (RS.mono aD av) (RS.mono aD ab) (bf.row (aY _ (List.mem_of_getElem? (i:=1) rfl)) aD aw) (aY _ (List.mem_of_getElem? (i:=0) rfl)) bg) ?_
 rintro _ cc ar rfl
 refine xn 1<|sq<|s0<|cz 1 hm ?_ ?_<;>intro cd hm
 refine xn 0<|dT<|s0 ?_
 obtain ⟨cf,bj,hm⟩:=ai hm
 refine cA 4 ar (fun p=>r9 F p av ab aw bj) ?_
 rintro _ cg ch _ cj bk ⟨aF,aG,aH,rfl,rfl,ad,af,ag⟩
 refine xn 1<|s0 ?_
 obtain ⟨ck,bl,hm⟩:=ai hm
 refine cE 2 bk (fun cl aJ bm aZ=>po F bm (RS.mono aJ ad) (RS.mono aJ af) (bf.row (aZ _ (List.mem_of_getElem? (i:=1) rfl)) aJ ag) (aZ _ (List.mem_of_getElem? (i:=0) rfl)) bl) ?_
 rintro _ cm bn rfl
 refine xn 1<|s0 ?_
 obtain ⟨cn,bo,hm⟩:=ai hm
 refine cE 2 bn (fun cp aK bp a2=>fk F bp (RS.mono aK ad) (RS.mono aK af) (bf.row (a2 _ (List.mem_of_getElem? (i:=1) rfl)) aK ag) (a2 _ (List.mem_of_getElem? (i:=0) rfl)) bo) ?_
 rintro _ cq az rfl
 refine xn 1<|sq<|s0<|aE 1 hm ?_ ?_<;>intro cr hm
 refine xn 8<|dT<|sp 2<|rt<|⟨rfl,?_⟩
 obtain rfl:=si hm
 refine ⟨_,_,_,tk (V ax) (ResL.nil),az,?_⟩
 exact ⟨aF,aG,I,aH,rfl,rfl,ad,af,ag⟩
 refine aE 2 hm ?_ ?_<;>intro ct hm
 refine xn 5<|dT<|sp 2<|rt<|⟨rfl,?_⟩
 obtain rfl:=si hm
 refine ⟨_,_,_,tk (V ax) (ResL.nil),az,?_⟩
 exact ⟨aF,aG,I,aH,rfl,rfl,ad,af,ag⟩
 obtain ⟨cu,br,hm⟩:=ai hm
 refine cP 3 az (nJ F az.inv br) ?_
 rintro _ cw a3 rfl
 refine xn 1<|db hm ?_ ?_<;>intro cx hm
 refine sp 2<|rt<|⟨rfl,?_⟩
 obtain rfl:=si hm
 refine ⟨_,_,_,tk (V ax) (ResL.nil),a3,?_⟩
 exact ⟨aF,aG,I,aH,rfl,rfl,ad,af,ag⟩
 refine sk<|s0 ?_
 obtain ⟨bt,bu,hm⟩:=ai hm
 refine cA 5 a3 (fun p=>iU p ad af ag bu) ?_
 rintro _ cB cC _ cD a4 ⟨a5,a7,a8,a9,rfl,rfl,ba,bb,bc⟩
 refine xn 5<|sq<|s0<|aP 1 hm ?_ ?_<;>intro cF hm
 refine xn 0<|dT<|sp 2<|rt<|⟨rfl,?_⟩
 obtain rfl:=si hm
 refine ⟨_,_,_,tk (V ax) (ResL.nil),a4,?_⟩
 exact ⟨a5,a7,a8,a9,rfl,rfl,ba,bb,bc⟩
 refine xn 0<|dF<|sk<|sp 2<|rt<|⟨rfl,?_⟩
 obtain rfl:=si hm
 refine ⟨_,_,_,tk (V bt.2.1) (ResL.nil),a4,?_⟩
 exact ⟨a5,a7,a8,a9,rfl,rfl,ba,bb,bc⟩
 refine xn 0<|dF<|sk<|sp 2<|sq ?_
 obtain ⟨bw,j,hm⟩:=ai hm
 refine aI [0,2,3,15] (fun l h=>∃ au ah aM aN aT aU,(ah,aM)=bw∧RS (α:=ak) au aN ah.L∧RS (α:=aq) au aT ah.T.al∧RCs (α:=aj) au aU ah.D∧l=[(0,Pt J 0),(2,V aA),(3,V aC),(15,V aM)]∧St hs (aR [.ae J (ay an U I a0), .gs I ao (aa aj)]) Z (0,0) au h [.ae J (ay aN aT I ah), .gs I aU (aa aj)]) ?_ ?_
 rintro l cG ⟨au,ah,aM,aN,aT,aU,rfl,bx,bz,bA,rfl,bB⟩
 try dsimp only at hm
 refine s0 ?_
 obtain ⟨bC,bD,hm⟩:=ai hm
 refine cA 5 bB (fun p=>iU p bx bz bA bD) ?_
 rintro _ cH cI _ cJ bE ⟨bF,bG,bH,bI,rfl,rfl,bJ,bK,bL⟩
 refine xn 5<|sp 2<|rt<|⟨rfl,?_⟩
 obtain rfl:=si hm
 refine ⟨_,_,_,tk (V bC.2.1) (ResL.nil),bE,?_⟩
 exact ⟨bF,bG,bH,bI,rfl,rfl,bJ,bK,bL⟩
 refine s0<|aB 4 0 U ar rfl<|a6 1 j ab ?_
 intro cK j
 obtain ⟨bM,bN,j⟩:=ai j
 obtain ⟨cL,bO,bP⟩:=RS.cy ab (i:=a1) bN
 obtain ⟨cM,cQ,rfl⟩:=fw bO
 refine fe 1 0 (V bM.Kind) (bP _ (ar.b1 (aO.refl _)))<|aE 0 j ?_ ?_<;>intro cR j
 refine xn 0<|dT<|s0 ?_
 obtain ⟨bR,bS,j⟩:=ai j
 refine cA 5 ar (fun p=>fT F p av ab aw bS) ?_
 rintro _ cS cT _ cU bT ⟨cX,cY,c0,rfl,rfl,bU,bV,bW⟩
 refine xn 1<|g0 ?_
 obtain ⟨bX,bY,j⟩:=ai j
 refine cA 2 bT (fun p=>tX F p bU bV bW bY) ?_
 rintro _ c3 c4 _ c5 bZ ⟨b0,b2,c6,b3,rfl,rfl,b4,b6,b7⟩
 refine xn 0 ?_
 obtain ⟨c7,bd,b8,ca⟩:=(bZ.front 1 rfl).freeze b6
 obtain rfl:=si j
 exact ⟨_,bX,bR.1,b0,b2,b3,rfl,(b4.mono bd),b8,(b7.mono bd),(by kernel_rfl),ca⟩
 refine xn 0<|dF<|sk ?_
 obtain rfl:=si j
 exact ⟨_,a0,a1,an,U,ao,rfl,av,ab,aw,(by kernel_rfl),ar⟩
def wC:List bq:=[uP 42 (mv 0),uP 43 (mv 0),uP 44 (nk 43),uP 45 (fa 58 44 2),uL 46 (ld 28 45),uP 47 (mv 0),uP 48 (nk 47),uP 49 (fa 58 48 0),uL 50 (ld 24 49),uP 51 (mv 2),uP 52 (ia 24 50 51),uP 53 (fa 85 52 1),uL 54 (ld 3 53),uP 55 (mv 0),uP 56 (nk 55),uP 57 (fa 58 56 0),uL 58 (ld 24 57),uP 59 (mv 2),uP 60 (ia 24 58 59),uP 61 (fa 85 60 2),uL 62 (ld 3 61),uP 63 (.build 92 #[(0,(ci 9)),(1,(t 54)),(2,(t 62))]),uF 64 (.buildSlice 28 1 #[(0,(t 63))]) .fresh [],uF 65 (cb .append #[(t 46),(t 64)] #[28,28]) .make [4,8,12,16,20],uP 66 (nk 42),uP 67 (fa 58 66 2),oF (.store 28 (t 67) (t 65)) .make [4,8,12,16,20]]
def correctorref11_Reader_collection_l0 (F:Nat) (b9:aL→Int→Int→Int→Option (Int×Int×aL)) (a0:aL) (a1:Int) (J:Int) (U:Int):Nat→aL→Bool→Int→Int→Option (Int×aL)
 | 0,_,_,_,_=>none
 | n+1,j,ab,ai,aa=>
  (h4 F j ai).bind fun I=>
  (et F j I).bind fun ad=>
  if ad=(0:Int) then
   if 0≤J∧J<(j.L.length:Int) then
    (j.L[J.toNat]?).bind fun ae=>
    if 0≤J∧J<(j.L.length:Int) then
     (j.L[J.toNat]?).bind fun ag=>
     if j.D.length+[(⟨9,ae.ah,ag.To⟩:aj)].length≤5864062014805 then
      (jq F (⟨j.L,j.T,j.D++[(⟨9,ae.ah,ag.To⟩:aj)],j.End⟩:aL) ai (af (J+1))).bind fun av=>
      some (av,(⟨j.L,j.T,j.D++[(⟨9,ae.ah,ag.To⟩:aj)],j.End⟩:aL))
     else none
    else none
   else none
  else
   if ad=aa then
    (ij F j.T a1 (af (I+1))).bind fun aw=>
    some (af (I+1),(⟨j.L,aw,j.D,j.End⟩:aL))
   else
    (iy F ad).bind fun ax=>
    if ax=true then
     (dQ F j a1 I (af (I+1)) 8).bind fun ay=>
     correctorref11_Reader_collection_l0 F b9 a0 a1 J U n ay.2 ab (af (I+1)) aa
    else
     if ad=(7:Int) then
      if ab=true then
       (ij F j.T a1 (af (I+1))).bind fun az=>
       correctorref11_Reader_collection_l0 F b9 a0 a1 J U n (⟨j.L,az,j.D,j.End⟩:aL) false (af (I+1)) aa
      else
       if ad=(7:Int) then
        (dQ F j a1 I (af (I+1)) 8).bind fun aA=>
        correctorref11_Reader_collection_l0 F b9 a0 a1 J U n aA.2 ab (af (I+1)) aa
       else
        if ab=true then
         (jG F j I).bind fun al=>
         (dQ F j a1 I al 8).bind fun aB=>
         correctorref11_Reader_collection_l0 F b9 a0 a1 J U n aB.2 ab al aa
        else
         (h8 F j I).bind fun aC=>
         if (0:Int)<aC then
          (gL F b9 j a1 I U).bind fun an=>
          correctorref11_Reader_collection_l0 F b9 a0 a1 J U n an.2 true an.1 aa
         else
          (ja F ad).bind fun aD=>
          if aD=true then
           (gL F b9 j a1 I U).bind fun ao=>
           correctorref11_Reader_collection_l0 F b9 a0 a1 J U n ao.2 true ao.1 aa
          else
           (dQ F j a1 I (af (I+1)) 8).bind fun aE=>
           correctorref11_Reader_collection_l0 F b9 a0 a1 J U n aE.2 ab (af (I+1)) aa
     else
      if ad=(7:Int) then
       (dQ F j a1 I (af (I+1)) 8).bind fun aF=>
       correctorref11_Reader_collection_l0 F b9 a0 a1 J U n aF.2 ab (af (I+1)) aa
      else
       if ab=true then
        (jG F j I).bind fun aq=>
        (dQ F j a1 I aq 8).bind fun aG=>
        correctorref11_Reader_collection_l0 F b9 a0 a1 J U n aG.2 ab aq aa
       else
        (h8 F j I).bind fun aH=>
        if (0:Int)<aH then
         (gL F b9 j a1 I U).bind fun ar=>
         correctorref11_Reader_collection_l0 F b9 a0 a1 J U n ar.2 true ar.1 aa
        else
         (ja F ad).bind fun aI=>
         if aI=true then
          (gL F b9 j a1 I U).bind fun au=>
          correctorref11_Reader_collection_l0 F b9 a0 a1 J U n au.2 true au.1 aa
         else
          (dQ F j a1 I (af (I+1)) 8).bind fun aJ=>
          correctorref11_Reader_collection_l0 F b9 a0 a1 J U n aJ.2 ab (af (I+1)) aa
def lX (F:Nat) (b9:aL→Int→Int→Int→Option (Int×Int×aL)) (a0:aL) (a1:Int) (j:Int) (I:Int):Option (Int×aL):=
 ((if 0≤j∧j<(a0.L.length:Int) then
   (a0.L[j.toNat]?).bind fun J=>
   if J.Kind=(9:Int) then
    some 11
   else
    some 10
  else none):Option Int).bind fun o=>match o with
  | U=>((correctorref11_Reader_collection_l0 F b9 a0 a1 j I F a0 false (af (j+1)) U):Option (Int×aL)).bind fun o=>match o with
   | y=>some y
theorem CD (F:Nat) (b9:aL→Int→Int→Int→Option (Int×Int×aL)) (iU:oD b9) {h:AH} {Z:Zn} {a0:aL} {a1:Int} {ab:Int} {a7:Int} {J aM aP aA aT} (hP:Pre Z h [.ae J (ay aM aP aA a0), .gs aA aT (aa aj)]) (bd:RS (α:=ak) Z aM a0.L) (cj:RS (α:=aq) Z aP a0.T.al) (ck:RCs (α:=aj) Z aT a0.D) {r:Int×aL} (hm:lX F b9 a0 a1 ab a7=some r):
  bQ Try.prog 93 [Pt J 0,V a1,V ab,V a7] h Z [.ae J (ay aM aP aA a0), .gs aA aT (aa aj)] fun v Z' A'=>∃ v10 bE bG bI,V r.1=v∧A'=[.ae J (ay v10 bE bG r.2), .gs bG bI (aa aj)]∧RS (α:=ak) Z' v10 r.2.L∧RS (α:=aq) Z' bE r.2.T.al∧RCs (α:=aj) Z' bI r.2.D:=by
 refine b5 Try.func93 hP ?_
 intro hs hS
 unfold lX at hm
 refine sp 1<|sp 1<|sp 3<|sp 1<|sq ?_
 obtain ⟨cl,aN,hm⟩:=ai hm
 refine aI [0,1,2,3,9,10,11] (fun l h=>∃ bJ a9,a9=cl∧l=[(0,Pt J 0),(1,V a1),(2,V ab),(3,V a7),(9, .bool false),(10,V (af (ab+1))),(11,V a9)]∧St hs (aR [.ae J (ay aM aP aA a0), .gs aA aT (aa aj)]) Z (0,0) bJ h [.ae J (ay aM aP aA a0), .gs aA aT (aa aj)]) ?_ ?_
 rintro l fH ⟨bJ,a9,rfl,rfl,ba⟩
 try dsimp only at hm
 obtain ⟨bK,I,hm⟩:=ai hm
 refine bk 0<|lp [0,1,2,3,9,10,11] (fun n l h=>∃ aY ar aF az av an aH au aZ,correctorref11_Reader_collection_l0 F b9 a0 a1 ab a7 n ar aF az av=some bK∧RS (α:=ak) aY an ar.L∧RS (α:=aq) aY aH ar.T.al∧RCs (α:=aj) aY aZ ar.D∧l=[(0,Pt J 0),(1,V a1),(2,V ab),(3,V a7),(9, .bool aF),(10,V az),(11,V av)]∧St hs (aR [.ae J (ay aM aP aA a0), .gs aA aT (aa aj)]) Z (0,0) aY h [.ae J (ay an aH au ar), .gs au aZ (aa aj)]) F ⟨_,a0,false,af (ab+1),a9,aM,aP,aA,aT,I,(bd.mono ba.ag),(cj.mono ba.ag),(ck.mono ba.ag),(by kernel_rfl),ba⟩ ?_
 rintro aw l fI ⟨aY,ar,aF,az,av,an,aH,au,aZ,I,U,ad,ao,rfl,cm⟩
 rcases aw with _ | aw
 cases (show none=some bK from I)
 rw [correctorref11_Reader_collection_l0] at I
 refine bk 1<|s0 ?_
 obtain ⟨aV,cn,I⟩:=ai I
 refine cE 2 cm (fun fJ bg cq bN=>po F cq (RS.mono bg U) (RS.mono bg ad) (bf.row (bN _ (List.mem_of_getElem? (i:=1) rfl)) bg ao) (bN _ (List.mem_of_getElem? (i:=0) rfl)) cn) ?_
 rintro _ fK cr rfl
 refine xn 1<|s0 ?_
 obtain ⟨fL,ct,I⟩:=ai I
 refine cE 2 cr (fun fM bl cu bO=>fk F cu (RS.mono bl U) (RS.mono bl ad) (bf.row (bO _ (List.mem_of_getElem? (i:=1) rfl)) bl ao) (bO _ (List.mem_of_getElem? (i:=0) rfl)) ct) ?_
 rintro _ fN a2 rfl
 refine xn 1<|bk 2<|s0<|aE 1 I ?_ ?_<;>intro fP I
 refine xn 1<|dT<|cU wC a2 ?_
 intro bm fQ bn aX
 refine yq 4 [(45,Pt J 2),(42,Pt J 0),(0,Pt J 0),(2,V ab),(10,V az)] ?_
 have fR:J<bm:=bn.1 _ (List.mem_of_getElem? (i:=0) rfl) _ (by simp [Itm.ids])
 refine aW (v:=au) rfl trivial rfl (by show J<_;omega) (aC (v:=au) (aX.dv (i:=1) rfl)) (aX.aU (i:=0) rfl (by kernel_rfl)) trivial<|yq 3 [(49,Pt J 0),(46,au),(42,Pt J 0),(0,Pt J 0),(2,V ab),(10,V az)] ?_
 have fS:J<bm:=bn.1 _ (List.mem_of_getElem? (i:=0) rfl) _ (by simp [Itm.ids])
 refine aW (v:=an) rfl trivial rfl (by show J<_;omega) (aC (v:=an) (RS.dZ U)) (aX.aU (i:=0) rfl (by kernel_rfl)) trivial<|yq 1 [(51,V ab),(50,an),(46,au),(42,Pt J 0),(0,Pt J 0),(2,V ab),(10,V az)] ?_
 obtain ⟨bP,I⟩:=aK I
 refine aG rfl trivial (bF rfl rfl (by kernel_rfl:slTy _ _=some (aa ak)) (RS.c8 U (by omega)) bP.1 bP.2)<|yq 1 [(53, .pointer (some (bj an ab (aa ak) 1))),(46,au),(42,Pt J 0),(0,Pt J 0),(2,V ab),(10,V az)] ?_
 obtain ⟨ax,cw,I⟩:=ai I
 obtain ⟨fT,cx,cB⟩:=RS.cy U (i:=ab) cw
 obtain rfl:=ey cx
 refine cM rfl rfl trivial (fun h2 hz=>bL (w:=V ax.ah) (cB h2 hz) rfl (by kernel_rfl)) (aX.b1 (aO.refl _)) (aC (v:=V ax.ah) trivial) trivial<|yq 3 [(57,Pt J 0),(54,V ax.ah),(46,au),(42,Pt J 0),(0,Pt J 0),(2,V ab),(10,V az)] ?_
 have fV:J<bm:=bn.1 _ (List.mem_of_getElem? (i:=0) rfl) _ (by simp [Itm.ids])
 refine aW (v:=an) rfl trivial rfl (by show J<_;omega) (aC (v:=an) (RS.dZ U)) (aX.aU (i:=0) rfl (by kernel_rfl)) trivial<|yq 1 [(59,V ab),(58,an),(54,V ax.ah),(46,au),(42,Pt J 0),(0,Pt J 0),(2,V ab),(10,V az)] ?_
 obtain ⟨bR,I⟩:=aK I
 refine aG rfl trivial (bF rfl rfl (by kernel_rfl:slTy _ _=some (aa ak)) (RS.c8 U (by omega)) bR.1 bR.2)<|yq 1 [(61, .pointer (some (bj an ab (aa ak) 2))),(54,V ax.ah),(46,au),(42,Pt J 0),(0,Pt J 0),(2,V ab),(10,V az)] ?_
 obtain ⟨aD,cC,I⟩:=ai I
 obtain ⟨fW,cF,cG⟩:=RS.cy U (i:=ab) cC
 obtain rfl:=ey cF
 refine cM rfl rfl trivial (fun h2 hz=>bL (w:=V aD.To) (cG h2 hz) rfl (by kernel_rfl)) (aX.b1 (aO.refl _)) (aC (v:=V aD.To) trivial) trivial<|yq 1 [(63, .agg #[V 9,V ax.ah,V aD.To]),(46,au),(42,Pt J 0),(0,Pt J 0),(2,V ab),(10,V az)] ?_
 have cH:RCs (α:=aj) aY [V 9,V ax.ah,V aD.To] [(⟨9,ax.ah,aD.To⟩:aj)]:=RCs.cons (cs:=[V 9,V ax.ah,V aD.To]) rfl (RCs.br _)
 refine jo rfl trivial (cX (cells:=[V 9,V ax.ah,V aD.To]) (s:=3) (by kernel_rfl)) (by kernel_rfl) aX (by omega) (Nat.add_lt_add_left (by decide) _) ?_
 intro bT fX fY fZ ga bU
 obtain ⟨gb,I⟩:=aK I
 have a8:St _ _ _ _ _ _ ([.gs au aZ (aa aj)]++[.gs bT [V 9,V ax.ah,V aD.To] (aa aj), .ae J (ay an aH au ar)]):=(bU.front 2 rfl)
 refine iz rfl trivial a8 (dG (ys:=[(⟨9,ax.ah,aD.To⟩:aj)]) (bS:=24) a8.sub (i:=0) rfl ao ((bU.cJ).eA (j:=0) rfl cH) rfl rfl (by kernel_rfl) (by omega) (by omega)) (aO.refl _) (.a3 trivial (.a3 (a8.bH 1 rfl bM) (.a3 trivial (.a3 (a8.bH 1 rfl bM) (.a3 (a8.bH 1 rfl bM) .nil))))) ?_
 rintro a4 bV gd ⟨bW,bo⟩
 refine yq 2 [(67,Pt J 2),(65,a4),(0,Pt J 0),(2,V ab),(10,V az)] ?_
 have bX:St _ _ _ _ _ _ ([.ae J (ay an aH au ar)]++[.gs a4 bV (aa aj), .gs bT [V 9,V ax.ah,V aD.To] (aa aj)]):=(bo.front 2 rfl)
 refine g5 rfl trivial bX (gv (vs:=[a4]) (cD:=(ay an aH a4 ar)) (L':=[.ae J (ay an aH a4 ar)]) bX.sub (i:=0) rfl rfl rfl (bo.fU (i:=0) rfl) (by kernel_rfl) (bt (bo.fO (i:=0) rfl) cp) rfl rfl rfl) (aO.refl _) (.a3 trivial (.drop (by decide) (.a3 trivial (.drop (by decide) (.drop (by decide) .nil))))) ?_
 intro gf cI
 refine yf [(0,Pt J 0),(2,V ab),(10,V az)] ?_
 have cK:=cI.a5
 refine s0 ?_
 obtain ⟨cL,cQ,I⟩:=ai I
 refine cE 4 cK (fun gg bp cR bY=>oo F (a0:=(⟨ar.L,ar.T,ar.D++[(⟨9,ax.ah,aD.To⟩:aj)],ar.End⟩:aL)) cR (RS.mono bp U) (RS.mono bp ad) (bf.row (bY _ (List.mem_of_getElem? (i:=1) rfl)) bp bW) (bY _ (List.mem_of_getElem? (i:=0) rfl)) cQ) ?_
 rintro _ gh cS rfl
 refine xn 1<|rt<|bw<|bw<|bw<|⟨rfl,?_⟩
 obtain rfl:=si I
 obtain rfl:=si hm
 refine ⟨_,_,_,tk (V cL) (ResL.nil),(cS.takeN 2),?_⟩
 exact ⟨an,aH,a4,bV,rfl,rfl,U,ad,bW⟩
 refine xn 1<|dF<|s0<|aE 2 I ?_ ?_<;>intro gi I
 refine xn 1<|dT<|s0<|aB 4 0 (.agg #[aH]) a2 rfl ?_
 obtain ⟨gj,cT,I⟩:=ai I
 refine c0 3 a2 (r4 F a2.ez ad cT) ?_
 rintro _ gk gl _ bZ c3 ⟨bb,rfl,rfl,b0⟩
 refine bA 2 0 (.agg #[bb]) [bb] (ay an bb au ar) c3 rfl rfl (bt (RS.cY b0) cp) ?_
 intro gm c4
 refine xn 0<|sp 3<|rt<|bw<|bw<|bw<|⟨rfl,?_⟩
 obtain rfl:=si I
 obtain rfl:=si hm
 refine ⟨_,_,_,tk (V (af (aV+1))) (ResL.nil),c4,?_⟩
 exact ⟨an,bb,au,aZ,rfl,rfl,(U.mono bZ),b0,(ao.mono bZ)⟩
 refine xn 1<|dF<|s0 ?_
 obtain ⟨gn,c5,I⟩:=ai I
 refine cP 1 a2 (nJ F a2.inv c5) ?_
 rintro _ gq aJ rfl
 refine xn 1<|db I ?_ ?_<;>intro gr I
 refine s0 ?_
 obtain ⟨c6,c7,I⟩:=ai I
 refine cA 5 aJ (fun p=>fh F p U ad ao c7) ?_
 rintro _ gu gw _ gx c9 ⟨da,dc,dd,de,rfl,rfl,df,dg,dh⟩
 refine xn 0<|gp 3 ?_
 exact ⟨aw,Nat.lt_succ_self _,⟨_,c6.2,aF,af (aV+1),av,da,dc,dd,de,I,df,dg,dh,(by kernel_rfl),c9⟩⟩
 refine s0<|aE 1 I ?_ ?_<;>intro gy I
 refine xn 4<|db I ?_ ?_<;>intro gz I
 refine s0<|aB 4 0 (.agg #[aH]) aJ rfl ?_
 obtain ⟨di,dj,I⟩:=ai I
 refine c0 3 aJ (r4 F aJ.ez ad dj) ?_
 rintro _ gA gB _ b2 dk ⟨bc,rfl,rfl,b3⟩
 refine bA 2 0 (.agg #[bc]) [bc] (ay an bc au ar) dk rfl rfl (bt (RS.cY b3) cp) ?_
 intro gC dm
 refine xn 0<|sp 1<|gp 3 ?_
 exact ⟨aw,Nat.lt_succ_self _,⟨_,(⟨ar.L,di,ar.D,ar.End⟩:aL),false,af (aV+1),av,an,bc,au,aZ,I,(U.mono b2),b3,(ao.mono b2),(by kernel_rfl),dm⟩⟩
 refine s0<|aE 1 I ?_ ?_<;>intro gD I
 refine xn 1<|dT<|s0 ?_
 obtain ⟨dn,dp,I⟩:=ai I
 refine cA 5 aJ (fun p=>fh F p U ad ao dp) ?_
 rintro _ gE gF _ gG dq ⟨dr,ds,du,dw,rfl,rfl,dx,dy,dz⟩
 refine xn 0<|gp 3 ?_
 exact ⟨aw,Nat.lt_succ_self _,⟨_,dn.2,aF,af (aV+1),av,dr,ds,du,dw,I,dx,dy,dz,(by kernel_rfl),dq⟩⟩
 refine xn 1<|dF<|sp 2<|db I ?_ ?_<;>intro gH I
 refine s0 ?_
 obtain ⟨dA,dB,I⟩:=ai I
 refine cE 2 aJ (fun gI bu dD b4=>vi F dD (RS.mono bu U) (RS.mono bu ad) (bf.row (b4 _ (List.mem_of_getElem? (i:=1) rfl)) bu ao) (b4 _ (List.mem_of_getElem? (i:=0) rfl)) dB) ?_
 rintro _ gJ dE rfl
 refine xn 1<|g0 ?_
 obtain ⟨dH,dI,I⟩:=ai I
 refine cA 4 dE (fun p=>fh F p U ad ao dI) ?_
 rintro _ gK gL _ gM dJ ⟨dK,dL,dM,dN,rfl,rfl,dO,dP,dQ⟩
 refine xn 0 ?_
 exact ⟨aw,Nat.lt_succ_self _,⟨_,dH.2,aF,dA,av,dK,dL,dM,dN,I,dO,dP,dQ,(by kernel_rfl),dJ⟩⟩
 refine s0 ?_
 obtain ⟨gN,dR,I⟩:=ai I
 refine cE 2 aJ (fun gO bx dS b6=>r3 F dS (RS.mono bx U) (RS.mono bx ad) (bf.row (b6 _ (List.mem_of_getElem? (i:=1) rfl)) bx ao) (b6 _ (List.mem_of_getElem? (i:=0) rfl)) dR) ?_
 rintro _ gP bz rfl
 refine cz 0 I ?_ ?_<;>intro gQ I
 refine xn 5<|dT<|s0 ?_
 obtain ⟨b7,dU,I⟩:=ai I
 refine cA 4 bz (fun p=>o3 F b9 iU p U ad ao dU) ?_
 rintro _ gR gS _ gT dV ⟨dW,dX,dY,ea,rfl,rfl,eb,ec,ed⟩
 refine xn 1<|gp 1 ?_
 exact ⟨aw,Nat.lt_succ_self _,⟨_,b7.2,true,b7.1,av,dW,dX,dY,ea,I,eb,ec,ed,(by kernel_rfl),dV⟩⟩
 obtain ⟨gU,ee,I⟩:=ai I
 refine cP 2 bz (sf F bz.inv ee) ?_
 rintro _ gV b8 rfl
 refine xn 2<|db I ?_ ?_<;>intro gW I
 refine s0 ?_
 obtain ⟨ca,eg,I⟩:=ai I
 refine cA 4 b8 (fun p=>o3 F b9 iU p U ad ao eg) ?_
 rintro _ gX gY _ gZ eh ⟨ei,ej,ek,en,rfl,rfl,eo,ep,er⟩
 refine xn 1<|gp 1 ?_
 exact ⟨aw,Nat.lt_succ_self _,⟨_,ca.2,true,ca.1,av,ei,ej,ek,en,I,eo,ep,er,(by kernel_rfl),eh⟩⟩
 refine s0 ?_
 obtain ⟨et,eu,I⟩:=ai I
 refine cA 5 b8 (fun p=>fh F p U ad ao eu) ?_
 rintro _ g1 g2 _ g3 ew ⟨eB,eC,eD,eE,rfl,rfl,eF,eG,eH⟩
 refine xn 0<|gp 3 ?_
 exact ⟨aw,Nat.lt_succ_self _,⟨_,et.2,aF,af (aV+1),av,eB,eC,eD,eE,I,eF,eG,eH,(by kernel_rfl),ew⟩⟩
 refine xn 4<|dF<|s0<|aE 1 I ?_ ?_<;>intro g4 I
 refine xn 1<|dT<|s0 ?_
 obtain ⟨eI,eJ,I⟩:=ai I
 refine cA 5 aJ (fun p=>fh F p U ad ao eJ) ?_
 rintro _ g6 g7 _ g8 eK ⟨eL,eM,eN,eO,rfl,rfl,eP,eQ,eR⟩
 refine xn 0<|gp 3 ?_
 exact ⟨aw,Nat.lt_succ_self _,⟨_,eI.2,aF,af (aV+1),av,eL,eM,eN,eO,I,eP,eQ,eR,(by kernel_rfl),eK⟩⟩
 refine xn 1<|dF<|sp 2<|db I ?_ ?_<;>intro g9 I
 refine s0 ?_
 obtain ⟨eS,eT,I⟩:=ai I
 refine cE 2 aJ (fun ha bB eU cb=>vi F eU (RS.mono bB U) (RS.mono bB ad) (bf.row (cb _ (List.mem_of_getElem? (i:=1) rfl)) bB ao) (cb _ (List.mem_of_getElem? (i:=0) rfl)) eT) ?_
 rintro _ hb eV rfl
 refine xn 1<|g0 ?_
 obtain ⟨eW,eX,I⟩:=ai I
 refine cA 4 eV (fun p=>fh F p U ad ao eX) ?_
 rintro _ hc hf _ hg eY ⟨eZ,e0,e2,e3,rfl,rfl,e4,e5,e6⟩
 refine xn 0 ?_
 exact ⟨aw,Nat.lt_succ_self _,⟨_,eW.2,aF,eS,av,eZ,e0,e2,e3,I,e4,e5,e6,(by kernel_rfl),eY⟩⟩
 refine s0 ?_
 obtain ⟨hh,e7,I⟩:=ai I
 refine cE 2 aJ (fun hi bC e8 cc=>r3 F e8 (RS.mono bC U) (RS.mono bC ad) (bf.row (cc _ (List.mem_of_getElem? (i:=1) rfl)) bC ao) (cc _ (List.mem_of_getElem? (i:=0) rfl)) e7) ?_
 rintro _ hj bD rfl
 refine cz 0 I ?_ ?_<;>intro hk I
 refine xn 5<|dT<|s0 ?_
 obtain ⟨cd,e9,I⟩:=ai I
 refine cA 4 bD (fun p=>o3 F b9 iU p U ad ao e9) ?_
 rintro _ hl hn _ ho fa ⟨fb,fc,fe,ff,rfl,rfl,fg,fi,fj⟩
 refine xn 1<|gp 1 ?_
 exact ⟨aw,Nat.lt_succ_self _,⟨_,cd.2,true,cd.1,av,fb,fc,fe,ff,I,fg,fi,fj,(by kernel_rfl),fa⟩⟩
 obtain ⟨hp,fl,I⟩:=ai I
 refine cP 2 bD (sf F bD.inv fl) ?_
 rintro _ hq cf rfl
 refine xn 2<|db I ?_ ?_<;>intro hr I
 refine s0 ?_
 obtain ⟨cg,fm,I⟩:=ai I
 refine cA 4 cf (fun p=>o3 F b9 iU p U ad ao fm) ?_
 rintro _ ht hv _ hx fo ⟨fp,fq,fr,fs,rfl,rfl,ft,fu,fv⟩
 refine xn 1<|gp 1 ?_
 exact ⟨aw,Nat.lt_succ_self _,⟨_,cg.2,true,cg.1,av,fp,fq,fr,fs,I,ft,fu,fv,(by kernel_rfl),fo⟩⟩
 refine s0 ?_
 obtain ⟨fw,fx,I⟩:=ai I
 refine cA 5 cf (fun p=>fh F p U ad ao fx) ?_
 rintro _ hy hA _ hB fy ⟨fz,fA,fB,fC,rfl,rfl,fD,fE,fG⟩
 refine xn 0<|gp 3 ?_
 exact ⟨aw,Nat.lt_succ_self _,⟨_,fw.2,aF,af (aV+1),av,fz,fA,fB,fC,I,fD,fE,fG,(by kernel_rfl),fy⟩⟩
 refine s0<|aB 3 0 aM hS rfl<|a6 1 aN bd ?_
 intro hC aN
 refine bh 1 0 (fun ch=>V ch.Kind) aN bd hS ?_
 intro ch hD aN
 refine aE 0 aN ?_ ?_<;>intro hE aN
 refine xn 0<|dT<|gp 1 ?_
 obtain rfl:=si aN
 exact ⟨_,11,rfl,(by kernel_rfl),hS⟩
 refine xn 0<|dF<|sk ?_
 obtain rfl:=si aN
 exact ⟨_,10,rfl,(by kernel_rfl),hS⟩
def correctorref11_Reader_Value_l0 (F:Nat) (b9:aL→Int→Int→Int→Option (Int×Int×aL)) (a0:aL) (a1:Int) (J:Int) (U:Int):Nat→Int→Int→Int→Option (Int×Int×Int)
 | 0,_,_,_=>none
 | n+1,j,I,aa=>
  (((et F a0 j).bind fun ab=>
   if ab=(12:Int) then
    some (.inl ())
   else
    (et F a0 j).bind fun ad=>
    if ad=(14:Int) then
     some (.inl ())
    else
     some (.inr (j,I,aa))):Option (Sum Unit (Int×Int×Int))).bind fun o=>match o with
   | .inl ()=>((if I<(0:Int) then
     some j
    else
     some I):Option Int).bind fun o=>match o with
    | ae=>(kn F a0 (af (j+1))).bind fun ag=>
    correctorref11_Reader_Value_l0 F b9 a0 a1 J U n ag ae j
   | .inr y=>some y
def n4 (F:Nat) (b9:aL→Int→Int→Int→Option (Int×Int×aL)) (a0:aL) (a1:Int) (U:Int) (aa:Int):Option (Int×Int×aL):=
 (kn F a0 U).bind fun ar=>
 ((correctorref11_Reader_Value_l0 F b9 a0 a1 U aa F ar (-1) 0):Option (Int×Int×Int)).bind fun o=>match o with
  | (j,ab,ae)=>((if (0:Int)≤ab then
    some ab
   else
    some j):Option Int).bind fun o=>match o with
   | I=>(et F a0 j).bind fun J=>
   if J=(13:Int) then
    (ek F a0 a1 8 I (af (j+1))).bind fun ag=>
    some (ag.1,af (j+1),ag.2)
   else
    (e7 F J).bind fun au=>
    if au=true then
     (ek F a0 a1 7 I (af (j+1))).bind fun ah=>
     some (ah.1,af (j+1),ah.2)
    else
     if J=(18:Int) then
      (m5 F a0 j).bind fun ai=>
      (ek F a0 a1 7 I ai).bind fun aj=>
      some (aj.1,ai,aj.2)
     else
      (((iW F J).bind fun av=>
       if av=true then
        if aa≤(0:Int) then
         some true
        else
         some false
       else
        some false):Option Bool).bind fun o=>match o with
       | aw=>if aw=true then
        (correctorref11_Reader_balanced F a0 j).bind fun al=>
        (dQ F a0 a1 I al 10).bind fun an=>
        some (an.1,al,an.2)
       else
        (iW F J).bind fun ax=>
        if ax=true then
         ((if J=(9:Int) then
           some 10
          else
           some 9):Option Int).bind fun o=>match o with
          | ay=>(ek F a0 a1 ay I (af (j+1))).bind fun ad=>
          (lX F b9 ad.2 ad.1 j aa).bind fun ao=>
          some (ad.1,ao.1,ao.2)
        else
         if (0:Int)≤ab then
          (ek F a0 a1 7 I (af (ae+1))).bind fun aq=>
          some (aq.1,af (ae+1),aq.2)
         else
          some ((-1),U,a0)
theorem Ea (F:Nat) (b9:aL→Int→Int→Int→Option (Int×Int×aL)) (iU:oD b9) {h:AH} {Z:Zn} {a0:aL} {a1:Int} {aw:Int} {ax:Int} {I J U j ab} (hP:Pre Z h [.ae I (ay J U j a0), .gs j ab (aa aj)]) (an:RS (α:=ak) Z J a0.L) (ao:RS (α:=aq) Z U a0.T.al) (ar:RCs (α:=aj) Z ab a0.D) {r:Int×Int×aL} (hm:n4 F b9 a0 a1 aw ax=some r):
  bQ Try.prog 80 [Pt I 0,V a1,V aw,V ax] h Z [.ae I (ay J U j a0), .gs j ab (aa aj)] fun v Z' A'=>∃ v10 bd bg bh, .tuple #[V r.1,V r.2.1]=v∧A'=[.ae I (ay v10 bd bg r.2.2), .gs bg bh (aa aj)]∧RS (α:=ak) Z' v10 r.2.2.L∧RS (α:=aq) Z' bd r.2.2.T.al∧RCs (α:=aj) Z' bh r.2.2.D:=by
 refine b5 Try.func80 hP ?_
 intro hs hS
 unfold n4 at hm
 refine sp 2<|s0 ?_
 obtain ⟨bH,bI,hm⟩:=ai hm
 refine cE 2 hS (fun dz aY bJ bj=>th F bJ (RS.mono aY an) (RS.mono aY ao) (bf.row (bj _ (List.mem_of_getElem? (i:=1) rfl)) aY ar) (bj _ (List.mem_of_getElem? (i:=0) rfl)) bI) ?_
 rintro _ dA bK rfl
 refine xn 1<|sp 2<|sq ?_
 obtain ⟨aZ,au,hm⟩:=ai hm
 refine aI [0,1,2,3,10,11,12] (fun l h=>∃ bl az aD aF,(az,aD,aF)=aZ∧l=[(0,Pt I 0),(1,V a1),(2,V aw),(3,V ax),(10,V az),(11,V aD),(12,V aF)]∧St hs (aR [.ae I (ay J U j a0), .gs j ab (aa aj)]) Z (0,0) bl h [.ae I (ay J U j a0), .gs j ab (aa aj)]) ?_ ?_
 rintro l dB ⟨bl,az,aD,aF,rfl,rfl,bm⟩
 try dsimp only at hm
 refine sp 2<|sq ?_
 obtain ⟨bL,aJ,hm⟩:=ai hm
 refine aI [0,1,2,3,10,11,12,13] (fun l h=>∃ bn aH,aH=bL∧l=[(0,Pt I 0),(1,V a1),(2,V aw),(3,V ax),(10,V az),(11,V aD),(12,V aF),(13,V aH)]∧St hs (aR [.ae I (ay J U j a0), .gs j ab (aa aj)]) Z (0,0) bn h [.ae I (ay J U j a0), .gs j ab (aa aj)]) ?_ ?_
 rintro l dD ⟨bn,aH,rfl,rfl,ad⟩
 try dsimp only at hm
 refine s0 ?_
 obtain ⟨bM,bN,hm⟩:=ai hm
 refine cE 2 ad (fun dE a2 bO bo=>fk F bO (RS.mono a2 (an.mono ad.ag)) (RS.mono a2 (ao.mono ad.ag)) (bf.row (bo _ (List.mem_of_getElem? (i:=1) rfl)) a2 (ar.mono ad.ag)) (bo _ (List.mem_of_getElem? (i:=0) rfl)) bN) ?_
 rintro _ dG a3 rfl
 refine xn 1<|sq<|bk 2<|s0<|aE 1 hm ?_ ?_<;>intro dH hm
 refine xn 1<|dT<|s0 ?_
 obtain ⟨bP,bR,hm⟩:=ai hm
 refine cA 5 a3 (fun p=>fT F p (an.mono ad.ag) (ao.mono ad.ag) (ar.mono ad.ag) bR) ?_
 rintro _ dI dJ _ dK bS ⟨bT,bU,bV,rfl,rfl,bW,bX,bY⟩
 refine xn 4<|rt<|bw<|⟨rfl,?_⟩
 obtain rfl:=si hm
 refine ⟨_,_,_,tk (V bP.1) (tk (V (af (az+1))) (ResL.nil)),bS,?_⟩
 exact ⟨bT,bU,j,bV,rfl,rfl,bW,bX,bY⟩
 refine xn 1<|dF<|s0 ?_
 obtain ⟨dL,bZ,hm⟩:=ai hm
 refine cP 1 a3 (pL F a3.inv bZ) ?_
 rintro _ dM aK rfl
 refine xn 1<|db hm ?_ ?_<;>intro dN hm
 refine s0 ?_
 obtain ⟨b0,b1,hm⟩:=ai hm
 refine cA 5 aK (fun p=>fT F p (an.mono ad.ag) (ao.mono ad.ag) (ar.mono ad.ag) b1) ?_
 rintro _ dO dP _ dQ b2 ⟨b3,b4,b6,rfl,rfl,b7,b8,ca⟩
 refine xn 4<|rt<|bw<|⟨rfl,?_⟩
 obtain rfl:=si hm
 refine ⟨_,_,_,tk (V b0.1) (tk (V (af (az+1))) (ResL.nil)),b2,?_⟩
 exact ⟨b3,b4,j,b6,rfl,rfl,b7,b8,ca⟩
 refine s0<|aE 1 hm ?_ ?_<;>intro dR hm
 refine xn 1<|dT<|s0 ?_
 obtain ⟨cb,cc,hm⟩:=ai hm
 refine cE 2 aK (fun dS a4 cd bp=>Cm F cd (RS.mono a4 (an.mono ad.ag)) (RS.mono a4 (ao.mono ad.ag)) (bf.row (bp _ (List.mem_of_getElem? (i:=1) rfl)) a4 (ar.mono ad.ag)) (bp _ (List.mem_of_getElem? (i:=0) rfl)) cc) ?_
 rintro _ dU cf rfl
 refine xn 1<|s0 ?_
 obtain ⟨cg,ch,hm⟩:=ai hm
 refine cA 4 cf (fun p=>fT F p (an.mono ad.ag) (ao.mono ad.ag) (ar.mono ad.ag) ch) ?_
 rintro _ dV dW _ dX cj ⟨ck,cl,cm,rfl,rfl,cn,cp,cq⟩
 refine xn 3<|rt<|bw<|⟨rfl,?_⟩
 obtain rfl:=si hm
 refine ⟨_,_,_,tk (V cg.1) (tk (V cb) (ResL.nil)),cj,?_⟩
 exact ⟨ck,cl,j,cm,rfl,rfl,cn,cp,cq⟩
 refine xn 1<|dF<|sq ?_
 obtain ⟨cr,aA,hm⟩:=ai hm
 refine aI [0,1,2,3,10,11,12,13,14,81] (fun l h=>∃ br a5,a5=cr∧l=[(0,Pt I 0),(1,V a1),(2,V aw),(3,V ax),(10,V az),(11,V aD),(12,V aF),(13,V aH),(14,V bM),(81, .bool a5)]∧St hs (aR [.ae I (ay J U j a0), .gs j ab (aa aj)]) Z (0,0) br h [.ae I (ay J U j a0), .gs j ab (aa aj)]) ?_ ?_
 rintro l dZ ⟨br,a5,rfl,rfl,ah⟩
 try dsimp only at hm
 refine db hm ?_ ?_<;>intro ea hm
 refine s0 ?_
 obtain ⟨cu,cw,hm⟩:=ai hm
 refine cE 2 ah (fun eb a6 cx bt=>A3 F cx (RS.mono a6 (an.mono ah.ag)) (RS.mono a6 (ao.mono ah.ag)) (bf.row (bt _ (List.mem_of_getElem? (i:=1) rfl)) a6 (ar.mono ah.ag)) (bt _ (List.mem_of_getElem? (i:=0) rfl)) cw) ?_
 rintro _ ec cy rfl
 refine xn 1<|s0 ?_
 obtain ⟨cz,cB,hm⟩:=ai hm
 refine cA 4 cy (fun p=>fh F p (an.mono ah.ag) (ao.mono ah.ag) (ar.mono ah.ag) cB) ?_
 rintro _ ed ee _ eg cC ⟨cD,cF,cG,cH,rfl,rfl,cI,cJ,cK⟩
 refine xn 3<|rt<|bw<|⟨rfl,?_⟩
 obtain rfl:=si hm
 refine ⟨_,_,_,tk (V cz.1) (tk (V cu) (ResL.nil)),cC,?_⟩
 exact ⟨cD,cF,cG,cH,rfl,rfl,cI,cJ,cK⟩
 refine s0 ?_
 obtain ⟨eh,cL,hm⟩:=ai hm
 refine cP 1 ah (mT F ah.inv cL) ?_
 rintro _ ei aM rfl
 refine xn 1<|db hm ?_ ?_<;>intro ej hm
 refine sp 1<|sq ?_
 obtain ⟨cM,aO,hm⟩:=ai hm
 refine aI [0,1,3,10,13,17] (fun l h=>∃ bu a7,a7=cM∧l=[(0,Pt I 0),(1,V a1),(3,V ax),(10,V az),(13,V aH),(17,V a7)]∧St hs (aR [.ae I (ay J U j a0), .gs j ab (aa aj)]) Z (0,0) bu h [.ae I (ay J U j a0), .gs j ab (aa aj)]) ?_ ?_
 rintro l ek ⟨bu,a7,rfl,rfl,aT⟩
 try dsimp only at hm
 refine s0 ?_
 obtain ⟨cQ,cR,hm⟩:=ai hm
 refine cA 6 aT (fun p=>fT F p (an.mono aT.ag) (ao.mono aT.ag) (ar.mono aT.ag) cR) ?_
 rintro _ en eo _ ep cS ⟨er,et,eu,rfl,rfl,cT,cU,cX⟩
 refine xn 1<|s0 ?_
 obtain ⟨cY,c0,hm⟩:=ai hm
 refine cA 5 cS (fun p=>CD F b9 iU p cT cU cX c0) ?_
 rintro _ ew ey _ ez c3 ⟨c4,c5,c6,c7,rfl,rfl,c8,c9,da⟩
 refine xn 2<|rt<|bw<|⟨rfl,?_⟩
 obtain rfl:=si hm
 refine ⟨_,_,_,tk (V cQ.1) (tk (V cY.1) (ResL.nil)),c3,?_⟩
 exact ⟨c4,c5,c6,c7,rfl,rfl,c8,c9,da⟩
 refine s0<|aE 1 aO ?_ ?_<;>intro eA aO
 refine xn 0<|dT<|gp 1 ?_
 obtain rfl:=si aO
 exact ⟨_,10,rfl,(by kernel_rfl),aM⟩
 refine xn 0<|dF<|sk ?_
 obtain rfl:=si aO
 exact ⟨_,9,rfl,(by kernel_rfl),aM⟩
 refine s0<|ct 1 hm ?_ ?_<;>intro eB hm
 refine xn 1<|dT<|s0 ?_
 obtain ⟨dc,dd,hm⟩:=ai hm
 refine cA 5 aM (fun p=>fT F p (an.mono ah.ag) (ao.mono ah.ag) (ar.mono ah.ag) dd) ?_
 rintro _ eC eD _ eE de ⟨df,dg,dh,rfl,rfl,di,dj,dk⟩
 refine xn 4<|rt<|bw<|⟨rfl,?_⟩
 obtain rfl:=si hm
 refine ⟨_,_,_,tk (V dc.1) (tk (V (af (aF+1))) (ResL.nil)),de,?_⟩
 exact ⟨df,dg,j,dh,rfl,rfl,di,dj,dk⟩
 refine xn 1<|dF<|sk<|sp 3<|rt<|⟨rfl,?_⟩
 obtain rfl:=si hm
 refine ⟨_,_,_,tk (V (-1)) (tk (V aw) (ResL.nil)),aM,?_⟩
 exact ⟨J,U,j,ab,rfl,rfl,(an.mono ah.ag),(ao.mono ah.ag),(ar.mono ah.ag)⟩
 refine g0 ?_
 obtain ⟨eF,dm,aA⟩:=ai aA
 refine cP 1 aK (mT F aK.inv dm) ?_
 rintro _ eG a8 rfl
 refine kb 1 84 aA ?_ ?_<;>intro eH aA
 refine e6 1 aA ?_ ?_<;>intro eI aA
 refine xn 2 ?_
 obtain rfl:=si aA
 exact ⟨_,true,rfl,(by kernel_rfl),a8⟩
 refine xn 2 ?_
 obtain rfl:=si aA
 exact ⟨_,false,rfl,(by kernel_rfl),a8⟩
 refine xn 4 ?_
 obtain rfl:=si aA
 exact ⟨_,false,rfl,(by kernel_rfl),a8⟩
 refine s0<|ct 1 aJ ?_ ?_<;>intro eJ aJ
 refine xn 0<|dT<|gp 2 ?_
 obtain rfl:=si aJ
 exact ⟨_,aD,rfl,(by kernel_rfl),bm⟩
 refine xn 0<|dF<|sk ?_
 obtain rfl:=si aJ
 exact ⟨_,az,rfl,(by kernel_rfl),bm⟩
 refine bk 0<|lp [0,1,2,3,10,11,12] (fun n l h=>∃ bx aB aG aU,correctorref11_Reader_Value_l0 F b9 a0 a1 aw ax n aB aG aU=some aZ∧l=[(0,Pt I 0),(1,V a1),(2,V aw),(3,V ax),(10,V aB),(11,V aG),(12,V aU)]∧St hs (aR [.ae I (ay J U j a0), .gs j ab (aa aj)]) Z (0,0) bx h [.ae I (ay J U j a0), .gs j ab (aa aj)]) F ⟨_,bH,(-1),0,au,(by kernel_rfl),bK⟩ ?_
 rintro a9 l eK ⟨bx,aB,aG,aU,au,rfl,aC⟩
 rcases a9 with _ | a9
 cases (show none=some aZ from au)
 rw [correctorref11_Reader_Value_l0] at au
 refine sq ?_
 obtain ⟨dn,av,au⟩:=ai au
 refine aI [0,1,2,3,10,11] (fun l h=>∃ bz, .inl ()=dn∧l=[(0,Pt I 0),(1,V a1),(2,V aw),(3,V ax),(10,V aB),(11,V aG)]∧St hs (aR [.ae I (ay J U j a0), .gs j ab (aa aj)]) Z (0,0) bz h [.ae I (ay J U j a0), .gs j ab (aa aj)]) ?_ ?_
 rintro l eL ⟨bz,rfl,rfl,bA⟩
 try dsimp only at au
 refine bk 1<|sq ?_
 obtain ⟨dp,aV,au⟩:=ai au
 refine dY [0,1,2,3,10,11] (fun l h=>∃ bB aW,aW=dp∧l=[(0,Pt I 0),(1,V a1),(2,V aw),(3,V ax),(10,V aB),(11,V aW)]∧St hs (aR [.ae I (ay J U j a0), .gs j ab (aa aj)]) Z (0,0) bB h [.ae I (ay J U j a0), .gs j ab (aa aj)]) (by kernel_rfl) ?_ ?_
 rintro l eM ⟨bB,aW,rfl,rfl,aX⟩
 try dsimp only at au
 refine sp 2<|g0 ?_
 obtain ⟨dq,dr,au⟩:=ai au
 refine cE 3 aX (fun eN ba ds bC=>th F ds (RS.mono ba (an.mono aX.ag)) (RS.mono ba (ao.mono aX.ag)) (bf.row (bC _ (List.mem_of_getElem? (i:=1) rfl)) ba (ar.mono aX.ag)) (bC _ (List.mem_of_getElem? (i:=0) rfl)) dr) ?_
 rintro _ eO du rfl
 refine xn 1 ?_
 exact ⟨a9,Nat.lt_succ_self _,⟨_,dq,aW,aB,au,(by kernel_rfl),du⟩⟩
 refine g0<|aP 1 aV ?_ ?_<;>intro eP aV
 refine xn 0<|dT<|gp 2 ?_
 obtain rfl:=si aV
 exact ⟨_,aB,rfl,(by kernel_rfl),bA⟩
 refine xn 0<|dF<|sk ?_
 obtain rfl:=si aV
 exact ⟨_,aG,rfl,(by kernel_rfl),bA⟩
 refine s0 ?_
 obtain ⟨eQ,dv,av⟩:=ai av
 refine cE 2 aC (fun eR bb dw bD=>fk F dw (RS.mono bb (an.mono aC.ag)) (RS.mono bb (ao.mono aC.ag)) (bf.row (bD _ (List.mem_of_getElem? (i:=1) rfl)) bb (ar.mono aC.ag)) (bD _ (List.mem_of_getElem? (i:=0) rfl)) dv) ?_
 rintro _ eS bE rfl
 refine aE 0 av ?_ ?_<;>intro eT av
 refine xn 6<|dT<|sk ?_
 obtain rfl:=si av
 exact ⟨_,rfl,(by kernel_rfl),bE⟩
 obtain ⟨eU,dx,av⟩:=ai av
 refine cE 3 bE (fun eV bc dy bF=>fk F dy (RS.mono bc (an.mono aC.ag)) (RS.mono bc (ao.mono aC.ag)) (bf.row (bF _ (List.mem_of_getElem? (i:=1) rfl)) bc (ar.mono aC.ag)) (bF _ (List.mem_of_getElem? (i:=0) rfl)) dx) ?_
 rintro _ eW bG rfl
 refine aE 0 av ?_ ?_<;>intro eX av
 refine xn 1<|dT<|sk ?_
 obtain rfl:=si av
 exact ⟨_,rfl,(by kernel_rfl),bG⟩
 refine xn 1<|dF<|xt 0<|aN ?_
 obtain rfl:=si av
 obtain rfl:=si au
 exact ⟨_,aB,aG,aU,rfl,(by kernel_rfl),bG⟩
def pH (F:Nat):Nat→aL→Int→Int→Int→Option (Int×Int×aL)
 | 0=>fun _ _ _ _=>none
 | n+1=>n4 F (pH F n)
theorem vA (F:Nat):∀ n,oD (pH F n)
 | 0=>by intro hP j I J r hm;cases hm
 | n+1=>by intro hP j I J r hm;exact Ea F _ (vA F n) hP j I J hm
def qX (F:Nat) (a0:aL) (a1:Int) (j:Int) (I:Int):Option (Int×Int×aL):=pH F F a0 a1 j I
theorem AL (F:Nat) {h:AH} {Z:Zn} {a0:aL} {a1:Int} {ad:Int} {af:Int} {j J U I ab} (hP:Pre Z h [.ae j (ay J U I a0), .gs I ab (aa aj)]) (an:RS (α:=ak) Z J a0.L) (ao:RS (α:=aq) Z U a0.T.al) (ar:RCs (α:=aj) Z ab a0.D) {r:Int×Int×aL} (hm:qX F a0 a1 ad af=some r):
  bQ Try.prog 80 [Pt j 0,V a1,V ad,V af] h Z [.ae j (ay J U I a0), .gs I ab (aa aj)] fun v Z' A'=>∃ v10 ag ah ai, .tuple #[V r.1,V r.2.1]=v∧A'=[.ae j (ay v10 ag ah r.2.2), .gs ah ai (aa aj)]∧RS (α:=ak) Z' v10 r.2.2.L∧RS (α:=aq) Z' ag r.2.2.T.al∧RCs (α:=aj) Z' ai r.2.2.D:=vA F F hP an ao ar hm
def jP (F:Nat) (a0:aT) (a1:Int) (I:Int) (J:Bool):Nat→Int→Option Int
 | 0,_=>none
 | n+1,j=>
  ((if 0≤j∧j<(a0.Rows.length:Int) then
    (a0.Rows[j.toNat]?).bind fun U=>
    if U.To<I then
     some (.inl ())
    else
     if J=true then
      if 0≤j∧j<(a0.Rows.length:Int) then
       (a0.Rows[j.toNat]?).bind fun aa=>
       if aa.To=I then
        some (.inl ())
       else
        some (.inr j)
      else none
     else
      some (.inr j)
   else none):Option (Sum Unit Int)).bind fun o=>match o with
   | .inl ()=>jP F a0 a1 I J n (af (j+1))
   | .inr y=>some y
def lr (F:Nat) (a0:aT) (a1:Int) (U:Int) (aa:Bool):Option aT:=
 ((jP F a0 a1 U aa F 0):Option Int).bind fun o=>match o with
  | j=>if 0≤j∧j<(a0.Rows.length:Int) then
   (a0.Rows[j.toNat]?).bind fun ab=>
   (gK F a0 U ab.To).bind fun I=>
   ((if I.1<I.2 then
     (dQ F a0.R a1 I.1 I.2 8).bind fun ad=>
     some (ad.2,a0.Rows,a0.Doc,a0.aA,a0.S,a0.ax,a0.Read)
    else
     some (a0.R,a0.Rows,a0.Doc,a0.aA,a0.S,a0.ax,a0.Read)):Option (aL×(List an)×Int×Bool×(List au)×Int×Int)).bind fun o=>match o with
    | (ae,J,af,ag,ah,ai,al)=>if 0≤j∧j<(J.length:Int) then
     (J[j.toNat]?).bind fun aj=>
     some (⟨ae,J,af,ag,ah,ai,aj.To⟩:aT)
    else none
  else none
theorem vk (F:Nat) {h:AH} {Z:Zn} {a0:aT} {a1:Int} {aF:Int} {aJ:Bool} {ad j v4 v6 J av v11 ao I ar} (hP:Pre Z h [.ae ad [Pt j 0,v11,V a0.Doc, .bool a0.aA,I,V a0.ax,V a0.Read], .ae j (ay v4 v6 J a0.R), .gs J av (aa aj), .gs v11 ao (aa an), .gs I ar (aa au)]) (a6:RS (α:=ak) Z v4 a0.R.L) (a7:RS (α:=aq) Z v6 a0.R.T.al) (a8:RCs (α:=aj) Z av a0.R.D) (az:RCs (α:=an) Z ao a0.Rows) (a9:RCs (α:=au) Z ar a0.S) {r:aT} (hm:lr F a0 a1 aF aJ=some r):
  bQ Try.prog 81 [Pt ad 0,V a1,V aF, .bool aJ] h Z [.ae ad [Pt j 0,v11,V a0.Doc, .bool a0.aA,I,V a0.ax,V a0.Read], .ae j (ay v4 v6 J a0.R), .gs J av (aa aj), .gs v11 ao (aa an), .gs I ar (aa au)] fun v Z' A'=>∃ bl bm bn bo bp br, .tuple #[]=v∧A'=[.ae ad [Pt j 0,v11,V r.Doc, .bool r.aA,I,V r.ax,V r.Read], .ae j (ay bl bm bn r.R), .gs bn bo (aa aj), .gs v11 bp (aa an), .gs I br (aa au)]∧RS (α:=ak) Z' bl r.R.L∧RS (α:=aq) Z' bm r.R.T.al∧RCs (α:=aj) Z' bo r.R.D∧RCs (α:=an) Z' bp r.Rows∧RCs (α:=au) Z' br r.S:=by
 refine b5 Try.func81 hP ?_
 intro hs hS
 unfold lr at hm
 refine sp 1<|sq ?_
 obtain ⟨ba,aw,hm⟩:=ai hm
 refine aI [0,1,2,8] (fun l h=>∃ bt aO,aO=ba∧l=[(0,Pt ad 0),(1,V a1),(2,V aF),(8,V aO)]∧St hs (aR [.ae ad [Pt j 0,v11,V a0.Doc, .bool a0.aA,I,V a0.ax,V a0.Read], .ae j (ay v4 v6 J a0.R), .gs J av (aa aj), .gs v11 ao (aa an), .gs I ar (aa au)]) Z (0,0) bt h [.ae ad [Pt j 0,v11,V a0.Doc, .bool a0.aA,I,V a0.ax,V a0.Read], .ae j (ay v4 v6 J a0.R), .gs J av (aa aj), .gs v11 ao (aa an), .gs I ar (aa au)]) ?_ ?_
 rintro l bZ ⟨bt,aO,rfl,rfl,U⟩
 try dsimp only at hm
 refine s0<|aB 5 0 v11 U rfl<|eJ 1 3 hm U (az.mono U.ag) rfl ?_
 intro b0 hm
 refine fv 1 2 3 (fun bu=>V bu.To) hm U (az.mono U.ag) rfl ?_
 intro bu b1 hm
 obtain ⟨b2,bD,hm⟩:=ai hm
 refine cE 0 U (fun b3 aK bE aL=>j7 F bE (RS.mono aK (a6.mono U.ag)) (RS.mono aK (a7.mono U.ag)) (bf.row (aL _ (List.mem_of_getElem? (i:=2) rfl)) aK (a8.mono U.ag)) (aL _ (List.mem_of_getElem? (i:=1) rfl)) (bf.row (aL _ (List.mem_of_getElem? (i:=3) rfl)) aK (az.mono U.ag)) (bf.row (aL _ (List.mem_of_getElem? (i:=4) rfl)) aK (a9.mono U.ag)) (aL _ (List.mem_of_getElem? (i:=0) rfl)) bD) ?_
 rintro _ b4 bb rfl
 refine xn 5<|sq ?_
 obtain ⟨bF,aG,hm⟩:=ai hm
 refine aI [0,8] (fun l h=>∃ aC aH bc aU aV bd aW bg aX aY aZ a2 a3 a4,(aH,bc,aU,aV,bd,aW,bg)=bF∧RS (α:=ak) aC aX aH.L∧RS (α:=aq) aC aY aH.T.al∧RCs (α:=aj) aC a2 aH.D∧RCs (α:=an) aC a3 bc∧RCs (α:=au) aC a4 bd∧l=[(0,Pt ad 0),(8,V aO)]∧St hs (aR [.ae ad [Pt j 0,v11,V a0.Doc, .bool a0.aA,I,V a0.ax,V a0.Read], .ae j (ay v4 v6 J a0.R), .gs J av (aa aj), .gs v11 ao (aa an), .gs I ar (aa au)]) Z (0,0) aC h [.ae ad [Pt j 0,v11,V aU, .bool aV,I,V aW,V bg], .ae j (ay aX aY aZ aH), .gs aZ a2 (aa aj), .gs v11 a3 (aa an), .gs I a4 (aa au)]) ?_ ?_
 rintro l b6 ⟨aC,aH,bc,aU,aV,bd,aW,bg,aX,aY,aZ,a2,a3,a4,rfl,bG,bH,bI,bh,bJ,rfl,a5⟩
 try dsimp only at hm
 refine g0<|aB 4 0 v11 a5 rfl<|eJ 1 3 hm a5 bh rfl ?_
 intro b7 hm
 refine fv 1 2 3 (fun aM=>V aM.To) hm a5 bh rfl ?_
 intro aM b8 hm
 refine bA 2 0 (V aM.To) [V aM.To] [Pt j 0,v11,V aU, .bool aV,I,V aW,V aM.To] a5 rfl rfl rfl ?_
 intro b9 bK
 refine xn 0 ?_
 obtain rfl:=si hm
 refine ⟨_,_,_,ResL.nil,bK,?_⟩
 exact ⟨aX,aY,aZ,a2,a3,a4,rfl,rfl,bG,bH,bI,bh,bJ⟩
 refine s0<|aP 2 aG ?_ ?_<;>intro ca aG
 refine xn 0<|dT<|g0<|aB 3 0 (Pt j 0) bb rfl ?_
 obtain ⟨bL,bM,aG⟩:=ai aG
 have bN:St _ _ _ _ _ _ ([.ae j (ay v4 v6 J a0.R), .gs J av (aa aj)]++[.ae ad [Pt j 0,v11,V a0.Doc, .bool a0.aA,I,V a0.ax,V a0.Read], .gs v11 ao (aa an), .gs I ar (aa au)]):=((bb.front 2 rfl).front 2 rfl)
 refine cB 3 bN (fun p=>fh F p (a6.mono U.ag) (a7.mono U.ag) (a8.mono U.ag) bM) ?_
 rintro _ cb cc _ bw bO ⟨bP,bR,bS,bT,rfl,rfl,bU,bV,bW⟩
 refine xn 0 ?_
 obtain rfl:=si aG
 exact ⟨_,bL.2,a0.Rows,a0.Doc,a0.aA,a0.S,a0.ax,a0.Read,bP,bR,bS,bT,ao,ar,rfl,bU,bV,bW,(az.mono (U.ag.trans bw)),(a9.mono (U.ag.trans bw)),(by kernel_rfl),(((((bO.front 4 rfl).front 4 rfl).front 3 rfl).front 3 rfl).front 4 rfl)⟩
 refine xn 0<|dF<|sk ?_
 obtain rfl:=si aG
 exact ⟨_,a0.R,a0.Rows,a0.Doc,a0.aA,a0.S,a0.ax,a0.Read,v4,v6,J,av,ao,ar,rfl,(a6.mono U.ag),(a7.mono U.ag),(a8.mono U.ag),(az.mono U.ag),(a9.mono U.ag),(by kernel_rfl),bb⟩
 refine bk 0<|lp [0,1,2,3,8] (fun n l h=>∃ bx aD,jP F a0 a1 aF aJ n aD=some ba∧l=[(0,Pt ad 0),(1,V a1),(2,V aF),(3, .bool aJ),(8,V aD)]∧St hs (aR [.ae ad [Pt j 0,v11,V a0.Doc, .bool a0.aA,I,V a0.ax,V a0.Read], .ae j (ay v4 v6 J a0.R), .gs J av (aa aj), .gs v11 ao (aa an), .gs I ar (aa au)]) Z (0,0) bx h [.ae ad [Pt j 0,v11,V a0.Doc, .bool a0.aA,I,V a0.ax,V a0.Read], .ae j (ay v4 v6 J a0.R), .gs J av (aa aj), .gs v11 ao (aa an), .gs I ar (aa au)]) F ⟨_,0,aw,(by kernel_rfl),hS⟩ ?_
 rintro bj l cd ⟨bx,aD,aw,rfl,ah⟩
 rcases bj with _ | bj
 cases (show none=some ba from aw)
 rw [jP] at aw
 refine sq ?_
 obtain ⟨bX,ab,aw⟩:=ai aw
 refine aI [0,1,2,3,8] (fun l h=>∃ bz, .inl ()=bX∧l=[(0,Pt ad 0),(1,V a1),(2,V aF),(3, .bool aJ),(8,V aD)]∧St hs (aR [.ae ad [Pt j 0,v11,V a0.Doc, .bool a0.aA,I,V a0.ax,V a0.Read], .ae j (ay v4 v6 J a0.R), .gs J av (aa aj), .gs v11 ao (aa an), .gs I ar (aa au)]) Z (0,0) bz h [.ae ad [Pt j 0,v11,V a0.Doc, .bool a0.aA,I,V a0.ax,V a0.Read], .ae j (ay v4 v6 J a0.R), .gs J av (aa aj), .gs v11 ao (aa an), .gs I ar (aa au)]) ?_ ?_
 rintro l cf ⟨bz,rfl,rfl,bY⟩
 try dsimp only at aw
 refine bk 1<|gp 3 ?_
 exact ⟨bj,Nat.lt_succ_self _,⟨_,af (aD+1),aw,(by kernel_rfl),bY⟩⟩
 refine s0<|aB 3 0 v11 ah rfl<|eJ 1 3 ab ah (az.mono ah.ag) rfl ?_
 intro cg ab
 refine fv 1 2 3 (fun bB=>V bB.To) ab ah (az.mono ah.ag) rfl ?_
 intro bB ch ab
 refine aP 1 ab ?_ ?_<;>intro cj ab
 refine xn 15<|dT<|sk ?_
 obtain rfl:=si ab
 exact ⟨_,rfl,(by kernel_rfl),ah⟩
 refine kb 3 23 ab ?_ ?_<;>intro ck ab
 refine aB 3 0 v11 ah rfl<|eJ 1 3 ab ah (az.mono ah.ag) rfl ?_
 intro cl ab
 refine fv 1 2 3 (fun bC=>V bC.To) ab ah (az.mono ah.ag) rfl ?_
 intro bC cm ab
 refine aE 1 ab ?_ ?_<;>intro cn ab
 refine xn 2<|dT<|sk ?_
 obtain rfl:=si ab
 exact ⟨_,rfl,(by kernel_rfl),ah⟩
 refine xn 2<|dF<|xt 0<|aN ?_
 obtain rfl:=si ab
 obtain rfl:=si aw
 exact ⟨_,aD,rfl,(by kernel_rfl),ah⟩
 refine xn 12<|dF<|xt 0<|aN ?_
 obtain rfl:=si ab
 obtain rfl:=si aw
 exact ⟨_,aD,rfl,(by kernel_rfl),ah⟩
def EM:List bq:=[uP 9 (mv 0),uP 10 (nk 9),uP 11 (fa 61 10 0),uL 12 (ld 55 11),uP 13 (mv 0),uP 14 (mv 2),uF 15 (cf 79 #[(t 13),(t 14)] #[54,3]) .make [],uP 16 (nk 12),uP 17 (fa 58 16 3),oF (.store 3 (t 17) (t 15)) .make [3]]
def Db:List bq:=[uP 19 (mv 0),uP 20 (nk 19),uP 21 (fa 61 20 0),uL 22 (ld 55 21),uP 23 (mv 1),uP 24 (mv 2),uP 25 (mv 0),uP 26 (nk 25),uP 27 (fa 61 26 5),uL 28 (ld 3 27),uP 29 (mv 0),uP 30 (nk 29),uP 31 (fa 61 30 4),uL 32 (ld 59 31),uP 33 (cb .len #[(t 32)] #[59]),uP 34 (bo .sub 3 28 33 3),uF 35 (cf 80 #[(t 22),(t 23),(t 24),(t 34)] #[55,3,3,3]) .make [3,9,13],uP 18 (mv 35),uP 36 (.extract (t 18) 0),uP 37 (.extract (t 18) 1),uP 7 (sg 36),uP 8 (sg 37)]
def iC (F:Nat) (a0:aT) (a1:Int) (U:Int):Option (Bool×aT):=
 (mh F a0 U).bind fun az=>
 (qX F (⟨a0.R.L,a0.R.T,a0.R.D,az⟩:aL) a1 U (af (a0.ax - (a0.S.length:Int)))).bind fun J=>
 ((if J.1<(0:Int) then
   some (J.2.2,a0.Rows,a0.Doc,a0.aA,a0.S,a0.ax,a0.Read,U)
  else
   some (J.2.2,a0.Rows,a0.Doc,a0.aA,a0.S,a0.ax,a0.Read,J.2.1)):Option (aL×(List an)×Int×Bool×(List au)×Int×Int×Int)).bind fun o=>match o with
  | (aa,ab,ad,ae,ag,ah,ai,aj)=>((if J.1<(0:Int) then
    (lr F (⟨aa,ab,ad,ae,ag,ah,ai⟩:aT) a1 (imax aj U) true).bind fun j=>
    some (j.R,j.Rows,j.Doc,j.aA,j.S,j.ax,j.Read)
   else
    (lr F (⟨aa,ab,ad,ae,ag,ah,ai⟩:aT) a1 (imax aj U) false).bind fun I=>
    some (I.R,I.Rows,I.Doc,I.aA,I.S,I.ax,I.Read)):Option (aL×(List an)×Int×Bool×(List au)×Int×Int)).bind fun o=>match o with
   | (al,ao,aq,ar,av,aw,ay)=>if (0:Int)≤J.1 then
    some (true,(⟨al,ao,aq,ar,av,aw,ay⟩:aT))
   else
    some (false,(⟨al,ao,aq,ar,av,aw,ay⟩:aT))
theorem pn (F:Nat) {h:AH} {Z:Zn} {a0:aT} {a1:Int} {ab:Int} {j I v4 v6 U ao v11 ad J ah} (hP:Pre Z h [.ae j [Pt I 0,v11,V a0.Doc, .bool a0.aA,J,V a0.ax,V a0.Read], .ae I (ay v4 v6 U a0.R), .gs U ao (aa aj), .gs v11 ad (aa an), .gs J ah (aa au)]) (bF:RS (α:=ak) Z v4 a0.R.L) (bG:RS (α:=aq) Z v6 a0.R.T.al) (bI:RCs (α:=aj) Z ao a0.R.D) (bj:RCs (α:=an) Z ad a0.Rows) (bd:RCs (α:=au) Z ah a0.S) {r:Bool×aT} (hm:iC F a0 a1 ab=some r):
  bQ Try.prog 68 [Pt j 0,V a1,V ab] h Z [.ae j [Pt I 0,v11,V a0.Doc, .bool a0.aA,J,V a0.ax,V a0.Read], .ae I (ay v4 v6 U a0.R), .gs U ao (aa aj), .gs v11 ad (aa an), .gs J ah (aa au)] fun v Z' A'=>∃ bJ bK bL bN bO bP, .bool r.1=v∧A'=[.ae j [Pt I 0,v11,V r.2.Doc, .bool r.2.aA,J,V r.2.ax,V r.2.Read], .ae I (ay bJ bK bL r.2.R), .gs bL bN (aa aj), .gs v11 bO (aa an), .gs J bP (aa au)]∧RS (α:=ak) Z' bJ r.2.R.L∧RS (α:=aq) Z' bK r.2.R.T.al∧RCs (α:=aj) Z' bN r.2.R.D∧RCs (α:=an) Z' bO r.2.Rows∧RCs (α:=au) Z' bP r.2.S:=by
 refine b5 Try.func68 hP ?_
 intro hs hS
 unfold iC at hm
 refine sp 1<|cU EM hS ?_
 intro cf c9 cg bk
 refine yq 3 [(11,Pt j 0),(0,Pt j 0),(1,V a1),(2,V ab)] ?_
 have db:j<cf:=cg.1 _ (List.mem_of_getElem? (i:=0) rfl) _ (by simp [Itm.ids])
 refine aW (v:=Pt I 0) rfl trivial rfl (by show j<_;omega) (aC (v:=Pt I 0) trivial) (bk.aU (i:=0) rfl (by kernel_rfl)) trivial<|yq 2 [(14,V ab),(13,Pt j 0),(12,Pt I 0),(0,Pt j 0),(1,V a1),(2,V ab)] ?_
 obtain ⟨aF,ch,hm⟩:=ai hm
 have bR:=bk.cJ
 obtain ⟨dc,aH,cj,aM⟩:=St.ke (L:=[.ae j [Pt I 0,v11,V a0.Doc, .bool a0.aA,J,V a0.ax,V a0.Read], .ae I (ay v4 v6 U a0.R), .gs U ao (aa aj), .gs v11 ad (aa an), .gs J ah (aa au)]) bR
 obtain ⟨dd,de,ck,bg,rfl⟩:=yR F cj (RS.mono aH bF) (RS.mono aH bG) (bf.row (aM _ (List.mem_of_getElem? (i:=2) rfl)) aH bI) (aM _ (List.mem_of_getElem? (i:=1) rfl)) (bf.row (aM _ (List.mem_of_getElem? (i:=3) rfl)) aH bj) (bf.row (aM _ (List.mem_of_getElem? (i:=4) rfl)) aH bd) (aM _ (List.mem_of_getElem? (i:=0) rfl)) ch
 replace bg:=St.kH aH bg
 have cl:=St.call (A:=[]) (B:=[.ae j [Pt I 0,v11,V a0.Doc, .bool a0.aA,J,V a0.ax,V a0.Read], .ae I (ay v4 v6 U a0.R), .gs U ao (aa aj), .gs v11 ad (aa an), .gs J ah (aa au)]) bR bg
 refine fD rfl trivial bk (dg ck rfl rfl rfl) cl (St.fJ bg) ?_
 intro df cm
 refine yq 2 [(17,Pt I 3),(15,V aF),(0,Pt j 0),(1,V a1),(2,V ab)] ?_
 have bl:St _ _ _ _ _ _ ([.ae I (ay v4 v6 U a0.R)]++[.ae j [Pt I 0,v11,V a0.Doc, .bool a0.aA,J,V a0.ax,V a0.Read], .gs U ao (aa aj), .gs v11 ad (aa an), .gs J ah (aa au)]):=(cm.front 1 rfl)
 refine g5 rfl trivial bl (gv (vs:=[V aF]) (cD:=[v4,v6,U,V aF]) (L':=[.ae I [v4,v6,U,V aF]]) bl.sub (i:=0) rfl rfl rfl rfl (by kernel_rfl) rfl rfl rfl rfl) (aO.refl _) (.a3 (bl.bH 0 rfl bM) .nil) ?_
 intro dh cn
 refine yf [(0,Pt j 0),(1,V a1),(2,V ab)] ?_
 have cp:=cn.a5
 refine cU Db cp ?_
 intro bm di bn aJ
 refine yq 3 [(21,Pt j 0),(0,Pt j 0),(1,V a1),(2,V ab)] ?_
 have dj:j<bm:=bn.1 _ (List.mem_of_getElem? (i:=1) rfl) _ (by simp [Itm.ids])
 refine aW (v:=Pt I 0) rfl trivial rfl (by show j<_;omega) (aC (v:=Pt I 0) trivial) (aJ.aU (i:=1) rfl (by kernel_rfl)) trivial<|yq 5 [(27,Pt j 5),(24,V ab),(23,V a1),(22,Pt I 0),(0,Pt j 0),(1,V a1),(2,V ab)] ?_
 have dk:j<bm:=bn.1 _ (List.mem_of_getElem? (i:=1) rfl) _ (by simp [Itm.ids])
 refine aW (v:=V a0.ax) rfl trivial rfl (by show j<_;omega) (aC (v:=V a0.ax) trivial) (aJ.aU (i:=1) rfl (by kernel_rfl)) trivial<|yq 3 [(31,Pt j 4),(28,V a0.ax),(24,V ab),(23,V a1),(22,Pt I 0),(0,Pt j 0),(1,V a1),(2,V ab)] ?_
 have dm:j<bm:=bn.1 _ (List.mem_of_getElem? (i:=1) rfl) _ (by simp [Itm.ids])
 refine aW (v:=J) rfl trivial rfl (by show j<_;omega) (aC (v:=J) (aJ.dv (i:=4) rfl)) (aJ.aU (i:=1) rfl (by kernel_rfl)) trivial<|aG rfl trivial (gO rfl (aJ.da (i:=4) rfl bd) ⟨_,Try.underlying59⟩)<|yq 1 [(34,V (af (a0.ax - (a0.S.length:Int)))),(24,V ab),(23,V a1),(22,Pt I 0),(0,Pt j 0),(1,V a1),(2,V ab)] ?_
 obtain ⟨aw,cq,hm⟩:=ai hm
 have aN:St _ _ _ _ _ _ ([.ae I [v4,v6,U,V aF], .gs U ao (aa aj)]++[.ae j [Pt I 0,v11,V a0.Doc, .bool a0.aA,J,V a0.ax,V a0.Read], .gs v11 ad (aa an), .gs J ah (aa au)]):=((aJ.front 2 rfl).front 1 rfl)
 obtain ⟨dn,dp,dq,dr,cr,bS,bT,bU,bV,bW,rfl,rfl,bX,bY,bZ⟩:=AL F (a0:=(⟨a0.R.L,a0.R.T,a0.R.D,aF⟩:aL)) aN.cJ.eE bF bG bI cq
 have aV:=bS.ag
 refine fG rfl trivial aN (dg cr rfl rfl rfl) bS aV (.a3 (aN.bH 0 rfl bM) (.a3 (aN.bH 0 rfl bM) (.a3 (aN.bH 0 rfl bM) .nil))) ?_
 intro ds cu
 refine ye 5 [(8,V aw.2.1),(7,V aw.1),(0,Pt j 0),(1,V a1),(2,V ab)] ?_
 have b0:=cu.a5
 refine sq ?_
 obtain ⟨cw,bh,hm⟩:=ai hm
 refine aI [0,1,2,7,8] (fun l h=>∃ az ar aX aY aZ a2 a4 a6 bo bp br bt bu bw bx,(ar,aX,aY,aZ,a2,a4,a6,bo)=cw∧RS (α:=ak) az bp ar.L∧RS (α:=aq) az br ar.T.al∧RCs (α:=aj) az bu ar.D∧RCs (α:=an) az bw aX∧RCs (α:=au) az bx a2∧l=[(0,Pt j 0),(1,V a1),(2,V ab),(7,V aw.1),(8,V bo)]∧St hs (aR [.ae j [Pt I 0,v11,V a0.Doc, .bool a0.aA,J,V a0.ax,V a0.Read], .ae I (ay v4 v6 U a0.R), .gs U ao (aa aj), .gs v11 ad (aa an), .gs J ah (aa au)]) Z (0,0) az h [.ae j [Pt I 0,v11,V aY, .bool aZ,J,V a4,V a6], .ae I (ay bp br bt ar), .gs bt bu (aa aj), .gs v11 bw (aa an), .gs J bx (aa au)]) ?_ ?_
 rintro l du ⟨az,ar,aX,aY,aZ,a2,a4,a6,bo,bp,br,bt,bu,bw,bx,rfl,b1,b2,b3,b4,b6,rfl,b7⟩
 try dsimp only at hm
 refine sq ?_
 obtain ⟨cx,av,hm⟩:=ai hm
 refine aI [7] (fun l h=>∃ aB aK bz bA bB bC bD bE a7 a8 a9 ba bb bc,(aK,bz,bA,bB,bC,bD,bE)=cx∧RS (α:=ak) aB a7 aK.L∧RS (α:=aq) aB a8 aK.T.al∧RCs (α:=aj) aB ba aK.D∧RCs (α:=an) aB bb bz∧RCs (α:=au) aB bc bC∧l=[(7,V aw.1)]∧St hs (aR [.ae j [Pt I 0,v11,V a0.Doc, .bool a0.aA,J,V a0.ax,V a0.Read], .ae I (ay v4 v6 U a0.R), .gs U ao (aa aj), .gs v11 ad (aa an), .gs J ah (aa au)]) Z (0,0) aB h [.ae j [Pt I 0,v11,V bA, .bool bB,J,V bD,V bE], .ae I (ay a7 a8 a9 aK), .gs a9 ba (aa aj), .gs v11 bb (aa an), .gs J bc (aa au)]) ?_ ?_
 rintro l dw ⟨aB,aK,bz,bA,bB,bC,bD,bE,a7,a8,a9,ba,bb,bc,rfl,b8,b9,ca,cb,cc,rfl,cd⟩
 try dsimp only at hm
 refine s0<|ct 1 hm ?_ ?_<;>intro dx hm
 refine xn 1<|rt<|⟨rfl,?_⟩
 obtain rfl:=si hm
 refine ⟨_,_,_,tk (.bool true) (ResL.nil),cd,?_⟩
 exact ⟨a7,a8,a9,ba,bb,bc,rfl,rfl,b8,b9,ca,cb,cc⟩
 refine xn 1<|rt<|⟨rfl,?_⟩
 obtain rfl:=si hm
 refine ⟨_,_,_,tk (.bool false) (ResL.nil),cd,?_⟩
 exact ⟨a7,a8,a9,ba,bb,bc,rfl,rfl,b8,b9,ca,cb,cc⟩
 refine g0<|aP 6 av ?_ ?_<;>intro dy av
 obtain ⟨aD,cy,av⟩:=ai av
 refine cA 0 b7 (fun p=>vk F (a0:=(⟨ar,aX,aY,aZ,a2,a4,a6⟩:aT)) p b1 b2 b3 b4 b6 cy) ?_
 rintro _ dz dA _ dB cz ⟨cB,cC,cE,cF,cG,cH,rfl,rfl,cI,cK,cL,cM,cP⟩
 refine xn 0 ?_
 obtain rfl:=si av
 exact ⟨_,aD.R,aD.Rows,aD.Doc,aD.aA,aD.S,aD.ax,aD.Read,cB,cC,cE,cF,cG,cH,rfl,cI,cK,cL,cM,cP,(by kernel_rfl),cz⟩
 obtain ⟨aE,cQ,av⟩:=ai av
 refine cA 0 b7 (fun p=>vk F (a0:=(⟨ar,aX,aY,aZ,a2,a4,a6⟩:aT)) p b1 b2 b3 b4 b6 cQ) ?_
 rintro _ dD dE _ dG cR ⟨cS,cT,cX,cY,c0,c3,rfl,rfl,c4,c5,c6,c7,c8⟩
 refine xn 0 ?_
 obtain rfl:=si av
 exact ⟨_,aE.R,aE.Rows,aE.Doc,aE.aA,aE.S,aE.ax,aE.Read,cS,cT,cX,cY,c0,c3,rfl,c4,c5,c6,c7,c8,(by kernel_rfl),cR⟩
 refine s0<|aP 1 bh ?_ ?_<;>intro dH bh
 refine xn 0<|dT<|gp 2 ?_
 obtain rfl:=si bh
 exact ⟨_,aw.2.2,a0.Rows,a0.Doc,a0.aA,a0.S,a0.ax,a0.Read,ab,bT,bU,bV,bW,ad,ah,rfl,bX,bY,bZ,(bj.mono aV),(bd.mono aV),(by kernel_rfl),(((((b0.front 4 rfl).front 4 rfl).front 3 rfl).front 3 rfl).front 4 rfl)⟩
 refine xn 0<|dF<|sk ?_
 obtain rfl:=si bh
 exact ⟨_,aw.2.2,a0.Rows,a0.Doc,a0.aA,a0.S,a0.ax,a0.Read,aw.2.1,bT,bU,bV,bW,ad,ah,rfl,bX,bY,bZ,(bj.mono aV),(bd.mono aV),(by kernel_rfl),(((((b0.front 4 rfl).front 4 rfl).front 3 rfl).front 3 rfl).front 4 rfl)⟩
def Aj:List bq:=[uP 75 (mv 0),uP 76 (nk 75),uP 77 (fa 61 76 0),uL 78 (ld 55 77),uP 79 (mv 0),uP 80 (nk 79),uP 81 (fa 61 80 0),uL 82 (ld 55 81),uP 83 (nk 82),uP 84 (fa 58 83 1),uL 85 (ld 27 84),uP 86 (mv 0),uP 87 (nk 86),uP 88 (fa 61 87 2),uL 89 (ld 3 88),uP 90 (mv 4),uP 91 (bc .add 3 90 1 3),uF 92 (cf 69 #[(t 85),(t 89),(t 91)] #[27,3,3]) .make [7,10,14],uP 93 (nk 78),uP 94 (fa 58 93 1),oF (.store 27 (t 94) (t 92)) .make [3,7,10,14]]
def AU:List bq:=[uP 14 (mv 0),uP 15 (nk 14),uP 16 (fa 61 15 4),uL 17 (ld 59 16),uP 18 (mv 0),uP 19 (nk 18),uP 20 (fa 61 19 4),uL 21 (ld 59 20),uP 22 (cb .len #[(t 21)] #[59]),uP 23 (bc .sub 3 22 1 3),uP 24 (ia 59 17 23),uL 25 (ld 114 24),uF 3 (.alloc 114) .fresh [],oF (.store 114 (t 3) (t 25)) .make [3,7,11]]
def iM (F:Nat) (a0:aT):Option Int:=
 if (a0.S.length:Int)=(0:Int) then
  some a0.Doc
 else
  if 0≤(af ((a0.S.length:Int) - 1))∧(af ((a0.S.length:Int) - 1))<(a0.S.length:Int) then
   (a0.S[(af ((a0.S.length:Int) - 1)).toNat]?).bind fun j=>
   if j.Has=true then
    some j.Node
   else
    some j.bP
  else none
theorem mP (F:Nat) {h:AH} {Z:Zn} {a0:aT} {U ao v4 v6 ar v11 I} (hI:Inv Z h) (aL:RS (α:=ak) Z v4 a0.R.L) (aM:RS (α:=aq) Z v6 a0.R.T.al) (aN:RS (α:=aj) Z ar a0.R.D) (aP:Z ao=some (ay v4 v6 ar a0.R)) (aR:RS (α:=an) Z v11 a0.Rows) (J:RS (α:=au) Z I a0.S) (ad:Z U=some [Pt ao 0,v11,V a0.Doc, .bool a0.aA,I,V a0.ax,V a0.Read]) {r:Int} (hm:iM F a0=some r):
  bV Try.prog 47 [Pt U 0] h Z (V r):=by
 refine bW Try.func47 hI ?_
 intro hs hS
 unfold iM at hm
 refine sp 1<|sq<|s0<|bu 3 I hS ad<|bG 0 I (RS.len J)<|aE 0 hm ?_ ?_<;>intro aU hm
 refine xn 0<|dT<|s0<|bu 3 (V a0.Doc) hS ad<|xn 1<|rt<|⟨rfl,?_⟩
 obtain rfl:=si hm
 refine ⟨_,_,_,tk (V a0.Doc) (ResL.nil),hS,?_⟩
 exact rfl
 refine xn 0<|dF<|sk<|cU AU hS ?_
 intro aV aW aX ag
 refine yq 3 [(16,Pt U 4),(0,Pt U 0)]<|cM rfl rfl trivial (fun h2 hz=>lU (v:=I) h2 hz ad rfl (by kernel_rfl)) (ag.b1 (aO.refl _)) (aC (v:=I) (RS.dZ J)) trivial<|yq 3 [(20,Pt U 4),(17,I)]<|cM rfl rfl trivial (fun h2 hz=>lU (v:=I) h2 hz ad rfl (by kernel_rfl)) (ag.b1 (aO.refl _)) (aC (v:=I) (RS.dZ J)) trivial ?_
 refine aG rfl trivial (gO rfl (RS.len J) ⟨_,Try.underlying59⟩)<|yq 1 [(23,V (af ((a0.S.length:Int) - 1))),(17,I)] ?_
 obtain ⟨av,hm⟩:=aK hm
 refine aG rfl trivial (bF rfl rfl (by kernel_rfl:slTy _ _=some (aa au)) (RS.c8 J (by omega)) av.1 av.2) ?_
 obtain ⟨j,az,hm⟩:=ai hm
 obtain ⟨aY,aF,aH⟩:=RS.cy J (i:=af ((a0.S.length:Int) - 1)) az
 obtain rfl:=ec aF
 refine cM rfl rfl trivial (fun h2 hz=>bL (w:= .agg #[V j.Node,V j.Kind,V j.aD,V j.bP, .bool j.Has]) (aH h2 hz) rfl (by kernel_rfl)) (ag.b1 (aO.refl _)) (iG (cs:=[V j.Node,V j.Kind,V j.aD,V j.bP, .bool j.Has]) (.cons trivial (.cons trivial (.cons trivial (.cons trivial (.cons trivial .nil)))))) trivial ?_
 refine wy rfl trivial (tT (cs:=[V 0,V 0,V 0,V 0, .bool false]) (by kernel_rfl)) ag (by omega) (Nat.add_lt_add_left (by decide) _) ?_
 intro ah aZ a1 aI
 have aw:St _ _ _ _ _ _ ([.ae ah [V 0,V 0,V 0,V 0, .bool false]]++[]):=(aI.front 0 rfl)
 refine g5 rfl trivial aw (gv (vs:=[V j.Node,V j.Kind,V j.aD,V j.bP, .bool j.Has]) (cD:=(p2 j)) (L':=[.ae ah (p2 j)]) aw.sub (i:=0) rfl rfl rfl rfl (by kernel_rfl) rfl rfl rfl rfl) (aO.refl _) (.a3 trivial (.a3 trivial (.a3 trivial .nil))) ?_
 intro a2 aJ
 refine yf [(3,Pt ah 0)] ?_
 have ab:=aJ.a5
 refine sq<|s0<|aB 1 0 (.bool j.Has) ab rfl<|kb 0 27 hm ?_ ?_<;>intro a4 hm
 refine xn 1<|dF<|sk<|s0<|aB 1 0 (V j.Node) ab rfl<|xn 1<|rt<|⟨rfl,?_⟩
 obtain rfl:=si hm
 refine ⟨_,_,_,tk (V j.Node) (ResL.nil),ab,?_⟩
 exact rfl
 refine xn 1<|dT<|s0<|aB 1 0 (V j.bP) ab rfl<|xn 1<|rt<|⟨rfl,?_⟩
 obtain rfl:=si hm
 refine ⟨_,_,_,tk (V j.bP) (ResL.nil),ab,?_⟩
 exact rfl
end Go.Proofs.Ytcilejikekccmaa.M
namespace Go.Proofs.Ytcilejikekccmaa.M
open Go Am Sy
open Sy.Cell (rc)
def wI:List bq:=[uP 15 (mv 8),uP 16 (bc .geq 3 15 0 3),uP 17 (mv 16),aJ 17 18 (mv 0),aJ 17 19 (nk 18),aJ 17 20 (fa 61 19 4),cG 17 21 (ld 59 20),aJ 17 22 (mv 8),aJ 17 23 (ia 59 21 22),aJ 17 24 (fa 114 23 2),cG 17 25 (ld 3 24),aJ 17 26 (fa 63 5 3),cG 17 27 (ld 3 26),aJ 17 28 (bo .geq 3 25 27 3),uP 29 (pf 17 28)]
def pN:List bq:=[uP 54 (mv 0),uP 55 (nk 54),uP 56 (fa 61 55 0),uL 57 (ld 55 56),uP 58 (mv 0),uF 59 (cf 47 #[(t 58)] #[54]) .make [],uP 60 (mv 2),uP 61 (mv 3),uF 62 (cf 46 #[(t 57),(t 59),(t 60),(t 61),(ci 7)] #[55,3,3,3,3]) .make [3]]
def vP:List aQ:=[u 63 (mv 0),u 64 (.buildSlice 59 0 #[]),u 65 (mv 0),u 66 (nk 65),u 67 (fa 61 66 4),u 68 (ld 59 67),u 69 (mv 8),u 70 (bc .add 3 69 1 3),u 71 (.slice 59 (t 68) none (some (t 70)) none),u 72 (cb .append #[(t 64),(t 71)] #[59,59]),u 73 (nk 63),u 74 (fa 61 73 4),o (.store 59 (t 74) (t 72))]
def B7:List bq:=[uP 87 (mv 0),uP 88 (nk 87),uP 89 (fa 61 88 4),uL 90 (ld 59 89),uP 91 (mv 8),uP 92 (mv 0),uP 93 (mv 0),uP 94 (nk 93),uP 95 (fa 61 94 4),uL 96 (ld 59 95),uP 97 (mv 8),uP 98 (ia 59 96 97),uP 99 (fa 114 98 3),uL 100 (ld 3 99),uP 101 (mv 2),uF 102 (cf 68 #[(t 92),(t 100),(t 101)] #[54,3,3]) .make [9,13],uP 103 (ia 59 90 91),uP 104 (fa 114 103 4),oF (.store 4 (t 104) (t 102)) .make [3,9,13]]
def correctorref12_parser_bare_l0 (F:Nat) (a0:aT) (a1:an) (J:Int) (U:Int):Nat→an→Int→Option Int
 | 0,_,_=>none
 | n+1,I,j=>
  if (0:Int)≤j then
   if 0≤j∧j<(a0.S.length:Int) then
    (a0.S[j.toNat]?).bind fun aa=>
    if I.aD≤aa.aD then
     correctorref12_parser_bare_l0 F a0 a1 J U n I (af (j - 1))
    else
     some j
   else none
  else
   some j
def n0 (F:Nat) (a0:aT) (a1:an) (U:Int) (aa:Int):Option aT:=
 ((correctorref12_parser_bare_l0 F a0 a1 U aa F a1 (af ((a0.S.length:Int) - 1))):Option Int).bind fun o=>match o with
  | j=>((if j<(0:Int) then
    if a0.aA=true then
     (iM F a0).bind fun ad=>
     (dQ F a0.R ad U aa 7).bind fun ae=>
     some (.inr (⟨ae.2,a0.Rows,a0.Doc,a0.aA,a0.S,a0.ax,a0.Read⟩:aT))
    else
     if (0:Int)≤j then
      if 0≤j∧j<(a0.S.length:Int) then
       (a0.S[j.toNat]?).bind fun ag=>
       if ag.Has=true then
        (iM F a0).bind fun ah=>
        (dQ F a0.R ah U aa 7).bind fun ai=>
        some (.inr (⟨ai.2,a0.Rows,a0.Doc,a0.aA,a0.S,a0.ax,a0.Read⟩:aT))
       else
        some (.inl ())
      else none
     else
      some (.inl ())
   else
    if (0:Int)≤j then
     if 0≤j∧j<(a0.S.length:Int) then
      (a0.S[j.toNat]?).bind fun aj=>
      if aj.Has=true then
       (iM F a0).bind fun al=>
       (dQ F a0.R al U aa 7).bind fun ao=>
       some (.inr (⟨ao.2,a0.Rows,a0.Doc,a0.aA,a0.S,a0.ax,a0.Read⟩:aT))
      else
       some (.inl ())
     else none
    else
     some (.inl ())):Option (Sum Unit aT)).bind fun o=>match o with
   | .inl ()=>if 0≤(0:Int)∧(0:Int)≤(af (j+1))∧(af (j+1))≤(a0.S.length:Int) then
    if ([]:List au).length+((a0.S.take (af (j+1)).toNat).drop (0:Int).toNat).length≤3518437208883 then
     if j<(0:Int) then
      (iC F (⟨a0.R,a0.Rows,a0.Doc,a0.aA,([]:List au)++((a0.S.take (af (j+1)).toNat).drop (0:Int).toNat),a0.ax,a0.Read⟩:aT) a0.Doc U).bind fun J=>
      some (⟨J.2.R,J.2.Rows,J.2.Doc,J.1,J.2.S,J.2.ax,J.2.Read⟩:aT)
     else
      if 0≤j∧j<((([]:List au)++((a0.S.take (af (j+1)).toNat).drop (0:Int).toNat)).length:Int) then
       ((([]:List au)++((a0.S.take (af (j+1)).toNat).drop (0:Int).toNat))[j.toNat]?).bind fun aq=>
       (iC F (⟨a0.R,a0.Rows,a0.Doc,a0.aA,([]:List au)++((a0.S.take (af (j+1)).toNat).drop (0:Int).toNat),a0.ax,a0.Read⟩:aT) aq.bP U).bind fun I=>
       if 0≤j∧j<(I.2.S.length:Int) then
        (I.2.S[j.toNat]?).bind fun ab=>
        some (⟨I.2.R,I.2.Rows,I.2.Doc,I.2.aA,I.2.S.set j.toNat (⟨ab.Node,ab.Kind,ab.aD,ab.bP,I.1⟩:au),I.2.ax,I.2.Read⟩:aT)
       else none
      else none
    else none
   else none
   | .inr y=>some y
theorem Ca (F:Nat) {h:AH} {Z:Zn} {a0:aT} {a1:an} {ar:Int} {aw:Int} {I J v4 v6 ao aH v11 az U aF} (hP:Pre Z h [.ae I [Pt J 0,v11,V a0.Doc, .bool a0.aA,U,V a0.ax,V a0.Read], .ae J (ay v4 v6 ao a0.R), .gs ao aH (aa aj), .gs v11 az (aa an), .gs U aF (aa au)]) (a4:RS (α:=ak) Z v4 a0.R.L) (a6:RS (α:=aq) Z v6 a0.R.T.al) (a7:RCs (α:=aj) Z aH a0.R.D) (a8:RCs (α:=an) Z az a0.Rows) (aM:RCs (α:=au) Z aF a0.S) {r:aT} (hm:n0 F a0 a1 ar aw=some r):
  bQ Try.prog 71 [Pt I 0, .agg #[V a1.Kind,V a1.ah,V a1.To,V a1.aD],V ar,V aw] h Z [.ae I [Pt J 0,v11,V a0.Doc, .bool a0.aA,U,V a0.ax,V a0.Read], .ae J (ay v4 v6 ao a0.R), .gs ao aH (aa aj), .gs v11 az (aa an), .gs U aF (aa au)] fun v Z' A'=>∃ cf cg ch cj ck cl cn, .tuple #[]=v∧A'=[.ae I [Pt J 0,v11,V r.Doc, .bool r.aA,cl,V r.ax,V r.Read], .ae J (ay cf cg ch r.R), .gs ch cj (aa aj), .gs v11 ck (aa an), .gs cl cn (aa au)]∧RS (α:=ak) Z' cf r.R.L∧RS (α:=aq) Z' cg r.R.T.al∧RCs (α:=aj) Z' cj r.R.D∧RCs (α:=an) Z' ck r.Rows∧RCs (α:=au) Z' cn r.S:=by
 refine b5 Try.func71 hP ?_
 intro hs hS
 unfold n0 at hm
 refine s0<|df 0 [V a1.Kind,V a1.ah,V a1.To,V a1.aD] hS ?_
 intro c3 fo bB
 refine xn 0<|s0<|aB 3 1 U bB rfl<|bG 0 U (bB.da (i:=5) rfl aM)<|xn 2<|sq ?_
 obtain ⟨bC,aL,hm⟩:=ai hm
 refine aI [0,2,3,8] (fun l h=>∃ cq aE,aE=bC∧l=[(0,Pt I 0),(2,V ar),(3,V aw),(8,V aE)]∧St hs (aR [.ae I [Pt J 0,v11,V a0.Doc, .bool a0.aA,U,V a0.ax,V a0.Read], .ae J (ay v4 v6 ao a0.R), .gs ao aH (aa aj), .gs v11 az (aa an), .gs U aF (aa au)]) Z (0,0) cq h [.ae I [Pt J 0,v11,V a0.Doc, .bool a0.aA,U,V a0.ax,V a0.Read], .ae J (ay v4 v6 ao a0.R), .gs ao aH (aa aj), .gs v11 az (aa an), .gs U aF (aa au)]) ?_ ?_
 rintro l fp ⟨cq,aE,rfl,rfl,ab⟩
 try dsimp only at hm
 refine sq ?_
 obtain ⟨c4,ad,hm⟩:=ai hm
 refine aI [0,2,8] (fun l h=>∃ bD, .inl ()=c4∧l=[(0,Pt I 0),(2,V ar),(8,V aE)]∧St hs (aR [.ae I [Pt J 0,v11,V a0.Doc, .bool a0.aA,U,V a0.ax,V a0.Read], .ae J (ay v4 v6 ao a0.R), .gs ao aH (aa aj), .gs v11 az (aa an), .gs U aF (aa au)]) Z (0,0) bD h [.ae I [Pt J 0,v11,V a0.Doc, .bool a0.aA,U,V a0.ax,V a0.Read], .ae J (ay v4 v6 ao a0.R), .gs ao aH (aa aj), .gs v11 az (aa an), .gs U aF (aa au)]) ?_ ?_
 rintro l fq ⟨bD,rfl,rfl,aV⟩
 try dsimp only at hm
 refine sr vP<|xq 1 [(63,Pt I 0),(0,Pt I 0),(2,V ar),(8,V aE)] ?_
 have c5:RCs (α:=au) bD [] []:=RCs.br _
 refine dP rfl trivial (cX (cells:=[]) (s:=5) (by kernel_rfl)) (by kernel_rfl) aV ?_
 intro c6 fr cr
 refine aB 3 1 U cr rfl<|xq 2 [(70,V (af (aE+1))),(68,U),(64,c6),(63,Pt I 0),(0,Pt I 0),(2,V ar),(8,V aE)] ?_
 obtain ⟨fs,aX,c7,cu⟩:=(cr.front 5 rfl).freeze (aM.mono aV.ag)
 obtain ⟨bE,hm⟩:=aK hm
 refine jS rfl trivial (iP (a:=0) (b:=af (aE+1)) c7 rfl (by kernel_rfl:slTy _ _=some (aa au)) rfl ⟨_,rfl⟩ bE.1 bE.2.1 bE.2.2) ?_
 intro ft c8
 obtain ⟨fu,c9⟩:=RS.news c8 (cu).inv
 obtain ⟨fw,hm⟩:=aK hm
 refine eS rfl trivial (dG (ys:=(a0.S.take (af (aE+1)).toNat).drop (0:Int).toNat) (bS:=40) cu (i:=0) rfl (c5.mono aX) c9 rfl rfl (by kernel_rfl) (by omega) (by omega)) ?_
 rintro av dc fx ⟨bl,bI⟩
 refine bA 2 1 av [av] [Pt J 0,v11,V a0.Doc, .bool a0.aA,av,V a0.ax,V a0.Read] bI rfl (bI.fU (i:=0) rfl) (bt (bI.fO (i:=0) rfl) cp) ?_
 intro fy bJ
 refine xn 0<|sq<|s0<|aP 1 hm ?_ ?_<;>intro fz hm
 refine xn 0<|dT<|s0<|aB 5 1 (V a0.Doc) bJ rfl ?_
 obtain ⟨bb,dd,hm⟩:=ai hm
 refine cA 1 (((((bJ.front 0 rfl).front 4 rfl).front 4 rfl).front 4 rfl).front 4 rfl) (fun p=>pn F (a0:=(⟨a0.R,a0.Rows,a0.Doc,a0.aA,([]:List au)++((a0.S.take (af (aE+1)).toNat).drop (0:Int).toNat),a0.ax,a0.Read⟩:aT)) p (a4.mono (aV.ag.trans aX)) (a6.mono (aV.ag.trans aX)) (a7.mono (aV.ag.trans aX)) (a8.mono (aV.ag.trans aX)) bl dd) ?_
 rintro _ fA fB _ fC de ⟨dh,dj,dk,dm,dp,dq,rfl,rfl,dr,ds,du,dx,dy⟩
 refine bA 2 0 (.bool bb.1) [.bool bb.1] [Pt J 0,v11,V bb.2.Doc, .bool bb.1,av,V bb.2.ax,V bb.2.Read] de rfl rfl rfl ?_
 intro fE dz
 refine xn 0<|rt<|⟨rfl,?_⟩
 obtain rfl:=si hm
 refine ⟨_,_,_,ResL.nil,dz,?_⟩
 exact ⟨dh,dj,dk,dm,dp,av,dq,rfl,rfl,dr,ds,du,dx,dy⟩
 refine xn 0<|dF<|sk<|ee B7 bJ ?_
 intro bN fH bO a9
 refine yq 3 [(89,Pt I 4),(0,Pt I 0),(2,V ar),(8,V aE)] ?_
 have fI:I<bN:=bO.1 _ (List.mem_of_getElem? (i:=1) rfl) _ (by simp [Itm.ids])
 refine aW (v:=av) rfl trivial rfl (by show I<_;omega) (aC (v:=av) (a9.dv (i:=0) rfl)) (a9.aU (i:=1) rfl (by kernel_rfl)) trivial<|yq 5 [(95,Pt I 4),(92,Pt I 0),(91,V aE),(90,av),(2,V ar),(8,V aE)] ?_
 have fK:I<bN:=bO.1 _ (List.mem_of_getElem? (i:=1) rfl) _ (by simp [Itm.ids])
 refine aW (v:=av) rfl trivial rfl (by show I<_;omega) (aC (v:=av) (a9.dv (i:=0) rfl)) (a9.aU (i:=1) rfl (by kernel_rfl)) trivial<|yq 1 [(97,V aE),(96,av),(92,Pt I 0),(91,V aE),(90,av),(2,V ar)] ?_
 obtain ⟨cx,hm⟩:=aK hm
 refine aG rfl trivial (bF rfl rfl (by kernel_rfl:slTy _ _=some (aa au)) (a9.bK (j:=0) rfl bl (by omega)) cx.1 cx.2)<|yq 1 [(99, .pointer (some (bj av aE (aa au) 3))),(92,Pt I 0),(91,V aE),(90,av),(2,V ar)] ?_
 obtain ⟨bR,cy,hm⟩:=ai hm
 obtain ⟨fL,dA,dB,fM⟩:=a9.cm (j:=0) rfl bl (i:=aE) cy
 obtain rfl:=ec dA
 have dD:=dw cy
 have dE:=a9.bK (j:=0) rfl bl dD
 have fN:(baseOf av).block<bN:=dn (bO.1 _ (List.mem_of_getElem? (i:=0) rfl)) dE
 refine di rfl trivial rfl (by show (baseOf av).block<_;omega) (aC (v:=V bR.bP) trivial) (bL (w:=V bR.bP) dB rfl (by kernel_rfl)) trivial<|yq 1 [(101,V ar),(100,V bR.bP),(92,Pt I 0),(91,V aE),(90,av)] ?_
 obtain ⟨aY,dH,hm⟩:=ai hm
 have cz:St _ _ _ _ _ _ ([.ae I [Pt J 0,v11,V a0.Doc, .bool a0.aA,av,V a0.ax,V a0.Read], .ae J (ay v4 v6 ao a0.R), .gs ao aH (aa aj), .gs v11 az (aa an), .gs av dc (aa au)]++[]):=(((((a9.front 0 rfl).front 4 rfl).front 4 rfl).front 4 rfl).front 4 rfl)
 obtain ⟨fP,fQ,fR,fS,dI,bT,cB,cC,bU,cD,cE,dJ,rfl,rfl,dK,dL,dM,dN,bV⟩:=pn F (a0:=(⟨a0.R,a0.Rows,a0.Doc,a0.aA,([]:List au)++((a0.S.take (af (aE+1)).toNat).drop (0:Int).toNat),a0.ax,a0.Read⟩:aT)) cz.cJ.eE (a4.mono (aV.ag.trans aX)) (a6.mono (aV.ag.trans aX)) (a7.mono (aV.ag.trans aX)) (a8.mono (aV.ag.trans aX)) bl dH
 have cF:=bT.ag
 refine fG rfl trivial cz (dg dI rfl rfl rfl) bT cF (.drop (by decide) (.drop (by decide) (.qt (bT.aU (i:=0) rfl (by kernel_rfl)) .nil))) ?_
 intro fT bW
 obtain ⟨cG,hm⟩:=aK hm
 refine aG rfl trivial (bF rfl rfl (by kernel_rfl:slTy _ _=some (aa au)) (bW.bK (j:=4) rfl bV (by omega)) cG.1 cG.2)<|yq 1 [(104, .pointer (some (bj av aE (aa au) 4))),(102, .bool aY.1)] ?_
 obtain ⟨ba,cH,hm⟩:=ai hm
 obtain ⟨fV,dO,fW,dQ⟩:=bW.cm (j:=4) rfl bV (i:=aE) cH
 obtain rfl:=ec dO
 have bX:St _ _ _ _ _ _ ([.gs av dJ (aa au)]++[.ae I [Pt J 0,v11,V aY.2.Doc, .bool aY.2.aA,av,V aY.2.ax,V aY.2.Read], .ae J (ay cB cC bU aY.2.R), .gs bU cD (aa aj), .gs v11 cE (aa an)]):=(bW.front 4 rfl)
 refine kg rfl trivial bX (gz (u':=(⟨ba.Node,ba.Kind,ba.aD,ba.bP,aY.1⟩:au)) (vs:=[.bool aY.1]) (aZ:=[V ba.Node,V ba.Kind,V ba.aD,V ba.bP, .bool aY.1]) bX.sub (m:=0) rfl bV cH dQ rfl rfl rfl (by kernel_rfl) rfl rfl rfl rfl) cF (.drop (by decide) (.drop (by decide) (.a3 (bX.bH 0 rfl bM) .nil))) ?_
 rintro fX dR ⟨dS,dU⟩
 refine yf [] ?_
 have dV:=dU.a5
 obtain rfl:=si hm
 refine ⟨_,_,_,ResL.nil,(((((dV.front 0 rfl).front 4 rfl).front 4 rfl).front 4 rfl).front 4 rfl),?_⟩
 exact ⟨cB,cC,bU,cD,cE,av,dR,rfl,rfl,dK,dL,dM,dN,dS⟩
 refine s0<|aP 1 ad ?_ ?_<;>intro fY ad
 refine aB 4 0 (.bool a0.aA) ab rfl<|kb 2 40 ad ?_ ?_<;>intro fZ ad
 refine xn 13<|dT<|cU pN ab ?_
 intro dW ga dX bY
 refine yq 3 [(56,Pt I 0),(0,Pt I 0),(2,V ar),(3,V aw)] ?_
 have gb:I<dW:=dX.1 _ (List.mem_of_getElem? (i:=0) rfl) _ (by simp [Itm.ids])
 refine aW (v:=Pt J 0) rfl trivial rfl (by show I<_;omega) (aC (v:=Pt J 0) trivial) (bY.aU (i:=0) rfl (by kernel_rfl)) trivial<|yq 1 [(58,Pt I 0),(57,Pt J 0),(2,V ar),(3,V aw)] ?_
 obtain ⟨dY,dZ,ad⟩:=ai ad
 have cI:=bY.cJ
 obtain ⟨gd,bc,ea,bm⟩:=St.ke (L:=[.ae I [Pt J 0,v11,V a0.Doc, .bool a0.aA,U,V a0.ax,V a0.Read], .ae J (ay v4 v6 ao a0.R), .gs ao aH (aa aj), .gs v11 az (aa an), .gs U aF (aa au)]) cI
 obtain ⟨gf,gg,eb,bu,rfl⟩:=mP F ea (RS.mono bc (a4.mono ab.ag)) (RS.mono bc (a6.mono ab.ag)) (bf.row (bm _ (List.mem_of_getElem? (i:=2) rfl)) bc (a7.mono ab.ag)) (bm _ (List.mem_of_getElem? (i:=1) rfl)) (bf.row (bm _ (List.mem_of_getElem? (i:=3) rfl)) bc (a8.mono ab.ag)) (bf.row (bm _ (List.mem_of_getElem? (i:=4) rfl)) bc (aM.mono ab.ag)) (bm _ (List.mem_of_getElem? (i:=0) rfl)) dZ
 replace bu:=St.kH bc bu
 have ed:=St.call (A:=[]) (B:=[.ae I [Pt J 0,v11,V a0.Doc, .bool a0.aA,U,V a0.ax,V a0.Read], .ae J (ay v4 v6 ao a0.R), .gs ao aH (aa aj), .gs v11 az (aa an), .gs U aF (aa au)]) cI bu
 refine fD rfl trivial bY (dg eb rfl rfl rfl) ed (St.fJ bu) ?_
 intro gh eg
 refine yq 2 [(61,V aw),(60,V ar),(59,V dY),(57,Pt J 0)] ?_
 obtain ⟨gi,eh,ad⟩:=ai ad
 have bZ:St _ _ _ _ _ _ ([.ae J (ay v4 v6 ao a0.R), .gs ao aH (aa aj)]++[.ae I [Pt J 0,v11,V a0.Doc, .bool a0.aA,U,V a0.ax,V a0.Read], .gs v11 az (aa an), .gs U aF (aa au)]):=((eg.front 2 rfl).front 2 rfl)
 obtain ⟨gj,gk,gl,gm,ei,cK,ej,ek,en,eo,rfl,rfl,ep,er,et⟩:=fh F bZ.cJ.eE (a4.mono ab.ag) (a6.mono ab.ag) (a7.mono ab.ag) eh
 have b0:=cK.ag
 refine fG rfl trivial bZ (dg ei rfl rfl rfl) cK b0 (.a3 (bZ.bH 0 rfl bM) .nil) ?_
 intro gn eu
 refine yf [] ?_
 have ew:=eu.a5
 refine rt<|⟨rfl,?_⟩
 obtain rfl:=si ad
 obtain rfl:=si hm
 refine ⟨_,_,_,ResL.nil,(((((ew.front 4 rfl).front 4 rfl).front 3 rfl).front 3 rfl).front 4 rfl),?_⟩
 exact ⟨ej,ek,en,eo,az,U,aF,rfl,rfl,ep,er,et,(a8.mono (ab.ag.trans b0)),(aM.mono (ab.ag.trans b0))⟩
 refine ct 1 ad ?_ ?_<;>intro gq ad
 refine aB 4 0 U ab rfl<|eJ 1 4 ad ab (aM.mono ab.ag) rfl ?_
 intro gr ad
 refine fv 1 4 4 (fun cL=> .bool cL.Has) ad ab (aM.mono ab.ag) rfl ?_
 intro cL gu ad
 refine xn 2<|db ad ?_ ?_<;>intro gv ad
 refine cU pN ab ?_
 intro ey gw ez b1
 refine yq 3 [(56,Pt I 0),(0,Pt I 0),(2,V ar),(3,V aw)] ?_
 have gx:I<ey:=ez.1 _ (List.mem_of_getElem? (i:=0) rfl) _ (by simp [Itm.ids])
 refine aW (v:=Pt J 0) rfl trivial rfl (by show I<_;omega) (aC (v:=Pt J 0) trivial) (b1.aU (i:=0) rfl (by kernel_rfl)) trivial<|yq 1 [(58,Pt I 0),(57,Pt J 0),(2,V ar),(3,V aw)] ?_
 obtain ⟨eA,eB,ad⟩:=ai ad
 have cM:=b1.cJ
 obtain ⟨gy,bd,eC,bn⟩:=St.ke (L:=[.ae I [Pt J 0,v11,V a0.Doc, .bool a0.aA,U,V a0.ax,V a0.Read], .ae J (ay v4 v6 ao a0.R), .gs ao aH (aa aj), .gs v11 az (aa an), .gs U aF (aa au)]) cM
 obtain ⟨gA,gB,eD,bw,rfl⟩:=mP F eC (RS.mono bd (a4.mono ab.ag)) (RS.mono bd (a6.mono ab.ag)) (bf.row (bn _ (List.mem_of_getElem? (i:=2) rfl)) bd (a7.mono ab.ag)) (bn _ (List.mem_of_getElem? (i:=1) rfl)) (bf.row (bn _ (List.mem_of_getElem? (i:=3) rfl)) bd (a8.mono ab.ag)) (bf.row (bn _ (List.mem_of_getElem? (i:=4) rfl)) bd (aM.mono ab.ag)) (bn _ (List.mem_of_getElem? (i:=0) rfl)) eB
 replace bw:=St.kH bd bw
 have eF:=St.call (A:=[]) (B:=[.ae I [Pt J 0,v11,V a0.Doc, .bool a0.aA,U,V a0.ax,V a0.Read], .ae J (ay v4 v6 ao a0.R), .gs ao aH (aa aj), .gs v11 az (aa an), .gs U aF (aa au)]) cM bw
 refine fD rfl trivial b1 (dg eD rfl rfl rfl) eF (St.fJ bw) ?_
 intro gC eG
 refine yq 2 [(61,V aw),(60,V ar),(59,V eA),(57,Pt J 0)] ?_
 obtain ⟨gD,eH,ad⟩:=ai ad
 have b2:St _ _ _ _ _ _ ([.ae J (ay v4 v6 ao a0.R), .gs ao aH (aa aj)]++[.ae I [Pt J 0,v11,V a0.Doc, .bool a0.aA,U,V a0.ax,V a0.Read], .gs v11 az (aa an), .gs U aF (aa au)]):=((eG.front 2 rfl).front 2 rfl)
 obtain ⟨gE,gF,gG,gH,eI,cP,eK,eL,eM,eN,rfl,rfl,eO,eP,eQ⟩:=fh F b2.cJ.eE (a4.mono ab.ag) (a6.mono ab.ag) (a7.mono ab.ag) eH
 have b3:=cP.ag
 refine fG rfl trivial b2 (dg eI rfl rfl rfl) cP b3 (.a3 (b2.bH 0 rfl bM) .nil) ?_
 intro gI eR
 refine yf [] ?_
 have eT:=eR.a5
 refine rt<|⟨rfl,?_⟩
 obtain rfl:=si ad
 obtain rfl:=si hm
 refine ⟨_,_,_,ResL.nil,(((((eT.front 4 rfl).front 4 rfl).front 3 rfl).front 3 rfl).front 4 rfl),?_⟩
 exact ⟨eK,eL,eM,eN,az,U,aF,rfl,rfl,eO,eP,eQ,(a8.mono (ab.ag.trans b3)),(aM.mono (ab.ag.trans b3))⟩
 refine sk ?_
 obtain rfl:=si ad
 exact ⟨_,rfl,(by kernel_rfl),ab⟩
 refine xn 11<|dF<|sk ?_
 obtain rfl:=si ad
 exact ⟨_,rfl,(by kernel_rfl),ab⟩
 refine ct 8 ad ?_ ?_<;>intro gJ ad
 refine aB 4 0 U ab rfl<|eJ 1 4 ad ab (aM.mono ab.ag) rfl ?_
 intro gK ad
 refine fv 1 4 4 (fun cQ=> .bool cQ.Has) ad ab (aM.mono ab.ag) rfl ?_
 intro cQ gL ad
 refine xn 2<|db ad ?_ ?_<;>intro gM ad
 refine cU pN ab ?_
 intro eU gN eV b4
 refine yq 3 [(56,Pt I 0),(0,Pt I 0),(2,V ar),(3,V aw)] ?_
 have gO:I<eU:=eV.1 _ (List.mem_of_getElem? (i:=0) rfl) _ (by simp [Itm.ids])
 refine aW (v:=Pt J 0) rfl trivial rfl (by show I<_;omega) (aC (v:=Pt J 0) trivial) (b4.aU (i:=0) rfl (by kernel_rfl)) trivial<|yq 1 [(58,Pt I 0),(57,Pt J 0),(2,V ar),(3,V aw)] ?_
 obtain ⟨eW,eX,ad⟩:=ai ad
 have cR:=b4.cJ
 obtain ⟨gP,bg,eY,bo⟩:=St.ke (L:=[.ae I [Pt J 0,v11,V a0.Doc, .bool a0.aA,U,V a0.ax,V a0.Read], .ae J (ay v4 v6 ao a0.R), .gs ao aH (aa aj), .gs v11 az (aa an), .gs U aF (aa au)]) cR
 obtain ⟨gQ,gR,eZ,bx,rfl⟩:=mP F eY (RS.mono bg (a4.mono ab.ag)) (RS.mono bg (a6.mono ab.ag)) (bf.row (bo _ (List.mem_of_getElem? (i:=2) rfl)) bg (a7.mono ab.ag)) (bo _ (List.mem_of_getElem? (i:=1) rfl)) (bf.row (bo _ (List.mem_of_getElem? (i:=3) rfl)) bg (a8.mono ab.ag)) (bf.row (bo _ (List.mem_of_getElem? (i:=4) rfl)) bg (aM.mono ab.ag)) (bo _ (List.mem_of_getElem? (i:=0) rfl)) eX
 replace bx:=St.kH bg bx
 have e0:=St.call (A:=[]) (B:=[.ae I [Pt J 0,v11,V a0.Doc, .bool a0.aA,U,V a0.ax,V a0.Read], .ae J (ay v4 v6 ao a0.R), .gs ao aH (aa aj), .gs v11 az (aa an), .gs U aF (aa au)]) cR bx
 refine fD rfl trivial b4 (dg eZ rfl rfl rfl) e0 (St.fJ bx) ?_
 intro gS e2
 refine yq 2 [(61,V aw),(60,V ar),(59,V eW),(57,Pt J 0)] ?_
 obtain ⟨gT,e3,ad⟩:=ai ad
 have b6:St _ _ _ _ _ _ ([.ae J (ay v4 v6 ao a0.R), .gs ao aH (aa aj)]++[.ae I [Pt J 0,v11,V a0.Doc, .bool a0.aA,U,V a0.ax,V a0.Read], .gs v11 az (aa an), .gs U aF (aa au)]):=((e2.front 2 rfl).front 2 rfl)
 obtain ⟨gU,gV,gW,gX,e4,cS,e5,e6,e7,e8,rfl,rfl,e9,fa,fb⟩:=fh F b6.cJ.eE (a4.mono ab.ag) (a6.mono ab.ag) (a7.mono ab.ag) e3
 have b7:=cS.ag
 refine fG rfl trivial b6 (dg e4 rfl rfl rfl) cS b7 (.a3 (b6.bH 0 rfl bM) .nil) ?_
 intro gY fc
 refine yf [] ?_
 have fe:=fc.a5
 refine rt<|⟨rfl,?_⟩
 obtain rfl:=si ad
 obtain rfl:=si hm
 refine ⟨_,_,_,ResL.nil,(((((fe.front 4 rfl).front 4 rfl).front 3 rfl).front 3 rfl).front 4 rfl),?_⟩
 exact ⟨e5,e6,e7,e8,az,U,aF,rfl,rfl,e9,fa,fb,(a8.mono (ab.ag.trans b7)),(aM.mono (ab.ag.trans b7))⟩
 refine sk ?_
 obtain rfl:=si ad
 exact ⟨_,rfl,(by kernel_rfl),ab⟩
 refine xn 11<|dF<|sk ?_
 obtain rfl:=si ad
 exact ⟨_,rfl,(by kernel_rfl),ab⟩
 refine bk 0<|lp [0,2,3,5,8] (fun n l h=>∃ cT bh aJ aO,correctorref12_parser_bare_l0 F a0 a1 ar aw n bh aJ=some bC∧l=[(0,Pt I 0),(2,V ar),(3,V aw),(5,Pt aO 0),(8,V aJ)]∧St hs (aR [.ae I [Pt J 0,v11,V a0.Doc, .bool a0.aA,U,V a0.ax,V a0.Read], .ae J (ay v4 v6 ao a0.R), .gs ao aH (aa aj), .gs v11 az (aa an), .gs U aF (aa au)]) Z (0,0) cT h [.ae I [Pt J 0,v11,V a0.Doc, .bool a0.aA,U,V a0.ax,V a0.Read], .ae J (ay v4 v6 ao a0.R), .gs ao aH (aa aj), .gs v11 az (aa an), .gs U aF (aa au), .ae aO (cw bh)]) F ⟨_,a1,af ((a0.S.length:Int) - 1),c3,aL,(by kernel_rfl),((((((bB.front 0 rfl).front 5 rfl).front 5 rfl).front 5 rfl).front 5 rfl).front 5 rfl)⟩ ?_
 rintro b8 l gZ ⟨cT,bh,aJ,aO,aL,rfl,bz⟩
 rcases b8 with _ | b8
 cases (show none=some bC from aL)
 rw [correctorref12_parser_bare_l0] at aL
 refine sq<|cU wI bz ?_
 intro b9 g0 ca a2
 refine yq 1 [(15,V aJ),(0,Pt I 0),(2,V ar),(3,V aw),(5,Pt aO 0),(8,V aJ)] ?_
 rcases ifs aL with ⟨cb,aL⟩ | ⟨cb,aL⟩
 refine aG rfl trivial (bp rfl rfl (jC cb))<|yq 4 [(20,Pt I 4),(17, .bool true),(0,Pt I 0),(2,V ar),(3,V aw),(5,Pt aO 0),(8,V aJ)] ?_
 have g1:I<b9:=ca.1 _ (List.mem_of_getElem? (i:=0) rfl) _ (by simp [Itm.ids])
 refine aW (v:=U) rfl rfl rfl (by show I<_;omega) (aC (v:=U) (a2.dv (i:=4) rfl)) (a2.aU (i:=0) rfl (by kernel_rfl)) trivial<|yq 1 [(22,V aJ),(21,U),(17, .bool true),(0,Pt I 0),(2,V ar),(3,V aw),(5,Pt aO 0),(8,V aJ)] ?_
 obtain ⟨cY,aL⟩:=aK aL
 refine aG rfl rfl (bF rfl rfl (by kernel_rfl:slTy _ _=some (aa au)) (a2.bK (j:=4) rfl (aM.mono bz.ag) (by omega)) cY.1 cY.2)<|yq 1 [(24, .pointer (some (bj U aJ (aa au) 2))),(17, .bool true),(0,Pt I 0),(2,V ar),(3,V aw),(5,Pt aO 0),(8,V aJ)] ?_
 obtain ⟨cc,c0,aL⟩:=ai aL
 obtain ⟨g2,ff,fg,g3⟩:=a2.cm (j:=4) rfl (aM.mono bz.ag) (i:=aJ) c0
 obtain rfl:=ec ff
 have fi:=dw c0
 have fj:=a2.bK (j:=4) rfl (aM.mono bz.ag) fi
 have g4:(baseOf U).block<b9:=dn (ca.1 _ (List.mem_of_getElem? (i:=4) rfl)) fj
 refine di rfl rfl rfl (by show (baseOf U).block<_;omega) (aC (v:=V cc.aD) trivial) (bL (w:=V cc.aD) fg rfl (by kernel_rfl)) trivial<|yq 1 [(26,Pt aO 3),(25,V cc.aD),(17, .bool true),(0,Pt I 0),(2,V ar),(3,V aw),(5,Pt aO 0),(8,V aJ)] ?_
 have g5:aO<b9:=ca.1 _ (List.mem_of_getElem? (i:=5) rfl) _ (by simp [Itm.ids])
 refine aW (v:=V bh.aD) rfl rfl rfl (by show aO<_;omega) (aC (v:=V bh.aD) trivial) (a2.aU (i:=5) rfl (by kernel_rfl)) trivial ?_
 rcases ifs aL with ⟨cd,aL⟩ | ⟨cd,aL⟩
 refine aG rfl rfl (bp rfl rfl (jC cd))<|ye 1 [(29, .bool true),(0,Pt I 0),(2,V ar),(3,V aw),(5,Pt aO 0),(8,V aJ)] ?_
 have fk:=a2.a5
 refine dT<|sk<|bk 1<|gp 3 ?_
 exact ⟨b8,Nat.lt_succ_self _,⟨_,bh,af (aJ - 1),aO,aL,(by kernel_rfl),fk⟩⟩
 refine aG rfl rfl (bp rfl rfl (jl cd))<|ye 1 [(29, .bool false),(0,Pt I 0),(2,V ar),(3,V aw),(5,Pt aO 0),(8,V aJ)] ?_
 have fl:=a2.a5
 refine dF<|xt 0<|aN ?_
 obtain rfl:=si aL
 exact ⟨_,aJ,rfl,(by kernel_rfl),(fl.takeN 5)⟩
 refine aG rfl trivial (bp rfl rfl (jl cb))<|ye 13 [(29, .bool false),(0,Pt I 0),(2,V ar),(3,V aw),(5,Pt aO 0),(8,V aJ)] ?_
 have fm:=a2.a5
 refine dF<|xt 0<|aN ?_
 obtain rfl:=si aL
 exact ⟨_,aJ,rfl,(by kernel_rfl),(fm.takeN 5)⟩
def A4:List bq:=[uP 18 (mv 6),uP 19 (bc .geq 3 18 0 3),uP 20 (mv 19),aJ 20 21 (mv 0),aJ 20 22 (nk 21),aJ 20 23 (fa 61 22 4),cG 20 24 (ld 59 23),aJ 20 25 (mv 6),aJ 20 26 (ia 59 24 25),aJ 20 27 (fa 114 26 2),cG 20 28 (ld 3 27),aJ 20 29 (fa 112 3 1),cG 20 30 (ld 3 29),aJ 20 31 (bo .gtr 3 28 30 3),uP 32 (pf 20 31)]
def wh:List bq:=[uP 36 (mv 6),uP 37 (bc .geq 3 36 0 3),uP 38 (mv 37),aJ 38 39 (mv 0),aJ 38 40 (nk 39),aJ 38 41 (fa 61 40 4),cG 38 42 (ld 59 41),aJ 38 43 (mv 6),aJ 38 44 (ia 59 42 43),aJ 38 45 (fa 114 44 2),cG 38 46 (ld 3 45),aJ 38 47 (fa 112 3 1),cG 38 48 (ld 3 47),aJ 38 49 (bo .eql 3 46 48 3),uP 50 (pf 38 49),uP 51 (mv 50),aJ 51 52 (mv 0),aJ 51 53 (nk 52),aJ 51 54 (fa 61 53 4),cG 51 55 (ld 59 54),aJ 51 56 (mv 6),aJ 51 57 (ia 59 55 56),aJ 51 58 (fa 114 57 1),cG 51 59 (ld 3 58),aJ 51 60 (mv 5),aJ 51 61 (bo .eql 3 59 60 3),uP 62 (pf 51 61),uP 35 (sg 62)]
def wk:List bq:=[uP 64 (mv 6),uP 65 (bc .geq 3 64 0 3),uP 66 (mv 65),aJ 66 67 (mv 0),aJ 66 68 (nk 67),aJ 66 69 (fa 61 68 4),cG 66 70 (ld 59 69),aJ 66 71 (mv 6),aJ 66 72 (ia 59 70 71),aJ 66 73 (fa 114 72 2),cG 66 74 (ld 3 73),aJ 66 75 (fa 112 3 1),cG 66 76 (ld 3 75),aJ 66 77 (bo .eql 3 74 76 3),uP 78 (pf 66 77),uP 79 (mv 78),aJ 79 80 (mv 5),aJ 79 81 (bc .eql 3 80 3 3),uP 82 (pf 79 81),uP 63 (sg 82)]
def Cb:List bq:=[uP 92 (mv 6),uP 93 (bc .gtr 3 92 0 3),uP 94 (mv 93),aJ 94 95 (mv 0),aJ 94 96 (nk 95),aJ 94 97 (fa 61 96 4),cG 94 98 (ld 59 97),aJ 94 99 (mv 6),aJ 94 100 (ia 59 98 99),aJ 94 101 (fa 114 100 2),cG 94 102 (ld 3 101),aJ 94 103 (fa 112 3 1),cG 94 104 (ld 3 103),aJ 94 105 (bo .eql 3 102 104 3),uP 106 (pf 94 105),uP 107 (mv 106),aJ 107 108 (mv 0),aJ 107 109 (nk 108),aJ 107 110 (fa 61 109 4),cG 107 111 (ld 59 110),aJ 107 112 (mv 6),aJ 107 113 (bc .sub 3 112 1 3),aJ 107 114 (ia 59 111 113),aJ 107 115 (fa 114 114 2),cG 107 116 (ld 3 115),aJ 107 117 (fa 112 3 1),cG 107 118 (ld 3 117),aJ 107 119 (bo .eql 3 116 118 3),uP 120 (pf 107 119),uP 121 (mv 120),aJ 121 122 (mv 0),aJ 121 123 (nk 122),aJ 121 124 (fa 61 123 4),cG 121 125 (ld 59 124),aJ 121 126 (mv 6),aJ 121 127 (bc .sub 3 126 1 3),aJ 121 128 (ia 59 125 127),aJ 121 129 (fa 114 128 1),cG 121 130 (ld 3 129),aJ 121 131 (bc .eql 3 130 5 3),uP 132 (pf 121 131),uP 91 (sg 132)]
def DZ:List bq:=[uP 136 (mv 6),uP 137 (bc .geq 3 136 0 3),uP 138 (mv 137),aJ 138 139 (mv 0),aJ 138 140 (nk 139),aJ 138 141 (fa 61 140 4),cG 138 142 (ld 59 141),aJ 138 143 (mv 6),aJ 138 144 (ia 59 142 143),aJ 138 145 (fa 114 144 2),cG 138 146 (ld 3 145),aJ 138 147 (fa 112 3 1),cG 138 148 (ld 3 147),aJ 138 149 (bo .eql 3 146 148 3),uP 150 (pf 138 149),uP 135 (sg 150)]
def yz:List aQ:=[u 183 (mv 0),u 184 (.buildSlice 59 0 #[]),u 185 (mv 0),u 186 (nk 185),u 187 (fa 61 186 4),u 188 (ld 59 187),u 189 (mv 6),u 190 (bc .add 3 189 1 3),u 191 (.slice 59 (t 188) none (some (t 190)) none),u 192 (cb .append #[(t 184),(t 191)] #[59,59]),u 193 (nk 183),u 194 (fa 61 193 4),o (.store 59 (t 194) (t 192))]
def yQ:List aQ:=[u 210 (mv 0),u 211 (nk 210),u 212 (fa 61 211 4),u 213 (ld 59 212),u 214 (mv 6),u 215 (ia 59 213 214),u 216 (fa 114 215 4),o (.store 4 (t 216) (.const (.bool true)))]
def vL:List bq:=[uP 220 (mv 0),uP 221 (mv 0),uP 222 (nk 221),uP 223 (fa 61 222 4),uL 224 (ld 59 223),uP 225 (mv 0),uP 226 (nk 225),uP 227 (fa 61 226 0),uL 228 (ld 55 227),uP 229 (mv 8),uP 230 (mv 5),uP 231 (fa 112 3 2),uL 232 (ld 3 231),uP 233 (fa 112 3 3),uL 234 (ld 3 233),uF 235 (cf 67 #[(t 228),(t 229),(t 230),(t 232),(t 234)] #[55,3,3,3,3]) .make [8,12,14],uP 236 (mv 5),uP 237 (fa 112 3 1),uL 238 (ld 3 237),uP 239 (.build 114 #[(0,(t 235)),(1,(t 236)),(2,(t 238))]),uF 240 (.buildSlice 59 1 #[(0,(t 239))]) .fresh [],uF 241 (cb .append #[(t 224),(t 240)] #[59,59]) .make [4,8,12,14,18],uP 242 (nk 220),uP 243 (fa 61 242 4),oF (.store 59 (t 243) (t 241)) .make [4,8,12,14,18]]
def zs:List bq:=[uP 244 (mv 0),uP 245 (nk 244),uP 246 (fa 61 245 4),uL 247 (ld 59 246),uP 248 (mv 0),uP 249 (nk 248),uP 250 (fa 61 249 4),uL 251 (ld 59 250),uP 252 (cb .len #[(t 251)] #[59]),uP 253 (bc .sub 3 252 1 3),uP 254 (ia 59 247 253),uP 9 (sg 254)]
def EL:List aQ:=[u 255 (mv 9),u 256 (nk 255),u 257 (fa 114 256 4),o (.store 4 (t 257) (.const (.bool false)))]
def yw:List bq:=[uP 260 (mv 9),uP 261 (mv 0),uP 262 (nk 261),uP 263 (fa 61 262 0),uL 264 (ld 55 263),uP 265 (mv 9),uP 266 (nk 265),uP 267 (fa 114 266 0),uL 268 (ld 3 267),uP 269 (fa 112 3 2),uL 270 (ld 3 269),uP 271 (fa 112 3 3),uL 272 (ld 3 271),uF 273 (cf 67 #[(t 264),(t 268),(ci 4),(t 270),(t 272)] #[55,3,3,3,3]) .make [4,8,10,12],uP 274 (nk 260),uP 275 (fa 114 274 3),oF (.store 3 (t 275) (t 273)) .make [4,8,10,12]]
def yK:List bq:=[uP 276 (mv 9),uP 277 (mv 0),uP 278 (nk 277),uP 279 (fa 61 278 0),uL 280 (ld 55 279),uP 281 (mv 9),uP 282 (nk 281),uP 283 (fa 114 282 0),uL 284 (ld 3 283),uP 285 (fa 112 3 2),uL 286 (ld 3 285),uP 287 (fa 112 3 3),uL 288 (ld 3 287),uF 289 (cf 86 #[(t 280),(t 284),(t 286),(t 288)] #[55,3,3,3]) .make [4,8,10,12],uP 290 (nk 276),uP 291 (fa 114 290 3),oF (.store 3 (t 291) (t 289)) .make [4,8,10,12]]
def correctorref12_parser_place_l0 (F:Nat) (a0:aT) (a1:a2):Nat→a2→Int→Int→Option (a2×Int×Int)
 | 0,_,_,_=>none
 | n+1,I,J,j=>
  if (0:Int)≤j then
   if 0≤j∧j<(a0.S.length:Int) then
    (a0.S[j.toNat]?).bind fun U=>
    if I.aD<U.aD then
     correctorref12_parser_place_l0 F a0 a1 n I J (af (j - 1))
    else
     some (I,J,j)
   else none
  else
   some (I,J,j)
def correctorref12_parser_place (F:Nat) (a0:aT) (a1:a2):Option (Int×aT):=
 ((if a1.ik=true then
   some (a1,3)
  else
   some (a1,5)):Option (a2×Int)).bind fun o=>match o with
  | (aM,aN)=>((correctorref12_parser_place_l0 F a0 a1 F aM aN (af ((a0.S.length:Int) - 1))):Option (a2×Int×Int)).bind fun o=>match o with
   | (ad,ae,j)=>((((if (0:Int)≤j then
      if 0≤j∧j<(a0.S.length:Int) then
       (a0.S[j.toNat]?).bind fun aO=>
       if aO.aD=ad.aD then
        if 0≤j∧j<(a0.S.length:Int) then
         (a0.S[j.toNat]?).bind fun aP=>
         if aP.Kind=ae then
          some (ad,true)
         else
          some (ad,false)
        else none
       else
        some (ad,false)
      else none
     else
      some (ad,false)):Option (a2×Bool)).bind fun o=>match o with
     | (ab,aR)=>if aR=true then
      some (.inl (ab,j,false))
     else
      ((if (0:Int)≤j then
        if 0≤j∧j<(a0.S.length:Int) then
         (a0.S[j.toNat]?).bind fun aU=>
         if aU.aD=ab.aD then
          if ae=(3:Int) then
           some (ab,true)
          else
           some (ab,false)
         else
          some (ab,false)
        else none
       else
        some (ab,false)):Option (a2×Bool)).bind fun o=>match o with
       | (aa,aV)=>if aV=true then
        if 0≤j∧j<(a0.S.length:Int) then
         (a0.S[j.toNat]?).bind fun aW=>
         if aW.Has=true then
          some (.inr (5,a0))
         else
          some (.inl (aa,j,true))
        else none
       else
        ((if (0:Int)<j then
          if 0≤j∧j<(a0.S.length:Int) then
           (a0.S[j.toNat]?).bind fun aX=>
           if aX.aD=aa.aD then
            if 0≤(af (j - 1))∧(af (j - 1))<(a0.S.length:Int) then
             (a0.S[(af (j - 1)).toNat]?).bind fun aY=>
             if aY.aD=aa.aD then
              if 0≤(af (j - 1))∧(af (j - 1))<(a0.S.length:Int) then
               (a0.S[(af (j - 1)).toNat]?).bind fun aZ=>
               if aZ.Kind=(5:Int) then
                some (aa,true)
               else
                some (aa,false)
              else none
             else
              some (aa,false)
            else none
           else
            some (aa,false)
          else none
         else
          some (aa,false)):Option (a2×Bool)).bind fun o=>match o with
         | (ag,a3)=>if a3=true then
          some (.inl (ag,af (j - 1),false))
         else
          ((if (0:Int)≤j then
            if 0≤j∧j<(a0.S.length:Int) then
             (a0.S[j.toNat]?).bind fun a4=>
             if a4.aD=ag.aD then
              some (ag,true)
             else
              some (ag,false)
            else none
           else
            some (ag,false)):Option (a2×Bool)).bind fun o=>match o with
           | (al,a5)=>if a5=true then
            some (.inr (5,a0))
           else
            if j<(0:Int) then
             if a0.aA=true then
              some (.inr (7,a0))
             else
              if (0:Int)≤j then
               if 0≤j∧j<(a0.S.length:Int) then
                (a0.S[j.toNat]?).bind fun a6=>
                if a6.Has=true then
                 some (.inr (6,a0))
                else
                 some (.inl (al,j,true))
               else none
              else
               some (.inl (al,j,true))
            else
             if (0:Int)≤j then
              if 0≤j∧j<(a0.S.length:Int) then
               (a0.S[j.toNat]?).bind fun a7=>
               if a7.Has=true then
                some (.inr (6,a0))
               else
                some (.inl (al,j,true))
              else none
             else
              some (.inl (al,j,true))):Option (Sum (a2×Int×Bool) (Int×aT))).bind fun o=>match o with
    | .inl (ay,U,az)=>((if az=true then
      if a0.ax<(af (U+2)) then
       some (.inr (10,a0))
      else
       some (.inl ay)
     else
      some (.inl ay)):Option (Sum a2 (Int×aT))).bind fun o=>match o with
     | .inl av=>if 0≤(0:Int)∧(0:Int)≤(af (U+1))∧(af (U+1))≤(a0.S.length:Int) then
      if ([]:List au).length+((a0.S.take (af (U+1)).toNat).drop (0:Int).toNat).length≤3518437208883 then
       ((if az=true then
         ((if (0:Int)≤U then
           if 0≤U∧U<((([]:List au)++((a0.S.take (af (U+1)).toNat).drop (0:Int).toNat)).length:Int) then
            ((([]:List au)++((a0.S.take (af (U+1)).toNat).drop (0:Int).toNat))[U.toNat]?).bind fun a8=>
            if 0≤U∧U<((([]:List au)++((a0.S.take (af (U+1)).toNat).drop (0:Int).toNat)).length:Int) then
             ((([]:List au)++((a0.S.take (af (U+1)).toNat).drop (0:Int).toNat))[U.toNat]?).bind fun ao=>
             some (a0.Rows,a0.Doc,a0.aA,(([]:List au)++((a0.S.take (af (U+1)).toNat).drop (0:Int).toNat)).set U.toNat (⟨ao.Node,ao.Kind,ao.aD,ao.bP,true⟩:au),a0.ax,a0.Read,av,a8.bP)
            else none
           else none
          else
           some (a0.Rows,a0.Doc,true,([]:List au)++((a0.S.take (af (U+1)).toNat).drop (0:Int).toNat),a0.ax,a0.Read,av,a0.Doc)):Option ((List an)×Int×Bool×(List au)×Int×Int×a2×Int)).bind fun o=>match o with
          | (a9,ba,bb,aB,bc,bd,ai,bf)=>(ek F a0.R bf ae ai.ah ai.To).bind fun aw=>
          if aB.length+[(⟨aw.1,ae,ai.aD,0,false⟩:au)].length≤3518437208883 then
           some (aw.2,a9,ba,bb,aB++[(⟨aw.1,ae,ai.aD,0,false⟩:au)],bc,bd,ai)
          else none
        else
         some (a0.R,a0.Rows,a0.Doc,a0.aA,([]:List au)++((a0.S.take (af (U+1)).toNat).drop (0:Int).toNat),a0.ax,a0.Read,av)):Option (aL×(List an)×Int×Bool×(List au)×Int×Int×a2)).bind fun o=>match o with
        | (aC,aE,aF,aG,J,aH,aI,aj)=>if 0≤(af ((J.length:Int) - 1))∧(af ((J.length:Int) - 1))<(J.length:Int) then
         (J[(af ((J.length:Int) - 1)).toNat]?).bind fun I=>
         ((if aj.ik=true then
           ((J.set (af ((J.length:Int) - 1)).toNat (⟨I.Node,I.Kind,I.aD,I.bP,false⟩:au))[(af ((J.length:Int) - 1)).toNat]?).bind fun bg=>
           (ek F aC bg.Node 4 aj.ah aj.To).bind fun aJ=>
           ((J.set (af ((J.length:Int) - 1)).toNat (⟨I.Node,I.Kind,I.aD,I.bP,false⟩:au))[(af ((J.length:Int) - 1)).toNat]?).bind fun aq=>
           some (aJ.2,aE,aF,aG,(J.set (af ((J.length:Int) - 1)).toNat (⟨I.Node,I.Kind,I.aD,I.bP,false⟩:au)).set (af ((J.length:Int) - 1)).toNat (⟨aq.Node,aq.Kind,aq.aD,aJ.1,aq.Has⟩:au),aH,aI)
          else
           ((J.set (af ((J.length:Int) - 1)).toNat (⟨I.Node,I.Kind,I.aD,I.bP,false⟩:au))[(af ((J.length:Int) - 1)).toNat]?).bind fun bh=>
           (l8 F aC bh.Node aj.ah aj.To).bind fun aK=>
           ((J.set (af ((J.length:Int) - 1)).toNat (⟨I.Node,I.Kind,I.aD,I.bP,false⟩:au))[(af ((J.length:Int) - 1)).toNat]?).bind fun ar=>
           some (aK.2,aE,aF,aG,(J.set (af ((J.length:Int) - 1)).toNat (⟨I.Node,I.Kind,I.aD,I.bP,false⟩:au)).set (af ((J.length:Int) - 1)).toNat (⟨ar.Node,ar.Kind,ar.aD,aK.1,ar.Has⟩:au),aH,aI)):Option (aL×(List an)×Int×Bool×(List au)×Int×Int)).bind fun o=>match o with
          | (bj,bk,bl,bm,bn,bo,bp)=>some (0,(⟨bj,bk,bl,bm,bn,bo,bp⟩:aT))
        else none
      else none
     else none
     | .inr y=>some y
    | .inr y=>some y
theorem AG (F:Nat) {h:AH} {Z:Zn} {a0:aT} {a1:a2} {I ab v4 v6 ao aE v11 aF J aL} (hP:Pre Z h [.ae I [Pt ab 0,v11,V a0.Doc, .bool a0.aA,J,V a0.ax,V a0.Read], .ae ab (ay v4 v6 ao a0.R), .gs ao aE (aa aj), .gs v11 aF (aa an), .gs J aL (aa au)]) (ca:RS (α:=ak) Z v4 a0.R.L) (cb:RS (α:=aq) Z v6 a0.R.T.al) (cc:RCs (α:=aj) Z aE a0.R.D) (bT:RCs (α:=an) Z aF a0.Rows) (az:RCs (α:=au) Z aL a0.S) {r:Int×aT} (hm:correctorref12_parser_place F a0 a1=some r):
  bQ Try.prog 72 [Pt I 0, .agg #[.bool a1.ik,V a1.aD,V a1.ah,V a1.To]] h Z [.ae I [Pt ab 0,v11,V a0.Doc, .bool a0.aA,J,V a0.ax,V a0.Read], .ae ab (ay v4 v6 ao a0.R), .gs ao aE (aa aj), .gs v11 aF (aa an), .gs J aL (aa au)] fun v Z' A'=>∃ fe ff fg fh fi fj,V r.1=v∧A'=[.ae I [Pt ab 0,v11,V r.2.Doc, .bool r.2.aA,fi,V r.2.ax,V r.2.Read], .ae ab (ay fe ff ao r.2.R), .gs ao fg (aa aj), .gs v11 fh (aa an), .gs fi fj (aa au)]∧RS (α:=ak) Z' fe r.2.R.L∧RS (α:=aq) Z' ff r.2.R.T.al∧RCs (α:=aj) Z' fg r.2.R.D∧RCs (α:=an) Z' fh r.2.Rows∧RCs (α:=au) Z' fj r.2.S:=by
 refine b5 Try.func72 hP ?_
 intro hs hS
 unfold correctorref12_parser_place at hm
 refine s0<|df 0 [.bool a1.ik,V a1.aD,V a1.ah,V a1.To] hS ?_
 intro fk jg dZ
 refine xn 1<|sp 1<|sq ?_
 obtain ⟨gK,ds,hm⟩:=ai hm
 refine aI [0,3,5] (fun l h=>∃ fl du dx dy,(du,dx)=gK∧l=[(0,Pt I 0),(3,Pt dy 0),(5,V dx)]∧St hs (aR [.ae I [Pt ab 0,v11,V a0.Doc, .bool a0.aA,J,V a0.ax,V a0.Read], .ae ab (ay v4 v6 ao a0.R), .gs ao aE (aa aj), .gs v11 aF (aa an), .gs J aL (aa au)]) Z (0,0) fl h [.ae I [Pt ab 0,v11,V a0.Doc, .bool a0.aA,J,V a0.ax,V a0.Read], .ae ab (ay v4 v6 ao a0.R), .gs ao aE (aa aj), .gs v11 aF (aa an), .gs J aL (aa au), .ae dy (eC du)]) ?_ ?_
 rintro l jh ⟨fl,du,dx,dy,rfl,rfl,dz⟩
 try dsimp only at hm
 refine s0<|aB 3 0 J dz rfl<|bG 0 J (dz.da (i:=4) rfl (az.mono dz.ag))<|xn 2<|sq ?_
 obtain ⟨ea,bc,hm⟩:=ai hm
 refine aI [0,3,5,6] (fun l h=>∃ fm bU ad U aX,(bU,ad,U)=ea∧l=[(0,Pt I 0),(3,Pt aX 0),(5,V ad),(6,V U)]∧St hs (aR [.ae I [Pt ab 0,v11,V a0.Doc, .bool a0.aA,J,V a0.ax,V a0.Read], .ae ab (ay v4 v6 ao a0.R), .gs ao aE (aa aj), .gs v11 aF (aa an), .gs J aL (aa au)]) Z (0,0) fm h [.ae I [Pt ab 0,v11,V a0.Doc, .bool a0.aA,J,V a0.ax,V a0.Read], .ae ab (ay v4 v6 ao a0.R), .gs ao aE (aa aj), .gs v11 aF (aa an), .gs J aL (aa au), .ae aX (eC bU)]) ?_ ?_
 rintro l ji ⟨fm,bU,ad,U,aX,rfl,rfl,cl⟩
 try dsimp only at hm
 refine sp 1<|sq ?_
 obtain ⟨gL,ar,hm⟩:=ai hm
 refine aI [0,3,5,6,7] (fun l h=>∃ fo cY bl cI c0, .inl (cY,bl,cI)=gL∧l=[(0,Pt I 0),(3,Pt c0 0),(5,V ad),(6,V bl),(7, .bool cI)]∧St hs (aR [.ae I [Pt ab 0,v11,V a0.Doc, .bool a0.aA,J,V a0.ax,V a0.Read], .ae ab (ay v4 v6 ao a0.R), .gs ao aE (aa aj), .gs v11 aF (aa an), .gs J aL (aa au)]) Z (0,0) fo h [.ae I [Pt ab 0,v11,V a0.Doc, .bool a0.aA,J,V a0.ax,V a0.Read], .ae ab (ay v4 v6 ao a0.R), .gs ao aE (aa aj), .gs v11 aF (aa an), .gs J aL (aa au), .ae c0 (eC cY)]) ?_ ?_
 rintro l jj ⟨fo,cY,bl,cI,c0,rfl,rfl,bV⟩
 try dsimp only at hm
 refine sq ?_
 obtain ⟨gM,cn,hm⟩:=ai hm
 refine aI [0,3,5,6,7] (fun l h=>∃ eb cK bW, .inl cK=gM∧l=[(0,Pt I 0),(3,Pt bW 0),(5,V ad),(6,V bl),(7, .bool cI)]∧St hs (aR [.ae I [Pt ab 0,v11,V a0.Doc, .bool a0.aA,J,V a0.ax,V a0.Read], .ae ab (ay v4 v6 ao a0.R), .gs ao aE (aa aj), .gs v11 aF (aa an), .gs J aL (aa au)]) Z (0,0) eb h [.ae I [Pt ab 0,v11,V a0.Doc, .bool a0.aA,J,V a0.ax,V a0.Read], .ae ab (ay v4 v6 ao a0.R), .gs ao aE (aa aj), .gs v11 aF (aa an), .gs J aL (aa au), .ae bW (eC cK)]) ?_ ?_
 rintro l jk ⟨eb,cK,bW,rfl,rfl,cd⟩
 try dsimp only at hm
 refine sr yz<|xq 1 [(183,Pt I 0),(0,Pt I 0),(3,Pt bW 0),(5,V ad),(6,V bl),(7, .bool cI)] ?_
 have gN:RCs (α:=au) eb [] []:=RCs.br _
 refine dP rfl trivial (cX (cells:=[]) (s:=5) (by kernel_rfl)) (by kernel_rfl) cd ?_
 intro gP jm fp
 refine aB 3 1 J fp rfl<|xq 2 [(190,V (af (bl+1))),(188,J),(184,gP),(183,Pt I 0),(0,Pt I 0),(3,Pt bW 0),(5,V ad),(6,V bl),(7, .bool cI)] ?_
 obtain ⟨jn,cq,gQ,fq⟩:=(fp.front 5 rfl).freeze (az.mono cd.ag)
 obtain ⟨ed,hm⟩:=aK hm
 refine jS rfl trivial (iP (a:=0) (b:=af (bl+1)) gQ rfl (by kernel_rfl:slTy _ _=some (aa au)) rfl ⟨_,rfl⟩ ed.1 ed.2.1 ed.2.2) ?_
 intro jq gR
 obtain ⟨jr,gS⟩:=RS.news gR (fq).inv
 obtain ⟨js,hm⟩:=aK hm
 refine eS rfl trivial (dG (ys:=(a0.S.take (af (bl+1)).toNat).drop (0:Int).toNat) (bS:=40) fq (i:=0) rfl (gN.mono cq) gS rfl rfl (by kernel_rfl) (by omega) (by omega)) ?_
 rintro bJ fr jt ⟨cr,eg⟩
 refine bA 2 1 bJ [bJ] [Pt ab 0,v11,V a0.Doc, .bool a0.aA,bJ,V a0.ax,V a0.Read] eg rfl (eg.fU (i:=0) rfl) (bt (eg.fO (i:=0) rfl) cp) ?_
 intro ju bN
 refine xn 0<|sq ?_
 obtain ⟨gT,bI,hm⟩:=ai hm
 refine aI [0,3] (fun l h=>∃ cu cf c3 bX bY aH bZ b0 a9 c4 c5 c6 b1 av eh aM,(cf,c3,bX,bY,aH,bZ,b0,a9)=gT∧RS (α:=ak) cu c4 cf.L∧RS (α:=aq) cu c5 cf.T.al∧RCs (α:=aj) cu c6 cf.D∧RCs (α:=an) cu b1 c3∧RCs (α:=au) cu eh aH∧l=[(0,Pt I 0),(3,Pt aM 0)]∧St hs (aR [.ae I [Pt ab 0,v11,V a0.Doc, .bool a0.aA,J,V a0.ax,V a0.Read], .ae ab (ay v4 v6 ao a0.R), .gs ao aE (aa aj), .gs v11 aF (aa an), .gs J aL (aa au)]) Z (0,0) cu h [.ae I [Pt ab 0,v11,V bX, .bool bY,av,V bZ,V b0], .ae ab (ay c4 c5 ao cf), .gs ao c6 (aa aj), .gs v11 b1 (aa an), .gs av eh (aa au), .ae aM (eC a9)]) ?_ ?_
 rintro l jv ⟨cu,cf,c3,bX,bY,aH,bZ,b0,a9,c4,c5,c6,b1,av,eh,aM,rfl,fs,ft,fu,fw,dA,rfl,gU⟩
 try dsimp only at hm
 refine cU zs gU ?_
 intro fx jw fy cw
 refine yq 3 [(246,Pt I 4),(0,Pt I 0),(3,Pt aM 0)] ?_
 have jx:I<fx:=fy.1 _ (List.mem_of_getElem? (i:=0) rfl) _ (by simp [Itm.ids])
 refine aW (v:=av) rfl trivial rfl (by show I<_;omega) (aC (v:=av) (cw.dv (i:=4) rfl)) (cw.aU (i:=0) rfl (by kernel_rfl)) trivial<|yq 3 [(250,Pt I 4),(247,av),(0,Pt I 0),(3,Pt aM 0)] ?_
 have jy:I<fx:=fy.1 _ (List.mem_of_getElem? (i:=0) rfl) _ (by simp [Itm.ids])
 refine aW (v:=av) rfl trivial rfl (by show I<_;omega) (aC (v:=av) (cw.dv (i:=4) rfl)) (cw.aU (i:=0) rfl (by kernel_rfl)) trivial<|aG rfl trivial (gO rfl (cw.da (i:=4) rfl dA) ⟨_,Try.underlying59⟩)<|yq 1 [(253,V (af ((aH.length:Int) - 1))),(247,av),(0,Pt I 0),(3,Pt aM 0)] ?_
 obtain ⟨fz,hm⟩:=aK hm
 refine aG rfl trivial (bF rfl rfl (by kernel_rfl:slTy _ _=some (aa au)) (cw.bK (j:=4) rfl dA (by omega)) fz.1 fz.2)<|ye 1 [(9, .pointer (some (bj av (af ((aH.length:Int) - 1)) (aa au) 0))),(0,Pt I 0),(3,Pt aM 0)] ?_
 have fA:=cw.a5
 refine sr EL<|xq 3 [(257, .pointer (some (bj av (af ((aH.length:Int) - 1)) (aa au) 4))),(9, .pointer (some (bj av (af ((aH.length:Int) - 1)) (aa au) 0))),(0,Pt I 0),(3,Pt aM 0)] ?_
 obtain ⟨bg,fB,hm⟩:=ai hm
 obtain ⟨jz,gV,jA,gW⟩:=fA.cm (j:=4) rfl dA (i:=af ((aH.length:Int) - 1)) fB
 obtain rfl:=ec gV
 refine nP rfl trivial (gz (u':=(⟨bg.Node,bg.Kind,bg.aD,bg.bP,false⟩:au)) (vs:=[.bool false]) (aZ:=[V bg.Node,V bg.Kind,V bg.aD,V bg.bP, .bool false]) fA (m:=4) rfl dA fB gW rfl rfl rfl (by kernel_rfl) rfl rfl rfl rfl) ?_
 rintro jB dB ⟨cg,ei⟩
 refine xn 0<|sq<|s0<|aB 1 5 (.bool a9.ik) ei rfl<|xn 0 ?_
 obtain ⟨gX,bh,hm⟩:=ai hm
 refine aI [] (fun l h=>∃ cx cL ej ek en eo ep er dD dE dH dI dJ dK,(cL,ej,ek,en,eo,ep,er)=gX∧RS (α:=ak) cx dD cL.L∧RS (α:=aq) cx dE cL.T.al∧RCs (α:=aj) cx dH cL.D∧RCs (α:=an) cx dI ej∧RCs (α:=au) cx dK eo∧l=[]∧St hs (aR [.ae I [Pt ab 0,v11,V a0.Doc, .bool a0.aA,J,V a0.ax,V a0.Read], .ae ab (ay v4 v6 ao a0.R), .gs ao aE (aa aj), .gs v11 aF (aa an), .gs J aL (aa au)]) Z (0,0) cx h [.ae I [Pt ab 0,v11,V ek, .bool en,dJ,V ep,V er], .ae ab (ay dD dE ao cL), .gs ao dH (aa aj), .gs v11 dI (aa an), .gs dJ dK (aa au)]) ?_ ?_
 rintro l jD ⟨cx,cL,ej,ek,en,eo,ep,er,dD,dE,dH,dI,dJ,dK,rfl,gY,gZ,g1,g2,g3,rfl,g4⟩
 try dsimp only at hm
 refine sp 1<|rt<|⟨rfl,?_⟩
 obtain rfl:=si hm
 refine ⟨_,_,_,tk (V 0) (ResL.nil),g4,?_⟩
 exact ⟨dD,dE,dH,dI,dJ,dK,rfl,rfl,gY,gZ,g1,g2,g3⟩
 refine db bh ?_ ?_<;>intro jE bh
 refine ee yw ei ?_
 intro dL jF dM cM
 refine yq 4 [(263,Pt I 0),(260, .pointer (some (bj av (af ((aH.length:Int) - 1)) (aa au) 0))),(9, .pointer (some (bj av (af ((aH.length:Int) - 1)) (aa au) 0))),(3,Pt aM 0)] ?_
 have jG:I<dL:=dM.1 _ (List.mem_of_getElem? (i:=0) rfl) _ (by simp [Itm.ids])
 refine aW (v:=Pt ab 0) rfl trivial rfl (by show I<_;omega) (aC (v:=Pt ab 0) trivial) (cM.aU (i:=0) rfl (by kernel_rfl)) trivial<|yq 3 [(267, .pointer (some (bj av (af ((aH.length:Int) - 1)) (aa au) 0))),(264,Pt ab 0),(260, .pointer (some (bj av (af ((aH.length:Int) - 1)) (aa au) 0))),(3,Pt aM 0)] ?_
 obtain ⟨dN,fC,bh⟩:=ai bh
 obtain ⟨jH,g6,g7,jI⟩:=cM.cm (j:=4) rfl cg (i:=af ((aH.length:Int) - 1)) fC
 obtain rfl:=ec g6
 have g8:=dw fC
 have fD:=cM.bK (j:=4) rfl cg g8
 have jJ:(baseOf av).block<dL:=dn (dM.1 _ (List.mem_of_getElem? (i:=4) rfl)) fD
 refine di rfl trivial rfl (by show (baseOf av).block<_;omega) (aC (v:=V dN.Node) trivial) (bL (w:=V dN.Node) g7 rfl (by kernel_rfl)) trivial<|yq 1 [(269,Pt aM 2),(268,V dN.Node),(264,Pt ab 0),(260, .pointer (some (bj av (af ((aH.length:Int) - 1)) (aa au) 0))),(3,Pt aM 0)] ?_
 have jK:aM<dL:=dM.1 _ (List.mem_of_getElem? (i:=5) rfl) _ (by simp [Itm.ids])
 refine aW (v:=V a9.ah) rfl trivial rfl (by show aM<_;omega) (aC (v:=V a9.ah) trivial) (cM.aU (i:=5) rfl (by kernel_rfl)) trivial<|yq 1 [(271,Pt aM 3),(270,V a9.ah),(268,V dN.Node),(264,Pt ab 0),(260, .pointer (some (bj av (af ((aH.length:Int) - 1)) (aa au) 0)))] ?_
 have jL:aM<dL:=dM.1 _ (List.mem_of_getElem? (i:=5) rfl) _ (by simp [Itm.ids])
 refine aW (v:=V a9.To) rfl trivial rfl (by show aM<_;omega) (aC (v:=V a9.To) trivial) (cM.aU (i:=5) rfl (by kernel_rfl)) trivial ?_
 obtain ⟨cy,g9,bh⟩:=ai bh
 have cP:St _ _ _ _ _ _ ([.ae ab (ay c4 c5 ao cf), .gs ao c6 (aa aj)]++[.ae I [Pt ab 0,v11,V bX, .bool bY,av,V bZ,V b0], .gs v11 b1 (aa an), .gs av dB (aa au), .ae aM (eC a9)]):=((cM.front 2 rfl).front 2 rfl)
 obtain ⟨jM,jN,jO,jP,ha,fE,fH,fI,fJ,rfl,rfl,hb,hc,hf⟩:=fT F cP.cJ.eE fs ft fu g9
 have c7:=fE.ag
 refine fG rfl trivial cP (dg ha rfl rfl rfl) fE c7 (.a3 (cP.bH 3 rfl bM) (.a3 (cP.bH 3 rfl bM) (.a3 (cP.bH 2 rfl (km fD)) (.a3 (cP.bH 0 rfl bM) .nil)))) ?_
 intro jQ fK
 refine yq 2 [(275, .pointer (some (bj av (af ((aH.length:Int) - 1)) (aa au) 3))),(273,V cy.1)] ?_
 obtain ⟨bB,fL,bh⟩:=ai bh
 obtain ⟨jR,hg,jT,hh⟩:=fK.cm (j:=4) rfl (cg.mono c7) (i:=af ((aH.length:Int) - 1)) fL
 obtain rfl:=ec hg
 have c8:St _ _ _ _ _ _ ([.gs av dB (aa au)]++[.ae ab (ay fH fI ao cy.2), .gs ao fJ (aa aj), .ae I [Pt ab 0,v11,V bX, .bool bY,av,V bZ,V b0], .gs v11 b1 (aa an), .ae aM (eC a9)]):=(fK.front 4 rfl)
 refine kg rfl trivial c8 (gz (u':=(⟨bB.Node,bB.Kind,bB.aD,cy.1,bB.Has⟩:au)) (vs:=[V cy.1]) (aZ:=[V bB.Node,V bB.Kind,V bB.aD,V cy.1, .bool bB.Has]) c8.sub (m:=0) rfl (cg.mono c7) fL hh rfl rfl rfl (by kernel_rfl) rfl rfl rfl rfl) c7 (.a3 (c8.bH 4 rfl bM) (.a3 (c8.bH 4 rfl bM) (.drop (by decide) (.a3 (c8.bH 2 rfl bM) .nil)))) ?_
 rintro jU hi ⟨hj,hk⟩
 refine yf [] ?_
 have hl:=hk.a5
 obtain rfl:=si bh
 exact ⟨_,cy.2,c3,bX,bY,(aH.set (af ((aH.length:Int) - 1)).toNat (⟨bg.Node,bg.Kind,bg.aD,bg.bP,false⟩:au)).set (af ((aH.length:Int) - 1)).toNat (⟨bB.Node,bB.Kind,bB.aD,cy.1,bB.Has⟩:au),bZ,b0,fH,fI,fJ,b1,av,hi,rfl,hb,hc,hf,(fw.mono c7),hj,(by kernel_rfl),((((((hl.front 0 rfl).front 4 rfl).front 3 rfl).front 3 rfl).front 4 rfl).takeN 5)⟩
 refine ee yK ei ?_
 intro dO jV dQ cQ
 refine yq 4 [(279,Pt I 0),(276, .pointer (some (bj av (af ((aH.length:Int) - 1)) (aa au) 0))),(9, .pointer (some (bj av (af ((aH.length:Int) - 1)) (aa au) 0))),(3,Pt aM 0)] ?_
 have jW:I<dO:=dQ.1 _ (List.mem_of_getElem? (i:=0) rfl) _ (by simp [Itm.ids])
 refine aW (v:=Pt ab 0) rfl trivial rfl (by show I<_;omega) (aC (v:=Pt ab 0) trivial) (cQ.aU (i:=0) rfl (by kernel_rfl)) trivial<|yq 3 [(283, .pointer (some (bj av (af ((aH.length:Int) - 1)) (aa au) 0))),(280,Pt ab 0),(276, .pointer (some (bj av (af ((aH.length:Int) - 1)) (aa au) 0))),(3,Pt aM 0)] ?_
 obtain ⟨dR,fM,bh⟩:=ai bh
 obtain ⟨jX,hn,ho,jY⟩:=cQ.cm (j:=4) rfl cg (i:=af ((aH.length:Int) - 1)) fM
 obtain rfl:=ec hn
 have hp:=dw fM
 have fN:=cQ.bK (j:=4) rfl cg hp
 have jZ:(baseOf av).block<dO:=dn (dQ.1 _ (List.mem_of_getElem? (i:=4) rfl)) fN
 refine di rfl trivial rfl (by show (baseOf av).block<_;omega) (aC (v:=V dR.Node) trivial) (bL (w:=V dR.Node) ho rfl (by kernel_rfl)) trivial<|yq 1 [(285,Pt aM 2),(284,V dR.Node),(280,Pt ab 0),(276, .pointer (some (bj av (af ((aH.length:Int) - 1)) (aa au) 0))),(3,Pt aM 0)] ?_
 have j0:aM<dO:=dQ.1 _ (List.mem_of_getElem? (i:=5) rfl) _ (by simp [Itm.ids])
 refine aW (v:=V a9.ah) rfl trivial rfl (by show aM<_;omega) (aC (v:=V a9.ah) trivial) (cQ.aU (i:=5) rfl (by kernel_rfl)) trivial<|yq 1 [(287,Pt aM 3),(286,V a9.ah),(284,V dR.Node),(280,Pt ab 0),(276, .pointer (some (bj av (af ((aH.length:Int) - 1)) (aa au) 0)))] ?_
 have j1:aM<dO:=dQ.1 _ (List.mem_of_getElem? (i:=5) rfl) _ (by simp [Itm.ids])
 refine aW (v:=V a9.To) rfl trivial rfl (by show aM<_;omega) (aC (v:=V a9.To) trivial) (cQ.aU (i:=5) rfl (by kernel_rfl)) trivial ?_
 obtain ⟨cA,hq,bh⟩:=ai bh
 have cR:St _ _ _ _ _ _ ([.ae ab (ay c4 c5 ao cf), .gs ao c6 (aa aj)]++[.ae I [Pt ab 0,v11,V bX, .bool bY,av,V bZ,V b0], .gs v11 b1 (aa an), .gs av dB (aa au), .ae aM (eC a9)]):=((cQ.front 2 rfl).front 2 rfl)
 obtain ⟨j2,j3,j4,j5,hr,fP,fQ,fR,fS,rfl,rfl,ht,hv,hx⟩:=r9 F cR.cJ.eE fs ft fu hq
 have c9:=fP.ag
 refine fG rfl trivial cR (dg hr rfl rfl rfl) fP c9 (.a3 (cR.bH 3 rfl bM) (.a3 (cR.bH 3 rfl bM) (.a3 (cR.bH 2 rfl (km fN)) (.a3 (cR.bH 0 rfl bM) .nil)))) ?_
 intro j6 fV
 refine yq 2 [(291, .pointer (some (bj av (af ((aH.length:Int) - 1)) (aa au) 3))),(289,V cA.1)] ?_
 obtain ⟨bC,fW,bh⟩:=ai bh
 obtain ⟨j7,hy,j8,hz⟩:=fV.cm (j:=4) rfl (cg.mono c9) (i:=af ((aH.length:Int) - 1)) fW
 obtain rfl:=ec hy
 have dc:St _ _ _ _ _ _ ([.gs av dB (aa au)]++[.ae ab (ay fQ fR ao cA.2), .gs ao fS (aa aj), .ae I [Pt ab 0,v11,V bX, .bool bY,av,V bZ,V b0], .gs v11 b1 (aa an), .ae aM (eC a9)]):=(fV.front 4 rfl)
 refine kg rfl trivial dc (gz (u':=(⟨bC.Node,bC.Kind,bC.aD,cA.1,bC.Has⟩:au)) (vs:=[V cA.1]) (aZ:=[V bC.Node,V bC.Kind,V bC.aD,V cA.1, .bool bC.Has]) dc.sub (m:=0) rfl (cg.mono c9) fW hz rfl rfl rfl (by kernel_rfl) rfl rfl rfl rfl) c9 (.a3 (dc.bH 4 rfl bM) (.a3 (dc.bH 4 rfl bM) (.drop (by decide) (.a3 (dc.bH 2 rfl bM) .nil)))) ?_
 rintro j9 hA ⟨hB,hC⟩
 refine yf [] ?_
 have hD:=hC.a5
 obtain rfl:=si bh
 exact ⟨_,cA.2,c3,bX,bY,(aH.set (af ((aH.length:Int) - 1)).toNat (⟨bg.Node,bg.Kind,bg.aD,bg.bP,false⟩:au)).set (af ((aH.length:Int) - 1)).toNat (⟨bC.Node,bC.Kind,bC.aD,cA.1,bC.Has⟩:au),bZ,b0,fQ,fR,fS,b1,av,hA,rfl,ht,hv,hx,(fw.mono c9),hB,(by kernel_rfl),((((((hD.front 0 rfl).front 4 rfl).front 3 rfl).front 3 rfl).front 4 rfl).takeN 5)⟩
 refine sp 1<|db bI ?_ ?_<;>intro ka bI
 refine s0<|aB 3 1 (V a0.Doc) bN rfl<|xn 1<|sq ?_
 obtain ⟨hE,bD,bI⟩:=ai bI
 refine aI [0,3,5,8] (fun l h=>∃ dS dU b2 b3 dV b4 b6 aY cB cC bm dd aV,(dU,b2,b3,dV,b4,b6,aY,cB)=hE∧RCs (α:=an) dS cC dU∧RCs (α:=au) dS dd dV∧l=[(0,Pt I 0),(3,Pt aV 0),(5,V ad),(8,V cB)]∧St hs (aR [.ae I [Pt ab 0,v11,V a0.Doc, .bool a0.aA,J,V a0.ax,V a0.Read], .ae ab (ay v4 v6 ao a0.R), .gs ao aE (aa aj), .gs v11 aF (aa an), .gs J aL (aa au)]) Z (0,0) dS h [.ae ab (ay v4 v6 ao a0.R), .gs ao aE (aa aj), .ae I [Pt ab 0,v11,V b2, .bool b3,bm,V b4,V b6], .gs v11 cC (aa an), .gs bm dd (aa au), .ae aV (eC aY)]) ?_ ?_
 rintro l kc ⟨dS,dU,b2,b3,dV,b4,b6,aY,cB,cC,bm,dd,aV,rfl,hF,hG,rfl,dW⟩
 try dsimp only at bI
 refine ee vL dW ?_
 intro de ke dh cS
 refine yq 4 [(223,Pt I 4),(220,Pt I 0),(0,Pt I 0),(3,Pt aV 0),(5,V ad),(8,V cB)] ?_
 have kf:I<de:=dh.1 _ (List.mem_of_getElem? (i:=2) rfl) _ (by simp [Itm.ids])
 refine aW (v:=bm) rfl trivial rfl (by show I<_;omega) (aC (v:=bm) (cS.dv (i:=4) rfl)) (cS.aU (i:=2) rfl (by kernel_rfl)) trivial<|yq 3 [(227,Pt I 0),(224,bm),(220,Pt I 0),(0,Pt I 0),(3,Pt aV 0),(5,V ad),(8,V cB)] ?_
 have kh:I<de:=dh.1 _ (List.mem_of_getElem? (i:=2) rfl) _ (by simp [Itm.ids])
 refine aW (v:=Pt ab 0) rfl trivial rfl (by show I<_;omega) (aC (v:=Pt ab 0) trivial) (cS.aU (i:=2) rfl (by kernel_rfl)) trivial<|yq 3 [(231,Pt aV 2),(230,V ad),(229,V cB),(228,Pt ab 0),(224,bm),(220,Pt I 0),(0,Pt I 0),(3,Pt aV 0),(5,V ad)] ?_
 have ki:aV<de:=dh.1 _ (List.mem_of_getElem? (i:=5) rfl) _ (by simp [Itm.ids])
 refine aW (v:=V aY.ah) rfl trivial rfl (by show aV<_;omega) (aC (v:=V aY.ah) trivial) (cS.aU (i:=5) rfl (by kernel_rfl)) trivial<|yq 1 [(233,Pt aV 3),(232,V aY.ah),(230,V ad),(229,V cB),(228,Pt ab 0),(224,bm),(220,Pt I 0),(0,Pt I 0),(3,Pt aV 0),(5,V ad)] ?_
 have kj:aV<de:=dh.1 _ (List.mem_of_getElem? (i:=5) rfl) _ (by simp [Itm.ids])
 refine aW (v:=V aY.To) rfl trivial rfl (by show aV<_;omega) (aC (v:=V aY.To) trivial) (cS.aU (i:=5) rfl (by kernel_rfl)) trivial ?_
 obtain ⟨bu,hH,bI⟩:=ai bI
 have cE:St _ _ _ _ _ _ ([.ae ab (ay v4 v6 ao a0.R), .gs ao aE (aa aj)]++[.ae I [Pt ab 0,v11,V b2, .bool b3,bm,V b4,V b6], .gs v11 cC (aa an), .gs bm dd (aa au), .ae aV (eC aY)]):=((cS.front 1 rfl).front 1 rfl)
 obtain ⟨kk,kl,hI,kn,hJ,fX,et,eu,ew,rfl,rfl,hK,hL,hM⟩:=fT F cE.cJ.eE (ca.mono dW.ag) (cb.mono dW.ag) (cc.mono dW.ag) hH
 have dj:=fX.ag
 refine fG rfl trivial cE (dg hJ rfl rfl rfl) fX dj (.a3 (cE.bH 3 rfl bM) (.a3 (cE.bH 3 rfl bM) (.a3 (cE.bH 0 rfl bM) (.a3 (cE.bH 0 rfl bM) .nil)))) ?_
 intro ko fY
 refine yq 2 [(237,Pt aV 1),(236,V ad),(235,V bu.1),(224,bm),(220,Pt I 0),(0,Pt I 0),(3,Pt aV 0)] ?_
 have kp:aV<de:=dh.1 _ (List.mem_of_getElem? (i:=5) rfl) _ (by simp [Itm.ids])
 refine aW (v:=V aY.aD) rfl trivial rfl (by show aV<_;omega) (aC (v:=V aY.aD) trivial) (fY.aU (i:=5) rfl (by kernel_rfl)) (.inl ⟨⟨by show aV<_;omega,cE.bH 3 rfl bM⟩,trivial⟩)<|yq 1 [(239, .agg #[V bu.1,V ad,V aY.aD,V 0, .bool false]),(224,bm),(220,Pt I 0),(0,Pt I 0),(3,Pt aV 0)] ?_
 have hN:RCs (α:=au) hI [V bu.1,V ad,V aY.aD,V 0, .bool false] [(⟨bu.1,ad,aY.aD,0,false⟩:au)]:=RCs.cons (cs:=[V bu.1,V ad,V aY.aD,V 0, .bool false]) rfl (RCs.br _)
 refine jo rfl trivial (cX (cells:=[V bu.1,V ad,V aY.aD,V 0, .bool false]) (s:=5) (by kernel_rfl)) (by kernel_rfl) fY (by omega) (Nat.add_lt_add_left (by decide) _) ?_
 intro fZ kq kr ks kt ga
 obtain ⟨ku,bI⟩:=aK bI
 have cF:St _ _ _ _ _ _ ([.gs bm dd (aa au)]++[.gs fZ [V bu.1,V ad,V aY.aD,V 0, .bool false] (aa au), .ae ab (ay et eu ao bu.2), .gs ao ew (aa aj), .ae I [Pt ab 0,v11,V b2, .bool b3,bm,V b4,V b6], .gs v11 cC (aa an), .ae aV (eC aY)]):=(ga.front 5 rfl)
 refine iz rfl trivial cF (dG (ys:=[(⟨bu.1,ad,aY.aD,0,false⟩:au)]) (bS:=40) cF.sub (i:=0) rfl (hG.mono dj) ((ga.cJ).eA (j:=0) rfl hN) rfl rfl (by kernel_rfl) (by omega) (by omega)) dj (.a3 (cF.bH 5 rfl bM) (.a3 (cF.bH 5 rfl bM) (.a3 (cF.bH 5 rfl bM) (.a3 (cF.bH 3 rfl bM) (.a3 (cF.bH 3 rfl bM) .nil))))) ?_
 rintro cT gb kv ⟨hO,ey⟩
 refine yq 2 [(243,Pt I 4),(241,cT),(0,Pt I 0),(3,Pt aV 0)] ?_
 have dk:St _ _ _ _ _ _ ([.ae I [Pt ab 0,v11,V b2, .bool b3,bm,V b4,V b6]]++[.gs cT gb (aa au), .gs fZ [V bu.1,V ad,V aY.aD,V 0, .bool false] (aa au), .ae ab (ay et eu ao bu.2), .gs ao ew (aa aj), .gs v11 cC (aa an), .ae aV (eC aY)]):=(ey.front 4 rfl)
 refine g5 rfl trivial dk (gv (vs:=[cT]) (cD:=[Pt ab 0,v11,V b2, .bool b3,cT,V b4,V b6]) (L':=[.ae I [Pt ab 0,v11,V b2, .bool b3,cT,V b4,V b6]]) dk.sub (i:=0) rfl rfl rfl (ey.fU (i:=0) rfl) (by kernel_rfl) (bt (ey.fO (i:=0) rfl) cp) rfl rfl rfl) dj (.a3 (dk.bH 5 rfl bM) (.a3 (dk.bH 5 rfl bM) (.a3 (dk.bH 5 rfl bM) (.drop (by decide) (.drop (by decide) .nil))))) ?_
 intro kx hQ
 refine yf [(0,Pt I 0),(3,Pt aV 0)] ?_
 have hR:=hQ.a5
 obtain rfl:=si bI
 exact ⟨_,bu.2,dU,b2,b3,dV++[(⟨bu.1,ad,aY.aD,0,false⟩:au)],b4,b6,aY,et,eu,ew,cC,cT,gb,aV,rfl,hK,hL,hM,(hF.mono dj),hO,(by kernel_rfl),(((((((hR.front 6 rfl).front 2 rfl).front 6 rfl).front 6 rfl).front 6 rfl).front 5 rfl).takeN 6)⟩
 refine s0<|ct 1 bD ?_ ?_<;>intro ky bD
 refine xn 0<|dT<|s0<|aB 3 1 bJ bN rfl<|eJ 1 0 bD bN cr rfl ?_
 intro kz bD
 refine fv 1 3 0 (fun dX=>V dX.bP) bD bN cr rfl ?_
 intro dX kA bD
 refine xn 1<|rg yQ<|aB 3 1 bJ bN rfl<|eJ 1 0 bD bN cr rfl ?_
 intro kB bD
 refine xq 1 [(216, .pointer (some (bj bJ bl (aa au) 4))),(8,V dX.bP),(0,Pt I 0),(3,Pt bW 0),(5,V ad)] ?_
 obtain ⟨bE,gd,bD⟩:=ai bD
 obtain ⟨kC,hT,kD,hU⟩:=bN.cm (j:=0) rfl cr (i:=bl) gd
 obtain rfl:=ec hT
 refine nP rfl trivial (gz (u':=(⟨bE.Node,bE.Kind,bE.aD,bE.bP,true⟩:au)) (vs:=[.bool true]) (aZ:=[V bE.Node,V bE.Kind,V bE.aD,V bE.bP, .bool true]) bN (m:=0) rfl cr gd hU rfl rfl rfl (by kernel_rfl) rfl rfl rfl rfl) ?_
 rintro kE hV ⟨hW,hX⟩
 refine xn 0 ?_
 obtain rfl:=si bD
 exact ⟨_,a0.Rows,a0.Doc,a0.aA,(([]:List au)++((a0.S.take (af (bl+1)).toNat).drop (0:Int).toNat)).set bl.toNat (⟨bE.Node,bE.Kind,bE.aD,bE.bP,true⟩:au),a0.ax,a0.Read,cK,dX.bP,aF,bJ,hV,bW,rfl,(bT.mono (cd.ag.trans cq)),hW,(by kernel_rfl),((((((hX.front 5 rfl).front 1 rfl).front 5 rfl).front 3 rfl).front 5 rfl).front 5 rfl)⟩
 refine xn 0<|dF<|g0<|bA 3 1 (.bool true) [.bool true] [Pt ab 0,v11,V a0.Doc, .bool true,bJ,V a0.ax,V a0.Read] bN rfl rfl rfl ?_
 intro kF hY
 refine xn 0 ?_
 obtain rfl:=si bD
 exact ⟨_,a0.Rows,a0.Doc,true,([]:List au)++((a0.S.take (af (bl+1)).toNat).drop (0:Int).toNat),a0.ax,a0.Read,cK,a0.Doc,aF,bJ,fr,bW,rfl,(bT.mono (cd.ag.trans cq)),cr,(by kernel_rfl),((((((hY.front 5 rfl).front 1 rfl).front 5 rfl).front 3 rfl).front 5 rfl).front 5 rfl)⟩
 refine sk ?_
 obtain rfl:=si bI
 exact ⟨_,a0.R,a0.Rows,a0.Doc,a0.aA,([]:List au)++((a0.S.take (af (bl+1)).toNat).drop (0:Int).toNat),a0.ax,a0.Read,cK,v4,v6,aE,aF,bJ,fr,bW,rfl,(ca.mono (cd.ag.trans cq)),(cb.mono (cd.ag.trans cq)),(cc.mono (cd.ag.trans cq)),(bT.mono (cd.ag.trans cq)),cr,(by kernel_rfl),((((((bN.front 5 rfl).front 1 rfl).front 5 rfl).front 5 rfl).front 5 rfl).front 5 rfl)⟩
 refine s0<|kb 2 174 cn ?_ ?_<;>intro kG cn
 refine aB 5 0 (V a0.ax) bV rfl<|cz 0 cn ?_ ?_<;>intro kH cn
 refine xn 1<|dT<|sp 1<|rt<|⟨rfl,?_⟩
 obtain rfl:=si cn
 obtain rfl:=si hm
 refine ⟨_,_,_,tk (V 10) (ResL.nil),(bV.takeN 5),?_⟩
 exact ⟨v4,v6,aE,aF,J,aL,rfl,rfl,(ca.mono bV.ag),(cb.mono bV.ag),(cc.mono bV.ag),(bT.mono bV.ag),(az.mono bV.ag)⟩
 refine xn 1<|dF<|sk ?_
 obtain rfl:=si cn
 exact ⟨_,cY,c0,rfl,(by kernel_rfl),bV⟩
 refine xn 8<|dF<|sk ?_
 obtain rfl:=si cn
 exact ⟨_,cY,c0,rfl,(by kernel_rfl),bV⟩
 refine bk 2<|sq ?_
 obtain ⟨hZ,a7,ar⟩:=ai ar
 refine aI [0,3,5,6,7,35] (fun l h=>∃ gf bO ez a8,(bO,ez)=hZ∧l=[(0,Pt I 0),(3,Pt a8 0),(5,V ad),(6,V U),(7, .bool true),(35, .bool ez)]∧St hs (aR [.ae I [Pt ab 0,v11,V a0.Doc, .bool a0.aA,J,V a0.ax,V a0.Read], .ae ab (ay v4 v6 ao a0.R), .gs ao aE (aa aj), .gs v11 aF (aa an), .gs J aL (aa au)]) Z (0,0) gf h [.ae I [Pt ab 0,v11,V a0.Doc, .bool a0.aA,J,V a0.ax,V a0.Read], .ae ab (ay v4 v6 ao a0.R), .gs ao aE (aa aj), .gs v11 aF (aa an), .gs J aL (aa au), .ae a8 (eC bO)]) ?_ ?_
 rintro l kI ⟨gf,bO,ez,a8,rfl,rfl,dm⟩
 try dsimp only at ar
 refine db ar ?_ ?_<;>intro kJ ar
 refine gp 1 ?_
 obtain rfl:=si ar
 exact ⟨_,bO,U,false,a8,rfl,(by kernel_rfl),dm⟩
 refine sq ?_
 obtain ⟨h2,bd,ar⟩:=ai ar
 refine aI [0,3,5,6,7,63] (fun l h=>∃ gg bx eB aJ,(bx,eB)=h2∧l=[(0,Pt I 0),(3,Pt aJ 0),(5,V ad),(6,V U),(7, .bool true),(63, .bool eB)]∧St hs (aR [.ae I [Pt ab 0,v11,V a0.Doc, .bool a0.aA,J,V a0.ax,V a0.Read], .ae ab (ay v4 v6 ao a0.R), .gs ao aE (aa aj), .gs v11 aF (aa an), .gs J aL (aa au)]) Z (0,0) gg h [.ae I [Pt ab 0,v11,V a0.Doc, .bool a0.aA,J,V a0.ax,V a0.Read], .ae ab (ay v4 v6 ao a0.R), .gs ao aE (aa aj), .gs v11 aF (aa an), .gs J aL (aa au), .ae aJ (eC bx)]) ?_ ?_
 rintro l kK ⟨gg,bx,eB,aJ,rfl,rfl,a4⟩
 try dsimp only at ar
 refine db ar ?_ ?_<;>intro kL ar
 refine s0<|aB 3 0 J a4 rfl<|eJ 1 4 ar a4 (az.mono a4.ag) rfl ?_
 intro kM ar
 refine fv 1 4 4 (fun gh=> .bool gh.Has) ar a4 (az.mono a4.ag) rfl ?_
 intro gh kN ar
 refine xn 0<|db ar ?_ ?_<;>intro kO ar
 refine sp 1<|rt<|bw<|⟨rfl,?_⟩
 obtain rfl:=si ar
 obtain rfl:=si hm
 refine ⟨_,_,_,tk (V 5) (ResL.nil),(a4.takeN 5),?_⟩
 exact ⟨v4,v6,aE,aF,J,aL,rfl,rfl,(ca.mono a4.ag),(cb.mono a4.ag),(cc.mono a4.ag),(bT.mono a4.ag),(az.mono a4.ag)⟩
 refine sk ?_
 obtain rfl:=si ar
 exact ⟨_,bx,U,true,aJ,rfl,(by kernel_rfl),a4⟩
 refine sq ?_
 obtain ⟨h3,aO,ar⟩:=ai ar
 refine aI [0,3,5,6,7,91] (fun l h=>∃ gi b7 eD ba,(b7,eD)=h3∧l=[(0,Pt I 0),(3,Pt ba 0),(5,V ad),(6,V U),(7, .bool true),(91, .bool eD)]∧St hs (aR [.ae I [Pt ab 0,v11,V a0.Doc, .bool a0.aA,J,V a0.ax,V a0.Read], .ae ab (ay v4 v6 ao a0.R), .gs ao aE (aa aj), .gs v11 aF (aa an), .gs J aL (aa au)]) Z (0,0) gi h [.ae I [Pt ab 0,v11,V a0.Doc, .bool a0.aA,J,V a0.ax,V a0.Read], .ae ab (ay v4 v6 ao a0.R), .gs ao aE (aa aj), .gs v11 aF (aa an), .gs J aL (aa au), .ae ba (eC b7)]) ?_ ?_
 rintro l kP ⟨gi,b7,eD,ba,rfl,rfl,dp⟩
 try dsimp only at ar
 refine db ar ?_ ?_<;>intro kQ ar
 refine sp 3<|gp 1 ?_
 obtain rfl:=si ar
 exact ⟨_,b7,af (U - 1),false,ba,rfl,(by kernel_rfl),dp⟩
 refine sq ?_
 obtain ⟨h4,bz,ar⟩:=ai ar
 refine aI [0,3,5,6,7,135] (fun l h=>∃ gj cG eF cH,(cG,eF)=h4∧l=[(0,Pt I 0),(3,Pt cH 0),(5,V ad),(6,V U),(7, .bool true),(135, .bool eF)]∧St hs (aR [.ae I [Pt ab 0,v11,V a0.Doc, .bool a0.aA,J,V a0.ax,V a0.Read], .ae ab (ay v4 v6 ao a0.R), .gs ao aE (aa aj), .gs v11 aF (aa an), .gs J aL (aa au)]) Z (0,0) gj h [.ae I [Pt ab 0,v11,V a0.Doc, .bool a0.aA,J,V a0.ax,V a0.Read], .ae ab (ay v4 v6 ao a0.R), .gs ao aE (aa aj), .gs v11 aF (aa an), .gs J aL (aa au), .ae cH (eC cG)]) ?_ ?_
 rintro l kR ⟨gj,cG,eF,cH,rfl,rfl,aw⟩
 try dsimp only at ar
 refine db ar ?_ ?_<;>intro kS ar
 refine sp 1<|rt<|bw<|⟨rfl,?_⟩
 obtain rfl:=si ar
 obtain rfl:=si hm
 refine ⟨_,_,_,tk (V 5) (ResL.nil),(aw.takeN 5),?_⟩
 exact ⟨v4,v6,aE,aF,J,aL,rfl,rfl,(ca.mono aw.ag),(cb.mono aw.ag),(cc.mono aw.ag),(bT.mono aw.ag),(az.mono aw.ag)⟩
 refine s0<|aP 1 ar ?_ ?_<;>intro kT ar
 refine aB 4 0 (.bool a0.aA) aw rfl<|xn 2<|db ar ?_ ?_<;>intro kU ar
 refine sp 1<|rt<|bw<|⟨rfl,?_⟩
 obtain rfl:=si ar
 obtain rfl:=si hm
 refine ⟨_,_,_,tk (V 7) (ResL.nil),(aw.takeN 5),?_⟩
 exact ⟨v4,v6,aE,aF,J,aL,rfl,rfl,(ca.mono aw.ag),(cb.mono aw.ag),(cc.mono aw.ag),(bT.mono aw.ag),(az.mono aw.ag)⟩
 refine s0<|ct 1 ar ?_ ?_<;>intro kV ar
 refine aB 4 0 J aw rfl<|eJ 1 4 ar aw (az.mono aw.ag) rfl ?_
 intro kW ar
 refine fv 1 4 4 (fun gk=> .bool gk.Has) ar aw (az.mono aw.ag) rfl ?_
 intro gk kX ar
 refine xn 2<|db ar ?_ ?_<;>intro kY ar
 refine sp 1<|rt<|bw<|⟨rfl,?_⟩
 obtain rfl:=si ar
 obtain rfl:=si hm
 refine ⟨_,_,_,tk (V 6) (ResL.nil),(aw.takeN 5),?_⟩
 exact ⟨v4,v6,aE,aF,J,aL,rfl,rfl,(ca.mono aw.ag),(cb.mono aw.ag),(cc.mono aw.ag),(bT.mono aw.ag),(az.mono aw.ag)⟩
 refine sk ?_
 obtain rfl:=si ar
 exact ⟨_,cG,U,true,cH,rfl,(by kernel_rfl),aw⟩
 refine xn 11<|dF<|sk ?_
 obtain rfl:=si ar
 exact ⟨_,cG,U,true,cH,rfl,(by kernel_rfl),aw⟩
 refine xn 7<|dF<|s0<|ct 1 ar ?_ ?_<;>intro kZ ar
 refine aB 4 0 J aw rfl<|eJ 1 4 ar aw (az.mono aw.ag) rfl ?_
 intro k0 ar
 refine fv 1 4 4 (fun gl=> .bool gl.Has) ar aw (az.mono aw.ag) rfl ?_
 intro gl k1 ar
 refine xn 2<|db ar ?_ ?_<;>intro k2 ar
 refine sp 1<|rt<|bw<|⟨rfl,?_⟩
 obtain rfl:=si ar
 obtain rfl:=si hm
 refine ⟨_,_,_,tk (V 6) (ResL.nil),(aw.takeN 5),?_⟩
 exact ⟨v4,v6,aE,aF,J,aL,rfl,rfl,(ca.mono aw.ag),(cb.mono aw.ag),(cc.mono aw.ag),(bT.mono aw.ag),(az.mono aw.ag)⟩
 refine sk ?_
 obtain rfl:=si ar
 exact ⟨_,cG,U,true,cH,rfl,(by kernel_rfl),aw⟩
 refine xn 11<|dF<|sk ?_
 obtain rfl:=si ar
 exact ⟨_,cG,U,true,cH,rfl,(by kernel_rfl),aw⟩
 refine ee DZ dp ?_
 intro eG k3 eH b8
 refine yq 1 [(136,V U),(0,Pt I 0),(3,Pt ba 0),(5,V ad),(6,V U),(7, .bool true)] ?_
 rcases ifs bz with ⟨eI,bz⟩ | ⟨eI,bz⟩
 refine aG rfl trivial (bp rfl rfl (jC eI))<|yq 4 [(141,Pt I 4),(138, .bool true),(0,Pt I 0),(3,Pt ba 0),(5,V ad),(6,V U),(7, .bool true)] ?_
 have k4:I<eG:=eH.1 _ (List.mem_of_getElem? (i:=0) rfl) _ (by simp [Itm.ids])
 refine aW (v:=J) rfl rfl rfl (by show I<_;omega) (aC (v:=J) (b8.dv (i:=4) rfl)) (b8.aU (i:=0) rfl (by kernel_rfl)) trivial<|yq 1 [(143,V U),(142,J),(138, .bool true),(0,Pt I 0),(3,Pt ba 0),(5,V ad),(6,V U),(7, .bool true)] ?_
 obtain ⟨gm,bz⟩:=aK bz
 refine aG rfl rfl (bF rfl rfl (by kernel_rfl:slTy _ _=some (aa au)) (b8.bK (j:=4) rfl (az.mono dp.ag) (by omega)) gm.1 gm.2)<|yq 1 [(145, .pointer (some (bj J U (aa au) 2))),(138, .bool true),(0,Pt I 0),(3,Pt ba 0),(5,V ad),(6,V U),(7, .bool true)] ?_
 obtain ⟨eK,gn,bz⟩:=ai bz
 obtain ⟨k5,h5,h6,k6⟩:=b8.cm (j:=4) rfl (az.mono dp.ag) (i:=U) gn
 obtain rfl:=ec h5
 have h7:=dw gn
 have h8:=b8.bK (j:=4) rfl (az.mono dp.ag) h7
 have k7:(baseOf J).block<eG:=dn (eH.1 _ (List.mem_of_getElem? (i:=4) rfl)) h8
 refine di rfl rfl rfl (by show (baseOf J).block<_;omega) (aC (v:=V eK.aD) trivial) (bL (w:=V eK.aD) h6 rfl (by kernel_rfl)) trivial<|yq 1 [(147,Pt ba 1),(146,V eK.aD),(138, .bool true),(0,Pt I 0),(3,Pt ba 0),(5,V ad),(6,V U),(7, .bool true)] ?_
 have k8:ba<eG:=eH.1 _ (List.mem_of_getElem? (i:=5) rfl) _ (by simp [Itm.ids])
 refine aW (v:=V b7.aD) rfl rfl rfl (by show ba<_;omega) (aC (v:=V b7.aD) trivial) (b8.aU (i:=5) rfl (by kernel_rfl)) trivial ?_
 rcases ifs bz with ⟨eL,bz⟩ | ⟨eL,bz⟩
 refine aG rfl rfl (bp rfl rfl (eU eL))<|ye 2 [(135, .bool true),(0,Pt I 0),(3,Pt ba 0),(5,V ad),(6,V U),(7, .bool true)] ?_
 have h9:=b8.a5
 obtain rfl:=si bz
 exact ⟨_,b7,true,ba,rfl,(by kernel_rfl),h9⟩
 refine aG rfl rfl (bp rfl rfl (eV eL))<|ye 2 [(135, .bool false),(0,Pt I 0),(3,Pt ba 0),(5,V ad),(6,V U),(7, .bool true)] ?_
 have ia:=b8.a5
 obtain rfl:=si bz
 exact ⟨_,b7,false,ba,rfl,(by kernel_rfl),ia⟩
 refine aG rfl trivial (bp rfl rfl (jl eI))<|ye 14 [(135, .bool false),(0,Pt I 0),(3,Pt ba 0),(5,V ad),(6,V U),(7, .bool true)] ?_
 have ib:=b8.a5
 obtain rfl:=si bz
 exact ⟨_,b7,false,ba,rfl,(by kernel_rfl),ib⟩
 refine ee Cb a4 ?_
 intro ch k9 cj a6
 refine yq 1 [(92,V U),(0,Pt I 0),(3,Pt aJ 0),(5,V ad),(6,V U),(7, .bool true)] ?_
 rcases ifs aO with ⟨eM,aO⟩ | ⟨eM,aO⟩
 refine aG rfl trivial (bp rfl rfl (lM eM))<|yq 4 [(97,Pt I 4),(94, .bool true),(0,Pt I 0),(3,Pt aJ 0),(5,V ad),(6,V U),(7, .bool true)] ?_
 have la:I<ch:=cj.1 _ (List.mem_of_getElem? (i:=0) rfl) _ (by simp [Itm.ids])
 refine aW (v:=J) rfl rfl rfl (by show I<_;omega) (aC (v:=J) (a6.dv (i:=4) rfl)) (a6.aU (i:=0) rfl (by kernel_rfl)) trivial<|yq 1 [(99,V U),(98,J),(94, .bool true),(0,Pt I 0),(3,Pt aJ 0),(5,V ad),(6,V U),(7, .bool true)] ?_
 obtain ⟨gq,aO⟩:=aK aO
 refine aG rfl rfl (bF rfl rfl (by kernel_rfl:slTy _ _=some (aa au)) (a6.bK (j:=4) rfl (az.mono a4.ag) (by omega)) gq.1 gq.2)<|yq 1 [(101, .pointer (some (bj J U (aa au) 2))),(94, .bool true),(0,Pt I 0),(3,Pt aJ 0),(5,V ad),(6,V U),(7, .bool true)] ?_
 obtain ⟨eN,gr,aO⟩:=ai aO
 obtain ⟨lb,ic,ie,ld⟩:=a6.cm (j:=4) rfl (az.mono a4.ag) (i:=U) gr
 obtain rfl:=ec ic
 have ig:=dw gr
 have ij:=a6.bK (j:=4) rfl (az.mono a4.ag) ig
 have lf:(baseOf J).block<ch:=dn (cj.1 _ (List.mem_of_getElem? (i:=4) rfl)) ij
 refine di rfl rfl rfl (by show (baseOf J).block<_;omega) (aC (v:=V eN.aD) trivial) (bL (w:=V eN.aD) ie rfl (by kernel_rfl)) trivial<|yq 1 [(103,Pt aJ 1),(102,V eN.aD),(94, .bool true),(0,Pt I 0),(3,Pt aJ 0),(5,V ad),(6,V U),(7, .bool true)] ?_
 have lg:aJ<ch:=cj.1 _ (List.mem_of_getElem? (i:=5) rfl) _ (by simp [Itm.ids])
 refine aW (v:=V bx.aD) rfl rfl rfl (by show aJ<_;omega) (aC (v:=V bx.aD) trivial) (a6.aU (i:=5) rfl (by kernel_rfl)) trivial ?_
 rcases ifs aO with ⟨eO,aO⟩ | ⟨eO,aO⟩
 refine aG rfl rfl (bp rfl rfl (eU eO))<|yq 5 [(110,Pt I 4),(107, .bool true),(0,Pt I 0),(3,Pt aJ 0),(5,V ad),(6,V U),(7, .bool true)] ?_
 have lh:I<ch:=cj.1 _ (List.mem_of_getElem? (i:=0) rfl) _ (by simp [Itm.ids])
 refine aW (v:=J) rfl rfl rfl (by show I<_;omega) (aC (v:=J) (a6.dv (i:=4) rfl)) (a6.aU (i:=0) rfl (by kernel_rfl)) trivial<|yq 2 [(113,V (af (U - 1))),(111,J),(107, .bool true),(0,Pt I 0),(3,Pt aJ 0),(5,V ad),(6,V U),(7, .bool true)] ?_
 obtain ⟨gu,aO⟩:=aK aO
 refine aG rfl rfl (bF rfl rfl (by kernel_rfl:slTy _ _=some (aa au)) (a6.bK (j:=4) rfl (az.mono a4.ag) (by omega)) gu.1 gu.2)<|yq 1 [(115, .pointer (some (bj J (af (U - 1)) (aa au) 2))),(107, .bool true),(0,Pt I 0),(3,Pt aJ 0),(5,V ad),(6,V U),(7, .bool true)] ?_
 obtain ⟨eP,gw,aO⟩:=ai aO
 obtain ⟨lj,il,im,ll⟩:=a6.cm (j:=4) rfl (az.mono a4.ag) (i:=af (U - 1)) gw
 obtain rfl:=ec il
 have iq:=dw gw
 have ir:=a6.bK (j:=4) rfl (az.mono a4.ag) iq
 have ln:(baseOf J).block<ch:=dn (cj.1 _ (List.mem_of_getElem? (i:=4) rfl)) ir
 refine di rfl rfl rfl (by show (baseOf J).block<_;omega) (aC (v:=V eP.aD) trivial) (bL (w:=V eP.aD) im rfl (by kernel_rfl)) trivial<|yq 1 [(117,Pt aJ 1),(116,V eP.aD),(107, .bool true),(0,Pt I 0),(3,Pt aJ 0),(5,V ad),(6,V U),(7, .bool true)] ?_
 have lo:aJ<ch:=cj.1 _ (List.mem_of_getElem? (i:=5) rfl) _ (by simp [Itm.ids])
 refine aW (v:=V bx.aD) rfl rfl rfl (by show aJ<_;omega) (aC (v:=V bx.aD) trivial) (a6.aU (i:=5) rfl (by kernel_rfl)) trivial ?_
 rcases ifs aO with ⟨eQ,aO⟩ | ⟨eQ,aO⟩
 refine aG rfl rfl (bp rfl rfl (eU eQ))<|yq 5 [(124,Pt I 4),(121, .bool true),(0,Pt I 0),(3,Pt aJ 0),(5,V ad),(6,V U),(7, .bool true)] ?_
 have lq:I<ch:=cj.1 _ (List.mem_of_getElem? (i:=0) rfl) _ (by simp [Itm.ids])
 refine aW (v:=J) rfl rfl rfl (by show I<_;omega) (aC (v:=J) (a6.dv (i:=4) rfl)) (a6.aU (i:=0) rfl (by kernel_rfl)) trivial<|yq 2 [(127,V (af (U - 1))),(125,J),(121, .bool true),(0,Pt I 0),(3,Pt aJ 0),(5,V ad),(6,V U),(7, .bool true)] ?_
 obtain ⟨gx,aO⟩:=aK aO
 refine aG rfl rfl (bF rfl rfl (by kernel_rfl:slTy _ _=some (aa au)) (a6.bK (j:=4) rfl (az.mono a4.ag) (by omega)) gx.1 gx.2)<|yq 1 [(129, .pointer (some (bj J (af (U - 1)) (aa au) 1))),(121, .bool true),(0,Pt I 0),(3,Pt aJ 0),(5,V ad),(6,V U),(7, .bool true)] ?_
 obtain ⟨gy,gA,aO⟩:=ai aO
 obtain ⟨lr,iu,iv,lu⟩:=a6.cm (j:=4) rfl (az.mono a4.ag) (i:=af (U - 1)) gA
 obtain rfl:=ec iu
 have iw:=dw gA
 have ix:=a6.bK (j:=4) rfl (az.mono a4.ag) iw
 have lv:(baseOf J).block<ch:=dn (cj.1 _ (List.mem_of_getElem? (i:=4) rfl)) ix
 refine di rfl rfl rfl (by show (baseOf J).block<_;omega) (aC (v:=V gy.Kind) trivial) (bL (w:=V gy.Kind) iv rfl (by kernel_rfl)) trivial ?_
 rcases ifs aO with ⟨eR,aO⟩ | ⟨eR,aO⟩
 refine aG rfl rfl (bp rfl rfl (eU eR))<|ye 2 [(91, .bool true),(0,Pt I 0),(3,Pt aJ 0),(5,V ad),(6,V U),(7, .bool true)] ?_
 have iy:=a6.a5
 obtain rfl:=si aO
 exact ⟨_,bx,true,aJ,rfl,(by kernel_rfl),iy⟩
 refine aG rfl rfl (bp rfl rfl (eV eR))<|ye 2 [(91, .bool false),(0,Pt I 0),(3,Pt aJ 0),(5,V ad),(6,V U),(7, .bool true)] ?_
 have iA:=a6.a5
 obtain rfl:=si aO
 exact ⟨_,bx,false,aJ,rfl,(by kernel_rfl),iA⟩
 refine aG rfl rfl (bp rfl rfl (eV eQ))<|ye 14 [(91, .bool false),(0,Pt I 0),(3,Pt aJ 0),(5,V ad),(6,V U),(7, .bool true)] ?_
 have iB:=a6.a5
 obtain rfl:=si aO
 exact ⟨_,bx,false,aJ,rfl,(by kernel_rfl),iB⟩
 refine aG rfl rfl (bp rfl rfl (eV eO))<|ye 28 [(91, .bool false),(0,Pt I 0),(3,Pt aJ 0),(5,V ad),(6,V U),(7, .bool true)] ?_
 have iC:=a6.a5
 obtain rfl:=si aO
 exact ⟨_,bx,false,aJ,rfl,(by kernel_rfl),iC⟩
 refine aG rfl trivial (bp rfl rfl (lK eM))<|ye 40 [(91, .bool false),(0,Pt I 0),(3,Pt aJ 0),(5,V ad),(6,V U),(7, .bool true)] ?_
 have iD:=a6.a5
 obtain rfl:=si aO
 exact ⟨_,bx,false,aJ,rfl,(by kernel_rfl),iD⟩
 refine ee wk dm ?_
 intro eT lx eW bR
 refine yq 1 [(64,V U),(0,Pt I 0),(3,Pt a8 0),(5,V ad),(6,V U),(7, .bool true)] ?_
 rcases ifs bd with ⟨eX,bd⟩ | ⟨eX,bd⟩
 refine aG rfl trivial (bp rfl rfl (jC eX))<|yq 4 [(69,Pt I 4),(66, .bool true),(0,Pt I 0),(3,Pt a8 0),(5,V ad),(6,V U),(7, .bool true)] ?_
 have ly:I<eT:=eW.1 _ (List.mem_of_getElem? (i:=0) rfl) _ (by simp [Itm.ids])
 refine aW (v:=J) rfl rfl rfl (by show I<_;omega) (aC (v:=J) (bR.dv (i:=4) rfl)) (bR.aU (i:=0) rfl (by kernel_rfl)) trivial<|yq 1 [(71,V U),(70,J),(66, .bool true),(0,Pt I 0),(3,Pt a8 0),(5,V ad),(6,V U),(7, .bool true)] ?_
 obtain ⟨gB,bd⟩:=aK bd
 refine aG rfl rfl (bF rfl rfl (by kernel_rfl:slTy _ _=some (aa au)) (bR.bK (j:=4) rfl (az.mono dm.ag) (by omega)) gB.1 gB.2)<|yq 1 [(73, .pointer (some (bj J U (aa au) 2))),(66, .bool true),(0,Pt I 0),(3,Pt a8 0),(5,V ad),(6,V U),(7, .bool true)] ?_
 obtain ⟨eY,gC,bd⟩:=ai bd
 obtain ⟨lz,iE,iF,lA⟩:=bR.cm (j:=4) rfl (az.mono dm.ag) (i:=U) gC
 obtain rfl:=ec iE
 have iG:=dw gC
 have iH:=bR.bK (j:=4) rfl (az.mono dm.ag) iG
 have lB:(baseOf J).block<eT:=dn (eW.1 _ (List.mem_of_getElem? (i:=4) rfl)) iH
 refine di rfl rfl rfl (by show (baseOf J).block<_;omega) (aC (v:=V eY.aD) trivial) (bL (w:=V eY.aD) iF rfl (by kernel_rfl)) trivial<|yq 1 [(75,Pt a8 1),(74,V eY.aD),(66, .bool true),(0,Pt I 0),(3,Pt a8 0),(5,V ad),(6,V U),(7, .bool true)] ?_
 have lC:a8<eT:=eW.1 _ (List.mem_of_getElem? (i:=5) rfl) _ (by simp [Itm.ids])
 refine aW (v:=V bO.aD) rfl rfl rfl (by show a8<_;omega) (aC (v:=V bO.aD) trivial) (bR.aU (i:=5) rfl (by kernel_rfl)) trivial ?_
 rcases ifs bd with ⟨eZ,bd⟩ | ⟨eZ,bd⟩
 refine aG rfl rfl (bp rfl rfl (eU eZ))<|yq 3 [(80,V ad),(79, .bool true),(0,Pt I 0),(3,Pt a8 0),(5,V ad),(6,V U),(7, .bool true)] ?_
 rcases ifs bd with ⟨e0,bd⟩ | ⟨e0,bd⟩
 refine aG rfl rfl (bp rfl rfl (eU e0))<|ye 2 [(63, .bool true),(0,Pt I 0),(3,Pt a8 0),(5,V ad),(6,V U),(7, .bool true)] ?_
 have iI:=bR.a5
 obtain rfl:=si bd
 exact ⟨_,bO,true,a8,rfl,(by kernel_rfl),iI⟩
 refine aG rfl rfl (bp rfl rfl (eV e0))<|ye 2 [(63, .bool false),(0,Pt I 0),(3,Pt a8 0),(5,V ad),(6,V U),(7, .bool true)] ?_
 have iJ:=bR.a5
 obtain rfl:=si bd
 exact ⟨_,bO,false,a8,rfl,(by kernel_rfl),iJ⟩
 refine aG rfl rfl (bp rfl rfl (eV eZ))<|ye 6 [(63, .bool false),(0,Pt I 0),(3,Pt a8 0),(5,V ad),(6,V U),(7, .bool true)] ?_
 have iK:=bR.a5
 obtain rfl:=si bd
 exact ⟨_,bO,false,a8,rfl,(by kernel_rfl),iK⟩
 refine aG rfl trivial (bp rfl rfl (jl eX))<|ye 18 [(63, .bool false),(0,Pt I 0),(3,Pt a8 0),(5,V ad),(6,V U),(7, .bool true)] ?_
 have iL:=bR.a5
 obtain rfl:=si bd
 exact ⟨_,bO,false,a8,rfl,(by kernel_rfl),iL⟩
 refine ee wh cl ?_
 intro dq lD dr bn
 refine yq 1 [(36,V U),(7, .bool true),(0,Pt I 0),(3,Pt aX 0),(5,V ad),(6,V U)] ?_
 rcases ifs a7 with ⟨e2,a7⟩ | ⟨e2,a7⟩
 refine aG rfl trivial (bp rfl rfl (jC e2))<|yq 4 [(41,Pt I 4),(38, .bool true),(7, .bool true),(0,Pt I 0),(3,Pt aX 0),(5,V ad),(6,V U)] ?_
 have lE:I<dq:=dr.1 _ (List.mem_of_getElem? (i:=0) rfl) _ (by simp [Itm.ids])
 refine aW (v:=J) rfl rfl rfl (by show I<_;omega) (aC (v:=J) (bn.dv (i:=4) rfl)) (bn.aU (i:=0) rfl (by kernel_rfl)) trivial<|yq 1 [(43,V U),(42,J),(38, .bool true),(7, .bool true),(0,Pt I 0),(3,Pt aX 0),(5,V ad),(6,V U)] ?_
 obtain ⟨gD,a7⟩:=aK a7
 refine aG rfl rfl (bF rfl rfl (by kernel_rfl:slTy _ _=some (aa au)) (bn.bK (j:=4) rfl (az.mono cl.ag) (by omega)) gD.1 gD.2)<|yq 1 [(45, .pointer (some (bj J U (aa au) 2))),(38, .bool true),(7, .bool true),(0,Pt I 0),(3,Pt aX 0),(5,V ad),(6,V U)] ?_
 obtain ⟨e3,gE,a7⟩:=ai a7
 obtain ⟨lF,iM,iN,lG⟩:=bn.cm (j:=4) rfl (az.mono cl.ag) (i:=U) gE
 obtain rfl:=ec iM
 have iO:=dw gE
 have iQ:=bn.bK (j:=4) rfl (az.mono cl.ag) iO
 have lH:(baseOf J).block<dq:=dn (dr.1 _ (List.mem_of_getElem? (i:=4) rfl)) iQ
 refine di rfl rfl rfl (by show (baseOf J).block<_;omega) (aC (v:=V e3.aD) trivial) (bL (w:=V e3.aD) iN rfl (by kernel_rfl)) trivial<|yq 1 [(47,Pt aX 1),(46,V e3.aD),(38, .bool true),(7, .bool true),(0,Pt I 0),(3,Pt aX 0),(5,V ad),(6,V U)] ?_
 have lI:aX<dq:=dr.1 _ (List.mem_of_getElem? (i:=5) rfl) _ (by simp [Itm.ids])
 refine aW (v:=V bU.aD) rfl rfl rfl (by show aX<_;omega) (aC (v:=V bU.aD) trivial) (bn.aU (i:=5) rfl (by kernel_rfl)) trivial ?_
 rcases ifs a7 with ⟨e4,a7⟩ | ⟨e4,a7⟩
 refine aG rfl rfl (bp rfl rfl (eU e4))<|yq 5 [(54,Pt I 4),(51, .bool true),(7, .bool true),(0,Pt I 0),(3,Pt aX 0),(5,V ad),(6,V U)] ?_
 have lJ:I<dq:=dr.1 _ (List.mem_of_getElem? (i:=0) rfl) _ (by simp [Itm.ids])
 refine aW (v:=J) rfl rfl rfl (by show I<_;omega) (aC (v:=J) (bn.dv (i:=4) rfl)) (bn.aU (i:=0) rfl (by kernel_rfl)) trivial<|yq 1 [(56,V U),(55,J),(51, .bool true),(7, .bool true),(0,Pt I 0),(3,Pt aX 0),(5,V ad),(6,V U)] ?_
 obtain ⟨gF,a7⟩:=aK a7
 refine aG rfl rfl (bF rfl rfl (by kernel_rfl:slTy _ _=some (aa au)) (bn.bK (j:=4) rfl (az.mono cl.ag) (by omega)) gF.1 gF.2)<|yq 1 [(58, .pointer (some (bj J U (aa au) 1))),(51, .bool true),(7, .bool true),(0,Pt I 0),(3,Pt aX 0),(5,V ad),(6,V U)] ?_
 obtain ⟨e5,gG,a7⟩:=ai a7
 obtain ⟨lL,iR,iS,lN⟩:=bn.cm (j:=4) rfl (az.mono cl.ag) (i:=U) gG
 obtain rfl:=ec iR
 have iT:=dw gG
 have iU:=bn.bK (j:=4) rfl (az.mono cl.ag) iT
 have lO:(baseOf J).block<dq:=dn (dr.1 _ (List.mem_of_getElem? (i:=4) rfl)) iU
 refine di rfl rfl rfl (by show (baseOf J).block<_;omega) (aC (v:=V e5.Kind) trivial) (bL (w:=V e5.Kind) iS rfl (by kernel_rfl)) trivial<|yq 1 [(60,V ad),(59,V e5.Kind),(51, .bool true),(7, .bool true),(0,Pt I 0),(3,Pt aX 0),(5,V ad),(6,V U)] ?_
 rcases ifs a7 with ⟨e6,a7⟩ | ⟨e6,a7⟩
 refine aG rfl rfl (bp rfl rfl (eU e6))<|ye 2 [(35, .bool true),(7, .bool true),(0,Pt I 0),(3,Pt aX 0),(5,V ad),(6,V U)] ?_
 have iV:=bn.a5
 obtain rfl:=si a7
 exact ⟨_,bU,true,aX,rfl,(by kernel_rfl),iV⟩
 refine aG rfl rfl (bp rfl rfl (eV e6))<|ye 2 [(35, .bool false),(7, .bool true),(0,Pt I 0),(3,Pt aX 0),(5,V ad),(6,V U)] ?_
 have iW:=bn.a5
 obtain rfl:=si a7
 exact ⟨_,bU,false,aX,rfl,(by kernel_rfl),iW⟩
 refine aG rfl rfl (bp rfl rfl (eV e4))<|ye 14 [(35, .bool false),(7, .bool true),(0,Pt I 0),(3,Pt aX 0),(5,V ad),(6,V U)] ?_
 have iX:=bn.a5
 obtain rfl:=si a7
 exact ⟨_,bU,false,aX,rfl,(by kernel_rfl),iX⟩
 refine aG rfl trivial (bp rfl rfl (jl e2))<|ye 26 [(35, .bool false),(7, .bool true),(0,Pt I 0),(3,Pt aX 0),(5,V ad),(6,V U)] ?_
 have iY:=bn.a5
 obtain rfl:=si a7
 exact ⟨_,bU,false,aX,rfl,(by kernel_rfl),iY⟩
 refine bk 0<|lp [0,3,5,6] (fun n l h=>∃ gH ck bo bb bf,correctorref12_parser_place_l0 F a0 a1 n ck bo bb=some ea∧l=[(0,Pt I 0),(3,Pt bf 0),(5,V bo),(6,V bb)]∧St hs (aR [.ae I [Pt ab 0,v11,V a0.Doc, .bool a0.aA,J,V a0.ax,V a0.Read], .ae ab (ay v4 v6 ao a0.R), .gs ao aE (aa aj), .gs v11 aF (aa an), .gs J aL (aa au)]) Z (0,0) gH h [.ae I [Pt ab 0,v11,V a0.Doc, .bool a0.aA,J,V a0.ax,V a0.Read], .ae ab (ay v4 v6 ao a0.R), .gs ao aE (aa aj), .gs v11 aF (aa an), .gs J aL (aa au), .ae bf (eC ck)]) F ⟨_,du,dx,af ((a0.S.length:Int) - 1),dy,bc,(by kernel_rfl),dz⟩ ?_
 rintro e7 l lP ⟨gH,ck,bo,bb,bf,bc,rfl,dY⟩
 rcases e7 with _ | e7
 cases (show none=some ea from bc)
 rw [correctorref12_parser_place_l0] at bc
 refine sq<|cU A4 dY ?_
 intro e8 lQ e9 b9
 refine yq 1 [(18,V bb),(0,Pt I 0),(3,Pt bf 0),(5,V bo),(6,V bb)] ?_
 rcases ifs bc with ⟨fa,bc⟩ | ⟨fa,bc⟩
 refine aG rfl trivial (bp rfl rfl (jC fa))<|yq 4 [(23,Pt I 4),(20, .bool true),(0,Pt I 0),(3,Pt bf 0),(5,V bo),(6,V bb)] ?_
 have lR:I<e8:=e9.1 _ (List.mem_of_getElem? (i:=0) rfl) _ (by simp [Itm.ids])
 refine aW (v:=J) rfl rfl rfl (by show I<_;omega) (aC (v:=J) (b9.dv (i:=4) rfl)) (b9.aU (i:=0) rfl (by kernel_rfl)) trivial<|yq 1 [(25,V bb),(24,J),(20, .bool true),(0,Pt I 0),(3,Pt bf 0),(5,V bo),(6,V bb)] ?_
 obtain ⟨gI,bc⟩:=aK bc
 refine aG rfl rfl (bF rfl rfl (by kernel_rfl:slTy _ _=some (aa au)) (b9.bK (j:=4) rfl (az.mono dY.ag) (by omega)) gI.1 gI.2)<|yq 1 [(27, .pointer (some (bj J bb (aa au) 2))),(20, .bool true),(0,Pt I 0),(3,Pt bf 0),(5,V bo),(6,V bb)] ?_
 obtain ⟨fb,gJ,bc⟩:=ai bc
 obtain ⟨lS,iZ,ja,lT⟩:=b9.cm (j:=4) rfl (az.mono dY.ag) (i:=bb) gJ
 obtain rfl:=ec iZ
 have jb:=dw gJ
 have jc:=b9.bK (j:=4) rfl (az.mono dY.ag) jb
 have lU:(baseOf J).block<e8:=dn (e9.1 _ (List.mem_of_getElem? (i:=4) rfl)) jc
 refine di rfl rfl rfl (by show (baseOf J).block<_;omega) (aC (v:=V fb.aD) trivial) (bL (w:=V fb.aD) ja rfl (by kernel_rfl)) trivial<|yq 1 [(29,Pt bf 1),(28,V fb.aD),(20, .bool true),(0,Pt I 0),(3,Pt bf 0),(5,V bo),(6,V bb)] ?_
 have lV:bf<e8:=e9.1 _ (List.mem_of_getElem? (i:=5) rfl) _ (by simp [Itm.ids])
 refine aW (v:=V ck.aD) rfl rfl rfl (by show bf<_;omega) (aC (v:=V ck.aD) trivial) (b9.aU (i:=5) rfl (by kernel_rfl)) trivial ?_
 rcases ifs bc with ⟨fc,bc⟩ | ⟨fc,bc⟩
 refine aG rfl rfl (bp rfl rfl (lM fc))<|ye 1 [(32, .bool true),(0,Pt I 0),(3,Pt bf 0),(5,V bo),(6,V bb)] ?_
 have jd:=b9.a5
 refine dT<|sk<|bk 1<|gp 3 ?_
 exact ⟨e7,Nat.lt_succ_self _,⟨_,ck,bo,af (bb - 1),bf,bc,(by kernel_rfl),jd⟩⟩
 refine aG rfl rfl (bp rfl rfl (lK fc))<|ye 1 [(32, .bool false),(0,Pt I 0),(3,Pt bf 0),(5,V bo),(6,V bb)] ?_
 have je:=b9.a5
 refine dF<|xt 0<|aN ?_
 obtain rfl:=si bc
 exact ⟨_,ck,bo,bb,bf,rfl,(by kernel_rfl),je⟩
 refine aG rfl trivial (bp rfl rfl (jl fa))<|ye 13 [(32, .bool false),(0,Pt I 0),(3,Pt bf 0),(5,V bo),(6,V bb)] ?_
 have jf:=b9.a5
 refine dF<|xt 0<|aN ?_
 obtain rfl:=si bc
 exact ⟨_,ck,bo,bb,bf,rfl,(by kernel_rfl),jf⟩
 refine s0<|aB 1 0 (.bool a1.ik) dZ rfl<|xn 0<|db ds ?_ ?_<;>intro lW ds
 refine gp 1 ?_
 obtain rfl:=si ds
 exact ⟨_,a1,3,fk,rfl,(by kernel_rfl),((((((dZ.front 0 rfl).front 5 rfl).front 5 rfl).front 5 rfl).front 5 rfl).front 5 rfl)⟩
 refine sk ?_
 obtain rfl:=si ds
 exact ⟨_,a1,5,fk,rfl,(by kernel_rfl),((((((dZ.front 0 rfl).front 5 rfl).front 5 rfl).front 5 rfl).front 5 rfl).front 5 rfl)⟩
def Bm:List bq:=[uP 27 (mv 0),uP 28 (nk 27),uP 29 (fa 61 28 0),uL 30 (ld 55 29),uP 31 (nk 30),uP 32 (fa 58 31 0),uL 33 (ld 24 32),uL 34 (ld 63 3),uF 35 (cf 70 #[(t 33),(t 34)] #[24,63]) .make [3,6,7],uP 26 (mv 35),uP 36 (.extract (t 26) 0),uP 37 (.extract (t 26) 1),uP 6 (sg 36),uP 7 (sg 37)]
def y8:List bq:=[uP 62 (mv 0),uP 63 (nk 62),uP 64 (fa 61 63 0),uL 65 (ld 55 64),uP 66 (mv 8),uP 67 (mv 6),uP 68 (mv 9),uP 69 (ia 106 67 68),uP 70 (fa 112 69 2),uL 71 (ld 3 70),uP 72 (mv 5),uP 73 (mv 10),uF 74 (cf 46 #[(t 65),(t 66),(t 71),(t 72),(t 73)] #[55,3,3,3,3]) .make [3,9]]
def Et:List bq:=[uP 75 (mv 0),uP 76 (nk 75),uP 77 (fa 61 76 4),uL 78 (ld 59 77),uP 79 (mv 0),uP 80 (nk 79),uP 81 (fa 61 80 4),uL 82 (ld 59 81),uP 83 (cb .len #[(t 82)] #[59]),uP 84 (bc .sub 3 83 1 3),uP 85 (ia 59 78 84),uP 86 (fa 114 85 3),uL 87 (ld 3 86),uP 8 (sg 87)]
def vU:List bq:=[uP 105 (mv 0),uP 106 (nk 105),uP 107 (fa 61 106 4),uL 108 (ld 59 107),uP 109 (mv 13),uP 110 (mv 0),uP 111 (mv 0),uP 112 (nk 111),uP 113 (fa 61 112 4),uL 114 (ld 59 113),uP 115 (mv 13),uP 116 (ia 59 114 115),uP 117 (fa 114 116 3),uL 118 (ld 3 117),uP 119 (mv 11),uF 120 (cf 68 #[(t 110),(t 118),(t 119)] #[54,3,3]) .make [9,13],uP 121 (ia 59 108 109),uP 122 (fa 114 121 4),oF (.store 4 (t 122) (t 120)) .make [3,9,13]]
def zO:List bq:=[uP 41 (mv 0),uP 42 (nk 41),uP 43 (fa 61 42 0),uL 44 (ld 55 43),uP 45 (mv 0),uF 46 (cf 47 #[(t 45)] #[54]) .make [],uP 47 (mv 4),uP 48 (mv 5),uF 49 (cf 46 #[(t 44),(t 46),(t 47),(t 48),(ci 8)] #[55,3,3,3,3]) .make [3]]
def nG (F:Nat) (a0:aT) (a1:an):Option aT:=
 (gK F a0 a1.ah a1.To).bind fun j=>
 if 0≤j.1∧j.1<(a0.R.L.length:Int) then
  (a0.R.L[j.1.toNat]?).bind fun aj=>
  if aj.Kind=(20:Int) then
   (ek F a0.R 0 2 j.1 (af (j.1+1))).bind fun I=>
   (gK F (⟨I.2,a0.Rows,I.1,false,[],a0.ax,a0.Read⟩:aT) (af (j.1+1)) a1.To).bind fun aa=>
   ((if aa.1<aa.2 then
     (iC F (⟨I.2,a0.Rows,I.1,false,[],a0.ax,a0.Read⟩:aT) I.1 aa.1).bind fun J=>
     some (J.2.R,J.2.Rows,J.2.Doc,J.1,J.2.S,J.2.ax,J.2.Read)
    else
     some (I.2,a0.Rows,I.1,false,[],a0.ax,a0.Read)):Option (aL×(List an)×Int×Bool×(List au)×Int×Int)).bind fun o=>match o with
    | (al,ao,aq,ar,av,aw,ay)=>some (⟨al,ao,aq,ar,av,aw,ay⟩:aT)
  else
   ((if (0:Int)≤a0.Doc then
     (ij F a0.R.T a0.Doc (af (j.1+1))).bind fun az=>
     some ((⟨a0.R.L,az,a0.R.D,a0.R.End⟩:aL),a0.Rows,a0.Doc,a0.aA,a0.ax,a0.Read)
    else
     some (a0.R,a0.Rows,a0.Doc,a0.aA,a0.ax,a0.Read)):Option (aL×(List an)×Int×Bool×Int×Int)).bind fun o=>match o with
    | (ab,ad,aC,ae,ag,ai)=>(gK F (⟨ab,ad,(-1),ae,[],ag,ai⟩:aT) (af (j.1+1)) j.2).bind fun U=>
    if U.1<U.2 then
     (dQ F ab 0 U.1 U.2 8).bind fun aB=>
     some (⟨aB.2,ad,(-1),ae,[],ag,ai⟩:aT)
    else
     some (⟨ab,ad,(-1),ae,[],ag,ai⟩:aT)
 else none
theorem Ep (F:Nat) {h:AH} {Z:Zn} {a0:aT} {a1:an} {I j v4 v6 J aw v11 ar ab av} (hP:Pre Z h [.ae I [Pt j 0,v11,V a0.Doc, .bool a0.aA,ab,V a0.ax,V a0.Read], .ae j (ay v4 v6 J a0.R), .gs J aw (aa aj), .gs v11 ar (aa an), .gs ab av (aa au)]) (aH:RS (α:=ak) Z v4 a0.R.L) (a4:RS (α:=aq) Z v6 a0.R.T.al) (bg:RCs (α:=aj) Z aw a0.R.D) (aJ:RCs (α:=an) Z ar a0.Rows) (cj:RCs (α:=au) Z av a0.S) {r:aT} (hm:nG F a0 a1=some r):
  bQ Try.prog 42 [Pt I 0, .agg #[V a1.Kind,V a1.ah,V a1.To,V a1.aD]] h Z [.ae I [Pt j 0,v11,V a0.Doc, .bool a0.aA,ab,V a0.ax,V a0.Read], .ae j (ay v4 v6 J a0.R), .gs J aw (aa aj), .gs v11 ar (aa an), .gs ab av (aa au)] fun v Z' A'=>∃ b2 b3 b4 b6 b7 b8 b9, .tuple #[]=v∧A'=[.ae I [Pt j 0,v11,V r.Doc, .bool r.aA,b8,V r.ax,V r.Read], .ae j (ay b2 b3 b4 r.R), .gs b4 b6 (aa aj), .gs v11 b7 (aa an), .gs b8 b9 (aa au)]∧RS (α:=ak) Z' b2 r.R.L∧RS (α:=aq) Z' b3 r.R.T.al∧RCs (α:=aj) Z' b6 r.R.D∧RCs (α:=an) Z' b7 r.Rows∧RCs (α:=au) Z' b9 r.S:=by
 refine b5 Try.func42 hP ?_
 intro hs hS
 unfold nG at hm
 refine s0<|df 0 [V a1.Kind,V a1.ah,V a1.To,V a1.aD] hS ?_
 intro bj dH bG
 refine xn 0<|s0<|aB 2 0 (V a1.ah) bG rfl<|aB 1 0 (V a1.To) bG rfl ?_
 obtain ⟨U,ck,hm⟩:=ai hm
 refine cE 0 bG (fun dI a7 cl a8=>j7 F cl (RS.mono a7 aH) (RS.mono a7 a4) (bf.row (a8 _ (List.mem_of_getElem? (i:=3) rfl)) a7 bg) (a8 _ (List.mem_of_getElem? (i:=2) rfl)) (bf.row (a8 _ (List.mem_of_getElem? (i:=4) rfl)) a7 aJ) (bf.row (a8 _ (List.mem_of_getElem? (i:=5) rfl)) a7 cj) (a8 _ (List.mem_of_getElem? (i:=1) rfl)) ck) ?_
 rintro _ dJ cm rfl
 refine xn 5<|s0<|bA 3 1 (.slice none 0 0) [.slice none 0 0] [Pt j 0,v11,V a0.Doc, .bool a0.aA, .slice none 0 0,V a0.ax,V a0.Read] cm rfl rfl rfl ?_
 intro dK az
 refine xn 0<|sq<|s0<|aB 3 1 (Pt j 0) az rfl<|aB 2 2 v4 az rfl<|a6 1 hm aH ?_
 intro dL hm
 refine bh 1 0 (fun ca=>V ca.Kind) hm aH az ?_
 intro ca dM hm
 refine aE 0 hm ?_ ?_<;>intro dN hm
 refine xn 0<|dT<|s0<|aB 4 1 (Pt j 0) az rfl ?_
 obtain ⟨ad,cn,hm⟩:=ai hm
 have cq:St _ _ _ _ _ _ ([.ae j (ay v4 v6 J a0.R), .gs J aw (aa aj)]++[.ae bj (cw a1), .ae I [Pt j 0,v11,V a0.Doc, .bool a0.aA, .slice none 0 0,V a0.ax,V a0.Read], .gs v11 ar (aa an), .gs ab av (aa au)]):=((az.front 3 rfl).front 3 rfl)
 refine cB 3 cq (fun p=>fT F p aH a4 bg cn) ?_
 rintro _ dO dP _ bI cr ⟨cb,cc,cd,rfl,rfl,bJ,bK,bL⟩
 refine bA 2 3 (V ad.1) [V ad.1] [Pt j 0,v11,V ad.1, .bool a0.aA, .slice none 0 0,V a0.ax,V a0.Read] cr rfl rfl rfl ?_
 intro dQ cu
 refine xn 0<|s0<|bA 3 3 (.bool false) [.bool false] [Pt j 0,v11,V ad.1, .bool false, .slice none 0 0,V a0.ax,V a0.Read] cu rfl rfl rfl ?_
 intro dR cf
 refine xn 0<|s0<|aB 4 2 (V a1.To) cf rfl ?_
 obtain ⟨dS,cx,hm⟩:=ai hm
 refine cE 0 cf (fun dU bk cy bl=>j7 F (a0:=(⟨ad.2,a0.Rows,ad.1,false,[],a0.ax,a0.Read⟩:aT)) cy (RS.mono bk bJ) (RS.mono bk bK) (bf.row (bl _ (List.mem_of_getElem? (i:=1) rfl)) bk bL) (bl _ (List.mem_of_getElem? (i:=0) rfl)) (bf.row (bl _ (List.mem_of_getElem? (i:=4) rfl)) bk (aJ.mono bI)) (RS.br _) (bl _ (List.mem_of_getElem? (i:=3) rfl)) cx) ?_
 rintro _ dV bN rfl
 refine xn 5<|sq ?_
 obtain ⟨cz,aK,hm⟩:=ai hm
 refine dY [] (fun l h=>∃ aG aM bO bP bR bS bT bU bm bn bo bp bu bw bx,(aM,bO,bP,bR,bS,bT,bU)=cz∧RS (α:=ak) aG bm aM.L∧RS (α:=aq) aG bn aM.T.al∧RCs (α:=aj) aG bp aM.D∧RCs (α:=an) aG bu bO∧RCs (α:=au) aG bx bS∧l=[]∧St hs (aR [.ae I [Pt j 0,v11,V a0.Doc, .bool a0.aA,ab,V a0.ax,V a0.Read], .ae j (ay v4 v6 J a0.R), .gs J aw (aa aj), .gs v11 ar (aa an), .gs ab av (aa au)]) Z (0,0) aG h [.gs ab av (aa au), .ae I [Pt j 0,v11,V bP, .bool bR,bw,V bT,V bU], .ae j (ay bm bn bo aM), .gs bo bp (aa aj), .gs v11 bu (aa an), .gs bw bx (aa au)]) (by kernel_rfl) ?_ ?_
 rintro l dW ⟨aG,aM,bO,bP,bR,bS,bT,bU,bm,bn,bo,bp,bu,bw,bx,rfl,cA,cC,cF,cG,cH,rfl,cI⟩
 try dsimp only at hm
 refine rt<|⟨rfl,?_⟩
 obtain rfl:=si hm
 refine ⟨_,_,_,ResL.nil,((((((cI.front 5 rfl).front 5 rfl).front 5 rfl).front 5 rfl).front 5 rfl).takeN 5),?_⟩
 exact ⟨bm,bn,bo,bp,bu,bw,bx,rfl,rfl,cA,cC,cF,cG,cH⟩
 refine g0<|aP 2 aK ?_ ?_<;>intro dX aK
 refine xn 0<|dT<|g0<|aB 5 3 (V ad.1) bN rfl ?_
 have cK:=bN.c9 (aa au)
 obtain ⟨ao,cL,aK⟩:=ai aK
 have cM:St _ _ _ _ _ _ ([.ae I [Pt j 0,v11,V ad.1, .bool false, .slice none 0 0,V a0.ax,V a0.Read], .ae j (ay cb cc J ad.2), .gs J cd (aa aj), .gs v11 ar (aa an), .gs (.slice none 0 0) [] (aa au)]++[.ae bj (cw a1), .gs ab av (aa au)]):=(((((cK.front 0 rfl).front 5 rfl).front 3 rfl).front 3 rfl).front 5 rfl)
 refine cB 1 cM (fun p=>pn F (a0:=(⟨ad.2,a0.Rows,ad.1,false,[],a0.ax,a0.Read⟩:aT)) p bJ bK bL (aJ.mono bI) (RCs.br _) cL) ?_
 rintro _ ea eb _ ec cP ⟨cQ,cR,cS,cT,cU,cX,rfl,rfl,c0,c3,c4,c5,c6⟩
 refine bA 2 0 (.bool ao.1) [.bool ao.1] [Pt j 0,v11,V ao.2.Doc, .bool ao.1,(.slice none 0 0),V ao.2.ax,V ao.2.Read] cP rfl rfl rfl ?_
 intro ed c7
 refine xn 0 ?_
 obtain rfl:=si aK
 exact ⟨_,ao.2.R,ao.2.Rows,ao.2.Doc,ao.1,ao.2.S,ao.2.ax,ao.2.Read,cQ,cR,cS,cT,cU,(.slice none 0 0),cX,rfl,c0,c3,c4,c5,c6,(by kernel_rfl),(((((((c7.front 4 rfl).front 4 rfl).front 4 rfl).front 4 rfl).front 4 rfl).front 6 rfl).takeN 6)⟩
 refine xn 0<|dF<|sk ?_
 have c8:=bN.c9 (aa au)
 obtain rfl:=si aK
 exact ⟨_,ad.2,a0.Rows,ad.1,false,[],a0.ax,a0.Read,cb,cc,J,cd,ar,(.slice none 0 0),[],rfl,bJ,bK,bL,(aJ.mono bI),(RCs.br _),(by kernel_rfl),(((((((c8.front 0 rfl).front 5 rfl).front 3 rfl).front 3 rfl).front 5 rfl).front 6 rfl).takeN 6)⟩
 refine xn 0<|dF<|sk<|sq ?_
 obtain ⟨da,aN,hm⟩:=ai hm
 refine aI [0,4,5] (fun l h=>∃ aO aF bz bV aV aX aY a9 ba bb aZ,(aF,bz,bV,aV,aX,aY)=da∧RS (α:=ak) aO a9 aF.L∧RS (α:=aq) aO ba aF.T.al∧RCs (α:=aj) aO bb aF.D∧RCs (α:=an) aO aZ bz∧l=[(0,Pt I 0),(4,V U.1),(5,V U.2)]∧St hs (aR [.ae I [Pt j 0,v11,V a0.Doc, .bool a0.aA,ab,V a0.ax,V a0.Read], .ae j (ay v4 v6 J a0.R), .gs J aw (aa aj), .gs v11 ar (aa an), .gs ab av (aa au)]) Z (0,0) aO h [.gs ab av (aa au), .ae I [Pt j 0,v11,V bV, .bool aV, .slice none 0 0,V aX,V aY], .ae j (ay a9 ba J aF), .gs J bb (aa aj), .gs v11 aZ (aa an)]) ?_ ?_
 rintro l eg ⟨aO,aF,bz,bV,aV,aX,aY,a9,ba,bb,aZ,rfl,bW,bX,bY,bZ,rfl,db⟩
 try dsimp only at hm
 refine s0<|bA 3 1 (V (-1)) [V (-1)] [Pt j 0,v11,V (-1), .bool aV, .slice none 0 0,V aX,V aY] db rfl rfl rfl ?_
 intro eh dc
 refine xn 0<|s0 ?_
 obtain ⟨ei,dd,hm⟩:=ai hm
 refine cE 4 dc (fun ej bB de bC=>j7 F (a0:=(⟨aF,bz,(-1),aV,[],aX,aY⟩:aT)) de (RS.mono bB bW) (RS.mono bB bX) (bf.row (bC _ (List.mem_of_getElem? (i:=3) rfl)) bB bY) (bC _ (List.mem_of_getElem? (i:=2) rfl)) (bf.row (bC _ (List.mem_of_getElem? (i:=4) rfl)) bB bZ) (RS.br _) (bC _ (List.mem_of_getElem? (i:=1) rfl)) dd) ?_
 rintro _ ek b0 rfl
 refine xn 5<|s0<|aP 2 hm ?_ ?_<;>intro en hm
 refine xn 0<|dT<|g0<|aB 3 1 (Pt j 0) b0 rfl ?_
 obtain ⟨eo,dh,hm⟩:=ai hm
 have di:St _ _ _ _ _ _ ([.ae j (ay a9 ba J aF), .gs J bb (aa aj)]++[.gs ab av (aa au), .ae I [Pt j 0,v11,V (-1), .bool aV, .slice none 0 0,V aX,V aY], .gs v11 aZ (aa an)]):=((b0.front 3 rfl).front 3 rfl)
 refine cB 2 di (fun p=>fh F p bW bX bY dh) ?_
 rintro _ ep er _ dj dk ⟨dm,dn,dp,dq,rfl,rfl,dr,ds,du⟩
 refine xn 0 ?_
 have dv:=dk.c9 (aa au)
 obtain rfl:=si hm
 refine ⟨_,_,_,ResL.nil,((((((dv.front 0 rfl).front 5 rfl).front 3 rfl).front 3 rfl).front 5 rfl).takeN 5),?_⟩
 exact ⟨dm,dn,dp,dq,aZ,(.slice none 0 0),[],rfl,rfl,dr,ds,du,(bZ.mono dj),(RCs.br _)⟩
 refine xn 0<|dF<|sk ?_
 have dw:=b0.c9 (aa au)
 obtain rfl:=si hm
 refine ⟨_,_,_,ResL.nil,((((((dw.front 0 rfl).front 5 rfl).front 5 rfl).front 5 rfl).front 5 rfl).takeN 5),?_⟩
 exact ⟨a9,ba,J,bb,aZ,(.slice none 0 0),[],rfl,rfl,bW,bX,bY,bZ,(RCs.br _)⟩
 refine s0<|aB 3 1 (V a0.Doc) az rfl<|ct 0 aN ?_ ?_<;>intro et aN
 refine xn 0<|dT<|ee Aj az ?_
 intro bD eu bE a2
 refine yq 3 [(77,Pt I 0),(5,V U.2),(4,V U.1),(0,Pt I 0)] ?_
 have ew:I<bD:=bE.1 _ (List.mem_of_getElem? (i:=1) rfl) _ (by simp [Itm.ids])
 refine aW (v:=Pt j 0) rfl trivial rfl (by show I<_;omega) (aC (v:=Pt j 0) trivial) (a2.aU (i:=1) rfl (by kernel_rfl)) trivial<|yq 3 [(81,Pt I 0),(78,Pt j 0),(5,V U.2),(4,V U.1),(0,Pt I 0)] ?_
 have ey:I<bD:=bE.1 _ (List.mem_of_getElem? (i:=1) rfl) _ (by simp [Itm.ids])
 refine aW (v:=Pt j 0) rfl trivial rfl (by show I<_;omega) (aC (v:=Pt j 0) trivial) (a2.aU (i:=1) rfl (by kernel_rfl)) trivial<|yq 2 [(84,Pt j 1),(78,Pt j 0),(5,V U.2),(4,V U.1),(0,Pt I 0)] ?_
 have ez:j<bD:=bE.1 _ (List.mem_of_getElem? (i:=2) rfl) _ (by simp [Itm.ids])
 refine aW (v:= .agg #[v6]) rfl trivial rfl (by show j<_;omega) (iG (cs:=[v6]) (.cons (RS.dZ a4) .nil)) (a2.aU (i:=2) rfl (by kernel_rfl)) trivial<|yq 3 [(88,Pt I 2),(85, .agg #[v6]),(78,Pt j 0),(5,V U.2),(4,V U.1),(0,Pt I 0)] ?_
 have eA:I<bD:=bE.1 _ (List.mem_of_getElem? (i:=1) rfl) _ (by simp [Itm.ids])
 refine aW (v:=V a0.Doc) rfl trivial rfl (by show I<_;omega) (aC (v:=V a0.Doc) trivial) (a2.aU (i:=1) rfl (by kernel_rfl)) trivial<|yq 2 [(91,V (af (U.1+1))),(89,V a0.Doc),(85, .agg #[v6]),(78,Pt j 0),(5,V U.2),(4,V U.1),(0,Pt I 0)] ?_
 obtain ⟨dx,dy,aN⟩:=ai aN
 have dz:=a2.cJ
 have cg:St _ _ _ _ _ _ ([]++[.ae bj (cw a1), .ae I [Pt j 0,v11,V a0.Doc, .bool a0.aA, .slice none 0 0,V a0.ax,V a0.Read], .ae j (ay v4 v6 J a0.R), .gs J aw (aa aj), .gs v11 ar (aa an), .gs ab av (aa au)]):=dz
 obtain ⟨eB,eC,eD,eF,dA,b1,bc,rfl,rfl,ch⟩:=r4 F cg.eE a4 dy
 have dB:=cg.call b1
 have bF:=b1.ag
 refine fD rfl trivial a2 (dg dA rfl rfl rfl) dB (St.fJ b1) ?_
 intro eG dD
 refine yq 2 [(94,Pt j 1),(92, .agg #[bc]),(5,V U.2),(4,V U.1),(0,Pt I 0)] ?_
 have bd:St _ _ _ _ _ _ ([.ae j (ay v4 v6 J a0.R)]++[.ae bj (cw a1), .ae I [Pt j 0,v11,V a0.Doc, .bool a0.aA, .slice none 0 0,V a0.ax,V a0.Read], .gs J aw (aa aj), .gs v11 ar (aa an), .gs ab av (aa au)]):=(dD.front 2 rfl)
 refine g5 rfl trivial bd (gv (vs:=[bc]) (cD:=(ay v4 bc J a0.R)) (L':=[.ae j (ay v4 bc J a0.R)]) bd.sub (i:=0) rfl rfl rfl rfl (by kernel_rfl) (bt (RS.cY ch) cp) rfl rfl rfl) bF (.a3 (bd.bH 1 rfl bM) (.drop (by decide) (.a3 (bd.bH 1 rfl bM) (.a3 (bd.bH 1 rfl bM) .nil)))) ?_
 intro eH dE
 refine yf [(5,V U.2),(4,V U.1),(0,Pt I 0)] ?_
 have dG:=dE.a5
 obtain rfl:=si aN
 exact ⟨_,(⟨a0.R.L,dx,a0.R.D,a0.R.End⟩:aL),a0.Rows,a0.Doc,a0.aA,a0.ax,a0.Read,v4,bc,aw,ar,rfl,(aH.mono bF),ch,(bg.mono bF),(aJ.mono bF),(by kernel_rfl),((((((dG.front 4 rfl).front 4 rfl).front 2 rfl).front 4 rfl).front 5 rfl).takeN 5)⟩
 refine xn 0<|dF<|sk ?_
 obtain rfl:=si aN
 exact ⟨_,a0.R,a0.Rows,a0.Doc,a0.aA,a0.ax,a0.Read,v4,v6,aw,ar,rfl,aH,a4,bg,aJ,(by kernel_rfl),((((((az.front 4 rfl).front 4 rfl).front 4 rfl).front 4 rfl).front 5 rfl).takeN 5)⟩
def lH (F:Nat) (a0:aT) (a1:Int):Option aT:=
 if a0.Doc<(0:Int) then
  (ek F a0.R 0 2 a1 a1).bind fun j=>
  some (⟨j.2,a0.Rows,j.1,false,[],a0.ax,a0.Read⟩:aT)
 else
  some a0
theorem uA (F:Nat) {h:AH} {Z:Zn} {a0:aT} {a1:Int} {ab j v4 v6 J ad v11 U I af} (hP:Pre Z h [.ae ab [Pt j 0,v11,V a0.Doc, .bool a0.aA,I,V a0.ax,V a0.Read], .ae j (ay v4 v6 J a0.R), .gs J ad (aa aj), .gs v11 U (aa an), .gs I af (aa au)]) (ah:RS (α:=ak) Z v4 a0.R.L) (ao:RS (α:=aq) Z v6 a0.R.T.al) (ar:RCs (α:=aj) Z ad a0.R.D) (av:RCs (α:=an) Z U a0.Rows) (aG:RCs (α:=au) Z af a0.S) {r:aT} (hm:lH F a0 a1=some r):
  bQ Try.prog 45 [Pt ab 0,V a1] h Z [.ae ab [Pt j 0,v11,V a0.Doc, .bool a0.aA,I,V a0.ax,V a0.Read], .ae j (ay v4 v6 J a0.R), .gs J ad (aa aj), .gs v11 U (aa an), .gs I af (aa au)] fun v Z' A'=>∃ aw az aC aD aE aF, .tuple #[]=v∧A'=[.ae ab [Pt j 0,v11,V r.Doc, .bool r.aA,aE,V r.ax,V r.Read], .ae j (ay aw az J r.R), .gs J aC (aa aj), .gs v11 aD (aa an), .gs aE aF (aa au)]∧RS (α:=ak) Z' aw r.R.L∧RS (α:=aq) Z' az r.R.T.al∧RCs (α:=aj) Z' aC r.R.D∧RCs (α:=an) Z' aD r.Rows∧RCs (α:=au) Z' aF r.S:=by
 refine b5 Try.func45 hP ?_
 intro hs hS
 unfold lH at hm
 refine s0<|aB 3 0 (V a0.Doc) hS rfl<|aP 0 hm ?_ ?_<;>intro aZ hm
 refine xn 0<|dT<|s0<|aB 4 0 (Pt j 0) hS rfl ?_
 obtain ⟨ag,aH,hm⟩:=ai hm
 have aI:St _ _ _ _ _ _ ([.ae j (ay v4 v6 J a0.R), .gs J ad (aa aj)]++[.ae ab [Pt j 0,v11,V a0.Doc, .bool a0.aA,I,V a0.ax,V a0.Read], .gs v11 U (aa an), .gs I af (aa au)]):=((hS.front 2 rfl).front 2 rfl)
 refine cB 2 aI (fun p=>fT F p ah ao ar aH) ?_
 rintro _ a2 a3 _ aJ aK ⟨aL,aM,aN,rfl,rfl,aO,aR,aU⟩
 refine bA 2 2 (V ag.1) [V ag.1] [Pt j 0,v11,V ag.1, .bool a0.aA,I,V a0.ax,V a0.Read] aK rfl rfl rfl ?_
 intro a4 aV
 refine xn 0<|g0<|bA 4 2 (.bool false) [.bool false] [Pt j 0,v11,V ag.1, .bool false,I,V a0.ax,V a0.Read] aV rfl rfl rfl ?_
 intro a5 aW
 refine bA 2 2 (.slice none 0 0) [.slice none 0 0] [Pt j 0,v11,V ag.1, .bool false, .slice none 0 0,V a0.ax,V a0.Read] aW rfl rfl rfl ?_
 intro a6 aX
 refine xn 0 ?_
 have aY:=aX.c9 (aa au)
 obtain rfl:=si hm
 refine ⟨_,_,_,ResL.nil,((((((aY.front 0 rfl).front 4 rfl).front 3 rfl).front 3 rfl).front 4 rfl).takeN 5),?_⟩
 exact ⟨aL,aM,aN,U,(.slice none 0 0),[],rfl,rfl,aO,aR,aU,(av.mono aJ),(RCs.br _)⟩
 refine xn 0<|dF<|sk ?_
 obtain rfl:=si hm
 refine ⟨_,_,_,ResL.nil,hS,?_⟩
 exact ⟨v4,v6,ad,U,I,af,rfl,rfl,ah,ao,ar,av,aG⟩
def ln (F:Nat) (a0:aT) (a1:an):Nat→aL→(List an)→Int→Bool→(List au)→Int→Int→an→Int→(List a2)→Int→Int→Int→Option (Sum (aL×(List an)×Int×Bool×(List au)×Int×Int×an×Int) aT)
 | 0,_,_,_,_,_,_,_,_,_,_,_,_,_=>none
 | n+1,U,aa,ab,ad,ae,ag,ai,aj,al,J,ao,aq,I=>
  if I<(J.length:Int) then
   if 0≤I∧I<(J.length:Int) then
    (J[I.toNat]?).bind fun ar=>
    (correctorref12_parser_place F (⟨U,aa,ab,ad,ae,ag,ai⟩:aT) ar).bind fun j=>
    if (0:Int)<j.1 then
     if 0≤I∧I<(J.length:Int) then
      (J[I.toNat]?).bind fun av=>
      (dQ F j.2.R aq av.ah al j.1).bind fun aw=>
      some (.inr (⟨aw.2,j.2.Rows,j.2.Doc,j.2.aA,j.2.S,j.2.ax,j.2.Read⟩:aT))
     else none
    else
     if 0≤(af ((j.2.S.length:Int) - 1))∧(af ((j.2.S.length:Int) - 1))<(j.2.S.length:Int) then
      (j.2.S[(af ((j.2.S.length:Int) - 1)).toNat]?).bind fun ay=>
      ln F a0 a1 n j.2.R j.2.Rows j.2.Doc j.2.aA j.2.S j.2.ax j.2.Read aj al J ao ay.bP (af (I+1))
     else none
   else none
  else
   some (.inl (U,aa,ab,ad,ae,ag,ai,aj,ao))
def mi (F:Nat) (a0:aT) (a1:an):Option aT:=
 (gK F a0 a1.ah a1.To).bind fun U=>
 (lH F a0 U.1).bind fun I=>
 (mU F I.R.L a1).bind fun ab=>
 if (ab.1.length:Int)=(0:Int) then
  (n0 F I a1 U.1 U.2).bind fun aq=>
  some aq
 else
  (iM F I).bind fun ar=>
  ((ln F a0 a1 F I.R I.Rows I.Doc I.aA I.S I.ax I.Read a1 U.2 ab.1 ab.2 ar 0):Option (Sum (aL×(List an)×Int×Bool×(List au)×Int×Int×an×Int) aT)).bind fun o=>match o with
   | .inl (ad,ae,ag,ai,j,aj,al,av,aw)=>(gK F (⟨ad,ae,ag,ai,j,aj,al⟩:aT) aw av.To).bind fun ao=>
   if ao.1<ao.2 then
    if 0≤(af ((j.length:Int) - 1))∧(af ((j.length:Int) - 1))<(j.length:Int) then
     (j[(af ((j.length:Int) - 1)).toNat]?).bind fun ay=>
     (iC F (⟨ad,ae,ag,ai,j,aj,al⟩:aT) ay.bP ao.1).bind fun J=>
     if 0≤(af ((j.length:Int) - 1))∧(af ((j.length:Int) - 1))<(J.2.S.length:Int) then
      (J.2.S[(af ((j.length:Int) - 1)).toNat]?).bind fun aa=>
      some (⟨J.2.R,J.2.Rows,J.2.Doc,J.2.aA,J.2.S.set (af ((j.length:Int) - 1)).toNat (⟨aa.Node,aa.Kind,aa.aD,aa.bP,J.1⟩:au),J.2.ax,J.2.Read⟩:aT)
     else none
    else none
   else
    some (⟨ad,ae,ag,ai,j,aj,al⟩:aT)
   | .inr y=>some y
theorem Bx (F:Nat) {h:AH} {Z:Zn} {a0:aT} {a1:an} {I J v4 v6 ab bl v11 bm aO bn} (hP:Pre Z h [.ae I [Pt J 0,v11,V a0.Doc, .bool a0.aA,aO,V a0.ax,V a0.Read], .ae J (ay v4 v6 ab a0.R), .gs ab bl (aa aj), .gs v11 bm (aa an), .gs aO bn (aa au)]) (dh:RS (α:=ak) Z v4 a0.R.L) (dj:RS (α:=aq) Z v6 a0.R.T.al) (dk:RCs (α:=aj) Z bl a0.R.D) (dm:RCs (α:=an) Z bm a0.Rows) (dp:RCs (α:=au) Z bn a0.S) {r:aT} (hm:mi F a0 a1=some r):
  bQ Try.prog 43 [Pt I 0, .agg #[V a1.Kind,V a1.ah,V a1.To,V a1.aD]] h Z [.ae I [Pt J 0,v11,V a0.Doc, .bool a0.aA,aO,V a0.ax,V a0.Read], .ae J (ay v4 v6 ab a0.R), .gs ab bl (aa aj), .gs v11 bm (aa an), .gs aO bn (aa au)] fun v Z' A'=>∃ dq dr ds du dx dy dz, .tuple #[]=v∧A'=[.ae I [Pt J 0,v11,V r.Doc, .bool r.aA,dy,V r.ax,V r.Read], .ae J (ay dq dr ds r.R), .gs ds du (aa aj), .gs v11 dx (aa an), .gs dy dz (aa au)]∧RS (α:=ak) Z' dq r.R.L∧RS (α:=aq) Z' dr r.R.T.al∧RCs (α:=aj) Z' du r.R.D∧RCs (α:=an) Z' dx r.Rows∧RCs (α:=au) Z' dz r.S:=by
 refine b5 Try.func43 hP ?_
 intro hs hS
 unfold mi at hm
 refine s0<|df 0 [V a1.Kind,V a1.ah,V a1.To,V a1.aD] hS ?_
 intro aX fP cr
 refine xn 0<|s0<|aB 2 0 (V a1.ah) cr rfl<|aB 1 0 (V a1.To) cr rfl ?_
 obtain ⟨bb,eu,hm⟩:=ai hm
 refine cE 0 cr (fun fQ bI ew bJ=>j7 F ew (RS.mono bI dh) (RS.mono bI dj) (bf.row (bJ _ (List.mem_of_getElem? (i:=3) rfl)) bI dk) (bJ _ (List.mem_of_getElem? (i:=2) rfl)) (bf.row (bJ _ (List.mem_of_getElem? (i:=4) rfl)) bI dm) (bf.row (bJ _ (List.mem_of_getElem? (i:=5) rfl)) bI dp) (bJ _ (List.mem_of_getElem? (i:=1) rfl)) eu) ?_
 rintro _ fR ey rfl
 refine xn 5<|s0 ?_
 obtain ⟨ar,ez,hm⟩:=ai hm
 have eA:St _ _ _ _ _ _ ([.ae I [Pt J 0,v11,V a0.Doc, .bool a0.aA,aO,V a0.ax,V a0.Read], .ae J (ay v4 v6 ab a0.R), .gs ab bl (aa aj), .gs v11 bm (aa an), .gs aO bn (aa au)]++[.ae aX (cw a1)]):=(((((ey.front 5 rfl).front 5 rfl).front 5 rfl).front 5 rfl).front 5 rfl)
 refine cB 2 eA (fun p=>uA F p dh dj dk dm dp ez) ?_
 rintro _ fS fT _ fU eB ⟨bN,ct,cu,cx,bO,cy,rfl,rfl,bR,cA,cC,cD,cF⟩
 refine xn 0<|cU Bm eB ?_
 intro cG fV cH bS
 refine yq 3 [(29,Pt I 0),(5,V bb.2),(4,V bb.1),(3,Pt aX 0),(0,Pt I 0)] ?_
 have fW:I<cG:=cH.1 _ (List.mem_of_getElem? (i:=0) rfl) _ (by simp [Itm.ids])
 refine aW (v:=Pt J 0) rfl trivial rfl (by show I<_;omega) (aC (v:=Pt J 0) trivial) (bS.aU (i:=0) rfl (by kernel_rfl)) trivial<|yq 2 [(32,Pt J 0),(5,V bb.2),(4,V bb.1),(3,Pt aX 0),(0,Pt I 0)] ?_
 have fX:J<cG:=cH.1 _ (List.mem_of_getElem? (i:=1) rfl) _ (by simp [Itm.ids])
 refine aW (v:=bN) rfl trivial rfl (by show J<_;omega) (aC (v:=bN) (RS.dZ bR)) (bS.aU (i:=1) rfl (by kernel_rfl)) trivial ?_
 have fY:aX<cG:=cH.1 _ (List.mem_of_getElem? (i:=5) rfl) _ (by simp [Itm.ids])
 refine aW (v:= .agg #[V a1.Kind,V a1.ah,V a1.To,V a1.aD]) rfl trivial rfl (by show aX<_;omega) (iG (cs:=[V a1.Kind,V a1.ah,V a1.To,V a1.aD]) (.cons trivial (.cons trivial (.cons trivial (.cons trivial .nil))))) (bS.aU (i:=5) rfl (by kernel_rfl)) trivial ?_
 obtain ⟨cI,eC,hm⟩:=ai hm
 have eD:=bS.cJ
 have dA:St _ _ _ _ _ _ ([]++[.ae I [Pt J 0,v11,V ar.Doc, .bool ar.aA,bO,V ar.ax,V ar.Read], .ae J (ay bN ct ab ar.R), .gs ab cu (aa aj), .gs v11 cx (aa an), .gs bO cy (aa au), .ae aX (cw a1)]):=eD
 obtain ⟨fZ,ga,gb,gd,eF,cK,ch,dB,rfl,rfl,dD⟩:=BW F dA.eE bR eC
 have eG:=dA.call cK
 have az:=cK.ag
 refine fD rfl trivial bS (dg eF rfl rfl rfl) eG (St.fJ cK) ?_
 intro gf eH
 refine ye 5 [(7,V cI.2),(6,ch),(5,V bb.2),(4,V bb.1),(3,Pt aX 0),(0,Pt I 0)] ?_
 have cj:=eH.a5
 refine sq<|s0<|bG 1 ch (cj.da (i:=0) rfl dD)<|aE 0 hm ?_ ?_<;>intro gg hm
 refine xn 0<|dT<|s0<|aB 1 6 (.agg #[V a1.Kind,V a1.ah,V a1.To,V a1.aD]) cj rfl ?_
 obtain ⟨gh,eI,hm⟩:=ai hm
 have eK:St _ _ _ _ _ _ ([.ae I [Pt J 0,v11,V ar.Doc, .bool ar.aA,bO,V ar.ax,V ar.Read], .ae J (ay bN ct ab ar.R), .gs ab cu (aa aj), .gs v11 cx (aa an), .gs bO cy (aa au)]++[.gs ch dB (aa a2), .ae aX (cw a1)]):=(((((cj.front 5 rfl).front 5 rfl).front 5 rfl).front 5 rfl).front 5 rfl)
 refine cB 2 eK (fun p=>Ca F p (bR.mono az) (cA.mono az) (cC.mono az) (cD.mono az) (cF.mono az) eI) ?_
 rintro _ gi gj _ gk eL ⟨eM,eN,eO,eP,eQ,eR,eS,rfl,rfl,eT,eU,eV,eW,eX⟩
 refine xn 0<|rt<|⟨rfl,?_⟩
 obtain rfl:=si hm
 refine ⟨_,_,_,ResL.nil,(eL.takeN 5),?_⟩
 exact ⟨eM,eN,eO,eP,eQ,eR,eS,rfl,rfl,eT,eU,eV,eW,eX⟩
 refine xn 0<|dF<|sk<|s0 ?_
 obtain ⟨eY,eZ,hm⟩:=ai hm
 refine cE 1 cj (fun gl bT e0 bU=>mP F e0 (RS.mono bT (bR.mono az)) (RS.mono bT (cA.mono az)) (bf.row (bU _ (List.mem_of_getElem? (i:=3) rfl)) bT (cC.mono az)) (bU _ (List.mem_of_getElem? (i:=2) rfl)) (bf.row (bU _ (List.mem_of_getElem? (i:=4) rfl)) bT (cD.mono az)) (bf.row (bU _ (List.mem_of_getElem? (i:=5) rfl)) bT (cF.mono az)) (bU _ (List.mem_of_getElem? (i:=1) rfl)) eZ) ?_
 rintro _ gm e2 rfl
 refine xn 1<|sq<|sp 1 ?_
 obtain ⟨cL,U,hm⟩:=ai hm
 refine aI [0,3,7] (fun l h=>∃ bc aY bV bo bp aw br bt bu cM bW bX bY bZ ad b0 b1, .inl (aY,bV,bo,bp,aw,br,bt,bu,cM)=cL∧RS (α:=ak) bc bW aY.L∧RS (α:=aq) bc bX aY.T.al∧RCs (α:=aj) bc bY aY.D∧RCs (α:=an) bc bZ bV∧RCs (α:=au) bc b0 aw∧l=[(0,Pt I 0),(3,Pt b1 0),(7,V cM)]∧St hs (aR [.ae I [Pt J 0,v11,V a0.Doc, .bool a0.aA,aO,V a0.ax,V a0.Read], .ae J (ay v4 v6 ab a0.R), .gs ab bl (aa aj), .gs v11 bm (aa an), .gs aO bn (aa au)]) Z (0,0) bc h [.ae I [Pt J 0,v11,V bo, .bool bp,ad,V br,V bt], .ae J (ay bW bX ab aY), .gs ab bY (aa aj), .gs v11 bZ (aa an), .gs ad b0 (aa au), .ae b1 (cw bu)]) ?_ ?_
 rintro l gn ⟨bc,aY,bV,bo,bp,aw,br,bt,bu,cM,bW,bX,bY,bZ,ad,b0,b1,rfl,cP,cQ,cR,cS,bd,rfl,dE⟩
 try dsimp only at hm
 refine s0<|aB 3 5 (V bu.To) dE rfl ?_
 obtain ⟨b2,e3,hm⟩:=ai hm
 refine cE 0 dE (fun gq b3 e4 b4=>j7 F (a0:=(⟨aY,bV,bo,bp,aw,br,bt⟩:aT)) e4 (RS.mono b3 cP) (RS.mono b3 cQ) (bf.row (b4 _ (List.mem_of_getElem? (i:=2) rfl)) b3 cR) (b4 _ (List.mem_of_getElem? (i:=1) rfl)) (bf.row (b4 _ (List.mem_of_getElem? (i:=3) rfl)) b3 cS) (bf.row (b4 _ (List.mem_of_getElem? (i:=4) rfl)) b3 bd) (b4 _ (List.mem_of_getElem? (i:=0) rfl)) e3) ?_
 rintro _ gr ck rfl
 refine xn 5<|s0<|aP 2 hm ?_ ?_<;>intro gu hm
 refine xn 0<|dT<|s0<|aB 3 0 ad ck rfl<|bG 0 ad (ck.da (i:=4) rfl bd)<|xn 2<|ee vU ck ?_
 intro cT gv cX a8
 refine yq 3 [(107,Pt I 4),(13,V (af ((aw.length:Int) - 1))),(11,V b2.1),(0,Pt I 0)] ?_
 have gw:I<cT:=cX.1 _ (List.mem_of_getElem? (i:=0) rfl) _ (by simp [Itm.ids])
 refine aW (v:=ad) rfl trivial rfl (by show I<_;omega) (aC (v:=ad) (a8.dv (i:=4) rfl)) (a8.aU (i:=0) rfl (by kernel_rfl)) trivial<|yq 5 [(113,Pt I 4),(110,Pt I 0),(109,V (af ((aw.length:Int) - 1))),(108,ad),(13,V (af ((aw.length:Int) - 1))),(11,V b2.1)] ?_
 have gx:I<cT:=cX.1 _ (List.mem_of_getElem? (i:=0) rfl) _ (by simp [Itm.ids])
 refine aW (v:=ad) rfl trivial rfl (by show I<_;omega) (aC (v:=ad) (a8.dv (i:=4) rfl)) (a8.aU (i:=0) rfl (by kernel_rfl)) trivial<|yq 1 [(115,V (af ((aw.length:Int) - 1))),(114,ad),(110,Pt I 0),(109,V (af ((aw.length:Int) - 1))),(108,ad),(11,V b2.1)] ?_
 obtain ⟨dG,hm⟩:=aK hm
 refine aG rfl trivial (bF rfl rfl (by kernel_rfl:slTy _ _=some (aa au)) (a8.bK (j:=4) rfl bd (by omega)) dG.1 dG.2)<|yq 1 [(117, .pointer (some (bj ad (af ((aw.length:Int) - 1)) (aa au) 3))),(110,Pt I 0),(109,V (af ((aw.length:Int) - 1))),(108,ad),(11,V b2.1)] ?_
 obtain ⟨cY,dH,hm⟩:=ai hm
 obtain ⟨gy,e5,e6,gA⟩:=a8.cm (j:=4) rfl bd (i:=af ((aw.length:Int) - 1)) dH
 obtain rfl:=ec e5
 have e7:=dw dH
 have e8:=a8.bK (j:=4) rfl bd e7
 have gB:(baseOf ad).block<cT:=dn (cX.1 _ (List.mem_of_getElem? (i:=4) rfl)) e8
 refine di rfl trivial rfl (by show (baseOf ad).block<_;omega) (aC (v:=V cY.bP) trivial) (bL (w:=V cY.bP) e6 rfl (by kernel_rfl)) trivial<|yq 1 [(119,V b2.1),(118,V cY.bP),(110,Pt I 0),(109,V (af ((aw.length:Int) - 1))),(108,ad)] ?_
 obtain ⟨a4,e9,hm⟩:=ai hm
 have dI:St _ _ _ _ _ _ ([.ae I [Pt J 0,v11,V bo, .bool bp,ad,V br,V bt], .ae J (ay bW bX ab aY), .gs ab bY (aa aj), .gs v11 bZ (aa an), .gs ad b0 (aa au)]++[.ae b1 (cw bu)]):=(((((a8.front 4 rfl).front 4 rfl).front 4 rfl).front 4 rfl).front 4 rfl)
 obtain ⟨gC,gD,gE,gF,fa,c0,dJ,dK,c3,dL,dM,fb,rfl,rfl,fc,fe,ff,fg,c4⟩:=pn F (a0:=(⟨aY,bV,bo,bp,aw,br,bt⟩:aT)) dI.cJ.eE cP cQ cR cS bd e9
 have dN:=c0.ag
 refine fG rfl trivial dI (dg fa rfl rfl rfl) c0 dN (.drop (by decide) (.drop (by decide) (.qt (c0.aU (i:=0) rfl (by kernel_rfl)) .nil))) ?_
 intro gG c5
 obtain ⟨dO,hm⟩:=aK hm
 refine aG rfl trivial (bF rfl rfl (by kernel_rfl:slTy _ _=some (aa au)) (c5.bK (j:=4) rfl c4 (by omega)) dO.1 dO.2)<|yq 1 [(122, .pointer (some (bj ad (af ((aw.length:Int) - 1)) (aa au) 4))),(120, .bool a4.1)] ?_
 obtain ⟨a9,dP,hm⟩:=ai hm
 obtain ⟨gH,fi,gI,fj⟩:=c5.cm (j:=4) rfl c4 (i:=af ((aw.length:Int) - 1)) dP
 obtain rfl:=ec fi
 have c6:St _ _ _ _ _ _ ([.gs ad fb (aa au)]++[.ae I [Pt J 0,v11,V a4.2.Doc, .bool a4.2.aA,ad,V a4.2.ax,V a4.2.Read], .ae J (ay dJ dK c3 a4.2.R), .gs c3 dL (aa aj), .gs v11 dM (aa an), .ae b1 (cw bu)]):=(c5.front 4 rfl)
 refine kg rfl trivial c6 (gz (u':=(⟨a9.Node,a9.Kind,a9.aD,a9.bP,a4.1⟩:au)) (vs:=[.bool a4.1]) (aZ:=[V a9.Node,V a9.Kind,V a9.aD,V a9.bP, .bool a4.1]) c6.sub (m:=0) rfl c4 dP fj rfl rfl rfl (by kernel_rfl) rfl rfl rfl rfl) dN (.drop (by decide) (.drop (by decide) (.a3 (c6.bH 0 rfl bM) .nil))) ?_
 rintro gJ fk ⟨fl,fm⟩
 refine yf [] ?_
 have fo:=fm.a5
 obtain rfl:=si hm
 refine ⟨_,_,_,ResL.nil,((((((fo.front 0 rfl).front 4 rfl).front 4 rfl).front 4 rfl).front 4 rfl).takeN 5),?_⟩
 exact ⟨dJ,dK,c3,dL,dM,ad,fk,rfl,rfl,fc,fe,ff,fg,fl⟩
 refine xn 0<|dF<|sk ?_
 obtain rfl:=si hm
 refine ⟨_,_,_,ResL.nil,(ck.takeN 5),?_⟩
 exact ⟨bW,bX,ab,bY,bZ,ad,b0,rfl,rfl,cP,cQ,cR,cS,bd⟩
 refine bk 0<|lp [0,3,5,6,7,8,9] (fun n l h=>∃ ba a6 b6 bx bz b7 bA bB bg aF cl aV aM aH b8 b9 ca cb bC cc aL av bD,ln F a0 a1 n a6 b6 bx bz b7 bA bB bg aF cl aV aM aH=some cL∧RS (α:=ak) ba b8 a6.L∧RS (α:=aq) ba b9 a6.T.al∧RCs (α:=aj) ba ca a6.D∧RCs (α:=an) ba cb b6∧RCs (α:=au) ba cc b7∧RCs (α:=a2) ba bD cl∧l=[(0,Pt I 0),(3,Pt aL 0),(5,V aF),(6,av),(7,V aV),(8,V aM),(9,V aH)]∧St hs (aR [.ae I [Pt J 0,v11,V a0.Doc, .bool a0.aA,aO,V a0.ax,V a0.Read], .ae J (ay v4 v6 ab a0.R), .gs ab bl (aa aj), .gs v11 bm (aa an), .gs aO bn (aa au)]) Z (0,0) ba h [.ae I [Pt J 0,v11,V bx, .bool bz,bC,V bA,V bB], .ae J (ay b8 b9 ab a6), .gs ab ca (aa aj), .gs v11 cb (aa an), .gs bC cc (aa au), .ae aL (cw bg), .gs av bD (aa a2)]) F ⟨_,ar.R,ar.Rows,ar.Doc,ar.aA,ar.S,ar.ax,ar.Read,a1,bb.2,cI.1,cI.2,eY,0,bN,ct,cu,cx,bO,cy,aX,ch,dB,U,(bR.mono az),(cA.mono az),(cC.mono az),(cD.mono az),(cF.mono az),dD,(by kernel_rfl),(((((((e2.front 0 rfl).front 6 rfl).front 6 rfl).front 6 rfl).front 6 rfl).front 6 rfl).front 6 rfl)⟩ ?_
 rintro c7 l gK ⟨ba,a6,b6,bx,bz,b7,bA,bB,bg,aF,cl,aV,aM,aH,b8,b9,ca,cb,bC,cc,aL,av,bD,U,dQ,dR,dS,dU,dV,bh,rfl,cd⟩
 rcases c7 with _ | c7
 cases (show none=some cL from U)
 rw [ln] at U
 refine sq<|s0<|bG 2 av (cd.da (i:=6) rfl bh)<|aP 0 U ?_ ?_<;>intro gL U
 refine xn 0<|dT<|sk<|sq<|bk 1<|s0<|eJ 3 6 U cd bh rfl ?_
 intro gM U
 refine fv 0 0 6 (fun cf=> .agg #[.bool cf.ik,V cf.aD,V cf.ah,V cf.To]) U cd bh rfl ?_
 intro cf gN U
 obtain ⟨ao,fp,U⟩:=ai U
 have fq:St _ _ _ _ _ _ ([.ae I [Pt J 0,v11,V bx, .bool bz,bC,V bA,V bB], .ae J (ay b8 b9 ab a6), .gs ab ca (aa aj), .gs v11 cb (aa an), .gs bC cc (aa au)]++[.ae aL (cw bg), .gs av bD (aa a2)]):=(((((cd.front 4 rfl).front 4 rfl).front 4 rfl).front 4 rfl).front 4 rfl)
 refine cB 0 fq (fun p=>AG F (a0:=(⟨a6,b6,bx,bz,b7,bA,bB⟩:aT)) p dQ dR dS dU dV fp) ?_
 rintro _ gP gQ _ cn dW ⟨dX,dY,ea,c8,aJ,c9,rfl,rfl,eb,ed,eg,eh,bE⟩
 refine xn 1<|sq<|s0<|cz 1 U ?_ ?_<;>intro gR U
 refine xn 0<|dT<|cU y8 dW ?_
 intro ei gS ej cg
 refine yq 3 [(64,Pt I 0),(10,V ao.1),(5,V aF),(6,av),(8,V aM),(9,V aH)] ?_
 have gT:I<ei:=ej.1 _ (List.mem_of_getElem? (i:=0) rfl) _ (by simp [Itm.ids])
 refine aW (v:=Pt J 0) rfl trivial rfl (by show I<_;omega) (aC (v:=Pt J 0) trivial) (cg.aU (i:=0) rfl (by kernel_rfl)) trivial<|yq 3 [(68,V aH),(67,av),(66,V aM),(65,Pt J 0),(10,V ao.1),(5,V aF)] ?_
 obtain ⟨ek,U⟩:=aK U
 refine aG rfl trivial (bF rfl rfl (by kernel_rfl:slTy _ _=some (aa a2)) (cg.bK (j:=6) rfl (bh.mono cn) (by omega)) ek.1 ek.2)<|yq 1 [(70, .pointer (some (bj av aH (aa a2) 2))),(66,V aM),(65,Pt J 0),(10,V ao.1),(5,V aF)] ?_
 obtain ⟨db,en,U⟩:=ai U
 obtain ⟨gU,fr,fs,gV⟩:=cg.cm (j:=6) rfl (bh.mono cn) (i:=aH) en
 obtain rfl:=tS fr
 have ft:=dw en
 have eo:=cg.bK (j:=6) rfl (bh.mono cn) ft
 have gW:(baseOf av).block<ei:=dn (ej.1 _ (List.mem_of_getElem? (i:=6) rfl)) eo
 refine di rfl trivial rfl (by show (baseOf av).block<_;omega) (aC (v:=V db.ah) trivial) (bL (w:=V db.ah) fs rfl (by kernel_rfl)) trivial<|yq 2 [(73,V ao.1),(72,V aF),(71,V db.ah),(66,V aM),(65,Pt J 0)] ?_
 obtain ⟨gX,fu,U⟩:=ai U
 have cp:St _ _ _ _ _ _ ([.ae J (ay dX dY ab ao.2.R), .gs ab ea (aa aj)]++[.ae I [Pt J 0,v11,V ao.2.Doc, .bool ao.2.aA,aJ,V ao.2.ax,V ao.2.Read], .gs v11 c8 (aa an), .gs aJ c9 (aa au), .ae aL (cw bg), .gs av bD (aa a2)]):=((cg.front 2 rfl).front 2 rfl)
 obtain ⟨gY,gZ,g0,g1,fw,ep,fx,fy,fz,fA,rfl,rfl,fB,fC,fE⟩:=fh F cp.cJ.eE eb ed eg fu
 have dc:=ep.ag
 refine fG rfl trivial cp (dg fw rfl rfl rfl) ep dc (.a3 (cp.bH 4 rfl (km eo)) (.a3 (cp.bH 0 rfl bM) .nil)) ?_
 intro g2 fH
 refine yf [] ?_
 have fI:=fH.a5
 refine rt<|bw<|bw<|⟨rfl,?_⟩
 obtain rfl:=si U
 obtain rfl:=si hm
 refine ⟨_,_,_,ResL.nil,((((((fI.front 4 rfl).front 4 rfl).front 3 rfl).front 3 rfl).front 4 rfl).takeN 5),?_⟩
 exact ⟨fx,fy,fz,fA,c8,aJ,c9,rfl,rfl,fB,fC,fE,(eh.mono dc),(bE.mono dc)⟩
 refine xn 0<|dF<|sk<|ee Et dW ?_
 intro dd g3 de a7
 refine yq 3 [(77,Pt I 4),(0,Pt I 0),(3,Pt aL 0),(5,V aF),(6,av),(7,V aV),(8,V aM),(9,V aH)] ?_
 have g4:I<dd:=de.1 _ (List.mem_of_getElem? (i:=0) rfl) _ (by simp [Itm.ids])
 refine aW (v:=aJ) rfl trivial rfl (by show I<_;omega) (aC (v:=aJ) (a7.dv (i:=4) rfl)) (a7.aU (i:=0) rfl (by kernel_rfl)) trivial<|yq 3 [(81,Pt I 4),(78,aJ),(0,Pt I 0),(3,Pt aL 0),(5,V aF),(6,av),(7,V aV),(8,V aM),(9,V aH)] ?_
 have g5:I<dd:=de.1 _ (List.mem_of_getElem? (i:=0) rfl) _ (by simp [Itm.ids])
 refine aW (v:=aJ) rfl trivial rfl (by show I<_;omega) (aC (v:=aJ) (a7.dv (i:=4) rfl)) (a7.aU (i:=0) rfl (by kernel_rfl)) trivial<|aG rfl trivial (gO rfl (a7.da (i:=4) rfl bE) ⟨_,Try.underlying59⟩)<|yq 1 [(84,V (af ((ao.2.S.length:Int) - 1))),(78,aJ),(0,Pt I 0),(3,Pt aL 0),(5,V aF),(6,av),(7,V aV),(8,V aM),(9,V aH)] ?_
 obtain ⟨er,U⟩:=aK U
 refine aG rfl trivial (bF rfl rfl (by kernel_rfl:slTy _ _=some (aa au)) (a7.bK (j:=4) rfl bE (by omega)) er.1 er.2)<|yq 1 [(86, .pointer (some (bj aJ (af ((ao.2.S.length:Int) - 1)) (aa au) 3))),(0,Pt I 0),(3,Pt aL 0),(5,V aF),(6,av),(7,V aV),(8,V aM),(9,V aH)] ?_
 obtain ⟨cq,et,U⟩:=ai U
 obtain ⟨g6,fK,fL,g7⟩:=a7.cm (j:=4) rfl bE (i:=af ((ao.2.S.length:Int) - 1)) et
 obtain rfl:=ec fK
 have fM:=dw et
 have fN:=a7.bK (j:=4) rfl bE fM
 have g8:(baseOf aJ).block<dd:=dn (de.1 _ (List.mem_of_getElem? (i:=4) rfl)) fN
 refine di rfl trivial rfl (by show (baseOf aJ).block<_;omega) (aC (v:=V cq.bP) trivial) (bL (w:=V cq.bP) fL rfl (by kernel_rfl)) trivial<|ye 1 [(8,V cq.bP),(0,Pt I 0),(3,Pt aL 0),(5,V aF),(6,av),(7,V aV),(9,V aH)] ?_
 have fO:=a7.a5
 refine gp 3 ?_
 exact ⟨c7,Nat.lt_succ_self _,⟨_,ao.2.R,ao.2.Rows,ao.2.Doc,ao.2.aA,ao.2.S,ao.2.ax,ao.2.Read,bg,aF,cl,aV,cq.bP,af (aH+1),dX,dY,ea,c8,aJ,c9,aL,av,bD,U,eb,ed,eg,eh,bE,(bh.mono cn),(by kernel_rfl),fO⟩⟩
 refine xn 0<|dF<|xt 0<|aN ?_
 obtain rfl:=si U
 exact ⟨_,a6,b6,bx,bz,b7,bA,bB,bg,aV,b8,b9,ca,cb,bC,cc,aL,rfl,dQ,dR,dS,dU,dV,(by kernel_rfl),(cd.takeN 6)⟩
end Go.Proofs.Ytcilejikekccmaa.M
