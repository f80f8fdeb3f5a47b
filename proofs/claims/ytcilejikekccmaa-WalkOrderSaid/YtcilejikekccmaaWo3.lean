/- Packed by a program of this session (mini.py). -/
import Derived.Test.YtcilejikekccmaaWo2
set_option linter.unusedVariables false
set_option linter.unusedSimpArgs false
set_option maxRecDepth 20000
namespace Go.Proofs.Ytcilejikekccmaa.M
open Go Am Sy
open Sy.Cell (rc)
structure aj where
 Code:Int
 ai:Int
 To:Int
 deriving DecidableEq,Inhabited
instance:Cell aj where
 size:=3
 rc Z cs x:=cs=[V x.Code,V x.ai,V x.To]
 len h:=by rw [h];rfl
 mono _ h:=h
 one h:=by rw [h];rfl
 pos:=by decide
theorem nw {Z:Zn} {cs:List Value} {x:aj} (h:rc Z cs x):cs=[V x.Code,V x.ai,V x.To]:=h
abbrev yT (x:aj):List Value:=[V x.Code,V x.ai,V x.To]
instance:FC aj:=⟨yT,fun q=>q⟩
structure aL where
 L:List al
 T:cG
 D:List aj
 End:Int
 deriving DecidableEq,Inhabited
instance:Cell aL where
 size:=4
 rc Z cs x:=∃ v0,RS (α:=al) Z v0 x.L∧∃ v1,RS (α:=aq) Z v1 x.T.ak∧∃ v2,RS (α:=aj) Z v2 x.D∧cs=[v0,v1,v2,V x.End]
 len h:=by obtain ⟨v0,j,v1,I,v2,J,h⟩:=h;rw [h];rfl
 mono hz h:=by obtain ⟨v0,j,v1,I,v2,J,h⟩:=h;exact ⟨v0,j.mono hz,v1,I.mono hz,v2,J.mono hz,h⟩
 one h:=by obtain ⟨v0,j,v1,I,v2,J,h⟩:=h;subst h;exact (br j.c7 (br I.c7 (br J.c7 (br rfl cm))))
 pos:=by decide
abbrev ay (v0 v1 v2:Value) (x:aL):List Value:=[v0,v1,v2,V x.End]
structure au where
 Node:Int
 Kind:Int
 aE:Int
 bV:Int
 Has:Bool
 deriving DecidableEq,Inhabited
instance:Cell au where
 size:=5
 rc Z cs x:=cs=[V x.Node,V x.Kind,V x.aE,V x.bV, .bool x.Has]
 len h:=by rw [h];rfl
 mono _ h:=h
 one h:=by rw [h];rfl
 pos:=by decide
theorem et {Z:Zn} {cs:List Value} {x:au} (h:rc Z cs x):cs=[V x.Node,V x.Kind,V x.aE,V x.bV, .bool x.Has]:=h
abbrev rZ (x:au):List Value:=[V x.Node,V x.Kind,V x.aE,V x.bV, .bool x.Has]
instance:FC au:=⟨rZ,fun q=>q⟩
structure aV where
 R:aL
 Rows:List an
 Doc:Int
 aA:Bool
 S:List au
 aw:Int
 Read:Int
 deriving DecidableEq,Inhabited
theorem z2 {x y:aj} (h:x=y):aBin Try.prog .eql 92 (.agg #[V x.Code,V x.ai,V x.To]) (.agg #[V y.Code,V y.ai,V y.To])=some (.bool true):=by
 subst h
 refine uq Try.underlying92 (by kernel_rfl) (by kernel_rfl) (w:=true)<|ly (by decide) rfl rfl ((iU ⟨_,Try.underlying3⟩).trans (by simp))<|ly (by decide) rfl rfl ((iU ⟨_,Try.underlying3⟩).trans (by simp))<|ly (by decide) rfl rfl ((iU ⟨_,Try.underlying3⟩).trans (by simp)) ?_
 rfl
theorem zg {x y:aj} (h:¬ x=y):aBin Try.prog .eql 92 (.agg #[V x.Code,V x.ai,V x.To]) (.agg #[V y.Code,V y.ai,V y.To])=some (.bool false):=by
 refine uq Try.underlying92 (by kernel_rfl) (by kernel_rfl) (w:=false) ?_
 by_cases h0:x.Code=y.Code
 case neg=>exact qm (by decide) rfl rfl ((iU ⟨_,Try.underlying3⟩).trans (by simp [h0]))
 refine ly (by decide) rfl rfl ((iU ⟨_,Try.underlying3⟩).trans (by simp [h0])) ?_
 by_cases h1:x.ai=y.ai
 case neg=>exact qm (by decide) rfl rfl ((iU ⟨_,Try.underlying3⟩).trans (by simp [h1]))
 refine ly (by decide) rfl rfl ((iU ⟨_,Try.underlying3⟩).trans (by simp [h1])) ?_
 by_cases h2:x.To=y.To
 case neg=>exact qm (by decide) rfl rfl ((iU ⟨_,Try.underlying3⟩).trans (by simp [h2]))
 refine ly (by decide) rfl rfl ((iU ⟨_,Try.underlying3⟩).trans (by simp [h2])) ?_
 exact absurd (by cases x;cases y;simp_all) h
def correctorref12_parser_counting_l0 (F:Nat) (a0:aV) (a1:Int) (I:Int):Nat→Int→Option Int
 | 0,_=>none
 | n+1,j=>
  if j<I then
   if 0≤j∧j<(a0.R.L.length:Int) then
    (a0.R.L[j.toNat]?).bind fun J=>
    (fA F J.Kind).bind fun U=>
    if U=true then
     some j
    else
     correctorref12_parser_counting_l0 F a0 a1 I n (af (j+1))
   else none
  else
   some j
def correctorref12_parser_counting_l1 (F:Nat) (a0:aV) (a1:Int) (J:Int):Nat→Int→Int→Option (Int×Int)
 | 0,_,_=>none
 | n+1,I,j=>
  if I<j then
   if 0≤(af (j - 1))∧(af (j - 1))<(a0.R.L.length:Int) then
    (a0.R.L[(af (j - 1)).toNat]?).bind fun U=>
    (fA F U.Kind).bind fun aa=>
    if aa=true then
     some (I,j)
    else
     correctorref12_parser_counting_l1 F a0 a1 J n I (af (j - 1))
   else none
  else
   some (I,j)
def g6 (F:Nat) (a0:aV) (a1:Int) (j:Int):Option (Int×Int):=
 ((correctorref12_parser_counting_l0 F a0 a1 j F a1):Option Int).bind fun o=>match o with
  | I=>((correctorref12_parser_counting_l1 F a0 a1 j F I j):Option (Int×Int)).bind fun o=>match o with
   | (J,U)=>some (J,U)
theorem j4 (F:Nat) {h:AH} {Z:Zn} {a0:aV} {a1:Int} {aa:Int} {ai ao v4 v6 aF v11 aG} (hI:Inv Z h) (ar:RS (α:=al) Z v4 a0.R.L) (a4:RS (α:=aq) Z v6 a0.R.T.ak) (a5:RS (α:=aj) Z aF a0.R.D) (aH:Z ao=some (ay v4 v6 aF a0.R)) (a6:RS (α:=an) Z v11 a0.Rows) (a7:RS (α:=au) Z aG a0.S) (aJ:Z ai=some [Pt ao 0,v11,V a0.Doc, .bool a0.aA,aG,V a0.aw,V a0.Read]) {r:Int×Int} (hm:g6 F a0 a1 aa=some r):
  b3 Try.prog 44 [Pt ai 0,V a1,V aa] h Z (.tuple #[V r.1,V r.2]):=by
 refine b4 Try.func44 hI ?_
 intro hs hS
 unfold g6 at hm
 refine sp 2<|sp 4<|sq ?_
 obtain ⟨aB,j,hm⟩:=ah hm
 refine aI [0,8,9] (fun l h=>∃ aK av,av=aB∧l=[(0,Pt ai 0),(8,V av),(9,V aa)]∧St hs [] Z (0,0) aK h []) ?_ ?_
 rintro l a8 ⟨aK,av,rfl,rfl,aX⟩
 try dsimp only at hm
 refine sq ?_
 obtain ⟨aC,I,hm⟩:=ah hm
 refine aI [8,9] (fun l h=>∃ aL ax az,(ax,az)=aC∧l=[(8,V ax),(9,V az)]∧St hs [] Z (0,0) aL h []) ?_ ?_
 rintro l a9 ⟨aL,ax,az,rfl,rfl,aY⟩
 try dsimp only at hm
 refine sp 4<|rt<|⟨rfl,?_⟩
 obtain rfl:=si hm
 refine ⟨_,_,_,tk (V ax) (tk (V az) (ResL.nil)),aY,?_⟩
 exact rfl
 refine bk 2<|lp [0,8,9] (fun n l h=>∃ aM ab ad,correctorref12_parser_counting_l1 F a0 a1 aa n ab ad=some aC∧l=[(0,Pt ai 0),(8,V ab),(9,V ad)]∧St hs [] Z (0,0) aM h []) F ⟨_,av,aa,I,(by kernel_rfl),aX⟩ ?_
 rintro aD l ba ⟨aM,ab,ad,I,rfl,J⟩
 rcases aD with _ | aD
 cases (show none=some aC from I)
 rw [correctorref12_parser_counting_l1] at I
 refine sq<|s0<|cH 2 I ?_ ?_<;>intro bb I
 refine bw 4 (Pt ao 0) J (J.ag _ _ aJ)<|bw 2 v4 J (J.ag _ _ aH)<|a2 2 I (ar.mono J.ag) ?_
 intro bc I
 refine bm 1 0 (fun aQ=>V aQ.Kind) I (ar.mono J.ag) J ?_
 intro aQ bd I
 obtain ⟨bf,aZ,I⟩:=ah I
 refine cP 0 J (ja F J.inv aZ) ?_
 rintro _ bg aR rfl
 refine kb 0 48 I ?_ ?_<;>intro bh I
 refine xn 2<|dF<|xt 2<|aO ?_
 obtain rfl:=si I
 exact ⟨_,ab,ad,rfl,(by kernel_rfl),aR⟩
 refine xn 2<|dT<|sk<|bk 3<|gp 3 ?_
 exact ⟨aD,Nat.lt_succ_self _,⟨_,ab,af (ad - 1),I,(by kernel_rfl),aR⟩⟩
 refine xn 16<|dF<|xt 2<|aO ?_
 obtain rfl:=si I
 exact ⟨_,ab,ad,rfl,(by kernel_rfl),J⟩
 refine bk 0<|lp [0,8,9] (fun n l h=>∃ aS ae,correctorref12_parser_counting_l0 F a0 a1 aa n ae=some aB∧l=[(0,Pt ai 0),(8,V ae),(9,V aa)]∧St hs [] Z (0,0) aS h []) F ⟨_,a1,j,(by kernel_rfl),hS⟩ ?_
 rintro aE l bj ⟨aS,ae,j,rfl,U⟩
 rcases aE with _ | aE
 cases (show none=some aB from j)
 rw [correctorref12_parser_counting_l0] at j
 refine sq<|s0<|aP 2 j ?_ ?_<;>intro bl j
 refine bw 4 (Pt ao 0) U (U.ag _ _ aJ)<|bw 2 v4 U (U.ag _ _ aH)<|a2 1 j (ar.mono U.ag) ?_
 intro bn j
 refine bm 1 0 (fun aU=>V aU.Kind) j (ar.mono U.ag) U ?_
 intro aU bo j
 obtain ⟨bp,a3,j⟩:=ah j
 refine cP 0 U (ja F U.inv a3) ?_
 rintro _ bq aW rfl
 refine kb 0 27 j ?_ ?_<;>intro br j
 refine xn 2<|dF<|xt 0<|aO ?_
 obtain rfl:=si j
 exact ⟨_,ae,rfl,(by kernel_rfl),aW⟩
 refine xn 2<|dT<|sk<|bk 1<|gp 3 ?_
 exact ⟨aE,Nat.lt_succ_self _,⟨_,af (ae+1),j,(by kernel_rfl),aW⟩⟩
 refine xn 15<|dF<|xt 0<|aO ?_
 obtain rfl:=si j
 exact ⟨_,ae,rfl,(by kernel_rfl),U⟩
def kO (F:Nat) (a0:aV) (a1:Int):Nat→Int→Option Int
 | 0,_=>none
 | n+1,j=>
  if j<(a0.R.L.length:Int) then
   if 0≤j∧j<(a0.R.L.length:Int) then
    (a0.R.L[j.toNat]?).bind fun I=>
    if I.Kind=(20:Int) then
     some j
    else
     if 0≤j∧j<(a0.R.L.length:Int) then
      (a0.R.L[j.toNat]?).bind fun J=>
      if J.Kind=(21:Int) then
       some j
      else
       kO F a0 a1 n (af (j+1))
     else none
   else none
  else
   some j
def mI (F:Nat) (a0:aV) (a1:Int):Option Int:=
 ((kO F a0 a1 F a1):Option Int).bind fun o=>match o with
  | j=>some j
theorem EB (F:Nat) {h:AH} {Z:Zn} {a0:aV} {a1:Int} {ad U v4 v6 av v11 ax} (hI:Inv Z h) (aa:RS (α:=al) Z v4 a0.R.L) (aF:RS (α:=aq) Z v6 a0.R.T.ak) (aG:RS (α:=aj) Z av a0.R.D) (ae:Z U=some (ay v4 v6 av a0.R)) (aH:RS (α:=an) Z v11 a0.Rows) (aJ:RS (α:=au) Z ax a0.S) (ai:Z ad=some [Pt U 0,v11,V a0.Doc, .bool a0.aA,ax,V a0.aw,V a0.Read]) {r:Int} (hm:mI F a0 a1=some r):
  b3 Try.prog 79 [Pt ad 0,V a1] h Z (V r):=by
 refine b4 Try.func79 hI ?_
 intro hs hS
 unfold mI at hm
 refine sp 1<|sp 2<|sq ?_
 obtain ⟨ao,I,hm⟩:=ah hm
 refine aI [5] (fun l h=>∃ az ab,ab=ao∧l=[(5,V ab)]∧St hs [] Z (0,0) az h []) ?_ ?_
 rintro l aK ⟨az,ab,rfl,rfl,aE⟩
 try dsimp only at hm
 refine sp 2<|rt<|⟨rfl,?_⟩
 obtain rfl:=si hm
 refine ⟨_,_,_,tk (V ab) (ResL.nil),aE,?_⟩
 exact rfl
 refine bk 0<|lp [0,5] (fun n l h=>∃ aB J,kO F a0 a1 n J=some ao∧l=[(0,Pt ad 0),(5,V J)]∧St hs [] Z (0,0) aB h []) F ⟨_,a1,I,(by kernel_rfl),hS⟩ ?_
 rintro ar l aL ⟨aB,J,I,rfl,j⟩
 rcases ar with _ | ar
 cases (show none=some ao from I)
 rw [kO] at I
 refine sq<|s0<|bw 4 (Pt U 0) j (j.ag _ _ ai)<|bw 2 v4 j (j.ag _ _ ae)<|bD 0 v4 (RS.len (aa.mono j.ag))<|aP 0 I ?_ ?_<;>intro aM I
 refine bw 4 (Pt U 0) j (j.ag _ _ ai)<|bw 2 v4 j (j.ag _ _ ae)<|a2 1 I (aa.mono j.ag) ?_
 intro aQ I
 refine bm 1 0 (fun aC=>V aC.Kind) I (aa.mono j.ag) j ?_
 intro aC aR I
 refine cS 0 I ?_ ?_<;>intro aS I
 refine xn 15<|dF<|xt 0<|aO ?_
 obtain rfl:=si I
 exact ⟨_,J,rfl,(by kernel_rfl),j⟩
 refine bw 5 (Pt U 0) j (j.ag _ _ ai)<|bw 2 v4 j (j.ag _ _ ae)<|a2 1 I (aa.mono j.ag) ?_
 intro aU I
 refine bm 1 0 (fun aD=>V aD.Kind) I (aa.mono j.ag) j ?_
 intro aD aW I
 refine cS 0 I ?_ ?_<;>intro aX I
 refine xn 1<|dF<|xt 0<|aO ?_
 obtain rfl:=si I
 exact ⟨_,J,rfl,(by kernel_rfl),j⟩
 refine xn 1<|dT<|sk<|bk 1<|gp 3 ?_
 exact ⟨ar,Nat.lt_succ_self _,⟨_,af (J+1),I,(by kernel_rfl),j⟩⟩
 refine xn 28<|dF<|xt 0<|aO ?_
 obtain rfl:=si I
 exact ⟨_,J,rfl,(by kernel_rfl),j⟩
def kX (F:Nat) (a0:aL) (a1:Int):Nat→Int→Option Int
 | 0,_=>none
 | n+1,j=>
  if j<a0.End then
   if 0≤j∧j<(a0.L.length:Int) then
    (a0.L[j.toNat]?).bind fun I=>
    if I.Kind=(3:Int) then
     kX F a0 a1 n (af (j+1))
    else
     some j
   else none
  else
   some j
def kf (F:Nat) (a0:aL) (a1:Int):Option Int:=
 ((kX F a0 a1 F a1):Option Int).bind fun o=>match o with
  | j=>some j
theorem va (F:Nat) {h:AH} {Z:Zn} {a0:aL} {a1:Int} {aa ab ai an} (hI:Inv Z h) (ao:RS (α:=al) Z ab a0.L) (az:RS (α:=aq) Z ai a0.T.ak) (aA:RS (α:=aj) Z an a0.D) (ar:Z aa=some (ay ab ai an a0)) {r:Int} (hm:kf F a0 a1=some r):
  b3 Try.prog 88 [Pt aa 0,V a1] h Z (V r):=by
 refine b4 Try.func88 hI ?_
 intro hs hS
 unfold kf at hm
 refine sp 1<|sq ?_
 obtain ⟨ad,j,hm⟩:=ah hm
 refine aI [1] (fun l h=>∃ au U,U=ad∧l=[(1,V U)]∧St hs [] Z (0,0) au h []) ?_ ?_
 rintro l aB ⟨au,U,rfl,rfl,ax⟩
 try dsimp only at hm
 refine sp 2<|rt<|⟨rfl,?_⟩
 obtain rfl:=si hm
 refine ⟨_,_,_,tk (V U) (ResL.nil),ax,?_⟩
 exact rfl
 refine bk 0<|lp [0,1] (fun n l h=>∃ av J,kX F a0 a1 n J=some ad∧l=[(0,Pt aa 0),(1,V J)]∧St hs [] Z (0,0) av h []) F ⟨_,a1,j,(by kernel_rfl),hS⟩ ?_
 rintro ae l aC ⟨av,J,j,rfl,I⟩
 rcases ae with _ | ae
 cases (show none=some ad from j)
 rw [kX] at j
 refine sq<|s0<|bw 4 (V a0.End) I (I.ag _ _ ar)<|aP 0 j ?_ ?_<;>intro aD j
 refine bw 4 ab I (I.ag _ _ ar)<|a2 1 j (ao.mono I.ag) ?_
 intro aE j
 refine bm 1 0 (fun aw=>V aw.Kind) j (ao.mono I.ag) I ?_
 intro aw aF j
 refine aG 0 j ?_ ?_<;>intro aH j
 refine xn 1<|dT<|sk<|bk 1<|gp 3 ?_
 exact ⟨ae,Nat.lt_succ_self _,⟨_,af (J+1),j,(by kernel_rfl),I⟩⟩
 refine xn 1<|dF<|xt 0<|aO ?_
 obtain rfl:=si j
 exact ⟨_,J,rfl,(by kernel_rfl),I⟩
 refine xn 11<|dF<|xt 0<|aO ?_
 obtain rfl:=si j
 exact ⟨_,J,rfl,(by kernel_rfl),I⟩
def eC (F:Nat) (a0:aL) (a1:Int):Option Int:=
 if a0.End≤a1 then
  some 0
 else
  if 0≤a1∧a1<(a0.L.length:Int) then
   (a0.L[a1.toNat]?).bind fun j=>
   if j.Kind=(20:Int) then
    some 0
   else
    if 0≤a1∧a1<(a0.L.length:Int) then
     (a0.L[a1.toNat]?).bind fun I=>
     if I.Kind=(21:Int) then
      some 0
     else
      if 0≤a1∧a1<(a0.L.length:Int) then
       (a0.L[a1.toNat]?).bind fun J=>
       some J.Kind
      else none
    else none
  else none
theorem fk (F:Nat) {h:AH} {Z:Zn} {a0:aL} {a1:Int} {aa I ab ad} (hI:Inv Z h) (j:RS (α:=al) Z I a0.L) (ag:RS (α:=aq) Z ab a0.T.ak) (ah:RS (α:=aj) Z ad a0.D) (J:Z aa=some (ay I ab ad a0)) {r:Int} (hm:eC F a0 a1=some r):
  b3 Try.prog 89 [Pt aa 0,V a1] h Z (V r):=by
 refine b4 Try.func89 hI ?_
 intro hs hS
 unfold eC at hm
 refine sp 1<|sq<|s0<|bw 4 (V a0.End) hS J<|cC 0 hm ?_ ?_<;>intro ai hm
 refine xn 22<|dT<|sp 1<|rt<|⟨rfl,?_⟩
 obtain rfl:=si hm
 refine ⟨_,_,_,tk (V 0) (ResL.nil),hS,?_⟩
 exact rfl
 refine bw 4 I hS J<|a2 1 hm j ?_
 intro an hm
 refine bm 1 0 (fun ae=>V ae.Kind) hm j hS ?_
 intro ae ao hm
 refine aG 0 hm ?_ ?_<;>intro ar hm
 refine xn 12<|dT<|sp 1<|rt<|⟨rfl,?_⟩
 obtain rfl:=si hm
 refine ⟨_,_,_,tk (V 0) (ResL.nil),hS,?_⟩
 exact rfl
 refine bw 5 I hS J<|a2 1 hm j ?_
 intro au hm
 refine bm 1 0 (fun af=>V af.Kind) hm j hS ?_
 intro af av hm
 refine aG 0 hm ?_ ?_<;>intro aw hm
 refine xn 1<|dT<|sp 1<|rt<|⟨rfl,?_⟩
 obtain rfl:=si hm
 refine ⟨_,_,_,tk (V 0) (ResL.nil),hS,?_⟩
 exact rfl
 refine xn 1<|dF<|sk<|s0<|bw 3 I hS J<|a2 1 hm j ?_
 intro ax hm
 refine bm 1 0 (fun U=>V U.Kind) hm j hS ?_
 intro U az hm
 refine xn 1<|rt<|⟨rfl,?_⟩
 obtain rfl:=si hm
 refine ⟨_,_,_,tk (V U.Kind) (ResL.nil),hS,?_⟩
 exact rfl
def eA (F:Nat) (a0:aL) (a1:Int) (I:Int) (J:Int) (U:Int):Option (Int×aL):=
 (correctorref10_Add F a0.T a1 I J U).bind fun j=>
 some (j.2,(⟨a0.L,j.1,a0.D,a0.End⟩:aL))
theorem fY (F:Nat) {h:AH} {Z:Zn} {a0:aL} {a1:Int} {ag:Int} {ai:Int} {an:Int} {U J ab I ad} (hP:Pre Z h [.ae U (ay J ab I a0), .gs I ad (aa aj)]) (aw:RS (α:=al) Z J a0.L) (ax:RS (α:=aq) Z ab a0.T.ak) (az:RCs (α:=aj) Z ad a0.D) {r:Int×aL} (hm:eA F a0 a1 ag ai an=some r):
  bQ Try.prog 67 [Pt U 0,V a1,V ag,V ai,V an] h Z [.ae U (ay J ab I a0), .gs I ad (aa aj)] fun v Z' A'=>∃ v10 ao ar,V r.1=v∧A'=[.ae U (ay v10 ao I r.2), .gs I ar (aa aj)]∧RS (α:=al) Z' v10 r.2.L∧RS (α:=aq) Z' ao r.2.T.ak∧RCs (α:=aj) Z' ar r.2.D:=by
 refine b6 Try.func67 hP ?_
 intro hs hS
 unfold eA at hm
 refine sp 1<|s0<|aB 3 0 (.agg #[ab]) hS rfl ?_
 obtain ⟨aA,aC,hm⟩:=ah hm
 refine c0 4 hS (x7 F hS.eJ ax aC) ?_
 rintro _ aG aH _ au aD ⟨j,rfl,rfl,af⟩
 refine dK 3 [.slice none 0 0] aD ?_
 intro aI aJ aE
 refine bG 0 0 (.agg #[j]) [j] [j] aE rfl rfl (br (RS.c7 af) cm) ?_
 intro aK av
 refine xn 1<|s0<|aB 1 0 (.agg #[j]) av rfl<|bG 2 1 (.agg #[j]) [j] (ay J j I a0) av rfl rfl (br (RS.c7 af) cm) ?_
 intro aM aF
 refine xn 0<|sp 2<|rt<|⟨rfl,?_⟩
 obtain rfl:=si hm
 refine ⟨_,_,_,tk (V aA.2) (ResL.nil),(((aF.front 2 rfl).front 2 rfl).takeN 2),?_⟩
 exact ⟨J,j,ad,rfl,rfl,(aw.mono au),af,(az.mono au)⟩
def jO (F:Nat) (a0:aL) (a1:Int):Nat→Int→Option Int
 | 0,_=>none
 | n+1,j=>
  if j<a0.End then
   if 0≤j∧j<(a0.L.length:Int) then
    (a0.L[j.toNat]?).bind fun I=>
    (fA F I.Kind).bind fun J=>
    if J=true then
     some j
    else
     if 0≤j∧j<(a0.L.length:Int) then
      (a0.L[j.toNat]?).bind fun U=>
      if U.Kind=(1:Int) then
       some j
      else
       jO F a0 a1 n (af (j+1))
     else none
   else none
  else
   some j
def jQ (F:Nat) (a0:aL) (a1:Int):Nat→Int→Option Int
 | 0,_=>none
 | n+1,j=>
  if j<a0.End then
   if 0≤j∧j<(a0.L.length:Int) then
    (a0.L[j.toNat]?).bind fun I=>
    if I.Kind=(19:Int) then
     jQ F a0 a1 n (af (j+1))
    else
     some j
   else none
  else
   some j
def mr (F:Nat) (a0:aL) (a1:Int):Option Int:=
 ((jO F a0 a1 F (af (a1+1))):Option Int).bind fun o=>match o with
  | j=>if a0.End≤j then
   some (af (a1+1))
  else
   if 0≤j∧j<(a0.L.length:Int) then
    (a0.L[j.toNat]?).bind fun I=>
    if I.Kind=(1:Int) then
     if a0.End≤(af (j+1)) then
      some (af (a1+1))
     else
      if 0≤(af (j+1))∧(af (j+1))<(a0.L.length:Int) then
       (a0.L[(af (j+1)).toNat]?).bind fun J=>
       if J.Kind=(19:Int) then
        ((jQ F a0 a1 F (af (j+1))):Option Int).bind fun o=>match o with
         | U=>some U
       else
        some (af (a1+1))
      else none
    else
     some (af (a1+1))
   else none
theorem wE (F:Nat) {h:AH} {Z:Zn} {a0:aL} {a1:Int} {ao ae aB aC} (hI:Inv Z h) (aa:RS (α:=al) Z ae a0.L) (aV:RS (α:=aq) Z aB a0.T.ak) (aW:RS (α:=aj) Z aC a0.D) (ad:Z ao=some (ay ae aB aC a0)) {r:Int} (hm:mr F a0 a1=some r):
  b3 Try.prog 90 [Pt ao 0,V a1] h Z (V r):=by
 refine b4 Try.func90 hI ?_
 intro hs hS
 unfold mr at hm
 refine sp 1<|sp 3<|sq ?_
 obtain ⟨aw,j,hm⟩:=ah hm
 refine aI [0,1,5] (fun l h=>∃ aD au,au=aw∧l=[(0,Pt ao 0),(1,V a1),(5,V au)]∧St hs [] Z (0,0) aD h []) ?_ ?_
 rintro l aX ⟨aD,au,rfl,rfl,I⟩
 try dsimp only at hm
 refine sq<|s0<|bw 4 (V a0.End) I (I.ag _ _ ad)<|cC 0 hm ?_ ?_<;>intro aY hm
 refine xn 32<|dT<|sp 3<|rt<|⟨rfl,?_⟩
 obtain rfl:=si hm
 refine ⟨_,_,_,tk (V (af (a1+1))) (ResL.nil),I,?_⟩
 exact rfl
 refine bw 4 ae I (I.ag _ _ ad)<|a2 1 hm (aa.mono I.ag) ?_
 intro aZ hm
 refine bm 1 0 (fun aE=>V aE.Kind) hm (aa.mono I.ag) I ?_
 intro aE a3 hm
 refine cS 0 hm ?_ ?_<;>intro a4 hm
 refine bw 7 (V a0.End) I (I.ag _ _ ad)<|cC 0 hm ?_ ?_<;>intro a5 hm
 refine xn 13<|dT<|sp 3<|rt<|⟨rfl,?_⟩
 obtain rfl:=si hm
 refine ⟨_,_,_,tk (V (af (a1+1))) (ResL.nil),I,?_⟩
 exact rfl
 refine bw 5 ae I (I.ag _ _ ad)<|a2 2 hm (aa.mono I.ag) ?_
 intro a6 hm
 refine bm 1 0 (fun aF=>V aF.Kind) hm (aa.mono I.ag) I ?_
 intro aF a7 hm
 refine cS 0 hm ?_ ?_<;>intro a8 hm
 refine xn 1<|dF<|sk<|sp 3<|sq ?_
 obtain ⟨ax,J,hm⟩:=ah hm
 refine aI [5] (fun l h=>∃ aH av,av=ax∧l=[(5,V av)]∧St hs [] Z (0,0) aH h []) ?_ ?_
 rintro l a9 ⟨aH,av,rfl,rfl,aS⟩
 try dsimp only at hm
 refine sp 2<|rt<|⟨rfl,?_⟩
 obtain rfl:=si hm
 refine ⟨_,_,_,tk (V av) (ResL.nil),aS,?_⟩
 exact rfl
 refine bk 2<|lp [0,5] (fun n l h=>∃ aJ an,jQ F a0 a1 n an=some ax∧l=[(0,Pt ao 0),(5,V an)]∧St hs [] Z (0,0) aJ h []) F ⟨_,af (au+1),J,(by kernel_rfl),I⟩ ?_
 rintro az l ba ⟨aJ,an,J,rfl,ab⟩
 rcases az with _ | az
 cases (show none=some ax from J)
 rw [jQ] at J
 refine sq<|s0<|bw 4 (V a0.End) ab (ab.ag _ _ ad)<|aP 0 J ?_ ?_<;>intro bb J
 refine bw 4 ae ab (ab.ag _ _ ad)<|a2 1 J (aa.mono ab.ag) ?_
 intro bc J
 refine bm 1 0 (fun aK=>V aK.Kind) J (aa.mono ab.ag) ab ?_
 intro aK bd J
 refine aG 0 J ?_ ?_<;>intro bf J
 refine xn 1<|dT<|sk<|bk 3<|gp 3 ?_
 exact ⟨az,Nat.lt_succ_self _,⟨_,af (an+1),J,(by kernel_rfl),ab⟩⟩
 refine xn 1<|dF<|xt 2<|aO ?_
 obtain rfl:=si J
 exact ⟨_,an,rfl,(by kernel_rfl),ab⟩
 refine xn 11<|dF<|xt 2<|aO ?_
 obtain rfl:=si J
 exact ⟨_,an,rfl,(by kernel_rfl),ab⟩
 refine xn 1<|dT<|sp 3<|rt<|⟨rfl,?_⟩
 obtain rfl:=si hm
 refine ⟨_,_,_,tk (V (af (a1+1))) (ResL.nil),I,?_⟩
 exact rfl
 refine xn 22<|dT<|sp 3<|rt<|⟨rfl,?_⟩
 obtain rfl:=si hm
 refine ⟨_,_,_,tk (V (af (a1+1))) (ResL.nil),I,?_⟩
 exact rfl
 refine bk 0<|lp [0,1,5] (fun n l h=>∃ aM ai,jO F a0 a1 n ai=some aw∧l=[(0,Pt ao 0),(1,V a1),(5,V ai)]∧St hs [] Z (0,0) aM h []) F ⟨_,af (a1+1),j,(by kernel_rfl),hS⟩ ?_
 rintro aA l bg ⟨aM,ai,j,rfl,U⟩
 rcases aA with _ | aA
 cases (show none=some aw from j)
 rw [jO] at j
 refine sq<|s0<|bw 4 (V a0.End) U (U.ag _ _ ad)<|aP 0 j ?_ ?_<;>intro bh j
 refine bw 4 ae U (U.ag _ _ ad)<|a2 1 j (aa.mono U.ag) ?_
 intro bj j
 refine bm 1 0 (fun aQ=>V aQ.Kind) j (aa.mono U.ag) U ?_
 intro aQ bl j
 obtain ⟨bn,aU,j⟩:=ah j
 refine cP 0 U (ja F U.inv aU) ?_
 rintro _ bo ar rfl
 refine kb 0 23 j ?_ ?_<;>intro bp j
 refine xn 13<|dF<|xt 0<|aO ?_
 obtain rfl:=si j
 exact ⟨_,ai,rfl,(by kernel_rfl),ar⟩
 refine bw 6 ae ar (U.ag _ _ ad)<|a2 1 j (aa.mono U.ag) ?_
 intro bq j
 refine bm 1 0 (fun aR=>V aR.Kind) j (aa.mono U.ag) ar ?_
 intro aR br j
 refine cS 0 j ?_ ?_<;>intro bu j
 refine xn 1<|dF<|xt 0<|aO ?_
 obtain rfl:=si j
 exact ⟨_,ai,rfl,(by kernel_rfl),ar⟩
 refine xn 1<|dT<|sk<|bk 1<|gp 3 ?_
 exact ⟨aA,Nat.lt_succ_self _,⟨_,af (ai+1),j,(by kernel_rfl),ar⟩⟩
 refine xn 23<|dF<|xt 0<|aO ?_
 obtain rfl:=si j
 exact ⟨_,ai,rfl,(by kernel_rfl),U⟩
def jk (F:Nat) (a0:Int):Option Bool:=
 if a0=(8:Int) then
  some true
 else
  if a0=(9:Int) then
   some true
  else
   some false
theorem nB (F:Nat) {h:AH} {Z:Zn} {a0:Int} (hI:Inv Z h) {r:Bool} (hm:jk F a0=some r):
  b3 Try.prog 91 [V a0] h Z (.bool r):=by
 refine b4 Try.func91 hI ?_
 intro hs hS
 unfold jk at hm
 refine sp 1<|s0<|aG 1 hm ?_ ?_<;>intro j hm
 refine xn 5<|rt<|⟨rfl,?_⟩
 obtain rfl:=si hm
 refine ⟨_,_,_,tk (.bool true) (ResL.nil),hS,?_⟩
 exact rfl
 refine aG 2 hm ?_ ?_<;>intro I hm
 refine xn 2<|rt<|⟨rfl,?_⟩
 obtain rfl:=si hm
 refine ⟨_,_,_,tk (.bool true) (ResL.nil),hS,?_⟩
 exact rfl
 refine xn 2<|rt<|⟨rfl,?_⟩
 obtain rfl:=si hm
 refine ⟨_,_,_,tk (.bool false) (ResL.nil),hS,?_⟩
 exact rfl
def jg (F:Nat) (a0:Int):Option Bool:=
 if a0=(10:Int) then
  some true
 else
  if a0=(11:Int) then
   some true
  else
   some false
theorem ng (F:Nat) {h:AH} {Z:Zn} {a0:Int} (hI:Inv Z h) {r:Bool} (hm:jg F a0=some r):
  b3 Try.prog 99 [V a0] h Z (.bool r):=by
 refine b4 Try.func99 hI ?_
 intro hs hS
 unfold jg at hm
 refine sp 1<|s0<|aG 1 hm ?_ ?_<;>intro j hm
 refine xn 5<|rt<|⟨rfl,?_⟩
 obtain rfl:=si hm
 refine ⟨_,_,_,tk (.bool true) (ResL.nil),hS,?_⟩
 exact rfl
 refine aG 2 hm ?_ ?_<;>intro I hm
 refine xn 2<|rt<|⟨rfl,?_⟩
 obtain rfl:=si hm
 refine ⟨_,_,_,tk (.bool true) (ResL.nil),hS,?_⟩
 exact rfl
 refine xn 2<|rt<|⟨rfl,?_⟩
 obtain rfl:=si hm
 refine ⟨_,_,_,tk (.bool false) (ResL.nil),hS,?_⟩
 exact rfl
def kM (F:Nat) (a0:aL) (a1:Int) (I:Int):Nat→Int→Option Int
 | 0,_=>none
 | n+1,j=>
  if I<j then
   if 0≤(af (j - 1))∧(af (j - 1))<(a0.L.length:Int) then
    (a0.L[(af (j - 1)).toNat]?).bind fun J=>
    (fA F J.Kind).bind fun U=>
    if U=true then
     some j
    else
     kM F a0 a1 I n (af (j - 1))
   else none
  else
   some j
def jx (F:Nat) (a0:aL) (a1:Int) (j:Int):Option Int:=
 ((kM F a0 a1 j F a1):Option Int).bind fun o=>match o with
  | I=>some I
theorem pz (F:Nat) {h:AH} {Z:Zn} {a0:aL} {a1:Int} {U:Int} {ab ad an ao} (hI:Inv Z h) (ar:RS (α:=al) Z ad a0.L) (aC:RS (α:=aq) Z an a0.T.ak) (aD:RS (α:=aj) Z ao a0.D) (az:Z ab=some (ay ad an ao a0)) {r:Int} (hm:jx F a0 a1 U=some r):
  b3 Try.prog 94 [Pt ab 0,V a1,V U] h Z (V r):=by
 refine b4 Try.func94 hI ?_
 intro hs hS
 unfold jx at hm
 refine sp 1<|sq ?_
 obtain ⟨ae,j,hm⟩:=ah hm
 refine aI [1] (fun l h=>∃ au aa,aa=ae∧l=[(1,V aa)]∧St hs [] Z (0,0) au h []) ?_ ?_
 rintro l aE ⟨au,aa,rfl,rfl,aA⟩
 try dsimp only at hm
 refine sp 2<|rt<|⟨rfl,?_⟩
 obtain rfl:=si hm
 refine ⟨_,_,_,tk (V aa) (ResL.nil),aA,?_⟩
 exact rfl
 refine bk 0<|lp [0,1,2] (fun n l h=>∃ av J,kM F a0 a1 U n J=some ae∧l=[(0,Pt ab 0),(1,V J),(2,V U)]∧St hs [] Z (0,0) av h []) F ⟨_,a1,j,(by kernel_rfl),hS⟩ ?_
 rintro ai l aF ⟨av,J,j,rfl,I⟩
 rcases ai with _ | ai
 cases (show none=some ae from j)
 rw [kM] at j
 refine sq<|s0<|cH 2 j ?_ ?_<;>intro aG j
 refine bw 4 ad I (I.ag _ _ az)<|a2 2 j (ar.mono I.ag) ?_
 intro aH j
 refine bm 1 0 (fun aw=>V aw.Kind) j (ar.mono I.ag) I ?_
 intro aw aJ j
 obtain ⟨aK,aB,j⟩:=ah j
 refine cP 0 I (ja F I.inv aB) ?_
 rintro _ aM ax rfl
 refine kb 0 20 j ?_ ?_<;>intro aP j
 refine xn 2<|dF<|xt 0<|aO ?_
 obtain rfl:=si j
 exact ⟨_,J,rfl,(by kernel_rfl),ax⟩
 refine xn 2<|dT<|sk<|bk 1<|gp 3 ?_
 exact ⟨ai,Nat.lt_succ_self _,⟨_,af (J - 1),j,(by kernel_rfl),ax⟩⟩
 refine xn 13<|dF<|xt 0<|aO ?_
 obtain rfl:=si j
 exact ⟨_,J,rfl,(by kernel_rfl),I⟩
def jq (F:Nat) (a0:aL) (a1:Int):Nat→Int→Int→Option (Sum Unit Int)
 | 0,_,_=>none
 | n+1,I,j=>
  (eC F a0 j).bind fun aa=>
  if (0:Int)<aa then
   (((eC F a0 j).bind fun ab=>
    (jk F ab).bind fun ad=>
    if ad=true then
     some (af (I+1))
    else
     some I):Option Int).bind fun o=>match o with
    | J=>(((eC F a0 j).bind fun ae=>
     (jg F ae).bind fun ag=>
     if ag=true then
      some (af (J - 1))
     else
      some J):Option Int).bind fun o=>match o with
     | U=>if U=(0:Int) then
      some (.inr (af (j+1)))
     else
      jq F a0 a1 n U (af (j+1))
  else
   some (.inl ())
def j1 (F:Nat) (a0:aL) (a1:Int):Nat→Int→Option Int
 | 0,_=>none
 | n+1,j=>
  (eC F a0 j).bind fun I=>
  if (0:Int)<I then
   j1 F a0 a1 n (af (j+1))
  else
   some j
def correctorref11_Reader_balanced (F:Nat) (a0:aL) (a1:Int):Option Int:=
 ((jq F a0 a1 F 0 a1):Option (Sum Unit Int)).bind fun o=>match o with
  | .inl ()=>((j1 F a0 a1 F a1):Option Int).bind fun o=>match o with
   | j=>(jx F a0 j (af (a1+1))).bind fun I=>
   some I
  | .inr y=>some y
theorem De (F:Nat) {h:AH} {Z:Zn} {a0:aL} {a1:Int} {U aJ aK aM} (hI:Inv Z h) (ao:RS (α:=al) Z aJ a0.L) (ar:RS (α:=aq) Z aK a0.T.ak) (au:RS (α:=aj) Z aM a0.D) (av:Z U=some (ay aJ aK aM a0)) {r:Int} (hm:correctorref11_Reader_balanced F a0 a1=some r):
  b3 Try.prog 92 [Pt U 0,V a1] h Z (V r):=by
 refine b4 Try.func92 hI ?_
 intro hs hS
 unfold correctorref11_Reader_balanced at hm
 refine sp 1<|sp 1<|sq<|sp 2 ?_
 obtain ⟨aB,j,hm⟩:=ah hm
 refine aI [0,1] (fun l h=>∃ aP, .inl ()=aB∧l=[(0,Pt U 0),(1,V a1)]∧St hs [] Z (0,0) aP h []) ?_ ?_
 rintro l bj ⟨aP,rfl,rfl,a5⟩
 try dsimp only at hm
 refine sp 2<|sq ?_
 obtain ⟨aC,I,hm⟩:=ah hm
 refine aI [0,1,7] (fun l h=>∃ aQ aD,aD=aC∧l=[(0,Pt U 0),(1,V a1),(7,V aD)]∧St hs [] Z (0,0) aQ h []) ?_ ?_
 rintro l bl ⟨aQ,aD,rfl,rfl,ae⟩
 try dsimp only at hm
 refine s0 ?_
 obtain ⟨a6,a7,hm⟩:=ah hm
 refine cP 4 ae (pz F ae.inv (ao.mono ae.ag) (ar.mono ae.ag) (au.mono ae.ag) (ae.ag _ _ av) a7) ?_
 rintro _ bm a8 rfl
 refine xn 1<|rt<|⟨rfl,?_⟩
 obtain rfl:=si hm
 refine ⟨_,_,_,tk (V a6) (ResL.nil),a8,?_⟩
 exact rfl
 refine bk 2<|lp [0,1,7] (fun n l h=>∃ aR aw,j1 F a0 a1 n aw=some aC∧l=[(0,Pt U 0),(1,V a1),(7,V aw)]∧St hs [] Z (0,0) aR h []) F ⟨_,a1,I,(by kernel_rfl),a5⟩ ?_
 rintro aE l bn ⟨aR,aw,I,rfl,ai⟩
 rcases aE with _ | aE
 cases (show none=some aC from I)
 rw [j1] at I
 refine sq<|s0 ?_
 obtain ⟨bo,a9,I⟩:=ah I
 refine cP 2 ai (fk F ai.inv (ao.mono ai.ag) (ar.mono ai.ag) (au.mono ai.ag) (ai.ag _ _ av) a9) ?_
 rintro _ bp aS rfl
 refine cH 0 I ?_ ?_<;>intro bq I
 refine xn 0<|dT<|sk<|bk 3<|gp 3 ?_
 exact ⟨aE,Nat.lt_succ_self _,⟨_,af (aw+1),I,(by kernel_rfl),aS⟩⟩
 refine xn 0<|dF<|xt 2<|aO ?_
 obtain rfl:=si I
 exact ⟨_,aw,rfl,(by kernel_rfl),aS⟩
 refine bk 0<|lp [0,1,5,6] (fun n l h=>∃ aU ax ad,jq F a0 a1 n ax ad=some aB∧l=[(0,Pt U 0),(1,V a1),(5,V ax),(6,V ad)]∧St hs [] Z (0,0) aU h []) F ⟨_,0,a1,j,(by kernel_rfl),hS⟩ ?_
 rintro aF l br ⟨aU,ax,ad,j,rfl,J⟩
 rcases aF with _ | aF
 cases (show none=some aB from j)
 rw [jq] at j
 refine sq<|s0 ?_
 obtain ⟨bu,ba,j⟩:=ah j
 refine cP 2 J (fk F J.inv (ao.mono J.ag) (ar.mono J.ag) (au.mono J.ag) (J.ag _ _ av) ba) ?_
 rintro _ bw aH rfl
 refine cH 0 j ?_ ?_<;>intro bx j
 refine xn 0<|dT<|sk<|sq<|bk 1<|sq ?_
 obtain ⟨bb,aa,j⟩:=ah j
 refine aI [0,1,5,6] (fun l h=>∃ aV az,az=bb∧l=[(0,Pt U 0),(1,V a1),(5,V az),(6,V ad)]∧St hs [] Z (0,0) aV h []) ?_ ?_
 rintro l bz ⟨aV,az,rfl,rfl,an⟩
 try dsimp only at j
 refine sq ?_
 obtain ⟨bc,ab,j⟩:=ah j
 refine aI [0,1,5,6] (fun l h=>∃ aW aA,aA=bc∧l=[(0,Pt U 0),(1,V a1),(5,V aA),(6,V ad)]∧St hs [] Z (0,0) aW h []) ?_ ?_
 rintro l bA ⟨aW,aA,rfl,rfl,aX⟩
 try dsimp only at j
 refine s0<|aG 1 j ?_ ?_<;>intro bB j
 refine xn 0<|dT<|sp 3<|rt<|a3<|a3<|⟨rfl,?_⟩
 obtain rfl:=si j
 obtain rfl:=si hm
 refine ⟨_,_,_,tk (V (af (ad+1))) (ResL.nil),aX,?_⟩
 exact rfl
 refine xn 0<|dF<|sk<|gp 3 ?_
 exact ⟨aF,Nat.lt_succ_self _,⟨_,aA,af (ad+1),j,(by kernel_rfl),aX⟩⟩
 refine s0 ?_
 obtain ⟨bC,bd,ab⟩:=ah ab
 refine cP 2 an (fk F an.inv (ao.mono an.ag) (ar.mono an.ag) (au.mono an.ag) (an.ag _ _ av) bd) ?_
 rintro _ bD aY rfl
 obtain ⟨bE,bf,ab⟩:=ah ab
 refine cP 0 aY (ng F aY.inv bf) ?_
 rintro _ bF aZ rfl
 refine xn 0<|db ab ?_ ?_<;>intro bG ab
 refine gp 3 ?_
 obtain rfl:=si ab
 exact ⟨_,af (az - 1),rfl,(by kernel_rfl),aZ⟩
 refine sk ?_
 obtain rfl:=si ab
 exact ⟨_,az,rfl,(by kernel_rfl),aZ⟩
 refine s0 ?_
 obtain ⟨bH,bg,aa⟩:=ah aa
 refine cP 2 aH (fk F aH.inv (ao.mono J.ag) (ar.mono J.ag) (au.mono J.ag) (J.ag _ _ av) bg) ?_
 rintro _ bI a2 rfl
 obtain ⟨bJ,bh,aa⟩:=ah aa
 refine cP 0 a2 (nB F a2.inv bh) ?_
 rintro _ bK a4 rfl
 refine xn 0<|db aa ?_ ?_<;>intro bL aa
 refine gp 3 ?_
 obtain rfl:=si aa
 exact ⟨_,af (ax+1),rfl,(by kernel_rfl),a4⟩
 refine sk ?_
 obtain rfl:=si aa
 exact ⟨_,ax,rfl,(by kernel_rfl),a4⟩
 refine xn 0<|dF<|xt 0<|aO ?_
 obtain rfl:=si j
 exact ⟨_,rfl,(by kernel_rfl),aH⟩
def AB:List bt:=[uP 17 (mv 0),uP 18 (mv 0),uP 19 (nk 18),uP 20 (fa 58 19 2),uL 21 (ld 28 20),uP 22 (mv 4),uP 23 (mv 0),uP 24 (nk 23),uP 25 (fa 58 24 0),uL 26 (ld 24 25),uP 27 (mv 2),uP 28 (ia 24 26 27),uP 29 (fa 85 28 1),uL 30 (ld 3 29),uP 31 (mv 0),uP 32 (nk 31),uP 33 (fa 58 32 0),uL 34 (ld 24 33),uP 35 (mv 3),uP 36 (bc .sub 3 35 1 3),uP 37 (ia 24 34 36),uP 38 (fa 85 37 2),uL 39 (ld 3 38),uP 40 (.build 92 #[(0,(t 22)),(1,(t 30)),(2,(t 39))]),uF 41 (.buildSlice 28 1 #[(0,(t 40))]) .fresh [],uF 42 (cb .append #[(t 21),(t 41)] #[28,28]) .make [4,9,13,17,22],uP 43 (nk 17),uP 44 (fa 58 43 2),oF (.store 28 (t 44) (t 42)) .make [4,9,13,17,22]]
def ea (F:Nat) (a0:aL) (a1:Int) (I:Int) (J:Int) (U:Int):Option (Int×aL):=
 (eA F a0 a1 11 I J).bind fun j=>
 if 0≤I∧I<(j.2.L.length:Int) then
  (j.2.L[I.toNat]?).bind fun aa=>
  if 0≤(af (J - 1))∧(af (J - 1))<(j.2.L.length:Int) then
   (j.2.L[(af (J - 1)).toNat]?).bind fun ab=>
   if j.2.D.length+[(⟨U,aa.ai,ab.To⟩:aj)].length≤5864062014805 then
    some (j.1,(⟨j.2.L,j.2.T,j.2.D++[(⟨U,aa.ai,ab.To⟩:aj)],j.2.End⟩:aL))
   else none
  else none
 else none
theorem fD (F:Nat) {h:AH} {Z:Zn} {a0:aL} {a1:Int} {ar:Int} {an:Int} {J:Int} {I aA aB U aE} (hP:Pre Z h [.ae I (ay aA aB U a0), .gs U aE (aa aj)]) (aZ:RS (α:=al) Z aA a0.L) (a2:RS (α:=aq) Z aB a0.T.ak) (a3:RCs (α:=aj) Z aE a0.D) {r:Int×aL} (hm:ea F a0 a1 ar an J=some r):
  bQ Try.prog 46 [Pt I 0,V a1,V ar,V an,V J] h Z [.ae I (ay aA aB U a0), .gs U aE (aa aj)] fun v Z' A'=>∃ v10 aI aK aO,V r.1=v∧A'=[.ae I (ay v10 aI aK r.2), .gs aK aO (aa aj)]∧RS (α:=al) Z' v10 r.2.L∧RS (α:=aq) Z' aI r.2.T.ak∧RCs (α:=aj) Z' aO r.2.D:=by
 refine b6 Try.func46 hP ?_
 intro hs hS
 unfold ea at hm
 refine sp 1<|s0 ?_
 obtain ⟨ab,a4,hm⟩:=ah hm
 refine cA 4 hS (fun p=>fY F p aZ a2 a3 a4) ?_
 rintro _ bo a6 _ bp a7 ⟨ad,ax,a8,rfl,rfl,au,a9,bb⟩
 refine xn 1<|cU AB a7 ?_
 intro aF bq aG av
 refine yq 4 [(20,Pt I 2),(17,Pt I 0),(11,V ab.1),(0,Pt I 0),(2,V ar),(3,V an),(4,V J)] ?_
 have bw:I<aF:=aG.1 _ (List.mem_of_getElem? (i:=0) rfl) _ (by simp [Itm.ids])
 refine aX (v:=U) rfl trivial rfl (by show I<_;omega) (aC (v:=U) (av.di (i:=1) rfl)) (av.aS (i:=0) rfl (by kernel_rfl)) trivial<|yq 4 [(25,Pt I 0),(22,V J),(21,U),(17,Pt I 0),(11,V ab.1),(0,Pt I 0),(2,V ar),(3,V an)] ?_
 have bx:I<aF:=aG.1 _ (List.mem_of_getElem? (i:=0) rfl) _ (by simp [Itm.ids])
 refine aX (v:=ad) rfl trivial rfl (by show I<_;omega) (aC (v:=ad) (RS.dG au)) (av.aS (i:=0) rfl (by kernel_rfl)) trivial<|yq 1 [(27,V ar),(26,ad),(22,V J),(21,U),(17,Pt I 0),(11,V ab.1),(0,Pt I 0),(3,V an)] ?_
 obtain ⟨aP,hm⟩:=aJ hm
 refine aD rfl trivial (bA rfl rfl (by kernel_rfl:slTy _ _=some (aa al)) (RS.cQ au (by omega)) aP.1 aP.2)<|yq 1 [(29, .pointer (some (ba ad ar (aa al) 1))),(22,V J),(21,U),(17,Pt I 0),(11,V ab.1),(0,Pt I 0),(3,V an)] ?_
 obtain ⟨ag,bc,hm⟩:=ah hm
 obtain ⟨bz,bd,bf⟩:=RS.bR au (i:=ar) bc
 obtain rfl:=eZ bd
 refine ct rfl rfl trivial (fun h2 hz=>bH (w:=V ag.ai) (bf h2 hz) rfl (by kernel_rfl)) (av.bM (aM.refl _)) (aC (v:=V ag.ai) trivial) trivial<|yq 3 [(33,Pt I 0),(30,V ag.ai),(22,V J),(21,U),(17,Pt I 0),(11,V ab.1),(3,V an)] ?_
 have bB:I<aF:=aG.1 _ (List.mem_of_getElem? (i:=0) rfl) _ (by simp [Itm.ids])
 refine aX (v:=ad) rfl trivial rfl (by show I<_;omega) (aC (v:=ad) (RS.dG au)) (av.aS (i:=0) rfl (by kernel_rfl)) trivial<|yq 2 [(36,V (af (an - 1))),(34,ad),(30,V ag.ai),(22,V J),(21,U),(17,Pt I 0),(11,V ab.1)] ?_
 obtain ⟨aQ,hm⟩:=aJ hm
 refine aD rfl trivial (bA rfl rfl (by kernel_rfl:slTy _ _=some (aa al)) (RS.cQ au (by omega)) aQ.1 aQ.2)<|yq 1 [(38, .pointer (some (ba ad (af (an - 1)) (aa al) 2))),(30,V ag.ai),(22,V J),(21,U),(17,Pt I 0),(11,V ab.1)] ?_
 obtain ⟨ao,bg,hm⟩:=ah hm
 obtain ⟨bC,bh,bj⟩:=RS.bR au (i:=af (an - 1)) bg
 obtain rfl:=eZ bh
 refine ct rfl rfl trivial (fun h2 hz=>bH (w:=V ao.To) (bj h2 hz) rfl (by kernel_rfl)) (av.bM (aM.refl _)) (aC (v:=V ao.To) trivial) trivial<|yq 1 [(40, .agg #[V J,V ag.ai,V ao.To]),(21,U),(17,Pt I 0),(11,V ab.1)] ?_
 have bk:RCs (α:=aj) a6 [V J,V ag.ai,V ao.To] [(⟨J,ag.ai,ao.To⟩:aj)]:=RCs.cons (cs:=[V J,V ag.ai,V ao.To]) rfl (RCs.bu _)
 refine jE rfl trivial (c3 (cells:=[V J,V ag.ai,V ao.To]) (s:=3) (by kernel_rfl)) (by kernel_rfl) av (by omega) (Nat.add_lt_add_left (by decide) _) ?_
 intro aR bD bE bF bG aU
 obtain ⟨bI,hm⟩:=aJ hm
 have az:St _ _ _ _ _ _ ([.gs U a8 (aa aj)]++[.gs aR [V J,V ag.ai,V ao.To] (aa aj), .ae I (ay ad ax U ab.2)]):=(aU.front 2 rfl)
 refine iK rfl trivial az (dM (ys:=[(⟨J,ag.ai,ao.To⟩:aj)]) (bP:=24) az.sub (i:=0) rfl bb ((aU.cM).eI (j:=0) rfl bk) rfl rfl (by kernel_rfl) (by omega) (by omega)) (aM.refl _) (.a5 trivial (.a5 (az.bJ 1 rfl bO) (.a5 trivial (.a5 (az.bJ 1 rfl bO) (.a5 (az.bJ 1 rfl bO) .nil))))) ?_
 rintro aw aV bK ⟨bl,aH⟩
 refine yq 2 [(44,Pt I 2),(42,aw),(11,V ab.1)] ?_
 have aW:St _ _ _ _ _ _ ([.ae I (ay ad ax U ab.2)]++[.gs aw aV (aa aj), .gs aR [V J,V ag.ai,V ao.To] (aa aj)]):=(aH.front 2 rfl)
 refine g3 rfl trivial aW (gK (vs:=[aw]) (cF:=(ay ad ax aw ab.2)) (L':=[.ae I (ay ad ax aw ab.2)]) aW.sub (i:=0) rfl rfl rfl (aH.fE (i:=0) rfl) (by kernel_rfl) (br (aH.fF (i:=0) rfl) cm) rfl rfl rfl) (aM.refl _) (.a5 trivial (.drop (by decide) (.a5 trivial (.drop (by decide) (.drop (by decide) .nil))))) ?_
 intro bL bm
 refine yf [(11,V ab.1)] ?_
 have bn:=bm.aY
 refine sp 2<|rt<|⟨rfl,?_⟩
 obtain rfl:=si hm
 refine ⟨_,_,_,tk (V ab.1) (ResL.nil),(bn.takeN 2),?_⟩
 exact ⟨ad,ax,aw,aV,rfl,rfl,au,a9,bl⟩
def jV (F:Nat) (a0:aL) (a1:Int):Nat→Int→Option Int
 | 0,_=>none
 | n+1,j=>
  if j<a0.End then
   if 0≤j∧j<(a0.L.length:Int) then
    (a0.L[j.toNat]?).bind fun I=>
    (fA F I.Kind).bind fun J=>
    if J=true then
     some j
    else
     jV F a0 a1 n (af (j+1))
   else none
  else
   some j
def ic (F:Nat) (a0:aL) (a1:Int):Option Int:=
 ((jV F a0 a1 F a1):Option Int).bind fun o=>match o with
  | j=>some j
theorem o4 (F:Nat) {h:AH} {Z:Zn} {a0:aL} {a1:Int} {aa ab ai an} (hI:Inv Z h) (ao:RS (α:=al) Z ab a0.L) (aB:RS (α:=aq) Z ai a0.T.ak) (aC:RS (α:=aj) Z an a0.D) (ar:Z aa=some (ay ab ai an a0)) {r:Int} (hm:ic F a0 a1=some r):
  b3 Try.prog 100 [Pt aa 0,V a1] h Z (V r):=by
 refine b4 Try.func100 hI ?_
 intro hs hS
 unfold ic at hm
 refine sp 1<|sq ?_
 obtain ⟨ad,j,hm⟩:=ah hm
 refine aI [1] (fun l h=>∃ au U,U=ad∧l=[(1,V U)]∧St hs [] Z (0,0) au h []) ?_ ?_
 rintro l aD ⟨au,U,rfl,rfl,az⟩
 try dsimp only at hm
 refine sp 2<|rt<|⟨rfl,?_⟩
 obtain rfl:=si hm
 refine ⟨_,_,_,tk (V U) (ResL.nil),az,?_⟩
 exact rfl
 refine bk 0<|lp [0,1] (fun n l h=>∃ av J,jV F a0 a1 n J=some ad∧l=[(0,Pt aa 0),(1,V J)]∧St hs [] Z (0,0) av h []) F ⟨_,a1,j,(by kernel_rfl),hS⟩ ?_
 rintro ae l aE ⟨av,J,j,rfl,I⟩
 rcases ae with _ | ae
 cases (show none=some ad from j)
 rw [jV] at j
 refine sq<|s0<|bw 4 (V a0.End) I (I.ag _ _ ar)<|aP 0 j ?_ ?_<;>intro aF j
 refine bw 4 ab I (I.ag _ _ ar)<|a2 1 j (ao.mono I.ag) ?_
 intro aG j
 refine bm 1 0 (fun aw=>V aw.Kind) j (ao.mono I.ag) I ?_
 intro aw aH j
 obtain ⟨aJ,aA,j⟩:=ah j
 refine cP 0 I (ja F I.inv aA) ?_
 rintro _ aK ax rfl
 refine kb 0 20 j ?_ ?_<;>intro aM j
 refine xn 2<|dF<|xt 0<|aO ?_
 obtain rfl:=si j
 exact ⟨_,J,rfl,(by kernel_rfl),ax⟩
 refine xn 2<|dT<|sk<|bk 1<|gp 3 ?_
 exact ⟨ae,Nat.lt_succ_self _,⟨_,af (J+1),j,(by kernel_rfl),ax⟩⟩
 refine xn 12<|dF<|xt 0<|aO ?_
 obtain rfl:=si j
 exact ⟨_,J,rfl,(by kernel_rfl),I⟩
def jm (F:Nat) (a0:aL) (a1:Int):Nat→Int→Option Int
 | 0,_=>none
 | n+1,j=>
  (((eC F a0 j).bind fun I=>
   if I=(12:Int) then
    some (.inl ())
   else
    (eC F a0 j).bind fun J=>
    if J=(14:Int) then
     some (.inl ())
    else
     some (.inr j)):Option (Sum Unit Int)).bind fun o=>match o with
   | .inl ()=>(ic F a0 (af (j+1))).bind fun U=>
   jm F a0 a1 n U
   | .inr y=>some y
def iC (F:Nat) (a0:aL) (a1:Int):Option Int:=
 ((jm F a0 a1 F a1):Option Int).bind fun o=>match o with
  | j=>(((eC F a0 j).bind fun J=>
   (fb F J).bind fun U=>
   if U=true then
    (ic F a0 (af (j+1))).bind fun aa=>
    some aa
   else
    some j):Option Int).bind fun o=>match o with
   | I=>(eC F a0 I).bind fun ab=>
   if ab=(6:Int) then
    some (af (I+1))
   else
    some 0
theorem qw (F:Nat) {h:AH} {Z:Zn} {a0:aL} {a1:Int} {ab aC aD aE} (hI:Inv Z h) (ad:RS (α:=al) Z aC a0.L) (ae:RS (α:=aq) Z aD a0.T.ak) (ai:RS (α:=aj) Z aE a0.D) (an:Z ab=some (ay aC aD aE a0)) {r:Int} (hm:iC F a0 a1=some r):
  b3 Try.prog 102 [Pt ab 0,V a1] h Z (V r):=by
 refine b4 Try.func102 hI ?_
 intro hs hS
 unfold iC at hm
 refine sp 1<|sq ?_
 obtain ⟨ax,j,hm⟩:=ah hm
 refine aI [0,1] (fun l h=>∃ aF av,av=ax∧l=[(0,Pt ab 0),(1,V av)]∧St hs [] Z (0,0) aF h []) ?_ ?_
 rintro l a7 ⟨aF,av,rfl,rfl,J⟩
 try dsimp only at hm
 refine sq ?_
 obtain ⟨aR,U,hm⟩:=ah hm
 refine aI [0,1] (fun l h=>∃ aH aw,aw=aR∧l=[(0,Pt ab 0),(1,V aw)]∧St hs [] Z (0,0) aH h []) ?_ ?_
 rintro l a8 ⟨aH,aw,rfl,rfl,ao⟩
 try dsimp only at hm
 refine sq<|s0 ?_
 obtain ⟨a9,aS,hm⟩:=ah hm
 refine cP 2 ao (fk F ao.inv (ad.mono ao.ag) (ae.mono ao.ag) (ai.mono ao.ag) (ao.ag _ _ an) aS) ?_
 rintro _ ba aJ rfl
 refine aG 0 hm ?_ ?_<;>intro bb hm
 refine xn 0<|dT<|sp 3<|rt<|⟨rfl,?_⟩
 obtain rfl:=si hm
 refine ⟨_,_,_,tk (V (af (aw+1))) (ResL.nil),aJ,?_⟩
 exact rfl
 refine xn 0<|dF<|sk<|sp 1<|rt<|⟨rfl,?_⟩
 obtain rfl:=si hm
 refine ⟨_,_,_,tk (V 0) (ResL.nil),aJ,?_⟩
 exact rfl
 refine s0 ?_
 obtain ⟨bc,aU,U⟩:=ah U
 refine cP 2 J (fk F J.inv (ad.mono J.ag) (ae.mono J.ag) (ai.mono J.ag) (J.ag _ _ an) aU) ?_
 rintro _ bd aK rfl
 obtain ⟨bf,aV,U⟩:=ah U
 refine cP 0 aK (oV F aK.inv aV) ?_
 rintro _ bg az rfl
 refine xn 0<|db U ?_ ?_<;>intro bh U
 refine g0 ?_
 obtain ⟨aW,aX,U⟩:=ah U
 refine cP 3 az (o4 F az.inv (ad.mono J.ag) (ae.mono J.ag) (ai.mono J.ag) (J.ag _ _ an) aX) ?_
 rintro _ bj aY rfl
 refine xn 1 ?_
 obtain rfl:=si U
 exact ⟨_,aW,rfl,(by kernel_rfl),aY⟩
 refine sk ?_
 obtain rfl:=si U
 exact ⟨_,av,rfl,(by kernel_rfl),az⟩
 refine bk 0<|lp [0,1] (fun n l h=>∃ aM au,jm F a0 a1 n au=some ax∧l=[(0,Pt ab 0),(1,V au)]∧St hs [] Z (0,0) aM h []) F ⟨_,a1,j,(by kernel_rfl),hS⟩ ?_
 rintro aA l bl ⟨aM,au,j,rfl,aa⟩
 rcases aA with _ | aA
 cases (show none=some ax from j)
 rw [jm] at j
 refine sq ?_
 obtain ⟨aZ,I,j⟩:=ah j
 refine aI [0,1] (fun l h=>∃ aP, .inl ()=aZ∧l=[(0,Pt ab 0),(1,V au)]∧St hs [] Z (0,0) aP h []) ?_ ?_
 rintro l bm ⟨aP,rfl,rfl,ar⟩
 try dsimp only at j
 refine bk 1<|g0 ?_
 obtain ⟨a2,a3,j⟩:=ah j
 refine cP 3 ar (o4 F ar.inv (ad.mono ar.ag) (ae.mono ar.ag) (ai.mono ar.ag) (ar.ag _ _ an) a3) ?_
 rintro _ bn a4 rfl
 refine xn 1 ?_
 exact ⟨aA,Nat.lt_succ_self _,⟨_,a2,j,(by kernel_rfl),a4⟩⟩
 refine s0 ?_
 obtain ⟨bo,a5,I⟩:=ah I
 refine cP 2 aa (fk F aa.inv (ad.mono aa.ag) (ae.mono aa.ag) (ai.mono aa.ag) (aa.ag _ _ an) a5) ?_
 rintro _ bp aB rfl
 refine aG 0 I ?_ ?_<;>intro bq I
 refine xn 6<|dT<|sk ?_
 obtain rfl:=si I
 exact ⟨_,rfl,(by kernel_rfl),aB⟩
 obtain ⟨br,a6,I⟩:=ah I
 refine cP 3 aB (fk F aB.inv (ad.mono aa.ag) (ae.mono aa.ag) (ai.mono aa.ag) (aa.ag _ _ an) a6) ?_
 rintro _ bu aQ rfl
 refine aG 0 I ?_ ?_<;>intro bw I
 refine xn 1<|dT<|sk ?_
 obtain rfl:=si I
 exact ⟨_,rfl,(by kernel_rfl),aQ⟩
 refine xn 1<|dF<|xt 0<|aO ?_
 obtain rfl:=si I
 obtain rfl:=si j
 exact ⟨_,au,rfl,(by kernel_rfl),aQ⟩
def jb (F:Nat) (a0:Int):Option Bool:=
 if a0=(12:Int) then
  some true
 else
  if a0=(14:Int) then
   some true
  else
   (fb F a0).bind fun j=>
   if j=true then
    some true
   else
    (jk F a0).bind fun I=>
    if I=true then
     some true
    else
     if a0=(18:Int) then
      some true
     else
      some false
theorem tA (F:Nat) {h:AH} {Z:Zn} {a0:Int} (hI:Inv Z h) {r:Bool} (hm:jb F a0=some r):
  b3 Try.prog 103 [V a0] h Z (.bool r):=by
 refine b4 Try.func103 hI ?_
 intro hs hS
 unfold jb at hm
 refine sp 1<|s0<|aG 1 hm ?_ ?_<;>intro aa hm
 refine xn 17<|rt<|⟨rfl,?_⟩
 obtain rfl:=si hm
 refine ⟨_,_,_,tk (.bool true) (ResL.nil),hS,?_⟩
 exact rfl
 refine aG 2 hm ?_ ?_<;>intro ab hm
 refine xn 14<|rt<|⟨rfl,?_⟩
 obtain rfl:=si hm
 refine ⟨_,_,_,tk (.bool true) (ResL.nil),hS,?_⟩
 exact rfl
 obtain ⟨ad,J,hm⟩:=ah hm
 refine cP 3 hS (oV F hS.inv J) ?_
 rintro _ ae j rfl
 refine kb 2 13 hm ?_ ?_<;>intro af hm
 refine xn 8<|rt<|⟨rfl,?_⟩
 obtain rfl:=si hm
 refine ⟨_,_,_,tk (.bool true) (ResL.nil),j,?_⟩
 exact rfl
 obtain ⟨ag,U,hm⟩:=ah hm
 refine cP 1 j (nB F j.inv U) ?_
 rintro _ ai I rfl
 refine kb 2 17 hm ?_ ?_<;>intro aj hm
 refine xn 4<|rt<|⟨rfl,?_⟩
 obtain rfl:=si hm
 refine ⟨_,_,_,tk (.bool true) (ResL.nil),I,?_⟩
 exact rfl
 refine aG 1 hm ?_ ?_<;>intro ak hm
 refine xn 2<|rt<|⟨rfl,?_⟩
 obtain rfl:=si hm
 refine ⟨_,_,_,tk (.bool true) (ResL.nil),I,?_⟩
 exact rfl
 refine xn 2<|rt<|⟨rfl,?_⟩
 obtain rfl:=si hm
 refine ⟨_,_,_,tk (.bool false) (ResL.nil),I,?_⟩
 exact rfl
def B9:List aN:=[u 5 (.buildSlice 25 0 #[]),u 6 (mv 0),u 7 (nk 6),u 8 (fa 58 7 1),u 9 (fa 27 8 0),u 10 (ld 25 9),u 11 (cb .append #[(t 5),(t 10)] #[25,25]),u 4 (sg 11)]
def Bp:List aN:=[u 12 (mv 4),u 13 (mv 1),u 14 (ia 25 12 13),u 15 (fa 37 14 5),o (.store 4 (t 15) (.const (.bool true)))]
def zo:List aN:=[u 16 (mv 0),u 17 (mv 4),u 18 (.build 27 #[(0,(t 17))]),u 19 (nk 16),u 20 (fa 58 19 1),o (.store 27 (t 20) (t 18))]
def lZ (F:Nat) (a0:aL) (a1:Int):Option aL:=
 if ([]:List aq).length+a0.T.ak.length≤2199023255552 then
  if 0≤a1∧a1<((([]:List aq)++a0.T.ak).length:Int) then
   ((([]:List aq)++a0.T.ak)[a1.toNat]?).bind fun j=>
   some (⟨a0.L,(⟨(([]:List aq)++a0.T.ak).set a1.toNat (⟨j.Kind,j.ai,j.To,j.Up,j.Kids,true⟩:aq)⟩:cG),a0.D,a0.End⟩:aL)
  else none
 else none
theorem uB (F:Nat) {h:AH} {Z:Zn} {a0:aL} {a1:Int} {U ad af ab ag} (hP:Pre Z h [.ae U (ay ad af ab a0), .gs ab ag (aa aj)]) (aA:RS (α:=al) Z ad a0.L) (aC:RS (α:=aq) Z af a0.T.ak) (aD:RCs (α:=aj) Z ag a0.D) {r:aL} (hm:lZ F a0 a1=some r):
  bQ Try.prog 95 [Pt U 0,V a1] h Z [.ae U (ay ad af ab a0), .gs ab ag (aa aj)] fun v Z' A'=>∃ v10 av aw ax, .tuple #[]=v∧A'=[.ae U (ay v10 av ab r), .gs av aw (aa aq), .gs ab ax (aa aj)]∧RS (α:=al) Z' v10 r.L∧RCs (α:=aq) Z' aw r.T.ak∧RCs (α:=aj) Z' ax r.D:=by
 refine b6 Try.func95 hP ?_
 intro hs hS
 unfold lZ at hm
 refine sr B9 ?_
 have aE:RCs (α:=aq) Z [] []:=RCs.bu _
 refine dP rfl trivial (c3 (cells:=[]) (s:=6) (by kernel_rfl)) (by kernel_rfl) hS ?_
 intro aF aR an
 refine xq 4 [(9,Pt U 1),(5,aF),(0,Pt U 0),(1,V a1)]<|aB 0 1 af an rfl ?_
 obtain ⟨aS,aG⟩:=RS.news aC (an).inv
 obtain ⟨aU,hm⟩:=aJ hm
 refine eY rfl trivial (dM (ys:=a0.T.ak) (bP:=64) an (i:=0) rfl aE aG rfl rfl (by kernel_rfl) (by omega) (by omega)) ?_
 rintro I aV aW ⟨ao,ar⟩
 refine xn 1<|sr Bp<|dv 2 0 hm ar ao rfl ?_
 intro aX hm
 refine xq 1 [(15, .pointer (some (ba I a1 (aa aq) 5))),(4,I),(0,Pt U 0)] ?_
 obtain ⟨J,az,hm⟩:=ah hm
 obtain ⟨aY,aH,a2,aI⟩:=ar.cp (j:=0) rfl ao (i:=a1) az
 obtain ⟨aK,aM,rfl⟩:=c6 aH
 refine jC rfl trivial (gi (u':=(⟨J.Kind,J.ai,J.To,J.Up,J.Kids,true⟩:aq)) (vs:=[.bool true]) (aZ:=[V J.Kind,V J.ai,V J.To,V J.Up,aK, .bool true]) ar (m:=0) rfl ao az aI rfl rfl rfl (by kernel_rfl) rfl rfl rfl ⟨_,aM,rfl⟩) ?_
 rintro a3 aO ⟨aP,au⟩
 refine xn 0<|rg zo<|xq 2 [(17,I),(16,Pt U 0)]<|bT rfl trivial (jK (v:= .agg #[I]) rfl (CA.cons (cs:=[I]) (au.fE (i:=0) rfl) (CA.bu)) (by kernel_rfl))<|bG 2 1 (.agg #[I]) [I] (ay ad I ab a0) au rfl rfl (br (au.fF (i:=0) rfl) cm) ?_
 intro a4 aQ
 refine xn 0 ?_
 obtain rfl:=si hm
 refine ⟨_,_,_,ResL.nil,(((aQ.front 2 rfl).front 1 rfl).front 2 rfl),?_⟩
 exact ⟨ad,I,aO,ag,rfl,rfl,aA,aP,aD⟩
def correctorref11_Reader_Pair_l0 (F:Nat) (a0:aL) (a1:Int) (ab:Int) (J:Int):Nat→aL→Int→Int→Int→Option (aL×Int×Int)
 | 0,_,_,_,_=>none
 | n+1,j,U,aa,I=>
  if I<J then
   ((if 0≤I∧I<(j.L.length:Int) then
     (j.L[I.toNat]?).bind fun ad=>
     if ad.Kind=(13:Int) then
      some (j,8)
     else
      some (j,aa)
    else none):Option (aL×Int)).bind fun o=>match o with
    | (ae,ag)=>correctorref11_Reader_Pair_l0 F a0 a1 ab J n ae U ag (af (I+1))
  else
   some (j,U,aa)
def lS (F:Nat) (a0:aL) (a1:Int) (j:Int) (I:Int):Option (Int×aL):=
 (eA F a0 a1 6 j I).bind fun J=>
 if (af (I - j))<(2:Int) then
  some (J.1,J.2)
 else
  ((correctorref11_Reader_Pair_l0 F a0 a1 j I F J.2 J.1 7 j):Option (aL×Int×Int)).bind fun o=>match o with
   | (aa,U,ab)=>(jx F aa (af (I - 1)) (af (j+1))).bind fun ad=>
   (eA F aa U ab j ad).bind fun ae=>
   (lZ F ae.2 U).bind fun ag=>
   some (U,ag)
theorem sK (F:Nat) {h:AH} {Z:Zn} {a0:aL} {a1:Int} {ad:Int} {an:Int} {I ao ar j au} (hP:Pre Z h [.ae I (ay ao ar j a0), .gs j au (aa aj)]) (bu:RS (α:=al) Z ao a0.L) (bw:RS (α:=aq) Z ar a0.T.ak) (bx:RCs (α:=aj) Z au a0.D) {r:Int×aL} (hm:lS F a0 a1 ad an=some r):
  bQ Try.prog 86 [Pt I 0,V a1,V ad,V an] h Z [.ae I (ay ao ar j a0), .gs j au (aa aj)] fun v Z' A'=>∃ v10 a8 a9,V r.1=v∧A'=[.ae I (ay v10 a8 j r.2), .gs j a9 (aa aj)]∧RS (α:=al) Z' v10 r.2.L∧RS (α:=aq) Z' a8 r.2.T.ak∧RCs (α:=aj) Z' a9 r.2.D:=by
 refine b6 Try.func86 hP ?_
 intro hs hS
 unfold lS at hm
 refine sp 1<|s0 ?_
 obtain ⟨aV,bz,hm⟩:=ah hm
 refine cA 4 hS (fun p=>fY F p bu bw bx bz) ?_
 rintro _ bZ b0 _ b1 ba ⟨bb,bc,bd,rfl,rfl,bf,bg,bh⟩
 refine xn 1<|sq<|s0<|aP 3 hm ?_ ?_<;>intro b2 hm
 refine xn 0<|dT<|sp 2<|rt<|⟨rfl,?_⟩
 obtain rfl:=si hm
 refine ⟨_,_,_,tk (V aV.1) (ResL.nil),ba,?_⟩
 exact ⟨bb,bc,bd,rfl,rfl,bf,bg,bh⟩
 refine xn 0<|dF<|sk<|sp 1<|sq<|sp 2 ?_
 obtain ⟨aW,J,hm⟩:=ah hm
 refine aI [0,2,3,9,10] (fun l h=>∃ aA av aK aX aY aZ a3,(av,aK,aX)=aW∧RS (α:=al) aA aY av.L∧RS (α:=aq) aA aZ av.T.ak∧RCs (α:=aj) aA a3 av.D∧l=[(0,Pt I 0),(2,V ad),(3,V an),(9,V aK),(10,V aX)]∧St hs (aR [.ae I (ay ao ar j a0), .gs j au (aa aj)]) Z (0,0) aA h [.ae I (ay aY aZ j av), .gs j a3 (aa aj)]) ?_ ?_
 rintro l b3 ⟨aA,av,aK,aX,aY,aZ,a3,rfl,bl,bn,bo,rfl,bA⟩
 try dsimp only at hm
 refine s0 ?_
 obtain ⟨b4,bB,hm⟩:=ah hm
 refine cE 9 bA (fun b5 a4 bC bp=>pz F bC (RS.mono a4 bl) (RS.mono a4 bn) (bj.row (bp _ (List.mem_of_getElem? (i:=1) rfl)) a4 bo) (bp _ (List.mem_of_getElem? (i:=0) rfl)) bB) ?_
 rintro _ b7 bD rfl
 obtain ⟨b8,bE,hm⟩:=ah hm
 refine cA 0 bD (fun p=>fY F p bl bn bo bE) ?_
 rintro _ b9 ca _ cb bF ⟨cc,cd,cf,rfl,rfl,bG,bH,bI⟩
 refine xn 0<|s0 ?_
 obtain ⟨cg,bJ,hm⟩:=ah hm
 refine cA 2 bF (fun p=>uB F p bG bH bI bJ) ?_
 rintro _ ch cj _ ck bK ⟨bL,bM,cl,bN,rfl,rfl,bO,bP,bR⟩
 refine xn 0<|sp 2<|rt<|⟨rfl,?_⟩
 obtain ⟨cm,bq,bS,bT⟩:=(bK.front 1 rfl).freeze bP
 obtain rfl:=si hm
 refine ⟨_,_,_,tk (V aK) (ResL.nil),bT,?_⟩
 exact ⟨bL,bM,bN,rfl,rfl,(bO.mono bq),bS,(bR.mono bq)⟩
 refine bk 0<|lp [0,2,3,9,10,11] (fun n l h=>∃ aC U aw aD aE ag ax az,correctorref11_Reader_Pair_l0 F a0 a1 ad an n U aw aD aE=some aW∧RS (α:=al) aC ag U.L∧RS (α:=aq) aC ax U.T.ak∧RCs (α:=aj) aC az U.D∧l=[(0,Pt I 0),(2,V ad),(3,V an),(9,V aw),(10,V aD),(11,V aE)]∧St hs (aR [.ae I (ay ao ar j a0), .gs j au (aa aj)]) Z (0,0) aC h [.ae I (ay ag ax j U), .gs j az (aa aj)]) F ⟨_,aV.2,aV.1,7,ad,bb,bc,bd,J,bf,bg,bh,(by kernel_rfl),ba⟩ ?_
 rintro a5 l cn ⟨aC,U,aw,aD,aE,ag,ax,az,J,aF,a6,a7,rfl,aH⟩
 rcases a5 with _ | a5
 cases (show none=some aW from J)
 rw [correctorref11_Reader_Pair_l0] at J
 refine sq<|s0<|aP 2 J ?_ ?_<;>intro cp J
 refine xn 0<|dT<|sk<|sq<|bk 1 ?_
 obtain ⟨bU,ab,J⟩:=ah J
 refine eo [0,2,3,9,10,11] (fun l h=>∃ aJ ai aM aQ aS aU,(ai,aM)=bU∧RS (α:=al) aJ aQ ai.L∧RS (α:=aq) aJ aS ai.T.ak∧RCs (α:=aj) aJ aU ai.D∧l=[(0,Pt I 0),(2,V ad),(3,V an),(9,V aw),(10,V aM),(11,V aE)]∧St hs (aR [.ae I (ay ao ar j a0), .gs j au (aa aj)]) Z (0,0) aJ h [.ae I (ay aQ aS j ai), .gs j aU (aa aj)]) (by kernel_rfl) ?_ ?_
 rintro l cq ⟨aJ,ai,aM,aQ,aS,aU,rfl,bV,bW,bX,rfl,bY⟩
 try dsimp only at J
 refine gp 3 ?_
 exact ⟨a5,Nat.lt_succ_self _,⟨_,ai,aw,aM,af (aE+1),aQ,aS,aU,J,bV,bW,bX,(by kernel_rfl),bY⟩⟩
 refine g0<|aB 3 0 ag aH rfl<|a2 1 ab aF ?_
 intro cr ab
 refine bm 1 0 (fun br=>V br.Kind) ab aF aH ?_
 intro br ct ab
 refine aG 0 ab ?_ ?_<;>intro cu ab
 refine xn 0<|dT<|gp 1 ?_
 obtain rfl:=si ab
 exact ⟨_,U,8,ag,ax,az,rfl,aF,a6,a7,(by kernel_rfl),aH⟩
 refine xn 0<|dF<|sk ?_
 obtain rfl:=si ab
 exact ⟨_,U,aD,ag,ax,az,rfl,aF,a6,a7,(by kernel_rfl),aH⟩
 refine xn 0<|dF<|xt 0<|aO ?_
 obtain rfl:=si J
 exact ⟨_,U,aw,aD,ag,ax,az,rfl,aF,a6,a7,(by kernel_rfl),aH⟩
def jH (F:Nat) (a0:aL) (a1:Int):Nat→Int→Int→Option Int
 | 0,_,_=>none
 | n+1,J,j=>
  (eC F a0 j).bind fun aa=>
  if (0:Int)<aa then
   (eC F a0 j).bind fun I=>
   ((if J=(0:Int) then
     if I=(7:Int) then
      some (.inr j)
     else
      (jg F I).bind fun ab=>
      if ab=true then
       some (.inr j)
      else
       some (.inl ())
    else
     some (.inl ())):Option (Sum Unit Int)).bind fun o=>match o with
    | .inl ()=>(((jk F I).bind fun ad=>
     if ad=true then
      some (af (J+1))
     else
      some J):Option Int).bind fun o=>match o with
     | U=>(jg F I).bind fun ae=>
     ((if ae=true then
       some (af (U - 1))
      else
       some U):Option Int).bind fun o=>match o with
      | ag=>jH F a0 a1 n ag (af (j+1))
    | .inr y=>some y
  else
   some j
def kL (F:Nat) (a0:aL) (a1:Int):Option Int:=
 ((jH F a0 a1 F 0 a1):Option Int).bind fun o=>match o with
  | j=>(jx F a0 j (af (a1+1))).bind fun I=>
  some I
theorem vJ (F:Nat) {h:AH} {Z:Zn} {a0:aL} {a1:Int} {aa aD aE aF} (hI:Inv Z h) (au:RS (α:=al) Z aD a0.L) (av:RS (α:=aq) Z aE a0.T.ak) (aw:RS (α:=aj) Z aF a0.D) (ax:Z aa=some (ay aD aE aF a0)) {r:Int} (hm:kL F a0 a1=some r):
  b3 Try.prog 101 [Pt aa 0,V a1] h Z (V r):=by
 refine b4 Try.func101 hI ?_
 intro hs hS
 unfold kL at hm
 refine sp 1<|sp 1<|sp 2<|sq ?_
 obtain ⟨az,j,hm⟩:=ah hm
 refine aI [0,1,6] (fun l h=>∃ aH aA,aA=az∧l=[(0,Pt aa 0),(1,V a1),(6,V aA)]∧St hs [] Z (0,0) aH h []) ?_ ?_
 rintro l bb ⟨aH,aA,rfl,rfl,ab⟩
 try dsimp only at hm
 refine s0 ?_
 obtain ⟨aX,aY,hm⟩:=ah hm
 refine cP 4 ab (pz F ab.inv (au.mono ab.ag) (av.mono ab.ag) (aw.mono ab.ag) (ab.ag _ _ ax) aY) ?_
 rintro _ bc aZ rfl
 refine xn 1<|rt<|⟨rfl,?_⟩
 obtain rfl:=si hm
 refine ⟨_,_,_,tk (V aX) (ResL.nil),aZ,?_⟩
 exact rfl
 refine bk 0<|lp [0,1,5,6] (fun n l h=>∃ aJ ad J,jH F a0 a1 n ad J=some az∧l=[(0,Pt aa 0),(1,V a1),(5,V ad),(6,V J)]∧St hs [] Z (0,0) aJ h []) F ⟨_,0,a1,j,(by kernel_rfl),hS⟩ ?_
 rintro aB l bd ⟨aJ,ad,J,j,rfl,U⟩
 rcases aB with _ | aB
 cases (show none=some az from j)
 rw [jH] at j
 refine sq<|s0 ?_
 obtain ⟨bf,a2,j⟩:=ah j
 refine cP 2 U (fk F U.inv (au.mono U.ag) (av.mono U.ag) (aw.mono U.ag) (U.ag _ _ ax) a2) ?_
 rintro _ bg aC rfl
 refine cH 0 j ?_ ?_<;>intro bh j
 refine xn 0<|dT<|sk<|bk 1<|s0 ?_
 obtain ⟨aK,a3,j⟩:=ah j
 refine cP 2 aC (fk F aC.inv (au.mono U.ag) (av.mono U.ag) (aw.mono U.ag) (U.ag _ _ ax) a3) ?_
 rintro _ bj an rfl
 refine xn 1<|sq ?_
 obtain ⟨a4,I,j⟩:=ah j
 refine aI [0,1,5,6,7] (fun l h=>∃ aM, .inl ()=a4∧l=[(0,Pt aa 0),(1,V a1),(5,V ad),(6,V J),(7,V aK)]∧St hs [] Z (0,0) aM h []) ?_ ?_
 rintro l bl ⟨aM,rfl,rfl,aP⟩
 try dsimp only at j
 refine sq ?_
 obtain ⟨a5,ae,j⟩:=ah j
 refine aI [0,1,5,6,7] (fun l h=>∃ aQ ai,ai=a5∧l=[(0,Pt aa 0),(1,V a1),(5,V ai),(6,V J),(7,V aK)]∧St hs [] Z (0,0) aQ h []) ?_ ?_
 rintro l bm ⟨aQ,ai,rfl,rfl,aR⟩
 try dsimp only at j
 refine sq<|s0 ?_
 obtain ⟨bn,a6,j⟩:=ah j
 refine cP 1 aR (ng F aR.inv a6) ?_
 rintro _ bo aS rfl
 refine xn 0 ?_
 obtain ⟨a7,ao,j⟩:=ah j
 refine aI [0,1,5,6] (fun l h=>∃ aU ar,ar=a7∧l=[(0,Pt aa 0),(1,V a1),(5,V ar),(6,V J)]∧St hs [] Z (0,0) aU h []) ?_ ?_
 rintro l bp ⟨aU,ar,rfl,rfl,a8⟩
 try dsimp only at j
 refine gp 3 ?_
 exact ⟨aB,Nat.lt_succ_self _,⟨_,ar,af (J+1),j,(by kernel_rfl),a8⟩⟩
 refine db ao ?_ ?_<;>intro bq ao
 refine gp 3 ?_
 obtain rfl:=si ao
 exact ⟨_,af (ai - 1),rfl,(by kernel_rfl),aS⟩
 refine sk ?_
 obtain rfl:=si ao
 exact ⟨_,ai,rfl,(by kernel_rfl),aS⟩
 refine s0 ?_
 obtain ⟨br,a9,ae⟩:=ah ae
 refine cP 1 aP (nB F aP.inv a9) ?_
 rintro _ bu aV rfl
 refine xn 0<|db ae ?_ ?_<;>intro bw ae
 refine gp 3 ?_
 obtain rfl:=si ae
 exact ⟨_,af (ad+1),rfl,(by kernel_rfl),aV⟩
 refine sk ?_
 obtain rfl:=si ae
 exact ⟨_,ad,rfl,(by kernel_rfl),aV⟩
 refine s0<|aG 1 I ?_ ?_<;>intro bx I
 refine aG 2 I ?_ ?_<;>intro bz I
 refine xn 5<|dT<|xt 0<|hU rfl<|aO ?_
 obtain rfl:=si I
 obtain rfl:=si j
 exact ⟨_,J,rfl,(by kernel_rfl),an⟩
 obtain ⟨bA,ba,I⟩:=ah I
 refine cP 2 an (ng F an.inv ba) ?_
 rintro _ bB aW rfl
 refine xn 2<|db I ?_ ?_<;>intro bC I
 refine xt 0<|hU rfl<|aO ?_
 obtain rfl:=si I
 obtain rfl:=si j
 exact ⟨_,J,rfl,(by kernel_rfl),aW⟩
 refine sk ?_
 obtain rfl:=si I
 exact ⟨_,rfl,(by kernel_rfl),aW⟩
 refine xn 8<|dF<|sk ?_
 obtain rfl:=si I
 exact ⟨_,rfl,(by kernel_rfl),an⟩
 refine xn 0<|dF<|xt 0<|aO ?_
 obtain rfl:=si j
 exact ⟨_,J,rfl,(by kernel_rfl),aC⟩
def pg (cg:aL→Int→Int→Int→Option (Int×Int×aL)):Prop:=∀ {h:AH} {Z:Zn} {a0:aL} {a1:Int} {ad:Int} {af:Int} {j J U I ab} (hP:Pre Z h [.ae j (ay J U I a0), .gs I ab (aa aj)]) (an:RS (α:=al) Z J a0.L) (ao:RS (α:=aq) Z U a0.T.ak) (ar:RCs (α:=aj) Z ab a0.D) {r:Int×Int×aL} (hm:cg a0 a1 ad af=some r),bQ Try.prog 80 [Pt j 0,V a1,V ad,V af] h Z [.ae j (ay J U I a0), .gs I ab (aa aj)] fun v Z' A'=>∃ v10 ag ah ai, .tuple #[V r.1,V r.2.1]=v∧A'=[.ae j (ay v10 ag ah r.2.2), .gs ah ai (aa aj)]∧RS (α:=al) Z' v10 r.2.2.L∧RS (α:=aq) Z' ag r.2.2.T.ak∧RCs (α:=aj) Z' ai r.2.2.D
def gY (F:Nat) (cg:aL→Int→Int→Int→Option (Int×Int×aL)) (a0:aL) (a1:Int) (J:Int) (ad:Int):Option (Int×aL):=
 (iC F a0 J).bind fun j=>
 if (0:Int)<j then
  (lS F a0 a1 J j).bind fun I=>
  (ic F I.2 j).bind fun ae=>
  (eC F I.2 ae).bind fun aa=>
  if aa=(0:Int) then
   some (j,I.2)
  else
   if aa=(7:Int) then
    some (j,I.2)
   else
    (jg F aa).bind fun ah=>
    if ah=true then
     some (j,I.2)
    else
     (cg I.2 I.1 ae (af (ad - 1))).bind fun U=>
     if U.1<(0:Int) then
      some (j,U.2.2)
     else
      some (U.2.1,U.2.2)
 else
  ((if 0≤a1∧a1<(a0.T.ak.length:Int) then
    (a0.T.ak[a1.toNat]?).bind fun ai=>
    if ai.Kind=(10:Int) then
     (eA F a0 a1 6 J (af (J+1))).bind fun ab=>
     (lZ F ab.2 ab.1).bind fun aj=>
     some (aj,ab.1)
    else
     some (a0,a1)
   else none):Option (aL×Int)).bind fun o=>match o with
   | (an,ao)=>(cg an ao J (af (ad - 1))).bind fun ag=>
   some (ag.2.1,ag.2.2)
theorem oU (F:Nat) (cg:aL→Int→Int→Int→Option (Int×Int×aL)) (iX:pg cg) {h:AH} {Z:Zn} {a0:aL} {a1:Int} {aA:Int} {aC:Int} {J an U I ao} (hP:Pre Z h [.ae J (ay an U I a0), .gs I ao (aa aj)]) (av:RS (α:=al) Z an a0.L) (ab:RS (α:=aq) Z U a0.T.ak) (aw:RCs (α:=aj) Z ao a0.D) {r:Int×aL} (hm:gY F cg a0 a1 aA aC=some r):
  bQ Try.prog 104 [Pt J 0,V a1,V aA,V aC] h Z [.ae J (ay an U I a0), .gs I ao (aa aj)] fun v Z' A'=>∃ v10 aV aW aX,V r.1=v∧A'=[.ae J (ay v10 aV aW r.2), .gs aW aX (aa aj)]∧RS (α:=al) Z' v10 r.2.L∧RS (α:=aq) Z' aV r.2.T.ak∧RCs (α:=aj) Z' aX r.2.D:=by
 refine b6 Try.func104 hP ?_
 intro hs hS
 unfold gY at hm
 refine sp 1<|s0 ?_
 obtain ⟨ax,bf,hm⟩:=ah hm
 refine cE 2 hS (fun cb aD bg aY=>qw F bg (RS.mono aD av) (RS.mono aD ab) (bj.row (aY _ (List.mem_of_getElem? (i:=1) rfl)) aD aw) (aY _ (List.mem_of_getElem? (i:=0) rfl)) bf) ?_
 rintro _ cc ar rfl
 refine xn 1<|sq<|s0<|cH 1 hm ?_ ?_<;>intro cd hm
 refine xn 0<|dT<|s0 ?_
 obtain ⟨cf,bh,hm⟩:=ah hm
 refine cA 4 ar (fun p=>sK F p av ab aw bh) ?_
 rintro _ ch cj _ ck bk ⟨aE,aF,aH,rfl,rfl,ad,af,ag⟩
 refine xn 1<|s0 ?_
 obtain ⟨cl,bl,hm⟩:=ah hm
 refine cE 2 bk (fun cm aJ bm aZ=>o4 F bm (RS.mono aJ ad) (RS.mono aJ af) (bj.row (aZ _ (List.mem_of_getElem? (i:=1) rfl)) aJ ag) (aZ _ (List.mem_of_getElem? (i:=0) rfl)) bl) ?_
 rintro _ cn bn rfl
 refine xn 1<|s0 ?_
 obtain ⟨cp,bo,hm⟩:=ah hm
 refine cE 2 bn (fun cq aK bp a3=>fk F bp (RS.mono aK ad) (RS.mono aK af) (bj.row (a3 _ (List.mem_of_getElem? (i:=1) rfl)) aK ag) (a3 _ (List.mem_of_getElem? (i:=0) rfl)) bo) ?_
 rintro _ cr az rfl
 refine xn 1<|sq<|s0<|aG 1 hm ?_ ?_<;>intro ct hm
 refine xn 8<|dT<|sp 2<|rt<|⟨rfl,?_⟩
 obtain rfl:=si hm
 refine ⟨_,_,_,tk (V ax) (ResL.nil),az,?_⟩
 exact ⟨aE,aF,I,aH,rfl,rfl,ad,af,ag⟩
 refine aG 2 hm ?_ ?_<;>intro cu hm
 refine xn 5<|dT<|sp 2<|rt<|⟨rfl,?_⟩
 obtain rfl:=si hm
 refine ⟨_,_,_,tk (V ax) (ResL.nil),az,?_⟩
 exact ⟨aE,aF,I,aH,rfl,rfl,ad,af,ag⟩
 obtain ⟨cv,bq,hm⟩:=ah hm
 refine cP 3 az (ng F az.inv bq) ?_
 rintro _ cw a4 rfl
 refine xn 1<|db hm ?_ ?_<;>intro cx hm
 refine sp 2<|rt<|⟨rfl,?_⟩
 obtain rfl:=si hm
 refine ⟨_,_,_,tk (V ax) (ResL.nil),a4,?_⟩
 exact ⟨aE,aF,I,aH,rfl,rfl,ad,af,ag⟩
 refine sk<|s0 ?_
 obtain ⟨br,bu,hm⟩:=ah hm
 refine cA 5 a4 (fun p=>iX p ad af ag bu) ?_
 rintro _ cz cB _ cC a5 ⟨a6,a7,a8,a9,rfl,rfl,ba,bb,bc⟩
 refine xn 5<|sq<|s0<|aP 1 hm ?_ ?_<;>intro cD hm
 refine xn 0<|dT<|sp 2<|rt<|⟨rfl,?_⟩
 obtain rfl:=si hm
 refine ⟨_,_,_,tk (V ax) (ResL.nil),a5,?_⟩
 exact ⟨a6,a7,a8,a9,rfl,rfl,ba,bb,bc⟩
 refine xn 0<|dF<|sk<|sp 2<|rt<|⟨rfl,?_⟩
 obtain rfl:=si hm
 refine ⟨_,_,_,tk (V br.2.1) (ResL.nil),a5,?_⟩
 exact ⟨a6,a7,a8,a9,rfl,rfl,ba,bb,bc⟩
 refine xn 0<|dF<|sk<|sp 2<|sq ?_
 obtain ⟨bw,j,hm⟩:=ah hm
 refine aI [0,2,3,15] (fun l h=>∃ au ai aO aQ aS aU,(ai,aO)=bw∧RS (α:=al) au aQ ai.L∧RS (α:=aq) au aS ai.T.ak∧RCs (α:=aj) au aU ai.D∧l=[(0,Pt J 0),(2,V aA),(3,V aC),(15,V aO)]∧St hs (aR [.ae J (ay an U I a0), .gs I ao (aa aj)]) Z (0,0) au h [.ae J (ay aQ aS I ai), .gs I aU (aa aj)]) ?_ ?_
 rintro l cF ⟨au,ai,aO,aQ,aS,aU,rfl,bx,bz,bA,rfl,bB⟩
 try dsimp only at hm
 refine s0 ?_
 obtain ⟨bC,bD,hm⟩:=ah hm
 refine cA 5 bB (fun p=>iX p bx bz bA bD) ?_
 rintro _ cG cI _ cJ bE ⟨bF,bG,bH,bI,rfl,rfl,bJ,bK,bL⟩
 refine xn 5<|sp 2<|rt<|⟨rfl,?_⟩
 obtain rfl:=si hm
 refine ⟨_,_,_,tk (V bC.2.1) (ResL.nil),bE,?_⟩
 exact ⟨bF,bG,bH,bI,rfl,rfl,bJ,bK,bL⟩
 refine s0<|aB 4 0 U ar rfl<|a2 1 j ab ?_
 intro cK j
 obtain ⟨bN,bO,j⟩:=ah j
 obtain ⟨cL,bP,bS⟩:=RS.bR ab (i:=a1) bO
 obtain ⟨cM,cN,rfl⟩:=c6 bP
 refine eg 1 0 (V bN.Kind) (bS _ (ar.bM (aM.refl _)))<|aG 0 j ?_ ?_<;>intro cO j
 refine xn 0<|dT<|s0 ?_
 obtain ⟨bT,bU,j⟩:=ah j
 refine cA 5 ar (fun p=>fY F p av ab aw bU) ?_
 rintro _ cQ cR _ cS bV ⟨cT,cU,cX,rfl,rfl,bW,bX,bY⟩
 refine xn 1<|g0 ?_
 obtain ⟨bZ,b0,j⟩:=ah j
 refine cA 2 bV (fun p=>uB F p bW bX bY b0) ?_
 rintro _ c0 c3 _ c4 b1 ⟨b2,b3,c7,b4,rfl,rfl,b5,b7,b8⟩
 refine xn 0 ?_
 obtain ⟨c8,bd,b9,ca⟩:=(b1.front 1 rfl).freeze b7
 obtain rfl:=si j
 exact ⟨_,bZ,bT.1,b2,b3,b4,rfl,(b5.mono bd),b9,(b8.mono bd),(by kernel_rfl),ca⟩
 refine xn 0<|dF<|sk ?_
 obtain rfl:=si j
 exact ⟨_,a0,a1,an,U,ao,rfl,av,ab,aw,(by kernel_rfl),ar⟩
def E1:List bt:=[uP 42 (mv 0),uP 43 (mv 0),uP 44 (nk 43),uP 45 (fa 58 44 2),uL 46 (ld 28 45),uP 47 (mv 0),uP 48 (nk 47),uP 49 (fa 58 48 0),uL 50 (ld 24 49),uP 51 (mv 2),uP 52 (ia 24 50 51),uP 53 (fa 85 52 1),uL 54 (ld 3 53),uP 55 (mv 0),uP 56 (nk 55),uP 57 (fa 58 56 0),uL 58 (ld 24 57),uP 59 (mv 2),uP 60 (ia 24 58 59),uP 61 (fa 85 60 2),uL 62 (ld 3 61),uP 63 (.build 92 #[(0,(ci 9)),(1,(t 54)),(2,(t 62))]),uF 64 (.buildSlice 28 1 #[(0,(t 63))]) .fresh [],uF 65 (cb .append #[(t 46),(t 64)] #[28,28]) .make [4,8,12,16,20],uP 66 (nk 42),uP 67 (fa 58 66 2),oF (.store 28 (t 67) (t 65)) .make [4,8,12,16,20]]
def correctorref11_Reader_collection_l0 (F:Nat) (cg:aL→Int→Int→Int→Option (Int×Int×aL)) (a0:aL) (a1:Int) (J:Int) (U:Int):Nat→aL→Bool→Int→Int→Option (Int×aL)
 | 0,_,_,_,_=>none
 | n+1,j,ab,ah,aa=>
  (ic F j ah).bind fun I=>
  (eC F j I).bind fun ad=>
  if ad=(0:Int) then
   if 0≤J∧J<(j.L.length:Int) then
    (j.L[J.toNat]?).bind fun ae=>
    if 0≤J∧J<(j.L.length:Int) then
     (j.L[J.toNat]?).bind fun ag=>
     if j.D.length+[(⟨9,ae.ai,ag.To⟩:aj)].length≤5864062014805 then
      (jx F (⟨j.L,j.T,j.D++[(⟨9,ae.ai,ag.To⟩:aj)],j.End⟩:aL) ah (af (J+1))).bind fun av=>
      some (av,(⟨j.L,j.T,j.D++[(⟨9,ae.ai,ag.To⟩:aj)],j.End⟩:aL))
     else none
    else none
   else none
  else
   if ad=aa then
    (h6 F j.T a1 (af (I+1))).bind fun aw=>
    some (af (I+1),(⟨j.L,aw,j.D,j.End⟩:aL))
   else
    (jg F ad).bind fun ax=>
    if ax=true then
     (ea F j a1 I (af (I+1)) 8).bind fun ay=>
     correctorref11_Reader_collection_l0 F cg a0 a1 J U n ay.2 ab (af (I+1)) aa
    else
     if ad=(7:Int) then
      if ab=true then
       (h6 F j.T a1 (af (I+1))).bind fun az=>
       correctorref11_Reader_collection_l0 F cg a0 a1 J U n (⟨j.L,az,j.D,j.End⟩:aL) false (af (I+1)) aa
      else
       if ad=(7:Int) then
        (ea F j a1 I (af (I+1)) 8).bind fun aA=>
        correctorref11_Reader_collection_l0 F cg a0 a1 J U n aA.2 ab (af (I+1)) aa
       else
        if ab=true then
         (kL F j I).bind fun ak=>
         (ea F j a1 I ak 8).bind fun aB=>
         correctorref11_Reader_collection_l0 F cg a0 a1 J U n aB.2 ab ak aa
        else
         (iC F j I).bind fun aC=>
         if (0:Int)<aC then
          (gY F cg j a1 I U).bind fun an=>
          correctorref11_Reader_collection_l0 F cg a0 a1 J U n an.2 true an.1 aa
         else
          (jb F ad).bind fun aD=>
          if aD=true then
           (gY F cg j a1 I U).bind fun ao=>
           correctorref11_Reader_collection_l0 F cg a0 a1 J U n ao.2 true ao.1 aa
          else
           (ea F j a1 I (af (I+1)) 8).bind fun aE=>
           correctorref11_Reader_collection_l0 F cg a0 a1 J U n aE.2 ab (af (I+1)) aa
     else
      if ad=(7:Int) then
       (ea F j a1 I (af (I+1)) 8).bind fun aF=>
       correctorref11_Reader_collection_l0 F cg a0 a1 J U n aF.2 ab (af (I+1)) aa
      else
       if ab=true then
        (kL F j I).bind fun aq=>
        (ea F j a1 I aq 8).bind fun aG=>
        correctorref11_Reader_collection_l0 F cg a0 a1 J U n aG.2 ab aq aa
       else
        (iC F j I).bind fun aH=>
        if (0:Int)<aH then
         (gY F cg j a1 I U).bind fun ar=>
         correctorref11_Reader_collection_l0 F cg a0 a1 J U n ar.2 true ar.1 aa
        else
         (jb F ad).bind fun aI=>
         if aI=true then
          (gY F cg j a1 I U).bind fun au=>
          correctorref11_Reader_collection_l0 F cg a0 a1 J U n au.2 true au.1 aa
         else
          (ea F j a1 I (af (I+1)) 8).bind fun aJ=>
          correctorref11_Reader_collection_l0 F cg a0 a1 J U n aJ.2 ab (af (I+1)) aa
def lf (F:Nat) (cg:aL→Int→Int→Int→Option (Int×Int×aL)) (a0:aL) (a1:Int) (j:Int) (I:Int):Option (Int×aL):=
 ((if 0≤j∧j<(a0.L.length:Int) then
   (a0.L[j.toNat]?).bind fun J=>
   if J.Kind=(9:Int) then
    some 11
   else
    some 10
  else none):Option Int).bind fun o=>match o with
  | U=>((correctorref11_Reader_collection_l0 F cg a0 a1 j I F a0 false (af (j+1)) U):Option (Int×aL)).bind fun o=>match o with
   | y=>some y
theorem y7 (F:Nat) (cg:aL→Int→Int→Int→Option (Int×Int×aL)) (iX:pg cg) {h:AH} {Z:Zn} {a0:aL} {a1:Int} {ab:Int} {a8:Int} {J aO aQ aA aU} (hP:Pre Z h [.ae J (ay aO aQ aA a0), .gs aA aU (aa aj)]) (bg:RS (α:=al) Z aO a0.L) (ck:RS (α:=aq) Z aQ a0.T.ak) (cl:RCs (α:=aj) Z aU a0.D) {r:Int×aL} (hm:lf F cg a0 a1 ab a8=some r):
  bQ Try.prog 93 [Pt J 0,V a1,V ab,V a8] h Z [.ae J (ay aO aQ aA a0), .gs aA aU (aa aj)] fun v Z' A'=>∃ v10 bE bF bI,V r.1=v∧A'=[.ae J (ay v10 bE bF r.2), .gs bF bI (aa aj)]∧RS (α:=al) Z' v10 r.2.L∧RS (α:=aq) Z' bE r.2.T.ak∧RCs (α:=aj) Z' bI r.2.D:=by
 refine b6 Try.func93 hP ?_
 intro hs hS
 unfold lf at hm
 refine sp 1<|sp 1<|sp 3<|sp 1<|sq ?_
 obtain ⟨cn,aP,hm⟩:=ah hm
 refine aI [0,1,2,3,9,10,11] (fun l h=>∃ bK bb,bb=cn∧l=[(0,Pt J 0),(1,V a1),(2,V ab),(3,V a8),(9, .bool false),(10,V (af (ab+1))),(11,V bb)]∧St hs (aR [.ae J (ay aO aQ aA a0), .gs aA aU (aa aj)]) Z (0,0) bK h [.ae J (ay aO aQ aA a0), .gs aA aU (aa aj)]) ?_ ?_
 rintro l fI ⟨bK,bb,rfl,rfl,bc⟩
 try dsimp only at hm
 obtain ⟨bL,I,hm⟩:=ah hm
 refine bk 0<|lp [0,1,2,3,9,10,11] (fun n l h=>∃ aZ ar aF az av an aH au a4,correctorref11_Reader_collection_l0 F cg a0 a1 ab a8 n ar aF az av=some bL∧RS (α:=al) aZ an ar.L∧RS (α:=aq) aZ aH ar.T.ak∧RCs (α:=aj) aZ a4 ar.D∧l=[(0,Pt J 0),(1,V a1),(2,V ab),(3,V a8),(9, .bool aF),(10,V az),(11,V av)]∧St hs (aR [.ae J (ay aO aQ aA a0), .gs aA aU (aa aj)]) Z (0,0) aZ h [.ae J (ay an aH au ar), .gs au a4 (aa aj)]) F ⟨_,a0,false,af (ab+1),bb,aO,aQ,aA,aU,I,(bg.mono bc.ag),(ck.mono bc.ag),(cl.mono bc.ag),(by kernel_rfl),bc⟩ ?_
 rintro aw l fJ ⟨aZ,ar,aF,az,av,an,aH,au,a4,I,U,ad,ao,rfl,cp⟩
 rcases aw with _ | aw
 cases (show none=some bL from I)
 rw [correctorref11_Reader_collection_l0] at I
 refine bk 1<|s0 ?_
 obtain ⟨aV,cq,I⟩:=ah I
 refine cE 2 cp (fun fK bh cr bN=>o4 F cr (RS.mono bh U) (RS.mono bh ad) (bj.row (bN _ (List.mem_of_getElem? (i:=1) rfl)) bh ao) (bN _ (List.mem_of_getElem? (i:=0) rfl)) cq) ?_
 rintro _ fL cu rfl
 refine xn 1<|s0 ?_
 obtain ⟨fM,cv,I⟩:=ah I
 refine cE 2 cu (fun fN bl cw bS=>fk F cw (RS.mono bl U) (RS.mono bl ad) (bj.row (bS _ (List.mem_of_getElem? (i:=1) rfl)) bl ao) (bS _ (List.mem_of_getElem? (i:=0) rfl)) cv) ?_
 rintro _ fO a6 rfl
 refine xn 1<|bk 2<|s0<|aG 1 I ?_ ?_<;>intro fP I
 refine xn 1<|dT<|cU E1 a6 ?_
 intro bn fQ bo aW
 refine yq 4 [(45,Pt J 2),(42,Pt J 0),(0,Pt J 0),(2,V ab),(10,V az)] ?_
 have fS:J<bn:=bo.1 _ (List.mem_of_getElem? (i:=0) rfl) _ (by simp [Itm.ids])
 refine aX (v:=au) rfl trivial rfl (by show J<_;omega) (aC (v:=au) (aW.di (i:=1) rfl)) (aW.aS (i:=0) rfl (by kernel_rfl)) trivial<|yq 3 [(49,Pt J 0),(46,au),(42,Pt J 0),(0,Pt J 0),(2,V ab),(10,V az)] ?_
 have fT:J<bn:=bo.1 _ (List.mem_of_getElem? (i:=0) rfl) _ (by simp [Itm.ids])
 refine aX (v:=an) rfl trivial rfl (by show J<_;omega) (aC (v:=an) (RS.dG U)) (aW.aS (i:=0) rfl (by kernel_rfl)) trivial<|yq 1 [(51,V ab),(50,an),(46,au),(42,Pt J 0),(0,Pt J 0),(2,V ab),(10,V az)] ?_
 obtain ⟨bT,I⟩:=aJ I
 refine aD rfl trivial (bA rfl rfl (by kernel_rfl:slTy _ _=some (aa al)) (RS.cQ U (by omega)) bT.1 bT.2)<|yq 1 [(53, .pointer (some (ba an ab (aa al) 1))),(46,au),(42,Pt J 0),(0,Pt J 0),(2,V ab),(10,V az)] ?_
 obtain ⟨ax,cx,I⟩:=ah I
 obtain ⟨fU,cz,cB⟩:=RS.bR U (i:=ab) cx
 obtain rfl:=eZ cz
 refine ct rfl rfl trivial (fun h2 hz=>bH (w:=V ax.ai) (cB h2 hz) rfl (by kernel_rfl)) (aW.bM (aM.refl _)) (aC (v:=V ax.ai) trivial) trivial<|yq 3 [(57,Pt J 0),(54,V ax.ai),(46,au),(42,Pt J 0),(0,Pt J 0),(2,V ab),(10,V az)] ?_
 have fV:J<bn:=bo.1 _ (List.mem_of_getElem? (i:=0) rfl) _ (by simp [Itm.ids])
 refine aX (v:=an) rfl trivial rfl (by show J<_;omega) (aC (v:=an) (RS.dG U)) (aW.aS (i:=0) rfl (by kernel_rfl)) trivial<|yq 1 [(59,V ab),(58,an),(54,V ax.ai),(46,au),(42,Pt J 0),(0,Pt J 0),(2,V ab),(10,V az)] ?_
 obtain ⟨bU,I⟩:=aJ I
 refine aD rfl trivial (bA rfl rfl (by kernel_rfl:slTy _ _=some (aa al)) (RS.cQ U (by omega)) bU.1 bU.2)<|yq 1 [(61, .pointer (some (ba an ab (aa al) 2))),(54,V ax.ai),(46,au),(42,Pt J 0),(0,Pt J 0),(2,V ab),(10,V az)] ?_
 obtain ⟨aE,cC,I⟩:=ah I
 obtain ⟨fW,cD,cG⟩:=RS.bR U (i:=ab) cC
 obtain rfl:=eZ cD
 refine ct rfl rfl trivial (fun h2 hz=>bH (w:=V aE.To) (cG h2 hz) rfl (by kernel_rfl)) (aW.bM (aM.refl _)) (aC (v:=V aE.To) trivial) trivial<|yq 1 [(63, .agg #[V 9,V ax.ai,V aE.To]),(46,au),(42,Pt J 0),(0,Pt J 0),(2,V ab),(10,V az)] ?_
 have cI:RCs (α:=aj) aZ [V 9,V ax.ai,V aE.To] [(⟨9,ax.ai,aE.To⟩:aj)]:=RCs.cons (cs:=[V 9,V ax.ai,V aE.To]) rfl (RCs.bu _)
 refine jE rfl trivial (c3 (cells:=[V 9,V ax.ai,V aE.To]) (s:=3) (by kernel_rfl)) (by kernel_rfl) aW (by omega) (Nat.add_lt_add_left (by decide) _) ?_
 intro bV fX fY fZ ga bW
 obtain ⟨gb,I⟩:=aJ I
 have a9:St _ _ _ _ _ _ ([.gs au a4 (aa aj)]++[.gs bV [V 9,V ax.ai,V aE.To] (aa aj), .ae J (ay an aH au ar)]):=(bW.front 2 rfl)
 refine iK rfl trivial a9 (dM (ys:=[(⟨9,ax.ai,aE.To⟩:aj)]) (bP:=24) a9.sub (i:=0) rfl ao ((bW.cM).eI (j:=0) rfl cI) rfl rfl (by kernel_rfl) (by omega) (by omega)) (aM.refl _) (.a5 trivial (.a5 (a9.bJ 1 rfl bO) (.a5 trivial (.a5 (a9.bJ 1 rfl bO) (.a5 (a9.bJ 1 rfl bO) .nil))))) ?_
 rintro a7 bX gd ⟨bY,bp⟩
 refine yq 2 [(67,Pt J 2),(65,a7),(0,Pt J 0),(2,V ab),(10,V az)] ?_
 have bZ:St _ _ _ _ _ _ ([.ae J (ay an aH au ar)]++[.gs a7 bX (aa aj), .gs bV [V 9,V ax.ai,V aE.To] (aa aj)]):=(bp.front 2 rfl)
 refine g3 rfl trivial bZ (gK (vs:=[a7]) (cF:=(ay an aH a7 ar)) (L':=[.ae J (ay an aH a7 ar)]) bZ.sub (i:=0) rfl rfl rfl (bp.fE (i:=0) rfl) (by kernel_rfl) (br (bp.fF (i:=0) rfl) cm) rfl rfl rfl) (aM.refl _) (.a5 trivial (.drop (by decide) (.a5 trivial (.drop (by decide) (.drop (by decide) .nil))))) ?_
 intro gf cJ
 refine yf [(0,Pt J 0),(2,V ab),(10,V az)] ?_
 have cK:=cJ.aY
 refine s0 ?_
 obtain ⟨cL,cN,I⟩:=ah I
 refine cE 4 cK (fun gg bq cO b0=>pz F (a0:=(⟨ar.L,ar.T,ar.D++[(⟨9,ax.ai,aE.To⟩:aj)],ar.End⟩:aL)) cO (RS.mono bq U) (RS.mono bq ad) (bj.row (b0 _ (List.mem_of_getElem? (i:=1) rfl)) bq bY) (b0 _ (List.mem_of_getElem? (i:=0) rfl)) cN) ?_
 rintro _ gh cR rfl
 refine xn 1<|rt<|a3<|a3<|a3<|⟨rfl,?_⟩
 obtain rfl:=si I
 obtain rfl:=si hm
 refine ⟨_,_,_,tk (V cL) (ResL.nil),(cR.takeN 2),?_⟩
 exact ⟨an,aH,a7,bX,rfl,rfl,U,ad,bY⟩
 refine xn 1<|dF<|s0<|aG 2 I ?_ ?_<;>intro gi I
 refine xn 1<|dT<|s0<|aB 4 0 (.agg #[aH]) a6 rfl ?_
 obtain ⟨gj,cS,I⟩:=ah I
 refine c0 3 a6 (rE F a6.eJ ad cS) ?_
 rintro _ gk gl _ b1 cT ⟨bd,rfl,rfl,b2⟩
 refine bG 2 0 (.agg #[bd]) [bd] (ay an bd au ar) cT rfl rfl (br (RS.c7 b2) cm) ?_
 intro gm cX
 refine xn 0<|sp 3<|rt<|a3<|a3<|a3<|⟨rfl,?_⟩
 obtain rfl:=si I
 obtain rfl:=si hm
 refine ⟨_,_,_,tk (V (af (aV+1))) (ResL.nil),cX,?_⟩
 exact ⟨an,bd,au,a4,rfl,rfl,(U.mono b1),b2,(ao.mono b1)⟩
 refine xn 1<|dF<|s0 ?_
 obtain ⟨gn,c4,I⟩:=ah I
 refine cP 1 a6 (ng F a6.inv c4) ?_
 rintro _ gq aK rfl
 refine xn 1<|db I ?_ ?_<;>intro gr I
 refine s0 ?_
 obtain ⟨c6,c8,I⟩:=ah I
 refine cA 5 aK (fun p=>fD F p U ad ao c8) ?_
 rintro _ gu gv _ gw c9 ⟨da,dc,dd,de,rfl,rfl,df,dg,dh⟩
 refine xn 0<|gp 3 ?_
 exact ⟨aw,Nat.lt_succ_self _,⟨_,c6.2,aF,af (aV+1),av,da,dc,dd,de,I,df,dg,dh,(by kernel_rfl),c9⟩⟩
 refine s0<|aG 1 I ?_ ?_<;>intro gx I
 refine xn 4<|db I ?_ ?_<;>intro gy I
 refine s0<|aB 4 0 (.agg #[aH]) aK rfl ?_
 obtain ⟨dj,dk,I⟩:=ah I
 refine c0 3 aK (rE F aK.eJ ad dk) ?_
 rintro _ gz gA _ b3 dm ⟨bf,rfl,rfl,b4⟩
 refine bG 2 0 (.agg #[bf]) [bf] (ay an bf au ar) dm rfl rfl (br (RS.c7 b4) cm) ?_
 intro gB dn
 refine xn 0<|sp 1<|gp 3 ?_
 exact ⟨aw,Nat.lt_succ_self _,⟨_,(⟨ar.L,dj,ar.D,ar.End⟩:aL),false,af (aV+1),av,an,bf,au,a4,I,(U.mono b3),b4,(ao.mono b3),(by kernel_rfl),dn⟩⟩
 refine s0<|aG 1 I ?_ ?_<;>intro gC I
 refine xn 1<|dT<|s0 ?_
 obtain ⟨dp,dq,I⟩:=ah I
 refine cA 5 aK (fun p=>fD F p U ad ao dq) ?_
 rintro _ gD gE _ gF dr ⟨ds,dt,dv,dw,rfl,rfl,dx,dy,dz⟩
 refine xn 0<|gp 3 ?_
 exact ⟨aw,Nat.lt_succ_self _,⟨_,dp.2,aF,af (aV+1),av,ds,dt,dv,dw,I,dx,dy,dz,(by kernel_rfl),dr⟩⟩
 refine xn 1<|dF<|sp 2<|db I ?_ ?_<;>intro gG I
 refine s0 ?_
 obtain ⟨dA,dB,I⟩:=ah I
 refine cE 2 aK (fun gH bw dC b5=>vJ F dC (RS.mono bw U) (RS.mono bw ad) (bj.row (b5 _ (List.mem_of_getElem? (i:=1) rfl)) bw ao) (b5 _ (List.mem_of_getElem? (i:=0) rfl)) dB) ?_
 rintro _ gI dD rfl
 refine xn 1<|g0 ?_
 obtain ⟨dH,dI,I⟩:=ah I
 refine cA 4 dD (fun p=>fD F p U ad ao dI) ?_
 rintro _ gJ gL _ gM dJ ⟨dK,dL,dN,dO,rfl,rfl,dP,dQ,dR⟩
 refine xn 0 ?_
 exact ⟨aw,Nat.lt_succ_self _,⟨_,dH.2,aF,dA,av,dK,dL,dN,dO,I,dP,dQ,dR,(by kernel_rfl),dJ⟩⟩
 refine s0 ?_
 obtain ⟨gN,dS,I⟩:=ah I
 refine cE 2 aK (fun gO bx dU b7=>qw F dU (RS.mono bx U) (RS.mono bx ad) (bj.row (b7 _ (List.mem_of_getElem? (i:=1) rfl)) bx ao) (b7 _ (List.mem_of_getElem? (i:=0) rfl)) dS) ?_
 rintro _ gP bz rfl
 refine cH 0 I ?_ ?_<;>intro gQ I
 refine xn 5<|dT<|s0 ?_
 obtain ⟨b8,dV,I⟩:=ah I
 refine cA 4 bz (fun p=>oU F cg iX p U ad ao dV) ?_
 rintro _ gR gS _ gT dW ⟨dX,dY,dZ,ea,rfl,rfl,eb,ec,ed⟩
 refine xn 1<|gp 1 ?_
 exact ⟨aw,Nat.lt_succ_self _,⟨_,b8.2,true,b8.1,av,dX,dY,dZ,ea,I,eb,ec,ed,(by kernel_rfl),dW⟩⟩
 obtain ⟨gU,ee,I⟩:=ah I
 refine cP 2 bz (tA F bz.inv ee) ?_
 rintro _ gV b9 rfl
 refine xn 2<|db I ?_ ?_<;>intro gW I
 refine s0 ?_
 obtain ⟨ca,eg,I⟩:=ah I
 refine cA 4 b9 (fun p=>oU F cg iX p U ad ao eg) ?_
 rintro _ gX gY _ gZ eh ⟨ei,ej,ek,en,rfl,rfl,eo,ep,er⟩
 refine xn 1<|gp 1 ?_
 exact ⟨aw,Nat.lt_succ_self _,⟨_,ca.2,true,ca.1,av,ei,ej,ek,en,I,eo,ep,er,(by kernel_rfl),eh⟩⟩
 refine s0 ?_
 obtain ⟨et,eu,I⟩:=ah I
 refine cA 5 b9 (fun p=>fD F p U ad ao eu) ?_
 rintro _ g1 g2 _ g4 ew ⟨ey,ez,eA,eB,rfl,rfl,eC,eD,eE⟩
 refine xn 0<|gp 3 ?_
 exact ⟨aw,Nat.lt_succ_self _,⟨_,et.2,aF,af (aV+1),av,ey,ez,eA,eB,I,eC,eD,eE,(by kernel_rfl),ew⟩⟩
 refine xn 4<|dF<|s0<|aG 1 I ?_ ?_<;>intro g5 I
 refine xn 1<|dT<|s0 ?_
 obtain ⟨eF,eG,I⟩:=ah I
 refine cA 5 aK (fun p=>fD F p U ad ao eG) ?_
 rintro _ g6 g7 _ g8 eH ⟨eK,eL,eM,eN,rfl,rfl,eO,eP,eQ⟩
 refine xn 0<|gp 3 ?_
 exact ⟨aw,Nat.lt_succ_self _,⟨_,eF.2,aF,af (aV+1),av,eK,eL,eM,eN,I,eO,eP,eQ,(by kernel_rfl),eH⟩⟩
 refine xn 1<|dF<|sp 2<|db I ?_ ?_<;>intro g9 I
 refine s0 ?_
 obtain ⟨eR,eS,I⟩:=ah I
 refine cE 2 aK (fun ha bB eT cb=>vJ F eT (RS.mono bB U) (RS.mono bB ad) (bj.row (cb _ (List.mem_of_getElem? (i:=1) rfl)) bB ao) (cb _ (List.mem_of_getElem? (i:=0) rfl)) eS) ?_
 rintro _ hb eU rfl
 refine xn 1<|g0 ?_
 obtain ⟨eV,eW,I⟩:=ah I
 refine cA 4 eU (fun p=>fD F p U ad ao eW) ?_
 rintro _ hc hf _ hg eX ⟨eY,e0,e2,e3,rfl,rfl,e4,e5,e6⟩
 refine xn 0 ?_
 exact ⟨aw,Nat.lt_succ_self _,⟨_,eV.2,aF,eR,av,eY,e0,e2,e3,I,e4,e5,e6,(by kernel_rfl),eX⟩⟩
 refine s0 ?_
 obtain ⟨hh,e7,I⟩:=ah I
 refine cE 2 aK (fun hi bC e8 cc=>qw F e8 (RS.mono bC U) (RS.mono bC ad) (bj.row (cc _ (List.mem_of_getElem? (i:=1) rfl)) bC ao) (cc _ (List.mem_of_getElem? (i:=0) rfl)) e7) ?_
 rintro _ hj bD rfl
 refine cH 0 I ?_ ?_<;>intro hk I
 refine xn 5<|dT<|s0 ?_
 obtain ⟨cd,e9,I⟩:=ah I
 refine cA 4 bD (fun p=>oU F cg iX p U ad ao e9) ?_
 rintro _ hl hn _ ho fa ⟨fb,fc,fe,ff,rfl,rfl,fg,fh,fi⟩
 refine xn 1<|gp 1 ?_
 exact ⟨aw,Nat.lt_succ_self _,⟨_,cd.2,true,cd.1,av,fb,fc,fe,ff,I,fg,fh,fi,(by kernel_rfl),fa⟩⟩
 obtain ⟨hp,fj,I⟩:=ah I
 refine cP 2 bD (tA F bD.inv fj) ?_
 rintro _ hq cf rfl
 refine xn 2<|db I ?_ ?_<;>intro hr I
 refine s0 ?_
 obtain ⟨ch,fl,I⟩:=ah I
 refine cA 4 cf (fun p=>oU F cg iX p U ad ao fl) ?_
 rintro _ ht hv _ hx fm ⟨fo,fp,fq,fr,rfl,rfl,fs,ft,fu⟩
 refine xn 1<|gp 1 ?_
 exact ⟨aw,Nat.lt_succ_self _,⟨_,ch.2,true,ch.1,av,fo,fp,fq,fr,I,fs,ft,fu,(by kernel_rfl),fm⟩⟩
 refine s0 ?_
 obtain ⟨fv,fw,I⟩:=ah I
 refine cA 5 cf (fun p=>fD F p U ad ao fw) ?_
 rintro _ hy hA _ hB fx ⟨fy,fz,fA,fB,rfl,rfl,fC,fG,fH⟩
 refine xn 0<|gp 3 ?_
 exact ⟨aw,Nat.lt_succ_self _,⟨_,fv.2,aF,af (aV+1),av,fy,fz,fA,fB,I,fC,fG,fH,(by kernel_rfl),fx⟩⟩
 refine s0<|aB 3 0 aO hS rfl<|a2 1 aP bg ?_
 intro hC aP
 refine bm 1 0 (fun cj=>V cj.Kind) aP bg hS ?_
 intro cj hD aP
 refine aG 0 aP ?_ ?_<;>intro hE aP
 refine xn 0<|dT<|gp 1 ?_
 obtain rfl:=si aP
 exact ⟨_,11,rfl,(by kernel_rfl),hS⟩
 refine xn 0<|dF<|sk ?_
 obtain rfl:=si aP
 exact ⟨_,10,rfl,(by kernel_rfl),hS⟩
def correctorref11_Reader_Value_l0 (F:Nat) (cg:aL→Int→Int→Int→Option (Int×Int×aL)) (a0:aL) (a1:Int) (J:Int) (U:Int):Nat→Int→Int→Int→Option (Int×Int×Int)
 | 0,_,_,_=>none
 | n+1,j,I,aa=>
  (((eC F a0 j).bind fun ab=>
   if ab=(12:Int) then
    some (.inl ())
   else
    (eC F a0 j).bind fun ad=>
    if ad=(14:Int) then
     some (.inl ())
    else
     some (.inr (j,I,aa))):Option (Sum Unit (Int×Int×Int))).bind fun o=>match o with
   | .inl ()=>((if I<(0:Int) then
     some j
    else
     some I):Option Int).bind fun o=>match o with
    | ae=>(kf F a0 (af (j+1))).bind fun ag=>
    correctorref11_Reader_Value_l0 F cg a0 a1 J U n ag ae j
   | .inr y=>some y
def mX (F:Nat) (cg:aL→Int→Int→Int→Option (Int×Int×aL)) (a0:aL) (a1:Int) (U:Int) (aa:Int):Option (Int×Int×aL):=
 (kf F a0 U).bind fun ar=>
 ((correctorref11_Reader_Value_l0 F cg a0 a1 U aa F ar (-1) 0):Option (Int×Int×Int)).bind fun o=>match o with
  | (j,ab,ae)=>((if (0:Int)≤ab then
    some ab
   else
    some j):Option Int).bind fun o=>match o with
   | I=>(eC F a0 j).bind fun J=>
   if J=(13:Int) then
    (eA F a0 a1 8 I (af (j+1))).bind fun ag=>
    some (ag.1,af (j+1),ag.2)
   else
    (fb F J).bind fun au=>
    if au=true then
     (eA F a0 a1 7 I (af (j+1))).bind fun ah=>
     some (ah.1,af (j+1),ah.2)
    else
     if J=(18:Int) then
      (mr F a0 j).bind fun ai=>
      (eA F a0 a1 7 I ai).bind fun aj=>
      some (aj.1,ai,aj.2)
     else
      (((jk F J).bind fun av=>
       if av=true then
        if aa≤(0:Int) then
         some true
        else
         some false
       else
        some false):Option Bool).bind fun o=>match o with
       | aw=>if aw=true then
        (correctorref11_Reader_balanced F a0 j).bind fun ak=>
        (ea F a0 a1 I ak 10).bind fun an=>
        some (an.1,ak,an.2)
       else
        (jk F J).bind fun ax=>
        if ax=true then
         ((if J=(9:Int) then
           some 10
          else
           some 9):Option Int).bind fun o=>match o with
          | ay=>(eA F a0 a1 ay I (af (j+1))).bind fun ad=>
          (lf F cg ad.2 ad.1 j aa).bind fun ao=>
          some (ad.1,ao.1,ao.2)
        else
         if (0:Int)≤ab then
          (eA F a0 a1 7 I (af (ae+1))).bind fun aq=>
          some (aq.1,af (ae+1),aq.2)
         else
          some ((-1),U,a0)
theorem zG (F:Nat) (cg:aL→Int→Int→Int→Option (Int×Int×aL)) (iX:pg cg) {h:AH} {Z:Zn} {a0:aL} {a1:Int} {aw:Int} {ax:Int} {I J U j ab} (hP:Pre Z h [.ae I (ay J U j a0), .gs j ab (aa aj)]) (an:RS (α:=al) Z J a0.L) (ao:RS (α:=aq) Z U a0.T.ak) (ar:RCs (α:=aj) Z ab a0.D) {r:Int×Int×aL} (hm:mX F cg a0 a1 aw ax=some r):
  bQ Try.prog 80 [Pt I 0,V a1,V aw,V ax] h Z [.ae I (ay J U j a0), .gs j ab (aa aj)] fun v Z' A'=>∃ v10 bf bg bh, .tuple #[V r.1,V r.2.1]=v∧A'=[.ae I (ay v10 bf bg r.2.2), .gs bg bh (aa aj)]∧RS (α:=al) Z' v10 r.2.2.L∧RS (α:=aq) Z' bf r.2.2.T.ak∧RCs (α:=aj) Z' bh r.2.2.D:=by
 refine b6 Try.func80 hP ?_
 intro hs hS
 unfold mX at hm
 refine sp 2<|s0 ?_
 obtain ⟨bH,bI,hm⟩:=ah hm
 refine cE 2 hS (fun dz aY bJ bl=>va F bJ (RS.mono aY an) (RS.mono aY ao) (bj.row (bl _ (List.mem_of_getElem? (i:=1) rfl)) aY ar) (bl _ (List.mem_of_getElem? (i:=0) rfl)) bI) ?_
 rintro _ dA bK rfl
 refine xn 1<|sp 2<|sq ?_
 obtain ⟨aZ,au,hm⟩:=ah hm
 refine aI [0,1,2,3,10,11,12] (fun l h=>∃ bm az aD aE,(az,aD,aE)=aZ∧l=[(0,Pt I 0),(1,V a1),(2,V aw),(3,V ax),(10,V az),(11,V aD),(12,V aE)]∧St hs (aR [.ae I (ay J U j a0), .gs j ab (aa aj)]) Z (0,0) bm h [.ae I (ay J U j a0), .gs j ab (aa aj)]) ?_ ?_
 rintro l dB ⟨bm,az,aD,aE,rfl,rfl,bn⟩
 try dsimp only at hm
 refine sp 2<|sq ?_
 obtain ⟨bL,aJ,hm⟩:=ah hm
 refine aI [0,1,2,3,10,11,12,13] (fun l h=>∃ bo aH,aH=bL∧l=[(0,Pt I 0),(1,V a1),(2,V aw),(3,V ax),(10,V az),(11,V aD),(12,V aE),(13,V aH)]∧St hs (aR [.ae I (ay J U j a0), .gs j ab (aa aj)]) Z (0,0) bo h [.ae I (ay J U j a0), .gs j ab (aa aj)]) ?_ ?_
 rintro l dC ⟨bo,aH,rfl,rfl,ad⟩
 try dsimp only at hm
 refine s0 ?_
 obtain ⟨bM,bN,hm⟩:=ah hm
 refine cE 2 ad (fun dD a2 bO bp=>fk F bO (RS.mono a2 (an.mono ad.ag)) (RS.mono a2 (ao.mono ad.ag)) (bj.row (bp _ (List.mem_of_getElem? (i:=1) rfl)) a2 (ar.mono ad.ag)) (bp _ (List.mem_of_getElem? (i:=0) rfl)) bN) ?_
 rintro _ dG a4 rfl
 refine xn 1<|sq<|bk 2<|s0<|aG 1 hm ?_ ?_<;>intro dH hm
 refine xn 1<|dT<|s0 ?_
 obtain ⟨bP,bR,hm⟩:=ah hm
 refine cA 5 a4 (fun p=>fY F p (an.mono ad.ag) (ao.mono ad.ag) (ar.mono ad.ag) bR) ?_
 rintro _ dI dJ _ dK bS ⟨bT,bU,bV,rfl,rfl,bW,bX,bY⟩
 refine xn 4<|rt<|a3<|⟨rfl,?_⟩
 obtain rfl:=si hm
 refine ⟨_,_,_,tk (V bP.1) (tk (V (af (az+1))) (ResL.nil)),bS,?_⟩
 exact ⟨bT,bU,j,bV,rfl,rfl,bW,bX,bY⟩
 refine xn 1<|dF<|s0 ?_
 obtain ⟨dL,bZ,hm⟩:=ah hm
 refine cP 1 a4 (oV F a4.inv bZ) ?_
 rintro _ dM aK rfl
 refine xn 1<|db hm ?_ ?_<;>intro dN hm
 refine s0 ?_
 obtain ⟨b0,b1,hm⟩:=ah hm
 refine cA 5 aK (fun p=>fY F p (an.mono ad.ag) (ao.mono ad.ag) (ar.mono ad.ag) b1) ?_
 rintro _ dO dP _ dQ b2 ⟨b3,b4,b5,rfl,rfl,b7,b8,b9⟩
 refine xn 4<|rt<|a3<|⟨rfl,?_⟩
 obtain rfl:=si hm
 refine ⟨_,_,_,tk (V b0.1) (tk (V (af (az+1))) (ResL.nil)),b2,?_⟩
 exact ⟨b3,b4,j,b5,rfl,rfl,b7,b8,b9⟩
 refine s0<|aG 1 hm ?_ ?_<;>intro dR hm
 refine xn 1<|dT<|s0 ?_
 obtain ⟨ca,cb,hm⟩:=ah hm
 refine cE 2 aK (fun dS a5 cc bq=>wE F cc (RS.mono a5 (an.mono ad.ag)) (RS.mono a5 (ao.mono ad.ag)) (bj.row (bq _ (List.mem_of_getElem? (i:=1) rfl)) a5 (ar.mono ad.ag)) (bq _ (List.mem_of_getElem? (i:=0) rfl)) cb) ?_
 rintro _ dU cd rfl
 refine xn 1<|s0 ?_
 obtain ⟨cf,ch,hm⟩:=ah hm
 refine cA 4 cd (fun p=>fY F p (an.mono ad.ag) (ao.mono ad.ag) (ar.mono ad.ag) ch) ?_
 rintro _ dV dW _ dX cj ⟨ck,cl,cm,rfl,rfl,cn,cp,cq⟩
 refine xn 3<|rt<|a3<|⟨rfl,?_⟩
 obtain rfl:=si hm
 refine ⟨_,_,_,tk (V cf.1) (tk (V ca) (ResL.nil)),cj,?_⟩
 exact ⟨ck,cl,j,cm,rfl,rfl,cn,cp,cq⟩
 refine xn 1<|dF<|sq ?_
 obtain ⟨cr,aA,hm⟩:=ah hm
 refine aI [0,1,2,3,10,11,12,13,14,81] (fun l h=>∃ br a6,a6=cr∧l=[(0,Pt I 0),(1,V a1),(2,V aw),(3,V ax),(10,V az),(11,V aD),(12,V aE),(13,V aH),(14,V bM),(81, .bool a6)]∧St hs (aR [.ae I (ay J U j a0), .gs j ab (aa aj)]) Z (0,0) br h [.ae I (ay J U j a0), .gs j ab (aa aj)]) ?_ ?_
 rintro l dY ⟨br,a6,rfl,rfl,ai⟩
 try dsimp only at hm
 refine db hm ?_ ?_<;>intro dZ hm
 refine s0 ?_
 obtain ⟨ct,cu,hm⟩:=ah hm
 refine cE 2 ai (fun ea a7 cv bu=>De F cv (RS.mono a7 (an.mono ai.ag)) (RS.mono a7 (ao.mono ai.ag)) (bj.row (bu _ (List.mem_of_getElem? (i:=1) rfl)) a7 (ar.mono ai.ag)) (bu _ (List.mem_of_getElem? (i:=0) rfl)) cu) ?_
 rintro _ eb cw rfl
 refine xn 1<|s0 ?_
 obtain ⟨cx,cz,hm⟩:=ah hm
 refine cA 4 cw (fun p=>fD F p (an.mono ai.ag) (ao.mono ai.ag) (ar.mono ai.ag) cz) ?_
 rintro _ ec ed _ ee cB ⟨cD,cF,cG,cH,rfl,rfl,cI,cJ,cK⟩
 refine xn 3<|rt<|a3<|⟨rfl,?_⟩
 obtain rfl:=si hm
 refine ⟨_,_,_,tk (V cx.1) (tk (V ct) (ResL.nil)),cB,?_⟩
 exact ⟨cD,cF,cG,cH,rfl,rfl,cI,cJ,cK⟩
 refine s0 ?_
 obtain ⟨eg,cL,hm⟩:=ah hm
 refine cP 1 ai (nB F ai.inv cL) ?_
 rintro _ eh aM rfl
 refine xn 1<|db hm ?_ ?_<;>intro ei hm
 refine sp 1<|sq ?_
 obtain ⟨cM,aQ,hm⟩:=ah hm
 refine aI [0,1,3,10,13,17] (fun l h=>∃ bw a8,a8=cM∧l=[(0,Pt I 0),(1,V a1),(3,V ax),(10,V az),(13,V aH),(17,V a8)]∧St hs (aR [.ae I (ay J U j a0), .gs j ab (aa aj)]) Z (0,0) bw h [.ae I (ay J U j a0), .gs j ab (aa aj)]) ?_ ?_
 rintro l ej ⟨bw,a8,rfl,rfl,aS⟩
 try dsimp only at hm
 refine s0 ?_
 obtain ⟨cN,cO,hm⟩:=ah hm
 refine cA 6 aS (fun p=>fY F p (an.mono aS.ag) (ao.mono aS.ag) (ar.mono aS.ag) cO) ?_
 rintro _ ek en _ ep cQ ⟨er,et,eu,rfl,rfl,cR,cS,cT⟩
 refine xn 1<|s0 ?_
 obtain ⟨cU,cX,hm⟩:=ah hm
 refine cA 5 cQ (fun p=>y7 F cg iX p cR cS cT cX) ?_
 rintro _ ew ey _ ez c0 ⟨c3,c4,c6,c7,rfl,rfl,c8,c9,da⟩
 refine xn 2<|rt<|a3<|⟨rfl,?_⟩
 obtain rfl:=si hm
 refine ⟨_,_,_,tk (V cN.1) (tk (V cU.1) (ResL.nil)),c0,?_⟩
 exact ⟨c3,c4,c6,c7,rfl,rfl,c8,c9,da⟩
 refine s0<|aG 1 aQ ?_ ?_<;>intro eA aQ
 refine xn 0<|dT<|gp 1 ?_
 obtain rfl:=si aQ
 exact ⟨_,10,rfl,(by kernel_rfl),aM⟩
 refine xn 0<|dF<|sk ?_
 obtain rfl:=si aQ
 exact ⟨_,9,rfl,(by kernel_rfl),aM⟩
 refine s0<|cC 1 hm ?_ ?_<;>intro eB hm
 refine xn 1<|dT<|s0 ?_
 obtain ⟨dc,dd,hm⟩:=ah hm
 refine cA 5 aM (fun p=>fY F p (an.mono ai.ag) (ao.mono ai.ag) (ar.mono ai.ag) dd) ?_
 rintro _ eC eD _ eE de ⟨df,dg,dh,rfl,rfl,di,dj,dk⟩
 refine xn 4<|rt<|a3<|⟨rfl,?_⟩
 obtain rfl:=si hm
 refine ⟨_,_,_,tk (V dc.1) (tk (V (af (aE+1))) (ResL.nil)),de,?_⟩
 exact ⟨df,dg,j,dh,rfl,rfl,di,dj,dk⟩
 refine xn 1<|dF<|sk<|sp 3<|rt<|⟨rfl,?_⟩
 obtain rfl:=si hm
 refine ⟨_,_,_,tk (V (-1)) (tk (V aw) (ResL.nil)),aM,?_⟩
 exact ⟨J,U,j,ab,rfl,rfl,(an.mono ai.ag),(ao.mono ai.ag),(ar.mono ai.ag)⟩
 refine g0 ?_
 obtain ⟨eF,dm,aA⟩:=ah aA
 refine cP 1 aK (nB F aK.inv dm) ?_
 rintro _ eG a9 rfl
 refine kb 1 84 aA ?_ ?_<;>intro eH aA
 refine fH 1 aA ?_ ?_<;>intro eI aA
 refine xn 2 ?_
 obtain rfl:=si aA
 exact ⟨_,true,rfl,(by kernel_rfl),a9⟩
 refine xn 2 ?_
 obtain rfl:=si aA
 exact ⟨_,false,rfl,(by kernel_rfl),a9⟩
 refine xn 4 ?_
 obtain rfl:=si aA
 exact ⟨_,false,rfl,(by kernel_rfl),a9⟩
 refine s0<|cC 1 aJ ?_ ?_<;>intro eJ aJ
 refine xn 0<|dT<|gp 2 ?_
 obtain rfl:=si aJ
 exact ⟨_,aD,rfl,(by kernel_rfl),bn⟩
 refine xn 0<|dF<|sk ?_
 obtain rfl:=si aJ
 exact ⟨_,az,rfl,(by kernel_rfl),bn⟩
 refine bk 0<|lp [0,1,2,3,10,11,12] (fun n l h=>∃ bx aB aF aU,correctorref11_Reader_Value_l0 F cg a0 a1 aw ax n aB aF aU=some aZ∧l=[(0,Pt I 0),(1,V a1),(2,V aw),(3,V ax),(10,V aB),(11,V aF),(12,V aU)]∧St hs (aR [.ae I (ay J U j a0), .gs j ab (aa aj)]) Z (0,0) bx h [.ae I (ay J U j a0), .gs j ab (aa aj)]) F ⟨_,bH,(-1),0,au,(by kernel_rfl),bK⟩ ?_
 rintro ba l eK ⟨bx,aB,aF,aU,au,rfl,aC⟩
 rcases ba with _ | ba
 cases (show none=some aZ from au)
 rw [correctorref11_Reader_Value_l0] at au
 refine sq ?_
 obtain ⟨dn,av,au⟩:=ah au
 refine aI [0,1,2,3,10,11] (fun l h=>∃ bz, .inl ()=dn∧l=[(0,Pt I 0),(1,V a1),(2,V aw),(3,V ax),(10,V aB),(11,V aF)]∧St hs (aR [.ae I (ay J U j a0), .gs j ab (aa aj)]) Z (0,0) bz h [.ae I (ay J U j a0), .gs j ab (aa aj)]) ?_ ?_
 rintro l eL ⟨bz,rfl,rfl,bA⟩
 try dsimp only at au
 refine bk 1<|sq ?_
 obtain ⟨dp,aV,au⟩:=ah au
 refine eo [0,1,2,3,10,11] (fun l h=>∃ bB aW,aW=dp∧l=[(0,Pt I 0),(1,V a1),(2,V aw),(3,V ax),(10,V aB),(11,V aW)]∧St hs (aR [.ae I (ay J U j a0), .gs j ab (aa aj)]) Z (0,0) bB h [.ae I (ay J U j a0), .gs j ab (aa aj)]) (by kernel_rfl) ?_ ?_
 rintro l eM ⟨bB,aW,rfl,rfl,aX⟩
 try dsimp only at au
 refine sp 2<|g0 ?_
 obtain ⟨dq,dr,au⟩:=ah au
 refine cE 3 aX (fun eN bb ds bC=>va F ds (RS.mono bb (an.mono aX.ag)) (RS.mono bb (ao.mono aX.ag)) (bj.row (bC _ (List.mem_of_getElem? (i:=1) rfl)) bb (ar.mono aX.ag)) (bC _ (List.mem_of_getElem? (i:=0) rfl)) dr) ?_
 rintro _ eO dt rfl
 refine xn 1 ?_
 exact ⟨ba,Nat.lt_succ_self _,⟨_,dq,aW,aB,au,(by kernel_rfl),dt⟩⟩
 refine g0<|aP 1 aV ?_ ?_<;>intro eP aV
 refine xn 0<|dT<|gp 2 ?_
 obtain rfl:=si aV
 exact ⟨_,aB,rfl,(by kernel_rfl),bA⟩
 refine xn 0<|dF<|sk ?_
 obtain rfl:=si aV
 exact ⟨_,aF,rfl,(by kernel_rfl),bA⟩
 refine s0 ?_
 obtain ⟨eQ,dv,av⟩:=ah av
 refine cE 2 aC (fun eR bc dw bD=>fk F dw (RS.mono bc (an.mono aC.ag)) (RS.mono bc (ao.mono aC.ag)) (bj.row (bD _ (List.mem_of_getElem? (i:=1) rfl)) bc (ar.mono aC.ag)) (bD _ (List.mem_of_getElem? (i:=0) rfl)) dv) ?_
 rintro _ eS bE rfl
 refine aG 0 av ?_ ?_<;>intro eT av
 refine xn 6<|dT<|sk ?_
 obtain rfl:=si av
 exact ⟨_,rfl,(by kernel_rfl),bE⟩
 obtain ⟨eU,dx,av⟩:=ah av
 refine cE 3 bE (fun eV bd dy bF=>fk F dy (RS.mono bd (an.mono aC.ag)) (RS.mono bd (ao.mono aC.ag)) (bj.row (bF _ (List.mem_of_getElem? (i:=1) rfl)) bd (ar.mono aC.ag)) (bF _ (List.mem_of_getElem? (i:=0) rfl)) dx) ?_
 rintro _ eW bG rfl
 refine aG 0 av ?_ ?_<;>intro eX av
 refine xn 1<|dT<|sk ?_
 obtain rfl:=si av
 exact ⟨_,rfl,(by kernel_rfl),bG⟩
 refine xn 1<|dF<|xt 0<|aO ?_
 obtain rfl:=si av
 obtain rfl:=si au
 exact ⟨_,aB,aF,aU,rfl,(by kernel_rfl),bG⟩
def oQ (F:Nat):Nat→aL→Int→Int→Int→Option (Int×Int×aL)
 | 0=>fun _ _ _ _=>none
 | n+1=>mX F (oQ F n)
theorem sJ (F:Nat):∀ n,pg (oQ F n)
 | 0=>by intro hP j I J r hm;cases hm
 | n+1=>by intro hP j I J r hm;exact zG F _ (sJ F n) hP j I J hm
def r7 (F:Nat) (a0:aL) (a1:Int) (j:Int) (I:Int):Option (Int×Int×aL):=oQ F F a0 a1 j I
theorem Dy (F:Nat) {h:AH} {Z:Zn} {a0:aL} {a1:Int} {ad:Int} {af:Int} {j J U I ab} (hP:Pre Z h [.ae j (ay J U I a0), .gs I ab (aa aj)]) (an:RS (α:=al) Z J a0.L) (ao:RS (α:=aq) Z U a0.T.ak) (ar:RCs (α:=aj) Z ab a0.D) {r:Int×Int×aL} (hm:r7 F a0 a1 ad af=some r):
  bQ Try.prog 80 [Pt j 0,V a1,V ad,V af] h Z [.ae j (ay J U I a0), .gs I ab (aa aj)] fun v Z' A'=>∃ v10 ag ah ai, .tuple #[V r.1,V r.2.1]=v∧A'=[.ae j (ay v10 ag ah r.2.2), .gs ah ai (aa aj)]∧RS (α:=al) Z' v10 r.2.2.L∧RS (α:=aq) Z' ag r.2.2.T.ak∧RCs (α:=aj) Z' ai r.2.2.D:=sJ F F hP an ao ar hm
def kn (F:Nat) (a0:aV) (a1:Int) (I:Int) (J:Bool):Nat→Int→Option Int
 | 0,_=>none
 | n+1,j=>
  ((if 0≤j∧j<(a0.Rows.length:Int) then
    (a0.Rows[j.toNat]?).bind fun U=>
    if U.To<I then
     some (.inl ())
    else
     if J=true then
      if 0≤j∧j<(a0.Rows.length:Int) then
       (a0.Rows[j.toNat]?).bind fun aa=>
       if aa.To=I then
        some (.inl ())
       else
        some (.inr j)
      else none
     else
      some (.inr j)
   else none):Option (Sum Unit Int)).bind fun o=>match o with
   | .inl ()=>kn F a0 a1 I J n (af (j+1))
   | .inr y=>some y
def lE (F:Nat) (a0:aV) (a1:Int) (U:Int) (aa:Bool):Option aV:=
 ((kn F a0 a1 U aa F 0):Option Int).bind fun o=>match o with
  | j=>if 0≤j∧j<(a0.Rows.length:Int) then
   (a0.Rows[j.toNat]?).bind fun ab=>
   (g6 F a0 U ab.To).bind fun I=>
   ((if I.1<I.2 then
     (ea F a0.R a1 I.1 I.2 8).bind fun ad=>
     some (ad.2,a0.Rows,a0.Doc,a0.aA,a0.S,a0.aw,a0.Read)
    else
     some (a0.R,a0.Rows,a0.Doc,a0.aA,a0.S,a0.aw,a0.Read)):Option (aL×(List an)×Int×Bool×(List au)×Int×Int)).bind fun o=>match o with
    | (ae,J,af,ag,ah,ai,ak)=>if 0≤j∧j<(J.length:Int) then
     (J[j.toNat]?).bind fun aj=>
     some (⟨ae,J,af,ag,ah,ai,aj.To⟩:aV)
    else none
  else none
theorem sU (F:Nat) {h:AH} {Z:Zn} {a0:aV} {a1:Int} {aE:Int} {aJ:Bool} {ad j v4 v6 J av v11 ao I ar} (hP:Pre Z h [.ae ad [Pt j 0,v11,V a0.Doc, .bool a0.aA,I,V a0.aw,V a0.Read], .ae j (ay v4 v6 J a0.R), .gs J av (aa aj), .gs v11 ao (aa an), .gs I ar (aa au)]) (a6:RS (α:=al) Z v4 a0.R.L) (a7:RS (α:=aq) Z v6 a0.R.T.ak) (a8:RCs (α:=aj) Z av a0.R.D) (az:RCs (α:=an) Z ao a0.Rows) (a9:RCs (α:=au) Z ar a0.S) {r:aV} (hm:lE F a0 a1 aE aJ=some r):
  bQ Try.prog 81 [Pt ad 0,V a1,V aE, .bool aJ] h Z [.ae ad [Pt j 0,v11,V a0.Doc, .bool a0.aA,I,V a0.aw,V a0.Read], .ae j (ay v4 v6 J a0.R), .gs J av (aa aj), .gs v11 ao (aa an), .gs I ar (aa au)] fun v Z' A'=>∃ bl bm bn bo bp bq, .tuple #[]=v∧A'=[.ae ad [Pt j 0,v11,V r.Doc, .bool r.aA,I,V r.aw,V r.Read], .ae j (ay bl bm bn r.R), .gs bn bo (aa aj), .gs v11 bp (aa an), .gs I bq (aa au)]∧RS (α:=al) Z' bl r.R.L∧RS (α:=aq) Z' bm r.R.T.ak∧RCs (α:=aj) Z' bo r.R.D∧RCs (α:=an) Z' bp r.Rows∧RCs (α:=au) Z' bq r.S:=by
 refine b6 Try.func81 hP ?_
 intro hs hS
 unfold lE at hm
 refine sp 1<|sq ?_
 obtain ⟨ba,ax,hm⟩:=ah hm
 refine aI [0,1,2,8] (fun l h=>∃ br aQ,aQ=ba∧l=[(0,Pt ad 0),(1,V a1),(2,V aE),(8,V aQ)]∧St hs (aR [.ae ad [Pt j 0,v11,V a0.Doc, .bool a0.aA,I,V a0.aw,V a0.Read], .ae j (ay v4 v6 J a0.R), .gs J av (aa aj), .gs v11 ao (aa an), .gs I ar (aa au)]) Z (0,0) br h [.ae ad [Pt j 0,v11,V a0.Doc, .bool a0.aA,I,V a0.aw,V a0.Read], .ae j (ay v4 v6 J a0.R), .gs J av (aa aj), .gs v11 ao (aa an), .gs I ar (aa au)]) ?_ ?_
 rintro l bZ ⟨br,aQ,rfl,rfl,U⟩
 try dsimp only at hm
 refine s0<|aB 5 0 v11 U rfl<|dv 1 3 hm U (az.mono U.ag) rfl ?_
 intro b0 hm
 refine eh 1 2 3 (fun bu=>V bu.To) hm U (az.mono U.ag) rfl ?_
 intro bu b1 hm
 obtain ⟨b2,bC,hm⟩:=ah hm
 refine cE 0 U (fun b3 aK bD aL=>j4 F bD (RS.mono aK (a6.mono U.ag)) (RS.mono aK (a7.mono U.ag)) (bj.row (aL _ (List.mem_of_getElem? (i:=2) rfl)) aK (a8.mono U.ag)) (aL _ (List.mem_of_getElem? (i:=1) rfl)) (bj.row (aL _ (List.mem_of_getElem? (i:=3) rfl)) aK (az.mono U.ag)) (bj.row (aL _ (List.mem_of_getElem? (i:=4) rfl)) aK (a9.mono U.ag)) (aL _ (List.mem_of_getElem? (i:=0) rfl)) bC) ?_
 rintro _ b4 bb rfl
 refine xn 5<|sq ?_
 obtain ⟨bE,aF,hm⟩:=ah hm
 refine aI [0,8] (fun l h=>∃ aC aH bc aS aU bd aW bf aX aY aZ a2 a3 a4,(aH,bc,aS,aU,bd,aW,bf)=bE∧RS (α:=al) aC aX aH.L∧RS (α:=aq) aC aY aH.T.ak∧RCs (α:=aj) aC a2 aH.D∧RCs (α:=an) aC a3 bc∧RCs (α:=au) aC a4 bd∧l=[(0,Pt ad 0),(8,V aQ)]∧St hs (aR [.ae ad [Pt j 0,v11,V a0.Doc, .bool a0.aA,I,V a0.aw,V a0.Read], .ae j (ay v4 v6 J a0.R), .gs J av (aa aj), .gs v11 ao (aa an), .gs I ar (aa au)]) Z (0,0) aC h [.ae ad [Pt j 0,v11,V aS, .bool aU,I,V aW,V bf], .ae j (ay aX aY aZ aH), .gs aZ a2 (aa aj), .gs v11 a3 (aa an), .gs I a4 (aa au)]) ?_ ?_
 rintro l b5 ⟨aC,aH,bc,aS,aU,bd,aW,bf,aX,aY,aZ,a2,a3,a4,rfl,bF,bH,bI,bg,bJ,rfl,a5⟩
 try dsimp only at hm
 refine g0<|aB 4 0 v11 a5 rfl<|dv 1 3 hm a5 bg rfl ?_
 intro b7 hm
 refine eh 1 2 3 (fun aM=>V aM.To) hm a5 bg rfl ?_
 intro aM b8 hm
 refine bG 2 0 (V aM.To) [V aM.To] [Pt j 0,v11,V aS, .bool aU,I,V aW,V aM.To] a5 rfl rfl rfl ?_
 intro b9 bK
 refine xn 0 ?_
 obtain rfl:=si hm
 refine ⟨_,_,_,ResL.nil,bK,?_⟩
 exact ⟨aX,aY,aZ,a2,a3,a4,rfl,rfl,bF,bH,bI,bg,bJ⟩
 refine s0<|aP 2 aF ?_ ?_<;>intro ca aF
 refine xn 0<|dT<|g0<|aB 3 0 (Pt j 0) bb rfl ?_
 obtain ⟨bL,bM,aF⟩:=ah aF
 have bN:St _ _ _ _ _ _ ([.ae j (ay v4 v6 J a0.R), .gs J av (aa aj)]++[.ae ad [Pt j 0,v11,V a0.Doc, .bool a0.aA,I,V a0.aw,V a0.Read], .gs v11 ao (aa an), .gs I ar (aa au)]):=((bb.front 2 rfl).front 2 rfl)
 refine cB 3 bN (fun p=>fD F p (a6.mono U.ag) (a7.mono U.ag) (a8.mono U.ag) bM) ?_
 rintro _ cb cc _ bw bO ⟨bP,bR,bS,bT,rfl,rfl,bU,bV,bW⟩
 refine xn 0 ?_
 obtain rfl:=si aF
 exact ⟨_,bL.2,a0.Rows,a0.Doc,a0.aA,a0.S,a0.aw,a0.Read,bP,bR,bS,bT,ao,ar,rfl,bU,bV,bW,(az.mono (U.ag.trans bw)),(a9.mono (U.ag.trans bw)),(by kernel_rfl),(((((bO.front 4 rfl).front 4 rfl).front 3 rfl).front 3 rfl).front 4 rfl)⟩
 refine xn 0<|dF<|sk ?_
 obtain rfl:=si aF
 exact ⟨_,a0.R,a0.Rows,a0.Doc,a0.aA,a0.S,a0.aw,a0.Read,v4,v6,J,av,ao,ar,rfl,(a6.mono U.ag),(a7.mono U.ag),(a8.mono U.ag),(az.mono U.ag),(a9.mono U.ag),(by kernel_rfl),bb⟩
 refine bk 0<|lp [0,1,2,3,8] (fun n l h=>∃ bx aD,kn F a0 a1 aE aJ n aD=some ba∧l=[(0,Pt ad 0),(1,V a1),(2,V aE),(3, .bool aJ),(8,V aD)]∧St hs (aR [.ae ad [Pt j 0,v11,V a0.Doc, .bool a0.aA,I,V a0.aw,V a0.Read], .ae j (ay v4 v6 J a0.R), .gs J av (aa aj), .gs v11 ao (aa an), .gs I ar (aa au)]) Z (0,0) bx h [.ae ad [Pt j 0,v11,V a0.Doc, .bool a0.aA,I,V a0.aw,V a0.Read], .ae j (ay v4 v6 J a0.R), .gs J av (aa aj), .gs v11 ao (aa an), .gs I ar (aa au)]) F ⟨_,0,ax,(by kernel_rfl),hS⟩ ?_
 rintro bh l cd ⟨bx,aD,ax,rfl,ai⟩
 rcases bh with _ | bh
 cases (show none=some ba from ax)
 rw [kn] at ax
 refine sq ?_
 obtain ⟨bX,ab,ax⟩:=ah ax
 refine aI [0,1,2,3,8] (fun l h=>∃ bz, .inl ()=bX∧l=[(0,Pt ad 0),(1,V a1),(2,V aE),(3, .bool aJ),(8,V aD)]∧St hs (aR [.ae ad [Pt j 0,v11,V a0.Doc, .bool a0.aA,I,V a0.aw,V a0.Read], .ae j (ay v4 v6 J a0.R), .gs J av (aa aj), .gs v11 ao (aa an), .gs I ar (aa au)]) Z (0,0) bz h [.ae ad [Pt j 0,v11,V a0.Doc, .bool a0.aA,I,V a0.aw,V a0.Read], .ae j (ay v4 v6 J a0.R), .gs J av (aa aj), .gs v11 ao (aa an), .gs I ar (aa au)]) ?_ ?_
 rintro l cf ⟨bz,rfl,rfl,bY⟩
 try dsimp only at ax
 refine bk 1<|gp 3 ?_
 exact ⟨bh,Nat.lt_succ_self _,⟨_,af (aD+1),ax,(by kernel_rfl),bY⟩⟩
 refine s0<|aB 3 0 v11 ai rfl<|dv 1 3 ab ai (az.mono ai.ag) rfl ?_
 intro cg ab
 refine eh 1 2 3 (fun bA=>V bA.To) ab ai (az.mono ai.ag) rfl ?_
 intro bA ch ab
 refine aP 1 ab ?_ ?_<;>intro cj ab
 refine xn 15<|dT<|sk ?_
 obtain rfl:=si ab
 exact ⟨_,rfl,(by kernel_rfl),ai⟩
 refine kb 3 23 ab ?_ ?_<;>intro ck ab
 refine aB 3 0 v11 ai rfl<|dv 1 3 ab ai (az.mono ai.ag) rfl ?_
 intro cl ab
 refine eh 1 2 3 (fun bB=>V bB.To) ab ai (az.mono ai.ag) rfl ?_
 intro bB cm ab
 refine aG 1 ab ?_ ?_<;>intro cn ab
 refine xn 2<|dT<|sk ?_
 obtain rfl:=si ab
 exact ⟨_,rfl,(by kernel_rfl),ai⟩
 refine xn 2<|dF<|xt 0<|aO ?_
 obtain rfl:=si ab
 obtain rfl:=si ax
 exact ⟨_,aD,rfl,(by kernel_rfl),ai⟩
 refine xn 12<|dF<|xt 0<|aO ?_
 obtain rfl:=si ab
 obtain rfl:=si ax
 exact ⟨_,aD,rfl,(by kernel_rfl),ai⟩
def EK:List bt:=[uP 9 (mv 0),uP 10 (nk 9),uP 11 (fa 61 10 0),uL 12 (ld 55 11),uP 13 (mv 0),uP 14 (mv 2),uF 15 (cf 79 #[(t 13),(t 14)] #[54,3]) .make [],uP 16 (nk 12),uP 17 (fa 58 16 3),oF (.store 3 (t 17) (t 15)) .make [3]]
def D6:List bt:=[uP 19 (mv 0),uP 20 (nk 19),uP 21 (fa 61 20 0),uL 22 (ld 55 21),uP 23 (mv 1),uP 24 (mv 2),uP 25 (mv 0),uP 26 (nk 25),uP 27 (fa 61 26 5),uL 28 (ld 3 27),uP 29 (mv 0),uP 30 (nk 29),uP 31 (fa 61 30 4),uL 32 (ld 59 31),uP 33 (cb .len #[(t 32)] #[59]),uP 34 (bo .sub 3 28 33 3),uF 35 (cf 80 #[(t 22),(t 23),(t 24),(t 34)] #[55,3,3,3]) .make [3,9,13],uP 18 (mv 35),uP 36 (.extract (t 18) 0),uP 37 (.extract (t 18) 1),uP 7 (sg 36),uP 8 (sg 37)]
def iZ (F:Nat) (a0:aV) (a1:Int) (U:Int):Option (Bool×aV):=
 (mI F a0 U).bind fun az=>
 (r7 F (⟨a0.R.L,a0.R.T,a0.R.D,az⟩:aL) a1 U (af (a0.aw - (a0.S.length:Int)))).bind fun J=>
 ((if J.1<(0:Int) then
   some (J.2.2,a0.Rows,a0.Doc,a0.aA,a0.S,a0.aw,a0.Read,U)
  else
   some (J.2.2,a0.Rows,a0.Doc,a0.aA,a0.S,a0.aw,a0.Read,J.2.1)):Option (aL×(List an)×Int×Bool×(List au)×Int×Int×Int)).bind fun o=>match o with
  | (aa,ab,ad,ae,ag,ah,ai,aj)=>((if J.1<(0:Int) then
    (lE F (⟨aa,ab,ad,ae,ag,ah,ai⟩:aV) a1 (imax aj U) true).bind fun j=>
    some (j.R,j.Rows,j.Doc,j.aA,j.S,j.aw,j.Read)
   else
    (lE F (⟨aa,ab,ad,ae,ag,ah,ai⟩:aV) a1 (imax aj U) false).bind fun I=>
    some (I.R,I.Rows,I.Doc,I.aA,I.S,I.aw,I.Read)):Option (aL×(List an)×Int×Bool×(List au)×Int×Int)).bind fun o=>match o with
   | (ak,ao,aq,ar,av,ax,ay)=>if (0:Int)≤J.1 then
    some (true,(⟨ak,ao,aq,ar,av,ax,ay⟩:aV))
   else
    some (false,(⟨ak,ao,aq,ar,av,ax,ay⟩:aV))
theorem pe (F:Nat) {h:AH} {Z:Zn} {a0:aV} {a1:Int} {ab:Int} {j I v4 v6 U ao v11 ad J ai} (hP:Pre Z h [.ae j [Pt I 0,v11,V a0.Doc, .bool a0.aA,J,V a0.aw,V a0.Read], .ae I (ay v4 v6 U a0.R), .gs U ao (aa aj), .gs v11 ad (aa an), .gs J ai (aa au)]) (bF:RS (α:=al) Z v4 a0.R.L) (bG:RS (α:=aq) Z v6 a0.R.T.ak) (bH:RCs (α:=aj) Z ao a0.R.D) (bh:RCs (α:=an) Z ad a0.Rows) (bd:RCs (α:=au) Z ai a0.S) {r:Bool×aV} (hm:iZ F a0 a1 ab=some r):
  bQ Try.prog 68 [Pt j 0,V a1,V ab] h Z [.ae j [Pt I 0,v11,V a0.Doc, .bool a0.aA,J,V a0.aw,V a0.Read], .ae I (ay v4 v6 U a0.R), .gs U ao (aa aj), .gs v11 ad (aa an), .gs J ai (aa au)] fun v Z' A'=>∃ bI bK bL bM bN bP, .bool r.1=v∧A'=[.ae j [Pt I 0,v11,V r.2.Doc, .bool r.2.aA,J,V r.2.aw,V r.2.Read], .ae I (ay bI bK bL r.2.R), .gs bL bM (aa aj), .gs v11 bN (aa an), .gs J bP (aa au)]∧RS (α:=al) Z' bI r.2.R.L∧RS (α:=aq) Z' bK r.2.R.T.ak∧RCs (α:=aj) Z' bM r.2.R.D∧RCs (α:=an) Z' bN r.2.Rows∧RCs (α:=au) Z' bP r.2.S:=by
 refine b6 Try.func68 hP ?_
 intro hs hS
 unfold iZ at hm
 refine sp 1<|cU EK hS ?_
 intro cf c9 cg bk
 refine yq 3 [(11,Pt j 0),(0,Pt j 0),(1,V a1),(2,V ab)] ?_
 have da:j<cf:=cg.1 _ (List.mem_of_getElem? (i:=0) rfl) _ (by simp [Itm.ids])
 refine aX (v:=Pt I 0) rfl trivial rfl (by show j<_;omega) (aC (v:=Pt I 0) trivial) (bk.aS (i:=0) rfl (by kernel_rfl)) trivial<|yq 2 [(14,V ab),(13,Pt j 0),(12,Pt I 0),(0,Pt j 0),(1,V a1),(2,V ab)] ?_
 obtain ⟨aG,ch,hm⟩:=ah hm
 have bR:=bk.cM
 obtain ⟨db,aH,cj,aO⟩:=St.jP (L:=[.ae j [Pt I 0,v11,V a0.Doc, .bool a0.aA,J,V a0.aw,V a0.Read], .ae I (ay v4 v6 U a0.R), .gs U ao (aa aj), .gs v11 ad (aa an), .gs J ai (aa au)]) bR
 obtain ⟨dc,dd,ck,bf,rfl⟩:=EB F cj (RS.mono aH bF) (RS.mono aH bG) (bj.row (aO _ (List.mem_of_getElem? (i:=2) rfl)) aH bH) (aO _ (List.mem_of_getElem? (i:=1) rfl)) (bj.row (aO _ (List.mem_of_getElem? (i:=3) rfl)) aH bh) (bj.row (aO _ (List.mem_of_getElem? (i:=4) rfl)) aH bd) (aO _ (List.mem_of_getElem? (i:=0) rfl)) ch
 replace bf:=St.jX aH bf
 have cl:=St.call (A:=[]) (B:=[.ae j [Pt I 0,v11,V a0.Doc, .bool a0.aA,J,V a0.aw,V a0.Read], .ae I (ay v4 v6 U a0.R), .gs U ao (aa aj), .gs v11 ad (aa an), .gs J ai (aa au)]) bR bf
 refine fv rfl trivial bk (dy ck rfl rfl rfl) cl (St.fw bf) ?_
 intro de cm
 refine yq 2 [(17,Pt I 3),(15,V aG),(0,Pt j 0),(1,V a1),(2,V ab)] ?_
 have bl:St _ _ _ _ _ _ ([.ae I (ay v4 v6 U a0.R)]++[.ae j [Pt I 0,v11,V a0.Doc, .bool a0.aA,J,V a0.aw,V a0.Read], .gs U ao (aa aj), .gs v11 ad (aa an), .gs J ai (aa au)]):=(cm.front 1 rfl)
 refine g3 rfl trivial bl (gK (vs:=[V aG]) (cF:=[v4,v6,U,V aG]) (L':=[.ae I [v4,v6,U,V aG]]) bl.sub (i:=0) rfl rfl rfl rfl (by kernel_rfl) rfl rfl rfl rfl) (aM.refl _) (.a5 (bl.bJ 0 rfl bO) .nil) ?_
 intro df cn
 refine yf [(0,Pt j 0),(1,V a1),(2,V ab)] ?_
 have cp:=cn.aY
 refine cU D6 cp ?_
 intro bm dg bn aJ
 refine yq 3 [(21,Pt j 0),(0,Pt j 0),(1,V a1),(2,V ab)] ?_
 have dh:j<bm:=bn.1 _ (List.mem_of_getElem? (i:=1) rfl) _ (by simp [Itm.ids])
 refine aX (v:=Pt I 0) rfl trivial rfl (by show j<_;omega) (aC (v:=Pt I 0) trivial) (aJ.aS (i:=1) rfl (by kernel_rfl)) trivial<|yq 5 [(27,Pt j 5),(24,V ab),(23,V a1),(22,Pt I 0),(0,Pt j 0),(1,V a1),(2,V ab)] ?_
 have dj:j<bm:=bn.1 _ (List.mem_of_getElem? (i:=1) rfl) _ (by simp [Itm.ids])
 refine aX (v:=V a0.aw) rfl trivial rfl (by show j<_;omega) (aC (v:=V a0.aw) trivial) (aJ.aS (i:=1) rfl (by kernel_rfl)) trivial<|yq 3 [(31,Pt j 4),(28,V a0.aw),(24,V ab),(23,V a1),(22,Pt I 0),(0,Pt j 0),(1,V a1),(2,V ab)] ?_
 have dk:j<bm:=bn.1 _ (List.mem_of_getElem? (i:=1) rfl) _ (by simp [Itm.ids])
 refine aX (v:=J) rfl trivial rfl (by show j<_;omega) (aC (v:=J) (aJ.di (i:=4) rfl)) (aJ.aS (i:=1) rfl (by kernel_rfl)) trivial<|aD rfl trivial (gG rfl (aJ.dn (i:=4) rfl bd) ⟨_,Try.underlying59⟩)<|yq 1 [(34,V (af (a0.aw - (a0.S.length:Int)))),(24,V ab),(23,V a1),(22,Pt I 0),(0,Pt j 0),(1,V a1),(2,V ab)] ?_
 obtain ⟨ax,cq,hm⟩:=ah hm
 have aQ:St _ _ _ _ _ _ ([.ae I [v4,v6,U,V aG], .gs U ao (aa aj)]++[.ae j [Pt I 0,v11,V a0.Doc, .bool a0.aA,J,V a0.aw,V a0.Read], .gs v11 ad (aa an), .gs J ai (aa au)]):=((aJ.front 2 rfl).front 1 rfl)
 obtain ⟨dm,dp,dq,dr,cr,bS,bT,bU,bV,bW,rfl,rfl,bX,bY,bZ⟩:=Dy F (a0:=(⟨a0.R.L,a0.R.T,a0.R.D,aG⟩:aL)) aQ.cM.eF bF bG bH cq
 have aU:=bS.ag
 refine fK rfl trivial aQ (dy cr rfl rfl rfl) bS aU (.a5 (aQ.bJ 0 rfl bO) (.a5 (aQ.bJ 0 rfl bO) (.a5 (aQ.bJ 0 rfl bO) .nil))) ?_
 intro ds ct
 refine ye 5 [(8,V ax.2.1),(7,V ax.1),(0,Pt j 0),(1,V a1),(2,V ab)] ?_
 have b0:=ct.aY
 refine sq ?_
 obtain ⟨cu,bg,hm⟩:=ah hm
 refine aI [0,1,2,7,8] (fun l h=>∃ az ar aW aZ a2 a3 a4 a6 bo bp bq br bu bw bx,(ar,aW,aZ,a2,a3,a4,a6,bo)=cu∧RS (α:=al) az bp ar.L∧RS (α:=aq) az bq ar.T.ak∧RCs (α:=aj) az bu ar.D∧RCs (α:=an) az bw aW∧RCs (α:=au) az bx a3∧l=[(0,Pt j 0),(1,V a1),(2,V ab),(7,V ax.1),(8,V bo)]∧St hs (aR [.ae j [Pt I 0,v11,V a0.Doc, .bool a0.aA,J,V a0.aw,V a0.Read], .ae I (ay v4 v6 U a0.R), .gs U ao (aa aj), .gs v11 ad (aa an), .gs J ai (aa au)]) Z (0,0) az h [.ae j [Pt I 0,v11,V aZ, .bool a2,J,V a4,V a6], .ae I (ay bp bq br ar), .gs br bu (aa aj), .gs v11 bw (aa an), .gs J bx (aa au)]) ?_ ?_
 rintro l dt ⟨az,ar,aW,aZ,a2,a3,a4,a6,bo,bp,bq,br,bu,bw,bx,rfl,b1,b2,b3,b4,b5,rfl,b7⟩
 try dsimp only at hm
 refine sq ?_
 obtain ⟨cv,av,hm⟩:=ah hm
 refine aI [7] (fun l h=>∃ aB aK bz bA bB bC bD bE a7 a8 a9 ba bb bc,(aK,bz,bA,bB,bC,bD,bE)=cv∧RS (α:=al) aB a7 aK.L∧RS (α:=aq) aB a8 aK.T.ak∧RCs (α:=aj) aB ba aK.D∧RCs (α:=an) aB bb bz∧RCs (α:=au) aB bc bC∧l=[(7,V ax.1)]∧St hs (aR [.ae j [Pt I 0,v11,V a0.Doc, .bool a0.aA,J,V a0.aw,V a0.Read], .ae I (ay v4 v6 U a0.R), .gs U ao (aa aj), .gs v11 ad (aa an), .gs J ai (aa au)]) Z (0,0) aB h [.ae j [Pt I 0,v11,V bA, .bool bB,J,V bD,V bE], .ae I (ay a7 a8 a9 aK), .gs a9 ba (aa aj), .gs v11 bb (aa an), .gs J bc (aa au)]) ?_ ?_
 rintro l dv ⟨aB,aK,bz,bA,bB,bC,bD,bE,a7,a8,a9,ba,bb,bc,rfl,b8,b9,ca,cb,cc,rfl,cd⟩
 try dsimp only at hm
 refine s0<|cC 1 hm ?_ ?_<;>intro dw hm
 refine xn 1<|rt<|⟨rfl,?_⟩
 obtain rfl:=si hm
 refine ⟨_,_,_,tk (.bool true) (ResL.nil),cd,?_⟩
 exact ⟨a7,a8,a9,ba,bb,bc,rfl,rfl,b8,b9,ca,cb,cc⟩
 refine xn 1<|rt<|⟨rfl,?_⟩
 obtain rfl:=si hm
 refine ⟨_,_,_,tk (.bool false) (ResL.nil),cd,?_⟩
 exact ⟨a7,a8,a9,ba,bb,bc,rfl,rfl,b8,b9,ca,cb,cc⟩
 refine g0<|aP 6 av ?_ ?_<;>intro dx av
 obtain ⟨aE,cw,av⟩:=ah av
 refine cA 0 b7 (fun p=>sU F (a0:=(⟨ar,aW,aZ,a2,a3,a4,a6⟩:aV)) p b1 b2 b3 b4 b5 cw) ?_
 rintro _ dz dA _ dB cx ⟨cz,cB,cD,cE,cG,cH,rfl,rfl,cI,cJ,cK,cL,cN⟩
 refine xn 0 ?_
 obtain rfl:=si av
 exact ⟨_,aE.R,aE.Rows,aE.Doc,aE.aA,aE.S,aE.aw,aE.Read,cz,cB,cD,cE,cG,cH,rfl,cI,cJ,cK,cL,cN,(by kernel_rfl),cx⟩
 obtain ⟨aF,cO,av⟩:=ah av
 refine cA 0 b7 (fun p=>sU F (a0:=(⟨ar,aW,aZ,a2,a3,a4,a6⟩:aV)) p b1 b2 b3 b4 b5 cO) ?_
 rintro _ dC dD _ dG cP ⟨cQ,cR,cS,cT,cX,c0,rfl,rfl,c3,c4,c6,c7,c8⟩
 refine xn 0 ?_
 obtain rfl:=si av
 exact ⟨_,aF.R,aF.Rows,aF.Doc,aF.aA,aF.S,aF.aw,aF.Read,cQ,cR,cS,cT,cX,c0,rfl,c3,c4,c6,c7,c8,(by kernel_rfl),cP⟩
 refine s0<|aP 1 bg ?_ ?_<;>intro dH bg
 refine xn 0<|dT<|gp 2 ?_
 obtain rfl:=si bg
 exact ⟨_,ax.2.2,a0.Rows,a0.Doc,a0.aA,a0.S,a0.aw,a0.Read,ab,bT,bU,bV,bW,ad,ai,rfl,bX,bY,bZ,(bh.mono aU),(bd.mono aU),(by kernel_rfl),(((((b0.front 4 rfl).front 4 rfl).front 3 rfl).front 3 rfl).front 4 rfl)⟩
 refine xn 0<|dF<|sk ?_
 obtain rfl:=si bg
 exact ⟨_,ax.2.2,a0.Rows,a0.Doc,a0.aA,a0.S,a0.aw,a0.Read,ax.2.1,bT,bU,bV,bW,ad,ai,rfl,bX,bY,bZ,(bh.mono aU),(bd.mono aU),(by kernel_rfl),(((((b0.front 4 rfl).front 4 rfl).front 3 rfl).front 3 rfl).front 4 rfl)⟩
def Df:List bt:=[uP 75 (mv 0),uP 76 (nk 75),uP 77 (fa 61 76 0),uL 78 (ld 55 77),uP 79 (mv 0),uP 80 (nk 79),uP 81 (fa 61 80 0),uL 82 (ld 55 81),uP 83 (nk 82),uP 84 (fa 58 83 1),uL 85 (ld 27 84),uP 86 (mv 0),uP 87 (nk 86),uP 88 (fa 61 87 2),uL 89 (ld 3 88),uP 90 (mv 4),uP 91 (bc .add 3 90 1 3),uF 92 (cf 69 #[(t 85),(t 89),(t 91)] #[27,3,3]) .make [7,10,14],uP 93 (nk 78),uP 94 (fa 58 93 1),oF (.store 27 (t 94) (t 92)) .make [3,7,10,14]]
def wg:List bt:=[uP 14 (mv 0),uP 15 (nk 14),uP 16 (fa 61 15 4),uL 17 (ld 59 16),uP 18 (mv 0),uP 19 (nk 18),uP 20 (fa 61 19 4),uL 21 (ld 59 20),uP 22 (cb .len #[(t 21)] #[59]),uP 23 (bc .sub 3 22 1 3),uP 24 (ia 59 17 23),uL 25 (ld 114 24),uF 3 (.alloc 114) .fresh [],oF (.store 114 (t 3) (t 25)) .make [3,7,11]]
def iP (F:Nat) (a0:aV):Option Int:=
 if (a0.S.length:Int)=(0:Int) then
  some a0.Doc
 else
  if 0≤(af ((a0.S.length:Int) - 1))∧(af ((a0.S.length:Int) - 1))<(a0.S.length:Int) then
   (a0.S[(af ((a0.S.length:Int) - 1)).toNat]?).bind fun j=>
   if j.Has=true then
    some j.Node
   else
    some j.bV
  else none
theorem nI (F:Nat) {h:AH} {Z:Zn} {a0:aV} {U ao v4 v6 ar v11 I} (hI:Inv Z h) (aL:RS (α:=al) Z v4 a0.R.L) (aO:RS (α:=aq) Z v6 a0.R.T.ak) (aP:RS (α:=aj) Z ar a0.R.D) (aQ:Z ao=some (ay v4 v6 ar a0.R)) (aR:RS (α:=an) Z v11 a0.Rows) (J:RS (α:=au) Z I a0.S) (ad:Z U=some [Pt ao 0,v11,V a0.Doc, .bool a0.aA,I,V a0.aw,V a0.Read]) {r:Int} (hm:iP F a0=some r):
  b3 Try.prog 47 [Pt U 0] h Z (V r):=by
 refine b4 Try.func47 hI ?_
 intro hs hS
 unfold iP at hm
 refine sp 1<|sq<|s0<|bw 3 I hS ad<|bD 0 I (RS.len J)<|aG 0 hm ?_ ?_<;>intro aS hm
 refine xn 0<|dT<|s0<|bw 3 (V a0.Doc) hS ad<|xn 1<|rt<|⟨rfl,?_⟩
 obtain rfl:=si hm
 refine ⟨_,_,_,tk (V a0.Doc) (ResL.nil),hS,?_⟩
 exact rfl
 refine xn 0<|dF<|sk<|cU wg hS ?_
 intro aU aW aX ag
 refine yq 3 [(16,Pt U 4),(0,Pt U 0)]<|ct rfl rfl trivial (fun h2 hz=>k8 (v:=I) h2 hz ad rfl (by kernel_rfl)) (ag.bM (aM.refl _)) (aC (v:=I) (RS.dG J)) trivial<|yq 3 [(20,Pt U 4),(17,I)]<|ct rfl rfl trivial (fun h2 hz=>k8 (v:=I) h2 hz ad rfl (by kernel_rfl)) (ag.bM (aM.refl _)) (aC (v:=I) (RS.dG J)) trivial ?_
 refine aD rfl trivial (gG rfl (RS.len J) ⟨_,Try.underlying59⟩)<|yq 1 [(23,V (af ((a0.S.length:Int) - 1))),(17,I)] ?_
 obtain ⟨av,hm⟩:=aJ hm
 refine aD rfl trivial (bA rfl rfl (by kernel_rfl:slTy _ _=some (aa au)) (RS.cQ J (by omega)) av.1 av.2) ?_
 obtain ⟨j,az,hm⟩:=ah hm
 obtain ⟨aZ,aF,aH⟩:=RS.bR J (i:=af ((a0.S.length:Int) - 1)) az
 obtain rfl:=et aF
 refine ct rfl rfl trivial (fun h2 hz=>bH (w:= .agg #[V j.Node,V j.Kind,V j.aE,V j.bV, .bool j.Has]) (aH h2 hz) rfl (by kernel_rfl)) (ag.bM (aM.refl _)) (ir (cs:=[V j.Node,V j.Kind,V j.aE,V j.bV, .bool j.Has]) (.cons trivial (.cons trivial (.cons trivial (.cons trivial (.cons trivial .nil)))))) trivial ?_
 refine wZ rfl trivial (u1 (cs:=[V 0,V 0,V 0,V 0, .bool false]) (by kernel_rfl)) ag (by omega) (Nat.add_lt_add_left (by decide) _) ?_
 intro ai a1 a2 aI
 have ax:St _ _ _ _ _ _ ([.ae ai [V 0,V 0,V 0,V 0, .bool false]]++[]):=(aI.front 0 rfl)
 refine g3 rfl trivial ax (gK (vs:=[V j.Node,V j.Kind,V j.aE,V j.bV, .bool j.Has]) (cF:=(rZ j)) (L':=[.ae ai (rZ j)]) ax.sub (i:=0) rfl rfl rfl rfl (by kernel_rfl) rfl rfl rfl rfl) (aM.refl _) (.a5 trivial (.a5 trivial (.a5 trivial .nil))) ?_
 intro a3 aK
 refine yf [(3,Pt ai 0)] ?_
 have ab:=aK.aY
 refine sq<|s0<|aB 1 0 (.bool j.Has) ab rfl<|kb 0 27 hm ?_ ?_<;>intro a4 hm
 refine xn 1<|dF<|sk<|s0<|aB 1 0 (V j.Node) ab rfl<|xn 1<|rt<|⟨rfl,?_⟩
 obtain rfl:=si hm
 refine ⟨_,_,_,tk (V j.Node) (ResL.nil),ab,?_⟩
 exact rfl
 refine xn 1<|dT<|s0<|aB 1 0 (V j.bV) ab rfl<|xn 1<|rt<|⟨rfl,?_⟩
 obtain rfl:=si hm
 refine ⟨_,_,_,tk (V j.bV) (ResL.nil),ab,?_⟩
 exact rfl
end Go.Proofs.Ytcilejikekccmaa.M
namespace Go.Proofs.Ytcilejikekccmaa.M
open Go Am Sy
open Sy.Cell (rc)
def zu:List bt:=[uP 15 (mv 8),uP 16 (bc .geq 3 15 0 3),uP 17 (mv 16),aK 17 18 (mv 0),aK 17 19 (nk 18),aK 17 20 (fa 61 19 4),cJ 17 21 (ld 59 20),aK 17 22 (mv 8),aK 17 23 (ia 59 21 22),aK 17 24 (fa 114 23 2),cJ 17 25 (ld 3 24),aK 17 26 (fa 63 5 3),cJ 17 27 (ld 3 26),aK 17 28 (bo .geq 3 25 27 3),uP 29 (pf 17 28)]
def p5:List bt:=[uP 54 (mv 0),uP 55 (nk 54),uP 56 (fa 61 55 0),uL 57 (ld 55 56),uP 58 (mv 0),uF 59 (cf 47 #[(t 58)] #[54]) .make [],uP 60 (mv 2),uP 61 (mv 3),uF 62 (cf 46 #[(t 57),(t 59),(t 60),(t 61),(ci 7)] #[55,3,3,3,3]) .make [3]]
def w5:List aN:=[u 63 (mv 0),u 64 (.buildSlice 59 0 #[]),u 65 (mv 0),u 66 (nk 65),u 67 (fa 61 66 4),u 68 (ld 59 67),u 69 (mv 8),u 70 (bc .add 3 69 1 3),u 71 (.slice 59 (t 68) none (some (t 70)) none),u 72 (cb .append #[(t 64),(t 71)] #[59,59]),u 73 (nk 63),u 74 (fa 61 73 4),o (.store 59 (t 74) (t 72))]
def wS:List bt:=[uP 87 (mv 0),uP 88 (nk 87),uP 89 (fa 61 88 4),uL 90 (ld 59 89),uP 91 (mv 8),uP 92 (mv 0),uP 93 (mv 0),uP 94 (nk 93),uP 95 (fa 61 94 4),uL 96 (ld 59 95),uP 97 (mv 8),uP 98 (ia 59 96 97),uP 99 (fa 114 98 3),uL 100 (ld 3 99),uP 101 (mv 2),uF 102 (cf 68 #[(t 92),(t 100),(t 101)] #[54,3,3]) .make [9,13],uP 103 (ia 59 90 91),uP 104 (fa 114 103 4),oF (.store 4 (t 104) (t 102)) .make [3,9,13]]
def correctorref12_parser_bare_l0 (F:Nat) (a0:aV) (a1:an) (J:Int) (U:Int):Nat→an→Int→Option Int
 | 0,_,_=>none
 | n+1,I,j=>
  if (0:Int)≤j then
   if 0≤j∧j<(a0.S.length:Int) then
    (a0.S[j.toNat]?).bind fun aa=>
    if I.aE≤aa.aE then
     correctorref12_parser_bare_l0 F a0 a1 J U n I (af (j - 1))
    else
     some j
   else none
  else
   some j
def m0 (F:Nat) (a0:aV) (a1:an) (U:Int) (aa:Int):Option aV:=
 ((correctorref12_parser_bare_l0 F a0 a1 U aa F a1 (af ((a0.S.length:Int) - 1))):Option Int).bind fun o=>match o with
  | j=>((if j<(0:Int) then
    if a0.aA=true then
     (iP F a0).bind fun ad=>
     (ea F a0.R ad U aa 7).bind fun ae=>
     some (.inr (⟨ae.2,a0.Rows,a0.Doc,a0.aA,a0.S,a0.aw,a0.Read⟩:aV))
    else
     if (0:Int)≤j then
      if 0≤j∧j<(a0.S.length:Int) then
       (a0.S[j.toNat]?).bind fun ag=>
       if ag.Has=true then
        (iP F a0).bind fun ah=>
        (ea F a0.R ah U aa 7).bind fun ai=>
        some (.inr (⟨ai.2,a0.Rows,a0.Doc,a0.aA,a0.S,a0.aw,a0.Read⟩:aV))
       else
        some (.inl ())
      else none
     else
      some (.inl ())
   else
    if (0:Int)≤j then
     if 0≤j∧j<(a0.S.length:Int) then
      (a0.S[j.toNat]?).bind fun aj=>
      if aj.Has=true then
       (iP F a0).bind fun ak=>
       (ea F a0.R ak U aa 7).bind fun ao=>
       some (.inr (⟨ao.2,a0.Rows,a0.Doc,a0.aA,a0.S,a0.aw,a0.Read⟩:aV))
      else
       some (.inl ())
     else none
    else
     some (.inl ())):Option (Sum Unit aV)).bind fun o=>match o with
   | .inl ()=>if 0≤(0:Int)∧(0:Int)≤(af (j+1))∧(af (j+1))≤(a0.S.length:Int) then
    if ([]:List au).length+((a0.S.take (af (j+1)).toNat).drop (0:Int).toNat).length≤3518437208883 then
     if j<(0:Int) then
      (iZ F (⟨a0.R,a0.Rows,a0.Doc,a0.aA,([]:List au)++((a0.S.take (af (j+1)).toNat).drop (0:Int).toNat),a0.aw,a0.Read⟩:aV) a0.Doc U).bind fun J=>
      some (⟨J.2.R,J.2.Rows,J.2.Doc,J.1,J.2.S,J.2.aw,J.2.Read⟩:aV)
     else
      if 0≤j∧j<((([]:List au)++((a0.S.take (af (j+1)).toNat).drop (0:Int).toNat)).length:Int) then
       ((([]:List au)++((a0.S.take (af (j+1)).toNat).drop (0:Int).toNat))[j.toNat]?).bind fun aq=>
       (iZ F (⟨a0.R,a0.Rows,a0.Doc,a0.aA,([]:List au)++((a0.S.take (af (j+1)).toNat).drop (0:Int).toNat),a0.aw,a0.Read⟩:aV) aq.bV U).bind fun I=>
       if 0≤j∧j<(I.2.S.length:Int) then
        (I.2.S[j.toNat]?).bind fun ab=>
        some (⟨I.2.R,I.2.Rows,I.2.Doc,I.2.aA,I.2.S.set j.toNat (⟨ab.Node,ab.Kind,ab.aE,ab.bV,I.1⟩:au),I.2.aw,I.2.Read⟩:aV)
       else none
      else none
    else none
   else none
   | .inr y=>some y
theorem Ep (F:Nat) {h:AH} {Z:Zn} {a0:aV} {a1:an} {ar:Int} {ax:Int} {I J v4 v6 ao aH v11 az U aG} (hP:Pre Z h [.ae I [Pt J 0,v11,V a0.Doc, .bool a0.aA,U,V a0.aw,V a0.Read], .ae J (ay v4 v6 ao a0.R), .gs ao aH (aa aj), .gs v11 az (aa an), .gs U aG (aa au)]) (a4:RS (α:=al) Z v4 a0.R.L) (a6:RS (α:=aq) Z v6 a0.R.T.ak) (a7:RCs (α:=aj) Z aH a0.R.D) (a8:RCs (α:=an) Z az a0.Rows) (aM:RCs (α:=au) Z aG a0.S) {r:aV} (hm:m0 F a0 a1 ar ax=some r):
  bQ Try.prog 71 [Pt I 0, .agg #[V a1.Kind,V a1.ai,V a1.To,V a1.aE],V ar,V ax] h Z [.ae I [Pt J 0,v11,V a0.Doc, .bool a0.aA,U,V a0.aw,V a0.Read], .ae J (ay v4 v6 ao a0.R), .gs ao aH (aa aj), .gs v11 az (aa an), .gs U aG (aa au)] fun v Z' A'=>∃ cf cg ch cj ck cl cn, .tuple #[]=v∧A'=[.ae I [Pt J 0,v11,V r.Doc, .bool r.aA,cl,V r.aw,V r.Read], .ae J (ay cf cg ch r.R), .gs ch cj (aa aj), .gs v11 ck (aa an), .gs cl cn (aa au)]∧RS (α:=al) Z' cf r.R.L∧RS (α:=aq) Z' cg r.R.T.ak∧RCs (α:=aj) Z' cj r.R.D∧RCs (α:=an) Z' ck r.Rows∧RCs (α:=au) Z' cn r.S:=by
 refine b6 Try.func71 hP ?_
 intro hs hS
 unfold m0 at hm
 refine s0<|dK 0 [V a1.Kind,V a1.ai,V a1.To,V a1.aE] hS ?_
 intro cX fo bB
 refine xn 0<|s0<|aB 3 1 U bB rfl<|bD 0 U (bB.dn (i:=5) rfl aM)<|xn 2<|sq ?_
 obtain ⟨bC,aL,hm⟩:=ah hm
 refine aI [0,2,3,8] (fun l h=>∃ cq aF,aF=bC∧l=[(0,Pt I 0),(2,V ar),(3,V ax),(8,V aF)]∧St hs (aR [.ae I [Pt J 0,v11,V a0.Doc, .bool a0.aA,U,V a0.aw,V a0.Read], .ae J (ay v4 v6 ao a0.R), .gs ao aH (aa aj), .gs v11 az (aa an), .gs U aG (aa au)]) Z (0,0) cq h [.ae I [Pt J 0,v11,V a0.Doc, .bool a0.aA,U,V a0.aw,V a0.Read], .ae J (ay v4 v6 ao a0.R), .gs ao aH (aa aj), .gs v11 az (aa an), .gs U aG (aa au)]) ?_ ?_
 rintro l fp ⟨cq,aF,rfl,rfl,ab⟩
 try dsimp only at hm
 refine sq ?_
 obtain ⟨c0,ad,hm⟩:=ah hm
 refine aI [0,2,8] (fun l h=>∃ bE, .inl ()=c0∧l=[(0,Pt I 0),(2,V ar),(8,V aF)]∧St hs (aR [.ae I [Pt J 0,v11,V a0.Doc, .bool a0.aA,U,V a0.aw,V a0.Read], .ae J (ay v4 v6 ao a0.R), .gs ao aH (aa aj), .gs v11 az (aa an), .gs U aG (aa au)]) Z (0,0) bE h [.ae I [Pt J 0,v11,V a0.Doc, .bool a0.aA,U,V a0.aw,V a0.Read], .ae J (ay v4 v6 ao a0.R), .gs ao aH (aa aj), .gs v11 az (aa an), .gs U aG (aa au)]) ?_ ?_
 rintro l fq ⟨bE,rfl,rfl,aU⟩
 try dsimp only at hm
 refine sr w5<|xq 1 [(63,Pt I 0),(0,Pt I 0),(2,V ar),(8,V aF)] ?_
 have c4:RCs (α:=au) bE [] []:=RCs.bu _
 refine dP rfl trivial (c3 (cells:=[]) (s:=5) (by kernel_rfl)) (by kernel_rfl) aU ?_
 intro c6 fr cr
 refine aB 3 1 U cr rfl<|xq 2 [(70,V (af (aF+1))),(68,U),(64,c6),(63,Pt I 0),(0,Pt I 0),(2,V ar),(8,V aF)] ?_
 obtain ⟨fs,aW,c7,ct⟩:=(cr.front 5 rfl).freeze (aM.mono aU.ag)
 obtain ⟨bF,hm⟩:=aJ hm
 refine kT rfl trivial (iW (a:=0) (b:=af (aF+1)) c7 rfl (by kernel_rfl:slTy _ _=some (aa au)) rfl ⟨_,rfl⟩ bF.1 bF.2.1 bF.2.2) ?_
 intro ft c8
 obtain ⟨fu,c9⟩:=RS.news c8 (ct).inv
 obtain ⟨fx,hm⟩:=aJ hm
 refine eY rfl trivial (dM (ys:=(a0.S.take (af (aF+1)).toNat).drop (0:Int).toNat) (bP:=40) ct (i:=0) rfl (c4.mono aW) c9 rfl rfl (by kernel_rfl) (by omega) (by omega)) ?_
 rintro av da fy ⟨bm,bI⟩
 refine bG 2 1 av [av] [Pt J 0,v11,V a0.Doc, .bool a0.aA,av,V a0.aw,V a0.Read] bI rfl (bI.fE (i:=0) rfl) (br (bI.fF (i:=0) rfl) cm) ?_
 intro fz bK
 refine xn 0<|sq<|s0<|aP 1 hm ?_ ?_<;>intro fA hm
 refine xn 0<|dT<|s0<|aB 5 1 (V a0.Doc) bK rfl ?_
 obtain ⟨bd,dc,hm⟩:=ah hm
 refine cA 1 (((((bK.front 0 rfl).front 4 rfl).front 4 rfl).front 4 rfl).front 4 rfl) (fun p=>pe F (a0:=(⟨a0.R,a0.Rows,a0.Doc,a0.aA,([]:List au)++((a0.S.take (af (aF+1)).toNat).drop (0:Int).toNat),a0.aw,a0.Read⟩:aV)) p (a4.mono (aU.ag.trans aW)) (a6.mono (aU.ag.trans aW)) (a7.mono (aU.ag.trans aW)) (a8.mono (aU.ag.trans aW)) bm dc) ?_
 rintro _ fB fC _ fG dd ⟨de,df,dg,dh,dj,dm,rfl,rfl,dp,dq,dr,ds,dx⟩
 refine bG 2 0 (.bool bd.1) [.bool bd.1] [Pt J 0,v11,V bd.2.Doc, .bool bd.1,av,V bd.2.aw,V bd.2.Read] dd rfl rfl rfl ?_
 intro fH dz
 refine xn 0<|rt<|⟨rfl,?_⟩
 obtain rfl:=si hm
 refine ⟨_,_,_,ResL.nil,dz,?_⟩
 exact ⟨de,df,dg,dh,dj,av,dm,rfl,rfl,dp,dq,dr,ds,dx⟩
 refine xn 0<|dF<|sk<|ey wS bK ?_
 intro bL fI bM bb
 refine yq 3 [(89,Pt I 4),(0,Pt I 0),(2,V ar),(8,V aF)] ?_
 have fJ:I<bL:=bM.1 _ (List.mem_of_getElem? (i:=1) rfl) _ (by simp [Itm.ids])
 refine aX (v:=av) rfl trivial rfl (by show I<_;omega) (aC (v:=av) (bb.di (i:=0) rfl)) (bb.aS (i:=1) rfl (by kernel_rfl)) trivial<|yq 5 [(95,Pt I 4),(92,Pt I 0),(91,V aF),(90,av),(2,V ar),(8,V aF)] ?_
 have fL:I<bL:=bM.1 _ (List.mem_of_getElem? (i:=1) rfl) _ (by simp [Itm.ids])
 refine aX (v:=av) rfl trivial rfl (by show I<_;omega) (aC (v:=av) (bb.di (i:=0) rfl)) (bb.aS (i:=1) rfl (by kernel_rfl)) trivial<|yq 1 [(97,V aF),(96,av),(92,Pt I 0),(91,V aF),(90,av),(2,V ar)] ?_
 obtain ⟨cu,hm⟩:=aJ hm
 refine aD rfl trivial (bA rfl rfl (by kernel_rfl:slTy _ _=some (aa au)) (bb.bN (j:=0) rfl bm (by omega)) cu.1 cu.2)<|yq 1 [(99, .pointer (some (ba av aF (aa au) 3))),(92,Pt I 0),(91,V aF),(90,av),(2,V ar)] ?_
 obtain ⟨bR,cv,hm⟩:=ah hm
 obtain ⟨fM,dA,dB,fN⟩:=bb.cp (j:=0) rfl bm (i:=aF) cv
 obtain rfl:=et dA
 have dC:=dw cv
 have dD:=bb.bN (j:=0) rfl bm dC
 have fO:(baseOf av).block<bL:=dk (bM.1 _ (List.mem_of_getElem? (i:=0) rfl)) dD
 refine dt rfl trivial rfl (by show (baseOf av).block<_;omega) (aC (v:=V bR.bV) trivial) (bH (w:=V bR.bV) dB rfl (by kernel_rfl)) trivial<|yq 1 [(101,V ar),(100,V bR.bV),(92,Pt I 0),(91,V aF),(90,av)] ?_
 obtain ⟨a2,dG,hm⟩:=ah hm
 have cw:St _ _ _ _ _ _ ([.ae I [Pt J 0,v11,V a0.Doc, .bool a0.aA,av,V a0.aw,V a0.Read], .ae J (ay v4 v6 ao a0.R), .gs ao aH (aa aj), .gs v11 az (aa an), .gs av da (aa au)]++[]):=(((((bb.front 0 rfl).front 4 rfl).front 4 rfl).front 4 rfl).front 4 rfl)
 obtain ⟨fP,fQ,fS,fT,dH,bS,cx,cB,bT,cD,cE,dI,rfl,rfl,dJ,dL,dN,dO,bU⟩:=pe F (a0:=(⟨a0.R,a0.Rows,a0.Doc,a0.aA,([]:List au)++((a0.S.take (af (aF+1)).toNat).drop (0:Int).toNat),a0.aw,a0.Read⟩:aV)) cw.cM.eF (a4.mono (aU.ag.trans aW)) (a6.mono (aU.ag.trans aW)) (a7.mono (aU.ag.trans aW)) (a8.mono (aU.ag.trans aW)) bm dG
 have cF:=bS.ag
 refine fK rfl trivial cw (dy dH rfl rfl rfl) bS cF (.drop (by decide) (.drop (by decide) (.pQ (bS.aS (i:=0) rfl (by kernel_rfl)) .nil))) ?_
 intro fU bW
 obtain ⟨cG,hm⟩:=aJ hm
 refine aD rfl trivial (bA rfl rfl (by kernel_rfl:slTy _ _=some (aa au)) (bW.bN (j:=4) rfl bU (by omega)) cG.1 cG.2)<|yq 1 [(104, .pointer (some (ba av aF (aa au) 4))),(102, .bool a2.1)] ?_
 obtain ⟨bc,cH,hm⟩:=ah hm
 obtain ⟨fV,dQ,fW,dR⟩:=bW.cp (j:=4) rfl bU (i:=aF) cH
 obtain rfl:=et dQ
 have bX:St _ _ _ _ _ _ ([.gs av dI (aa au)]++[.ae I [Pt J 0,v11,V a2.2.Doc, .bool a2.2.aA,av,V a2.2.aw,V a2.2.Read], .ae J (ay cx cB bT a2.2.R), .gs bT cD (aa aj), .gs v11 cE (aa an)]):=(bW.front 4 rfl)
 refine nN rfl trivial bX (gi (u':=(⟨bc.Node,bc.Kind,bc.aE,bc.bV,a2.1⟩:au)) (vs:=[.bool a2.1]) (aZ:=[V bc.Node,V bc.Kind,V bc.aE,V bc.bV, .bool a2.1]) bX.sub (m:=0) rfl bU cH dR rfl rfl rfl (by kernel_rfl) rfl rfl rfl rfl) cF (.drop (by decide) (.drop (by decide) (.a5 (bX.bJ 0 rfl bO) .nil))) ?_
 rintro fX dS ⟨dU,dV⟩
 refine yf [] ?_
 have dW:=dV.aY
 obtain rfl:=si hm
 refine ⟨_,_,_,ResL.nil,(((((dW.front 0 rfl).front 4 rfl).front 4 rfl).front 4 rfl).front 4 rfl),?_⟩
 exact ⟨cx,cB,bT,cD,cE,av,dS,rfl,rfl,dJ,dL,dN,dO,dU⟩
 refine s0<|aP 1 ad ?_ ?_<;>intro fY ad
 refine aB 4 0 (.bool a0.aA) ab rfl<|kb 2 40 ad ?_ ?_<;>intro fZ ad
 refine xn 13<|dT<|cU p5 ab ?_
 intro dX ga dY bY
 refine yq 3 [(56,Pt I 0),(0,Pt I 0),(2,V ar),(3,V ax)] ?_
 have gb:I<dX:=dY.1 _ (List.mem_of_getElem? (i:=0) rfl) _ (by simp [Itm.ids])
 refine aX (v:=Pt J 0) rfl trivial rfl (by show I<_;omega) (aC (v:=Pt J 0) trivial) (bY.aS (i:=0) rfl (by kernel_rfl)) trivial<|yq 1 [(58,Pt I 0),(57,Pt J 0),(2,V ar),(3,V ax)] ?_
 obtain ⟨dZ,ea,ad⟩:=ah ad
 have cI:=bY.cM
 obtain ⟨gd,bf,eb,bn⟩:=St.jP (L:=[.ae I [Pt J 0,v11,V a0.Doc, .bool a0.aA,U,V a0.aw,V a0.Read], .ae J (ay v4 v6 ao a0.R), .gs ao aH (aa aj), .gs v11 az (aa an), .gs U aG (aa au)]) cI
 obtain ⟨gf,gg,ec,bq,rfl⟩:=nI F eb (RS.mono bf (a4.mono ab.ag)) (RS.mono bf (a6.mono ab.ag)) (bj.row (bn _ (List.mem_of_getElem? (i:=2) rfl)) bf (a7.mono ab.ag)) (bn _ (List.mem_of_getElem? (i:=1) rfl)) (bj.row (bn _ (List.mem_of_getElem? (i:=3) rfl)) bf (a8.mono ab.ag)) (bj.row (bn _ (List.mem_of_getElem? (i:=4) rfl)) bf (aM.mono ab.ag)) (bn _ (List.mem_of_getElem? (i:=0) rfl)) ea
 replace bq:=St.jX bf bq
 have ed:=St.call (A:=[]) (B:=[.ae I [Pt J 0,v11,V a0.Doc, .bool a0.aA,U,V a0.aw,V a0.Read], .ae J (ay v4 v6 ao a0.R), .gs ao aH (aa aj), .gs v11 az (aa an), .gs U aG (aa au)]) cI bq
 refine fv rfl trivial bY (dy ec rfl rfl rfl) ed (St.fw bq) ?_
 intro gh ee
 refine yq 2 [(61,V ax),(60,V ar),(59,V dZ),(57,Pt J 0)] ?_
 obtain ⟨gj,eg,ad⟩:=ah ad
 have bZ:St _ _ _ _ _ _ ([.ae J (ay v4 v6 ao a0.R), .gs ao aH (aa aj)]++[.ae I [Pt J 0,v11,V a0.Doc, .bool a0.aA,U,V a0.aw,V a0.Read], .gs v11 az (aa an), .gs U aG (aa au)]):=((ee.front 2 rfl).front 2 rfl)
 obtain ⟨gk,gl,gm,gn,ei,cJ,ej,ek,en,eo,rfl,rfl,ep,er,eu⟩:=fD F bZ.cM.eF (a4.mono ab.ag) (a6.mono ab.ag) (a7.mono ab.ag) eg
 have b0:=cJ.ag
 refine fK rfl trivial bZ (dy ei rfl rfl rfl) cJ b0 (.a5 (bZ.bJ 0 rfl bO) .nil) ?_
 intro gq ew
 refine yf [] ?_
 have ez:=ew.aY
 refine rt<|⟨rfl,?_⟩
 obtain rfl:=si ad
 obtain rfl:=si hm
 refine ⟨_,_,_,ResL.nil,(((((ez.front 4 rfl).front 4 rfl).front 3 rfl).front 3 rfl).front 4 rfl),?_⟩
 exact ⟨ej,ek,en,eo,az,U,aG,rfl,rfl,ep,er,eu,(a8.mono (ab.ag.trans b0)),(aM.mono (ab.ag.trans b0))⟩
 refine cC 1 ad ?_ ?_<;>intro gr ad
 refine aB 4 0 U ab rfl<|dv 1 4 ad ab (aM.mono ab.ag) rfl ?_
 intro gu ad
 refine eh 1 4 4 (fun cK=> .bool cK.Has) ad ab (aM.mono ab.ag) rfl ?_
 intro cK gv ad
 refine xn 2<|db ad ?_ ?_<;>intro gw ad
 refine cU p5 ab ?_
 intro eA gx eB b1
 refine yq 3 [(56,Pt I 0),(0,Pt I 0),(2,V ar),(3,V ax)] ?_
 have gy:I<eA:=eB.1 _ (List.mem_of_getElem? (i:=0) rfl) _ (by simp [Itm.ids])
 refine aX (v:=Pt J 0) rfl trivial rfl (by show I<_;omega) (aC (v:=Pt J 0) trivial) (b1.aS (i:=0) rfl (by kernel_rfl)) trivial<|yq 1 [(58,Pt I 0),(57,Pt J 0),(2,V ar),(3,V ax)] ?_
 obtain ⟨eC,eD,ad⟩:=ah ad
 have cL:=b1.cM
 obtain ⟨gz,bg,eE,bo⟩:=St.jP (L:=[.ae I [Pt J 0,v11,V a0.Doc, .bool a0.aA,U,V a0.aw,V a0.Read], .ae J (ay v4 v6 ao a0.R), .gs ao aH (aa aj), .gs v11 az (aa an), .gs U aG (aa au)]) cL
 obtain ⟨gA,gB,eG,bw,rfl⟩:=nI F eE (RS.mono bg (a4.mono ab.ag)) (RS.mono bg (a6.mono ab.ag)) (bj.row (bo _ (List.mem_of_getElem? (i:=2) rfl)) bg (a7.mono ab.ag)) (bo _ (List.mem_of_getElem? (i:=1) rfl)) (bj.row (bo _ (List.mem_of_getElem? (i:=3) rfl)) bg (a8.mono ab.ag)) (bj.row (bo _ (List.mem_of_getElem? (i:=4) rfl)) bg (aM.mono ab.ag)) (bo _ (List.mem_of_getElem? (i:=0) rfl)) eD
 replace bw:=St.jX bg bw
 have eH:=St.call (A:=[]) (B:=[.ae I [Pt J 0,v11,V a0.Doc, .bool a0.aA,U,V a0.aw,V a0.Read], .ae J (ay v4 v6 ao a0.R), .gs ao aH (aa aj), .gs v11 az (aa an), .gs U aG (aa au)]) cL bw
 refine fv rfl trivial b1 (dy eG rfl rfl rfl) eH (St.fw bw) ?_
 intro gC eI
 refine yq 2 [(61,V ax),(60,V ar),(59,V eC),(57,Pt J 0)] ?_
 obtain ⟨gD,eJ,ad⟩:=ah ad
 have b2:St _ _ _ _ _ _ ([.ae J (ay v4 v6 ao a0.R), .gs ao aH (aa aj)]++[.ae I [Pt J 0,v11,V a0.Doc, .bool a0.aA,U,V a0.aw,V a0.Read], .gs v11 az (aa an), .gs U aG (aa au)]):=((eI.front 2 rfl).front 2 rfl)
 obtain ⟨gE,gF,gG,gH,eK,cN,eL,eM,eN,eO,rfl,rfl,eP,eQ,eR⟩:=fD F b2.cM.eF (a4.mono ab.ag) (a6.mono ab.ag) (a7.mono ab.ag) eJ
 have b3:=cN.ag
 refine fK rfl trivial b2 (dy eK rfl rfl rfl) cN b3 (.a5 (b2.bJ 0 rfl bO) .nil) ?_
 intro gI eS
 refine yf [] ?_
 have eT:=eS.aY
 refine rt<|⟨rfl,?_⟩
 obtain rfl:=si ad
 obtain rfl:=si hm
 refine ⟨_,_,_,ResL.nil,(((((eT.front 4 rfl).front 4 rfl).front 3 rfl).front 3 rfl).front 4 rfl),?_⟩
 exact ⟨eL,eM,eN,eO,az,U,aG,rfl,rfl,eP,eQ,eR,(a8.mono (ab.ag.trans b3)),(aM.mono (ab.ag.trans b3))⟩
 refine sk ?_
 obtain rfl:=si ad
 exact ⟨_,rfl,(by kernel_rfl),ab⟩
 refine xn 11<|dF<|sk ?_
 obtain rfl:=si ad
 exact ⟨_,rfl,(by kernel_rfl),ab⟩
 refine cC 8 ad ?_ ?_<;>intro gJ ad
 refine aB 4 0 U ab rfl<|dv 1 4 ad ab (aM.mono ab.ag) rfl ?_
 intro gK ad
 refine eh 1 4 4 (fun cO=> .bool cO.Has) ad ab (aM.mono ab.ag) rfl ?_
 intro cO gL ad
 refine xn 2<|db ad ?_ ?_<;>intro gM ad
 refine cU p5 ab ?_
 intro eU gN eV b4
 refine yq 3 [(56,Pt I 0),(0,Pt I 0),(2,V ar),(3,V ax)] ?_
 have gO:I<eU:=eV.1 _ (List.mem_of_getElem? (i:=0) rfl) _ (by simp [Itm.ids])
 refine aX (v:=Pt J 0) rfl trivial rfl (by show I<_;omega) (aC (v:=Pt J 0) trivial) (b4.aS (i:=0) rfl (by kernel_rfl)) trivial<|yq 1 [(58,Pt I 0),(57,Pt J 0),(2,V ar),(3,V ax)] ?_
 obtain ⟨eW,eX,ad⟩:=ah ad
 have cP:=b4.cM
 obtain ⟨gP,bh,eZ,bp⟩:=St.jP (L:=[.ae I [Pt J 0,v11,V a0.Doc, .bool a0.aA,U,V a0.aw,V a0.Read], .ae J (ay v4 v6 ao a0.R), .gs ao aH (aa aj), .gs v11 az (aa an), .gs U aG (aa au)]) cP
 obtain ⟨gQ,gR,e0,bx,rfl⟩:=nI F eZ (RS.mono bh (a4.mono ab.ag)) (RS.mono bh (a6.mono ab.ag)) (bj.row (bp _ (List.mem_of_getElem? (i:=2) rfl)) bh (a7.mono ab.ag)) (bp _ (List.mem_of_getElem? (i:=1) rfl)) (bj.row (bp _ (List.mem_of_getElem? (i:=3) rfl)) bh (a8.mono ab.ag)) (bj.row (bp _ (List.mem_of_getElem? (i:=4) rfl)) bh (aM.mono ab.ag)) (bp _ (List.mem_of_getElem? (i:=0) rfl)) eX
 replace bx:=St.jX bh bx
 have e2:=St.call (A:=[]) (B:=[.ae I [Pt J 0,v11,V a0.Doc, .bool a0.aA,U,V a0.aw,V a0.Read], .ae J (ay v4 v6 ao a0.R), .gs ao aH (aa aj), .gs v11 az (aa an), .gs U aG (aa au)]) cP bx
 refine fv rfl trivial b4 (dy e0 rfl rfl rfl) e2 (St.fw bx) ?_
 intro gS e3
 refine yq 2 [(61,V ax),(60,V ar),(59,V eW),(57,Pt J 0)] ?_
 obtain ⟨gT,e4,ad⟩:=ah ad
 have b5:St _ _ _ _ _ _ ([.ae J (ay v4 v6 ao a0.R), .gs ao aH (aa aj)]++[.ae I [Pt J 0,v11,V a0.Doc, .bool a0.aA,U,V a0.aw,V a0.Read], .gs v11 az (aa an), .gs U aG (aa au)]):=((e3.front 2 rfl).front 2 rfl)
 obtain ⟨gU,gV,gW,gX,e5,cQ,e6,e7,e8,e9,rfl,rfl,fa,fb,fc⟩:=fD F b5.cM.eF (a4.mono ab.ag) (a6.mono ab.ag) (a7.mono ab.ag) e4
 have b7:=cQ.ag
 refine fK rfl trivial b5 (dy e5 rfl rfl rfl) cQ b7 (.a5 (b5.bJ 0 rfl bO) .nil) ?_
 intro gY fe
 refine yf [] ?_
 have ff:=fe.aY
 refine rt<|⟨rfl,?_⟩
 obtain rfl:=si ad
 obtain rfl:=si hm
 refine ⟨_,_,_,ResL.nil,(((((ff.front 4 rfl).front 4 rfl).front 3 rfl).front 3 rfl).front 4 rfl),?_⟩
 exact ⟨e6,e7,e8,e9,az,U,aG,rfl,rfl,fa,fb,fc,(a8.mono (ab.ag.trans b7)),(aM.mono (ab.ag.trans b7))⟩
 refine sk ?_
 obtain rfl:=si ad
 exact ⟨_,rfl,(by kernel_rfl),ab⟩
 refine xn 11<|dF<|sk ?_
 obtain rfl:=si ad
 exact ⟨_,rfl,(by kernel_rfl),ab⟩
 refine bk 0<|lp [0,2,3,5,8] (fun n l h=>∃ cR bl aK aQ,correctorref12_parser_bare_l0 F a0 a1 ar ax n bl aK=some bC∧l=[(0,Pt I 0),(2,V ar),(3,V ax),(5,Pt aQ 0),(8,V aK)]∧St hs (aR [.ae I [Pt J 0,v11,V a0.Doc, .bool a0.aA,U,V a0.aw,V a0.Read], .ae J (ay v4 v6 ao a0.R), .gs ao aH (aa aj), .gs v11 az (aa an), .gs U aG (aa au)]) Z (0,0) cR h [.ae I [Pt J 0,v11,V a0.Doc, .bool a0.aA,U,V a0.aw,V a0.Read], .ae J (ay v4 v6 ao a0.R), .gs ao aH (aa aj), .gs v11 az (aa an), .gs U aG (aa au), .ae aQ (cz bl)]) F ⟨_,a1,af ((a0.S.length:Int) - 1),cX,aL,(by kernel_rfl),((((((bB.front 0 rfl).front 5 rfl).front 5 rfl).front 5 rfl).front 5 rfl).front 5 rfl)⟩ ?_
 rintro b8 l gZ ⟨cR,bl,aK,aQ,aL,rfl,bz⟩
 rcases b8 with _ | b8
 cases (show none=some bC from aL)
 rw [correctorref12_parser_bare_l0] at aL
 refine sq<|cU zu bz ?_
 intro b9 g0 ca a3
 refine yq 1 [(15,V aK),(0,Pt I 0),(2,V ar),(3,V ax),(5,Pt aQ 0),(8,V aK)] ?_
 rcases ifs aL with ⟨cb,aL⟩ | ⟨cb,aL⟩
 refine aD rfl trivial (a9 rfl rfl (il cb))<|yq 4 [(20,Pt I 4),(17, .bool true),(0,Pt I 0),(2,V ar),(3,V ax),(5,Pt aQ 0),(8,V aK)] ?_
 have g1:I<b9:=ca.1 _ (List.mem_of_getElem? (i:=0) rfl) _ (by simp [Itm.ids])
 refine aX (v:=U) rfl rfl rfl (by show I<_;omega) (aC (v:=U) (a3.di (i:=4) rfl)) (a3.aS (i:=0) rfl (by kernel_rfl)) trivial<|yq 1 [(22,V aK),(21,U),(17, .bool true),(0,Pt I 0),(2,V ar),(3,V ax),(5,Pt aQ 0),(8,V aK)] ?_
 obtain ⟨cS,aL⟩:=aJ aL
 refine aD rfl rfl (bA rfl rfl (by kernel_rfl:slTy _ _=some (aa au)) (a3.bN (j:=4) rfl (aM.mono bz.ag) (by omega)) cS.1 cS.2)<|yq 1 [(24, .pointer (some (ba U aK (aa au) 2))),(17, .bool true),(0,Pt I 0),(2,V ar),(3,V ax),(5,Pt aQ 0),(8,V aK)] ?_
 obtain ⟨cc,cT,aL⟩:=ah aL
 obtain ⟨g2,fg,fh,g3⟩:=a3.cp (j:=4) rfl (aM.mono bz.ag) (i:=aK) cT
 obtain rfl:=et fg
 have fi:=dw cT
 have fj:=a3.bN (j:=4) rfl (aM.mono bz.ag) fi
 have g4:(baseOf U).block<b9:=dk (ca.1 _ (List.mem_of_getElem? (i:=4) rfl)) fj
 refine dt rfl rfl rfl (by show (baseOf U).block<_;omega) (aC (v:=V cc.aE) trivial) (bH (w:=V cc.aE) fh rfl (by kernel_rfl)) trivial<|yq 1 [(26,Pt aQ 3),(25,V cc.aE),(17, .bool true),(0,Pt I 0),(2,V ar),(3,V ax),(5,Pt aQ 0),(8,V aK)] ?_
 have g5:aQ<b9:=ca.1 _ (List.mem_of_getElem? (i:=5) rfl) _ (by simp [Itm.ids])
 refine aX (v:=V bl.aE) rfl rfl rfl (by show aQ<_;omega) (aC (v:=V bl.aE) trivial) (a3.aS (i:=5) rfl (by kernel_rfl)) trivial ?_
 rcases ifs aL with ⟨cd,aL⟩ | ⟨cd,aL⟩
 refine aD rfl rfl (a9 rfl rfl (il cd))<|ye 1 [(29, .bool true),(0,Pt I 0),(2,V ar),(3,V ax),(5,Pt aQ 0),(8,V aK)] ?_
 have fk:=a3.aY
 refine dT<|sk<|bk 1<|gp 3 ?_
 exact ⟨b8,Nat.lt_succ_self _,⟨_,bl,af (aK - 1),aQ,aL,(by kernel_rfl),fk⟩⟩
 refine aD rfl rfl (a9 rfl rfl (ig cd))<|ye 1 [(29, .bool false),(0,Pt I 0),(2,V ar),(3,V ax),(5,Pt aQ 0),(8,V aK)] ?_
 have fl:=a3.aY
 refine dF<|xt 0<|aO ?_
 obtain rfl:=si aL
 exact ⟨_,aK,rfl,(by kernel_rfl),(fl.takeN 5)⟩
 refine aD rfl trivial (a9 rfl rfl (ig cb))<|ye 13 [(29, .bool false),(0,Pt I 0),(2,V ar),(3,V ax),(5,Pt aQ 0),(8,V aK)] ?_
 have fm:=a3.aY
 refine dF<|xt 0<|aO ?_
 obtain rfl:=si aL
 exact ⟨_,aK,rfl,(by kernel_rfl),(fm.takeN 5)⟩
def CU:List bt:=[uP 18 (mv 6),uP 19 (bc .geq 3 18 0 3),uP 20 (mv 19),aK 20 21 (mv 0),aK 20 22 (nk 21),aK 20 23 (fa 61 22 4),cJ 20 24 (ld 59 23),aK 20 25 (mv 6),aK 20 26 (ia 59 24 25),aK 20 27 (fa 114 26 2),cJ 20 28 (ld 3 27),aK 20 29 (fa 112 3 1),cJ 20 30 (ld 3 29),aK 20 31 (bo .gtr 3 28 30 3),uP 32 (pf 20 31)]
def B4:List bt:=[uP 36 (mv 6),uP 37 (bc .geq 3 36 0 3),uP 38 (mv 37),aK 38 39 (mv 0),aK 38 40 (nk 39),aK 38 41 (fa 61 40 4),cJ 38 42 (ld 59 41),aK 38 43 (mv 6),aK 38 44 (ia 59 42 43),aK 38 45 (fa 114 44 2),cJ 38 46 (ld 3 45),aK 38 47 (fa 112 3 1),cJ 38 48 (ld 3 47),aK 38 49 (bo .eql 3 46 48 3),uP 50 (pf 38 49),uP 51 (mv 50),aK 51 52 (mv 0),aK 51 53 (nk 52),aK 51 54 (fa 61 53 4),cJ 51 55 (ld 59 54),aK 51 56 (mv 6),aK 51 57 (ia 59 55 56),aK 51 58 (fa 114 57 1),cJ 51 59 (ld 3 58),aK 51 60 (mv 5),aK 51 61 (bo .eql 3 59 60 3),uP 62 (pf 51 61),uP 35 (sg 62)]
def DR:List bt:=[uP 64 (mv 6),uP 65 (bc .geq 3 64 0 3),uP 66 (mv 65),aK 66 67 (mv 0),aK 66 68 (nk 67),aK 66 69 (fa 61 68 4),cJ 66 70 (ld 59 69),aK 66 71 (mv 6),aK 66 72 (ia 59 70 71),aK 66 73 (fa 114 72 2),cJ 66 74 (ld 3 73),aK 66 75 (fa 112 3 1),cJ 66 76 (ld 3 75),aK 66 77 (bo .eql 3 74 76 3),uP 78 (pf 66 77),uP 79 (mv 78),aK 79 80 (mv 5),aK 79 81 (bc .eql 3 80 3 3),uP 82 (pf 79 81),uP 63 (sg 82)]
def yj:List bt:=[uP 92 (mv 6),uP 93 (bc .gtr 3 92 0 3),uP 94 (mv 93),aK 94 95 (mv 0),aK 94 96 (nk 95),aK 94 97 (fa 61 96 4),cJ 94 98 (ld 59 97),aK 94 99 (mv 6),aK 94 100 (ia 59 98 99),aK 94 101 (fa 114 100 2),cJ 94 102 (ld 3 101),aK 94 103 (fa 112 3 1),cJ 94 104 (ld 3 103),aK 94 105 (bo .eql 3 102 104 3),uP 106 (pf 94 105),uP 107 (mv 106),aK 107 108 (mv 0),aK 107 109 (nk 108),aK 107 110 (fa 61 109 4),cJ 107 111 (ld 59 110),aK 107 112 (mv 6),aK 107 113 (bc .sub 3 112 1 3),aK 107 114 (ia 59 111 113),aK 107 115 (fa 114 114 2),cJ 107 116 (ld 3 115),aK 107 117 (fa 112 3 1),cJ 107 118 (ld 3 117),aK 107 119 (bo .eql 3 116 118 3),uP 120 (pf 107 119),uP 121 (mv 120),aK 121 122 (mv 0),aK 121 123 (nk 122),aK 121 124 (fa 61 123 4),cJ 121 125 (ld 59 124),aK 121 126 (mv 6),aK 121 127 (bc .sub 3 126 1 3),aK 121 128 (ia 59 125 127),aK 121 129 (fa 114 128 1),cJ 121 130 (ld 3 129),aK 121 131 (bc .eql 3 130 5 3),uP 132 (pf 121 131),uP 91 (sg 132)]
def BZ:List bt:=[uP 136 (mv 6),uP 137 (bc .geq 3 136 0 3),uP 138 (mv 137),aK 138 139 (mv 0),aK 138 140 (nk 139),aK 138 141 (fa 61 140 4),cJ 138 142 (ld 59 141),aK 138 143 (mv 6),aK 138 144 (ia 59 142 143),aK 138 145 (fa 114 144 2),cJ 138 146 (ld 3 145),aK 138 147 (fa 112 3 1),cJ 138 148 (ld 3 147),aK 138 149 (bo .eql 3 146 148 3),uP 150 (pf 138 149),uP 135 (sg 150)]
def Cs:List aN:=[u 183 (mv 0),u 184 (.buildSlice 59 0 #[]),u 185 (mv 0),u 186 (nk 185),u 187 (fa 61 186 4),u 188 (ld 59 187),u 189 (mv 6),u 190 (bc .add 3 189 1 3),u 191 (.slice 59 (t 188) none (some (t 190)) none),u 192 (cb .append #[(t 184),(t 191)] #[59,59]),u 193 (nk 183),u 194 (fa 61 193 4),o (.store 59 (t 194) (t 192))]
def xC:List aN:=[u 210 (mv 0),u 211 (nk 210),u 212 (fa 61 211 4),u 213 (ld 59 212),u 214 (mv 6),u 215 (ia 59 213 214),u 216 (fa 114 215 4),o (.store 4 (t 216) (.const (.bool true)))]
def Bm:List bt:=[uP 220 (mv 0),uP 221 (mv 0),uP 222 (nk 221),uP 223 (fa 61 222 4),uL 224 (ld 59 223),uP 225 (mv 0),uP 226 (nk 225),uP 227 (fa 61 226 0),uL 228 (ld 55 227),uP 229 (mv 8),uP 230 (mv 5),uP 231 (fa 112 3 2),uL 232 (ld 3 231),uP 233 (fa 112 3 3),uL 234 (ld 3 233),uF 235 (cf 67 #[(t 228),(t 229),(t 230),(t 232),(t 234)] #[55,3,3,3,3]) .make [8,12,14],uP 236 (mv 5),uP 237 (fa 112 3 1),uL 238 (ld 3 237),uP 239 (.build 114 #[(0,(t 235)),(1,(t 236)),(2,(t 238))]),uF 240 (.buildSlice 59 1 #[(0,(t 239))]) .fresh [],uF 241 (cb .append #[(t 224),(t 240)] #[59,59]) .make [4,8,12,14,18],uP 242 (nk 220),uP 243 (fa 61 242 4),oF (.store 59 (t 243) (t 241)) .make [4,8,12,14,18]]
def yL:List bt:=[uP 244 (mv 0),uP 245 (nk 244),uP 246 (fa 61 245 4),uL 247 (ld 59 246),uP 248 (mv 0),uP 249 (nk 248),uP 250 (fa 61 249 4),uL 251 (ld 59 250),uP 252 (cb .len #[(t 251)] #[59]),uP 253 (bc .sub 3 252 1 3),uP 254 (ia 59 247 253),uP 9 (sg 254)]
def yV:List aN:=[u 255 (mv 9),u 256 (nk 255),u 257 (fa 114 256 4),o (.store 4 (t 257) (.const (.bool false)))]
def BW:List bt:=[uP 260 (mv 9),uP 261 (mv 0),uP 262 (nk 261),uP 263 (fa 61 262 0),uL 264 (ld 55 263),uP 265 (mv 9),uP 266 (nk 265),uP 267 (fa 114 266 0),uL 268 (ld 3 267),uP 269 (fa 112 3 2),uL 270 (ld 3 269),uP 271 (fa 112 3 3),uL 272 (ld 3 271),uF 273 (cf 67 #[(t 264),(t 268),(ci 4),(t 270),(t 272)] #[55,3,3,3,3]) .make [4,8,10,12],uP 274 (nk 260),uP 275 (fa 114 274 3),oF (.store 3 (t 275) (t 273)) .make [4,8,10,12]]
def xJ:List bt:=[uP 276 (mv 9),uP 277 (mv 0),uP 278 (nk 277),uP 279 (fa 61 278 0),uL 280 (ld 55 279),uP 281 (mv 9),uP 282 (nk 281),uP 283 (fa 114 282 0),uL 284 (ld 3 283),uP 285 (fa 112 3 2),uL 286 (ld 3 285),uP 287 (fa 112 3 3),uL 288 (ld 3 287),uF 289 (cf 86 #[(t 280),(t 284),(t 286),(t 288)] #[55,3,3,3]) .make [4,8,10,12],uP 290 (nk 276),uP 291 (fa 114 290 3),oF (.store 3 (t 291) (t 289)) .make [4,8,10,12]]
def correctorref12_parser_place_l0 (F:Nat) (a0:aV) (a1:a4):Nat→a4→Int→Int→Option (a4×Int×Int)
 | 0,_,_,_=>none
 | n+1,I,J,j=>
  if (0:Int)≤j then
   if 0≤j∧j<(a0.S.length:Int) then
    (a0.S[j.toNat]?).bind fun U=>
    if I.aE<U.aE then
     correctorref12_parser_place_l0 F a0 a1 n I J (af (j - 1))
    else
     some (I,J,j)
   else none
  else
   some (I,J,j)
def correctorref12_parser_place (F:Nat) (a0:aV) (a1:a4):Option (Int×aV):=
 ((if a1.iA=true then
   some (a1,3)
  else
   some (a1,5)):Option (a4×Int)).bind fun o=>match o with
  | (aM,aO)=>((correctorref12_parser_place_l0 F a0 a1 F aM aO (af ((a0.S.length:Int) - 1))):Option (a4×Int×Int)).bind fun o=>match o with
   | (ad,ae,j)=>((((if (0:Int)≤j then
      if 0≤j∧j<(a0.S.length:Int) then
       (a0.S[j.toNat]?).bind fun aP=>
       if aP.aE=ad.aE then
        if 0≤j∧j<(a0.S.length:Int) then
         (a0.S[j.toNat]?).bind fun aQ=>
         if aQ.Kind=ae then
          some (ad,true)
         else
          some (ad,false)
        else none
       else
        some (ad,false)
      else none
     else
      some (ad,false)):Option (a4×Bool)).bind fun o=>match o with
     | (ab,aR)=>if aR=true then
      some (.inl (ab,j,false))
     else
      ((if (0:Int)≤j then
        if 0≤j∧j<(a0.S.length:Int) then
         (a0.S[j.toNat]?).bind fun aS=>
         if aS.aE=ab.aE then
          if ae=(3:Int) then
           some (ab,true)
          else
           some (ab,false)
         else
          some (ab,false)
        else none
       else
        some (ab,false)):Option (a4×Bool)).bind fun o=>match o with
       | (aa,aU)=>if aU=true then
        if 0≤j∧j<(a0.S.length:Int) then
         (a0.S[j.toNat]?).bind fun aW=>
         if aW.Has=true then
          some (.inr (5,a0))
         else
          some (.inl (aa,j,true))
        else none
       else
        ((if (0:Int)<j then
          if 0≤j∧j<(a0.S.length:Int) then
           (a0.S[j.toNat]?).bind fun aX=>
           if aX.aE=aa.aE then
            if 0≤(af (j - 1))∧(af (j - 1))<(a0.S.length:Int) then
             (a0.S[(af (j - 1)).toNat]?).bind fun aY=>
             if aY.aE=aa.aE then
              if 0≤(af (j - 1))∧(af (j - 1))<(a0.S.length:Int) then
               (a0.S[(af (j - 1)).toNat]?).bind fun aZ=>
               if aZ.Kind=(5:Int) then
                some (aa,true)
               else
                some (aa,false)
              else none
             else
              some (aa,false)
            else none
           else
            some (aa,false)
          else none
         else
          some (aa,false)):Option (a4×Bool)).bind fun o=>match o with
         | (ag,a2)=>if a2=true then
          some (.inl (ag,af (j - 1),false))
         else
          ((if (0:Int)≤j then
            if 0≤j∧j<(a0.S.length:Int) then
             (a0.S[j.toNat]?).bind fun a3=>
             if a3.aE=ag.aE then
              some (ag,true)
             else
              some (ag,false)
            else none
           else
            some (ag,false)):Option (a4×Bool)).bind fun o=>match o with
           | (ak,a5)=>if a5=true then
            some (.inr (5,a0))
           else
            if j<(0:Int) then
             if a0.aA=true then
              some (.inr (7,a0))
             else
              if (0:Int)≤j then
               if 0≤j∧j<(a0.S.length:Int) then
                (a0.S[j.toNat]?).bind fun a6=>
                if a6.Has=true then
                 some (.inr (6,a0))
                else
                 some (.inl (ak,j,true))
               else none
              else
               some (.inl (ak,j,true))
            else
             if (0:Int)≤j then
              if 0≤j∧j<(a0.S.length:Int) then
               (a0.S[j.toNat]?).bind fun a7=>
               if a7.Has=true then
                some (.inr (6,a0))
               else
                some (.inl (ak,j,true))
              else none
             else
              some (.inl (ak,j,true))):Option (Sum (a4×Int×Bool) (Int×aV))).bind fun o=>match o with
    | .inl (ay,U,az)=>((if az=true then
      if a0.aw<(af (U+2)) then
       some (.inr (10,a0))
      else
       some (.inl ay)
     else
      some (.inl ay)):Option (Sum a4 (Int×aV))).bind fun o=>match o with
     | .inl av=>if 0≤(0:Int)∧(0:Int)≤(af (U+1))∧(af (U+1))≤(a0.S.length:Int) then
      if ([]:List au).length+((a0.S.take (af (U+1)).toNat).drop (0:Int).toNat).length≤3518437208883 then
       ((if az=true then
         ((if (0:Int)≤U then
           if 0≤U∧U<((([]:List au)++((a0.S.take (af (U+1)).toNat).drop (0:Int).toNat)).length:Int) then
            ((([]:List au)++((a0.S.take (af (U+1)).toNat).drop (0:Int).toNat))[U.toNat]?).bind fun a8=>
            if 0≤U∧U<((([]:List au)++((a0.S.take (af (U+1)).toNat).drop (0:Int).toNat)).length:Int) then
             ((([]:List au)++((a0.S.take (af (U+1)).toNat).drop (0:Int).toNat))[U.toNat]?).bind fun ao=>
             some (a0.Rows,a0.Doc,a0.aA,(([]:List au)++((a0.S.take (af (U+1)).toNat).drop (0:Int).toNat)).set U.toNat (⟨ao.Node,ao.Kind,ao.aE,ao.bV,true⟩:au),a0.aw,a0.Read,av,a8.bV)
            else none
           else none
          else
           some (a0.Rows,a0.Doc,true,([]:List au)++((a0.S.take (af (U+1)).toNat).drop (0:Int).toNat),a0.aw,a0.Read,av,a0.Doc)):Option ((List an)×Int×Bool×(List au)×Int×Int×a4×Int)).bind fun o=>match o with
          | (a9,ba,bb,aB,bc,bd,ah,bf)=>(eA F a0.R bf ae ah.ai ah.To).bind fun ax=>
          if aB.length+[(⟨ax.1,ae,ah.aE,0,false⟩:au)].length≤3518437208883 then
           some (ax.2,a9,ba,bb,aB++[(⟨ax.1,ae,ah.aE,0,false⟩:au)],bc,bd,ah)
          else none
        else
         some (a0.R,a0.Rows,a0.Doc,a0.aA,([]:List au)++((a0.S.take (af (U+1)).toNat).drop (0:Int).toNat),a0.aw,a0.Read,av)):Option (aL×(List an)×Int×Bool×(List au)×Int×Int×a4)).bind fun o=>match o with
        | (aC,aD,aF,aG,J,aH,aI,aj)=>if 0≤(af ((J.length:Int) - 1))∧(af ((J.length:Int) - 1))<(J.length:Int) then
         (J[(af ((J.length:Int) - 1)).toNat]?).bind fun I=>
         ((if aj.iA=true then
           ((J.set (af ((J.length:Int) - 1)).toNat (⟨I.Node,I.Kind,I.aE,I.bV,false⟩:au))[(af ((J.length:Int) - 1)).toNat]?).bind fun bg=>
           (eA F aC bg.Node 4 aj.ai aj.To).bind fun aJ=>
           ((J.set (af ((J.length:Int) - 1)).toNat (⟨I.Node,I.Kind,I.aE,I.bV,false⟩:au))[(af ((J.length:Int) - 1)).toNat]?).bind fun aq=>
           some (aJ.2,aD,aF,aG,(J.set (af ((J.length:Int) - 1)).toNat (⟨I.Node,I.Kind,I.aE,I.bV,false⟩:au)).set (af ((J.length:Int) - 1)).toNat (⟨aq.Node,aq.Kind,aq.aE,aJ.1,aq.Has⟩:au),aH,aI)
          else
           ((J.set (af ((J.length:Int) - 1)).toNat (⟨I.Node,I.Kind,I.aE,I.bV,false⟩:au))[(af ((J.length:Int) - 1)).toNat]?).bind fun bh=>
           (lS F aC bh.Node aj.ai aj.To).bind fun aK=>
           ((J.set (af ((J.length:Int) - 1)).toNat (⟨I.Node,I.Kind,I.aE,I.bV,false⟩:au))[(af ((J.length:Int) - 1)).toNat]?).bind fun ar=>
           some (aK.2,aD,aF,aG,(J.set (af ((J.length:Int) - 1)).toNat (⟨I.Node,I.Kind,I.aE,I.bV,false⟩:au)).set (af ((J.length:Int) - 1)).toNat (⟨ar.Node,ar.Kind,ar.aE,aK.1,ar.Has⟩:au),aH,aI)):Option (aL×(List an)×Int×Bool×(List au)×Int×Int)).bind fun o=>match o with
          | (bj,bk,bl,bm,bn,bo,bp)=>some (0,(⟨bj,bk,bl,bm,bn,bo,bp⟩:aV))
        else none
      else none
     else none
     | .inr y=>some y
    | .inr y=>some y
theorem yO (F:Nat) {h:AH} {Z:Zn} {a0:aV} {a1:a4} {I ab v4 v6 ao aF v11 aG J aL} (hP:Pre Z h [.ae I [Pt ab 0,v11,V a0.Doc, .bool a0.aA,J,V a0.aw,V a0.Read], .ae ab (ay v4 v6 ao a0.R), .gs ao aF (aa aj), .gs v11 aG (aa an), .gs J aL (aa au)]) (ca:RS (α:=al) Z v4 a0.R.L) (cb:RS (α:=aq) Z v6 a0.R.T.ak) (cc:RCs (α:=aj) Z aF a0.R.D) (bS:RCs (α:=an) Z aG a0.Rows) (az:RCs (α:=au) Z aL a0.S) {r:Int×aV} (hm:correctorref12_parser_place F a0 a1=some r):
  bQ Try.prog 72 [Pt I 0, .agg #[.bool a1.iA,V a1.aE,V a1.ai,V a1.To]] h Z [.ae I [Pt ab 0,v11,V a0.Doc, .bool a0.aA,J,V a0.aw,V a0.Read], .ae ab (ay v4 v6 ao a0.R), .gs ao aF (aa aj), .gs v11 aG (aa an), .gs J aL (aa au)] fun v Z' A'=>∃ ff fg fh fi fj fk,V r.1=v∧A'=[.ae I [Pt ab 0,v11,V r.2.Doc, .bool r.2.aA,fj,V r.2.aw,V r.2.Read], .ae ab (ay ff fg ao r.2.R), .gs ao fh (aa aj), .gs v11 fi (aa an), .gs fj fk (aa au)]∧RS (α:=al) Z' ff r.2.R.L∧RS (α:=aq) Z' fg r.2.R.T.ak∧RCs (α:=aj) Z' fh r.2.R.D∧RCs (α:=an) Z' fi r.2.Rows∧RCs (α:=au) Z' fk r.2.S:=by
 refine b6 Try.func72 hP ?_
 intro hs hS
 unfold correctorref12_parser_place at hm
 refine s0<|dK 0 [.bool a1.iA,V a1.aE,V a1.ai,V a1.To] hS ?_
 intro fl ji ea
 refine xn 1<|sp 1<|sq ?_
 obtain ⟨gL,dq,hm⟩:=ah hm
 refine aI [0,3,5] (fun l h=>∃ fm dr ds dx,(dr,ds)=gL∧l=[(0,Pt I 0),(3,Pt dx 0),(5,V ds)]∧St hs (aR [.ae I [Pt ab 0,v11,V a0.Doc, .bool a0.aA,J,V a0.aw,V a0.Read], .ae ab (ay v4 v6 ao a0.R), .gs ao aF (aa aj), .gs v11 aG (aa an), .gs J aL (aa au)]) Z (0,0) fm h [.ae I [Pt ab 0,v11,V a0.Doc, .bool a0.aA,J,V a0.aw,V a0.Read], .ae ab (ay v4 v6 ao a0.R), .gs ao aF (aa aj), .gs v11 aG (aa an), .gs J aL (aa au), .ae dx (eK dr)]) ?_ ?_
 rintro l jj ⟨fm,dr,ds,dx,rfl,rfl,dz⟩
 try dsimp only at hm
 refine s0<|aB 3 0 J dz rfl<|bD 0 J (dz.dn (i:=4) rfl (az.mono dz.ag))<|xn 2<|sq ?_
 obtain ⟨eb,bg,hm⟩:=ah hm
 refine aI [0,3,5,6] (fun l h=>∃ fo bT ad U aW,(bT,ad,U)=eb∧l=[(0,Pt I 0),(3,Pt aW 0),(5,V ad),(6,V U)]∧St hs (aR [.ae I [Pt ab 0,v11,V a0.Doc, .bool a0.aA,J,V a0.aw,V a0.Read], .ae ab (ay v4 v6 ao a0.R), .gs ao aF (aa aj), .gs v11 aG (aa an), .gs J aL (aa au)]) Z (0,0) fo h [.ae I [Pt ab 0,v11,V a0.Doc, .bool a0.aA,J,V a0.aw,V a0.Read], .ae ab (ay v4 v6 ao a0.R), .gs ao aF (aa aj), .gs v11 aG (aa an), .gs J aL (aa au), .ae aW (eK bT)]) ?_ ?_
 rintro l jk ⟨fo,bT,ad,U,aW,rfl,rfl,cl⟩
 try dsimp only at hm
 refine sp 1<|sq ?_
 obtain ⟨gM,ar,hm⟩:=ah hm
 refine aI [0,3,5,6,7] (fun l h=>∃ fp cS bn cI cT, .inl (cS,bn,cI)=gM∧l=[(0,Pt I 0),(3,Pt cT 0),(5,V ad),(6,V bn),(7, .bool cI)]∧St hs (aR [.ae I [Pt ab 0,v11,V a0.Doc, .bool a0.aA,J,V a0.aw,V a0.Read], .ae ab (ay v4 v6 ao a0.R), .gs ao aF (aa aj), .gs v11 aG (aa an), .gs J aL (aa au)]) Z (0,0) fp h [.ae I [Pt ab 0,v11,V a0.Doc, .bool a0.aA,J,V a0.aw,V a0.Read], .ae ab (ay v4 v6 ao a0.R), .gs ao aF (aa aj), .gs v11 aG (aa an), .gs J aL (aa au), .ae cT (eK cS)]) ?_ ?_
 rintro l jl ⟨fp,cS,bn,cI,cT,rfl,rfl,bU⟩
 try dsimp only at hm
 refine sq ?_
 obtain ⟨gN,cn,hm⟩:=ah hm
 refine aI [0,3,5,6,7] (fun l h=>∃ ec cJ bW, .inl cJ=gN∧l=[(0,Pt I 0),(3,Pt bW 0),(5,V ad),(6,V bn),(7, .bool cI)]∧St hs (aR [.ae I [Pt ab 0,v11,V a0.Doc, .bool a0.aA,J,V a0.aw,V a0.Read], .ae ab (ay v4 v6 ao a0.R), .gs ao aF (aa aj), .gs v11 aG (aa an), .gs J aL (aa au)]) Z (0,0) ec h [.ae I [Pt ab 0,v11,V a0.Doc, .bool a0.aA,J,V a0.aw,V a0.Read], .ae ab (ay v4 v6 ao a0.R), .gs ao aF (aa aj), .gs v11 aG (aa an), .gs J aL (aa au), .ae bW (eK cJ)]) ?_ ?_
 rintro l jm ⟨ec,cJ,bW,rfl,rfl,cd⟩
 try dsimp only at hm
 refine sr Cs<|xq 1 [(183,Pt I 0),(0,Pt I 0),(3,Pt bW 0),(5,V ad),(6,V bn),(7, .bool cI)] ?_
 have gO:RCs (α:=au) ec [] []:=RCs.bu _
 refine dP rfl trivial (c3 (cells:=[]) (s:=5) (by kernel_rfl)) (by kernel_rfl) cd ?_
 intro gP jn fq
 refine aB 3 1 J fq rfl<|xq 2 [(190,V (af (bn+1))),(188,J),(184,gP),(183,Pt I 0),(0,Pt I 0),(3,Pt bW 0),(5,V ad),(6,V bn),(7, .bool cI)] ?_
 obtain ⟨jo,cq,gQ,fr⟩:=(fq.front 5 rfl).freeze (az.mono cd.ag)
 obtain ⟨ed,hm⟩:=aJ hm
 refine kT rfl trivial (iW (a:=0) (b:=af (bn+1)) gQ rfl (by kernel_rfl:slTy _ _=some (aa au)) rfl ⟨_,rfl⟩ ed.1 ed.2.1 ed.2.2) ?_
 intro jq gR
 obtain ⟨jr,gS⟩:=RS.news gR (fr).inv
 obtain ⟨js,hm⟩:=aJ hm
 refine eY rfl trivial (dM (ys:=(a0.S.take (af (bn+1)).toNat).drop (0:Int).toNat) (bP:=40) fr (i:=0) rfl (gO.mono cq) gS rfl rfl (by kernel_rfl) (by omega) (by omega)) ?_
 rintro bK fs jt ⟨cr,ee⟩
 refine bG 2 1 bK [bK] [Pt ab 0,v11,V a0.Doc, .bool a0.aA,bK,V a0.aw,V a0.Read] ee rfl (ee.fE (i:=0) rfl) (br (ee.fF (i:=0) rfl) cm) ?_
 intro ju bL
 refine xn 0<|sq ?_
 obtain ⟨gT,bI,hm⟩:=ah hm
 refine aI [0,3] (fun l h=>∃ ct cf cX bX bY aH bZ b0 bc c0 c4 c6 b1 av eg aM,(cf,cX,bX,bY,aH,bZ,b0,bc)=gT∧RS (α:=al) ct c0 cf.L∧RS (α:=aq) ct c4 cf.T.ak∧RCs (α:=aj) ct c6 cf.D∧RCs (α:=an) ct b1 cX∧RCs (α:=au) ct eg aH∧l=[(0,Pt I 0),(3,Pt aM 0)]∧St hs (aR [.ae I [Pt ab 0,v11,V a0.Doc, .bool a0.aA,J,V a0.aw,V a0.Read], .ae ab (ay v4 v6 ao a0.R), .gs ao aF (aa aj), .gs v11 aG (aa an), .gs J aL (aa au)]) Z (0,0) ct h [.ae I [Pt ab 0,v11,V bX, .bool bY,av,V bZ,V b0], .ae ab (ay c0 c4 ao cf), .gs ao c6 (aa aj), .gs v11 b1 (aa an), .gs av eg (aa au), .ae aM (eK bc)]) ?_ ?_
 rintro l jv ⟨ct,cf,cX,bX,bY,aH,bZ,b0,bc,c0,c4,c6,b1,av,eg,aM,rfl,ft,fu,fv,fw,dA,rfl,gU⟩
 try dsimp only at hm
 refine cU yL gU ?_
 intro fx jw fy cu
 refine yq 3 [(246,Pt I 4),(0,Pt I 0),(3,Pt aM 0)] ?_
 have jx:I<fx:=fy.1 _ (List.mem_of_getElem? (i:=0) rfl) _ (by simp [Itm.ids])
 refine aX (v:=av) rfl trivial rfl (by show I<_;omega) (aC (v:=av) (cu.di (i:=4) rfl)) (cu.aS (i:=0) rfl (by kernel_rfl)) trivial<|yq 3 [(250,Pt I 4),(247,av),(0,Pt I 0),(3,Pt aM 0)] ?_
 have jy:I<fx:=fy.1 _ (List.mem_of_getElem? (i:=0) rfl) _ (by simp [Itm.ids])
 refine aX (v:=av) rfl trivial rfl (by show I<_;omega) (aC (v:=av) (cu.di (i:=4) rfl)) (cu.aS (i:=0) rfl (by kernel_rfl)) trivial<|aD rfl trivial (gG rfl (cu.dn (i:=4) rfl dA) ⟨_,Try.underlying59⟩)<|yq 1 [(253,V (af ((aH.length:Int) - 1))),(247,av),(0,Pt I 0),(3,Pt aM 0)] ?_
 obtain ⟨fz,hm⟩:=aJ hm
 refine aD rfl trivial (bA rfl rfl (by kernel_rfl:slTy _ _=some (aa au)) (cu.bN (j:=4) rfl dA (by omega)) fz.1 fz.2)<|ye 1 [(9, .pointer (some (ba av (af ((aH.length:Int) - 1)) (aa au) 0))),(0,Pt I 0),(3,Pt aM 0)] ?_
 have fA:=cu.aY
 refine sr yV<|xq 3 [(257, .pointer (some (ba av (af ((aH.length:Int) - 1)) (aa au) 4))),(9, .pointer (some (ba av (af ((aH.length:Int) - 1)) (aa au) 0))),(0,Pt I 0),(3,Pt aM 0)] ?_
 obtain ⟨bl,fB,hm⟩:=ah hm
 obtain ⟨jz,gV,jA,gW⟩:=fA.cp (j:=4) rfl dA (i:=af ((aH.length:Int) - 1)) fB
 obtain rfl:=et gV
 refine jC rfl trivial (gi (u':=(⟨bl.Node,bl.Kind,bl.aE,bl.bV,false⟩:au)) (vs:=[.bool false]) (aZ:=[V bl.Node,V bl.Kind,V bl.aE,V bl.bV, .bool false]) fA (m:=4) rfl dA fB gW rfl rfl rfl (by kernel_rfl) rfl rfl rfl rfl) ?_
 rintro jB dB ⟨cg,ei⟩
 refine xn 0<|sq<|s0<|aB 1 5 (.bool bc.iA) ei rfl<|xn 0 ?_
 obtain ⟨gX,bm,hm⟩:=ah hm
 refine aI [] (fun l h=>∃ cv cK ej ek en eo ep er dC dD dG dH dI dJ,(cK,ej,ek,en,eo,ep,er)=gX∧RS (α:=al) cv dC cK.L∧RS (α:=aq) cv dD cK.T.ak∧RCs (α:=aj) cv dG cK.D∧RCs (α:=an) cv dH ej∧RCs (α:=au) cv dJ eo∧l=[]∧St hs (aR [.ae I [Pt ab 0,v11,V a0.Doc, .bool a0.aA,J,V a0.aw,V a0.Read], .ae ab (ay v4 v6 ao a0.R), .gs ao aF (aa aj), .gs v11 aG (aa an), .gs J aL (aa au)]) Z (0,0) cv h [.ae I [Pt ab 0,v11,V ek, .bool en,dI,V ep,V er], .ae ab (ay dC dD ao cK), .gs ao dG (aa aj), .gs v11 dH (aa an), .gs dI dJ (aa au)]) ?_ ?_
 rintro l jF ⟨cv,cK,ej,ek,en,eo,ep,er,dC,dD,dG,dH,dI,dJ,rfl,gY,gZ,g1,g2,g4,rfl,g5⟩
 try dsimp only at hm
 refine sp 1<|rt<|⟨rfl,?_⟩
 obtain rfl:=si hm
 refine ⟨_,_,_,tk (V 0) (ResL.nil),g5,?_⟩
 exact ⟨dC,dD,dG,dH,dI,dJ,rfl,rfl,gY,gZ,g1,g2,g4⟩
 refine db bm ?_ ?_<;>intro jH bm
 refine ey BW ei ?_
 intro dL jI dN cL
 refine yq 4 [(263,Pt I 0),(260, .pointer (some (ba av (af ((aH.length:Int) - 1)) (aa au) 0))),(9, .pointer (some (ba av (af ((aH.length:Int) - 1)) (aa au) 0))),(3,Pt aM 0)] ?_
 have jJ:I<dL:=dN.1 _ (List.mem_of_getElem? (i:=0) rfl) _ (by simp [Itm.ids])
 refine aX (v:=Pt ab 0) rfl trivial rfl (by show I<_;omega) (aC (v:=Pt ab 0) trivial) (cL.aS (i:=0) rfl (by kernel_rfl)) trivial<|yq 3 [(267, .pointer (some (ba av (af ((aH.length:Int) - 1)) (aa au) 0))),(264,Pt ab 0),(260, .pointer (some (ba av (af ((aH.length:Int) - 1)) (aa au) 0))),(3,Pt aM 0)] ?_
 obtain ⟨dO,fC,bm⟩:=ah bm
 obtain ⟨jK,g6,g7,jL⟩:=cL.cp (j:=4) rfl cg (i:=af ((aH.length:Int) - 1)) fC
 obtain rfl:=et g6
 have g8:=dw fC
 have fD:=cL.bN (j:=4) rfl cg g8
 have jM:(baseOf av).block<dL:=dk (dN.1 _ (List.mem_of_getElem? (i:=4) rfl)) fD
 refine dt rfl trivial rfl (by show (baseOf av).block<_;omega) (aC (v:=V dO.Node) trivial) (bH (w:=V dO.Node) g7 rfl (by kernel_rfl)) trivial<|yq 1 [(269,Pt aM 2),(268,V dO.Node),(264,Pt ab 0),(260, .pointer (some (ba av (af ((aH.length:Int) - 1)) (aa au) 0))),(3,Pt aM 0)] ?_
 have jN:aM<dL:=dN.1 _ (List.mem_of_getElem? (i:=5) rfl) _ (by simp [Itm.ids])
 refine aX (v:=V bc.ai) rfl trivial rfl (by show aM<_;omega) (aC (v:=V bc.ai) trivial) (cL.aS (i:=5) rfl (by kernel_rfl)) trivial<|yq 1 [(271,Pt aM 3),(270,V bc.ai),(268,V dO.Node),(264,Pt ab 0),(260, .pointer (some (ba av (af ((aH.length:Int) - 1)) (aa au) 0)))] ?_
 have jO:aM<dL:=dN.1 _ (List.mem_of_getElem? (i:=5) rfl) _ (by simp [Itm.ids])
 refine aX (v:=V bc.To) rfl trivial rfl (by show aM<_;omega) (aC (v:=V bc.To) trivial) (cL.aS (i:=5) rfl (by kernel_rfl)) trivial ?_
 obtain ⟨cw,g9,bm⟩:=ah bm
 have cN:St _ _ _ _ _ _ ([.ae ab (ay c0 c4 ao cf), .gs ao c6 (aa aj)]++[.ae I [Pt ab 0,v11,V bX, .bool bY,av,V bZ,V b0], .gs v11 b1 (aa an), .gs av dB (aa au), .ae aM (eK bc)]):=((cL.front 2 rfl).front 2 rfl)
 obtain ⟨jP,jQ,jR,jS,ha,fG,fH,fI,fJ,rfl,rfl,hb,hc,hf⟩:=fY F cN.cM.eF ft fu fv g9
 have c7:=fG.ag
 refine fK rfl trivial cN (dy ha rfl rfl rfl) fG c7 (.a5 (cN.bJ 3 rfl bO) (.a5 (cN.bJ 3 rfl bO) (.a5 (cN.bJ 2 rfl (kZ fD)) (.a5 (cN.bJ 0 rfl bO) .nil)))) ?_
 intro jT fL
 refine yq 2 [(275, .pointer (some (ba av (af ((aH.length:Int) - 1)) (aa au) 3))),(273,V cw.1)] ?_
 obtain ⟨bB,fM,bm⟩:=ah bm
 obtain ⟨jU,hg,jV,hh⟩:=fL.cp (j:=4) rfl (cg.mono c7) (i:=af ((aH.length:Int) - 1)) fM
 obtain rfl:=et hg
 have c8:St _ _ _ _ _ _ ([.gs av dB (aa au)]++[.ae ab (ay fH fI ao cw.2), .gs ao fJ (aa aj), .ae I [Pt ab 0,v11,V bX, .bool bY,av,V bZ,V b0], .gs v11 b1 (aa an), .ae aM (eK bc)]):=(fL.front 4 rfl)
 refine nN rfl trivial c8 (gi (u':=(⟨bB.Node,bB.Kind,bB.aE,cw.1,bB.Has⟩:au)) (vs:=[V cw.1]) (aZ:=[V bB.Node,V bB.Kind,V bB.aE,V cw.1, .bool bB.Has]) c8.sub (m:=0) rfl (cg.mono c7) fM hh rfl rfl rfl (by kernel_rfl) rfl rfl rfl rfl) c7 (.a5 (c8.bJ 4 rfl bO) (.a5 (c8.bJ 4 rfl bO) (.drop (by decide) (.a5 (c8.bJ 2 rfl bO) .nil)))) ?_
 rintro jW hi ⟨hj,hk⟩
 refine yf [] ?_
 have hl:=hk.aY
 obtain rfl:=si bm
 exact ⟨_,cw.2,cX,bX,bY,(aH.set (af ((aH.length:Int) - 1)).toNat (⟨bl.Node,bl.Kind,bl.aE,bl.bV,false⟩:au)).set (af ((aH.length:Int) - 1)).toNat (⟨bB.Node,bB.Kind,bB.aE,cw.1,bB.Has⟩:au),bZ,b0,fH,fI,fJ,b1,av,hi,rfl,hb,hc,hf,(fw.mono c7),hj,(by kernel_rfl),((((((hl.front 0 rfl).front 4 rfl).front 3 rfl).front 3 rfl).front 4 rfl).takeN 5)⟩
 refine ey xJ ei ?_
 intro dQ jX dR cO
 refine yq 4 [(279,Pt I 0),(276, .pointer (some (ba av (af ((aH.length:Int) - 1)) (aa au) 0))),(9, .pointer (some (ba av (af ((aH.length:Int) - 1)) (aa au) 0))),(3,Pt aM 0)] ?_
 have jY:I<dQ:=dR.1 _ (List.mem_of_getElem? (i:=0) rfl) _ (by simp [Itm.ids])
 refine aX (v:=Pt ab 0) rfl trivial rfl (by show I<_;omega) (aC (v:=Pt ab 0) trivial) (cO.aS (i:=0) rfl (by kernel_rfl)) trivial<|yq 3 [(283, .pointer (some (ba av (af ((aH.length:Int) - 1)) (aa au) 0))),(280,Pt ab 0),(276, .pointer (some (ba av (af ((aH.length:Int) - 1)) (aa au) 0))),(3,Pt aM 0)] ?_
 obtain ⟨dS,fN,bm⟩:=ah bm
 obtain ⟨jZ,hn,ho,j0⟩:=cO.cp (j:=4) rfl cg (i:=af ((aH.length:Int) - 1)) fN
 obtain rfl:=et hn
 have hp:=dw fN
 have fO:=cO.bN (j:=4) rfl cg hp
 have j1:(baseOf av).block<dQ:=dk (dR.1 _ (List.mem_of_getElem? (i:=4) rfl)) fO
 refine dt rfl trivial rfl (by show (baseOf av).block<_;omega) (aC (v:=V dS.Node) trivial) (bH (w:=V dS.Node) ho rfl (by kernel_rfl)) trivial<|yq 1 [(285,Pt aM 2),(284,V dS.Node),(280,Pt ab 0),(276, .pointer (some (ba av (af ((aH.length:Int) - 1)) (aa au) 0))),(3,Pt aM 0)] ?_
 have j2:aM<dQ:=dR.1 _ (List.mem_of_getElem? (i:=5) rfl) _ (by simp [Itm.ids])
 refine aX (v:=V bc.ai) rfl trivial rfl (by show aM<_;omega) (aC (v:=V bc.ai) trivial) (cO.aS (i:=5) rfl (by kernel_rfl)) trivial<|yq 1 [(287,Pt aM 3),(286,V bc.ai),(284,V dS.Node),(280,Pt ab 0),(276, .pointer (some (ba av (af ((aH.length:Int) - 1)) (aa au) 0)))] ?_
 have j3:aM<dQ:=dR.1 _ (List.mem_of_getElem? (i:=5) rfl) _ (by simp [Itm.ids])
 refine aX (v:=V bc.To) rfl trivial rfl (by show aM<_;omega) (aC (v:=V bc.To) trivial) (cO.aS (i:=5) rfl (by kernel_rfl)) trivial ?_
 obtain ⟨cx,hq,bm⟩:=ah bm
 have cP:St _ _ _ _ _ _ ([.ae ab (ay c0 c4 ao cf), .gs ao c6 (aa aj)]++[.ae I [Pt ab 0,v11,V bX, .bool bY,av,V bZ,V b0], .gs v11 b1 (aa an), .gs av dB (aa au), .ae aM (eK bc)]):=((cO.front 2 rfl).front 2 rfl)
 obtain ⟨j4,j5,j6,j7,hr,fP,fQ,fS,fT,rfl,rfl,ht,hv,hx⟩:=sK F cP.cM.eF ft fu fv hq
 have c9:=fP.ag
 refine fK rfl trivial cP (dy hr rfl rfl rfl) fP c9 (.a5 (cP.bJ 3 rfl bO) (.a5 (cP.bJ 3 rfl bO) (.a5 (cP.bJ 2 rfl (kZ fO)) (.a5 (cP.bJ 0 rfl bO) .nil)))) ?_
 intro j8 fU
 refine yq 2 [(291, .pointer (some (ba av (af ((aH.length:Int) - 1)) (aa au) 3))),(289,V cx.1)] ?_
 obtain ⟨bC,fV,bm⟩:=ah bm
 obtain ⟨j9,hy,ka,hz⟩:=fU.cp (j:=4) rfl (cg.mono c9) (i:=af ((aH.length:Int) - 1)) fV
 obtain rfl:=et hy
 have da:St _ _ _ _ _ _ ([.gs av dB (aa au)]++[.ae ab (ay fQ fS ao cx.2), .gs ao fT (aa aj), .ae I [Pt ab 0,v11,V bX, .bool bY,av,V bZ,V b0], .gs v11 b1 (aa an), .ae aM (eK bc)]):=(fU.front 4 rfl)
 refine nN rfl trivial da (gi (u':=(⟨bC.Node,bC.Kind,bC.aE,cx.1,bC.Has⟩:au)) (vs:=[V cx.1]) (aZ:=[V bC.Node,V bC.Kind,V bC.aE,V cx.1, .bool bC.Has]) da.sub (m:=0) rfl (cg.mono c9) fV hz rfl rfl rfl (by kernel_rfl) rfl rfl rfl rfl) c9 (.a5 (da.bJ 4 rfl bO) (.a5 (da.bJ 4 rfl bO) (.drop (by decide) (.a5 (da.bJ 2 rfl bO) .nil)))) ?_
 rintro kc hA ⟨hB,hC⟩
 refine yf [] ?_
 have hD:=hC.aY
 obtain rfl:=si bm
 exact ⟨_,cx.2,cX,bX,bY,(aH.set (af ((aH.length:Int) - 1)).toNat (⟨bl.Node,bl.Kind,bl.aE,bl.bV,false⟩:au)).set (af ((aH.length:Int) - 1)).toNat (⟨bC.Node,bC.Kind,bC.aE,cx.1,bC.Has⟩:au),bZ,b0,fQ,fS,fT,b1,av,hA,rfl,ht,hv,hx,(fw.mono c9),hB,(by kernel_rfl),((((((hD.front 0 rfl).front 4 rfl).front 3 rfl).front 3 rfl).front 4 rfl).takeN 5)⟩
 refine sp 1<|db bI ?_ ?_<;>intro ke bI
 refine s0<|aB 3 1 (V a0.Doc) bL rfl<|xn 1<|sq ?_
 obtain ⟨hE,bE,bI⟩:=ah bI
 refine aI [0,3,5,8] (fun l h=>∃ dU dV b2 b3 dW b4 b5 a2 cz cA bo dc aU,(dV,b2,b3,dW,b4,b5,a2,cz)=hE∧RCs (α:=an) dU cA dV∧RCs (α:=au) dU dc dW∧l=[(0,Pt I 0),(3,Pt aU 0),(5,V ad),(8,V cz)]∧St hs (aR [.ae I [Pt ab 0,v11,V a0.Doc, .bool a0.aA,J,V a0.aw,V a0.Read], .ae ab (ay v4 v6 ao a0.R), .gs ao aF (aa aj), .gs v11 aG (aa an), .gs J aL (aa au)]) Z (0,0) dU h [.ae ab (ay v4 v6 ao a0.R), .gs ao aF (aa aj), .ae I [Pt ab 0,v11,V b2, .bool b3,bo,V b4,V b5], .gs v11 cA (aa an), .gs bo dc (aa au), .ae aU (eK a2)]) ?_ ?_
 rintro l kf ⟨dU,dV,b2,b3,dW,b4,b5,a2,cz,cA,bo,dc,aU,rfl,hF,hG,rfl,dX⟩
 try dsimp only at bI
 refine ey Bm dX ?_
 intro dd kg de cQ
 refine yq 4 [(223,Pt I 4),(220,Pt I 0),(0,Pt I 0),(3,Pt aU 0),(5,V ad),(8,V cz)] ?_
 have kh:I<dd:=de.1 _ (List.mem_of_getElem? (i:=2) rfl) _ (by simp [Itm.ids])
 refine aX (v:=bo) rfl trivial rfl (by show I<_;omega) (aC (v:=bo) (cQ.di (i:=4) rfl)) (cQ.aS (i:=2) rfl (by kernel_rfl)) trivial<|yq 3 [(227,Pt I 0),(224,bo),(220,Pt I 0),(0,Pt I 0),(3,Pt aU 0),(5,V ad),(8,V cz)] ?_
 have ki:I<dd:=de.1 _ (List.mem_of_getElem? (i:=2) rfl) _ (by simp [Itm.ids])
 refine aX (v:=Pt ab 0) rfl trivial rfl (by show I<_;omega) (aC (v:=Pt ab 0) trivial) (cQ.aS (i:=2) rfl (by kernel_rfl)) trivial<|yq 3 [(231,Pt aU 2),(230,V ad),(229,V cz),(228,Pt ab 0),(224,bo),(220,Pt I 0),(0,Pt I 0),(3,Pt aU 0),(5,V ad)] ?_
 have kj:aU<dd:=de.1 _ (List.mem_of_getElem? (i:=5) rfl) _ (by simp [Itm.ids])
 refine aX (v:=V a2.ai) rfl trivial rfl (by show aU<_;omega) (aC (v:=V a2.ai) trivial) (cQ.aS (i:=5) rfl (by kernel_rfl)) trivial<|yq 1 [(233,Pt aU 3),(232,V a2.ai),(230,V ad),(229,V cz),(228,Pt ab 0),(224,bo),(220,Pt I 0),(0,Pt I 0),(3,Pt aU 0),(5,V ad)] ?_
 have kk:aU<dd:=de.1 _ (List.mem_of_getElem? (i:=5) rfl) _ (by simp [Itm.ids])
 refine aX (v:=V a2.To) rfl trivial rfl (by show aU<_;omega) (aC (v:=V a2.To) trivial) (cQ.aS (i:=5) rfl (by kernel_rfl)) trivial ?_
 obtain ⟨bw,hH,bI⟩:=ah bI
 have cB:St _ _ _ _ _ _ ([.ae ab (ay v4 v6 ao a0.R), .gs ao aF (aa aj)]++[.ae I [Pt ab 0,v11,V b2, .bool b3,bo,V b4,V b5], .gs v11 cA (aa an), .gs bo dc (aa au), .ae aU (eK a2)]):=((cQ.front 1 rfl).front 1 rfl)
 obtain ⟨kl,km,hI,kn,hJ,fW,eu,ew,ez,rfl,rfl,hK,hL,hM⟩:=fY F cB.cM.eF (ca.mono dX.ag) (cb.mono dX.ag) (cc.mono dX.ag) hH
 have df:=fW.ag
 refine fK rfl trivial cB (dy hJ rfl rfl rfl) fW df (.a5 (cB.bJ 3 rfl bO) (.a5 (cB.bJ 3 rfl bO) (.a5 (cB.bJ 0 rfl bO) (.a5 (cB.bJ 0 rfl bO) .nil)))) ?_
 intro ko fX
 refine yq 2 [(237,Pt aU 1),(236,V ad),(235,V bw.1),(224,bo),(220,Pt I 0),(0,Pt I 0),(3,Pt aU 0)] ?_
 have kp:aU<dd:=de.1 _ (List.mem_of_getElem? (i:=5) rfl) _ (by simp [Itm.ids])
 refine aX (v:=V a2.aE) rfl trivial rfl (by show aU<_;omega) (aC (v:=V a2.aE) trivial) (fX.aS (i:=5) rfl (by kernel_rfl)) (.inl ⟨⟨by show aU<_;omega,cB.bJ 3 rfl bO⟩,trivial⟩)<|yq 1 [(239, .agg #[V bw.1,V ad,V a2.aE,V 0, .bool false]),(224,bo),(220,Pt I 0),(0,Pt I 0),(3,Pt aU 0)] ?_
 have hN:RCs (α:=au) hI [V bw.1,V ad,V a2.aE,V 0, .bool false] [(⟨bw.1,ad,a2.aE,0,false⟩:au)]:=RCs.cons (cs:=[V bw.1,V ad,V a2.aE,V 0, .bool false]) rfl (RCs.bu _)
 refine jE rfl trivial (c3 (cells:=[V bw.1,V ad,V a2.aE,V 0, .bool false]) (s:=5) (by kernel_rfl)) (by kernel_rfl) fX (by omega) (Nat.add_lt_add_left (by decide) _) ?_
 intro fZ kq kr ks kt ga
 obtain ⟨ku,bI⟩:=aJ bI
 have cD:St _ _ _ _ _ _ ([.gs bo dc (aa au)]++[.gs fZ [V bw.1,V ad,V a2.aE,V 0, .bool false] (aa au), .ae ab (ay eu ew ao bw.2), .gs ao ez (aa aj), .ae I [Pt ab 0,v11,V b2, .bool b3,bo,V b4,V b5], .gs v11 cA (aa an), .ae aU (eK a2)]):=(ga.front 5 rfl)
 refine iK rfl trivial cD (dM (ys:=[(⟨bw.1,ad,a2.aE,0,false⟩:au)]) (bP:=40) cD.sub (i:=0) rfl (hG.mono df) ((ga.cM).eI (j:=0) rfl hN) rfl rfl (by kernel_rfl) (by omega) (by omega)) df (.a5 (cD.bJ 5 rfl bO) (.a5 (cD.bJ 5 rfl bO) (.a5 (cD.bJ 5 rfl bO) (.a5 (cD.bJ 3 rfl bO) (.a5 (cD.bJ 3 rfl bO) .nil))))) ?_
 rintro cR gb kv ⟨hO,eA⟩
 refine yq 2 [(243,Pt I 4),(241,cR),(0,Pt I 0),(3,Pt aU 0)] ?_
 have dg:St _ _ _ _ _ _ ([.ae I [Pt ab 0,v11,V b2, .bool b3,bo,V b4,V b5]]++[.gs cR gb (aa au), .gs fZ [V bw.1,V ad,V a2.aE,V 0, .bool false] (aa au), .ae ab (ay eu ew ao bw.2), .gs ao ez (aa aj), .gs v11 cA (aa an), .ae aU (eK a2)]):=(eA.front 4 rfl)
 refine g3 rfl trivial dg (gK (vs:=[cR]) (cF:=[Pt ab 0,v11,V b2, .bool b3,cR,V b4,V b5]) (L':=[.ae I [Pt ab 0,v11,V b2, .bool b3,cR,V b4,V b5]]) dg.sub (i:=0) rfl rfl rfl (eA.fE (i:=0) rfl) (by kernel_rfl) (br (eA.fF (i:=0) rfl) cm) rfl rfl rfl) df (.a5 (dg.bJ 5 rfl bO) (.a5 (dg.bJ 5 rfl bO) (.a5 (dg.bJ 5 rfl bO) (.drop (by decide) (.drop (by decide) .nil))))) ?_
 intro kx hQ
 refine yf [(0,Pt I 0),(3,Pt aU 0)] ?_
 have hR:=hQ.aY
 obtain rfl:=si bI
 exact ⟨_,bw.2,dV,b2,b3,dW++[(⟨bw.1,ad,a2.aE,0,false⟩:au)],b4,b5,a2,eu,ew,ez,cA,cR,gb,aU,rfl,hK,hL,hM,(hF.mono df),hO,(by kernel_rfl),(((((((hR.front 6 rfl).front 2 rfl).front 6 rfl).front 6 rfl).front 6 rfl).front 5 rfl).takeN 6)⟩
 refine s0<|cC 1 bE ?_ ?_<;>intro ky bE
 refine xn 0<|dT<|s0<|aB 3 1 bK bL rfl<|dv 1 0 bE bL cr rfl ?_
 intro kz bE
 refine eh 1 3 0 (fun dY=>V dY.bV) bE bL cr rfl ?_
 intro dY kA bE
 refine xn 1<|rg xC<|aB 3 1 bK bL rfl<|dv 1 0 bE bL cr rfl ?_
 intro kB bE
 refine xq 1 [(216, .pointer (some (ba bK bn (aa au) 4))),(8,V dY.bV),(0,Pt I 0),(3,Pt bW 0),(5,V ad)] ?_
 obtain ⟨bF,gd,bE⟩:=ah bE
 obtain ⟨kC,hT,kD,hU⟩:=bL.cp (j:=0) rfl cr (i:=bn) gd
 obtain rfl:=et hT
 refine jC rfl trivial (gi (u':=(⟨bF.Node,bF.Kind,bF.aE,bF.bV,true⟩:au)) (vs:=[.bool true]) (aZ:=[V bF.Node,V bF.Kind,V bF.aE,V bF.bV, .bool true]) bL (m:=0) rfl cr gd hU rfl rfl rfl (by kernel_rfl) rfl rfl rfl rfl) ?_
 rintro kE hV ⟨hW,hX⟩
 refine xn 0 ?_
 obtain rfl:=si bE
 exact ⟨_,a0.Rows,a0.Doc,a0.aA,(([]:List au)++((a0.S.take (af (bn+1)).toNat).drop (0:Int).toNat)).set bn.toNat (⟨bF.Node,bF.Kind,bF.aE,bF.bV,true⟩:au),a0.aw,a0.Read,cJ,dY.bV,aG,bK,hV,bW,rfl,(bS.mono (cd.ag.trans cq)),hW,(by kernel_rfl),((((((hX.front 5 rfl).front 1 rfl).front 5 rfl).front 3 rfl).front 5 rfl).front 5 rfl)⟩
 refine xn 0<|dF<|g0<|bG 3 1 (.bool true) [.bool true] [Pt ab 0,v11,V a0.Doc, .bool true,bK,V a0.aw,V a0.Read] bL rfl rfl rfl ?_
 intro kF hY
 refine xn 0 ?_
 obtain rfl:=si bE
 exact ⟨_,a0.Rows,a0.Doc,true,([]:List au)++((a0.S.take (af (bn+1)).toNat).drop (0:Int).toNat),a0.aw,a0.Read,cJ,a0.Doc,aG,bK,fs,bW,rfl,(bS.mono (cd.ag.trans cq)),cr,(by kernel_rfl),((((((hY.front 5 rfl).front 1 rfl).front 5 rfl).front 3 rfl).front 5 rfl).front 5 rfl)⟩
 refine sk ?_
 obtain rfl:=si bI
 exact ⟨_,a0.R,a0.Rows,a0.Doc,a0.aA,([]:List au)++((a0.S.take (af (bn+1)).toNat).drop (0:Int).toNat),a0.aw,a0.Read,cJ,v4,v6,aF,aG,bK,fs,bW,rfl,(ca.mono (cd.ag.trans cq)),(cb.mono (cd.ag.trans cq)),(cc.mono (cd.ag.trans cq)),(bS.mono (cd.ag.trans cq)),cr,(by kernel_rfl),((((((bL.front 5 rfl).front 1 rfl).front 5 rfl).front 5 rfl).front 5 rfl).front 5 rfl)⟩
 refine s0<|kb 2 174 cn ?_ ?_<;>intro kG cn
 refine aB 5 0 (V a0.aw) bU rfl<|cH 0 cn ?_ ?_<;>intro kH cn
 refine xn 1<|dT<|sp 1<|rt<|⟨rfl,?_⟩
 obtain rfl:=si cn
 obtain rfl:=si hm
 refine ⟨_,_,_,tk (V 10) (ResL.nil),(bU.takeN 5),?_⟩
 exact ⟨v4,v6,aF,aG,J,aL,rfl,rfl,(ca.mono bU.ag),(cb.mono bU.ag),(cc.mono bU.ag),(bS.mono bU.ag),(az.mono bU.ag)⟩
 refine xn 1<|dF<|sk ?_
 obtain rfl:=si cn
 exact ⟨_,cS,cT,rfl,(by kernel_rfl),bU⟩
 refine xn 8<|dF<|sk ?_
 obtain rfl:=si cn
 exact ⟨_,cS,cT,rfl,(by kernel_rfl),bU⟩
 refine bk 2<|sq ?_
 obtain ⟨hZ,a8,ar⟩:=ah ar
 refine aI [0,3,5,6,7,35] (fun l h=>∃ gf bM eB bb,(bM,eB)=hZ∧l=[(0,Pt I 0),(3,Pt bb 0),(5,V ad),(6,V U),(7, .bool true),(35, .bool eB)]∧St hs (aR [.ae I [Pt ab 0,v11,V a0.Doc, .bool a0.aA,J,V a0.aw,V a0.Read], .ae ab (ay v4 v6 ao a0.R), .gs ao aF (aa aj), .gs v11 aG (aa an), .gs J aL (aa au)]) Z (0,0) gf h [.ae I [Pt ab 0,v11,V a0.Doc, .bool a0.aA,J,V a0.aw,V a0.Read], .ae ab (ay v4 v6 ao a0.R), .gs ao aF (aa aj), .gs v11 aG (aa an), .gs J aL (aa au), .ae bb (eK bM)]) ?_ ?_
 rintro l kI ⟨gf,bM,eB,bb,rfl,rfl,dh⟩
 try dsimp only at ar
 refine db ar ?_ ?_<;>intro kJ ar
 refine gp 1 ?_
 obtain rfl:=si ar
 exact ⟨_,bM,U,false,bb,rfl,(by kernel_rfl),dh⟩
 refine sq ?_
 obtain ⟨h2,bh,ar⟩:=ah ar
 refine aI [0,3,5,6,7,63] (fun l h=>∃ gg bx eC aK,(bx,eC)=h2∧l=[(0,Pt I 0),(3,Pt aK 0),(5,V ad),(6,V U),(7, .bool true),(63, .bool eC)]∧St hs (aR [.ae I [Pt ab 0,v11,V a0.Doc, .bool a0.aA,J,V a0.aw,V a0.Read], .ae ab (ay v4 v6 ao a0.R), .gs ao aF (aa aj), .gs v11 aG (aa an), .gs J aL (aa au)]) Z (0,0) gg h [.ae I [Pt ab 0,v11,V a0.Doc, .bool a0.aA,J,V a0.aw,V a0.Read], .ae ab (ay v4 v6 ao a0.R), .gs ao aF (aa aj), .gs v11 aG (aa an), .gs J aL (aa au), .ae aK (eK bx)]) ?_ ?_
 rintro l kK ⟨gg,bx,eC,aK,rfl,rfl,a6⟩
 try dsimp only at ar
 refine db ar ?_ ?_<;>intro kL ar
 refine s0<|aB 3 0 J a6 rfl<|dv 1 4 ar a6 (az.mono a6.ag) rfl ?_
 intro kM ar
 refine eh 1 4 4 (fun gh=> .bool gh.Has) ar a6 (az.mono a6.ag) rfl ?_
 intro gh kN ar
 refine xn 0<|db ar ?_ ?_<;>intro kO ar
 refine sp 1<|rt<|a3<|⟨rfl,?_⟩
 obtain rfl:=si ar
 obtain rfl:=si hm
 refine ⟨_,_,_,tk (V 5) (ResL.nil),(a6.takeN 5),?_⟩
 exact ⟨v4,v6,aF,aG,J,aL,rfl,rfl,(ca.mono a6.ag),(cb.mono a6.ag),(cc.mono a6.ag),(bS.mono a6.ag),(az.mono a6.ag)⟩
 refine sk ?_
 obtain rfl:=si ar
 exact ⟨_,bx,U,true,aK,rfl,(by kernel_rfl),a6⟩
 refine sq ?_
 obtain ⟨h3,aQ,ar⟩:=ah ar
 refine aI [0,3,5,6,7,91] (fun l h=>∃ gj b7 eD bd,(b7,eD)=h3∧l=[(0,Pt I 0),(3,Pt bd 0),(5,V ad),(6,V U),(7, .bool true),(91, .bool eD)]∧St hs (aR [.ae I [Pt ab 0,v11,V a0.Doc, .bool a0.aA,J,V a0.aw,V a0.Read], .ae ab (ay v4 v6 ao a0.R), .gs ao aF (aa aj), .gs v11 aG (aa an), .gs J aL (aa au)]) Z (0,0) gj h [.ae I [Pt ab 0,v11,V a0.Doc, .bool a0.aA,J,V a0.aw,V a0.Read], .ae ab (ay v4 v6 ao a0.R), .gs ao aF (aa aj), .gs v11 aG (aa an), .gs J aL (aa au), .ae bd (eK b7)]) ?_ ?_
 rintro l kP ⟨gj,b7,eD,bd,rfl,rfl,dj⟩
 try dsimp only at ar
 refine db ar ?_ ?_<;>intro kQ ar
 refine sp 3<|gp 1 ?_
 obtain rfl:=si ar
 exact ⟨_,b7,af (U - 1),false,bd,rfl,(by kernel_rfl),dj⟩
 refine sq ?_
 obtain ⟨h4,bz,ar⟩:=ah ar
 refine aI [0,3,5,6,7,135] (fun l h=>∃ gk cE eE cG,(cE,eE)=h4∧l=[(0,Pt I 0),(3,Pt cG 0),(5,V ad),(6,V U),(7, .bool true),(135, .bool eE)]∧St hs (aR [.ae I [Pt ab 0,v11,V a0.Doc, .bool a0.aA,J,V a0.aw,V a0.Read], .ae ab (ay v4 v6 ao a0.R), .gs ao aF (aa aj), .gs v11 aG (aa an), .gs J aL (aa au)]) Z (0,0) gk h [.ae I [Pt ab 0,v11,V a0.Doc, .bool a0.aA,J,V a0.aw,V a0.Read], .ae ab (ay v4 v6 ao a0.R), .gs ao aF (aa aj), .gs v11 aG (aa an), .gs J aL (aa au), .ae cG (eK cE)]) ?_ ?_
 rintro l kR ⟨gk,cE,eE,cG,rfl,rfl,ax⟩
 try dsimp only at ar
 refine db ar ?_ ?_<;>intro kS ar
 refine sp 1<|rt<|a3<|⟨rfl,?_⟩
 obtain rfl:=si ar
 obtain rfl:=si hm
 refine ⟨_,_,_,tk (V 5) (ResL.nil),(ax.takeN 5),?_⟩
 exact ⟨v4,v6,aF,aG,J,aL,rfl,rfl,(ca.mono ax.ag),(cb.mono ax.ag),(cc.mono ax.ag),(bS.mono ax.ag),(az.mono ax.ag)⟩
 refine s0<|aP 1 ar ?_ ?_<;>intro kU ar
 refine aB 4 0 (.bool a0.aA) ax rfl<|xn 2<|db ar ?_ ?_<;>intro kV ar
 refine sp 1<|rt<|a3<|⟨rfl,?_⟩
 obtain rfl:=si ar
 obtain rfl:=si hm
 refine ⟨_,_,_,tk (V 7) (ResL.nil),(ax.takeN 5),?_⟩
 exact ⟨v4,v6,aF,aG,J,aL,rfl,rfl,(ca.mono ax.ag),(cb.mono ax.ag),(cc.mono ax.ag),(bS.mono ax.ag),(az.mono ax.ag)⟩
 refine s0<|cC 1 ar ?_ ?_<;>intro kW ar
 refine aB 4 0 J ax rfl<|dv 1 4 ar ax (az.mono ax.ag) rfl ?_
 intro kX ar
 refine eh 1 4 4 (fun gl=> .bool gl.Has) ar ax (az.mono ax.ag) rfl ?_
 intro gl kY ar
 refine xn 2<|db ar ?_ ?_<;>intro k0 ar
 refine sp 1<|rt<|a3<|⟨rfl,?_⟩
 obtain rfl:=si ar
 obtain rfl:=si hm
 refine ⟨_,_,_,tk (V 6) (ResL.nil),(ax.takeN 5),?_⟩
 exact ⟨v4,v6,aF,aG,J,aL,rfl,rfl,(ca.mono ax.ag),(cb.mono ax.ag),(cc.mono ax.ag),(bS.mono ax.ag),(az.mono ax.ag)⟩
 refine sk ?_
 obtain rfl:=si ar
 exact ⟨_,cE,U,true,cG,rfl,(by kernel_rfl),ax⟩
 refine xn 11<|dF<|sk ?_
 obtain rfl:=si ar
 exact ⟨_,cE,U,true,cG,rfl,(by kernel_rfl),ax⟩
 refine xn 7<|dF<|s0<|cC 1 ar ?_ ?_<;>intro k1 ar
 refine aB 4 0 J ax rfl<|dv 1 4 ar ax (az.mono ax.ag) rfl ?_
 intro k2 ar
 refine eh 1 4 4 (fun gm=> .bool gm.Has) ar ax (az.mono ax.ag) rfl ?_
 intro gm k3 ar
 refine xn 2<|db ar ?_ ?_<;>intro k4 ar
 refine sp 1<|rt<|a3<|⟨rfl,?_⟩
 obtain rfl:=si ar
 obtain rfl:=si hm
 refine ⟨_,_,_,tk (V 6) (ResL.nil),(ax.takeN 5),?_⟩
 exact ⟨v4,v6,aF,aG,J,aL,rfl,rfl,(ca.mono ax.ag),(cb.mono ax.ag),(cc.mono ax.ag),(bS.mono ax.ag),(az.mono ax.ag)⟩
 refine sk ?_
 obtain rfl:=si ar
 exact ⟨_,cE,U,true,cG,rfl,(by kernel_rfl),ax⟩
 refine xn 11<|dF<|sk ?_
 obtain rfl:=si ar
 exact ⟨_,cE,U,true,cG,rfl,(by kernel_rfl),ax⟩
 refine ey BZ dj ?_
 intro eG k5 eH b8
 refine yq 1 [(136,V U),(0,Pt I 0),(3,Pt bd 0),(5,V ad),(6,V U),(7, .bool true)] ?_
 rcases ifs bz with ⟨eJ,bz⟩ | ⟨eJ,bz⟩
 refine aD rfl trivial (a9 rfl rfl (il eJ))<|yq 4 [(141,Pt I 4),(138, .bool true),(0,Pt I 0),(3,Pt bd 0),(5,V ad),(6,V U),(7, .bool true)] ?_
 have k6:I<eG:=eH.1 _ (List.mem_of_getElem? (i:=0) rfl) _ (by simp [Itm.ids])
 refine aX (v:=J) rfl rfl rfl (by show I<_;omega) (aC (v:=J) (b8.di (i:=4) rfl)) (b8.aS (i:=0) rfl (by kernel_rfl)) trivial<|yq 1 [(143,V U),(142,J),(138, .bool true),(0,Pt I 0),(3,Pt bd 0),(5,V ad),(6,V U),(7, .bool true)] ?_
 obtain ⟨gn,bz⟩:=aJ bz
 refine aD rfl rfl (bA rfl rfl (by kernel_rfl:slTy _ _=some (aa au)) (b8.bN (j:=4) rfl (az.mono dj.ag) (by omega)) gn.1 gn.2)<|yq 1 [(145, .pointer (some (ba J U (aa au) 2))),(138, .bool true),(0,Pt I 0),(3,Pt bd 0),(5,V ad),(6,V U),(7, .bool true)] ?_
 obtain ⟨eL,gq,bz⟩:=ah bz
 obtain ⟨k7,h5,h6,k8⟩:=b8.cp (j:=4) rfl (az.mono dj.ag) (i:=U) gq
 obtain rfl:=et h5
 have h7:=dw gq
 have h8:=b8.bN (j:=4) rfl (az.mono dj.ag) h7
 have k9:(baseOf J).block<eG:=dk (eH.1 _ (List.mem_of_getElem? (i:=4) rfl)) h8
 refine dt rfl rfl rfl (by show (baseOf J).block<_;omega) (aC (v:=V eL.aE) trivial) (bH (w:=V eL.aE) h6 rfl (by kernel_rfl)) trivial<|yq 1 [(147,Pt bd 1),(146,V eL.aE),(138, .bool true),(0,Pt I 0),(3,Pt bd 0),(5,V ad),(6,V U),(7, .bool true)] ?_
 have la:bd<eG:=eH.1 _ (List.mem_of_getElem? (i:=5) rfl) _ (by simp [Itm.ids])
 refine aX (v:=V b7.aE) rfl rfl rfl (by show bd<_;omega) (aC (v:=V b7.aE) trivial) (b8.aS (i:=5) rfl (by kernel_rfl)) trivial ?_
 rcases ifs bz with ⟨eM,bz⟩ | ⟨eM,bz⟩
 refine aD rfl rfl (a9 rfl rfl (eV eM))<|ye 2 [(135, .bool true),(0,Pt I 0),(3,Pt bd 0),(5,V ad),(6,V U),(7, .bool true)] ?_
 have h9:=b8.aY
 obtain rfl:=si bz
 exact ⟨_,b7,true,bd,rfl,(by kernel_rfl),h9⟩
 refine aD rfl rfl (a9 rfl rfl (eX eM))<|ye 2 [(135, .bool false),(0,Pt I 0),(3,Pt bd 0),(5,V ad),(6,V U),(7, .bool true)] ?_
 have ia:=b8.aY
 obtain rfl:=si bz
 exact ⟨_,b7,false,bd,rfl,(by kernel_rfl),ia⟩
 refine aD rfl trivial (a9 rfl rfl (ig eJ))<|ye 14 [(135, .bool false),(0,Pt I 0),(3,Pt bd 0),(5,V ad),(6,V U),(7, .bool true)] ?_
 have ib:=b8.aY
 obtain rfl:=si bz
 exact ⟨_,b7,false,bd,rfl,(by kernel_rfl),ib⟩
 refine ey yj a6 ?_
 intro ch lb cj a7
 refine yq 1 [(92,V U),(0,Pt I 0),(3,Pt aK 0),(5,V ad),(6,V U),(7, .bool true)] ?_
 rcases ifs aQ with ⟨eN,aQ⟩ | ⟨eN,aQ⟩
 refine aD rfl trivial (a9 rfl rfl (jG eN))<|yq 4 [(97,Pt I 4),(94, .bool true),(0,Pt I 0),(3,Pt aK 0),(5,V ad),(6,V U),(7, .bool true)] ?_
 have ld:I<ch:=cj.1 _ (List.mem_of_getElem? (i:=0) rfl) _ (by simp [Itm.ids])
 refine aX (v:=J) rfl rfl rfl (by show I<_;omega) (aC (v:=J) (a7.di (i:=4) rfl)) (a7.aS (i:=0) rfl (by kernel_rfl)) trivial<|yq 1 [(99,V U),(98,J),(94, .bool true),(0,Pt I 0),(3,Pt aK 0),(5,V ad),(6,V U),(7, .bool true)] ?_
 obtain ⟨gr,aQ⟩:=aJ aQ
 refine aD rfl rfl (bA rfl rfl (by kernel_rfl:slTy _ _=some (aa au)) (a7.bN (j:=4) rfl (az.mono a6.ag) (by omega)) gr.1 gr.2)<|yq 1 [(101, .pointer (some (ba J U (aa au) 2))),(94, .bool true),(0,Pt I 0),(3,Pt aK 0),(5,V ad),(6,V U),(7, .bool true)] ?_
 obtain ⟨eO,gu,aQ⟩:=ah aQ
 obtain ⟨lf,ic,ie,lg⟩:=a7.cp (j:=4) rfl (az.mono a6.ag) (i:=U) gu
 obtain rfl:=et ic
 have ij:=dw gu
 have ik:=a7.bN (j:=4) rfl (az.mono a6.ag) ij
 have lh:(baseOf J).block<ch:=dk (cj.1 _ (List.mem_of_getElem? (i:=4) rfl)) ik
 refine dt rfl rfl rfl (by show (baseOf J).block<_;omega) (aC (v:=V eO.aE) trivial) (bH (w:=V eO.aE) ie rfl (by kernel_rfl)) trivial<|yq 1 [(103,Pt aK 1),(102,V eO.aE),(94, .bool true),(0,Pt I 0),(3,Pt aK 0),(5,V ad),(6,V U),(7, .bool true)] ?_
 have lj:aK<ch:=cj.1 _ (List.mem_of_getElem? (i:=5) rfl) _ (by simp [Itm.ids])
 refine aX (v:=V bx.aE) rfl rfl rfl (by show aK<_;omega) (aC (v:=V bx.aE) trivial) (a7.aS (i:=5) rfl (by kernel_rfl)) trivial ?_
 rcases ifs aQ with ⟨eP,aQ⟩ | ⟨eP,aQ⟩
 refine aD rfl rfl (a9 rfl rfl (eV eP))<|yq 5 [(110,Pt I 4),(107, .bool true),(0,Pt I 0),(3,Pt aK 0),(5,V ad),(6,V U),(7, .bool true)] ?_
 have ll:I<ch:=cj.1 _ (List.mem_of_getElem? (i:=0) rfl) _ (by simp [Itm.ids])
 refine aX (v:=J) rfl rfl rfl (by show I<_;omega) (aC (v:=J) (a7.di (i:=4) rfl)) (a7.aS (i:=0) rfl (by kernel_rfl)) trivial<|yq 2 [(113,V (af (U - 1))),(111,J),(107, .bool true),(0,Pt I 0),(3,Pt aK 0),(5,V ad),(6,V U),(7, .bool true)] ?_
 obtain ⟨gv,aQ⟩:=aJ aQ
 refine aD rfl rfl (bA rfl rfl (by kernel_rfl:slTy _ _=some (aa au)) (a7.bN (j:=4) rfl (az.mono a6.ag) (by omega)) gv.1 gv.2)<|yq 1 [(115, .pointer (some (ba J (af (U - 1)) (aa au) 2))),(107, .bool true),(0,Pt I 0),(3,Pt aK 0),(5,V ad),(6,V U),(7, .bool true)] ?_
 obtain ⟨eQ,gw,aQ⟩:=ah aQ
 obtain ⟨ln,im,iq,lo⟩:=a7.cp (j:=4) rfl (az.mono a6.ag) (i:=af (U - 1)) gw
 obtain rfl:=et im
 have ir:=dw gw
 have iu:=a7.bN (j:=4) rfl (az.mono a6.ag) ir
 have lq:(baseOf J).block<ch:=dk (cj.1 _ (List.mem_of_getElem? (i:=4) rfl)) iu
 refine dt rfl rfl rfl (by show (baseOf J).block<_;omega) (aC (v:=V eQ.aE) trivial) (bH (w:=V eQ.aE) iq rfl (by kernel_rfl)) trivial<|yq 1 [(117,Pt aK 1),(116,V eQ.aE),(107, .bool true),(0,Pt I 0),(3,Pt aK 0),(5,V ad),(6,V U),(7, .bool true)] ?_
 have lr:aK<ch:=cj.1 _ (List.mem_of_getElem? (i:=5) rfl) _ (by simp [Itm.ids])
 refine aX (v:=V bx.aE) rfl rfl rfl (by show aK<_;omega) (aC (v:=V bx.aE) trivial) (a7.aS (i:=5) rfl (by kernel_rfl)) trivial ?_
 rcases ifs aQ with ⟨eR,aQ⟩ | ⟨eR,aQ⟩
 refine aD rfl rfl (a9 rfl rfl (eV eR))<|yq 5 [(124,Pt I 4),(121, .bool true),(0,Pt I 0),(3,Pt aK 0),(5,V ad),(6,V U),(7, .bool true)] ?_
 have lu:I<ch:=cj.1 _ (List.mem_of_getElem? (i:=0) rfl) _ (by simp [Itm.ids])
 refine aX (v:=J) rfl rfl rfl (by show I<_;omega) (aC (v:=J) (a7.di (i:=4) rfl)) (a7.aS (i:=0) rfl (by kernel_rfl)) trivial<|yq 2 [(127,V (af (U - 1))),(125,J),(121, .bool true),(0,Pt I 0),(3,Pt aK 0),(5,V ad),(6,V U),(7, .bool true)] ?_
 obtain ⟨gx,aQ⟩:=aJ aQ
 refine aD rfl rfl (bA rfl rfl (by kernel_rfl:slTy _ _=some (aa au)) (a7.bN (j:=4) rfl (az.mono a6.ag) (by omega)) gx.1 gx.2)<|yq 1 [(129, .pointer (some (ba J (af (U - 1)) (aa au) 1))),(121, .bool true),(0,Pt I 0),(3,Pt aK 0),(5,V ad),(6,V U),(7, .bool true)] ?_
 obtain ⟨gy,gz,aQ⟩:=ah aQ
 obtain ⟨lv,iv,iw,lx⟩:=a7.cp (j:=4) rfl (az.mono a6.ag) (i:=af (U - 1)) gz
 obtain rfl:=et iv
 have ix:=dw gz
 have iy:=a7.bN (j:=4) rfl (az.mono a6.ag) ix
 have ly:(baseOf J).block<ch:=dk (cj.1 _ (List.mem_of_getElem? (i:=4) rfl)) iy
 refine dt rfl rfl rfl (by show (baseOf J).block<_;omega) (aC (v:=V gy.Kind) trivial) (bH (w:=V gy.Kind) iw rfl (by kernel_rfl)) trivial ?_
 rcases ifs aQ with ⟨eS,aQ⟩ | ⟨eS,aQ⟩
 refine aD rfl rfl (a9 rfl rfl (eV eS))<|ye 2 [(91, .bool true),(0,Pt I 0),(3,Pt aK 0),(5,V ad),(6,V U),(7, .bool true)] ?_
 have iz:=a7.aY
 obtain rfl:=si aQ
 exact ⟨_,bx,true,aK,rfl,(by kernel_rfl),iz⟩
 refine aD rfl rfl (a9 rfl rfl (eX eS))<|ye 2 [(91, .bool false),(0,Pt I 0),(3,Pt aK 0),(5,V ad),(6,V U),(7, .bool true)] ?_
 have iB:=a7.aY
 obtain rfl:=si aQ
 exact ⟨_,bx,false,aK,rfl,(by kernel_rfl),iB⟩
 refine aD rfl rfl (a9 rfl rfl (eX eR))<|ye 14 [(91, .bool false),(0,Pt I 0),(3,Pt aK 0),(5,V ad),(6,V U),(7, .bool true)] ?_
 have iC:=a7.aY
 obtain rfl:=si aQ
 exact ⟨_,bx,false,aK,rfl,(by kernel_rfl),iC⟩
 refine aD rfl rfl (a9 rfl rfl (eX eP))<|ye 28 [(91, .bool false),(0,Pt I 0),(3,Pt aK 0),(5,V ad),(6,V U),(7, .bool true)] ?_
 have iD:=a7.aY
 obtain rfl:=si aQ
 exact ⟨_,bx,false,aK,rfl,(by kernel_rfl),iD⟩
 refine aD rfl trivial (a9 rfl rfl (jD eN))<|ye 40 [(91, .bool false),(0,Pt I 0),(3,Pt aK 0),(5,V ad),(6,V U),(7, .bool true)] ?_
 have iE:=a7.aY
 obtain rfl:=si aQ
 exact ⟨_,bx,false,aK,rfl,(by kernel_rfl),iE⟩
 refine ey DR dh ?_
 intro eT lz eU bR
 refine yq 1 [(64,V U),(0,Pt I 0),(3,Pt bb 0),(5,V ad),(6,V U),(7, .bool true)] ?_
 rcases ifs bh with ⟨eW,bh⟩ | ⟨eW,bh⟩
 refine aD rfl trivial (a9 rfl rfl (il eW))<|yq 4 [(69,Pt I 4),(66, .bool true),(0,Pt I 0),(3,Pt bb 0),(5,V ad),(6,V U),(7, .bool true)] ?_
 have lA:I<eT:=eU.1 _ (List.mem_of_getElem? (i:=0) rfl) _ (by simp [Itm.ids])
 refine aX (v:=J) rfl rfl rfl (by show I<_;omega) (aC (v:=J) (bR.di (i:=4) rfl)) (bR.aS (i:=0) rfl (by kernel_rfl)) trivial<|yq 1 [(71,V U),(70,J),(66, .bool true),(0,Pt I 0),(3,Pt bb 0),(5,V ad),(6,V U),(7, .bool true)] ?_
 obtain ⟨gA,bh⟩:=aJ bh
 refine aD rfl rfl (bA rfl rfl (by kernel_rfl:slTy _ _=some (aa au)) (bR.bN (j:=4) rfl (az.mono dh.ag) (by omega)) gA.1 gA.2)<|yq 1 [(73, .pointer (some (ba J U (aa au) 2))),(66, .bool true),(0,Pt I 0),(3,Pt bb 0),(5,V ad),(6,V U),(7, .bool true)] ?_
 obtain ⟨eZ,gB,bh⟩:=ah bh
 obtain ⟨lB,iF,iG,lC⟩:=bR.cp (j:=4) rfl (az.mono dh.ag) (i:=U) gB
 obtain rfl:=et iF
 have iH:=dw gB
 have iI:=bR.bN (j:=4) rfl (az.mono dh.ag) iH
 have lD:(baseOf J).block<eT:=dk (eU.1 _ (List.mem_of_getElem? (i:=4) rfl)) iI
 refine dt rfl rfl rfl (by show (baseOf J).block<_;omega) (aC (v:=V eZ.aE) trivial) (bH (w:=V eZ.aE) iG rfl (by kernel_rfl)) trivial<|yq 1 [(75,Pt bb 1),(74,V eZ.aE),(66, .bool true),(0,Pt I 0),(3,Pt bb 0),(5,V ad),(6,V U),(7, .bool true)] ?_
 have lE:bb<eT:=eU.1 _ (List.mem_of_getElem? (i:=5) rfl) _ (by simp [Itm.ids])
 refine aX (v:=V bM.aE) rfl rfl rfl (by show bb<_;omega) (aC (v:=V bM.aE) trivial) (bR.aS (i:=5) rfl (by kernel_rfl)) trivial ?_
 rcases ifs bh with ⟨e0,bh⟩ | ⟨e0,bh⟩
 refine aD rfl rfl (a9 rfl rfl (eV e0))<|yq 3 [(80,V ad),(79, .bool true),(0,Pt I 0),(3,Pt bb 0),(5,V ad),(6,V U),(7, .bool true)] ?_
 rcases ifs bh with ⟨e2,bh⟩ | ⟨e2,bh⟩
 refine aD rfl rfl (a9 rfl rfl (eV e2))<|ye 2 [(63, .bool true),(0,Pt I 0),(3,Pt bb 0),(5,V ad),(6,V U),(7, .bool true)] ?_
 have iJ:=bR.aY
 obtain rfl:=si bh
 exact ⟨_,bM,true,bb,rfl,(by kernel_rfl),iJ⟩
 refine aD rfl rfl (a9 rfl rfl (eX e2))<|ye 2 [(63, .bool false),(0,Pt I 0),(3,Pt bb 0),(5,V ad),(6,V U),(7, .bool true)] ?_
 have iL:=bR.aY
 obtain rfl:=si bh
 exact ⟨_,bM,false,bb,rfl,(by kernel_rfl),iL⟩
 refine aD rfl rfl (a9 rfl rfl (eX e0))<|ye 6 [(63, .bool false),(0,Pt I 0),(3,Pt bb 0),(5,V ad),(6,V U),(7, .bool true)] ?_
 have iM:=bR.aY
 obtain rfl:=si bh
 exact ⟨_,bM,false,bb,rfl,(by kernel_rfl),iM⟩
 refine aD rfl trivial (a9 rfl rfl (ig eW))<|ye 18 [(63, .bool false),(0,Pt I 0),(3,Pt bb 0),(5,V ad),(6,V U),(7, .bool true)] ?_
 have iN:=bR.aY
 obtain rfl:=si bh
 exact ⟨_,bM,false,bb,rfl,(by kernel_rfl),iN⟩
 refine ey B4 cl ?_
 intro dm lF dp bp
 refine yq 1 [(36,V U),(7, .bool true),(0,Pt I 0),(3,Pt aW 0),(5,V ad),(6,V U)] ?_
 rcases ifs a8 with ⟨e3,a8⟩ | ⟨e3,a8⟩
 refine aD rfl trivial (a9 rfl rfl (il e3))<|yq 4 [(41,Pt I 4),(38, .bool true),(7, .bool true),(0,Pt I 0),(3,Pt aW 0),(5,V ad),(6,V U)] ?_
 have lG:I<dm:=dp.1 _ (List.mem_of_getElem? (i:=0) rfl) _ (by simp [Itm.ids])
 refine aX (v:=J) rfl rfl rfl (by show I<_;omega) (aC (v:=J) (bp.di (i:=4) rfl)) (bp.aS (i:=0) rfl (by kernel_rfl)) trivial<|yq 1 [(43,V U),(42,J),(38, .bool true),(7, .bool true),(0,Pt I 0),(3,Pt aW 0),(5,V ad),(6,V U)] ?_
 obtain ⟨gC,a8⟩:=aJ a8
 refine aD rfl rfl (bA rfl rfl (by kernel_rfl:slTy _ _=some (aa au)) (bp.bN (j:=4) rfl (az.mono cl.ag) (by omega)) gC.1 gC.2)<|yq 1 [(45, .pointer (some (ba J U (aa au) 2))),(38, .bool true),(7, .bool true),(0,Pt I 0),(3,Pt aW 0),(5,V ad),(6,V U)] ?_
 obtain ⟨e4,gD,a8⟩:=ah a8
 obtain ⟨lH,iO,iP,lI⟩:=bp.cp (j:=4) rfl (az.mono cl.ag) (i:=U) gD
 obtain rfl:=et iO
 have iQ:=dw gD
 have iR:=bp.bN (j:=4) rfl (az.mono cl.ag) iQ
 have lJ:(baseOf J).block<dm:=dk (dp.1 _ (List.mem_of_getElem? (i:=4) rfl)) iR
 refine dt rfl rfl rfl (by show (baseOf J).block<_;omega) (aC (v:=V e4.aE) trivial) (bH (w:=V e4.aE) iP rfl (by kernel_rfl)) trivial<|yq 1 [(47,Pt aW 1),(46,V e4.aE),(38, .bool true),(7, .bool true),(0,Pt I 0),(3,Pt aW 0),(5,V ad),(6,V U)] ?_
 have lK:aW<dm:=dp.1 _ (List.mem_of_getElem? (i:=5) rfl) _ (by simp [Itm.ids])
 refine aX (v:=V bT.aE) rfl rfl rfl (by show aW<_;omega) (aC (v:=V bT.aE) trivial) (bp.aS (i:=5) rfl (by kernel_rfl)) trivial ?_
 rcases ifs a8 with ⟨e5,a8⟩ | ⟨e5,a8⟩
 refine aD rfl rfl (a9 rfl rfl (eV e5))<|yq 5 [(54,Pt I 4),(51, .bool true),(7, .bool true),(0,Pt I 0),(3,Pt aW 0),(5,V ad),(6,V U)] ?_
 have lL:I<dm:=dp.1 _ (List.mem_of_getElem? (i:=0) rfl) _ (by simp [Itm.ids])
 refine aX (v:=J) rfl rfl rfl (by show I<_;omega) (aC (v:=J) (bp.di (i:=4) rfl)) (bp.aS (i:=0) rfl (by kernel_rfl)) trivial<|yq 1 [(56,V U),(55,J),(51, .bool true),(7, .bool true),(0,Pt I 0),(3,Pt aW 0),(5,V ad),(6,V U)] ?_
 obtain ⟨gE,a8⟩:=aJ a8
 refine aD rfl rfl (bA rfl rfl (by kernel_rfl:slTy _ _=some (aa au)) (bp.bN (j:=4) rfl (az.mono cl.ag) (by omega)) gE.1 gE.2)<|yq 1 [(58, .pointer (some (ba J U (aa au) 1))),(51, .bool true),(7, .bool true),(0,Pt I 0),(3,Pt aW 0),(5,V ad),(6,V U)] ?_
 obtain ⟨e6,gF,a8⟩:=ah a8
 obtain ⟨lM,iS,iT,lN⟩:=bp.cp (j:=4) rfl (az.mono cl.ag) (i:=U) gF
 obtain rfl:=et iS
 have iU:=dw gF
 have iV:=bp.bN (j:=4) rfl (az.mono cl.ag) iU
 have lO:(baseOf J).block<dm:=dk (dp.1 _ (List.mem_of_getElem? (i:=4) rfl)) iV
 refine dt rfl rfl rfl (by show (baseOf J).block<_;omega) (aC (v:=V e6.Kind) trivial) (bH (w:=V e6.Kind) iT rfl (by kernel_rfl)) trivial<|yq 1 [(60,V ad),(59,V e6.Kind),(51, .bool true),(7, .bool true),(0,Pt I 0),(3,Pt aW 0),(5,V ad),(6,V U)] ?_
 rcases ifs a8 with ⟨e7,a8⟩ | ⟨e7,a8⟩
 refine aD rfl rfl (a9 rfl rfl (eV e7))<|ye 2 [(35, .bool true),(7, .bool true),(0,Pt I 0),(3,Pt aW 0),(5,V ad),(6,V U)] ?_
 have iX:=bp.aY
 obtain rfl:=si a8
 exact ⟨_,bT,true,aW,rfl,(by kernel_rfl),iX⟩
 refine aD rfl rfl (a9 rfl rfl (eX e7))<|ye 2 [(35, .bool false),(7, .bool true),(0,Pt I 0),(3,Pt aW 0),(5,V ad),(6,V U)] ?_
 have iY:=bp.aY
 obtain rfl:=si a8
 exact ⟨_,bT,false,aW,rfl,(by kernel_rfl),iY⟩
 refine aD rfl rfl (a9 rfl rfl (eX e5))<|ye 14 [(35, .bool false),(7, .bool true),(0,Pt I 0),(3,Pt aW 0),(5,V ad),(6,V U)] ?_
 have iZ:=bp.aY
 obtain rfl:=si a8
 exact ⟨_,bT,false,aW,rfl,(by kernel_rfl),iZ⟩
 refine aD rfl trivial (a9 rfl rfl (ig e3))<|ye 26 [(35, .bool false),(7, .bool true),(0,Pt I 0),(3,Pt aW 0),(5,V ad),(6,V U)] ?_
 have ja:=bp.aY
 obtain rfl:=si a8
 exact ⟨_,bT,false,aW,rfl,(by kernel_rfl),ja⟩
 refine bk 0<|lp [0,3,5,6] (fun n l h=>∃ gH ck bq bf bj,correctorref12_parser_place_l0 F a0 a1 n ck bq bf=some eb∧l=[(0,Pt I 0),(3,Pt bj 0),(5,V bq),(6,V bf)]∧St hs (aR [.ae I [Pt ab 0,v11,V a0.Doc, .bool a0.aA,J,V a0.aw,V a0.Read], .ae ab (ay v4 v6 ao a0.R), .gs ao aF (aa aj), .gs v11 aG (aa an), .gs J aL (aa au)]) Z (0,0) gH h [.ae I [Pt ab 0,v11,V a0.Doc, .bool a0.aA,J,V a0.aw,V a0.Read], .ae ab (ay v4 v6 ao a0.R), .gs ao aF (aa aj), .gs v11 aG (aa an), .gs J aL (aa au), .ae bj (eK ck)]) F ⟨_,dr,ds,af ((a0.S.length:Int) - 1),dx,bg,(by kernel_rfl),dz⟩ ?_
 rintro e8 l lP ⟨gH,ck,bq,bf,bj,bg,rfl,dZ⟩
 rcases e8 with _ | e8
 cases (show none=some eb from bg)
 rw [correctorref12_parser_place_l0] at bg
 refine sq<|cU CU dZ ?_
 intro e9 lQ fa b9
 refine yq 1 [(18,V bf),(0,Pt I 0),(3,Pt bj 0),(5,V bq),(6,V bf)] ?_
 rcases ifs bg with ⟨fb,bg⟩ | ⟨fb,bg⟩
 refine aD rfl trivial (a9 rfl rfl (il fb))<|yq 4 [(23,Pt I 4),(20, .bool true),(0,Pt I 0),(3,Pt bj 0),(5,V bq),(6,V bf)] ?_
 have lR:I<e9:=fa.1 _ (List.mem_of_getElem? (i:=0) rfl) _ (by simp [Itm.ids])
 refine aX (v:=J) rfl rfl rfl (by show I<_;omega) (aC (v:=J) (b9.di (i:=4) rfl)) (b9.aS (i:=0) rfl (by kernel_rfl)) trivial<|yq 1 [(25,V bf),(24,J),(20, .bool true),(0,Pt I 0),(3,Pt bj 0),(5,V bq),(6,V bf)] ?_
 obtain ⟨gI,bg⟩:=aJ bg
 refine aD rfl rfl (bA rfl rfl (by kernel_rfl:slTy _ _=some (aa au)) (b9.bN (j:=4) rfl (az.mono dZ.ag) (by omega)) gI.1 gI.2)<|yq 1 [(27, .pointer (some (ba J bf (aa au) 2))),(20, .bool true),(0,Pt I 0),(3,Pt bj 0),(5,V bq),(6,V bf)] ?_
 obtain ⟨fc,gJ,bg⟩:=ah bg
 obtain ⟨lS,jb,jc,lT⟩:=b9.cp (j:=4) rfl (az.mono dZ.ag) (i:=bf) gJ
 obtain rfl:=et jb
 have jd:=dw gJ
 have je:=b9.bN (j:=4) rfl (az.mono dZ.ag) jd
 have lU:(baseOf J).block<e9:=dk (fa.1 _ (List.mem_of_getElem? (i:=4) rfl)) je
 refine dt rfl rfl rfl (by show (baseOf J).block<_;omega) (aC (v:=V fc.aE) trivial) (bH (w:=V fc.aE) jc rfl (by kernel_rfl)) trivial<|yq 1 [(29,Pt bj 1),(28,V fc.aE),(20, .bool true),(0,Pt I 0),(3,Pt bj 0),(5,V bq),(6,V bf)] ?_
 have lV:bj<e9:=fa.1 _ (List.mem_of_getElem? (i:=5) rfl) _ (by simp [Itm.ids])
 refine aX (v:=V ck.aE) rfl rfl rfl (by show bj<_;omega) (aC (v:=V ck.aE) trivial) (b9.aS (i:=5) rfl (by kernel_rfl)) trivial ?_
 rcases ifs bg with ⟨fe,bg⟩ | ⟨fe,bg⟩
 refine aD rfl rfl (a9 rfl rfl (jG fe))<|ye 1 [(32, .bool true),(0,Pt I 0),(3,Pt bj 0),(5,V bq),(6,V bf)] ?_
 have jf:=b9.aY
 refine dT<|sk<|bk 1<|gp 3 ?_
 exact ⟨e8,Nat.lt_succ_self _,⟨_,ck,bq,af (bf - 1),bj,bg,(by kernel_rfl),jf⟩⟩
 refine aD rfl rfl (a9 rfl rfl (jD fe))<|ye 1 [(32, .bool false),(0,Pt I 0),(3,Pt bj 0),(5,V bq),(6,V bf)] ?_
 have jg:=b9.aY
 refine dF<|xt 0<|aO ?_
 obtain rfl:=si bg
 exact ⟨_,ck,bq,bf,bj,rfl,(by kernel_rfl),jg⟩
 refine aD rfl trivial (a9 rfl rfl (ig fb))<|ye 13 [(32, .bool false),(0,Pt I 0),(3,Pt bj 0),(5,V bq),(6,V bf)] ?_
 have jh:=b9.aY
 refine dF<|xt 0<|aO ?_
 obtain rfl:=si bg
 exact ⟨_,ck,bq,bf,bj,rfl,(by kernel_rfl),jh⟩
 refine s0<|aB 1 0 (.bool a1.iA) ea rfl<|xn 0<|db dq ?_ ?_<;>intro lW dq
 refine gp 1 ?_
 obtain rfl:=si dq
 exact ⟨_,a1,3,fl,rfl,(by kernel_rfl),((((((ea.front 0 rfl).front 5 rfl).front 5 rfl).front 5 rfl).front 5 rfl).front 5 rfl)⟩
 refine sk ?_
 obtain rfl:=si dq
 exact ⟨_,a1,5,fl,rfl,(by kernel_rfl),((((((ea.front 0 rfl).front 5 rfl).front 5 rfl).front 5 rfl).front 5 rfl).front 5 rfl)⟩
def wF:List bt:=[uP 27 (mv 0),uP 28 (nk 27),uP 29 (fa 61 28 0),uL 30 (ld 55 29),uP 31 (nk 30),uP 32 (fa 58 31 0),uL 33 (ld 24 32),uL 34 (ld 63 3),uF 35 (cf 70 #[(t 33),(t 34)] #[24,63]) .make [3,6,7],uP 26 (mv 35),uP 36 (.extract (t 26) 0),uP 37 (.extract (t 26) 1),uP 6 (sg 36),uP 7 (sg 37)]
def z3:List bt:=[uP 62 (mv 0),uP 63 (nk 62),uP 64 (fa 61 63 0),uL 65 (ld 55 64),uP 66 (mv 8),uP 67 (mv 6),uP 68 (mv 9),uP 69 (ia 106 67 68),uP 70 (fa 112 69 2),uL 71 (ld 3 70),uP 72 (mv 5),uP 73 (mv 10),uF 74 (cf 46 #[(t 65),(t 66),(t 71),(t 72),(t 73)] #[55,3,3,3,3]) .make [3,9]]
def CF:List bt:=[uP 75 (mv 0),uP 76 (nk 75),uP 77 (fa 61 76 4),uL 78 (ld 59 77),uP 79 (mv 0),uP 80 (nk 79),uP 81 (fa 61 80 4),uL 82 (ld 59 81),uP 83 (cb .len #[(t 82)] #[59]),uP 84 (bc .sub 3 83 1 3),uP 85 (ia 59 78 84),uP 86 (fa 114 85 3),uL 87 (ld 3 86),uP 8 (sg 87)]
def zZ:List bt:=[uP 105 (mv 0),uP 106 (nk 105),uP 107 (fa 61 106 4),uL 108 (ld 59 107),uP 109 (mv 13),uP 110 (mv 0),uP 111 (mv 0),uP 112 (nk 111),uP 113 (fa 61 112 4),uL 114 (ld 59 113),uP 115 (mv 13),uP 116 (ia 59 114 115),uP 117 (fa 114 116 3),uL 118 (ld 3 117),uP 119 (mv 11),uF 120 (cf 68 #[(t 110),(t 118),(t 119)] #[54,3,3]) .make [9,13],uP 121 (ia 59 108 109),uP 122 (fa 114 121 4),oF (.store 4 (t 122) (t 120)) .make [3,9,13]]
def EY:List bt:=[uP 41 (mv 0),uP 42 (nk 41),uP 43 (fa 61 42 0),uL 44 (ld 55 43),uP 45 (mv 0),uF 46 (cf 47 #[(t 45)] #[54]) .make [],uP 47 (mv 4),uP 48 (mv 5),uF 49 (cf 46 #[(t 44),(t 46),(t 47),(t 48),(ci 8)] #[55,3,3,3,3]) .make [3]]
def mM (F:Nat) (a0:aV) (a1:an):Option aV:=
 (g6 F a0 a1.ai a1.To).bind fun j=>
 if 0≤j.1∧j.1<(a0.R.L.length:Int) then
  (a0.R.L[j.1.toNat]?).bind fun aj=>
  if aj.Kind=(20:Int) then
   (eA F a0.R 0 2 j.1 (af (j.1+1))).bind fun I=>
   (g6 F (⟨I.2,a0.Rows,I.1,false,[],a0.aw,a0.Read⟩:aV) (af (j.1+1)) a1.To).bind fun aa=>
   ((if aa.1<aa.2 then
     (iZ F (⟨I.2,a0.Rows,I.1,false,[],a0.aw,a0.Read⟩:aV) I.1 aa.1).bind fun J=>
     some (J.2.R,J.2.Rows,J.2.Doc,J.1,J.2.S,J.2.aw,J.2.Read)
    else
     some (I.2,a0.Rows,I.1,false,[],a0.aw,a0.Read)):Option (aL×(List an)×Int×Bool×(List au)×Int×Int)).bind fun o=>match o with
    | (ak,ao,aq,ar,av,ax,ay)=>some (⟨ak,ao,aq,ar,av,ax,ay⟩:aV)
  else
   ((if (0:Int)≤a0.Doc then
     (h6 F a0.R.T a0.Doc (af (j.1+1))).bind fun az=>
     some ((⟨a0.R.L,az,a0.R.D,a0.R.End⟩:aL),a0.Rows,a0.Doc,a0.aA,a0.aw,a0.Read)
    else
     some (a0.R,a0.Rows,a0.Doc,a0.aA,a0.aw,a0.Read)):Option (aL×(List an)×Int×Bool×Int×Int)).bind fun o=>match o with
    | (ab,ad,aC,ae,ag,ah)=>(g6 F (⟨ab,ad,(-1),ae,[],ag,ah⟩:aV) (af (j.1+1)) j.2).bind fun U=>
    if U.1<U.2 then
     (ea F ab 0 U.1 U.2 8).bind fun aB=>
     some (⟨aB.2,ad,(-1),ae,[],ag,ah⟩:aV)
    else
     some (⟨ab,ad,(-1),ae,[],ag,ah⟩:aV)
 else none
theorem E6 (F:Nat) {h:AH} {Z:Zn} {a0:aV} {a1:an} {I j v4 v6 J ax v11 ar ab av} (hP:Pre Z h [.ae I [Pt j 0,v11,V a0.Doc, .bool a0.aA,ab,V a0.aw,V a0.Read], .ae j (ay v4 v6 J a0.R), .gs J ax (aa aj), .gs v11 ar (aa an), .gs ab av (aa au)]) (aH:RS (α:=al) Z v4 a0.R.L) (a6:RS (α:=aq) Z v6 a0.R.T.ak) (bf:RCs (α:=aj) Z ax a0.R.D) (aJ:RCs (α:=an) Z ar a0.Rows) (cj:RCs (α:=au) Z av a0.S) {r:aV} (hm:mM F a0 a1=some r):
  bQ Try.prog 42 [Pt I 0, .agg #[V a1.Kind,V a1.ai,V a1.To,V a1.aE]] h Z [.ae I [Pt j 0,v11,V a0.Doc, .bool a0.aA,ab,V a0.aw,V a0.Read], .ae j (ay v4 v6 J a0.R), .gs J ax (aa aj), .gs v11 ar (aa an), .gs ab av (aa au)] fun v Z' A'=>∃ b2 b3 b4 b5 b7 b8 b9, .tuple #[]=v∧A'=[.ae I [Pt j 0,v11,V r.Doc, .bool r.aA,b8,V r.aw,V r.Read], .ae j (ay b2 b3 b4 r.R), .gs b4 b5 (aa aj), .gs v11 b7 (aa an), .gs b8 b9 (aa au)]∧RS (α:=al) Z' b2 r.R.L∧RS (α:=aq) Z' b3 r.R.T.ak∧RCs (α:=aj) Z' b5 r.R.D∧RCs (α:=an) Z' b7 r.Rows∧RCs (α:=au) Z' b9 r.S:=by
 refine b6 Try.func42 hP ?_
 intro hs hS
 unfold mM at hm
 refine s0<|dK 0 [V a1.Kind,V a1.ai,V a1.To,V a1.aE] hS ?_
 intro bg dH bF
 refine xn 0<|s0<|aB 2 0 (V a1.ai) bF rfl<|aB 1 0 (V a1.To) bF rfl ?_
 obtain ⟨U,ck,hm⟩:=ah hm
 refine cE 0 bF (fun dI a7 cl a8=>j4 F cl (RS.mono a7 aH) (RS.mono a7 a6) (bj.row (a8 _ (List.mem_of_getElem? (i:=3) rfl)) a7 bf) (a8 _ (List.mem_of_getElem? (i:=2) rfl)) (bj.row (a8 _ (List.mem_of_getElem? (i:=4) rfl)) a7 aJ) (bj.row (a8 _ (List.mem_of_getElem? (i:=5) rfl)) a7 cj) (a8 _ (List.mem_of_getElem? (i:=1) rfl)) ck) ?_
 rintro _ dJ cn rfl
 refine xn 5<|s0<|bG 3 1 (.slice none 0 0) [.slice none 0 0] [Pt j 0,v11,V a0.Doc, .bool a0.aA, .slice none 0 0,V a0.aw,V a0.Read] cn rfl rfl rfl ?_
 intro dL az
 refine xn 0<|sq<|s0<|aB 3 1 (Pt j 0) az rfl<|aB 2 2 v4 az rfl<|a2 1 hm aH ?_
 intro dM hm
 refine bm 1 0 (fun ca=>V ca.Kind) hm aH az ?_
 intro ca dN hm
 refine aG 0 hm ?_ ?_<;>intro dO hm
 refine xn 0<|dT<|s0<|aB 4 1 (Pt j 0) az rfl ?_
 obtain ⟨ad,cp,hm⟩:=ah hm
 have cq:St _ _ _ _ _ _ ([.ae j (ay v4 v6 J a0.R), .gs J ax (aa aj)]++[.ae bg (cz a1), .ae I [Pt j 0,v11,V a0.Doc, .bool a0.aA, .slice none 0 0,V a0.aw,V a0.Read], .gs v11 ar (aa an), .gs ab av (aa au)]):=((az.front 3 rfl).front 3 rfl)
 refine cB 3 cq (fun p=>fY F p aH a6 bf cp) ?_
 rintro _ dP dQ _ bH cr ⟨cb,cc,cd,rfl,rfl,bI,bK,bL⟩
 refine bG 2 3 (V ad.1) [V ad.1] [Pt j 0,v11,V ad.1, .bool a0.aA, .slice none 0 0,V a0.aw,V a0.Read] cr rfl rfl rfl ?_
 intro dR ct
 refine xn 0<|s0<|bG 3 3 (.bool false) [.bool false] [Pt j 0,v11,V ad.1, .bool false, .slice none 0 0,V a0.aw,V a0.Read] ct rfl rfl rfl ?_
 intro dS cf
 refine xn 0<|s0<|aB 4 2 (V a1.To) cf rfl ?_
 obtain ⟨dU,cu,hm⟩:=ah hm
 refine cE 0 cf (fun dV bh cv bk=>j4 F (a0:=(⟨ad.2,a0.Rows,ad.1,false,[],a0.aw,a0.Read⟩:aV)) cv (RS.mono bh bI) (RS.mono bh bK) (bj.row (bk _ (List.mem_of_getElem? (i:=1) rfl)) bh bL) (bk _ (List.mem_of_getElem? (i:=0) rfl)) (bj.row (bk _ (List.mem_of_getElem? (i:=4) rfl)) bh (aJ.mono bH)) (RS.bu _) (bk _ (List.mem_of_getElem? (i:=3) rfl)) cu) ?_
 rintro _ dW bM rfl
 refine xn 5<|sq ?_
 obtain ⟨cw,aK,hm⟩:=ah hm
 refine eo [] (fun l h=>∃ aF aM bN bP bR bS bT bU bl bn bo bp bq bw bx,(aM,bN,bP,bR,bS,bT,bU)=cw∧RS (α:=al) aF bl aM.L∧RS (α:=aq) aF bn aM.T.ak∧RCs (α:=aj) aF bp aM.D∧RCs (α:=an) aF bq bN∧RCs (α:=au) aF bx bS∧l=[]∧St hs (aR [.ae I [Pt j 0,v11,V a0.Doc, .bool a0.aA,ab,V a0.aw,V a0.Read], .ae j (ay v4 v6 J a0.R), .gs J ax (aa aj), .gs v11 ar (aa an), .gs ab av (aa au)]) Z (0,0) aF h [.gs ab av (aa au), .ae I [Pt j 0,v11,V bP, .bool bR,bw,V bT,V bU], .ae j (ay bl bn bo aM), .gs bo bp (aa aj), .gs v11 bq (aa an), .gs bw bx (aa au)]) (by kernel_rfl) ?_ ?_
 rintro l dX ⟨aF,aM,bN,bP,bR,bS,bT,bU,bl,bn,bo,bp,bq,bw,bx,rfl,cx,cA,cD,cG,cH,rfl,cI⟩
 try dsimp only at hm
 refine rt<|⟨rfl,?_⟩
 obtain rfl:=si hm
 refine ⟨_,_,_,ResL.nil,((((((cI.front 5 rfl).front 5 rfl).front 5 rfl).front 5 rfl).front 5 rfl).takeN 5),?_⟩
 exact ⟨bl,bn,bo,bp,bq,bw,bx,rfl,rfl,cx,cA,cD,cG,cH⟩
 refine g0<|aP 2 aK ?_ ?_<;>intro dY aK
 refine xn 0<|dT<|g0<|aB 5 3 (V ad.1) bM rfl ?_
 have cJ:=bM.dh (aa au)
 obtain ⟨ao,cK,aK⟩:=ah aK
 have cL:St _ _ _ _ _ _ ([.ae I [Pt j 0,v11,V ad.1, .bool false, .slice none 0 0,V a0.aw,V a0.Read], .ae j (ay cb cc J ad.2), .gs J cd (aa aj), .gs v11 ar (aa an), .gs (.slice none 0 0) [] (aa au)]++[.ae bg (cz a1), .gs ab av (aa au)]):=(((((cJ.front 0 rfl).front 5 rfl).front 3 rfl).front 3 rfl).front 5 rfl)
 refine cB 1 cL (fun p=>pe F (a0:=(⟨ad.2,a0.Rows,ad.1,false,[],a0.aw,a0.Read⟩:aV)) p bI bK bL (aJ.mono bH) (RCs.bu _) cK) ?_
 rintro _ dZ ea _ eb cN ⟨cO,cP,cQ,cR,cS,cT,rfl,rfl,cU,cX,c0,c3,c4⟩
 refine bG 2 0 (.bool ao.1) [.bool ao.1] [Pt j 0,v11,V ao.2.Doc, .bool ao.1,(.slice none 0 0),V ao.2.aw,V ao.2.Read] cN rfl rfl rfl ?_
 intro ec c6
 refine xn 0 ?_
 obtain rfl:=si aK
 exact ⟨_,ao.2.R,ao.2.Rows,ao.2.Doc,ao.1,ao.2.S,ao.2.aw,ao.2.Read,cO,cP,cQ,cR,cS,(.slice none 0 0),cT,rfl,cU,cX,c0,c3,c4,(by kernel_rfl),(((((((c6.front 4 rfl).front 4 rfl).front 4 rfl).front 4 rfl).front 4 rfl).front 6 rfl).takeN 6)⟩
 refine xn 0<|dF<|sk ?_
 have c8:=bM.dh (aa au)
 obtain rfl:=si aK
 exact ⟨_,ad.2,a0.Rows,ad.1,false,[],a0.aw,a0.Read,cb,cc,J,cd,ar,(.slice none 0 0),[],rfl,bI,bK,bL,(aJ.mono bH),(RCs.bu _),(by kernel_rfl),(((((((c8.front 0 rfl).front 5 rfl).front 3 rfl).front 3 rfl).front 5 rfl).front 6 rfl).takeN 6)⟩
 refine xn 0<|dF<|sk<|sq ?_
 obtain ⟨c9,aO,hm⟩:=ah hm
 refine aI [0,4,5] (fun l h=>∃ aQ aD bz bV aU aW aZ a9 ba bb a3,(aD,bz,bV,aU,aW,aZ)=c9∧RS (α:=al) aQ a9 aD.L∧RS (α:=aq) aQ ba aD.T.ak∧RCs (α:=aj) aQ bb aD.D∧RCs (α:=an) aQ a3 bz∧l=[(0,Pt I 0),(4,V U.1),(5,V U.2)]∧St hs (aR [.ae I [Pt j 0,v11,V a0.Doc, .bool a0.aA,ab,V a0.aw,V a0.Read], .ae j (ay v4 v6 J a0.R), .gs J ax (aa aj), .gs v11 ar (aa an), .gs ab av (aa au)]) Z (0,0) aQ h [.gs ab av (aa au), .ae I [Pt j 0,v11,V bV, .bool aU, .slice none 0 0,V aW,V aZ], .ae j (ay a9 ba J aD), .gs J bb (aa aj), .gs v11 a3 (aa an)]) ?_ ?_
 rintro l ed ⟨aQ,aD,bz,bV,aU,aW,aZ,a9,ba,bb,a3,rfl,bW,bX,bY,bZ,rfl,da⟩
 try dsimp only at hm
 refine s0<|bG 3 1 (V (-1)) [V (-1)] [Pt j 0,v11,V (-1), .bool aU, .slice none 0 0,V aW,V aZ] da rfl rfl rfl ?_
 intro ee db
 refine xn 0<|s0 ?_
 obtain ⟨eg,dc,hm⟩:=ah hm
 refine cE 4 db (fun eh bA dd bB=>j4 F (a0:=(⟨aD,bz,(-1),aU,[],aW,aZ⟩:aV)) dd (RS.mono bA bW) (RS.mono bA bX) (bj.row (bB _ (List.mem_of_getElem? (i:=3) rfl)) bA bY) (bB _ (List.mem_of_getElem? (i:=2) rfl)) (bj.row (bB _ (List.mem_of_getElem? (i:=4) rfl)) bA bZ) (RS.bu _) (bB _ (List.mem_of_getElem? (i:=1) rfl)) dc) ?_
 rintro _ ei b0 rfl
 refine xn 5<|s0<|aP 2 hm ?_ ?_<;>intro ej hm
 refine xn 0<|dT<|g0<|aB 3 1 (Pt j 0) b0 rfl ?_
 obtain ⟨ek,de,hm⟩:=ah hm
 have df:St _ _ _ _ _ _ ([.ae j (ay a9 ba J aD), .gs J bb (aa aj)]++[.gs ab av (aa au), .ae I [Pt j 0,v11,V (-1), .bool aU, .slice none 0 0,V aW,V aZ], .gs v11 a3 (aa an)]):=((b0.front 3 rfl).front 3 rfl)
 refine cB 2 df (fun p=>fD F p bW bX bY de) ?_
 rintro _ en ep _ dg di ⟨dj,dk,dm,dn,rfl,rfl,dp,dq,dr⟩
 refine xn 0 ?_
 have ds:=di.dh (aa au)
 obtain rfl:=si hm
 refine ⟨_,_,_,ResL.nil,((((((ds.front 0 rfl).front 5 rfl).front 3 rfl).front 3 rfl).front 5 rfl).takeN 5),?_⟩
 exact ⟨dj,dk,dm,dn,a3,(.slice none 0 0),[],rfl,rfl,dp,dq,dr,(bZ.mono dg),(RCs.bu _)⟩
 refine xn 0<|dF<|sk ?_
 have dt:=b0.dh (aa au)
 obtain rfl:=si hm
 refine ⟨_,_,_,ResL.nil,((((((dt.front 0 rfl).front 5 rfl).front 5 rfl).front 5 rfl).front 5 rfl).takeN 5),?_⟩
 exact ⟨a9,ba,J,bb,a3,(.slice none 0 0),[],rfl,rfl,bW,bX,bY,bZ,(RCs.bu _)⟩
 refine s0<|aB 3 1 (V a0.Doc) az rfl<|cC 0 aO ?_ ?_<;>intro er aO
 refine xn 0<|dT<|ey Df az ?_
 intro bC et bD a4
 refine yq 3 [(77,Pt I 0),(5,V U.2),(4,V U.1),(0,Pt I 0)] ?_
 have eu:I<bC:=bD.1 _ (List.mem_of_getElem? (i:=1) rfl) _ (by simp [Itm.ids])
 refine aX (v:=Pt j 0) rfl trivial rfl (by show I<_;omega) (aC (v:=Pt j 0) trivial) (a4.aS (i:=1) rfl (by kernel_rfl)) trivial<|yq 3 [(81,Pt I 0),(78,Pt j 0),(5,V U.2),(4,V U.1),(0,Pt I 0)] ?_
 have ew:I<bC:=bD.1 _ (List.mem_of_getElem? (i:=1) rfl) _ (by simp [Itm.ids])
 refine aX (v:=Pt j 0) rfl trivial rfl (by show I<_;omega) (aC (v:=Pt j 0) trivial) (a4.aS (i:=1) rfl (by kernel_rfl)) trivial<|yq 2 [(84,Pt j 1),(78,Pt j 0),(5,V U.2),(4,V U.1),(0,Pt I 0)] ?_
 have ez:j<bC:=bD.1 _ (List.mem_of_getElem? (i:=2) rfl) _ (by simp [Itm.ids])
 refine aX (v:= .agg #[v6]) rfl trivial rfl (by show j<_;omega) (ir (cs:=[v6]) (.cons (RS.dG a6) .nil)) (a4.aS (i:=2) rfl (by kernel_rfl)) trivial<|yq 3 [(88,Pt I 2),(85, .agg #[v6]),(78,Pt j 0),(5,V U.2),(4,V U.1),(0,Pt I 0)] ?_
 have eA:I<bC:=bD.1 _ (List.mem_of_getElem? (i:=1) rfl) _ (by simp [Itm.ids])
 refine aX (v:=V a0.Doc) rfl trivial rfl (by show I<_;omega) (aC (v:=V a0.Doc) trivial) (a4.aS (i:=1) rfl (by kernel_rfl)) trivial<|yq 2 [(91,V (af (U.1+1))),(89,V a0.Doc),(85, .agg #[v6]),(78,Pt j 0),(5,V U.2),(4,V U.1),(0,Pt I 0)] ?_
 obtain ⟨dv,dw,aO⟩:=ah aO
 have dx:=a4.cM
 have cg:St _ _ _ _ _ _ ([]++[.ae bg (cz a1), .ae I [Pt j 0,v11,V a0.Doc, .bool a0.aA, .slice none 0 0,V a0.aw,V a0.Read], .ae j (ay v4 v6 J a0.R), .gs J ax (aa aj), .gs v11 ar (aa an), .gs ab av (aa au)]):=dx
 obtain ⟨eB,eC,eD,eE,dz,b1,bc,rfl,rfl,ch⟩:=rE F cg.eF a6 dw
 have dA:=cg.call b1
 have bE:=b1.ag
 refine fv rfl trivial a4 (dy dz rfl rfl rfl) dA (St.fw b1) ?_
 intro eG dB
 refine yq 2 [(94,Pt j 1),(92, .agg #[bc]),(5,V U.2),(4,V U.1),(0,Pt I 0)] ?_
 have bd:St _ _ _ _ _ _ ([.ae j (ay v4 v6 J a0.R)]++[.ae bg (cz a1), .ae I [Pt j 0,v11,V a0.Doc, .bool a0.aA, .slice none 0 0,V a0.aw,V a0.Read], .gs J ax (aa aj), .gs v11 ar (aa an), .gs ab av (aa au)]):=(dB.front 2 rfl)
 refine g3 rfl trivial bd (gK (vs:=[bc]) (cF:=(ay v4 bc J a0.R)) (L':=[.ae j (ay v4 bc J a0.R)]) bd.sub (i:=0) rfl rfl rfl rfl (by kernel_rfl) (br (RS.c7 ch) cm) rfl rfl rfl) bE (.a5 (bd.bJ 1 rfl bO) (.drop (by decide) (.a5 (bd.bJ 1 rfl bO) (.a5 (bd.bJ 1 rfl bO) .nil)))) ?_
 intro eH dC
 refine yf [(5,V U.2),(4,V U.1),(0,Pt I 0)] ?_
 have dD:=dC.aY
 obtain rfl:=si aO
 exact ⟨_,(⟨a0.R.L,dv,a0.R.D,a0.R.End⟩:aL),a0.Rows,a0.Doc,a0.aA,a0.aw,a0.Read,v4,bc,ax,ar,rfl,(aH.mono bE),ch,(bf.mono bE),(aJ.mono bE),(by kernel_rfl),((((((dD.front 4 rfl).front 4 rfl).front 2 rfl).front 4 rfl).front 5 rfl).takeN 5)⟩
 refine xn 0<|dF<|sk ?_
 obtain rfl:=si aO
 exact ⟨_,a0.R,a0.Rows,a0.Doc,a0.aA,a0.aw,a0.Read,v4,v6,ax,ar,rfl,aH,a6,bf,aJ,(by kernel_rfl),((((((az.front 4 rfl).front 4 rfl).front 4 rfl).front 4 rfl).front 5 rfl).takeN 5)⟩
def lT (F:Nat) (a0:aV) (a1:Int):Option aV:=
 if a0.Doc<(0:Int) then
  (eA F a0.R 0 2 a1 a1).bind fun j=>
  some (⟨j.2,a0.Rows,j.1,false,[],a0.aw,a0.Read⟩:aV)
 else
  some a0
theorem vE (F:Nat) {h:AH} {Z:Zn} {a0:aV} {a1:Int} {ab j v4 v6 J ad v11 U I af} (hP:Pre Z h [.ae ab [Pt j 0,v11,V a0.Doc, .bool a0.aA,I,V a0.aw,V a0.Read], .ae j (ay v4 v6 J a0.R), .gs J ad (aa aj), .gs v11 U (aa an), .gs I af (aa au)]) (ai:RS (α:=al) Z v4 a0.R.L) (ao:RS (α:=aq) Z v6 a0.R.T.ak) (ar:RCs (α:=aj) Z ad a0.R.D) (av:RCs (α:=an) Z U a0.Rows) (aG:RCs (α:=au) Z af a0.S) {r:aV} (hm:lT F a0 a1=some r):
  bQ Try.prog 45 [Pt ab 0,V a1] h Z [.ae ab [Pt j 0,v11,V a0.Doc, .bool a0.aA,I,V a0.aw,V a0.Read], .ae j (ay v4 v6 J a0.R), .gs J ad (aa aj), .gs v11 U (aa an), .gs I af (aa au)] fun v Z' A'=>∃ ax az aC aD aE aF, .tuple #[]=v∧A'=[.ae ab [Pt j 0,v11,V r.Doc, .bool r.aA,aE,V r.aw,V r.Read], .ae j (ay ax az J r.R), .gs J aC (aa aj), .gs v11 aD (aa an), .gs aE aF (aa au)]∧RS (α:=al) Z' ax r.R.L∧RS (α:=aq) Z' az r.R.T.ak∧RCs (α:=aj) Z' aC r.R.D∧RCs (α:=an) Z' aD r.Rows∧RCs (α:=au) Z' aF r.S:=by
 refine b6 Try.func45 hP ?_
 intro hs hS
 unfold lT at hm
 refine s0<|aB 3 0 (V a0.Doc) hS rfl<|aP 0 hm ?_ ?_<;>intro aZ hm
 refine xn 0<|dT<|s0<|aB 4 0 (Pt j 0) hS rfl ?_
 obtain ⟨ag,aH,hm⟩:=ah hm
 have aI:St _ _ _ _ _ _ ([.ae j (ay v4 v6 J a0.R), .gs J ad (aa aj)]++[.ae ab [Pt j 0,v11,V a0.Doc, .bool a0.aA,I,V a0.aw,V a0.Read], .gs v11 U (aa an), .gs I af (aa au)]):=((hS.front 2 rfl).front 2 rfl)
 refine cB 2 aI (fun p=>fY F p ai ao ar aH) ?_
 rintro _ a2 a3 _ aJ aK ⟨aL,aM,aO,rfl,rfl,aQ,aR,aS⟩
 refine bG 2 2 (V ag.1) [V ag.1] [Pt j 0,v11,V ag.1, .bool a0.aA,I,V a0.aw,V a0.Read] aK rfl rfl rfl ?_
 intro a4 aU
 refine xn 0<|g0<|bG 4 2 (.bool false) [.bool false] [Pt j 0,v11,V ag.1, .bool false,I,V a0.aw,V a0.Read] aU rfl rfl rfl ?_
 intro a5 aW
 refine bG 2 2 (.slice none 0 0) [.slice none 0 0] [Pt j 0,v11,V ag.1, .bool false, .slice none 0 0,V a0.aw,V a0.Read] aW rfl rfl rfl ?_
 intro a6 aX
 refine xn 0 ?_
 have aY:=aX.dh (aa au)
 obtain rfl:=si hm
 refine ⟨_,_,_,ResL.nil,((((((aY.front 0 rfl).front 4 rfl).front 3 rfl).front 3 rfl).front 4 rfl).takeN 5),?_⟩
 exact ⟨aL,aM,aO,U,(.slice none 0 0),[],rfl,rfl,aQ,aR,aS,(av.mono aJ),(RCs.bu _)⟩
 refine xn 0<|dF<|sk ?_
 obtain rfl:=si hm
 refine ⟨_,_,_,ResL.nil,hS,?_⟩
 exact ⟨v4,v6,ad,U,I,af,rfl,rfl,ai,ao,ar,av,aG⟩
def lI (F:Nat) (a0:aV) (a1:an):Nat→aL→(List an)→Int→Bool→(List au)→Int→Int→an→Int→(List a4)→Int→Int→Int→Option (Sum (aL×(List an)×Int×Bool×(List au)×Int×Int×an×Int) aV)
 | 0,_,_,_,_,_,_,_,_,_,_,_,_,_=>none
 | n+1,U,aa,ab,ad,ae,ag,ah,aj,ak,J,ao,aq,I=>
  if I<(J.length:Int) then
   if 0≤I∧I<(J.length:Int) then
    (J[I.toNat]?).bind fun ar=>
    (correctorref12_parser_place F (⟨U,aa,ab,ad,ae,ag,ah⟩:aV) ar).bind fun j=>
    if (0:Int)<j.1 then
     if 0≤I∧I<(J.length:Int) then
      (J[I.toNat]?).bind fun av=>
      (ea F j.2.R aq av.ai ak j.1).bind fun ax=>
      some (.inr (⟨ax.2,j.2.Rows,j.2.Doc,j.2.aA,j.2.S,j.2.aw,j.2.Read⟩:aV))
     else none
    else
     if 0≤(af ((j.2.S.length:Int) - 1))∧(af ((j.2.S.length:Int) - 1))<(j.2.S.length:Int) then
      (j.2.S[(af ((j.2.S.length:Int) - 1)).toNat]?).bind fun ay=>
      lI F a0 a1 n j.2.R j.2.Rows j.2.Doc j.2.aA j.2.S j.2.aw j.2.Read aj ak J ao ay.bV (af (I+1))
     else none
   else none
  else
   some (.inl (U,aa,ab,ad,ae,ag,ah,aj,ao))
def nQ (F:Nat) (a0:aV) (a1:an):Option aV:=
 (g6 F a0 a1.ai a1.To).bind fun U=>
 (lT F a0 U.1).bind fun I=>
 (mK F I.R.L a1).bind fun ab=>
 if (ab.1.length:Int)=(0:Int) then
  (m0 F I a1 U.1 U.2).bind fun aq=>
  some aq
 else
  (iP F I).bind fun ar=>
  ((lI F a0 a1 F I.R I.Rows I.Doc I.aA I.S I.aw I.Read a1 U.2 ab.1 ab.2 ar 0):Option (Sum (aL×(List an)×Int×Bool×(List au)×Int×Int×an×Int) aV)).bind fun o=>match o with
   | .inl (ad,ae,ag,ah,j,aj,ak,av,ax)=>(g6 F (⟨ad,ae,ag,ah,j,aj,ak⟩:aV) ax av.To).bind fun ao=>
   if ao.1<ao.2 then
    if 0≤(af ((j.length:Int) - 1))∧(af ((j.length:Int) - 1))<(j.length:Int) then
     (j[(af ((j.length:Int) - 1)).toNat]?).bind fun ay=>
     (iZ F (⟨ad,ae,ag,ah,j,aj,ak⟩:aV) ay.bV ao.1).bind fun J=>
     if 0≤(af ((j.length:Int) - 1))∧(af ((j.length:Int) - 1))<(J.2.S.length:Int) then
      (J.2.S[(af ((j.length:Int) - 1)).toNat]?).bind fun aa=>
      some (⟨J.2.R,J.2.Rows,J.2.Doc,J.2.aA,J.2.S.set (af ((j.length:Int) - 1)).toNat (⟨aa.Node,aa.Kind,aa.aE,aa.bV,J.1⟩:au),J.2.aw,J.2.Read⟩:aV)
     else none
    else none
   else
    some (⟨ad,ae,ag,ah,j,aj,ak⟩:aV)
   | .inr y=>some y
theorem z5 (F:Nat) {h:AH} {Z:Zn} {a0:aV} {a1:an} {I J v4 v6 ab bm v11 bn aQ bo} (hP:Pre Z h [.ae I [Pt J 0,v11,V a0.Doc, .bool a0.aA,aQ,V a0.aw,V a0.Read], .ae J (ay v4 v6 ab a0.R), .gs ab bm (aa aj), .gs v11 bn (aa an), .gs aQ bo (aa au)]) (de:RS (α:=al) Z v4 a0.R.L) (df:RS (α:=aq) Z v6 a0.R.T.ak) (dg:RCs (α:=aj) Z bm a0.R.D) (dh:RCs (α:=an) Z bn a0.Rows) (dj:RCs (α:=au) Z bo a0.S) {r:aV} (hm:nQ F a0 a1=some r):
  bQ Try.prog 43 [Pt I 0, .agg #[V a1.Kind,V a1.ai,V a1.To,V a1.aE]] h Z [.ae I [Pt J 0,v11,V a0.Doc, .bool a0.aA,aQ,V a0.aw,V a0.Read], .ae J (ay v4 v6 ab a0.R), .gs ab bm (aa aj), .gs v11 bn (aa an), .gs aQ bo (aa au)] fun v Z' A'=>∃ dm dp dq dr ds dx dz, .tuple #[]=v∧A'=[.ae I [Pt J 0,v11,V r.Doc, .bool r.aA,dx,V r.aw,V r.Read], .ae J (ay dm dp dq r.R), .gs dq dr (aa aj), .gs v11 ds (aa an), .gs dx dz (aa au)]∧RS (α:=al) Z' dm r.R.L∧RS (α:=aq) Z' dp r.R.T.ak∧RCs (α:=aj) Z' dr r.R.D∧RCs (α:=an) Z' ds r.Rows∧RCs (α:=au) Z' dz r.S:=by
 refine b6 Try.func43 hP ?_
 intro hs hS
 unfold nQ at hm
 refine s0<|dK 0 [V a1.Kind,V a1.ai,V a1.To,V a1.aE] hS ?_
 intro aW fO cr
 refine xn 0<|s0<|aB 2 0 (V a1.ai) cr rfl<|aB 1 0 (V a1.To) cr rfl ?_
 obtain ⟨bd,ew,hm⟩:=ah hm
 refine cE 0 cr (fun fP bI ez bK=>j4 F ez (RS.mono bI de) (RS.mono bI df) (bj.row (bK _ (List.mem_of_getElem? (i:=3) rfl)) bI dg) (bK _ (List.mem_of_getElem? (i:=2) rfl)) (bj.row (bK _ (List.mem_of_getElem? (i:=4) rfl)) bI dh) (bj.row (bK _ (List.mem_of_getElem? (i:=5) rfl)) bI dj) (bK _ (List.mem_of_getElem? (i:=1) rfl)) ew) ?_
 rintro _ fQ eA rfl
 refine xn 5<|s0 ?_
 obtain ⟨ar,eB,hm⟩:=ah hm
 have eC:St _ _ _ _ _ _ ([.ae I [Pt J 0,v11,V a0.Doc, .bool a0.aA,aQ,V a0.aw,V a0.Read], .ae J (ay v4 v6 ab a0.R), .gs ab bm (aa aj), .gs v11 bn (aa an), .gs aQ bo (aa au)]++[.ae aW (cz a1)]):=(((((eA.front 5 rfl).front 5 rfl).front 5 rfl).front 5 rfl).front 5 rfl)
 refine cB 2 eC (fun p=>vE F p de df dg dh dj eB) ?_
 rintro _ fS fT _ fU eD ⟨bL,ct,cu,cv,bM,cw,rfl,rfl,bP,cx,cA,cC,cD⟩
 refine xn 0<|cU wF eD ?_
 intro cF fV cG bR
 refine yq 3 [(29,Pt I 0),(5,V bd.2),(4,V bd.1),(3,Pt aW 0),(0,Pt I 0)] ?_
 have fW:I<cF:=cG.1 _ (List.mem_of_getElem? (i:=0) rfl) _ (by simp [Itm.ids])
 refine aX (v:=Pt J 0) rfl trivial rfl (by show I<_;omega) (aC (v:=Pt J 0) trivial) (bR.aS (i:=0) rfl (by kernel_rfl)) trivial<|yq 2 [(32,Pt J 0),(5,V bd.2),(4,V bd.1),(3,Pt aW 0),(0,Pt I 0)] ?_
 have fX:J<cF:=cG.1 _ (List.mem_of_getElem? (i:=1) rfl) _ (by simp [Itm.ids])
 refine aX (v:=bL) rfl trivial rfl (by show J<_;omega) (aC (v:=bL) (RS.dG bP)) (bR.aS (i:=1) rfl (by kernel_rfl)) trivial ?_
 have fY:aW<cF:=cG.1 _ (List.mem_of_getElem? (i:=5) rfl) _ (by simp [Itm.ids])
 refine aX (v:= .agg #[V a1.Kind,V a1.ai,V a1.To,V a1.aE]) rfl trivial rfl (by show aW<_;omega) (ir (cs:=[V a1.Kind,V a1.ai,V a1.To,V a1.aE]) (.cons trivial (.cons trivial (.cons trivial (.cons trivial .nil))))) (bR.aS (i:=5) rfl (by kernel_rfl)) trivial ?_
 obtain ⟨cI,eE,hm⟩:=ah hm
 have eG:=bR.cM
 have dA:St _ _ _ _ _ _ ([]++[.ae I [Pt J 0,v11,V ar.Doc, .bool ar.aA,bM,V ar.aw,V ar.Read], .ae J (ay bL ct ab ar.R), .gs ab cu (aa aj), .gs v11 cv (aa an), .gs bM cw (aa au), .ae aW (cz a1)]):=eG
 obtain ⟨fZ,ga,gb,gd,eH,cJ,ch,dB,rfl,rfl,dC⟩:=xH F dA.eF bP eE
 have eI:=dA.call cJ
 have az:=cJ.ag
 refine fv rfl trivial bR (dy eH rfl rfl rfl) eI (St.fw cJ) ?_
 intro gf eJ
 refine ye 5 [(7,V cI.2),(6,ch),(5,V bd.2),(4,V bd.1),(3,Pt aW 0),(0,Pt I 0)] ?_
 have cj:=eJ.aY
 refine sq<|s0<|bD 1 ch (cj.dn (i:=0) rfl dC)<|aG 0 hm ?_ ?_<;>intro gg hm
 refine xn 0<|dT<|s0<|aB 1 6 (.agg #[V a1.Kind,V a1.ai,V a1.To,V a1.aE]) cj rfl ?_
 obtain ⟨gh,eK,hm⟩:=ah hm
 have eL:St _ _ _ _ _ _ ([.ae I [Pt J 0,v11,V ar.Doc, .bool ar.aA,bM,V ar.aw,V ar.Read], .ae J (ay bL ct ab ar.R), .gs ab cu (aa aj), .gs v11 cv (aa an), .gs bM cw (aa au)]++[.gs ch dB (aa a4), .ae aW (cz a1)]):=(((((cj.front 5 rfl).front 5 rfl).front 5 rfl).front 5 rfl).front 5 rfl)
 refine cB 2 eL (fun p=>Ep F p (bP.mono az) (cx.mono az) (cA.mono az) (cC.mono az) (cD.mono az) eK) ?_
 rintro _ gj gk _ gl eM ⟨eN,eO,eP,eQ,eR,eS,eT,rfl,rfl,eU,eV,eW,eX,eY⟩
 refine xn 0<|rt<|⟨rfl,?_⟩
 obtain rfl:=si hm
 refine ⟨_,_,_,ResL.nil,(eM.takeN 5),?_⟩
 exact ⟨eN,eO,eP,eQ,eR,eS,eT,rfl,rfl,eU,eV,eW,eX,eY⟩
 refine xn 0<|dF<|sk<|s0 ?_
 obtain ⟨eZ,e0,hm⟩:=ah hm
 refine cE 1 cj (fun gm bS e2 bT=>nI F e2 (RS.mono bS (bP.mono az)) (RS.mono bS (cx.mono az)) (bj.row (bT _ (List.mem_of_getElem? (i:=3) rfl)) bS (cA.mono az)) (bT _ (List.mem_of_getElem? (i:=2) rfl)) (bj.row (bT _ (List.mem_of_getElem? (i:=4) rfl)) bS (cC.mono az)) (bj.row (bT _ (List.mem_of_getElem? (i:=5) rfl)) bS (cD.mono az)) (bT _ (List.mem_of_getElem? (i:=1) rfl)) e0) ?_
 rintro _ gn e3 rfl
 refine xn 1<|sq<|sp 1 ?_
 obtain ⟨cK,U,hm⟩:=ah hm
 refine aI [0,3,7] (fun l h=>∃ bf a2 bU bp bq ax br bu bw cL bW bX bY bZ ad b0 b1, .inl (a2,bU,bp,bq,ax,br,bu,bw,cL)=cK∧RS (α:=al) bf bW a2.L∧RS (α:=aq) bf bX a2.T.ak∧RCs (α:=aj) bf bY a2.D∧RCs (α:=an) bf bZ bU∧RCs (α:=au) bf b0 ax∧l=[(0,Pt I 0),(3,Pt b1 0),(7,V cL)]∧St hs (aR [.ae I [Pt J 0,v11,V a0.Doc, .bool a0.aA,aQ,V a0.aw,V a0.Read], .ae J (ay v4 v6 ab a0.R), .gs ab bm (aa aj), .gs v11 bn (aa an), .gs aQ bo (aa au)]) Z (0,0) bf h [.ae I [Pt J 0,v11,V bp, .bool bq,ad,V br,V bu], .ae J (ay bW bX ab a2), .gs ab bY (aa aj), .gs v11 bZ (aa an), .gs ad b0 (aa au), .ae b1 (cz bw)]) ?_ ?_
 rintro l gq ⟨bf,a2,bU,bp,bq,ax,br,bu,bw,cL,bW,bX,bY,bZ,ad,b0,b1,rfl,cN,cO,cP,cQ,bg,rfl,dD⟩
 try dsimp only at hm
 refine s0<|aB 3 5 (V bw.To) dD rfl ?_
 obtain ⟨b2,e4,hm⟩:=ah hm
 refine cE 0 dD (fun gr b3 e5 b4=>j4 F (a0:=(⟨a2,bU,bp,bq,ax,br,bu⟩:aV)) e5 (RS.mono b3 cN) (RS.mono b3 cO) (bj.row (b4 _ (List.mem_of_getElem? (i:=2) rfl)) b3 cP) (b4 _ (List.mem_of_getElem? (i:=1) rfl)) (bj.row (b4 _ (List.mem_of_getElem? (i:=3) rfl)) b3 cQ) (bj.row (b4 _ (List.mem_of_getElem? (i:=4) rfl)) b3 bg) (b4 _ (List.mem_of_getElem? (i:=0) rfl)) e4) ?_
 rintro _ gu ck rfl
 refine xn 5<|s0<|aP 2 hm ?_ ?_<;>intro gv hm
 refine xn 0<|dT<|s0<|aB 3 0 ad ck rfl<|bD 0 ad (ck.dn (i:=4) rfl bg)<|xn 2<|ey zZ ck ?_
 intro cR gw cS a9
 refine yq 3 [(107,Pt I 4),(13,V (af ((ax.length:Int) - 1))),(11,V b2.1),(0,Pt I 0)] ?_
 have gx:I<cR:=cS.1 _ (List.mem_of_getElem? (i:=0) rfl) _ (by simp [Itm.ids])
 refine aX (v:=ad) rfl trivial rfl (by show I<_;omega) (aC (v:=ad) (a9.di (i:=4) rfl)) (a9.aS (i:=0) rfl (by kernel_rfl)) trivial<|yq 5 [(113,Pt I 4),(110,Pt I 0),(109,V (af ((ax.length:Int) - 1))),(108,ad),(13,V (af ((ax.length:Int) - 1))),(11,V b2.1)] ?_
 have gy:I<cR:=cS.1 _ (List.mem_of_getElem? (i:=0) rfl) _ (by simp [Itm.ids])
 refine aX (v:=ad) rfl trivial rfl (by show I<_;omega) (aC (v:=ad) (a9.di (i:=4) rfl)) (a9.aS (i:=0) rfl (by kernel_rfl)) trivial<|yq 1 [(115,V (af ((ax.length:Int) - 1))),(114,ad),(110,Pt I 0),(109,V (af ((ax.length:Int) - 1))),(108,ad),(11,V b2.1)] ?_
 obtain ⟨dH,hm⟩:=aJ hm
 refine aD rfl trivial (bA rfl rfl (by kernel_rfl:slTy _ _=some (aa au)) (a9.bN (j:=4) rfl bg (by omega)) dH.1 dH.2)<|yq 1 [(117, .pointer (some (ba ad (af ((ax.length:Int) - 1)) (aa au) 3))),(110,Pt I 0),(109,V (af ((ax.length:Int) - 1))),(108,ad),(11,V b2.1)] ?_
 obtain ⟨cT,dI,hm⟩:=ah hm
 obtain ⟨gz,e6,e7,gA⟩:=a9.cp (j:=4) rfl bg (i:=af ((ax.length:Int) - 1)) dI
 obtain rfl:=et e6
 have e8:=dw dI
 have e9:=a9.bN (j:=4) rfl bg e8
 have gB:(baseOf ad).block<cR:=dk (cS.1 _ (List.mem_of_getElem? (i:=4) rfl)) e9
 refine dt rfl trivial rfl (by show (baseOf ad).block<_;omega) (aC (v:=V cT.bV) trivial) (bH (w:=V cT.bV) e7 rfl (by kernel_rfl)) trivial<|yq 1 [(119,V b2.1),(118,V cT.bV),(110,Pt I 0),(109,V (af ((ax.length:Int) - 1))),(108,ad)] ?_
 obtain ⟨a6,fa,hm⟩:=ah hm
 have dJ:St _ _ _ _ _ _ ([.ae I [Pt J 0,v11,V bp, .bool bq,ad,V br,V bu], .ae J (ay bW bX ab a2), .gs ab bY (aa aj), .gs v11 bZ (aa an), .gs ad b0 (aa au)]++[.ae b1 (cz bw)]):=(((((a9.front 4 rfl).front 4 rfl).front 4 rfl).front 4 rfl).front 4 rfl)
 obtain ⟨gC,gD,gE,gF,fb,cX,dL,dM,c0,dN,dO,fc,rfl,rfl,fe,ff,fg,fh,c3⟩:=pe F (a0:=(⟨a2,bU,bp,bq,ax,br,bu⟩:aV)) dJ.cM.eF cN cO cP cQ bg fa
 have dP:=cX.ag
 refine fK rfl trivial dJ (dy fb rfl rfl rfl) cX dP (.drop (by decide) (.drop (by decide) (.pQ (cX.aS (i:=0) rfl (by kernel_rfl)) .nil))) ?_
 intro gH c4
 obtain ⟨dQ,hm⟩:=aJ hm
 refine aD rfl trivial (bA rfl rfl (by kernel_rfl:slTy _ _=some (aa au)) (c4.bN (j:=4) rfl c3 (by omega)) dQ.1 dQ.2)<|yq 1 [(122, .pointer (some (ba ad (af ((ax.length:Int) - 1)) (aa au) 4))),(120, .bool a6.1)] ?_
 obtain ⟨bb,dR,hm⟩:=ah hm
 obtain ⟨gI,fi,gJ,fj⟩:=c4.cp (j:=4) rfl c3 (i:=af ((ax.length:Int) - 1)) dR
 obtain rfl:=et fi
 have c6:St _ _ _ _ _ _ ([.gs ad fc (aa au)]++[.ae I [Pt J 0,v11,V a6.2.Doc, .bool a6.2.aA,ad,V a6.2.aw,V a6.2.Read], .ae J (ay dL dM c0 a6.2.R), .gs c0 dN (aa aj), .gs v11 dO (aa an), .ae b1 (cz bw)]):=(c4.front 4 rfl)
 refine nN rfl trivial c6 (gi (u':=(⟨bb.Node,bb.Kind,bb.aE,bb.bV,a6.1⟩:au)) (vs:=[.bool a6.1]) (aZ:=[V bb.Node,V bb.Kind,V bb.aE,V bb.bV, .bool a6.1]) c6.sub (m:=0) rfl c3 dR fj rfl rfl rfl (by kernel_rfl) rfl rfl rfl rfl) dP (.drop (by decide) (.drop (by decide) (.a5 (c6.bJ 0 rfl bO) .nil))) ?_
 rintro gK fk ⟨fl,fm⟩
 refine yf [] ?_
 have fo:=fm.aY
 obtain rfl:=si hm
 refine ⟨_,_,_,ResL.nil,((((((fo.front 0 rfl).front 4 rfl).front 4 rfl).front 4 rfl).front 4 rfl).takeN 5),?_⟩
 exact ⟨dL,dM,c0,dN,dO,ad,fk,rfl,rfl,fe,ff,fg,fh,fl⟩
 refine xn 0<|dF<|sk ?_
 obtain rfl:=si hm
 refine ⟨_,_,_,ResL.nil,(ck.takeN 5),?_⟩
 exact ⟨bW,bX,ab,bY,bZ,ad,b0,rfl,rfl,cN,cO,cP,cQ,bg⟩
 refine bk 0<|lp [0,3,5,6,7,8,9] (fun n l h=>∃ bc a7 b5 bx bz b7 bB bC bh aF cl aU aM aH b8 b9 ca cb bE cc aL av bF,lI F a0 a1 n a7 b5 bx bz b7 bB bC bh aF cl aU aM aH=some cK∧RS (α:=al) bc b8 a7.L∧RS (α:=aq) bc b9 a7.T.ak∧RCs (α:=aj) bc ca a7.D∧RCs (α:=an) bc cb b5∧RCs (α:=au) bc cc b7∧RCs (α:=a4) bc bF cl∧l=[(0,Pt I 0),(3,Pt aL 0),(5,V aF),(6,av),(7,V aU),(8,V aM),(9,V aH)]∧St hs (aR [.ae I [Pt J 0,v11,V a0.Doc, .bool a0.aA,aQ,V a0.aw,V a0.Read], .ae J (ay v4 v6 ab a0.R), .gs ab bm (aa aj), .gs v11 bn (aa an), .gs aQ bo (aa au)]) Z (0,0) bc h [.ae I [Pt J 0,v11,V bx, .bool bz,bE,V bB,V bC], .ae J (ay b8 b9 ab a7), .gs ab ca (aa aj), .gs v11 cb (aa an), .gs bE cc (aa au), .ae aL (cz bh), .gs av bF (aa a4)]) F ⟨_,ar.R,ar.Rows,ar.Doc,ar.aA,ar.S,ar.aw,ar.Read,a1,bd.2,cI.1,cI.2,eZ,0,bL,ct,cu,cv,bM,cw,aW,ch,dB,U,(bP.mono az),(cx.mono az),(cA.mono az),(cC.mono az),(cD.mono az),dC,(by kernel_rfl),(((((((e3.front 0 rfl).front 6 rfl).front 6 rfl).front 6 rfl).front 6 rfl).front 6 rfl).front 6 rfl)⟩ ?_
 rintro c7 l gL ⟨bc,a7,b5,bx,bz,b7,bB,bC,bh,aF,cl,aU,aM,aH,b8,b9,ca,cb,bE,cc,aL,av,bF,U,dS,dU,dV,dW,dX,bl,rfl,cd⟩
 rcases c7 with _ | c7
 cases (show none=some cK from U)
 rw [lI] at U
 refine sq<|s0<|bD 2 av (cd.dn (i:=6) rfl bl)<|aP 0 U ?_ ?_<;>intro gM U
 refine xn 0<|dT<|sk<|sq<|bk 1<|s0<|dv 3 6 U cd bl rfl ?_
 intro gN U
 refine eh 0 0 6 (fun cf=> .agg #[.bool cf.iA,V cf.aE,V cf.ai,V cf.To]) U cd bl rfl ?_
 intro cf gO U
 obtain ⟨ao,fp,U⟩:=ah U
 have fq:St _ _ _ _ _ _ ([.ae I [Pt J 0,v11,V bx, .bool bz,bE,V bB,V bC], .ae J (ay b8 b9 ab a7), .gs ab ca (aa aj), .gs v11 cb (aa an), .gs bE cc (aa au)]++[.ae aL (cz bh), .gs av bF (aa a4)]):=(((((cd.front 4 rfl).front 4 rfl).front 4 rfl).front 4 rfl).front 4 rfl)
 refine cB 0 fq (fun p=>yO F (a0:=(⟨a7,b5,bx,bz,b7,bB,bC⟩:aV)) p dS dU dV dW dX fp) ?_
 rintro _ gP gQ _ cm dY ⟨dZ,ea,eb,c8,aK,c9,rfl,rfl,ec,ed,ee,eg,bG⟩
 refine xn 1<|sq<|s0<|cH 1 U ?_ ?_<;>intro gR U
 refine xn 0<|dT<|cU z3 dY ?_
 intro ei gS ej cg
 refine yq 3 [(64,Pt I 0),(10,V ao.1),(5,V aF),(6,av),(8,V aM),(9,V aH)] ?_
 have gT:I<ei:=ej.1 _ (List.mem_of_getElem? (i:=0) rfl) _ (by simp [Itm.ids])
 refine aX (v:=Pt J 0) rfl trivial rfl (by show I<_;omega) (aC (v:=Pt J 0) trivial) (cg.aS (i:=0) rfl (by kernel_rfl)) trivial<|yq 3 [(68,V aH),(67,av),(66,V aM),(65,Pt J 0),(10,V ao.1),(5,V aF)] ?_
 obtain ⟨ek,U⟩:=aJ U
 refine aD rfl trivial (bA rfl rfl (by kernel_rfl:slTy _ _=some (aa a4)) (cg.bN (j:=6) rfl (bl.mono cm) (by omega)) ek.1 ek.2)<|yq 1 [(70, .pointer (some (ba av aH (aa a4) 2))),(66,V aM),(65,Pt J 0),(10,V ao.1),(5,V aF)] ?_
 obtain ⟨da,en,U⟩:=ah U
 obtain ⟨gU,fr,fs,gV⟩:=cg.cp (j:=6) rfl (bl.mono cm) (i:=aH) en
 obtain rfl:=s6 fr
 have ft:=dw en
 have eo:=cg.bN (j:=6) rfl (bl.mono cm) ft
 have gW:(baseOf av).block<ei:=dk (ej.1 _ (List.mem_of_getElem? (i:=6) rfl)) eo
 refine dt rfl trivial rfl (by show (baseOf av).block<_;omega) (aC (v:=V da.ai) trivial) (bH (w:=V da.ai) fs rfl (by kernel_rfl)) trivial<|yq 2 [(73,V ao.1),(72,V aF),(71,V da.ai),(66,V aM),(65,Pt J 0)] ?_
 obtain ⟨gX,fu,U⟩:=ah U
 have cn:St _ _ _ _ _ _ ([.ae J (ay dZ ea ab ao.2.R), .gs ab eb (aa aj)]++[.ae I [Pt J 0,v11,V ao.2.Doc, .bool ao.2.aA,aK,V ao.2.aw,V ao.2.Read], .gs v11 c8 (aa an), .gs aK c9 (aa au), .ae aL (cz bh), .gs av bF (aa a4)]):=((cg.front 2 rfl).front 2 rfl)
 obtain ⟨gY,gZ,g0,g1,fx,ep,fy,fz,fA,fB,rfl,rfl,fC,fE,fF⟩:=fD F cn.cM.eF ec ed ee fu
 have db:=ep.ag
 refine fK rfl trivial cn (dy fx rfl rfl rfl) ep db (.a5 (cn.bJ 4 rfl (kZ eo)) (.a5 (cn.bJ 0 rfl bO) .nil)) ?_
 intro g2 fG
 refine yf [] ?_
 have fH:=fG.aY
 refine rt<|a3<|a3<|⟨rfl,?_⟩
 obtain rfl:=si U
 obtain rfl:=si hm
 refine ⟨_,_,_,ResL.nil,((((((fH.front 4 rfl).front 4 rfl).front 3 rfl).front 3 rfl).front 4 rfl).takeN 5),?_⟩
 exact ⟨fy,fz,fA,fB,c8,aK,c9,rfl,rfl,fC,fE,fF,(eg.mono db),(bG.mono db)⟩
 refine xn 0<|dF<|sk<|ey CF dY ?_
 intro dc g3 dd a8
 refine yq 3 [(77,Pt I 4),(0,Pt I 0),(3,Pt aL 0),(5,V aF),(6,av),(7,V aU),(8,V aM),(9,V aH)] ?_
 have g4:I<dc:=dd.1 _ (List.mem_of_getElem? (i:=0) rfl) _ (by simp [Itm.ids])
 refine aX (v:=aK) rfl trivial rfl (by show I<_;omega) (aC (v:=aK) (a8.di (i:=4) rfl)) (a8.aS (i:=0) rfl (by kernel_rfl)) trivial<|yq 3 [(81,Pt I 4),(78,aK),(0,Pt I 0),(3,Pt aL 0),(5,V aF),(6,av),(7,V aU),(8,V aM),(9,V aH)] ?_
 have g5:I<dc:=dd.1 _ (List.mem_of_getElem? (i:=0) rfl) _ (by simp [Itm.ids])
 refine aX (v:=aK) rfl trivial rfl (by show I<_;omega) (aC (v:=aK) (a8.di (i:=4) rfl)) (a8.aS (i:=0) rfl (by kernel_rfl)) trivial<|aD rfl trivial (gG rfl (a8.dn (i:=4) rfl bG) ⟨_,Try.underlying59⟩)<|yq 1 [(84,V (af ((ao.2.S.length:Int) - 1))),(78,aK),(0,Pt I 0),(3,Pt aL 0),(5,V aF),(6,av),(7,V aU),(8,V aM),(9,V aH)] ?_
 obtain ⟨er,U⟩:=aJ U
 refine aD rfl trivial (bA rfl rfl (by kernel_rfl:slTy _ _=some (aa au)) (a8.bN (j:=4) rfl bG (by omega)) er.1 er.2)<|yq 1 [(86, .pointer (some (ba aK (af ((ao.2.S.length:Int) - 1)) (aa au) 3))),(0,Pt I 0),(3,Pt aL 0),(5,V aF),(6,av),(7,V aU),(8,V aM),(9,V aH)] ?_
 obtain ⟨cq,eu,U⟩:=ah U
 obtain ⟨g6,fI,fJ,g7⟩:=a8.cp (j:=4) rfl bG (i:=af ((ao.2.S.length:Int) - 1)) eu
 obtain rfl:=et fI
 have fL:=dw eu
 have fM:=a8.bN (j:=4) rfl bG fL
 have g8:(baseOf aK).block<dc:=dk (dd.1 _ (List.mem_of_getElem? (i:=4) rfl)) fM
 refine dt rfl trivial rfl (by show (baseOf aK).block<_;omega) (aC (v:=V cq.bV) trivial) (bH (w:=V cq.bV) fJ rfl (by kernel_rfl)) trivial<|ye 1 [(8,V cq.bV),(0,Pt I 0),(3,Pt aL 0),(5,V aF),(6,av),(7,V aU),(9,V aH)] ?_
 have fN:=a8.aY
 refine gp 3 ?_
 exact ⟨c7,Nat.lt_succ_self _,⟨_,ao.2.R,ao.2.Rows,ao.2.Doc,ao.2.aA,ao.2.S,ao.2.aw,ao.2.Read,bh,aF,cl,aU,cq.bV,af (aH+1),dZ,ea,eb,c8,aK,c9,aL,av,bF,U,ec,ed,ee,eg,bG,(bl.mono cm),(by kernel_rfl),fN⟩⟩
 refine xn 0<|dF<|xt 0<|aO ?_
 obtain rfl:=si U
 exact ⟨_,a7,b5,bx,bz,b7,bB,bC,bh,aU,b8,b9,ca,cb,bE,cc,aL,rfl,dS,dU,dV,dW,dX,(by kernel_rfl),(cd.takeN 6)⟩
end Go.Proofs.Ytcilejikekccmaa.M
