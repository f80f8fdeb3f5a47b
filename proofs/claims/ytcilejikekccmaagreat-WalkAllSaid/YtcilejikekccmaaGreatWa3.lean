/- Packed by a program of this session (mini.py). -/
import Derived.Test.YtcilejikekccmaaGreatWa2
set_option linter.unusedVariables false
set_option linter.unusedSimpArgs false
set_option maxRecDepth 20000
namespace Go.Proofs.YtcilejikekccmaaGreat.M
section
open Go Am Sy
open Sy.Cell (rc)
structure aj where
 Code:Int
 ah:Int
 To:Int
 deriving DecidableEq,Inhabited
instance:Cell aj where
 size:=3
 rc Z cs x:=cs=[V x.Code,V x.ah,V x.To]
 len h:=by rw [h];rfl
 mono _ h:=h
 one h:=by rw [h];rfl
 pos:=by decide
theorem nZ {Z:Zn} {cs:List Value} {x:aj} (h:rc Z cs x):cs=[V x.Code,V x.ah,V x.To]:=h
abbrev FA (x:aj):List Value:=[V x.Code,V x.ah,V x.To]
instance:FC aj:=⟨FA,fun q=>q⟩
structure aQ where
 L:List al
 T:bK
 D:List aj
 End:Int
 deriving DecidableEq,Inhabited
instance:Cell aQ where
 size:=4
 rc Z cs x:=∃ v0,RS (α:=al) Z v0 x.L∧∃ v1,RS (α:=aq) Z v1 x.T.an∧∃ v2,RS (α:=aj) Z v2 x.D∧cs=[v0,v1,v2,V x.End]
 len h:=by obtain ⟨v0,j,v1,I,v2,J,h⟩:=h;rw [h];rfl
 mono hz h:=by obtain ⟨v0,j,v1,I,v2,J,h⟩:=h;exact ⟨v0,j.mono hz,v1,I.mono hz,v2,J.mono hz,h⟩
 one h:=by obtain ⟨v0,j,v1,I,v2,J,h⟩:=h;subst h;exact (bz j.di (bz I.di (bz J.di (bz rfl cz))))
 pos:=by decide
abbrev aB (v0 v1 v2:Value) (x:aQ):List Value:=[v0,v1,v2,V x.End]
structure aw where
 Node:Int
 Kind:Int
 aI:Int
 b4:Int
 Has:Bool
 deriving DecidableEq,Inhabited
instance:Cell aw where
 size:=5
 rc Z cs x:=cs=[V x.Node,V x.Kind,V x.aI,V x.b4, .bool x.Has]
 len h:=by rw [h];rfl
 mono _ h:=h
 one h:=by rw [h];rfl
 pos:=by decide
theorem eI {Z:Zn} {cs:List Value} {x:aw} (h:rc Z cs x):cs=[V x.Node,V x.Kind,V x.aI,V x.b4, .bool x.Has]:=h
abbrev qZ (x:aw):List Value:=[V x.Node,V x.Kind,V x.aI,V x.b4, .bool x.Has]
instance:FC aw:=⟨qZ,fun q=>q⟩
structure a5 where
 R:aQ
 Rows:List av
 Doc:Int
 aE:Bool
 S:List aw
 aA:Int
 Read:Int
 deriving DecidableEq,Inhabited
theorem A9 {x y:aj} (h:x=y):aBin Tryz.prog .eql 94 (.agg #[V x.Code,V x.ah,V x.To]) (.agg #[V y.Code,V y.ah,V y.To])=some (.bool true):=by
 subst h
 refine tX Tryz.underlying94 (by kernel_rfl) (by kernel_rfl) (w:=true)<|ij (by decide) rfl rfl ((fK ⟨_,Tryz.underlying3⟩).trans (by simp))<|ij (by decide) rfl rfl ((fK ⟨_,Tryz.underlying3⟩).trans (by simp))<|ij (by decide) rfl rfl ((fK ⟨_,Tryz.underlying3⟩).trans (by simp)) ?_
 rfl
theorem wS {x y:aj} (h:¬ x=y):aBin Tryz.prog .eql 94 (.agg #[V x.Code,V x.ah,V x.To]) (.agg #[V y.Code,V y.ah,V y.To])=some (.bool false):=by
 refine tX Tryz.underlying94 (by kernel_rfl) (by kernel_rfl) (w:=false) ?_
 by_cases h0:x.Code=y.Code
 case neg=>exact ny (by decide) rfl rfl ((fK ⟨_,Tryz.underlying3⟩).trans (by simp [h0]))
 refine ij (by decide) rfl rfl ((fK ⟨_,Tryz.underlying3⟩).trans (by simp [h0])) ?_
 by_cases h1:x.ah=y.ah
 case neg=>exact ny (by decide) rfl rfl ((fK ⟨_,Tryz.underlying3⟩).trans (by simp [h1]))
 refine ij (by decide) rfl rfl ((fK ⟨_,Tryz.underlying3⟩).trans (by simp [h1])) ?_
 by_cases h2:x.To=y.To
 case neg=>exact ny (by decide) rfl rfl ((fK ⟨_,Tryz.underlying3⟩).trans (by simp [h2]))
 refine ij (by decide) rfl rfl ((fK ⟨_,Tryz.underlying3⟩).trans (by simp [h2])) ?_
 exact absurd (by cases x;cases y;simp_all) h
def correctorref12_parser_counting_l0 (F:Nat) (a0:a5) (a1:Int) (I:Int):Nat→Int→Option Int
 | 0,_=>none
 | n+1,j=>
  if j<I then
   if 0≤j∧j<(a0.R.L.length:Int) then
    (a0.R.L[j.toNat]?).bind fun J=>
    (fH F J.Kind).bind fun U=>
    if U=true then
     some j
    else
     correctorref12_parser_counting_l0 F a0 a1 I n (af (j+1))
   else none
  else
   some j
def correctorref12_parser_counting_l1 (F:Nat) (a0:a5) (a1:Int) (J:Int):Nat→Int→Int→Option (Int×Int)
 | 0,_,_=>none
 | n+1,I,j=>
  if I<j then
   if 0≤(af (j - 1))∧(af (j - 1))<(a0.R.L.length:Int) then
    (a0.R.L[(af (j - 1)).toNat]?).bind fun U=>
    (fH F U.Kind).bind fun aa=>
    if aa=true then
     some (I,j)
    else
     correctorref12_parser_counting_l1 F a0 a1 J n I (af (j - 1))
   else none
  else
   some (I,j)
def g8 (F:Nat) (a0:a5) (a1:Int) (j:Int):Option (Int×Int):=
 ((correctorref12_parser_counting_l0 F a0 a1 j F a1):Option Int).bind fun o=>match o with
  | I=>((correctorref12_parser_counting_l1 F a0 a1 j F I j):Option (Int×Int)).bind fun o=>match o with
   | (J,U)=>some (J,U)
theorem ln (F:Nat) {h:AH} {Z:Zn} {a0:a5} {a1:Int} {aa:Int} {ah ak v4 v6 aF v11 aG} (hI:Inv Z h) (ao:RS (α:=al) Z v4 a0.R.L) (aZ:RS (α:=aq) Z v6 a0.R.T.an) (a2:RS (α:=aj) Z aF a0.R.D) (aH:Z ak=some (aB v4 v6 aF a0.R)) (a3:RS (α:=av) Z v11 a0.Rows) (a6:RS (α:=aw) Z aG a0.S) (aI:Z ah=some [Pt ak 0,v11,V a0.Doc, .bool a0.aE,aG,V a0.aA,V a0.Read]) {r:Int×Int} (hm:g8 F a0 a1 aa=some r):
  bY Tryz.prog 48 [Pt ah 0,V a1,V aa] h Z (.tuple #[V r.1,V r.2]):=by
 refine b1 Tryz.func48 hI ?_
 intro hs hS
 unfold g8 at hm
 refine sp 2<|sp 4<|sq ?_
 obtain ⟨ay,j,hm⟩:=ai hm
 refine aJ [0,8,9] (fun l h=>∃ aK ar,ar=ay∧l=[(0,Pt ah 0),(8,V ar),(9,V aa)]∧St hs [] Z (0,0) aK h []) ?_ ?_
 rintro l a9 ⟨aK,ar,rfl,rfl,aV⟩
 try dsimp only at hm
 refine sq ?_
 obtain ⟨az,I,hm⟩:=ai hm
 refine aJ [8,9] (fun l h=>∃ aL au ax,(au,ax)=az∧l=[(8,V au),(9,V ax)]∧St hs [] Z (0,0) aL h []) ?_ ?_
 rintro l ba ⟨aL,au,ax,rfl,rfl,aW⟩
 try dsimp only at hm
 refine sp 4<|rt<|⟨rfl,?_⟩
 obtain rfl:=si hm
 refine ⟨_,_,_,tk (V au) (tk (V ax) (ResL.nil)),aW,?_⟩
 exact rfl
 refine bk 2<|lp [0,8,9] (fun n l h=>∃ aM ab ad,correctorref12_parser_counting_l1 F a0 a1 aa n ab ad=some az∧l=[(0,Pt ah 0),(8,V ab),(9,V ad)]∧St hs [] Z (0,0) aM h []) F ⟨_,ar,aa,I,(by kernel_rfl),aV⟩ ?_
 rintro aC l bb ⟨aM,ab,ad,I,rfl,J⟩
 rcases aC with _ | aC
 cases (show none=some az from I)
 rw [correctorref12_parser_counting_l1] at I
 refine sq<|s0<|cZ 2 I ?_ ?_<;>intro bc I
 refine bF 4 (Pt ak 0) J (J.ag _ _ aI)<|bF 2 v4 J (J.ag _ _ aH)<|a8 2 I (ao.mono J.ag) ?_
 intro bd I
 refine bt 1 0 (fun aN=>V aN.Kind) I (ao.mono J.ag) J ?_
 intro aN bf I
 obtain ⟨bg,aX,I⟩:=ai I
 refine cP 0 J (iW F J.inv aX) ?_
 rintro _ bh aO rfl
 refine kb 0 48 I ?_ ?_<;>intro bj I
 refine xn 2<|dF<|xt 2<|aS ?_
 obtain rfl:=si I
 exact ⟨_,ab,ad,rfl,(by kernel_rfl),aO⟩
 refine xn 2<|dT<|sk<|bk 3<|gp 3 ?_
 exact ⟨aC,a7 _,⟨_,ab,af (ad - 1),I,(by kernel_rfl),aO⟩⟩
 refine xn 16<|dF<|xt 2<|aS ?_
 obtain rfl:=si I
 exact ⟨_,ab,ad,rfl,(by kernel_rfl),J⟩
 refine bk 0<|lp [0,8,9] (fun n l h=>∃ aP ae,correctorref12_parser_counting_l0 F a0 a1 aa n ae=some ay∧l=[(0,Pt ah 0),(8,V ae),(9,V aa)]∧St hs [] Z (0,0) aP h []) F ⟨_,a1,j,(by kernel_rfl),hS⟩ ?_
 rintro aD l bl ⟨aP,ae,j,rfl,U⟩
 rcases aD with _ | aD
 cases (show none=some ay from j)
 rw [correctorref12_parser_counting_l0] at j
 refine sq<|s0<|aT 2 j ?_ ?_<;>intro bm j
 refine bF 4 (Pt ak 0) U (U.ag _ _ aI)<|bF 2 v4 U (U.ag _ _ aH)<|a8 1 j (ao.mono U.ag) ?_
 intro bn j
 refine bt 1 0 (fun aQ=>V aQ.Kind) j (ao.mono U.ag) U ?_
 intro aQ bo j
 obtain ⟨bp,aY,j⟩:=ai j
 refine cP 0 U (iW F U.inv aY) ?_
 rintro _ bq aU rfl
 refine kb 0 27 j ?_ ?_<;>intro bu j
 refine xn 2<|dF<|xt 0<|aS ?_
 obtain rfl:=si j
 exact ⟨_,ae,rfl,(by kernel_rfl),aU⟩
 refine xn 2<|dT<|sk<|bk 1<|gp 3 ?_
 exact ⟨aD,a7 _,⟨_,af (ae+1),j,(by kernel_rfl),aU⟩⟩
 refine xn 15<|dF<|xt 0<|aS ?_
 obtain rfl:=si j
 exact ⟨_,ae,rfl,(by kernel_rfl),U⟩
def ly (F:Nat) (a0:a5) (a1:Int):Nat→Int→Option Int
 | 0,_=>none
 | n+1,j=>
  if j<(a0.R.L.length:Int) then
   if 0≤j∧j<(a0.R.L.length:Int) then
    (a0.R.L[j.toNat]?).bind fun I=>
    if I.Kind=(20:Int) then
     some j
    else
     if 0≤j∧j<(a0.R.L.length:Int) then
      (a0.R.L[j.toNat]?).bind fun J=>
      if J.Kind=(21:Int) then
       some j
      else
       ly F a0 a1 n (af (j+1))
     else none
   else none
  else
   some j
def oE (F:Nat) (a0:a5) (a1:Int):Option Int:=
 ((ly F a0 a1 F a1):Option Int).bind fun o=>match o with
  | j=>some j
theorem DD (F:Nat) {h:AH} {Z:Zn} {a0:a5} {a1:Int} {ad U v4 v6 ar v11 au} (hI:Inv Z h) (aa:RS (α:=al) Z v4 a0.R.L) (aF:RS (α:=aq) Z v6 a0.R.T.an) (aG:RS (α:=aj) Z ar a0.R.D) (ae:Z U=some (aB v4 v6 ar a0.R)) (aH:RS (α:=av) Z v11 a0.Rows) (aI:RS (α:=aw) Z au a0.S) (ah:Z ad=some [Pt U 0,v11,V a0.Doc, .bool a0.aE,au,V a0.aA,V a0.Read]) {r:Int} (hm:oE F a0 a1=some r):
  bY Tryz.prog 82 [Pt ad 0,V a1] h Z (V r):=by
 refine b1 Tryz.func82 hI ?_
 intro hs hS
 unfold oE at hm
 refine sp 1<|sp 2<|sq ?_
 obtain ⟨ak,I,hm⟩:=ai hm
 refine aJ [5] (fun l h=>∃ ax ab,ab=ak∧l=[(5,V ab)]∧St hs [] Z (0,0) ax h []) ?_ ?_
 rintro l aK ⟨ax,ab,rfl,rfl,aD⟩
 try dsimp only at hm
 refine sp 2<|rt<|⟨rfl,?_⟩
 obtain rfl:=si hm
 refine ⟨_,_,_,tk (V ab) (ResL.nil),aD,?_⟩
 exact rfl
 refine bk 0<|lp [0,5] (fun n l h=>∃ ay J,ly F a0 a1 n J=some ak∧l=[(0,Pt ad 0),(5,V J)]∧St hs [] Z (0,0) ay h []) F ⟨_,a1,I,(by kernel_rfl),hS⟩ ?_
 rintro ao l aL ⟨ay,J,I,rfl,j⟩
 rcases ao with _ | ao
 cases (show none=some ak from I)
 rw [ly] at I
 refine sq<|s0<|bF 4 (Pt U 0) j (j.ag _ _ ah)<|bF 2 v4 j (j.ag _ _ ae)<|bC 0 v4 (RS.len (aa.mono j.ag))<|aT 0 I ?_ ?_<;>intro aM I
 refine bF 4 (Pt U 0) j (j.ag _ _ ah)<|bF 2 v4 j (j.ag _ _ ae)<|a8 1 I (aa.mono j.ag) ?_
 intro aN I
 refine bt 1 0 (fun az=>V az.Kind) I (aa.mono j.ag) j ?_
 intro az aO I
 refine dv 0 I ?_ ?_<;>intro aP I
 refine xn 15<|dF<|xt 0<|aS ?_
 obtain rfl:=si I
 exact ⟨_,J,rfl,(by kernel_rfl),j⟩
 refine bF 5 (Pt U 0) j (j.ag _ _ ah)<|bF 2 v4 j (j.ag _ _ ae)<|a8 1 I (aa.mono j.ag) ?_
 intro aQ I
 refine bt 1 0 (fun aC=>V aC.Kind) I (aa.mono j.ag) j ?_
 intro aC aU I
 refine dv 0 I ?_ ?_<;>intro aV I
 refine xn 1<|dF<|xt 0<|aS ?_
 obtain rfl:=si I
 exact ⟨_,J,rfl,(by kernel_rfl),j⟩
 refine xn 1<|dT<|sk<|bk 1<|gp 3 ?_
 exact ⟨ao,a7 _,⟨_,af (J+1),I,(by kernel_rfl),j⟩⟩
 refine xn 28<|dF<|xt 0<|aS ?_
 obtain rfl:=si I
 exact ⟨_,J,rfl,(by kernel_rfl),j⟩
def kD (F:Nat) (a0:aQ) (a1:Int):Nat→Int→Option Int
 | 0,_=>none
 | n+1,j=>
  if j<a0.End then
   if 0≤j∧j<(a0.L.length:Int) then
    (a0.L[j.toNat]?).bind fun I=>
    if I.Kind=(3:Int) then
     kD F a0 a1 n (af (j+1))
    else
     some j
   else none
  else
   some j
def kS (F:Nat) (a0:aQ) (a1:Int):Option Int:=
 ((kD F a0 a1 F a1):Option Int).bind fun o=>match o with
  | j=>some j
theorem tP (F:Nat) {h:AH} {Z:Zn} {a0:aQ} {a1:Int} {aa ab ah ak} (hI:Inv Z h) (ao:RS (α:=al) Z ab a0.L) (ay:RS (α:=aq) Z ah a0.T.an) (az:RS (α:=aj) Z ak a0.D) (ar:Z aa=some (aB ab ah ak a0)) {r:Int} (hm:kS F a0 a1=some r):
  bY Tryz.prog 91 [Pt aa 0,V a1] h Z (V r):=by
 refine b1 Tryz.func91 hI ?_
 intro hs hS
 unfold kS at hm
 refine sp 1<|sq ?_
 obtain ⟨ad,j,hm⟩:=ai hm
 refine aJ [1] (fun l h=>∃ au U,U=ad∧l=[(1,V U)]∧St hs [] Z (0,0) au h []) ?_ ?_
 rintro l aA ⟨au,U,rfl,rfl,ax⟩
 try dsimp only at hm
 refine sp 2<|rt<|⟨rfl,?_⟩
 obtain rfl:=si hm
 refine ⟨_,_,_,tk (V U) (ResL.nil),ax,?_⟩
 exact rfl
 refine bk 0<|lp [0,1] (fun n l h=>∃ av J,kD F a0 a1 n J=some ad∧l=[(0,Pt aa 0),(1,V J)]∧St hs [] Z (0,0) av h []) F ⟨_,a1,j,(by kernel_rfl),hS⟩ ?_
 rintro ae l aC ⟨av,J,j,rfl,I⟩
 rcases ae with _ | ae
 cases (show none=some ad from j)
 rw [kD] at j
 refine sq<|s0<|bF 4 (V a0.End) I (I.ag _ _ ar)<|aT 0 j ?_ ?_<;>intro aD j
 refine bF 4 ab I (I.ag _ _ ar)<|a8 1 j (ao.mono I.ag) ?_
 intro aE j
 refine bt 1 0 (fun aw=>V aw.Kind) j (ao.mono I.ag) I ?_
 intro aw aF j
 refine aK 0 j ?_ ?_<;>intro aG j
 refine xn 1<|dT<|sk<|bk 1<|gp 3 ?_
 exact ⟨ae,a7 _,⟨_,af (J+1),j,(by kernel_rfl),I⟩⟩
 refine xn 1<|dF<|xt 0<|aS ?_
 obtain rfl:=si j
 exact ⟨_,J,rfl,(by kernel_rfl),I⟩
 refine xn 11<|dF<|xt 0<|aS ?_
 obtain rfl:=si j
 exact ⟨_,J,rfl,(by kernel_rfl),I⟩
def eP (F:Nat) (a0:aQ) (a1:Int):Option Int:=
 if a0.End≤a1 then
  some 0
 else
  if 0≤a1∧a1<(a0.L.length:Int) then
   (a0.L[a1.toNat]?).bind fun j=>
   if j.Kind=(20:Int) then
    some 0
   else
    if 0≤a1∧a1<(a0.L.length:Int) then
     (a0.L[a1.toNat]?).bind fun I=>
     if I.Kind=(21:Int) then
      some 0
     else
      if 0≤a1∧a1<(a0.L.length:Int) then
       (a0.L[a1.toNat]?).bind fun J=>
       some J.Kind
      else none
    else none
  else none
theorem fO (F:Nat) {h:AH} {Z:Zn} {a0:aQ} {a1:Int} {aa I ab ad} (hI:Inv Z h) (j:RS (α:=al) Z I a0.L) (ag:RS (α:=aq) Z ab a0.T.an) (ah:RS (α:=aj) Z ad a0.D) (J:Z aa=some (aB I ab ad a0)) {r:Int} (hm:eP F a0 a1=some r):
  bY Tryz.prog 92 [Pt aa 0,V a1] h Z (V r):=by
 refine b1 Tryz.func92 hI ?_
 intro hs hS
 unfold eP at hm
 refine sp 1<|sq<|s0<|bF 4 (V a0.End) hS J<|cS 0 hm ?_ ?_<;>intro ai hm
 refine xn 22<|dT<|sp 1<|rt<|⟨rfl,?_⟩
 obtain rfl:=si hm
 refine ⟨_,_,_,tk (V 0) (ResL.nil),hS,?_⟩
 exact rfl
 refine bF 4 I hS J<|a8 1 hm j ?_
 intro ak hm
 refine bt 1 0 (fun ae=>V ae.Kind) hm j hS ?_
 intro ae ao hm
 refine aK 0 hm ?_ ?_<;>intro ar hm
 refine xn 12<|dT<|sp 1<|rt<|⟨rfl,?_⟩
 obtain rfl:=si hm
 refine ⟨_,_,_,tk (V 0) (ResL.nil),hS,?_⟩
 exact rfl
 refine bF 5 I hS J<|a8 1 hm j ?_
 intro au hm
 refine bt 1 0 (fun af=>V af.Kind) hm j hS ?_
 intro af av hm
 refine aK 0 hm ?_ ?_<;>intro aw hm
 refine xn 1<|dT<|sp 1<|rt<|⟨rfl,?_⟩
 obtain rfl:=si hm
 refine ⟨_,_,_,tk (V 0) (ResL.nil),hS,?_⟩
 exact rfl
 refine xn 1<|dF<|sk<|s0<|bF 3 I hS J<|a8 1 hm j ?_
 intro ax hm
 refine bt 1 0 (fun U=>V U.Kind) hm j hS ?_
 intro U ay hm
 refine xn 1<|rt<|⟨rfl,?_⟩
 obtain rfl:=si hm
 refine ⟨_,_,_,tk (V U.Kind) (ResL.nil),hS,?_⟩
 exact rfl
def eO (F:Nat) (a0:aQ) (a1:Int) (I:Int) (J:Int) (U:Int):Option (Int×aQ):=
 (correctorref10_Add F a0.T a1 I J U).bind fun j=>
 some (j.2,(⟨a0.L,j.1,a0.D,a0.End⟩:aQ))
theorem gB (F:Nat) {h:AH} {Z:Zn} {a0:aQ} {a1:Int} {ag:Int} {ah:Int} {ak:Int} {U J ab I ad} (hP:Pre Z h [.ae U (aB J ab I a0), .gs I ad (aa aj)]) (aw:RS (α:=al) Z J a0.L) (ax:RS (α:=aq) Z ab a0.T.an) (ay:RCs (α:=aj) Z ad a0.D) {r:Int×aQ} (hm:eO F a0 a1 ag ah ak=some r):
  bS Tryz.prog 70 [Pt U 0,V a1,V ag,V ah,V ak] h Z [.ae U (aB J ab I a0), .gs I ad (aa aj)] fun v Z' A'=>∃ v10 ao ar,V r.1=v∧A'=[.ae U (aB v10 ao I r.2), .gs I ar (aa aj)]∧RS (α:=al) Z' v10 r.2.L∧RS (α:=aq) Z' ao r.2.T.an∧RCs (α:=aj) Z' ar r.2.D:=by
 refine b3 Tryz.func70 hP ?_
 intro hs hS
 unfold eO at hm
 refine sp 1<|s0<|aD 3 0 (.agg #[ab]) hS rfl ?_
 obtain ⟨az,aA,hm⟩:=ai hm
 refine c0 4 hS (xr F hS.eM ax aA) ?_
 rintro _ aG aH _ au aC ⟨j,rfl,rfl,af⟩
 refine dt 3 [.slice none 0 0] aC ?_
 intro aI aJ aE
 refine bG 0 0 (.agg #[j]) [j] [j] aE rfl rfl (bz (RS.di af) cz) ?_
 intro aK av
 refine xn 1<|s0<|aD 1 0 (.agg #[j]) av rfl<|bG 2 1 (.agg #[j]) [j] (aB J j I a0) av rfl rfl (bz (RS.di af) cz) ?_
 intro aL aF
 refine xn 0<|sp 2<|rt<|⟨rfl,?_⟩
 obtain rfl:=si hm
 refine ⟨_,_,_,tk (V az.2) (ResL.nil),(((aF.front 2 rfl).front 2 rfl).takeN 2),?_⟩
 exact ⟨J,j,ad,rfl,rfl,(aw.mono au),af,(ay.mono au)⟩
def lu (F:Nat) (a0:aQ) (a1:Int):Nat→Int→Option Int
 | 0,_=>none
 | n+1,j=>
  if j<a0.End then
   if 0≤j∧j<(a0.L.length:Int) then
    (a0.L[j.toNat]?).bind fun I=>
    (fH F I.Kind).bind fun J=>
    if J=true then
     some j
    else
     if 0≤j∧j<(a0.L.length:Int) then
      (a0.L[j.toNat]?).bind fun U=>
      if U.Kind=(1:Int) then
       some j
      else
       lu F a0 a1 n (af (j+1))
     else none
   else none
  else
   some j
def kE (F:Nat) (a0:aQ) (a1:Int):Nat→Int→Option Int
 | 0,_=>none
 | n+1,j=>
  if j<a0.End then
   if 0≤j∧j<(a0.L.length:Int) then
    (a0.L[j.toNat]?).bind fun I=>
    if I.Kind=(19:Int) then
     kE F a0 a1 n (af (j+1))
    else
     some j
   else none
  else
   some j
def nW (F:Nat) (a0:aQ) (a1:Int):Option Int:=
 ((lu F a0 a1 F (af (a1+1))):Option Int).bind fun o=>match o with
  | j=>if a0.End≤j then
   some (af (a1+1))
  else
   if 0≤j∧j<(a0.L.length:Int) then
    (a0.L[j.toNat]?).bind fun I=>
    if I.Kind=(1:Int) then
     if a0.End≤(af (j+1)) then
      some (af (a1+1))
     else
      if 0≤(af (j+1))∧(af (j+1))<(a0.L.length:Int) then
       (a0.L[(af (j+1)).toNat]?).bind fun J=>
       if J.Kind=(19:Int) then
        ((kE F a0 a1 F (af (j+1))):Option Int).bind fun o=>match o with
         | U=>some U
       else
        some (af (a1+1))
      else none
    else
     some (af (a1+1))
   else none
theorem x5 (F:Nat) {h:AH} {Z:Zn} {a0:aQ} {a1:Int} {ao ae aA aC} (hI:Inv Z h) (aa:RS (α:=al) Z ae a0.L) (aU:RS (α:=aq) Z aA a0.T.an) (aV:RS (α:=aj) Z aC a0.D) (ad:Z ao=some (aB ae aA aC a0)) {r:Int} (hm:nW F a0 a1=some r):
  bY Tryz.prog 93 [Pt ao 0,V a1] h Z (V r):=by
 refine b1 Tryz.func93 hI ?_
 intro hs hS
 unfold nW at hm
 refine sp 1<|sp 3<|sq ?_
 obtain ⟨aw,j,hm⟩:=ai hm
 refine aJ [0,1,5] (fun l h=>∃ aD au,au=aw∧l=[(0,Pt ao 0),(1,V a1),(5,V au)]∧St hs [] Z (0,0) aD h []) ?_ ?_
 rintro l aW ⟨aD,au,rfl,rfl,I⟩
 try dsimp only at hm
 refine sq<|s0<|bF 4 (V a0.End) I (I.ag _ _ ad)<|cS 0 hm ?_ ?_<;>intro aX hm
 refine xn 32<|dT<|sp 3<|rt<|⟨rfl,?_⟩
 obtain rfl:=si hm
 refine ⟨_,_,_,tk (V (af (a1+1))) (ResL.nil),I,?_⟩
 exact rfl
 refine bF 4 ae I (I.ag _ _ ad)<|a8 1 hm (aa.mono I.ag) ?_
 intro aY hm
 refine bt 1 0 (fun aE=>V aE.Kind) hm (aa.mono I.ag) I ?_
 intro aE aZ hm
 refine dv 0 hm ?_ ?_<;>intro a2 hm
 refine bF 7 (V a0.End) I (I.ag _ _ ad)<|cS 0 hm ?_ ?_<;>intro a3 hm
 refine xn 13<|dT<|sp 3<|rt<|⟨rfl,?_⟩
 obtain rfl:=si hm
 refine ⟨_,_,_,tk (V (af (a1+1))) (ResL.nil),I,?_⟩
 exact rfl
 refine bF 5 ae I (I.ag _ _ ad)<|a8 2 hm (aa.mono I.ag) ?_
 intro a5 hm
 refine bt 1 0 (fun aF=>V aF.Kind) hm (aa.mono I.ag) I ?_
 intro aF a6 hm
 refine dv 0 hm ?_ ?_<;>intro a9 hm
 refine xn 1<|dF<|sk<|sp 3<|sq ?_
 obtain ⟨ax,J,hm⟩:=ai hm
 refine aJ [5] (fun l h=>∃ aG av,av=ax∧l=[(5,V av)]∧St hs [] Z (0,0) aG h []) ?_ ?_
 rintro l ba ⟨aG,av,rfl,rfl,aO⟩
 try dsimp only at hm
 refine sp 2<|rt<|⟨rfl,?_⟩
 obtain rfl:=si hm
 refine ⟨_,_,_,tk (V av) (ResL.nil),aO,?_⟩
 exact rfl
 refine bk 2<|lp [0,5] (fun n l h=>∃ aH ak,kE F a0 a1 n ak=some ax∧l=[(0,Pt ao 0),(5,V ak)]∧St hs [] Z (0,0) aH h []) F ⟨_,af (au+1),J,(by kernel_rfl),I⟩ ?_
 rintro ay l bb ⟨aH,ak,J,rfl,ab⟩
 rcases ay with _ | ay
 cases (show none=some ax from J)
 rw [kE] at J
 refine sq<|s0<|bF 4 (V a0.End) ab (ab.ag _ _ ad)<|aT 0 J ?_ ?_<;>intro bc J
 refine bF 4 ae ab (ab.ag _ _ ad)<|a8 1 J (aa.mono ab.ag) ?_
 intro bd J
 refine bt 1 0 (fun aI=>V aI.Kind) J (aa.mono ab.ag) ab ?_
 intro aI bf J
 refine aK 0 J ?_ ?_<;>intro bg J
 refine xn 1<|dT<|sk<|bk 3<|gp 3 ?_
 exact ⟨ay,a7 _,⟨_,af (ak+1),J,(by kernel_rfl),ab⟩⟩
 refine xn 1<|dF<|xt 2<|aS ?_
 obtain rfl:=si J
 exact ⟨_,ak,rfl,(by kernel_rfl),ab⟩
 refine xn 11<|dF<|xt 2<|aS ?_
 obtain rfl:=si J
 exact ⟨_,ak,rfl,(by kernel_rfl),ab⟩
 refine xn 1<|dT<|sp 3<|rt<|⟨rfl,?_⟩
 obtain rfl:=si hm
 refine ⟨_,_,_,tk (V (af (a1+1))) (ResL.nil),I,?_⟩
 exact rfl
 refine xn 22<|dT<|sp 3<|rt<|⟨rfl,?_⟩
 obtain rfl:=si hm
 refine ⟨_,_,_,tk (V (af (a1+1))) (ResL.nil),I,?_⟩
 exact rfl
 refine bk 0<|lp [0,1,5] (fun n l h=>∃ aL ah,lu F a0 a1 n ah=some aw∧l=[(0,Pt ao 0),(1,V a1),(5,V ah)]∧St hs [] Z (0,0) aL h []) F ⟨_,af (a1+1),j,(by kernel_rfl),hS⟩ ?_
 rintro az l bh ⟨aL,ah,j,rfl,U⟩
 rcases az with _ | az
 cases (show none=some aw from j)
 rw [lu] at j
 refine sq<|s0<|bF 4 (V a0.End) U (U.ag _ _ ad)<|aT 0 j ?_ ?_<;>intro bj j
 refine bF 4 ae U (U.ag _ _ ad)<|a8 1 j (aa.mono U.ag) ?_
 intro bl j
 refine bt 1 0 (fun aM=>V aM.Kind) j (aa.mono U.ag) U ?_
 intro aM bm j
 obtain ⟨bn,aP,j⟩:=ai j
 refine cP 0 U (iW F U.inv aP) ?_
 rintro _ bo ar rfl
 refine kb 0 23 j ?_ ?_<;>intro bp j
 refine xn 13<|dF<|xt 0<|aS ?_
 obtain rfl:=si j
 exact ⟨_,ah,rfl,(by kernel_rfl),ar⟩
 refine bF 6 ae ar (U.ag _ _ ad)<|a8 1 j (aa.mono U.ag) ?_
 intro bq j
 refine bt 1 0 (fun aN=>V aN.Kind) j (aa.mono U.ag) ar ?_
 intro aN bu j
 refine dv 0 j ?_ ?_<;>intro bw j
 refine xn 1<|dF<|xt 0<|aS ?_
 obtain rfl:=si j
 exact ⟨_,ah,rfl,(by kernel_rfl),ar⟩
 refine xn 1<|dT<|sk<|bk 1<|gp 3 ?_
 exact ⟨az,a7 _,⟨_,af (ah+1),j,(by kernel_rfl),ar⟩⟩
 refine xn 23<|dF<|xt 0<|aS ?_
 obtain rfl:=si j
 exact ⟨_,ah,rfl,(by kernel_rfl),U⟩
def iS (F:Nat) (a0:Int):Option Bool:=
 if a0=(8:Int) then
  some true
 else
  if a0=(9:Int) then
   some true
  else
   some false
theorem og (F:Nat) {h:AH} {Z:Zn} {a0:Int} (hI:Inv Z h) {r:Bool} (hm:iS F a0=some r):
  bY Tryz.prog 94 [V a0] h Z (.bool r):=by
 refine b1 Tryz.func94 hI ?_
 intro hs hS
 unfold iS at hm
 refine sp 1<|s0<|aK 1 hm ?_ ?_<;>intro j hm
 refine xn 5<|rt<|⟨rfl,?_⟩
 obtain rfl:=si hm
 refine ⟨_,_,_,tk (.bool true) (ResL.nil),hS,?_⟩
 exact rfl
 refine aK 2 hm ?_ ?_<;>intro I hm
 refine xn 2<|rt<|⟨rfl,?_⟩
 obtain rfl:=si hm
 refine ⟨_,_,_,tk (.bool true) (ResL.nil),hS,?_⟩
 exact rfl
 refine xn 2<|rt<|⟨rfl,?_⟩
 obtain rfl:=si hm
 refine ⟨_,_,_,tk (.bool false) (ResL.nil),hS,?_⟩
 exact rfl
def iQ (F:Nat) (a0:Int):Option Bool:=
 if a0=(10:Int) then
  some true
 else
  if a0=(11:Int) then
   some true
  else
   some false
theorem mW (F:Nat) {h:AH} {Z:Zn} {a0:Int} (hI:Inv Z h) {r:Bool} (hm:iQ F a0=some r):
  bY Tryz.prog 102 [V a0] h Z (.bool r):=by
 refine b1 Tryz.func102 hI ?_
 intro hs hS
 unfold iQ at hm
 refine sp 1<|s0<|aK 1 hm ?_ ?_<;>intro j hm
 refine xn 5<|rt<|⟨rfl,?_⟩
 obtain rfl:=si hm
 refine ⟨_,_,_,tk (.bool true) (ResL.nil),hS,?_⟩
 exact rfl
 refine aK 2 hm ?_ ?_<;>intro I hm
 refine xn 2<|rt<|⟨rfl,?_⟩
 obtain rfl:=si hm
 refine ⟨_,_,_,tk (.bool true) (ResL.nil),hS,?_⟩
 exact rfl
 refine xn 2<|rt<|⟨rfl,?_⟩
 obtain rfl:=si hm
 refine ⟨_,_,_,tk (.bool false) (ResL.nil),hS,?_⟩
 exact rfl
def kO (F:Nat) (a0:aQ) (a1:Int) (I:Int):Nat→Int→Option Int
 | 0,_=>none
 | n+1,j=>
  if I<j then
   if 0≤(af (j - 1))∧(af (j - 1))<(a0.L.length:Int) then
    (a0.L[(af (j - 1)).toNat]?).bind fun J=>
    (fH F J.Kind).bind fun U=>
    if U=true then
     some j
    else
     kO F a0 a1 I n (af (j - 1))
   else none
  else
   some j
def jJ (F:Nat) (a0:aQ) (a1:Int) (j:Int):Option Int:=
 ((kO F a0 a1 j F a1):Option Int).bind fun o=>match o with
  | I=>some I
theorem pY (F:Nat) {h:AH} {Z:Zn} {a0:aQ} {a1:Int} {U:Int} {ab ad ak ao} (hI:Inv Z h) (ar:RS (α:=al) Z ad a0.L) (aC:RS (α:=aq) Z ak a0.T.an) (aD:RS (α:=aj) Z ao a0.D) (ay:Z ab=some (aB ad ak ao a0)) {r:Int} (hm:jJ F a0 a1 U=some r):
  bY Tryz.prog 97 [Pt ab 0,V a1,V U] h Z (V r):=by
 refine b1 Tryz.func97 hI ?_
 intro hs hS
 unfold jJ at hm
 refine sp 1<|sq ?_
 obtain ⟨ae,j,hm⟩:=ai hm
 refine aJ [1] (fun l h=>∃ au aa,aa=ae∧l=[(1,V aa)]∧St hs [] Z (0,0) au h []) ?_ ?_
 rintro l aE ⟨au,aa,rfl,rfl,az⟩
 try dsimp only at hm
 refine sp 2<|rt<|⟨rfl,?_⟩
 obtain rfl:=si hm
 refine ⟨_,_,_,tk (V aa) (ResL.nil),az,?_⟩
 exact rfl
 refine bk 0<|lp [0,1,2] (fun n l h=>∃ av J,kO F a0 a1 U n J=some ae∧l=[(0,Pt ab 0),(1,V J),(2,V U)]∧St hs [] Z (0,0) av h []) F ⟨_,a1,j,(by kernel_rfl),hS⟩ ?_
 rintro ah l aF ⟨av,J,j,rfl,I⟩
 rcases ah with _ | ah
 cases (show none=some ae from j)
 rw [kO] at j
 refine sq<|s0<|cZ 2 j ?_ ?_<;>intro aG j
 refine bF 4 ad I (I.ag _ _ ay)<|a8 2 j (ar.mono I.ag) ?_
 intro aH j
 refine bt 1 0 (fun aw=>V aw.Kind) j (ar.mono I.ag) I ?_
 intro aw aI j
 obtain ⟨aK,aA,j⟩:=ai j
 refine cP 0 I (iW F I.inv aA) ?_
 rintro _ aL ax rfl
 refine kb 0 20 j ?_ ?_<;>intro aM j
 refine xn 2<|dF<|xt 0<|aS ?_
 obtain rfl:=si j
 exact ⟨_,J,rfl,(by kernel_rfl),ax⟩
 refine xn 2<|dT<|sk<|bk 1<|gp 3 ?_
 exact ⟨ah,a7 _,⟨_,af (J - 1),j,(by kernel_rfl),ax⟩⟩
 refine xn 13<|dF<|xt 0<|aS ?_
 obtain rfl:=si j
 exact ⟨_,J,rfl,(by kernel_rfl),I⟩
def jP (F:Nat) (a0:aQ) (a1:Int):Nat→Int→Int→Option (Sum Unit Int)
 | 0,_,_=>none
 | n+1,I,j=>
  (eP F a0 j).bind fun aa=>
  if (0:Int)<aa then
   (((eP F a0 j).bind fun ab=>
    (iS F ab).bind fun ad=>
    if ad=true then
     some (af (I+1))
    else
     some I):Option Int).bind fun o=>match o with
    | J=>(((eP F a0 j).bind fun ae=>
     (iQ F ae).bind fun ag=>
     if ag=true then
      some (af (J - 1))
     else
      some J):Option Int).bind fun o=>match o with
     | U=>if U=(0:Int) then
      some (.inr (af (j+1)))
     else
      jP F a0 a1 n U (af (j+1))
  else
   some (.inl ())
def kf (F:Nat) (a0:aQ) (a1:Int):Nat→Int→Option Int
 | 0,_=>none
 | n+1,j=>
  (eP F a0 j).bind fun I=>
  if (0:Int)<I then
   kf F a0 a1 n (af (j+1))
  else
   some j
def correctorref11_Reader_balanced (F:Nat) (a0:aQ) (a1:Int):Option Int:=
 ((jP F a0 a1 F 0 a1):Option (Sum Unit Int)).bind fun o=>match o with
  | .inl ()=>((kf F a0 a1 F a1):Option Int).bind fun o=>match o with
   | j=>(jJ F a0 j (af (a1+1))).bind fun I=>
   some I
  | .inr y=>some y
theorem yY (F:Nat) {h:AH} {Z:Zn} {a0:aQ} {a1:Int} {U aH aI aL} (hI:Inv Z h) (ao:RS (α:=al) Z aH a0.L) (ar:RS (α:=aq) Z aI a0.T.an) (au:RS (α:=aj) Z aL a0.D) (av:Z U=some (aB aH aI aL a0)) {r:Int} (hm:correctorref11_Reader_balanced F a0 a1=some r):
  bY Tryz.prog 95 [Pt U 0,V a1] h Z (V r):=by
 refine b1 Tryz.func95 hI ?_
 intro hs hS
 unfold correctorref11_Reader_balanced at hm
 refine sp 1<|sp 1<|sq<|sp 2 ?_
 obtain ⟨aA,j,hm⟩:=ai hm
 refine aJ [0,1] (fun l h=>∃ aM, .inl ()=aA∧l=[(0,Pt U 0),(1,V a1)]∧St hs [] Z (0,0) aM h []) ?_ ?_
 rintro l bl ⟨aM,rfl,rfl,a3⟩
 try dsimp only at hm
 refine sp 2<|sq ?_
 obtain ⟨aC,I,hm⟩:=ai hm
 refine aJ [0,1,7] (fun l h=>∃ aN aD,aD=aC∧l=[(0,Pt U 0),(1,V a1),(7,V aD)]∧St hs [] Z (0,0) aN h []) ?_ ?_
 rintro l bm ⟨aN,aD,rfl,rfl,ae⟩
 try dsimp only at hm
 refine s0 ?_
 obtain ⟨a5,a6,hm⟩:=ai hm
 refine cP 4 ae (pY F ae.inv (ao.mono ae.ag) (ar.mono ae.ag) (au.mono ae.ag) (ae.ag _ _ av) a6) ?_
 rintro _ bn a8 rfl
 refine xn 1<|rt<|⟨rfl,?_⟩
 obtain rfl:=si hm
 refine ⟨_,_,_,tk (V a5) (ResL.nil),a8,?_⟩
 exact rfl
 refine bk 2<|lp [0,1,7] (fun n l h=>∃ aO aw,kf F a0 a1 n aw=some aC∧l=[(0,Pt U 0),(1,V a1),(7,V aw)]∧St hs [] Z (0,0) aO h []) F ⟨_,a1,I,(by kernel_rfl),a3⟩ ?_
 rintro aE l bo ⟨aO,aw,I,rfl,ah⟩
 rcases aE with _ | aE
 cases (show none=some aC from I)
 rw [kf] at I
 refine sq<|s0 ?_
 obtain ⟨bp,a9,I⟩:=ai I
 refine cP 2 ah (fO F ah.inv (ao.mono ah.ag) (ar.mono ah.ag) (au.mono ah.ag) (ah.ag _ _ av) a9) ?_
 rintro _ bq aP rfl
 refine cZ 0 I ?_ ?_<;>intro bt I
 refine xn 0<|dT<|sk<|bk 3<|gp 3 ?_
 exact ⟨aE,a7 _,⟨_,af (aw+1),I,(by kernel_rfl),aP⟩⟩
 refine xn 0<|dF<|xt 2<|aS ?_
 obtain rfl:=si I
 exact ⟨_,aw,rfl,(by kernel_rfl),aP⟩
 refine bk 0<|lp [0,1,5,6] (fun n l h=>∃ aT ax ad,jP F a0 a1 n ax ad=some aA∧l=[(0,Pt U 0),(1,V a1),(5,V ax),(6,V ad)]∧St hs [] Z (0,0) aT h []) F ⟨_,0,a1,j,(by kernel_rfl),hS⟩ ?_
 rintro aF l bu ⟨aT,ax,ad,j,rfl,J⟩
 rcases aF with _ | aF
 cases (show none=some aA from j)
 rw [jP] at j
 refine sq<|s0 ?_
 obtain ⟨bw,ba,j⟩:=ai j
 refine cP 2 J (fO F J.inv (ao.mono J.ag) (ar.mono J.ag) (au.mono J.ag) (J.ag _ _ av) ba) ?_
 rintro _ bx aG rfl
 refine cZ 0 j ?_ ?_<;>intro bz j
 refine xn 0<|dT<|sk<|sq<|bk 1<|sq ?_
 obtain ⟨bb,aa,j⟩:=ai j
 refine aJ [0,1,5,6] (fun l h=>∃ aU ay,ay=bb∧l=[(0,Pt U 0),(1,V a1),(5,V ay),(6,V ad)]∧St hs [] Z (0,0) aU h []) ?_ ?_
 rintro l bA ⟨aU,ay,rfl,rfl,ak⟩
 try dsimp only at j
 refine sq ?_
 obtain ⟨bc,ab,j⟩:=ai j
 refine aJ [0,1,5,6] (fun l h=>∃ aV az,az=bc∧l=[(0,Pt U 0),(1,V a1),(5,V az),(6,V ad)]∧St hs [] Z (0,0) aV h []) ?_ ?_
 rintro l bB ⟨aV,az,rfl,rfl,aW⟩
 try dsimp only at j
 refine s0<|aK 1 j ?_ ?_<;>intro bC j
 refine xn 0<|dT<|sp 3<|rt<|bj<|bj<|⟨rfl,?_⟩
 obtain rfl:=si j
 obtain rfl:=si hm
 refine ⟨_,_,_,tk (V (af (ad+1))) (ResL.nil),aW,?_⟩
 exact rfl
 refine xn 0<|dF<|sk<|gp 3 ?_
 exact ⟨aF,a7 _,⟨_,az,af (ad+1),j,(by kernel_rfl),aW⟩⟩
 refine s0 ?_
 obtain ⟨bD,bd,ab⟩:=ai ab
 refine cP 2 ak (fO F ak.inv (ao.mono ak.ag) (ar.mono ak.ag) (au.mono ak.ag) (ak.ag _ _ av) bd) ?_
 rintro _ bE aX rfl
 obtain ⟨bF,bf,ab⟩:=ai ab
 refine cP 0 aX (mW F aX.inv bf) ?_
 rintro _ bG aY rfl
 refine xn 0<|db ab ?_ ?_<;>intro bH ab
 refine gp 3 ?_
 obtain rfl:=si ab
 exact ⟨_,af (ay - 1),rfl,(by kernel_rfl),aY⟩
 refine sk ?_
 obtain rfl:=si ab
 exact ⟨_,ay,rfl,(by kernel_rfl),aY⟩
 refine s0 ?_
 obtain ⟨bI,bg,aa⟩:=ai aa
 refine cP 2 aG (fO F aG.inv (ao.mono J.ag) (ar.mono J.ag) (au.mono J.ag) (J.ag _ _ av) bg) ?_
 rintro _ bJ aZ rfl
 obtain ⟨bK,bh,aa⟩:=ai aa
 refine cP 0 aZ (og F aZ.inv bh) ?_
 rintro _ bL a2 rfl
 refine xn 0<|db aa ?_ ?_<;>intro bM aa
 refine gp 3 ?_
 obtain rfl:=si aa
 exact ⟨_,af (ax+1),rfl,(by kernel_rfl),a2⟩
 refine sk ?_
 obtain rfl:=si aa
 exact ⟨_,ax,rfl,(by kernel_rfl),a2⟩
 refine xn 0<|dF<|xt 0<|aS ?_
 obtain rfl:=si j
 exact ⟨_,rfl,(by kernel_rfl),aG⟩
def A2:List br:=[uP 17 (mv 0),uP 18 (mv 0),uP 19 (nk 18),uP 20 (fa 62 19 2),uL 21 (ld 32 20),uP 22 (mv 4),uP 23 (mv 0),uP 24 (nk 23),uP 25 (fa 62 24 0),uL 26 (ld 28 25),uP 27 (mv 2),uP 28 (ia 28 26 27),uP 29 (fa 76 28 1),uL 30 (ld 3 29),uP 31 (mv 0),uP 32 (nk 31),uP 33 (fa 62 32 0),uL 34 (ld 28 33),uP 35 (mv 3),uP 36 (bc .sub 3 35 1 3),uP 37 (ia 28 34 36),uP 38 (fa 76 37 2),uL 39 (ld 3 38),uP 40 (.build 94 #[(0,(t 22)),(1,(t 30)),(2,(t 39))]),uF 41 (.buildSlice 32 1 #[(0,(t 40))]) .fresh [],uF 42 (cb .append #[(t 21),(t 41)] #[32,32]) .make [4,9,13,17,22],uP 43 (nk 17),uP 44 (fa 62 43 2),oF (.store 32 (t 44) (t 42)) .make [4,9,13,17,22]]
def eu (F:Nat) (a0:aQ) (a1:Int) (I:Int) (J:Int) (U:Int):Option (Int×aQ):=
 (eO F a0 a1 11 I J).bind fun j=>
 if 0≤I∧I<(j.2.L.length:Int) then
  (j.2.L[I.toNat]?).bind fun aa=>
  if 0≤(af (J - 1))∧(af (J - 1))<(j.2.L.length:Int) then
   (j.2.L[(af (J - 1)).toNat]?).bind fun ab=>
   if j.2.D.length+[(⟨U,aa.ah,ab.To⟩:aj)].length≤5864062014805 then
    some (j.1,(⟨j.2.L,j.2.T,j.2.D++[(⟨U,aa.ah,ab.To⟩:aj)],j.2.End⟩:aQ))
   else none
  else none
 else none
theorem fL (F:Nat) {h:AH} {Z:Zn} {a0:aQ} {a1:Int} {ar:Int} {ak:Int} {J:Int} {I aA aC U aD} (hP:Pre Z h [.ae I (aB aA aC U a0), .gs U aD (aa aj)]) (aZ:RS (α:=al) Z aA a0.L) (a2:RS (α:=aq) Z aC a0.T.an) (a5:RCs (α:=aj) Z aD a0.D) {r:Int×aQ} (hm:eu F a0 a1 ar ak J=some r):
  bS Tryz.prog 50 [Pt I 0,V a1,V ar,V ak,V J] h Z [.ae I (aB aA aC U a0), .gs U aD (aa aj)] fun v Z' A'=>∃ v10 aK aL aM,V r.1=v∧A'=[.ae I (aB v10 aK aL r.2), .gs aL aM (aa aj)]∧RS (α:=al) Z' v10 r.2.L∧RS (α:=aq) Z' aK r.2.T.an∧RCs (α:=aj) Z' aM r.2.D:=by
 refine b3 Tryz.func50 hP ?_
 intro hs hS
 unfold eu at hm
 refine sp 1<|s0 ?_
 obtain ⟨ab,a6,hm⟩:=ai hm
 refine cA 4 hS (fun p=>gB F p aZ a2 a5 a6) ?_
 rintro _ bo a7 _ bp a8 ⟨ad,ay,a9,rfl,rfl,av,ba,bb⟩
 refine xn 1<|cY A2 a8 ?_
 intro aE bt aI aw
 refine yq 4 [(20,Pt I 2),(17,Pt I 0),(11,V ab.1),(0,Pt I 0),(2,V ar),(3,V ak),(4,V J)] ?_
 have bu:I<aE:=aI.1 _ (au (i:=0) rfl) _ (by simp [Itm.ids])
 refine aW (v:=U) rfl trivial rfl (by show I<_;omega) (aG (v:=U) (aw.dN (i:=1) rfl)) (aw.aV (i:=0) rfl (by kernel_rfl)) trivial<|yq 4 [(25,Pt I 0),(22,V J),(21,U),(17,Pt I 0),(11,V ab.1),(0,Pt I 0),(2,V ar),(3,V ak)] ?_
 have bA:I<aE:=aI.1 _ (au (i:=0) rfl) _ (by simp [Itm.ids])
 refine aW (v:=ad) rfl trivial rfl (by show I<_;omega) (aG (v:=ad) (RS.cM av)) (aw.aV (i:=0) rfl (by kernel_rfl)) trivial<|yq 1 [(27,V ar),(26,ad),(22,V J),(21,U),(17,Pt I 0),(11,V ab.1),(0,Pt I 0),(3,V ak)] ?_
 obtain ⟨aN,hm⟩:=aH hm
 refine aF rfl trivial (bx rfl rfl (by kernel_rfl:slTy _ _=some (aa al)) (RS.cG av (by omega)) aN.1 aN.2)<|yq 1 [(29, .pointer (some (bw ad ar (aa al) 1))),(22,V J),(21,U),(17,Pt I 0),(11,V ab.1),(0,Pt I 0),(3,V ak)] ?_
 obtain ⟨ag,bc,hm⟩:=ai hm
 obtain ⟨bB,bd,bf⟩:=RS.bV av (i:=ar) bc
 obtain rfl:=eH bd
 refine cg rfl rfl trivial (fun h2 hz=>bE (w:=V ag.ah) (bf h2 hz) rfl (by kernel_rfl)) (aw.bO (aO.refl _)) (aG (v:=V ag.ah) trivial) trivial<|yq 3 [(33,Pt I 0),(30,V ag.ah),(22,V J),(21,U),(17,Pt I 0),(11,V ab.1),(3,V ak)] ?_
 have bC:I<aE:=aI.1 _ (au (i:=0) rfl) _ (by simp [Itm.ids])
 refine aW (v:=ad) rfl trivial rfl (by show I<_;omega) (aG (v:=ad) (RS.cM av)) (aw.aV (i:=0) rfl (by kernel_rfl)) trivial<|yq 2 [(36,V (af (ak - 1))),(34,ad),(30,V ag.ah),(22,V J),(21,U),(17,Pt I 0),(11,V ab.1)] ?_
 obtain ⟨aP,hm⟩:=aH hm
 refine aF rfl trivial (bx rfl rfl (by kernel_rfl:slTy _ _=some (aa al)) (RS.cG av (by omega)) aP.1 aP.2)<|yq 1 [(38, .pointer (some (bw ad (af (ak - 1)) (aa al) 2))),(30,V ag.ah),(22,V J),(21,U),(17,Pt I 0),(11,V ab.1)] ?_
 obtain ⟨ao,bg,hm⟩:=ai hm
 obtain ⟨bD,bh,bj⟩:=RS.bV av (i:=af (ak - 1)) bg
 obtain rfl:=eH bh
 refine cg rfl rfl trivial (fun h2 hz=>bE (w:=V ao.To) (bj h2 hz) rfl (by kernel_rfl)) (aw.bO (aO.refl _)) (aG (v:=V ao.To) trivial) trivial<|yq 1 [(40, .agg #[V J,V ag.ah,V ao.To]),(21,U),(17,Pt I 0),(11,V ab.1)] ?_
 have bk:RCs (α:=aj) a7 [V J,V ag.ah,V ao.To] [(⟨J,ag.ah,ao.To⟩:aj)]:=RCs.cons (cs:=[V J,V ag.ah,V ao.To]) rfl (RCs.bq _)
 refine iU rfl trivial (c6 (cells:=[V J,V ag.ah,V ao.To]) (s:=3) (by kernel_rfl)) (by kernel_rfl) aw (by omega) (Nat.add_lt_add_left (by decide) _) ?_
 intro aS bF bG bH bI aT
 obtain ⟨bJ,hm⟩:=aH hm
 have az:St _ _ _ _ _ _ ([.gs U a9 (aa aj)]++[.gs aS [V J,V ag.ah,V ao.To] (aa aj), .ae I (aB ad ay U ab.2)]):=(aT.front 2 rfl)
 refine iC rfl trivial az (dE (ys:=[(⟨J,ag.ah,ao.To⟩:aj)]) (bX:=24) az.sub (i:=0) rfl bb ((aT.bZ).eB (j:=0) rfl bk) rfl rfl (by kernel_rfl) (by omega) (by omega)) (aO.refl _) (.a3 trivial (.a3 (az.bL 1 rfl bU) (.a3 trivial (.a3 (az.bL 1 rfl bU) (.a3 (az.bL 1 rfl bU) .nil))))) ?_
 rintro ax aU bK ⟨bl,aJ⟩
 refine yq 2 [(44,Pt I 2),(42,ax),(11,V ab.1)] ?_
 have aX:St _ _ _ _ _ _ ([.ae I (aB ad ay U ab.2)]++[.gs ax aU (aa aj), .gs aS [V J,V ag.ah,V ao.To] (aa aj)]):=(aJ.front 2 rfl)
 refine gu rfl trivial aX (gg (vs:=[ax]) (cO:=(aB ad ay ax ab.2)) (L':=[.ae I (aB ad ay ax ab.2)]) aX.sub (i:=0) rfl rfl rfl (aJ.fQ (i:=0) rfl) (by kernel_rfl) (bz (aJ.fR (i:=0) rfl) cz) rfl rfl rfl) (aO.refl _) (.a3 trivial (.drop (by decide) (.a3 trivial (.drop (by decide) (.drop (by decide) .nil))))) ?_
 intro bM bm
 refine yf [(11,V ab.1)] ?_
 have bn:=bm.aY
 refine sp 2<|rt<|⟨rfl,?_⟩
 obtain rfl:=si hm
 refine ⟨_,_,_,tk (V ab.1) (ResL.nil),(bn.takeN 2),?_⟩
 exact ⟨ad,ay,ax,aU,rfl,rfl,av,ba,bl⟩
def k5 (F:Nat) (a0:aQ) (a1:Int):Nat→Int→Option Int
 | 0,_=>none
 | n+1,j=>
  if j<a0.End then
   if 0≤j∧j<(a0.L.length:Int) then
    (a0.L[j.toNat]?).bind fun I=>
    (fH F I.Kind).bind fun J=>
    if J=true then
     some j
    else
     k5 F a0 a1 n (af (j+1))
   else none
  else
   some j
def iL (F:Nat) (a0:aQ) (a1:Int):Option Int:=
 ((k5 F a0 a1 F a1):Option Int).bind fun o=>match o with
  | j=>some j
theorem pH (F:Nat) {h:AH} {Z:Zn} {a0:aQ} {a1:Int} {aa ab ah ak} (hI:Inv Z h) (ao:RS (α:=al) Z ab a0.L) (aA:RS (α:=aq) Z ah a0.T.an) (aC:RS (α:=aj) Z ak a0.D) (ar:Z aa=some (aB ab ah ak a0)) {r:Int} (hm:iL F a0 a1=some r):
  bY Tryz.prog 103 [Pt aa 0,V a1] h Z (V r):=by
 refine b1 Tryz.func103 hI ?_
 intro hs hS
 unfold iL at hm
 refine sp 1<|sq ?_
 obtain ⟨ad,j,hm⟩:=ai hm
 refine aJ [1] (fun l h=>∃ au U,U=ad∧l=[(1,V U)]∧St hs [] Z (0,0) au h []) ?_ ?_
 rintro l aD ⟨au,U,rfl,rfl,ay⟩
 try dsimp only at hm
 refine sp 2<|rt<|⟨rfl,?_⟩
 obtain rfl:=si hm
 refine ⟨_,_,_,tk (V U) (ResL.nil),ay,?_⟩
 exact rfl
 refine bk 0<|lp [0,1] (fun n l h=>∃ av J,k5 F a0 a1 n J=some ad∧l=[(0,Pt aa 0),(1,V J)]∧St hs [] Z (0,0) av h []) F ⟨_,a1,j,(by kernel_rfl),hS⟩ ?_
 rintro ae l aE ⟨av,J,j,rfl,I⟩
 rcases ae with _ | ae
 cases (show none=some ad from j)
 rw [k5] at j
 refine sq<|s0<|bF 4 (V a0.End) I (I.ag _ _ ar)<|aT 0 j ?_ ?_<;>intro aF j
 refine bF 4 ab I (I.ag _ _ ar)<|a8 1 j (ao.mono I.ag) ?_
 intro aG j
 refine bt 1 0 (fun aw=>V aw.Kind) j (ao.mono I.ag) I ?_
 intro aw aH j
 obtain ⟨aI,az,j⟩:=ai j
 refine cP 0 I (iW F I.inv az) ?_
 rintro _ aK ax rfl
 refine kb 0 20 j ?_ ?_<;>intro aL j
 refine xn 2<|dF<|xt 0<|aS ?_
 obtain rfl:=si j
 exact ⟨_,J,rfl,(by kernel_rfl),ax⟩
 refine xn 2<|dT<|sk<|bk 1<|gp 3 ?_
 exact ⟨ae,a7 _,⟨_,af (J+1),j,(by kernel_rfl),ax⟩⟩
 refine xn 12<|dF<|xt 0<|aS ?_
 obtain rfl:=si j
 exact ⟨_,J,rfl,(by kernel_rfl),I⟩
def jC (F:Nat) (a0:aQ) (a1:Int):Nat→Int→Option Int
 | 0,_=>none
 | n+1,j=>
  (((eP F a0 j).bind fun I=>
   if I=(12:Int) then
    some (.inl ())
   else
    (eP F a0 j).bind fun J=>
    if J=(14:Int) then
     some (.inl ())
    else
     some (.inr j)):Option (Sum Unit Int)).bind fun o=>match o with
   | .inl ()=>(iL F a0 (af (j+1))).bind fun U=>
   jC F a0 a1 n U
   | .inr y=>some y
def iJ (F:Nat) (a0:aQ) (a1:Int):Option Int:=
 ((jC F a0 a1 F a1):Option Int).bind fun o=>match o with
  | j=>(((eP F a0 j).bind fun J=>
   (fC F J).bind fun U=>
   if U=true then
    (iL F a0 (af (j+1))).bind fun aa=>
    some aa
   else
    some j):Option Int).bind fun o=>match o with
   | I=>(eP F a0 I).bind fun ab=>
   if ab=(6:Int) then
    some (af (I+1))
   else
    some 0
theorem qE (F:Nat) {h:AH} {Z:Zn} {a0:aQ} {a1:Int} {ab aC aD aE} (hI:Inv Z h) (ad:RS (α:=al) Z aC a0.L) (ae:RS (α:=aq) Z aD a0.T.an) (ah:RS (α:=aj) Z aE a0.D) (ak:Z ab=some (aB aC aD aE a0)) {r:Int} (hm:iJ F a0 a1=some r):
  bY Tryz.prog 105 [Pt ab 0,V a1] h Z (V r):=by
 refine b1 Tryz.func105 hI ?_
 intro hs hS
 unfold iJ at hm
 refine sp 1<|sq ?_
 obtain ⟨ax,j,hm⟩:=ai hm
 refine aJ [0,1] (fun l h=>∃ aF av,av=ax∧l=[(0,Pt ab 0),(1,V av)]∧St hs [] Z (0,0) aF h []) ?_ ?_
 rintro l a8 ⟨aF,av,rfl,rfl,J⟩
 try dsimp only at hm
 refine sq ?_
 obtain ⟨aO,U,hm⟩:=ai hm
 refine aJ [0,1] (fun l h=>∃ aG aw,aw=aO∧l=[(0,Pt ab 0),(1,V aw)]∧St hs [] Z (0,0) aG h []) ?_ ?_
 rintro l a9 ⟨aG,aw,rfl,rfl,ao⟩
 try dsimp only at hm
 refine sq<|s0 ?_
 obtain ⟨ba,aP,hm⟩:=ai hm
 refine cP 2 ao (fO F ao.inv (ad.mono ao.ag) (ae.mono ao.ag) (ah.mono ao.ag) (ao.ag _ _ ak) aP) ?_
 rintro _ bb aH rfl
 refine aK 0 hm ?_ ?_<;>intro bc hm
 refine xn 0<|dT<|sp 3<|rt<|⟨rfl,?_⟩
 obtain rfl:=si hm
 refine ⟨_,_,_,tk (V (af (aw+1))) (ResL.nil),aH,?_⟩
 exact rfl
 refine xn 0<|dF<|sk<|sp 1<|rt<|⟨rfl,?_⟩
 obtain rfl:=si hm
 refine ⟨_,_,_,tk (V 0) (ResL.nil),aH,?_⟩
 exact rfl
 refine s0 ?_
 obtain ⟨bd,aT,U⟩:=ai U
 refine cP 2 J (fO F J.inv (ad.mono J.ag) (ae.mono J.ag) (ah.mono J.ag) (J.ag _ _ ak) aT) ?_
 rintro _ bf aI rfl
 obtain ⟨bg,aU,U⟩:=ai U
 refine cP 0 aI (qk F aI.inv aU) ?_
 rintro _ bh ay rfl
 refine xn 0<|db U ?_ ?_<;>intro bj U
 refine g0 ?_
 obtain ⟨aV,aW,U⟩:=ai U
 refine cP 3 ay (pH F ay.inv (ad.mono J.ag) (ae.mono J.ag) (ah.mono J.ag) (J.ag _ _ ak) aW) ?_
 rintro _ bl aX rfl
 refine xn 1 ?_
 obtain rfl:=si U
 exact ⟨_,aV,rfl,(by kernel_rfl),aX⟩
 refine sk ?_
 obtain rfl:=si U
 exact ⟨_,av,rfl,(by kernel_rfl),ay⟩
 refine bk 0<|lp [0,1] (fun n l h=>∃ aL au,jC F a0 a1 n au=some ax∧l=[(0,Pt ab 0),(1,V au)]∧St hs [] Z (0,0) aL h []) F ⟨_,a1,j,(by kernel_rfl),hS⟩ ?_
 rintro az l bm ⟨aL,au,j,rfl,aa⟩
 rcases az with _ | az
 cases (show none=some ax from j)
 rw [jC] at j
 refine sq ?_
 obtain ⟨aY,I,j⟩:=ai j
 refine aJ [0,1] (fun l h=>∃ aM, .inl ()=aY∧l=[(0,Pt ab 0),(1,V au)]∧St hs [] Z (0,0) aM h []) ?_ ?_
 rintro l bn ⟨aM,rfl,rfl,ar⟩
 try dsimp only at j
 refine bk 1<|g0 ?_
 obtain ⟨aZ,a2,j⟩:=ai j
 refine cP 3 ar (pH F ar.inv (ad.mono ar.ag) (ae.mono ar.ag) (ah.mono ar.ag) (ar.ag _ _ ak) a2) ?_
 rintro _ bo a3 rfl
 refine xn 1 ?_
 exact ⟨az,a7 _,⟨_,aZ,j,(by kernel_rfl),a3⟩⟩
 refine s0 ?_
 obtain ⟨bp,a5,I⟩:=ai I
 refine cP 2 aa (fO F aa.inv (ad.mono aa.ag) (ae.mono aa.ag) (ah.mono aa.ag) (aa.ag _ _ ak) a5) ?_
 rintro _ bq aA rfl
 refine aK 0 I ?_ ?_<;>intro bt I
 refine xn 6<|dT<|sk ?_
 obtain rfl:=si I
 exact ⟨_,rfl,(by kernel_rfl),aA⟩
 obtain ⟨bu,a6,I⟩:=ai I
 refine cP 3 aA (fO F aA.inv (ad.mono aa.ag) (ae.mono aa.ag) (ah.mono aa.ag) (aa.ag _ _ ak) a6) ?_
 rintro _ bw aN rfl
 refine aK 0 I ?_ ?_<;>intro bx I
 refine xn 1<|dT<|sk ?_
 obtain rfl:=si I
 exact ⟨_,rfl,(by kernel_rfl),aN⟩
 refine xn 1<|dF<|xt 0<|aS ?_
 obtain rfl:=si I
 obtain rfl:=si j
 exact ⟨_,au,rfl,(by kernel_rfl),aN⟩
def jf (F:Nat) (a0:Int):Option Bool:=
 if a0=(12:Int) then
  some true
 else
  if a0=(14:Int) then
   some true
  else
   (fC F a0).bind fun j=>
   if j=true then
    some true
   else
    (iS F a0).bind fun I=>
    if I=true then
     some true
    else
     if a0=(18:Int) then
      some true
     else
      some false
theorem vI (F:Nat) {h:AH} {Z:Zn} {a0:Int} (hI:Inv Z h) {r:Bool} (hm:jf F a0=some r):
  bY Tryz.prog 106 [V a0] h Z (.bool r):=by
 refine b1 Tryz.func106 hI ?_
 intro hs hS
 unfold jf at hm
 refine sp 1<|s0<|aK 1 hm ?_ ?_<;>intro aa hm
 refine xn 17<|rt<|⟨rfl,?_⟩
 obtain rfl:=si hm
 refine ⟨_,_,_,tk (.bool true) (ResL.nil),hS,?_⟩
 exact rfl
 refine aK 2 hm ?_ ?_<;>intro ab hm
 refine xn 14<|rt<|⟨rfl,?_⟩
 obtain rfl:=si hm
 refine ⟨_,_,_,tk (.bool true) (ResL.nil),hS,?_⟩
 exact rfl
 obtain ⟨ad,J,hm⟩:=ai hm
 refine cP 3 hS (qk F hS.inv J) ?_
 rintro _ ae j rfl
 refine kb 2 13 hm ?_ ?_<;>intro af hm
 refine xn 8<|rt<|⟨rfl,?_⟩
 obtain rfl:=si hm
 refine ⟨_,_,_,tk (.bool true) (ResL.nil),j,?_⟩
 exact rfl
 obtain ⟨ag,U,hm⟩:=ai hm
 refine cP 1 j (og F j.inv U) ?_
 rintro _ ah I rfl
 refine kb 2 17 hm ?_ ?_<;>intro aj hm
 refine xn 4<|rt<|⟨rfl,?_⟩
 obtain rfl:=si hm
 refine ⟨_,_,_,tk (.bool true) (ResL.nil),I,?_⟩
 exact rfl
 refine aK 1 hm ?_ ?_<;>intro ak hm
 refine xn 2<|rt<|⟨rfl,?_⟩
 obtain rfl:=si hm
 refine ⟨_,_,_,tk (.bool true) (ResL.nil),I,?_⟩
 exact rfl
 refine xn 2<|rt<|⟨rfl,?_⟩
 obtain rfl:=si hm
 refine ⟨_,_,_,tk (.bool false) (ResL.nil),I,?_⟩
 exact rfl
def Dh:List aR:=[u 5 (.buildSlice 29 0 #[]),u 6 (mv 0),u 7 (nk 6),u 8 (fa 62 7 1),u 9 (fa 31 8 0),u 10 (ld 29 9),u 11 (cb .append #[(t 5),(t 10)] #[29,29]),u 4 (sg 11)]
def zO:List aR:=[u 12 (mv 4),u 13 (mv 1),u 14 (ia 29 12 13),u 15 (fa 47 14 5),o (.store 4 (t 15) (.const (.bool true)))]
def Ga:List aR:=[u 16 (mv 0),u 17 (mv 4),u 18 (.build 31 #[(0,(t 17))]),u 19 (nk 16),u 20 (fa 62 19 1),o (.store 31 (t 20) (t 18))]
def mP (F:Nat) (a0:aQ) (a1:Int):Option aQ:=
 if ([]:List aq).length+a0.T.an.length≤2199023255552 then
  if 0≤a1∧a1<((([]:List aq)++a0.T.an).length:Int) then
   ((([]:List aq)++a0.T.an)[a1.toNat]?).bind fun j=>
   some (⟨a0.L,(⟨(([]:List aq)++a0.T.an).set a1.toNat (⟨j.Kind,j.ah,j.To,j.Up,j.Kids,true⟩:aq)⟩:bK),a0.D,a0.End⟩:aQ)
  else none
 else none
theorem uH (F:Nat) {h:AH} {Z:Zn} {a0:aQ} {a1:Int} {U ad af ab ag} (hP:Pre Z h [.ae U (aB ad af ab a0), .gs ab ag (aa aj)]) (az:RS (α:=al) Z ad a0.L) (aA:RS (α:=aq) Z af a0.T.an) (aC:RCs (α:=aj) Z ag a0.D) {r:aQ} (hm:mP F a0 a1=some r):
  bS Tryz.prog 98 [Pt U 0,V a1] h Z [.ae U (aB ad af ab a0), .gs ab ag (aa aj)] fun v Z' A'=>∃ v10 av aw ax, .tuple #[]=v∧A'=[.ae U (aB v10 av ab r), .gs av aw (aa aq), .gs ab ax (aa aj)]∧RS (α:=al) Z' v10 r.L∧RCs (α:=aq) Z' aw r.T.an∧RCs (α:=aj) Z' ax r.D:=by
 refine b3 Tryz.func98 hP ?_
 intro hs hS
 unfold mP at hm
 refine sr Dh ?_
 have aE:RCs (α:=aq) Z [] []:=RCs.bq _
 refine dG rfl trivial (c6 (cells:=[]) (s:=6) (by kernel_rfl)) (by kernel_rfl) hS ?_
 intro aF aP ak
 refine xq 4 [(9,Pt U 1),(5,aF),(0,Pt U 0),(1,V a1)]<|aD 0 1 af ak rfl ?_
 obtain ⟨aS,aG⟩:=RS.news aA (ak).inv
 obtain ⟨aT,hm⟩:=aH hm
 refine eZ rfl trivial (dE (ys:=a0.T.an) (bX:=64) ak (i:=0) rfl aE aG rfl rfl (by kernel_rfl) (by omega) (by omega)) ?_
 rintro I aU aV ⟨ao,ar⟩
 refine xn 1<|sr zO<|eV 2 0 hm ar ao rfl ?_
 intro aW hm
 refine xq 1 [(15, .pointer (some (bw I a1 (aa aq) 5))),(4,I),(0,Pt U 0)] ?_
 obtain ⟨J,ay,hm⟩:=ai hm
 obtain ⟨aX,aI,aY,aJ⟩:=ar.cv (j:=0) rfl ao (i:=a1) ay
 obtain ⟨aK,aL,rfl⟩:=ey aI
 refine mg rfl trivial (gD (u':=(⟨J.Kind,J.ah,J.To,J.Up,J.Kids,true⟩:aq)) (vs:=[.bool true]) (a9:=[V J.Kind,V J.ah,V J.To,V J.Up,aK, .bool true]) ar (m:=0) rfl ao ay aJ rfl rfl rfl (by kernel_rfl) rfl rfl rfl ⟨_,aL,rfl⟩) ?_
 rintro aZ aM ⟨aN,au⟩
 refine xn 0<|rg Ga<|xq 2 [(17,I),(16,Pt U 0)]<|bW rfl trivial (jV (v:= .agg #[I]) rfl (CA.cons (cs:=[I]) (au.fQ (i:=0) rfl) (CA.bq)) (by kernel_rfl))<|bG 2 1 (.agg #[I]) [I] (aB ad I ab a0) au rfl rfl (bz (au.fR (i:=0) rfl) cz) ?_
 intro a2 aO
 refine xn 0 ?_
 obtain rfl:=si hm
 refine ⟨_,_,_,ResL.nil,(((aO.front 2 rfl).front 1 rfl).front 2 rfl),?_⟩
 exact ⟨ad,I,aM,ag,rfl,rfl,az,aN,aC⟩
def correctorref11_Reader_Pair_l0 (F:Nat) (a0:aQ) (a1:Int) (ab:Int) (J:Int):Nat→aQ→Int→Int→Int→Option (aQ×Int×Int)
 | 0,_,_,_,_=>none
 | n+1,j,U,aa,I=>
  if I<J then
   ((if 0≤I∧I<(j.L.length:Int) then
     (j.L[I.toNat]?).bind fun ad=>
     if ad.Kind=(13:Int) then
      some (j,8)
     else
      some (j,aa)
    else none):Option (aQ×Int)).bind fun o=>match o with
    | (ae,ag)=>correctorref11_Reader_Pair_l0 F a0 a1 ab J n ae U ag (af (I+1))
  else
   some (j,U,aa)
def ma (F:Nat) (a0:aQ) (a1:Int) (j:Int) (I:Int):Option (Int×aQ):=
 (eO F a0 a1 6 j I).bind fun J=>
 if (af (I - j))<(2:Int) then
  some (J.1,J.2)
 else
  ((correctorref11_Reader_Pair_l0 F a0 a1 j I F J.2 J.1 7 j):Option (aQ×Int×Int)).bind fun o=>match o with
   | (aa,U,ab)=>(jJ F aa (af (I - 1)) (af (j+1))).bind fun ad=>
   (eO F aa U ab j ad).bind fun ae=>
   (mP F ae.2 U).bind fun ag=>
   some (U,ag)
theorem wI (F:Nat) {h:AH} {Z:Zn} {a0:aQ} {a1:Int} {ad:Int} {ak:Int} {I ao ar j av} (hP:Pre Z h [.ae I (aB ao ar j a0), .gs j av (aa aj)]) (bw:RS (α:=al) Z ao a0.L) (bx:RS (α:=aq) Z ar a0.T.an) (bz:RCs (α:=aj) Z av a0.D) {r:Int×aQ} (hm:ma F a0 a1 ad ak=some r):
  bS Tryz.prog 89 [Pt I 0,V a1,V ad,V ak] h Z [.ae I (aB ao ar j a0), .gs j av (aa aj)] fun v Z' A'=>∃ v10 ba bb,V r.1=v∧A'=[.ae I (aB v10 ba j r.2), .gs j bb (aa aj)]∧RS (α:=al) Z' v10 r.2.L∧RS (α:=aq) Z' ba r.2.T.an∧RCs (α:=aj) Z' bb r.2.D:=by
 refine b3 Tryz.func89 hP ?_
 intro hs hS
 unfold ma at hm
 refine sp 1<|s0 ?_
 obtain ⟨aU,bB,hm⟩:=ai hm
 refine cA 4 hS (fun p=>gB F p bw bx bz bB) ?_
 rintro _ b1 b2 _ b4 bc ⟨bd,bf,bg,rfl,rfl,bh,bj,bl⟩
 refine xn 1<|sq<|s0<|aT 3 hm ?_ ?_<;>intro b5 hm
 refine xn 0<|dT<|sp 2<|rt<|⟨rfl,?_⟩
 obtain rfl:=si hm
 refine ⟨_,_,_,tk (V aU.1) (ResL.nil),bc,?_⟩
 exact ⟨bd,bf,bg,rfl,rfl,bh,bj,bl⟩
 refine xn 0<|dF<|sk<|sp 1<|sq<|sp 2 ?_
 obtain ⟨aV,J,hm⟩:=ai hm
 refine aJ [0,2,3,9,10] (fun l h=>∃ aA aw aL aW aX aY aZ,(aw,aL,aW)=aV∧RS (α:=al) aA aX aw.L∧RS (α:=aq) aA aY aw.T.an∧RCs (α:=aj) aA aZ aw.D∧l=[(0,Pt I 0),(2,V ad),(3,V ak),(9,V aL),(10,V aW)]∧St hs (a2 [.ae I (aB ao ar j a0), .gs j av (aa aj)]) Z (0,0) aA h [.ae I (aB aX aY j aw), .gs j aZ (aa aj)]) ?_ ?_
 rintro l b6 ⟨aA,aw,aL,aW,aX,aY,aZ,rfl,bm,bn,bo,rfl,bC⟩
 try dsimp only at hm
 refine s0 ?_
 obtain ⟨b7,bD,hm⟩:=ai hm
 refine cE 9 bC (fun b8 a3 bE bp=>pY F bE (RS.mono a3 bm) (RS.mono a3 bn) (bA.row (bp _ (au (i:=1) rfl)) a3 bo) (bp _ (au (i:=0) rfl)) bD) ?_
 rintro _ b9 bF rfl
 obtain ⟨ca,bG,hm⟩:=ai hm
 refine cA 0 bF (fun p=>gB F p bm bn bo bG) ?_
 rintro _ cb cc _ cd bH ⟨cf,cg,ch,rfl,rfl,bI,bJ,bK⟩
 refine xn 0<|s0 ?_
 obtain ⟨cj,bL,hm⟩:=ai hm
 refine cA 2 bH (fun p=>uH F p bI bJ bK bL) ?_
 rintro _ ck cl _ cm bM ⟨bN,bO,cn,bP,rfl,rfl,bQ,bR,bT⟩
 refine xn 0<|sp 2<|rt<|⟨rfl,?_⟩
 obtain ⟨cp,bq,bU,bV⟩:=(bM.front 1 rfl).freeze bR
 obtain rfl:=si hm
 refine ⟨_,_,_,tk (V aL) (ResL.nil),bV,?_⟩
 exact ⟨bN,bO,bP,rfl,rfl,(bQ.mono bq),bU,(bT.mono bq)⟩
 refine bk 0<|lp [0,2,3,9,10,11] (fun n l h=>∃ aC U ax aE aF ag ay az,correctorref11_Reader_Pair_l0 F a0 a1 ad ak n U ax aE aF=some aV∧RS (α:=al) aC ag U.L∧RS (α:=aq) aC ay U.T.an∧RCs (α:=aj) aC az U.D∧l=[(0,Pt I 0),(2,V ad),(3,V ak),(9,V ax),(10,V aE),(11,V aF)]∧St hs (a2 [.ae I (aB ao ar j a0), .gs j av (aa aj)]) Z (0,0) aC h [.ae I (aB ag ay j U), .gs j az (aa aj)]) F ⟨_,aU.2,aU.1,7,ad,bd,bf,bg,J,bh,bj,bl,(by kernel_rfl),bc⟩ ?_
 rintro a5 l cq ⟨aC,U,ax,aE,aF,ag,ay,az,J,aG,a6,a9,rfl,aH⟩
 rcases a5 with _ | a5
 cases (show none=some aV from J)
 rw [correctorref11_Reader_Pair_l0] at J
 refine sq<|s0<|aT 2 J ?_ ?_<;>intro cr J
 refine xn 0<|dT<|sk<|sq<|bk 1 ?_
 obtain ⟨bW,ab,J⟩:=ai J
 refine dM [0,2,3,9,10,11] (fun l h=>∃ aI ah aM aN aO aP,(ah,aM)=bW∧RS (α:=al) aI aN ah.L∧RS (α:=aq) aI aO ah.T.an∧RCs (α:=aj) aI aP ah.D∧l=[(0,Pt I 0),(2,V ad),(3,V ak),(9,V ax),(10,V aM),(11,V aF)]∧St hs (a2 [.ae I (aB ao ar j a0), .gs j av (aa aj)]) Z (0,0) aI h [.ae I (aB aN aO j ah), .gs j aP (aa aj)]) (by kernel_rfl) ?_ ?_
 rintro l ct ⟨aI,ah,aM,aN,aO,aP,rfl,bX,bY,bZ,rfl,b0⟩
 try dsimp only at J
 refine gp 3 ?_
 exact ⟨a5,a7 _,⟨_,ah,ax,aM,af (aF+1),aN,aO,aP,J,bX,bY,bZ,(by kernel_rfl),b0⟩⟩
 refine g0<|aD 3 0 ag aH rfl<|a8 1 ab aG ?_
 intro cu ab
 refine bt 1 0 (fun bu=>V bu.Kind) ab aG aH ?_
 intro bu cv ab
 refine aK 0 ab ?_ ?_<;>intro cw ab
 refine xn 0<|dT<|gp 1 ?_
 obtain rfl:=si ab
 exact ⟨_,U,8,ag,ay,az,rfl,aG,a6,a9,(by kernel_rfl),aH⟩
 refine xn 0<|dF<|sk ?_
 obtain rfl:=si ab
 exact ⟨_,U,aE,ag,ay,az,rfl,aG,a6,a9,(by kernel_rfl),aH⟩
 refine xn 0<|dF<|xt 0<|aS ?_
 obtain rfl:=si J
 exact ⟨_,U,ax,aE,ag,ay,az,rfl,aG,a6,a9,(by kernel_rfl),aH⟩
def jO (F:Nat) (a0:aQ) (a1:Int):Nat→Int→Int→Option Int
 | 0,_,_=>none
 | n+1,J,j=>
  (eP F a0 j).bind fun aa=>
  if (0:Int)<aa then
   (eP F a0 j).bind fun I=>
   ((if J=(0:Int) then
     if I=(7:Int) then
      some (.inr j)
     else
      (iQ F I).bind fun ab=>
      if ab=true then
       some (.inr j)
      else
       some (.inl ())
    else
     some (.inl ())):Option (Sum Unit Int)).bind fun o=>match o with
    | .inl ()=>(((iS F I).bind fun ad=>
     if ad=true then
      some (af (J+1))
     else
      some J):Option Int).bind fun o=>match o with
     | U=>(iQ F I).bind fun ae=>
     ((if ae=true then
       some (af (U - 1))
      else
       some U):Option Int).bind fun o=>match o with
      | ag=>jO F a0 a1 n ag (af (j+1))
    | .inr y=>some y
  else
   some j
def kj (F:Nat) (a0:aQ) (a1:Int):Option Int:=
 ((jO F a0 a1 F 0 a1):Option Int).bind fun o=>match o with
  | j=>(jJ F a0 j (af (a1+1))).bind fun I=>
  some I
theorem wa (F:Nat) {h:AH} {Z:Zn} {a0:aQ} {a1:Int} {aa aD aE aF} (hI:Inv Z h) (au:RS (α:=al) Z aD a0.L) (av:RS (α:=aq) Z aE a0.T.an) (aw:RS (α:=aj) Z aF a0.D) (ax:Z aa=some (aB aD aE aF a0)) {r:Int} (hm:kj F a0 a1=some r):
  bY Tryz.prog 104 [Pt aa 0,V a1] h Z (V r):=by
 refine b1 Tryz.func104 hI ?_
 intro hs hS
 unfold kj at hm
 refine sp 1<|sp 1<|sp 2<|sq ?_
 obtain ⟨ay,j,hm⟩:=ai hm
 refine aJ [0,1,6] (fun l h=>∃ aG az,az=ay∧l=[(0,Pt aa 0),(1,V a1),(6,V az)]∧St hs [] Z (0,0) aG h []) ?_ ?_
 rintro l bc ⟨aG,az,rfl,rfl,ab⟩
 try dsimp only at hm
 refine s0 ?_
 obtain ⟨aW,aX,hm⟩:=ai hm
 refine cP 4 ab (pY F ab.inv (au.mono ab.ag) (av.mono ab.ag) (aw.mono ab.ag) (ab.ag _ _ ax) aX) ?_
 rintro _ bd aY rfl
 refine xn 1<|rt<|⟨rfl,?_⟩
 obtain rfl:=si hm
 refine ⟨_,_,_,tk (V aW) (ResL.nil),aY,?_⟩
 exact rfl
 refine bk 0<|lp [0,1,5,6] (fun n l h=>∃ aH ad J,jO F a0 a1 n ad J=some ay∧l=[(0,Pt aa 0),(1,V a1),(5,V ad),(6,V J)]∧St hs [] Z (0,0) aH h []) F ⟨_,0,a1,j,(by kernel_rfl),hS⟩ ?_
 rintro aA l bf ⟨aH,ad,J,j,rfl,U⟩
 rcases aA with _ | aA
 cases (show none=some ay from j)
 rw [jO] at j
 refine sq<|s0 ?_
 obtain ⟨bg,aZ,j⟩:=ai j
 refine cP 2 U (fO F U.inv (au.mono U.ag) (av.mono U.ag) (aw.mono U.ag) (U.ag _ _ ax) aZ) ?_
 rintro _ bh aC rfl
 refine cZ 0 j ?_ ?_<;>intro bj j
 refine xn 0<|dT<|sk<|bk 1<|s0 ?_
 obtain ⟨aI,a2,j⟩:=ai j
 refine cP 2 aC (fO F aC.inv (au.mono U.ag) (av.mono U.ag) (aw.mono U.ag) (U.ag _ _ ax) a2) ?_
 rintro _ bl ak rfl
 refine xn 1<|sq ?_
 obtain ⟨a3,I,j⟩:=ai j
 refine aJ [0,1,5,6,7] (fun l h=>∃ aL, .inl ()=a3∧l=[(0,Pt aa 0),(1,V a1),(5,V ad),(6,V J),(7,V aI)]∧St hs [] Z (0,0) aL h []) ?_ ?_
 rintro l bm ⟨aL,rfl,rfl,aM⟩
 try dsimp only at j
 refine sq ?_
 obtain ⟨a5,ae,j⟩:=ai j
 refine aJ [0,1,5,6,7] (fun l h=>∃ aN ah,ah=a5∧l=[(0,Pt aa 0),(1,V a1),(5,V ah),(6,V J),(7,V aI)]∧St hs [] Z (0,0) aN h []) ?_ ?_
 rintro l bn ⟨aN,ah,rfl,rfl,aO⟩
 try dsimp only at j
 refine sq<|s0 ?_
 obtain ⟨bo,a6,j⟩:=ai j
 refine cP 1 aO (mW F aO.inv a6) ?_
 rintro _ bp aP rfl
 refine xn 0 ?_
 obtain ⟨a8,ao,j⟩:=ai j
 refine aJ [0,1,5,6] (fun l h=>∃ aT ar,ar=a8∧l=[(0,Pt aa 0),(1,V a1),(5,V ar),(6,V J)]∧St hs [] Z (0,0) aT h []) ?_ ?_
 rintro l bq ⟨aT,ar,rfl,rfl,a9⟩
 try dsimp only at j
 refine gp 3 ?_
 exact ⟨aA,a7 _,⟨_,ar,af (J+1),j,(by kernel_rfl),a9⟩⟩
 refine db ao ?_ ?_<;>intro bt ao
 refine gp 3 ?_
 obtain rfl:=si ao
 exact ⟨_,af (ah - 1),rfl,(by kernel_rfl),aP⟩
 refine sk ?_
 obtain rfl:=si ao
 exact ⟨_,ah,rfl,(by kernel_rfl),aP⟩
 refine s0 ?_
 obtain ⟨bu,ba,ae⟩:=ai ae
 refine cP 1 aM (og F aM.inv ba) ?_
 rintro _ bw aU rfl
 refine xn 0<|db ae ?_ ?_<;>intro bx ae
 refine gp 3 ?_
 obtain rfl:=si ae
 exact ⟨_,af (ad+1),rfl,(by kernel_rfl),aU⟩
 refine sk ?_
 obtain rfl:=si ae
 exact ⟨_,ad,rfl,(by kernel_rfl),aU⟩
 refine s0<|aK 1 I ?_ ?_<;>intro bz I
 refine aK 2 I ?_ ?_<;>intro bA I
 refine xn 5<|dT<|xt 0<|h3 rfl<|aS ?_
 obtain rfl:=si I
 obtain rfl:=si j
 exact ⟨_,J,rfl,(by kernel_rfl),ak⟩
 obtain ⟨bB,bb,I⟩:=ai I
 refine cP 2 ak (mW F ak.inv bb) ?_
 rintro _ bC aV rfl
 refine xn 2<|db I ?_ ?_<;>intro bD I
 refine xt 0<|h3 rfl<|aS ?_
 obtain rfl:=si I
 obtain rfl:=si j
 exact ⟨_,J,rfl,(by kernel_rfl),aV⟩
 refine sk ?_
 obtain rfl:=si I
 exact ⟨_,rfl,(by kernel_rfl),aV⟩
 refine xn 8<|dF<|sk ?_
 obtain rfl:=si I
 exact ⟨_,rfl,(by kernel_rfl),ak⟩
 refine xn 0<|dF<|xt 0<|aS ?_
 obtain rfl:=si j
 exact ⟨_,J,rfl,(by kernel_rfl),aC⟩
def pB (cF:aQ→Int→Int→Int→Option (Int×Int×aQ)):Prop:=∀ {h:AH} {Z:Zn} {a0:aQ} {a1:Int} {ad:Int} {af:Int} {j J U I ab} (hP:Pre Z h [.ae j (aB J U I a0), .gs I ab (aa aj)]) (ak:RS (α:=al) Z J a0.L) (ao:RS (α:=aq) Z U a0.T.an) (ar:RCs (α:=aj) Z ab a0.D) {r:Int×Int×aQ} (hm:cF a0 a1 ad af=some r),bS Tryz.prog 83 [Pt j 0,V a1,V ad,V af] h Z [.ae j (aB J U I a0), .gs I ab (aa aj)] fun v Z' A'=>∃ v10 ag ah ai, .tuple #[V r.1,V r.2.1]=v∧A'=[.ae j (aB v10 ag ah r.2.2), .gs ah ai (aa aj)]∧RS (α:=al) Z' v10 r.2.2.L∧RS (α:=aq) Z' ag r.2.2.T.an∧RCs (α:=aj) Z' ai r.2.2.D
def ic (F:Nat) (cF:aQ→Int→Int→Int→Option (Int×Int×aQ)) (a0:aQ) (a1:Int) (J:Int) (ad:Int):Option (Int×aQ):=
 (iJ F a0 J).bind fun j=>
 if (0:Int)<j then
  (ma F a0 a1 J j).bind fun I=>
  (iL F I.2 j).bind fun ae=>
  (eP F I.2 ae).bind fun aa=>
  if aa=(0:Int) then
   some (j,I.2)
  else
   if aa=(7:Int) then
    some (j,I.2)
   else
    (iQ F aa).bind fun ah=>
    if ah=true then
     some (j,I.2)
    else
     (cF I.2 I.1 ae (af (ad - 1))).bind fun U=>
     if U.1<(0:Int) then
      some (j,U.2.2)
     else
      some (U.2.1,U.2.2)
 else
  ((if 0≤a1∧a1<(a0.T.an.length:Int) then
    (a0.T.an[a1.toNat]?).bind fun ai=>
    if ai.Kind=(10:Int) then
     (eO F a0 a1 6 J (af (J+1))).bind fun ab=>
     (mP F ab.2 ab.1).bind fun aj=>
     some (aj,ab.1)
    else
     some (a0,a1)
   else none):Option (aQ×Int)).bind fun o=>match o with
   | (ak,ao)=>(cF ak ao J (af (ad - 1))).bind fun ag=>
   some (ag.2.1,ag.2.2)
theorem pM (F:Nat) (cF:aQ→Int→Int→Int→Option (Int×Int×aQ)) (jv:pB cF) {h:AH} {Z:Zn} {a0:aQ} {a1:Int} {aA:Int} {aC:Int} {J ak U I ao} (hP:Pre Z h [.ae J (aB ak U I a0), .gs I ao (aa aj)]) (aw:RS (α:=al) Z ak a0.L) (ab:RS (α:=aq) Z U a0.T.an) (ax:RCs (α:=aj) Z ao a0.D) {r:Int×aQ} (hm:ic F cF a0 a1 aA aC=some r):
  bS Tryz.prog 107 [Pt J 0,V a1,V aA,V aC] h Z [.ae J (aB ak U I a0), .gs I ao (aa aj)] fun v Z' A'=>∃ v10 aU aV aW,V r.1=v∧A'=[.ae J (aB v10 aU aV r.2), .gs aV aW (aa aj)]∧RS (α:=al) Z' v10 r.2.L∧RS (α:=aq) Z' aU r.2.T.an∧RCs (α:=aj) Z' aW r.2.D:=by
 refine b3 Tryz.func107 hP ?_
 intro hs hS
 unfold ic at hm
 refine sp 1<|s0 ?_
 obtain ⟨ay,bg,hm⟩:=ai hm
 refine cE 2 hS (fun cc aE bh aX=>qE F bh (RS.mono aE aw) (RS.mono aE ab) (bA.row (aX _ (au (i:=1) rfl)) aE ax) (aX _ (au (i:=0) rfl)) bg) ?_
 rintro _ cd ar rfl
 refine xn 1<|sq<|s0<|cZ 1 hm ?_ ?_<;>intro cf hm
 refine xn 0<|dT<|s0 ?_
 obtain ⟨cg,bj,hm⟩:=ai hm
 refine cA 4 ar (fun p=>wI F p aw ab ax bj) ?_
 rintro _ ch cj _ ck bk ⟨aF,aG,aH,rfl,rfl,ad,af,ag⟩
 refine xn 1<|s0 ?_
 obtain ⟨cl,bl,hm⟩:=ai hm
 refine cE 2 bk (fun cm aI bm aY=>pH F bm (RS.mono aI ad) (RS.mono aI af) (bA.row (aY _ (au (i:=1) rfl)) aI ag) (aY _ (au (i:=0) rfl)) bl) ?_
 rintro _ cn bn rfl
 refine xn 1<|s0 ?_
 obtain ⟨cp,bo,hm⟩:=ai hm
 refine cE 2 bn (fun cq aL bp aZ=>fO F bp (RS.mono aL ad) (RS.mono aL af) (bA.row (aZ _ (au (i:=1) rfl)) aL ag) (aZ _ (au (i:=0) rfl)) bo) ?_
 rintro _ cr az rfl
 refine xn 1<|sq<|s0<|aK 1 hm ?_ ?_<;>intro ct hm
 refine xn 8<|dT<|sp 2<|rt<|⟨rfl,?_⟩
 obtain rfl:=si hm
 refine ⟨_,_,_,tk (V ay) (ResL.nil),az,?_⟩
 exact ⟨aF,aG,I,aH,rfl,rfl,ad,af,ag⟩
 refine aK 2 hm ?_ ?_<;>intro cu hm
 refine xn 5<|dT<|sp 2<|rt<|⟨rfl,?_⟩
 obtain rfl:=si hm
 refine ⟨_,_,_,tk (V ay) (ResL.nil),az,?_⟩
 exact ⟨aF,aG,I,aH,rfl,rfl,ad,af,ag⟩
 obtain ⟨cv,bq,hm⟩:=ai hm
 refine cP 3 az (mW F az.inv bq) ?_
 rintro _ cw a3 rfl
 refine xn 1<|db hm ?_ ?_<;>intro cx hm
 refine sp 2<|rt<|⟨rfl,?_⟩
 obtain rfl:=si hm
 refine ⟨_,_,_,tk (V ay) (ResL.nil),a3,?_⟩
 exact ⟨aF,aG,I,aH,rfl,rfl,ad,af,ag⟩
 refine sk<|s0 ?_
 obtain ⟨bt,bu,hm⟩:=ai hm
 refine cA 5 a3 (fun p=>jv p ad af ag bu) ?_
 rintro _ cy cz _ cB a5 ⟨a6,a7,a9,ba,rfl,rfl,bb,bc,bd⟩
 refine xn 5<|sq<|s0<|aT 1 hm ?_ ?_<;>intro cC hm
 refine xn 0<|dT<|sp 2<|rt<|⟨rfl,?_⟩
 obtain rfl:=si hm
 refine ⟨_,_,_,tk (V ay) (ResL.nil),a5,?_⟩
 exact ⟨a6,a7,a9,ba,rfl,rfl,bb,bc,bd⟩
 refine xn 0<|dF<|sk<|sp 2<|rt<|⟨rfl,?_⟩
 obtain rfl:=si hm
 refine ⟨_,_,_,tk (V bt.2.1) (ResL.nil),a5,?_⟩
 exact ⟨a6,a7,a9,ba,rfl,rfl,bb,bc,bd⟩
 refine xn 0<|dF<|sk<|sp 2<|sq ?_
 obtain ⟨bw,j,hm⟩:=ai hm
 refine aJ [0,2,3,15] (fun l h=>∃ av ah aM aN aP aS,(ah,aM)=bw∧RS (α:=al) av aN ah.L∧RS (α:=aq) av aP ah.T.an∧RCs (α:=aj) av aS ah.D∧l=[(0,Pt J 0),(2,V aA),(3,V aC),(15,V aM)]∧St hs (a2 [.ae J (aB ak U I a0), .gs I ao (aa aj)]) Z (0,0) av h [.ae J (aB aN aP I ah), .gs I aS (aa aj)]) ?_ ?_
 rintro l cD ⟨av,ah,aM,aN,aP,aS,rfl,bx,bz,bB,rfl,bC⟩
 try dsimp only at hm
 refine s0 ?_
 obtain ⟨bD,bE,hm⟩:=ai hm
 refine cA 5 bC (fun p=>jv p bx bz bB bE) ?_
 rintro _ cG cH _ cI bF ⟨bG,bH,bI,bJ,rfl,rfl,bK,bL,bM⟩
 refine xn 5<|sp 2<|rt<|⟨rfl,?_⟩
 obtain rfl:=si hm
 refine ⟨_,_,_,tk (V bD.2.1) (ResL.nil),bF,?_⟩
 exact ⟨bG,bH,bI,bJ,rfl,rfl,bK,bL,bM⟩
 refine s0<|aD 4 0 U ar rfl<|a8 1 j ab ?_
 intro cJ j
 obtain ⟨bN,bP,j⟩:=ai j
 obtain ⟨cK,bQ,bR⟩:=RS.bV ab (i:=a1) bP
 obtain ⟨cL,cM,rfl⟩:=ey bQ
 refine eS 1 0 (V bN.Kind) (bR _ (ar.bO (aO.refl _)))<|aK 0 j ?_ ?_<;>intro cN j
 refine xn 0<|dT<|s0 ?_
 obtain ⟨bT,bU,j⟩:=ai j
 refine cA 5 ar (fun p=>gB F p aw ab ax bU) ?_
 rintro _ cO cQ _ cR bW ⟨cS,cT,cU,rfl,rfl,bX,bY,bZ⟩
 refine xn 1<|g0 ?_
 obtain ⟨b0,b1,j⟩:=ai j
 refine cA 2 bW (fun p=>uH F p bX bY bZ b1) ?_
 rintro _ cW cX _ cY b2 ⟨b4,b5,c0,b6,rfl,rfl,b7,b8,b9⟩
 refine xn 0 ?_
 obtain ⟨c3,bf,ca,cb⟩:=(b2.front 1 rfl).freeze b8
 obtain rfl:=si j
 exact ⟨_,b0,bT.1,b4,b5,b6,rfl,(b7.mono bf),ca,(b9.mono bf),(by kernel_rfl),cb⟩
 refine xn 0<|dF<|sk ?_
 obtain rfl:=si j
 exact ⟨_,a0,a1,ak,U,ao,rfl,aw,ab,ax,(by kernel_rfl),ar⟩
def Ev:List br:=[uP 42 (mv 0),uP 43 (mv 0),uP 44 (nk 43),uP 45 (fa 62 44 2),uL 46 (ld 32 45),uP 47 (mv 0),uP 48 (nk 47),uP 49 (fa 62 48 0),uL 50 (ld 28 49),uP 51 (mv 2),uP 52 (ia 28 50 51),uP 53 (fa 76 52 1),uL 54 (ld 3 53),uP 55 (mv 0),uP 56 (nk 55),uP 57 (fa 62 56 0),uL 58 (ld 28 57),uP 59 (mv 2),uP 60 (ia 28 58 59),uP 61 (fa 76 60 2),uL 62 (ld 3 61),uP 63 (.build 94 #[(0,(ci 9)),(1,(t 54)),(2,(t 62))]),uF 64 (.buildSlice 32 1 #[(0,(t 63))]) .fresh [],uF 65 (cb .append #[(t 46),(t 64)] #[32,32]) .make [4,8,12,16,20],uP 66 (nk 42),uP 67 (fa 62 66 2),oF (.store 32 (t 67) (t 65)) .make [4,8,12,16,20]]
def correctorref11_Reader_collection_l0 (F:Nat) (cF:aQ→Int→Int→Int→Option (Int×Int×aQ)) (a0:aQ) (a1:Int) (J:Int) (U:Int):Nat→aQ→Bool→Int→Int→Option (Int×aQ)
 | 0,_,_,_,_=>none
 | n+1,j,ab,ai,aa=>
  (iL F j ai).bind fun I=>
  (eP F j I).bind fun ad=>
  if ad=(0:Int) then
   if 0≤J∧J<(j.L.length:Int) then
    (j.L[J.toNat]?).bind fun ae=>
    if 0≤J∧J<(j.L.length:Int) then
     (j.L[J.toNat]?).bind fun ag=>
     if j.D.length+[(⟨9,ae.ah,ag.To⟩:aj)].length≤5864062014805 then
      (jJ F (⟨j.L,j.T,j.D++[(⟨9,ae.ah,ag.To⟩:aj)],j.End⟩:aQ) ai (af (J+1))).bind fun av=>
      some (av,(⟨j.L,j.T,j.D++[(⟨9,ae.ah,ag.To⟩:aj)],j.End⟩:aQ))
     else none
    else none
   else none
  else
   if ad=aa then
    (iI F j.T a1 (af (I+1))).bind fun aw=>
    some (af (I+1),(⟨j.L,aw,j.D,j.End⟩:aQ))
   else
    (iQ F ad).bind fun ax=>
    if ax=true then
     (eu F j a1 I (af (I+1)) 8).bind fun ay=>
     correctorref11_Reader_collection_l0 F cF a0 a1 J U n ay.2 ab (af (I+1)) aa
    else
     if ad=(7:Int) then
      if ab=true then
       (iI F j.T a1 (af (I+1))).bind fun az=>
       correctorref11_Reader_collection_l0 F cF a0 a1 J U n (⟨j.L,az,j.D,j.End⟩:aQ) false (af (I+1)) aa
      else
       if ad=(7:Int) then
        (eu F j a1 I (af (I+1)) 8).bind fun aA=>
        correctorref11_Reader_collection_l0 F cF a0 a1 J U n aA.2 ab (af (I+1)) aa
       else
        if ab=true then
         (kj F j I).bind fun ak=>
         (eu F j a1 I ak 8).bind fun aB=>
         correctorref11_Reader_collection_l0 F cF a0 a1 J U n aB.2 ab ak aa
        else
         (iJ F j I).bind fun aC=>
         if (0:Int)<aC then
          (ic F cF j a1 I U).bind fun an=>
          correctorref11_Reader_collection_l0 F cF a0 a1 J U n an.2 true an.1 aa
         else
          (jf F ad).bind fun aD=>
          if aD=true then
           (ic F cF j a1 I U).bind fun ao=>
           correctorref11_Reader_collection_l0 F cF a0 a1 J U n ao.2 true ao.1 aa
          else
           (eu F j a1 I (af (I+1)) 8).bind fun aE=>
           correctorref11_Reader_collection_l0 F cF a0 a1 J U n aE.2 ab (af (I+1)) aa
     else
      if ad=(7:Int) then
       (eu F j a1 I (af (I+1)) 8).bind fun aF=>
       correctorref11_Reader_collection_l0 F cF a0 a1 J U n aF.2 ab (af (I+1)) aa
      else
       if ab=true then
        (kj F j I).bind fun aq=>
        (eu F j a1 I aq 8).bind fun aG=>
        correctorref11_Reader_collection_l0 F cF a0 a1 J U n aG.2 ab aq aa
       else
        (iJ F j I).bind fun aH=>
        if (0:Int)<aH then
         (ic F cF j a1 I U).bind fun ar=>
         correctorref11_Reader_collection_l0 F cF a0 a1 J U n ar.2 true ar.1 aa
        else
         (jf F ad).bind fun aI=>
         if aI=true then
          (ic F cF j a1 I U).bind fun au=>
          correctorref11_Reader_collection_l0 F cF a0 a1 J U n au.2 true au.1 aa
         else
          (eu F j a1 I (af (I+1)) 8).bind fun aJ=>
          correctorref11_Reader_collection_l0 F cF a0 a1 J U n aJ.2 ab (af (I+1)) aa
def mI (F:Nat) (cF:aQ→Int→Int→Int→Option (Int×Int×aQ)) (a0:aQ) (a1:Int) (j:Int) (I:Int):Option (Int×aQ):=
 ((if 0≤j∧j<(a0.L.length:Int) then
   (a0.L[j.toNat]?).bind fun J=>
   if J.Kind=(9:Int) then
    some 11
   else
    some 10
  else none):Option Int).bind fun o=>match o with
  | U=>((correctorref11_Reader_collection_l0 F cF a0 a1 j I F a0 false (af (j+1)) U):Option (Int×aQ)).bind fun o=>match o with
   | y=>some y
theorem EN (F:Nat) (cF:aQ→Int→Int→Int→Option (Int×Int×aQ)) (jv:pB cF) {h:AH} {Z:Zn} {a0:aQ} {a1:Int} {ab:Int} {a9:Int} {J aM aP aA aS} (hP:Pre Z h [.ae J (aB aM aP aA a0), .gs aA aS (aa aj)]) (bg:RS (α:=al) Z aM a0.L) (cn:RS (α:=aq) Z aP a0.T.an) (cp:RCs (α:=aj) Z aS a0.D) {r:Int×aQ} (hm:mI F cF a0 a1 ab a9=some r):
  bS Tryz.prog 96 [Pt J 0,V a1,V ab,V a9] h Z [.ae J (aB aM aP aA a0), .gs aA aS (aa aj)] fun v Z' A'=>∃ v10 bI bJ bK,V r.1=v∧A'=[.ae J (aB v10 bI bJ r.2), .gs bJ bK (aa aj)]∧RS (α:=al) Z' v10 r.2.L∧RS (α:=aq) Z' bI r.2.T.an∧RCs (α:=aj) Z' bK r.2.D:=by
 refine b3 Tryz.func96 hP ?_
 intro hs hS
 unfold mI at hm
 refine sp 1<|sp 1<|sp 3<|sp 1<|sq ?_
 obtain ⟨cq,aN,hm⟩:=ai hm
 refine aJ [0,1,2,3,9,10,11] (fun l h=>∃ bM bb,bb=cq∧l=[(0,Pt J 0),(1,V a1),(2,V ab),(3,V a9),(9, .bool false),(10,V (af (ab+1))),(11,V bb)]∧St hs (a2 [.ae J (aB aM aP aA a0), .gs aA aS (aa aj)]) Z (0,0) bM h [.ae J (aB aM aP aA a0), .gs aA aS (aa aj)]) ?_ ?_
 rintro l fG ⟨bM,bb,rfl,rfl,bc⟩
 try dsimp only at hm
 obtain ⟨bN,I,hm⟩:=ai hm
 refine bk 0<|lp [0,1,2,3,9,10,11] (fun n l h=>∃ aX ar aE az aw ak aI av aZ,correctorref11_Reader_collection_l0 F cF a0 a1 ab a9 n ar aE az aw=some bN∧RS (α:=al) aX ak ar.L∧RS (α:=aq) aX aI ar.T.an∧RCs (α:=aj) aX aZ ar.D∧l=[(0,Pt J 0),(1,V a1),(2,V ab),(3,V a9),(9, .bool aE),(10,V az),(11,V aw)]∧St hs (a2 [.ae J (aB aM aP aA a0), .gs aA aS (aa aj)]) Z (0,0) aX h [.ae J (aB ak aI av ar), .gs av aZ (aa aj)]) F ⟨_,a0,false,af (ab+1),bb,aM,aP,aA,aS,I,(bg.mono bc.ag),(cn.mono bc.ag),(cp.mono bc.ag),(by kernel_rfl),bc⟩ ?_
 rintro ax l fH ⟨aX,ar,aE,az,aw,ak,aI,av,aZ,I,U,ad,ao,rfl,cr⟩
 rcases ax with _ | ax
 cases (show none=some bN from I)
 rw [correctorref11_Reader_collection_l0] at I
 refine bk 1<|s0 ?_
 obtain ⟨aT,ct,I⟩:=ai I
 refine cE 2 cr (fun fI bh cu bP=>pH F cu (RS.mono bh U) (RS.mono bh ad) (bA.row (bP _ (au (i:=1) rfl)) bh ao) (bP _ (au (i:=0) rfl)) ct) ?_
 rintro _ fJ cv rfl
 refine xn 1<|s0 ?_
 obtain ⟨fK,cw,I⟩:=ai I
 refine cE 2 cv (fun fM bl cx bQ=>fO F cx (RS.mono bl U) (RS.mono bl ad) (bA.row (bQ _ (au (i:=1) rfl)) bl ao) (bQ _ (au (i:=0) rfl)) cw) ?_
 rintro _ fN a5 rfl
 refine xn 1<|bk 2<|s0<|aK 1 I ?_ ?_<;>intro fP I
 refine xn 1<|dT<|cY Ev a5 ?_
 intro bm fS bn aU
 refine yq 4 [(45,Pt J 2),(42,Pt J 0),(0,Pt J 0),(2,V ab),(10,V az)] ?_
 have fT:J<bm:=bn.1 _ (au (i:=0) rfl) _ (by simp [Itm.ids])
 refine aW (v:=av) rfl trivial rfl (by show J<_;omega) (aG (v:=av) (aU.dN (i:=1) rfl)) (aU.aV (i:=0) rfl (by kernel_rfl)) trivial<|yq 3 [(49,Pt J 0),(46,av),(42,Pt J 0),(0,Pt J 0),(2,V ab),(10,V az)] ?_
 have fU:J<bm:=bn.1 _ (au (i:=0) rfl) _ (by simp [Itm.ids])
 refine aW (v:=ak) rfl trivial rfl (by show J<_;omega) (aG (v:=ak) (RS.cM U)) (aU.aV (i:=0) rfl (by kernel_rfl)) trivial<|yq 1 [(51,V ab),(50,ak),(46,av),(42,Pt J 0),(0,Pt J 0),(2,V ab),(10,V az)] ?_
 obtain ⟨bR,I⟩:=aH I
 refine aF rfl trivial (bx rfl rfl (by kernel_rfl:slTy _ _=some (aa al)) (RS.cG U (by omega)) bR.1 bR.2)<|yq 1 [(53, .pointer (some (bw ak ab (aa al) 1))),(46,av),(42,Pt J 0),(0,Pt J 0),(2,V ab),(10,V az)] ?_
 obtain ⟨ay,cy,I⟩:=ai I
 obtain ⟨fV,cB,cC⟩:=RS.bV U (i:=ab) cy
 obtain rfl:=eH cB
 refine cg rfl rfl trivial (fun h2 hz=>bE (w:=V ay.ah) (cC h2 hz) rfl (by kernel_rfl)) (aU.bO (aO.refl _)) (aG (v:=V ay.ah) trivial) trivial<|yq 3 [(57,Pt J 0),(54,V ay.ah),(46,av),(42,Pt J 0),(0,Pt J 0),(2,V ab),(10,V az)] ?_
 have fW:J<bm:=bn.1 _ (au (i:=0) rfl) _ (by simp [Itm.ids])
 refine aW (v:=ak) rfl trivial rfl (by show J<_;omega) (aG (v:=ak) (RS.cM U)) (aU.aV (i:=0) rfl (by kernel_rfl)) trivial<|yq 1 [(59,V ab),(58,ak),(54,V ay.ah),(46,av),(42,Pt J 0),(0,Pt J 0),(2,V ab),(10,V az)] ?_
 obtain ⟨bT,I⟩:=aH I
 refine aF rfl trivial (bx rfl rfl (by kernel_rfl:slTy _ _=some (aa al)) (RS.cG U (by omega)) bT.1 bT.2)<|yq 1 [(61, .pointer (some (bw ak ab (aa al) 2))),(54,V ay.ah),(46,av),(42,Pt J 0),(0,Pt J 0),(2,V ab),(10,V az)] ?_
 obtain ⟨aC,cD,I⟩:=ai I
 obtain ⟨fX,cH,cI⟩:=RS.bV U (i:=ab) cD
 obtain rfl:=eH cH
 refine cg rfl rfl trivial (fun h2 hz=>bE (w:=V aC.To) (cI h2 hz) rfl (by kernel_rfl)) (aU.bO (aO.refl _)) (aG (v:=V aC.To) trivial) trivial<|yq 1 [(63, .agg #[V 9,V ay.ah,V aC.To]),(46,av),(42,Pt J 0),(0,Pt J 0),(2,V ab),(10,V az)] ?_
 have cJ:RCs (α:=aj) aX [V 9,V ay.ah,V aC.To] [(⟨9,ay.ah,aC.To⟩:aj)]:=RCs.cons (cs:=[V 9,V ay.ah,V aC.To]) rfl (RCs.bq _)
 refine iU rfl trivial (c6 (cells:=[V 9,V ay.ah,V aC.To]) (s:=3) (by kernel_rfl)) (by kernel_rfl) aU (by omega) (Nat.add_lt_add_left (by decide) _) ?_
 intro bW fY fZ gb gd bY
 obtain ⟨gf,I⟩:=aH I
 have ba:St _ _ _ _ _ _ ([.gs av aZ (aa aj)]++[.gs bW [V 9,V ay.ah,V aC.To] (aa aj), .ae J (aB ak aI av ar)]):=(bY.front 2 rfl)
 refine iC rfl trivial ba (dE (ys:=[(⟨9,ay.ah,aC.To⟩:aj)]) (bX:=24) ba.sub (i:=0) rfl ao ((bY.bZ).eB (j:=0) rfl cJ) rfl rfl (by kernel_rfl) (by omega) (by omega)) (aO.refl _) (.a3 trivial (.a3 (ba.bL 1 rfl bU) (.a3 trivial (.a3 (ba.bL 1 rfl bU) (.a3 (ba.bL 1 rfl bU) .nil))))) ?_
 rintro a6 b0 gh ⟨b1,bo⟩
 refine yq 2 [(67,Pt J 2),(65,a6),(0,Pt J 0),(2,V ab),(10,V az)] ?_
 have b2:St _ _ _ _ _ _ ([.ae J (aB ak aI av ar)]++[.gs a6 b0 (aa aj), .gs bW [V 9,V ay.ah,V aC.To] (aa aj)]):=(bo.front 2 rfl)
 refine gu rfl trivial b2 (gg (vs:=[a6]) (cO:=(aB ak aI a6 ar)) (L':=[.ae J (aB ak aI a6 ar)]) b2.sub (i:=0) rfl rfl rfl (bo.fQ (i:=0) rfl) (by kernel_rfl) (bz (bo.fR (i:=0) rfl) cz) rfl rfl rfl) (aO.refl _) (.a3 trivial (.drop (by decide) (.a3 trivial (.drop (by decide) (.drop (by decide) .nil))))) ?_
 intro gi cK
 refine yf [(0,Pt J 0),(2,V ab),(10,V az)] ?_
 have cL:=cK.aY
 refine s0 ?_
 obtain ⟨cN,cQ,I⟩:=ai I
 refine cE 4 cL (fun gj bp cR b4=>pY F (a0:=(⟨ar.L,ar.T,ar.D++[(⟨9,ay.ah,aC.To⟩:aj)],ar.End⟩:aQ)) cR (RS.mono bp U) (RS.mono bp ad) (bA.row (b4 _ (au (i:=1) rfl)) bp b1) (b4 _ (au (i:=0) rfl)) cQ) ?_
 rintro _ gk cS rfl
 refine xn 1<|rt<|bj<|bj<|bj<|⟨rfl,?_⟩
 obtain rfl:=si I
 obtain rfl:=si hm
 refine ⟨_,_,_,tk (V cN) (ResL.nil),(cS.takeN 2),?_⟩
 exact ⟨ak,aI,a6,b0,rfl,rfl,U,ad,b1⟩
 refine xn 1<|dF<|s0<|aK 2 I ?_ ?_<;>intro gl I
 refine xn 1<|dT<|s0<|aD 4 0 (.agg #[aI]) a5 rfl ?_
 obtain ⟨gm,cT,I⟩:=ai I
 refine c0 3 a5 (q1 F a5.eM ad cT) ?_
 rintro _ gn gq _ b5 cU ⟨bd,rfl,rfl,b6⟩
 refine bG 2 0 (.agg #[bd]) [bd] (aB ak bd av ar) cU rfl rfl (bz (RS.di b6) cz) ?_
 intro gr cW
 refine xn 0<|sp 3<|rt<|bj<|bj<|bj<|⟨rfl,?_⟩
 obtain rfl:=si I
 obtain rfl:=si hm
 refine ⟨_,_,_,tk (V (af (aT+1))) (ResL.nil),cW,?_⟩
 exact ⟨ak,bd,av,aZ,rfl,rfl,(U.mono b5),b6,(ao.mono b5)⟩
 refine xn 1<|dF<|s0 ?_
 obtain ⟨gv,cX,I⟩:=ai I
 refine cP 1 a5 (mW F a5.inv cX) ?_
 rintro _ gw aL rfl
 refine xn 1<|db I ?_ ?_<;>intro gx I
 refine s0 ?_
 obtain ⟨c3,c4,I⟩:=ai I
 refine cA 5 aL (fun p=>fL F p U ad ao c4) ?_
 rintro _ gy gz _ gA c5 ⟨c8,dc,dd,de,rfl,rfl,df,dg,dh⟩
 refine xn 0<|gp 3 ?_
 exact ⟨ax,a7 _,⟨_,c3.2,aE,af (aT+1),aw,c8,dc,dd,de,I,df,dg,dh,(by kernel_rfl),c5⟩⟩
 refine s0<|aK 1 I ?_ ?_<;>intro gB I
 refine xn 4<|db I ?_ ?_<;>intro gC I
 refine s0<|aD 4 0 (.agg #[aI]) aL rfl ?_
 obtain ⟨dj,dm,I⟩:=ai I
 refine c0 3 aL (q1 F aL.eM ad dm) ?_
 rintro _ gD gE _ b7 dn ⟨bf,rfl,rfl,b8⟩
 refine bG 2 0 (.agg #[bf]) [bf] (aB ak bf av ar) dn rfl rfl (bz (RS.di b8) cz) ?_
 intro gF dp
 refine xn 0<|sp 1<|gp 3 ?_
 exact ⟨ax,a7 _,⟨_,(⟨ar.L,dj,ar.D,ar.End⟩:aQ),false,af (aT+1),aw,ak,bf,av,aZ,I,(U.mono b7),b8,(ao.mono b7),(by kernel_rfl),dp⟩⟩
 refine s0<|aK 1 I ?_ ?_<;>intro gG I
 refine xn 1<|dT<|s0 ?_
 obtain ⟨dr,ds,I⟩:=ai I
 refine cA 5 aL (fun p=>fL F p U ad ao ds) ?_
 rintro _ gH gI _ gJ dt ⟨du,dv,dw,dx,rfl,rfl,dy,dz,dA⟩
 refine xn 0<|gp 3 ?_
 exact ⟨ax,a7 _,⟨_,dr.2,aE,af (aT+1),aw,du,dv,dw,dx,I,dy,dz,dA,(by kernel_rfl),dt⟩⟩
 refine xn 1<|dF<|sp 2<|db I ?_ ?_<;>intro gK I
 refine s0 ?_
 obtain ⟨dB,dC,I⟩:=ai I
 refine cE 2 aL (fun gL bu dD b9=>wa F dD (RS.mono bu U) (RS.mono bu ad) (bA.row (b9 _ (au (i:=1) rfl)) bu ao) (b9 _ (au (i:=0) rfl)) dC) ?_
 rintro _ gM dG rfl
 refine xn 1<|g0 ?_
 obtain ⟨dH,dI,I⟩:=ai I
 refine cA 4 dG (fun p=>fL F p U ad ao dI) ?_
 rintro _ gN gO _ gP dJ ⟨dL,dM,dO,dP,rfl,rfl,dQ,dR,dS⟩
 refine xn 0 ?_
 exact ⟨ax,a7 _,⟨_,dH.2,aE,dB,aw,dL,dM,dO,dP,I,dQ,dR,dS,(by kernel_rfl),dJ⟩⟩
 refine s0 ?_
 obtain ⟨gQ,dV,I⟩:=ai I
 refine cE 2 aL (fun gR bB dW ca=>qE F dW (RS.mono bB U) (RS.mono bB ad) (bA.row (ca _ (au (i:=1) rfl)) bB ao) (ca _ (au (i:=0) rfl)) dV) ?_
 rintro _ gS bC rfl
 refine cZ 0 I ?_ ?_<;>intro gT I
 refine xn 5<|dT<|s0 ?_
 obtain ⟨cb,dX,I⟩:=ai I
 refine cA 4 bC (fun p=>pM F cF jv p U ad ao dX) ?_
 rintro _ gU gV _ gW dY ⟨dZ,ea,eb,ec,rfl,rfl,ed,ee,eg⟩
 refine xn 1<|gp 1 ?_
 exact ⟨ax,a7 _,⟨_,cb.2,true,cb.1,aw,dZ,ea,eb,ec,I,ed,ee,eg,(by kernel_rfl),dY⟩⟩
 obtain ⟨gX,eh,I⟩:=ai I
 refine cP 2 bC (vI F bC.inv eh) ?_
 rintro _ gY cc rfl
 refine xn 2<|db I ?_ ?_<;>intro gZ I
 refine s0 ?_
 obtain ⟨cd,ei,I⟩:=ai I
 refine cA 4 cc (fun p=>pM F cF jv p U ad ao ei) ?_
 rintro _ g1 g2 _ g3 ej ⟨ek,en,eo,ep,rfl,rfl,er,et,eu⟩
 refine xn 1<|gp 1 ?_
 exact ⟨ax,a7 _,⟨_,cd.2,true,cd.1,aw,ek,en,eo,ep,I,er,et,eu,(by kernel_rfl),ej⟩⟩
 refine s0 ?_
 obtain ⟨ew,ey,I⟩:=ai I
 refine cA 5 cc (fun p=>fL F p U ad ao ey) ?_
 rintro _ g4 g5 _ g6 ez ⟨eA,eC,eD,eE,rfl,rfl,eF,eG,eI⟩
 refine xn 0<|gp 3 ?_
 exact ⟨ax,a7 _,⟨_,ew.2,aE,af (aT+1),aw,eA,eC,eD,eE,I,eF,eG,eI,(by kernel_rfl),ez⟩⟩
 refine xn 4<|dF<|s0<|aK 1 I ?_ ?_<;>intro g7 I
 refine xn 1<|dT<|s0 ?_
 obtain ⟨eJ,eK,I⟩:=ai I
 refine cA 5 aL (fun p=>fL F p U ad ao eK) ?_
 rintro _ g8 g9 _ ha eL ⟨eN,eO,eP,eQ,rfl,rfl,eR,eS,eT⟩
 refine xn 0<|gp 3 ?_
 exact ⟨ax,a7 _,⟨_,eJ.2,aE,af (aT+1),aw,eN,eO,eP,eQ,I,eR,eS,eT,(by kernel_rfl),eL⟩⟩
 refine xn 1<|dF<|sp 2<|db I ?_ ?_<;>intro hb I
 refine s0 ?_
 obtain ⟨eU,eV,I⟩:=ai I
 refine cE 2 aL (fun hc bD eW cf=>wa F eW (RS.mono bD U) (RS.mono bD ad) (bA.row (cf _ (au (i:=1) rfl)) bD ao) (cf _ (au (i:=0) rfl)) eV) ?_
 rintro _ hf eX rfl
 refine xn 1<|g0 ?_
 obtain ⟨eY,eZ,I⟩:=ai I
 refine cA 4 eX (fun p=>fL F p U ad ao eZ) ?_
 rintro _ hg hh _ hi e0 ⟨e2,e3,e4,e5,rfl,rfl,e6,e7,e8⟩
 refine xn 0 ?_
 exact ⟨ax,a7 _,⟨_,eY.2,aE,eU,aw,e2,e3,e4,e5,I,e6,e7,e8,(by kernel_rfl),e0⟩⟩
 refine s0 ?_
 obtain ⟨hj,e9,I⟩:=ai I
 refine cE 2 aL (fun hk bF fa ch=>qE F fa (RS.mono bF U) (RS.mono bF ad) (bA.row (ch _ (au (i:=1) rfl)) bF ao) (ch _ (au (i:=0) rfl)) e9) ?_
 rintro _ hl bH rfl
 refine cZ 0 I ?_ ?_<;>intro hn I
 refine xn 5<|dT<|s0 ?_
 obtain ⟨cj,fb,I⟩:=ai I
 refine cA 4 bH (fun p=>pM F cF jv p U ad ao fb) ?_
 rintro _ ho hp _ hq fc ⟨fe,ff,fg,fh,rfl,rfl,fi,fj,fk⟩
 refine xn 1<|gp 1 ?_
 exact ⟨ax,a7 _,⟨_,cj.2,true,cj.1,aw,fe,ff,fg,fh,I,fi,fj,fk,(by kernel_rfl),fc⟩⟩
 obtain ⟨hr,fl,I⟩:=ai I
 refine cP 2 bH (vI F bH.inv fl) ?_
 rintro _ ht ck rfl
 refine xn 2<|db I ?_ ?_<;>intro hv I
 refine s0 ?_
 obtain ⟨cl,fm,I⟩:=ai I
 refine cA 4 ck (fun p=>pM F cF jv p U ad ao fm) ?_
 rintro _ hx hy _ hA fo ⟨fp,fq,fr,fs,rfl,rfl,ft,fu,fv⟩
 refine xn 1<|gp 1 ?_
 exact ⟨ax,a7 _,⟨_,cl.2,true,cl.1,aw,fp,fq,fr,fs,I,ft,fu,fv,(by kernel_rfl),fo⟩⟩
 refine s0 ?_
 obtain ⟨fw,fx,I⟩:=ai I
 refine cA 5 ck (fun p=>fL F p U ad ao fx) ?_
 rintro _ hB hC _ hD fy ⟨fz,fA,fB,fC,rfl,rfl,fD,fE,fF⟩
 refine xn 0<|gp 3 ?_
 exact ⟨ax,a7 _,⟨_,fw.2,aE,af (aT+1),aw,fz,fA,fB,fC,I,fD,fE,fF,(by kernel_rfl),fy⟩⟩
 refine s0<|aD 3 0 aM hS rfl<|a8 1 aN bg ?_
 intro hE aN
 refine bt 1 0 (fun cm=>V cm.Kind) aN bg hS ?_
 intro cm hF aN
 refine aK 0 aN ?_ ?_<;>intro hG aN
 refine xn 0<|dT<|gp 1 ?_
 obtain rfl:=si aN
 exact ⟨_,11,rfl,(by kernel_rfl),hS⟩
 refine xn 0<|dF<|sk ?_
 obtain rfl:=si aN
 exact ⟨_,10,rfl,(by kernel_rfl),hS⟩
def correctorref11_Reader_Value_l0 (F:Nat) (cF:aQ→Int→Int→Int→Option (Int×Int×aQ)) (a0:aQ) (a1:Int) (J:Int) (U:Int):Nat→Int→Int→Int→Option (Int×Int×Int)
 | 0,_,_,_=>none
 | n+1,j,I,aa=>
  (((eP F a0 j).bind fun ab=>
   if ab=(12:Int) then
    some (.inl ())
   else
    (eP F a0 j).bind fun ad=>
    if ad=(14:Int) then
     some (.inl ())
    else
     some (.inr (j,I,aa))):Option (Sum Unit (Int×Int×Int))).bind fun o=>match o with
   | .inl ()=>((if I<(0:Int) then
     some j
    else
     some I):Option Int).bind fun o=>match o with
    | ae=>(kS F a0 (af (j+1))).bind fun ag=>
    correctorref11_Reader_Value_l0 F cF a0 a1 J U n ag ae j
   | .inr y=>some y
def o2 (F:Nat) (cF:aQ→Int→Int→Int→Option (Int×Int×aQ)) (a0:aQ) (a1:Int) (U:Int) (aa:Int):Option (Int×Int×aQ):=
 (kS F a0 U).bind fun ar=>
 ((correctorref11_Reader_Value_l0 F cF a0 a1 U aa F ar (-1) 0):Option (Int×Int×Int)).bind fun o=>match o with
  | (j,ab,ae)=>((if (0:Int)≤ab then
    some ab
   else
    some j):Option Int).bind fun o=>match o with
   | I=>(eP F a0 j).bind fun J=>
   if J=(13:Int) then
    (eO F a0 a1 8 I (af (j+1))).bind fun ag=>
    some (ag.1,af (j+1),ag.2)
   else
    (fC F J).bind fun au=>
    if au=true then
     (eO F a0 a1 7 I (af (j+1))).bind fun ah=>
     some (ah.1,af (j+1),ah.2)
    else
     if J=(18:Int) then
      (nW F a0 j).bind fun ai=>
      (eO F a0 a1 7 I ai).bind fun aj=>
      some (aj.1,ai,aj.2)
     else
      (((iS F J).bind fun av=>
       if av=true then
        if aa≤(0:Int) then
         some true
        else
         some false
       else
        some false):Option Bool).bind fun o=>match o with
       | aw=>if aw=true then
        (correctorref11_Reader_balanced F a0 j).bind fun ak=>
        (eu F a0 a1 I ak 10).bind fun an=>
        some (an.1,ak,an.2)
       else
        (iS F J).bind fun ax=>
        if ax=true then
         ((if J=(9:Int) then
           some 10
          else
           some 9):Option Int).bind fun o=>match o with
          | ay=>(eO F a0 a1 ay I (af (j+1))).bind fun ad=>
          (mI F cF ad.2 ad.1 j aa).bind fun ao=>
          some (ad.1,ao.1,ao.2)
        else
         if (0:Int)≤ab then
          (eO F a0 a1 7 I (af (ae+1))).bind fun aq=>
          some (aq.1,af (ae+1),aq.2)
         else
          some ((-1),U,a0)
theorem x1 (F:Nat) (cF:aQ→Int→Int→Int→Option (Int×Int×aQ)) (jv:pB cF) {h:AH} {Z:Zn} {a0:aQ} {a1:Int} {ax:Int} {ay:Int} {I J U j ab} (hP:Pre Z h [.ae I (aB J U j a0), .gs j ab (aa aj)]) (ak:RS (α:=al) Z J a0.L) (ao:RS (α:=aq) Z U a0.T.an) (ar:RCs (α:=aj) Z ab a0.D) {r:Int×Int×aQ} (hm:o2 F cF a0 a1 ax ay=some r):
  bS Tryz.prog 83 [Pt I 0,V a1,V ax,V ay] h Z [.ae I (aB J U j a0), .gs j ab (aa aj)] fun v Z' A'=>∃ v10 bg bh bl, .tuple #[V r.1,V r.2.1]=v∧A'=[.ae I (aB v10 bg bh r.2.2), .gs bh bl (aa aj)]∧RS (α:=al) Z' v10 r.2.2.L∧RS (α:=aq) Z' bg r.2.2.T.an∧RCs (α:=aj) Z' bl r.2.2.D:=by
 refine b3 Tryz.func83 hP ?_
 intro hs hS
 unfold o2 at hm
 refine sp 2<|s0 ?_
 obtain ⟨bJ,bK,hm⟩:=ai hm
 refine cE 2 hS (fun dA aX bL bm=>tP F bL (RS.mono aX ak) (RS.mono aX ao) (bA.row (bm _ (au (i:=1) rfl)) aX ar) (bm _ (au (i:=0) rfl)) bK) ?_
 rintro _ dB bM rfl
 refine xn 1<|sp 2<|sq ?_
 obtain ⟨aY,av,hm⟩:=ai hm
 refine aJ [0,1,2,3,10,11,12] (fun l h=>∃ bn az aE aF,(az,aE,aF)=aY∧l=[(0,Pt I 0),(1,V a1),(2,V ax),(3,V ay),(10,V az),(11,V aE),(12,V aF)]∧St hs (a2 [.ae I (aB J U j a0), .gs j ab (aa aj)]) Z (0,0) bn h [.ae I (aB J U j a0), .gs j ab (aa aj)]) ?_ ?_
 rintro l dC ⟨bn,az,aE,aF,rfl,rfl,bo⟩
 try dsimp only at hm
 refine sp 2<|sq ?_
 obtain ⟨bN,aI,hm⟩:=ai hm
 refine aJ [0,1,2,3,10,11,12,13] (fun l h=>∃ bp aH,aH=bN∧l=[(0,Pt I 0),(1,V a1),(2,V ax),(3,V ay),(10,V az),(11,V aE),(12,V aF),(13,V aH)]∧St hs (a2 [.ae I (aB J U j a0), .gs j ab (aa aj)]) Z (0,0) bp h [.ae I (aB J U j a0), .gs j ab (aa aj)]) ?_ ?_
 rintro l dD ⟨bp,aH,rfl,rfl,ad⟩
 try dsimp only at hm
 refine s0 ?_
 obtain ⟨bO,bP,hm⟩:=ai hm
 refine cE 2 ad (fun dE aZ bQ bq=>fO F bQ (RS.mono aZ (ak.mono ad.ag)) (RS.mono aZ (ao.mono ad.ag)) (bA.row (bq _ (au (i:=1) rfl)) aZ (ar.mono ad.ag)) (bq _ (au (i:=0) rfl)) bP) ?_
 rintro _ dG a3 rfl
 refine xn 1<|sq<|bk 2<|s0<|aK 1 hm ?_ ?_<;>intro dH hm
 refine xn 1<|dT<|s0 ?_
 obtain ⟨bR,bT,hm⟩:=ai hm
 refine cA 5 a3 (fun p=>gB F p (ak.mono ad.ag) (ao.mono ad.ag) (ar.mono ad.ag) bT) ?_
 rintro _ dI dJ _ dL bU ⟨bV,bW,bX,rfl,rfl,bY,bZ,b0⟩
 refine xn 4<|rt<|bj<|⟨rfl,?_⟩
 obtain rfl:=si hm
 refine ⟨_,_,_,tk (V bR.1) (tk (V (af (az+1))) (ResL.nil)),bU,?_⟩
 exact ⟨bV,bW,j,bX,rfl,rfl,bY,bZ,b0⟩
 refine xn 1<|dF<|s0 ?_
 obtain ⟨dN,b1,hm⟩:=ai hm
 refine cP 1 a3 (qk F a3.inv b1) ?_
 rintro _ dO aL rfl
 refine xn 1<|db hm ?_ ?_<;>intro dP hm
 refine s0 ?_
 obtain ⟨b2,b4,hm⟩:=ai hm
 refine cA 5 aL (fun p=>gB F p (ak.mono ad.ag) (ao.mono ad.ag) (ar.mono ad.ag) b4) ?_
 rintro _ dQ dR _ dS b5 ⟨b6,b7,b8,rfl,rfl,b9,ca,cb⟩
 refine xn 4<|rt<|bj<|⟨rfl,?_⟩
 obtain rfl:=si hm
 refine ⟨_,_,_,tk (V b2.1) (tk (V (af (az+1))) (ResL.nil)),b5,?_⟩
 exact ⟨b6,b7,j,b8,rfl,rfl,b9,ca,cb⟩
 refine s0<|aK 1 hm ?_ ?_<;>intro dV hm
 refine xn 1<|dT<|s0 ?_
 obtain ⟨cc,cd,hm⟩:=ai hm
 refine cE 2 aL (fun dW a5 cf bt=>x5 F cf (RS.mono a5 (ak.mono ad.ag)) (RS.mono a5 (ao.mono ad.ag)) (bA.row (bt _ (au (i:=1) rfl)) a5 (ar.mono ad.ag)) (bt _ (au (i:=0) rfl)) cd) ?_
 rintro _ dX cg rfl
 refine xn 1<|s0 ?_
 obtain ⟨ch,cj,hm⟩:=ai hm
 refine cA 4 cg (fun p=>gB F p (ak.mono ad.ag) (ao.mono ad.ag) (ar.mono ad.ag) cj) ?_
 rintro _ dY dZ _ ea ck ⟨cl,cm,cn,rfl,rfl,cp,cq,cr⟩
 refine xn 3<|rt<|bj<|⟨rfl,?_⟩
 obtain rfl:=si hm
 refine ⟨_,_,_,tk (V ch.1) (tk (V cc) (ResL.nil)),ck,?_⟩
 exact ⟨cl,cm,j,cn,rfl,rfl,cp,cq,cr⟩
 refine xn 1<|dF<|sq ?_
 obtain ⟨ct,aA,hm⟩:=ai hm
 refine aJ [0,1,2,3,10,11,12,13,14,81] (fun l h=>∃ bu a6,a6=ct∧l=[(0,Pt I 0),(1,V a1),(2,V ax),(3,V ay),(10,V az),(11,V aE),(12,V aF),(13,V aH),(14,V bO),(81, .bool a6)]∧St hs (a2 [.ae I (aB J U j a0), .gs j ab (aa aj)]) Z (0,0) bu h [.ae I (aB J U j a0), .gs j ab (aa aj)]) ?_ ?_
 rintro l eb ⟨bu,a6,rfl,rfl,ah⟩
 try dsimp only at hm
 refine db hm ?_ ?_<;>intro ec hm
 refine s0 ?_
 obtain ⟨cu,cv,hm⟩:=ai hm
 refine cE 2 ah (fun ed a8 cw bw=>yY F cw (RS.mono a8 (ak.mono ah.ag)) (RS.mono a8 (ao.mono ah.ag)) (bA.row (bw _ (au (i:=1) rfl)) a8 (ar.mono ah.ag)) (bw _ (au (i:=0) rfl)) cv) ?_
 rintro _ ee cx rfl
 refine xn 1<|s0 ?_
 obtain ⟨cy,cz,hm⟩:=ai hm
 refine cA 4 cx (fun p=>fL F p (ak.mono ah.ag) (ao.mono ah.ag) (ar.mono ah.ag) cz) ?_
 rintro _ eg eh _ ei cB ⟨cC,cD,cG,cH,rfl,rfl,cI,cJ,cK⟩
 refine xn 3<|rt<|bj<|⟨rfl,?_⟩
 obtain rfl:=si hm
 refine ⟨_,_,_,tk (V cy.1) (tk (V cu) (ResL.nil)),cB,?_⟩
 exact ⟨cC,cD,cG,cH,rfl,rfl,cI,cJ,cK⟩
 refine s0 ?_
 obtain ⟨ej,cL,hm⟩:=ai hm
 refine cP 1 ah (og F ah.inv cL) ?_
 rintro _ ek aM rfl
 refine xn 1<|db hm ?_ ?_<;>intro en hm
 refine sp 1<|sq ?_
 obtain ⟨cM,aN,hm⟩:=ai hm
 refine aJ [0,1,3,10,13,17] (fun l h=>∃ bx a9,a9=cM∧l=[(0,Pt I 0),(1,V a1),(3,V ay),(10,V az),(13,V aH),(17,V a9)]∧St hs (a2 [.ae I (aB J U j a0), .gs j ab (aa aj)]) Z (0,0) bx h [.ae I (aB J U j a0), .gs j ab (aa aj)]) ?_ ?_
 rintro l eo ⟨bx,a9,rfl,rfl,aO⟩
 try dsimp only at hm
 refine s0 ?_
 obtain ⟨cN,cO,hm⟩:=ai hm
 refine cA 6 aO (fun p=>gB F p (ak.mono aO.ag) (ao.mono aO.ag) (ar.mono aO.ag) cO) ?_
 rintro _ ep er _ et cQ ⟨eu,ew,ey,rfl,rfl,cR,cT,cU⟩
 refine xn 1<|s0 ?_
 obtain ⟨cW,cX,hm⟩:=ai hm
 refine cA 5 cQ (fun p=>EN F cF jv p cR cT cU cX) ?_
 rintro _ ez eA _ eB cY ⟨cZ,c0,c3,c4,rfl,rfl,c5,c6,c8⟩
 refine xn 2<|rt<|bj<|⟨rfl,?_⟩
 obtain rfl:=si hm
 refine ⟨_,_,_,tk (V cN.1) (tk (V cW.1) (ResL.nil)),cY,?_⟩
 exact ⟨cZ,c0,c3,c4,rfl,rfl,c5,c6,c8⟩
 refine s0<|aK 1 aN ?_ ?_<;>intro eC aN
 refine xn 0<|dT<|gp 1 ?_
 obtain rfl:=si aN
 exact ⟨_,10,rfl,(by kernel_rfl),aM⟩
 refine xn 0<|dF<|sk ?_
 obtain rfl:=si aN
 exact ⟨_,9,rfl,(by kernel_rfl),aM⟩
 refine s0<|cS 1 hm ?_ ?_<;>intro eD hm
 refine xn 1<|dT<|s0 ?_
 obtain ⟨dc,dd,hm⟩:=ai hm
 refine cA 5 aM (fun p=>gB F p (ak.mono ah.ag) (ao.mono ah.ag) (ar.mono ah.ag) dd) ?_
 rintro _ eE eF _ eG de ⟨df,dg,dh,rfl,rfl,di,dj,dm⟩
 refine xn 4<|rt<|bj<|⟨rfl,?_⟩
 obtain rfl:=si hm
 refine ⟨_,_,_,tk (V dc.1) (tk (V (af (aF+1))) (ResL.nil)),de,?_⟩
 exact ⟨df,dg,j,dh,rfl,rfl,di,dj,dm⟩
 refine xn 1<|dF<|sk<|sp 3<|rt<|⟨rfl,?_⟩
 obtain rfl:=si hm
 refine ⟨_,_,_,tk (V (-1)) (tk (V ax) (ResL.nil)),aM,?_⟩
 exact ⟨J,U,j,ab,rfl,rfl,(ak.mono ah.ag),(ao.mono ah.ag),(ar.mono ah.ag)⟩
 refine g0 ?_
 obtain ⟨eH,dn,aA⟩:=ai aA
 refine cP 1 aL (og F aL.inv dn) ?_
 rintro _ eI ba rfl
 refine kb 1 84 aA ?_ ?_<;>intro eJ aA
 refine e4 1 aA ?_ ?_<;>intro eK aA
 refine xn 2 ?_
 obtain rfl:=si aA
 exact ⟨_,true,rfl,(by kernel_rfl),ba⟩
 refine xn 2 ?_
 obtain rfl:=si aA
 exact ⟨_,false,rfl,(by kernel_rfl),ba⟩
 refine xn 4 ?_
 obtain rfl:=si aA
 exact ⟨_,false,rfl,(by kernel_rfl),ba⟩
 refine s0<|cS 1 aI ?_ ?_<;>intro eL aI
 refine xn 0<|dT<|gp 2 ?_
 obtain rfl:=si aI
 exact ⟨_,aE,rfl,(by kernel_rfl),bo⟩
 refine xn 0<|dF<|sk ?_
 obtain rfl:=si aI
 exact ⟨_,az,rfl,(by kernel_rfl),bo⟩
 refine bk 0<|lp [0,1,2,3,10,11,12] (fun n l h=>∃ bz aC aG aP,correctorref11_Reader_Value_l0 F cF a0 a1 ax ay n aC aG aP=some aY∧l=[(0,Pt I 0),(1,V a1),(2,V ax),(3,V ay),(10,V aC),(11,V aG),(12,V aP)]∧St hs (a2 [.ae I (aB J U j a0), .gs j ab (aa aj)]) Z (0,0) bz h [.ae I (aB J U j a0), .gs j ab (aa aj)]) F ⟨_,bJ,(-1),0,av,(by kernel_rfl),bM⟩ ?_
 rintro bb l eM ⟨bz,aC,aG,aP,av,rfl,aD⟩
 rcases bb with _ | bb
 cases (show none=some aY from av)
 rw [correctorref11_Reader_Value_l0] at av
 refine sq ?_
 obtain ⟨dp,aw,av⟩:=ai av
 refine aJ [0,1,2,3,10,11] (fun l h=>∃ bB, .inl ()=dp∧l=[(0,Pt I 0),(1,V a1),(2,V ax),(3,V ay),(10,V aC),(11,V aG)]∧St hs (a2 [.ae I (aB J U j a0), .gs j ab (aa aj)]) Z (0,0) bB h [.ae I (aB J U j a0), .gs j ab (aa aj)]) ?_ ?_
 rintro l eN ⟨bB,rfl,rfl,bC⟩
 try dsimp only at av
 refine bk 1<|sq ?_
 obtain ⟨dr,aU,av⟩:=ai av
 refine dM [0,1,2,3,10,11] (fun l h=>∃ bD aV,aV=dr∧l=[(0,Pt I 0),(1,V a1),(2,V ax),(3,V ay),(10,V aC),(11,V aV)]∧St hs (a2 [.ae I (aB J U j a0), .gs j ab (aa aj)]) Z (0,0) bD h [.ae I (aB J U j a0), .gs j ab (aa aj)]) (by kernel_rfl) ?_ ?_
 rintro l eO ⟨bD,aV,rfl,rfl,aW⟩
 try dsimp only at av
 refine sp 2<|g0 ?_
 obtain ⟨ds,dt,av⟩:=ai av
 refine cE 3 aW (fun eP bc du bE=>tP F du (RS.mono bc (ak.mono aW.ag)) (RS.mono bc (ao.mono aW.ag)) (bA.row (bE _ (au (i:=1) rfl)) bc (ar.mono aW.ag)) (bE _ (au (i:=0) rfl)) dt) ?_
 rintro _ eQ dv rfl
 refine xn 1 ?_
 exact ⟨bb,a7 _,⟨_,ds,aV,aC,av,(by kernel_rfl),dv⟩⟩
 refine g0<|aT 1 aU ?_ ?_<;>intro eR aU
 refine xn 0<|dT<|gp 2 ?_
 obtain rfl:=si aU
 exact ⟨_,aC,rfl,(by kernel_rfl),bC⟩
 refine xn 0<|dF<|sk ?_
 obtain rfl:=si aU
 exact ⟨_,aG,rfl,(by kernel_rfl),bC⟩
 refine s0 ?_
 obtain ⟨eS,dw,aw⟩:=ai aw
 refine cE 2 aD (fun eT bd dx bF=>fO F dx (RS.mono bd (ak.mono aD.ag)) (RS.mono bd (ao.mono aD.ag)) (bA.row (bF _ (au (i:=1) rfl)) bd (ar.mono aD.ag)) (bF _ (au (i:=0) rfl)) dw) ?_
 rintro _ eU bG rfl
 refine aK 0 aw ?_ ?_<;>intro eV aw
 refine xn 6<|dT<|sk ?_
 obtain rfl:=si aw
 exact ⟨_,rfl,(by kernel_rfl),bG⟩
 obtain ⟨eW,dy,aw⟩:=ai aw
 refine cE 3 bG (fun eX bf dz bH=>fO F dz (RS.mono bf (ak.mono aD.ag)) (RS.mono bf (ao.mono aD.ag)) (bA.row (bH _ (au (i:=1) rfl)) bf (ar.mono aD.ag)) (bH _ (au (i:=0) rfl)) dy) ?_
 rintro _ eY bI rfl
 refine aK 0 aw ?_ ?_<;>intro eZ aw
 refine xn 1<|dT<|sk ?_
 obtain rfl:=si aw
 exact ⟨_,rfl,(by kernel_rfl),bI⟩
 refine xn 1<|dF<|xt 0<|aS ?_
 obtain rfl:=si aw
 obtain rfl:=si av
 exact ⟨_,aC,aG,aP,rfl,(by kernel_rfl),bI⟩
def pP (F:Nat):Nat→aQ→Int→Int→Int→Option (Int×Int×aQ)
 | 0=>fun _ _ _ _=>none
 | n+1=>o2 F (pP F n)
theorem uq (F:Nat):∀ n,pB (pP F n)
 | 0=>by intro hP j I J r hm;cases hm
 | n+1=>by intro hP j I J r hm;exact x1 F _ (uq F n) hP j I J hm
def rr (F:Nat) (a0:aQ) (a1:Int) (j:Int) (I:Int):Option (Int×Int×aQ):=pP F F a0 a1 j I
theorem ym (F:Nat) {h:AH} {Z:Zn} {a0:aQ} {a1:Int} {ad:Int} {af:Int} {j J U I ab} (hP:Pre Z h [.ae j (aB J U I a0), .gs I ab (aa aj)]) (ak:RS (α:=al) Z J a0.L) (ao:RS (α:=aq) Z U a0.T.an) (ar:RCs (α:=aj) Z ab a0.D) {r:Int×Int×aQ} (hm:rr F a0 a1 ad af=some r):
  bS Tryz.prog 83 [Pt j 0,V a1,V ad,V af] h Z [.ae j (aB J U I a0), .gs I ab (aa aj)] fun v Z' A'=>∃ v10 ag ah ai, .tuple #[V r.1,V r.2.1]=v∧A'=[.ae j (aB v10 ag ah r.2.2), .gs ah ai (aa aj)]∧RS (α:=al) Z' v10 r.2.2.L∧RS (α:=aq) Z' ag r.2.2.T.an∧RCs (α:=aj) Z' ai r.2.2.D:=uq F F hP ak ao ar hm
def lx (F:Nat) (a0:a5) (a1:Int) (I:Int) (J:Bool):Nat→Int→Option Int
 | 0,_=>none
 | n+1,j=>
  ((if 0≤j∧j<(a0.Rows.length:Int) then
    (a0.Rows[j.toNat]?).bind fun U=>
    if U.To<I then
     some (.inl ())
    else
     if J=true then
      if 0≤j∧j<(a0.Rows.length:Int) then
       (a0.Rows[j.toNat]?).bind fun aa=>
       if aa.To=I then
        some (.inl ())
       else
        some (.inr j)
      else none
     else
      some (.inr j)
   else none):Option (Sum Unit Int)).bind fun o=>match o with
   | .inl ()=>lx F a0 a1 I J n (af (j+1))
   | .inr y=>some y
def mL (F:Nat) (a0:a5) (a1:Int) (U:Int) (aa:Bool):Option a5:=
 ((lx F a0 a1 U aa F 0):Option Int).bind fun o=>match o with
  | j=>if 0≤j∧j<(a0.Rows.length:Int) then
   (a0.Rows[j.toNat]?).bind fun ab=>
   (g8 F a0 U ab.To).bind fun I=>
   ((if I.1<I.2 then
     (eu F a0.R a1 I.1 I.2 8).bind fun ad=>
     some (ad.2,a0.Rows,a0.Doc,a0.aE,a0.S,a0.aA,a0.Read)
    else
     some (a0.R,a0.Rows,a0.Doc,a0.aE,a0.S,a0.aA,a0.Read)):Option (aQ×(List av)×Int×Bool×(List aw)×Int×Int)).bind fun o=>match o with
    | (ae,J,af,ag,ah,ai,ak)=>if 0≤j∧j<(J.length:Int) then
     (J[j.toNat]?).bind fun aj=>
     some (⟨ae,J,af,ag,ah,ai,aj.To⟩:a5)
    else none
  else none
theorem wq (F:Nat) {h:AH} {Z:Zn} {a0:a5} {a1:Int} {aF:Int} {aI:Bool} {ad j v4 v6 J ar v11 ak I ao} (hP:Pre Z h [.ae ad [Pt j 0,v11,V a0.Doc, .bool a0.aE,I,V a0.aA,V a0.Read], .ae j (aB v4 v6 J a0.R), .gs J ar (aa aj), .gs v11 ak (aa av), .gs I ao (aa aw)]) (a8:RS (α:=al) Z v4 a0.R.L) (a9:RS (α:=aq) Z v6 a0.R.T.an) (ba:RCs (α:=aj) Z ar a0.R.D) (ay:RCs (α:=av) Z ak a0.Rows) (bb:RCs (α:=aw) Z ao a0.S) {r:a5} (hm:mL F a0 a1 aF aI=some r):
  bS Tryz.prog 84 [Pt ad 0,V a1,V aF, .bool aI] h Z [.ae ad [Pt j 0,v11,V a0.Doc, .bool a0.aE,I,V a0.aA,V a0.Read], .ae j (aB v4 v6 J a0.R), .gs J ar (aa aj), .gs v11 ak (aa av), .gs I ao (aa aw)] fun v Z' A'=>∃ bm bn bo bp bq bt, .tuple #[]=v∧A'=[.ae ad [Pt j 0,v11,V r.Doc, .bool r.aE,I,V r.aA,V r.Read], .ae j (aB bm bn bo r.R), .gs bo bp (aa aj), .gs v11 bq (aa av), .gs I bt (aa aw)]∧RS (α:=al) Z' bm r.R.L∧RS (α:=aq) Z' bn r.R.T.an∧RCs (α:=aj) Z' bp r.R.D∧RCs (α:=av) Z' bq r.Rows∧RCs (α:=aw) Z' bt r.S:=by
 refine b3 Tryz.func84 hP ?_
 intro hs hS
 unfold mL at hm
 refine sp 1<|sq ?_
 obtain ⟨bc,ax,hm⟩:=ai hm
 refine aJ [0,1,2,8] (fun l h=>∃ bu aO,aO=bc∧l=[(0,Pt ad 0),(1,V a1),(2,V aF),(8,V aO)]∧St hs (a2 [.ae ad [Pt j 0,v11,V a0.Doc, .bool a0.aE,I,V a0.aA,V a0.Read], .ae j (aB v4 v6 J a0.R), .gs J ar (aa aj), .gs v11 ak (aa av), .gs I ao (aa aw)]) Z (0,0) bu h [.ae ad [Pt j 0,v11,V a0.Doc, .bool a0.aE,I,V a0.aA,V a0.Read], .ae j (aB v4 v6 J a0.R), .gs J ar (aa aj), .gs v11 ak (aa av), .gs I ao (aa aw)]) ?_ ?_
 rintro l b1 ⟨bu,aO,rfl,rfl,U⟩
 try dsimp only at hm
 refine s0<|aD 5 0 v11 U rfl<|eV 1 3 hm U (ay.mono U.ag) rfl ?_
 intro b2 hm
 refine fZ 1 2 3 (fun bw=>V bw.To) hm U (ay.mono U.ag) rfl ?_
 intro bw b4 hm
 obtain ⟨b5,bE,hm⟩:=ai hm
 refine cE 0 U (fun b6 aL bF aM=>ln F bF (RS.mono aL (a8.mono U.ag)) (RS.mono aL (a9.mono U.ag)) (bA.row (aM _ (au (i:=2) rfl)) aL (ba.mono U.ag)) (aM _ (au (i:=1) rfl)) (bA.row (aM _ (au (i:=3) rfl)) aL (ay.mono U.ag)) (bA.row (aM _ (au (i:=4) rfl)) aL (bb.mono U.ag)) (aM _ (au (i:=0) rfl)) bE) ?_
 rintro _ b7 bd rfl
 refine xn 5<|sq ?_
 obtain ⟨bH,aG,hm⟩:=ai hm
 refine aJ [0,8] (fun l h=>∃ az aH bf aP aQ bg aU bh aV aW aX aY aZ a3,(aH,bf,aP,aQ,bg,aU,bh)=bH∧RS (α:=al) az aV aH.L∧RS (α:=aq) az aW aH.T.an∧RCs (α:=aj) az aY aH.D∧RCs (α:=av) az aZ bf∧RCs (α:=aw) az a3 bg∧l=[(0,Pt ad 0),(8,V aO)]∧St hs (a2 [.ae ad [Pt j 0,v11,V a0.Doc, .bool a0.aE,I,V a0.aA,V a0.Read], .ae j (aB v4 v6 J a0.R), .gs J ar (aa aj), .gs v11 ak (aa av), .gs I ao (aa aw)]) Z (0,0) az h [.ae ad [Pt j 0,v11,V aP, .bool aQ,I,V aU,V bh], .ae j (aB aV aW aX aH), .gs aX aY (aa aj), .gs v11 aZ (aa av), .gs I a3 (aa aw)]) ?_ ?_
 rintro l b8 ⟨az,aH,bf,aP,aQ,bg,aU,bh,aV,aW,aX,aY,aZ,a3,rfl,bI,bJ,bK,bj,bL,rfl,a6⟩
 try dsimp only at hm
 refine g0<|aD 4 0 v11 a6 rfl<|eV 1 3 hm a6 bj rfl ?_
 intro b9 hm
 refine fZ 1 2 3 (fun aN=>V aN.To) hm a6 bj rfl ?_
 intro aN ca hm
 refine bG 2 0 (V aN.To) [V aN.To] [Pt j 0,v11,V aP, .bool aQ,I,V aU,V aN.To] a6 rfl rfl rfl ?_
 intro cb bM
 refine xn 0 ?_
 obtain rfl:=si hm
 refine ⟨_,_,_,ResL.nil,bM,?_⟩
 exact ⟨aV,aW,aX,aY,aZ,a3,rfl,rfl,bI,bJ,bK,bj,bL⟩
 refine s0<|aT 2 aG ?_ ?_<;>intro cc aG
 refine xn 0<|dT<|g0<|aD 3 0 (Pt j 0) bd rfl ?_
 obtain ⟨bN,bO,aG⟩:=ai aG
 have bP:St _ _ _ _ _ _ ([.ae j (aB v4 v6 J a0.R), .gs J ar (aa aj)]++[.ae ad [Pt j 0,v11,V a0.Doc, .bool a0.aE,I,V a0.aA,V a0.Read], .gs v11 ak (aa av), .gs I ao (aa aw)]):=((bd.front 2 rfl).front 2 rfl)
 refine cB 3 bP (fun p=>fL F p (a8.mono U.ag) (a9.mono U.ag) (ba.mono U.ag) bO) ?_
 rintro _ cd cf _ bx bQ ⟨bR,bT,bU,bV,rfl,rfl,bW,bX,bY⟩
 refine xn 0 ?_
 obtain rfl:=si aG
 exact ⟨_,bN.2,a0.Rows,a0.Doc,a0.aE,a0.S,a0.aA,a0.Read,bR,bT,bU,bV,ak,ao,rfl,bW,bX,bY,(ay.mono (U.ag.trans bx)),(bb.mono (U.ag.trans bx)),(by kernel_rfl),(((((bQ.front 4 rfl).front 4 rfl).front 3 rfl).front 3 rfl).front 4 rfl)⟩
 refine xn 0<|dF<|sk ?_
 obtain rfl:=si aG
 exact ⟨_,a0.R,a0.Rows,a0.Doc,a0.aE,a0.S,a0.aA,a0.Read,v4,v6,J,ar,ak,ao,rfl,(a8.mono U.ag),(a9.mono U.ag),(ba.mono U.ag),(ay.mono U.ag),(bb.mono U.ag),(by kernel_rfl),bd⟩
 refine bk 0<|lp [0,1,2,3,8] (fun n l h=>∃ bz aC,lx F a0 a1 aF aI n aC=some bc∧l=[(0,Pt ad 0),(1,V a1),(2,V aF),(3, .bool aI),(8,V aC)]∧St hs (a2 [.ae ad [Pt j 0,v11,V a0.Doc, .bool a0.aE,I,V a0.aA,V a0.Read], .ae j (aB v4 v6 J a0.R), .gs J ar (aa aj), .gs v11 ak (aa av), .gs I ao (aa aw)]) Z (0,0) bz h [.ae ad [Pt j 0,v11,V a0.Doc, .bool a0.aE,I,V a0.aA,V a0.Read], .ae j (aB v4 v6 J a0.R), .gs J ar (aa aj), .gs v11 ak (aa av), .gs I ao (aa aw)]) F ⟨_,0,ax,(by kernel_rfl),hS⟩ ?_
 rintro bl l cg ⟨bz,aC,ax,rfl,ah⟩
 rcases bl with _ | bl
 cases (show none=some bc from ax)
 rw [lx] at ax
 refine sq ?_
 obtain ⟨bZ,ab,ax⟩:=ai ax
 refine aJ [0,1,2,3,8] (fun l h=>∃ bB, .inl ()=bZ∧l=[(0,Pt ad 0),(1,V a1),(2,V aF),(3, .bool aI),(8,V aC)]∧St hs (a2 [.ae ad [Pt j 0,v11,V a0.Doc, .bool a0.aE,I,V a0.aA,V a0.Read], .ae j (aB v4 v6 J a0.R), .gs J ar (aa aj), .gs v11 ak (aa av), .gs I ao (aa aw)]) Z (0,0) bB h [.ae ad [Pt j 0,v11,V a0.Doc, .bool a0.aE,I,V a0.aA,V a0.Read], .ae j (aB v4 v6 J a0.R), .gs J ar (aa aj), .gs v11 ak (aa av), .gs I ao (aa aw)]) ?_ ?_
 rintro l ch ⟨bB,rfl,rfl,b0⟩
 try dsimp only at ax
 refine bk 1<|gp 3 ?_
 exact ⟨bl,a7 _,⟨_,af (aC+1),ax,(by kernel_rfl),b0⟩⟩
 refine s0<|aD 3 0 v11 ah rfl<|eV 1 3 ab ah (ay.mono ah.ag) rfl ?_
 intro cj ab
 refine fZ 1 2 3 (fun bC=>V bC.To) ab ah (ay.mono ah.ag) rfl ?_
 intro bC ck ab
 refine aT 1 ab ?_ ?_<;>intro cl ab
 refine xn 15<|dT<|sk ?_
 obtain rfl:=si ab
 exact ⟨_,rfl,(by kernel_rfl),ah⟩
 refine kb 3 23 ab ?_ ?_<;>intro cm ab
 refine aD 3 0 v11 ah rfl<|eV 1 3 ab ah (ay.mono ah.ag) rfl ?_
 intro cn ab
 refine fZ 1 2 3 (fun bD=>V bD.To) ab ah (ay.mono ah.ag) rfl ?_
 intro bD cp ab
 refine aK 1 ab ?_ ?_<;>intro cq ab
 refine xn 2<|dT<|sk ?_
 obtain rfl:=si ab
 exact ⟨_,rfl,(by kernel_rfl),ah⟩
 refine xn 2<|dF<|xt 0<|aS ?_
 obtain rfl:=si ab
 obtain rfl:=si ax
 exact ⟨_,aC,rfl,(by kernel_rfl),ah⟩
 refine xn 12<|dF<|xt 0<|aS ?_
 obtain rfl:=si ab
 obtain rfl:=si ax
 exact ⟨_,aC,rfl,(by kernel_rfl),ah⟩
def DW:List br:=[uP 9 (mv 0),uP 10 (nk 9),uP 11 (fa 65 10 0),uL 12 (ld 59 11),uP 13 (mv 0),uP 14 (mv 2),uF 15 (cf 82 #[(t 13),(t 14)] #[58,3]) .make [],uP 16 (nk 12),uP 17 (fa 62 16 3),oF (.store 3 (t 17) (t 15)) .make [3]]
def Bg:List br:=[uP 19 (mv 0),uP 20 (nk 19),uP 21 (fa 65 20 0),uL 22 (ld 59 21),uP 23 (mv 1),uP 24 (mv 2),uP 25 (mv 0),uP 26 (nk 25),uP 27 (fa 65 26 5),uL 28 (ld 3 27),uP 29 (mv 0),uP 30 (nk 29),uP 31 (fa 65 30 4),uL 32 (ld 63 31),uP 33 (cb .len #[(t 32)] #[63]),uP 34 (bo .sub 3 28 33 3),uF 35 (cf 83 #[(t 22),(t 23),(t 24),(t 34)] #[59,3,3,3]) .make [3,9,13],uP 18 (mv 35),uP 36 (.extract (t 18) 0),uP 37 (.extract (t 18) 1),uP 7 (sg 36),uP 8 (sg 37)]
def jy (F:Nat) (a0:a5) (a1:Int) (U:Int):Option (Bool×a5):=
 (oE F a0 U).bind fun ay=>
 (rr F (⟨a0.R.L,a0.R.T,a0.R.D,ay⟩:aQ) a1 U (af (a0.aA - (a0.S.length:Int)))).bind fun J=>
 ((if J.1<(0:Int) then
   some (J.2.2,a0.Rows,a0.Doc,a0.aE,a0.S,a0.aA,a0.Read,U)
  else
   some (J.2.2,a0.Rows,a0.Doc,a0.aE,a0.S,a0.aA,a0.Read,J.2.1)):Option (aQ×(List av)×Int×Bool×(List aw)×Int×Int×Int)).bind fun o=>match o with
  | (aa,ab,ad,ae,ag,ah,ai,aj)=>((if J.1<(0:Int) then
    (mL F (⟨aa,ab,ad,ae,ag,ah,ai⟩:a5) a1 (imax aj U) true).bind fun j=>
    some (j.R,j.Rows,j.Doc,j.aE,j.S,j.aA,j.Read)
   else
    (mL F (⟨aa,ab,ad,ae,ag,ah,ai⟩:a5) a1 (imax aj U) false).bind fun I=>
    some (I.R,I.Rows,I.Doc,I.aE,I.S,I.aA,I.Read)):Option (aQ×(List av)×Int×Bool×(List aw)×Int×Int)).bind fun o=>match o with
   | (ak,an,ao,aq,ar,au,ax)=>if (0:Int)≤J.1 then
    some (true,(⟨ak,an,ao,aq,ar,au,ax⟩:a5))
   else
    some (false,(⟨ak,an,ao,aq,ar,au,ax⟩:a5))
theorem qf (F:Nat) {h:AH} {Z:Zn} {a0:a5} {a1:Int} {ab:Int} {j I v4 v6 U ak v11 ad J ah} (hP:Pre Z h [.ae j [Pt I 0,v11,V a0.Doc, .bool a0.aE,J,V a0.aA,V a0.Read], .ae I (aB v4 v6 U a0.R), .gs U ak (aa aj), .gs v11 ad (aa av), .gs J ah (aa aw)]) (bG:RS (α:=al) Z v4 a0.R.L) (bH:RS (α:=aq) Z v6 a0.R.T.an) (bI:RCs (α:=aj) Z ak a0.R.D) (bj:RCs (α:=av) Z ad a0.Rows) (bf:RCs (α:=aw) Z ah a0.S) {r:Bool×a5} (hm:jy F a0 a1 ab=some r):
  bS Tryz.prog 71 [Pt j 0,V a1,V ab] h Z [.ae j [Pt I 0,v11,V a0.Doc, .bool a0.aE,J,V a0.aA,V a0.Read], .ae I (aB v4 v6 U a0.R), .gs U ak (aa aj), .gs v11 ad (aa av), .gs J ah (aa aw)] fun v Z' A'=>∃ bJ bK bM bN bO bP, .bool r.1=v∧A'=[.ae j [Pt I 0,v11,V r.2.Doc, .bool r.2.aE,J,V r.2.aA,V r.2.Read], .ae I (aB bJ bK bM r.2.R), .gs bM bN (aa aj), .gs v11 bO (aa av), .gs J bP (aa aw)]∧RS (α:=al) Z' bJ r.2.R.L∧RS (α:=aq) Z' bK r.2.R.T.an∧RCs (α:=aj) Z' bN r.2.R.D∧RCs (α:=av) Z' bO r.2.Rows∧RCs (α:=aw) Z' bP r.2.S:=by
 refine b3 Tryz.func71 hP ?_
 intro hs hS
 unfold jy at hm
 refine sp 1<|cY DW hS ?_
 intro ch c6 cj bk
 refine yq 3 [(11,Pt j 0),(0,Pt j 0),(1,V a1),(2,V ab)] ?_
 have c8:j<ch:=cj.1 _ (au (i:=0) rfl) _ (by simp [Itm.ids])
 refine aW (v:=Pt I 0) rfl trivial rfl (by show j<_;omega) (aG (v:=Pt I 0) trivial) (bk.aV (i:=0) rfl (by kernel_rfl)) trivial<|yq 2 [(14,V ab),(13,Pt j 0),(12,Pt I 0),(0,Pt j 0),(1,V a1),(2,V ab)] ?_
 obtain ⟨aH,ck,hm⟩:=ai hm
 have bQ:=bk.bZ
 obtain ⟨db,aI,cl,aM⟩:=St.kM (L:=[.ae j [Pt I 0,v11,V a0.Doc, .bool a0.aE,J,V a0.aA,V a0.Read], .ae I (aB v4 v6 U a0.R), .gs U ak (aa aj), .gs v11 ad (aa av), .gs J ah (aa aw)]) bQ
 obtain ⟨dc,dd,cm,bg,rfl⟩:=DD F cl (RS.mono aI bG) (RS.mono aI bH) (bA.row (aM _ (au (i:=2) rfl)) aI bI) (aM _ (au (i:=1) rfl)) (bA.row (aM _ (au (i:=3) rfl)) aI bj) (bA.row (aM _ (au (i:=4) rfl)) aI bf) (aM _ (au (i:=0) rfl)) ck
 replace bg:=St.j9 aI bg
 have cn:=St.call (A:=[]) (B:=[.ae j [Pt I 0,v11,V a0.Doc, .bool a0.aE,J,V a0.aA,V a0.Read], .ae I (aB v4 v6 U a0.R), .gs U ak (aa aj), .gs v11 ad (aa av), .gs J ah (aa aw)]) bQ bg
 refine df rfl trivial bk (cr cm rfl rfl rfl) cn (St.de bg) ?_
 intro dg cp
 refine yq 2 [(17,Pt I 3),(15,V aH),(0,Pt j 0),(1,V a1),(2,V ab)] ?_
 have bl:St _ _ _ _ _ _ ([.ae I (aB v4 v6 U a0.R)]++[.ae j [Pt I 0,v11,V a0.Doc, .bool a0.aE,J,V a0.aA,V a0.Read], .gs U ak (aa aj), .gs v11 ad (aa av), .gs J ah (aa aw)]):=(cp.front 1 rfl)
 refine gu rfl trivial bl (gg (vs:=[V aH]) (cO:=[v4,v6,U,V aH]) (L':=[.ae I [v4,v6,U,V aH]]) bl.sub (i:=0) rfl rfl rfl rfl (by kernel_rfl) rfl rfl rfl rfl) (aO.refl _) (.a3 (bl.bL 0 rfl bU) .nil) ?_
 intro dh cq
 refine yf [(0,Pt j 0),(1,V a1),(2,V ab)] ?_
 have ct:=cq.aY
 refine cY Bg ct ?_
 intro bm di bn aK
 refine yq 3 [(21,Pt j 0),(0,Pt j 0),(1,V a1),(2,V ab)] ?_
 have dj:j<bm:=bn.1 _ (au (i:=1) rfl) _ (by simp [Itm.ids])
 refine aW (v:=Pt I 0) rfl trivial rfl (by show j<_;omega) (aG (v:=Pt I 0) trivial) (aK.aV (i:=1) rfl (by kernel_rfl)) trivial<|yq 5 [(27,Pt j 5),(24,V ab),(23,V a1),(22,Pt I 0),(0,Pt j 0),(1,V a1),(2,V ab)] ?_
 have dm:j<bm:=bn.1 _ (au (i:=1) rfl) _ (by simp [Itm.ids])
 refine aW (v:=V a0.aA) rfl trivial rfl (by show j<_;omega) (aG (v:=V a0.aA) trivial) (aK.aV (i:=1) rfl (by kernel_rfl)) trivial<|yq 3 [(31,Pt j 4),(28,V a0.aA),(24,V ab),(23,V a1),(22,Pt I 0),(0,Pt j 0),(1,V a1),(2,V ab)] ?_
 have dn:j<bm:=bn.1 _ (au (i:=1) rfl) _ (by simp [Itm.ids])
 refine aW (v:=J) rfl trivial rfl (by show j<_;omega) (aG (v:=J) (aK.dN (i:=4) rfl)) (aK.aV (i:=1) rfl (by kernel_rfl)) trivial<|aF rfl trivial (h7 rfl (aK.dP (i:=4) rfl bf) ⟨_,Tryz.underlying63⟩)<|yq 1 [(34,V (af (a0.aA - (a0.S.length:Int)))),(24,V ab),(23,V a1),(22,Pt I 0),(0,Pt j 0),(1,V a1),(2,V ab)] ?_
 obtain ⟨ax,cu,hm⟩:=ai hm
 have aN:St _ _ _ _ _ _ ([.ae I [v4,v6,U,V aH], .gs U ak (aa aj)]++[.ae j [Pt I 0,v11,V a0.Doc, .bool a0.aE,J,V a0.aA,V a0.Read], .gs v11 ad (aa av), .gs J ah (aa aw)]):=((aK.front 2 rfl).front 1 rfl)
 obtain ⟨dp,dr,ds,dt,cv,bR,bT,bV,bW,bX,rfl,rfl,bY,b0,b1⟩:=ym F (a0:=(⟨a0.R.L,a0.R.T,a0.R.D,aH⟩:aQ)) aN.bZ.dW bG bH bI cu
 have aP:=bR.ag
 refine fS rfl trivial aN (cr cv rfl rfl rfl) bR aP (.a3 (aN.bL 0 rfl bU) (.a3 (aN.bL 0 rfl bU) (.a3 (aN.bL 0 rfl bU) .nil))) ?_
 intro du cw
 refine ye 5 [(8,V ax.2.1),(7,V ax.1),(0,Pt j 0),(1,V a1),(2,V ab)] ?_
 have b2:=cw.aY
 refine sq ?_
 obtain ⟨cx,bh,hm⟩:=ai hm
 refine aJ [0,1,2,7,8] (fun l h=>∃ ay ao aS aU aX aZ a6 a7 bo bp bq bt bu bw bx,(ao,aS,aU,aX,aZ,a6,a7,bo)=cx∧RS (α:=al) ay bp ao.L∧RS (α:=aq) ay bq ao.T.an∧RCs (α:=aj) ay bu ao.D∧RCs (α:=av) ay bw aS∧RCs (α:=aw) ay bx aZ∧l=[(0,Pt j 0),(1,V a1),(2,V ab),(7,V ax.1),(8,V bo)]∧St hs (a2 [.ae j [Pt I 0,v11,V a0.Doc, .bool a0.aE,J,V a0.aA,V a0.Read], .ae I (aB v4 v6 U a0.R), .gs U ak (aa aj), .gs v11 ad (aa av), .gs J ah (aa aw)]) Z (0,0) ay h [.ae j [Pt I 0,v11,V aU, .bool aX,J,V a6,V a7], .ae I (aB bp bq bt ao), .gs bt bu (aa aj), .gs v11 bw (aa av), .gs J bx (aa aw)]) ?_ ?_
 rintro l dv ⟨ay,ao,aS,aU,aX,aZ,a6,a7,bo,bp,bq,bt,bu,bw,bx,rfl,b4,b5,b6,b7,b8,rfl,b9⟩
 try dsimp only at hm
 refine sq ?_
 obtain ⟨cy,ar,hm⟩:=ai hm
 refine aJ [7] (fun l h=>∃ az aL bz bB bC bD bE bF a8 a9 ba bb bc bd,(aL,bz,bB,bC,bD,bE,bF)=cy∧RS (α:=al) az a8 aL.L∧RS (α:=aq) az a9 aL.T.an∧RCs (α:=aj) az bb aL.D∧RCs (α:=av) az bc bz∧RCs (α:=aw) az bd bD∧l=[(7,V ax.1)]∧St hs (a2 [.ae j [Pt I 0,v11,V a0.Doc, .bool a0.aE,J,V a0.aA,V a0.Read], .ae I (aB v4 v6 U a0.R), .gs U ak (aa aj), .gs v11 ad (aa av), .gs J ah (aa aw)]) Z (0,0) az h [.ae j [Pt I 0,v11,V bB, .bool bC,J,V bE,V bF], .ae I (aB a8 a9 ba aL), .gs ba bb (aa aj), .gs v11 bc (aa av), .gs J bd (aa aw)]) ?_ ?_
 rintro l dw ⟨az,aL,bz,bB,bC,bD,bE,bF,a8,a9,ba,bb,bc,bd,rfl,ca,cb,cc,cd,cf,rfl,cg⟩
 try dsimp only at hm
 refine s0<|cS 1 hm ?_ ?_<;>intro dx hm
 refine xn 1<|rt<|⟨rfl,?_⟩
 obtain rfl:=si hm
 refine ⟨_,_,_,tk (.bool true) (ResL.nil),cg,?_⟩
 exact ⟨a8,a9,ba,bb,bc,bd,rfl,rfl,ca,cb,cc,cd,cf⟩
 refine xn 1<|rt<|⟨rfl,?_⟩
 obtain rfl:=si hm
 refine ⟨_,_,_,tk (.bool false) (ResL.nil),cg,?_⟩
 exact ⟨a8,a9,ba,bb,bc,bd,rfl,rfl,ca,cb,cc,cd,cf⟩
 refine g0<|aT 6 ar ?_ ?_<;>intro dy ar
 obtain ⟨aC,cz,ar⟩:=ai ar
 refine cA 0 b9 (fun p=>wq F (a0:=(⟨ao,aS,aU,aX,aZ,a6,a7⟩:a5)) p b4 b5 b6 b7 b8 cz) ?_
 rintro _ dz dA _ dB cB ⟨cC,cD,cE,cF,cG,cH,rfl,rfl,cI,cJ,cK,cL,cM⟩
 refine xn 0 ?_
 obtain rfl:=si ar
 exact ⟨_,aC.R,aC.Rows,aC.Doc,aC.aE,aC.S,aC.aA,aC.Read,cC,cD,cE,cF,cG,cH,rfl,cI,cJ,cK,cL,cM,(by kernel_rfl),cB⟩
 obtain ⟨aD,cN,ar⟩:=ai ar
 refine cA 0 b9 (fun p=>wq F (a0:=(⟨ao,aS,aU,aX,aZ,a6,a7⟩:a5)) p b4 b5 b6 b7 b8 cN) ?_
 rintro _ dC dD _ dE cP ⟨cQ,cR,cT,cU,cW,cX,rfl,rfl,cZ,c0,c3,c4,c5⟩
 refine xn 0 ?_
 obtain rfl:=si ar
 exact ⟨_,aD.R,aD.Rows,aD.Doc,aD.aE,aD.S,aD.aA,aD.Read,cQ,cR,cT,cU,cW,cX,rfl,cZ,c0,c3,c4,c5,(by kernel_rfl),cP⟩
 refine s0<|aT 1 bh ?_ ?_<;>intro dG bh
 refine xn 0<|dT<|gp 2 ?_
 obtain rfl:=si bh
 exact ⟨_,ax.2.2,a0.Rows,a0.Doc,a0.aE,a0.S,a0.aA,a0.Read,ab,bT,bV,bW,bX,ad,ah,rfl,bY,b0,b1,(bj.mono aP),(bf.mono aP),(by kernel_rfl),(((((b2.front 4 rfl).front 4 rfl).front 3 rfl).front 3 rfl).front 4 rfl)⟩
 refine xn 0<|dF<|sk ?_
 obtain rfl:=si bh
 exact ⟨_,ax.2.2,a0.Rows,a0.Doc,a0.aE,a0.S,a0.aA,a0.Read,ax.2.1,bT,bV,bW,bX,ad,ah,rfl,bY,b0,b1,(bj.mono aP),(bf.mono aP),(by kernel_rfl),(((((b2.front 4 rfl).front 4 rfl).front 3 rfl).front 3 rfl).front 4 rfl)⟩
def Ay:List br:=[uP 75 (mv 0),uP 76 (nk 75),uP 77 (fa 65 76 0),uL 78 (ld 59 77),uP 79 (mv 0),uP 80 (nk 79),uP 81 (fa 65 80 0),uL 82 (ld 59 81),uP 83 (nk 82),uP 84 (fa 62 83 1),uL 85 (ld 31 84),uP 86 (mv 0),uP 87 (nk 86),uP 88 (fa 65 87 2),uL 89 (ld 3 88),uP 90 (mv 4),uP 91 (bc .add 3 90 1 3),uF 92 (cf 72 #[(t 85),(t 89),(t 91)] #[31,3,3]) .make [7,10,14],uP 93 (nk 78),uP 94 (fa 62 93 1),oF (.store 31 (t 94) (t 92)) .make [3,7,10,14]]
def Cs:List br:=[uP 14 (mv 0),uP 15 (nk 14),uP 16 (fa 65 15 4),uL 17 (ld 63 16),uP 18 (mv 0),uP 19 (nk 18),uP 20 (fa 65 19 4),uL 21 (ld 63 20),uP 22 (cb .len #[(t 21)] #[63]),uP 23 (bc .sub 3 22 1 3),uP 24 (ia 63 17 23),uL 25 (ld 116 24),uF 3 (.alloc 116) .fresh [],oF (.store 116 (t 3) (t 25)) .make [3,7,11]]
def iR (F:Nat) (a0:a5):Option Int:=
 if (a0.S.length:Int)=(0:Int) then
  some a0.Doc
 else
  if 0≤(af ((a0.S.length:Int) - 1))∧(af ((a0.S.length:Int) - 1))<(a0.S.length:Int) then
   (a0.S[(af ((a0.S.length:Int) - 1)).toNat]?).bind fun j=>
   if j.Has=true then
    some j.Node
   else
    some j.b4
  else none
theorem n3 (F:Nat) {h:AH} {Z:Zn} {a0:a5} {U ak v4 v6 ao v11 I} (hI:Inv Z h) (aL:RS (α:=al) Z v4 a0.R.L) (aM:RS (α:=aq) Z v6 a0.R.T.an) (aN:RS (α:=aj) Z ao a0.R.D) (aP:Z ak=some (aB v4 v6 ao a0.R)) (aQ:RS (α:=av) Z v11 a0.Rows) (J:RS (α:=aw) Z I a0.S) (ad:Z U=some [Pt ak 0,v11,V a0.Doc, .bool a0.aE,I,V a0.aA,V a0.Read]) {r:Int} (hm:iR F a0=some r):
  bY Tryz.prog 51 [Pt U 0] h Z (V r):=by
 refine b1 Tryz.func51 hI ?_
 intro hs hS
 unfold iR at hm
 refine sp 1<|sq<|s0<|bF 3 I hS ad<|bC 0 I (RS.len J)<|aK 0 hm ?_ ?_<;>intro aS hm
 refine xn 0<|dT<|s0<|bF 3 (V a0.Doc) hS ad<|xn 1<|rt<|⟨rfl,?_⟩
 obtain rfl:=si hm
 refine ⟨_,_,_,tk (V a0.Doc) (ResL.nil),hS,?_⟩
 exact rfl
 refine xn 0<|dF<|sk<|cY Cs hS ?_
 intro aT aU aV ag
 refine yq 3 [(16,Pt U 4),(0,Pt U 0)]<|cg rfl rfl trivial (fun h2 hz=>l0 (v:=I) h2 hz ad rfl (by kernel_rfl)) (ag.bO (aO.refl _)) (aG (v:=I) (RS.cM J)) trivial<|yq 3 [(20,Pt U 4),(17,I)]<|cg rfl rfl trivial (fun h2 hz=>l0 (v:=I) h2 hz ad rfl (by kernel_rfl)) (ag.bO (aO.refl _)) (aG (v:=I) (RS.cM J)) trivial ?_
 refine aF rfl trivial (h7 rfl (RS.len J) ⟨_,Tryz.underlying63⟩)<|yq 1 [(23,V (af ((a0.S.length:Int) - 1))),(17,I)] ?_
 obtain ⟨ar,hm⟩:=aH hm
 refine aF rfl trivial (bx rfl rfl (by kernel_rfl:slTy _ _=some (aa aw)) (RS.cG J (by omega)) ar.1 ar.2) ?_
 obtain ⟨j,ax,hm⟩:=ai hm
 obtain ⟨aW,ay,az⟩:=RS.bV J (i:=af ((a0.S.length:Int) - 1)) ax
 obtain rfl:=eI ay
 refine cg rfl rfl trivial (fun h2 hz=>bE (w:= .agg #[V j.Node,V j.Kind,V j.aI,V j.b4, .bool j.Has]) (az h2 hz) rfl (by kernel_rfl)) (ag.bO (aO.refl _)) (eC (cs:=[V j.Node,V j.Kind,V j.aI,V j.b4, .bool j.Has]) (.cons trivial (.cons trivial (.cons trivial (.cons trivial (.cons trivial .nil)))))) trivial ?_
 refine vN rfl trivial (sJ (cs:=[V 0,V 0,V 0,V 0, .bool false]) (by kernel_rfl)) ag (by omega) (Nat.add_lt_add_left (by decide) _) ?_
 intro ah aX aZ aC
 have au:St _ _ _ _ _ _ ([.ae ah [V 0,V 0,V 0,V 0, .bool false]]++[]):=(aC.front 0 rfl)
 refine gu rfl trivial au (gg (vs:=[V j.Node,V j.Kind,V j.aI,V j.b4, .bool j.Has]) (cO:=(qZ j)) (L':=[.ae ah (qZ j)]) au.sub (i:=0) rfl rfl rfl rfl (by kernel_rfl) rfl rfl rfl rfl) (aO.refl _) (.a3 trivial (.a3 trivial (.a3 trivial .nil))) ?_
 intro a1 aJ
 refine yf [(3,Pt ah 0)] ?_
 have ab:=aJ.aY
 refine sq<|s0<|aD 1 0 (.bool j.Has) ab rfl<|kb 0 27 hm ?_ ?_<;>intro a2 hm
 refine xn 1<|dF<|sk<|s0<|aD 1 0 (V j.Node) ab rfl<|xn 1<|rt<|⟨rfl,?_⟩
 obtain rfl:=si hm
 refine ⟨_,_,_,tk (V j.Node) (ResL.nil),ab,?_⟩
 exact rfl
 refine xn 1<|dT<|s0<|aD 1 0 (V j.b4) ab rfl<|xn 1<|rt<|⟨rfl,?_⟩
 obtain rfl:=si hm
 refine ⟨_,_,_,tk (V j.b4) (ResL.nil),ab,?_⟩
 exact rfl
end
section
open Go Am Sy
open Sy.Cell (rc)
def y1:List br:=[uP 15 (mv 8),uP 16 (bc .geq 3 15 0 3),uP 17 (mv 16),aM 17 18 (mv 0),aM 17 19 (nk 18),aM 17 20 (fa 65 19 4),cW 17 21 (ld 63 20),aM 17 22 (mv 8),aM 17 23 (ia 63 21 22),aM 17 24 (fa 116 23 2),cW 17 25 (ld 3 24),aM 17 26 (fa 67 5 3),cW 17 27 (ld 3 26),aM 17 28 (bo .geq 3 25 27 3),uP 29 (pf 17 28)]
def tc:List br:=[uP 54 (mv 0),uP 55 (nk 54),uP 56 (fa 65 55 0),uL 57 (ld 59 56),uP 58 (mv 0),uF 59 (cf 51 #[(t 58)] #[58]) .make [],uP 60 (mv 2),uP 61 (mv 3),uF 62 (cf 50 #[(t 57),(t 59),(t 60),(t 61),(ci 7)] #[59,3,3,3,3]) .make [3]]
def B0:List aR:=[u 63 (mv 0),u 64 (.buildSlice 63 0 #[]),u 65 (mv 0),u 66 (nk 65),u 67 (fa 65 66 4),u 68 (ld 63 67),u 69 (mv 8),u 70 (bc .add 3 69 1 3),u 71 (.slice 63 (t 68) none (some (t 70)) none),u 72 (cb .append #[(t 64),(t 71)] #[63,63]),u 73 (nk 63),u 74 (fa 65 73 4),o (.store 63 (t 74) (t 72))]
def GI:List br:=[uP 87 (mv 0),uP 88 (nk 87),uP 89 (fa 65 88 4),uL 90 (ld 63 89),uP 91 (mv 8),uP 92 (mv 0),uP 93 (mv 0),uP 94 (nk 93),uP 95 (fa 65 94 4),uL 96 (ld 63 95),uP 97 (mv 8),uP 98 (ia 63 96 97),uP 99 (fa 116 98 3),uL 100 (ld 3 99),uP 101 (mv 2),uF 102 (cf 71 #[(t 92),(t 100),(t 101)] #[58,3,3]) .make [9,13],uP 103 (ia 63 90 91),uP 104 (fa 116 103 4),oF (.store 4 (t 104) (t 102)) .make [3,9,13]]
def correctorref12_parser_bare_l0 (F:Nat) (a0:a5) (a1:av) (J:Int) (U:Int):Nat→av→Int→Option Int
 | 0,_,_=>none
 | n+1,I,j=>
  if (0:Int)≤j then
   if 0≤j∧j<(a0.S.length:Int) then
    (a0.S[j.toNat]?).bind fun aa=>
    if I.aI≤aa.aI then
     correctorref12_parser_bare_l0 F a0 a1 J U n I (af (j - 1))
    else
     some j
   else none
  else
   some j
def ni (F:Nat) (a0:a5) (a1:av) (U:Int) (aa:Int):Option a5:=
 ((correctorref12_parser_bare_l0 F a0 a1 U aa F a1 (af ((a0.S.length:Int) - 1))):Option Int).bind fun o=>match o with
  | j=>((if j<(0:Int) then
    if a0.aE=true then
     (iR F a0).bind fun ad=>
     (eu F a0.R ad U aa 7).bind fun ae=>
     some (.inr (⟨ae.2,a0.Rows,a0.Doc,a0.aE,a0.S,a0.aA,a0.Read⟩:a5))
    else
     if (0:Int)≤j then
      if 0≤j∧j<(a0.S.length:Int) then
       (a0.S[j.toNat]?).bind fun ag=>
       if ag.Has=true then
        (iR F a0).bind fun ah=>
        (eu F a0.R ah U aa 7).bind fun ai=>
        some (.inr (⟨ai.2,a0.Rows,a0.Doc,a0.aE,a0.S,a0.aA,a0.Read⟩:a5))
       else
        some (.inl ())
      else none
     else
      some (.inl ())
   else
    if (0:Int)≤j then
     if 0≤j∧j<(a0.S.length:Int) then
      (a0.S[j.toNat]?).bind fun aj=>
      if aj.Has=true then
       (iR F a0).bind fun ak=>
       (eu F a0.R ak U aa 7).bind fun an=>
       some (.inr (⟨an.2,a0.Rows,a0.Doc,a0.aE,a0.S,a0.aA,a0.Read⟩:a5))
      else
       some (.inl ())
     else none
    else
     some (.inl ())):Option (Sum Unit a5)).bind fun o=>match o with
   | .inl ()=>if 0≤(0:Int)∧(0:Int)≤(af (j+1))∧(af (j+1))≤(a0.S.length:Int) then
    if ([]:List aw).length+((a0.S.take (af (j+1)).toNat).drop (0:Int).toNat).length≤3518437208883 then
     if j<(0:Int) then
      (jy F (⟨a0.R,a0.Rows,a0.Doc,a0.aE,([]:List aw)++((a0.S.take (af (j+1)).toNat).drop (0:Int).toNat),a0.aA,a0.Read⟩:a5) a0.Doc U).bind fun J=>
      some (⟨J.2.R,J.2.Rows,J.2.Doc,J.1,J.2.S,J.2.aA,J.2.Read⟩:a5)
     else
      if 0≤j∧j<((([]:List aw)++((a0.S.take (af (j+1)).toNat).drop (0:Int).toNat)).length:Int) then
       ((([]:List aw)++((a0.S.take (af (j+1)).toNat).drop (0:Int).toNat))[j.toNat]?).bind fun ao=>
       (jy F (⟨a0.R,a0.Rows,a0.Doc,a0.aE,([]:List aw)++((a0.S.take (af (j+1)).toNat).drop (0:Int).toNat),a0.aA,a0.Read⟩:a5) ao.b4 U).bind fun I=>
       if 0≤j∧j<(I.2.S.length:Int) then
        (I.2.S[j.toNat]?).bind fun ab=>
        some (⟨I.2.R,I.2.Rows,I.2.Doc,I.2.aE,I.2.S.set j.toNat (⟨ab.Node,ab.Kind,ab.aI,ab.b4,I.1⟩:aw),I.2.aA,I.2.Read⟩:a5)
       else none
      else none
    else none
   else none
   | .inr y=>some y
theorem CF (F:Nat) {h:AH} {Z:Zn} {a0:a5} {a1:av} {ao:Int} {ax:Int} {I J v4 v6 ak aK v11 ay U aC} (hP:Pre Z h [.ae I [Pt J 0,v11,V a0.Doc, .bool a0.aE,U,V a0.aA,V a0.Read], .ae J (aB v4 v6 ak a0.R), .gs ak aK (aa aj), .gs v11 ay (aa av), .gs U aC (aa aw)]) (aZ:RS (α:=al) Z v4 a0.R.L) (a6:RS (α:=aq) Z v6 a0.R.T.an) (a8:RCs (α:=aj) Z aK a0.R.D) (ba:RCs (α:=av) Z ay a0.Rows) (aN:RCs (α:=aw) Z aC a0.S) {r:a5} (hm:ni F a0 a1 ao ax=some r):
  bS Tryz.prog 74 [Pt I 0, .agg #[V a1.Kind,V a1.ah,V a1.To,V a1.aI],V ao,V ax] h Z [.ae I [Pt J 0,v11,V a0.Doc, .bool a0.aE,U,V a0.aA,V a0.Read], .ae J (aB v4 v6 ak a0.R), .gs ak aK (aa aj), .gs v11 ay (aa av), .gs U aC (aa aw)] fun v Z' A'=>∃ cj ck cl cm cn cp cq, .tuple #[]=v∧A'=[.ae I [Pt J 0,v11,V r.Doc, .bool r.aE,cp,V r.aA,V r.Read], .ae J (aB cj ck cl r.R), .gs cl cm (aa aj), .gs v11 cn (aa av), .gs cp cq (aa aw)]∧RS (α:=al) Z' cj r.R.L∧RS (α:=aq) Z' ck r.R.T.an∧RCs (α:=aj) Z' cm r.R.D∧RCs (α:=av) Z' cn r.Rows∧RCs (α:=aw) Z' cq r.S:=by
 refine b3 Tryz.func74 hP ?_
 intro hs hS
 unfold ni at hm
 refine s0<|dt 0 [V a1.Kind,V a1.ah,V a1.To,V a1.aI] hS ?_
 intro cW fr bF
 refine xn 0<|s0<|aD 3 1 U bF rfl<|bC 0 U (bF.dP (i:=5) rfl aN)<|xn 2<|sq ?_
 obtain ⟨bH,aM,hm⟩:=ai hm
 refine aJ [0,2,3,8] (fun l h=>∃ ct az,az=bH∧l=[(0,Pt I 0),(2,V ao),(3,V ax),(8,V az)]∧St hs (a2 [.ae I [Pt J 0,v11,V a0.Doc, .bool a0.aE,U,V a0.aA,V a0.Read], .ae J (aB v4 v6 ak a0.R), .gs ak aK (aa aj), .gs v11 ay (aa av), .gs U aC (aa aw)]) Z (0,0) ct h [.ae I [Pt J 0,v11,V a0.Doc, .bool a0.aE,U,V a0.aA,V a0.Read], .ae J (aB v4 v6 ak a0.R), .gs ak aK (aa aj), .gs v11 ay (aa av), .gs U aC (aa aw)]) ?_ ?_
 rintro l fs ⟨ct,az,rfl,rfl,ab⟩
 try dsimp only at hm
 refine sq ?_
 obtain ⟨cZ,ad,hm⟩:=ai hm
 refine aJ [0,2,8] (fun l h=>∃ bI, .inl ()=cZ∧l=[(0,Pt I 0),(2,V ao),(8,V az)]∧St hs (a2 [.ae I [Pt J 0,v11,V a0.Doc, .bool a0.aE,U,V a0.aA,V a0.Read], .ae J (aB v4 v6 ak a0.R), .gs ak aK (aa aj), .gs v11 ay (aa av), .gs U aC (aa aw)]) Z (0,0) bI h [.ae I [Pt J 0,v11,V a0.Doc, .bool a0.aE,U,V a0.aA,V a0.Read], .ae J (aB v4 v6 ak a0.R), .gs ak aK (aa aj), .gs v11 ay (aa av), .gs U aC (aa aw)]) ?_ ?_
 rintro l ft ⟨bI,rfl,rfl,aP⟩
 try dsimp only at hm
 refine sr B0<|xq 1 [(63,Pt I 0),(0,Pt I 0),(2,V ao),(8,V az)] ?_
 have c0:RCs (α:=aw) bI [] []:=RCs.bq _
 refine dG rfl trivial (c6 (cells:=[]) (s:=5) (by kernel_rfl)) (by kernel_rfl) aP ?_
 intro c3 fu cu
 refine aD 3 1 U cu rfl<|xq 2 [(70,V (af (az+1))),(68,U),(64,c3),(63,Pt I 0),(0,Pt I 0),(2,V ao),(8,V az)] ?_
 obtain ⟨fv,aQ,c4,cw⟩:=(cu.front 5 rfl).freeze (aN.mono aP.ag)
 obtain ⟨bJ,hm⟩:=aH hm
 refine j1 rfl trivial (iY (a:=0) (b:=af (az+1)) c4 rfl (by kernel_rfl:slTy _ _=some (aa aw)) rfl ⟨_,rfl⟩ bJ.1 bJ.2.1 bJ.2.2) ?_
 intro fw c5
 obtain ⟨fx,c8⟩:=RS.news c5 (cw).inv
 obtain ⟨fy,hm⟩:=aH hm
 refine eZ rfl trivial (dE (ys:=(a0.S.take (af (az+1)).toNat).drop (0:Int).toNat) (bX:=40) cw (i:=0) rfl (c0.mono aQ) c8 rfl rfl (by kernel_rfl) (by omega) (by omega)) ?_
 rintro ar dc fz ⟨bl,bK⟩
 refine bG 2 1 ar [ar] [Pt J 0,v11,V a0.Doc, .bool a0.aE,ar,V a0.aA,V a0.Read] bK rfl (bK.fQ (i:=0) rfl) (bz (bK.fR (i:=0) rfl) cz) ?_
 intro fA bM
 refine xn 0<|sq<|s0<|aT 1 hm ?_ ?_<;>intro fB hm
 refine xn 0<|dT<|s0<|aD 5 1 (V a0.Doc) bM rfl ?_
 obtain ⟨bd,dd,hm⟩:=ai hm
 refine cA 1 (((((bM.front 0 rfl).front 4 rfl).front 4 rfl).front 4 rfl).front 4 rfl) (fun p=>qf F (a0:=(⟨a0.R,a0.Rows,a0.Doc,a0.aE,([]:List aw)++((a0.S.take (af (az+1)).toNat).drop (0:Int).toNat),a0.aA,a0.Read⟩:a5)) p (aZ.mono (aP.ag.trans aQ)) (a6.mono (aP.ag.trans aQ)) (a8.mono (aP.ag.trans aQ)) (ba.mono (aP.ag.trans aQ)) bl dd) ?_
 rintro _ fC fD _ fE dg ⟨dh,di,dj,dm,dn,dp,rfl,rfl,dr,ds,du,dv,dx⟩
 refine bG 2 0 (.bool bd.1) [.bool bd.1] [Pt J 0,v11,V bd.2.Doc, .bool bd.1,ar,V bd.2.aA,V bd.2.Read] dg rfl rfl rfl ?_
 intro fF dz
 refine xn 0<|rt<|⟨rfl,?_⟩
 obtain rfl:=si hm
 refine ⟨_,_,_,ResL.nil,dz,?_⟩
 exact ⟨dh,di,dj,dm,dn,ar,dp,rfl,rfl,dr,ds,du,dv,dx⟩
 refine xn 0<|dF<|sk<|ek GI bM ?_
 intro bN fG bO bb
 refine yq 3 [(89,Pt I 4),(0,Pt I 0),(2,V ao),(8,V az)] ?_
 have fH:I<bN:=bO.1 _ (au (i:=1) rfl) _ (by simp [Itm.ids])
 refine aW (v:=ar) rfl trivial rfl (by show I<_;omega) (aG (v:=ar) (bb.dN (i:=0) rfl)) (bb.aV (i:=1) rfl (by kernel_rfl)) trivial<|yq 5 [(95,Pt I 4),(92,Pt I 0),(91,V az),(90,ar),(2,V ao),(8,V az)] ?_
 have fI:I<bN:=bO.1 _ (au (i:=1) rfl) _ (by simp [Itm.ids])
 refine aW (v:=ar) rfl trivial rfl (by show I<_;omega) (aG (v:=ar) (bb.dN (i:=0) rfl)) (bb.aV (i:=1) rfl (by kernel_rfl)) trivial<|yq 1 [(97,V az),(96,ar),(92,Pt I 0),(91,V az),(90,ar),(2,V ao)] ?_
 obtain ⟨cx,hm⟩:=aH hm
 refine aF rfl trivial (bx rfl rfl (by kernel_rfl:slTy _ _=some (aa aw)) (bb.bR (j:=0) rfl bl (by omega)) cx.1 cx.2)<|yq 1 [(99, .pointer (some (bw ar az (aa aw) 3))),(92,Pt I 0),(91,V az),(90,ar),(2,V ao)] ?_
 obtain ⟨bP,cy,hm⟩:=ai hm
 obtain ⟨fJ,dA,dB,fK⟩:=bb.cv (j:=0) rfl bl (i:=az) cy
 obtain rfl:=eI dA
 have dC:=dw cy
 have dH:=bb.bR (j:=0) rfl bl dC
 have fM:(baseOf ar).block<bN:=dD (bO.1 _ (au (i:=0) rfl)) dH
 refine dy rfl trivial rfl (by show (baseOf ar).block<_;omega) (aG (v:=V bP.b4) trivial) (bE (w:=V bP.b4) dB rfl (by kernel_rfl)) trivial<|yq 1 [(101,V ao),(100,V bP.b4),(92,Pt I 0),(91,V az),(90,ar)] ?_
 obtain ⟨aU,dI,hm⟩:=ai hm
 have cB:St _ _ _ _ _ _ ([.ae I [Pt J 0,v11,V a0.Doc, .bool a0.aE,ar,V a0.aA,V a0.Read], .ae J (aB v4 v6 ak a0.R), .gs ak aK (aa aj), .gs v11 ay (aa av), .gs ar dc (aa aw)]++[]):=(((((bb.front 0 rfl).front 4 rfl).front 4 rfl).front 4 rfl).front 4 rfl)
 obtain ⟨fN,fO,fP,fT,dJ,bQ,cC,cD,bT,cE,cF,dL,rfl,rfl,dM,dO,dQ,dR,bV⟩:=qf F (a0:=(⟨a0.R,a0.Rows,a0.Doc,a0.aE,([]:List aw)++((a0.S.take (af (az+1)).toNat).drop (0:Int).toNat),a0.aA,a0.Read⟩:a5)) cB.bZ.dW (aZ.mono (aP.ag.trans aQ)) (a6.mono (aP.ag.trans aQ)) (a8.mono (aP.ag.trans aQ)) (ba.mono (aP.ag.trans aQ)) bl dI
 have cG:=bQ.ag
 refine fS rfl trivial cB (cr dJ rfl rfl rfl) bQ cG (.drop (by decide) (.drop (by decide) (.q2 (bQ.aV (i:=0) rfl (by kernel_rfl)) .nil))) ?_
 intro fU bW
 obtain ⟨cH,hm⟩:=aH hm
 refine aF rfl trivial (bx rfl rfl (by kernel_rfl:slTy _ _=some (aa aw)) (bW.bR (j:=4) rfl bV (by omega)) cH.1 cH.2)<|yq 1 [(104, .pointer (some (bw ar az (aa aw) 4))),(102, .bool aU.1)] ?_
 obtain ⟨bc,cI,hm⟩:=ai hm
 obtain ⟨fV,dS,fW,dV⟩:=bW.cv (j:=4) rfl bV (i:=az) cI
 obtain rfl:=eI dS
 have bY:St _ _ _ _ _ _ ([.gs ar dL (aa aw)]++[.ae I [Pt J 0,v11,V aU.2.Doc, .bool aU.2.aE,ar,V aU.2.aA,V aU.2.Read], .ae J (aB cC cD bT aU.2.R), .gs bT cE (aa aj), .gs v11 cF (aa av)]):=(bW.front 4 rfl)
 refine lr rfl trivial bY (gD (u':=(⟨bc.Node,bc.Kind,bc.aI,bc.b4,aU.1⟩:aw)) (vs:=[.bool aU.1]) (a9:=[V bc.Node,V bc.Kind,V bc.aI,V bc.b4, .bool aU.1]) bY.sub (m:=0) rfl bV cI dV rfl rfl rfl (by kernel_rfl) rfl rfl rfl rfl) cG (.drop (by decide) (.drop (by decide) (.a3 (bY.bL 0 rfl bU) .nil))) ?_
 rintro fX dX ⟨dY,dZ⟩
 refine yf [] ?_
 have ea:=dZ.aY
 obtain rfl:=si hm
 refine ⟨_,_,_,ResL.nil,(((((ea.front 0 rfl).front 4 rfl).front 4 rfl).front 4 rfl).front 4 rfl),?_⟩
 exact ⟨cC,cD,bT,cE,cF,ar,dX,rfl,rfl,dM,dO,dQ,dR,dY⟩
 refine s0<|aT 1 ad ?_ ?_<;>intro fY ad
 refine aD 4 0 (.bool a0.aE) ab rfl<|kb 2 40 ad ?_ ?_<;>intro gb ad
 refine xn 13<|dT<|cY tc ab ?_
 intro eb gd ec b0
 refine yq 3 [(56,Pt I 0),(0,Pt I 0),(2,V ao),(3,V ax)] ?_
 have gf:I<eb:=ec.1 _ (au (i:=0) rfl) _ (by simp [Itm.ids])
 refine aW (v:=Pt J 0) rfl trivial rfl (by show I<_;omega) (aG (v:=Pt J 0) trivial) (b0.aV (i:=0) rfl (by kernel_rfl)) trivial<|yq 1 [(58,Pt I 0),(57,Pt J 0),(2,V ao),(3,V ax)] ?_
 obtain ⟨ed,ee,ad⟩:=ai ad
 have cJ:=b0.bZ
 obtain ⟨gg,bf,eg,bn⟩:=St.kM (L:=[.ae I [Pt J 0,v11,V a0.Doc, .bool a0.aE,U,V a0.aA,V a0.Read], .ae J (aB v4 v6 ak a0.R), .gs ak aK (aa aj), .gs v11 ay (aa av), .gs U aC (aa aw)]) cJ
 obtain ⟨gh,gi,eh,bt,rfl⟩:=n3 F eg (RS.mono bf (aZ.mono ab.ag)) (RS.mono bf (a6.mono ab.ag)) (bA.row (bn _ (au (i:=2) rfl)) bf (a8.mono ab.ag)) (bn _ (au (i:=1) rfl)) (bA.row (bn _ (au (i:=3) rfl)) bf (ba.mono ab.ag)) (bA.row (bn _ (au (i:=4) rfl)) bf (aN.mono ab.ag)) (bn _ (au (i:=0) rfl)) ee
 replace bt:=St.j9 bf bt
 have ei:=St.call (A:=[]) (B:=[.ae I [Pt J 0,v11,V a0.Doc, .bool a0.aE,U,V a0.aA,V a0.Read], .ae J (aB v4 v6 ak a0.R), .gs ak aK (aa aj), .gs v11 ay (aa av), .gs U aC (aa aw)]) cJ bt
 refine df rfl trivial b0 (cr eh rfl rfl rfl) ei (St.de bt) ?_
 intro gj ej
 refine yq 2 [(61,V ax),(60,V ao),(59,V ed),(57,Pt J 0)] ?_
 obtain ⟨gk,en,ad⟩:=ai ad
 have b1:St _ _ _ _ _ _ ([.ae J (aB v4 v6 ak a0.R), .gs ak aK (aa aj)]++[.ae I [Pt J 0,v11,V a0.Doc, .bool a0.aE,U,V a0.aA,V a0.Read], .gs v11 ay (aa av), .gs U aC (aa aw)]):=((ej.front 2 rfl).front 2 rfl)
 obtain ⟨gl,gm,gn,gq,eo,cK,ep,er,et,eu,rfl,rfl,ew,ey,ez⟩:=fL F b1.bZ.dW (aZ.mono ab.ag) (a6.mono ab.ag) (a8.mono ab.ag) en
 have b2:=cK.ag
 refine fS rfl trivial b1 (cr eo rfl rfl rfl) cK b2 (.a3 (b1.bL 0 rfl bU) .nil) ?_
 intro gr eA
 refine yf [] ?_
 have eB:=eA.aY
 refine rt<|⟨rfl,?_⟩
 obtain rfl:=si ad
 obtain rfl:=si hm
 refine ⟨_,_,_,ResL.nil,(((((eB.front 4 rfl).front 4 rfl).front 3 rfl).front 3 rfl).front 4 rfl),?_⟩
 exact ⟨ep,er,et,eu,ay,U,aC,rfl,rfl,ew,ey,ez,(ba.mono (ab.ag.trans b2)),(aN.mono (ab.ag.trans b2))⟩
 refine cS 1 ad ?_ ?_<;>intro gu ad
 refine aD 4 0 U ab rfl<|eV 1 4 ad ab (aN.mono ab.ag) rfl ?_
 intro gv ad
 refine fZ 1 4 4 (fun cL=> .bool cL.Has) ad ab (aN.mono ab.ag) rfl ?_
 intro cL gw ad
 refine xn 2<|db ad ?_ ?_<;>intro gx ad
 refine cY tc ab ?_
 intro eC gy eD b5
 refine yq 3 [(56,Pt I 0),(0,Pt I 0),(2,V ao),(3,V ax)] ?_
 have gz:I<eC:=eD.1 _ (au (i:=0) rfl) _ (by simp [Itm.ids])
 refine aW (v:=Pt J 0) rfl trivial rfl (by show I<_;omega) (aG (v:=Pt J 0) trivial) (b5.aV (i:=0) rfl (by kernel_rfl)) trivial<|yq 1 [(58,Pt I 0),(57,Pt J 0),(2,V ao),(3,V ax)] ?_
 obtain ⟨eE,eF,ad⟩:=ai ad
 have cM:=b5.bZ
 obtain ⟨gA,bg,eG,bo⟩:=St.kM (L:=[.ae I [Pt J 0,v11,V a0.Doc, .bool a0.aE,U,V a0.aA,V a0.Read], .ae J (aB v4 v6 ak a0.R), .gs ak aK (aa aj), .gs v11 ay (aa av), .gs U aC (aa aw)]) cM
 obtain ⟨gB,gC,eH,bu,rfl⟩:=n3 F eG (RS.mono bg (aZ.mono ab.ag)) (RS.mono bg (a6.mono ab.ag)) (bA.row (bo _ (au (i:=2) rfl)) bg (a8.mono ab.ag)) (bo _ (au (i:=1) rfl)) (bA.row (bo _ (au (i:=3) rfl)) bg (ba.mono ab.ag)) (bA.row (bo _ (au (i:=4) rfl)) bg (aN.mono ab.ag)) (bo _ (au (i:=0) rfl)) eF
 replace bu:=St.j9 bg bu
 have eJ:=St.call (A:=[]) (B:=[.ae I [Pt J 0,v11,V a0.Doc, .bool a0.aE,U,V a0.aA,V a0.Read], .ae J (aB v4 v6 ak a0.R), .gs ak aK (aa aj), .gs v11 ay (aa av), .gs U aC (aa aw)]) cM bu
 refine df rfl trivial b5 (cr eH rfl rfl rfl) eJ (St.de bu) ?_
 intro gE eK
 refine yq 2 [(61,V ax),(60,V ao),(59,V eE),(57,Pt J 0)] ?_
 obtain ⟨gF,eL,ad⟩:=ai ad
 have b6:St _ _ _ _ _ _ ([.ae J (aB v4 v6 ak a0.R), .gs ak aK (aa aj)]++[.ae I [Pt J 0,v11,V a0.Doc, .bool a0.aE,U,V a0.aA,V a0.Read], .gs v11 ay (aa av), .gs U aC (aa aw)]):=((eK.front 2 rfl).front 2 rfl)
 obtain ⟨gG,gH,gI,gJ,eM,cN,eN,eO,eP,eQ,rfl,rfl,eR,eS,eT⟩:=fL F b6.bZ.dW (aZ.mono ab.ag) (a6.mono ab.ag) (a8.mono ab.ag) eL
 have b7:=cN.ag
 refine fS rfl trivial b6 (cr eM rfl rfl rfl) cN b7 (.a3 (b6.bL 0 rfl bU) .nil) ?_
 intro gK eU
 refine yf [] ?_
 have eW:=eU.aY
 refine rt<|⟨rfl,?_⟩
 obtain rfl:=si ad
 obtain rfl:=si hm
 refine ⟨_,_,_,ResL.nil,(((((eW.front 4 rfl).front 4 rfl).front 3 rfl).front 3 rfl).front 4 rfl),?_⟩
 exact ⟨eN,eO,eP,eQ,ay,U,aC,rfl,rfl,eR,eS,eT,(ba.mono (ab.ag.trans b7)),(aN.mono (ab.ag.trans b7))⟩
 refine sk ?_
 obtain rfl:=si ad
 exact ⟨_,rfl,(by kernel_rfl),ab⟩
 refine xn 11<|dF<|sk ?_
 obtain rfl:=si ad
 exact ⟨_,rfl,(by kernel_rfl),ab⟩
 refine cS 8 ad ?_ ?_<;>intro gL ad
 refine aD 4 0 U ab rfl<|eV 1 4 ad ab (aN.mono ab.ag) rfl ?_
 intro gM ad
 refine fZ 1 4 4 (fun cO=> .bool cO.Has) ad ab (aN.mono ab.ag) rfl ?_
 intro cO gN ad
 refine xn 2<|db ad ?_ ?_<;>intro gO ad
 refine cY tc ab ?_
 intro eX gP eY b8
 refine yq 3 [(56,Pt I 0),(0,Pt I 0),(2,V ao),(3,V ax)] ?_
 have gQ:I<eX:=eY.1 _ (au (i:=0) rfl) _ (by simp [Itm.ids])
 refine aW (v:=Pt J 0) rfl trivial rfl (by show I<_;omega) (aG (v:=Pt J 0) trivial) (b8.aV (i:=0) rfl (by kernel_rfl)) trivial<|yq 1 [(58,Pt I 0),(57,Pt J 0),(2,V ao),(3,V ax)] ?_
 obtain ⟨e0,e2,ad⟩:=ai ad
 have cP:=b8.bZ
 obtain ⟨gR,bh,e3,bp⟩:=St.kM (L:=[.ae I [Pt J 0,v11,V a0.Doc, .bool a0.aE,U,V a0.aA,V a0.Read], .ae J (aB v4 v6 ak a0.R), .gs ak aK (aa aj), .gs v11 ay (aa av), .gs U aC (aa aw)]) cP
 obtain ⟨gS,gT,e4,bB,rfl⟩:=n3 F e3 (RS.mono bh (aZ.mono ab.ag)) (RS.mono bh (a6.mono ab.ag)) (bA.row (bp _ (au (i:=2) rfl)) bh (a8.mono ab.ag)) (bp _ (au (i:=1) rfl)) (bA.row (bp _ (au (i:=3) rfl)) bh (ba.mono ab.ag)) (bA.row (bp _ (au (i:=4) rfl)) bh (aN.mono ab.ag)) (bp _ (au (i:=0) rfl)) e2
 replace bB:=St.j9 bh bB
 have e5:=St.call (A:=[]) (B:=[.ae I [Pt J 0,v11,V a0.Doc, .bool a0.aE,U,V a0.aA,V a0.Read], .ae J (aB v4 v6 ak a0.R), .gs ak aK (aa aj), .gs v11 ay (aa av), .gs U aC (aa aw)]) cP bB
 refine df rfl trivial b8 (cr e4 rfl rfl rfl) e5 (St.de bB) ?_
 intro gU e6
 refine yq 2 [(61,V ax),(60,V ao),(59,V e0),(57,Pt J 0)] ?_
 obtain ⟨gV,e7,ad⟩:=ai ad
 have b9:St _ _ _ _ _ _ ([.ae J (aB v4 v6 ak a0.R), .gs ak aK (aa aj)]++[.ae I [Pt J 0,v11,V a0.Doc, .bool a0.aE,U,V a0.aA,V a0.Read], .gs v11 ay (aa av), .gs U aC (aa aw)]):=((e6.front 2 rfl).front 2 rfl)
 obtain ⟨gW,gX,gY,gZ,e8,cQ,e9,fa,fb,fc,rfl,rfl,fe,ff,fg⟩:=fL F b9.bZ.dW (aZ.mono ab.ag) (a6.mono ab.ag) (a8.mono ab.ag) e7
 have ca:=cQ.ag
 refine fS rfl trivial b9 (cr e8 rfl rfl rfl) cQ ca (.a3 (b9.bL 0 rfl bU) .nil) ?_
 intro g0 fh
 refine yf [] ?_
 have fi:=fh.aY
 refine rt<|⟨rfl,?_⟩
 obtain rfl:=si ad
 obtain rfl:=si hm
 refine ⟨_,_,_,ResL.nil,(((((fi.front 4 rfl).front 4 rfl).front 3 rfl).front 3 rfl).front 4 rfl),?_⟩
 exact ⟨e9,fa,fb,fc,ay,U,aC,rfl,rfl,fe,ff,fg,(ba.mono (ab.ag.trans ca)),(aN.mono (ab.ag.trans ca))⟩
 refine sk ?_
 obtain rfl:=si ad
 exact ⟨_,rfl,(by kernel_rfl),ab⟩
 refine xn 11<|dF<|sk ?_
 obtain rfl:=si ad
 exact ⟨_,rfl,(by kernel_rfl),ab⟩
 refine bk 0<|lp [0,2,3,5,8] (fun n l h=>∃ cR bj aL aO,correctorref12_parser_bare_l0 F a0 a1 ao ax n bj aL=some bH∧l=[(0,Pt I 0),(2,V ao),(3,V ax),(5,Pt aO 0),(8,V aL)]∧St hs (a2 [.ae I [Pt J 0,v11,V a0.Doc, .bool a0.aE,U,V a0.aA,V a0.Read], .ae J (aB v4 v6 ak a0.R), .gs ak aK (aa aj), .gs v11 ay (aa av), .gs U aC (aa aw)]) Z (0,0) cR h [.ae I [Pt J 0,v11,V a0.Doc, .bool a0.aE,U,V a0.aA,V a0.Read], .ae J (aB v4 v6 ak a0.R), .gs ak aK (aa aj), .gs v11 ay (aa av), .gs U aC (aa aw), .ae aO (cX bj)]) F ⟨_,a1,af ((a0.S.length:Int) - 1),cW,aM,(by kernel_rfl),((((((bF.front 0 rfl).front 5 rfl).front 5 rfl).front 5 rfl).front 5 rfl).front 5 rfl)⟩ ?_
 rintro cb l g1 ⟨cR,bj,aL,aO,aM,rfl,bD⟩
 rcases cb with _ | cb
 cases (show none=some bH from aM)
 rw [correctorref12_parser_bare_l0] at aM
 refine sq<|cY y1 bD ?_
 intro cc g2 cd aX
 refine yq 1 [(15,V aL),(0,Pt I 0),(2,V ao),(3,V ax),(5,Pt aO 0),(8,V aL)] ?_
 rcases ifs aM with ⟨cf,aM⟩ | ⟨cf,aM⟩
 refine aF rfl trivial (bm rfl rfl (jH cf))<|yq 4 [(20,Pt I 4),(17, .bool true),(0,Pt I 0),(2,V ao),(3,V ax),(5,Pt aO 0),(8,V aL)] ?_
 have g3:I<cc:=cd.1 _ (au (i:=0) rfl) _ (by simp [Itm.ids])
 refine aW (v:=U) rfl rfl rfl (by show I<_;omega) (aG (v:=U) (aX.dN (i:=4) rfl)) (aX.aV (i:=0) rfl (by kernel_rfl)) trivial<|yq 1 [(22,V aL),(21,U),(17, .bool true),(0,Pt I 0),(2,V ao),(3,V ax),(5,Pt aO 0),(8,V aL)] ?_
 obtain ⟨cT,aM⟩:=aH aM
 refine aF rfl rfl (bx rfl rfl (by kernel_rfl:slTy _ _=some (aa aw)) (aX.bR (j:=4) rfl (aN.mono bD.ag) (by omega)) cT.1 cT.2)<|yq 1 [(24, .pointer (some (bw U aL (aa aw) 2))),(17, .bool true),(0,Pt I 0),(2,V ao),(3,V ax),(5,Pt aO 0),(8,V aL)] ?_
 obtain ⟨cg,cU,aM⟩:=ai aM
 obtain ⟨g4,fj,fk,g5⟩:=aX.cv (j:=4) rfl (aN.mono bD.ag) (i:=aL) cU
 obtain rfl:=eI fj
 have fl:=dw cU
 have fm:=aX.bR (j:=4) rfl (aN.mono bD.ag) fl
 have g6:(baseOf U).block<cc:=dD (cd.1 _ (au (i:=4) rfl)) fm
 refine dy rfl rfl rfl (by show (baseOf U).block<_;omega) (aG (v:=V cg.aI) trivial) (bE (w:=V cg.aI) fk rfl (by kernel_rfl)) trivial<|yq 1 [(26,Pt aO 3),(25,V cg.aI),(17, .bool true),(0,Pt I 0),(2,V ao),(3,V ax),(5,Pt aO 0),(8,V aL)] ?_
 have g7:aO<cc:=cd.1 _ (au (i:=5) rfl) _ (by simp [Itm.ids])
 refine aW (v:=V bj.aI) rfl rfl rfl (by show aO<_;omega) (aG (v:=V bj.aI) trivial) (aX.aV (i:=5) rfl (by kernel_rfl)) trivial ?_
 rcases ifs aM with ⟨ch,aM⟩ | ⟨ch,aM⟩
 refine aF rfl rfl (bm rfl rfl (jH ch))<|ye 1 [(29, .bool true),(0,Pt I 0),(2,V ao),(3,V ax),(5,Pt aO 0),(8,V aL)] ?_
 have fo:=aX.aY
 refine dT<|sk<|bk 1<|gp 3 ?_
 exact ⟨cb,a7 _,⟨_,bj,af (aL - 1),aO,aM,(by kernel_rfl),fo⟩⟩
 refine aF rfl rfl (bm rfl rfl (jA ch))<|ye 1 [(29, .bool false),(0,Pt I 0),(2,V ao),(3,V ax),(5,Pt aO 0),(8,V aL)] ?_
 have fp:=aX.aY
 refine dF<|xt 0<|aS ?_
 obtain rfl:=si aM
 exact ⟨_,aL,rfl,(by kernel_rfl),(fp.takeN 5)⟩
 refine aF rfl trivial (bm rfl rfl (jA cf))<|ye 13 [(29, .bool false),(0,Pt I 0),(2,V ao),(3,V ax),(5,Pt aO 0),(8,V aL)] ?_
 have fq:=aX.aY
 refine dF<|xt 0<|aS ?_
 obtain rfl:=si aM
 exact ⟨_,aL,rfl,(by kernel_rfl),(fq.takeN 5)⟩
def FR:List br:=[uP 18 (mv 6),uP 19 (bc .geq 3 18 0 3),uP 20 (mv 19),aM 20 21 (mv 0),aM 20 22 (nk 21),aM 20 23 (fa 65 22 4),cW 20 24 (ld 63 23),aM 20 25 (mv 6),aM 20 26 (ia 63 24 25),aM 20 27 (fa 116 26 2),cW 20 28 (ld 3 27),aM 20 29 (fa 114 3 1),cW 20 30 (ld 3 29),aM 20 31 (bo .gtr 3 28 30 3),uP 32 (pf 20 31)]
def Ee:List br:=[uP 36 (mv 6),uP 37 (bc .geq 3 36 0 3),uP 38 (mv 37),aM 38 39 (mv 0),aM 38 40 (nk 39),aM 38 41 (fa 65 40 4),cW 38 42 (ld 63 41),aM 38 43 (mv 6),aM 38 44 (ia 63 42 43),aM 38 45 (fa 116 44 2),cW 38 46 (ld 3 45),aM 38 47 (fa 114 3 1),cW 38 48 (ld 3 47),aM 38 49 (bo .eql 3 46 48 3),uP 50 (pf 38 49),uP 51 (mv 50),aM 51 52 (mv 0),aM 51 53 (nk 52),aM 51 54 (fa 65 53 4),cW 51 55 (ld 63 54),aM 51 56 (mv 6),aM 51 57 (ia 63 55 56),aM 51 58 (fa 116 57 1),cW 51 59 (ld 3 58),aM 51 60 (mv 5),aM 51 61 (bo .eql 3 59 60 3),uP 62 (pf 51 61),uP 35 (sg 62)]
def xw:List br:=[uP 64 (mv 6),uP 65 (bc .geq 3 64 0 3),uP 66 (mv 65),aM 66 67 (mv 0),aM 66 68 (nk 67),aM 66 69 (fa 65 68 4),cW 66 70 (ld 63 69),aM 66 71 (mv 6),aM 66 72 (ia 63 70 71),aM 66 73 (fa 116 72 2),cW 66 74 (ld 3 73),aM 66 75 (fa 114 3 1),cW 66 76 (ld 3 75),aM 66 77 (bo .eql 3 74 76 3),uP 78 (pf 66 77),uP 79 (mv 78),aM 79 80 (mv 5),aM 79 81 (bc .eql 3 80 3 3),uP 82 (pf 79 81),uP 63 (sg 82)]
def GB:List br:=[uP 92 (mv 6),uP 93 (bc .gtr 3 92 0 3),uP 94 (mv 93),aM 94 95 (mv 0),aM 94 96 (nk 95),aM 94 97 (fa 65 96 4),cW 94 98 (ld 63 97),aM 94 99 (mv 6),aM 94 100 (ia 63 98 99),aM 94 101 (fa 116 100 2),cW 94 102 (ld 3 101),aM 94 103 (fa 114 3 1),cW 94 104 (ld 3 103),aM 94 105 (bo .eql 3 102 104 3),uP 106 (pf 94 105),uP 107 (mv 106),aM 107 108 (mv 0),aM 107 109 (nk 108),aM 107 110 (fa 65 109 4),cW 107 111 (ld 63 110),aM 107 112 (mv 6),aM 107 113 (bc .sub 3 112 1 3),aM 107 114 (ia 63 111 113),aM 107 115 (fa 116 114 2),cW 107 116 (ld 3 115),aM 107 117 (fa 114 3 1),cW 107 118 (ld 3 117),aM 107 119 (bo .eql 3 116 118 3),uP 120 (pf 107 119),uP 121 (mv 120),aM 121 122 (mv 0),aM 121 123 (nk 122),aM 121 124 (fa 65 123 4),cW 121 125 (ld 63 124),aM 121 126 (mv 6),aM 121 127 (bc .sub 3 126 1 3),aM 121 128 (ia 63 125 127),aM 121 129 (fa 116 128 1),cW 121 130 (ld 3 129),aM 121 131 (bc .eql 3 130 5 3),uP 132 (pf 121 131),uP 91 (sg 132)]
def Cd:List br:=[uP 136 (mv 6),uP 137 (bc .geq 3 136 0 3),uP 138 (mv 137),aM 138 139 (mv 0),aM 138 140 (nk 139),aM 138 141 (fa 65 140 4),cW 138 142 (ld 63 141),aM 138 143 (mv 6),aM 138 144 (ia 63 142 143),aM 138 145 (fa 116 144 2),cW 138 146 (ld 3 145),aM 138 147 (fa 114 3 1),cW 138 148 (ld 3 147),aM 138 149 (bo .eql 3 146 148 3),uP 150 (pf 138 149),uP 135 (sg 150)]
def Cw:List aR:=[u 183 (mv 0),u 184 (.buildSlice 63 0 #[]),u 185 (mv 0),u 186 (nk 185),u 187 (fa 65 186 4),u 188 (ld 63 187),u 189 (mv 6),u 190 (bc .add 3 189 1 3),u 191 (.slice 63 (t 188) none (some (t 190)) none),u 192 (cb .append #[(t 184),(t 191)] #[63,63]),u 193 (nk 183),u 194 (fa 65 193 4),o (.store 63 (t 194) (t 192))]
def BO:List aR:=[u 210 (mv 0),u 211 (nk 210),u 212 (fa 65 211 4),u 213 (ld 63 212),u 214 (mv 6),u 215 (ia 63 213 214),u 216 (fa 116 215 4),o (.store 4 (t 216) (.const (.bool true)))]
def wX:List br:=[uP 220 (mv 0),uP 221 (mv 0),uP 222 (nk 221),uP 223 (fa 65 222 4),uL 224 (ld 63 223),uP 225 (mv 0),uP 226 (nk 225),uP 227 (fa 65 226 0),uL 228 (ld 59 227),uP 229 (mv 8),uP 230 (mv 5),uP 231 (fa 114 3 2),uL 232 (ld 3 231),uP 233 (fa 114 3 3),uL 234 (ld 3 233),uF 235 (cf 70 #[(t 228),(t 229),(t 230),(t 232),(t 234)] #[59,3,3,3,3]) .make [8,12,14],uP 236 (mv 5),uP 237 (fa 114 3 1),uL 238 (ld 3 237),uP 239 (.build 116 #[(0,(t 235)),(1,(t 236)),(2,(t 238))]),uF 240 (.buildSlice 63 1 #[(0,(t 239))]) .fresh [],uF 241 (cb .append #[(t 224),(t 240)] #[63,63]) .make [4,8,12,14,18],uP 242 (nk 220),uP 243 (fa 65 242 4),oF (.store 63 (t 243) (t 241)) .make [4,8,12,14,18]]
def BB:List br:=[uP 244 (mv 0),uP 245 (nk 244),uP 246 (fa 65 245 4),uL 247 (ld 63 246),uP 248 (mv 0),uP 249 (nk 248),uP 250 (fa 65 249 4),uL 251 (ld 63 250),uP 252 (cb .len #[(t 251)] #[63]),uP 253 (bc .sub 3 252 1 3),uP 254 (ia 63 247 253),uP 9 (sg 254)]
def Bp:List aR:=[u 255 (mv 9),u 256 (nk 255),u 257 (fa 116 256 4),o (.store 4 (t 257) (.const (.bool false)))]
def Ao:List br:=[uP 260 (mv 9),uP 261 (mv 0),uP 262 (nk 261),uP 263 (fa 65 262 0),uL 264 (ld 59 263),uP 265 (mv 9),uP 266 (nk 265),uP 267 (fa 116 266 0),uL 268 (ld 3 267),uP 269 (fa 114 3 2),uL 270 (ld 3 269),uP 271 (fa 114 3 3),uL 272 (ld 3 271),uF 273 (cf 70 #[(t 264),(t 268),(ci 4),(t 270),(t 272)] #[59,3,3,3,3]) .make [4,8,10,12],uP 274 (nk 260),uP 275 (fa 116 274 3),oF (.store 3 (t 275) (t 273)) .make [4,8,10,12]]
def Dc:List br:=[uP 276 (mv 9),uP 277 (mv 0),uP 278 (nk 277),uP 279 (fa 65 278 0),uL 280 (ld 59 279),uP 281 (mv 9),uP 282 (nk 281),uP 283 (fa 116 282 0),uL 284 (ld 3 283),uP 285 (fa 114 3 2),uL 286 (ld 3 285),uP 287 (fa 114 3 3),uL 288 (ld 3 287),uF 289 (cf 89 #[(t 280),(t 284),(t 286),(t 288)] #[59,3,3,3]) .make [4,8,10,12],uP 290 (nk 276),uP 291 (fa 116 290 3),oF (.store 3 (t 291) (t 289)) .make [4,8,10,12]]
def correctorref12_parser_place_l0 (F:Nat) (a0:a5) (a1:bd):Nat→bd→Int→Int→Option (bd×Int×Int)
 | 0,_,_,_=>none
 | n+1,I,J,j=>
  if (0:Int)≤j then
   if 0≤j∧j<(a0.S.length:Int) then
    (a0.S[j.toNat]?).bind fun U=>
    if I.aI<U.aI then
     correctorref12_parser_place_l0 F a0 a1 n I J (af (j - 1))
    else
     some (I,J,j)
   else none
  else
   some (I,J,j)
def correctorref12_parser_place (F:Nat) (a0:a5) (a1:bd):Option (Int×a5):=
 ((if a1.iM=true then
   some (a1,3)
  else
   some (a1,5)):Option (bd×Int)).bind fun o=>match o with
  | (aL,aM)=>((correctorref12_parser_place_l0 F a0 a1 F aL aM (af ((a0.S.length:Int) - 1))):Option (bd×Int×Int)).bind fun o=>match o with
   | (ad,ae,j)=>((((if (0:Int)≤j then
      if 0≤j∧j<(a0.S.length:Int) then
       (a0.S[j.toNat]?).bind fun aN=>
       if aN.aI=ad.aI then
        if 0≤j∧j<(a0.S.length:Int) then
         (a0.S[j.toNat]?).bind fun aO=>
         if aO.Kind=ae then
          some (ad,true)
         else
          some (ad,false)
        else none
       else
        some (ad,false)
      else none
     else
      some (ad,false)):Option (bd×Bool)).bind fun o=>match o with
     | (ab,aP)=>if aP=true then
      some (.inl (ab,j,false))
     else
      ((if (0:Int)≤j then
        if 0≤j∧j<(a0.S.length:Int) then
         (a0.S[j.toNat]?).bind fun aS=>
         if aS.aI=ab.aI then
          if ae=(3:Int) then
           some (ab,true)
          else
           some (ab,false)
         else
          some (ab,false)
        else none
       else
        some (ab,false)):Option (bd×Bool)).bind fun o=>match o with
       | (aa,aT)=>if aT=true then
        if 0≤j∧j<(a0.S.length:Int) then
         (a0.S[j.toNat]?).bind fun aU=>
         if aU.Has=true then
          some (.inr (5,a0))
         else
          some (.inl (aa,j,true))
        else none
       else
        ((if (0:Int)<j then
          if 0≤j∧j<(a0.S.length:Int) then
           (a0.S[j.toNat]?).bind fun aV=>
           if aV.aI=aa.aI then
            if 0≤(af (j - 1))∧(af (j - 1))<(a0.S.length:Int) then
             (a0.S[(af (j - 1)).toNat]?).bind fun aW=>
             if aW.aI=aa.aI then
              if 0≤(af (j - 1))∧(af (j - 1))<(a0.S.length:Int) then
               (a0.S[(af (j - 1)).toNat]?).bind fun aX=>
               if aX.Kind=(5:Int) then
                some (aa,true)
               else
                some (aa,false)
              else none
             else
              some (aa,false)
            else none
           else
            some (aa,false)
          else none
         else
          some (aa,false)):Option (bd×Bool)).bind fun o=>match o with
         | (ag,aY)=>if aY=true then
          some (.inl (ag,af (j - 1),false))
         else
          ((if (0:Int)≤j then
            if 0≤j∧j<(a0.S.length:Int) then
             (a0.S[j.toNat]?).bind fun aZ=>
             if aZ.aI=ag.aI then
              some (ag,true)
             else
              some (ag,false)
            else none
           else
            some (ag,false)):Option (bd×Bool)).bind fun o=>match o with
           | (ak,a2)=>if a2=true then
            some (.inr (5,a0))
           else
            if j<(0:Int) then
             if a0.aE=true then
              some (.inr (7,a0))
             else
              if (0:Int)≤j then
               if 0≤j∧j<(a0.S.length:Int) then
                (a0.S[j.toNat]?).bind fun a3=>
                if a3.Has=true then
                 some (.inr (6,a0))
                else
                 some (.inl (ak,j,true))
               else none
              else
               some (.inl (ak,j,true))
            else
             if (0:Int)≤j then
              if 0≤j∧j<(a0.S.length:Int) then
               (a0.S[j.toNat]?).bind fun a6=>
               if a6.Has=true then
                some (.inr (6,a0))
               else
                some (.inl (ak,j,true))
              else none
             else
              some (.inl (ak,j,true))):Option (Sum (bd×Int×Bool) (Int×a5))).bind fun o=>match o with
    | .inl (ax,U,ay)=>((if ay=true then
      if a0.aA<(af (U+2)) then
       some (.inr (10,a0))
      else
       some (.inl ax)
     else
      some (.inl ax)):Option (Sum bd (Int×a5))).bind fun o=>match o with
     | .inl ar=>if 0≤(0:Int)∧(0:Int)≤(af (U+1))∧(af (U+1))≤(a0.S.length:Int) then
      if ([]:List aw).length+((a0.S.take (af (U+1)).toNat).drop (0:Int).toNat).length≤3518437208883 then
       ((if ay=true then
         ((if (0:Int)≤U then
           if 0≤U∧U<((([]:List aw)++((a0.S.take (af (U+1)).toNat).drop (0:Int).toNat)).length:Int) then
            ((([]:List aw)++((a0.S.take (af (U+1)).toNat).drop (0:Int).toNat))[U.toNat]?).bind fun a7=>
            if 0≤U∧U<((([]:List aw)++((a0.S.take (af (U+1)).toNat).drop (0:Int).toNat)).length:Int) then
             ((([]:List aw)++((a0.S.take (af (U+1)).toNat).drop (0:Int).toNat))[U.toNat]?).bind fun an=>
             some (a0.Rows,a0.Doc,a0.aE,(([]:List aw)++((a0.S.take (af (U+1)).toNat).drop (0:Int).toNat)).set U.toNat (⟨an.Node,an.Kind,an.aI,an.b4,true⟩:aw),a0.aA,a0.Read,ar,a7.b4)
            else none
           else none
          else
           some (a0.Rows,a0.Doc,true,([]:List aw)++((a0.S.take (af (U+1)).toNat).drop (0:Int).toNat),a0.aA,a0.Read,ar,a0.Doc)):Option ((List av)×Int×Bool×(List aw)×Int×Int×bd×Int)).bind fun o=>match o with
          | (a8,a9,ba,az,bb,bc,ai,bf)=>(eO F a0.R bf ae ai.ah ai.To).bind fun au=>
          if az.length+[(⟨au.1,ae,ai.aI,0,false⟩:aw)].length≤3518437208883 then
           some (au.2,a8,a9,ba,az++[(⟨au.1,ae,ai.aI,0,false⟩:aw)],bb,bc,ai)
          else none
        else
         some (a0.R,a0.Rows,a0.Doc,a0.aE,([]:List aw)++((a0.S.take (af (U+1)).toNat).drop (0:Int).toNat),a0.aA,a0.Read,ar)):Option (aQ×(List av)×Int×Bool×(List aw)×Int×Int×bd)).bind fun o=>match o with
        | (aB,aC,aD,aF,J,aG,aH,aj)=>if 0≤(af ((J.length:Int) - 1))∧(af ((J.length:Int) - 1))<(J.length:Int) then
         (J[(af ((J.length:Int) - 1)).toNat]?).bind fun I=>
         ((if aj.iM=true then
           ((J.set (af ((J.length:Int) - 1)).toNat (⟨I.Node,I.Kind,I.aI,I.b4,false⟩:aw))[(af ((J.length:Int) - 1)).toNat]?).bind fun bg=>
           (eO F aB bg.Node 4 aj.ah aj.To).bind fun aJ=>
           ((J.set (af ((J.length:Int) - 1)).toNat (⟨I.Node,I.Kind,I.aI,I.b4,false⟩:aw))[(af ((J.length:Int) - 1)).toNat]?).bind fun ao=>
           some (aJ.2,aC,aD,aF,(J.set (af ((J.length:Int) - 1)).toNat (⟨I.Node,I.Kind,I.aI,I.b4,false⟩:aw)).set (af ((J.length:Int) - 1)).toNat (⟨ao.Node,ao.Kind,ao.aI,aJ.1,ao.Has⟩:aw),aG,aH)
          else
           ((J.set (af ((J.length:Int) - 1)).toNat (⟨I.Node,I.Kind,I.aI,I.b4,false⟩:aw))[(af ((J.length:Int) - 1)).toNat]?).bind fun bh=>
           (ma F aB bh.Node aj.ah aj.To).bind fun aK=>
           ((J.set (af ((J.length:Int) - 1)).toNat (⟨I.Node,I.Kind,I.aI,I.b4,false⟩:aw))[(af ((J.length:Int) - 1)).toNat]?).bind fun aq=>
           some (aK.2,aC,aD,aF,(J.set (af ((J.length:Int) - 1)).toNat (⟨I.Node,I.Kind,I.aI,I.b4,false⟩:aw)).set (af ((J.length:Int) - 1)).toNat (⟨aq.Node,aq.Kind,aq.aI,aK.1,aq.Has⟩:aw),aG,aH)):Option (aQ×(List av)×Int×Bool×(List aw)×Int×Int)).bind fun o=>match o with
          | (bj,bk,bl,bm,bn,bo,bp)=>some (0,(⟨bj,bk,bl,bm,bn,bo,bp⟩:a5))
        else none
      else none
     else none
     | .inr y=>some y
    | .inr y=>some y
theorem Cx (F:Nat) {h:AH} {Z:Zn} {a0:a5} {a1:bd} {I ab v4 v6 ak az v11 aC J aM} (hP:Pre Z h [.ae I [Pt ab 0,v11,V a0.Doc, .bool a0.aE,J,V a0.aA,V a0.Read], .ae ab (aB v4 v6 ak a0.R), .gs ak az (aa aj), .gs v11 aC (aa av), .gs J aM (aa aw)]) (cd:RS (α:=al) Z v4 a0.R.L) (cf:RS (α:=aq) Z v6 a0.R.T.an) (cg:RCs (α:=aj) Z az a0.R.D) (bQ:RCs (α:=av) Z aC a0.Rows) (ay:RCs (α:=aw) Z aM a0.S) {r:Int×a5} (hm:correctorref12_parser_place F a0 a1=some r):
  bS Tryz.prog 75 [Pt I 0, .agg #[.bool a1.iM,V a1.aI,V a1.ah,V a1.To]] h Z [.ae I [Pt ab 0,v11,V a0.Doc, .bool a0.aE,J,V a0.aA,V a0.Read], .ae ab (aB v4 v6 ak a0.R), .gs ak az (aa aj), .gs v11 aC (aa av), .gs J aM (aa aw)] fun v Z' A'=>∃ fe ff fh fi fj fk,V r.1=v∧A'=[.ae I [Pt ab 0,v11,V r.2.Doc, .bool r.2.aE,fj,V r.2.aA,V r.2.Read], .ae ab (aB fe ff ak r.2.R), .gs ak fh (aa aj), .gs v11 fi (aa av), .gs fj fk (aa aw)]∧RS (α:=al) Z' fe r.2.R.L∧RS (α:=aq) Z' ff r.2.R.T.an∧RCs (α:=aj) Z' fh r.2.R.D∧RCs (α:=av) Z' fi r.2.Rows∧RCs (α:=aw) Z' fk r.2.S:=by
 refine b3 Tryz.func75 hP ?_
 intro hs hS
 unfold correctorref12_parser_place at hm
 refine s0<|dt 0 [.bool a1.iM,V a1.aI,V a1.ah,V a1.To] hS ?_
 intro fl jj ec
 refine xn 1<|sp 1<|sq ?_
 obtain ⟨gN,dp,hm⟩:=ai hm
 refine aJ [0,3,5] (fun l h=>∃ fo dr ds du,(dr,ds)=gN∧l=[(0,Pt I 0),(3,Pt du 0),(5,V ds)]∧St hs (a2 [.ae I [Pt ab 0,v11,V a0.Doc, .bool a0.aE,J,V a0.aA,V a0.Read], .ae ab (aB v4 v6 ak a0.R), .gs ak az (aa aj), .gs v11 aC (aa av), .gs J aM (aa aw)]) Z (0,0) fo h [.ae I [Pt ab 0,v11,V a0.Doc, .bool a0.aE,J,V a0.aA,V a0.Read], .ae ab (aB v4 v6 ak a0.R), .gs ak az (aa aj), .gs v11 aC (aa av), .gs J aM (aa aw), .ae du (eX dr)]) ?_ ?_
 rintro l jk ⟨fo,dr,ds,du,rfl,rfl,dv⟩
 try dsimp only at hm
 refine s0<|aD 3 0 J dv rfl<|bC 0 J (dv.dP (i:=4) rfl (ay.mono dv.ag))<|xn 2<|sq ?_
 obtain ⟨ed,bf,hm⟩:=ai hm
 refine aJ [0,3,5,6] (fun l h=>∃ fp bT ad U aQ,(bT,ad,U)=ed∧l=[(0,Pt I 0),(3,Pt aQ 0),(5,V ad),(6,V U)]∧St hs (a2 [.ae I [Pt ab 0,v11,V a0.Doc, .bool a0.aE,J,V a0.aA,V a0.Read], .ae ab (aB v4 v6 ak a0.R), .gs ak az (aa aj), .gs v11 aC (aa av), .gs J aM (aa aw)]) Z (0,0) fp h [.ae I [Pt ab 0,v11,V a0.Doc, .bool a0.aE,J,V a0.aA,V a0.Read], .ae ab (aB v4 v6 ak a0.R), .gs ak az (aa aj), .gs v11 aC (aa av), .gs J aM (aa aw), .ae aQ (eX bT)]) ?_ ?_
 rintro l jl ⟨fp,bT,ad,U,aQ,rfl,rfl,cp⟩
 try dsimp only at hm
 refine sp 1<|sq ?_
 obtain ⟨gO,ao,hm⟩:=ai hm
 refine aJ [0,3,5,6,7] (fun l h=>∃ fq cT bo cI cU, .inl (cT,bo,cI)=gO∧l=[(0,Pt I 0),(3,Pt cU 0),(5,V ad),(6,V bo),(7, .bool cI)]∧St hs (a2 [.ae I [Pt ab 0,v11,V a0.Doc, .bool a0.aE,J,V a0.aA,V a0.Read], .ae ab (aB v4 v6 ak a0.R), .gs ak az (aa aj), .gs v11 aC (aa av), .gs J aM (aa aw)]) Z (0,0) fq h [.ae I [Pt ab 0,v11,V a0.Doc, .bool a0.aE,J,V a0.aA,V a0.Read], .ae ab (aB v4 v6 ak a0.R), .gs ak az (aa aj), .gs v11 aC (aa av), .gs J aM (aa aw), .ae cU (eX cT)]) ?_ ?_
 rintro l jm ⟨fq,cT,bo,cI,cU,rfl,rfl,bV⟩
 try dsimp only at hm
 refine sq ?_
 obtain ⟨gP,cq,hm⟩:=ai hm
 refine aJ [0,3,5,6,7] (fun l h=>∃ ee cJ bW, .inl cJ=gP∧l=[(0,Pt I 0),(3,Pt bW 0),(5,V ad),(6,V bo),(7, .bool cI)]∧St hs (a2 [.ae I [Pt ab 0,v11,V a0.Doc, .bool a0.aE,J,V a0.aA,V a0.Read], .ae ab (aB v4 v6 ak a0.R), .gs ak az (aa aj), .gs v11 aC (aa av), .gs J aM (aa aw)]) Z (0,0) ee h [.ae I [Pt ab 0,v11,V a0.Doc, .bool a0.aE,J,V a0.aA,V a0.Read], .ae ab (aB v4 v6 ak a0.R), .gs ak az (aa aj), .gs v11 aC (aa av), .gs J aM (aa aw), .ae bW (eX cJ)]) ?_ ?_
 rintro l jn ⟨ee,cJ,bW,rfl,rfl,ch⟩
 try dsimp only at hm
 refine sr Cw<|xq 1 [(183,Pt I 0),(0,Pt I 0),(3,Pt bW 0),(5,V ad),(6,V bo),(7, .bool cI)] ?_
 have gQ:RCs (α:=aw) ee [] []:=RCs.bq _
 refine dG rfl trivial (c6 (cells:=[]) (s:=5) (by kernel_rfl)) (by kernel_rfl) ch ?_
 intro gR jo fr
 refine aD 3 1 J fr rfl<|xq 2 [(190,V (af (bo+1))),(188,J),(184,gR),(183,Pt I 0),(0,Pt I 0),(3,Pt bW 0),(5,V ad),(6,V bo),(7, .bool cI)] ?_
 obtain ⟨jq,ct,gS,fs⟩:=(fr.front 5 rfl).freeze (ay.mono ch.ag)
 obtain ⟨eg,hm⟩:=aH hm
 refine j1 rfl trivial (iY (a:=0) (b:=af (bo+1)) gS rfl (by kernel_rfl:slTy _ _=some (aa aw)) rfl ⟨_,rfl⟩ eg.1 eg.2.1 eg.2.2) ?_
 intro jr gT
 obtain ⟨js,gU⟩:=RS.news gT (fs).inv
 obtain ⟨jt,hm⟩:=aH hm
 refine eZ rfl trivial (dE (ys:=(a0.S.take (af (bo+1)).toNat).drop (0:Int).toNat) (bX:=40) fs (i:=0) rfl (gQ.mono ct) gU rfl rfl (by kernel_rfl) (by omega) (by omega)) ?_
 rintro bM ft ju ⟨cu,eh⟩
 refine bG 2 1 bM [bM] [Pt ab 0,v11,V a0.Doc, .bool a0.aE,bM,V a0.aA,V a0.Read] eh rfl (eh.fQ (i:=0) rfl) (bz (eh.fR (i:=0) rfl) cz) ?_
 intro jv bN
 refine xn 0<|sq ?_
 obtain ⟨gV,bK,hm⟩:=ai hm
 refine aJ [0,3] (fun l h=>∃ cw cj cW bY b0 aK b1 b2 ba cX c0 c3 b5 ar ei aN,(cj,cW,bY,b0,aK,b1,b2,ba)=gV∧RS (α:=al) cw cX cj.L∧RS (α:=aq) cw c0 cj.T.an∧RCs (α:=aj) cw c3 cj.D∧RCs (α:=av) cw b5 cW∧RCs (α:=aw) cw ei aK∧l=[(0,Pt I 0),(3,Pt aN 0)]∧St hs (a2 [.ae I [Pt ab 0,v11,V a0.Doc, .bool a0.aE,J,V a0.aA,V a0.Read], .ae ab (aB v4 v6 ak a0.R), .gs ak az (aa aj), .gs v11 aC (aa av), .gs J aM (aa aw)]) Z (0,0) cw h [.ae I [Pt ab 0,v11,V bY, .bool b0,ar,V b1,V b2], .ae ab (aB cX c0 ak cj), .gs ak c3 (aa aj), .gs v11 b5 (aa av), .gs ar ei (aa aw), .ae aN (eX ba)]) ?_ ?_
 rintro l jw ⟨cw,cj,cW,bY,b0,aK,b1,b2,ba,cX,c0,c3,b5,ar,ei,aN,rfl,fu,fv,fw,fx,dx,rfl,gW⟩
 try dsimp only at hm
 refine cY BB gW ?_
 intro fy jx fz cx
 refine yq 3 [(246,Pt I 4),(0,Pt I 0),(3,Pt aN 0)] ?_
 have jy:I<fy:=fz.1 _ (au (i:=0) rfl) _ (by simp [Itm.ids])
 refine aW (v:=ar) rfl trivial rfl (by show I<_;omega) (aG (v:=ar) (cx.dN (i:=4) rfl)) (cx.aV (i:=0) rfl (by kernel_rfl)) trivial<|yq 3 [(250,Pt I 4),(247,ar),(0,Pt I 0),(3,Pt aN 0)] ?_
 have jz:I<fy:=fz.1 _ (au (i:=0) rfl) _ (by simp [Itm.ids])
 refine aW (v:=ar) rfl trivial rfl (by show I<_;omega) (aG (v:=ar) (cx.dN (i:=4) rfl)) (cx.aV (i:=0) rfl (by kernel_rfl)) trivial<|aF rfl trivial (h7 rfl (cx.dP (i:=4) rfl dx) ⟨_,Tryz.underlying63⟩)<|yq 1 [(253,V (af ((aK.length:Int) - 1))),(247,ar),(0,Pt I 0),(3,Pt aN 0)] ?_
 obtain ⟨fA,hm⟩:=aH hm
 refine aF rfl trivial (bx rfl rfl (by kernel_rfl:slTy _ _=some (aa aw)) (cx.bR (j:=4) rfl dx (by omega)) fA.1 fA.2)<|ye 1 [(9, .pointer (some (bw ar (af ((aK.length:Int) - 1)) (aa aw) 0))),(0,Pt I 0),(3,Pt aN 0)] ?_
 have fB:=cx.aY
 refine sr Bp<|xq 3 [(257, .pointer (some (bw ar (af ((aK.length:Int) - 1)) (aa aw) 4))),(9, .pointer (some (bw ar (af ((aK.length:Int) - 1)) (aa aw) 0))),(0,Pt I 0),(3,Pt aN 0)] ?_
 obtain ⟨bl,fC,hm⟩:=ai hm
 obtain ⟨jB,gX,jC,gY⟩:=fB.cv (j:=4) rfl dx (i:=af ((aK.length:Int) - 1)) fC
 obtain rfl:=eI gX
 refine mg rfl trivial (gD (u':=(⟨bl.Node,bl.Kind,bl.aI,bl.b4,false⟩:aw)) (vs:=[.bool false]) (a9:=[V bl.Node,V bl.Kind,V bl.aI,V bl.b4, .bool false]) fB (m:=4) rfl dx fC gY rfl rfl rfl (by kernel_rfl) rfl rfl rfl rfl) ?_
 rintro jD dz ⟨ck,ej⟩
 refine xn 0<|sq<|s0<|aD 1 5 (.bool ba.iM) ej rfl<|xn 0 ?_
 obtain ⟨gZ,bn,hm⟩:=ai hm
 refine aJ [] (fun l h=>∃ cy cK en eo ep er et eu dA dB dC dH dI dJ,(cK,en,eo,ep,er,et,eu)=gZ∧RS (α:=al) cy dA cK.L∧RS (α:=aq) cy dB cK.T.an∧RCs (α:=aj) cy dC cK.D∧RCs (α:=av) cy dH en∧RCs (α:=aw) cy dJ er∧l=[]∧St hs (a2 [.ae I [Pt ab 0,v11,V a0.Doc, .bool a0.aE,J,V a0.aA,V a0.Read], .ae ab (aB v4 v6 ak a0.R), .gs ak az (aa aj), .gs v11 aC (aa av), .gs J aM (aa aw)]) Z (0,0) cy h [.ae I [Pt ab 0,v11,V eo, .bool ep,dI,V et,V eu], .ae ab (aB dA dB ak cK), .gs ak dC (aa aj), .gs v11 dH (aa av), .gs dI dJ (aa aw)]) ?_ ?_
 rintro l jE ⟨cy,cK,en,eo,ep,er,et,eu,dA,dB,dC,dH,dI,dJ,rfl,g1,g2,g3,g4,g5,rfl,g6⟩
 try dsimp only at hm
 refine sp 1<|rt<|⟨rfl,?_⟩
 obtain rfl:=si hm
 refine ⟨_,_,_,tk (V 0) (ResL.nil),g6,?_⟩
 exact ⟨dA,dB,dC,dH,dI,dJ,rfl,rfl,g1,g2,g3,g4,g5⟩
 refine db bn ?_ ?_<;>intro jF bn
 refine ek Ao ej ?_
 intro dL jG dM cL
 refine yq 4 [(263,Pt I 0),(260, .pointer (some (bw ar (af ((aK.length:Int) - 1)) (aa aw) 0))),(9, .pointer (some (bw ar (af ((aK.length:Int) - 1)) (aa aw) 0))),(3,Pt aN 0)] ?_
 have jI:I<dL:=dM.1 _ (au (i:=0) rfl) _ (by simp [Itm.ids])
 refine aW (v:=Pt ab 0) rfl trivial rfl (by show I<_;omega) (aG (v:=Pt ab 0) trivial) (cL.aV (i:=0) rfl (by kernel_rfl)) trivial<|yq 3 [(267, .pointer (some (bw ar (af ((aK.length:Int) - 1)) (aa aw) 0))),(264,Pt ab 0),(260, .pointer (some (bw ar (af ((aK.length:Int) - 1)) (aa aw) 0))),(3,Pt aN 0)] ?_
 obtain ⟨dO,fD,bn⟩:=ai bn
 obtain ⟨jJ,g7,g8,jK⟩:=cL.cv (j:=4) rfl ck (i:=af ((aK.length:Int) - 1)) fD
 obtain rfl:=eI g7
 have g9:=dw fD
 have fE:=cL.bR (j:=4) rfl ck g9
 have jL:(baseOf ar).block<dL:=dD (dM.1 _ (au (i:=4) rfl)) fE
 refine dy rfl trivial rfl (by show (baseOf ar).block<_;omega) (aG (v:=V dO.Node) trivial) (bE (w:=V dO.Node) g8 rfl (by kernel_rfl)) trivial<|yq 1 [(269,Pt aN 2),(268,V dO.Node),(264,Pt ab 0),(260, .pointer (some (bw ar (af ((aK.length:Int) - 1)) (aa aw) 0))),(3,Pt aN 0)] ?_
 have jM:aN<dL:=dM.1 _ (au (i:=5) rfl) _ (by simp [Itm.ids])
 refine aW (v:=V ba.ah) rfl trivial rfl (by show aN<_;omega) (aG (v:=V ba.ah) trivial) (cL.aV (i:=5) rfl (by kernel_rfl)) trivial<|yq 1 [(271,Pt aN 3),(270,V ba.ah),(268,V dO.Node),(264,Pt ab 0),(260, .pointer (some (bw ar (af ((aK.length:Int) - 1)) (aa aw) 0)))] ?_
 have jN:aN<dL:=dM.1 _ (au (i:=5) rfl) _ (by simp [Itm.ids])
 refine aW (v:=V ba.To) rfl trivial rfl (by show aN<_;omega) (aG (v:=V ba.To) trivial) (cL.aV (i:=5) rfl (by kernel_rfl)) trivial ?_
 obtain ⟨cA,ha,bn⟩:=ai bn
 have cM:St _ _ _ _ _ _ ([.ae ab (aB cX c0 ak cj), .gs ak c3 (aa aj)]++[.ae I [Pt ab 0,v11,V bY, .bool b0,ar,V b1,V b2], .gs v11 b5 (aa av), .gs ar dz (aa aw), .ae aN (eX ba)]):=((cL.front 2 rfl).front 2 rfl)
 obtain ⟨jO,jP,jQ,jR,hb,fF,fG,fH,fI,rfl,rfl,hc,hf,hg⟩:=gB F cM.bZ.dW fu fv fw ha
 have c4:=fF.ag
 refine fS rfl trivial cM (cr hb rfl rfl rfl) fF c4 (.a3 (cM.bL 3 rfl bU) (.a3 (cM.bL 3 rfl bU) (.a3 (cM.bL 2 rfl (jS fE)) (.a3 (cM.bL 0 rfl bU) .nil)))) ?_
 intro jT fJ
 refine yq 2 [(275, .pointer (some (bw ar (af ((aK.length:Int) - 1)) (aa aw) 3))),(273,V cA.1)] ?_
 obtain ⟨bF,fK,bn⟩:=ai bn
 obtain ⟨jU,hh,jV,hi⟩:=fJ.cv (j:=4) rfl (ck.mono c4) (i:=af ((aK.length:Int) - 1)) fK
 obtain rfl:=eI hh
 have c5:St _ _ _ _ _ _ ([.gs ar dz (aa aw)]++[.ae ab (aB fG fH ak cA.2), .gs ak fI (aa aj), .ae I [Pt ab 0,v11,V bY, .bool b0,ar,V b1,V b2], .gs v11 b5 (aa av), .ae aN (eX ba)]):=(fJ.front 4 rfl)
 refine lr rfl trivial c5 (gD (u':=(⟨bF.Node,bF.Kind,bF.aI,cA.1,bF.Has⟩:aw)) (vs:=[V cA.1]) (a9:=[V bF.Node,V bF.Kind,V bF.aI,V cA.1, .bool bF.Has]) c5.sub (m:=0) rfl (ck.mono c4) fK hi rfl rfl rfl (by kernel_rfl) rfl rfl rfl rfl) c4 (.a3 (c5.bL 4 rfl bU) (.a3 (c5.bL 4 rfl bU) (.drop (by decide) (.a3 (c5.bL 2 rfl bU) .nil)))) ?_
 rintro jW hj ⟨hk,hl⟩
 refine yf [] ?_
 have hn:=hl.aY
 obtain rfl:=si bn
 exact ⟨_,cA.2,cW,bY,b0,(aK.set (af ((aK.length:Int) - 1)).toNat (⟨bl.Node,bl.Kind,bl.aI,bl.b4,false⟩:aw)).set (af ((aK.length:Int) - 1)).toNat (⟨bF.Node,bF.Kind,bF.aI,cA.1,bF.Has⟩:aw),b1,b2,fG,fH,fI,b5,ar,hj,rfl,hc,hf,hg,(fx.mono c4),hk,(by kernel_rfl),((((((hn.front 0 rfl).front 4 rfl).front 3 rfl).front 3 rfl).front 4 rfl).takeN 5)⟩
 refine ek Dc ej ?_
 intro dQ jX dR cN
 refine yq 4 [(279,Pt I 0),(276, .pointer (some (bw ar (af ((aK.length:Int) - 1)) (aa aw) 0))),(9, .pointer (some (bw ar (af ((aK.length:Int) - 1)) (aa aw) 0))),(3,Pt aN 0)] ?_
 have jY:I<dQ:=dR.1 _ (au (i:=0) rfl) _ (by simp [Itm.ids])
 refine aW (v:=Pt ab 0) rfl trivial rfl (by show I<_;omega) (aG (v:=Pt ab 0) trivial) (cN.aV (i:=0) rfl (by kernel_rfl)) trivial<|yq 3 [(283, .pointer (some (bw ar (af ((aK.length:Int) - 1)) (aa aw) 0))),(280,Pt ab 0),(276, .pointer (some (bw ar (af ((aK.length:Int) - 1)) (aa aw) 0))),(3,Pt aN 0)] ?_
 obtain ⟨dS,fL,bn⟩:=ai bn
 obtain ⟨jZ,ho,hp,j0⟩:=cN.cv (j:=4) rfl ck (i:=af ((aK.length:Int) - 1)) fL
 obtain rfl:=eI ho
 have hq:=dw fL
 have fM:=cN.bR (j:=4) rfl ck hq
 have j2:(baseOf ar).block<dQ:=dD (dR.1 _ (au (i:=4) rfl)) fM
 refine dy rfl trivial rfl (by show (baseOf ar).block<_;omega) (aG (v:=V dS.Node) trivial) (bE (w:=V dS.Node) hp rfl (by kernel_rfl)) trivial<|yq 1 [(285,Pt aN 2),(284,V dS.Node),(280,Pt ab 0),(276, .pointer (some (bw ar (af ((aK.length:Int) - 1)) (aa aw) 0))),(3,Pt aN 0)] ?_
 have j3:aN<dQ:=dR.1 _ (au (i:=5) rfl) _ (by simp [Itm.ids])
 refine aW (v:=V ba.ah) rfl trivial rfl (by show aN<_;omega) (aG (v:=V ba.ah) trivial) (cN.aV (i:=5) rfl (by kernel_rfl)) trivial<|yq 1 [(287,Pt aN 3),(286,V ba.ah),(284,V dS.Node),(280,Pt ab 0),(276, .pointer (some (bw ar (af ((aK.length:Int) - 1)) (aa aw) 0)))] ?_
 have j4:aN<dQ:=dR.1 _ (au (i:=5) rfl) _ (by simp [Itm.ids])
 refine aW (v:=V ba.To) rfl trivial rfl (by show aN<_;omega) (aG (v:=V ba.To) trivial) (cN.aV (i:=5) rfl (by kernel_rfl)) trivial ?_
 obtain ⟨cB,hr,bn⟩:=ai bn
 have cP:St _ _ _ _ _ _ ([.ae ab (aB cX c0 ak cj), .gs ak c3 (aa aj)]++[.ae I [Pt ab 0,v11,V bY, .bool b0,ar,V b1,V b2], .gs v11 b5 (aa av), .gs ar dz (aa aw), .ae aN (eX ba)]):=((cN.front 2 rfl).front 2 rfl)
 obtain ⟨j5,j6,j7,j8,ht,fN,fO,fP,fT,rfl,rfl,hv,hx,hy⟩:=wI F cP.bZ.dW fu fv fw hr
 have c8:=fN.ag
 refine fS rfl trivial cP (cr ht rfl rfl rfl) fN c8 (.a3 (cP.bL 3 rfl bU) (.a3 (cP.bL 3 rfl bU) (.a3 (cP.bL 2 rfl (jS fM)) (.a3 (cP.bL 0 rfl bU) .nil)))) ?_
 intro j9 fU
 refine yq 2 [(291, .pointer (some (bw ar (af ((aK.length:Int) - 1)) (aa aw) 3))),(289,V cB.1)] ?_
 obtain ⟨bH,fV,bn⟩:=ai bn
 obtain ⟨ka,hz,kc,hA⟩:=fU.cv (j:=4) rfl (ck.mono c8) (i:=af ((aK.length:Int) - 1)) fV
 obtain rfl:=eI hz
 have dc:St _ _ _ _ _ _ ([.gs ar dz (aa aw)]++[.ae ab (aB fO fP ak cB.2), .gs ak fT (aa aj), .ae I [Pt ab 0,v11,V bY, .bool b0,ar,V b1,V b2], .gs v11 b5 (aa av), .ae aN (eX ba)]):=(fU.front 4 rfl)
 refine lr rfl trivial dc (gD (u':=(⟨bH.Node,bH.Kind,bH.aI,cB.1,bH.Has⟩:aw)) (vs:=[V cB.1]) (a9:=[V bH.Node,V bH.Kind,V bH.aI,V cB.1, .bool bH.Has]) dc.sub (m:=0) rfl (ck.mono c8) fV hA rfl rfl rfl (by kernel_rfl) rfl rfl rfl rfl) c8 (.a3 (dc.bL 4 rfl bU) (.a3 (dc.bL 4 rfl bU) (.drop (by decide) (.a3 (dc.bL 2 rfl bU) .nil)))) ?_
 rintro ke hB ⟨hC,hD⟩
 refine yf [] ?_
 have hE:=hD.aY
 obtain rfl:=si bn
 exact ⟨_,cB.2,cW,bY,b0,(aK.set (af ((aK.length:Int) - 1)).toNat (⟨bl.Node,bl.Kind,bl.aI,bl.b4,false⟩:aw)).set (af ((aK.length:Int) - 1)).toNat (⟨bH.Node,bH.Kind,bH.aI,cB.1,bH.Has⟩:aw),b1,b2,fO,fP,fT,b5,ar,hB,rfl,hv,hx,hy,(fx.mono c8),hC,(by kernel_rfl),((((((hE.front 0 rfl).front 4 rfl).front 3 rfl).front 3 rfl).front 4 rfl).takeN 5)⟩
 refine sp 1<|db bK ?_ ?_<;>intro kf bK
 refine s0<|aD 3 1 (V a0.Doc) bN rfl<|xn 1<|sq ?_
 obtain ⟨hF,bI,bK⟩:=ai bK
 refine aJ [0,3,5,8] (fun l h=>∃ dV dX b6 b7 dY b8 b9 aU cC cD bp dd aP,(dX,b6,b7,dY,b8,b9,aU,cC)=hF∧RCs (α:=av) dV cD dX∧RCs (α:=aw) dV dd dY∧l=[(0,Pt I 0),(3,Pt aP 0),(5,V ad),(8,V cC)]∧St hs (a2 [.ae I [Pt ab 0,v11,V a0.Doc, .bool a0.aE,J,V a0.aA,V a0.Read], .ae ab (aB v4 v6 ak a0.R), .gs ak az (aa aj), .gs v11 aC (aa av), .gs J aM (aa aw)]) Z (0,0) dV h [.ae ab (aB v4 v6 ak a0.R), .gs ak az (aa aj), .ae I [Pt ab 0,v11,V b6, .bool b7,bp,V b8,V b9], .gs v11 cD (aa av), .gs bp dd (aa aw), .ae aP (eX aU)]) ?_ ?_
 rintro l kg ⟨dV,dX,b6,b7,dY,b8,b9,aU,cC,cD,bp,dd,aP,rfl,hG,hH,rfl,dZ⟩
 try dsimp only at bK
 refine ek wX dZ ?_
 intro de kh df cQ
 refine yq 4 [(223,Pt I 4),(220,Pt I 0),(0,Pt I 0),(3,Pt aP 0),(5,V ad),(8,V cC)] ?_
 have ki:I<de:=df.1 _ (au (i:=2) rfl) _ (by simp [Itm.ids])
 refine aW (v:=bp) rfl trivial rfl (by show I<_;omega) (aG (v:=bp) (cQ.dN (i:=4) rfl)) (cQ.aV (i:=2) rfl (by kernel_rfl)) trivial<|yq 3 [(227,Pt I 0),(224,bp),(220,Pt I 0),(0,Pt I 0),(3,Pt aP 0),(5,V ad),(8,V cC)] ?_
 have kj:I<de:=df.1 _ (au (i:=2) rfl) _ (by simp [Itm.ids])
 refine aW (v:=Pt ab 0) rfl trivial rfl (by show I<_;omega) (aG (v:=Pt ab 0) trivial) (cQ.aV (i:=2) rfl (by kernel_rfl)) trivial<|yq 3 [(231,Pt aP 2),(230,V ad),(229,V cC),(228,Pt ab 0),(224,bp),(220,Pt I 0),(0,Pt I 0),(3,Pt aP 0),(5,V ad)] ?_
 have kk:aP<de:=df.1 _ (au (i:=5) rfl) _ (by simp [Itm.ids])
 refine aW (v:=V aU.ah) rfl trivial rfl (by show aP<_;omega) (aG (v:=V aU.ah) trivial) (cQ.aV (i:=5) rfl (by kernel_rfl)) trivial<|yq 1 [(233,Pt aP 3),(232,V aU.ah),(230,V ad),(229,V cC),(228,Pt ab 0),(224,bp),(220,Pt I 0),(0,Pt I 0),(3,Pt aP 0),(5,V ad)] ?_
 have kl:aP<de:=df.1 _ (au (i:=5) rfl) _ (by simp [Itm.ids])
 refine aW (v:=V aU.To) rfl trivial rfl (by show aP<_;omega) (aG (v:=V aU.To) trivial) (cQ.aV (i:=5) rfl (by kernel_rfl)) trivial ?_
 obtain ⟨bA,hI,bK⟩:=ai bK
 have cE:St _ _ _ _ _ _ ([.ae ab (aB v4 v6 ak a0.R), .gs ak az (aa aj)]++[.ae I [Pt ab 0,v11,V b6, .bool b7,bp,V b8,V b9], .gs v11 cD (aa av), .gs bp dd (aa aw), .ae aP (eX aU)]):=((cQ.front 1 rfl).front 1 rfl)
 obtain ⟨km,kn,hJ,ko,hK,fW,ew,ey,ez,rfl,rfl,hL,hM,hN⟩:=gB F cE.bZ.dW (cd.mono dZ.ag) (cf.mono dZ.ag) (cg.mono dZ.ag) hI
 have dg:=fW.ag
 refine fS rfl trivial cE (cr hK rfl rfl rfl) fW dg (.a3 (cE.bL 3 rfl bU) (.a3 (cE.bL 3 rfl bU) (.a3 (cE.bL 0 rfl bU) (.a3 (cE.bL 0 rfl bU) .nil)))) ?_
 intro kp fX
 refine yq 2 [(237,Pt aP 1),(236,V ad),(235,V bA.1),(224,bp),(220,Pt I 0),(0,Pt I 0),(3,Pt aP 0)] ?_
 have kq:aP<de:=df.1 _ (au (i:=5) rfl) _ (by simp [Itm.ids])
 refine aW (v:=V aU.aI) rfl trivial rfl (by show aP<_;omega) (aG (v:=V aU.aI) trivial) (fX.aV (i:=5) rfl (by kernel_rfl)) (.inl ⟨⟨by show aP<_;omega,cE.bL 3 rfl bU⟩,trivial⟩)<|yq 1 [(239, .agg #[V bA.1,V ad,V aU.aI,V 0, .bool false]),(224,bp),(220,Pt I 0),(0,Pt I 0),(3,Pt aP 0)] ?_
 have hO:RCs (α:=aw) hJ [V bA.1,V ad,V aU.aI,V 0, .bool false] [(⟨bA.1,ad,aU.aI,0,false⟩:aw)]:=RCs.cons (cs:=[V bA.1,V ad,V aU.aI,V 0, .bool false]) rfl (RCs.bq _)
 refine iU rfl trivial (c6 (cells:=[V bA.1,V ad,V aU.aI,V 0, .bool false]) (s:=5) (by kernel_rfl)) (by kernel_rfl) fX (by omega) (Nat.add_lt_add_left (by decide) _) ?_
 intro fY kr ks kt ku gb
 obtain ⟨kv,bK⟩:=aH bK
 have cF:St _ _ _ _ _ _ ([.gs bp dd (aa aw)]++[.gs fY [V bA.1,V ad,V aU.aI,V 0, .bool false] (aa aw), .ae ab (aB ew ey ak bA.2), .gs ak ez (aa aj), .ae I [Pt ab 0,v11,V b6, .bool b7,bp,V b8,V b9], .gs v11 cD (aa av), .ae aP (eX aU)]):=(gb.front 5 rfl)
 refine iC rfl trivial cF (dE (ys:=[(⟨bA.1,ad,aU.aI,0,false⟩:aw)]) (bX:=40) cF.sub (i:=0) rfl (hH.mono dg) ((gb.bZ).eB (j:=0) rfl hO) rfl rfl (by kernel_rfl) (by omega) (by omega)) dg (.a3 (cF.bL 5 rfl bU) (.a3 (cF.bL 5 rfl bU) (.a3 (cF.bL 5 rfl bU) (.a3 (cF.bL 3 rfl bU) (.a3 (cF.bL 3 rfl bU) .nil))))) ?_
 rintro cR gd kx ⟨hQ,eA⟩
 refine yq 2 [(243,Pt I 4),(241,cR),(0,Pt I 0),(3,Pt aP 0)] ?_
 have dh:St _ _ _ _ _ _ ([.ae I [Pt ab 0,v11,V b6, .bool b7,bp,V b8,V b9]]++[.gs cR gd (aa aw), .gs fY [V bA.1,V ad,V aU.aI,V 0, .bool false] (aa aw), .ae ab (aB ew ey ak bA.2), .gs ak ez (aa aj), .gs v11 cD (aa av), .ae aP (eX aU)]):=(eA.front 4 rfl)
 refine gu rfl trivial dh (gg (vs:=[cR]) (cO:=[Pt ab 0,v11,V b6, .bool b7,cR,V b8,V b9]) (L':=[.ae I [Pt ab 0,v11,V b6, .bool b7,cR,V b8,V b9]]) dh.sub (i:=0) rfl rfl rfl (eA.fQ (i:=0) rfl) (by kernel_rfl) (bz (eA.fR (i:=0) rfl) cz) rfl rfl rfl) dg (.a3 (dh.bL 5 rfl bU) (.a3 (dh.bL 5 rfl bU) (.a3 (dh.bL 5 rfl bU) (.drop (by decide) (.drop (by decide) .nil))))) ?_
 intro ky hR
 refine yf [(0,Pt I 0),(3,Pt aP 0)] ?_
 have hT:=hR.aY
 obtain rfl:=si bK
 exact ⟨_,bA.2,dX,b6,b7,dY++[(⟨bA.1,ad,aU.aI,0,false⟩:aw)],b8,b9,aU,ew,ey,ez,cD,cR,gd,aP,rfl,hL,hM,hN,(hG.mono dg),hQ,(by kernel_rfl),(((((((hT.front 6 rfl).front 2 rfl).front 6 rfl).front 6 rfl).front 6 rfl).front 5 rfl).takeN 6)⟩
 refine s0<|cS 1 bI ?_ ?_<;>intro kz bI
 refine xn 0<|dT<|s0<|aD 3 1 bM bN rfl<|eV 1 0 bI bN cu rfl ?_
 intro kA bI
 refine fZ 1 3 0 (fun ea=>V ea.b4) bI bN cu rfl ?_
 intro ea kB bI
 refine xn 1<|rg BO<|aD 3 1 bM bN rfl<|eV 1 0 bI bN cu rfl ?_
 intro kC bI
 refine xq 1 [(216, .pointer (some (bw bM bo (aa aw) 4))),(8,V ea.b4),(0,Pt I 0),(3,Pt bW 0),(5,V ad)] ?_
 obtain ⟨bJ,gf,bI⟩:=ai bI
 obtain ⟨kD,hU,kE,hV⟩:=bN.cv (j:=0) rfl cu (i:=bo) gf
 obtain rfl:=eI hU
 refine mg rfl trivial (gD (u':=(⟨bJ.Node,bJ.Kind,bJ.aI,bJ.b4,true⟩:aw)) (vs:=[.bool true]) (a9:=[V bJ.Node,V bJ.Kind,V bJ.aI,V bJ.b4, .bool true]) bN (m:=0) rfl cu gf hV rfl rfl rfl (by kernel_rfl) rfl rfl rfl rfl) ?_
 rintro kF hW ⟨hX,hY⟩
 refine xn 0 ?_
 obtain rfl:=si bI
 exact ⟨_,a0.Rows,a0.Doc,a0.aE,(([]:List aw)++((a0.S.take (af (bo+1)).toNat).drop (0:Int).toNat)).set bo.toNat (⟨bJ.Node,bJ.Kind,bJ.aI,bJ.b4,true⟩:aw),a0.aA,a0.Read,cJ,ea.b4,aC,bM,hW,bW,rfl,(bQ.mono (ch.ag.trans ct)),hX,(by kernel_rfl),((((((hY.front 5 rfl).front 1 rfl).front 5 rfl).front 3 rfl).front 5 rfl).front 5 rfl)⟩
 refine xn 0<|dF<|g0<|bG 3 1 (.bool true) [.bool true] [Pt ab 0,v11,V a0.Doc, .bool true,bM,V a0.aA,V a0.Read] bN rfl rfl rfl ?_
 intro kG hZ
 refine xn 0 ?_
 obtain rfl:=si bI
 exact ⟨_,a0.Rows,a0.Doc,true,([]:List aw)++((a0.S.take (af (bo+1)).toNat).drop (0:Int).toNat),a0.aA,a0.Read,cJ,a0.Doc,aC,bM,ft,bW,rfl,(bQ.mono (ch.ag.trans ct)),cu,(by kernel_rfl),((((((hZ.front 5 rfl).front 1 rfl).front 5 rfl).front 3 rfl).front 5 rfl).front 5 rfl)⟩
 refine sk ?_
 obtain rfl:=si bK
 exact ⟨_,a0.R,a0.Rows,a0.Doc,a0.aE,([]:List aw)++((a0.S.take (af (bo+1)).toNat).drop (0:Int).toNat),a0.aA,a0.Read,cJ,v4,v6,az,aC,bM,ft,bW,rfl,(cd.mono (ch.ag.trans ct)),(cf.mono (ch.ag.trans ct)),(cg.mono (ch.ag.trans ct)),(bQ.mono (ch.ag.trans ct)),cu,(by kernel_rfl),((((((bN.front 5 rfl).front 1 rfl).front 5 rfl).front 5 rfl).front 5 rfl).front 5 rfl)⟩
 refine s0<|kb 2 174 cq ?_ ?_<;>intro kH cq
 refine aD 5 0 (V a0.aA) bV rfl<|cZ 0 cq ?_ ?_<;>intro kI cq
 refine xn 1<|dT<|sp 1<|rt<|⟨rfl,?_⟩
 obtain rfl:=si cq
 obtain rfl:=si hm
 refine ⟨_,_,_,tk (V 10) (ResL.nil),(bV.takeN 5),?_⟩
 exact ⟨v4,v6,az,aC,J,aM,rfl,rfl,(cd.mono bV.ag),(cf.mono bV.ag),(cg.mono bV.ag),(bQ.mono bV.ag),(ay.mono bV.ag)⟩
 refine xn 1<|dF<|sk ?_
 obtain rfl:=si cq
 exact ⟨_,cT,cU,rfl,(by kernel_rfl),bV⟩
 refine xn 8<|dF<|sk ?_
 obtain rfl:=si cq
 exact ⟨_,cT,cU,rfl,(by kernel_rfl),bV⟩
 refine bk 2<|sq ?_
 obtain ⟨h2,a6,ao⟩:=ai ao
 refine aJ [0,3,5,6,7,35] (fun l h=>∃ gh bO eC a8,(bO,eC)=h2∧l=[(0,Pt I 0),(3,Pt a8 0),(5,V ad),(6,V U),(7, .bool true),(35, .bool eC)]∧St hs (a2 [.ae I [Pt ab 0,v11,V a0.Doc, .bool a0.aE,J,V a0.aA,V a0.Read], .ae ab (aB v4 v6 ak a0.R), .gs ak az (aa aj), .gs v11 aC (aa av), .gs J aM (aa aw)]) Z (0,0) gh h [.ae I [Pt ab 0,v11,V a0.Doc, .bool a0.aE,J,V a0.aA,V a0.Read], .ae ab (aB v4 v6 ak a0.R), .gs ak az (aa aj), .gs v11 aC (aa av), .gs J aM (aa aw), .ae a8 (eX bO)]) ?_ ?_
 rintro l kJ ⟨gh,bO,eC,a8,rfl,rfl,di⟩
 try dsimp only at ao
 refine db ao ?_ ?_<;>intro kK ao
 refine gp 1 ?_
 obtain rfl:=si ao
 exact ⟨_,bO,U,false,a8,rfl,(by kernel_rfl),di⟩
 refine sq ?_
 obtain ⟨h3,bg,ao⟩:=ai ao
 refine aJ [0,3,5,6,7,63] (fun l h=>∃ gi bB eD aL,(bB,eD)=h3∧l=[(0,Pt I 0),(3,Pt aL 0),(5,V ad),(6,V U),(7, .bool true),(63, .bool eD)]∧St hs (a2 [.ae I [Pt ab 0,v11,V a0.Doc, .bool a0.aE,J,V a0.aA,V a0.Read], .ae ab (aB v4 v6 ak a0.R), .gs ak az (aa aj), .gs v11 aC (aa av), .gs J aM (aa aw)]) Z (0,0) gi h [.ae I [Pt ab 0,v11,V a0.Doc, .bool a0.aE,J,V a0.aA,V a0.Read], .ae ab (aB v4 v6 ak a0.R), .gs ak az (aa aj), .gs v11 aC (aa av), .gs J aM (aa aw), .ae aL (eX bB)]) ?_ ?_
 rintro l kL ⟨gi,bB,eD,aL,rfl,rfl,aX⟩
 try dsimp only at ao
 refine db ao ?_ ?_<;>intro kM ao
 refine s0<|aD 3 0 J aX rfl<|eV 1 4 ao aX (ay.mono aX.ag) rfl ?_
 intro kN ao
 refine fZ 1 4 4 (fun gj=> .bool gj.Has) ao aX (ay.mono aX.ag) rfl ?_
 intro gj kO ao
 refine xn 0<|db ao ?_ ?_<;>intro kP ao
 refine sp 1<|rt<|bj<|⟨rfl,?_⟩
 obtain rfl:=si ao
 obtain rfl:=si hm
 refine ⟨_,_,_,tk (V 5) (ResL.nil),(aX.takeN 5),?_⟩
 exact ⟨v4,v6,az,aC,J,aM,rfl,rfl,(cd.mono aX.ag),(cf.mono aX.ag),(cg.mono aX.ag),(bQ.mono aX.ag),(ay.mono aX.ag)⟩
 refine sk ?_
 obtain rfl:=si ao
 exact ⟨_,bB,U,true,aL,rfl,(by kernel_rfl),aX⟩
 refine sq ?_
 obtain ⟨h4,aO,ao⟩:=ai ao
 refine aJ [0,3,5,6,7,91] (fun l h=>∃ gk ca eE bb,(ca,eE)=h4∧l=[(0,Pt I 0),(3,Pt bb 0),(5,V ad),(6,V U),(7, .bool true),(91, .bool eE)]∧St hs (a2 [.ae I [Pt ab 0,v11,V a0.Doc, .bool a0.aE,J,V a0.aA,V a0.Read], .ae ab (aB v4 v6 ak a0.R), .gs ak az (aa aj), .gs v11 aC (aa av), .gs J aM (aa aw)]) Z (0,0) gk h [.ae I [Pt ab 0,v11,V a0.Doc, .bool a0.aE,J,V a0.aA,V a0.Read], .ae ab (aB v4 v6 ak a0.R), .gs ak az (aa aj), .gs v11 aC (aa av), .gs J aM (aa aw), .ae bb (eX ca)]) ?_ ?_
 rintro l kQ ⟨gk,ca,eE,bb,rfl,rfl,dj⟩
 try dsimp only at ao
 refine db ao ?_ ?_<;>intro kR ao
 refine sp 3<|gp 1 ?_
 obtain rfl:=si ao
 exact ⟨_,ca,af (U - 1),false,bb,rfl,(by kernel_rfl),dj⟩
 refine sq ?_
 obtain ⟨h5,bD,ao⟩:=ai ao
 refine aJ [0,3,5,6,7,135] (fun l h=>∃ gl cG eF cH,(cG,eF)=h5∧l=[(0,Pt I 0),(3,Pt cH 0),(5,V ad),(6,V U),(7, .bool true),(135, .bool eF)]∧St hs (a2 [.ae I [Pt ab 0,v11,V a0.Doc, .bool a0.aE,J,V a0.aA,V a0.Read], .ae ab (aB v4 v6 ak a0.R), .gs ak az (aa aj), .gs v11 aC (aa av), .gs J aM (aa aw)]) Z (0,0) gl h [.ae I [Pt ab 0,v11,V a0.Doc, .bool a0.aE,J,V a0.aA,V a0.Read], .ae ab (aB v4 v6 ak a0.R), .gs ak az (aa aj), .gs v11 aC (aa av), .gs J aM (aa aw), .ae cH (eX cG)]) ?_ ?_
 rintro l kS ⟨gl,cG,eF,cH,rfl,rfl,ax⟩
 try dsimp only at ao
 refine db ao ?_ ?_<;>intro kT ao
 refine sp 1<|rt<|bj<|⟨rfl,?_⟩
 obtain rfl:=si ao
 obtain rfl:=si hm
 refine ⟨_,_,_,tk (V 5) (ResL.nil),(ax.takeN 5),?_⟩
 exact ⟨v4,v6,az,aC,J,aM,rfl,rfl,(cd.mono ax.ag),(cf.mono ax.ag),(cg.mono ax.ag),(bQ.mono ax.ag),(ay.mono ax.ag)⟩
 refine s0<|aT 1 ao ?_ ?_<;>intro kU ao
 refine aD 4 0 (.bool a0.aE) ax rfl<|xn 2<|db ao ?_ ?_<;>intro kV ao
 refine sp 1<|rt<|bj<|⟨rfl,?_⟩
 obtain rfl:=si ao
 obtain rfl:=si hm
 refine ⟨_,_,_,tk (V 7) (ResL.nil),(ax.takeN 5),?_⟩
 exact ⟨v4,v6,az,aC,J,aM,rfl,rfl,(cd.mono ax.ag),(cf.mono ax.ag),(cg.mono ax.ag),(bQ.mono ax.ag),(ay.mono ax.ag)⟩
 refine s0<|cS 1 ao ?_ ?_<;>intro kW ao
 refine aD 4 0 J ax rfl<|eV 1 4 ao ax (ay.mono ax.ag) rfl ?_
 intro kX ao
 refine fZ 1 4 4 (fun gm=> .bool gm.Has) ao ax (ay.mono ax.ag) rfl ?_
 intro gm kY ao
 refine xn 2<|db ao ?_ ?_<;>intro kZ ao
 refine sp 1<|rt<|bj<|⟨rfl,?_⟩
 obtain rfl:=si ao
 obtain rfl:=si hm
 refine ⟨_,_,_,tk (V 6) (ResL.nil),(ax.takeN 5),?_⟩
 exact ⟨v4,v6,az,aC,J,aM,rfl,rfl,(cd.mono ax.ag),(cf.mono ax.ag),(cg.mono ax.ag),(bQ.mono ax.ag),(ay.mono ax.ag)⟩
 refine sk ?_
 obtain rfl:=si ao
 exact ⟨_,cG,U,true,cH,rfl,(by kernel_rfl),ax⟩
 refine xn 11<|dF<|sk ?_
 obtain rfl:=si ao
 exact ⟨_,cG,U,true,cH,rfl,(by kernel_rfl),ax⟩
 refine xn 7<|dF<|s0<|cS 1 ao ?_ ?_<;>intro k0 ao
 refine aD 4 0 J ax rfl<|eV 1 4 ao ax (ay.mono ax.ag) rfl ?_
 intro k1 ao
 refine fZ 1 4 4 (fun gn=> .bool gn.Has) ao ax (ay.mono ax.ag) rfl ?_
 intro gn k2 ao
 refine xn 2<|db ao ?_ ?_<;>intro k3 ao
 refine sp 1<|rt<|bj<|⟨rfl,?_⟩
 obtain rfl:=si ao
 obtain rfl:=si hm
 refine ⟨_,_,_,tk (V 6) (ResL.nil),(ax.takeN 5),?_⟩
 exact ⟨v4,v6,az,aC,J,aM,rfl,rfl,(cd.mono ax.ag),(cf.mono ax.ag),(cg.mono ax.ag),(bQ.mono ax.ag),(ay.mono ax.ag)⟩
 refine sk ?_
 obtain rfl:=si ao
 exact ⟨_,cG,U,true,cH,rfl,(by kernel_rfl),ax⟩
 refine xn 11<|dF<|sk ?_
 obtain rfl:=si ao
 exact ⟨_,cG,U,true,cH,rfl,(by kernel_rfl),ax⟩
 refine ek Cd dj ?_
 intro eG k4 eH cb
 refine yq 1 [(136,V U),(0,Pt I 0),(3,Pt bb 0),(5,V ad),(6,V U),(7, .bool true)] ?_
 rcases ifs bD with ⟨eJ,bD⟩ | ⟨eJ,bD⟩
 refine aF rfl trivial (bm rfl rfl (jH eJ))<|yq 4 [(141,Pt I 4),(138, .bool true),(0,Pt I 0),(3,Pt bb 0),(5,V ad),(6,V U),(7, .bool true)] ?_
 have k5:I<eG:=eH.1 _ (au (i:=0) rfl) _ (by simp [Itm.ids])
 refine aW (v:=J) rfl rfl rfl (by show I<_;omega) (aG (v:=J) (cb.dN (i:=4) rfl)) (cb.aV (i:=0) rfl (by kernel_rfl)) trivial<|yq 1 [(143,V U),(142,J),(138, .bool true),(0,Pt I 0),(3,Pt bb 0),(5,V ad),(6,V U),(7, .bool true)] ?_
 obtain ⟨gq,bD⟩:=aH bD
 refine aF rfl rfl (bx rfl rfl (by kernel_rfl:slTy _ _=some (aa aw)) (cb.bR (j:=4) rfl (ay.mono dj.ag) (by omega)) gq.1 gq.2)<|yq 1 [(145, .pointer (some (bw J U (aa aw) 2))),(138, .bool true),(0,Pt I 0),(3,Pt bb 0),(5,V ad),(6,V U),(7, .bool true)] ?_
 obtain ⟨eK,gr,bD⟩:=ai bD
 obtain ⟨k6,h6,h8,k7⟩:=cb.cv (j:=4) rfl (ay.mono dj.ag) (i:=U) gr
 obtain rfl:=eI h6
 have h9:=dw gr
 have ia:=cb.bR (j:=4) rfl (ay.mono dj.ag) h9
 have k8:(baseOf J).block<eG:=dD (eH.1 _ (au (i:=4) rfl)) ia
 refine dy rfl rfl rfl (by show (baseOf J).block<_;omega) (aG (v:=V eK.aI) trivial) (bE (w:=V eK.aI) h8 rfl (by kernel_rfl)) trivial<|yq 1 [(147,Pt bb 1),(146,V eK.aI),(138, .bool true),(0,Pt I 0),(3,Pt bb 0),(5,V ad),(6,V U),(7, .bool true)] ?_
 have k9:bb<eG:=eH.1 _ (au (i:=5) rfl) _ (by simp [Itm.ids])
 refine aW (v:=V ca.aI) rfl rfl rfl (by show bb<_;omega) (aG (v:=V ca.aI) trivial) (cb.aV (i:=5) rfl (by kernel_rfl)) trivial ?_
 rcases ifs bD with ⟨eL,bD⟩ | ⟨eL,bD⟩
 refine aF rfl rfl (bm rfl rfl (fm eL))<|ye 2 [(135, .bool true),(0,Pt I 0),(3,Pt bb 0),(5,V ad),(6,V U),(7, .bool true)] ?_
 have ib:=cb.aY
 obtain rfl:=si bD
 exact ⟨_,ca,true,bb,rfl,(by kernel_rfl),ib⟩
 refine aF rfl rfl (bm rfl rfl (fg eL))<|ye 2 [(135, .bool false),(0,Pt I 0),(3,Pt bb 0),(5,V ad),(6,V U),(7, .bool true)] ?_
 have ic:=cb.aY
 obtain rfl:=si bD
 exact ⟨_,ca,false,bb,rfl,(by kernel_rfl),ic⟩
 refine aF rfl trivial (bm rfl rfl (jA eJ))<|ye 14 [(135, .bool false),(0,Pt I 0),(3,Pt bb 0),(5,V ad),(6,V U),(7, .bool true)] ?_
 have ie:=cb.aY
 obtain rfl:=si bD
 exact ⟨_,ca,false,bb,rfl,(by kernel_rfl),ie⟩
 refine ek GB aX ?_
 intro cl la cm aZ
 refine yq 1 [(92,V U),(0,Pt I 0),(3,Pt aL 0),(5,V ad),(6,V U),(7, .bool true)] ?_
 rcases ifs aO with ⟨eM,aO⟩ | ⟨eM,aO⟩
 refine aF rfl trivial (bm rfl rfl (lO eM))<|yq 4 [(97,Pt I 4),(94, .bool true),(0,Pt I 0),(3,Pt aL 0),(5,V ad),(6,V U),(7, .bool true)] ?_
 have lb:I<cl:=cm.1 _ (au (i:=0) rfl) _ (by simp [Itm.ids])
 refine aW (v:=J) rfl rfl rfl (by show I<_;omega) (aG (v:=J) (aZ.dN (i:=4) rfl)) (aZ.aV (i:=0) rfl (by kernel_rfl)) trivial<|yq 1 [(99,V U),(98,J),(94, .bool true),(0,Pt I 0),(3,Pt aL 0),(5,V ad),(6,V U),(7, .bool true)] ?_
 obtain ⟨gv,aO⟩:=aH aO
 refine aF rfl rfl (bx rfl rfl (by kernel_rfl:slTy _ _=some (aa aw)) (aZ.bR (j:=4) rfl (ay.mono aX.ag) (by omega)) gv.1 gv.2)<|yq 1 [(101, .pointer (some (bw J U (aa aw) 2))),(94, .bool true),(0,Pt I 0),(3,Pt aL 0),(5,V ad),(6,V U),(7, .bool true)] ?_
 obtain ⟨eN,gw,aO⟩:=ai aO
 obtain ⟨ld,ig,ij,lf⟩:=aZ.cv (j:=4) rfl (ay.mono aX.ag) (i:=U) gw
 obtain rfl:=eI ig
 have ik:=dw gw
 have il:=aZ.bR (j:=4) rfl (ay.mono aX.ag) ik
 have lg:(baseOf J).block<cl:=dD (cm.1 _ (au (i:=4) rfl)) il
 refine dy rfl rfl rfl (by show (baseOf J).block<_;omega) (aG (v:=V eN.aI) trivial) (bE (w:=V eN.aI) ij rfl (by kernel_rfl)) trivial<|yq 1 [(103,Pt aL 1),(102,V eN.aI),(94, .bool true),(0,Pt I 0),(3,Pt aL 0),(5,V ad),(6,V U),(7, .bool true)] ?_
 have lh:aL<cl:=cm.1 _ (au (i:=5) rfl) _ (by simp [Itm.ids])
 refine aW (v:=V bB.aI) rfl rfl rfl (by show aL<_;omega) (aG (v:=V bB.aI) trivial) (aZ.aV (i:=5) rfl (by kernel_rfl)) trivial ?_
 rcases ifs aO with ⟨eO,aO⟩ | ⟨eO,aO⟩
 refine aF rfl rfl (bm rfl rfl (fm eO))<|yq 5 [(110,Pt I 4),(107, .bool true),(0,Pt I 0),(3,Pt aL 0),(5,V ad),(6,V U),(7, .bool true)] ?_
 have lj:I<cl:=cm.1 _ (au (i:=0) rfl) _ (by simp [Itm.ids])
 refine aW (v:=J) rfl rfl rfl (by show I<_;omega) (aG (v:=J) (aZ.dN (i:=4) rfl)) (aZ.aV (i:=0) rfl (by kernel_rfl)) trivial<|yq 2 [(113,V (af (U - 1))),(111,J),(107, .bool true),(0,Pt I 0),(3,Pt aL 0),(5,V ad),(6,V U),(7, .bool true)] ?_
 obtain ⟨gx,aO⟩:=aH aO
 refine aF rfl rfl (bx rfl rfl (by kernel_rfl:slTy _ _=some (aa aw)) (aZ.bR (j:=4) rfl (ay.mono aX.ag) (by omega)) gx.1 gx.2)<|yq 1 [(115, .pointer (some (bw J (af (U - 1)) (aa aw) 2))),(107, .bool true),(0,Pt I 0),(3,Pt aL 0),(5,V ad),(6,V U),(7, .bool true)] ?_
 obtain ⟨eP,gy,aO⟩:=ai aO
 obtain ⟨ll,im,iq,ln⟩:=aZ.cv (j:=4) rfl (ay.mono aX.ag) (i:=af (U - 1)) gy
 obtain rfl:=eI im
 have ir:=dw gy
 have iu:=aZ.bR (j:=4) rfl (ay.mono aX.ag) ir
 have lo:(baseOf J).block<cl:=dD (cm.1 _ (au (i:=4) rfl)) iu
 refine dy rfl rfl rfl (by show (baseOf J).block<_;omega) (aG (v:=V eP.aI) trivial) (bE (w:=V eP.aI) iq rfl (by kernel_rfl)) trivial<|yq 1 [(117,Pt aL 1),(116,V eP.aI),(107, .bool true),(0,Pt I 0),(3,Pt aL 0),(5,V ad),(6,V U),(7, .bool true)] ?_
 have lq:aL<cl:=cm.1 _ (au (i:=5) rfl) _ (by simp [Itm.ids])
 refine aW (v:=V bB.aI) rfl rfl rfl (by show aL<_;omega) (aG (v:=V bB.aI) trivial) (aZ.aV (i:=5) rfl (by kernel_rfl)) trivial ?_
 rcases ifs aO with ⟨eQ,aO⟩ | ⟨eQ,aO⟩
 refine aF rfl rfl (bm rfl rfl (fm eQ))<|yq 5 [(124,Pt I 4),(121, .bool true),(0,Pt I 0),(3,Pt aL 0),(5,V ad),(6,V U),(7, .bool true)] ?_
 have lu:I<cl:=cm.1 _ (au (i:=0) rfl) _ (by simp [Itm.ids])
 refine aW (v:=J) rfl rfl rfl (by show I<_;omega) (aG (v:=J) (aZ.dN (i:=4) rfl)) (aZ.aV (i:=0) rfl (by kernel_rfl)) trivial<|yq 2 [(127,V (af (U - 1))),(125,J),(121, .bool true),(0,Pt I 0),(3,Pt aL 0),(5,V ad),(6,V U),(7, .bool true)] ?_
 obtain ⟨gz,aO⟩:=aH aO
 refine aF rfl rfl (bx rfl rfl (by kernel_rfl:slTy _ _=some (aa aw)) (aZ.bR (j:=4) rfl (ay.mono aX.ag) (by omega)) gz.1 gz.2)<|yq 1 [(129, .pointer (some (bw J (af (U - 1)) (aa aw) 1))),(121, .bool true),(0,Pt I 0),(3,Pt aL 0),(5,V ad),(6,V U),(7, .bool true)] ?_
 obtain ⟨gA,gC,aO⟩:=ai aO
 obtain ⟨lv,iv,iw,lx⟩:=aZ.cv (j:=4) rfl (ay.mono aX.ag) (i:=af (U - 1)) gC
 obtain rfl:=eI iv
 have ix:=dw gC
 have iy:=aZ.bR (j:=4) rfl (ay.mono aX.ag) ix
 have ly:(baseOf J).block<cl:=dD (cm.1 _ (au (i:=4) rfl)) iy
 refine dy rfl rfl rfl (by show (baseOf J).block<_;omega) (aG (v:=V gA.Kind) trivial) (bE (w:=V gA.Kind) iw rfl (by kernel_rfl)) trivial ?_
 rcases ifs aO with ⟨eR,aO⟩ | ⟨eR,aO⟩
 refine aF rfl rfl (bm rfl rfl (fm eR))<|ye 2 [(91, .bool true),(0,Pt I 0),(3,Pt aL 0),(5,V ad),(6,V U),(7, .bool true)] ?_
 have iz:=aZ.aY
 obtain rfl:=si aO
 exact ⟨_,bB,true,aL,rfl,(by kernel_rfl),iz⟩
 refine aF rfl rfl (bm rfl rfl (fg eR))<|ye 2 [(91, .bool false),(0,Pt I 0),(3,Pt aL 0),(5,V ad),(6,V U),(7, .bool true)] ?_
 have iA:=aZ.aY
 obtain rfl:=si aO
 exact ⟨_,bB,false,aL,rfl,(by kernel_rfl),iA⟩
 refine aF rfl rfl (bm rfl rfl (fg eQ))<|ye 14 [(91, .bool false),(0,Pt I 0),(3,Pt aL 0),(5,V ad),(6,V U),(7, .bool true)] ?_
 have iB:=aZ.aY
 obtain rfl:=si aO
 exact ⟨_,bB,false,aL,rfl,(by kernel_rfl),iB⟩
 refine aF rfl rfl (bm rfl rfl (fg eO))<|ye 28 [(91, .bool false),(0,Pt I 0),(3,Pt aL 0),(5,V ad),(6,V U),(7, .bool true)] ?_
 have iD:=aZ.aY
 obtain rfl:=si aO
 exact ⟨_,bB,false,aL,rfl,(by kernel_rfl),iD⟩
 refine aF rfl trivial (bm rfl rfl (lR eM))<|ye 40 [(91, .bool false),(0,Pt I 0),(3,Pt aL 0),(5,V ad),(6,V U),(7, .bool true)] ?_
 have iE:=aZ.aY
 obtain rfl:=si aO
 exact ⟨_,bB,false,aL,rfl,(by kernel_rfl),iE⟩
 refine ek xw di ?_
 intro eS lz eT bP
 refine yq 1 [(64,V U),(0,Pt I 0),(3,Pt a8 0),(5,V ad),(6,V U),(7, .bool true)] ?_
 rcases ifs bg with ⟨eU,bg⟩ | ⟨eU,bg⟩
 refine aF rfl trivial (bm rfl rfl (jH eU))<|yq 4 [(69,Pt I 4),(66, .bool true),(0,Pt I 0),(3,Pt a8 0),(5,V ad),(6,V U),(7, .bool true)] ?_
 have lA:I<eS:=eT.1 _ (au (i:=0) rfl) _ (by simp [Itm.ids])
 refine aW (v:=J) rfl rfl rfl (by show I<_;omega) (aG (v:=J) (bP.dN (i:=4) rfl)) (bP.aV (i:=0) rfl (by kernel_rfl)) trivial<|yq 1 [(71,V U),(70,J),(66, .bool true),(0,Pt I 0),(3,Pt a8 0),(5,V ad),(6,V U),(7, .bool true)] ?_
 obtain ⟨gE,bg⟩:=aH bg
 refine aF rfl rfl (bx rfl rfl (by kernel_rfl:slTy _ _=some (aa aw)) (bP.bR (j:=4) rfl (ay.mono di.ag) (by omega)) gE.1 gE.2)<|yq 1 [(73, .pointer (some (bw J U (aa aw) 2))),(66, .bool true),(0,Pt I 0),(3,Pt a8 0),(5,V ad),(6,V U),(7, .bool true)] ?_
 obtain ⟨eW,gF,bg⟩:=ai bg
 obtain ⟨lB,iF,iG,lC⟩:=bP.cv (j:=4) rfl (ay.mono di.ag) (i:=U) gF
 obtain rfl:=eI iF
 have iH:=dw gF
 have iI:=bP.bR (j:=4) rfl (ay.mono di.ag) iH
 have lD:(baseOf J).block<eS:=dD (eT.1 _ (au (i:=4) rfl)) iI
 refine dy rfl rfl rfl (by show (baseOf J).block<_;omega) (aG (v:=V eW.aI) trivial) (bE (w:=V eW.aI) iG rfl (by kernel_rfl)) trivial<|yq 1 [(75,Pt a8 1),(74,V eW.aI),(66, .bool true),(0,Pt I 0),(3,Pt a8 0),(5,V ad),(6,V U),(7, .bool true)] ?_
 have lE:a8<eS:=eT.1 _ (au (i:=5) rfl) _ (by simp [Itm.ids])
 refine aW (v:=V bO.aI) rfl rfl rfl (by show a8<_;omega) (aG (v:=V bO.aI) trivial) (bP.aV (i:=5) rfl (by kernel_rfl)) trivial ?_
 rcases ifs bg with ⟨eY,bg⟩ | ⟨eY,bg⟩
 refine aF rfl rfl (bm rfl rfl (fm eY))<|yq 3 [(80,V ad),(79, .bool true),(0,Pt I 0),(3,Pt a8 0),(5,V ad),(6,V U),(7, .bool true)] ?_
 rcases ifs bg with ⟨e0,bg⟩ | ⟨e0,bg⟩
 refine aF rfl rfl (bm rfl rfl (fm e0))<|ye 2 [(63, .bool true),(0,Pt I 0),(3,Pt a8 0),(5,V ad),(6,V U),(7, .bool true)] ?_
 have iJ:=bP.aY
 obtain rfl:=si bg
 exact ⟨_,bO,true,a8,rfl,(by kernel_rfl),iJ⟩
 refine aF rfl rfl (bm rfl rfl (fg e0))<|ye 2 [(63, .bool false),(0,Pt I 0),(3,Pt a8 0),(5,V ad),(6,V U),(7, .bool true)] ?_
 have iK:=bP.aY
 obtain rfl:=si bg
 exact ⟨_,bO,false,a8,rfl,(by kernel_rfl),iK⟩
 refine aF rfl rfl (bm rfl rfl (fg eY))<|ye 6 [(63, .bool false),(0,Pt I 0),(3,Pt a8 0),(5,V ad),(6,V U),(7, .bool true)] ?_
 have iL:=bP.aY
 obtain rfl:=si bg
 exact ⟨_,bO,false,a8,rfl,(by kernel_rfl),iL⟩
 refine aF rfl trivial (bm rfl rfl (jA eU))<|ye 18 [(63, .bool false),(0,Pt I 0),(3,Pt a8 0),(5,V ad),(6,V U),(7, .bool true)] ?_
 have iN:=bP.aY
 obtain rfl:=si bg
 exact ⟨_,bO,false,a8,rfl,(by kernel_rfl),iN⟩
 refine ek Ee cp ?_
 intro dm lF dn bt
 refine yq 1 [(36,V U),(7, .bool true),(0,Pt I 0),(3,Pt aQ 0),(5,V ad),(6,V U)] ?_
 rcases ifs a6 with ⟨e2,a6⟩ | ⟨e2,a6⟩
 refine aF rfl trivial (bm rfl rfl (jH e2))<|yq 4 [(41,Pt I 4),(38, .bool true),(7, .bool true),(0,Pt I 0),(3,Pt aQ 0),(5,V ad),(6,V U)] ?_
 have lG:I<dm:=dn.1 _ (au (i:=0) rfl) _ (by simp [Itm.ids])
 refine aW (v:=J) rfl rfl rfl (by show I<_;omega) (aG (v:=J) (bt.dN (i:=4) rfl)) (bt.aV (i:=0) rfl (by kernel_rfl)) trivial<|yq 1 [(43,V U),(42,J),(38, .bool true),(7, .bool true),(0,Pt I 0),(3,Pt aQ 0),(5,V ad),(6,V U)] ?_
 obtain ⟨gG,a6⟩:=aH a6
 refine aF rfl rfl (bx rfl rfl (by kernel_rfl:slTy _ _=some (aa aw)) (bt.bR (j:=4) rfl (ay.mono cp.ag) (by omega)) gG.1 gG.2)<|yq 1 [(45, .pointer (some (bw J U (aa aw) 2))),(38, .bool true),(7, .bool true),(0,Pt I 0),(3,Pt aQ 0),(5,V ad),(6,V U)] ?_
 obtain ⟨e3,gH,a6⟩:=ai a6
 obtain ⟨lH,iO,iP,lI⟩:=bt.cv (j:=4) rfl (ay.mono cp.ag) (i:=U) gH
 obtain rfl:=eI iO
 have iQ:=dw gH
 have iR:=bt.bR (j:=4) rfl (ay.mono cp.ag) iQ
 have lJ:(baseOf J).block<dm:=dD (dn.1 _ (au (i:=4) rfl)) iR
 refine dy rfl rfl rfl (by show (baseOf J).block<_;omega) (aG (v:=V e3.aI) trivial) (bE (w:=V e3.aI) iP rfl (by kernel_rfl)) trivial<|yq 1 [(47,Pt aQ 1),(46,V e3.aI),(38, .bool true),(7, .bool true),(0,Pt I 0),(3,Pt aQ 0),(5,V ad),(6,V U)] ?_
 have lK:aQ<dm:=dn.1 _ (au (i:=5) rfl) _ (by simp [Itm.ids])
 refine aW (v:=V bT.aI) rfl rfl rfl (by show aQ<_;omega) (aG (v:=V bT.aI) trivial) (bt.aV (i:=5) rfl (by kernel_rfl)) trivial ?_
 rcases ifs a6 with ⟨e4,a6⟩ | ⟨e4,a6⟩
 refine aF rfl rfl (bm rfl rfl (fm e4))<|yq 5 [(54,Pt I 4),(51, .bool true),(7, .bool true),(0,Pt I 0),(3,Pt aQ 0),(5,V ad),(6,V U)] ?_
 have lL:I<dm:=dn.1 _ (au (i:=0) rfl) _ (by simp [Itm.ids])
 refine aW (v:=J) rfl rfl rfl (by show I<_;omega) (aG (v:=J) (bt.dN (i:=4) rfl)) (bt.aV (i:=0) rfl (by kernel_rfl)) trivial<|yq 1 [(56,V U),(55,J),(51, .bool true),(7, .bool true),(0,Pt I 0),(3,Pt aQ 0),(5,V ad),(6,V U)] ?_
 obtain ⟨gI,a6⟩:=aH a6
 refine aF rfl rfl (bx rfl rfl (by kernel_rfl:slTy _ _=some (aa aw)) (bt.bR (j:=4) rfl (ay.mono cp.ag) (by omega)) gI.1 gI.2)<|yq 1 [(58, .pointer (some (bw J U (aa aw) 1))),(51, .bool true),(7, .bool true),(0,Pt I 0),(3,Pt aQ 0),(5,V ad),(6,V U)] ?_
 obtain ⟨e5,gJ,a6⟩:=ai a6
 obtain ⟨lM,iS,iT,lN⟩:=bt.cv (j:=4) rfl (ay.mono cp.ag) (i:=U) gJ
 obtain rfl:=eI iS
 have iV:=dw gJ
 have iW:=bt.bR (j:=4) rfl (ay.mono cp.ag) iV
 have lP:(baseOf J).block<dm:=dD (dn.1 _ (au (i:=4) rfl)) iW
 refine dy rfl rfl rfl (by show (baseOf J).block<_;omega) (aG (v:=V e5.Kind) trivial) (bE (w:=V e5.Kind) iT rfl (by kernel_rfl)) trivial<|yq 1 [(60,V ad),(59,V e5.Kind),(51, .bool true),(7, .bool true),(0,Pt I 0),(3,Pt aQ 0),(5,V ad),(6,V U)] ?_
 rcases ifs a6 with ⟨e6,a6⟩ | ⟨e6,a6⟩
 refine aF rfl rfl (bm rfl rfl (fm e6))<|ye 2 [(35, .bool true),(7, .bool true),(0,Pt I 0),(3,Pt aQ 0),(5,V ad),(6,V U)] ?_
 have iX:=bt.aY
 obtain rfl:=si a6
 exact ⟨_,bT,true,aQ,rfl,(by kernel_rfl),iX⟩
 refine aF rfl rfl (bm rfl rfl (fg e6))<|ye 2 [(35, .bool false),(7, .bool true),(0,Pt I 0),(3,Pt aQ 0),(5,V ad),(6,V U)] ?_
 have iZ:=bt.aY
 obtain rfl:=si a6
 exact ⟨_,bT,false,aQ,rfl,(by kernel_rfl),iZ⟩
 refine aF rfl rfl (bm rfl rfl (fg e4))<|ye 14 [(35, .bool false),(7, .bool true),(0,Pt I 0),(3,Pt aQ 0),(5,V ad),(6,V U)] ?_
 have ja:=bt.aY
 obtain rfl:=si a6
 exact ⟨_,bT,false,aQ,rfl,(by kernel_rfl),ja⟩
 refine aF rfl trivial (bm rfl rfl (jA e2))<|ye 26 [(35, .bool false),(7, .bool true),(0,Pt I 0),(3,Pt aQ 0),(5,V ad),(6,V U)] ?_
 have jb:=bt.aY
 obtain rfl:=si a6
 exact ⟨_,bT,false,aQ,rfl,(by kernel_rfl),jb⟩
 refine bk 0<|lp [0,3,5,6] (fun n l h=>∃ gK cn bu bc bh,correctorref12_parser_place_l0 F a0 a1 n cn bu bc=some ed∧l=[(0,Pt I 0),(3,Pt bh 0),(5,V bu),(6,V bc)]∧St hs (a2 [.ae I [Pt ab 0,v11,V a0.Doc, .bool a0.aE,J,V a0.aA,V a0.Read], .ae ab (aB v4 v6 ak a0.R), .gs ak az (aa aj), .gs v11 aC (aa av), .gs J aM (aa aw)]) Z (0,0) gK h [.ae I [Pt ab 0,v11,V a0.Doc, .bool a0.aE,J,V a0.aA,V a0.Read], .ae ab (aB v4 v6 ak a0.R), .gs ak az (aa aj), .gs v11 aC (aa av), .gs J aM (aa aw), .ae bh (eX cn)]) F ⟨_,dr,ds,af ((a0.S.length:Int) - 1),du,bf,(by kernel_rfl),dv⟩ ?_
 rintro e7 l lQ ⟨gK,cn,bu,bc,bh,bf,rfl,eb⟩
 rcases e7 with _ | e7
 cases (show none=some ed from bf)
 rw [correctorref12_parser_place_l0] at bf
 refine sq<|cY FR eb ?_
 intro e8 lS e9 cc
 refine yq 1 [(18,V bc),(0,Pt I 0),(3,Pt bh 0),(5,V bu),(6,V bc)] ?_
 rcases ifs bf with ⟨fa,bf⟩ | ⟨fa,bf⟩
 refine aF rfl trivial (bm rfl rfl (jH fa))<|yq 4 [(23,Pt I 4),(20, .bool true),(0,Pt I 0),(3,Pt bh 0),(5,V bu),(6,V bc)] ?_
 have lT:I<e8:=e9.1 _ (au (i:=0) rfl) _ (by simp [Itm.ids])
 refine aW (v:=J) rfl rfl rfl (by show I<_;omega) (aG (v:=J) (cc.dN (i:=4) rfl)) (cc.aV (i:=0) rfl (by kernel_rfl)) trivial<|yq 1 [(25,V bc),(24,J),(20, .bool true),(0,Pt I 0),(3,Pt bh 0),(5,V bu),(6,V bc)] ?_
 obtain ⟨gL,bf⟩:=aH bf
 refine aF rfl rfl (bx rfl rfl (by kernel_rfl:slTy _ _=some (aa aw)) (cc.bR (j:=4) rfl (ay.mono eb.ag) (by omega)) gL.1 gL.2)<|yq 1 [(27, .pointer (some (bw J bc (aa aw) 2))),(20, .bool true),(0,Pt I 0),(3,Pt bh 0),(5,V bu),(6,V bc)] ?_
 obtain ⟨fb,gM,bf⟩:=ai bf
 obtain ⟨lU,jc,jd,lV⟩:=cc.cv (j:=4) rfl (ay.mono eb.ag) (i:=bc) gM
 obtain rfl:=eI jc
 have je:=dw gM
 have jf:=cc.bR (j:=4) rfl (ay.mono eb.ag) je
 have lW:(baseOf J).block<e8:=dD (e9.1 _ (au (i:=4) rfl)) jf
 refine dy rfl rfl rfl (by show (baseOf J).block<_;omega) (aG (v:=V fb.aI) trivial) (bE (w:=V fb.aI) jd rfl (by kernel_rfl)) trivial<|yq 1 [(29,Pt bh 1),(28,V fb.aI),(20, .bool true),(0,Pt I 0),(3,Pt bh 0),(5,V bu),(6,V bc)] ?_
 have lX:bh<e8:=e9.1 _ (au (i:=5) rfl) _ (by simp [Itm.ids])
 refine aW (v:=V cn.aI) rfl rfl rfl (by show bh<_;omega) (aG (v:=V cn.aI) trivial) (cc.aV (i:=5) rfl (by kernel_rfl)) trivial ?_
 rcases ifs bf with ⟨fc,bf⟩ | ⟨fc,bf⟩
 refine aF rfl rfl (bm rfl rfl (lO fc))<|ye 1 [(32, .bool true),(0,Pt I 0),(3,Pt bh 0),(5,V bu),(6,V bc)] ?_
 have jg:=cc.aY
 refine dT<|sk<|bk 1<|gp 3 ?_
 exact ⟨e7,a7 _,⟨_,cn,bu,af (bc - 1),bh,bf,(by kernel_rfl),jg⟩⟩
 refine aF rfl rfl (bm rfl rfl (lR fc))<|ye 1 [(32, .bool false),(0,Pt I 0),(3,Pt bh 0),(5,V bu),(6,V bc)] ?_
 have jh:=cc.aY
 refine dF<|xt 0<|aS ?_
 obtain rfl:=si bf
 exact ⟨_,cn,bu,bc,bh,rfl,(by kernel_rfl),jh⟩
 refine aF rfl trivial (bm rfl rfl (jA fa))<|ye 13 [(32, .bool false),(0,Pt I 0),(3,Pt bh 0),(5,V bu),(6,V bc)] ?_
 have ji:=cc.aY
 refine dF<|xt 0<|aS ?_
 obtain rfl:=si bf
 exact ⟨_,cn,bu,bc,bh,rfl,(by kernel_rfl),ji⟩
 refine s0<|aD 1 0 (.bool a1.iM) ec rfl<|xn 0<|db dp ?_ ?_<;>intro lY dp
 refine gp 1 ?_
 obtain rfl:=si dp
 exact ⟨_,a1,3,fl,rfl,(by kernel_rfl),((((((ec.front 0 rfl).front 5 rfl).front 5 rfl).front 5 rfl).front 5 rfl).front 5 rfl)⟩
 refine sk ?_
 obtain rfl:=si dp
 exact ⟨_,a1,5,fl,rfl,(by kernel_rfl),((((((ec.front 0 rfl).front 5 rfl).front 5 rfl).front 5 rfl).front 5 rfl).front 5 rfl)⟩
def C9:List br:=[uP 27 (mv 0),uP 28 (nk 27),uP 29 (fa 65 28 0),uL 30 (ld 59 29),uP 31 (nk 30),uP 32 (fa 62 31 0),uL 33 (ld 28 32),uL 34 (ld 67 3),uF 35 (cf 73 #[(t 33),(t 34)] #[28,67]) .make [3,6,7],uP 26 (mv 35),uP 36 (.extract (t 26) 0),uP 37 (.extract (t 26) 1),uP 6 (sg 36),uP 7 (sg 37)]
def Fb:List br:=[uP 62 (mv 0),uP 63 (nk 62),uP 64 (fa 65 63 0),uL 65 (ld 59 64),uP 66 (mv 8),uP 67 (mv 6),uP 68 (mv 9),uP 69 (ia 108 67 68),uP 70 (fa 114 69 2),uL 71 (ld 3 70),uP 72 (mv 5),uP 73 (mv 10),uF 74 (cf 50 #[(t 65),(t 66),(t 71),(t 72),(t 73)] #[59,3,3,3,3]) .make [3,9]]
def xS:List br:=[uP 75 (mv 0),uP 76 (nk 75),uP 77 (fa 65 76 4),uL 78 (ld 63 77),uP 79 (mv 0),uP 80 (nk 79),uP 81 (fa 65 80 4),uL 82 (ld 63 81),uP 83 (cb .len #[(t 82)] #[63]),uP 84 (bc .sub 3 83 1 3),uP 85 (ia 63 78 84),uP 86 (fa 116 85 3),uL 87 (ld 3 86),uP 8 (sg 87)]
def CO:List br:=[uP 105 (mv 0),uP 106 (nk 105),uP 107 (fa 65 106 4),uL 108 (ld 63 107),uP 109 (mv 13),uP 110 (mv 0),uP 111 (mv 0),uP 112 (nk 111),uP 113 (fa 65 112 4),uL 114 (ld 63 113),uP 115 (mv 13),uP 116 (ia 63 114 115),uP 117 (fa 116 116 3),uL 118 (ld 3 117),uP 119 (mv 11),uF 120 (cf 71 #[(t 110),(t 118),(t 119)] #[58,3,3]) .make [9,13],uP 121 (ia 63 108 109),uP 122 (fa 116 121 4),oF (.store 4 (t 122) (t 120)) .make [3,9,13]]
def wW:List br:=[uP 41 (mv 0),uP 42 (nk 41),uP 43 (fa 65 42 0),uL 44 (ld 59 43),uP 45 (mv 0),uF 46 (cf 51 #[(t 45)] #[58]) .make [],uP 47 (mv 4),uP 48 (mv 5),uF 49 (cf 50 #[(t 44),(t 46),(t 47),(t 48),(ci 8)] #[59,3,3,3,3]) .make [3]]
def nQ (F:Nat) (a0:a5) (a1:av):Option a5:=
 (g8 F a0 a1.ah a1.To).bind fun j=>
 if 0≤j.1∧j.1<(a0.R.L.length:Int) then
  (a0.R.L[j.1.toNat]?).bind fun aj=>
  if aj.Kind=(20:Int) then
   (eO F a0.R 0 2 j.1 (af (j.1+1))).bind fun I=>
   (g8 F (⟨I.2,a0.Rows,I.1,false,[],a0.aA,a0.Read⟩:a5) (af (j.1+1)) a1.To).bind fun aa=>
   ((if aa.1<aa.2 then
     (jy F (⟨I.2,a0.Rows,I.1,false,[],a0.aA,a0.Read⟩:a5) I.1 aa.1).bind fun J=>
     some (J.2.R,J.2.Rows,J.2.Doc,J.1,J.2.S,J.2.aA,J.2.Read)
    else
     some (I.2,a0.Rows,I.1,false,[],a0.aA,a0.Read)):Option (aQ×(List av)×Int×Bool×(List aw)×Int×Int)).bind fun o=>match o with
    | (ak,an,ao,aq,ar,au,ax)=>some (⟨ak,an,ao,aq,ar,au,ax⟩:a5)
  else
   ((if (0:Int)≤a0.Doc then
     (iI F a0.R.T a0.Doc (af (j.1+1))).bind fun ay=>
     some ((⟨a0.R.L,ay,a0.R.D,a0.R.End⟩:aQ),a0.Rows,a0.Doc,a0.aE,a0.aA,a0.Read)
    else
     some (a0.R,a0.Rows,a0.Doc,a0.aE,a0.aA,a0.Read)):Option (aQ×(List av)×Int×Bool×Int×Int)).bind fun o=>match o with
    | (ab,ad,aB,ae,ag,ai)=>(g8 F (⟨ab,ad,(-1),ae,[],ag,ai⟩:a5) (af (j.1+1)) j.2).bind fun U=>
    if U.1<U.2 then
     (eu F ab 0 U.1 U.2 8).bind fun az=>
     some (⟨az.2,ad,(-1),ae,[],ag,ai⟩:a5)
    else
     some (⟨ab,ad,(-1),ae,[],ag,ai⟩:a5)
 else none
theorem wR (F:Nat) {h:AH} {Z:Zn} {a0:a5} {a1:av} {I j v4 v6 J ax v11 ao ab ar} (hP:Pre Z h [.ae I [Pt j 0,v11,V a0.Doc, .bool a0.aE,ab,V a0.aA,V a0.Read], .ae j (aB v4 v6 J a0.R), .gs J ax (aa aj), .gs v11 ao (aa av), .gs ab ar (aa aw)]) (aF:RS (α:=al) Z v4 a0.R.L) (a6:RS (α:=aq) Z v6 a0.R.T.an) (bg:RCs (α:=aj) Z ax a0.R.D) (aH:RCs (α:=av) Z ao a0.Rows) (cl:RCs (α:=aw) Z ar a0.S) {r:a5} (hm:nQ F a0 a1=some r):
  bS Tryz.prog 46 [Pt I 0, .agg #[V a1.Kind,V a1.ah,V a1.To,V a1.aI]] h Z [.ae I [Pt j 0,v11,V a0.Doc, .bool a0.aE,ab,V a0.aA,V a0.Read], .ae j (aB v4 v6 J a0.R), .gs J ax (aa aj), .gs v11 ao (aa av), .gs ab ar (aa aw)] fun v Z' A'=>∃ b5 b6 b7 b8 b9 ca cb, .tuple #[]=v∧A'=[.ae I [Pt j 0,v11,V r.Doc, .bool r.aE,ca,V r.aA,V r.Read], .ae j (aB b5 b6 b7 r.R), .gs b7 b8 (aa aj), .gs v11 b9 (aa av), .gs ca cb (aa aw)]∧RS (α:=al) Z' b5 r.R.L∧RS (α:=aq) Z' b6 r.R.T.an∧RCs (α:=aj) Z' b8 r.R.D∧RCs (α:=av) Z' b9 r.Rows∧RCs (α:=aw) Z' cb r.S:=by
 refine b3 Tryz.func46 hP ?_
 intro hs hS
 unfold nQ at hm
 refine s0<|dt 0 [V a1.Kind,V a1.ah,V a1.To,V a1.aI] hS ?_
 intro bh dJ bH
 refine xn 0<|s0<|aD 2 0 (V a1.ah) bH rfl<|aD 1 0 (V a1.To) bH rfl ?_
 obtain ⟨U,cm,hm⟩:=ai hm
 refine cE 0 bH (fun dL a7 cn a9=>ln F cn (RS.mono a7 aF) (RS.mono a7 a6) (bA.row (a9 _ (au (i:=3) rfl)) a7 bg) (a9 _ (au (i:=2) rfl)) (bA.row (a9 _ (au (i:=4) rfl)) a7 aH) (bA.row (a9 _ (au (i:=5) rfl)) a7 cl) (a9 _ (au (i:=1) rfl)) cm) ?_
 rintro _ dN cp rfl
 refine xn 5<|s0<|bG 3 1 (.slice none 0 0) [.slice none 0 0] [Pt j 0,v11,V a0.Doc, .bool a0.aE, .slice none 0 0,V a0.aA,V a0.Read] cp rfl rfl rfl ?_
 intro dO ay
 refine xn 0<|sq<|s0<|aD 3 1 (Pt j 0) ay rfl<|aD 2 2 v4 ay rfl<|a8 1 hm aF ?_
 intro dP hm
 refine bt 1 0 (fun cc=>V cc.Kind) hm aF ay ?_
 intro cc dQ hm
 refine aK 0 hm ?_ ?_<;>intro dR hm
 refine xn 0<|dT<|s0<|aD 4 1 (Pt j 0) ay rfl ?_
 obtain ⟨ad,cq,hm⟩:=ai hm
 have ct:St _ _ _ _ _ _ ([.ae j (aB v4 v6 J a0.R), .gs J ax (aa aj)]++[.ae bh (cX a1), .ae I [Pt j 0,v11,V a0.Doc, .bool a0.aE, .slice none 0 0,V a0.aA,V a0.Read], .gs v11 ao (aa av), .gs ab ar (aa aw)]):=((ay.front 3 rfl).front 3 rfl)
 refine cB 3 ct (fun p=>gB F p aF a6 bg cq) ?_
 rintro _ dS dV _ bI cu ⟨cd,cf,cg,rfl,rfl,bJ,bK,bM⟩
 refine bG 2 3 (V ad.1) [V ad.1] [Pt j 0,v11,V ad.1, .bool a0.aE, .slice none 0 0,V a0.aA,V a0.Read] cu rfl rfl rfl ?_
 intro dX cv
 refine xn 0<|s0<|bG 3 3 (.bool false) [.bool false] [Pt j 0,v11,V ad.1, .bool false, .slice none 0 0,V a0.aA,V a0.Read] cv rfl rfl rfl ?_
 intro dY ch
 refine xn 0<|s0<|aD 4 2 (V a1.To) ch rfl ?_
 obtain ⟨dZ,cw,hm⟩:=ai hm
 refine cE 0 ch (fun ea bj cx bk=>ln F (a0:=(⟨ad.2,a0.Rows,ad.1,false,[],a0.aA,a0.Read⟩:a5)) cx (RS.mono bj bJ) (RS.mono bj bK) (bA.row (bk _ (au (i:=1) rfl)) bj bM) (bk _ (au (i:=0) rfl)) (bA.row (bk _ (au (i:=4) rfl)) bj (aH.mono bI)) (RS.bq _) (bk _ (au (i:=3) rfl)) cw) ?_
 rintro _ eb bN rfl
 refine xn 5<|sq ?_
 obtain ⟨cy,aL,hm⟩:=ai hm
 refine dM [] (fun l h=>∃ aC aM bO bP bQ bR bT bV bl bm bn bo bp bu bw,(aM,bO,bP,bQ,bR,bT,bV)=cy∧RS (α:=al) aC bl aM.L∧RS (α:=aq) aC bm aM.T.an∧RCs (α:=aj) aC bo aM.D∧RCs (α:=av) aC bp bO∧RCs (α:=aw) aC bw bR∧l=[]∧St hs (a2 [.ae I [Pt j 0,v11,V a0.Doc, .bool a0.aE,ab,V a0.aA,V a0.Read], .ae j (aB v4 v6 J a0.R), .gs J ax (aa aj), .gs v11 ao (aa av), .gs ab ar (aa aw)]) Z (0,0) aC h [.gs ab ar (aa aw), .ae I [Pt j 0,v11,V bP, .bool bQ,bu,V bT,V bV], .ae j (aB bl bm bn aM), .gs bn bo (aa aj), .gs v11 bp (aa av), .gs bu bw (aa aw)]) (by kernel_rfl) ?_ ?_
 rintro l ec ⟨aC,aM,bO,bP,bQ,bR,bT,bV,bl,bm,bn,bo,bp,bu,bw,rfl,cA,cC,cD,cF,cG,rfl,cH⟩
 try dsimp only at hm
 refine rt<|⟨rfl,?_⟩
 obtain rfl:=si hm
 refine ⟨_,_,_,ResL.nil,((((((cH.front 5 rfl).front 5 rfl).front 5 rfl).front 5 rfl).front 5 rfl).takeN 5),?_⟩
 exact ⟨bl,bm,bn,bo,bp,bu,bw,rfl,rfl,cA,cC,cD,cF,cG⟩
 refine g0<|aT 2 aL ?_ ?_<;>intro ed aL
 refine xn 0<|dT<|g0<|aD 5 3 (V ad.1) bN rfl ?_
 have cI:=bN.dh (aa aw)
 obtain ⟨ak,cJ,aL⟩:=ai aL
 have cK:St _ _ _ _ _ _ ([.ae I [Pt j 0,v11,V ad.1, .bool false, .slice none 0 0,V a0.aA,V a0.Read], .ae j (aB cd cf J ad.2), .gs J cg (aa aj), .gs v11 ao (aa av), .gs (.slice none 0 0) [] (aa aw)]++[.ae bh (cX a1), .gs ab ar (aa aw)]):=(((((cI.front 0 rfl).front 5 rfl).front 3 rfl).front 3 rfl).front 5 rfl)
 refine cB 1 cK (fun p=>qf F (a0:=(⟨ad.2,a0.Rows,ad.1,false,[],a0.aA,a0.Read⟩:a5)) p bJ bK bM (aH.mono bI) (RCs.bq _) cJ) ?_
 rintro _ ee eg _ eh cL ⟨cN,cP,cQ,cR,cT,cU,rfl,rfl,cW,cY,cZ,c0,c3⟩
 refine bG 2 0 (.bool ak.1) [.bool ak.1] [Pt j 0,v11,V ak.2.Doc, .bool ak.1,(.slice none 0 0),V ak.2.aA,V ak.2.Read] cL rfl rfl rfl ?_
 intro ei c4
 refine xn 0 ?_
 obtain rfl:=si aL
 exact ⟨_,ak.2.R,ak.2.Rows,ak.2.Doc,ak.1,ak.2.S,ak.2.aA,ak.2.Read,cN,cP,cQ,cR,cT,(.slice none 0 0),cU,rfl,cW,cY,cZ,c0,c3,(by kernel_rfl),(((((((c4.front 4 rfl).front 4 rfl).front 4 rfl).front 4 rfl).front 4 rfl).front 6 rfl).takeN 6)⟩
 refine xn 0<|dF<|sk ?_
 have c5:=bN.dh (aa aw)
 obtain rfl:=si aL
 exact ⟨_,ad.2,a0.Rows,ad.1,false,[],a0.aA,a0.Read,cd,cf,J,cg,ao,(.slice none 0 0),[],rfl,bJ,bK,bM,(aH.mono bI),(RCs.bq _),(by kernel_rfl),(((((((c5.front 0 rfl).front 5 rfl).front 3 rfl).front 3 rfl).front 5 rfl).front 6 rfl).takeN 6)⟩
 refine xn 0<|dF<|sk<|sq ?_
 obtain ⟨c6,aN,hm⟩:=ai hm
 refine aJ [0,4,5] (fun l h=>∃ aO az bx bW aP aS aU ba bb bc aX,(az,bx,bW,aP,aS,aU)=c6∧RS (α:=al) aO ba az.L∧RS (α:=aq) aO bb az.T.an∧RCs (α:=aj) aO bc az.D∧RCs (α:=av) aO aX bx∧l=[(0,Pt I 0),(4,V U.1),(5,V U.2)]∧St hs (a2 [.ae I [Pt j 0,v11,V a0.Doc, .bool a0.aE,ab,V a0.aA,V a0.Read], .ae j (aB v4 v6 J a0.R), .gs J ax (aa aj), .gs v11 ao (aa av), .gs ab ar (aa aw)]) Z (0,0) aO h [.gs ab ar (aa aw), .ae I [Pt j 0,v11,V bW, .bool aP, .slice none 0 0,V aS,V aU], .ae j (aB ba bb J az), .gs J bc (aa aj), .gs v11 aX (aa av)]) ?_ ?_
 rintro l ej ⟨aO,az,bx,bW,aP,aS,aU,ba,bb,bc,aX,rfl,bX,bY,b0,b1,rfl,c8⟩
 try dsimp only at hm
 refine s0<|bG 3 1 (V (-1)) [V (-1)] [Pt j 0,v11,V (-1), .bool aP, .slice none 0 0,V aS,V aU] c8 rfl rfl rfl ?_
 intro en db
 refine xn 0<|s0 ?_
 obtain ⟨eo,dc,hm⟩:=ai hm
 refine cE 4 db (fun ep bB dd bC=>ln F (a0:=(⟨az,bx,(-1),aP,[],aS,aU⟩:a5)) dd (RS.mono bB bX) (RS.mono bB bY) (bA.row (bC _ (au (i:=3) rfl)) bB b0) (bC _ (au (i:=2) rfl)) (bA.row (bC _ (au (i:=4) rfl)) bB b1) (RS.bq _) (bC _ (au (i:=1) rfl)) dc) ?_
 rintro _ er b2 rfl
 refine xn 5<|s0<|aT 2 hm ?_ ?_<;>intro et hm
 refine xn 0<|dT<|g0<|aD 3 1 (Pt j 0) b2 rfl ?_
 obtain ⟨eu,dg,hm⟩:=ai hm
 have dj:St _ _ _ _ _ _ ([.ae j (aB ba bb J az), .gs J bc (aa aj)]++[.gs ab ar (aa aw), .ae I [Pt j 0,v11,V (-1), .bool aP, .slice none 0 0,V aS,V aU], .gs v11 aX (aa av)]):=((b2.front 3 rfl).front 3 rfl)
 refine cB 2 dj (fun p=>fL F p bX bY b0 dg) ?_
 rintro _ ew ey _ dm dn ⟨dp,dr,ds,du,rfl,rfl,dv,dw,dx⟩
 refine xn 0 ?_
 have dy:=dn.dh (aa aw)
 obtain rfl:=si hm
 refine ⟨_,_,_,ResL.nil,((((((dy.front 0 rfl).front 5 rfl).front 3 rfl).front 3 rfl).front 5 rfl).takeN 5),?_⟩
 exact ⟨dp,dr,ds,du,aX,(.slice none 0 0),[],rfl,rfl,dv,dw,dx,(b1.mono dm),(RCs.bq _)⟩
 refine xn 0<|dF<|sk ?_
 have dz:=b2.dh (aa aw)
 obtain rfl:=si hm
 refine ⟨_,_,_,ResL.nil,((((((dz.front 0 rfl).front 5 rfl).front 5 rfl).front 5 rfl).front 5 rfl).takeN 5),?_⟩
 exact ⟨ba,bb,J,bc,aX,(.slice none 0 0),[],rfl,rfl,bX,bY,b0,b1,(RCs.bq _)⟩
 refine s0<|aD 3 1 (V a0.Doc) ay rfl<|cS 0 aN ?_ ?_<;>intro ez aN
 refine xn 0<|dT<|ek Ay ay ?_
 intro bD eA bE aZ
 refine yq 3 [(77,Pt I 0),(5,V U.2),(4,V U.1),(0,Pt I 0)] ?_
 have eB:I<bD:=bE.1 _ (au (i:=1) rfl) _ (by simp [Itm.ids])
 refine aW (v:=Pt j 0) rfl trivial rfl (by show I<_;omega) (aG (v:=Pt j 0) trivial) (aZ.aV (i:=1) rfl (by kernel_rfl)) trivial<|yq 3 [(81,Pt I 0),(78,Pt j 0),(5,V U.2),(4,V U.1),(0,Pt I 0)] ?_
 have eD:I<bD:=bE.1 _ (au (i:=1) rfl) _ (by simp [Itm.ids])
 refine aW (v:=Pt j 0) rfl trivial rfl (by show I<_;omega) (aG (v:=Pt j 0) trivial) (aZ.aV (i:=1) rfl (by kernel_rfl)) trivial<|yq 2 [(84,Pt j 1),(78,Pt j 0),(5,V U.2),(4,V U.1),(0,Pt I 0)] ?_
 have eE:j<bD:=bE.1 _ (au (i:=2) rfl) _ (by simp [Itm.ids])
 refine aW (v:= .agg #[v6]) rfl trivial rfl (by show j<_;omega) (eC (cs:=[v6]) (.cons (RS.cM a6) .nil)) (aZ.aV (i:=2) rfl (by kernel_rfl)) trivial<|yq 3 [(88,Pt I 2),(85, .agg #[v6]),(78,Pt j 0),(5,V U.2),(4,V U.1),(0,Pt I 0)] ?_
 have eF:I<bD:=bE.1 _ (au (i:=1) rfl) _ (by simp [Itm.ids])
 refine aW (v:=V a0.Doc) rfl trivial rfl (by show I<_;omega) (aG (v:=V a0.Doc) trivial) (aZ.aV (i:=1) rfl (by kernel_rfl)) trivial<|yq 2 [(91,V (af (U.1+1))),(89,V a0.Doc),(85, .agg #[v6]),(78,Pt j 0),(5,V U.2),(4,V U.1),(0,Pt I 0)] ?_
 obtain ⟨dA,dB,aN⟩:=ai aN
 have dC:=aZ.bZ
 have cj:St _ _ _ _ _ _ ([]++[.ae bh (cX a1), .ae I [Pt j 0,v11,V a0.Doc, .bool a0.aE, .slice none 0 0,V a0.aA,V a0.Read], .ae j (aB v4 v6 J a0.R), .gs J ax (aa aj), .gs v11 ao (aa av), .gs ab ar (aa aw)]):=dC
 obtain ⟨eG,eH,eI,eJ,dD,b4,bd,rfl,rfl,ck⟩:=q1 F cj.dW a6 dB
 have dE:=cj.call b4
 have bF:=b4.ag
 refine df rfl trivial aZ (cr dD rfl rfl rfl) dE (St.de b4) ?_
 intro eK dG
 refine yq 2 [(94,Pt j 1),(92, .agg #[bd]),(5,V U.2),(4,V U.1),(0,Pt I 0)] ?_
 have bf:St _ _ _ _ _ _ ([.ae j (aB v4 v6 J a0.R)]++[.ae bh (cX a1), .ae I [Pt j 0,v11,V a0.Doc, .bool a0.aE, .slice none 0 0,V a0.aA,V a0.Read], .gs J ax (aa aj), .gs v11 ao (aa av), .gs ab ar (aa aw)]):=(dG.front 2 rfl)
 refine gu rfl trivial bf (gg (vs:=[bd]) (cO:=(aB v4 bd J a0.R)) (L':=[.ae j (aB v4 bd J a0.R)]) bf.sub (i:=0) rfl rfl rfl rfl (by kernel_rfl) (bz (RS.di ck) cz) rfl rfl rfl) bF (.a3 (bf.bL 1 rfl bU) (.drop (by decide) (.a3 (bf.bL 1 rfl bU) (.a3 (bf.bL 1 rfl bU) .nil)))) ?_
 intro eL dH
 refine yf [(5,V U.2),(4,V U.1),(0,Pt I 0)] ?_
 have dI:=dH.aY
 obtain rfl:=si aN
 exact ⟨_,(⟨a0.R.L,dA,a0.R.D,a0.R.End⟩:aQ),a0.Rows,a0.Doc,a0.aE,a0.aA,a0.Read,v4,bd,ax,ao,rfl,(aF.mono bF),ck,(bg.mono bF),(aH.mono bF),(by kernel_rfl),((((((dI.front 4 rfl).front 4 rfl).front 2 rfl).front 4 rfl).front 5 rfl).takeN 5)⟩
 refine xn 0<|dF<|sk ?_
 obtain rfl:=si aN
 exact ⟨_,a0.R,a0.Rows,a0.Doc,a0.aE,a0.aA,a0.Read,v4,v6,ax,ao,rfl,aF,a6,bg,aH,(by kernel_rfl),((((((ay.front 4 rfl).front 4 rfl).front 4 rfl).front 4 rfl).front 5 rfl).takeN 5)⟩
def mc (F:Nat) (a0:a5) (a1:Int):Option a5:=
 if a0.Doc<(0:Int) then
  (eO F a0.R 0 2 a1 a1).bind fun j=>
  some (⟨j.2,a0.Rows,j.1,false,[],a0.aA,a0.Read⟩:a5)
 else
  some a0
theorem vj (F:Nat) {h:AH} {Z:Zn} {a0:a5} {a1:Int} {ab j v4 v6 J ad v11 U I af} (hP:Pre Z h [.ae ab [Pt j 0,v11,V a0.Doc, .bool a0.aE,I,V a0.aA,V a0.Read], .ae j (aB v4 v6 J a0.R), .gs J ad (aa aj), .gs v11 U (aa av), .gs I af (aa aw)]) (ah:RS (α:=al) Z v4 a0.R.L) (ak:RS (α:=aq) Z v6 a0.R.T.an) (ao:RCs (α:=aj) Z ad a0.R.D) (ar:RCs (α:=av) Z U a0.Rows) (aG:RCs (α:=aw) Z af a0.S) {r:a5} (hm:mc F a0 a1=some r):
  bS Tryz.prog 49 [Pt ab 0,V a1] h Z [.ae ab [Pt j 0,v11,V a0.Doc, .bool a0.aE,I,V a0.aA,V a0.Read], .ae j (aB v4 v6 J a0.R), .gs J ad (aa aj), .gs v11 U (aa av), .gs I af (aa aw)] fun v Z' A'=>∃ au ax ay az aC aF, .tuple #[]=v∧A'=[.ae ab [Pt j 0,v11,V r.Doc, .bool r.aE,aC,V r.aA,V r.Read], .ae j (aB au ax J r.R), .gs J ay (aa aj), .gs v11 az (aa av), .gs aC aF (aa aw)]∧RS (α:=al) Z' au r.R.L∧RS (α:=aq) Z' ax r.R.T.an∧RCs (α:=aj) Z' ay r.R.D∧RCs (α:=av) Z' az r.Rows∧RCs (α:=aw) Z' aF r.S:=by
 refine b3 Tryz.func49 hP ?_
 intro hs hS
 unfold mc at hm
 refine s0<|aD 3 0 (V a0.Doc) hS rfl<|aT 0 hm ?_ ?_<;>intro aX hm
 refine xn 0<|dT<|s0<|aD 4 0 (Pt j 0) hS rfl ?_
 obtain ⟨ag,aH,hm⟩:=ai hm
 have aI:St _ _ _ _ _ _ ([.ae j (aB v4 v6 J a0.R), .gs J ad (aa aj)]++[.ae ab [Pt j 0,v11,V a0.Doc, .bool a0.aE,I,V a0.aA,V a0.Read], .gs v11 U (aa av), .gs I af (aa aw)]):=((hS.front 2 rfl).front 2 rfl)
 refine cB 2 aI (fun p=>gB F p ah ak ao aH) ?_
 rintro _ aY aZ _ aJ aK ⟨aL,aM,aN,rfl,rfl,aO,aP,aQ⟩
 refine bG 2 2 (V ag.1) [V ag.1] [Pt j 0,v11,V ag.1, .bool a0.aE,I,V a0.aA,V a0.Read] aK rfl rfl rfl ?_
 intro a2 aS
 refine xn 0<|g0<|bG 4 2 (.bool false) [.bool false] [Pt j 0,v11,V ag.1, .bool false,I,V a0.aA,V a0.Read] aS rfl rfl rfl ?_
 intro a3 aU
 refine bG 2 2 (.slice none 0 0) [.slice none 0 0] [Pt j 0,v11,V ag.1, .bool false, .slice none 0 0,V a0.aA,V a0.Read] aU rfl rfl rfl ?_
 intro a6 aV
 refine xn 0 ?_
 have aW:=aV.dh (aa aw)
 obtain rfl:=si hm
 refine ⟨_,_,_,ResL.nil,((((((aW.front 0 rfl).front 4 rfl).front 3 rfl).front 3 rfl).front 4 rfl).takeN 5),?_⟩
 exact ⟨aL,aM,aN,U,(.slice none 0 0),[],rfl,rfl,aO,aP,aQ,(ar.mono aJ),(RCs.bq _)⟩
 refine xn 0<|dF<|sk ?_
 obtain rfl:=si hm
 refine ⟨_,_,_,ResL.nil,hS,?_⟩
 exact ⟨v4,v6,ad,U,I,af,rfl,rfl,ah,ak,ao,ar,aG⟩
def lA (F:Nat) (a0:a5) (a1:av):Nat→aQ→(List av)→Int→Bool→(List aw)→Int→Int→av→Int→(List bd)→Int→Int→Int→Option (Sum (aQ×(List av)×Int×Bool×(List aw)×Int×Int×av×Int) a5)
 | 0,_,_,_,_,_,_,_,_,_,_,_,_,_=>none
 | n+1,U,aa,ab,ad,ae,ag,ai,aj,ak,J,an,ao,I=>
  if I<(J.length:Int) then
   if 0≤I∧I<(J.length:Int) then
    (J[I.toNat]?).bind fun aq=>
    (correctorref12_parser_place F (⟨U,aa,ab,ad,ae,ag,ai⟩:a5) aq).bind fun j=>
    if (0:Int)<j.1 then
     if 0≤I∧I<(J.length:Int) then
      (J[I.toNat]?).bind fun ar=>
      (eu F j.2.R ao ar.ah ak j.1).bind fun au=>
      some (.inr (⟨au.2,j.2.Rows,j.2.Doc,j.2.aE,j.2.S,j.2.aA,j.2.Read⟩:a5))
     else none
    else
     if 0≤(af ((j.2.S.length:Int) - 1))∧(af ((j.2.S.length:Int) - 1))<(j.2.S.length:Int) then
      (j.2.S[(af ((j.2.S.length:Int) - 1)).toNat]?).bind fun ax=>
      lA F a0 a1 n j.2.R j.2.Rows j.2.Doc j.2.aE j.2.S j.2.aA j.2.Read aj ak J an ax.b4 (af (I+1))
     else none
   else none
  else
   some (.inl (U,aa,ab,ad,ae,ag,ai,aj,an))
def oM (F:Nat) (a0:a5) (a1:av):Option a5:=
 (g8 F a0 a1.ah a1.To).bind fun U=>
 (mc F a0 U.1).bind fun I=>
 (nJ F I.R.L a1).bind fun ab=>
 if (ab.1.length:Int)=(0:Int) then
  (ni F I a1 U.1 U.2).bind fun ao=>
  some ao
 else
  (iR F I).bind fun aq=>
  ((lA F a0 a1 F I.R I.Rows I.Doc I.aE I.S I.aA I.Read a1 U.2 ab.1 ab.2 aq 0):Option (Sum (aQ×(List av)×Int×Bool×(List aw)×Int×Int×av×Int) a5)).bind fun o=>match o with
   | .inl (ad,ae,ag,ai,j,aj,ak,ar,au)=>(g8 F (⟨ad,ae,ag,ai,j,aj,ak⟩:a5) au ar.To).bind fun an=>
   if an.1<an.2 then
    if 0≤(af ((j.length:Int) - 1))∧(af ((j.length:Int) - 1))<(j.length:Int) then
     (j[(af ((j.length:Int) - 1)).toNat]?).bind fun ax=>
     (jy F (⟨ad,ae,ag,ai,j,aj,ak⟩:a5) ax.b4 an.1).bind fun J=>
     if 0≤(af ((j.length:Int) - 1))∧(af ((j.length:Int) - 1))<(J.2.S.length:Int) then
      (J.2.S[(af ((j.length:Int) - 1)).toNat]?).bind fun aa=>
      some (⟨J.2.R,J.2.Rows,J.2.Doc,J.2.aE,J.2.S.set (af ((j.length:Int) - 1)).toNat (⟨aa.Node,aa.Kind,aa.aI,aa.b4,J.1⟩:aw),J.2.aA,J.2.Read⟩:a5)
     else none
    else none
   else
    some (⟨ad,ae,ag,ai,j,aj,ak⟩:a5)
   | .inr y=>some y
theorem yL (F:Nat) {h:AH} {Z:Zn} {a0:a5} {a1:av} {I J v4 v6 ab bm v11 bn aO bo} (hP:Pre Z h [.ae I [Pt J 0,v11,V a0.Doc, .bool a0.aE,aO,V a0.aA,V a0.Read], .ae J (aB v4 v6 ab a0.R), .gs ab bm (aa aj), .gs v11 bn (aa av), .gs aO bo (aa aw)]) (di:RS (α:=al) Z v4 a0.R.L) (dj:RS (α:=aq) Z v6 a0.R.T.an) (dm:RCs (α:=aj) Z bm a0.R.D) (dn:RCs (α:=av) Z bn a0.Rows) (dp:RCs (α:=aw) Z bo a0.S) {r:a5} (hm:oM F a0 a1=some r):
  bS Tryz.prog 47 [Pt I 0, .agg #[V a1.Kind,V a1.ah,V a1.To,V a1.aI]] h Z [.ae I [Pt J 0,v11,V a0.Doc, .bool a0.aE,aO,V a0.aA,V a0.Read], .ae J (aB v4 v6 ab a0.R), .gs ab bm (aa aj), .gs v11 bn (aa av), .gs aO bo (aa aw)] fun v Z' A'=>∃ dr ds du dv dx dz dA, .tuple #[]=v∧A'=[.ae I [Pt J 0,v11,V r.Doc, .bool r.aE,dz,V r.aA,V r.Read], .ae J (aB dr ds du r.R), .gs du dv (aa aj), .gs v11 dx (aa av), .gs dz dA (aa aw)]∧RS (α:=al) Z' dr r.R.L∧RS (α:=aq) Z' ds r.R.T.an∧RCs (α:=aj) Z' dv r.R.D∧RCs (α:=av) Z' dx r.Rows∧RCs (α:=aw) Z' dA r.S:=by
 refine b3 Tryz.func47 hP ?_
 intro hs hS
 unfold oM at hm
 refine s0<|dt 0 [V a1.Kind,V a1.ah,V a1.To,V a1.aI] hS ?_
 intro aQ fP cw
 refine xn 0<|s0<|aD 2 0 (V a1.ah) cw rfl<|aD 1 0 (V a1.To) cw rfl ?_
 obtain ⟨bc,eA,hm⟩:=ai hm
 refine cE 0 cw (fun fQ bK eB bM=>ln F eB (RS.mono bK di) (RS.mono bK dj) (bA.row (bM _ (au (i:=3) rfl)) bK dm) (bM _ (au (i:=2) rfl)) (bA.row (bM _ (au (i:=4) rfl)) bK dn) (bA.row (bM _ (au (i:=5) rfl)) bK dp) (bM _ (au (i:=1) rfl)) eA) ?_
 rintro _ fR eD rfl
 refine xn 5<|s0 ?_
 obtain ⟨ao,eE,hm⟩:=ai hm
 have eF:St _ _ _ _ _ _ ([.ae I [Pt J 0,v11,V a0.Doc, .bool a0.aE,aO,V a0.aA,V a0.Read], .ae J (aB v4 v6 ab a0.R), .gs ab bm (aa aj), .gs v11 bn (aa av), .gs aO bo (aa aw)]++[.ae aQ (cX a1)]):=(((((eD.front 5 rfl).front 5 rfl).front 5 rfl).front 5 rfl).front 5 rfl)
 refine cB 2 eF (fun p=>vj F p di dj dm dn dp eE) ?_
 rintro _ fT fU _ fV eG ⟨bN,cx,cy,cz,bO,cA,rfl,rfl,bP,cC,cD,cF,cG⟩
 refine xn 0<|cY C9 eG ?_
 intro cH fW cI bQ
 refine yq 3 [(29,Pt I 0),(5,V bc.2),(4,V bc.1),(3,Pt aQ 0),(0,Pt I 0)] ?_
 have fX:I<cH:=cI.1 _ (au (i:=0) rfl) _ (by simp [Itm.ids])
 refine aW (v:=Pt J 0) rfl trivial rfl (by show I<_;omega) (aG (v:=Pt J 0) trivial) (bQ.aV (i:=0) rfl (by kernel_rfl)) trivial<|yq 2 [(32,Pt J 0),(5,V bc.2),(4,V bc.1),(3,Pt aQ 0),(0,Pt I 0)] ?_
 have fY:J<cH:=cI.1 _ (au (i:=1) rfl) _ (by simp [Itm.ids])
 refine aW (v:=bN) rfl trivial rfl (by show J<_;omega) (aG (v:=bN) (RS.cM bP)) (bQ.aV (i:=1) rfl (by kernel_rfl)) trivial ?_
 have gb:aQ<cH:=cI.1 _ (au (i:=5) rfl) _ (by simp [Itm.ids])
 refine aW (v:= .agg #[V a1.Kind,V a1.ah,V a1.To,V a1.aI]) rfl trivial rfl (by show aQ<_;omega) (eC (cs:=[V a1.Kind,V a1.ah,V a1.To,V a1.aI]) (.cons trivial (.cons trivial (.cons trivial (.cons trivial .nil))))) (bQ.aV (i:=5) rfl (by kernel_rfl)) trivial ?_
 obtain ⟨cJ,eH,hm⟩:=ai hm
 have eJ:=bQ.bZ
 have dB:St _ _ _ _ _ _ ([]++[.ae I [Pt J 0,v11,V ao.Doc, .bool ao.aE,bO,V ao.aA,V ao.Read], .ae J (aB bN cx ab ao.R), .gs ab cy (aa aj), .gs v11 cz (aa av), .gs bO cA (aa aw), .ae aQ (cX a1)]):=eJ
 obtain ⟨gd,gf,gg,gh,eK,cK,cl,dC,rfl,rfl,dE⟩:=ED F dB.dW bP eH
 have eL:=dB.call cK
 have ay:=cK.ag
 refine df rfl trivial bQ (cr eK rfl rfl rfl) eL (St.de cK) ?_
 intro gi eM
 refine ye 5 [(7,V cJ.2),(6,cl),(5,V bc.2),(4,V bc.1),(3,Pt aQ 0),(0,Pt I 0)] ?_
 have cm:=eM.aY
 refine sq<|s0<|bC 1 cl (cm.dP (i:=0) rfl dE)<|aK 0 hm ?_ ?_<;>intro gj hm
 refine xn 0<|dT<|s0<|aD 1 6 (.agg #[V a1.Kind,V a1.ah,V a1.To,V a1.aI]) cm rfl ?_
 obtain ⟨gk,eN,hm⟩:=ai hm
 have eO:St _ _ _ _ _ _ ([.ae I [Pt J 0,v11,V ao.Doc, .bool ao.aE,bO,V ao.aA,V ao.Read], .ae J (aB bN cx ab ao.R), .gs ab cy (aa aj), .gs v11 cz (aa av), .gs bO cA (aa aw)]++[.gs cl dC (aa bd), .ae aQ (cX a1)]):=(((((cm.front 5 rfl).front 5 rfl).front 5 rfl).front 5 rfl).front 5 rfl)
 refine cB 2 eO (fun p=>CF F p (bP.mono ay) (cC.mono ay) (cD.mono ay) (cF.mono ay) (cG.mono ay) eN) ?_
 rintro _ gl gm _ gn eP ⟨eQ,eR,eS,eT,eU,eW,eX,rfl,rfl,eY,eZ,e0,e2,e3⟩
 refine xn 0<|rt<|⟨rfl,?_⟩
 obtain rfl:=si hm
 refine ⟨_,_,_,ResL.nil,(eP.takeN 5),?_⟩
 exact ⟨eQ,eR,eS,eT,eU,eW,eX,rfl,rfl,eY,eZ,e0,e2,e3⟩
 refine xn 0<|dF<|sk<|s0 ?_
 obtain ⟨e4,e5,hm⟩:=ai hm
 refine cE 1 cm (fun gq bT e6 bV=>n3 F e6 (RS.mono bT (bP.mono ay)) (RS.mono bT (cC.mono ay)) (bA.row (bV _ (au (i:=3) rfl)) bT (cD.mono ay)) (bV _ (au (i:=2) rfl)) (bA.row (bV _ (au (i:=4) rfl)) bT (cF.mono ay)) (bA.row (bV _ (au (i:=5) rfl)) bT (cG.mono ay)) (bV _ (au (i:=1) rfl)) e5) ?_
 rintro _ gr e7 rfl
 refine xn 1<|sq<|sp 1 ?_
 obtain ⟨cL,U,hm⟩:=ai hm
 refine aJ [0,3,7] (fun l h=>∃ bf aU bW bp bq ax bt bu bz cN bX bY b0 b1 ad b2 b5, .inl (aU,bW,bp,bq,ax,bt,bu,bz,cN)=cL∧RS (α:=al) bf bX aU.L∧RS (α:=aq) bf bY aU.T.an∧RCs (α:=aj) bf b0 aU.D∧RCs (α:=av) bf b1 bW∧RCs (α:=aw) bf b2 ax∧l=[(0,Pt I 0),(3,Pt b5 0),(7,V cN)]∧St hs (a2 [.ae I [Pt J 0,v11,V a0.Doc, .bool a0.aE,aO,V a0.aA,V a0.Read], .ae J (aB v4 v6 ab a0.R), .gs ab bm (aa aj), .gs v11 bn (aa av), .gs aO bo (aa aw)]) Z (0,0) bf h [.ae I [Pt J 0,v11,V bp, .bool bq,ad,V bt,V bu], .ae J (aB bX bY ab aU), .gs ab b0 (aa aj), .gs v11 b1 (aa av), .gs ad b2 (aa aw), .ae b5 (cX bz)]) ?_ ?_
 rintro l gu ⟨bf,aU,bW,bp,bq,ax,bt,bu,bz,cN,bX,bY,b0,b1,ad,b2,b5,rfl,cO,cP,cQ,cR,bg,rfl,dG⟩
 try dsimp only at hm
 refine s0<|aD 3 5 (V bz.To) dG rfl ?_
 obtain ⟨b6,e8,hm⟩:=ai hm
 refine cE 0 dG (fun gv b7 e9 b8=>ln F (a0:=(⟨aU,bW,bp,bq,ax,bt,bu⟩:a5)) e9 (RS.mono b7 cO) (RS.mono b7 cP) (bA.row (b8 _ (au (i:=2) rfl)) b7 cQ) (b8 _ (au (i:=1) rfl)) (bA.row (b8 _ (au (i:=3) rfl)) b7 cR) (bA.row (b8 _ (au (i:=4) rfl)) b7 bg) (b8 _ (au (i:=0) rfl)) e8) ?_
 rintro _ gw cn rfl
 refine xn 5<|s0<|aT 2 hm ?_ ?_<;>intro gx hm
 refine xn 0<|dT<|s0<|aD 3 0 ad cn rfl<|bC 0 ad (cn.dP (i:=4) rfl bg)<|xn 2<|ek CO cn ?_
 intro cS gy cT a8
 refine yq 3 [(107,Pt I 4),(13,V (af ((ax.length:Int) - 1))),(11,V b6.1),(0,Pt I 0)] ?_
 have gz:I<cS:=cT.1 _ (au (i:=0) rfl) _ (by simp [Itm.ids])
 refine aW (v:=ad) rfl trivial rfl (by show I<_;omega) (aG (v:=ad) (a8.dN (i:=4) rfl)) (a8.aV (i:=0) rfl (by kernel_rfl)) trivial<|yq 5 [(113,Pt I 4),(110,Pt I 0),(109,V (af ((ax.length:Int) - 1))),(108,ad),(13,V (af ((ax.length:Int) - 1))),(11,V b6.1)] ?_
 have gA:I<cS:=cT.1 _ (au (i:=0) rfl) _ (by simp [Itm.ids])
 refine aW (v:=ad) rfl trivial rfl (by show I<_;omega) (aG (v:=ad) (a8.dN (i:=4) rfl)) (a8.aV (i:=0) rfl (by kernel_rfl)) trivial<|yq 1 [(115,V (af ((ax.length:Int) - 1))),(114,ad),(110,Pt I 0),(109,V (af ((ax.length:Int) - 1))),(108,ad),(11,V b6.1)] ?_
 obtain ⟨dH,hm⟩:=aH hm
 refine aF rfl trivial (bx rfl rfl (by kernel_rfl:slTy _ _=some (aa aw)) (a8.bR (j:=4) rfl bg (by omega)) dH.1 dH.2)<|yq 1 [(117, .pointer (some (bw ad (af ((ax.length:Int) - 1)) (aa aw) 3))),(110,Pt I 0),(109,V (af ((ax.length:Int) - 1))),(108,ad),(11,V b6.1)] ?_
 obtain ⟨cU,dI,hm⟩:=ai hm
 obtain ⟨gB,fa,fb,gC⟩:=a8.cv (j:=4) rfl bg (i:=af ((ax.length:Int) - 1)) dI
 obtain rfl:=eI fa
 have fc:=dw dI
 have fe:=a8.bR (j:=4) rfl bg fc
 have gE:(baseOf ad).block<cS:=dD (cT.1 _ (au (i:=4) rfl)) fe
 refine dy rfl trivial rfl (by show (baseOf ad).block<_;omega) (aG (v:=V cU.b4) trivial) (bE (w:=V cU.b4) fb rfl (by kernel_rfl)) trivial<|yq 1 [(119,V b6.1),(118,V cU.b4),(110,Pt I 0),(109,V (af ((ax.length:Int) - 1))),(108,ad)] ?_
 obtain ⟨aX,ff,hm⟩:=ai hm
 have dJ:St _ _ _ _ _ _ ([.ae I [Pt J 0,v11,V bp, .bool bq,ad,V bt,V bu], .ae J (aB bX bY ab aU), .gs ab b0 (aa aj), .gs v11 b1 (aa av), .gs ad b2 (aa aw)]++[.ae b5 (cX bz)]):=(((((a8.front 4 rfl).front 4 rfl).front 4 rfl).front 4 rfl).front 4 rfl)
 obtain ⟨gF,gG,gH,gI,fg,cW,dL,dM,c0,dO,dQ,fh,rfl,rfl,fi,fj,fk,fl,c3⟩:=qf F (a0:=(⟨aU,bW,bp,bq,ax,bt,bu⟩:a5)) dJ.bZ.dW cO cP cQ cR bg ff
 have dR:=cW.ag
 refine fS rfl trivial dJ (cr fg rfl rfl rfl) cW dR (.drop (by decide) (.drop (by decide) (.q2 (cW.aV (i:=0) rfl (by kernel_rfl)) .nil))) ?_
 intro gJ c4
 obtain ⟨dS,hm⟩:=aH hm
 refine aF rfl trivial (bx rfl rfl (by kernel_rfl:slTy _ _=some (aa aw)) (c4.bR (j:=4) rfl c3 (by omega)) dS.1 dS.2)<|yq 1 [(122, .pointer (some (bw ad (af ((ax.length:Int) - 1)) (aa aw) 4))),(120, .bool aX.1)] ?_
 obtain ⟨ba,dV,hm⟩:=ai hm
 obtain ⟨gK,fm,gL,fo⟩:=c4.cv (j:=4) rfl c3 (i:=af ((ax.length:Int) - 1)) dV
 obtain rfl:=eI fm
 have c5:St _ _ _ _ _ _ ([.gs ad fh (aa aw)]++[.ae I [Pt J 0,v11,V aX.2.Doc, .bool aX.2.aE,ad,V aX.2.aA,V aX.2.Read], .ae J (aB dL dM c0 aX.2.R), .gs c0 dO (aa aj), .gs v11 dQ (aa av), .ae b5 (cX bz)]):=(c4.front 4 rfl)
 refine lr rfl trivial c5 (gD (u':=(⟨ba.Node,ba.Kind,ba.aI,ba.b4,aX.1⟩:aw)) (vs:=[.bool aX.1]) (a9:=[V ba.Node,V ba.Kind,V ba.aI,V ba.b4, .bool aX.1]) c5.sub (m:=0) rfl c3 dV fo rfl rfl rfl (by kernel_rfl) rfl rfl rfl rfl) dR (.drop (by decide) (.drop (by decide) (.a3 (c5.bL 0 rfl bU) .nil))) ?_
 rintro gM fp ⟨fq,fr⟩
 refine yf [] ?_
 have fs:=fr.aY
 obtain rfl:=si hm
 refine ⟨_,_,_,ResL.nil,((((((fs.front 0 rfl).front 4 rfl).front 4 rfl).front 4 rfl).front 4 rfl).takeN 5),?_⟩
 exact ⟨dL,dM,c0,dO,dQ,ad,fp,rfl,rfl,fi,fj,fk,fl,fq⟩
 refine xn 0<|dF<|sk ?_
 obtain rfl:=si hm
 refine ⟨_,_,_,ResL.nil,(cn.takeN 5),?_⟩
 exact ⟨bX,bY,ab,b0,b1,ad,b2,rfl,rfl,cO,cP,cQ,cR,bg⟩
 refine bk 0<|lp [0,3,5,6,7,8,9] (fun n l h=>∃ bb aZ b9 bB bD ca bF bG bh az cp aP aN aC cb cc cd cf bH cg aM ar bI,lA F a0 a1 n aZ b9 bB bD ca bF bG bh az cp aP aN aC=some cL∧RS (α:=al) bb cb aZ.L∧RS (α:=aq) bb cc aZ.T.an∧RCs (α:=aj) bb cd aZ.D∧RCs (α:=av) bb cf b9∧RCs (α:=aw) bb cg ca∧RCs (α:=bd) bb bI cp∧l=[(0,Pt I 0),(3,Pt aM 0),(5,V az),(6,ar),(7,V aP),(8,V aN),(9,V aC)]∧St hs (a2 [.ae I [Pt J 0,v11,V a0.Doc, .bool a0.aE,aO,V a0.aA,V a0.Read], .ae J (aB v4 v6 ab a0.R), .gs ab bm (aa aj), .gs v11 bn (aa av), .gs aO bo (aa aw)]) Z (0,0) bb h [.ae I [Pt J 0,v11,V bB, .bool bD,bH,V bF,V bG], .ae J (aB cb cc ab aZ), .gs ab cd (aa aj), .gs v11 cf (aa av), .gs bH cg (aa aw), .ae aM (cX bh), .gs ar bI (aa bd)]) F ⟨_,ao.R,ao.Rows,ao.Doc,ao.aE,ao.S,ao.aA,ao.Read,a1,bc.2,cJ.1,cJ.2,e4,0,bN,cx,cy,cz,bO,cA,aQ,cl,dC,U,(bP.mono ay),(cC.mono ay),(cD.mono ay),(cF.mono ay),(cG.mono ay),dE,(by kernel_rfl),(((((((e7.front 0 rfl).front 6 rfl).front 6 rfl).front 6 rfl).front 6 rfl).front 6 rfl).front 6 rfl)⟩ ?_
 rintro c6 l gN ⟨bb,aZ,b9,bB,bD,ca,bF,bG,bh,az,cp,aP,aN,aC,cb,cc,cd,cf,bH,cg,aM,ar,bI,U,dX,dY,dZ,ea,eb,bl,rfl,ch⟩
 rcases c6 with _ | c6
 cases (show none=some cL from U)
 rw [lA] at U
 refine sq<|s0<|bC 2 ar (ch.dP (i:=6) rfl bl)<|aT 0 U ?_ ?_<;>intro gO U
 refine xn 0<|dT<|sk<|sq<|bk 1<|s0<|eV 3 6 U ch bl rfl ?_
 intro gP U
 refine fZ 0 0 6 (fun cj=> .agg #[.bool cj.iM,V cj.aI,V cj.ah,V cj.To]) U ch bl rfl ?_
 intro cj gQ U
 obtain ⟨ak,ft,U⟩:=ai U
 have fu:St _ _ _ _ _ _ ([.ae I [Pt J 0,v11,V bB, .bool bD,bH,V bF,V bG], .ae J (aB cb cc ab aZ), .gs ab cd (aa aj), .gs v11 cf (aa av), .gs bH cg (aa aw)]++[.ae aM (cX bh), .gs ar bI (aa bd)]):=(((((ch.front 4 rfl).front 4 rfl).front 4 rfl).front 4 rfl).front 4 rfl)
 refine cB 0 fu (fun p=>Cx F (a0:=(⟨aZ,b9,bB,bD,ca,bF,bG⟩:a5)) p dX dY dZ ea eb ft) ?_
 rintro _ gR gS _ cq ec ⟨ed,ee,eg,c8,aL,db,rfl,rfl,eh,ei,ej,en,bJ⟩
 refine xn 1<|sq<|s0<|cZ 1 U ?_ ?_<;>intro gT U
 refine xn 0<|dT<|cY Fb ec ?_
 intro eo gU ep ck
 refine yq 3 [(64,Pt I 0),(10,V ak.1),(5,V az),(6,ar),(8,V aN),(9,V aC)] ?_
 have gV:I<eo:=ep.1 _ (au (i:=0) rfl) _ (by simp [Itm.ids])
 refine aW (v:=Pt J 0) rfl trivial rfl (by show I<_;omega) (aG (v:=Pt J 0) trivial) (ck.aV (i:=0) rfl (by kernel_rfl)) trivial<|yq 3 [(68,V aC),(67,ar),(66,V aN),(65,Pt J 0),(10,V ak.1),(5,V az)] ?_
 obtain ⟨er,U⟩:=aH U
 refine aF rfl trivial (bx rfl rfl (by kernel_rfl:slTy _ _=some (aa bd)) (ck.bR (j:=6) rfl (bl.mono cq) (by omega)) er.1 er.2)<|yq 1 [(70, .pointer (some (bw ar aC (aa bd) 2))),(66,V aN),(65,Pt J 0),(10,V ak.1),(5,V az)] ?_
 obtain ⟨dc,et,U⟩:=ai U
 obtain ⟨gW,fv,fw,gX⟩:=ck.cv (j:=6) rfl (bl.mono cq) (i:=aC) et
 obtain rfl:=u4 fv
 have fx:=dw et
 have eu:=ck.bR (j:=6) rfl (bl.mono cq) fx
 have gY:(baseOf ar).block<eo:=dD (ep.1 _ (au (i:=6) rfl)) eu
 refine dy rfl trivial rfl (by show (baseOf ar).block<_;omega) (aG (v:=V dc.ah) trivial) (bE (w:=V dc.ah) fw rfl (by kernel_rfl)) trivial<|yq 2 [(73,V ak.1),(72,V az),(71,V dc.ah),(66,V aN),(65,Pt J 0)] ?_
 obtain ⟨gZ,fy,U⟩:=ai U
 have ct:St _ _ _ _ _ _ ([.ae J (aB ed ee ab ak.2.R), .gs ab eg (aa aj)]++[.ae I [Pt J 0,v11,V ak.2.Doc, .bool ak.2.aE,aL,V ak.2.aA,V ak.2.Read], .gs v11 c8 (aa av), .gs aL db (aa aw), .ae aM (cX bh), .gs ar bI (aa bd)]):=((ck.front 2 rfl).front 2 rfl)
 obtain ⟨g0,g1,g2,g3,fz,ew,fA,fB,fC,fD,rfl,rfl,fE,fF,fG⟩:=fL F ct.bZ.dW eh ei ej fy
 have dd:=ew.ag
 refine fS rfl trivial ct (cr fz rfl rfl rfl) ew dd (.a3 (ct.bL 4 rfl (jS eu)) (.a3 (ct.bL 0 rfl bU) .nil)) ?_
 intro g4 fH
 refine yf [] ?_
 have fI:=fH.aY
 refine rt<|bj<|bj<|⟨rfl,?_⟩
 obtain rfl:=si U
 obtain rfl:=si hm
 refine ⟨_,_,_,ResL.nil,((((((fI.front 4 rfl).front 4 rfl).front 3 rfl).front 3 rfl).front 4 rfl).takeN 5),?_⟩
 exact ⟨fA,fB,fC,fD,c8,aL,db,rfl,rfl,fE,fF,fG,(en.mono dd),(bJ.mono dd)⟩
 refine xn 0<|dF<|sk<|ek xS ec ?_
 intro dg g5 dh a6
 refine yq 3 [(77,Pt I 4),(0,Pt I 0),(3,Pt aM 0),(5,V az),(6,ar),(7,V aP),(8,V aN),(9,V aC)] ?_
 have g6:I<dg:=dh.1 _ (au (i:=0) rfl) _ (by simp [Itm.ids])
 refine aW (v:=aL) rfl trivial rfl (by show I<_;omega) (aG (v:=aL) (a6.dN (i:=4) rfl)) (a6.aV (i:=0) rfl (by kernel_rfl)) trivial<|yq 3 [(81,Pt I 4),(78,aL),(0,Pt I 0),(3,Pt aM 0),(5,V az),(6,ar),(7,V aP),(8,V aN),(9,V aC)] ?_
 have g7:I<dg:=dh.1 _ (au (i:=0) rfl) _ (by simp [Itm.ids])
 refine aW (v:=aL) rfl trivial rfl (by show I<_;omega) (aG (v:=aL) (a6.dN (i:=4) rfl)) (a6.aV (i:=0) rfl (by kernel_rfl)) trivial<|aF rfl trivial (h7 rfl (a6.dP (i:=4) rfl bJ) ⟨_,Tryz.underlying63⟩)<|yq 1 [(84,V (af ((ak.2.S.length:Int) - 1))),(78,aL),(0,Pt I 0),(3,Pt aM 0),(5,V az),(6,ar),(7,V aP),(8,V aN),(9,V aC)] ?_
 obtain ⟨ey,U⟩:=aH U
 refine aF rfl trivial (bx rfl rfl (by kernel_rfl:slTy _ _=some (aa aw)) (a6.bR (j:=4) rfl bJ (by omega)) ey.1 ey.2)<|yq 1 [(86, .pointer (some (bw aL (af ((ak.2.S.length:Int) - 1)) (aa aw) 3))),(0,Pt I 0),(3,Pt aM 0),(5,V az),(6,ar),(7,V aP),(8,V aN),(9,V aC)] ?_
 obtain ⟨cu,ez,U⟩:=ai U
 obtain ⟨g8,fJ,fK,g9⟩:=a6.cv (j:=4) rfl bJ (i:=af ((ak.2.S.length:Int) - 1)) ez
 obtain rfl:=eI fJ
 have fM:=dw ez
 have fN:=a6.bR (j:=4) rfl bJ fM
 have ha:(baseOf aL).block<dg:=dD (dh.1 _ (au (i:=4) rfl)) fN
 refine dy rfl trivial rfl (by show (baseOf aL).block<_;omega) (aG (v:=V cu.b4) trivial) (bE (w:=V cu.b4) fK rfl (by kernel_rfl)) trivial<|ye 1 [(8,V cu.b4),(0,Pt I 0),(3,Pt aM 0),(5,V az),(6,ar),(7,V aP),(9,V aC)] ?_
 have fO:=a6.aY
 refine gp 3 ?_
 exact ⟨c6,a7 _,⟨_,ak.2.R,ak.2.Rows,ak.2.Doc,ak.2.aE,ak.2.S,ak.2.aA,ak.2.Read,bh,az,cp,aP,cu.b4,af (aC+1),ed,ee,eg,c8,aL,db,aM,ar,bI,U,eh,ei,ej,en,bJ,(bl.mono cq),(by kernel_rfl),fO⟩⟩
 refine xn 0<|dF<|xt 0<|aS ?_
 obtain rfl:=si U
 exact ⟨_,aZ,b9,bB,bD,ca,bF,bG,bh,aP,cb,cc,cd,cf,bH,cg,aM,rfl,dX,dY,dZ,ea,eb,(by kernel_rfl),(ch.takeN 6)⟩
end
end Go.Proofs.YtcilejikekccmaaGreat.M
