/- Packed by a program of this session (mini.py). -/
import Derived.Test.YtcilejikekccmaaWs2
set_option linter.unusedVariables false
set_option linter.unusedSimpArgs false
set_option maxRecDepth 20000
namespace Go.Proofs.Ytcilejikekccmaa.M
open Go Am Sy
open Sy.Cell (rc)
structure aj where
 Code:Int
 ah:Int
 To:Int
 deriving DecidableEq,Inhabited
instance:Cell aj where
 size:=3
 rc Z cs x:=cs=[V x.Code,V x.ah,V x.To]
 len h:=by rw [h];rfl
 mono _ h:=h
 one h:=by rw [h];rfl
 pos:=by decide
theorem mw {Z:Zn} {cs:List Value} {x:aj} (h:rc Z cs x):cs=[V x.Code,V x.ah,V x.To]:=h
abbrev wG (x:aj):List Value:=[V x.Code,V x.ah,V x.To]
instance:FC aj:=⟨wG,fun q=>q⟩
structure aJ where
 L:List ak
 T:cM
 D:List aj
 End:Int
 deriving DecidableEq,Inhabited
instance:Cell aJ where
 size:=4
 rc Z cs x:=∃ v0,RS (α:=ak) Z v0 x.L∧∃ v1,RS (α:=aq) Z v1 x.T.al∧∃ v2,RS (α:=aj) Z v2 x.D∧cs=[v0,v1,v2,V x.End]
 len h:=by obtain ⟨v0,j,v1,I,v2,J,h⟩:=h;rw [h];rfl
 mono hz h:=by obtain ⟨v0,j,v1,I,v2,J,h⟩:=h;exact ⟨v0,j.mono hz,v1,I.mono hz,v2,J.mono hz,h⟩
 one h:=by obtain ⟨v0,j,v1,I,v2,J,h⟩:=h;subst h;exact (a8 j.cW (a8 I.cW (a8 J.cW (a8 rfl cc))))
 pos:=by decide
abbrev ax (v0 v1 v2:Value) (x:aJ):List Value:=[v0,v1,v2,V x.End]
structure ar where
 Node:Int
 Kind:Int
 aC:Int
 bP:Int
 Has:Bool
 deriving DecidableEq,Inhabited
instance:Cell ar where
 size:=5
 rc Z cs x:=cs=[V x.Node,V x.Kind,V x.aC,V x.bP, .bool x.Has]
 len h:=by rw [h];rfl
 mono _ h:=h
 one h:=by rw [h];rfl
 pos:=by decide
theorem dW {Z:Zn} {cs:List Value} {x:ar} (h:rc Z cs x):cs=[V x.Node,V x.Kind,V x.aC,V x.bP, .bool x.Has]:=h
abbrev rS (x:ar):List Value:=[V x.Node,V x.Kind,V x.aC,V x.bP, .bool x.Has]
instance:FC ar:=⟨rS,fun q=>q⟩
structure aS where
 R:aJ
 Rows:List an
 Doc:Int
 az:Bool
 S:List ar
 av:Int
 Read:Int
 deriving DecidableEq,Inhabited
theorem Bs {x y:aj} (h:x=y):aBin Try.prog .eql 92 (.agg #[V x.Code,V x.ah,V x.To]) (.agg #[V y.Code,V y.ah,V y.To])=some (.bool true):=by
 subst h
 refine sV Try.underlying92 (by kernel_rfl) (by kernel_rfl) (w:=true)<|lA (by decide) rfl rfl ((iJ ⟨_,Try.underlying3⟩).trans (by simp))<|lA (by decide) rfl rfl ((iJ ⟨_,Try.underlying3⟩).trans (by simp))<|lA (by decide) rfl rfl ((iJ ⟨_,Try.underlying3⟩).trans (by simp)) ?_
 rfl
theorem D8 {x y:aj} (h:¬ x=y):aBin Try.prog .eql 92 (.agg #[V x.Code,V x.ah,V x.To]) (.agg #[V y.Code,V y.ah,V y.To])=some (.bool false):=by
 refine sV Try.underlying92 (by kernel_rfl) (by kernel_rfl) (w:=false) ?_
 by_cases h0:x.Code=y.Code
 case neg=>exact rB (by decide) rfl rfl ((iJ ⟨_,Try.underlying3⟩).trans (by simp [h0]))
 refine lA (by decide) rfl rfl ((iJ ⟨_,Try.underlying3⟩).trans (by simp [h0])) ?_
 by_cases h1:x.ah=y.ah
 case neg=>exact rB (by decide) rfl rfl ((iJ ⟨_,Try.underlying3⟩).trans (by simp [h1]))
 refine lA (by decide) rfl rfl ((iJ ⟨_,Try.underlying3⟩).trans (by simp [h1])) ?_
 by_cases h2:x.To=y.To
 case neg=>exact rB (by decide) rfl rfl ((iJ ⟨_,Try.underlying3⟩).trans (by simp [h2]))
 refine lA (by decide) rfl rfl ((iJ ⟨_,Try.underlying3⟩).trans (by simp [h2])) ?_
 exact absurd (by cases x;cases y;simp_all) h
def correctorref12_parser_counting_l0 (F:Nat) (a0:aS) (a1:Int) (I:Int):Nat→Int→Option Int
 | 0,_=>none
 | n+1,j=>
  if j<I then
   if 0≤j∧j<(a0.R.L.length:Int) then
    (a0.R.L[j.toNat]?).bind fun J=>
    (fh F J.Kind).bind fun U=>
    if U=true then
     some j
    else
     correctorref12_parser_counting_l0 F a0 a1 I n (af (j+1))
   else none
  else
   some j
def correctorref12_parser_counting_l1 (F:Nat) (a0:aS) (a1:Int) (J:Int):Nat→Int→Int→Option (Int×Int)
 | 0,_,_=>none
 | n+1,I,j=>
  if I<j then
   if 0≤(af (j - 1))∧(af (j - 1))<(a0.R.L.length:Int) then
    (a0.R.L[(af (j - 1)).toNat]?).bind fun U=>
    (fh F U.Kind).bind fun aa=>
    if aa=true then
     some (I,j)
    else
     correctorref12_parser_counting_l1 F a0 a1 J n I (af (j - 1))
   else none
  else
   some (I,j)
def g1 (F:Nat) (a0:aS) (a1:Int) (j:Int):Option (Int×Int):=
 ((correctorref12_parser_counting_l0 F a0 a1 j F a1):Option Int).bind fun o=>match o with
  | I=>((correctorref12_parser_counting_l1 F a0 a1 j F I j):Option (Int×Int)).bind fun o=>match o with
   | (J,U)=>some (J,U)
theorem kv (F:Nat) {h:AH} {Z:Zn} {a0:aS} {a1:Int} {aa:Int} {ah ao v4 v6 aF v11 aG} (hI:Inv Z h) (au:RS (α:=ak) Z v4 a0.R.L) (a3:RS (α:=aq) Z v6 a0.R.T.al) (a4:RS (α:=aj) Z aF a0.R.D) (aI:Z ao=some (ax v4 v6 aF a0.R)) (a5:RS (α:=an) Z v11 a0.Rows) (a7:RS (α:=ar) Z aG a0.S) (aJ:Z ah=some [Pt ao 0,v11,V a0.Doc, .bool a0.az,aG,V a0.av,V a0.Read]) {r:Int×Int} (hm:g1 F a0 a1 aa=some r):
  bU Try.prog 44 [Pt ah 0,V a1,V aa] h Z (.tuple #[V r.1,V r.2]):=by
 refine b1 Try.func44 hI ?_
 intro hs hS
 unfold g1 at hm
 refine sp 2<|sp 4<|sq ?_
 obtain ⟨aB,j,hm⟩:=ai hm
 refine aH [0,8,9] (fun l h=>∃ aK aw,aw=aB∧l=[(0,Pt ah 0),(8,V aw),(9,V aa)]∧St hs [] Z (0,0) aK h []) ?_ ?_
 rintro l a8 ⟨aK,aw,rfl,rfl,aX⟩
 try dsimp only at hm
 refine sq ?_
 obtain ⟨aC,I,hm⟩:=ai hm
 refine aH [8,9] (fun l h=>∃ aL ay aA,(ay,aA)=aC∧l=[(8,V ay),(9,V aA)]∧St hs [] Z (0,0) aL h []) ?_ ?_
 rintro l a9 ⟨aL,ay,aA,rfl,rfl,aY⟩
 try dsimp only at hm
 refine sp 4<|rt<|⟨rfl,?_⟩
 obtain rfl:=si hm
 refine ⟨_,_,_,tk (V ay) (tk (V aA) (ResL.nil)),aY,?_⟩
 exact rfl
 refine bk 2<|lp [0,8,9] (fun n l h=>∃ aM ab ad,correctorref12_parser_counting_l1 F a0 a1 aa n ab ad=some aC∧l=[(0,Pt ah 0),(8,V ab),(9,V ad)]∧St hs [] Z (0,0) aM h []) F ⟨_,aw,aa,I,(by kernel_rfl),aX⟩ ?_
 rintro aD l ba ⟨aM,ab,ad,I,rfl,J⟩
 rcases aD with _ | aD
 cases (show none=some aC from I)
 rw [correctorref12_parser_counting_l1] at I
 refine sq<|s0<|cC 2 I ?_ ?_<;>intro bb I
 refine bu 4 (Pt ao 0) J (J.ag _ _ aJ)<|bu 2 v4 J (J.ag _ _ aI)<|a6 2 I (au.mono J.ag) ?_
 intro bc I
 refine bp 1 0 (fun aP=>V aP.Kind) I (au.mono J.ag) J ?_
 intro aP bd I
 obtain ⟨bf,aZ,I⟩:=ai I
 refine cP 0 J (iS F J.inv aZ) ?_
 rintro _ bg aR rfl
 refine kb 0 48 I ?_ ?_<;>intro bh I
 refine xn 2<|dF<|xt 2<|aN ?_
 obtain rfl:=si I
 exact ⟨_,ab,ad,rfl,(by kernel_rfl),aR⟩
 refine xn 2<|dT<|sk<|bk 3<|gp 3 ?_
 exact ⟨aD,Nat.lt_succ_self _,⟨_,ab,af (ad - 1),I,(by kernel_rfl),aR⟩⟩
 refine xn 16<|dF<|xt 2<|aN ?_
 obtain rfl:=si I
 exact ⟨_,ab,ad,rfl,(by kernel_rfl),J⟩
 refine bk 0<|lp [0,8,9] (fun n l h=>∃ aT ae,correctorref12_parser_counting_l0 F a0 a1 aa n ae=some aB∧l=[(0,Pt ah 0),(8,V ae),(9,V aa)]∧St hs [] Z (0,0) aT h []) F ⟨_,a1,j,(by kernel_rfl),hS⟩ ?_
 rintro aE l bj ⟨aT,ae,j,rfl,U⟩
 rcases aE with _ | aE
 cases (show none=some aB from j)
 rw [correctorref12_parser_counting_l0] at j
 refine sq<|s0<|aO 2 j ?_ ?_<;>intro bl j
 refine bu 4 (Pt ao 0) U (U.ag _ _ aJ)<|bu 2 v4 U (U.ag _ _ aI)<|a6 1 j (au.mono U.ag) ?_
 intro bm j
 refine bp 1 0 (fun aU=>V aU.Kind) j (au.mono U.ag) U ?_
 intro aU bn j
 obtain ⟨bo,a2,j⟩:=ai j
 refine cP 0 U (iS F U.inv a2) ?_
 rintro _ br aW rfl
 refine kb 0 27 j ?_ ?_<;>intro bt j
 refine xn 2<|dF<|xt 0<|aN ?_
 obtain rfl:=si j
 exact ⟨_,ae,rfl,(by kernel_rfl),aW⟩
 refine xn 2<|dT<|sk<|bk 1<|gp 3 ?_
 exact ⟨aE,Nat.lt_succ_self _,⟨_,af (ae+1),j,(by kernel_rfl),aW⟩⟩
 refine xn 15<|dF<|xt 0<|aN ?_
 obtain rfl:=si j
 exact ⟨_,ae,rfl,(by kernel_rfl),U⟩
def jQ (F:Nat) (a0:aS) (a1:Int):Nat→Int→Option Int
 | 0,_=>none
 | n+1,j=>
  if j<(a0.R.L.length:Int) then
   if 0≤j∧j<(a0.R.L.length:Int) then
    (a0.R.L[j.toNat]?).bind fun I=>
    if I.Kind=(20:Int) then
     some j
    else
     if 0≤j∧j<(a0.R.L.length:Int) then
      (a0.R.L[j.toNat]?).bind fun J=>
      if J.Kind=(21:Int) then
       some j
      else
       jQ F a0 a1 n (af (j+1))
     else none
   else none
  else
   some j
def ma (F:Nat) (a0:aS) (a1:Int):Option Int:=
 ((jQ F a0 a1 F a1):Option Int).bind fun o=>match o with
  | j=>some j
theorem AS (F:Nat) {h:AH} {Z:Zn} {a0:aS} {a1:Int} {ad U v4 v6 aw v11 ay} (hI:Inv Z h) (aa:RS (α:=ak) Z v4 a0.R.L) (aF:RS (α:=aq) Z v6 a0.R.T.al) (aG:RS (α:=aj) Z aw a0.R.D) (ae:Z U=some (ax v4 v6 aw a0.R)) (aI:RS (α:=an) Z v11 a0.Rows) (aJ:RS (α:=ar) Z ay a0.S) (ah:Z ad=some [Pt U 0,v11,V a0.Doc, .bool a0.az,ay,V a0.av,V a0.Read]) {r:Int} (hm:ma F a0 a1=some r):
  bU Try.prog 79 [Pt ad 0,V a1] h Z (V r):=by
 refine b1 Try.func79 hI ?_
 intro hs hS
 unfold ma at hm
 refine sp 1<|sp 2<|sq ?_
 obtain ⟨ao,I,hm⟩:=ai hm
 refine aH [5] (fun l h=>∃ aA ab,ab=ao∧l=[(5,V ab)]∧St hs [] Z (0,0) aA h []) ?_ ?_
 rintro l aK ⟨aA,ab,rfl,rfl,aE⟩
 try dsimp only at hm
 refine sp 2<|rt<|⟨rfl,?_⟩
 obtain rfl:=si hm
 refine ⟨_,_,_,tk (V ab) (ResL.nil),aE,?_⟩
 exact rfl
 refine bk 0<|lp [0,5] (fun n l h=>∃ aB J,jQ F a0 a1 n J=some ao∧l=[(0,Pt ad 0),(5,V J)]∧St hs [] Z (0,0) aB h []) F ⟨_,a1,I,(by kernel_rfl),hS⟩ ?_
 rintro au l aL ⟨aB,J,I,rfl,j⟩
 rcases au with _ | au
 cases (show none=some ao from I)
 rw [jQ] at I
 refine sq<|s0<|bu 4 (Pt U 0) j (j.ag _ _ ah)<|bu 2 v4 j (j.ag _ _ ae)<|bM 0 v4 (RS.len (aa.mono j.ag))<|aO 0 I ?_ ?_<;>intro aM I
 refine bu 4 (Pt U 0) j (j.ag _ _ ah)<|bu 2 v4 j (j.ag _ _ ae)<|a6 1 I (aa.mono j.ag) ?_
 intro aP I
 refine bp 1 0 (fun aC=>V aC.Kind) I (aa.mono j.ag) j ?_
 intro aC aR I
 refine cZ 0 I ?_ ?_<;>intro aT I
 refine xn 15<|dF<|xt 0<|aN ?_
 obtain rfl:=si I
 exact ⟨_,J,rfl,(by kernel_rfl),j⟩
 refine bu 5 (Pt U 0) j (j.ag _ _ ah)<|bu 2 v4 j (j.ag _ _ ae)<|a6 1 I (aa.mono j.ag) ?_
 intro aU I
 refine bp 1 0 (fun aD=>V aD.Kind) I (aa.mono j.ag) j ?_
 intro aD aW I
 refine cZ 0 I ?_ ?_<;>intro aX I
 refine xn 1<|dF<|xt 0<|aN ?_
 obtain rfl:=si I
 exact ⟨_,J,rfl,(by kernel_rfl),j⟩
 refine xn 1<|dT<|sk<|bk 1<|gp 3 ?_
 exact ⟨au,Nat.lt_succ_self _,⟨_,af (J+1),I,(by kernel_rfl),j⟩⟩
 refine xn 28<|dF<|xt 0<|aN ?_
 obtain rfl:=si I
 exact ⟨_,J,rfl,(by kernel_rfl),j⟩
def kt (F:Nat) (a0:aJ) (a1:Int):Nat→Int→Option Int
 | 0,_=>none
 | n+1,j=>
  if j<a0.End then
   if 0≤j∧j<(a0.L.length:Int) then
    (a0.L[j.toNat]?).bind fun I=>
    if I.Kind=(3:Int) then
     kt F a0 a1 n (af (j+1))
    else
     some j
   else none
  else
   some j
def kD (F:Nat) (a0:aJ) (a1:Int):Option Int:=
 ((kt F a0 a1 F a1):Option Int).bind fun o=>match o with
  | j=>some j
theorem tF (F:Nat) {h:AH} {Z:Zn} {a0:aJ} {a1:Int} {aa ab ah an} (hI:Inv Z h) (ao:RS (α:=ak) Z ab a0.L) (az:RS (α:=aq) Z ah a0.T.al) (aA:RS (α:=aj) Z an a0.D) (ar:Z aa=some (ax ab ah an a0)) {r:Int} (hm:kD F a0 a1=some r):
  bU Try.prog 88 [Pt aa 0,V a1] h Z (V r):=by
 refine b1 Try.func88 hI ?_
 intro hs hS
 unfold kD at hm
 refine sp 1<|sq ?_
 obtain ⟨ad,j,hm⟩:=ai hm
 refine aH [1] (fun l h=>∃ au U,U=ad∧l=[(1,V U)]∧St hs [] Z (0,0) au h []) ?_ ?_
 rintro l aB ⟨au,U,rfl,rfl,ay⟩
 try dsimp only at hm
 refine sp 2<|rt<|⟨rfl,?_⟩
 obtain rfl:=si hm
 refine ⟨_,_,_,tk (V U) (ResL.nil),ay,?_⟩
 exact rfl
 refine bk 0<|lp [0,1] (fun n l h=>∃ av J,kt F a0 a1 n J=some ad∧l=[(0,Pt aa 0),(1,V J)]∧St hs [] Z (0,0) av h []) F ⟨_,a1,j,(by kernel_rfl),hS⟩ ?_
 rintro ae l aC ⟨av,J,j,rfl,I⟩
 rcases ae with _ | ae
 cases (show none=some ad from j)
 rw [kt] at j
 refine sq<|s0<|bu 4 (V a0.End) I (I.ag _ _ ar)<|aO 0 j ?_ ?_<;>intro aE j
 refine bu 4 ab I (I.ag _ _ ar)<|a6 1 j (ao.mono I.ag) ?_
 intro aF j
 refine bp 1 0 (fun aw=>V aw.Kind) j (ao.mono I.ag) I ?_
 intro aw aG j
 refine aD 0 j ?_ ?_<;>intro aI j
 refine xn 1<|dT<|sk<|bk 1<|gp 3 ?_
 exact ⟨ae,Nat.lt_succ_self _,⟨_,af (J+1),j,(by kernel_rfl),I⟩⟩
 refine xn 1<|dF<|xt 0<|aN ?_
 obtain rfl:=si j
 exact ⟨_,J,rfl,(by kernel_rfl),I⟩
 refine xn 11<|dF<|xt 0<|aN ?_
 obtain rfl:=si j
 exact ⟨_,J,rfl,(by kernel_rfl),I⟩
def ee (F:Nat) (a0:aJ) (a1:Int):Option Int:=
 if a0.End≤a1 then
  some 0
 else
  if 0≤a1∧a1<(a0.L.length:Int) then
   (a0.L[a1.toNat]?).bind fun j=>
   if j.Kind=(20:Int) then
    some 0
   else
    if 0≤a1∧a1<(a0.L.length:Int) then
     (a0.L[a1.toNat]?).bind fun I=>
     if I.Kind=(21:Int) then
      some 0
     else
      if 0≤a1∧a1<(a0.L.length:Int) then
       (a0.L[a1.toNat]?).bind fun J=>
       some J.Kind
      else none
    else none
  else none
theorem e9 (F:Nat) {h:AH} {Z:Zn} {a0:aJ} {a1:Int} {aa I ab ad} (hI:Inv Z h) (j:RS (α:=ak) Z I a0.L) (ag:RS (α:=aq) Z ab a0.T.al) (ah:RS (α:=aj) Z ad a0.D) (J:Z aa=some (ax I ab ad a0)) {r:Int} (hm:ee F a0 a1=some r):
  bU Try.prog 89 [Pt aa 0,V a1] h Z (V r):=by
 refine b1 Try.func89 hI ?_
 intro hs hS
 unfold ee at hm
 refine sp 1<|sq<|s0<|bu 4 (V a0.End) hS J<|cv 0 hm ?_ ?_<;>intro ai hm
 refine xn 22<|dT<|sp 1<|rt<|⟨rfl,?_⟩
 obtain rfl:=si hm
 refine ⟨_,_,_,tk (V 0) (ResL.nil),hS,?_⟩
 exact rfl
 refine bu 4 I hS J<|a6 1 hm j ?_
 intro an hm
 refine bp 1 0 (fun ae=>V ae.Kind) hm j hS ?_
 intro ae ao hm
 refine aD 0 hm ?_ ?_<;>intro ar hm
 refine xn 12<|dT<|sp 1<|rt<|⟨rfl,?_⟩
 obtain rfl:=si hm
 refine ⟨_,_,_,tk (V 0) (ResL.nil),hS,?_⟩
 exact rfl
 refine bu 5 I hS J<|a6 1 hm j ?_
 intro au hm
 refine bp 1 0 (fun af=>V af.Kind) hm j hS ?_
 intro af av hm
 refine aD 0 hm ?_ ?_<;>intro aw hm
 refine xn 1<|dT<|sp 1<|rt<|⟨rfl,?_⟩
 obtain rfl:=si hm
 refine ⟨_,_,_,tk (V 0) (ResL.nil),hS,?_⟩
 exact rfl
 refine xn 1<|dF<|sk<|s0<|bu 3 I hS J<|a6 1 hm j ?_
 intro ay hm
 refine bp 1 0 (fun U=>V U.Kind) hm j hS ?_
 intro U az hm
 refine xn 1<|rt<|⟨rfl,?_⟩
 obtain rfl:=si hm
 refine ⟨_,_,_,tk (V U.Kind) (ResL.nil),hS,?_⟩
 exact rfl
def eg (F:Nat) (a0:aJ) (a1:Int) (I:Int) (J:Int) (U:Int):Option (Int×aJ):=
 (correctorref10_Add F a0.T a1 I J U).bind fun j=>
 some (j.2,(⟨a0.L,j.1,a0.D,a0.End⟩:aJ))
theorem fL (F:Nat) {h:AH} {Z:Zn} {a0:aJ} {a1:Int} {ag:Int} {ah:Int} {an:Int} {U J ab I ad} (hP:Pre Z h [.ae U (ax J ab I a0), .gs I ad (aa aj)]) (aw:RS (α:=ak) Z J a0.L) (ay:RS (α:=aq) Z ab a0.T.al) (az:RCs (α:=aj) Z ad a0.D) {r:Int×aJ} (hm:eg F a0 a1 ag ah an=some r):
  bX Try.prog 67 [Pt U 0,V a1,V ag,V ah,V an] h Z [.ae U (ax J ab I a0), .gs I ad (aa aj)] fun v Z' A'=>∃ v10 ao ar,V r.1=v∧A'=[.ae U (ax v10 ao I r.2), .gs I ar (aa aj)]∧RS (α:=ak) Z' v10 r.2.L∧RS (α:=aq) Z' ao r.2.T.al∧RCs (α:=aj) Z' ar r.2.D:=by
 refine cm Try.func67 hP ?_
 intro hs hS
 unfold eg at hm
 refine sp 1<|s0<|aA 3 0 (.agg #[ab]) hS rfl ?_
 obtain ⟨aB,aC,hm⟩:=ai hm
 refine c0 4 hS (Cx F hS.eQ ay aC) ?_
 rintro _ aG aH _ au aD ⟨j,rfl,rfl,af⟩
 refine df 3 [.slice none 0 0] aD ?_
 intro aI aK aE
 refine bB 0 0 (.agg #[j]) [j] [j] aE rfl rfl (a8 (RS.cW af) cc) ?_
 intro aL av
 refine xn 1<|s0<|aA 1 0 (.agg #[j]) av rfl<|bB 2 1 (.agg #[j]) [j] (ax J j I a0) av rfl rfl (a8 (RS.cW af) cc) ?_
 intro aM aF
 refine xn 0<|sp 2<|rt<|⟨rfl,?_⟩
 obtain rfl:=si hm
 refine ⟨_,_,_,tk (V aB.2) (ResL.nil),(((aF.front 2 rfl).front 2 rfl).takeN 2),?_⟩
 exact ⟨J,j,ad,rfl,rfl,(aw.mono au),af,(az.mono au)⟩
def kN (F:Nat) (a0:aJ) (a1:Int):Nat→Int→Option Int
 | 0,_=>none
 | n+1,j=>
  if j<a0.End then
   if 0≤j∧j<(a0.L.length:Int) then
    (a0.L[j.toNat]?).bind fun I=>
    (fh F I.Kind).bind fun J=>
    if J=true then
     some j
    else
     if 0≤j∧j<(a0.L.length:Int) then
      (a0.L[j.toNat]?).bind fun U=>
      if U.Kind=(1:Int) then
       some j
      else
       kN F a0 a1 n (af (j+1))
     else none
   else none
  else
   some j
def jN (F:Nat) (a0:aJ) (a1:Int):Nat→Int→Option Int
 | 0,_=>none
 | n+1,j=>
  if j<a0.End then
   if 0≤j∧j<(a0.L.length:Int) then
    (a0.L[j.toNat]?).bind fun I=>
    if I.Kind=(19:Int) then
     jN F a0 a1 n (af (j+1))
    else
     some j
   else none
  else
   some j
def mq (F:Nat) (a0:aJ) (a1:Int):Option Int:=
 ((kN F a0 a1 F (af (a1+1))):Option Int).bind fun o=>match o with
  | j=>if a0.End≤j then
   some (af (a1+1))
  else
   if 0≤j∧j<(a0.L.length:Int) then
    (a0.L[j.toNat]?).bind fun I=>
    if I.Kind=(1:Int) then
     if a0.End≤(af (j+1)) then
      some (af (a1+1))
     else
      if 0≤(af (j+1))∧(af (j+1))<(a0.L.length:Int) then
       (a0.L[(af (j+1)).toNat]?).bind fun J=>
       if J.Kind=(19:Int) then
        ((jN F a0 a1 F (af (j+1))):Option Int).bind fun o=>match o with
         | U=>some U
       else
        some (af (a1+1))
      else none
    else
     some (af (a1+1))
   else none
theorem x3 (F:Nat) {h:AH} {Z:Zn} {a0:aJ} {a1:Int} {ao ae aB aC} (hI:Inv Z h) (aa:RS (α:=ak) Z ae a0.L) (aU:RS (α:=aq) Z aB a0.T.al) (aW:RS (α:=aj) Z aC a0.D) (ad:Z ao=some (ax ae aB aC a0)) {r:Int} (hm:mq F a0 a1=some r):
  bU Try.prog 90 [Pt ao 0,V a1] h Z (V r):=by
 refine b1 Try.func90 hI ?_
 intro hs hS
 unfold mq at hm
 refine sp 1<|sp 3<|sq ?_
 obtain ⟨aw,j,hm⟩:=ai hm
 refine aH [0,1,5] (fun l h=>∃ aE au,au=aw∧l=[(0,Pt ao 0),(1,V a1),(5,V au)]∧St hs [] Z (0,0) aE h []) ?_ ?_
 rintro l aX ⟨aE,au,rfl,rfl,I⟩
 try dsimp only at hm
 refine sq<|s0<|bu 4 (V a0.End) I (I.ag _ _ ad)<|cv 0 hm ?_ ?_<;>intro aY hm
 refine xn 32<|dT<|sp 3<|rt<|⟨rfl,?_⟩
 obtain rfl:=si hm
 refine ⟨_,_,_,tk (V (af (a1+1))) (ResL.nil),I,?_⟩
 exact rfl
 refine bu 4 ae I (I.ag _ _ ad)<|a6 1 hm (aa.mono I.ag) ?_
 intro aZ hm
 refine bp 1 0 (fun aF=>V aF.Kind) hm (aa.mono I.ag) I ?_
 intro aF a2 hm
 refine cZ 0 hm ?_ ?_<;>intro a3 hm
 refine bu 7 (V a0.End) I (I.ag _ _ ad)<|cv 0 hm ?_ ?_<;>intro a4 hm
 refine xn 13<|dT<|sp 3<|rt<|⟨rfl,?_⟩
 obtain rfl:=si hm
 refine ⟨_,_,_,tk (V (af (a1+1))) (ResL.nil),I,?_⟩
 exact rfl
 refine bu 5 ae I (I.ag _ _ ad)<|a6 2 hm (aa.mono I.ag) ?_
 intro a5 hm
 refine bp 1 0 (fun aG=>V aG.Kind) hm (aa.mono I.ag) I ?_
 intro aG a7 hm
 refine cZ 0 hm ?_ ?_<;>intro a8 hm
 refine xn 1<|dF<|sk<|sp 3<|sq ?_
 obtain ⟨ay,J,hm⟩:=ai hm
 refine aH [5] (fun l h=>∃ aI av,av=ay∧l=[(5,V av)]∧St hs [] Z (0,0) aI h []) ?_ ?_
 rintro l a9 ⟨aI,av,rfl,rfl,aS⟩
 try dsimp only at hm
 refine sp 2<|rt<|⟨rfl,?_⟩
 obtain rfl:=si hm
 refine ⟨_,_,_,tk (V av) (ResL.nil),aS,?_⟩
 exact rfl
 refine bk 2<|lp [0,5] (fun n l h=>∃ aK an,jN F a0 a1 n an=some ay∧l=[(0,Pt ao 0),(5,V an)]∧St hs [] Z (0,0) aK h []) F ⟨_,af (au+1),J,(by kernel_rfl),I⟩ ?_
 rintro az l ba ⟨aK,an,J,rfl,ab⟩
 rcases az with _ | az
 cases (show none=some ay from J)
 rw [jN] at J
 refine sq<|s0<|bu 4 (V a0.End) ab (ab.ag _ _ ad)<|aO 0 J ?_ ?_<;>intro bb J
 refine bu 4 ae ab (ab.ag _ _ ad)<|a6 1 J (aa.mono ab.ag) ?_
 intro bc J
 refine bp 1 0 (fun aL=>V aL.Kind) J (aa.mono ab.ag) ab ?_
 intro aL bd J
 refine aD 0 J ?_ ?_<;>intro bf J
 refine xn 1<|dT<|sk<|bk 3<|gp 3 ?_
 exact ⟨az,Nat.lt_succ_self _,⟨_,af (an+1),J,(by kernel_rfl),ab⟩⟩
 refine xn 1<|dF<|xt 2<|aN ?_
 obtain rfl:=si J
 exact ⟨_,an,rfl,(by kernel_rfl),ab⟩
 refine xn 11<|dF<|xt 2<|aN ?_
 obtain rfl:=si J
 exact ⟨_,an,rfl,(by kernel_rfl),ab⟩
 refine xn 1<|dT<|sp 3<|rt<|⟨rfl,?_⟩
 obtain rfl:=si hm
 refine ⟨_,_,_,tk (V (af (a1+1))) (ResL.nil),I,?_⟩
 exact rfl
 refine xn 22<|dT<|sp 3<|rt<|⟨rfl,?_⟩
 obtain rfl:=si hm
 refine ⟨_,_,_,tk (V (af (a1+1))) (ResL.nil),I,?_⟩
 exact rfl
 refine bk 0<|lp [0,1,5] (fun n l h=>∃ aM ah,kN F a0 a1 n ah=some aw∧l=[(0,Pt ao 0),(1,V a1),(5,V ah)]∧St hs [] Z (0,0) aM h []) F ⟨_,af (a1+1),j,(by kernel_rfl),hS⟩ ?_
 rintro aA l bg ⟨aM,ah,j,rfl,U⟩
 rcases aA with _ | aA
 cases (show none=some aw from j)
 rw [kN] at j
 refine sq<|s0<|bu 4 (V a0.End) U (U.ag _ _ ad)<|aO 0 j ?_ ?_<;>intro bh j
 refine bu 4 ae U (U.ag _ _ ad)<|a6 1 j (aa.mono U.ag) ?_
 intro bj j
 refine bp 1 0 (fun aP=>V aP.Kind) j (aa.mono U.ag) U ?_
 intro aP bl j
 obtain ⟨bm,aT,j⟩:=ai j
 refine cP 0 U (iS F U.inv aT) ?_
 rintro _ bn ar rfl
 refine kb 0 23 j ?_ ?_<;>intro bo j
 refine xn 13<|dF<|xt 0<|aN ?_
 obtain rfl:=si j
 exact ⟨_,ah,rfl,(by kernel_rfl),ar⟩
 refine bu 6 ae ar (U.ag _ _ ad)<|a6 1 j (aa.mono U.ag) ?_
 intro br j
 refine bp 1 0 (fun aR=>V aR.Kind) j (aa.mono U.ag) ar ?_
 intro aR bt j
 refine cZ 0 j ?_ ?_<;>intro bw j
 refine xn 1<|dF<|xt 0<|aN ?_
 obtain rfl:=si j
 exact ⟨_,ah,rfl,(by kernel_rfl),ar⟩
 refine xn 1<|dT<|sk<|bk 1<|gp 3 ?_
 exact ⟨aA,Nat.lt_succ_self _,⟨_,af (ah+1),j,(by kernel_rfl),ar⟩⟩
 refine xn 23<|dF<|xt 0<|aN ?_
 obtain rfl:=si j
 exact ⟨_,ah,rfl,(by kernel_rfl),U⟩
def iY (F:Nat) (a0:Int):Option Bool:=
 if a0=(8:Int) then
  some true
 else
  if a0=(9:Int) then
   some true
  else
   some false
theorem nW (F:Nat) {h:AH} {Z:Zn} {a0:Int} (hI:Inv Z h) {r:Bool} (hm:iY F a0=some r):
  bU Try.prog 91 [V a0] h Z (.bool r):=by
 refine b1 Try.func91 hI ?_
 intro hs hS
 unfold iY at hm
 refine sp 1<|s0<|aD 1 hm ?_ ?_<;>intro j hm
 refine xn 5<|rt<|⟨rfl,?_⟩
 obtain rfl:=si hm
 refine ⟨_,_,_,tk (.bool true) (ResL.nil),hS,?_⟩
 exact rfl
 refine aD 2 hm ?_ ?_<;>intro I hm
 refine xn 2<|rt<|⟨rfl,?_⟩
 obtain rfl:=si hm
 refine ⟨_,_,_,tk (.bool true) (ResL.nil),hS,?_⟩
 exact rfl
 refine xn 2<|rt<|⟨rfl,?_⟩
 obtain rfl:=si hm
 refine ⟨_,_,_,tk (.bool false) (ResL.nil),hS,?_⟩
 exact rfl
def iw (F:Nat) (a0:Int):Option Bool:=
 if a0=(10:Int) then
  some true
 else
  if a0=(11:Int) then
   some true
  else
   some false
theorem mJ (F:Nat) {h:AH} {Z:Zn} {a0:Int} (hI:Inv Z h) {r:Bool} (hm:iw F a0=some r):
  bU Try.prog 99 [V a0] h Z (.bool r):=by
 refine b1 Try.func99 hI ?_
 intro hs hS
 unfold iw at hm
 refine sp 1<|s0<|aD 1 hm ?_ ?_<;>intro j hm
 refine xn 5<|rt<|⟨rfl,?_⟩
 obtain rfl:=si hm
 refine ⟨_,_,_,tk (.bool true) (ResL.nil),hS,?_⟩
 exact rfl
 refine aD 2 hm ?_ ?_<;>intro I hm
 refine xn 2<|rt<|⟨rfl,?_⟩
 obtain rfl:=si hm
 refine ⟨_,_,_,tk (.bool true) (ResL.nil),hS,?_⟩
 exact rfl
 refine xn 2<|rt<|⟨rfl,?_⟩
 obtain rfl:=si hm
 refine ⟨_,_,_,tk (.bool false) (ResL.nil),hS,?_⟩
 exact rfl
def jI (F:Nat) (a0:aJ) (a1:Int) (I:Int):Nat→Int→Option Int
 | 0,_=>none
 | n+1,j=>
  if I<j then
   if 0≤(af (j - 1))∧(af (j - 1))<(a0.L.length:Int) then
    (a0.L[(af (j - 1)).toNat]?).bind fun J=>
    (fh F J.Kind).bind fun U=>
    if U=true then
     some j
    else
     jI F a0 a1 I n (af (j - 1))
   else none
  else
   some j
def jg (F:Nat) (a0:aJ) (a1:Int) (j:Int):Option Int:=
 ((jI F a0 a1 j F a1):Option Int).bind fun o=>match o with
  | I=>some I
theorem o8 (F:Nat) {h:AH} {Z:Zn} {a0:aJ} {a1:Int} {U:Int} {ab ad an ao} (hI:Inv Z h) (ar:RS (α:=ak) Z ad a0.L) (aC:RS (α:=aq) Z an a0.T.al) (aD:RS (α:=aj) Z ao a0.D) (az:Z ab=some (ax ad an ao a0)) {r:Int} (hm:jg F a0 a1 U=some r):
  bU Try.prog 94 [Pt ab 0,V a1,V U] h Z (V r):=by
 refine b1 Try.func94 hI ?_
 intro hs hS
 unfold jg at hm
 refine sp 1<|sq ?_
 obtain ⟨ae,j,hm⟩:=ai hm
 refine aH [1] (fun l h=>∃ au aa,aa=ae∧l=[(1,V aa)]∧St hs [] Z (0,0) au h []) ?_ ?_
 rintro l aE ⟨au,aa,rfl,rfl,aA⟩
 try dsimp only at hm
 refine sp 2<|rt<|⟨rfl,?_⟩
 obtain rfl:=si hm
 refine ⟨_,_,_,tk (V aa) (ResL.nil),aA,?_⟩
 exact rfl
 refine bk 0<|lp [0,1,2] (fun n l h=>∃ av J,jI F a0 a1 U n J=some ae∧l=[(0,Pt ab 0),(1,V J),(2,V U)]∧St hs [] Z (0,0) av h []) F ⟨_,a1,j,(by kernel_rfl),hS⟩ ?_
 rintro ah l aF ⟨av,J,j,rfl,I⟩
 rcases ah with _ | ah
 cases (show none=some ae from j)
 rw [jI] at j
 refine sq<|s0<|cC 2 j ?_ ?_<;>intro aG j
 refine bu 4 ad I (I.ag _ _ az)<|a6 2 j (ar.mono I.ag) ?_
 intro aI j
 refine bp 1 0 (fun aw=>V aw.Kind) j (ar.mono I.ag) I ?_
 intro aw aK j
 obtain ⟨aL,aB,j⟩:=ai j
 refine cP 0 I (iS F I.inv aB) ?_
 rintro _ aM ay rfl
 refine kb 0 20 j ?_ ?_<;>intro aO j
 refine xn 2<|dF<|xt 0<|aN ?_
 obtain rfl:=si j
 exact ⟨_,J,rfl,(by kernel_rfl),ay⟩
 refine xn 2<|dT<|sk<|bk 1<|gp 3 ?_
 exact ⟨ah,Nat.lt_succ_self _,⟨_,af (J - 1),j,(by kernel_rfl),ay⟩⟩
 refine xn 13<|dF<|xt 0<|aN ?_
 obtain rfl:=si j
 exact ⟨_,J,rfl,(by kernel_rfl),I⟩
def jt (F:Nat) (a0:aJ) (a1:Int):Nat→Int→Int→Option (Sum Unit Int)
 | 0,_,_=>none
 | n+1,I,j=>
  (ee F a0 j).bind fun aa=>
  if (0:Int)<aa then
   (((ee F a0 j).bind fun ab=>
    (iY F ab).bind fun ad=>
    if ad=true then
     some (af (I+1))
    else
     some I):Option Int).bind fun o=>match o with
    | J=>(((ee F a0 j).bind fun ae=>
     (iw F ae).bind fun ag=>
     if ag=true then
      some (af (J - 1))
     else
      some J):Option Int).bind fun o=>match o with
     | U=>if U=(0:Int) then
      some (.inr (af (j+1)))
     else
      jt F a0 a1 n U (af (j+1))
  else
   some (.inl ())
def j4 (F:Nat) (a0:aJ) (a1:Int):Nat→Int→Option Int
 | 0,_=>none
 | n+1,j=>
  (ee F a0 j).bind fun I=>
  if (0:Int)<I then
   j4 F a0 a1 n (af (j+1))
  else
   some j
def correctorref11_Reader_balanced (F:Nat) (a0:aJ) (a1:Int):Option Int:=
 ((jt F a0 a1 F 0 a1):Option (Sum Unit Int)).bind fun o=>match o with
  | .inl ()=>((j4 F a0 a1 F a1):Option Int).bind fun o=>match o with
   | j=>(jg F a0 j (af (a1+1))).bind fun I=>
   some I
  | .inr y=>some y
theorem yp (F:Nat) {h:AH} {Z:Zn} {a0:aJ} {a1:Int} {U aK aL aM} (hI:Inv Z h) (ao:RS (α:=ak) Z aK a0.L) (ar:RS (α:=aq) Z aL a0.T.al) (au:RS (α:=aj) Z aM a0.D) (av:Z U=some (ax aK aL aM a0)) {r:Int} (hm:correctorref11_Reader_balanced F a0 a1=some r):
  bU Try.prog 92 [Pt U 0,V a1] h Z (V r):=by
 refine b1 Try.func92 hI ?_
 intro hs hS
 unfold correctorref11_Reader_balanced at hm
 refine sp 1<|sp 1<|sq<|sp 2 ?_
 obtain ⟨aB,j,hm⟩:=ai hm
 refine aH [0,1] (fun l h=>∃ aO, .inl ()=aB∧l=[(0,Pt U 0),(1,V a1)]∧St hs [] Z (0,0) aO h []) ?_ ?_
 rintro l bj ⟨aO,rfl,rfl,a4⟩
 try dsimp only at hm
 refine sp 2<|sq ?_
 obtain ⟨aC,I,hm⟩:=ai hm
 refine aH [0,1,7] (fun l h=>∃ aP aE,aE=aC∧l=[(0,Pt U 0),(1,V a1),(7,V aE)]∧St hs [] Z (0,0) aP h []) ?_ ?_
 rintro l bl ⟨aP,aE,rfl,rfl,ae⟩
 try dsimp only at hm
 refine s0 ?_
 obtain ⟨a5,a6,hm⟩:=ai hm
 refine cP 4 ae (o8 F ae.inv (ao.mono ae.ag) (ar.mono ae.ag) (au.mono ae.ag) (ae.ag _ _ av) a6) ?_
 rintro _ bm a7 rfl
 refine xn 1<|rt<|⟨rfl,?_⟩
 obtain rfl:=si hm
 refine ⟨_,_,_,tk (V a5) (ResL.nil),a7,?_⟩
 exact rfl
 refine bk 2<|lp [0,1,7] (fun n l h=>∃ aR aw,j4 F a0 a1 n aw=some aC∧l=[(0,Pt U 0),(1,V a1),(7,V aw)]∧St hs [] Z (0,0) aR h []) F ⟨_,a1,I,(by kernel_rfl),a4⟩ ?_
 rintro aF l bn ⟨aR,aw,I,rfl,ah⟩
 rcases aF with _ | aF
 cases (show none=some aC from I)
 rw [j4] at I
 refine sq<|s0 ?_
 obtain ⟨bo,a8,I⟩:=ai I
 refine cP 2 ah (e9 F ah.inv (ao.mono ah.ag) (ar.mono ah.ag) (au.mono ah.ag) (ah.ag _ _ av) a8) ?_
 rintro _ bp aS rfl
 refine cC 0 I ?_ ?_<;>intro br I
 refine xn 0<|dT<|sk<|bk 3<|gp 3 ?_
 exact ⟨aF,Nat.lt_succ_self _,⟨_,af (aw+1),I,(by kernel_rfl),aS⟩⟩
 refine xn 0<|dF<|xt 2<|aN ?_
 obtain rfl:=si I
 exact ⟨_,aw,rfl,(by kernel_rfl),aS⟩
 refine bk 0<|lp [0,1,5,6] (fun n l h=>∃ aT ay ad,jt F a0 a1 n ay ad=some aB∧l=[(0,Pt U 0),(1,V a1),(5,V ay),(6,V ad)]∧St hs [] Z (0,0) aT h []) F ⟨_,0,a1,j,(by kernel_rfl),hS⟩ ?_
 rintro aG l bt ⟨aT,ay,ad,j,rfl,J⟩
 rcases aG with _ | aG
 cases (show none=some aB from j)
 rw [jt] at j
 refine sq<|s0 ?_
 obtain ⟨bu,a9,j⟩:=ai j
 refine cP 2 J (e9 F J.inv (ao.mono J.ag) (ar.mono J.ag) (au.mono J.ag) (J.ag _ _ av) a9) ?_
 rintro _ bw aI rfl
 refine cC 0 j ?_ ?_<;>intro bx j
 refine xn 0<|dT<|sk<|sq<|bk 1<|sq ?_
 obtain ⟨bb,aa,j⟩:=ai j
 refine aH [0,1,5,6] (fun l h=>∃ aU az,az=bb∧l=[(0,Pt U 0),(1,V a1),(5,V az),(6,V ad)]∧St hs [] Z (0,0) aU h []) ?_ ?_
 rintro l bz ⟨aU,az,rfl,rfl,an⟩
 try dsimp only at j
 refine sq ?_
 obtain ⟨bc,ab,j⟩:=ai j
 refine aH [0,1,5,6] (fun l h=>∃ aW aA,aA=bc∧l=[(0,Pt U 0),(1,V a1),(5,V aA),(6,V ad)]∧St hs [] Z (0,0) aW h []) ?_ ?_
 rintro l bA ⟨aW,aA,rfl,rfl,aX⟩
 try dsimp only at j
 refine s0<|aD 1 j ?_ ?_<;>intro bB j
 refine xn 0<|dT<|sp 3<|rt<|ba<|ba<|⟨rfl,?_⟩
 obtain rfl:=si j
 obtain rfl:=si hm
 refine ⟨_,_,_,tk (V (af (ad+1))) (ResL.nil),aX,?_⟩
 exact rfl
 refine xn 0<|dF<|sk<|gp 3 ?_
 exact ⟨aG,Nat.lt_succ_self _,⟨_,aA,af (ad+1),j,(by kernel_rfl),aX⟩⟩
 refine s0 ?_
 obtain ⟨bC,bd,ab⟩:=ai ab
 refine cP 2 an (e9 F an.inv (ao.mono an.ag) (ar.mono an.ag) (au.mono an.ag) (an.ag _ _ av) bd) ?_
 rintro _ bD aY rfl
 obtain ⟨bE,bf,ab⟩:=ai ab
 refine cP 0 aY (mJ F aY.inv bf) ?_
 rintro _ bF aZ rfl
 refine xn 0<|db ab ?_ ?_<;>intro bG ab
 refine gp 3 ?_
 obtain rfl:=si ab
 exact ⟨_,af (az - 1),rfl,(by kernel_rfl),aZ⟩
 refine sk ?_
 obtain rfl:=si ab
 exact ⟨_,az,rfl,(by kernel_rfl),aZ⟩
 refine s0 ?_
 obtain ⟨bH,bg,aa⟩:=ai aa
 refine cP 2 aI (e9 F aI.inv (ao.mono J.ag) (ar.mono J.ag) (au.mono J.ag) (J.ag _ _ av) bg) ?_
 rintro _ bI a2 rfl
 obtain ⟨bJ,bh,aa⟩:=ai aa
 refine cP 0 a2 (nW F a2.inv bh) ?_
 rintro _ bK a3 rfl
 refine xn 0<|db aa ?_ ?_<;>intro bL aa
 refine gp 3 ?_
 obtain rfl:=si aa
 exact ⟨_,af (ay+1),rfl,(by kernel_rfl),a3⟩
 refine sk ?_
 obtain rfl:=si aa
 exact ⟨_,ay,rfl,(by kernel_rfl),a3⟩
 refine xn 0<|dF<|xt 0<|aN ?_
 obtain rfl:=si j
 exact ⟨_,rfl,(by kernel_rfl),aI⟩
def yu:List bq:=[uP 17 (mv 0),uP 18 (mv 0),uP 19 (nk 18),uP 20 (fa 58 19 2),uL 21 (ld 28 20),uP 22 (mv 4),uP 23 (mv 0),uP 24 (nk 23),uP 25 (fa 58 24 0),uL 26 (ld 24 25),uP 27 (mv 2),uP 28 (ia 24 26 27),uP 29 (fa 85 28 1),uL 30 (ld 3 29),uP 31 (mv 0),uP 32 (nk 31),uP 33 (fa 58 32 0),uL 34 (ld 24 33),uP 35 (mv 3),uP 36 (bc .sub 3 35 1 3),uP 37 (ia 24 34 36),uP 38 (fa 85 37 2),uL 39 (ld 3 38),uP 40 (.build 92 #[(0,(t 22)),(1,(t 30)),(2,(t 39))]),uF 41 (.buildSlice 28 1 #[(0,(t 40))]) .fresh [],uF 42 (cb .append #[(t 21),(t 41)] #[28,28]) .make [4,9,13,17,22],uP 43 (nk 17),uP 44 (fa 58 43 2),oF (.store 28 (t 44) (t 42)) .make [4,9,13,17,22]]
def dM (F:Nat) (a0:aJ) (a1:Int) (I:Int) (J:Int) (U:Int):Option (Int×aJ):=
 (eg F a0 a1 11 I J).bind fun j=>
 if 0≤I∧I<(j.2.L.length:Int) then
  (j.2.L[I.toNat]?).bind fun aa=>
  if 0≤(af (J - 1))∧(af (J - 1))<(j.2.L.length:Int) then
   (j.2.L[(af (J - 1)).toNat]?).bind fun ab=>
   if j.2.D.length+[(⟨U,aa.ah,ab.To⟩:aj)].length≤5864062014805 then
    some (j.1,(⟨j.2.L,j.2.T,j.2.D++[(⟨U,aa.ah,ab.To⟩:aj)],j.2.End⟩:aJ))
   else none
  else none
 else none
theorem fk (F:Nat) {h:AH} {Z:Zn} {a0:aJ} {a1:Int} {ar:Int} {an:Int} {J:Int} {I aA aC U aD} (hP:Pre Z h [.ae I (ax aA aC U a0), .gs U aD (aa aj)]) (aZ:RS (α:=ak) Z aA a0.L) (a2:RS (α:=aq) Z aC a0.T.al) (a3:RCs (α:=aj) Z aD a0.D) {r:Int×aJ} (hm:dM F a0 a1 ar an J=some r):
  bX Try.prog 46 [Pt I 0,V a1,V ar,V an,V J] h Z [.ae I (ax aA aC U a0), .gs U aD (aa aj)] fun v Z' A'=>∃ v10 aI aL aN,V r.1=v∧A'=[.ae I (ax v10 aI aL r.2), .gs aL aN (aa aj)]∧RS (α:=ak) Z' v10 r.2.L∧RS (α:=aq) Z' aI r.2.T.al∧RCs (α:=aj) Z' aN r.2.D:=by
 refine cm Try.func46 hP ?_
 intro hs hS
 unfold dM at hm
 refine sp 1<|s0 ?_
 obtain ⟨ab,a4,hm⟩:=ai hm
 refine cA 4 hS (fun p=>fL F p aZ a2 a3 a4) ?_
 rintro _ bp a6 _ br a7 ⟨ad,ay,a9,rfl,rfl,au,ba,bb⟩
 refine xn 1<|cT yu a7 ?_
 intro aE bt aG av
 refine yq 4 [(20,Pt I 2),(17,Pt I 0),(11,V ab.1),(0,Pt I 0),(2,V ar),(3,V an),(4,V J)] ?_
 have bu:I<aE:=aG.1 _ (List.mem_of_getElem? (i:=0) rfl) _ (by simp [Itm.ids])
 refine aU (v:=U) rfl trivial rfl (by show I<_;omega) (aB (v:=U) (av.dk (i:=1) rfl)) (av.aP (i:=0) rfl (by kernel_rfl)) trivial<|yq 4 [(25,Pt I 0),(22,V J),(21,U),(17,Pt I 0),(11,V ab.1),(0,Pt I 0),(2,V ar),(3,V an)] ?_
 have bw:I<aE:=aG.1 _ (List.mem_of_getElem? (i:=0) rfl) _ (by simp [Itm.ids])
 refine aU (v:=ad) rfl trivial rfl (by show I<_;omega) (aB (v:=ad) (RS.dD au)) (av.aP (i:=0) rfl (by kernel_rfl)) trivial<|yq 1 [(27,V ar),(26,ad),(22,V J),(21,U),(17,Pt I 0),(11,V ab.1),(0,Pt I 0),(3,V an)] ?_
 obtain ⟨aO,hm⟩:=aK hm
 refine aF rfl trivial (bG rfl rfl (by kernel_rfl:slTy _ _=some (aa ak)) (RS.cU au (by omega)) aO.1 aO.2)<|yq 1 [(29, .pointer (some (bh ad ar (aa ak) 1))),(22,V J),(21,U),(17,Pt I 0),(11,V ab.1),(0,Pt I 0),(3,V an)] ?_
 obtain ⟨ag,bc,hm⟩:=ai hm
 obtain ⟨bx,bd,bf⟩:=RS.cp au (i:=ar) bc
 obtain rfl:=eu bd
 refine cG rfl rfl trivial (fun h2 hz=>bK (w:=V ag.ah) (bf h2 hz) rfl (by kernel_rfl)) (av.bV (aM.refl _)) (aB (v:=V ag.ah) trivial) trivial<|yq 3 [(33,Pt I 0),(30,V ag.ah),(22,V J),(21,U),(17,Pt I 0),(11,V ab.1),(3,V an)] ?_
 have bB:I<aE:=aG.1 _ (List.mem_of_getElem? (i:=0) rfl) _ (by simp [Itm.ids])
 refine aU (v:=ad) rfl trivial rfl (by show I<_;omega) (aB (v:=ad) (RS.dD au)) (av.aP (i:=0) rfl (by kernel_rfl)) trivial<|yq 2 [(36,V (af (an - 1))),(34,ad),(30,V ag.ah),(22,V J),(21,U),(17,Pt I 0),(11,V ab.1)] ?_
 obtain ⟨aR,hm⟩:=aK hm
 refine aF rfl trivial (bG rfl rfl (by kernel_rfl:slTy _ _=some (aa ak)) (RS.cU au (by omega)) aR.1 aR.2)<|yq 1 [(38, .pointer (some (bh ad (af (an - 1)) (aa ak) 2))),(30,V ag.ah),(22,V J),(21,U),(17,Pt I 0),(11,V ab.1)] ?_
 obtain ⟨ao,bg,hm⟩:=ai hm
 obtain ⟨bC,bj,bk⟩:=RS.cp au (i:=af (an - 1)) bg
 obtain rfl:=eu bj
 refine cG rfl rfl trivial (fun h2 hz=>bK (w:=V ao.To) (bk h2 hz) rfl (by kernel_rfl)) (av.bV (aM.refl _)) (aB (v:=V ao.To) trivial) trivial<|yq 1 [(40, .agg #[V J,V ag.ah,V ao.To]),(21,U),(17,Pt I 0),(11,V ab.1)] ?_
 have bl:RCs (α:=aj) a6 [V J,V ag.ah,V ao.To] [(⟨J,ag.ah,ao.To⟩:aj)]:=RCs.cons (cs:=[V J,V ag.ah,V ao.To]) rfl (RCs.bA _)
 refine jc rfl trivial (c6 (cells:=[V J,V ag.ah,V ao.To]) (s:=3) (by kernel_rfl)) (by kernel_rfl) av (by omega) (Nat.add_lt_add_left (by decide) _) ?_
 intro aS bD bE bF bI aW
 obtain ⟨bJ,hm⟩:=aK hm
 have az:St _ _ _ _ _ _ ([.gs U a9 (aa aj)]++[.gs aS [V J,V ag.ah,V ao.To] (aa aj), .ae I (ax ad ay U ab.2)]):=(aW.front 2 rfl)
 refine iT rfl trivial az (dZ (ys:=[(⟨J,ag.ah,ao.To⟩:aj)]) (b4:=24) az.sub (i:=0) rfl bb ((aW.cD).eK (j:=0) rfl bl) rfl rfl (by kernel_rfl) (by omega) (by omega)) (aM.refl _) (.aT trivial (.aT (az.bz 1 rfl bH) (.aT trivial (.aT (az.bz 1 rfl bH) (.aT (az.bz 1 rfl bH) .nil))))) ?_
 rintro aw aX bL ⟨bm,aH⟩
 refine yq 2 [(44,Pt I 2),(42,aw),(11,V ab.1)] ?_
 have aY:St _ _ _ _ _ _ ([.ae I (ax ad ay U ab.2)]++[.gs aw aX (aa aj), .gs aS [V J,V ag.ah,V ao.To] (aa aj)]):=(aH.front 2 rfl)
 refine fM rfl trivial aY (fI (vs:=[aw]) (cr:=(ax ad ay aw ab.2)) (L':=[.ae I (ax ad ay aw ab.2)]) aY.sub (i:=0) rfl rfl rfl (aH.gb (i:=0) rfl) (by kernel_rfl) (a8 (aH.fV (i:=0) rfl) cc) rfl rfl rfl) (aM.refl _) (.aT trivial (.drop (by decide) (.aT trivial (.drop (by decide) (.drop (by decide) .nil))))) ?_
 intro bM bn
 refine yf [(11,V ab.1)] ?_
 have bo:=bn.a5
 refine sp 2<|rt<|⟨rfl,?_⟩
 obtain rfl:=si hm
 refine ⟨_,_,_,tk (V ab.1) (ResL.nil),(bo.takeN 2),?_⟩
 exact ⟨ad,ay,aw,aX,rfl,rfl,au,ba,bm⟩
def kI (F:Nat) (a0:aJ) (a1:Int):Nat→Int→Option Int
 | 0,_=>none
 | n+1,j=>
  if j<a0.End then
   if 0≤j∧j<(a0.L.length:Int) then
    (a0.L[j.toNat]?).bind fun I=>
    (fh F I.Kind).bind fun J=>
    if J=true then
     some j
    else
     kI F a0 a1 n (af (j+1))
   else none
  else
   some j
def h3 (F:Nat) (a0:aJ) (a1:Int):Option Int:=
 ((kI F a0 a1 F a1):Option Int).bind fun o=>match o with
  | j=>some j
theorem oV (F:Nat) {h:AH} {Z:Zn} {a0:aJ} {a1:Int} {aa ab ah an} (hI:Inv Z h) (ao:RS (α:=ak) Z ab a0.L) (aB:RS (α:=aq) Z ah a0.T.al) (aC:RS (α:=aj) Z an a0.D) (ar:Z aa=some (ax ab ah an a0)) {r:Int} (hm:h3 F a0 a1=some r):
  bU Try.prog 100 [Pt aa 0,V a1] h Z (V r):=by
 refine b1 Try.func100 hI ?_
 intro hs hS
 unfold h3 at hm
 refine sp 1<|sq ?_
 obtain ⟨ad,j,hm⟩:=ai hm
 refine aH [1] (fun l h=>∃ au U,U=ad∧l=[(1,V U)]∧St hs [] Z (0,0) au h []) ?_ ?_
 rintro l aD ⟨au,U,rfl,rfl,az⟩
 try dsimp only at hm
 refine sp 2<|rt<|⟨rfl,?_⟩
 obtain rfl:=si hm
 refine ⟨_,_,_,tk (V U) (ResL.nil),az,?_⟩
 exact rfl
 refine bk 0<|lp [0,1] (fun n l h=>∃ av J,kI F a0 a1 n J=some ad∧l=[(0,Pt aa 0),(1,V J)]∧St hs [] Z (0,0) av h []) F ⟨_,a1,j,(by kernel_rfl),hS⟩ ?_
 rintro ae l aE ⟨av,J,j,rfl,I⟩
 rcases ae with _ | ae
 cases (show none=some ad from j)
 rw [kI] at j
 refine sq<|s0<|bu 4 (V a0.End) I (I.ag _ _ ar)<|aO 0 j ?_ ?_<;>intro aF j
 refine bu 4 ab I (I.ag _ _ ar)<|a6 1 j (ao.mono I.ag) ?_
 intro aG j
 refine bp 1 0 (fun aw=>V aw.Kind) j (ao.mono I.ag) I ?_
 intro aw aI j
 obtain ⟨aK,aA,j⟩:=ai j
 refine cP 0 I (iS F I.inv aA) ?_
 rintro _ aL ay rfl
 refine kb 0 20 j ?_ ?_<;>intro aM j
 refine xn 2<|dF<|xt 0<|aN ?_
 obtain rfl:=si j
 exact ⟨_,J,rfl,(by kernel_rfl),ay⟩
 refine xn 2<|dT<|sk<|bk 1<|gp 3 ?_
 exact ⟨ae,Nat.lt_succ_self _,⟨_,af (J+1),j,(by kernel_rfl),ay⟩⟩
 refine xn 12<|dF<|xt 0<|aN ?_
 obtain rfl:=si j
 exact ⟨_,J,rfl,(by kernel_rfl),I⟩
def jd (F:Nat) (a0:aJ) (a1:Int):Nat→Int→Option Int
 | 0,_=>none
 | n+1,j=>
  (((ee F a0 j).bind fun I=>
   if I=(12:Int) then
    some (.inl ())
   else
    (ee F a0 j).bind fun J=>
    if J=(14:Int) then
     some (.inl ())
    else
     some (.inr j)):Option (Sum Unit Int)).bind fun o=>match o with
   | .inl ()=>(h3 F a0 (af (j+1))).bind fun U=>
   jd F a0 a1 n U
   | .inr y=>some y
def h4 (F:Nat) (a0:aJ) (a1:Int):Option Int:=
 ((jd F a0 a1 F a1):Option Int).bind fun o=>match o with
  | j=>(((ee F a0 j).bind fun J=>
   (eZ F J).bind fun U=>
   if U=true then
    (h3 F a0 (af (j+1))).bind fun aa=>
    some aa
   else
    some j):Option Int).bind fun o=>match o with
   | I=>(ee F a0 I).bind fun ab=>
   if ab=(6:Int) then
    some (af (I+1))
   else
    some 0
theorem rO (F:Nat) {h:AH} {Z:Zn} {a0:aJ} {a1:Int} {ab aC aE aF} (hI:Inv Z h) (ad:RS (α:=ak) Z aC a0.L) (ae:RS (α:=aq) Z aE a0.T.al) (ah:RS (α:=aj) Z aF a0.D) (an:Z ab=some (ax aC aE aF a0)) {r:Int} (hm:h4 F a0 a1=some r):
  bU Try.prog 102 [Pt ab 0,V a1] h Z (V r):=by
 refine b1 Try.func102 hI ?_
 intro hs hS
 unfold h4 at hm
 refine sp 1<|sq ?_
 obtain ⟨ay,j,hm⟩:=ai hm
 refine aH [0,1] (fun l h=>∃ aG av,av=ay∧l=[(0,Pt ab 0),(1,V av)]∧St hs [] Z (0,0) aG h []) ?_ ?_
 rintro l a7 ⟨aG,av,rfl,rfl,J⟩
 try dsimp only at hm
 refine sq ?_
 obtain ⟨aR,U,hm⟩:=ai hm
 refine aH [0,1] (fun l h=>∃ aI aw,aw=aR∧l=[(0,Pt ab 0),(1,V aw)]∧St hs [] Z (0,0) aI h []) ?_ ?_
 rintro l a8 ⟨aI,aw,rfl,rfl,ao⟩
 try dsimp only at hm
 refine sq<|s0 ?_
 obtain ⟨a9,aS,hm⟩:=ai hm
 refine cP 2 ao (e9 F ao.inv (ad.mono ao.ag) (ae.mono ao.ag) (ah.mono ao.ag) (ao.ag _ _ an) aS) ?_
 rintro _ ba aK rfl
 refine aD 0 hm ?_ ?_<;>intro bb hm
 refine xn 0<|dT<|sp 3<|rt<|⟨rfl,?_⟩
 obtain rfl:=si hm
 refine ⟨_,_,_,tk (V (af (aw+1))) (ResL.nil),aK,?_⟩
 exact rfl
 refine xn 0<|dF<|sk<|sp 1<|rt<|⟨rfl,?_⟩
 obtain rfl:=si hm
 refine ⟨_,_,_,tk (V 0) (ResL.nil),aK,?_⟩
 exact rfl
 refine s0 ?_
 obtain ⟨bc,aT,U⟩:=ai U
 refine cP 2 J (e9 F J.inv (ad.mono J.ag) (ae.mono J.ag) (ah.mono J.ag) (J.ag _ _ an) aT) ?_
 rintro _ bd aL rfl
 obtain ⟨bf,aU,U⟩:=ai U
 refine cP 0 aL (pe F aL.inv aU) ?_
 rintro _ bg az rfl
 refine xn 0<|db U ?_ ?_<;>intro bh U
 refine g0 ?_
 obtain ⟨aW,aX,U⟩:=ai U
 refine cP 3 az (oV F az.inv (ad.mono J.ag) (ae.mono J.ag) (ah.mono J.ag) (J.ag _ _ an) aX) ?_
 rintro _ bj aY rfl
 refine xn 1 ?_
 obtain rfl:=si U
 exact ⟨_,aW,rfl,(by kernel_rfl),aY⟩
 refine sk ?_
 obtain rfl:=si U
 exact ⟨_,av,rfl,(by kernel_rfl),az⟩
 refine bk 0<|lp [0,1] (fun n l h=>∃ aM au,jd F a0 a1 n au=some ay∧l=[(0,Pt ab 0),(1,V au)]∧St hs [] Z (0,0) aM h []) F ⟨_,a1,j,(by kernel_rfl),hS⟩ ?_
 rintro aA l bl ⟨aM,au,j,rfl,aa⟩
 rcases aA with _ | aA
 cases (show none=some ay from j)
 rw [jd] at j
 refine sq ?_
 obtain ⟨aZ,I,j⟩:=ai j
 refine aH [0,1] (fun l h=>∃ aO, .inl ()=aZ∧l=[(0,Pt ab 0),(1,V au)]∧St hs [] Z (0,0) aO h []) ?_ ?_
 rintro l bm ⟨aO,rfl,rfl,ar⟩
 try dsimp only at j
 refine bk 1<|g0 ?_
 obtain ⟨a2,a3,j⟩:=ai j
 refine cP 3 ar (oV F ar.inv (ad.mono ar.ag) (ae.mono ar.ag) (ah.mono ar.ag) (ar.ag _ _ an) a3) ?_
 rintro _ bn a4 rfl
 refine xn 1 ?_
 exact ⟨aA,Nat.lt_succ_self _,⟨_,a2,j,(by kernel_rfl),a4⟩⟩
 refine s0 ?_
 obtain ⟨bo,a5,I⟩:=ai I
 refine cP 2 aa (e9 F aa.inv (ad.mono aa.ag) (ae.mono aa.ag) (ah.mono aa.ag) (aa.ag _ _ an) a5) ?_
 rintro _ bp aB rfl
 refine aD 0 I ?_ ?_<;>intro br I
 refine xn 6<|dT<|sk ?_
 obtain rfl:=si I
 exact ⟨_,rfl,(by kernel_rfl),aB⟩
 obtain ⟨bt,a6,I⟩:=ai I
 refine cP 3 aB (e9 F aB.inv (ad.mono aa.ag) (ae.mono aa.ag) (ah.mono aa.ag) (aa.ag _ _ an) a6) ?_
 rintro _ bu aP rfl
 refine aD 0 I ?_ ?_<;>intro bw I
 refine xn 1<|dT<|sk ?_
 obtain rfl:=si I
 exact ⟨_,rfl,(by kernel_rfl),aP⟩
 refine xn 1<|dF<|xt 0<|aN ?_
 obtain rfl:=si I
 obtain rfl:=si j
 exact ⟨_,au,rfl,(by kernel_rfl),aP⟩
def jb (F:Nat) (a0:Int):Option Bool:=
 if a0=(12:Int) then
  some true
 else
  if a0=(14:Int) then
   some true
  else
   (eZ F a0).bind fun j=>
   if j=true then
    some true
   else
    (iY F a0).bind fun I=>
    if I=true then
     some true
    else
     if a0=(18:Int) then
      some true
     else
      some false
theorem tI (F:Nat) {h:AH} {Z:Zn} {a0:Int} (hI:Inv Z h) {r:Bool} (hm:jb F a0=some r):
  bU Try.prog 103 [V a0] h Z (.bool r):=by
 refine b1 Try.func103 hI ?_
 intro hs hS
 unfold jb at hm
 refine sp 1<|s0<|aD 1 hm ?_ ?_<;>intro aa hm
 refine xn 17<|rt<|⟨rfl,?_⟩
 obtain rfl:=si hm
 refine ⟨_,_,_,tk (.bool true) (ResL.nil),hS,?_⟩
 exact rfl
 refine aD 2 hm ?_ ?_<;>intro ab hm
 refine xn 14<|rt<|⟨rfl,?_⟩
 obtain rfl:=si hm
 refine ⟨_,_,_,tk (.bool true) (ResL.nil),hS,?_⟩
 exact rfl
 obtain ⟨ad,J,hm⟩:=ai hm
 refine cP 3 hS (pe F hS.inv J) ?_
 rintro _ ae j rfl
 refine kb 2 13 hm ?_ ?_<;>intro af hm
 refine xn 8<|rt<|⟨rfl,?_⟩
 obtain rfl:=si hm
 refine ⟨_,_,_,tk (.bool true) (ResL.nil),j,?_⟩
 exact rfl
 obtain ⟨ag,U,hm⟩:=ai hm
 refine cP 1 j (nW F j.inv U) ?_
 rintro _ ah I rfl
 refine kb 2 17 hm ?_ ?_<;>intro aj hm
 refine xn 4<|rt<|⟨rfl,?_⟩
 obtain rfl:=si hm
 refine ⟨_,_,_,tk (.bool true) (ResL.nil),I,?_⟩
 exact rfl
 refine aD 1 hm ?_ ?_<;>intro al hm
 refine xn 2<|rt<|⟨rfl,?_⟩
 obtain rfl:=si hm
 refine ⟨_,_,_,tk (.bool true) (ResL.nil),I,?_⟩
 exact rfl
 refine xn 2<|rt<|⟨rfl,?_⟩
 obtain rfl:=si hm
 refine ⟨_,_,_,tk (.bool false) (ResL.nil),I,?_⟩
 exact rfl
def xj:List aV:=[u 5 (.buildSlice 25 0 #[]),u 6 (mv 0),u 7 (nk 6),u 8 (fa 58 7 1),u 9 (fa 27 8 0),u 10 (ld 25 9),u 11 (cb .append #[(t 5),(t 10)] #[25,25]),u 4 (sg 11)]
def Cf:List aV:=[u 12 (mv 4),u 13 (mv 1),u 14 (ia 25 12 13),u 15 (fa 37 14 5),o (.store 4 (t 15) (.const (.bool true)))]
def AW:List aV:=[u 16 (mv 0),u 17 (mv 4),u 18 (.build 27 #[(0,(t 17))]),u 19 (nk 16),u 20 (fa 58 19 1),o (.store 27 (t 20) (t 18))]
def k6 (F:Nat) (a0:aJ) (a1:Int):Option aJ:=
 if ([]:List aq).length+a0.T.al.length≤2199023255552 then
  if 0≤a1∧a1<((([]:List aq)++a0.T.al).length:Int) then
   ((([]:List aq)++a0.T.al)[a1.toNat]?).bind fun j=>
   some (⟨a0.L,(⟨(([]:List aq)++a0.T.al).set a1.toNat (⟨j.Kind,j.ah,j.To,j.Up,j.Kids,true⟩:aq)⟩:cM),a0.D,a0.End⟩:aJ)
  else none
 else none
theorem sf (F:Nat) {h:AH} {Z:Zn} {a0:aJ} {a1:Int} {U ad af ab ag} (hP:Pre Z h [.ae U (ax ad af ab a0), .gs ab ag (aa aj)]) (aB:RS (α:=ak) Z ad a0.L) (aC:RS (α:=aq) Z af a0.T.al) (aD:RCs (α:=aj) Z ag a0.D) {r:aJ} (hm:k6 F a0 a1=some r):
  bX Try.prog 95 [Pt U 0,V a1] h Z [.ae U (ax ad af ab a0), .gs ab ag (aa aj)] fun v Z' A'=>∃ v10 av aw ay, .tuple #[]=v∧A'=[.ae U (ax v10 av ab r), .gs av aw (aa aq), .gs ab ay (aa aj)]∧RS (α:=ak) Z' v10 r.L∧RCs (α:=aq) Z' aw r.T.al∧RCs (α:=aj) Z' ay r.D:=by
 refine cm Try.func95 hP ?_
 intro hs hS
 unfold k6 at hm
 refine sr xj ?_
 have aE:RCs (α:=aq) Z [] []:=RCs.bA _
 refine eh rfl trivial (c6 (cells:=[]) (s:=6) (by kernel_rfl)) (by kernel_rfl) hS ?_
 intro aF aR an
 refine xq 4 [(9,Pt U 1),(5,aF),(0,Pt U 0),(1,V a1)]<|aA 0 1 af an rfl ?_
 obtain ⟨aS,aG⟩:=RS.news aC (an).inv
 obtain ⟨aT,hm⟩:=aK hm
 refine gd rfl trivial (dZ (ys:=a0.T.al) (b4:=64) an (i:=0) rfl aE aG rfl rfl (by kernel_rfl) (by omega) (by omega)) ?_
 rintro I aU aW ⟨ao,ar⟩
 refine xn 1<|sr Cf<|fj 2 0 hm ar ao rfl ?_
 intro aX hm
 refine xq 1 [(15, .pointer (some (bh I a1 (aa aq) 5))),(4,I),(0,Pt U 0)] ?_
 obtain ⟨J,az,hm⟩:=ai hm
 obtain ⟨aY,aH,aZ,aI⟩:=ar.cz (j:=0) rfl ao (i:=a1) az
 obtain ⟨aL,aM,rfl⟩:=fz aH
 refine mz rfl trivial (iq (u':=(⟨J.Kind,J.ah,J.To,J.Up,J.Kids,true⟩:aq)) (vs:=[.bool true]) (a2:=[V J.Kind,V J.ah,V J.To,V J.Up,aL, .bool true]) ar (m:=0) rfl ao az aI rfl rfl rfl (by kernel_rfl) rfl rfl rfl ⟨_,aM,rfl⟩) ?_
 rintro a3 aN ⟨aO,au⟩
 refine xn 0<|rg AW<|xq 2 [(17,I),(16,Pt U 0)]<|bN rfl trivial (jm (v:= .agg #[I]) rfl (CA.cons (cs:=[I]) (au.gb (i:=0) rfl) (CA.bA)) (by kernel_rfl))<|bB 2 1 (.agg #[I]) [I] (ax ad I ab a0) au rfl rfl (a8 (au.fV (i:=0) rfl) cc) ?_
 intro a4 aP
 refine xn 0 ?_
 obtain rfl:=si hm
 refine ⟨_,_,_,ResL.nil,(((aP.front 2 rfl).front 1 rfl).front 2 rfl),?_⟩
 exact ⟨ad,I,aN,ag,rfl,rfl,aB,aO,aD⟩
def correctorref11_Reader_Pair_l0 (F:Nat) (a0:aJ) (a1:Int) (ab:Int) (J:Int):Nat→aJ→Int→Int→Int→Option (aJ×Int×Int)
 | 0,_,_,_,_=>none
 | n+1,j,U,aa,I=>
  if I<J then
   ((if 0≤I∧I<(j.L.length:Int) then
     (j.L[I.toNat]?).bind fun ad=>
     if ad.Kind=(13:Int) then
      some (j,8)
     else
      some (j,aa)
    else none):Option (aJ×Int)).bind fun o=>match o with
    | (ae,ag)=>correctorref11_Reader_Pair_l0 F a0 a1 ab J n ae U ag (af (I+1))
  else
   some (j,U,aa)
def lW (F:Nat) (a0:aJ) (a1:Int) (j:Int) (I:Int):Option (Int×aJ):=
 (eg F a0 a1 6 j I).bind fun J=>
 if (af (I - j))<(2:Int) then
  some (J.1,J.2)
 else
  ((correctorref11_Reader_Pair_l0 F a0 a1 j I F J.2 J.1 7 j):Option (aJ×Int×Int)).bind fun o=>match o with
   | (aa,U,ab)=>(jg F aa (af (I - 1)) (af (j+1))).bind fun ad=>
   (eg F aa U ab j ad).bind fun ae=>
   (k6 F ae.2 U).bind fun ag=>
   some (U,ag)
theorem uv (F:Nat) {h:AH} {Z:Zn} {a0:aJ} {a1:Int} {ad:Int} {an:Int} {I ao ar j au} (hP:Pre Z h [.ae I (ax ao ar j a0), .gs j au (aa aj)]) (bu:RS (α:=ak) Z ao a0.L) (bw:RS (α:=aq) Z ar a0.T.al) (bx:RCs (α:=aj) Z au a0.D) {r:Int×aJ} (hm:lW F a0 a1 ad an=some r):
  bX Try.prog 86 [Pt I 0,V a1,V ad,V an] h Z [.ae I (ax ao ar j a0), .gs j au (aa aj)] fun v Z' A'=>∃ v10 a8 a9,V r.1=v∧A'=[.ae I (ax v10 a8 j r.2), .gs j a9 (aa aj)]∧RS (α:=ak) Z' v10 r.2.L∧RS (α:=aq) Z' a8 r.2.T.al∧RCs (α:=aj) Z' a9 r.2.D:=by
 refine cm Try.func86 hP ?_
 intro hs hS
 unfold lW at hm
 refine sp 1<|s0 ?_
 obtain ⟨aU,bz,hm⟩:=ai hm
 refine cA 4 hS (fun p=>fL F p bu bw bx bz) ?_
 rintro _ bZ b0 _ b1 ba ⟨bb,bc,bd,rfl,rfl,bg,bh,bj⟩
 refine xn 1<|sq<|s0<|aO 3 hm ?_ ?_<;>intro b2 hm
 refine xn 0<|dT<|sp 2<|rt<|⟨rfl,?_⟩
 obtain rfl:=si hm
 refine ⟨_,_,_,tk (V aU.1) (ResL.nil),ba,?_⟩
 exact ⟨bb,bc,bd,rfl,rfl,bg,bh,bj⟩
 refine xn 0<|dF<|sk<|sp 1<|sq<|sp 2 ?_
 obtain ⟨aW,J,hm⟩:=ai hm
 refine aH [0,2,3,9,10] (fun l h=>∃ aB av aL aX aY aZ a2,(av,aL,aX)=aW∧RS (α:=ak) aB aY av.L∧RS (α:=aq) aB aZ av.T.al∧RCs (α:=aj) aB a2 av.D∧l=[(0,Pt I 0),(2,V ad),(3,V an),(9,V aL),(10,V aX)]∧St hs (aR [.ae I (ax ao ar j a0), .gs j au (aa aj)]) Z (0,0) aB h [.ae I (ax aY aZ j av), .gs j a2 (aa aj)]) ?_ ?_
 rintro l b3 ⟨aB,av,aL,aX,aY,aZ,a2,rfl,bl,bm,bn,rfl,bA⟩
 try dsimp only at hm
 refine s0 ?_
 obtain ⟨b4,bB,hm⟩:=ai hm
 refine cE 9 bA (fun b5 a3 bC bo=>o8 F bC (RS.mono a3 bl) (RS.mono a3 bm) (bf.row (bo _ (List.mem_of_getElem? (i:=1) rfl)) a3 bn) (bo _ (List.mem_of_getElem? (i:=0) rfl)) bB) ?_
 rintro _ b6 bD rfl
 obtain ⟨b7,bE,hm⟩:=ai hm
 refine cA 0 bD (fun p=>fL F p bl bm bn bE) ?_
 rintro _ b8 b9 _ ca bF ⟨cb,cc,cd,rfl,rfl,bG,bH,bI⟩
 refine xn 0<|s0 ?_
 obtain ⟨cf,bJ,hm⟩:=ai hm
 refine cA 2 bF (fun p=>sf F p bG bH bI bJ) ?_
 rintro _ cg ch _ cj bK ⟨bL,bM,ck,bN,rfl,rfl,bO,bP,bQ⟩
 refine xn 0<|sp 2<|rt<|⟨rfl,?_⟩
 obtain ⟨cl,br,bR,bS⟩:=(bK.front 1 rfl).freeze bP
 obtain rfl:=si hm
 refine ⟨_,_,_,tk (V aL) (ResL.nil),bS,?_⟩
 exact ⟨bL,bM,bN,rfl,rfl,(bO.mono br),bR,(bQ.mono br)⟩
 refine bk 0<|lp [0,2,3,9,10,11] (fun n l h=>∃ aC U aw aE aF ag ay az,correctorref11_Reader_Pair_l0 F a0 a1 ad an n U aw aE aF=some aW∧RS (α:=ak) aC ag U.L∧RS (α:=aq) aC ay U.T.al∧RCs (α:=aj) aC az U.D∧l=[(0,Pt I 0),(2,V ad),(3,V an),(9,V aw),(10,V aE),(11,V aF)]∧St hs (aR [.ae I (ax ao ar j a0), .gs j au (aa aj)]) Z (0,0) aC h [.ae I (ax ag ay j U), .gs j az (aa aj)]) F ⟨_,aU.2,aU.1,7,ad,bb,bc,bd,J,bg,bh,bj,(by kernel_rfl),ba⟩ ?_
 rintro a4 l cn ⟨aC,U,aw,aE,aF,ag,ay,az,J,aG,a5,a7,rfl,aI⟩
 rcases a4 with _ | a4
 cases (show none=some aW from J)
 rw [correctorref11_Reader_Pair_l0] at J
 refine sq<|s0<|aO 2 J ?_ ?_<;>intro cp J
 refine xn 0<|dT<|sk<|sq<|bk 1 ?_
 obtain ⟨bT,ab,J⟩:=ai J
 refine ec [0,2,3,9,10,11] (fun l h=>∃ aK ah aM aP aS aT,(ah,aM)=bT∧RS (α:=ak) aK aP ah.L∧RS (α:=aq) aK aS ah.T.al∧RCs (α:=aj) aK aT ah.D∧l=[(0,Pt I 0),(2,V ad),(3,V an),(9,V aw),(10,V aM),(11,V aF)]∧St hs (aR [.ae I (ax ao ar j a0), .gs j au (aa aj)]) Z (0,0) aK h [.ae I (ax aP aS j ah), .gs j aT (aa aj)]) (by kernel_rfl) ?_ ?_
 rintro l cq ⟨aK,ah,aM,aP,aS,aT,rfl,bU,bV,bW,rfl,bY⟩
 try dsimp only at J
 refine gp 3 ?_
 exact ⟨a4,Nat.lt_succ_self _,⟨_,ah,aw,aM,af (aF+1),aP,aS,aT,J,bU,bV,bW,(by kernel_rfl),bY⟩⟩
 refine g0<|aA 3 0 ag aI rfl<|a6 1 ab aG ?_
 intro cr ab
 refine bp 1 0 (fun bt=>V bt.Kind) ab aG aI ?_
 intro bt ct ab
 refine aD 0 ab ?_ ?_<;>intro cu ab
 refine xn 0<|dT<|gp 1 ?_
 obtain rfl:=si ab
 exact ⟨_,U,8,ag,ay,az,rfl,aG,a5,a7,(by kernel_rfl),aI⟩
 refine xn 0<|dF<|sk ?_
 obtain rfl:=si ab
 exact ⟨_,U,aE,ag,ay,az,rfl,aG,a5,a7,(by kernel_rfl),aI⟩
 refine xn 0<|dF<|xt 0<|aN ?_
 obtain rfl:=si J
 exact ⟨_,U,aw,aE,ag,ay,az,rfl,aG,a5,a7,(by kernel_rfl),aI⟩
def jz (F:Nat) (a0:aJ) (a1:Int):Nat→Int→Int→Option Int
 | 0,_,_=>none
 | n+1,J,j=>
  (ee F a0 j).bind fun aa=>
  if (0:Int)<aa then
   (ee F a0 j).bind fun I=>
   ((if J=(0:Int) then
     if I=(7:Int) then
      some (.inr j)
     else
      (iw F I).bind fun ab=>
      if ab=true then
       some (.inr j)
      else
       some (.inl ())
    else
     some (.inl ())):Option (Sum Unit Int)).bind fun o=>match o with
    | .inl ()=>(((iY F I).bind fun ad=>
     if ad=true then
      some (af (J+1))
     else
      some J):Option Int).bind fun o=>match o with
     | U=>(iw F I).bind fun ae=>
     ((if ae=true then
       some (af (U - 1))
      else
       some U):Option Int).bind fun o=>match o with
      | ag=>jz F a0 a1 n ag (af (j+1))
    | .inr y=>some y
  else
   some j
def kK (F:Nat) (a0:aJ) (a1:Int):Option Int:=
 ((jz F a0 a1 F 0 a1):Option Int).bind fun o=>match o with
  | j=>(jg F a0 j (af (a1+1))).bind fun I=>
  some I
theorem vt (F:Nat) {h:AH} {Z:Zn} {a0:aJ} {a1:Int} {aa aE aF aG} (hI:Inv Z h) (au:RS (α:=ak) Z aE a0.L) (av:RS (α:=aq) Z aF a0.T.al) (aw:RS (α:=aj) Z aG a0.D) (ay:Z aa=some (ax aE aF aG a0)) {r:Int} (hm:kK F a0 a1=some r):
  bU Try.prog 101 [Pt aa 0,V a1] h Z (V r):=by
 refine b1 Try.func101 hI ?_
 intro hs hS
 unfold kK at hm
 refine sp 1<|sp 1<|sp 2<|sq ?_
 obtain ⟨az,j,hm⟩:=ai hm
 refine aH [0,1,6] (fun l h=>∃ aI aA,aA=az∧l=[(0,Pt aa 0),(1,V a1),(6,V aA)]∧St hs [] Z (0,0) aI h []) ?_ ?_
 rintro l bb ⟨aI,aA,rfl,rfl,ab⟩
 try dsimp only at hm
 refine s0 ?_
 obtain ⟨aX,aY,hm⟩:=ai hm
 refine cP 4 ab (o8 F ab.inv (au.mono ab.ag) (av.mono ab.ag) (aw.mono ab.ag) (ab.ag _ _ ay) aY) ?_
 rintro _ bc aZ rfl
 refine xn 1<|rt<|⟨rfl,?_⟩
 obtain rfl:=si hm
 refine ⟨_,_,_,tk (V aX) (ResL.nil),aZ,?_⟩
 exact rfl
 refine bk 0<|lp [0,1,5,6] (fun n l h=>∃ aK ad J,jz F a0 a1 n ad J=some az∧l=[(0,Pt aa 0),(1,V a1),(5,V ad),(6,V J)]∧St hs [] Z (0,0) aK h []) F ⟨_,0,a1,j,(by kernel_rfl),hS⟩ ?_
 rintro aB l bd ⟨aK,ad,J,j,rfl,U⟩
 rcases aB with _ | aB
 cases (show none=some az from j)
 rw [jz] at j
 refine sq<|s0 ?_
 obtain ⟨bf,a2,j⟩:=ai j
 refine cP 2 U (e9 F U.inv (au.mono U.ag) (av.mono U.ag) (aw.mono U.ag) (U.ag _ _ ay) a2) ?_
 rintro _ bg aC rfl
 refine cC 0 j ?_ ?_<;>intro bh j
 refine xn 0<|dT<|sk<|bk 1<|s0 ?_
 obtain ⟨aL,a3,j⟩:=ai j
 refine cP 2 aC (e9 F aC.inv (au.mono U.ag) (av.mono U.ag) (aw.mono U.ag) (U.ag _ _ ay) a3) ?_
 rintro _ bj an rfl
 refine xn 1<|sq ?_
 obtain ⟨a4,I,j⟩:=ai j
 refine aH [0,1,5,6,7] (fun l h=>∃ aM, .inl ()=a4∧l=[(0,Pt aa 0),(1,V a1),(5,V ad),(6,V J),(7,V aL)]∧St hs [] Z (0,0) aM h []) ?_ ?_
 rintro l bl ⟨aM,rfl,rfl,aO⟩
 try dsimp only at j
 refine sq ?_
 obtain ⟨a5,ae,j⟩:=ai j
 refine aH [0,1,5,6,7] (fun l h=>∃ aP ah,ah=a5∧l=[(0,Pt aa 0),(1,V a1),(5,V ah),(6,V J),(7,V aL)]∧St hs [] Z (0,0) aP h []) ?_ ?_
 rintro l bm ⟨aP,ah,rfl,rfl,aR⟩
 try dsimp only at j
 refine sq<|s0 ?_
 obtain ⟨bn,a6,j⟩:=ai j
 refine cP 1 aR (mJ F aR.inv a6) ?_
 rintro _ bo aS rfl
 refine xn 0 ?_
 obtain ⟨a7,ao,j⟩:=ai j
 refine aH [0,1,5,6] (fun l h=>∃ aT ar,ar=a7∧l=[(0,Pt aa 0),(1,V a1),(5,V ar),(6,V J)]∧St hs [] Z (0,0) aT h []) ?_ ?_
 rintro l bp ⟨aT,ar,rfl,rfl,a8⟩
 try dsimp only at j
 refine gp 3 ?_
 exact ⟨aB,Nat.lt_succ_self _,⟨_,ar,af (J+1),j,(by kernel_rfl),a8⟩⟩
 refine db ao ?_ ?_<;>intro br ao
 refine gp 3 ?_
 obtain rfl:=si ao
 exact ⟨_,af (ah - 1),rfl,(by kernel_rfl),aS⟩
 refine sk ?_
 obtain rfl:=si ao
 exact ⟨_,ah,rfl,(by kernel_rfl),aS⟩
 refine s0 ?_
 obtain ⟨bt,a9,ae⟩:=ai ae
 refine cP 1 aO (nW F aO.inv a9) ?_
 rintro _ bu aU rfl
 refine xn 0<|db ae ?_ ?_<;>intro bw ae
 refine gp 3 ?_
 obtain rfl:=si ae
 exact ⟨_,af (ad+1),rfl,(by kernel_rfl),aU⟩
 refine sk ?_
 obtain rfl:=si ae
 exact ⟨_,ad,rfl,(by kernel_rfl),aU⟩
 refine s0<|aD 1 I ?_ ?_<;>intro bx I
 refine aD 2 I ?_ ?_<;>intro bz I
 refine xn 5<|dT<|xt 0<|g5 rfl<|aN ?_
 obtain rfl:=si I
 obtain rfl:=si j
 exact ⟨_,J,rfl,(by kernel_rfl),an⟩
 obtain ⟨bA,ba,I⟩:=ai I
 refine cP 2 an (mJ F an.inv ba) ?_
 rintro _ bB aW rfl
 refine xn 2<|db I ?_ ?_<;>intro bC I
 refine xt 0<|g5 rfl<|aN ?_
 obtain rfl:=si I
 obtain rfl:=si j
 exact ⟨_,J,rfl,(by kernel_rfl),aW⟩
 refine sk ?_
 obtain rfl:=si I
 exact ⟨_,rfl,(by kernel_rfl),aW⟩
 refine xn 8<|dF<|sk ?_
 obtain rfl:=si I
 exact ⟨_,rfl,(by kernel_rfl),an⟩
 refine xn 0<|dF<|xt 0<|aN ?_
 obtain rfl:=si j
 exact ⟨_,J,rfl,(by kernel_rfl),aC⟩
def o5 (b8:aJ→Int→Int→Int→Option (Int×Int×aJ)):Prop:=∀ {h:AH} {Z:Zn} {a0:aJ} {a1:Int} {ad:Int} {af:Int} {j J U I ab} (hP:Pre Z h [.ae j (ax J U I a0), .gs I ab (aa aj)]) (an:RS (α:=ak) Z J a0.L) (ao:RS (α:=aq) Z U a0.T.al) (ar:RCs (α:=aj) Z ab a0.D) {r:Int×Int×aJ} (hm:b8 a0 a1 ad af=some r),bX Try.prog 80 [Pt j 0,V a1,V ad,V af] h Z [.ae j (ax J U I a0), .gs I ab (aa aj)] fun v Z' A'=>∃ v10 ag ah ai, .tuple #[V r.1,V r.2.1]=v∧A'=[.ae j (ax v10 ag ah r.2.2), .gs ah ai (aa aj)]∧RS (α:=ak) Z' v10 r.2.2.L∧RS (α:=aq) Z' ag r.2.2.T.al∧RCs (α:=aj) Z' ai r.2.2.D
def gV (F:Nat) (b8:aJ→Int→Int→Int→Option (Int×Int×aJ)) (a0:aJ) (a1:Int) (J:Int) (ad:Int):Option (Int×aJ):=
 (h4 F a0 J).bind fun j=>
 if (0:Int)<j then
  (lW F a0 a1 J j).bind fun I=>
  (h3 F I.2 j).bind fun ae=>
  (ee F I.2 ae).bind fun aa=>
  if aa=(0:Int) then
   some (j,I.2)
  else
   if aa=(7:Int) then
    some (j,I.2)
   else
    (iw F aa).bind fun ah=>
    if ah=true then
     some (j,I.2)
    else
     (b8 I.2 I.1 ae (af (ad - 1))).bind fun U=>
     if U.1<(0:Int) then
      some (j,U.2.2)
     else
      some (U.2.1,U.2.2)
 else
  ((if 0≤a1∧a1<(a0.T.al.length:Int) then
    (a0.T.al[a1.toNat]?).bind fun ai=>
    if ai.Kind=(10:Int) then
     (eg F a0 a1 6 J (af (J+1))).bind fun ab=>
     (k6 F ab.2 ab.1).bind fun aj=>
     some (aj,ab.1)
    else
     some (a0,a1)
   else none):Option (aJ×Int)).bind fun o=>match o with
   | (an,ao)=>(b8 an ao J (af (ad - 1))).bind fun ag=>
   some (ag.2.1,ag.2.2)
theorem oJ (F:Nat) (b8:aJ→Int→Int→Int→Option (Int×Int×aJ)) (iQ:o5 b8) {h:AH} {Z:Zn} {a0:aJ} {a1:Int} {aB:Int} {aC:Int} {J an U I ao} (hP:Pre Z h [.ae J (ax an U I a0), .gs I ao (aa aj)]) (av:RS (α:=ak) Z an a0.L) (ab:RS (α:=aq) Z U a0.T.al) (aw:RCs (α:=aj) Z ao a0.D) {r:Int×aJ} (hm:gV F b8 a0 a1 aB aC=some r):
  bX Try.prog 104 [Pt J 0,V a1,V aB,V aC] h Z [.ae J (ax an U I a0), .gs I ao (aa aj)] fun v Z' A'=>∃ v10 aU aW aX,V r.1=v∧A'=[.ae J (ax v10 aU aW r.2), .gs aW aX (aa aj)]∧RS (α:=ak) Z' v10 r.2.L∧RS (α:=aq) Z' aU r.2.T.al∧RCs (α:=aj) Z' aX r.2.D:=by
 refine cm Try.func104 hP ?_
 intro hs hS
 unfold gV at hm
 refine sp 1<|s0 ?_
 obtain ⟨ay,bg,hm⟩:=ai hm
 refine cE 2 hS (fun ca aE bh aY=>rO F bh (RS.mono aE av) (RS.mono aE ab) (bf.row (aY _ (List.mem_of_getElem? (i:=1) rfl)) aE aw) (aY _ (List.mem_of_getElem? (i:=0) rfl)) bg) ?_
 rintro _ cb ar rfl
 refine xn 1<|sq<|s0<|cC 1 hm ?_ ?_<;>intro cc hm
 refine xn 0<|dT<|s0 ?_
 obtain ⟨cd,bj,hm⟩:=ai hm
 refine cA 4 ar (fun p=>uv F p av ab aw bj) ?_
 rintro _ cf cg _ ch bk ⟨aF,aG,aI,rfl,rfl,ad,af,ag⟩
 refine xn 1<|s0 ?_
 obtain ⟨cj,bl,hm⟩:=ai hm
 refine cE 2 bk (fun ck aK bm aZ=>oV F bm (RS.mono aK ad) (RS.mono aK af) (bf.row (aZ _ (List.mem_of_getElem? (i:=1) rfl)) aK ag) (aZ _ (List.mem_of_getElem? (i:=0) rfl)) bl) ?_
 rintro _ cl bn rfl
 refine xn 1<|s0 ?_
 obtain ⟨cn,bo,hm⟩:=ai hm
 refine cE 2 bn (fun cq aL bp a2=>e9 F bp (RS.mono aL ad) (RS.mono aL af) (bf.row (a2 _ (List.mem_of_getElem? (i:=1) rfl)) aL ag) (a2 _ (List.mem_of_getElem? (i:=0) rfl)) bo) ?_
 rintro _ cr az rfl
 refine xn 1<|sq<|s0<|aD 1 hm ?_ ?_<;>intro ct hm
 refine xn 8<|dT<|sp 2<|rt<|⟨rfl,?_⟩
 obtain rfl:=si hm
 refine ⟨_,_,_,tk (V ay) (ResL.nil),az,?_⟩
 exact ⟨aF,aG,I,aI,rfl,rfl,ad,af,ag⟩
 refine aD 2 hm ?_ ?_<;>intro cu hm
 refine xn 5<|dT<|sp 2<|rt<|⟨rfl,?_⟩
 obtain rfl:=si hm
 refine ⟨_,_,_,tk (V ay) (ResL.nil),az,?_⟩
 exact ⟨aF,aG,I,aI,rfl,rfl,ad,af,ag⟩
 obtain ⟨cv,br,hm⟩:=ai hm
 refine cP 3 az (mJ F az.inv br) ?_
 rintro _ cx a3 rfl
 refine xn 1<|db hm ?_ ?_<;>intro cy hm
 refine sp 2<|rt<|⟨rfl,?_⟩
 obtain rfl:=si hm
 refine ⟨_,_,_,tk (V ay) (ResL.nil),a3,?_⟩
 exact ⟨aF,aG,I,aI,rfl,rfl,ad,af,ag⟩
 refine sk<|s0 ?_
 obtain ⟨bt,bu,hm⟩:=ai hm
 refine cA 5 a3 (fun p=>iQ p ad af ag bu) ?_
 rintro _ cz cB _ cD a4 ⟨a5,a7,a8,a9,rfl,rfl,ba,bb,bc⟩
 refine xn 5<|sq<|s0<|aO 1 hm ?_ ?_<;>intro cF hm
 refine xn 0<|dT<|sp 2<|rt<|⟨rfl,?_⟩
 obtain rfl:=si hm
 refine ⟨_,_,_,tk (V ay) (ResL.nil),a4,?_⟩
 exact ⟨a5,a7,a8,a9,rfl,rfl,ba,bb,bc⟩
 refine xn 0<|dF<|sk<|sp 2<|rt<|⟨rfl,?_⟩
 obtain rfl:=si hm
 refine ⟨_,_,_,tk (V bt.2.1) (ResL.nil),a4,?_⟩
 exact ⟨a5,a7,a8,a9,rfl,rfl,ba,bb,bc⟩
 refine xn 0<|dF<|sk<|sp 2<|sq ?_
 obtain ⟨bw,j,hm⟩:=ai hm
 refine aH [0,2,3,15] (fun l h=>∃ au ah aN aP aS aT,(ah,aN)=bw∧RS (α:=ak) au aP ah.L∧RS (α:=aq) au aS ah.T.al∧RCs (α:=aj) au aT ah.D∧l=[(0,Pt J 0),(2,V aB),(3,V aC),(15,V aN)]∧St hs (aR [.ae J (ax an U I a0), .gs I ao (aa aj)]) Z (0,0) au h [.ae J (ax aP aS I ah), .gs I aT (aa aj)]) ?_ ?_
 rintro l cG ⟨au,ah,aN,aP,aS,aT,rfl,bx,bz,bA,rfl,bB⟩
 try dsimp only at hm
 refine s0 ?_
 obtain ⟨bC,bD,hm⟩:=ai hm
 refine cA 5 bB (fun p=>iQ p bx bz bA bD) ?_
 rintro _ cH cI _ cJ bE ⟨bF,bG,bH,bI,rfl,rfl,bJ,bK,bL⟩
 refine xn 5<|sp 2<|rt<|⟨rfl,?_⟩
 obtain rfl:=si hm
 refine ⟨_,_,_,tk (V bC.2.1) (ResL.nil),bE,?_⟩
 exact ⟨bF,bG,bH,bI,rfl,rfl,bJ,bK,bL⟩
 refine s0<|aA 4 0 U ar rfl<|a6 1 j ab ?_
 intro cK j
 obtain ⟨bM,bN,j⟩:=ai j
 obtain ⟨cL,bO,bP⟩:=RS.cp ab (i:=a1) bN
 obtain ⟨cM,cN,rfl⟩:=fz bO
 refine fX 1 0 (V bM.Kind) (bP _ (ar.bV (aM.refl _)))<|aD 0 j ?_ ?_<;>intro cR j
 refine xn 0<|dT<|s0 ?_
 obtain ⟨bQ,bR,j⟩:=ai j
 refine cA 5 ar (fun p=>fL F p av ab aw bR) ?_
 rintro _ cS cT _ cU bS ⟨cV,cW,cZ,rfl,rfl,bT,bU,bW⟩
 refine xn 1<|g0 ?_
 obtain ⟨bY,bZ,j⟩:=ai j
 refine cA 2 bS (fun p=>sf F p bT bU bW bZ) ?_
 rintro _ c0 c3 _ c5 b0 ⟨b1,b2,c6,b3,rfl,rfl,b4,b5,b6⟩
 refine xn 0 ?_
 obtain ⟨c7,bd,b7,b9⟩:=(b0.front 1 rfl).freeze b5
 obtain rfl:=si j
 exact ⟨_,bY,bQ.1,b1,b2,b3,rfl,(b4.mono bd),b7,(b6.mono bd),(by kernel_rfl),b9⟩
 refine xn 0<|dF<|sk ?_
 obtain rfl:=si j
 exact ⟨_,a0,a1,an,U,ao,rfl,av,ab,aw,(by kernel_rfl),ar⟩
def AF:List bq:=[uP 42 (mv 0),uP 43 (mv 0),uP 44 (nk 43),uP 45 (fa 58 44 2),uL 46 (ld 28 45),uP 47 (mv 0),uP 48 (nk 47),uP 49 (fa 58 48 0),uL 50 (ld 24 49),uP 51 (mv 2),uP 52 (ia 24 50 51),uP 53 (fa 85 52 1),uL 54 (ld 3 53),uP 55 (mv 0),uP 56 (nk 55),uP 57 (fa 58 56 0),uL 58 (ld 24 57),uP 59 (mv 2),uP 60 (ia 24 58 59),uP 61 (fa 85 60 2),uL 62 (ld 3 61),uP 63 (.build 92 #[(0,(ci 9)),(1,(t 54)),(2,(t 62))]),uF 64 (.buildSlice 28 1 #[(0,(t 63))]) .fresh [],uF 65 (cb .append #[(t 46),(t 64)] #[28,28]) .make [4,8,12,16,20],uP 66 (nk 42),uP 67 (fa 58 66 2),oF (.store 28 (t 67) (t 65)) .make [4,8,12,16,20]]
def correctorref11_Reader_collection_l0 (F:Nat) (b8:aJ→Int→Int→Int→Option (Int×Int×aJ)) (a0:aJ) (a1:Int) (J:Int) (U:Int):Nat→aJ→Bool→Int→Int→Option (Int×aJ)
 | 0,_,_,_,_=>none
 | n+1,j,ab,ai,aa=>
  (h3 F j ai).bind fun I=>
  (ee F j I).bind fun ad=>
  if ad=(0:Int) then
   if 0≤J∧J<(j.L.length:Int) then
    (j.L[J.toNat]?).bind fun ae=>
    if 0≤J∧J<(j.L.length:Int) then
     (j.L[J.toNat]?).bind fun ag=>
     if j.D.length+[(⟨9,ae.ah,ag.To⟩:aj)].length≤5864062014805 then
      (jg F (⟨j.L,j.T,j.D++[(⟨9,ae.ah,ag.To⟩:aj)],j.End⟩:aJ) ai (af (J+1))).bind fun av=>
      some (av,(⟨j.L,j.T,j.D++[(⟨9,ae.ah,ag.To⟩:aj)],j.End⟩:aJ))
     else none
    else none
   else none
  else
   if ad=aa then
    (h6 F j.T a1 (af (I+1))).bind fun aw=>
    some (af (I+1),(⟨j.L,aw,j.D,j.End⟩:aJ))
   else
    (iw F ad).bind fun ax=>
    if ax=true then
     (dM F j a1 I (af (I+1)) 8).bind fun ay=>
     correctorref11_Reader_collection_l0 F b8 a0 a1 J U n ay.2 ab (af (I+1)) aa
    else
     if ad=(7:Int) then
      if ab=true then
       (h6 F j.T a1 (af (I+1))).bind fun az=>
       correctorref11_Reader_collection_l0 F b8 a0 a1 J U n (⟨j.L,az,j.D,j.End⟩:aJ) false (af (I+1)) aa
      else
       if ad=(7:Int) then
        (dM F j a1 I (af (I+1)) 8).bind fun aA=>
        correctorref11_Reader_collection_l0 F b8 a0 a1 J U n aA.2 ab (af (I+1)) aa
       else
        if ab=true then
         (kK F j I).bind fun al=>
         (dM F j a1 I al 8).bind fun aB=>
         correctorref11_Reader_collection_l0 F b8 a0 a1 J U n aB.2 ab al aa
        else
         (h4 F j I).bind fun aC=>
         if (0:Int)<aC then
          (gV F b8 j a1 I U).bind fun an=>
          correctorref11_Reader_collection_l0 F b8 a0 a1 J U n an.2 true an.1 aa
         else
          (jb F ad).bind fun aD=>
          if aD=true then
           (gV F b8 j a1 I U).bind fun ao=>
           correctorref11_Reader_collection_l0 F b8 a0 a1 J U n ao.2 true ao.1 aa
          else
           (dM F j a1 I (af (I+1)) 8).bind fun aE=>
           correctorref11_Reader_collection_l0 F b8 a0 a1 J U n aE.2 ab (af (I+1)) aa
     else
      if ad=(7:Int) then
       (dM F j a1 I (af (I+1)) 8).bind fun aF=>
       correctorref11_Reader_collection_l0 F b8 a0 a1 J U n aF.2 ab (af (I+1)) aa
      else
       if ab=true then
        (kK F j I).bind fun aq=>
        (dM F j a1 I aq 8).bind fun aG=>
        correctorref11_Reader_collection_l0 F b8 a0 a1 J U n aG.2 ab aq aa
       else
        (h4 F j I).bind fun aH=>
        if (0:Int)<aH then
         (gV F b8 j a1 I U).bind fun ar=>
         correctorref11_Reader_collection_l0 F b8 a0 a1 J U n ar.2 true ar.1 aa
        else
         (jb F ad).bind fun aI=>
         if aI=true then
          (gV F b8 j a1 I U).bind fun au=>
          correctorref11_Reader_collection_l0 F b8 a0 a1 J U n au.2 true au.1 aa
         else
          (dM F j a1 I (af (I+1)) 8).bind fun aK=>
          correctorref11_Reader_collection_l0 F b8 a0 a1 J U n aK.2 ab (af (I+1)) aa
def lJ (F:Nat) (b8:aJ→Int→Int→Int→Option (Int×Int×aJ)) (a0:aJ) (a1:Int) (j:Int) (I:Int):Option (Int×aJ):=
 ((if 0≤j∧j<(a0.L.length:Int) then
   (a0.L[j.toNat]?).bind fun J=>
   if J.Kind=(9:Int) then
    some 11
   else
    some 10
  else none):Option Int).bind fun o=>match o with
  | U=>((correctorref11_Reader_collection_l0 F b8 a0 a1 j I F a0 false (af (j+1)) U):Option (Int×aJ)).bind fun o=>match o with
   | y=>some y
theorem Eg (F:Nat) (b8:aJ→Int→Int→Int→Option (Int×Int×aJ)) (iQ:o5 b8) {h:AH} {Z:Zn} {a0:aJ} {a1:Int} {ab:Int} {a7:Int} {J aN aS aC aW} (hP:Pre Z h [.ae J (ax aN aS aC a0), .gs aC aW (aa aj)]) (bj:RS (α:=ak) Z aN a0.L) (cj:RS (α:=aq) Z aS a0.T.al) (ck:RCs (α:=aj) Z aW a0.D) {r:Int×aJ} (hm:lJ F b8 a0 a1 ab a7=some r):
  bX Try.prog 93 [Pt J 0,V a1,V ab,V a7] h Z [.ae J (ax aN aS aC a0), .gs aC aW (aa aj)] fun v Z' A'=>∃ v10 bF bI bJ,V r.1=v∧A'=[.ae J (ax v10 bF bI r.2), .gs bI bJ (aa aj)]∧RS (α:=ak) Z' v10 r.2.L∧RS (α:=aq) Z' bF r.2.T.al∧RCs (α:=aj) Z' bJ r.2.D:=by
 refine cm Try.func93 hP ?_
 intro hs hS
 unfold lJ at hm
 refine sp 1<|sp 1<|sp 3<|sp 1<|sq ?_
 obtain ⟨cl,aO,hm⟩:=ai hm
 refine aH [0,1,2,3,9,10,11] (fun l h=>∃ bL bb,bb=cl∧l=[(0,Pt J 0),(1,V a1),(2,V ab),(3,V a7),(9, .bool false),(10,V (af (ab+1))),(11,V bb)]∧St hs (aR [.ae J (ax aN aS aC a0), .gs aC aW (aa aj)]) Z (0,0) bL h [.ae J (ax aN aS aC a0), .gs aC aW (aa aj)]) ?_ ?_
 rintro l fH ⟨bL,bb,rfl,rfl,bc⟩
 try dsimp only at hm
 obtain ⟨bM,I,hm⟩:=ai hm
 refine bk 0<|lp [0,1,2,3,9,10,11] (fun n l h=>∃ aZ ar aG az av an aI au a2,correctorref11_Reader_collection_l0 F b8 a0 a1 ab a7 n ar aG az av=some bM∧RS (α:=ak) aZ an ar.L∧RS (α:=aq) aZ aI ar.T.al∧RCs (α:=aj) aZ a2 ar.D∧l=[(0,Pt J 0),(1,V a1),(2,V ab),(3,V a7),(9, .bool aG),(10,V az),(11,V av)]∧St hs (aR [.ae J (ax aN aS aC a0), .gs aC aW (aa aj)]) Z (0,0) aZ h [.ae J (ax an aI au ar), .gs au a2 (aa aj)]) F ⟨_,a0,false,af (ab+1),bb,aN,aS,aC,aW,I,(bj.mono bc.ag),(cj.mono bc.ag),(ck.mono bc.ag),(by kernel_rfl),bc⟩ ?_
 rintro aw l fJ ⟨aZ,ar,aG,az,av,an,aI,au,a2,I,U,ad,ao,rfl,cn⟩
 rcases aw with _ | aw
 cases (show none=some bM from I)
 rw [correctorref11_Reader_collection_l0] at I
 refine bk 1<|s0 ?_
 obtain ⟨aX,cq,I⟩:=ai I
 refine cE 2 cn (fun fK bl ct bN=>oV F ct (RS.mono bl U) (RS.mono bl ad) (bf.row (bN _ (List.mem_of_getElem? (i:=1) rfl)) bl ao) (bN _ (List.mem_of_getElem? (i:=0) rfl)) cq) ?_
 rintro _ fL cu rfl
 refine xn 1<|s0 ?_
 obtain ⟨fN,cv,I⟩:=ai I
 refine cE 2 cu (fun fO bm cx bO=>e9 F cx (RS.mono bm U) (RS.mono bm ad) (bf.row (bO _ (List.mem_of_getElem? (i:=1) rfl)) bm ao) (bO _ (List.mem_of_getElem? (i:=0) rfl)) cv) ?_
 rintro _ fP a3 rfl
 refine xn 1<|bk 2<|s0<|aD 1 I ?_ ?_<;>intro fQ I
 refine xn 1<|dT<|cT AF a3 ?_
 intro bn fR bo aY
 refine yq 4 [(45,Pt J 2),(42,Pt J 0),(0,Pt J 0),(2,V ab),(10,V az)] ?_
 have fS:J<bn:=bo.1 _ (List.mem_of_getElem? (i:=0) rfl) _ (by simp [Itm.ids])
 refine aU (v:=au) rfl trivial rfl (by show J<_;omega) (aB (v:=au) (aY.dk (i:=1) rfl)) (aY.aP (i:=0) rfl (by kernel_rfl)) trivial<|yq 3 [(49,Pt J 0),(46,au),(42,Pt J 0),(0,Pt J 0),(2,V ab),(10,V az)] ?_
 have fT:J<bn:=bo.1 _ (List.mem_of_getElem? (i:=0) rfl) _ (by simp [Itm.ids])
 refine aU (v:=an) rfl trivial rfl (by show J<_;omega) (aB (v:=an) (RS.dD U)) (aY.aP (i:=0) rfl (by kernel_rfl)) trivial<|yq 1 [(51,V ab),(50,an),(46,au),(42,Pt J 0),(0,Pt J 0),(2,V ab),(10,V az)] ?_
 obtain ⟨bP,I⟩:=aK I
 refine aF rfl trivial (bG rfl rfl (by kernel_rfl:slTy _ _=some (aa ak)) (RS.cU U (by omega)) bP.1 bP.2)<|yq 1 [(53, .pointer (some (bh an ab (aa ak) 1))),(46,au),(42,Pt J 0),(0,Pt J 0),(2,V ab),(10,V az)] ?_
 obtain ⟨ay,cy,I⟩:=ai I
 obtain ⟨fU,cz,cB⟩:=RS.cp U (i:=ab) cy
 obtain rfl:=eu cz
 refine cG rfl rfl trivial (fun h2 hz=>bK (w:=V ay.ah) (cB h2 hz) rfl (by kernel_rfl)) (aY.bV (aM.refl _)) (aB (v:=V ay.ah) trivial) trivial<|yq 3 [(57,Pt J 0),(54,V ay.ah),(46,au),(42,Pt J 0),(0,Pt J 0),(2,V ab),(10,V az)] ?_
 have fW:J<bn:=bo.1 _ (List.mem_of_getElem? (i:=0) rfl) _ (by simp [Itm.ids])
 refine aU (v:=an) rfl trivial rfl (by show J<_;omega) (aB (v:=an) (RS.dD U)) (aY.aP (i:=0) rfl (by kernel_rfl)) trivial<|yq 1 [(59,V ab),(58,an),(54,V ay.ah),(46,au),(42,Pt J 0),(0,Pt J 0),(2,V ab),(10,V az)] ?_
 obtain ⟨bQ,I⟩:=aK I
 refine aF rfl trivial (bG rfl rfl (by kernel_rfl:slTy _ _=some (aa ak)) (RS.cU U (by omega)) bQ.1 bQ.2)<|yq 1 [(61, .pointer (some (bh an ab (aa ak) 2))),(54,V ay.ah),(46,au),(42,Pt J 0),(0,Pt J 0),(2,V ab),(10,V az)] ?_
 obtain ⟨aE,cF,I⟩:=ai I
 obtain ⟨fX,cH,cI⟩:=RS.cp U (i:=ab) cF
 obtain rfl:=eu cH
 refine cG rfl rfl trivial (fun h2 hz=>bK (w:=V aE.To) (cI h2 hz) rfl (by kernel_rfl)) (aY.bV (aM.refl _)) (aB (v:=V aE.To) trivial) trivial<|yq 1 [(63, .agg #[V 9,V ay.ah,V aE.To]),(46,au),(42,Pt J 0),(0,Pt J 0),(2,V ab),(10,V az)] ?_
 have cJ:RCs (α:=aj) aZ [V 9,V ay.ah,V aE.To] [(⟨9,ay.ah,aE.To⟩:aj)]:=RCs.cons (cs:=[V 9,V ay.ah,V aE.To]) rfl (RCs.bA _)
 refine jc rfl trivial (c6 (cells:=[V 9,V ay.ah,V aE.To]) (s:=3) (by kernel_rfl)) (by kernel_rfl) aY (by omega) (Nat.add_lt_add_left (by decide) _) ?_
 intro bR fY fZ ga gd bS
 obtain ⟨gf,I⟩:=aK I
 have a9:St _ _ _ _ _ _ ([.gs au a2 (aa aj)]++[.gs bR [V 9,V ay.ah,V aE.To] (aa aj), .ae J (ax an aI au ar)]):=(bS.front 2 rfl)
 refine iT rfl trivial a9 (dZ (ys:=[(⟨9,ay.ah,aE.To⟩:aj)]) (b4:=24) a9.sub (i:=0) rfl ao ((bS.cD).eK (j:=0) rfl cJ) rfl rfl (by kernel_rfl) (by omega) (by omega)) (aM.refl _) (.aT trivial (.aT (a9.bz 1 rfl bH) (.aT trivial (.aT (a9.bz 1 rfl bH) (.aT (a9.bz 1 rfl bH) .nil))))) ?_
 rintro a4 bT gg ⟨bU,br⟩
 refine yq 2 [(67,Pt J 2),(65,a4),(0,Pt J 0),(2,V ab),(10,V az)] ?_
 have bW:St _ _ _ _ _ _ ([.ae J (ax an aI au ar)]++[.gs a4 bT (aa aj), .gs bR [V 9,V ay.ah,V aE.To] (aa aj)]):=(br.front 2 rfl)
 refine fM rfl trivial bW (fI (vs:=[a4]) (cr:=(ax an aI a4 ar)) (L':=[.ae J (ax an aI a4 ar)]) bW.sub (i:=0) rfl rfl rfl (br.gb (i:=0) rfl) (by kernel_rfl) (a8 (br.fV (i:=0) rfl) cc) rfl rfl rfl) (aM.refl _) (.aT trivial (.drop (by decide) (.aT trivial (.drop (by decide) (.drop (by decide) .nil))))) ?_
 intro gh cK
 refine yf [(0,Pt J 0),(2,V ab),(10,V az)] ?_
 have cL:=cK.a5
 refine s0 ?_
 obtain ⟨cM,cN,I⟩:=ai I
 refine cE 4 cL (fun gi bt cR bY=>o8 F (a0:=(⟨ar.L,ar.T,ar.D++[(⟨9,ay.ah,aE.To⟩:aj)],ar.End⟩:aJ)) cR (RS.mono bt U) (RS.mono bt ad) (bf.row (bY _ (List.mem_of_getElem? (i:=1) rfl)) bt bU) (bY _ (List.mem_of_getElem? (i:=0) rfl)) cN) ?_
 rintro _ gj cS rfl
 refine xn 1<|rt<|ba<|ba<|ba<|⟨rfl,?_⟩
 obtain rfl:=si I
 obtain rfl:=si hm
 refine ⟨_,_,_,tk (V cM) (ResL.nil),(cS.takeN 2),?_⟩
 exact ⟨an,aI,a4,bT,rfl,rfl,U,ad,bU⟩
 refine xn 1<|dF<|s0<|aD 2 I ?_ ?_<;>intro gk I
 refine xn 1<|dT<|s0<|aA 4 0 (.agg #[aI]) a3 rfl ?_
 obtain ⟨gl,cV,I⟩:=ai I
 refine c0 3 a3 (rG F a3.eQ ad cV) ?_
 rintro _ gm gn _ bZ cZ ⟨bd,rfl,rfl,b0⟩
 refine bB 2 0 (.agg #[bd]) [bd] (ax an bd au ar) cZ rfl rfl (a8 (RS.cW b0) cc) ?_
 intro gq c3
 refine xn 0<|sp 3<|rt<|ba<|ba<|ba<|⟨rfl,?_⟩
 obtain rfl:=si I
 obtain rfl:=si hm
 refine ⟨_,_,_,tk (V (af (aX+1))) (ResL.nil),c3,?_⟩
 exact ⟨an,bd,au,a2,rfl,rfl,(U.mono bZ),b0,(ao.mono bZ)⟩
 refine xn 1<|dF<|s0 ?_
 obtain ⟨gr,c5,I⟩:=ai I
 refine cP 1 a3 (mJ F a3.inv c5) ?_
 rintro _ gu aL rfl
 refine xn 1<|db I ?_ ?_<;>intro gv I
 refine s0 ?_
 obtain ⟨c7,c8,I⟩:=ai I
 refine cA 5 aL (fun p=>fk F p U ad ao c8) ?_
 rintro _ gw gx _ gy c9 ⟨da,dc,dd,de,rfl,rfl,df,dh,di⟩
 refine xn 0<|gp 3 ?_
 exact ⟨aw,Nat.lt_succ_self _,⟨_,c7.2,aG,af (aX+1),av,da,dc,dd,de,I,df,dh,di,(by kernel_rfl),c9⟩⟩
 refine s0<|aD 1 I ?_ ?_<;>intro gz I
 refine xn 4<|db I ?_ ?_<;>intro gA I
 refine s0<|aA 4 0 (.agg #[aI]) aL rfl ?_
 obtain ⟨dj,dm,I⟩:=ai I
 refine c0 3 aL (rG F aL.eQ ad dm) ?_
 rintro _ gB gC _ b1 dn ⟨bg,rfl,rfl,b2⟩
 refine bB 2 0 (.agg #[bg]) [bg] (ax an bg au ar) dn rfl rfl (a8 (RS.cW b2) cc) ?_
 intro gD dp
 refine xn 0<|sp 1<|gp 3 ?_
 exact ⟨aw,Nat.lt_succ_self _,⟨_,(⟨ar.L,dj,ar.D,ar.End⟩:aJ),false,af (aX+1),av,an,bg,au,a2,I,(U.mono b1),b2,(ao.mono b1),(by kernel_rfl),dp⟩⟩
 refine s0<|aD 1 I ?_ ?_<;>intro gE I
 refine xn 1<|dT<|s0 ?_
 obtain ⟨dq,dr,I⟩:=ai I
 refine cA 5 aL (fun p=>fk F p U ad ao dr) ?_
 rintro _ gF gG _ gH ds ⟨dt,du,dw,dx,rfl,rfl,dy,dz,dA⟩
 refine xn 0<|gp 3 ?_
 exact ⟨aw,Nat.lt_succ_self _,⟨_,dq.2,aG,af (aX+1),av,dt,du,dw,dx,I,dy,dz,dA,(by kernel_rfl),ds⟩⟩
 refine xn 1<|dF<|sp 2<|db I ?_ ?_<;>intro gI I
 refine s0 ?_
 obtain ⟨dB,dC,I⟩:=ai I
 refine cE 2 aL (fun gJ bu dE b3=>vt F dE (RS.mono bu U) (RS.mono bu ad) (bf.row (b3 _ (List.mem_of_getElem? (i:=1) rfl)) bu ao) (b3 _ (List.mem_of_getElem? (i:=0) rfl)) dC) ?_
 rintro _ gK dG rfl
 refine xn 1<|g0 ?_
 obtain ⟨dH,dI,I⟩:=ai I
 refine cA 4 dG (fun p=>fk F p U ad ao dI) ?_
 rintro _ gL gM _ gN dJ ⟨dK,dL,dM,dN,rfl,rfl,dO,dP,dQ⟩
 refine xn 0 ?_
 exact ⟨aw,Nat.lt_succ_self _,⟨_,dH.2,aG,dB,av,dK,dL,dM,dN,I,dO,dP,dQ,(by kernel_rfl),dJ⟩⟩
 refine s0 ?_
 obtain ⟨gO,dR,I⟩:=ai I
 refine cE 2 aL (fun gP bw dS b5=>rO F dS (RS.mono bw U) (RS.mono bw ad) (bf.row (b5 _ (List.mem_of_getElem? (i:=1) rfl)) bw ao) (b5 _ (List.mem_of_getElem? (i:=0) rfl)) dR) ?_
 rintro _ gQ bx rfl
 refine cC 0 I ?_ ?_<;>intro gR I
 refine xn 5<|dT<|s0 ?_
 obtain ⟨b6,dU,I⟩:=ai I
 refine cA 4 bx (fun p=>oJ F b8 iQ p U ad ao dU) ?_
 rintro _ gS gT _ gU dV ⟨dW,dX,dY,ea,rfl,rfl,eb,ec,ed⟩
 refine xn 1<|gp 1 ?_
 exact ⟨aw,Nat.lt_succ_self _,⟨_,b6.2,true,b6.1,av,dW,dX,dY,ea,I,eb,ec,ed,(by kernel_rfl),dV⟩⟩
 obtain ⟨gV,ee,I⟩:=ai I
 refine cP 2 bx (tI F bx.inv ee) ?_
 rintro _ gW b7 rfl
 refine xn 2<|db I ?_ ?_<;>intro gX I
 refine s0 ?_
 obtain ⟨b9,eg,I⟩:=ai I
 refine cA 4 b7 (fun p=>oJ F b8 iQ p U ad ao eg) ?_
 rintro _ gY gZ _ g1 eh ⟨ei,ej,ek,en,rfl,rfl,eo,ep,er⟩
 refine xn 1<|gp 1 ?_
 exact ⟨aw,Nat.lt_succ_self _,⟨_,b9.2,true,b9.1,av,ei,ej,ek,en,I,eo,ep,er,(by kernel_rfl),eh⟩⟩
 refine s0 ?_
 obtain ⟨et,ew,I⟩:=ai I
 refine cA 5 b7 (fun p=>fk F p U ad ao ew) ?_
 rintro _ g2 g3 _ g4 ey ⟨ez,eA,eB,eC,rfl,rfl,eD,eE,eF⟩
 refine xn 0<|gp 3 ?_
 exact ⟨aw,Nat.lt_succ_self _,⟨_,et.2,aG,af (aX+1),av,ez,eA,eB,eC,I,eD,eE,eF,(by kernel_rfl),ey⟩⟩
 refine xn 4<|dF<|s0<|aD 1 I ?_ ?_<;>intro g5 I
 refine xn 1<|dT<|s0 ?_
 obtain ⟨eG,eH,I⟩:=ai I
 refine cA 5 aL (fun p=>fk F p U ad ao eH) ?_
 rintro _ g6 g7 _ g8 eI ⟨eJ,eL,eM,eN,rfl,rfl,eO,eP,eR⟩
 refine xn 0<|gp 3 ?_
 exact ⟨aw,Nat.lt_succ_self _,⟨_,eG.2,aG,af (aX+1),av,eJ,eL,eM,eN,I,eO,eP,eR,(by kernel_rfl),eI⟩⟩
 refine xn 1<|dF<|sp 2<|db I ?_ ?_<;>intro g9 I
 refine s0 ?_
 obtain ⟨eS,eT,I⟩:=ai I
 refine cE 2 aL (fun ha bC eU ca=>vt F eU (RS.mono bC U) (RS.mono bC ad) (bf.row (ca _ (List.mem_of_getElem? (i:=1) rfl)) bC ao) (ca _ (List.mem_of_getElem? (i:=0) rfl)) eT) ?_
 rintro _ hb eV rfl
 refine xn 1<|g0 ?_
 obtain ⟨eW,eX,I⟩:=ai I
 refine cA 4 eV (fun p=>fk F p U ad ao eX) ?_
 rintro _ hc hf _ hg eY ⟨eZ,e0,e2,e3,rfl,rfl,e4,e5,e6⟩
 refine xn 0 ?_
 exact ⟨aw,Nat.lt_succ_self _,⟨_,eW.2,aG,eS,av,eZ,e0,e2,e3,I,e4,e5,e6,(by kernel_rfl),eY⟩⟩
 refine s0 ?_
 obtain ⟨hh,e7,I⟩:=ai I
 refine cE 2 aL (fun hi bD e8 cb=>rO F e8 (RS.mono bD U) (RS.mono bD ad) (bf.row (cb _ (List.mem_of_getElem? (i:=1) rfl)) bD ao) (cb _ (List.mem_of_getElem? (i:=0) rfl)) e7) ?_
 rintro _ hj bE rfl
 refine cC 0 I ?_ ?_<;>intro hk I
 refine xn 5<|dT<|s0 ?_
 obtain ⟨cd,fa,I⟩:=ai I
 refine cA 4 bE (fun p=>oJ F b8 iQ p U ad ao fa) ?_
 rintro _ hl hn _ ho fb ⟨fc,fe,ff,fg,rfl,rfl,fh,fi,fj⟩
 refine xn 1<|gp 1 ?_
 exact ⟨aw,Nat.lt_succ_self _,⟨_,cd.2,true,cd.1,av,fc,fe,ff,fg,I,fh,fi,fj,(by kernel_rfl),fb⟩⟩
 obtain ⟨hp,fl,I⟩:=ai I
 refine cP 2 bE (tI F bE.inv fl) ?_
 rintro _ hq cf rfl
 refine xn 2<|db I ?_ ?_<;>intro hr I
 refine s0 ?_
 obtain ⟨cg,fm,I⟩:=ai I
 refine cA 4 cf (fun p=>oJ F b8 iQ p U ad ao fm) ?_
 rintro _ ht hv _ hx fo ⟨fp,fq,fr,fs,rfl,rfl,ft,fu,fv⟩
 refine xn 1<|gp 1 ?_
 exact ⟨aw,Nat.lt_succ_self _,⟨_,cg.2,true,cg.1,av,fp,fq,fr,fs,I,ft,fu,fv,(by kernel_rfl),fo⟩⟩
 refine s0 ?_
 obtain ⟨fx,fy,I⟩:=ai I
 refine cA 5 cf (fun p=>fk F p U ad ao fy) ?_
 rintro _ hy hA _ hB fz ⟨fA,fB,fC,fD,rfl,rfl,fE,fF,fG⟩
 refine xn 0<|gp 3 ?_
 exact ⟨aw,Nat.lt_succ_self _,⟨_,fx.2,aG,af (aX+1),av,fA,fB,fC,fD,I,fE,fF,fG,(by kernel_rfl),fz⟩⟩
 refine s0<|aA 3 0 aN hS rfl<|a6 1 aO bj ?_
 intro hC aO
 refine bp 1 0 (fun ch=>V ch.Kind) aO bj hS ?_
 intro ch hD aO
 refine aD 0 aO ?_ ?_<;>intro hE aO
 refine xn 0<|dT<|gp 1 ?_
 obtain rfl:=si aO
 exact ⟨_,11,rfl,(by kernel_rfl),hS⟩
 refine xn 0<|dF<|sk ?_
 obtain rfl:=si aO
 exact ⟨_,10,rfl,(by kernel_rfl),hS⟩
def correctorref11_Reader_Value_l0 (F:Nat) (b8:aJ→Int→Int→Int→Option (Int×Int×aJ)) (a0:aJ) (a1:Int) (J:Int) (U:Int):Nat→Int→Int→Int→Option (Int×Int×Int)
 | 0,_,_,_=>none
 | n+1,j,I,aa=>
  (((ee F a0 j).bind fun ab=>
   if ab=(12:Int) then
    some (.inl ())
   else
    (ee F a0 j).bind fun ad=>
    if ad=(14:Int) then
     some (.inl ())
    else
     some (.inr (j,I,aa))):Option (Sum Unit (Int×Int×Int))).bind fun o=>match o with
   | .inl ()=>((if I<(0:Int) then
     some j
    else
     some I):Option Int).bind fun o=>match o with
    | ae=>(kD F a0 (af (j+1))).bind fun ag=>
    correctorref11_Reader_Value_l0 F b8 a0 a1 J U n ag ae j
   | .inr y=>some y
def nG (F:Nat) (b8:aJ→Int→Int→Int→Option (Int×Int×aJ)) (a0:aJ) (a1:Int) (U:Int) (aa:Int):Option (Int×Int×aJ):=
 (kD F a0 U).bind fun ar=>
 ((correctorref11_Reader_Value_l0 F b8 a0 a1 U aa F ar (-1) 0):Option (Int×Int×Int)).bind fun o=>match o with
  | (j,ab,ae)=>((if (0:Int)≤ab then
    some ab
   else
    some j):Option Int).bind fun o=>match o with
   | I=>(ee F a0 j).bind fun J=>
   if J=(13:Int) then
    (eg F a0 a1 8 I (af (j+1))).bind fun ag=>
    some (ag.1,af (j+1),ag.2)
   else
    (eZ F J).bind fun au=>
    if au=true then
     (eg F a0 a1 7 I (af (j+1))).bind fun ah=>
     some (ah.1,af (j+1),ah.2)
    else
     if J=(18:Int) then
      (mq F a0 j).bind fun ai=>
      (eg F a0 a1 7 I ai).bind fun aj=>
      some (aj.1,ai,aj.2)
     else
      (((iY F J).bind fun av=>
       if av=true then
        if aa≤(0:Int) then
         some true
        else
         some false
       else
        some false):Option Bool).bind fun o=>match o with
       | aw=>if aw=true then
        (correctorref11_Reader_balanced F a0 j).bind fun al=>
        (dM F a0 a1 I al 10).bind fun an=>
        some (an.1,al,an.2)
       else
        (iY F J).bind fun ax=>
        if ax=true then
         ((if J=(9:Int) then
           some 10
          else
           some 9):Option Int).bind fun o=>match o with
          | ay=>(eg F a0 a1 ay I (af (j+1))).bind fun ad=>
          (lJ F b8 ad.2 ad.1 j aa).bind fun ao=>
          some (ad.1,ao.1,ao.2)
        else
         if (0:Int)≤ab then
          (eg F a0 a1 7 I (af (ae+1))).bind fun aq=>
          some (aq.1,af (ae+1),aq.2)
         else
          some ((-1),U,a0)
theorem DI (F:Nat) (b8:aJ→Int→Int→Int→Option (Int×Int×aJ)) (iQ:o5 b8) {h:AH} {Z:Zn} {a0:aJ} {a1:Int} {aw:Int} {ay:Int} {I J U j ab} (hP:Pre Z h [.ae I (ax J U j a0), .gs j ab (aa aj)]) (an:RS (α:=ak) Z J a0.L) (ao:RS (α:=aq) Z U a0.T.al) (ar:RCs (α:=aj) Z ab a0.D) {r:Int×Int×aJ} (hm:nG F b8 a0 a1 aw ay=some r):
  bX Try.prog 80 [Pt I 0,V a1,V aw,V ay] h Z [.ae I (ax J U j a0), .gs j ab (aa aj)] fun v Z' A'=>∃ v10 bg bh bj, .tuple #[V r.1,V r.2.1]=v∧A'=[.ae I (ax v10 bg bh r.2.2), .gs bh bj (aa aj)]∧RS (α:=ak) Z' v10 r.2.2.L∧RS (α:=aq) Z' bg r.2.2.T.al∧RCs (α:=aj) Z' bj r.2.2.D:=by
 refine cm Try.func80 hP ?_
 intro hs hS
 unfold nG at hm
 refine sp 2<|s0 ?_
 obtain ⟨bH,bI,hm⟩:=ai hm
 refine cE 2 hS (fun dA aY bJ bl=>tF F bJ (RS.mono aY an) (RS.mono aY ao) (bf.row (bl _ (List.mem_of_getElem? (i:=1) rfl)) aY ar) (bl _ (List.mem_of_getElem? (i:=0) rfl)) bI) ?_
 rintro _ dB bK rfl
 refine xn 1<|sp 2<|sq ?_
 obtain ⟨aZ,au,hm⟩:=ai hm
 refine aH [0,1,2,3,10,11,12] (fun l h=>∃ bm az aE aF,(az,aE,aF)=aZ∧l=[(0,Pt I 0),(1,V a1),(2,V aw),(3,V ay),(10,V az),(11,V aE),(12,V aF)]∧St hs (aR [.ae I (ax J U j a0), .gs j ab (aa aj)]) Z (0,0) bm h [.ae I (ax J U j a0), .gs j ab (aa aj)]) ?_ ?_
 rintro l dC ⟨bm,az,aE,aF,rfl,rfl,bn⟩
 try dsimp only at hm
 refine sp 2<|sq ?_
 obtain ⟨bL,aK,hm⟩:=ai hm
 refine aH [0,1,2,3,10,11,12,13] (fun l h=>∃ bo aI,aI=bL∧l=[(0,Pt I 0),(1,V a1),(2,V aw),(3,V ay),(10,V az),(11,V aE),(12,V aF),(13,V aI)]∧St hs (aR [.ae I (ax J U j a0), .gs j ab (aa aj)]) Z (0,0) bo h [.ae I (ax J U j a0), .gs j ab (aa aj)]) ?_ ?_
 rintro l dD ⟨bo,aI,rfl,rfl,ad⟩
 try dsimp only at hm
 refine s0 ?_
 obtain ⟨bM,bN,hm⟩:=ai hm
 refine cE 2 ad (fun dE a2 bO bp=>e9 F bO (RS.mono a2 (an.mono ad.ag)) (RS.mono a2 (ao.mono ad.ag)) (bf.row (bp _ (List.mem_of_getElem? (i:=1) rfl)) a2 (ar.mono ad.ag)) (bp _ (List.mem_of_getElem? (i:=0) rfl)) bN) ?_
 rintro _ dG a3 rfl
 refine xn 1<|sq<|bk 2<|s0<|aD 1 hm ?_ ?_<;>intro dH hm
 refine xn 1<|dT<|s0 ?_
 obtain ⟨bP,bQ,hm⟩:=ai hm
 refine cA 5 a3 (fun p=>fL F p (an.mono ad.ag) (ao.mono ad.ag) (ar.mono ad.ag) bQ) ?_
 rintro _ dI dJ _ dK bR ⟨bS,bT,bU,rfl,rfl,bV,bW,bY⟩
 refine xn 4<|rt<|ba<|⟨rfl,?_⟩
 obtain rfl:=si hm
 refine ⟨_,_,_,tk (V bP.1) (tk (V (af (az+1))) (ResL.nil)),bR,?_⟩
 exact ⟨bS,bT,j,bU,rfl,rfl,bV,bW,bY⟩
 refine xn 1<|dF<|s0 ?_
 obtain ⟨dL,bZ,hm⟩:=ai hm
 refine cP 1 a3 (pe F a3.inv bZ) ?_
 rintro _ dM aL rfl
 refine xn 1<|db hm ?_ ?_<;>intro dN hm
 refine s0 ?_
 obtain ⟨b0,b1,hm⟩:=ai hm
 refine cA 5 aL (fun p=>fL F p (an.mono ad.ag) (ao.mono ad.ag) (ar.mono ad.ag) b1) ?_
 rintro _ dO dP _ dQ b2 ⟨b3,b4,b5,rfl,rfl,b6,b7,b9⟩
 refine xn 4<|rt<|ba<|⟨rfl,?_⟩
 obtain rfl:=si hm
 refine ⟨_,_,_,tk (V b0.1) (tk (V (af (az+1))) (ResL.nil)),b2,?_⟩
 exact ⟨b3,b4,j,b5,rfl,rfl,b6,b7,b9⟩
 refine s0<|aD 1 hm ?_ ?_<;>intro dR hm
 refine xn 1<|dT<|s0 ?_
 obtain ⟨ca,cb,hm⟩:=ai hm
 refine cE 2 aL (fun dS a4 cc br=>x3 F cc (RS.mono a4 (an.mono ad.ag)) (RS.mono a4 (ao.mono ad.ag)) (bf.row (br _ (List.mem_of_getElem? (i:=1) rfl)) a4 (ar.mono ad.ag)) (br _ (List.mem_of_getElem? (i:=0) rfl)) cb) ?_
 rintro _ dU cd rfl
 refine xn 1<|s0 ?_
 obtain ⟨cf,cg,hm⟩:=ai hm
 refine cA 4 cd (fun p=>fL F p (an.mono ad.ag) (ao.mono ad.ag) (ar.mono ad.ag) cg) ?_
 rintro _ dV dW _ dX ch ⟨cj,ck,cl,rfl,rfl,cn,cp,cq⟩
 refine xn 3<|rt<|ba<|⟨rfl,?_⟩
 obtain rfl:=si hm
 refine ⟨_,_,_,tk (V cf.1) (tk (V ca) (ResL.nil)),ch,?_⟩
 exact ⟨cj,ck,j,cl,rfl,rfl,cn,cp,cq⟩
 refine xn 1<|dF<|sq ?_
 obtain ⟨cr,aA,hm⟩:=ai hm
 refine aH [0,1,2,3,10,11,12,13,14,81] (fun l h=>∃ bt a5,a5=cr∧l=[(0,Pt I 0),(1,V a1),(2,V aw),(3,V ay),(10,V az),(11,V aE),(12,V aF),(13,V aI),(14,V bM),(81, .bool a5)]∧St hs (aR [.ae I (ax J U j a0), .gs j ab (aa aj)]) Z (0,0) bt h [.ae I (ax J U j a0), .gs j ab (aa aj)]) ?_ ?_
 rintro l dY ⟨bt,a5,rfl,rfl,ah⟩
 try dsimp only at hm
 refine db hm ?_ ?_<;>intro dZ hm
 refine s0 ?_
 obtain ⟨ct,cu,hm⟩:=ai hm
 refine cE 2 ah (fun ea a6 cx bu=>yp F cx (RS.mono a6 (an.mono ah.ag)) (RS.mono a6 (ao.mono ah.ag)) (bf.row (bu _ (List.mem_of_getElem? (i:=1) rfl)) a6 (ar.mono ah.ag)) (bu _ (List.mem_of_getElem? (i:=0) rfl)) cu) ?_
 rintro _ eb cy rfl
 refine xn 1<|s0 ?_
 obtain ⟨cz,cB,hm⟩:=ai hm
 refine cA 4 cy (fun p=>fk F p (an.mono ah.ag) (ao.mono ah.ag) (ar.mono ah.ag) cB) ?_
 rintro _ ed ee _ eg cC ⟨cD,cF,cG,cH,rfl,rfl,cI,cJ,cK⟩
 refine xn 3<|rt<|ba<|⟨rfl,?_⟩
 obtain rfl:=si hm
 refine ⟨_,_,_,tk (V cz.1) (tk (V ct) (ResL.nil)),cC,?_⟩
 exact ⟨cD,cF,cG,cH,rfl,rfl,cI,cJ,cK⟩
 refine s0 ?_
 obtain ⟨eh,cL,hm⟩:=ai hm
 refine cP 1 ah (nW F ah.inv cL) ?_
 rintro _ ei aM rfl
 refine xn 1<|db hm ?_ ?_<;>intro ej hm
 refine sp 1<|sq ?_
 obtain ⟨cM,aP,hm⟩:=ai hm
 refine aH [0,1,3,10,13,17] (fun l h=>∃ bw a7,a7=cM∧l=[(0,Pt I 0),(1,V a1),(3,V ay),(10,V az),(13,V aI),(17,V a7)]∧St hs (aR [.ae I (ax J U j a0), .gs j ab (aa aj)]) Z (0,0) bw h [.ae I (ax J U j a0), .gs j ab (aa aj)]) ?_ ?_
 rintro l ek ⟨bw,a7,rfl,rfl,aS⟩
 try dsimp only at hm
 refine s0 ?_
 obtain ⟨cN,cR,hm⟩:=ai hm
 refine cA 6 aS (fun p=>fL F p (an.mono aS.ag) (ao.mono aS.ag) (ar.mono aS.ag) cR) ?_
 rintro _ en eo _ ep cS ⟨er,et,eu,rfl,rfl,cT,cU,cV⟩
 refine xn 1<|s0 ?_
 obtain ⟨cW,cZ,hm⟩:=ai hm
 refine cA 5 cS (fun p=>Eg F b8 iQ p cT cU cV cZ) ?_
 rintro _ ew ey _ ez c0 ⟨c3,c5,c6,c7,rfl,rfl,c8,c9,da⟩
 refine xn 2<|rt<|ba<|⟨rfl,?_⟩
 obtain rfl:=si hm
 refine ⟨_,_,_,tk (V cN.1) (tk (V cW.1) (ResL.nil)),c0,?_⟩
 exact ⟨c3,c5,c6,c7,rfl,rfl,c8,c9,da⟩
 refine s0<|aD 1 aP ?_ ?_<;>intro eA aP
 refine xn 0<|dT<|gp 1 ?_
 obtain rfl:=si aP
 exact ⟨_,10,rfl,(by kernel_rfl),aM⟩
 refine xn 0<|dF<|sk ?_
 obtain rfl:=si aP
 exact ⟨_,9,rfl,(by kernel_rfl),aM⟩
 refine s0<|cv 1 hm ?_ ?_<;>intro eB hm
 refine xn 1<|dT<|s0 ?_
 obtain ⟨dc,dd,hm⟩:=ai hm
 refine cA 5 aM (fun p=>fL F p (an.mono ah.ag) (ao.mono ah.ag) (ar.mono ah.ag) dd) ?_
 rintro _ eC eD _ eE de ⟨df,dh,di,rfl,rfl,dj,dk,dm⟩
 refine xn 4<|rt<|ba<|⟨rfl,?_⟩
 obtain rfl:=si hm
 refine ⟨_,_,_,tk (V dc.1) (tk (V (af (aF+1))) (ResL.nil)),de,?_⟩
 exact ⟨df,dh,j,di,rfl,rfl,dj,dk,dm⟩
 refine xn 1<|dF<|sk<|sp 3<|rt<|⟨rfl,?_⟩
 obtain rfl:=si hm
 refine ⟨_,_,_,tk (V (-1)) (tk (V aw) (ResL.nil)),aM,?_⟩
 exact ⟨J,U,j,ab,rfl,rfl,(an.mono ah.ag),(ao.mono ah.ag),(ar.mono ah.ag)⟩
 refine g0 ?_
 obtain ⟨eF,dn,aA⟩:=ai aA
 refine cP 1 aL (nW F aL.inv dn) ?_
 rintro _ eG a8 rfl
 refine kb 1 84 aA ?_ ?_<;>intro eH aA
 refine fm 1 aA ?_ ?_<;>intro eI aA
 refine xn 2 ?_
 obtain rfl:=si aA
 exact ⟨_,true,rfl,(by kernel_rfl),a8⟩
 refine xn 2 ?_
 obtain rfl:=si aA
 exact ⟨_,false,rfl,(by kernel_rfl),a8⟩
 refine xn 4 ?_
 obtain rfl:=si aA
 exact ⟨_,false,rfl,(by kernel_rfl),a8⟩
 refine s0<|cv 1 aK ?_ ?_<;>intro eJ aK
 refine xn 0<|dT<|gp 2 ?_
 obtain rfl:=si aK
 exact ⟨_,aE,rfl,(by kernel_rfl),bn⟩
 refine xn 0<|dF<|sk ?_
 obtain rfl:=si aK
 exact ⟨_,az,rfl,(by kernel_rfl),bn⟩
 refine bk 0<|lp [0,1,2,3,10,11,12] (fun n l h=>∃ bx aB aG aT,correctorref11_Reader_Value_l0 F b8 a0 a1 aw ay n aB aG aT=some aZ∧l=[(0,Pt I 0),(1,V a1),(2,V aw),(3,V ay),(10,V aB),(11,V aG),(12,V aT)]∧St hs (aR [.ae I (ax J U j a0), .gs j ab (aa aj)]) Z (0,0) bx h [.ae I (ax J U j a0), .gs j ab (aa aj)]) F ⟨_,bH,(-1),0,au,(by kernel_rfl),bK⟩ ?_
 rintro a9 l eK ⟨bx,aB,aG,aT,au,rfl,aC⟩
 rcases a9 with _ | a9
 cases (show none=some aZ from au)
 rw [correctorref11_Reader_Value_l0] at au
 refine sq ?_
 obtain ⟨dp,av,au⟩:=ai au
 refine aH [0,1,2,3,10,11] (fun l h=>∃ bz, .inl ()=dp∧l=[(0,Pt I 0),(1,V a1),(2,V aw),(3,V ay),(10,V aB),(11,V aG)]∧St hs (aR [.ae I (ax J U j a0), .gs j ab (aa aj)]) Z (0,0) bz h [.ae I (ax J U j a0), .gs j ab (aa aj)]) ?_ ?_
 rintro l eL ⟨bz,rfl,rfl,bA⟩
 try dsimp only at au
 refine bk 1<|sq ?_
 obtain ⟨dq,aU,au⟩:=ai au
 refine ec [0,1,2,3,10,11] (fun l h=>∃ bB aW,aW=dq∧l=[(0,Pt I 0),(1,V a1),(2,V aw),(3,V ay),(10,V aB),(11,V aW)]∧St hs (aR [.ae I (ax J U j a0), .gs j ab (aa aj)]) Z (0,0) bB h [.ae I (ax J U j a0), .gs j ab (aa aj)]) (by kernel_rfl) ?_ ?_
 rintro l eM ⟨bB,aW,rfl,rfl,aX⟩
 try dsimp only at au
 refine sp 2<|g0 ?_
 obtain ⟨dr,ds,au⟩:=ai au
 refine cE 3 aX (fun eN bb dt bC=>tF F dt (RS.mono bb (an.mono aX.ag)) (RS.mono bb (ao.mono aX.ag)) (bf.row (bC _ (List.mem_of_getElem? (i:=1) rfl)) bb (ar.mono aX.ag)) (bC _ (List.mem_of_getElem? (i:=0) rfl)) ds) ?_
 rintro _ eO du rfl
 refine xn 1 ?_
 exact ⟨a9,Nat.lt_succ_self _,⟨_,dr,aW,aB,au,(by kernel_rfl),du⟩⟩
 refine g0<|aO 1 aU ?_ ?_<;>intro eP aU
 refine xn 0<|dT<|gp 2 ?_
 obtain rfl:=si aU
 exact ⟨_,aB,rfl,(by kernel_rfl),bA⟩
 refine xn 0<|dF<|sk ?_
 obtain rfl:=si aU
 exact ⟨_,aG,rfl,(by kernel_rfl),bA⟩
 refine s0 ?_
 obtain ⟨eQ,dw,av⟩:=ai av
 refine cE 2 aC (fun eR bc dx bD=>e9 F dx (RS.mono bc (an.mono aC.ag)) (RS.mono bc (ao.mono aC.ag)) (bf.row (bD _ (List.mem_of_getElem? (i:=1) rfl)) bc (ar.mono aC.ag)) (bD _ (List.mem_of_getElem? (i:=0) rfl)) dw) ?_
 rintro _ eS bE rfl
 refine aD 0 av ?_ ?_<;>intro eT av
 refine xn 6<|dT<|sk ?_
 obtain rfl:=si av
 exact ⟨_,rfl,(by kernel_rfl),bE⟩
 obtain ⟨eU,dy,av⟩:=ai av
 refine cE 3 bE (fun eV bd dz bF=>e9 F dz (RS.mono bd (an.mono aC.ag)) (RS.mono bd (ao.mono aC.ag)) (bf.row (bF _ (List.mem_of_getElem? (i:=1) rfl)) bd (ar.mono aC.ag)) (bF _ (List.mem_of_getElem? (i:=0) rfl)) dy) ?_
 rintro _ eW bG rfl
 refine aD 0 av ?_ ?_<;>intro eX av
 refine xn 1<|dT<|sk ?_
 obtain rfl:=si av
 exact ⟨_,rfl,(by kernel_rfl),bG⟩
 refine xn 1<|dF<|xt 0<|aN ?_
 obtain rfl:=si av
 obtain rfl:=si au
 exact ⟨_,aB,aG,aT,rfl,(by kernel_rfl),bG⟩
def oX (F:Nat):Nat→aJ→Int→Int→Int→Option (Int×Int×aJ)
 | 0=>fun _ _ _ _=>none
 | n+1=>nG F (oX F n)
theorem ve (F:Nat):∀ n,o5 (oX F n)
 | 0=>by intro hP j I J r hm;cases hm
 | n+1=>by intro hP j I J r hm;exact DI F _ (ve F n) hP j I J hm
def qC (F:Nat) (a0:aJ) (a1:Int) (j:Int) (I:Int):Option (Int×Int×aJ):=oX F F a0 a1 j I
theorem vW (F:Nat) {h:AH} {Z:Zn} {a0:aJ} {a1:Int} {ad:Int} {af:Int} {j J U I ab} (hP:Pre Z h [.ae j (ax J U I a0), .gs I ab (aa aj)]) (an:RS (α:=ak) Z J a0.L) (ao:RS (α:=aq) Z U a0.T.al) (ar:RCs (α:=aj) Z ab a0.D) {r:Int×Int×aJ} (hm:qC F a0 a1 ad af=some r):
  bX Try.prog 80 [Pt j 0,V a1,V ad,V af] h Z [.ae j (ax J U I a0), .gs I ab (aa aj)] fun v Z' A'=>∃ v10 ag ah ai, .tuple #[V r.1,V r.2.1]=v∧A'=[.ae j (ax v10 ag ah r.2.2), .gs ah ai (aa aj)]∧RS (α:=ak) Z' v10 r.2.2.L∧RS (α:=aq) Z' ag r.2.2.T.al∧RCs (α:=aj) Z' ai r.2.2.D:=ve F F hP an ao ar hm
def kh (F:Nat) (a0:aS) (a1:Int) (I:Int) (J:Bool):Nat→Int→Option Int
 | 0,_=>none
 | n+1,j=>
  ((if 0≤j∧j<(a0.Rows.length:Int) then
    (a0.Rows[j.toNat]?).bind fun U=>
    if U.To<I then
     some (.inl ())
    else
     if J=true then
      if 0≤j∧j<(a0.Rows.length:Int) then
       (a0.Rows[j.toNat]?).bind fun aa=>
       if aa.To=I then
        some (.inl ())
       else
        some (.inr j)
      else none
     else
      some (.inr j)
   else none):Option (Sum Unit Int)).bind fun o=>match o with
   | .inl ()=>kh F a0 a1 I J n (af (j+1))
   | .inr y=>some y
def lF (F:Nat) (a0:aS) (a1:Int) (U:Int) (aa:Bool):Option aS:=
 ((kh F a0 a1 U aa F 0):Option Int).bind fun o=>match o with
  | j=>if 0≤j∧j<(a0.Rows.length:Int) then
   (a0.Rows[j.toNat]?).bind fun ab=>
   (g1 F a0 U ab.To).bind fun I=>
   ((if I.1<I.2 then
     (dM F a0.R a1 I.1 I.2 8).bind fun ad=>
     some (ad.2,a0.Rows,a0.Doc,a0.az,a0.S,a0.av,a0.Read)
    else
     some (a0.R,a0.Rows,a0.Doc,a0.az,a0.S,a0.av,a0.Read)):Option (aJ×(List an)×Int×Bool×(List ar)×Int×Int)).bind fun o=>match o with
    | (ae,J,af,ag,ah,ai,al)=>if 0≤j∧j<(J.length:Int) then
     (J[j.toNat]?).bind fun aj=>
     some (⟨ae,J,af,ag,ah,ai,aj.To⟩:aS)
    else none
  else none
theorem sL (F:Nat) {h:AH} {Z:Zn} {a0:aS} {a1:Int} {aF:Int} {aJ:Bool} {ad j v4 v6 J aw v11 ao I au} (hP:Pre Z h [.ae ad [Pt j 0,v11,V a0.Doc, .bool a0.az,I,V a0.av,V a0.Read], .ae j (ax v4 v6 J a0.R), .gs J aw (aa aj), .gs v11 ao (aa an), .gs I au (aa ar)]) (a6:RS (α:=ak) Z v4 a0.R.L) (a7:RS (α:=aq) Z v6 a0.R.T.al) (a8:RCs (α:=aj) Z aw a0.R.D) (aB:RCs (α:=an) Z ao a0.Rows) (a9:RCs (α:=ar) Z au a0.S) {r:aS} (hm:lF F a0 a1 aF aJ=some r):
  bX Try.prog 81 [Pt ad 0,V a1,V aF, .bool aJ] h Z [.ae ad [Pt j 0,v11,V a0.Doc, .bool a0.az,I,V a0.av,V a0.Read], .ae j (ax v4 v6 J a0.R), .gs J aw (aa aj), .gs v11 ao (aa an), .gs I au (aa ar)] fun v Z' A'=>∃ bl bm bn bo bp br, .tuple #[]=v∧A'=[.ae ad [Pt j 0,v11,V r.Doc, .bool r.az,I,V r.av,V r.Read], .ae j (ax bl bm bn r.R), .gs bn bo (aa aj), .gs v11 bp (aa an), .gs I br (aa ar)]∧RS (α:=ak) Z' bl r.R.L∧RS (α:=aq) Z' bm r.R.T.al∧RCs (α:=aj) Z' bo r.R.D∧RCs (α:=an) Z' bp r.Rows∧RCs (α:=ar) Z' br r.S:=by
 refine cm Try.func81 hP ?_
 intro hs hS
 unfold lF at hm
 refine sp 1<|sq ?_
 obtain ⟨ba,ay,hm⟩:=ai hm
 refine aH [0,1,2,8] (fun l h=>∃ bt aP,aP=ba∧l=[(0,Pt ad 0),(1,V a1),(2,V aF),(8,V aP)]∧St hs (aR [.ae ad [Pt j 0,v11,V a0.Doc, .bool a0.az,I,V a0.av,V a0.Read], .ae j (ax v4 v6 J a0.R), .gs J aw (aa aj), .gs v11 ao (aa an), .gs I au (aa ar)]) Z (0,0) bt h [.ae ad [Pt j 0,v11,V a0.Doc, .bool a0.az,I,V a0.av,V a0.Read], .ae j (ax v4 v6 J a0.R), .gs J aw (aa aj), .gs v11 ao (aa an), .gs I au (aa ar)]) ?_ ?_
 rintro l bZ ⟨bt,aP,rfl,rfl,U⟩
 try dsimp only at hm
 refine s0<|aA 5 0 v11 U rfl<|fj 1 3 hm U (aB.mono U.ag) rfl ?_
 intro b0 hm
 refine gB 1 2 3 (fun bu=>V bu.To) hm U (aB.mono U.ag) rfl ?_
 intro bu b1 hm
 obtain ⟨b2,bD,hm⟩:=ai hm
 refine cE 0 U (fun b3 aK bE aL=>kv F bE (RS.mono aK (a6.mono U.ag)) (RS.mono aK (a7.mono U.ag)) (bf.row (aL _ (List.mem_of_getElem? (i:=2) rfl)) aK (a8.mono U.ag)) (aL _ (List.mem_of_getElem? (i:=1) rfl)) (bf.row (aL _ (List.mem_of_getElem? (i:=3) rfl)) aK (aB.mono U.ag)) (bf.row (aL _ (List.mem_of_getElem? (i:=4) rfl)) aK (a9.mono U.ag)) (aL _ (List.mem_of_getElem? (i:=0) rfl)) bD) ?_
 rintro _ b4 bb rfl
 refine xn 5<|sq ?_
 obtain ⟨bF,aG,hm⟩:=ai hm
 refine aH [0,8] (fun l h=>∃ aC aI bc aT aU bd aW bg aX aY aZ a2 a3 a4,(aI,bc,aT,aU,bd,aW,bg)=bF∧RS (α:=ak) aC aX aI.L∧RS (α:=aq) aC aY aI.T.al∧RCs (α:=aj) aC a2 aI.D∧RCs (α:=an) aC a3 bc∧RCs (α:=ar) aC a4 bd∧l=[(0,Pt ad 0),(8,V aP)]∧St hs (aR [.ae ad [Pt j 0,v11,V a0.Doc, .bool a0.az,I,V a0.av,V a0.Read], .ae j (ax v4 v6 J a0.R), .gs J aw (aa aj), .gs v11 ao (aa an), .gs I au (aa ar)]) Z (0,0) aC h [.ae ad [Pt j 0,v11,V aT, .bool aU,I,V aW,V bg], .ae j (ax aX aY aZ aI), .gs aZ a2 (aa aj), .gs v11 a3 (aa an), .gs I a4 (aa ar)]) ?_ ?_
 rintro l b5 ⟨aC,aI,bc,aT,aU,bd,aW,bg,aX,aY,aZ,a2,a3,a4,rfl,bG,bH,bI,bh,bJ,rfl,a5⟩
 try dsimp only at hm
 refine g0<|aA 4 0 v11 a5 rfl<|fj 1 3 hm a5 bh rfl ?_
 intro b6 hm
 refine gB 1 2 3 (fun aM=>V aM.To) hm a5 bh rfl ?_
 intro aM b7 hm
 refine bB 2 0 (V aM.To) [V aM.To] [Pt j 0,v11,V aT, .bool aU,I,V aW,V aM.To] a5 rfl rfl rfl ?_
 intro b8 bK
 refine xn 0 ?_
 obtain rfl:=si hm
 refine ⟨_,_,_,ResL.nil,bK,?_⟩
 exact ⟨aX,aY,aZ,a2,a3,a4,rfl,rfl,bG,bH,bI,bh,bJ⟩
 refine s0<|aO 2 aG ?_ ?_<;>intro b9 aG
 refine xn 0<|dT<|g0<|aA 3 0 (Pt j 0) bb rfl ?_
 obtain ⟨bL,bM,aG⟩:=ai aG
 have bN:St _ _ _ _ _ _ ([.ae j (ax v4 v6 J a0.R), .gs J aw (aa aj)]++[.ae ad [Pt j 0,v11,V a0.Doc, .bool a0.az,I,V a0.av,V a0.Read], .gs v11 ao (aa an), .gs I au (aa ar)]):=((bb.front 2 rfl).front 2 rfl)
 refine cB 3 bN (fun p=>fk F p (a6.mono U.ag) (a7.mono U.ag) (a8.mono U.ag) bM) ?_
 rintro _ ca cb _ bw bO ⟨bP,bQ,bR,bS,rfl,rfl,bT,bU,bV⟩
 refine xn 0 ?_
 obtain rfl:=si aG
 exact ⟨_,bL.2,a0.Rows,a0.Doc,a0.az,a0.S,a0.av,a0.Read,bP,bQ,bR,bS,ao,au,rfl,bT,bU,bV,(aB.mono (U.ag.trans bw)),(a9.mono (U.ag.trans bw)),(by kernel_rfl),(((((bO.front 4 rfl).front 4 rfl).front 3 rfl).front 3 rfl).front 4 rfl)⟩
 refine xn 0<|dF<|sk ?_
 obtain rfl:=si aG
 exact ⟨_,a0.R,a0.Rows,a0.Doc,a0.az,a0.S,a0.av,a0.Read,v4,v6,J,aw,ao,au,rfl,(a6.mono U.ag),(a7.mono U.ag),(a8.mono U.ag),(aB.mono U.ag),(a9.mono U.ag),(by kernel_rfl),bb⟩
 refine bk 0<|lp [0,1,2,3,8] (fun n l h=>∃ bx aE,kh F a0 a1 aF aJ n aE=some ba∧l=[(0,Pt ad 0),(1,V a1),(2,V aF),(3, .bool aJ),(8,V aE)]∧St hs (aR [.ae ad [Pt j 0,v11,V a0.Doc, .bool a0.az,I,V a0.av,V a0.Read], .ae j (ax v4 v6 J a0.R), .gs J aw (aa aj), .gs v11 ao (aa an), .gs I au (aa ar)]) Z (0,0) bx h [.ae ad [Pt j 0,v11,V a0.Doc, .bool a0.az,I,V a0.av,V a0.Read], .ae j (ax v4 v6 J a0.R), .gs J aw (aa aj), .gs v11 ao (aa an), .gs I au (aa ar)]) F ⟨_,0,ay,(by kernel_rfl),hS⟩ ?_
 rintro bj l cc ⟨bx,aE,ay,rfl,ah⟩
 rcases bj with _ | bj
 cases (show none=some ba from ay)
 rw [kh] at ay
 refine sq ?_
 obtain ⟨bW,ab,ay⟩:=ai ay
 refine aH [0,1,2,3,8] (fun l h=>∃ bz, .inl ()=bW∧l=[(0,Pt ad 0),(1,V a1),(2,V aF),(3, .bool aJ),(8,V aE)]∧St hs (aR [.ae ad [Pt j 0,v11,V a0.Doc, .bool a0.az,I,V a0.av,V a0.Read], .ae j (ax v4 v6 J a0.R), .gs J aw (aa aj), .gs v11 ao (aa an), .gs I au (aa ar)]) Z (0,0) bz h [.ae ad [Pt j 0,v11,V a0.Doc, .bool a0.az,I,V a0.av,V a0.Read], .ae j (ax v4 v6 J a0.R), .gs J aw (aa aj), .gs v11 ao (aa an), .gs I au (aa ar)]) ?_ ?_
 rintro l cd ⟨bz,rfl,rfl,bY⟩
 try dsimp only at ay
 refine bk 1<|gp 3 ?_
 exact ⟨bj,Nat.lt_succ_self _,⟨_,af (aE+1),ay,(by kernel_rfl),bY⟩⟩
 refine s0<|aA 3 0 v11 ah rfl<|fj 1 3 ab ah (aB.mono ah.ag) rfl ?_
 intro cf ab
 refine gB 1 2 3 (fun bA=>V bA.To) ab ah (aB.mono ah.ag) rfl ?_
 intro bA cg ab
 refine aO 1 ab ?_ ?_<;>intro ch ab
 refine xn 15<|dT<|sk ?_
 obtain rfl:=si ab
 exact ⟨_,rfl,(by kernel_rfl),ah⟩
 refine kb 3 23 ab ?_ ?_<;>intro cj ab
 refine aA 3 0 v11 ah rfl<|fj 1 3 ab ah (aB.mono ah.ag) rfl ?_
 intro ck ab
 refine gB 1 2 3 (fun bC=>V bC.To) ab ah (aB.mono ah.ag) rfl ?_
 intro bC cl ab
 refine aD 1 ab ?_ ?_<;>intro cn ab
 refine xn 2<|dT<|sk ?_
 obtain rfl:=si ab
 exact ⟨_,rfl,(by kernel_rfl),ah⟩
 refine xn 2<|dF<|xt 0<|aN ?_
 obtain rfl:=si ab
 obtain rfl:=si ay
 exact ⟨_,aE,rfl,(by kernel_rfl),ah⟩
 refine xn 12<|dF<|xt 0<|aN ?_
 obtain rfl:=si ab
 obtain rfl:=si ay
 exact ⟨_,aE,rfl,(by kernel_rfl),ah⟩
def Dz:List bq:=[uP 9 (mv 0),uP 10 (nk 9),uP 11 (fa 61 10 0),uL 12 (ld 55 11),uP 13 (mv 0),uP 14 (mv 2),uF 15 (cf 79 #[(t 13),(t 14)] #[54,3]) .make [],uP 16 (nk 12),uP 17 (fa 58 16 3),oF (.store 3 (t 17) (t 15)) .make [3]]
def C7:List bq:=[uP 19 (mv 0),uP 20 (nk 19),uP 21 (fa 61 20 0),uL 22 (ld 55 21),uP 23 (mv 1),uP 24 (mv 2),uP 25 (mv 0),uP 26 (nk 25),uP 27 (fa 61 26 5),uL 28 (ld 3 27),uP 29 (mv 0),uP 30 (nk 29),uP 31 (fa 61 30 4),uL 32 (ld 59 31),uP 33 (cb .len #[(t 32)] #[59]),uP 34 (bo .sub 3 28 33 3),uF 35 (cf 80 #[(t 22),(t 23),(t 24),(t 34)] #[55,3,3,3]) .make [3,9,13],uP 18 (mv 35),uP 36 (.extract (t 18) 0),uP 37 (.extract (t 18) 1),uP 7 (sg 36),uP 8 (sg 37)]
def ja (F:Nat) (a0:aS) (a1:Int) (U:Int):Option (Bool×aS):=
 (ma F a0 U).bind fun aA=>
 (qC F (⟨a0.R.L,a0.R.T,a0.R.D,aA⟩:aJ) a1 U (af (a0.av - (a0.S.length:Int)))).bind fun J=>
 ((if J.1<(0:Int) then
   some (J.2.2,a0.Rows,a0.Doc,a0.az,a0.S,a0.av,a0.Read,U)
  else
   some (J.2.2,a0.Rows,a0.Doc,a0.az,a0.S,a0.av,a0.Read,J.2.1)):Option (aJ×(List an)×Int×Bool×(List ar)×Int×Int×Int)).bind fun o=>match o with
  | (aa,ab,ad,ae,ag,ah,ai,aj)=>((if J.1<(0:Int) then
    (lF F (⟨aa,ab,ad,ae,ag,ah,ai⟩:aS) a1 (imax aj U) true).bind fun j=>
    some (j.R,j.Rows,j.Doc,j.az,j.S,j.av,j.Read)
   else
    (lF F (⟨aa,ab,ad,ae,ag,ah,ai⟩:aS) a1 (imax aj U) false).bind fun I=>
    some (I.R,I.Rows,I.Doc,I.az,I.S,I.av,I.Read)):Option (aJ×(List an)×Int×Bool×(List ar)×Int×Int)).bind fun o=>match o with
   | (al,ao,aq,au,aw,ax,ay)=>if (0:Int)≤J.1 then
    some (true,(⟨al,ao,aq,au,aw,ax,ay⟩:aS))
   else
    some (false,(⟨al,ao,aq,au,aw,ax,ay⟩:aS))
theorem n6 (F:Nat) {h:AH} {Z:Zn} {a0:aS} {a1:Int} {ab:Int} {j I v4 v6 U ao v11 ad J ah} (hP:Pre Z h [.ae j [Pt I 0,v11,V a0.Doc, .bool a0.az,J,V a0.av,V a0.Read], .ae I (ax v4 v6 U a0.R), .gs U ao (aa aj), .gs v11 ad (aa an), .gs J ah (aa ar)]) (bG:RS (α:=ak) Z v4 a0.R.L) (bI:RS (α:=aq) Z v6 a0.R.T.al) (bJ:RCs (α:=aj) Z ao a0.R.D) (bj:RCs (α:=an) Z ad a0.Rows) (bd:RCs (α:=ar) Z ah a0.S) {r:Bool×aS} (hm:ja F a0 a1 ab=some r):
  bX Try.prog 68 [Pt j 0,V a1,V ab] h Z [.ae j [Pt I 0,v11,V a0.Doc, .bool a0.az,J,V a0.av,V a0.Read], .ae I (ax v4 v6 U a0.R), .gs U ao (aa aj), .gs v11 ad (aa an), .gs J ah (aa ar)] fun v Z' A'=>∃ bK bL bM bN bO bP, .bool r.1=v∧A'=[.ae j [Pt I 0,v11,V r.2.Doc, .bool r.2.az,J,V r.2.av,V r.2.Read], .ae I (ax bK bL bM r.2.R), .gs bM bN (aa aj), .gs v11 bO (aa an), .gs J bP (aa ar)]∧RS (α:=ak) Z' bK r.2.R.L∧RS (α:=aq) Z' bL r.2.R.T.al∧RCs (α:=aj) Z' bN r.2.R.D∧RCs (α:=an) Z' bO r.2.Rows∧RCs (α:=ar) Z' bP r.2.S:=by
 refine cm Try.func68 hP ?_
 intro hs hS
 unfold ja at hm
 refine sp 1<|cT Dz hS ?_
 intro cd da cf bk
 refine yq 3 [(11,Pt j 0),(0,Pt j 0),(1,V a1),(2,V ab)] ?_
 have db:j<cd:=cf.1 _ (List.mem_of_getElem? (i:=0) rfl) _ (by simp [Itm.ids])
 refine aU (v:=Pt I 0) rfl trivial rfl (by show j<_;omega) (aB (v:=Pt I 0) trivial) (bk.aP (i:=0) rfl (by kernel_rfl)) trivial<|yq 2 [(14,V ab),(13,Pt j 0),(12,Pt I 0),(0,Pt j 0),(1,V a1),(2,V ab)] ?_
 obtain ⟨aG,cg,hm⟩:=ai hm
 have bQ:=bk.cD
 obtain ⟨dc,aI,ch,aN⟩:=St.ko (L:=[.ae j [Pt I 0,v11,V a0.Doc, .bool a0.az,J,V a0.av,V a0.Read], .ae I (ax v4 v6 U a0.R), .gs U ao (aa aj), .gs v11 ad (aa an), .gs J ah (aa ar)]) bQ
 obtain ⟨dd,de,cj,bg,rfl⟩:=AS F ch (RS.mono aI bG) (RS.mono aI bI) (bf.row (aN _ (List.mem_of_getElem? (i:=2) rfl)) aI bJ) (aN _ (List.mem_of_getElem? (i:=1) rfl)) (bf.row (aN _ (List.mem_of_getElem? (i:=3) rfl)) aI bj) (bf.row (aN _ (List.mem_of_getElem? (i:=4) rfl)) aI bd) (aN _ (List.mem_of_getElem? (i:=0) rfl)) cg
 replace bg:=St.ku aI bg
 have ck:=St.call (A:=[]) (B:=[.ae j [Pt I 0,v11,V a0.Doc, .bool a0.az,J,V a0.av,V a0.Read], .ae I (ax v4 v6 U a0.R), .gs U ao (aa aj), .gs v11 ad (aa an), .gs J ah (aa ar)]) bQ bg
 refine eM rfl trivial bk (cV cj rfl rfl rfl) ck (St.eC bg) ?_
 intro df cl
 refine yq 2 [(17,Pt I 3),(15,V aG),(0,Pt j 0),(1,V a1),(2,V ab)] ?_
 have bl:St _ _ _ _ _ _ ([.ae I (ax v4 v6 U a0.R)]++[.ae j [Pt I 0,v11,V a0.Doc, .bool a0.az,J,V a0.av,V a0.Read], .gs U ao (aa aj), .gs v11 ad (aa an), .gs J ah (aa ar)]):=(cl.front 1 rfl)
 refine fM rfl trivial bl (fI (vs:=[V aG]) (cr:=[v4,v6,U,V aG]) (L':=[.ae I [v4,v6,U,V aG]]) bl.sub (i:=0) rfl rfl rfl rfl (by kernel_rfl) rfl rfl rfl rfl) (aM.refl _) (.aT (bl.bz 0 rfl bH) .nil) ?_
 intro dh cn
 refine yf [(0,Pt j 0),(1,V a1),(2,V ab)] ?_
 have cp:=cn.a5
 refine cT C7 cp ?_
 intro bm di bn aK
 refine yq 3 [(21,Pt j 0),(0,Pt j 0),(1,V a1),(2,V ab)] ?_
 have dj:j<bm:=bn.1 _ (List.mem_of_getElem? (i:=1) rfl) _ (by simp [Itm.ids])
 refine aU (v:=Pt I 0) rfl trivial rfl (by show j<_;omega) (aB (v:=Pt I 0) trivial) (aK.aP (i:=1) rfl (by kernel_rfl)) trivial<|yq 5 [(27,Pt j 5),(24,V ab),(23,V a1),(22,Pt I 0),(0,Pt j 0),(1,V a1),(2,V ab)] ?_
 have dm:j<bm:=bn.1 _ (List.mem_of_getElem? (i:=1) rfl) _ (by simp [Itm.ids])
 refine aU (v:=V a0.av) rfl trivial rfl (by show j<_;omega) (aB (v:=V a0.av) trivial) (aK.aP (i:=1) rfl (by kernel_rfl)) trivial<|yq 3 [(31,Pt j 4),(28,V a0.av),(24,V ab),(23,V a1),(22,Pt I 0),(0,Pt j 0),(1,V a1),(2,V ab)] ?_
 have dn:j<bm:=bn.1 _ (List.mem_of_getElem? (i:=1) rfl) _ (by simp [Itm.ids])
 refine aU (v:=J) rfl trivial rfl (by show j<_;omega) (aB (v:=J) (aK.dk (i:=4) rfl)) (aK.aP (i:=1) rfl (by kernel_rfl)) trivial<|aF rfl trivial (gP rfl (aK.dV (i:=4) rfl bd) ⟨_,Try.underlying59⟩)<|yq 1 [(34,V (af (a0.av - (a0.S.length:Int)))),(24,V ab),(23,V a1),(22,Pt I 0),(0,Pt j 0),(1,V a1),(2,V ab)] ?_
 obtain ⟨ay,cq,hm⟩:=ai hm
 have aW:St _ _ _ _ _ _ ([.ae I [v4,v6,U,V aG], .gs U ao (aa aj)]++[.ae j [Pt I 0,v11,V a0.Doc, .bool a0.az,J,V a0.av,V a0.Read], .gs v11 ad (aa an), .gs J ah (aa ar)]):=((aK.front 2 rfl).front 1 rfl)
 obtain ⟨dp,dq,dr,ds,ct,bR,bS,bT,bU,bV,rfl,rfl,bW,bY,bZ⟩:=vW F (a0:=(⟨a0.R.L,a0.R.T,a0.R.D,aG⟩:aJ)) aW.cD.ez bG bI bJ cq
 have aX:=bR.ag
 refine fF rfl trivial aW (cV ct rfl rfl rfl) bR aX (.aT (aW.bz 0 rfl bH) (.aT (aW.bz 0 rfl bH) (.aT (aW.bz 0 rfl bH) .nil))) ?_
 intro dt cu
 refine ye 5 [(8,V ay.2.1),(7,V ay.1),(0,Pt j 0),(1,V a1),(2,V ab)] ?_
 have b0:=cu.a5
 refine sq ?_
 obtain ⟨cx,bh,hm⟩:=ai hm
 refine aH [0,1,2,7,8] (fun l h=>∃ aA au aY aZ a2 a3 a4 a6 bo bp br bt bu bw bx,(au,aY,aZ,a2,a3,a4,a6,bo)=cx∧RS (α:=ak) aA bp au.L∧RS (α:=aq) aA br au.T.al∧RCs (α:=aj) aA bu au.D∧RCs (α:=an) aA bw aY∧RCs (α:=ar) aA bx a3∧l=[(0,Pt j 0),(1,V a1),(2,V ab),(7,V ay.1),(8,V bo)]∧St hs (aR [.ae j [Pt I 0,v11,V a0.Doc, .bool a0.az,J,V a0.av,V a0.Read], .ae I (ax v4 v6 U a0.R), .gs U ao (aa aj), .gs v11 ad (aa an), .gs J ah (aa ar)]) Z (0,0) aA h [.ae j [Pt I 0,v11,V aZ, .bool a2,J,V a4,V a6], .ae I (ax bp br bt au), .gs bt bu (aa aj), .gs v11 bw (aa an), .gs J bx (aa ar)]) ?_ ?_
 rintro l du ⟨aA,au,aY,aZ,a2,a3,a4,a6,bo,bp,br,bt,bu,bw,bx,rfl,b1,b2,b3,b4,b5,rfl,b6⟩
 try dsimp only at hm
 refine sq ?_
 obtain ⟨cy,aw,hm⟩:=ai hm
 refine aH [7] (fun l h=>∃ aC aL bA bB bC bD bE bF a7 a8 a9 ba bb bc,(aL,bA,bB,bC,bD,bE,bF)=cy∧RS (α:=ak) aC a7 aL.L∧RS (α:=aq) aC a8 aL.T.al∧RCs (α:=aj) aC ba aL.D∧RCs (α:=an) aC bb bA∧RCs (α:=ar) aC bc bD∧l=[(7,V ay.1)]∧St hs (aR [.ae j [Pt I 0,v11,V a0.Doc, .bool a0.az,J,V a0.av,V a0.Read], .ae I (ax v4 v6 U a0.R), .gs U ao (aa aj), .gs v11 ad (aa an), .gs J ah (aa ar)]) Z (0,0) aC h [.ae j [Pt I 0,v11,V bB, .bool bC,J,V bE,V bF], .ae I (ax a7 a8 a9 aL), .gs a9 ba (aa aj), .gs v11 bb (aa an), .gs J bc (aa ar)]) ?_ ?_
 rintro l dw ⟨aC,aL,bA,bB,bC,bD,bE,bF,a7,a8,a9,ba,bb,bc,rfl,b7,b8,b9,ca,cb,rfl,cc⟩
 try dsimp only at hm
 refine s0<|cv 1 hm ?_ ?_<;>intro dx hm
 refine xn 1<|rt<|⟨rfl,?_⟩
 obtain rfl:=si hm
 refine ⟨_,_,_,tk (.bool true) (ResL.nil),cc,?_⟩
 exact ⟨a7,a8,a9,ba,bb,bc,rfl,rfl,b7,b8,b9,ca,cb⟩
 refine xn 1<|rt<|⟨rfl,?_⟩
 obtain rfl:=si hm
 refine ⟨_,_,_,tk (.bool false) (ResL.nil),cc,?_⟩
 exact ⟨a7,a8,a9,ba,bb,bc,rfl,rfl,b7,b8,b9,ca,cb⟩
 refine g0<|aO 6 aw ?_ ?_<;>intro dy aw
 obtain ⟨aD,cz,aw⟩:=ai aw
 refine cA 0 b6 (fun p=>sL F (a0:=(⟨au,aY,aZ,a2,a3,a4,a6⟩:aS)) p b1 b2 b3 b4 b5 cz) ?_
 rintro _ dz dA _ dB cB ⟨cC,cE,cF,cG,cH,cI,rfl,rfl,cJ,cK,cL,cM,cN⟩
 refine xn 0 ?_
 obtain rfl:=si aw
 exact ⟨_,aD.R,aD.Rows,aD.Doc,aD.az,aD.S,aD.av,aD.Read,cC,cE,cF,cG,cH,cI,rfl,cJ,cK,cL,cM,cN,(by kernel_rfl),cB⟩
 obtain ⟨aE,cP,aw⟩:=ai aw
 refine cA 0 b6 (fun p=>sL F (a0:=(⟨au,aY,aZ,a2,a3,a4,a6⟩:aS)) p b1 b2 b3 b4 b5 cP) ?_
 rintro _ dC dD _ dE cR ⟨cS,cU,cW,cZ,c0,c3,rfl,rfl,c5,c6,c7,c8,c9⟩
 refine xn 0 ?_
 obtain rfl:=si aw
 exact ⟨_,aE.R,aE.Rows,aE.Doc,aE.az,aE.S,aE.av,aE.Read,cS,cU,cW,cZ,c0,c3,rfl,c5,c6,c7,c8,c9,(by kernel_rfl),cR⟩
 refine s0<|aO 1 bh ?_ ?_<;>intro dG bh
 refine xn 0<|dT<|gp 2 ?_
 obtain rfl:=si bh
 exact ⟨_,ay.2.2,a0.Rows,a0.Doc,a0.az,a0.S,a0.av,a0.Read,ab,bS,bT,bU,bV,ad,ah,rfl,bW,bY,bZ,(bj.mono aX),(bd.mono aX),(by kernel_rfl),(((((b0.front 4 rfl).front 4 rfl).front 3 rfl).front 3 rfl).front 4 rfl)⟩
 refine xn 0<|dF<|sk ?_
 obtain rfl:=si bh
 exact ⟨_,ay.2.2,a0.Rows,a0.Doc,a0.az,a0.S,a0.av,a0.Read,ay.2.1,bS,bT,bU,bV,ad,ah,rfl,bW,bY,bZ,(bj.mono aX),(bd.mono aX),(by kernel_rfl),(((((b0.front 4 rfl).front 4 rfl).front 3 rfl).front 3 rfl).front 4 rfl)⟩
def wz:List bq:=[uP 75 (mv 0),uP 76 (nk 75),uP 77 (fa 61 76 0),uL 78 (ld 55 77),uP 79 (mv 0),uP 80 (nk 79),uP 81 (fa 61 80 0),uL 82 (ld 55 81),uP 83 (nk 82),uP 84 (fa 58 83 1),uL 85 (ld 27 84),uP 86 (mv 0),uP 87 (nk 86),uP 88 (fa 61 87 2),uL 89 (ld 3 88),uP 90 (mv 4),uP 91 (bc .add 3 90 1 3),uF 92 (cf 69 #[(t 85),(t 89),(t 91)] #[27,3,3]) .make [7,10,14],uP 93 (nk 78),uP 94 (fa 58 93 1),oF (.store 27 (t 94) (t 92)) .make [3,7,10,14]]
def zH:List bq:=[uP 14 (mv 0),uP 15 (nk 14),uP 16 (fa 61 15 4),uL 17 (ld 59 16),uP 18 (mv 0),uP 19 (nk 18),uP 20 (fa 61 19 4),uL 21 (ld 59 20),uP 22 (cb .len #[(t 21)] #[59]),uP 23 (bc .sub 3 22 1 3),uP 24 (ia 59 17 23),uL 25 (ld 114 24),uF 3 (.alloc 114) .fresh [],oF (.store 114 (t 3) (t 25)) .make [3,7,11]]
def iK (F:Nat) (a0:aS):Option Int:=
 if (a0.S.length:Int)=(0:Int) then
  some a0.Doc
 else
  if 0≤(af ((a0.S.length:Int) - 1))∧(af ((a0.S.length:Int) - 1))<(a0.S.length:Int) then
   (a0.S[(af ((a0.S.length:Int) - 1)).toNat]?).bind fun j=>
   if j.Has=true then
    some j.Node
   else
    some j.bP
  else none
theorem my (F:Nat) {h:AH} {Z:Zn} {a0:aS} {U ao v4 v6 au v11 I} (hI:Inv Z h) (aL:RS (α:=ak) Z v4 a0.R.L) (aN:RS (α:=aq) Z v6 a0.R.T.al) (aO:RS (α:=aj) Z au a0.R.D) (aP:Z ao=some (ax v4 v6 au a0.R)) (aR:RS (α:=an) Z v11 a0.Rows) (J:RS (α:=ar) Z I a0.S) (ad:Z U=some [Pt ao 0,v11,V a0.Doc, .bool a0.az,I,V a0.av,V a0.Read]) {r:Int} (hm:iK F a0=some r):
  bU Try.prog 47 [Pt U 0] h Z (V r):=by
 refine b1 Try.func47 hI ?_
 intro hs hS
 unfold iK at hm
 refine sp 1<|sq<|s0<|bu 3 I hS ad<|bM 0 I (RS.len J)<|aD 0 hm ?_ ?_<;>intro aU hm
 refine xn 0<|dT<|s0<|bu 3 (V a0.Doc) hS ad<|xn 1<|rt<|⟨rfl,?_⟩
 obtain rfl:=si hm
 refine ⟨_,_,_,tk (V a0.Doc) (ResL.nil),hS,?_⟩
 exact rfl
 refine xn 0<|dF<|sk<|cT zH hS ?_
 intro aW aX aY ag
 refine yq 3 [(16,Pt U 4),(0,Pt U 0)]<|cG rfl rfl trivial (fun h2 hz=>lB (v:=I) h2 hz ad rfl (by kernel_rfl)) (ag.bV (aM.refl _)) (aB (v:=I) (RS.dD J)) trivial<|yq 3 [(20,Pt U 4),(17,I)]<|cG rfl rfl trivial (fun h2 hz=>lB (v:=I) h2 hz ad rfl (by kernel_rfl)) (ag.bV (aM.refl _)) (aB (v:=I) (RS.dD J)) trivial ?_
 refine aF rfl trivial (gP rfl (RS.len J) ⟨_,Try.underlying59⟩)<|yq 1 [(23,V (af ((a0.S.length:Int) - 1))),(17,I)] ?_
 obtain ⟨aw,hm⟩:=aK hm
 refine aF rfl trivial (bG rfl rfl (by kernel_rfl:slTy _ _=some (aa ar)) (RS.cU J (by omega)) aw.1 aw.2) ?_
 obtain ⟨j,aE,hm⟩:=ai hm
 obtain ⟨aZ,aG,aH⟩:=RS.cp J (i:=af ((a0.S.length:Int) - 1)) aE
 obtain rfl:=dW aG
 refine cG rfl rfl trivial (fun h2 hz=>bK (w:= .agg #[V j.Node,V j.Kind,V j.aC,V j.bP, .bool j.Has]) (aH h2 hz) rfl (by kernel_rfl)) (ag.bV (aM.refl _)) (g7 (cs:=[V j.Node,V j.Kind,V j.aC,V j.bP, .bool j.Has]) (.cons trivial (.cons trivial (.cons trivial (.cons trivial (.cons trivial .nil)))))) trivial ?_
 refine r4 rfl trivial (oz (cs:=[V 0,V 0,V 0,V 0, .bool false]) (by kernel_rfl)) ag (by omega) (Nat.add_lt_add_left (by decide) _) ?_
 intro ah a1 a2 aI
 have ay:St _ _ _ _ _ _ ([.ae ah [V 0,V 0,V 0,V 0, .bool false]]++[]):=(aI.front 0 rfl)
 refine fM rfl trivial ay (fI (vs:=[V j.Node,V j.Kind,V j.aC,V j.bP, .bool j.Has]) (cr:=(rS j)) (L':=[.ae ah (rS j)]) ay.sub (i:=0) rfl rfl rfl rfl (by kernel_rfl) rfl rfl rfl rfl) (aM.refl _) (.aT trivial (.aT trivial (.aT trivial .nil))) ?_
 intro a3 aJ
 refine yf [(3,Pt ah 0)] ?_
 have ab:=aJ.a5
 refine sq<|s0<|aA 1 0 (.bool j.Has) ab rfl<|kb 0 27 hm ?_ ?_<;>intro a4 hm
 refine xn 1<|dF<|sk<|s0<|aA 1 0 (V j.Node) ab rfl<|xn 1<|rt<|⟨rfl,?_⟩
 obtain rfl:=si hm
 refine ⟨_,_,_,tk (V j.Node) (ResL.nil),ab,?_⟩
 exact rfl
 refine xn 1<|dT<|s0<|aA 1 0 (V j.bP) ab rfl<|xn 1<|rt<|⟨rfl,?_⟩
 obtain rfl:=si hm
 refine ⟨_,_,_,tk (V j.bP) (ResL.nil),ab,?_⟩
 exact rfl
end Go.Proofs.Ytcilejikekccmaa.M
namespace Go.Proofs.Ytcilejikekccmaa.M
open Go Am Sy
open Sy.Cell (rc)
def z3:List bq:=[uP 15 (mv 8),uP 16 (bc .geq 3 15 0 3),uP 17 (mv 16),aI 17 18 (mv 0),aI 17 19 (nk 18),aI 17 20 (fa 61 19 4),cJ 17 21 (ld 59 20),aI 17 22 (mv 8),aI 17 23 (ia 59 21 22),aI 17 24 (fa 114 23 2),cJ 17 25 (ld 3 24),aI 17 26 (fa 63 5 3),cJ 17 27 (ld 3 26),aI 17 28 (bo .geq 3 25 27 3),uP 29 (pf 17 28)]
def q5:List bq:=[uP 54 (mv 0),uP 55 (nk 54),uP 56 (fa 61 55 0),uL 57 (ld 55 56),uP 58 (mv 0),uF 59 (cf 47 #[(t 58)] #[54]) .make [],uP 60 (mv 2),uP 61 (mv 3),uF 62 (cf 46 #[(t 57),(t 59),(t 60),(t 61),(ci 7)] #[55,3,3,3,3]) .make [3]]
def D6:List aV:=[u 63 (mv 0),u 64 (.buildSlice 59 0 #[]),u 65 (mv 0),u 66 (nk 65),u 67 (fa 61 66 4),u 68 (ld 59 67),u 69 (mv 8),u 70 (bc .add 3 69 1 3),u 71 (.slice 59 (t 68) none (some (t 70)) none),u 72 (cb .append #[(t 64),(t 71)] #[59,59]),u 73 (nk 63),u 74 (fa 61 73 4),o (.store 59 (t 74) (t 72))]
def BR:List bq:=[uP 87 (mv 0),uP 88 (nk 87),uP 89 (fa 61 88 4),uL 90 (ld 59 89),uP 91 (mv 8),uP 92 (mv 0),uP 93 (mv 0),uP 94 (nk 93),uP 95 (fa 61 94 4),uL 96 (ld 59 95),uP 97 (mv 8),uP 98 (ia 59 96 97),uP 99 (fa 114 98 3),uL 100 (ld 3 99),uP 101 (mv 2),uF 102 (cf 68 #[(t 92),(t 100),(t 101)] #[54,3,3]) .make [9,13],uP 103 (ia 59 90 91),uP 104 (fa 114 103 4),oF (.store 4 (t 104) (t 102)) .make [3,9,13]]
def correctorref12_parser_bare_l0 (F:Nat) (a0:aS) (a1:an) (J:Int) (U:Int):Nat→an→Int→Option Int
 | 0,_,_=>none
 | n+1,I,j=>
  if (0:Int)≤j then
   if 0≤j∧j<(a0.S.length:Int) then
    (a0.S[j.toNat]?).bind fun aa=>
    if I.aC≤aa.aC then
     correctorref12_parser_bare_l0 F a0 a1 J U n I (af (j - 1))
    else
     some j
   else none
  else
   some j
def nD (F:Nat) (a0:aS) (a1:an) (U:Int) (aa:Int):Option aS:=
 ((correctorref12_parser_bare_l0 F a0 a1 U aa F a1 (af ((a0.S.length:Int) - 1))):Option Int).bind fun o=>match o with
  | j=>((if j<(0:Int) then
    if a0.az=true then
     (iK F a0).bind fun ad=>
     (dM F a0.R ad U aa 7).bind fun ae=>
     some (.inr (⟨ae.2,a0.Rows,a0.Doc,a0.az,a0.S,a0.av,a0.Read⟩:aS))
    else
     if (0:Int)≤j then
      if 0≤j∧j<(a0.S.length:Int) then
       (a0.S[j.toNat]?).bind fun ag=>
       if ag.Has=true then
        (iK F a0).bind fun ah=>
        (dM F a0.R ah U aa 7).bind fun ai=>
        some (.inr (⟨ai.2,a0.Rows,a0.Doc,a0.az,a0.S,a0.av,a0.Read⟩:aS))
       else
        some (.inl ())
      else none
     else
      some (.inl ())
   else
    if (0:Int)≤j then
     if 0≤j∧j<(a0.S.length:Int) then
      (a0.S[j.toNat]?).bind fun aj=>
      if aj.Has=true then
       (iK F a0).bind fun al=>
       (dM F a0.R al U aa 7).bind fun ao=>
       some (.inr (⟨ao.2,a0.Rows,a0.Doc,a0.az,a0.S,a0.av,a0.Read⟩:aS))
      else
       some (.inl ())
     else none
    else
     some (.inl ())):Option (Sum Unit aS)).bind fun o=>match o with
   | .inl ()=>if 0≤(0:Int)∧(0:Int)≤(af (j+1))∧(af (j+1))≤(a0.S.length:Int) then
    if ([]:List ar).length+((a0.S.take (af (j+1)).toNat).drop (0:Int).toNat).length≤3518437208883 then
     if j<(0:Int) then
      (ja F (⟨a0.R,a0.Rows,a0.Doc,a0.az,([]:List ar)++((a0.S.take (af (j+1)).toNat).drop (0:Int).toNat),a0.av,a0.Read⟩:aS) a0.Doc U).bind fun J=>
      some (⟨J.2.R,J.2.Rows,J.2.Doc,J.1,J.2.S,J.2.av,J.2.Read⟩:aS)
     else
      if 0≤j∧j<((([]:List ar)++((a0.S.take (af (j+1)).toNat).drop (0:Int).toNat)).length:Int) then
       ((([]:List ar)++((a0.S.take (af (j+1)).toNat).drop (0:Int).toNat))[j.toNat]?).bind fun aq=>
       (ja F (⟨a0.R,a0.Rows,a0.Doc,a0.az,([]:List ar)++((a0.S.take (af (j+1)).toNat).drop (0:Int).toNat),a0.av,a0.Read⟩:aS) aq.bP U).bind fun I=>
       if 0≤j∧j<(I.2.S.length:Int) then
        (I.2.S[j.toNat]?).bind fun ab=>
        some (⟨I.2.R,I.2.Rows,I.2.Doc,I.2.az,I.2.S.set j.toNat (⟨ab.Node,ab.Kind,ab.aC,ab.bP,I.1⟩:ar),I.2.av,I.2.Read⟩:aS)
       else none
      else none
    else none
   else none
   | .inr y=>some y
theorem BD (F:Nat) {h:AH} {Z:Zn} {a0:aS} {a1:an} {au:Int} {ay:Int} {I J v4 v6 ao aI v11 aD U aG} (hP:Pre Z h [.ae I [Pt J 0,v11,V a0.Doc, .bool a0.az,U,V a0.av,V a0.Read], .ae J (ax v4 v6 ao a0.R), .gs ao aI (aa aj), .gs v11 aD (aa an), .gs U aG (aa ar)]) (a4:RS (α:=ak) Z v4 a0.R.L) (a6:RS (α:=aq) Z v6 a0.R.T.al) (a7:RCs (α:=aj) Z aI a0.R.D) (a9:RCs (α:=an) Z aD a0.Rows) (aM:RCs (α:=ar) Z aG a0.S) {r:aS} (hm:nD F a0 a1 au ay=some r):
  bX Try.prog 71 [Pt I 0, .agg #[V a1.Kind,V a1.ah,V a1.To,V a1.aC],V au,V ay] h Z [.ae I [Pt J 0,v11,V a0.Doc, .bool a0.az,U,V a0.av,V a0.Read], .ae J (ax v4 v6 ao a0.R), .gs ao aI (aa aj), .gs v11 aD (aa an), .gs U aG (aa ar)] fun v Z' A'=>∃ cf cg ch cj ck cl cn, .tuple #[]=v∧A'=[.ae I [Pt J 0,v11,V r.Doc, .bool r.az,cl,V r.av,V r.Read], .ae J (ax cf cg ch r.R), .gs ch cj (aa aj), .gs v11 ck (aa an), .gs cl cn (aa ar)]∧RS (α:=ak) Z' cf r.R.L∧RS (α:=aq) Z' cg r.R.T.al∧RCs (α:=aj) Z' cj r.R.D∧RCs (α:=an) Z' ck r.Rows∧RCs (α:=ar) Z' cn r.S:=by
 refine cm Try.func71 hP ?_
 intro hs hS
 unfold nD at hm
 refine s0<|df 0 [V a1.Kind,V a1.ah,V a1.To,V a1.aC] hS ?_
 intro c0 fp bC
 refine xn 0<|s0<|aA 3 1 U bC rfl<|bM 0 U (bC.dV (i:=5) rfl aM)<|xn 2<|sq ?_
 obtain ⟨bD,aL,hm⟩:=ai hm
 refine aH [0,2,3,8] (fun l h=>∃ cp aE,aE=bD∧l=[(0,Pt I 0),(2,V au),(3,V ay),(8,V aE)]∧St hs (aR [.ae I [Pt J 0,v11,V a0.Doc, .bool a0.az,U,V a0.av,V a0.Read], .ae J (ax v4 v6 ao a0.R), .gs ao aI (aa aj), .gs v11 aD (aa an), .gs U aG (aa ar)]) Z (0,0) cp h [.ae I [Pt J 0,v11,V a0.Doc, .bool a0.az,U,V a0.av,V a0.Read], .ae J (ax v4 v6 ao a0.R), .gs ao aI (aa aj), .gs v11 aD (aa an), .gs U aG (aa ar)]) ?_ ?_
 rintro l fq ⟨cp,aE,rfl,rfl,ab⟩
 try dsimp only at hm
 refine sq ?_
 obtain ⟨c3,ad,hm⟩:=ai hm
 refine aH [0,2,8] (fun l h=>∃ bE, .inl ()=c3∧l=[(0,Pt I 0),(2,V au),(8,V aE)]∧St hs (aR [.ae I [Pt J 0,v11,V a0.Doc, .bool a0.az,U,V a0.av,V a0.Read], .ae J (ax v4 v6 ao a0.R), .gs ao aI (aa aj), .gs v11 aD (aa an), .gs U aG (aa ar)]) Z (0,0) bE h [.ae I [Pt J 0,v11,V a0.Doc, .bool a0.az,U,V a0.av,V a0.Read], .ae J (ax v4 v6 ao a0.R), .gs ao aI (aa aj), .gs v11 aD (aa an), .gs U aG (aa ar)]) ?_ ?_
 rintro l fr ⟨bE,rfl,rfl,aX⟩
 try dsimp only at hm
 refine sr D6<|xq 1 [(63,Pt I 0),(0,Pt I 0),(2,V au),(8,V aE)] ?_
 have c5:RCs (α:=ar) bE [] []:=RCs.bA _
 refine eh rfl trivial (c6 (cells:=[]) (s:=5) (by kernel_rfl)) (by kernel_rfl) aX ?_
 intro c7 fs cq
 refine aA 3 1 U cq rfl<|xq 2 [(70,V (af (aE+1))),(68,U),(64,c7),(63,Pt I 0),(0,Pt I 0),(2,V au),(8,V aE)] ?_
 obtain ⟨ft,aY,c8,cr⟩:=(cq.front 5 rfl).freeze (aM.mono aX.ag)
 obtain ⟨bF,hm⟩:=aK hm
 refine mS rfl trivial (j2 (a:=0) (b:=af (aE+1)) c8 rfl (by kernel_rfl:slTy _ _=some (aa ar)) rfl ⟨_,rfl⟩ bF.1 bF.2.1 bF.2.2) ?_
 intro fu c9
 obtain ⟨fv,da⟩:=RS.news c9 (cr).inv
 obtain ⟨fx,hm⟩:=aK hm
 refine gd rfl trivial (dZ (ys:=(a0.S.take (af (aE+1)).toNat).drop (0:Int).toNat) (b4:=40) cr (i:=0) rfl (c5.mono aY) da rfl rfl (by kernel_rfl) (by omega) (by omega)) ?_
 rintro aw dc fy ⟨bm,bI⟩
 refine bB 2 1 aw [aw] [Pt J 0,v11,V a0.Doc, .bool a0.az,aw,V a0.av,V a0.Read] bI rfl (bI.gb (i:=0) rfl) (a8 (bI.fV (i:=0) rfl) cc) ?_
 intro fz bJ
 refine xn 0<|sq<|s0<|aO 1 hm ?_ ?_<;>intro fA hm
 refine xn 0<|dT<|s0<|aA 5 1 (V a0.Doc) bJ rfl ?_
 obtain ⟨bc,dd,hm⟩:=ai hm
 refine cA 1 (((((bJ.front 0 rfl).front 4 rfl).front 4 rfl).front 4 rfl).front 4 rfl) (fun p=>n6 F (a0:=(⟨a0.R,a0.Rows,a0.Doc,a0.az,([]:List ar)++((a0.S.take (af (aE+1)).toNat).drop (0:Int).toNat),a0.av,a0.Read⟩:aS)) p (a4.mono (aX.ag.trans aY)) (a6.mono (aX.ag.trans aY)) (a7.mono (aX.ag.trans aY)) (a9.mono (aX.ag.trans aY)) bm dd) ?_
 rintro _ fB fC _ fD de ⟨dh,di,dj,dm,dn,dp,rfl,rfl,dq,dr,ds,dt,dx⟩
 refine bB 2 0 (.bool bc.1) [.bool bc.1] [Pt J 0,v11,V bc.2.Doc, .bool bc.1,aw,V bc.2.av,V bc.2.Read] de rfl rfl rfl ?_
 intro fE dy
 refine xn 0<|rt<|⟨rfl,?_⟩
 obtain rfl:=si hm
 refine ⟨_,_,_,ResL.nil,dy,?_⟩
 exact ⟨dh,di,dj,dm,dn,aw,dp,rfl,rfl,dq,dr,ds,dt,dx⟩
 refine xn 0<|dF<|sk<|ea BR bJ ?_
 intro bN fG bO ba
 refine yq 3 [(89,Pt I 4),(0,Pt I 0),(2,V au),(8,V aE)] ?_
 have fH:I<bN:=bO.1 _ (List.mem_of_getElem? (i:=1) rfl) _ (by simp [Itm.ids])
 refine aU (v:=aw) rfl trivial rfl (by show I<_;omega) (aB (v:=aw) (ba.dk (i:=0) rfl)) (ba.aP (i:=1) rfl (by kernel_rfl)) trivial<|yq 5 [(95,Pt I 4),(92,Pt I 0),(91,V aE),(90,aw),(2,V au),(8,V aE)] ?_
 have fI:I<bN:=bO.1 _ (List.mem_of_getElem? (i:=1) rfl) _ (by simp [Itm.ids])
 refine aU (v:=aw) rfl trivial rfl (by show I<_;omega) (aB (v:=aw) (ba.dk (i:=0) rfl)) (ba.aP (i:=1) rfl (by kernel_rfl)) trivial<|yq 1 [(97,V aE),(96,aw),(92,Pt I 0),(91,V aE),(90,aw),(2,V au)] ?_
 obtain ⟨ct,hm⟩:=aK hm
 refine aF rfl trivial (bG rfl rfl (by kernel_rfl:slTy _ _=some (aa ar)) (ba.bL (j:=0) rfl bm (by omega)) ct.1 ct.2)<|yq 1 [(99, .pointer (some (bh aw aE (aa ar) 3))),(92,Pt I 0),(91,V aE),(90,aw),(2,V au)] ?_
 obtain ⟨bQ,cu,hm⟩:=ai hm
 obtain ⟨fJ,dz,dA,fK⟩:=ba.cz (j:=0) rfl bm (i:=aE) cu
 obtain rfl:=dW dz
 have dB:=dw cu
 have dC:=ba.bL (j:=0) rfl bm dB
 have fL:(baseOf aw).block<bN:=dG (bO.1 _ (List.mem_of_getElem? (i:=0) rfl)) dC
 refine du rfl trivial rfl (by show (baseOf aw).block<_;omega) (aB (v:=V bQ.bP) trivial) (bK (w:=V bQ.bP) dA rfl (by kernel_rfl)) trivial<|yq 1 [(101,V au),(100,V bQ.bP),(92,Pt I 0),(91,V aE),(90,aw)] ?_
 obtain ⟨aZ,dD,hm⟩:=ai hm
 have cx:St _ _ _ _ _ _ ([.ae I [Pt J 0,v11,V a0.Doc, .bool a0.az,aw,V a0.av,V a0.Read], .ae J (ax v4 v6 ao a0.R), .gs ao aI (aa aj), .gs v11 aD (aa an), .gs aw dc (aa ar)]++[]):=(((((ba.front 0 rfl).front 4 rfl).front 4 rfl).front 4 rfl).front 4 rfl)
 obtain ⟨fM,fN,fO,fP,dE,bR,cB,cC,bS,cE,cF,dH,rfl,rfl,dI,dJ,dK,dL,bT⟩:=n6 F (a0:=(⟨a0.R,a0.Rows,a0.Doc,a0.az,([]:List ar)++((a0.S.take (af (aE+1)).toNat).drop (0:Int).toNat),a0.av,a0.Read⟩:aS)) cx.cD.ez (a4.mono (aX.ag.trans aY)) (a6.mono (aX.ag.trans aY)) (a7.mono (aX.ag.trans aY)) (a9.mono (aX.ag.trans aY)) bm dD
 have cG:=bR.ag
 refine fF rfl trivial cx (cV dE rfl rfl rfl) bR cG (.drop (by decide) (.drop (by decide) (.pV (bR.aP (i:=0) rfl (by kernel_rfl)) .nil))) ?_
 intro fQ bU
 obtain ⟨cH,hm⟩:=aK hm
 refine aF rfl trivial (bG rfl rfl (by kernel_rfl:slTy _ _=some (aa ar)) (bU.bL (j:=4) rfl bT (by omega)) cH.1 cH.2)<|yq 1 [(104, .pointer (some (bh aw aE (aa ar) 4))),(102, .bool aZ.1)] ?_
 obtain ⟨bb,cI,hm⟩:=ai hm
 obtain ⟨fR,dM,fS,dN⟩:=bU.cz (j:=4) rfl bT (i:=aE) cI
 obtain rfl:=dW dM
 have bV:St _ _ _ _ _ _ ([.gs aw dH (aa ar)]++[.ae I [Pt J 0,v11,V aZ.2.Doc, .bool aZ.2.az,aw,V aZ.2.av,V aZ.2.Read], .ae J (ax cB cC bS aZ.2.R), .gs bS cE (aa aj), .gs v11 cF (aa an)]):=(bU.front 4 rfl)
 refine nF rfl trivial bV (iq (u':=(⟨bb.Node,bb.Kind,bb.aC,bb.bP,aZ.1⟩:ar)) (vs:=[.bool aZ.1]) (a2:=[V bb.Node,V bb.Kind,V bb.aC,V bb.bP, .bool aZ.1]) bV.sub (m:=0) rfl bT cI dN rfl rfl rfl (by kernel_rfl) rfl rfl rfl rfl) cG (.drop (by decide) (.drop (by decide) (.aT (bV.bz 0 rfl bH) .nil))) ?_
 rintro fT dO ⟨dP,dQ⟩
 refine yf [] ?_
 have dR:=dQ.a5
 obtain rfl:=si hm
 refine ⟨_,_,_,ResL.nil,(((((dR.front 0 rfl).front 4 rfl).front 4 rfl).front 4 rfl).front 4 rfl),?_⟩
 exact ⟨cB,cC,bS,cE,cF,aw,dO,rfl,rfl,dI,dJ,dK,dL,dP⟩
 refine s0<|aO 1 ad ?_ ?_<;>intro fU ad
 refine aA 4 0 (.bool a0.az) ab rfl<|kb 2 40 ad ?_ ?_<;>intro fW ad
 refine xn 13<|dT<|cT q5 ab ?_
 intro dS fX dU bW
 refine yq 3 [(56,Pt I 0),(0,Pt I 0),(2,V au),(3,V ay)] ?_
 have fY:I<dS:=dU.1 _ (List.mem_of_getElem? (i:=0) rfl) _ (by simp [Itm.ids])
 refine aU (v:=Pt J 0) rfl trivial rfl (by show I<_;omega) (aB (v:=Pt J 0) trivial) (bW.aP (i:=0) rfl (by kernel_rfl)) trivial<|yq 1 [(58,Pt I 0),(57,Pt J 0),(2,V au),(3,V ay)] ?_
 obtain ⟨dX,dY,ad⟩:=ai ad
 have cJ:=bW.cD
 obtain ⟨fZ,bd,eb,bn⟩:=St.ko (L:=[.ae I [Pt J 0,v11,V a0.Doc, .bool a0.az,U,V a0.av,V a0.Read], .ae J (ax v4 v6 ao a0.R), .gs ao aI (aa aj), .gs v11 aD (aa an), .gs U aG (aa ar)]) cJ
 obtain ⟨ga,gf,ec,bt,rfl⟩:=my F eb (RS.mono bd (a4.mono ab.ag)) (RS.mono bd (a6.mono ab.ag)) (bf.row (bn _ (List.mem_of_getElem? (i:=2) rfl)) bd (a7.mono ab.ag)) (bn _ (List.mem_of_getElem? (i:=1) rfl)) (bf.row (bn _ (List.mem_of_getElem? (i:=3) rfl)) bd (a9.mono ab.ag)) (bf.row (bn _ (List.mem_of_getElem? (i:=4) rfl)) bd (aM.mono ab.ag)) (bn _ (List.mem_of_getElem? (i:=0) rfl)) dY
 replace bt:=St.ku bd bt
 have ed:=St.call (A:=[]) (B:=[.ae I [Pt J 0,v11,V a0.Doc, .bool a0.az,U,V a0.av,V a0.Read], .ae J (ax v4 v6 ao a0.R), .gs ao aI (aa aj), .gs v11 aD (aa an), .gs U aG (aa ar)]) cJ bt
 refine eM rfl trivial bW (cV ec rfl rfl rfl) ed (St.eC bt) ?_
 intro gg ee
 refine yq 2 [(61,V ay),(60,V au),(59,V dX),(57,Pt J 0)] ?_
 obtain ⟨gh,eg,ad⟩:=ai ad
 have bY:St _ _ _ _ _ _ ([.ae J (ax v4 v6 ao a0.R), .gs ao aI (aa aj)]++[.ae I [Pt J 0,v11,V a0.Doc, .bool a0.az,U,V a0.av,V a0.Read], .gs v11 aD (aa an), .gs U aG (aa ar)]):=((ee.front 2 rfl).front 2 rfl)
 obtain ⟨gi,gj,gk,gl,ei,cK,ej,ek,en,eo,rfl,rfl,ep,er,et⟩:=fk F bY.cD.ez (a4.mono ab.ag) (a6.mono ab.ag) (a7.mono ab.ag) eg
 have bZ:=cK.ag
 refine fF rfl trivial bY (cV ei rfl rfl rfl) cK bZ (.aT (bY.bz 0 rfl bH) .nil) ?_
 intro gm eu
 refine yf [] ?_
 have ew:=eu.a5
 refine rt<|⟨rfl,?_⟩
 obtain rfl:=si ad
 obtain rfl:=si hm
 refine ⟨_,_,_,ResL.nil,(((((ew.front 4 rfl).front 4 rfl).front 3 rfl).front 3 rfl).front 4 rfl),?_⟩
 exact ⟨ej,ek,en,eo,aD,U,aG,rfl,rfl,ep,er,et,(a9.mono (ab.ag.trans bZ)),(aM.mono (ab.ag.trans bZ))⟩
 refine cv 1 ad ?_ ?_<;>intro gn ad
 refine aA 4 0 U ab rfl<|fj 1 4 ad ab (aM.mono ab.ag) rfl ?_
 intro gq ad
 refine gB 1 4 4 (fun cL=> .bool cL.Has) ad ab (aM.mono ab.ag) rfl ?_
 intro cL gr ad
 refine xn 2<|db ad ?_ ?_<;>intro gu ad
 refine cT q5 ab ?_
 intro ey gv eA b0
 refine yq 3 [(56,Pt I 0),(0,Pt I 0),(2,V au),(3,V ay)] ?_
 have gw:I<ey:=eA.1 _ (List.mem_of_getElem? (i:=0) rfl) _ (by simp [Itm.ids])
 refine aU (v:=Pt J 0) rfl trivial rfl (by show I<_;omega) (aB (v:=Pt J 0) trivial) (b0.aP (i:=0) rfl (by kernel_rfl)) trivial<|yq 1 [(58,Pt I 0),(57,Pt J 0),(2,V au),(3,V ay)] ?_
 obtain ⟨eB,eD,ad⟩:=ai ad
 have cM:=b0.cD
 obtain ⟨gx,bg,eE,bo⟩:=St.ko (L:=[.ae I [Pt J 0,v11,V a0.Doc, .bool a0.az,U,V a0.av,V a0.Read], .ae J (ax v4 v6 ao a0.R), .gs ao aI (aa aj), .gs v11 aD (aa an), .gs U aG (aa ar)]) cM
 obtain ⟨gy,gz,eF,bu,rfl⟩:=my F eE (RS.mono bg (a4.mono ab.ag)) (RS.mono bg (a6.mono ab.ag)) (bf.row (bo _ (List.mem_of_getElem? (i:=2) rfl)) bg (a7.mono ab.ag)) (bo _ (List.mem_of_getElem? (i:=1) rfl)) (bf.row (bo _ (List.mem_of_getElem? (i:=3) rfl)) bg (a9.mono ab.ag)) (bf.row (bo _ (List.mem_of_getElem? (i:=4) rfl)) bg (aM.mono ab.ag)) (bo _ (List.mem_of_getElem? (i:=0) rfl)) eD
 replace bu:=St.ku bg bu
 have eG:=St.call (A:=[]) (B:=[.ae I [Pt J 0,v11,V a0.Doc, .bool a0.az,U,V a0.av,V a0.Read], .ae J (ax v4 v6 ao a0.R), .gs ao aI (aa aj), .gs v11 aD (aa an), .gs U aG (aa ar)]) cM bu
 refine eM rfl trivial b0 (cV eF rfl rfl rfl) eG (St.eC bu) ?_
 intro gA eH
 refine yq 2 [(61,V ay),(60,V au),(59,V eB),(57,Pt J 0)] ?_
 obtain ⟨gC,eI,ad⟩:=ai ad
 have b1:St _ _ _ _ _ _ ([.ae J (ax v4 v6 ao a0.R), .gs ao aI (aa aj)]++[.ae I [Pt J 0,v11,V a0.Doc, .bool a0.az,U,V a0.av,V a0.Read], .gs v11 aD (aa an), .gs U aG (aa ar)]):=((eH.front 2 rfl).front 2 rfl)
 obtain ⟨gD,gE,gF,gG,eJ,cN,eK,eL,eN,eO,rfl,rfl,eP,eQ,eR⟩:=fk F b1.cD.ez (a4.mono ab.ag) (a6.mono ab.ag) (a7.mono ab.ag) eI
 have b2:=cN.ag
 refine fF rfl trivial b1 (cV eJ rfl rfl rfl) cN b2 (.aT (b1.bz 0 rfl bH) .nil) ?_
 intro gH eS
 refine yf [] ?_
 have eT:=eS.a5
 refine rt<|⟨rfl,?_⟩
 obtain rfl:=si ad
 obtain rfl:=si hm
 refine ⟨_,_,_,ResL.nil,(((((eT.front 4 rfl).front 4 rfl).front 3 rfl).front 3 rfl).front 4 rfl),?_⟩
 exact ⟨eK,eL,eN,eO,aD,U,aG,rfl,rfl,eP,eQ,eR,(a9.mono (ab.ag.trans b2)),(aM.mono (ab.ag.trans b2))⟩
 refine sk ?_
 obtain rfl:=si ad
 exact ⟨_,rfl,(by kernel_rfl),ab⟩
 refine xn 11<|dF<|sk ?_
 obtain rfl:=si ad
 exact ⟨_,rfl,(by kernel_rfl),ab⟩
 refine cv 8 ad ?_ ?_<;>intro gI ad
 refine aA 4 0 U ab rfl<|fj 1 4 ad ab (aM.mono ab.ag) rfl ?_
 intro gJ ad
 refine gB 1 4 4 (fun cP=> .bool cP.Has) ad ab (aM.mono ab.ag) rfl ?_
 intro cP gK ad
 refine xn 2<|db ad ?_ ?_<;>intro gL ad
 refine cT q5 ab ?_
 intro eU gM eV b3
 refine yq 3 [(56,Pt I 0),(0,Pt I 0),(2,V au),(3,V ay)] ?_
 have gN:I<eU:=eV.1 _ (List.mem_of_getElem? (i:=0) rfl) _ (by simp [Itm.ids])
 refine aU (v:=Pt J 0) rfl trivial rfl (by show I<_;omega) (aB (v:=Pt J 0) trivial) (b3.aP (i:=0) rfl (by kernel_rfl)) trivial<|yq 1 [(58,Pt I 0),(57,Pt J 0),(2,V au),(3,V ay)] ?_
 obtain ⟨eW,eX,ad⟩:=ai ad
 have cR:=b3.cD
 obtain ⟨gO,bj,eY,bp⟩:=St.ko (L:=[.ae I [Pt J 0,v11,V a0.Doc, .bool a0.az,U,V a0.av,V a0.Read], .ae J (ax v4 v6 ao a0.R), .gs ao aI (aa aj), .gs v11 aD (aa an), .gs U aG (aa ar)]) cR
 obtain ⟨gP,gQ,eZ,bw,rfl⟩:=my F eY (RS.mono bj (a4.mono ab.ag)) (RS.mono bj (a6.mono ab.ag)) (bf.row (bp _ (List.mem_of_getElem? (i:=2) rfl)) bj (a7.mono ab.ag)) (bp _ (List.mem_of_getElem? (i:=1) rfl)) (bf.row (bp _ (List.mem_of_getElem? (i:=3) rfl)) bj (a9.mono ab.ag)) (bf.row (bp _ (List.mem_of_getElem? (i:=4) rfl)) bj (aM.mono ab.ag)) (bp _ (List.mem_of_getElem? (i:=0) rfl)) eX
 replace bw:=St.ku bj bw
 have e0:=St.call (A:=[]) (B:=[.ae I [Pt J 0,v11,V a0.Doc, .bool a0.az,U,V a0.av,V a0.Read], .ae J (ax v4 v6 ao a0.R), .gs ao aI (aa aj), .gs v11 aD (aa an), .gs U aG (aa ar)]) cR bw
 refine eM rfl trivial b3 (cV eZ rfl rfl rfl) e0 (St.eC bw) ?_
 intro gR e2
 refine yq 2 [(61,V ay),(60,V au),(59,V eW),(57,Pt J 0)] ?_
 obtain ⟨gS,e3,ad⟩:=ai ad
 have b5:St _ _ _ _ _ _ ([.ae J (ax v4 v6 ao a0.R), .gs ao aI (aa aj)]++[.ae I [Pt J 0,v11,V a0.Doc, .bool a0.az,U,V a0.av,V a0.Read], .gs v11 aD (aa an), .gs U aG (aa ar)]):=((e2.front 2 rfl).front 2 rfl)
 obtain ⟨gT,gU,gV,gW,e4,cS,e5,e6,e7,e8,rfl,rfl,e9,fa,fb⟩:=fk F b5.cD.ez (a4.mono ab.ag) (a6.mono ab.ag) (a7.mono ab.ag) e3
 have b6:=cS.ag
 refine fF rfl trivial b5 (cV e4 rfl rfl rfl) cS b6 (.aT (b5.bz 0 rfl bH) .nil) ?_
 intro gX fc
 refine yf [] ?_
 have fe:=fc.a5
 refine rt<|⟨rfl,?_⟩
 obtain rfl:=si ad
 obtain rfl:=si hm
 refine ⟨_,_,_,ResL.nil,(((((fe.front 4 rfl).front 4 rfl).front 3 rfl).front 3 rfl).front 4 rfl),?_⟩
 exact ⟨e5,e6,e7,e8,aD,U,aG,rfl,rfl,e9,fa,fb,(a9.mono (ab.ag.trans b6)),(aM.mono (ab.ag.trans b6))⟩
 refine sk ?_
 obtain rfl:=si ad
 exact ⟨_,rfl,(by kernel_rfl),ab⟩
 refine xn 11<|dF<|sk ?_
 obtain rfl:=si ad
 exact ⟨_,rfl,(by kernel_rfl),ab⟩
 refine bk 0<|lp [0,2,3,5,8] (fun n l h=>∃ cU bl aJ aW,correctorref12_parser_bare_l0 F a0 a1 au ay n bl aJ=some bD∧l=[(0,Pt I 0),(2,V au),(3,V ay),(5,Pt aW 0),(8,V aJ)]∧St hs (aR [.ae I [Pt J 0,v11,V a0.Doc, .bool a0.az,U,V a0.av,V a0.Read], .ae J (ax v4 v6 ao a0.R), .gs ao aI (aa aj), .gs v11 aD (aa an), .gs U aG (aa ar)]) Z (0,0) cU h [.ae I [Pt J 0,v11,V a0.Doc, .bool a0.az,U,V a0.av,V a0.Read], .ae J (ax v4 v6 ao a0.R), .gs ao aI (aa aj), .gs v11 aD (aa an), .gs U aG (aa ar), .ae aW (cy bl)]) F ⟨_,a1,af ((a0.S.length:Int) - 1),c0,aL,(by kernel_rfl),((((((bC.front 0 rfl).front 5 rfl).front 5 rfl).front 5 rfl).front 5 rfl).front 5 rfl)⟩ ?_
 rintro b7 l gY ⟨cU,bl,aJ,aW,aL,rfl,bx⟩
 rcases b7 with _ | b7
 cases (show none=some bD from aL)
 rw [correctorref12_parser_bare_l0] at aL
 refine sq<|cT z3 bx ?_
 intro b8 gZ b9 a3
 refine yq 1 [(15,V aJ),(0,Pt I 0),(2,V au),(3,V ay),(5,Pt aW 0),(8,V aJ)] ?_
 rcases ifs aL with ⟨ca,aL⟩ | ⟨ca,aL⟩
 refine aF rfl trivial (br rfl rfl (jC ca))<|yq 4 [(20,Pt I 4),(17, .bool true),(0,Pt I 0),(2,V au),(3,V ay),(5,Pt aW 0),(8,V aJ)] ?_
 have g0:I<b8:=b9.1 _ (List.mem_of_getElem? (i:=0) rfl) _ (by simp [Itm.ids])
 refine aU (v:=U) rfl rfl rfl (by show I<_;omega) (aB (v:=U) (a3.dk (i:=4) rfl)) (a3.aP (i:=0) rfl (by kernel_rfl)) trivial<|yq 1 [(22,V aJ),(21,U),(17, .bool true),(0,Pt I 0),(2,V au),(3,V ay),(5,Pt aW 0),(8,V aJ)] ?_
 obtain ⟨cW,aL⟩:=aK aL
 refine aF rfl rfl (bG rfl rfl (by kernel_rfl:slTy _ _=some (aa ar)) (a3.bL (j:=4) rfl (aM.mono bx.ag) (by omega)) cW.1 cW.2)<|yq 1 [(24, .pointer (some (bh U aJ (aa ar) 2))),(17, .bool true),(0,Pt I 0),(2,V au),(3,V ay),(5,Pt aW 0),(8,V aJ)] ?_
 obtain ⟨cb,cZ,aL⟩:=ai aL
 obtain ⟨g1,ff,fg,g2⟩:=a3.cz (j:=4) rfl (aM.mono bx.ag) (i:=aJ) cZ
 obtain rfl:=dW ff
 have fh:=dw cZ
 have fi:=a3.bL (j:=4) rfl (aM.mono bx.ag) fh
 have g3:(baseOf U).block<b8:=dG (b9.1 _ (List.mem_of_getElem? (i:=4) rfl)) fi
 refine du rfl rfl rfl (by show (baseOf U).block<_;omega) (aB (v:=V cb.aC) trivial) (bK (w:=V cb.aC) fg rfl (by kernel_rfl)) trivial<|yq 1 [(26,Pt aW 3),(25,V cb.aC),(17, .bool true),(0,Pt I 0),(2,V au),(3,V ay),(5,Pt aW 0),(8,V aJ)] ?_
 have g4:aW<b8:=b9.1 _ (List.mem_of_getElem? (i:=5) rfl) _ (by simp [Itm.ids])
 refine aU (v:=V bl.aC) rfl rfl rfl (by show aW<_;omega) (aB (v:=V bl.aC) trivial) (a3.aP (i:=5) rfl (by kernel_rfl)) trivial ?_
 rcases ifs aL with ⟨cd,aL⟩ | ⟨cd,aL⟩
 refine aF rfl rfl (br rfl rfl (jC cd))<|ye 1 [(29, .bool true),(0,Pt I 0),(2,V au),(3,V ay),(5,Pt aW 0),(8,V aJ)] ?_
 have fl:=a3.a5
 refine dT<|sk<|bk 1<|gp 3 ?_
 exact ⟨b7,Nat.lt_succ_self _,⟨_,bl,af (aJ - 1),aW,aL,(by kernel_rfl),fl⟩⟩
 refine aF rfl rfl (br rfl rfl (jf cd))<|ye 1 [(29, .bool false),(0,Pt I 0),(2,V au),(3,V ay),(5,Pt aW 0),(8,V aJ)] ?_
 have fm:=a3.a5
 refine dF<|xt 0<|aN ?_
 obtain rfl:=si aL
 exact ⟨_,aJ,rfl,(by kernel_rfl),(fm.takeN 5)⟩
 refine aF rfl trivial (br rfl rfl (jf ca))<|ye 13 [(29, .bool false),(0,Pt I 0),(2,V au),(3,V ay),(5,Pt aW 0),(8,V aJ)] ?_
 have fo:=a3.a5
 refine dF<|xt 0<|aN ?_
 obtain rfl:=si aL
 exact ⟨_,aJ,rfl,(by kernel_rfl),(fo.takeN 5)⟩
def Bg:List bq:=[uP 18 (mv 6),uP 19 (bc .geq 3 18 0 3),uP 20 (mv 19),aI 20 21 (mv 0),aI 20 22 (nk 21),aI 20 23 (fa 61 22 4),cJ 20 24 (ld 59 23),aI 20 25 (mv 6),aI 20 26 (ia 59 24 25),aI 20 27 (fa 114 26 2),cJ 20 28 (ld 3 27),aI 20 29 (fa 112 3 1),cJ 20 30 (ld 3 29),aI 20 31 (bo .gtr 3 28 30 3),uP 32 (pf 20 31)]
def Ag:List bq:=[uP 36 (mv 6),uP 37 (bc .geq 3 36 0 3),uP 38 (mv 37),aI 38 39 (mv 0),aI 38 40 (nk 39),aI 38 41 (fa 61 40 4),cJ 38 42 (ld 59 41),aI 38 43 (mv 6),aI 38 44 (ia 59 42 43),aI 38 45 (fa 114 44 2),cJ 38 46 (ld 3 45),aI 38 47 (fa 112 3 1),cJ 38 48 (ld 3 47),aI 38 49 (bo .eql 3 46 48 3),uP 50 (pf 38 49),uP 51 (mv 50),aI 51 52 (mv 0),aI 51 53 (nk 52),aI 51 54 (fa 61 53 4),cJ 51 55 (ld 59 54),aI 51 56 (mv 6),aI 51 57 (ia 59 55 56),aI 51 58 (fa 114 57 1),cJ 51 59 (ld 3 58),aI 51 60 (mv 5),aI 51 61 (bo .eql 3 59 60 3),uP 62 (pf 51 61),uP 35 (sg 62)]
def AT:List bq:=[uP 64 (mv 6),uP 65 (bc .geq 3 64 0 3),uP 66 (mv 65),aI 66 67 (mv 0),aI 66 68 (nk 67),aI 66 69 (fa 61 68 4),cJ 66 70 (ld 59 69),aI 66 71 (mv 6),aI 66 72 (ia 59 70 71),aI 66 73 (fa 114 72 2),cJ 66 74 (ld 3 73),aI 66 75 (fa 112 3 1),cJ 66 76 (ld 3 75),aI 66 77 (bo .eql 3 74 76 3),uP 78 (pf 66 77),uP 79 (mv 78),aI 79 80 (mv 5),aI 79 81 (bc .eql 3 80 3 3),uP 82 (pf 79 81),uP 63 (sg 82)]
def AJ:List bq:=[uP 92 (mv 6),uP 93 (bc .gtr 3 92 0 3),uP 94 (mv 93),aI 94 95 (mv 0),aI 94 96 (nk 95),aI 94 97 (fa 61 96 4),cJ 94 98 (ld 59 97),aI 94 99 (mv 6),aI 94 100 (ia 59 98 99),aI 94 101 (fa 114 100 2),cJ 94 102 (ld 3 101),aI 94 103 (fa 112 3 1),cJ 94 104 (ld 3 103),aI 94 105 (bo .eql 3 102 104 3),uP 106 (pf 94 105),uP 107 (mv 106),aI 107 108 (mv 0),aI 107 109 (nk 108),aI 107 110 (fa 61 109 4),cJ 107 111 (ld 59 110),aI 107 112 (mv 6),aI 107 113 (bc .sub 3 112 1 3),aI 107 114 (ia 59 111 113),aI 107 115 (fa 114 114 2),cJ 107 116 (ld 3 115),aI 107 117 (fa 112 3 1),cJ 107 118 (ld 3 117),aI 107 119 (bo .eql 3 116 118 3),uP 120 (pf 107 119),uP 121 (mv 120),aI 121 122 (mv 0),aI 121 123 (nk 122),aI 121 124 (fa 61 123 4),cJ 121 125 (ld 59 124),aI 121 126 (mv 6),aI 121 127 (bc .sub 3 126 1 3),aI 121 128 (ia 59 125 127),aI 121 129 (fa 114 128 1),cJ 121 130 (ld 3 129),aI 121 131 (bc .eql 3 130 5 3),uP 132 (pf 121 131),uP 91 (sg 132)]
def DK:List bq:=[uP 136 (mv 6),uP 137 (bc .geq 3 136 0 3),uP 138 (mv 137),aI 138 139 (mv 0),aI 138 140 (nk 139),aI 138 141 (fa 61 140 4),cJ 138 142 (ld 59 141),aI 138 143 (mv 6),aI 138 144 (ia 59 142 143),aI 138 145 (fa 114 144 2),cJ 138 146 (ld 3 145),aI 138 147 (fa 112 3 1),cJ 138 148 (ld 3 147),aI 138 149 (bo .eql 3 146 148 3),uP 150 (pf 138 149),uP 135 (sg 150)]
def B1:List aV:=[u 183 (mv 0),u 184 (.buildSlice 59 0 #[]),u 185 (mv 0),u 186 (nk 185),u 187 (fa 61 186 4),u 188 (ld 59 187),u 189 (mv 6),u 190 (bc .add 3 189 1 3),u 191 (.slice 59 (t 188) none (some (t 190)) none),u 192 (cb .append #[(t 184),(t 191)] #[59,59]),u 193 (nk 183),u 194 (fa 61 193 4),o (.store 59 (t 194) (t 192))]
def CI:List aV:=[u 210 (mv 0),u 211 (nk 210),u 212 (fa 61 211 4),u 213 (ld 59 212),u 214 (mv 6),u 215 (ia 59 213 214),u 216 (fa 114 215 4),o (.store 4 (t 216) (.const (.bool true)))]
def yQ:List bq:=[uP 220 (mv 0),uP 221 (mv 0),uP 222 (nk 221),uP 223 (fa 61 222 4),uL 224 (ld 59 223),uP 225 (mv 0),uP 226 (nk 225),uP 227 (fa 61 226 0),uL 228 (ld 55 227),uP 229 (mv 8),uP 230 (mv 5),uP 231 (fa 112 3 2),uL 232 (ld 3 231),uP 233 (fa 112 3 3),uL 234 (ld 3 233),uF 235 (cf 67 #[(t 228),(t 229),(t 230),(t 232),(t 234)] #[55,3,3,3,3]) .make [8,12,14],uP 236 (mv 5),uP 237 (fa 112 3 1),uL 238 (ld 3 237),uP 239 (.build 114 #[(0,(t 235)),(1,(t 236)),(2,(t 238))]),uF 240 (.buildSlice 59 1 #[(0,(t 239))]) .fresh [],uF 241 (cb .append #[(t 224),(t 240)] #[59,59]) .make [4,8,12,14,18],uP 242 (nk 220),uP 243 (fa 61 242 4),oF (.store 59 (t 243) (t 241)) .make [4,8,12,14,18]]
def BL:List bq:=[uP 244 (mv 0),uP 245 (nk 244),uP 246 (fa 61 245 4),uL 247 (ld 59 246),uP 248 (mv 0),uP 249 (nk 248),uP 250 (fa 61 249 4),uL 251 (ld 59 250),uP 252 (cb .len #[(t 251)] #[59]),uP 253 (bc .sub 3 252 1 3),uP 254 (ia 59 247 253),uP 9 (sg 254)]
def zp:List aV:=[u 255 (mv 9),u 256 (nk 255),u 257 (fa 114 256 4),o (.store 4 (t 257) (.const (.bool false)))]
def wy:List bq:=[uP 260 (mv 9),uP 261 (mv 0),uP 262 (nk 261),uP 263 (fa 61 262 0),uL 264 (ld 55 263),uP 265 (mv 9),uP 266 (nk 265),uP 267 (fa 114 266 0),uL 268 (ld 3 267),uP 269 (fa 112 3 2),uL 270 (ld 3 269),uP 271 (fa 112 3 3),uL 272 (ld 3 271),uF 273 (cf 67 #[(t 264),(t 268),(ci 4),(t 270),(t 272)] #[55,3,3,3,3]) .make [4,8,10,12],uP 274 (nk 260),uP 275 (fa 114 274 3),oF (.store 3 (t 275) (t 273)) .make [4,8,10,12]]
def AE:List bq:=[uP 276 (mv 9),uP 277 (mv 0),uP 278 (nk 277),uP 279 (fa 61 278 0),uL 280 (ld 55 279),uP 281 (mv 9),uP 282 (nk 281),uP 283 (fa 114 282 0),uL 284 (ld 3 283),uP 285 (fa 112 3 2),uL 286 (ld 3 285),uP 287 (fa 112 3 3),uL 288 (ld 3 287),uF 289 (cf 86 #[(t 280),(t 284),(t 286),(t 288)] #[55,3,3,3]) .make [4,8,10,12],uP 290 (nk 276),uP 291 (fa 114 290 3),oF (.store 3 (t 291) (t 289)) .make [4,8,10,12]]
def correctorref12_parser_place_l0 (F:Nat) (a0:aS) (a1:aZ):Nat→aZ→Int→Int→Option (aZ×Int×Int)
 | 0,_,_,_=>none
 | n+1,I,J,j=>
  if (0:Int)≤j then
   if 0≤j∧j<(a0.S.length:Int) then
    (a0.S[j.toNat]?).bind fun U=>
    if I.aC<U.aC then
     correctorref12_parser_place_l0 F a0 a1 n I J (af (j - 1))
    else
     some (I,J,j)
   else none
  else
   some (I,J,j)
def correctorref12_parser_place (F:Nat) (a0:aS) (a1:aZ):Option (Int×aS):=
 ((if a1.ig=true then
   some (a1,3)
  else
   some (a1,5)):Option (aZ×Int)).bind fun o=>match o with
  | (aM,aN)=>((correctorref12_parser_place_l0 F a0 a1 F aM aN (af ((a0.S.length:Int) - 1))):Option (aZ×Int×Int)).bind fun o=>match o with
   | (ad,ae,j)=>((((if (0:Int)≤j then
      if 0≤j∧j<(a0.S.length:Int) then
       (a0.S[j.toNat]?).bind fun aO=>
       if aO.aC=ad.aC then
        if 0≤j∧j<(a0.S.length:Int) then
         (a0.S[j.toNat]?).bind fun aP=>
         if aP.Kind=ae then
          some (ad,true)
         else
          some (ad,false)
        else none
       else
        some (ad,false)
      else none
     else
      some (ad,false)):Option (aZ×Bool)).bind fun o=>match o with
     | (ab,aR)=>if aR=true then
      some (.inl (ab,j,false))
     else
      ((if (0:Int)≤j then
        if 0≤j∧j<(a0.S.length:Int) then
         (a0.S[j.toNat]?).bind fun aT=>
         if aT.aC=ab.aC then
          if ae=(3:Int) then
           some (ab,true)
          else
           some (ab,false)
         else
          some (ab,false)
        else none
       else
        some (ab,false)):Option (aZ×Bool)).bind fun o=>match o with
       | (aa,aU)=>if aU=true then
        if 0≤j∧j<(a0.S.length:Int) then
         (a0.S[j.toNat]?).bind fun aW=>
         if aW.Has=true then
          some (.inr (5,a0))
         else
          some (.inl (aa,j,true))
        else none
       else
        ((if (0:Int)<j then
          if 0≤j∧j<(a0.S.length:Int) then
           (a0.S[j.toNat]?).bind fun aX=>
           if aX.aC=aa.aC then
            if 0≤(af (j - 1))∧(af (j - 1))<(a0.S.length:Int) then
             (a0.S[(af (j - 1)).toNat]?).bind fun aY=>
             if aY.aC=aa.aC then
              if 0≤(af (j - 1))∧(af (j - 1))<(a0.S.length:Int) then
               (a0.S[(af (j - 1)).toNat]?).bind fun a2=>
               if a2.Kind=(5:Int) then
                some (aa,true)
               else
                some (aa,false)
              else none
             else
              some (aa,false)
            else none
           else
            some (aa,false)
          else none
         else
          some (aa,false)):Option (aZ×Bool)).bind fun o=>match o with
         | (ag,a3)=>if a3=true then
          some (.inl (ag,af (j - 1),false))
         else
          ((if (0:Int)≤j then
            if 0≤j∧j<(a0.S.length:Int) then
             (a0.S[j.toNat]?).bind fun a4=>
             if a4.aC=ag.aC then
              some (ag,true)
             else
              some (ag,false)
            else none
           else
            some (ag,false)):Option (aZ×Bool)).bind fun o=>match o with
           | (al,a5)=>if a5=true then
            some (.inr (5,a0))
           else
            if j<(0:Int) then
             if a0.az=true then
              some (.inr (7,a0))
             else
              if (0:Int)≤j then
               if 0≤j∧j<(a0.S.length:Int) then
                (a0.S[j.toNat]?).bind fun a6=>
                if a6.Has=true then
                 some (.inr (6,a0))
                else
                 some (.inl (al,j,true))
               else none
              else
               some (.inl (al,j,true))
            else
             if (0:Int)≤j then
              if 0≤j∧j<(a0.S.length:Int) then
               (a0.S[j.toNat]?).bind fun a7=>
               if a7.Has=true then
                some (.inr (6,a0))
               else
                some (.inl (al,j,true))
              else none
             else
              some (.inl (al,j,true))):Option (Sum (aZ×Int×Bool) (Int×aS))).bind fun o=>match o with
    | .inl (ay,U,aA)=>((if aA=true then
      if a0.av<(af (U+2)) then
       some (.inr (10,a0))
      else
       some (.inl ay)
     else
      some (.inl ay)):Option (Sum aZ (Int×aS))).bind fun o=>match o with
     | .inl aw=>if 0≤(0:Int)∧(0:Int)≤(af (U+1))∧(af (U+1))≤(a0.S.length:Int) then
      if ([]:List ar).length+((a0.S.take (af (U+1)).toNat).drop (0:Int).toNat).length≤3518437208883 then
       ((if aA=true then
         ((if (0:Int)≤U then
           if 0≤U∧U<((([]:List ar)++((a0.S.take (af (U+1)).toNat).drop (0:Int).toNat)).length:Int) then
            ((([]:List ar)++((a0.S.take (af (U+1)).toNat).drop (0:Int).toNat))[U.toNat]?).bind fun a8=>
            if 0≤U∧U<((([]:List ar)++((a0.S.take (af (U+1)).toNat).drop (0:Int).toNat)).length:Int) then
             ((([]:List ar)++((a0.S.take (af (U+1)).toNat).drop (0:Int).toNat))[U.toNat]?).bind fun ao=>
             some (a0.Rows,a0.Doc,a0.az,(([]:List ar)++((a0.S.take (af (U+1)).toNat).drop (0:Int).toNat)).set U.toNat (⟨ao.Node,ao.Kind,ao.aC,ao.bP,true⟩:ar),a0.av,a0.Read,aw,a8.bP)
            else none
           else none
          else
           some (a0.Rows,a0.Doc,true,([]:List ar)++((a0.S.take (af (U+1)).toNat).drop (0:Int).toNat),a0.av,a0.Read,aw,a0.Doc)):Option ((List an)×Int×Bool×(List ar)×Int×Int×aZ×Int)).bind fun o=>match o with
          | (a9,ba,bb,aB,bc,bd,ai,bf)=>(eg F a0.R bf ae ai.ah ai.To).bind fun ax=>
          if aB.length+[(⟨ax.1,ae,ai.aC,0,false⟩:ar)].length≤3518437208883 then
           some (ax.2,a9,ba,bb,aB++[(⟨ax.1,ae,ai.aC,0,false⟩:ar)],bc,bd,ai)
          else none
        else
         some (a0.R,a0.Rows,a0.Doc,a0.az,([]:List ar)++((a0.S.take (af (U+1)).toNat).drop (0:Int).toNat),a0.av,a0.Read,aw)):Option (aJ×(List an)×Int×Bool×(List ar)×Int×Int×aZ)).bind fun o=>match o with
        | (aD,aE,aF,aG,J,aH,aI,aj)=>if 0≤(af ((J.length:Int) - 1))∧(af ((J.length:Int) - 1))<(J.length:Int) then
         (J[(af ((J.length:Int) - 1)).toNat]?).bind fun I=>
         ((if aj.ig=true then
           ((J.set (af ((J.length:Int) - 1)).toNat (⟨I.Node,I.Kind,I.aC,I.bP,false⟩:ar))[(af ((J.length:Int) - 1)).toNat]?).bind fun bg=>
           (eg F aD bg.Node 4 aj.ah aj.To).bind fun aK=>
           ((J.set (af ((J.length:Int) - 1)).toNat (⟨I.Node,I.Kind,I.aC,I.bP,false⟩:ar))[(af ((J.length:Int) - 1)).toNat]?).bind fun aq=>
           some (aK.2,aE,aF,aG,(J.set (af ((J.length:Int) - 1)).toNat (⟨I.Node,I.Kind,I.aC,I.bP,false⟩:ar)).set (af ((J.length:Int) - 1)).toNat (⟨aq.Node,aq.Kind,aq.aC,aK.1,aq.Has⟩:ar),aH,aI)
          else
           ((J.set (af ((J.length:Int) - 1)).toNat (⟨I.Node,I.Kind,I.aC,I.bP,false⟩:ar))[(af ((J.length:Int) - 1)).toNat]?).bind fun bh=>
           (lW F aD bh.Node aj.ah aj.To).bind fun aL=>
           ((J.set (af ((J.length:Int) - 1)).toNat (⟨I.Node,I.Kind,I.aC,I.bP,false⟩:ar))[(af ((J.length:Int) - 1)).toNat]?).bind fun au=>
           some (aL.2,aE,aF,aG,(J.set (af ((J.length:Int) - 1)).toNat (⟨I.Node,I.Kind,I.aC,I.bP,false⟩:ar)).set (af ((J.length:Int) - 1)).toNat (⟨au.Node,au.Kind,au.aC,aL.1,au.Has⟩:ar),aH,aI)):Option (aJ×(List an)×Int×Bool×(List ar)×Int×Int)).bind fun o=>match o with
          | (bj,bk,bl,bm,bn,bo,bp)=>some (0,(⟨bj,bk,bl,bm,bn,bo,bp⟩:aS))
        else none
      else none
     else none
     | .inr y=>some y
    | .inr y=>some y
theorem yb (F:Nat) {h:AH} {Z:Zn} {a0:aS} {a1:aZ} {I ab v4 v6 ao aE v11 aG J aL} (hP:Pre Z h [.ae I [Pt ab 0,v11,V a0.Doc, .bool a0.az,J,V a0.av,V a0.Read], .ae ab (ax v4 v6 ao a0.R), .gs ao aE (aa aj), .gs v11 aG (aa an), .gs J aL (aa ar)]) (b9:RS (α:=ak) Z v4 a0.R.L) (ca:RS (α:=aq) Z v6 a0.R.T.al) (cb:RCs (α:=aj) Z aE a0.R.D) (bR:RCs (α:=an) Z aG a0.Rows) (aD:RCs (α:=ar) Z aL a0.S) {r:Int×aS} (hm:correctorref12_parser_place F a0 a1=some r):
  bX Try.prog 72 [Pt I 0, .agg #[.bool a1.ig,V a1.aC,V a1.ah,V a1.To]] h Z [.ae I [Pt ab 0,v11,V a0.Doc, .bool a0.az,J,V a0.av,V a0.Read], .ae ab (ax v4 v6 ao a0.R), .gs ao aE (aa aj), .gs v11 aG (aa an), .gs J aL (aa ar)] fun v Z' A'=>∃ fb fc fe ff fg fh,V r.1=v∧A'=[.ae I [Pt ab 0,v11,V r.2.Doc, .bool r.2.az,fg,V r.2.av,V r.2.Read], .ae ab (ax fb fc ao r.2.R), .gs ao fe (aa aj), .gs v11 ff (aa an), .gs fg fh (aa ar)]∧RS (α:=ak) Z' fb r.2.R.L∧RS (α:=aq) Z' fc r.2.R.T.al∧RCs (α:=aj) Z' fe r.2.R.D∧RCs (α:=an) Z' ff r.2.Rows∧RCs (α:=ar) Z' fh r.2.S:=by
 refine cm Try.func72 hP ?_
 intro hs hS
 unfold correctorref12_parser_place at hm
 refine s0<|df 0 [.bool a1.ig,V a1.aC,V a1.ah,V a1.To] hS ?_
 intro fi jh dY
 refine xn 1<|sp 1<|sq ?_
 obtain ⟨gK,dr,hm⟩:=ai hm
 refine aH [0,3,5] (fun l h=>∃ fk ds dt dx,(ds,dt)=gK∧l=[(0,Pt I 0),(3,Pt dx 0),(5,V dt)]∧St hs (aR [.ae I [Pt ab 0,v11,V a0.Doc, .bool a0.az,J,V a0.av,V a0.Read], .ae ab (ax v4 v6 ao a0.R), .gs ao aE (aa aj), .gs v11 aG (aa an), .gs J aL (aa ar)]) Z (0,0) fk h [.ae I [Pt ab 0,v11,V a0.Doc, .bool a0.az,J,V a0.av,V a0.Read], .ae ab (ax v4 v6 ao a0.R), .gs ao aE (aa aj), .gs v11 aG (aa an), .gs J aL (aa ar), .ae dx (et ds)]) ?_ ?_
 rintro l ji ⟨fk,ds,dt,dx,rfl,rfl,dy⟩
 try dsimp only at hm
 refine s0<|aA 3 0 J dy rfl<|bM 0 J (dy.dV (i:=4) rfl (aD.mono dy.ag))<|xn 2<|sq ?_
 obtain ⟨eb,bf,hm⟩:=ai hm
 refine aH [0,3,5,6] (fun l h=>∃ fl bS ad U aY,(bS,ad,U)=eb∧l=[(0,Pt I 0),(3,Pt aY 0),(5,V ad),(6,V U)]∧St hs (aR [.ae I [Pt ab 0,v11,V a0.Doc, .bool a0.az,J,V a0.av,V a0.Read], .ae ab (ax v4 v6 ao a0.R), .gs ao aE (aa aj), .gs v11 aG (aa an), .gs J aL (aa ar)]) Z (0,0) fl h [.ae I [Pt ab 0,v11,V a0.Doc, .bool a0.az,J,V a0.av,V a0.Read], .ae ab (ax v4 v6 ao a0.R), .gs ao aE (aa aj), .gs v11 aG (aa an), .gs J aL (aa ar), .ae aY (et bS)]) ?_ ?_
 rintro l jj ⟨fl,bS,ad,U,aY,rfl,rfl,cl⟩
 try dsimp only at hm
 refine sp 1<|sq ?_
 obtain ⟨gL,au,hm⟩:=ai hm
 refine aH [0,3,5,6,7] (fun l h=>∃ fm cW bn cJ cZ, .inl (cW,bn,cJ)=gL∧l=[(0,Pt I 0),(3,Pt cZ 0),(5,V ad),(6,V bn),(7, .bool cJ)]∧St hs (aR [.ae I [Pt ab 0,v11,V a0.Doc, .bool a0.az,J,V a0.av,V a0.Read], .ae ab (ax v4 v6 ao a0.R), .gs ao aE (aa aj), .gs v11 aG (aa an), .gs J aL (aa ar)]) Z (0,0) fm h [.ae I [Pt ab 0,v11,V a0.Doc, .bool a0.az,J,V a0.av,V a0.Read], .ae ab (ax v4 v6 ao a0.R), .gs ao aE (aa aj), .gs v11 aG (aa an), .gs J aL (aa ar), .ae cZ (et cW)]) ?_ ?_
 rintro l jk ⟨fm,cW,bn,cJ,cZ,rfl,rfl,bT⟩
 try dsimp only at hm
 refine sq ?_
 obtain ⟨gM,cn,hm⟩:=ai hm
 refine aH [0,3,5,6,7] (fun l h=>∃ ec cK bU, .inl cK=gM∧l=[(0,Pt I 0),(3,Pt bU 0),(5,V ad),(6,V bn),(7, .bool cJ)]∧St hs (aR [.ae I [Pt ab 0,v11,V a0.Doc, .bool a0.az,J,V a0.av,V a0.Read], .ae ab (ax v4 v6 ao a0.R), .gs ao aE (aa aj), .gs v11 aG (aa an), .gs J aL (aa ar)]) Z (0,0) ec h [.ae I [Pt ab 0,v11,V a0.Doc, .bool a0.az,J,V a0.av,V a0.Read], .ae ab (ax v4 v6 ao a0.R), .gs ao aE (aa aj), .gs v11 aG (aa an), .gs J aL (aa ar), .ae bU (et cK)]) ?_ ?_
 rintro l jl ⟨ec,cK,bU,rfl,rfl,cd⟩
 try dsimp only at hm
 refine sr B1<|xq 1 [(183,Pt I 0),(0,Pt I 0),(3,Pt bU 0),(5,V ad),(6,V bn),(7, .bool cJ)] ?_
 have gN:RCs (α:=ar) ec [] []:=RCs.bA _
 refine eh rfl trivial (c6 (cells:=[]) (s:=5) (by kernel_rfl)) (by kernel_rfl) cd ?_
 intro gO jm fo
 refine aA 3 1 J fo rfl<|xq 2 [(190,V (af (bn+1))),(188,J),(184,gO),(183,Pt I 0),(0,Pt I 0),(3,Pt bU 0),(5,V ad),(6,V bn),(7, .bool cJ)] ?_
 obtain ⟨jn,cp,gQ,fp⟩:=(fo.front 5 rfl).freeze (aD.mono cd.ag)
 obtain ⟨ed,hm⟩:=aK hm
 refine mS rfl trivial (j2 (a:=0) (b:=af (bn+1)) gQ rfl (by kernel_rfl:slTy _ _=some (aa ar)) rfl ⟨_,rfl⟩ ed.1 ed.2.1 ed.2.2) ?_
 intro jo gR
 obtain ⟨jq,gS⟩:=RS.news gR (fp).inv
 obtain ⟨jr,hm⟩:=aK hm
 refine gd rfl trivial (dZ (ys:=(a0.S.take (af (bn+1)).toNat).drop (0:Int).toNat) (b4:=40) fp (i:=0) rfl (gN.mono cp) gS rfl rfl (by kernel_rfl) (by omega) (by omega)) ?_
 rintro bJ fq js ⟨cq,ee⟩
 refine bB 2 1 bJ [bJ] [Pt ab 0,v11,V a0.Doc, .bool a0.az,bJ,V a0.av,V a0.Read] ee rfl (ee.gb (i:=0) rfl) (a8 (ee.fV (i:=0) rfl) cc) ?_
 intro jt bN
 refine xn 0<|sq ?_
 obtain ⟨gT,bI,hm⟩:=ai hm
 refine aH [0,3] (fun l h=>∃ ct cf c0 bV bW aI bY bZ bb c3 c5 c7 b0 aw eg aM,(cf,c0,bV,bW,aI,bY,bZ,bb)=gT∧RS (α:=ak) ct c3 cf.L∧RS (α:=aq) ct c5 cf.T.al∧RCs (α:=aj) ct c7 cf.D∧RCs (α:=an) ct b0 c0∧RCs (α:=ar) ct eg aI∧l=[(0,Pt I 0),(3,Pt aM 0)]∧St hs (aR [.ae I [Pt ab 0,v11,V a0.Doc, .bool a0.az,J,V a0.av,V a0.Read], .ae ab (ax v4 v6 ao a0.R), .gs ao aE (aa aj), .gs v11 aG (aa an), .gs J aL (aa ar)]) Z (0,0) ct h [.ae I [Pt ab 0,v11,V bV, .bool bW,aw,V bY,V bZ], .ae ab (ax c3 c5 ao cf), .gs ao c7 (aa aj), .gs v11 b0 (aa an), .gs aw eg (aa ar), .ae aM (et bb)]) ?_ ?_
 rintro l ju ⟨ct,cf,c0,bV,bW,aI,bY,bZ,bb,c3,c5,c7,b0,aw,eg,aM,rfl,fr,fs,ft,fu,dz,rfl,gU⟩
 try dsimp only at hm
 refine cT BL gU ?_
 intro fv jv fx cu
 refine yq 3 [(246,Pt I 4),(0,Pt I 0),(3,Pt aM 0)] ?_
 have jw:I<fv:=fx.1 _ (List.mem_of_getElem? (i:=0) rfl) _ (by simp [Itm.ids])
 refine aU (v:=aw) rfl trivial rfl (by show I<_;omega) (aB (v:=aw) (cu.dk (i:=4) rfl)) (cu.aP (i:=0) rfl (by kernel_rfl)) trivial<|yq 3 [(250,Pt I 4),(247,aw),(0,Pt I 0),(3,Pt aM 0)] ?_
 have jx:I<fv:=fx.1 _ (List.mem_of_getElem? (i:=0) rfl) _ (by simp [Itm.ids])
 refine aU (v:=aw) rfl trivial rfl (by show I<_;omega) (aB (v:=aw) (cu.dk (i:=4) rfl)) (cu.aP (i:=0) rfl (by kernel_rfl)) trivial<|aF rfl trivial (gP rfl (cu.dV (i:=4) rfl dz) ⟨_,Try.underlying59⟩)<|yq 1 [(253,V (af ((aI.length:Int) - 1))),(247,aw),(0,Pt I 0),(3,Pt aM 0)] ?_
 obtain ⟨fy,hm⟩:=aK hm
 refine aF rfl trivial (bG rfl rfl (by kernel_rfl:slTy _ _=some (aa ar)) (cu.bL (j:=4) rfl dz (by omega)) fy.1 fy.2)<|ye 1 [(9, .pointer (some (bh aw (af ((aI.length:Int) - 1)) (aa ar) 0))),(0,Pt I 0),(3,Pt aM 0)] ?_
 have fz:=cu.a5
 refine sr zp<|xq 3 [(257, .pointer (some (bh aw (af ((aI.length:Int) - 1)) (aa ar) 4))),(9, .pointer (some (bh aw (af ((aI.length:Int) - 1)) (aa ar) 0))),(0,Pt I 0),(3,Pt aM 0)] ?_
 obtain ⟨bl,fA,hm⟩:=ai hm
 obtain ⟨jy,gV,jz,gW⟩:=fz.cz (j:=4) rfl dz (i:=af ((aI.length:Int) - 1)) fA
 obtain rfl:=dW gV
 refine mz rfl trivial (iq (u':=(⟨bl.Node,bl.Kind,bl.aC,bl.bP,false⟩:ar)) (vs:=[.bool false]) (a2:=[V bl.Node,V bl.Kind,V bl.aC,V bl.bP, .bool false]) fz (m:=4) rfl dz fA gW rfl rfl rfl (by kernel_rfl) rfl rfl rfl rfl) ?_
 rintro jA dA ⟨cg,ei⟩
 refine xn 0<|sq<|s0<|aA 1 5 (.bool bb.ig) ei rfl<|xn 0 ?_
 obtain ⟨gX,bm,hm⟩:=ai hm
 refine aH [] (fun l h=>∃ cx cL ej ek en eo ep er dB dC dD dE dH dI,(cL,ej,ek,en,eo,ep,er)=gX∧RS (α:=ak) cx dB cL.L∧RS (α:=aq) cx dC cL.T.al∧RCs (α:=aj) cx dD cL.D∧RCs (α:=an) cx dE ej∧RCs (α:=ar) cx dI eo∧l=[]∧St hs (aR [.ae I [Pt ab 0,v11,V a0.Doc, .bool a0.az,J,V a0.av,V a0.Read], .ae ab (ax v4 v6 ao a0.R), .gs ao aE (aa aj), .gs v11 aG (aa an), .gs J aL (aa ar)]) Z (0,0) cx h [.ae I [Pt ab 0,v11,V ek, .bool en,dH,V ep,V er], .ae ab (ax dB dC ao cL), .gs ao dD (aa aj), .gs v11 dE (aa an), .gs dH dI (aa ar)]) ?_ ?_
 rintro l jB ⟨cx,cL,ej,ek,en,eo,ep,er,dB,dC,dD,dE,dH,dI,rfl,gY,gZ,g1,g2,g3,rfl,g4⟩
 try dsimp only at hm
 refine sp 1<|rt<|⟨rfl,?_⟩
 obtain rfl:=si hm
 refine ⟨_,_,_,tk (V 0) (ResL.nil),g4,?_⟩
 exact ⟨dB,dC,dD,dE,dH,dI,rfl,rfl,gY,gZ,g1,g2,g3⟩
 refine db bm ?_ ?_<;>intro jD bm
 refine ea wy ei ?_
 intro dJ jE dK cM
 refine yq 4 [(263,Pt I 0),(260, .pointer (some (bh aw (af ((aI.length:Int) - 1)) (aa ar) 0))),(9, .pointer (some (bh aw (af ((aI.length:Int) - 1)) (aa ar) 0))),(3,Pt aM 0)] ?_
 have jF:I<dJ:=dK.1 _ (List.mem_of_getElem? (i:=0) rfl) _ (by simp [Itm.ids])
 refine aU (v:=Pt ab 0) rfl trivial rfl (by show I<_;omega) (aB (v:=Pt ab 0) trivial) (cM.aP (i:=0) rfl (by kernel_rfl)) trivial<|yq 3 [(267, .pointer (some (bh aw (af ((aI.length:Int) - 1)) (aa ar) 0))),(264,Pt ab 0),(260, .pointer (some (bh aw (af ((aI.length:Int) - 1)) (aa ar) 0))),(3,Pt aM 0)] ?_
 obtain ⟨dL,fB,bm⟩:=ai bm
 obtain ⟨jG,g5,g6,jH⟩:=cM.cz (j:=4) rfl cg (i:=af ((aI.length:Int) - 1)) fB
 obtain rfl:=dW g5
 have g7:=dw fB
 have fC:=cM.bL (j:=4) rfl cg g7
 have jI:(baseOf aw).block<dJ:=dG (dK.1 _ (List.mem_of_getElem? (i:=4) rfl)) fC
 refine du rfl trivial rfl (by show (baseOf aw).block<_;omega) (aB (v:=V dL.Node) trivial) (bK (w:=V dL.Node) g6 rfl (by kernel_rfl)) trivial<|yq 1 [(269,Pt aM 2),(268,V dL.Node),(264,Pt ab 0),(260, .pointer (some (bh aw (af ((aI.length:Int) - 1)) (aa ar) 0))),(3,Pt aM 0)] ?_
 have jJ:aM<dJ:=dK.1 _ (List.mem_of_getElem? (i:=5) rfl) _ (by simp [Itm.ids])
 refine aU (v:=V bb.ah) rfl trivial rfl (by show aM<_;omega) (aB (v:=V bb.ah) trivial) (cM.aP (i:=5) rfl (by kernel_rfl)) trivial<|yq 1 [(271,Pt aM 3),(270,V bb.ah),(268,V dL.Node),(264,Pt ab 0),(260, .pointer (some (bh aw (af ((aI.length:Int) - 1)) (aa ar) 0)))] ?_
 have jK:aM<dJ:=dK.1 _ (List.mem_of_getElem? (i:=5) rfl) _ (by simp [Itm.ids])
 refine aU (v:=V bb.To) rfl trivial rfl (by show aM<_;omega) (aB (v:=V bb.To) trivial) (cM.aP (i:=5) rfl (by kernel_rfl)) trivial ?_
 obtain ⟨cy,g8,bm⟩:=ai bm
 have cN:St _ _ _ _ _ _ ([.ae ab (ax c3 c5 ao cf), .gs ao c7 (aa aj)]++[.ae I [Pt ab 0,v11,V bV, .bool bW,aw,V bY,V bZ], .gs v11 b0 (aa an), .gs aw dA (aa ar), .ae aM (et bb)]):=((cM.front 2 rfl).front 2 rfl)
 obtain ⟨jL,jM,jN,jO,g9,fD,fE,fG,fH,rfl,rfl,ha,hb,hc⟩:=fL F cN.cD.ez fr fs ft g8
 have c8:=fD.ag
 refine fF rfl trivial cN (cV g9 rfl rfl rfl) fD c8 (.aT (cN.bz 3 rfl bH) (.aT (cN.bz 3 rfl bH) (.aT (cN.bz 2 rfl (kc fC)) (.aT (cN.bz 0 rfl bH) .nil)))) ?_
 intro jP fJ
 refine yq 2 [(275, .pointer (some (bh aw (af ((aI.length:Int) - 1)) (aa ar) 3))),(273,V cy.1)] ?_
 obtain ⟨bC,fK,bm⟩:=ai bm
 obtain ⟨jQ,hf,jR,hg⟩:=fJ.cz (j:=4) rfl (cg.mono c8) (i:=af ((aI.length:Int) - 1)) fK
 obtain rfl:=dW hf
 have c9:St _ _ _ _ _ _ ([.gs aw dA (aa ar)]++[.ae ab (ax fE fG ao cy.2), .gs ao fH (aa aj), .ae I [Pt ab 0,v11,V bV, .bool bW,aw,V bY,V bZ], .gs v11 b0 (aa an), .ae aM (et bb)]):=(fJ.front 4 rfl)
 refine nF rfl trivial c9 (iq (u':=(⟨bC.Node,bC.Kind,bC.aC,cy.1,bC.Has⟩:ar)) (vs:=[V cy.1]) (a2:=[V bC.Node,V bC.Kind,V bC.aC,V cy.1, .bool bC.Has]) c9.sub (m:=0) rfl (cg.mono c8) fK hg rfl rfl rfl (by kernel_rfl) rfl rfl rfl rfl) c8 (.aT (c9.bz 4 rfl bH) (.aT (c9.bz 4 rfl bH) (.drop (by decide) (.aT (c9.bz 2 rfl bH) .nil)))) ?_
 rintro jS hh ⟨hi,hj⟩
 refine yf [] ?_
 have hk:=hj.a5
 obtain rfl:=si bm
 exact ⟨_,cy.2,c0,bV,bW,(aI.set (af ((aI.length:Int) - 1)).toNat (⟨bl.Node,bl.Kind,bl.aC,bl.bP,false⟩:ar)).set (af ((aI.length:Int) - 1)).toNat (⟨bC.Node,bC.Kind,bC.aC,cy.1,bC.Has⟩:ar),bY,bZ,fE,fG,fH,b0,aw,hh,rfl,ha,hb,hc,(fu.mono c8),hi,(by kernel_rfl),((((((hk.front 0 rfl).front 4 rfl).front 3 rfl).front 3 rfl).front 4 rfl).takeN 5)⟩
 refine ea AE ei ?_
 intro dM jT dN cP
 refine yq 4 [(279,Pt I 0),(276, .pointer (some (bh aw (af ((aI.length:Int) - 1)) (aa ar) 0))),(9, .pointer (some (bh aw (af ((aI.length:Int) - 1)) (aa ar) 0))),(3,Pt aM 0)] ?_
 have jU:I<dM:=dN.1 _ (List.mem_of_getElem? (i:=0) rfl) _ (by simp [Itm.ids])
 refine aU (v:=Pt ab 0) rfl trivial rfl (by show I<_;omega) (aB (v:=Pt ab 0) trivial) (cP.aP (i:=0) rfl (by kernel_rfl)) trivial<|yq 3 [(283, .pointer (some (bh aw (af ((aI.length:Int) - 1)) (aa ar) 0))),(280,Pt ab 0),(276, .pointer (some (bh aw (af ((aI.length:Int) - 1)) (aa ar) 0))),(3,Pt aM 0)] ?_
 obtain ⟨dO,fN,bm⟩:=ai bm
 obtain ⟨jV,hl,hn,jW⟩:=cP.cz (j:=4) rfl cg (i:=af ((aI.length:Int) - 1)) fN
 obtain rfl:=dW hl
 have ho:=dw fN
 have fO:=cP.bL (j:=4) rfl cg ho
 have jX:(baseOf aw).block<dM:=dG (dN.1 _ (List.mem_of_getElem? (i:=4) rfl)) fO
 refine du rfl trivial rfl (by show (baseOf aw).block<_;omega) (aB (v:=V dO.Node) trivial) (bK (w:=V dO.Node) hn rfl (by kernel_rfl)) trivial<|yq 1 [(285,Pt aM 2),(284,V dO.Node),(280,Pt ab 0),(276, .pointer (some (bh aw (af ((aI.length:Int) - 1)) (aa ar) 0))),(3,Pt aM 0)] ?_
 have jY:aM<dM:=dN.1 _ (List.mem_of_getElem? (i:=5) rfl) _ (by simp [Itm.ids])
 refine aU (v:=V bb.ah) rfl trivial rfl (by show aM<_;omega) (aB (v:=V bb.ah) trivial) (cP.aP (i:=5) rfl (by kernel_rfl)) trivial<|yq 1 [(287,Pt aM 3),(286,V bb.ah),(284,V dO.Node),(280,Pt ab 0),(276, .pointer (some (bh aw (af ((aI.length:Int) - 1)) (aa ar) 0)))] ?_
 have jZ:aM<dM:=dN.1 _ (List.mem_of_getElem? (i:=5) rfl) _ (by simp [Itm.ids])
 refine aU (v:=V bb.To) rfl trivial rfl (by show aM<_;omega) (aB (v:=V bb.To) trivial) (cP.aP (i:=5) rfl (by kernel_rfl)) trivial ?_
 obtain ⟨cA,hp,bm⟩:=ai bm
 have cR:St _ _ _ _ _ _ ([.ae ab (ax c3 c5 ao cf), .gs ao c7 (aa aj)]++[.ae I [Pt ab 0,v11,V bV, .bool bW,aw,V bY,V bZ], .gs v11 b0 (aa an), .gs aw dA (aa ar), .ae aM (et bb)]):=((cP.front 2 rfl).front 2 rfl)
 obtain ⟨j0,j1,j3,j4,hq,fP,fQ,fR,fS,rfl,rfl,hr,ht,hv⟩:=uv F cR.cD.ez fr fs ft hp
 have da:=fP.ag
 refine fF rfl trivial cR (cV hq rfl rfl rfl) fP da (.aT (cR.bz 3 rfl bH) (.aT (cR.bz 3 rfl bH) (.aT (cR.bz 2 rfl (kc fO)) (.aT (cR.bz 0 rfl bH) .nil)))) ?_
 intro j5 fT
 refine yq 2 [(291, .pointer (some (bh aw (af ((aI.length:Int) - 1)) (aa ar) 3))),(289,V cA.1)] ?_
 obtain ⟨bD,fU,bm⟩:=ai bm
 obtain ⟨j6,hx,j7,hy⟩:=fT.cz (j:=4) rfl (cg.mono da) (i:=af ((aI.length:Int) - 1)) fU
 obtain rfl:=dW hx
 have dc:St _ _ _ _ _ _ ([.gs aw dA (aa ar)]++[.ae ab (ax fQ fR ao cA.2), .gs ao fS (aa aj), .ae I [Pt ab 0,v11,V bV, .bool bW,aw,V bY,V bZ], .gs v11 b0 (aa an), .ae aM (et bb)]):=(fT.front 4 rfl)
 refine nF rfl trivial dc (iq (u':=(⟨bD.Node,bD.Kind,bD.aC,cA.1,bD.Has⟩:ar)) (vs:=[V cA.1]) (a2:=[V bD.Node,V bD.Kind,V bD.aC,V cA.1, .bool bD.Has]) dc.sub (m:=0) rfl (cg.mono da) fU hy rfl rfl rfl (by kernel_rfl) rfl rfl rfl rfl) da (.aT (dc.bz 4 rfl bH) (.aT (dc.bz 4 rfl bH) (.drop (by decide) (.aT (dc.bz 2 rfl bH) .nil)))) ?_
 rintro j8 hz ⟨hA,hB⟩
 refine yf [] ?_
 have hC:=hB.a5
 obtain rfl:=si bm
 exact ⟨_,cA.2,c0,bV,bW,(aI.set (af ((aI.length:Int) - 1)).toNat (⟨bl.Node,bl.Kind,bl.aC,bl.bP,false⟩:ar)).set (af ((aI.length:Int) - 1)).toNat (⟨bD.Node,bD.Kind,bD.aC,cA.1,bD.Has⟩:ar),bY,bZ,fQ,fR,fS,b0,aw,hz,rfl,hr,ht,hv,(fu.mono da),hA,(by kernel_rfl),((((((hC.front 0 rfl).front 4 rfl).front 3 rfl).front 3 rfl).front 4 rfl).takeN 5)⟩
 refine sp 1<|db bI ?_ ?_<;>intro j9 bI
 refine s0<|aA 3 1 (V a0.Doc) bN rfl<|xn 1<|sq ?_
 obtain ⟨hD,bE,bI⟩:=ai bI
 refine aH [0,3,5,8] (fun l h=>∃ dP dQ b1 b2 dR b3 b5 a3 cB cE bo dd aX,(dQ,b1,b2,dR,b3,b5,a3,cB)=hD∧RCs (α:=an) dP cE dQ∧RCs (α:=ar) dP dd dR∧l=[(0,Pt I 0),(3,Pt aX 0),(5,V ad),(8,V cB)]∧St hs (aR [.ae I [Pt ab 0,v11,V a0.Doc, .bool a0.az,J,V a0.av,V a0.Read], .ae ab (ax v4 v6 ao a0.R), .gs ao aE (aa aj), .gs v11 aG (aa an), .gs J aL (aa ar)]) Z (0,0) dP h [.ae ab (ax v4 v6 ao a0.R), .gs ao aE (aa aj), .ae I [Pt ab 0,v11,V b1, .bool b2,bo,V b3,V b5], .gs v11 cE (aa an), .gs bo dd (aa ar), .ae aX (et a3)]) ?_ ?_
 rintro l ka ⟨dP,dQ,b1,b2,dR,b3,b5,a3,cB,cE,bo,dd,aX,rfl,hE,hF,rfl,dS⟩
 try dsimp only at bI
 refine ea yQ dS ?_
 intro de ke dh cS
 refine yq 4 [(223,Pt I 4),(220,Pt I 0),(0,Pt I 0),(3,Pt aX 0),(5,V ad),(8,V cB)] ?_
 have kf:I<de:=dh.1 _ (List.mem_of_getElem? (i:=2) rfl) _ (by simp [Itm.ids])
 refine aU (v:=bo) rfl trivial rfl (by show I<_;omega) (aB (v:=bo) (cS.dk (i:=4) rfl)) (cS.aP (i:=2) rfl (by kernel_rfl)) trivial<|yq 3 [(227,Pt I 0),(224,bo),(220,Pt I 0),(0,Pt I 0),(3,Pt aX 0),(5,V ad),(8,V cB)] ?_
 have kg:I<de:=dh.1 _ (List.mem_of_getElem? (i:=2) rfl) _ (by simp [Itm.ids])
 refine aU (v:=Pt ab 0) rfl trivial rfl (by show I<_;omega) (aB (v:=Pt ab 0) trivial) (cS.aP (i:=2) rfl (by kernel_rfl)) trivial<|yq 3 [(231,Pt aX 2),(230,V ad),(229,V cB),(228,Pt ab 0),(224,bo),(220,Pt I 0),(0,Pt I 0),(3,Pt aX 0),(5,V ad)] ?_
 have kh:aX<de:=dh.1 _ (List.mem_of_getElem? (i:=5) rfl) _ (by simp [Itm.ids])
 refine aU (v:=V a3.ah) rfl trivial rfl (by show aX<_;omega) (aB (v:=V a3.ah) trivial) (cS.aP (i:=5) rfl (by kernel_rfl)) trivial<|yq 1 [(233,Pt aX 3),(232,V a3.ah),(230,V ad),(229,V cB),(228,Pt ab 0),(224,bo),(220,Pt I 0),(0,Pt I 0),(3,Pt aX 0),(5,V ad)] ?_
 have ki:aX<de:=dh.1 _ (List.mem_of_getElem? (i:=5) rfl) _ (by simp [Itm.ids])
 refine aU (v:=V a3.To) rfl trivial rfl (by show aX<_;omega) (aB (v:=V a3.To) trivial) (cS.aP (i:=5) rfl (by kernel_rfl)) trivial ?_
 obtain ⟨bu,hG,bI⟩:=ai bI
 have cF:St _ _ _ _ _ _ ([.ae ab (ax v4 v6 ao a0.R), .gs ao aE (aa aj)]++[.ae I [Pt ab 0,v11,V b1, .bool b2,bo,V b3,V b5], .gs v11 cE (aa an), .gs bo dd (aa ar), .ae aX (et a3)]):=((cS.front 1 rfl).front 1 rfl)
 obtain ⟨kj,kk,hH,kl,hI,fW,eu,ew,ey,rfl,rfl,hJ,hK,hL⟩:=fL F cF.cD.ez (b9.mono dS.ag) (ca.mono dS.ag) (cb.mono dS.ag) hG
 have di:=fW.ag
 refine fF rfl trivial cF (cV hI rfl rfl rfl) fW di (.aT (cF.bz 3 rfl bH) (.aT (cF.bz 3 rfl bH) (.aT (cF.bz 0 rfl bH) (.aT (cF.bz 0 rfl bH) .nil)))) ?_
 intro km fX
 refine yq 2 [(237,Pt aX 1),(236,V ad),(235,V bu.1),(224,bo),(220,Pt I 0),(0,Pt I 0),(3,Pt aX 0)] ?_
 have kn:aX<de:=dh.1 _ (List.mem_of_getElem? (i:=5) rfl) _ (by simp [Itm.ids])
 refine aU (v:=V a3.aC) rfl trivial rfl (by show aX<_;omega) (aB (v:=V a3.aC) trivial) (fX.aP (i:=5) rfl (by kernel_rfl)) (.inl ⟨⟨by show aX<_;omega,cF.bz 3 rfl bH⟩,trivial⟩)<|yq 1 [(239, .agg #[V bu.1,V ad,V a3.aC,V 0, .bool false]),(224,bo),(220,Pt I 0),(0,Pt I 0),(3,Pt aX 0)] ?_
 have hM:RCs (α:=ar) hH [V bu.1,V ad,V a3.aC,V 0, .bool false] [(⟨bu.1,ad,a3.aC,0,false⟩:ar)]:=RCs.cons (cs:=[V bu.1,V ad,V a3.aC,V 0, .bool false]) rfl (RCs.bA _)
 refine jc rfl trivial (c6 (cells:=[V bu.1,V ad,V a3.aC,V 0, .bool false]) (s:=5) (by kernel_rfl)) (by kernel_rfl) fX (by omega) (Nat.add_lt_add_left (by decide) _) ?_
 intro fY ko kp kq kr fZ
 obtain ⟨ks,bI⟩:=aK bI
 have cG:St _ _ _ _ _ _ ([.gs bo dd (aa ar)]++[.gs fY [V bu.1,V ad,V a3.aC,V 0, .bool false] (aa ar), .ae ab (ax eu ew ao bu.2), .gs ao ey (aa aj), .ae I [Pt ab 0,v11,V b1, .bool b2,bo,V b3,V b5], .gs v11 cE (aa an), .ae aX (et a3)]):=(fZ.front 5 rfl)
 refine iT rfl trivial cG (dZ (ys:=[(⟨bu.1,ad,a3.aC,0,false⟩:ar)]) (b4:=40) cG.sub (i:=0) rfl (hF.mono di) ((fZ.cD).eK (j:=0) rfl hM) rfl rfl (by kernel_rfl) (by omega) (by omega)) di (.aT (cG.bz 5 rfl bH) (.aT (cG.bz 5 rfl bH) (.aT (cG.bz 5 rfl bH) (.aT (cG.bz 3 rfl bH) (.aT (cG.bz 3 rfl bH) .nil))))) ?_
 rintro cU ga kt ⟨hN,eA⟩
 refine yq 2 [(243,Pt I 4),(241,cU),(0,Pt I 0),(3,Pt aX 0)] ?_
 have dj:St _ _ _ _ _ _ ([.ae I [Pt ab 0,v11,V b1, .bool b2,bo,V b3,V b5]]++[.gs cU ga (aa ar), .gs fY [V bu.1,V ad,V a3.aC,V 0, .bool false] (aa ar), .ae ab (ax eu ew ao bu.2), .gs ao ey (aa aj), .gs v11 cE (aa an), .ae aX (et a3)]):=(eA.front 4 rfl)
 refine fM rfl trivial dj (fI (vs:=[cU]) (cr:=[Pt ab 0,v11,V b1, .bool b2,cU,V b3,V b5]) (L':=[.ae I [Pt ab 0,v11,V b1, .bool b2,cU,V b3,V b5]]) dj.sub (i:=0) rfl rfl rfl (eA.gb (i:=0) rfl) (by kernel_rfl) (a8 (eA.fV (i:=0) rfl) cc) rfl rfl rfl) di (.aT (dj.bz 5 rfl bH) (.aT (dj.bz 5 rfl bH) (.aT (dj.bz 5 rfl bH) (.drop (by decide) (.drop (by decide) .nil))))) ?_
 intro ku hO
 refine yf [(0,Pt I 0),(3,Pt aX 0)] ?_
 have hQ:=hO.a5
 obtain rfl:=si bI
 exact ⟨_,bu.2,dQ,b1,b2,dR++[(⟨bu.1,ad,a3.aC,0,false⟩:ar)],b3,b5,a3,eu,ew,ey,cE,cU,ga,aX,rfl,hJ,hK,hL,(hE.mono di),hN,(by kernel_rfl),(((((((hQ.front 6 rfl).front 2 rfl).front 6 rfl).front 6 rfl).front 6 rfl).front 5 rfl).takeN 6)⟩
 refine s0<|cv 1 bE ?_ ?_<;>intro kv bE
 refine xn 0<|dT<|s0<|aA 3 1 bJ bN rfl<|fj 1 0 bE bN cq rfl ?_
 intro kx bE
 refine gB 1 3 0 (fun dU=>V dU.bP) bE bN cq rfl ?_
 intro dU ky bE
 refine xn 1<|rg CI<|aA 3 1 bJ bN rfl<|fj 1 0 bE bN cq rfl ?_
 intro kz bE
 refine xq 1 [(216, .pointer (some (bh bJ bn (aa ar) 4))),(8,V dU.bP),(0,Pt I 0),(3,Pt bU 0),(5,V ad)] ?_
 obtain ⟨bF,gf,bE⟩:=ai bE
 obtain ⟨kA,hR,kB,hT⟩:=bN.cz (j:=0) rfl cq (i:=bn) gf
 obtain rfl:=dW hR
 refine mz rfl trivial (iq (u':=(⟨bF.Node,bF.Kind,bF.aC,bF.bP,true⟩:ar)) (vs:=[.bool true]) (a2:=[V bF.Node,V bF.Kind,V bF.aC,V bF.bP, .bool true]) bN (m:=0) rfl cq gf hT rfl rfl rfl (by kernel_rfl) rfl rfl rfl rfl) ?_
 rintro kC hU ⟨hV,hW⟩
 refine xn 0 ?_
 obtain rfl:=si bE
 exact ⟨_,a0.Rows,a0.Doc,a0.az,(([]:List ar)++((a0.S.take (af (bn+1)).toNat).drop (0:Int).toNat)).set bn.toNat (⟨bF.Node,bF.Kind,bF.aC,bF.bP,true⟩:ar),a0.av,a0.Read,cK,dU.bP,aG,bJ,hU,bU,rfl,(bR.mono (cd.ag.trans cp)),hV,(by kernel_rfl),((((((hW.front 5 rfl).front 1 rfl).front 5 rfl).front 3 rfl).front 5 rfl).front 5 rfl)⟩
 refine xn 0<|dF<|g0<|bB 3 1 (.bool true) [.bool true] [Pt ab 0,v11,V a0.Doc, .bool true,bJ,V a0.av,V a0.Read] bN rfl rfl rfl ?_
 intro kD hX
 refine xn 0 ?_
 obtain rfl:=si bE
 exact ⟨_,a0.Rows,a0.Doc,true,([]:List ar)++((a0.S.take (af (bn+1)).toNat).drop (0:Int).toNat),a0.av,a0.Read,cK,a0.Doc,aG,bJ,fq,bU,rfl,(bR.mono (cd.ag.trans cp)),cq,(by kernel_rfl),((((((hX.front 5 rfl).front 1 rfl).front 5 rfl).front 3 rfl).front 5 rfl).front 5 rfl)⟩
 refine sk ?_
 obtain rfl:=si bI
 exact ⟨_,a0.R,a0.Rows,a0.Doc,a0.az,([]:List ar)++((a0.S.take (af (bn+1)).toNat).drop (0:Int).toNat),a0.av,a0.Read,cK,v4,v6,aE,aG,bJ,fq,bU,rfl,(b9.mono (cd.ag.trans cp)),(ca.mono (cd.ag.trans cp)),(cb.mono (cd.ag.trans cp)),(bR.mono (cd.ag.trans cp)),cq,(by kernel_rfl),((((((bN.front 5 rfl).front 1 rfl).front 5 rfl).front 5 rfl).front 5 rfl).front 5 rfl)⟩
 refine s0<|kb 2 174 cn ?_ ?_<;>intro kE cn
 refine aA 5 0 (V a0.av) bT rfl<|cC 0 cn ?_ ?_<;>intro kF cn
 refine xn 1<|dT<|sp 1<|rt<|⟨rfl,?_⟩
 obtain rfl:=si cn
 obtain rfl:=si hm
 refine ⟨_,_,_,tk (V 10) (ResL.nil),(bT.takeN 5),?_⟩
 exact ⟨v4,v6,aE,aG,J,aL,rfl,rfl,(b9.mono bT.ag),(ca.mono bT.ag),(cb.mono bT.ag),(bR.mono bT.ag),(aD.mono bT.ag)⟩
 refine xn 1<|dF<|sk ?_
 obtain rfl:=si cn
 exact ⟨_,cW,cZ,rfl,(by kernel_rfl),bT⟩
 refine xn 8<|dF<|sk ?_
 obtain rfl:=si cn
 exact ⟨_,cW,cZ,rfl,(by kernel_rfl),bT⟩
 refine bk 2<|sq ?_
 obtain ⟨hY,a7,au⟩:=ai au
 refine aH [0,3,5,6,7,35] (fun l h=>∃ gg bO eB a9,(bO,eB)=hY∧l=[(0,Pt I 0),(3,Pt a9 0),(5,V ad),(6,V U),(7, .bool true),(35, .bool eB)]∧St hs (aR [.ae I [Pt ab 0,v11,V a0.Doc, .bool a0.az,J,V a0.av,V a0.Read], .ae ab (ax v4 v6 ao a0.R), .gs ao aE (aa aj), .gs v11 aG (aa an), .gs J aL (aa ar)]) Z (0,0) gg h [.ae I [Pt ab 0,v11,V a0.Doc, .bool a0.az,J,V a0.av,V a0.Read], .ae ab (ax v4 v6 ao a0.R), .gs ao aE (aa aj), .gs v11 aG (aa an), .gs J aL (aa ar), .ae a9 (et bO)]) ?_ ?_
 rintro l kG ⟨gg,bO,eB,a9,rfl,rfl,dm⟩
 try dsimp only at au
 refine db au ?_ ?_<;>intro kH au
 refine gp 1 ?_
 obtain rfl:=si au
 exact ⟨_,bO,U,false,a9,rfl,(by kernel_rfl),dm⟩
 refine sq ?_
 obtain ⟨hZ,bg,au⟩:=ai au
 refine aH [0,3,5,6,7,63] (fun l h=>∃ gh bw eC aJ,(bw,eC)=hZ∧l=[(0,Pt I 0),(3,Pt aJ 0),(5,V ad),(6,V U),(7, .bool true),(63, .bool eC)]∧St hs (aR [.ae I [Pt ab 0,v11,V a0.Doc, .bool a0.az,J,V a0.av,V a0.Read], .ae ab (ax v4 v6 ao a0.R), .gs ao aE (aa aj), .gs v11 aG (aa an), .gs J aL (aa ar)]) Z (0,0) gh h [.ae I [Pt ab 0,v11,V a0.Doc, .bool a0.az,J,V a0.av,V a0.Read], .ae ab (ax v4 v6 ao a0.R), .gs ao aE (aa aj), .gs v11 aG (aa an), .gs J aL (aa ar), .ae aJ (et bw)]) ?_ ?_
 rintro l kI ⟨gh,bw,eC,aJ,rfl,rfl,a4⟩
 try dsimp only at au
 refine db au ?_ ?_<;>intro kJ au
 refine s0<|aA 3 0 J a4 rfl<|fj 1 4 au a4 (aD.mono a4.ag) rfl ?_
 intro kK au
 refine gB 1 4 4 (fun gi=> .bool gi.Has) au a4 (aD.mono a4.ag) rfl ?_
 intro gi kL au
 refine xn 0<|db au ?_ ?_<;>intro kM au
 refine sp 1<|rt<|ba<|⟨rfl,?_⟩
 obtain rfl:=si au
 obtain rfl:=si hm
 refine ⟨_,_,_,tk (V 5) (ResL.nil),(a4.takeN 5),?_⟩
 exact ⟨v4,v6,aE,aG,J,aL,rfl,rfl,(b9.mono a4.ag),(ca.mono a4.ag),(cb.mono a4.ag),(bR.mono a4.ag),(aD.mono a4.ag)⟩
 refine sk ?_
 obtain rfl:=si au
 exact ⟨_,bw,U,true,aJ,rfl,(by kernel_rfl),a4⟩
 refine sq ?_
 obtain ⟨h2,aW,au⟩:=ai au
 refine aH [0,3,5,6,7,91] (fun l h=>∃ gj b6 eD bc,(b6,eD)=h2∧l=[(0,Pt I 0),(3,Pt bc 0),(5,V ad),(6,V U),(7, .bool true),(91, .bool eD)]∧St hs (aR [.ae I [Pt ab 0,v11,V a0.Doc, .bool a0.az,J,V a0.av,V a0.Read], .ae ab (ax v4 v6 ao a0.R), .gs ao aE (aa aj), .gs v11 aG (aa an), .gs J aL (aa ar)]) Z (0,0) gj h [.ae I [Pt ab 0,v11,V a0.Doc, .bool a0.az,J,V a0.av,V a0.Read], .ae ab (ax v4 v6 ao a0.R), .gs ao aE (aa aj), .gs v11 aG (aa an), .gs J aL (aa ar), .ae bc (et b6)]) ?_ ?_
 rintro l kN ⟨gj,b6,eD,bc,rfl,rfl,dn⟩
 try dsimp only at au
 refine db au ?_ ?_<;>intro kO au
 refine sp 3<|gp 1 ?_
 obtain rfl:=si au
 exact ⟨_,b6,af (U - 1),false,bc,rfl,(by kernel_rfl),dn⟩
 refine sq ?_
 obtain ⟨h3,bx,au⟩:=ai au
 refine aH [0,3,5,6,7,135] (fun l h=>∃ gk cH eE cI,(cH,eE)=h3∧l=[(0,Pt I 0),(3,Pt cI 0),(5,V ad),(6,V U),(7, .bool true),(135, .bool eE)]∧St hs (aR [.ae I [Pt ab 0,v11,V a0.Doc, .bool a0.az,J,V a0.av,V a0.Read], .ae ab (ax v4 v6 ao a0.R), .gs ao aE (aa aj), .gs v11 aG (aa an), .gs J aL (aa ar)]) Z (0,0) gk h [.ae I [Pt ab 0,v11,V a0.Doc, .bool a0.az,J,V a0.av,V a0.Read], .ae ab (ax v4 v6 ao a0.R), .gs ao aE (aa aj), .gs v11 aG (aa an), .gs J aL (aa ar), .ae cI (et cH)]) ?_ ?_
 rintro l kP ⟨gk,cH,eE,cI,rfl,rfl,ay⟩
 try dsimp only at au
 refine db au ?_ ?_<;>intro kQ au
 refine sp 1<|rt<|ba<|⟨rfl,?_⟩
 obtain rfl:=si au
 obtain rfl:=si hm
 refine ⟨_,_,_,tk (V 5) (ResL.nil),(ay.takeN 5),?_⟩
 exact ⟨v4,v6,aE,aG,J,aL,rfl,rfl,(b9.mono ay.ag),(ca.mono ay.ag),(cb.mono ay.ag),(bR.mono ay.ag),(aD.mono ay.ag)⟩
 refine s0<|aO 1 au ?_ ?_<;>intro kR au
 refine aA 4 0 (.bool a0.az) ay rfl<|xn 2<|db au ?_ ?_<;>intro kS au
 refine sp 1<|rt<|ba<|⟨rfl,?_⟩
 obtain rfl:=si au
 obtain rfl:=si hm
 refine ⟨_,_,_,tk (V 7) (ResL.nil),(ay.takeN 5),?_⟩
 exact ⟨v4,v6,aE,aG,J,aL,rfl,rfl,(b9.mono ay.ag),(ca.mono ay.ag),(cb.mono ay.ag),(bR.mono ay.ag),(aD.mono ay.ag)⟩
 refine s0<|cv 1 au ?_ ?_<;>intro kT au
 refine aA 4 0 J ay rfl<|fj 1 4 au ay (aD.mono ay.ag) rfl ?_
 intro kU au
 refine gB 1 4 4 (fun gl=> .bool gl.Has) au ay (aD.mono ay.ag) rfl ?_
 intro gl kV au
 refine xn 2<|db au ?_ ?_<;>intro kW au
 refine sp 1<|rt<|ba<|⟨rfl,?_⟩
 obtain rfl:=si au
 obtain rfl:=si hm
 refine ⟨_,_,_,tk (V 6) (ResL.nil),(ay.takeN 5),?_⟩
 exact ⟨v4,v6,aE,aG,J,aL,rfl,rfl,(b9.mono ay.ag),(ca.mono ay.ag),(cb.mono ay.ag),(bR.mono ay.ag),(aD.mono ay.ag)⟩
 refine sk ?_
 obtain rfl:=si au
 exact ⟨_,cH,U,true,cI,rfl,(by kernel_rfl),ay⟩
 refine xn 11<|dF<|sk ?_
 obtain rfl:=si au
 exact ⟨_,cH,U,true,cI,rfl,(by kernel_rfl),ay⟩
 refine xn 7<|dF<|s0<|cv 1 au ?_ ?_<;>intro kX au
 refine aA 4 0 J ay rfl<|fj 1 4 au ay (aD.mono ay.ag) rfl ?_
 intro kY au
 refine gB 1 4 4 (fun gm=> .bool gm.Has) au ay (aD.mono ay.ag) rfl ?_
 intro gm kZ au
 refine xn 2<|db au ?_ ?_<;>intro k0 au
 refine sp 1<|rt<|ba<|⟨rfl,?_⟩
 obtain rfl:=si au
 obtain rfl:=si hm
 refine ⟨_,_,_,tk (V 6) (ResL.nil),(ay.takeN 5),?_⟩
 exact ⟨v4,v6,aE,aG,J,aL,rfl,rfl,(b9.mono ay.ag),(ca.mono ay.ag),(cb.mono ay.ag),(bR.mono ay.ag),(aD.mono ay.ag)⟩
 refine sk ?_
 obtain rfl:=si au
 exact ⟨_,cH,U,true,cI,rfl,(by kernel_rfl),ay⟩
 refine xn 11<|dF<|sk ?_
 obtain rfl:=si au
 exact ⟨_,cH,U,true,cI,rfl,(by kernel_rfl),ay⟩
 refine ea DK dn ?_
 intro eF k1 eG b7
 refine yq 1 [(136,V U),(0,Pt I 0),(3,Pt bc 0),(5,V ad),(6,V U),(7, .bool true)] ?_
 rcases ifs bx with ⟨eH,bx⟩ | ⟨eH,bx⟩
 refine aF rfl trivial (br rfl rfl (jC eH))<|yq 4 [(141,Pt I 4),(138, .bool true),(0,Pt I 0),(3,Pt bc 0),(5,V ad),(6,V U),(7, .bool true)] ?_
 have k2:I<eF:=eG.1 _ (List.mem_of_getElem? (i:=0) rfl) _ (by simp [Itm.ids])
 refine aU (v:=J) rfl rfl rfl (by show I<_;omega) (aB (v:=J) (b7.dk (i:=4) rfl)) (b7.aP (i:=0) rfl (by kernel_rfl)) trivial<|yq 1 [(143,V U),(142,J),(138, .bool true),(0,Pt I 0),(3,Pt bc 0),(5,V ad),(6,V U),(7, .bool true)] ?_
 obtain ⟨gn,bx⟩:=aK bx
 refine aF rfl rfl (bG rfl rfl (by kernel_rfl:slTy _ _=some (aa ar)) (b7.bL (j:=4) rfl (aD.mono dn.ag) (by omega)) gn.1 gn.2)<|yq 1 [(145, .pointer (some (bh J U (aa ar) 2))),(138, .bool true),(0,Pt I 0),(3,Pt bc 0),(5,V ad),(6,V U),(7, .bool true)] ?_
 obtain ⟨eI,gq,bx⟩:=ai bx
 obtain ⟨k3,h4,h5,k4⟩:=b7.cz (j:=4) rfl (aD.mono dn.ag) (i:=U) gq
 obtain rfl:=dW h4
 have h6:=dw gq
 have h7:=b7.bL (j:=4) rfl (aD.mono dn.ag) h6
 have k5:(baseOf J).block<eF:=dG (eG.1 _ (List.mem_of_getElem? (i:=4) rfl)) h7
 refine du rfl rfl rfl (by show (baseOf J).block<_;omega) (aB (v:=V eI.aC) trivial) (bK (w:=V eI.aC) h5 rfl (by kernel_rfl)) trivial<|yq 1 [(147,Pt bc 1),(146,V eI.aC),(138, .bool true),(0,Pt I 0),(3,Pt bc 0),(5,V ad),(6,V U),(7, .bool true)] ?_
 have k6:bc<eF:=eG.1 _ (List.mem_of_getElem? (i:=5) rfl) _ (by simp [Itm.ids])
 refine aU (v:=V b6.aC) rfl rfl rfl (by show bc<_;omega) (aB (v:=V b6.aC) trivial) (b7.aP (i:=5) rfl (by kernel_rfl)) trivial ?_
 rcases ifs bx with ⟨eJ,bx⟩ | ⟨eJ,bx⟩
 refine aF rfl rfl (br rfl rfl (eU eJ))<|ye 2 [(135, .bool true),(0,Pt I 0),(3,Pt bc 0),(5,V ad),(6,V U),(7, .bool true)] ?_
 have h8:=b7.a5
 obtain rfl:=si bx
 exact ⟨_,b6,true,bc,rfl,(by kernel_rfl),h8⟩
 refine aF rfl rfl (br rfl rfl (eT eJ))<|ye 2 [(135, .bool false),(0,Pt I 0),(3,Pt bc 0),(5,V ad),(6,V U),(7, .bool true)] ?_
 have h9:=b7.a5
 obtain rfl:=si bx
 exact ⟨_,b6,false,bc,rfl,(by kernel_rfl),h9⟩
 refine aF rfl trivial (br rfl rfl (jf eH))<|ye 14 [(135, .bool false),(0,Pt I 0),(3,Pt bc 0),(5,V ad),(6,V U),(7, .bool true)] ?_
 have ia:=b7.a5
 obtain rfl:=si bx
 exact ⟨_,b6,false,bc,rfl,(by kernel_rfl),ia⟩
 refine ea AJ a4 ?_
 intro ch k7 cj a6
 refine yq 1 [(92,V U),(0,Pt I 0),(3,Pt aJ 0),(5,V ad),(6,V U),(7, .bool true)] ?_
 rcases ifs aW with ⟨eL,aW⟩ | ⟨eL,aW⟩
 refine aF rfl trivial (br rfl rfl (l0 eL))<|yq 4 [(97,Pt I 4),(94, .bool true),(0,Pt I 0),(3,Pt aJ 0),(5,V ad),(6,V U),(7, .bool true)] ?_
 have k8:I<ch:=cj.1 _ (List.mem_of_getElem? (i:=0) rfl) _ (by simp [Itm.ids])
 refine aU (v:=J) rfl rfl rfl (by show I<_;omega) (aB (v:=J) (a6.dk (i:=4) rfl)) (a6.aP (i:=0) rfl (by kernel_rfl)) trivial<|yq 1 [(99,V U),(98,J),(94, .bool true),(0,Pt I 0),(3,Pt aJ 0),(5,V ad),(6,V U),(7, .bool true)] ?_
 obtain ⟨gr,aW⟩:=aK aW
 refine aF rfl rfl (bG rfl rfl (by kernel_rfl:slTy _ _=some (aa ar)) (a6.bL (j:=4) rfl (aD.mono a4.ag) (by omega)) gr.1 gr.2)<|yq 1 [(101, .pointer (some (bh J U (aa ar) 2))),(94, .bool true),(0,Pt I 0),(3,Pt aJ 0),(5,V ad),(6,V U),(7, .bool true)] ?_
 obtain ⟨eM,gu,aW⟩:=ai aW
 obtain ⟨k9,ib,ic,la⟩:=a6.cz (j:=4) rfl (aD.mono a4.ag) (i:=U) gu
 obtain rfl:=dW ib
 have ie:=dw gu
 have ij:=a6.bL (j:=4) rfl (aD.mono a4.ag) ie
 have ld:(baseOf J).block<ch:=dG (cj.1 _ (List.mem_of_getElem? (i:=4) rfl)) ij
 refine du rfl rfl rfl (by show (baseOf J).block<_;omega) (aB (v:=V eM.aC) trivial) (bK (w:=V eM.aC) ic rfl (by kernel_rfl)) trivial<|yq 1 [(103,Pt aJ 1),(102,V eM.aC),(94, .bool true),(0,Pt I 0),(3,Pt aJ 0),(5,V ad),(6,V U),(7, .bool true)] ?_
 have lf:aJ<ch:=cj.1 _ (List.mem_of_getElem? (i:=5) rfl) _ (by simp [Itm.ids])
 refine aU (v:=V bw.aC) rfl rfl rfl (by show aJ<_;omega) (aB (v:=V bw.aC) trivial) (a6.aP (i:=5) rfl (by kernel_rfl)) trivial ?_
 rcases ifs aW with ⟨eN,aW⟩ | ⟨eN,aW⟩
 refine aF rfl rfl (br rfl rfl (eU eN))<|yq 5 [(110,Pt I 4),(107, .bool true),(0,Pt I 0),(3,Pt aJ 0),(5,V ad),(6,V U),(7, .bool true)] ?_
 have lg:I<ch:=cj.1 _ (List.mem_of_getElem? (i:=0) rfl) _ (by simp [Itm.ids])
 refine aU (v:=J) rfl rfl rfl (by show I<_;omega) (aB (v:=J) (a6.dk (i:=4) rfl)) (a6.aP (i:=0) rfl (by kernel_rfl)) trivial<|yq 2 [(113,V (af (U - 1))),(111,J),(107, .bool true),(0,Pt I 0),(3,Pt aJ 0),(5,V ad),(6,V U),(7, .bool true)] ?_
 obtain ⟨gv,aW⟩:=aK aW
 refine aF rfl rfl (bG rfl rfl (by kernel_rfl:slTy _ _=some (aa ar)) (a6.bL (j:=4) rfl (aD.mono a4.ag) (by omega)) gv.1 gv.2)<|yq 1 [(115, .pointer (some (bh J (af (U - 1)) (aa ar) 2))),(107, .bool true),(0,Pt I 0),(3,Pt aJ 0),(5,V ad),(6,V U),(7, .bool true)] ?_
 obtain ⟨eO,gw,aW⟩:=ai aW
 obtain ⟨lh,ik,il,lj⟩:=a6.cz (j:=4) rfl (aD.mono a4.ag) (i:=af (U - 1)) gw
 obtain rfl:=dW ik
 have im:=dw gw
 have ir:=a6.bL (j:=4) rfl (aD.mono a4.ag) im
 have ll:(baseOf J).block<ch:=dG (cj.1 _ (List.mem_of_getElem? (i:=4) rfl)) ir
 refine du rfl rfl rfl (by show (baseOf J).block<_;omega) (aB (v:=V eO.aC) trivial) (bK (w:=V eO.aC) il rfl (by kernel_rfl)) trivial<|yq 1 [(117,Pt aJ 1),(116,V eO.aC),(107, .bool true),(0,Pt I 0),(3,Pt aJ 0),(5,V ad),(6,V U),(7, .bool true)] ?_
 have ln:aJ<ch:=cj.1 _ (List.mem_of_getElem? (i:=5) rfl) _ (by simp [Itm.ids])
 refine aU (v:=V bw.aC) rfl rfl rfl (by show aJ<_;omega) (aB (v:=V bw.aC) trivial) (a6.aP (i:=5) rfl (by kernel_rfl)) trivial ?_
 rcases ifs aW with ⟨eP,aW⟩ | ⟨eP,aW⟩
 refine aF rfl rfl (br rfl rfl (eU eP))<|yq 5 [(124,Pt I 4),(121, .bool true),(0,Pt I 0),(3,Pt aJ 0),(5,V ad),(6,V U),(7, .bool true)] ?_
 have lo:I<ch:=cj.1 _ (List.mem_of_getElem? (i:=0) rfl) _ (by simp [Itm.ids])
 refine aU (v:=J) rfl rfl rfl (by show I<_;omega) (aB (v:=J) (a6.dk (i:=4) rfl)) (a6.aP (i:=0) rfl (by kernel_rfl)) trivial<|yq 2 [(127,V (af (U - 1))),(125,J),(121, .bool true),(0,Pt I 0),(3,Pt aJ 0),(5,V ad),(6,V U),(7, .bool true)] ?_
 obtain ⟨gx,aW⟩:=aK aW
 refine aF rfl rfl (bG rfl rfl (by kernel_rfl:slTy _ _=some (aa ar)) (a6.bL (j:=4) rfl (aD.mono a4.ag) (by omega)) gx.1 gx.2)<|yq 1 [(129, .pointer (some (bh J (af (U - 1)) (aa ar) 1))),(121, .bool true),(0,Pt I 0),(3,Pt aJ 0),(5,V ad),(6,V U),(7, .bool true)] ?_
 obtain ⟨gy,gz,aW⟩:=ai aW
 obtain ⟨lq,iu,iv,lr⟩:=a6.cz (j:=4) rfl (aD.mono a4.ag) (i:=af (U - 1)) gz
 obtain rfl:=dW iu
 have iw:=dw gz
 have ix:=a6.bL (j:=4) rfl (aD.mono a4.ag) iw
 have lu:(baseOf J).block<ch:=dG (cj.1 _ (List.mem_of_getElem? (i:=4) rfl)) ix
 refine du rfl rfl rfl (by show (baseOf J).block<_;omega) (aB (v:=V gy.Kind) trivial) (bK (w:=V gy.Kind) iv rfl (by kernel_rfl)) trivial ?_
 rcases ifs aW with ⟨eQ,aW⟩ | ⟨eQ,aW⟩
 refine aF rfl rfl (br rfl rfl (eU eQ))<|ye 2 [(91, .bool true),(0,Pt I 0),(3,Pt aJ 0),(5,V ad),(6,V U),(7, .bool true)] ?_
 have iy:=a6.a5
 obtain rfl:=si aW
 exact ⟨_,bw,true,aJ,rfl,(by kernel_rfl),iy⟩
 refine aF rfl rfl (br rfl rfl (eT eQ))<|ye 2 [(91, .bool false),(0,Pt I 0),(3,Pt aJ 0),(5,V ad),(6,V U),(7, .bool true)] ?_
 have iz:=a6.a5
 obtain rfl:=si aW
 exact ⟨_,bw,false,aJ,rfl,(by kernel_rfl),iz⟩
 refine aF rfl rfl (br rfl rfl (eT eP))<|ye 14 [(91, .bool false),(0,Pt I 0),(3,Pt aJ 0),(5,V ad),(6,V U),(7, .bool true)] ?_
 have iA:=a6.a5
 obtain rfl:=si aW
 exact ⟨_,bw,false,aJ,rfl,(by kernel_rfl),iA⟩
 refine aF rfl rfl (br rfl rfl (eT eN))<|ye 28 [(91, .bool false),(0,Pt I 0),(3,Pt aJ 0),(5,V ad),(6,V U),(7, .bool true)] ?_
 have iB:=a6.a5
 obtain rfl:=si aW
 exact ⟨_,bw,false,aJ,rfl,(by kernel_rfl),iB⟩
 refine aF rfl trivial (br rfl rfl (lb eL))<|ye 40 [(91, .bool false),(0,Pt I 0),(3,Pt aJ 0),(5,V ad),(6,V U),(7, .bool true)] ?_
 have iC:=a6.a5
 obtain rfl:=si aW
 exact ⟨_,bw,false,aJ,rfl,(by kernel_rfl),iC⟩
 refine ea AT dm ?_
 intro eR lv eS bQ
 refine yq 1 [(64,V U),(0,Pt I 0),(3,Pt a9 0),(5,V ad),(6,V U),(7, .bool true)] ?_
 rcases ifs bg with ⟨eV,bg⟩ | ⟨eV,bg⟩
 refine aF rfl trivial (br rfl rfl (jC eV))<|yq 4 [(69,Pt I 4),(66, .bool true),(0,Pt I 0),(3,Pt a9 0),(5,V ad),(6,V U),(7, .bool true)] ?_
 have lx:I<eR:=eS.1 _ (List.mem_of_getElem? (i:=0) rfl) _ (by simp [Itm.ids])
 refine aU (v:=J) rfl rfl rfl (by show I<_;omega) (aB (v:=J) (bQ.dk (i:=4) rfl)) (bQ.aP (i:=0) rfl (by kernel_rfl)) trivial<|yq 1 [(71,V U),(70,J),(66, .bool true),(0,Pt I 0),(3,Pt a9 0),(5,V ad),(6,V U),(7, .bool true)] ?_
 obtain ⟨gA,bg⟩:=aK bg
 refine aF rfl rfl (bG rfl rfl (by kernel_rfl:slTy _ _=some (aa ar)) (bQ.bL (j:=4) rfl (aD.mono dm.ag) (by omega)) gA.1 gA.2)<|yq 1 [(73, .pointer (some (bh J U (aa ar) 2))),(66, .bool true),(0,Pt I 0),(3,Pt a9 0),(5,V ad),(6,V U),(7, .bool true)] ?_
 obtain ⟨eW,gC,bg⟩:=ai bg
 obtain ⟨ly,iD,iE,lz⟩:=bQ.cz (j:=4) rfl (aD.mono dm.ag) (i:=U) gC
 obtain rfl:=dW iD
 have iF:=dw gC
 have iG:=bQ.bL (j:=4) rfl (aD.mono dm.ag) iF
 have lA:(baseOf J).block<eR:=dG (eS.1 _ (List.mem_of_getElem? (i:=4) rfl)) iG
 refine du rfl rfl rfl (by show (baseOf J).block<_;omega) (aB (v:=V eW.aC) trivial) (bK (w:=V eW.aC) iE rfl (by kernel_rfl)) trivial<|yq 1 [(75,Pt a9 1),(74,V eW.aC),(66, .bool true),(0,Pt I 0),(3,Pt a9 0),(5,V ad),(6,V U),(7, .bool true)] ?_
 have lB:a9<eR:=eS.1 _ (List.mem_of_getElem? (i:=5) rfl) _ (by simp [Itm.ids])
 refine aU (v:=V bO.aC) rfl rfl rfl (by show a9<_;omega) (aB (v:=V bO.aC) trivial) (bQ.aP (i:=5) rfl (by kernel_rfl)) trivial ?_
 rcases ifs bg with ⟨eX,bg⟩ | ⟨eX,bg⟩
 refine aF rfl rfl (br rfl rfl (eU eX))<|yq 3 [(80,V ad),(79, .bool true),(0,Pt I 0),(3,Pt a9 0),(5,V ad),(6,V U),(7, .bool true)] ?_
 rcases ifs bg with ⟨eY,bg⟩ | ⟨eY,bg⟩
 refine aF rfl rfl (br rfl rfl (eU eY))<|ye 2 [(63, .bool true),(0,Pt I 0),(3,Pt a9 0),(5,V ad),(6,V U),(7, .bool true)] ?_
 have iH:=bQ.a5
 obtain rfl:=si bg
 exact ⟨_,bO,true,a9,rfl,(by kernel_rfl),iH⟩
 refine aF rfl rfl (br rfl rfl (eT eY))<|ye 2 [(63, .bool false),(0,Pt I 0),(3,Pt a9 0),(5,V ad),(6,V U),(7, .bool true)] ?_
 have iI:=bQ.a5
 obtain rfl:=si bg
 exact ⟨_,bO,false,a9,rfl,(by kernel_rfl),iI⟩
 refine aF rfl rfl (br rfl rfl (eT eX))<|ye 6 [(63, .bool false),(0,Pt I 0),(3,Pt a9 0),(5,V ad),(6,V U),(7, .bool true)] ?_
 have iJ:=bQ.a5
 obtain rfl:=si bg
 exact ⟨_,bO,false,a9,rfl,(by kernel_rfl),iJ⟩
 refine aF rfl trivial (br rfl rfl (jf eV))<|ye 18 [(63, .bool false),(0,Pt I 0),(3,Pt a9 0),(5,V ad),(6,V U),(7, .bool true)] ?_
 have iK:=bQ.a5
 obtain rfl:=si bg
 exact ⟨_,bO,false,a9,rfl,(by kernel_rfl),iK⟩
 refine ea Ag cl ?_
 intro dp lC dq bp
 refine yq 1 [(36,V U),(7, .bool true),(0,Pt I 0),(3,Pt aY 0),(5,V ad),(6,V U)] ?_
 rcases ifs a7 with ⟨eZ,a7⟩ | ⟨eZ,a7⟩
 refine aF rfl trivial (br rfl rfl (jC eZ))<|yq 4 [(41,Pt I 4),(38, .bool true),(7, .bool true),(0,Pt I 0),(3,Pt aY 0),(5,V ad),(6,V U)] ?_
 have lD:I<dp:=dq.1 _ (List.mem_of_getElem? (i:=0) rfl) _ (by simp [Itm.ids])
 refine aU (v:=J) rfl rfl rfl (by show I<_;omega) (aB (v:=J) (bp.dk (i:=4) rfl)) (bp.aP (i:=0) rfl (by kernel_rfl)) trivial<|yq 1 [(43,V U),(42,J),(38, .bool true),(7, .bool true),(0,Pt I 0),(3,Pt aY 0),(5,V ad),(6,V U)] ?_
 obtain ⟨gD,a7⟩:=aK a7
 refine aF rfl rfl (bG rfl rfl (by kernel_rfl:slTy _ _=some (aa ar)) (bp.bL (j:=4) rfl (aD.mono cl.ag) (by omega)) gD.1 gD.2)<|yq 1 [(45, .pointer (some (bh J U (aa ar) 2))),(38, .bool true),(7, .bool true),(0,Pt I 0),(3,Pt aY 0),(5,V ad),(6,V U)] ?_
 obtain ⟨e0,gE,a7⟩:=ai a7
 obtain ⟨lE,iL,iM,lF⟩:=bp.cz (j:=4) rfl (aD.mono cl.ag) (i:=U) gE
 obtain rfl:=dW iL
 have iN:=dw gE
 have iO:=bp.bL (j:=4) rfl (aD.mono cl.ag) iN
 have lG:(baseOf J).block<dp:=dG (dq.1 _ (List.mem_of_getElem? (i:=4) rfl)) iO
 refine du rfl rfl rfl (by show (baseOf J).block<_;omega) (aB (v:=V e0.aC) trivial) (bK (w:=V e0.aC) iM rfl (by kernel_rfl)) trivial<|yq 1 [(47,Pt aY 1),(46,V e0.aC),(38, .bool true),(7, .bool true),(0,Pt I 0),(3,Pt aY 0),(5,V ad),(6,V U)] ?_
 have lH:aY<dp:=dq.1 _ (List.mem_of_getElem? (i:=5) rfl) _ (by simp [Itm.ids])
 refine aU (v:=V bS.aC) rfl rfl rfl (by show aY<_;omega) (aB (v:=V bS.aC) trivial) (bp.aP (i:=5) rfl (by kernel_rfl)) trivial ?_
 rcases ifs a7 with ⟨e2,a7⟩ | ⟨e2,a7⟩
 refine aF rfl rfl (br rfl rfl (eU e2))<|yq 5 [(54,Pt I 4),(51, .bool true),(7, .bool true),(0,Pt I 0),(3,Pt aY 0),(5,V ad),(6,V U)] ?_
 have lI:I<dp:=dq.1 _ (List.mem_of_getElem? (i:=0) rfl) _ (by simp [Itm.ids])
 refine aU (v:=J) rfl rfl rfl (by show I<_;omega) (aB (v:=J) (bp.dk (i:=4) rfl)) (bp.aP (i:=0) rfl (by kernel_rfl)) trivial<|yq 1 [(56,V U),(55,J),(51, .bool true),(7, .bool true),(0,Pt I 0),(3,Pt aY 0),(5,V ad),(6,V U)] ?_
 obtain ⟨gF,a7⟩:=aK a7
 refine aF rfl rfl (bG rfl rfl (by kernel_rfl:slTy _ _=some (aa ar)) (bp.bL (j:=4) rfl (aD.mono cl.ag) (by omega)) gF.1 gF.2)<|yq 1 [(58, .pointer (some (bh J U (aa ar) 1))),(51, .bool true),(7, .bool true),(0,Pt I 0),(3,Pt aY 0),(5,V ad),(6,V U)] ?_
 obtain ⟨e3,gG,a7⟩:=ai a7
 obtain ⟨lJ,iP,iQ,lK⟩:=bp.cz (j:=4) rfl (aD.mono cl.ag) (i:=U) gG
 obtain rfl:=dW iP
 have iR:=dw gG
 have iS:=bp.bL (j:=4) rfl (aD.mono cl.ag) iR
 have lL:(baseOf J).block<dp:=dG (dq.1 _ (List.mem_of_getElem? (i:=4) rfl)) iS
 refine du rfl rfl rfl (by show (baseOf J).block<_;omega) (aB (v:=V e3.Kind) trivial) (bK (w:=V e3.Kind) iQ rfl (by kernel_rfl)) trivial<|yq 1 [(60,V ad),(59,V e3.Kind),(51, .bool true),(7, .bool true),(0,Pt I 0),(3,Pt aY 0),(5,V ad),(6,V U)] ?_
 rcases ifs a7 with ⟨e4,a7⟩ | ⟨e4,a7⟩
 refine aF rfl rfl (br rfl rfl (eU e4))<|ye 2 [(35, .bool true),(7, .bool true),(0,Pt I 0),(3,Pt aY 0),(5,V ad),(6,V U)] ?_
 have iU:=bp.a5
 obtain rfl:=si a7
 exact ⟨_,bS,true,aY,rfl,(by kernel_rfl),iU⟩
 refine aF rfl rfl (br rfl rfl (eT e4))<|ye 2 [(35, .bool false),(7, .bool true),(0,Pt I 0),(3,Pt aY 0),(5,V ad),(6,V U)] ?_
 have iV:=bp.a5
 obtain rfl:=si a7
 exact ⟨_,bS,false,aY,rfl,(by kernel_rfl),iV⟩
 refine aF rfl rfl (br rfl rfl (eT e2))<|ye 14 [(35, .bool false),(7, .bool true),(0,Pt I 0),(3,Pt aY 0),(5,V ad),(6,V U)] ?_
 have iW:=bp.a5
 obtain rfl:=si a7
 exact ⟨_,bS,false,aY,rfl,(by kernel_rfl),iW⟩
 refine aF rfl trivial (br rfl rfl (jf eZ))<|ye 26 [(35, .bool false),(7, .bool true),(0,Pt I 0),(3,Pt aY 0),(5,V ad),(6,V U)] ?_
 have iX:=bp.a5
 obtain rfl:=si a7
 exact ⟨_,bS,false,aY,rfl,(by kernel_rfl),iX⟩
 refine bk 0<|lp [0,3,5,6] (fun n l h=>∃ gH ck bt bd bj,correctorref12_parser_place_l0 F a0 a1 n ck bt bd=some eb∧l=[(0,Pt I 0),(3,Pt bj 0),(5,V bt),(6,V bd)]∧St hs (aR [.ae I [Pt ab 0,v11,V a0.Doc, .bool a0.az,J,V a0.av,V a0.Read], .ae ab (ax v4 v6 ao a0.R), .gs ao aE (aa aj), .gs v11 aG (aa an), .gs J aL (aa ar)]) Z (0,0) gH h [.ae I [Pt ab 0,v11,V a0.Doc, .bool a0.az,J,V a0.av,V a0.Read], .ae ab (ax v4 v6 ao a0.R), .gs ao aE (aa aj), .gs v11 aG (aa an), .gs J aL (aa ar), .ae bj (et ck)]) F ⟨_,ds,dt,af ((a0.S.length:Int) - 1),dx,bf,(by kernel_rfl),dy⟩ ?_
 rintro e5 l lM ⟨gH,ck,bt,bd,bj,bf,rfl,dX⟩
 rcases e5 with _ | e5
 cases (show none=some eb from bf)
 rw [correctorref12_parser_place_l0] at bf
 refine sq<|cT Bg dX ?_
 intro e6 lN e7 b8
 refine yq 1 [(18,V bd),(0,Pt I 0),(3,Pt bj 0),(5,V bt),(6,V bd)] ?_
 rcases ifs bf with ⟨e8,bf⟩ | ⟨e8,bf⟩
 refine aF rfl trivial (br rfl rfl (jC e8))<|yq 4 [(23,Pt I 4),(20, .bool true),(0,Pt I 0),(3,Pt bj 0),(5,V bt),(6,V bd)] ?_
 have lO:I<e6:=e7.1 _ (List.mem_of_getElem? (i:=0) rfl) _ (by simp [Itm.ids])
 refine aU (v:=J) rfl rfl rfl (by show I<_;omega) (aB (v:=J) (b8.dk (i:=4) rfl)) (b8.aP (i:=0) rfl (by kernel_rfl)) trivial<|yq 1 [(25,V bd),(24,J),(20, .bool true),(0,Pt I 0),(3,Pt bj 0),(5,V bt),(6,V bd)] ?_
 obtain ⟨gI,bf⟩:=aK bf
 refine aF rfl rfl (bG rfl rfl (by kernel_rfl:slTy _ _=some (aa ar)) (b8.bL (j:=4) rfl (aD.mono dX.ag) (by omega)) gI.1 gI.2)<|yq 1 [(27, .pointer (some (bh J bd (aa ar) 2))),(20, .bool true),(0,Pt I 0),(3,Pt bj 0),(5,V bt),(6,V bd)] ?_
 obtain ⟨e9,gJ,bf⟩:=ai bf
 obtain ⟨lP,iY,iZ,lQ⟩:=b8.cz (j:=4) rfl (aD.mono dX.ag) (i:=bd) gJ
 obtain rfl:=dW iY
 have ja:=dw gJ
 have jb:=b8.bL (j:=4) rfl (aD.mono dX.ag) ja
 have lR:(baseOf J).block<e6:=dG (e7.1 _ (List.mem_of_getElem? (i:=4) rfl)) jb
 refine du rfl rfl rfl (by show (baseOf J).block<_;omega) (aB (v:=V e9.aC) trivial) (bK (w:=V e9.aC) iZ rfl (by kernel_rfl)) trivial<|yq 1 [(29,Pt bj 1),(28,V e9.aC),(20, .bool true),(0,Pt I 0),(3,Pt bj 0),(5,V bt),(6,V bd)] ?_
 have lS:bj<e6:=e7.1 _ (List.mem_of_getElem? (i:=5) rfl) _ (by simp [Itm.ids])
 refine aU (v:=V ck.aC) rfl rfl rfl (by show bj<_;omega) (aB (v:=V ck.aC) trivial) (b8.aP (i:=5) rfl (by kernel_rfl)) trivial ?_
 rcases ifs bf with ⟨fa,bf⟩ | ⟨fa,bf⟩
 refine aF rfl rfl (br rfl rfl (l0 fa))<|ye 1 [(32, .bool true),(0,Pt I 0),(3,Pt bj 0),(5,V bt),(6,V bd)] ?_
 have jd:=b8.a5
 refine dT<|sk<|bk 1<|gp 3 ?_
 exact ⟨e5,Nat.lt_succ_self _,⟨_,ck,bt,af (bd - 1),bj,bf,(by kernel_rfl),jd⟩⟩
 refine aF rfl rfl (br rfl rfl (lb fa))<|ye 1 [(32, .bool false),(0,Pt I 0),(3,Pt bj 0),(5,V bt),(6,V bd)] ?_
 have je:=b8.a5
 refine dF<|xt 0<|aN ?_
 obtain rfl:=si bf
 exact ⟨_,ck,bt,bd,bj,rfl,(by kernel_rfl),je⟩
 refine aF rfl trivial (br rfl rfl (jf e8))<|ye 13 [(32, .bool false),(0,Pt I 0),(3,Pt bj 0),(5,V bt),(6,V bd)] ?_
 have jg:=b8.a5
 refine dF<|xt 0<|aN ?_
 obtain rfl:=si bf
 exact ⟨_,ck,bt,bd,bj,rfl,(by kernel_rfl),jg⟩
 refine s0<|aA 1 0 (.bool a1.ig) dY rfl<|xn 0<|db dr ?_ ?_<;>intro lT dr
 refine gp 1 ?_
 obtain rfl:=si dr
 exact ⟨_,a1,3,fi,rfl,(by kernel_rfl),((((((dY.front 0 rfl).front 5 rfl).front 5 rfl).front 5 rfl).front 5 rfl).front 5 rfl)⟩
 refine sk ?_
 obtain rfl:=si dr
 exact ⟨_,a1,5,fi,rfl,(by kernel_rfl),((((((dY.front 0 rfl).front 5 rfl).front 5 rfl).front 5 rfl).front 5 rfl).front 5 rfl)⟩
def z5:List bq:=[uP 27 (mv 0),uP 28 (nk 27),uP 29 (fa 61 28 0),uL 30 (ld 55 29),uP 31 (nk 30),uP 32 (fa 58 31 0),uL 33 (ld 24 32),uL 34 (ld 63 3),uF 35 (cf 70 #[(t 33),(t 34)] #[24,63]) .make [3,6,7],uP 26 (mv 35),uP 36 (.extract (t 26) 0),uP 37 (.extract (t 26) 1),uP 6 (sg 36),uP 7 (sg 37)]
def y1:List bq:=[uP 62 (mv 0),uP 63 (nk 62),uP 64 (fa 61 63 0),uL 65 (ld 55 64),uP 66 (mv 8),uP 67 (mv 6),uP 68 (mv 9),uP 69 (ia 106 67 68),uP 70 (fa 112 69 2),uL 71 (ld 3 70),uP 72 (mv 5),uP 73 (mv 10),uF 74 (cf 46 #[(t 65),(t 66),(t 71),(t 72),(t 73)] #[55,3,3,3,3]) .make [3,9]]
def y9:List bq:=[uP 75 (mv 0),uP 76 (nk 75),uP 77 (fa 61 76 4),uL 78 (ld 59 77),uP 79 (mv 0),uP 80 (nk 79),uP 81 (fa 61 80 4),uL 82 (ld 59 81),uP 83 (cb .len #[(t 82)] #[59]),uP 84 (bc .sub 3 83 1 3),uP 85 (ia 59 78 84),uP 86 (fa 114 85 3),uL 87 (ld 3 86),uP 8 (sg 87)]
def y6:List bq:=[uP 105 (mv 0),uP 106 (nk 105),uP 107 (fa 61 106 4),uL 108 (ld 59 107),uP 109 (mv 13),uP 110 (mv 0),uP 111 (mv 0),uP 112 (nk 111),uP 113 (fa 61 112 4),uL 114 (ld 59 113),uP 115 (mv 13),uP 116 (ia 59 114 115),uP 117 (fa 114 116 3),uL 118 (ld 3 117),uP 119 (mv 11),uF 120 (cf 68 #[(t 110),(t 118),(t 119)] #[54,3,3]) .make [9,13],uP 121 (ia 59 108 109),uP 122 (fa 114 121 4),oF (.store 4 (t 122) (t 120)) .make [3,9,13]]
def zV:List bq:=[uP 41 (mv 0),uP 42 (nk 41),uP 43 (fa 61 42 0),uL 44 (ld 55 43),uP 45 (mv 0),uF 46 (cf 47 #[(t 45)] #[54]) .make [],uP 47 (mv 4),uP 48 (mv 5),uF 49 (cf 46 #[(t 44),(t 46),(t 47),(t 48),(ci 8)] #[55,3,3,3,3]) .make [3]]
def m2 (F:Nat) (a0:aS) (a1:an):Option aS:=
 (g1 F a0 a1.ah a1.To).bind fun j=>
 if 0≤j.1∧j.1<(a0.R.L.length:Int) then
  (a0.R.L[j.1.toNat]?).bind fun aj=>
  if aj.Kind=(20:Int) then
   (eg F a0.R 0 2 j.1 (af (j.1+1))).bind fun I=>
   (g1 F (⟨I.2,a0.Rows,I.1,false,[],a0.av,a0.Read⟩:aS) (af (j.1+1)) a1.To).bind fun aa=>
   ((if aa.1<aa.2 then
     (ja F (⟨I.2,a0.Rows,I.1,false,[],a0.av,a0.Read⟩:aS) I.1 aa.1).bind fun J=>
     some (J.2.R,J.2.Rows,J.2.Doc,J.1,J.2.S,J.2.av,J.2.Read)
    else
     some (I.2,a0.Rows,I.1,false,[],a0.av,a0.Read)):Option (aJ×(List an)×Int×Bool×(List ar)×Int×Int)).bind fun o=>match o with
    | (al,ao,aq,au,aw,ax,ay)=>some (⟨al,ao,aq,au,aw,ax,ay⟩:aS)
  else
   ((if (0:Int)≤a0.Doc then
     (h6 F a0.R.T a0.Doc (af (j.1+1))).bind fun aA=>
     some ((⟨a0.R.L,aA,a0.R.D,a0.R.End⟩:aJ),a0.Rows,a0.Doc,a0.az,a0.av,a0.Read)
    else
     some (a0.R,a0.Rows,a0.Doc,a0.az,a0.av,a0.Read)):Option (aJ×(List an)×Int×Bool×Int×Int)).bind fun o=>match o with
    | (ab,ad,aC,ae,ag,ai)=>(g1 F (⟨ab,ad,(-1),ae,[],ag,ai⟩:aS) (af (j.1+1)) j.2).bind fun U=>
    if U.1<U.2 then
     (dM F ab 0 U.1 U.2 8).bind fun aB=>
     some (⟨aB.2,ad,(-1),ae,[],ag,ai⟩:aS)
    else
     some (⟨ab,ad,(-1),ae,[],ag,ai⟩:aS)
 else none
theorem wS (F:Nat) {h:AH} {Z:Zn} {a0:aS} {a1:an} {I j v4 v6 J ay v11 au ab aw} (hP:Pre Z h [.ae I [Pt j 0,v11,V a0.Doc, .bool a0.az,ab,V a0.av,V a0.Read], .ae j (ax v4 v6 J a0.R), .gs J ay (aa aj), .gs v11 au (aa an), .gs ab aw (aa ar)]) (aI:RS (α:=ak) Z v4 a0.R.L) (a4:RS (α:=aq) Z v6 a0.R.T.al) (bh:RCs (α:=aj) Z ay a0.R.D) (aK:RCs (α:=an) Z au a0.Rows) (cj:RCs (α:=ar) Z aw a0.S) {r:aS} (hm:m2 F a0 a1=some r):
  bX Try.prog 42 [Pt I 0, .agg #[V a1.Kind,V a1.ah,V a1.To,V a1.aC]] h Z [.ae I [Pt j 0,v11,V a0.Doc, .bool a0.az,ab,V a0.av,V a0.Read], .ae j (ax v4 v6 J a0.R), .gs J ay (aa aj), .gs v11 au (aa an), .gs ab aw (aa ar)] fun v Z' A'=>∃ b2 b3 b4 b5 b6 b7 b8, .tuple #[]=v∧A'=[.ae I [Pt j 0,v11,V r.Doc, .bool r.az,b7,V r.av,V r.Read], .ae j (ax b2 b3 b4 r.R), .gs b4 b5 (aa aj), .gs v11 b6 (aa an), .gs b7 b8 (aa ar)]∧RS (α:=ak) Z' b2 r.R.L∧RS (α:=aq) Z' b3 r.R.T.al∧RCs (α:=aj) Z' b5 r.R.D∧RCs (α:=an) Z' b6 r.Rows∧RCs (α:=ar) Z' b8 r.S:=by
 refine cm Try.func42 hP ?_
 intro hs hS
 unfold m2 at hm
 refine s0<|df 0 [V a1.Kind,V a1.ah,V a1.To,V a1.aC] hS ?_
 intro bj dI bI
 refine xn 0<|s0<|aA 2 0 (V a1.ah) bI rfl<|aA 1 0 (V a1.To) bI rfl ?_
 obtain ⟨U,ck,hm⟩:=ai hm
 refine cE 0 bI (fun dJ a7 cl a9=>kv F cl (RS.mono a7 aI) (RS.mono a7 a4) (bf.row (a9 _ (List.mem_of_getElem? (i:=3) rfl)) a7 bh) (a9 _ (List.mem_of_getElem? (i:=2) rfl)) (bf.row (a9 _ (List.mem_of_getElem? (i:=4) rfl)) a7 aK) (bf.row (a9 _ (List.mem_of_getElem? (i:=5) rfl)) a7 cj) (a9 _ (List.mem_of_getElem? (i:=1) rfl)) ck) ?_
 rintro _ dK cn rfl
 refine xn 5<|s0<|bB 3 1 (.slice none 0 0) [.slice none 0 0] [Pt j 0,v11,V a0.Doc, .bool a0.az, .slice none 0 0,V a0.av,V a0.Read] cn rfl rfl rfl ?_
 intro dL aE
 refine xn 0<|sq<|s0<|aA 3 1 (Pt j 0) aE rfl<|aA 2 2 v4 aE rfl<|a6 1 hm aI ?_
 intro dM hm
 refine bp 1 0 (fun b9=>V b9.Kind) hm aI aE ?_
 intro b9 dN hm
 refine aD 0 hm ?_ ?_<;>intro dO hm
 refine xn 0<|dT<|s0<|aA 4 1 (Pt j 0) aE rfl ?_
 obtain ⟨ad,cp,hm⟩:=ai hm
 have cq:St _ _ _ _ _ _ ([.ae j (ax v4 v6 J a0.R), .gs J ay (aa aj)]++[.ae bj (cy a1), .ae I [Pt j 0,v11,V a0.Doc, .bool a0.az, .slice none 0 0,V a0.av,V a0.Read], .gs v11 au (aa an), .gs ab aw (aa ar)]):=((aE.front 3 rfl).front 3 rfl)
 refine cB 3 cq (fun p=>fL F p aI a4 bh cp) ?_
 rintro _ dP dQ _ bJ ct ⟨ca,cb,cd,rfl,rfl,bK,bL,bM⟩
 refine bB 2 3 (V ad.1) [V ad.1] [Pt j 0,v11,V ad.1, .bool a0.az, .slice none 0 0,V a0.av,V a0.Read] ct rfl rfl rfl ?_
 intro dR cu
 refine xn 0<|s0<|bB 3 3 (.bool false) [.bool false] [Pt j 0,v11,V ad.1, .bool false, .slice none 0 0,V a0.av,V a0.Read] cu rfl rfl rfl ?_
 intro dS cf
 refine xn 0<|s0<|aA 4 2 (V a1.To) cf rfl ?_
 obtain ⟨dU,cx,hm⟩:=ai hm
 refine cE 0 cf (fun dV bk cz bl=>kv F (a0:=(⟨ad.2,a0.Rows,ad.1,false,[],a0.av,a0.Read⟩:aS)) cz (RS.mono bk bK) (RS.mono bk bL) (bf.row (bl _ (List.mem_of_getElem? (i:=1) rfl)) bk bM) (bl _ (List.mem_of_getElem? (i:=0) rfl)) (bf.row (bl _ (List.mem_of_getElem? (i:=4) rfl)) bk (aK.mono bJ)) (RS.bA _) (bl _ (List.mem_of_getElem? (i:=3) rfl)) cx) ?_
 rintro _ dW bN rfl
 refine xn 5<|sq ?_
 obtain ⟨cA,aL,hm⟩:=ai hm
 refine ec [] (fun l h=>∃ aG aM bO bP bQ bR bS bT bm bn bo br bt bu bw,(aM,bO,bP,bQ,bR,bS,bT)=cA∧RS (α:=ak) aG bm aM.L∧RS (α:=aq) aG bn aM.T.al∧RCs (α:=aj) aG br aM.D∧RCs (α:=an) aG bt bO∧RCs (α:=ar) aG bw bR∧l=[]∧St hs (aR [.ae I [Pt j 0,v11,V a0.Doc, .bool a0.az,ab,V a0.av,V a0.Read], .ae j (ax v4 v6 J a0.R), .gs J ay (aa aj), .gs v11 au (aa an), .gs ab aw (aa ar)]) Z (0,0) aG h [.gs ab aw (aa ar), .ae I [Pt j 0,v11,V bP, .bool bQ,bu,V bS,V bT], .ae j (ax bm bn bo aM), .gs bo br (aa aj), .gs v11 bt (aa an), .gs bu bw (aa ar)]) (by kernel_rfl) ?_ ?_
 rintro l dX ⟨aG,aM,bO,bP,bQ,bR,bS,bT,bm,bn,bo,br,bt,bu,bw,rfl,cC,cF,cG,cH,cI,rfl,cJ⟩
 try dsimp only at hm
 refine rt<|⟨rfl,?_⟩
 obtain rfl:=si hm
 refine ⟨_,_,_,ResL.nil,((((((cJ.front 5 rfl).front 5 rfl).front 5 rfl).front 5 rfl).front 5 rfl).takeN 5),?_⟩
 exact ⟨bm,bn,bo,br,bt,bu,bw,rfl,rfl,cC,cF,cG,cH,cI⟩
 refine g0<|aO 2 aL ?_ ?_<;>intro dY aL
 refine xn 0<|dT<|g0<|aA 5 3 (V ad.1) bN rfl ?_
 have cK:=bN.dE (aa ar)
 obtain ⟨ao,cL,aL⟩:=ai aL
 have cM:St _ _ _ _ _ _ ([.ae I [Pt j 0,v11,V ad.1, .bool false, .slice none 0 0,V a0.av,V a0.Read], .ae j (ax ca cb J ad.2), .gs J cd (aa aj), .gs v11 au (aa an), .gs (.slice none 0 0) [] (aa ar)]++[.ae bj (cy a1), .gs ab aw (aa ar)]):=(((((cK.front 0 rfl).front 5 rfl).front 3 rfl).front 3 rfl).front 5 rfl)
 refine cB 1 cM (fun p=>n6 F (a0:=(⟨ad.2,a0.Rows,ad.1,false,[],a0.av,a0.Read⟩:aS)) p bK bL bM (aK.mono bJ) (RCs.bA _) cL) ?_
 rintro _ dZ eb _ ed cN ⟨cP,cR,cS,cT,cU,cZ,rfl,rfl,c0,c3,c5,c6,c7⟩
 refine bB 2 0 (.bool ao.1) [.bool ao.1] [Pt j 0,v11,V ao.2.Doc, .bool ao.1,(.slice none 0 0),V ao.2.av,V ao.2.Read] cN rfl rfl rfl ?_
 intro ee c8
 refine xn 0 ?_
 obtain rfl:=si aL
 exact ⟨_,ao.2.R,ao.2.Rows,ao.2.Doc,ao.1,ao.2.S,ao.2.av,ao.2.Read,cP,cR,cS,cT,cU,(.slice none 0 0),cZ,rfl,c0,c3,c5,c6,c7,(by kernel_rfl),(((((((c8.front 4 rfl).front 4 rfl).front 4 rfl).front 4 rfl).front 4 rfl).front 6 rfl).takeN 6)⟩
 refine xn 0<|dF<|sk ?_
 have c9:=bN.dE (aa ar)
 obtain rfl:=si aL
 exact ⟨_,ad.2,a0.Rows,ad.1,false,[],a0.av,a0.Read,ca,cb,J,cd,au,(.slice none 0 0),[],rfl,bK,bL,bM,(aK.mono bJ),(RCs.bA _),(by kernel_rfl),(((((((c9.front 0 rfl).front 5 rfl).front 3 rfl).front 3 rfl).front 5 rfl).front 6 rfl).takeN 6)⟩
 refine xn 0<|dF<|sk<|sq ?_
 obtain ⟨da,aN,hm⟩:=ai hm
 refine aH [0,4,5] (fun l h=>∃ aW aF bx bU aX aY aZ ba bb bc a2,(aF,bx,bU,aX,aY,aZ)=da∧RS (α:=ak) aW ba aF.L∧RS (α:=aq) aW bb aF.T.al∧RCs (α:=aj) aW bc aF.D∧RCs (α:=an) aW a2 bx∧l=[(0,Pt I 0),(4,V U.1),(5,V U.2)]∧St hs (aR [.ae I [Pt j 0,v11,V a0.Doc, .bool a0.az,ab,V a0.av,V a0.Read], .ae j (ax v4 v6 J a0.R), .gs J ay (aa aj), .gs v11 au (aa an), .gs ab aw (aa ar)]) Z (0,0) aW h [.gs ab aw (aa ar), .ae I [Pt j 0,v11,V bU, .bool aX, .slice none 0 0,V aY,V aZ], .ae j (ax ba bb J aF), .gs J bc (aa aj), .gs v11 a2 (aa an)]) ?_ ?_
 rintro l eg ⟨aW,aF,bx,bU,aX,aY,aZ,ba,bb,bc,a2,rfl,bV,bW,bY,bZ,rfl,db⟩
 try dsimp only at hm
 refine s0<|bB 3 1 (V (-1)) [V (-1)] [Pt j 0,v11,V (-1), .bool aX, .slice none 0 0,V aY,V aZ] db rfl rfl rfl ?_
 intro eh dc
 refine xn 0<|s0 ?_
 obtain ⟨ei,dd,hm⟩:=ai hm
 refine cE 4 dc (fun ej bC de bD=>kv F (a0:=(⟨aF,bx,(-1),aX,[],aY,aZ⟩:aS)) de (RS.mono bC bV) (RS.mono bC bW) (bf.row (bD _ (List.mem_of_getElem? (i:=3) rfl)) bC bY) (bD _ (List.mem_of_getElem? (i:=2) rfl)) (bf.row (bD _ (List.mem_of_getElem? (i:=4) rfl)) bC bZ) (RS.bA _) (bD _ (List.mem_of_getElem? (i:=1) rfl)) dd) ?_
 rintro _ ek b0 rfl
 refine xn 5<|s0<|aO 2 hm ?_ ?_<;>intro en hm
 refine xn 0<|dT<|g0<|aA 3 1 (Pt j 0) b0 rfl ?_
 obtain ⟨eo,dh,hm⟩:=ai hm
 have di:St _ _ _ _ _ _ ([.ae j (ax ba bb J aF), .gs J bc (aa aj)]++[.gs ab aw (aa ar), .ae I [Pt j 0,v11,V (-1), .bool aX, .slice none 0 0,V aY,V aZ], .gs v11 a2 (aa an)]):=((b0.front 3 rfl).front 3 rfl)
 refine cB 2 di (fun p=>fk F p bV bW bY dh) ?_
 rintro _ ep er _ dj dk ⟨dm,dn,dp,dq,rfl,rfl,dr,ds,dt⟩
 refine xn 0 ?_
 have du:=dk.dE (aa ar)
 obtain rfl:=si hm
 refine ⟨_,_,_,ResL.nil,((((((du.front 0 rfl).front 5 rfl).front 3 rfl).front 3 rfl).front 5 rfl).takeN 5),?_⟩
 exact ⟨dm,dn,dp,dq,a2,(.slice none 0 0),[],rfl,rfl,dr,ds,dt,(bZ.mono dj),(RCs.bA _)⟩
 refine xn 0<|dF<|sk ?_
 have dw:=b0.dE (aa ar)
 obtain rfl:=si hm
 refine ⟨_,_,_,ResL.nil,((((((dw.front 0 rfl).front 5 rfl).front 5 rfl).front 5 rfl).front 5 rfl).takeN 5),?_⟩
 exact ⟨ba,bb,J,bc,a2,(.slice none 0 0),[],rfl,rfl,bV,bW,bY,bZ,(RCs.bA _)⟩
 refine s0<|aA 3 1 (V a0.Doc) aE rfl<|cv 0 aN ?_ ?_<;>intro et aN
 refine xn 0<|dT<|ea wz aE ?_
 intro bE eu bF a3
 refine yq 3 [(77,Pt I 0),(5,V U.2),(4,V U.1),(0,Pt I 0)] ?_
 have ew:I<bE:=bF.1 _ (List.mem_of_getElem? (i:=1) rfl) _ (by simp [Itm.ids])
 refine aU (v:=Pt j 0) rfl trivial rfl (by show I<_;omega) (aB (v:=Pt j 0) trivial) (a3.aP (i:=1) rfl (by kernel_rfl)) trivial<|yq 3 [(81,Pt I 0),(78,Pt j 0),(5,V U.2),(4,V U.1),(0,Pt I 0)] ?_
 have ey:I<bE:=bF.1 _ (List.mem_of_getElem? (i:=1) rfl) _ (by simp [Itm.ids])
 refine aU (v:=Pt j 0) rfl trivial rfl (by show I<_;omega) (aB (v:=Pt j 0) trivial) (a3.aP (i:=1) rfl (by kernel_rfl)) trivial<|yq 2 [(84,Pt j 1),(78,Pt j 0),(5,V U.2),(4,V U.1),(0,Pt I 0)] ?_
 have eA:j<bE:=bF.1 _ (List.mem_of_getElem? (i:=2) rfl) _ (by simp [Itm.ids])
 refine aU (v:= .agg #[v6]) rfl trivial rfl (by show j<_;omega) (g7 (cs:=[v6]) (.cons (RS.dD a4) .nil)) (a3.aP (i:=2) rfl (by kernel_rfl)) trivial<|yq 3 [(88,Pt I 2),(85, .agg #[v6]),(78,Pt j 0),(5,V U.2),(4,V U.1),(0,Pt I 0)] ?_
 have eB:I<bE:=bF.1 _ (List.mem_of_getElem? (i:=1) rfl) _ (by simp [Itm.ids])
 refine aU (v:=V a0.Doc) rfl trivial rfl (by show I<_;omega) (aB (v:=V a0.Doc) trivial) (a3.aP (i:=1) rfl (by kernel_rfl)) trivial<|yq 2 [(91,V (af (U.1+1))),(89,V a0.Doc),(85, .agg #[v6]),(78,Pt j 0),(5,V U.2),(4,V U.1),(0,Pt I 0)] ?_
 obtain ⟨dx,dy,aN⟩:=ai aN
 have dz:=a3.cD
 have cg:St _ _ _ _ _ _ ([]++[.ae bj (cy a1), .ae I [Pt j 0,v11,V a0.Doc, .bool a0.az, .slice none 0 0,V a0.av,V a0.Read], .ae j (ax v4 v6 J a0.R), .gs J ay (aa aj), .gs v11 au (aa an), .gs ab aw (aa ar)]):=dz
 obtain ⟨eD,eE,eF,eG,dA,b1,bd,rfl,rfl,ch⟩:=rG F cg.ez a4 dy
 have dB:=cg.call b1
 have bG:=b1.ag
 refine eM rfl trivial a3 (cV dA rfl rfl rfl) dB (St.eC b1) ?_
 intro eH dC
 refine yq 2 [(94,Pt j 1),(92, .agg #[bd]),(5,V U.2),(4,V U.1),(0,Pt I 0)] ?_
 have bg:St _ _ _ _ _ _ ([.ae j (ax v4 v6 J a0.R)]++[.ae bj (cy a1), .ae I [Pt j 0,v11,V a0.Doc, .bool a0.az, .slice none 0 0,V a0.av,V a0.Read], .gs J ay (aa aj), .gs v11 au (aa an), .gs ab aw (aa ar)]):=(dC.front 2 rfl)
 refine fM rfl trivial bg (fI (vs:=[bd]) (cr:=(ax v4 bd J a0.R)) (L':=[.ae j (ax v4 bd J a0.R)]) bg.sub (i:=0) rfl rfl rfl rfl (by kernel_rfl) (a8 (RS.cW ch) cc) rfl rfl rfl) bG (.aT (bg.bz 1 rfl bH) (.drop (by decide) (.aT (bg.bz 1 rfl bH) (.aT (bg.bz 1 rfl bH) .nil)))) ?_
 intro eI dG
 refine yf [(5,V U.2),(4,V U.1),(0,Pt I 0)] ?_
 have dH:=dG.a5
 obtain rfl:=si aN
 exact ⟨_,(⟨a0.R.L,dx,a0.R.D,a0.R.End⟩:aJ),a0.Rows,a0.Doc,a0.az,a0.av,a0.Read,v4,bd,ay,au,rfl,(aI.mono bG),ch,(bh.mono bG),(aK.mono bG),(by kernel_rfl),((((((dH.front 4 rfl).front 4 rfl).front 2 rfl).front 4 rfl).front 5 rfl).takeN 5)⟩
 refine xn 0<|dF<|sk ?_
 obtain rfl:=si aN
 exact ⟨_,a0.R,a0.Rows,a0.Doc,a0.az,a0.av,a0.Read,v4,v6,ay,au,rfl,aI,a4,bh,aK,(by kernel_rfl),((((((aE.front 4 rfl).front 4 rfl).front 4 rfl).front 4 rfl).front 5 rfl).takeN 5)⟩
def l7 (F:Nat) (a0:aS) (a1:Int):Option aS:=
 if a0.Doc<(0:Int) then
  (eg F a0.R 0 2 a1 a1).bind fun j=>
  some (⟨j.2,a0.Rows,j.1,false,[],a0.av,a0.Read⟩:aS)
 else
  some a0
theorem tN (F:Nat) {h:AH} {Z:Zn} {a0:aS} {a1:Int} {ab j v4 v6 J ad v11 U I af} (hP:Pre Z h [.ae ab [Pt j 0,v11,V a0.Doc, .bool a0.az,I,V a0.av,V a0.Read], .ae j (ax v4 v6 J a0.R), .gs J ad (aa aj), .gs v11 U (aa an), .gs I af (aa ar)]) (ah:RS (α:=ak) Z v4 a0.R.L) (ao:RS (α:=aq) Z v6 a0.R.T.al) (au:RCs (α:=aj) Z ad a0.R.D) (aw:RCs (α:=an) Z U a0.Rows) (aG:RCs (α:=ar) Z af a0.S) {r:aS} (hm:l7 F a0 a1=some r):
  bX Try.prog 45 [Pt ab 0,V a1] h Z [.ae ab [Pt j 0,v11,V a0.Doc, .bool a0.az,I,V a0.av,V a0.Read], .ae j (ax v4 v6 J a0.R), .gs J ad (aa aj), .gs v11 U (aa an), .gs I af (aa ar)] fun v Z' A'=>∃ ay aB aC aD aE aF, .tuple #[]=v∧A'=[.ae ab [Pt j 0,v11,V r.Doc, .bool r.az,aE,V r.av,V r.Read], .ae j (ax ay aB J r.R), .gs J aC (aa aj), .gs v11 aD (aa an), .gs aE aF (aa ar)]∧RS (α:=ak) Z' ay r.R.L∧RS (α:=aq) Z' aB r.R.T.al∧RCs (α:=aj) Z' aC r.R.D∧RCs (α:=an) Z' aD r.Rows∧RCs (α:=ar) Z' aF r.S:=by
 refine cm Try.func45 hP ?_
 intro hs hS
 unfold l7 at hm
 refine s0<|aA 3 0 (V a0.Doc) hS rfl<|aO 0 hm ?_ ?_<;>intro aZ hm
 refine xn 0<|dT<|s0<|aA 4 0 (Pt j 0) hS rfl ?_
 obtain ⟨ag,aH,hm⟩:=ai hm
 have aI:St _ _ _ _ _ _ ([.ae j (ax v4 v6 J a0.R), .gs J ad (aa aj)]++[.ae ab [Pt j 0,v11,V a0.Doc, .bool a0.az,I,V a0.av,V a0.Read], .gs v11 U (aa an), .gs I af (aa ar)]):=((hS.front 2 rfl).front 2 rfl)
 refine cB 2 aI (fun p=>fL F p ah ao au aH) ?_
 rintro _ a2 a3 _ aJ aK ⟨aL,aM,aN,rfl,rfl,aP,aR,aT⟩
 refine bB 2 2 (V ag.1) [V ag.1] [Pt j 0,v11,V ag.1, .bool a0.az,I,V a0.av,V a0.Read] aK rfl rfl rfl ?_
 intro a4 aU
 refine xn 0<|g0<|bB 4 2 (.bool false) [.bool false] [Pt j 0,v11,V ag.1, .bool false,I,V a0.av,V a0.Read] aU rfl rfl rfl ?_
 intro a5 aW
 refine bB 2 2 (.slice none 0 0) [.slice none 0 0] [Pt j 0,v11,V ag.1, .bool false, .slice none 0 0,V a0.av,V a0.Read] aW rfl rfl rfl ?_
 intro a6 aX
 refine xn 0 ?_
 have aY:=aX.dE (aa ar)
 obtain rfl:=si hm
 refine ⟨_,_,_,ResL.nil,((((((aY.front 0 rfl).front 4 rfl).front 3 rfl).front 3 rfl).front 4 rfl).takeN 5),?_⟩
 exact ⟨aL,aM,aN,U,(.slice none 0 0),[],rfl,rfl,aP,aR,aT,(aw.mono aJ),(RCs.bA _)⟩
 refine xn 0<|dF<|sk ?_
 obtain rfl:=si hm
 refine ⟨_,_,_,ResL.nil,hS,?_⟩
 exact ⟨v4,v6,ad,U,I,af,rfl,rfl,ah,ao,au,aw,aG⟩
def lg (F:Nat) (a0:aS) (a1:an):Nat→aJ→(List an)→Int→Bool→(List ar)→Int→Int→an→Int→(List aZ)→Int→Int→Int→Option (Sum (aJ×(List an)×Int×Bool×(List ar)×Int×Int×an×Int) aS)
 | 0,_,_,_,_,_,_,_,_,_,_,_,_,_=>none
 | n+1,U,aa,ab,ad,ae,ag,ai,aj,al,J,ao,aq,I=>
  if I<(J.length:Int) then
   if 0≤I∧I<(J.length:Int) then
    (J[I.toNat]?).bind fun au=>
    (correctorref12_parser_place F (⟨U,aa,ab,ad,ae,ag,ai⟩:aS) au).bind fun j=>
    if (0:Int)<j.1 then
     if 0≤I∧I<(J.length:Int) then
      (J[I.toNat]?).bind fun aw=>
      (dM F j.2.R aq aw.ah al j.1).bind fun ax=>
      some (.inr (⟨ax.2,j.2.Rows,j.2.Doc,j.2.az,j.2.S,j.2.av,j.2.Read⟩:aS))
     else none
    else
     if 0≤(af ((j.2.S.length:Int) - 1))∧(af ((j.2.S.length:Int) - 1))<(j.2.S.length:Int) then
      (j.2.S[(af ((j.2.S.length:Int) - 1)).toNat]?).bind fun ay=>
      lg F a0 a1 n j.2.R j.2.Rows j.2.Doc j.2.az j.2.S j.2.av j.2.Read aj al J ao ay.bP (af (I+1))
     else none
   else none
  else
   some (.inl (U,aa,ab,ad,ae,ag,ai,aj,ao))
def n3 (F:Nat) (a0:aS) (a1:an):Option aS:=
 (g1 F a0 a1.ah a1.To).bind fun U=>
 (l7 F a0 U.1).bind fun I=>
 (nr F I.R.L a1).bind fun ab=>
 if (ab.1.length:Int)=(0:Int) then
  (nD F I a1 U.1 U.2).bind fun aq=>
  some aq
 else
  (iK F I).bind fun au=>
  ((lg F a0 a1 F I.R I.Rows I.Doc I.az I.S I.av I.Read a1 U.2 ab.1 ab.2 au 0):Option (Sum (aJ×(List an)×Int×Bool×(List ar)×Int×Int×an×Int) aS)).bind fun o=>match o with
   | .inl (ad,ae,ag,ai,j,aj,al,aw,ax)=>(g1 F (⟨ad,ae,ag,ai,j,aj,al⟩:aS) ax aw.To).bind fun ao=>
   if ao.1<ao.2 then
    if 0≤(af ((j.length:Int) - 1))∧(af ((j.length:Int) - 1))<(j.length:Int) then
     (j[(af ((j.length:Int) - 1)).toNat]?).bind fun ay=>
     (ja F (⟨ad,ae,ag,ai,j,aj,al⟩:aS) ay.bP ao.1).bind fun J=>
     if 0≤(af ((j.length:Int) - 1))∧(af ((j.length:Int) - 1))<(J.2.S.length:Int) then
      (J.2.S[(af ((j.length:Int) - 1)).toNat]?).bind fun aa=>
      some (⟨J.2.R,J.2.Rows,J.2.Doc,J.2.az,J.2.S.set (af ((j.length:Int) - 1)).toNat (⟨aa.Node,aa.Kind,aa.aC,aa.bP,J.1⟩:ar),J.2.av,J.2.Read⟩:aS)
     else none
    else none
   else
    some (⟨ad,ae,ag,ai,j,aj,al⟩:aS)
   | .inr y=>some y
theorem xa (F:Nat) {h:AH} {Z:Zn} {a0:aS} {a1:an} {I J v4 v6 ab bm v11 bn aW bo} (hP:Pre Z h [.ae I [Pt J 0,v11,V a0.Doc, .bool a0.az,aW,V a0.av,V a0.Read], .ae J (ax v4 v6 ab a0.R), .gs ab bm (aa aj), .gs v11 bn (aa an), .gs aW bo (aa ar)]) (dh:RS (α:=ak) Z v4 a0.R.L) (di:RS (α:=aq) Z v6 a0.R.T.al) (dj:RCs (α:=aj) Z bm a0.R.D) (dm:RCs (α:=an) Z bn a0.Rows) (dn:RCs (α:=ar) Z bo a0.S) {r:aS} (hm:n3 F a0 a1=some r):
  bX Try.prog 43 [Pt I 0, .agg #[V a1.Kind,V a1.ah,V a1.To,V a1.aC]] h Z [.ae I [Pt J 0,v11,V a0.Doc, .bool a0.az,aW,V a0.av,V a0.Read], .ae J (ax v4 v6 ab a0.R), .gs ab bm (aa aj), .gs v11 bn (aa an), .gs aW bo (aa ar)] fun v Z' A'=>∃ dp dq dr ds dt dx dy, .tuple #[]=v∧A'=[.ae I [Pt J 0,v11,V r.Doc, .bool r.az,dx,V r.av,V r.Read], .ae J (ax dp dq dr r.R), .gs dr ds (aa aj), .gs v11 dt (aa an), .gs dx dy (aa ar)]∧RS (α:=ak) Z' dp r.R.L∧RS (α:=aq) Z' dq r.R.T.al∧RCs (α:=aj) Z' ds r.R.D∧RCs (α:=an) Z' dt r.Rows∧RCs (α:=ar) Z' dy r.S:=by
 refine cm Try.func43 hP ?_
 intro hs hS
 unfold n3 at hm
 refine s0<|df 0 [V a1.Kind,V a1.ah,V a1.To,V a1.aC] hS ?_
 intro aY fO cq
 refine xn 0<|s0<|aA 2 0 (V a1.ah) cq rfl<|aA 1 0 (V a1.To) cq rfl ?_
 obtain ⟨bc,eu,hm⟩:=ai hm
 refine cE 0 cq (fun fP bI ew bJ=>kv F ew (RS.mono bI dh) (RS.mono bI di) (bf.row (bJ _ (List.mem_of_getElem? (i:=3) rfl)) bI dj) (bJ _ (List.mem_of_getElem? (i:=2) rfl)) (bf.row (bJ _ (List.mem_of_getElem? (i:=4) rfl)) bI dm) (bf.row (bJ _ (List.mem_of_getElem? (i:=5) rfl)) bI dn) (bJ _ (List.mem_of_getElem? (i:=1) rfl)) eu) ?_
 rintro _ fQ ey rfl
 refine xn 5<|s0 ?_
 obtain ⟨au,eA,hm⟩:=ai hm
 have eB:St _ _ _ _ _ _ ([.ae I [Pt J 0,v11,V a0.Doc, .bool a0.az,aW,V a0.av,V a0.Read], .ae J (ax v4 v6 ab a0.R), .gs ab bm (aa aj), .gs v11 bn (aa an), .gs aW bo (aa ar)]++[.ae aY (cy a1)]):=(((((ey.front 5 rfl).front 5 rfl).front 5 rfl).front 5 rfl).front 5 rfl)
 refine cB 2 eB (fun p=>tN F p dh di dj dm dn eA) ?_
 rintro _ fR fS _ fT eD ⟨bN,cr,ct,cu,bO,cv,rfl,rfl,bQ,cx,cA,cF,cG⟩
 refine xn 0<|cT z5 eD ?_
 intro cH fU cI bR
 refine yq 3 [(29,Pt I 0),(5,V bc.2),(4,V bc.1),(3,Pt aY 0),(0,Pt I 0)] ?_
 have fV:I<cH:=cI.1 _ (List.mem_of_getElem? (i:=0) rfl) _ (by simp [Itm.ids])
 refine aU (v:=Pt J 0) rfl trivial rfl (by show I<_;omega) (aB (v:=Pt J 0) trivial) (bR.aP (i:=0) rfl (by kernel_rfl)) trivial<|yq 2 [(32,Pt J 0),(5,V bc.2),(4,V bc.1),(3,Pt aY 0),(0,Pt I 0)] ?_
 have fW:J<cH:=cI.1 _ (List.mem_of_getElem? (i:=1) rfl) _ (by simp [Itm.ids])
 refine aU (v:=bN) rfl trivial rfl (by show J<_;omega) (aB (v:=bN) (RS.dD bQ)) (bR.aP (i:=1) rfl (by kernel_rfl)) trivial ?_
 have fX:aY<cH:=cI.1 _ (List.mem_of_getElem? (i:=5) rfl) _ (by simp [Itm.ids])
 refine aU (v:= .agg #[V a1.Kind,V a1.ah,V a1.To,V a1.aC]) rfl trivial rfl (by show aY<_;omega) (g7 (cs:=[V a1.Kind,V a1.ah,V a1.To,V a1.aC]) (.cons trivial (.cons trivial (.cons trivial (.cons trivial .nil))))) (bR.aP (i:=5) rfl (by kernel_rfl)) trivial ?_
 obtain ⟨cJ,eE,hm⟩:=ai hm
 have eF:=bR.cD
 have dz:St _ _ _ _ _ _ ([]++[.ae I [Pt J 0,v11,V au.Doc, .bool au.az,bO,V au.av,V au.Read], .ae J (ax bN cr ab au.R), .gs ab ct (aa aj), .gs v11 cu (aa an), .gs bO cv (aa ar), .ae aY (cy a1)]):=eF
 obtain ⟨fY,fZ,ga,gb,eG,cK,cg,dA,rfl,rfl,dB⟩:=BS F dz.ez bQ eE
 have eH:=dz.call cK
 have aE:=cK.ag
 refine eM rfl trivial bR (cV eG rfl rfl rfl) eH (St.eC cK) ?_
 intro gd eI
 refine ye 5 [(7,V cJ.2),(6,cg),(5,V bc.2),(4,V bc.1),(3,Pt aY 0),(0,Pt I 0)] ?_
 have ch:=eI.a5
 refine sq<|s0<|bM 1 cg (ch.dV (i:=0) rfl dB)<|aD 0 hm ?_ ?_<;>intro gf hm
 refine xn 0<|dT<|s0<|aA 1 6 (.agg #[V a1.Kind,V a1.ah,V a1.To,V a1.aC]) ch rfl ?_
 obtain ⟨gg,eJ,hm⟩:=ai hm
 have eK:St _ _ _ _ _ _ ([.ae I [Pt J 0,v11,V au.Doc, .bool au.az,bO,V au.av,V au.Read], .ae J (ax bN cr ab au.R), .gs ab ct (aa aj), .gs v11 cu (aa an), .gs bO cv (aa ar)]++[.gs cg dA (aa aZ), .ae aY (cy a1)]):=(((((ch.front 5 rfl).front 5 rfl).front 5 rfl).front 5 rfl).front 5 rfl)
 refine cB 2 eK (fun p=>BD F p (bQ.mono aE) (cx.mono aE) (cA.mono aE) (cF.mono aE) (cG.mono aE) eJ) ?_
 rintro _ gh gi _ gj eL ⟨eN,eO,eP,eQ,eR,eS,eT,rfl,rfl,eU,eV,eW,eX,eY⟩
 refine xn 0<|rt<|⟨rfl,?_⟩
 obtain rfl:=si hm
 refine ⟨_,_,_,ResL.nil,(eL.takeN 5),?_⟩
 exact ⟨eN,eO,eP,eQ,eR,eS,eT,rfl,rfl,eU,eV,eW,eX,eY⟩
 refine xn 0<|dF<|sk<|s0 ?_
 obtain ⟨eZ,e0,hm⟩:=ai hm
 refine cE 1 ch (fun gk bS e2 bT=>my F e2 (RS.mono bS (bQ.mono aE)) (RS.mono bS (cx.mono aE)) (bf.row (bT _ (List.mem_of_getElem? (i:=3) rfl)) bS (cA.mono aE)) (bT _ (List.mem_of_getElem? (i:=2) rfl)) (bf.row (bT _ (List.mem_of_getElem? (i:=4) rfl)) bS (cF.mono aE)) (bf.row (bT _ (List.mem_of_getElem? (i:=5) rfl)) bS (cG.mono aE)) (bT _ (List.mem_of_getElem? (i:=1) rfl)) e0) ?_
 rintro _ gl e3 rfl
 refine xn 1<|sq<|sp 1 ?_
 obtain ⟨cL,U,hm⟩:=ai hm
 refine aH [0,3,7] (fun l h=>∃ bd a3 bU bp br ay bt bu bw cM bV bW bY bZ ad b0 b1, .inl (a3,bU,bp,br,ay,bt,bu,bw,cM)=cL∧RS (α:=ak) bd bV a3.L∧RS (α:=aq) bd bW a3.T.al∧RCs (α:=aj) bd bY a3.D∧RCs (α:=an) bd bZ bU∧RCs (α:=ar) bd b0 ay∧l=[(0,Pt I 0),(3,Pt b1 0),(7,V cM)]∧St hs (aR [.ae I [Pt J 0,v11,V a0.Doc, .bool a0.az,aW,V a0.av,V a0.Read], .ae J (ax v4 v6 ab a0.R), .gs ab bm (aa aj), .gs v11 bn (aa an), .gs aW bo (aa ar)]) Z (0,0) bd h [.ae I [Pt J 0,v11,V bp, .bool br,ad,V bt,V bu], .ae J (ax bV bW ab a3), .gs ab bY (aa aj), .gs v11 bZ (aa an), .gs ad b0 (aa ar), .ae b1 (cy bw)]) ?_ ?_
 rintro l gm ⟨bd,a3,bU,bp,br,ay,bt,bu,bw,cM,bV,bW,bY,bZ,ad,b0,b1,rfl,cN,cP,cR,cS,bg,rfl,dC⟩
 try dsimp only at hm
 refine s0<|aA 3 5 (V bw.To) dC rfl ?_
 obtain ⟨b2,e4,hm⟩:=ai hm
 refine cE 0 dC (fun gn b3 e5 b4=>kv F (a0:=(⟨a3,bU,bp,br,ay,bt,bu⟩:aS)) e5 (RS.mono b3 cN) (RS.mono b3 cP) (bf.row (b4 _ (List.mem_of_getElem? (i:=2) rfl)) b3 cR) (b4 _ (List.mem_of_getElem? (i:=1) rfl)) (bf.row (b4 _ (List.mem_of_getElem? (i:=3) rfl)) b3 cS) (bf.row (b4 _ (List.mem_of_getElem? (i:=4) rfl)) b3 bg) (b4 _ (List.mem_of_getElem? (i:=0) rfl)) e4) ?_
 rintro _ gq cj rfl
 refine xn 5<|s0<|aO 2 hm ?_ ?_<;>intro gr hm
 refine xn 0<|dT<|s0<|aA 3 0 ad cj rfl<|bM 0 ad (cj.dV (i:=4) rfl bg)<|xn 2<|ea y6 cj ?_
 intro cU gu cW a8
 refine yq 3 [(107,Pt I 4),(13,V (af ((ay.length:Int) - 1))),(11,V b2.1),(0,Pt I 0)] ?_
 have gv:I<cU:=cW.1 _ (List.mem_of_getElem? (i:=0) rfl) _ (by simp [Itm.ids])
 refine aU (v:=ad) rfl trivial rfl (by show I<_;omega) (aB (v:=ad) (a8.dk (i:=4) rfl)) (a8.aP (i:=0) rfl (by kernel_rfl)) trivial<|yq 5 [(113,Pt I 4),(110,Pt I 0),(109,V (af ((ay.length:Int) - 1))),(108,ad),(13,V (af ((ay.length:Int) - 1))),(11,V b2.1)] ?_
 have gw:I<cU:=cW.1 _ (List.mem_of_getElem? (i:=0) rfl) _ (by simp [Itm.ids])
 refine aU (v:=ad) rfl trivial rfl (by show I<_;omega) (aB (v:=ad) (a8.dk (i:=4) rfl)) (a8.aP (i:=0) rfl (by kernel_rfl)) trivial<|yq 1 [(115,V (af ((ay.length:Int) - 1))),(114,ad),(110,Pt I 0),(109,V (af ((ay.length:Int) - 1))),(108,ad),(11,V b2.1)] ?_
 obtain ⟨dE,hm⟩:=aK hm
 refine aF rfl trivial (bG rfl rfl (by kernel_rfl:slTy _ _=some (aa ar)) (a8.bL (j:=4) rfl bg (by omega)) dE.1 dE.2)<|yq 1 [(117, .pointer (some (bh ad (af ((ay.length:Int) - 1)) (aa ar) 3))),(110,Pt I 0),(109,V (af ((ay.length:Int) - 1))),(108,ad),(11,V b2.1)] ?_
 obtain ⟨cZ,dH,hm⟩:=ai hm
 obtain ⟨gx,e6,e7,gy⟩:=a8.cz (j:=4) rfl bg (i:=af ((ay.length:Int) - 1)) dH
 obtain rfl:=dW e6
 have e8:=dw dH
 have e9:=a8.bL (j:=4) rfl bg e8
 have gz:(baseOf ad).block<cU:=dG (cW.1 _ (List.mem_of_getElem? (i:=4) rfl)) e9
 refine du rfl trivial rfl (by show (baseOf ad).block<_;omega) (aB (v:=V cZ.bP) trivial) (bK (w:=V cZ.bP) e7 rfl (by kernel_rfl)) trivial<|yq 1 [(119,V b2.1),(118,V cZ.bP),(110,Pt I 0),(109,V (af ((ay.length:Int) - 1))),(108,ad)] ?_
 obtain ⟨a4,fa,hm⟩:=ai hm
 have dI:St _ _ _ _ _ _ ([.ae I [Pt J 0,v11,V bp, .bool br,ad,V bt,V bu], .ae J (ax bV bW ab a3), .gs ab bY (aa aj), .gs v11 bZ (aa an), .gs ad b0 (aa ar)]++[.ae b1 (cy bw)]):=(((((a8.front 4 rfl).front 4 rfl).front 4 rfl).front 4 rfl).front 4 rfl)
 obtain ⟨gA,gC,gD,gE,fb,c0,dJ,dK,c3,dL,dM,fc,rfl,rfl,fe,ff,fg,fh,c5⟩:=n6 F (a0:=(⟨a3,bU,bp,br,ay,bt,bu⟩:aS)) dI.cD.ez cN cP cR cS bg fa
 have dN:=c0.ag
 refine fF rfl trivial dI (cV fb rfl rfl rfl) c0 dN (.drop (by decide) (.drop (by decide) (.pV (c0.aP (i:=0) rfl (by kernel_rfl)) .nil))) ?_
 intro gF c6
 obtain ⟨dO,hm⟩:=aK hm
 refine aF rfl trivial (bG rfl rfl (by kernel_rfl:slTy _ _=some (aa ar)) (c6.bL (j:=4) rfl c5 (by omega)) dO.1 dO.2)<|yq 1 [(122, .pointer (some (bh ad (af ((ay.length:Int) - 1)) (aa ar) 4))),(120, .bool a4.1)] ?_
 obtain ⟨a9,dP,hm⟩:=ai hm
 obtain ⟨gG,fi,gH,fl⟩:=c6.cz (j:=4) rfl c5 (i:=af ((ay.length:Int) - 1)) dP
 obtain rfl:=dW fi
 have c7:St _ _ _ _ _ _ ([.gs ad fc (aa ar)]++[.ae I [Pt J 0,v11,V a4.2.Doc, .bool a4.2.az,ad,V a4.2.av,V a4.2.Read], .ae J (ax dJ dK c3 a4.2.R), .gs c3 dL (aa aj), .gs v11 dM (aa an), .ae b1 (cy bw)]):=(c6.front 4 rfl)
 refine nF rfl trivial c7 (iq (u':=(⟨a9.Node,a9.Kind,a9.aC,a9.bP,a4.1⟩:ar)) (vs:=[.bool a4.1]) (a2:=[V a9.Node,V a9.Kind,V a9.aC,V a9.bP, .bool a4.1]) c7.sub (m:=0) rfl c5 dP fl rfl rfl rfl (by kernel_rfl) rfl rfl rfl rfl) dN (.drop (by decide) (.drop (by decide) (.aT (c7.bz 0 rfl bH) .nil))) ?_
 rintro gI fm ⟨fo,fp⟩
 refine yf [] ?_
 have fq:=fp.a5
 obtain rfl:=si hm
 refine ⟨_,_,_,ResL.nil,((((((fq.front 0 rfl).front 4 rfl).front 4 rfl).front 4 rfl).front 4 rfl).takeN 5),?_⟩
 exact ⟨dJ,dK,c3,dL,dM,ad,fm,rfl,rfl,fe,ff,fg,fh,fo⟩
 refine xn 0<|dF<|sk ?_
 obtain rfl:=si hm
 refine ⟨_,_,_,ResL.nil,(cj.takeN 5),?_⟩
 exact ⟨bV,bW,ab,bY,bZ,ad,b0,rfl,rfl,cN,cP,cR,cS,bg⟩
 refine bk 0<|lp [0,3,5,6,7,8,9] (fun n l h=>∃ bb a6 b5 bx bA b6 bB bC bj aG ck aX aM aI b7 b8 b9 ca bD cb aL aw bE,lg F a0 a1 n a6 b5 bx bA b6 bB bC bj aG ck aX aM aI=some cL∧RS (α:=ak) bb b7 a6.L∧RS (α:=aq) bb b8 a6.T.al∧RCs (α:=aj) bb b9 a6.D∧RCs (α:=an) bb ca b5∧RCs (α:=ar) bb cb b6∧RCs (α:=aZ) bb bE ck∧l=[(0,Pt I 0),(3,Pt aL 0),(5,V aG),(6,aw),(7,V aX),(8,V aM),(9,V aI)]∧St hs (aR [.ae I [Pt J 0,v11,V a0.Doc, .bool a0.az,aW,V a0.av,V a0.Read], .ae J (ax v4 v6 ab a0.R), .gs ab bm (aa aj), .gs v11 bn (aa an), .gs aW bo (aa ar)]) Z (0,0) bb h [.ae I [Pt J 0,v11,V bx, .bool bA,bD,V bB,V bC], .ae J (ax b7 b8 ab a6), .gs ab b9 (aa aj), .gs v11 ca (aa an), .gs bD cb (aa ar), .ae aL (cy bj), .gs aw bE (aa aZ)]) F ⟨_,au.R,au.Rows,au.Doc,au.az,au.S,au.av,au.Read,a1,bc.2,cJ.1,cJ.2,eZ,0,bN,cr,ct,cu,bO,cv,aY,cg,dA,U,(bQ.mono aE),(cx.mono aE),(cA.mono aE),(cF.mono aE),(cG.mono aE),dB,(by kernel_rfl),(((((((e3.front 0 rfl).front 6 rfl).front 6 rfl).front 6 rfl).front 6 rfl).front 6 rfl).front 6 rfl)⟩ ?_
 rintro c8 l gJ ⟨bb,a6,b5,bx,bA,b6,bB,bC,bj,aG,ck,aX,aM,aI,b7,b8,b9,ca,bD,cb,aL,aw,bE,U,dQ,dR,dS,dU,dX,bl,rfl,cc⟩
 rcases c8 with _ | c8
 cases (show none=some cL from U)
 rw [lg] at U
 refine sq<|s0<|bM 2 aw (cc.dV (i:=6) rfl bl)<|aO 0 U ?_ ?_<;>intro gK U
 refine xn 0<|dT<|sk<|sq<|bk 1<|s0<|fj 3 6 U cc bl rfl ?_
 intro gL U
 refine gB 0 0 6 (fun cd=> .agg #[.bool cd.ig,V cd.aC,V cd.ah,V cd.To]) U cc bl rfl ?_
 intro cd gM U
 obtain ⟨ao,fr,U⟩:=ai U
 have fs:St _ _ _ _ _ _ ([.ae I [Pt J 0,v11,V bx, .bool bA,bD,V bB,V bC], .ae J (ax b7 b8 ab a6), .gs ab b9 (aa aj), .gs v11 ca (aa an), .gs bD cb (aa ar)]++[.ae aL (cy bj), .gs aw bE (aa aZ)]):=(((((cc.front 4 rfl).front 4 rfl).front 4 rfl).front 4 rfl).front 4 rfl)
 refine cB 0 fs (fun p=>yb F (a0:=(⟨a6,b5,bx,bA,b6,bB,bC⟩:aS)) p dQ dR dS dU dX fr) ?_
 rintro _ gN gO _ cl dY ⟨dZ,eb,ec,c9,aJ,da,rfl,rfl,ed,ee,eg,eh,bF⟩
 refine xn 1<|sq<|s0<|cC 1 U ?_ ?_<;>intro gQ U
 refine xn 0<|dT<|cT y1 dY ?_
 intro ei gR ej cf
 refine yq 3 [(64,Pt I 0),(10,V ao.1),(5,V aG),(6,aw),(8,V aM),(9,V aI)] ?_
 have gS:I<ei:=ej.1 _ (List.mem_of_getElem? (i:=0) rfl) _ (by simp [Itm.ids])
 refine aU (v:=Pt J 0) rfl trivial rfl (by show I<_;omega) (aB (v:=Pt J 0) trivial) (cf.aP (i:=0) rfl (by kernel_rfl)) trivial<|yq 3 [(68,V aI),(67,aw),(66,V aM),(65,Pt J 0),(10,V ao.1),(5,V aG)] ?_
 obtain ⟨ek,U⟩:=aK U
 refine aF rfl trivial (bG rfl rfl (by kernel_rfl:slTy _ _=some (aa aZ)) (cf.bL (j:=6) rfl (bl.mono cl) (by omega)) ek.1 ek.2)<|yq 1 [(70, .pointer (some (bh aw aI (aa aZ) 2))),(66,V aM),(65,Pt J 0),(10,V ao.1),(5,V aG)] ?_
 obtain ⟨db,en,U⟩:=ai U
 obtain ⟨gT,ft,fu,gU⟩:=cf.cz (j:=6) rfl (bl.mono cl) (i:=aI) en
 obtain rfl:=tM ft
 have fv:=dw en
 have eo:=cf.bL (j:=6) rfl (bl.mono cl) fv
 have gV:(baseOf aw).block<ei:=dG (ej.1 _ (List.mem_of_getElem? (i:=6) rfl)) eo
 refine du rfl trivial rfl (by show (baseOf aw).block<_;omega) (aB (v:=V db.ah) trivial) (bK (w:=V db.ah) fu rfl (by kernel_rfl)) trivial<|yq 2 [(73,V ao.1),(72,V aG),(71,V db.ah),(66,V aM),(65,Pt J 0)] ?_
 obtain ⟨gW,fx,U⟩:=ai U
 have cn:St _ _ _ _ _ _ ([.ae J (ax dZ eb ab ao.2.R), .gs ab ec (aa aj)]++[.ae I [Pt J 0,v11,V ao.2.Doc, .bool ao.2.az,aJ,V ao.2.av,V ao.2.Read], .gs v11 c9 (aa an), .gs aJ da (aa ar), .ae aL (cy bj), .gs aw bE (aa aZ)]):=((cf.front 2 rfl).front 2 rfl)
 obtain ⟨gX,gY,gZ,g0,fy,ep,fz,fA,fB,fC,rfl,rfl,fD,fE,fG⟩:=fk F cn.cD.ez ed ee eg fx
 have dc:=ep.ag
 refine fF rfl trivial cn (cV fy rfl rfl rfl) ep dc (.aT (cn.bz 4 rfl (kc eo)) (.aT (cn.bz 0 rfl bH) .nil)) ?_
 intro g1 fH
 refine yf [] ?_
 have fI:=fH.a5
 refine rt<|ba<|ba<|⟨rfl,?_⟩
 obtain rfl:=si U
 obtain rfl:=si hm
 refine ⟨_,_,_,ResL.nil,((((((fI.front 4 rfl).front 4 rfl).front 3 rfl).front 3 rfl).front 4 rfl).takeN 5),?_⟩
 exact ⟨fz,fA,fB,fC,c9,aJ,da,rfl,rfl,fD,fE,fG,(eh.mono dc),(bF.mono dc)⟩
 refine xn 0<|dF<|sk<|ea y9 dY ?_
 intro dd g2 de a7
 refine yq 3 [(77,Pt I 4),(0,Pt I 0),(3,Pt aL 0),(5,V aG),(6,aw),(7,V aX),(8,V aM),(9,V aI)] ?_
 have g3:I<dd:=de.1 _ (List.mem_of_getElem? (i:=0) rfl) _ (by simp [Itm.ids])
 refine aU (v:=aJ) rfl trivial rfl (by show I<_;omega) (aB (v:=aJ) (a7.dk (i:=4) rfl)) (a7.aP (i:=0) rfl (by kernel_rfl)) trivial<|yq 3 [(81,Pt I 4),(78,aJ),(0,Pt I 0),(3,Pt aL 0),(5,V aG),(6,aw),(7,V aX),(8,V aM),(9,V aI)] ?_
 have g4:I<dd:=de.1 _ (List.mem_of_getElem? (i:=0) rfl) _ (by simp [Itm.ids])
 refine aU (v:=aJ) rfl trivial rfl (by show I<_;omega) (aB (v:=aJ) (a7.dk (i:=4) rfl)) (a7.aP (i:=0) rfl (by kernel_rfl)) trivial<|aF rfl trivial (gP rfl (a7.dV (i:=4) rfl bF) ⟨_,Try.underlying59⟩)<|yq 1 [(84,V (af ((ao.2.S.length:Int) - 1))),(78,aJ),(0,Pt I 0),(3,Pt aL 0),(5,V aG),(6,aw),(7,V aX),(8,V aM),(9,V aI)] ?_
 obtain ⟨er,U⟩:=aK U
 refine aF rfl trivial (bG rfl rfl (by kernel_rfl:slTy _ _=some (aa ar)) (a7.bL (j:=4) rfl bF (by omega)) er.1 er.2)<|yq 1 [(86, .pointer (some (bh aJ (af ((ao.2.S.length:Int) - 1)) (aa ar) 3))),(0,Pt I 0),(3,Pt aL 0),(5,V aG),(6,aw),(7,V aX),(8,V aM),(9,V aI)] ?_
 obtain ⟨cp,et,U⟩:=ai U
 obtain ⟨g5,fJ,fK,g6⟩:=a7.cz (j:=4) rfl bF (i:=af ((ao.2.S.length:Int) - 1)) et
 obtain rfl:=dW fJ
 have fL:=dw et
 have fM:=a7.bL (j:=4) rfl bF fL
 have g8:(baseOf aJ).block<dd:=dG (de.1 _ (List.mem_of_getElem? (i:=4) rfl)) fM
 refine du rfl trivial rfl (by show (baseOf aJ).block<_;omega) (aB (v:=V cp.bP) trivial) (bK (w:=V cp.bP) fK rfl (by kernel_rfl)) trivial<|ye 1 [(8,V cp.bP),(0,Pt I 0),(3,Pt aL 0),(5,V aG),(6,aw),(7,V aX),(9,V aI)] ?_
 have fN:=a7.a5
 refine gp 3 ?_
 exact ⟨c8,Nat.lt_succ_self _,⟨_,ao.2.R,ao.2.Rows,ao.2.Doc,ao.2.az,ao.2.S,ao.2.av,ao.2.Read,bj,aG,ck,aX,cp.bP,af (aI+1),dZ,eb,ec,c9,aJ,da,aL,aw,bE,U,ed,ee,eg,eh,bF,(bl.mono cl),(by kernel_rfl),fN⟩⟩
 refine xn 0<|dF<|xt 0<|aN ?_
 obtain rfl:=si U
 exact ⟨_,a6,b5,bx,bA,b6,bB,bC,bj,aX,b7,b8,b9,ca,bD,cb,aL,rfl,dQ,dR,dS,dU,dX,(by kernel_rfl),(cc.takeN 6)⟩
end Go.Proofs.Ytcilejikekccmaa.M
