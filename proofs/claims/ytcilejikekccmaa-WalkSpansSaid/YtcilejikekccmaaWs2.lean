/- Packed by a program of this session (mini.py). -/
import Derived.Test.YtcilejikekccmaaWs1
set_option linter.unusedVariables false
set_option linter.unusedSimpArgs false
set_option maxRecDepth 20000
namespace Go.Proofs.Ytcilejikekccmaa.M
open Go Am Sy
open Sy.Cell (rc)
structure ak where
 Kind:Int
 ah:Int
 To:Int
 deriving DecidableEq,Inhabited
instance:Cell ak where
 size:=3
 rc Z cs x:=cs=[V x.Kind,V x.ah,V x.To]
 len h:=by rw [h];rfl
 mono _ h:=h
 one h:=by rw [h];rfl
 pos:=by decide
theorem eu {Z:Zn} {cs:List Value} {x:ak} (h:rc Z cs x):cs=[V x.Kind,V x.ah,V x.To]:=h
abbrev v9 (x:ak):List Value:=[V x.Kind,V x.ah,V x.To]
instance:FC ak:=⟨v9,fun q=>q⟩
structure aE where
 B:List UInt8
 At:Int
 Row:Int
 Open:Int
 bT:Int
 cg:Bool
 Text:Int
 L:List ak
 deriving DecidableEq,Inhabited
instance:Cell aE where
 size:=8
 rc Z cs x:=∃ v0,RS (α:=UInt8) Z v0 x.B∧∃ j,RS (α:=ak) Z j x.L∧cs=[v0,V x.At,V x.Row,V x.Open,V x.bT, .bool x.cg,V x.Text,j]
 len h:=by obtain ⟨v0,I,j,J,h⟩:=h;rw [h];rfl
 mono hz h:=by obtain ⟨v0,I,j,J,h⟩:=h;exact ⟨v0,I.mono hz,j,J.mono hz,h⟩
 one h:=by obtain ⟨v0,I,j,J,h⟩:=h;subst h;exact (a8 I.cW (a8 rfl (a8 rfl (a8 rfl (a8 rfl (a8 rfl (a8 rfl (a8 J.cW cc))))))))
 pos:=by decide
abbrev a9 (v0 v1:Value) (x:aE):List Value:=[v0,V x.At,V x.Row,V x.Open,V x.bT, .bool x.cg,V x.Text,v1]
def n0 (F:Nat) (a0:aE):Option aE:=
 some (⟨a0.B,a0.At,a0.At,a0.Open,(-1),true,a0.Text,a0.L⟩:aE)
theorem qq (F:Nat) {h:AH} {Z:Zn} {a0:aE} {J I j U} (hP:Pre Z h [.ae J (a9 I j a0), .gs j U (aa ak)]) (af:RS (α:=UInt8) Z I a0.B) (ag:RCs (α:=ak) Z U a0.L) {r:aE} (hm:n0 F a0=some r):
  bX Try.prog 35 [Pt J 0] h Z [.ae J (a9 I j a0), .gs j U (aa ak)] fun v Z' A'=>∃ ab ad, .tuple #[]=v∧A'=[.ae J (a9 ab j r), .gs j ad (aa ak)]∧RS (α:=UInt8) Z' ab r.B∧RCs (α:=ak) Z' ad r.L:=by
 refine cm Try.func35 hP ?_
 intro hs hS
 unfold n0 at hm
 refine g0<|aA 6 0 (V a0.At) hS rfl<|bB 2 0 (V a0.At) [V a0.At] [I,V a0.At,V a0.At,V a0.Open,V a0.bT, .bool a0.cg,V a0.Text,j] hS rfl rfl rfl ?_
 intro al ah
 refine bB 2 0 (V (-1)) [V (-1)] [I,V a0.At,V a0.At,V a0.Open,V (-1), .bool a0.cg,V a0.Text,j] ah rfl rfl rfl ?_
 intro an ai
 refine bB 2 0 (.bool true) [.bool true] [I,V a0.At,V a0.At,V a0.Open,V (-1), .bool true,V a0.Text,j] ai rfl rfl rfl ?_
 intro ao aj
 refine xn 0 ?_
 obtain rfl:=si hm
 refine ⟨_,_,_,ResL.nil,aj,?_⟩
 exact ⟨I,U,rfl,rfl,af,ag⟩
def ib (F:Nat) (a0:aE) (a1:Int):Option Int:=
 if a1<(0:Int) then
  some 0
 else
  if (a0.B.length:Int)≤a1 then
   some 0
  else
   if 0≤a1∧a1<(a0.B.length:Int) then
    (a0.B[a1.toNat]?).bind fun j=>
    some (j.toNat:Int)
   else none
theorem nY (F:Nat) {h:AH} {Z:Zn} {a0:aE} {a1:Int} {U j aa} (hI:Inv Z h) (I:RS (α:=UInt8) Z j a0.B) (ad:RS (α:=ak) Z aa a0.L) (ab:Z U=some (a9 j aa a0)) {r:Int} (hm:ib F a0 a1=some r):
  bU Try.prog 54 [Pt U 0,V a1] h Z (.int .u8 (r.toNat:Int)):=by
 refine b1 Try.func54 hI ?_
 intro hs hS
 unfold ib at hm
 refine sp 1<|sq<|s0<|aO 1 hm ?_ ?_<;>intro ae hm
 refine xn 9<|dT<|sp 1<|rt<|⟨rfl,?_⟩
 obtain rfl:=si hm
 refine ⟨_,_,_,tk (.int .u8 0) (ResL.nil),hS,?_⟩
 exact rfl
 refine bu 5 j hS ab<|bM 0 j (RS.len I)<|cv 0 hm ?_ ?_<;>intro af hm
 refine xn 1<|dT<|sp 1<|rt<|⟨rfl,?_⟩
 obtain rfl:=si hm
 refine ⟨_,_,_,tk (.int .u8 0) (ResL.nil),hS,?_⟩
 exact rfl
 refine xn 1<|dF<|sk<|s0<|bu 3 j hS ab<|a6 1 hm I ?_
 intro ag hm
 refine bp 0 0 (fun J=> .int .u8 (J.toNat:Int)) hm I hS ?_
 intro J ah hm
 refine xn 1<|rt<|⟨rfl,?_⟩
 obtain rfl:=si hm
 refine ⟨_,_,_,tk (.int .u8 (J.toNat:Int)) (ResL.nil),hS,?_⟩
 exact rfl
def gq (F:Nat) (a0:Int):Option Bool:=
 if a0=(32:Int) then
  some true
 else
  if a0=(9:Int) then
   some true
  else
   some false
theorem jV (F:Nat) {h:AH} {Z:Zn} {a0:Int} (hI:Inv Z h) {r:Bool} (hm:gq F a0=some r):
  bU Try.prog 58 [.int .u8 a0] h Z (.bool r):=by
 refine b1 Try.func58 hI ?_
 intro hs hS
 unfold gq at hm
 refine sp 1<|s0<|aD 1 hm ?_ ?_ (kd:= .u8)<;>intro j hm
 refine xn 5<|rt<|⟨rfl,?_⟩
 obtain rfl:=si hm
 refine ⟨_,_,_,tk (.bool true) (ResL.nil),hS,?_⟩
 exact rfl
 refine aD 2 hm ?_ ?_ (kd:= .u8)<;>intro I hm
 refine xn 2<|rt<|⟨rfl,?_⟩
 obtain rfl:=si hm
 refine ⟨_,_,_,tk (.bool true) (ResL.nil),hS,?_⟩
 exact rfl
 refine xn 2<|rt<|⟨rfl,?_⟩
 obtain rfl:=si hm
 refine ⟨_,_,_,tk (.bool false) (ResL.nil),hS,?_⟩
 exact rfl
def correctorref2_Break (F:Nat) (a0:List UInt8) (a1:Int):Option Int:=
 if (a0.length:Int)≤a1 then
  some 0
 else
  ((if 0≤a1∧a1<(a0.length:Int) then
    (a0[a1.toNat]?).bind fun j=>
    if (j.toNat:Int)=(13:Int) then
     if (af (a1+1))<(a0.length:Int) then
      if 0≤(af (a1+1))∧(af (a1+1))<(a0.length:Int) then
       (a0[(af (a1+1)).toNat]?).bind fun I=>
       if (I.toNat:Int)=(10:Int) then
        some (.inr 2)
       else
        some (.inl ())
      else none
     else
      some (.inl ())
    else
     some (.inl ())
   else none):Option (Sum Unit Int)).bind fun o=>match o with
   | .inl ()=>if 0≤a1∧a1<(a0.length:Int) then
    (a0[a1.toNat]?).bind fun J=>
    if (J.toNat:Int)=(13:Int) then
     some 1
    else
     if 0≤a1∧a1<(a0.length:Int) then
      (a0[a1.toNat]?).bind fun U=>
      if (U.toNat:Int)=(10:Int) then
       some 1
      else
       some 0
     else none
   else none
   | .inr y=>some y
theorem lV (F:Nat) {h:AH} {Z:Zn} {a0:List UInt8} {a1:Int} {v2} (hI:Inv Z h) (I:RS (α:=UInt8) Z v2 a0) {r:Int} (hm:correctorref2_Break F a0 a1=some r):
  bU Try.prog 56 [v2,V a1] h Z (V r):=by
 refine b1 Try.func56 hI ?_
 intro hs hS
 unfold correctorref2_Break at hm
 refine sp 1<|sq<|s0<|bM 2 v2 (RS.len I)<|cv 0 hm ?_ ?_<;>intro ah hm
 refine xn 0<|dT<|sp 1<|rt<|⟨rfl,?_⟩
 obtain rfl:=si hm
 refine ⟨_,_,_,tk (V 0) (ResL.nil),hS,?_⟩
 exact rfl
 refine xn 0<|dF<|sk<|sq ?_
 obtain ⟨af,j,hm⟩:=ai hm
 refine aH [0,1] (fun l h=>∃ U, .inl ()=af∧l=[(0,v2),(1,V a1)]∧St hs [] Z (0,0) U h []) ?_ ?_
 rintro l aj ⟨U,rfl,rfl,J⟩
 try dsimp only at hm
 refine sq<|s0<|a6 2 hm (I.mono J.ag) ?_
 intro al hm
 refine bp 0 0 (fun aa=> .int .u8 (aa.toNat:Int)) hm (I.mono J.ag) J ?_
 intro aa an hm
 refine aD 0 hm ?_ ?_ (kd:= .u8)<;>intro ao hm
 refine xn 7<|dT<|sp 1<|rt<|⟨rfl,?_⟩
 obtain rfl:=si hm
 refine ⟨_,_,_,tk (V 1) (ResL.nil),J,?_⟩
 exact rfl
 refine a6 3 hm (I.mono J.ag) ?_
 intro aq hm
 refine bp 0 0 (fun ab=> .int .u8 (ab.toNat:Int)) hm (I.mono J.ag) J ?_
 intro ab ar hm
 refine aD 0 hm ?_ ?_ (kd:= .u8)<;>intro au hm
 refine xn 1<|dT<|sp 1<|rt<|⟨rfl,?_⟩
 obtain rfl:=si hm
 refine ⟨_,_,_,tk (V 1) (ResL.nil),J,?_⟩
 exact rfl
 refine xn 1<|dF<|sk<|sp 1<|rt<|⟨rfl,?_⟩
 obtain rfl:=si hm
 refine ⟨_,_,_,tk (V 0) (ResL.nil),J,?_⟩
 exact rfl
 refine s0<|a6 2 j I ?_
 intro av j
 refine bp 0 0 (fun ad=> .int .u8 (ad.toNat:Int)) j I hS ?_
 intro ad aw j
 refine aD 0 j ?_ ?_ (kd:= .u8)<;>intro ax j
 refine bM 4 v2 (RS.len I)<|aO 0 j ?_ ?_<;>intro ay j
 refine a6 5 j I ?_
 intro az j
 refine bp 0 0 (fun ae=> .int .u8 (ae.toNat:Int)) j I hS ?_
 intro ae aA j
 refine aD 0 j ?_ ?_ (kd:= .u8)<;>intro aB j
 refine xn 1<|dT<|sp 1<|rt<|⟨rfl,?_⟩
 obtain rfl:=si j
 obtain rfl:=si hm
 refine ⟨_,_,_,tk (V 2) (ResL.nil),hS,?_⟩
 exact rfl
 refine xn 1<|dF<|sk ?_
 obtain rfl:=si j
 exact ⟨_,rfl,(by kernel_rfl),hS⟩
 refine xn 9<|dF<|sk ?_
 obtain rfl:=si j
 exact ⟨_,rfl,(by kernel_rfl),hS⟩
 refine xn 15<|dF<|sk ?_
 obtain rfl:=si j
 exact ⟨_,rfl,(by kernel_rfl),hS⟩
def jR (F:Nat) (a0:aE) (a1:Int):Option Bool:=
 if (a0.B.length:Int)≤a1 then
  some true
 else
  if 0≤a1∧a1<(a0.B.length:Int) then
   (a0.B[a1.toNat]?).bind fun j=>
   (gq F (j.toNat:Int)).bind fun I=>
   if I=true then
    some true
   else
    (correctorref2_Break F a0.B a1).bind fun J=>
    if (0:Int)<J then
     some true
    else
     some false
  else none
theorem rE (F:Nat) {h:AH} {Z:Zn} {a0:aE} {a1:Int} {aa j ab} (hI:Inv Z h) (I:RS (α:=UInt8) Z j a0.B) (ah:RS (α:=ak) Z ab a0.L) (U:Z aa=some (a9 j ab a0)) {r:Bool} (hm:jR F a0 a1=some r):
  bU Try.prog 55 [Pt aa 0,V a1] h Z (.bool r):=by
 refine b1 Try.func55 hI ?_
 intro hs hS
 unfold jR at hm
 refine sp 1<|s0<|bu 4 j hS U<|bM 0 j (RS.len I)<|cv 0 hm ?_ ?_<;>intro aj hm
 refine xn 20<|rt<|⟨rfl,?_⟩
 obtain rfl:=si hm
 refine ⟨_,_,_,tk (.bool true) (ResL.nil),hS,?_⟩
 exact rfl
 refine bu 4 j hS U<|a6 1 hm I ?_
 intro al hm
 refine bp 0 0 (fun ad=> .int .u8 (ad.toNat:Int)) hm I hS ?_
 intro ad an hm
 obtain ⟨ao,af,hm⟩:=ai hm
 refine cP 0 hS (jV F hS.inv af) ?_
 rintro _ aq J rfl
 refine kb 2 22 hm ?_ ?_<;>intro ar hm
 refine xn 9<|rt<|⟨rfl,?_⟩
 obtain rfl:=si hm
 refine ⟨_,_,_,tk (.bool true) (ResL.nil),J,?_⟩
 exact rfl
 refine bu 3 j J U ?_
 obtain ⟨au,ag,hm⟩:=ai hm
 refine cP 1 J (lV F J.inv I ag) ?_
 rintro _ av ae rfl
 refine cC 0 hm ?_ ?_<;>intro aw hm
 refine xn 2<|rt<|⟨rfl,?_⟩
 obtain rfl:=si hm
 refine ⟨_,_,_,tk (.bool true) (ResL.nil),ae,?_⟩
 exact rfl
 refine xn 2<|rt<|⟨rfl,?_⟩
 obtain rfl:=si hm
 refine ⟨_,_,_,tk (.bool false) (ResL.nil),ae,?_⟩
 exact rfl
def l4 (F:Nat) (a0:aE) (a1:Int):Option Int:=
 (ib F a0 a1).bind fun j=>
 if (a0.B.length:Int)<(af (a1+3)) then
  some 0
 else
  if 0≤(af (a1+1))∧(af (a1+1))<(a0.B.length:Int) then
   (a0.B[(af (a1+1)).toNat]?).bind fun I=>
   if (I.toNat:Int)=(j.toNat:Int) then
    if 0≤(af (a1+2))∧(af (a1+2))<(a0.B.length:Int) then
     (a0.B[(af (a1+2)).toNat]?).bind fun J=>
     if (J.toNat:Int)=(j.toNat:Int) then
      (jR F a0 (af (a1+3))).bind fun U=>
      if U=true then
       if (j.toNat:Int)=(45:Int) then
        some 20
       else
        if (j.toNat:Int)=(46:Int) then
         some 21
        else
         some 0
      else
       some 0
     else
      some 0
    else none
   else
    some 0
  else none
theorem s8 (F:Nat) {h:AH} {Z:Zn} {a0:aE} {a1:Int} {ab J ad} (hI:Inv Z h) (I:RS (α:=UInt8) Z J a0.B) (ae:RS (α:=ak) Z ad a0.L) (U:Z ab=some (a9 J ad a0)) {r:Int} (hm:l4 F a0 a1=some r):
  bU Try.prog 36 [Pt ab 0,V a1] h Z (V r):=by
 refine b1 Try.func36 hI ?_
 intro hs hS
 unfold l4 at hm
 refine sp 1<|s0 ?_
 obtain ⟨al,ah,hm⟩:=ai hm
 refine cP 2 hS (nY F hS.inv I ae U ah) ?_
 rintro _ an j rfl
 refine xn 1<|sq<|s0<|bu 5 J j U<|bM 0 J (RS.len I)<|cC 0 hm ?_ ?_<;>intro ao hm
 refine xn 31<|dT<|sp 1<|rt<|⟨rfl,?_⟩
 obtain rfl:=si hm
 refine ⟨_,_,_,tk (V 0) (ResL.nil),j,?_⟩
 exact rfl
 refine bu 4 J j U<|a6 2 hm I ?_
 intro aq hm
 refine bp 0 0 (fun af=> .int .u8 (af.toNat:Int)) hm I j ?_
 intro af ar hm
 refine cZ 1 hm ?_ ?_ (kd:= .u8)<;>intro au hm
 refine bu 5 J j U<|a6 2 hm I ?_
 intro av hm
 refine bp 0 0 (fun ag=> .int .u8 (ag.toNat:Int)) hm I j ?_
 intro ag aw hm
 refine cZ 1 hm ?_ ?_ (kd:= .u8)<;>intro ax hm
 obtain ⟨ay,aj,hm⟩:=ai hm
 refine cP 5 j (rE F j.inv I ae U aj) ?_
 rintro _ az aa rfl
 refine kb 0 45 hm ?_ ?_<;>intro aA hm
 refine xn 2<|dF<|sk<|sq<|s0<|aD 1 hm ?_ ?_ (kd:= .u8)<;>intro aB hm
 refine xn 0<|dT<|sp 1<|rt<|⟨rfl,?_⟩
 obtain rfl:=si hm
 refine ⟨_,_,_,tk (V 20) (ResL.nil),aa,?_⟩
 exact rfl
 refine xn 0<|dF<|sk<|sq<|s0<|aD 1 hm ?_ ?_ (kd:= .u8)<;>intro aC hm
 refine xn 0<|dT<|sp 1<|rt<|⟨rfl,?_⟩
 obtain rfl:=si hm
 refine ⟨_,_,_,tk (V 21) (ResL.nil),aa,?_⟩
 exact rfl
 refine xn 0<|dF<|sk<|sp 1<|rt<|⟨rfl,?_⟩
 obtain rfl:=si hm
 refine ⟨_,_,_,tk (V 0) (ResL.nil),aa,?_⟩
 exact rfl
 refine xn 2<|dT<|sp 1<|rt<|⟨rfl,?_⟩
 obtain rfl:=si hm
 refine ⟨_,_,_,tk (V 0) (ResL.nil),aa,?_⟩
 exact rfl
 refine xn 8<|dT<|sp 1<|rt<|⟨rfl,?_⟩
 obtain rfl:=si hm
 refine ⟨_,_,_,tk (V 0) (ResL.nil),j,?_⟩
 exact rfl
 refine xn 20<|dT<|sp 1<|rt<|⟨rfl,?_⟩
 obtain rfl:=si hm
 refine ⟨_,_,_,tk (V 0) (ResL.nil),j,?_⟩
 exact rfl
def fh (F:Nat) (a0:Int):Option Bool:=
 if a0=(1:Int) then
  some false
 else
  if a0=(2:Int) then
   some false
  else
   if a0=(3:Int) then
    some false
   else
    if a0=(4:Int) then
     some false
    else
     some true
theorem iS (F:Nat) {h:AH} {Z:Zn} {a0:Int} (hI:Inv Z h) {r:Bool} (hm:fh F a0=some r):
  bU Try.prog 41 [V a0] h Z (.bool r):=by
 refine b1 Try.func41 hI ?_
 intro hs hS
 unfold fh at hm
 refine sp 1<|s0<|cZ 1 hm ?_ ?_<;>intro j hm
 refine xn 13<|rt<|⟨rfl,?_⟩
 obtain rfl:=si hm
 refine ⟨_,_,_,tk (.bool false) (ResL.nil),hS,?_⟩
 exact rfl
 refine cZ 2 hm ?_ ?_<;>intro I hm
 refine xn 10<|rt<|⟨rfl,?_⟩
 obtain rfl:=si hm
 refine ⟨_,_,_,tk (.bool false) (ResL.nil),hS,?_⟩
 exact rfl
 refine cZ 3 hm ?_ ?_<;>intro J hm
 refine xn 6<|rt<|⟨rfl,?_⟩
 obtain rfl:=si hm
 refine ⟨_,_,_,tk (.bool false) (ResL.nil),hS,?_⟩
 exact rfl
 refine cZ 3 hm ?_ ?_<;>intro U hm
 refine xn 2<|rt<|⟨rfl,?_⟩
 obtain rfl:=si hm
 refine ⟨_,_,_,tk (.bool false) (ResL.nil),hS,?_⟩
 exact rfl
 refine xn 2<|rt<|⟨rfl,?_⟩
 obtain rfl:=si hm
 refine ⟨_,_,_,tk (.bool true) (ResL.nil),hS,?_⟩
 exact rfl
def zf:List bq:=[uP 19 (mv 0),uP 20 (mv 0),uP 21 (nk 20),uP 22 (fa 81 21 1),uL 23 (ld 3 22),uP 24 (mv 0),uP 25 (nk 24),uP 26 (fa 81 25 2),uL 27 (ld 3 26),uP 28 (bo .sub 3 23 27 3),uP 29 (nk 19),uP 30 (fa 81 29 4),oF (.store 3 (t 30) (t 28)) .make [4,8]]
def Bh:List bq:=[uP 48 (mv 0),uP 49 (mv 0),uP 50 (nk 49),uP 51 (fa 81 50 7),uL 52 (ld 24 51),uP 53 (mv 1),uP 54 (mv 0),uP 55 (nk 54),uP 56 (fa 81 55 1),uL 57 (ld 3 56),uP 58 (mv 2),uP 59 (.build 85 #[(0,(t 53)),(1,(t 57)),(2,(t 58))]),uF 60 (.buildSlice 24 1 #[(0,(t 59))]) .fresh [],uF 61 (cb .append #[(t 52),(t 60)] #[24,24]) .make [4,9],uP 62 (nk 48),uP 63 (fa 81 62 7),oF (.store 24 (t 63) (t 61)) .make [4,9]]
def cS (F:Nat) (a0:aE) (a1:Int) (J:Int):Option aE:=
 (((((fh F a1).bind fun U=>
   if U=true then
    if a1=(19:Int) then
     some false
    else
     if a0.bT<(0:Int) then
      some true
     else
      some false
   else
    some false):Option Bool).bind fun o=>match o with
   | aa=>if aa=true then
    some (⟨a0.B,a0.At,a0.Row,a0.Open,af (a0.At - a0.Row),a0.cg,a0.Text,a0.L⟩:aE)
   else
    some a0):Option aE).bind fun o=>match o with
  | j=>((if a1=(2:Int) then
    some j
   else
    if a1=(3:Int) then
     some j
    else
     if a1=(5:Int) then
      some j
     else
      if a1=(20:Int) then
       some j
      else
       some (⟨j.B,j.At,j.Row,j.Open,j.bT,false,j.Text,j.L⟩:aE)):Option aE).bind fun o=>match o with
   | I=>if I.L.length+[(⟨a1,I.At,J⟩:ak)].length≤5864062014805 then
    some (⟨I.B,J,I.Row,I.Open,I.bT,I.cg,I.Text,I.L++[(⟨a1,I.At,J⟩:ak)]⟩:aE)
   else none
theorem dO (F:Nat) {h:AH} {Z:Zn} {a0:aE} {a1:Int} {U:Int} {I aj J an} (hP:Pre Z h [.ae I (a9 aj J a0), .gs J an (aa ak)]) (aW:RS (α:=UInt8) Z aj a0.B) (aX:RCs (α:=ak) Z an a0.L) {r:aE} (hm:cS F a0 a1 U=some r):
  bX Try.prog 37 [Pt I 0,V a1,V U] h Z [.ae I (a9 aj J a0), .gs J an (aa ak)] fun v Z' A'=>∃ aY v10 aZ, .tuple #[]=v∧A'=[.ae I (a9 aY v10 r), .gs v10 aZ (aa ak)]∧RS (α:=UInt8) Z' aY r.B∧RCs (α:=ak) Z' aZ r.L:=by
 refine cm Try.func37 hP ?_
 intro hs hS
 unfold cS at hm
 refine sq ?_
 obtain ⟨bg,au,hm⟩:=ai hm
 refine aH [0,1,2] (fun l h=>∃ aF ad ao ar,ad=bg∧RS (α:=UInt8) aF ao ad.B∧RCs (α:=ak) aF ar ad.L∧l=[(0,Pt I 0),(1,V a1),(2,V U)]∧St hs (aR [.ae I (a9 aj J a0), .gs J an (aa ak)]) Z (0,0) aF h [.ae I (a9 ao J ad), .gs J ar (aa ak)]) ?_ ?_
 rintro l bD ⟨aF,ad,ao,ar,rfl,ax,ay,rfl,az⟩
 try dsimp only at hm
 refine sq ?_
 obtain ⟨bh,ah,hm⟩:=ai hm
 refine aH [0,1,2] (fun l h=>∃ aC ab aq aG,ab=bh∧RS (α:=UInt8) aC aq ab.B∧RCs (α:=ak) aC aG ab.L∧l=[(0,Pt I 0),(1,V a1),(2,V U)]∧St hs (aR [.ae I (a9 aj J a0), .gs J an (aa ak)]) Z (0,0) aC h [.ae I (a9 aq J ab), .gs J aG (aa ak)]) ?_ ?_
 rintro l bE ⟨aC,ab,aq,aG,rfl,bj,bk,rfl,bl⟩
 try dsimp only at hm
 refine cT Bh bl ?_
 intro a2 bF a3 aI
 refine yq 4 [(51,Pt I 7),(48,Pt I 0),(0,Pt I 0),(1,V a1),(2,V U)] ?_
 have bG:I<a2:=a3.1 _ (List.mem_of_getElem? (i:=0) rfl) _ (by simp [Itm.ids])
 refine aU (v:=J) rfl trivial rfl (by show I<_;omega) (aB (v:=J) (aI.dk (i:=1) rfl)) (aI.aP (i:=0) rfl (by kernel_rfl)) trivial<|yq 4 [(56,Pt I 1),(53,V a1),(52,J),(48,Pt I 0),(0,Pt I 0),(2,V U)] ?_
 have bI:I<a2:=a3.1 _ (List.mem_of_getElem? (i:=0) rfl) _ (by simp [Itm.ids])
 refine aU (v:=V ab.At) rfl trivial rfl (by show I<_;omega) (aB (v:=V ab.At) trivial) (aI.aP (i:=0) rfl (by kernel_rfl)) trivial<|yq 2 [(59, .agg #[V a1,V ab.At,V U]),(52,J),(48,Pt I 0),(0,Pt I 0),(2,V U)] ?_
 have bm:RCs (α:=ak) aC [V a1,V ab.At,V U] [(⟨a1,ab.At,U⟩:ak)]:=RCs.cons (cs:=[V a1,V ab.At,V U]) rfl (RCs.bA _)
 refine jc rfl trivial (c6 (cells:=[V a1,V ab.At,V U]) (s:=3) (by kernel_rfl)) (by kernel_rfl) aI (by omega) (Nat.add_lt_add_left (by decide) _) ?_
 intro a4 bJ bK bL bM a6
 obtain ⟨bN,hm⟩:=aK hm
 have aJ:St _ _ _ _ _ _ ([.gs J aG (aa ak)]++[.gs a4 [V a1,V ab.At,V U] (aa ak), .ae I (a9 aq J ab)]):=(a6.front 2 rfl)
 refine iT rfl trivial aJ (dZ (ys:=[(⟨a1,ab.At,U⟩:ak)]) (b4:=24) aJ.sub (i:=0) rfl bk ((a6.cD).eK (j:=0) rfl bm) rfl rfl (by kernel_rfl) (by omega) (by omega)) (aM.refl _) (.aT (aJ.bz 1 rfl bH) (.aT (aJ.bz 1 rfl bH) .nil)) ?_
 rintro av a7 bO ⟨bn,aL⟩
 refine yq 2 [(63,Pt I 7),(61,av),(0,Pt I 0),(2,V U)] ?_
 have ba:St _ _ _ _ _ _ ([.ae I (a9 aq J ab)]++[.gs av a7 (aa ak), .gs a4 [V a1,V ab.At,V U] (aa ak)]):=(aL.front 2 rfl)
 refine fM rfl trivial ba (fI (vs:=[av]) (cr:=(a9 aq av ab)) (L':=[.ae I (a9 aq av ab)]) ba.sub (i:=0) rfl rfl rfl (aL.gb (i:=0) rfl) (by kernel_rfl) (a8 (aL.fV (i:=0) rfl) cc) rfl rfl rfl) (aM.refl _) (.drop (by decide) (.drop (by decide) .nil)) ?_
 intro bP bo
 refine yf [(0,Pt I 0),(2,V U)] ?_
 have bp:=bo.a5
 refine g0<|bB 4 0 (V U) [V U] [aq,V U,V ab.Row,V ab.Open,V ab.bT, .bool ab.cg,V ab.Text,av] bp rfl rfl rfl ?_
 intro bQ br
 refine xn 0 ?_
 obtain rfl:=si hm
 refine ⟨_,_,_,ResL.nil,(br.takeN 2),?_⟩
 exact ⟨aq,av,a7,rfl,rfl,bj,bn⟩
 refine s0<|cZ 1 ah ?_ ?_<;>intro bR ah
 refine xn 12<|dF<|sk ?_
 obtain rfl:=si ah
 exact ⟨_,ad,ao,ar,rfl,ax,ay,(by kernel_rfl),az⟩
 refine cZ 2 ah ?_ ?_<;>intro bS ah
 refine xn 9<|dF<|sk ?_
 obtain rfl:=si ah
 exact ⟨_,ad,ao,ar,rfl,ax,ay,(by kernel_rfl),az⟩
 refine cZ 3 ah ?_ ?_<;>intro bU ah
 refine xn 5<|dF<|sk ?_
 obtain rfl:=si ah
 exact ⟨_,ad,ao,ar,rfl,ax,ay,(by kernel_rfl),az⟩
 refine cZ 3 ah ?_ ?_<;>intro bV ah
 refine xn 1<|dF<|sk ?_
 obtain rfl:=si ah
 exact ⟨_,ad,ao,ar,rfl,ax,ay,(by kernel_rfl),az⟩
 refine xn 1<|dT<|g0<|bB 3 0 (.bool false) [.bool false] [ao,V ad.At,V ad.Row,V ad.Open,V ad.bT, .bool false,V ad.Text,J] az rfl rfl rfl ?_
 intro bW bt
 refine xn 0 ?_
 obtain rfl:=si ah
 exact ⟨_,(⟨ad.B,ad.At,ad.Row,ad.Open,ad.bT,false,ad.Text,ad.L⟩:aE),ao,ar,rfl,ax,ay,(by kernel_rfl),bt⟩
 refine sq ?_
 obtain ⟨bu,al,au⟩:=ai au
 refine aH [0,1,2,18] (fun l h=>∃ bb aN,aN=bu∧l=[(0,Pt I 0),(1,V a1),(2,V U),(18, .bool aN)]∧St hs (aR [.ae I (a9 aj J a0), .gs J an (aa ak)]) Z (0,0) bb h [.ae I (a9 aj J a0), .gs J an (aa ak)]) ?_ ?_
 rintro l bY ⟨bb,aN,rfl,rfl,aw⟩
 try dsimp only at au
 refine db au ?_ ?_<;>intro bZ au
 refine ea zf aw ?_
 intro bc b0 bd aS
 refine yq 4 [(22,Pt I 1),(19,Pt I 0),(0,Pt I 0),(1,V a1),(2,V U)] ?_
 have b1:I<bc:=bd.1 _ (List.mem_of_getElem? (i:=0) rfl) _ (by simp [Itm.ids])
 refine aU (v:=V a0.At) rfl trivial rfl (by show I<_;omega) (aB (v:=V a0.At) trivial) (aS.aP (i:=0) rfl (by kernel_rfl)) trivial<|yq 3 [(26,Pt I 2),(23,V a0.At),(19,Pt I 0),(0,Pt I 0),(1,V a1),(2,V U)] ?_
 have b2:I<bc:=bd.1 _ (List.mem_of_getElem? (i:=0) rfl) _ (by simp [Itm.ids])
 refine aU (v:=V a0.Row) rfl trivial rfl (by show I<_;omega) (aB (v:=V a0.Row) trivial) (aS.aP (i:=0) rfl (by kernel_rfl)) trivial<|yq 3 [(30,Pt I 4),(28,V (af (a0.At - a0.Row))),(0,Pt I 0),(1,V a1),(2,V U)] ?_
 have bf:St _ _ _ _ _ _ ([.ae I (a9 aj J a0)]++[.gs J an (aa ak)]):=(aS.front 0 rfl)
 refine fM rfl trivial bf (fI (vs:=[V (af (a0.At - a0.Row))]) (cr:=[aj,V a0.At,V a0.Row,V a0.Open,V (af (a0.At - a0.Row)), .bool a0.cg,V a0.Text,J]) (L':=[.ae I [aj,V a0.At,V a0.Row,V a0.Open,V (af (a0.At - a0.Row)), .bool a0.cg,V a0.Text,J]]) bf.sub (i:=0) rfl rfl rfl rfl (by kernel_rfl) rfl rfl rfl rfl) (aM.refl _) (.drop (by decide) (.drop (by decide) .nil)) ?_
 intro b3 bw
 refine yf [(0,Pt I 0),(1,V a1),(2,V U)] ?_
 have bx:=bw.a5
 obtain rfl:=si au
 exact ⟨_,(⟨a0.B,a0.At,a0.Row,a0.Open,af (a0.At - a0.Row),a0.cg,a0.Text,a0.L⟩:aE),aj,an,rfl,(aW.mono aw.ag),(aX.mono aw.ag),(by kernel_rfl),bx⟩
 refine sk ?_
 obtain rfl:=si au
 exact ⟨_,a0,aj,an,rfl,(aW.mono aw.ag),(aX.mono aw.ag),(by kernel_rfl),aw⟩
 refine g0 ?_
 obtain ⟨b5,bC,al⟩:=ai al
 refine cP 1 hS (iS F hS.inv bC) ?_
 rintro _ b6 aD rfl
 refine kb 1 8 al ?_ ?_<;>intro b7 al
 refine cZ 1 al ?_ ?_<;>intro b8 al
 refine xn 8 ?_
 obtain rfl:=si al
 exact ⟨_,false,rfl,(by kernel_rfl),aD⟩
 refine aA 5 0 (V a0.bT) aD rfl<|aO 0 al ?_ ?_<;>intro b9 al
 refine xn 1 ?_
 obtain rfl:=si al
 exact ⟨_,true,rfl,(by kernel_rfl),aD⟩
 refine xn 1 ?_
 obtain rfl:=si al
 exact ⟨_,false,rfl,(by kernel_rfl),aD⟩
 refine xn 10 ?_
 obtain rfl:=si al
 exact ⟨_,false,rfl,(by kernel_rfl),aD⟩
def correctorref6_scanner_rowEnd_l0 (F:Nat) (a0:aE) (a1:Int):Nat→Int→Option Int
 | 0,_=>none
 | n+1,j=>
  if j<(a0.B.length:Int) then
   (correctorref2_Break F a0.B j).bind fun I=>
   if I=(0:Int) then
    correctorref6_scanner_rowEnd_l0 F a0 a1 n (af (j+1))
   else
    some j
  else
   some j
def fC (F:Nat) (a0:aE) (a1:Int):Option Int:=
 ((correctorref6_scanner_rowEnd_l0 F a0 a1 F a1):Option Int).bind fun o=>match o with
  | j=>some j
theorem ki (F:Nat) {h:AH} {Z:Zn} {a0:aE} {a1:Int} {ab U ah} (hI:Inv Z h) (aj:RS (α:=UInt8) Z U a0.B) (av:RS (α:=ak) Z ah a0.L) (al:Z ab=some (a9 U ah a0)) {r:Int} (hm:fC F a0 a1=some r):
  bU Try.prog 59 [Pt ab 0,V a1] h Z (V r):=by
 refine b1 Try.func59 hI ?_
 intro hs hS
 unfold fC at hm
 refine sp 1<|sq ?_
 obtain ⟨ad,j,hm⟩:=ai hm
 refine aH [1] (fun l h=>∃ an aa,aa=ad∧l=[(1,V aa)]∧St hs [] Z (0,0) an h []) ?_ ?_
 rintro l aw ⟨an,aa,rfl,rfl,ar⟩
 try dsimp only at hm
 refine sp 2<|rt<|⟨rfl,?_⟩
 obtain rfl:=si hm
 refine ⟨_,_,_,tk (V aa) (ResL.nil),ar,?_⟩
 exact rfl
 refine bk 0<|lp [0,1] (fun n l h=>∃ ao J,correctorref6_scanner_rowEnd_l0 F a0 a1 n J=some ad∧l=[(0,Pt ab 0),(1,V J)]∧St hs [] Z (0,0) ao h []) F ⟨_,a1,j,(by kernel_rfl),hS⟩ ?_
 rintro ae l ax ⟨ao,J,j,rfl,I⟩
 rcases ae with _ | ae
 cases (show none=some ad from j)
 rw [correctorref6_scanner_rowEnd_l0] at j
 refine sq<|s0<|bu 4 U I (I.ag _ _ al)<|bM 0 U (RS.len (aj.mono I.ag))<|aO 0 j ?_ ?_<;>intro ay j
 refine bu 4 U I (I.ag _ _ al) ?_
 obtain ⟨az,au,j⟩:=ai j
 refine cP 1 I (lV F I.inv (aj.mono I.ag) au) ?_
 rintro _ aA aq rfl
 refine aD 0 j ?_ ?_<;>intro aB j
 refine xn 1<|dT<|sk<|bk 1<|gp 3 ?_
 exact ⟨ae,Nat.lt_succ_self _,⟨_,af (J+1),j,(by kernel_rfl),aq⟩⟩
 refine xn 1<|dF<|xt 0<|aN ?_
 obtain rfl:=si j
 exact ⟨_,J,rfl,(by kernel_rfl),aq⟩
 refine xn 9<|dF<|xt 0<|aN ?_
 obtain rfl:=si j
 exact ⟨_,J,rfl,(by kernel_rfl),I⟩
def zs:List bq:=[uP 13 (mv 0),uP 14 (nk 13),uP 15 (fa 81 14 1),uL 16 (ld 3 15),uP 17 (mv 0),uP 18 (nk 17),uP 19 (fa 81 18 0),uL 20 (ld 31 19),uP 21 (cb .len #[(t 20)] #[31]),uP 22 (bo .lss 3 16 21 3),uP 23 (mv 22),aI 23 24 (mv 0),aI 23 25 (mv 0),aI 23 26 (nk 25),aI 23 27 (fa 81 26 1),cJ 23 28 (ld 3 27),jE 23 (some 29) (cf 36 #[(t 24),(t 28)] #[79,3]) .make [3,7,15],aI 23 30 (bc .eql 3 29 0 3),uP 31 (pf 23 30)]
def correctorref6_scanner_texts_l1 (F:Nat) (a0:aE):Nat→aE→Int→Int→Option (aE×Int×Int)
 | 0,_,_,_=>none
 | n+1,I,J,j=>
  if j<J then
   if 0≤j∧j<(I.B.length:Int) then
    (I.B[j.toNat]?).bind fun U=>
    if (U.toNat:Int)=(32:Int) then
     correctorref6_scanner_texts_l1 F a0 n I J (af (j+1))
    else
     some (I,J,j)
   else none
  else
   some (I,J,j)
def correctorref6_scanner_texts_l2 (F:Nat) (a0:aE):Nat→aE→Int→Int→Int→Option (aE×Int×Int×Int)
 | 0,_,_,_,_=>none
 | n+1,I,J,U,j=>
  if j<J then
   if 0≤j∧j<(I.B.length:Int) then
    (I.B[j.toNat]?).bind fun aa=>
    (gq F (aa.toNat:Int)).bind fun ab=>
    if ab=true then
     correctorref6_scanner_texts_l2 F a0 n I J U (af (j+1))
    else
     some (I,J,U,j)
   else none
  else
   some (I,J,U,j)
def correctorref6_scanner_texts_l0 (F:Nat) (a0:aE):Nat→aE→Option (Sum aE aE)
 | 0,_=>none
 | n+1,j=>
  if j.At<(j.B.length:Int) then
   (l4 F j j.At).bind fun ab=>
   if ab=(0:Int) then
    (fC F j j.At).bind fun ad=>
    ((correctorref6_scanner_texts_l1 F a0 F j ad j.At):Option (aE×Int×Int)).bind fun o=>match o with
     | (ae,ag,U)=>((correctorref6_scanner_texts_l2 F a0 F ae ag U U):Option (aE×Int×Int×Int)).bind fun o=>match o with
      | (I,J,ah,ai)=>((if ai<J then
        if (af (ah - I.At))≤a0.Text then
         some (.inr I)
        else
         some (.inl I)
       else
        some (.inl I)):Option (Sum aE aE)).bind fun o=>match o with
       | .inl aa=>(correctorref2_Break F aa.B J).bind fun aj=>
       (cS F aa 19 (af (J+aj))).bind fun al=>
       (n0 F al).bind fun an=>
       correctorref6_scanner_texts_l0 F a0 n an
       | .inr y=>some (.inr y)
   else
    some (.inl j)
  else
   some (.inl j)
def nT (F:Nat) (a0:aE):Option aE:=
 ((correctorref6_scanner_texts_l0 F a0 F (⟨a0.B,a0.At,a0.Row,a0.Open,a0.bT,a0.cg,(-2),a0.L⟩:aE)):Option (Sum aE aE)).bind fun o=>match o with
  | .inl j=>some j
  | .inr y=>some y
theorem vC (F:Nat) {h:AH} {Z:Zn} {a0:aE} {j ag J ah} (hP:Pre Z h [.ae j (a9 ag J a0), .gs J ah (aa ak)]) (cf:RS (α:=UInt8) Z ag a0.B) (ch:RCs (α:=ak) Z ah a0.L) {r:aE} (hm:nT F a0=some r):
  bX Try.prog 57 [Pt j 0] h Z [.ae j (a9 ag J a0), .gs J ah (aa ak)] fun v Z' A'=>∃ b1 v10 b2, .tuple #[]=v∧A'=[.ae j (a9 b1 v10 r), .gs v10 b2 (aa ak)]∧RS (α:=UInt8) Z' b1 r.B∧RCs (α:=ak) Z' b2 r.L:=by
 refine cm Try.func57 hP ?_
 intro hs hS
 unfold nT at hm
 refine s0<|aA 3 0 (V a0.Text) hS rfl<|xn 1<|s0<|bB 3 0 (V (-2)) [V (-2)] [ag,V a0.At,V a0.Row,V a0.Open,V a0.bT, .bool a0.cg,V (-2),J] hS rfl rfl rfl ?_
 intro c8 cj
 refine xn 0 ?_
 obtain ⟨bF,I,hm⟩:=ai hm
 refine aH [] (fun l h=>∃ bc aZ bd bg bh, .inl aZ=bF∧RS (α:=UInt8) bc bd aZ.B∧RCs (α:=ak) bc bh aZ.L∧l=[]∧St hs (aR [.ae j (a9 ag J a0), .gs J ah (aa ak)]) Z (0,0) bc h [.ae j (a9 bd bg aZ), .gs bg bh (aa ak)]) ?_ ?_
 rintro l c9 ⟨bc,aZ,bd,bg,bh,rfl,ck,cl,rfl,cn⟩
 try dsimp only at hm
 obtain rfl:=si hm
 refine ⟨_,_,_,ResL.nil,cn,?_⟩
 exact ⟨bd,bg,bh,rfl,rfl,ck,cl⟩
 refine bk 0<|lp [0,2] (fun n l h=>∃ bj U aj al an,correctorref6_scanner_texts_l0 F a0 n U=some bF∧RS (α:=UInt8) bj aj U.B∧RCs (α:=ak) bj an U.L∧l=[(0,Pt j 0),(2,V a0.Text)]∧St hs (aR [.ae j (a9 ag J a0), .gs J ah (aa ak)]) Z (0,0) bj h [.ae j (a9 aj al U), .gs al an (aa ak)]) F ⟨_,(⟨a0.B,a0.At,a0.Row,a0.Open,a0.bT,a0.cg,(-2),a0.L⟩:aE),ag,J,ah,I,cf,ch,(by kernel_rfl),cj⟩ ?_
 rintro bG l da ⟨bj,U,aj,al,an,I,au,a1,rfl,cp⟩
 rcases bG with _ | bG
 cases (show none=some bF from I)
 rw [correctorref6_scanner_texts_l0] at I
 refine sq<|cT zs cp ?_
 intro bH dc bI ay
 refine yq 3 [(15,Pt j 1),(0,Pt j 0),(2,V a0.Text)] ?_
 have dd:j<bH:=bI.1 _ (List.mem_of_getElem? (i:=0) rfl) _ (by simp [Itm.ids])
 refine aU (v:=V U.At) rfl trivial rfl (by show j<_;omega) (aB (v:=V U.At) trivial) (ay.aP (i:=0) rfl (by kernel_rfl)) trivial<|yq 3 [(19,Pt j 0),(16,V U.At),(0,Pt j 0),(2,V a0.Text)] ?_
 have de:j<bH:=bI.1 _ (List.mem_of_getElem? (i:=0) rfl) _ (by simp [Itm.ids])
 refine aU (v:=aj) rfl trivial rfl (by show j<_;omega) (aB (v:=aj) (RS.dD au)) (ay.aP (i:=0) rfl (by kernel_rfl)) trivial<|aF rfl trivial (gP rfl (RS.len au) ⟨_,Try.underlying31⟩) ?_
 rcases ifs I with ⟨bJ,I⟩ | ⟨bJ,I⟩
 refine aF rfl trivial (br rfl rfl (mQ bJ))<|yq 5 [(27,Pt j 1),(24,Pt j 0),(23, .bool true),(0,Pt j 0),(2,V a0.Text)] ?_
 have df:j<bH:=bI.1 _ (List.mem_of_getElem? (i:=0) rfl) _ (by simp [Itm.ids])
 refine aU (v:=V U.At) rfl rfl rfl (by show j<_;omega) (aB (v:=V U.At) trivial) (ay.aP (i:=0) rfl (by kernel_rfl)) trivial ?_
 obtain ⟨dh,cq,I⟩:=ai I
 have b3:=ay.cD
 obtain ⟨di,bK,cr,b4⟩:=St.ko (L:=[.ae j (a9 aj al U), .gs al an (aa ak)]) b3
 obtain ⟨dj,dk,ct,bl,rfl⟩:=s8 F cr (RS.mono bK au) (bf.row (b4 _ (List.mem_of_getElem? (i:=1) rfl)) bK a1) (b4 _ (List.mem_of_getElem? (i:=0) rfl)) cq
 replace bl:=St.ku bK bl
 have cu:=St.call (A:=[]) (B:=[.ae j (a9 aj al U), .gs al an (aa ak)]) b3 bl
 refine eM rfl rfl ay (cV ct rfl rfl rfl) cu (St.eC bl) ?_
 intro dm b5
 rcases ifs I with ⟨bL,I⟩ | ⟨bL,I⟩
 refine aF rfl rfl (br rfl rfl (eU bL))<|ye 1 [(31, .bool true),(0,Pt j 0),(2,V a0.Text)] ?_
 have b6:=b5.a5
 refine dT<|sk<|bk 1<|s0<|aA 4 0 (V U.At) b6 rfl ?_
 obtain ⟨cv,cx,I⟩:=ai I
 refine cE 0 b6 (fun dn b7 cy b8=>ki F cy (RS.mono b7 au) (bf.row (b8 _ (List.mem_of_getElem? (i:=1) rfl)) b7 a1) (b8 _ (List.mem_of_getElem? (i:=0) rfl)) cx) ?_
 rintro _ dp b9 rfl
 refine xn 1<|s0<|aA 3 0 (V U.At) b9 rfl<|xn 1<|sq ?_
 obtain ⟨bM,ad,I⟩:=ai I
 refine aH [0,2,3,4] (fun l h=>∃ bm az bn a2 bo bt bu,(az,bn,a2)=bM∧RS (α:=UInt8) bm bo az.B∧RCs (α:=ak) bm bu az.L∧l=[(0,Pt j 0),(2,V a0.Text),(3,V bn),(4,V a2)]∧St hs (aR [.ae j (a9 ag J a0), .gs J ah (aa ak)]) Z (0,0) bm h [.ae j (a9 bo bt az), .gs bt bu (aa ak)]) ?_ ?_
 rintro l dq ⟨bm,az,bn,a2,bo,bt,bu,rfl,cz,cB,rfl,cC⟩
 try dsimp only at I
 refine sp 2<|sq ?_
 obtain ⟨bN,ab,I⟩:=ai I
 refine aH [0,2,3,4,5] (fun l h=>∃ bw ao bx bO bP aC aG aI,(ao,bx,bO,bP)=bN∧RS (α:=UInt8) bw aC ao.B∧RCs (α:=ak) bw aI ao.L∧l=[(0,Pt j 0),(2,V a0.Text),(3,V bx),(4,V bO),(5,V bP)]∧St hs (aR [.ae j (a9 ag J a0), .gs J ah (aa ak)]) Z (0,0) bw h [.ae j (a9 aC aG ao), .gs aG aI (aa ak)]) ?_ ?_
 rintro l dr ⟨bw,ao,bx,bO,bP,aC,aG,aI,rfl,bQ,bR,rfl,bz⟩
 try dsimp only at I
 refine sq ?_
 obtain ⟨cF,av,I⟩:=ai I
 refine aH [0,2,3] (fun l h=>∃ bA a3 bC bS bU, .inl a3=cF∧RS (α:=UInt8) bA bC a3.B∧RCs (α:=ak) bA bU a3.L∧l=[(0,Pt j 0),(2,V a0.Text),(3,V bx)]∧St hs (aR [.ae j (a9 ag J a0), .gs J ah (aa ak)]) Z (0,0) bA h [.ae j (a9 bC bS a3), .gs bS bU (aa ak)]) ?_ ?_
 rintro l ds ⟨bA,a3,bC,bS,bU,rfl,ca,cG,rfl,bV⟩
 try dsimp only at I
 refine s0<|aA 5 0 bC bV rfl ?_
 obtain ⟨dt,cH,I⟩:=ai I
 refine cP 1 bV (lV F bV.inv ca cH) ?_
 rintro _ du cI rfl
 obtain ⟨dw,cJ,I⟩:=ai I
 refine cA 1 cI (fun p=>dO F p ca cG cJ) ?_
 rintro _ dx dy _ dz cK ⟨dA,cL,dB,rfl,rfl,cM,cN⟩
 refine xn 0<|g0 ?_
 obtain ⟨cR,cS,I⟩:=ai I
 refine cA 1 cK (fun p=>qq F p cM cN cS) ?_
 rintro _ dC dE _ dG cU ⟨cW,cZ,rfl,rfl,c0,c3⟩
 refine xn 0 ?_
 exact ⟨bG,Nat.lt_succ_self _,⟨_,cR,cW,cL,cZ,I,c0,c3,(by kernel_rfl),cU⟩⟩
 refine s0<|aO 2 av ?_ ?_<;>intro dH av
 refine aA 5 0 (V ao.At) bz rfl<|fm 2 av ?_ ?_<;>intro dI av
 refine xn 1<|dT<|rt<|ba<|ba<|⟨rfl,?_⟩
 obtain rfl:=si av
 obtain rfl:=si I
 obtain rfl:=si hm
 refine ⟨_,_,_,ResL.nil,bz,?_⟩
 exact ⟨aC,aG,aI,rfl,rfl,bQ,bR⟩
 refine xn 1<|dF<|sk ?_
 obtain rfl:=si av
 exact ⟨_,ao,aC,aG,aI,rfl,bQ,bR,(by kernel_rfl),bz⟩
 refine xn 10<|dF<|sk ?_
 obtain rfl:=si av
 exact ⟨_,ao,aC,aG,aI,rfl,bQ,bR,(by kernel_rfl),bz⟩
 refine bk 4<|lp [0,2,3,4,5] (fun n l h=>∃ bD aq aJ aK aL aw aM aS,correctorref6_scanner_texts_l2 F a0 n aq aJ aK aL=some bN∧RS (α:=UInt8) bD aw aq.B∧RCs (α:=ak) bD aS aq.L∧l=[(0,Pt j 0),(2,V a0.Text),(3,V aJ),(4,V aK),(5,V aL)]∧St hs (aR [.ae j (a9 ag J a0), .gs J ah (aa ak)]) Z (0,0) bD h [.ae j (a9 aw aM aq), .gs aM aS (aa ak)]) F ⟨_,az,bn,a2,a2,bo,bt,bu,ab,cz,cB,(by kernel_rfl),cC⟩ ?_
 rintro bW l dJ ⟨bD,aq,aJ,aK,aL,aw,aM,aS,ab,a4,bY,rfl,a7⟩
 rcases bW with _ | bW
 cases (show none=some bN from ab)
 rw [correctorref6_scanner_texts_l2] at ab
 refine sq<|s0<|aO 2 ab ?_ ?_<;>intro dK ab
 refine aA 4 0 aw a7 rfl<|a6 1 ab a4 ?_
 intro dL ab
 refine bp 0 0 (fun cb=> .int .u8 (cb.toNat:Int)) ab a4 a7 ?_
 intro cb dM ab
 obtain ⟨dN,c5,ab⟩:=ai ab
 refine cP 0 a7 (jV F a7.inv c5) ?_
 rintro _ dP cc rfl
 refine xn 1<|db ab ?_ ?_<;>intro dQ ab
 refine sk<|bk 5<|gp 3 ?_
 exact ⟨bW,Nat.lt_succ_self _,⟨_,aq,aJ,aK,af (aL+1),aw,aM,aS,ab,a4,bY,(by kernel_rfl),cc⟩⟩
 refine xt 4<|aN ?_
 obtain rfl:=si ab
 exact ⟨_,aq,aJ,aK,aL,aw,aM,aS,rfl,a4,bY,(by kernel_rfl),cc⟩
 refine xn 10<|dF<|xt 4<|aN ?_
 obtain rfl:=si ab
 exact ⟨_,aq,aJ,aK,aL,aw,aM,aS,rfl,a4,bY,(by kernel_rfl),a7⟩
 refine bk 2<|lp [0,2,3,4] (fun n l h=>∃ bE ar aT aW ax aX aY,correctorref6_scanner_texts_l1 F a0 n ar aT aW=some bM∧RS (α:=UInt8) bE ax ar.B∧RCs (α:=ak) bE aY ar.L∧l=[(0,Pt j 0),(2,V a0.Text),(3,V aT),(4,V aW)]∧St hs (aR [.ae j (a9 ag J a0), .gs J ah (aa ak)]) Z (0,0) bE h [.ae j (a9 ax aX ar), .gs aX aY (aa ak)]) F ⟨_,U,cv,U.At,aj,al,an,ad,au,a1,(by kernel_rfl),b9⟩ ?_
 rintro bZ l dR ⟨bE,ar,aT,aW,ax,aX,aY,ad,a8,b0,rfl,bb⟩
 rcases bZ with _ | bZ
 cases (show none=some bM from ad)
 rw [correctorref6_scanner_texts_l1] at ad
 refine sq<|s0<|aO 2 ad ?_ ?_<;>intro dS ad
 refine aA 4 0 ax bb rfl<|a6 1 ad a8 ?_
 intro dU ad
 refine bp 0 0 (fun cd=> .int .u8 (cd.toNat:Int)) ad a8 bb ?_
 intro cd dV ad
 refine aD 0 ad ?_ ?_ (kd:= .u8)<;>intro dW ad
 refine xn 1<|dT<|sk<|bk 3<|gp 3 ?_
 exact ⟨bZ,Nat.lt_succ_self _,⟨_,ar,aT,af (aW+1),ax,aX,aY,ad,a8,b0,(by kernel_rfl),bb⟩⟩
 refine xn 1<|dF<|xt 2<|aN ?_
 obtain rfl:=si ad
 exact ⟨_,ar,aT,aW,ax,aX,aY,rfl,a8,b0,(by kernel_rfl),bb⟩
 refine xn 10<|dF<|xt 2<|aN ?_
 obtain rfl:=si ad
 exact ⟨_,ar,aT,aW,ax,aX,aY,rfl,a8,b0,(by kernel_rfl),bb⟩
 refine aF rfl rfl (br rfl rfl (eT bL))<|ye 1 [(31, .bool false),(0,Pt j 0),(2,V a0.Text)] ?_
 have c6:=b5.a5
 refine dF<|xt 0<|aN ?_
 obtain rfl:=si I
 exact ⟨_,U,aj,al,an,rfl,au,a1,(by kernel_rfl),c6⟩
 refine aF rfl trivial (br rfl rfl (nw bJ))<|ye 9 [(31, .bool false),(0,Pt j 0),(2,V a0.Text)] ?_
 have c7:=ay.a5
 refine dF<|xt 0<|aN ?_
 obtain rfl:=si I
 exact ⟨_,U,aj,al,an,rfl,au,a1,(by kernel_rfl),c7⟩
def CF:List bq:=[uP 7 (mv 0),uP 8 (nk 7),uP 9 (fa 81 8 0),uL 10 (ld 31 9),uP 11 (mv 0),uP 12 (nk 11),uP 13 (fa 81 12 1),uL 14 (ld 3 13),uP 15 (ia 31 10 14),uL 16 (ld 5 15),uP 3 (sg 16)]
def BU:List bq:=[uP 44 (mv 0),uP 45 (nk 44),uP 46 (fa 81 45 1),uL 47 (ld 3 46),uP 48 (mv 0),uP 49 (nk 48),uP 50 (fa 81 49 2),uL 51 (ld 3 50),uP 52 (bo .eql 3 47 51 3),uP 53 (mv 52),aI 53 54 (mv 3),aI 53 55 (.binOp .eql 5 (t 54) (.const (.int .u8 32)) 5),uP 56 (pf 53 55)]
def xK:List bq:=[uP 103 (mv 3),uP 104 (.binOp .eql 5 (t 103) (.const (.int .u8 35)) 5),uP 105 (mv 104),aI 105 106 (mv 0),aI 105 107 (nk 106),aI 105 108 (fa 81 107 1),cJ 105 109 (ld 3 108),aI 105 110 (mv 0),aI 105 111 (nk 110),aI 105 112 (fa 81 111 2),cJ 105 113 (ld 3 112),aI 105 114 (bo .eql 3 109 113 3),aI 105 115 (mv 114),dn 115 116 (mv 0),dn 115 117 (nk 116),dn 115 118 (fa 81 117 7),j3 115 119 (ld 24 118),dn 115 120 (mv 0),dn 115 121 (nk 120),dn 115 122 (fa 81 121 7),j3 115 123 (ld 24 122),dn 115 124 (cb .len #[(t 123)] #[24]),dn 115 125 (bc .sub 3 124 1 3),dn 115 126 (ia 24 119 125),dn 115 127 (fa 85 126 0),j3 115 128 (ld 3 127),dn 115 129 (bc .eql 3 128 2 3),aI 105 130 (pt 115 129),aI 105 131 (mv 130),dn 131 132 (mv 0),dn 131 133 (nk 132),dn 131 134 (fa 81 133 7),j3 131 135 (ld 24 134),dn 131 136 (mv 0),dn 131 137 (nk 136),dn 131 138 (fa 81 137 7),j3 131 139 (ld 24 138),dn 131 140 (cb .len #[(t 139)] #[24]),dn 131 141 (bc .sub 3 140 1 3),dn 131 142 (ia 24 135 141),dn 131 143 (fa 85 142 0),j3 131 144 (ld 3 143),dn 131 145 (bc .eql 3 144 3 3),aI 105 146 (pt 131 145),uP 147 (pf 105 146)]
def lD (F:Nat) (a0:aE):Nat→Int→Option Int
 | 0,_=>none
 | n+1,j=>
  if j<(a0.B.length:Int) then
   if 0≤j∧j<(a0.B.length:Int) then
    (a0.B[j.toNat]?).bind fun I=>
    if (I.toNat:Int)=(32:Int) then
     lD F a0 n (af (j+1))
    else
     some j
   else none
  else
   some j
def ln (F:Nat) (a0:aE):Nat→Int→Option Int
 | 0,_=>none
 | n+1,j=>
  if j<(a0.B.length:Int) then
   if 0≤j∧j<(a0.B.length:Int) then
    (a0.B[j.toNat]?).bind fun I=>
    (gq F (I.toNat:Int)).bind fun J=>
    if J=true then
     ln F a0 n (af (j+1))
    else
     some j
   else none
  else
   some j
def mC (F:Nat) (a0:aE):Option (Bool×aE):=
 if 0≤a0.At∧a0.At<(a0.B.length:Int) then
  (a0.B[a0.At.toNat]?).bind fun j=>
  (correctorref2_Break F a0.B a0.At).bind fun I=>
  if (0:Int)<I then
   (cS F a0 1 (af (a0.At+I))).bind fun J=>
   (n0 F J).bind fun U=>
   ((if (-1:Int)≤J.Text then
     (nT F U).bind fun aa=>
     some aa
    else
     some U):Option aE).bind fun o=>match o with
    | ab=>some (true,ab)
  else
   ((if a0.At=a0.Row then
     if (j.toNat:Int)=(32:Int) then
      some true
     else
      some false
    else
     some false):Option Bool).bind fun o=>match o with
    | ad=>if ad=true then
     ((lD F a0 F a0.At):Option Int).bind fun o=>match o with
      | ae=>(cS F a0 2 ae).bind fun ag=>
      some (true,ag)
    else
     (gq F (j.toNat:Int)).bind fun ah=>
     if ah=true then
      ((ln F a0 F a0.At):Option Int).bind fun o=>match o with
       | ai=>(cS F a0 3 ai).bind fun aj=>
       some (true,aj)
     else
      ((if (j.toNat:Int)=(35:Int) then
        if a0.At=a0.Row then
         (fC F a0 a0.At).bind fun al=>
         (cS F a0 4 al).bind fun an=>
         some (.inr (true,an))
        else
         if 0≤(af ((a0.L.length:Int) - 1))∧(af ((a0.L.length:Int) - 1))<(a0.L.length:Int) then
          (a0.L[(af ((a0.L.length:Int) - 1)).toNat]?).bind fun ao=>
          if ao.Kind=(2:Int) then
           (fC F a0 a0.At).bind fun aq=>
           (cS F a0 4 aq).bind fun ar=>
           some (.inr (true,ar))
          else
           if 0≤(af ((a0.L.length:Int) - 1))∧(af ((a0.L.length:Int) - 1))<(a0.L.length:Int) then
            (a0.L[(af ((a0.L.length:Int) - 1)).toNat]?).bind fun au=>
            if au.Kind=(3:Int) then
             (fC F a0 a0.At).bind fun av=>
             (cS F a0 4 av).bind fun aw=>
             some (.inr (true,aw))
            else
             some (.inl ())
           else none
         else none
       else
        some (.inl ())):Option (Sum Unit (Bool×aE))).bind fun o=>match o with
       | .inl ()=>some (false,a0)
       | .inr y=>some y
 else none
theorem BW (F:Nat) {h:AH} {Z:Zn} {a0:aE} {I ab J an} (hP:Pre Z h [.ae I (a9 ab J a0), .gs J an (aa ak)]) (aj:RS (α:=UInt8) Z ab a0.B) (al:RCs (α:=ak) Z an a0.L) {r:Bool×aE} (hm:mC F a0=some r):
  bX Try.prog 38 [Pt I 0] h Z [.ae I (a9 ab J a0), .gs J an (aa ak)] fun v Z' A'=>∃ bo v10 bt, .bool r.1=v∧A'=[.ae I (a9 bo v10 r.2), .gs v10 bt (aa ak)]∧RS (α:=UInt8) Z' bo r.2.B∧RCs (α:=ak) Z' bt r.2.L:=by
 refine cm Try.func38 hP ?_
 intro hs hS
 unfold mC at hm
 refine sp 1<|cT CF hS ?_
 intro bu ep bw aL
 refine yq 3 [(9,Pt I 0),(0,Pt I 0)] ?_
 have er:I<bu:=bw.1 _ (List.mem_of_getElem? (i:=0) rfl) _ (by simp [Itm.ids])
 refine aU (v:=ab) rfl trivial rfl (by show I<_;omega) (aB (v:=ab) (RS.dD aj)) (aL.aP (i:=0) rfl (by kernel_rfl)) trivial<|yq 3 [(13,Pt I 1),(10,ab),(0,Pt I 0)] ?_
 have et:I<bu:=bw.1 _ (List.mem_of_getElem? (i:=0) rfl) _ (by simp [Itm.ids])
 refine aU (v:=V a0.At) rfl trivial rfl (by show I<_;omega) (aB (v:=V a0.At) trivial) (aL.aP (i:=0) rfl (by kernel_rfl)) trivial ?_
 obtain ⟨bx,hm⟩:=aK hm
 refine aF rfl trivial (bG rfl rfl (by kernel_rfl:slTy _ _=some (aa UInt8)) (RS.cU aj (by omega)) bx.1 bx.2) ?_
 obtain ⟨ar,b8,hm⟩:=ai hm
 obtain ⟨ew,b9,ca⟩:=RS.cp aj (i:=a0.At) b8
 obtain rfl:=o2 b9
 refine cG rfl rfl trivial (fun h2 hz=>bK (w:= .int .u8 (ar.toNat:Int)) (ca h2 hz) rfl (by kernel_rfl)) (aL.bV (aM.refl _)) (aB (v:= .int .u8 (ar.toNat:Int)) trivial) trivial<|ye 1 [(3, .int .u8 (ar.toNat:Int)),(0,Pt I 0)] ?_
 have aS:=aL.a5
 refine s0<|aA 3 0 (V a0.At) aS rfl<|xn 1<|sq<|s0<|aA 3 0 ab aS rfl ?_
 obtain ⟨ey,cb,hm⟩:=ai hm
 refine cP 1 aS (lV F aS.inv aj cb) ?_
 rintro _ ez bz rfl
 refine xn 1<|s0<|cC 1 hm ?_ ?_<;>intro eA hm
 refine xn 0<|dT<|s0 ?_
 obtain ⟨cc,cd,hm⟩:=ai hm
 refine cA 4 bz (fun p=>dO F p aj al cd) ?_
 rintro _ eB eC _ eD bA ⟨eE,cf,eF,rfl,rfl,cg,ch⟩
 refine xn 0<|s0<|aA 3 0 (V cc.Text) bA rfl<|xn 1<|s0 ?_
 obtain ⟨cj,ck,hm⟩:=ai hm
 refine cA 1 bA (fun p=>qq F p cg ch ck) ?_
 rintro _ eG eH _ eI bB ⟨cl,cn,rfl,rfl,bC,bD⟩
 refine xn 0<|sq ?_
 obtain ⟨cq,az,hm⟩:=ai hm
 refine ec [] (fun l h=>∃ aT aI aW aX aY,aI=cq∧RS (α:=UInt8) aT aW aI.B∧RCs (α:=ak) aT aY aI.L∧l=[]∧St hs (aR [.ae I (a9 ab J a0), .gs J an (aa ak)]) Z (0,0) aT h [.ae I (a9 aW aX aI), .gs aX aY (aa ak)]) (by kernel_rfl) ?_ ?_
 rintro l eJ ⟨aT,aI,aW,aX,aY,rfl,cr,ct,rfl,cu⟩
 try dsimp only at hm
 refine sp 1<|rt<|⟨rfl,?_⟩
 obtain rfl:=si hm
 refine ⟨_,_,_,tk (.bool true) (ResL.nil),cu,?_⟩
 exact ⟨aW,aX,aY,rfl,rfl,cr,ct⟩
 refine g0<|cv 1 az ?_ ?_<;>intro eK az
 refine xn 0<|dT<|g0 ?_
 obtain ⟨cx,cy,az⟩:=ai az
 refine cA 1 bB (fun p=>vC F p bC bD cy) ?_
 rintro _ eL eM _ eN cB ⟨cD,cF,cH,rfl,rfl,cI,cJ⟩
 refine xn 0 ?_
 obtain rfl:=si az
 exact ⟨_,cx,cD,cF,cH,rfl,cI,cJ,(by kernel_rfl),cB⟩
 refine xn 0<|dF<|sk ?_
 obtain rfl:=si az
 exact ⟨_,cj,cl,cf,cn,rfl,bC,bD,(by kernel_rfl),bB⟩
 refine xn 0<|dF<|sk<|sq<|sq ?_
 obtain ⟨cK,au,hm⟩:=ai hm
 refine aH [0,3,4,56] (fun l h=>∃ bE aZ,aZ=cK∧l=[(0,Pt I 0),(3, .int .u8 (ar.toNat:Int)),(4,V a0.At),(56, .bool aZ)]∧St hs (aR [.ae I (a9 ab J a0), .gs J an (aa ak)]) Z (0,0) bE h [.ae I (a9 ab J a0), .gs J an (aa ak)]) ?_ ?_
 rintro l eO ⟨bE,aZ,rfl,rfl,ad⟩
 try dsimp only at hm
 refine db hm ?_ ?_<;>intro eP hm
 refine sq ?_
 obtain ⟨a1,aq,hm⟩:=ai hm
 refine aH [0,4] (fun l h=>∃ bF a2,a2=a1∧l=[(0,Pt I 0),(4,V a2)]∧St hs (aR [.ae I (a9 ab J a0), .gs J an (aa ak)]) Z (0,0) bF h [.ae I (a9 ab J a0), .gs J an (aa ak)]) ?_ ?_
 rintro l eQ ⟨bF,a2,rfl,rfl,a3⟩
 try dsimp only at hm
 refine s0 ?_
 obtain ⟨eR,cL,hm⟩:=ai hm
 refine cA 2 a3 (fun p=>dO F p (aj.mono a3.ag) (al.mono a3.ag) cL) ?_
 rintro _ eS eV _ eW cM ⟨cN,cR,cS,rfl,rfl,cV,cW⟩
 refine xn 0<|sp 1<|rt<|⟨rfl,?_⟩
 obtain rfl:=si hm
 refine ⟨_,_,_,tk (.bool true) (ResL.nil),cM,?_⟩
 exact ⟨cN,cR,cS,rfl,rfl,cV,cW⟩
 refine bk 0<|lp [0,4] (fun n l h=>∃ bH aC,lD F a0 n aC=some a1∧l=[(0,Pt I 0),(4,V aC)]∧St hs (aR [.ae I (a9 ab J a0), .gs J an (aa ak)]) Z (0,0) bH h [.ae I (a9 ab J a0), .gs J an (aa ak)]) F ⟨_,a0.At,aq,(by kernel_rfl),ad⟩ ?_
 rintro a4 l eX ⟨bH,aC,aq,rfl,av⟩
 rcases a4 with _ | a4
 cases (show none=some a1 from aq)
 rw [lD] at aq
 refine sq<|s0<|aA 4 0 ab av rfl<|bM 0 ab (RS.len (aj.mono av.ag))<|aO 0 aq ?_ ?_<;>intro eY aq
 refine aA 4 0 ab av rfl<|a6 1 aq (aj.mono av.ag) ?_
 intro eZ aq
 refine bp 0 0 (fun bI=> .int .u8 (bI.toNat:Int)) aq (aj.mono av.ag) av ?_
 intro bI e0 aq
 refine aD 0 aq ?_ ?_ (kd:= .u8)<;>intro e2 aq
 refine xn 1<|dT<|sk<|bk 1<|gp 3 ?_
 exact ⟨a4,Nat.lt_succ_self _,⟨_,af (aC+1),aq,(by kernel_rfl),av⟩⟩
 refine xn 1<|dF<|xt 0<|aN ?_
 obtain rfl:=si aq
 exact ⟨_,aC,rfl,(by kernel_rfl),av⟩
 refine xn 10<|dF<|xt 0<|aN ?_
 obtain rfl:=si aq
 exact ⟨_,aC,rfl,(by kernel_rfl),av⟩
 refine sk<|sq<|s0 ?_
 obtain ⟨e3,cZ,hm⟩:=ai hm
 refine cP 1 ad (jV F ad.inv cZ) ?_
 rintro _ e4 bJ rfl
 refine xn 0<|db hm ?_ ?_<;>intro e5 hm
 refine sq ?_
 obtain ⟨a7,ao,hm⟩:=ai hm
 refine aH [0,4] (fun l h=>∃ bN a8,a8=a7∧l=[(0,Pt I 0),(4,V a8)]∧St hs (aR [.ae I (a9 ab J a0), .gs J an (aa ak)]) Z (0,0) bN h [.ae I (a9 ab J a0), .gs J an (aa ak)]) ?_ ?_
 rintro l e6 ⟨bN,a8,rfl,rfl,ba⟩
 try dsimp only at hm
 refine s0 ?_
 obtain ⟨e7,c0,hm⟩:=ai hm
 refine cA 2 ba (fun p=>dO F p (aj.mono ba.ag) (al.mono ba.ag) c0) ?_
 rintro _ e8 e9 _ fa c3 ⟨c5,c6,c7,rfl,rfl,c8,c9⟩
 refine xn 0<|sp 1<|rt<|⟨rfl,?_⟩
 obtain rfl:=si hm
 refine ⟨_,_,_,tk (.bool true) (ResL.nil),c3,?_⟩
 exact ⟨c5,c6,c7,rfl,rfl,c8,c9⟩
 refine bk 2<|lp [0,4] (fun n l h=>∃ bO aG,ln F a0 n aG=some a7∧l=[(0,Pt I 0),(4,V aG)]∧St hs (aR [.ae I (a9 ab J a0), .gs J an (aa ak)]) Z (0,0) bO h [.ae I (a9 ab J a0), .gs J an (aa ak)]) F ⟨_,a0.At,ao,(by kernel_rfl),bJ⟩ ?_
 rintro bb l fb ⟨bO,aG,ao,rfl,aw⟩
 rcases bb with _ | bb
 cases (show none=some a7 from ao)
 rw [ln] at ao
 refine sq<|s0<|aA 4 0 ab aw rfl<|bM 0 ab (RS.len (aj.mono aw.ag))<|aO 0 ao ?_ ?_<;>intro fc ao
 refine aA 4 0 ab aw rfl<|a6 1 ao (aj.mono aw.ag) ?_
 intro fe ao
 refine bp 0 0 (fun bP=> .int .u8 (bP.toNat:Int)) ao (aj.mono aw.ag) aw ?_
 intro bP ff ao
 obtain ⟨fg,da,ao⟩:=ai ao
 refine cP 0 aw (jV F aw.inv da) ?_
 rintro _ fh bQ rfl
 refine xn 1<|db ao ?_ ?_<;>intro fi ao
 refine sk<|bk 3<|gp 3 ?_
 exact ⟨bb,Nat.lt_succ_self _,⟨_,af (aG+1),ao,(by kernel_rfl),bQ⟩⟩
 refine xt 2<|aN ?_
 obtain rfl:=si ao
 exact ⟨_,aG,rfl,(by kernel_rfl),bQ⟩
 refine xn 10<|dF<|xt 2<|aN ?_
 obtain rfl:=si ao
 exact ⟨_,aG,rfl,(by kernel_rfl),aw⟩
 refine sk<|sq ?_
 obtain ⟨dc,U,hm⟩:=ai hm
 refine ec [] (fun l h=>∃ bR, .inl ()=dc∧l=[]∧St hs (aR [.ae I (a9 ab J a0), .gs J an (aa ak)]) Z (0,0) bR h [.ae I (a9 ab J a0), .gs J an (aa ak)]) (by kernel_rfl) ?_ ?_
 rintro l fj ⟨bR,rfl,rfl,bc⟩
 try dsimp only at hm
 refine sp 1<|rt<|⟨rfl,?_⟩
 obtain rfl:=si hm
 refine ⟨_,_,_,tk (.bool false) (ResL.nil),bc,?_⟩
 exact ⟨ab,J,an,rfl,rfl,(aj.mono bc.ag),(al.mono bc.ag)⟩
 refine ea xK bJ ?_
 intro ax fk ay ah
 refine yq 1 [(103, .int .u8 (ar.toNat:Int)),(0,Pt I 0),(4,V a0.At)] ?_
 rcases ifs U with ⟨bd,U⟩ | ⟨bd,U⟩
 refine aF rfl trivial (br rfl rfl (eU bd))<|yq 4 [(108,Pt I 1),(105, .bool true),(0,Pt I 0),(4,V a0.At)] ?_
 have fl:I<ax:=ay.1 _ (List.mem_of_getElem? (i:=0) rfl) _ (by simp [Itm.ids])
 refine aU (v:=V a0.At) rfl rfl rfl (by show I<_;omega) (aB (v:=V a0.At) trivial) (ah.aP (i:=0) rfl (by kernel_rfl)) trivial<|yq 3 [(112,Pt I 2),(109,V a0.At),(105, .bool true),(0,Pt I 0),(4,V a0.At)] ?_
 have fm:I<ax:=ay.1 _ (List.mem_of_getElem? (i:=0) rfl) _ (by simp [Itm.ids])
 refine aU (v:=V a0.Row) rfl rfl rfl (by show I<_;omega) (aB (v:=V a0.Row) trivial) (ah.aP (i:=0) rfl (by kernel_rfl)) trivial ?_
 rcases ifs U with ⟨bg,U⟩ | ⟨bg,U⟩
 refine aF rfl rfl (br rfl rfl (eU bg))<|ye 33 [(147, .bool true),(0,Pt I 0),(4,V a0.At)] ?_
 have dd:=ah.a5
 refine dT<|s0 ?_
 obtain ⟨fo,de,U⟩:=ai U
 refine cE 3 dd (fun fp bS df bT=>ki F df (RS.mono bS (aj.mono ad.ag)) (bf.row (bT _ (List.mem_of_getElem? (i:=1) rfl)) bS (al.mono ad.ag)) (bT _ (List.mem_of_getElem? (i:=0) rfl)) de) ?_
 rintro _ fq dh rfl
 obtain ⟨fr,di,U⟩:=ai U
 refine cA 0 dh (fun p=>dO F p (aj.mono ad.ag) (al.mono ad.ag) di) ?_
 rintro _ fs ft _ fu dj ⟨dm,dn,dp,rfl,rfl,dq,dr⟩
 refine xn 0<|sp 1<|rt<|⟨rfl,?_⟩
 obtain rfl:=si U
 obtain rfl:=si hm
 refine ⟨_,_,_,tk (.bool true) (ResL.nil),dj,?_⟩
 exact ⟨dm,dn,dp,rfl,rfl,dq,dr⟩
 refine aF rfl rfl (br rfl rfl (eT bg))<|yq 4 [(118,Pt I 7),(115, .bool false),(105, .bool true),(0,Pt I 0),(4,V a0.At)] ?_
 have fv:I<ax:=ay.1 _ (List.mem_of_getElem? (i:=0) rfl) _ (by simp [Itm.ids])
 refine aU (v:=J) rfl rfl rfl (by show I<_;omega) (aB (v:=J) (ah.dk (i:=1) rfl)) (ah.aP (i:=0) rfl (by kernel_rfl)) trivial<|yq 3 [(122,Pt I 7),(119,J),(115, .bool false),(105, .bool true),(0,Pt I 0),(4,V a0.At)] ?_
 have fx:I<ax:=ay.1 _ (List.mem_of_getElem? (i:=0) rfl) _ (by simp [Itm.ids])
 refine aU (v:=J) rfl rfl rfl (by show I<_;omega) (aB (v:=J) (ah.dk (i:=1) rfl)) (ah.aP (i:=0) rfl (by kernel_rfl)) trivial<|aF rfl rfl (gP rfl (ah.dV (i:=1) rfl (al.mono ad.ag)) ⟨_,Try.underlying24⟩)<|yq 1 [(125,V (af ((a0.L.length:Int) - 1))),(119,J),(115, .bool false),(105, .bool true),(0,Pt I 0),(4,V a0.At)] ?_
 obtain ⟨bU,U⟩:=aK U
 refine aF rfl rfl (bG rfl rfl (by kernel_rfl:slTy _ _=some (aa ak)) (ah.bL (j:=1) rfl (al.mono ad.ag) (by omega)) bU.1 bU.2)<|yq 1 [(127, .pointer (some (bh J (af ((a0.L.length:Int) - 1)) (aa ak) 0))),(115, .bool false),(105, .bool true),(0,Pt I 0),(4,V a0.At)] ?_
 obtain ⟨bW,bY,U⟩:=ai U
 obtain ⟨fy,ds,dt,fz⟩:=ah.cz (j:=1) rfl (al.mono ad.ag) (i:=af ((a0.L.length:Int) - 1)) bY
 obtain rfl:=eu ds
 have dx:=dw bY
 have dy:=ah.bL (j:=1) rfl (al.mono ad.ag) dx
 have fA:(baseOf J).block<ax:=dG (ay.1 _ (List.mem_of_getElem? (i:=1) rfl)) dy
 refine du rfl rfl rfl (by show (baseOf J).block<_;omega) (aB (v:=V bW.Kind) trivial) (bK (w:=V bW.Kind) dt rfl (by kernel_rfl)) trivial ?_
 rcases ifs U with ⟨bj,U⟩ | ⟨bj,U⟩
 refine aF rfl rfl (br rfl rfl (eU bj))<|ye 18 [(147, .bool true),(0,Pt I 0),(4,V a0.At)] ?_
 have dz:=ah.a5
 refine dT<|s0 ?_
 obtain ⟨fB,dA,U⟩:=ai U
 refine cE 3 dz (fun fC bZ dB b0=>ki F dB (RS.mono bZ (aj.mono ad.ag)) (bf.row (b0 _ (List.mem_of_getElem? (i:=1) rfl)) bZ (al.mono ad.ag)) (b0 _ (List.mem_of_getElem? (i:=0) rfl)) dA) ?_
 rintro _ fD dC rfl
 obtain ⟨fE,dE,U⟩:=ai U
 refine cA 0 dC (fun p=>dO F p (aj.mono ad.ag) (al.mono ad.ag) dE) ?_
 rintro _ fF fG _ fH dH ⟨dI,dJ,dK,rfl,rfl,dL,dM⟩
 refine xn 0<|sp 1<|rt<|⟨rfl,?_⟩
 obtain rfl:=si U
 obtain rfl:=si hm
 refine ⟨_,_,_,tk (.bool true) (ResL.nil),dH,?_⟩
 exact ⟨dI,dJ,dK,rfl,rfl,dL,dM⟩
 refine aF rfl rfl (br rfl rfl (eT bj))<|yq 5 [(134,Pt I 7),(131, .bool false),(105, .bool true),(0,Pt I 0),(4,V a0.At)] ?_
 have fI:I<ax:=ay.1 _ (List.mem_of_getElem? (i:=0) rfl) _ (by simp [Itm.ids])
 refine aU (v:=J) rfl rfl rfl (by show I<_;omega) (aB (v:=J) (ah.dk (i:=1) rfl)) (ah.aP (i:=0) rfl (by kernel_rfl)) trivial<|yq 3 [(138,Pt I 7),(135,J),(131, .bool false),(105, .bool true),(0,Pt I 0),(4,V a0.At)] ?_
 have fJ:I<ax:=ay.1 _ (List.mem_of_getElem? (i:=0) rfl) _ (by simp [Itm.ids])
 refine aU (v:=J) rfl rfl rfl (by show I<_;omega) (aB (v:=J) (ah.dk (i:=1) rfl)) (ah.aP (i:=0) rfl (by kernel_rfl)) trivial<|aF rfl rfl (gP rfl (ah.dV (i:=1) rfl (al.mono ad.ag)) ⟨_,Try.underlying24⟩)<|yq 1 [(141,V (af ((a0.L.length:Int) - 1))),(135,J),(131, .bool false),(105, .bool true),(0,Pt I 0),(4,V a0.At)] ?_
 obtain ⟨b1,U⟩:=aK U
 refine aF rfl rfl (bG rfl rfl (by kernel_rfl:slTy _ _=some (aa ak)) (ah.bL (j:=1) rfl (al.mono ad.ag) (by omega)) b1.1 b1.2)<|yq 1 [(143, .pointer (some (bh J (af ((a0.L.length:Int) - 1)) (aa ak) 0))),(131, .bool false),(105, .bool true),(0,Pt I 0),(4,V a0.At)] ?_
 obtain ⟨b2,b3,U⟩:=ai U
 obtain ⟨fK,dN,dP,fL⟩:=ah.cz (j:=1) rfl (al.mono ad.ag) (i:=af ((a0.L.length:Int) - 1)) b3
 obtain rfl:=eu dN
 have dQ:=dw b3
 have dR:=ah.bL (j:=1) rfl (al.mono ad.ag) dQ
 have fM:(baseOf J).block<ax:=dG (ay.1 _ (List.mem_of_getElem? (i:=1) rfl)) dR
 refine du rfl rfl rfl (by show (baseOf J).block<_;omega) (aB (v:=V b2.Kind) trivial) (bK (w:=V b2.Kind) dP rfl (by kernel_rfl)) trivial ?_
 rcases ifs U with ⟨bl,U⟩ | ⟨bl,U⟩
 refine aF rfl rfl (br rfl rfl (eU bl))<|ye 2 [(147, .bool true),(0,Pt I 0),(4,V a0.At)] ?_
 have dS:=ah.a5
 refine dT<|s0 ?_
 obtain ⟨fN,dU,U⟩:=ai U
 refine cE 3 dS (fun fO b4 dW b5=>ki F dW (RS.mono b4 (aj.mono ad.ag)) (bf.row (b5 _ (List.mem_of_getElem? (i:=1) rfl)) b4 (al.mono ad.ag)) (b5 _ (List.mem_of_getElem? (i:=0) rfl)) dU) ?_
 rintro _ fP dX rfl
 obtain ⟨fQ,dY,U⟩:=ai U
 refine cA 0 dX (fun p=>dO F p (aj.mono ad.ag) (al.mono ad.ag) dY) ?_
 rintro _ fR fS _ fT dZ ⟨eb,ed,ee,rfl,rfl,eg,eh⟩
 refine xn 0<|sp 1<|rt<|⟨rfl,?_⟩
 obtain rfl:=si U
 obtain rfl:=si hm
 refine ⟨_,_,_,tk (.bool true) (ResL.nil),dZ,?_⟩
 exact ⟨eb,ed,ee,rfl,rfl,eg,eh⟩
 refine aF rfl rfl (br rfl rfl (eT bl))<|ye 2 [(147, .bool false),(0,Pt I 0),(4,V a0.At)] ?_
 have ei:=ah.a5
 refine dF<|sk ?_
 obtain rfl:=si U
 exact ⟨_,rfl,(by kernel_rfl),ei⟩
 refine aF rfl trivial (br rfl rfl (eT bd))<|ye 43 [(147, .bool false),(0,Pt I 0),(4,V a0.At)] ?_
 have ej:=ah.a5
 refine dF<|sk ?_
 obtain rfl:=si U
 exact ⟨_,rfl,(by kernel_rfl),ej⟩
 refine ea BU bz ?_
 intro b6 fU b7 aJ
 refine yq 3 [(46,Pt I 1),(4,V a0.At),(3, .int .u8 (ar.toNat:Int)),(0,Pt I 0)] ?_
 have fV:I<b6:=b7.1 _ (List.mem_of_getElem? (i:=0) rfl) _ (by simp [Itm.ids])
 refine aU (v:=V a0.At) rfl trivial rfl (by show I<_;omega) (aB (v:=V a0.At) trivial) (aJ.aP (i:=0) rfl (by kernel_rfl)) trivial<|yq 3 [(50,Pt I 2),(47,V a0.At),(4,V a0.At),(3, .int .u8 (ar.toNat:Int)),(0,Pt I 0)] ?_
 have fW:I<b6:=b7.1 _ (List.mem_of_getElem? (i:=0) rfl) _ (by simp [Itm.ids])
 refine aU (v:=V a0.Row) rfl trivial rfl (by show I<_;omega) (aB (v:=V a0.Row) trivial) (aJ.aP (i:=0) rfl (by kernel_rfl)) trivial ?_
 rcases ifs au with ⟨bm,au⟩ | ⟨bm,au⟩
 refine aF rfl trivial (br rfl rfl (eU bm))<|yq 2 [(54, .int .u8 (ar.toNat:Int)),(53, .bool true),(4,V a0.At),(3, .int .u8 (ar.toNat:Int)),(0,Pt I 0)] ?_
 rcases ifs au with ⟨bn,au⟩ | ⟨bn,au⟩
 refine aF rfl rfl (br rfl rfl (eU bn))<|ye 1 [(56, .bool true),(4,V a0.At),(3, .int .u8 (ar.toNat:Int)),(0,Pt I 0)] ?_
 have ek:=aJ.a5
 obtain rfl:=si au
 exact ⟨_,true,rfl,(by kernel_rfl),ek⟩
 refine aF rfl rfl (br rfl rfl (eT bn))<|ye 1 [(56, .bool false),(4,V a0.At),(3, .int .u8 (ar.toNat:Int)),(0,Pt I 0)] ?_
 have en:=aJ.a5
 obtain rfl:=si au
 exact ⟨_,false,rfl,(by kernel_rfl),en⟩
 refine aF rfl trivial (br rfl rfl (eT bm))<|ye 4 [(56, .bool false),(4,V a0.At),(3, .int .u8 (ar.toNat:Int)),(0,Pt I 0)] ?_
 have eo:=aJ.a5
 obtain rfl:=si au
 exact ⟨_,false,rfl,(by kernel_rfl),eo⟩
def CY:List bq:=[uP 4 (mv 0),uP 5 (nk 4),uP 6 (fa 81 5 0),uL 7 (ld 31 6),uP 8 (mv 0),uP 9 (nk 8),uP 10 (fa 81 9 1),uL 11 (ld 3 10),uP 12 (ia 31 7 11),uL 13 (ld 5 12),uP 3 (sg 13)]
def mb (F:Nat) (a0:aE):Option (Bool×aE):=
 if 0≤a0.At∧a0.At<(a0.B.length:Int) then
  (a0.B[a0.At.toNat]?).bind fun aa=>
  ((if (aa.toNat:Int)=(91:Int) then
    (cS F a0 8 (af (a0.At+1))).bind fun j=>
    some (.inl (⟨j.B,j.At,j.Row,af (j.Open+1),j.bT,j.cg,j.Text,j.L⟩:aE))
   else
    if (aa.toNat:Int)=(123:Int) then
     (cS F a0 9 (af (a0.At+1))).bind fun I=>
     some (.inl (⟨I.B,I.At,I.Row,af (I.Open+1),I.bT,I.cg,I.Text,I.L⟩:aE))
    else
     if (aa.toNat:Int)=(93:Int) then
      (cS F a0 10 (af (a0.At+1))).bind fun J=>
      some (.inl (⟨J.B,J.At,J.Row,imax (af (J.Open - 1)) 0,J.bT,J.cg,J.Text,J.L⟩:aE))
     else
      if (aa.toNat:Int)=(125:Int) then
       (cS F a0 11 (af (a0.At+1))).bind fun U=>
       some (.inl (⟨U.B,U.At,U.Row,imax (af (U.Open - 1)) 0,U.bT,U.cg,U.Text,U.L⟩:aE))
      else
       if (aa.toNat:Int)=(44:Int) then
        if (0:Int)<a0.Open then
         (cS F a0 7 (af (a0.At+1))).bind fun ab=>
         some (.inl ab)
        else
         some (.inr (false,a0))
       else
        some (.inr (false,a0))):Option (Sum aE (Bool×aE))).bind fun o=>match o with
   | .inl ad=>some (true,ad)
   | .inr y=>some y
 else none
theorem Bu (F:Nat) {h:AH} {Z:Zn} {a0:aE} {ad aj al ao} (hP:Pre Z h [.ae ad (a9 aj al a0), .gs al ao (aa ak)]) (ah:RS (α:=UInt8) Z aj a0.B) (an:RCs (α:=ak) Z ao a0.L) {r:Bool×aE} (hm:mb F a0=some r):
  bX Try.prog 39 [Pt ad 0] h Z [.ae ad (a9 aj al a0), .gs al ao (aa ak)] fun v Z' A'=>∃ az v10 aC, .bool r.1=v∧A'=[.ae ad (a9 az v10 r.2), .gs v10 aC (aa ak)]∧RS (α:=UInt8) Z' az r.2.B∧RCs (α:=ak) Z' aC r.2.L:=by
 refine cm Try.func39 hP ?_
 intro hs hS
 unfold mb at hm
 refine sp 1<|sq<|cT CY hS ?_
 intro aG bQ aI ar
 refine yq 3 [(6,Pt ad 0),(0,Pt ad 0)] ?_
 have bR:ad<aG:=aI.1 _ (List.mem_of_getElem? (i:=0) rfl) _ (by simp [Itm.ids])
 refine aU (v:=aj) rfl trivial rfl (by show ad<_;omega) (aB (v:=aj) (RS.dD ah)) (ar.aP (i:=0) rfl (by kernel_rfl)) trivial<|yq 3 [(10,Pt ad 1),(7,aj),(0,Pt ad 0)] ?_
 have bS:ad<aG:=aI.1 _ (List.mem_of_getElem? (i:=0) rfl) _ (by simp [Itm.ids])
 refine aU (v:=V a0.At) rfl trivial rfl (by show ad<_;omega) (aB (v:=V a0.At) trivial) (ar.aP (i:=0) rfl (by kernel_rfl)) trivial ?_
 obtain ⟨aJ,hm⟩:=aK hm
 refine aF rfl trivial (bG rfl rfl (by kernel_rfl:slTy _ _=some (aa UInt8)) (RS.cU ah (by omega)) aJ.1 aJ.2) ?_
 obtain ⟨ay,a4,hm⟩:=ai hm
 obtain ⟨bU,a6,a7⟩:=RS.cp ah (i:=a0.At) a4
 obtain rfl:=o2 a6
 refine cG rfl rfl trivial (fun h2 hz=>bK (w:= .int .u8 (ay.toNat:Int)) (a7 h2 hz) rfl (by kernel_rfl)) (ar.bV (aM.refl _)) (aB (v:= .int .u8 (ay.toNat:Int)) trivial) trivial<|ye 1 [(3, .int .u8 (ay.toNat:Int)),(0,Pt ad 0)] ?_
 have ag:=ar.a5
 obtain ⟨a8,j,hm⟩:=ai hm
 refine aH [] (fun l h=>∃ au aq av aw ax, .inl aq=a8∧RS (α:=UInt8) au av aq.B∧RCs (α:=ak) au ax aq.L∧l=[]∧St hs (aR [.ae ad (a9 aj al a0), .gs al ao (aa ak)]) Z (0,0) au h [.ae ad (a9 av aw aq), .gs aw ax (aa ak)]) ?_ ?_
 rintro l bW ⟨au,aq,av,aw,ax,rfl,bb,bc,rfl,bd⟩
 try dsimp only at hm
 refine sp 1<|rt<|⟨rfl,?_⟩
 obtain rfl:=si hm
 refine ⟨_,_,_,tk (.bool true) (ResL.nil),bd,?_⟩
 exact ⟨av,aw,ax,rfl,rfl,bb,bc⟩
 refine bk 0<|s0<|aD 1 j ?_ ?_ (kd:= .u8)<;>intro bY j
 refine xn 1<|dT<|s0<|aA 4 0 (V a0.At) ag rfl ?_
 obtain ⟨I,bf,j⟩:=ai j
 refine cA 1 ag (fun p=>dO F p ah an bf) ?_
 rintro _ bZ b0 _ b1 aL ⟨aN,aO,bg,rfl,rfl,bh,bj⟩
 refine xn 0<|g0<|aA 3 0 (V I.Open) aL rfl<|bB 3 0 (V (af (I.Open+1))) [V (af (I.Open+1))] [aN,V I.At,V I.Row,V (af (I.Open+1)),V I.bT, .bool I.cg,V I.Text,aO] aL rfl rfl rfl ?_
 intro b2 bl
 refine xn 0 ?_
 obtain rfl:=si j
 exact ⟨_,(⟨I.B,I.At,I.Row,af (I.Open+1),I.bT,I.cg,I.Text,I.L⟩:aE),aN,aO,bg,rfl,bh,bj,(by kernel_rfl),bl⟩
 refine xn 1<|dF<|s0<|aD 1 j ?_ ?_ (kd:= .u8)<;>intro b3 j
 refine xn 1<|dT<|s0<|aA 4 0 (V a0.At) ag rfl ?_
 obtain ⟨J,bm,j⟩:=ai j
 refine cA 1 ag (fun p=>dO F p ah an bm) ?_
 rintro _ b4 b5 _ b6 aS ⟨aT,aW,bn,rfl,rfl,bo,bp⟩
 refine xn 0<|g0<|aA 3 0 (V J.Open) aS rfl<|bB 3 0 (V (af (J.Open+1))) [V (af (J.Open+1))] [aT,V J.At,V J.Row,V (af (J.Open+1)),V J.bT, .bool J.cg,V J.Text,aW] aS rfl rfl rfl ?_
 intro b7 br
 refine xn 0 ?_
 obtain rfl:=si j
 exact ⟨_,(⟨J.B,J.At,J.Row,af (J.Open+1),J.bT,J.cg,J.Text,J.L⟩:aE),aT,aW,bn,rfl,bo,bp,(by kernel_rfl),br⟩
 refine xn 1<|dF<|s0<|aD 1 j ?_ ?_ (kd:= .u8)<;>intro b8 j
 refine xn 1<|dT<|s0<|aA 4 0 (V a0.At) ag rfl ?_
 obtain ⟨U,bt,j⟩:=ai j
 refine cA 1 ag (fun p=>dO F p ah an bt) ?_
 rintro _ b9 ca _ cb aX ⟨aY,aZ,bu,rfl,rfl,bw,bx⟩
 refine xn 0<|g0<|aA 4 0 (V U.Open) aX rfl<|bB 4 0 (V (imax (af (U.Open - 1)) 0)) [V (imax (af (U.Open - 1)) 0)] [aY,V U.At,V U.Row,V (imax (af (U.Open - 1)) 0),V U.bT, .bool U.cg,V U.Text,aZ] aX rfl rfl rfl ?_
 intro cc bz
 refine xn 0 ?_
 obtain rfl:=si j
 exact ⟨_,(⟨U.B,U.At,U.Row,imax (af (U.Open - 1)) 0,U.bT,U.cg,U.Text,U.L⟩:aE),aY,aZ,bu,rfl,bw,bx,(by kernel_rfl),bz⟩
 refine xn 1<|dF<|s0<|aD 1 j ?_ ?_ (kd:= .u8)<;>intro cd j
 refine xn 1<|dT<|s0<|aA 4 0 (V a0.At) ag rfl ?_
 obtain ⟨ab,bA,j⟩:=ai j
 refine cA 1 ag (fun p=>dO F p ah an bA) ?_
 rintro _ cf ch _ cj a1 ⟨a2,a3,bC,rfl,rfl,bD,bE⟩
 refine xn 0<|g0<|aA 4 0 (V ab.Open) a1 rfl<|bB 4 0 (V (imax (af (ab.Open - 1)) 0)) [V (imax (af (ab.Open - 1)) 0)] [a2,V ab.At,V ab.Row,V (imax (af (ab.Open - 1)) 0),V ab.bT, .bool ab.cg,V ab.Text,a3] a1 rfl rfl rfl ?_
 intro ck bF
 refine xn 0 ?_
 obtain rfl:=si j
 exact ⟨_,(⟨ab.B,ab.At,ab.Row,imax (af (ab.Open - 1)) 0,ab.bT,ab.cg,ab.Text,ab.L⟩:aE),a2,a3,bC,rfl,bD,bE,(by kernel_rfl),bF⟩
 refine xn 1<|dF<|s0<|aD 1 j ?_ ?_ (kd:= .u8)<;>intro cl j
 refine aA 4 0 (V a0.Open) ag rfl<|cC 0 j ?_ ?_<;>intro cn j
 refine xn 2<|dT<|g0<|aA 4 0 (V a0.At) ag rfl ?_
 obtain ⟨bH,bI,j⟩:=ai j
 refine cA 1 ag (fun p=>dO F p ah an bI) ?_
 rintro _ cq cr _ ct bJ ⟨bL,bM,bN,rfl,rfl,bO,bP⟩
 refine xn 0 ?_
 obtain rfl:=si j
 exact ⟨_,bH,bL,bM,bN,rfl,bO,bP,(by kernel_rfl),bJ⟩
 refine xn 2<|dF<|sp 1<|rt<|ba<|⟨rfl,?_⟩
 obtain rfl:=si j
 obtain rfl:=si hm
 refine ⟨_,_,_,tk (.bool false) (ResL.nil),ag,?_⟩
 exact ⟨aj,al,ao,rfl,rfl,ah,an⟩
 refine xn 8<|dF<|sp 1<|rt<|ba<|⟨rfl,?_⟩
 obtain rfl:=si j
 obtain rfl:=si hm
 refine ⟨_,_,_,tk (.bool false) (ResL.nil),ag,?_⟩
 exact ⟨aj,al,ao,rfl,rfl,ah,an⟩
def correctorref1_sign_l0 (F:Nat) (a0:List UInt8) (a1:Int) (J:Int) (U:Int):Nat→Int→Int→Option (Sum Int (Int×Int))
 | 0,_,_=>none
 | n+1,I,j=>
  if j<a1 then
   if 0≤j∧j<(a0.length:Int) then
    (a0[j.toNat]?).bind fun aa=>
    if (aa.toNat:Int)<(128:Int) then
     some (.inr ((-1),1))
    else
     if 0≤j∧j<(a0.length:Int) then
      (a0[j.toNat]?).bind fun ab=>
      if (191:Int)<(ab.toNat:Int) then
       some (.inr ((-1),1))
      else
       if 0≤j∧j<(a0.length:Int) then
        (a0[j.toNat]?).bind fun ad=>
        correctorref1_sign_l0 F a0 a1 J U n (a3 .i32 (r7 .i32 I 6) (IntKind.wrap .i32 (bx .u8 (ad.toNat:Int) 63))) (af (j+1))
       else none
     else none
   else none
  else
   some (.inl I)
def jh (F:Nat) (a0:List UInt8) (a1:Int) (I:Int) (J:Int):Option (Int×Int):=
 if (a0.length:Int)<a1 then
  some ((-1),1)
 else
  ((correctorref1_sign_l0 F a0 a1 I J F I 1):Option (Sum Int (Int×Int))).bind fun o=>match o with
   | .inl j=>((if j<J then
     some (.inr ((-1),1))
    else
     if (1114111:Int)<j then
      some (.inr ((-1),1))
     else
      if (55296:Int)≤j then
       if j≤(57343:Int) then
        some (.inr ((-1),1))
       else
        some (.inl ())
      else
       some (.inl ())):Option (Sum Unit (Int×Int))).bind fun o=>match o with
    | .inl ()=>some (j,a1)
    | .inr y=>some y
   | .inr y=>some y
theorem qH (F:Nat) {h:AH} {Z:Zn} {a0:List UInt8} {a1:Int} {ah:Int} {aa:Int} {v2} (hI:Inv Z h) (U:RS (α:=UInt8) Z v2 a0) {r:Int×Int} (hm:jh F a0 a1 ah aa=some r):
  bU Try.prog 75 [v2,V a1, .int .i32 ah, .int .i32 aa] h Z (.tuple #[.int .i32 r.1,V r.2]):=by
 refine b1 Try.func75 hI ?_
 intro hs hS
 unfold jh at hm
 refine sp 2<|sq<|s0<|bM 1 v2 (RS.len U)<|aO 1 hm ?_ ?_<;>intro az hm
 refine xn 0<|dT<|sp 2<|rt<|⟨rfl,?_⟩
 obtain rfl:=si hm
 refine ⟨_,_,_,tk (.int .i32 (-1)) (tk (V 1) (ResL.nil)),hS,?_⟩
 exact rfl
 refine xn 0<|dF<|sk<|sq<|sp 1 ?_
 obtain ⟨an,j,hm⟩:=ai hm
 refine aH [1,2,3] (fun l h=>∃ aq ab, .inl ab=an∧l=[(1,V a1),(2, .int .i32 ab),(3, .int .i32 aa)]∧St hs [] Z (0,0) aq h []) ?_ ?_
 rintro l aA ⟨aq,ab,rfl,rfl,ad⟩
 try dsimp only at hm
 refine sq ?_
 obtain ⟨ax,I,hm⟩:=ai hm
 refine ec [1,2] (fun l h=>∃ ar, .inl ()=ax∧l=[(1,V a1),(2, .int .i32 ab)]∧St hs [] Z (0,0) ar h []) (by kernel_rfl) ?_ ?_
 rintro l aB ⟨ar,rfl,rfl,ay⟩
 try dsimp only at hm
 refine sp 4<|rt<|⟨rfl,?_⟩
 obtain rfl:=si hm
 refine ⟨_,_,_,tk (.int .i32 ab) (tk (V a1) (ResL.nil)),ay,?_⟩
 exact rfl
 refine g0<|aO 2 I ?_ ?_ (kd:= .i32)<;>intro aC I
 refine xn 12<|dT<|sp 2<|rt<|⟨rfl,?_⟩
 obtain rfl:=si I
 obtain rfl:=si hm
 refine ⟨_,_,_,tk (.int .i32 (-1)) (tk (V 1) (ResL.nil)),ad,?_⟩
 exact rfl
 refine cC 2 I ?_ ?_ (kd:= .i32)<;>intro aD I
 refine xn 9<|dT<|sp 2<|rt<|⟨rfl,?_⟩
 obtain rfl:=si I
 obtain rfl:=si hm
 refine ⟨_,_,_,tk (.int .i32 (-1)) (tk (V 1) (ResL.nil)),ad,?_⟩
 exact rfl
 refine cv 3 I ?_ ?_ (kd:= .i32)<;>intro aE I
 refine fm 2 I ?_ ?_ (kd:= .i32)<;>intro aF I
 refine xn 2<|dT<|sp 2<|rt<|⟨rfl,?_⟩
 obtain rfl:=si I
 obtain rfl:=si hm
 refine ⟨_,_,_,tk (.int .i32 (-1)) (tk (V 1) (ResL.nil)),ad,?_⟩
 exact rfl
 refine xn 2<|dF<|sk ?_
 obtain rfl:=si I
 exact ⟨_,rfl,(by kernel_rfl),ad⟩
 refine xn 5<|dF<|sk ?_
 obtain rfl:=si I
 exact ⟨_,rfl,(by kernel_rfl),ad⟩
 refine bk 0<|lp [0,1,2,3,10] (fun n l h=>∃ au ae aj,correctorref1_sign_l0 F a0 a1 ah aa n ae aj=some an∧l=[(0,v2),(1,V a1),(2, .int .i32 ae),(3, .int .i32 aa),(10,V aj)]∧St hs [] Z (0,0) au h []) F ⟨_,ah,1,j,(by kernel_rfl),hS⟩ ?_
 rintro ao l aG ⟨au,ae,aj,j,rfl,J⟩
 rcases ao with _ | ao
 cases (show none=some an from j)
 rw [correctorref1_sign_l0] at j
 refine sq<|s0<|aO 2 j ?_ ?_<;>intro aI j
 refine xn 0<|dT<|sk<|sq<|bk 1<|sq<|s0<|a6 2 j (U.mono J.ag) ?_
 intro aJ j
 refine bp 0 0 (fun av=> .int .u8 (av.toNat:Int)) j (U.mono J.ag) J ?_
 intro av aK j
 refine aO 0 j ?_ ?_ (kd:= .u8)<;>intro aL j
 refine xn 7<|dT<|sp 2<|rt<|ba<|ba<|⟨rfl,?_⟩
 obtain rfl:=si j
 obtain rfl:=si hm
 refine ⟨_,_,_,tk (.int .i32 (-1)) (tk (V 1) (ResL.nil)),J,?_⟩
 exact rfl
 refine a6 3 j (U.mono J.ag) ?_
 intro aM j
 refine bp 0 0 (fun aw=> .int .u8 (aw.toNat:Int)) j (U.mono J.ag) J ?_
 intro aw aP j
 refine cC 0 j ?_ ?_ (kd:= .u8)<;>intro aR j
 refine xn 1<|dT<|sp 2<|rt<|ba<|ba<|⟨rfl,?_⟩
 obtain rfl:=si j
 obtain rfl:=si hm
 refine ⟨_,_,_,tk (.int .i32 (-1)) (tk (V 1) (ResL.nil)),J,?_⟩
 exact rfl
 refine xn 1<|dF<|sk<|g0<|a6 4 j (U.mono J.ag) ?_
 intro aS j
 refine bp 0 0 (fun al=> .int .u8 (al.toNat:Int)) j (U.mono J.ag) J ?_
 intro al aT j
 refine eA 1 (.int .i32 (IntKind.wrap .i32 (bx .u8 (al.toNat:Int) 63)))<|xn 2<|gp 3 ?_
 exact ⟨ao,Nat.lt_succ_self _,⟨_,a3 .i32 (r7 .i32 ae 6) (IntKind.wrap .i32 (bx .u8 (al.toNat:Int) 63)),af (aj+1),j,(by kernel_rfl),J⟩⟩
 refine xn 0<|dF<|xt 0<|aN ?_
 obtain rfl:=si j
 exact ⟨_,ae,rfl,(by kernel_rfl),J⟩
def ji (F:Nat) (a0:List UInt8):Option (Int×Int):=
 if (a0.length:Int)=(0:Int) then
  some ((-1),0)
 else
  if 0≤(0:Int)∧(0:Int)<(a0.length:Int) then
   (a0[(0:Int).toNat]?).bind fun j=>
   ((if (j.toNat:Int)<(128:Int) then
     some (.inr (IntKind.wrap .i32 (j.toNat:Int),1))
    else
     ((if (192:Int)≤(j.toNat:Int) then
       if (j.toNat:Int)<(224:Int) then
        some true
       else
        some false
      else
       some false):Option Bool).bind fun o=>match o with
      | aa=>if aa=true then
       (jh F a0 2 (IntKind.wrap .i32 (bx .u8 (j.toNat:Int) 31)) 128).bind fun I=>
       some (.inr (I.1,I.2))
      else
       ((if (224:Int)≤(j.toNat:Int) then
         if (j.toNat:Int)<(240:Int) then
          some true
         else
          some false
        else
         some false):Option Bool).bind fun o=>match o with
        | ab=>if ab=true then
         (jh F a0 3 (IntKind.wrap .i32 (bx .u8 (j.toNat:Int) 15)) 2048).bind fun J=>
         some (.inr (J.1,J.2))
        else
         if (240:Int)≤(j.toNat:Int) then
          if (j.toNat:Int)<(248:Int) then
           (jh F a0 4 (IntKind.wrap .i32 (bx .u8 (j.toNat:Int) 7)) 65536).bind fun U=>
           some (.inr (U.1,U.2))
          else
           some (.inl ())
         else
          some (.inl ())):Option (Sum Unit (Int×Int))).bind fun o=>match o with
    | .inl ()=>some ((-1),1)
    | .inr y=>some y
  else none
theorem oY (F:Nat) {h:AH} {Z:Zn} {a0:List UInt8} {v2} (hI:Inv Z h) (ab:RS (α:=UInt8) Z v2 a0) {r:Int×Int} (hm:ji F a0=some r):
  bU Try.prog 60 [v2] h Z (.tuple #[.int .i32 r.1,V r.2]):=by
 refine b1 Try.func60 hI ?_
 intro hs hS
 unfold ji at hm
 refine sp 2<|sq<|s0<|bM 1 v2 (RS.len ab)<|aD 0 hm ?_ ?_<;>intro aE hm
 refine xn 0<|dT<|sp 2<|rt<|⟨rfl,?_⟩
 obtain rfl:=si hm
 refine ⟨_,_,_,tk (.int .i32 (-1)) (tk (V 0) (ResL.nil)),hS,?_⟩
 exact rfl
 refine xn 0<|dF<|sk<|s0<|a6 1 hm ab ?_
 intro aF hm
 refine bp 0 0 (fun I=> .int .u8 (I.toNat:Int)) hm ab hS ?_
 intro I aG hm
 refine xn 1<|sq<|bk 0 ?_
 obtain ⟨ar,j,hm⟩:=ai hm
 refine ec [] (fun l h=>∃ ah, .inl ()=ar∧l=[]∧St hs [] Z (0,0) ah h []) (by kernel_rfl) ?_ ?_
 rintro l aI ⟨ah,rfl,rfl,au⟩
 try dsimp only at hm
 refine sp 2<|rt<|⟨rfl,?_⟩
 obtain rfl:=si hm
 refine ⟨_,_,_,tk (.int .i32 (-1)) (tk (V 1) (ResL.nil)),au,?_⟩
 exact rfl
 refine g0<|aO 1 j ?_ ?_ (kd:= .u8)<;>intro aJ j
 refine xn 1<|dT<|s0<|eA 1 (.int .i32 (IntKind.wrap .i32 (I.toNat:Int)))<|xn 2<|rt<|ba<|⟨rfl,?_⟩
 obtain rfl:=si j
 obtain rfl:=si hm
 refine ⟨_,_,_,tk (.int .i32 (IntKind.wrap .i32 (I.toNat:Int))) (tk (V 1) (ResL.nil)),hS,?_⟩
 exact rfl
 refine xn 1<|dF<|sq ?_
 obtain ⟨av,U,j⟩:=ai j
 refine aH [0,4,16] (fun l h=>∃ aj ae,ae=av∧l=[(0,v2),(4, .int .u8 (I.toNat:Int)),(16, .bool ae)]∧St hs [] Z (0,0) aj h []) ?_ ?_
 rintro l aK ⟨aj,ae,rfl,rfl,ad⟩
 try dsimp only at j
 refine db j ?_ ?_<;>intro aL j
 refine s0<|eA 3 (.int .i32 (IntKind.wrap .i32 (bx .u8 (I.toNat:Int) 31))) ?_
 obtain ⟨al,aw,j⟩:=ai j
 refine cP 0 ad (qH F ad.inv (ab.mono ad.ag) aw) ?_
 rintro _ aM ax rfl
 refine xn 4<|rt<|ba<|⟨rfl,?_⟩
 obtain rfl:=si j
 obtain rfl:=si hm
 refine ⟨_,_,_,tk (.int .i32 al.1) (tk (V al.2) (ResL.nil)),ax,?_⟩
 exact rfl
 refine sq ?_
 obtain ⟨ay,aa,j⟩:=ai j
 refine aH [0,4,30] (fun l h=>∃ an af,af=ay∧l=[(0,v2),(4, .int .u8 (I.toNat:Int)),(30, .bool af)]∧St hs [] Z (0,0) an h []) ?_ ?_
 rintro l aN ⟨an,af,rfl,rfl,J⟩
 try dsimp only at j
 refine db j ?_ ?_<;>intro aP j
 refine s0<|eA 3 (.int .i32 (IntKind.wrap .i32 (bx .u8 (I.toNat:Int) 15))) ?_
 obtain ⟨ao,az,j⟩:=ai j
 refine cP 0 J (qH F J.inv (ab.mono J.ag) az) ?_
 rintro _ aR aA rfl
 refine xn 4<|rt<|ba<|⟨rfl,?_⟩
 obtain rfl:=si j
 obtain rfl:=si hm
 refine ⟨_,_,_,tk (.int .i32 ao.1) (tk (V ao.2) (ResL.nil)),aA,?_⟩
 exact rfl
 refine s0<|cv 1 j ?_ ?_ (kd:= .u8)<;>intro aS j
 refine aO 2 j ?_ ?_ (kd:= .u8)<;>intro aT j
 refine xn 2<|dT<|s0<|eA 3 (.int .i32 (IntKind.wrap .i32 (bx .u8 (I.toNat:Int) 7))) ?_
 obtain ⟨aq,aB,j⟩:=ai j
 refine cP 0 J (qH F J.inv (ab.mono J.ag) aB) ?_
 rintro _ aU aC rfl
 refine xn 4<|rt<|ba<|⟨rfl,?_⟩
 obtain rfl:=si j
 obtain rfl:=si hm
 refine ⟨_,_,_,tk (.int .i32 aq.1) (tk (V aq.2) (ResL.nil)),aC,?_⟩
 exact rfl
 refine xn 2<|dF<|sk ?_
 obtain rfl:=si j
 exact ⟨_,rfl,(by kernel_rfl),J⟩
 refine xn 5<|dF<|sk ?_
 obtain rfl:=si j
 exact ⟨_,rfl,(by kernel_rfl),J⟩
 refine g0<|cv 1 aa ?_ ?_ (kd:= .u8)<;>intro aW aa
 refine aO 2 aa ?_ ?_ (kd:= .u8)<;>intro aX aa
 refine xn 2 ?_
 obtain rfl:=si aa
 exact ⟨_,true,rfl,(by kernel_rfl),ad⟩
 refine xn 2 ?_
 obtain rfl:=si aa
 exact ⟨_,false,rfl,(by kernel_rfl),ad⟩
 refine xn 5 ?_
 obtain rfl:=si aa
 exact ⟨_,false,rfl,(by kernel_rfl),ad⟩
 refine g0<|cv 1 U ?_ ?_ (kd:= .u8)<;>intro aY U
 refine aO 2 U ?_ ?_ (kd:= .u8)<;>intro aZ U
 refine xn 2 ?_
 obtain rfl:=si U
 exact ⟨_,true,rfl,(by kernel_rfl),hS⟩
 refine xn 2 ?_
 obtain rfl:=si U
 exact ⟨_,false,rfl,(by kernel_rfl),hS⟩
 refine xn 5 ?_
 obtain rfl:=si U
 exact ⟨_,false,rfl,(by kernel_rfl),hS⟩
def mY (F:Nat) (a0:Int):Option Bool:=
 if (97:Int)≤a0 then
  if a0≤(122:Int) then
   some true
  else
   if (65:Int)≤a0 then
    if a0≤(90:Int) then
     some true
    else
     if (48:Int)≤a0 then
      if a0≤(57:Int) then
       some true
      else
       if a0=(95:Int) then
        some true
       else
        if a0=(45:Int) then
         some true
        else
         some false
     else
      if a0=(95:Int) then
       some true
      else
       if a0=(45:Int) then
        some true
       else
        some false
   else
    if (48:Int)≤a0 then
     if a0≤(57:Int) then
      some true
     else
      if a0=(95:Int) then
       some true
      else
       if a0=(45:Int) then
        some true
       else
        some false
    else
     if a0=(95:Int) then
      some true
     else
      if a0=(45:Int) then
       some true
      else
       some false
 else
  if (65:Int)≤a0 then
   if a0≤(90:Int) then
    some true
   else
    if (48:Int)≤a0 then
     if a0≤(57:Int) then
      some true
     else
      if a0=(95:Int) then
       some true
      else
       if a0=(45:Int) then
        some true
       else
        some false
    else
     if a0=(95:Int) then
      some true
     else
      if a0=(45:Int) then
       some true
      else
       some false
  else
   if (48:Int)≤a0 then
    if a0≤(57:Int) then
     some true
    else
     if a0=(95:Int) then
      some true
     else
      if a0=(45:Int) then
       some true
      else
       some false
   else
    if a0=(95:Int) then
     some true
    else
     if a0=(45:Int) then
      some true
     else
      some false
theorem zA (F:Nat) {h:AH} {Z:Zn} {a0:Int} (hI:Inv Z h) {r:Bool} (hm:mY F a0=some r):
  bU Try.prog 76 [.int .u8 a0] h Z (.bool r):=by
 refine b1 Try.func76 hI ?_
 intro hs hS
 unfold mY at hm
 refine sp 1<|s0<|cv 1 hm ?_ ?_ (kd:= .u8)<;>intro j hm
 refine fm 2 hm ?_ ?_ (kd:= .u8)<;>intro I hm
 refine xn 26<|rt<|⟨rfl,?_⟩
 obtain rfl:=si hm
 refine ⟨_,_,_,tk (.bool true) (ResL.nil),hS,?_⟩
 exact rfl
 refine cv 3 hm ?_ ?_ (kd:= .u8)<;>intro J hm
 refine fm 2 hm ?_ ?_ (kd:= .u8)<;>intro U hm
 refine xn 19<|rt<|⟨rfl,?_⟩
 obtain rfl:=si hm
 refine ⟨_,_,_,tk (.bool true) (ResL.nil),hS,?_⟩
 exact rfl
 refine cv 4 hm ?_ ?_ (kd:= .u8)<;>intro aa hm
 refine fm 2 hm ?_ ?_ (kd:= .u8)<;>intro ab hm
 refine xn 11<|rt<|⟨rfl,?_⟩
 obtain rfl:=si hm
 refine ⟨_,_,_,tk (.bool true) (ResL.nil),hS,?_⟩
 exact rfl
 refine aD 4 hm ?_ ?_ (kd:= .u8)<;>intro ad hm
 refine xn 6<|rt<|⟨rfl,?_⟩
 obtain rfl:=si hm
 refine ⟨_,_,_,tk (.bool true) (ResL.nil),hS,?_⟩
 exact rfl
 refine aD 3 hm ?_ ?_ (kd:= .u8)<;>intro ae hm
 refine xn 2<|rt<|⟨rfl,?_⟩
 obtain rfl:=si hm
 refine ⟨_,_,_,tk (.bool true) (ResL.nil),hS,?_⟩
 exact rfl
 refine xn 2<|rt<|⟨rfl,?_⟩
 obtain rfl:=si hm
 refine ⟨_,_,_,tk (.bool false) (ResL.nil),hS,?_⟩
 exact rfl
 refine aD 7 hm ?_ ?_ (kd:= .u8)<;>intro af hm
 refine xn 6<|rt<|⟨rfl,?_⟩
 obtain rfl:=si hm
 refine ⟨_,_,_,tk (.bool true) (ResL.nil),hS,?_⟩
 exact rfl
 refine aD 3 hm ?_ ?_ (kd:= .u8)<;>intro ag hm
 refine xn 2<|rt<|⟨rfl,?_⟩
 obtain rfl:=si hm
 refine ⟨_,_,_,tk (.bool true) (ResL.nil),hS,?_⟩
 exact rfl
 refine xn 2<|rt<|⟨rfl,?_⟩
 obtain rfl:=si hm
 refine ⟨_,_,_,tk (.bool false) (ResL.nil),hS,?_⟩
 exact rfl
 refine cv 7 hm ?_ ?_ (kd:= .u8)<;>intro ah hm
 refine fm 2 hm ?_ ?_ (kd:= .u8)<;>intro ai hm
 refine xn 11<|rt<|⟨rfl,?_⟩
 obtain rfl:=si hm
 refine ⟨_,_,_,tk (.bool true) (ResL.nil),hS,?_⟩
 exact rfl
 refine aD 4 hm ?_ ?_ (kd:= .u8)<;>intro aj hm
 refine xn 6<|rt<|⟨rfl,?_⟩
 obtain rfl:=si hm
 refine ⟨_,_,_,tk (.bool true) (ResL.nil),hS,?_⟩
 exact rfl
 refine aD 3 hm ?_ ?_ (kd:= .u8)<;>intro al hm
 refine xn 2<|rt<|⟨rfl,?_⟩
 obtain rfl:=si hm
 refine ⟨_,_,_,tk (.bool true) (ResL.nil),hS,?_⟩
 exact rfl
 refine xn 2<|rt<|⟨rfl,?_⟩
 obtain rfl:=si hm
 refine ⟨_,_,_,tk (.bool false) (ResL.nil),hS,?_⟩
 exact rfl
 refine aD 7 hm ?_ ?_ (kd:= .u8)<;>intro an hm
 refine xn 6<|rt<|⟨rfl,?_⟩
 obtain rfl:=si hm
 refine ⟨_,_,_,tk (.bool true) (ResL.nil),hS,?_⟩
 exact rfl
 refine aD 3 hm ?_ ?_ (kd:= .u8)<;>intro ao hm
 refine xn 2<|rt<|⟨rfl,?_⟩
 obtain rfl:=si hm
 refine ⟨_,_,_,tk (.bool true) (ResL.nil),hS,?_⟩
 exact rfl
 refine xn 2<|rt<|⟨rfl,?_⟩
 obtain rfl:=si hm
 refine ⟨_,_,_,tk (.bool false) (ResL.nil),hS,?_⟩
 exact rfl
 refine cv 6 hm ?_ ?_ (kd:= .u8)<;>intro aq hm
 refine fm 2 hm ?_ ?_ (kd:= .u8)<;>intro ar hm
 refine xn 19<|rt<|⟨rfl,?_⟩
 obtain rfl:=si hm
 refine ⟨_,_,_,tk (.bool true) (ResL.nil),hS,?_⟩
 exact rfl
 refine cv 4 hm ?_ ?_ (kd:= .u8)<;>intro au hm
 refine fm 2 hm ?_ ?_ (kd:= .u8)<;>intro av hm
 refine xn 11<|rt<|⟨rfl,?_⟩
 obtain rfl:=si hm
 refine ⟨_,_,_,tk (.bool true) (ResL.nil),hS,?_⟩
 exact rfl
 refine aD 4 hm ?_ ?_ (kd:= .u8)<;>intro aw hm
 refine xn 6<|rt<|⟨rfl,?_⟩
 obtain rfl:=si hm
 refine ⟨_,_,_,tk (.bool true) (ResL.nil),hS,?_⟩
 exact rfl
 refine aD 3 hm ?_ ?_ (kd:= .u8)<;>intro ax hm
 refine xn 2<|rt<|⟨rfl,?_⟩
 obtain rfl:=si hm
 refine ⟨_,_,_,tk (.bool true) (ResL.nil),hS,?_⟩
 exact rfl
 refine xn 2<|rt<|⟨rfl,?_⟩
 obtain rfl:=si hm
 refine ⟨_,_,_,tk (.bool false) (ResL.nil),hS,?_⟩
 exact rfl
 refine aD 7 hm ?_ ?_ (kd:= .u8)<;>intro ay hm
 refine xn 6<|rt<|⟨rfl,?_⟩
 obtain rfl:=si hm
 refine ⟨_,_,_,tk (.bool true) (ResL.nil),hS,?_⟩
 exact rfl
 refine aD 3 hm ?_ ?_ (kd:= .u8)<;>intro az hm
 refine xn 2<|rt<|⟨rfl,?_⟩
 obtain rfl:=si hm
 refine ⟨_,_,_,tk (.bool true) (ResL.nil),hS,?_⟩
 exact rfl
 refine xn 2<|rt<|⟨rfl,?_⟩
 obtain rfl:=si hm
 refine ⟨_,_,_,tk (.bool false) (ResL.nil),hS,?_⟩
 exact rfl
 refine cv 7 hm ?_ ?_ (kd:= .u8)<;>intro aA hm
 refine fm 2 hm ?_ ?_ (kd:= .u8)<;>intro aB hm
 refine xn 11<|rt<|⟨rfl,?_⟩
 obtain rfl:=si hm
 refine ⟨_,_,_,tk (.bool true) (ResL.nil),hS,?_⟩
 exact rfl
 refine aD 4 hm ?_ ?_ (kd:= .u8)<;>intro aC hm
 refine xn 6<|rt<|⟨rfl,?_⟩
 obtain rfl:=si hm
 refine ⟨_,_,_,tk (.bool true) (ResL.nil),hS,?_⟩
 exact rfl
 refine aD 3 hm ?_ ?_ (kd:= .u8)<;>intro aE hm
 refine xn 2<|rt<|⟨rfl,?_⟩
 obtain rfl:=si hm
 refine ⟨_,_,_,tk (.bool true) (ResL.nil),hS,?_⟩
 exact rfl
 refine xn 2<|rt<|⟨rfl,?_⟩
 obtain rfl:=si hm
 refine ⟨_,_,_,tk (.bool false) (ResL.nil),hS,?_⟩
 exact rfl
 refine aD 7 hm ?_ ?_ (kd:= .u8)<;>intro aF hm
 refine xn 6<|rt<|⟨rfl,?_⟩
 obtain rfl:=si hm
 refine ⟨_,_,_,tk (.bool true) (ResL.nil),hS,?_⟩
 exact rfl
 refine aD 3 hm ?_ ?_ (kd:= .u8)<;>intro aG hm
 refine xn 2<|rt<|⟨rfl,?_⟩
 obtain rfl:=si hm
 refine ⟨_,_,_,tk (.bool true) (ResL.nil),hS,?_⟩
 exact rfl
 refine xn 2<|rt<|⟨rfl,?_⟩
 obtain rfl:=si hm
 refine ⟨_,_,_,tk (.bool false) (ResL.nil),hS,?_⟩
 exact rfl
def jP (F:Nat) (a0:aE) (a1:Int) (I:Bool):Nat→Int→Option Int
 | 0,_=>none
 | n+1,j=>
  ((if j<(a0.B.length:Int) then
    if 0≤j∧j<(a0.B.length:Int) then
     (a0.B[j.toNat]?).bind fun J=>
     (mY F (J.toNat:Int)).bind fun U=>
     if U=true then
      some (.inl ())
     else
      if I=true then
       if 0≤j∧j<(a0.B.length:Int) then
        (a0.B[j.toNat]?).bind fun aa=>
        if (aa.toNat:Int)=(33:Int) then
         some (.inl ())
        else
         some (.inr j)
       else none
      else
       some (.inr j)
    else none
   else
    some (.inr j)):Option (Sum Unit Int)).bind fun o=>match o with
   | .inl ()=>jP F a0 a1 I n (af (j+1))
   | .inr y=>some y
def lu (F:Nat) (a0:aE) (a1:Int) (j:Bool):Option Int:=
 ((jP F a0 a1 j F a1):Option Int).bind fun o=>match o with
  | I=>some I
theorem tK (F:Nat) {h:AH} {Z:Zn} {a0:aE} {a1:Int} {ad:Bool} {ah aa aq} (hI:Inv Z h) (ae:RS (α:=UInt8) Z aa a0.B) (aC:RS (α:=ak) Z aq a0.L) (al:Z ah=some (a9 aa aq a0)) {r:Int} (hm:lu F a0 a1 ad=some r):
  bU Try.prog 61 [Pt ah 0,V a1, .bool ad] h Z (V r):=by
 refine b1 Try.func61 hI ?_
 intro hs hS
 unfold lu at hm
 refine sp 1<|sq ?_
 obtain ⟨an,J,hm⟩:=ai hm
 refine aH [1] (fun l h=>∃ ar aj,aj=an∧l=[(1,V aj)]∧St hs [] Z (0,0) ar h []) ?_ ?_
 rintro l aF ⟨ar,aj,rfl,rfl,ay⟩
 try dsimp only at hm
 refine sp 2<|rt<|⟨rfl,?_⟩
 obtain rfl:=si hm
 refine ⟨_,_,_,tk (V aj) (ResL.nil),ay,?_⟩
 exact rfl
 refine bk 0<|lp [0,1,2] (fun n l h=>∃ au U,jP F a0 a1 ad n U=some an∧l=[(0,Pt ah 0),(1,V U),(2, .bool ad)]∧St hs [] Z (0,0) au h []) F ⟨_,a1,J,(by kernel_rfl),hS⟩ ?_
 rintro ao l aG ⟨au,U,J,rfl,I⟩
 rcases ao with _ | ao
 cases (show none=some an from J)
 rw [jP] at J
 refine sq ?_
 obtain ⟨az,j,J⟩:=ai J
 refine aH [0,1,2] (fun l h=>∃ av, .inl ()=az∧l=[(0,Pt ah 0),(1,V U),(2, .bool ad)]∧St hs [] Z (0,0) av h []) ?_ ?_
 rintro l aI ⟨av,rfl,rfl,aA⟩
 try dsimp only at J
 refine bk 1<|gp 3 ?_
 exact ⟨ao,Nat.lt_succ_self _,⟨_,af (U+1),J,(by kernel_rfl),aA⟩⟩
 refine s0<|bu 4 aa I (I.ag _ _ al)<|bM 0 aa (RS.len (ae.mono I.ag))<|aO 0 j ?_ ?_<;>intro aJ j
 refine bu 4 aa I (I.ag _ _ al)<|a6 1 j (ae.mono I.ag) ?_
 intro aK j
 refine bp 0 0 (fun aw=> .int .u8 (aw.toNat:Int)) j (ae.mono I.ag) I ?_
 intro aw aL j
 obtain ⟨aM,aB,j⟩:=ai j
 refine cP 0 I (zA F I.inv aB) ?_
 rintro _ aP ab rfl
 refine kb 1 23 j ?_ ?_<;>intro aR j
 refine xn 13<|dT<|sk ?_
 obtain rfl:=si j
 exact ⟨_,rfl,(by kernel_rfl),ab⟩
 refine kb 2 25 j ?_ ?_<;>intro aS j
 refine bu 3 aa ab (I.ag _ _ al)<|a6 1 j (ae.mono I.ag) ?_
 intro aT j
 refine bp 0 0 (fun ax=> .int .u8 (ax.toNat:Int)) j (ae.mono I.ag) ab ?_
 intro ax aU j
 refine aD 0 j ?_ ?_ (kd:= .u8)<;>intro aW j
 refine xn 3<|dT<|sk ?_
 obtain rfl:=si j
 exact ⟨_,rfl,(by kernel_rfl),ab⟩
 refine xn 3<|dF<|xt 0<|aN ?_
 obtain rfl:=si j
 obtain rfl:=si J
 exact ⟨_,U,rfl,(by kernel_rfl),ab⟩
 refine xn 11<|dF<|xt 0<|aN ?_
 obtain rfl:=si j
 obtain rfl:=si J
 exact ⟨_,U,rfl,(by kernel_rfl),ab⟩
 refine xn 23<|dF<|xt 0<|aN ?_
 obtain rfl:=si j
 obtain rfl:=si J
 exact ⟨_,U,rfl,(by kernel_rfl),I⟩
def jU (F:Nat) (a0:Int):Option Bool:=
 if a0=(44:Int) then
  some true
 else
  if a0=(91:Int) then
   some true
  else
   if a0=(93:Int) then
    some true
   else
    if a0=(123:Int) then
     some true
    else
     if a0=(125:Int) then
      some true
     else
      some false
theorem rN (F:Nat) {h:AH} {Z:Zn} {a0:Int} (hI:Inv Z h) {r:Bool} (hm:jU F a0=some r):
  bU Try.prog 77 [.int .u8 a0] h Z (.bool r):=by
 refine b1 Try.func77 hI ?_
 intro hs hS
 unfold jU at hm
 refine sp 1<|s0<|aD 1 hm ?_ ?_ (kd:= .u8)<;>intro j hm
 refine xn 17<|rt<|⟨rfl,?_⟩
 obtain rfl:=si hm
 refine ⟨_,_,_,tk (.bool true) (ResL.nil),hS,?_⟩
 exact rfl
 refine aD 2 hm ?_ ?_ (kd:= .u8)<;>intro I hm
 refine xn 14<|rt<|⟨rfl,?_⟩
 obtain rfl:=si hm
 refine ⟨_,_,_,tk (.bool true) (ResL.nil),hS,?_⟩
 exact rfl
 refine aD 3 hm ?_ ?_ (kd:= .u8)<;>intro J hm
 refine xn 10<|rt<|⟨rfl,?_⟩
 obtain rfl:=si hm
 refine ⟨_,_,_,tk (.bool true) (ResL.nil),hS,?_⟩
 exact rfl
 refine aD 3 hm ?_ ?_ (kd:= .u8)<;>intro U hm
 refine xn 6<|rt<|⟨rfl,?_⟩
 obtain rfl:=si hm
 refine ⟨_,_,_,tk (.bool true) (ResL.nil),hS,?_⟩
 exact rfl
 refine aD 3 hm ?_ ?_ (kd:= .u8)<;>intro aa hm
 refine xn 2<|rt<|⟨rfl,?_⟩
 obtain rfl:=si hm
 refine ⟨_,_,_,tk (.bool true) (ResL.nil),hS,?_⟩
 exact rfl
 refine xn 2<|rt<|⟨rfl,?_⟩
 obtain rfl:=si hm
 refine ⟨_,_,_,tk (.bool false) (ResL.nil),hS,?_⟩
 exact rfl
def la (F:Nat) (a0:aE) (a1:Int):Option Bool:=
 (ib F a0 a1).bind fun j=>
 if (j.toNat:Int)=(58:Int) then
  if a1<(a0.B.length:Int) then
   (jR F a0 (af (a1+1))).bind fun I=>
   if I=true then
    some true
   else
    if (0:Int)<a0.Open then
     (ib F a0 (af (a1+1))).bind fun J=>
     (jU F (J.toNat:Int)).bind fun U=>
     some U
    else
     some false
  else
   some false
 else
  some false
theorem vf (F:Nat) {h:AH} {Z:Zn} {a0:aE} {a1:Int} {ad U ae} (hI:Inv Z h) (aa:RS (α:=UInt8) Z U a0.B) (ab:RS (α:=ak) Z ae a0.L) (j:Z ad=some (a9 U ae a0)) {r:Bool} (hm:la F a0 a1=some r):
  bU Try.prog 62 [Pt ad 0,V a1] h Z (.bool r):=by
 refine b1 Try.func62 hI ?_
 intro hs hS
 unfold la at hm
 refine sp 1<|s0 ?_
 obtain ⟨aq,ag,hm⟩:=ai hm
 refine cP 2 hS (nY F hS.inv aa ab j ag) ?_
 rintro _ ar I rfl
 refine aD 0 hm ?_ ?_ (kd:= .u8)<;>intro au hm
 refine bu 5 U I j<|bM 0 U (RS.len aa)<|aO 0 hm ?_ ?_<;>intro av hm
 obtain ⟨aw,ah,hm⟩:=ai hm
 refine cP 5 I (rE F I.inv aa ab j ah) ?_
 rintro _ ax J rfl
 refine kb 1 23 hm ?_ ?_<;>intro ay hm
 refine xn 15<|rt<|⟨rfl,?_⟩
 obtain rfl:=si hm
 refine ⟨_,_,_,tk (.bool true) (ResL.nil),J,?_⟩
 exact rfl
 refine bu 3 (V a0.Open) J j<|cC 0 hm ?_ ?_<;>intro az hm
 obtain ⟨aA,aj,hm⟩:=ai hm
 refine cP 4 J (nY F J.inv aa ab j aj) ?_
 rintro _ aB af rfl
 obtain ⟨al,an,hm⟩:=ai hm
 refine cP 0 af (rN F af.inv an) ?_
 rintro _ aC ao rfl
 refine xn 4<|rt<|⟨rfl,?_⟩
 obtain rfl:=si hm
 refine ⟨_,_,_,tk (.bool al) (ResL.nil),ao,?_⟩
 exact rfl
 refine xn 10<|rt<|⟨rfl,?_⟩
 obtain rfl:=si hm
 refine ⟨_,_,_,tk (.bool false) (ResL.nil),J,?_⟩
 exact rfl
 refine xn 22<|rt<|⟨rfl,?_⟩
 obtain rfl:=si hm
 refine ⟨_,_,_,tk (.bool false) (ResL.nil),I,?_⟩
 exact rfl
 refine xn 30<|rt<|⟨rfl,?_⟩
 obtain rfl:=si hm
 refine ⟨_,_,_,tk (.bool false) (ResL.nil),I,?_⟩
 exact rfl
def correctorref6_scanner_single_l0 (F:Nat) (a0:aE) (a1:Int) (I:Int):Nat→Int→Option (Sum Unit Int)
 | 0,_=>none
 | n+1,j=>
  if j<I then
   ((if 0≤j∧j<(a0.B.length:Int) then
     (a0.B[j.toNat]?).bind fun J=>
     if (J.toNat:Int)=(39:Int) then
      ((if (af (j+1))<I then
        if 0≤(af (j+1))∧(af (j+1))<(a0.B.length:Int) then
         (a0.B[(af (j+1)).toNat]?).bind fun U=>
         if (U.toNat:Int)=(39:Int) then
          some (.inr (af (j+2)))
         else
          some (.inl ())
        else none
       else
        some (.inl ())):Option (Sum Unit Int)).bind fun o=>match o with
       | .inl ()=>some (.inr (af (j+1)))
       | .inr y=>some (.inl y)
     else
      some (.inl (af (j+1)))
    else none):Option (Sum Int Int)).bind fun o=>match o with
    | .inl aa=>correctorref6_scanner_single_l0 F a0 a1 I n aa
    | .inr y=>some (.inr y)
  else
   some (.inl ())
def mR (F:Nat) (a0:aE) (a1:Int) (j:Int):Option Int:=
 ((correctorref6_scanner_single_l0 F a0 a1 j F a1):Option (Sum Unit Int)).bind fun o=>match o with
  | .inl ()=>some j
  | .inr y=>some y
theorem Cd (F:Nat) {h:AH} {Z:Zn} {a0:aE} {a1:Int} {aa:Int} {ad ae ao} (hI:Inv Z h) (ah:RS (α:=UInt8) Z ae a0.B) (aG:RS (α:=ak) Z ao a0.L) (aq:Z ad=some (a9 ae ao a0)) {r:Int} (hm:mR F a0 a1 aa=some r):
  bU Try.prog 63 [Pt ad 0,V a1,V aa] h Z (V r):=by
 refine b1 Try.func63 hI ?_
 intro hs hS
 unfold mR at hm
 refine sp 1<|sq ?_
 obtain ⟨al,I,hm⟩:=ai hm
 refine aH [2] (fun l h=>∃ ar, .inl ()=al∧l=[(2,V aa)]∧St hs [] Z (0,0) ar h []) ?_ ?_
 rintro l aI ⟨ar,rfl,rfl,az⟩
 try dsimp only at hm
 refine sp 2<|rt<|⟨rfl,?_⟩
 obtain rfl:=si hm
 refine ⟨_,_,_,tk (V aa) (ResL.nil),az,?_⟩
 exact rfl
 refine bk 0<|lp [0,1,2] (fun n l h=>∃ au ab,correctorref6_scanner_single_l0 F a0 a1 aa n ab=some al∧l=[(0,Pt ad 0),(1,V ab),(2,V aa)]∧St hs [] Z (0,0) au h []) F ⟨_,a1,I,(by kernel_rfl),hS⟩ ?_
 rintro an l aJ ⟨au,ab,I,rfl,j⟩
 rcases an with _ | an
 cases (show none=some al from I)
 rw [correctorref6_scanner_single_l0] at I
 refine sq<|s0<|aO 2 I ?_ ?_<;>intro aK I
 refine xn 0<|dT<|sk ?_
 obtain ⟨aA,J,I⟩:=ai I
 refine aH [0,1,2] (fun l h=>∃ av aj, .inl aj=aA∧l=[(0,Pt ad 0),(1,V aj),(2,V aa)]∧St hs [] Z (0,0) av h []) ?_ ?_
 rintro l aL ⟨av,aj,rfl,rfl,aB⟩
 try dsimp only at I
 exact ⟨an,Nat.lt_succ_self _,⟨_,aj,I,(by kernel_rfl),aB⟩⟩
 refine bk 1<|sq<|s0<|bu 3 ae j (j.ag _ _ aq)<|a6 1 J (ah.mono j.ag) ?_
 intro aM J
 refine bp 0 0 (fun aw=> .int .u8 (aw.toNat:Int)) J (ah.mono j.ag) j ?_
 intro aw aP J
 refine cZ 0 J ?_ ?_ (kd:= .u8)<;>intro aR J
 refine xn 0<|dF<|sk<|sq ?_
 obtain ⟨aC,U,J⟩:=ai J
 refine ec [1] (fun l h=>∃ ax, .inl ()=aC∧l=[(1,V ab)]∧St hs [] Z (0,0) ax h []) (by kernel_rfl) ?_ ?_
 rintro l aS ⟨ax,rfl,rfl,aF⟩
 try dsimp only at J
 refine sp 3<|rt<|ba<|ba<|⟨rfl,?_⟩
 obtain rfl:=si J
 obtain rfl:=si I
 obtain rfl:=si hm
 refine ⟨_,_,_,tk (V (af (ab+1))) (ResL.nil),aF,?_⟩
 exact rfl
 refine g0<|aO 3 U ?_ ?_<;>intro aT U
 refine bu 4 ae j (j.ag _ _ aq)<|a6 2 U (ah.mono j.ag) ?_
 intro aU U
 refine bp 0 0 (fun ay=> .int .u8 (ay.toNat:Int)) U (ah.mono j.ag) j ?_
 intro ay aW U
 refine aD 0 U ?_ ?_ (kd:= .u8)<;>intro aX U
 refine xn 1<|dT<|sp 3<|xt 1<|aN ?_
 obtain rfl:=si U
 obtain rfl:=si J
 exact ⟨_,af (ab+2),rfl,(by kernel_rfl),j⟩
 refine xn 1<|dF<|sk ?_
 obtain rfl:=si U
 exact ⟨_,rfl,(by kernel_rfl),j⟩
 refine xn 11<|dF<|sk ?_
 obtain rfl:=si U
 exact ⟨_,rfl,(by kernel_rfl),j⟩
 refine xn 0<|dT<|sp 3<|xt 1<|aN ?_
 obtain rfl:=si J
 exact ⟨_,af (ab+1),rfl,(by kernel_rfl),j⟩
 refine xn 0<|dF<|xt 0<|aN ?_
 obtain rfl:=si I
 exact ⟨_,rfl,(by kernel_rfl),j⟩
def lU (F:Nat) (a0:aE) (a1:Int) (I:Int):Nat→Int→Option (Sum Unit Int)
 | 0,_=>none
 | n+1,j=>
  if j<I then
   if 0≤j∧j<(a0.B.length:Int) then
    (a0.B[j.toNat]?).bind fun J=>
    if (J.toNat:Int)=(34:Int) then
     some (.inr (af (j+1)))
    else
     ((if 0≤j∧j<(a0.B.length:Int) then
       (a0.B[j.toNat]?).bind fun U=>
       if (U.toNat:Int)=(92:Int) then
        some (af (j+1))
       else
        some j
      else none):Option Int).bind fun o=>match o with
      | aa=>lU F a0 a1 I n (af (aa+1))
   else none
  else
   some (.inl ())
def mh (F:Nat) (a0:aE) (a1:Int) (j:Int):Option Int:=
 ((lU F a0 a1 j F a1):Option (Sum Unit Int)).bind fun o=>match o with
  | .inl ()=>some j
  | .inr y=>some y
theorem xD (F:Nat) {h:AH} {Z:Zn} {a0:aE} {a1:Int} {U:Int} {ab ad an} (hI:Inv Z h) (ae:RS (α:=UInt8) Z ad a0.B) (aA:RS (α:=ak) Z an a0.L) (ao:Z ab=some (a9 ad an a0)) {r:Int} (hm:mh F a0 a1 U=some r):
  bU Try.prog 64 [Pt ab 0,V a1,V U] h Z (V r):=by
 refine b1 Try.func64 hI ?_
 intro hs hS
 unfold mh at hm
 refine sp 1<|sq ?_
 obtain ⟨aj,j,hm⟩:=ai hm
 refine aH [2] (fun l h=>∃ aq, .inl ()=aj∧l=[(2,V U)]∧St hs [] Z (0,0) aq h []) ?_ ?_
 rintro l aB ⟨aq,rfl,rfl,ax⟩
 try dsimp only at hm
 refine sp 2<|rt<|⟨rfl,?_⟩
 obtain rfl:=si hm
 refine ⟨_,_,_,tk (V U) (ResL.nil),ax,?_⟩
 exact rfl
 refine bk 0<|lp [0,1,2] (fun n l h=>∃ ar aa,lU F a0 a1 U n aa=some aj∧l=[(0,Pt ab 0),(1,V aa),(2,V U)]∧St hs [] Z (0,0) ar h []) F ⟨_,a1,j,(by kernel_rfl),hS⟩ ?_
 rintro al l aC ⟨ar,aa,j,rfl,I⟩
 rcases al with _ | al
 cases (show none=some aj from j)
 rw [lU] at j
 refine sq<|s0<|aO 2 j ?_ ?_<;>intro aF j
 refine xn 0<|dT<|sk<|bk 1<|sq<|s0<|bu 3 ad I (I.ag _ _ ao)<|a6 1 j (ae.mono I.ag) ?_
 intro aG j
 refine bp 0 0 (fun au=> .int .u8 (au.toNat:Int)) j (ae.mono I.ag) I ?_
 intro au aI j
 refine aD 0 j ?_ ?_ (kd:= .u8)<;>intro aJ j
 refine xn 0<|dT<|sp 3<|rt<|ba<|ba<|⟨rfl,?_⟩
 obtain rfl:=si j
 obtain rfl:=si hm
 refine ⟨_,_,_,tk (V (af (aa+1))) (ResL.nil),I,?_⟩
 exact rfl
 refine xn 0<|dF<|sk<|sq ?_
 obtain ⟨ay,J,j⟩:=ai j
 refine ec [0,1,2] (fun l h=>∃ av ah,ah=ay∧l=[(0,Pt ab 0),(1,V ah),(2,V U)]∧St hs [] Z (0,0) av h []) (by kernel_rfl) ?_ ?_
 rintro l aK ⟨av,ah,rfl,rfl,az⟩
 try dsimp only at j
 refine gp 3 ?_
 exact ⟨al,Nat.lt_succ_self _,⟨_,af (ah+1),j,(by kernel_rfl),az⟩⟩
 refine g0<|bu 3 ad I (I.ag _ _ ao)<|a6 1 J (ae.mono I.ag) ?_
 intro aL J
 refine bp 0 0 (fun aw=> .int .u8 (aw.toNat:Int)) J (ae.mono I.ag) I ?_
 intro aw aM J
 refine aD 0 J ?_ ?_ (kd:= .u8)<;>intro aP J
 refine xn 0<|dT<|gp 3 ?_
 obtain rfl:=si J
 exact ⟨_,af (aa+1),rfl,(by kernel_rfl),I⟩
 refine xn 0<|dF<|sk ?_
 obtain rfl:=si J
 exact ⟨_,aa,rfl,(by kernel_rfl),I⟩
 refine xn 0<|dF<|xt 0<|aN ?_
 obtain rfl:=si j
 exact ⟨_,rfl,(by kernel_rfl),I⟩
def DX:List bq:=[uP 6 (mv 0),uP 7 (nk 6),uP 8 (fa 81 7 0),uL 9 (ld 31 8),uP 10 (mv 0),uP 11 (nk 10),uP 12 (fa 81 11 1),uL 13 (ld 3 12),uP 14 (ia 31 9 13),uL 15 (ld 5 14),uP 3 (sg 15)]
def gU (F:Nat) (a0:aE):Nat→Int→Int→Option (Int×Int)
 | 0,_,_=>none
 | n+1,I,j=>
  if j<(a0.B.length:Int) then
   if 0≤j∧j<(a0.B.length:Int) then
    (a0.B[j.toNat]?).bind fun J=>
    (gq F (J.toNat:Int)).bind fun U=>
    if U=true then
     gU F a0 n I (af (j+1))
    else
     some (I,j)
   else none
  else
   some (I,j)
def hU (F:Nat) (a0:aE):Option Int:=
 if 0≤a0.At∧a0.At<(a0.B.length:Int) then
  (a0.B[a0.At.toNat]?).bind fun I=>
  ((if (I.toNat:Int)=(124:Int) then
    if (0:Int)<a0.Open then
     some (.inr 0)
    else
     some (.inl ())
   else
    if (I.toNat:Int)=(62:Int) then
     if (0:Int)<a0.Open then
      some (.inr 0)
     else
      some (.inl ())
    else
     some (.inr 0)):Option (Sum Unit Int)).bind fun o=>match o with
   | .inl ()=>(((ib F a0 (af (a0.At+1))).bind fun aa=>
    if (aa.toNat:Int)=(43:Int) then
     some (af ((af (a0.At+1))+1))
    else
     (ib F a0 (af (a0.At+1))).bind fun ab=>
     if (ab.toNat:Int)=(45:Int) then
      some (af ((af (a0.At+1))+1))
     else
      some (af (a0.At+1))):Option Int).bind fun o=>match o with
    | J=>((gU F a0 F J J):Option (Int×Int)).bind fun o=>match o with
     | (U,j)=>((if j<(a0.B.length:Int) then
       (correctorref2_Break F a0.B j).bind fun ad=>
       if ad=(0:Int) then
        if 0≤j∧j<(a0.B.length:Int) then
         (a0.B[j.toNat]?).bind fun ae=>
         if (ae.toNat:Int)=(35:Int) then
          if U<j then
           some (.inl ())
          else
           some (.inr 0)
         else
          some (.inr 0)
        else none
       else
        some (.inl ())
      else
       some (.inl ())):Option (Sum Unit Int)).bind fun o=>match o with
      | .inl ()=>some (af (U - a0.At))
      | .inr y=>some y
   | .inr y=>some y
 else none
theorem sD (F:Nat) {h:AH} {Z:Zn} {a0:aE} {ab ad aJ} (hI:Inv Z h) (ae:RS (α:=UInt8) Z ad a0.B) (aL:RS (α:=ak) Z aJ a0.L) (J:Z ab=some (a9 ad aJ a0)) {r:Int} (hm:hU F a0=some r):
  bU Try.prog 65 [Pt ab 0] h Z (V r):=by
 refine b1 Try.func65 hI ?_
 intro hs hS
 unfold hU at hm
 refine sp 1<|cT DX hS ?_
 intro bh bj bl ax
 refine yq 3 [(8,Pt ab 0),(0,Pt ab 0)]<|cG rfl rfl trivial (fun h2 hz=>lB (v:=ad) h2 hz J rfl (by kernel_rfl)) (ax.bV (aM.refl _)) (aB (v:=ad) (RS.dD ae)) trivial<|yq 3 [(12,Pt ab 1),(9,ad),(0,Pt ab 0)]<|cG rfl rfl trivial (fun h2 hz=>lB (v:=V a0.At) h2 hz J rfl (by kernel_rfl)) (ax.bV (aM.refl _)) (aB (v:=V a0.At) trivial) trivial ?_
 obtain ⟨aP,hm⟩:=aK hm
 refine aF rfl trivial (bG rfl rfl (by kernel_rfl:slTy _ _=some (aa UInt8)) (RS.cU ae (by omega)) aP.1 aP.2) ?_
 obtain ⟨ay,a2,hm⟩:=ai hm
 obtain ⟨bm,a3,a4⟩:=RS.cp ae (i:=a0.At) a2
 obtain rfl:=o2 a3
 refine cG rfl rfl trivial (fun h2 hz=>bK (w:= .int .u8 (ay.toNat:Int)) (a4 h2 hz) rfl (by kernel_rfl)) (ax.bV (aM.refl _)) (aB (v:= .int .u8 (ay.toNat:Int)) trivial) trivial<|ye 1 [(3, .int .u8 (ay.toNat:Int)),(0,Pt ab 0)] ?_
 have ao:=ax.a5
 refine sq ?_
 obtain ⟨a7,U,hm⟩:=ai hm
 refine aH [0] (fun l h=>∃ aR, .inl ()=a7∧l=[(0,Pt ab 0)]∧St hs [] Z (0,0) aR h []) ?_ ?_
 rintro l bn ⟨aR,rfl,rfl,an⟩
 try dsimp only at hm
 refine s0<|bu 3 (V a0.At) an (an.ag _ _ J)<|xn 2<|sq ?_
 obtain ⟨a8,aj,hm⟩:=ai hm
 refine aH [0,4] (fun l h=>∃ aS av,av=a8∧l=[(0,Pt ab 0),(4,V av)]∧St hs [] Z (0,0) aS h []) ?_ ?_
 rintro l bo ⟨aS,av,rfl,rfl,ba⟩
 try dsimp only at hm
 refine sp 2<|sq ?_
 obtain ⟨az,I,hm⟩:=ai hm
 refine aH [0,4,5] (fun l h=>∃ aT aw aA,(aw,aA)=az∧l=[(0,Pt ab 0),(4,V aw),(5,V aA)]∧St hs [] Z (0,0) aT h []) ?_ ?_
 rintro l br ⟨aT,aw,aA,rfl,rfl,ah⟩
 try dsimp only at hm
 refine sq ?_
 obtain ⟨bb,j,hm⟩:=ai hm
 refine ec [0,4] (fun l h=>∃ aU, .inl ()=bb∧l=[(0,Pt ab 0),(4,V aw)]∧St hs [] Z (0,0) aU h []) (by kernel_rfl) ?_ ?_
 rintro l bt ⟨aU,rfl,rfl,aC⟩
 try dsimp only at hm
 refine s0<|bu 4 (V a0.At) aC (aC.ag _ _ J)<|xn 2<|rt<|⟨rfl,?_⟩
 obtain rfl:=si hm
 refine ⟨_,_,_,tk (V (af (aw - a0.At))) (ResL.nil),aC,?_⟩
 exact rfl
 refine g0<|bu 4 ad ah (ah.ag _ _ J)<|bM 0 ad (RS.len (ae.mono ah.ag))<|aO 0 j ?_ ?_<;>intro bw j
 refine bu 4 ad ah (ah.ag _ _ J) ?_
 obtain ⟨bx,bc,j⟩:=ai j
 refine cP 1 ah (lV F ah.inv (ae.mono ah.ag) bc) ?_
 rintro _ bz aq rfl
 refine aD 0 j ?_ ?_<;>intro bA j
 refine bu 5 ad aq (ah.ag _ _ J)<|a6 1 j (ae.mono ah.ag) ?_
 intro bB j
 refine bp 0 0 (fun aW=> .int .u8 (aW.toNat:Int)) j (ae.mono ah.ag) aq ?_
 intro aW bC j
 refine aD 0 j ?_ ?_ (kd:= .u8)<;>intro bD j
 refine cC 3 j ?_ ?_<;>intro bE j
 refine xn 3<|dF<|sk ?_
 obtain rfl:=si j
 exact ⟨_,rfl,(by kernel_rfl),aq⟩
 refine xn 3<|dT<|sp 1<|rt<|⟨rfl,?_⟩
 obtain rfl:=si j
 obtain rfl:=si hm
 refine ⟨_,_,_,tk (V 0) (ResL.nil),aq,?_⟩
 exact rfl
 refine xn 7<|dT<|sp 1<|rt<|⟨rfl,?_⟩
 obtain rfl:=si j
 obtain rfl:=si hm
 refine ⟨_,_,_,tk (V 0) (ResL.nil),aq,?_⟩
 exact rfl
 refine xn 17<|dF<|sk ?_
 obtain rfl:=si j
 exact ⟨_,rfl,(by kernel_rfl),aq⟩
 refine xn 25<|dF<|sk ?_
 obtain rfl:=si j
 exact ⟨_,rfl,(by kernel_rfl),ah⟩
 refine bk 0<|lp [0,4,5] (fun n l h=>∃ aX ar au,gU F a0 n ar au=some az∧l=[(0,Pt ab 0),(4,V ar),(5,V au)]∧St hs [] Z (0,0) aX h []) F ⟨_,av,av,I,(by kernel_rfl),ba⟩ ?_
 rintro aG l bF ⟨aX,ar,au,I,rfl,al⟩
 rcases aG with _ | aG
 cases (show none=some az from I)
 rw [gU] at I
 refine sq<|s0<|bu 4 ad al (al.ag _ _ J)<|bM 0 ad (RS.len (ae.mono al.ag))<|aO 0 I ?_ ?_<;>intro bH I
 refine bu 4 ad al (al.ag _ _ J)<|a6 1 I (ae.mono al.ag) ?_
 intro bI I
 refine bp 0 0 (fun aY=> .int .u8 (aY.toNat:Int)) I (ae.mono al.ag) al ?_
 intro aY bJ I
 obtain ⟨bL,bd,I⟩:=ai I
 refine cP 0 al (jV F al.inv bd) ?_
 rintro _ bN aZ rfl
 refine xn 1<|db I ?_ ?_<;>intro bO I
 refine sk<|bk 1<|gp 3 ?_
 exact ⟨aG,Nat.lt_succ_self _,⟨_,ar,af (au+1),I,(by kernel_rfl),aZ⟩⟩
 refine xt 0<|aN ?_
 obtain rfl:=si I
 exact ⟨_,ar,au,rfl,(by kernel_rfl),aZ⟩
 refine xn 10<|dF<|xt 0<|aN ?_
 obtain rfl:=si I
 exact ⟨_,ar,au,rfl,(by kernel_rfl),al⟩
 refine s0 ?_
 obtain ⟨bP,bf,aj⟩:=ai aj
 refine cP 2 an (nY F an.inv (ae.mono an.ag) (aL.mono an.ag) (an.ag _ _ J) bf) ?_
 rintro _ bQ aI rfl
 refine aD 0 aj ?_ ?_ (kd:= .u8)<;>intro bR aj
 refine xn 6<|dT<|gp 3 ?_
 obtain rfl:=si aj
 exact ⟨_,af ((af (a0.At+1))+1),rfl,(by kernel_rfl),aI⟩
 obtain ⟨bS,bg,aj⟩:=ai aj
 refine cP 3 aI (nY F aI.inv (ae.mono an.ag) (aL.mono an.ag) (an.ag _ _ J) bg) ?_
 rintro _ bT a1 rfl
 refine aD 0 aj ?_ ?_ (kd:= .u8)<;>intro bW aj
 refine xn 1<|dT<|gp 3 ?_
 obtain rfl:=si aj
 exact ⟨_,af ((af (a0.At+1))+1),rfl,(by kernel_rfl),a1⟩
 refine xn 1<|dF<|sk ?_
 obtain rfl:=si aj
 exact ⟨_,af (a0.At+1),rfl,(by kernel_rfl),a1⟩
 refine s0<|cZ 1 U ?_ ?_ (kd:= .u8)<;>intro bX U
 refine bu 8 (V a0.Open) ao J<|cC 0 U ?_ ?_<;>intro bY U
 refine xn 1<|dT<|sp 1<|rt<|⟨rfl,?_⟩
 obtain rfl:=si U
 obtain rfl:=si hm
 refine ⟨_,_,_,tk (V 0) (ResL.nil),ao,?_⟩
 exact rfl
 refine xn 1<|dF<|sk ?_
 obtain rfl:=si U
 exact ⟨_,rfl,(by kernel_rfl),ao⟩
 refine cZ 2 U ?_ ?_ (kd:= .u8)<;>intro bZ U
 refine bu 5 (V a0.Open) ao J<|cC 0 U ?_ ?_<;>intro b0 U
 refine xn 1<|dT<|sp 1<|rt<|⟨rfl,?_⟩
 obtain rfl:=si U
 obtain rfl:=si hm
 refine ⟨_,_,_,tk (V 0) (ResL.nil),ao,?_⟩
 exact rfl
 refine xn 1<|dF<|sk ?_
 obtain rfl:=si U
 exact ⟨_,rfl,(by kernel_rfl),ao⟩
 refine xn 8<|dT<|sp 1<|rt<|⟨rfl,?_⟩
 obtain rfl:=si U
 obtain rfl:=si hm
 refine ⟨_,_,_,tk (V 0) (ResL.nil),ao,?_⟩
 exact rfl
def Aq:List bq:=[uP 9 (mv 0),uP 10 (nk 9),uP 11 (fa 81 10 0),uL 12 (ld 31 11),uP 13 (mv 0),uP 14 (nk 13),uP 15 (fa 81 14 1),uL 16 (ld 3 15),uP 17 (.slice 31 (t 12) (some (t 16)) none none),uF 18 (cf 60 #[(t 17)] #[31]) .make [3,7],uP 8 (mv 18),uP 19 (.extract (t 8) 0),uP 20 (.extract (t 8) 1),uP 3 (sg 19),uP 4 (sg 20)]
def y8:List aV:=[u 35 (mv 0),u 36 (nk 35),u 37 (fa 81 36 0),u 38 (ld 31 37),u 39 (mv 5),u 40 (.slice 31 (t 38) (some (t 39)) none none),u 41 (cf 60 #[(t 40)] #[31]),u 34 (mv 41),u 42 (.extract (t 34) 0),u 43 (.extract (t 34) 1),u 6 (sg 42),u 7 (sg 43)]
def kj (F:Nat) (a0:aE):Nat→Int→Option Int
 | 0,_=>none
 | n+1,j=>
  if j<(a0.B.length:Int) then
   if 0≤j∧j≤(a0.B.length:Int)∧(a0.B.length:Int)≤(a0.B.length:Int) then
    (ji F ((a0.B.take (a0.B.length:Int).toNat).drop j.toNat)).bind fun I=>
    ((if I.1<(0:Int) then
      some (.inr j)
     else
      (correctorref2_Break F a0.B j).bind fun J=>
      if (0:Int)<J then
       some (.inr j)
      else
       (la F a0 j).bind fun U=>
       if U=true then
        some (.inr j)
       else
        if 0≤j∧j<(a0.B.length:Int) then
         (a0.B[j.toNat]?).bind fun aa=>
         if (aa.toNat:Int)=(35:Int) then
          if 0≤(af (j - 1))∧(af (j - 1))<(a0.B.length:Int) then
           (a0.B[(af (j - 1)).toNat]?).bind fun ab=>
           (gq F (ab.toNat:Int)).bind fun ad=>
           if ad=true then
            some (.inr j)
           else
            if (0:Int)<a0.Open then
             if 0≤j∧j<(a0.B.length:Int) then
              (a0.B[j.toNat]?).bind fun ae=>
              (jU F (ae.toNat:Int)).bind fun ag=>
              if ag=true then
               some (.inr j)
              else
               some (.inl ())
             else none
            else
             some (.inl ())
          else none
         else
          if (0:Int)<a0.Open then
           if 0≤j∧j<(a0.B.length:Int) then
            (a0.B[j.toNat]?).bind fun ah=>
            (jU F (ah.toNat:Int)).bind fun ai=>
            if ai=true then
             some (.inr j)
            else
             some (.inl ())
           else none
          else
           some (.inl ())
        else none):Option (Sum Unit Int)).bind fun o=>match o with
     | .inl ()=>kj F a0 n (af (j+I.2))
     | .inr y=>some y
   else none
  else
   some j
def k4 (F:Nat) (a0:aE):Nat→Int→Option Int
 | 0,_=>none
 | n+1,j=>
  if (af (a0.At+1))<j then
   if 0≤(af (j - 1))∧(af (j - 1))<(a0.B.length:Int) then
    (a0.B[(af (j - 1)).toNat]?).bind fun I=>
    (gq F (I.toNat:Int)).bind fun J=>
    if J=true then
     k4 F a0 n (af (j - 1))
    else
     some j
   else none
  else
   some j
def nK (F:Nat) (a0:aE):Option Int:=
 if 0≤a0.At∧a0.At≤(a0.B.length:Int)∧(a0.B.length:Int)≤(a0.B.length:Int) then
  (ji F ((a0.B.take (a0.B.length:Int).toNat).drop a0.At.toNat)).bind fun j=>
  ((kj F a0 F (af (a0.At+j.2))):Option Int).bind fun o=>match o with
   | I=>((k4 F a0 F I):Option Int).bind fun o=>match o with
    | J=>some J
 else none
theorem BJ (F:Nat) {h:AH} {Z:Zn} {a0:aE} {al ad aI} (hI:Inv Z h) (ab:RS (α:=UInt8) Z ad a0.B) (bb:RS (α:=ak) Z aI a0.L) (ae:Z al=some (a9 ad aI a0)) {r:Int} (hm:nK F a0=some r):
  bU Try.prog 66 [Pt al 0] h Z (V r):=by
 refine b1 Try.func66 hI ?_
 intro hs hS
 unfold nK at hm
 refine sp 1<|cT Aq hS ?_
 intro bC bD bE ar
 refine yq 3 [(11,Pt al 0),(0,Pt al 0)]<|cG rfl rfl trivial (fun h2 hz=>lB (v:=ad) h2 hz ae rfl (by kernel_rfl)) (ar.bV (aM.refl _)) (aB (v:=ad) (RS.dD ab)) trivial<|yq 3 [(15,Pt al 1),(12,ad),(0,Pt al 0)]<|cG rfl rfl trivial (fun h2 hz=>lB (v:=V a0.At) h2 hz ae rfl (by kernel_rfl)) (ar.bV (aM.refl _)) (aB (v:=V a0.At) trivial) trivial ?_
 obtain ⟨ax,hm⟩:=aK hm
 refine oB rfl trivial (j2 (a:=a0.At) (b:=(a0.B.length:Int)) ab rfl (by kernel_rfl:slTy _ _=some (aa UInt8)) ⟨_,rfl⟩ rfl ax.1 ax.2.1 ax.2.2) ?_
 intro v11 bc
 obtain ⟨aJ,bd,hm⟩:=ai hm
 have aL:=ar.cD
 obtain ⟨bF,bG,bf,aP,rfl⟩:=oY F aL.inv bc bd
 have bg:=St.call (A:=[]) (B:=[]) aL aP
 refine eM rfl trivial ar (cV bf rfl rfl rfl) bg (St.eC aP) ?_
 intro bH bh
 refine ye 5 [(4,V aJ.2),(0,Pt al 0)] ?_
 have aR:=bh.a5
 refine s0<|bu 3 (V a0.At) aR ae<|xn 3<|sq ?_
 obtain ⟨ay,J,hm⟩:=ai hm
 refine aH [0,5] (fun l h=>∃ aS au,au=ay∧l=[(0,Pt al 0),(5,V au)]∧St hs [] Z (0,0) aS h []) ?_ ?_
 rintro l bI ⟨aS,au,rfl,rfl,bj⟩
 try dsimp only at hm
 refine sq ?_
 obtain ⟨az,U,hm⟩:=ai hm
 refine aH [5] (fun l h=>∃ aT av,av=az∧l=[(5,V av)]∧St hs [] Z (0,0) aT h []) ?_ ?_
 rintro l bJ ⟨aT,av,rfl,rfl,bl⟩
 try dsimp only at hm
 refine sp 2<|rt<|⟨rfl,?_⟩
 obtain rfl:=si hm
 refine ⟨_,_,_,tk (V av) (ResL.nil),bl,?_⟩
 exact rfl
 refine bk 2<|lp [0,5] (fun n l h=>∃ aU aq,k4 F a0 n aq=some az∧l=[(0,Pt al 0),(5,V aq)]∧St hs [] Z (0,0) aU h []) F ⟨_,au,U,(by kernel_rfl),bj⟩ ?_
 rintro aA l bK ⟨aU,aq,U,rfl,an⟩
 rcases aA with _ | aA
 cases (show none=some az from U)
 rw [k4] at U
 refine sq<|s0<|bu 4 (V a0.At) an (an.ag _ _ ae)<|cC 1 U ?_ ?_<;>intro bL U
 refine bu 4 ad an (an.ag _ _ ae)<|a6 2 U (ab.mono an.ag) ?_
 intro bN U
 refine bp 0 0 (fun aW=> .int .u8 (aW.toNat:Int)) U (ab.mono an.ag) an ?_
 intro aW bO U
 obtain ⟨bP,bm,U⟩:=ai U
 refine cP 0 an (jV F an.inv bm) ?_
 rintro _ bQ aX rfl
 refine xn 1<|db U ?_ ?_<;>intro bR U
 refine sk<|bk 3<|gp 3 ?_
 exact ⟨aA,Nat.lt_succ_self _,⟨_,af (aq - 1),U,(by kernel_rfl),aX⟩⟩
 refine xt 2<|aN ?_
 obtain rfl:=si U
 exact ⟨_,aq,rfl,(by kernel_rfl),aX⟩
 refine xn 11<|dF<|xt 2<|aN ?_
 obtain rfl:=si U
 exact ⟨_,aq,rfl,(by kernel_rfl),an⟩
 refine bk 0<|lp [0,5] (fun n l h=>∃ aY ah,kj F a0 n ah=some ay∧l=[(0,Pt al 0),(5,V ah)]∧St hs [] Z (0,0) aY h []) F ⟨_,af (a0.At+aJ.2),J,(by kernel_rfl),aR⟩ ?_
 rintro aC l bS ⟨aY,ah,J,rfl,I⟩
 rcases aC with _ | aC
 cases (show none=some ay from J)
 rw [kj] at J
 refine sq<|s0<|bu 4 ad I (I.ag _ _ ae)<|bM 0 ad (RS.len (ab.mono I.ag))<|aO 0 J ?_ ?_<;>intro bT J
 refine xn 0<|dT<|sk<|bk 1<|sr y8<|bu 3 ad I (I.ag _ _ ae)<|xq 1 [(39,V ah),(38,ad),(0,Pt al 0),(5,V ah)] ?_
 obtain ⟨aF,J⟩:=aK J
 refine mS rfl trivial (j2 (a:=ah) (b:=(a0.B.length:Int)) (ab.mono I.ag) rfl (by kernel_rfl:slTy _ _=some (aa UInt8)) ⟨_,rfl⟩ rfl aF.1 aF.2.1 aF.2.2) ?_
 intro bW bn
 obtain ⟨aZ,bo,J⟩:=ai J
 refine cP 0 I (oY F I.inv bn bo) ?_
 rintro _ bX aw rfl
 refine xn 5<|sq ?_
 obtain ⟨br,j,J⟩:=ai J
 refine ec [0,5,7] (fun l h=>∃ a1, .inl ()=br∧l=[(0,Pt al 0),(5,V ah),(7,V aZ.2)]∧St hs [] Z (0,0) a1 h []) (by kernel_rfl) ?_ ?_
 rintro l bY ⟨a1,rfl,rfl,bt⟩
 try dsimp only at J
 refine gp 4 ?_
 exact ⟨aC,Nat.lt_succ_self _,⟨_,af (ah+aZ.2),J,(by kernel_rfl),bt⟩⟩
 refine g0<|aO 1 j ?_ ?_ (kd:= .i32)<;>intro bZ j
 refine xn 52<|dT<|xt 0<|g5 rfl<|aN ?_
 obtain rfl:=si j
 obtain rfl:=si J
 exact ⟨_,ah,rfl,(by kernel_rfl),aw⟩
 refine bu 4 ad aw (I.ag _ _ ae) ?_
 obtain ⟨b0,bw,j⟩:=ai j
 refine cP 1 aw (lV F aw.inv (ab.mono I.ag) bw) ?_
 rintro _ b2 aG rfl
 refine cC 0 j ?_ ?_<;>intro b3 j
 refine xn 44<|dT<|xt 0<|g5 rfl<|aN ?_
 obtain rfl:=si j
 obtain rfl:=si J
 exact ⟨_,ah,rfl,(by kernel_rfl),aG⟩
 obtain ⟨b4,bx,j⟩:=ai j
 refine cP 4 aG (vf F aG.inv (ab.mono I.ag) (bb.mono I.ag) (I.ag _ _ ae) bx) ?_
 rintro _ b5 aj rfl
 refine kb 2 60 j ?_ ?_<;>intro b6 j
 refine xn 37<|dT<|xt 0<|g5 rfl<|aN ?_
 obtain rfl:=si j
 obtain rfl:=si J
 exact ⟨_,ah,rfl,(by kernel_rfl),aj⟩
 refine bu 3 ad aj (I.ag _ _ ae)<|a6 1 j (ab.mono I.ag) ?_
 intro b7 j
 refine bp 0 0 (fun a2=> .int .u8 (a2.toNat:Int)) j (ab.mono I.ag) aj ?_
 intro a2 b8 j
 refine aD 0 j ?_ ?_ (kd:= .u8)<;>intro b9 j
 refine bu 4 ad aj (I.ag _ _ ae)<|a6 2 j (ab.mono I.ag) ?_
 intro ca j
 refine bp 0 0 (fun a3=> .int .u8 (a3.toNat:Int)) j (ab.mono I.ag) aj ?_
 intro a3 cb j
 obtain ⟨cc,bz,j⟩:=ai j
 refine cP 0 aj (jV F aj.inv bz) ?_
 rintro _ cd ao rfl
 refine kb 3 81 j ?_ ?_<;>intro cf j
 refine xn 16<|dT<|xt 0<|g5 rfl<|aN ?_
 obtain rfl:=si j
 obtain rfl:=si J
 exact ⟨_,ah,rfl,(by kernel_rfl),ao⟩
 refine bu 3 (V a0.Open) ao (I.ag _ _ ae)<|cC 0 j ?_ ?_<;>intro cg j
 refine bu 4 ad ao (I.ag _ _ ae)<|a6 1 j (ab.mono I.ag) ?_
 intro ch j
 refine bp 0 0 (fun a4=> .int .u8 (a4.toNat:Int)) j (ab.mono I.ag) ao ?_
 intro a4 cj j
 obtain ⟨ck,bA,j⟩:=ai j
 refine cP 0 ao (rN F ao.inv bA) ?_
 rintro _ cl a7 rfl
 refine xn 2<|db j ?_ ?_<;>intro cm j
 refine xt 0<|g5 rfl<|aN ?_
 obtain rfl:=si j
 obtain rfl:=si J
 exact ⟨_,ah,rfl,(by kernel_rfl),a7⟩
 refine sk ?_
 obtain rfl:=si j
 exact ⟨_,rfl,(by kernel_rfl),a7⟩
 refine xn 11<|dF<|sk ?_
 obtain rfl:=si j
 exact ⟨_,rfl,(by kernel_rfl),ao⟩
 refine bu 16 (V a0.Open) aj (I.ag _ _ ae)<|cC 0 j ?_ ?_<;>intro cn j
 refine bu 4 ad aj (I.ag _ _ ae)<|a6 1 j (ab.mono I.ag) ?_
 intro cp j
 refine bp 0 0 (fun a8=> .int .u8 (a8.toNat:Int)) j (ab.mono I.ag) aj ?_
 intro a8 cq j
 obtain ⟨cr,bB,j⟩:=ai j
 refine cP 0 aj (rN F aj.inv bB) ?_
 rintro _ ct ba rfl
 refine xn 2<|db j ?_ ?_<;>intro cu j
 refine xt 0<|g5 rfl<|aN ?_
 obtain rfl:=si j
 obtain rfl:=si J
 exact ⟨_,ah,rfl,(by kernel_rfl),ba⟩
 refine sk ?_
 obtain rfl:=si j
 exact ⟨_,rfl,(by kernel_rfl),ba⟩
 refine xn 11<|dF<|sk ?_
 obtain rfl:=si j
 exact ⟨_,rfl,(by kernel_rfl),aj⟩
 refine xn 0<|dF<|xt 0<|aN ?_
 obtain rfl:=si J
 exact ⟨_,ah,rfl,(by kernel_rfl),I⟩
def yr:List bq:=[uP 7 (mv 0),uP 8 (nk 7),uP 9 (fa 81 8 0),uL 10 (ld 31 9),uP 11 (mv 0),uP 12 (nk 11),uP 13 (fa 81 12 1),uL 14 (ld 3 13),uP 15 (ia 31 10 14),uL 16 (ld 5 15),uP 2 (sg 16)]
def xY:List aV:=[u 22 (mv 0),u 23 (nk 22),u 24 (fa 81 23 0),u 25 (ld 31 24),u 26 (mv 3),u 27 (.slice 31 (t 25) (some (t 26)) none none),u 28 (cf 60 #[(t 27)] #[31]),u 21 (mv 28),u 29 (.extract (t 21) 0),u 30 (.extract (t 21) 1),u 4 (sg 29),u 5 (sg 30)]
def mW (F:Nat) (a0:aE):Option aE:=
 if 0≤a0.At∧a0.At<(a0.B.length:Int) then
  (a0.B[a0.At.toNat]?).bind fun j=>
  if 0≤a0.At∧a0.At≤(a0.B.length:Int)∧(a0.B.length:Int)≤(a0.B.length:Int) then
   (ji F ((a0.B.take (a0.B.length:Int).toNat).drop a0.At.toNat)).bind fun U=>
   (lu F a0 (af (a0.At+1)) false).bind fun I=>
   ((if (j.toNat:Int)=(45:Int) then
     if a0.Open=(0:Int) then
      if a0.cg=true then
       (jR F a0 (af (a0.At+1))).bind fun aa=>
       some aa
      else
       some false
     else
      some false
    else
     some false):Option Bool).bind fun o=>match o with
    | ab=>if ab=true then
     (cS F a0 5 (af (a0.At+1))).bind fun ad=>
     some ad
    else
     (la F a0 a0.At).bind fun ae=>
     if ae=true then
      (cS F a0 6 (af (a0.At+1))).bind fun ag=>
      some ag
     else
      ((if (j.toNat:Int)=(38:Int) then
        if (af (a0.At+1))<I then
         some true
        else
         some false
       else
        some false):Option Bool).bind fun o=>match o with
       | ah=>if ah=true then
        (cS F a0 12 I).bind fun ai=>
        some ai
       else
        ((if (j.toNat:Int)=(42:Int) then
          if (af (a0.At+1))<I then
           some true
          else
           some false
         else
          some false):Option Bool).bind fun o=>match o with
         | aj=>if aj=true then
          (cS F a0 13 I).bind fun al=>
          some al
         else
          if (j.toNat:Int)=(33:Int) then
           (lu F a0 (af (a0.At+1)) true).bind fun an=>
           (cS F a0 14 an).bind fun ao=>
           some ao
          else
           if (j.toNat:Int)=(39:Int) then
            (fC F a0 a0.At).bind fun aq=>
            (mR F a0 (af (a0.At+1)) aq).bind fun ar=>
            (cS F a0 16 ar).bind fun au=>
            some au
           else
            if (j.toNat:Int)=(34:Int) then
             (fC F a0 a0.At).bind fun av=>
             (mh F a0 (af (a0.At+1)) av).bind fun aw=>
             (fC F a0 a0.At).bind fun ax=>
             (cS F a0 17 (pY aw ax)).bind fun ay=>
             some ay
            else
             (hU F a0).bind fun az=>
             if (0:Int)<az then
              ((if a0.bT<(0:Int) then
                some (⟨a0.B,a0.At,a0.Row,a0.Open,a0.bT,a0.cg,af ((af (a0.At - a0.Row)) - 1),a0.L⟩:aE)
               else
                some (⟨a0.B,a0.At,a0.Row,a0.Open,a0.bT,a0.cg,a0.bT,a0.L⟩:aE)):Option aE).bind fun o=>match o with
               | J=>(hU F J).bind fun aA=>
               (cS F J 18 (af (a0.At+aA))).bind fun aB=>
               some aB
             else
              if U.1<(0:Int) then
               (cS F a0 22 (af (a0.At+1))).bind fun aC=>
               some aC
              else
               (nK F a0).bind fun aD=>
               (cS F a0 15 aD).bind fun r413=>
               some r413
  else none
 else none
theorem x8 (F:Nat) {h:AH} {Z:Zn} {a0:aE} {I ad U ah} (hP:Pre Z h [.ae I (a9 ad U a0), .gs U ah (aa ak)]) (J:RS (α:=UInt8) Z ad a0.B) (ab:RCs (α:=ak) Z ah a0.L) {r:aE} (hm:mW F a0=some r):
  bX Try.prog 40 [Pt I 0] h Z [.ae I (a9 ad U a0), .gs U ah (aa ak)] fun v Z' A'=>∃ aZ v10 a1, .tuple #[]=v∧A'=[.ae I (a9 aZ v10 r), .gs v10 a1 (aa ak)]∧RS (α:=UInt8) Z' aZ r.B∧RCs (α:=ak) Z' a1 r.L:=by
 refine cm Try.func40 hP ?_
 intro hs hS
 unfold mW at hm
 refine cT yr hS ?_
 intro a2 ep a3 aw
 refine yq 3 [(9,Pt I 0),(0,Pt I 0)] ?_
 have er:I<a2:=a3.1 _ (List.mem_of_getElem? (i:=0) rfl) _ (by simp [Itm.ids])
 refine aU (v:=ad) rfl trivial rfl (by show I<_;omega) (aB (v:=ad) (RS.dD J)) (aw.aP (i:=0) rfl (by kernel_rfl)) trivial<|yq 3 [(13,Pt I 1),(10,ad),(0,Pt I 0)] ?_
 have et:I<a2:=a3.1 _ (List.mem_of_getElem? (i:=0) rfl) _ (by simp [Itm.ids])
 refine aU (v:=V a0.At) rfl trivial rfl (by show I<_;omega) (aB (v:=V a0.At) trivial) (aw.aP (i:=0) rfl (by kernel_rfl)) trivial ?_
 obtain ⟨a4,hm⟩:=aK hm
 refine aF rfl trivial (bG rfl rfl (by kernel_rfl:slTy _ _=some (aa UInt8)) (RS.cU J (by omega)) a4.1 a4.2) ?_
 obtain ⟨an,bL,hm⟩:=ai hm
 obtain ⟨eu,bM,bN⟩:=RS.cp J (i:=a0.At) bL
 obtain rfl:=o2 bM
 refine cG rfl rfl trivial (fun h2 hz=>bK (w:= .int .u8 (an.toNat:Int)) (bN h2 hz) rfl (by kernel_rfl)) (aw.bV (aM.refl _)) (aB (v:= .int .u8 (an.toNat:Int)) trivial) trivial<|ye 1 [(2, .int .u8 (an.toNat:Int)),(0,Pt I 0)] ?_
 have ax:=aw.a5
 refine s0<|aA 3 0 (V a0.At) ax rfl<|xn 1<|sr xY<|aA 3 0 ad ax rfl<|xq 1 [(26,V a0.At),(25,ad),(3,V a0.At),(2, .int .u8 (an.toNat:Int)),(0,Pt I 0)] ?_
 obtain ⟨aJ,hm⟩:=aK hm
 refine mS rfl trivial (j2 (a:=a0.At) (b:=(a0.B.length:Int)) J rfl (by kernel_rfl:slTy _ _=some (aa UInt8)) ⟨_,rfl⟩ rfl aJ.1 aJ.2.1 aJ.2.2) ?_
 intro ew bO
 obtain ⟨aL,bP,hm⟩:=ai hm
 refine cP 0 ax (oY F ax.inv bO bP) ?_
 rintro _ ey bQ rfl
 refine xn 5<|s0 ?_
 obtain ⟨aN,bR,hm⟩:=ai hm
 refine cE 3 bQ (fun ez a6 bS a7=>tK F bS (RS.mono a6 J) (bf.row (a7 _ (List.mem_of_getElem? (i:=1) rfl)) a6 ab) (a7 _ (List.mem_of_getElem? (i:=0) rfl)) bR) ?_
 rintro _ eA ar rfl
 refine xn 1<|bk 0<|sq ?_
 obtain ⟨bU,aj,hm⟩:=ai hm
 refine aH [0,2,3,4,6,39] (fun l h=>∃ a8 aS,aS=bU∧l=[(0,Pt I 0),(2, .int .u8 (an.toNat:Int)),(3,V a0.At),(4, .int .i32 aL.1),(6,V aN),(39, .bool aS)]∧St hs (aR [.ae I (a9 ad U a0), .gs U ah (aa ak)]) Z (0,0) a8 h [.ae I (a9 ad U a0), .gs U ah (aa ak)]) ?_ ?_
 rintro l eB ⟨a8,aS,rfl,rfl,al⟩
 try dsimp only at hm
 refine db hm ?_ ?_<;>intro eC hm
 refine g0 ?_
 obtain ⟨eD,bW,hm⟩:=ai hm
 refine cA 3 al (fun p=>dO F p (J.mono al.ag) (ab.mono al.ag) bW) ?_
 rintro _ eE eF _ eG bY ⟨bZ,b0,b1,rfl,rfl,b2,b3⟩
 refine xn 0 ?_
 obtain rfl:=si hm
 refine ⟨_,_,_,ResL.nil,bY,?_⟩
 exact ⟨bZ,b0,b1,rfl,rfl,b2,b3⟩
 refine s0 ?_
 obtain ⟨eH,b4,hm⟩:=ai hm
 refine cE 2 al (fun eI ba b5 bb=>vf F b5 (RS.mono ba (J.mono al.ag)) (bf.row (bb _ (List.mem_of_getElem? (i:=1) rfl)) ba (ab.mono al.ag)) (bb _ (List.mem_of_getElem? (i:=0) rfl)) b4) ?_
 rintro _ eJ ay rfl
 refine xn 1<|db hm ?_ ?_<;>intro eK hm
 refine g0 ?_
 obtain ⟨eL,b6,hm⟩:=ai hm
 refine cA 3 ay (fun p=>dO F p (J.mono al.ag) (ab.mono al.ag) b6) ?_
 rintro _ eM eN _ eO b7 ⟨b8,b9,ca,rfl,rfl,cb,cc⟩
 refine xn 0 ?_
 obtain rfl:=si hm
 refine ⟨_,_,_,ResL.nil,b7,?_⟩
 exact ⟨b8,b9,ca,rfl,rfl,cb,cc⟩
 refine sq ?_
 obtain ⟨cd,ao,hm⟩:=ai hm
 refine aH [0,2,3,4,6,73] (fun l h=>∃ bc aT,aT=cd∧l=[(0,Pt I 0),(2, .int .u8 (an.toNat:Int)),(3,V a0.At),(4, .int .i32 aL.1),(6,V aN),(73, .bool aT)]∧St hs (aR [.ae I (a9 ad U a0), .gs U ah (aa ak)]) Z (0,0) bc h [.ae I (a9 ad U a0), .gs U ah (aa ak)]) ?_ ?_
 rintro l eP ⟨bc,aT,rfl,rfl,au⟩
 try dsimp only at hm
 refine db hm ?_ ?_<;>intro eQ hm
 refine g0 ?_
 obtain ⟨eR,cf,hm⟩:=ai hm
 refine cA 2 au (fun p=>dO F p (J.mono au.ag) (ab.mono au.ag) cf) ?_
 rintro _ eS eT _ eU ch ⟨cj,ck,cl,rfl,rfl,cn,cq⟩
 refine xn 0 ?_
 obtain rfl:=si hm
 refine ⟨_,_,_,ResL.nil,ch,?_⟩
 exact ⟨cj,ck,cl,rfl,rfl,cn,cq⟩
 refine sq ?_
 obtain ⟨cr,aq,hm⟩:=ai hm
 refine aH [0,2,3,4,6,85] (fun l h=>∃ bd aW,aW=cr∧l=[(0,Pt I 0),(2, .int .u8 (an.toNat:Int)),(3,V a0.At),(4, .int .i32 aL.1),(6,V aN),(85, .bool aW)]∧St hs (aR [.ae I (a9 ad U a0), .gs U ah (aa ak)]) Z (0,0) bd h [.ae I (a9 ad U a0), .gs U ah (aa ak)]) ?_ ?_
 rintro l eV ⟨bd,aW,rfl,rfl,j⟩
 try dsimp only at hm
 refine db hm ?_ ?_<;>intro eW hm
 refine g0 ?_
 obtain ⟨eX,ct,hm⟩:=ai hm
 refine cA 2 j (fun p=>dO F p (J.mono j.ag) (ab.mono j.ag) ct) ?_
 rintro _ eY eZ _ e0 cu ⟨cv,cx,cy,rfl,rfl,cz,cB⟩
 refine xn 0 ?_
 obtain rfl:=si hm
 refine ⟨_,_,_,ResL.nil,cu,?_⟩
 exact ⟨cv,cx,cy,rfl,rfl,cz,cB⟩
 refine s0<|aD 1 hm ?_ ?_ (kd:= .u8)<;>intro e2 hm
 refine xn 1<|dT<|g0 ?_
 obtain ⟨e3,cD,hm⟩:=ai hm
 refine cE 4 j (fun e4 bg cF bh=>tK F cF (RS.mono bg (J.mono j.ag)) (bf.row (bh _ (List.mem_of_getElem? (i:=1) rfl)) bg (ab.mono j.ag)) (bh _ (List.mem_of_getElem? (i:=0) rfl)) cD) ?_
 rintro _ e5 cH rfl
 obtain ⟨e6,cI,hm⟩:=ai hm
 refine cA 0 cH (fun p=>dO F p (J.mono j.ag) (ab.mono j.ag) cI) ?_
 rintro _ e7 e8 _ e9 cJ ⟨cK,cL,cM,rfl,rfl,cN,cR⟩
 refine xn 0 ?_
 obtain rfl:=si hm
 refine ⟨_,_,_,ResL.nil,cJ,?_⟩
 exact ⟨cK,cL,cM,rfl,rfl,cN,cR⟩
 refine xn 1<|dF<|s0<|aD 1 hm ?_ ?_ (kd:= .u8)<;>intro fa hm
 refine xn 1<|dT<|g0 ?_
 obtain ⟨fb,cS,hm⟩:=ai hm
 refine cE 6 j (fun fc bj cV bl=>ki F cV (RS.mono bj (J.mono j.ag)) (bf.row (bl _ (List.mem_of_getElem? (i:=1) rfl)) bj (ab.mono j.ag)) (bl _ (List.mem_of_getElem? (i:=0) rfl)) cS) ?_
 rintro _ fe cW rfl
 obtain ⟨ff,cZ,hm⟩:=ai hm
 refine cE 0 cW (fun fg bm c0 bn=>Cd F c0 (RS.mono bm (J.mono j.ag)) (bf.row (bn _ (List.mem_of_getElem? (i:=1) rfl)) bm (ab.mono j.ag)) (bn _ (List.mem_of_getElem? (i:=0) rfl)) cZ) ?_
 rintro _ fh c3 rfl
 obtain ⟨fi,c5,hm⟩:=ai hm
 refine cA 0 c3 (fun p=>dO F p (J.mono j.ag) (ab.mono j.ag) c5) ?_
 rintro _ fj fk _ fl c6 ⟨c7,c8,c9,rfl,rfl,da,dc⟩
 refine xn 0 ?_
 obtain rfl:=si hm
 refine ⟨_,_,_,ResL.nil,c6,?_⟩
 exact ⟨c7,c8,c9,rfl,rfl,da,dc⟩
 refine xn 1<|dF<|s0<|aD 1 hm ?_ ?_ (kd:= .u8)<;>intro fm hm
 refine xn 1<|dT<|g0 ?_
 obtain ⟨fo,dd,hm⟩:=ai hm
 refine cE 6 j (fun fp bo de bp=>ki F de (RS.mono bo (J.mono j.ag)) (bf.row (bp _ (List.mem_of_getElem? (i:=1) rfl)) bo (ab.mono j.ag)) (bp _ (List.mem_of_getElem? (i:=0) rfl)) dd) ?_
 rintro _ fq df rfl
 obtain ⟨fr,dh,hm⟩:=ai hm
 refine cE 0 df (fun fs br di bt=>xD F di (RS.mono br (J.mono j.ag)) (bf.row (bt _ (List.mem_of_getElem? (i:=1) rfl)) br (ab.mono j.ag)) (bt _ (List.mem_of_getElem? (i:=0) rfl)) dh) ?_
 rintro _ ft dj rfl
 obtain ⟨fu,dk,hm⟩:=ai hm
 refine cE 2 dj (fun fv bu dm bw=>ki F dm (RS.mono bu (J.mono j.ag)) (bf.row (bw _ (List.mem_of_getElem? (i:=1) rfl)) bu (ab.mono j.ag)) (bw _ (List.mem_of_getElem? (i:=0) rfl)) dk) ?_
 rintro _ fx dn rfl
 obtain ⟨fy,dp,hm⟩:=ai hm
 refine cA 1 dn (fun p=>dO F p (J.mono j.ag) (ab.mono j.ag) dp) ?_
 rintro _ fz fA _ fB dq ⟨dr,ds,dt,rfl,rfl,du,dw⟩
 refine xn 0 ?_
 obtain rfl:=si hm
 refine ⟨_,_,_,ResL.nil,dq,?_⟩
 exact ⟨dr,ds,dt,rfl,rfl,du,dw⟩
 refine xn 1<|dF<|s0 ?_
 obtain ⟨fC,dx,hm⟩:=ai hm
 refine cE 1 j (fun fD bx dy bz=>sD F dy (RS.mono bx (J.mono j.ag)) (bf.row (bz _ (List.mem_of_getElem? (i:=1) rfl)) bx (ab.mono j.ag)) (bz _ (List.mem_of_getElem? (i:=0) rfl)) dx) ?_
 rintro _ fE az rfl
 refine cC 0 hm ?_ ?_<;>intro fF hm
 refine xn 1<|dT<|s0<|aA 4 0 (V a0.bT) az rfl<|bB 2 0 (V a0.bT) [V a0.bT] [ad,V a0.At,V a0.Row,V a0.Open,V a0.bT, .bool a0.cg,V a0.bT,U] az rfl rfl rfl ?_
 intro fG aC
 refine xn 0<|sq ?_
 obtain ⟨dz,aG,hm⟩:=ai hm
 refine ec [0,3] (fun l h=>∃ aI av aX aY,av=dz∧RS (α:=UInt8) aI aX av.B∧RCs (α:=ak) aI aY av.L∧l=[(0,Pt I 0),(3,V a0.At)]∧St hs (aR [.ae I (a9 ad U a0), .gs U ah (aa ak)]) Z (0,0) aI h [.ae I (a9 aX U av), .gs U aY (aa ak)]) (by kernel_rfl) ?_ ?_
 rintro l fH ⟨aI,av,aX,aY,rfl,bA,bC,rfl,dA⟩
 try dsimp only at hm
 refine g0 ?_
 obtain ⟨fI,dB,hm⟩:=ai hm
 refine cE 3 dA (fun fJ bD dC bE=>sD F dC (RS.mono bD bA) (bf.row (bE _ (List.mem_of_getElem? (i:=1) rfl)) bD bC) (bE _ (List.mem_of_getElem? (i:=0) rfl)) dB) ?_
 rintro _ fK dE rfl
 obtain ⟨fL,dG,hm⟩:=ai hm
 refine cA 1 dE (fun p=>dO F p bA bC dG) ?_
 rintro _ fM fN _ fO dH ⟨dI,dJ,dK,rfl,rfl,dL,dM⟩
 refine xn 0 ?_
 obtain rfl:=si hm
 refine ⟨_,_,_,ResL.nil,dH,?_⟩
 exact ⟨dI,dJ,dK,rfl,rfl,dL,dM⟩
 refine g0<|aA 3 0 (V a0.bT) aC rfl<|aO 0 aG ?_ ?_<;>intro fP aG
 refine xn 0<|dT<|g0<|aA 5 0 (V a0.Row) aC rfl<|bB 4 0 (V (af ((af (a0.At - a0.Row)) - 1))) [V (af ((af (a0.At - a0.Row)) - 1))] [ad,V a0.At,V a0.Row,V a0.Open,V a0.bT, .bool a0.cg,V (af ((af (a0.At - a0.Row)) - 1)),U] aC rfl rfl rfl ?_
 intro fQ dN
 refine xn 0 ?_
 obtain rfl:=si aG
 exact ⟨_,(⟨a0.B,a0.At,a0.Row,a0.Open,a0.bT,a0.cg,af ((af (a0.At - a0.Row)) - 1),a0.L⟩:aE),ad,ah,rfl,(J.mono j.ag),(ab.mono j.ag),(by kernel_rfl),dN⟩
 refine xn 0<|dF<|sk ?_
 obtain rfl:=si aG
 exact ⟨_,(⟨a0.B,a0.At,a0.Row,a0.Open,a0.bT,a0.cg,a0.bT,a0.L⟩:aE),ad,ah,rfl,(J.mono j.ag),(ab.mono j.ag),(by kernel_rfl),aC⟩
 refine xn 1<|dF<|s0<|aO 1 hm ?_ ?_ (kd:= .i32)<;>intro fR hm
 refine xn 1<|dT<|g0 ?_
 obtain ⟨fS,dP,hm⟩:=ai hm
 refine cA 3 az (fun p=>dO F p (J.mono j.ag) (ab.mono j.ag) dP) ?_
 rintro _ fT fU _ fV dQ ⟨dR,dS,dU,rfl,rfl,dV,dW⟩
 refine xn 0 ?_
 obtain rfl:=si hm
 refine ⟨_,_,_,ResL.nil,dQ,?_⟩
 exact ⟨dR,dS,dU,rfl,rfl,dV,dW⟩
 refine xn 1<|dF<|g0 ?_
 obtain ⟨fW,dX,hm⟩:=ai hm
 refine cE 2 az (fun fX bF dY bH=>BJ F dY (RS.mono bF (J.mono j.ag)) (bf.row (bH _ (List.mem_of_getElem? (i:=1) rfl)) bF (ab.mono j.ag)) (bH _ (List.mem_of_getElem? (i:=0) rfl)) dX) ?_
 rintro _ fY dZ rfl
 obtain ⟨r413,ea,hm⟩:=ai hm
 refine cA 0 dZ (fun p=>dO F p (J.mono j.ag) (ab.mono j.ag) ea) ?_
 rintro _ fZ ga _ gb eb ⟨ed,ee,eg,rfl,rfl,eh,ei⟩
 refine xn 0 ?_
 obtain rfl:=si hm
 refine ⟨_,_,_,ResL.nil,eb,?_⟩
 exact ⟨ed,ee,eg,rfl,rfl,eh,ei⟩
 refine g0<|aD 1 aq ?_ ?_ (kd:= .u8)<;>intro gd aq
 refine cC 4 aq ?_ ?_<;>intro gf aq
 refine xn 2 ?_
 obtain rfl:=si aq
 exact ⟨_,true,rfl,(by kernel_rfl),au⟩
 refine xn 2 ?_
 obtain rfl:=si aq
 exact ⟨_,false,rfl,(by kernel_rfl),au⟩
 refine xn 7 ?_
 obtain rfl:=si aq
 exact ⟨_,false,rfl,(by kernel_rfl),au⟩
 refine g0<|aD 1 ao ?_ ?_ (kd:= .u8)<;>intro gg ao
 refine cC 4 ao ?_ ?_<;>intro gh ao
 refine xn 2 ?_
 obtain rfl:=si ao
 exact ⟨_,true,rfl,(by kernel_rfl),ay⟩
 refine xn 2 ?_
 obtain rfl:=si ao
 exact ⟨_,false,rfl,(by kernel_rfl),ay⟩
 refine xn 7 ?_
 obtain rfl:=si ao
 exact ⟨_,false,rfl,(by kernel_rfl),ay⟩
 refine g0<|aD 1 aj ?_ ?_ (kd:= .u8)<;>intro gi aj
 refine aA 4 0 (V a0.Open) ar rfl<|aD 0 aj ?_ ?_<;>intro gj aj
 refine aA 5 0 (.bool a0.cg) ar rfl<|kb 2 55 aj ?_ ?_<;>intro gk aj
 obtain ⟨ej,ek,aj⟩:=ai aj
 refine cE 3 ar (fun gl bI en bJ=>rE F en (RS.mono bI J) (bf.row (bJ _ (List.mem_of_getElem? (i:=1) rfl)) bI ab) (bJ _ (List.mem_of_getElem? (i:=0) rfl)) ek) ?_
 rintro _ gm eo rfl
 refine xn 2 ?_
 obtain rfl:=si aj
 exact ⟨_,ej,rfl,(by kernel_rfl),eo⟩
 refine xn 6 ?_
 obtain rfl:=si aj
 exact ⟨_,false,rfl,(by kernel_rfl),ar⟩
 refine xn 14 ?_
 obtain rfl:=si aj
 exact ⟨_,false,rfl,(by kernel_rfl),ar⟩
 refine xn 20 ?_
 obtain rfl:=si aj
 exact ⟨_,false,rfl,(by kernel_rfl),ar⟩
def CN:List aV:=[u 8 (mv 0),u 9 (.build 81 #[(0,(t 8)),(6,(ci (-2)))]),u 10 (.box 81 (t 9)),u 3 (sg 10)]
def Av:List bq:=[uP 20 (mv 3),uP 21 (nk 20),uP 22 (fa 81 21 1),uL 23 (ld 3 22),uP 24 (mv 3),uP 25 (nk 24),uP 26 (fa 81 25 2),uL 27 (ld 3 26),uP 28 (bo .eql 3 23 27 3)]
def correctorref6_Tokens_l0 (F:Nat) (a0:List UInt8):Nat→aE→Option aE
 | 0,_=>none
 | n+1,j=>
  if j.At<(a0.length:Int) then
   ((if j.At=j.Row then
     (l4 F j j.At).bind fun ad=>
     some (j,ad)
    else
     some (j,0)):Option (aE×Int)).bind fun o=>match o with
    | (J,ab)=>if (0:Int)<ab then
     (cS F J ab (af (J.At+3))).bind fun I=>
     correctorref6_Tokens_l0 F a0 n (⟨I.B,I.At,I.Row,0,I.bT,I.cg,I.Text,I.L⟩:aE)
    else
     (mC F J).bind fun U=>
     if U.1=true then
      correctorref6_Tokens_l0 F a0 n U.2
     else
      (mb F U.2).bind fun aa=>
      if aa.1=true then
       correctorref6_Tokens_l0 F a0 n aa.2
      else
       (mW F aa.2).bind fun ae=>
       correctorref6_Tokens_l0 F a0 n ae
  else
   some j
def nN (F:Nat) (a0:List UInt8):Option (List ak):=
 if (16384:Int)<(a0.length:Int) then
  some []
 else
  (n0 F (⟨a0,0,0,0,0,false,(-2),[]⟩:aE)).bind fun j=>
  ((correctorref6_Tokens_l0 F a0 F j):Option aE).bind fun o=>match o with
   | I=>some I.L
theorem Ar (F:Nat) {h:AH} {Z:Zn} {a0:List UInt8} {v2} (hP:Pre Z h []) (ar:RS (α:=UInt8) Z v2 a0) {r:(List ak)} (hm:nN F a0=some r):
  bX Try.prog 19 [v2] h Z [] fun v Z' A'=>∃ v4 aW,v4=v∧A'=[.gs v4 aW (aa ak)]∧RCs (α:=ak) Z' aW r:=by
 refine cm Try.func19 hP ?_
 intro hs hS
 unfold nN at hm
 replace hS:St hs [] Z (0,0) Z hs []:=hS
 refine sp 1<|sq<|s0<|bM 1 v2 (RS.len ar)<|cC 0 hm ?_ ?_<;>intro cb hm
 refine xn 0<|dT<|sp 1<|rt<|⟨rfl,?_⟩
 have bj:=hS.dE (aa ak)
 obtain rfl:=si hm
 refine ⟨_,_,_,tk (.slice none 0 0) (ResL.nil),bj,?_⟩
 exact ⟨(.slice none 0 0),[],rfl,rfl,(RCs.bA _)⟩
 refine xn 0<|dF<|sk<|sr CN<|xq 1 [(8,v2),(0,v2)]<|bN rfl trivial (jm (v:= .agg #[v2,V 0,V 0,V 0,V 0, .bool false,V (-2), .slice none 0 0]) rfl (CA.cons (cs:=[v2]) (RS.p8 ar) (CA.cons (cs:=[V (-2)]) rfl (CA.bA))) (by kernel_rfl))<|gS rfl trivial (gl (cs:=[v2,V 0,V 0,V 0,V 0, .bool false,V (-2), .slice none 0 0]) rfl rfl) hS ?_
 intro bl cc bm
 refine xn 1<|s0 ?_
 have bn:=bm.dE (aa ak)
 obtain ⟨bo,bp,hm⟩:=ai hm
 refine cA 1 ((bn.front 0 rfl).front 1 rfl) (fun p=>qq F (a0:=(⟨a0,0,0,0,0,false,(-2),[]⟩:aE)) p ar (RCs.bA _) bp) ?_
 rintro _ cd cf _ ch bt ⟨bu,bw,rfl,rfl,bx,bz⟩
 refine xn 0<|sq ?_
 obtain ⟨aG,j,hm⟩:=ai hm
 refine aH [3] (fun l h=>∃ au aq aI aJ af av,aq=aG∧RS (α:=UInt8) au aJ aq.B∧RCs (α:=ak) au av aq.L∧l=[(3,Pt aI 0)]∧St hs [] Z (0,0) au h [.ae aI (a9 aJ af aq), .gs af av (aa ak)]) ?_ ?_
 rintro l cj ⟨au,aq,aI,aJ,af,av,rfl,ck,bC,rfl,aX⟩
 try dsimp only at hm
 refine s0<|aA 3 0 af aX rfl<|xn 1<|rt<|⟨rfl,?_⟩
 obtain rfl:=si hm
 refine ⟨_,_,_,tk af (ResL.nil),((aX.front 1 rfl).takeN 1),?_⟩
 exact ⟨af,av,rfl,rfl,bC⟩
 refine bk 0<|lp [0,3] (fun n l h=>∃ aw J I ah aj al,correctorref6_Tokens_l0 F a0 n J=some aG∧RS (α:=UInt8) aw ah J.B∧RCs (α:=ak) aw al J.L∧l=[(0,v2),(3,Pt I 0)]∧St hs [] Z (0,0) aw h [.ae I (a9 ah aj J), .gs aj al (aa ak)]) F ⟨_,bo,bl,bu,(.slice none 0 0),bw,j,bx,bz,(by kernel_rfl),bt⟩ ?_
 rintro an l cl ⟨aw,J,I,ah,aj,al,j,ax,ay,rfl,az⟩
 rcases an with _ | an
 cases (show none=some aG from j)
 rw [correctorref6_Tokens_l0] at j
 refine sq<|s0<|aA 3 0 (V J.At) az rfl<|bM 1 v2 (RS.len (ar.mono az.ag))<|aO 0 j ?_ ?_<;>intro cn j
 refine xn 0<|dT<|sk<|bk 1<|sp 1<|sq ?_
 obtain ⟨bD,ab,j⟩:=ai j
 refine aH [0,3,4] (fun l h=>∃ aC ao aK ad aL aM aR,(ao,aK)=bD∧RS (α:=UInt8) aC aL ao.B∧RCs (α:=ak) aC aR ao.L∧l=[(0,v2),(3,Pt ad 0),(4,V aK)]∧St hs [] Z (0,0) aC h [.ae ad (a9 aL aM ao), .gs aM aR (aa ak)]) ?_ ?_
 rintro l cp ⟨aC,ao,aK,ad,aL,aM,aR,rfl,aY,aZ,rfl,aS⟩
 try dsimp only at j
 refine sq<|s0<|cC 1 j ?_ ?_<;>intro cq j
 refine xn 0<|dT<|s0<|aA 5 0 (V ao.At) aS rfl ?_
 obtain ⟨U,bE,j⟩:=ai j
 refine cA 1 aS (fun p=>dO F p aY aZ bE) ?_
 rintro _ cr ct _ cu bF ⟨a1,a2,bG,rfl,rfl,bH,bI⟩
 refine xn 0<|s0<|bB 3 0 (V 0) [V 0] [a1,V U.At,V U.Row,V 0,V U.bT, .bool U.cg,V U.Text,a2] bF rfl rfl rfl ?_
 intro cv bJ
 refine xn 0<|xt 1<|aN ?_
 exact ⟨an,Nat.lt_succ_self _,⟨_,(⟨U.B,U.At,U.Row,0,U.bT,U.cg,U.Text,U.L⟩:aE),ad,a1,a2,bG,j,bH,bI,(by kernel_rfl),bJ⟩⟩
 refine xn 0<|dF<|sk<|s0 ?_
 obtain ⟨bK,bL,j⟩:=ai j
 refine cA 1 aS (fun p=>BW F p aY aZ bL) ?_
 rintro _ cx cy _ cz a3 ⟨bO,bP,bQ,rfl,rfl,a4,a6⟩
 refine kb 0 49 j ?_ ?_<;>intro cB j
 refine xn 6<|dF<|sk ?_
 exact ⟨an,Nat.lt_succ_self _,⟨_,bK.2,ad,bO,bP,bQ,j,a4,a6,(by kernel_rfl),a3⟩⟩
 obtain ⟨bR,bS,j⟩:=ai j
 refine cA 3 a3 (fun p=>Bu F p a4 a6 bS) ?_
 rintro _ cD cF _ cG a7 ⟨bU,bV,bW,rfl,rfl,a8,ba⟩
 refine kb 0 53 j ?_ ?_<;>intro cH j
 refine xn 2<|dF<|sk ?_
 exact ⟨an,Nat.lt_succ_self _,⟨_,bR.2,ad,bU,bV,bW,j,a8,ba,(by kernel_rfl),a7⟩⟩
 refine xn 2<|dT<|g0 ?_
 obtain ⟨bY,bZ,j⟩:=ai j
 refine cA 1 a7 (fun p=>x8 F p a8 ba bZ) ?_
 rintro _ cI cJ _ cK b0 ⟨b1,b2,b3,rfl,rfl,b4,b5⟩
 refine xn 0 ?_
 exact ⟨an,Nat.lt_succ_self _,⟨_,bY,ad,b1,b2,b3,j,b4,b5,(by kernel_rfl),b0⟩⟩
 refine cT Av az ?_
 intro bb cL bc aD
 refine yq 3 [(22,Pt I 1),(4,V 0),(0,v2),(3,Pt I 0)] ?_
 have cM:I<bb:=bc.1 _ (List.mem_of_getElem? (i:=0) rfl) _ (by simp [Itm.ids])
 refine aU (v:=V J.At) rfl trivial rfl (by show I<_;omega) (aB (v:=V J.At) trivial) (aD.aP (i:=0) rfl (by kernel_rfl)) trivial<|yq 3 [(26,Pt I 2),(23,V J.At),(4,V 0),(0,v2),(3,Pt I 0)] ?_
 have cN:I<bb:=bc.1 _ (List.mem_of_getElem? (i:=0) rfl) _ (by simp [Itm.ids])
 refine aU (v:=V J.Row) rfl trivial rfl (by show I<_;omega) (aB (v:=V J.Row) trivial) (aD.aP (i:=0) rfl (by kernel_rfl)) trivial ?_
 rcases ifs ab with ⟨aT,ab⟩ | ⟨aT,ab⟩
 refine aF rfl trivial (br rfl rfl (eU aT))<|yf [(28, .bool true),(4,V 0),(0,v2),(3,Pt I 0)] ?_
 have bd:=aD.a5
 refine dT<|g0<|aA 4 0 (V J.At) bd rfl ?_
 obtain ⟨b6,b7,ab⟩:=ai ab
 refine cE 0 bd (fun cP bg b8 bh=>s8 F b8 (RS.mono bg ax) (bf.row (bh _ (List.mem_of_getElem? (i:=1) rfl)) bg ay) (bh _ (List.mem_of_getElem? (i:=0) rfl)) b7) ?_
 rintro _ cR b9 rfl
 refine xn 1 ?_
 obtain rfl:=si ab
 exact ⟨_,J,b6,I,ah,aj,al,rfl,ax,ay,(by kernel_rfl),b9⟩
 refine aF rfl trivial (br rfl rfl (eT aT))<|yf [(28, .bool false),(4,V 0),(0,v2),(3,Pt I 0)] ?_
 have ca:=aD.a5
 refine dF<|sk ?_
 obtain rfl:=si ab
 exact ⟨_,J,0,I,ah,aj,al,rfl,ax,ay,(by kernel_rfl),ca⟩
 refine xn 0<|dF<|xt 0<|aN ?_
 obtain rfl:=si j
 exact ⟨_,J,I,ah,aj,al,rfl,ax,ay,(by kernel_rfl),az⟩
end Go.Proofs.Ytcilejikekccmaa.M
namespace Go.Proofs.Ytcilejikekccmaa.M
open Go Am Sy
open Sy.Cell (rc)
structure an where
 Kind:Int
 ah:Int
 To:Int
 aC:Int
 deriving DecidableEq,Inhabited
instance:Cell an where
 size:=4
 rc Z cs x:=cs=[V x.Kind,V x.ah,V x.To,V x.aC]
 len h:=by rw [h];rfl
 mono _ h:=h
 one h:=by rw [h];rfl
 pos:=by decide
theorem xw {Z:Zn} {cs:List Value} {x:an} (h:rc Z cs x):cs=[V x.Kind,V x.ah,V x.To,V x.aC]:=h
abbrev cy (x:an):List Value:=[V x.Kind,V x.ah,V x.To,V x.aC]
instance:FC an:=⟨cy,fun q=>q⟩
structure aZ where
 ig:Bool
 aC:Int
 ah:Int
 To:Int
 deriving DecidableEq,Inhabited
instance:Cell aZ where
 size:=4
 rc Z cs x:=cs=[.bool x.ig,V x.aC,V x.ah,V x.To]
 len h:=by rw [h];rfl
 mono _ h:=h
 one h:=by rw [h];rfl
 pos:=by decide
theorem tM {Z:Zn} {cs:List Value} {x:aZ} (h:rc Z cs x):cs=[.bool x.ig,V x.aC,V x.ah,V x.To]:=h
abbrev et (x:aZ):List Value:=[.bool x.ig,V x.aC,V x.ah,V x.To]
instance:FC aZ:=⟨et,fun q=>q⟩
def BZ:List bq:=[uP 33 (mv 0),uP 34 (mv 5),uP 35 (ia 24 33 34),uP 36 (fa 85 35 1),uL 37 (ld 3 36),uP 38 (mv 0),uP 39 (fa 63 6 1),uL 40 (ld 3 39),uP 41 (ia 24 38 40),uP 42 (fa 85 41 1),uL 43 (ld 3 42),uP 44 (bo .sub 3 37 43 3),uP 45 (fa 63 6 3),oF (.store 3 (t 45) (t 44)) .make [4,7,10],uP 46 (fa 63 6 0),oF (.store 3 (t 46) (ci 5)) .make [4,7,10]]
def Cs:List aV:=[u 94 (mv 3),u 95 (ld 63 6),u 96 (.buildSlice 52 1 #[(0,(t 95))]),u 97 (cb .append #[(t 94),(t 96)] #[52,52]),u 3 (sg 97)]
def correctorref9_Rows_l1 (F:Nat) (a0:List ak):Nat→(List an)→Int→Int→an→Bool→Option ((List an)×Int×Int×an×Bool)
 | 0,_,_,_,_,_=>none
 | n+1,U,aa,I,j,ab=>
  if I<(a0.length:Int) then
   if 0≤I∧I<(a0.length:Int) then
    (a0[I.toNat]?).bind fun J=>
    ((if j.aC<(0:Int) then
      (fh F J.Kind).bind fun ay=>
      if ay=true then
       if 0≤I∧I<(a0.length:Int) then
        (a0[I.toNat]?).bind fun aj=>
        if 0≤j.ah∧j.ah<(a0.length:Int) then
         (a0[j.ah.toNat]?).bind fun al=>
         if J.Kind=(20:Int) then
          some (U,(⟨4,j.ah,j.To,af (aj.ah - al.ah)⟩:an))
         else
          if J.Kind=(21:Int) then
           some (U,(⟨4,j.ah,j.To,af (aj.ah - al.ah)⟩:an))
          else
           some (U,(⟨5,j.ah,j.To,af (aj.ah - al.ah)⟩:an))
        else none
       else none
      else
       some (U,j)
     else
      some (U,j)):Option ((List an)×an)).bind fun o=>match o with
     | (ao,aq)=>((((if J.Kind=(8:Int) then
        some (ao,aq,true)
       else
        if J.Kind=(9:Int) then
         some (ao,aq,true)
        else
         some (ao,aq,false)):Option ((List an)×an×Bool)).bind fun o=>match o with
       | (ad,ae,az)=>if az=true then
        some (ad,af (aa+1),ae)
       else
        ((if J.Kind=(10:Int) then
          some (ad,ae,true)
         else
          if J.Kind=(11:Int) then
           some (ad,ae,true)
          else
           some (ad,ae,false)):Option ((List an)×an×Bool)).bind fun o=>match o with
         | (ag,ai,aA)=>if aA=true then
          some (ag,imax (af (aa - 1)) 0,ai)
         else
          ((if J.Kind=(20:Int) then
            some (ag,ai,true)
           else
            if J.Kind=(21:Int) then
             some (ag,ai,true)
            else
             some (ag,ai,false)):Option ((List an)×an×Bool)).bind fun o=>match o with
           | (aw,ax,aB)=>if aB=true then
            some (aw,0,ax)
           else
            some (aw,aa,ax)):Option ((List an)×Int×an)).bind fun o=>match o with
      | (ar,au,av)=>if J.Kind=(1:Int) then
       some (ar,au,af (I+1),av,ab)
      else
       if J.Kind=(19:Int) then
        some (ar,au,af (I+1),av,ab)
       else
        correctorref9_Rows_l1 F a0 n ar au (af (I+1)) av ab
   else none
  else
   some (U,aa,I,j,ab)
def correctorref9_Rows_l0 (F:Nat) (a0:List ak):Nat→(List an)→Int→Int→Option (List an)
 | 0,_,_,_=>none
 | n+1,aa,ab,J=>
  if J<(a0.length:Int) then
   ((if (0:Int)<ab then
     some (aa,(⟨1,J,0,(-1)⟩:an),true)
    else
     some (aa,(⟨1,J,0,(-1)⟩:an),false)):Option ((List an)×an×Bool)).bind fun o=>match o with
    | (af,ag,ai)=>((correctorref9_Rows_l1 F a0 F af ab J ag ai):Option ((List an)×Int×Int×an×Bool)).bind fun o=>match o with
     | (U,aj,I,j,al)=>((if 0≤j.ah∧j.ah<(a0.length:Int) then
       (a0[j.ah.toNat]?).bind fun ao=>
       if ao.Kind=(19:Int) then
        some (U,(⟨2,j.ah,I,j.aC⟩:an))
       else
        if al=true then
         if j.Kind=(4:Int) then
          some (U,(⟨j.Kind,j.ah,I,j.aC⟩:an))
         else
          some (U,(⟨3,j.ah,I,j.aC⟩:an))
        else
         some (U,(⟨j.Kind,j.ah,I,j.aC⟩:an))
      else none):Option ((List an)×an)).bind fun o=>match o with
      | (ad,ae)=>if ad.length+[ae].length≤4398046511104 then
       correctorref9_Rows_l0 F a0 n (ad++[ae]) aj I
      else none
  else
   some aa
def lK (F:Nat) (a0:List ak):Option (List an):=
 ((correctorref9_Rows_l0 F a0 F [] 0 0):Option (List an)).bind fun o=>match o with
  | j=>some j
theorem zG (F:Nat) {h:AH} {Z:Zn} {a0:List ak} {v2} (hP:Pre Z h []) (aJ:RS (α:=ak) Z v2 a0) {r:(List an)} (hm:lK F a0=some r):
  bX Try.prog 20 [v2] h Z [] fun v Z' A'=>∃ v4 cS,v4=v∧A'=[.gs v4 cS (aa an)]∧RCs (α:=an) Z' cS r:=by
 refine cm Try.func20 hP ?_
 intro hs hS
 unfold lK at hm
 replace hS:St hs [] Z (0,0) Z hs []:=hS
 refine sp 1<|sp 1<|sp 1<|sq<|sp 1 ?_
 obtain ⟨cc,ao,hm⟩:=ai hm
 refine aH [3] (fun l h=>∃ cd cf bI bS,cf=cc∧RCs (α:=an) cd bS cf∧l=[(3,bI)]∧St hs [] Z (0,0) cd h [.gs bI bS (aa an)]) ?_ ?_
 rintro l dV ⟨cd,cf,bI,bS,rfl,dh,rfl,di⟩
 try dsimp only at hm
 refine sp 2<|rt<|⟨rfl,?_⟩
 obtain rfl:=si hm
 refine ⟨_,_,_,tk bI (ResL.nil),di,?_⟩
 exact ⟨bI,bS,rfl,rfl,dh⟩
 refine bk 0 ?_
 have dj:=hS.dE (aa an)
 refine lp [0,3,4,5] (fun n l h=>∃ cg bj bJ aL bl bm,correctorref9_Rows_l0 F a0 n bj bJ aL=some cc∧RCs (α:=an) cg bm bj∧l=[(0,v2),(3,bl),(4,V bJ),(5,V aL)]∧St hs [] Z (0,0) cg h [.gs bl bm (aa an)]) F ⟨_,[],0,0,(.slice none 0 0),[],ao,(RCs.bA _),(by kernel_rfl),dj⟩ ?_
 rintro ch l dW ⟨cg,bj,bJ,aL,bl,bm,ao,cj,rfl,ck⟩
 rcases ch with _ | ch
 cases (show none=some cc from ao)
 rw [correctorref9_Rows_l0] at ao
 refine sq<|s0<|bM 2 v2 (RS.len (aJ.mono ck.ag))<|aO 0 ao ?_ ?_<;>intro dX ao
 refine xn 0<|dT<|sk<|bk 1<|s0<|df 2 [V 0,V 0,V 0,V 0] ck ?_
 intro cV dY dk
 refine bB 0 0 (.agg #[V 1,V aL,V 0,V (-1)]) [V 1,V aL,V 0,V (-1)] [V 1,V aL,V 0,V (-1)] dk rfl rfl rfl ?_
 intro ea cW
 refine xn 0<|sq ?_
 obtain ⟨dm,bT,ao⟩:=ai ao
 refine aH [0,3,4,5,6,7] (fun l h=>∃ cl bU bW bY bZ b0 b1,(bU,bW,bY)=dm∧RCs (α:=an) cl b0 bU∧l=[(0,v2),(3,bZ),(4,V bJ),(5,V aL),(6,Pt b1 0),(7, .bool bY)]∧St hs [] Z (0,0) cl h [.gs bZ b0 (aa an), .ae b1 (cy bW)]) ?_ ?_
 rintro l eb ⟨cl,bU,bW,bY,bZ,b0,b1,rfl,dn,rfl,dp⟩
 try dsimp only at ao
 refine sq ?_
 obtain ⟨cn,U,ao⟩:=ai ao
 refine aH [0,3,4,5,6,7] (fun l h=>∃ cq aS bn ay ad ct aW aX aY,(aS,bn,ay,ad,ct)=cn∧RCs (α:=an) cq aX aS∧l=[(0,v2),(3,aW),(4,V bn),(5,V ay),(6,Pt aY 0),(7, .bool ct)]∧St hs [] Z (0,0) cq h [.gs aW aX (aa an), .ae aY (cy ad)]) ?_ ?_
 rintro l ed ⟨cq,aS,bn,ay,ad,ct,aW,aX,aY,rfl,b2,rfl,cu⟩
 try dsimp only at ao
 refine s0<|bB 2 1 (V ay) [V ay] [V ad.Kind,V ad.ah,V ay,V ad.aC] cu rfl rfl rfl ?_
 intro ee aZ
 refine xn 0<|sq ?_
 obtain ⟨dq,az,ao⟩:=ai ao
 refine ec [0,3,4,5,6] (fun l h=>∃ b3 b5 aj bL cv b6,(b5,aj)=dq∧RCs (α:=an) b3 cv b5∧l=[(0,v2),(3,bL),(4,V bn),(5,V ay),(6,Pt b6 0)]∧St hs [] Z (0,0) b3 h [.gs bL cv (aa an), .ae b6 (cy aj)]) (by kernel_rfl) ?_ ?_
 rintro l eg ⟨b3,b5,aj,bL,cv,b6,rfl,dr,rfl,c0⟩
 try dsimp only at ao
 refine rg Cs<|xq 1 [(94,bL),(0,v2),(3,bL),(4,V bn),(5,V ay),(6,Pt b6 0)]<|aA 0 1 (.agg #[V aj.Kind,V aj.ah,V aj.To,V aj.aC]) c0 rfl ?_
 have ds:RCs (α:=an) b3 [V aj.Kind,V aj.ah,V aj.To,V aj.aC] [aj]:=RCs.cons (cs:=[V aj.Kind,V aj.ah,V aj.To,V aj.aC]) rfl (RCs.bA _)
 refine eh rfl trivial (c6 (cells:=[V aj.Kind,V aj.ah,V aj.To,V aj.aC]) (s:=4) (by kernel_rfl)) (by kernel_rfl) c0 ?_
 intro ei ej c3
 obtain ⟨ek,ao⟩:=aK ao
 refine gd rfl trivial (dZ (ys:=[aj]) (b4:=32) c3 (i:=1) rfl dr ((c3).eK (j:=0) rfl ds) rfl rfl (by kernel_rfl) (by omega) (by omega)) ?_
 rintro dt du en ⟨dw,dx⟩
 refine xn 1 ?_
 exact ⟨ch,Nat.lt_succ_self _,⟨_,b5++[aj],bn,ay,dt,du,ao,dw,(by kernel_rfl),((dx.front 1 rfl).takeN 1)⟩⟩
 refine g0<|aA 2 1 (V ad.ah) aZ rfl<|a6 0 az (aJ.mono cu.ag) ?_
 intro eo az
 refine bp 1 0 (fun c5=>V c5.Kind) az (aJ.mono cu.ag) aZ ?_
 intro c5 ep az
 refine aD 0 az ?_ ?_<;>intro er az
 refine xn 0<|dT<|g0<|bB 1 1 (V 2) [V 2] [V 2,V ad.ah,V ay,V ad.aC] aZ rfl rfl rfl ?_
 intro et dy
 refine xn 0 ?_
 obtain rfl:=si az
 exact ⟨_,aS,(⟨2,ad.ah,ay,ad.aC⟩:an),aW,aX,aY,rfl,b2,(by kernel_rfl),dy⟩
 refine xn 0<|dF<|s0<|kb 2 88 az ?_ ?_<;>intro ew az
 refine aA 1 1 (V ad.Kind) aZ rfl<|cZ 0 az ?_ ?_<;>intro ey az
 refine xn 1<|dF<|sk ?_
 obtain rfl:=si az
 exact ⟨_,aS,(⟨ad.Kind,ad.ah,ay,ad.aC⟩:an),aW,aX,aY,rfl,b2,(by kernel_rfl),aZ⟩
 refine xn 1<|dT<|g0<|bB 1 1 (V 3) [V 3] [V 3,V ad.ah,V ay,V ad.aC] aZ rfl rfl rfl ?_
 intro ez dz
 refine xn 0 ?_
 obtain rfl:=si az
 exact ⟨_,aS,(⟨3,ad.ah,ay,ad.aC⟩:an),aW,aX,aY,rfl,b2,(by kernel_rfl),dz⟩
 refine xn 4<|dF<|sk ?_
 obtain rfl:=si az
 exact ⟨_,aS,(⟨ad.Kind,ad.ah,ay,ad.aC⟩:an),aW,aX,aY,rfl,b2,(by kernel_rfl),aZ⟩
 refine bk 2<|lp [0,3,4,5,6,7] (fun n l h=>∃ cx aR au al I aq av aI J,correctorref9_Rows_l1 F a0 n aR au al I aq=some cn∧RCs (α:=an) cx aI aR∧l=[(0,v2),(3,av),(4,V au),(5,V al),(6,Pt J 0),(7, .bool aq)]∧St hs [] Z (0,0) cx h [.gs av aI (aa an), .ae J (cy I)]) F ⟨_,bU,bJ,aL,bW,bY,bZ,b0,b1,U,dn,(by kernel_rfl),dp⟩ ?_
 rintro cz l eA ⟨cx,aR,au,al,I,aq,av,aI,J,U,bo,rfl,aG⟩
 rcases cz with _ | cz
 cases (show none=some cn from U)
 rw [correctorref9_Rows_l1] at U
 refine sq<|s0<|bM 2 v2 (RS.len (aJ.mono aG.ag))<|aO 0 U ?_ ?_<;>intro eB U
 refine xn 0<|dT<|sk<|bk 3<|s0<|a6 2 U (aJ.mono aG.ag) ?_
 intro eC U
 refine bp 1 0 (fun aw=>V aw.Kind) U (aJ.mono aG.ag) aG ?_
 intro aw eD U
 refine xn 1<|sq ?_
 obtain ⟨dA,ab,U⟩:=ai U
 refine aH [0,3,4,5,6,7,8] (fun l h=>∃ cA br bt bu bw bx,(br,bt)=dA∧RCs (α:=an) cA bw br∧l=[(0,v2),(3,bu),(4,V au),(5,V al),(6,Pt bx 0),(7, .bool aq),(8,V aw.Kind)]∧St hs [] Z (0,0) cA h [.gs bu bw (aa an), .ae bx (cy bt)]) ?_ ?_
 rintro l eE ⟨cA,br,bt,bu,bw,bx,rfl,cB,rfl,cD⟩
 try dsimp only at U
 refine sq ?_
 obtain ⟨dB,ar,U⟩:=ai U
 refine aH [0,3,4,5,6,7,8] (fun l h=>∃ cE bz bC bD bE bF bH,(bz,bC,bD)=dB∧RCs (α:=an) cE bF bz∧l=[(0,v2),(3,bE),(4,V bC),(5,V al),(6,Pt bH 0),(7, .bool aq),(8,V aw.Kind)]∧St hs [] Z (0,0) cE h [.gs bE bF (aa an), .ae bH (cy bD)]) ?_ ?_
 rintro l eF ⟨cE,bz,bC,bD,bE,bF,bH,rfl,cF,rfl,cH⟩
 try dsimp only at U
 refine sp 3<|s0<|aD 1 U ?_ ?_<;>intro eG U
 refine xn 4<|dT<|xt 2<|g5 rfl<|aN ?_
 obtain rfl:=si U
 exact ⟨_,bz,bC,af (al+1),bD,aq,bE,bF,bH,rfl,cF,(by kernel_rfl),cH⟩
 refine aD 2 U ?_ ?_<;>intro eH U
 refine xn 1<|dT<|xt 2<|g5 rfl<|aN ?_
 obtain rfl:=si U
 exact ⟨_,bz,bC,af (al+1),bD,aq,bE,bF,bH,rfl,cF,(by kernel_rfl),cH⟩
 refine xn 1<|dF<|sk ?_
 exact ⟨cz,Nat.lt_succ_self _,⟨_,bz,bC,af (al+1),bD,aq,bE,bF,bH,U,cF,(by kernel_rfl),cH⟩⟩
 refine sp 1<|bk 4<|sq ?_
 obtain ⟨dC,a1,ar⟩:=ai ar
 refine aH [0,3,4,5,6,7,8,54,55] (fun l h=>∃ cI a2 a3 cJ a4 a7 a8,(a2,a3,cJ)=dC∧RCs (α:=an) cI a7 a2∧l=[(0,v2),(3,a4),(4,V au),(5,V al),(6,Pt a8 0),(7, .bool aq),(8,V aw.Kind),(54,V aw.Kind),(55, .bool cJ)]∧St hs [] Z (0,0) cI h [.gs a4 a7 (aa an), .ae a8 (cy a3)]) ?_ ?_
 rintro l eI ⟨cI,a2,a3,cJ,a4,a7,a8,rfl,b7,rfl,b8⟩
 try dsimp only at ar
 refine db ar ?_ ?_<;>intro eJ ar
 refine gp 3 ?_
 obtain rfl:=si ar
 exact ⟨_,a2,af (au+1),a3,a4,a7,a8,rfl,b7,(by kernel_rfl),b8⟩
 refine sq ?_
 obtain ⟨dD,a9,ar⟩:=ai ar
 refine aH [0,3,4,5,6,7,8,54,60] (fun l h=>∃ cK ba bb cL bc bd bf,(ba,bb,cL)=dD∧RCs (α:=an) cK bd ba∧l=[(0,v2),(3,bc),(4,V au),(5,V al),(6,Pt bf 0),(7, .bool aq),(8,V aw.Kind),(54,V aw.Kind),(60, .bool cL)]∧St hs [] Z (0,0) cK h [.gs bc bd (aa an), .ae bf (cy bb)]) ?_ ?_
 rintro l eL ⟨cK,ba,bb,cL,bc,bd,bf,rfl,b9,rfl,ca⟩
 try dsimp only at ar
 refine db ar ?_ ?_<;>intro eM ar
 refine gp 4 ?_
 obtain rfl:=si ar
 exact ⟨_,ba,imax (af (au - 1)) 0,bb,bc,bd,bf,rfl,b9,(by kernel_rfl),ca⟩
 refine sq ?_
 obtain ⟨dG,bg,ar⟩:=ai ar
 refine aH [0,3,4,5,6,7,8,66] (fun l h=>∃ cM bN bO cN bP bQ bR,(bN,bO,cN)=dG∧RCs (α:=an) cM bQ bN∧l=[(0,v2),(3,bP),(4,V au),(5,V al),(6,Pt bR 0),(7, .bool aq),(8,V aw.Kind),(66, .bool cN)]∧St hs [] Z (0,0) cM h [.gs bP bQ (aa an), .ae bR (cy bO)]) ?_ ?_
 rintro l eN ⟨cM,bN,bO,cN,bP,bQ,bR,rfl,c7,rfl,c8⟩
 try dsimp only at ar
 refine db ar ?_ ?_<;>intro eO ar
 refine gp 1 ?_
 obtain rfl:=si ar
 exact ⟨_,bN,0,bO,bP,bQ,bR,rfl,c7,(by kernel_rfl),c8⟩
 refine sk ?_
 obtain rfl:=si ar
 exact ⟨_,bN,au,bO,bP,bQ,bR,rfl,c7,(by kernel_rfl),c8⟩
 refine s0<|aD 0 bg ?_ ?_<;>intro eP bg
 refine xn 1<|dT<|sk ?_
 obtain rfl:=si bg
 exact ⟨_,ba,bb,true,bc,bd,bf,rfl,b9,(by kernel_rfl),ca⟩
 refine xn 1<|dF<|g0<|aD 0 bg ?_ ?_<;>intro eQ bg
 refine xn 1 ?_
 obtain rfl:=si bg
 exact ⟨_,ba,bb,true,bc,bd,bf,rfl,b9,(by kernel_rfl),ca⟩
 refine xn 1 ?_
 obtain rfl:=si bg
 exact ⟨_,ba,bb,false,bc,bd,bf,rfl,b9,(by kernel_rfl),ca⟩
 refine s0<|aD 0 a9 ?_ ?_<;>intro eR a9
 refine xn 1<|dT<|sk ?_
 obtain rfl:=si a9
 exact ⟨_,a2,a3,true,a4,a7,a8,rfl,b7,(by kernel_rfl),b8⟩
 refine xn 1<|dF<|g0<|aD 0 a9 ?_ ?_<;>intro eS a9
 refine xn 1 ?_
 obtain rfl:=si a9
 exact ⟨_,a2,a3,true,a4,a7,a8,rfl,b7,(by kernel_rfl),b8⟩
 refine xn 1 ?_
 obtain rfl:=si a9
 exact ⟨_,a2,a3,false,a4,a7,a8,rfl,b7,(by kernel_rfl),b8⟩
 refine s0<|aD 0 a1 ?_ ?_<;>intro eT a1
 refine xn 1<|dT<|sk ?_
 obtain rfl:=si a1
 exact ⟨_,br,bt,true,bu,bw,bx,rfl,cB,(by kernel_rfl),cD⟩
 refine xn 1<|dF<|g0<|aD 0 a1 ?_ ?_<;>intro eU a1
 refine xn 1 ?_
 obtain rfl:=si a1
 exact ⟨_,br,bt,true,bu,bw,bx,rfl,cB,(by kernel_rfl),cD⟩
 refine xn 1 ?_
 obtain rfl:=si a1
 exact ⟨_,br,bt,false,bu,bw,bx,rfl,cB,(by kernel_rfl),cD⟩
 refine s0<|aA 1 1 (V I.aC) aG rfl<|aO 0 ab ?_ ?_<;>intro eV ab
 obtain ⟨eW,dH,ab⟩:=ai ab
 refine cP 2 aG (iS F aG.inv dH) ?_
 rintro _ eX c9 rfl
 refine xn 1<|db ab ?_ ?_<;>intro eY ab
 refine cT BZ c9 ?_
 intro dI eZ dJ cb
 refine yq 2 [(34,V al),(33,v2),(8,V aw.Kind),(0,v2),(3,av),(4,V au),(5,V al),(6,Pt J 0),(7, .bool aq)] ?_
 obtain ⟨da,ab⟩:=aK ab
 refine aF rfl trivial (bG rfl rfl (by kernel_rfl:slTy _ _=some (aa ak)) (RS.cU (aJ.mono aG.ag) (by omega)) da.1 da.2)<|yq 1 [(36, .pointer (some (bh v2 al (aa ak) 1))),(8,V aw.Kind),(0,v2),(3,av),(4,V au),(5,V al),(6,Pt J 0),(7, .bool aq)] ?_
 obtain ⟨ax,dK,ab⟩:=ai ab
 obtain ⟨e0,dL,dM⟩:=RS.cp (aJ.mono aG.ag) (i:=al) dK
 obtain rfl:=eu dL
 refine cG rfl rfl trivial (fun h2 hz=>bK (w:=V ax.ah) (dM h2 hz) rfl (by kernel_rfl)) (cb.bV (aM.refl _)) (aB (v:=V ax.ah) trivial) trivial<|yq 2 [(39,Pt J 1),(38,v2),(37,V ax.ah),(8,V aw.Kind),(0,v2),(3,av),(4,V au),(5,V al),(6,Pt J 0),(7, .bool aq)] ?_
 have e2:J<dI:=dJ.1 _ (List.mem_of_getElem? (i:=1) rfl) _ (by simp [Itm.ids])
 refine aU (v:=V I.ah) rfl trivial rfl (by show J<_;omega) (aB (v:=V I.ah) trivial) (cb.aP (i:=1) rfl (by kernel_rfl)) trivial ?_
 obtain ⟨dc,ab⟩:=aK ab
 refine aF rfl trivial (bG rfl rfl (by kernel_rfl:slTy _ _=some (aa ak)) (RS.cU (aJ.mono aG.ag) (by omega)) dc.1 dc.2)<|yq 1 [(42, .pointer (some (bh v2 I.ah (aa ak) 1))),(37,V ax.ah),(8,V aw.Kind),(0,v2),(3,av),(4,V au),(5,V al),(6,Pt J 0),(7, .bool aq)] ?_
 obtain ⟨aE,dN,ab⟩:=ai ab
 obtain ⟨e3,dO,dP⟩:=RS.cp (aJ.mono aG.ag) (i:=I.ah) dN
 obtain rfl:=eu dO
 refine cG rfl rfl trivial (fun h2 hz=>bK (w:=V aE.ah) (dP h2 hz) rfl (by kernel_rfl)) (cb.bV (aM.refl _)) (aB (v:=V aE.ah) trivial) trivial<|yq 2 [(45,Pt J 3),(44,V (af (ax.ah - aE.ah))),(8,V aw.Kind),(0,v2),(3,av),(4,V au),(5,V al),(6,Pt J 0),(7, .bool aq)] ?_
 have dd:St _ _ _ _ _ _ ([.ae J (cy I)]++[.gs av aI (aa an)]):=(cb.front 1 rfl)
 refine fM rfl trivial dd (fI (vs:=[V (af (ax.ah - aE.ah))]) (cr:=[V I.Kind,V I.ah,V I.To,V (af (ax.ah - aE.ah))]) (L':=[.ae J [V I.Kind,V I.ah,V I.To,V (af (ax.ah - aE.ah))]]) dd.sub (i:=0) rfl rfl rfl rfl (by kernel_rfl) rfl rfl rfl rfl) (aM.refl _) (.aT trivial (.drop (by decide) (.aT trivial .nil))) ?_
 intro e4 dQ
 refine yq 1 [(46,Pt J 0),(8,V aw.Kind),(0,v2),(3,av),(4,V au),(5,V al),(6,Pt J 0),(7, .bool aq)] ?_
 have de:St _ _ _ _ _ _ ([.ae J [V I.Kind,V I.ah,V I.To,V (af (ax.ah - aE.ah))]]++[.gs av aI (aa an)]):=(dQ.front 0 rfl)
 refine fM rfl trivial de (fI (vs:=[V 5]) (cr:=[V 5,V I.ah,V I.To,V (af (ax.ah - aE.ah))]) (L':=[.ae J [V 5,V I.ah,V I.To,V (af (ax.ah - aE.ah))]]) de.sub (i:=0) rfl rfl rfl rfl (by kernel_rfl) rfl rfl rfl rfl) (aM.refl _) (.aT trivial (.drop (by decide) (.aT trivial .nil))) ?_
 intro e5 dR
 refine yf [(8,V aw.Kind),(0,v2),(3,av),(4,V au),(5,V al),(6,Pt J 0),(7, .bool aq)] ?_
 have cR:=dR.a5
 refine s0<|aD 1 ab ?_ ?_<;>intro e6 ab
 refine xn 4<|dT<|g0<|bB 1 0 (V 4) [V 4] [V 4,V I.ah,V I.To,V (af (ax.ah - aE.ah))] cR rfl rfl rfl ?_
 intro e7 dS
 refine xn 0 ?_
 obtain rfl:=si ab
 exact ⟨_,aR,(⟨4,I.ah,I.To,af (ax.ah - aE.ah)⟩:an),av,aI,J,rfl,bo,(by kernel_rfl),((dS.front 0 rfl).front 1 rfl)⟩
 refine aD 2 ab ?_ ?_<;>intro e8 ab
 refine xn 1<|dT<|g0<|bB 1 0 (V 4) [V 4] [V 4,V I.ah,V I.To,V (af (ax.ah - aE.ah))] cR rfl rfl rfl ?_
 intro e9 dU
 refine xn 0 ?_
 obtain rfl:=si ab
 exact ⟨_,aR,(⟨4,I.ah,I.To,af (ax.ah - aE.ah)⟩:an),av,aI,J,rfl,bo,(by kernel_rfl),((dU.front 0 rfl).front 1 rfl)⟩
 refine xn 1<|dF<|sk ?_
 obtain rfl:=si ab
 exact ⟨_,aR,(⟨5,I.ah,I.To,af (ax.ah - aE.ah)⟩:an),av,aI,J,rfl,bo,(by kernel_rfl),((cR.front 0 rfl).front 1 rfl)⟩
 refine sk ?_
 obtain rfl:=si ab
 exact ⟨_,aR,I,av,aI,J,rfl,bo,(by kernel_rfl),c9⟩
 refine xn 4<|dF<|sk ?_
 obtain rfl:=si ab
 exact ⟨_,aR,I,av,aI,J,rfl,bo,(by kernel_rfl),aG⟩
 refine xn 0<|dF<|xt 2<|aN ?_
 obtain rfl:=si U
 exact ⟨_,aR,au,al,I,aq,av,aI,J,rfl,bo,(by kernel_rfl),aG⟩
 refine g0<|cC 1 bT ?_ ?_<;>intro fa bT
 refine xn 1 ?_
 obtain rfl:=si bT
 exact ⟨_,bj,(⟨1,aL,0,(-1)⟩:an),true,bl,bm,cV,rfl,cj,(by kernel_rfl),((cW.front 0 rfl).front 1 rfl)⟩
 refine xn 1 ?_
 obtain rfl:=si bT
 exact ⟨_,bj,(⟨1,aL,0,(-1)⟩:an),false,bl,bm,cV,rfl,cj,(by kernel_rfl),((cW.front 0 rfl).front 1 rfl)⟩
 refine xn 0<|dF<|xt 0<|aN ?_
 obtain rfl:=si ao
 exact ⟨_,bj,bl,bm,rfl,cj,(by kernel_rfl),ck⟩
def correctorref9_skip_l0 (F:Nat) (a0:List ak) (a1:Int) (I:Int) (J:Int):Nat→Int→Option Int
 | 0,_=>none
 | n+1,j=>
  if j<I then
   if 0≤j∧j<(a0.length:Int) then
    (a0[j.toNat]?).bind fun U=>
    if U.Kind=J then
     correctorref9_skip_l0 F a0 a1 I J n (af (j+1))
    else
     some j
   else none
  else
   some j
def jF (F:Nat) (a0:List ak) (a1:Int) (j:Int) (I:Int):Option Int:=
 ((correctorref9_skip_l0 F a0 a1 j I F a1):Option Int).bind fun o=>match o with
  | J=>some J
theorem pG (F:Nat) {h:AH} {Z:Zn} {a0:List ak} {a1:Int} {U:Int} {aa:Int} {v2} (hI:Inv Z h) (ah:RS (α:=ak) Z v2 a0) {r:Int} (hm:jF F a0 a1 U aa=some r):
  bU Try.prog 84 [v2,V a1,V U,V aa] h Z (V r):=by
 refine b1 Try.func84 hI ?_
 intro hs hS
 unfold jF at hm
 refine sp 1<|sq ?_
 obtain ⟨ad,j,hm⟩:=ai hm
 refine aH [1] (fun l h=>∃ aj ab,ab=ad∧l=[(1,V ab)]∧St hs [] Z (0,0) aj h []) ?_ ?_
 rintro l aq ⟨aj,ab,rfl,rfl,ao⟩
 try dsimp only at hm
 refine sp 2<|rt<|⟨rfl,?_⟩
 obtain rfl:=si hm
 refine ⟨_,_,_,tk (V ab) (ResL.nil),ao,?_⟩
 exact rfl
 refine bk 0<|lp [0,1,2,3] (fun n l h=>∃ al I,correctorref9_skip_l0 F a0 a1 U aa n I=some ad∧l=[(0,v2),(1,V I),(2,V U),(3,V aa)]∧St hs [] Z (0,0) al h []) F ⟨_,a1,j,(by kernel_rfl),hS⟩ ?_
 rintro ae l ar ⟨al,I,j,rfl,J⟩
 rcases ae with _ | ae
 cases (show none=some ad from j)
 rw [correctorref9_skip_l0] at j
 refine sq<|s0<|aO 2 j ?_ ?_<;>intro au j
 refine a6 3 j (ah.mono J.ag) ?_
 intro av j
 refine bp 1 0 (fun an=>V an.Kind) j (ah.mono J.ag) J ?_
 intro an aw j
 refine aD 1 j ?_ ?_<;>intro ax j
 refine xn 1<|dT<|sk<|bk 1<|gp 3 ?_
 exact ⟨ae,Nat.lt_succ_self _,⟨_,af (I+1),j,(by kernel_rfl),J⟩⟩
 refine xn 1<|dF<|xt 0<|aN ?_
 obtain rfl:=si j
 exact ⟨_,I,rfl,(by kernel_rfl),J⟩
 refine xn 9<|dF<|xt 0<|aN ?_
 obtain rfl:=si j
 exact ⟨_,I,rfl,(by kernel_rfl),J⟩
def eZ (F:Nat) (a0:Int):Option Bool:=
 if a0=(15:Int) then
  some true
 else
  if a0=(16:Int) then
   some true
  else
   if a0=(17:Int) then
    some true
   else
    if a0=(13:Int) then
     some true
    else
     some false
theorem pe (F:Nat) {h:AH} {Z:Zn} {a0:Int} (hI:Inv Z h) {r:Bool} (hm:eZ F a0=some r):
  bU Try.prog 85 [V a0] h Z (.bool r):=by
 refine b1 Try.func85 hI ?_
 intro hs hS
 unfold eZ at hm
 refine sp 1<|s0<|aD 1 hm ?_ ?_<;>intro j hm
 refine xn 13<|rt<|⟨rfl,?_⟩
 obtain rfl:=si hm
 refine ⟨_,_,_,tk (.bool true) (ResL.nil),hS,?_⟩
 exact rfl
 refine aD 2 hm ?_ ?_<;>intro I hm
 refine xn 10<|rt<|⟨rfl,?_⟩
 obtain rfl:=si hm
 refine ⟨_,_,_,tk (.bool true) (ResL.nil),hS,?_⟩
 exact rfl
 refine aD 3 hm ?_ ?_<;>intro J hm
 refine xn 6<|rt<|⟨rfl,?_⟩
 obtain rfl:=si hm
 refine ⟨_,_,_,tk (.bool true) (ResL.nil),hS,?_⟩
 exact rfl
 refine aD 3 hm ?_ ?_<;>intro U hm
 refine xn 2<|rt<|⟨rfl,?_⟩
 obtain rfl:=si hm
 refine ⟨_,_,_,tk (.bool true) (ResL.nil),hS,?_⟩
 exact rfl
 refine xn 2<|rt<|⟨rfl,?_⟩
 obtain rfl:=si hm
 refine ⟨_,_,_,tk (.bool false) (ResL.nil),hS,?_⟩
 exact rfl
def yM:List bq:=[uP 14 (fa 63 3 1),uL 15 (ld 3 14),uP 4 (.assign (.const (.slice none 0 0))),uP 5 (sg 15)]
def D5:List aV:=[u 52 (mv 9),u 53 (mv 0),u 54 (mv 6),u 55 (ia 24 53 54),u 56 (fa 85 55 1),u 57 (ld 3 56),u 58 (mv 8),u 59 (bo .sub 3 57 58 3),u 60 (mv 6),u 61 (mv 6),u 62 (bc .add 3 61 1 3),u 63 (.build 112 #[(0,(.const (.bool true))),(1,(t 59)),(2,(t 60)),(3,(t 62))]),u 64 (.buildSlice 106 1 #[(0,(t 63))]),u 65 (cb .append #[(t 52),(t 64)] #[106,106]),u 9 (sg 65)]
def zM:List aV:=[u 129 (mv 9),u 130 (mv 0),u 131 (mv 6),u 132 (ia 24 130 131),u 133 (fa 85 132 1),u 134 (ld 3 133),u 135 (mv 8),u 136 (bo .sub 3 134 135 3),u 137 (mv 6),u 138 (mv 10),u 139 (bc .add 3 138 1 3),u 140 (.build 112 #[(1,(t 136)),(2,(t 137)),(3,(t 139))]),u 141 (.buildSlice 106 1 #[(0,(t 140))]),u 142 (cb .append #[(t 129),(t 141)] #[106,106]),u 9 (sg 142)]
def CM:List bq:=[uP 147 (mv 9),uP 148 (mv 9),uP 149 (mv 9),uP 150 (cb .len #[(t 149)] #[106]),uP 151 (bc .sub 3 150 1 3),uP 152 (ia 106 148 151),uP 153 (fa 112 152 3),uL 154 (ld 3 153),uP 4 (sg 147),uP 5 (sg 154)]
def correctorref9_Entries_l0 (F:Nat) (a0:List ak) (a1:an):Nat→an→Int→Option (an×Int)
 | 0,_,_=>none
 | n+1,I,j=>
  if j<I.To then
   if 0≤j∧j<(a0.length:Int) then
    (a0[j.toNat]?).bind fun J=>
    (fh F J.Kind).bind fun U=>
    if U=true then
     some (I,j)
    else
     correctorref9_Entries_l0 F a0 a1 n I (af (j+1))
   else none
  else
   some (I,j)
def correctorref9_Entries_l1 (F:Nat) (a0:List ak) (a1:an):Nat→an→Int→Int→Int→(List aZ)→Option (an×Int×Int×Int×(List aZ))
 | 0,_,_,_,_,_=>none
 | n+1,I,j,aa,J,U=>
  if j<I.To then
   if 0≤j∧j<(a0.length:Int) then
    (a0[j.toNat]?).bind fun ad=>
    if ad.Kind=(5:Int) then
     if 0≤j∧j<(a0.length:Int) then
      (a0[j.toNat]?).bind fun ab=>
      if U.length+[(⟨true,af (ab.ah - J),j,af (j+1)⟩:aZ)].length≤4398046511104 then
       (jF F a0 (af (j+1)) I.To 3).bind fun ae=>
       correctorref9_Entries_l1 F a0 a1 n I ae aa J (U++[(⟨true,af (ab.ah - J),j,af (j+1)⟩:aZ)])
      else none
     else none
    else
     some (I,j,aa,J,U)
   else none
  else
   some (I,j,aa,J,U)
def correctorref9_Entries_l2 (F:Nat) (a0:List ak) (a1:an):Nat→an→Int→Int→Int→(List aZ)→Int→Option (an×Int×Int×Int×(List aZ)×Int)
 | 0,_,_,_,_,_,_=>none
 | n+1,I,U,aa,ab,J,j=>
  ((if j<I.To then
    if 0≤j∧j<(a0.length:Int) then
     (a0[j.toNat]?).bind fun ae=>
     if ae.Kind=(12:Int) then
      some (.inl (I,J))
     else
      if 0≤j∧j<(a0.length:Int) then
       (a0[j.toNat]?).bind fun ag=>
       if ag.Kind=(14:Int) then
        some (.inl (I,J))
       else
        some (.inr (I,U,aa,ab,J,j))
      else none
    else none
   else
    some (.inr (I,U,aa,ab,J,j))):Option (Sum (an×(List aZ)) (an×Int×Int×Int×(List aZ)×Int))).bind fun o=>match o with
   | .inl (ad,ah)=>(jF F a0 (af (j+1)) ad.To 3).bind fun ai=>
   correctorref9_Entries_l2 F a0 a1 n ad U aa ab ah ai
   | .inr y=>some y
def nr (F:Nat) (a0:List ak) (a1:an):Option ((List aZ)×Int):=
 if a1.Kind=(5:Int) then
  ((correctorref9_Entries_l0 F a0 a1 F a1 a1.ah):Option (an×Int)).bind fun o=>match o with
   | (ab,ai)=>if 0≤ab.ah∧ab.ah<(a0.length:Int) then
    (a0[ab.ah.toNat]?).bind fun aq=>
    ((correctorref9_Entries_l1 F a0 a1 F ab ai ai aq.ah []):Option (an×Int×Int×Int×(List aZ))).bind fun o=>match o with
     | (ar,aj,au,av,aw)=>((correctorref9_Entries_l2 F a0 a1 F ar aj au av aw aj):Option (an×Int×Int×Int×(List aZ)×Int)).bind fun o=>match o with
      | (U,aa,ax,al,ad,j)=>((if j<U.To then
        if 0≤j∧j<(a0.length:Int) then
         (a0[j.toNat]?).bind fun ay=>
         (eZ F ay.Kind).bind fun az=>
         if az=true then
          (jF F a0 (af (j+1)) U.To 3).bind fun aA=>
          some (U,ad,aA)
         else
          some (U,ad,j)
        else none
       else
        some (U,ad,j)):Option (an×(List aZ)×Int)).bind fun o=>match o with
       | (aB,ae,J)=>((((if J<aB.To then
          if 0≤J∧J<(a0.length:Int) then
           (a0[J.toNat]?).bind fun aC=>
           if aC.Kind=(6:Int) then
            some (ae,true)
           else
            some (ae,false)
          else none
         else
          some (ae,false)):Option ((List aZ)×Bool)).bind fun o=>match o with
         | (ag,aD)=>if aD=true then
          if 0≤aa∧aa<(a0.length:Int) then
           (a0[aa.toNat]?).bind fun ao=>
           if ag.length+[(⟨false,af (ao.ah - al),aa,af (J+1)⟩:aZ)].length≤4398046511104 then
            some (ag++[(⟨false,af (ao.ah - al),aa,af (J+1)⟩:aZ)])
           else none
          else none
         else
          some ag):Option (List aZ)).bind fun o=>match o with
        | I=>if (I.length:Int)=(0:Int) then
         some ([],ax)
        else
         if 0≤(af ((I.length:Int) - 1))∧(af ((I.length:Int) - 1))<(I.length:Int) then
          (I[(af ((I.length:Int) - 1)).toNat]?).bind fun aE=>
          some (I,aE.To)
         else none
   else none
 else
  some ([],a1.ah)
theorem BS (F:Nat) {h:AH} {Z:Zn} {a0:List ak} {a1:an} {v2} (hP:Pre Z h []) (J:RS (α:=ak) Z v2 a0) {r:(List aZ)×Int} (hm:nr F a0 a1=some r):
  bX Try.prog 70 [v2, .agg #[V a1.Kind,V a1.ah,V a1.To,V a1.aC]] h Z [] fun v Z' A'=>∃ v4 cF, .tuple #[v4,V r.2]=v∧A'=[.gs v4 cF (aa aZ)]∧RCs (α:=aZ) Z' cF r.1:=by
 refine cm Try.func70 hP ?_
 intro hs hS
 unfold nr at hm
 replace hS:St hs [] Z (0,0) Z hs []:=hS
 refine s0<|df 0 [V a1.Kind,V a1.ah,V a1.To,V a1.aC] hS ?_
 intro bO dX bP
 refine xn 2<|sq<|s0<|aA 1 0 (V a1.Kind) bP rfl<|cZ 0 hm ?_ ?_<;>intro dY hm
 refine xn 0<|dF<|sk<|s0<|aA 1 0 (V a1.ah) bP rfl<|xn 1<|sq ?_
 obtain ⟨cd,ad,hm⟩:=ai hm
 refine aH [0,3,6] (fun l h=>∃ cG bz bB bQ,(bz,bB)=cd∧l=[(0,v2),(3,Pt bQ 0),(6,V bB)]∧St hs [] Z (0,0) cG h [.ae bQ (cy bz)]) ?_ ?_
 rintro l ea ⟨cG,bz,bB,bQ,rfl,rfl,bC⟩
 try dsimp only at hm
 refine sp 2<|s0<|aA 2 0 (V bz.ah) bC rfl<|a6 0 hm (J.mono bC.ag) ?_
 intro eb hm
 refine bp 1 1 (fun cf=>V cf.ah) hm (J.mono bC.ag) bC ?_
 intro cf ec hm
 refine xn 1<|sp 1<|sq ?_
 obtain ⟨cg,I,hm⟩:=ai hm
 refine aH [0,3,6,7,8,9] (fun l h=>∃ ch bR bD bS bT bU bV bW bY,(bR,bD,bS,bT,bU)=cg∧RCs (α:=aZ) ch bY bU∧l=[(0,v2),(3,Pt bV 0),(6,V bD),(7,V bS),(8,V bT),(9,bW)]∧St hs [] Z (0,0) ch h [.ae bV (cy bR), .gs bW bY (aa aZ)]) ?_ ?_
 rintro l ed ⟨ch,bR,bD,bS,bT,bU,bV,bW,bY,rfl,c5,rfl,c7⟩
 try dsimp only at hm
 refine sp 2<|sq ?_
 obtain ⟨cj,ar,hm⟩:=ai hm
 refine aH [0,3,6,7,8,9,10] (fun l h=>∃ ck aI au aJ av bc bE bd bf bg,(aI,au,aJ,av,bc,bE)=cj∧RCs (α:=aZ) ck bg bc∧l=[(0,v2),(3,Pt bd 0),(6,V au),(7,V aJ),(8,V av),(9,bf),(10,V bE)]∧St hs [] Z (0,0) ck h [.ae bd (cy aI), .gs bf bg (aa aZ)]) ?_ ?_
 rintro l ee ⟨ck,aI,au,aJ,av,bc,bE,bd,bf,bg,rfl,cl,rfl,aL⟩
 try dsimp only at hm
 refine sq ?_
 obtain ⟨c8,al,hm⟩:=ai hm
 refine aH [0,3,6,7,8,9,10] (fun l h=>∃ cn bZ bj aw cp bl bm,(bZ,bj,aw)=c8∧RCs (α:=aZ) cn bm bj∧l=[(0,v2),(3,Pt cp 0),(6,V au),(7,V aJ),(8,V av),(9,bl),(10,V aw)]∧St hs [] Z (0,0) cn h [.ae cp (cy bZ), .gs bl bm (aa aZ)]) ?_ ?_
 rintro l eg ⟨cn,bZ,bj,aw,cp,bl,bm,rfl,cq,rfl,aS⟩
 try dsimp only at hm
 refine sq ?_
 obtain ⟨c9,aq,hm⟩:=ai hm
 refine aH [7,9] (fun l h=>∃ cr bn aj b0,bn=c9∧RCs (α:=aZ) cr b0 bn∧l=[(7,V aJ),(9,aj)]∧St hs [] Z (0,0) cr h [.gs aj b0 (aa aZ)]) ?_ ?_
 rintro l ei ⟨cr,bn,aj,b0,rfl,bo,rfl,ct⟩
 try dsimp only at hm
 refine sq<|s0<|bM 1 aj (ct.dV (i:=0) rfl bo)<|aD 0 hm ?_ ?_<;>intro ej hm
 refine xn 0<|dT<|sp 3<|rt<|⟨rfl,?_⟩
 have da:=ct.dE (aa aZ)
 obtain rfl:=si hm
 refine ⟨_,_,_,tk (.slice none 0 0) (tk (V aJ) (ResL.nil)),(da.takeN 1),?_⟩
 exact ⟨(.slice none 0 0),[],rfl,rfl,(RCs.bA _)⟩
 refine xn 0<|dF<|sk<|cT CM ct ?_
 intro dc ek dd bF
 refine yq 3 [(149,aj),(148,aj),(147,aj)]<|aF rfl trivial (gP rfl (bF.dV (i:=0) rfl bo) ⟨_,Try.underlying106⟩)<|yq 1 [(151,V (af ((bn.length:Int) - 1))),(148,aj),(147,aj)] ?_
 obtain ⟨cH,hm⟩:=aK hm
 refine aF rfl trivial (bG rfl rfl (by kernel_rfl:slTy _ _=some (aa aZ)) (bF.bL (j:=0) rfl bo (by omega)) cH.1 cH.2)<|yq 1 [(153, .pointer (some (bh aj (af ((bn.length:Int) - 1)) (aa aZ) 3))),(147,aj)] ?_
 obtain ⟨b1,cI,hm⟩:=ai hm
 obtain ⟨en,de,dh,eo⟩:=bF.cz (j:=0) rfl bo (i:=af ((bn.length:Int) - 1)) cI
 obtain rfl:=tM de
 have di:=dw cI
 have dj:=bF.bL (j:=0) rfl bo di
 have ep:(baseOf aj).block<dc:=dG (dd.1 _ (List.mem_of_getElem? (i:=0) rfl)) dj
 refine du rfl trivial rfl (by show (baseOf aj).block<_;omega) (aB (v:=V b1.To) trivial) (bK (w:=V b1.To) dh rfl (by kernel_rfl)) trivial<|ye 2 [(5,V b1.To),(4,aj)] ?_
 have dk:=bF.a5
 refine rt<|⟨rfl,?_⟩
 obtain rfl:=si hm
 refine ⟨_,_,_,tk aj (tk (V b1.To) (ResL.nil)),dk,?_⟩
 exact ⟨aj,b0,rfl,rfl,bo⟩
 refine sq ?_
 obtain ⟨dm,ax,aq⟩:=ai aq
 refine aH [0,6,7,8,9,10,128] (fun l h=>∃ b2 bH cu br b3,(bH,cu)=dm∧RCs (α:=aZ) b2 b3 bH∧l=[(0,v2),(6,V au),(7,V aJ),(8,V av),(9,br),(10,V aw),(128, .bool cu)]∧St hs [] Z (0,0) b2 h [.gs br b3 (aa aZ)]) ?_ ?_
 rintro l er ⟨b2,bH,cu,br,b3,rfl,cJ,rfl,bI⟩
 try dsimp only at aq
 refine db aq ?_ ?_<;>intro et aq
 refine rg zM<|a6 3 aq (J.mono bI.ag) ?_
 intro eu aq
 refine bp 1 1 (fun aE=>V aE.ah) aq (J.mono bI.ag) bI ?_
 intro aE ew aq
 refine xq 6 [(140, .agg #[.bool false,V (af (aE.ah - av)),V au,V (af (aw+1))]),(129,br),(7,V aJ),(9,br)] ?_
 have dn:RCs (α:=aZ) b2 [.bool false,V (af (aE.ah - av)),V au,V (af (aw+1))] [(⟨false,af (aE.ah - av),au,af (aw+1)⟩:aZ)]:=RCs.cons (cs:=[.bool false,V (af (aE.ah - av)),V au,V (af (aw+1))]) rfl (RCs.bA _)
 refine eh rfl trivial (c6 (cells:=[.bool false,V (af (aE.ah - av)),V au,V (af (aw+1))]) (s:=4) (by kernel_rfl)) (by kernel_rfl) bI ?_
 intro ey ez cK
 obtain ⟨eA,aq⟩:=aK aq
 refine gd rfl trivial (dZ (ys:=[(⟨false,af (aE.ah - av),au,af (aw+1)⟩:aZ)]) (b4:=32) cK (i:=1) rfl cJ ((cK).eK (j:=0) rfl dn) rfl rfl (by kernel_rfl) (by omega) (by omega)) ?_
 rintro dp dq eB ⟨dr,ds⟩
 refine xn 1 ?_
 obtain rfl:=si aq
 exact ⟨_,bH++[(⟨false,af (aE.ah - av),au,af (aw+1)⟩:aZ)],dp,dq,rfl,dr,(by kernel_rfl),((ds.front 1 rfl).takeN 1)⟩
 refine sk ?_
 obtain rfl:=si aq
 exact ⟨_,bH,br,b3,rfl,cJ,(by kernel_rfl),bI⟩
 refine g0<|aA 2 0 (V bZ.To) aS rfl<|aO 0 ax ?_ ?_<;>intro eC ax
 refine a6 3 ax (J.mono aS.ag) ?_
 intro eD ax
 refine bp 1 0 (fun cL=>V cL.Kind) ax (J.mono aS.ag) aS ?_
 intro cL eE ax
 refine aD 0 ax ?_ ?_<;>intro eF ax
 refine xn 1 ?_
 obtain rfl:=si ax
 exact ⟨_,bj,true,bl,bm,rfl,cq,(by kernel_rfl),((aS.front 1 rfl).takeN 1)⟩
 refine xn 1 ?_
 obtain rfl:=si ax
 exact ⟨_,bj,false,bl,bm,rfl,cq,(by kernel_rfl),((aS.front 1 rfl).takeN 1)⟩
 refine xn 8 ?_
 obtain rfl:=si ax
 exact ⟨_,bj,false,bl,bm,rfl,cq,(by kernel_rfl),((aS.front 1 rfl).takeN 1)⟩
 refine s0<|aA 2 0 (V aI.To) aL rfl<|aO 0 al ?_ ?_<;>intro eG al
 refine a6 3 al (J.mono aL.ag) ?_
 intro eH al
 refine bp 1 0 (fun cM=>V cM.Kind) al (J.mono aL.ag) aL ?_
 intro cM eI al
 obtain ⟨eJ,dt,al⟩:=ai al
 refine cP 0 aL (pe F aL.inv dt) ?_
 rintro _ eL b5 rfl
 refine xn 1<|db al ?_ ?_<;>intro eM al
 refine g0<|aA 4 0 (V aI.To) b5 rfl ?_
 obtain ⟨dx,dy,al⟩:=ai al
 refine cP 0 b5 (pG F b5.inv (J.mono aL.ag) dy) ?_
 rintro _ eN dz rfl
 refine xn 1 ?_
 obtain rfl:=si al
 exact ⟨_,aI,bc,dx,bd,bf,bg,rfl,cl,(by kernel_rfl),dz⟩
 refine sk ?_
 obtain rfl:=si al
 exact ⟨_,aI,bc,bE,bd,bf,bg,rfl,cl,(by kernel_rfl),b5⟩
 refine xn 8<|dF<|sk ?_
 obtain rfl:=si al
 exact ⟨_,aI,bc,bE,bd,bf,bg,rfl,cl,(by kernel_rfl),aL⟩
 refine bk 4<|lp [0,3,6,7,8,9,10] (fun n l h=>∃ cv aM aT aW aX aY bt a2 a3 a4,correctorref9_Entries_l2 F a0 a1 n aM aT aW aX aY bt=some cj∧RCs (α:=aZ) cv a4 aY∧l=[(0,v2),(3,Pt a2 0),(6,V aT),(7,V aW),(8,V aX),(9,a3),(10,V bt)]∧St hs [] Z (0,0) cv h [.ae a2 (cy aM), .gs a3 a4 (aa aZ)]) F ⟨_,bR,bD,bS,bT,bU,bD,bV,bW,bY,ar,c5,(by kernel_rfl),c7⟩ ?_
 rintro cx l eO ⟨cv,aM,aT,aW,aX,aY,bt,a2,a3,a4,ar,b6,rfl,ay⟩
 rcases cx with _ | cx
 cases (show none=some cj from ar)
 rw [correctorref9_Entries_l2] at ar
 refine sq ?_
 obtain ⟨dA,ab,ar⟩:=ai ar
 refine aH [0,3,6,7,8,9,10] (fun l h=>∃ cA bJ b7 b8 b9 ca, .inl (bJ,b7)=dA∧RCs (α:=aZ) cA ca b7∧l=[(0,v2),(3,Pt b8 0),(6,V aT),(7,V aW),(8,V aX),(9,b9),(10,V bt)]∧St hs [] Z (0,0) cA h [.ae b8 (cy bJ), .gs b9 ca (aa aZ)]) ?_ ?_
 rintro l eP ⟨cA,bJ,b7,b8,b9,ca,rfl,dB,rfl,cb⟩
 try dsimp only at ar
 refine bk 5<|g0<|aA 4 0 (V bJ.To) cb rfl ?_
 obtain ⟨dC,dD,ar⟩:=ai ar
 refine cP 0 cb (pG F cb.inv (J.mono cb.ag) dD) ?_
 rintro _ eQ dH rfl
 refine xn 1 ?_
 exact ⟨cx,Nat.lt_succ_self _,⟨_,bJ,aT,aW,aX,b7,dC,b8,b9,ca,ar,dB,(by kernel_rfl),dH⟩⟩
 refine s0<|aA 2 0 (V aM.To) ay rfl<|aO 0 ab ?_ ?_<;>intro eR ab
 refine a6 3 ab (J.mono ay.ag) ?_
 intro eS ab
 refine bp 1 0 (fun cN=>V cN.Kind) ab (J.mono ay.ag) ay ?_
 intro cN eT ab
 refine aD 0 ab ?_ ?_<;>intro eU ab
 refine xn 9<|dT<|sk ?_
 obtain rfl:=si ab
 exact ⟨_,aM,aY,a2,a3,a4,rfl,b6,(by kernel_rfl),ay⟩
 refine a6 3 ab (J.mono ay.ag) ?_
 intro eV ab
 refine bp 1 0 (fun cR=>V cR.Kind) ab (J.mono ay.ag) ay ?_
 intro cR eW ab
 refine aD 0 ab ?_ ?_<;>intro eX ab
 refine xn 2<|dT<|sk ?_
 obtain rfl:=si ab
 exact ⟨_,aM,aY,a2,a3,a4,rfl,b6,(by kernel_rfl),ay⟩
 refine xn 2<|dF<|xt 4<|aN ?_
 obtain rfl:=si ab
 obtain rfl:=si ar
 exact ⟨_,aM,aT,aW,aX,aY,bt,a2,a3,a4,rfl,b6,(by kernel_rfl),ay⟩
 refine xn 16<|dF<|xt 4<|aN ?_
 obtain rfl:=si ab
 obtain rfl:=si ar
 exact ⟨_,aM,aT,aW,aX,aY,bt,a2,a3,a4,rfl,b6,(by kernel_rfl),ay⟩
 refine bk 2 ?_
 have dI:=bC.dE (aa aZ)
 refine lp [0,3,6,7,8,9] (fun n l h=>∃ cc aR U a7 ao bu a8 a9 bN,correctorref9_Entries_l1 F a0 a1 n aR U a7 ao bu=some cg∧RCs (α:=aZ) cc bN bu∧l=[(0,v2),(3,Pt a8 0),(6,V U),(7,V a7),(8,V ao),(9,a9)]∧St hs [] Z (0,0) cc h [.ae a8 (cy aR), .gs a9 bN (aa aZ)]) F ⟨_,bz,bB,bB,cf.ah,[],bQ,(.slice none 0 0),[],I,(RCs.bA _),(by kernel_rfl),((dI.front 0 rfl).front 1 rfl)⟩ ?_
 rintro cB l eY ⟨cc,aR,U,a7,ao,bu,a8,a9,bN,I,cC,rfl,az⟩
 rcases cB with _ | cB
 cases (show none=some cg from I)
 rw [correctorref9_Entries_l1] at I
 refine sq<|s0<|aA 2 0 (V aR.To) az rfl<|aO 0 I ?_ ?_<;>intro eZ I
 refine a6 3 I (J.mono az.ag) ?_
 intro e0 I
 refine bp 1 0 (fun cS=>V cS.Kind) I (J.mono az.ag) az ?_
 intro cS e2 I
 refine aD 0 I ?_ ?_<;>intro e3 I
 refine xn 1<|dT<|sk<|bk 3<|sr D5<|a6 3 I (J.mono az.ag) ?_
 intro e4 I
 refine bp 1 1 (fun aG=>V aG.ah) I (J.mono az.ag) az ?_
 intro aG e5 I
 refine xq 6 [(63, .agg #[.bool true,V (af (aG.ah - ao)),V U,V (af (U+1))]),(52,a9),(0,v2),(3,Pt a8 0),(6,V U),(7,V a7),(8,V ao),(9,a9)] ?_
 have dJ:RCs (α:=aZ) cc [.bool true,V (af (aG.ah - ao)),V U,V (af (U+1))] [(⟨true,af (aG.ah - ao),U,af (U+1)⟩:aZ)]:=RCs.cons (cs:=[.bool true,V (af (aG.ah - ao)),V U,V (af (U+1))]) rfl (RCs.bA _)
 refine eh rfl trivial (c6 (cells:=[.bool true,V (af (aG.ah - ao)),V U,V (af (U+1))]) (s:=4) (by kernel_rfl)) (by kernel_rfl) az ?_
 intro e6 e7 cU
 obtain ⟨e8,I⟩:=aK I
 refine gd rfl trivial (dZ (ys:=[(⟨true,af (aG.ah - ao),U,af (U+1)⟩:aZ)]) (b4:=32) cU (i:=2) rfl cC ((cU).eK (j:=0) rfl dJ) rfl rfl (by kernel_rfl) (by omega) (by omega)) ?_
 rintro dK dL e9 ⟨dM,cD⟩
 refine xn 1<|g0<|aA 4 1 (V aR.To) cD rfl ?_
 obtain ⟨dN,dO,I⟩:=ai I
 refine cP 0 cD (pG F cD.inv (J.mono az.ag) dO) ?_
 rintro _ fa dP rfl
 refine xn 1 ?_
 exact ⟨cB,Nat.lt_succ_self _,⟨_,aR,dN,a7,ao,bu++[(⟨true,af (aG.ah - ao),U,af (U+1)⟩:aZ)],a8,dK,dL,I,dM,(by kernel_rfl),(((dP.front 2 rfl).front 2 rfl).takeN 2)⟩⟩
 refine xn 1<|dF<|xt 2<|aN ?_
 obtain rfl:=si I
 exact ⟨_,aR,U,a7,ao,bu,a8,a9,bN,rfl,cC,(by kernel_rfl),az⟩
 refine xn 8<|dF<|xt 2<|aN ?_
 obtain rfl:=si I
 exact ⟨_,aR,U,a7,ao,bu,a8,a9,bN,rfl,cC,(by kernel_rfl),az⟩
 refine bk 0<|lp [0,3,6] (fun n l h=>∃ cV ba bw bx,correctorref9_Entries_l0 F a0 a1 n ba bw=some cd∧l=[(0,v2),(3,Pt bx 0),(6,V bw)]∧St hs [] Z (0,0) cV h [.ae bx (cy ba)]) F ⟨_,a1,a1.ah,bO,ad,(by kernel_rfl),bP⟩ ?_
 rintro cE l fb ⟨cV,ba,bw,bx,ad,rfl,bb⟩
 rcases cE with _ | cE
 cases (show none=some cd from ad)
 rw [correctorref9_Entries_l0] at ad
 refine sq<|s0<|aA 2 0 (V ba.To) bb rfl<|aO 0 ad ?_ ?_<;>intro fc ad
 refine a6 3 ad (J.mono bb.ag) ?_
 intro fe ad
 refine bp 1 0 (fun cW=>V cW.Kind) ad (J.mono bb.ag) bb ?_
 intro cW ff ad
 obtain ⟨fg,dQ,ad⟩:=ai ad
 refine cP 0 bb (iS F bb.inv dQ) ?_
 rintro _ fh c0 rfl
 refine kb 0 28 ad ?_ ?_<;>intro fi ad
 refine xn 2<|dF<|xt 0<|aN ?_
 obtain rfl:=si ad
 exact ⟨_,ba,bw,bx,rfl,(by kernel_rfl),c0⟩
 refine xn 2<|dT<|sk<|bk 1<|gp 3 ?_
 exact ⟨cE,Nat.lt_succ_self _,⟨_,ba,af (bw+1),bx,ad,(by kernel_rfl),c0⟩⟩
 refine xn 9<|dF<|xt 0<|aN ?_
 obtain rfl:=si ad
 exact ⟨_,ba,bw,bx,rfl,(by kernel_rfl),bb⟩
 refine xn 0<|dT<|cT yM bP ?_
 intro dR fj dS c3
 refine yq 1 [(14,Pt bO 1)] ?_
 have fk:bO<dR:=dS.1 _ (List.mem_of_getElem? (i:=0) rfl) _ (by simp [Itm.ids])
 refine aU (v:=V a1.ah) rfl trivial rfl (by show bO<_;omega) (aB (v:=V a1.ah) trivial) (c3.aP (i:=0) rfl (by kernel_rfl)) trivial<|ye 2 [(5,V a1.ah),(4, .slice none 0 0)] ?_
 have dU:=c3.a5
 refine rt<|⟨rfl,?_⟩
 have dW:=dU.dE (aa aZ)
 obtain rfl:=si hm
 refine ⟨_,_,_,tk (.slice none 0 0) (tk (V a1.ah) (ResL.nil)),(dW.takeN 1),?_⟩
 exact ⟨(.slice none 0 0),[],rfl,rfl,(RCs.bA _)⟩
end Go.Proofs.Ytcilejikekccmaa.M
namespace Go.Proofs.Ytcilejikekccmaa.M
open Go Am Sy
open Sy.Cell (rc)
structure aq where
 Kind:Int
 ah:Int
 To:Int
 Up:Int
 Kids:List Int
 Key:Bool
 deriving DecidableEq,Inhabited
instance:Cell aq where
 size:=6
 rc Z cs x:=∃ v4,RS (α:=Int) Z v4 x.Kids∧cs=[V x.Kind,V x.ah,V x.To,V x.Up,v4, .bool x.Key]
 len h:=by obtain ⟨v4,j,h⟩:=h;rw [h];rfl
 mono hz h:=by obtain ⟨v4,j,h⟩:=h;exact ⟨v4,j.mono hz,h⟩
 one h:=by obtain ⟨v4,j,h⟩:=h;subst h;exact (a8 rfl (a8 rfl (a8 rfl (a8 rfl (a8 j.cW (a8 rfl cc))))))
 pos:=by decide
instance:cQ aq Int where
 row x:=x.Kids
 dJ v cs x:=cs=[V x.Kind,V x.ah,V x.To,V x.Up,v, .bool x.Key]
 ox h hd:=⟨_,h,hd⟩
 kQ h:=by rw [h];rfl
 done hv h:=by subst h;exact (a8 rfl (a8 rfl (a8 rfl (a8 rfl (a8 hv (a8 rfl cc))))))
 inj h k:=by rw [h] at k;simpa using k
 fn h k:=h.trans k.symm
theorem pj {v:Value} {cs:List Value} {x:aq} (h:cQ.dJ v cs x):cs=[V x.Kind,V x.ah,V x.To,V x.Up,v, .bool x.Key]:=h
theorem fz {Z:Zn} {cs:List Value} {x:aq} (h:rc Z cs x):∃ v4,RS (α:=Int) Z v4 x.Kids∧cs=[V x.Kind,V x.ah,V x.To,V x.Up,v4, .bool x.Key]:=h
abbrev fU (v0:Value) (x:aq):List Value:=[V x.Kind,V x.ah,V x.To,V x.Up,v0, .bool x.Key]
structure cM where
 al:List aq
 deriving DecidableEq,Inhabited
instance:Cell cM where
 size:=1
 rc Z cs x:=∃ v0,RS (α:=aq) Z v0 x.al∧cs=[v0]
 len h:=by obtain ⟨v0,j,h⟩:=h;rw [h];rfl
 mono hz h:=by obtain ⟨v0,j,h⟩:=h;exact ⟨v0,j.mono hz,h⟩
 one h:=by obtain ⟨v0,j,h⟩:=h;subst h;exact (a8 j.cW cc)
 pos:=by decide
instance:cQ cM aq where
 row x:=x.al
 dJ v cs x:=cs=[v]
 ox h hd:=⟨_,h,hd⟩
 kQ h:=by rw [h];rfl
 done hv h:=by subst h;exact (a8 hv cc)
 inj h k:=by rw [h] at k;simpa using k
 fn h k:=h.trans k.symm
def Du:List aV:=[u 9 (mv 0),u 10 (.build 37 #[(0,(ci 1)),(2,(t 9)),(3,(ci (-1)))]),u 11 (.buildSlice 25 1 #[(0,(t 10))]),u 12 (.build 27 #[(0,(t 11))]),o (.store 27 (t 2) (t 12))]
def nj (F:Nat) (a0:Int):Option cM:=
 ((if a0<(0:Int) then
   some 0
  else
   if (32768:Int)<a0 then
    some 0
   else
    some a0):Option Int).bind fun o=>match o with
  | j=>some (⟨[(⟨1,0,j,(-1),[],false⟩:aq)]⟩:cM)
theorem Be (F:Nat) {h:AH} {Z:Zn} {a0:Int} (hP:Pre Z h []) {r:cM} (hm:nj F a0=some r):
  bX Try.prog 21 [V a0] h Z [] fun v Z' A'=>∃ v2 ah, .agg #[v2]=v∧A'=[.gs v2 ah (aa aq)]∧RCs (α:=aq) Z' ah r.al:=by
 refine cm Try.func21 hP ?_
 intro hs hS
 unfold nj at hm
 replace hS:St hs [] Z (0,0) Z hs []:=hS
 refine s0<|df 0 [.slice none 0 0] hS ?_
 intro ab au ad
 refine xn 0<|sq ?_
 obtain ⟨an,I,hm⟩:=ai hm
 refine ec [0,2] (fun l h=>∃ af j U,j=an∧l=[(0,V j),(2,Pt U 0)]∧St hs [] Z (0,0) af h [.ae U [.slice none 0 0]]) (by kernel_rfl) ?_ ?_
 rintro l av ⟨af,j,U,rfl,rfl,ao⟩
 try dsimp only at hm
 refine sr Du<|xq 2 [(10, .agg #[V 1,V 0,V j,V (-1), .slice none 0 0, .bool false]),(2,Pt U 0)] ?_
 have ar:RCs (α:=aq) af [V 1,V 0,V j,V (-1), .slice none 0 0, .bool false] [(⟨1,0,j,(-1),[],false⟩:aq)]:=RCs.cons (cs:=[V 1,V 0,V j,V (-1), .slice none 0 0, .bool false]) ⟨_,(RS.bA _),rfl⟩ (RCs.bA _)
 refine eh rfl trivial (c6 (cells:=[V 1,V 0,V j,V (-1), .slice none 0 0, .bool false]) (s:=6) (by kernel_rfl)) (by kernel_rfl) ao ?_
 intro J aw ag
 refine bN rfl trivial (jm (v:= .agg #[J]) rfl (CA.cons (cs:=[J]) (ag.gb (i:=0) rfl) (CA.bA)) (by kernel_rfl))<|bB 0 1 (.agg #[J]) [J] [J] ag rfl rfl (a8 (ag.fV (i:=0) rfl) cc) ?_
 intro ax aj
 refine xn 0<|rt<|⟨rfl,?_⟩
 obtain rfl:=si hm
 refine ⟨_,_,_,ResL.cell (v:= .agg #[J]) (by kernel_rfl) aj (i:=1) rfl (by kernel_rfl) (ResL.nil),(aj.takeN 1),?_⟩
 exact ⟨J,[V 1,V 0,V j,V (-1), .slice none 0 0, .bool false],rfl,rfl,ar⟩
 refine g0<|aO 1 I ?_ ?_<;>intro ay I
 refine xn 4<|dT<|gp 1 ?_
 obtain rfl:=si I
 exact ⟨_,0,ab,rfl,(by kernel_rfl),ad⟩
 refine cC 2 I ?_ ?_<;>intro az I
 refine xn 1<|dT<|gp 1 ?_
 obtain rfl:=si I
 exact ⟨_,0,ab,rfl,(by kernel_rfl),ad⟩
 refine xn 1<|dF<|sk ?_
 obtain rfl:=si I
 exact ⟨_,a0,ab,rfl,(by kernel_rfl),ad⟩
def AZ:List aV:=[u 1 (.box 27 (t 0)),u 2 (.assign (.const (.slice none 0 0)))]
def x5:List aV:=[u 18 (.buildSlice 23 0 #[]),u 19 (fa 37 5 4),u 20 (ld 23 19),u 21 (cb .append #[(t 18),(t 20)] #[23,23]),u 22 (fa 37 5 4),o (.store 23 (t 22) (t 21))]
def za:List aV:=[u 23 (mv 3),u 24 (ld 37 5),u 25 (.buildSlice 25 1 #[(0,(t 24))]),u 26 (cb .append #[(t 23),(t 25)] #[25,25]),u 3 (sg 26)]
def correctorref10_copied_l0 (F:Nat) (a0:cM):Nat→(List aq)→Int→Option (List aq)
 | 0,_,_=>none
 | n+1,J,I=>
  if I<(a0.al.length:Int) then
   if 0≤I∧I<(a0.al.length:Int) then
    (a0.al[I.toNat]?).bind fun j=>
    if ([]:List Int).length+j.Kids.length≤17592186044416 then
     if J.length+[(⟨j.Kind,j.ah,j.To,j.Up,([]:List Int)++j.Kids,j.Key⟩:aq)].length≤2199023255552 then
      correctorref10_copied_l0 F a0 n (J++[(⟨j.Kind,j.ah,j.To,j.Up,([]:List Int)++j.Kids,j.Key⟩:aq)]) (af (I+1))
     else none
    else none
   else none
  else
   some J
def k7 (F:Nat) (a0:cM):Option (List aq):=
 ((correctorref10_copied_l0 F a0 F [] 0):Option (List aq)).bind fun o=>match o with
  | j=>some j
theorem tm (F:Nat) {h:AH} {Z:Zn} {a0:cM} {v2} (hP:Pre Z h []) (aC:RS (α:=aq) Z v2 a0.al) {r:(List aq)} (hm:k7 F a0=some r):
  bX Try.prog 82 [.agg #[v2]] h Z [] fun v Z' A'=>∃ v4 aP aR,v4=v∧A'=[.gs v4 aP (aa aq), .bE aR]∧RD (α:=aq) Z' aP r aR:=by
 refine cm Try.func82 hP ?_
 intro hs hS
 unfold k7 at hm
 replace hS:St hs [] Z (0,0) Z hs []:=hS
 refine sr AZ<|gS rfl trivial (gl (cs:=[v2]) rfl rfl) hS ?_
 intro aW bu aX
 refine xn 1<|sp 1<|sq<|sp 1 ?_
 obtain ⟨aD,I,hm⟩:=ai hm
 refine aH [3] (fun l h=>∃ aE aF au ay az,aF=aD∧RD (α:=aq) aE ay aF az∧l=[(3,au)]∧St hs [] Z (0,0) aE h [.gs au ay (aa aq), .bE az]) ?_ ?_
 rintro l bw ⟨aE,aF,au,ay,az,rfl,aY,rfl,aZ⟩
 try dsimp only at hm
 refine sp 2<|rt<|⟨rfl,?_⟩
 obtain rfl:=si hm
 refine ⟨_,_,_,tk au (ResL.nil),aZ,?_⟩
 exact ⟨au,ay,az,rfl,rfl,aY⟩
 refine bk 0 ?_
 have a1:=aX.wY (aa aq)
 refine lp [1,3,4] (fun n l h=>∃ av aw ad ab J ao an,correctorref10_copied_l0 F a0 n aw ad=some aD∧RD (α:=aq) av ao aw an∧l=[(1,Pt ab 0),(3,J),(4,V ad)]∧St hs [] Z (0,0) av h [.ae ab [v2], .gs J ao (aa aq), .bE an]) F ⟨_,[],0,aW,(.slice none 0 0),[],[],I,RD.nil,(by kernel_rfl),(((a1.front 1 rfl).front 1 rfl).front 2 rfl)⟩ ?_
 rintro aG l bx ⟨av,aw,ad,ab,J,ao,an,I,aS,rfl,aj⟩
 rcases aG with _ | aG
 cases (show none=some aD from I)
 rw [correctorref10_copied_l0] at I
 refine sq<|s0<|aA 2 0 v2 aj rfl<|bM 0 v2 (RS.len (aC.mono aj.ag))<|aO 0 I ?_ ?_<;>intro bz I
 refine xn 0<|dT<|sk<|sq<|bk 1<|s0<|aA 1 0 v2 aj rfl<|a6 1 I (aC.mono aj.ag) ?_
 intro bC I
 obtain ⟨j,a2,I⟩:=ai I
 obtain ⟨bD,a3,a4⟩:=RS.cp (aC.mono aj.ag) (i:=ad) a2
 obtain ⟨ax,aT,rfl⟩:=fz a3
 refine fX 0 0 (.agg #[V j.Kind,V j.ah,V j.To,V j.Up,ax, .bool j.Key]) (a4 _ (aj.bV (aM.refl _)))<|df 0 [V 0,V 0,V 0,V 0, .slice none 0 0, .bool false] aj ?_
 intro ar bF a5
 refine bB 0 0 (.agg #[V j.Kind,V j.ah,V j.To,V j.Up,ax, .bool j.Key]) [V j.Kind,V j.ah,V j.To,V j.Up,ax, .bool j.Key] (fU ax j) a5 rfl rfl (a8 rfl (a8 rfl (a8 rfl (a8 rfl (a8 (RS.cW aT) (a8 rfl cc)))))) ?_
 intro bG a7
 refine xf [(5,Pt ar 0),(1,Pt ab 0),(3,J),(4,V ad)]<|sr x5 ?_
 have a9:RCs (α:=Int) av [] []:=RCs.bA _
 refine eh rfl trivial (c6 (cells:=[]) (s:=1) (by kernel_rfl)) (by kernel_rfl) a7 ?_
 intro ba bH aI
 refine xq 1 [(19,Pt ar 4),(18,ba),(5,Pt ar 0),(1,Pt ab 0),(3,J),(4,V ad)]<|aA 0 1 ax aI rfl ?_
 obtain ⟨bI,bb⟩:=RS.news aT (aI).inv
 obtain ⟨bJ,I⟩:=aK I
 refine gd rfl trivial (dZ (ys:=j.Kids) (b4:=8) aI (i:=0) rfl a9 bb rfl rfl (by kernel_rfl) (by omega) (by omega)) ?_
 rintro U bK bL ⟨bc,aJ⟩
 refine bB 1 1 U [U] (fU U j) aJ rfl (aJ.gb (i:=0) rfl) (a8 (aJ.fV (i:=0) rfl) cc) ?_
 intro bN aL
 refine xn 0<|rg za<|xq 1 [(23,J),(5,Pt ar 0),(1,Pt ab 0),(3,J),(4,V ad)]<|aA 0 1 (.agg #[V j.Kind,V j.ah,V j.To,V j.Up,U, .bool j.Key]) aL rfl ?_
 have bd:=aL.fV (i:=0) rfl
 refine eh rfl trivial (c6 (cells:=[V j.Kind,V j.ah,V j.To,V j.Up,U, .bool j.Key]) (s:=6) (by kernel_rfl)) (by kernel_rfl) aL ?_
 intro aU bO bf
 obtain ⟨aB,bg,bh⟩:=(bf.front 1 rfl).sn bc
 have bj:=bh.front 1 rfl
 have bl:RD (α:=aq) av [V j.Kind,V j.ah,V j.To,V j.Up,U, .bool j.Key] [(⟨j.Kind,j.ah,j.To,j.Up,([]:List Int)++j.Kids,j.Key⟩:aq)] aB:=RD.one (show cQ.dJ _ _ _ from rfl) bd bg
 have bm:St _ _ _ _ _ _ [.gs aU [V j.Kind,V j.ah,V j.To,V j.Up,U, .bool j.Key] (aa aq), .bE aB, .ae ar (fU U j), .ae ab [v2], .gs J ao (aa aq), .bE an]:=bj
 obtain ⟨bP,I⟩:=aK I
 have bn:St _ _ _ _ _ _ [.gs J ao (aa aq), .bE an, .gs aU [V j.Kind,V j.ah,V j.To,V j.Up,U, .bool j.Key] (aa aq), .bE aB, .ae ar (fU U j), .ae ab [v2]]:=((((bm.front 1 rfl).front 1 rfl).front 5 rfl).front 5 rfl)
 refine gd rfl trivial (sS (b4:=64) bn aS bl rfl rfl (by kernel_rfl) (by omega) (by omega)) ?_
 rintro bo bp bQ ⟨br,bt⟩
 refine xn 1<|gp 3 ?_
 exact ⟨aG,Nat.lt_succ_self _,⟨_,aw++[(⟨j.Kind,j.ah,j.To,j.Up,([]:List Int)++j.Kids,j.Key⟩:aq)],af (ad+1),ab,bo,bp,an++aB,I,br,(by kernel_rfl),((((bt.front 1 rfl).front 1 rfl).front 3 rfl).takeN 3)⟩⟩
 refine xn 0<|dF<|xt 0<|aN ?_
 obtain rfl:=si I
 exact ⟨_,aw,J,ao,an,rfl,aS,(by kernel_rfl),(((aj.front 2 rfl).front 2 rfl).takeN 2)⟩
def A5:List aV:=[u 10 (mv 0),u 11 (mv 6),u 12 (ia 25 10 11),u 13 (fa 37 12 3),u 14 (ld 3 13),u 6 (sg 14)]
def Aj:List aV:=[u 15 (mv 0),u 16 (mv 6),u 17 (mv 0),u 18 (mv 6),u 19 (ia 25 17 18),u 20 (fa 37 19 2),u 21 (ld 3 20),u 22 (mv 2),u 23 (cb .max #[(t 21),(t 22)] #[3,3]),u 24 (ia 25 15 16),u 25 (fa 37 24 2),o (.store 3 (t 25) (t 23))]
def kZ (F:Nat) (a0:List aq) (a1:Int) (U:Int):Nat→(List aq)→Int→Option (List aq)
 | 0,_,_=>none
 | n+1,J,I=>
  if (0:Int)≤I then
   if 0≤I∧I<(J.length:Int) then
    (J[I.toNat]?).bind fun aa=>
    if 0≤I∧I<(J.length:Int) then
     (J[I.toNat]?).bind fun j=>
     if 0≤I∧I<((J.set I.toNat (⟨j.Kind,j.ah,imax aa.To U,j.Up,j.Kids,j.Key⟩:aq)).length:Int) then
      ((J.set I.toNat (⟨j.Kind,j.ah,imax aa.To U,j.Up,j.Kids,j.Key⟩:aq))[I.toNat]?).bind fun ab=>
      kZ F a0 a1 U n (J.set I.toNat (⟨j.Kind,j.ah,imax aa.To U,j.Up,j.Kids,j.Key⟩:aq)) ab.Up
     else none
    else none
   else none
  else
   some J
def lh (F:Nat) (a0:List aq) (a1:Int) (j:Int):Option (List aq):=
 ((kZ F a0 a1 j F a0 a1):Option (List aq)).bind fun o=>match o with
  | I=>some I
theorem sG (F:Nat) {h:AH} {Z:Zn} {a0:List aq} {a1:Int} {U:Int} {v2 ae af} (hP:Pre Z h [.gs v2 ae (aa aq), .bE af]) (aL:RD (α:=aq) Z ae a0 af) {r:(List aq)} (hm:lh F a0 a1 U=some r):
  bX Try.prog 83 [v2,V a1,V U] h Z [.gs v2 ae (aa aq), .bE af] fun v Z' A'=>∃ aC aD, .tuple #[]=v∧A'=[.gs v2 aC (aa aq), .bE aD]∧RD (α:=aq) Z' aC r aD:=by
 refine cm Try.func83 hP ?_
 intro hs hS
 unfold lh at hm
 refine sp 2 ?_
 obtain ⟨av,I,hm⟩:=ai hm
 refine aH [] (fun l h=>∃ aw ax ao ar,ax=av∧RD (α:=aq) aw ao ax ar∧l=[]∧St hs (aR [.gs v2 ae (aa aq), .bE af]) Z (0,0) aw h [.gs v2 ao (aa aq), .bE ar]) ?_ ?_
 rintro l a5 ⟨aw,ax,ao,ar,rfl,aM,rfl,aO⟩
 try dsimp only at hm
 obtain rfl:=si hm
 refine ⟨_,_,_,ResL.nil,aO,?_⟩
 exact ⟨ao,ar,rfl,rfl,aM⟩
 refine bk 0<|lp [0,2,6] (fun n l h=>∃ ay al J au an,kZ F a0 a1 U n al J=some av∧RD (α:=aq) ay au al an∧l=[(0,v2),(2,V U),(6,V J)]∧St hs (aR [.gs v2 ae (aa aq), .bE af]) Z (0,0) ay h [.gs v2 au (aa aq), .bE an]) F ⟨_,a0,a1,ae,af,I,aL,(by kernel_rfl),hS⟩ ?_
 rintro az l a6 ⟨ay,al,J,au,an,I,ag,rfl,aj⟩
 rcases az with _ | az
 cases (show none=some av from I)
 rw [kZ] at I
 refine sq<|s0<|cv 1 I ?_ ?_<;>intro a7 I
 refine xn 0<|dT<|sk<|sq<|bk 1<|rg Aj<|xq 4 [(18,V J),(17,v2),(16,V J),(15,v2),(0,v2),(2,V U),(6,V J)] ?_
 obtain ⟨aE,I⟩:=aK I
 refine bN rfl trivial (bG rfl rfl (by kernel_rfl:slTy _ _=some (aa aq)) (aj.m3 (i:=0) rfl (ag).raw (by omega)) aE.1 aE.2) ?_
 obtain ⟨ad,aP,I⟩:=ai I
 obtain ⟨a8,a9,aS,ba,aT,bb⟩:=aj.del (j:=0) rfl (ag).raw (i:=J) aP
 obtain rfl:=pj aS
 refine fX 1 2 (V ad.To) aT<|xq 2 [(23,V (imax ad.To U)),(16,V J),(15,v2),(0,v2),(2,V U),(6,V J)] ?_
 obtain ⟨aF,I⟩:=aK I
 refine bN rfl trivial (bG rfl rfl (by kernel_rfl:slTy _ _=some (aa aq)) (aj.m3 (i:=0) rfl (ag).raw (by omega)) aF.1 aF.2)<|xq 1 [(25, .pointer (some (bh v2 J (aa aq) 2))),(23,V (imax ad.To U)),(0,v2),(2,V U),(6,V J)] ?_
 obtain ⟨ab,aG,I⟩:=ai I
 obtain ⟨aU,bc,aW,bd,bf,aX⟩:=aj.del (j:=0) rfl (ag).raw (i:=J) aG
 obtain rfl:=pj aW
 refine mz rfl trivial (Ei (z':=(⟨ab.Kind,ab.ah,imax ad.To U,ab.Up,ab.Kids,ab.Key⟩:aq)) (vs:=[V (imax ad.To U)]) (a2:=[V ab.Kind,V ab.ah,V (imax ad.To U),V ab.Up,aU, .bool ab.Key]) aj (m:=0) rfl ag aG aX rfl rfl rfl (by kernel_rfl) rfl rfl rfl (show cQ.dJ _ _ _ from rfl) (show cQ.dJ _ _ _ from rfl) rfl) ?_
 rintro bg aY ⟨aA,aB⟩
 refine xn 0<|rg A5<|xq 2 [(11,V J),(10,v2),(0,v2),(2,V U),(6,V J)] ?_
 obtain ⟨aI,I⟩:=aK I
 refine bN rfl trivial (bG rfl rfl (by kernel_rfl:slTy _ _=some (aa aq)) (aB.m3 (i:=0) rfl (aA).raw (by omega)) aI.1 aI.2) ?_
 obtain ⟨aJ,aZ,I⟩:=ai I
 obtain ⟨bj,bl,a3,bm,a4,bn⟩:=aB.del (j:=0) rfl (aA).raw (i:=J) aZ
 obtain rfl:=pj a3
 refine fX 1 3 (V aJ.Up) a4<|xn 1 ?_
 exact ⟨az,Nat.lt_succ_self _,⟨_,al.set J.toNat (⟨ab.Kind,ab.ah,imax ad.To U,ab.Up,ab.Kids,ab.Key⟩:aq),aJ.Up,aY,an,I,aA,(by kernel_rfl),aB⟩⟩
 refine xn 0<|dF<|xt 0<|aN ?_
 obtain rfl:=si I
 exact ⟨_,al,au,an,rfl,ag,(by kernel_rfl),aj⟩
def Ck:List aV:=[u 5 (.box 27 (t 0)),u 10 (.alloc 27),u 11 (.assign (ci 0))]
def Cj:List bq:=[uP 52 (mv 3),uP 53 (fa 37 12 1),uL 54 (ld 3 53),uP 55 (bo .lss 3 52 54 3),uP 56 (mv 55),dn 56 57 (fa 37 12 4),j3 56 58 (ld 23 57),dn 56 59 (cb .len #[(t 58)] #[23]),dn 56 60 (bc .gtr 3 59 0 3),dn 56 61 (mv 60),aI 61 62 (mv 3),aI 61 63 (fa 27 5 0),cJ 61 64 (ld 25 63),aI 61 65 (fa 37 12 4),cJ 61 66 (ld 23 65),aI 61 67 (fa 37 12 4),cJ 61 68 (ld 23 67),aI 61 69 (cb .len #[(t 68)] #[23]),aI 61 70 (bc .sub 3 69 1 3),aI 61 71 (ia 23 66 70),cJ 61 72 (ld 3 71),aI 61 73 (ia 25 64 72),aI 61 74 (fa 37 73 2),cJ 61 75 (ld 3 74),aI 61 76 (bo .lss 3 62 75 3),dn 56 77 (pf 61 76),uP 78 (pt 56 77)]
def Ay:List aV:=[u 84 (mv 13),u 85 (mv 2),u 86 (mv 3),u 87 (mv 4),u 88 (mv 1),u 89 (.build 37 #[(0,(t 85)),(1,(t 86)),(2,(t 87)),(3,(t 88))]),u 90 (.buildSlice 25 1 #[(0,(t 89))]),u 91 (cb .append #[(t 84),(t 90)] #[25,25]),u 13 (sg 91)]
def zL:List aV:=[u 92 (mv 13),u 93 (mv 1),u 94 (mv 13),u 95 (mv 1),u 96 (ia 25 94 95),u 97 (fa 37 96 4),u 98 (ld 23 97),u 99 (mv 14),u 100 (.buildSlice 23 1 #[(0,(t 99))]),u 101 (cb .append #[(t 98),(t 100)] #[23,23]),u 102 (ia 25 92 93),u 103 (fa 37 102 4),o (.store 23 (t 103) (t 101))]
def vP:List aV:=[u 108 (mv 13),u 109 (.build 27 #[(0,(t 108))]),u 110 (mv 14),o (.store 27 (t 10) (t 109)),u 11 (sg 110)]
def correctorref10_Add (F:Nat) (a0:cM) (a1:Int) (U:Int) (j:Int) (I:Int):Option (cM×Int):=
 if a1<(0:Int) then
  some (a0,(-1))
 else
  if (a0.al.length:Int)≤a1 then
   some (a0,(-1))
  else
   if U<(1:Int) then
    some (a0,(-1))
   else
    if (11:Int)<U then
     some (a0,(-1))
    else
     if I<j then
      some (a0,(-1))
     else
      if 0≤(0:Int)∧(0:Int)<(a0.al.length:Int) then
       (a0.al[(0:Int).toNat]?).bind fun ae=>
       if ae.To<I then
        some (a0,(-1))
       else
        if 0≤a1∧a1<(a0.al.length:Int) then
         (a0.al[a1.toNat]?).bind fun aa=>
         ((if j<aa.ah then
           some (.inr (a0,(-1)))
          else
           if (0:Int)<(aa.Kids.length:Int) then
            if 0≤(af ((aa.Kids.length:Int) - 1))∧(af ((aa.Kids.length:Int) - 1))<(aa.Kids.length:Int) then
             (aa.Kids[(af ((aa.Kids.length:Int) - 1)).toNat]?).bind fun ad=>
             if 0≤ad∧ad<(a0.al.length:Int) then
              (a0.al[ad.toNat]?).bind fun ag=>
              if j<ag.To then
               some (.inr (a0,(-1)))
              else
               some (.inl ())
             else none
            else none
           else
            some (.inl ())):Option (Sum Unit (cM×Int))).bind fun o=>match o with
          | .inl ()=>(k7 F a0).bind fun J=>
          if J.length+[(⟨U,j,I,a1,[],false⟩:aq)].length≤2199023255552 then
           if 0≤a1∧a1<((J++[(⟨U,j,I,a1,[],false⟩:aq)]).length:Int) then
            ((J++[(⟨U,j,I,a1,[],false⟩:aq)])[a1.toNat]?).bind fun ab=>
            if ab.Kids.length+([(J.length:Int)]:List Int).length≤17592186044416 then
             if 0≤a1∧a1<((J++[(⟨U,j,I,a1,[],false⟩:aq)]).length:Int) then
              (lh F ((J++[(⟨U,j,I,a1,[],false⟩:aq)]).set a1.toNat (⟨ab.Kind,ab.ah,ab.To,ab.Up,ab.Kids++([(J.length:Int)]:List Int),ab.Key⟩:aq)) a1 I).bind fun ai=>
              some ((⟨ai⟩:cM),(J.length:Int))
             else none
            else none
           else none
          else none
          | .inr y=>some y
        else none
      else none
theorem Cx (F:Nat) {h:AH} {Z:Zn} {a0:cM} {a1:Int} {aj:Int} {I:Int} {J:Int} {v2} (hP:Pre Z h []) (U:RS (α:=aq) Z v2 a0.al) {r:cM×Int} (hm:correctorref10_Add F a0 a1 aj I J=some r):
  bX Try.prog 78 [.agg #[v2],V a1,V aj,V I,V J] h Z [] fun v Z' A'=>∃ v4, .tuple #[.agg #[v4],V r.2]=v∧A'=[]∧RS (α:=aq) Z' v4 r.1.al:=by
 refine cm Try.func78 hP ?_
 intro hs hS
 unfold correctorref10_Add at hm
 replace hS:St hs [] Z (0,0) Z hs []:=hS
 refine sr Ck<|gS rfl trivial (gl (cs:=[v2]) rfl rfl) hS ?_
 intro au cZ bQ
 refine df 0 [.slice none 0 0] bQ ?_
 intro ax c3 ao
 refine xn 1<|sq<|s0<|aO 1 hm ?_ ?_<;>intro c5 hm
 refine xn 29<|dT<|s0<|aA 0 1 (.agg #[v2]) ao rfl<|bB 0 0 (.agg #[v2]) [v2] [v2] ao rfl rfl (a8 (RS.cW U) cc) ?_
 intro c7 a3
 refine xn 1<|rt<|⟨rfl,?_⟩
 obtain rfl:=si hm
 refine ⟨_,_,_,ResL.cell (v:= .agg #[v2]) (by kernel_rfl) a3 (i:=0) rfl (by kernel_rfl) (tk (V (-1)) (ResL.nil)),(a3.takeN 0),?_⟩
 exact ⟨v2,rfl,rfl,U⟩
 refine aA 3 1 v2 ao rfl<|bM 0 v2 (RS.len U)<|cv 0 hm ?_ ?_<;>intro c8 hm
 refine xn 23<|dT<|s0<|aA 0 1 (.agg #[v2]) ao rfl<|bB 0 0 (.agg #[v2]) [v2] [v2] ao rfl rfl (a8 (RS.cW U) cc) ?_
 intro c9 a4
 refine xn 1<|rt<|⟨rfl,?_⟩
 obtain rfl:=si hm
 refine ⟨_,_,_,ResL.cell (v:= .agg #[v2]) (by kernel_rfl) a4 (i:=0) rfl (by kernel_rfl) (tk (V (-1)) (ResL.nil)),(a4.takeN 0),?_⟩
 exact ⟨v2,rfl,rfl,U⟩
 refine aO 3 hm ?_ ?_<;>intro da hm
 refine xn 19<|dT<|s0<|aA 0 1 (.agg #[v2]) ao rfl<|bB 0 0 (.agg #[v2]) [v2] [v2] ao rfl rfl (a8 (RS.cW U) cc) ?_
 intro db a7
 refine xn 1<|rt<|⟨rfl,?_⟩
 obtain rfl:=si hm
 refine ⟨_,_,_,ResL.cell (v:= .agg #[v2]) (by kernel_rfl) a7 (i:=0) rfl (by kernel_rfl) (tk (V (-1)) (ResL.nil)),(a7.takeN 0),?_⟩
 exact ⟨v2,rfl,rfl,U⟩
 refine cC 3 hm ?_ ?_<;>intro dc hm
 refine xn 15<|dT<|s0<|aA 0 1 (.agg #[v2]) ao rfl<|bB 0 0 (.agg #[v2]) [v2] [v2] ao rfl rfl (a8 (RS.cW U) cc) ?_
 intro dd a9
 refine xn 1<|rt<|⟨rfl,?_⟩
 obtain rfl:=si hm
 refine ⟨_,_,_,ResL.cell (v:= .agg #[v2]) (by kernel_rfl) a9 (i:=0) rfl (by kernel_rfl) (tk (V (-1)) (ResL.nil)),(a9.takeN 0),?_⟩
 exact ⟨v2,rfl,rfl,U⟩
 refine cC 4 hm ?_ ?_<;>intro de hm
 refine xn 10<|dT<|s0<|aA 0 1 (.agg #[v2]) ao rfl<|bB 0 0 (.agg #[v2]) [v2] [v2] ao rfl rfl (a8 (RS.cW U) cc) ?_
 intro dh ba
 refine xn 1<|rt<|⟨rfl,?_⟩
 obtain rfl:=si hm
 refine ⟨_,_,_,ResL.cell (v:= .agg #[v2]) (by kernel_rfl) ba (i:=0) rfl (by kernel_rfl) (tk (V (-1)) (ResL.nil)),(ba.takeN 0),?_⟩
 exact ⟨v2,rfl,rfl,U⟩
 refine aA 4 1 v2 ao rfl<|a6 0 hm U ?_
 intro di hm
 obtain ⟨bR,bS,hm⟩:=ai hm
 obtain ⟨dj,bT,bU⟩:=RS.cp U (i:=0) bS
 obtain ⟨dk,dm,rfl⟩:=fz bT
 refine fX 1 2 (V bR.To) (bU _ (ao.bV (aM.refl _)))<|cC 0 hm ?_ ?_<;>intro dn hm
 refine xn 1<|dT<|s0<|aA 0 1 (.agg #[v2]) ao rfl<|bB 0 0 (.agg #[v2]) [v2] [v2] ao rfl rfl (a8 (RS.cW U) cc) ?_
 intro dp bb
 refine xn 1<|rt<|⟨rfl,?_⟩
 obtain rfl:=si hm
 refine ⟨_,_,_,ResL.cell (v:= .agg #[v2]) (by kernel_rfl) bb (i:=0) rfl (by kernel_rfl) (tk (V (-1)) (ResL.nil)),(bb.takeN 0),?_⟩
 exact ⟨v2,rfl,rfl,U⟩
 refine xn 1<|dF<|sk<|s0<|aA 1 1 v2 ao rfl<|a6 1 hm U ?_
 intro dq hm
 obtain ⟨an,bW,hm⟩:=ai hm
 obtain ⟨dr,bY,bZ⟩:=RS.cp U (i:=a1) bW
 obtain ⟨ay,aD,rfl⟩:=fz bY
 refine fX 0 0 (.agg #[V an.Kind,V an.ah,V an.To,V an.Up,ay, .bool an.Key]) (bZ _ (ao.bV (aM.refl _)))<|df 0 [V 0,V 0,V 0,V 0, .slice none 0 0, .bool false] ao ?_
 intro av ds b0
 refine bB 0 0 (.agg #[V an.Kind,V an.ah,V an.To,V an.Up,ay, .bool an.Key]) [V an.Kind,V an.ah,V an.To,V an.Up,ay, .bool an.Key] (fU ay an) b0 rfl rfl (a8 rfl (a8 rfl (a8 rfl (a8 rfl (a8 (RS.cW aD) (a8 rfl cc)))))) ?_
 intro dt b1
 refine xn 0<|sq ?_
 obtain ⟨b2,ad,hm⟩:=ai hm
 refine aH [1,2,3,4,5,10] (fun l h=>∃ bc aC aw, .inl ()=b2∧l=[(1,V a1),(2,V aj),(3,V I),(4,V J),(5,Pt aC 0),(10,Pt aw 0)]∧St hs [] Z (0,0) bc h [.ae aC [v2], .ae aw [.slice none 0 0]]) ?_ ?_
 rintro l du ⟨bc,aC,aw,rfl,rfl,aL⟩
 try dsimp only at hm
 refine s0<|aA 0 0 (.agg #[v2]) aL rfl ?_
 obtain ⟨ar,b3,hm⟩:=ai hm
 refine c0 0 aL (tm F aL.eQ (U.mono aL.ag) b3) ?_
 rintro _ dw aR _ dx bd ⟨aG,bf,aS,rfl,rfl,bg⟩
 refine xn 1<|s0<|bM 1 aG (bd.kQ (i:=0) rfl (bg).raw)<|xn 1<|sr Ay<|xq 6 [(89, .agg #[V aj,V I,V J,V a1, .slice none 0 0, .bool false]),(84,aG),(14,V (ar.length:Int)),(13,aG),(1,V a1),(4,V J),(10,Pt aw 0)]<|eh rfl trivial (c6 (cells:=[V aj,V I,V J,V a1, .slice none 0 0, .bool false]) (s:=6) (by kernel_rfl)) (by kernel_rfl) bd ?_
 intro bj dy b5
 have b6:=b5.qu.front 1 rfl
 have b7:RD (α:=aq) aR [V aj,V I,V J,V a1, .slice none 0 0, .bool false] [(⟨aj,I,J,a1,[],false⟩:aq)] []:=RD.one (show cQ.dJ _ _ _ from rfl) rfl gX.nil
 have b8:St _ _ _ _ _ _ [.gs bj [V aj,V I,V J,V a1, .slice none 0 0, .bool false] (aa aq), .bE [], .gs aG bf (aa aq), .bE aS, .ae aC [v2], .ae aw [.slice none 0 0]]:=b6
 obtain ⟨dz,hm⟩:=aK hm
 have b9:St _ _ _ _ _ _ [.gs aG bf (aa aq), .bE aS, .gs bj [V aj,V I,V J,V a1, .slice none 0 0, .bool false] (aa aq), .bE [], .ae aC [v2], .ae aw [.slice none 0 0]]:=((((b8.front 1 rfl).front 1 rfl).front 3 rfl).front 3 rfl)
 refine gd rfl trivial (sS (b4:=64) b9 bg b7 rfl rfl (by kernel_rfl) (by omega) (by omega)) ?_
 rintro ab bk dA ⟨bl,bm⟩
 refine xn 1<|sr zL<|xq 4 [(95,V a1),(94,ab),(93,V a1),(92,ab),(13,ab),(14,V (ar.length:Int)),(1,V a1),(4,V J),(10,Pt aw 0)] ?_
 obtain ⟨bn,hm⟩:=aK hm
 refine bN rfl trivial (bG rfl rfl (by kernel_rfl:slTy _ _=some (aa aq)) (bm.m3 (i:=0) rfl (bl).raw (by omega)) bn.1 bn.2)<|xq 1 [(97, .pointer (some (bh ab a1 (aa aq) 4))),(93,V a1),(92,ab),(13,ab),(14,V (ar.length:Int)),(1,V a1),(4,V J),(10,Pt aw 0)] ?_
 obtain ⟨aE,bo,hm⟩:=ai hm
 have ca:St _ _ _ _ _ _ [.gs ab bk (aa aq), .bE (aS++[]), .ae aC [v2], .ae aw [.slice none 0 0]]:=((bm.front 1 rfl).front 1 rfl)
 obtain ⟨bp,dB,cb,cd,bt,cf,aT,bu,cg⟩:=ca.BI bl (i:=a1) bo
 obtain rfl:=pj bt
 replace aT:RCs (α:=Int) aR cb aE.Kids:=aT
 refine bN rfl trivial (bK (w:=bp) cf rfl (by kernel_rfl))<|xq 1 [(99,V (ar.length:Int)),(98,bp),(93,V a1),(92,ab),(13,ab),(14,V (ar.length:Int)),(1,V a1),(4,V J),(10,Pt aw 0)] ?_
 have ch:RCs (α:=Int) aR [V (ar.length:Int)] ([(ar.length:Int)]:List Int):=RCs.cons (cs:=[V (ar.length:Int)]) rfl (RCs.bA _)
 refine eh rfl trivial (c6 (cells:=[V (ar.length:Int)]) (s:=1) (by kernel_rfl)) (by kernel_rfl) cg ?_
 intro aW dC bw
 obtain ⟨dE,hm⟩:=aK hm
 refine gd rfl trivial (dZ (ys:=([(ar.length:Int)]:List Int)) (b4:=8) bw (i:=1) rfl aT ((bw).eK (j:=0) rfl ch) rfl rfl (by kernel_rfl) (by omega) (by omega)) ?_
 rintro bx cj dG ⟨ck,bz⟩
 obtain ⟨bC,hm⟩:=aK hm
 refine bN rfl trivial (bG rfl rfl (by kernel_rfl:slTy _ _=some (aa aq)) (bz.m3 (i:=2) rfl (bu).raw (by omega)) bC.1 bC.2)<|xq 1 [(103, .pointer (some (bh ab a1 (aa aq) 4))),(101,bx),(13,ab),(14,V (ar.length:Int)),(1,V a1),(4,V J),(10,Pt aw 0)] ?_
 have cl:St _ _ _ _ _ _ [.gs bx cj (aa Int), .gs ab bk (aa aq), .bE cd, .gs aW [V (ar.length:Int)] (aa Int), .ae aC [v2], .ae aw [.slice none 0 0]]:=(((bz.front 3 rfl).front 3 rfl).front 3 rfl)
 refine yE rfl trivial (xZ (z':=(⟨aE.Kind,aE.ah,aE.To,aE.Up,aE.Kids++([(ar.length:Int)]:List Int),aE.Key⟩:aq)) cl bu ck bo rfl rfl (by kernel_rfl) (by kernel_rfl) bt rfl (show cQ.dJ _ _ _ from rfl) rfl) ?_
 rintro dH cn cq ⟨cr,ct⟩
 refine xn 0<|s0 ?_
 obtain ⟨dI,cu,hm⟩:=ai hm
 have cx:St _ _ _ _ _ _ ([.gs ab cn (aa aq), .bE cq]++[.gs aW [V (ar.length:Int)] (aa Int), .ae aC [v2], .ae aw [.slice none 0 0]]):=((ct.front 1 rfl).front 1 rfl)
 refine cB 3 cx (fun p=>sG F p cr cu) ?_
 rintro _ dK dL _ dM aX ⟨cy,cz,rfl,rfl,cA⟩
 refine xn 0<|sr vP<|xq 1 [(108,ab),(14,V (ar.length:Int)),(10,Pt aw 0)]<|bN rfl trivial (jm (v:= .agg #[ab]) rfl (CA.cons (cs:=[ab]) (aX.gb (i:=0) rfl) (CA.bA)) (by kernel_rfl))<|bB 1 4 (.agg #[ab]) [ab] [ab] aX rfl rfl (a8 (aX.fV (i:=0) rfl) cc) ?_
 intro dN cD
 refine xn 1<|rt<|⟨rfl,?_⟩
 have cE:St _ _ _ _ _ _ [.gs ab cy (aa aq), .bE cz, .gs aW [V (ar.length:Int)] (aa Int), .ae aC [v2], .ae aw [ab]]:=((cD.front 1 rfl).front 1 rfl)
 obtain ⟨dO,dP,cF,cH⟩:=cE.shallow cA
 obtain ⟨dQ,dR,cI,bD⟩:=(cH.front 0 rfl).freeze cF
 obtain rfl:=si hm
 refine ⟨_,_,_,ResL.cell (v:= .agg #[ab]) (by kernel_rfl) bD (i:=2) rfl (by kernel_rfl) (tk (V (ar.length:Int)) (ResL.nil)),(bD.takeN 0),?_⟩
 exact ⟨ab,rfl,rfl,cI⟩
 refine cT Cj b1 ?_
 intro aI dS aJ az
 refine yq 2 [(53,Pt av 1),(52,V I),(12,Pt av 0),(10,Pt ax 0),(5,Pt au 0),(1,V a1),(2,V aj),(3,V I),(4,V J)] ?_
 have dU:av<aI:=aJ.1 _ (List.mem_of_getElem? (i:=0) rfl) _ (by simp [Itm.ids])
 refine aU (v:=V an.ah) rfl trivial rfl (by show av<_;omega) (aB (v:=V an.ah) trivial) (az.aP (i:=0) rfl (by kernel_rfl)) trivial ?_
 rcases ifs ad with ⟨aY,ad⟩ | ⟨aY,ad⟩
 refine aF rfl trivial (br rfl rfl (mQ aY))<|ye 23 [(78, .bool true),(10,Pt ax 0),(5,Pt au 0),(1,V a1),(2,V aj),(3,V I),(4,V J)] ?_
 have bF:=az.a5
 refine dT<|s0<|aA 0 2 (.agg #[v2]) bF rfl<|bB 0 1 (.agg #[v2]) [v2] [v2] bF rfl rfl (a8 (RS.cW U) cc) ?_
 intro dV bH
 refine xn 1<|rt<|⟨rfl,?_⟩
 obtain rfl:=si ad
 obtain rfl:=si hm
 refine ⟨_,_,_,ResL.cell (v:= .agg #[v2]) (by kernel_rfl) bH (i:=1) rfl (by kernel_rfl) (tk (V (-1)) (ResL.nil)),(bH.takeN 0),?_⟩
 exact ⟨v2,rfl,rfl,U⟩
 refine aF rfl trivial (br rfl rfl (nw aY))<|yq 2 [(57,Pt av 4),(56, .bool false),(12,Pt av 0),(10,Pt ax 0),(5,Pt au 0),(1,V a1),(2,V aj),(3,V I),(4,V J)] ?_
 have dW:av<aI:=aJ.1 _ (List.mem_of_getElem? (i:=0) rfl) _ (by simp [Itm.ids])
 refine aU (v:=ay) rfl rfl rfl (by show av<_;omega) (aB (v:=ay) (RS.dD aD)) (az.aP (i:=0) rfl (by kernel_rfl)) trivial<|aF rfl rfl (gP rfl (RS.len aD) ⟨_,Try.underlying23⟩) ?_
 rcases ifs ad with ⟨aZ,ad⟩ | ⟨aZ,ad⟩
 refine aF rfl rfl (br rfl rfl (l0 aZ))<|yq 3 [(63,Pt au 0),(62,V I),(61, .bool true),(56, .bool false),(12,Pt av 0),(10,Pt ax 0),(5,Pt au 0),(1,V a1),(2,V aj),(3,V I),(4,V J)] ?_
 have dX:au<aI:=aJ.1 _ (List.mem_of_getElem? (i:=2) rfl) _ (by simp [Itm.ids])
 refine aU (v:=v2) rfl rfl rfl (by show au<_;omega) (aB (v:=v2) (RS.dD U)) (az.aP (i:=2) rfl (by kernel_rfl)) trivial<|yq 1 [(65,Pt av 4),(64,v2),(62,V I),(61, .bool true),(56, .bool false),(12,Pt av 0),(10,Pt ax 0),(5,Pt au 0),(1,V a1),(2,V aj),(3,V I),(4,V J)] ?_
 have dY:av<aI:=aJ.1 _ (List.mem_of_getElem? (i:=0) rfl) _ (by simp [Itm.ids])
 refine aU (v:=ay) rfl rfl rfl (by show av<_;omega) (aB (v:=ay) (RS.dD aD)) (az.aP (i:=0) rfl (by kernel_rfl)) trivial<|yq 1 [(67,Pt av 4),(66,ay),(64,v2),(62,V I),(61, .bool true),(56, .bool false),(10,Pt ax 0),(5,Pt au 0),(1,V a1),(2,V aj),(3,V I),(4,V J)] ?_
 have ea:av<aI:=aJ.1 _ (List.mem_of_getElem? (i:=0) rfl) _ (by simp [Itm.ids])
 refine aU (v:=ay) rfl rfl rfl (by show av<_;omega) (aB (v:=ay) (RS.dD aD)) (az.aP (i:=0) rfl (by kernel_rfl)) trivial<|aF rfl rfl (gP rfl (RS.len aD) ⟨_,Try.underlying23⟩)<|yq 1 [(70,V (af ((an.Kids.length:Int) - 1))),(66,ay),(64,v2),(62,V I),(61, .bool true),(56, .bool false),(10,Pt ax 0),(5,Pt au 0),(1,V a1),(2,V aj),(3,V I),(4,V J)] ?_
 obtain ⟨bI,ad⟩:=aK ad
 refine aF rfl rfl (bG rfl rfl (by kernel_rfl:slTy _ _=some (aa Int)) (RS.cU aD (by omega)) bI.1 bI.2) ?_
 obtain ⟨aN,cJ,ad⟩:=ai ad
 obtain ⟨eb,cK,cL⟩:=RS.cp aD (i:=af ((an.Kids.length:Int) - 1)) cJ
 obtain rfl:=kJ cK
 refine cG rfl rfl rfl (fun h2 hz=>bK (w:=V aN) (cL h2 hz) rfl (by kernel_rfl)) (az.bV (aM.refl _)) (aB (v:=V aN) trivial) trivial ?_
 obtain ⟨bJ,ad⟩:=aK ad
 refine aF rfl rfl (bG rfl rfl (by kernel_rfl:slTy _ _=some (aa aq)) (RS.cU U (by omega)) bJ.1 bJ.2)<|yq 1 [(74, .pointer (some (bh v2 aN (aa aq) 2))),(62,V I),(61, .bool true),(56, .bool false),(10,Pt ax 0),(5,Pt au 0),(1,V a1),(2,V aj),(3,V I),(4,V J)] ?_
 obtain ⟨bL,cN,ad⟩:=ai ad
 obtain ⟨ec,cP,cR⟩:=RS.cp U (i:=aN) cN
 obtain ⟨ed,ee,rfl⟩:=fz cP
 refine cG rfl rfl rfl (fun h2 hz=>bK (w:=V bL.To) (cR h2 hz) rfl (by kernel_rfl)) (az.bV (aM.refl _)) (aB (v:=V bL.To) trivial) trivial ?_
 rcases ifs ad with ⟨a2,ad⟩ | ⟨a2,ad⟩
 refine aF rfl rfl (br rfl rfl (mQ a2))<|ye 2 [(78, .bool true),(10,Pt ax 0),(5,Pt au 0),(1,V a1),(2,V aj),(3,V I),(4,V J)] ?_
 have bO:=az.a5
 refine dT<|s0<|aA 0 2 (.agg #[v2]) bO rfl<|bB 0 1 (.agg #[v2]) [v2] [v2] bO rfl rfl (a8 (RS.cW U) cc) ?_
 intro eg bP
 refine xn 1<|rt<|⟨rfl,?_⟩
 obtain rfl:=si ad
 obtain rfl:=si hm
 refine ⟨_,_,_,ResL.cell (v:= .agg #[v2]) (by kernel_rfl) bP (i:=1) rfl (by kernel_rfl) (tk (V (-1)) (ResL.nil)),(bP.takeN 0),?_⟩
 exact ⟨v2,rfl,rfl,U⟩
 refine aF rfl rfl (br rfl rfl (nw a2))<|ye 2 [(78, .bool false),(10,Pt ax 0),(5,Pt au 0),(1,V a1),(2,V aj),(3,V I),(4,V J)] ?_
 have cS:=az.a5
 refine dF<|sk ?_
 obtain rfl:=si ad
 exact ⟨_,au,ax,rfl,(by kernel_rfl),(((cS.front 1 rfl).front 2 rfl).takeN 2)⟩
 refine aF rfl rfl (br rfl rfl (lb aZ))<|ye 18 [(78, .bool false),(10,Pt ax 0),(5,Pt au 0),(1,V a1),(2,V aj),(3,V I),(4,V J)] ?_
 have cV:=az.a5
 refine dF<|sk ?_
 obtain rfl:=si ad
 exact ⟨_,au,ax,rfl,(by kernel_rfl),(((cV.front 1 rfl).front 2 rfl).takeN 2)⟩
def vy:List aV:=[u 3 (.box 27 (t 0)),u 6 (.alloc 27)]
def yP:List aV:=[u 33 (mv 7),u 34 (.build 27 #[(0,(t 33))]),o (.store 27 (t 6) (t 34))]
def h6 (F:Nat) (a0:cM) (a1:Int) (j:Int):Option cM:=
 if a1<(0:Int) then
  some a0
 else
  if (a0.al.length:Int)≤a1 then
   some a0
  else
   if 0≤(0:Int)∧(0:Int)<(a0.al.length:Int) then
    (a0.al[(0:Int).toNat]?).bind fun I=>
    if I.To<j then
     some a0
    else
     (k7 F a0).bind fun J=>
     (lh F J a1 j).bind fun U=>
     some (⟨U⟩:cM)
   else none
theorem rG (F:Nat) {h:AH} {Z:Zn} {a0:cM} {a1:Int} {ad:Int} {v2} (hP:Pre Z h []) (J:RS (α:=aq) Z v2 a0.al) {r:cM} (hm:h6 F a0 a1 ad=some r):
  bX Try.prog 69 [.agg #[v2],V a1,V ad] h Z [] fun v Z' A'=>∃ v4, .agg #[v4]=v∧A'=[]∧RS (α:=aq) Z' v4 r.al:=by
 refine cm Try.func69 hP ?_
 intro hs hS
 unfold h6 at hm
 replace hS:St hs [] Z (0,0) Z hs []:=hS
 refine sr vy<|gS rfl trivial (gl (cs:=[v2]) rfl rfl) hS ?_
 intro af aP ao
 refine df 0 [.slice none 0 0] ao ?_
 intro U aR j
 refine xn 0<|sq<|s0<|aO 1 hm ?_ ?_<;>intro aS hm
 refine xn 16<|dT<|s0<|aA 0 1 (.agg #[v2]) j rfl<|bB 0 0 (.agg #[v2]) [v2] [v2] j rfl rfl (a8 (RS.cW J) cc) ?_
 intro aT ag
 refine xn 0<|rt<|⟨rfl,?_⟩
 obtain rfl:=si hm
 refine ⟨_,_,_,ResL.cell (v:= .agg #[v2]) (by kernel_rfl) ag (i:=0) rfl (by kernel_rfl) (ResL.nil),(ag.takeN 0),?_⟩
 exact ⟨v2,rfl,rfl,J⟩
 refine aA 3 1 v2 j rfl<|bM 0 v2 (RS.len J)<|cv 0 hm ?_ ?_<;>intro aU hm
 refine xn 10<|dT<|s0<|aA 0 1 (.agg #[v2]) j rfl<|bB 0 0 (.agg #[v2]) [v2] [v2] j rfl rfl (a8 (RS.cW J) cc) ?_
 intro aW ah
 refine xn 0<|rt<|⟨rfl,?_⟩
 obtain rfl:=si hm
 refine ⟨_,_,_,ResL.cell (v:= .agg #[v2]) (by kernel_rfl) ah (i:=0) rfl (by kernel_rfl) (ResL.nil),(ah.takeN 0),?_⟩
 exact ⟨v2,rfl,rfl,J⟩
 refine aA 4 1 v2 j rfl<|a6 0 hm J ?_
 intro aX hm
 obtain ⟨ar,au,hm⟩:=ai hm
 obtain ⟨aY,av,aw⟩:=RS.cp J (i:=0) au
 obtain ⟨aZ,a2,rfl⟩:=fz av
 refine fX 1 2 (V ar.To) (aw _ (j.bV (aM.refl _)))<|cC 0 hm ?_ ?_<;>intro a3 hm
 refine xn 1<|dT<|s0<|aA 0 1 (.agg #[v2]) j rfl<|bB 0 0 (.agg #[v2]) [v2] [v2] j rfl rfl (a8 (RS.cW J) cc) ?_
 intro a4 aj
 refine xn 0<|rt<|⟨rfl,?_⟩
 obtain rfl:=si hm
 refine ⟨_,_,_,ResL.cell (v:= .agg #[v2]) (by kernel_rfl) aj (i:=0) rfl (by kernel_rfl) (ResL.nil),(aj.takeN 0),?_⟩
 exact ⟨v2,rfl,rfl,J⟩
 refine xn 1<|dF<|sk<|s0<|aA 0 1 (.agg #[v2]) j rfl ?_
 obtain ⟨a5,ax,hm⟩:=ai hm
 refine c0 0 j (tm F j.eQ J ax) ?_
 rintro _ a7 a9 _ ba ay ⟨I,az,aB,rfl,rfl,aC⟩
 refine xn 1<|s0 ?_
 obtain ⟨bb,aD,hm⟩:=ai hm
 have aE:St _ _ _ _ _ _ ([.gs I az (aa aq), .bE aB]++[.ae U [.slice none 0 0], .ae af [v2]]):=((ay.front 1 rfl).front 1 rfl)
 refine cB 3 aE (fun p=>sG F p aC aD) ?_
 rintro _ bc bd _ bf ab ⟨aF,aG,rfl,rfl,aH⟩
 refine xn 0<|sr yP<|xq 1 [(33,I),(6,Pt U 0)]<|bN rfl trivial (jm (v:= .agg #[I]) rfl (CA.cons (cs:=[I]) (ab.gb (i:=0) rfl) (CA.bA)) (by kernel_rfl))<|bB 0 2 (.agg #[I]) [I] [I] ab rfl rfl (a8 (ab.fV (i:=0) rfl) cc) ?_
 intro bg aI
 refine xn 0<|rt<|⟨rfl,?_⟩
 have aJ:St _ _ _ _ _ _ [.gs I aF (aa aq), .bE aG, .ae U [I], .ae af [v2]]:=((aI.front 1 rfl).front 1 rfl)
 obtain ⟨bh,bj,aK,aL⟩:=aJ.shallow aH
 obtain ⟨bk,bl,aN,an⟩:=(aL.front 0 rfl).freeze aK
 obtain rfl:=si hm
 refine ⟨_,_,_,ResL.cell (v:= .agg #[I]) (by kernel_rfl) an (i:=0) rfl (by kernel_rfl) (ResL.nil),(an.takeN 0),?_⟩
 exact ⟨I,rfl,rfl,aN⟩
end Go.Proofs.Ytcilejikekccmaa.M
