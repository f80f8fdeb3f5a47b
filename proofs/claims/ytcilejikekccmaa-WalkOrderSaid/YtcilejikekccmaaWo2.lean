/- Packed by a program of this session (mini.py). -/
import Derived.Test.YtcilejikekccmaaWo1
set_option linter.unusedVariables false
set_option linter.unusedSimpArgs false
set_option maxRecDepth 20000
namespace Go.Proofs.Ytcilejikekccmaa.M
open Go Am Sy
open Sy.Cell (rc)
structure al where
 Kind:Int
 ai:Int
 To:Int
 deriving DecidableEq,Inhabited
instance:Cell al where
 size:=3
 rc Z cs x:=cs=[V x.Kind,V x.ai,V x.To]
 len h:=by rw [h];rfl
 mono _ h:=h
 one h:=by rw [h];rfl
 pos:=by decide
theorem eZ {Z:Zn} {cs:List Value} {x:al} (h:rc Z cs x):cs=[V x.Kind,V x.ai,V x.To]:=h
abbrev CC (x:al):List Value:=[V x.Kind,V x.ai,V x.To]
instance:FC al:=⟨CC,fun q=>q⟩
structure aF where
 B:List UInt8
 At:Int
 Row:Int
 Open:Int
 bY:Int
 cr:Bool
 Text:Int
 L:List al
 deriving DecidableEq,Inhabited
instance:Cell aF where
 size:=8
 rc Z cs x:=∃ v0,RS (α:=UInt8) Z v0 x.B∧∃ j,RS (α:=al) Z j x.L∧cs=[v0,V x.At,V x.Row,V x.Open,V x.bY, .bool x.cr,V x.Text,j]
 len h:=by obtain ⟨v0,I,j,J,h⟩:=h;rw [h];rfl
 mono hz h:=by obtain ⟨v0,I,j,J,h⟩:=h;exact ⟨v0,I.mono hz,j,J.mono hz,h⟩
 one h:=by obtain ⟨v0,I,j,J,h⟩:=h;subst h;exact (br I.c7 (br rfl (br rfl (br rfl (br rfl (br rfl (br rfl (br J.c7 cm))))))))
 pos:=by decide
abbrev bf (v0 v1:Value) (x:aF):List Value:=[v0,V x.At,V x.Row,V x.Open,V x.bY, .bool x.cr,V x.Text,v1]
def od (F:Nat) (a0:aF):Option aF:=
 some (⟨a0.B,a0.At,a0.At,a0.Open,(-1),true,a0.Text,a0.L⟩:aF)
theorem qU (F:Nat) {h:AH} {Z:Zn} {a0:aF} {J I j U} (hP:Pre Z h [.ae J (bf I j a0), .gs j U (aa al)]) (af:RS (α:=UInt8) Z I a0.B) (ag:RCs (α:=al) Z U a0.L) {r:aF} (hm:od F a0=some r):
  bQ Try.prog 35 [Pt J 0] h Z [.ae J (bf I j a0), .gs j U (aa al)] fun v Z' A'=>∃ ab ad, .tuple #[]=v∧A'=[.ae J (bf ab j r), .gs j ad (aa al)]∧RS (α:=UInt8) Z' ab r.B∧RCs (α:=al) Z' ad r.L:=by
 refine b6 Try.func35 hP ?_
 intro hs hS
 unfold od at hm
 refine g0<|aB 6 0 (V a0.At) hS rfl<|bG 2 0 (V a0.At) [V a0.At] [I,V a0.At,V a0.At,V a0.Open,V a0.bY, .bool a0.cr,V a0.Text,j] hS rfl rfl rfl ?_
 intro ak ah
 refine bG 2 0 (V (-1)) [V (-1)] [I,V a0.At,V a0.At,V a0.Open,V (-1), .bool a0.cr,V a0.Text,j] ah rfl rfl rfl ?_
 intro an ai
 refine bG 2 0 (.bool true) [.bool true] [I,V a0.At,V a0.At,V a0.Open,V (-1), .bool true,V a0.Text,j] ai rfl rfl rfl ?_
 intro ao aj
 refine xn 0 ?_
 obtain rfl:=si hm
 refine ⟨_,_,_,ResL.nil,aj,?_⟩
 exact ⟨I,U,rfl,rfl,af,ag⟩
def h5 (F:Nat) (a0:aF) (a1:Int):Option Int:=
 if a1<(0:Int) then
  some 0
 else
  if (a0.B.length:Int)≤a1 then
   some 0
  else
   if 0≤a1∧a1<(a0.B.length:Int) then
    (a0.B[a1.toNat]?).bind fun j=>
    some (j.toNat:Int)
   else none
theorem nh (F:Nat) {h:AH} {Z:Zn} {a0:aF} {a1:Int} {U j aa} (hI:Inv Z h) (I:RS (α:=UInt8) Z j a0.B) (ad:RS (α:=al) Z aa a0.L) (ab:Z U=some (bf j aa a0)) {r:Int} (hm:h5 F a0 a1=some r):
  b3 Try.prog 54 [Pt U 0,V a1] h Z (.int .u8 (r.toNat:Int)):=by
 refine b4 Try.func54 hI ?_
 intro hs hS
 unfold h5 at hm
 refine sp 1<|sq<|s0<|aP 1 hm ?_ ?_<;>intro ae hm
 refine xn 9<|dT<|sp 1<|rt<|⟨rfl,?_⟩
 obtain rfl:=si hm
 refine ⟨_,_,_,tk (.int .u8 0) (ResL.nil),hS,?_⟩
 exact rfl
 refine bw 5 j hS ab<|bD 0 j (RS.len I)<|cC 0 hm ?_ ?_<;>intro af hm
 refine xn 1<|dT<|sp 1<|rt<|⟨rfl,?_⟩
 obtain rfl:=si hm
 refine ⟨_,_,_,tk (.int .u8 0) (ResL.nil),hS,?_⟩
 exact rfl
 refine xn 1<|dF<|sk<|s0<|bw 3 j hS ab<|a2 1 hm I ?_
 intro ag hm
 refine bm 0 0 (fun J=> .int .u8 (J.toNat:Int)) hm I hS ?_
 intro J ah hm
 refine xn 1<|rt<|⟨rfl,?_⟩
 obtain rfl:=si hm
 refine ⟨_,_,_,tk (.int .u8 (J.toNat:Int)) (ResL.nil),hS,?_⟩
 exact rfl
def gy (F:Nat) (a0:Int):Option Bool:=
 if a0=(32:Int) then
  some true
 else
  if a0=(9:Int) then
   some true
  else
   some false
theorem jZ (F:Nat) {h:AH} {Z:Zn} {a0:Int} (hI:Inv Z h) {r:Bool} (hm:gy F a0=some r):
  b3 Try.prog 58 [.int .u8 a0] h Z (.bool r):=by
 refine b4 Try.func58 hI ?_
 intro hs hS
 unfold gy at hm
 refine sp 1<|s0<|aG 1 hm ?_ ?_ (kd:= .u8)<;>intro j hm
 refine xn 5<|rt<|⟨rfl,?_⟩
 obtain rfl:=si hm
 refine ⟨_,_,_,tk (.bool true) (ResL.nil),hS,?_⟩
 exact rfl
 refine aG 2 hm ?_ ?_ (kd:= .u8)<;>intro I hm
 refine xn 2<|rt<|⟨rfl,?_⟩
 obtain rfl:=si hm
 refine ⟨_,_,_,tk (.bool true) (ResL.nil),hS,?_⟩
 exact rfl
 refine xn 2<|rt<|⟨rfl,?_⟩
 obtain rfl:=si hm
 refine ⟨_,_,_,tk (.bool false) (ResL.nil),hS,?_⟩
 exact rfl
def correctorref2_Break (F:Nat) (a0:List UInt8) (a1:Int):Option Int:=
 if (a0.length:Int)≤a1 then
  some 0
 else
  ((if 0≤a1∧a1<(a0.length:Int) then
    (a0[a1.toNat]?).bind fun j=>
    if (j.toNat:Int)=(13:Int) then
     if (af (a1+1))<(a0.length:Int) then
      if 0≤(af (a1+1))∧(af (a1+1))<(a0.length:Int) then
       (a0[(af (a1+1)).toNat]?).bind fun I=>
       if (I.toNat:Int)=(10:Int) then
        some (.inr 2)
       else
        some (.inl ())
      else none
     else
      some (.inl ())
    else
     some (.inl ())
   else none):Option (Sum Unit Int)).bind fun o=>match o with
   | .inl ()=>if 0≤a1∧a1<(a0.length:Int) then
    (a0[a1.toNat]?).bind fun J=>
    if (J.toNat:Int)=(13:Int) then
     some 1
    else
     if 0≤a1∧a1<(a0.length:Int) then
      (a0[a1.toNat]?).bind fun U=>
      if (U.toNat:Int)=(10:Int) then
       some 1
      else
       some 0
     else none
   else none
   | .inr y=>some y
theorem lH (F:Nat) {h:AH} {Z:Zn} {a0:List UInt8} {a1:Int} {v2} (hI:Inv Z h) (I:RS (α:=UInt8) Z v2 a0) {r:Int} (hm:correctorref2_Break F a0 a1=some r):
  b3 Try.prog 56 [v2,V a1] h Z (V r):=by
 refine b4 Try.func56 hI ?_
 intro hs hS
 unfold correctorref2_Break at hm
 refine sp 1<|sq<|s0<|bD 2 v2 (RS.len I)<|cC 0 hm ?_ ?_<;>intro ai hm
 refine xn 0<|dT<|sp 1<|rt<|⟨rfl,?_⟩
 obtain rfl:=si hm
 refine ⟨_,_,_,tk (V 0) (ResL.nil),hS,?_⟩
 exact rfl
 refine xn 0<|dF<|sk<|sq ?_
 obtain ⟨af,j,hm⟩:=ah hm
 refine aI [0,1] (fun l h=>∃ U, .inl ()=af∧l=[(0,v2),(1,V a1)]∧St hs [] Z (0,0) U h []) ?_ ?_
 rintro l aj ⟨U,rfl,rfl,J⟩
 try dsimp only at hm
 refine sq<|s0<|a2 2 hm (I.mono J.ag) ?_
 intro ak hm
 refine bm 0 0 (fun aa=> .int .u8 (aa.toNat:Int)) hm (I.mono J.ag) J ?_
 intro aa an hm
 refine aG 0 hm ?_ ?_ (kd:= .u8)<;>intro ao hm
 refine xn 7<|dT<|sp 1<|rt<|⟨rfl,?_⟩
 obtain rfl:=si hm
 refine ⟨_,_,_,tk (V 1) (ResL.nil),J,?_⟩
 exact rfl
 refine a2 3 hm (I.mono J.ag) ?_
 intro aq hm
 refine bm 0 0 (fun ab=> .int .u8 (ab.toNat:Int)) hm (I.mono J.ag) J ?_
 intro ab ar hm
 refine aG 0 hm ?_ ?_ (kd:= .u8)<;>intro au hm
 refine xn 1<|dT<|sp 1<|rt<|⟨rfl,?_⟩
 obtain rfl:=si hm
 refine ⟨_,_,_,tk (V 1) (ResL.nil),J,?_⟩
 exact rfl
 refine xn 1<|dF<|sk<|sp 1<|rt<|⟨rfl,?_⟩
 obtain rfl:=si hm
 refine ⟨_,_,_,tk (V 0) (ResL.nil),J,?_⟩
 exact rfl
 refine s0<|a2 2 j I ?_
 intro av j
 refine bm 0 0 (fun ad=> .int .u8 (ad.toNat:Int)) j I hS ?_
 intro ad aw j
 refine aG 0 j ?_ ?_ (kd:= .u8)<;>intro ax j
 refine bD 4 v2 (RS.len I)<|aP 0 j ?_ ?_<;>intro ay j
 refine a2 5 j I ?_
 intro az j
 refine bm 0 0 (fun ae=> .int .u8 (ae.toNat:Int)) j I hS ?_
 intro ae aA j
 refine aG 0 j ?_ ?_ (kd:= .u8)<;>intro aB j
 refine xn 1<|dT<|sp 1<|rt<|⟨rfl,?_⟩
 obtain rfl:=si j
 obtain rfl:=si hm
 refine ⟨_,_,_,tk (V 2) (ResL.nil),hS,?_⟩
 exact rfl
 refine xn 1<|dF<|sk ?_
 obtain rfl:=si j
 exact ⟨_,rfl,(by kernel_rfl),hS⟩
 refine xn 9<|dF<|sk ?_
 obtain rfl:=si j
 exact ⟨_,rfl,(by kernel_rfl),hS⟩
 refine xn 15<|dF<|sk ?_
 obtain rfl:=si j
 exact ⟨_,rfl,(by kernel_rfl),hS⟩
def jR (F:Nat) (a0:aF) (a1:Int):Option Bool:=
 if (a0.B.length:Int)≤a1 then
  some true
 else
  if 0≤a1∧a1<(a0.B.length:Int) then
   (a0.B[a1.toNat]?).bind fun j=>
   (gy F (j.toNat:Int)).bind fun I=>
   if I=true then
    some true
   else
    (correctorref2_Break F a0.B a1).bind fun J=>
    if (0:Int)<J then
     some true
    else
     some false
  else none
theorem qy (F:Nat) {h:AH} {Z:Zn} {a0:aF} {a1:Int} {aa j ab} (hI:Inv Z h) (I:RS (α:=UInt8) Z j a0.B) (ai:RS (α:=al) Z ab a0.L) (U:Z aa=some (bf j ab a0)) {r:Bool} (hm:jR F a0 a1=some r):
  b3 Try.prog 55 [Pt aa 0,V a1] h Z (.bool r):=by
 refine b4 Try.func55 hI ?_
 intro hs hS
 unfold jR at hm
 refine sp 1<|s0<|bw 4 j hS U<|bD 0 j (RS.len I)<|cC 0 hm ?_ ?_<;>intro aj hm
 refine xn 20<|rt<|⟨rfl,?_⟩
 obtain rfl:=si hm
 refine ⟨_,_,_,tk (.bool true) (ResL.nil),hS,?_⟩
 exact rfl
 refine bw 4 j hS U<|a2 1 hm I ?_
 intro ak hm
 refine bm 0 0 (fun ad=> .int .u8 (ad.toNat:Int)) hm I hS ?_
 intro ad an hm
 obtain ⟨ao,af,hm⟩:=ah hm
 refine cP 0 hS (jZ F hS.inv af) ?_
 rintro _ aq J rfl
 refine kb 2 22 hm ?_ ?_<;>intro ar hm
 refine xn 9<|rt<|⟨rfl,?_⟩
 obtain rfl:=si hm
 refine ⟨_,_,_,tk (.bool true) (ResL.nil),J,?_⟩
 exact rfl
 refine bw 3 j J U ?_
 obtain ⟨au,ag,hm⟩:=ah hm
 refine cP 1 J (lH F J.inv I ag) ?_
 rintro _ av ae rfl
 refine cH 0 hm ?_ ?_<;>intro aw hm
 refine xn 2<|rt<|⟨rfl,?_⟩
 obtain rfl:=si hm
 refine ⟨_,_,_,tk (.bool true) (ResL.nil),ae,?_⟩
 exact rfl
 refine xn 2<|rt<|⟨rfl,?_⟩
 obtain rfl:=si hm
 refine ⟨_,_,_,tk (.bool false) (ResL.nil),ae,?_⟩
 exact rfl
def lg (F:Nat) (a0:aF) (a1:Int):Option Int:=
 (h5 F a0 a1).bind fun j=>
 if (a0.B.length:Int)<(af (a1+3)) then
  some 0
 else
  if 0≤(af (a1+1))∧(af (a1+1))<(a0.B.length:Int) then
   (a0.B[(af (a1+1)).toNat]?).bind fun I=>
   if (I.toNat:Int)=(j.toNat:Int) then
    if 0≤(af (a1+2))∧(af (a1+2))<(a0.B.length:Int) then
     (a0.B[(af (a1+2)).toNat]?).bind fun J=>
     if (J.toNat:Int)=(j.toNat:Int) then
      (jR F a0 (af (a1+3))).bind fun U=>
      if U=true then
       if (j.toNat:Int)=(45:Int) then
        some 20
       else
        if (j.toNat:Int)=(46:Int) then
         some 21
        else
         some 0
      else
       some 0
     else
      some 0
    else none
   else
    some 0
  else none
theorem tT (F:Nat) {h:AH} {Z:Zn} {a0:aF} {a1:Int} {ab J ad} (hI:Inv Z h) (I:RS (α:=UInt8) Z J a0.B) (ae:RS (α:=al) Z ad a0.L) (U:Z ab=some (bf J ad a0)) {r:Int} (hm:lg F a0 a1=some r):
  b3 Try.prog 36 [Pt ab 0,V a1] h Z (V r):=by
 refine b4 Try.func36 hI ?_
 intro hs hS
 unfold lg at hm
 refine sp 1<|s0 ?_
 obtain ⟨ak,ai,hm⟩:=ah hm
 refine cP 2 hS (nh F hS.inv I ae U ai) ?_
 rintro _ an j rfl
 refine xn 1<|sq<|s0<|bw 5 J j U<|bD 0 J (RS.len I)<|cH 0 hm ?_ ?_<;>intro ao hm
 refine xn 31<|dT<|sp 1<|rt<|⟨rfl,?_⟩
 obtain rfl:=si hm
 refine ⟨_,_,_,tk (V 0) (ResL.nil),j,?_⟩
 exact rfl
 refine bw 4 J j U<|a2 2 hm I ?_
 intro aq hm
 refine bm 0 0 (fun af=> .int .u8 (af.toNat:Int)) hm I j ?_
 intro af ar hm
 refine cS 1 hm ?_ ?_ (kd:= .u8)<;>intro au hm
 refine bw 5 J j U<|a2 2 hm I ?_
 intro av hm
 refine bm 0 0 (fun ag=> .int .u8 (ag.toNat:Int)) hm I j ?_
 intro ag aw hm
 refine cS 1 hm ?_ ?_ (kd:= .u8)<;>intro ax hm
 obtain ⟨ay,aj,hm⟩:=ah hm
 refine cP 5 j (qy F j.inv I ae U aj) ?_
 rintro _ az aa rfl
 refine kb 0 45 hm ?_ ?_<;>intro aA hm
 refine xn 2<|dF<|sk<|sq<|s0<|aG 1 hm ?_ ?_ (kd:= .u8)<;>intro aB hm
 refine xn 0<|dT<|sp 1<|rt<|⟨rfl,?_⟩
 obtain rfl:=si hm
 refine ⟨_,_,_,tk (V 20) (ResL.nil),aa,?_⟩
 exact rfl
 refine xn 0<|dF<|sk<|sq<|s0<|aG 1 hm ?_ ?_ (kd:= .u8)<;>intro aC hm
 refine xn 0<|dT<|sp 1<|rt<|⟨rfl,?_⟩
 obtain rfl:=si hm
 refine ⟨_,_,_,tk (V 21) (ResL.nil),aa,?_⟩
 exact rfl
 refine xn 0<|dF<|sk<|sp 1<|rt<|⟨rfl,?_⟩
 obtain rfl:=si hm
 refine ⟨_,_,_,tk (V 0) (ResL.nil),aa,?_⟩
 exact rfl
 refine xn 2<|dT<|sp 1<|rt<|⟨rfl,?_⟩
 obtain rfl:=si hm
 refine ⟨_,_,_,tk (V 0) (ResL.nil),aa,?_⟩
 exact rfl
 refine xn 8<|dT<|sp 1<|rt<|⟨rfl,?_⟩
 obtain rfl:=si hm
 refine ⟨_,_,_,tk (V 0) (ResL.nil),j,?_⟩
 exact rfl
 refine xn 20<|dT<|sp 1<|rt<|⟨rfl,?_⟩
 obtain rfl:=si hm
 refine ⟨_,_,_,tk (V 0) (ResL.nil),j,?_⟩
 exact rfl
def fA (F:Nat) (a0:Int):Option Bool:=
 if a0=(1:Int) then
  some false
 else
  if a0=(2:Int) then
   some false
  else
   if a0=(3:Int) then
    some false
   else
    if a0=(4:Int) then
     some false
    else
     some true
theorem ja (F:Nat) {h:AH} {Z:Zn} {a0:Int} (hI:Inv Z h) {r:Bool} (hm:fA F a0=some r):
  b3 Try.prog 41 [V a0] h Z (.bool r):=by
 refine b4 Try.func41 hI ?_
 intro hs hS
 unfold fA at hm
 refine sp 1<|s0<|cS 1 hm ?_ ?_<;>intro j hm
 refine xn 13<|rt<|⟨rfl,?_⟩
 obtain rfl:=si hm
 refine ⟨_,_,_,tk (.bool false) (ResL.nil),hS,?_⟩
 exact rfl
 refine cS 2 hm ?_ ?_<;>intro I hm
 refine xn 10<|rt<|⟨rfl,?_⟩
 obtain rfl:=si hm
 refine ⟨_,_,_,tk (.bool false) (ResL.nil),hS,?_⟩
 exact rfl
 refine cS 3 hm ?_ ?_<;>intro J hm
 refine xn 6<|rt<|⟨rfl,?_⟩
 obtain rfl:=si hm
 refine ⟨_,_,_,tk (.bool false) (ResL.nil),hS,?_⟩
 exact rfl
 refine cS 3 hm ?_ ?_<;>intro U hm
 refine xn 2<|rt<|⟨rfl,?_⟩
 obtain rfl:=si hm
 refine ⟨_,_,_,tk (.bool false) (ResL.nil),hS,?_⟩
 exact rfl
 refine xn 2<|rt<|⟨rfl,?_⟩
 obtain rfl:=si hm
 refine ⟨_,_,_,tk (.bool true) (ResL.nil),hS,?_⟩
 exact rfl
def CK:List bt:=[uP 19 (mv 0),uP 20 (mv 0),uP 21 (nk 20),uP 22 (fa 81 21 1),uL 23 (ld 3 22),uP 24 (mv 0),uP 25 (nk 24),uP 26 (fa 81 25 2),uL 27 (ld 3 26),uP 28 (bo .sub 3 23 27 3),uP 29 (nk 19),uP 30 (fa 81 29 4),oF (.store 3 (t 30) (t 28)) .make [4,8]]
def wK:List bt:=[uP 48 (mv 0),uP 49 (mv 0),uP 50 (nk 49),uP 51 (fa 81 50 7),uL 52 (ld 24 51),uP 53 (mv 1),uP 54 (mv 0),uP 55 (nk 54),uP 56 (fa 81 55 1),uL 57 (ld 3 56),uP 58 (mv 2),uP 59 (.build 85 #[(0,(t 53)),(1,(t 57)),(2,(t 58))]),uF 60 (.buildSlice 24 1 #[(0,(t 59))]) .fresh [],uF 61 (cb .append #[(t 52),(t 60)] #[24,24]) .make [4,9],uP 62 (nk 48),uP 63 (fa 81 62 7),oF (.store 24 (t 63) (t 61)) .make [4,9]]
def cX (F:Nat) (a0:aF) (a1:Int) (J:Int):Option aF:=
 (((((fA F a1).bind fun U=>
   if U=true then
    if a1=(19:Int) then
     some false
    else
     if a0.bY<(0:Int) then
      some true
     else
      some false
   else
    some false):Option Bool).bind fun o=>match o with
   | aa=>if aa=true then
    some (⟨a0.B,a0.At,a0.Row,a0.Open,af (a0.At - a0.Row),a0.cr,a0.Text,a0.L⟩:aF)
   else
    some a0):Option aF).bind fun o=>match o with
  | j=>((if a1=(2:Int) then
    some j
   else
    if a1=(3:Int) then
     some j
    else
     if a1=(5:Int) then
      some j
     else
      if a1=(20:Int) then
       some j
      else
       some (⟨j.B,j.At,j.Row,j.Open,j.bY,false,j.Text,j.L⟩:aF)):Option aF).bind fun o=>match o with
   | I=>if I.L.length+[(⟨a1,I.At,J⟩:al)].length≤5864062014805 then
    some (⟨I.B,J,I.Row,I.Open,I.bY,I.cr,I.Text,I.L++[(⟨a1,I.At,J⟩:al)]⟩:aF)
   else none
theorem dW (F:Nat) {h:AH} {Z:Zn} {a0:aF} {a1:Int} {U:Int} {I aj J an} (hP:Pre Z h [.ae I (bf aj J a0), .gs J an (aa al)]) (aU:RS (α:=UInt8) Z aj a0.B) (aV:RCs (α:=al) Z an a0.L) {r:aF} (hm:cX F a0 a1 U=some r):
  bQ Try.prog 37 [Pt I 0,V a1,V U] h Z [.ae I (bf aj J a0), .gs J an (aa al)] fun v Z' A'=>∃ aW v10 aZ, .tuple #[]=v∧A'=[.ae I (bf aW v10 r), .gs v10 aZ (aa al)]∧RS (α:=UInt8) Z' aW r.B∧RCs (α:=al) Z' aZ r.L:=by
 refine b6 Try.func37 hP ?_
 intro hs hS
 unfold cX at hm
 refine sq ?_
 obtain ⟨bd,au,hm⟩:=ah hm
 refine aI [0,1,2] (fun l h=>∃ aE ad ao ar,ad=bd∧RS (α:=UInt8) aE ao ad.B∧RCs (α:=al) aE ar ad.L∧l=[(0,Pt I 0),(1,V a1),(2,V U)]∧St hs (aR [.ae I (bf aj J a0), .gs J an (aa al)]) Z (0,0) aE h [.ae I (bf ao J ad), .gs J ar (aa al)]) ?_ ?_
 rintro l bB ⟨aE,ad,ao,ar,rfl,ax,ay,rfl,az⟩
 try dsimp only at hm
 refine sq ?_
 obtain ⟨bg,ai,hm⟩:=ah hm
 refine aI [0,1,2] (fun l h=>∃ aA ab aq aG,ab=bg∧RS (α:=UInt8) aA aq ab.B∧RCs (α:=al) aA aG ab.L∧l=[(0,Pt I 0),(1,V a1),(2,V U)]∧St hs (aR [.ae I (bf aj J a0), .gs J an (aa al)]) Z (0,0) aA h [.ae I (bf aq J ab), .gs J aG (aa al)]) ?_ ?_
 rintro l bC ⟨aA,ab,aq,aG,rfl,bh,bj,rfl,bk⟩
 try dsimp only at hm
 refine cU wK bk ?_
 intro a2 bD a3 aH
 refine yq 4 [(51,Pt I 7),(48,Pt I 0),(0,Pt I 0),(1,V a1),(2,V U)] ?_
 have bE:I<a2:=a3.1 _ (List.mem_of_getElem? (i:=0) rfl) _ (by simp [Itm.ids])
 refine aX (v:=J) rfl trivial rfl (by show I<_;omega) (aC (v:=J) (aH.di (i:=1) rfl)) (aH.aS (i:=0) rfl (by kernel_rfl)) trivial<|yq 4 [(56,Pt I 1),(53,V a1),(52,J),(48,Pt I 0),(0,Pt I 0),(2,V U)] ?_
 have bF:I<a2:=a3.1 _ (List.mem_of_getElem? (i:=0) rfl) _ (by simp [Itm.ids])
 refine aX (v:=V ab.At) rfl trivial rfl (by show I<_;omega) (aC (v:=V ab.At) trivial) (aH.aS (i:=0) rfl (by kernel_rfl)) trivial<|yq 2 [(59, .agg #[V a1,V ab.At,V U]),(52,J),(48,Pt I 0),(0,Pt I 0),(2,V U)] ?_
 have bl:RCs (α:=al) aA [V a1,V ab.At,V U] [(⟨a1,ab.At,U⟩:al)]:=RCs.cons (cs:=[V a1,V ab.At,V U]) rfl (RCs.bu _)
 refine jE rfl trivial (c3 (cells:=[V a1,V ab.At,V U]) (s:=3) (by kernel_rfl)) (by kernel_rfl) aH (by omega) (Nat.add_lt_add_left (by decide) _) ?_
 intro a4 bH bI bK bL a6
 obtain ⟨bM,hm⟩:=aJ hm
 have aK:St _ _ _ _ _ _ ([.gs J aG (aa al)]++[.gs a4 [V a1,V ab.At,V U] (aa al), .ae I (bf aq J ab)]):=(a6.front 2 rfl)
 refine iK rfl trivial aK (dM (ys:=[(⟨a1,ab.At,U⟩:al)]) (bP:=24) aK.sub (i:=0) rfl bj ((a6.cM).eI (j:=0) rfl bl) rfl rfl (by kernel_rfl) (by omega) (by omega)) (aM.refl _) (.a5 (aK.bJ 1 rfl bO) (.a5 (aK.bJ 1 rfl bO) .nil)) ?_
 rintro av a7 bN ⟨bm,aL⟩
 refine yq 2 [(63,Pt I 7),(61,av),(0,Pt I 0),(2,V U)] ?_
 have a8:St _ _ _ _ _ _ ([.ae I (bf aq J ab)]++[.gs av a7 (aa al), .gs a4 [V a1,V ab.At,V U] (aa al)]):=(aL.front 2 rfl)
 refine g3 rfl trivial a8 (gK (vs:=[av]) (cF:=(bf aq av ab)) (L':=[.ae I (bf aq av ab)]) a8.sub (i:=0) rfl rfl rfl (aL.fE (i:=0) rfl) (by kernel_rfl) (br (aL.fF (i:=0) rfl) cm) rfl rfl rfl) (aM.refl _) (.drop (by decide) (.drop (by decide) .nil)) ?_
 intro bR bn
 refine yf [(0,Pt I 0),(2,V U)] ?_
 have bo:=bn.aY
 refine g0<|bG 4 0 (V U) [V U] [aq,V U,V ab.Row,V ab.Open,V ab.bY, .bool ab.cr,V ab.Text,av] bo rfl rfl rfl ?_
 intro bS bp
 refine xn 0 ?_
 obtain rfl:=si hm
 refine ⟨_,_,_,ResL.nil,(bp.takeN 2),?_⟩
 exact ⟨aq,av,a7,rfl,rfl,bh,bm⟩
 refine s0<|cS 1 ai ?_ ?_<;>intro bT ai
 refine xn 12<|dF<|sk ?_
 obtain rfl:=si ai
 exact ⟨_,ad,ao,ar,rfl,ax,ay,(by kernel_rfl),az⟩
 refine cS 2 ai ?_ ?_<;>intro bU ai
 refine xn 9<|dF<|sk ?_
 obtain rfl:=si ai
 exact ⟨_,ad,ao,ar,rfl,ax,ay,(by kernel_rfl),az⟩
 refine cS 3 ai ?_ ?_<;>intro bV ai
 refine xn 5<|dF<|sk ?_
 obtain rfl:=si ai
 exact ⟨_,ad,ao,ar,rfl,ax,ay,(by kernel_rfl),az⟩
 refine cS 3 ai ?_ ?_<;>intro bW ai
 refine xn 1<|dF<|sk ?_
 obtain rfl:=si ai
 exact ⟨_,ad,ao,ar,rfl,ax,ay,(by kernel_rfl),az⟩
 refine xn 1<|dT<|g0<|bG 3 0 (.bool false) [.bool false] [ao,V ad.At,V ad.Row,V ad.Open,V ad.bY, .bool false,V ad.Text,J] az rfl rfl rfl ?_
 intro bX bq
 refine xn 0 ?_
 obtain rfl:=si ai
 exact ⟨_,(⟨ad.B,ad.At,ad.Row,ad.Open,ad.bY,false,ad.Text,ad.L⟩:aF),ao,ar,rfl,ax,ay,(by kernel_rfl),bq⟩
 refine sq ?_
 obtain ⟨bw,ak,au⟩:=ah au
 refine aI [0,1,2,18] (fun l h=>∃ a9 aO,aO=bw∧l=[(0,Pt I 0),(1,V a1),(2,V U),(18, .bool aO)]∧St hs (aR [.ae I (bf aj J a0), .gs J an (aa al)]) Z (0,0) a9 h [.ae I (bf aj J a0), .gs J an (aa al)]) ?_ ?_
 rintro l bZ ⟨a9,aO,rfl,rfl,aw⟩
 try dsimp only at au
 refine db au ?_ ?_<;>intro b0 au
 refine ey CK aw ?_
 intro ba b1 bb aQ
 refine yq 4 [(22,Pt I 1),(19,Pt I 0),(0,Pt I 0),(1,V a1),(2,V U)] ?_
 have b2:I<ba:=bb.1 _ (List.mem_of_getElem? (i:=0) rfl) _ (by simp [Itm.ids])
 refine aX (v:=V a0.At) rfl trivial rfl (by show I<_;omega) (aC (v:=V a0.At) trivial) (aQ.aS (i:=0) rfl (by kernel_rfl)) trivial<|yq 3 [(26,Pt I 2),(23,V a0.At),(19,Pt I 0),(0,Pt I 0),(1,V a1),(2,V U)] ?_
 have b3:I<ba:=bb.1 _ (List.mem_of_getElem? (i:=0) rfl) _ (by simp [Itm.ids])
 refine aX (v:=V a0.Row) rfl trivial rfl (by show I<_;omega) (aC (v:=V a0.Row) trivial) (aQ.aS (i:=0) rfl (by kernel_rfl)) trivial<|yq 3 [(30,Pt I 4),(28,V (af (a0.At - a0.Row))),(0,Pt I 0),(1,V a1),(2,V U)] ?_
 have bc:St _ _ _ _ _ _ ([.ae I (bf aj J a0)]++[.gs J an (aa al)]):=(aQ.front 0 rfl)
 refine g3 rfl trivial bc (gK (vs:=[V (af (a0.At - a0.Row))]) (cF:=[aj,V a0.At,V a0.Row,V a0.Open,V (af (a0.At - a0.Row)), .bool a0.cr,V a0.Text,J]) (L':=[.ae I [aj,V a0.At,V a0.Row,V a0.Open,V (af (a0.At - a0.Row)), .bool a0.cr,V a0.Text,J]]) bc.sub (i:=0) rfl rfl rfl rfl (by kernel_rfl) rfl rfl rfl rfl) (aM.refl _) (.drop (by decide) (.drop (by decide) .nil)) ?_
 intro b4 bx
 refine yf [(0,Pt I 0),(1,V a1),(2,V U)] ?_
 have bz:=bx.aY
 obtain rfl:=si au
 exact ⟨_,(⟨a0.B,a0.At,a0.Row,a0.Open,af (a0.At - a0.Row),a0.cr,a0.Text,a0.L⟩:aF),aj,an,rfl,(aU.mono aw.ag),(aV.mono aw.ag),(by kernel_rfl),bz⟩
 refine sk ?_
 obtain rfl:=si au
 exact ⟨_,a0,aj,an,rfl,(aU.mono aw.ag),(aV.mono aw.ag),(by kernel_rfl),aw⟩
 refine g0 ?_
 obtain ⟨b5,bA,ak⟩:=ah ak
 refine cP 1 hS (ja F hS.inv bA) ?_
 rintro _ b7 aD rfl
 refine kb 1 8 ak ?_ ?_<;>intro b8 ak
 refine cS 1 ak ?_ ?_<;>intro b9 ak
 refine xn 8 ?_
 obtain rfl:=si ak
 exact ⟨_,false,rfl,(by kernel_rfl),aD⟩
 refine aB 5 0 (V a0.bY) aD rfl<|aP 0 ak ?_ ?_<;>intro ca ak
 refine xn 1 ?_
 obtain rfl:=si ak
 exact ⟨_,true,rfl,(by kernel_rfl),aD⟩
 refine xn 1 ?_
 obtain rfl:=si ak
 exact ⟨_,false,rfl,(by kernel_rfl),aD⟩
 refine xn 10 ?_
 obtain rfl:=si ak
 exact ⟨_,false,rfl,(by kernel_rfl),aD⟩
def correctorref6_scanner_rowEnd_l0 (F:Nat) (a0:aF) (a1:Int):Nat→Int→Option Int
 | 0,_=>none
 | n+1,j=>
  if j<(a0.B.length:Int) then
   (correctorref2_Break F a0.B j).bind fun I=>
   if I=(0:Int) then
    correctorref6_scanner_rowEnd_l0 F a0 a1 n (af (j+1))
   else
    some j
  else
   some j
def fS (F:Nat) (a0:aF) (a1:Int):Option Int:=
 ((correctorref6_scanner_rowEnd_l0 F a0 a1 F a1):Option Int).bind fun o=>match o with
  | j=>some j
theorem k3 (F:Nat) {h:AH} {Z:Zn} {a0:aF} {a1:Int} {ab U ai} (hI:Inv Z h) (aj:RS (α:=UInt8) Z U a0.B) (av:RS (α:=al) Z ai a0.L) (ak:Z ab=some (bf U ai a0)) {r:Int} (hm:fS F a0 a1=some r):
  b3 Try.prog 59 [Pt ab 0,V a1] h Z (V r):=by
 refine b4 Try.func59 hI ?_
 intro hs hS
 unfold fS at hm
 refine sp 1<|sq ?_
 obtain ⟨ad,j,hm⟩:=ah hm
 refine aI [1] (fun l h=>∃ an aa,aa=ad∧l=[(1,V aa)]∧St hs [] Z (0,0) an h []) ?_ ?_
 rintro l aw ⟨an,aa,rfl,rfl,ar⟩
 try dsimp only at hm
 refine sp 2<|rt<|⟨rfl,?_⟩
 obtain rfl:=si hm
 refine ⟨_,_,_,tk (V aa) (ResL.nil),ar,?_⟩
 exact rfl
 refine bk 0<|lp [0,1] (fun n l h=>∃ ao J,correctorref6_scanner_rowEnd_l0 F a0 a1 n J=some ad∧l=[(0,Pt ab 0),(1,V J)]∧St hs [] Z (0,0) ao h []) F ⟨_,a1,j,(by kernel_rfl),hS⟩ ?_
 rintro ae l ax ⟨ao,J,j,rfl,I⟩
 rcases ae with _ | ae
 cases (show none=some ad from j)
 rw [correctorref6_scanner_rowEnd_l0] at j
 refine sq<|s0<|bw 4 U I (I.ag _ _ ak)<|bD 0 U (RS.len (aj.mono I.ag))<|aP 0 j ?_ ?_<;>intro ay j
 refine bw 4 U I (I.ag _ _ ak) ?_
 obtain ⟨az,au,j⟩:=ah j
 refine cP 1 I (lH F I.inv (aj.mono I.ag) au) ?_
 rintro _ aA aq rfl
 refine aG 0 j ?_ ?_<;>intro aB j
 refine xn 1<|dT<|sk<|bk 1<|gp 3 ?_
 exact ⟨ae,Nat.lt_succ_self _,⟨_,af (J+1),j,(by kernel_rfl),aq⟩⟩
 refine xn 1<|dF<|xt 0<|aO ?_
 obtain rfl:=si j
 exact ⟨_,J,rfl,(by kernel_rfl),aq⟩
 refine xn 9<|dF<|xt 0<|aO ?_
 obtain rfl:=si j
 exact ⟨_,J,rfl,(by kernel_rfl),I⟩
def Ef:List bt:=[uP 13 (mv 0),uP 14 (nk 13),uP 15 (fa 81 14 1),uL 16 (ld 3 15),uP 17 (mv 0),uP 18 (nk 17),uP 19 (fa 81 18 0),uL 20 (ld 31 19),uP 21 (cb .len #[(t 20)] #[31]),uP 22 (bo .lss 3 16 21 3),uP 23 (mv 22),aK 23 24 (mv 0),aK 23 25 (mv 0),aK 23 26 (nk 25),aK 23 27 (fa 81 26 1),cJ 23 28 (ld 3 27),jB 23 (some 29) (cf 36 #[(t 24),(t 28)] #[79,3]) .make [3,7,15],aK 23 30 (bc .eql 3 29 0 3),uP 31 (pf 23 30)]
def correctorref6_scanner_texts_l1 (F:Nat) (a0:aF):Nat→aF→Int→Int→Option (aF×Int×Int)
 | 0,_,_,_=>none
 | n+1,I,J,j=>
  if j<J then
   if 0≤j∧j<(I.B.length:Int) then
    (I.B[j.toNat]?).bind fun U=>
    if (U.toNat:Int)=(32:Int) then
     correctorref6_scanner_texts_l1 F a0 n I J (af (j+1))
    else
     some (I,J,j)
   else none
  else
   some (I,J,j)
def correctorref6_scanner_texts_l2 (F:Nat) (a0:aF):Nat→aF→Int→Int→Int→Option (aF×Int×Int×Int)
 | 0,_,_,_,_=>none
 | n+1,I,J,U,j=>
  if j<J then
   if 0≤j∧j<(I.B.length:Int) then
    (I.B[j.toNat]?).bind fun aa=>
    (gy F (aa.toNat:Int)).bind fun ab=>
    if ab=true then
     correctorref6_scanner_texts_l2 F a0 n I J U (af (j+1))
    else
     some (I,J,U,j)
   else none
  else
   some (I,J,U,j)
def correctorref6_scanner_texts_l0 (F:Nat) (a0:aF):Nat→aF→Option (Sum aF aF)
 | 0,_=>none
 | n+1,j=>
  if j.At<(j.B.length:Int) then
   (lg F j j.At).bind fun ab=>
   if ab=(0:Int) then
    (fS F j j.At).bind fun ad=>
    ((correctorref6_scanner_texts_l1 F a0 F j ad j.At):Option (aF×Int×Int)).bind fun o=>match o with
     | (ae,ag,U)=>((correctorref6_scanner_texts_l2 F a0 F ae ag U U):Option (aF×Int×Int×Int)).bind fun o=>match o with
      | (I,J,ah,ai)=>((if ai<J then
        if (af (ah - I.At))≤a0.Text then
         some (.inr I)
        else
         some (.inl I)
       else
        some (.inl I)):Option (Sum aF aF)).bind fun o=>match o with
       | .inl aa=>(correctorref2_Break F aa.B J).bind fun aj=>
       (cX F aa 19 (af (J+aj))).bind fun ak=>
       (od F ak).bind fun an=>
       correctorref6_scanner_texts_l0 F a0 n an
       | .inr y=>some (.inr y)
   else
    some (.inl j)
  else
   some (.inl j)
def nD (F:Nat) (a0:aF):Option aF:=
 ((correctorref6_scanner_texts_l0 F a0 F (⟨a0.B,a0.At,a0.Row,a0.Open,a0.bY,a0.cr,(-2),a0.L⟩:aF)):Option (Sum aF aF)).bind fun o=>match o with
  | .inl j=>some j
  | .inr y=>some y
theorem xM (F:Nat) {h:AH} {Z:Zn} {a0:aF} {j ag J ai} (hP:Pre Z h [.ae j (bf ag J a0), .gs J ai (aa al)]) (cg:RS (α:=UInt8) Z ag a0.B) (ch:RCs (α:=al) Z ai a0.L) {r:aF} (hm:nD F a0=some r):
  bQ Try.prog 57 [Pt j 0] h Z [.ae j (bf ag J a0), .gs J ai (aa al)] fun v Z' A'=>∃ b1 v10 b2, .tuple #[]=v∧A'=[.ae j (bf b1 v10 r), .gs v10 b2 (aa al)]∧RS (α:=UInt8) Z' b1 r.B∧RCs (α:=al) Z' b2 r.L:=by
 refine b6 Try.func57 hP ?_
 intro hs hS
 unfold nD at hm
 refine s0<|aB 3 0 (V a0.Text) hS rfl<|xn 1<|s0<|bG 3 0 (V (-2)) [V (-2)] [ag,V a0.At,V a0.Row,V a0.Open,V a0.bY, .bool a0.cr,V (-2),J] hS rfl rfl rfl ?_
 intro c7 cj
 refine xn 0 ?_
 obtain ⟨bE,I,hm⟩:=ah hm
 refine aI [] (fun l h=>∃ bc a1 bd bg bh, .inl a1=bE∧RS (α:=UInt8) bc bd a1.B∧RCs (α:=al) bc bh a1.L∧l=[]∧St hs (aR [.ae j (bf ag J a0), .gs J ai (aa al)]) Z (0,0) bc h [.ae j (bf bd bg a1), .gs bg bh (aa al)]) ?_ ?_
 rintro l c8 ⟨bc,a1,bd,bg,bh,rfl,ck,cl,rfl,cm⟩
 try dsimp only at hm
 obtain rfl:=si hm
 refine ⟨_,_,_,ResL.nil,cm,?_⟩
 exact ⟨bd,bg,bh,rfl,rfl,ck,cl⟩
 refine bk 0<|lp [0,2] (fun n l h=>∃ bl U aj ak an,correctorref6_scanner_texts_l0 F a0 n U=some bE∧RS (α:=UInt8) bl aj U.B∧RCs (α:=al) bl an U.L∧l=[(0,Pt j 0),(2,V a0.Text)]∧St hs (aR [.ae j (bf ag J a0), .gs J ai (aa al)]) Z (0,0) bl h [.ae j (bf aj ak U), .gs ak an (aa al)]) F ⟨_,(⟨a0.B,a0.At,a0.Row,a0.Open,a0.bY,a0.cr,(-2),a0.L⟩:aF),ag,J,ai,I,cg,ch,(by kernel_rfl),cj⟩ ?_
 rintro bF l c9 ⟨bl,U,aj,ak,an,I,au,a4,rfl,cn⟩
 rcases bF with _ | bF
 cases (show none=some bE from I)
 rw [correctorref6_scanner_texts_l0] at I
 refine sq<|cU Ef cn ?_
 intro bH da bI ay
 refine yq 3 [(15,Pt j 1),(0,Pt j 0),(2,V a0.Text)] ?_
 have dc:j<bH:=bI.1 _ (List.mem_of_getElem? (i:=0) rfl) _ (by simp [Itm.ids])
 refine aX (v:=V U.At) rfl trivial rfl (by show j<_;omega) (aC (v:=V U.At) trivial) (ay.aS (i:=0) rfl (by kernel_rfl)) trivial<|yq 3 [(19,Pt j 0),(16,V U.At),(0,Pt j 0),(2,V a0.Text)] ?_
 have dd:j<bH:=bI.1 _ (List.mem_of_getElem? (i:=0) rfl) _ (by simp [Itm.ids])
 refine aX (v:=aj) rfl trivial rfl (by show j<_;omega) (aC (v:=aj) (RS.dG au)) (ay.aS (i:=0) rfl (by kernel_rfl)) trivial<|aD rfl trivial (gG rfl (RS.len au) ⟨_,Try.underlying31⟩) ?_
 rcases ifs I with ⟨bJ,I⟩ | ⟨bJ,I⟩
 refine aD rfl trivial (a9 rfl rfl (l2 bJ))<|yq 5 [(27,Pt j 1),(24,Pt j 0),(23, .bool true),(0,Pt j 0),(2,V a0.Text)] ?_
 have de:j<bH:=bI.1 _ (List.mem_of_getElem? (i:=0) rfl) _ (by simp [Itm.ids])
 refine aX (v:=V U.At) rfl rfl rfl (by show j<_;omega) (aC (v:=V U.At) trivial) (ay.aS (i:=0) rfl (by kernel_rfl)) trivial ?_
 obtain ⟨df,cp,I⟩:=ah I
 have b3:=ay.cM
 obtain ⟨dg,bK,cq,b4⟩:=St.jP (L:=[.ae j (bf aj ak U), .gs ak an (aa al)]) b3
 obtain ⟨dh,di,ct,bn,rfl⟩:=tT F cq (RS.mono bK au) (bj.row (b4 _ (List.mem_of_getElem? (i:=1) rfl)) bK a4) (b4 _ (List.mem_of_getElem? (i:=0) rfl)) cp
 replace bn:=St.jX bK bn
 have cu:=St.call (A:=[]) (B:=[.ae j (bf aj ak U), .gs ak an (aa al)]) b3 bn
 refine fv rfl rfl ay (dy ct rfl rfl rfl) cu (St.fw bn) ?_
 intro dj b5
 rcases ifs I with ⟨bL,I⟩ | ⟨bL,I⟩
 refine aD rfl rfl (a9 rfl rfl (eV bL))<|ye 1 [(31, .bool true),(0,Pt j 0),(2,V a0.Text)] ?_
 have b7:=b5.aY
 refine dT<|sk<|bk 1<|s0<|aB 4 0 (V U.At) b7 rfl ?_
 obtain ⟨cv,cw,I⟩:=ah I
 refine cE 0 b7 (fun dk b8 cx b9=>k3 F cx (RS.mono b8 au) (bj.row (b9 _ (List.mem_of_getElem? (i:=1) rfl)) b8 a4) (b9 _ (List.mem_of_getElem? (i:=0) rfl)) cw) ?_
 rintro _ dm ca rfl
 refine xn 1<|s0<|aB 3 0 (V U.At) ca rfl<|xn 1<|sq ?_
 obtain ⟨bM,ad,I⟩:=ah I
 refine aI [0,2,3,4] (fun l h=>∃ bo az bp a5 bq br bu,(az,bp,a5)=bM∧RS (α:=UInt8) bo bq az.B∧RCs (α:=al) bo bu az.L∧l=[(0,Pt j 0),(2,V a0.Text),(3,V bp),(4,V a5)]∧St hs (aR [.ae j (bf ag J a0), .gs J ai (aa al)]) Z (0,0) bo h [.ae j (bf bq br az), .gs br bu (aa al)]) ?_ ?_
 rintro l dn ⟨bo,az,bp,a5,bq,br,bu,rfl,cz,cB,rfl,cC⟩
 try dsimp only at I
 refine sp 2<|sq ?_
 obtain ⟨bN,ab,I⟩:=ah I
 refine aI [0,2,3,4,5] (fun l h=>∃ bw ao bx bO bP aA aE aH,(ao,bx,bO,bP)=bN∧RS (α:=UInt8) bw aA ao.B∧RCs (α:=al) bw aH ao.L∧l=[(0,Pt j 0),(2,V a0.Text),(3,V bx),(4,V bO),(5,V bP)]∧St hs (aR [.ae j (bf ag J a0), .gs J ai (aa al)]) Z (0,0) bw h [.ae j (bf aA aE ao), .gs aE aH (aa al)]) ?_ ?_
 rintro l dp ⟨bw,ao,bx,bO,bP,aA,aE,aH,rfl,bR,bS,rfl,bz⟩
 try dsimp only at I
 refine sq ?_
 obtain ⟨cD,av,I⟩:=ah I
 refine aI [0,2,3] (fun l h=>∃ bA a6 bB bT bU, .inl a6=cD∧RS (α:=UInt8) bA bB a6.B∧RCs (α:=al) bA bU a6.L∧l=[(0,Pt j 0),(2,V a0.Text),(3,V bx)]∧St hs (aR [.ae j (bf ag J a0), .gs J ai (aa al)]) Z (0,0) bA h [.ae j (bf bB bT a6), .gs bT bU (aa al)]) ?_ ?_
 rintro l dq ⟨bA,a6,bB,bT,bU,rfl,cb,cF,rfl,bV⟩
 try dsimp only at I
 refine s0<|aB 5 0 bB bV rfl ?_
 obtain ⟨dr,cG,I⟩:=ah I
 refine cP 1 bV (lH F bV.inv cb cG) ?_
 rintro _ ds cH rfl
 obtain ⟨dt,cI,I⟩:=ah I
 refine cA 1 cH (fun p=>dW F p cb cF cI) ?_
 rintro _ dv dw _ dx cJ ⟨dz,cK,dA,rfl,rfl,cL,cN⟩
 refine xn 0<|g0 ?_
 obtain ⟨cO,cQ,I⟩:=ah I
 refine cA 1 cJ (fun p=>qU F p cL cN cQ) ?_
 rintro _ dB dC _ dD cR ⟨cS,cT,rfl,rfl,cX,c0⟩
 refine xn 0 ?_
 exact ⟨bF,Nat.lt_succ_self _,⟨_,cO,cS,cK,cT,I,cX,c0,(by kernel_rfl),cR⟩⟩
 refine s0<|aP 2 av ?_ ?_<;>intro dH av
 refine aB 5 0 (V ao.At) bz rfl<|fH 2 av ?_ ?_<;>intro dI av
 refine xn 1<|dT<|rt<|a3<|a3<|⟨rfl,?_⟩
 obtain rfl:=si av
 obtain rfl:=si I
 obtain rfl:=si hm
 refine ⟨_,_,_,ResL.nil,bz,?_⟩
 exact ⟨aA,aE,aH,rfl,rfl,bR,bS⟩
 refine xn 1<|dF<|sk ?_
 obtain rfl:=si av
 exact ⟨_,ao,aA,aE,aH,rfl,bR,bS,(by kernel_rfl),bz⟩
 refine xn 10<|dF<|sk ?_
 obtain rfl:=si av
 exact ⟨_,ao,aA,aE,aH,rfl,bR,bS,(by kernel_rfl),bz⟩
 refine bk 4<|lp [0,2,3,4,5] (fun n l h=>∃ bC aq aJ aK aL aw aM aQ,correctorref6_scanner_texts_l2 F a0 n aq aJ aK aL=some bN∧RS (α:=UInt8) bC aw aq.B∧RCs (α:=al) bC aQ aq.L∧l=[(0,Pt j 0),(2,V a0.Text),(3,V aJ),(4,V aK),(5,V aL)]∧St hs (aR [.ae j (bf ag J a0), .gs J ai (aa al)]) Z (0,0) bC h [.ae j (bf aw aM aq), .gs aM aQ (aa al)]) F ⟨_,az,bp,a5,a5,bq,br,bu,ab,cz,cB,(by kernel_rfl),cC⟩ ?_
 rintro bW l dJ ⟨bC,aq,aJ,aK,aL,aw,aM,aQ,ab,a7,bX,rfl,a8⟩
 rcases bW with _ | bW
 cases (show none=some bN from ab)
 rw [correctorref6_scanner_texts_l2] at ab
 refine sq<|s0<|aP 2 ab ?_ ?_<;>intro dK ab
 refine aB 4 0 aw a8 rfl<|a2 1 ab a7 ?_
 intro dL ab
 refine bm 0 0 (fun cc=> .int .u8 (cc.toNat:Int)) ab a7 a8 ?_
 intro cc dM ab
 obtain ⟨dN,c3,ab⟩:=ah ab
 refine cP 0 a8 (jZ F a8.inv c3) ?_
 rintro _ dO cd rfl
 refine xn 1<|db ab ?_ ?_<;>intro dP ab
 refine sk<|bk 5<|gp 3 ?_
 exact ⟨bW,Nat.lt_succ_self _,⟨_,aq,aJ,aK,af (aL+1),aw,aM,aQ,ab,a7,bX,(by kernel_rfl),cd⟩⟩
 refine xt 4<|aO ?_
 obtain rfl:=si ab
 exact ⟨_,aq,aJ,aK,aL,aw,aM,aQ,rfl,a7,bX,(by kernel_rfl),cd⟩
 refine xn 10<|dF<|xt 4<|aO ?_
 obtain rfl:=si ab
 exact ⟨_,aq,aJ,aK,aL,aw,aM,aQ,rfl,a7,bX,(by kernel_rfl),a8⟩
 refine bk 2<|lp [0,2,3,4] (fun n l h=>∃ bD ar aU aV ax aW aZ,correctorref6_scanner_texts_l1 F a0 n ar aU aV=some bM∧RS (α:=UInt8) bD ax ar.B∧RCs (α:=al) bD aZ ar.L∧l=[(0,Pt j 0),(2,V a0.Text),(3,V aU),(4,V aV)]∧St hs (aR [.ae j (bf ag J a0), .gs J ai (aa al)]) Z (0,0) bD h [.ae j (bf ax aW ar), .gs aW aZ (aa al)]) F ⟨_,U,cv,U.At,aj,ak,an,ad,au,a4,(by kernel_rfl),ca⟩ ?_
 rintro bZ l dQ ⟨bD,ar,aU,aV,ax,aW,aZ,ad,ba,b0,rfl,bb⟩
 rcases bZ with _ | bZ
 cases (show none=some bM from ad)
 rw [correctorref6_scanner_texts_l1] at ad
 refine sq<|s0<|aP 2 ad ?_ ?_<;>intro dR ad
 refine aB 4 0 ax bb rfl<|a2 1 ad ba ?_
 intro dS ad
 refine bm 0 0 (fun cf=> .int .u8 (cf.toNat:Int)) ad ba bb ?_
 intro cf dU ad
 refine aG 0 ad ?_ ?_ (kd:= .u8)<;>intro dV ad
 refine xn 1<|dT<|sk<|bk 3<|gp 3 ?_
 exact ⟨bZ,Nat.lt_succ_self _,⟨_,ar,aU,af (aV+1),ax,aW,aZ,ad,ba,b0,(by kernel_rfl),bb⟩⟩
 refine xn 1<|dF<|xt 2<|aO ?_
 obtain rfl:=si ad
 exact ⟨_,ar,aU,aV,ax,aW,aZ,rfl,ba,b0,(by kernel_rfl),bb⟩
 refine xn 10<|dF<|xt 2<|aO ?_
 obtain rfl:=si ad
 exact ⟨_,ar,aU,aV,ax,aW,aZ,rfl,ba,b0,(by kernel_rfl),bb⟩
 refine aD rfl rfl (a9 rfl rfl (eX bL))<|ye 1 [(31, .bool false),(0,Pt j 0),(2,V a0.Text)] ?_
 have c4:=b5.aY
 refine dF<|xt 0<|aO ?_
 obtain rfl:=si I
 exact ⟨_,U,aj,ak,an,rfl,au,a4,(by kernel_rfl),c4⟩
 refine aD rfl trivial (a9 rfl rfl (lG bJ))<|ye 9 [(31, .bool false),(0,Pt j 0),(2,V a0.Text)] ?_
 have c6:=ay.aY
 refine dF<|xt 0<|aO ?_
 obtain rfl:=si I
 exact ⟨_,U,aj,ak,an,rfl,au,a4,(by kernel_rfl),c6⟩
def Cl:List bt:=[uP 7 (mv 0),uP 8 (nk 7),uP 9 (fa 81 8 0),uL 10 (ld 31 9),uP 11 (mv 0),uP 12 (nk 11),uP 13 (fa 81 12 1),uL 14 (ld 3 13),uP 15 (ia 31 10 14),uL 16 (ld 5 15),uP 3 (sg 16)]
def AL:List bt:=[uP 44 (mv 0),uP 45 (nk 44),uP 46 (fa 81 45 1),uL 47 (ld 3 46),uP 48 (mv 0),uP 49 (nk 48),uP 50 (fa 81 49 2),uL 51 (ld 3 50),uP 52 (bo .eql 3 47 51 3),uP 53 (mv 52),aK 53 54 (mv 3),aK 53 55 (.binOp .eql 5 (t 54) (.const (.int .u8 32)) 5),uP 56 (pf 53 55)]
def zm:List bt:=[uP 103 (mv 3),uP 104 (.binOp .eql 5 (t 103) (.const (.int .u8 35)) 5),uP 105 (mv 104),aK 105 106 (mv 0),aK 105 107 (nk 106),aK 105 108 (fa 81 107 1),cJ 105 109 (ld 3 108),aK 105 110 (mv 0),aK 105 111 (nk 110),aK 105 112 (fa 81 111 2),cJ 105 113 (ld 3 112),aK 105 114 (bo .eql 3 109 113 3),aK 105 115 (mv 114),bK 115 116 (mv 0),bK 115 117 (nk 116),bK 115 118 (fa 81 117 7),gj 115 119 (ld 24 118),bK 115 120 (mv 0),bK 115 121 (nk 120),bK 115 122 (fa 81 121 7),gj 115 123 (ld 24 122),bK 115 124 (cb .len #[(t 123)] #[24]),bK 115 125 (bc .sub 3 124 1 3),bK 115 126 (ia 24 119 125),bK 115 127 (fa 85 126 0),gj 115 128 (ld 3 127),bK 115 129 (bc .eql 3 128 2 3),aK 105 130 (pt 115 129),aK 105 131 (mv 130),bK 131 132 (mv 0),bK 131 133 (nk 132),bK 131 134 (fa 81 133 7),gj 131 135 (ld 24 134),bK 131 136 (mv 0),bK 131 137 (nk 136),bK 131 138 (fa 81 137 7),gj 131 139 (ld 24 138),bK 131 140 (cb .len #[(t 139)] #[24]),bK 131 141 (bc .sub 3 140 1 3),bK 131 142 (ia 24 135 141),bK 131 143 (fa 85 142 0),gj 131 144 (ld 3 143),bK 131 145 (bc .eql 3 144 3 3),aK 105 146 (pt 131 145),uP 147 (pf 105 146)]
def lu (F:Nat) (a0:aF):Nat→Int→Option Int
 | 0,_=>none
 | n+1,j=>
  if j<(a0.B.length:Int) then
   if 0≤j∧j<(a0.B.length:Int) then
    (a0.B[j.toNat]?).bind fun I=>
    if (I.toNat:Int)=(32:Int) then
     lu F a0 n (af (j+1))
    else
     some j
   else none
  else
   some j
def lM (F:Nat) (a0:aF):Nat→Int→Option Int
 | 0,_=>none
 | n+1,j=>
  if j<(a0.B.length:Int) then
   if 0≤j∧j<(a0.B.length:Int) then
    (a0.B[j.toNat]?).bind fun I=>
    (gy F (I.toNat:Int)).bind fun J=>
    if J=true then
     lM F a0 n (af (j+1))
    else
     some j
   else none
  else
   some j
def mi (F:Nat) (a0:aF):Option (Bool×aF):=
 if 0≤a0.At∧a0.At<(a0.B.length:Int) then
  (a0.B[a0.At.toNat]?).bind fun j=>
  (correctorref2_Break F a0.B a0.At).bind fun I=>
  if (0:Int)<I then
   (cX F a0 1 (af (a0.At+I))).bind fun J=>
   (od F J).bind fun U=>
   ((if (-1:Int)≤J.Text then
     (nD F U).bind fun aa=>
     some aa
    else
     some U):Option aF).bind fun o=>match o with
    | ab=>some (true,ab)
  else
   ((if a0.At=a0.Row then
     if (j.toNat:Int)=(32:Int) then
      some true
     else
      some false
    else
     some false):Option Bool).bind fun o=>match o with
    | ad=>if ad=true then
     ((lu F a0 F a0.At):Option Int).bind fun o=>match o with
      | ae=>(cX F a0 2 ae).bind fun ag=>
      some (true,ag)
    else
     (gy F (j.toNat:Int)).bind fun ah=>
     if ah=true then
      ((lM F a0 F a0.At):Option Int).bind fun o=>match o with
       | ai=>(cX F a0 3 ai).bind fun aj=>
       some (true,aj)
     else
      ((if (j.toNat:Int)=(35:Int) then
        if a0.At=a0.Row then
         (fS F a0 a0.At).bind fun ak=>
         (cX F a0 4 ak).bind fun an=>
         some (.inr (true,an))
        else
         if 0≤(af ((a0.L.length:Int) - 1))∧(af ((a0.L.length:Int) - 1))<(a0.L.length:Int) then
          (a0.L[(af ((a0.L.length:Int) - 1)).toNat]?).bind fun ao=>
          if ao.Kind=(2:Int) then
           (fS F a0 a0.At).bind fun aq=>
           (cX F a0 4 aq).bind fun ar=>
           some (.inr (true,ar))
          else
           if 0≤(af ((a0.L.length:Int) - 1))∧(af ((a0.L.length:Int) - 1))<(a0.L.length:Int) then
            (a0.L[(af ((a0.L.length:Int) - 1)).toNat]?).bind fun au=>
            if au.Kind=(3:Int) then
             (fS F a0 a0.At).bind fun av=>
             (cX F a0 4 av).bind fun aw=>
             some (.inr (true,aw))
            else
             some (.inl ())
           else none
         else none
       else
        some (.inl ())):Option (Sum Unit (Bool×aF))).bind fun o=>match o with
       | .inl ()=>some (false,a0)
       | .inr y=>some y
 else none
theorem CH (F:Nat) {h:AH} {Z:Zn} {a0:aF} {I ab J an} (hP:Pre Z h [.ae I (bf ab J a0), .gs J an (aa al)]) (aj:RS (α:=UInt8) Z ab a0.B) (ak:RCs (α:=al) Z an a0.L) {r:Bool×aF} (hm:mi F a0=some r):
  bQ Try.prog 38 [Pt I 0] h Z [.ae I (bf ab J a0), .gs J an (aa al)] fun v Z' A'=>∃ bq v10 br, .bool r.1=v∧A'=[.ae I (bf bq v10 r.2), .gs v10 br (aa al)]∧RS (α:=UInt8) Z' bq r.2.B∧RCs (α:=al) Z' br r.2.L:=by
 refine b6 Try.func38 hP ?_
 intro hs hS
 unfold mi at hm
 refine sp 1<|cU Cl hS ?_
 intro bu en bw aL
 refine yq 3 [(9,Pt I 0),(0,Pt I 0)] ?_
 have ep:I<bu:=bw.1 _ (List.mem_of_getElem? (i:=0) rfl) _ (by simp [Itm.ids])
 refine aX (v:=ab) rfl trivial rfl (by show I<_;omega) (aC (v:=ab) (RS.dG aj)) (aL.aS (i:=0) rfl (by kernel_rfl)) trivial<|yq 3 [(13,Pt I 1),(10,ab),(0,Pt I 0)] ?_
 have er:I<bu:=bw.1 _ (List.mem_of_getElem? (i:=0) rfl) _ (by simp [Itm.ids])
 refine aX (v:=V a0.At) rfl trivial rfl (by show I<_;omega) (aC (v:=V a0.At) trivial) (aL.aS (i:=0) rfl (by kernel_rfl)) trivial ?_
 obtain ⟨bx,hm⟩:=aJ hm
 refine aD rfl trivial (bA rfl rfl (by kernel_rfl:slTy _ _=some (aa UInt8)) (RS.cQ aj (by omega)) bx.1 bx.2) ?_
 obtain ⟨ar,ca,hm⟩:=ah hm
 obtain ⟨et,cb,cc⟩:=RS.bR aj (i:=a0.At) ca
 obtain rfl:=pC cb
 refine ct rfl rfl trivial (fun h2 hz=>bH (w:= .int .u8 (ar.toNat:Int)) (cc h2 hz) rfl (by kernel_rfl)) (aL.bM (aM.refl _)) (aC (v:= .int .u8 (ar.toNat:Int)) trivial) trivial<|ye 1 [(3, .int .u8 (ar.toNat:Int)),(0,Pt I 0)] ?_
 have aQ:=aL.aY
 refine s0<|aB 3 0 (V a0.At) aQ rfl<|xn 1<|sq<|s0<|aB 3 0 ab aQ rfl ?_
 obtain ⟨eu,cd,hm⟩:=ah hm
 refine cP 1 aQ (lH F aQ.inv aj cd) ?_
 rintro _ ew bz rfl
 refine xn 1<|s0<|cH 1 hm ?_ ?_<;>intro ez hm
 refine xn 0<|dT<|s0 ?_
 obtain ⟨cf,cg,hm⟩:=ah hm
 refine cA 4 bz (fun p=>dW F p aj ak cg) ?_
 rintro _ eA eB _ eC bB ⟨eD,ch,eE,rfl,rfl,cj,ck⟩
 refine xn 0<|s0<|aB 3 0 (V cf.Text) bB rfl<|xn 1<|s0 ?_
 obtain ⟨cl,cm,hm⟩:=ah hm
 refine cA 1 bB (fun p=>qU F p cj ck cm) ?_
 rintro _ eF eG _ eH bC ⟨cn,cq,rfl,rfl,bE,bF⟩
 refine xn 0<|sq ?_
 obtain ⟨cr,az,hm⟩:=ah hm
 refine eo [] (fun l h=>∃ aU aH aV aW aZ,aH=cr∧RS (α:=UInt8) aU aV aH.B∧RCs (α:=al) aU aZ aH.L∧l=[]∧St hs (aR [.ae I (bf ab J a0), .gs J an (aa al)]) Z (0,0) aU h [.ae I (bf aV aW aH), .gs aW aZ (aa al)]) (by kernel_rfl) ?_ ?_
 rintro l eI ⟨aU,aH,aV,aW,aZ,rfl,cu,cv,rfl,cw⟩
 try dsimp only at hm
 refine sp 1<|rt<|⟨rfl,?_⟩
 obtain rfl:=si hm
 refine ⟨_,_,_,tk (.bool true) (ResL.nil),cw,?_⟩
 exact ⟨aV,aW,aZ,rfl,rfl,cu,cv⟩
 refine g0<|cC 1 az ?_ ?_<;>intro eJ az
 refine xn 0<|dT<|g0 ?_
 obtain ⟨cx,cz,az⟩:=ah az
 refine cA 1 bC (fun p=>xM F p bE bF cz) ?_
 rintro _ eK eL _ eM cB ⟨cD,cF,cG,rfl,rfl,cI,cJ⟩
 refine xn 0 ?_
 obtain rfl:=si az
 exact ⟨_,cx,cD,cF,cG,rfl,cI,cJ,(by kernel_rfl),cB⟩
 refine xn 0<|dF<|sk ?_
 obtain rfl:=si az
 exact ⟨_,cl,cn,ch,cq,rfl,bE,bF,(by kernel_rfl),bC⟩
 refine xn 0<|dF<|sk<|sq<|sq ?_
 obtain ⟨cK,au,hm⟩:=ah hm
 refine aI [0,3,4,56] (fun l h=>∃ bG a1,a1=cK∧l=[(0,Pt I 0),(3, .int .u8 (ar.toNat:Int)),(4,V a0.At),(56, .bool a1)]∧St hs (aR [.ae I (bf ab J a0), .gs J an (aa al)]) Z (0,0) bG h [.ae I (bf ab J a0), .gs J an (aa al)]) ?_ ?_
 rintro l eN ⟨bG,a1,rfl,rfl,ad⟩
 try dsimp only at hm
 refine db hm ?_ ?_<;>intro eO hm
 refine sq ?_
 obtain ⟨a3,aq,hm⟩:=ah hm
 refine aI [0,4] (fun l h=>∃ bI a4,a4=a3∧l=[(0,Pt I 0),(4,V a4)]∧St hs (aR [.ae I (bf ab J a0), .gs J an (aa al)]) Z (0,0) bI h [.ae I (bf ab J a0), .gs J an (aa al)]) ?_ ?_
 rintro l eP ⟨bI,a4,rfl,rfl,a5⟩
 try dsimp only at hm
 refine s0 ?_
 obtain ⟨eQ,cL,hm⟩:=ah hm
 refine cA 2 a5 (fun p=>dW F p (aj.mono a5.ag) (ak.mono a5.ag) cL) ?_
 rintro _ eR eS _ eT cM ⟨cN,cO,cR,rfl,rfl,cS,cT⟩
 refine xn 0<|sp 1<|rt<|⟨rfl,?_⟩
 obtain rfl:=si hm
 refine ⟨_,_,_,tk (.bool true) (ResL.nil),cM,?_⟩
 exact ⟨cN,cO,cR,rfl,rfl,cS,cT⟩
 refine bk 0<|lp [0,4] (fun n l h=>∃ bJ aA,lu F a0 n aA=some a3∧l=[(0,Pt I 0),(4,V aA)]∧St hs (aR [.ae I (bf ab J a0), .gs J an (aa al)]) Z (0,0) bJ h [.ae I (bf ab J a0), .gs J an (aa al)]) F ⟨_,a0.At,aq,(by kernel_rfl),ad⟩ ?_
 rintro a6 l eU ⟨bJ,aA,aq,rfl,av⟩
 rcases a6 with _ | a6
 cases (show none=some a3 from aq)
 rw [lu] at aq
 refine sq<|s0<|aB 4 0 ab av rfl<|bD 0 ab (RS.len (aj.mono av.ag))<|aP 0 aq ?_ ?_<;>intro eW aq
 refine aB 4 0 ab av rfl<|a2 1 aq (aj.mono av.ag) ?_
 intro eY aq
 refine bm 0 0 (fun bK=> .int .u8 (bK.toNat:Int)) aq (aj.mono av.ag) av ?_
 intro bK e0 aq
 refine aG 0 aq ?_ ?_ (kd:= .u8)<;>intro e2 aq
 refine xn 1<|dT<|sk<|bk 1<|gp 3 ?_
 exact ⟨a6,Nat.lt_succ_self _,⟨_,af (aA+1),aq,(by kernel_rfl),av⟩⟩
 refine xn 1<|dF<|xt 0<|aO ?_
 obtain rfl:=si aq
 exact ⟨_,aA,rfl,(by kernel_rfl),av⟩
 refine xn 10<|dF<|xt 0<|aO ?_
 obtain rfl:=si aq
 exact ⟨_,aA,rfl,(by kernel_rfl),av⟩
 refine sk<|sq<|s0 ?_
 obtain ⟨e3,cX,hm⟩:=ah hm
 refine cP 1 ad (jZ F ad.inv cX) ?_
 rintro _ e4 bL rfl
 refine xn 0<|db hm ?_ ?_<;>intro e5 hm
 refine sq ?_
 obtain ⟨a7,ao,hm⟩:=ah hm
 refine aI [0,4] (fun l h=>∃ bO a8,a8=a7∧l=[(0,Pt I 0),(4,V a8)]∧St hs (aR [.ae I (bf ab J a0), .gs J an (aa al)]) Z (0,0) bO h [.ae I (bf ab J a0), .gs J an (aa al)]) ?_ ?_
 rintro l e6 ⟨bO,a8,rfl,rfl,bb⟩
 try dsimp only at hm
 refine s0 ?_
 obtain ⟨e7,c0,hm⟩:=ah hm
 refine cA 2 bb (fun p=>dW F p (aj.mono bb.ag) (ak.mono bb.ag) c0) ?_
 rintro _ e8 e9 _ fa c3 ⟨c4,c6,c7,rfl,rfl,c8,c9⟩
 refine xn 0<|sp 1<|rt<|⟨rfl,?_⟩
 obtain rfl:=si hm
 refine ⟨_,_,_,tk (.bool true) (ResL.nil),c3,?_⟩
 exact ⟨c4,c6,c7,rfl,rfl,c8,c9⟩
 refine bk 2<|lp [0,4] (fun n l h=>∃ bP aE,lM F a0 n aE=some a7∧l=[(0,Pt I 0),(4,V aE)]∧St hs (aR [.ae I (bf ab J a0), .gs J an (aa al)]) Z (0,0) bP h [.ae I (bf ab J a0), .gs J an (aa al)]) F ⟨_,a0.At,ao,(by kernel_rfl),bL⟩ ?_
 rintro bc l fb ⟨bP,aE,ao,rfl,aw⟩
 rcases bc with _ | bc
 cases (show none=some a7 from ao)
 rw [lM] at ao
 refine sq<|s0<|aB 4 0 ab aw rfl<|bD 0 ab (RS.len (aj.mono aw.ag))<|aP 0 ao ?_ ?_<;>intro fc ao
 refine aB 4 0 ab aw rfl<|a2 1 ao (aj.mono aw.ag) ?_
 intro fe ao
 refine bm 0 0 (fun bS=> .int .u8 (bS.toNat:Int)) ao (aj.mono aw.ag) aw ?_
 intro bS ff ao
 obtain ⟨fg,da,ao⟩:=ah ao
 refine cP 0 aw (jZ F aw.inv da) ?_
 rintro _ fh bT rfl
 refine xn 1<|db ao ?_ ?_<;>intro fi ao
 refine sk<|bk 3<|gp 3 ?_
 exact ⟨bc,Nat.lt_succ_self _,⟨_,af (aE+1),ao,(by kernel_rfl),bT⟩⟩
 refine xt 2<|aO ?_
 obtain rfl:=si ao
 exact ⟨_,aE,rfl,(by kernel_rfl),bT⟩
 refine xn 10<|dF<|xt 2<|aO ?_
 obtain rfl:=si ao
 exact ⟨_,aE,rfl,(by kernel_rfl),aw⟩
 refine sk<|sq ?_
 obtain ⟨dc,U,hm⟩:=ah hm
 refine eo [] (fun l h=>∃ bU, .inl ()=dc∧l=[]∧St hs (aR [.ae I (bf ab J a0), .gs J an (aa al)]) Z (0,0) bU h [.ae I (bf ab J a0), .gs J an (aa al)]) (by kernel_rfl) ?_ ?_
 rintro l fj ⟨bU,rfl,rfl,bd⟩
 try dsimp only at hm
 refine sp 1<|rt<|⟨rfl,?_⟩
 obtain rfl:=si hm
 refine ⟨_,_,_,tk (.bool false) (ResL.nil),bd,?_⟩
 exact ⟨ab,J,an,rfl,rfl,(aj.mono bd.ag),(ak.mono bd.ag)⟩
 refine ey zm bL ?_
 intro ax fk ay ai
 refine yq 1 [(103, .int .u8 (ar.toNat:Int)),(0,Pt I 0),(4,V a0.At)] ?_
 rcases ifs U with ⟨bg,U⟩ | ⟨bg,U⟩
 refine aD rfl trivial (a9 rfl rfl (eV bg))<|yq 4 [(108,Pt I 1),(105, .bool true),(0,Pt I 0),(4,V a0.At)] ?_
 have fl:I<ax:=ay.1 _ (List.mem_of_getElem? (i:=0) rfl) _ (by simp [Itm.ids])
 refine aX (v:=V a0.At) rfl rfl rfl (by show I<_;omega) (aC (v:=V a0.At) trivial) (ai.aS (i:=0) rfl (by kernel_rfl)) trivial<|yq 3 [(112,Pt I 2),(109,V a0.At),(105, .bool true),(0,Pt I 0),(4,V a0.At)] ?_
 have fm:I<ax:=ay.1 _ (List.mem_of_getElem? (i:=0) rfl) _ (by simp [Itm.ids])
 refine aX (v:=V a0.Row) rfl rfl rfl (by show I<_;omega) (aC (v:=V a0.Row) trivial) (ai.aS (i:=0) rfl (by kernel_rfl)) trivial ?_
 rcases ifs U with ⟨bh,U⟩ | ⟨bh,U⟩
 refine aD rfl rfl (a9 rfl rfl (eV bh))<|ye 33 [(147, .bool true),(0,Pt I 0),(4,V a0.At)] ?_
 have dd:=ai.aY
 refine dT<|s0 ?_
 obtain ⟨fo,de,U⟩:=ah U
 refine cE 3 dd (fun fp bV df bW=>k3 F df (RS.mono bV (aj.mono ad.ag)) (bj.row (bW _ (List.mem_of_getElem? (i:=1) rfl)) bV (ak.mono ad.ag)) (bW _ (List.mem_of_getElem? (i:=0) rfl)) de) ?_
 rintro _ fq dg rfl
 obtain ⟨fr,dh,U⟩:=ah U
 refine cA 0 dg (fun p=>dW F p (aj.mono ad.ag) (ak.mono ad.ag) dh) ?_
 rintro _ fs ft _ fu dj ⟨dm,dp,dq,rfl,rfl,dr,ds⟩
 refine xn 0<|sp 1<|rt<|⟨rfl,?_⟩
 obtain rfl:=si U
 obtain rfl:=si hm
 refine ⟨_,_,_,tk (.bool true) (ResL.nil),dj,?_⟩
 exact ⟨dm,dp,dq,rfl,rfl,dr,ds⟩
 refine aD rfl rfl (a9 rfl rfl (eX bh))<|yq 4 [(118,Pt I 7),(115, .bool false),(105, .bool true),(0,Pt I 0),(4,V a0.At)] ?_
 have fv:I<ax:=ay.1 _ (List.mem_of_getElem? (i:=0) rfl) _ (by simp [Itm.ids])
 refine aX (v:=J) rfl rfl rfl (by show I<_;omega) (aC (v:=J) (ai.di (i:=1) rfl)) (ai.aS (i:=0) rfl (by kernel_rfl)) trivial<|yq 3 [(122,Pt I 7),(119,J),(115, .bool false),(105, .bool true),(0,Pt I 0),(4,V a0.At)] ?_
 have fw:I<ax:=ay.1 _ (List.mem_of_getElem? (i:=0) rfl) _ (by simp [Itm.ids])
 refine aX (v:=J) rfl rfl rfl (by show I<_;omega) (aC (v:=J) (ai.di (i:=1) rfl)) (ai.aS (i:=0) rfl (by kernel_rfl)) trivial<|aD rfl rfl (gG rfl (ai.dn (i:=1) rfl (ak.mono ad.ag)) ⟨_,Try.underlying24⟩)<|yq 1 [(125,V (af ((a0.L.length:Int) - 1))),(119,J),(115, .bool false),(105, .bool true),(0,Pt I 0),(4,V a0.At)] ?_
 obtain ⟨bX,U⟩:=aJ U
 refine aD rfl rfl (bA rfl rfl (by kernel_rfl:slTy _ _=some (aa al)) (ai.bN (j:=1) rfl (ak.mono ad.ag) (by omega)) bX.1 bX.2)<|yq 1 [(127, .pointer (some (ba J (af ((a0.L.length:Int) - 1)) (aa al) 0))),(115, .bool false),(105, .bool true),(0,Pt I 0),(4,V a0.At)] ?_
 obtain ⟨bY,bZ,U⟩:=ah U
 obtain ⟨fx,dv,dx,fy⟩:=ai.cp (j:=1) rfl (ak.mono ad.ag) (i:=af ((a0.L.length:Int) - 1)) bZ
 obtain rfl:=eZ dv
 have dy:=dw bZ
 have dz:=ai.bN (j:=1) rfl (ak.mono ad.ag) dy
 have fz:(baseOf J).block<ax:=dk (ay.1 _ (List.mem_of_getElem? (i:=1) rfl)) dz
 refine dt rfl rfl rfl (by show (baseOf J).block<_;omega) (aC (v:=V bY.Kind) trivial) (bH (w:=V bY.Kind) dx rfl (by kernel_rfl)) trivial ?_
 rcases ifs U with ⟨bl,U⟩ | ⟨bl,U⟩
 refine aD rfl rfl (a9 rfl rfl (eV bl))<|ye 18 [(147, .bool true),(0,Pt I 0),(4,V a0.At)] ?_
 have dA:=ai.aY
 refine dT<|s0 ?_
 obtain ⟨fA,dB,U⟩:=ah U
 refine cE 3 dA (fun fB b0 dC b1=>k3 F dC (RS.mono b0 (aj.mono ad.ag)) (bj.row (b1 _ (List.mem_of_getElem? (i:=1) rfl)) b0 (ak.mono ad.ag)) (b1 _ (List.mem_of_getElem? (i:=0) rfl)) dB) ?_
 rintro _ fC dD rfl
 obtain ⟨fD,dH,U⟩:=ah U
 refine cA 0 dD (fun p=>dW F p (aj.mono ad.ag) (ak.mono ad.ag) dH) ?_
 rintro _ fE fF _ fG dI ⟨dJ,dK,dL,rfl,rfl,dM,dN⟩
 refine xn 0<|sp 1<|rt<|⟨rfl,?_⟩
 obtain rfl:=si U
 obtain rfl:=si hm
 refine ⟨_,_,_,tk (.bool true) (ResL.nil),dI,?_⟩
 exact ⟨dJ,dK,dL,rfl,rfl,dM,dN⟩
 refine aD rfl rfl (a9 rfl rfl (eX bl))<|yq 5 [(134,Pt I 7),(131, .bool false),(105, .bool true),(0,Pt I 0),(4,V a0.At)] ?_
 have fH:I<ax:=ay.1 _ (List.mem_of_getElem? (i:=0) rfl) _ (by simp [Itm.ids])
 refine aX (v:=J) rfl rfl rfl (by show I<_;omega) (aC (v:=J) (ai.di (i:=1) rfl)) (ai.aS (i:=0) rfl (by kernel_rfl)) trivial<|yq 3 [(138,Pt I 7),(135,J),(131, .bool false),(105, .bool true),(0,Pt I 0),(4,V a0.At)] ?_
 have fI:I<ax:=ay.1 _ (List.mem_of_getElem? (i:=0) rfl) _ (by simp [Itm.ids])
 refine aX (v:=J) rfl rfl rfl (by show I<_;omega) (aC (v:=J) (ai.di (i:=1) rfl)) (ai.aS (i:=0) rfl (by kernel_rfl)) trivial<|aD rfl rfl (gG rfl (ai.dn (i:=1) rfl (ak.mono ad.ag)) ⟨_,Try.underlying24⟩)<|yq 1 [(141,V (af ((a0.L.length:Int) - 1))),(135,J),(131, .bool false),(105, .bool true),(0,Pt I 0),(4,V a0.At)] ?_
 obtain ⟨b2,U⟩:=aJ U
 refine aD rfl rfl (bA rfl rfl (by kernel_rfl:slTy _ _=some (aa al)) (ai.bN (j:=1) rfl (ak.mono ad.ag) (by omega)) b2.1 b2.2)<|yq 1 [(143, .pointer (some (ba J (af ((a0.L.length:Int) - 1)) (aa al) 0))),(131, .bool false),(105, .bool true),(0,Pt I 0),(4,V a0.At)] ?_
 obtain ⟨b3,b4,U⟩:=ah U
 obtain ⟨fJ,dO,dP,fK⟩:=ai.cp (j:=1) rfl (ak.mono ad.ag) (i:=af ((a0.L.length:Int) - 1)) b4
 obtain rfl:=eZ dO
 have dQ:=dw b4
 have dR:=ai.bN (j:=1) rfl (ak.mono ad.ag) dQ
 have fL:(baseOf J).block<ax:=dk (ay.1 _ (List.mem_of_getElem? (i:=1) rfl)) dR
 refine dt rfl rfl rfl (by show (baseOf J).block<_;omega) (aC (v:=V b3.Kind) trivial) (bH (w:=V b3.Kind) dP rfl (by kernel_rfl)) trivial ?_
 rcases ifs U with ⟨bn,U⟩ | ⟨bn,U⟩
 refine aD rfl rfl (a9 rfl rfl (eV bn))<|ye 2 [(147, .bool true),(0,Pt I 0),(4,V a0.At)] ?_
 have dS:=ai.aY
 refine dT<|s0 ?_
 obtain ⟨fM,dU,U⟩:=ah U
 refine cE 3 dS (fun fN b5 dV b7=>k3 F dV (RS.mono b5 (aj.mono ad.ag)) (bj.row (b7 _ (List.mem_of_getElem? (i:=1) rfl)) b5 (ak.mono ad.ag)) (b7 _ (List.mem_of_getElem? (i:=0) rfl)) dU) ?_
 rintro _ fO dX rfl
 obtain ⟨fP,dY,U⟩:=ah U
 refine cA 0 dX (fun p=>dW F p (aj.mono ad.ag) (ak.mono ad.ag) dY) ?_
 rintro _ fQ fS _ fT dZ ⟨ea,eb,ec,rfl,rfl,ed,ee⟩
 refine xn 0<|sp 1<|rt<|⟨rfl,?_⟩
 obtain rfl:=si U
 obtain rfl:=si hm
 refine ⟨_,_,_,tk (.bool true) (ResL.nil),dZ,?_⟩
 exact ⟨ea,eb,ec,rfl,rfl,ed,ee⟩
 refine aD rfl rfl (a9 rfl rfl (eX bn))<|ye 2 [(147, .bool false),(0,Pt I 0),(4,V a0.At)] ?_
 have eg:=ai.aY
 refine dF<|sk ?_
 obtain rfl:=si U
 exact ⟨_,rfl,(by kernel_rfl),eg⟩
 refine aD rfl trivial (a9 rfl rfl (eX bg))<|ye 43 [(147, .bool false),(0,Pt I 0),(4,V a0.At)] ?_
 have eh:=ai.aY
 refine dF<|sk ?_
 obtain rfl:=si U
 exact ⟨_,rfl,(by kernel_rfl),eh⟩
 refine ey AL bz ?_
 intro b8 fU b9 aK
 refine yq 3 [(46,Pt I 1),(4,V a0.At),(3, .int .u8 (ar.toNat:Int)),(0,Pt I 0)] ?_
 have fV:I<b8:=b9.1 _ (List.mem_of_getElem? (i:=0) rfl) _ (by simp [Itm.ids])
 refine aX (v:=V a0.At) rfl trivial rfl (by show I<_;omega) (aC (v:=V a0.At) trivial) (aK.aS (i:=0) rfl (by kernel_rfl)) trivial<|yq 3 [(50,Pt I 2),(47,V a0.At),(4,V a0.At),(3, .int .u8 (ar.toNat:Int)),(0,Pt I 0)] ?_
 have fW:I<b8:=b9.1 _ (List.mem_of_getElem? (i:=0) rfl) _ (by simp [Itm.ids])
 refine aX (v:=V a0.Row) rfl trivial rfl (by show I<_;omega) (aC (v:=V a0.Row) trivial) (aK.aS (i:=0) rfl (by kernel_rfl)) trivial ?_
 rcases ifs au with ⟨bo,au⟩ | ⟨bo,au⟩
 refine aD rfl trivial (a9 rfl rfl (eV bo))<|yq 2 [(54, .int .u8 (ar.toNat:Int)),(53, .bool true),(4,V a0.At),(3, .int .u8 (ar.toNat:Int)),(0,Pt I 0)] ?_
 rcases ifs au with ⟨bp,au⟩ | ⟨bp,au⟩
 refine aD rfl rfl (a9 rfl rfl (eV bp))<|ye 1 [(56, .bool true),(4,V a0.At),(3, .int .u8 (ar.toNat:Int)),(0,Pt I 0)] ?_
 have ei:=aK.aY
 obtain rfl:=si au
 exact ⟨_,true,rfl,(by kernel_rfl),ei⟩
 refine aD rfl rfl (a9 rfl rfl (eX bp))<|ye 1 [(56, .bool false),(4,V a0.At),(3, .int .u8 (ar.toNat:Int)),(0,Pt I 0)] ?_
 have ej:=aK.aY
 obtain rfl:=si au
 exact ⟨_,false,rfl,(by kernel_rfl),ej⟩
 refine aD rfl trivial (a9 rfl rfl (eX bo))<|ye 4 [(56, .bool false),(4,V a0.At),(3, .int .u8 (ar.toNat:Int)),(0,Pt I 0)] ?_
 have ek:=aK.aY
 obtain rfl:=si au
 exact ⟨_,false,rfl,(by kernel_rfl),ek⟩
def zY:List bt:=[uP 4 (mv 0),uP 5 (nk 4),uP 6 (fa 81 5 0),uL 7 (ld 31 6),uP 8 (mv 0),uP 9 (nk 8),uP 10 (fa 81 9 1),uL 11 (ld 3 10),uP 12 (ia 31 7 11),uL 13 (ld 5 12),uP 3 (sg 13)]
def mL (F:Nat) (a0:aF):Option (Bool×aF):=
 if 0≤a0.At∧a0.At<(a0.B.length:Int) then
  (a0.B[a0.At.toNat]?).bind fun aa=>
  ((if (aa.toNat:Int)=(91:Int) then
    (cX F a0 8 (af (a0.At+1))).bind fun j=>
    some (.inl (⟨j.B,j.At,j.Row,af (j.Open+1),j.bY,j.cr,j.Text,j.L⟩:aF))
   else
    if (aa.toNat:Int)=(123:Int) then
     (cX F a0 9 (af (a0.At+1))).bind fun I=>
     some (.inl (⟨I.B,I.At,I.Row,af (I.Open+1),I.bY,I.cr,I.Text,I.L⟩:aF))
    else
     if (aa.toNat:Int)=(93:Int) then
      (cX F a0 10 (af (a0.At+1))).bind fun J=>
      some (.inl (⟨J.B,J.At,J.Row,imax (af (J.Open - 1)) 0,J.bY,J.cr,J.Text,J.L⟩:aF))
     else
      if (aa.toNat:Int)=(125:Int) then
       (cX F a0 11 (af (a0.At+1))).bind fun U=>
       some (.inl (⟨U.B,U.At,U.Row,imax (af (U.Open - 1)) 0,U.bY,U.cr,U.Text,U.L⟩:aF))
      else
       if (aa.toNat:Int)=(44:Int) then
        if (0:Int)<a0.Open then
         (cX F a0 7 (af (a0.At+1))).bind fun ab=>
         some (.inl ab)
        else
         some (.inr (false,a0))
       else
        some (.inr (false,a0))):Option (Sum aF (Bool×aF))).bind fun o=>match o with
   | .inl ad=>some (true,ad)
   | .inr y=>some y
 else none
theorem Aq (F:Nat) {h:AH} {Z:Zn} {a0:aF} {ad aj ak ao} (hP:Pre Z h [.ae ad (bf aj ak a0), .gs ak ao (aa al)]) (ai:RS (α:=UInt8) Z aj a0.B) (an:RCs (α:=al) Z ao a0.L) {r:Bool×aF} (hm:mL F a0=some r):
  bQ Try.prog 39 [Pt ad 0] h Z [.ae ad (bf aj ak a0), .gs ak ao (aa al)] fun v Z' A'=>∃ az v10 aA, .bool r.1=v∧A'=[.ae ad (bf az v10 r.2), .gs v10 aA (aa al)]∧RS (α:=UInt8) Z' az r.2.B∧RCs (α:=al) Z' aA r.2.L:=by
 refine b6 Try.func39 hP ?_
 intro hs hS
 unfold mL at hm
 refine sp 1<|sq<|cU zY hS ?_
 intro aE bT aH ar
 refine yq 3 [(6,Pt ad 0),(0,Pt ad 0)] ?_
 have bU:ad<aE:=aH.1 _ (List.mem_of_getElem? (i:=0) rfl) _ (by simp [Itm.ids])
 refine aX (v:=aj) rfl trivial rfl (by show ad<_;omega) (aC (v:=aj) (RS.dG ai)) (ar.aS (i:=0) rfl (by kernel_rfl)) trivial<|yq 3 [(10,Pt ad 1),(7,aj),(0,Pt ad 0)] ?_
 have bV:ad<aE:=aH.1 _ (List.mem_of_getElem? (i:=0) rfl) _ (by simp [Itm.ids])
 refine aX (v:=V a0.At) rfl trivial rfl (by show ad<_;omega) (aC (v:=V a0.At) trivial) (ar.aS (i:=0) rfl (by kernel_rfl)) trivial ?_
 obtain ⟨aK,hm⟩:=aJ hm
 refine aD rfl trivial (bA rfl rfl (by kernel_rfl:slTy _ _=some (aa UInt8)) (RS.cQ ai (by omega)) aK.1 aK.2) ?_
 obtain ⟨ay,a6,hm⟩:=ah hm
 obtain ⟨bW,a7,a8⟩:=RS.bR ai (i:=a0.At) a6
 obtain rfl:=pC a7
 refine ct rfl rfl trivial (fun h2 hz=>bH (w:= .int .u8 (ay.toNat:Int)) (a8 h2 hz) rfl (by kernel_rfl)) (ar.bM (aM.refl _)) (aC (v:= .int .u8 (ay.toNat:Int)) trivial) trivial<|ye 1 [(3, .int .u8 (ay.toNat:Int)),(0,Pt ad 0)] ?_
 have ag:=ar.aY
 obtain ⟨a9,j,hm⟩:=ah hm
 refine aI [] (fun l h=>∃ au aq av aw ax, .inl aq=a9∧RS (α:=UInt8) au av aq.B∧RCs (α:=al) au ax aq.L∧l=[]∧St hs (aR [.ae ad (bf aj ak a0), .gs ak ao (aa al)]) Z (0,0) au h [.ae ad (bf av aw aq), .gs aw ax (aa al)]) ?_ ?_
 rintro l bX ⟨au,aq,av,aw,ax,rfl,ba,bb,rfl,bc⟩
 try dsimp only at hm
 refine sp 1<|rt<|⟨rfl,?_⟩
 obtain rfl:=si hm
 refine ⟨_,_,_,tk (.bool true) (ResL.nil),bc,?_⟩
 exact ⟨av,aw,ax,rfl,rfl,ba,bb⟩
 refine bk 0<|s0<|aG 1 j ?_ ?_ (kd:= .u8)<;>intro bZ j
 refine xn 1<|dT<|s0<|aB 4 0 (V a0.At) ag rfl ?_
 obtain ⟨I,bd,j⟩:=ah j
 refine cA 1 ag (fun p=>dW F p ai an bd) ?_
 rintro _ b0 b1 _ b2 aL ⟨aO,aP,bg,rfl,rfl,bh,bj⟩
 refine xn 0<|g0<|aB 3 0 (V I.Open) aL rfl<|bG 3 0 (V (af (I.Open+1))) [V (af (I.Open+1))] [aO,V I.At,V I.Row,V (af (I.Open+1)),V I.bY, .bool I.cr,V I.Text,aP] aL rfl rfl rfl ?_
 intro b3 bl
 refine xn 0 ?_
 obtain rfl:=si j
 exact ⟨_,(⟨I.B,I.At,I.Row,af (I.Open+1),I.bY,I.cr,I.Text,I.L⟩:aF),aO,aP,bg,rfl,bh,bj,(by kernel_rfl),bl⟩
 refine xn 1<|dF<|s0<|aG 1 j ?_ ?_ (kd:= .u8)<;>intro b4 j
 refine xn 1<|dT<|s0<|aB 4 0 (V a0.At) ag rfl ?_
 obtain ⟨J,bm,j⟩:=ah j
 refine cA 1 ag (fun p=>dW F p ai an bm) ?_
 rintro _ b5 b7 _ b8 aQ ⟨aU,aV,bn,rfl,rfl,bo,bp⟩
 refine xn 0<|g0<|aB 3 0 (V J.Open) aQ rfl<|bG 3 0 (V (af (J.Open+1))) [V (af (J.Open+1))] [aU,V J.At,V J.Row,V (af (J.Open+1)),V J.bY, .bool J.cr,V J.Text,aV] aQ rfl rfl rfl ?_
 intro b9 bq
 refine xn 0 ?_
 obtain rfl:=si j
 exact ⟨_,(⟨J.B,J.At,J.Row,af (J.Open+1),J.bY,J.cr,J.Text,J.L⟩:aF),aU,aV,bn,rfl,bo,bp,(by kernel_rfl),bq⟩
 refine xn 1<|dF<|s0<|aG 1 j ?_ ?_ (kd:= .u8)<;>intro ca j
 refine xn 1<|dT<|s0<|aB 4 0 (V a0.At) ag rfl ?_
 obtain ⟨U,br,j⟩:=ah j
 refine cA 1 ag (fun p=>dW F p ai an br) ?_
 rintro _ cb cc _ cd aW ⟨aZ,a1,bu,rfl,rfl,bw,bx⟩
 refine xn 0<|g0<|aB 4 0 (V U.Open) aW rfl<|bG 4 0 (V (imax (af (U.Open - 1)) 0)) [V (imax (af (U.Open - 1)) 0)] [aZ,V U.At,V U.Row,V (imax (af (U.Open - 1)) 0),V U.bY, .bool U.cr,V U.Text,a1] aW rfl rfl rfl ?_
 intro cf bz
 refine xn 0 ?_
 obtain rfl:=si j
 exact ⟨_,(⟨U.B,U.At,U.Row,imax (af (U.Open - 1)) 0,U.bY,U.cr,U.Text,U.L⟩:aF),aZ,a1,bu,rfl,bw,bx,(by kernel_rfl),bz⟩
 refine xn 1<|dF<|s0<|aG 1 j ?_ ?_ (kd:= .u8)<;>intro cg j
 refine xn 1<|dT<|s0<|aB 4 0 (V a0.At) ag rfl ?_
 obtain ⟨ab,bB,j⟩:=ah j
 refine cA 1 ag (fun p=>dW F p ai an bB) ?_
 rintro _ ch cj _ ck a2 ⟨a4,a5,bC,rfl,rfl,bD,bE⟩
 refine xn 0<|g0<|aB 4 0 (V ab.Open) a2 rfl<|bG 4 0 (V (imax (af (ab.Open - 1)) 0)) [V (imax (af (ab.Open - 1)) 0)] [a4,V ab.At,V ab.Row,V (imax (af (ab.Open - 1)) 0),V ab.bY, .bool ab.cr,V ab.Text,a5] a2 rfl rfl rfl ?_
 intro cl bF
 refine xn 0 ?_
 obtain rfl:=si j
 exact ⟨_,(⟨ab.B,ab.At,ab.Row,imax (af (ab.Open - 1)) 0,ab.bY,ab.cr,ab.Text,ab.L⟩:aF),a4,a5,bC,rfl,bD,bE,(by kernel_rfl),bF⟩
 refine xn 1<|dF<|s0<|aG 1 j ?_ ?_ (kd:= .u8)<;>intro cm j
 refine aB 4 0 (V a0.Open) ag rfl<|cH 0 j ?_ ?_<;>intro cn j
 refine xn 2<|dT<|g0<|aB 4 0 (V a0.At) ag rfl ?_
 obtain ⟨bI,bJ,j⟩:=ah j
 refine cA 1 ag (fun p=>dW F p ai an bJ) ?_
 rintro _ cp cq _ cu bK ⟨bL,bN,bO,rfl,rfl,bP,bS⟩
 refine xn 0 ?_
 obtain rfl:=si j
 exact ⟨_,bI,bL,bN,bO,rfl,bP,bS,(by kernel_rfl),bK⟩
 refine xn 2<|dF<|sp 1<|rt<|a3<|⟨rfl,?_⟩
 obtain rfl:=si j
 obtain rfl:=si hm
 refine ⟨_,_,_,tk (.bool false) (ResL.nil),ag,?_⟩
 exact ⟨aj,ak,ao,rfl,rfl,ai,an⟩
 refine xn 8<|dF<|sp 1<|rt<|a3<|⟨rfl,?_⟩
 obtain rfl:=si j
 obtain rfl:=si hm
 refine ⟨_,_,_,tk (.bool false) (ResL.nil),ag,?_⟩
 exact ⟨aj,ak,ao,rfl,rfl,ai,an⟩
def correctorref1_sign_l0 (F:Nat) (a0:List UInt8) (a1:Int) (J:Int) (U:Int):Nat→Int→Int→Option (Sum Int (Int×Int))
 | 0,_,_=>none
 | n+1,I,j=>
  if j<a1 then
   if 0≤j∧j<(a0.length:Int) then
    (a0[j.toNat]?).bind fun aa=>
    if (aa.toNat:Int)<(128:Int) then
     some (.inr ((-1),1))
    else
     if 0≤j∧j<(a0.length:Int) then
      (a0[j.toNat]?).bind fun ab=>
      if (191:Int)<(ab.toNat:Int) then
       some (.inr ((-1),1))
      else
       if 0≤j∧j<(a0.length:Int) then
        (a0[j.toNat]?).bind fun ad=>
        correctorref1_sign_l0 F a0 a1 J U n (a6 .i32 (ur .i32 I 6) (IntKind.wrap .i32 (bx .u8 (ad.toNat:Int) 63))) (af (j+1))
       else none
     else none
   else none
  else
   some (.inl I)
def jL (F:Nat) (a0:List UInt8) (a1:Int) (I:Int) (J:Int):Option (Int×Int):=
 if (a0.length:Int)<a1 then
  some ((-1),1)
 else
  ((correctorref1_sign_l0 F a0 a1 I J F I 1):Option (Sum Int (Int×Int))).bind fun o=>match o with
   | .inl j=>((if j<J then
     some (.inr ((-1),1))
    else
     if (1114111:Int)<j then
      some (.inr ((-1),1))
     else
      if (55296:Int)≤j then
       if j≤(57343:Int) then
        some (.inr ((-1),1))
       else
        some (.inl ())
      else
       some (.inl ())):Option (Sum Unit (Int×Int))).bind fun o=>match o with
    | .inl ()=>some (j,a1)
    | .inr y=>some y
   | .inr y=>some y
theorem rB (F:Nat) {h:AH} {Z:Zn} {a0:List UInt8} {a1:Int} {ai:Int} {aa:Int} {v2} (hI:Inv Z h) (U:RS (α:=UInt8) Z v2 a0) {r:Int×Int} (hm:jL F a0 a1 ai aa=some r):
  b3 Try.prog 75 [v2,V a1, .int .i32 ai, .int .i32 aa] h Z (.tuple #[.int .i32 r.1,V r.2]):=by
 refine b4 Try.func75 hI ?_
 intro hs hS
 unfold jL at hm
 refine sp 2<|sq<|s0<|bD 1 v2 (RS.len U)<|aP 1 hm ?_ ?_<;>intro az hm
 refine xn 0<|dT<|sp 2<|rt<|⟨rfl,?_⟩
 obtain rfl:=si hm
 refine ⟨_,_,_,tk (.int .i32 (-1)) (tk (V 1) (ResL.nil)),hS,?_⟩
 exact rfl
 refine xn 0<|dF<|sk<|sq<|sp 1 ?_
 obtain ⟨an,j,hm⟩:=ah hm
 refine aI [1,2,3] (fun l h=>∃ aq ab, .inl ab=an∧l=[(1,V a1),(2, .int .i32 ab),(3, .int .i32 aa)]∧St hs [] Z (0,0) aq h []) ?_ ?_
 rintro l aA ⟨aq,ab,rfl,rfl,ad⟩
 try dsimp only at hm
 refine sq ?_
 obtain ⟨ax,I,hm⟩:=ah hm
 refine eo [1,2] (fun l h=>∃ ar, .inl ()=ax∧l=[(1,V a1),(2, .int .i32 ab)]∧St hs [] Z (0,0) ar h []) (by kernel_rfl) ?_ ?_
 rintro l aB ⟨ar,rfl,rfl,ay⟩
 try dsimp only at hm
 refine sp 4<|rt<|⟨rfl,?_⟩
 obtain rfl:=si hm
 refine ⟨_,_,_,tk (.int .i32 ab) (tk (V a1) (ResL.nil)),ay,?_⟩
 exact rfl
 refine g0<|aP 2 I ?_ ?_ (kd:= .i32)<;>intro aC I
 refine xn 12<|dT<|sp 2<|rt<|⟨rfl,?_⟩
 obtain rfl:=si I
 obtain rfl:=si hm
 refine ⟨_,_,_,tk (.int .i32 (-1)) (tk (V 1) (ResL.nil)),ad,?_⟩
 exact rfl
 refine cH 2 I ?_ ?_ (kd:= .i32)<;>intro aD I
 refine xn 9<|dT<|sp 2<|rt<|⟨rfl,?_⟩
 obtain rfl:=si I
 obtain rfl:=si hm
 refine ⟨_,_,_,tk (.int .i32 (-1)) (tk (V 1) (ResL.nil)),ad,?_⟩
 exact rfl
 refine cC 3 I ?_ ?_ (kd:= .i32)<;>intro aE I
 refine fH 2 I ?_ ?_ (kd:= .i32)<;>intro aF I
 refine xn 2<|dT<|sp 2<|rt<|⟨rfl,?_⟩
 obtain rfl:=si I
 obtain rfl:=si hm
 refine ⟨_,_,_,tk (.int .i32 (-1)) (tk (V 1) (ResL.nil)),ad,?_⟩
 exact rfl
 refine xn 2<|dF<|sk ?_
 obtain rfl:=si I
 exact ⟨_,rfl,(by kernel_rfl),ad⟩
 refine xn 5<|dF<|sk ?_
 obtain rfl:=si I
 exact ⟨_,rfl,(by kernel_rfl),ad⟩
 refine bk 0<|lp [0,1,2,3,10] (fun n l h=>∃ au ae aj,correctorref1_sign_l0 F a0 a1 ai aa n ae aj=some an∧l=[(0,v2),(1,V a1),(2, .int .i32 ae),(3, .int .i32 aa),(10,V aj)]∧St hs [] Z (0,0) au h []) F ⟨_,ai,1,j,(by kernel_rfl),hS⟩ ?_
 rintro ao l aG ⟨au,ae,aj,j,rfl,J⟩
 rcases ao with _ | ao
 cases (show none=some an from j)
 rw [correctorref1_sign_l0] at j
 refine sq<|s0<|aP 2 j ?_ ?_<;>intro aH j
 refine xn 0<|dT<|sk<|sq<|bk 1<|sq<|s0<|a2 2 j (U.mono J.ag) ?_
 intro aJ j
 refine bm 0 0 (fun av=> .int .u8 (av.toNat:Int)) j (U.mono J.ag) J ?_
 intro av aK j
 refine aP 0 j ?_ ?_ (kd:= .u8)<;>intro aL j
 refine xn 7<|dT<|sp 2<|rt<|a3<|a3<|⟨rfl,?_⟩
 obtain rfl:=si j
 obtain rfl:=si hm
 refine ⟨_,_,_,tk (.int .i32 (-1)) (tk (V 1) (ResL.nil)),J,?_⟩
 exact rfl
 refine a2 3 j (U.mono J.ag) ?_
 intro aM j
 refine bm 0 0 (fun aw=> .int .u8 (aw.toNat:Int)) j (U.mono J.ag) J ?_
 intro aw aQ j
 refine cH 0 j ?_ ?_ (kd:= .u8)<;>intro aR j
 refine xn 1<|dT<|sp 2<|rt<|a3<|a3<|⟨rfl,?_⟩
 obtain rfl:=si j
 obtain rfl:=si hm
 refine ⟨_,_,_,tk (.int .i32 (-1)) (tk (V 1) (ResL.nil)),J,?_⟩
 exact rfl
 refine xn 1<|dF<|sk<|g0<|a2 4 j (U.mono J.ag) ?_
 intro aS j
 refine bm 0 0 (fun ak=> .int .u8 (ak.toNat:Int)) j (U.mono J.ag) J ?_
 intro ak aU j
 refine eE 1 (.int .i32 (IntKind.wrap .i32 (bx .u8 (ak.toNat:Int) 63)))<|xn 2<|gp 3 ?_
 exact ⟨ao,Nat.lt_succ_self _,⟨_,a6 .i32 (ur .i32 ae 6) (IntKind.wrap .i32 (bx .u8 (ak.toNat:Int) 63)),af (aj+1),j,(by kernel_rfl),J⟩⟩
 refine xn 0<|dF<|xt 0<|aO ?_
 obtain rfl:=si j
 exact ⟨_,ae,rfl,(by kernel_rfl),J⟩
def jr (F:Nat) (a0:List UInt8):Option (Int×Int):=
 if (a0.length:Int)=(0:Int) then
  some ((-1),0)
 else
  if 0≤(0:Int)∧(0:Int)<(a0.length:Int) then
   (a0[(0:Int).toNat]?).bind fun j=>
   ((if (j.toNat:Int)<(128:Int) then
     some (.inr (IntKind.wrap .i32 (j.toNat:Int),1))
    else
     ((if (192:Int)≤(j.toNat:Int) then
       if (j.toNat:Int)<(224:Int) then
        some true
       else
        some false
      else
       some false):Option Bool).bind fun o=>match o with
      | aa=>if aa=true then
       (jL F a0 2 (IntKind.wrap .i32 (bx .u8 (j.toNat:Int) 31)) 128).bind fun I=>
       some (.inr (I.1,I.2))
      else
       ((if (224:Int)≤(j.toNat:Int) then
         if (j.toNat:Int)<(240:Int) then
          some true
         else
          some false
        else
         some false):Option Bool).bind fun o=>match o with
        | ab=>if ab=true then
         (jL F a0 3 (IntKind.wrap .i32 (bx .u8 (j.toNat:Int) 15)) 2048).bind fun J=>
         some (.inr (J.1,J.2))
        else
         if (240:Int)≤(j.toNat:Int) then
          if (j.toNat:Int)<(248:Int) then
           (jL F a0 4 (IntKind.wrap .i32 (bx .u8 (j.toNat:Int) 7)) 65536).bind fun U=>
           some (.inr (U.1,U.2))
          else
           some (.inl ())
         else
          some (.inl ())):Option (Sum Unit (Int×Int))).bind fun o=>match o with
    | .inl ()=>some ((-1),1)
    | .inr y=>some y
  else none
theorem oE (F:Nat) {h:AH} {Z:Zn} {a0:List UInt8} {v2} (hI:Inv Z h) (ab:RS (α:=UInt8) Z v2 a0) {r:Int×Int} (hm:jr F a0=some r):
  b3 Try.prog 60 [v2] h Z (.tuple #[.int .i32 r.1,V r.2]):=by
 refine b4 Try.func60 hI ?_
 intro hs hS
 unfold jr at hm
 refine sp 2<|sq<|s0<|bD 1 v2 (RS.len ab)<|aG 0 hm ?_ ?_<;>intro aD hm
 refine xn 0<|dT<|sp 2<|rt<|⟨rfl,?_⟩
 obtain rfl:=si hm
 refine ⟨_,_,_,tk (.int .i32 (-1)) (tk (V 0) (ResL.nil)),hS,?_⟩
 exact rfl
 refine xn 0<|dF<|sk<|s0<|a2 1 hm ab ?_
 intro aE hm
 refine bm 0 0 (fun I=> .int .u8 (I.toNat:Int)) hm ab hS ?_
 intro I aF hm
 refine xn 1<|sq<|bk 0 ?_
 obtain ⟨ar,j,hm⟩:=ah hm
 refine eo [] (fun l h=>∃ ai, .inl ()=ar∧l=[]∧St hs [] Z (0,0) ai h []) (by kernel_rfl) ?_ ?_
 rintro l aH ⟨ai,rfl,rfl,au⟩
 try dsimp only at hm
 refine sp 2<|rt<|⟨rfl,?_⟩
 obtain rfl:=si hm
 refine ⟨_,_,_,tk (.int .i32 (-1)) (tk (V 1) (ResL.nil)),au,?_⟩
 exact rfl
 refine g0<|aP 1 j ?_ ?_ (kd:= .u8)<;>intro aJ j
 refine xn 1<|dT<|s0<|eE 1 (.int .i32 (IntKind.wrap .i32 (I.toNat:Int)))<|xn 2<|rt<|a3<|⟨rfl,?_⟩
 obtain rfl:=si j
 obtain rfl:=si hm
 refine ⟨_,_,_,tk (.int .i32 (IntKind.wrap .i32 (I.toNat:Int))) (tk (V 1) (ResL.nil)),hS,?_⟩
 exact rfl
 refine xn 1<|dF<|sq ?_
 obtain ⟨av,U,j⟩:=ah j
 refine aI [0,4,16] (fun l h=>∃ aj ae,ae=av∧l=[(0,v2),(4, .int .u8 (I.toNat:Int)),(16, .bool ae)]∧St hs [] Z (0,0) aj h []) ?_ ?_
 rintro l aK ⟨aj,ae,rfl,rfl,ad⟩
 try dsimp only at j
 refine db j ?_ ?_<;>intro aL j
 refine s0<|eE 3 (.int .i32 (IntKind.wrap .i32 (bx .u8 (I.toNat:Int) 31))) ?_
 obtain ⟨ak,aw,j⟩:=ah j
 refine cP 0 ad (rB F ad.inv (ab.mono ad.ag) aw) ?_
 rintro _ aM ax rfl
 refine xn 4<|rt<|a3<|⟨rfl,?_⟩
 obtain rfl:=si j
 obtain rfl:=si hm
 refine ⟨_,_,_,tk (.int .i32 ak.1) (tk (V ak.2) (ResL.nil)),ax,?_⟩
 exact rfl
 refine sq ?_
 obtain ⟨ay,aa,j⟩:=ah j
 refine aI [0,4,30] (fun l h=>∃ an af,af=ay∧l=[(0,v2),(4, .int .u8 (I.toNat:Int)),(30, .bool af)]∧St hs [] Z (0,0) an h []) ?_ ?_
 rintro l aO ⟨an,af,rfl,rfl,J⟩
 try dsimp only at j
 refine db j ?_ ?_<;>intro aQ j
 refine s0<|eE 3 (.int .i32 (IntKind.wrap .i32 (bx .u8 (I.toNat:Int) 15))) ?_
 obtain ⟨ao,az,j⟩:=ah j
 refine cP 0 J (rB F J.inv (ab.mono J.ag) az) ?_
 rintro _ aR aA rfl
 refine xn 4<|rt<|a3<|⟨rfl,?_⟩
 obtain rfl:=si j
 obtain rfl:=si hm
 refine ⟨_,_,_,tk (.int .i32 ao.1) (tk (V ao.2) (ResL.nil)),aA,?_⟩
 exact rfl
 refine s0<|cC 1 j ?_ ?_ (kd:= .u8)<;>intro aS j
 refine aP 2 j ?_ ?_ (kd:= .u8)<;>intro aU j
 refine xn 2<|dT<|s0<|eE 3 (.int .i32 (IntKind.wrap .i32 (bx .u8 (I.toNat:Int) 7))) ?_
 obtain ⟨aq,aB,j⟩:=ah j
 refine cP 0 J (rB F J.inv (ab.mono J.ag) aB) ?_
 rintro _ aV aC rfl
 refine xn 4<|rt<|a3<|⟨rfl,?_⟩
 obtain rfl:=si j
 obtain rfl:=si hm
 refine ⟨_,_,_,tk (.int .i32 aq.1) (tk (V aq.2) (ResL.nil)),aC,?_⟩
 exact rfl
 refine xn 2<|dF<|sk ?_
 obtain rfl:=si j
 exact ⟨_,rfl,(by kernel_rfl),J⟩
 refine xn 5<|dF<|sk ?_
 obtain rfl:=si j
 exact ⟨_,rfl,(by kernel_rfl),J⟩
 refine g0<|cC 1 aa ?_ ?_ (kd:= .u8)<;>intro aW aa
 refine aP 2 aa ?_ ?_ (kd:= .u8)<;>intro aX aa
 refine xn 2 ?_
 obtain rfl:=si aa
 exact ⟨_,true,rfl,(by kernel_rfl),ad⟩
 refine xn 2 ?_
 obtain rfl:=si aa
 exact ⟨_,false,rfl,(by kernel_rfl),ad⟩
 refine xn 5 ?_
 obtain rfl:=si aa
 exact ⟨_,false,rfl,(by kernel_rfl),ad⟩
 refine g0<|cC 1 U ?_ ?_ (kd:= .u8)<;>intro aY U
 refine aP 2 U ?_ ?_ (kd:= .u8)<;>intro aZ U
 refine xn 2 ?_
 obtain rfl:=si U
 exact ⟨_,true,rfl,(by kernel_rfl),hS⟩
 refine xn 2 ?_
 obtain rfl:=si U
 exact ⟨_,false,rfl,(by kernel_rfl),hS⟩
 refine xn 5 ?_
 obtain rfl:=si U
 exact ⟨_,false,rfl,(by kernel_rfl),hS⟩
def mH (F:Nat) (a0:Int):Option Bool:=
 if (97:Int)≤a0 then
  if a0≤(122:Int) then
   some true
  else
   if (65:Int)≤a0 then
    if a0≤(90:Int) then
     some true
    else
     if (48:Int)≤a0 then
      if a0≤(57:Int) then
       some true
      else
       if a0=(95:Int) then
        some true
       else
        if a0=(45:Int) then
         some true
        else
         some false
     else
      if a0=(95:Int) then
       some true
      else
       if a0=(45:Int) then
        some true
       else
        some false
   else
    if (48:Int)≤a0 then
     if a0≤(57:Int) then
      some true
     else
      if a0=(95:Int) then
       some true
      else
       if a0=(45:Int) then
        some true
       else
        some false
    else
     if a0=(95:Int) then
      some true
     else
      if a0=(45:Int) then
       some true
      else
       some false
 else
  if (65:Int)≤a0 then
   if a0≤(90:Int) then
    some true
   else
    if (48:Int)≤a0 then
     if a0≤(57:Int) then
      some true
     else
      if a0=(95:Int) then
       some true
      else
       if a0=(45:Int) then
        some true
       else
        some false
    else
     if a0=(95:Int) then
      some true
     else
      if a0=(45:Int) then
       some true
      else
       some false
  else
   if (48:Int)≤a0 then
    if a0≤(57:Int) then
     some true
    else
     if a0=(95:Int) then
      some true
     else
      if a0=(45:Int) then
       some true
      else
       some false
   else
    if a0=(95:Int) then
     some true
    else
     if a0=(45:Int) then
      some true
     else
      some false
theorem yz (F:Nat) {h:AH} {Z:Zn} {a0:Int} (hI:Inv Z h) {r:Bool} (hm:mH F a0=some r):
  b3 Try.prog 76 [.int .u8 a0] h Z (.bool r):=by
 refine b4 Try.func76 hI ?_
 intro hs hS
 unfold mH at hm
 refine sp 1<|s0<|cC 1 hm ?_ ?_ (kd:= .u8)<;>intro j hm
 refine fH 2 hm ?_ ?_ (kd:= .u8)<;>intro I hm
 refine xn 26<|rt<|⟨rfl,?_⟩
 obtain rfl:=si hm
 refine ⟨_,_,_,tk (.bool true) (ResL.nil),hS,?_⟩
 exact rfl
 refine cC 3 hm ?_ ?_ (kd:= .u8)<;>intro J hm
 refine fH 2 hm ?_ ?_ (kd:= .u8)<;>intro U hm
 refine xn 19<|rt<|⟨rfl,?_⟩
 obtain rfl:=si hm
 refine ⟨_,_,_,tk (.bool true) (ResL.nil),hS,?_⟩
 exact rfl
 refine cC 4 hm ?_ ?_ (kd:= .u8)<;>intro aa hm
 refine fH 2 hm ?_ ?_ (kd:= .u8)<;>intro ab hm
 refine xn 11<|rt<|⟨rfl,?_⟩
 obtain rfl:=si hm
 refine ⟨_,_,_,tk (.bool true) (ResL.nil),hS,?_⟩
 exact rfl
 refine aG 4 hm ?_ ?_ (kd:= .u8)<;>intro ad hm
 refine xn 6<|rt<|⟨rfl,?_⟩
 obtain rfl:=si hm
 refine ⟨_,_,_,tk (.bool true) (ResL.nil),hS,?_⟩
 exact rfl
 refine aG 3 hm ?_ ?_ (kd:= .u8)<;>intro ae hm
 refine xn 2<|rt<|⟨rfl,?_⟩
 obtain rfl:=si hm
 refine ⟨_,_,_,tk (.bool true) (ResL.nil),hS,?_⟩
 exact rfl
 refine xn 2<|rt<|⟨rfl,?_⟩
 obtain rfl:=si hm
 refine ⟨_,_,_,tk (.bool false) (ResL.nil),hS,?_⟩
 exact rfl
 refine aG 7 hm ?_ ?_ (kd:= .u8)<;>intro af hm
 refine xn 6<|rt<|⟨rfl,?_⟩
 obtain rfl:=si hm
 refine ⟨_,_,_,tk (.bool true) (ResL.nil),hS,?_⟩
 exact rfl
 refine aG 3 hm ?_ ?_ (kd:= .u8)<;>intro ag hm
 refine xn 2<|rt<|⟨rfl,?_⟩
 obtain rfl:=si hm
 refine ⟨_,_,_,tk (.bool true) (ResL.nil),hS,?_⟩
 exact rfl
 refine xn 2<|rt<|⟨rfl,?_⟩
 obtain rfl:=si hm
 refine ⟨_,_,_,tk (.bool false) (ResL.nil),hS,?_⟩
 exact rfl
 refine cC 7 hm ?_ ?_ (kd:= .u8)<;>intro ah hm
 refine fH 2 hm ?_ ?_ (kd:= .u8)<;>intro ai hm
 refine xn 11<|rt<|⟨rfl,?_⟩
 obtain rfl:=si hm
 refine ⟨_,_,_,tk (.bool true) (ResL.nil),hS,?_⟩
 exact rfl
 refine aG 4 hm ?_ ?_ (kd:= .u8)<;>intro aj hm
 refine xn 6<|rt<|⟨rfl,?_⟩
 obtain rfl:=si hm
 refine ⟨_,_,_,tk (.bool true) (ResL.nil),hS,?_⟩
 exact rfl
 refine aG 3 hm ?_ ?_ (kd:= .u8)<;>intro ak hm
 refine xn 2<|rt<|⟨rfl,?_⟩
 obtain rfl:=si hm
 refine ⟨_,_,_,tk (.bool true) (ResL.nil),hS,?_⟩
 exact rfl
 refine xn 2<|rt<|⟨rfl,?_⟩
 obtain rfl:=si hm
 refine ⟨_,_,_,tk (.bool false) (ResL.nil),hS,?_⟩
 exact rfl
 refine aG 7 hm ?_ ?_ (kd:= .u8)<;>intro an hm
 refine xn 6<|rt<|⟨rfl,?_⟩
 obtain rfl:=si hm
 refine ⟨_,_,_,tk (.bool true) (ResL.nil),hS,?_⟩
 exact rfl
 refine aG 3 hm ?_ ?_ (kd:= .u8)<;>intro ao hm
 refine xn 2<|rt<|⟨rfl,?_⟩
 obtain rfl:=si hm
 refine ⟨_,_,_,tk (.bool true) (ResL.nil),hS,?_⟩
 exact rfl
 refine xn 2<|rt<|⟨rfl,?_⟩
 obtain rfl:=si hm
 refine ⟨_,_,_,tk (.bool false) (ResL.nil),hS,?_⟩
 exact rfl
 refine cC 6 hm ?_ ?_ (kd:= .u8)<;>intro aq hm
 refine fH 2 hm ?_ ?_ (kd:= .u8)<;>intro ar hm
 refine xn 19<|rt<|⟨rfl,?_⟩
 obtain rfl:=si hm
 refine ⟨_,_,_,tk (.bool true) (ResL.nil),hS,?_⟩
 exact rfl
 refine cC 4 hm ?_ ?_ (kd:= .u8)<;>intro au hm
 refine fH 2 hm ?_ ?_ (kd:= .u8)<;>intro av hm
 refine xn 11<|rt<|⟨rfl,?_⟩
 obtain rfl:=si hm
 refine ⟨_,_,_,tk (.bool true) (ResL.nil),hS,?_⟩
 exact rfl
 refine aG 4 hm ?_ ?_ (kd:= .u8)<;>intro aw hm
 refine xn 6<|rt<|⟨rfl,?_⟩
 obtain rfl:=si hm
 refine ⟨_,_,_,tk (.bool true) (ResL.nil),hS,?_⟩
 exact rfl
 refine aG 3 hm ?_ ?_ (kd:= .u8)<;>intro ax hm
 refine xn 2<|rt<|⟨rfl,?_⟩
 obtain rfl:=si hm
 refine ⟨_,_,_,tk (.bool true) (ResL.nil),hS,?_⟩
 exact rfl
 refine xn 2<|rt<|⟨rfl,?_⟩
 obtain rfl:=si hm
 refine ⟨_,_,_,tk (.bool false) (ResL.nil),hS,?_⟩
 exact rfl
 refine aG 7 hm ?_ ?_ (kd:= .u8)<;>intro ay hm
 refine xn 6<|rt<|⟨rfl,?_⟩
 obtain rfl:=si hm
 refine ⟨_,_,_,tk (.bool true) (ResL.nil),hS,?_⟩
 exact rfl
 refine aG 3 hm ?_ ?_ (kd:= .u8)<;>intro az hm
 refine xn 2<|rt<|⟨rfl,?_⟩
 obtain rfl:=si hm
 refine ⟨_,_,_,tk (.bool true) (ResL.nil),hS,?_⟩
 exact rfl
 refine xn 2<|rt<|⟨rfl,?_⟩
 obtain rfl:=si hm
 refine ⟨_,_,_,tk (.bool false) (ResL.nil),hS,?_⟩
 exact rfl
 refine cC 7 hm ?_ ?_ (kd:= .u8)<;>intro aA hm
 refine fH 2 hm ?_ ?_ (kd:= .u8)<;>intro aB hm
 refine xn 11<|rt<|⟨rfl,?_⟩
 obtain rfl:=si hm
 refine ⟨_,_,_,tk (.bool true) (ResL.nil),hS,?_⟩
 exact rfl
 refine aG 4 hm ?_ ?_ (kd:= .u8)<;>intro aC hm
 refine xn 6<|rt<|⟨rfl,?_⟩
 obtain rfl:=si hm
 refine ⟨_,_,_,tk (.bool true) (ResL.nil),hS,?_⟩
 exact rfl
 refine aG 3 hm ?_ ?_ (kd:= .u8)<;>intro aD hm
 refine xn 2<|rt<|⟨rfl,?_⟩
 obtain rfl:=si hm
 refine ⟨_,_,_,tk (.bool true) (ResL.nil),hS,?_⟩
 exact rfl
 refine xn 2<|rt<|⟨rfl,?_⟩
 obtain rfl:=si hm
 refine ⟨_,_,_,tk (.bool false) (ResL.nil),hS,?_⟩
 exact rfl
 refine aG 7 hm ?_ ?_ (kd:= .u8)<;>intro aE hm
 refine xn 6<|rt<|⟨rfl,?_⟩
 obtain rfl:=si hm
 refine ⟨_,_,_,tk (.bool true) (ResL.nil),hS,?_⟩
 exact rfl
 refine aG 3 hm ?_ ?_ (kd:= .u8)<;>intro aF hm
 refine xn 2<|rt<|⟨rfl,?_⟩
 obtain rfl:=si hm
 refine ⟨_,_,_,tk (.bool true) (ResL.nil),hS,?_⟩
 exact rfl
 refine xn 2<|rt<|⟨rfl,?_⟩
 obtain rfl:=si hm
 refine ⟨_,_,_,tk (.bool false) (ResL.nil),hS,?_⟩
 exact rfl
def j0 (F:Nat) (a0:aF) (a1:Int) (I:Bool):Nat→Int→Option Int
 | 0,_=>none
 | n+1,j=>
  ((if j<(a0.B.length:Int) then
    if 0≤j∧j<(a0.B.length:Int) then
     (a0.B[j.toNat]?).bind fun J=>
     (mH F (J.toNat:Int)).bind fun U=>
     if U=true then
      some (.inl ())
     else
      if I=true then
       if 0≤j∧j<(a0.B.length:Int) then
        (a0.B[j.toNat]?).bind fun aa=>
        if (aa.toNat:Int)=(33:Int) then
         some (.inl ())
        else
         some (.inr j)
       else none
      else
       some (.inr j)
    else none
   else
    some (.inr j)):Option (Sum Unit Int)).bind fun o=>match o with
   | .inl ()=>j0 F a0 a1 I n (af (j+1))
   | .inr y=>some y
def mc (F:Nat) (a0:aF) (a1:Int) (j:Bool):Option Int:=
 ((j0 F a0 a1 j F a1):Option Int).bind fun o=>match o with
  | I=>some I
theorem um (F:Nat) {h:AH} {Z:Zn} {a0:aF} {a1:Int} {ad:Bool} {ai aa aq} (hI:Inv Z h) (ae:RS (α:=UInt8) Z aa a0.B) (aC:RS (α:=al) Z aq a0.L) (ak:Z ai=some (bf aa aq a0)) {r:Int} (hm:mc F a0 a1 ad=some r):
  b3 Try.prog 61 [Pt ai 0,V a1, .bool ad] h Z (V r):=by
 refine b4 Try.func61 hI ?_
 intro hs hS
 unfold mc at hm
 refine sp 1<|sq ?_
 obtain ⟨an,J,hm⟩:=ah hm
 refine aI [1] (fun l h=>∃ ar aj,aj=an∧l=[(1,V aj)]∧St hs [] Z (0,0) ar h []) ?_ ?_
 rintro l aD ⟨ar,aj,rfl,rfl,ay⟩
 try dsimp only at hm
 refine sp 2<|rt<|⟨rfl,?_⟩
 obtain rfl:=si hm
 refine ⟨_,_,_,tk (V aj) (ResL.nil),ay,?_⟩
 exact rfl
 refine bk 0<|lp [0,1,2] (fun n l h=>∃ au U,j0 F a0 a1 ad n U=some an∧l=[(0,Pt ai 0),(1,V U),(2, .bool ad)]∧St hs [] Z (0,0) au h []) F ⟨_,a1,J,(by kernel_rfl),hS⟩ ?_
 rintro ao l aE ⟨au,U,J,rfl,I⟩
 rcases ao with _ | ao
 cases (show none=some an from J)
 rw [j0] at J
 refine sq ?_
 obtain ⟨az,j,J⟩:=ah J
 refine aI [0,1,2] (fun l h=>∃ av, .inl ()=az∧l=[(0,Pt ai 0),(1,V U),(2, .bool ad)]∧St hs [] Z (0,0) av h []) ?_ ?_
 rintro l aH ⟨av,rfl,rfl,aA⟩
 try dsimp only at J
 refine bk 1<|gp 3 ?_
 exact ⟨ao,Nat.lt_succ_self _,⟨_,af (U+1),J,(by kernel_rfl),aA⟩⟩
 refine s0<|bw 4 aa I (I.ag _ _ ak)<|bD 0 aa (RS.len (ae.mono I.ag))<|aP 0 j ?_ ?_<;>intro aJ j
 refine bw 4 aa I (I.ag _ _ ak)<|a2 1 j (ae.mono I.ag) ?_
 intro aK j
 refine bm 0 0 (fun aw=> .int .u8 (aw.toNat:Int)) j (ae.mono I.ag) I ?_
 intro aw aL j
 obtain ⟨aM,aB,j⟩:=ah j
 refine cP 0 I (yz F I.inv aB) ?_
 rintro _ aQ ab rfl
 refine kb 1 23 j ?_ ?_<;>intro aR j
 refine xn 13<|dT<|sk ?_
 obtain rfl:=si j
 exact ⟨_,rfl,(by kernel_rfl),ab⟩
 refine kb 2 25 j ?_ ?_<;>intro aS j
 refine bw 3 aa ab (I.ag _ _ ak)<|a2 1 j (ae.mono I.ag) ?_
 intro aU j
 refine bm 0 0 (fun ax=> .int .u8 (ax.toNat:Int)) j (ae.mono I.ag) ab ?_
 intro ax aV j
 refine aG 0 j ?_ ?_ (kd:= .u8)<;>intro aW j
 refine xn 3<|dT<|sk ?_
 obtain rfl:=si j
 exact ⟨_,rfl,(by kernel_rfl),ab⟩
 refine xn 3<|dF<|xt 0<|aO ?_
 obtain rfl:=si j
 obtain rfl:=si J
 exact ⟨_,U,rfl,(by kernel_rfl),ab⟩
 refine xn 11<|dF<|xt 0<|aO ?_
 obtain rfl:=si j
 obtain rfl:=si J
 exact ⟨_,U,rfl,(by kernel_rfl),ab⟩
 refine xn 23<|dF<|xt 0<|aO ?_
 obtain rfl:=si j
 obtain rfl:=si J
 exact ⟨_,U,rfl,(by kernel_rfl),I⟩
def kW (F:Nat) (a0:Int):Option Bool:=
 if a0=(44:Int) then
  some true
 else
  if a0=(91:Int) then
   some true
  else
   if a0=(93:Int) then
    some true
   else
    if a0=(123:Int) then
     some true
    else
     if a0=(125:Int) then
      some true
     else
      some false
theorem qL (F:Nat) {h:AH} {Z:Zn} {a0:Int} (hI:Inv Z h) {r:Bool} (hm:kW F a0=some r):
  b3 Try.prog 77 [.int .u8 a0] h Z (.bool r):=by
 refine b4 Try.func77 hI ?_
 intro hs hS
 unfold kW at hm
 refine sp 1<|s0<|aG 1 hm ?_ ?_ (kd:= .u8)<;>intro j hm
 refine xn 17<|rt<|⟨rfl,?_⟩
 obtain rfl:=si hm
 refine ⟨_,_,_,tk (.bool true) (ResL.nil),hS,?_⟩
 exact rfl
 refine aG 2 hm ?_ ?_ (kd:= .u8)<;>intro I hm
 refine xn 14<|rt<|⟨rfl,?_⟩
 obtain rfl:=si hm
 refine ⟨_,_,_,tk (.bool true) (ResL.nil),hS,?_⟩
 exact rfl
 refine aG 3 hm ?_ ?_ (kd:= .u8)<;>intro J hm
 refine xn 10<|rt<|⟨rfl,?_⟩
 obtain rfl:=si hm
 refine ⟨_,_,_,tk (.bool true) (ResL.nil),hS,?_⟩
 exact rfl
 refine aG 3 hm ?_ ?_ (kd:= .u8)<;>intro U hm
 refine xn 6<|rt<|⟨rfl,?_⟩
 obtain rfl:=si hm
 refine ⟨_,_,_,tk (.bool true) (ResL.nil),hS,?_⟩
 exact rfl
 refine aG 3 hm ?_ ?_ (kd:= .u8)<;>intro aa hm
 refine xn 2<|rt<|⟨rfl,?_⟩
 obtain rfl:=si hm
 refine ⟨_,_,_,tk (.bool true) (ResL.nil),hS,?_⟩
 exact rfl
 refine xn 2<|rt<|⟨rfl,?_⟩
 obtain rfl:=si hm
 refine ⟨_,_,_,tk (.bool false) (ResL.nil),hS,?_⟩
 exact rfl
def lL (F:Nat) (a0:aF) (a1:Int):Option Bool:=
 (h5 F a0 a1).bind fun j=>
 if (j.toNat:Int)=(58:Int) then
  if a1<(a0.B.length:Int) then
   (jR F a0 (af (a1+1))).bind fun I=>
   if I=true then
    some true
   else
    if (0:Int)<a0.Open then
     (h5 F a0 (af (a1+1))).bind fun J=>
     (kW F (J.toNat:Int)).bind fun U=>
     some U
    else
     some false
  else
   some false
 else
  some false
theorem vl (F:Nat) {h:AH} {Z:Zn} {a0:aF} {a1:Int} {ad U ae} (hI:Inv Z h) (aa:RS (α:=UInt8) Z U a0.B) (ab:RS (α:=al) Z ae a0.L) (j:Z ad=some (bf U ae a0)) {r:Bool} (hm:lL F a0 a1=some r):
  b3 Try.prog 62 [Pt ad 0,V a1] h Z (.bool r):=by
 refine b4 Try.func62 hI ?_
 intro hs hS
 unfold lL at hm
 refine sp 1<|s0 ?_
 obtain ⟨aq,ag,hm⟩:=ah hm
 refine cP 2 hS (nh F hS.inv aa ab j ag) ?_
 rintro _ ar I rfl
 refine aG 0 hm ?_ ?_ (kd:= .u8)<;>intro au hm
 refine bw 5 U I j<|bD 0 U (RS.len aa)<|aP 0 hm ?_ ?_<;>intro av hm
 obtain ⟨aw,ai,hm⟩:=ah hm
 refine cP 5 I (qy F I.inv aa ab j ai) ?_
 rintro _ ax J rfl
 refine kb 1 23 hm ?_ ?_<;>intro ay hm
 refine xn 15<|rt<|⟨rfl,?_⟩
 obtain rfl:=si hm
 refine ⟨_,_,_,tk (.bool true) (ResL.nil),J,?_⟩
 exact rfl
 refine bw 3 (V a0.Open) J j<|cH 0 hm ?_ ?_<;>intro az hm
 obtain ⟨aA,aj,hm⟩:=ah hm
 refine cP 4 J (nh F J.inv aa ab j aj) ?_
 rintro _ aB af rfl
 obtain ⟨ak,an,hm⟩:=ah hm
 refine cP 0 af (qL F af.inv an) ?_
 rintro _ aC ao rfl
 refine xn 4<|rt<|⟨rfl,?_⟩
 obtain rfl:=si hm
 refine ⟨_,_,_,tk (.bool ak) (ResL.nil),ao,?_⟩
 exact rfl
 refine xn 10<|rt<|⟨rfl,?_⟩
 obtain rfl:=si hm
 refine ⟨_,_,_,tk (.bool false) (ResL.nil),J,?_⟩
 exact rfl
 refine xn 22<|rt<|⟨rfl,?_⟩
 obtain rfl:=si hm
 refine ⟨_,_,_,tk (.bool false) (ResL.nil),I,?_⟩
 exact rfl
 refine xn 30<|rt<|⟨rfl,?_⟩
 obtain rfl:=si hm
 refine ⟨_,_,_,tk (.bool false) (ResL.nil),I,?_⟩
 exact rfl
def correctorref6_scanner_single_l0 (F:Nat) (a0:aF) (a1:Int) (I:Int):Nat→Int→Option (Sum Unit Int)
 | 0,_=>none
 | n+1,j=>
  if j<I then
   ((if 0≤j∧j<(a0.B.length:Int) then
     (a0.B[j.toNat]?).bind fun J=>
     if (J.toNat:Int)=(39:Int) then
      ((if (af (j+1))<I then
        if 0≤(af (j+1))∧(af (j+1))<(a0.B.length:Int) then
         (a0.B[(af (j+1)).toNat]?).bind fun U=>
         if (U.toNat:Int)=(39:Int) then
          some (.inr (af (j+2)))
         else
          some (.inl ())
        else none
       else
        some (.inl ())):Option (Sum Unit Int)).bind fun o=>match o with
       | .inl ()=>some (.inr (af (j+1)))
       | .inr y=>some (.inl y)
     else
      some (.inl (af (j+1)))
    else none):Option (Sum Int Int)).bind fun o=>match o with
    | .inl aa=>correctorref6_scanner_single_l0 F a0 a1 I n aa
    | .inr y=>some (.inr y)
  else
   some (.inl ())
def mf (F:Nat) (a0:aF) (a1:Int) (j:Int):Option Int:=
 ((correctorref6_scanner_single_l0 F a0 a1 j F a1):Option (Sum Unit Int)).bind fun o=>match o with
  | .inl ()=>some j
  | .inr y=>some y
theorem wD (F:Nat) {h:AH} {Z:Zn} {a0:aF} {a1:Int} {aa:Int} {ad ae ao} (hI:Inv Z h) (ai:RS (α:=UInt8) Z ae a0.B) (aE:RS (α:=al) Z ao a0.L) (aq:Z ad=some (bf ae ao a0)) {r:Int} (hm:mf F a0 a1 aa=some r):
  b3 Try.prog 63 [Pt ad 0,V a1,V aa] h Z (V r):=by
 refine b4 Try.func63 hI ?_
 intro hs hS
 unfold mf at hm
 refine sp 1<|sq ?_
 obtain ⟨ak,I,hm⟩:=ah hm
 refine aI [2] (fun l h=>∃ ar, .inl ()=ak∧l=[(2,V aa)]∧St hs [] Z (0,0) ar h []) ?_ ?_
 rintro l aH ⟨ar,rfl,rfl,az⟩
 try dsimp only at hm
 refine sp 2<|rt<|⟨rfl,?_⟩
 obtain rfl:=si hm
 refine ⟨_,_,_,tk (V aa) (ResL.nil),az,?_⟩
 exact rfl
 refine bk 0<|lp [0,1,2] (fun n l h=>∃ au ab,correctorref6_scanner_single_l0 F a0 a1 aa n ab=some ak∧l=[(0,Pt ad 0),(1,V ab),(2,V aa)]∧St hs [] Z (0,0) au h []) F ⟨_,a1,I,(by kernel_rfl),hS⟩ ?_
 rintro an l aJ ⟨au,ab,I,rfl,j⟩
 rcases an with _ | an
 cases (show none=some ak from I)
 rw [correctorref6_scanner_single_l0] at I
 refine sq<|s0<|aP 2 I ?_ ?_<;>intro aK I
 refine xn 0<|dT<|sk ?_
 obtain ⟨aA,J,I⟩:=ah I
 refine aI [0,1,2] (fun l h=>∃ av aj, .inl aj=aA∧l=[(0,Pt ad 0),(1,V aj),(2,V aa)]∧St hs [] Z (0,0) av h []) ?_ ?_
 rintro l aL ⟨av,aj,rfl,rfl,aB⟩
 try dsimp only at I
 exact ⟨an,Nat.lt_succ_self _,⟨_,aj,I,(by kernel_rfl),aB⟩⟩
 refine bk 1<|sq<|s0<|bw 3 ae j (j.ag _ _ aq)<|a2 1 J (ai.mono j.ag) ?_
 intro aM J
 refine bm 0 0 (fun aw=> .int .u8 (aw.toNat:Int)) J (ai.mono j.ag) j ?_
 intro aw aQ J
 refine cS 0 J ?_ ?_ (kd:= .u8)<;>intro aR J
 refine xn 0<|dF<|sk<|sq ?_
 obtain ⟨aC,U,J⟩:=ah J
 refine eo [1] (fun l h=>∃ ax, .inl ()=aC∧l=[(1,V ab)]∧St hs [] Z (0,0) ax h []) (by kernel_rfl) ?_ ?_
 rintro l aS ⟨ax,rfl,rfl,aD⟩
 try dsimp only at J
 refine sp 3<|rt<|a3<|a3<|⟨rfl,?_⟩
 obtain rfl:=si J
 obtain rfl:=si I
 obtain rfl:=si hm
 refine ⟨_,_,_,tk (V (af (ab+1))) (ResL.nil),aD,?_⟩
 exact rfl
 refine g0<|aP 3 U ?_ ?_<;>intro aU U
 refine bw 4 ae j (j.ag _ _ aq)<|a2 2 U (ai.mono j.ag) ?_
 intro aV U
 refine bm 0 0 (fun ay=> .int .u8 (ay.toNat:Int)) U (ai.mono j.ag) j ?_
 intro ay aW U
 refine aG 0 U ?_ ?_ (kd:= .u8)<;>intro aX U
 refine xn 1<|dT<|sp 3<|xt 1<|aO ?_
 obtain rfl:=si U
 obtain rfl:=si J
 exact ⟨_,af (ab+2),rfl,(by kernel_rfl),j⟩
 refine xn 1<|dF<|sk ?_
 obtain rfl:=si U
 exact ⟨_,rfl,(by kernel_rfl),j⟩
 refine xn 11<|dF<|sk ?_
 obtain rfl:=si U
 exact ⟨_,rfl,(by kernel_rfl),j⟩
 refine xn 0<|dT<|sp 3<|xt 1<|aO ?_
 obtain rfl:=si J
 exact ⟨_,af (ab+1),rfl,(by kernel_rfl),j⟩
 refine xn 0<|dF<|xt 0<|aO ?_
 obtain rfl:=si I
 exact ⟨_,rfl,(by kernel_rfl),j⟩
def lj (F:Nat) (a0:aF) (a1:Int) (I:Int):Nat→Int→Option (Sum Unit Int)
 | 0,_=>none
 | n+1,j=>
  if j<I then
   if 0≤j∧j<(a0.B.length:Int) then
    (a0.B[j.toNat]?).bind fun J=>
    if (J.toNat:Int)=(34:Int) then
     some (.inr (af (j+1)))
    else
     ((if 0≤j∧j<(a0.B.length:Int) then
       (a0.B[j.toNat]?).bind fun U=>
       if (U.toNat:Int)=(92:Int) then
        some (af (j+1))
       else
        some j
      else none):Option Int).bind fun o=>match o with
      | aa=>lj F a0 a1 I n (af (aa+1))
   else none
  else
   some (.inl ())
def n2 (F:Nat) (a0:aF) (a1:Int) (j:Int):Option Int:=
 ((lj F a0 a1 j F a1):Option (Sum Unit Int)).bind fun o=>match o with
  | .inl ()=>some j
  | .inr y=>some y
theorem yP (F:Nat) {h:AH} {Z:Zn} {a0:aF} {a1:Int} {U:Int} {ab ad an} (hI:Inv Z h) (ae:RS (α:=UInt8) Z ad a0.B) (aA:RS (α:=al) Z an a0.L) (ao:Z ab=some (bf ad an a0)) {r:Int} (hm:n2 F a0 a1 U=some r):
  b3 Try.prog 64 [Pt ab 0,V a1,V U] h Z (V r):=by
 refine b4 Try.func64 hI ?_
 intro hs hS
 unfold n2 at hm
 refine sp 1<|sq ?_
 obtain ⟨aj,j,hm⟩:=ah hm
 refine aI [2] (fun l h=>∃ aq, .inl ()=aj∧l=[(2,V U)]∧St hs [] Z (0,0) aq h []) ?_ ?_
 rintro l aB ⟨aq,rfl,rfl,ax⟩
 try dsimp only at hm
 refine sp 2<|rt<|⟨rfl,?_⟩
 obtain rfl:=si hm
 refine ⟨_,_,_,tk (V U) (ResL.nil),ax,?_⟩
 exact rfl
 refine bk 0<|lp [0,1,2] (fun n l h=>∃ ar aa,lj F a0 a1 U n aa=some aj∧l=[(0,Pt ab 0),(1,V aa),(2,V U)]∧St hs [] Z (0,0) ar h []) F ⟨_,a1,j,(by kernel_rfl),hS⟩ ?_
 rintro ak l aC ⟨ar,aa,j,rfl,I⟩
 rcases ak with _ | ak
 cases (show none=some aj from j)
 rw [lj] at j
 refine sq<|s0<|aP 2 j ?_ ?_<;>intro aD j
 refine xn 0<|dT<|sk<|bk 1<|sq<|s0<|bw 3 ad I (I.ag _ _ ao)<|a2 1 j (ae.mono I.ag) ?_
 intro aE j
 refine bm 0 0 (fun au=> .int .u8 (au.toNat:Int)) j (ae.mono I.ag) I ?_
 intro au aH j
 refine aG 0 j ?_ ?_ (kd:= .u8)<;>intro aJ j
 refine xn 0<|dT<|sp 3<|rt<|a3<|a3<|⟨rfl,?_⟩
 obtain rfl:=si j
 obtain rfl:=si hm
 refine ⟨_,_,_,tk (V (af (aa+1))) (ResL.nil),I,?_⟩
 exact rfl
 refine xn 0<|dF<|sk<|sq ?_
 obtain ⟨ay,J,j⟩:=ah j
 refine eo [0,1,2] (fun l h=>∃ av ai,ai=ay∧l=[(0,Pt ab 0),(1,V ai),(2,V U)]∧St hs [] Z (0,0) av h []) (by kernel_rfl) ?_ ?_
 rintro l aK ⟨av,ai,rfl,rfl,az⟩
 try dsimp only at j
 refine gp 3 ?_
 exact ⟨ak,Nat.lt_succ_self _,⟨_,af (ai+1),j,(by kernel_rfl),az⟩⟩
 refine g0<|bw 3 ad I (I.ag _ _ ao)<|a2 1 J (ae.mono I.ag) ?_
 intro aL J
 refine bm 0 0 (fun aw=> .int .u8 (aw.toNat:Int)) J (ae.mono I.ag) I ?_
 intro aw aM J
 refine aG 0 J ?_ ?_ (kd:= .u8)<;>intro aQ J
 refine xn 0<|dT<|gp 3 ?_
 obtain rfl:=si J
 exact ⟨_,af (aa+1),rfl,(by kernel_rfl),I⟩
 refine xn 0<|dF<|sk ?_
 obtain rfl:=si J
 exact ⟨_,aa,rfl,(by kernel_rfl),I⟩
 refine xn 0<|dF<|xt 0<|aO ?_
 obtain rfl:=si j
 exact ⟨_,rfl,(by kernel_rfl),I⟩
def CQ:List bt:=[uP 6 (mv 0),uP 7 (nk 6),uP 8 (fa 81 7 0),uL 9 (ld 31 8),uP 10 (mv 0),uP 11 (nk 10),uP 12 (fa 81 11 1),uL 13 (ld 3 12),uP 14 (ia 31 9 13),uL 15 (ld 5 14),uP 3 (sg 15)]
def gX (F:Nat) (a0:aF):Nat→Int→Int→Option (Int×Int)
 | 0,_,_=>none
 | n+1,I,j=>
  if j<(a0.B.length:Int) then
   if 0≤j∧j<(a0.B.length:Int) then
    (a0.B[j.toNat]?).bind fun J=>
    (gy F (J.toNat:Int)).bind fun U=>
    if U=true then
     gX F a0 n I (af (j+1))
    else
     some (I,j)
   else none
  else
   some (I,j)
def ik (F:Nat) (a0:aF):Option Int:=
 if 0≤a0.At∧a0.At<(a0.B.length:Int) then
  (a0.B[a0.At.toNat]?).bind fun I=>
  ((if (I.toNat:Int)=(124:Int) then
    if (0:Int)<a0.Open then
     some (.inr 0)
    else
     some (.inl ())
   else
    if (I.toNat:Int)=(62:Int) then
     if (0:Int)<a0.Open then
      some (.inr 0)
     else
      some (.inl ())
    else
     some (.inr 0)):Option (Sum Unit Int)).bind fun o=>match o with
   | .inl ()=>(((h5 F a0 (af (a0.At+1))).bind fun aa=>
    if (aa.toNat:Int)=(43:Int) then
     some (af ((af (a0.At+1))+1))
    else
     (h5 F a0 (af (a0.At+1))).bind fun ab=>
     if (ab.toNat:Int)=(45:Int) then
      some (af ((af (a0.At+1))+1))
     else
      some (af (a0.At+1))):Option Int).bind fun o=>match o with
    | J=>((gX F a0 F J J):Option (Int×Int)).bind fun o=>match o with
     | (U,j)=>((if j<(a0.B.length:Int) then
       (correctorref2_Break F a0.B j).bind fun ad=>
       if ad=(0:Int) then
        if 0≤j∧j<(a0.B.length:Int) then
         (a0.B[j.toNat]?).bind fun ae=>
         if (ae.toNat:Int)=(35:Int) then
          if U<j then
           some (.inl ())
          else
           some (.inr 0)
         else
          some (.inr 0)
        else none
       else
        some (.inl ())
      else
       some (.inl ())):Option (Sum Unit Int)).bind fun o=>match o with
      | .inl ()=>some (af (U - a0.At))
      | .inr y=>some y
   | .inr y=>some y
 else none
theorem u7 (F:Nat) {h:AH} {Z:Zn} {a0:aF} {ab ad aK} (hI:Inv Z h) (ae:RS (α:=UInt8) Z ad a0.B) (aL:RS (α:=al) Z aK a0.L) (J:Z ab=some (bf ad aK a0)) {r:Int} (hm:ik F a0=some r):
  b3 Try.prog 65 [Pt ab 0] h Z (V r):=by
 refine b4 Try.func65 hI ?_
 intro hs hS
 unfold ik at hm
 refine sp 1<|cU CQ hS ?_
 intro bh bj bl ax
 refine yq 3 [(8,Pt ab 0),(0,Pt ab 0)]<|ct rfl rfl trivial (fun h2 hz=>k8 (v:=ad) h2 hz J rfl (by kernel_rfl)) (ax.bM (aM.refl _)) (aC (v:=ad) (RS.dG ae)) trivial<|yq 3 [(12,Pt ab 1),(9,ad),(0,Pt ab 0)]<|ct rfl rfl trivial (fun h2 hz=>k8 (v:=V a0.At) h2 hz J rfl (by kernel_rfl)) (ax.bM (aM.refl _)) (aC (v:=V a0.At) trivial) trivial ?_
 obtain ⟨aQ,hm⟩:=aJ hm
 refine aD rfl trivial (bA rfl rfl (by kernel_rfl:slTy _ _=some (aa UInt8)) (RS.cQ ae (by omega)) aQ.1 aQ.2) ?_
 obtain ⟨ay,a4,hm⟩:=ah hm
 obtain ⟨bn,a5,a6⟩:=RS.bR ae (i:=a0.At) a4
 obtain rfl:=pC a5
 refine ct rfl rfl trivial (fun h2 hz=>bH (w:= .int .u8 (ay.toNat:Int)) (a6 h2 hz) rfl (by kernel_rfl)) (ax.bM (aM.refl _)) (aC (v:= .int .u8 (ay.toNat:Int)) trivial) trivial<|ye 1 [(3, .int .u8 (ay.toNat:Int)),(0,Pt ab 0)] ?_
 have ao:=ax.aY
 refine sq ?_
 obtain ⟨a7,U,hm⟩:=ah hm
 refine aI [0] (fun l h=>∃ aR, .inl ()=a7∧l=[(0,Pt ab 0)]∧St hs [] Z (0,0) aR h []) ?_ ?_
 rintro l bo ⟨aR,rfl,rfl,an⟩
 try dsimp only at hm
 refine s0<|bw 3 (V a0.At) an (an.ag _ _ J)<|xn 2<|sq ?_
 obtain ⟨a8,aj,hm⟩:=ah hm
 refine aI [0,4] (fun l h=>∃ aS av,av=a8∧l=[(0,Pt ab 0),(4,V av)]∧St hs [] Z (0,0) aS h []) ?_ ?_
 rintro l bp ⟨aS,av,rfl,rfl,a9⟩
 try dsimp only at hm
 refine sp 2<|sq ?_
 obtain ⟨az,I,hm⟩:=ah hm
 refine aI [0,4,5] (fun l h=>∃ aU aw aA,(aw,aA)=az∧l=[(0,Pt ab 0),(4,V aw),(5,V aA)]∧St hs [] Z (0,0) aU h []) ?_ ?_
 rintro l bq ⟨aU,aw,aA,rfl,rfl,ai⟩
 try dsimp only at hm
 refine sq ?_
 obtain ⟨ba,j,hm⟩:=ah hm
 refine eo [0,4] (fun l h=>∃ aV, .inl ()=ba∧l=[(0,Pt ab 0),(4,V aw)]∧St hs [] Z (0,0) aV h []) (by kernel_rfl) ?_ ?_
 rintro l br ⟨aV,rfl,rfl,aB⟩
 try dsimp only at hm
 refine s0<|bw 4 (V a0.At) aB (aB.ag _ _ J)<|xn 2<|rt<|⟨rfl,?_⟩
 obtain rfl:=si hm
 refine ⟨_,_,_,tk (V (af (aw - a0.At))) (ResL.nil),aB,?_⟩
 exact rfl
 refine g0<|bw 4 ad ai (ai.ag _ _ J)<|bD 0 ad (RS.len (ae.mono ai.ag))<|aP 0 j ?_ ?_<;>intro bu j
 refine bw 4 ad ai (ai.ag _ _ J) ?_
 obtain ⟨bx,bb,j⟩:=ah j
 refine cP 1 ai (lH F ai.inv (ae.mono ai.ag) bb) ?_
 rintro _ bz aq rfl
 refine aG 0 j ?_ ?_<;>intro bB j
 refine bw 5 ad aq (ai.ag _ _ J)<|a2 1 j (ae.mono ai.ag) ?_
 intro bC j
 refine bm 0 0 (fun aW=> .int .u8 (aW.toNat:Int)) j (ae.mono ai.ag) aq ?_
 intro aW bE j
 refine aG 0 j ?_ ?_ (kd:= .u8)<;>intro bF j
 refine cH 3 j ?_ ?_<;>intro bG j
 refine xn 3<|dF<|sk ?_
 obtain rfl:=si j
 exact ⟨_,rfl,(by kernel_rfl),aq⟩
 refine xn 3<|dT<|sp 1<|rt<|⟨rfl,?_⟩
 obtain rfl:=si j
 obtain rfl:=si hm
 refine ⟨_,_,_,tk (V 0) (ResL.nil),aq,?_⟩
 exact rfl
 refine xn 7<|dT<|sp 1<|rt<|⟨rfl,?_⟩
 obtain rfl:=si j
 obtain rfl:=si hm
 refine ⟨_,_,_,tk (V 0) (ResL.nil),aq,?_⟩
 exact rfl
 refine xn 17<|dF<|sk ?_
 obtain rfl:=si j
 exact ⟨_,rfl,(by kernel_rfl),aq⟩
 refine xn 25<|dF<|sk ?_
 obtain rfl:=si j
 exact ⟨_,rfl,(by kernel_rfl),ai⟩
 refine bk 0<|lp [0,4,5] (fun n l h=>∃ aX ar au,gX F a0 n ar au=some az∧l=[(0,Pt ab 0),(4,V ar),(5,V au)]∧St hs [] Z (0,0) aX h []) F ⟨_,av,av,I,(by kernel_rfl),a9⟩ ?_
 rintro aE l bI ⟨aX,ar,au,I,rfl,ak⟩
 rcases aE with _ | aE
 cases (show none=some az from I)
 rw [gX] at I
 refine sq<|s0<|bw 4 ad ak (ak.ag _ _ J)<|bD 0 ad (RS.len (ae.mono ak.ag))<|aP 0 I ?_ ?_<;>intro bJ I
 refine bw 4 ad ak (ak.ag _ _ J)<|a2 1 I (ae.mono ak.ag) ?_
 intro bK I
 refine bm 0 0 (fun aZ=> .int .u8 (aZ.toNat:Int)) I (ae.mono ak.ag) ak ?_
 intro aZ bL I
 obtain ⟨bN,bc,I⟩:=ah I
 refine cP 0 ak (jZ F ak.inv bc) ?_
 rintro _ bO a1 rfl
 refine xn 1<|db I ?_ ?_<;>intro bP I
 refine sk<|bk 1<|gp 3 ?_
 exact ⟨aE,Nat.lt_succ_self _,⟨_,ar,af (au+1),I,(by kernel_rfl),a1⟩⟩
 refine xt 0<|aO ?_
 obtain rfl:=si I
 exact ⟨_,ar,au,rfl,(by kernel_rfl),a1⟩
 refine xn 10<|dF<|xt 0<|aO ?_
 obtain rfl:=si I
 exact ⟨_,ar,au,rfl,(by kernel_rfl),ak⟩
 refine s0 ?_
 obtain ⟨bQ,bd,aj⟩:=ah aj
 refine cP 2 an (nh F an.inv (ae.mono an.ag) (aL.mono an.ag) (an.ag _ _ J) bd) ?_
 rintro _ bS aH rfl
 refine aG 0 aj ?_ ?_ (kd:= .u8)<;>intro bT aj
 refine xn 6<|dT<|gp 3 ?_
 obtain rfl:=si aj
 exact ⟨_,af ((af (a0.At+1))+1),rfl,(by kernel_rfl),aH⟩
 obtain ⟨bU,bg,aj⟩:=ah aj
 refine cP 3 aH (nh F aH.inv (ae.mono an.ag) (aL.mono an.ag) (an.ag _ _ J) bg) ?_
 rintro _ bV a3 rfl
 refine aG 0 aj ?_ ?_ (kd:= .u8)<;>intro bW aj
 refine xn 1<|dT<|gp 3 ?_
 obtain rfl:=si aj
 exact ⟨_,af ((af (a0.At+1))+1),rfl,(by kernel_rfl),a3⟩
 refine xn 1<|dF<|sk ?_
 obtain rfl:=si aj
 exact ⟨_,af (a0.At+1),rfl,(by kernel_rfl),a3⟩
 refine s0<|cS 1 U ?_ ?_ (kd:= .u8)<;>intro bX U
 refine bw 8 (V a0.Open) ao J<|cH 0 U ?_ ?_<;>intro bY U
 refine xn 1<|dT<|sp 1<|rt<|⟨rfl,?_⟩
 obtain rfl:=si U
 obtain rfl:=si hm
 refine ⟨_,_,_,tk (V 0) (ResL.nil),ao,?_⟩
 exact rfl
 refine xn 1<|dF<|sk ?_
 obtain rfl:=si U
 exact ⟨_,rfl,(by kernel_rfl),ao⟩
 refine cS 2 U ?_ ?_ (kd:= .u8)<;>intro bZ U
 refine bw 5 (V a0.Open) ao J<|cH 0 U ?_ ?_<;>intro b0 U
 refine xn 1<|dT<|sp 1<|rt<|⟨rfl,?_⟩
 obtain rfl:=si U
 obtain rfl:=si hm
 refine ⟨_,_,_,tk (V 0) (ResL.nil),ao,?_⟩
 exact rfl
 refine xn 1<|dF<|sk ?_
 obtain rfl:=si U
 exact ⟨_,rfl,(by kernel_rfl),ao⟩
 refine xn 8<|dT<|sp 1<|rt<|⟨rfl,?_⟩
 obtain rfl:=si U
 obtain rfl:=si hm
 refine ⟨_,_,_,tk (V 0) (ResL.nil),ao,?_⟩
 exact rfl
def Dc:List bt:=[uP 9 (mv 0),uP 10 (nk 9),uP 11 (fa 81 10 0),uL 12 (ld 31 11),uP 13 (mv 0),uP 14 (nk 13),uP 15 (fa 81 14 1),uL 16 (ld 3 15),uP 17 (.slice 31 (t 12) (some (t 16)) none none),uF 18 (cf 60 #[(t 17)] #[31]) .make [3,7],uP 8 (mv 18),uP 19 (.extract (t 8) 0),uP 20 (.extract (t 8) 1),uP 3 (sg 19),uP 4 (sg 20)]
def zW:List aN:=[u 35 (mv 0),u 36 (nk 35),u 37 (fa 81 36 0),u 38 (ld 31 37),u 39 (mv 5),u 40 (.slice 31 (t 38) (some (t 39)) none none),u 41 (cf 60 #[(t 40)] #[31]),u 34 (mv 41),u 42 (.extract (t 34) 0),u 43 (.extract (t 34) 1),u 6 (sg 42),u 7 (sg 43)]
def kP (F:Nat) (a0:aF):Nat→Int→Option Int
 | 0,_=>none
 | n+1,j=>
  if j<(a0.B.length:Int) then
   if 0≤j∧j≤(a0.B.length:Int)∧(a0.B.length:Int)≤(a0.B.length:Int) then
    (jr F ((a0.B.take (a0.B.length:Int).toNat).drop j.toNat)).bind fun I=>
    ((if I.1<(0:Int) then
      some (.inr j)
     else
      (correctorref2_Break F a0.B j).bind fun J=>
      if (0:Int)<J then
       some (.inr j)
      else
       (lL F a0 j).bind fun U=>
       if U=true then
        some (.inr j)
       else
        if 0≤j∧j<(a0.B.length:Int) then
         (a0.B[j.toNat]?).bind fun aa=>
         if (aa.toNat:Int)=(35:Int) then
          if 0≤(af (j - 1))∧(af (j - 1))<(a0.B.length:Int) then
           (a0.B[(af (j - 1)).toNat]?).bind fun ab=>
           (gy F (ab.toNat:Int)).bind fun ad=>
           if ad=true then
            some (.inr j)
           else
            if (0:Int)<a0.Open then
             if 0≤j∧j<(a0.B.length:Int) then
              (a0.B[j.toNat]?).bind fun ae=>
              (kW F (ae.toNat:Int)).bind fun ag=>
              if ag=true then
               some (.inr j)
              else
               some (.inl ())
             else none
            else
             some (.inl ())
          else none
         else
          if (0:Int)<a0.Open then
           if 0≤j∧j<(a0.B.length:Int) then
            (a0.B[j.toNat]?).bind fun ah=>
            (kW F (ah.toNat:Int)).bind fun ai=>
            if ai=true then
             some (.inr j)
            else
             some (.inl ())
           else none
          else
           some (.inl ())
        else none):Option (Sum Unit Int)).bind fun o=>match o with
     | .inl ()=>kP F a0 n (af (j+I.2))
     | .inr y=>some y
   else none
  else
   some j
def lQ (F:Nat) (a0:aF):Nat→Int→Option Int
 | 0,_=>none
 | n+1,j=>
  if (af (a0.At+1))<j then
   if 0≤(af (j - 1))∧(af (j - 1))<(a0.B.length:Int) then
    (a0.B[(af (j - 1)).toNat]?).bind fun I=>
    (gy F (I.toNat:Int)).bind fun J=>
    if J=true then
     lQ F a0 n (af (j - 1))
    else
     some j
   else none
  else
   some j
def nW (F:Nat) (a0:aF):Option Int:=
 if 0≤a0.At∧a0.At≤(a0.B.length:Int)∧(a0.B.length:Int)≤(a0.B.length:Int) then
  (jr F ((a0.B.take (a0.B.length:Int).toNat).drop a0.At.toNat)).bind fun j=>
  ((kP F a0 F (af (a0.At+j.2))):Option Int).bind fun o=>match o with
   | I=>((lQ F a0 F I):Option Int).bind fun o=>match o with
    | J=>some J
 else none
theorem CV (F:Nat) {h:AH} {Z:Zn} {a0:aF} {ak ad aH} (hI:Inv Z h) (ab:RS (α:=UInt8) Z ad a0.B) (ba:RS (α:=al) Z aH a0.L) (ae:Z ak=some (bf ad aH a0)) {r:Int} (hm:nW F a0=some r):
  b3 Try.prog 66 [Pt ak 0] h Z (V r):=by
 refine b4 Try.func66 hI ?_
 intro hs hS
 unfold nW at hm
 refine sp 1<|cU Dc hS ?_
 intro bC bE bF ar
 refine yq 3 [(11,Pt ak 0),(0,Pt ak 0)]<|ct rfl rfl trivial (fun h2 hz=>k8 (v:=ad) h2 hz ae rfl (by kernel_rfl)) (ar.bM (aM.refl _)) (aC (v:=ad) (RS.dG ab)) trivial<|yq 3 [(15,Pt ak 1),(12,ad),(0,Pt ak 0)]<|ct rfl rfl trivial (fun h2 hz=>k8 (v:=V a0.At) h2 hz ae rfl (by kernel_rfl)) (ar.bM (aM.refl _)) (aC (v:=V a0.At) trivial) trivial ?_
 obtain ⟨ax,hm⟩:=aJ hm
 refine pn rfl trivial (iW (a:=a0.At) (b:=(a0.B.length:Int)) ab rfl (by kernel_rfl:slTy _ _=some (aa UInt8)) ⟨_,rfl⟩ rfl ax.1 ax.2.1 ax.2.2) ?_
 intro v11 bb
 obtain ⟨aK,bc,hm⟩:=ah hm
 have aL:=ar.cM
 obtain ⟨bG,bH,bd,aQ,rfl⟩:=oE F aL.inv bb bc
 have bg:=St.call (A:=[]) (B:=[]) aL aQ
 refine fv rfl trivial ar (dy bd rfl rfl rfl) bg (St.fw aQ) ?_
 intro bI bh
 refine ye 5 [(4,V aK.2),(0,Pt ak 0)] ?_
 have aR:=bh.aY
 refine s0<|bw 3 (V a0.At) aR ae<|xn 3<|sq ?_
 obtain ⟨ay,J,hm⟩:=ah hm
 refine aI [0,5] (fun l h=>∃ aS au,au=ay∧l=[(0,Pt ak 0),(5,V au)]∧St hs [] Z (0,0) aS h []) ?_ ?_
 rintro l bJ ⟨aS,au,rfl,rfl,bj⟩
 try dsimp only at hm
 refine sq ?_
 obtain ⟨az,U,hm⟩:=ah hm
 refine aI [5] (fun l h=>∃ aU av,av=az∧l=[(5,V av)]∧St hs [] Z (0,0) aU h []) ?_ ?_
 rintro l bK ⟨aU,av,rfl,rfl,bl⟩
 try dsimp only at hm
 refine sp 2<|rt<|⟨rfl,?_⟩
 obtain rfl:=si hm
 refine ⟨_,_,_,tk (V av) (ResL.nil),bl,?_⟩
 exact rfl
 refine bk 2<|lp [0,5] (fun n l h=>∃ aV aq,lQ F a0 n aq=some az∧l=[(0,Pt ak 0),(5,V aq)]∧St hs [] Z (0,0) aV h []) F ⟨_,au,U,(by kernel_rfl),bj⟩ ?_
 rintro aA l bL ⟨aV,aq,U,rfl,an⟩
 rcases aA with _ | aA
 cases (show none=some az from U)
 rw [lQ] at U
 refine sq<|s0<|bw 4 (V a0.At) an (an.ag _ _ ae)<|cH 1 U ?_ ?_<;>intro bN U
 refine bw 4 ad an (an.ag _ _ ae)<|a2 2 U (ab.mono an.ag) ?_
 intro bO U
 refine bm 0 0 (fun aW=> .int .u8 (aW.toNat:Int)) U (ab.mono an.ag) an ?_
 intro aW bP U
 obtain ⟨bQ,bn,U⟩:=ah U
 refine cP 0 an (jZ F an.inv bn) ?_
 rintro _ bR aX rfl
 refine xn 1<|db U ?_ ?_<;>intro bS U
 refine sk<|bk 3<|gp 3 ?_
 exact ⟨aA,Nat.lt_succ_self _,⟨_,af (aq - 1),U,(by kernel_rfl),aX⟩⟩
 refine xt 2<|aO ?_
 obtain rfl:=si U
 exact ⟨_,aq,rfl,(by kernel_rfl),aX⟩
 refine xn 11<|dF<|xt 2<|aO ?_
 obtain rfl:=si U
 exact ⟨_,aq,rfl,(by kernel_rfl),an⟩
 refine bk 0<|lp [0,5] (fun n l h=>∃ aZ ai,kP F a0 n ai=some ay∧l=[(0,Pt ak 0),(5,V ai)]∧St hs [] Z (0,0) aZ h []) F ⟨_,af (a0.At+aK.2),J,(by kernel_rfl),aR⟩ ?_
 rintro aB l bT ⟨aZ,ai,J,rfl,I⟩
 rcases aB with _ | aB
 cases (show none=some ay from J)
 rw [kP] at J
 refine sq<|s0<|bw 4 ad I (I.ag _ _ ae)<|bD 0 ad (RS.len (ab.mono I.ag))<|aP 0 J ?_ ?_<;>intro bU J
 refine xn 0<|dT<|sk<|bk 1<|sr zW<|bw 3 ad I (I.ag _ _ ae)<|xq 1 [(39,V ai),(38,ad),(0,Pt ak 0),(5,V ai)] ?_
 obtain ⟨aD,J⟩:=aJ J
 refine kT rfl trivial (iW (a:=ai) (b:=(a0.B.length:Int)) (ab.mono I.ag) rfl (by kernel_rfl:slTy _ _=some (aa UInt8)) ⟨_,rfl⟩ rfl aD.1 aD.2.1 aD.2.2) ?_
 intro bV bo
 obtain ⟨a1,bp,J⟩:=ah J
 refine cP 0 I (oE F I.inv bo bp) ?_
 rintro _ bW aw rfl
 refine xn 5<|sq ?_
 obtain ⟨bq,j,J⟩:=ah J
 refine eo [0,5,7] (fun l h=>∃ a3, .inl ()=bq∧l=[(0,Pt ak 0),(5,V ai),(7,V a1.2)]∧St hs [] Z (0,0) a3 h []) (by kernel_rfl) ?_ ?_
 rintro l bX ⟨a3,rfl,rfl,br⟩
 try dsimp only at J
 refine gp 4 ?_
 exact ⟨aB,Nat.lt_succ_self _,⟨_,af (ai+a1.2),J,(by kernel_rfl),br⟩⟩
 refine g0<|aP 1 j ?_ ?_ (kd:= .i32)<;>intro bY j
 refine xn 52<|dT<|xt 0<|hU rfl<|aO ?_
 obtain rfl:=si j
 obtain rfl:=si J
 exact ⟨_,ai,rfl,(by kernel_rfl),aw⟩
 refine bw 4 ad aw (I.ag _ _ ae) ?_
 obtain ⟨bZ,bu,j⟩:=ah j
 refine cP 1 aw (lH F aw.inv (ab.mono I.ag) bu) ?_
 rintro _ b0 aE rfl
 refine cH 0 j ?_ ?_<;>intro b1 j
 refine xn 44<|dT<|xt 0<|hU rfl<|aO ?_
 obtain rfl:=si j
 obtain rfl:=si J
 exact ⟨_,ai,rfl,(by kernel_rfl),aE⟩
 obtain ⟨b2,bx,j⟩:=ah j
 refine cP 4 aE (vl F aE.inv (ab.mono I.ag) (ba.mono I.ag) (I.ag _ _ ae) bx) ?_
 rintro _ b5 aj rfl
 refine kb 2 60 j ?_ ?_<;>intro b6 j
 refine xn 37<|dT<|xt 0<|hU rfl<|aO ?_
 obtain rfl:=si j
 obtain rfl:=si J
 exact ⟨_,ai,rfl,(by kernel_rfl),aj⟩
 refine bw 3 ad aj (I.ag _ _ ae)<|a2 1 j (ab.mono I.ag) ?_
 intro b7 j
 refine bm 0 0 (fun a4=> .int .u8 (a4.toNat:Int)) j (ab.mono I.ag) aj ?_
 intro a4 b8 j
 refine aG 0 j ?_ ?_ (kd:= .u8)<;>intro b9 j
 refine bw 4 ad aj (I.ag _ _ ae)<|a2 2 j (ab.mono I.ag) ?_
 intro ca j
 refine bm 0 0 (fun a5=> .int .u8 (a5.toNat:Int)) j (ab.mono I.ag) aj ?_
 intro a5 cb j
 obtain ⟨cc,bz,j⟩:=ah j
 refine cP 0 aj (jZ F aj.inv bz) ?_
 rintro _ cd ao rfl
 refine kb 3 81 j ?_ ?_<;>intro cf j
 refine xn 16<|dT<|xt 0<|hU rfl<|aO ?_
 obtain rfl:=si j
 obtain rfl:=si J
 exact ⟨_,ai,rfl,(by kernel_rfl),ao⟩
 refine bw 3 (V a0.Open) ao (I.ag _ _ ae)<|cH 0 j ?_ ?_<;>intro cg j
 refine bw 4 ad ao (I.ag _ _ ae)<|a2 1 j (ab.mono I.ag) ?_
 intro ch j
 refine bm 0 0 (fun a6=> .int .u8 (a6.toNat:Int)) j (ab.mono I.ag) ao ?_
 intro a6 cj j
 obtain ⟨ck,bA,j⟩:=ah j
 refine cP 0 ao (qL F ao.inv bA) ?_
 rintro _ cl a7 rfl
 refine xn 2<|db j ?_ ?_<;>intro cm j
 refine xt 0<|hU rfl<|aO ?_
 obtain rfl:=si j
 obtain rfl:=si J
 exact ⟨_,ai,rfl,(by kernel_rfl),a7⟩
 refine sk ?_
 obtain rfl:=si j
 exact ⟨_,rfl,(by kernel_rfl),a7⟩
 refine xn 11<|dF<|sk ?_
 obtain rfl:=si j
 exact ⟨_,rfl,(by kernel_rfl),ao⟩
 refine bw 16 (V a0.Open) aj (I.ag _ _ ae)<|cH 0 j ?_ ?_<;>intro cn j
 refine bw 4 ad aj (I.ag _ _ ae)<|a2 1 j (ab.mono I.ag) ?_
 intro cp j
 refine bm 0 0 (fun a8=> .int .u8 (a8.toNat:Int)) j (ab.mono I.ag) aj ?_
 intro a8 cq j
 obtain ⟨cr,bB,j⟩:=ah j
 refine cP 0 aj (qL F aj.inv bB) ?_
 rintro _ cu a9 rfl
 refine xn 2<|db j ?_ ?_<;>intro cv j
 refine xt 0<|hU rfl<|aO ?_
 obtain rfl:=si j
 obtain rfl:=si J
 exact ⟨_,ai,rfl,(by kernel_rfl),a9⟩
 refine sk ?_
 obtain rfl:=si j
 exact ⟨_,rfl,(by kernel_rfl),a9⟩
 refine xn 11<|dF<|sk ?_
 obtain rfl:=si j
 exact ⟨_,rfl,(by kernel_rfl),aj⟩
 refine xn 0<|dF<|xt 0<|aO ?_
 obtain rfl:=si J
 exact ⟨_,ai,rfl,(by kernel_rfl),I⟩
def CZ:List bt:=[uP 7 (mv 0),uP 8 (nk 7),uP 9 (fa 81 8 0),uL 10 (ld 31 9),uP 11 (mv 0),uP 12 (nk 11),uP 13 (fa 81 12 1),uL 14 (ld 3 13),uP 15 (ia 31 10 14),uL 16 (ld 5 15),uP 2 (sg 16)]
def wJ:List aN:=[u 22 (mv 0),u 23 (nk 22),u 24 (fa 81 23 0),u 25 (ld 31 24),u 26 (mv 3),u 27 (.slice 31 (t 25) (some (t 26)) none none),u 28 (cf 60 #[(t 27)] #[31]),u 21 (mv 28),u 29 (.extract (t 21) 0),u 30 (.extract (t 21) 1),u 4 (sg 29),u 5 (sg 30)]
def n4 (F:Nat) (a0:aF):Option aF:=
 if 0≤a0.At∧a0.At<(a0.B.length:Int) then
  (a0.B[a0.At.toNat]?).bind fun j=>
  if 0≤a0.At∧a0.At≤(a0.B.length:Int)∧(a0.B.length:Int)≤(a0.B.length:Int) then
   (jr F ((a0.B.take (a0.B.length:Int).toNat).drop a0.At.toNat)).bind fun U=>
   (mc F a0 (af (a0.At+1)) false).bind fun I=>
   ((if (j.toNat:Int)=(45:Int) then
     if a0.Open=(0:Int) then
      if a0.cr=true then
       (jR F a0 (af (a0.At+1))).bind fun aa=>
       some aa
      else
       some false
     else
      some false
    else
     some false):Option Bool).bind fun o=>match o with
    | ab=>if ab=true then
     (cX F a0 5 (af (a0.At+1))).bind fun ad=>
     some ad
    else
     (lL F a0 a0.At).bind fun ae=>
     if ae=true then
      (cX F a0 6 (af (a0.At+1))).bind fun ag=>
      some ag
     else
      ((if (j.toNat:Int)=(38:Int) then
        if (af (a0.At+1))<I then
         some true
        else
         some false
       else
        some false):Option Bool).bind fun o=>match o with
       | ah=>if ah=true then
        (cX F a0 12 I).bind fun ai=>
        some ai
       else
        ((if (j.toNat:Int)=(42:Int) then
          if (af (a0.At+1))<I then
           some true
          else
           some false
         else
          some false):Option Bool).bind fun o=>match o with
         | aj=>if aj=true then
          (cX F a0 13 I).bind fun ak=>
          some ak
         else
          if (j.toNat:Int)=(33:Int) then
           (mc F a0 (af (a0.At+1)) true).bind fun an=>
           (cX F a0 14 an).bind fun ao=>
           some ao
          else
           if (j.toNat:Int)=(39:Int) then
            (fS F a0 a0.At).bind fun aq=>
            (mf F a0 (af (a0.At+1)) aq).bind fun ar=>
            (cX F a0 16 ar).bind fun au=>
            some au
           else
            if (j.toNat:Int)=(34:Int) then
             (fS F a0 a0.At).bind fun av=>
             (n2 F a0 (af (a0.At+1)) av).bind fun aw=>
             (fS F a0 a0.At).bind fun ax=>
             (cX F a0 17 (dC aw ax)).bind fun ay=>
             some ay
            else
             (ik F a0).bind fun az=>
             if (0:Int)<az then
              ((if a0.bY<(0:Int) then
                some (⟨a0.B,a0.At,a0.Row,a0.Open,a0.bY,a0.cr,af ((af (a0.At - a0.Row)) - 1),a0.L⟩:aF)
               else
                some (⟨a0.B,a0.At,a0.Row,a0.Open,a0.bY,a0.cr,a0.bY,a0.L⟩:aF)):Option aF).bind fun o=>match o with
               | J=>(ik F J).bind fun aA=>
               (cX F J 18 (af (a0.At+aA))).bind fun aB=>
               some aB
             else
              if U.1<(0:Int) then
               (cX F a0 22 (af (a0.At+1))).bind fun aC=>
               some aC
              else
               (nW F a0).bind fun aD=>
               (cX F a0 15 aD).bind fun r413=>
               some r413
  else none
 else none
theorem wG (F:Nat) {h:AH} {Z:Zn} {a0:aF} {I ad U ai} (hP:Pre Z h [.ae I (bf ad U a0), .gs U ai (aa al)]) (J:RS (α:=UInt8) Z ad a0.B) (ab:RCs (α:=al) Z ai a0.L) {r:aF} (hm:n4 F a0=some r):
  bQ Try.prog 40 [Pt I 0] h Z [.ae I (bf ad U a0), .gs U ai (aa al)] fun v Z' A'=>∃ a1 v10 a2, .tuple #[]=v∧A'=[.ae I (bf a1 v10 r), .gs v10 a2 (aa al)]∧RS (α:=UInt8) Z' a1 r.B∧RCs (α:=al) Z' a2 r.L:=by
 refine b6 Try.func40 hP ?_
 intro hs hS
 unfold n4 at hm
 refine cU CZ hS ?_
 intro a3 ep a4 aw
 refine yq 3 [(9,Pt I 0),(0,Pt I 0)] ?_
 have er:I<a3:=a4.1 _ (List.mem_of_getElem? (i:=0) rfl) _ (by simp [Itm.ids])
 refine aX (v:=ad) rfl trivial rfl (by show I<_;omega) (aC (v:=ad) (RS.dG J)) (aw.aS (i:=0) rfl (by kernel_rfl)) trivial<|yq 3 [(13,Pt I 1),(10,ad),(0,Pt I 0)] ?_
 have et:I<a3:=a4.1 _ (List.mem_of_getElem? (i:=0) rfl) _ (by simp [Itm.ids])
 refine aX (v:=V a0.At) rfl trivial rfl (by show I<_;omega) (aC (v:=V a0.At) trivial) (aw.aS (i:=0) rfl (by kernel_rfl)) trivial ?_
 obtain ⟨a5,hm⟩:=aJ hm
 refine aD rfl trivial (bA rfl rfl (by kernel_rfl:slTy _ _=some (aa UInt8)) (RS.cQ J (by omega)) a5.1 a5.2) ?_
 obtain ⟨an,bL,hm⟩:=ah hm
 obtain ⟨eu,bN,bO⟩:=RS.bR J (i:=a0.At) bL
 obtain rfl:=pC bN
 refine ct rfl rfl trivial (fun h2 hz=>bH (w:= .int .u8 (an.toNat:Int)) (bO h2 hz) rfl (by kernel_rfl)) (aw.bM (aM.refl _)) (aC (v:= .int .u8 (an.toNat:Int)) trivial) trivial<|ye 1 [(2, .int .u8 (an.toNat:Int)),(0,Pt I 0)] ?_
 have ax:=aw.aY
 refine s0<|aB 3 0 (V a0.At) ax rfl<|xn 1<|sr wJ<|aB 3 0 ad ax rfl<|xq 1 [(26,V a0.At),(25,ad),(3,V a0.At),(2, .int .u8 (an.toNat:Int)),(0,Pt I 0)] ?_
 obtain ⟨aK,hm⟩:=aJ hm
 refine kT rfl trivial (iW (a:=a0.At) (b:=(a0.B.length:Int)) J rfl (by kernel_rfl:slTy _ _=some (aa UInt8)) ⟨_,rfl⟩ rfl aK.1 aK.2.1 aK.2.2) ?_
 intro ew bP
 obtain ⟨aL,bS,hm⟩:=ah hm
 refine cP 0 ax (oE F ax.inv bP bS) ?_
 rintro _ ey bT rfl
 refine xn 5<|s0 ?_
 obtain ⟨aO,bU,hm⟩:=ah hm
 refine cE 3 bT (fun ez a6 bV a7=>um F bV (RS.mono a6 J) (bj.row (a7 _ (List.mem_of_getElem? (i:=1) rfl)) a6 ab) (a7 _ (List.mem_of_getElem? (i:=0) rfl)) bU) ?_
 rintro _ eA ar rfl
 refine xn 1<|bk 0<|sq ?_
 obtain ⟨bW,aj,hm⟩:=ah hm
 refine aI [0,2,3,4,6,39] (fun l h=>∃ a8 aQ,aQ=bW∧l=[(0,Pt I 0),(2, .int .u8 (an.toNat:Int)),(3,V a0.At),(4, .int .i32 aL.1),(6,V aO),(39, .bool aQ)]∧St hs (aR [.ae I (bf ad U a0), .gs U ai (aa al)]) Z (0,0) a8 h [.ae I (bf ad U a0), .gs U ai (aa al)]) ?_ ?_
 rintro l eB ⟨a8,aQ,rfl,rfl,ak⟩
 try dsimp only at hm
 refine db hm ?_ ?_<;>intro eC hm
 refine g0 ?_
 obtain ⟨eD,bX,hm⟩:=ah hm
 refine cA 3 ak (fun p=>dW F p (J.mono ak.ag) (ab.mono ak.ag) bX) ?_
 rintro _ eE eF _ eG bZ ⟨b0,b1,b2,rfl,rfl,b3,b4⟩
 refine xn 0 ?_
 obtain rfl:=si hm
 refine ⟨_,_,_,ResL.nil,bZ,?_⟩
 exact ⟨b0,b1,b2,rfl,rfl,b3,b4⟩
 refine s0 ?_
 obtain ⟨eH,b5,hm⟩:=ah hm
 refine cE 2 ak (fun eI a9 b7 ba=>vl F b7 (RS.mono a9 (J.mono ak.ag)) (bj.row (ba _ (List.mem_of_getElem? (i:=1) rfl)) a9 (ab.mono ak.ag)) (ba _ (List.mem_of_getElem? (i:=0) rfl)) b5) ?_
 rintro _ eJ ay rfl
 refine xn 1<|db hm ?_ ?_<;>intro eK hm
 refine g0 ?_
 obtain ⟨eL,b8,hm⟩:=ah hm
 refine cA 3 ay (fun p=>dW F p (J.mono ak.ag) (ab.mono ak.ag) b8) ?_
 rintro _ eM eN _ eO b9 ⟨ca,cb,cc,rfl,rfl,cd,cf⟩
 refine xn 0 ?_
 obtain rfl:=si hm
 refine ⟨_,_,_,ResL.nil,b9,?_⟩
 exact ⟨ca,cb,cc,rfl,rfl,cd,cf⟩
 refine sq ?_
 obtain ⟨cg,ao,hm⟩:=ah hm
 refine aI [0,2,3,4,6,73] (fun l h=>∃ bb aU,aU=cg∧l=[(0,Pt I 0),(2, .int .u8 (an.toNat:Int)),(3,V a0.At),(4, .int .i32 aL.1),(6,V aO),(73, .bool aU)]∧St hs (aR [.ae I (bf ad U a0), .gs U ai (aa al)]) Z (0,0) bb h [.ae I (bf ad U a0), .gs U ai (aa al)]) ?_ ?_
 rintro l eP ⟨bb,aU,rfl,rfl,au⟩
 try dsimp only at hm
 refine db hm ?_ ?_<;>intro eQ hm
 refine g0 ?_
 obtain ⟨eR,ch,hm⟩:=ah hm
 refine cA 2 au (fun p=>dW F p (J.mono au.ag) (ab.mono au.ag) ch) ?_
 rintro _ eS eT _ eU cj ⟨ck,cl,cm,rfl,rfl,cn,cp⟩
 refine xn 0 ?_
 obtain rfl:=si hm
 refine ⟨_,_,_,ResL.nil,cj,?_⟩
 exact ⟨ck,cl,cm,rfl,rfl,cn,cp⟩
 refine sq ?_
 obtain ⟨cq,aq,hm⟩:=ah hm
 refine aI [0,2,3,4,6,85] (fun l h=>∃ bc aV,aV=cq∧l=[(0,Pt I 0),(2, .int .u8 (an.toNat:Int)),(3,V a0.At),(4, .int .i32 aL.1),(6,V aO),(85, .bool aV)]∧St hs (aR [.ae I (bf ad U a0), .gs U ai (aa al)]) Z (0,0) bc h [.ae I (bf ad U a0), .gs U ai (aa al)]) ?_ ?_
 rintro l eV ⟨bc,aV,rfl,rfl,j⟩
 try dsimp only at hm
 refine db hm ?_ ?_<;>intro eW hm
 refine g0 ?_
 obtain ⟨eX,cu,hm⟩:=ah hm
 refine cA 2 j (fun p=>dW F p (J.mono j.ag) (ab.mono j.ag) cu) ?_
 rintro _ eY eZ _ e0 cv ⟨cw,cx,cz,rfl,rfl,cB,cC⟩
 refine xn 0 ?_
 obtain rfl:=si hm
 refine ⟨_,_,_,ResL.nil,cv,?_⟩
 exact ⟨cw,cx,cz,rfl,rfl,cB,cC⟩
 refine s0<|aG 1 hm ?_ ?_ (kd:= .u8)<;>intro e2 hm
 refine xn 1<|dT<|g0 ?_
 obtain ⟨e3,cD,hm⟩:=ah hm
 refine cE 4 j (fun e4 bd cF bg=>um F cF (RS.mono bd (J.mono j.ag)) (bj.row (bg _ (List.mem_of_getElem? (i:=1) rfl)) bd (ab.mono j.ag)) (bg _ (List.mem_of_getElem? (i:=0) rfl)) cD) ?_
 rintro _ e5 cG rfl
 obtain ⟨e6,cI,hm⟩:=ah hm
 refine cA 0 cG (fun p=>dW F p (J.mono j.ag) (ab.mono j.ag) cI) ?_
 rintro _ e7 e8 _ e9 cJ ⟨cK,cL,cM,rfl,rfl,cN,cO⟩
 refine xn 0 ?_
 obtain rfl:=si hm
 refine ⟨_,_,_,ResL.nil,cJ,?_⟩
 exact ⟨cK,cL,cM,rfl,rfl,cN,cO⟩
 refine xn 1<|dF<|s0<|aG 1 hm ?_ ?_ (kd:= .u8)<;>intro fa hm
 refine xn 1<|dT<|g0 ?_
 obtain ⟨fb,cR,hm⟩:=ah hm
 refine cE 6 j (fun fc bh cS bl=>k3 F cS (RS.mono bh (J.mono j.ag)) (bj.row (bl _ (List.mem_of_getElem? (i:=1) rfl)) bh (ab.mono j.ag)) (bl _ (List.mem_of_getElem? (i:=0) rfl)) cR) ?_
 rintro _ fe cT rfl
 obtain ⟨ff,cX,hm⟩:=ah hm
 refine cE 0 cT (fun fg bm c0 bn=>wD F c0 (RS.mono bm (J.mono j.ag)) (bj.row (bn _ (List.mem_of_getElem? (i:=1) rfl)) bm (ab.mono j.ag)) (bn _ (List.mem_of_getElem? (i:=0) rfl)) cX) ?_
 rintro _ fh c3 rfl
 obtain ⟨fi,c4,hm⟩:=ah hm
 refine cA 0 c3 (fun p=>dW F p (J.mono j.ag) (ab.mono j.ag) c4) ?_
 rintro _ fj fk _ fl c6 ⟨c7,c8,c9,rfl,rfl,da,dc⟩
 refine xn 0 ?_
 obtain rfl:=si hm
 refine ⟨_,_,_,ResL.nil,c6,?_⟩
 exact ⟨c7,c8,c9,rfl,rfl,da,dc⟩
 refine xn 1<|dF<|s0<|aG 1 hm ?_ ?_ (kd:= .u8)<;>intro fm hm
 refine xn 1<|dT<|g0 ?_
 obtain ⟨fo,dd,hm⟩:=ah hm
 refine cE 6 j (fun fp bo de bp=>k3 F de (RS.mono bo (J.mono j.ag)) (bj.row (bp _ (List.mem_of_getElem? (i:=1) rfl)) bo (ab.mono j.ag)) (bp _ (List.mem_of_getElem? (i:=0) rfl)) dd) ?_
 rintro _ fq df rfl
 obtain ⟨fr,dg,hm⟩:=ah hm
 refine cE 0 df (fun fs bq dh br=>yP F dh (RS.mono bq (J.mono j.ag)) (bj.row (br _ (List.mem_of_getElem? (i:=1) rfl)) bq (ab.mono j.ag)) (br _ (List.mem_of_getElem? (i:=0) rfl)) dg) ?_
 rintro _ ft di rfl
 obtain ⟨fu,dj,hm⟩:=ah hm
 refine cE 2 di (fun fv bu dk bw=>k3 F dk (RS.mono bu (J.mono j.ag)) (bj.row (bw _ (List.mem_of_getElem? (i:=1) rfl)) bu (ab.mono j.ag)) (bw _ (List.mem_of_getElem? (i:=0) rfl)) dj) ?_
 rintro _ fw dm rfl
 obtain ⟨fx,dn,hm⟩:=ah hm
 refine cA 1 dm (fun p=>dW F p (J.mono j.ag) (ab.mono j.ag) dn) ?_
 rintro _ fy fz _ fA dp ⟨dq,dr,ds,rfl,rfl,dt,dv⟩
 refine xn 0 ?_
 obtain rfl:=si hm
 refine ⟨_,_,_,ResL.nil,dp,?_⟩
 exact ⟨dq,dr,ds,rfl,rfl,dt,dv⟩
 refine xn 1<|dF<|s0 ?_
 obtain ⟨fB,dw,hm⟩:=ah hm
 refine cE 1 j (fun fC bx dx bz=>u7 F dx (RS.mono bx (J.mono j.ag)) (bj.row (bz _ (List.mem_of_getElem? (i:=1) rfl)) bx (ab.mono j.ag)) (bz _ (List.mem_of_getElem? (i:=0) rfl)) dw) ?_
 rintro _ fD az rfl
 refine cH 0 hm ?_ ?_<;>intro fE hm
 refine xn 1<|dT<|s0<|aB 4 0 (V a0.bY) az rfl<|bG 2 0 (V a0.bY) [V a0.bY] [ad,V a0.At,V a0.Row,V a0.Open,V a0.bY, .bool a0.cr,V a0.bY,U] az rfl rfl rfl ?_
 intro fF aA
 refine xn 0<|sq ?_
 obtain ⟨dy,aE,hm⟩:=ah hm
 refine eo [0,3] (fun l h=>∃ aH av aW aZ,av=dy∧RS (α:=UInt8) aH aW av.B∧RCs (α:=al) aH aZ av.L∧l=[(0,Pt I 0),(3,V a0.At)]∧St hs (aR [.ae I (bf ad U a0), .gs U ai (aa al)]) Z (0,0) aH h [.ae I (bf aW U av), .gs U aZ (aa al)]) (by kernel_rfl) ?_ ?_
 rintro l fG ⟨aH,av,aW,aZ,rfl,bB,bC,rfl,dz⟩
 try dsimp only at hm
 refine g0 ?_
 obtain ⟨fH,dA,hm⟩:=ah hm
 refine cE 3 dz (fun fI bD dB bE=>u7 F dB (RS.mono bD bB) (bj.row (bE _ (List.mem_of_getElem? (i:=1) rfl)) bD bC) (bE _ (List.mem_of_getElem? (i:=0) rfl)) dA) ?_
 rintro _ fJ dC rfl
 obtain ⟨fK,dD,hm⟩:=ah hm
 refine cA 1 dC (fun p=>dW F p bB bC dD) ?_
 rintro _ fL fM _ fN dH ⟨dI,dJ,dK,rfl,rfl,dL,dM⟩
 refine xn 0 ?_
 obtain rfl:=si hm
 refine ⟨_,_,_,ResL.nil,dH,?_⟩
 exact ⟨dI,dJ,dK,rfl,rfl,dL,dM⟩
 refine g0<|aB 3 0 (V a0.bY) aA rfl<|aP 0 aE ?_ ?_<;>intro fO aE
 refine xn 0<|dT<|g0<|aB 5 0 (V a0.Row) aA rfl<|bG 4 0 (V (af ((af (a0.At - a0.Row)) - 1))) [V (af ((af (a0.At - a0.Row)) - 1))] [ad,V a0.At,V a0.Row,V a0.Open,V a0.bY, .bool a0.cr,V (af ((af (a0.At - a0.Row)) - 1)),U] aA rfl rfl rfl ?_
 intro fP dN
 refine xn 0 ?_
 obtain rfl:=si aE
 exact ⟨_,(⟨a0.B,a0.At,a0.Row,a0.Open,a0.bY,a0.cr,af ((af (a0.At - a0.Row)) - 1),a0.L⟩:aF),ad,ai,rfl,(J.mono j.ag),(ab.mono j.ag),(by kernel_rfl),dN⟩
 refine xn 0<|dF<|sk ?_
 obtain rfl:=si aE
 exact ⟨_,(⟨a0.B,a0.At,a0.Row,a0.Open,a0.bY,a0.cr,a0.bY,a0.L⟩:aF),ad,ai,rfl,(J.mono j.ag),(ab.mono j.ag),(by kernel_rfl),aA⟩
 refine xn 1<|dF<|s0<|aP 1 hm ?_ ?_ (kd:= .i32)<;>intro fQ hm
 refine xn 1<|dT<|g0 ?_
 obtain ⟨fS,dO,hm⟩:=ah hm
 refine cA 3 az (fun p=>dW F p (J.mono j.ag) (ab.mono j.ag) dO) ?_
 rintro _ fT fU _ fV dP ⟨dQ,dR,dS,rfl,rfl,dU,dV⟩
 refine xn 0 ?_
 obtain rfl:=si hm
 refine ⟨_,_,_,ResL.nil,dP,?_⟩
 exact ⟨dQ,dR,dS,rfl,rfl,dU,dV⟩
 refine xn 1<|dF<|g0 ?_
 obtain ⟨fW,dX,hm⟩:=ah hm
 refine cE 2 az (fun fX bF dY bI=>CV F dY (RS.mono bF (J.mono j.ag)) (bj.row (bI _ (List.mem_of_getElem? (i:=1) rfl)) bF (ab.mono j.ag)) (bI _ (List.mem_of_getElem? (i:=0) rfl)) dX) ?_
 rintro _ fY dZ rfl
 obtain ⟨r413,ea,hm⟩:=ah hm
 refine cA 0 dZ (fun p=>dW F p (J.mono j.ag) (ab.mono j.ag) ea) ?_
 rintro _ fZ ga _ gb eb ⟨ec,ed,ee,rfl,rfl,eg,eh⟩
 refine xn 0 ?_
 obtain rfl:=si hm
 refine ⟨_,_,_,ResL.nil,eb,?_⟩
 exact ⟨ec,ed,ee,rfl,rfl,eg,eh⟩
 refine g0<|aG 1 aq ?_ ?_ (kd:= .u8)<;>intro gd aq
 refine cH 4 aq ?_ ?_<;>intro gf aq
 refine xn 2 ?_
 obtain rfl:=si aq
 exact ⟨_,true,rfl,(by kernel_rfl),au⟩
 refine xn 2 ?_
 obtain rfl:=si aq
 exact ⟨_,false,rfl,(by kernel_rfl),au⟩
 refine xn 7 ?_
 obtain rfl:=si aq
 exact ⟨_,false,rfl,(by kernel_rfl),au⟩
 refine g0<|aG 1 ao ?_ ?_ (kd:= .u8)<;>intro gg ao
 refine cH 4 ao ?_ ?_<;>intro gh ao
 refine xn 2 ?_
 obtain rfl:=si ao
 exact ⟨_,true,rfl,(by kernel_rfl),ay⟩
 refine xn 2 ?_
 obtain rfl:=si ao
 exact ⟨_,false,rfl,(by kernel_rfl),ay⟩
 refine xn 7 ?_
 obtain rfl:=si ao
 exact ⟨_,false,rfl,(by kernel_rfl),ay⟩
 refine g0<|aG 1 aj ?_ ?_ (kd:= .u8)<;>intro gi aj
 refine aB 4 0 (V a0.Open) ar rfl<|aG 0 aj ?_ ?_<;>intro gj aj
 refine aB 5 0 (.bool a0.cr) ar rfl<|kb 2 55 aj ?_ ?_<;>intro gk aj
 obtain ⟨ei,ej,aj⟩:=ah aj
 refine cE 3 ar (fun gl bJ ek bK=>qy F ek (RS.mono bJ J) (bj.row (bK _ (List.mem_of_getElem? (i:=1) rfl)) bJ ab) (bK _ (List.mem_of_getElem? (i:=0) rfl)) ej) ?_
 rintro _ gm en rfl
 refine xn 2 ?_
 obtain rfl:=si aj
 exact ⟨_,ei,rfl,(by kernel_rfl),en⟩
 refine xn 6 ?_
 obtain rfl:=si aj
 exact ⟨_,false,rfl,(by kernel_rfl),ar⟩
 refine xn 14 ?_
 obtain rfl:=si aj
 exact ⟨_,false,rfl,(by kernel_rfl),ar⟩
 refine xn 20 ?_
 obtain rfl:=si aj
 exact ⟨_,false,rfl,(by kernel_rfl),ar⟩
def wI:List aN:=[u 8 (mv 0),u 9 (.build 81 #[(0,(t 8)),(6,(ci (-2)))]),u 10 (.box 81 (t 9)),u 3 (sg 10)]
def yZ:List bt:=[uP 20 (mv 3),uP 21 (nk 20),uP 22 (fa 81 21 1),uL 23 (ld 3 22),uP 24 (mv 3),uP 25 (nk 24),uP 26 (fa 81 25 2),uL 27 (ld 3 26),uP 28 (bo .eql 3 23 27 3)]
def correctorref6_Tokens_l0 (F:Nat) (a0:List UInt8):Nat→aF→Option aF
 | 0,_=>none
 | n+1,j=>
  if j.At<(a0.length:Int) then
   ((if j.At=j.Row then
     (lg F j j.At).bind fun ad=>
     some (j,ad)
    else
     some (j,0)):Option (aF×Int)).bind fun o=>match o with
    | (J,ab)=>if (0:Int)<ab then
     (cX F J ab (af (J.At+3))).bind fun I=>
     correctorref6_Tokens_l0 F a0 n (⟨I.B,I.At,I.Row,0,I.bY,I.cr,I.Text,I.L⟩:aF)
    else
     (mi F J).bind fun U=>
     if U.1=true then
      correctorref6_Tokens_l0 F a0 n U.2
     else
      (mL F U.2).bind fun aa=>
      if aa.1=true then
       correctorref6_Tokens_l0 F a0 n aa.2
      else
       (n4 F aa.2).bind fun ae=>
       correctorref6_Tokens_l0 F a0 n ae
  else
   some j
def mG (F:Nat) (a0:List UInt8):Option (List al):=
 if (16384:Int)<(a0.length:Int) then
  some []
 else
  (od F (⟨a0,0,0,0,0,false,(-2),[]⟩:aF)).bind fun j=>
  ((correctorref6_Tokens_l0 F a0 F j):Option aF).bind fun o=>match o with
   | I=>some I.L
theorem BP (F:Nat) {h:AH} {Z:Zn} {a0:List UInt8} {v2} (hP:Pre Z h []) (ar:RS (α:=UInt8) Z v2 a0) {r:(List al)} (hm:mG F a0=some r):
  bQ Try.prog 19 [v2] h Z [] fun v Z' A'=>∃ v4 aV,v4=v∧A'=[.gs v4 aV (aa al)]∧RCs (α:=al) Z' aV r:=by
 refine b6 Try.func19 hP ?_
 intro hs hS
 unfold mG at hm
 replace hS:St hs [] Z (0,0) Z hs []:=hS
 refine sp 1<|sq<|s0<|bD 1 v2 (RS.len ar)<|cH 0 hm ?_ ?_<;>intro cc hm
 refine xn 0<|dT<|sp 1<|rt<|⟨rfl,?_⟩
 have bl:=hS.dh (aa al)
 obtain rfl:=si hm
 refine ⟨_,_,_,tk (.slice none 0 0) (ResL.nil),bl,?_⟩
 exact ⟨(.slice none 0 0),[],rfl,rfl,(RCs.bu _)⟩
 refine xn 0<|dF<|sk<|sr wI<|xq 1 [(8,v2),(0,v2)]<|bT rfl trivial (jK (v:= .agg #[v2,V 0,V 0,V 0,V 0, .bool false,V (-2), .slice none 0 0]) rfl (CA.cons (cs:=[v2]) (RS.rO ar) (CA.cons (cs:=[V (-2)]) rfl (CA.bu))) (by kernel_rfl))<|g1 rfl trivial (gv (cs:=[v2,V 0,V 0,V 0,V 0, .bool false,V (-2), .slice none 0 0]) rfl rfl) hS ?_
 intro bm cd bn
 refine xn 1<|s0 ?_
 have bo:=bn.dh (aa al)
 obtain ⟨bp,bq,hm⟩:=ah hm
 refine cA 1 ((bo.front 0 rfl).front 1 rfl) (fun p=>qU F (a0:=(⟨a0,0,0,0,0,false,(-2),[]⟩:aF)) p ar (RCs.bu _) bq) ?_
 rintro _ cf cg _ ch br ⟨bw,bx,rfl,rfl,bz,bA⟩
 refine xn 0<|sq ?_
 obtain ⟨aG,j,hm⟩:=ah hm
 refine aI [3] (fun l h=>∃ au aq aH aJ af av,aq=aG∧RS (α:=UInt8) au aJ aq.B∧RCs (α:=al) au av aq.L∧l=[(3,Pt aH 0)]∧St hs [] Z (0,0) au h [.ae aH (bf aJ af aq), .gs af av (aa al)]) ?_ ?_
 rintro l cj ⟨au,aq,aH,aJ,af,av,rfl,ck,bB,rfl,aW⟩
 try dsimp only at hm
 refine s0<|aB 3 0 af aW rfl<|xn 1<|rt<|⟨rfl,?_⟩
 obtain rfl:=si hm
 refine ⟨_,_,_,tk af (ResL.nil),((aW.front 1 rfl).takeN 1),?_⟩
 exact ⟨af,av,rfl,rfl,bB⟩
 refine bk 0<|lp [0,3] (fun n l h=>∃ aw J I ai aj ak,correctorref6_Tokens_l0 F a0 n J=some aG∧RS (α:=UInt8) aw ai J.B∧RCs (α:=al) aw ak J.L∧l=[(0,v2),(3,Pt I 0)]∧St hs [] Z (0,0) aw h [.ae I (bf ai aj J), .gs aj ak (aa al)]) F ⟨_,bp,bm,bw,(.slice none 0 0),bx,j,bz,bA,(by kernel_rfl),br⟩ ?_
 rintro an l cl ⟨aw,J,I,ai,aj,ak,j,ax,ay,rfl,az⟩
 rcases an with _ | an
 cases (show none=some aG from j)
 rw [correctorref6_Tokens_l0] at j
 refine sq<|s0<|aB 3 0 (V J.At) az rfl<|bD 1 v2 (RS.len (ar.mono az.ag))<|aP 0 j ?_ ?_<;>intro cm j
 refine xn 0<|dT<|sk<|bk 1<|sp 1<|sq ?_
 obtain ⟨bC,ab,j⟩:=ah j
 refine aI [0,3,4] (fun l h=>∃ aA ao aK ad aL aM aQ,(ao,aK)=bC∧RS (α:=UInt8) aA aL ao.B∧RCs (α:=al) aA aQ ao.L∧l=[(0,v2),(3,Pt ad 0),(4,V aK)]∧St hs [] Z (0,0) aA h [.ae ad (bf aL aM ao), .gs aM aQ (aa al)]) ?_ ?_
 rintro l cn ⟨aA,ao,aK,ad,aL,aM,aQ,rfl,aZ,a1,rfl,aR⟩
 try dsimp only at j
 refine sq<|s0<|cH 1 j ?_ ?_<;>intro cp j
 refine xn 0<|dT<|s0<|aB 5 0 (V ao.At) aR rfl ?_
 obtain ⟨U,bE,j⟩:=ah j
 refine cA 1 aR (fun p=>dW F p aZ a1 bE) ?_
 rintro _ cq ct _ cu bF ⟨a2,a3,bH,rfl,rfl,bI,bJ⟩
 refine xn 0<|s0<|bG 3 0 (V 0) [V 0] [a2,V U.At,V U.Row,V 0,V U.bY, .bool U.cr,V U.Text,a3] bF rfl rfl rfl ?_
 intro cv bK
 refine xn 0<|xt 1<|aO ?_
 exact ⟨an,Nat.lt_succ_self _,⟨_,(⟨U.B,U.At,U.Row,0,U.bY,U.cr,U.Text,U.L⟩:aF),ad,a2,a3,bH,j,bI,bJ,(by kernel_rfl),bK⟩⟩
 refine xn 0<|dF<|sk<|s0 ?_
 obtain ⟨bL,bM,j⟩:=ah j
 refine cA 1 aR (fun p=>CH F p aZ a1 bM) ?_
 rintro _ cw cx _ cz a4 ⟨bN,bO,bP,rfl,rfl,a5,a6⟩
 refine kb 0 49 j ?_ ?_<;>intro cB j
 refine xn 6<|dF<|sk ?_
 exact ⟨an,Nat.lt_succ_self _,⟨_,bL.2,ad,bN,bO,bP,j,a5,a6,(by kernel_rfl),a4⟩⟩
 obtain ⟨bR,bS,j⟩:=ah j
 refine cA 3 a4 (fun p=>Aq F p a5 a6 bS) ?_
 rintro _ cC cD _ cF a7 ⟨bU,bV,bW,rfl,rfl,a8,ba⟩
 refine kb 0 53 j ?_ ?_<;>intro cG j
 refine xn 2<|dF<|sk ?_
 exact ⟨an,Nat.lt_succ_self _,⟨_,bR.2,ad,bU,bV,bW,j,a8,ba,(by kernel_rfl),a7⟩⟩
 refine xn 2<|dT<|g0 ?_
 obtain ⟨bX,bZ,j⟩:=ah j
 refine cA 1 a7 (fun p=>wG F p a8 ba bZ) ?_
 rintro _ cI cJ _ cK b0 ⟨b1,b2,b3,rfl,rfl,b4,b5⟩
 refine xn 0 ?_
 exact ⟨an,Nat.lt_succ_self _,⟨_,bX,ad,b1,b2,b3,j,b4,b5,(by kernel_rfl),b0⟩⟩
 refine cU yZ az ?_
 intro bb cL bc aE
 refine yq 3 [(22,Pt I 1),(4,V 0),(0,v2),(3,Pt I 0)] ?_
 have cM:I<bb:=bc.1 _ (List.mem_of_getElem? (i:=0) rfl) _ (by simp [Itm.ids])
 refine aX (v:=V J.At) rfl trivial rfl (by show I<_;omega) (aC (v:=V J.At) trivial) (aE.aS (i:=0) rfl (by kernel_rfl)) trivial<|yq 3 [(26,Pt I 2),(23,V J.At),(4,V 0),(0,v2),(3,Pt I 0)] ?_
 have cN:I<bb:=bc.1 _ (List.mem_of_getElem? (i:=0) rfl) _ (by simp [Itm.ids])
 refine aX (v:=V J.Row) rfl trivial rfl (by show I<_;omega) (aC (v:=V J.Row) trivial) (aE.aS (i:=0) rfl (by kernel_rfl)) trivial ?_
 rcases ifs ab with ⟨aU,ab⟩ | ⟨aU,ab⟩
 refine aD rfl trivial (a9 rfl rfl (eV aU))<|yf [(28, .bool true),(4,V 0),(0,v2),(3,Pt I 0)] ?_
 have bd:=aE.aY
 refine dT<|g0<|aB 4 0 (V J.At) bd rfl ?_
 obtain ⟨b7,b8,ab⟩:=ah ab
 refine cE 0 bd (fun cO bg b9 bh=>tT F b9 (RS.mono bg ax) (bj.row (bh _ (List.mem_of_getElem? (i:=1) rfl)) bg ay) (bh _ (List.mem_of_getElem? (i:=0) rfl)) b8) ?_
 rintro _ cP ca rfl
 refine xn 1 ?_
 obtain rfl:=si ab
 exact ⟨_,J,b7,I,ai,aj,ak,rfl,ax,ay,(by kernel_rfl),ca⟩
 refine aD rfl trivial (a9 rfl rfl (eX aU))<|yf [(28, .bool false),(4,V 0),(0,v2),(3,Pt I 0)] ?_
 have cb:=aE.aY
 refine dF<|sk ?_
 obtain rfl:=si ab
 exact ⟨_,J,0,I,ai,aj,ak,rfl,ax,ay,(by kernel_rfl),cb⟩
 refine xn 0<|dF<|xt 0<|aO ?_
 obtain rfl:=si j
 exact ⟨_,J,I,ai,aj,ak,rfl,ax,ay,(by kernel_rfl),az⟩
def xx:List aN:=[u 6 (mv 0),u 7 (mv 1),u 8 (bo .rem 3 6 7 3),u 5 (sg 8)]
def mV (F:Nat) (a0:Int) (a1:Int):Option Int:=
 if ¬ a1=(0:Int) then
  ((if (a0.tmod a1)<(0:Int) then
    some (af ((a0.tmod a1)+a1))
   else
    some (a0.tmod a1)):Option Int).bind fun o=>match o with
   | j=>some j
 else none
theorem Bo (F:Nat) {h:AH} {Z:Zn} {a0:Int} {a1:Int} (hI:Inv Z h) {r:Int} (hm:mV F a0 a1=some r):
  b3 Try.prog 53 [V a0,V a1] h Z (V r):=by
 refine b4 Try.func53 hI ?_
 intro hs hS
 unfold mV at hm
 refine sp 1<|sr xx<|xq 2 [(7,V a1),(6,V a0),(1,V a1)] ?_
 obtain ⟨U,hm⟩:=aJ hm
 refine bT rfl trivial (yu U rfl rfl)<|xn 1<|sq ?_
 obtain ⟨aa,j,hm⟩:=ah hm
 refine eo [5] (fun l h=>∃ J I,I=aa∧l=[(5,V I)]∧St hs [] Z (0,0) J h []) (by kernel_rfl) ?_ ?_
 rintro l ad ⟨J,I,rfl,rfl,ab⟩
 try dsimp only at hm
 refine sp 2<|rt<|⟨rfl,?_⟩
 obtain rfl:=si hm
 refine ⟨_,_,_,tk (V I) (ResL.nil),ab,?_⟩
 exact rfl
 refine g0<|aP 1 j ?_ ?_<;>intro ae j
 refine xn 0<|dT<|gp 4 ?_
 obtain rfl:=si j
 exact ⟨_,af ((a0.tmod a1)+a1),rfl,(by kernel_rfl),hS⟩
 refine xn 0<|dF<|sk ?_
 obtain rfl:=si j
 exact ⟨_,a0.tmod a1,rfl,(by kernel_rfl),hS⟩
def zS:List aN:=[u 4 (.buildSlice 75 41 #[(0,(.const (.string {data:=#[97]}))),(1,(.const (.string {data:=#[98,58,32]}))),(2,(.const (.string {data:=#[45,32]}))),(3,(.const (.string {data:=#[10]}))),(4,(.const (.string {data:=#[10]}))),(5,(.const (.string {data:=#[10,32,32]}))),(6,(.const (.string {data:=#[10,32,32,32,32]}))),(7,(.const (.string {data:=#[107,101,121,58,32]}))),(8,(.const (.string {data:=#[91]}))),(9,(.const (.string {data:=#[93]}))),(10,(.const (.string {data:=#[123]}))),(11,(.const (.string {data:=#[125]}))),(12,(.const (.string {data:=#[44,32]}))),(13,(.const (.string {data:=#[58,32]}))),(14,(.const (.string {data:=#[39,105,116,39,39,115,39]}))),(15,(.const (.string {data:=#[34,120,92,110,34]}))),(16,(.const (.string {data:=#[35,32,110,111,116,101,10]}))),(17,(.const (.string {data:=#[38,110,32]}))),(18,(.const (.string {data:=#[42,110]}))),(19,(.const (.string {data:=#[33,33,105,110,116,32]}))),(20,(.const (.string {data:=#[124,10]}))),(21,(.const (.string {data:=#[62,45,10]}))),(22,(.const (.string {data:=#[45,45,45]}))),(23,(.const (.string {data:=#[46,46,46]}))),(24,(.const (.string {data:=#[9]}))),(25,(.const (.string {data:=#[13,10]}))),(26,(.const (.string {data:=#[32]}))),(27,(.const (.string {data:=#[49]}))),(28,(.const (.string {data:=#[126]}))),(29,(.const (.string {data:=#[39,111,112,101,110]}))),(30,(.const (.string {data:=#[34,92,113,34]}))),(31,(.const (.string {data:=#[45]}))),(32,(.const (.string {data:=#[58]}))),(33,(.const (.string {data:=#[116,101,120,116,32,111,102,32,119,111,114,100,115]}))),(34,(.const (.string {data:=#[10,45,32]}))),(35,(.const (.string {data:=#[10,107,58,32]}))),(36,(.const (.string {data:=#[32,32]}))),(37,(.const (.string {data:=#[35,32,111,102,102]}))),(38,(.const (.string {data:=#[44]}))),(39,(.const (.string {data:=#[124,43]}))),(40,(.const (.string {data:=#[10,10]})))]),u 3 (sg 4)]
def mA (F:Nat) (a0:Int):Option ar:=
 (mV F a0 ([(⟨[97]⟩:ar),(⟨[98,58,32]⟩:ar),(⟨[45,32]⟩:ar),(⟨[10]⟩:ar),(⟨[10]⟩:ar),(⟨[10,32,32]⟩:ar),(⟨[10,32,32,32,32]⟩:ar),(⟨[107,101,121,58,32]⟩:ar),(⟨[91]⟩:ar),(⟨[93]⟩:ar),(⟨[123]⟩:ar),(⟨[125]⟩:ar),(⟨[44,32]⟩:ar),(⟨[58,32]⟩:ar),(⟨[39,105,116,39,39,115,39]⟩:ar),(⟨[34,120,92,110,34]⟩:ar),(⟨[35,32,110,111,116,101,10]⟩:ar),(⟨[38,110,32]⟩:ar),(⟨[42,110]⟩:ar),(⟨[33,33,105,110,116,32]⟩:ar),(⟨[124,10]⟩:ar),(⟨[62,45,10]⟩:ar),(⟨[45,45,45]⟩:ar),(⟨[46,46,46]⟩:ar),(⟨[9]⟩:ar),(⟨[13,10]⟩:ar),(⟨[32]⟩:ar),(⟨[49]⟩:ar),(⟨[126]⟩:ar),(⟨[39,111,112,101,110]⟩:ar),(⟨[34,92,113,34]⟩:ar),(⟨[45]⟩:ar),(⟨[58]⟩:ar),(⟨[116,101,120,116,32,111,102,32,119,111,114,100,115]⟩:ar),(⟨[10,45,32]⟩:ar),(⟨[10,107,58,32]⟩:ar),(⟨[32,32]⟩:ar),(⟨[35,32,111,102,102]⟩:ar),(⟨[44]⟩:ar),(⟨[124,43]⟩:ar),(⟨[10,10]⟩:ar)].length:Int)).bind fun j=>
 if 0≤j∧j<([(⟨[97]⟩:ar),(⟨[98,58,32]⟩:ar),(⟨[45,32]⟩:ar),(⟨[10]⟩:ar),(⟨[10]⟩:ar),(⟨[10,32,32]⟩:ar),(⟨[10,32,32,32,32]⟩:ar),(⟨[107,101,121,58,32]⟩:ar),(⟨[91]⟩:ar),(⟨[93]⟩:ar),(⟨[123]⟩:ar),(⟨[125]⟩:ar),(⟨[44,32]⟩:ar),(⟨[58,32]⟩:ar),(⟨[39,105,116,39,39,115,39]⟩:ar),(⟨[34,120,92,110,34]⟩:ar),(⟨[35,32,110,111,116,101,10]⟩:ar),(⟨[38,110,32]⟩:ar),(⟨[42,110]⟩:ar),(⟨[33,33,105,110,116,32]⟩:ar),(⟨[124,10]⟩:ar),(⟨[62,45,10]⟩:ar),(⟨[45,45,45]⟩:ar),(⟨[46,46,46]⟩:ar),(⟨[9]⟩:ar),(⟨[13,10]⟩:ar),(⟨[32]⟩:ar),(⟨[49]⟩:ar),(⟨[126]⟩:ar),(⟨[39,111,112,101,110]⟩:ar),(⟨[34,92,113,34]⟩:ar),(⟨[45]⟩:ar),(⟨[58]⟩:ar),(⟨[116,101,120,116,32,111,102,32,119,111,114,100,115]⟩:ar),(⟨[10,45,32]⟩:ar),(⟨[10,107,58,32]⟩:ar),(⟨[32,32]⟩:ar),(⟨[35,32,111,102,102]⟩:ar),(⟨[44]⟩:ar),(⟨[124,43]⟩:ar),(⟨[10,10]⟩:ar)].length:Int) then
  ([(⟨[97]⟩:ar),(⟨[98,58,32]⟩:ar),(⟨[45,32]⟩:ar),(⟨[10]⟩:ar),(⟨[10]⟩:ar),(⟨[10,32,32]⟩:ar),(⟨[10,32,32,32,32]⟩:ar),(⟨[107,101,121,58,32]⟩:ar),(⟨[91]⟩:ar),(⟨[93]⟩:ar),(⟨[123]⟩:ar),(⟨[125]⟩:ar),(⟨[44,32]⟩:ar),(⟨[58,32]⟩:ar),(⟨[39,105,116,39,39,115,39]⟩:ar),(⟨[34,120,92,110,34]⟩:ar),(⟨[35,32,110,111,116,101,10]⟩:ar),(⟨[38,110,32]⟩:ar),(⟨[42,110]⟩:ar),(⟨[33,33,105,110,116,32]⟩:ar),(⟨[124,10]⟩:ar),(⟨[62,45,10]⟩:ar),(⟨[45,45,45]⟩:ar),(⟨[46,46,46]⟩:ar),(⟨[9]⟩:ar),(⟨[13,10]⟩:ar),(⟨[32]⟩:ar),(⟨[49]⟩:ar),(⟨[126]⟩:ar),(⟨[39,111,112,101,110]⟩:ar),(⟨[34,92,113,34]⟩:ar),(⟨[45]⟩:ar),(⟨[58]⟩:ar),(⟨[116,101,120,116,32,111,102,32,119,111,114,100,115]⟩:ar),(⟨[10,45,32]⟩:ar),(⟨[10,107,58,32]⟩:ar),(⟨[32,32]⟩:ar),(⟨[35,32,111,102,102]⟩:ar),(⟨[44]⟩:ar),(⟨[124,43]⟩:ar),(⟨[10,10]⟩:ar)][j.toNat]?).bind fun I=>
  some I
 else none
theorem wR (F:Nat) {h:AH} {Z:Zn} {a0:Int} (hI:Inv Z h) {r:ar} (hm:mA F a0=some r):
  b3 Try.prog 29 [V a0] h Z (.string ⟨⟨r.b⟩⟩):=by
 refine b4 Try.func29 hI ?_
 intro hs hS
 unfold mA at hm
 refine s0<|xe 1 [(0,V a0)]<|sr zS ?_
 have j:RCs (α:=ar) Z [.string ⟨⟨[97]⟩⟩, .string ⟨⟨[98,58,32]⟩⟩, .string ⟨⟨[45,32]⟩⟩, .string ⟨⟨[10]⟩⟩, .string ⟨⟨[10]⟩⟩, .string ⟨⟨[10,32,32]⟩⟩, .string ⟨⟨[10,32,32,32,32]⟩⟩, .string ⟨⟨[107,101,121,58,32]⟩⟩, .string ⟨⟨[91]⟩⟩, .string ⟨⟨[93]⟩⟩, .string ⟨⟨[123]⟩⟩, .string ⟨⟨[125]⟩⟩, .string ⟨⟨[44,32]⟩⟩, .string ⟨⟨[58,32]⟩⟩, .string ⟨⟨[39,105,116,39,39,115,39]⟩⟩, .string ⟨⟨[34,120,92,110,34]⟩⟩, .string ⟨⟨[35,32,110,111,116,101,10]⟩⟩, .string ⟨⟨[38,110,32]⟩⟩, .string ⟨⟨[42,110]⟩⟩, .string ⟨⟨[33,33,105,110,116,32]⟩⟩, .string ⟨⟨[124,10]⟩⟩, .string ⟨⟨[62,45,10]⟩⟩, .string ⟨⟨[45,45,45]⟩⟩, .string ⟨⟨[46,46,46]⟩⟩, .string ⟨⟨[9]⟩⟩, .string ⟨⟨[13,10]⟩⟩, .string ⟨⟨[32]⟩⟩, .string ⟨⟨[49]⟩⟩, .string ⟨⟨[126]⟩⟩, .string ⟨⟨[39,111,112,101,110]⟩⟩, .string ⟨⟨[34,92,113,34]⟩⟩, .string ⟨⟨[45]⟩⟩, .string ⟨⟨[58]⟩⟩, .string ⟨⟨[116,101,120,116,32,111,102,32,119,111,114,100,115]⟩⟩, .string ⟨⟨[10,45,32]⟩⟩, .string ⟨⟨[10,107,58,32]⟩⟩, .string ⟨⟨[32,32]⟩⟩, .string ⟨⟨[35,32,111,102,102]⟩⟩, .string ⟨⟨[44]⟩⟩, .string ⟨⟨[124,43]⟩⟩, .string ⟨⟨[10,10]⟩⟩] [(⟨[97]⟩:ar),(⟨[98,58,32]⟩:ar),(⟨[45,32]⟩:ar),(⟨[10]⟩:ar),(⟨[10]⟩:ar),(⟨[10,32,32]⟩:ar),(⟨[10,32,32,32,32]⟩:ar),(⟨[107,101,121,58,32]⟩:ar),(⟨[91]⟩:ar),(⟨[93]⟩:ar),(⟨[123]⟩:ar),(⟨[125]⟩:ar),(⟨[44,32]⟩:ar),(⟨[58,32]⟩:ar),(⟨[39,105,116,39,39,115,39]⟩:ar),(⟨[34,120,92,110,34]⟩:ar),(⟨[35,32,110,111,116,101,10]⟩:ar),(⟨[38,110,32]⟩:ar),(⟨[42,110]⟩:ar),(⟨[33,33,105,110,116,32]⟩:ar),(⟨[124,10]⟩:ar),(⟨[62,45,10]⟩:ar),(⟨[45,45,45]⟩:ar),(⟨[46,46,46]⟩:ar),(⟨[9]⟩:ar),(⟨[13,10]⟩:ar),(⟨[32]⟩:ar),(⟨[49]⟩:ar),(⟨[126]⟩:ar),(⟨[39,111,112,101,110]⟩:ar),(⟨[34,92,113,34]⟩:ar),(⟨[45]⟩:ar),(⟨[58]⟩:ar),(⟨[116,101,120,116,32,111,102,32,119,111,114,100,115]⟩:ar),(⟨[10,45,32]⟩:ar),(⟨[10,107,58,32]⟩:ar),(⟨[32,32]⟩:ar),(⟨[35,32,111,102,102]⟩:ar),(⟨[44]⟩:ar),(⟨[124,43]⟩:ar),(⟨[10,10]⟩:ar)]:=RCs.cons (cs:=[.string ⟨⟨[97]⟩⟩]) rfl (RCs.cons (cs:=[.string ⟨⟨[98,58,32]⟩⟩]) rfl (RCs.cons (cs:=[.string ⟨⟨[45,32]⟩⟩]) rfl (RCs.cons (cs:=[.string ⟨⟨[10]⟩⟩]) rfl (RCs.cons (cs:=[.string ⟨⟨[10]⟩⟩]) rfl (RCs.cons (cs:=[.string ⟨⟨[10,32,32]⟩⟩]) rfl (RCs.cons (cs:=[.string ⟨⟨[10,32,32,32,32]⟩⟩]) rfl (RCs.cons (cs:=[.string ⟨⟨[107,101,121,58,32]⟩⟩]) rfl (RCs.cons (cs:=[.string ⟨⟨[91]⟩⟩]) rfl (RCs.cons (cs:=[.string ⟨⟨[93]⟩⟩]) rfl (RCs.cons (cs:=[.string ⟨⟨[123]⟩⟩]) rfl (RCs.cons (cs:=[.string ⟨⟨[125]⟩⟩]) rfl (RCs.cons (cs:=[.string ⟨⟨[44,32]⟩⟩]) rfl (RCs.cons (cs:=[.string ⟨⟨[58,32]⟩⟩]) rfl (RCs.cons (cs:=[.string ⟨⟨[39,105,116,39,39,115,39]⟩⟩]) rfl (RCs.cons (cs:=[.string ⟨⟨[34,120,92,110,34]⟩⟩]) rfl (RCs.cons (cs:=[.string ⟨⟨[35,32,110,111,116,101,10]⟩⟩]) rfl (RCs.cons (cs:=[.string ⟨⟨[38,110,32]⟩⟩]) rfl (RCs.cons (cs:=[.string ⟨⟨[42,110]⟩⟩]) rfl (RCs.cons (cs:=[.string ⟨⟨[33,33,105,110,116,32]⟩⟩]) rfl (RCs.cons (cs:=[.string ⟨⟨[124,10]⟩⟩]) rfl (RCs.cons (cs:=[.string ⟨⟨[62,45,10]⟩⟩]) rfl (RCs.cons (cs:=[.string ⟨⟨[45,45,45]⟩⟩]) rfl (RCs.cons (cs:=[.string ⟨⟨[46,46,46]⟩⟩]) rfl (RCs.cons (cs:=[.string ⟨⟨[9]⟩⟩]) rfl (RCs.cons (cs:=[.string ⟨⟨[13,10]⟩⟩]) rfl (RCs.cons (cs:=[.string ⟨⟨[32]⟩⟩]) rfl (RCs.cons (cs:=[.string ⟨⟨[49]⟩⟩]) rfl (RCs.cons (cs:=[.string ⟨⟨[126]⟩⟩]) rfl (RCs.cons (cs:=[.string ⟨⟨[39,111,112,101,110]⟩⟩]) rfl (RCs.cons (cs:=[.string ⟨⟨[34,92,113,34]⟩⟩]) rfl (RCs.cons (cs:=[.string ⟨⟨[45]⟩⟩]) rfl (RCs.cons (cs:=[.string ⟨⟨[58]⟩⟩]) rfl (RCs.cons (cs:=[.string ⟨⟨[116,101,120,116,32,111,102,32,119,111,114,100,115]⟩⟩]) rfl (RCs.cons (cs:=[.string ⟨⟨[10,45,32]⟩⟩]) rfl (RCs.cons (cs:=[.string ⟨⟨[10,107,58,32]⟩⟩]) rfl (RCs.cons (cs:=[.string ⟨⟨[32,32]⟩⟩]) rfl (RCs.cons (cs:=[.string ⟨⟨[35,32,111,102,102]⟩⟩]) rfl (RCs.cons (cs:=[.string ⟨⟨[44]⟩⟩]) rfl (RCs.cons (cs:=[.string ⟨⟨[124,43]⟩⟩]) rfl (RCs.cons (cs:=[.string ⟨⟨[10,10]⟩⟩]) rfl (RCs.bu _)))))))))))))))))))))))))))))))))))))))))
 refine dP rfl trivial (c3 (cells:=[.string ⟨⟨[97]⟩⟩, .string ⟨⟨[98,58,32]⟩⟩, .string ⟨⟨[45,32]⟩⟩, .string ⟨⟨[10]⟩⟩, .string ⟨⟨[10]⟩⟩, .string ⟨⟨[10,32,32]⟩⟩, .string ⟨⟨[10,32,32,32,32]⟩⟩, .string ⟨⟨[107,101,121,58,32]⟩⟩, .string ⟨⟨[91]⟩⟩, .string ⟨⟨[93]⟩⟩, .string ⟨⟨[123]⟩⟩, .string ⟨⟨[125]⟩⟩, .string ⟨⟨[44,32]⟩⟩, .string ⟨⟨[58,32]⟩⟩, .string ⟨⟨[39,105,116,39,39,115,39]⟩⟩, .string ⟨⟨[34,120,92,110,34]⟩⟩, .string ⟨⟨[35,32,110,111,116,101,10]⟩⟩, .string ⟨⟨[38,110,32]⟩⟩, .string ⟨⟨[42,110]⟩⟩, .string ⟨⟨[33,33,105,110,116,32]⟩⟩, .string ⟨⟨[124,10]⟩⟩, .string ⟨⟨[62,45,10]⟩⟩, .string ⟨⟨[45,45,45]⟩⟩, .string ⟨⟨[46,46,46]⟩⟩, .string ⟨⟨[9]⟩⟩, .string ⟨⟨[13,10]⟩⟩, .string ⟨⟨[32]⟩⟩, .string ⟨⟨[49]⟩⟩, .string ⟨⟨[126]⟩⟩, .string ⟨⟨[39,111,112,101,110]⟩⟩, .string ⟨⟨[34,92,113,34]⟩⟩, .string ⟨⟨[45]⟩⟩, .string ⟨⟨[58]⟩⟩, .string ⟨⟨[116,101,120,116,32,111,102,32,119,111,114,100,115]⟩⟩, .string ⟨⟨[10,45,32]⟩⟩, .string ⟨⟨[10,107,58,32]⟩⟩, .string ⟨⟨[32,32]⟩⟩, .string ⟨⟨[35,32,111,102,102]⟩⟩, .string ⟨⟨[44]⟩⟩, .string ⟨⟨[124,43]⟩⟩, .string ⟨⟨[10,10]⟩⟩]) (s:=1) (by kernel_rfl)) (by kernel_rfl) hS ?_
 intro v1 h2 I
 refine xn 1<|s0<|bD 3 v1 (I.dn (i:=0) rfl j) ?_
 obtain ⟨ab,aa,hm⟩:=ah hm
 refine cP 0 I (Bo F I.inv aa) ?_
 rintro _ ad J rfl
 refine dv 0 0 hm J j rfl ?_
 intro ae hm
 refine eh 0 0 0 (fun U=> .string ⟨⟨U.b⟩⟩) hm J j rfl ?_
 intro U af hm
 refine xn 1<|rt<|⟨rfl,?_⟩
 obtain rfl:=si hm
 refine ⟨_,_,_,tk (.string ⟨⟨U.b⟩⟩) (ResL.nil),J,?_⟩
 exact rfl
def DK:List aN:=[u 17 (mv 6),u 18 (mv 0),u 19 (cb .len #[(t 18)] #[23]),u 20 (bc .quo 3 19 2 3),u 21 (bo .eql 3 17 20 3)]
def EC:List aN:=[u 22 (mv 5),u 23 (mv 1),u 24 (mv 1),u 25 (cb .len #[(t 24)] #[31]),u 26 (cb .min #[(t 25),(ci 30)] #[3,3]),u 27 (.slice 31 (t 23) none (some (t 26)) none),u 28 (cb .append #[(t 22),(t 27)] #[31,31]),u 5 (sg 28)]
def zX:List aN:=[u 29 (mv 5),u 30 (mv 0),u 31 (mv 6),u 32 (ia 23 30 31),u 33 (ld 3 32),u 34 (cf 29 #[(t 33)] #[3]),u 35 (cb .append #[(t 29),(t 34)] #[31,9]),u 5 (sg 35)]
def xv:List aN:=[u 36 (mv 5),u 37 (mv 5),u 38 (cb .len #[(t 37)] #[31]),u 39 (cb .min #[(t 38),(ci 400)] #[3,3]),u 40 (.slice 31 (t 36) none (some (t 39)) none),u 4 (sg 40)]
def correctorlaw6_Text_l0 (F:Nat) (a0:List Int) (a1:List UInt8):Nat→(List UInt8)→Int→Option (List UInt8)
 | 0,_,_=>none
 | n+1,I,j=>
  if j<(a0.length:Int) then
   if j<(60:Int) then
    ((if j=(af ((a0.length:Int).tdiv 2)) then
      if 0≤(0:Int)∧(0:Int)≤(dC (a1.length:Int) 30)∧(dC (a1.length:Int) 30)≤(a1.length:Int) then
       if I.length+((a1.take (dC (a1.length:Int) 30).toNat).drop (0:Int).toNat).length≤140737488355328 then
        some (I++((a1.take (dC (a1.length:Int) 30).toNat).drop (0:Int).toNat))
       else none
      else none
     else
      some I):Option (List UInt8)).bind fun o=>match o with
     | J=>if 0≤j∧j<(a0.length:Int) then
      (a0[j.toNat]?).bind fun aa=>
      (mA F aa).bind fun U=>
      if J.length+U.b.length≤140737488355328 then
       correctorlaw6_Text_l0 F a0 a1 n (J++U.b) (af (j+1))
      else none
     else none
   else
    some I
  else
   some I
def np (F:Nat) (a0:List Int) (a1:List UInt8):Option (List UInt8):=
 ((correctorlaw6_Text_l0 F a0 a1 F [] 0):Option (List UInt8)).bind fun o=>match o with
  | j=>if 0≤(0:Int)∧(0:Int)≤(dC (j.length:Int) 400)∧(dC (j.length:Int) 400)≤(j.length:Int) then
   some ((j.take (dC (j.length:Int) 400).toNat).drop (0:Int).toNat)
  else none
theorem zH (F:Nat) {h:AH} {Z:Zn} {a0:List Int} {a1:List UInt8} {v2 v4} (hP:Pre Z h []) (ao:RS (α:=Int) Z v2 a0) (aD:RS (α:=UInt8) Z v4 a1) {r:(List UInt8)} (hm:np F a0 a1=some r):
  bQ Try.prog 12 [v2,v4] h Z [] fun v Z' A'=>∃ v6,v6=v∧A'=[]∧RS (α:=UInt8) Z' v6 r:=by
 refine b6 Try.func12 hP ?_
 intro hs hS
 unfold np at hm
 replace hS:St hs [] Z (0,0) Z hs []:=hS
 refine sp 1<|sp 1<|sq<|sp 1 ?_
 obtain ⟨au,j,hm⟩:=ah hm
 refine aI [5] (fun l h=>∃ av ai aj aw,ai=au∧RCs (α:=UInt8) av aw ai∧l=[(5,aj)]∧St hs [] Z (0,0) av h [.gs aj aw (aa UInt8)]) ?_ ?_
 rintro l bb ⟨av,ai,aj,aw,rfl,aE,rfl,aF⟩
 try dsimp only at hm
 refine sr xv<|bD 2 aj (aF.dn (i:=0) rfl aE)<|xq 1 [(39,V (dC (ai.length:Int) 400)),(36,aj)] ?_
 obtain ⟨bc,bd,aM,aQ⟩:=(aF.front 0 rfl).freeze aE
 obtain ⟨ax,hm⟩:=aJ hm
 refine kT rfl trivial (iW (a:=0) (b:=dC (ai.length:Int) 400) aM rfl (by kernel_rfl:slTy _ _=some (aa UInt8)) rfl ⟨_,rfl⟩ ax.1 ax.2.1 ax.2.2) ?_
 intro aH aR
 refine xn 1<|rt<|⟨rfl,?_⟩
 obtain rfl:=si hm
 refine ⟨_,_,_,tk aH (ResL.nil),aQ,?_⟩
 exact ⟨aH,rfl,rfl,aR⟩
 refine bk 0 ?_
 have aS:=hS.dh (aa UInt8)
 refine lp [0,1,5,6] (fun n l h=>∃ ay ad I J ae,correctorlaw6_Text_l0 F a0 a1 n ad I=some au∧RCs (α:=UInt8) ay ae ad∧l=[(0,v2),(1,v4),(5,J),(6,V I)]∧St hs [] Z (0,0) ay h [.gs J ae (aa UInt8)]) F ⟨_,[],0,(.slice none 0 0),[],j,(RCs.bu _),(by kernel_rfl),aS⟩ ?_
 rintro az l bf ⟨ay,ad,I,J,ae,j,aq,rfl,U⟩
 rcases az with _ | az
 cases (show none=some au from j)
 rw [correctorlaw6_Text_l0] at j
 refine sq<|s0<|bD 2 v2 (RS.len (ao.mono U.ag))<|aP 0 j ?_ ?_<;>intro bg j
 refine aP 2 j ?_ ?_<;>intro bh j
 refine xn 1<|dT<|sk<|sq<|bk 1<|sq ?_
 obtain ⟨aU,ab,j⟩:=ah j
 refine eo [0,1,5,6] (fun l h=>∃ aA ar ak aB,ar=aU∧RCs (α:=UInt8) aA aB ar∧l=[(0,v2),(1,v4),(5,ak),(6,V I)]∧St hs [] Z (0,0) aA h [.gs ak aB (aa UInt8)]) (by kernel_rfl) ?_ ?_
 rintro l bj ⟨aA,ar,ak,aB,rfl,aV,rfl,an⟩
 try dsimp only at j
 refine rg zX<|xq 3 [(31,V I),(30,v2),(29,ak),(0,v2),(1,v4),(5,ak),(6,V I)]<|a2 0 j (ao.mono an.ag) ?_
 intro bl j
 refine bm 0 0 (fun aK=>V aK) j (ao.mono an.ag) an ?_
 intro aK bn j
 obtain ⟨aL,aW,j⟩:=ah j
 refine cP 0 an (wR F an.inv aW) ?_
 rintro _ bo aX rfl
 obtain ⟨bp,j⟩:=aJ j
 refine eY rfl trivial (dM (ys:=aL.b) (bP:=1) aX (i:=0) rfl aV (Dl _ _) rfl rfl (by kernel_rfl) (by omega) (by omega)) ?_
 rintro aY aZ bq ⟨a3,a4⟩
 refine xn 1<|gp 3 ?_
 exact ⟨az,Nat.lt_succ_self _,⟨_,ar++aL.b,af (I+1),aY,aZ,j,a3,(by kernel_rfl),a4⟩⟩
 refine rg DK<|xq 2 [(18,v2),(17,V I),(0,v2),(1,v4),(5,J),(6,V I)]<|bD 0 v2 (RS.len (ao.mono U.ag))<|bT rfl trivial (CI (b:=2) (by decide) rfl rfl)<|aG 0 ab ?_ ?_<;>intro br ab
 refine xn 0<|dT<|rg EC<|bD 3 v4 (RS.len (aD.mono U.ag))<|xq 1 [(26,V (dC (a1.length:Int) 30)),(23,v4),(22,J),(0,v2),(1,v4),(5,J),(6,V I)] ?_
 obtain ⟨aC,ab⟩:=aJ ab
 refine kT rfl trivial (iW (a:=0) (b:=dC (a1.length:Int) 30) (aD.mono U.ag) rfl (by kernel_rfl:slTy _ _=some (aa UInt8)) rfl ⟨_,rfl⟩ aC.1 aC.2.1 aC.2.2) ?_
 intro bw a5
 obtain ⟨bx,a6⟩:=RS.news a5 (U).inv
 obtain ⟨bz,ab⟩:=aJ ab
 refine eY rfl trivial (dM (ys:=(a1.take (dC (a1.length:Int) 30).toNat).drop (0:Int).toNat) (bP:=1) U (i:=0) rfl aq a6 rfl rfl (by kernel_rfl) (by omega) (by omega)) ?_
 rintro a7 a8 bA ⟨a9,ba⟩
 refine xn 1 ?_
 obtain rfl:=si ab
 exact ⟨_,ad++((a1.take (dC (a1.length:Int) 30).toNat).drop (0:Int).toNat),a7,a8,rfl,a9,(by kernel_rfl),ba⟩
 refine xn 0<|dF<|sk ?_
 obtain rfl:=si ab
 exact ⟨_,ad,J,ae,rfl,aq,(by kernel_rfl),U⟩
 refine xn 1<|dF<|xt 0<|aO ?_
 obtain rfl:=si j
 exact ⟨_,ad,J,ae,rfl,aq,(by kernel_rfl),U⟩
 refine xn 4<|dF<|xt 0<|aO ?_
 obtain rfl:=si j
 exact ⟨_,ad,J,ae,rfl,aq,(by kernel_rfl),U⟩
end Go.Proofs.Ytcilejikekccmaa.M
namespace Go.Proofs.Ytcilejikekccmaa.M
open Go Am Sy
open Sy.Cell (rc)
structure an where
 Kind:Int
 ai:Int
 To:Int
 aE:Int
 deriving DecidableEq,Inhabited
instance:Cell an where
 size:=4
 rc Z cs x:=cs=[V x.Kind,V x.ai,V x.To,V x.aE]
 len h:=by rw [h];rfl
 mono _ h:=h
 one h:=by rw [h];rfl
 pos:=by decide
theorem Cb {Z:Zn} {cs:List Value} {x:an} (h:rc Z cs x):cs=[V x.Kind,V x.ai,V x.To,V x.aE]:=h
abbrev cz (x:an):List Value:=[V x.Kind,V x.ai,V x.To,V x.aE]
instance:FC an:=⟨cz,fun q=>q⟩
structure a4 where
 iA:Bool
 aE:Int
 ai:Int
 To:Int
 deriving DecidableEq,Inhabited
instance:Cell a4 where
 size:=4
 rc Z cs x:=cs=[.bool x.iA,V x.aE,V x.ai,V x.To]
 len h:=by rw [h];rfl
 mono _ h:=h
 one h:=by rw [h];rfl
 pos:=by decide
theorem s6 {Z:Zn} {cs:List Value} {x:a4} (h:rc Z cs x):cs=[.bool x.iA,V x.aE,V x.ai,V x.To]:=h
abbrev eK (x:a4):List Value:=[.bool x.iA,V x.aE,V x.ai,V x.To]
instance:FC a4:=⟨eK,fun q=>q⟩
def wx:List bt:=[uP 33 (mv 0),uP 34 (mv 5),uP 35 (ia 24 33 34),uP 36 (fa 85 35 1),uL 37 (ld 3 36),uP 38 (mv 0),uP 39 (fa 63 6 1),uL 40 (ld 3 39),uP 41 (ia 24 38 40),uP 42 (fa 85 41 1),uL 43 (ld 3 42),uP 44 (bo .sub 3 37 43 3),uP 45 (fa 63 6 3),oF (.store 3 (t 45) (t 44)) .make [4,7,10],uP 46 (fa 63 6 0),oF (.store 3 (t 46) (ci 5)) .make [4,7,10]]
def w9:List aN:=[u 94 (mv 3),u 95 (ld 63 6),u 96 (.buildSlice 52 1 #[(0,(t 95))]),u 97 (cb .append #[(t 94),(t 96)] #[52,52]),u 3 (sg 97)]
def correctorref9_Rows_l1 (F:Nat) (a0:List al):Nat→(List an)→Int→Int→an→Bool→Option ((List an)×Int×Int×an×Bool)
 | 0,_,_,_,_,_=>none
 | n+1,U,aa,I,j,ab=>
  if I<(a0.length:Int) then
   if 0≤I∧I<(a0.length:Int) then
    (a0[I.toNat]?).bind fun J=>
    ((if j.aE<(0:Int) then
      (fA F J.Kind).bind fun ay=>
      if ay=true then
       if 0≤I∧I<(a0.length:Int) then
        (a0[I.toNat]?).bind fun aj=>
        if 0≤j.ai∧j.ai<(a0.length:Int) then
         (a0[j.ai.toNat]?).bind fun ak=>
         if J.Kind=(20:Int) then
          some (U,(⟨4,j.ai,j.To,af (aj.ai - ak.ai)⟩:an))
         else
          if J.Kind=(21:Int) then
           some (U,(⟨4,j.ai,j.To,af (aj.ai - ak.ai)⟩:an))
          else
           some (U,(⟨5,j.ai,j.To,af (aj.ai - ak.ai)⟩:an))
        else none
       else none
      else
       some (U,j)
     else
      some (U,j)):Option ((List an)×an)).bind fun o=>match o with
     | (ao,aq)=>((((if J.Kind=(8:Int) then
        some (ao,aq,true)
       else
        if J.Kind=(9:Int) then
         some (ao,aq,true)
        else
         some (ao,aq,false)):Option ((List an)×an×Bool)).bind fun o=>match o with
       | (ad,ae,az)=>if az=true then
        some (ad,af (aa+1),ae)
       else
        ((if J.Kind=(10:Int) then
          some (ad,ae,true)
         else
          if J.Kind=(11:Int) then
           some (ad,ae,true)
          else
           some (ad,ae,false)):Option ((List an)×an×Bool)).bind fun o=>match o with
         | (ag,ah,aA)=>if aA=true then
          some (ag,imax (af (aa - 1)) 0,ah)
         else
          ((if J.Kind=(20:Int) then
            some (ag,ah,true)
           else
            if J.Kind=(21:Int) then
             some (ag,ah,true)
            else
             some (ag,ah,false)):Option ((List an)×an×Bool)).bind fun o=>match o with
           | (aw,ax,aB)=>if aB=true then
            some (aw,0,ax)
           else
            some (aw,aa,ax)):Option ((List an)×Int×an)).bind fun o=>match o with
      | (ar,au,av)=>if J.Kind=(1:Int) then
       some (ar,au,af (I+1),av,ab)
      else
       if J.Kind=(19:Int) then
        some (ar,au,af (I+1),av,ab)
       else
        correctorref9_Rows_l1 F a0 n ar au (af (I+1)) av ab
   else none
  else
   some (U,aa,I,j,ab)
def correctorref9_Rows_l0 (F:Nat) (a0:List al):Nat→(List an)→Int→Int→Option (List an)
 | 0,_,_,_=>none
 | n+1,aa,ab,J=>
  if J<(a0.length:Int) then
   ((if (0:Int)<ab then
     some (aa,(⟨1,J,0,(-1)⟩:an),true)
    else
     some (aa,(⟨1,J,0,(-1)⟩:an),false)):Option ((List an)×an×Bool)).bind fun o=>match o with
    | (af,ag,ah)=>((correctorref9_Rows_l1 F a0 F af ab J ag ah):Option ((List an)×Int×Int×an×Bool)).bind fun o=>match o with
     | (U,aj,I,j,ak)=>((if 0≤j.ai∧j.ai<(a0.length:Int) then
       (a0[j.ai.toNat]?).bind fun ao=>
       if ao.Kind=(19:Int) then
        some (U,(⟨2,j.ai,I,j.aE⟩:an))
       else
        if ak=true then
         if j.Kind=(4:Int) then
          some (U,(⟨j.Kind,j.ai,I,j.aE⟩:an))
         else
          some (U,(⟨3,j.ai,I,j.aE⟩:an))
        else
         some (U,(⟨j.Kind,j.ai,I,j.aE⟩:an))
      else none):Option ((List an)×an)).bind fun o=>match o with
      | (ad,ae)=>if ad.length+[ae].length≤4398046511104 then
       correctorref9_Rows_l0 F a0 n (ad++[ae]) aj I
      else none
  else
   some aa
def l8 (F:Nat) (a0:List al):Option (List an):=
 ((correctorref9_Rows_l0 F a0 F [] 0 0):Option (List an)).bind fun o=>match o with
  | j=>some j
theorem DT (F:Nat) {h:AH} {Z:Zn} {a0:List al} {v2} (hP:Pre Z h []) (aK:RS (α:=al) Z v2 a0) {r:(List an)} (hm:l8 F a0=some r):
  bQ Try.prog 20 [v2] h Z [] fun v Z' A'=>∃ v4 cR,v4=v∧A'=[.gs v4 cR (aa an)]∧RCs (α:=an) Z' cR r:=by
 refine b6 Try.func20 hP ?_
 intro hs hS
 unfold l8 at hm
 replace hS:St hs [] Z (0,0) Z hs []:=hS
 refine sp 1<|sp 1<|sp 1<|sq<|sp 1 ?_
 obtain ⟨cf,ao,hm⟩:=ah hm
 refine aI [3] (fun l h=>∃ cg ch bK bW,ch=cf∧RCs (α:=an) cg bW ch∧l=[(3,bK)]∧St hs [] Z (0,0) cg h [.gs bK bW (aa an)]) ?_ ?_
 rintro l dX ⟨cg,ch,bK,bW,rfl,df,rfl,dg⟩
 try dsimp only at hm
 refine sp 2<|rt<|⟨rfl,?_⟩
 obtain rfl:=si hm
 refine ⟨_,_,_,tk bK (ResL.nil),dg,?_⟩
 exact ⟨bK,bW,rfl,rfl,df⟩
 refine bk 0 ?_
 have di:=hS.dh (aa an)
 refine lp [0,3,4,5] (fun n l h=>∃ cj bj bL aL bl bn,correctorref9_Rows_l0 F a0 n bj bL aL=some cf∧RCs (α:=an) cj bn bj∧l=[(0,v2),(3,bl),(4,V bL),(5,V aL)]∧St hs [] Z (0,0) cj h [.gs bl bn (aa an)]) F ⟨_,[],0,0,(.slice none 0 0),[],ao,(RCs.bu _),(by kernel_rfl),di⟩ ?_
 rintro ck l dY ⟨cj,bj,bL,aL,bl,bn,ao,cl,rfl,cm⟩
 rcases ck with _ | ck
 cases (show none=some cf from ao)
 rw [correctorref9_Rows_l0] at ao
 refine sq<|s0<|bD 2 v2 (RS.len (aK.mono cm.ag))<|aP 0 ao ?_ ?_<;>intro dZ ao
 refine xn 0<|dT<|sk<|bk 1<|s0<|dK 2 [V 0,V 0,V 0,V 0] cm ?_
 intro cT ea dj
 refine bG 0 0 (.agg #[V 1,V aL,V 0,V (-1)]) [V 1,V aL,V 0,V (-1)] [V 1,V aL,V 0,V (-1)] dj rfl rfl rfl ?_
 intro eb cX
 refine xn 0<|sq ?_
 obtain ⟨dk,bX,ao⟩:=ah ao
 refine aI [0,3,4,5,6,7] (fun l h=>∃ cn bY bZ b0 b1 b2 b3,(bY,bZ,b0)=dk∧RCs (α:=an) cn b2 bY∧l=[(0,v2),(3,b1),(4,V bL),(5,V aL),(6,Pt b3 0),(7, .bool b0)]∧St hs [] Z (0,0) cn h [.gs b1 b2 (aa an), .ae b3 (cz bZ)]) ?_ ?_
 rintro l ec ⟨cn,bY,bZ,b0,b1,b2,b3,rfl,dm,rfl,dn⟩
 try dsimp only at ao
 refine sq ?_
 obtain ⟨cp,U,ao⟩:=ah ao
 refine aI [0,3,4,5,6,7] (fun l h=>∃ cq aR bo ay ad cr aU aV aW,(aR,bo,ay,ad,cr)=cp∧RCs (α:=an) cq aV aR∧l=[(0,v2),(3,aU),(4,V bo),(5,V ay),(6,Pt aW 0),(7, .bool cr)]∧St hs [] Z (0,0) cq h [.gs aU aV (aa an), .ae aW (cz ad)]) ?_ ?_
 rintro l ed ⟨cq,aR,bo,ay,ad,cr,aU,aV,aW,rfl,b4,rfl,cu⟩
 try dsimp only at ao
 refine s0<|bG 2 1 (V ay) [V ay] [V ad.Kind,V ad.ai,V ay,V ad.aE] cu rfl rfl rfl ?_
 intro ee aZ
 refine xn 0<|sq ?_
 obtain ⟨dp,az,ao⟩:=ah ao
 refine eo [0,3,4,5,6] (fun l h=>∃ b5 b7 aj bN cv b8,(b7,aj)=dp∧RCs (α:=an) b5 cv b7∧l=[(0,v2),(3,bN),(4,V bo),(5,V ay),(6,Pt b8 0)]∧St hs [] Z (0,0) b5 h [.gs bN cv (aa an), .ae b8 (cz aj)]) (by kernel_rfl) ?_ ?_
 rintro l eg ⟨b5,b7,aj,bN,cv,b8,rfl,dq,rfl,c0⟩
 try dsimp only at ao
 refine rg w9<|xq 1 [(94,bN),(0,v2),(3,bN),(4,V bo),(5,V ay),(6,Pt b8 0)]<|aB 0 1 (.agg #[V aj.Kind,V aj.ai,V aj.To,V aj.aE]) c0 rfl ?_
 have dr:RCs (α:=an) b5 [V aj.Kind,V aj.ai,V aj.To,V aj.aE] [aj]:=RCs.cons (cs:=[V aj.Kind,V aj.ai,V aj.To,V aj.aE]) rfl (RCs.bu _)
 refine dP rfl trivial (c3 (cells:=[V aj.Kind,V aj.ai,V aj.To,V aj.aE]) (s:=4) (by kernel_rfl)) (by kernel_rfl) c0 ?_
 intro eh ei c4
 obtain ⟨ej,ao⟩:=aJ ao
 refine eY rfl trivial (dM (ys:=[aj]) (bP:=32) c4 (i:=1) rfl dq ((c4).eI (j:=0) rfl dr) rfl rfl (by kernel_rfl) (by omega) (by omega)) ?_
 rintro ds dt ek ⟨dv,dw⟩
 refine xn 1 ?_
 exact ⟨ck,Nat.lt_succ_self _,⟨_,b7++[aj],bo,ay,ds,dt,ao,dv,(by kernel_rfl),((dw.front 1 rfl).takeN 1)⟩⟩
 refine g0<|aB 2 1 (V ad.ai) aZ rfl<|a2 0 az (aK.mono cu.ag) ?_
 intro en az
 refine bm 1 0 (fun c6=>V c6.Kind) az (aK.mono cu.ag) aZ ?_
 intro c6 ep az
 refine aG 0 az ?_ ?_<;>intro er az
 refine xn 0<|dT<|g0<|bG 1 1 (V 2) [V 2] [V 2,V ad.ai,V ay,V ad.aE] aZ rfl rfl rfl ?_
 intro et dx
 refine xn 0 ?_
 obtain rfl:=si az
 exact ⟨_,aR,(⟨2,ad.ai,ay,ad.aE⟩:an),aU,aV,aW,rfl,b4,(by kernel_rfl),dx⟩
 refine xn 0<|dF<|s0<|kb 2 88 az ?_ ?_<;>intro eu az
 refine aB 1 1 (V ad.Kind) aZ rfl<|cS 0 az ?_ ?_<;>intro ew az
 refine xn 1<|dF<|sk ?_
 obtain rfl:=si az
 exact ⟨_,aR,(⟨ad.Kind,ad.ai,ay,ad.aE⟩:an),aU,aV,aW,rfl,b4,(by kernel_rfl),aZ⟩
 refine xn 1<|dT<|g0<|bG 1 1 (V 3) [V 3] [V 3,V ad.ai,V ay,V ad.aE] aZ rfl rfl rfl ?_
 intro ey dy
 refine xn 0 ?_
 obtain rfl:=si az
 exact ⟨_,aR,(⟨3,ad.ai,ay,ad.aE⟩:an),aU,aV,aW,rfl,b4,(by kernel_rfl),dy⟩
 refine xn 4<|dF<|sk ?_
 obtain rfl:=si az
 exact ⟨_,aR,(⟨ad.Kind,ad.ai,ay,ad.aE⟩:an),aU,aV,aW,rfl,b4,(by kernel_rfl),aZ⟩
 refine bk 2<|lp [0,3,4,5,6,7] (fun n l h=>∃ cw aQ au ak I aq av aH J,correctorref9_Rows_l1 F a0 n aQ au ak I aq=some cp∧RCs (α:=an) cw aH aQ∧l=[(0,v2),(3,av),(4,V au),(5,V ak),(6,Pt J 0),(7, .bool aq)]∧St hs [] Z (0,0) cw h [.gs av aH (aa an), .ae J (cz I)]) F ⟨_,bY,bL,aL,bZ,b0,b1,b2,b3,U,dm,(by kernel_rfl),dn⟩ ?_
 rintro cx l ez ⟨cw,aQ,au,ak,I,aq,av,aH,J,U,bp,rfl,aF⟩
 rcases cx with _ | cx
 cases (show none=some cp from U)
 rw [correctorref9_Rows_l1] at U
 refine sq<|s0<|bD 2 v2 (RS.len (aK.mono aF.ag))<|aP 0 U ?_ ?_<;>intro eA U
 refine xn 0<|dT<|sk<|bk 3<|s0<|a2 2 U (aK.mono aF.ag) ?_
 intro eB U
 refine bm 1 0 (fun aw=>V aw.Kind) U (aK.mono aF.ag) aF ?_
 intro aw eC U
 refine xn 1<|sq ?_
 obtain ⟨dz,ab,U⟩:=ah U
 refine aI [0,3,4,5,6,7,8] (fun l h=>∃ cA bq br bw bx bz,(bq,br)=dz∧RCs (α:=an) cA bx bq∧l=[(0,v2),(3,bw),(4,V au),(5,V ak),(6,Pt bz 0),(7, .bool aq),(8,V aw.Kind)]∧St hs [] Z (0,0) cA h [.gs bw bx (aa an), .ae bz (cz br)]) ?_ ?_
 rintro l eD ⟨cA,bq,br,bw,bx,bz,rfl,cB,rfl,cC⟩
 try dsimp only at U
 refine sq ?_
 obtain ⟨dA,ar,U⟩:=ah U
 refine aI [0,3,4,5,6,7,8] (fun l h=>∃ cD bB bC bE bF bI bJ,(bB,bC,bE)=dA∧RCs (α:=an) cD bI bB∧l=[(0,v2),(3,bF),(4,V bC),(5,V ak),(6,Pt bJ 0),(7, .bool aq),(8,V aw.Kind)]∧St hs [] Z (0,0) cD h [.gs bF bI (aa an), .ae bJ (cz bE)]) ?_ ?_
 rintro l eE ⟨cD,bB,bC,bE,bF,bI,bJ,rfl,cE,rfl,cG⟩
 try dsimp only at U
 refine sp 3<|s0<|aG 1 U ?_ ?_<;>intro eF U
 refine xn 4<|dT<|xt 2<|hU rfl<|aO ?_
 obtain rfl:=si U
 exact ⟨_,bB,bC,af (ak+1),bE,aq,bF,bI,bJ,rfl,cE,(by kernel_rfl),cG⟩
 refine aG 2 U ?_ ?_<;>intro eG U
 refine xn 1<|dT<|xt 2<|hU rfl<|aO ?_
 obtain rfl:=si U
 exact ⟨_,bB,bC,af (ak+1),bE,aq,bF,bI,bJ,rfl,cE,(by kernel_rfl),cG⟩
 refine xn 1<|dF<|sk ?_
 exact ⟨cx,Nat.lt_succ_self _,⟨_,bB,bC,af (ak+1),bE,aq,bF,bI,bJ,U,cE,(by kernel_rfl),cG⟩⟩
 refine sp 1<|bk 4<|sq ?_
 obtain ⟨dB,a1,ar⟩:=ah ar
 refine aI [0,3,4,5,6,7,8,54,55] (fun l h=>∃ cI a3 a4 cJ a6 a7 a8,(a3,a4,cJ)=dB∧RCs (α:=an) cI a7 a3∧l=[(0,v2),(3,a6),(4,V au),(5,V ak),(6,Pt a8 0),(7, .bool aq),(8,V aw.Kind),(54,V aw.Kind),(55, .bool cJ)]∧St hs [] Z (0,0) cI h [.gs a6 a7 (aa an), .ae a8 (cz a4)]) ?_ ?_
 rintro l eH ⟨cI,a3,a4,cJ,a6,a7,a8,rfl,b9,rfl,ca⟩
 try dsimp only at ar
 refine db ar ?_ ?_<;>intro eJ ar
 refine gp 3 ?_
 obtain rfl:=si ar
 exact ⟨_,a3,af (au+1),a4,a6,a7,a8,rfl,b9,(by kernel_rfl),ca⟩
 refine sq ?_
 obtain ⟨dC,a9,ar⟩:=ah ar
 refine aI [0,3,4,5,6,7,8,54,60] (fun l h=>∃ cK bb bc cL bd bf bg,(bb,bc,cL)=dC∧RCs (α:=an) cK bf bb∧l=[(0,v2),(3,bd),(4,V au),(5,V ak),(6,Pt bg 0),(7, .bool aq),(8,V aw.Kind),(54,V aw.Kind),(60, .bool cL)]∧St hs [] Z (0,0) cK h [.gs bd bf (aa an), .ae bg (cz bc)]) ?_ ?_
 rintro l eK ⟨cK,bb,bc,cL,bd,bf,bg,rfl,cb,rfl,cc⟩
 try dsimp only at ar
 refine db ar ?_ ?_<;>intro eL ar
 refine gp 4 ?_
 obtain rfl:=si ar
 exact ⟨_,bb,imax (af (au - 1)) 0,bc,bd,bf,bg,rfl,cb,(by kernel_rfl),cc⟩
 refine sq ?_
 obtain ⟨dD,bh,ar⟩:=ah ar
 refine aI [0,3,4,5,6,7,8,66] (fun l h=>∃ cM bO bS cN bT bU bV,(bO,bS,cN)=dD∧RCs (α:=an) cM bU bO∧l=[(0,v2),(3,bT),(4,V au),(5,V ak),(6,Pt bV 0),(7, .bool aq),(8,V aw.Kind),(66, .bool cN)]∧St hs [] Z (0,0) cM h [.gs bT bU (aa an), .ae bV (cz bS)]) ?_ ?_
 rintro l eM ⟨cM,bO,bS,cN,bT,bU,bV,rfl,c7,rfl,c8⟩
 try dsimp only at ar
 refine db ar ?_ ?_<;>intro eN ar
 refine gp 1 ?_
 obtain rfl:=si ar
 exact ⟨_,bO,0,bS,bT,bU,bV,rfl,c7,(by kernel_rfl),c8⟩
 refine sk ?_
 obtain rfl:=si ar
 exact ⟨_,bO,au,bS,bT,bU,bV,rfl,c7,(by kernel_rfl),c8⟩
 refine s0<|aG 0 bh ?_ ?_<;>intro eO bh
 refine xn 1<|dT<|sk ?_
 obtain rfl:=si bh
 exact ⟨_,bb,bc,true,bd,bf,bg,rfl,cb,(by kernel_rfl),cc⟩
 refine xn 1<|dF<|g0<|aG 0 bh ?_ ?_<;>intro eP bh
 refine xn 1 ?_
 obtain rfl:=si bh
 exact ⟨_,bb,bc,true,bd,bf,bg,rfl,cb,(by kernel_rfl),cc⟩
 refine xn 1 ?_
 obtain rfl:=si bh
 exact ⟨_,bb,bc,false,bd,bf,bg,rfl,cb,(by kernel_rfl),cc⟩
 refine s0<|aG 0 a9 ?_ ?_<;>intro eQ a9
 refine xn 1<|dT<|sk ?_
 obtain rfl:=si a9
 exact ⟨_,a3,a4,true,a6,a7,a8,rfl,b9,(by kernel_rfl),ca⟩
 refine xn 1<|dF<|g0<|aG 0 a9 ?_ ?_<;>intro eR a9
 refine xn 1 ?_
 obtain rfl:=si a9
 exact ⟨_,a3,a4,true,a6,a7,a8,rfl,b9,(by kernel_rfl),ca⟩
 refine xn 1 ?_
 obtain rfl:=si a9
 exact ⟨_,a3,a4,false,a6,a7,a8,rfl,b9,(by kernel_rfl),ca⟩
 refine s0<|aG 0 a1 ?_ ?_<;>intro eS a1
 refine xn 1<|dT<|sk ?_
 obtain rfl:=si a1
 exact ⟨_,bq,br,true,bw,bx,bz,rfl,cB,(by kernel_rfl),cC⟩
 refine xn 1<|dF<|g0<|aG 0 a1 ?_ ?_<;>intro eT a1
 refine xn 1 ?_
 obtain rfl:=si a1
 exact ⟨_,bq,br,true,bw,bx,bz,rfl,cB,(by kernel_rfl),cC⟩
 refine xn 1 ?_
 obtain rfl:=si a1
 exact ⟨_,bq,br,false,bw,bx,bz,rfl,cB,(by kernel_rfl),cC⟩
 refine s0<|aB 1 1 (V I.aE) aF rfl<|aP 0 ab ?_ ?_<;>intro eU ab
 obtain ⟨eV,dG,ab⟩:=ah ab
 refine cP 2 aF (ja F aF.inv dG) ?_
 rintro _ eW c9 rfl
 refine xn 1<|db ab ?_ ?_<;>intro eX ab
 refine cU wx c9 ?_
 intro dH e0 dI cd
 refine yq 2 [(34,V ak),(33,v2),(8,V aw.Kind),(0,v2),(3,av),(4,V au),(5,V ak),(6,Pt J 0),(7, .bool aq)] ?_
 obtain ⟨da,ab⟩:=aJ ab
 refine aD rfl trivial (bA rfl rfl (by kernel_rfl:slTy _ _=some (aa al)) (RS.cQ (aK.mono aF.ag) (by omega)) da.1 da.2)<|yq 1 [(36, .pointer (some (ba v2 ak (aa al) 1))),(8,V aw.Kind),(0,v2),(3,av),(4,V au),(5,V ak),(6,Pt J 0),(7, .bool aq)] ?_
 obtain ⟨ax,dJ,ab⟩:=ah ab
 obtain ⟨e2,dL,dN⟩:=RS.bR (aK.mono aF.ag) (i:=ak) dJ
 obtain rfl:=eZ dL
 refine ct rfl rfl trivial (fun h2 hz=>bH (w:=V ax.ai) (dN h2 hz) rfl (by kernel_rfl)) (cd.bM (aM.refl _)) (aC (v:=V ax.ai) trivial) trivial<|yq 2 [(39,Pt J 1),(38,v2),(37,V ax.ai),(8,V aw.Kind),(0,v2),(3,av),(4,V au),(5,V ak),(6,Pt J 0),(7, .bool aq)] ?_
 have e3:J<dH:=dI.1 _ (List.mem_of_getElem? (i:=1) rfl) _ (by simp [Itm.ids])
 refine aX (v:=V I.ai) rfl trivial rfl (by show J<_;omega) (aC (v:=V I.ai) trivial) (cd.aS (i:=1) rfl (by kernel_rfl)) trivial ?_
 obtain ⟨dc,ab⟩:=aJ ab
 refine aD rfl trivial (bA rfl rfl (by kernel_rfl:slTy _ _=some (aa al)) (RS.cQ (aK.mono aF.ag) (by omega)) dc.1 dc.2)<|yq 1 [(42, .pointer (some (ba v2 I.ai (aa al) 1))),(37,V ax.ai),(8,V aw.Kind),(0,v2),(3,av),(4,V au),(5,V ak),(6,Pt J 0),(7, .bool aq)] ?_
 obtain ⟨aA,dO,ab⟩:=ah ab
 obtain ⟨e4,dQ,dR⟩:=RS.bR (aK.mono aF.ag) (i:=I.ai) dO
 obtain rfl:=eZ dQ
 refine ct rfl rfl trivial (fun h2 hz=>bH (w:=V aA.ai) (dR h2 hz) rfl (by kernel_rfl)) (cd.bM (aM.refl _)) (aC (v:=V aA.ai) trivial) trivial<|yq 2 [(45,Pt J 3),(44,V (af (ax.ai - aA.ai))),(8,V aw.Kind),(0,v2),(3,av),(4,V au),(5,V ak),(6,Pt J 0),(7, .bool aq)] ?_
 have dd:St _ _ _ _ _ _ ([.ae J (cz I)]++[.gs av aH (aa an)]):=(cd.front 1 rfl)
 refine g3 rfl trivial dd (gK (vs:=[V (af (ax.ai - aA.ai))]) (cF:=[V I.Kind,V I.ai,V I.To,V (af (ax.ai - aA.ai))]) (L':=[.ae J [V I.Kind,V I.ai,V I.To,V (af (ax.ai - aA.ai))]]) dd.sub (i:=0) rfl rfl rfl rfl (by kernel_rfl) rfl rfl rfl rfl) (aM.refl _) (.a5 trivial (.drop (by decide) (.a5 trivial .nil))) ?_
 intro e5 dS
 refine yq 1 [(46,Pt J 0),(8,V aw.Kind),(0,v2),(3,av),(4,V au),(5,V ak),(6,Pt J 0),(7, .bool aq)] ?_
 have de:St _ _ _ _ _ _ ([.ae J [V I.Kind,V I.ai,V I.To,V (af (ax.ai - aA.ai))]]++[.gs av aH (aa an)]):=(dS.front 0 rfl)
 refine g3 rfl trivial de (gK (vs:=[V 5]) (cF:=[V 5,V I.ai,V I.To,V (af (ax.ai - aA.ai))]) (L':=[.ae J [V 5,V I.ai,V I.To,V (af (ax.ai - aA.ai))]]) de.sub (i:=0) rfl rfl rfl rfl (by kernel_rfl) rfl rfl rfl rfl) (aM.refl _) (.a5 trivial (.drop (by decide) (.a5 trivial .nil))) ?_
 intro e6 dU
 refine yf [(8,V aw.Kind),(0,v2),(3,av),(4,V au),(5,V ak),(6,Pt J 0),(7, .bool aq)] ?_
 have cO:=dU.aY
 refine s0<|aG 1 ab ?_ ?_<;>intro e7 ab
 refine xn 4<|dT<|g0<|bG 1 0 (V 4) [V 4] [V 4,V I.ai,V I.To,V (af (ax.ai - aA.ai))] cO rfl rfl rfl ?_
 intro e8 dV
 refine xn 0 ?_
 obtain rfl:=si ab
 exact ⟨_,aQ,(⟨4,I.ai,I.To,af (ax.ai - aA.ai)⟩:an),av,aH,J,rfl,bp,(by kernel_rfl),((dV.front 0 rfl).front 1 rfl)⟩
 refine aG 2 ab ?_ ?_<;>intro e9 ab
 refine xn 1<|dT<|g0<|bG 1 0 (V 4) [V 4] [V 4,V I.ai,V I.To,V (af (ax.ai - aA.ai))] cO rfl rfl rfl ?_
 intro fa dW
 refine xn 0 ?_
 obtain rfl:=si ab
 exact ⟨_,aQ,(⟨4,I.ai,I.To,af (ax.ai - aA.ai)⟩:an),av,aH,J,rfl,bp,(by kernel_rfl),((dW.front 0 rfl).front 1 rfl)⟩
 refine xn 1<|dF<|sk ?_
 obtain rfl:=si ab
 exact ⟨_,aQ,(⟨5,I.ai,I.To,af (ax.ai - aA.ai)⟩:an),av,aH,J,rfl,bp,(by kernel_rfl),((cO.front 0 rfl).front 1 rfl)⟩
 refine sk ?_
 obtain rfl:=si ab
 exact ⟨_,aQ,I,av,aH,J,rfl,bp,(by kernel_rfl),c9⟩
 refine xn 4<|dF<|sk ?_
 obtain rfl:=si ab
 exact ⟨_,aQ,I,av,aH,J,rfl,bp,(by kernel_rfl),aF⟩
 refine xn 0<|dF<|xt 2<|aO ?_
 obtain rfl:=si U
 exact ⟨_,aQ,au,ak,I,aq,av,aH,J,rfl,bp,(by kernel_rfl),aF⟩
 refine g0<|cH 1 bX ?_ ?_<;>intro fb bX
 refine xn 1 ?_
 obtain rfl:=si bX
 exact ⟨_,bj,(⟨1,aL,0,(-1)⟩:an),true,bl,bn,cT,rfl,cl,(by kernel_rfl),((cX.front 0 rfl).front 1 rfl)⟩
 refine xn 1 ?_
 obtain rfl:=si bX
 exact ⟨_,bj,(⟨1,aL,0,(-1)⟩:an),false,bl,bn,cT,rfl,cl,(by kernel_rfl),((cX.front 0 rfl).front 1 rfl)⟩
 refine xn 0<|dF<|xt 0<|aO ?_
 obtain rfl:=si ao
 exact ⟨_,bj,bl,bn,rfl,cl,(by kernel_rfl),cm⟩
def correctorref9_skip_l0 (F:Nat) (a0:List al) (a1:Int) (I:Int) (J:Int):Nat→Int→Option Int
 | 0,_=>none
 | n+1,j=>
  if j<I then
   if 0≤j∧j<(a0.length:Int) then
    (a0[j.toNat]?).bind fun U=>
    if U.Kind=J then
     correctorref9_skip_l0 F a0 a1 I J n (af (j+1))
    else
     some j
   else none
  else
   some j
def js (F:Nat) (a0:List al) (a1:Int) (j:Int) (I:Int):Option Int:=
 ((correctorref9_skip_l0 F a0 a1 j I F a1):Option Int).bind fun o=>match o with
  | J=>some J
theorem qb (F:Nat) {h:AH} {Z:Zn} {a0:List al} {a1:Int} {U:Int} {aa:Int} {v2} (hI:Inv Z h) (ai:RS (α:=al) Z v2 a0) {r:Int} (hm:js F a0 a1 U aa=some r):
  b3 Try.prog 84 [v2,V a1,V U,V aa] h Z (V r):=by
 refine b4 Try.func84 hI ?_
 intro hs hS
 unfold js at hm
 refine sp 1<|sq ?_
 obtain ⟨ad,j,hm⟩:=ah hm
 refine aI [1] (fun l h=>∃ aj ab,ab=ad∧l=[(1,V ab)]∧St hs [] Z (0,0) aj h []) ?_ ?_
 rintro l aq ⟨aj,ab,rfl,rfl,ao⟩
 try dsimp only at hm
 refine sp 2<|rt<|⟨rfl,?_⟩
 obtain rfl:=si hm
 refine ⟨_,_,_,tk (V ab) (ResL.nil),ao,?_⟩
 exact rfl
 refine bk 0<|lp [0,1,2,3] (fun n l h=>∃ ak I,correctorref9_skip_l0 F a0 a1 U aa n I=some ad∧l=[(0,v2),(1,V I),(2,V U),(3,V aa)]∧St hs [] Z (0,0) ak h []) F ⟨_,a1,j,(by kernel_rfl),hS⟩ ?_
 rintro ae l ar ⟨ak,I,j,rfl,J⟩
 rcases ae with _ | ae
 cases (show none=some ad from j)
 rw [correctorref9_skip_l0] at j
 refine sq<|s0<|aP 2 j ?_ ?_<;>intro au j
 refine a2 3 j (ai.mono J.ag) ?_
 intro av j
 refine bm 1 0 (fun an=>V an.Kind) j (ai.mono J.ag) J ?_
 intro an aw j
 refine aG 1 j ?_ ?_<;>intro ax j
 refine xn 1<|dT<|sk<|bk 1<|gp 3 ?_
 exact ⟨ae,Nat.lt_succ_self _,⟨_,af (I+1),j,(by kernel_rfl),J⟩⟩
 refine xn 1<|dF<|xt 0<|aO ?_
 obtain rfl:=si j
 exact ⟨_,I,rfl,(by kernel_rfl),J⟩
 refine xn 9<|dF<|xt 0<|aO ?_
 obtain rfl:=si j
 exact ⟨_,I,rfl,(by kernel_rfl),J⟩
def fb (F:Nat) (a0:Int):Option Bool:=
 if a0=(15:Int) then
  some true
 else
  if a0=(16:Int) then
   some true
  else
   if a0=(17:Int) then
    some true
   else
    if a0=(13:Int) then
     some true
    else
     some false
theorem oV (F:Nat) {h:AH} {Z:Zn} {a0:Int} (hI:Inv Z h) {r:Bool} (hm:fb F a0=some r):
  b3 Try.prog 85 [V a0] h Z (.bool r):=by
 refine b4 Try.func85 hI ?_
 intro hs hS
 unfold fb at hm
 refine sp 1<|s0<|aG 1 hm ?_ ?_<;>intro j hm
 refine xn 13<|rt<|⟨rfl,?_⟩
 obtain rfl:=si hm
 refine ⟨_,_,_,tk (.bool true) (ResL.nil),hS,?_⟩
 exact rfl
 refine aG 2 hm ?_ ?_<;>intro I hm
 refine xn 10<|rt<|⟨rfl,?_⟩
 obtain rfl:=si hm
 refine ⟨_,_,_,tk (.bool true) (ResL.nil),hS,?_⟩
 exact rfl
 refine aG 3 hm ?_ ?_<;>intro J hm
 refine xn 6<|rt<|⟨rfl,?_⟩
 obtain rfl:=si hm
 refine ⟨_,_,_,tk (.bool true) (ResL.nil),hS,?_⟩
 exact rfl
 refine aG 3 hm ?_ ?_<;>intro U hm
 refine xn 2<|rt<|⟨rfl,?_⟩
 obtain rfl:=si hm
 refine ⟨_,_,_,tk (.bool true) (ResL.nil),hS,?_⟩
 exact rfl
 refine xn 2<|rt<|⟨rfl,?_⟩
 obtain rfl:=si hm
 refine ⟨_,_,_,tk (.bool false) (ResL.nil),hS,?_⟩
 exact rfl
def EU:List bt:=[uP 14 (fa 63 3 1),uL 15 (ld 3 14),uP 4 (.assign (.const (.slice none 0 0))),uP 5 (sg 15)]
def xm:List aN:=[u 52 (mv 9),u 53 (mv 0),u 54 (mv 6),u 55 (ia 24 53 54),u 56 (fa 85 55 1),u 57 (ld 3 56),u 58 (mv 8),u 59 (bo .sub 3 57 58 3),u 60 (mv 6),u 61 (mv 6),u 62 (bc .add 3 61 1 3),u 63 (.build 112 #[(0,(.const (.bool true))),(1,(t 59)),(2,(t 60)),(3,(t 62))]),u 64 (.buildSlice 106 1 #[(0,(t 63))]),u 65 (cb .append #[(t 52),(t 64)] #[106,106]),u 9 (sg 65)]
def Bf:List aN:=[u 129 (mv 9),u 130 (mv 0),u 131 (mv 6),u 132 (ia 24 130 131),u 133 (fa 85 132 1),u 134 (ld 3 133),u 135 (mv 8),u 136 (bo .sub 3 134 135 3),u 137 (mv 6),u 138 (mv 10),u 139 (bc .add 3 138 1 3),u 140 (.build 112 #[(1,(t 136)),(2,(t 137)),(3,(t 139))]),u 141 (.buildSlice 106 1 #[(0,(t 140))]),u 142 (cb .append #[(t 129),(t 141)] #[106,106]),u 9 (sg 142)]
def DB:List bt:=[uP 147 (mv 9),uP 148 (mv 9),uP 149 (mv 9),uP 150 (cb .len #[(t 149)] #[106]),uP 151 (bc .sub 3 150 1 3),uP 152 (ia 106 148 151),uP 153 (fa 112 152 3),uL 154 (ld 3 153),uP 4 (sg 147),uP 5 (sg 154)]
def correctorref9_Entries_l0 (F:Nat) (a0:List al) (a1:an):Nat→an→Int→Option (an×Int)
 | 0,_,_=>none
 | n+1,I,j=>
  if j<I.To then
   if 0≤j∧j<(a0.length:Int) then
    (a0[j.toNat]?).bind fun J=>
    (fA F J.Kind).bind fun U=>
    if U=true then
     some (I,j)
    else
     correctorref9_Entries_l0 F a0 a1 n I (af (j+1))
   else none
  else
   some (I,j)
def correctorref9_Entries_l1 (F:Nat) (a0:List al) (a1:an):Nat→an→Int→Int→Int→(List a4)→Option (an×Int×Int×Int×(List a4))
 | 0,_,_,_,_,_=>none
 | n+1,I,j,aa,J,U=>
  if j<I.To then
   if 0≤j∧j<(a0.length:Int) then
    (a0[j.toNat]?).bind fun ad=>
    if ad.Kind=(5:Int) then
     if 0≤j∧j<(a0.length:Int) then
      (a0[j.toNat]?).bind fun ab=>
      if U.length+[(⟨true,af (ab.ai - J),j,af (j+1)⟩:a4)].length≤4398046511104 then
       (js F a0 (af (j+1)) I.To 3).bind fun ae=>
       correctorref9_Entries_l1 F a0 a1 n I ae aa J (U++[(⟨true,af (ab.ai - J),j,af (j+1)⟩:a4)])
      else none
     else none
    else
     some (I,j,aa,J,U)
   else none
  else
   some (I,j,aa,J,U)
def correctorref9_Entries_l2 (F:Nat) (a0:List al) (a1:an):Nat→an→Int→Int→Int→(List a4)→Int→Option (an×Int×Int×Int×(List a4)×Int)
 | 0,_,_,_,_,_,_=>none
 | n+1,I,U,aa,ab,J,j=>
  ((if j<I.To then
    if 0≤j∧j<(a0.length:Int) then
     (a0[j.toNat]?).bind fun ae=>
     if ae.Kind=(12:Int) then
      some (.inl (I,J))
     else
      if 0≤j∧j<(a0.length:Int) then
       (a0[j.toNat]?).bind fun ag=>
       if ag.Kind=(14:Int) then
        some (.inl (I,J))
       else
        some (.inr (I,U,aa,ab,J,j))
      else none
    else none
   else
    some (.inr (I,U,aa,ab,J,j))):Option (Sum (an×(List a4)) (an×Int×Int×Int×(List a4)×Int))).bind fun o=>match o with
   | .inl (ad,ah)=>(js F a0 (af (j+1)) ad.To 3).bind fun ai=>
   correctorref9_Entries_l2 F a0 a1 n ad U aa ab ah ai
   | .inr y=>some y
def mK (F:Nat) (a0:List al) (a1:an):Option ((List a4)×Int):=
 if a1.Kind=(5:Int) then
  ((correctorref9_Entries_l0 F a0 a1 F a1 a1.ai):Option (an×Int)).bind fun o=>match o with
   | (ab,ah)=>if 0≤ab.ai∧ab.ai<(a0.length:Int) then
    (a0[ab.ai.toNat]?).bind fun aq=>
    ((correctorref9_Entries_l1 F a0 a1 F ab ah ah aq.ai []):Option (an×Int×Int×Int×(List a4))).bind fun o=>match o with
     | (ar,aj,au,av,aw)=>((correctorref9_Entries_l2 F a0 a1 F ar aj au av aw aj):Option (an×Int×Int×Int×(List a4)×Int)).bind fun o=>match o with
      | (U,aa,ax,ak,ad,j)=>((if j<U.To then
        if 0≤j∧j<(a0.length:Int) then
         (a0[j.toNat]?).bind fun ay=>
         (fb F ay.Kind).bind fun az=>
         if az=true then
          (js F a0 (af (j+1)) U.To 3).bind fun aA=>
          some (U,ad,aA)
         else
          some (U,ad,j)
        else none
       else
        some (U,ad,j)):Option (an×(List a4)×Int)).bind fun o=>match o with
       | (aB,ae,J)=>((((if J<aB.To then
          if 0≤J∧J<(a0.length:Int) then
           (a0[J.toNat]?).bind fun aC=>
           if aC.Kind=(6:Int) then
            some (ae,true)
           else
            some (ae,false)
          else none
         else
          some (ae,false)):Option ((List a4)×Bool)).bind fun o=>match o with
         | (ag,aD)=>if aD=true then
          if 0≤aa∧aa<(a0.length:Int) then
           (a0[aa.toNat]?).bind fun ao=>
           if ag.length+[(⟨false,af (ao.ai - ak),aa,af (J+1)⟩:a4)].length≤4398046511104 then
            some (ag++[(⟨false,af (ao.ai - ak),aa,af (J+1)⟩:a4)])
           else none
          else none
         else
          some ag):Option (List a4)).bind fun o=>match o with
        | I=>if (I.length:Int)=(0:Int) then
         some ([],ax)
        else
         if 0≤(af ((I.length:Int) - 1))∧(af ((I.length:Int) - 1))<(I.length:Int) then
          (I[(af ((I.length:Int) - 1)).toNat]?).bind fun aE=>
          some (I,aE.To)
         else none
   else none
 else
  some ([],a1.ai)
theorem xH (F:Nat) {h:AH} {Z:Zn} {a0:List al} {a1:an} {v2} (hP:Pre Z h []) (J:RS (α:=al) Z v2 a0) {r:(List a4)×Int} (hm:mK F a0 a1=some r):
  bQ Try.prog 70 [v2, .agg #[V a1.Kind,V a1.ai,V a1.To,V a1.aE]] h Z [] fun v Z' A'=>∃ v4 cF, .tuple #[v4,V r.2]=v∧A'=[.gs v4 cF (aa a4)]∧RCs (α:=a4) Z' cF r.1:=by
 refine b6 Try.func70 hP ?_
 intro hs hS
 unfold mK at hm
 replace hS:St hs [] Z (0,0) Z hs []:=hS
 refine s0<|dK 0 [V a1.Kind,V a1.ai,V a1.To,V a1.aE] hS ?_
 intro bO dZ bR
 refine xn 2<|sq<|s0<|aB 1 0 (V a1.Kind) bR rfl<|cS 0 hm ?_ ?_<;>intro ea hm
 refine xn 0<|dF<|sk<|s0<|aB 1 0 (V a1.ai) bR rfl<|xn 1<|sq ?_
 obtain ⟨cf,ad,hm⟩:=ah hm
 refine aI [0,3,6] (fun l h=>∃ cG bB bC bS,(bB,bC)=cf∧l=[(0,v2),(3,Pt bS 0),(6,V bC)]∧St hs [] Z (0,0) cG h [.ae bS (cz bB)]) ?_ ?_
 rintro l eb ⟨cG,bB,bC,bS,rfl,rfl,bE⟩
 try dsimp only at hm
 refine sp 2<|s0<|aB 2 0 (V bB.ai) bE rfl<|a2 0 hm (J.mono bE.ag) ?_
 intro ec hm
 refine bm 1 1 (fun cg=>V cg.ai) hm (J.mono bE.ag) bE ?_
 intro cg ed hm
 refine xn 1<|sp 1<|sq ?_
 obtain ⟨ch,I,hm⟩:=ah hm
 refine aI [0,3,6,7,8,9] (fun l h=>∃ cj bT bF bU bV bW bX bY bZ,(bT,bF,bU,bV,bW)=ch∧RCs (α:=a4) cj bZ bW∧l=[(0,v2),(3,Pt bX 0),(6,V bF),(7,V bU),(8,V bV),(9,bY)]∧St hs [] Z (0,0) cj h [.ae bX (cz bT), .gs bY bZ (aa a4)]) ?_ ?_
 rintro l ee ⟨cj,bT,bF,bU,bV,bW,bX,bY,bZ,rfl,c6,rfl,c7⟩
 try dsimp only at hm
 refine sp 2<|sq ?_
 obtain ⟨ck,ar,hm⟩:=ah hm
 refine aI [0,3,6,7,8,9,10] (fun l h=>∃ cl aH au aK av bd bG bf bg bh,(aH,au,aK,av,bd,bG)=ck∧RCs (α:=a4) cl bh bd∧l=[(0,v2),(3,Pt bf 0),(6,V au),(7,V aK),(8,V av),(9,bg),(10,V bG)]∧St hs [] Z (0,0) cl h [.ae bf (cz aH), .gs bg bh (aa a4)]) ?_ ?_
 rintro l eg ⟨cl,aH,au,aK,av,bd,bG,bf,bg,bh,rfl,cm,rfl,aL⟩
 try dsimp only at hm
 refine sq ?_
 obtain ⟨c8,ak,hm⟩:=ah hm
 refine aI [0,3,6,7,8,9,10] (fun l h=>∃ cn b0 bj aw cq bl bn,(b0,bj,aw)=c8∧RCs (α:=a4) cn bn bj∧l=[(0,v2),(3,Pt cq 0),(6,V au),(7,V aK),(8,V av),(9,bl),(10,V aw)]∧St hs [] Z (0,0) cn h [.ae cq (cz b0), .gs bl bn (aa a4)]) ?_ ?_
 rintro l eh ⟨cn,b0,bj,aw,cq,bl,bn,rfl,cr,rfl,aR⟩
 try dsimp only at hm
 refine sq ?_
 obtain ⟨c9,aq,hm⟩:=ah hm
 refine aI [7,9] (fun l h=>∃ ct bo aj b1,bo=c9∧RCs (α:=a4) ct b1 bo∧l=[(7,V aK),(9,aj)]∧St hs [] Z (0,0) ct h [.gs aj b1 (aa a4)]) ?_ ?_
 rintro l ei ⟨ct,bo,aj,b1,rfl,bp,rfl,cu⟩
 try dsimp only at hm
 refine sq<|s0<|bD 1 aj (cu.dn (i:=0) rfl bp)<|aG 0 hm ?_ ?_<;>intro ej hm
 refine xn 0<|dT<|sp 3<|rt<|⟨rfl,?_⟩
 have da:=cu.dh (aa a4)
 obtain rfl:=si hm
 refine ⟨_,_,_,tk (.slice none 0 0) (tk (V aK) (ResL.nil)),(da.takeN 1),?_⟩
 exact ⟨(.slice none 0 0),[],rfl,rfl,(RCs.bu _)⟩
 refine xn 0<|dF<|sk<|cU DB cu ?_
 intro dc ek dd bI
 refine yq 3 [(149,aj),(148,aj),(147,aj)]<|aD rfl trivial (gG rfl (bI.dn (i:=0) rfl bp) ⟨_,Try.underlying106⟩)<|yq 1 [(151,V (af ((bo.length:Int) - 1))),(148,aj),(147,aj)] ?_
 obtain ⟨cH,hm⟩:=aJ hm
 refine aD rfl trivial (bA rfl rfl (by kernel_rfl:slTy _ _=some (aa a4)) (bI.bN (j:=0) rfl bp (by omega)) cH.1 cH.2)<|yq 1 [(153, .pointer (some (ba aj (af ((bo.length:Int) - 1)) (aa a4) 3))),(147,aj)] ?_
 obtain ⟨b2,cI,hm⟩:=ah hm
 obtain ⟨en,de,df,eo⟩:=bI.cp (j:=0) rfl bp (i:=af ((bo.length:Int) - 1)) cI
 obtain rfl:=s6 de
 have dg:=dw cI
 have di:=bI.bN (j:=0) rfl bp dg
 have ep:(baseOf aj).block<dc:=dk (dd.1 _ (List.mem_of_getElem? (i:=0) rfl)) di
 refine dt rfl trivial rfl (by show (baseOf aj).block<_;omega) (aC (v:=V b2.To) trivial) (bH (w:=V b2.To) df rfl (by kernel_rfl)) trivial<|ye 2 [(5,V b2.To),(4,aj)] ?_
 have dj:=bI.aY
 refine rt<|⟨rfl,?_⟩
 obtain rfl:=si hm
 refine ⟨_,_,_,tk aj (tk (V b2.To) (ResL.nil)),dj,?_⟩
 exact ⟨aj,b1,rfl,rfl,bp⟩
 refine sq ?_
 obtain ⟨dm,ax,aq⟩:=ah aq
 refine aI [0,6,7,8,9,10,128] (fun l h=>∃ b3 bJ cv bq b4,(bJ,cv)=dm∧RCs (α:=a4) b3 b4 bJ∧l=[(0,v2),(6,V au),(7,V aK),(8,V av),(9,bq),(10,V aw),(128, .bool cv)]∧St hs [] Z (0,0) b3 h [.gs bq b4 (aa a4)]) ?_ ?_
 rintro l er ⟨b3,bJ,cv,bq,b4,rfl,cJ,rfl,bK⟩
 try dsimp only at aq
 refine db aq ?_ ?_<;>intro et aq
 refine rg Bf<|a2 3 aq (J.mono bK.ag) ?_
 intro eu aq
 refine bm 1 1 (fun aA=>V aA.ai) aq (J.mono bK.ag) bK ?_
 intro aA ew aq
 refine xq 6 [(140, .agg #[.bool false,V (af (aA.ai - av)),V au,V (af (aw+1))]),(129,bq),(7,V aK),(9,bq)] ?_
 have dp:RCs (α:=a4) b3 [.bool false,V (af (aA.ai - av)),V au,V (af (aw+1))] [(⟨false,af (aA.ai - av),au,af (aw+1)⟩:a4)]:=RCs.cons (cs:=[.bool false,V (af (aA.ai - av)),V au,V (af (aw+1))]) rfl (RCs.bu _)
 refine dP rfl trivial (c3 (cells:=[.bool false,V (af (aA.ai - av)),V au,V (af (aw+1))]) (s:=4) (by kernel_rfl)) (by kernel_rfl) bK ?_
 intro ey ez cK
 obtain ⟨eA,aq⟩:=aJ aq
 refine eY rfl trivial (dM (ys:=[(⟨false,af (aA.ai - av),au,af (aw+1)⟩:a4)]) (bP:=32) cK (i:=1) rfl cJ ((cK).eI (j:=0) rfl dp) rfl rfl (by kernel_rfl) (by omega) (by omega)) ?_
 rintro dq dr eB ⟨ds,dv⟩
 refine xn 1 ?_
 obtain rfl:=si aq
 exact ⟨_,bJ++[(⟨false,af (aA.ai - av),au,af (aw+1)⟩:a4)],dq,dr,rfl,ds,(by kernel_rfl),((dv.front 1 rfl).takeN 1)⟩
 refine sk ?_
 obtain rfl:=si aq
 exact ⟨_,bJ,bq,b4,rfl,cJ,(by kernel_rfl),bK⟩
 refine g0<|aB 2 0 (V b0.To) aR rfl<|aP 0 ax ?_ ?_<;>intro eC ax
 refine a2 3 ax (J.mono aR.ag) ?_
 intro eD ax
 refine bm 1 0 (fun cL=>V cL.Kind) ax (J.mono aR.ag) aR ?_
 intro cL eE ax
 refine aG 0 ax ?_ ?_<;>intro eF ax
 refine xn 1 ?_
 obtain rfl:=si ax
 exact ⟨_,bj,true,bl,bn,rfl,cr,(by kernel_rfl),((aR.front 1 rfl).takeN 1)⟩
 refine xn 1 ?_
 obtain rfl:=si ax
 exact ⟨_,bj,false,bl,bn,rfl,cr,(by kernel_rfl),((aR.front 1 rfl).takeN 1)⟩
 refine xn 8 ?_
 obtain rfl:=si ax
 exact ⟨_,bj,false,bl,bn,rfl,cr,(by kernel_rfl),((aR.front 1 rfl).takeN 1)⟩
 refine s0<|aB 2 0 (V aH.To) aL rfl<|aP 0 ak ?_ ?_<;>intro eG ak
 refine a2 3 ak (J.mono aL.ag) ?_
 intro eH ak
 refine bm 1 0 (fun cM=>V cM.Kind) ak (J.mono aL.ag) aL ?_
 intro cM eJ ak
 obtain ⟨eK,dx,ak⟩:=ah ak
 refine cP 0 aL (oV F aL.inv dx) ?_
 rintro _ eL b5 rfl
 refine xn 1<|db ak ?_ ?_<;>intro eM ak
 refine g0<|aB 4 0 (V aH.To) b5 rfl ?_
 obtain ⟨dy,dz,ak⟩:=ah ak
 refine cP 0 b5 (qb F b5.inv (J.mono aL.ag) dz) ?_
 rintro _ eN dA rfl
 refine xn 1 ?_
 obtain rfl:=si ak
 exact ⟨_,aH,bd,dy,bf,bg,bh,rfl,cm,(by kernel_rfl),dA⟩
 refine sk ?_
 obtain rfl:=si ak
 exact ⟨_,aH,bd,bG,bf,bg,bh,rfl,cm,(by kernel_rfl),b5⟩
 refine xn 8<|dF<|sk ?_
 obtain rfl:=si ak
 exact ⟨_,aH,bd,bG,bf,bg,bh,rfl,cm,(by kernel_rfl),aL⟩
 refine bk 4<|lp [0,3,6,7,8,9,10] (fun n l h=>∃ cw aM aU aV aW aZ br a3 a5 a6,correctorref9_Entries_l2 F a0 a1 n aM aU aV aW aZ br=some ck∧RCs (α:=a4) cw a6 aZ∧l=[(0,v2),(3,Pt a3 0),(6,V aU),(7,V aV),(8,V aW),(9,a5),(10,V br)]∧St hs [] Z (0,0) cw h [.ae a3 (cz aM), .gs a5 a6 (aa a4)]) F ⟨_,bT,bF,bU,bV,bW,bF,bX,bY,bZ,ar,c6,(by kernel_rfl),c7⟩ ?_
 rintro cx l eO ⟨cw,aM,aU,aV,aW,aZ,br,a3,a5,a6,ar,b7,rfl,ay⟩
 rcases cx with _ | cx
 cases (show none=some ck from ar)
 rw [correctorref9_Entries_l2] at ar
 refine sq ?_
 obtain ⟨dB,ab,ar⟩:=ah ar
 refine aI [0,3,6,7,8,9,10] (fun l h=>∃ cA bL b8 b9 ca cb, .inl (bL,b8)=dB∧RCs (α:=a4) cA cb b8∧l=[(0,v2),(3,Pt b9 0),(6,V aU),(7,V aV),(8,V aW),(9,ca),(10,V br)]∧St hs [] Z (0,0) cA h [.ae b9 (cz bL), .gs ca cb (aa a4)]) ?_ ?_
 rintro l eP ⟨cA,bL,b8,b9,ca,cb,rfl,dC,rfl,cc⟩
 try dsimp only at ar
 refine bk 5<|g0<|aB 4 0 (V bL.To) cc rfl ?_
 obtain ⟨dD,dG,ar⟩:=ah ar
 refine cP 0 cc (qb F cc.inv (J.mono cc.ag) dG) ?_
 rintro _ eQ dH rfl
 refine xn 1 ?_
 exact ⟨cx,Nat.lt_succ_self _,⟨_,bL,aU,aV,aW,b8,dD,b9,ca,cb,ar,dC,(by kernel_rfl),dH⟩⟩
 refine s0<|aB 2 0 (V aM.To) ay rfl<|aP 0 ab ?_ ?_<;>intro eR ab
 refine a2 3 ab (J.mono ay.ag) ?_
 intro eS ab
 refine bm 1 0 (fun cN=>V cN.Kind) ab (J.mono ay.ag) ay ?_
 intro cN eT ab
 refine aG 0 ab ?_ ?_<;>intro eU ab
 refine xn 9<|dT<|sk ?_
 obtain rfl:=si ab
 exact ⟨_,aM,aZ,a3,a5,a6,rfl,b7,(by kernel_rfl),ay⟩
 refine a2 3 ab (J.mono ay.ag) ?_
 intro eV ab
 refine bm 1 0 (fun cO=>V cO.Kind) ab (J.mono ay.ag) ay ?_
 intro cO eW ab
 refine aG 0 ab ?_ ?_<;>intro eX ab
 refine xn 2<|dT<|sk ?_
 obtain rfl:=si ab
 exact ⟨_,aM,aZ,a3,a5,a6,rfl,b7,(by kernel_rfl),ay⟩
 refine xn 2<|dF<|xt 4<|aO ?_
 obtain rfl:=si ab
 obtain rfl:=si ar
 exact ⟨_,aM,aU,aV,aW,aZ,br,a3,a5,a6,rfl,b7,(by kernel_rfl),ay⟩
 refine xn 16<|dF<|xt 4<|aO ?_
 obtain rfl:=si ab
 obtain rfl:=si ar
 exact ⟨_,aM,aU,aV,aW,aZ,br,a3,a5,a6,rfl,b7,(by kernel_rfl),ay⟩
 refine bk 2 ?_
 have dI:=bE.dh (aa a4)
 refine lp [0,3,6,7,8,9] (fun n l h=>∃ cd aQ U a7 ao bw a8 a9 bM,correctorref9_Entries_l1 F a0 a1 n aQ U a7 ao bw=some ch∧RCs (α:=a4) cd bM bw∧l=[(0,v2),(3,Pt a8 0),(6,V U),(7,V a7),(8,V ao),(9,a9)]∧St hs [] Z (0,0) cd h [.ae a8 (cz aQ), .gs a9 bM (aa a4)]) F ⟨_,bB,bC,bC,cg.ai,[],bS,(.slice none 0 0),[],I,(RCs.bu _),(by kernel_rfl),((dI.front 0 rfl).front 1 rfl)⟩ ?_
 rintro cB l eZ ⟨cd,aQ,U,a7,ao,bw,a8,a9,bM,I,cC,rfl,az⟩
 rcases cB with _ | cB
 cases (show none=some ch from I)
 rw [correctorref9_Entries_l1] at I
 refine sq<|s0<|aB 2 0 (V aQ.To) az rfl<|aP 0 I ?_ ?_<;>intro e0 I
 refine a2 3 I (J.mono az.ag) ?_
 intro e2 I
 refine bm 1 0 (fun cQ=>V cQ.Kind) I (J.mono az.ag) az ?_
 intro cQ e3 I
 refine aG 0 I ?_ ?_<;>intro e4 I
 refine xn 1<|dT<|sk<|bk 3<|sr xm<|a2 3 I (J.mono az.ag) ?_
 intro e5 I
 refine bm 1 1 (fun aF=>V aF.ai) I (J.mono az.ag) az ?_
 intro aF e6 I
 refine xq 6 [(63, .agg #[.bool true,V (af (aF.ai - ao)),V U,V (af (U+1))]),(52,a9),(0,v2),(3,Pt a8 0),(6,V U),(7,V a7),(8,V ao),(9,a9)] ?_
 have dJ:RCs (α:=a4) cd [.bool true,V (af (aF.ai - ao)),V U,V (af (U+1))] [(⟨true,af (aF.ai - ao),U,af (U+1)⟩:a4)]:=RCs.cons (cs:=[.bool true,V (af (aF.ai - ao)),V U,V (af (U+1))]) rfl (RCs.bu _)
 refine dP rfl trivial (c3 (cells:=[.bool true,V (af (aF.ai - ao)),V U,V (af (U+1))]) (s:=4) (by kernel_rfl)) (by kernel_rfl) az ?_
 intro e7 e8 cR
 obtain ⟨e9,I⟩:=aJ I
 refine eY rfl trivial (dM (ys:=[(⟨true,af (aF.ai - ao),U,af (U+1)⟩:a4)]) (bP:=32) cR (i:=2) rfl cC ((cR).eI (j:=0) rfl dJ) rfl rfl (by kernel_rfl) (by omega) (by omega)) ?_
 rintro dL dN fa ⟨dO,cD⟩
 refine xn 1<|g0<|aB 4 1 (V aQ.To) cD rfl ?_
 obtain ⟨dQ,dR,I⟩:=ah I
 refine cP 0 cD (qb F cD.inv (J.mono az.ag) dR) ?_
 rintro _ fb dS rfl
 refine xn 1 ?_
 exact ⟨cB,Nat.lt_succ_self _,⟨_,aQ,dQ,a7,ao,bw++[(⟨true,af (aF.ai - ao),U,af (U+1)⟩:a4)],a8,dL,dN,I,dO,(by kernel_rfl),(((dS.front 2 rfl).front 2 rfl).takeN 2)⟩⟩
 refine xn 1<|dF<|xt 2<|aO ?_
 obtain rfl:=si I
 exact ⟨_,aQ,U,a7,ao,bw,a8,a9,bM,rfl,cC,(by kernel_rfl),az⟩
 refine xn 8<|dF<|xt 2<|aO ?_
 obtain rfl:=si I
 exact ⟨_,aQ,U,a7,ao,bw,a8,a9,bM,rfl,cC,(by kernel_rfl),az⟩
 refine bk 0<|lp [0,3,6] (fun n l h=>∃ cT bb bx bz,correctorref9_Entries_l0 F a0 a1 n bb bx=some cf∧l=[(0,v2),(3,Pt bz 0),(6,V bx)]∧St hs [] Z (0,0) cT h [.ae bz (cz bb)]) F ⟨_,a1,a1.ai,bO,ad,(by kernel_rfl),bR⟩ ?_
 rintro cE l fc ⟨cT,bb,bx,bz,ad,rfl,bc⟩
 rcases cE with _ | cE
 cases (show none=some cf from ad)
 rw [correctorref9_Entries_l0] at ad
 refine sq<|s0<|aB 2 0 (V bb.To) bc rfl<|aP 0 ad ?_ ?_<;>intro fe ad
 refine a2 3 ad (J.mono bc.ag) ?_
 intro ff ad
 refine bm 1 0 (fun cX=>V cX.Kind) ad (J.mono bc.ag) bc ?_
 intro cX fg ad
 obtain ⟨fh,dU,ad⟩:=ah ad
 refine cP 0 bc (ja F bc.inv dU) ?_
 rintro _ fi c0 rfl
 refine kb 0 28 ad ?_ ?_<;>intro fj ad
 refine xn 2<|dF<|xt 0<|aO ?_
 obtain rfl:=si ad
 exact ⟨_,bb,bx,bz,rfl,(by kernel_rfl),c0⟩
 refine xn 2<|dT<|sk<|bk 1<|gp 3 ?_
 exact ⟨cE,Nat.lt_succ_self _,⟨_,bb,af (bx+1),bz,ad,(by kernel_rfl),c0⟩⟩
 refine xn 9<|dF<|xt 0<|aO ?_
 obtain rfl:=si ad
 exact ⟨_,bb,bx,bz,rfl,(by kernel_rfl),bc⟩
 refine xn 0<|dT<|cU EU bR ?_
 intro dV fk dW c4
 refine yq 1 [(14,Pt bO 1)] ?_
 have fl:bO<dV:=dW.1 _ (List.mem_of_getElem? (i:=0) rfl) _ (by simp [Itm.ids])
 refine aX (v:=V a1.ai) rfl trivial rfl (by show bO<_;omega) (aC (v:=V a1.ai) trivial) (c4.aS (i:=0) rfl (by kernel_rfl)) trivial<|ye 2 [(5,V a1.ai),(4, .slice none 0 0)] ?_
 have dX:=c4.aY
 refine rt<|⟨rfl,?_⟩
 have dY:=dX.dh (aa a4)
 obtain rfl:=si hm
 refine ⟨_,_,_,tk (.slice none 0 0) (tk (V a1.ai) (ResL.nil)),(dY.takeN 1),?_⟩
 exact ⟨(.slice none 0 0),[],rfl,rfl,(RCs.bu _)⟩
end Go.Proofs.Ytcilejikekccmaa.M
namespace Go.Proofs.Ytcilejikekccmaa.M
open Go Am Sy
open Sy.Cell (rc)
structure aq where
 Kind:Int
 ai:Int
 To:Int
 Up:Int
 Kids:List Int
 Key:Bool
 deriving DecidableEq,Inhabited
instance:Cell aq where
 size:=6
 rc Z cs x:=∃ v4,RS (α:=Int) Z v4 x.Kids∧cs=[V x.Kind,V x.ai,V x.To,V x.Up,v4, .bool x.Key]
 len h:=by obtain ⟨v4,j,h⟩:=h;rw [h];rfl
 mono hz h:=by obtain ⟨v4,j,h⟩:=h;exact ⟨v4,j.mono hz,h⟩
 one h:=by obtain ⟨v4,j,h⟩:=h;subst h;exact (br rfl (br rfl (br rfl (br rfl (br j.c7 (br rfl cm))))))
 pos:=by decide
instance:cV aq Int where
 row x:=x.Kids
 dQ v cs x:=cs=[V x.Kind,V x.ai,V x.To,V x.Up,v, .bool x.Key]
 o6 h hd:=⟨_,h,hd⟩
 kJ h:=by rw [h];rfl
 done hv h:=by subst h;exact (br rfl (br rfl (br rfl (br rfl (br hv (br rfl cm))))))
 inj h k:=by rw [h] at k;simpa using k
 fn h k:=h.trans k.symm
theorem oD {v:Value} {cs:List Value} {x:aq} (h:cV.dQ v cs x):cs=[V x.Kind,V x.ai,V x.To,V x.Up,v, .bool x.Key]:=h
theorem c6 {Z:Zn} {cs:List Value} {x:aq} (h:rc Z cs x):∃ v4,RS (α:=Int) Z v4 x.Kids∧cs=[V x.Kind,V x.ai,V x.To,V x.Up,v4, .bool x.Key]:=h
abbrev m7 (v0:Value) (x:aq):List Value:=[V x.Kind,V x.ai,V x.To,V x.Up,v0, .bool x.Key]
structure cG where
 ak:List aq
 deriving DecidableEq,Inhabited
instance:Cell cG where
 size:=1
 rc Z cs x:=∃ v0,RS (α:=aq) Z v0 x.ak∧cs=[v0]
 len h:=by obtain ⟨v0,j,h⟩:=h;rw [h];rfl
 mono hz h:=by obtain ⟨v0,j,h⟩:=h;exact ⟨v0,j.mono hz,h⟩
 one h:=by obtain ⟨v0,j,h⟩:=h;subst h;exact (br j.c7 cm)
 pos:=by decide
instance:cV cG aq where
 row x:=x.ak
 dQ v cs x:=cs=[v]
 o6 h hd:=⟨_,h,hd⟩
 kJ h:=by rw [h];rfl
 done hv h:=by subst h;exact (br hv cm)
 inj h k:=by rw [h] at k;simpa using k
 fn h k:=h.trans k.symm
def AW:List aN:=[u 9 (mv 0),u 10 (.build 37 #[(0,(ci 1)),(2,(t 9)),(3,(ci (-1)))]),u 11 (.buildSlice 25 1 #[(0,(t 10))]),u 12 (.build 27 #[(0,(t 11))]),o (.store 27 (t 2) (t 12))]
def mg (F:Nat) (a0:Int):Option cG:=
 ((if a0<(0:Int) then
   some 0
  else
   if (32768:Int)<a0 then
    some 0
   else
    some a0):Option Int).bind fun o=>match o with
  | j=>some (⟨[(⟨1,0,j,(-1),[],false⟩:aq)]⟩:cG)
theorem Bj (F:Nat) {h:AH} {Z:Zn} {a0:Int} (hP:Pre Z h []) {r:cG} (hm:mg F a0=some r):
  bQ Try.prog 21 [V a0] h Z [] fun v Z' A'=>∃ v2 ai, .agg #[v2]=v∧A'=[.gs v2 ai (aa aq)]∧RCs (α:=aq) Z' ai r.ak:=by
 refine b6 Try.func21 hP ?_
 intro hs hS
 unfold mg at hm
 replace hS:St hs [] Z (0,0) Z hs []:=hS
 refine s0<|dK 0 [.slice none 0 0] hS ?_
 intro ab au ad
 refine xn 0<|sq ?_
 obtain ⟨an,I,hm⟩:=ah hm
 refine eo [0,2] (fun l h=>∃ af j U,j=an∧l=[(0,V j),(2,Pt U 0)]∧St hs [] Z (0,0) af h [.ae U [.slice none 0 0]]) (by kernel_rfl) ?_ ?_
 rintro l av ⟨af,j,U,rfl,rfl,ao⟩
 try dsimp only at hm
 refine sr AW<|xq 2 [(10, .agg #[V 1,V 0,V j,V (-1), .slice none 0 0, .bool false]),(2,Pt U 0)] ?_
 have ar:RCs (α:=aq) af [V 1,V 0,V j,V (-1), .slice none 0 0, .bool false] [(⟨1,0,j,(-1),[],false⟩:aq)]:=RCs.cons (cs:=[V 1,V 0,V j,V (-1), .slice none 0 0, .bool false]) ⟨_,(RS.bu _),rfl⟩ (RCs.bu _)
 refine dP rfl trivial (c3 (cells:=[V 1,V 0,V j,V (-1), .slice none 0 0, .bool false]) (s:=6) (by kernel_rfl)) (by kernel_rfl) ao ?_
 intro J aw ag
 refine bT rfl trivial (jK (v:= .agg #[J]) rfl (CA.cons (cs:=[J]) (ag.fE (i:=0) rfl) (CA.bu)) (by kernel_rfl))<|bG 0 1 (.agg #[J]) [J] [J] ag rfl rfl (br (ag.fF (i:=0) rfl) cm) ?_
 intro ax aj
 refine xn 0<|rt<|⟨rfl,?_⟩
 obtain rfl:=si hm
 refine ⟨_,_,_,ResL.cell (v:= .agg #[J]) (by kernel_rfl) aj (i:=1) rfl (by kernel_rfl) (ResL.nil),(aj.takeN 1),?_⟩
 exact ⟨J,[V 1,V 0,V j,V (-1), .slice none 0 0, .bool false],rfl,rfl,ar⟩
 refine g0<|aP 1 I ?_ ?_<;>intro ay I
 refine xn 4<|dT<|gp 1 ?_
 obtain rfl:=si I
 exact ⟨_,0,ab,rfl,(by kernel_rfl),ad⟩
 refine cH 2 I ?_ ?_<;>intro az I
 refine xn 1<|dT<|gp 1 ?_
 obtain rfl:=si I
 exact ⟨_,0,ab,rfl,(by kernel_rfl),ad⟩
 refine xn 1<|dF<|sk ?_
 obtain rfl:=si I
 exact ⟨_,a0,ab,rfl,(by kernel_rfl),ad⟩
def Ak:List aN:=[u 1 (.box 27 (t 0)),u 2 (.assign (.const (.slice none 0 0)))]
def D3:List aN:=[u 18 (.buildSlice 23 0 #[]),u 19 (fa 37 5 4),u 20 (ld 23 19),u 21 (cb .append #[(t 18),(t 20)] #[23,23]),u 22 (fa 37 5 4),o (.store 23 (t 22) (t 21))]
def zP:List aN:=[u 23 (mv 3),u 24 (ld 37 5),u 25 (.buildSlice 25 1 #[(0,(t 24))]),u 26 (cb .append #[(t 23),(t 25)] #[25,25]),u 3 (sg 26)]
def correctorref10_copied_l0 (F:Nat) (a0:cG):Nat→(List aq)→Int→Option (List aq)
 | 0,_,_=>none
 | n+1,J,I=>
  if I<(a0.ak.length:Int) then
   if 0≤I∧I<(a0.ak.length:Int) then
    (a0.ak[I.toNat]?).bind fun j=>
    if ([]:List Int).length+j.Kids.length≤17592186044416 then
     if J.length+[(⟨j.Kind,j.ai,j.To,j.Up,([]:List Int)++j.Kids,j.Key⟩:aq)].length≤2199023255552 then
      correctorref10_copied_l0 F a0 n (J++[(⟨j.Kind,j.ai,j.To,j.Up,([]:List Int)++j.Kids,j.Key⟩:aq)]) (af (I+1))
     else none
    else none
   else none
  else
   some J
def mb (F:Nat) (a0:cG):Option (List aq):=
 ((correctorref10_copied_l0 F a0 F [] 0):Option (List aq)).bind fun o=>match o with
  | j=>some j
theorem sG (F:Nat) {h:AH} {Z:Zn} {a0:cG} {v2} (hP:Pre Z h []) (aC:RS (α:=aq) Z v2 a0.ak) {r:(List aq)} (hm:mb F a0=some r):
  bQ Try.prog 82 [.agg #[v2]] h Z [] fun v Z' A'=>∃ v4 aQ aR,v4=v∧A'=[.gs v4 aQ (aa aq), .bF aR]∧RD (α:=aq) Z' aQ r aR:=by
 refine b6 Try.func82 hP ?_
 intro hs hS
 unfold mb at hm
 replace hS:St hs [] Z (0,0) Z hs []:=hS
 refine sr Ak<|g1 rfl trivial (gv (cs:=[v2]) rfl rfl) hS ?_
 intro aW bw aX
 refine xn 1<|sp 1<|sq<|sp 1 ?_
 obtain ⟨aD,I,hm⟩:=ah hm
 refine aI [3] (fun l h=>∃ aE aF au ay az,aF=aD∧RD (α:=aq) aE ay aF az∧l=[(3,au)]∧St hs [] Z (0,0) aE h [.gs au ay (aa aq), .bF az]) ?_ ?_
 rintro l bx ⟨aE,aF,au,ay,az,rfl,aY,rfl,aZ⟩
 try dsimp only at hm
 refine sp 2<|rt<|⟨rfl,?_⟩
 obtain rfl:=si hm
 refine ⟨_,_,_,tk au (ResL.nil),aZ,?_⟩
 exact ⟨au,ay,az,rfl,rfl,aY⟩
 refine bk 0 ?_
 have a1:=aX.y1 (aa aq)
 refine lp [1,3,4] (fun n l h=>∃ av aw ad ab J ao an,correctorref10_copied_l0 F a0 n aw ad=some aD∧RD (α:=aq) av ao aw an∧l=[(1,Pt ab 0),(3,J),(4,V ad)]∧St hs [] Z (0,0) av h [.ae ab [v2], .gs J ao (aa aq), .bF an]) F ⟨_,[],0,aW,(.slice none 0 0),[],[],I,RD.nil,(by kernel_rfl),(((a1.front 1 rfl).front 1 rfl).front 2 rfl)⟩ ?_
 rintro aG l bz ⟨av,aw,ad,ab,J,ao,an,I,aS,rfl,aj⟩
 rcases aG with _ | aG
 cases (show none=some aD from I)
 rw [correctorref10_copied_l0] at I
 refine sq<|s0<|aB 2 0 v2 aj rfl<|bD 0 v2 (RS.len (aC.mono aj.ag))<|aP 0 I ?_ ?_<;>intro bA I
 refine xn 0<|dT<|sk<|sq<|bk 1<|s0<|aB 1 0 v2 aj rfl<|a2 1 I (aC.mono aj.ag) ?_
 intro bB I
 obtain ⟨j,a3,I⟩:=ah I
 obtain ⟨bC,a4,a5⟩:=RS.bR (aC.mono aj.ag) (i:=ad) a3
 obtain ⟨ax,aU,rfl⟩:=c6 a4
 refine eg 0 0 (.agg #[V j.Kind,V j.ai,V j.To,V j.Up,ax, .bool j.Key]) (a5 _ (aj.bM (aM.refl _)))<|dK 0 [V 0,V 0,V 0,V 0, .slice none 0 0, .bool false] aj ?_
 intro ar bE a6
 refine bG 0 0 (.agg #[V j.Kind,V j.ai,V j.To,V j.Up,ax, .bool j.Key]) [V j.Kind,V j.ai,V j.To,V j.Up,ax, .bool j.Key] (m7 ax j) a6 rfl rfl (br rfl (br rfl (br rfl (br rfl (br (RS.c7 aU) (br rfl cm)))))) ?_
 intro bH a7
 refine xf [(5,Pt ar 0),(1,Pt ab 0),(3,J),(4,V ad)]<|sr D3 ?_
 have a8:RCs (α:=Int) av [] []:=RCs.bu _
 refine dP rfl trivial (c3 (cells:=[]) (s:=1) (by kernel_rfl)) (by kernel_rfl) a7 ?_
 intro a9 bI aH
 refine xq 1 [(19,Pt ar 4),(18,a9),(5,Pt ar 0),(1,Pt ab 0),(3,J),(4,V ad)]<|aB 0 1 ax aH rfl ?_
 obtain ⟨bJ,ba⟩:=RS.news aU (aH).inv
 obtain ⟨bK,I⟩:=aJ I
 refine eY rfl trivial (dM (ys:=j.Kids) (bP:=8) aH (i:=0) rfl a8 ba rfl rfl (by kernel_rfl) (by omega) (by omega)) ?_
 rintro U bL bN ⟨bb,aK⟩
 refine bG 1 1 U [U] (m7 U j) aK rfl (aK.fE (i:=0) rfl) (br (aK.fF (i:=0) rfl) cm) ?_
 intro bO aL
 refine xn 0<|rg zP<|xq 1 [(23,J),(5,Pt ar 0),(1,Pt ab 0),(3,J),(4,V ad)]<|aB 0 1 (.agg #[V j.Kind,V j.ai,V j.To,V j.Up,U, .bool j.Key]) aL rfl ?_
 have bc:=aL.fF (i:=0) rfl
 refine dP rfl trivial (c3 (cells:=[V j.Kind,V j.ai,V j.To,V j.Up,U, .bool j.Key]) (s:=6) (by kernel_rfl)) (by kernel_rfl) aL ?_
 intro aV bS bd
 obtain ⟨aA,bf,bg⟩:=(bd.front 1 rfl).uW bb
 have bh:=bg.front 1 rfl
 have bj:RD (α:=aq) av [V j.Kind,V j.ai,V j.To,V j.Up,U, .bool j.Key] [(⟨j.Kind,j.ai,j.To,j.Up,([]:List Int)++j.Kids,j.Key⟩:aq)] aA:=RD.one (show cV.dQ _ _ _ from rfl) bc bf
 have bl:St _ _ _ _ _ _ [.gs aV [V j.Kind,V j.ai,V j.To,V j.Up,U, .bool j.Key] (aa aq), .bF aA, .ae ar (m7 U j), .ae ab [v2], .gs J ao (aa aq), .bF an]:=bh
 obtain ⟨bT,I⟩:=aJ I
 have bm:St _ _ _ _ _ _ [.gs J ao (aa aq), .bF an, .gs aV [V j.Kind,V j.ai,V j.To,V j.Up,U, .bool j.Key] (aa aq), .bF aA, .ae ar (m7 U j), .ae ab [v2]]:=((((bl.front 1 rfl).front 1 rfl).front 5 rfl).front 5 rfl)
 refine eY rfl trivial (tG (bP:=64) bm aS bj rfl rfl (by kernel_rfl) (by omega) (by omega)) ?_
 rintro bn bo bU ⟨bp,bq⟩
 refine xn 1<|gp 3 ?_
 exact ⟨aG,Nat.lt_succ_self _,⟨_,aw++[(⟨j.Kind,j.ai,j.To,j.Up,([]:List Int)++j.Kids,j.Key⟩:aq)],af (ad+1),ab,bn,bo,an++aA,I,bp,(by kernel_rfl),((((bq.front 1 rfl).front 1 rfl).front 3 rfl).takeN 3)⟩⟩
 refine xn 0<|dF<|xt 0<|aO ?_
 obtain rfl:=si I
 exact ⟨_,aw,J,ao,an,rfl,aS,(by kernel_rfl),(((aj.front 2 rfl).front 2 rfl).takeN 2)⟩
def AE:List aN:=[u 10 (mv 0),u 11 (mv 6),u 12 (ia 25 10 11),u 13 (fa 37 12 3),u 14 (ld 3 13),u 6 (sg 14)]
def CJ:List aN:=[u 15 (mv 0),u 16 (mv 6),u 17 (mv 0),u 18 (mv 6),u 19 (ia 25 17 18),u 20 (fa 37 19 2),u 21 (ld 3 20),u 22 (mv 2),u 23 (cb .max #[(t 21),(t 22)] #[3,3]),u 24 (ia 25 15 16),u 25 (fa 37 24 2),o (.store 3 (t 25) (t 23))]
def kl (F:Nat) (a0:List aq) (a1:Int) (U:Int):Nat→(List aq)→Int→Option (List aq)
 | 0,_,_=>none
 | n+1,J,I=>
  if (0:Int)≤I then
   if 0≤I∧I<(J.length:Int) then
    (J[I.toNat]?).bind fun aa=>
    if 0≤I∧I<(J.length:Int) then
     (J[I.toNat]?).bind fun j=>
     if 0≤I∧I<((J.set I.toNat (⟨j.Kind,j.ai,imax aa.To U,j.Up,j.Kids,j.Key⟩:aq)).length:Int) then
      ((J.set I.toNat (⟨j.Kind,j.ai,imax aa.To U,j.Up,j.Kids,j.Key⟩:aq))[I.toNat]?).bind fun ab=>
      kl F a0 a1 U n (J.set I.toNat (⟨j.Kind,j.ai,imax aa.To U,j.Up,j.Kids,j.Key⟩:aq)) ab.Up
     else none
    else none
   else none
  else
   some J
def lV (F:Nat) (a0:List aq) (a1:Int) (j:Int):Option (List aq):=
 ((kl F a0 a1 j F a0 a1):Option (List aq)).bind fun o=>match o with
  | I=>some I
theorem ui (F:Nat) {h:AH} {Z:Zn} {a0:List aq} {a1:Int} {U:Int} {v2 ae af} (hP:Pre Z h [.gs v2 ae (aa aq), .bF af]) (aL:RD (α:=aq) Z ae a0 af) {r:(List aq)} (hm:lV F a0 a1 U=some r):
  bQ Try.prog 83 [v2,V a1,V U] h Z [.gs v2 ae (aa aq), .bF af] fun v Z' A'=>∃ aC aD, .tuple #[]=v∧A'=[.gs v2 aC (aa aq), .bF aD]∧RD (α:=aq) Z' aC r aD:=by
 refine b6 Try.func83 hP ?_
 intro hs hS
 unfold lV at hm
 refine sp 2 ?_
 obtain ⟨av,I,hm⟩:=ah hm
 refine aI [] (fun l h=>∃ aw ax ao ar,ax=av∧RD (α:=aq) aw ao ax ar∧l=[]∧St hs (aR [.gs v2 ae (aa aq), .bF af]) Z (0,0) aw h [.gs v2 ao (aa aq), .bF ar]) ?_ ?_
 rintro l a5 ⟨aw,ax,ao,ar,rfl,aM,rfl,aP⟩
 try dsimp only at hm
 obtain rfl:=si hm
 refine ⟨_,_,_,ResL.nil,aP,?_⟩
 exact ⟨ao,ar,rfl,rfl,aM⟩
 refine bk 0<|lp [0,2,6] (fun n l h=>∃ ay ak J au an,kl F a0 a1 U n ak J=some av∧RD (α:=aq) ay au ak an∧l=[(0,v2),(2,V U),(6,V J)]∧St hs (aR [.gs v2 ae (aa aq), .bF af]) Z (0,0) ay h [.gs v2 au (aa aq), .bF an]) F ⟨_,a0,a1,ae,af,I,aL,(by kernel_rfl),hS⟩ ?_
 rintro az l a6 ⟨ay,ak,J,au,an,I,ag,rfl,aj⟩
 rcases az with _ | az
 cases (show none=some av from I)
 rw [kl] at I
 refine sq<|s0<|cC 1 I ?_ ?_<;>intro a7 I
 refine xn 0<|dT<|sk<|sq<|bk 1<|rg CJ<|xq 4 [(18,V J),(17,v2),(16,V J),(15,v2),(0,v2),(2,V U),(6,V J)] ?_
 obtain ⟨aE,I⟩:=aJ I
 refine bT rfl trivial (bA rfl rfl (by kernel_rfl:slTy _ _=some (aa aq)) (aj.mW (i:=0) rfl (ag).raw (by omega)) aE.1 aE.2) ?_
 obtain ⟨ad,aQ,I⟩:=ah I
 obtain ⟨a8,a9,aS,bb,aU,bc⟩:=aj.del (j:=0) rfl (ag).raw (i:=J) aQ
 obtain rfl:=oD aS
 refine eg 1 2 (V ad.To) aU<|xq 2 [(23,V (imax ad.To U)),(16,V J),(15,v2),(0,v2),(2,V U),(6,V J)] ?_
 obtain ⟨aF,I⟩:=aJ I
 refine bT rfl trivial (bA rfl rfl (by kernel_rfl:slTy _ _=some (aa aq)) (aj.mW (i:=0) rfl (ag).raw (by omega)) aF.1 aF.2)<|xq 1 [(25, .pointer (some (ba v2 J (aa aq) 2))),(23,V (imax ad.To U)),(0,v2),(2,V U),(6,V J)] ?_
 obtain ⟨ab,aG,I⟩:=ah I
 obtain ⟨aV,bd,aW,bf,bg,aX⟩:=aj.del (j:=0) rfl (ag).raw (i:=J) aG
 obtain rfl:=oD aW
 refine jC rfl trivial (vV (z':=(⟨ab.Kind,ab.ai,imax ad.To U,ab.Up,ab.Kids,ab.Key⟩:aq)) (vs:=[V (imax ad.To U)]) (aZ:=[V ab.Kind,V ab.ai,V (imax ad.To U),V ab.Up,aV, .bool ab.Key]) aj (m:=0) rfl ag aG aX rfl rfl rfl (by kernel_rfl) rfl rfl rfl (show cV.dQ _ _ _ from rfl) (show cV.dQ _ _ _ from rfl) rfl) ?_
 rintro bh aY ⟨aA,aB⟩
 refine xn 0<|rg AE<|xq 2 [(11,V J),(10,v2),(0,v2),(2,V U),(6,V J)] ?_
 obtain ⟨aH,I⟩:=aJ I
 refine bT rfl trivial (bA rfl rfl (by kernel_rfl:slTy _ _=some (aa aq)) (aB.mW (i:=0) rfl (aA).raw (by omega)) aH.1 aH.2) ?_
 obtain ⟨aK,a2,I⟩:=ah I
 obtain ⟨bj,bl,a3,bm,a4,bn⟩:=aB.del (j:=0) rfl (aA).raw (i:=J) a2
 obtain rfl:=oD a3
 refine eg 1 3 (V aK.Up) a4<|xn 1 ?_
 exact ⟨az,Nat.lt_succ_self _,⟨_,ak.set J.toNat (⟨ab.Kind,ab.ai,imax ad.To U,ab.Up,ab.Kids,ab.Key⟩:aq),aK.Up,aY,an,I,aA,(by kernel_rfl),aB⟩⟩
 refine xn 0<|dF<|xt 0<|aO ?_
 obtain rfl:=si I
 exact ⟨_,ak,au,an,rfl,ag,(by kernel_rfl),aj⟩
def x3:List aN:=[u 5 (.box 27 (t 0)),u 10 (.alloc 27),u 11 (.assign (ci 0))]
def Cv:List bt:=[uP 52 (mv 3),uP 53 (fa 37 12 1),uL 54 (ld 3 53),uP 55 (bo .lss 3 52 54 3),uP 56 (mv 55),bK 56 57 (fa 37 12 4),gj 56 58 (ld 23 57),bK 56 59 (cb .len #[(t 58)] #[23]),bK 56 60 (bc .gtr 3 59 0 3),bK 56 61 (mv 60),aK 61 62 (mv 3),aK 61 63 (fa 27 5 0),cJ 61 64 (ld 25 63),aK 61 65 (fa 37 12 4),cJ 61 66 (ld 23 65),aK 61 67 (fa 37 12 4),cJ 61 68 (ld 23 67),aK 61 69 (cb .len #[(t 68)] #[23]),aK 61 70 (bc .sub 3 69 1 3),aK 61 71 (ia 23 66 70),cJ 61 72 (ld 3 71),aK 61 73 (ia 25 64 72),aK 61 74 (fa 37 73 2),cJ 61 75 (ld 3 74),aK 61 76 (bo .lss 3 62 75 3),bK 56 77 (pf 61 76),uP 78 (pt 56 77)]
def yI:List aN:=[u 84 (mv 13),u 85 (mv 2),u 86 (mv 3),u 87 (mv 4),u 88 (mv 1),u 89 (.build 37 #[(0,(t 85)),(1,(t 86)),(2,(t 87)),(3,(t 88))]),u 90 (.buildSlice 25 1 #[(0,(t 89))]),u 91 (cb .append #[(t 84),(t 90)] #[25,25]),u 13 (sg 91)]
def AO:List aN:=[u 92 (mv 13),u 93 (mv 1),u 94 (mv 13),u 95 (mv 1),u 96 (ia 25 94 95),u 97 (fa 37 96 4),u 98 (ld 23 97),u 99 (mv 14),u 100 (.buildSlice 23 1 #[(0,(t 99))]),u 101 (cb .append #[(t 98),(t 100)] #[23,23]),u 102 (ia 25 92 93),u 103 (fa 37 102 4),o (.store 23 (t 103) (t 101))]
def Co:List aN:=[u 108 (mv 13),u 109 (.build 27 #[(0,(t 108))]),u 110 (mv 14),o (.store 27 (t 10) (t 109)),u 11 (sg 110)]
def correctorref10_Add (F:Nat) (a0:cG) (a1:Int) (U:Int) (j:Int) (I:Int):Option (cG×Int):=
 if a1<(0:Int) then
  some (a0,(-1))
 else
  if (a0.ak.length:Int)≤a1 then
   some (a0,(-1))
  else
   if U<(1:Int) then
    some (a0,(-1))
   else
    if (11:Int)<U then
     some (a0,(-1))
    else
     if I<j then
      some (a0,(-1))
     else
      if 0≤(0:Int)∧(0:Int)<(a0.ak.length:Int) then
       (a0.ak[(0:Int).toNat]?).bind fun ae=>
       if ae.To<I then
        some (a0,(-1))
       else
        if 0≤a1∧a1<(a0.ak.length:Int) then
         (a0.ak[a1.toNat]?).bind fun aa=>
         ((if j<aa.ai then
           some (.inr (a0,(-1)))
          else
           if (0:Int)<(aa.Kids.length:Int) then
            if 0≤(af ((aa.Kids.length:Int) - 1))∧(af ((aa.Kids.length:Int) - 1))<(aa.Kids.length:Int) then
             (aa.Kids[(af ((aa.Kids.length:Int) - 1)).toNat]?).bind fun ad=>
             if 0≤ad∧ad<(a0.ak.length:Int) then
              (a0.ak[ad.toNat]?).bind fun ag=>
              if j<ag.To then
               some (.inr (a0,(-1)))
              else
               some (.inl ())
             else none
            else none
           else
            some (.inl ())):Option (Sum Unit (cG×Int))).bind fun o=>match o with
          | .inl ()=>(mb F a0).bind fun J=>
          if J.length+[(⟨U,j,I,a1,[],false⟩:aq)].length≤2199023255552 then
           if 0≤a1∧a1<((J++[(⟨U,j,I,a1,[],false⟩:aq)]).length:Int) then
            ((J++[(⟨U,j,I,a1,[],false⟩:aq)])[a1.toNat]?).bind fun ab=>
            if ab.Kids.length+([(J.length:Int)]:List Int).length≤17592186044416 then
             if 0≤a1∧a1<((J++[(⟨U,j,I,a1,[],false⟩:aq)]).length:Int) then
              (lV F ((J++[(⟨U,j,I,a1,[],false⟩:aq)]).set a1.toNat (⟨ab.Kind,ab.ai,ab.To,ab.Up,ab.Kids++([(J.length:Int)]:List Int),ab.Key⟩:aq)) a1 I).bind fun ah=>
              some ((⟨ah⟩:cG),(J.length:Int))
             else none
            else none
           else none
          else none
          | .inr y=>some y
        else none
      else none
theorem x7 (F:Nat) {h:AH} {Z:Zn} {a0:cG} {a1:Int} {aj:Int} {I:Int} {J:Int} {v2} (hP:Pre Z h []) (U:RS (α:=aq) Z v2 a0.ak) {r:cG×Int} (hm:correctorref10_Add F a0 a1 aj I J=some r):
  bQ Try.prog 78 [.agg #[v2],V a1,V aj,V I,V J] h Z [] fun v Z' A'=>∃ v4, .tuple #[.agg #[v4],V r.2]=v∧A'=[]∧RS (α:=aq) Z' v4 r.1.ak:=by
 refine b6 Try.func78 hP ?_
 intro hs hS
 unfold correctorref10_Add at hm
 replace hS:St hs [] Z (0,0) Z hs []:=hS
 refine sr x3<|g1 rfl trivial (gv (cs:=[v2]) rfl rfl) hS ?_
 intro au cT bU
 refine dK 0 [.slice none 0 0] bU ?_
 intro ax cX ao
 refine xn 1<|sq<|s0<|aP 1 hm ?_ ?_<;>intro c4 hm
 refine xn 29<|dT<|s0<|aB 0 1 (.agg #[v2]) ao rfl<|bG 0 0 (.agg #[v2]) [v2] [v2] ao rfl rfl (br (RS.c7 U) cm) ?_
 intro c8 a5
 refine xn 1<|rt<|⟨rfl,?_⟩
 obtain rfl:=si hm
 refine ⟨_,_,_,ResL.cell (v:= .agg #[v2]) (by kernel_rfl) a5 (i:=0) rfl (by kernel_rfl) (tk (V (-1)) (ResL.nil)),(a5.takeN 0),?_⟩
 exact ⟨v2,rfl,rfl,U⟩
 refine aB 3 1 v2 ao rfl<|bD 0 v2 (RS.len U)<|cC 0 hm ?_ ?_<;>intro c9 hm
 refine xn 23<|dT<|s0<|aB 0 1 (.agg #[v2]) ao rfl<|bG 0 0 (.agg #[v2]) [v2] [v2] ao rfl rfl (br (RS.c7 U) cm) ?_
 intro da a6
 refine xn 1<|rt<|⟨rfl,?_⟩
 obtain rfl:=si hm
 refine ⟨_,_,_,ResL.cell (v:= .agg #[v2]) (by kernel_rfl) a6 (i:=0) rfl (by kernel_rfl) (tk (V (-1)) (ResL.nil)),(a6.takeN 0),?_⟩
 exact ⟨v2,rfl,rfl,U⟩
 refine aP 3 hm ?_ ?_<;>intro db hm
 refine xn 19<|dT<|s0<|aB 0 1 (.agg #[v2]) ao rfl<|bG 0 0 (.agg #[v2]) [v2] [v2] ao rfl rfl (br (RS.c7 U) cm) ?_
 intro dc a7
 refine xn 1<|rt<|⟨rfl,?_⟩
 obtain rfl:=si hm
 refine ⟨_,_,_,ResL.cell (v:= .agg #[v2]) (by kernel_rfl) a7 (i:=0) rfl (by kernel_rfl) (tk (V (-1)) (ResL.nil)),(a7.takeN 0),?_⟩
 exact ⟨v2,rfl,rfl,U⟩
 refine cH 3 hm ?_ ?_<;>intro dd hm
 refine xn 15<|dT<|s0<|aB 0 1 (.agg #[v2]) ao rfl<|bG 0 0 (.agg #[v2]) [v2] [v2] ao rfl rfl (br (RS.c7 U) cm) ?_
 intro de a8
 refine xn 1<|rt<|⟨rfl,?_⟩
 obtain rfl:=si hm
 refine ⟨_,_,_,ResL.cell (v:= .agg #[v2]) (by kernel_rfl) a8 (i:=0) rfl (by kernel_rfl) (tk (V (-1)) (ResL.nil)),(a8.takeN 0),?_⟩
 exact ⟨v2,rfl,rfl,U⟩
 refine cH 4 hm ?_ ?_<;>intro df hm
 refine xn 10<|dT<|s0<|aB 0 1 (.agg #[v2]) ao rfl<|bG 0 0 (.agg #[v2]) [v2] [v2] ao rfl rfl (br (RS.c7 U) cm) ?_
 intro dg bb
 refine xn 1<|rt<|⟨rfl,?_⟩
 obtain rfl:=si hm
 refine ⟨_,_,_,ResL.cell (v:= .agg #[v2]) (by kernel_rfl) bb (i:=0) rfl (by kernel_rfl) (tk (V (-1)) (ResL.nil)),(bb.takeN 0),?_⟩
 exact ⟨v2,rfl,rfl,U⟩
 refine aB 4 1 v2 ao rfl<|a2 0 hm U ?_
 intro dh hm
 obtain ⟨bV,bW,hm⟩:=ah hm
 obtain ⟨di,bX,bY⟩:=RS.bR U (i:=0) bW
 obtain ⟨dj,dk,rfl⟩:=c6 bX
 refine eg 1 2 (V bV.To) (bY _ (ao.bM (aM.refl _)))<|cH 0 hm ?_ ?_<;>intro dm hm
 refine xn 1<|dT<|s0<|aB 0 1 (.agg #[v2]) ao rfl<|bG 0 0 (.agg #[v2]) [v2] [v2] ao rfl rfl (br (RS.c7 U) cm) ?_
 intro dn bc
 refine xn 1<|rt<|⟨rfl,?_⟩
 obtain rfl:=si hm
 refine ⟨_,_,_,ResL.cell (v:= .agg #[v2]) (by kernel_rfl) bc (i:=0) rfl (by kernel_rfl) (tk (V (-1)) (ResL.nil)),(bc.takeN 0),?_⟩
 exact ⟨v2,rfl,rfl,U⟩
 refine xn 1<|dF<|sk<|s0<|aB 1 1 v2 ao rfl<|a2 1 hm U ?_
 intro dp hm
 obtain ⟨an,bZ,hm⟩:=ah hm
 obtain ⟨dq,b0,b1⟩:=RS.bR U (i:=a1) bZ
 obtain ⟨ay,aE,rfl⟩:=c6 b0
 refine eg 0 0 (.agg #[V an.Kind,V an.ai,V an.To,V an.Up,ay, .bool an.Key]) (b1 _ (ao.bM (aM.refl _)))<|dK 0 [V 0,V 0,V 0,V 0, .slice none 0 0, .bool false] ao ?_
 intro av dr b2
 refine bG 0 0 (.agg #[V an.Kind,V an.ai,V an.To,V an.Up,ay, .bool an.Key]) [V an.Kind,V an.ai,V an.To,V an.Up,ay, .bool an.Key] (m7 ay an) b2 rfl rfl (br rfl (br rfl (br rfl (br rfl (br (RS.c7 aE) (br rfl cm)))))) ?_
 intro ds b3
 refine xn 0<|sq ?_
 obtain ⟨b4,ad,hm⟩:=ah hm
 refine aI [1,2,3,4,5,10] (fun l h=>∃ bd aA aw, .inl ()=b4∧l=[(1,V a1),(2,V aj),(3,V I),(4,V J),(5,Pt aA 0),(10,Pt aw 0)]∧St hs [] Z (0,0) bd h [.ae aA [v2], .ae aw [.slice none 0 0]]) ?_ ?_
 rintro l dt ⟨bd,aA,aw,rfl,rfl,aL⟩
 try dsimp only at hm
 refine s0<|aB 0 0 (.agg #[v2]) aL rfl ?_
 obtain ⟨ar,b5,hm⟩:=ah hm
 refine c0 0 aL (sG F aL.eJ (U.mono aL.ag) b5) ?_
 rintro _ dv aQ _ dw bf ⟨aG,bg,aR,rfl,rfl,bh⟩
 refine xn 1<|s0<|bD 1 aG (bf.kJ (i:=0) rfl (bh).raw)<|xn 1<|sr yI<|xq 6 [(89, .agg #[V aj,V I,V J,V a1, .slice none 0 0, .bool false]),(84,aG),(14,V (ar.length:Int)),(13,aG),(1,V a1),(4,V J),(10,Pt aw 0)]<|dP rfl trivial (c3 (cells:=[V aj,V I,V J,V a1, .slice none 0 0, .bool false]) (s:=6) (by kernel_rfl)) (by kernel_rfl) bf ?_
 intro bj dx b7
 have b8:=b7.pS.front 1 rfl
 have b9:RD (α:=aq) aQ [V aj,V I,V J,V a1, .slice none 0 0, .bool false] [(⟨aj,I,J,a1,[],false⟩:aq)] []:=RD.one (show cV.dQ _ _ _ from rfl) rfl hM.nil
 have ca:St _ _ _ _ _ _ [.gs bj [V aj,V I,V J,V a1, .slice none 0 0, .bool false] (aa aq), .bF [], .gs aG bg (aa aq), .bF aR, .ae aA [v2], .ae aw [.slice none 0 0]]:=b8
 obtain ⟨dy,hm⟩:=aJ hm
 have cb:St _ _ _ _ _ _ [.gs aG bg (aa aq), .bF aR, .gs bj [V aj,V I,V J,V a1, .slice none 0 0, .bool false] (aa aq), .bF [], .ae aA [v2], .ae aw [.slice none 0 0]]:=((((ca.front 1 rfl).front 1 rfl).front 3 rfl).front 3 rfl)
 refine eY rfl trivial (tG (bP:=64) cb bh b9 rfl rfl (by kernel_rfl) (by omega) (by omega)) ?_
 rintro ab bk dz ⟨bl,bm⟩
 refine xn 1<|sr AO<|xq 4 [(95,V a1),(94,ab),(93,V a1),(92,ab),(13,ab),(14,V (ar.length:Int)),(1,V a1),(4,V J),(10,Pt aw 0)] ?_
 obtain ⟨bn,hm⟩:=aJ hm
 refine bT rfl trivial (bA rfl rfl (by kernel_rfl:slTy _ _=some (aa aq)) (bm.mW (i:=0) rfl (bl).raw (by omega)) bn.1 bn.2)<|xq 1 [(97, .pointer (some (ba ab a1 (aa aq) 4))),(93,V a1),(92,ab),(13,ab),(14,V (ar.length:Int)),(1,V a1),(4,V J),(10,Pt aw 0)] ?_
 obtain ⟨aF,bo,hm⟩:=ah hm
 have cc:St _ _ _ _ _ _ [.gs ab bk (aa aq), .bF (aR++[]), .ae aA [v2], .ae aw [.slice none 0 0]]:=((bm.front 1 rfl).front 1 rfl)
 obtain ⟨bp,dA,cd,cf,bq,cg,aU,bw,ch⟩:=cc.xA bl (i:=a1) bo
 obtain rfl:=oD bq
 replace aU:RCs (α:=Int) aQ cd aF.Kids:=aU
 refine bT rfl trivial (bH (w:=bp) cg rfl (by kernel_rfl))<|xq 1 [(99,V (ar.length:Int)),(98,bp),(93,V a1),(92,ab),(13,ab),(14,V (ar.length:Int)),(1,V a1),(4,V J),(10,Pt aw 0)] ?_
 have cj:RCs (α:=Int) aQ [V (ar.length:Int)] ([(ar.length:Int)]:List Int):=RCs.cons (cs:=[V (ar.length:Int)]) rfl (RCs.bu _)
 refine dP rfl trivial (c3 (cells:=[V (ar.length:Int)]) (s:=1) (by kernel_rfl)) (by kernel_rfl) ch ?_
 intro aV dB bx
 obtain ⟨dC,hm⟩:=aJ hm
 refine eY rfl trivial (dM (ys:=([(ar.length:Int)]:List Int)) (bP:=8) bx (i:=1) rfl aU ((bx).eI (j:=0) rfl cj) rfl rfl (by kernel_rfl) (by omega) (by omega)) ?_
 rintro bz ck dD ⟨cl,bB⟩
 obtain ⟨bC,hm⟩:=aJ hm
 refine bT rfl trivial (bA rfl rfl (by kernel_rfl:slTy _ _=some (aa aq)) (bB.mW (i:=2) rfl (bw).raw (by omega)) bC.1 bC.2)<|xq 1 [(103, .pointer (some (ba ab a1 (aa aq) 4))),(101,bz),(13,ab),(14,V (ar.length:Int)),(1,V a1),(4,V J),(10,Pt aw 0)] ?_
 have cn:St _ _ _ _ _ _ [.gs bz ck (aa Int), .gs ab bk (aa aq), .bF cf, .gs aV [V (ar.length:Int)] (aa Int), .ae aA [v2], .ae aw [.slice none 0 0]]:=(((bB.front 3 rfl).front 3 rfl).front 3 rfl)
 refine Aa rfl trivial (y4 (z':=(⟨aF.Kind,aF.ai,aF.To,aF.Up,aF.Kids++([(ar.length:Int)]:List Int),aF.Key⟩:aq)) cn bw cl bo rfl rfl (by kernel_rfl) (by kernel_rfl) bq rfl (show cV.dQ _ _ _ from rfl) rfl) ?_
 rintro dH cp cq ⟨cr,cu⟩
 refine xn 0<|s0 ?_
 obtain ⟨dI,cv,hm⟩:=ah hm
 have cw:St _ _ _ _ _ _ ([.gs ab cp (aa aq), .bF cq]++[.gs aV [V (ar.length:Int)] (aa Int), .ae aA [v2], .ae aw [.slice none 0 0]]):=((cu.front 1 rfl).front 1 rfl)
 refine cB 3 cw (fun p=>ui F p cr cv) ?_
 rintro _ dJ dL _ dN aW ⟨cx,cz,rfl,rfl,cA⟩
 refine xn 0<|sr Co<|xq 1 [(108,ab),(14,V (ar.length:Int)),(10,Pt aw 0)]<|bT rfl trivial (jK (v:= .agg #[ab]) rfl (CA.cons (cs:=[ab]) (aW.fE (i:=0) rfl) (CA.bu)) (by kernel_rfl))<|bG 1 4 (.agg #[ab]) [ab] [ab] aW rfl rfl (br (aW.fF (i:=0) rfl) cm) ?_
 intro dO cD
 refine xn 1<|rt<|⟨rfl,?_⟩
 have cE:St _ _ _ _ _ _ [.gs ab cx (aa aq), .bF cz, .gs aV [V (ar.length:Int)] (aa Int), .ae aA [v2], .ae aw [ab]]:=((cD.front 1 rfl).front 1 rfl)
 obtain ⟨dR,dS,cF,cI⟩:=cE.shallow cA
 obtain ⟨dU,dV,cJ,bE⟩:=(cI.front 0 rfl).freeze cF
 obtain rfl:=si hm
 refine ⟨_,_,_,ResL.cell (v:= .agg #[ab]) (by kernel_rfl) bE (i:=2) rfl (by kernel_rfl) (tk (V (ar.length:Int)) (ResL.nil)),(bE.takeN 0),?_⟩
 exact ⟨ab,rfl,rfl,cJ⟩
 refine cU Cv b3 ?_
 intro aH dW aK az
 refine yq 2 [(53,Pt av 1),(52,V I),(12,Pt av 0),(10,Pt ax 0),(5,Pt au 0),(1,V a1),(2,V aj),(3,V I),(4,V J)] ?_
 have dX:av<aH:=aK.1 _ (List.mem_of_getElem? (i:=0) rfl) _ (by simp [Itm.ids])
 refine aX (v:=V an.ai) rfl trivial rfl (by show av<_;omega) (aC (v:=V an.ai) trivial) (az.aS (i:=0) rfl (by kernel_rfl)) trivial ?_
 rcases ifs ad with ⟨aZ,ad⟩ | ⟨aZ,ad⟩
 refine aD rfl trivial (a9 rfl rfl (l2 aZ))<|ye 23 [(78, .bool true),(10,Pt ax 0),(5,Pt au 0),(1,V a1),(2,V aj),(3,V I),(4,V J)] ?_
 have bI:=az.aY
 refine dT<|s0<|aB 0 2 (.agg #[v2]) bI rfl<|bG 0 1 (.agg #[v2]) [v2] [v2] bI rfl rfl (br (RS.c7 U) cm) ?_
 intro dY bJ
 refine xn 1<|rt<|⟨rfl,?_⟩
 obtain rfl:=si ad
 obtain rfl:=si hm
 refine ⟨_,_,_,ResL.cell (v:= .agg #[v2]) (by kernel_rfl) bJ (i:=1) rfl (by kernel_rfl) (tk (V (-1)) (ResL.nil)),(bJ.takeN 0),?_⟩
 exact ⟨v2,rfl,rfl,U⟩
 refine aD rfl trivial (a9 rfl rfl (lG aZ))<|yq 2 [(57,Pt av 4),(56, .bool false),(12,Pt av 0),(10,Pt ax 0),(5,Pt au 0),(1,V a1),(2,V aj),(3,V I),(4,V J)] ?_
 have dZ:av<aH:=aK.1 _ (List.mem_of_getElem? (i:=0) rfl) _ (by simp [Itm.ids])
 refine aX (v:=ay) rfl rfl rfl (by show av<_;omega) (aC (v:=ay) (RS.dG aE)) (az.aS (i:=0) rfl (by kernel_rfl)) trivial<|aD rfl rfl (gG rfl (RS.len aE) ⟨_,Try.underlying23⟩) ?_
 rcases ifs ad with ⟨a3,ad⟩ | ⟨a3,ad⟩
 refine aD rfl rfl (a9 rfl rfl (jG a3))<|yq 3 [(63,Pt au 0),(62,V I),(61, .bool true),(56, .bool false),(12,Pt av 0),(10,Pt ax 0),(5,Pt au 0),(1,V a1),(2,V aj),(3,V I),(4,V J)] ?_
 have ea:au<aH:=aK.1 _ (List.mem_of_getElem? (i:=2) rfl) _ (by simp [Itm.ids])
 refine aX (v:=v2) rfl rfl rfl (by show au<_;omega) (aC (v:=v2) (RS.dG U)) (az.aS (i:=2) rfl (by kernel_rfl)) trivial<|yq 1 [(65,Pt av 4),(64,v2),(62,V I),(61, .bool true),(56, .bool false),(12,Pt av 0),(10,Pt ax 0),(5,Pt au 0),(1,V a1),(2,V aj),(3,V I),(4,V J)] ?_
 have eb:av<aH:=aK.1 _ (List.mem_of_getElem? (i:=0) rfl) _ (by simp [Itm.ids])
 refine aX (v:=ay) rfl rfl rfl (by show av<_;omega) (aC (v:=ay) (RS.dG aE)) (az.aS (i:=0) rfl (by kernel_rfl)) trivial<|yq 1 [(67,Pt av 4),(66,ay),(64,v2),(62,V I),(61, .bool true),(56, .bool false),(10,Pt ax 0),(5,Pt au 0),(1,V a1),(2,V aj),(3,V I),(4,V J)] ?_
 have ec:av<aH:=aK.1 _ (List.mem_of_getElem? (i:=0) rfl) _ (by simp [Itm.ids])
 refine aX (v:=ay) rfl rfl rfl (by show av<_;omega) (aC (v:=ay) (RS.dG aE)) (az.aS (i:=0) rfl (by kernel_rfl)) trivial<|aD rfl rfl (gG rfl (RS.len aE) ⟨_,Try.underlying23⟩)<|yq 1 [(70,V (af ((an.Kids.length:Int) - 1))),(66,ay),(64,v2),(62,V I),(61, .bool true),(56, .bool false),(10,Pt ax 0),(5,Pt au 0),(1,V a1),(2,V aj),(3,V I),(4,V J)] ?_
 obtain ⟨bK,ad⟩:=aJ ad
 refine aD rfl rfl (bA rfl rfl (by kernel_rfl:slTy _ _=some (aa Int)) (RS.cQ aE (by omega)) bK.1 bK.2) ?_
 obtain ⟨aO,cK,ad⟩:=ah ad
 obtain ⟨ed,cL,cM⟩:=RS.bR aE (i:=af ((an.Kids.length:Int) - 1)) cK
 obtain rfl:=ji cL
 refine ct rfl rfl rfl (fun h2 hz=>bH (w:=V aO) (cM h2 hz) rfl (by kernel_rfl)) (az.bM (aM.refl _)) (aC (v:=V aO) trivial) trivial ?_
 obtain ⟨bL,ad⟩:=aJ ad
 refine aD rfl rfl (bA rfl rfl (by kernel_rfl:slTy _ _=some (aa aq)) (RS.cQ U (by omega)) bL.1 bL.2)<|yq 1 [(74, .pointer (some (ba v2 aO (aa aq) 2))),(62,V I),(61, .bool true),(56, .bool false),(10,Pt ax 0),(5,Pt au 0),(1,V a1),(2,V aj),(3,V I),(4,V J)] ?_
 obtain ⟨bN,cN,ad⟩:=ah ad
 obtain ⟨ee,cO,cP⟩:=RS.bR U (i:=aO) cN
 obtain ⟨eh,ei,rfl⟩:=c6 cO
 refine ct rfl rfl rfl (fun h2 hz=>bH (w:=V bN.To) (cP h2 hz) rfl (by kernel_rfl)) (az.bM (aM.refl _)) (aC (v:=V bN.To) trivial) trivial ?_
 rcases ifs ad with ⟨a4,ad⟩ | ⟨a4,ad⟩
 refine aD rfl rfl (a9 rfl rfl (l2 a4))<|ye 2 [(78, .bool true),(10,Pt ax 0),(5,Pt au 0),(1,V a1),(2,V aj),(3,V I),(4,V J)] ?_
 have bO:=az.aY
 refine dT<|s0<|aB 0 2 (.agg #[v2]) bO rfl<|bG 0 1 (.agg #[v2]) [v2] [v2] bO rfl rfl (br (RS.c7 U) cm) ?_
 intro ej bS
 refine xn 1<|rt<|⟨rfl,?_⟩
 obtain rfl:=si ad
 obtain rfl:=si hm
 refine ⟨_,_,_,ResL.cell (v:= .agg #[v2]) (by kernel_rfl) bS (i:=1) rfl (by kernel_rfl) (tk (V (-1)) (ResL.nil)),(bS.takeN 0),?_⟩
 exact ⟨v2,rfl,rfl,U⟩
 refine aD rfl rfl (a9 rfl rfl (lG a4))<|ye 2 [(78, .bool false),(10,Pt ax 0),(5,Pt au 0),(1,V a1),(2,V aj),(3,V I),(4,V J)] ?_
 have cR:=az.aY
 refine dF<|sk ?_
 obtain rfl:=si ad
 exact ⟨_,au,ax,rfl,(by kernel_rfl),(((cR.front 1 rfl).front 2 rfl).takeN 2)⟩
 refine aD rfl rfl (a9 rfl rfl (jD a3))<|ye 18 [(78, .bool false),(10,Pt ax 0),(5,Pt au 0),(1,V a1),(2,V aj),(3,V I),(4,V J)] ?_
 have cS:=az.aY
 refine dF<|sk ?_
 obtain rfl:=si ad
 exact ⟨_,au,ax,rfl,(by kernel_rfl),(((cS.front 1 rfl).front 2 rfl).takeN 2)⟩
def xy:List aN:=[u 3 (.box 27 (t 0)),u 6 (.alloc 27)]
def zi:List aN:=[u 33 (mv 7),u 34 (.build 27 #[(0,(t 33))]),o (.store 27 (t 6) (t 34))]
def h6 (F:Nat) (a0:cG) (a1:Int) (j:Int):Option cG:=
 if a1<(0:Int) then
  some a0
 else
  if (a0.ak.length:Int)≤a1 then
   some a0
  else
   if 0≤(0:Int)∧(0:Int)<(a0.ak.length:Int) then
    (a0.ak[(0:Int).toNat]?).bind fun I=>
    if I.To<j then
     some a0
    else
     (mb F a0).bind fun J=>
     (lV F J a1 j).bind fun U=>
     some (⟨U⟩:cG)
   else none
theorem rE (F:Nat) {h:AH} {Z:Zn} {a0:cG} {a1:Int} {ad:Int} {v2} (hP:Pre Z h []) (J:RS (α:=aq) Z v2 a0.ak) {r:cG} (hm:h6 F a0 a1 ad=some r):
  bQ Try.prog 69 [.agg #[v2],V a1,V ad] h Z [] fun v Z' A'=>∃ v4, .agg #[v4]=v∧A'=[]∧RS (α:=aq) Z' v4 r.ak:=by
 refine b6 Try.func69 hP ?_
 intro hs hS
 unfold h6 at hm
 replace hS:St hs [] Z (0,0) Z hs []:=hS
 refine sr xy<|g1 rfl trivial (gv (cs:=[v2]) rfl rfl) hS ?_
 intro af aQ ao
 refine dK 0 [.slice none 0 0] ao ?_
 intro U aR j
 refine xn 0<|sq<|s0<|aP 1 hm ?_ ?_<;>intro aS hm
 refine xn 16<|dT<|s0<|aB 0 1 (.agg #[v2]) j rfl<|bG 0 0 (.agg #[v2]) [v2] [v2] j rfl rfl (br (RS.c7 J) cm) ?_
 intro aU ag
 refine xn 0<|rt<|⟨rfl,?_⟩
 obtain rfl:=si hm
 refine ⟨_,_,_,ResL.cell (v:= .agg #[v2]) (by kernel_rfl) ag (i:=0) rfl (by kernel_rfl) (ResL.nil),(ag.takeN 0),?_⟩
 exact ⟨v2,rfl,rfl,J⟩
 refine aB 3 1 v2 j rfl<|bD 0 v2 (RS.len J)<|cC 0 hm ?_ ?_<;>intro aV hm
 refine xn 10<|dT<|s0<|aB 0 1 (.agg #[v2]) j rfl<|bG 0 0 (.agg #[v2]) [v2] [v2] j rfl rfl (br (RS.c7 J) cm) ?_
 intro aW ai
 refine xn 0<|rt<|⟨rfl,?_⟩
 obtain rfl:=si hm
 refine ⟨_,_,_,ResL.cell (v:= .agg #[v2]) (by kernel_rfl) ai (i:=0) rfl (by kernel_rfl) (ResL.nil),(ai.takeN 0),?_⟩
 exact ⟨v2,rfl,rfl,J⟩
 refine aB 4 1 v2 j rfl<|a2 0 hm J ?_
 intro aX hm
 obtain ⟨ar,au,hm⟩:=ah hm
 obtain ⟨aY,av,aw⟩:=RS.bR J (i:=0) au
 obtain ⟨aZ,a3,rfl⟩:=c6 av
 refine eg 1 2 (V ar.To) (aw _ (j.bM (aM.refl _)))<|cH 0 hm ?_ ?_<;>intro a4 hm
 refine xn 1<|dT<|s0<|aB 0 1 (.agg #[v2]) j rfl<|bG 0 0 (.agg #[v2]) [v2] [v2] j rfl rfl (br (RS.c7 J) cm) ?_
 intro a5 aj
 refine xn 0<|rt<|⟨rfl,?_⟩
 obtain rfl:=si hm
 refine ⟨_,_,_,ResL.cell (v:= .agg #[v2]) (by kernel_rfl) aj (i:=0) rfl (by kernel_rfl) (ResL.nil),(aj.takeN 0),?_⟩
 exact ⟨v2,rfl,rfl,J⟩
 refine xn 1<|dF<|sk<|s0<|aB 0 1 (.agg #[v2]) j rfl ?_
 obtain ⟨a6,ax,hm⟩:=ah hm
 refine c0 0 j (sG F j.eJ J ax) ?_
 rintro _ a7 a8 _ a9 ay ⟨I,az,aA,rfl,rfl,aC⟩
 refine xn 1<|s0 ?_
 obtain ⟨ba,aD,hm⟩:=ah hm
 have aE:St _ _ _ _ _ _ ([.gs I az (aa aq), .bF aA]++[.ae U [.slice none 0 0], .ae af [v2]]):=((ay.front 1 rfl).front 1 rfl)
 refine cB 3 aE (fun p=>ui F p aC aD) ?_
 rintro _ bb bc _ bd ab ⟨aF,aG,rfl,rfl,aH⟩
 refine xn 0<|sr zi<|xq 1 [(33,I),(6,Pt U 0)]<|bT rfl trivial (jK (v:= .agg #[I]) rfl (CA.cons (cs:=[I]) (ab.fE (i:=0) rfl) (CA.bu)) (by kernel_rfl))<|bG 0 2 (.agg #[I]) [I] [I] ab rfl rfl (br (ab.fF (i:=0) rfl) cm) ?_
 intro bf aI
 refine xn 0<|rt<|⟨rfl,?_⟩
 have aJ:St _ _ _ _ _ _ [.gs I aF (aa aq), .bF aG, .ae U [I], .ae af [v2]]:=((aI.front 1 rfl).front 1 rfl)
 obtain ⟨bg,bh,aK,aL⟩:=aJ.shallow aH
 obtain ⟨bj,bk,aO,an⟩:=(aL.front 0 rfl).freeze aK
 obtain rfl:=si hm
 refine ⟨_,_,_,ResL.cell (v:= .agg #[I]) (by kernel_rfl) an (i:=0) rfl (by kernel_rfl) (ResL.nil),(an.takeN 0),?_⟩
 exact ⟨I,rfl,rfl,aO⟩
def ze:List bt:=[uP 33 (mv 9),uP 34 (bc .leq 3 33 0 3),uP 35 (mv 34),bK 35 36 (mv 9),bK 35 37 (mv 0),bK 35 38 (cb .len #[(t 37)] #[25]),bK 35 39 (bo .geq 3 36 38 3),uP 40 (pt 35 39),uP 41 (mv 40),bK 41 42 (mv 0),bK 41 43 (mv 9),bK 41 44 (ia 25 42 43),bK 41 45 (fa 37 44 3),gj 41 46 (ld 3 45),bK 41 47 (mv 1),bK 41 48 (bo .neq 3 46 47 3),uP 49 (pt 41 48),uP 50 (mv 49),bK 50 51 (mv 0),bK 50 52 (mv 9),bK 50 53 (ia 25 51 52),bK 50 54 (fa 37 53 1),gj 50 55 (ld 3 54),bK 50 56 (mv 7),bK 50 57 (bo .lss 3 55 56 3),uP 58 (pt 50 57),uP 59 (mv 58),bK 59 60 (mv 0),bK 59 61 (mv 9),bK 59 62 (ia 25 60 61),bK 59 63 (fa 37 62 2),gj 59 64 (ld 3 63),bK 59 65 (mv 0),bK 59 66 (mv 1),bK 59 67 (ia 25 65 66),bK 59 68 (fa 37 67 2),gj 59 69 (ld 3 68),bK 59 70 (bo .gtr 3 64 69 3),uP 71 (pt 59 70),uP 72 (mv 71),bK 72 73 (mv 0),bK 72 74 (mv 9),bK 72 75 (ia 25 73 74),bK 72 76 (fa 37 75 1),gj 72 77 (ld 3 76),bK 72 78 (mv 0),bK 72 79 (mv 9),bK 72 80 (ia 25 78 79),bK 72 81 (fa 37 80 2),gj 72 82 (ld 3 81),bK 72 83 (bo .gtr 3 77 82 3),uP 84 (pt 72 83)]
def Dt:List aN:=[u 90 (mv 2),u 91 (mv 9),u 92 (ia 23 90 91),u 93 (ld 3 92),u 94 (bc .add 3 93 1 3),u 95 (ia 23 90 91),o (.store 3 (t 95) (t 94))]
def correctorref10_kids_l0 (F:Nat) (a0:List aq) (a1:Int) (aa:List Int):Nat→(List Int)→Int→Int→Option (Sum (List Int) (Bool×(List Int)))
 | 0,_,_,_=>none
 | n+1,I,ab,J=>
  if 0≤a1∧a1<(a0.length:Int) then
   (a0[a1.toNat]?).bind fun ad=>
   if J<(ad.Kids.length:Int) then
    if 0≤a1∧a1<(a0.length:Int) then
     (a0[a1.toNat]?).bind fun U=>
     if 0≤J∧J<(U.Kids.length:Int) then
      (U.Kids[J.toNat]?).bind fun j=>
      if j≤(0:Int) then
       some (.inr (false,I))
      else
       if (a0.length:Int)≤j then
        some (.inr (false,I))
       else
        if 0≤j∧j<(a0.length:Int) then
         (a0[j.toNat]?).bind fun ae=>
         if ae.Up=a1 then
          if 0≤j∧j<(a0.length:Int) then
           (a0[j.toNat]?).bind fun ag=>
           if ag.ai<ab then
            some (.inr (false,I))
           else
            if 0≤j∧j<(a0.length:Int) then
             (a0[j.toNat]?).bind fun ah=>
             if 0≤a1∧a1<(a0.length:Int) then
              (a0[a1.toNat]?).bind fun aj=>
              if aj.To<ah.To then
               some (.inr (false,I))
              else
               if 0≤j∧j<(a0.length:Int) then
                (a0[j.toNat]?).bind fun ak=>
                if 0≤j∧j<(a0.length:Int) then
                 (a0[j.toNat]?).bind fun an=>
                 if an.To<ak.ai then
                  some (.inr (false,I))
                 else
                  if 0≤j∧j<(a0.length:Int) then
                   (a0[j.toNat]?).bind fun ao=>
                   if 0≤j∧j<(I.length:Int) then
                    (I[j.toNat]?).bind fun ar=>
                    if 0≤j∧j<(I.length:Int) then
                     (I[j.toNat]?).bind fun au=>
                     correctorref10_kids_l0 F a0 a1 aa n (I.set j.toNat (af (ar+1))) ao.To (af (J+1))
                    else none
                   else none
                  else none
                else none
               else none
             else none
            else none
          else none
         else
          some (.inr (false,I))
        else none
     else none
    else none
   else
    some (.inl I)
  else none
def correctorref10_kids (F:Nat) (a0:List aq) (a1:Int) (j:List Int):Option (Bool×(List Int)):=
 if 0≤a1∧a1<(a0.length:Int) then
  (a0[a1.toNat]?).bind fun I=>
  ((correctorref10_kids_l0 F a0 a1 j F j I.ai 0):Option (Sum (List Int) (Bool×(List Int)))).bind fun o=>match o with
   | .inl J=>some (true,J)
   | .inr y=>some y
 else none
theorem vB (F:Nat) {h:AH} {Z:Zn} {a0:List aq} {a1:Int} {aw:List Int} {v2 v4 ar} (hP:Pre Z h [.gs v4 ar (aa Int)]) (ad:RS (α:=aq) Z v2 a0) (bn:RCs (α:=Int) Z ar aw) {r:Bool×(List Int)} (hm:correctorref10_kids F a0 a1 aw=some r):
  bQ Try.prog 32 [v2,V a1,v4] h Z [.gs v4 ar (aa Int)] fun v Z' A'=>∃ a4, .bool r.1=v∧A'=[.gs v4 a4 (aa Int)]∧RCs (α:=Int) Z' a4 r.2:=by
 refine b6 Try.func32 hP ?_
 intro hs hS
 unfold correctorref10_kids at hm
 refine sp 1<|s0<|a2 2 hm ad ?_
 intro ck hm
 obtain ⟨a5,bo,hm⟩:=ah hm
 obtain ⟨cl,bp,bq⟩:=RS.bR ad (i:=a1) bo
 obtain ⟨cm,cn,rfl⟩:=c6 bp
 refine eg 1 1 (V a5.ai) (bq _ (hS.bM (aM.refl _)))<|xn 1<|sq<|sp 1 ?_
 obtain ⟨aA,I,hm⟩:=ah hm
 refine aI [] (fun l h=>∃ aB aE ax, .inl aE=aA∧RCs (α:=Int) aB ax aE∧l=[]∧St hs (aR [.gs v4 ar (aa Int)]) Z (0,0) aB h [.gs v4 ax (aa Int)]) ?_ ?_
 rintro l cq ⟨aB,aE,ax,rfl,br,rfl,bu⟩
 try dsimp only at hm
 refine sp 1<|rt<|⟨rfl,?_⟩
 obtain rfl:=si hm
 refine ⟨_,_,_,tk (.bool true) (ResL.nil),bu,?_⟩
 exact ⟨ax,rfl,rfl,br⟩
 refine bk 0<|lp [0,1,2,7,8] (fun n l h=>∃ aF av ak U an,correctorref10_kids_l0 F a0 a1 aw n av ak U=some aA∧RCs (α:=Int) aF an av∧l=[(0,v2),(1,V a1),(2,v4),(7,V ak),(8,V U)]∧St hs (aR [.gs v4 ar (aa Int)]) Z (0,0) aF h [.gs v4 an (aa Int)]) F ⟨_,aw,a5.ai,0,ar,I,bn,(by kernel_rfl),hS⟩ ?_
 rintro aG l cr ⟨aF,av,ak,U,an,I,aj,rfl,ab⟩
 rcases aG with _ | aG
 cases (show none=some aA from I)
 rw [correctorref10_kids_l0] at I
 refine sq<|s0<|a2 3 I (ad.mono ab.ag) ?_
 intro cu I
 obtain ⟨cv,bw,I⟩:=ah I
 obtain ⟨cw,bx,bz⟩:=RS.bR (ad.mono ab.ag) (i:=a1) bw
 obtain ⟨a6,bB,rfl⟩:=c6 bx
 refine eg 1 4 a6 (bz _ (ab.bM (aM.refl _)))<|bD 0 a6 (RS.len bB)<|aP 0 I ?_ ?_<;>intro cx I
 refine xn 0<|dT<|sk<|sq<|bk 1<|s0<|a2 2 I (ad.mono ab.ag) ?_
 intro cz I
 obtain ⟨cA,bC,I⟩:=ah I
 obtain ⟨cB,bE,bF⟩:=RS.bR (ad.mono ab.ag) (i:=a1) bC
 obtain ⟨bG,a7,rfl⟩:=c6 bE
 refine eg 1 4 bG (bF _ (ab.bM (aM.refl _)))<|a2 1 I a7 ?_
 intro cC I
 refine bm 0 0 (fun J=>V J) I a7 ab ?_
 intro J cD I
 refine xn 1<|sq<|cU ze ab ?_
 intro cE cF cG ae
 refine yq 1 [(33,V J),(9,V J),(0,v2),(1,V a1),(2,v4),(7,V ak),(8,V U)] ?_
 rcases ifs I with ⟨aH,I⟩ | ⟨aH,I⟩
 refine aD rfl trivial (a9 rfl rfl (p9 aH))<|ye 50 [(84, .bool true),(9,V J),(0,v2),(1,V a1),(2,v4),(8,V U)] ?_
 have bI:=ae.aY
 refine dT<|sp 1<|rt<|a3<|a3<|⟨rfl,?_⟩
 obtain rfl:=si I
 obtain rfl:=si hm
 refine ⟨_,_,_,tk (.bool false) (ResL.nil),bI,?_⟩
 exact ⟨an,rfl,rfl,aj⟩
 refine aD rfl trivial (a9 rfl rfl (rq aH))<|yq 3 [(37,v2),(36,V J),(35, .bool false),(9,V J),(0,v2),(1,V a1),(2,v4),(7,V ak),(8,V U)]<|aD rfl rfl (gG rfl (RS.len (ad.mono ab.ag)) ⟨_,Try.underlying25⟩) ?_
 rcases ifs I with ⟨aK,I⟩ | ⟨aK,I⟩
 refine aD rfl rfl (a9 rfl rfl (il aK))<|ye 45 [(84, .bool true),(9,V J),(0,v2),(1,V a1),(2,v4),(8,V U)] ?_
 have bJ:=ae.aY
 refine dT<|sp 1<|rt<|a3<|a3<|⟨rfl,?_⟩
 obtain rfl:=si I
 obtain rfl:=si hm
 refine ⟨_,_,_,tk (.bool false) (ResL.nil),bJ,?_⟩
 exact ⟨an,rfl,rfl,aj⟩
 refine aD rfl rfl (a9 rfl rfl (ig aK))<|yq 4 [(43,V J),(42,v2),(41, .bool false),(9,V J),(0,v2),(1,V a1),(2,v4),(7,V ak),(8,V U)] ?_
 obtain ⟨a8,I⟩:=aJ I
 refine aD rfl rfl (bA rfl rfl (by kernel_rfl:slTy _ _=some (aa aq)) (RS.cQ (ad.mono ab.ag) (by omega)) a8.1 a8.2)<|yq 1 [(45, .pointer (some (ba v2 J (aa aq) 3))),(41, .bool false),(9,V J),(0,v2),(1,V a1),(2,v4),(7,V ak),(8,V U)] ?_
 obtain ⟨aL,bK,I⟩:=ah I
 obtain ⟨cH,bL,bN⟩:=RS.bR (ad.mono ab.ag) (i:=J) bK
 obtain ⟨cI,cJ,rfl⟩:=c6 bL
 refine ct rfl rfl rfl (fun h2 hz=>bH (w:=V aL.Up) (bN h2 hz) rfl (by kernel_rfl)) (ae.bM (aM.refl _)) (aC (v:=V aL.Up) trivial) trivial<|yq 1 [(47,V a1),(46,V aL.Up),(41, .bool false),(9,V J),(0,v2),(1,V a1),(2,v4),(7,V ak),(8,V U)] ?_
 rcases ifs I with ⟨aQ,I⟩ | ⟨aQ,I⟩
 refine aD rfl rfl (a9 rfl rfl (sV aQ))<|yq 4 [(52,V J),(51,v2),(50, .bool false),(9,V J),(0,v2),(1,V a1),(2,v4),(7,V ak),(8,V U)] ?_
 obtain ⟨bb,I⟩:=aJ I
 refine aD rfl rfl (bA rfl rfl (by kernel_rfl:slTy _ _=some (aa aq)) (RS.cQ (ad.mono ab.ag) (by omega)) bb.1 bb.2)<|yq 1 [(54, .pointer (some (ba v2 J (aa aq) 1))),(50, .bool false),(9,V J),(0,v2),(1,V a1),(2,v4),(7,V ak),(8,V U)] ?_
 obtain ⟨aS,bO,I⟩:=ah I
 obtain ⟨cK,bP,bS⟩:=RS.bR (ad.mono ab.ag) (i:=J) bO
 obtain ⟨cL,cM,rfl⟩:=c6 bP
 refine ct rfl rfl rfl (fun h2 hz=>bH (w:=V aS.ai) (bS h2 hz) rfl (by kernel_rfl)) (ae.bM (aM.refl _)) (aC (v:=V aS.ai) trivial) trivial<|yq 1 [(56,V ak),(55,V aS.ai),(50, .bool false),(9,V J),(0,v2),(1,V a1),(2,v4),(8,V U)] ?_
 rcases ifs I with ⟨aU,I⟩ | ⟨aU,I⟩
 refine aD rfl rfl (a9 rfl rfl (l2 aU))<|ye 27 [(84, .bool true),(9,V J),(0,v2),(1,V a1),(2,v4),(8,V U)] ?_
 have bT:=ae.aY
 refine dT<|sp 1<|rt<|a3<|a3<|⟨rfl,?_⟩
 obtain rfl:=si I
 obtain rfl:=si hm
 refine ⟨_,_,_,tk (.bool false) (ResL.nil),bT,?_⟩
 exact ⟨an,rfl,rfl,aj⟩
 refine aD rfl rfl (a9 rfl rfl (lG aU))<|yq 4 [(61,V J),(60,v2),(59, .bool false),(9,V J),(0,v2),(1,V a1),(2,v4),(8,V U)] ?_
 obtain ⟨bc,I⟩:=aJ I
 refine aD rfl rfl (bA rfl rfl (by kernel_rfl:slTy _ _=some (aa aq)) (RS.cQ (ad.mono ab.ag) (by omega)) bc.1 bc.2)<|yq 1 [(63, .pointer (some (ba v2 J (aa aq) 2))),(59, .bool false),(9,V J),(0,v2),(1,V a1),(2,v4),(8,V U)] ?_
 obtain ⟨ay,bU,I⟩:=ah I
 obtain ⟨cN,bV,bW⟩:=RS.bR (ad.mono ab.ag) (i:=J) bU
 obtain ⟨cO,cP,rfl⟩:=c6 bV
 refine ct rfl rfl rfl (fun h2 hz=>bH (w:=V ay.To) (bW h2 hz) rfl (by kernel_rfl)) (ae.bM (aM.refl _)) (aC (v:=V ay.To) trivial) trivial<|yq 2 [(66,V a1),(65,v2),(64,V ay.To),(59, .bool false),(9,V J),(0,v2),(1,V a1),(2,v4),(8,V U)] ?_
 obtain ⟨bd,I⟩:=aJ I
 refine aD rfl rfl (bA rfl rfl (by kernel_rfl:slTy _ _=some (aa aq)) (RS.cQ (ad.mono ab.ag) (by omega)) bd.1 bd.2)<|yq 1 [(68, .pointer (some (ba v2 a1 (aa aq) 2))),(64,V ay.To),(59, .bool false),(9,V J),(0,v2),(1,V a1),(2,v4),(8,V U)] ?_
 obtain ⟨bf,bX,I⟩:=ah I
 obtain ⟨cR,bY,bZ⟩:=RS.bR (ad.mono ab.ag) (i:=a1) bX
 obtain ⟨cS,cT,rfl⟩:=c6 bY
 refine ct rfl rfl rfl (fun h2 hz=>bH (w:=V bf.To) (bZ h2 hz) rfl (by kernel_rfl)) (ae.bM (aM.refl _)) (aC (v:=V bf.To) trivial) trivial ?_
 rcases ifs I with ⟨aV,I⟩ | ⟨aV,I⟩
 refine aD rfl rfl (a9 rfl rfl (jG aV))<|ye 14 [(84, .bool true),(9,V J),(0,v2),(1,V a1),(2,v4),(8,V U)] ?_
 have b0:=ae.aY
 refine dT<|sp 1<|rt<|a3<|a3<|⟨rfl,?_⟩
 obtain rfl:=si I
 obtain rfl:=si hm
 refine ⟨_,_,_,tk (.bool false) (ResL.nil),b0,?_⟩
 exact ⟨an,rfl,rfl,aj⟩
 refine aD rfl rfl (a9 rfl rfl (jD aV))<|yq 4 [(74,V J),(73,v2),(72, .bool false),(9,V J),(0,v2),(1,V a1),(2,v4),(8,V U)] ?_
 obtain ⟨bg,I⟩:=aJ I
 refine aD rfl rfl (bA rfl rfl (by kernel_rfl:slTy _ _=some (aa aq)) (RS.cQ (ad.mono ab.ag) (by omega)) bg.1 bg.2)<|yq 1 [(76, .pointer (some (ba v2 J (aa aq) 1))),(72, .bool false),(9,V J),(0,v2),(1,V a1),(2,v4),(8,V U)] ?_
 obtain ⟨az,b1,I⟩:=ah I
 obtain ⟨cX,b2,b3⟩:=RS.bR (ad.mono ab.ag) (i:=J) b1
 obtain ⟨c0,c3,rfl⟩:=c6 b2
 refine ct rfl rfl rfl (fun h2 hz=>bH (w:=V az.ai) (b3 h2 hz) rfl (by kernel_rfl)) (ae.bM (aM.refl _)) (aC (v:=V az.ai) trivial) trivial<|yq 2 [(79,V J),(78,v2),(77,V az.ai),(72, .bool false),(9,V J),(0,v2),(1,V a1),(2,v4),(8,V U)] ?_
 obtain ⟨bh,I⟩:=aJ I
 refine aD rfl rfl (bA rfl rfl (by kernel_rfl:slTy _ _=some (aa aq)) (RS.cQ (ad.mono ab.ag) (by omega)) bh.1 bh.2)<|yq 1 [(81, .pointer (some (ba v2 J (aa aq) 2))),(77,V az.ai),(72, .bool false),(9,V J),(0,v2),(1,V a1),(2,v4),(8,V U)] ?_
 obtain ⟨bj,b4,I⟩:=ah I
 obtain ⟨c4,b5,b7⟩:=RS.bR (ad.mono ab.ag) (i:=J) b4
 obtain ⟨c7,c8,rfl⟩:=c6 b5
 refine ct rfl rfl rfl (fun h2 hz=>bH (w:=V bj.To) (b7 h2 hz) rfl (by kernel_rfl)) (ae.bM (aM.refl _)) (aC (v:=V bj.To) trivial) trivial ?_
 rcases ifs I with ⟨aW,I⟩ | ⟨aW,I⟩
 refine aD rfl rfl (a9 rfl rfl (jG aW))<|ye 1 [(84, .bool true),(9,V J),(0,v2),(1,V a1),(2,v4),(8,V U)] ?_
 have b8:=ae.aY
 refine dT<|sp 1<|rt<|a3<|a3<|⟨rfl,?_⟩
 obtain rfl:=si I
 obtain rfl:=si hm
 refine ⟨_,_,_,tk (.bool false) (ResL.nil),b8,?_⟩
 exact ⟨an,rfl,rfl,aj⟩
 refine aD rfl rfl (a9 rfl rfl (jD aW))<|ye 1 [(84, .bool false),(9,V J),(0,v2),(1,V a1),(2,v4),(8,V U)] ?_
 have au:=ae.aY
 refine dF<|sk<|s0<|a2 2 I (ad.mono ab.ag) ?_
 intro c9 I
 obtain ⟨aX,b9,I⟩:=ah I
 obtain ⟨da,ca,cb⟩:=RS.bR (ad.mono ab.ag) (i:=J) b9
 obtain ⟨db,dc,rfl⟩:=c6 ca
 refine eg 1 2 (V aX.To) (cb _ (au.bM (aM.refl _)))<|xn 1<|rg Dt<|dv 2 0 I au aj rfl ?_
 intro dd I
 refine eh 0 0 0 (fun ao=>V ao) I au aj rfl ?_
 intro ao de I
 refine xq 1 [(94,V (af (ao+1))),(91,V J),(90,v4),(7,V aX.To),(0,v2),(1,V a1),(2,v4),(8,V U)]<|dv 0 0 I au aj rfl ?_
 intro df I
 obtain ⟨dg,bl,I⟩:=ah I
 obtain ⟨dh,cc,di,cd⟩:=au.cp (j:=0) rfl aj (i:=J) bl
 obtain rfl:=ji cc
 refine jC rfl trivial (gi (u':=af (ao+1)) (vs:=[V (af (ao+1))]) (aZ:=[V (af (ao+1))]) au (m:=0) rfl aj bl cd rfl rfl rfl (by kernel_rfl) rfl rfl rfl rfl) ?_
 rintro dj cf ⟨cg,ch⟩
 refine xn 0<|gp 3 ?_
 exact ⟨aG,Nat.lt_succ_self _,⟨_,av.set J.toNat (af (ao+1)),aX.To,af (U+1),cf,I,cg,(by kernel_rfl),ch⟩⟩
 refine aD rfl rfl (a9 rfl rfl (uX aQ))<|ye 36 [(84, .bool true),(9,V J),(0,v2),(1,V a1),(2,v4),(8,V U)] ?_
 have cj:=ae.aY
 refine dT<|sp 1<|rt<|a3<|a3<|⟨rfl,?_⟩
 obtain rfl:=si I
 obtain rfl:=si hm
 refine ⟨_,_,_,tk (.bool false) (ResL.nil),cj,?_⟩
 exact ⟨an,rfl,rfl,aj⟩
 refine xn 0<|dF<|xt 0<|aO ?_
 obtain rfl:=si I
 exact ⟨_,av,an,rfl,aj,(by kernel_rfl),ab⟩
def wv:List aN:=[u 2 (.box 27 (t 0)),u 4 (.assign (.const (.bool false)))]
def yc:List aN:=[u 47 (mv 5),u 48 (cb .len #[(t 47)] #[25]),u 49 (.makeSlice 23 (t 48) (t 48)),u 6 (sg 49)]
def correctorref10_Check_l0 (F:Nat) (a0:cG) (a1:Int):Nat→(List Int)→Int→Option (Sum (List Int) Bool)
 | 0,_,_=>none
 | n+1,I,j=>
  if j<(a0.ak.length:Int) then
   ((if (0:Int)<j then
     if 0≤j∧j<(a0.ak.length:Int) then
      (a0.ak[j.toNat]?).bind fun aa=>
      if aa.Up<(0:Int) then
       some (.inr false)
      else
       if 0≤j∧j<(a0.ak.length:Int) then
        (a0.ak[j.toNat]?).bind fun ab=>
        if j≤ab.Up then
         some (.inr false)
        else
         (correctorref10_kids F a0.ak j I).bind fun J=>
         if J.1=true then
          some (.inl J.2)
         else
          some (.inr false)
       else none
     else none
    else
     (correctorref10_kids F a0.ak j I).bind fun U=>
     if U.1=true then
      some (.inl U.2)
     else
      some (.inr false)):Option (Sum (List Int) Bool)).bind fun o=>match o with
    | .inl ad=>correctorref10_Check_l0 F a0 a1 n ad (af (j+1))
    | .inr y=>some (.inr y)
  else
   some (.inl I)
def lO (F:Nat) (a0:cG) (a1:Int):Nat→(List Int)→Int→Option (Sum Unit Bool)
 | 0,_,_=>none
 | n+1,I,j=>
  if j<(a0.ak.length:Int) then
   if 0≤j∧j<(I.length:Int) then
    (I[j.toNat]?).bind fun J=>
    if J=(1:Int) then
     lO F a0 a1 n I (af (j+1))
    else
     some (.inr false)
   else none
  else
   some (.inl ())
def correctorref10_Check (F:Nat) (a0:cG) (a1:Int):Option Bool:=
 if (a0.ak.length:Int)=(0:Int) then
  some false
 else
  if 0≤(0:Int)∧(0:Int)<(a0.ak.length:Int) then
   (a0.ak[(0:Int).toNat]?).bind fun j=>
   if j.Kind=(1:Int) then
    if 0≤(0:Int)∧(0:Int)<(a0.ak.length:Int) then
     (a0.ak[(0:Int).toNat]?).bind fun I=>
     if I.ai=(0:Int) then
      if 0≤(0:Int)∧(0:Int)<(a0.ak.length:Int) then
       (a0.ak[(0:Int).toNat]?).bind fun J=>
       if J.To=a1 then
        if 0≤(0:Int)∧(0:Int)<(a0.ak.length:Int) then
         (a0.ak[(0:Int).toNat]?).bind fun U=>
         if U.Up=(-1:Int) then
          if a1<(0:Int) then
           some false
          else
           if 0≤(a0.ak.length:Int)∧(a0.ak.length:Int)≤17592186044416 then
            ((correctorref10_Check_l0 F a0 a1 F (List.replicate (a0.ak.length:Int).toNat 0) 0):Option (Sum (List Int) Bool)).bind fun o=>match o with
             | .inl aa=>((lO F a0 a1 F aa 1):Option (Sum Unit Bool)).bind fun o=>match o with
              | .inl ()=>some true
              | .inr y=>some y
             | .inr y=>some y
           else none
         else
          some false
        else none
       else
        some false
      else none
     else
      some false
    else none
   else
    some false
  else none
theorem yA (F:Nat) {h:AH} {Z:Zn} {a0:cG} {a1:Int} {v2} (hI:Inv Z h) (I:RS (α:=aq) Z v2 a0.ak) {r:Bool} (hm:correctorref10_Check F a0 a1=some r):
  b3 Try.prog 14 [.agg #[v2],V a1] h Z (.bool r):=by
 refine b4 Try.func14 hI ?_
 intro hs hS
 unfold correctorref10_Check at hm
 refine sr wv<|g1 rfl trivial (gv (cs:=[v2]) rfl rfl) hS ?_
 intro bX bY ad
 refine xn 1<|s0<|aB 1 0 v2 ad rfl<|xn 1<|sq<|s0<|bD 1 v2 (RS.len I)<|aG 0 hm ?_ ?_<;>intro bZ hm
 refine xn 33<|dT<|sp 1<|rt<|⟨rfl,?_⟩
 obtain rfl:=si hm
 refine ⟨_,_,_,tk (.bool false) (ResL.nil),ad,?_⟩
 exact rfl
 refine a2 2 hm I ?_
 intro b0 hm
 obtain ⟨a5,a6,hm⟩:=ah hm
 obtain ⟨b1,a7,a8⟩:=RS.bR I (i:=0) a6
 obtain ⟨b2,b5,rfl⟩:=c6 a7
 refine eg 1 0 (V a5.Kind) (a8 _ (ad.bM (aM.refl _)))<|cS 0 hm ?_ ?_<;>intro b6 hm
 refine a2 3 hm I ?_
 intro b7 hm
 obtain ⟨a9,ba,hm⟩:=ah hm
 obtain ⟨b8,bb,bc⟩:=RS.bR I (i:=0) ba
 obtain ⟨b9,ca,rfl⟩:=c6 bb
 refine eg 1 1 (V a9.ai) (bc _ (ad.bM (aM.refl _)))<|cS 0 hm ?_ ?_<;>intro cb hm
 refine a2 3 hm I ?_
 intro cc hm
 obtain ⟨bd,bf,hm⟩:=ah hm
 obtain ⟨cd,bg,bh⟩:=RS.bR I (i:=0) bf
 obtain ⟨cf,cg,rfl⟩:=c6 bg
 refine eg 1 2 (V bd.To) (bh _ (ad.bM (aM.refl _)))<|cS 1 hm ?_ ?_<;>intro ch hm
 refine a2 3 hm I ?_
 intro cj hm
 obtain ⟨bj,bl,hm⟩:=ah hm
 obtain ⟨ck,bm,bn⟩:=RS.bR I (i:=0) bl
 obtain ⟨cl,cm,rfl⟩:=c6 bm
 refine eg 1 3 (V bj.Up) (bn _ (ad.bM (aM.refl _)))<|cS 0 hm ?_ ?_<;>intro cn hm
 refine aP 3 hm ?_ ?_<;>intro cp hm
 refine xn 1<|dT<|sp 1<|rt<|⟨rfl,?_⟩
 obtain rfl:=si hm
 refine ⟨_,_,_,tk (.bool false) (ResL.nil),ad,?_⟩
 exact rfl
 refine xn 1<|dF<|sk<|sr yc<|xq 1 [(47,v2),(5,v2)]<|bD 0 v2 (RS.len I) ?_
 obtain ⟨bo,hm⟩:=aJ hm
 refine p4 rfl trivial (pM (α:=Int) (Z:=Z) (x0:=0) (n:=(a0.ak.length:Int)) (bP:=8) rfl rfl (by kernel_rfl) rfl bo.1 (by omega) (by omega)) ad ?_
 intro bp bq cq br bu
 refine xn 1<|sq<|sp 1 ?_
 obtain ⟨aF,J,hm⟩:=ah hm
 refine aI [5,6] (fun l h=>∃ aH ao ar au, .inl ao=aF∧RCs (α:=Int) aH au ao∧l=[(5,v2),(6,ar)]∧St hs [] Z (0,0) aH h [.gs ar au (aa Int)]) ?_ ?_
 rintro l cr ⟨aH,ao,ar,au,rfl,bw,rfl,bx⟩
 try dsimp only at hm
 refine sq<|sp 1 ?_
 obtain ⟨aK,U,hm⟩:=ah hm
 refine aI [] (fun l h=>∃ aX, .inl ()=aK∧l=[]∧St hs [] Z (0,0) aX h []) ?_ ?_
 rintro l ct ⟨aX,rfl,rfl,bz⟩
 try dsimp only at hm
 refine sp 1<|rt<|⟨rfl,?_⟩
 obtain rfl:=si hm
 refine ⟨_,_,_,tk (.bool true) (ResL.nil),bz,?_⟩
 exact rfl
 refine bk 2<|lp [5,6,8] (fun n l h=>∃ aL av aw ax ay,lO F a0 a1 n av aw=some aK∧RCs (α:=Int) aL ay av∧l=[(5,v2),(6,ax),(8,V aw)]∧St hs [] Z (0,0) aL h [.gs ax ay (aa Int)]) F ⟨_,ao,1,ar,au,U,bw,(by kernel_rfl),bx⟩ ?_
 rintro aQ l cu ⟨aL,av,aw,ax,ay,U,aR,rfl,aj⟩
 rcases aQ with _ | aQ
 cases (show none=some aK from U)
 rw [lO] at U
 refine sq<|s0<|bD 2 v2 (RS.len (I.mono aj.ag))<|aP 0 U ?_ ?_<;>intro cv U
 refine xn 0<|dT<|sk<|sq<|bk 3<|s0<|dv 2 0 U aj aR rfl ?_
 intro cw U
 refine eh 0 0 0 (fun aY=>V aY) U aj aR rfl ?_
 intro aY cx U
 refine cS 0 U ?_ ?_<;>intro cz U
 refine xn 0<|dF<|sk<|gp 3 ?_
 exact ⟨aQ,Nat.lt_succ_self _,⟨_,av,af (aw+1),ax,ay,U,aR,(by kernel_rfl),aj⟩⟩
 refine xn 0<|dT<|sp 1<|rt<|a3<|a3<|⟨rfl,?_⟩
 obtain rfl:=si U
 obtain rfl:=si hm
 refine ⟨_,_,_,tk (.bool false) (ResL.nil),aj,?_⟩
 exact rfl
 refine xn 0<|dF<|xt 2<|aO ?_
 obtain rfl:=si U
 exact ⟨_,rfl,(by kernel_rfl),(aj.takeN 0)⟩
 refine bk 0<|lp [5,6,7] (fun n l h=>∃ aS az ae an aA,correctorref10_Check_l0 F a0 a1 n az ae=some aF∧RCs (α:=Int) aS aA az∧l=[(5,v2),(6,an),(7,V ae)]∧St hs [] Z (0,0) aS h [.gs an aA (aa Int)]) F ⟨_,List.replicate (a0.ak.length:Int).toNat 0,0,bp,bq,J,br,(by kernel_rfl),(bu.takeN 1)⟩ ?_
 rintro aU l cB ⟨aS,az,ae,an,aA,J,aV,rfl,ab⟩
 rcases aU with _ | aU
 cases (show none=some aF from J)
 rw [correctorref10_Check_l0] at J
 refine sq<|s0<|bD 2 v2 (RS.len (I.mono ab.ag))<|aP 0 J ?_ ?_<;>intro cD J
 refine xn 0<|dT<|sk<|sq<|bk 1 ?_
 obtain ⟨bA,j,J⟩:=ah J
 refine eo [5,6,7] (fun l h=>∃ aW aC aD aE, .inl aC=bA∧RCs (α:=Int) aW aE aC∧l=[(5,v2),(6,aD),(7,V ae)]∧St hs [] Z (0,0) aW h [.gs aD aE (aa Int)]) (by kernel_rfl) ?_ ?_
 rintro l cE ⟨aW,aC,aD,aE,rfl,bB,rfl,bC⟩
 try dsimp only at J
 refine gp 3 ?_
 exact ⟨aU,Nat.lt_succ_self _,⟨_,aC,af (ae+1),aD,aE,J,bB,(by kernel_rfl),bC⟩⟩
 refine g0<|cH 1 j ?_ ?_<;>intro cF j
 refine a2 3 j (I.mono ab.ag) ?_
 intro cI j
 obtain ⟨bE,bF,j⟩:=ah j
 obtain ⟨cJ,bG,bH⟩:=RS.bR (I.mono ab.ag) (i:=ae) bF
 obtain ⟨cK,cL,rfl⟩:=c6 bG
 refine eg 1 3 (V bE.Up) (bH _ (ab.bM (aM.refl _)))<|aP 0 j ?_ ?_<;>intro cM j
 refine xn 17<|dT<|sp 1<|rt<|a3<|a3<|⟨rfl,?_⟩
 obtain rfl:=si j
 obtain rfl:=si J
 obtain rfl:=si hm
 refine ⟨_,_,_,tk (.bool false) (ResL.nil),ab,?_⟩
 exact rfl
 refine a2 3 j (I.mono ab.ag) ?_
 intro cN j
 obtain ⟨bI,bJ,j⟩:=ah j
 obtain ⟨cO,bK,bL⟩:=RS.bR (I.mono ab.ag) (i:=ae) bJ
 obtain ⟨cP,cQ,rfl⟩:=c6 bK
 refine eg 1 3 (V bI.Up) (bL _ (ab.bM (aM.refl _)))<|cC 1 j ?_ ?_<;>intro cR j
 refine xn 9<|dT<|sp 1<|rt<|a3<|a3<|⟨rfl,?_⟩
 obtain rfl:=si j
 obtain rfl:=si J
 obtain rfl:=si hm
 refine ⟨_,_,_,tk (.bool false) (ResL.nil),ab,?_⟩
 exact rfl
 obtain ⟨bN,bO,j⟩:=ah j
 refine cA 6 ab (fun p=>vB F p (I.mono ab.ag) aV bO) ?_
 rintro _ cT cU _ cX aZ ⟨bQ,rfl,rfl,bS⟩
 refine kb 0 79 j ?_ ?_<;>intro c0 j
 refine xn 2<|dF<|sk ?_
 obtain rfl:=si j
 exact ⟨_,bN.2,an,bQ,rfl,bS,(by kernel_rfl),aZ⟩
 refine xn 2<|dT<|sp 1<|rt<|a3<|a3<|⟨rfl,?_⟩
 obtain rfl:=si j
 obtain rfl:=si J
 obtain rfl:=si hm
 refine ⟨_,_,_,tk (.bool false) (ResL.nil),aZ,?_⟩
 exact rfl
 obtain ⟨bT,bU,j⟩:=ah j
 refine cA 21 ab (fun p=>vB F p (I.mono ab.ag) aV bU) ?_
 rintro _ c3 c4 _ c7 a4 ⟨bV,rfl,rfl,bW⟩
 refine kb 0 79 j ?_ ?_<;>intro c8 j
 refine xn 2<|dF<|sk ?_
 obtain rfl:=si j
 exact ⟨_,bT.2,an,bV,rfl,bW,(by kernel_rfl),a4⟩
 refine xn 2<|dT<|sp 1<|rt<|a3<|a3<|⟨rfl,?_⟩
 obtain rfl:=si j
 obtain rfl:=si J
 obtain rfl:=si hm
 refine ⟨_,_,_,tk (.bool false) (ResL.nil),a4,?_⟩
 exact rfl
 refine xn 0<|dF<|xt 0<|aO ?_
 obtain rfl:=si J
 exact ⟨_,az,an,aA,rfl,aV,(by kernel_rfl),ab⟩
 refine xn 5<|dT<|sp 1<|rt<|⟨rfl,?_⟩
 obtain rfl:=si hm
 refine ⟨_,_,_,tk (.bool false) (ResL.nil),ad,?_⟩
 exact rfl
 refine xn 12<|dT<|sp 1<|rt<|⟨rfl,?_⟩
 obtain rfl:=si hm
 refine ⟨_,_,_,tk (.bool false) (ResL.nil),ad,?_⟩
 exact rfl
 refine xn 20<|dT<|sp 1<|rt<|⟨rfl,?_⟩
 obtain rfl:=si hm
 refine ⟨_,_,_,tk (.bool false) (ResL.nil),ad,?_⟩
 exact rfl
 refine xn 27<|dT<|sp 1<|rt<|⟨rfl,?_⟩
 obtain rfl:=si hm
 refine ⟨_,_,_,tk (.bool false) (ResL.nil),ad,?_⟩
 exact rfl
end Go.Proofs.Ytcilejikekccmaa.M
