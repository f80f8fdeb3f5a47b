/- Packed by a program of this session (mini.py). -/
import Derived.Test.YtcilejikekccmaaWi1
set_option linter.unusedVariables false
set_option linter.unusedSimpArgs false
set_option maxRecDepth 20000
namespace Go.Proofs.Ytcilejikekccmaa.M
open Go Am Sy
open Sy.Cell (rc)
structure ak where
 Kind:Int
 ah:Int
 To:Int
 deriving DecidableEq,Inhabited
instance:Cell ak where
 size:=3
 rc Z cs x:=cs=[V x.Kind,V x.ah,V x.To]
 len h:=by rw [h];rfl
 mono _ h:=h
 one h:=by rw [h];rfl
 pos:=by decide
theorem ey {Z:Zn} {cs:List Value} {x:ak} (h:rc Z cs x):cs=[V x.Kind,V x.ah,V x.To]:=h
abbrev ya (x:ak):List Value:=[V x.Kind,V x.ah,V x.To]
instance:FC ak:=⟨ya,fun q=>q⟩
structure aF where
 B:List UInt8
 At:Int
 Row:Int
 Open:Int
 bU:Int
 cj:Bool
 Text:Int
 L:List ak
 deriving DecidableEq,Inhabited
instance:Cell aF where
 size:=8
 rc Z cs x:=∃ v0,RS (α:=UInt8) Z v0 x.B∧∃ j,RS (α:=ak) Z j x.L∧cs=[v0,V x.At,V x.Row,V x.Open,V x.bU, .bool x.cj,V x.Text,j]
 len h:=by obtain ⟨v0,I,j,J,h⟩:=h;rw [h];rfl
 mono hz h:=by obtain ⟨v0,I,j,J,h⟩:=h;exact ⟨v0,I.mono hz,j,J.mono hz,h⟩
 one h:=by obtain ⟨v0,I,j,J,h⟩:=h;subst h;exact (bt I.cY (bt rfl (bt rfl (bt rfl (bt rfl (bt rfl (bt rfl (bt J.cY cp))))))))
 pos:=by decide
abbrev ba (v0 v1:Value) (x:aF):List Value:=[v0,V x.At,V x.Row,V x.Open,V x.bU, .bool x.cj,V x.Text,v1]
def nF (F:Nat) (a0:aF):Option aF:=
 some (⟨a0.B,a0.At,a0.At,a0.Open,(-1),true,a0.Text,a0.L⟩:aF)
theorem q0 (F:Nat) {h:AH} {Z:Zn} {a0:aF} {J I j U} (hP:Pre Z h [.ae J (ba I j a0), .gs j U (aa ak)]) (af:RS (α:=UInt8) Z I a0.B) (ag:RCs (α:=ak) Z U a0.L) {r:aF} (hm:nF F a0=some r):
  bQ Try.prog 35 [Pt J 0] h Z [.ae J (ba I j a0), .gs j U (aa ak)] fun v Z' A'=>∃ ab ad, .tuple #[]=v∧A'=[.ae J (ba ab j r), .gs j ad (aa ak)]∧RS (α:=UInt8) Z' ab r.B∧RCs (α:=ak) Z' ad r.L:=by
 refine b5 Try.func35 hP ?_
 intro hs hS
 unfold nF at hm
 refine g0<|aB 6 0 (V a0.At) hS rfl<|bA 2 0 (V a0.At) [V a0.At] [I,V a0.At,V a0.At,V a0.Open,V a0.bU, .bool a0.cj,V a0.Text,j] hS rfl rfl rfl ?_
 intro al ah
 refine bA 2 0 (V (-1)) [V (-1)] [I,V a0.At,V a0.At,V a0.Open,V (-1), .bool a0.cj,V a0.Text,j] ah rfl rfl rfl ?_
 intro an ai
 refine bA 2 0 (.bool true) [.bool true] [I,V a0.At,V a0.At,V a0.Open,V (-1), .bool true,V a0.Text,j] ai rfl rfl rfl ?_
 intro ao aj
 refine xn 0 ?_
 obtain rfl:=si hm
 refine ⟨_,_,_,ResL.nil,aj,?_⟩
 exact ⟨I,U,rfl,rfl,af,ag⟩
def iq (F:Nat) (a0:aF) (a1:Int):Option Int:=
 if a1<(0:Int) then
  some 0
 else
  if (a0.B.length:Int)≤a1 then
   some 0
  else
   if 0≤a1∧a1<(a0.B.length:Int) then
    (a0.B[a1.toNat]?).bind fun j=>
    some (j.toNat:Int)
   else none
theorem mN (F:Nat) {h:AH} {Z:Zn} {a0:aF} {a1:Int} {U j aa} (hI:Inv Z h) (I:RS (α:=UInt8) Z j a0.B) (ad:RS (α:=ak) Z aa a0.L) (ab:Z U=some (ba j aa a0)) {r:Int} (hm:iq F a0 a1=some r):
  bV Try.prog 54 [Pt U 0,V a1] h Z (.int .u8 (r.toNat:Int)):=by
 refine bW Try.func54 hI ?_
 intro hs hS
 unfold iq at hm
 refine sp 1<|sq<|s0<|aP 1 hm ?_ ?_<;>intro ae hm
 refine xn 9<|dT<|sp 1<|rt<|⟨rfl,?_⟩
 obtain rfl:=si hm
 refine ⟨_,_,_,tk (.int .u8 0) (ResL.nil),hS,?_⟩
 exact rfl
 refine bu 5 j hS ab<|bG 0 j (RS.len I)<|ct 0 hm ?_ ?_<;>intro af hm
 refine xn 1<|dT<|sp 1<|rt<|⟨rfl,?_⟩
 obtain rfl:=si hm
 refine ⟨_,_,_,tk (.int .u8 0) (ResL.nil),hS,?_⟩
 exact rfl
 refine xn 1<|dF<|sk<|s0<|bu 3 j hS ab<|a6 1 hm I ?_
 intro ag hm
 refine bh 0 0 (fun J=> .int .u8 (J.toNat:Int)) hm I hS ?_
 intro J ah hm
 refine xn 1<|rt<|⟨rfl,?_⟩
 obtain rfl:=si hm
 refine ⟨_,_,_,tk (.int .u8 (J.toNat:Int)) (ResL.nil),hS,?_⟩
 exact rfl
def gu (F:Nat) (a0:Int):Option Bool:=
 if a0=(32:Int) then
  some true
 else
  if a0=(9:Int) then
   some true
  else
   some false
theorem j6 (F:Nat) {h:AH} {Z:Zn} {a0:Int} (hI:Inv Z h) {r:Bool} (hm:gu F a0=some r):
  bV Try.prog 58 [.int .u8 a0] h Z (.bool r):=by
 refine bW Try.func58 hI ?_
 intro hs hS
 unfold gu at hm
 refine sp 1<|s0<|aE 1 hm ?_ ?_ (kd:= .u8)<;>intro j hm
 refine xn 5<|rt<|⟨rfl,?_⟩
 obtain rfl:=si hm
 refine ⟨_,_,_,tk (.bool true) (ResL.nil),hS,?_⟩
 exact rfl
 refine aE 2 hm ?_ ?_ (kd:= .u8)<;>intro I hm
 refine xn 2<|rt<|⟨rfl,?_⟩
 obtain rfl:=si hm
 refine ⟨_,_,_,tk (.bool true) (ResL.nil),hS,?_⟩
 exact rfl
 refine xn 2<|rt<|⟨rfl,?_⟩
 obtain rfl:=si hm
 refine ⟨_,_,_,tk (.bool false) (ResL.nil),hS,?_⟩
 exact rfl
def correctorref2_Break (F:Nat) (a0:List UInt8) (a1:Int):Option Int:=
 if (a0.length:Int)≤a1 then
  some 0
 else
  ((if 0≤a1∧a1<(a0.length:Int) then
    (a0[a1.toNat]?).bind fun j=>
    if (j.toNat:Int)=(13:Int) then
     if (af (a1+1))<(a0.length:Int) then
      if 0≤(af (a1+1))∧(af (a1+1))<(a0.length:Int) then
       (a0[(af (a1+1)).toNat]?).bind fun I=>
       if (I.toNat:Int)=(10:Int) then
        some (.inr 2)
       else
        some (.inl ())
      else none
     else
      some (.inl ())
    else
     some (.inl ())
   else none):Option (Sum Unit Int)).bind fun o=>match o with
   | .inl ()=>if 0≤a1∧a1<(a0.length:Int) then
    (a0[a1.toNat]?).bind fun J=>
    if (J.toNat:Int)=(13:Int) then
     some 1
    else
     if 0≤a1∧a1<(a0.length:Int) then
      (a0[a1.toNat]?).bind fun U=>
      if (U.toNat:Int)=(10:Int) then
       some 1
      else
       some 0
     else none
   else none
   | .inr y=>some y
theorem mb (F:Nat) {h:AH} {Z:Zn} {a0:List UInt8} {a1:Int} {v2} (hI:Inv Z h) (I:RS (α:=UInt8) Z v2 a0) {r:Int} (hm:correctorref2_Break F a0 a1=some r):
  bV Try.prog 56 [v2,V a1] h Z (V r):=by
 refine bW Try.func56 hI ?_
 intro hs hS
 unfold correctorref2_Break at hm
 refine sp 1<|sq<|s0<|bG 2 v2 (RS.len I)<|ct 0 hm ?_ ?_<;>intro ah hm
 refine xn 0<|dT<|sp 1<|rt<|⟨rfl,?_⟩
 obtain rfl:=si hm
 refine ⟨_,_,_,tk (V 0) (ResL.nil),hS,?_⟩
 exact rfl
 refine xn 0<|dF<|sk<|sq ?_
 obtain ⟨af,j,hm⟩:=ai hm
 refine aI [0,1] (fun l h=>∃ U, .inl ()=af∧l=[(0,v2),(1,V a1)]∧St hs [] Z (0,0) U h []) ?_ ?_
 rintro l aj ⟨U,rfl,rfl,J⟩
 try dsimp only at hm
 refine sq<|s0<|a6 2 hm (I.mono J.ag) ?_
 intro al hm
 refine bh 0 0 (fun aa=> .int .u8 (aa.toNat:Int)) hm (I.mono J.ag) J ?_
 intro aa an hm
 refine aE 0 hm ?_ ?_ (kd:= .u8)<;>intro ao hm
 refine xn 7<|dT<|sp 1<|rt<|⟨rfl,?_⟩
 obtain rfl:=si hm
 refine ⟨_,_,_,tk (V 1) (ResL.nil),J,?_⟩
 exact rfl
 refine a6 3 hm (I.mono J.ag) ?_
 intro aq hm
 refine bh 0 0 (fun ab=> .int .u8 (ab.toNat:Int)) hm (I.mono J.ag) J ?_
 intro ab ar hm
 refine aE 0 hm ?_ ?_ (kd:= .u8)<;>intro au hm
 refine xn 1<|dT<|sp 1<|rt<|⟨rfl,?_⟩
 obtain rfl:=si hm
 refine ⟨_,_,_,tk (V 1) (ResL.nil),J,?_⟩
 exact rfl
 refine xn 1<|dF<|sk<|sp 1<|rt<|⟨rfl,?_⟩
 obtain rfl:=si hm
 refine ⟨_,_,_,tk (V 0) (ResL.nil),J,?_⟩
 exact rfl
 refine s0<|a6 2 j I ?_
 intro av j
 refine bh 0 0 (fun ad=> .int .u8 (ad.toNat:Int)) j I hS ?_
 intro ad aw j
 refine aE 0 j ?_ ?_ (kd:= .u8)<;>intro ax j
 refine bG 4 v2 (RS.len I)<|aP 0 j ?_ ?_<;>intro ay j
 refine a6 5 j I ?_
 intro az j
 refine bh 0 0 (fun ae=> .int .u8 (ae.toNat:Int)) j I hS ?_
 intro ae aA j
 refine aE 0 j ?_ ?_ (kd:= .u8)<;>intro aB j
 refine xn 1<|dT<|sp 1<|rt<|⟨rfl,?_⟩
 obtain rfl:=si j
 obtain rfl:=si hm
 refine ⟨_,_,_,tk (V 2) (ResL.nil),hS,?_⟩
 exact rfl
 refine xn 1<|dF<|sk ?_
 obtain rfl:=si j
 exact ⟨_,rfl,(by kernel_rfl),hS⟩
 refine xn 9<|dF<|sk ?_
 obtain rfl:=si j
 exact ⟨_,rfl,(by kernel_rfl),hS⟩
 refine xn 15<|dF<|sk ?_
 obtain rfl:=si j
 exact ⟨_,rfl,(by kernel_rfl),hS⟩
def jF (F:Nat) (a0:aF) (a1:Int):Option Bool:=
 if (a0.B.length:Int)≤a1 then
  some true
 else
  if 0≤a1∧a1<(a0.B.length:Int) then
   (a0.B[a1.toNat]?).bind fun j=>
   (gu F (j.toNat:Int)).bind fun I=>
   if I=true then
    some true
   else
    (correctorref2_Break F a0.B a1).bind fun J=>
    if (0:Int)<J then
     some true
    else
     some false
  else none
theorem qY (F:Nat) {h:AH} {Z:Zn} {a0:aF} {a1:Int} {aa j ab} (hI:Inv Z h) (I:RS (α:=UInt8) Z j a0.B) (ah:RS (α:=ak) Z ab a0.L) (U:Z aa=some (ba j ab a0)) {r:Bool} (hm:jF F a0 a1=some r):
  bV Try.prog 55 [Pt aa 0,V a1] h Z (.bool r):=by
 refine bW Try.func55 hI ?_
 intro hs hS
 unfold jF at hm
 refine sp 1<|s0<|bu 4 j hS U<|bG 0 j (RS.len I)<|ct 0 hm ?_ ?_<;>intro aj hm
 refine xn 20<|rt<|⟨rfl,?_⟩
 obtain rfl:=si hm
 refine ⟨_,_,_,tk (.bool true) (ResL.nil),hS,?_⟩
 exact rfl
 refine bu 4 j hS U<|a6 1 hm I ?_
 intro al hm
 refine bh 0 0 (fun ad=> .int .u8 (ad.toNat:Int)) hm I hS ?_
 intro ad an hm
 obtain ⟨ao,af,hm⟩:=ai hm
 refine cP 0 hS (j6 F hS.inv af) ?_
 rintro _ aq J rfl
 refine kb 2 22 hm ?_ ?_<;>intro ar hm
 refine xn 9<|rt<|⟨rfl,?_⟩
 obtain rfl:=si hm
 refine ⟨_,_,_,tk (.bool true) (ResL.nil),J,?_⟩
 exact rfl
 refine bu 3 j J U ?_
 obtain ⟨au,ag,hm⟩:=ai hm
 refine cP 1 J (mb F J.inv I ag) ?_
 rintro _ av ae rfl
 refine cz 0 hm ?_ ?_<;>intro aw hm
 refine xn 2<|rt<|⟨rfl,?_⟩
 obtain rfl:=si hm
 refine ⟨_,_,_,tk (.bool true) (ResL.nil),ae,?_⟩
 exact rfl
 refine xn 2<|rt<|⟨rfl,?_⟩
 obtain rfl:=si hm
 refine ⟨_,_,_,tk (.bool false) (ResL.nil),ae,?_⟩
 exact rfl
def l2 (F:Nat) (a0:aF) (a1:Int):Option Int:=
 (iq F a0 a1).bind fun j=>
 if (a0.B.length:Int)<(af (a1+3)) then
  some 0
 else
  if 0≤(af (a1+1))∧(af (a1+1))<(a0.B.length:Int) then
   (a0.B[(af (a1+1)).toNat]?).bind fun I=>
   if (I.toNat:Int)=(j.toNat:Int) then
    if 0≤(af (a1+2))∧(af (a1+2))<(a0.B.length:Int) then
     (a0.B[(af (a1+2)).toNat]?).bind fun J=>
     if (J.toNat:Int)=(j.toNat:Int) then
      (jF F a0 (af (a1+3))).bind fun U=>
      if U=true then
       if (j.toNat:Int)=(45:Int) then
        some 20
       else
        if (j.toNat:Int)=(46:Int) then
         some 21
        else
         some 0
      else
       some 0
     else
      some 0
    else none
   else
    some 0
  else none
theorem uc (F:Nat) {h:AH} {Z:Zn} {a0:aF} {a1:Int} {ab J ad} (hI:Inv Z h) (I:RS (α:=UInt8) Z J a0.B) (ae:RS (α:=ak) Z ad a0.L) (U:Z ab=some (ba J ad a0)) {r:Int} (hm:l2 F a0 a1=some r):
  bV Try.prog 36 [Pt ab 0,V a1] h Z (V r):=by
 refine bW Try.func36 hI ?_
 intro hs hS
 unfold l2 at hm
 refine sp 1<|s0 ?_
 obtain ⟨al,ah,hm⟩:=ai hm
 refine cP 2 hS (mN F hS.inv I ae U ah) ?_
 rintro _ an j rfl
 refine xn 1<|sq<|s0<|bu 5 J j U<|bG 0 J (RS.len I)<|cz 0 hm ?_ ?_<;>intro ao hm
 refine xn 31<|dT<|sp 1<|rt<|⟨rfl,?_⟩
 obtain rfl:=si hm
 refine ⟨_,_,_,tk (V 0) (ResL.nil),j,?_⟩
 exact rfl
 refine bu 4 J j U<|a6 2 hm I ?_
 intro aq hm
 refine bh 0 0 (fun af=> .int .u8 (af.toNat:Int)) hm I j ?_
 intro af ar hm
 refine c7 1 hm ?_ ?_ (kd:= .u8)<;>intro au hm
 refine bu 5 J j U<|a6 2 hm I ?_
 intro av hm
 refine bh 0 0 (fun ag=> .int .u8 (ag.toNat:Int)) hm I j ?_
 intro ag aw hm
 refine c7 1 hm ?_ ?_ (kd:= .u8)<;>intro ax hm
 obtain ⟨ay,aj,hm⟩:=ai hm
 refine cP 5 j (qY F j.inv I ae U aj) ?_
 rintro _ az aa rfl
 refine kb 0 45 hm ?_ ?_<;>intro aA hm
 refine xn 2<|dF<|sk<|sq<|s0<|aE 1 hm ?_ ?_ (kd:= .u8)<;>intro aB hm
 refine xn 0<|dT<|sp 1<|rt<|⟨rfl,?_⟩
 obtain rfl:=si hm
 refine ⟨_,_,_,tk (V 20) (ResL.nil),aa,?_⟩
 exact rfl
 refine xn 0<|dF<|sk<|sq<|s0<|aE 1 hm ?_ ?_ (kd:= .u8)<;>intro aC hm
 refine xn 0<|dT<|sp 1<|rt<|⟨rfl,?_⟩
 obtain rfl:=si hm
 refine ⟨_,_,_,tk (V 21) (ResL.nil),aa,?_⟩
 exact rfl
 refine xn 0<|dF<|sk<|sp 1<|rt<|⟨rfl,?_⟩
 obtain rfl:=si hm
 refine ⟨_,_,_,tk (V 0) (ResL.nil),aa,?_⟩
 exact rfl
 refine xn 2<|dT<|sp 1<|rt<|⟨rfl,?_⟩
 obtain rfl:=si hm
 refine ⟨_,_,_,tk (V 0) (ResL.nil),aa,?_⟩
 exact rfl
 refine xn 8<|dT<|sp 1<|rt<|⟨rfl,?_⟩
 obtain rfl:=si hm
 refine ⟨_,_,_,tk (V 0) (ResL.nil),j,?_⟩
 exact rfl
 refine xn 20<|dT<|sp 1<|rt<|⟨rfl,?_⟩
 obtain rfl:=si hm
 refine ⟨_,_,_,tk (V 0) (ResL.nil),j,?_⟩
 exact rfl
def ft (F:Nat) (a0:Int):Option Bool:=
 if a0=(1:Int) then
  some false
 else
  if a0=(2:Int) then
   some false
  else
   if a0=(3:Int) then
    some false
   else
    if a0=(4:Int) then
     some false
    else
     some true
theorem ir (F:Nat) {h:AH} {Z:Zn} {a0:Int} (hI:Inv Z h) {r:Bool} (hm:ft F a0=some r):
  bV Try.prog 41 [V a0] h Z (.bool r):=by
 refine bW Try.func41 hI ?_
 intro hs hS
 unfold ft at hm
 refine sp 1<|s0<|c7 1 hm ?_ ?_<;>intro j hm
 refine xn 13<|rt<|⟨rfl,?_⟩
 obtain rfl:=si hm
 refine ⟨_,_,_,tk (.bool false) (ResL.nil),hS,?_⟩
 exact rfl
 refine c7 2 hm ?_ ?_<;>intro I hm
 refine xn 10<|rt<|⟨rfl,?_⟩
 obtain rfl:=si hm
 refine ⟨_,_,_,tk (.bool false) (ResL.nil),hS,?_⟩
 exact rfl
 refine c7 3 hm ?_ ?_<;>intro J hm
 refine xn 6<|rt<|⟨rfl,?_⟩
 obtain rfl:=si hm
 refine ⟨_,_,_,tk (.bool false) (ResL.nil),hS,?_⟩
 exact rfl
 refine c7 3 hm ?_ ?_<;>intro U hm
 refine xn 2<|rt<|⟨rfl,?_⟩
 obtain rfl:=si hm
 refine ⟨_,_,_,tk (.bool false) (ResL.nil),hS,?_⟩
 exact rfl
 refine xn 2<|rt<|⟨rfl,?_⟩
 obtain rfl:=si hm
 refine ⟨_,_,_,tk (.bool true) (ResL.nil),hS,?_⟩
 exact rfl
def xz:List bq:=[uP 19 (mv 0),uP 20 (mv 0),uP 21 (nk 20),uP 22 (fa 81 21 1),uL 23 (ld 3 22),uP 24 (mv 0),uP 25 (nk 24),uP 26 (fa 81 25 2),uL 27 (ld 3 26),uP 28 (bo .sub 3 23 27 3),uP 29 (nk 19),uP 30 (fa 81 29 4),oF (.store 3 (t 30) (t 28)) .make [4,8]]
def EK:List bq:=[uP 48 (mv 0),uP 49 (mv 0),uP 50 (nk 49),uP 51 (fa 81 50 7),uL 52 (ld 24 51),uP 53 (mv 1),uP 54 (mv 0),uP 55 (nk 54),uP 56 (fa 81 55 1),uL 57 (ld 3 56),uP 58 (mv 2),uP 59 (.build 85 #[(0,(t 53)),(1,(t 57)),(2,(t 58))]),uF 60 (.buildSlice 24 1 #[(0,(t 59))]) .fresh [],uF 61 (cb .append #[(t 52),(t 60)] #[24,24]) .make [4,9],uP 62 (nk 48),uP 63 (fa 81 62 7),oF (.store 24 (t 63) (t 61)) .make [4,9]]
def cS (F:Nat) (a0:aF) (a1:Int) (J:Int):Option aF:=
 (((((ft F a1).bind fun U=>
   if U=true then
    if a1=(19:Int) then
     some false
    else
     if a0.bU<(0:Int) then
      some true
     else
      some false
   else
    some false):Option Bool).bind fun o=>match o with
   | aa=>if aa=true then
    some (⟨a0.B,a0.At,a0.Row,a0.Open,af (a0.At - a0.Row),a0.cj,a0.Text,a0.L⟩:aF)
   else
    some a0):Option aF).bind fun o=>match o with
  | j=>((if a1=(2:Int) then
    some j
   else
    if a1=(3:Int) then
     some j
    else
     if a1=(5:Int) then
      some j
     else
      if a1=(20:Int) then
       some j
      else
       some (⟨j.B,j.At,j.Row,j.Open,j.bU,false,j.Text,j.L⟩:aF)):Option aF).bind fun o=>match o with
   | I=>if I.L.length+[(⟨a1,I.At,J⟩:ak)].length≤5864062014805 then
    some (⟨I.B,J,I.Row,I.Open,I.bU,I.cj,I.Text,I.L++[(⟨a1,I.At,J⟩:ak)]⟩:aF)
   else none
theorem dV (F:Nat) {h:AH} {Z:Zn} {a0:aF} {a1:Int} {U:Int} {I aj J an} (hP:Pre Z h [.ae I (ba aj J a0), .gs J an (aa ak)]) (aT:RS (α:=UInt8) Z aj a0.B) (aV:RCs (α:=ak) Z an a0.L) {r:aF} (hm:cS F a0 a1 U=some r):
  bQ Try.prog 37 [Pt I 0,V a1,V U] h Z [.ae I (ba aj J a0), .gs J an (aa ak)] fun v Z' A'=>∃ aX v10 aY, .tuple #[]=v∧A'=[.ae I (ba aX v10 r), .gs v10 aY (aa ak)]∧RS (α:=UInt8) Z' aX r.B∧RCs (α:=ak) Z' aY r.L:=by
 refine b5 Try.func37 hP ?_
 intro hs hS
 unfold cS at hm
 refine sq ?_
 obtain ⟨bf,au,hm⟩:=ai hm
 refine aI [0,1,2] (fun l h=>∃ aE ad ao ar,ad=bf∧RS (α:=UInt8) aE ao ad.B∧RCs (α:=ak) aE ar ad.L∧l=[(0,Pt I 0),(1,V a1),(2,V U)]∧St hs (aR [.ae I (ba aj J a0), .gs J an (aa ak)]) Z (0,0) aE h [.ae I (ba ao J ad), .gs J ar (aa ak)]) ?_ ?_
 rintro l bC ⟨aE,ad,ao,ar,rfl,ax,ay,rfl,az⟩
 try dsimp only at hm
 refine sq ?_
 obtain ⟨bg,ah,hm⟩:=ai hm
 refine aI [0,1,2] (fun l h=>∃ aA ab aq aG,ab=bg∧RS (α:=UInt8) aA aq ab.B∧RCs (α:=ak) aA aG ab.L∧l=[(0,Pt I 0),(1,V a1),(2,V U)]∧St hs (aR [.ae I (ba aj J a0), .gs J an (aa ak)]) Z (0,0) aA h [.ae I (ba aq J ab), .gs J aG (aa ak)]) ?_ ?_
 rintro l bD ⟨aA,ab,aq,aG,rfl,bh,bj,rfl,bk⟩
 try dsimp only at hm
 refine cU EK bk ?_
 intro aZ bE a2 aH
 refine yq 4 [(51,Pt I 7),(48,Pt I 0),(0,Pt I 0),(1,V a1),(2,V U)] ?_
 have bF:I<aZ:=a2.1 _ (List.mem_of_getElem? (i:=0) rfl) _ (by simp [Itm.ids])
 refine aW (v:=J) rfl trivial rfl (by show I<_;omega) (aC (v:=J) (aH.dv (i:=1) rfl)) (aH.aU (i:=0) rfl (by kernel_rfl)) trivial<|yq 4 [(56,Pt I 1),(53,V a1),(52,J),(48,Pt I 0),(0,Pt I 0),(2,V U)] ?_
 have bG:I<aZ:=a2.1 _ (List.mem_of_getElem? (i:=0) rfl) _ (by simp [Itm.ids])
 refine aW (v:=V ab.At) rfl trivial rfl (by show I<_;omega) (aC (v:=V ab.At) trivial) (aH.aU (i:=0) rfl (by kernel_rfl)) trivial<|yq 2 [(59, .agg #[V a1,V ab.At,V U]),(52,J),(48,Pt I 0),(0,Pt I 0),(2,V U)] ?_
 have bl:RCs (α:=ak) aA [V a1,V ab.At,V U] [(⟨a1,ab.At,U⟩:ak)]:=RCs.cons (cs:=[V a1,V ab.At,V U]) rfl (RCs.br _)
 refine jo rfl trivial (cX (cells:=[V a1,V ab.At,V U]) (s:=3) (by kernel_rfl)) (by kernel_rfl) aH (by omega) (Nat.add_lt_add_left (by decide) _) ?_
 intro a4 bI bJ bK bL a6
 obtain ⟨bN,hm⟩:=aK hm
 have aJ:St _ _ _ _ _ _ ([.gs J aG (aa ak)]++[.gs a4 [V a1,V ab.At,V U] (aa ak), .ae I (ba aq J ab)]):=(a6.front 2 rfl)
 refine iz rfl trivial aJ (dG (ys:=[(⟨a1,ab.At,U⟩:ak)]) (bS:=24) aJ.sub (i:=0) rfl bj ((a6.cJ).eA (j:=0) rfl bl) rfl rfl (by kernel_rfl) (by omega) (by omega)) (aO.refl _) (.a3 (aJ.bH 1 rfl bM) (.a3 (aJ.bH 1 rfl bM) .nil)) ?_
 rintro av a7 bO ⟨bm,aL⟩
 refine yq 2 [(63,Pt I 7),(61,av),(0,Pt I 0),(2,V U)] ?_
 have a8:St _ _ _ _ _ _ ([.ae I (ba aq J ab)]++[.gs av a7 (aa ak), .gs a4 [V a1,V ab.At,V U] (aa ak)]):=(aL.front 2 rfl)
 refine g5 rfl trivial a8 (gv (vs:=[av]) (cD:=(ba aq av ab)) (L':=[.ae I (ba aq av ab)]) a8.sub (i:=0) rfl rfl rfl (aL.fU (i:=0) rfl) (by kernel_rfl) (bt (aL.fO (i:=0) rfl) cp) rfl rfl rfl) (aO.refl _) (.drop (by decide) (.drop (by decide) .nil)) ?_
 intro bP bn
 refine yf [(0,Pt I 0),(2,V U)] ?_
 have bo:=bn.a5
 refine g0<|bA 4 0 (V U) [V U] [aq,V U,V ab.Row,V ab.Open,V ab.bU, .bool ab.cj,V ab.Text,av] bo rfl rfl rfl ?_
 intro bR bp
 refine xn 0 ?_
 obtain rfl:=si hm
 refine ⟨_,_,_,ResL.nil,(bp.takeN 2),?_⟩
 exact ⟨aq,av,a7,rfl,rfl,bh,bm⟩
 refine s0<|c7 1 ah ?_ ?_<;>intro bT ah
 refine xn 12<|dF<|sk ?_
 obtain rfl:=si ah
 exact ⟨_,ad,ao,ar,rfl,ax,ay,(by kernel_rfl),az⟩
 refine c7 2 ah ?_ ?_<;>intro bV ah
 refine xn 9<|dF<|sk ?_
 obtain rfl:=si ah
 exact ⟨_,ad,ao,ar,rfl,ax,ay,(by kernel_rfl),az⟩
 refine c7 3 ah ?_ ?_<;>intro bW ah
 refine xn 5<|dF<|sk ?_
 obtain rfl:=si ah
 exact ⟨_,ad,ao,ar,rfl,ax,ay,(by kernel_rfl),az⟩
 refine c7 3 ah ?_ ?_<;>intro bX ah
 refine xn 1<|dF<|sk ?_
 obtain rfl:=si ah
 exact ⟨_,ad,ao,ar,rfl,ax,ay,(by kernel_rfl),az⟩
 refine xn 1<|dT<|g0<|bA 3 0 (.bool false) [.bool false] [ao,V ad.At,V ad.Row,V ad.Open,V ad.bU, .bool false,V ad.Text,J] az rfl rfl rfl ?_
 intro bY bu
 refine xn 0 ?_
 obtain rfl:=si ah
 exact ⟨_,(⟨ad.B,ad.At,ad.Row,ad.Open,ad.bU,false,ad.Text,ad.L⟩:aF),ao,ar,rfl,ax,ay,(by kernel_rfl),bu⟩
 refine sq ?_
 obtain ⟨bw,al,au⟩:=ai au
 refine aI [0,1,2,18] (fun l h=>∃ a9 aM,aM=bw∧l=[(0,Pt I 0),(1,V a1),(2,V U),(18, .bool aM)]∧St hs (aR [.ae I (ba aj J a0), .gs J an (aa ak)]) Z (0,0) a9 h [.ae I (ba aj J a0), .gs J an (aa ak)]) ?_ ?_
 rintro l bZ ⟨a9,aM,rfl,rfl,aw⟩
 try dsimp only at au
 refine db au ?_ ?_<;>intro b0 au
 refine ee xz aw ?_
 intro bb b1 bc aN
 refine yq 4 [(22,Pt I 1),(19,Pt I 0),(0,Pt I 0),(1,V a1),(2,V U)] ?_
 have b2:I<bb:=bc.1 _ (List.mem_of_getElem? (i:=0) rfl) _ (by simp [Itm.ids])
 refine aW (v:=V a0.At) rfl trivial rfl (by show I<_;omega) (aC (v:=V a0.At) trivial) (aN.aU (i:=0) rfl (by kernel_rfl)) trivial<|yq 3 [(26,Pt I 2),(23,V a0.At),(19,Pt I 0),(0,Pt I 0),(1,V a1),(2,V U)] ?_
 have b3:I<bb:=bc.1 _ (List.mem_of_getElem? (i:=0) rfl) _ (by simp [Itm.ids])
 refine aW (v:=V a0.Row) rfl trivial rfl (by show I<_;omega) (aC (v:=V a0.Row) trivial) (aN.aU (i:=0) rfl (by kernel_rfl)) trivial<|yq 3 [(30,Pt I 4),(28,V (af (a0.At - a0.Row))),(0,Pt I 0),(1,V a1),(2,V U)] ?_
 have bd:St _ _ _ _ _ _ ([.ae I (ba aj J a0)]++[.gs J an (aa ak)]):=(aN.front 0 rfl)
 refine g5 rfl trivial bd (gv (vs:=[V (af (a0.At - a0.Row))]) (cD:=[aj,V a0.At,V a0.Row,V a0.Open,V (af (a0.At - a0.Row)), .bool a0.cj,V a0.Text,J]) (L':=[.ae I [aj,V a0.At,V a0.Row,V a0.Open,V (af (a0.At - a0.Row)), .bool a0.cj,V a0.Text,J]]) bd.sub (i:=0) rfl rfl rfl rfl (by kernel_rfl) rfl rfl rfl rfl) (aO.refl _) (.drop (by decide) (.drop (by decide) .nil)) ?_
 intro b4 bx
 refine yf [(0,Pt I 0),(1,V a1),(2,V U)] ?_
 have bz:=bx.a5
 obtain rfl:=si au
 exact ⟨_,(⟨a0.B,a0.At,a0.Row,a0.Open,af (a0.At - a0.Row),a0.cj,a0.Text,a0.L⟩:aF),aj,an,rfl,(aT.mono aw.ag),(aV.mono aw.ag),(by kernel_rfl),bz⟩
 refine sk ?_
 obtain rfl:=si au
 exact ⟨_,a0,aj,an,rfl,(aT.mono aw.ag),(aV.mono aw.ag),(by kernel_rfl),aw⟩
 refine g0 ?_
 obtain ⟨b6,bB,al⟩:=ai al
 refine cP 1 hS (ir F hS.inv bB) ?_
 rintro _ b7 aD rfl
 refine kb 1 8 al ?_ ?_<;>intro b8 al
 refine c7 1 al ?_ ?_<;>intro b9 al
 refine xn 8 ?_
 obtain rfl:=si al
 exact ⟨_,false,rfl,(by kernel_rfl),aD⟩
 refine aB 5 0 (V a0.bU) aD rfl<|aP 0 al ?_ ?_<;>intro ca al
 refine xn 1 ?_
 obtain rfl:=si al
 exact ⟨_,true,rfl,(by kernel_rfl),aD⟩
 refine xn 1 ?_
 obtain rfl:=si al
 exact ⟨_,false,rfl,(by kernel_rfl),aD⟩
 refine xn 10 ?_
 obtain rfl:=si al
 exact ⟨_,false,rfl,(by kernel_rfl),aD⟩
def correctorref6_scanner_rowEnd_l0 (F:Nat) (a0:aF) (a1:Int):Nat→Int→Option Int
 | 0,_=>none
 | n+1,j=>
  if j<(a0.B.length:Int) then
   (correctorref2_Break F a0.B j).bind fun I=>
   if I=(0:Int) then
    correctorref6_scanner_rowEnd_l0 F a0 a1 n (af (j+1))
   else
    some j
  else
   some j
def fB (F:Nat) (a0:aF) (a1:Int):Option Int:=
 ((correctorref6_scanner_rowEnd_l0 F a0 a1 F a1):Option Int).bind fun o=>match o with
  | j=>some j
theorem jZ (F:Nat) {h:AH} {Z:Zn} {a0:aF} {a1:Int} {ab U ah} (hI:Inv Z h) (aj:RS (α:=UInt8) Z U a0.B) (av:RS (α:=ak) Z ah a0.L) (al:Z ab=some (ba U ah a0)) {r:Int} (hm:fB F a0 a1=some r):
  bV Try.prog 59 [Pt ab 0,V a1] h Z (V r):=by
 refine bW Try.func59 hI ?_
 intro hs hS
 unfold fB at hm
 refine sp 1<|sq ?_
 obtain ⟨ad,j,hm⟩:=ai hm
 refine aI [1] (fun l h=>∃ an aa,aa=ad∧l=[(1,V aa)]∧St hs [] Z (0,0) an h []) ?_ ?_
 rintro l aw ⟨an,aa,rfl,rfl,ar⟩
 try dsimp only at hm
 refine sp 2<|rt<|⟨rfl,?_⟩
 obtain rfl:=si hm
 refine ⟨_,_,_,tk (V aa) (ResL.nil),ar,?_⟩
 exact rfl
 refine bk 0<|lp [0,1] (fun n l h=>∃ ao J,correctorref6_scanner_rowEnd_l0 F a0 a1 n J=some ad∧l=[(0,Pt ab 0),(1,V J)]∧St hs [] Z (0,0) ao h []) F ⟨_,a1,j,(by kernel_rfl),hS⟩ ?_
 rintro ae l ax ⟨ao,J,j,rfl,I⟩
 rcases ae with _ | ae
 cases (show none=some ad from j)
 rw [correctorref6_scanner_rowEnd_l0] at j
 refine sq<|s0<|bu 4 U I (I.ag _ _ al)<|bG 0 U (RS.len (aj.mono I.ag))<|aP 0 j ?_ ?_<;>intro ay j
 refine bu 4 U I (I.ag _ _ al) ?_
 obtain ⟨az,au,j⟩:=ai j
 refine cP 1 I (mb F I.inv (aj.mono I.ag) au) ?_
 rintro _ aA aq rfl
 refine aE 0 j ?_ ?_<;>intro aB j
 refine xn 1<|dT<|sk<|bk 1<|gp 3 ?_
 exact ⟨ae,Nat.lt_succ_self _,⟨_,af (J+1),j,(by kernel_rfl),aq⟩⟩
 refine xn 1<|dF<|xt 0<|aN ?_
 obtain rfl:=si j
 exact ⟨_,J,rfl,(by kernel_rfl),aq⟩
 refine xn 9<|dF<|xt 0<|aN ?_
 obtain rfl:=si j
 exact ⟨_,J,rfl,(by kernel_rfl),I⟩
def Dc:List bq:=[uP 13 (mv 0),uP 14 (nk 13),uP 15 (fa 81 14 1),uL 16 (ld 3 15),uP 17 (mv 0),uP 18 (nk 17),uP 19 (fa 81 18 0),uL 20 (ld 31 19),uP 21 (cb .len #[(t 20)] #[31]),uP 22 (bo .lss 3 16 21 3),uP 23 (mv 22),aJ 23 24 (mv 0),aJ 23 25 (mv 0),aJ 23 26 (nk 25),aJ 23 27 (fa 81 26 1),cG 23 28 (ld 3 27),jb 23 (some 29) (cf 36 #[(t 24),(t 28)] #[79,3]) .make [3,7,15],aJ 23 30 (bc .eql 3 29 0 3),uP 31 (pf 23 30)]
def correctorref6_scanner_texts_l1 (F:Nat) (a0:aF):Nat→aF→Int→Int→Option (aF×Int×Int)
 | 0,_,_,_=>none
 | n+1,I,J,j=>
  if j<J then
   if 0≤j∧j<(I.B.length:Int) then
    (I.B[j.toNat]?).bind fun U=>
    if (U.toNat:Int)=(32:Int) then
     correctorref6_scanner_texts_l1 F a0 n I J (af (j+1))
    else
     some (I,J,j)
   else none
  else
   some (I,J,j)
def correctorref6_scanner_texts_l2 (F:Nat) (a0:aF):Nat→aF→Int→Int→Int→Option (aF×Int×Int×Int)
 | 0,_,_,_,_=>none
 | n+1,I,J,U,j=>
  if j<J then
   if 0≤j∧j<(I.B.length:Int) then
    (I.B[j.toNat]?).bind fun aa=>
    (gu F (aa.toNat:Int)).bind fun ab=>
    if ab=true then
     correctorref6_scanner_texts_l2 F a0 n I J U (af (j+1))
    else
     some (I,J,U,j)
   else none
  else
   some (I,J,U,j)
def correctorref6_scanner_texts_l0 (F:Nat) (a0:aF):Nat→aF→Option (Sum aF aF)
 | 0,_=>none
 | n+1,j=>
  if j.At<(j.B.length:Int) then
   (l2 F j j.At).bind fun ab=>
   if ab=(0:Int) then
    (fB F j j.At).bind fun ad=>
    ((correctorref6_scanner_texts_l1 F a0 F j ad j.At):Option (aF×Int×Int)).bind fun o=>match o with
     | (ae,ag,U)=>((correctorref6_scanner_texts_l2 F a0 F ae ag U U):Option (aF×Int×Int×Int)).bind fun o=>match o with
      | (I,J,ah,ai)=>((if ai<J then
        if (af (ah - I.At))≤a0.Text then
         some (.inr I)
        else
         some (.inl I)
       else
        some (.inl I)):Option (Sum aF aF)).bind fun o=>match o with
       | .inl aa=>(correctorref2_Break F aa.B J).bind fun aj=>
       (cS F aa 19 (af (J+aj))).bind fun al=>
       (nF F al).bind fun an=>
       correctorref6_scanner_texts_l0 F a0 n an
       | .inr y=>some (.inr y)
   else
    some (.inl j)
  else
   some (.inl j)
def mE (F:Nat) (a0:aF):Option aF:=
 ((correctorref6_scanner_texts_l0 F a0 F (⟨a0.B,a0.At,a0.Row,a0.Open,a0.bU,a0.cj,(-2),a0.L⟩:aF)):Option (Sum aF aF)).bind fun o=>match o with
  | .inl j=>some j
  | .inr y=>some y
theorem wB (F:Nat) {h:AH} {Z:Zn} {a0:aF} {j ag J ah} (hP:Pre Z h [.ae j (ba ag J a0), .gs J ah (aa ak)]) (cg:RS (α:=UInt8) Z ag a0.B) (ch:RCs (α:=ak) Z ah a0.L) {r:aF} (hm:mE F a0=some r):
  bQ Try.prog 57 [Pt j 0] h Z [.ae j (ba ag J a0), .gs J ah (aa ak)] fun v Z' A'=>∃ b1 v10 b2, .tuple #[]=v∧A'=[.ae j (ba b1 v10 r), .gs v10 b2 (aa ak)]∧RS (α:=UInt8) Z' b1 r.B∧RCs (α:=ak) Z' b2 r.L:=by
 refine b5 Try.func57 hP ?_
 intro hs hS
 unfold mE at hm
 refine s0<|aB 3 0 (V a0.Text) hS rfl<|xn 1<|s0<|bA 3 0 (V (-2)) [V (-2)] [ag,V a0.At,V a0.Row,V a0.Open,V a0.bU, .bool a0.cj,V (-2),J] hS rfl rfl rfl ?_
 intro c7 ck
 refine xn 0 ?_
 obtain ⟨bF,I,hm⟩:=ai hm
 refine aI [] (fun l h=>∃ bb aZ bc bd bg, .inl aZ=bF∧RS (α:=UInt8) bb bc aZ.B∧RCs (α:=ak) bb bg aZ.L∧l=[]∧St hs (aR [.ae j (ba ag J a0), .gs J ah (aa ak)]) Z (0,0) bb h [.ae j (ba bc bd aZ), .gs bd bg (aa ak)]) ?_ ?_
 rintro l c8 ⟨bb,aZ,bc,bd,bg,rfl,cl,cm,rfl,cn⟩
 try dsimp only at hm
 obtain rfl:=si hm
 refine ⟨_,_,_,ResL.nil,cn,?_⟩
 exact ⟨bc,bd,bg,rfl,rfl,cl,cm⟩
 refine bk 0<|lp [0,2] (fun n l h=>∃ bj U aj al an,correctorref6_scanner_texts_l0 F a0 n U=some bF∧RS (α:=UInt8) bj aj U.B∧RCs (α:=ak) bj an U.L∧l=[(0,Pt j 0),(2,V a0.Text)]∧St hs (aR [.ae j (ba ag J a0), .gs J ah (aa ak)]) Z (0,0) bj h [.ae j (ba aj al U), .gs al an (aa ak)]) F ⟨_,(⟨a0.B,a0.At,a0.Row,a0.Open,a0.bU,a0.cj,(-2),a0.L⟩:aF),ag,J,ah,I,cg,ch,(by kernel_rfl),ck⟩ ?_
 rintro bG l c9 ⟨bj,U,aj,al,an,I,au,a1,rfl,cp⟩
 rcases bG with _ | bG
 cases (show none=some bF from I)
 rw [correctorref6_scanner_texts_l0] at I
 refine sq<|cU Dc cp ?_
 intro bH da bI ay
 refine yq 3 [(15,Pt j 1),(0,Pt j 0),(2,V a0.Text)] ?_
 have dc:j<bH:=bI.1 _ (List.mem_of_getElem? (i:=0) rfl) _ (by simp [Itm.ids])
 refine aW (v:=V U.At) rfl trivial rfl (by show j<_;omega) (aC (v:=V U.At) trivial) (ay.aU (i:=0) rfl (by kernel_rfl)) trivial<|yq 3 [(19,Pt j 0),(16,V U.At),(0,Pt j 0),(2,V a0.Text)] ?_
 have dd:j<bH:=bI.1 _ (List.mem_of_getElem? (i:=0) rfl) _ (by simp [Itm.ids])
 refine aW (v:=aj) rfl trivial rfl (by show j<_;omega) (aC (v:=aj) (RS.dZ au)) (ay.aU (i:=0) rfl (by kernel_rfl)) trivial<|aG rfl trivial (gO rfl (RS.len au) ⟨_,Try.underlying31⟩) ?_
 rcases ifs I with ⟨bJ,I⟩ | ⟨bJ,I⟩
 refine aG rfl trivial (bp rfl rfl (mS bJ))<|yq 5 [(27,Pt j 1),(24,Pt j 0),(23, .bool true),(0,Pt j 0),(2,V a0.Text)] ?_
 have de:j<bH:=bI.1 _ (List.mem_of_getElem? (i:=0) rfl) _ (by simp [Itm.ids])
 refine aW (v:=V U.At) rfl rfl rfl (by show j<_;omega) (aC (v:=V U.At) trivial) (ay.aU (i:=0) rfl (by kernel_rfl)) trivial ?_
 obtain ⟨df,cq,I⟩:=ai I
 have b3:=ay.cJ
 obtain ⟨dh,bK,cr,b4⟩:=St.ke (L:=[.ae j (ba aj al U), .gs al an (aa ak)]) b3
 obtain ⟨di,dj,ct,bl,rfl⟩:=uc F cr (RS.mono bK au) (bf.row (b4 _ (List.mem_of_getElem? (i:=1) rfl)) bK a1) (b4 _ (List.mem_of_getElem? (i:=0) rfl)) cq
 replace bl:=St.kH bK bl
 have cu:=St.call (A:=[]) (B:=[.ae j (ba aj al U), .gs al an (aa ak)]) b3 bl
 refine fD rfl rfl ay (dg ct rfl rfl rfl) cu (St.fJ bl) ?_
 intro dk b6
 rcases ifs I with ⟨bL,I⟩ | ⟨bL,I⟩
 refine aG rfl rfl (bp rfl rfl (eU bL))<|ye 1 [(31, .bool true),(0,Pt j 0),(2,V a0.Text)] ?_
 have b7:=b6.a5
 refine dT<|sk<|bk 1<|s0<|aB 4 0 (V U.At) b7 rfl ?_
 obtain ⟨cw,cx,I⟩:=ai I
 refine cE 0 b7 (fun dm b8 cy b9=>jZ F cy (RS.mono b8 au) (bf.row (b9 _ (List.mem_of_getElem? (i:=1) rfl)) b8 a1) (b9 _ (List.mem_of_getElem? (i:=0) rfl)) cx) ?_
 rintro _ dn ca rfl
 refine xn 1<|s0<|aB 3 0 (V U.At) ca rfl<|xn 1<|sq ?_
 obtain ⟨bM,ad,I⟩:=ai I
 refine aI [0,2,3,4] (fun l h=>∃ bm az bn a2 bo br bt,(az,bn,a2)=bM∧RS (α:=UInt8) bm bo az.B∧RCs (α:=ak) bm bt az.L∧l=[(0,Pt j 0),(2,V a0.Text),(3,V bn),(4,V a2)]∧St hs (aR [.ae j (ba ag J a0), .gs J ah (aa ak)]) Z (0,0) bm h [.ae j (ba bo br az), .gs br bt (aa ak)]) ?_ ?_
 rintro l dp ⟨bm,az,bn,a2,bo,br,bt,rfl,cz,cB,rfl,cC⟩
 try dsimp only at I
 refine sp 2<|sq ?_
 obtain ⟨bN,ab,I⟩:=ai I
 refine aI [0,2,3,4,5] (fun l h=>∃ bu ao bx bO bP aA aD aH,(ao,bx,bO,bP)=bN∧RS (α:=UInt8) bu aA ao.B∧RCs (α:=ak) bu aH ao.L∧l=[(0,Pt j 0),(2,V a0.Text),(3,V bx),(4,V bO),(5,V bP)]∧St hs (aR [.ae j (ba ag J a0), .gs J ah (aa ak)]) Z (0,0) bu h [.ae j (ba aA aD ao), .gs aD aH (aa ak)]) ?_ ?_
 rintro l dq ⟨bu,ao,bx,bO,bP,aA,aD,aH,rfl,bR,bS,rfl,bz⟩
 try dsimp only at I
 refine sq ?_
 obtain ⟨cD,av,I⟩:=ai I
 refine aI [0,2,3] (fun l h=>∃ bB a3 bC bT bV, .inl a3=cD∧RS (α:=UInt8) bB bC a3.B∧RCs (α:=ak) bB bV a3.L∧l=[(0,Pt j 0),(2,V a0.Text),(3,V bx)]∧St hs (aR [.ae j (ba ag J a0), .gs J ah (aa ak)]) Z (0,0) bB h [.ae j (ba bC bT a3), .gs bT bV (aa ak)]) ?_ ?_
 rintro l dr ⟨bB,a3,bC,bT,bV,rfl,cb,cF,rfl,bW⟩
 try dsimp only at I
 refine s0<|aB 5 0 bC bW rfl ?_
 obtain ⟨ds,cG,I⟩:=ai I
 refine cP 1 bW (mb F bW.inv cb cG) ?_
 rintro _ du cH rfl
 obtain ⟨dv,cI,I⟩:=ai I
 refine cA 1 cH (fun p=>dV F p cb cF cI) ?_
 rintro _ dw dx _ dy cK ⟨dz,cL,dA,rfl,rfl,cM,cQ⟩
 refine xn 0<|g0 ?_
 obtain ⟨cR,cS,I⟩:=ai I
 refine cA 1 cK (fun p=>q0 F p cM cQ cS) ?_
 rintro _ dB dD _ dE cT ⟨cX,cY,rfl,rfl,c0,c3⟩
 refine xn 0 ?_
 exact ⟨bG,Nat.lt_succ_self _,⟨_,cR,cX,cL,cY,I,c0,c3,(by kernel_rfl),cT⟩⟩
 refine s0<|aP 2 av ?_ ?_<;>intro dG av
 refine aB 5 0 (V ao.At) bz rfl<|e6 2 av ?_ ?_<;>intro dH av
 refine xn 1<|dT<|rt<|bw<|bw<|⟨rfl,?_⟩
 obtain rfl:=si av
 obtain rfl:=si I
 obtain rfl:=si hm
 refine ⟨_,_,_,ResL.nil,bz,?_⟩
 exact ⟨aA,aD,aH,rfl,rfl,bR,bS⟩
 refine xn 1<|dF<|sk ?_
 obtain rfl:=si av
 exact ⟨_,ao,aA,aD,aH,rfl,bR,bS,(by kernel_rfl),bz⟩
 refine xn 10<|dF<|sk ?_
 obtain rfl:=si av
 exact ⟨_,ao,aA,aD,aH,rfl,bR,bS,(by kernel_rfl),bz⟩
 refine bk 4<|lp [0,2,3,4,5] (fun n l h=>∃ bD aq aJ aK aL aw aM aO,correctorref6_scanner_texts_l2 F a0 n aq aJ aK aL=some bN∧RS (α:=UInt8) bD aw aq.B∧RCs (α:=ak) bD aO aq.L∧l=[(0,Pt j 0),(2,V a0.Text),(3,V aJ),(4,V aK),(5,V aL)]∧St hs (aR [.ae j (ba ag J a0), .gs J ah (aa ak)]) Z (0,0) bD h [.ae j (ba aw aM aq), .gs aM aO (aa ak)]) F ⟨_,az,bn,a2,a2,bo,br,bt,ab,cz,cB,(by kernel_rfl),cC⟩ ?_
 rintro bX l dI ⟨bD,aq,aJ,aK,aL,aw,aM,aO,ab,a4,bY,rfl,a7⟩
 rcases bX with _ | bX
 cases (show none=some bN from ab)
 rw [correctorref6_scanner_texts_l2] at ab
 refine sq<|s0<|aP 2 ab ?_ ?_<;>intro dJ ab
 refine aB 4 0 aw a7 rfl<|a6 1 ab a4 ?_
 intro dK ab
 refine bh 0 0 (fun cc=> .int .u8 (cc.toNat:Int)) ab a4 a7 ?_
 intro cc dL ab
 obtain ⟨dM,c4,ab⟩:=ai ab
 refine cP 0 a7 (j6 F a7.inv c4) ?_
 rintro _ dN cd rfl
 refine xn 1<|db ab ?_ ?_<;>intro dO ab
 refine sk<|bk 5<|gp 3 ?_
 exact ⟨bX,Nat.lt_succ_self _,⟨_,aq,aJ,aK,af (aL+1),aw,aM,aO,ab,a4,bY,(by kernel_rfl),cd⟩⟩
 refine xt 4<|aN ?_
 obtain rfl:=si ab
 exact ⟨_,aq,aJ,aK,aL,aw,aM,aO,rfl,a4,bY,(by kernel_rfl),cd⟩
 refine xn 10<|dF<|xt 4<|aN ?_
 obtain rfl:=si ab
 exact ⟨_,aq,aJ,aK,aL,aw,aM,aO,rfl,a4,bY,(by kernel_rfl),a7⟩
 refine bk 2<|lp [0,2,3,4] (fun n l h=>∃ bE ar aT aV ax aX aY,correctorref6_scanner_texts_l1 F a0 n ar aT aV=some bM∧RS (α:=UInt8) bE ax ar.B∧RCs (α:=ak) bE aY ar.L∧l=[(0,Pt j 0),(2,V a0.Text),(3,V aT),(4,V aV)]∧St hs (aR [.ae j (ba ag J a0), .gs J ah (aa ak)]) Z (0,0) bE h [.ae j (ba ax aX ar), .gs aX aY (aa ak)]) F ⟨_,U,cw,U.At,aj,al,an,ad,au,a1,(by kernel_rfl),ca⟩ ?_
 rintro bZ l dP ⟨bE,ar,aT,aV,ax,aX,aY,ad,a8,b0,rfl,a9⟩
 rcases bZ with _ | bZ
 cases (show none=some bM from ad)
 rw [correctorref6_scanner_texts_l1] at ad
 refine sq<|s0<|aP 2 ad ?_ ?_<;>intro dQ ad
 refine aB 4 0 ax a9 rfl<|a6 1 ad a8 ?_
 intro dR ad
 refine bh 0 0 (fun cf=> .int .u8 (cf.toNat:Int)) ad a8 a9 ?_
 intro cf dS ad
 refine aE 0 ad ?_ ?_ (kd:= .u8)<;>intro dU ad
 refine xn 1<|dT<|sk<|bk 3<|gp 3 ?_
 exact ⟨bZ,Nat.lt_succ_self _,⟨_,ar,aT,af (aV+1),ax,aX,aY,ad,a8,b0,(by kernel_rfl),a9⟩⟩
 refine xn 1<|dF<|xt 2<|aN ?_
 obtain rfl:=si ad
 exact ⟨_,ar,aT,aV,ax,aX,aY,rfl,a8,b0,(by kernel_rfl),a9⟩
 refine xn 10<|dF<|xt 2<|aN ?_
 obtain rfl:=si ad
 exact ⟨_,ar,aT,aV,ax,aX,aY,rfl,a8,b0,(by kernel_rfl),a9⟩
 refine aG rfl rfl (bp rfl rfl (eV bL))<|ye 1 [(31, .bool false),(0,Pt j 0),(2,V a0.Text)] ?_
 have c5:=b6.a5
 refine dF<|xt 0<|aN ?_
 obtain rfl:=si I
 exact ⟨_,U,aj,al,an,rfl,au,a1,(by kernel_rfl),c5⟩
 refine aG rfl trivial (bp rfl rfl (od bJ))<|ye 9 [(31, .bool false),(0,Pt j 0),(2,V a0.Text)] ?_
 have c6:=ay.a5
 refine dF<|xt 0<|aN ?_
 obtain rfl:=si I
 exact ⟨_,U,aj,al,an,rfl,au,a1,(by kernel_rfl),c6⟩
def yk:List bq:=[uP 7 (mv 0),uP 8 (nk 7),uP 9 (fa 81 8 0),uL 10 (ld 31 9),uP 11 (mv 0),uP 12 (nk 11),uP 13 (fa 81 12 1),uL 14 (ld 3 13),uP 15 (ia 31 10 14),uL 16 (ld 5 15),uP 3 (sg 16)]
def DG:List bq:=[uP 44 (mv 0),uP 45 (nk 44),uP 46 (fa 81 45 1),uL 47 (ld 3 46),uP 48 (mv 0),uP 49 (nk 48),uP 50 (fa 81 49 2),uL 51 (ld 3 50),uP 52 (bo .eql 3 47 51 3),uP 53 (mv 52),aJ 53 54 (mv 3),aJ 53 55 (.binOp .eql 5 (t 54) (.const (.int .u8 32)) 5),uP 56 (pf 53 55)]
def y3:List bq:=[uP 103 (mv 3),uP 104 (.binOp .eql 5 (t 103) (.const (.int .u8 35)) 5),uP 105 (mv 104),aJ 105 106 (mv 0),aJ 105 107 (nk 106),aJ 105 108 (fa 81 107 1),cG 105 109 (ld 3 108),aJ 105 110 (mv 0),aJ 105 111 (nk 110),aJ 105 112 (fa 81 111 2),cG 105 113 (ld 3 112),aJ 105 114 (bo .eql 3 109 113 3),aJ 105 115 (mv 114),du 115 116 (mv 0),du 115 117 (nk 116),du 115 118 (fa 81 117 7),kL 115 119 (ld 24 118),du 115 120 (mv 0),du 115 121 (nk 120),du 115 122 (fa 81 121 7),kL 115 123 (ld 24 122),du 115 124 (cb .len #[(t 123)] #[24]),du 115 125 (bc .sub 3 124 1 3),du 115 126 (ia 24 119 125),du 115 127 (fa 85 126 0),kL 115 128 (ld 3 127),du 115 129 (bc .eql 3 128 2 3),aJ 105 130 (pt 115 129),aJ 105 131 (mv 130),du 131 132 (mv 0),du 131 133 (nk 132),du 131 134 (fa 81 133 7),kL 131 135 (ld 24 134),du 131 136 (mv 0),du 131 137 (nk 136),du 131 138 (fa 81 137 7),kL 131 139 (ld 24 138),du 131 140 (cb .len #[(t 139)] #[24]),du 131 141 (bc .sub 3 140 1 3),du 131 142 (ia 24 135 141),du 131 143 (fa 85 142 0),kL 131 144 (ld 3 143),du 131 145 (bc .eql 3 144 3 3),aJ 105 146 (pt 131 145),uP 147 (pf 105 146)]
def mc (F:Nat) (a0:aF):Nat→Int→Option Int
 | 0,_=>none
 | n+1,j=>
  if j<(a0.B.length:Int) then
   if 0≤j∧j<(a0.B.length:Int) then
    (a0.B[j.toNat]?).bind fun I=>
    if (I.toNat:Int)=(32:Int) then
     mc F a0 n (af (j+1))
    else
     some j
   else none
  else
   some j
def lA (F:Nat) (a0:aF):Nat→Int→Option Int
 | 0,_=>none
 | n+1,j=>
  if j<(a0.B.length:Int) then
   if 0≤j∧j<(a0.B.length:Int) then
    (a0.B[j.toNat]?).bind fun I=>
    (gu F (I.toNat:Int)).bind fun J=>
    if J=true then
     lA F a0 n (af (j+1))
    else
     some j
   else none
  else
   some j
def m9 (F:Nat) (a0:aF):Option (Bool×aF):=
 if 0≤a0.At∧a0.At<(a0.B.length:Int) then
  (a0.B[a0.At.toNat]?).bind fun j=>
  (correctorref2_Break F a0.B a0.At).bind fun I=>
  if (0:Int)<I then
   (cS F a0 1 (af (a0.At+I))).bind fun J=>
   (nF F J).bind fun U=>
   ((if (-1:Int)≤J.Text then
     (mE F U).bind fun aa=>
     some aa
    else
     some U):Option aF).bind fun o=>match o with
    | ab=>some (true,ab)
  else
   ((if a0.At=a0.Row then
     if (j.toNat:Int)=(32:Int) then
      some true
     else
      some false
    else
     some false):Option Bool).bind fun o=>match o with
    | ad=>if ad=true then
     ((mc F a0 F a0.At):Option Int).bind fun o=>match o with
      | ae=>(cS F a0 2 ae).bind fun ag=>
      some (true,ag)
    else
     (gu F (j.toNat:Int)).bind fun ah=>
     if ah=true then
      ((lA F a0 F a0.At):Option Int).bind fun o=>match o with
       | ai=>(cS F a0 3 ai).bind fun aj=>
       some (true,aj)
     else
      ((if (j.toNat:Int)=(35:Int) then
        if a0.At=a0.Row then
         (fB F a0 a0.At).bind fun al=>
         (cS F a0 4 al).bind fun an=>
         some (.inr (true,an))
        else
         if 0≤(af ((a0.L.length:Int) - 1))∧(af ((a0.L.length:Int) - 1))<(a0.L.length:Int) then
          (a0.L[(af ((a0.L.length:Int) - 1)).toNat]?).bind fun ao=>
          if ao.Kind=(2:Int) then
           (fB F a0 a0.At).bind fun aq=>
           (cS F a0 4 aq).bind fun ar=>
           some (.inr (true,ar))
          else
           if 0≤(af ((a0.L.length:Int) - 1))∧(af ((a0.L.length:Int) - 1))<(a0.L.length:Int) then
            (a0.L[(af ((a0.L.length:Int) - 1)).toNat]?).bind fun au=>
            if au.Kind=(3:Int) then
             (fB F a0 a0.At).bind fun av=>
             (cS F a0 4 av).bind fun aw=>
             some (.inr (true,aw))
            else
             some (.inl ())
           else none
         else none
       else
        some (.inl ())):Option (Sum Unit (Bool×aF))).bind fun o=>match o with
       | .inl ()=>some (false,a0)
       | .inr y=>some y
 else none
theorem A9 (F:Nat) {h:AH} {Z:Zn} {a0:aF} {I ab J an} (hP:Pre Z h [.ae I (ba ab J a0), .gs J an (aa ak)]) (aj:RS (α:=UInt8) Z ab a0.B) (al:RCs (α:=ak) Z an a0.L) {r:Bool×aF} (hm:m9 F a0=some r):
  bQ Try.prog 38 [Pt I 0] h Z [.ae I (ba ab J a0), .gs J an (aa ak)] fun v Z' A'=>∃ br v10 bt, .bool r.1=v∧A'=[.ae I (ba br v10 r.2), .gs v10 bt (aa ak)]∧RS (α:=UInt8) Z' br r.2.B∧RCs (α:=ak) Z' bt r.2.L:=by
 refine b5 Try.func38 hP ?_
 intro hs hS
 unfold m9 at hm
 refine sp 1<|cU yk hS ?_
 intro bu ep bw aL
 refine yq 3 [(9,Pt I 0),(0,Pt I 0)] ?_
 have er:I<bu:=bw.1 _ (List.mem_of_getElem? (i:=0) rfl) _ (by simp [Itm.ids])
 refine aW (v:=ab) rfl trivial rfl (by show I<_;omega) (aC (v:=ab) (RS.dZ aj)) (aL.aU (i:=0) rfl (by kernel_rfl)) trivial<|yq 3 [(13,Pt I 1),(10,ab),(0,Pt I 0)] ?_
 have et:I<bu:=bw.1 _ (List.mem_of_getElem? (i:=0) rfl) _ (by simp [Itm.ids])
 refine aW (v:=V a0.At) rfl trivial rfl (by show I<_;omega) (aC (v:=V a0.At) trivial) (aL.aU (i:=0) rfl (by kernel_rfl)) trivial ?_
 obtain ⟨bx,hm⟩:=aK hm
 refine aG rfl trivial (bF rfl rfl (by kernel_rfl:slTy _ _=some (aa UInt8)) (RS.c8 aj (by omega)) bx.1 bx.2) ?_
 obtain ⟨ar,b9,hm⟩:=ai hm
 obtain ⟨eu,ca,cb⟩:=RS.cy aj (i:=a0.At) b9
 obtain rfl:=o4 ca
 refine cM rfl rfl trivial (fun h2 hz=>bL (w:= .int .u8 (ar.toNat:Int)) (cb h2 hz) rfl (by kernel_rfl)) (aL.b1 (aO.refl _)) (aC (v:= .int .u8 (ar.toNat:Int)) trivial) trivial<|ye 1 [(3, .int .u8 (ar.toNat:Int)),(0,Pt I 0)] ?_
 have aM:=aL.a5
 refine s0<|aB 3 0 (V a0.At) aM rfl<|xn 1<|sq<|s0<|aB 3 0 ab aM rfl ?_
 obtain ⟨ew,cc,hm⟩:=ai hm
 refine cP 1 aM (mb F aM.inv aj cc) ?_
 rintro _ ez bz rfl
 refine xn 1<|s0<|cz 1 hm ?_ ?_<;>intro eA hm
 refine xn 0<|dT<|s0 ?_
 obtain ⟨cd,cf,hm⟩:=ai hm
 refine cA 4 bz (fun p=>dV F p aj al cf) ?_
 rintro _ eB eC _ eD bA ⟨eE,cg,eF,rfl,rfl,ch,cj⟩
 refine xn 0<|s0<|aB 3 0 (V cd.Text) bA rfl<|xn 1<|s0 ?_
 obtain ⟨ck,cl,hm⟩:=ai hm
 refine cA 1 bA (fun p=>q0 F p ch cj cl) ?_
 rintro _ eG eH _ eI bB ⟨cn,cp,rfl,rfl,bC,bD⟩
 refine xn 0<|sq ?_
 obtain ⟨cq,az,hm⟩:=ai hm
 refine dY [] (fun l h=>∃ aT aH aV aX aY,aH=cq∧RS (α:=UInt8) aT aV aH.B∧RCs (α:=ak) aT aY aH.L∧l=[]∧St hs (aR [.ae I (ba ab J a0), .gs J an (aa ak)]) Z (0,0) aT h [.ae I (ba aV aX aH), .gs aX aY (aa ak)]) (by kernel_rfl) ?_ ?_
 rintro l eJ ⟨aT,aH,aV,aX,aY,rfl,cr,cu,rfl,cw⟩
 try dsimp only at hm
 refine sp 1<|rt<|⟨rfl,?_⟩
 obtain rfl:=si hm
 refine ⟨_,_,_,tk (.bool true) (ResL.nil),cw,?_⟩
 exact ⟨aV,aX,aY,rfl,rfl,cr,cu⟩
 refine g0<|ct 1 az ?_ ?_<;>intro eK az
 refine xn 0<|dT<|g0 ?_
 obtain ⟨cx,cB,az⟩:=ai az
 refine cA 1 bB (fun p=>wB F p bC bD cB) ?_
 rintro _ eL eM _ eN cC ⟨cD,cF,cG,rfl,rfl,cH,cI⟩
 refine xn 0 ?_
 obtain rfl:=si az
 exact ⟨_,cx,cD,cF,cG,rfl,cH,cI,(by kernel_rfl),cC⟩
 refine xn 0<|dF<|sk ?_
 obtain rfl:=si az
 exact ⟨_,ck,cn,cg,cp,rfl,bC,bD,(by kernel_rfl),bB⟩
 refine xn 0<|dF<|sk<|sq<|sq ?_
 obtain ⟨cJ,au,hm⟩:=ai hm
 refine aI [0,3,4,56] (fun l h=>∃ bE aZ,aZ=cJ∧l=[(0,Pt I 0),(3, .int .u8 (ar.toNat:Int)),(4,V a0.At),(56, .bool aZ)]∧St hs (aR [.ae I (ba ab J a0), .gs J an (aa ak)]) Z (0,0) bE h [.ae I (ba ab J a0), .gs J an (aa ak)]) ?_ ?_
 rintro l eO ⟨bE,aZ,rfl,rfl,ad⟩
 try dsimp only at hm
 refine db hm ?_ ?_<;>intro eP hm
 refine sq ?_
 obtain ⟨a1,aq,hm⟩:=ai hm
 refine aI [0,4] (fun l h=>∃ bH a2,a2=a1∧l=[(0,Pt I 0),(4,V a2)]∧St hs (aR [.ae I (ba ab J a0), .gs J an (aa ak)]) Z (0,0) bH h [.ae I (ba ab J a0), .gs J an (aa ak)]) ?_ ?_
 rintro l eQ ⟨bH,a2,rfl,rfl,a3⟩
 try dsimp only at hm
 refine s0 ?_
 obtain ⟨eR,cK,hm⟩:=ai hm
 refine cA 2 a3 (fun p=>dV F p (aj.mono a3.ag) (al.mono a3.ag) cK) ?_
 rintro _ eS eT _ eW cL ⟨cQ,cR,cS,rfl,rfl,cT,cX⟩
 refine xn 0<|sp 1<|rt<|⟨rfl,?_⟩
 obtain rfl:=si hm
 refine ⟨_,_,_,tk (.bool true) (ResL.nil),cL,?_⟩
 exact ⟨cQ,cR,cS,rfl,rfl,cT,cX⟩
 refine bk 0<|lp [0,4] (fun n l h=>∃ bI aA,mc F a0 n aA=some a1∧l=[(0,Pt I 0),(4,V aA)]∧St hs (aR [.ae I (ba ab J a0), .gs J an (aa ak)]) Z (0,0) bI h [.ae I (ba ab J a0), .gs J an (aa ak)]) F ⟨_,a0.At,aq,(by kernel_rfl),ad⟩ ?_
 rintro a4 l eX ⟨bI,aA,aq,rfl,av⟩
 rcases a4 with _ | a4
 cases (show none=some a1 from aq)
 rw [mc] at aq
 refine sq<|s0<|aB 4 0 ab av rfl<|bG 0 ab (RS.len (aj.mono av.ag))<|aP 0 aq ?_ ?_<;>intro eY aq
 refine aB 4 0 ab av rfl<|a6 1 aq (aj.mono av.ag) ?_
 intro eZ aq
 refine bh 0 0 (fun bJ=> .int .u8 (bJ.toNat:Int)) aq (aj.mono av.ag) av ?_
 intro bJ e0 aq
 refine aE 0 aq ?_ ?_ (kd:= .u8)<;>intro e2 aq
 refine xn 1<|dT<|sk<|bk 1<|gp 3 ?_
 exact ⟨a4,Nat.lt_succ_self _,⟨_,af (aA+1),aq,(by kernel_rfl),av⟩⟩
 refine xn 1<|dF<|xt 0<|aN ?_
 obtain rfl:=si aq
 exact ⟨_,aA,rfl,(by kernel_rfl),av⟩
 refine xn 10<|dF<|xt 0<|aN ?_
 obtain rfl:=si aq
 exact ⟨_,aA,rfl,(by kernel_rfl),av⟩
 refine sk<|sq<|s0 ?_
 obtain ⟨e3,cY,hm⟩:=ai hm
 refine cP 1 ad (j6 F ad.inv cY) ?_
 rintro _ e4 bM rfl
 refine xn 0<|db hm ?_ ?_<;>intro e5 hm
 refine sq ?_
 obtain ⟨a7,ao,hm⟩:=ai hm
 refine aI [0,4] (fun l h=>∃ bN a8,a8=a7∧l=[(0,Pt I 0),(4,V a8)]∧St hs (aR [.ae I (ba ab J a0), .gs J an (aa ak)]) Z (0,0) bN h [.ae I (ba ab J a0), .gs J an (aa ak)]) ?_ ?_
 rintro l e6 ⟨bN,a8,rfl,rfl,a9⟩
 try dsimp only at hm
 refine s0 ?_
 obtain ⟨e7,c0,hm⟩:=ai hm
 refine cA 2 a9 (fun p=>dV F p (aj.mono a9.ag) (al.mono a9.ag) c0) ?_
 rintro _ e8 e9 _ fa c3 ⟨c4,c5,c6,rfl,rfl,c7,c9⟩
 refine xn 0<|sp 1<|rt<|⟨rfl,?_⟩
 obtain rfl:=si hm
 refine ⟨_,_,_,tk (.bool true) (ResL.nil),c3,?_⟩
 exact ⟨c4,c5,c6,rfl,rfl,c7,c9⟩
 refine bk 2<|lp [0,4] (fun n l h=>∃ bO aD,lA F a0 n aD=some a7∧l=[(0,Pt I 0),(4,V aD)]∧St hs (aR [.ae I (ba ab J a0), .gs J an (aa ak)]) Z (0,0) bO h [.ae I (ba ab J a0), .gs J an (aa ak)]) F ⟨_,a0.At,ao,(by kernel_rfl),bM⟩ ?_
 rintro bb l fb ⟨bO,aD,ao,rfl,aw⟩
 rcases bb with _ | bb
 cases (show none=some a7 from ao)
 rw [lA] at ao
 refine sq<|s0<|aB 4 0 ab aw rfl<|bG 0 ab (RS.len (aj.mono aw.ag))<|aP 0 ao ?_ ?_<;>intro fc ao
 refine aB 4 0 ab aw rfl<|a6 1 ao (aj.mono aw.ag) ?_
 intro fe ao
 refine bh 0 0 (fun bP=> .int .u8 (bP.toNat:Int)) ao (aj.mono aw.ag) aw ?_
 intro bP ff ao
 obtain ⟨fg,dc,ao⟩:=ai ao
 refine cP 0 aw (j6 F aw.inv dc) ?_
 rintro _ fh bR rfl
 refine xn 1<|db ao ?_ ?_<;>intro fi ao
 refine sk<|bk 3<|gp 3 ?_
 exact ⟨bb,Nat.lt_succ_self _,⟨_,af (aD+1),ao,(by kernel_rfl),bR⟩⟩
 refine xt 2<|aN ?_
 obtain rfl:=si ao
 exact ⟨_,aD,rfl,(by kernel_rfl),bR⟩
 refine xn 10<|dF<|xt 2<|aN ?_
 obtain rfl:=si ao
 exact ⟨_,aD,rfl,(by kernel_rfl),aw⟩
 refine sk<|sq ?_
 obtain ⟨dd,U,hm⟩:=ai hm
 refine dY [] (fun l h=>∃ bS, .inl ()=dd∧l=[]∧St hs (aR [.ae I (ba ab J a0), .gs J an (aa ak)]) Z (0,0) bS h [.ae I (ba ab J a0), .gs J an (aa ak)]) (by kernel_rfl) ?_ ?_
 rintro l fj ⟨bS,rfl,rfl,bc⟩
 try dsimp only at hm
 refine sp 1<|rt<|⟨rfl,?_⟩
 obtain rfl:=si hm
 refine ⟨_,_,_,tk (.bool false) (ResL.nil),bc,?_⟩
 exact ⟨ab,J,an,rfl,rfl,(aj.mono bc.ag),(al.mono bc.ag)⟩
 refine ee y3 bM ?_
 intro ax fk ay ah
 refine yq 1 [(103, .int .u8 (ar.toNat:Int)),(0,Pt I 0),(4,V a0.At)] ?_
 rcases ifs U with ⟨bd,U⟩ | ⟨bd,U⟩
 refine aG rfl trivial (bp rfl rfl (eU bd))<|yq 4 [(108,Pt I 1),(105, .bool true),(0,Pt I 0),(4,V a0.At)] ?_
 have fl:I<ax:=ay.1 _ (List.mem_of_getElem? (i:=0) rfl) _ (by simp [Itm.ids])
 refine aW (v:=V a0.At) rfl rfl rfl (by show I<_;omega) (aC (v:=V a0.At) trivial) (ah.aU (i:=0) rfl (by kernel_rfl)) trivial<|yq 3 [(112,Pt I 2),(109,V a0.At),(105, .bool true),(0,Pt I 0),(4,V a0.At)] ?_
 have fm:I<ax:=ay.1 _ (List.mem_of_getElem? (i:=0) rfl) _ (by simp [Itm.ids])
 refine aW (v:=V a0.Row) rfl rfl rfl (by show I<_;omega) (aC (v:=V a0.Row) trivial) (ah.aU (i:=0) rfl (by kernel_rfl)) trivial ?_
 rcases ifs U with ⟨bg,U⟩ | ⟨bg,U⟩
 refine aG rfl rfl (bp rfl rfl (eU bg))<|ye 33 [(147, .bool true),(0,Pt I 0),(4,V a0.At)] ?_
 have de:=ah.a5
 refine dT<|s0 ?_
 obtain ⟨fo,df,U⟩:=ai U
 refine cE 3 de (fun fp bT dg bU=>jZ F dg (RS.mono bT (aj.mono ad.ag)) (bf.row (bU _ (List.mem_of_getElem? (i:=1) rfl)) bT (al.mono ad.ag)) (bU _ (List.mem_of_getElem? (i:=0) rfl)) df) ?_
 rintro _ fq dh rfl
 obtain ⟨fr,dj,U⟩:=ai U
 refine cA 0 dh (fun p=>dV F p (aj.mono ad.ag) (al.mono ad.ag) dj) ?_
 rintro _ fs ft _ fu dk ⟨dm,dp,dq,rfl,rfl,dr,ds⟩
 refine xn 0<|sp 1<|rt<|⟨rfl,?_⟩
 obtain rfl:=si U
 obtain rfl:=si hm
 refine ⟨_,_,_,tk (.bool true) (ResL.nil),dk,?_⟩
 exact ⟨dm,dp,dq,rfl,rfl,dr,ds⟩
 refine aG rfl rfl (bp rfl rfl (eV bg))<|yq 4 [(118,Pt I 7),(115, .bool false),(105, .bool true),(0,Pt I 0),(4,V a0.At)] ?_
 have fv:I<ax:=ay.1 _ (List.mem_of_getElem? (i:=0) rfl) _ (by simp [Itm.ids])
 refine aW (v:=J) rfl rfl rfl (by show I<_;omega) (aC (v:=J) (ah.dv (i:=1) rfl)) (ah.aU (i:=0) rfl (by kernel_rfl)) trivial<|yq 3 [(122,Pt I 7),(119,J),(115, .bool false),(105, .bool true),(0,Pt I 0),(4,V a0.At)] ?_
 have fw:I<ax:=ay.1 _ (List.mem_of_getElem? (i:=0) rfl) _ (by simp [Itm.ids])
 refine aW (v:=J) rfl rfl rfl (by show I<_;omega) (aC (v:=J) (ah.dv (i:=1) rfl)) (ah.aU (i:=0) rfl (by kernel_rfl)) trivial<|aG rfl rfl (gO rfl (ah.da (i:=1) rfl (al.mono ad.ag)) ⟨_,Try.underlying24⟩)<|yq 1 [(125,V (af ((a0.L.length:Int) - 1))),(119,J),(115, .bool false),(105, .bool true),(0,Pt I 0),(4,V a0.At)] ?_
 obtain ⟨bV,U⟩:=aK U
 refine aG rfl rfl (bF rfl rfl (by kernel_rfl:slTy _ _=some (aa ak)) (ah.bK (j:=1) rfl (al.mono ad.ag) (by omega)) bV.1 bV.2)<|yq 1 [(127, .pointer (some (bj J (af ((a0.L.length:Int) - 1)) (aa ak) 0))),(115, .bool false),(105, .bool true),(0,Pt I 0),(4,V a0.At)] ?_
 obtain ⟨bW,bX,U⟩:=ai U
 obtain ⟨fx,du,dx,fy⟩:=ah.cm (j:=1) rfl (al.mono ad.ag) (i:=af ((a0.L.length:Int) - 1)) bX
 obtain rfl:=ey du
 have dy:=dw bX
 have dz:=ah.bK (j:=1) rfl (al.mono ad.ag) dy
 have fz:(baseOf J).block<ax:=dn (ay.1 _ (List.mem_of_getElem? (i:=1) rfl)) dz
 refine di rfl rfl rfl (by show (baseOf J).block<_;omega) (aC (v:=V bW.Kind) trivial) (bL (w:=V bW.Kind) dx rfl (by kernel_rfl)) trivial ?_
 rcases ifs U with ⟨bl,U⟩ | ⟨bl,U⟩
 refine aG rfl rfl (bp rfl rfl (eU bl))<|ye 18 [(147, .bool true),(0,Pt I 0),(4,V a0.At)] ?_
 have dA:=ah.a5
 refine dT<|s0 ?_
 obtain ⟨fA,dB,U⟩:=ai U
 refine cE 3 dA (fun fB bY dD bZ=>jZ F dD (RS.mono bY (aj.mono ad.ag)) (bf.row (bZ _ (List.mem_of_getElem? (i:=1) rfl)) bY (al.mono ad.ag)) (bZ _ (List.mem_of_getElem? (i:=0) rfl)) dB) ?_
 rintro _ fC dE rfl
 obtain ⟨fD,dG,U⟩:=ai U
 refine cA 0 dE (fun p=>dV F p (aj.mono ad.ag) (al.mono ad.ag) dG) ?_
 rintro _ fE fG _ fH dH ⟨dI,dJ,dK,rfl,rfl,dL,dM⟩
 refine xn 0<|sp 1<|rt<|⟨rfl,?_⟩
 obtain rfl:=si U
 obtain rfl:=si hm
 refine ⟨_,_,_,tk (.bool true) (ResL.nil),dH,?_⟩
 exact ⟨dI,dJ,dK,rfl,rfl,dL,dM⟩
 refine aG rfl rfl (bp rfl rfl (eV bl))<|yq 5 [(134,Pt I 7),(131, .bool false),(105, .bool true),(0,Pt I 0),(4,V a0.At)] ?_
 have fI:I<ax:=ay.1 _ (List.mem_of_getElem? (i:=0) rfl) _ (by simp [Itm.ids])
 refine aW (v:=J) rfl rfl rfl (by show I<_;omega) (aC (v:=J) (ah.dv (i:=1) rfl)) (ah.aU (i:=0) rfl (by kernel_rfl)) trivial<|yq 3 [(138,Pt I 7),(135,J),(131, .bool false),(105, .bool true),(0,Pt I 0),(4,V a0.At)] ?_
 have fJ:I<ax:=ay.1 _ (List.mem_of_getElem? (i:=0) rfl) _ (by simp [Itm.ids])
 refine aW (v:=J) rfl rfl rfl (by show I<_;omega) (aC (v:=J) (ah.dv (i:=1) rfl)) (ah.aU (i:=0) rfl (by kernel_rfl)) trivial<|aG rfl rfl (gO rfl (ah.da (i:=1) rfl (al.mono ad.ag)) ⟨_,Try.underlying24⟩)<|yq 1 [(141,V (af ((a0.L.length:Int) - 1))),(135,J),(131, .bool false),(105, .bool true),(0,Pt I 0),(4,V a0.At)] ?_
 obtain ⟨b0,U⟩:=aK U
 refine aG rfl rfl (bF rfl rfl (by kernel_rfl:slTy _ _=some (aa ak)) (ah.bK (j:=1) rfl (al.mono ad.ag) (by omega)) b0.1 b0.2)<|yq 1 [(143, .pointer (some (bj J (af ((a0.L.length:Int) - 1)) (aa ak) 0))),(131, .bool false),(105, .bool true),(0,Pt I 0),(4,V a0.At)] ?_
 obtain ⟨b2,b3,U⟩:=ai U
 obtain ⟨fK,dN,dO,fL⟩:=ah.cm (j:=1) rfl (al.mono ad.ag) (i:=af ((a0.L.length:Int) - 1)) b3
 obtain rfl:=ey dN
 have dP:=dw b3
 have dQ:=ah.bK (j:=1) rfl (al.mono ad.ag) dP
 have fM:(baseOf J).block<ax:=dn (ay.1 _ (List.mem_of_getElem? (i:=1) rfl)) dQ
 refine di rfl rfl rfl (by show (baseOf J).block<_;omega) (aC (v:=V b2.Kind) trivial) (bL (w:=V b2.Kind) dO rfl (by kernel_rfl)) trivial ?_
 rcases ifs U with ⟨bm,U⟩ | ⟨bm,U⟩
 refine aG rfl rfl (bp rfl rfl (eU bm))<|ye 2 [(147, .bool true),(0,Pt I 0),(4,V a0.At)] ?_
 have dR:=ah.a5
 refine dT<|s0 ?_
 obtain ⟨fN,dS,U⟩:=ai U
 refine cE 3 dR (fun fO b4 dU b6=>jZ F dU (RS.mono b4 (aj.mono ad.ag)) (bf.row (b6 _ (List.mem_of_getElem? (i:=1) rfl)) b4 (al.mono ad.ag)) (b6 _ (List.mem_of_getElem? (i:=0) rfl)) dS) ?_
 rintro _ fP dW rfl
 obtain ⟨fQ,dX,U⟩:=ai U
 refine cA 0 dW (fun p=>dV F p (aj.mono ad.ag) (al.mono ad.ag) dX) ?_
 rintro _ fR fS _ fT ea ⟨eb,ec,ed,rfl,rfl,eg,eh⟩
 refine xn 0<|sp 1<|rt<|⟨rfl,?_⟩
 obtain rfl:=si U
 obtain rfl:=si hm
 refine ⟨_,_,_,tk (.bool true) (ResL.nil),ea,?_⟩
 exact ⟨eb,ec,ed,rfl,rfl,eg,eh⟩
 refine aG rfl rfl (bp rfl rfl (eV bm))<|ye 2 [(147, .bool false),(0,Pt I 0),(4,V a0.At)] ?_
 have ei:=ah.a5
 refine dF<|sk ?_
 obtain rfl:=si U
 exact ⟨_,rfl,(by kernel_rfl),ei⟩
 refine aG rfl trivial (bp rfl rfl (eV bd))<|ye 43 [(147, .bool false),(0,Pt I 0),(4,V a0.At)] ?_
 have ej:=ah.a5
 refine dF<|sk ?_
 obtain rfl:=si U
 exact ⟨_,rfl,(by kernel_rfl),ej⟩
 refine ee DG bz ?_
 intro b7 fU b8 aJ
 refine yq 3 [(46,Pt I 1),(4,V a0.At),(3, .int .u8 (ar.toNat:Int)),(0,Pt I 0)] ?_
 have fV:I<b7:=b8.1 _ (List.mem_of_getElem? (i:=0) rfl) _ (by simp [Itm.ids])
 refine aW (v:=V a0.At) rfl trivial rfl (by show I<_;omega) (aC (v:=V a0.At) trivial) (aJ.aU (i:=0) rfl (by kernel_rfl)) trivial<|yq 3 [(50,Pt I 2),(47,V a0.At),(4,V a0.At),(3, .int .u8 (ar.toNat:Int)),(0,Pt I 0)] ?_
 have fW:I<b7:=b8.1 _ (List.mem_of_getElem? (i:=0) rfl) _ (by simp [Itm.ids])
 refine aW (v:=V a0.Row) rfl trivial rfl (by show I<_;omega) (aC (v:=V a0.Row) trivial) (aJ.aU (i:=0) rfl (by kernel_rfl)) trivial ?_
 rcases ifs au with ⟨bn,au⟩ | ⟨bn,au⟩
 refine aG rfl trivial (bp rfl rfl (eU bn))<|yq 2 [(54, .int .u8 (ar.toNat:Int)),(53, .bool true),(4,V a0.At),(3, .int .u8 (ar.toNat:Int)),(0,Pt I 0)] ?_
 rcases ifs au with ⟨bo,au⟩ | ⟨bo,au⟩
 refine aG rfl rfl (bp rfl rfl (eU bo))<|ye 1 [(56, .bool true),(4,V a0.At),(3, .int .u8 (ar.toNat:Int)),(0,Pt I 0)] ?_
 have ek:=aJ.a5
 obtain rfl:=si au
 exact ⟨_,true,rfl,(by kernel_rfl),ek⟩
 refine aG rfl rfl (bp rfl rfl (eV bo))<|ye 1 [(56, .bool false),(4,V a0.At),(3, .int .u8 (ar.toNat:Int)),(0,Pt I 0)] ?_
 have en:=aJ.a5
 obtain rfl:=si au
 exact ⟨_,false,rfl,(by kernel_rfl),en⟩
 refine aG rfl trivial (bp rfl rfl (eV bn))<|ye 4 [(56, .bool false),(4,V a0.At),(3, .int .u8 (ar.toNat:Int)),(0,Pt I 0)] ?_
 have eo:=aJ.a5
 obtain rfl:=si au
 exact ⟨_,false,rfl,(by kernel_rfl),eo⟩
def zz:List bq:=[uP 4 (mv 0),uP 5 (nk 4),uP 6 (fa 81 5 0),uL 7 (ld 31 6),uP 8 (mv 0),uP 9 (nk 8),uP 10 (fa 81 9 1),uL 11 (ld 3 10),uP 12 (ia 31 7 11),uL 13 (ld 5 12),uP 3 (sg 13)]
def nh (F:Nat) (a0:aF):Option (Bool×aF):=
 if 0≤a0.At∧a0.At<(a0.B.length:Int) then
  (a0.B[a0.At.toNat]?).bind fun aa=>
  ((if (aa.toNat:Int)=(91:Int) then
    (cS F a0 8 (af (a0.At+1))).bind fun j=>
    some (.inl (⟨j.B,j.At,j.Row,af (j.Open+1),j.bU,j.cj,j.Text,j.L⟩:aF))
   else
    if (aa.toNat:Int)=(123:Int) then
     (cS F a0 9 (af (a0.At+1))).bind fun I=>
     some (.inl (⟨I.B,I.At,I.Row,af (I.Open+1),I.bU,I.cj,I.Text,I.L⟩:aF))
    else
     if (aa.toNat:Int)=(93:Int) then
      (cS F a0 10 (af (a0.At+1))).bind fun J=>
      some (.inl (⟨J.B,J.At,J.Row,imax (af (J.Open - 1)) 0,J.bU,J.cj,J.Text,J.L⟩:aF))
     else
      if (aa.toNat:Int)=(125:Int) then
       (cS F a0 11 (af (a0.At+1))).bind fun U=>
       some (.inl (⟨U.B,U.At,U.Row,imax (af (U.Open - 1)) 0,U.bU,U.cj,U.Text,U.L⟩:aF))
      else
       if (aa.toNat:Int)=(44:Int) then
        if (0:Int)<a0.Open then
         (cS F a0 7 (af (a0.At+1))).bind fun ab=>
         some (.inl ab)
        else
         some (.inr (false,a0))
       else
        some (.inr (false,a0))):Option (Sum aF (Bool×aF))).bind fun o=>match o with
   | .inl ad=>some (true,ad)
   | .inr y=>some y
 else none
theorem yU (F:Nat) {h:AH} {Z:Zn} {a0:aF} {ad aj al ao} (hP:Pre Z h [.ae ad (ba aj al a0), .gs al ao (aa ak)]) (ah:RS (α:=UInt8) Z aj a0.B) (an:RCs (α:=ak) Z ao a0.L) {r:Bool×aF} (hm:nh F a0=some r):
  bQ Try.prog 39 [Pt ad 0] h Z [.ae ad (ba aj al a0), .gs al ao (aa ak)] fun v Z' A'=>∃ az v10 aA, .bool r.1=v∧A'=[.ae ad (ba az v10 r.2), .gs v10 aA (aa ak)]∧RS (α:=UInt8) Z' az r.2.B∧RCs (α:=ak) Z' aA r.2.L:=by
 refine b5 Try.func39 hP ?_
 intro hs hS
 unfold nh at hm
 refine sp 1<|sq<|cU zz hS ?_
 intro aD bR aH ar
 refine yq 3 [(6,Pt ad 0),(0,Pt ad 0)] ?_
 have bS:ad<aD:=aH.1 _ (List.mem_of_getElem? (i:=0) rfl) _ (by simp [Itm.ids])
 refine aW (v:=aj) rfl trivial rfl (by show ad<_;omega) (aC (v:=aj) (RS.dZ ah)) (ar.aU (i:=0) rfl (by kernel_rfl)) trivial<|yq 3 [(10,Pt ad 1),(7,aj),(0,Pt ad 0)] ?_
 have bT:ad<aD:=aH.1 _ (List.mem_of_getElem? (i:=0) rfl) _ (by simp [Itm.ids])
 refine aW (v:=V a0.At) rfl trivial rfl (by show ad<_;omega) (aC (v:=V a0.At) trivial) (ar.aU (i:=0) rfl (by kernel_rfl)) trivial ?_
 obtain ⟨aJ,hm⟩:=aK hm
 refine aG rfl trivial (bF rfl rfl (by kernel_rfl:slTy _ _=some (aa UInt8)) (RS.c8 ah (by omega)) aJ.1 aJ.2) ?_
 obtain ⟨ay,a4,hm⟩:=ai hm
 obtain ⟨bV,a6,a7⟩:=RS.cy ah (i:=a0.At) a4
 obtain rfl:=o4 a6
 refine cM rfl rfl trivial (fun h2 hz=>bL (w:= .int .u8 (ay.toNat:Int)) (a7 h2 hz) rfl (by kernel_rfl)) (ar.b1 (aO.refl _)) (aC (v:= .int .u8 (ay.toNat:Int)) trivial) trivial<|ye 1 [(3, .int .u8 (ay.toNat:Int)),(0,Pt ad 0)] ?_
 have ag:=ar.a5
 obtain ⟨a8,j,hm⟩:=ai hm
 refine aI [] (fun l h=>∃ au aq av aw ax, .inl aq=a8∧RS (α:=UInt8) au av aq.B∧RCs (α:=ak) au ax aq.L∧l=[]∧St hs (aR [.ae ad (ba aj al a0), .gs al ao (aa ak)]) Z (0,0) au h [.ae ad (ba av aw aq), .gs aw ax (aa ak)]) ?_ ?_
 rintro l bW ⟨au,aq,av,aw,ax,rfl,a9,bb,rfl,bc⟩
 try dsimp only at hm
 refine sp 1<|rt<|⟨rfl,?_⟩
 obtain rfl:=si hm
 refine ⟨_,_,_,tk (.bool true) (ResL.nil),bc,?_⟩
 exact ⟨av,aw,ax,rfl,rfl,a9,bb⟩
 refine bk 0<|s0<|aE 1 j ?_ ?_ (kd:= .u8)<;>intro bX j
 refine xn 1<|dT<|s0<|aB 4 0 (V a0.At) ag rfl ?_
 obtain ⟨I,bd,j⟩:=ai j
 refine cA 1 ag (fun p=>dV F p ah an bd) ?_
 rintro _ bY bZ _ b0 aL ⟨aM,aN,bf,rfl,rfl,bg,bh⟩
 refine xn 0<|g0<|aB 3 0 (V I.Open) aL rfl<|bA 3 0 (V (af (I.Open+1))) [V (af (I.Open+1))] [aM,V I.At,V I.Row,V (af (I.Open+1)),V I.bU, .bool I.cj,V I.Text,aN] aL rfl rfl rfl ?_
 intro b2 bj
 refine xn 0 ?_
 obtain rfl:=si j
 exact ⟨_,(⟨I.B,I.At,I.Row,af (I.Open+1),I.bU,I.cj,I.Text,I.L⟩:aF),aM,aN,bf,rfl,bg,bh,(by kernel_rfl),bj⟩
 refine xn 1<|dF<|s0<|aE 1 j ?_ ?_ (kd:= .u8)<;>intro b3 j
 refine xn 1<|dT<|s0<|aB 4 0 (V a0.At) ag rfl ?_
 obtain ⟨J,bl,j⟩:=ai j
 refine cA 1 ag (fun p=>dV F p ah an bl) ?_
 rintro _ b4 b6 _ b7 aP ⟨aT,aV,bm,rfl,rfl,bn,bo⟩
 refine xn 0<|g0<|aB 3 0 (V J.Open) aP rfl<|bA 3 0 (V (af (J.Open+1))) [V (af (J.Open+1))] [aT,V J.At,V J.Row,V (af (J.Open+1)),V J.bU, .bool J.cj,V J.Text,aV] aP rfl rfl rfl ?_
 intro b8 bp
 refine xn 0 ?_
 obtain rfl:=si j
 exact ⟨_,(⟨J.B,J.At,J.Row,af (J.Open+1),J.bU,J.cj,J.Text,J.L⟩:aF),aT,aV,bm,rfl,bn,bo,(by kernel_rfl),bp⟩
 refine xn 1<|dF<|s0<|aE 1 j ?_ ?_ (kd:= .u8)<;>intro b9 j
 refine xn 1<|dT<|s0<|aB 4 0 (V a0.At) ag rfl ?_
 obtain ⟨U,br,j⟩:=ai j
 refine cA 1 ag (fun p=>dV F p ah an br) ?_
 rintro _ ca cb _ cc aX ⟨aY,aZ,bt,rfl,rfl,bu,bx⟩
 refine xn 0<|g0<|aB 4 0 (V U.Open) aX rfl<|bA 4 0 (V (imax (af (U.Open - 1)) 0)) [V (imax (af (U.Open - 1)) 0)] [aY,V U.At,V U.Row,V (imax (af (U.Open - 1)) 0),V U.bU, .bool U.cj,V U.Text,aZ] aX rfl rfl rfl ?_
 intro cd bz
 refine xn 0 ?_
 obtain rfl:=si j
 exact ⟨_,(⟨U.B,U.At,U.Row,imax (af (U.Open - 1)) 0,U.bU,U.cj,U.Text,U.L⟩:aF),aY,aZ,bt,rfl,bu,bx,(by kernel_rfl),bz⟩
 refine xn 1<|dF<|s0<|aE 1 j ?_ ?_ (kd:= .u8)<;>intro cf j
 refine xn 1<|dT<|s0<|aB 4 0 (V a0.At) ag rfl ?_
 obtain ⟨ab,bB,j⟩:=ai j
 refine cA 1 ag (fun p=>dV F p ah an bB) ?_
 rintro _ cg ch _ ck a1 ⟨a2,a3,bC,rfl,rfl,bD,bE⟩
 refine xn 0<|g0<|aB 4 0 (V ab.Open) a1 rfl<|bA 4 0 (V (imax (af (ab.Open - 1)) 0)) [V (imax (af (ab.Open - 1)) 0)] [a2,V ab.At,V ab.Row,V (imax (af (ab.Open - 1)) 0),V ab.bU, .bool ab.cj,V ab.Text,a3] a1 rfl rfl rfl ?_
 intro cl bG
 refine xn 0 ?_
 obtain rfl:=si j
 exact ⟨_,(⟨ab.B,ab.At,ab.Row,imax (af (ab.Open - 1)) 0,ab.bU,ab.cj,ab.Text,ab.L⟩:aF),a2,a3,bC,rfl,bD,bE,(by kernel_rfl),bG⟩
 refine xn 1<|dF<|s0<|aE 1 j ?_ ?_ (kd:= .u8)<;>intro cm j
 refine aB 4 0 (V a0.Open) ag rfl<|cz 0 j ?_ ?_<;>intro cn j
 refine xn 2<|dT<|g0<|aB 4 0 (V a0.At) ag rfl ?_
 obtain ⟨bH,bI,j⟩:=ai j
 refine cA 1 ag (fun p=>dV F p ah an bI) ?_
 rintro _ cp cq _ cr bJ ⟨bK,bM,bN,rfl,rfl,bO,bP⟩
 refine xn 0 ?_
 obtain rfl:=si j
 exact ⟨_,bH,bK,bM,bN,rfl,bO,bP,(by kernel_rfl),bJ⟩
 refine xn 2<|dF<|sp 1<|rt<|bw<|⟨rfl,?_⟩
 obtain rfl:=si j
 obtain rfl:=si hm
 refine ⟨_,_,_,tk (.bool false) (ResL.nil),ag,?_⟩
 exact ⟨aj,al,ao,rfl,rfl,ah,an⟩
 refine xn 8<|dF<|sp 1<|rt<|bw<|⟨rfl,?_⟩
 obtain rfl:=si j
 obtain rfl:=si hm
 refine ⟨_,_,_,tk (.bool false) (ResL.nil),ag,?_⟩
 exact ⟨aj,al,ao,rfl,rfl,ah,an⟩
def correctorref1_sign_l0 (F:Nat) (a0:List UInt8) (a1:Int) (J:Int) (U:Int):Nat→Int→Int→Option (Sum Int (Int×Int))
 | 0,_,_=>none
 | n+1,I,j=>
  if j<a1 then
   if 0≤j∧j<(a0.length:Int) then
    (a0[j.toNat]?).bind fun aa=>
    if (aa.toNat:Int)<(128:Int) then
     some (.inr ((-1),1))
    else
     if 0≤j∧j<(a0.length:Int) then
      (a0[j.toNat]?).bind fun ab=>
      if (191:Int)<(ab.toNat:Int) then
       some (.inr ((-1),1))
      else
       if 0≤j∧j<(a0.length:Int) then
        (a0[j.toNat]?).bind fun ad=>
        correctorref1_sign_l0 F a0 a1 J U n (a4 .i32 (uU .i32 I 6) (IntKind.wrap .i32 (bz .u8 (ad.toNat:Int) 63))) (af (j+1))
       else none
     else none
   else none
  else
   some (.inl I)
def jd (F:Nat) (a0:List UInt8) (a1:Int) (I:Int) (J:Int):Option (Int×Int):=
 if (a0.length:Int)<a1 then
  some ((-1),1)
 else
  ((correctorref1_sign_l0 F a0 a1 I J F I 1):Option (Sum Int (Int×Int))).bind fun o=>match o with
   | .inl j=>((if j<J then
     some (.inr ((-1),1))
    else
     if (1114111:Int)<j then
      some (.inr ((-1),1))
     else
      if (55296:Int)≤j then
       if j≤(57343:Int) then
        some (.inr ((-1),1))
       else
        some (.inl ())
      else
       some (.inl ())):Option (Sum Unit (Int×Int))).bind fun o=>match o with
    | .inl ()=>some (j,a1)
    | .inr y=>some y
   | .inr y=>some y
theorem pX (F:Nat) {h:AH} {Z:Zn} {a0:List UInt8} {a1:Int} {ah:Int} {aa:Int} {v2} (hI:Inv Z h) (U:RS (α:=UInt8) Z v2 a0) {r:Int×Int} (hm:jd F a0 a1 ah aa=some r):
  bV Try.prog 75 [v2,V a1, .int .i32 ah, .int .i32 aa] h Z (.tuple #[.int .i32 r.1,V r.2]):=by
 refine bW Try.func75 hI ?_
 intro hs hS
 unfold jd at hm
 refine sp 2<|sq<|s0<|bG 1 v2 (RS.len U)<|aP 1 hm ?_ ?_<;>intro az hm
 refine xn 0<|dT<|sp 2<|rt<|⟨rfl,?_⟩
 obtain rfl:=si hm
 refine ⟨_,_,_,tk (.int .i32 (-1)) (tk (V 1) (ResL.nil)),hS,?_⟩
 exact rfl
 refine xn 0<|dF<|sk<|sq<|sp 1 ?_
 obtain ⟨an,j,hm⟩:=ai hm
 refine aI [1,2,3] (fun l h=>∃ aq ab, .inl ab=an∧l=[(1,V a1),(2, .int .i32 ab),(3, .int .i32 aa)]∧St hs [] Z (0,0) aq h []) ?_ ?_
 rintro l aA ⟨aq,ab,rfl,rfl,ad⟩
 try dsimp only at hm
 refine sq ?_
 obtain ⟨ax,I,hm⟩:=ai hm
 refine dY [1,2] (fun l h=>∃ ar, .inl ()=ax∧l=[(1,V a1),(2, .int .i32 ab)]∧St hs [] Z (0,0) ar h []) (by kernel_rfl) ?_ ?_
 rintro l aB ⟨ar,rfl,rfl,ay⟩
 try dsimp only at hm
 refine sp 4<|rt<|⟨rfl,?_⟩
 obtain rfl:=si hm
 refine ⟨_,_,_,tk (.int .i32 ab) (tk (V a1) (ResL.nil)),ay,?_⟩
 exact rfl
 refine g0<|aP 2 I ?_ ?_ (kd:= .i32)<;>intro aC I
 refine xn 12<|dT<|sp 2<|rt<|⟨rfl,?_⟩
 obtain rfl:=si I
 obtain rfl:=si hm
 refine ⟨_,_,_,tk (.int .i32 (-1)) (tk (V 1) (ResL.nil)),ad,?_⟩
 exact rfl
 refine cz 2 I ?_ ?_ (kd:= .i32)<;>intro aD I
 refine xn 9<|dT<|sp 2<|rt<|⟨rfl,?_⟩
 obtain rfl:=si I
 obtain rfl:=si hm
 refine ⟨_,_,_,tk (.int .i32 (-1)) (tk (V 1) (ResL.nil)),ad,?_⟩
 exact rfl
 refine ct 3 I ?_ ?_ (kd:= .i32)<;>intro aE I
 refine e6 2 I ?_ ?_ (kd:= .i32)<;>intro aF I
 refine xn 2<|dT<|sp 2<|rt<|⟨rfl,?_⟩
 obtain rfl:=si I
 obtain rfl:=si hm
 refine ⟨_,_,_,tk (.int .i32 (-1)) (tk (V 1) (ResL.nil)),ad,?_⟩
 exact rfl
 refine xn 2<|dF<|sk ?_
 obtain rfl:=si I
 exact ⟨_,rfl,(by kernel_rfl),ad⟩
 refine xn 5<|dF<|sk ?_
 obtain rfl:=si I
 exact ⟨_,rfl,(by kernel_rfl),ad⟩
 refine bk 0<|lp [0,1,2,3,10] (fun n l h=>∃ au ae aj,correctorref1_sign_l0 F a0 a1 ah aa n ae aj=some an∧l=[(0,v2),(1,V a1),(2, .int .i32 ae),(3, .int .i32 aa),(10,V aj)]∧St hs [] Z (0,0) au h []) F ⟨_,ah,1,j,(by kernel_rfl),hS⟩ ?_
 rintro ao l aG ⟨au,ae,aj,j,rfl,J⟩
 rcases ao with _ | ao
 cases (show none=some an from j)
 rw [correctorref1_sign_l0] at j
 refine sq<|s0<|aP 2 j ?_ ?_<;>intro aH j
 refine xn 0<|dT<|sk<|sq<|bk 1<|sq<|s0<|a6 2 j (U.mono J.ag) ?_
 intro aJ j
 refine bh 0 0 (fun av=> .int .u8 (av.toNat:Int)) j (U.mono J.ag) J ?_
 intro av aK j
 refine aP 0 j ?_ ?_ (kd:= .u8)<;>intro aL j
 refine xn 7<|dT<|sp 2<|rt<|bw<|bw<|⟨rfl,?_⟩
 obtain rfl:=si j
 obtain rfl:=si hm
 refine ⟨_,_,_,tk (.int .i32 (-1)) (tk (V 1) (ResL.nil)),J,?_⟩
 exact rfl
 refine a6 3 j (U.mono J.ag) ?_
 intro aM j
 refine bh 0 0 (fun aw=> .int .u8 (aw.toNat:Int)) j (U.mono J.ag) J ?_
 intro aw aO j
 refine cz 0 j ?_ ?_ (kd:= .u8)<;>intro aR j
 refine xn 1<|dT<|sp 2<|rt<|bw<|bw<|⟨rfl,?_⟩
 obtain rfl:=si j
 obtain rfl:=si hm
 refine ⟨_,_,_,tk (.int .i32 (-1)) (tk (V 1) (ResL.nil)),J,?_⟩
 exact rfl
 refine xn 1<|dF<|sk<|g0<|a6 4 j (U.mono J.ag) ?_
 intro aT j
 refine bh 0 0 (fun al=> .int .u8 (al.toNat:Int)) j (U.mono J.ag) J ?_
 intro al aU j
 refine eD 1 (.int .i32 (IntKind.wrap .i32 (bz .u8 (al.toNat:Int) 63)))<|xn 2<|gp 3 ?_
 exact ⟨ao,Nat.lt_succ_self _,⟨_,a4 .i32 (uU .i32 ae 6) (IntKind.wrap .i32 (bz .u8 (al.toNat:Int) 63)),af (aj+1),j,(by kernel_rfl),J⟩⟩
 refine xn 0<|dF<|xt 0<|aN ?_
 obtain rfl:=si j
 exact ⟨_,ae,rfl,(by kernel_rfl),J⟩
def jj (F:Nat) (a0:List UInt8):Option (Int×Int):=
 if (a0.length:Int)=(0:Int) then
  some ((-1),0)
 else
  if 0≤(0:Int)∧(0:Int)<(a0.length:Int) then
   (a0[(0:Int).toNat]?).bind fun j=>
   ((if (j.toNat:Int)<(128:Int) then
     some (.inr (IntKind.wrap .i32 (j.toNat:Int),1))
    else
     ((if (192:Int)≤(j.toNat:Int) then
       if (j.toNat:Int)<(224:Int) then
        some true
       else
        some false
      else
       some false):Option Bool).bind fun o=>match o with
      | aa=>if aa=true then
       (jd F a0 2 (IntKind.wrap .i32 (bz .u8 (j.toNat:Int) 31)) 128).bind fun I=>
       some (.inr (I.1,I.2))
      else
       ((if (224:Int)≤(j.toNat:Int) then
         if (j.toNat:Int)<(240:Int) then
          some true
         else
          some false
        else
         some false):Option Bool).bind fun o=>match o with
        | ab=>if ab=true then
         (jd F a0 3 (IntKind.wrap .i32 (bz .u8 (j.toNat:Int) 15)) 2048).bind fun J=>
         some (.inr (J.1,J.2))
        else
         if (240:Int)≤(j.toNat:Int) then
          if (j.toNat:Int)<(248:Int) then
           (jd F a0 4 (IntKind.wrap .i32 (bz .u8 (j.toNat:Int) 7)) 65536).bind fun U=>
           some (.inr (U.1,U.2))
          else
           some (.inl ())
         else
          some (.inl ())):Option (Sum Unit (Int×Int))).bind fun o=>match o with
    | .inl ()=>some ((-1),1)
    | .inr y=>some y
  else none
theorem pE (F:Nat) {h:AH} {Z:Zn} {a0:List UInt8} {v2} (hI:Inv Z h) (ab:RS (α:=UInt8) Z v2 a0) {r:Int×Int} (hm:jj F a0=some r):
  bV Try.prog 60 [v2] h Z (.tuple #[.int .i32 r.1,V r.2]):=by
 refine bW Try.func60 hI ?_
 intro hs hS
 unfold jj at hm
 refine sp 2<|sq<|s0<|bG 1 v2 (RS.len ab)<|aE 0 hm ?_ ?_<;>intro aD hm
 refine xn 0<|dT<|sp 2<|rt<|⟨rfl,?_⟩
 obtain rfl:=si hm
 refine ⟨_,_,_,tk (.int .i32 (-1)) (tk (V 0) (ResL.nil)),hS,?_⟩
 exact rfl
 refine xn 0<|dF<|sk<|s0<|a6 1 hm ab ?_
 intro aF hm
 refine bh 0 0 (fun I=> .int .u8 (I.toNat:Int)) hm ab hS ?_
 intro I aG hm
 refine xn 1<|sq<|bk 0 ?_
 obtain ⟨ar,j,hm⟩:=ai hm
 refine dY [] (fun l h=>∃ ah, .inl ()=ar∧l=[]∧St hs [] Z (0,0) ah h []) (by kernel_rfl) ?_ ?_
 rintro l aH ⟨ah,rfl,rfl,au⟩
 try dsimp only at hm
 refine sp 2<|rt<|⟨rfl,?_⟩
 obtain rfl:=si hm
 refine ⟨_,_,_,tk (.int .i32 (-1)) (tk (V 1) (ResL.nil)),au,?_⟩
 exact rfl
 refine g0<|aP 1 j ?_ ?_ (kd:= .u8)<;>intro aJ j
 refine xn 1<|dT<|s0<|eD 1 (.int .i32 (IntKind.wrap .i32 (I.toNat:Int)))<|xn 2<|rt<|bw<|⟨rfl,?_⟩
 obtain rfl:=si j
 obtain rfl:=si hm
 refine ⟨_,_,_,tk (.int .i32 (IntKind.wrap .i32 (I.toNat:Int))) (tk (V 1) (ResL.nil)),hS,?_⟩
 exact rfl
 refine xn 1<|dF<|sq ?_
 obtain ⟨av,U,j⟩:=ai j
 refine aI [0,4,16] (fun l h=>∃ aj ae,ae=av∧l=[(0,v2),(4, .int .u8 (I.toNat:Int)),(16, .bool ae)]∧St hs [] Z (0,0) aj h []) ?_ ?_
 rintro l aK ⟨aj,ae,rfl,rfl,ad⟩
 try dsimp only at j
 refine db j ?_ ?_<;>intro aL j
 refine s0<|eD 3 (.int .i32 (IntKind.wrap .i32 (bz .u8 (I.toNat:Int) 31))) ?_
 obtain ⟨al,aw,j⟩:=ai j
 refine cP 0 ad (pX F ad.inv (ab.mono ad.ag) aw) ?_
 rintro _ aM ax rfl
 refine xn 4<|rt<|bw<|⟨rfl,?_⟩
 obtain rfl:=si j
 obtain rfl:=si hm
 refine ⟨_,_,_,tk (.int .i32 al.1) (tk (V al.2) (ResL.nil)),ax,?_⟩
 exact rfl
 refine sq ?_
 obtain ⟨ay,aa,j⟩:=ai j
 refine aI [0,4,30] (fun l h=>∃ an af,af=ay∧l=[(0,v2),(4, .int .u8 (I.toNat:Int)),(30, .bool af)]∧St hs [] Z (0,0) an h []) ?_ ?_
 rintro l aN ⟨an,af,rfl,rfl,J⟩
 try dsimp only at j
 refine db j ?_ ?_<;>intro aO j
 refine s0<|eD 3 (.int .i32 (IntKind.wrap .i32 (bz .u8 (I.toNat:Int) 15))) ?_
 obtain ⟨ao,az,j⟩:=ai j
 refine cP 0 J (pX F J.inv (ab.mono J.ag) az) ?_
 rintro _ aR aA rfl
 refine xn 4<|rt<|bw<|⟨rfl,?_⟩
 obtain rfl:=si j
 obtain rfl:=si hm
 refine ⟨_,_,_,tk (.int .i32 ao.1) (tk (V ao.2) (ResL.nil)),aA,?_⟩
 exact rfl
 refine s0<|ct 1 j ?_ ?_ (kd:= .u8)<;>intro aT j
 refine aP 2 j ?_ ?_ (kd:= .u8)<;>intro aU j
 refine xn 2<|dT<|s0<|eD 3 (.int .i32 (IntKind.wrap .i32 (bz .u8 (I.toNat:Int) 7))) ?_
 obtain ⟨aq,aB,j⟩:=ai j
 refine cP 0 J (pX F J.inv (ab.mono J.ag) aB) ?_
 rintro _ aV aC rfl
 refine xn 4<|rt<|bw<|⟨rfl,?_⟩
 obtain rfl:=si j
 obtain rfl:=si hm
 refine ⟨_,_,_,tk (.int .i32 aq.1) (tk (V aq.2) (ResL.nil)),aC,?_⟩
 exact rfl
 refine xn 2<|dF<|sk ?_
 obtain rfl:=si j
 exact ⟨_,rfl,(by kernel_rfl),J⟩
 refine xn 5<|dF<|sk ?_
 obtain rfl:=si j
 exact ⟨_,rfl,(by kernel_rfl),J⟩
 refine g0<|ct 1 aa ?_ ?_ (kd:= .u8)<;>intro aW aa
 refine aP 2 aa ?_ ?_ (kd:= .u8)<;>intro aX aa
 refine xn 2 ?_
 obtain rfl:=si aa
 exact ⟨_,true,rfl,(by kernel_rfl),ad⟩
 refine xn 2 ?_
 obtain rfl:=si aa
 exact ⟨_,false,rfl,(by kernel_rfl),ad⟩
 refine xn 5 ?_
 obtain rfl:=si aa
 exact ⟨_,false,rfl,(by kernel_rfl),ad⟩
 refine g0<|ct 1 U ?_ ?_ (kd:= .u8)<;>intro aY U
 refine aP 2 U ?_ ?_ (kd:= .u8)<;>intro aZ U
 refine xn 2 ?_
 obtain rfl:=si U
 exact ⟨_,true,rfl,(by kernel_rfl),hS⟩
 refine xn 2 ?_
 obtain rfl:=si U
 exact ⟨_,false,rfl,(by kernel_rfl),hS⟩
 refine xn 5 ?_
 obtain rfl:=si U
 exact ⟨_,false,rfl,(by kernel_rfl),hS⟩
def mu (F:Nat) (a0:Int):Option Bool:=
 if (97:Int)≤a0 then
  if a0≤(122:Int) then
   some true
  else
   if (65:Int)≤a0 then
    if a0≤(90:Int) then
     some true
    else
     if (48:Int)≤a0 then
      if a0≤(57:Int) then
       some true
      else
       if a0=(95:Int) then
        some true
       else
        if a0=(45:Int) then
         some true
        else
         some false
     else
      if a0=(95:Int) then
       some true
      else
       if a0=(45:Int) then
        some true
       else
        some false
   else
    if (48:Int)≤a0 then
     if a0≤(57:Int) then
      some true
     else
      if a0=(95:Int) then
       some true
      else
       if a0=(45:Int) then
        some true
       else
        some false
    else
     if a0=(95:Int) then
      some true
     else
      if a0=(45:Int) then
       some true
      else
       some false
 else
  if (65:Int)≤a0 then
   if a0≤(90:Int) then
    some true
   else
    if (48:Int)≤a0 then
     if a0≤(57:Int) then
      some true
     else
      if a0=(95:Int) then
       some true
      else
       if a0=(45:Int) then
        some true
       else
        some false
    else
     if a0=(95:Int) then
      some true
     else
      if a0=(45:Int) then
       some true
      else
       some false
  else
   if (48:Int)≤a0 then
    if a0≤(57:Int) then
     some true
    else
     if a0=(95:Int) then
      some true
     else
      if a0=(45:Int) then
       some true
      else
       some false
   else
    if a0=(95:Int) then
     some true
    else
     if a0=(45:Int) then
      some true
     else
      some false
theorem Ei (F:Nat) {h:AH} {Z:Zn} {a0:Int} (hI:Inv Z h) {r:Bool} (hm:mu F a0=some r):
  bV Try.prog 76 [.int .u8 a0] h Z (.bool r):=by
 refine bW Try.func76 hI ?_
 intro hs hS
 unfold mu at hm
 refine sp 1<|s0<|ct 1 hm ?_ ?_ (kd:= .u8)<;>intro j hm
 refine e6 2 hm ?_ ?_ (kd:= .u8)<;>intro I hm
 refine xn 26<|rt<|⟨rfl,?_⟩
 obtain rfl:=si hm
 refine ⟨_,_,_,tk (.bool true) (ResL.nil),hS,?_⟩
 exact rfl
 refine ct 3 hm ?_ ?_ (kd:= .u8)<;>intro J hm
 refine e6 2 hm ?_ ?_ (kd:= .u8)<;>intro U hm
 refine xn 19<|rt<|⟨rfl,?_⟩
 obtain rfl:=si hm
 refine ⟨_,_,_,tk (.bool true) (ResL.nil),hS,?_⟩
 exact rfl
 refine ct 4 hm ?_ ?_ (kd:= .u8)<;>intro aa hm
 refine e6 2 hm ?_ ?_ (kd:= .u8)<;>intro ab hm
 refine xn 11<|rt<|⟨rfl,?_⟩
 obtain rfl:=si hm
 refine ⟨_,_,_,tk (.bool true) (ResL.nil),hS,?_⟩
 exact rfl
 refine aE 4 hm ?_ ?_ (kd:= .u8)<;>intro ad hm
 refine xn 6<|rt<|⟨rfl,?_⟩
 obtain rfl:=si hm
 refine ⟨_,_,_,tk (.bool true) (ResL.nil),hS,?_⟩
 exact rfl
 refine aE 3 hm ?_ ?_ (kd:= .u8)<;>intro ae hm
 refine xn 2<|rt<|⟨rfl,?_⟩
 obtain rfl:=si hm
 refine ⟨_,_,_,tk (.bool true) (ResL.nil),hS,?_⟩
 exact rfl
 refine xn 2<|rt<|⟨rfl,?_⟩
 obtain rfl:=si hm
 refine ⟨_,_,_,tk (.bool false) (ResL.nil),hS,?_⟩
 exact rfl
 refine aE 7 hm ?_ ?_ (kd:= .u8)<;>intro af hm
 refine xn 6<|rt<|⟨rfl,?_⟩
 obtain rfl:=si hm
 refine ⟨_,_,_,tk (.bool true) (ResL.nil),hS,?_⟩
 exact rfl
 refine aE 3 hm ?_ ?_ (kd:= .u8)<;>intro ag hm
 refine xn 2<|rt<|⟨rfl,?_⟩
 obtain rfl:=si hm
 refine ⟨_,_,_,tk (.bool true) (ResL.nil),hS,?_⟩
 exact rfl
 refine xn 2<|rt<|⟨rfl,?_⟩
 obtain rfl:=si hm
 refine ⟨_,_,_,tk (.bool false) (ResL.nil),hS,?_⟩
 exact rfl
 refine ct 7 hm ?_ ?_ (kd:= .u8)<;>intro ah hm
 refine e6 2 hm ?_ ?_ (kd:= .u8)<;>intro ai hm
 refine xn 11<|rt<|⟨rfl,?_⟩
 obtain rfl:=si hm
 refine ⟨_,_,_,tk (.bool true) (ResL.nil),hS,?_⟩
 exact rfl
 refine aE 4 hm ?_ ?_ (kd:= .u8)<;>intro aj hm
 refine xn 6<|rt<|⟨rfl,?_⟩
 obtain rfl:=si hm
 refine ⟨_,_,_,tk (.bool true) (ResL.nil),hS,?_⟩
 exact rfl
 refine aE 3 hm ?_ ?_ (kd:= .u8)<;>intro al hm
 refine xn 2<|rt<|⟨rfl,?_⟩
 obtain rfl:=si hm
 refine ⟨_,_,_,tk (.bool true) (ResL.nil),hS,?_⟩
 exact rfl
 refine xn 2<|rt<|⟨rfl,?_⟩
 obtain rfl:=si hm
 refine ⟨_,_,_,tk (.bool false) (ResL.nil),hS,?_⟩
 exact rfl
 refine aE 7 hm ?_ ?_ (kd:= .u8)<;>intro an hm
 refine xn 6<|rt<|⟨rfl,?_⟩
 obtain rfl:=si hm
 refine ⟨_,_,_,tk (.bool true) (ResL.nil),hS,?_⟩
 exact rfl
 refine aE 3 hm ?_ ?_ (kd:= .u8)<;>intro ao hm
 refine xn 2<|rt<|⟨rfl,?_⟩
 obtain rfl:=si hm
 refine ⟨_,_,_,tk (.bool true) (ResL.nil),hS,?_⟩
 exact rfl
 refine xn 2<|rt<|⟨rfl,?_⟩
 obtain rfl:=si hm
 refine ⟨_,_,_,tk (.bool false) (ResL.nil),hS,?_⟩
 exact rfl
 refine ct 6 hm ?_ ?_ (kd:= .u8)<;>intro aq hm
 refine e6 2 hm ?_ ?_ (kd:= .u8)<;>intro ar hm
 refine xn 19<|rt<|⟨rfl,?_⟩
 obtain rfl:=si hm
 refine ⟨_,_,_,tk (.bool true) (ResL.nil),hS,?_⟩
 exact rfl
 refine ct 4 hm ?_ ?_ (kd:= .u8)<;>intro au hm
 refine e6 2 hm ?_ ?_ (kd:= .u8)<;>intro av hm
 refine xn 11<|rt<|⟨rfl,?_⟩
 obtain rfl:=si hm
 refine ⟨_,_,_,tk (.bool true) (ResL.nil),hS,?_⟩
 exact rfl
 refine aE 4 hm ?_ ?_ (kd:= .u8)<;>intro aw hm
 refine xn 6<|rt<|⟨rfl,?_⟩
 obtain rfl:=si hm
 refine ⟨_,_,_,tk (.bool true) (ResL.nil),hS,?_⟩
 exact rfl
 refine aE 3 hm ?_ ?_ (kd:= .u8)<;>intro ax hm
 refine xn 2<|rt<|⟨rfl,?_⟩
 obtain rfl:=si hm
 refine ⟨_,_,_,tk (.bool true) (ResL.nil),hS,?_⟩
 exact rfl
 refine xn 2<|rt<|⟨rfl,?_⟩
 obtain rfl:=si hm
 refine ⟨_,_,_,tk (.bool false) (ResL.nil),hS,?_⟩
 exact rfl
 refine aE 7 hm ?_ ?_ (kd:= .u8)<;>intro ay hm
 refine xn 6<|rt<|⟨rfl,?_⟩
 obtain rfl:=si hm
 refine ⟨_,_,_,tk (.bool true) (ResL.nil),hS,?_⟩
 exact rfl
 refine aE 3 hm ?_ ?_ (kd:= .u8)<;>intro az hm
 refine xn 2<|rt<|⟨rfl,?_⟩
 obtain rfl:=si hm
 refine ⟨_,_,_,tk (.bool true) (ResL.nil),hS,?_⟩
 exact rfl
 refine xn 2<|rt<|⟨rfl,?_⟩
 obtain rfl:=si hm
 refine ⟨_,_,_,tk (.bool false) (ResL.nil),hS,?_⟩
 exact rfl
 refine ct 7 hm ?_ ?_ (kd:= .u8)<;>intro aA hm
 refine e6 2 hm ?_ ?_ (kd:= .u8)<;>intro aB hm
 refine xn 11<|rt<|⟨rfl,?_⟩
 obtain rfl:=si hm
 refine ⟨_,_,_,tk (.bool true) (ResL.nil),hS,?_⟩
 exact rfl
 refine aE 4 hm ?_ ?_ (kd:= .u8)<;>intro aC hm
 refine xn 6<|rt<|⟨rfl,?_⟩
 obtain rfl:=si hm
 refine ⟨_,_,_,tk (.bool true) (ResL.nil),hS,?_⟩
 exact rfl
 refine aE 3 hm ?_ ?_ (kd:= .u8)<;>intro aD hm
 refine xn 2<|rt<|⟨rfl,?_⟩
 obtain rfl:=si hm
 refine ⟨_,_,_,tk (.bool true) (ResL.nil),hS,?_⟩
 exact rfl
 refine xn 2<|rt<|⟨rfl,?_⟩
 obtain rfl:=si hm
 refine ⟨_,_,_,tk (.bool false) (ResL.nil),hS,?_⟩
 exact rfl
 refine aE 7 hm ?_ ?_ (kd:= .u8)<;>intro aF hm
 refine xn 6<|rt<|⟨rfl,?_⟩
 obtain rfl:=si hm
 refine ⟨_,_,_,tk (.bool true) (ResL.nil),hS,?_⟩
 exact rfl
 refine aE 3 hm ?_ ?_ (kd:= .u8)<;>intro aG hm
 refine xn 2<|rt<|⟨rfl,?_⟩
 obtain rfl:=si hm
 refine ⟨_,_,_,tk (.bool true) (ResL.nil),hS,?_⟩
 exact rfl
 refine xn 2<|rt<|⟨rfl,?_⟩
 obtain rfl:=si hm
 refine ⟨_,_,_,tk (.bool false) (ResL.nil),hS,?_⟩
 exact rfl
def kN (F:Nat) (a0:aF) (a1:Int) (I:Bool):Nat→Int→Option Int
 | 0,_=>none
 | n+1,j=>
  ((if j<(a0.B.length:Int) then
    if 0≤j∧j<(a0.B.length:Int) then
     (a0.B[j.toNat]?).bind fun J=>
     (mu F (J.toNat:Int)).bind fun U=>
     if U=true then
      some (.inl ())
     else
      if I=true then
       if 0≤j∧j<(a0.B.length:Int) then
        (a0.B[j.toNat]?).bind fun aa=>
        if (aa.toNat:Int)=(33:Int) then
         some (.inl ())
        else
         some (.inr j)
       else none
      else
       some (.inr j)
    else none
   else
    some (.inr j)):Option (Sum Unit Int)).bind fun o=>match o with
   | .inl ()=>kN F a0 a1 I n (af (j+1))
   | .inr y=>some y
def lg (F:Nat) (a0:aF) (a1:Int) (j:Bool):Option Int:=
 ((kN F a0 a1 j F a1):Option Int).bind fun o=>match o with
  | I=>some I
theorem tz (F:Nat) {h:AH} {Z:Zn} {a0:aF} {a1:Int} {ad:Bool} {ah aa aq} (hI:Inv Z h) (ae:RS (α:=UInt8) Z aa a0.B) (aC:RS (α:=ak) Z aq a0.L) (al:Z ah=some (ba aa aq a0)) {r:Int} (hm:lg F a0 a1 ad=some r):
  bV Try.prog 61 [Pt ah 0,V a1, .bool ad] h Z (V r):=by
 refine bW Try.func61 hI ?_
 intro hs hS
 unfold lg at hm
 refine sp 1<|sq ?_
 obtain ⟨an,J,hm⟩:=ai hm
 refine aI [1] (fun l h=>∃ ar aj,aj=an∧l=[(1,V aj)]∧St hs [] Z (0,0) ar h []) ?_ ?_
 rintro l aD ⟨ar,aj,rfl,rfl,ay⟩
 try dsimp only at hm
 refine sp 2<|rt<|⟨rfl,?_⟩
 obtain rfl:=si hm
 refine ⟨_,_,_,tk (V aj) (ResL.nil),ay,?_⟩
 exact rfl
 refine bk 0<|lp [0,1,2] (fun n l h=>∃ au U,kN F a0 a1 ad n U=some an∧l=[(0,Pt ah 0),(1,V U),(2, .bool ad)]∧St hs [] Z (0,0) au h []) F ⟨_,a1,J,(by kernel_rfl),hS⟩ ?_
 rintro ao l aG ⟨au,U,J,rfl,I⟩
 rcases ao with _ | ao
 cases (show none=some an from J)
 rw [kN] at J
 refine sq ?_
 obtain ⟨az,j,J⟩:=ai J
 refine aI [0,1,2] (fun l h=>∃ av, .inl ()=az∧l=[(0,Pt ah 0),(1,V U),(2, .bool ad)]∧St hs [] Z (0,0) av h []) ?_ ?_
 rintro l aH ⟨av,rfl,rfl,aA⟩
 try dsimp only at J
 refine bk 1<|gp 3 ?_
 exact ⟨ao,Nat.lt_succ_self _,⟨_,af (U+1),J,(by kernel_rfl),aA⟩⟩
 refine s0<|bu 4 aa I (I.ag _ _ al)<|bG 0 aa (RS.len (ae.mono I.ag))<|aP 0 j ?_ ?_<;>intro aJ j
 refine bu 4 aa I (I.ag _ _ al)<|a6 1 j (ae.mono I.ag) ?_
 intro aK j
 refine bh 0 0 (fun aw=> .int .u8 (aw.toNat:Int)) j (ae.mono I.ag) I ?_
 intro aw aL j
 obtain ⟨aM,aB,j⟩:=ai j
 refine cP 0 I (Ei F I.inv aB) ?_
 rintro _ aO ab rfl
 refine kb 1 23 j ?_ ?_<;>intro aR j
 refine xn 13<|dT<|sk ?_
 obtain rfl:=si j
 exact ⟨_,rfl,(by kernel_rfl),ab⟩
 refine kb 2 25 j ?_ ?_<;>intro aT j
 refine bu 3 aa ab (I.ag _ _ al)<|a6 1 j (ae.mono I.ag) ?_
 intro aU j
 refine bh 0 0 (fun ax=> .int .u8 (ax.toNat:Int)) j (ae.mono I.ag) ab ?_
 intro ax aV j
 refine aE 0 j ?_ ?_ (kd:= .u8)<;>intro aW j
 refine xn 3<|dT<|sk ?_
 obtain rfl:=si j
 exact ⟨_,rfl,(by kernel_rfl),ab⟩
 refine xn 3<|dF<|xt 0<|aN ?_
 obtain rfl:=si j
 obtain rfl:=si J
 exact ⟨_,U,rfl,(by kernel_rfl),ab⟩
 refine xn 11<|dF<|xt 0<|aN ?_
 obtain rfl:=si j
 obtain rfl:=si J
 exact ⟨_,U,rfl,(by kernel_rfl),ab⟩
 refine xn 23<|dF<|xt 0<|aN ?_
 obtain rfl:=si j
 obtain rfl:=si J
 exact ⟨_,U,rfl,(by kernel_rfl),I⟩
def kO (F:Nat) (a0:Int):Option Bool:=
 if a0=(44:Int) then
  some true
 else
  if a0=(91:Int) then
   some true
  else
   if a0=(93:Int) then
    some true
   else
    if a0=(123:Int) then
     some true
    else
     if a0=(125:Int) then
      some true
     else
      some false
theorem qw (F:Nat) {h:AH} {Z:Zn} {a0:Int} (hI:Inv Z h) {r:Bool} (hm:kO F a0=some r):
  bV Try.prog 77 [.int .u8 a0] h Z (.bool r):=by
 refine bW Try.func77 hI ?_
 intro hs hS
 unfold kO at hm
 refine sp 1<|s0<|aE 1 hm ?_ ?_ (kd:= .u8)<;>intro j hm
 refine xn 17<|rt<|⟨rfl,?_⟩
 obtain rfl:=si hm
 refine ⟨_,_,_,tk (.bool true) (ResL.nil),hS,?_⟩
 exact rfl
 refine aE 2 hm ?_ ?_ (kd:= .u8)<;>intro I hm
 refine xn 14<|rt<|⟨rfl,?_⟩
 obtain rfl:=si hm
 refine ⟨_,_,_,tk (.bool true) (ResL.nil),hS,?_⟩
 exact rfl
 refine aE 3 hm ?_ ?_ (kd:= .u8)<;>intro J hm
 refine xn 10<|rt<|⟨rfl,?_⟩
 obtain rfl:=si hm
 refine ⟨_,_,_,tk (.bool true) (ResL.nil),hS,?_⟩
 exact rfl
 refine aE 3 hm ?_ ?_ (kd:= .u8)<;>intro U hm
 refine xn 6<|rt<|⟨rfl,?_⟩
 obtain rfl:=si hm
 refine ⟨_,_,_,tk (.bool true) (ResL.nil),hS,?_⟩
 exact rfl
 refine aE 3 hm ?_ ?_ (kd:= .u8)<;>intro aa hm
 refine xn 2<|rt<|⟨rfl,?_⟩
 obtain rfl:=si hm
 refine ⟨_,_,_,tk (.bool true) (ResL.nil),hS,?_⟩
 exact rfl
 refine xn 2<|rt<|⟨rfl,?_⟩
 obtain rfl:=si hm
 refine ⟨_,_,_,tk (.bool false) (ResL.nil),hS,?_⟩
 exact rfl
def l6 (F:Nat) (a0:aF) (a1:Int):Option Bool:=
 (iq F a0 a1).bind fun j=>
 if (j.toNat:Int)=(58:Int) then
  if a1<(a0.B.length:Int) then
   (jF F a0 (af (a1+1))).bind fun I=>
   if I=true then
    some true
   else
    if (0:Int)<a0.Open then
     (iq F a0 (af (a1+1))).bind fun J=>
     (kO F (J.toNat:Int)).bind fun U=>
     some U
    else
     some false
  else
   some false
 else
  some false
theorem sX (F:Nat) {h:AH} {Z:Zn} {a0:aF} {a1:Int} {ad U ae} (hI:Inv Z h) (aa:RS (α:=UInt8) Z U a0.B) (ab:RS (α:=ak) Z ae a0.L) (j:Z ad=some (ba U ae a0)) {r:Bool} (hm:l6 F a0 a1=some r):
  bV Try.prog 62 [Pt ad 0,V a1] h Z (.bool r):=by
 refine bW Try.func62 hI ?_
 intro hs hS
 unfold l6 at hm
 refine sp 1<|s0 ?_
 obtain ⟨aq,ag,hm⟩:=ai hm
 refine cP 2 hS (mN F hS.inv aa ab j ag) ?_
 rintro _ ar I rfl
 refine aE 0 hm ?_ ?_ (kd:= .u8)<;>intro au hm
 refine bu 5 U I j<|bG 0 U (RS.len aa)<|aP 0 hm ?_ ?_<;>intro av hm
 obtain ⟨aw,ah,hm⟩:=ai hm
 refine cP 5 I (qY F I.inv aa ab j ah) ?_
 rintro _ ax J rfl
 refine kb 1 23 hm ?_ ?_<;>intro ay hm
 refine xn 15<|rt<|⟨rfl,?_⟩
 obtain rfl:=si hm
 refine ⟨_,_,_,tk (.bool true) (ResL.nil),J,?_⟩
 exact rfl
 refine bu 3 (V a0.Open) J j<|cz 0 hm ?_ ?_<;>intro az hm
 obtain ⟨aA,aj,hm⟩:=ai hm
 refine cP 4 J (mN F J.inv aa ab j aj) ?_
 rintro _ aB af rfl
 obtain ⟨al,an,hm⟩:=ai hm
 refine cP 0 af (qw F af.inv an) ?_
 rintro _ aC ao rfl
 refine xn 4<|rt<|⟨rfl,?_⟩
 obtain rfl:=si hm
 refine ⟨_,_,_,tk (.bool al) (ResL.nil),ao,?_⟩
 exact rfl
 refine xn 10<|rt<|⟨rfl,?_⟩
 obtain rfl:=si hm
 refine ⟨_,_,_,tk (.bool false) (ResL.nil),J,?_⟩
 exact rfl
 refine xn 22<|rt<|⟨rfl,?_⟩
 obtain rfl:=si hm
 refine ⟨_,_,_,tk (.bool false) (ResL.nil),I,?_⟩
 exact rfl
 refine xn 30<|rt<|⟨rfl,?_⟩
 obtain rfl:=si hm
 refine ⟨_,_,_,tk (.bool false) (ResL.nil),I,?_⟩
 exact rfl
def correctorref6_scanner_single_l0 (F:Nat) (a0:aF) (a1:Int) (I:Int):Nat→Int→Option (Sum Unit Int)
 | 0,_=>none
 | n+1,j=>
  if j<I then
   ((if 0≤j∧j<(a0.B.length:Int) then
     (a0.B[j.toNat]?).bind fun J=>
     if (J.toNat:Int)=(39:Int) then
      ((if (af (j+1))<I then
        if 0≤(af (j+1))∧(af (j+1))<(a0.B.length:Int) then
         (a0.B[(af (j+1)).toNat]?).bind fun U=>
         if (U.toNat:Int)=(39:Int) then
          some (.inr (af (j+2)))
         else
          some (.inl ())
        else none
       else
        some (.inl ())):Option (Sum Unit Int)).bind fun o=>match o with
       | .inl ()=>some (.inr (af (j+1)))
       | .inr y=>some (.inl y)
     else
      some (.inl (af (j+1)))
    else none):Option (Sum Int Int)).bind fun o=>match o with
    | .inl aa=>correctorref6_scanner_single_l0 F a0 a1 I n aa
    | .inr y=>some (.inr y)
  else
   some (.inl ())
def na (F:Nat) (a0:aF) (a1:Int) (j:Int):Option Int:=
 ((correctorref6_scanner_single_l0 F a0 a1 j F a1):Option (Sum Unit Int)).bind fun o=>match o with
  | .inl ()=>some j
  | .inr y=>some y
theorem Bq (F:Nat) {h:AH} {Z:Zn} {a0:aF} {a1:Int} {aa:Int} {ad ae ao} (hI:Inv Z h) (ah:RS (α:=UInt8) Z ae a0.B) (aG:RS (α:=ak) Z ao a0.L) (aq:Z ad=some (ba ae ao a0)) {r:Int} (hm:na F a0 a1 aa=some r):
  bV Try.prog 63 [Pt ad 0,V a1,V aa] h Z (V r):=by
 refine bW Try.func63 hI ?_
 intro hs hS
 unfold na at hm
 refine sp 1<|sq ?_
 obtain ⟨al,I,hm⟩:=ai hm
 refine aI [2] (fun l h=>∃ ar, .inl ()=al∧l=[(2,V aa)]∧St hs [] Z (0,0) ar h []) ?_ ?_
 rintro l aH ⟨ar,rfl,rfl,az⟩
 try dsimp only at hm
 refine sp 2<|rt<|⟨rfl,?_⟩
 obtain rfl:=si hm
 refine ⟨_,_,_,tk (V aa) (ResL.nil),az,?_⟩
 exact rfl
 refine bk 0<|lp [0,1,2] (fun n l h=>∃ au ab,correctorref6_scanner_single_l0 F a0 a1 aa n ab=some al∧l=[(0,Pt ad 0),(1,V ab),(2,V aa)]∧St hs [] Z (0,0) au h []) F ⟨_,a1,I,(by kernel_rfl),hS⟩ ?_
 rintro an l aJ ⟨au,ab,I,rfl,j⟩
 rcases an with _ | an
 cases (show none=some al from I)
 rw [correctorref6_scanner_single_l0] at I
 refine sq<|s0<|aP 2 I ?_ ?_<;>intro aK I
 refine xn 0<|dT<|sk ?_
 obtain ⟨aA,J,I⟩:=ai I
 refine aI [0,1,2] (fun l h=>∃ av aj, .inl aj=aA∧l=[(0,Pt ad 0),(1,V aj),(2,V aa)]∧St hs [] Z (0,0) av h []) ?_ ?_
 rintro l aL ⟨av,aj,rfl,rfl,aB⟩
 try dsimp only at I
 exact ⟨an,Nat.lt_succ_self _,⟨_,aj,I,(by kernel_rfl),aB⟩⟩
 refine bk 1<|sq<|s0<|bu 3 ae j (j.ag _ _ aq)<|a6 1 J (ah.mono j.ag) ?_
 intro aM J
 refine bh 0 0 (fun aw=> .int .u8 (aw.toNat:Int)) J (ah.mono j.ag) j ?_
 intro aw aO J
 refine c7 0 J ?_ ?_ (kd:= .u8)<;>intro aR J
 refine xn 0<|dF<|sk<|sq ?_
 obtain ⟨aC,U,J⟩:=ai J
 refine dY [1] (fun l h=>∃ ax, .inl ()=aC∧l=[(1,V ab)]∧St hs [] Z (0,0) ax h []) (by kernel_rfl) ?_ ?_
 rintro l aT ⟨ax,rfl,rfl,aD⟩
 try dsimp only at J
 refine sp 3<|rt<|bw<|bw<|⟨rfl,?_⟩
 obtain rfl:=si J
 obtain rfl:=si I
 obtain rfl:=si hm
 refine ⟨_,_,_,tk (V (af (ab+1))) (ResL.nil),aD,?_⟩
 exact rfl
 refine g0<|aP 3 U ?_ ?_<;>intro aU U
 refine bu 4 ae j (j.ag _ _ aq)<|a6 2 U (ah.mono j.ag) ?_
 intro aV U
 refine bh 0 0 (fun ay=> .int .u8 (ay.toNat:Int)) U (ah.mono j.ag) j ?_
 intro ay aW U
 refine aE 0 U ?_ ?_ (kd:= .u8)<;>intro aX U
 refine xn 1<|dT<|sp 3<|xt 1<|aN ?_
 obtain rfl:=si U
 obtain rfl:=si J
 exact ⟨_,af (ab+2),rfl,(by kernel_rfl),j⟩
 refine xn 1<|dF<|sk ?_
 obtain rfl:=si U
 exact ⟨_,rfl,(by kernel_rfl),j⟩
 refine xn 11<|dF<|sk ?_
 obtain rfl:=si U
 exact ⟨_,rfl,(by kernel_rfl),j⟩
 refine xn 0<|dT<|sp 3<|xt 1<|aN ?_
 obtain rfl:=si J
 exact ⟨_,af (ab+1),rfl,(by kernel_rfl),j⟩
 refine xn 0<|dF<|xt 0<|aN ?_
 obtain rfl:=si I
 exact ⟨_,rfl,(by kernel_rfl),j⟩
def la (F:Nat) (a0:aF) (a1:Int) (I:Int):Nat→Int→Option (Sum Unit Int)
 | 0,_=>none
 | n+1,j=>
  if j<I then
   if 0≤j∧j<(a0.B.length:Int) then
    (a0.B[j.toNat]?).bind fun J=>
    if (J.toNat:Int)=(34:Int) then
     some (.inr (af (j+1)))
    else
     ((if 0≤j∧j<(a0.B.length:Int) then
       (a0.B[j.toNat]?).bind fun U=>
       if (U.toNat:Int)=(92:Int) then
        some (af (j+1))
       else
        some j
      else none):Option Int).bind fun o=>match o with
      | aa=>la F a0 a1 I n (af (aa+1))
   else none
  else
   some (.inl ())
def n8 (F:Nat) (a0:aF) (a1:Int) (j:Int):Option Int:=
 ((la F a0 a1 j F a1):Option (Sum Unit Int)).bind fun o=>match o with
  | .inl ()=>some j
  | .inr y=>some y
theorem BQ (F:Nat) {h:AH} {Z:Zn} {a0:aF} {a1:Int} {U:Int} {ab ad an} (hI:Inv Z h) (ae:RS (α:=UInt8) Z ad a0.B) (aA:RS (α:=ak) Z an a0.L) (ao:Z ab=some (ba ad an a0)) {r:Int} (hm:n8 F a0 a1 U=some r):
  bV Try.prog 64 [Pt ab 0,V a1,V U] h Z (V r):=by
 refine bW Try.func64 hI ?_
 intro hs hS
 unfold n8 at hm
 refine sp 1<|sq ?_
 obtain ⟨aj,j,hm⟩:=ai hm
 refine aI [2] (fun l h=>∃ aq, .inl ()=aj∧l=[(2,V U)]∧St hs [] Z (0,0) aq h []) ?_ ?_
 rintro l aB ⟨aq,rfl,rfl,ax⟩
 try dsimp only at hm
 refine sp 2<|rt<|⟨rfl,?_⟩
 obtain rfl:=si hm
 refine ⟨_,_,_,tk (V U) (ResL.nil),ax,?_⟩
 exact rfl
 refine bk 0<|lp [0,1,2] (fun n l h=>∃ ar aa,la F a0 a1 U n aa=some aj∧l=[(0,Pt ab 0),(1,V aa),(2,V U)]∧St hs [] Z (0,0) ar h []) F ⟨_,a1,j,(by kernel_rfl),hS⟩ ?_
 rintro al l aC ⟨ar,aa,j,rfl,I⟩
 rcases al with _ | al
 cases (show none=some aj from j)
 rw [la] at j
 refine sq<|s0<|aP 2 j ?_ ?_<;>intro aD j
 refine xn 0<|dT<|sk<|bk 1<|sq<|s0<|bu 3 ad I (I.ag _ _ ao)<|a6 1 j (ae.mono I.ag) ?_
 intro aG j
 refine bh 0 0 (fun au=> .int .u8 (au.toNat:Int)) j (ae.mono I.ag) I ?_
 intro au aH j
 refine aE 0 j ?_ ?_ (kd:= .u8)<;>intro aJ j
 refine xn 0<|dT<|sp 3<|rt<|bw<|bw<|⟨rfl,?_⟩
 obtain rfl:=si j
 obtain rfl:=si hm
 refine ⟨_,_,_,tk (V (af (aa+1))) (ResL.nil),I,?_⟩
 exact rfl
 refine xn 0<|dF<|sk<|sq ?_
 obtain ⟨ay,J,j⟩:=ai j
 refine dY [0,1,2] (fun l h=>∃ av ah,ah=ay∧l=[(0,Pt ab 0),(1,V ah),(2,V U)]∧St hs [] Z (0,0) av h []) (by kernel_rfl) ?_ ?_
 rintro l aK ⟨av,ah,rfl,rfl,az⟩
 try dsimp only at j
 refine gp 3 ?_
 exact ⟨al,Nat.lt_succ_self _,⟨_,af (ah+1),j,(by kernel_rfl),az⟩⟩
 refine g0<|bu 3 ad I (I.ag _ _ ao)<|a6 1 J (ae.mono I.ag) ?_
 intro aL J
 refine bh 0 0 (fun aw=> .int .u8 (aw.toNat:Int)) J (ae.mono I.ag) I ?_
 intro aw aM J
 refine aE 0 J ?_ ?_ (kd:= .u8)<;>intro aO J
 refine xn 0<|dT<|gp 3 ?_
 obtain rfl:=si J
 exact ⟨_,af (aa+1),rfl,(by kernel_rfl),I⟩
 refine xn 0<|dF<|sk ?_
 obtain rfl:=si J
 exact ⟨_,aa,rfl,(by kernel_rfl),I⟩
 refine xn 0<|dF<|xt 0<|aN ?_
 obtain rfl:=si j
 exact ⟨_,rfl,(by kernel_rfl),I⟩
def Au:List bq:=[uP 6 (mv 0),uP 7 (nk 6),uP 8 (fa 81 7 0),uL 9 (ld 31 8),uP 10 (mv 0),uP 11 (nk 10),uP 12 (fa 81 11 1),uL 13 (ld 3 12),uP 14 (ia 31 9 13),uL 15 (ld 5 14),uP 3 (sg 15)]
def gM (F:Nat) (a0:aF):Nat→Int→Int→Option (Int×Int)
 | 0,_,_=>none
 | n+1,I,j=>
  if j<(a0.B.length:Int) then
   if 0≤j∧j<(a0.B.length:Int) then
    (a0.B[j.toNat]?).bind fun J=>
    (gu F (J.toNat:Int)).bind fun U=>
    if U=true then
     gM F a0 n I (af (j+1))
    else
     some (I,j)
   else none
  else
   some (I,j)
def ib (F:Nat) (a0:aF):Option Int:=
 if 0≤a0.At∧a0.At<(a0.B.length:Int) then
  (a0.B[a0.At.toNat]?).bind fun I=>
  ((if (I.toNat:Int)=(124:Int) then
    if (0:Int)<a0.Open then
     some (.inr 0)
    else
     some (.inl ())
   else
    if (I.toNat:Int)=(62:Int) then
     if (0:Int)<a0.Open then
      some (.inr 0)
     else
      some (.inl ())
    else
     some (.inr 0)):Option (Sum Unit Int)).bind fun o=>match o with
   | .inl ()=>(((iq F a0 (af (a0.At+1))).bind fun aa=>
    if (aa.toNat:Int)=(43:Int) then
     some (af ((af (a0.At+1))+1))
    else
     (iq F a0 (af (a0.At+1))).bind fun ab=>
     if (ab.toNat:Int)=(45:Int) then
      some (af ((af (a0.At+1))+1))
     else
      some (af (a0.At+1))):Option Int).bind fun o=>match o with
    | J=>((gM F a0 F J J):Option (Int×Int)).bind fun o=>match o with
     | (U,j)=>((if j<(a0.B.length:Int) then
       (correctorref2_Break F a0.B j).bind fun ad=>
       if ad=(0:Int) then
        if 0≤j∧j<(a0.B.length:Int) then
         (a0.B[j.toNat]?).bind fun ae=>
         if (ae.toNat:Int)=(35:Int) then
          if U<j then
           some (.inl ())
          else
           some (.inr 0)
         else
          some (.inr 0)
        else none
       else
        some (.inl ())
      else
       some (.inl ())):Option (Sum Unit Int)).bind fun o=>match o with
      | .inl ()=>some (af (U - a0.At))
      | .inr y=>some y
   | .inr y=>some y
 else none
theorem ta (F:Nat) {h:AH} {Z:Zn} {a0:aF} {ab ad aJ} (hI:Inv Z h) (ae:RS (α:=UInt8) Z ad a0.B) (aL:RS (α:=ak) Z aJ a0.L) (J:Z ab=some (ba ad aJ a0)) {r:Int} (hm:ib F a0=some r):
  bV Try.prog 65 [Pt ab 0] h Z (V r):=by
 refine bW Try.func65 hI ?_
 intro hs hS
 unfold ib at hm
 refine sp 1<|cU Au hS ?_
 intro bj bl bm ax
 refine yq 3 [(8,Pt ab 0),(0,Pt ab 0)]<|cM rfl rfl trivial (fun h2 hz=>lU (v:=ad) h2 hz J rfl (by kernel_rfl)) (ax.b1 (aO.refl _)) (aC (v:=ad) (RS.dZ ae)) trivial<|yq 3 [(12,Pt ab 1),(9,ad),(0,Pt ab 0)]<|cM rfl rfl trivial (fun h2 hz=>lU (v:=V a0.At) h2 hz J rfl (by kernel_rfl)) (ax.b1 (aO.refl _)) (aC (v:=V a0.At) trivial) trivial ?_
 obtain ⟨aM,hm⟩:=aK hm
 refine aG rfl trivial (bF rfl rfl (by kernel_rfl:slTy _ _=some (aa UInt8)) (RS.c8 ae (by omega)) aM.1 aM.2) ?_
 obtain ⟨ay,a2,hm⟩:=ai hm
 obtain ⟨bn,a3,a4⟩:=RS.cy ae (i:=a0.At) a2
 obtain rfl:=o4 a3
 refine cM rfl rfl trivial (fun h2 hz=>bL (w:= .int .u8 (ay.toNat:Int)) (a4 h2 hz) rfl (by kernel_rfl)) (ax.b1 (aO.refl _)) (aC (v:= .int .u8 (ay.toNat:Int)) trivial) trivial<|ye 1 [(3, .int .u8 (ay.toNat:Int)),(0,Pt ab 0)] ?_
 have ao:=ax.a5
 refine sq ?_
 obtain ⟨a7,U,hm⟩:=ai hm
 refine aI [0] (fun l h=>∃ aR, .inl ()=a7∧l=[(0,Pt ab 0)]∧St hs [] Z (0,0) aR h []) ?_ ?_
 rintro l bo ⟨aR,rfl,rfl,an⟩
 try dsimp only at hm
 refine s0<|bu 3 (V a0.At) an (an.ag _ _ J)<|xn 2<|sq ?_
 obtain ⟨a8,aj,hm⟩:=ai hm
 refine aI [0,4] (fun l h=>∃ aT av,av=a8∧l=[(0,Pt ab 0),(4,V av)]∧St hs [] Z (0,0) aT h []) ?_ ?_
 rintro l bp ⟨aT,av,rfl,rfl,a9⟩
 try dsimp only at hm
 refine sp 2<|sq ?_
 obtain ⟨az,I,hm⟩:=ai hm
 refine aI [0,4,5] (fun l h=>∃ aU aw aA,(aw,aA)=az∧l=[(0,Pt ab 0),(4,V aw),(5,V aA)]∧St hs [] Z (0,0) aU h []) ?_ ?_
 rintro l br ⟨aU,aw,aA,rfl,rfl,ah⟩
 try dsimp only at hm
 refine sq ?_
 obtain ⟨bb,j,hm⟩:=ai hm
 refine dY [0,4] (fun l h=>∃ aV, .inl ()=bb∧l=[(0,Pt ab 0),(4,V aw)]∧St hs [] Z (0,0) aV h []) (by kernel_rfl) ?_ ?_
 rintro l bt ⟨aV,rfl,rfl,aB⟩
 try dsimp only at hm
 refine s0<|bu 4 (V a0.At) aB (aB.ag _ _ J)<|xn 2<|rt<|⟨rfl,?_⟩
 obtain rfl:=si hm
 refine ⟨_,_,_,tk (V (af (aw - a0.At))) (ResL.nil),aB,?_⟩
 exact rfl
 refine g0<|bu 4 ad ah (ah.ag _ _ J)<|bG 0 ad (RS.len (ae.mono ah.ag))<|aP 0 j ?_ ?_<;>intro bw j
 refine bu 4 ad ah (ah.ag _ _ J) ?_
 obtain ⟨bx,bc,j⟩:=ai j
 refine cP 1 ah (mb F ah.inv (ae.mono ah.ag) bc) ?_
 rintro _ bz aq rfl
 refine aE 0 j ?_ ?_<;>intro bA j
 refine bu 5 ad aq (ah.ag _ _ J)<|a6 1 j (ae.mono ah.ag) ?_
 intro bB j
 refine bh 0 0 (fun aW=> .int .u8 (aW.toNat:Int)) j (ae.mono ah.ag) aq ?_
 intro aW bC j
 refine aE 0 j ?_ ?_ (kd:= .u8)<;>intro bD j
 refine cz 3 j ?_ ?_<;>intro bE j
 refine xn 3<|dF<|sk ?_
 obtain rfl:=si j
 exact ⟨_,rfl,(by kernel_rfl),aq⟩
 refine xn 3<|dT<|sp 1<|rt<|⟨rfl,?_⟩
 obtain rfl:=si j
 obtain rfl:=si hm
 refine ⟨_,_,_,tk (V 0) (ResL.nil),aq,?_⟩
 exact rfl
 refine xn 7<|dT<|sp 1<|rt<|⟨rfl,?_⟩
 obtain rfl:=si j
 obtain rfl:=si hm
 refine ⟨_,_,_,tk (V 0) (ResL.nil),aq,?_⟩
 exact rfl
 refine xn 17<|dF<|sk ?_
 obtain rfl:=si j
 exact ⟨_,rfl,(by kernel_rfl),aq⟩
 refine xn 25<|dF<|sk ?_
 obtain rfl:=si j
 exact ⟨_,rfl,(by kernel_rfl),ah⟩
 refine bk 0<|lp [0,4,5] (fun n l h=>∃ aX ar au,gM F a0 n ar au=some az∧l=[(0,Pt ab 0),(4,V ar),(5,V au)]∧St hs [] Z (0,0) aX h []) F ⟨_,av,av,I,(by kernel_rfl),a9⟩ ?_
 rintro aD l bH ⟨aX,ar,au,I,rfl,al⟩
 rcases aD with _ | aD
 cases (show none=some az from I)
 rw [gM] at I
 refine sq<|s0<|bu 4 ad al (al.ag _ _ J)<|bG 0 ad (RS.len (ae.mono al.ag))<|aP 0 I ?_ ?_<;>intro bI I
 refine bu 4 ad al (al.ag _ _ J)<|a6 1 I (ae.mono al.ag) ?_
 intro bJ I
 refine bh 0 0 (fun aY=> .int .u8 (aY.toNat:Int)) I (ae.mono al.ag) al ?_
 intro aY bK I
 obtain ⟨bM,bd,I⟩:=ai I
 refine cP 0 al (j6 F al.inv bd) ?_
 rintro _ bN aZ rfl
 refine xn 1<|db I ?_ ?_<;>intro bO I
 refine sk<|bk 1<|gp 3 ?_
 exact ⟨aD,Nat.lt_succ_self _,⟨_,ar,af (au+1),I,(by kernel_rfl),aZ⟩⟩
 refine xt 0<|aN ?_
 obtain rfl:=si I
 exact ⟨_,ar,au,rfl,(by kernel_rfl),aZ⟩
 refine xn 10<|dF<|xt 0<|aN ?_
 obtain rfl:=si I
 exact ⟨_,ar,au,rfl,(by kernel_rfl),al⟩
 refine s0 ?_
 obtain ⟨bP,bf,aj⟩:=ai aj
 refine cP 2 an (mN F an.inv (ae.mono an.ag) (aL.mono an.ag) (an.ag _ _ J) bf) ?_
 rintro _ bQ aH rfl
 refine aE 0 aj ?_ ?_ (kd:= .u8)<;>intro bR aj
 refine xn 6<|dT<|gp 3 ?_
 obtain rfl:=si aj
 exact ⟨_,af ((af (a0.At+1))+1),rfl,(by kernel_rfl),aH⟩
 obtain ⟨bS,bg,aj⟩:=ai aj
 refine cP 3 aH (mN F aH.inv (ae.mono an.ag) (aL.mono an.ag) (an.ag _ _ J) bg) ?_
 rintro _ bT a1 rfl
 refine aE 0 aj ?_ ?_ (kd:= .u8)<;>intro bU aj
 refine xn 1<|dT<|gp 3 ?_
 obtain rfl:=si aj
 exact ⟨_,af ((af (a0.At+1))+1),rfl,(by kernel_rfl),a1⟩
 refine xn 1<|dF<|sk ?_
 obtain rfl:=si aj
 exact ⟨_,af (a0.At+1),rfl,(by kernel_rfl),a1⟩
 refine s0<|c7 1 U ?_ ?_ (kd:= .u8)<;>intro bX U
 refine bu 8 (V a0.Open) ao J<|cz 0 U ?_ ?_<;>intro bY U
 refine xn 1<|dT<|sp 1<|rt<|⟨rfl,?_⟩
 obtain rfl:=si U
 obtain rfl:=si hm
 refine ⟨_,_,_,tk (V 0) (ResL.nil),ao,?_⟩
 exact rfl
 refine xn 1<|dF<|sk ?_
 obtain rfl:=si U
 exact ⟨_,rfl,(by kernel_rfl),ao⟩
 refine c7 2 U ?_ ?_ (kd:= .u8)<;>intro bZ U
 refine bu 5 (V a0.Open) ao J<|cz 0 U ?_ ?_<;>intro b0 U
 refine xn 1<|dT<|sp 1<|rt<|⟨rfl,?_⟩
 obtain rfl:=si U
 obtain rfl:=si hm
 refine ⟨_,_,_,tk (V 0) (ResL.nil),ao,?_⟩
 exact rfl
 refine xn 1<|dF<|sk ?_
 obtain rfl:=si U
 exact ⟨_,rfl,(by kernel_rfl),ao⟩
 refine xn 8<|dT<|sp 1<|rt<|⟨rfl,?_⟩
 obtain rfl:=si U
 obtain rfl:=si hm
 refine ⟨_,_,_,tk (V 0) (ResL.nil),ao,?_⟩
 exact rfl
def xG:List bq:=[uP 9 (mv 0),uP 10 (nk 9),uP 11 (fa 81 10 0),uL 12 (ld 31 11),uP 13 (mv 0),uP 14 (nk 13),uP 15 (fa 81 14 1),uL 16 (ld 3 15),uP 17 (.slice 31 (t 12) (some (t 16)) none none),uF 18 (cf 60 #[(t 17)] #[31]) .make [3,7],uP 8 (mv 18),uP 19 (.extract (t 8) 0),uP 20 (.extract (t 8) 1),uP 3 (sg 19),uP 4 (sg 20)]
def A1:List aQ:=[u 35 (mv 0),u 36 (nk 35),u 37 (fa 81 36 0),u 38 (ld 31 37),u 39 (mv 5),u 40 (.slice 31 (t 38) (some (t 39)) none none),u 41 (cf 60 #[(t 40)] #[31]),u 34 (mv 41),u 42 (.extract (t 34) 0),u 43 (.extract (t 34) 1),u 6 (sg 42),u 7 (sg 43)]
def ki (F:Nat) (a0:aF):Nat→Int→Option Int
 | 0,_=>none
 | n+1,j=>
  if j<(a0.B.length:Int) then
   if 0≤j∧j≤(a0.B.length:Int)∧(a0.B.length:Int)≤(a0.B.length:Int) then
    (jj F ((a0.B.take (a0.B.length:Int).toNat).drop j.toNat)).bind fun I=>
    ((if I.1<(0:Int) then
      some (.inr j)
     else
      (correctorref2_Break F a0.B j).bind fun J=>
      if (0:Int)<J then
       some (.inr j)
      else
       (l6 F a0 j).bind fun U=>
       if U=true then
        some (.inr j)
       else
        if 0≤j∧j<(a0.B.length:Int) then
         (a0.B[j.toNat]?).bind fun aa=>
         if (aa.toNat:Int)=(35:Int) then
          if 0≤(af (j - 1))∧(af (j - 1))<(a0.B.length:Int) then
           (a0.B[(af (j - 1)).toNat]?).bind fun ab=>
           (gu F (ab.toNat:Int)).bind fun ad=>
           if ad=true then
            some (.inr j)
           else
            if (0:Int)<a0.Open then
             if 0≤j∧j<(a0.B.length:Int) then
              (a0.B[j.toNat]?).bind fun ae=>
              (kO F (ae.toNat:Int)).bind fun ag=>
              if ag=true then
               some (.inr j)
              else
               some (.inl ())
             else none
            else
             some (.inl ())
          else none
         else
          if (0:Int)<a0.Open then
           if 0≤j∧j<(a0.B.length:Int) then
            (a0.B[j.toNat]?).bind fun ah=>
            (kO F (ah.toNat:Int)).bind fun ai=>
            if ai=true then
             some (.inr j)
            else
             some (.inl ())
           else none
          else
           some (.inl ())
        else none):Option (Sum Unit Int)).bind fun o=>match o with
     | .inl ()=>ki F a0 n (af (j+I.2))
     | .inr y=>some y
   else none
  else
   some j
def lS (F:Nat) (a0:aF):Nat→Int→Option Int
 | 0,_=>none
 | n+1,j=>
  if (af (a0.At+1))<j then
   if 0≤(af (j - 1))∧(af (j - 1))<(a0.B.length:Int) then
    (a0.B[(af (j - 1)).toNat]?).bind fun I=>
    (gu F (I.toNat:Int)).bind fun J=>
    if J=true then
     lS F a0 n (af (j - 1))
    else
     some j
   else none
  else
   some j
def mz (F:Nat) (a0:aF):Option Int:=
 if 0≤a0.At∧a0.At≤(a0.B.length:Int)∧(a0.B.length:Int)≤(a0.B.length:Int) then
  (jj F ((a0.B.take (a0.B.length:Int).toNat).drop a0.At.toNat)).bind fun j=>
  ((ki F a0 F (af (a0.At+j.2))):Option Int).bind fun o=>match o with
   | I=>((lS F a0 F I):Option Int).bind fun o=>match o with
    | J=>some J
 else none
theorem yr (F:Nat) {h:AH} {Z:Zn} {a0:aF} {al ad aH} (hI:Inv Z h) (ab:RS (α:=UInt8) Z ad a0.B) (bb:RS (α:=ak) Z aH a0.L) (ae:Z al=some (ba ad aH a0)) {r:Int} (hm:mz F a0=some r):
  bV Try.prog 66 [Pt al 0] h Z (V r):=by
 refine bW Try.func66 hI ?_
 intro hs hS
 unfold mz at hm
 refine sp 1<|cU xG hS ?_
 intro bC bD bE ar
 refine yq 3 [(11,Pt al 0),(0,Pt al 0)]<|cM rfl rfl trivial (fun h2 hz=>lU (v:=ad) h2 hz ae rfl (by kernel_rfl)) (ar.b1 (aO.refl _)) (aC (v:=ad) (RS.dZ ab)) trivial<|yq 3 [(15,Pt al 1),(12,ad),(0,Pt al 0)]<|cM rfl rfl trivial (fun h2 hz=>lU (v:=V a0.At) h2 hz ae rfl (by kernel_rfl)) (ar.b1 (aO.refl _)) (aC (v:=V a0.At) trivial) trivial ?_
 obtain ⟨ax,hm⟩:=aK hm
 refine oP rfl trivial (iP (a:=a0.At) (b:=(a0.B.length:Int)) ab rfl (by kernel_rfl:slTy _ _=some (aa UInt8)) ⟨_,rfl⟩ rfl ax.1 ax.2.1 ax.2.2) ?_
 intro v11 bc
 obtain ⟨aJ,bd,hm⟩:=ai hm
 have aL:=ar.cJ
 obtain ⟨bF,bH,bf,aM,rfl⟩:=pE F aL.inv bc bd
 have bg:=St.call (A:=[]) (B:=[]) aL aM
 refine fD rfl trivial ar (dg bf rfl rfl rfl) bg (St.fJ aM) ?_
 intro bI bj
 refine ye 5 [(4,V aJ.2),(0,Pt al 0)] ?_
 have aR:=bj.a5
 refine s0<|bu 3 (V a0.At) aR ae<|xn 3<|sq ?_
 obtain ⟨ay,J,hm⟩:=ai hm
 refine aI [0,5] (fun l h=>∃ aT au,au=ay∧l=[(0,Pt al 0),(5,V au)]∧St hs [] Z (0,0) aT h []) ?_ ?_
 rintro l bJ ⟨aT,au,rfl,rfl,bl⟩
 try dsimp only at hm
 refine sq ?_
 obtain ⟨az,U,hm⟩:=ai hm
 refine aI [5] (fun l h=>∃ aU av,av=az∧l=[(5,V av)]∧St hs [] Z (0,0) aU h []) ?_ ?_
 rintro l bK ⟨aU,av,rfl,rfl,bm⟩
 try dsimp only at hm
 refine sp 2<|rt<|⟨rfl,?_⟩
 obtain rfl:=si hm
 refine ⟨_,_,_,tk (V av) (ResL.nil),bm,?_⟩
 exact rfl
 refine bk 2<|lp [0,5] (fun n l h=>∃ aV aq,lS F a0 n aq=some az∧l=[(0,Pt al 0),(5,V aq)]∧St hs [] Z (0,0) aV h []) F ⟨_,au,U,(by kernel_rfl),bl⟩ ?_
 rintro aA l bL ⟨aV,aq,U,rfl,an⟩
 rcases aA with _ | aA
 cases (show none=some az from U)
 rw [lS] at U
 refine sq<|s0<|bu 4 (V a0.At) an (an.ag _ _ ae)<|cz 1 U ?_ ?_<;>intro bM U
 refine bu 4 ad an (an.ag _ _ ae)<|a6 2 U (ab.mono an.ag) ?_
 intro bN U
 refine bh 0 0 (fun aW=> .int .u8 (aW.toNat:Int)) U (ab.mono an.ag) an ?_
 intro aW bO U
 obtain ⟨bP,bn,U⟩:=ai U
 refine cP 0 an (j6 F an.inv bn) ?_
 rintro _ bQ aX rfl
 refine xn 1<|db U ?_ ?_<;>intro bR U
 refine sk<|bk 3<|gp 3 ?_
 exact ⟨aA,Nat.lt_succ_self _,⟨_,af (aq - 1),U,(by kernel_rfl),aX⟩⟩
 refine xt 2<|aN ?_
 obtain rfl:=si U
 exact ⟨_,aq,rfl,(by kernel_rfl),aX⟩
 refine xn 11<|dF<|xt 2<|aN ?_
 obtain rfl:=si U
 exact ⟨_,aq,rfl,(by kernel_rfl),an⟩
 refine bk 0<|lp [0,5] (fun n l h=>∃ aY ah,ki F a0 n ah=some ay∧l=[(0,Pt al 0),(5,V ah)]∧St hs [] Z (0,0) aY h []) F ⟨_,af (a0.At+aJ.2),J,(by kernel_rfl),aR⟩ ?_
 rintro aB l bS ⟨aY,ah,J,rfl,I⟩
 rcases aB with _ | aB
 cases (show none=some ay from J)
 rw [ki] at J
 refine sq<|s0<|bu 4 ad I (I.ag _ _ ae)<|bG 0 ad (RS.len (ab.mono I.ag))<|aP 0 J ?_ ?_<;>intro bT J
 refine xn 0<|dT<|sk<|bk 1<|sr A1<|bu 3 ad I (I.ag _ _ ae)<|xq 1 [(39,V ah),(38,ad),(0,Pt al 0),(5,V ah)] ?_
 obtain ⟨aD,J⟩:=aK J
 refine jS rfl trivial (iP (a:=ah) (b:=(a0.B.length:Int)) (ab.mono I.ag) rfl (by kernel_rfl:slTy _ _=some (aa UInt8)) ⟨_,rfl⟩ rfl aD.1 aD.2.1 aD.2.2) ?_
 intro bU bo
 obtain ⟨aZ,bp,J⟩:=ai J
 refine cP 0 I (pE F I.inv bo bp) ?_
 rintro _ bX aw rfl
 refine xn 5<|sq ?_
 obtain ⟨br,j,J⟩:=ai J
 refine dY [0,5,7] (fun l h=>∃ a1, .inl ()=br∧l=[(0,Pt al 0),(5,V ah),(7,V aZ.2)]∧St hs [] Z (0,0) a1 h []) (by kernel_rfl) ?_ ?_
 rintro l bY ⟨a1,rfl,rfl,bt⟩
 try dsimp only at J
 refine gp 4 ?_
 exact ⟨aB,Nat.lt_succ_self _,⟨_,af (ah+aZ.2),J,(by kernel_rfl),bt⟩⟩
 refine g0<|aP 1 j ?_ ?_ (kd:= .i32)<;>intro bZ j
 refine xn 52<|dT<|xt 0<|g3 rfl<|aN ?_
 obtain rfl:=si j
 obtain rfl:=si J
 exact ⟨_,ah,rfl,(by kernel_rfl),aw⟩
 refine bu 4 ad aw (I.ag _ _ ae) ?_
 obtain ⟨b0,bw,j⟩:=ai j
 refine cP 1 aw (mb F aw.inv (ab.mono I.ag) bw) ?_
 rintro _ b2 aG rfl
 refine cz 0 j ?_ ?_<;>intro b3 j
 refine xn 44<|dT<|xt 0<|g3 rfl<|aN ?_
 obtain rfl:=si j
 obtain rfl:=si J
 exact ⟨_,ah,rfl,(by kernel_rfl),aG⟩
 obtain ⟨b4,bx,j⟩:=ai j
 refine cP 4 aG (sX F aG.inv (ab.mono I.ag) (bb.mono I.ag) (I.ag _ _ ae) bx) ?_
 rintro _ b5 aj rfl
 refine kb 2 60 j ?_ ?_<;>intro b6 j
 refine xn 37<|dT<|xt 0<|g3 rfl<|aN ?_
 obtain rfl:=si j
 obtain rfl:=si J
 exact ⟨_,ah,rfl,(by kernel_rfl),aj⟩
 refine bu 3 ad aj (I.ag _ _ ae)<|a6 1 j (ab.mono I.ag) ?_
 intro b7 j
 refine bh 0 0 (fun a2=> .int .u8 (a2.toNat:Int)) j (ab.mono I.ag) aj ?_
 intro a2 b8 j
 refine aE 0 j ?_ ?_ (kd:= .u8)<;>intro b9 j
 refine bu 4 ad aj (I.ag _ _ ae)<|a6 2 j (ab.mono I.ag) ?_
 intro ca j
 refine bh 0 0 (fun a3=> .int .u8 (a3.toNat:Int)) j (ab.mono I.ag) aj ?_
 intro a3 cb j
 obtain ⟨cc,bz,j⟩:=ai j
 refine cP 0 aj (j6 F aj.inv bz) ?_
 rintro _ cd ao rfl
 refine kb 3 81 j ?_ ?_<;>intro cf j
 refine xn 16<|dT<|xt 0<|g3 rfl<|aN ?_
 obtain rfl:=si j
 obtain rfl:=si J
 exact ⟨_,ah,rfl,(by kernel_rfl),ao⟩
 refine bu 3 (V a0.Open) ao (I.ag _ _ ae)<|cz 0 j ?_ ?_<;>intro cg j
 refine bu 4 ad ao (I.ag _ _ ae)<|a6 1 j (ab.mono I.ag) ?_
 intro ch j
 refine bh 0 0 (fun a4=> .int .u8 (a4.toNat:Int)) j (ab.mono I.ag) ao ?_
 intro a4 cj j
 obtain ⟨ck,bA,j⟩:=ai j
 refine cP 0 ao (qw F ao.inv bA) ?_
 rintro _ cl a7 rfl
 refine xn 2<|db j ?_ ?_<;>intro cm j
 refine xt 0<|g3 rfl<|aN ?_
 obtain rfl:=si j
 obtain rfl:=si J
 exact ⟨_,ah,rfl,(by kernel_rfl),a7⟩
 refine sk ?_
 obtain rfl:=si j
 exact ⟨_,rfl,(by kernel_rfl),a7⟩
 refine xn 11<|dF<|sk ?_
 obtain rfl:=si j
 exact ⟨_,rfl,(by kernel_rfl),ao⟩
 refine bu 16 (V a0.Open) aj (I.ag _ _ ae)<|cz 0 j ?_ ?_<;>intro cn j
 refine bu 4 ad aj (I.ag _ _ ae)<|a6 1 j (ab.mono I.ag) ?_
 intro cp j
 refine bh 0 0 (fun a8=> .int .u8 (a8.toNat:Int)) j (ab.mono I.ag) aj ?_
 intro a8 cq j
 obtain ⟨cr,bB,j⟩:=ai j
 refine cP 0 aj (qw F aj.inv bB) ?_
 rintro _ ct a9 rfl
 refine xn 2<|db j ?_ ?_<;>intro cu j
 refine xt 0<|g3 rfl<|aN ?_
 obtain rfl:=si j
 obtain rfl:=si J
 exact ⟨_,ah,rfl,(by kernel_rfl),a9⟩
 refine sk ?_
 obtain rfl:=si j
 exact ⟨_,rfl,(by kernel_rfl),a9⟩
 refine xn 11<|dF<|sk ?_
 obtain rfl:=si j
 exact ⟨_,rfl,(by kernel_rfl),aj⟩
 refine xn 0<|dF<|xt 0<|aN ?_
 obtain rfl:=si J
 exact ⟨_,ah,rfl,(by kernel_rfl),I⟩
def zj:List bq:=[uP 7 (mv 0),uP 8 (nk 7),uP 9 (fa 81 8 0),uL 10 (ld 31 9),uP 11 (mv 0),uP 12 (nk 11),uP 13 (fa 81 12 1),uL 14 (ld 3 13),uP 15 (ia 31 10 14),uL 16 (ld 5 15),uP 2 (sg 16)]
def AN:List aQ:=[u 22 (mv 0),u 23 (nk 22),u 24 (fa 81 23 0),u 25 (ld 31 24),u 26 (mv 3),u 27 (.slice 31 (t 25) (some (t 26)) none none),u 28 (cf 60 #[(t 27)] #[31]),u 21 (mv 28),u 29 (.extract (t 21) 0),u 30 (.extract (t 21) 1),u 4 (sg 29),u 5 (sg 30)]
def m1 (F:Nat) (a0:aF):Option aF:=
 if 0≤a0.At∧a0.At<(a0.B.length:Int) then
  (a0.B[a0.At.toNat]?).bind fun j=>
  if 0≤a0.At∧a0.At≤(a0.B.length:Int)∧(a0.B.length:Int)≤(a0.B.length:Int) then
   (jj F ((a0.B.take (a0.B.length:Int).toNat).drop a0.At.toNat)).bind fun U=>
   (lg F a0 (af (a0.At+1)) false).bind fun I=>
   ((if (j.toNat:Int)=(45:Int) then
     if a0.Open=(0:Int) then
      if a0.cj=true then
       (jF F a0 (af (a0.At+1))).bind fun aa=>
       some aa
      else
       some false
     else
      some false
    else
     some false):Option Bool).bind fun o=>match o with
    | ab=>if ab=true then
     (cS F a0 5 (af (a0.At+1))).bind fun ad=>
     some ad
    else
     (l6 F a0 a0.At).bind fun ae=>
     if ae=true then
      (cS F a0 6 (af (a0.At+1))).bind fun ag=>
      some ag
     else
      ((if (j.toNat:Int)=(38:Int) then
        if (af (a0.At+1))<I then
         some true
        else
         some false
       else
        some false):Option Bool).bind fun o=>match o with
       | ah=>if ah=true then
        (cS F a0 12 I).bind fun ai=>
        some ai
       else
        ((if (j.toNat:Int)=(42:Int) then
          if (af (a0.At+1))<I then
           some true
          else
           some false
         else
          some false):Option Bool).bind fun o=>match o with
         | aj=>if aj=true then
          (cS F a0 13 I).bind fun al=>
          some al
         else
          if (j.toNat:Int)=(33:Int) then
           (lg F a0 (af (a0.At+1)) true).bind fun an=>
           (cS F a0 14 an).bind fun ao=>
           some ao
          else
           if (j.toNat:Int)=(39:Int) then
            (fB F a0 a0.At).bind fun aq=>
            (na F a0 (af (a0.At+1)) aq).bind fun ar=>
            (cS F a0 16 ar).bind fun au=>
            some au
           else
            if (j.toNat:Int)=(34:Int) then
             (fB F a0 a0.At).bind fun av=>
             (n8 F a0 (af (a0.At+1)) av).bind fun aw=>
             (fB F a0 a0.At).bind fun ax=>
             (cS F a0 17 (dy aw ax)).bind fun ay=>
             some ay
            else
             (ib F a0).bind fun az=>
             if (0:Int)<az then
              ((if a0.bU<(0:Int) then
                some (⟨a0.B,a0.At,a0.Row,a0.Open,a0.bU,a0.cj,af ((af (a0.At - a0.Row)) - 1),a0.L⟩:aF)
               else
                some (⟨a0.B,a0.At,a0.Row,a0.Open,a0.bU,a0.cj,a0.bU,a0.L⟩:aF)):Option aF).bind fun o=>match o with
               | J=>(ib F J).bind fun aA=>
               (cS F J 18 (af (a0.At+aA))).bind fun aB=>
               some aB
             else
              if U.1<(0:Int) then
               (cS F a0 22 (af (a0.At+1))).bind fun aC=>
               some aC
              else
               (mz F a0).bind fun aD=>
               (cS F a0 15 aD).bind fun r413=>
               some r413
  else none
 else none
theorem z4 (F:Nat) {h:AH} {Z:Zn} {a0:aF} {I ad U ah} (hP:Pre Z h [.ae I (ba ad U a0), .gs U ah (aa ak)]) (J:RS (α:=UInt8) Z ad a0.B) (ab:RCs (α:=ak) Z ah a0.L) {r:aF} (hm:m1 F a0=some r):
  bQ Try.prog 40 [Pt I 0] h Z [.ae I (ba ad U a0), .gs U ah (aa ak)] fun v Z' A'=>∃ aZ v10 a1, .tuple #[]=v∧A'=[.ae I (ba aZ v10 r), .gs v10 a1 (aa ak)]∧RS (α:=UInt8) Z' aZ r.B∧RCs (α:=ak) Z' a1 r.L:=by
 refine b5 Try.func40 hP ?_
 intro hs hS
 unfold m1 at hm
 refine cU zj hS ?_
 intro a2 ep a3 aw
 refine yq 3 [(9,Pt I 0),(0,Pt I 0)] ?_
 have er:I<a2:=a3.1 _ (List.mem_of_getElem? (i:=0) rfl) _ (by simp [Itm.ids])
 refine aW (v:=ad) rfl trivial rfl (by show I<_;omega) (aC (v:=ad) (RS.dZ J)) (aw.aU (i:=0) rfl (by kernel_rfl)) trivial<|yq 3 [(13,Pt I 1),(10,ad),(0,Pt I 0)] ?_
 have et:I<a2:=a3.1 _ (List.mem_of_getElem? (i:=0) rfl) _ (by simp [Itm.ids])
 refine aW (v:=V a0.At) rfl trivial rfl (by show I<_;omega) (aC (v:=V a0.At) trivial) (aw.aU (i:=0) rfl (by kernel_rfl)) trivial ?_
 obtain ⟨a4,hm⟩:=aK hm
 refine aG rfl trivial (bF rfl rfl (by kernel_rfl:slTy _ _=some (aa UInt8)) (RS.c8 J (by omega)) a4.1 a4.2) ?_
 obtain ⟨an,bK,hm⟩:=ai hm
 obtain ⟨eu,bM,bN⟩:=RS.cy J (i:=a0.At) bK
 obtain rfl:=o4 bM
 refine cM rfl rfl trivial (fun h2 hz=>bL (w:= .int .u8 (an.toNat:Int)) (bN h2 hz) rfl (by kernel_rfl)) (aw.b1 (aO.refl _)) (aC (v:= .int .u8 (an.toNat:Int)) trivial) trivial<|ye 1 [(2, .int .u8 (an.toNat:Int)),(0,Pt I 0)] ?_
 have ax:=aw.a5
 refine s0<|aB 3 0 (V a0.At) ax rfl<|xn 1<|sr AN<|aB 3 0 ad ax rfl<|xq 1 [(26,V a0.At),(25,ad),(3,V a0.At),(2, .int .u8 (an.toNat:Int)),(0,Pt I 0)] ?_
 obtain ⟨aJ,hm⟩:=aK hm
 refine jS rfl trivial (iP (a:=a0.At) (b:=(a0.B.length:Int)) J rfl (by kernel_rfl:slTy _ _=some (aa UInt8)) ⟨_,rfl⟩ rfl aJ.1 aJ.2.1 aJ.2.2) ?_
 intro ew bO
 obtain ⟨aL,bP,hm⟩:=ai hm
 refine cP 0 ax (pE F ax.inv bO bP) ?_
 rintro _ ey bR rfl
 refine xn 5<|s0 ?_
 obtain ⟨aM,bS,hm⟩:=ai hm
 refine cE 3 bR (fun ez a6 bT a7=>tz F bT (RS.mono a6 J) (bf.row (a7 _ (List.mem_of_getElem? (i:=1) rfl)) a6 ab) (a7 _ (List.mem_of_getElem? (i:=0) rfl)) bS) ?_
 rintro _ eA ar rfl
 refine xn 1<|bk 0<|sq ?_
 obtain ⟨bV,aj,hm⟩:=ai hm
 refine aI [0,2,3,4,6,39] (fun l h=>∃ a8 aN,aN=bV∧l=[(0,Pt I 0),(2, .int .u8 (an.toNat:Int)),(3,V a0.At),(4, .int .i32 aL.1),(6,V aM),(39, .bool aN)]∧St hs (aR [.ae I (ba ad U a0), .gs U ah (aa ak)]) Z (0,0) a8 h [.ae I (ba ad U a0), .gs U ah (aa ak)]) ?_ ?_
 rintro l eB ⟨a8,aN,rfl,rfl,al⟩
 try dsimp only at hm
 refine db hm ?_ ?_<;>intro eC hm
 refine g0 ?_
 obtain ⟨eD,bW,hm⟩:=ai hm
 refine cA 3 al (fun p=>dV F p (J.mono al.ag) (ab.mono al.ag) bW) ?_
 rintro _ eE eF _ eG bX ⟨bY,bZ,b0,rfl,rfl,b2,b3⟩
 refine xn 0 ?_
 obtain rfl:=si hm
 refine ⟨_,_,_,ResL.nil,bX,?_⟩
 exact ⟨bY,bZ,b0,rfl,rfl,b2,b3⟩
 refine s0 ?_
 obtain ⟨eH,b4,hm⟩:=ai hm
 refine cE 2 al (fun eI a9 b6 bb=>sX F b6 (RS.mono a9 (J.mono al.ag)) (bf.row (bb _ (List.mem_of_getElem? (i:=1) rfl)) a9 (ab.mono al.ag)) (bb _ (List.mem_of_getElem? (i:=0) rfl)) b4) ?_
 rintro _ eJ ay rfl
 refine xn 1<|db hm ?_ ?_<;>intro eK hm
 refine g0 ?_
 obtain ⟨eL,b7,hm⟩:=ai hm
 refine cA 3 ay (fun p=>dV F p (J.mono al.ag) (ab.mono al.ag) b7) ?_
 rintro _ eM eN _ eO b8 ⟨b9,ca,cb,rfl,rfl,cc,cd⟩
 refine xn 0 ?_
 obtain rfl:=si hm
 refine ⟨_,_,_,ResL.nil,b8,?_⟩
 exact ⟨b9,ca,cb,rfl,rfl,cc,cd⟩
 refine sq ?_
 obtain ⟨cf,ao,hm⟩:=ai hm
 refine aI [0,2,3,4,6,73] (fun l h=>∃ bc aT,aT=cf∧l=[(0,Pt I 0),(2, .int .u8 (an.toNat:Int)),(3,V a0.At),(4, .int .i32 aL.1),(6,V aM),(73, .bool aT)]∧St hs (aR [.ae I (ba ad U a0), .gs U ah (aa ak)]) Z (0,0) bc h [.ae I (ba ad U a0), .gs U ah (aa ak)]) ?_ ?_
 rintro l eP ⟨bc,aT,rfl,rfl,au⟩
 try dsimp only at hm
 refine db hm ?_ ?_<;>intro eQ hm
 refine g0 ?_
 obtain ⟨eR,cg,hm⟩:=ai hm
 refine cA 2 au (fun p=>dV F p (J.mono au.ag) (ab.mono au.ag) cg) ?_
 rintro _ eS eT _ eU ch ⟨ck,cl,cm,rfl,rfl,cn,cp⟩
 refine xn 0 ?_
 obtain rfl:=si hm
 refine ⟨_,_,_,ResL.nil,ch,?_⟩
 exact ⟨ck,cl,cm,rfl,rfl,cn,cp⟩
 refine sq ?_
 obtain ⟨cq,aq,hm⟩:=ai hm
 refine aI [0,2,3,4,6,85] (fun l h=>∃ bd aV,aV=cq∧l=[(0,Pt I 0),(2, .int .u8 (an.toNat:Int)),(3,V a0.At),(4, .int .i32 aL.1),(6,V aM),(85, .bool aV)]∧St hs (aR [.ae I (ba ad U a0), .gs U ah (aa ak)]) Z (0,0) bd h [.ae I (ba ad U a0), .gs U ah (aa ak)]) ?_ ?_
 rintro l eV ⟨bd,aV,rfl,rfl,j⟩
 try dsimp only at hm
 refine db hm ?_ ?_<;>intro eW hm
 refine g0 ?_
 obtain ⟨eX,cr,hm⟩:=ai hm
 refine cA 2 j (fun p=>dV F p (J.mono j.ag) (ab.mono j.ag) cr) ?_
 rintro _ eY eZ _ e0 ct ⟨cu,cw,cx,rfl,rfl,cB,cC⟩
 refine xn 0 ?_
 obtain rfl:=si hm
 refine ⟨_,_,_,ResL.nil,ct,?_⟩
 exact ⟨cu,cw,cx,rfl,rfl,cB,cC⟩
 refine s0<|aE 1 hm ?_ ?_ (kd:= .u8)<;>intro e2 hm
 refine xn 1<|dT<|g0 ?_
 obtain ⟨e3,cD,hm⟩:=ai hm
 refine cE 4 j (fun e4 bg cF bh=>tz F cF (RS.mono bg (J.mono j.ag)) (bf.row (bh _ (List.mem_of_getElem? (i:=1) rfl)) bg (ab.mono j.ag)) (bh _ (List.mem_of_getElem? (i:=0) rfl)) cD) ?_
 rintro _ e5 cG rfl
 obtain ⟨e6,cH,hm⟩:=ai hm
 refine cA 0 cG (fun p=>dV F p (J.mono j.ag) (ab.mono j.ag) cH) ?_
 rintro _ e7 e8 _ e9 cI ⟨cJ,cK,cL,rfl,rfl,cQ,cR⟩
 refine xn 0 ?_
 obtain rfl:=si hm
 refine ⟨_,_,_,ResL.nil,cI,?_⟩
 exact ⟨cJ,cK,cL,rfl,rfl,cQ,cR⟩
 refine xn 1<|dF<|s0<|aE 1 hm ?_ ?_ (kd:= .u8)<;>intro fa hm
 refine xn 1<|dT<|g0 ?_
 obtain ⟨fb,cS,hm⟩:=ai hm
 refine cE 6 j (fun fc bj cT bl=>jZ F cT (RS.mono bj (J.mono j.ag)) (bf.row (bl _ (List.mem_of_getElem? (i:=1) rfl)) bj (ab.mono j.ag)) (bl _ (List.mem_of_getElem? (i:=0) rfl)) cS) ?_
 rintro _ fe cX rfl
 obtain ⟨ff,cY,hm⟩:=ai hm
 refine cE 0 cX (fun fg bm c0 bn=>Bq F c0 (RS.mono bm (J.mono j.ag)) (bf.row (bn _ (List.mem_of_getElem? (i:=1) rfl)) bm (ab.mono j.ag)) (bn _ (List.mem_of_getElem? (i:=0) rfl)) cY) ?_
 rintro _ fh c3 rfl
 obtain ⟨fi,c4,hm⟩:=ai hm
 refine cA 0 c3 (fun p=>dV F p (J.mono j.ag) (ab.mono j.ag) c4) ?_
 rintro _ fj fk _ fl c5 ⟨c6,c7,c9,rfl,rfl,da,dc⟩
 refine xn 0 ?_
 obtain rfl:=si hm
 refine ⟨_,_,_,ResL.nil,c5,?_⟩
 exact ⟨c6,c7,c9,rfl,rfl,da,dc⟩
 refine xn 1<|dF<|s0<|aE 1 hm ?_ ?_ (kd:= .u8)<;>intro fm hm
 refine xn 1<|dT<|g0 ?_
 obtain ⟨fo,dd,hm⟩:=ai hm
 refine cE 6 j (fun fp bo de bp=>jZ F de (RS.mono bo (J.mono j.ag)) (bf.row (bp _ (List.mem_of_getElem? (i:=1) rfl)) bo (ab.mono j.ag)) (bp _ (List.mem_of_getElem? (i:=0) rfl)) dd) ?_
 rintro _ fq df rfl
 obtain ⟨fr,dg,hm⟩:=ai hm
 refine cE 0 df (fun fs br dh bt=>BQ F dh (RS.mono br (J.mono j.ag)) (bf.row (bt _ (List.mem_of_getElem? (i:=1) rfl)) br (ab.mono j.ag)) (bt _ (List.mem_of_getElem? (i:=0) rfl)) dg) ?_
 rintro _ ft di rfl
 obtain ⟨fu,dj,hm⟩:=ai hm
 refine cE 2 di (fun fv bu dk bw=>jZ F dk (RS.mono bu (J.mono j.ag)) (bf.row (bw _ (List.mem_of_getElem? (i:=1) rfl)) bu (ab.mono j.ag)) (bw _ (List.mem_of_getElem? (i:=0) rfl)) dj) ?_
 rintro _ fw dm rfl
 obtain ⟨fx,dn,hm⟩:=ai hm
 refine cA 1 dm (fun p=>dV F p (J.mono j.ag) (ab.mono j.ag) dn) ?_
 rintro _ fy fz _ fA dp ⟨dq,dr,ds,rfl,rfl,du,dv⟩
 refine xn 0 ?_
 obtain rfl:=si hm
 refine ⟨_,_,_,ResL.nil,dp,?_⟩
 exact ⟨dq,dr,ds,rfl,rfl,du,dv⟩
 refine xn 1<|dF<|s0 ?_
 obtain ⟨fB,dw,hm⟩:=ai hm
 refine cE 1 j (fun fC bx dx bz=>ta F dx (RS.mono bx (J.mono j.ag)) (bf.row (bz _ (List.mem_of_getElem? (i:=1) rfl)) bx (ab.mono j.ag)) (bz _ (List.mem_of_getElem? (i:=0) rfl)) dw) ?_
 rintro _ fD az rfl
 refine cz 0 hm ?_ ?_<;>intro fE hm
 refine xn 1<|dT<|s0<|aB 4 0 (V a0.bU) az rfl<|bA 2 0 (V a0.bU) [V a0.bU] [ad,V a0.At,V a0.Row,V a0.Open,V a0.bU, .bool a0.cj,V a0.bU,U] az rfl rfl rfl ?_
 intro fG aA
 refine xn 0<|sq ?_
 obtain ⟨dy,aD,hm⟩:=ai hm
 refine dY [0,3] (fun l h=>∃ aH av aX aY,av=dy∧RS (α:=UInt8) aH aX av.B∧RCs (α:=ak) aH aY av.L∧l=[(0,Pt I 0),(3,V a0.At)]∧St hs (aR [.ae I (ba ad U a0), .gs U ah (aa ak)]) Z (0,0) aH h [.ae I (ba aX U av), .gs U aY (aa ak)]) (by kernel_rfl) ?_ ?_
 rintro l fH ⟨aH,av,aX,aY,rfl,bB,bC,rfl,dz⟩
 try dsimp only at hm
 refine g0 ?_
 obtain ⟨fI,dA,hm⟩:=ai hm
 refine cE 3 dz (fun fJ bD dB bE=>ta F dB (RS.mono bD bB) (bf.row (bE _ (List.mem_of_getElem? (i:=1) rfl)) bD bC) (bE _ (List.mem_of_getElem? (i:=0) rfl)) dA) ?_
 rintro _ fK dD rfl
 obtain ⟨fL,dE,hm⟩:=ai hm
 refine cA 1 dD (fun p=>dV F p bB bC dE) ?_
 rintro _ fM fN _ fO dG ⟨dH,dI,dJ,rfl,rfl,dK,dL⟩
 refine xn 0 ?_
 obtain rfl:=si hm
 refine ⟨_,_,_,ResL.nil,dG,?_⟩
 exact ⟨dH,dI,dJ,rfl,rfl,dK,dL⟩
 refine g0<|aB 3 0 (V a0.bU) aA rfl<|aP 0 aD ?_ ?_<;>intro fP aD
 refine xn 0<|dT<|g0<|aB 5 0 (V a0.Row) aA rfl<|bA 4 0 (V (af ((af (a0.At - a0.Row)) - 1))) [V (af ((af (a0.At - a0.Row)) - 1))] [ad,V a0.At,V a0.Row,V a0.Open,V a0.bU, .bool a0.cj,V (af ((af (a0.At - a0.Row)) - 1)),U] aA rfl rfl rfl ?_
 intro fQ dM
 refine xn 0 ?_
 obtain rfl:=si aD
 exact ⟨_,(⟨a0.B,a0.At,a0.Row,a0.Open,a0.bU,a0.cj,af ((af (a0.At - a0.Row)) - 1),a0.L⟩:aF),ad,ah,rfl,(J.mono j.ag),(ab.mono j.ag),(by kernel_rfl),dM⟩
 refine xn 0<|dF<|sk ?_
 obtain rfl:=si aD
 exact ⟨_,(⟨a0.B,a0.At,a0.Row,a0.Open,a0.bU,a0.cj,a0.bU,a0.L⟩:aF),ad,ah,rfl,(J.mono j.ag),(ab.mono j.ag),(by kernel_rfl),aA⟩
 refine xn 1<|dF<|s0<|aP 1 hm ?_ ?_ (kd:= .i32)<;>intro fR hm
 refine xn 1<|dT<|g0 ?_
 obtain ⟨fS,dN,hm⟩:=ai hm
 refine cA 3 az (fun p=>dV F p (J.mono j.ag) (ab.mono j.ag) dN) ?_
 rintro _ fT fU _ fV dO ⟨dP,dQ,dR,rfl,rfl,dS,dU⟩
 refine xn 0 ?_
 obtain rfl:=si hm
 refine ⟨_,_,_,ResL.nil,dO,?_⟩
 exact ⟨dP,dQ,dR,rfl,rfl,dS,dU⟩
 refine xn 1<|dF<|g0 ?_
 obtain ⟨fW,dW,hm⟩:=ai hm
 refine cE 2 az (fun fX bG dX bH=>yr F dX (RS.mono bG (J.mono j.ag)) (bf.row (bH _ (List.mem_of_getElem? (i:=1) rfl)) bG (ab.mono j.ag)) (bH _ (List.mem_of_getElem? (i:=0) rfl)) dW) ?_
 rintro _ fY ea rfl
 obtain ⟨r413,eb,hm⟩:=ai hm
 refine cA 0 ea (fun p=>dV F p (J.mono j.ag) (ab.mono j.ag) eb) ?_
 rintro _ fZ ga _ gb ec ⟨ed,ee,eg,rfl,rfl,eh,ei⟩
 refine xn 0 ?_
 obtain rfl:=si hm
 refine ⟨_,_,_,ResL.nil,ec,?_⟩
 exact ⟨ed,ee,eg,rfl,rfl,eh,ei⟩
 refine g0<|aE 1 aq ?_ ?_ (kd:= .u8)<;>intro gd aq
 refine cz 4 aq ?_ ?_<;>intro gf aq
 refine xn 2 ?_
 obtain rfl:=si aq
 exact ⟨_,true,rfl,(by kernel_rfl),au⟩
 refine xn 2 ?_
 obtain rfl:=si aq
 exact ⟨_,false,rfl,(by kernel_rfl),au⟩
 refine xn 7 ?_
 obtain rfl:=si aq
 exact ⟨_,false,rfl,(by kernel_rfl),au⟩
 refine g0<|aE 1 ao ?_ ?_ (kd:= .u8)<;>intro gg ao
 refine cz 4 ao ?_ ?_<;>intro gh ao
 refine xn 2 ?_
 obtain rfl:=si ao
 exact ⟨_,true,rfl,(by kernel_rfl),ay⟩
 refine xn 2 ?_
 obtain rfl:=si ao
 exact ⟨_,false,rfl,(by kernel_rfl),ay⟩
 refine xn 7 ?_
 obtain rfl:=si ao
 exact ⟨_,false,rfl,(by kernel_rfl),ay⟩
 refine g0<|aE 1 aj ?_ ?_ (kd:= .u8)<;>intro gi aj
 refine aB 4 0 (V a0.Open) ar rfl<|aE 0 aj ?_ ?_<;>intro gj aj
 refine aB 5 0 (.bool a0.cj) ar rfl<|kb 2 55 aj ?_ ?_<;>intro gk aj
 obtain ⟨ej,ek,aj⟩:=ai aj
 refine cE 3 ar (fun gl bI en bJ=>qY F en (RS.mono bI J) (bf.row (bJ _ (List.mem_of_getElem? (i:=1) rfl)) bI ab) (bJ _ (List.mem_of_getElem? (i:=0) rfl)) ek) ?_
 rintro _ gm eo rfl
 refine xn 2 ?_
 obtain rfl:=si aj
 exact ⟨_,ej,rfl,(by kernel_rfl),eo⟩
 refine xn 6 ?_
 obtain rfl:=si aj
 exact ⟨_,false,rfl,(by kernel_rfl),ar⟩
 refine xn 14 ?_
 obtain rfl:=si aj
 exact ⟨_,false,rfl,(by kernel_rfl),ar⟩
 refine xn 20 ?_
 obtain rfl:=si aj
 exact ⟨_,false,rfl,(by kernel_rfl),ar⟩
def Af:List aQ:=[u 8 (mv 0),u 9 (.build 81 #[(0,(t 8)),(6,(ci (-2)))]),u 10 (.box 81 (t 9)),u 3 (sg 10)]
def DB:List bq:=[uP 20 (mv 3),uP 21 (nk 20),uP 22 (fa 81 21 1),uL 23 (ld 3 22),uP 24 (mv 3),uP 25 (nk 24),uP 26 (fa 81 25 2),uL 27 (ld 3 26),uP 28 (bo .eql 3 23 27 3)]
def correctorref6_Tokens_l0 (F:Nat) (a0:List UInt8):Nat→aF→Option aF
 | 0,_=>none
 | n+1,j=>
  if j.At<(a0.length:Int) then
   ((if j.At=j.Row then
     (l2 F j j.At).bind fun ad=>
     some (j,ad)
    else
     some (j,0)):Option (aF×Int)).bind fun o=>match o with
    | (J,ab)=>if (0:Int)<ab then
     (cS F J ab (af (J.At+3))).bind fun I=>
     correctorref6_Tokens_l0 F a0 n (⟨I.B,I.At,I.Row,0,I.bU,I.cj,I.Text,I.L⟩:aF)
    else
     (m9 F J).bind fun U=>
     if U.1=true then
      correctorref6_Tokens_l0 F a0 n U.2
     else
      (nh F U.2).bind fun aa=>
      if aa.1=true then
       correctorref6_Tokens_l0 F a0 n aa.2
      else
       (m1 F aa.2).bind fun ae=>
       correctorref6_Tokens_l0 F a0 n ae
  else
   some j
def m8 (F:Nat) (a0:List UInt8):Option (List ak):=
 if (16384:Int)<(a0.length:Int) then
  some []
 else
  (nF F (⟨a0,0,0,0,0,false,(-2),[]⟩:aF)).bind fun j=>
  ((correctorref6_Tokens_l0 F a0 F j):Option aF).bind fun o=>match o with
   | I=>some I.L
theorem yI (F:Nat) {h:AH} {Z:Zn} {a0:List UInt8} {v2} (hP:Pre Z h []) (ar:RS (α:=UInt8) Z v2 a0) {r:(List ak)} (hm:m8 F a0=some r):
  bQ Try.prog 19 [v2] h Z [] fun v Z' A'=>∃ v4 aV,v4=v∧A'=[.gs v4 aV (aa ak)]∧RCs (α:=ak) Z' aV r:=by
 refine b5 Try.func19 hP ?_
 intro hs hS
 unfold m8 at hm
 replace hS:St hs [] Z (0,0) Z hs []:=hS
 refine sp 1<|sq<|s0<|bG 1 v2 (RS.len ar)<|cz 0 hm ?_ ?_<;>intro cc hm
 refine xn 0<|dT<|sp 1<|rt<|⟨rfl,?_⟩
 have bj:=hS.c9 (aa ak)
 obtain rfl:=si hm
 refine ⟨_,_,_,tk (.slice none 0 0) (ResL.nil),bj,?_⟩
 exact ⟨(.slice none 0 0),[],rfl,rfl,(RCs.br _)⟩
 refine xn 0<|dF<|sk<|sr Af<|xq 1 [(8,v2),(0,v2)]<|bN rfl trivial (jr (v:= .agg #[v2,V 0,V 0,V 0,V 0, .bool false,V (-2), .slice none 0 0]) rfl (CA.cons (cs:=[v2]) (RS.qd ar) (CA.cons (cs:=[V (-2)]) rfl (CA.br))) (by kernel_rfl))<|gN rfl trivial (gE (cs:=[v2,V 0,V 0,V 0,V 0, .bool false,V (-2), .slice none 0 0]) rfl rfl) hS ?_
 intro bl cd bm
 refine xn 1<|s0 ?_
 have bn:=bm.c9 (aa ak)
 obtain ⟨bo,bt,hm⟩:=ai hm
 refine cA 1 ((bn.front 0 rfl).front 1 rfl) (fun p=>q0 F (a0:=(⟨a0,0,0,0,0,false,(-2),[]⟩:aF)) p ar (RCs.br _) bt) ?_
 rintro _ cf cg _ ch bu ⟨bw,bx,rfl,rfl,bz,bB⟩
 refine xn 0<|sq ?_
 obtain ⟨aE,j,hm⟩:=ai hm
 refine aI [3] (fun l h=>∃ au aq aH aJ af av,aq=aE∧RS (α:=UInt8) au aJ aq.B∧RCs (α:=ak) au av aq.L∧l=[(3,Pt aH 0)]∧St hs [] Z (0,0) au h [.ae aH (ba aJ af aq), .gs af av (aa ak)]) ?_ ?_
 rintro l ck ⟨au,aq,aH,aJ,af,av,rfl,cl,bC,rfl,aX⟩
 try dsimp only at hm
 refine s0<|aB 3 0 af aX rfl<|xn 1<|rt<|⟨rfl,?_⟩
 obtain rfl:=si hm
 refine ⟨_,_,_,tk af (ResL.nil),((aX.front 1 rfl).takeN 1),?_⟩
 exact ⟨af,av,rfl,rfl,bC⟩
 refine bk 0<|lp [0,3] (fun n l h=>∃ aw J I ah aj al,correctorref6_Tokens_l0 F a0 n J=some aE∧RS (α:=UInt8) aw ah J.B∧RCs (α:=ak) aw al J.L∧l=[(0,v2),(3,Pt I 0)]∧St hs [] Z (0,0) aw h [.ae I (ba ah aj J), .gs aj al (aa ak)]) F ⟨_,bo,bl,bw,(.slice none 0 0),bx,j,bz,bB,(by kernel_rfl),bu⟩ ?_
 rintro an l cm ⟨aw,J,I,ah,aj,al,j,ax,ay,rfl,az⟩
 rcases an with _ | an
 cases (show none=some aE from j)
 rw [correctorref6_Tokens_l0] at j
 refine sq<|s0<|aB 3 0 (V J.At) az rfl<|bG 1 v2 (RS.len (ar.mono az.ag))<|aP 0 j ?_ ?_<;>intro cn j
 refine xn 0<|dT<|sk<|bk 1<|sp 1<|sq ?_
 obtain ⟨bD,ab,j⟩:=ai j
 refine aI [0,3,4] (fun l h=>∃ aA ao aK ad aL aM aO,(ao,aK)=bD∧RS (α:=UInt8) aA aL ao.B∧RCs (α:=ak) aA aO ao.L∧l=[(0,v2),(3,Pt ad 0),(4,V aK)]∧St hs [] Z (0,0) aA h [.ae ad (ba aL aM ao), .gs aM aO (aa ak)]) ?_ ?_
 rintro l cp ⟨aA,ao,aK,ad,aL,aM,aO,rfl,aY,aZ,rfl,aR⟩
 try dsimp only at j
 refine sq<|s0<|cz 1 j ?_ ?_<;>intro cq j
 refine xn 0<|dT<|s0<|aB 5 0 (V ao.At) aR rfl ?_
 obtain ⟨U,bE,j⟩:=ai j
 refine cA 1 aR (fun p=>dV F p aY aZ bE) ?_
 rintro _ cr ct _ cu bF ⟨a1,a2,bH,rfl,rfl,bI,bJ⟩
 refine xn 0<|s0<|bA 3 0 (V 0) [V 0] [a1,V U.At,V U.Row,V 0,V U.bU, .bool U.cj,V U.Text,a2] bF rfl rfl rfl ?_
 intro cw bK
 refine xn 0<|xt 1<|aN ?_
 exact ⟨an,Nat.lt_succ_self _,⟨_,(⟨U.B,U.At,U.Row,0,U.bU,U.cj,U.Text,U.L⟩:aF),ad,a1,a2,bH,j,bI,bJ,(by kernel_rfl),bK⟩⟩
 refine xn 0<|dF<|sk<|s0 ?_
 obtain ⟨bL,bM,j⟩:=ai j
 refine cA 1 aR (fun p=>A9 F p aY aZ bM) ?_
 rintro _ cx cy _ cB a3 ⟨bO,bP,bR,rfl,rfl,a4,a6⟩
 refine kb 0 49 j ?_ ?_<;>intro cC j
 refine xn 6<|dF<|sk ?_
 exact ⟨an,Nat.lt_succ_self _,⟨_,bL.2,ad,bO,bP,bR,j,a4,a6,(by kernel_rfl),a3⟩⟩
 obtain ⟨bS,bT,j⟩:=ai j
 refine cA 3 a3 (fun p=>yU F p a4 a6 bT) ?_
 rintro _ cD cF _ cG a7 ⟨bV,bW,bX,rfl,rfl,a8,a9⟩
 refine kb 0 53 j ?_ ?_<;>intro cH j
 refine xn 2<|dF<|sk ?_
 exact ⟨an,Nat.lt_succ_self _,⟨_,bS.2,ad,bV,bW,bX,j,a8,a9,(by kernel_rfl),a7⟩⟩
 refine xn 2<|dT<|g0 ?_
 obtain ⟨bY,bZ,j⟩:=ai j
 refine cA 1 a7 (fun p=>z4 F p a8 a9 bZ) ?_
 rintro _ cI cJ _ cK b0 ⟨b1,b2,b3,rfl,rfl,b4,b6⟩
 refine xn 0 ?_
 exact ⟨an,Nat.lt_succ_self _,⟨_,bY,ad,b1,b2,b3,j,b4,b6,(by kernel_rfl),b0⟩⟩
 refine cU DB az ?_
 intro bb cL bc aD
 refine yq 3 [(22,Pt I 1),(4,V 0),(0,v2),(3,Pt I 0)] ?_
 have cM:I<bb:=bc.1 _ (List.mem_of_getElem? (i:=0) rfl) _ (by simp [Itm.ids])
 refine aW (v:=V J.At) rfl trivial rfl (by show I<_;omega) (aC (v:=V J.At) trivial) (aD.aU (i:=0) rfl (by kernel_rfl)) trivial<|yq 3 [(26,Pt I 2),(23,V J.At),(4,V 0),(0,v2),(3,Pt I 0)] ?_
 have cP:I<bb:=bc.1 _ (List.mem_of_getElem? (i:=0) rfl) _ (by simp [Itm.ids])
 refine aW (v:=V J.Row) rfl trivial rfl (by show I<_;omega) (aC (v:=V J.Row) trivial) (aD.aU (i:=0) rfl (by kernel_rfl)) trivial ?_
 rcases ifs ab with ⟨aT,ab⟩ | ⟨aT,ab⟩
 refine aG rfl trivial (bp rfl rfl (eU aT))<|yf [(28, .bool true),(4,V 0),(0,v2),(3,Pt I 0)] ?_
 have bd:=aD.a5
 refine dT<|g0<|aB 4 0 (V J.At) bd rfl ?_
 obtain ⟨b7,b8,ab⟩:=ai ab
 refine cE 0 bd (fun cQ bg b9 bh=>uc F b9 (RS.mono bg ax) (bf.row (bh _ (List.mem_of_getElem? (i:=1) rfl)) bg ay) (bh _ (List.mem_of_getElem? (i:=0) rfl)) b8) ?_
 rintro _ cR ca rfl
 refine xn 1 ?_
 obtain rfl:=si ab
 exact ⟨_,J,b7,I,ah,aj,al,rfl,ax,ay,(by kernel_rfl),ca⟩
 refine aG rfl trivial (bp rfl rfl (eV aT))<|yf [(28, .bool false),(4,V 0),(0,v2),(3,Pt I 0)] ?_
 have cb:=aD.a5
 refine dF<|sk ?_
 obtain rfl:=si ab
 exact ⟨_,J,0,I,ah,aj,al,rfl,ax,ay,(by kernel_rfl),cb⟩
 refine xn 0<|dF<|xt 0<|aN ?_
 obtain rfl:=si j
 exact ⟨_,J,I,ah,aj,al,rfl,ax,ay,(by kernel_rfl),az⟩
def zG:List aQ:=[u 6 (mv 0),u 7 (mv 1),u 8 (bo .rem 3 6 7 3),u 5 (sg 8)]
def n9 (F:Nat) (a0:Int) (a1:Int):Option Int:=
 if ¬ a1=(0:Int) then
  ((if (a0.tmod a1)<(0:Int) then
    some (af ((a0.tmod a1)+a1))
   else
    some (a0.tmod a1)):Option Int).bind fun o=>match o with
   | j=>some j
 else none
theorem xD (F:Nat) {h:AH} {Z:Zn} {a0:Int} {a1:Int} (hI:Inv Z h) {r:Int} (hm:n9 F a0 a1=some r):
  bV Try.prog 53 [V a0,V a1] h Z (V r):=by
 refine bW Try.func53 hI ?_
 intro hs hS
 unfold n9 at hm
 refine sp 1<|sr zG<|xq 2 [(7,V a1),(6,V a0),(1,V a1)] ?_
 obtain ⟨U,hm⟩:=aK hm
 refine bN rfl trivial (sT U rfl rfl)<|xn 1<|sq ?_
 obtain ⟨aa,j,hm⟩:=ai hm
 refine dY [5] (fun l h=>∃ J I,I=aa∧l=[(5,V I)]∧St hs [] Z (0,0) J h []) (by kernel_rfl) ?_ ?_
 rintro l ad ⟨J,I,rfl,rfl,ab⟩
 try dsimp only at hm
 refine sp 2<|rt<|⟨rfl,?_⟩
 obtain rfl:=si hm
 refine ⟨_,_,_,tk (V I) (ResL.nil),ab,?_⟩
 exact rfl
 refine g0<|aP 1 j ?_ ?_<;>intro ae j
 refine xn 0<|dT<|gp 4 ?_
 obtain rfl:=si j
 exact ⟨_,af ((a0.tmod a1)+a1),rfl,(by kernel_rfl),hS⟩
 refine xn 0<|dF<|sk ?_
 obtain rfl:=si j
 exact ⟨_,a0.tmod a1,rfl,(by kernel_rfl),hS⟩
def zi:List aQ:=[u 4 (.buildSlice 75 41 #[(0,(.const (.string {data:=#[97]}))),(1,(.const (.string {data:=#[98,58,32]}))),(2,(.const (.string {data:=#[45,32]}))),(3,(.const (.string {data:=#[10]}))),(4,(.const (.string {data:=#[10]}))),(5,(.const (.string {data:=#[10,32,32]}))),(6,(.const (.string {data:=#[10,32,32,32,32]}))),(7,(.const (.string {data:=#[107,101,121,58,32]}))),(8,(.const (.string {data:=#[91]}))),(9,(.const (.string {data:=#[93]}))),(10,(.const (.string {data:=#[123]}))),(11,(.const (.string {data:=#[125]}))),(12,(.const (.string {data:=#[44,32]}))),(13,(.const (.string {data:=#[58,32]}))),(14,(.const (.string {data:=#[39,105,116,39,39,115,39]}))),(15,(.const (.string {data:=#[34,120,92,110,34]}))),(16,(.const (.string {data:=#[35,32,110,111,116,101,10]}))),(17,(.const (.string {data:=#[38,110,32]}))),(18,(.const (.string {data:=#[42,110]}))),(19,(.const (.string {data:=#[33,33,105,110,116,32]}))),(20,(.const (.string {data:=#[124,10]}))),(21,(.const (.string {data:=#[62,45,10]}))),(22,(.const (.string {data:=#[45,45,45]}))),(23,(.const (.string {data:=#[46,46,46]}))),(24,(.const (.string {data:=#[9]}))),(25,(.const (.string {data:=#[13,10]}))),(26,(.const (.string {data:=#[32]}))),(27,(.const (.string {data:=#[49]}))),(28,(.const (.string {data:=#[126]}))),(29,(.const (.string {data:=#[39,111,112,101,110]}))),(30,(.const (.string {data:=#[34,92,113,34]}))),(31,(.const (.string {data:=#[45]}))),(32,(.const (.string {data:=#[58]}))),(33,(.const (.string {data:=#[116,101,120,116,32,111,102,32,119,111,114,100,115]}))),(34,(.const (.string {data:=#[10,45,32]}))),(35,(.const (.string {data:=#[10,107,58,32]}))),(36,(.const (.string {data:=#[32,32]}))),(37,(.const (.string {data:=#[35,32,111,102,102]}))),(38,(.const (.string {data:=#[44]}))),(39,(.const (.string {data:=#[124,43]}))),(40,(.const (.string {data:=#[10,10]})))]),u 3 (sg 4)]
def m4 (F:Nat) (a0:Int):Option ar:=
 (n9 F a0 ([(⟨[97]⟩:ar),(⟨[98,58,32]⟩:ar),(⟨[45,32]⟩:ar),(⟨[10]⟩:ar),(⟨[10]⟩:ar),(⟨[10,32,32]⟩:ar),(⟨[10,32,32,32,32]⟩:ar),(⟨[107,101,121,58,32]⟩:ar),(⟨[91]⟩:ar),(⟨[93]⟩:ar),(⟨[123]⟩:ar),(⟨[125]⟩:ar),(⟨[44,32]⟩:ar),(⟨[58,32]⟩:ar),(⟨[39,105,116,39,39,115,39]⟩:ar),(⟨[34,120,92,110,34]⟩:ar),(⟨[35,32,110,111,116,101,10]⟩:ar),(⟨[38,110,32]⟩:ar),(⟨[42,110]⟩:ar),(⟨[33,33,105,110,116,32]⟩:ar),(⟨[124,10]⟩:ar),(⟨[62,45,10]⟩:ar),(⟨[45,45,45]⟩:ar),(⟨[46,46,46]⟩:ar),(⟨[9]⟩:ar),(⟨[13,10]⟩:ar),(⟨[32]⟩:ar),(⟨[49]⟩:ar),(⟨[126]⟩:ar),(⟨[39,111,112,101,110]⟩:ar),(⟨[34,92,113,34]⟩:ar),(⟨[45]⟩:ar),(⟨[58]⟩:ar),(⟨[116,101,120,116,32,111,102,32,119,111,114,100,115]⟩:ar),(⟨[10,45,32]⟩:ar),(⟨[10,107,58,32]⟩:ar),(⟨[32,32]⟩:ar),(⟨[35,32,111,102,102]⟩:ar),(⟨[44]⟩:ar),(⟨[124,43]⟩:ar),(⟨[10,10]⟩:ar)].length:Int)).bind fun j=>
 if 0≤j∧j<([(⟨[97]⟩:ar),(⟨[98,58,32]⟩:ar),(⟨[45,32]⟩:ar),(⟨[10]⟩:ar),(⟨[10]⟩:ar),(⟨[10,32,32]⟩:ar),(⟨[10,32,32,32,32]⟩:ar),(⟨[107,101,121,58,32]⟩:ar),(⟨[91]⟩:ar),(⟨[93]⟩:ar),(⟨[123]⟩:ar),(⟨[125]⟩:ar),(⟨[44,32]⟩:ar),(⟨[58,32]⟩:ar),(⟨[39,105,116,39,39,115,39]⟩:ar),(⟨[34,120,92,110,34]⟩:ar),(⟨[35,32,110,111,116,101,10]⟩:ar),(⟨[38,110,32]⟩:ar),(⟨[42,110]⟩:ar),(⟨[33,33,105,110,116,32]⟩:ar),(⟨[124,10]⟩:ar),(⟨[62,45,10]⟩:ar),(⟨[45,45,45]⟩:ar),(⟨[46,46,46]⟩:ar),(⟨[9]⟩:ar),(⟨[13,10]⟩:ar),(⟨[32]⟩:ar),(⟨[49]⟩:ar),(⟨[126]⟩:ar),(⟨[39,111,112,101,110]⟩:ar),(⟨[34,92,113,34]⟩:ar),(⟨[45]⟩:ar),(⟨[58]⟩:ar),(⟨[116,101,120,116,32,111,102,32,119,111,114,100,115]⟩:ar),(⟨[10,45,32]⟩:ar),(⟨[10,107,58,32]⟩:ar),(⟨[32,32]⟩:ar),(⟨[35,32,111,102,102]⟩:ar),(⟨[44]⟩:ar),(⟨[124,43]⟩:ar),(⟨[10,10]⟩:ar)].length:Int) then
  ([(⟨[97]⟩:ar),(⟨[98,58,32]⟩:ar),(⟨[45,32]⟩:ar),(⟨[10]⟩:ar),(⟨[10]⟩:ar),(⟨[10,32,32]⟩:ar),(⟨[10,32,32,32,32]⟩:ar),(⟨[107,101,121,58,32]⟩:ar),(⟨[91]⟩:ar),(⟨[93]⟩:ar),(⟨[123]⟩:ar),(⟨[125]⟩:ar),(⟨[44,32]⟩:ar),(⟨[58,32]⟩:ar),(⟨[39,105,116,39,39,115,39]⟩:ar),(⟨[34,120,92,110,34]⟩:ar),(⟨[35,32,110,111,116,101,10]⟩:ar),(⟨[38,110,32]⟩:ar),(⟨[42,110]⟩:ar),(⟨[33,33,105,110,116,32]⟩:ar),(⟨[124,10]⟩:ar),(⟨[62,45,10]⟩:ar),(⟨[45,45,45]⟩:ar),(⟨[46,46,46]⟩:ar),(⟨[9]⟩:ar),(⟨[13,10]⟩:ar),(⟨[32]⟩:ar),(⟨[49]⟩:ar),(⟨[126]⟩:ar),(⟨[39,111,112,101,110]⟩:ar),(⟨[34,92,113,34]⟩:ar),(⟨[45]⟩:ar),(⟨[58]⟩:ar),(⟨[116,101,120,116,32,111,102,32,119,111,114,100,115]⟩:ar),(⟨[10,45,32]⟩:ar),(⟨[10,107,58,32]⟩:ar),(⟨[32,32]⟩:ar),(⟨[35,32,111,102,102]⟩:ar),(⟨[44]⟩:ar),(⟨[124,43]⟩:ar),(⟨[10,10]⟩:ar)][j.toNat]?).bind fun I=>
  some I
 else none
theorem vV (F:Nat) {h:AH} {Z:Zn} {a0:Int} (hI:Inv Z h) {r:ar} (hm:m4 F a0=some r):
  bV Try.prog 29 [V a0] h Z (.string ⟨⟨r.b⟩⟩):=by
 refine bW Try.func29 hI ?_
 intro hs hS
 unfold m4 at hm
 refine s0<|xe 1 [(0,V a0)]<|sr zi ?_
 have j:RCs (α:=ar) Z [.string ⟨⟨[97]⟩⟩, .string ⟨⟨[98,58,32]⟩⟩, .string ⟨⟨[45,32]⟩⟩, .string ⟨⟨[10]⟩⟩, .string ⟨⟨[10]⟩⟩, .string ⟨⟨[10,32,32]⟩⟩, .string ⟨⟨[10,32,32,32,32]⟩⟩, .string ⟨⟨[107,101,121,58,32]⟩⟩, .string ⟨⟨[91]⟩⟩, .string ⟨⟨[93]⟩⟩, .string ⟨⟨[123]⟩⟩, .string ⟨⟨[125]⟩⟩, .string ⟨⟨[44,32]⟩⟩, .string ⟨⟨[58,32]⟩⟩, .string ⟨⟨[39,105,116,39,39,115,39]⟩⟩, .string ⟨⟨[34,120,92,110,34]⟩⟩, .string ⟨⟨[35,32,110,111,116,101,10]⟩⟩, .string ⟨⟨[38,110,32]⟩⟩, .string ⟨⟨[42,110]⟩⟩, .string ⟨⟨[33,33,105,110,116,32]⟩⟩, .string ⟨⟨[124,10]⟩⟩, .string ⟨⟨[62,45,10]⟩⟩, .string ⟨⟨[45,45,45]⟩⟩, .string ⟨⟨[46,46,46]⟩⟩, .string ⟨⟨[9]⟩⟩, .string ⟨⟨[13,10]⟩⟩, .string ⟨⟨[32]⟩⟩, .string ⟨⟨[49]⟩⟩, .string ⟨⟨[126]⟩⟩, .string ⟨⟨[39,111,112,101,110]⟩⟩, .string ⟨⟨[34,92,113,34]⟩⟩, .string ⟨⟨[45]⟩⟩, .string ⟨⟨[58]⟩⟩, .string ⟨⟨[116,101,120,116,32,111,102,32,119,111,114,100,115]⟩⟩, .string ⟨⟨[10,45,32]⟩⟩, .string ⟨⟨[10,107,58,32]⟩⟩, .string ⟨⟨[32,32]⟩⟩, .string ⟨⟨[35,32,111,102,102]⟩⟩, .string ⟨⟨[44]⟩⟩, .string ⟨⟨[124,43]⟩⟩, .string ⟨⟨[10,10]⟩⟩] [(⟨[97]⟩:ar),(⟨[98,58,32]⟩:ar),(⟨[45,32]⟩:ar),(⟨[10]⟩:ar),(⟨[10]⟩:ar),(⟨[10,32,32]⟩:ar),(⟨[10,32,32,32,32]⟩:ar),(⟨[107,101,121,58,32]⟩:ar),(⟨[91]⟩:ar),(⟨[93]⟩:ar),(⟨[123]⟩:ar),(⟨[125]⟩:ar),(⟨[44,32]⟩:ar),(⟨[58,32]⟩:ar),(⟨[39,105,116,39,39,115,39]⟩:ar),(⟨[34,120,92,110,34]⟩:ar),(⟨[35,32,110,111,116,101,10]⟩:ar),(⟨[38,110,32]⟩:ar),(⟨[42,110]⟩:ar),(⟨[33,33,105,110,116,32]⟩:ar),(⟨[124,10]⟩:ar),(⟨[62,45,10]⟩:ar),(⟨[45,45,45]⟩:ar),(⟨[46,46,46]⟩:ar),(⟨[9]⟩:ar),(⟨[13,10]⟩:ar),(⟨[32]⟩:ar),(⟨[49]⟩:ar),(⟨[126]⟩:ar),(⟨[39,111,112,101,110]⟩:ar),(⟨[34,92,113,34]⟩:ar),(⟨[45]⟩:ar),(⟨[58]⟩:ar),(⟨[116,101,120,116,32,111,102,32,119,111,114,100,115]⟩:ar),(⟨[10,45,32]⟩:ar),(⟨[10,107,58,32]⟩:ar),(⟨[32,32]⟩:ar),(⟨[35,32,111,102,102]⟩:ar),(⟨[44]⟩:ar),(⟨[124,43]⟩:ar),(⟨[10,10]⟩:ar)]:=RCs.cons (cs:=[.string ⟨⟨[97]⟩⟩]) rfl (RCs.cons (cs:=[.string ⟨⟨[98,58,32]⟩⟩]) rfl (RCs.cons (cs:=[.string ⟨⟨[45,32]⟩⟩]) rfl (RCs.cons (cs:=[.string ⟨⟨[10]⟩⟩]) rfl (RCs.cons (cs:=[.string ⟨⟨[10]⟩⟩]) rfl (RCs.cons (cs:=[.string ⟨⟨[10,32,32]⟩⟩]) rfl (RCs.cons (cs:=[.string ⟨⟨[10,32,32,32,32]⟩⟩]) rfl (RCs.cons (cs:=[.string ⟨⟨[107,101,121,58,32]⟩⟩]) rfl (RCs.cons (cs:=[.string ⟨⟨[91]⟩⟩]) rfl (RCs.cons (cs:=[.string ⟨⟨[93]⟩⟩]) rfl (RCs.cons (cs:=[.string ⟨⟨[123]⟩⟩]) rfl (RCs.cons (cs:=[.string ⟨⟨[125]⟩⟩]) rfl (RCs.cons (cs:=[.string ⟨⟨[44,32]⟩⟩]) rfl (RCs.cons (cs:=[.string ⟨⟨[58,32]⟩⟩]) rfl (RCs.cons (cs:=[.string ⟨⟨[39,105,116,39,39,115,39]⟩⟩]) rfl (RCs.cons (cs:=[.string ⟨⟨[34,120,92,110,34]⟩⟩]) rfl (RCs.cons (cs:=[.string ⟨⟨[35,32,110,111,116,101,10]⟩⟩]) rfl (RCs.cons (cs:=[.string ⟨⟨[38,110,32]⟩⟩]) rfl (RCs.cons (cs:=[.string ⟨⟨[42,110]⟩⟩]) rfl (RCs.cons (cs:=[.string ⟨⟨[33,33,105,110,116,32]⟩⟩]) rfl (RCs.cons (cs:=[.string ⟨⟨[124,10]⟩⟩]) rfl (RCs.cons (cs:=[.string ⟨⟨[62,45,10]⟩⟩]) rfl (RCs.cons (cs:=[.string ⟨⟨[45,45,45]⟩⟩]) rfl (RCs.cons (cs:=[.string ⟨⟨[46,46,46]⟩⟩]) rfl (RCs.cons (cs:=[.string ⟨⟨[9]⟩⟩]) rfl (RCs.cons (cs:=[.string ⟨⟨[13,10]⟩⟩]) rfl (RCs.cons (cs:=[.string ⟨⟨[32]⟩⟩]) rfl (RCs.cons (cs:=[.string ⟨⟨[49]⟩⟩]) rfl (RCs.cons (cs:=[.string ⟨⟨[126]⟩⟩]) rfl (RCs.cons (cs:=[.string ⟨⟨[39,111,112,101,110]⟩⟩]) rfl (RCs.cons (cs:=[.string ⟨⟨[34,92,113,34]⟩⟩]) rfl (RCs.cons (cs:=[.string ⟨⟨[45]⟩⟩]) rfl (RCs.cons (cs:=[.string ⟨⟨[58]⟩⟩]) rfl (RCs.cons (cs:=[.string ⟨⟨[116,101,120,116,32,111,102,32,119,111,114,100,115]⟩⟩]) rfl (RCs.cons (cs:=[.string ⟨⟨[10,45,32]⟩⟩]) rfl (RCs.cons (cs:=[.string ⟨⟨[10,107,58,32]⟩⟩]) rfl (RCs.cons (cs:=[.string ⟨⟨[32,32]⟩⟩]) rfl (RCs.cons (cs:=[.string ⟨⟨[35,32,111,102,102]⟩⟩]) rfl (RCs.cons (cs:=[.string ⟨⟨[44]⟩⟩]) rfl (RCs.cons (cs:=[.string ⟨⟨[124,43]⟩⟩]) rfl (RCs.cons (cs:=[.string ⟨⟨[10,10]⟩⟩]) rfl (RCs.br _)))))))))))))))))))))))))))))))))))))))))
 refine dP rfl trivial (cX (cells:=[.string ⟨⟨[97]⟩⟩, .string ⟨⟨[98,58,32]⟩⟩, .string ⟨⟨[45,32]⟩⟩, .string ⟨⟨[10]⟩⟩, .string ⟨⟨[10]⟩⟩, .string ⟨⟨[10,32,32]⟩⟩, .string ⟨⟨[10,32,32,32,32]⟩⟩, .string ⟨⟨[107,101,121,58,32]⟩⟩, .string ⟨⟨[91]⟩⟩, .string ⟨⟨[93]⟩⟩, .string ⟨⟨[123]⟩⟩, .string ⟨⟨[125]⟩⟩, .string ⟨⟨[44,32]⟩⟩, .string ⟨⟨[58,32]⟩⟩, .string ⟨⟨[39,105,116,39,39,115,39]⟩⟩, .string ⟨⟨[34,120,92,110,34]⟩⟩, .string ⟨⟨[35,32,110,111,116,101,10]⟩⟩, .string ⟨⟨[38,110,32]⟩⟩, .string ⟨⟨[42,110]⟩⟩, .string ⟨⟨[33,33,105,110,116,32]⟩⟩, .string ⟨⟨[124,10]⟩⟩, .string ⟨⟨[62,45,10]⟩⟩, .string ⟨⟨[45,45,45]⟩⟩, .string ⟨⟨[46,46,46]⟩⟩, .string ⟨⟨[9]⟩⟩, .string ⟨⟨[13,10]⟩⟩, .string ⟨⟨[32]⟩⟩, .string ⟨⟨[49]⟩⟩, .string ⟨⟨[126]⟩⟩, .string ⟨⟨[39,111,112,101,110]⟩⟩, .string ⟨⟨[34,92,113,34]⟩⟩, .string ⟨⟨[45]⟩⟩, .string ⟨⟨[58]⟩⟩, .string ⟨⟨[116,101,120,116,32,111,102,32,119,111,114,100,115]⟩⟩, .string ⟨⟨[10,45,32]⟩⟩, .string ⟨⟨[10,107,58,32]⟩⟩, .string ⟨⟨[32,32]⟩⟩, .string ⟨⟨[35,32,111,102,102]⟩⟩, .string ⟨⟨[44]⟩⟩, .string ⟨⟨[124,43]⟩⟩, .string ⟨⟨[10,10]⟩⟩]) (s:=1) (by kernel_rfl)) (by kernel_rfl) hS ?_
 intro v1 h2 I
 refine xn 1<|s0<|bG 3 v1 (I.da (i:=0) rfl j) ?_
 obtain ⟨ab,aa,hm⟩:=ai hm
 refine cP 0 I (xD F I.inv aa) ?_
 rintro _ ad J rfl
 refine eJ 0 0 hm J j rfl ?_
 intro ae hm
 refine fv 0 0 0 (fun U=> .string ⟨⟨U.b⟩⟩) hm J j rfl ?_
 intro U af hm
 refine xn 1<|rt<|⟨rfl,?_⟩
 obtain rfl:=si hm
 refine ⟨_,_,_,tk (.string ⟨⟨U.b⟩⟩) (ResL.nil),J,?_⟩
 exact rfl
def CQ:List aQ:=[u 17 (mv 6),u 18 (mv 0),u 19 (cb .len #[(t 18)] #[23]),u 20 (bc .quo 3 19 2 3),u 21 (bo .eql 3 17 20 3)]
def z9:List aQ:=[u 22 (mv 5),u 23 (mv 1),u 24 (mv 1),u 25 (cb .len #[(t 24)] #[31]),u 26 (cb .min #[(t 25),(ci 30)] #[3,3]),u 27 (.slice 31 (t 23) none (some (t 26)) none),u 28 (cb .append #[(t 22),(t 27)] #[31,31]),u 5 (sg 28)]
def Dq:List aQ:=[u 29 (mv 5),u 30 (mv 0),u 31 (mv 6),u 32 (ia 23 30 31),u 33 (ld 3 32),u 34 (cf 29 #[(t 33)] #[3]),u 35 (cb .append #[(t 29),(t 34)] #[31,9]),u 5 (sg 35)]
def xw:List aQ:=[u 36 (mv 5),u 37 (mv 5),u 38 (cb .len #[(t 37)] #[31]),u 39 (cb .min #[(t 38),(ci 400)] #[3,3]),u 40 (.slice 31 (t 36) none (some (t 39)) none),u 4 (sg 40)]
def correctorlaw6_Text_l0 (F:Nat) (a0:List Int) (a1:List UInt8):Nat→(List UInt8)→Int→Option (List UInt8)
 | 0,_,_=>none
 | n+1,I,j=>
  if j<(a0.length:Int) then
   if j<(60:Int) then
    ((if j=(af ((a0.length:Int).tdiv 2)) then
      if 0≤(0:Int)∧(0:Int)≤(dy (a1.length:Int) 30)∧(dy (a1.length:Int) 30)≤(a1.length:Int) then
       if I.length+((a1.take (dy (a1.length:Int) 30).toNat).drop (0:Int).toNat).length≤140737488355328 then
        some (I++((a1.take (dy (a1.length:Int) 30).toNat).drop (0:Int).toNat))
       else none
      else none
     else
      some I):Option (List UInt8)).bind fun o=>match o with
     | J=>if 0≤j∧j<(a0.length:Int) then
      (a0[j.toNat]?).bind fun aa=>
      (m4 F aa).bind fun U=>
      if J.length+U.b.length≤140737488355328 then
       correctorlaw6_Text_l0 F a0 a1 n (J++U.b) (af (j+1))
      else none
     else none
   else
    some I
  else
   some I
def mq (F:Nat) (a0:List Int) (a1:List UInt8):Option (List UInt8):=
 ((correctorlaw6_Text_l0 F a0 a1 F [] 0):Option (List UInt8)).bind fun o=>match o with
  | j=>if 0≤(0:Int)∧(0:Int)≤(dy (j.length:Int) 400)∧(dy (j.length:Int) 400)≤(j.length:Int) then
   some ((j.take (dy (j.length:Int) 400).toNat).drop (0:Int).toNat)
  else none
theorem x7 (F:Nat) {h:AH} {Z:Zn} {a0:List Int} {a1:List UInt8} {v2 v4} (hP:Pre Z h []) (ao:RS (α:=Int) Z v2 a0) (aD:RS (α:=UInt8) Z v4 a1) {r:(List UInt8)} (hm:mq F a0 a1=some r):
  bQ Try.prog 12 [v2,v4] h Z [] fun v Z' A'=>∃ v6,v6=v∧A'=[]∧RS (α:=UInt8) Z' v6 r:=by
 refine b5 Try.func12 hP ?_
 intro hs hS
 unfold mq at hm
 replace hS:St hs [] Z (0,0) Z hs []:=hS
 refine sp 1<|sp 1<|sq<|sp 1 ?_
 obtain ⟨au,j,hm⟩:=ai hm
 refine aI [5] (fun l h=>∃ av ah aj aw,ah=au∧RCs (α:=UInt8) av aw ah∧l=[(5,aj)]∧St hs [] Z (0,0) av h [.gs aj aw (aa UInt8)]) ?_ ?_
 rintro l bb ⟨av,ah,aj,aw,rfl,aF,rfl,aG⟩
 try dsimp only at hm
 refine sr xw<|bG 2 aj (aG.da (i:=0) rfl aF)<|xq 1 [(39,V (dy (ah.length:Int) 400)),(36,aj)] ?_
 obtain ⟨bc,bd,aM,aO⟩:=(aG.front 0 rfl).freeze aF
 obtain ⟨ax,hm⟩:=aK hm
 refine jS rfl trivial (iP (a:=0) (b:=dy (ah.length:Int) 400) aM rfl (by kernel_rfl:slTy _ _=some (aa UInt8)) rfl ⟨_,rfl⟩ ax.1 ax.2.1 ax.2.2) ?_
 intro aH aR
 refine xn 1<|rt<|⟨rfl,?_⟩
 obtain rfl:=si hm
 refine ⟨_,_,_,tk aH (ResL.nil),aO,?_⟩
 exact ⟨aH,rfl,rfl,aR⟩
 refine bk 0 ?_
 have aT:=hS.c9 (aa UInt8)
 refine lp [0,1,5,6] (fun n l h=>∃ ay ad I J ae,correctorlaw6_Text_l0 F a0 a1 n ad I=some au∧RCs (α:=UInt8) ay ae ad∧l=[(0,v2),(1,v4),(5,J),(6,V I)]∧St hs [] Z (0,0) ay h [.gs J ae (aa UInt8)]) F ⟨_,[],0,(.slice none 0 0),[],j,(RCs.br _),(by kernel_rfl),aT⟩ ?_
 rintro az l bf ⟨ay,ad,I,J,ae,j,aq,rfl,U⟩
 rcases az with _ | az
 cases (show none=some au from j)
 rw [correctorlaw6_Text_l0] at j
 refine sq<|s0<|bG 2 v2 (RS.len (ao.mono U.ag))<|aP 0 j ?_ ?_<;>intro bg j
 refine aP 2 j ?_ ?_<;>intro bj j
 refine xn 1<|dT<|sk<|sq<|bk 1<|sq ?_
 obtain ⟨aU,ab,j⟩:=ai j
 refine dY [0,1,5,6] (fun l h=>∃ aA ar al aB,ar=aU∧RCs (α:=UInt8) aA aB ar∧l=[(0,v2),(1,v4),(5,al),(6,V I)]∧St hs [] Z (0,0) aA h [.gs al aB (aa UInt8)]) (by kernel_rfl) ?_ ?_
 rintro l bl ⟨aA,ar,al,aB,rfl,aV,rfl,an⟩
 try dsimp only at j
 refine rg Dq<|xq 3 [(31,V I),(30,v2),(29,al),(0,v2),(1,v4),(5,al),(6,V I)]<|a6 0 j (ao.mono an.ag) ?_
 intro bm j
 refine bh 0 0 (fun aJ=>V aJ) j (ao.mono an.ag) an ?_
 intro aJ bn j
 obtain ⟨aL,aW,j⟩:=ai j
 refine cP 0 an (vV F an.inv aW) ?_
 rintro _ bo aX rfl
 obtain ⟨bp,j⟩:=aK j
 refine eS rfl trivial (dG (ys:=aL.b) (bS:=1) aX (i:=0) rfl aV (vW _ _) rfl rfl (by kernel_rfl) (by omega) (by omega)) ?_
 rintro aY aZ bt ⟨a2,a3⟩
 refine xn 1<|gp 3 ?_
 exact ⟨az,Nat.lt_succ_self _,⟨_,ar++aL.b,af (I+1),aY,aZ,j,a2,(by kernel_rfl),a3⟩⟩
 refine rg CQ<|xq 2 [(18,v2),(17,V I),(0,v2),(1,v4),(5,J),(6,V I)]<|bG 0 v2 (RS.len (ao.mono U.ag))<|bN rfl trivial (zf (b:=2) (by decide) rfl rfl)<|aE 0 ab ?_ ?_<;>intro bu ab
 refine xn 0<|dT<|rg z9<|bG 3 v4 (RS.len (aD.mono U.ag))<|xq 1 [(26,V (dy (a1.length:Int) 30)),(23,v4),(22,J),(0,v2),(1,v4),(5,J),(6,V I)] ?_
 obtain ⟨aC,ab⟩:=aK ab
 refine jS rfl trivial (iP (a:=0) (b:=dy (a1.length:Int) 30) (aD.mono U.ag) rfl (by kernel_rfl:slTy _ _=some (aa UInt8)) rfl ⟨_,rfl⟩ aC.1 aC.2.1 aC.2.2) ?_
 intro bw a4
 obtain ⟨bx,a5⟩:=RS.news a4 (U).inv
 obtain ⟨bz,ab⟩:=aK ab
 refine eS rfl trivial (dG (ys:=(a1.take (dy (a1.length:Int) 30).toNat).drop (0:Int).toNat) (bS:=1) U (i:=0) rfl aq a5 rfl rfl (by kernel_rfl) (by omega) (by omega)) ?_
 rintro a7 a8 bA ⟨a9,ba⟩
 refine xn 1 ?_
 obtain rfl:=si ab
 exact ⟨_,ad++((a1.take (dy (a1.length:Int) 30).toNat).drop (0:Int).toNat),a7,a8,rfl,a9,(by kernel_rfl),ba⟩
 refine xn 0<|dF<|sk ?_
 obtain rfl:=si ab
 exact ⟨_,ad,J,ae,rfl,aq,(by kernel_rfl),U⟩
 refine xn 1<|dF<|xt 0<|aN ?_
 obtain rfl:=si j
 exact ⟨_,ad,J,ae,rfl,aq,(by kernel_rfl),U⟩
 refine xn 4<|dF<|xt 0<|aN ?_
 obtain rfl:=si j
 exact ⟨_,ad,J,ae,rfl,aq,(by kernel_rfl),U⟩
end Go.Proofs.Ytcilejikekccmaa.M
namespace Go.Proofs.Ytcilejikekccmaa.M
open Go Am Sy
open Sy.Cell (rc)
structure an where
 Kind:Int
 ah:Int
 To:Int
 aD:Int
 deriving DecidableEq,Inhabited
instance:Cell an where
 size:=4
 rc Z cs x:=cs=[V x.Kind,V x.ah,V x.To,V x.aD]
 len h:=by rw [h];rfl
 mono _ h:=h
 one h:=by rw [h];rfl
 pos:=by decide
theorem C0 {Z:Zn} {cs:List Value} {x:an} (h:rc Z cs x):cs=[V x.Kind,V x.ah,V x.To,V x.aD]:=h
abbrev cw (x:an):List Value:=[V x.Kind,V x.ah,V x.To,V x.aD]
instance:FC an:=⟨cw,fun q=>q⟩
structure a2 where
 ik:Bool
 aD:Int
 ah:Int
 To:Int
 deriving DecidableEq,Inhabited
instance:Cell a2 where
 size:=4
 rc Z cs x:=cs=[.bool x.ik,V x.aD,V x.ah,V x.To]
 len h:=by rw [h];rfl
 mono _ h:=h
 one h:=by rw [h];rfl
 pos:=by decide
theorem tS {Z:Zn} {cs:List Value} {x:a2} (h:rc Z cs x):cs=[.bool x.ik,V x.aD,V x.ah,V x.To]:=h
abbrev eC (x:a2):List Value:=[.bool x.ik,V x.aD,V x.ah,V x.To]
instance:FC a2:=⟨eC,fun q=>q⟩
def zJ:List bq:=[uP 33 (mv 0),uP 34 (mv 5),uP 35 (ia 24 33 34),uP 36 (fa 85 35 1),uL 37 (ld 3 36),uP 38 (mv 0),uP 39 (fa 63 6 1),uL 40 (ld 3 39),uP 41 (ia 24 38 40),uP 42 (fa 85 41 1),uL 43 (ld 3 42),uP 44 (bo .sub 3 37 43 3),uP 45 (fa 63 6 3),oF (.store 3 (t 45) (t 44)) .make [4,7,10],uP 46 (fa 63 6 0),oF (.store 3 (t 46) (ci 5)) .make [4,7,10]]
def zD:List aQ:=[u 94 (mv 3),u 95 (ld 63 6),u 96 (.buildSlice 52 1 #[(0,(t 95))]),u 97 (cb .append #[(t 94),(t 96)] #[52,52]),u 3 (sg 97)]
def correctorref9_Rows_l1 (F:Nat) (a0:List ak):Nat→(List an)→Int→Int→an→Bool→Option ((List an)×Int×Int×an×Bool)
 | 0,_,_,_,_,_=>none
 | n+1,U,aa,I,j,ab=>
  if I<(a0.length:Int) then
   if 0≤I∧I<(a0.length:Int) then
    (a0[I.toNat]?).bind fun J=>
    ((if j.aD<(0:Int) then
      (ft F J.Kind).bind fun ay=>
      if ay=true then
       if 0≤I∧I<(a0.length:Int) then
        (a0[I.toNat]?).bind fun aj=>
        if 0≤j.ah∧j.ah<(a0.length:Int) then
         (a0[j.ah.toNat]?).bind fun al=>
         if J.Kind=(20:Int) then
          some (U,(⟨4,j.ah,j.To,af (aj.ah - al.ah)⟩:an))
         else
          if J.Kind=(21:Int) then
           some (U,(⟨4,j.ah,j.To,af (aj.ah - al.ah)⟩:an))
          else
           some (U,(⟨5,j.ah,j.To,af (aj.ah - al.ah)⟩:an))
        else none
       else none
      else
       some (U,j)
     else
      some (U,j)):Option ((List an)×an)).bind fun o=>match o with
     | (ao,aq)=>((((if J.Kind=(8:Int) then
        some (ao,aq,true)
       else
        if J.Kind=(9:Int) then
         some (ao,aq,true)
        else
         some (ao,aq,false)):Option ((List an)×an×Bool)).bind fun o=>match o with
       | (ad,ae,az)=>if az=true then
        some (ad,af (aa+1),ae)
       else
        ((if J.Kind=(10:Int) then
          some (ad,ae,true)
         else
          if J.Kind=(11:Int) then
           some (ad,ae,true)
          else
           some (ad,ae,false)):Option ((List an)×an×Bool)).bind fun o=>match o with
         | (ag,ai,aA)=>if aA=true then
          some (ag,imax (af (aa - 1)) 0,ai)
         else
          ((if J.Kind=(20:Int) then
            some (ag,ai,true)
           else
            if J.Kind=(21:Int) then
             some (ag,ai,true)
            else
             some (ag,ai,false)):Option ((List an)×an×Bool)).bind fun o=>match o with
           | (aw,ax,aB)=>if aB=true then
            some (aw,0,ax)
           else
            some (aw,aa,ax)):Option ((List an)×Int×an)).bind fun o=>match o with
      | (ar,au,av)=>if J.Kind=(1:Int) then
       some (ar,au,af (I+1),av,ab)
      else
       if J.Kind=(19:Int) then
        some (ar,au,af (I+1),av,ab)
       else
        correctorref9_Rows_l1 F a0 n ar au (af (I+1)) av ab
   else none
  else
   some (U,aa,I,j,ab)
def correctorref9_Rows_l0 (F:Nat) (a0:List ak):Nat→(List an)→Int→Int→Option (List an)
 | 0,_,_,_=>none
 | n+1,aa,ab,J=>
  if J<(a0.length:Int) then
   ((if (0:Int)<ab then
     some (aa,(⟨1,J,0,(-1)⟩:an),true)
    else
     some (aa,(⟨1,J,0,(-1)⟩:an),false)):Option ((List an)×an×Bool)).bind fun o=>match o with
    | (af,ag,ai)=>((correctorref9_Rows_l1 F a0 F af ab J ag ai):Option ((List an)×Int×Int×an×Bool)).bind fun o=>match o with
     | (U,aj,I,j,al)=>((if 0≤j.ah∧j.ah<(a0.length:Int) then
       (a0[j.ah.toNat]?).bind fun ao=>
       if ao.Kind=(19:Int) then
        some (U,(⟨2,j.ah,I,j.aD⟩:an))
       else
        if al=true then
         if j.Kind=(4:Int) then
          some (U,(⟨j.Kind,j.ah,I,j.aD⟩:an))
         else
          some (U,(⟨3,j.ah,I,j.aD⟩:an))
        else
         some (U,(⟨j.Kind,j.ah,I,j.aD⟩:an))
      else none):Option ((List an)×an)).bind fun o=>match o with
      | (ad,ae)=>if ad.length+[ae].length≤4398046511104 then
       correctorref9_Rows_l0 F a0 n (ad++[ae]) aj I
      else none
  else
   some aa
def lO (F:Nat) (a0:List ak):Option (List an):=
 ((correctorref9_Rows_l0 F a0 F [] 0 0):Option (List an)).bind fun o=>match o with
  | j=>some j
theorem x5 (F:Nat) {h:AH} {Z:Zn} {a0:List ak} {v2} (hP:Pre Z h []) (aJ:RS (α:=ak) Z v2 a0) {r:(List an)} (hm:lO F a0=some r):
  bQ Try.prog 20 [v2] h Z [] fun v Z' A'=>∃ v4 cS,v4=v∧A'=[.gs v4 cS (aa an)]∧RCs (α:=an) Z' cS r:=by
 refine b5 Try.func20 hP ?_
 intro hs hS
 unfold lO at hm
 replace hS:St hs [] Z (0,0) Z hs []:=hS
 refine sp 1<|sp 1<|sp 1<|sq<|sp 1 ?_
 obtain ⟨cd,ao,hm⟩:=ai hm
 refine aI [3] (fun l h=>∃ cf cg bJ bU,cg=cd∧RCs (α:=an) cf bU cg∧l=[(3,bJ)]∧St hs [] Z (0,0) cf h [.gs bJ bU (aa an)]) ?_ ?_
 rintro l dX ⟨cf,cg,bJ,bU,rfl,dh,rfl,di⟩
 try dsimp only at hm
 refine sp 2<|rt<|⟨rfl,?_⟩
 obtain rfl:=si hm
 refine ⟨_,_,_,tk bJ (ResL.nil),di,?_⟩
 exact ⟨bJ,bU,rfl,rfl,dh⟩
 refine bk 0 ?_
 have dj:=hS.c9 (aa an)
 refine lp [0,3,4,5] (fun n l h=>∃ ch bl bK aL bm bn,correctorref9_Rows_l0 F a0 n bl bK aL=some cd∧RCs (α:=an) ch bn bl∧l=[(0,v2),(3,bm),(4,V bK),(5,V aL)]∧St hs [] Z (0,0) ch h [.gs bm bn (aa an)]) F ⟨_,[],0,0,(.slice none 0 0),[],ao,(RCs.br _),(by kernel_rfl),dj⟩ ?_
 rintro cj l dZ ⟨ch,bl,bK,aL,bm,bn,ao,ck,rfl,cl⟩
 rcases cj with _ | cj
 cases (show none=some cd from ao)
 rw [correctorref9_Rows_l0] at ao
 refine sq<|s0<|bG 2 v2 (RS.len (aJ.mono cl.ag))<|aP 0 ao ?_ ?_<;>intro ea ao
 refine xn 0<|dT<|sk<|bk 1<|s0<|df 2 [V 0,V 0,V 0,V 0] cl ?_
 intro cT eb dk
 refine bA 0 0 (.agg #[V 1,V aL,V 0,V (-1)]) [V 1,V aL,V 0,V (-1)] [V 1,V aL,V 0,V (-1)] dk rfl rfl rfl ?_
 intro ec cY
 refine xn 0<|sq ?_
 obtain ⟨dm,bV,ao⟩:=ai ao
 refine aI [0,3,4,5,6,7] (fun l h=>∃ cm bW bX bY bZ b0 b2,(bW,bX,bY)=dm∧RCs (α:=an) cm b0 bW∧l=[(0,v2),(3,bZ),(4,V bK),(5,V aL),(6,Pt b2 0),(7, .bool bY)]∧St hs [] Z (0,0) cm h [.gs bZ b0 (aa an), .ae b2 (cw bX)]) ?_ ?_
 rintro l ed ⟨cm,bW,bX,bY,bZ,b0,b2,rfl,dn,rfl,dp⟩
 try dsimp only at ao
 refine sq ?_
 obtain ⟨cn,U,ao⟩:=ai ao
 refine aI [0,3,4,5,6,7] (fun l h=>∃ cp aR bo ay ad cq aT aV aX,(aR,bo,ay,ad,cq)=cn∧RCs (α:=an) cp aV aR∧l=[(0,v2),(3,aT),(4,V bo),(5,V ay),(6,Pt aX 0),(7, .bool cq)]∧St hs [] Z (0,0) cp h [.gs aT aV (aa an), .ae aX (cw ad)]) ?_ ?_
 rintro l ee ⟨cp,aR,bo,ay,ad,cq,aT,aV,aX,rfl,b3,rfl,cr⟩
 try dsimp only at ao
 refine s0<|bA 2 1 (V ay) [V ay] [V ad.Kind,V ad.ah,V ay,V ad.aD] cr rfl rfl rfl ?_
 intro eg aY
 refine xn 0<|sq ?_
 obtain ⟨dq,az,ao⟩:=ai ao
 refine dY [0,3,4,5,6] (fun l h=>∃ b4 b6 aj bM ct b7,(b6,aj)=dq∧RCs (α:=an) b4 ct b6∧l=[(0,v2),(3,bM),(4,V bo),(5,V ay),(6,Pt b7 0)]∧St hs [] Z (0,0) b4 h [.gs bM ct (aa an), .ae b7 (cw aj)]) (by kernel_rfl) ?_ ?_
 rintro l eh ⟨b4,b6,aj,bM,ct,b7,rfl,dr,rfl,c0⟩
 try dsimp only at ao
 refine rg zD<|xq 1 [(94,bM),(0,v2),(3,bM),(4,V bo),(5,V ay),(6,Pt b7 0)]<|aB 0 1 (.agg #[V aj.Kind,V aj.ah,V aj.To,V aj.aD]) c0 rfl ?_
 have ds:RCs (α:=an) b4 [V aj.Kind,V aj.ah,V aj.To,V aj.aD] [aj]:=RCs.cons (cs:=[V aj.Kind,V aj.ah,V aj.To,V aj.aD]) rfl (RCs.br _)
 refine dP rfl trivial (cX (cells:=[V aj.Kind,V aj.ah,V aj.To,V aj.aD]) (s:=4) (by kernel_rfl)) (by kernel_rfl) c0 ?_
 intro ei ej c3
 obtain ⟨ek,ao⟩:=aK ao
 refine eS rfl trivial (dG (ys:=[aj]) (bS:=32) c3 (i:=1) rfl dr ((c3).eA (j:=0) rfl ds) rfl rfl (by kernel_rfl) (by omega) (by omega)) ?_
 rintro du dv en ⟨dw,dx⟩
 refine xn 1 ?_
 exact ⟨cj,Nat.lt_succ_self _,⟨_,b6++[aj],bo,ay,du,dv,ao,dw,(by kernel_rfl),((dx.front 1 rfl).takeN 1)⟩⟩
 refine g0<|aB 2 1 (V ad.ah) aY rfl<|a6 0 az (aJ.mono cr.ag) ?_
 intro eo az
 refine bh 1 0 (fun c4=>V c4.Kind) az (aJ.mono cr.ag) aY ?_
 intro c4 ep az
 refine aE 0 az ?_ ?_<;>intro er az
 refine xn 0<|dT<|g0<|bA 1 1 (V 2) [V 2] [V 2,V ad.ah,V ay,V ad.aD] aY rfl rfl rfl ?_
 intro et dy
 refine xn 0 ?_
 obtain rfl:=si az
 exact ⟨_,aR,(⟨2,ad.ah,ay,ad.aD⟩:an),aT,aV,aX,rfl,b3,(by kernel_rfl),dy⟩
 refine xn 0<|dF<|s0<|kb 2 88 az ?_ ?_<;>intro eu az
 refine aB 1 1 (V ad.Kind) aY rfl<|c7 0 az ?_ ?_<;>intro ew az
 refine xn 1<|dF<|sk ?_
 obtain rfl:=si az
 exact ⟨_,aR,(⟨ad.Kind,ad.ah,ay,ad.aD⟩:an),aT,aV,aX,rfl,b3,(by kernel_rfl),aY⟩
 refine xn 1<|dT<|g0<|bA 1 1 (V 3) [V 3] [V 3,V ad.ah,V ay,V ad.aD] aY rfl rfl rfl ?_
 intro ez dz
 refine xn 0 ?_
 obtain rfl:=si az
 exact ⟨_,aR,(⟨3,ad.ah,ay,ad.aD⟩:an),aT,aV,aX,rfl,b3,(by kernel_rfl),dz⟩
 refine xn 4<|dF<|sk ?_
 obtain rfl:=si az
 exact ⟨_,aR,(⟨ad.Kind,ad.ah,ay,ad.aD⟩:an),aT,aV,aX,rfl,b3,(by kernel_rfl),aY⟩
 refine bk 2<|lp [0,3,4,5,6,7] (fun n l h=>∃ cu aM au al I aq av aH J,correctorref9_Rows_l1 F a0 n aM au al I aq=some cn∧RCs (α:=an) cu aH aM∧l=[(0,v2),(3,av),(4,V au),(5,V al),(6,Pt J 0),(7, .bool aq)]∧St hs [] Z (0,0) cu h [.gs av aH (aa an), .ae J (cw I)]) F ⟨_,bW,bK,aL,bX,bY,bZ,b0,b2,U,dn,(by kernel_rfl),dp⟩ ?_
 rintro cx l eB ⟨cu,aM,au,al,I,aq,av,aH,J,U,bp,rfl,aF⟩
 rcases cx with _ | cx
 cases (show none=some cn from U)
 rw [correctorref9_Rows_l1] at U
 refine sq<|s0<|bG 2 v2 (RS.len (aJ.mono aF.ag))<|aP 0 U ?_ ?_<;>intro eC U
 refine xn 0<|dT<|sk<|bk 3<|s0<|a6 2 U (aJ.mono aF.ag) ?_
 intro eD U
 refine bh 1 0 (fun aw=>V aw.Kind) U (aJ.mono aF.ag) aF ?_
 intro aw eE U
 refine xn 1<|sq ?_
 obtain ⟨dA,ab,U⟩:=ai U
 refine aI [0,3,4,5,6,7,8] (fun l h=>∃ cA bt bu bw bx bz,(bt,bu)=dA∧RCs (α:=an) cA bx bt∧l=[(0,v2),(3,bw),(4,V au),(5,V al),(6,Pt bz 0),(7, .bool aq),(8,V aw.Kind)]∧St hs [] Z (0,0) cA h [.gs bw bx (aa an), .ae bz (cw bu)]) ?_ ?_
 rintro l eF ⟨cA,bt,bu,bw,bx,bz,rfl,cB,rfl,cC⟩
 try dsimp only at U
 refine sq ?_
 obtain ⟨dB,ar,U⟩:=ai U
 refine aI [0,3,4,5,6,7,8] (fun l h=>∃ cE bB bC bD bE bH bI,(bB,bC,bD)=dB∧RCs (α:=an) cE bH bB∧l=[(0,v2),(3,bE),(4,V bC),(5,V al),(6,Pt bI 0),(7, .bool aq),(8,V aw.Kind)]∧St hs [] Z (0,0) cE h [.gs bE bH (aa an), .ae bI (cw bD)]) ?_ ?_
 rintro l eG ⟨cE,bB,bC,bD,bE,bH,bI,rfl,cF,rfl,cG⟩
 try dsimp only at U
 refine sp 3<|s0<|aE 1 U ?_ ?_<;>intro eH U
 refine xn 4<|dT<|xt 2<|g3 rfl<|aN ?_
 obtain rfl:=si U
 exact ⟨_,bB,bC,af (al+1),bD,aq,bE,bH,bI,rfl,cF,(by kernel_rfl),cG⟩
 refine aE 2 U ?_ ?_<;>intro eI U
 refine xn 1<|dT<|xt 2<|g3 rfl<|aN ?_
 obtain rfl:=si U
 exact ⟨_,bB,bC,af (al+1),bD,aq,bE,bH,bI,rfl,cF,(by kernel_rfl),cG⟩
 refine xn 1<|dF<|sk ?_
 exact ⟨cx,Nat.lt_succ_self _,⟨_,bB,bC,af (al+1),bD,aq,bE,bH,bI,U,cF,(by kernel_rfl),cG⟩⟩
 refine sp 1<|bk 4<|sq ?_
 obtain ⟨dD,aZ,ar⟩:=ai ar
 refine aI [0,3,4,5,6,7,8,54,55] (fun l h=>∃ cH a1 a2 cI a4 a7 a8,(a1,a2,cI)=dD∧RCs (α:=an) cH a7 a1∧l=[(0,v2),(3,a4),(4,V au),(5,V al),(6,Pt a8 0),(7, .bool aq),(8,V aw.Kind),(54,V aw.Kind),(55, .bool cI)]∧St hs [] Z (0,0) cH h [.gs a4 a7 (aa an), .ae a8 (cw a2)]) ?_ ?_
 rintro l eJ ⟨cH,a1,a2,cI,a4,a7,a8,rfl,b8,rfl,b9⟩
 try dsimp only at ar
 refine db ar ?_ ?_<;>intro eK ar
 refine gp 3 ?_
 obtain rfl:=si ar
 exact ⟨_,a1,af (au+1),a2,a4,a7,a8,rfl,b8,(by kernel_rfl),b9⟩
 refine sq ?_
 obtain ⟨dE,a9,ar⟩:=ai ar
 refine aI [0,3,4,5,6,7,8,54,60] (fun l h=>∃ cJ ba bb cK bc bd bf,(ba,bb,cK)=dE∧RCs (α:=an) cJ bd ba∧l=[(0,v2),(3,bc),(4,V au),(5,V al),(6,Pt bf 0),(7, .bool aq),(8,V aw.Kind),(54,V aw.Kind),(60, .bool cK)]∧St hs [] Z (0,0) cJ h [.gs bc bd (aa an), .ae bf (cw bb)]) ?_ ?_
 rintro l eL ⟨cJ,ba,bb,cK,bc,bd,bf,rfl,ca,rfl,cb⟩
 try dsimp only at ar
 refine db ar ?_ ?_<;>intro eM ar
 refine gp 4 ?_
 obtain rfl:=si ar
 exact ⟨_,ba,imax (af (au - 1)) 0,bb,bc,bd,bf,rfl,ca,(by kernel_rfl),cb⟩
 refine sq ?_
 obtain ⟨dH,bg,ar⟩:=ai ar
 refine aI [0,3,4,5,6,7,8,66] (fun l h=>∃ cL bN bO cQ bP bR bT,(bN,bO,cQ)=dH∧RCs (α:=an) cL bR bN∧l=[(0,v2),(3,bP),(4,V au),(5,V al),(6,Pt bT 0),(7, .bool aq),(8,V aw.Kind),(66, .bool cQ)]∧St hs [] Z (0,0) cL h [.gs bP bR (aa an), .ae bT (cw bO)]) ?_ ?_
 rintro l eN ⟨cL,bN,bO,cQ,bP,bR,bT,rfl,c5,rfl,c6⟩
 try dsimp only at ar
 refine db ar ?_ ?_<;>intro eO ar
 refine gp 1 ?_
 obtain rfl:=si ar
 exact ⟨_,bN,0,bO,bP,bR,bT,rfl,c5,(by kernel_rfl),c6⟩
 refine sk ?_
 obtain rfl:=si ar
 exact ⟨_,bN,au,bO,bP,bR,bT,rfl,c5,(by kernel_rfl),c6⟩
 refine s0<|aE 0 bg ?_ ?_<;>intro eP bg
 refine xn 1<|dT<|sk ?_
 obtain rfl:=si bg
 exact ⟨_,ba,bb,true,bc,bd,bf,rfl,ca,(by kernel_rfl),cb⟩
 refine xn 1<|dF<|g0<|aE 0 bg ?_ ?_<;>intro eQ bg
 refine xn 1 ?_
 obtain rfl:=si bg
 exact ⟨_,ba,bb,true,bc,bd,bf,rfl,ca,(by kernel_rfl),cb⟩
 refine xn 1 ?_
 obtain rfl:=si bg
 exact ⟨_,ba,bb,false,bc,bd,bf,rfl,ca,(by kernel_rfl),cb⟩
 refine s0<|aE 0 a9 ?_ ?_<;>intro eR a9
 refine xn 1<|dT<|sk ?_
 obtain rfl:=si a9
 exact ⟨_,a1,a2,true,a4,a7,a8,rfl,b8,(by kernel_rfl),b9⟩
 refine xn 1<|dF<|g0<|aE 0 a9 ?_ ?_<;>intro eT a9
 refine xn 1 ?_
 obtain rfl:=si a9
 exact ⟨_,a1,a2,true,a4,a7,a8,rfl,b8,(by kernel_rfl),b9⟩
 refine xn 1 ?_
 obtain rfl:=si a9
 exact ⟨_,a1,a2,false,a4,a7,a8,rfl,b8,(by kernel_rfl),b9⟩
 refine s0<|aE 0 aZ ?_ ?_<;>intro eU aZ
 refine xn 1<|dT<|sk ?_
 obtain rfl:=si aZ
 exact ⟨_,bt,bu,true,bw,bx,bz,rfl,cB,(by kernel_rfl),cC⟩
 refine xn 1<|dF<|g0<|aE 0 aZ ?_ ?_<;>intro eV aZ
 refine xn 1 ?_
 obtain rfl:=si aZ
 exact ⟨_,bt,bu,true,bw,bx,bz,rfl,cB,(by kernel_rfl),cC⟩
 refine xn 1 ?_
 obtain rfl:=si aZ
 exact ⟨_,bt,bu,false,bw,bx,bz,rfl,cB,(by kernel_rfl),cC⟩
 refine s0<|aB 1 1 (V I.aD) aF rfl<|aP 0 ab ?_ ?_<;>intro eW ab
 obtain ⟨eX,dI,ab⟩:=ai ab
 refine cP 2 aF (ir F aF.inv dI) ?_
 rintro _ eY da rfl
 refine xn 1<|db ab ?_ ?_<;>intro eZ ab
 refine cU zJ da ?_
 intro dJ e0 dK cc
 refine yq 2 [(34,V al),(33,v2),(8,V aw.Kind),(0,v2),(3,av),(4,V au),(5,V al),(6,Pt J 0),(7, .bool aq)] ?_
 obtain ⟨dc,ab⟩:=aK ab
 refine aG rfl trivial (bF rfl rfl (by kernel_rfl:slTy _ _=some (aa ak)) (RS.c8 (aJ.mono aF.ag) (by omega)) dc.1 dc.2)<|yq 1 [(36, .pointer (some (bj v2 al (aa ak) 1))),(8,V aw.Kind),(0,v2),(3,av),(4,V au),(5,V al),(6,Pt J 0),(7, .bool aq)] ?_
 obtain ⟨ax,dL,ab⟩:=ai ab
 obtain ⟨e2,dM,dN⟩:=RS.cy (aJ.mono aF.ag) (i:=al) dL
 obtain rfl:=ey dM
 refine cM rfl rfl trivial (fun h2 hz=>bL (w:=V ax.ah) (dN h2 hz) rfl (by kernel_rfl)) (cc.b1 (aO.refl _)) (aC (v:=V ax.ah) trivial) trivial<|yq 2 [(39,Pt J 1),(38,v2),(37,V ax.ah),(8,V aw.Kind),(0,v2),(3,av),(4,V au),(5,V al),(6,Pt J 0),(7, .bool aq)] ?_
 have e3:J<dJ:=dK.1 _ (List.mem_of_getElem? (i:=1) rfl) _ (by simp [Itm.ids])
 refine aW (v:=V I.ah) rfl trivial rfl (by show J<_;omega) (aC (v:=V I.ah) trivial) (cc.aU (i:=1) rfl (by kernel_rfl)) trivial ?_
 obtain ⟨dd,ab⟩:=aK ab
 refine aG rfl trivial (bF rfl rfl (by kernel_rfl:slTy _ _=some (aa ak)) (RS.c8 (aJ.mono aF.ag) (by omega)) dd.1 dd.2)<|yq 1 [(42, .pointer (some (bj v2 I.ah (aa ak) 1))),(37,V ax.ah),(8,V aw.Kind),(0,v2),(3,av),(4,V au),(5,V al),(6,Pt J 0),(7, .bool aq)] ?_
 obtain ⟨aA,dO,ab⟩:=ai ab
 obtain ⟨e4,dQ,dR⟩:=RS.cy (aJ.mono aF.ag) (i:=I.ah) dO
 obtain rfl:=ey dQ
 refine cM rfl rfl trivial (fun h2 hz=>bL (w:=V aA.ah) (dR h2 hz) rfl (by kernel_rfl)) (cc.b1 (aO.refl _)) (aC (v:=V aA.ah) trivial) trivial<|yq 2 [(45,Pt J 3),(44,V (af (ax.ah - aA.ah))),(8,V aw.Kind),(0,v2),(3,av),(4,V au),(5,V al),(6,Pt J 0),(7, .bool aq)] ?_
 have de:St _ _ _ _ _ _ ([.ae J (cw I)]++[.gs av aH (aa an)]):=(cc.front 1 rfl)
 refine g5 rfl trivial de (gv (vs:=[V (af (ax.ah - aA.ah))]) (cD:=[V I.Kind,V I.ah,V I.To,V (af (ax.ah - aA.ah))]) (L':=[.ae J [V I.Kind,V I.ah,V I.To,V (af (ax.ah - aA.ah))]]) de.sub (i:=0) rfl rfl rfl rfl (by kernel_rfl) rfl rfl rfl rfl) (aO.refl _) (.a3 trivial (.drop (by decide) (.a3 trivial .nil))) ?_
 intro e5 dS
 refine yq 1 [(46,Pt J 0),(8,V aw.Kind),(0,v2),(3,av),(4,V au),(5,V al),(6,Pt J 0),(7, .bool aq)] ?_
 have dg:St _ _ _ _ _ _ ([.ae J [V I.Kind,V I.ah,V I.To,V (af (ax.ah - aA.ah))]]++[.gs av aH (aa an)]):=(dS.front 0 rfl)
 refine g5 rfl trivial dg (gv (vs:=[V 5]) (cD:=[V 5,V I.ah,V I.To,V (af (ax.ah - aA.ah))]) (L':=[.ae J [V 5,V I.ah,V I.To,V (af (ax.ah - aA.ah))]]) dg.sub (i:=0) rfl rfl rfl rfl (by kernel_rfl) rfl rfl rfl rfl) (aO.refl _) (.a3 trivial (.drop (by decide) (.a3 trivial .nil))) ?_
 intro e6 dU
 refine yf [(8,V aw.Kind),(0,v2),(3,av),(4,V au),(5,V al),(6,Pt J 0),(7, .bool aq)] ?_
 have cR:=dU.a5
 refine s0<|aE 1 ab ?_ ?_<;>intro e7 ab
 refine xn 4<|dT<|g0<|bA 1 0 (V 4) [V 4] [V 4,V I.ah,V I.To,V (af (ax.ah - aA.ah))] cR rfl rfl rfl ?_
 intro e8 dV
 refine xn 0 ?_
 obtain rfl:=si ab
 exact ⟨_,aM,(⟨4,I.ah,I.To,af (ax.ah - aA.ah)⟩:an),av,aH,J,rfl,bp,(by kernel_rfl),((dV.front 0 rfl).front 1 rfl)⟩
 refine aE 2 ab ?_ ?_<;>intro e9 ab
 refine xn 1<|dT<|g0<|bA 1 0 (V 4) [V 4] [V 4,V I.ah,V I.To,V (af (ax.ah - aA.ah))] cR rfl rfl rfl ?_
 intro fa dW
 refine xn 0 ?_
 obtain rfl:=si ab
 exact ⟨_,aM,(⟨4,I.ah,I.To,af (ax.ah - aA.ah)⟩:an),av,aH,J,rfl,bp,(by kernel_rfl),((dW.front 0 rfl).front 1 rfl)⟩
 refine xn 1<|dF<|sk ?_
 obtain rfl:=si ab
 exact ⟨_,aM,(⟨5,I.ah,I.To,af (ax.ah - aA.ah)⟩:an),av,aH,J,rfl,bp,(by kernel_rfl),((cR.front 0 rfl).front 1 rfl)⟩
 refine sk ?_
 obtain rfl:=si ab
 exact ⟨_,aM,I,av,aH,J,rfl,bp,(by kernel_rfl),da⟩
 refine xn 4<|dF<|sk ?_
 obtain rfl:=si ab
 exact ⟨_,aM,I,av,aH,J,rfl,bp,(by kernel_rfl),aF⟩
 refine xn 0<|dF<|xt 2<|aN ?_
 obtain rfl:=si U
 exact ⟨_,aM,au,al,I,aq,av,aH,J,rfl,bp,(by kernel_rfl),aF⟩
 refine g0<|cz 1 bV ?_ ?_<;>intro fb bV
 refine xn 1 ?_
 obtain rfl:=si bV
 exact ⟨_,bl,(⟨1,aL,0,(-1)⟩:an),true,bm,bn,cT,rfl,ck,(by kernel_rfl),((cY.front 0 rfl).front 1 rfl)⟩
 refine xn 1 ?_
 obtain rfl:=si bV
 exact ⟨_,bl,(⟨1,aL,0,(-1)⟩:an),false,bm,bn,cT,rfl,ck,(by kernel_rfl),((cY.front 0 rfl).front 1 rfl)⟩
 refine xn 0<|dF<|xt 0<|aN ?_
 obtain rfl:=si ao
 exact ⟨_,bl,bm,bn,rfl,ck,(by kernel_rfl),cl⟩
def correctorref9_skip_l0 (F:Nat) (a0:List ak) (a1:Int) (I:Int) (J:Int):Nat→Int→Option Int
 | 0,_=>none
 | n+1,j=>
  if j<I then
   if 0≤j∧j<(a0.length:Int) then
    (a0[j.toNat]?).bind fun U=>
    if U.Kind=J then
     correctorref9_skip_l0 F a0 a1 I J n (af (j+1))
    else
     some j
   else none
  else
   some j
def jg (F:Nat) (a0:List ak) (a1:Int) (j:Int) (I:Int):Option Int:=
 ((correctorref9_skip_l0 F a0 a1 j I F a1):Option Int).bind fun o=>match o with
  | J=>some J
theorem qm (F:Nat) {h:AH} {Z:Zn} {a0:List ak} {a1:Int} {U:Int} {aa:Int} {v2} (hI:Inv Z h) (ah:RS (α:=ak) Z v2 a0) {r:Int} (hm:jg F a0 a1 U aa=some r):
  bV Try.prog 84 [v2,V a1,V U,V aa] h Z (V r):=by
 refine bW Try.func84 hI ?_
 intro hs hS
 unfold jg at hm
 refine sp 1<|sq ?_
 obtain ⟨ad,j,hm⟩:=ai hm
 refine aI [1] (fun l h=>∃ aj ab,ab=ad∧l=[(1,V ab)]∧St hs [] Z (0,0) aj h []) ?_ ?_
 rintro l aq ⟨aj,ab,rfl,rfl,ao⟩
 try dsimp only at hm
 refine sp 2<|rt<|⟨rfl,?_⟩
 obtain rfl:=si hm
 refine ⟨_,_,_,tk (V ab) (ResL.nil),ao,?_⟩
 exact rfl
 refine bk 0<|lp [0,1,2,3] (fun n l h=>∃ al I,correctorref9_skip_l0 F a0 a1 U aa n I=some ad∧l=[(0,v2),(1,V I),(2,V U),(3,V aa)]∧St hs [] Z (0,0) al h []) F ⟨_,a1,j,(by kernel_rfl),hS⟩ ?_
 rintro ae l ar ⟨al,I,j,rfl,J⟩
 rcases ae with _ | ae
 cases (show none=some ad from j)
 rw [correctorref9_skip_l0] at j
 refine sq<|s0<|aP 2 j ?_ ?_<;>intro au j
 refine a6 3 j (ah.mono J.ag) ?_
 intro av j
 refine bh 1 0 (fun an=>V an.Kind) j (ah.mono J.ag) J ?_
 intro an aw j
 refine aE 1 j ?_ ?_<;>intro ax j
 refine xn 1<|dT<|sk<|bk 1<|gp 3 ?_
 exact ⟨ae,Nat.lt_succ_self _,⟨_,af (I+1),j,(by kernel_rfl),J⟩⟩
 refine xn 1<|dF<|xt 0<|aN ?_
 obtain rfl:=si j
 exact ⟨_,I,rfl,(by kernel_rfl),J⟩
 refine xn 9<|dF<|xt 0<|aN ?_
 obtain rfl:=si j
 exact ⟨_,I,rfl,(by kernel_rfl),J⟩
def e7 (F:Nat) (a0:Int):Option Bool:=
 if a0=(15:Int) then
  some true
 else
  if a0=(16:Int) then
   some true
  else
   if a0=(17:Int) then
    some true
   else
    if a0=(13:Int) then
     some true
    else
     some false
theorem pL (F:Nat) {h:AH} {Z:Zn} {a0:Int} (hI:Inv Z h) {r:Bool} (hm:e7 F a0=some r):
  bV Try.prog 85 [V a0] h Z (.bool r):=by
 refine bW Try.func85 hI ?_
 intro hs hS
 unfold e7 at hm
 refine sp 1<|s0<|aE 1 hm ?_ ?_<;>intro j hm
 refine xn 13<|rt<|⟨rfl,?_⟩
 obtain rfl:=si hm
 refine ⟨_,_,_,tk (.bool true) (ResL.nil),hS,?_⟩
 exact rfl
 refine aE 2 hm ?_ ?_<;>intro I hm
 refine xn 10<|rt<|⟨rfl,?_⟩
 obtain rfl:=si hm
 refine ⟨_,_,_,tk (.bool true) (ResL.nil),hS,?_⟩
 exact rfl
 refine aE 3 hm ?_ ?_<;>intro J hm
 refine xn 6<|rt<|⟨rfl,?_⟩
 obtain rfl:=si hm
 refine ⟨_,_,_,tk (.bool true) (ResL.nil),hS,?_⟩
 exact rfl
 refine aE 3 hm ?_ ?_<;>intro U hm
 refine xn 2<|rt<|⟨rfl,?_⟩
 obtain rfl:=si hm
 refine ⟨_,_,_,tk (.bool true) (ResL.nil),hS,?_⟩
 exact rfl
 refine xn 2<|rt<|⟨rfl,?_⟩
 obtain rfl:=si hm
 refine ⟨_,_,_,tk (.bool false) (ResL.nil),hS,?_⟩
 exact rfl
def w9:List bq:=[uP 14 (fa 63 3 1),uL 15 (ld 3 14),uP 4 (.assign (.const (.slice none 0 0))),uP 5 (sg 15)]
def D6:List aQ:=[u 52 (mv 9),u 53 (mv 0),u 54 (mv 6),u 55 (ia 24 53 54),u 56 (fa 85 55 1),u 57 (ld 3 56),u 58 (mv 8),u 59 (bo .sub 3 57 58 3),u 60 (mv 6),u 61 (mv 6),u 62 (bc .add 3 61 1 3),u 63 (.build 112 #[(0,(.const (.bool true))),(1,(t 59)),(2,(t 60)),(3,(t 62))]),u 64 (.buildSlice 106 1 #[(0,(t 63))]),u 65 (cb .append #[(t 52),(t 64)] #[106,106]),u 9 (sg 65)]
def Cs:List aQ:=[u 129 (mv 9),u 130 (mv 0),u 131 (mv 6),u 132 (ia 24 130 131),u 133 (fa 85 132 1),u 134 (ld 3 133),u 135 (mv 8),u 136 (bo .sub 3 134 135 3),u 137 (mv 6),u 138 (mv 10),u 139 (bc .add 3 138 1 3),u 140 (.build 112 #[(1,(t 136)),(2,(t 137)),(3,(t 139))]),u 141 (.buildSlice 106 1 #[(0,(t 140))]),u 142 (cb .append #[(t 129),(t 141)] #[106,106]),u 9 (sg 142)]
def w4:List bq:=[uP 147 (mv 9),uP 148 (mv 9),uP 149 (mv 9),uP 150 (cb .len #[(t 149)] #[106]),uP 151 (bc .sub 3 150 1 3),uP 152 (ia 106 148 151),uP 153 (fa 112 152 3),uL 154 (ld 3 153),uP 4 (sg 147),uP 5 (sg 154)]
def correctorref9_Entries_l0 (F:Nat) (a0:List ak) (a1:an):Nat→an→Int→Option (an×Int)
 | 0,_,_=>none
 | n+1,I,j=>
  if j<I.To then
   if 0≤j∧j<(a0.length:Int) then
    (a0[j.toNat]?).bind fun J=>
    (ft F J.Kind).bind fun U=>
    if U=true then
     some (I,j)
    else
     correctorref9_Entries_l0 F a0 a1 n I (af (j+1))
   else none
  else
   some (I,j)
def correctorref9_Entries_l1 (F:Nat) (a0:List ak) (a1:an):Nat→an→Int→Int→Int→(List a2)→Option (an×Int×Int×Int×(List a2))
 | 0,_,_,_,_,_=>none
 | n+1,I,j,aa,J,U=>
  if j<I.To then
   if 0≤j∧j<(a0.length:Int) then
    (a0[j.toNat]?).bind fun ad=>
    if ad.Kind=(5:Int) then
     if 0≤j∧j<(a0.length:Int) then
      (a0[j.toNat]?).bind fun ab=>
      if U.length+[(⟨true,af (ab.ah - J),j,af (j+1)⟩:a2)].length≤4398046511104 then
       (jg F a0 (af (j+1)) I.To 3).bind fun ae=>
       correctorref9_Entries_l1 F a0 a1 n I ae aa J (U++[(⟨true,af (ab.ah - J),j,af (j+1)⟩:a2)])
      else none
     else none
    else
     some (I,j,aa,J,U)
   else none
  else
   some (I,j,aa,J,U)
def correctorref9_Entries_l2 (F:Nat) (a0:List ak) (a1:an):Nat→an→Int→Int→Int→(List a2)→Int→Option (an×Int×Int×Int×(List a2)×Int)
 | 0,_,_,_,_,_,_=>none
 | n+1,I,U,aa,ab,J,j=>
  ((if j<I.To then
    if 0≤j∧j<(a0.length:Int) then
     (a0[j.toNat]?).bind fun ae=>
     if ae.Kind=(12:Int) then
      some (.inl (I,J))
     else
      if 0≤j∧j<(a0.length:Int) then
       (a0[j.toNat]?).bind fun ag=>
       if ag.Kind=(14:Int) then
        some (.inl (I,J))
       else
        some (.inr (I,U,aa,ab,J,j))
      else none
    else none
   else
    some (.inr (I,U,aa,ab,J,j))):Option (Sum (an×(List a2)) (an×Int×Int×Int×(List a2)×Int))).bind fun o=>match o with
   | .inl (ad,ah)=>(jg F a0 (af (j+1)) ad.To 3).bind fun ai=>
   correctorref9_Entries_l2 F a0 a1 n ad U aa ab ah ai
   | .inr y=>some y
def mU (F:Nat) (a0:List ak) (a1:an):Option ((List a2)×Int):=
 if a1.Kind=(5:Int) then
  ((correctorref9_Entries_l0 F a0 a1 F a1 a1.ah):Option (an×Int)).bind fun o=>match o with
   | (ab,ai)=>if 0≤ab.ah∧ab.ah<(a0.length:Int) then
    (a0[ab.ah.toNat]?).bind fun aq=>
    ((correctorref9_Entries_l1 F a0 a1 F ab ai ai aq.ah []):Option (an×Int×Int×Int×(List a2))).bind fun o=>match o with
     | (ar,aj,au,av,aw)=>((correctorref9_Entries_l2 F a0 a1 F ar aj au av aw aj):Option (an×Int×Int×Int×(List a2)×Int)).bind fun o=>match o with
      | (U,aa,ax,al,ad,j)=>((if j<U.To then
        if 0≤j∧j<(a0.length:Int) then
         (a0[j.toNat]?).bind fun ay=>
         (e7 F ay.Kind).bind fun az=>
         if az=true then
          (jg F a0 (af (j+1)) U.To 3).bind fun aA=>
          some (U,ad,aA)
         else
          some (U,ad,j)
        else none
       else
        some (U,ad,j)):Option (an×(List a2)×Int)).bind fun o=>match o with
       | (aB,ae,J)=>((((if J<aB.To then
          if 0≤J∧J<(a0.length:Int) then
           (a0[J.toNat]?).bind fun aC=>
           if aC.Kind=(6:Int) then
            some (ae,true)
           else
            some (ae,false)
          else none
         else
          some (ae,false)):Option ((List a2)×Bool)).bind fun o=>match o with
         | (ag,aD)=>if aD=true then
          if 0≤aa∧aa<(a0.length:Int) then
           (a0[aa.toNat]?).bind fun ao=>
           if ag.length+[(⟨false,af (ao.ah - al),aa,af (J+1)⟩:a2)].length≤4398046511104 then
            some (ag++[(⟨false,af (ao.ah - al),aa,af (J+1)⟩:a2)])
           else none
          else none
         else
          some ag):Option (List a2)).bind fun o=>match o with
        | I=>if (I.length:Int)=(0:Int) then
         some ([],ax)
        else
         if 0≤(af ((I.length:Int) - 1))∧(af ((I.length:Int) - 1))<(I.length:Int) then
          (I[(af ((I.length:Int) - 1)).toNat]?).bind fun aE=>
          some (I,aE.To)
         else none
   else none
 else
  some ([],a1.ah)
theorem BW (F:Nat) {h:AH} {Z:Zn} {a0:List ak} {a1:an} {v2} (hP:Pre Z h []) (J:RS (α:=ak) Z v2 a0) {r:(List a2)×Int} (hm:mU F a0 a1=some r):
  bQ Try.prog 70 [v2, .agg #[V a1.Kind,V a1.ah,V a1.To,V a1.aD]] h Z [] fun v Z' A'=>∃ v4 cF, .tuple #[v4,V r.2]=v∧A'=[.gs v4 cF (aa a2)]∧RCs (α:=a2) Z' cF r.1:=by
 refine b5 Try.func70 hP ?_
 intro hs hS
 unfold mU at hm
 replace hS:St hs [] Z (0,0) Z hs []:=hS
 refine s0<|df 0 [V a1.Kind,V a1.ah,V a1.To,V a1.aD] hS ?_
 intro bO dZ bP
 refine xn 2<|sq<|s0<|aB 1 0 (V a1.Kind) bP rfl<|c7 0 hm ?_ ?_<;>intro ea hm
 refine xn 0<|dF<|sk<|s0<|aB 1 0 (V a1.ah) bP rfl<|xn 1<|sq ?_
 obtain ⟨cf,ad,hm⟩:=ai hm
 refine aI [0,3,6] (fun l h=>∃ cG bA bB bR,(bA,bB)=cf∧l=[(0,v2),(3,Pt bR 0),(6,V bB)]∧St hs [] Z (0,0) cG h [.ae bR (cw bA)]) ?_ ?_
 rintro l eb ⟨cG,bA,bB,bR,rfl,rfl,bC⟩
 try dsimp only at hm
 refine sp 2<|s0<|aB 2 0 (V bA.ah) bC rfl<|a6 0 hm (J.mono bC.ag) ?_
 intro ec hm
 refine bh 1 1 (fun cg=>V cg.ah) hm (J.mono bC.ag) bC ?_
 intro cg ed hm
 refine xn 1<|sp 1<|sq ?_
 obtain ⟨ch,I,hm⟩:=ai hm
 refine aI [0,3,6,7,8,9] (fun l h=>∃ cj bT bD bU bV bW bX bY bZ,(bT,bD,bU,bV,bW)=ch∧RCs (α:=a2) cj bZ bW∧l=[(0,v2),(3,Pt bX 0),(6,V bD),(7,V bU),(8,V bV),(9,bY)]∧St hs [] Z (0,0) cj h [.ae bX (cw bT), .gs bY bZ (aa a2)]) ?_ ?_
 rintro l ee ⟨cj,bT,bD,bU,bV,bW,bX,bY,bZ,rfl,c5,rfl,c6⟩
 try dsimp only at hm
 refine sp 2<|sq ?_
 obtain ⟨ck,ar,hm⟩:=ai hm
 refine aI [0,3,6,7,8,9,10] (fun l h=>∃ cl aH au aJ av bc bE bd bf bg,(aH,au,aJ,av,bc,bE)=ck∧RCs (α:=a2) cl bg bc∧l=[(0,v2),(3,Pt bd 0),(6,V au),(7,V aJ),(8,V av),(9,bf),(10,V bE)]∧St hs [] Z (0,0) cl h [.ae bd (cw aH), .gs bf bg (aa a2)]) ?_ ?_
 rintro l eg ⟨cl,aH,au,aJ,av,bc,bE,bd,bf,bg,rfl,cn,rfl,aL⟩
 try dsimp only at hm
 refine sq ?_
 obtain ⟨c8,al,hm⟩:=ai hm
 refine aI [0,3,6,7,8,9,10] (fun l h=>∃ cp b0 bl aw cq bm bn,(b0,bl,aw)=c8∧RCs (α:=a2) cp bn bl∧l=[(0,v2),(3,Pt cq 0),(6,V au),(7,V aJ),(8,V av),(9,bm),(10,V aw)]∧St hs [] Z (0,0) cp h [.ae cq (cw b0), .gs bm bn (aa a2)]) ?_ ?_
 rintro l eh ⟨cp,b0,bl,aw,cq,bm,bn,rfl,cr,rfl,aR⟩
 try dsimp only at hm
 refine sq ?_
 obtain ⟨dc,aq,hm⟩:=ai hm
 refine aI [7,9] (fun l h=>∃ ct bo aj b1,bo=dc∧RCs (α:=a2) ct b1 bo∧l=[(7,V aJ),(9,aj)]∧St hs [] Z (0,0) ct h [.gs aj b1 (aa a2)]) ?_ ?_
 rintro l ei ⟨ct,bo,aj,b1,rfl,bp,rfl,cu⟩
 try dsimp only at hm
 refine sq<|s0<|bG 1 aj (cu.da (i:=0) rfl bp)<|aE 0 hm ?_ ?_<;>intro ej hm
 refine xn 0<|dT<|sp 3<|rt<|⟨rfl,?_⟩
 have dd:=cu.c9 (aa a2)
 obtain rfl:=si hm
 refine ⟨_,_,_,tk (.slice none 0 0) (tk (V aJ) (ResL.nil)),(dd.takeN 1),?_⟩
 exact ⟨(.slice none 0 0),[],rfl,rfl,(RCs.br _)⟩
 refine xn 0<|dF<|sk<|cU w4 cu ?_
 intro de ek dg bH
 refine yq 3 [(149,aj),(148,aj),(147,aj)]<|aG rfl trivial (gO rfl (bH.da (i:=0) rfl bp) ⟨_,Try.underlying106⟩)<|yq 1 [(151,V (af ((bo.length:Int) - 1))),(148,aj),(147,aj)] ?_
 obtain ⟨cH,hm⟩:=aK hm
 refine aG rfl trivial (bF rfl rfl (by kernel_rfl:slTy _ _=some (aa a2)) (bH.bK (j:=0) rfl bp (by omega)) cH.1 cH.2)<|yq 1 [(153, .pointer (some (bj aj (af ((bo.length:Int) - 1)) (aa a2) 3))),(147,aj)] ?_
 obtain ⟨b2,cI,hm⟩:=ai hm
 obtain ⟨en,dh,dj,eo⟩:=bH.cm (j:=0) rfl bp (i:=af ((bo.length:Int) - 1)) cI
 obtain rfl:=tS dh
 have dk:=dw cI
 have dm:=bH.bK (j:=0) rfl bp dk
 have ep:(baseOf aj).block<de:=dn (dg.1 _ (List.mem_of_getElem? (i:=0) rfl)) dm
 refine di rfl trivial rfl (by show (baseOf aj).block<_;omega) (aC (v:=V b2.To) trivial) (bL (w:=V b2.To) dj rfl (by kernel_rfl)) trivial<|ye 2 [(5,V b2.To),(4,aj)] ?_
 have dp:=bH.a5
 refine rt<|⟨rfl,?_⟩
 obtain rfl:=si hm
 refine ⟨_,_,_,tk aj (tk (V b2.To) (ResL.nil)),dp,?_⟩
 exact ⟨aj,b1,rfl,rfl,bp⟩
 refine sq ?_
 obtain ⟨dq,ax,aq⟩:=ai aq
 refine aI [0,6,7,8,9,10,128] (fun l h=>∃ b3 bI cx bt b4,(bI,cx)=dq∧RCs (α:=a2) b3 b4 bI∧l=[(0,v2),(6,V au),(7,V aJ),(8,V av),(9,bt),(10,V aw),(128, .bool cx)]∧St hs [] Z (0,0) b3 h [.gs bt b4 (aa a2)]) ?_ ?_
 rintro l er ⟨b3,bI,cx,bt,b4,rfl,cJ,rfl,bJ⟩
 try dsimp only at aq
 refine db aq ?_ ?_<;>intro et aq
 refine rg Cs<|a6 3 aq (J.mono bJ.ag) ?_
 intro eu aq
 refine bh 1 1 (fun aA=>V aA.ah) aq (J.mono bJ.ag) bJ ?_
 intro aA ew aq
 refine xq 6 [(140, .agg #[.bool false,V (af (aA.ah - av)),V au,V (af (aw+1))]),(129,bt),(7,V aJ),(9,bt)] ?_
 have dr:RCs (α:=a2) b3 [.bool false,V (af (aA.ah - av)),V au,V (af (aw+1))] [(⟨false,af (aA.ah - av),au,af (aw+1)⟩:a2)]:=RCs.cons (cs:=[.bool false,V (af (aA.ah - av)),V au,V (af (aw+1))]) rfl (RCs.br _)
 refine dP rfl trivial (cX (cells:=[.bool false,V (af (aA.ah - av)),V au,V (af (aw+1))]) (s:=4) (by kernel_rfl)) (by kernel_rfl) bJ ?_
 intro ey ez cK
 obtain ⟨eB,aq⟩:=aK aq
 refine eS rfl trivial (dG (ys:=[(⟨false,af (aA.ah - av),au,af (aw+1)⟩:a2)]) (bS:=32) cK (i:=1) rfl cJ ((cK).eA (j:=0) rfl dr) rfl rfl (by kernel_rfl) (by omega) (by omega)) ?_
 rintro ds du eC ⟨dv,dx⟩
 refine xn 1 ?_
 obtain rfl:=si aq
 exact ⟨_,bI++[(⟨false,af (aA.ah - av),au,af (aw+1)⟩:a2)],ds,du,rfl,dv,(by kernel_rfl),((dx.front 1 rfl).takeN 1)⟩
 refine sk ?_
 obtain rfl:=si aq
 exact ⟨_,bI,bt,b4,rfl,cJ,(by kernel_rfl),bJ⟩
 refine g0<|aB 2 0 (V b0.To) aR rfl<|aP 0 ax ?_ ?_<;>intro eD ax
 refine a6 3 ax (J.mono aR.ag) ?_
 intro eE ax
 refine bh 1 0 (fun cL=>V cL.Kind) ax (J.mono aR.ag) aR ?_
 intro cL eF ax
 refine aE 0 ax ?_ ?_<;>intro eG ax
 refine xn 1 ?_
 obtain rfl:=si ax
 exact ⟨_,bl,true,bm,bn,rfl,cr,(by kernel_rfl),((aR.front 1 rfl).takeN 1)⟩
 refine xn 1 ?_
 obtain rfl:=si ax
 exact ⟨_,bl,false,bm,bn,rfl,cr,(by kernel_rfl),((aR.front 1 rfl).takeN 1)⟩
 refine xn 8 ?_
 obtain rfl:=si ax
 exact ⟨_,bl,false,bm,bn,rfl,cr,(by kernel_rfl),((aR.front 1 rfl).takeN 1)⟩
 refine s0<|aB 2 0 (V aH.To) aL rfl<|aP 0 al ?_ ?_<;>intro eH al
 refine a6 3 al (J.mono aL.ag) ?_
 intro eI al
 refine bh 1 0 (fun cM=>V cM.Kind) al (J.mono aL.ag) aL ?_
 intro cM eJ al
 obtain ⟨eK,dy,al⟩:=ai al
 refine cP 0 aL (pL F aL.inv dy) ?_
 rintro _ eL b6 rfl
 refine xn 1<|db al ?_ ?_<;>intro eM al
 refine g0<|aB 4 0 (V aH.To) b6 rfl ?_
 obtain ⟨dz,dA,al⟩:=ai al
 refine cP 0 b6 (qm F b6.inv (J.mono aL.ag) dA) ?_
 rintro _ eN dB rfl
 refine xn 1 ?_
 obtain rfl:=si al
 exact ⟨_,aH,bc,dz,bd,bf,bg,rfl,cn,(by kernel_rfl),dB⟩
 refine sk ?_
 obtain rfl:=si al
 exact ⟨_,aH,bc,bE,bd,bf,bg,rfl,cn,(by kernel_rfl),b6⟩
 refine xn 8<|dF<|sk ?_
 obtain rfl:=si al
 exact ⟨_,aH,bc,bE,bd,bf,bg,rfl,cn,(by kernel_rfl),aL⟩
 refine bk 4<|lp [0,3,6,7,8,9,10] (fun n l h=>∃ cy aM aT aV aX aY bu aZ a3 a4,correctorref9_Entries_l2 F a0 a1 n aM aT aV aX aY bu=some ck∧RCs (α:=a2) cy a4 aY∧l=[(0,v2),(3,Pt aZ 0),(6,V aT),(7,V aV),(8,V aX),(9,a3),(10,V bu)]∧St hs [] Z (0,0) cy h [.ae aZ (cw aM), .gs a3 a4 (aa a2)]) F ⟨_,bT,bD,bU,bV,bW,bD,bX,bY,bZ,ar,c5,(by kernel_rfl),c6⟩ ?_
 rintro cz l eO ⟨cy,aM,aT,aV,aX,aY,bu,aZ,a3,a4,ar,b7,rfl,ay⟩
 rcases cz with _ | cz
 cases (show none=some ck from ar)
 rw [correctorref9_Entries_l2] at ar
 refine sq ?_
 obtain ⟨dD,ab,ar⟩:=ai ar
 refine aI [0,3,6,7,8,9,10] (fun l h=>∃ cA bM b8 b9 ca cb, .inl (bM,b8)=dD∧RCs (α:=a2) cA cb b8∧l=[(0,v2),(3,Pt b9 0),(6,V aT),(7,V aV),(8,V aX),(9,ca),(10,V bu)]∧St hs [] Z (0,0) cA h [.ae b9 (cw bM), .gs ca cb (aa a2)]) ?_ ?_
 rintro l eP ⟨cA,bM,b8,b9,ca,cb,rfl,dE,rfl,cc⟩
 try dsimp only at ar
 refine bk 5<|g0<|aB 4 0 (V bM.To) cc rfl ?_
 obtain ⟨dH,dI,ar⟩:=ai ar
 refine cP 0 cc (qm F cc.inv (J.mono cc.ag) dI) ?_
 rintro _ eQ dJ rfl
 refine xn 1 ?_
 exact ⟨cz,Nat.lt_succ_self _,⟨_,bM,aT,aV,aX,b8,dH,b9,ca,cb,ar,dE,(by kernel_rfl),dJ⟩⟩
 refine s0<|aB 2 0 (V aM.To) ay rfl<|aP 0 ab ?_ ?_<;>intro eR ab
 refine a6 3 ab (J.mono ay.ag) ?_
 intro eT ab
 refine bh 1 0 (fun cQ=>V cQ.Kind) ab (J.mono ay.ag) ay ?_
 intro cQ eU ab
 refine aE 0 ab ?_ ?_<;>intro eV ab
 refine xn 9<|dT<|sk ?_
 obtain rfl:=si ab
 exact ⟨_,aM,aY,aZ,a3,a4,rfl,b7,(by kernel_rfl),ay⟩
 refine a6 3 ab (J.mono ay.ag) ?_
 intro eW ab
 refine bh 1 0 (fun cR=>V cR.Kind) ab (J.mono ay.ag) ay ?_
 intro cR eX ab
 refine aE 0 ab ?_ ?_<;>intro eY ab
 refine xn 2<|dT<|sk ?_
 obtain rfl:=si ab
 exact ⟨_,aM,aY,aZ,a3,a4,rfl,b7,(by kernel_rfl),ay⟩
 refine xn 2<|dF<|xt 4<|aN ?_
 obtain rfl:=si ab
 obtain rfl:=si ar
 exact ⟨_,aM,aT,aV,aX,aY,bu,aZ,a3,a4,rfl,b7,(by kernel_rfl),ay⟩
 refine xn 16<|dF<|xt 4<|aN ?_
 obtain rfl:=si ab
 obtain rfl:=si ar
 exact ⟨_,aM,aT,aV,aX,aY,bu,aZ,a3,a4,rfl,b7,(by kernel_rfl),ay⟩
 refine bk 2 ?_
 have dK:=bC.c9 (aa a2)
 refine lp [0,3,6,7,8,9] (fun n l h=>∃ cd aO U a7 ao bw a8 a9 bN,correctorref9_Entries_l1 F a0 a1 n aO U a7 ao bw=some ch∧RCs (α:=a2) cd bN bw∧l=[(0,v2),(3,Pt a8 0),(6,V U),(7,V a7),(8,V ao),(9,a9)]∧St hs [] Z (0,0) cd h [.ae a8 (cw aO), .gs a9 bN (aa a2)]) F ⟨_,bA,bB,bB,cg.ah,[],bR,(.slice none 0 0),[],I,(RCs.br _),(by kernel_rfl),((dK.front 0 rfl).front 1 rfl)⟩ ?_
 rintro cB l eZ ⟨cd,aO,U,a7,ao,bw,a8,a9,bN,I,cC,rfl,az⟩
 rcases cB with _ | cB
 cases (show none=some ch from I)
 rw [correctorref9_Entries_l1] at I
 refine sq<|s0<|aB 2 0 (V aO.To) az rfl<|aP 0 I ?_ ?_<;>intro e0 I
 refine a6 3 I (J.mono az.ag) ?_
 intro e2 I
 refine bh 1 0 (fun cS=>V cS.Kind) I (J.mono az.ag) az ?_
 intro cS e3 I
 refine aE 0 I ?_ ?_<;>intro e4 I
 refine xn 1<|dT<|sk<|bk 3<|sr D6<|a6 3 I (J.mono az.ag) ?_
 intro e5 I
 refine bh 1 1 (fun aF=>V aF.ah) I (J.mono az.ag) az ?_
 intro aF e6 I
 refine xq 6 [(63, .agg #[.bool true,V (af (aF.ah - ao)),V U,V (af (U+1))]),(52,a9),(0,v2),(3,Pt a8 0),(6,V U),(7,V a7),(8,V ao),(9,a9)] ?_
 have dL:RCs (α:=a2) cd [.bool true,V (af (aF.ah - ao)),V U,V (af (U+1))] [(⟨true,af (aF.ah - ao),U,af (U+1)⟩:a2)]:=RCs.cons (cs:=[.bool true,V (af (aF.ah - ao)),V U,V (af (U+1))]) rfl (RCs.br _)
 refine dP rfl trivial (cX (cells:=[.bool true,V (af (aF.ah - ao)),V U,V (af (U+1))]) (s:=4) (by kernel_rfl)) (by kernel_rfl) az ?_
 intro e7 e8 cT
 obtain ⟨e9,I⟩:=aK I
 refine eS rfl trivial (dG (ys:=[(⟨true,af (aF.ah - ao),U,af (U+1)⟩:a2)]) (bS:=32) cT (i:=2) rfl cC ((cT).eA (j:=0) rfl dL) rfl rfl (by kernel_rfl) (by omega) (by omega)) ?_
 rintro dM dN fa ⟨dO,cD⟩
 refine xn 1<|g0<|aB 4 1 (V aO.To) cD rfl ?_
 obtain ⟨dQ,dR,I⟩:=ai I
 refine cP 0 cD (qm F cD.inv (J.mono az.ag) dR) ?_
 rintro _ fb dS rfl
 refine xn 1 ?_
 exact ⟨cB,Nat.lt_succ_self _,⟨_,aO,dQ,a7,ao,bw++[(⟨true,af (aF.ah - ao),U,af (U+1)⟩:a2)],a8,dM,dN,I,dO,(by kernel_rfl),(((dS.front 2 rfl).front 2 rfl).takeN 2)⟩⟩
 refine xn 1<|dF<|xt 2<|aN ?_
 obtain rfl:=si I
 exact ⟨_,aO,U,a7,ao,bw,a8,a9,bN,rfl,cC,(by kernel_rfl),az⟩
 refine xn 8<|dF<|xt 2<|aN ?_
 obtain rfl:=si I
 exact ⟨_,aO,U,a7,ao,bw,a8,a9,bN,rfl,cC,(by kernel_rfl),az⟩
 refine bk 0<|lp [0,3,6] (fun n l h=>∃ cY ba bx bz,correctorref9_Entries_l0 F a0 a1 n ba bx=some cf∧l=[(0,v2),(3,Pt bz 0),(6,V bx)]∧St hs [] Z (0,0) cY h [.ae bz (cw ba)]) F ⟨_,a1,a1.ah,bO,ad,(by kernel_rfl),bP⟩ ?_
 rintro cE l fc ⟨cY,ba,bx,bz,ad,rfl,bb⟩
 rcases cE with _ | cE
 cases (show none=some cf from ad)
 rw [correctorref9_Entries_l0] at ad
 refine sq<|s0<|aB 2 0 (V ba.To) bb rfl<|aP 0 ad ?_ ?_<;>intro fe ad
 refine a6 3 ad (J.mono bb.ag) ?_
 intro ff ad
 refine bh 1 0 (fun c0=>V c0.Kind) ad (J.mono bb.ag) bb ?_
 intro c0 fg ad
 obtain ⟨fh,dU,ad⟩:=ai ad
 refine cP 0 bb (ir F bb.inv dU) ?_
 rintro _ fi c3 rfl
 refine kb 0 28 ad ?_ ?_<;>intro fj ad
 refine xn 2<|dF<|xt 0<|aN ?_
 obtain rfl:=si ad
 exact ⟨_,ba,bx,bz,rfl,(by kernel_rfl),c3⟩
 refine xn 2<|dT<|sk<|bk 1<|gp 3 ?_
 exact ⟨cE,Nat.lt_succ_self _,⟨_,ba,af (bx+1),bz,ad,(by kernel_rfl),c3⟩⟩
 refine xn 9<|dF<|xt 0<|aN ?_
 obtain rfl:=si ad
 exact ⟨_,ba,bx,bz,rfl,(by kernel_rfl),bb⟩
 refine xn 0<|dT<|cU w9 bP ?_
 intro dV fk dW c4
 refine yq 1 [(14,Pt bO 1)] ?_
 have fl:bO<dV:=dW.1 _ (List.mem_of_getElem? (i:=0) rfl) _ (by simp [Itm.ids])
 refine aW (v:=V a1.ah) rfl trivial rfl (by show bO<_;omega) (aC (v:=V a1.ah) trivial) (c4.aU (i:=0) rfl (by kernel_rfl)) trivial<|ye 2 [(5,V a1.ah),(4, .slice none 0 0)] ?_
 have dX:=c4.a5
 refine rt<|⟨rfl,?_⟩
 have dY:=dX.c9 (aa a2)
 obtain rfl:=si hm
 refine ⟨_,_,_,tk (.slice none 0 0) (tk (V a1.ah) (ResL.nil)),(dY.takeN 1),?_⟩
 exact ⟨(.slice none 0 0),[],rfl,rfl,(RCs.br _)⟩
end Go.Proofs.Ytcilejikekccmaa.M
namespace Go.Proofs.Ytcilejikekccmaa.M
open Go Am Sy
open Sy.Cell (rc)
structure aq where
 Kind:Int
 ah:Int
 To:Int
 Up:Int
 Kids:List Int
 Key:Bool
 deriving DecidableEq,Inhabited
instance:Cell aq where
 size:=6
 rc Z cs x:=∃ v4,RS (α:=Int) Z v4 x.Kids∧cs=[V x.Kind,V x.ah,V x.To,V x.Up,v4, .bool x.Key]
 len h:=by obtain ⟨v4,j,h⟩:=h;rw [h];rfl
 mono hz h:=by obtain ⟨v4,j,h⟩:=h;exact ⟨v4,j.mono hz,h⟩
 one h:=by obtain ⟨v4,j,h⟩:=h;subst h;exact (bt rfl (bt rfl (bt rfl (bt rfl (bt j.cY (bt rfl cp))))))
 pos:=by decide
instance:cN aq Int where
 row x:=x.Kids
 dK v cs x:=cs=[V x.Kind,V x.ah,V x.To,V x.Up,v, .bool x.Key]
 oY h hd:=⟨_,h,hd⟩
 j1 h:=by rw [h];rfl
 done hv h:=by subst h;exact (bt rfl (bt rfl (bt rfl (bt rfl (bt hv (bt rfl cp))))))
 inj h k:=by rw [h] at k;simpa using k
 fn h k:=h.trans k.symm
theorem o6 {v:Value} {cs:List Value} {x:aq} (h:cN.dK v cs x):cs=[V x.Kind,V x.ah,V x.To,V x.Up,v, .bool x.Key]:=h
theorem fw {Z:Zn} {cs:List Value} {x:aq} (h:rc Z cs x):∃ v4,RS (α:=Int) Z v4 x.Kids∧cs=[V x.Kind,V x.ah,V x.To,V x.Up,v4, .bool x.Key]:=h
abbrev j0 (v0:Value) (x:aq):List Value:=[V x.Kind,V x.ah,V x.To,V x.Up,v0, .bool x.Key]
structure cT where
 al:List aq
 deriving DecidableEq,Inhabited
instance:Cell cT where
 size:=1
 rc Z cs x:=∃ v0,RS (α:=aq) Z v0 x.al∧cs=[v0]
 len h:=by obtain ⟨v0,j,h⟩:=h;rw [h];rfl
 mono hz h:=by obtain ⟨v0,j,h⟩:=h;exact ⟨v0,j.mono hz,h⟩
 one h:=by obtain ⟨v0,j,h⟩:=h;subst h;exact (bt j.cY cp)
 pos:=by decide
instance:cN cT aq where
 row x:=x.al
 dK v cs x:=cs=[v]
 oY h hd:=⟨_,h,hd⟩
 j1 h:=by rw [h];rfl
 done hv h:=by subst h;exact (bt hv cp)
 inj h k:=by rw [h] at k;simpa using k
 fn h k:=h.trans k.symm
def AA:List aQ:=[u 9 (mv 0),u 10 (.build 37 #[(0,(ci 1)),(2,(t 9)),(3,(ci (-1)))]),u 11 (.buildSlice 25 1 #[(0,(t 10))]),u 12 (.build 27 #[(0,(t 11))]),o (.store 27 (t 2) (t 12))]
def mW (F:Nat) (a0:Int):Option cT:=
 ((if a0<(0:Int) then
   some 0
  else
   if (32768:Int)<a0 then
    some 0
   else
    some a0):Option Int).bind fun o=>match o with
  | j=>some (⟨[(⟨1,0,j,(-1),[],false⟩:aq)]⟩:cT)
theorem Al (F:Nat) {h:AH} {Z:Zn} {a0:Int} (hP:Pre Z h []) {r:cT} (hm:mW F a0=some r):
  bQ Try.prog 21 [V a0] h Z [] fun v Z' A'=>∃ v2 ah, .agg #[v2]=v∧A'=[.gs v2 ah (aa aq)]∧RCs (α:=aq) Z' ah r.al:=by
 refine b5 Try.func21 hP ?_
 intro hs hS
 unfold mW at hm
 replace hS:St hs [] Z (0,0) Z hs []:=hS
 refine s0<|df 0 [.slice none 0 0] hS ?_
 intro ab au ad
 refine xn 0<|sq ?_
 obtain ⟨an,I,hm⟩:=ai hm
 refine dY [0,2] (fun l h=>∃ af j U,j=an∧l=[(0,V j),(2,Pt U 0)]∧St hs [] Z (0,0) af h [.ae U [.slice none 0 0]]) (by kernel_rfl) ?_ ?_
 rintro l av ⟨af,j,U,rfl,rfl,ao⟩
 try dsimp only at hm
 refine sr AA<|xq 2 [(10, .agg #[V 1,V 0,V j,V (-1), .slice none 0 0, .bool false]),(2,Pt U 0)] ?_
 have ar:RCs (α:=aq) af [V 1,V 0,V j,V (-1), .slice none 0 0, .bool false] [(⟨1,0,j,(-1),[],false⟩:aq)]:=RCs.cons (cs:=[V 1,V 0,V j,V (-1), .slice none 0 0, .bool false]) ⟨_,(RS.br _),rfl⟩ (RCs.br _)
 refine dP rfl trivial (cX (cells:=[V 1,V 0,V j,V (-1), .slice none 0 0, .bool false]) (s:=6) (by kernel_rfl)) (by kernel_rfl) ao ?_
 intro J aw ag
 refine bN rfl trivial (jr (v:= .agg #[J]) rfl (CA.cons (cs:=[J]) (ag.fU (i:=0) rfl) (CA.br)) (by kernel_rfl))<|bA 0 1 (.agg #[J]) [J] [J] ag rfl rfl (bt (ag.fO (i:=0) rfl) cp) ?_
 intro ax aj
 refine xn 0<|rt<|⟨rfl,?_⟩
 obtain rfl:=si hm
 refine ⟨_,_,_,ResL.cell (v:= .agg #[J]) (by kernel_rfl) aj (i:=1) rfl (by kernel_rfl) (ResL.nil),(aj.takeN 1),?_⟩
 exact ⟨J,[V 1,V 0,V j,V (-1), .slice none 0 0, .bool false],rfl,rfl,ar⟩
 refine g0<|aP 1 I ?_ ?_<;>intro ay I
 refine xn 4<|dT<|gp 1 ?_
 obtain rfl:=si I
 exact ⟨_,0,ab,rfl,(by kernel_rfl),ad⟩
 refine cz 2 I ?_ ?_<;>intro az I
 refine xn 1<|dT<|gp 1 ?_
 obtain rfl:=si I
 exact ⟨_,0,ab,rfl,(by kernel_rfl),ad⟩
 refine xn 1<|dF<|sk ?_
 obtain rfl:=si I
 exact ⟨_,a0,ab,rfl,(by kernel_rfl),ad⟩
def Dj:List aQ:=[u 1 (.box 27 (t 0)),u 2 (.assign (.const (.slice none 0 0)))]
def Dz:List aQ:=[u 18 (.buildSlice 23 0 #[]),u 19 (fa 37 5 4),u 20 (ld 23 19),u 21 (cb .append #[(t 18),(t 20)] #[23,23]),u 22 (fa 37 5 4),o (.store 23 (t 22) (t 21))]
def zL:List aQ:=[u 23 (mv 3),u 24 (ld 37 5),u 25 (.buildSlice 25 1 #[(0,(t 24))]),u 26 (cb .append #[(t 23),(t 25)] #[25,25]),u 3 (sg 26)]
def correctorref10_copied_l0 (F:Nat) (a0:cT):Nat→(List aq)→Int→Option (List aq)
 | 0,_,_=>none
 | n+1,J,I=>
  if I<(a0.al.length:Int) then
   if 0≤I∧I<(a0.al.length:Int) then
    (a0.al[I.toNat]?).bind fun j=>
    if ([]:List Int).length+j.Kids.length≤17592186044416 then
     if J.length+[(⟨j.Kind,j.ah,j.To,j.Up,([]:List Int)++j.Kids,j.Key⟩:aq)].length≤2199023255552 then
      correctorref10_copied_l0 F a0 n (J++[(⟨j.Kind,j.ah,j.To,j.Up,([]:List Int)++j.Kids,j.Key⟩:aq)]) (af (I+1))
     else none
    else none
   else none
  else
   some J
def lC (F:Nat) (a0:cT):Option (List aq):=
 ((correctorref10_copied_l0 F a0 F [] 0):Option (List aq)).bind fun o=>match o with
  | j=>some j
theorem vb (F:Nat) {h:AH} {Z:Zn} {a0:cT} {v2} (hP:Pre Z h []) (aC:RS (α:=aq) Z v2 a0.al) {r:(List aq)} (hm:lC F a0=some r):
  bQ Try.prog 82 [.agg #[v2]] h Z [] fun v Z' A'=>∃ v4 aM aR,v4=v∧A'=[.gs v4 aM (aa aq), .bD aR]∧RD (α:=aq) Z' aM r aR:=by
 refine b5 Try.func82 hP ?_
 intro hs hS
 unfold lC at hm
 replace hS:St hs [] Z (0,0) Z hs []:=hS
 refine sr Dj<|gN rfl trivial (gE (cs:=[v2]) rfl rfl) hS ?_
 intro aW bw aX
 refine xn 1<|sp 1<|sq<|sp 1 ?_
 obtain ⟨aD,I,hm⟩:=ai hm
 refine aI [3] (fun l h=>∃ aE aF au ay az,aF=aD∧RD (α:=aq) aE ay aF az∧l=[(3,au)]∧St hs [] Z (0,0) aE h [.gs au ay (aa aq), .bD az]) ?_ ?_
 rintro l bx ⟨aE,aF,au,ay,az,rfl,aY,rfl,aZ⟩
 try dsimp only at hm
 refine sp 2<|rt<|⟨rfl,?_⟩
 obtain rfl:=si hm
 refine ⟨_,_,_,tk au (ResL.nil),aZ,?_⟩
 exact ⟨au,ay,az,rfl,rfl,aY⟩
 refine bk 0 ?_
 have a1:=aX.Da (aa aq)
 refine lp [1,3,4] (fun n l h=>∃ av aw ad ab J ao an,correctorref10_copied_l0 F a0 n aw ad=some aD∧RD (α:=aq) av ao aw an∧l=[(1,Pt ab 0),(3,J),(4,V ad)]∧St hs [] Z (0,0) av h [.ae ab [v2], .gs J ao (aa aq), .bD an]) F ⟨_,[],0,aW,(.slice none 0 0),[],[],I,RD.nil,(by kernel_rfl),(((a1.front 1 rfl).front 1 rfl).front 2 rfl)⟩ ?_
 rintro aG l bz ⟨av,aw,ad,ab,J,ao,an,I,aT,rfl,aj⟩
 rcases aG with _ | aG
 cases (show none=some aD from I)
 rw [correctorref10_copied_l0] at I
 refine sq<|s0<|aB 2 0 v2 aj rfl<|bG 0 v2 (RS.len (aC.mono aj.ag))<|aP 0 I ?_ ?_<;>intro bB I
 refine xn 0<|dT<|sk<|sq<|bk 1<|s0<|aB 1 0 v2 aj rfl<|a6 1 I (aC.mono aj.ag) ?_
 intro bC I
 obtain ⟨j,a2,I⟩:=ai I
 obtain ⟨bE,a3,a4⟩:=RS.cy (aC.mono aj.ag) (i:=ad) a2
 obtain ⟨ax,aU,rfl⟩:=fw a3
 refine fe 0 0 (.agg #[V j.Kind,V j.ah,V j.To,V j.Up,ax, .bool j.Key]) (a4 _ (aj.b1 (aO.refl _)))<|df 0 [V 0,V 0,V 0,V 0, .slice none 0 0, .bool false] aj ?_
 intro ar bF a5
 refine bA 0 0 (.agg #[V j.Kind,V j.ah,V j.To,V j.Up,ax, .bool j.Key]) [V j.Kind,V j.ah,V j.To,V j.Up,ax, .bool j.Key] (j0 ax j) a5 rfl rfl (bt rfl (bt rfl (bt rfl (bt rfl (bt (RS.cY aU) (bt rfl cp)))))) ?_
 intro bH a7
 refine xf [(5,Pt ar 0),(1,Pt ab 0),(3,J),(4,V ad)]<|sr Dz ?_
 have a8:RCs (α:=Int) av [] []:=RCs.br _
 refine dP rfl trivial (cX (cells:=[]) (s:=1) (by kernel_rfl)) (by kernel_rfl) a7 ?_
 intro a9 bI aH
 refine xq 1 [(19,Pt ar 4),(18,a9),(5,Pt ar 0),(1,Pt ab 0),(3,J),(4,V ad)]<|aB 0 1 ax aH rfl ?_
 obtain ⟨bJ,ba⟩:=RS.news aU (aH).inv
 obtain ⟨bK,I⟩:=aK I
 refine eS rfl trivial (dG (ys:=j.Kids) (bS:=8) aH (i:=0) rfl a8 ba rfl rfl (by kernel_rfl) (by omega) (by omega)) ?_
 rintro U bL bM ⟨bb,aJ⟩
 refine bA 1 1 U [U] (j0 U j) aJ rfl (aJ.fU (i:=0) rfl) (bt (aJ.fO (i:=0) rfl) cp) ?_
 intro bN aL
 refine xn 0<|rg zL<|xq 1 [(23,J),(5,Pt ar 0),(1,Pt ab 0),(3,J),(4,V ad)]<|aB 0 1 (.agg #[V j.Kind,V j.ah,V j.To,V j.Up,U, .bool j.Key]) aL rfl ?_
 have bc:=aL.fO (i:=0) rfl
 refine dP rfl trivial (cX (cells:=[V j.Kind,V j.ah,V j.To,V j.Up,U, .bool j.Key]) (s:=6) (by kernel_rfl)) (by kernel_rfl) aL ?_
 intro aV bO bd
 obtain ⟨aA,bf,bg⟩:=(bd.front 1 rfl).tt bb
 have bh:=bg.front 1 rfl
 have bj:RD (α:=aq) av [V j.Kind,V j.ah,V j.To,V j.Up,U, .bool j.Key] [(⟨j.Kind,j.ah,j.To,j.Up,([]:List Int)++j.Kids,j.Key⟩:aq)] aA:=RD.one (show cN.dK _ _ _ from rfl) bc bf
 have bl:St _ _ _ _ _ _ [.gs aV [V j.Kind,V j.ah,V j.To,V j.Up,U, .bool j.Key] (aa aq), .bD aA, .ae ar (j0 U j), .ae ab [v2], .gs J ao (aa aq), .bD an]:=bh
 obtain ⟨bP,I⟩:=aK I
 have bm:St _ _ _ _ _ _ [.gs J ao (aa aq), .bD an, .gs aV [V j.Kind,V j.ah,V j.To,V j.Up,U, .bool j.Key] (aa aq), .bD aA, .ae ar (j0 U j), .ae ab [v2]]:=((((bl.front 1 rfl).front 1 rfl).front 5 rfl).front 5 rfl)
 refine eS rfl trivial (u1 (bS:=64) bm aT bj rfl rfl (by kernel_rfl) (by omega) (by omega)) ?_
 rintro bn bo bR ⟨bp,bu⟩
 refine xn 1<|gp 3 ?_
 exact ⟨aG,Nat.lt_succ_self _,⟨_,aw++[(⟨j.Kind,j.ah,j.To,j.Up,([]:List Int)++j.Kids,j.Key⟩:aq)],af (ad+1),ab,bn,bo,an++aA,I,bp,(by kernel_rfl),((((bu.front 1 rfl).front 1 rfl).front 3 rfl).takeN 3)⟩⟩
 refine xn 0<|dF<|xt 0<|aN ?_
 obtain rfl:=si I
 exact ⟨_,aw,J,ao,an,rfl,aT,(by kernel_rfl),(((aj.front 2 rfl).front 2 rfl).takeN 2)⟩
def z6:List aQ:=[u 10 (mv 0),u 11 (mv 6),u 12 (ia 25 10 11),u 13 (fa 37 12 3),u 14 (ld 3 13),u 6 (sg 14)]
def wD:List aQ:=[u 15 (mv 0),u 16 (mv 6),u 17 (mv 0),u 18 (mv 6),u 19 (ia 25 17 18),u 20 (fa 37 19 2),u 21 (ld 3 20),u 22 (mv 2),u 23 (cb .max #[(t 21),(t 22)] #[3,3]),u 24 (ia 25 15 16),u 25 (fa 37 24 2),o (.store 3 (t 25) (t 23))]
def j9 (F:Nat) (a0:List aq) (a1:Int) (U:Int):Nat→(List aq)→Int→Option (List aq)
 | 0,_,_=>none
 | n+1,J,I=>
  if (0:Int)≤I then
   if 0≤I∧I<(J.length:Int) then
    (J[I.toNat]?).bind fun aa=>
    if 0≤I∧I<(J.length:Int) then
     (J[I.toNat]?).bind fun j=>
     if 0≤I∧I<((J.set I.toNat (⟨j.Kind,j.ah,imax aa.To U,j.Up,j.Kids,j.Key⟩:aq)).length:Int) then
      ((J.set I.toNat (⟨j.Kind,j.ah,imax aa.To U,j.Up,j.Kids,j.Key⟩:aq))[I.toNat]?).bind fun ab=>
      j9 F a0 a1 U n (J.set I.toNat (⟨j.Kind,j.ah,imax aa.To U,j.Up,j.Kids,j.Key⟩:aq)) ab.Up
     else none
    else none
   else none
  else
   some J
def lV (F:Nat) (a0:List aq) (a1:Int) (j:Int):Option (List aq):=
 ((j9 F a0 a1 j F a0 a1):Option (List aq)).bind fun o=>match o with
  | I=>some I
theorem vp (F:Nat) {h:AH} {Z:Zn} {a0:List aq} {a1:Int} {U:Int} {v2 ae af} (hP:Pre Z h [.gs v2 ae (aa aq), .bD af]) (aL:RD (α:=aq) Z ae a0 af) {r:(List aq)} (hm:lV F a0 a1 U=some r):
  bQ Try.prog 83 [v2,V a1,V U] h Z [.gs v2 ae (aa aq), .bD af] fun v Z' A'=>∃ aC aD, .tuple #[]=v∧A'=[.gs v2 aC (aa aq), .bD aD]∧RD (α:=aq) Z' aC r aD:=by
 refine b5 Try.func83 hP ?_
 intro hs hS
 unfold lV at hm
 refine sp 2 ?_
 obtain ⟨av,I,hm⟩:=ai hm
 refine aI [] (fun l h=>∃ aw ax ao ar,ax=av∧RD (α:=aq) aw ao ax ar∧l=[]∧St hs (aR [.gs v2 ae (aa aq), .bD af]) Z (0,0) aw h [.gs v2 ao (aa aq), .bD ar]) ?_ ?_
 rintro l a5 ⟨aw,ax,ao,ar,rfl,aM,rfl,aO⟩
 try dsimp only at hm
 obtain rfl:=si hm
 refine ⟨_,_,_,ResL.nil,aO,?_⟩
 exact ⟨ao,ar,rfl,rfl,aM⟩
 refine bk 0<|lp [0,2,6] (fun n l h=>∃ ay al J au an,j9 F a0 a1 U n al J=some av∧RD (α:=aq) ay au al an∧l=[(0,v2),(2,V U),(6,V J)]∧St hs (aR [.gs v2 ae (aa aq), .bD af]) Z (0,0) ay h [.gs v2 au (aa aq), .bD an]) F ⟨_,a0,a1,ae,af,I,aL,(by kernel_rfl),hS⟩ ?_
 rintro az l a6 ⟨ay,al,J,au,an,I,ag,rfl,aj⟩
 rcases az with _ | az
 cases (show none=some av from I)
 rw [j9] at I
 refine sq<|s0<|ct 1 I ?_ ?_<;>intro a7 I
 refine xn 0<|dT<|sk<|sq<|bk 1<|rg wD<|xq 4 [(18,V J),(17,v2),(16,V J),(15,v2),(0,v2),(2,V U),(6,V J)] ?_
 obtain ⟨aE,I⟩:=aK I
 refine bN rfl trivial (bF rfl rfl (by kernel_rfl:slTy _ _=some (aa aq)) (aj.mf (i:=0) rfl (ag).raw (by omega)) aE.1 aE.2) ?_
 obtain ⟨ad,aP,I⟩:=ai I
 obtain ⟨a8,a9,aT,ba,aU,bb⟩:=aj.del (j:=0) rfl (ag).raw (i:=J) aP
 obtain rfl:=o6 aT
 refine fe 1 2 (V ad.To) aU<|xq 2 [(23,V (imax ad.To U)),(16,V J),(15,v2),(0,v2),(2,V U),(6,V J)] ?_
 obtain ⟨aF,I⟩:=aK I
 refine bN rfl trivial (bF rfl rfl (by kernel_rfl:slTy _ _=some (aa aq)) (aj.mf (i:=0) rfl (ag).raw (by omega)) aF.1 aF.2)<|xq 1 [(25, .pointer (some (bj v2 J (aa aq) 2))),(23,V (imax ad.To U)),(0,v2),(2,V U),(6,V J)] ?_
 obtain ⟨ab,aG,I⟩:=ai I
 obtain ⟨aV,bc,aW,bd,bf,aX⟩:=aj.del (j:=0) rfl (ag).raw (i:=J) aG
 obtain rfl:=o6 aW
 refine nP rfl trivial (Dy (z':=(⟨ab.Kind,ab.ah,imax ad.To U,ab.Up,ab.Kids,ab.Key⟩:aq)) (vs:=[V (imax ad.To U)]) (aZ:=[V ab.Kind,V ab.ah,V (imax ad.To U),V ab.Up,aV, .bool ab.Key]) aj (m:=0) rfl ag aG aX rfl rfl rfl (by kernel_rfl) rfl rfl rfl (show cN.dK _ _ _ from rfl) (show cN.dK _ _ _ from rfl) rfl) ?_
 rintro bg aY ⟨aA,aB⟩
 refine xn 0<|rg z6<|xq 2 [(11,V J),(10,v2),(0,v2),(2,V U),(6,V J)] ?_
 obtain ⟨aH,I⟩:=aK I
 refine bN rfl trivial (bF rfl rfl (by kernel_rfl:slTy _ _=some (aa aq)) (aB.mf (i:=0) rfl (aA).raw (by omega)) aH.1 aH.2) ?_
 obtain ⟨aJ,a2,I⟩:=ai I
 obtain ⟨bh,bl,a3,bm,a4,bn⟩:=aB.del (j:=0) rfl (aA).raw (i:=J) a2
 obtain rfl:=o6 a3
 refine fe 1 3 (V aJ.Up) a4<|xn 1 ?_
 exact ⟨az,Nat.lt_succ_self _,⟨_,al.set J.toNat (⟨ab.Kind,ab.ah,imax ad.To U,ab.Up,ab.Kids,ab.Key⟩:aq),aJ.Up,aY,an,I,aA,(by kernel_rfl),aB⟩⟩
 refine xn 0<|dF<|xt 0<|aN ?_
 obtain rfl:=si I
 exact ⟨_,al,au,an,rfl,ag,(by kernel_rfl),aj⟩
def zH:List aQ:=[u 5 (.box 27 (t 0)),u 10 (.alloc 27),u 11 (.assign (ci 0))]
def Bv:List bq:=[uP 52 (mv 3),uP 53 (fa 37 12 1),uL 54 (ld 3 53),uP 55 (bo .lss 3 52 54 3),uP 56 (mv 55),du 56 57 (fa 37 12 4),kL 56 58 (ld 23 57),du 56 59 (cb .len #[(t 58)] #[23]),du 56 60 (bc .gtr 3 59 0 3),du 56 61 (mv 60),aJ 61 62 (mv 3),aJ 61 63 (fa 27 5 0),cG 61 64 (ld 25 63),aJ 61 65 (fa 37 12 4),cG 61 66 (ld 23 65),aJ 61 67 (fa 37 12 4),cG 61 68 (ld 23 67),aJ 61 69 (cb .len #[(t 68)] #[23]),aJ 61 70 (bc .sub 3 69 1 3),aJ 61 71 (ia 23 66 70),cG 61 72 (ld 3 71),aJ 61 73 (ia 25 64 72),aJ 61 74 (fa 37 73 2),cG 61 75 (ld 3 74),aJ 61 76 (bo .lss 3 62 75 3),du 56 77 (pf 61 76),uP 78 (pt 56 77)]
def Ak:List aQ:=[u 84 (mv 13),u 85 (mv 2),u 86 (mv 3),u 87 (mv 4),u 88 (mv 1),u 89 (.build 37 #[(0,(t 85)),(1,(t 86)),(2,(t 87)),(3,(t 88))]),u 90 (.buildSlice 25 1 #[(0,(t 89))]),u 91 (cb .append #[(t 84),(t 90)] #[25,25]),u 13 (sg 91)]
def xT:List aQ:=[u 92 (mv 13),u 93 (mv 1),u 94 (mv 13),u 95 (mv 1),u 96 (ia 25 94 95),u 97 (fa 37 96 4),u 98 (ld 23 97),u 99 (mv 14),u 100 (.buildSlice 23 1 #[(0,(t 99))]),u 101 (cb .append #[(t 98),(t 100)] #[23,23]),u 102 (ia 25 92 93),u 103 (fa 37 102 4),o (.store 23 (t 103) (t 101))]
def xW:List aQ:=[u 108 (mv 13),u 109 (.build 27 #[(0,(t 108))]),u 110 (mv 14),o (.store 27 (t 10) (t 109)),u 11 (sg 110)]
def correctorref10_Add (F:Nat) (a0:cT) (a1:Int) (U:Int) (j:Int) (I:Int):Option (cT×Int):=
 if a1<(0:Int) then
  some (a0,(-1))
 else
  if (a0.al.length:Int)≤a1 then
   some (a0,(-1))
  else
   if U<(1:Int) then
    some (a0,(-1))
   else
    if (11:Int)<U then
     some (a0,(-1))
    else
     if I<j then
      some (a0,(-1))
     else
      if 0≤(0:Int)∧(0:Int)<(a0.al.length:Int) then
       (a0.al[(0:Int).toNat]?).bind fun ae=>
       if ae.To<I then
        some (a0,(-1))
       else
        if 0≤a1∧a1<(a0.al.length:Int) then
         (a0.al[a1.toNat]?).bind fun aa=>
         ((if j<aa.ah then
           some (.inr (a0,(-1)))
          else
           if (0:Int)<(aa.Kids.length:Int) then
            if 0≤(af ((aa.Kids.length:Int) - 1))∧(af ((aa.Kids.length:Int) - 1))<(aa.Kids.length:Int) then
             (aa.Kids[(af ((aa.Kids.length:Int) - 1)).toNat]?).bind fun ad=>
             if 0≤ad∧ad<(a0.al.length:Int) then
              (a0.al[ad.toNat]?).bind fun ag=>
              if j<ag.To then
               some (.inr (a0,(-1)))
              else
               some (.inl ())
             else none
            else none
           else
            some (.inl ())):Option (Sum Unit (cT×Int))).bind fun o=>match o with
          | .inl ()=>(lC F a0).bind fun J=>
          if J.length+[(⟨U,j,I,a1,[],false⟩:aq)].length≤2199023255552 then
           if 0≤a1∧a1<((J++[(⟨U,j,I,a1,[],false⟩:aq)]).length:Int) then
            ((J++[(⟨U,j,I,a1,[],false⟩:aq)])[a1.toNat]?).bind fun ab=>
            if ab.Kids.length+([(J.length:Int)]:List Int).length≤17592186044416 then
             if 0≤a1∧a1<((J++[(⟨U,j,I,a1,[],false⟩:aq)]).length:Int) then
              (lV F ((J++[(⟨U,j,I,a1,[],false⟩:aq)]).set a1.toNat (⟨ab.Kind,ab.ah,ab.To,ab.Up,ab.Kids++([(J.length:Int)]:List Int),ab.Key⟩:aq)) a1 I).bind fun ai=>
              some ((⟨ai⟩:cT),(J.length:Int))
             else none
            else none
           else none
          else none
          | .inr y=>some y
        else none
      else none
theorem yv (F:Nat) {h:AH} {Z:Zn} {a0:cT} {a1:Int} {aj:Int} {I:Int} {J:Int} {v2} (hP:Pre Z h []) (U:RS (α:=aq) Z v2 a0.al) {r:cT×Int} (hm:correctorref10_Add F a0 a1 aj I J=some r):
  bQ Try.prog 78 [.agg #[v2],V a1,V aj,V I,V J] h Z [] fun v Z' A'=>∃ v4, .tuple #[.agg #[v4],V r.2]=v∧A'=[]∧RS (α:=aq) Z' v4 r.1.al:=by
 refine b5 Try.func78 hP ?_
 intro hs hS
 unfold correctorref10_Add at hm
 replace hS:St hs [] Z (0,0) Z hs []:=hS
 refine sr zH<|gN rfl trivial (gE (cs:=[v2]) rfl rfl) hS ?_
 intro au c3 bR
 refine df 0 [.slice none 0 0] bR ?_
 intro ax c4 ao
 refine xn 1<|sq<|s0<|aP 1 hm ?_ ?_<;>intro c5 hm
 refine xn 29<|dT<|s0<|aB 0 1 (.agg #[v2]) ao rfl<|bA 0 0 (.agg #[v2]) [v2] [v2] ao rfl rfl (bt (RS.cY U) cp) ?_
 intro c6 a3
 refine xn 1<|rt<|⟨rfl,?_⟩
 obtain rfl:=si hm
 refine ⟨_,_,_,ResL.cell (v:= .agg #[v2]) (by kernel_rfl) a3 (i:=0) rfl (by kernel_rfl) (tk (V (-1)) (ResL.nil)),(a3.takeN 0),?_⟩
 exact ⟨v2,rfl,rfl,U⟩
 refine aB 3 1 v2 ao rfl<|bG 0 v2 (RS.len U)<|ct 0 hm ?_ ?_<;>intro c7 hm
 refine xn 23<|dT<|s0<|aB 0 1 (.agg #[v2]) ao rfl<|bA 0 0 (.agg #[v2]) [v2] [v2] ao rfl rfl (bt (RS.cY U) cp) ?_
 intro c9 a4
 refine xn 1<|rt<|⟨rfl,?_⟩
 obtain rfl:=si hm
 refine ⟨_,_,_,ResL.cell (v:= .agg #[v2]) (by kernel_rfl) a4 (i:=0) rfl (by kernel_rfl) (tk (V (-1)) (ResL.nil)),(a4.takeN 0),?_⟩
 exact ⟨v2,rfl,rfl,U⟩
 refine aP 3 hm ?_ ?_<;>intro da hm
 refine xn 19<|dT<|s0<|aB 0 1 (.agg #[v2]) ao rfl<|bA 0 0 (.agg #[v2]) [v2] [v2] ao rfl rfl (bt (RS.cY U) cp) ?_
 intro db a7
 refine xn 1<|rt<|⟨rfl,?_⟩
 obtain rfl:=si hm
 refine ⟨_,_,_,ResL.cell (v:= .agg #[v2]) (by kernel_rfl) a7 (i:=0) rfl (by kernel_rfl) (tk (V (-1)) (ResL.nil)),(a7.takeN 0),?_⟩
 exact ⟨v2,rfl,rfl,U⟩
 refine cz 3 hm ?_ ?_<;>intro dc hm
 refine xn 15<|dT<|s0<|aB 0 1 (.agg #[v2]) ao rfl<|bA 0 0 (.agg #[v2]) [v2] [v2] ao rfl rfl (bt (RS.cY U) cp) ?_
 intro dd a8
 refine xn 1<|rt<|⟨rfl,?_⟩
 obtain rfl:=si hm
 refine ⟨_,_,_,ResL.cell (v:= .agg #[v2]) (by kernel_rfl) a8 (i:=0) rfl (by kernel_rfl) (tk (V (-1)) (ResL.nil)),(a8.takeN 0),?_⟩
 exact ⟨v2,rfl,rfl,U⟩
 refine cz 4 hm ?_ ?_<;>intro de hm
 refine xn 10<|dT<|s0<|aB 0 1 (.agg #[v2]) ao rfl<|bA 0 0 (.agg #[v2]) [v2] [v2] ao rfl rfl (bt (RS.cY U) cp) ?_
 intro dg a9
 refine xn 1<|rt<|⟨rfl,?_⟩
 obtain rfl:=si hm
 refine ⟨_,_,_,ResL.cell (v:= .agg #[v2]) (by kernel_rfl) a9 (i:=0) rfl (by kernel_rfl) (tk (V (-1)) (ResL.nil)),(a9.takeN 0),?_⟩
 exact ⟨v2,rfl,rfl,U⟩
 refine aB 4 1 v2 ao rfl<|a6 0 hm U ?_
 intro dh hm
 obtain ⟨bT,bU,hm⟩:=ai hm
 obtain ⟨di,bV,bW⟩:=RS.cy U (i:=0) bU
 obtain ⟨dj,dk,rfl⟩:=fw bV
 refine fe 1 2 (V bT.To) (bW _ (ao.b1 (aO.refl _)))<|cz 0 hm ?_ ?_<;>intro dm hm
 refine xn 1<|dT<|s0<|aB 0 1 (.agg #[v2]) ao rfl<|bA 0 0 (.agg #[v2]) [v2] [v2] ao rfl rfl (bt (RS.cY U) cp) ?_
 intro dn ba
 refine xn 1<|rt<|⟨rfl,?_⟩
 obtain rfl:=si hm
 refine ⟨_,_,_,ResL.cell (v:= .agg #[v2]) (by kernel_rfl) ba (i:=0) rfl (by kernel_rfl) (tk (V (-1)) (ResL.nil)),(ba.takeN 0),?_⟩
 exact ⟨v2,rfl,rfl,U⟩
 refine xn 1<|dF<|sk<|s0<|aB 1 1 v2 ao rfl<|a6 1 hm U ?_
 intro dp hm
 obtain ⟨an,bX,hm⟩:=ai hm
 obtain ⟨dq,bY,bZ⟩:=RS.cy U (i:=a1) bX
 obtain ⟨ay,aD,rfl⟩:=fw bY
 refine fe 0 0 (.agg #[V an.Kind,V an.ah,V an.To,V an.Up,ay, .bool an.Key]) (bZ _ (ao.b1 (aO.refl _)))<|df 0 [V 0,V 0,V 0,V 0, .slice none 0 0, .bool false] ao ?_
 intro av dr b0
 refine bA 0 0 (.agg #[V an.Kind,V an.ah,V an.To,V an.Up,ay, .bool an.Key]) [V an.Kind,V an.ah,V an.To,V an.Up,ay, .bool an.Key] (j0 ay an) b0 rfl rfl (bt rfl (bt rfl (bt rfl (bt rfl (bt (RS.cY aD) (bt rfl cp)))))) ?_
 intro ds b2
 refine xn 0<|sq ?_
 obtain ⟨b3,ad,hm⟩:=ai hm
 refine aI [1,2,3,4,5,10] (fun l h=>∃ bb aA aw, .inl ()=b3∧l=[(1,V a1),(2,V aj),(3,V I),(4,V J),(5,Pt aA 0),(10,Pt aw 0)]∧St hs [] Z (0,0) bb h [.ae aA [v2], .ae aw [.slice none 0 0]]) ?_ ?_
 rintro l du ⟨bb,aA,aw,rfl,rfl,aL⟩
 try dsimp only at hm
 refine s0<|aB 0 0 (.agg #[v2]) aL rfl ?_
 obtain ⟨ar,b4,hm⟩:=ai hm
 refine c0 0 aL (vb F aL.ez (U.mono aL.ag) b4) ?_
 rintro _ dv aN _ dw bc ⟨aF,bd,aR,rfl,rfl,bf⟩
 refine xn 1<|s0<|bG 1 aF (bc.j1 (i:=0) rfl (bf).raw)<|xn 1<|sr Ak<|xq 6 [(89, .agg #[V aj,V I,V J,V a1, .slice none 0 0, .bool false]),(84,aF),(14,V (ar.length:Int)),(13,aF),(1,V a1),(4,V J),(10,Pt aw 0)]<|dP rfl trivial (cX (cells:=[V aj,V I,V J,V a1, .slice none 0 0, .bool false]) (s:=6) (by kernel_rfl)) (by kernel_rfl) bc ?_
 intro bg dx b6
 have b7:=b6.ry.front 1 rfl
 have b8:RD (α:=aq) aN [V aj,V I,V J,V a1, .slice none 0 0, .bool false] [(⟨aj,I,J,a1,[],false⟩:aq)] []:=RD.one (show cN.dK _ _ _ from rfl) rfl g8.nil
 have b9:St _ _ _ _ _ _ [.gs bg [V aj,V I,V J,V a1, .slice none 0 0, .bool false] (aa aq), .bD [], .gs aF bd (aa aq), .bD aR, .ae aA [v2], .ae aw [.slice none 0 0]]:=b7
 obtain ⟨dy,hm⟩:=aK hm
 have ca:St _ _ _ _ _ _ [.gs aF bd (aa aq), .bD aR, .gs bg [V aj,V I,V J,V a1, .slice none 0 0, .bool false] (aa aq), .bD [], .ae aA [v2], .ae aw [.slice none 0 0]]:=((((b9.front 1 rfl).front 1 rfl).front 3 rfl).front 3 rfl)
 refine eS rfl trivial (u1 (bS:=64) ca bf b8 rfl rfl (by kernel_rfl) (by omega) (by omega)) ?_
 rintro ab bh dz ⟨bk,bl⟩
 refine xn 1<|sr xT<|xq 4 [(95,V a1),(94,ab),(93,V a1),(92,ab),(13,ab),(14,V (ar.length:Int)),(1,V a1),(4,V J),(10,Pt aw 0)] ?_
 obtain ⟨bm,hm⟩:=aK hm
 refine bN rfl trivial (bF rfl rfl (by kernel_rfl:slTy _ _=some (aa aq)) (bl.mf (i:=0) rfl (bk).raw (by omega)) bm.1 bm.2)<|xq 1 [(97, .pointer (some (bj ab a1 (aa aq) 4))),(93,V a1),(92,ab),(13,ab),(14,V (ar.length:Int)),(1,V a1),(4,V J),(10,Pt aw 0)] ?_
 obtain ⟨aE,bn,hm⟩:=ai hm
 have cb:St _ _ _ _ _ _ [.gs ab bh (aa aq), .bD (aR++[]), .ae aA [v2], .ae aw [.slice none 0 0]]:=((bl.front 1 rfl).front 1 rfl)
 obtain ⟨bo,dA,cc,cd,bu,cf,aT,bw,cg⟩:=cb.wL bk (i:=a1) bn
 obtain rfl:=o6 bu
 replace aT:RCs (α:=Int) aN cc aE.Kids:=aT
 refine bN rfl trivial (bL (w:=bo) cf rfl (by kernel_rfl))<|xq 1 [(99,V (ar.length:Int)),(98,bo),(93,V a1),(92,ab),(13,ab),(14,V (ar.length:Int)),(1,V a1),(4,V J),(10,Pt aw 0)] ?_
 have ch:RCs (α:=Int) aN [V (ar.length:Int)] ([(ar.length:Int)]:List Int):=RCs.cons (cs:=[V (ar.length:Int)]) rfl (RCs.br _)
 refine dP rfl trivial (cX (cells:=[V (ar.length:Int)]) (s:=1) (by kernel_rfl)) (by kernel_rfl) cg ?_
 intro aV dB bx
 obtain ⟨dD,hm⟩:=aK hm
 refine eS rfl trivial (dG (ys:=([(ar.length:Int)]:List Int)) (bS:=8) bx (i:=1) rfl aT ((bx).eA (j:=0) rfl ch) rfl rfl (by kernel_rfl) (by omega) (by omega)) ?_
 rintro bz cj dE ⟨ck,bB⟩
 obtain ⟨bC,hm⟩:=aK hm
 refine bN rfl trivial (bF rfl rfl (by kernel_rfl:slTy _ _=some (aa aq)) (bB.mf (i:=2) rfl (bw).raw (by omega)) bC.1 bC.2)<|xq 1 [(103, .pointer (some (bj ab a1 (aa aq) 4))),(101,bz),(13,ab),(14,V (ar.length:Int)),(1,V a1),(4,V J),(10,Pt aw 0)] ?_
 have cl:St _ _ _ _ _ _ [.gs bz cj (aa Int), .gs ab bh (aa aq), .bD cd, .gs aV [V (ar.length:Int)] (aa Int), .ae aA [v2], .ae aw [.slice none 0 0]]:=(((bB.front 3 rfl).front 3 rfl).front 3 rfl)
 refine zP rfl trivial (zK (z':=(⟨aE.Kind,aE.ah,aE.To,aE.Up,aE.Kids++([(ar.length:Int)]:List Int),aE.Key⟩:aq)) cl bw ck bn rfl rfl (by kernel_rfl) (by kernel_rfl) bu rfl (show cN.dK _ _ _ from rfl) rfl) ?_
 rintro dH cm cn ⟨cq,cr⟩
 refine xn 0<|s0 ?_
 obtain ⟨dI,cu,hm⟩:=ai hm
 have cw:St _ _ _ _ _ _ ([.gs ab cm (aa aq), .bD cn]++[.gs aV [V (ar.length:Int)] (aa Int), .ae aA [v2], .ae aw [.slice none 0 0]]):=((cr.front 1 rfl).front 1 rfl)
 refine cB 3 cw (fun p=>vp F p cq cu) ?_
 rintro _ dJ dL _ dM aX ⟨cx,cA,rfl,rfl,cC⟩
 refine xn 0<|sr xW<|xq 1 [(108,ab),(14,V (ar.length:Int)),(10,Pt aw 0)]<|bN rfl trivial (jr (v:= .agg #[ab]) rfl (CA.cons (cs:=[ab]) (aX.fU (i:=0) rfl) (CA.br)) (by kernel_rfl))<|bA 1 4 (.agg #[ab]) [ab] [ab] aX rfl rfl (bt (aX.fO (i:=0) rfl) cp) ?_
 intro dN cD
 refine xn 1<|rt<|⟨rfl,?_⟩
 have cE:St _ _ _ _ _ _ [.gs ab cx (aa aq), .bD cA, .gs aV [V (ar.length:Int)] (aa Int), .ae aA [v2], .ae aw [ab]]:=((cD.front 1 rfl).front 1 rfl)
 obtain ⟨dO,dQ,cF,cG⟩:=cE.shallow cC
 obtain ⟨dR,dS,cH,bE⟩:=(cG.front 0 rfl).freeze cF
 obtain rfl:=si hm
 refine ⟨_,_,_,ResL.cell (v:= .agg #[ab]) (by kernel_rfl) bE (i:=2) rfl (by kernel_rfl) (tk (V (ar.length:Int)) (ResL.nil)),(bE.takeN 0),?_⟩
 exact ⟨ab,rfl,rfl,cH⟩
 refine cU Bv b2 ?_
 intro aH dU aJ az
 refine yq 2 [(53,Pt av 1),(52,V I),(12,Pt av 0),(10,Pt ax 0),(5,Pt au 0),(1,V a1),(2,V aj),(3,V I),(4,V J)] ?_
 have dV:av<aH:=aJ.1 _ (List.mem_of_getElem? (i:=0) rfl) _ (by simp [Itm.ids])
 refine aW (v:=V an.ah) rfl trivial rfl (by show av<_;omega) (aC (v:=V an.ah) trivial) (az.aU (i:=0) rfl (by kernel_rfl)) trivial ?_
 rcases ifs ad with ⟨aY,ad⟩ | ⟨aY,ad⟩
 refine aG rfl trivial (bp rfl rfl (mS aY))<|ye 23 [(78, .bool true),(10,Pt ax 0),(5,Pt au 0),(1,V a1),(2,V aj),(3,V I),(4,V J)] ?_
 have bH:=az.a5
 refine dT<|s0<|aB 0 2 (.agg #[v2]) bH rfl<|bA 0 1 (.agg #[v2]) [v2] [v2] bH rfl rfl (bt (RS.cY U) cp) ?_
 intro dW bI
 refine xn 1<|rt<|⟨rfl,?_⟩
 obtain rfl:=si ad
 obtain rfl:=si hm
 refine ⟨_,_,_,ResL.cell (v:= .agg #[v2]) (by kernel_rfl) bI (i:=1) rfl (by kernel_rfl) (tk (V (-1)) (ResL.nil)),(bI.takeN 0),?_⟩
 exact ⟨v2,rfl,rfl,U⟩
 refine aG rfl trivial (bp rfl rfl (od aY))<|yq 2 [(57,Pt av 4),(56, .bool false),(12,Pt av 0),(10,Pt ax 0),(5,Pt au 0),(1,V a1),(2,V aj),(3,V I),(4,V J)] ?_
 have dX:av<aH:=aJ.1 _ (List.mem_of_getElem? (i:=0) rfl) _ (by simp [Itm.ids])
 refine aW (v:=ay) rfl rfl rfl (by show av<_;omega) (aC (v:=ay) (RS.dZ aD)) (az.aU (i:=0) rfl (by kernel_rfl)) trivial<|aG rfl rfl (gO rfl (RS.len aD) ⟨_,Try.underlying23⟩) ?_
 rcases ifs ad with ⟨aZ,ad⟩ | ⟨aZ,ad⟩
 refine aG rfl rfl (bp rfl rfl (lM aZ))<|yq 3 [(63,Pt au 0),(62,V I),(61, .bool true),(56, .bool false),(12,Pt av 0),(10,Pt ax 0),(5,Pt au 0),(1,V a1),(2,V aj),(3,V I),(4,V J)] ?_
 have dY:au<aH:=aJ.1 _ (List.mem_of_getElem? (i:=2) rfl) _ (by simp [Itm.ids])
 refine aW (v:=v2) rfl rfl rfl (by show au<_;omega) (aC (v:=v2) (RS.dZ U)) (az.aU (i:=2) rfl (by kernel_rfl)) trivial<|yq 1 [(65,Pt av 4),(64,v2),(62,V I),(61, .bool true),(56, .bool false),(12,Pt av 0),(10,Pt ax 0),(5,Pt au 0),(1,V a1),(2,V aj),(3,V I),(4,V J)] ?_
 have ea:av<aH:=aJ.1 _ (List.mem_of_getElem? (i:=0) rfl) _ (by simp [Itm.ids])
 refine aW (v:=ay) rfl rfl rfl (by show av<_;omega) (aC (v:=ay) (RS.dZ aD)) (az.aU (i:=0) rfl (by kernel_rfl)) trivial<|yq 1 [(67,Pt av 4),(66,ay),(64,v2),(62,V I),(61, .bool true),(56, .bool false),(10,Pt ax 0),(5,Pt au 0),(1,V a1),(2,V aj),(3,V I),(4,V J)] ?_
 have eb:av<aH:=aJ.1 _ (List.mem_of_getElem? (i:=0) rfl) _ (by simp [Itm.ids])
 refine aW (v:=ay) rfl rfl rfl (by show av<_;omega) (aC (v:=ay) (RS.dZ aD)) (az.aU (i:=0) rfl (by kernel_rfl)) trivial<|aG rfl rfl (gO rfl (RS.len aD) ⟨_,Try.underlying23⟩)<|yq 1 [(70,V (af ((an.Kids.length:Int) - 1))),(66,ay),(64,v2),(62,V I),(61, .bool true),(56, .bool false),(10,Pt ax 0),(5,Pt au 0),(1,V a1),(2,V aj),(3,V I),(4,V J)] ?_
 obtain ⟨bJ,ad⟩:=aK ad
 refine aG rfl rfl (bF rfl rfl (by kernel_rfl:slTy _ _=some (aa Int)) (RS.c8 aD (by omega)) bJ.1 bJ.2) ?_
 obtain ⟨aM,cI,ad⟩:=ai ad
 obtain ⟨ec,cJ,cK⟩:=RS.cy aD (i:=af ((an.Kids.length:Int) - 1)) cI
 obtain rfl:=iN cJ
 refine cM rfl rfl rfl (fun h2 hz=>bL (w:=V aM) (cK h2 hz) rfl (by kernel_rfl)) (az.b1 (aO.refl _)) (aC (v:=V aM) trivial) trivial ?_
 obtain ⟨bK,ad⟩:=aK ad
 refine aG rfl rfl (bF rfl rfl (by kernel_rfl:slTy _ _=some (aa aq)) (RS.c8 U (by omega)) bK.1 bK.2)<|yq 1 [(74, .pointer (some (bj v2 aM (aa aq) 2))),(62,V I),(61, .bool true),(56, .bool false),(10,Pt ax 0),(5,Pt au 0),(1,V a1),(2,V aj),(3,V I),(4,V J)] ?_
 obtain ⟨bM,cL,ad⟩:=ai ad
 obtain ⟨ed,cP,cQ⟩:=RS.cy U (i:=aM) cL
 obtain ⟨ee,eg,rfl⟩:=fw cP
 refine cM rfl rfl rfl (fun h2 hz=>bL (w:=V bM.To) (cQ h2 hz) rfl (by kernel_rfl)) (az.b1 (aO.refl _)) (aC (v:=V bM.To) trivial) trivial ?_
 rcases ifs ad with ⟨a2,ad⟩ | ⟨a2,ad⟩
 refine aG rfl rfl (bp rfl rfl (mS a2))<|ye 2 [(78, .bool true),(10,Pt ax 0),(5,Pt au 0),(1,V a1),(2,V aj),(3,V I),(4,V J)] ?_
 have bO:=az.a5
 refine dT<|s0<|aB 0 2 (.agg #[v2]) bO rfl<|bA 0 1 (.agg #[v2]) [v2] [v2] bO rfl rfl (bt (RS.cY U) cp) ?_
 intro eh bP
 refine xn 1<|rt<|⟨rfl,?_⟩
 obtain rfl:=si ad
 obtain rfl:=si hm
 refine ⟨_,_,_,ResL.cell (v:= .agg #[v2]) (by kernel_rfl) bP (i:=1) rfl (by kernel_rfl) (tk (V (-1)) (ResL.nil)),(bP.takeN 0),?_⟩
 exact ⟨v2,rfl,rfl,U⟩
 refine aG rfl rfl (bp rfl rfl (od a2))<|ye 2 [(78, .bool false),(10,Pt ax 0),(5,Pt au 0),(1,V a1),(2,V aj),(3,V I),(4,V J)] ?_
 have cR:=az.a5
 refine dF<|sk ?_
 obtain rfl:=si ad
 exact ⟨_,au,ax,rfl,(by kernel_rfl),(((cR.front 1 rfl).front 2 rfl).takeN 2)⟩
 refine aG rfl rfl (bp rfl rfl (lK aZ))<|ye 18 [(78, .bool false),(10,Pt ax 0),(5,Pt au 0),(1,V a1),(2,V aj),(3,V I),(4,V J)] ?_
 have cS:=az.a5
 refine dF<|sk ?_
 obtain rfl:=si ad
 exact ⟨_,au,ax,rfl,(by kernel_rfl),(((cS.front 1 rfl).front 2 rfl).takeN 2)⟩
def Bd:List aQ:=[u 3 (.box 27 (t 0)),u 6 (.alloc 27)]
def A2:List aQ:=[u 33 (mv 7),u 34 (.build 27 #[(0,(t 33))]),o (.store 27 (t 6) (t 34))]
def ij (F:Nat) (a0:cT) (a1:Int) (j:Int):Option cT:=
 if a1<(0:Int) then
  some a0
 else
  if (a0.al.length:Int)≤a1 then
   some a0
  else
   if 0≤(0:Int)∧(0:Int)<(a0.al.length:Int) then
    (a0.al[(0:Int).toNat]?).bind fun I=>
    if I.To<j then
     some a0
    else
     (lC F a0).bind fun J=>
     (lV F J a1 j).bind fun U=>
     some (⟨U⟩:cT)
   else none
theorem r4 (F:Nat) {h:AH} {Z:Zn} {a0:cT} {a1:Int} {ad:Int} {v2} (hP:Pre Z h []) (J:RS (α:=aq) Z v2 a0.al) {r:cT} (hm:ij F a0 a1 ad=some r):
  bQ Try.prog 69 [.agg #[v2],V a1,V ad] h Z [] fun v Z' A'=>∃ v4, .agg #[v4]=v∧A'=[]∧RS (α:=aq) Z' v4 r.al:=by
 refine b5 Try.func69 hP ?_
 intro hs hS
 unfold ij at hm
 replace hS:St hs [] Z (0,0) Z hs []:=hS
 refine sr Bd<|gN rfl trivial (gE (cs:=[v2]) rfl rfl) hS ?_
 intro af aN ao
 refine df 0 [.slice none 0 0] ao ?_
 intro U aR j
 refine xn 0<|sq<|s0<|aP 1 hm ?_ ?_<;>intro aT hm
 refine xn 16<|dT<|s0<|aB 0 1 (.agg #[v2]) j rfl<|bA 0 0 (.agg #[v2]) [v2] [v2] j rfl rfl (bt (RS.cY J) cp) ?_
 intro aU ag
 refine xn 0<|rt<|⟨rfl,?_⟩
 obtain rfl:=si hm
 refine ⟨_,_,_,ResL.cell (v:= .agg #[v2]) (by kernel_rfl) ag (i:=0) rfl (by kernel_rfl) (ResL.nil),(ag.takeN 0),?_⟩
 exact ⟨v2,rfl,rfl,J⟩
 refine aB 3 1 v2 j rfl<|bG 0 v2 (RS.len J)<|ct 0 hm ?_ ?_<;>intro aV hm
 refine xn 10<|dT<|s0<|aB 0 1 (.agg #[v2]) j rfl<|bA 0 0 (.agg #[v2]) [v2] [v2] j rfl rfl (bt (RS.cY J) cp) ?_
 intro aW ah
 refine xn 0<|rt<|⟨rfl,?_⟩
 obtain rfl:=si hm
 refine ⟨_,_,_,ResL.cell (v:= .agg #[v2]) (by kernel_rfl) ah (i:=0) rfl (by kernel_rfl) (ResL.nil),(ah.takeN 0),?_⟩
 exact ⟨v2,rfl,rfl,J⟩
 refine aB 4 1 v2 j rfl<|a6 0 hm J ?_
 intro aX hm
 obtain ⟨ar,au,hm⟩:=ai hm
 obtain ⟨aY,av,aw⟩:=RS.cy J (i:=0) au
 obtain ⟨aZ,a2,rfl⟩:=fw av
 refine fe 1 2 (V ar.To) (aw _ (j.b1 (aO.refl _)))<|cz 0 hm ?_ ?_<;>intro a3 hm
 refine xn 1<|dT<|s0<|aB 0 1 (.agg #[v2]) j rfl<|bA 0 0 (.agg #[v2]) [v2] [v2] j rfl rfl (bt (RS.cY J) cp) ?_
 intro a4 aj
 refine xn 0<|rt<|⟨rfl,?_⟩
 obtain rfl:=si hm
 refine ⟨_,_,_,ResL.cell (v:= .agg #[v2]) (by kernel_rfl) aj (i:=0) rfl (by kernel_rfl) (ResL.nil),(aj.takeN 0),?_⟩
 exact ⟨v2,rfl,rfl,J⟩
 refine xn 1<|dF<|sk<|s0<|aB 0 1 (.agg #[v2]) j rfl ?_
 obtain ⟨a5,ax,hm⟩:=ai hm
 refine c0 0 j (vb F j.ez J ax) ?_
 rintro _ a7 a8 _ a9 ay ⟨I,az,aA,rfl,rfl,aC⟩
 refine xn 1<|s0 ?_
 obtain ⟨ba,aD,hm⟩:=ai hm
 have aE:St _ _ _ _ _ _ ([.gs I az (aa aq), .bD aA]++[.ae U [.slice none 0 0], .ae af [v2]]):=((ay.front 1 rfl).front 1 rfl)
 refine cB 3 aE (fun p=>vp F p aC aD) ?_
 rintro _ bb bc _ bd ab ⟨aF,aG,rfl,rfl,aH⟩
 refine xn 0<|sr A2<|xq 1 [(33,I),(6,Pt U 0)]<|bN rfl trivial (jr (v:= .agg #[I]) rfl (CA.cons (cs:=[I]) (ab.fU (i:=0) rfl) (CA.br)) (by kernel_rfl))<|bA 0 2 (.agg #[I]) [I] [I] ab rfl rfl (bt (ab.fO (i:=0) rfl) cp) ?_
 intro bf aI
 refine xn 0<|rt<|⟨rfl,?_⟩
 have aJ:St _ _ _ _ _ _ [.gs I aF (aa aq), .bD aG, .ae U [I], .ae af [v2]]:=((aI.front 1 rfl).front 1 rfl)
 obtain ⟨bg,bh,aK,aL⟩:=aJ.shallow aH
 obtain ⟨bj,bk,aM,an⟩:=(aL.front 0 rfl).freeze aK
 obtain rfl:=si hm
 refine ⟨_,_,_,ResL.cell (v:= .agg #[I]) (by kernel_rfl) an (i:=0) rfl (by kernel_rfl) (ResL.nil),(an.takeN 0),?_⟩
 exact ⟨I,rfl,rfl,aM⟩
end Go.Proofs.Ytcilejikekccmaa.M
