/- Packed by a program of this session (mini.py). -/
import Derived.Test.YtcilejikekccmaaGreatWa1
set_option linter.unusedVariables false
set_option linter.unusedSimpArgs false
set_option maxRecDepth 20000
namespace Go.Proofs.YtcilejikekccmaaGreat.M
section
open Go Am Sy
open Sy.Cell (rc)
structure al where
 Kind:Int
 ah:Int
 To:Int
 deriving DecidableEq,Inhabited
instance:Cell al where
 size:=3
 rc Z cs x:=cs=[V x.Kind,V x.ah,V x.To]
 len h:=by rw [h];rfl
 mono _ h:=h
 one h:=by rw [h];rfl
 pos:=by decide
theorem eH {Z:Zn} {cs:List Value} {x:al} (h:rc Z cs x):cs=[V x.Kind,V x.ah,V x.To]:=h
abbrev yA (x:al):List Value:=[V x.Kind,V x.ah,V x.To]
instance:FC al:=⟨yA,fun q=>q⟩
structure aL where
 B:List UInt8
 At:Int
 Row:Int
 Open:Int
 cj:Int
 cH:Bool
 Text:Int
 L:List al
 deriving DecidableEq,Inhabited
instance:Cell aL where
 size:=8
 rc Z cs x:=∃ v0,RS (α:=UInt8) Z v0 x.B∧∃ j,RS (α:=al) Z j x.L∧cs=[v0,V x.At,V x.Row,V x.Open,V x.cj, .bool x.cH,V x.Text,j]
 len h:=by obtain ⟨v0,I,j,J,h⟩:=h;rw [h];rfl
 mono hz h:=by obtain ⟨v0,I,j,J,h⟩:=h;exact ⟨v0,I.mono hz,j,J.mono hz,h⟩
 one h:=by obtain ⟨v0,I,j,J,h⟩:=h;subst h;exact (bz I.di (bz rfl (bz rfl (bz rfl (bz rfl (bz rfl (bz rfl (bz J.di cz))))))))
 pos:=by decide
abbrev bu (v0 v1:Value) (x:aL):List Value:=[v0,V x.At,V x.Row,V x.Open,V x.cj, .bool x.cH,V x.Text,v1]
def oT (F:Nat) (a0:aL):Option aL:=
 some (⟨a0.B,a0.At,a0.At,a0.Open,(-1),true,a0.Text,a0.L⟩:aL)
theorem rA (F:Nat) {h:AH} {Z:Zn} {a0:aL} {J I j U} (hP:Pre Z h [.ae J (bu I j a0), .gs j U (aa al)]) (af:RS (α:=UInt8) Z I a0.B) (ag:RCs (α:=al) Z U a0.L) {r:aL} (hm:oT F a0=some r):
  bS Tryz.prog 39 [Pt J 0] h Z [.ae J (bu I j a0), .gs j U (aa al)] fun v Z' A'=>∃ ab ad, .tuple #[]=v∧A'=[.ae J (bu ab j r), .gs j ad (aa al)]∧RS (α:=UInt8) Z' ab r.B∧RCs (α:=al) Z' ad r.L:=by
 refine b3 Tryz.func39 hP ?_
 intro hs hS
 unfold oT at hm
 refine g0<|aD 6 0 (V a0.At) hS rfl<|bG 2 0 (V a0.At) [V a0.At] [I,V a0.At,V a0.At,V a0.Open,V a0.cj, .bool a0.cH,V a0.Text,j] hS rfl rfl rfl ?_
 intro ak ah
 refine bG 2 0 (V (-1)) [V (-1)] [I,V a0.At,V a0.At,V a0.Open,V (-1), .bool a0.cH,V a0.Text,j] ah rfl rfl rfl ?_
 intro an ai
 refine bG 2 0 (.bool true) [.bool true] [I,V a0.At,V a0.At,V a0.Open,V (-1), .bool true,V a0.Text,j] ai rfl rfl rfl ?_
 intro ao aj
 refine xn 0 ?_
 obtain rfl:=si hm
 refine ⟨_,_,_,ResL.nil,aj,?_⟩
 exact ⟨I,U,rfl,rfl,af,ag⟩
def iN (F:Nat) (a0:aL) (a1:Int):Option Int:=
 if a1<(0:Int) then
  some 0
 else
  if (a0.B.length:Int)≤a1 then
   some 0
  else
   if 0≤a1∧a1<(a0.B.length:Int) then
    (a0.B[a1.toNat]?).bind fun j=>
    some (j.toNat:Int)
   else none
theorem nj (F:Nat) {h:AH} {Z:Zn} {a0:aL} {a1:Int} {U j aa} (hI:Inv Z h) (I:RS (α:=UInt8) Z j a0.B) (ad:RS (α:=al) Z aa a0.L) (ab:Z U=some (bu j aa a0)) {r:Int} (hm:iN F a0 a1=some r):
  bY Tryz.prog 57 [Pt U 0,V a1] h Z (.int .u8 (r.toNat:Int)):=by
 refine b1 Tryz.func57 hI ?_
 intro hs hS
 unfold iN at hm
 refine sp 1<|sq<|s0<|aT 1 hm ?_ ?_<;>intro ae hm
 refine xn 9<|dT<|sp 1<|rt<|⟨rfl,?_⟩
 obtain rfl:=si hm
 refine ⟨_,_,_,tk (.int .u8 0) (ResL.nil),hS,?_⟩
 exact rfl
 refine bF 5 j hS ab<|bC 0 j (RS.len I)<|cS 0 hm ?_ ?_<;>intro af hm
 refine xn 1<|dT<|sp 1<|rt<|⟨rfl,?_⟩
 obtain rfl:=si hm
 refine ⟨_,_,_,tk (.int .u8 0) (ResL.nil),hS,?_⟩
 exact rfl
 refine xn 1<|dF<|sk<|s0<|bF 3 j hS ab<|a8 1 hm I ?_
 intro ag hm
 refine bt 0 0 (fun J=> .int .u8 (J.toNat:Int)) hm I hS ?_
 intro J ah hm
 refine xn 1<|rt<|⟨rfl,?_⟩
 obtain rfl:=si hm
 refine ⟨_,_,_,tk (.int .u8 (J.toNat:Int)) (ResL.nil),hS,?_⟩
 exact rfl
def gI (F:Nat) (a0:Int):Option Bool:=
 if a0=(32:Int) then
  some true
 else
  if a0=(9:Int) then
   some true
  else
   some false
theorem k2 (F:Nat) {h:AH} {Z:Zn} {a0:Int} (hI:Inv Z h) {r:Bool} (hm:gI F a0=some r):
  bY Tryz.prog 61 [.int .u8 a0] h Z (.bool r):=by
 refine b1 Tryz.func61 hI ?_
 intro hs hS
 unfold gI at hm
 refine sp 1<|s0<|aK 1 hm ?_ ?_ (kd:= .u8)<;>intro j hm
 refine xn 5<|rt<|⟨rfl,?_⟩
 obtain rfl:=si hm
 refine ⟨_,_,_,tk (.bool true) (ResL.nil),hS,?_⟩
 exact rfl
 refine aK 2 hm ?_ ?_ (kd:= .u8)<;>intro I hm
 refine xn 2<|rt<|⟨rfl,?_⟩
 obtain rfl:=si hm
 refine ⟨_,_,_,tk (.bool true) (ResL.nil),hS,?_⟩
 exact rfl
 refine xn 2<|rt<|⟨rfl,?_⟩
 obtain rfl:=si hm
 refine ⟨_,_,_,tk (.bool false) (ResL.nil),hS,?_⟩
 exact rfl
def correctorref2_Break (F:Nat) (a0:List UInt8) (a1:Int):Option Int:=
 if (a0.length:Int)≤a1 then
  some 0
 else
  ((if 0≤a1∧a1<(a0.length:Int) then
    (a0[a1.toNat]?).bind fun j=>
    if (j.toNat:Int)=(13:Int) then
     if (af (a1+1))<(a0.length:Int) then
      if 0≤(af (a1+1))∧(af (a1+1))<(a0.length:Int) then
       (a0[(af (a1+1)).toNat]?).bind fun I=>
       if (I.toNat:Int)=(10:Int) then
        some (.inr 2)
       else
        some (.inl ())
      else none
     else
      some (.inl ())
    else
     some (.inl ())
   else none):Option (Sum Unit Int)).bind fun o=>match o with
   | .inl ()=>if 0≤a1∧a1<(a0.length:Int) then
    (a0[a1.toNat]?).bind fun J=>
    if (J.toNat:Int)=(13:Int) then
     some 1
    else
     if 0≤a1∧a1<(a0.length:Int) then
      (a0[a1.toNat]?).bind fun U=>
      if (U.toNat:Int)=(10:Int) then
       some 1
      else
       some 0
     else none
   else none
   | .inr y=>some y
theorem lN (F:Nat) {h:AH} {Z:Zn} {a0:List UInt8} {a1:Int} {v2} (hI:Inv Z h) (I:RS (α:=UInt8) Z v2 a0) {r:Int} (hm:correctorref2_Break F a0 a1=some r):
  bY Tryz.prog 59 [v2,V a1] h Z (V r):=by
 refine b1 Tryz.func59 hI ?_
 intro hs hS
 unfold correctorref2_Break at hm
 refine sp 1<|sq<|s0<|bC 2 v2 (RS.len I)<|cS 0 hm ?_ ?_<;>intro ah hm
 refine xn 0<|dT<|sp 1<|rt<|⟨rfl,?_⟩
 obtain rfl:=si hm
 refine ⟨_,_,_,tk (V 0) (ResL.nil),hS,?_⟩
 exact rfl
 refine xn 0<|dF<|sk<|sq ?_
 obtain ⟨af,j,hm⟩:=ai hm
 refine aJ [0,1] (fun l h=>∃ U, .inl ()=af∧l=[(0,v2),(1,V a1)]∧St hs [] Z (0,0) U h []) ?_ ?_
 rintro l aj ⟨U,rfl,rfl,J⟩
 try dsimp only at hm
 refine sq<|s0<|a8 2 hm (I.mono J.ag) ?_
 intro ak hm
 refine bt 0 0 (fun aa=> .int .u8 (aa.toNat:Int)) hm (I.mono J.ag) J ?_
 intro aa an hm
 refine aK 0 hm ?_ ?_ (kd:= .u8)<;>intro ao hm
 refine xn 7<|dT<|sp 1<|rt<|⟨rfl,?_⟩
 obtain rfl:=si hm
 refine ⟨_,_,_,tk (V 1) (ResL.nil),J,?_⟩
 exact rfl
 refine a8 3 hm (I.mono J.ag) ?_
 intro aq hm
 refine bt 0 0 (fun ab=> .int .u8 (ab.toNat:Int)) hm (I.mono J.ag) J ?_
 intro ab ar hm
 refine aK 0 hm ?_ ?_ (kd:= .u8)<;>intro au hm
 refine xn 1<|dT<|sp 1<|rt<|⟨rfl,?_⟩
 obtain rfl:=si hm
 refine ⟨_,_,_,tk (V 1) (ResL.nil),J,?_⟩
 exact rfl
 refine xn 1<|dF<|sk<|sp 1<|rt<|⟨rfl,?_⟩
 obtain rfl:=si hm
 refine ⟨_,_,_,tk (V 0) (ResL.nil),J,?_⟩
 exact rfl
 refine s0<|a8 2 j I ?_
 intro av j
 refine bt 0 0 (fun ad=> .int .u8 (ad.toNat:Int)) j I hS ?_
 intro ad aw j
 refine aK 0 j ?_ ?_ (kd:= .u8)<;>intro ax j
 refine bC 4 v2 (RS.len I)<|aT 0 j ?_ ?_<;>intro ay j
 refine a8 5 j I ?_
 intro az j
 refine bt 0 0 (fun ae=> .int .u8 (ae.toNat:Int)) j I hS ?_
 intro ae aA j
 refine aK 0 j ?_ ?_ (kd:= .u8)<;>intro aB j
 refine xn 1<|dT<|sp 1<|rt<|⟨rfl,?_⟩
 obtain rfl:=si j
 obtain rfl:=si hm
 refine ⟨_,_,_,tk (V 2) (ResL.nil),hS,?_⟩
 exact rfl
 refine xn 1<|dF<|sk ?_
 obtain rfl:=si j
 exact ⟨_,rfl,(by kernel_rfl),hS⟩
 refine xn 9<|dF<|sk ?_
 obtain rfl:=si j
 exact ⟨_,rfl,(by kernel_rfl),hS⟩
 refine xn 15<|dF<|sk ?_
 obtain rfl:=si j
 exact ⟨_,rfl,(by kernel_rfl),hS⟩
def k4 (F:Nat) (a0:aL) (a1:Int):Option Bool:=
 if (a0.B.length:Int)≤a1 then
  some true
 else
  if 0≤a1∧a1<(a0.B.length:Int) then
   (a0.B[a1.toNat]?).bind fun j=>
   (gI F (j.toNat:Int)).bind fun I=>
   if I=true then
    some true
   else
    (correctorref2_Break F a0.B a1).bind fun J=>
    if (0:Int)<J then
     some true
    else
     some false
  else none
theorem rP (F:Nat) {h:AH} {Z:Zn} {a0:aL} {a1:Int} {aa j ab} (hI:Inv Z h) (I:RS (α:=UInt8) Z j a0.B) (ah:RS (α:=al) Z ab a0.L) (U:Z aa=some (bu j ab a0)) {r:Bool} (hm:k4 F a0 a1=some r):
  bY Tryz.prog 58 [Pt aa 0,V a1] h Z (.bool r):=by
 refine b1 Tryz.func58 hI ?_
 intro hs hS
 unfold k4 at hm
 refine sp 1<|s0<|bF 4 j hS U<|bC 0 j (RS.len I)<|cS 0 hm ?_ ?_<;>intro aj hm
 refine xn 20<|rt<|⟨rfl,?_⟩
 obtain rfl:=si hm
 refine ⟨_,_,_,tk (.bool true) (ResL.nil),hS,?_⟩
 exact rfl
 refine bF 4 j hS U<|a8 1 hm I ?_
 intro ak hm
 refine bt 0 0 (fun ad=> .int .u8 (ad.toNat:Int)) hm I hS ?_
 intro ad an hm
 obtain ⟨ao,af,hm⟩:=ai hm
 refine cP 0 hS (k2 F hS.inv af) ?_
 rintro _ aq J rfl
 refine kb 2 22 hm ?_ ?_<;>intro ar hm
 refine xn 9<|rt<|⟨rfl,?_⟩
 obtain rfl:=si hm
 refine ⟨_,_,_,tk (.bool true) (ResL.nil),J,?_⟩
 exact rfl
 refine bF 3 j J U ?_
 obtain ⟨au,ag,hm⟩:=ai hm
 refine cP 1 J (lN F J.inv I ag) ?_
 rintro _ av ae rfl
 refine cZ 0 hm ?_ ?_<;>intro aw hm
 refine xn 2<|rt<|⟨rfl,?_⟩
 obtain rfl:=si hm
 refine ⟨_,_,_,tk (.bool true) (ResL.nil),ae,?_⟩
 exact rfl
 refine xn 2<|rt<|⟨rfl,?_⟩
 obtain rfl:=si hm
 refine ⟨_,_,_,tk (.bool false) (ResL.nil),ae,?_⟩
 exact rfl
def mm (F:Nat) (a0:aL) (a1:Int):Option Int:=
 (iN F a0 a1).bind fun j=>
 if (a0.B.length:Int)<(af (a1+3)) then
  some 0
 else
  if 0≤(af (a1+1))∧(af (a1+1))<(a0.B.length:Int) then
   (a0.B[(af (a1+1)).toNat]?).bind fun I=>
   if (I.toNat:Int)=(j.toNat:Int) then
    if 0≤(af (a1+2))∧(af (a1+2))<(a0.B.length:Int) then
     (a0.B[(af (a1+2)).toNat]?).bind fun J=>
     if (J.toNat:Int)=(j.toNat:Int) then
      (k4 F a0 (af (a1+3))).bind fun U=>
      if U=true then
       if (j.toNat:Int)=(45:Int) then
        some 20
       else
        if (j.toNat:Int)=(46:Int) then
         some 21
        else
         some 0
      else
       some 0
     else
      some 0
    else none
   else
    some 0
  else none
theorem uM (F:Nat) {h:AH} {Z:Zn} {a0:aL} {a1:Int} {ab J ad} (hI:Inv Z h) (I:RS (α:=UInt8) Z J a0.B) (ae:RS (α:=al) Z ad a0.L) (U:Z ab=some (bu J ad a0)) {r:Int} (hm:mm F a0 a1=some r):
  bY Tryz.prog 40 [Pt ab 0,V a1] h Z (V r):=by
 refine b1 Tryz.func40 hI ?_
 intro hs hS
 unfold mm at hm
 refine sp 1<|s0 ?_
 obtain ⟨ak,ah,hm⟩:=ai hm
 refine cP 2 hS (nj F hS.inv I ae U ah) ?_
 rintro _ an j rfl
 refine xn 1<|sq<|s0<|bF 5 J j U<|bC 0 J (RS.len I)<|cZ 0 hm ?_ ?_<;>intro ao hm
 refine xn 31<|dT<|sp 1<|rt<|⟨rfl,?_⟩
 obtain rfl:=si hm
 refine ⟨_,_,_,tk (V 0) (ResL.nil),j,?_⟩
 exact rfl
 refine bF 4 J j U<|a8 2 hm I ?_
 intro aq hm
 refine bt 0 0 (fun af=> .int .u8 (af.toNat:Int)) hm I j ?_
 intro af ar hm
 refine dv 1 hm ?_ ?_ (kd:= .u8)<;>intro au hm
 refine bF 5 J j U<|a8 2 hm I ?_
 intro av hm
 refine bt 0 0 (fun ag=> .int .u8 (ag.toNat:Int)) hm I j ?_
 intro ag aw hm
 refine dv 1 hm ?_ ?_ (kd:= .u8)<;>intro ax hm
 obtain ⟨ay,aj,hm⟩:=ai hm
 refine cP 5 j (rP F j.inv I ae U aj) ?_
 rintro _ az aa rfl
 refine kb 0 45 hm ?_ ?_<;>intro aA hm
 refine xn 2<|dF<|sk<|sq<|s0<|aK 1 hm ?_ ?_ (kd:= .u8)<;>intro aB hm
 refine xn 0<|dT<|sp 1<|rt<|⟨rfl,?_⟩
 obtain rfl:=si hm
 refine ⟨_,_,_,tk (V 20) (ResL.nil),aa,?_⟩
 exact rfl
 refine xn 0<|dF<|sk<|sq<|s0<|aK 1 hm ?_ ?_ (kd:= .u8)<;>intro aC hm
 refine xn 0<|dT<|sp 1<|rt<|⟨rfl,?_⟩
 obtain rfl:=si hm
 refine ⟨_,_,_,tk (V 21) (ResL.nil),aa,?_⟩
 exact rfl
 refine xn 0<|dF<|sk<|sp 1<|rt<|⟨rfl,?_⟩
 obtain rfl:=si hm
 refine ⟨_,_,_,tk (V 0) (ResL.nil),aa,?_⟩
 exact rfl
 refine xn 2<|dT<|sp 1<|rt<|⟨rfl,?_⟩
 obtain rfl:=si hm
 refine ⟨_,_,_,tk (V 0) (ResL.nil),aa,?_⟩
 exact rfl
 refine xn 8<|dT<|sp 1<|rt<|⟨rfl,?_⟩
 obtain rfl:=si hm
 refine ⟨_,_,_,tk (V 0) (ResL.nil),j,?_⟩
 exact rfl
 refine xn 20<|dT<|sp 1<|rt<|⟨rfl,?_⟩
 obtain rfl:=si hm
 refine ⟨_,_,_,tk (V 0) (ResL.nil),j,?_⟩
 exact rfl
def fH (F:Nat) (a0:Int):Option Bool:=
 if a0=(1:Int) then
  some false
 else
  if a0=(2:Int) then
   some false
  else
   if a0=(3:Int) then
    some false
   else
    if a0=(4:Int) then
     some false
    else
     some true
theorem iW (F:Nat) {h:AH} {Z:Zn} {a0:Int} (hI:Inv Z h) {r:Bool} (hm:fH F a0=some r):
  bY Tryz.prog 45 [V a0] h Z (.bool r):=by
 refine b1 Tryz.func45 hI ?_
 intro hs hS
 unfold fH at hm
 refine sp 1<|s0<|dv 1 hm ?_ ?_<;>intro j hm
 refine xn 13<|rt<|⟨rfl,?_⟩
 obtain rfl:=si hm
 refine ⟨_,_,_,tk (.bool false) (ResL.nil),hS,?_⟩
 exact rfl
 refine dv 2 hm ?_ ?_<;>intro I hm
 refine xn 10<|rt<|⟨rfl,?_⟩
 obtain rfl:=si hm
 refine ⟨_,_,_,tk (.bool false) (ResL.nil),hS,?_⟩
 exact rfl
 refine dv 3 hm ?_ ?_<;>intro J hm
 refine xn 6<|rt<|⟨rfl,?_⟩
 obtain rfl:=si hm
 refine ⟨_,_,_,tk (.bool false) (ResL.nil),hS,?_⟩
 exact rfl
 refine dv 3 hm ?_ ?_<;>intro U hm
 refine xn 2<|rt<|⟨rfl,?_⟩
 obtain rfl:=si hm
 refine ⟨_,_,_,tk (.bool false) (ResL.nil),hS,?_⟩
 exact rfl
 refine xn 2<|rt<|⟨rfl,?_⟩
 obtain rfl:=si hm
 refine ⟨_,_,_,tk (.bool true) (ResL.nil),hS,?_⟩
 exact rfl
def zj:List br:=[uP 19 (mv 0),uP 20 (mv 0),uP 21 (nk 20),uP 22 (fa 85 21 1),uL 23 (ld 3 22),uP 24 (mv 0),uP 25 (nk 24),uP 26 (fa 85 25 2),uL 27 (ld 3 26),uP 28 (bo .sub 3 23 27 3),uP 29 (nk 19),uP 30 (fa 85 29 4),oF (.store 3 (t 30) (t 28)) .make [4,8]]
def DF:List br:=[uP 48 (mv 0),uP 49 (mv 0),uP 50 (nk 49),uP 51 (fa 85 50 7),uL 52 (ld 28 51),uP 53 (mv 1),uP 54 (mv 0),uP 55 (nk 54),uP 56 (fa 85 55 1),uL 57 (ld 3 56),uP 58 (mv 2),uP 59 (.build 76 #[(0,(t 53)),(1,(t 57)),(2,(t 58))]),uF 60 (.buildSlice 28 1 #[(0,(t 59))]) .fresh [],uF 61 (cb .append #[(t 52),(t 60)] #[28,28]) .make [4,9],uP 62 (nk 48),uP 63 (fa 85 62 7),oF (.store 28 (t 63) (t 61)) .make [4,9]]
def dg (F:Nat) (a0:aL) (a1:Int) (J:Int):Option aL:=
 (((((fH F a1).bind fun U=>
   if U=true then
    if a1=(19:Int) then
     some false
    else
     if a0.cj<(0:Int) then
      some true
     else
      some false
   else
    some false):Option Bool).bind fun o=>match o with
   | aa=>if aa=true then
    some (⟨a0.B,a0.At,a0.Row,a0.Open,af (a0.At - a0.Row),a0.cH,a0.Text,a0.L⟩:aL)
   else
    some a0):Option aL).bind fun o=>match o with
  | j=>((if a1=(2:Int) then
    some j
   else
    if a1=(3:Int) then
     some j
    else
     if a1=(5:Int) then
      some j
     else
      if a1=(20:Int) then
       some j
      else
       some (⟨j.B,j.At,j.Row,j.Open,j.cj,false,j.Text,j.L⟩:aL)):Option aL).bind fun o=>match o with
   | I=>if I.L.length+[(⟨a1,I.At,J⟩:al)].length≤5864062014805 then
    some (⟨I.B,J,I.Row,I.Open,I.cj,I.cH,I.Text,I.L++[(⟨a1,I.At,J⟩:al)]⟩:aL)
   else none
theorem eA (F:Nat) {h:AH} {Z:Zn} {a0:aL} {a1:Int} {U:Int} {I aj J an} (hP:Pre Z h [.ae I (bu aj J a0), .gs J an (aa al)]) (aQ:RS (α:=UInt8) Z aj a0.B) (aS:RCs (α:=al) Z an a0.L) {r:aL} (hm:dg F a0 a1 U=some r):
  bS Tryz.prog 41 [Pt I 0,V a1,V U] h Z [.ae I (bu aj J a0), .gs J an (aa al)] fun v Z' A'=>∃ aU v10 aX, .tuple #[]=v∧A'=[.ae I (bu aU v10 r), .gs v10 aX (aa al)]∧RS (α:=UInt8) Z' aU r.B∧RCs (α:=al) Z' aX r.L:=by
 refine b3 Tryz.func41 hP ?_
 intro hs hS
 unfold dg at hm
 refine sq ?_
 obtain ⟨bf,av,hm⟩:=ai hm
 refine aJ [0,1,2] (fun l h=>∃ aE ad ao ar,ad=bf∧RS (α:=UInt8) aE ao ad.B∧RCs (α:=al) aE ar ad.L∧l=[(0,Pt I 0),(1,V a1),(2,V U)]∧St hs (a2 [.ae I (bu aj J a0), .gs J an (aa al)]) Z (0,0) aE h [.ae I (bu ao J ad), .gs J ar (aa al)]) ?_ ?_
 rintro l bC ⟨aE,ad,ao,ar,rfl,ay,az,rfl,aA⟩
 try dsimp only at hm
 refine sq ?_
 obtain ⟨bg,ah,hm⟩:=ai hm
 refine aJ [0,1,2] (fun l h=>∃ aB ab aq aF,ab=bg∧RS (α:=UInt8) aB aq ab.B∧RCs (α:=al) aB aF ab.L∧l=[(0,Pt I 0),(1,V a1),(2,V U)]∧St hs (a2 [.ae I (bu aj J a0), .gs J an (aa al)]) Z (0,0) aB h [.ae I (bu aq J ab), .gs J aF (aa al)]) ?_ ?_
 rintro l bD ⟨aB,ab,aq,aF,rfl,bh,bj,rfl,bk⟩
 try dsimp only at hm
 refine cY DF bk ?_
 intro aZ bE a5 aI
 refine yq 4 [(51,Pt I 7),(48,Pt I 0),(0,Pt I 0),(1,V a1),(2,V U)] ?_
 have bF:I<aZ:=a5.1 _ (au (i:=0) rfl) _ (by simp [Itm.ids])
 refine aW (v:=J) rfl trivial rfl (by show I<_;omega) (aG (v:=J) (aI.dN (i:=1) rfl)) (aI.aV (i:=0) rfl (by kernel_rfl)) trivial<|yq 4 [(56,Pt I 1),(53,V a1),(52,J),(48,Pt I 0),(0,Pt I 0),(2,V U)] ?_
 have bH:I<aZ:=a5.1 _ (au (i:=0) rfl) _ (by simp [Itm.ids])
 refine aW (v:=V ab.At) rfl trivial rfl (by show I<_;omega) (aG (v:=V ab.At) trivial) (aI.aV (i:=0) rfl (by kernel_rfl)) trivial<|yq 2 [(59, .agg #[V a1,V ab.At,V U]),(52,J),(48,Pt I 0),(0,Pt I 0),(2,V U)] ?_
 have bl:RCs (α:=al) aB [V a1,V ab.At,V U] [(⟨a1,ab.At,U⟩:al)]:=RCs.cons (cs:=[V a1,V ab.At,V U]) rfl (RCs.bq _)
 refine iU rfl trivial (c6 (cells:=[V a1,V ab.At,V U]) (s:=3) (by kernel_rfl)) (by kernel_rfl) aI (by omega) (Nat.add_lt_add_left (by decide) _) ?_
 intro a6 bI bJ bK bM a7
 obtain ⟨bN,hm⟩:=aH hm
 have aK:St _ _ _ _ _ _ ([.gs J aF (aa al)]++[.gs a6 [V a1,V ab.At,V U] (aa al), .ae I (bu aq J ab)]):=(a7.front 2 rfl)
 refine iC rfl trivial aK (dE (ys:=[(⟨a1,ab.At,U⟩:al)]) (bX:=24) aK.sub (i:=0) rfl bj ((a7.bZ).eB (j:=0) rfl bl) rfl rfl (by kernel_rfl) (by omega) (by omega)) (aO.refl _) (.a3 (aK.bL 1 rfl bU) (.a3 (aK.bL 1 rfl bU) .nil)) ?_
 rintro aw a8 bO ⟨bm,aM⟩
 refine yq 2 [(63,Pt I 7),(61,aw),(0,Pt I 0),(2,V U)] ?_
 have a9:St _ _ _ _ _ _ ([.ae I (bu aq J ab)]++[.gs aw a8 (aa al), .gs a6 [V a1,V ab.At,V U] (aa al)]):=(aM.front 2 rfl)
 refine gu rfl trivial a9 (gg (vs:=[aw]) (cO:=(bu aq aw ab)) (L':=[.ae I (bu aq aw ab)]) a9.sub (i:=0) rfl rfl rfl (aM.fQ (i:=0) rfl) (by kernel_rfl) (bz (aM.fR (i:=0) rfl) cz) rfl rfl rfl) (aO.refl _) (.drop (by decide) (.drop (by decide) .nil)) ?_
 intro bP bn
 refine yf [(0,Pt I 0),(2,V U)] ?_
 have bo:=bn.aY
 refine g0<|bG 4 0 (V U) [V U] [aq,V U,V ab.Row,V ab.Open,V ab.cj, .bool ab.cH,V ab.Text,aw] bo rfl rfl rfl ?_
 intro bQ bp
 refine xn 0 ?_
 obtain rfl:=si hm
 refine ⟨_,_,_,ResL.nil,(bp.takeN 2),?_⟩
 exact ⟨aq,aw,a8,rfl,rfl,bh,bm⟩
 refine s0<|dv 1 ah ?_ ?_<;>intro bR ah
 refine xn 12<|dF<|sk ?_
 obtain rfl:=si ah
 exact ⟨_,ad,ao,ar,rfl,ay,az,(by kernel_rfl),aA⟩
 refine dv 2 ah ?_ ?_<;>intro bT ah
 refine xn 9<|dF<|sk ?_
 obtain rfl:=si ah
 exact ⟨_,ad,ao,ar,rfl,ay,az,(by kernel_rfl),aA⟩
 refine dv 3 ah ?_ ?_<;>intro bV ah
 refine xn 5<|dF<|sk ?_
 obtain rfl:=si ah
 exact ⟨_,ad,ao,ar,rfl,ay,az,(by kernel_rfl),aA⟩
 refine dv 3 ah ?_ ?_<;>intro bW ah
 refine xn 1<|dF<|sk ?_
 obtain rfl:=si ah
 exact ⟨_,ad,ao,ar,rfl,ay,az,(by kernel_rfl),aA⟩
 refine xn 1<|dT<|g0<|bG 3 0 (.bool false) [.bool false] [ao,V ad.At,V ad.Row,V ad.Open,V ad.cj, .bool false,V ad.Text,J] aA rfl rfl rfl ?_
 intro bY bt
 refine xn 0 ?_
 obtain rfl:=si ah
 exact ⟨_,(⟨ad.B,ad.At,ad.Row,ad.Open,ad.cj,false,ad.Text,ad.L⟩:aL),ao,ar,rfl,ay,az,(by kernel_rfl),bt⟩
 refine sq ?_
 obtain ⟨bw,ak,av⟩:=ai av
 refine aJ [0,1,2,18] (fun l h=>∃ ba aN,aN=bw∧l=[(0,Pt I 0),(1,V a1),(2,V U),(18, .bool aN)]∧St hs (a2 [.ae I (bu aj J a0), .gs J an (aa al)]) Z (0,0) ba h [.ae I (bu aj J a0), .gs J an (aa al)]) ?_ ?_
 rintro l b0 ⟨ba,aN,rfl,rfl,ax⟩
 try dsimp only at av
 refine db av ?_ ?_<;>intro b1 av
 refine ek zj ax ?_
 intro bb b2 bc aP
 refine yq 4 [(22,Pt I 1),(19,Pt I 0),(0,Pt I 0),(1,V a1),(2,V U)] ?_
 have b4:I<bb:=bc.1 _ (au (i:=0) rfl) _ (by simp [Itm.ids])
 refine aW (v:=V a0.At) rfl trivial rfl (by show I<_;omega) (aG (v:=V a0.At) trivial) (aP.aV (i:=0) rfl (by kernel_rfl)) trivial<|yq 3 [(26,Pt I 2),(23,V a0.At),(19,Pt I 0),(0,Pt I 0),(1,V a1),(2,V U)] ?_
 have b5:I<bb:=bc.1 _ (au (i:=0) rfl) _ (by simp [Itm.ids])
 refine aW (v:=V a0.Row) rfl trivial rfl (by show I<_;omega) (aG (v:=V a0.Row) trivial) (aP.aV (i:=0) rfl (by kernel_rfl)) trivial<|yq 3 [(30,Pt I 4),(28,V (af (a0.At - a0.Row))),(0,Pt I 0),(1,V a1),(2,V U)] ?_
 have bd:St _ _ _ _ _ _ ([.ae I (bu aj J a0)]++[.gs J an (aa al)]):=(aP.front 0 rfl)
 refine gu rfl trivial bd (gg (vs:=[V (af (a0.At - a0.Row))]) (cO:=[aj,V a0.At,V a0.Row,V a0.Open,V (af (a0.At - a0.Row)), .bool a0.cH,V a0.Text,J]) (L':=[.ae I [aj,V a0.At,V a0.Row,V a0.Open,V (af (a0.At - a0.Row)), .bool a0.cH,V a0.Text,J]]) bd.sub (i:=0) rfl rfl rfl rfl (by kernel_rfl) rfl rfl rfl rfl) (aO.refl _) (.drop (by decide) (.drop (by decide) .nil)) ?_
 intro b6 bx
 refine yf [(0,Pt I 0),(1,V a1),(2,V U)] ?_
 have bA:=bx.aY
 obtain rfl:=si av
 exact ⟨_,(⟨a0.B,a0.At,a0.Row,a0.Open,af (a0.At - a0.Row),a0.cH,a0.Text,a0.L⟩:aL),aj,an,rfl,(aQ.mono ax.ag),(aS.mono ax.ag),(by kernel_rfl),bA⟩
 refine sk ?_
 obtain rfl:=si av
 exact ⟨_,a0,aj,an,rfl,(aQ.mono ax.ag),(aS.mono ax.ag),(by kernel_rfl),ax⟩
 refine g0 ?_
 obtain ⟨b7,bB,ak⟩:=ai ak
 refine cP 1 hS (iW F hS.inv bB) ?_
 rintro _ b8 aC rfl
 refine kb 1 8 ak ?_ ?_<;>intro b9 ak
 refine dv 1 ak ?_ ?_<;>intro ca ak
 refine xn 8 ?_
 obtain rfl:=si ak
 exact ⟨_,false,rfl,(by kernel_rfl),aC⟩
 refine aD 5 0 (V a0.cj) aC rfl<|aT 0 ak ?_ ?_<;>intro cb ak
 refine xn 1 ?_
 obtain rfl:=si ak
 exact ⟨_,true,rfl,(by kernel_rfl),aC⟩
 refine xn 1 ?_
 obtain rfl:=si ak
 exact ⟨_,false,rfl,(by kernel_rfl),aC⟩
 refine xn 10 ?_
 obtain rfl:=si ak
 exact ⟨_,false,rfl,(by kernel_rfl),aC⟩
def correctorref6_scanner_rowEnd_l0 (F:Nat) (a0:aL) (a1:Int):Nat→Int→Option Int
 | 0,_=>none
 | n+1,j=>
  if j<(a0.B.length:Int) then
   (correctorref2_Break F a0.B j).bind fun I=>
   if I=(0:Int) then
    correctorref6_scanner_rowEnd_l0 F a0 a1 n (af (j+1))
   else
    some j
  else
   some j
def fT (F:Nat) (a0:aL) (a1:Int):Option Int:=
 ((correctorref6_scanner_rowEnd_l0 F a0 a1 F a1):Option Int).bind fun o=>match o with
  | j=>some j
theorem ku (F:Nat) {h:AH} {Z:Zn} {a0:aL} {a1:Int} {ab U ah} (hI:Inv Z h) (aj:RS (α:=UInt8) Z U a0.B) (av:RS (α:=al) Z ah a0.L) (ak:Z ab=some (bu U ah a0)) {r:Int} (hm:fT F a0 a1=some r):
  bY Tryz.prog 62 [Pt ab 0,V a1] h Z (V r):=by
 refine b1 Tryz.func62 hI ?_
 intro hs hS
 unfold fT at hm
 refine sp 1<|sq ?_
 obtain ⟨ad,j,hm⟩:=ai hm
 refine aJ [1] (fun l h=>∃ an aa,aa=ad∧l=[(1,V aa)]∧St hs [] Z (0,0) an h []) ?_ ?_
 rintro l aw ⟨an,aa,rfl,rfl,ar⟩
 try dsimp only at hm
 refine sp 2<|rt<|⟨rfl,?_⟩
 obtain rfl:=si hm
 refine ⟨_,_,_,tk (V aa) (ResL.nil),ar,?_⟩
 exact rfl
 refine bk 0<|lp [0,1] (fun n l h=>∃ ao J,correctorref6_scanner_rowEnd_l0 F a0 a1 n J=some ad∧l=[(0,Pt ab 0),(1,V J)]∧St hs [] Z (0,0) ao h []) F ⟨_,a1,j,(by kernel_rfl),hS⟩ ?_
 rintro ae l ax ⟨ao,J,j,rfl,I⟩
 rcases ae with _ | ae
 cases (show none=some ad from j)
 rw [correctorref6_scanner_rowEnd_l0] at j
 refine sq<|s0<|bF 4 U I (I.ag _ _ ak)<|bC 0 U (RS.len (aj.mono I.ag))<|aT 0 j ?_ ?_<;>intro ay j
 refine bF 4 U I (I.ag _ _ ak) ?_
 obtain ⟨az,au,j⟩:=ai j
 refine cP 1 I (lN F I.inv (aj.mono I.ag) au) ?_
 rintro _ aA aq rfl
 refine aK 0 j ?_ ?_<;>intro aB j
 refine xn 1<|dT<|sk<|bk 1<|gp 3 ?_
 exact ⟨ae,a7 _,⟨_,af (J+1),j,(by kernel_rfl),aq⟩⟩
 refine xn 1<|dF<|xt 0<|aS ?_
 obtain rfl:=si j
 exact ⟨_,J,rfl,(by kernel_rfl),aq⟩
 refine xn 9<|dF<|xt 0<|aS ?_
 obtain rfl:=si j
 exact ⟨_,J,rfl,(by kernel_rfl),I⟩
def wV:List br:=[uP 13 (mv 0),uP 14 (nk 13),uP 15 (fa 85 14 1),uL 16 (ld 3 15),uP 17 (mv 0),uP 18 (nk 17),uP 19 (fa 85 18 0),uL 20 (ld 23 19),uP 21 (cb .len #[(t 20)] #[23]),uP 22 (bo .lss 3 16 21 3),uP 23 (mv 22),aM 23 24 (mv 0),aM 23 25 (mv 0),aM 23 26 (nk 25),aM 23 27 (fa 85 26 1),cW 23 28 (ld 3 27),jR 23 (some 29) (cf 40 #[(t 24),(t 28)] #[83,3]) .make [3,7,15],aM 23 30 (bc .eql 3 29 0 3),uP 31 (pf 23 30)]
def correctorref6_scanner_texts_l1 (F:Nat) (a0:aL):Nat→aL→Int→Int→Option (aL×Int×Int)
 | 0,_,_,_=>none
 | n+1,I,J,j=>
  if j<J then
   if 0≤j∧j<(I.B.length:Int) then
    (I.B[j.toNat]?).bind fun U=>
    if (U.toNat:Int)=(32:Int) then
     correctorref6_scanner_texts_l1 F a0 n I J (af (j+1))
    else
     some (I,J,j)
   else none
  else
   some (I,J,j)
def correctorref6_scanner_texts_l2 (F:Nat) (a0:aL):Nat→aL→Int→Int→Int→Option (aL×Int×Int×Int)
 | 0,_,_,_,_=>none
 | n+1,I,J,U,j=>
  if j<J then
   if 0≤j∧j<(I.B.length:Int) then
    (I.B[j.toNat]?).bind fun aa=>
    (gI F (aa.toNat:Int)).bind fun ab=>
    if ab=true then
     correctorref6_scanner_texts_l2 F a0 n I J U (af (j+1))
    else
     some (I,J,U,j)
   else none
  else
   some (I,J,U,j)
def correctorref6_scanner_texts_l0 (F:Nat) (a0:aL):Nat→aL→Option (Sum aL aL)
 | 0,_=>none
 | n+1,j=>
  if j.At<(j.B.length:Int) then
   (mm F j j.At).bind fun ab=>
   if ab=(0:Int) then
    (fT F j j.At).bind fun ad=>
    ((correctorref6_scanner_texts_l1 F a0 F j ad j.At):Option (aL×Int×Int)).bind fun o=>match o with
     | (ae,ag,U)=>((correctorref6_scanner_texts_l2 F a0 F ae ag U U):Option (aL×Int×Int×Int)).bind fun o=>match o with
      | (I,J,ah,ai)=>((if ai<J then
        if (af (ah - I.At))≤a0.Text then
         some (.inr I)
        else
         some (.inl I)
       else
        some (.inl I)):Option (Sum aL aL)).bind fun o=>match o with
       | .inl aa=>(correctorref2_Break F aa.B J).bind fun aj=>
       (dg F aa 19 (af (J+aj))).bind fun ak=>
       (oT F ak).bind fun an=>
       correctorref6_scanner_texts_l0 F a0 n an
       | .inr y=>some (.inr y)
   else
    some (.inl j)
  else
   some (.inl j)
def nT (F:Nat) (a0:aL):Option aL:=
 ((correctorref6_scanner_texts_l0 F a0 F (⟨a0.B,a0.At,a0.Row,a0.Open,a0.cj,a0.cH,(-2),a0.L⟩:aL)):Option (Sum aL aL)).bind fun o=>match o with
  | .inl j=>some j
  | .inr y=>some y
theorem w5 (F:Nat) {h:AH} {Z:Zn} {a0:aL} {j ag J ah} (hP:Pre Z h [.ae j (bu ag J a0), .gs J ah (aa al)]) (ck:RS (α:=UInt8) Z ag a0.B) (cl:RCs (α:=al) Z ah a0.L) {r:aL} (hm:nT F a0=some r):
  bS Tryz.prog 60 [Pt j 0] h Z [.ae j (bu ag J a0), .gs J ah (aa al)] fun v Z' A'=>∃ b4 v10 b5, .tuple #[]=v∧A'=[.ae j (bu b4 v10 r), .gs v10 b5 (aa al)]∧RS (α:=UInt8) Z' b4 r.B∧RCs (α:=al) Z' b5 r.L:=by
 refine b3 Tryz.func60 hP ?_
 intro hs hS
 unfold nT at hm
 refine s0<|aD 3 0 (V a0.Text) hS rfl<|xn 1<|s0<|bG 3 0 (V (-2)) [V (-2)] [ag,V a0.At,V a0.Row,V a0.Open,V a0.cj, .bool a0.cH,V (-2),J] hS rfl rfl rfl ?_
 intro c6 cm
 refine xn 0 ?_
 obtain ⟨bH,I,hm⟩:=ai hm
 refine aJ [] (fun l h=>∃ bc aZ bd bf bg, .inl aZ=bH∧RS (α:=UInt8) bc bd aZ.B∧RCs (α:=al) bc bg aZ.L∧l=[]∧St hs (a2 [.ae j (bu ag J a0), .gs J ah (aa al)]) Z (0,0) bc h [.ae j (bu bd bf aZ), .gs bf bg (aa al)]) ?_ ?_
 rintro l c8 ⟨bc,aZ,bd,bf,bg,rfl,cn,cp,rfl,cq⟩
 try dsimp only at hm
 obtain rfl:=si hm
 refine ⟨_,_,_,ResL.nil,cq,?_⟩
 exact ⟨bd,bf,bg,rfl,rfl,cn,cp⟩
 refine bk 0<|lp [0,2] (fun n l h=>∃ bh U aj ak an,correctorref6_scanner_texts_l0 F a0 n U=some bH∧RS (α:=UInt8) bh aj U.B∧RCs (α:=al) bh an U.L∧l=[(0,Pt j 0),(2,V a0.Text)]∧St hs (a2 [.ae j (bu ag J a0), .gs J ah (aa al)]) Z (0,0) bh h [.ae j (bu aj ak U), .gs ak an (aa al)]) F ⟨_,(⟨a0.B,a0.At,a0.Row,a0.Open,a0.cj,a0.cH,(-2),a0.L⟩:aL),ag,J,ah,I,ck,cl,(by kernel_rfl),cm⟩ ?_
 rintro bI l dc ⟨bh,U,aj,ak,an,I,av,a1,rfl,ct⟩
 rcases bI with _ | bI
 cases (show none=some bH from I)
 rw [correctorref6_scanner_texts_l0] at I
 refine sq<|cY wV ct ?_
 intro bJ dd bK az
 refine yq 3 [(15,Pt j 1),(0,Pt j 0),(2,V a0.Text)] ?_
 have dg:j<bJ:=bK.1 _ (au (i:=0) rfl) _ (by simp [Itm.ids])
 refine aW (v:=V U.At) rfl trivial rfl (by show j<_;omega) (aG (v:=V U.At) trivial) (az.aV (i:=0) rfl (by kernel_rfl)) trivial<|yq 3 [(19,Pt j 0),(16,V U.At),(0,Pt j 0),(2,V a0.Text)] ?_
 have dh:j<bJ:=bK.1 _ (au (i:=0) rfl) _ (by simp [Itm.ids])
 refine aW (v:=aj) rfl trivial rfl (by show j<_;omega) (aG (v:=aj) (RS.cM av)) (az.aV (i:=0) rfl (by kernel_rfl)) trivial<|aF rfl trivial (h7 rfl (RS.len av) ⟨_,Tryz.underlying23⟩) ?_
 rcases ifs I with ⟨bL,I⟩ | ⟨bL,I⟩
 refine aF rfl trivial (bm rfl rfl (mq bL))<|yq 5 [(27,Pt j 1),(24,Pt j 0),(23, .bool true),(0,Pt j 0),(2,V a0.Text)] ?_
 have di:j<bJ:=bK.1 _ (au (i:=0) rfl) _ (by simp [Itm.ids])
 refine aW (v:=V U.At) rfl rfl rfl (by show j<_;omega) (aG (v:=V U.At) trivial) (az.aV (i:=0) rfl (by kernel_rfl)) trivial ?_
 obtain ⟨dj,cu,I⟩:=ai I
 have b6:=az.bZ
 obtain ⟨dm,bM,cv,b7⟩:=St.kM (L:=[.ae j (bu aj ak U), .gs ak an (aa al)]) b6
 obtain ⟨dn,dp,cw,bl,rfl⟩:=uM F cv (RS.mono bM av) (bA.row (b7 _ (au (i:=1) rfl)) bM a1) (b7 _ (au (i:=0) rfl)) cu
 replace bl:=St.j9 bM bl
 have cx:=St.call (A:=[]) (B:=[.ae j (bu aj ak U), .gs ak an (aa al)]) b6 bl
 refine df rfl rfl az (cr cw rfl rfl rfl) cx (St.de bl) ?_
 intro dr b8
 rcases ifs I with ⟨bN,I⟩ | ⟨bN,I⟩
 refine aF rfl rfl (bm rfl rfl (fm bN))<|ye 1 [(31, .bool true),(0,Pt j 0),(2,V a0.Text)] ?_
 have b9:=b8.aY
 refine dT<|sk<|bk 1<|s0<|aD 4 0 (V U.At) b9 rfl ?_
 obtain ⟨cy,cz,I⟩:=ai I
 refine cE 0 b9 (fun ds ca cB cb=>ku F cB (RS.mono ca av) (bA.row (cb _ (au (i:=1) rfl)) ca a1) (cb _ (au (i:=0) rfl)) cz) ?_
 rintro _ dt cc rfl
 refine xn 1<|s0<|aD 3 0 (V U.At) cc rfl<|xn 1<|sq ?_
 obtain ⟨bO,ad,I⟩:=ai I
 refine aJ [0,2,3,4] (fun l h=>∃ bn aA bo a3 bp bq bw,(aA,bo,a3)=bO∧RS (α:=UInt8) bn bp aA.B∧RCs (α:=al) bn bw aA.L∧l=[(0,Pt j 0),(2,V a0.Text),(3,V bo),(4,V a3)]∧St hs (a2 [.ae j (bu ag J a0), .gs J ah (aa al)]) Z (0,0) bn h [.ae j (bu bp bq aA), .gs bq bw (aa al)]) ?_ ?_
 rintro l du ⟨bn,aA,bo,a3,bp,bq,bw,rfl,cC,cD,rfl,cF⟩
 try dsimp only at I
 refine sp 2<|sq ?_
 obtain ⟨bP,ab,I⟩:=ai I
 refine aJ [0,2,3,4,5] (fun l h=>∃ bx ao bz bQ bR aB aC aE,(ao,bz,bQ,bR)=bP∧RS (α:=UInt8) bx aB ao.B∧RCs (α:=al) bx aE ao.L∧l=[(0,Pt j 0),(2,V a0.Text),(3,V bz),(4,V bQ),(5,V bR)]∧St hs (a2 [.ae j (bu ag J a0), .gs J ah (aa al)]) Z (0,0) bx h [.ae j (bu aB aC ao), .gs aC aE (aa al)]) ?_ ?_
 rintro l dv ⟨bx,ao,bz,bQ,bR,aB,aC,aE,rfl,bT,bU,rfl,bB⟩
 try dsimp only at I
 refine sq ?_
 obtain ⟨cG,aw,I⟩:=ai I
 refine aJ [0,2,3] (fun l h=>∃ bC a5 bD bV bW, .inl a5=cG∧RS (α:=UInt8) bC bD a5.B∧RCs (α:=al) bC bW a5.L∧l=[(0,Pt j 0),(2,V a0.Text),(3,V bz)]∧St hs (a2 [.ae j (bu ag J a0), .gs J ah (aa al)]) Z (0,0) bC h [.ae j (bu bD bV a5), .gs bV bW (aa al)]) ?_ ?_
 rintro l dw ⟨bC,a5,bD,bV,bW,rfl,cd,cI,rfl,bX⟩
 try dsimp only at I
 refine s0<|aD 5 0 bD bX rfl ?_
 obtain ⟨dx,cJ,I⟩:=ai I
 refine cP 1 bX (lN F bX.inv cd cJ) ?_
 rintro _ dy cK rfl
 obtain ⟨dz,cL,I⟩:=ai I
 refine cA 1 cK (fun p=>eA F p cd cI cL) ?_
 rintro _ dA dB _ dC cN ⟨dD,cO,dE,rfl,rfl,cQ,cR⟩
 refine xn 0<|g0 ?_
 obtain ⟨cS,cT,I⟩:=ai I
 refine cA 1 cN (fun p=>rA F p cQ cR cT) ?_
 rintro _ dG dH _ dI cU ⟨cW,cX,rfl,rfl,cZ,c0⟩
 refine xn 0 ?_
 exact ⟨bI,a7 _,⟨_,cS,cW,cO,cX,I,cZ,c0,(by kernel_rfl),cU⟩⟩
 refine s0<|aT 2 aw ?_ ?_<;>intro dJ aw
 refine aD 5 0 (V ao.At) bB rfl<|e4 2 aw ?_ ?_<;>intro dL aw
 refine xn 1<|dT<|rt<|bj<|bj<|⟨rfl,?_⟩
 obtain rfl:=si aw
 obtain rfl:=si I
 obtain rfl:=si hm
 refine ⟨_,_,_,ResL.nil,bB,?_⟩
 exact ⟨aB,aC,aE,rfl,rfl,bT,bU⟩
 refine xn 1<|dF<|sk ?_
 obtain rfl:=si aw
 exact ⟨_,ao,aB,aC,aE,rfl,bT,bU,(by kernel_rfl),bB⟩
 refine xn 10<|dF<|sk ?_
 obtain rfl:=si aw
 exact ⟨_,ao,aB,aC,aE,rfl,bT,bU,(by kernel_rfl),bB⟩
 refine bk 4<|lp [0,2,3,4,5] (fun n l h=>∃ bE aq aH aI aM ax aN aO,correctorref6_scanner_texts_l2 F a0 n aq aH aI aM=some bP∧RS (α:=UInt8) bE ax aq.B∧RCs (α:=al) bE aO aq.L∧l=[(0,Pt j 0),(2,V a0.Text),(3,V aH),(4,V aI),(5,V aM)]∧St hs (a2 [.ae j (bu ag J a0), .gs J ah (aa al)]) Z (0,0) bE h [.ae j (bu ax aN aq), .gs aN aO (aa al)]) F ⟨_,aA,bo,a3,a3,bp,bq,bw,ab,cC,cD,(by kernel_rfl),cF⟩ ?_
 rintro bY l dM ⟨bE,aq,aH,aI,aM,ax,aN,aO,ab,a6,b0,rfl,a9⟩
 rcases bY with _ | bY
 cases (show none=some bP from ab)
 rw [correctorref6_scanner_texts_l2] at ab
 refine sq<|s0<|aT 2 ab ?_ ?_<;>intro dN ab
 refine aD 4 0 ax a9 rfl<|a8 1 ab a6 ?_
 intro dO ab
 refine bt 0 0 (fun cf=> .int .u8 (cf.toNat:Int)) ab a6 a9 ?_
 intro cf dP ab
 obtain ⟨dQ,c3,ab⟩:=ai ab
 refine cP 0 a9 (k2 F a9.inv c3) ?_
 rintro _ dR cg rfl
 refine xn 1<|db ab ?_ ?_<;>intro dS ab
 refine sk<|bk 5<|gp 3 ?_
 exact ⟨bY,a7 _,⟨_,aq,aH,aI,af (aM+1),ax,aN,aO,ab,a6,b0,(by kernel_rfl),cg⟩⟩
 refine xt 4<|aS ?_
 obtain rfl:=si ab
 exact ⟨_,aq,aH,aI,aM,ax,aN,aO,rfl,a6,b0,(by kernel_rfl),cg⟩
 refine xn 10<|dF<|xt 4<|aS ?_
 obtain rfl:=si ab
 exact ⟨_,aq,aH,aI,aM,ax,aN,aO,rfl,a6,b0,(by kernel_rfl),a9⟩
 refine bk 2<|lp [0,2,3,4] (fun n l h=>∃ bF ar aP aQ ay aU aX,correctorref6_scanner_texts_l1 F a0 n ar aP aQ=some bO∧RS (α:=UInt8) bF ay ar.B∧RCs (α:=al) bF aX ar.L∧l=[(0,Pt j 0),(2,V a0.Text),(3,V aP),(4,V aQ)]∧St hs (a2 [.ae j (bu ag J a0), .gs J ah (aa al)]) Z (0,0) bF h [.ae j (bu ay aU ar), .gs aU aX (aa al)]) F ⟨_,U,cy,U.At,aj,ak,an,ad,av,a1,(by kernel_rfl),cc⟩ ?_
 rintro b1 l dV ⟨bF,ar,aP,aQ,ay,aU,aX,ad,ba,b2,rfl,bb⟩
 rcases b1 with _ | b1
 cases (show none=some bO from ad)
 rw [correctorref6_scanner_texts_l1] at ad
 refine sq<|s0<|aT 2 ad ?_ ?_<;>intro dW ad
 refine aD 4 0 ay bb rfl<|a8 1 ad ba ?_
 intro dX ad
 refine bt 0 0 (fun ch=> .int .u8 (ch.toNat:Int)) ad ba bb ?_
 intro ch dY ad
 refine aK 0 ad ?_ ?_ (kd:= .u8)<;>intro dZ ad
 refine xn 1<|dT<|sk<|bk 3<|gp 3 ?_
 exact ⟨b1,a7 _,⟨_,ar,aP,af (aQ+1),ay,aU,aX,ad,ba,b2,(by kernel_rfl),bb⟩⟩
 refine xn 1<|dF<|xt 2<|aS ?_
 obtain rfl:=si ad
 exact ⟨_,ar,aP,aQ,ay,aU,aX,rfl,ba,b2,(by kernel_rfl),bb⟩
 refine xn 10<|dF<|xt 2<|aS ?_
 obtain rfl:=si ad
 exact ⟨_,ar,aP,aQ,ay,aU,aX,rfl,ba,b2,(by kernel_rfl),bb⟩
 refine aF rfl rfl (bm rfl rfl (fg bN))<|ye 1 [(31, .bool false),(0,Pt j 0),(2,V a0.Text)] ?_
 have c4:=b8.aY
 refine dF<|xt 0<|aS ?_
 obtain rfl:=si I
 exact ⟨_,U,aj,ak,an,rfl,av,a1,(by kernel_rfl),c4⟩
 refine aF rfl trivial (bm rfl rfl (mJ bL))<|ye 9 [(31, .bool false),(0,Pt j 0),(2,V a0.Text)] ?_
 have c5:=az.aY
 refine dF<|xt 0<|aS ?_
 obtain rfl:=si I
 exact ⟨_,U,aj,ak,an,rfl,av,a1,(by kernel_rfl),c5⟩
def EX:List br:=[uP 7 (mv 0),uP 8 (nk 7),uP 9 (fa 85 8 0),uL 10 (ld 23 9),uP 11 (mv 0),uP 12 (nk 11),uP 13 (fa 85 12 1),uL 14 (ld 3 13),uP 15 (ia 23 10 14),uL 16 (ld 5 15),uP 3 (sg 16)]
def xV:List br:=[uP 44 (mv 0),uP 45 (nk 44),uP 46 (fa 85 45 1),uL 47 (ld 3 46),uP 48 (mv 0),uP 49 (nk 48),uP 50 (fa 85 49 2),uL 51 (ld 3 50),uP 52 (bo .eql 3 47 51 3),uP 53 (mv 52),aM 53 54 (mv 3),aM 53 55 (.binOp .eql 5 (t 54) (.const (.int .u8 32)) 5),uP 56 (pf 53 55)]
def EH:List br:=[uP 103 (mv 3),uP 104 (.binOp .eql 5 (t 103) (.const (.int .u8 35)) 5),uP 105 (mv 104),aM 105 106 (mv 0),aM 105 107 (nk 106),aM 105 108 (fa 85 107 1),cW 105 109 (ld 3 108),aM 105 110 (mv 0),aM 105 111 (nk 110),aM 105 112 (fa 85 111 2),cW 105 113 (ld 3 112),aM 105 114 (bo .eql 3 109 113 3),aM 105 115 (mv 114),dc 115 116 (mv 0),dc 115 117 (nk 116),dc 115 118 (fa 85 117 7),kQ 115 119 (ld 28 118),dc 115 120 (mv 0),dc 115 121 (nk 120),dc 115 122 (fa 85 121 7),kQ 115 123 (ld 28 122),dc 115 124 (cb .len #[(t 123)] #[28]),dc 115 125 (bc .sub 3 124 1 3),dc 115 126 (ia 28 119 125),dc 115 127 (fa 76 126 0),kQ 115 128 (ld 3 127),dc 115 129 (bc .eql 3 128 2 3),aM 105 130 (pt 115 129),aM 105 131 (mv 130),dc 131 132 (mv 0),dc 131 133 (nk 132),dc 131 134 (fa 85 133 7),kQ 131 135 (ld 28 134),dc 131 136 (mv 0),dc 131 137 (nk 136),dc 131 138 (fa 85 137 7),kQ 131 139 (ld 28 138),dc 131 140 (cb .len #[(t 139)] #[28]),dc 131 141 (bc .sub 3 140 1 3),dc 131 142 (ia 28 135 141),dc 131 143 (fa 76 142 0),kQ 131 144 (ld 3 143),dc 131 145 (bc .eql 3 144 3 3),aM 105 146 (pt 131 145),uP 147 (pf 105 146)]
def mr (F:Nat) (a0:aL):Nat→Int→Option Int
 | 0,_=>none
 | n+1,j=>
  if j<(a0.B.length:Int) then
   if 0≤j∧j<(a0.B.length:Int) then
    (a0.B[j.toNat]?).bind fun I=>
    if (I.toNat:Int)=(32:Int) then
     mr F a0 n (af (j+1))
    else
     some j
   else none
  else
   some j
def lP (F:Nat) (a0:aL):Nat→Int→Option Int
 | 0,_=>none
 | n+1,j=>
  if j<(a0.B.length:Int) then
   if 0≤j∧j<(a0.B.length:Int) then
    (a0.B[j.toNat]?).bind fun I=>
    (gI F (I.toNat:Int)).bind fun J=>
    if J=true then
     lP F a0 n (af (j+1))
    else
     some j
   else none
  else
   some j
def oQ (F:Nat) (a0:aL):Option (Bool×aL):=
 if 0≤a0.At∧a0.At<(a0.B.length:Int) then
  (a0.B[a0.At.toNat]?).bind fun j=>
  (correctorref2_Break F a0.B a0.At).bind fun I=>
  if (0:Int)<I then
   (dg F a0 1 (af (a0.At+I))).bind fun J=>
   (oT F J).bind fun U=>
   ((if (-1:Int)≤J.Text then
     (nT F U).bind fun aa=>
     some aa
    else
     some U):Option aL).bind fun o=>match o with
    | ab=>some (true,ab)
  else
   ((if a0.At=a0.Row then
     if (j.toNat:Int)=(32:Int) then
      some true
     else
      some false
    else
     some false):Option Bool).bind fun o=>match o with
    | ad=>if ad=true then
     ((mr F a0 F a0.At):Option Int).bind fun o=>match o with
      | ae=>(dg F a0 2 ae).bind fun ag=>
      some (true,ag)
    else
     (gI F (j.toNat:Int)).bind fun ah=>
     if ah=true then
      ((lP F a0 F a0.At):Option Int).bind fun o=>match o with
       | ai=>(dg F a0 3 ai).bind fun aj=>
       some (true,aj)
     else
      ((if (j.toNat:Int)=(35:Int) then
        if a0.At=a0.Row then
         (fT F a0 a0.At).bind fun ak=>
         (dg F a0 4 ak).bind fun an=>
         some (.inr (true,an))
        else
         if 0≤(af ((a0.L.length:Int) - 1))∧(af ((a0.L.length:Int) - 1))<(a0.L.length:Int) then
          (a0.L[(af ((a0.L.length:Int) - 1)).toNat]?).bind fun ao=>
          if ao.Kind=(2:Int) then
           (fT F a0 a0.At).bind fun aq=>
           (dg F a0 4 aq).bind fun ar=>
           some (.inr (true,ar))
          else
           if 0≤(af ((a0.L.length:Int) - 1))∧(af ((a0.L.length:Int) - 1))<(a0.L.length:Int) then
            (a0.L[(af ((a0.L.length:Int) - 1)).toNat]?).bind fun au=>
            if au.Kind=(3:Int) then
             (fT F a0 a0.At).bind fun av=>
             (dg F a0 4 av).bind fun aw=>
             some (.inr (true,aw))
            else
             some (.inl ())
           else none
         else none
       else
        some (.inl ())):Option (Sum Unit (Bool×aL))).bind fun o=>match o with
       | .inl ()=>some (false,a0)
       | .inr y=>some y
 else none
theorem GM (F:Nat) {h:AH} {Z:Zn} {a0:aL} {I ab J an} (hP:Pre Z h [.ae I (bu ab J a0), .gs J an (aa al)]) (aj:RS (α:=UInt8) Z ab a0.B) (ak:RCs (α:=al) Z an a0.L) {r:Bool×aL} (hm:oQ F a0=some r):
  bS Tryz.prog 42 [Pt I 0] h Z [.ae I (bu ab J a0), .gs J an (aa al)] fun v Z' A'=>∃ bo v10 bp, .bool r.1=v∧A'=[.ae I (bu bo v10 r.2), .gs v10 bp (aa al)]∧RS (α:=UInt8) Z' bo r.2.B∧RCs (α:=al) Z' bp r.2.L:=by
 refine b3 Tryz.func42 hP ?_
 intro hs hS
 unfold oQ at hm
 refine sp 1<|cY EX hS ?_
 intro bq er bz aM
 refine yq 3 [(9,Pt I 0),(0,Pt I 0)] ?_
 have et:I<bq:=bz.1 _ (au (i:=0) rfl) _ (by simp [Itm.ids])
 refine aW (v:=ab) rfl trivial rfl (by show I<_;omega) (aG (v:=ab) (RS.cM aj)) (aM.aV (i:=0) rfl (by kernel_rfl)) trivial<|yq 3 [(13,Pt I 1),(10,ab),(0,Pt I 0)] ?_
 have eu:I<bq:=bz.1 _ (au (i:=0) rfl) _ (by simp [Itm.ids])
 refine aW (v:=V a0.At) rfl trivial rfl (by show I<_;omega) (aG (v:=V a0.At) trivial) (aM.aV (i:=0) rfl (by kernel_rfl)) trivial ?_
 obtain ⟨bB,hm⟩:=aH hm
 refine aF rfl trivial (bx rfl rfl (by kernel_rfl:slTy _ _=some (aa UInt8)) (RS.cG aj (by omega)) bB.1 bB.2) ?_
 obtain ⟨ar,cc,hm⟩:=ai hm
 obtain ⟨ew,cd,cf⟩:=RS.bV aj (i:=a0.At) cc
 obtain rfl:=pk cd
 refine cg rfl rfl trivial (fun h2 hz=>bE (w:= .int .u8 (ar.toNat:Int)) (cf h2 hz) rfl (by kernel_rfl)) (aM.bO (aO.refl _)) (aG (v:= .int .u8 (ar.toNat:Int)) trivial) trivial<|ye 1 [(3, .int .u8 (ar.toNat:Int)),(0,Pt I 0)] ?_
 have aN:=aM.aY
 refine s0<|aD 3 0 (V a0.At) aN rfl<|xn 1<|sq<|s0<|aD 3 0 ab aN rfl ?_
 obtain ⟨ey,ch,hm⟩:=ai hm
 refine cP 1 aN (lN F aN.inv aj ch) ?_
 rintro _ ez bD rfl
 refine xn 1<|s0<|cZ 1 hm ?_ ?_<;>intro eB hm
 refine xn 0<|dT<|s0 ?_
 obtain ⟨cj,ck,hm⟩:=ai hm
 refine cA 4 bD (fun p=>eA F p aj ak ck) ?_
 rintro _ eC eD _ eE bF ⟨eF,cl,eG,rfl,rfl,cm,cn⟩
 refine xn 0<|s0<|aD 3 0 (V cj.Text) bF rfl<|xn 1<|s0 ?_
 obtain ⟨cp,cq,hm⟩:=ai hm
 refine cA 1 bF (fun p=>rA F p cm cn cq) ?_
 rintro _ eI eJ _ eK bG ⟨cr,ct,rfl,rfl,bH,bI⟩
 refine xn 0<|sq ?_
 obtain ⟨cu,aA,hm⟩:=ai hm
 refine dM [] (fun l h=>∃ aP aE aQ aU aX,aE=cu∧RS (α:=UInt8) aP aQ aE.B∧RCs (α:=al) aP aX aE.L∧l=[]∧St hs (a2 [.ae I (bu ab J a0), .gs J an (aa al)]) Z (0,0) aP h [.ae I (bu aQ aU aE), .gs aU aX (aa al)]) (by kernel_rfl) ?_ ?_
 rintro l eL ⟨aP,aE,aQ,aU,aX,rfl,cw,cx,rfl,cy⟩
 try dsimp only at hm
 refine sp 1<|rt<|⟨rfl,?_⟩
 obtain rfl:=si hm
 refine ⟨_,_,_,tk (.bool true) (ResL.nil),cy,?_⟩
 exact ⟨aQ,aU,aX,rfl,rfl,cw,cx⟩
 refine g0<|cS 1 aA ?_ ?_<;>intro eM aA
 refine xn 0<|dT<|g0 ?_
 obtain ⟨cz,cB,aA⟩:=ai aA
 refine cA 1 bG (fun p=>w5 F p bH bI cB) ?_
 rintro _ eN eO _ eP cC ⟨cD,cF,cH,rfl,rfl,cI,cJ⟩
 refine xn 0 ?_
 obtain rfl:=si aA
 exact ⟨_,cz,cD,cF,cH,rfl,cI,cJ,(by kernel_rfl),cC⟩
 refine xn 0<|dF<|sk ?_
 obtain rfl:=si aA
 exact ⟨_,cp,cr,cl,ct,rfl,bH,bI,(by kernel_rfl),bG⟩
 refine xn 0<|dF<|sk<|sq<|sq ?_
 obtain ⟨cK,av,hm⟩:=ai hm
 refine aJ [0,3,4,56] (fun l h=>∃ bJ aZ,aZ=cK∧l=[(0,Pt I 0),(3, .int .u8 (ar.toNat:Int)),(4,V a0.At),(56, .bool aZ)]∧St hs (a2 [.ae I (bu ab J a0), .gs J an (aa al)]) Z (0,0) bJ h [.ae I (bu ab J a0), .gs J an (aa al)]) ?_ ?_
 rintro l eQ ⟨bJ,aZ,rfl,rfl,ad⟩
 try dsimp only at hm
 refine db hm ?_ ?_<;>intro eR hm
 refine sq ?_
 obtain ⟨a1,aq,hm⟩:=ai hm
 refine aJ [0,4] (fun l h=>∃ bK a3,a3=a1∧l=[(0,Pt I 0),(4,V a3)]∧St hs (a2 [.ae I (bu ab J a0), .gs J an (aa al)]) Z (0,0) bK h [.ae I (bu ab J a0), .gs J an (aa al)]) ?_ ?_
 rintro l eS ⟨bK,a3,rfl,rfl,a5⟩
 try dsimp only at hm
 refine s0 ?_
 obtain ⟨eT,cL,hm⟩:=ai hm
 refine cA 2 a5 (fun p=>eA F p (aj.mono a5.ag) (ak.mono a5.ag) cL) ?_
 rintro _ eU eV _ eW cN ⟨cO,cQ,cR,rfl,rfl,cT,cU⟩
 refine xn 0<|sp 1<|rt<|⟨rfl,?_⟩
 obtain rfl:=si hm
 refine ⟨_,_,_,tk (.bool true) (ResL.nil),cN,?_⟩
 exact ⟨cO,cQ,cR,rfl,rfl,cT,cU⟩
 refine bk 0<|lp [0,4] (fun n l h=>∃ bL aB,mr F a0 n aB=some a1∧l=[(0,Pt I 0),(4,V aB)]∧St hs (a2 [.ae I (bu ab J a0), .gs J an (aa al)]) Z (0,0) bL h [.ae I (bu ab J a0), .gs J an (aa al)]) F ⟨_,a0.At,aq,(by kernel_rfl),ad⟩ ?_
 rintro a6 l eX ⟨bL,aB,aq,rfl,aw⟩
 rcases a6 with _ | a6
 cases (show none=some a1 from aq)
 rw [mr] at aq
 refine sq<|s0<|aD 4 0 ab aw rfl<|bC 0 ab (RS.len (aj.mono aw.ag))<|aT 0 aq ?_ ?_<;>intro eY aq
 refine aD 4 0 ab aw rfl<|a8 1 aq (aj.mono aw.ag) ?_
 intro eZ aq
 refine bt 0 0 (fun bM=> .int .u8 (bM.toNat:Int)) aq (aj.mono aw.ag) aw ?_
 intro bM e0 aq
 refine aK 0 aq ?_ ?_ (kd:= .u8)<;>intro e2 aq
 refine xn 1<|dT<|sk<|bk 1<|gp 3 ?_
 exact ⟨a6,a7 _,⟨_,af (aB+1),aq,(by kernel_rfl),aw⟩⟩
 refine xn 1<|dF<|xt 0<|aS ?_
 obtain rfl:=si aq
 exact ⟨_,aB,rfl,(by kernel_rfl),aw⟩
 refine xn 10<|dF<|xt 0<|aS ?_
 obtain rfl:=si aq
 exact ⟨_,aB,rfl,(by kernel_rfl),aw⟩
 refine sk<|sq<|s0 ?_
 obtain ⟨e3,cW,hm⟩:=ai hm
 refine cP 1 ad (k2 F ad.inv cW) ?_
 rintro _ e4 bN rfl
 refine xn 0<|db hm ?_ ?_<;>intro e5 hm
 refine sq ?_
 obtain ⟨a9,ao,hm⟩:=ai hm
 refine aJ [0,4] (fun l h=>∃ bP ba,ba=a9∧l=[(0,Pt I 0),(4,V ba)]∧St hs (a2 [.ae I (bu ab J a0), .gs J an (aa al)]) Z (0,0) bP h [.ae I (bu ab J a0), .gs J an (aa al)]) ?_ ?_
 rintro l e6 ⟨bP,ba,rfl,rfl,bb⟩
 try dsimp only at hm
 refine s0 ?_
 obtain ⟨e7,cX,hm⟩:=ai hm
 refine cA 2 bb (fun p=>eA F p (aj.mono bb.ag) (ak.mono bb.ag) cX) ?_
 rintro _ e8 e9 _ fa c0 ⟨c3,c4,c5,rfl,rfl,c6,c8⟩
 refine xn 0<|sp 1<|rt<|⟨rfl,?_⟩
 obtain rfl:=si hm
 refine ⟨_,_,_,tk (.bool true) (ResL.nil),c0,?_⟩
 exact ⟨c3,c4,c5,rfl,rfl,c6,c8⟩
 refine bk 2<|lp [0,4] (fun n l h=>∃ bQ aC,lP F a0 n aC=some a9∧l=[(0,Pt I 0),(4,V aC)]∧St hs (a2 [.ae I (bu ab J a0), .gs J an (aa al)]) Z (0,0) bQ h [.ae I (bu ab J a0), .gs J an (aa al)]) F ⟨_,a0.At,ao,(by kernel_rfl),bN⟩ ?_
 rintro bc l fb ⟨bQ,aC,ao,rfl,ax⟩
 rcases bc with _ | bc
 cases (show none=some a9 from ao)
 rw [lP] at ao
 refine sq<|s0<|aD 4 0 ab ax rfl<|bC 0 ab (RS.len (aj.mono ax.ag))<|aT 0 ao ?_ ?_<;>intro fc ao
 refine aD 4 0 ab ax rfl<|a8 1 ao (aj.mono ax.ag) ?_
 intro fe ao
 refine bt 0 0 (fun bT=> .int .u8 (bT.toNat:Int)) ao (aj.mono ax.ag) ax ?_
 intro bT ff ao
 obtain ⟨fh,dc,ao⟩:=ai ao
 refine cP 0 ax (k2 F ax.inv dc) ?_
 rintro _ fi bU rfl
 refine xn 1<|db ao ?_ ?_<;>intro fj ao
 refine sk<|bk 3<|gp 3 ?_
 exact ⟨bc,a7 _,⟨_,af (aC+1),ao,(by kernel_rfl),bU⟩⟩
 refine xt 2<|aS ?_
 obtain rfl:=si ao
 exact ⟨_,aC,rfl,(by kernel_rfl),bU⟩
 refine xn 10<|dF<|xt 2<|aS ?_
 obtain rfl:=si ao
 exact ⟨_,aC,rfl,(by kernel_rfl),ax⟩
 refine sk<|sq ?_
 obtain ⟨dd,U,hm⟩:=ai hm
 refine dM [] (fun l h=>∃ bW, .inl ()=dd∧l=[]∧St hs (a2 [.ae I (bu ab J a0), .gs J an (aa al)]) Z (0,0) bW h [.ae I (bu ab J a0), .gs J an (aa al)]) (by kernel_rfl) ?_ ?_
 rintro l fk ⟨bW,rfl,rfl,bd⟩
 try dsimp only at hm
 refine sp 1<|rt<|⟨rfl,?_⟩
 obtain rfl:=si hm
 refine ⟨_,_,_,tk (.bool false) (ResL.nil),bd,?_⟩
 exact ⟨ab,J,an,rfl,rfl,(aj.mono bd.ag),(ak.mono bd.ag)⟩
 refine ek EH bN ?_
 intro ay fl az ah
 refine yq 1 [(103, .int .u8 (ar.toNat:Int)),(0,Pt I 0),(4,V a0.At)] ?_
 rcases ifs U with ⟨bf,U⟩ | ⟨bf,U⟩
 refine aF rfl trivial (bm rfl rfl (fm bf))<|yq 4 [(108,Pt I 1),(105, .bool true),(0,Pt I 0),(4,V a0.At)] ?_
 have fo:I<ay:=az.1 _ (au (i:=0) rfl) _ (by simp [Itm.ids])
 refine aW (v:=V a0.At) rfl rfl rfl (by show I<_;omega) (aG (v:=V a0.At) trivial) (ah.aV (i:=0) rfl (by kernel_rfl)) trivial<|yq 3 [(112,Pt I 2),(109,V a0.At),(105, .bool true),(0,Pt I 0),(4,V a0.At)] ?_
 have fp:I<ay:=az.1 _ (au (i:=0) rfl) _ (by simp [Itm.ids])
 refine aW (v:=V a0.Row) rfl rfl rfl (by show I<_;omega) (aG (v:=V a0.Row) trivial) (ah.aV (i:=0) rfl (by kernel_rfl)) trivial ?_
 rcases ifs U with ⟨bg,U⟩ | ⟨bg,U⟩
 refine aF rfl rfl (bm rfl rfl (fm bg))<|ye 33 [(147, .bool true),(0,Pt I 0),(4,V a0.At)] ?_
 have de:=ah.aY
 refine dT<|s0 ?_
 obtain ⟨fq,df,U⟩:=ai U
 refine cE 3 de (fun fr bX dg bY=>ku F dg (RS.mono bX (aj.mono ad.ag)) (bA.row (bY _ (au (i:=1) rfl)) bX (ak.mono ad.ag)) (bY _ (au (i:=0) rfl)) df) ?_
 rintro _ fs dh rfl
 obtain ⟨ft,di,U⟩:=ai U
 refine cA 0 dh (fun p=>eA F p (aj.mono ad.ag) (ak.mono ad.ag) di) ?_
 rintro _ fu fv _ fw dj ⟨dm,dn,dp,rfl,rfl,dr,ds⟩
 refine xn 0<|sp 1<|rt<|⟨rfl,?_⟩
 obtain rfl:=si U
 obtain rfl:=si hm
 refine ⟨_,_,_,tk (.bool true) (ResL.nil),dj,?_⟩
 exact ⟨dm,dn,dp,rfl,rfl,dr,ds⟩
 refine aF rfl rfl (bm rfl rfl (fg bg))<|yq 4 [(118,Pt I 7),(115, .bool false),(105, .bool true),(0,Pt I 0),(4,V a0.At)] ?_
 have fx:I<ay:=az.1 _ (au (i:=0) rfl) _ (by simp [Itm.ids])
 refine aW (v:=J) rfl rfl rfl (by show I<_;omega) (aG (v:=J) (ah.dN (i:=1) rfl)) (ah.aV (i:=0) rfl (by kernel_rfl)) trivial<|yq 3 [(122,Pt I 7),(119,J),(115, .bool false),(105, .bool true),(0,Pt I 0),(4,V a0.At)] ?_
 have fy:I<ay:=az.1 _ (au (i:=0) rfl) _ (by simp [Itm.ids])
 refine aW (v:=J) rfl rfl rfl (by show I<_;omega) (aG (v:=J) (ah.dN (i:=1) rfl)) (ah.aV (i:=0) rfl (by kernel_rfl)) trivial<|aF rfl rfl (h7 rfl (ah.dP (i:=1) rfl (ak.mono ad.ag)) ⟨_,Tryz.underlying28⟩)<|yq 1 [(125,V (af ((a0.L.length:Int) - 1))),(119,J),(115, .bool false),(105, .bool true),(0,Pt I 0),(4,V a0.At)] ?_
 obtain ⟨bZ,U⟩:=aH U
 refine aF rfl rfl (bx rfl rfl (by kernel_rfl:slTy _ _=some (aa al)) (ah.bR (j:=1) rfl (ak.mono ad.ag) (by omega)) bZ.1 bZ.2)<|yq 1 [(127, .pointer (some (bw J (af ((a0.L.length:Int) - 1)) (aa al) 0))),(115, .bool false),(105, .bool true),(0,Pt I 0),(4,V a0.At)] ?_
 obtain ⟨b0,b1,U⟩:=ai U
 obtain ⟨fz,dt,du,fA⟩:=ah.cv (j:=1) rfl (ak.mono ad.ag) (i:=af ((a0.L.length:Int) - 1)) b1
 obtain rfl:=eH dt
 have dv:=dw b1
 have dx:=ah.bR (j:=1) rfl (ak.mono ad.ag) dv
 have fB:(baseOf J).block<ay:=dD (az.1 _ (au (i:=1) rfl)) dx
 refine dy rfl rfl rfl (by show (baseOf J).block<_;omega) (aG (v:=V b0.Kind) trivial) (bE (w:=V b0.Kind) du rfl (by kernel_rfl)) trivial ?_
 rcases ifs U with ⟨bh,U⟩ | ⟨bh,U⟩
 refine aF rfl rfl (bm rfl rfl (fm bh))<|ye 18 [(147, .bool true),(0,Pt I 0),(4,V a0.At)] ?_
 have dz:=ah.aY
 refine dT<|s0 ?_
 obtain ⟨fC,dA,U⟩:=ai U
 refine cE 3 dz (fun fD b2 dB b4=>ku F dB (RS.mono b2 (aj.mono ad.ag)) (bA.row (b4 _ (au (i:=1) rfl)) b2 (ak.mono ad.ag)) (b4 _ (au (i:=0) rfl)) dA) ?_
 rintro _ fE dC rfl
 obtain ⟨fF,dE,U⟩:=ai U
 refine cA 0 dC (fun p=>eA F p (aj.mono ad.ag) (ak.mono ad.ag) dE) ?_
 rintro _ fG fH _ fI dG ⟨dH,dI,dJ,rfl,rfl,dL,dO⟩
 refine xn 0<|sp 1<|rt<|⟨rfl,?_⟩
 obtain rfl:=si U
 obtain rfl:=si hm
 refine ⟨_,_,_,tk (.bool true) (ResL.nil),dG,?_⟩
 exact ⟨dH,dI,dJ,rfl,rfl,dL,dO⟩
 refine aF rfl rfl (bm rfl rfl (fg bh))<|yq 5 [(134,Pt I 7),(131, .bool false),(105, .bool true),(0,Pt I 0),(4,V a0.At)] ?_
 have fJ:I<ay:=az.1 _ (au (i:=0) rfl) _ (by simp [Itm.ids])
 refine aW (v:=J) rfl rfl rfl (by show I<_;omega) (aG (v:=J) (ah.dN (i:=1) rfl)) (ah.aV (i:=0) rfl (by kernel_rfl)) trivial<|yq 3 [(138,Pt I 7),(135,J),(131, .bool false),(105, .bool true),(0,Pt I 0),(4,V a0.At)] ?_
 have fK:I<ay:=az.1 _ (au (i:=0) rfl) _ (by simp [Itm.ids])
 refine aW (v:=J) rfl rfl rfl (by show I<_;omega) (aG (v:=J) (ah.dN (i:=1) rfl)) (ah.aV (i:=0) rfl (by kernel_rfl)) trivial<|aF rfl rfl (h7 rfl (ah.dP (i:=1) rfl (ak.mono ad.ag)) ⟨_,Tryz.underlying28⟩)<|yq 1 [(141,V (af ((a0.L.length:Int) - 1))),(135,J),(131, .bool false),(105, .bool true),(0,Pt I 0),(4,V a0.At)] ?_
 obtain ⟨b5,U⟩:=aH U
 refine aF rfl rfl (bx rfl rfl (by kernel_rfl:slTy _ _=some (aa al)) (ah.bR (j:=1) rfl (ak.mono ad.ag) (by omega)) b5.1 b5.2)<|yq 1 [(143, .pointer (some (bw J (af ((a0.L.length:Int) - 1)) (aa al) 0))),(131, .bool false),(105, .bool true),(0,Pt I 0),(4,V a0.At)] ?_
 obtain ⟨b6,b7,U⟩:=ai U
 obtain ⟨fL,dQ,dR,fM⟩:=ah.cv (j:=1) rfl (ak.mono ad.ag) (i:=af ((a0.L.length:Int) - 1)) b7
 obtain rfl:=eH dQ
 have dS:=dw b7
 have dV:=ah.bR (j:=1) rfl (ak.mono ad.ag) dS
 have fN:(baseOf J).block<ay:=dD (az.1 _ (au (i:=1) rfl)) dV
 refine dy rfl rfl rfl (by show (baseOf J).block<_;omega) (aG (v:=V b6.Kind) trivial) (bE (w:=V b6.Kind) dR rfl (by kernel_rfl)) trivial ?_
 rcases ifs U with ⟨bj,U⟩ | ⟨bj,U⟩
 refine aF rfl rfl (bm rfl rfl (fm bj))<|ye 2 [(147, .bool true),(0,Pt I 0),(4,V a0.At)] ?_
 have dW:=ah.aY
 refine dT<|s0 ?_
 obtain ⟨fO,dX,U⟩:=ai U
 refine cE 3 dW (fun fP b8 dY b9=>ku F dY (RS.mono b8 (aj.mono ad.ag)) (bA.row (b9 _ (au (i:=1) rfl)) b8 (ak.mono ad.ag)) (b9 _ (au (i:=0) rfl)) dX) ?_
 rintro _ fQ dZ rfl
 obtain ⟨fR,ea,U⟩:=ai U
 refine cA 0 dZ (fun p=>eA F p (aj.mono ad.ag) (ak.mono ad.ag) ea) ?_
 rintro _ fS fT _ fU eb ⟨ec,ed,ee,rfl,rfl,eg,eh⟩
 refine xn 0<|sp 1<|rt<|⟨rfl,?_⟩
 obtain rfl:=si U
 obtain rfl:=si hm
 refine ⟨_,_,_,tk (.bool true) (ResL.nil),eb,?_⟩
 exact ⟨ec,ed,ee,rfl,rfl,eg,eh⟩
 refine aF rfl rfl (bm rfl rfl (fg bj))<|ye 2 [(147, .bool false),(0,Pt I 0),(4,V a0.At)] ?_
 have ei:=ah.aY
 refine dF<|sk ?_
 obtain rfl:=si U
 exact ⟨_,rfl,(by kernel_rfl),ei⟩
 refine aF rfl trivial (bm rfl rfl (fg bf))<|ye 43 [(147, .bool false),(0,Pt I 0),(4,V a0.At)] ?_
 have ej:=ah.aY
 refine dF<|sk ?_
 obtain rfl:=si U
 exact ⟨_,rfl,(by kernel_rfl),ej⟩
 refine ek xV bD ?_
 intro ca fV cb aI
 refine yq 3 [(46,Pt I 1),(4,V a0.At),(3, .int .u8 (ar.toNat:Int)),(0,Pt I 0)] ?_
 have fW:I<ca:=cb.1 _ (au (i:=0) rfl) _ (by simp [Itm.ids])
 refine aW (v:=V a0.At) rfl trivial rfl (by show I<_;omega) (aG (v:=V a0.At) trivial) (aI.aV (i:=0) rfl (by kernel_rfl)) trivial<|yq 3 [(50,Pt I 2),(47,V a0.At),(4,V a0.At),(3, .int .u8 (ar.toNat:Int)),(0,Pt I 0)] ?_
 have fX:I<ca:=cb.1 _ (au (i:=0) rfl) _ (by simp [Itm.ids])
 refine aW (v:=V a0.Row) rfl trivial rfl (by show I<_;omega) (aG (v:=V a0.Row) trivial) (aI.aV (i:=0) rfl (by kernel_rfl)) trivial ?_
 rcases ifs av with ⟨bl,av⟩ | ⟨bl,av⟩
 refine aF rfl trivial (bm rfl rfl (fm bl))<|yq 2 [(54, .int .u8 (ar.toNat:Int)),(53, .bool true),(4,V a0.At),(3, .int .u8 (ar.toNat:Int)),(0,Pt I 0)] ?_
 rcases ifs av with ⟨bn,av⟩ | ⟨bn,av⟩
 refine aF rfl rfl (bm rfl rfl (fm bn))<|ye 1 [(56, .bool true),(4,V a0.At),(3, .int .u8 (ar.toNat:Int)),(0,Pt I 0)] ?_
 have en:=aI.aY
 obtain rfl:=si av
 exact ⟨_,true,rfl,(by kernel_rfl),en⟩
 refine aF rfl rfl (bm rfl rfl (fg bn))<|ye 1 [(56, .bool false),(4,V a0.At),(3, .int .u8 (ar.toNat:Int)),(0,Pt I 0)] ?_
 have eo:=aI.aY
 obtain rfl:=si av
 exact ⟨_,false,rfl,(by kernel_rfl),eo⟩
 refine aF rfl trivial (bm rfl rfl (fg bl))<|ye 4 [(56, .bool false),(4,V a0.At),(3, .int .u8 (ar.toNat:Int)),(0,Pt I 0)] ?_
 have ep:=aI.aY
 obtain rfl:=si av
 exact ⟨_,false,rfl,(by kernel_rfl),ep⟩
def AB:List br:=[uP 4 (mv 0),uP 5 (nk 4),uP 6 (fa 85 5 0),uL 7 (ld 23 6),uP 8 (mv 0),uP 9 (nk 8),uP 10 (fa 85 9 1),uL 11 (ld 3 10),uP 12 (ia 23 7 11),uL 13 (ld 5 12),uP 3 (sg 13)]
def o4 (F:Nat) (a0:aL):Option (Bool×aL):=
 if 0≤a0.At∧a0.At<(a0.B.length:Int) then
  (a0.B[a0.At.toNat]?).bind fun aa=>
  ((if (aa.toNat:Int)=(91:Int) then
    (dg F a0 8 (af (a0.At+1))).bind fun j=>
    some (.inl (⟨j.B,j.At,j.Row,af (j.Open+1),j.cj,j.cH,j.Text,j.L⟩:aL))
   else
    if (aa.toNat:Int)=(123:Int) then
     (dg F a0 9 (af (a0.At+1))).bind fun I=>
     some (.inl (⟨I.B,I.At,I.Row,af (I.Open+1),I.cj,I.cH,I.Text,I.L⟩:aL))
    else
     if (aa.toNat:Int)=(93:Int) then
      (dg F a0 10 (af (a0.At+1))).bind fun J=>
      some (.inl (⟨J.B,J.At,J.Row,imax (af (J.Open - 1)) 0,J.cj,J.cH,J.Text,J.L⟩:aL))
     else
      if (aa.toNat:Int)=(125:Int) then
       (dg F a0 11 (af (a0.At+1))).bind fun U=>
       some (.inl (⟨U.B,U.At,U.Row,imax (af (U.Open - 1)) 0,U.cj,U.cH,U.Text,U.L⟩:aL))
      else
       if (aa.toNat:Int)=(44:Int) then
        if (0:Int)<a0.Open then
         (dg F a0 7 (af (a0.At+1))).bind fun ab=>
         some (.inl ab)
        else
         some (.inr (false,a0))
       else
        some (.inr (false,a0))):Option (Sum aL (Bool×aL))).bind fun o=>match o with
   | .inl ad=>some (true,ad)
   | .inr y=>some y
 else none
theorem FE (F:Nat) {h:AH} {Z:Zn} {a0:aL} {ad aj ak ao} (hP:Pre Z h [.ae ad (bu aj ak a0), .gs ak ao (aa al)]) (ah:RS (α:=UInt8) Z aj a0.B) (an:RCs (α:=al) Z ao a0.L) {r:Bool×aL} (hm:o4 F a0=some r):
  bS Tryz.prog 43 [Pt ad 0] h Z [.ae ad (bu aj ak a0), .gs ak ao (aa al)] fun v Z' A'=>∃ aA v10 aB, .bool r.1=v∧A'=[.ae ad (bu aA v10 r.2), .gs v10 aB (aa al)]∧RS (α:=UInt8) Z' aA r.2.B∧RCs (α:=al) Z' aB r.2.L:=by
 refine b3 Tryz.func43 hP ?_
 intro hs hS
 unfold o4 at hm
 refine sp 1<|sq<|cY AB hS ?_
 intro aC bT aE ar
 refine yq 3 [(6,Pt ad 0),(0,Pt ad 0)] ?_
 have bU:ad<aC:=aE.1 _ (au (i:=0) rfl) _ (by simp [Itm.ids])
 refine aW (v:=aj) rfl trivial rfl (by show ad<_;omega) (aG (v:=aj) (RS.cM ah)) (ar.aV (i:=0) rfl (by kernel_rfl)) trivial<|yq 3 [(10,Pt ad 1),(7,aj),(0,Pt ad 0)] ?_
 have bW:ad<aC:=aE.1 _ (au (i:=0) rfl) _ (by simp [Itm.ids])
 refine aW (v:=V a0.At) rfl trivial rfl (by show ad<_;omega) (aG (v:=V a0.At) trivial) (ar.aV (i:=0) rfl (by kernel_rfl)) trivial ?_
 obtain ⟨aI,hm⟩:=aH hm
 refine aF rfl trivial (bx rfl rfl (by kernel_rfl:slTy _ _=some (aa UInt8)) (RS.cG ah (by omega)) aI.1 aI.2) ?_
 obtain ⟨az,a6,hm⟩:=ai hm
 obtain ⟨bX,a7,a8⟩:=RS.bV ah (i:=a0.At) a6
 obtain rfl:=pk a7
 refine cg rfl rfl trivial (fun h2 hz=>bE (w:= .int .u8 (az.toNat:Int)) (a8 h2 hz) rfl (by kernel_rfl)) (ar.bO (aO.refl _)) (aG (v:= .int .u8 (az.toNat:Int)) trivial) trivial<|ye 1 [(3, .int .u8 (az.toNat:Int)),(0,Pt ad 0)] ?_
 have ag:=ar.aY
 obtain ⟨a9,j,hm⟩:=ai hm
 refine aJ [] (fun l h=>∃ av aq aw ax ay, .inl aq=a9∧RS (α:=UInt8) av aw aq.B∧RCs (α:=al) av ay aq.L∧l=[]∧St hs (a2 [.ae ad (bu aj ak a0), .gs ak ao (aa al)]) Z (0,0) av h [.ae ad (bu aw ax aq), .gs ax ay (aa al)]) ?_ ?_
 rintro l bY ⟨av,aq,aw,ax,ay,rfl,ba,bb,rfl,bc⟩
 try dsimp only at hm
 refine sp 1<|rt<|⟨rfl,?_⟩
 obtain rfl:=si hm
 refine ⟨_,_,_,tk (.bool true) (ResL.nil),bc,?_⟩
 exact ⟨aw,ax,ay,rfl,rfl,ba,bb⟩
 refine bk 0<|s0<|aK 1 j ?_ ?_ (kd:= .u8)<;>intro bZ j
 refine xn 1<|dT<|s0<|aD 4 0 (V a0.At) ag rfl ?_
 obtain ⟨I,bd,j⟩:=ai j
 refine cA 1 ag (fun p=>eA F p ah an bd) ?_
 rintro _ b0 b1 _ b2 aM ⟨aN,aP,bf,rfl,rfl,bg,bh⟩
 refine xn 0<|g0<|aD 3 0 (V I.Open) aM rfl<|bG 3 0 (V (af (I.Open+1))) [V (af (I.Open+1))] [aN,V I.At,V I.Row,V (af (I.Open+1)),V I.cj, .bool I.cH,V I.Text,aP] aM rfl rfl rfl ?_
 intro b4 bl
 refine xn 0 ?_
 obtain rfl:=si j
 exact ⟨_,(⟨I.B,I.At,I.Row,af (I.Open+1),I.cj,I.cH,I.Text,I.L⟩:aL),aN,aP,bf,rfl,bg,bh,(by kernel_rfl),bl⟩
 refine xn 1<|dF<|s0<|aK 1 j ?_ ?_ (kd:= .u8)<;>intro b5 j
 refine xn 1<|dT<|s0<|aD 4 0 (V a0.At) ag rfl ?_
 obtain ⟨J,bm,j⟩:=ai j
 refine cA 1 ag (fun p=>eA F p ah an bm) ?_
 rintro _ b6 b7 _ b8 aQ ⟨aS,aT,bn,rfl,rfl,bo,bp⟩
 refine xn 0<|g0<|aD 3 0 (V J.Open) aQ rfl<|bG 3 0 (V (af (J.Open+1))) [V (af (J.Open+1))] [aS,V J.At,V J.Row,V (af (J.Open+1)),V J.cj, .bool J.cH,V J.Text,aT] aQ rfl rfl rfl ?_
 intro b9 bq
 refine xn 0 ?_
 obtain rfl:=si j
 exact ⟨_,(⟨J.B,J.At,J.Row,af (J.Open+1),J.cj,J.cH,J.Text,J.L⟩:aL),aS,aT,bn,rfl,bo,bp,(by kernel_rfl),bq⟩
 refine xn 1<|dF<|s0<|aK 1 j ?_ ?_ (kd:= .u8)<;>intro ca j
 refine xn 1<|dT<|s0<|aD 4 0 (V a0.At) ag rfl ?_
 obtain ⟨U,bt,j⟩:=ai j
 refine cA 1 ag (fun p=>eA F p ah an bt) ?_
 rintro _ cb cc _ cd aU ⟨aX,aZ,bw,rfl,rfl,bz,bA⟩
 refine xn 0<|g0<|aD 4 0 (V U.Open) aU rfl<|bG 4 0 (V (imax (af (U.Open - 1)) 0)) [V (imax (af (U.Open - 1)) 0)] [aX,V U.At,V U.Row,V (imax (af (U.Open - 1)) 0),V U.cj, .bool U.cH,V U.Text,aZ] aU rfl rfl rfl ?_
 intro cf bB
 refine xn 0 ?_
 obtain rfl:=si j
 exact ⟨_,(⟨U.B,U.At,U.Row,imax (af (U.Open - 1)) 0,U.cj,U.cH,U.Text,U.L⟩:aL),aX,aZ,bw,rfl,bz,bA,(by kernel_rfl),bB⟩
 refine xn 1<|dF<|s0<|aK 1 j ?_ ?_ (kd:= .u8)<;>intro ch j
 refine xn 1<|dT<|s0<|aD 4 0 (V a0.At) ag rfl ?_
 obtain ⟨ab,bC,j⟩:=ai j
 refine cA 1 ag (fun p=>eA F p ah an bC) ?_
 rintro _ ck cl _ cm a1 ⟨a3,a5,bD,rfl,rfl,bF,bH⟩
 refine xn 0<|g0<|aD 4 0 (V ab.Open) a1 rfl<|bG 4 0 (V (imax (af (ab.Open - 1)) 0)) [V (imax (af (ab.Open - 1)) 0)] [a3,V ab.At,V ab.Row,V (imax (af (ab.Open - 1)) 0),V ab.cj, .bool ab.cH,V ab.Text,a5] a1 rfl rfl rfl ?_
 intro cn bI
 refine xn 0 ?_
 obtain rfl:=si j
 exact ⟨_,(⟨ab.B,ab.At,ab.Row,imax (af (ab.Open - 1)) 0,ab.cj,ab.cH,ab.Text,ab.L⟩:aL),a3,a5,bD,rfl,bF,bH,(by kernel_rfl),bI⟩
 refine xn 1<|dF<|s0<|aK 1 j ?_ ?_ (kd:= .u8)<;>intro cp j
 refine aD 4 0 (V a0.Open) ag rfl<|cZ 0 j ?_ ?_<;>intro cq j
 refine xn 2<|dT<|g0<|aD 4 0 (V a0.At) ag rfl ?_
 obtain ⟨bJ,bK,j⟩:=ai j
 refine cA 1 ag (fun p=>eA F p ah an bK) ?_
 rintro _ cr ct _ cu bL ⟨bM,bN,bP,rfl,rfl,bQ,bR⟩
 refine xn 0 ?_
 obtain rfl:=si j
 exact ⟨_,bJ,bM,bN,bP,rfl,bQ,bR,(by kernel_rfl),bL⟩
 refine xn 2<|dF<|sp 1<|rt<|bj<|⟨rfl,?_⟩
 obtain rfl:=si j
 obtain rfl:=si hm
 refine ⟨_,_,_,tk (.bool false) (ResL.nil),ag,?_⟩
 exact ⟨aj,ak,ao,rfl,rfl,ah,an⟩
 refine xn 8<|dF<|sp 1<|rt<|bj<|⟨rfl,?_⟩
 obtain rfl:=si j
 obtain rfl:=si hm
 refine ⟨_,_,_,tk (.bool false) (ResL.nil),ag,?_⟩
 exact ⟨aj,ak,ao,rfl,rfl,ah,an⟩
def correctorref1_sign_l0 (F:Nat) (a0:List UInt8) (a1:Int) (J:Int) (U:Int):Nat→Int→Int→Option (Sum Int (Int×Int))
 | 0,_,_=>none
 | n+1,I,j=>
  if j<a1 then
   if 0≤j∧j<(a0.length:Int) then
    (a0[j.toNat]?).bind fun aa=>
    if (aa.toNat:Int)<(128:Int) then
     some (.inr ((-1),1))
    else
     if 0≤j∧j<(a0.length:Int) then
      (a0[j.toNat]?).bind fun ab=>
      if (191:Int)<(ab.toNat:Int) then
       some (.inr ((-1),1))
      else
       if 0≤j∧j<(a0.length:Int) then
        (a0[j.toNat]?).bind fun ad=>
        correctorref1_sign_l0 F a0 a1 J U n (bf .i32 (tv .i32 I 6) (IntKind.wrap .i32 (bJ .u8 (ad.toNat:Int) 63))) (af (j+1))
       else none
     else none
   else none
  else
   some (.inl I)
def jI (F:Nat) (a0:List UInt8) (a1:Int) (I:Int) (J:Int):Option (Int×Int):=
 if (a0.length:Int)<a1 then
  some ((-1),1)
 else
  ((correctorref1_sign_l0 F a0 a1 I J F I 1):Option (Sum Int (Int×Int))).bind fun o=>match o with
   | .inl j=>((if j<J then
     some (.inr ((-1),1))
    else
     if (1114111:Int)<j then
      some (.inr ((-1),1))
     else
      if (55296:Int)≤j then
       if j≤(57343:Int) then
        some (.inr ((-1),1))
       else
        some (.inl ())
      else
       some (.inl ())):Option (Sum Unit (Int×Int))).bind fun o=>match o with
    | .inl ()=>some (j,a1)
    | .inr y=>some y
   | .inr y=>some y
theorem qv (F:Nat) {h:AH} {Z:Zn} {a0:List UInt8} {a1:Int} {ah:Int} {aa:Int} {v2} (hI:Inv Z h) (U:RS (α:=UInt8) Z v2 a0) {r:Int×Int} (hm:jI F a0 a1 ah aa=some r):
  bY Tryz.prog 78 [v2,V a1, .int .i32 ah, .int .i32 aa] h Z (.tuple #[.int .i32 r.1,V r.2]):=by
 refine b1 Tryz.func78 hI ?_
 intro hs hS
 unfold jI at hm
 refine sp 2<|sq<|s0<|bC 1 v2 (RS.len U)<|aT 1 hm ?_ ?_<;>intro az hm
 refine xn 0<|dT<|sp 2<|rt<|⟨rfl,?_⟩
 obtain rfl:=si hm
 refine ⟨_,_,_,tk (.int .i32 (-1)) (tk (V 1) (ResL.nil)),hS,?_⟩
 exact rfl
 refine xn 0<|dF<|sk<|sq<|sp 1 ?_
 obtain ⟨an,j,hm⟩:=ai hm
 refine aJ [1,2,3] (fun l h=>∃ aq ab, .inl ab=an∧l=[(1,V a1),(2, .int .i32 ab),(3, .int .i32 aa)]∧St hs [] Z (0,0) aq h []) ?_ ?_
 rintro l aA ⟨aq,ab,rfl,rfl,ad⟩
 try dsimp only at hm
 refine sq ?_
 obtain ⟨ax,I,hm⟩:=ai hm
 refine dM [1,2] (fun l h=>∃ ar, .inl ()=ax∧l=[(1,V a1),(2, .int .i32 ab)]∧St hs [] Z (0,0) ar h []) (by kernel_rfl) ?_ ?_
 rintro l aB ⟨ar,rfl,rfl,ay⟩
 try dsimp only at hm
 refine sp 4<|rt<|⟨rfl,?_⟩
 obtain rfl:=si hm
 refine ⟨_,_,_,tk (.int .i32 ab) (tk (V a1) (ResL.nil)),ay,?_⟩
 exact rfl
 refine g0<|aT 2 I ?_ ?_ (kd:= .i32)<;>intro aC I
 refine xn 12<|dT<|sp 2<|rt<|⟨rfl,?_⟩
 obtain rfl:=si I
 obtain rfl:=si hm
 refine ⟨_,_,_,tk (.int .i32 (-1)) (tk (V 1) (ResL.nil)),ad,?_⟩
 exact rfl
 refine cZ 2 I ?_ ?_ (kd:= .i32)<;>intro aD I
 refine xn 9<|dT<|sp 2<|rt<|⟨rfl,?_⟩
 obtain rfl:=si I
 obtain rfl:=si hm
 refine ⟨_,_,_,tk (.int .i32 (-1)) (tk (V 1) (ResL.nil)),ad,?_⟩
 exact rfl
 refine cS 3 I ?_ ?_ (kd:= .i32)<;>intro aE I
 refine e4 2 I ?_ ?_ (kd:= .i32)<;>intro aF I
 refine xn 2<|dT<|sp 2<|rt<|⟨rfl,?_⟩
 obtain rfl:=si I
 obtain rfl:=si hm
 refine ⟨_,_,_,tk (.int .i32 (-1)) (tk (V 1) (ResL.nil)),ad,?_⟩
 exact rfl
 refine xn 2<|dF<|sk ?_
 obtain rfl:=si I
 exact ⟨_,rfl,(by kernel_rfl),ad⟩
 refine xn 5<|dF<|sk ?_
 obtain rfl:=si I
 exact ⟨_,rfl,(by kernel_rfl),ad⟩
 refine bk 0<|lp [0,1,2,3,10] (fun n l h=>∃ au ae aj,correctorref1_sign_l0 F a0 a1 ah aa n ae aj=some an∧l=[(0,v2),(1,V a1),(2, .int .i32 ae),(3, .int .i32 aa),(10,V aj)]∧St hs [] Z (0,0) au h []) F ⟨_,ah,1,j,(by kernel_rfl),hS⟩ ?_
 rintro ao l aG ⟨au,ae,aj,j,rfl,J⟩
 rcases ao with _ | ao
 cases (show none=some an from j)
 rw [correctorref1_sign_l0] at j
 refine sq<|s0<|aT 2 j ?_ ?_<;>intro aH j
 refine xn 0<|dT<|sk<|sq<|bk 1<|sq<|s0<|a8 2 j (U.mono J.ag) ?_
 intro aI j
 refine bt 0 0 (fun av=> .int .u8 (av.toNat:Int)) j (U.mono J.ag) J ?_
 intro av aK j
 refine aT 0 j ?_ ?_ (kd:= .u8)<;>intro aL j
 refine xn 7<|dT<|sp 2<|rt<|bj<|bj<|⟨rfl,?_⟩
 obtain rfl:=si j
 obtain rfl:=si hm
 refine ⟨_,_,_,tk (.int .i32 (-1)) (tk (V 1) (ResL.nil)),J,?_⟩
 exact rfl
 refine a8 3 j (U.mono J.ag) ?_
 intro aM j
 refine bt 0 0 (fun aw=> .int .u8 (aw.toNat:Int)) j (U.mono J.ag) J ?_
 intro aw aN j
 refine cZ 0 j ?_ ?_ (kd:= .u8)<;>intro aO j
 refine xn 1<|dT<|sp 2<|rt<|bj<|bj<|⟨rfl,?_⟩
 obtain rfl:=si j
 obtain rfl:=si hm
 refine ⟨_,_,_,tk (.int .i32 (-1)) (tk (V 1) (ResL.nil)),J,?_⟩
 exact rfl
 refine xn 1<|dF<|sk<|g0<|a8 4 j (U.mono J.ag) ?_
 intro aP j
 refine bt 0 0 (fun ak=> .int .u8 (ak.toNat:Int)) j (U.mono J.ag) J ?_
 intro ak aQ j
 refine eR 1 (.int .i32 (IntKind.wrap .i32 (bJ .u8 (ak.toNat:Int) 63)))<|xn 2<|gp 3 ?_
 exact ⟨ao,a7 _,⟨_,bf .i32 (tv .i32 ae 6) (IntKind.wrap .i32 (bJ .u8 (ak.toNat:Int) 63)),af (aj+1),j,(by kernel_rfl),J⟩⟩
 refine xn 0<|dF<|xt 0<|aS ?_
 obtain rfl:=si j
 exact ⟨_,ae,rfl,(by kernel_rfl),J⟩
def jY (F:Nat) (a0:List UInt8):Option (Int×Int):=
 if (a0.length:Int)=(0:Int) then
  some ((-1),0)
 else
  if 0≤(0:Int)∧(0:Int)<(a0.length:Int) then
   (a0[(0:Int).toNat]?).bind fun j=>
   ((if (j.toNat:Int)<(128:Int) then
     some (.inr (IntKind.wrap .i32 (j.toNat:Int),1))
    else
     ((if (192:Int)≤(j.toNat:Int) then
       if (j.toNat:Int)<(224:Int) then
        some true
       else
        some false
      else
       some false):Option Bool).bind fun o=>match o with
      | aa=>if aa=true then
       (jI F a0 2 (IntKind.wrap .i32 (bJ .u8 (j.toNat:Int) 31)) 128).bind fun I=>
       some (.inr (I.1,I.2))
      else
       ((if (224:Int)≤(j.toNat:Int) then
         if (j.toNat:Int)<(240:Int) then
          some true
         else
          some false
        else
         some false):Option Bool).bind fun o=>match o with
        | ab=>if ab=true then
         (jI F a0 3 (IntKind.wrap .i32 (bJ .u8 (j.toNat:Int) 15)) 2048).bind fun J=>
         some (.inr (J.1,J.2))
        else
         if (240:Int)≤(j.toNat:Int) then
          if (j.toNat:Int)<(248:Int) then
           (jI F a0 4 (IntKind.wrap .i32 (bJ .u8 (j.toNat:Int) 7)) 65536).bind fun U=>
           some (.inr (U.1,U.2))
          else
           some (.inl ())
         else
          some (.inl ())):Option (Sum Unit (Int×Int))).bind fun o=>match o with
    | .inl ()=>some ((-1),1)
    | .inr y=>some y
  else none
theorem pR (F:Nat) {h:AH} {Z:Zn} {a0:List UInt8} {v2} (hI:Inv Z h) (ab:RS (α:=UInt8) Z v2 a0) {r:Int×Int} (hm:jY F a0=some r):
  bY Tryz.prog 63 [v2] h Z (.tuple #[.int .i32 r.1,V r.2]):=by
 refine b1 Tryz.func63 hI ?_
 intro hs hS
 unfold jY at hm
 refine sp 2<|sq<|s0<|bC 1 v2 (RS.len ab)<|aK 0 hm ?_ ?_<;>intro aD hm
 refine xn 0<|dT<|sp 2<|rt<|⟨rfl,?_⟩
 obtain rfl:=si hm
 refine ⟨_,_,_,tk (.int .i32 (-1)) (tk (V 0) (ResL.nil)),hS,?_⟩
 exact rfl
 refine xn 0<|dF<|sk<|s0<|a8 1 hm ab ?_
 intro aE hm
 refine bt 0 0 (fun I=> .int .u8 (I.toNat:Int)) hm ab hS ?_
 intro I aF hm
 refine xn 1<|sq<|bk 0 ?_
 obtain ⟨ar,j,hm⟩:=ai hm
 refine dM [] (fun l h=>∃ ah, .inl ()=ar∧l=[]∧St hs [] Z (0,0) ah h []) (by kernel_rfl) ?_ ?_
 rintro l aG ⟨ah,rfl,rfl,au⟩
 try dsimp only at hm
 refine sp 2<|rt<|⟨rfl,?_⟩
 obtain rfl:=si hm
 refine ⟨_,_,_,tk (.int .i32 (-1)) (tk (V 1) (ResL.nil)),au,?_⟩
 exact rfl
 refine g0<|aT 1 j ?_ ?_ (kd:= .u8)<;>intro aH j
 refine xn 1<|dT<|s0<|eR 1 (.int .i32 (IntKind.wrap .i32 (I.toNat:Int)))<|xn 2<|rt<|bj<|⟨rfl,?_⟩
 obtain rfl:=si j
 obtain rfl:=si hm
 refine ⟨_,_,_,tk (.int .i32 (IntKind.wrap .i32 (I.toNat:Int))) (tk (V 1) (ResL.nil)),hS,?_⟩
 exact rfl
 refine xn 1<|dF<|sq ?_
 obtain ⟨av,U,j⟩:=ai j
 refine aJ [0,4,16] (fun l h=>∃ aj ae,ae=av∧l=[(0,v2),(4, .int .u8 (I.toNat:Int)),(16, .bool ae)]∧St hs [] Z (0,0) aj h []) ?_ ?_
 rintro l aI ⟨aj,ae,rfl,rfl,ad⟩
 try dsimp only at j
 refine db j ?_ ?_<;>intro aL j
 refine s0<|eR 3 (.int .i32 (IntKind.wrap .i32 (bJ .u8 (I.toNat:Int) 31))) ?_
 obtain ⟨ak,aw,j⟩:=ai j
 refine cP 0 ad (qv F ad.inv (ab.mono ad.ag) aw) ?_
 rintro _ aM ax rfl
 refine xn 4<|rt<|bj<|⟨rfl,?_⟩
 obtain rfl:=si j
 obtain rfl:=si hm
 refine ⟨_,_,_,tk (.int .i32 ak.1) (tk (V ak.2) (ResL.nil)),ax,?_⟩
 exact rfl
 refine sq ?_
 obtain ⟨ay,aa,j⟩:=ai j
 refine aJ [0,4,30] (fun l h=>∃ an af,af=ay∧l=[(0,v2),(4, .int .u8 (I.toNat:Int)),(30, .bool af)]∧St hs [] Z (0,0) an h []) ?_ ?_
 rintro l aN ⟨an,af,rfl,rfl,J⟩
 try dsimp only at j
 refine db j ?_ ?_<;>intro aO j
 refine s0<|eR 3 (.int .i32 (IntKind.wrap .i32 (bJ .u8 (I.toNat:Int) 15))) ?_
 obtain ⟨ao,az,j⟩:=ai j
 refine cP 0 J (qv F J.inv (ab.mono J.ag) az) ?_
 rintro _ aP aA rfl
 refine xn 4<|rt<|bj<|⟨rfl,?_⟩
 obtain rfl:=si j
 obtain rfl:=si hm
 refine ⟨_,_,_,tk (.int .i32 ao.1) (tk (V ao.2) (ResL.nil)),aA,?_⟩
 exact rfl
 refine s0<|cS 1 j ?_ ?_ (kd:= .u8)<;>intro aQ j
 refine aT 2 j ?_ ?_ (kd:= .u8)<;>intro aS j
 refine xn 2<|dT<|s0<|eR 3 (.int .i32 (IntKind.wrap .i32 (bJ .u8 (I.toNat:Int) 7))) ?_
 obtain ⟨aq,aB,j⟩:=ai j
 refine cP 0 J (qv F J.inv (ab.mono J.ag) aB) ?_
 rintro _ aU aC rfl
 refine xn 4<|rt<|bj<|⟨rfl,?_⟩
 obtain rfl:=si j
 obtain rfl:=si hm
 refine ⟨_,_,_,tk (.int .i32 aq.1) (tk (V aq.2) (ResL.nil)),aC,?_⟩
 exact rfl
 refine xn 2<|dF<|sk ?_
 obtain rfl:=si j
 exact ⟨_,rfl,(by kernel_rfl),J⟩
 refine xn 5<|dF<|sk ?_
 obtain rfl:=si j
 exact ⟨_,rfl,(by kernel_rfl),J⟩
 refine g0<|cS 1 aa ?_ ?_ (kd:= .u8)<;>intro aV aa
 refine aT 2 aa ?_ ?_ (kd:= .u8)<;>intro aW aa
 refine xn 2 ?_
 obtain rfl:=si aa
 exact ⟨_,true,rfl,(by kernel_rfl),ad⟩
 refine xn 2 ?_
 obtain rfl:=si aa
 exact ⟨_,false,rfl,(by kernel_rfl),ad⟩
 refine xn 5 ?_
 obtain rfl:=si aa
 exact ⟨_,false,rfl,(by kernel_rfl),ad⟩
 refine g0<|cS 1 U ?_ ?_ (kd:= .u8)<;>intro aX U
 refine aT 2 U ?_ ?_ (kd:= .u8)<;>intro aY U
 refine xn 2 ?_
 obtain rfl:=si U
 exact ⟨_,true,rfl,(by kernel_rfl),hS⟩
 refine xn 2 ?_
 obtain rfl:=si U
 exact ⟨_,false,rfl,(by kernel_rfl),hS⟩
 refine xn 5 ?_
 obtain rfl:=si U
 exact ⟨_,false,rfl,(by kernel_rfl),hS⟩
def mZ (F:Nat) (a0:Int):Option Bool:=
 if (97:Int)≤a0 then
  if a0≤(122:Int) then
   some true
  else
   if (65:Int)≤a0 then
    if a0≤(90:Int) then
     some true
    else
     if (48:Int)≤a0 then
      if a0≤(57:Int) then
       some true
      else
       if a0=(95:Int) then
        some true
       else
        if a0=(45:Int) then
         some true
        else
         some false
     else
      if a0=(95:Int) then
       some true
      else
       if a0=(45:Int) then
        some true
       else
        some false
   else
    if (48:Int)≤a0 then
     if a0≤(57:Int) then
      some true
     else
      if a0=(95:Int) then
       some true
      else
       if a0=(45:Int) then
        some true
       else
        some false
    else
     if a0=(95:Int) then
      some true
     else
      if a0=(45:Int) then
       some true
      else
       some false
 else
  if (65:Int)≤a0 then
   if a0≤(90:Int) then
    some true
   else
    if (48:Int)≤a0 then
     if a0≤(57:Int) then
      some true
     else
      if a0=(95:Int) then
       some true
      else
       if a0=(45:Int) then
        some true
       else
        some false
    else
     if a0=(95:Int) then
      some true
     else
      if a0=(45:Int) then
       some true
      else
       some false
  else
   if (48:Int)≤a0 then
    if a0≤(57:Int) then
     some true
    else
     if a0=(95:Int) then
      some true
     else
      if a0=(45:Int) then
       some true
      else
       some false
   else
    if a0=(95:Int) then
     some true
    else
     if a0=(45:Int) then
      some true
     else
      some false
theorem xE (F:Nat) {h:AH} {Z:Zn} {a0:Int} (hI:Inv Z h) {r:Bool} (hm:mZ F a0=some r):
  bY Tryz.prog 79 [.int .u8 a0] h Z (.bool r):=by
 refine b1 Tryz.func79 hI ?_
 intro hs hS
 unfold mZ at hm
 refine sp 1<|s0<|cS 1 hm ?_ ?_ (kd:= .u8)<;>intro j hm
 refine e4 2 hm ?_ ?_ (kd:= .u8)<;>intro I hm
 refine xn 26<|rt<|⟨rfl,?_⟩
 obtain rfl:=si hm
 refine ⟨_,_,_,tk (.bool true) (ResL.nil),hS,?_⟩
 exact rfl
 refine cS 3 hm ?_ ?_ (kd:= .u8)<;>intro J hm
 refine e4 2 hm ?_ ?_ (kd:= .u8)<;>intro U hm
 refine xn 19<|rt<|⟨rfl,?_⟩
 obtain rfl:=si hm
 refine ⟨_,_,_,tk (.bool true) (ResL.nil),hS,?_⟩
 exact rfl
 refine cS 4 hm ?_ ?_ (kd:= .u8)<;>intro aa hm
 refine e4 2 hm ?_ ?_ (kd:= .u8)<;>intro ab hm
 refine xn 11<|rt<|⟨rfl,?_⟩
 obtain rfl:=si hm
 refine ⟨_,_,_,tk (.bool true) (ResL.nil),hS,?_⟩
 exact rfl
 refine aK 4 hm ?_ ?_ (kd:= .u8)<;>intro ad hm
 refine xn 6<|rt<|⟨rfl,?_⟩
 obtain rfl:=si hm
 refine ⟨_,_,_,tk (.bool true) (ResL.nil),hS,?_⟩
 exact rfl
 refine aK 3 hm ?_ ?_ (kd:= .u8)<;>intro ae hm
 refine xn 2<|rt<|⟨rfl,?_⟩
 obtain rfl:=si hm
 refine ⟨_,_,_,tk (.bool true) (ResL.nil),hS,?_⟩
 exact rfl
 refine xn 2<|rt<|⟨rfl,?_⟩
 obtain rfl:=si hm
 refine ⟨_,_,_,tk (.bool false) (ResL.nil),hS,?_⟩
 exact rfl
 refine aK 7 hm ?_ ?_ (kd:= .u8)<;>intro af hm
 refine xn 6<|rt<|⟨rfl,?_⟩
 obtain rfl:=si hm
 refine ⟨_,_,_,tk (.bool true) (ResL.nil),hS,?_⟩
 exact rfl
 refine aK 3 hm ?_ ?_ (kd:= .u8)<;>intro ag hm
 refine xn 2<|rt<|⟨rfl,?_⟩
 obtain rfl:=si hm
 refine ⟨_,_,_,tk (.bool true) (ResL.nil),hS,?_⟩
 exact rfl
 refine xn 2<|rt<|⟨rfl,?_⟩
 obtain rfl:=si hm
 refine ⟨_,_,_,tk (.bool false) (ResL.nil),hS,?_⟩
 exact rfl
 refine cS 7 hm ?_ ?_ (kd:= .u8)<;>intro ah hm
 refine e4 2 hm ?_ ?_ (kd:= .u8)<;>intro ai hm
 refine xn 11<|rt<|⟨rfl,?_⟩
 obtain rfl:=si hm
 refine ⟨_,_,_,tk (.bool true) (ResL.nil),hS,?_⟩
 exact rfl
 refine aK 4 hm ?_ ?_ (kd:= .u8)<;>intro aj hm
 refine xn 6<|rt<|⟨rfl,?_⟩
 obtain rfl:=si hm
 refine ⟨_,_,_,tk (.bool true) (ResL.nil),hS,?_⟩
 exact rfl
 refine aK 3 hm ?_ ?_ (kd:= .u8)<;>intro ak hm
 refine xn 2<|rt<|⟨rfl,?_⟩
 obtain rfl:=si hm
 refine ⟨_,_,_,tk (.bool true) (ResL.nil),hS,?_⟩
 exact rfl
 refine xn 2<|rt<|⟨rfl,?_⟩
 obtain rfl:=si hm
 refine ⟨_,_,_,tk (.bool false) (ResL.nil),hS,?_⟩
 exact rfl
 refine aK 7 hm ?_ ?_ (kd:= .u8)<;>intro an hm
 refine xn 6<|rt<|⟨rfl,?_⟩
 obtain rfl:=si hm
 refine ⟨_,_,_,tk (.bool true) (ResL.nil),hS,?_⟩
 exact rfl
 refine aK 3 hm ?_ ?_ (kd:= .u8)<;>intro ao hm
 refine xn 2<|rt<|⟨rfl,?_⟩
 obtain rfl:=si hm
 refine ⟨_,_,_,tk (.bool true) (ResL.nil),hS,?_⟩
 exact rfl
 refine xn 2<|rt<|⟨rfl,?_⟩
 obtain rfl:=si hm
 refine ⟨_,_,_,tk (.bool false) (ResL.nil),hS,?_⟩
 exact rfl
 refine cS 6 hm ?_ ?_ (kd:= .u8)<;>intro aq hm
 refine e4 2 hm ?_ ?_ (kd:= .u8)<;>intro ar hm
 refine xn 19<|rt<|⟨rfl,?_⟩
 obtain rfl:=si hm
 refine ⟨_,_,_,tk (.bool true) (ResL.nil),hS,?_⟩
 exact rfl
 refine cS 4 hm ?_ ?_ (kd:= .u8)<;>intro au hm
 refine e4 2 hm ?_ ?_ (kd:= .u8)<;>intro av hm
 refine xn 11<|rt<|⟨rfl,?_⟩
 obtain rfl:=si hm
 refine ⟨_,_,_,tk (.bool true) (ResL.nil),hS,?_⟩
 exact rfl
 refine aK 4 hm ?_ ?_ (kd:= .u8)<;>intro aw hm
 refine xn 6<|rt<|⟨rfl,?_⟩
 obtain rfl:=si hm
 refine ⟨_,_,_,tk (.bool true) (ResL.nil),hS,?_⟩
 exact rfl
 refine aK 3 hm ?_ ?_ (kd:= .u8)<;>intro ax hm
 refine xn 2<|rt<|⟨rfl,?_⟩
 obtain rfl:=si hm
 refine ⟨_,_,_,tk (.bool true) (ResL.nil),hS,?_⟩
 exact rfl
 refine xn 2<|rt<|⟨rfl,?_⟩
 obtain rfl:=si hm
 refine ⟨_,_,_,tk (.bool false) (ResL.nil),hS,?_⟩
 exact rfl
 refine aK 7 hm ?_ ?_ (kd:= .u8)<;>intro ay hm
 refine xn 6<|rt<|⟨rfl,?_⟩
 obtain rfl:=si hm
 refine ⟨_,_,_,tk (.bool true) (ResL.nil),hS,?_⟩
 exact rfl
 refine aK 3 hm ?_ ?_ (kd:= .u8)<;>intro az hm
 refine xn 2<|rt<|⟨rfl,?_⟩
 obtain rfl:=si hm
 refine ⟨_,_,_,tk (.bool true) (ResL.nil),hS,?_⟩
 exact rfl
 refine xn 2<|rt<|⟨rfl,?_⟩
 obtain rfl:=si hm
 refine ⟨_,_,_,tk (.bool false) (ResL.nil),hS,?_⟩
 exact rfl
 refine cS 7 hm ?_ ?_ (kd:= .u8)<;>intro aA hm
 refine e4 2 hm ?_ ?_ (kd:= .u8)<;>intro aB hm
 refine xn 11<|rt<|⟨rfl,?_⟩
 obtain rfl:=si hm
 refine ⟨_,_,_,tk (.bool true) (ResL.nil),hS,?_⟩
 exact rfl
 refine aK 4 hm ?_ ?_ (kd:= .u8)<;>intro aC hm
 refine xn 6<|rt<|⟨rfl,?_⟩
 obtain rfl:=si hm
 refine ⟨_,_,_,tk (.bool true) (ResL.nil),hS,?_⟩
 exact rfl
 refine aK 3 hm ?_ ?_ (kd:= .u8)<;>intro aD hm
 refine xn 2<|rt<|⟨rfl,?_⟩
 obtain rfl:=si hm
 refine ⟨_,_,_,tk (.bool true) (ResL.nil),hS,?_⟩
 exact rfl
 refine xn 2<|rt<|⟨rfl,?_⟩
 obtain rfl:=si hm
 refine ⟨_,_,_,tk (.bool false) (ResL.nil),hS,?_⟩
 exact rfl
 refine aK 7 hm ?_ ?_ (kd:= .u8)<;>intro aE hm
 refine xn 6<|rt<|⟨rfl,?_⟩
 obtain rfl:=si hm
 refine ⟨_,_,_,tk (.bool true) (ResL.nil),hS,?_⟩
 exact rfl
 refine aK 3 hm ?_ ?_ (kd:= .u8)<;>intro aF hm
 refine xn 2<|rt<|⟨rfl,?_⟩
 obtain rfl:=si hm
 refine ⟨_,_,_,tk (.bool true) (ResL.nil),hS,?_⟩
 exact rfl
 refine xn 2<|rt<|⟨rfl,?_⟩
 obtain rfl:=si hm
 refine ⟨_,_,_,tk (.bool false) (ResL.nil),hS,?_⟩
 exact rfl
def kP (F:Nat) (a0:aL) (a1:Int) (I:Bool):Nat→Int→Option Int
 | 0,_=>none
 | n+1,j=>
  ((if j<(a0.B.length:Int) then
    if 0≤j∧j<(a0.B.length:Int) then
     (a0.B[j.toNat]?).bind fun J=>
     (mZ F (J.toNat:Int)).bind fun U=>
     if U=true then
      some (.inl ())
     else
      if I=true then
       if 0≤j∧j<(a0.B.length:Int) then
        (a0.B[j.toNat]?).bind fun aa=>
        if (aa.toNat:Int)=(33:Int) then
         some (.inl ())
        else
         some (.inr j)
       else none
      else
       some (.inr j)
    else none
   else
    some (.inr j)):Option (Sum Unit Int)).bind fun o=>match o with
   | .inl ()=>kP F a0 a1 I n (af (j+1))
   | .inr y=>some y
def lQ (F:Nat) (a0:aL) (a1:Int) (j:Bool):Option Int:=
 ((kP F a0 a1 j F a1):Option Int).bind fun o=>match o with
  | I=>some I
theorem uR (F:Nat) {h:AH} {Z:Zn} {a0:aL} {a1:Int} {ad:Bool} {ah aa aq} (hI:Inv Z h) (ae:RS (α:=UInt8) Z aa a0.B) (aC:RS (α:=al) Z aq a0.L) (ak:Z ah=some (bu aa aq a0)) {r:Int} (hm:lQ F a0 a1 ad=some r):
  bY Tryz.prog 64 [Pt ah 0,V a1, .bool ad] h Z (V r):=by
 refine b1 Tryz.func64 hI ?_
 intro hs hS
 unfold lQ at hm
 refine sp 1<|sq ?_
 obtain ⟨an,J,hm⟩:=ai hm
 refine aJ [1] (fun l h=>∃ ar aj,aj=an∧l=[(1,V aj)]∧St hs [] Z (0,0) ar h []) ?_ ?_
 rintro l aD ⟨ar,aj,rfl,rfl,ay⟩
 try dsimp only at hm
 refine sp 2<|rt<|⟨rfl,?_⟩
 obtain rfl:=si hm
 refine ⟨_,_,_,tk (V aj) (ResL.nil),ay,?_⟩
 exact rfl
 refine bk 0<|lp [0,1,2] (fun n l h=>∃ au U,kP F a0 a1 ad n U=some an∧l=[(0,Pt ah 0),(1,V U),(2, .bool ad)]∧St hs [] Z (0,0) au h []) F ⟨_,a1,J,(by kernel_rfl),hS⟩ ?_
 rintro ao l aE ⟨au,U,J,rfl,I⟩
 rcases ao with _ | ao
 cases (show none=some an from J)
 rw [kP] at J
 refine sq ?_
 obtain ⟨az,j,J⟩:=ai J
 refine aJ [0,1,2] (fun l h=>∃ av, .inl ()=az∧l=[(0,Pt ah 0),(1,V U),(2, .bool ad)]∧St hs [] Z (0,0) av h []) ?_ ?_
 rintro l aF ⟨av,rfl,rfl,aA⟩
 try dsimp only at J
 refine bk 1<|gp 3 ?_
 exact ⟨ao,a7 _,⟨_,af (U+1),J,(by kernel_rfl),aA⟩⟩
 refine s0<|bF 4 aa I (I.ag _ _ ak)<|bC 0 aa (RS.len (ae.mono I.ag))<|aT 0 j ?_ ?_<;>intro aG j
 refine bF 4 aa I (I.ag _ _ ak)<|a8 1 j (ae.mono I.ag) ?_
 intro aH j
 refine bt 0 0 (fun aw=> .int .u8 (aw.toNat:Int)) j (ae.mono I.ag) I ?_
 intro aw aI j
 obtain ⟨aM,aB,j⟩:=ai j
 refine cP 0 I (xE F I.inv aB) ?_
 rintro _ aN ab rfl
 refine kb 1 23 j ?_ ?_<;>intro aO j
 refine xn 13<|dT<|sk ?_
 obtain rfl:=si j
 exact ⟨_,rfl,(by kernel_rfl),ab⟩
 refine kb 2 25 j ?_ ?_<;>intro aP j
 refine bF 3 aa ab (I.ag _ _ ak)<|a8 1 j (ae.mono I.ag) ?_
 intro aQ j
 refine bt 0 0 (fun ax=> .int .u8 (ax.toNat:Int)) j (ae.mono I.ag) ab ?_
 intro ax aU j
 refine aK 0 j ?_ ?_ (kd:= .u8)<;>intro aV j
 refine xn 3<|dT<|sk ?_
 obtain rfl:=si j
 exact ⟨_,rfl,(by kernel_rfl),ab⟩
 refine xn 3<|dF<|xt 0<|aS ?_
 obtain rfl:=si j
 obtain rfl:=si J
 exact ⟨_,U,rfl,(by kernel_rfl),ab⟩
 refine xn 11<|dF<|xt 0<|aS ?_
 obtain rfl:=si j
 obtain rfl:=si J
 exact ⟨_,U,rfl,(by kernel_rfl),ab⟩
 refine xn 23<|dF<|xt 0<|aS ?_
 obtain rfl:=si j
 obtain rfl:=si J
 exact ⟨_,U,rfl,(by kernel_rfl),I⟩
def kv (F:Nat) (a0:Int):Option Bool:=
 if a0=(44:Int) then
  some true
 else
  if a0=(91:Int) then
   some true
  else
   if a0=(93:Int) then
    some true
   else
    if a0=(123:Int) then
     some true
    else
     if a0=(125:Int) then
      some true
     else
      some false
theorem q9 (F:Nat) {h:AH} {Z:Zn} {a0:Int} (hI:Inv Z h) {r:Bool} (hm:kv F a0=some r):
  bY Tryz.prog 80 [.int .u8 a0] h Z (.bool r):=by
 refine b1 Tryz.func80 hI ?_
 intro hs hS
 unfold kv at hm
 refine sp 1<|s0<|aK 1 hm ?_ ?_ (kd:= .u8)<;>intro j hm
 refine xn 17<|rt<|⟨rfl,?_⟩
 obtain rfl:=si hm
 refine ⟨_,_,_,tk (.bool true) (ResL.nil),hS,?_⟩
 exact rfl
 refine aK 2 hm ?_ ?_ (kd:= .u8)<;>intro I hm
 refine xn 14<|rt<|⟨rfl,?_⟩
 obtain rfl:=si hm
 refine ⟨_,_,_,tk (.bool true) (ResL.nil),hS,?_⟩
 exact rfl
 refine aK 3 hm ?_ ?_ (kd:= .u8)<;>intro J hm
 refine xn 10<|rt<|⟨rfl,?_⟩
 obtain rfl:=si hm
 refine ⟨_,_,_,tk (.bool true) (ResL.nil),hS,?_⟩
 exact rfl
 refine aK 3 hm ?_ ?_ (kd:= .u8)<;>intro U hm
 refine xn 6<|rt<|⟨rfl,?_⟩
 obtain rfl:=si hm
 refine ⟨_,_,_,tk (.bool true) (ResL.nil),hS,?_⟩
 exact rfl
 refine aK 3 hm ?_ ?_ (kd:= .u8)<;>intro aa hm
 refine xn 2<|rt<|⟨rfl,?_⟩
 obtain rfl:=si hm
 refine ⟨_,_,_,tk (.bool true) (ResL.nil),hS,?_⟩
 exact rfl
 refine xn 2<|rt<|⟨rfl,?_⟩
 obtain rfl:=si hm
 refine ⟨_,_,_,tk (.bool false) (ResL.nil),hS,?_⟩
 exact rfl
def lU (F:Nat) (a0:aL) (a1:Int):Option Bool:=
 (iN F a0 a1).bind fun j=>
 if (j.toNat:Int)=(58:Int) then
  if a1<(a0.B.length:Int) then
   (k4 F a0 (af (a1+1))).bind fun I=>
   if I=true then
    some true
   else
    if (0:Int)<a0.Open then
     (iN F a0 (af (a1+1))).bind fun J=>
     (kv F (J.toNat:Int)).bind fun U=>
     some U
    else
     some false
  else
   some false
 else
  some false
theorem wD (F:Nat) {h:AH} {Z:Zn} {a0:aL} {a1:Int} {ad U ae} (hI:Inv Z h) (aa:RS (α:=UInt8) Z U a0.B) (ab:RS (α:=al) Z ae a0.L) (j:Z ad=some (bu U ae a0)) {r:Bool} (hm:lU F a0 a1=some r):
  bY Tryz.prog 65 [Pt ad 0,V a1] h Z (.bool r):=by
 refine b1 Tryz.func65 hI ?_
 intro hs hS
 unfold lU at hm
 refine sp 1<|s0 ?_
 obtain ⟨aq,ag,hm⟩:=ai hm
 refine cP 2 hS (nj F hS.inv aa ab j ag) ?_
 rintro _ ar I rfl
 refine aK 0 hm ?_ ?_ (kd:= .u8)<;>intro au hm
 refine bF 5 U I j<|bC 0 U (RS.len aa)<|aT 0 hm ?_ ?_<;>intro av hm
 obtain ⟨aw,ah,hm⟩:=ai hm
 refine cP 5 I (rP F I.inv aa ab j ah) ?_
 rintro _ ax J rfl
 refine kb 1 23 hm ?_ ?_<;>intro ay hm
 refine xn 15<|rt<|⟨rfl,?_⟩
 obtain rfl:=si hm
 refine ⟨_,_,_,tk (.bool true) (ResL.nil),J,?_⟩
 exact rfl
 refine bF 3 (V a0.Open) J j<|cZ 0 hm ?_ ?_<;>intro az hm
 obtain ⟨aA,aj,hm⟩:=ai hm
 refine cP 4 J (nj F J.inv aa ab j aj) ?_
 rintro _ aB af rfl
 obtain ⟨ak,an,hm⟩:=ai hm
 refine cP 0 af (q9 F af.inv an) ?_
 rintro _ aC ao rfl
 refine xn 4<|rt<|⟨rfl,?_⟩
 obtain rfl:=si hm
 refine ⟨_,_,_,tk (.bool ak) (ResL.nil),ao,?_⟩
 exact rfl
 refine xn 10<|rt<|⟨rfl,?_⟩
 obtain rfl:=si hm
 refine ⟨_,_,_,tk (.bool false) (ResL.nil),J,?_⟩
 exact rfl
 refine xn 22<|rt<|⟨rfl,?_⟩
 obtain rfl:=si hm
 refine ⟨_,_,_,tk (.bool false) (ResL.nil),I,?_⟩
 exact rfl
 refine xn 30<|rt<|⟨rfl,?_⟩
 obtain rfl:=si hm
 refine ⟨_,_,_,tk (.bool false) (ResL.nil),I,?_⟩
 exact rfl
def correctorref6_scanner_single_l0 (F:Nat) (a0:aL) (a1:Int) (I:Int):Nat→Int→Option (Sum Unit Int)
 | 0,_=>none
 | n+1,j=>
  if j<I then
   ((if 0≤j∧j<(a0.B.length:Int) then
     (a0.B[j.toNat]?).bind fun J=>
     if (J.toNat:Int)=(39:Int) then
      ((if (af (j+1))<I then
        if 0≤(af (j+1))∧(af (j+1))<(a0.B.length:Int) then
         (a0.B[(af (j+1)).toNat]?).bind fun U=>
         if (U.toNat:Int)=(39:Int) then
          some (.inr (af (j+2)))
         else
          some (.inl ())
        else none
       else
        some (.inl ())):Option (Sum Unit Int)).bind fun o=>match o with
       | .inl ()=>some (.inr (af (j+1)))
       | .inr y=>some (.inl y)
     else
      some (.inl (af (j+1)))
    else none):Option (Sum Int Int)).bind fun o=>match o with
    | .inl aa=>correctorref6_scanner_single_l0 F a0 a1 I n aa
    | .inr y=>some (.inr y)
  else
   some (.inl ())
def nV (F:Nat) (a0:aL) (a1:Int) (j:Int):Option Int:=
 ((correctorref6_scanner_single_l0 F a0 a1 j F a1):Option (Sum Unit Int)).bind fun o=>match o with
  | .inl ()=>some j
  | .inr y=>some y
theorem Cl (F:Nat) {h:AH} {Z:Zn} {a0:aL} {a1:Int} {aa:Int} {ad ae ao} (hI:Inv Z h) (ah:RS (α:=UInt8) Z ae a0.B) (aE:RS (α:=al) Z ao a0.L) (aq:Z ad=some (bu ae ao a0)) {r:Int} (hm:nV F a0 a1 aa=some r):
  bY Tryz.prog 66 [Pt ad 0,V a1,V aa] h Z (V r):=by
 refine b1 Tryz.func66 hI ?_
 intro hs hS
 unfold nV at hm
 refine sp 1<|sq ?_
 obtain ⟨ak,I,hm⟩:=ai hm
 refine aJ [2] (fun l h=>∃ ar, .inl ()=ak∧l=[(2,V aa)]∧St hs [] Z (0,0) ar h []) ?_ ?_
 rintro l aF ⟨ar,rfl,rfl,az⟩
 try dsimp only at hm
 refine sp 2<|rt<|⟨rfl,?_⟩
 obtain rfl:=si hm
 refine ⟨_,_,_,tk (V aa) (ResL.nil),az,?_⟩
 exact rfl
 refine bk 0<|lp [0,1,2] (fun n l h=>∃ au ab,correctorref6_scanner_single_l0 F a0 a1 aa n ab=some ak∧l=[(0,Pt ad 0),(1,V ab),(2,V aa)]∧St hs [] Z (0,0) au h []) F ⟨_,a1,I,(by kernel_rfl),hS⟩ ?_
 rintro an l aG ⟨au,ab,I,rfl,j⟩
 rcases an with _ | an
 cases (show none=some ak from I)
 rw [correctorref6_scanner_single_l0] at I
 refine sq<|s0<|aT 2 I ?_ ?_<;>intro aH I
 refine xn 0<|dT<|sk ?_
 obtain ⟨aA,J,I⟩:=ai I
 refine aJ [0,1,2] (fun l h=>∃ av aj, .inl aj=aA∧l=[(0,Pt ad 0),(1,V aj),(2,V aa)]∧St hs [] Z (0,0) av h []) ?_ ?_
 rintro l aI ⟨av,aj,rfl,rfl,aB⟩
 try dsimp only at I
 exact ⟨an,a7 _,⟨_,aj,I,(by kernel_rfl),aB⟩⟩
 refine bk 1<|sq<|s0<|bF 3 ae j (j.ag _ _ aq)<|a8 1 J (ah.mono j.ag) ?_
 intro aM J
 refine bt 0 0 (fun aw=> .int .u8 (aw.toNat:Int)) J (ah.mono j.ag) j ?_
 intro aw aN J
 refine dv 0 J ?_ ?_ (kd:= .u8)<;>intro aO J
 refine xn 0<|dF<|sk<|sq ?_
 obtain ⟨aC,U,J⟩:=ai J
 refine dM [1] (fun l h=>∃ ax, .inl ()=aC∧l=[(1,V ab)]∧St hs [] Z (0,0) ax h []) (by kernel_rfl) ?_ ?_
 rintro l aP ⟨ax,rfl,rfl,aD⟩
 try dsimp only at J
 refine sp 3<|rt<|bj<|bj<|⟨rfl,?_⟩
 obtain rfl:=si J
 obtain rfl:=si I
 obtain rfl:=si hm
 refine ⟨_,_,_,tk (V (af (ab+1))) (ResL.nil),aD,?_⟩
 exact rfl
 refine g0<|aT 3 U ?_ ?_<;>intro aQ U
 refine bF 4 ae j (j.ag _ _ aq)<|a8 2 U (ah.mono j.ag) ?_
 intro aU U
 refine bt 0 0 (fun ay=> .int .u8 (ay.toNat:Int)) U (ah.mono j.ag) j ?_
 intro ay aV U
 refine aK 0 U ?_ ?_ (kd:= .u8)<;>intro aW U
 refine xn 1<|dT<|sp 3<|xt 1<|aS ?_
 obtain rfl:=si U
 obtain rfl:=si J
 exact ⟨_,af (ab+2),rfl,(by kernel_rfl),j⟩
 refine xn 1<|dF<|sk ?_
 obtain rfl:=si U
 exact ⟨_,rfl,(by kernel_rfl),j⟩
 refine xn 11<|dF<|sk ?_
 obtain rfl:=si U
 exact ⟨_,rfl,(by kernel_rfl),j⟩
 refine xn 0<|dT<|sp 3<|xt 1<|aS ?_
 obtain rfl:=si J
 exact ⟨_,af (ab+1),rfl,(by kernel_rfl),j⟩
 refine xn 0<|dF<|xt 0<|aS ?_
 obtain rfl:=si I
 exact ⟨_,rfl,(by kernel_rfl),j⟩
def lB (F:Nat) (a0:aL) (a1:Int) (I:Int):Nat→Int→Option (Sum Unit Int)
 | 0,_=>none
 | n+1,j=>
  if j<I then
   if 0≤j∧j<(a0.B.length:Int) then
    (a0.B[j.toNat]?).bind fun J=>
    if (J.toNat:Int)=(34:Int) then
     some (.inr (af (j+1)))
    else
     ((if 0≤j∧j<(a0.B.length:Int) then
       (a0.B[j.toNat]?).bind fun U=>
       if (U.toNat:Int)=(92:Int) then
        some (af (j+1))
       else
        some j
      else none):Option Int).bind fun o=>match o with
      | aa=>lB F a0 a1 I n (af (aa+1))
   else none
  else
   some (.inl ())
def m7 (F:Nat) (a0:aL) (a1:Int) (j:Int):Option Int:=
 ((lB F a0 a1 j F a1):Option (Sum Unit Int)).bind fun o=>match o with
  | .inl ()=>some j
  | .inr y=>some y
theorem Ae (F:Nat) {h:AH} {Z:Zn} {a0:aL} {a1:Int} {U:Int} {ab ad an} (hI:Inv Z h) (ae:RS (α:=UInt8) Z ad a0.B) (aA:RS (α:=al) Z an a0.L) (ao:Z ab=some (bu ad an a0)) {r:Int} (hm:m7 F a0 a1 U=some r):
  bY Tryz.prog 67 [Pt ab 0,V a1,V U] h Z (V r):=by
 refine b1 Tryz.func67 hI ?_
 intro hs hS
 unfold m7 at hm
 refine sp 1<|sq ?_
 obtain ⟨aj,j,hm⟩:=ai hm
 refine aJ [2] (fun l h=>∃ aq, .inl ()=aj∧l=[(2,V U)]∧St hs [] Z (0,0) aq h []) ?_ ?_
 rintro l aB ⟨aq,rfl,rfl,ax⟩
 try dsimp only at hm
 refine sp 2<|rt<|⟨rfl,?_⟩
 obtain rfl:=si hm
 refine ⟨_,_,_,tk (V U) (ResL.nil),ax,?_⟩
 exact rfl
 refine bk 0<|lp [0,1,2] (fun n l h=>∃ ar aa,lB F a0 a1 U n aa=some aj∧l=[(0,Pt ab 0),(1,V aa),(2,V U)]∧St hs [] Z (0,0) ar h []) F ⟨_,a1,j,(by kernel_rfl),hS⟩ ?_
 rintro ak l aC ⟨ar,aa,j,rfl,I⟩
 rcases ak with _ | ak
 cases (show none=some aj from j)
 rw [lB] at j
 refine sq<|s0<|aT 2 j ?_ ?_<;>intro aD j
 refine xn 0<|dT<|sk<|bk 1<|sq<|s0<|bF 3 ad I (I.ag _ _ ao)<|a8 1 j (ae.mono I.ag) ?_
 intro aE j
 refine bt 0 0 (fun au=> .int .u8 (au.toNat:Int)) j (ae.mono I.ag) I ?_
 intro au aF j
 refine aK 0 j ?_ ?_ (kd:= .u8)<;>intro aG j
 refine xn 0<|dT<|sp 3<|rt<|bj<|bj<|⟨rfl,?_⟩
 obtain rfl:=si j
 obtain rfl:=si hm
 refine ⟨_,_,_,tk (V (af (aa+1))) (ResL.nil),I,?_⟩
 exact rfl
 refine xn 0<|dF<|sk<|sq ?_
 obtain ⟨ay,J,j⟩:=ai j
 refine dM [0,1,2] (fun l h=>∃ av ah,ah=ay∧l=[(0,Pt ab 0),(1,V ah),(2,V U)]∧St hs [] Z (0,0) av h []) (by kernel_rfl) ?_ ?_
 rintro l aH ⟨av,ah,rfl,rfl,az⟩
 try dsimp only at j
 refine gp 3 ?_
 exact ⟨ak,a7 _,⟨_,af (ah+1),j,(by kernel_rfl),az⟩⟩
 refine g0<|bF 3 ad I (I.ag _ _ ao)<|a8 1 J (ae.mono I.ag) ?_
 intro aI J
 refine bt 0 0 (fun aw=> .int .u8 (aw.toNat:Int)) J (ae.mono I.ag) I ?_
 intro aw aM J
 refine aK 0 J ?_ ?_ (kd:= .u8)<;>intro aN J
 refine xn 0<|dT<|gp 3 ?_
 obtain rfl:=si J
 exact ⟨_,af (aa+1),rfl,(by kernel_rfl),I⟩
 refine xn 0<|dF<|sk ?_
 obtain rfl:=si J
 exact ⟨_,aa,rfl,(by kernel_rfl),I⟩
 refine xn 0<|dF<|xt 0<|aS ?_
 obtain rfl:=si j
 exact ⟨_,rfl,(by kernel_rfl),I⟩
def B1:List br:=[uP 6 (mv 0),uP 7 (nk 6),uP 8 (fa 85 7 0),uL 9 (ld 23 8),uP 10 (mv 0),uP 11 (nk 10),uP 12 (fa 85 11 1),uL 13 (ld 3 12),uP 14 (ia 23 9 13),uL 15 (ld 5 14),uP 3 (sg 15)]
def g7 (F:Nat) (a0:aL):Nat→Int→Int→Option (Int×Int)
 | 0,_,_=>none
 | n+1,I,j=>
  if j<(a0.B.length:Int) then
   if 0≤j∧j<(a0.B.length:Int) then
    (a0.B[j.toNat]?).bind fun J=>
    (gI F (J.toNat:Int)).bind fun U=>
    if U=true then
     g7 F a0 n I (af (j+1))
    else
     some (I,j)
   else none
  else
   some (I,j)
def iB (F:Nat) (a0:aL):Option Int:=
 if 0≤a0.At∧a0.At<(a0.B.length:Int) then
  (a0.B[a0.At.toNat]?).bind fun I=>
  ((if (I.toNat:Int)=(124:Int) then
    if (0:Int)<a0.Open then
     some (.inr 0)
    else
     some (.inl ())
   else
    if (I.toNat:Int)=(62:Int) then
     if (0:Int)<a0.Open then
      some (.inr 0)
     else
      some (.inl ())
    else
     some (.inr 0)):Option (Sum Unit Int)).bind fun o=>match o with
   | .inl ()=>(((iN F a0 (af (a0.At+1))).bind fun aa=>
    if (aa.toNat:Int)=(43:Int) then
     some (af ((af (a0.At+1))+1))
    else
     (iN F a0 (af (a0.At+1))).bind fun ab=>
     if (ab.toNat:Int)=(45:Int) then
      some (af ((af (a0.At+1))+1))
     else
      some (af (a0.At+1))):Option Int).bind fun o=>match o with
    | J=>((g7 F a0 F J J):Option (Int×Int)).bind fun o=>match o with
     | (U,j)=>((if j<(a0.B.length:Int) then
       (correctorref2_Break F a0.B j).bind fun ad=>
       if ad=(0:Int) then
        if 0≤j∧j<(a0.B.length:Int) then
         (a0.B[j.toNat]?).bind fun ae=>
         if (ae.toNat:Int)=(35:Int) then
          if U<j then
           some (.inl ())
          else
           some (.inr 0)
         else
          some (.inr 0)
        else none
       else
        some (.inl ())
      else
       some (.inl ())):Option (Sum Unit Int)).bind fun o=>match o with
      | .inl ()=>some (af (U - a0.At))
      | .inr y=>some y
   | .inr y=>some y
 else none
theorem uV (F:Nat) {h:AH} {Z:Zn} {a0:aL} {ab ad aE} (hI:Inv Z h) (ae:RS (α:=UInt8) Z ad a0.B) (aI:RS (α:=al) Z aE a0.L) (J:Z ab=some (bu ad aE a0)) {r:Int} (hm:iB F a0=some r):
  bY Tryz.prog 68 [Pt ab 0] h Z (V r):=by
 refine b1 Tryz.func68 hI ?_
 intro hs hS
 unfold iB at hm
 refine sp 1<|cY B1 hS ?_
 intro bh bj bl ax
 refine yq 3 [(8,Pt ab 0),(0,Pt ab 0)]<|cg rfl rfl trivial (fun h2 hz=>l0 (v:=ad) h2 hz J rfl (by kernel_rfl)) (ax.bO (aO.refl _)) (aG (v:=ad) (RS.cM ae)) trivial<|yq 3 [(12,Pt ab 1),(9,ad),(0,Pt ab 0)]<|cg rfl rfl trivial (fun h2 hz=>l0 (v:=V a0.At) h2 hz J rfl (by kernel_rfl)) (ax.bO (aO.refl _)) (aG (v:=V a0.At) trivial) trivial ?_
 obtain ⟨aM,hm⟩:=aH hm
 refine aF rfl trivial (bx rfl rfl (by kernel_rfl:slTy _ _=some (aa UInt8)) (RS.cG ae (by omega)) aM.1 aM.2) ?_
 obtain ⟨ay,a2,hm⟩:=ai hm
 obtain ⟨bm,a3,a5⟩:=RS.bV ae (i:=a0.At) a2
 obtain rfl:=pk a3
 refine cg rfl rfl trivial (fun h2 hz=>bE (w:= .int .u8 (ay.toNat:Int)) (a5 h2 hz) rfl (by kernel_rfl)) (ax.bO (aO.refl _)) (aG (v:= .int .u8 (ay.toNat:Int)) trivial) trivial<|ye 1 [(3, .int .u8 (ay.toNat:Int)),(0,Pt ab 0)] ?_
 have ao:=ax.aY
 refine sq ?_
 obtain ⟨a6,U,hm⟩:=ai hm
 refine aJ [0] (fun l h=>∃ aN, .inl ()=a6∧l=[(0,Pt ab 0)]∧St hs [] Z (0,0) aN h []) ?_ ?_
 rintro l bn ⟨aN,rfl,rfl,an⟩
 try dsimp only at hm
 refine s0<|bF 3 (V a0.At) an (an.ag _ _ J)<|xn 2<|sq ?_
 obtain ⟨a9,aj,hm⟩:=ai hm
 refine aJ [0,4] (fun l h=>∃ aP av,av=a9∧l=[(0,Pt ab 0),(4,V av)]∧St hs [] Z (0,0) aP h []) ?_ ?_
 rintro l bo ⟨aP,av,rfl,rfl,ba⟩
 try dsimp only at hm
 refine sp 2<|sq ?_
 obtain ⟨az,I,hm⟩:=ai hm
 refine aJ [0,4,5] (fun l h=>∃ aQ aw aA,(aw,aA)=az∧l=[(0,Pt ab 0),(4,V aw),(5,V aA)]∧St hs [] Z (0,0) aQ h []) ?_ ?_
 rintro l bp ⟨aQ,aw,aA,rfl,rfl,ah⟩
 try dsimp only at hm
 refine sq ?_
 obtain ⟨bb,j,hm⟩:=ai hm
 refine dM [0,4] (fun l h=>∃ aU, .inl ()=bb∧l=[(0,Pt ab 0),(4,V aw)]∧St hs [] Z (0,0) aU h []) (by kernel_rfl) ?_ ?_
 rintro l bq ⟨aU,rfl,rfl,aB⟩
 try dsimp only at hm
 refine s0<|bF 4 (V a0.At) aB (aB.ag _ _ J)<|xn 2<|rt<|⟨rfl,?_⟩
 obtain rfl:=si hm
 refine ⟨_,_,_,tk (V (af (aw - a0.At))) (ResL.nil),aB,?_⟩
 exact rfl
 refine g0<|bF 4 ad ah (ah.ag _ _ J)<|bC 0 ad (RS.len (ae.mono ah.ag))<|aT 0 j ?_ ?_<;>intro bw j
 refine bF 4 ad ah (ah.ag _ _ J) ?_
 obtain ⟨bz,bc,j⟩:=ai j
 refine cP 1 ah (lN F ah.inv (ae.mono ah.ag) bc) ?_
 rintro _ bA aq rfl
 refine aK 0 j ?_ ?_<;>intro bB j
 refine bF 5 ad aq (ah.ag _ _ J)<|a8 1 j (ae.mono ah.ag) ?_
 intro bD j
 refine bt 0 0 (fun aV=> .int .u8 (aV.toNat:Int)) j (ae.mono ah.ag) aq ?_
 intro aV bG j
 refine aK 0 j ?_ ?_ (kd:= .u8)<;>intro bH j
 refine cZ 3 j ?_ ?_<;>intro bI j
 refine xn 3<|dF<|sk ?_
 obtain rfl:=si j
 exact ⟨_,rfl,(by kernel_rfl),aq⟩
 refine xn 3<|dT<|sp 1<|rt<|⟨rfl,?_⟩
 obtain rfl:=si j
 obtain rfl:=si hm
 refine ⟨_,_,_,tk (V 0) (ResL.nil),aq,?_⟩
 exact rfl
 refine xn 7<|dT<|sp 1<|rt<|⟨rfl,?_⟩
 obtain rfl:=si j
 obtain rfl:=si hm
 refine ⟨_,_,_,tk (V 0) (ResL.nil),aq,?_⟩
 exact rfl
 refine xn 17<|dF<|sk ?_
 obtain rfl:=si j
 exact ⟨_,rfl,(by kernel_rfl),aq⟩
 refine xn 25<|dF<|sk ?_
 obtain rfl:=si j
 exact ⟨_,rfl,(by kernel_rfl),ah⟩
 refine bk 0<|lp [0,4,5] (fun n l h=>∃ aW ar au,g7 F a0 n ar au=some az∧l=[(0,Pt ab 0),(4,V ar),(5,V au)]∧St hs [] Z (0,0) aW h []) F ⟨_,av,av,I,(by kernel_rfl),ba⟩ ?_
 rintro aC l bJ ⟨aW,ar,au,I,rfl,ak⟩
 rcases aC with _ | aC
 cases (show none=some az from I)
 rw [g7] at I
 refine sq<|s0<|bF 4 ad ak (ak.ag _ _ J)<|bC 0 ad (RS.len (ae.mono ak.ag))<|aT 0 I ?_ ?_<;>intro bK I
 refine bF 4 ad ak (ak.ag _ _ J)<|a8 1 I (ae.mono ak.ag) ?_
 intro bL I
 refine bt 0 0 (fun aX=> .int .u8 (aX.toNat:Int)) I (ae.mono ak.ag) ak ?_
 intro aX bM I
 obtain ⟨bN,bd,I⟩:=ai I
 refine cP 0 ak (k2 F ak.inv bd) ?_
 rintro _ bP aZ rfl
 refine xn 1<|db I ?_ ?_<;>intro bQ I
 refine sk<|bk 1<|gp 3 ?_
 exact ⟨aC,a7 _,⟨_,ar,af (au+1),I,(by kernel_rfl),aZ⟩⟩
 refine xt 0<|aS ?_
 obtain rfl:=si I
 exact ⟨_,ar,au,rfl,(by kernel_rfl),aZ⟩
 refine xn 10<|dF<|xt 0<|aS ?_
 obtain rfl:=si I
 exact ⟨_,ar,au,rfl,(by kernel_rfl),ak⟩
 refine s0 ?_
 obtain ⟨bR,bf,aj⟩:=ai aj
 refine cP 2 an (nj F an.inv (ae.mono an.ag) (aI.mono an.ag) (an.ag _ _ J) bf) ?_
 rintro _ bS aD rfl
 refine aK 0 aj ?_ ?_ (kd:= .u8)<;>intro bT aj
 refine xn 6<|dT<|gp 3 ?_
 obtain rfl:=si aj
 exact ⟨_,af ((af (a0.At+1))+1),rfl,(by kernel_rfl),aD⟩
 obtain ⟨bU,bg,aj⟩:=ai aj
 refine cP 3 aD (nj F aD.inv (ae.mono an.ag) (aI.mono an.ag) (an.ag _ _ J) bg) ?_
 rintro _ bW a1 rfl
 refine aK 0 aj ?_ ?_ (kd:= .u8)<;>intro bX aj
 refine xn 1<|dT<|gp 3 ?_
 obtain rfl:=si aj
 exact ⟨_,af ((af (a0.At+1))+1),rfl,(by kernel_rfl),a1⟩
 refine xn 1<|dF<|sk ?_
 obtain rfl:=si aj
 exact ⟨_,af (a0.At+1),rfl,(by kernel_rfl),a1⟩
 refine s0<|dv 1 U ?_ ?_ (kd:= .u8)<;>intro bZ U
 refine bF 8 (V a0.Open) ao J<|cZ 0 U ?_ ?_<;>intro b0 U
 refine xn 1<|dT<|sp 1<|rt<|⟨rfl,?_⟩
 obtain rfl:=si U
 obtain rfl:=si hm
 refine ⟨_,_,_,tk (V 0) (ResL.nil),ao,?_⟩
 exact rfl
 refine xn 1<|dF<|sk ?_
 obtain rfl:=si U
 exact ⟨_,rfl,(by kernel_rfl),ao⟩
 refine dv 2 U ?_ ?_ (kd:= .u8)<;>intro b2 U
 refine bF 5 (V a0.Open) ao J<|cZ 0 U ?_ ?_<;>intro b3 U
 refine xn 1<|dT<|sp 1<|rt<|⟨rfl,?_⟩
 obtain rfl:=si U
 obtain rfl:=si hm
 refine ⟨_,_,_,tk (V 0) (ResL.nil),ao,?_⟩
 exact rfl
 refine xn 1<|dF<|sk ?_
 obtain rfl:=si U
 exact ⟨_,rfl,(by kernel_rfl),ao⟩
 refine xn 8<|dT<|sp 1<|rt<|⟨rfl,?_⟩
 obtain rfl:=si U
 obtain rfl:=si hm
 refine ⟨_,_,_,tk (V 0) (ResL.nil),ao,?_⟩
 exact rfl
def Ba:List br:=[uP 9 (mv 0),uP 10 (nk 9),uP 11 (fa 85 10 0),uL 12 (ld 23 11),uP 13 (mv 0),uP 14 (nk 13),uP 15 (fa 85 14 1),uL 16 (ld 3 15),uP 17 (.slice 23 (t 12) (some (t 16)) none none),uF 18 (cf 63 #[(t 17)] #[23]) .make [3,7],uP 8 (mv 18),uP 19 (.extract (t 8) 0),uP 20 (.extract (t 8) 1),uP 3 (sg 19),uP 4 (sg 20)]
def Gd:List aR:=[u 35 (mv 0),u 36 (nk 35),u 37 (fa 85 36 0),u 38 (ld 23 37),u 39 (mv 5),u 40 (.slice 23 (t 38) (some (t 39)) none none),u 41 (cf 63 #[(t 40)] #[23]),u 34 (mv 41),u 42 (.extract (t 34) 0),u 43 (.extract (t 34) 1),u 6 (sg 42),u 7 (sg 43)]
def kL (F:Nat) (a0:aL):Nat→Int→Option Int
 | 0,_=>none
 | n+1,j=>
  if j<(a0.B.length:Int) then
   if 0≤j∧j≤(a0.B.length:Int)∧(a0.B.length:Int)≤(a0.B.length:Int) then
    (jY F ((a0.B.take (a0.B.length:Int).toNat).drop j.toNat)).bind fun I=>
    ((if I.1<(0:Int) then
      some (.inr j)
     else
      (correctorref2_Break F a0.B j).bind fun J=>
      if (0:Int)<J then
       some (.inr j)
      else
       (lU F a0 j).bind fun U=>
       if U=true then
        some (.inr j)
       else
        if 0≤j∧j<(a0.B.length:Int) then
         (a0.B[j.toNat]?).bind fun aa=>
         if (aa.toNat:Int)=(35:Int) then
          if 0≤(af (j - 1))∧(af (j - 1))<(a0.B.length:Int) then
           (a0.B[(af (j - 1)).toNat]?).bind fun ab=>
           (gI F (ab.toNat:Int)).bind fun ad=>
           if ad=true then
            some (.inr j)
           else
            if (0:Int)<a0.Open then
             if 0≤j∧j<(a0.B.length:Int) then
              (a0.B[j.toNat]?).bind fun ae=>
              (kv F (ae.toNat:Int)).bind fun ag=>
              if ag=true then
               some (.inr j)
              else
               some (.inl ())
             else none
            else
             some (.inl ())
          else none
         else
          if (0:Int)<a0.Open then
           if 0≤j∧j<(a0.B.length:Int) then
            (a0.B[j.toNat]?).bind fun ah=>
            (kv F (ah.toNat:Int)).bind fun ai=>
            if ai=true then
             some (.inr j)
            else
             some (.inl ())
           else none
          else
           some (.inl ())
        else none):Option (Sum Unit Int)).bind fun o=>match o with
     | .inl ()=>kL F a0 n (af (j+I.2))
     | .inr y=>some y
   else none
  else
   some j
def mE (F:Nat) (a0:aL):Nat→Int→Option Int
 | 0,_=>none
 | n+1,j=>
  if (af (a0.At+1))<j then
   if 0≤(af (j - 1))∧(af (j - 1))<(a0.B.length:Int) then
    (a0.B[(af (j - 1)).toNat]?).bind fun I=>
    (gI F (I.toNat:Int)).bind fun J=>
    if J=true then
     mE F a0 n (af (j - 1))
    else
     some j
   else none
  else
   some j
def m1 (F:Nat) (a0:aL):Option Int:=
 if 0≤a0.At∧a0.At≤(a0.B.length:Int)∧(a0.B.length:Int)≤(a0.B.length:Int) then
  (jY F ((a0.B.take (a0.B.length:Int).toNat).drop a0.At.toNat)).bind fun j=>
  ((kL F a0 F (af (a0.At+j.2))):Option Int).bind fun o=>match o with
   | I=>((mE F a0 F I):Option Int).bind fun o=>match o with
    | J=>some J
 else none
theorem By (F:Nat) {h:AH} {Z:Zn} {a0:aL} {ak ad aE} (hI:Inv Z h) (ab:RS (α:=UInt8) Z ad a0.B) (bb:RS (α:=al) Z aE a0.L) (ae:Z ak=some (bu ad aE a0)) {r:Int} (hm:m1 F a0=some r):
  bY Tryz.prog 69 [Pt ak 0] h Z (V r):=by
 refine b1 Tryz.func69 hI ?_
 intro hs hS
 unfold m1 at hm
 refine sp 1<|cY Ba hS ?_
 intro bD bE bG ar
 refine yq 3 [(11,Pt ak 0),(0,Pt ak 0)]<|cg rfl rfl trivial (fun h2 hz=>l0 (v:=ad) h2 hz ae rfl (by kernel_rfl)) (ar.bO (aO.refl _)) (aG (v:=ad) (RS.cM ab)) trivial<|yq 3 [(15,Pt ak 1),(12,ad),(0,Pt ak 0)]<|cg rfl rfl trivial (fun h2 hz=>l0 (v:=V a0.At) h2 hz ae rfl (by kernel_rfl)) (ar.bO (aO.refl _)) (aG (v:=V a0.At) trivial) trivial ?_
 obtain ⟨ax,hm⟩:=aH hm
 refine p8 rfl trivial (iY (a:=a0.At) (b:=(a0.B.length:Int)) ab rfl (by kernel_rfl:slTy _ _=some (aa UInt8)) ⟨_,rfl⟩ rfl ax.1 ax.2.1 ax.2.2) ?_
 intro v11 bc
 obtain ⟨aF,bd,hm⟩:=ai hm
 have aI:=ar.bZ
 obtain ⟨bH,bI,bf,aM,rfl⟩:=pR F aI.inv bc bd
 have bg:=St.call (A:=[]) (B:=[]) aI aM
 refine df rfl trivial ar (cr bf rfl rfl rfl) bg (St.de aM) ?_
 intro bJ bh
 refine ye 5 [(4,V aF.2),(0,Pt ak 0)] ?_
 have aN:=bh.aY
 refine s0<|bF 3 (V a0.At) aN ae<|xn 3<|sq ?_
 obtain ⟨ay,J,hm⟩:=ai hm
 refine aJ [0,5] (fun l h=>∃ aP au,au=ay∧l=[(0,Pt ak 0),(5,V au)]∧St hs [] Z (0,0) aP h []) ?_ ?_
 rintro l bK ⟨aP,au,rfl,rfl,bj⟩
 try dsimp only at hm
 refine sq ?_
 obtain ⟨az,U,hm⟩:=ai hm
 refine aJ [5] (fun l h=>∃ aQ av,av=az∧l=[(5,V av)]∧St hs [] Z (0,0) aQ h []) ?_ ?_
 rintro l bL ⟨aQ,av,rfl,rfl,bl⟩
 try dsimp only at hm
 refine sp 2<|rt<|⟨rfl,?_⟩
 obtain rfl:=si hm
 refine ⟨_,_,_,tk (V av) (ResL.nil),bl,?_⟩
 exact rfl
 refine bk 2<|lp [0,5] (fun n l h=>∃ aU aq,mE F a0 n aq=some az∧l=[(0,Pt ak 0),(5,V aq)]∧St hs [] Z (0,0) aU h []) F ⟨_,au,U,(by kernel_rfl),bj⟩ ?_
 rintro aA l bM ⟨aU,aq,U,rfl,an⟩
 rcases aA with _ | aA
 cases (show none=some az from U)
 rw [mE] at U
 refine sq<|s0<|bF 4 (V a0.At) an (an.ag _ _ ae)<|cZ 1 U ?_ ?_<;>intro bN U
 refine bF 4 ad an (an.ag _ _ ae)<|a8 2 U (ab.mono an.ag) ?_
 intro bP U
 refine bt 0 0 (fun aV=> .int .u8 (aV.toNat:Int)) U (ab.mono an.ag) an ?_
 intro aV bQ U
 obtain ⟨bR,bm,U⟩:=ai U
 refine cP 0 an (k2 F an.inv bm) ?_
 rintro _ bS aW rfl
 refine xn 1<|db U ?_ ?_<;>intro bT U
 refine sk<|bk 3<|gp 3 ?_
 exact ⟨aA,a7 _,⟨_,af (aq - 1),U,(by kernel_rfl),aW⟩⟩
 refine xt 2<|aS ?_
 obtain rfl:=si U
 exact ⟨_,aq,rfl,(by kernel_rfl),aW⟩
 refine xn 11<|dF<|xt 2<|aS ?_
 obtain rfl:=si U
 exact ⟨_,aq,rfl,(by kernel_rfl),an⟩
 refine bk 0<|lp [0,5] (fun n l h=>∃ aX ah,kL F a0 n ah=some ay∧l=[(0,Pt ak 0),(5,V ah)]∧St hs [] Z (0,0) aX h []) F ⟨_,af (a0.At+aF.2),J,(by kernel_rfl),aN⟩ ?_
 rintro aB l bU ⟨aX,ah,J,rfl,I⟩
 rcases aB with _ | aB
 cases (show none=some ay from J)
 rw [kL] at J
 refine sq<|s0<|bF 4 ad I (I.ag _ _ ae)<|bC 0 ad (RS.len (ab.mono I.ag))<|aT 0 J ?_ ?_<;>intro bV J
 refine xn 0<|dT<|sk<|bk 1<|sr Gd<|bF 3 ad I (I.ag _ _ ae)<|xq 1 [(39,V ah),(38,ad),(0,Pt ak 0),(5,V ah)] ?_
 obtain ⟨aC,J⟩:=aH J
 refine j1 rfl trivial (iY (a:=ah) (b:=(a0.B.length:Int)) (ab.mono I.ag) rfl (by kernel_rfl:slTy _ _=some (aa UInt8)) ⟨_,rfl⟩ rfl aC.1 aC.2.1 aC.2.2) ?_
 intro bW bn
 obtain ⟨aZ,bo,J⟩:=ai J
 refine cP 0 I (pR F I.inv bn bo) ?_
 rintro _ bX aw rfl
 refine xn 5<|sq ?_
 obtain ⟨bp,j,J⟩:=ai J
 refine dM [0,5,7] (fun l h=>∃ a1, .inl ()=bp∧l=[(0,Pt ak 0),(5,V ah),(7,V aZ.2)]∧St hs [] Z (0,0) a1 h []) (by kernel_rfl) ?_ ?_
 rintro l b0 ⟨a1,rfl,rfl,bq⟩
 try dsimp only at J
 refine gp 4 ?_
 exact ⟨aB,a7 _,⟨_,af (ah+aZ.2),J,(by kernel_rfl),bq⟩⟩
 refine g0<|aT 1 j ?_ ?_ (kd:= .i32)<;>intro b2 j
 refine xn 52<|dT<|xt 0<|h3 rfl<|aS ?_
 obtain rfl:=si j
 obtain rfl:=si J
 exact ⟨_,ah,rfl,(by kernel_rfl),aw⟩
 refine bF 4 ad aw (I.ag _ _ ae) ?_
 obtain ⟨b3,bw,j⟩:=ai j
 refine cP 1 aw (lN F aw.inv (ab.mono I.ag) bw) ?_
 rintro _ b4 aD rfl
 refine cZ 0 j ?_ ?_<;>intro b5 j
 refine xn 44<|dT<|xt 0<|h3 rfl<|aS ?_
 obtain rfl:=si j
 obtain rfl:=si J
 exact ⟨_,ah,rfl,(by kernel_rfl),aD⟩
 obtain ⟨b6,bx,j⟩:=ai j
 refine cP 4 aD (wD F aD.inv (ab.mono I.ag) (bb.mono I.ag) (I.ag _ _ ae) bx) ?_
 rintro _ b7 aj rfl
 refine kb 2 60 j ?_ ?_<;>intro b8 j
 refine xn 37<|dT<|xt 0<|h3 rfl<|aS ?_
 obtain rfl:=si j
 obtain rfl:=si J
 exact ⟨_,ah,rfl,(by kernel_rfl),aj⟩
 refine bF 3 ad aj (I.ag _ _ ae)<|a8 1 j (ab.mono I.ag) ?_
 intro b9 j
 refine bt 0 0 (fun a2=> .int .u8 (a2.toNat:Int)) j (ab.mono I.ag) aj ?_
 intro a2 ca j
 refine aK 0 j ?_ ?_ (kd:= .u8)<;>intro cb j
 refine bF 4 ad aj (I.ag _ _ ae)<|a8 2 j (ab.mono I.ag) ?_
 intro cc j
 refine bt 0 0 (fun a3=> .int .u8 (a3.toNat:Int)) j (ab.mono I.ag) aj ?_
 intro a3 cd j
 obtain ⟨cf,bz,j⟩:=ai j
 refine cP 0 aj (k2 F aj.inv bz) ?_
 rintro _ ch ao rfl
 refine kb 3 81 j ?_ ?_<;>intro cj j
 refine xn 16<|dT<|xt 0<|h3 rfl<|aS ?_
 obtain rfl:=si j
 obtain rfl:=si J
 exact ⟨_,ah,rfl,(by kernel_rfl),ao⟩
 refine bF 3 (V a0.Open) ao (I.ag _ _ ae)<|cZ 0 j ?_ ?_<;>intro ck j
 refine bF 4 ad ao (I.ag _ _ ae)<|a8 1 j (ab.mono I.ag) ?_
 intro cl j
 refine bt 0 0 (fun a5=> .int .u8 (a5.toNat:Int)) j (ab.mono I.ag) ao ?_
 intro a5 cm j
 obtain ⟨cn,bA,j⟩:=ai j
 refine cP 0 ao (q9 F ao.inv bA) ?_
 rintro _ cp a6 rfl
 refine xn 2<|db j ?_ ?_<;>intro cq j
 refine xt 0<|h3 rfl<|aS ?_
 obtain rfl:=si j
 obtain rfl:=si J
 exact ⟨_,ah,rfl,(by kernel_rfl),a6⟩
 refine sk ?_
 obtain rfl:=si j
 exact ⟨_,rfl,(by kernel_rfl),a6⟩
 refine xn 11<|dF<|sk ?_
 obtain rfl:=si j
 exact ⟨_,rfl,(by kernel_rfl),ao⟩
 refine bF 16 (V a0.Open) aj (I.ag _ _ ae)<|cZ 0 j ?_ ?_<;>intro ct j
 refine bF 4 ad aj (I.ag _ _ ae)<|a8 1 j (ab.mono I.ag) ?_
 intro cu j
 refine bt 0 0 (fun a9=> .int .u8 (a9.toNat:Int)) j (ab.mono I.ag) aj ?_
 intro a9 cv j
 obtain ⟨cw,bB,j⟩:=ai j
 refine cP 0 aj (q9 F aj.inv bB) ?_
 rintro _ cx ba rfl
 refine xn 2<|db j ?_ ?_<;>intro cy j
 refine xt 0<|h3 rfl<|aS ?_
 obtain rfl:=si j
 obtain rfl:=si J
 exact ⟨_,ah,rfl,(by kernel_rfl),ba⟩
 refine sk ?_
 obtain rfl:=si j
 exact ⟨_,rfl,(by kernel_rfl),ba⟩
 refine xn 11<|dF<|sk ?_
 obtain rfl:=si j
 exact ⟨_,rfl,(by kernel_rfl),aj⟩
 refine xn 0<|dF<|xt 0<|aS ?_
 obtain rfl:=si J
 exact ⟨_,ah,rfl,(by kernel_rfl),I⟩
def CS:List br:=[uP 7 (mv 0),uP 8 (nk 7),uP 9 (fa 85 8 0),uL 10 (ld 23 9),uP 11 (mv 0),uP 12 (nk 11),uP 13 (fa 85 12 1),uL 14 (ld 3 13),uP 15 (ia 23 10 14),uL 16 (ld 5 15),uP 2 (sg 16)]
def wU:List aR:=[u 22 (mv 0),u 23 (nk 22),u 24 (fa 85 23 0),u 25 (ld 23 24),u 26 (mv 3),u 27 (.slice 23 (t 25) (some (t 26)) none none),u 28 (cf 63 #[(t 27)] #[23]),u 21 (mv 28),u 29 (.extract (t 21) 0),u 30 (.extract (t 21) 1),u 4 (sg 29),u 5 (sg 30)]
def oN (F:Nat) (a0:aL):Option aL:=
 if 0≤a0.At∧a0.At<(a0.B.length:Int) then
  (a0.B[a0.At.toNat]?).bind fun j=>
  if 0≤a0.At∧a0.At≤(a0.B.length:Int)∧(a0.B.length:Int)≤(a0.B.length:Int) then
   (jY F ((a0.B.take (a0.B.length:Int).toNat).drop a0.At.toNat)).bind fun U=>
   (lQ F a0 (af (a0.At+1)) false).bind fun I=>
   ((if (j.toNat:Int)=(45:Int) then
     if a0.Open=(0:Int) then
      if a0.cH=true then
       (k4 F a0 (af (a0.At+1))).bind fun aa=>
       some aa
      else
       some false
     else
      some false
    else
     some false):Option Bool).bind fun o=>match o with
    | ab=>if ab=true then
     (dg F a0 5 (af (a0.At+1))).bind fun ad=>
     some ad
    else
     (lU F a0 a0.At).bind fun ae=>
     if ae=true then
      (dg F a0 6 (af (a0.At+1))).bind fun ag=>
      some ag
     else
      ((if (j.toNat:Int)=(38:Int) then
        if (af (a0.At+1))<I then
         some true
        else
         some false
       else
        some false):Option Bool).bind fun o=>match o with
       | ah=>if ah=true then
        (dg F a0 12 I).bind fun ai=>
        some ai
       else
        ((if (j.toNat:Int)=(42:Int) then
          if (af (a0.At+1))<I then
           some true
          else
           some false
         else
          some false):Option Bool).bind fun o=>match o with
         | aj=>if aj=true then
          (dg F a0 13 I).bind fun ak=>
          some ak
         else
          if (j.toNat:Int)=(33:Int) then
           (lQ F a0 (af (a0.At+1)) true).bind fun an=>
           (dg F a0 14 an).bind fun ao=>
           some ao
          else
           if (j.toNat:Int)=(39:Int) then
            (fT F a0 a0.At).bind fun aq=>
            (nV F a0 (af (a0.At+1)) aq).bind fun ar=>
            (dg F a0 16 ar).bind fun au=>
            some au
           else
            if (j.toNat:Int)=(34:Int) then
             (fT F a0 a0.At).bind fun av=>
             (m7 F a0 (af (a0.At+1)) av).bind fun aw=>
             (fT F a0 a0.At).bind fun ax=>
             (dg F a0 17 (dR aw ax)).bind fun ay=>
             some ay
            else
             (iB F a0).bind fun az=>
             if (0:Int)<az then
              ((if a0.cj<(0:Int) then
                some (⟨a0.B,a0.At,a0.Row,a0.Open,a0.cj,a0.cH,af ((af (a0.At - a0.Row)) - 1),a0.L⟩:aL)
               else
                some (⟨a0.B,a0.At,a0.Row,a0.Open,a0.cj,a0.cH,a0.cj,a0.L⟩:aL)):Option aL).bind fun o=>match o with
               | J=>(iB F J).bind fun aA=>
               (dg F J 18 (af (a0.At+aA))).bind fun aB=>
               some aB
             else
              if U.1<(0:Int) then
               (dg F a0 22 (af (a0.At+1))).bind fun aC=>
               some aC
              else
               (m1 F a0).bind fun aD=>
               (dg F a0 15 aD).bind fun r413=>
               some r413
  else none
 else none
theorem y7 (F:Nat) {h:AH} {Z:Zn} {a0:aL} {I ad U ah} (hP:Pre Z h [.ae I (bu ad U a0), .gs U ah (aa al)]) (J:RS (α:=UInt8) Z ad a0.B) (ab:RCs (α:=al) Z ah a0.L) {r:aL} (hm:oN F a0=some r):
  bS Tryz.prog 44 [Pt I 0] h Z [.ae I (bu ad U a0), .gs U ah (aa al)] fun v Z' A'=>∃ aZ v10 a1, .tuple #[]=v∧A'=[.ae I (bu aZ v10 r), .gs v10 a1 (aa al)]∧RS (α:=UInt8) Z' aZ r.B∧RCs (α:=al) Z' a1 r.L:=by
 refine b3 Tryz.func44 hP ?_
 intro hs hS
 unfold oN at hm
 refine cY CS hS ?_
 intro a3 ep a5 ax
 refine yq 3 [(9,Pt I 0),(0,Pt I 0)] ?_
 have er:I<a3:=a5.1 _ (au (i:=0) rfl) _ (by simp [Itm.ids])
 refine aW (v:=ad) rfl trivial rfl (by show I<_;omega) (aG (v:=ad) (RS.cM J)) (ax.aV (i:=0) rfl (by kernel_rfl)) trivial<|yq 3 [(13,Pt I 1),(10,ad),(0,Pt I 0)] ?_
 have et:I<a3:=a5.1 _ (au (i:=0) rfl) _ (by simp [Itm.ids])
 refine aW (v:=V a0.At) rfl trivial rfl (by show I<_;omega) (aG (v:=V a0.At) trivial) (ax.aV (i:=0) rfl (by kernel_rfl)) trivial ?_
 obtain ⟨a6,hm⟩:=aH hm
 refine aF rfl trivial (bx rfl rfl (by kernel_rfl:slTy _ _=some (aa UInt8)) (RS.cG J (by omega)) a6.1 a6.2) ?_
 obtain ⟨an,bM,hm⟩:=ai hm
 obtain ⟨eu,bN,bP⟩:=RS.bV J (i:=a0.At) bM
 obtain rfl:=pk bN
 refine cg rfl rfl trivial (fun h2 hz=>bE (w:= .int .u8 (an.toNat:Int)) (bP h2 hz) rfl (by kernel_rfl)) (ax.bO (aO.refl _)) (aG (v:= .int .u8 (an.toNat:Int)) trivial) trivial<|ye 1 [(2, .int .u8 (an.toNat:Int)),(0,Pt I 0)] ?_
 have ay:=ax.aY
 refine s0<|aD 3 0 (V a0.At) ay rfl<|xn 1<|sr wU<|aD 3 0 ad ay rfl<|xq 1 [(26,V a0.At),(25,ad),(3,V a0.At),(2, .int .u8 (an.toNat:Int)),(0,Pt I 0)] ?_
 obtain ⟨aI,hm⟩:=aH hm
 refine j1 rfl trivial (iY (a:=a0.At) (b:=(a0.B.length:Int)) J rfl (by kernel_rfl:slTy _ _=some (aa UInt8)) ⟨_,rfl⟩ rfl aI.1 aI.2.1 aI.2.2) ?_
 intro ew bQ
 obtain ⟨aM,bR,hm⟩:=ai hm
 refine cP 0 ay (pR F ay.inv bQ bR) ?_
 rintro _ ey bT rfl
 refine xn 5<|s0 ?_
 obtain ⟨aN,bU,hm⟩:=ai hm
 refine cE 3 bT (fun ez a7 bW a8=>uR F bW (RS.mono a7 J) (bA.row (a8 _ (au (i:=1) rfl)) a7 ab) (a8 _ (au (i:=0) rfl)) bU) ?_
 rintro _ eB ar rfl
 refine xn 1<|bk 0<|sq ?_
 obtain ⟨bX,aj,hm⟩:=ai hm
 refine aJ [0,2,3,4,6,39] (fun l h=>∃ a9 aP,aP=bX∧l=[(0,Pt I 0),(2, .int .u8 (an.toNat:Int)),(3,V a0.At),(4, .int .i32 aM.1),(6,V aN),(39, .bool aP)]∧St hs (a2 [.ae I (bu ad U a0), .gs U ah (aa al)]) Z (0,0) a9 h [.ae I (bu ad U a0), .gs U ah (aa al)]) ?_ ?_
 rintro l eC ⟨a9,aP,rfl,rfl,ak⟩
 try dsimp only at hm
 refine db hm ?_ ?_<;>intro eD hm
 refine g0 ?_
 obtain ⟨eE,bY,hm⟩:=ai hm
 refine cA 3 ak (fun p=>eA F p (J.mono ak.ag) (ab.mono ak.ag) bY) ?_
 rintro _ eF eG _ eH bZ ⟨b0,b1,b2,rfl,rfl,b4,b5⟩
 refine xn 0 ?_
 obtain rfl:=si hm
 refine ⟨_,_,_,ResL.nil,bZ,?_⟩
 exact ⟨b0,b1,b2,rfl,rfl,b4,b5⟩
 refine s0 ?_
 obtain ⟨eI,b6,hm⟩:=ai hm
 refine cE 2 ak (fun eJ ba b7 bb=>wD F b7 (RS.mono ba (J.mono ak.ag)) (bA.row (bb _ (au (i:=1) rfl)) ba (ab.mono ak.ag)) (bb _ (au (i:=0) rfl)) b6) ?_
 rintro _ eK az rfl
 refine xn 1<|db hm ?_ ?_<;>intro eL hm
 refine g0 ?_
 obtain ⟨eM,b8,hm⟩:=ai hm
 refine cA 3 az (fun p=>eA F p (J.mono ak.ag) (ab.mono ak.ag) b8) ?_
 rintro _ eN eO _ eP b9 ⟨ca,cb,cc,rfl,rfl,cd,cf⟩
 refine xn 0 ?_
 obtain rfl:=si hm
 refine ⟨_,_,_,ResL.nil,b9,?_⟩
 exact ⟨ca,cb,cc,rfl,rfl,cd,cf⟩
 refine sq ?_
 obtain ⟨ch,ao,hm⟩:=ai hm
 refine aJ [0,2,3,4,6,73] (fun l h=>∃ bc aQ,aQ=ch∧l=[(0,Pt I 0),(2, .int .u8 (an.toNat:Int)),(3,V a0.At),(4, .int .i32 aM.1),(6,V aN),(73, .bool aQ)]∧St hs (a2 [.ae I (bu ad U a0), .gs U ah (aa al)]) Z (0,0) bc h [.ae I (bu ad U a0), .gs U ah (aa al)]) ?_ ?_
 rintro l eQ ⟨bc,aQ,rfl,rfl,av⟩
 try dsimp only at hm
 refine db hm ?_ ?_<;>intro eR hm
 refine g0 ?_
 obtain ⟨eS,ck,hm⟩:=ai hm
 refine cA 2 av (fun p=>eA F p (J.mono av.ag) (ab.mono av.ag) ck) ?_
 rintro _ eT eU _ eV cl ⟨cm,cn,cp,rfl,rfl,cq,cr⟩
 refine xn 0 ?_
 obtain rfl:=si hm
 refine ⟨_,_,_,ResL.nil,cl,?_⟩
 exact ⟨cm,cn,cp,rfl,rfl,cq,cr⟩
 refine sq ?_
 obtain ⟨ct,aq,hm⟩:=ai hm
 refine aJ [0,2,3,4,6,85] (fun l h=>∃ bd aS,aS=ct∧l=[(0,Pt I 0),(2, .int .u8 (an.toNat:Int)),(3,V a0.At),(4, .int .i32 aM.1),(6,V aN),(85, .bool aS)]∧St hs (a2 [.ae I (bu ad U a0), .gs U ah (aa al)]) Z (0,0) bd h [.ae I (bu ad U a0), .gs U ah (aa al)]) ?_ ?_
 rintro l eW ⟨bd,aS,rfl,rfl,j⟩
 try dsimp only at hm
 refine db hm ?_ ?_<;>intro eX hm
 refine g0 ?_
 obtain ⟨eY,cu,hm⟩:=ai hm
 refine cA 2 j (fun p=>eA F p (J.mono j.ag) (ab.mono j.ag) cu) ?_
 rintro _ eZ e0 _ e2 cv ⟨cw,cx,cy,rfl,rfl,cz,cB⟩
 refine xn 0 ?_
 obtain rfl:=si hm
 refine ⟨_,_,_,ResL.nil,cv,?_⟩
 exact ⟨cw,cx,cy,rfl,rfl,cz,cB⟩
 refine s0<|aK 1 hm ?_ ?_ (kd:= .u8)<;>intro e3 hm
 refine xn 1<|dT<|g0 ?_
 obtain ⟨e4,cC,hm⟩:=ai hm
 refine cE 4 j (fun e5 bf cD bg=>uR F cD (RS.mono bf (J.mono j.ag)) (bA.row (bg _ (au (i:=1) rfl)) bf (ab.mono j.ag)) (bg _ (au (i:=0) rfl)) cC) ?_
 rintro _ e6 cF rfl
 obtain ⟨e7,cI,hm⟩:=ai hm
 refine cA 0 cF (fun p=>eA F p (J.mono j.ag) (ab.mono j.ag) cI) ?_
 rintro _ e8 e9 _ fa cJ ⟨cK,cL,cN,rfl,rfl,cO,cQ⟩
 refine xn 0 ?_
 obtain rfl:=si hm
 refine ⟨_,_,_,ResL.nil,cJ,?_⟩
 exact ⟨cK,cL,cN,rfl,rfl,cO,cQ⟩
 refine xn 1<|dF<|s0<|aK 1 hm ?_ ?_ (kd:= .u8)<;>intro fb hm
 refine xn 1<|dT<|g0 ?_
 obtain ⟨fc,cR,hm⟩:=ai hm
 refine cE 6 j (fun fe bh cS bj=>ku F cS (RS.mono bh (J.mono j.ag)) (bA.row (bj _ (au (i:=1) rfl)) bh (ab.mono j.ag)) (bj _ (au (i:=0) rfl)) cR) ?_
 rintro _ ff cT rfl
 obtain ⟨fg,cU,hm⟩:=ai hm
 refine cE 0 cT (fun fh bl cW bm=>Cl F cW (RS.mono bl (J.mono j.ag)) (bA.row (bm _ (au (i:=1) rfl)) bl (ab.mono j.ag)) (bm _ (au (i:=0) rfl)) cU) ?_
 rintro _ fi cX rfl
 obtain ⟨fj,c0,hm⟩:=ai hm
 refine cA 0 cX (fun p=>eA F p (J.mono j.ag) (ab.mono j.ag) c0) ?_
 rintro _ fk fl _ fm c3 ⟨c4,c5,c6,rfl,rfl,c8,dc⟩
 refine xn 0 ?_
 obtain rfl:=si hm
 refine ⟨_,_,_,ResL.nil,c3,?_⟩
 exact ⟨c4,c5,c6,rfl,rfl,c8,dc⟩
 refine xn 1<|dF<|s0<|aK 1 hm ?_ ?_ (kd:= .u8)<;>intro fo hm
 refine xn 1<|dT<|g0 ?_
 obtain ⟨fp,dd,hm⟩:=ai hm
 refine cE 6 j (fun fq bn de bo=>ku F de (RS.mono bn (J.mono j.ag)) (bA.row (bo _ (au (i:=1) rfl)) bn (ab.mono j.ag)) (bo _ (au (i:=0) rfl)) dd) ?_
 rintro _ fr df rfl
 obtain ⟨fs,dg,hm⟩:=ai hm
 refine cE 0 df (fun ft bp dh bq=>Ae F dh (RS.mono bp (J.mono j.ag)) (bA.row (bq _ (au (i:=1) rfl)) bp (ab.mono j.ag)) (bq _ (au (i:=0) rfl)) dg) ?_
 rintro _ fu di rfl
 obtain ⟨fv,dj,hm⟩:=ai hm
 refine cE 2 di (fun fw bt dm bw=>ku F dm (RS.mono bt (J.mono j.ag)) (bA.row (bw _ (au (i:=1) rfl)) bt (ab.mono j.ag)) (bw _ (au (i:=0) rfl)) dj) ?_
 rintro _ fx dn rfl
 obtain ⟨fy,dp,hm⟩:=ai hm
 refine cA 1 dn (fun p=>eA F p (J.mono j.ag) (ab.mono j.ag) dp) ?_
 rintro _ fz fA _ fB dr ⟨ds,dt,du,rfl,rfl,dv,dw⟩
 refine xn 0 ?_
 obtain rfl:=si hm
 refine ⟨_,_,_,ResL.nil,dr,?_⟩
 exact ⟨ds,dt,du,rfl,rfl,dv,dw⟩
 refine xn 1<|dF<|s0 ?_
 obtain ⟨fC,dx,hm⟩:=ai hm
 refine cE 1 j (fun fD bz dy bB=>uV F dy (RS.mono bz (J.mono j.ag)) (bA.row (bB _ (au (i:=1) rfl)) bz (ab.mono j.ag)) (bB _ (au (i:=0) rfl)) dx) ?_
 rintro _ fE aA rfl
 refine cZ 0 hm ?_ ?_<;>intro fF hm
 refine xn 1<|dT<|s0<|aD 4 0 (V a0.cj) aA rfl<|bG 2 0 (V a0.cj) [V a0.cj] [ad,V a0.At,V a0.Row,V a0.Open,V a0.cj, .bool a0.cH,V a0.cj,U] aA rfl rfl rfl ?_
 intro fG aB
 refine xn 0<|sq ?_
 obtain ⟨dz,aC,hm⟩:=ai hm
 refine dM [0,3] (fun l h=>∃ aE aw aU aX,aw=dz∧RS (α:=UInt8) aE aU aw.B∧RCs (α:=al) aE aX aw.L∧l=[(0,Pt I 0),(3,V a0.At)]∧St hs (a2 [.ae I (bu ad U a0), .gs U ah (aa al)]) Z (0,0) aE h [.ae I (bu aU U aw), .gs U aX (aa al)]) (by kernel_rfl) ?_ ?_
 rintro l fH ⟨aE,aw,aU,aX,rfl,bC,bD,rfl,dA⟩
 try dsimp only at hm
 refine g0 ?_
 obtain ⟨fI,dB,hm⟩:=ai hm
 refine cE 3 dA (fun fJ bF dC bH=>uV F dC (RS.mono bF bC) (bA.row (bH _ (au (i:=1) rfl)) bF bD) (bH _ (au (i:=0) rfl)) dB) ?_
 rintro _ fK dD rfl
 obtain ⟨fL,dE,hm⟩:=ai hm
 refine cA 1 dD (fun p=>eA F p bC bD dE) ?_
 rintro _ fM fN _ fO dG ⟨dH,dI,dJ,rfl,rfl,dL,dN⟩
 refine xn 0 ?_
 obtain rfl:=si hm
 refine ⟨_,_,_,ResL.nil,dG,?_⟩
 exact ⟨dH,dI,dJ,rfl,rfl,dL,dN⟩
 refine g0<|aD 3 0 (V a0.cj) aB rfl<|aT 0 aC ?_ ?_<;>intro fP aC
 refine xn 0<|dT<|g0<|aD 5 0 (V a0.Row) aB rfl<|bG 4 0 (V (af ((af (a0.At - a0.Row)) - 1))) [V (af ((af (a0.At - a0.Row)) - 1))] [ad,V a0.At,V a0.Row,V a0.Open,V a0.cj, .bool a0.cH,V (af ((af (a0.At - a0.Row)) - 1)),U] aB rfl rfl rfl ?_
 intro fQ dO
 refine xn 0 ?_
 obtain rfl:=si aC
 exact ⟨_,(⟨a0.B,a0.At,a0.Row,a0.Open,a0.cj,a0.cH,af ((af (a0.At - a0.Row)) - 1),a0.L⟩:aL),ad,ah,rfl,(J.mono j.ag),(ab.mono j.ag),(by kernel_rfl),dO⟩
 refine xn 0<|dF<|sk ?_
 obtain rfl:=si aC
 exact ⟨_,(⟨a0.B,a0.At,a0.Row,a0.Open,a0.cj,a0.cH,a0.cj,a0.L⟩:aL),ad,ah,rfl,(J.mono j.ag),(ab.mono j.ag),(by kernel_rfl),aB⟩
 refine xn 1<|dF<|s0<|aT 1 hm ?_ ?_ (kd:= .i32)<;>intro fR hm
 refine xn 1<|dT<|g0 ?_
 obtain ⟨fS,dP,hm⟩:=ai hm
 refine cA 3 aA (fun p=>eA F p (J.mono j.ag) (ab.mono j.ag) dP) ?_
 rintro _ fT fU _ fV dQ ⟨dR,dS,dV,rfl,rfl,dW,dX⟩
 refine xn 0 ?_
 obtain rfl:=si hm
 refine ⟨_,_,_,ResL.nil,dQ,?_⟩
 exact ⟨dR,dS,dV,rfl,rfl,dW,dX⟩
 refine xn 1<|dF<|g0 ?_
 obtain ⟨fW,dY,hm⟩:=ai hm
 refine cE 2 aA (fun fX bI dZ bJ=>By F dZ (RS.mono bI (J.mono j.ag)) (bA.row (bJ _ (au (i:=1) rfl)) bI (ab.mono j.ag)) (bJ _ (au (i:=0) rfl)) dY) ?_
 rintro _ fY ea rfl
 obtain ⟨r413,eb,hm⟩:=ai hm
 refine cA 0 ea (fun p=>eA F p (J.mono j.ag) (ab.mono j.ag) eb) ?_
 rintro _ fZ gb _ gd ec ⟨ed,ee,eg,rfl,rfl,eh,ei⟩
 refine xn 0 ?_
 obtain rfl:=si hm
 refine ⟨_,_,_,ResL.nil,ec,?_⟩
 exact ⟨ed,ee,eg,rfl,rfl,eh,ei⟩
 refine g0<|aK 1 aq ?_ ?_ (kd:= .u8)<;>intro gf aq
 refine cZ 4 aq ?_ ?_<;>intro gg aq
 refine xn 2 ?_
 obtain rfl:=si aq
 exact ⟨_,true,rfl,(by kernel_rfl),av⟩
 refine xn 2 ?_
 obtain rfl:=si aq
 exact ⟨_,false,rfl,(by kernel_rfl),av⟩
 refine xn 7 ?_
 obtain rfl:=si aq
 exact ⟨_,false,rfl,(by kernel_rfl),av⟩
 refine g0<|aK 1 ao ?_ ?_ (kd:= .u8)<;>intro gh ao
 refine cZ 4 ao ?_ ?_<;>intro gi ao
 refine xn 2 ?_
 obtain rfl:=si ao
 exact ⟨_,true,rfl,(by kernel_rfl),az⟩
 refine xn 2 ?_
 obtain rfl:=si ao
 exact ⟨_,false,rfl,(by kernel_rfl),az⟩
 refine xn 7 ?_
 obtain rfl:=si ao
 exact ⟨_,false,rfl,(by kernel_rfl),az⟩
 refine g0<|aK 1 aj ?_ ?_ (kd:= .u8)<;>intro gj aj
 refine aD 4 0 (V a0.Open) ar rfl<|aK 0 aj ?_ ?_<;>intro gk aj
 refine aD 5 0 (.bool a0.cH) ar rfl<|kb 2 55 aj ?_ ?_<;>intro gl aj
 obtain ⟨ej,ek,aj⟩:=ai aj
 refine cE 3 ar (fun gm bK en bL=>rP F en (RS.mono bK J) (bA.row (bL _ (au (i:=1) rfl)) bK ab) (bL _ (au (i:=0) rfl)) ek) ?_
 rintro _ gn eo rfl
 refine xn 2 ?_
 obtain rfl:=si aj
 exact ⟨_,ej,rfl,(by kernel_rfl),eo⟩
 refine xn 6 ?_
 obtain rfl:=si aj
 exact ⟨_,false,rfl,(by kernel_rfl),ar⟩
 refine xn 14 ?_
 obtain rfl:=si aj
 exact ⟨_,false,rfl,(by kernel_rfl),ar⟩
 refine xn 20 ?_
 obtain rfl:=si aj
 exact ⟨_,false,rfl,(by kernel_rfl),ar⟩
def BY:List aR:=[u 8 (mv 0),u 9 (.build 85 #[(0,(t 8)),(6,(ci (-2)))]),u 10 (.box 85 (t 9)),u 3 (sg 10)]
def Ar:List br:=[uP 20 (mv 3),uP 21 (nk 20),uP 22 (fa 85 21 1),uL 23 (ld 3 22),uP 24 (mv 3),uP 25 (nk 24),uP 26 (fa 85 25 2),uL 27 (ld 3 26),uP 28 (bo .eql 3 23 27 3)]
def correctorref6_Tokens_l0 (F:Nat) (a0:List UInt8):Nat→aL→Option aL
 | 0,_=>none
 | n+1,j=>
  if j.At<(a0.length:Int) then
   ((if j.At=j.Row then
     (mm F j j.At).bind fun ad=>
     some (j,ad)
    else
     some (j,0)):Option (aL×Int)).bind fun o=>match o with
    | (J,ab)=>if (0:Int)<ab then
     (dg F J ab (af (J.At+3))).bind fun I=>
     correctorref6_Tokens_l0 F a0 n (⟨I.B,I.At,I.Row,0,I.cj,I.cH,I.Text,I.L⟩:aL)
    else
     (oQ F J).bind fun U=>
     if U.1=true then
      correctorref6_Tokens_l0 F a0 n U.2
     else
      (o4 F U.2).bind fun aa=>
      if aa.1=true then
       correctorref6_Tokens_l0 F a0 n aa.2
      else
       (oN F aa.2).bind fun ae=>
       correctorref6_Tokens_l0 F a0 n ae
  else
   some j
def oR (F:Nat) (a0:List UInt8):Option (List al):=
 if (16384:Int)<(a0.length:Int) then
  some []
 else
  (oT F (⟨a0,0,0,0,0,false,(-2),[]⟩:aL)).bind fun j=>
  ((correctorref6_Tokens_l0 F a0 F j):Option aL).bind fun o=>match o with
   | I=>some I.L
theorem CM (F:Nat) {h:AH} {Z:Zn} {a0:List UInt8} {v2} (hP:Pre Z h []) (ar:RS (α:=UInt8) Z v2 a0) {r:(List al)} (hm:oR F a0=some r):
  bS Tryz.prog 23 [v2] h Z [] fun v Z' A'=>∃ v4 aU,v4=v∧A'=[.gs v4 aU (aa al)]∧RCs (α:=al) Z' aU r:=by
 refine b3 Tryz.func23 hP ?_
 intro hs hS
 unfold oR at hm
 replace hS:St hs [] Z (0,0) Z hs []:=hS
 refine sp 1<|sq<|s0<|bC 1 v2 (RS.len ar)<|cZ 0 hm ?_ ?_<;>intro cd hm
 refine xn 0<|dT<|sp 1<|rt<|⟨rfl,?_⟩
 have bj:=hS.dh (aa al)
 obtain rfl:=si hm
 refine ⟨_,_,_,tk (.slice none 0 0) (ResL.nil),bj,?_⟩
 exact ⟨(.slice none 0 0),[],rfl,rfl,(RCs.bq _)⟩
 refine xn 0<|dF<|sk<|sr BY<|xq 1 [(8,v2),(0,v2)]<|bW rfl trivial (jV (v:= .agg #[v2,V 0,V 0,V 0,V 0, .bool false,V (-2), .slice none 0 0]) rfl (CA.cons (cs:=[v2]) (RS.nv ar) (CA.cons (cs:=[V (-2)]) rfl (CA.bq))) (by kernel_rfl))<|e2 rfl trivial (eK (cs:=[v2,V 0,V 0,V 0,V 0, .bool false,V (-2), .slice none 0 0]) rfl rfl) hS ?_
 intro bl cf bn
 refine xn 1<|s0 ?_
 have bo:=bn.dh (aa al)
 obtain ⟨bp,bt,hm⟩:=ai hm
 refine cA 1 ((bo.front 0 rfl).front 1 rfl) (fun p=>rA F (a0:=(⟨a0,0,0,0,0,false,(-2),[]⟩:aL)) p ar (RCs.bq _) bt) ?_
 rintro _ cg ch _ ck bw ⟨bx,bz,rfl,rfl,bB,bD⟩
 refine xn 0<|sq ?_
 obtain ⟨aE,j,hm⟩:=ai hm
 refine aJ [3] (fun l h=>∃ av aq aH aI af aw,aq=aE∧RS (α:=UInt8) av aI aq.B∧RCs (α:=al) av aw aq.L∧l=[(3,Pt aH 0)]∧St hs [] Z (0,0) av h [.ae aH (bu aI af aq), .gs af aw (aa al)]) ?_ ?_
 rintro l cl ⟨av,aq,aH,aI,af,aw,rfl,cm,bE,rfl,aX⟩
 try dsimp only at hm
 refine s0<|aD 3 0 af aX rfl<|xn 1<|rt<|⟨rfl,?_⟩
 obtain rfl:=si hm
 refine ⟨_,_,_,tk af (ResL.nil),((aX.front 1 rfl).takeN 1),?_⟩
 exact ⟨af,aw,rfl,rfl,bE⟩
 refine bk 0<|lp [0,3] (fun n l h=>∃ ax J I ah aj ak,correctorref6_Tokens_l0 F a0 n J=some aE∧RS (α:=UInt8) ax ah J.B∧RCs (α:=al) ax ak J.L∧l=[(0,v2),(3,Pt I 0)]∧St hs [] Z (0,0) ax h [.ae I (bu ah aj J), .gs aj ak (aa al)]) F ⟨_,bp,bl,bx,(.slice none 0 0),bz,j,bB,bD,(by kernel_rfl),bw⟩ ?_
 rintro an l cn ⟨ax,J,I,ah,aj,ak,j,ay,az,rfl,aA⟩
 rcases an with _ | an
 cases (show none=some aE from j)
 rw [correctorref6_Tokens_l0] at j
 refine sq<|s0<|aD 3 0 (V J.At) aA rfl<|bC 1 v2 (RS.len (ar.mono aA.ag))<|aT 0 j ?_ ?_<;>intro cp j
 refine xn 0<|dT<|sk<|bk 1<|sp 1<|sq ?_
 obtain ⟨bF,ab,j⟩:=ai j
 refine aJ [0,3,4] (fun l h=>∃ aB ao aK ad aM aN aO,(ao,aK)=bF∧RS (α:=UInt8) aB aM ao.B∧RCs (α:=al) aB aO ao.L∧l=[(0,v2),(3,Pt ad 0),(4,V aK)]∧St hs [] Z (0,0) aB h [.ae ad (bu aM aN ao), .gs aN aO (aa al)]) ?_ ?_
 rintro l cq ⟨aB,ao,aK,ad,aM,aN,aO,rfl,aZ,a1,rfl,aP⟩
 try dsimp only at j
 refine sq<|s0<|cZ 1 j ?_ ?_<;>intro cr j
 refine xn 0<|dT<|s0<|aD 5 0 (V ao.At) aP rfl ?_
 obtain ⟨U,bH,j⟩:=ai j
 refine cA 1 aP (fun p=>eA F p aZ a1 bH) ?_
 rintro _ ct cu _ cv bI ⟨a2,a3,bJ,rfl,rfl,bK,bL⟩
 refine xn 0<|s0<|bG 3 0 (V 0) [V 0] [a2,V U.At,V U.Row,V 0,V U.cj, .bool U.cH,V U.Text,a3] bI rfl rfl rfl ?_
 intro cw bM
 refine xn 0<|xt 1<|aS ?_
 exact ⟨an,a7 _,⟨_,(⟨U.B,U.At,U.Row,0,U.cj,U.cH,U.Text,U.L⟩:aL),ad,a2,a3,bJ,j,bK,bL,(by kernel_rfl),bM⟩⟩
 refine xn 0<|dF<|sk<|s0 ?_
 obtain ⟨bN,bO,j⟩:=ai j
 refine cA 1 aP (fun p=>GM F p aZ a1 bO) ?_
 rintro _ cx cy _ cz a5 ⟨bP,bQ,bR,rfl,rfl,a6,a8⟩
 refine kb 0 49 j ?_ ?_<;>intro cB j
 refine xn 6<|dF<|sk ?_
 exact ⟨an,a7 _,⟨_,bN.2,ad,bP,bQ,bR,j,a6,a8,(by kernel_rfl),a5⟩⟩
 obtain ⟨bT,bU,j⟩:=ai j
 refine cA 3 a5 (fun p=>FE F p a6 a8 bU) ?_
 rintro _ cC cD _ cF a9 ⟨bV,bX,bY,rfl,rfl,ba,bb⟩
 refine kb 0 53 j ?_ ?_<;>intro cG j
 refine xn 2<|dF<|sk ?_
 exact ⟨an,a7 _,⟨_,bT.2,ad,bV,bX,bY,j,ba,bb,(by kernel_rfl),a9⟩⟩
 refine xn 2<|dT<|g0 ?_
 obtain ⟨bZ,b0,j⟩:=ai j
 refine cA 1 a9 (fun p=>y7 F p ba bb b0) ?_
 rintro _ cI cJ _ cK b1 ⟨b2,b4,b5,rfl,rfl,b6,b7⟩
 refine xn 0 ?_
 exact ⟨an,a7 _,⟨_,bZ,ad,b2,b4,b5,j,b6,b7,(by kernel_rfl),b1⟩⟩
 refine cY Ar aA ?_
 intro bc cL bd aC
 refine yq 3 [(22,Pt I 1),(4,V 0),(0,v2),(3,Pt I 0)] ?_
 have cM:I<bc:=bd.1 _ (au (i:=0) rfl) _ (by simp [Itm.ids])
 refine aW (v:=V J.At) rfl trivial rfl (by show I<_;omega) (aG (v:=V J.At) trivial) (aC.aV (i:=0) rfl (by kernel_rfl)) trivial<|yq 3 [(26,Pt I 2),(23,V J.At),(4,V 0),(0,v2),(3,Pt I 0)] ?_
 have cN:I<bc:=bd.1 _ (au (i:=0) rfl) _ (by simp [Itm.ids])
 refine aW (v:=V J.Row) rfl trivial rfl (by show I<_;omega) (aG (v:=V J.Row) trivial) (aC.aV (i:=0) rfl (by kernel_rfl)) trivial ?_
 rcases ifs ab with ⟨aQ,ab⟩ | ⟨aQ,ab⟩
 refine aF rfl trivial (bm rfl rfl (fm aQ))<|yf [(28, .bool true),(4,V 0),(0,v2),(3,Pt I 0)] ?_
 have bf:=aC.aY
 refine dT<|g0<|aD 4 0 (V J.At) bf rfl ?_
 obtain ⟨b8,b9,ab⟩:=ai ab
 refine cE 0 bf (fun cO bg ca bh=>uM F ca (RS.mono bg ay) (bA.row (bh _ (au (i:=1) rfl)) bg az) (bh _ (au (i:=0) rfl)) b9) ?_
 rintro _ cP cb rfl
 refine xn 1 ?_
 obtain rfl:=si ab
 exact ⟨_,J,b8,I,ah,aj,ak,rfl,ay,az,(by kernel_rfl),cb⟩
 refine aF rfl trivial (bm rfl rfl (fg aQ))<|yf [(28, .bool false),(4,V 0),(0,v2),(3,Pt I 0)] ?_
 have cc:=aC.aY
 refine dF<|sk ?_
 obtain rfl:=si ab
 exact ⟨_,J,0,I,ah,aj,ak,rfl,ay,az,(by kernel_rfl),cc⟩
 refine xn 0<|dF<|xt 0<|aS ?_
 obtain rfl:=si j
 exact ⟨_,J,I,ah,aj,ak,rfl,ay,az,(by kernel_rfl),aA⟩
def xg:List aR:=[u 6 (mv 0),u 7 (mv 1),u 8 (bo .rem 3 6 7 3),u 5 (sg 8)]
def n9 (F:Nat) (a0:Int) (a1:Int):Option Int:=
 if ¬ a1=(0:Int) then
  ((if (a0.tmod a1)<(0:Int) then
    some (af ((a0.tmod a1)+a1))
   else
    some (a0.tmod a1)):Option Int).bind fun o=>match o with
   | j=>some j
 else none
theorem E8 (F:Nat) {h:AH} {Z:Zn} {a0:Int} {a1:Int} (hI:Inv Z h) {r:Int} (hm:n9 F a0 a1=some r):
  bY Tryz.prog 38 [V a0,V a1] h Z (V r):=by
 refine b1 Tryz.func38 hI ?_
 intro hs hS
 unfold n9 at hm
 refine sp 1<|sr xg<|xq 2 [(7,V a1),(6,V a0),(1,V a1)] ?_
 obtain ⟨U,hm⟩:=aH hm
 refine bW rfl trivial (sQ U rfl rfl)<|xn 1<|sq ?_
 obtain ⟨aa,j,hm⟩:=ai hm
 refine dM [5] (fun l h=>∃ J I,I=aa∧l=[(5,V I)]∧St hs [] Z (0,0) J h []) (by kernel_rfl) ?_ ?_
 rintro l ad ⟨J,I,rfl,rfl,ab⟩
 try dsimp only at hm
 refine sp 2<|rt<|⟨rfl,?_⟩
 obtain rfl:=si hm
 refine ⟨_,_,_,tk (V I) (ResL.nil),ab,?_⟩
 exact rfl
 refine g0<|aT 1 j ?_ ?_<;>intro ae j
 refine xn 0<|dT<|gp 4 ?_
 obtain rfl:=si j
 exact ⟨_,af ((a0.tmod a1)+a1),rfl,(by kernel_rfl),hS⟩
 refine xn 0<|dF<|sk ?_
 obtain rfl:=si j
 exact ⟨_,a0.tmod a1,rfl,(by kernel_rfl),hS⟩
def Dg:List aR:=[u 4 (.buildSlice 54 41 #[(0,(.const (.string {data:=#[97]}))),(1,(.const (.string {data:=#[98,58,32]}))),(2,(.const (.string {data:=#[45,32]}))),(3,(.const (.string {data:=#[10]}))),(4,(.const (.string {data:=#[10]}))),(5,(.const (.string {data:=#[10,32,32]}))),(6,(.const (.string {data:=#[10,32,32,32,32]}))),(7,(.const (.string {data:=#[107,101,121,58,32]}))),(8,(.const (.string {data:=#[91]}))),(9,(.const (.string {data:=#[93]}))),(10,(.const (.string {data:=#[123]}))),(11,(.const (.string {data:=#[125]}))),(12,(.const (.string {data:=#[44,32]}))),(13,(.const (.string {data:=#[58,32]}))),(14,(.const (.string {data:=#[39,105,116,39,39,115,39]}))),(15,(.const (.string {data:=#[34,120,92,110,34]}))),(16,(.const (.string {data:=#[35,32,110,111,116,101,10]}))),(17,(.const (.string {data:=#[38,110,32]}))),(18,(.const (.string {data:=#[42,110]}))),(19,(.const (.string {data:=#[33,33,105,110,116,32]}))),(20,(.const (.string {data:=#[124,10]}))),(21,(.const (.string {data:=#[62,45,10]}))),(22,(.const (.string {data:=#[45,45,45]}))),(23,(.const (.string {data:=#[46,46,46]}))),(24,(.const (.string {data:=#[9]}))),(25,(.const (.string {data:=#[13,10]}))),(26,(.const (.string {data:=#[32]}))),(27,(.const (.string {data:=#[49]}))),(28,(.const (.string {data:=#[126]}))),(29,(.const (.string {data:=#[39,111,112,101,110]}))),(30,(.const (.string {data:=#[34,92,113,34]}))),(31,(.const (.string {data:=#[45]}))),(32,(.const (.string {data:=#[58]}))),(33,(.const (.string {data:=#[116,101,120,116,32,111,102,32,119,111,114,100,115]}))),(34,(.const (.string {data:=#[10,45,32]}))),(35,(.const (.string {data:=#[10,107,58,32]}))),(36,(.const (.string {data:=#[32,32]}))),(37,(.const (.string {data:=#[35,32,111,102,102]}))),(38,(.const (.string {data:=#[44]}))),(39,(.const (.string {data:=#[124,43]}))),(40,(.const (.string {data:=#[10,10]})))]),u 3 (sg 4)]
def oy (F:Nat) (a0:Int):Option ar:=
 (n9 F a0 ([(⟨[97]⟩:ar),(⟨[98,58,32]⟩:ar),(⟨[45,32]⟩:ar),(⟨[10]⟩:ar),(⟨[10]⟩:ar),(⟨[10,32,32]⟩:ar),(⟨[10,32,32,32,32]⟩:ar),(⟨[107,101,121,58,32]⟩:ar),(⟨[91]⟩:ar),(⟨[93]⟩:ar),(⟨[123]⟩:ar),(⟨[125]⟩:ar),(⟨[44,32]⟩:ar),(⟨[58,32]⟩:ar),(⟨[39,105,116,39,39,115,39]⟩:ar),(⟨[34,120,92,110,34]⟩:ar),(⟨[35,32,110,111,116,101,10]⟩:ar),(⟨[38,110,32]⟩:ar),(⟨[42,110]⟩:ar),(⟨[33,33,105,110,116,32]⟩:ar),(⟨[124,10]⟩:ar),(⟨[62,45,10]⟩:ar),(⟨[45,45,45]⟩:ar),(⟨[46,46,46]⟩:ar),(⟨[9]⟩:ar),(⟨[13,10]⟩:ar),(⟨[32]⟩:ar),(⟨[49]⟩:ar),(⟨[126]⟩:ar),(⟨[39,111,112,101,110]⟩:ar),(⟨[34,92,113,34]⟩:ar),(⟨[45]⟩:ar),(⟨[58]⟩:ar),(⟨[116,101,120,116,32,111,102,32,119,111,114,100,115]⟩:ar),(⟨[10,45,32]⟩:ar),(⟨[10,107,58,32]⟩:ar),(⟨[32,32]⟩:ar),(⟨[35,32,111,102,102]⟩:ar),(⟨[44]⟩:ar),(⟨[124,43]⟩:ar),(⟨[10,10]⟩:ar)].length:Int)).bind fun j=>
 if 0≤j∧j<([(⟨[97]⟩:ar),(⟨[98,58,32]⟩:ar),(⟨[45,32]⟩:ar),(⟨[10]⟩:ar),(⟨[10]⟩:ar),(⟨[10,32,32]⟩:ar),(⟨[10,32,32,32,32]⟩:ar),(⟨[107,101,121,58,32]⟩:ar),(⟨[91]⟩:ar),(⟨[93]⟩:ar),(⟨[123]⟩:ar),(⟨[125]⟩:ar),(⟨[44,32]⟩:ar),(⟨[58,32]⟩:ar),(⟨[39,105,116,39,39,115,39]⟩:ar),(⟨[34,120,92,110,34]⟩:ar),(⟨[35,32,110,111,116,101,10]⟩:ar),(⟨[38,110,32]⟩:ar),(⟨[42,110]⟩:ar),(⟨[33,33,105,110,116,32]⟩:ar),(⟨[124,10]⟩:ar),(⟨[62,45,10]⟩:ar),(⟨[45,45,45]⟩:ar),(⟨[46,46,46]⟩:ar),(⟨[9]⟩:ar),(⟨[13,10]⟩:ar),(⟨[32]⟩:ar),(⟨[49]⟩:ar),(⟨[126]⟩:ar),(⟨[39,111,112,101,110]⟩:ar),(⟨[34,92,113,34]⟩:ar),(⟨[45]⟩:ar),(⟨[58]⟩:ar),(⟨[116,101,120,116,32,111,102,32,119,111,114,100,115]⟩:ar),(⟨[10,45,32]⟩:ar),(⟨[10,107,58,32]⟩:ar),(⟨[32,32]⟩:ar),(⟨[35,32,111,102,102]⟩:ar),(⟨[44]⟩:ar),(⟨[124,43]⟩:ar),(⟨[10,10]⟩:ar)].length:Int) then
  ([(⟨[97]⟩:ar),(⟨[98,58,32]⟩:ar),(⟨[45,32]⟩:ar),(⟨[10]⟩:ar),(⟨[10]⟩:ar),(⟨[10,32,32]⟩:ar),(⟨[10,32,32,32,32]⟩:ar),(⟨[107,101,121,58,32]⟩:ar),(⟨[91]⟩:ar),(⟨[93]⟩:ar),(⟨[123]⟩:ar),(⟨[125]⟩:ar),(⟨[44,32]⟩:ar),(⟨[58,32]⟩:ar),(⟨[39,105,116,39,39,115,39]⟩:ar),(⟨[34,120,92,110,34]⟩:ar),(⟨[35,32,110,111,116,101,10]⟩:ar),(⟨[38,110,32]⟩:ar),(⟨[42,110]⟩:ar),(⟨[33,33,105,110,116,32]⟩:ar),(⟨[124,10]⟩:ar),(⟨[62,45,10]⟩:ar),(⟨[45,45,45]⟩:ar),(⟨[46,46,46]⟩:ar),(⟨[9]⟩:ar),(⟨[13,10]⟩:ar),(⟨[32]⟩:ar),(⟨[49]⟩:ar),(⟨[126]⟩:ar),(⟨[39,111,112,101,110]⟩:ar),(⟨[34,92,113,34]⟩:ar),(⟨[45]⟩:ar),(⟨[58]⟩:ar),(⟨[116,101,120,116,32,111,102,32,119,111,114,100,115]⟩:ar),(⟨[10,45,32]⟩:ar),(⟨[10,107,58,32]⟩:ar),(⟨[32,32]⟩:ar),(⟨[35,32,111,102,102]⟩:ar),(⟨[44]⟩:ar),(⟨[124,43]⟩:ar),(⟨[10,10]⟩:ar)][j.toNat]?).bind fun I=>
  some I
 else none
theorem Er (F:Nat) {h:AH} {Z:Zn} {a0:Int} (hI:Inv Z h) {r:ar} (hm:oy F a0=some r):
  bY Tryz.prog 21 [V a0] h Z (.string ⟨⟨r.b⟩⟩):=by
 refine b1 Tryz.func21 hI ?_
 intro hs hS
 unfold oy at hm
 refine s0<|xe 1 [(0,V a0)]<|sr Dg ?_
 have j:RCs (α:=ar) Z [.string ⟨⟨[97]⟩⟩, .string ⟨⟨[98,58,32]⟩⟩, .string ⟨⟨[45,32]⟩⟩, .string ⟨⟨[10]⟩⟩, .string ⟨⟨[10]⟩⟩, .string ⟨⟨[10,32,32]⟩⟩, .string ⟨⟨[10,32,32,32,32]⟩⟩, .string ⟨⟨[107,101,121,58,32]⟩⟩, .string ⟨⟨[91]⟩⟩, .string ⟨⟨[93]⟩⟩, .string ⟨⟨[123]⟩⟩, .string ⟨⟨[125]⟩⟩, .string ⟨⟨[44,32]⟩⟩, .string ⟨⟨[58,32]⟩⟩, .string ⟨⟨[39,105,116,39,39,115,39]⟩⟩, .string ⟨⟨[34,120,92,110,34]⟩⟩, .string ⟨⟨[35,32,110,111,116,101,10]⟩⟩, .string ⟨⟨[38,110,32]⟩⟩, .string ⟨⟨[42,110]⟩⟩, .string ⟨⟨[33,33,105,110,116,32]⟩⟩, .string ⟨⟨[124,10]⟩⟩, .string ⟨⟨[62,45,10]⟩⟩, .string ⟨⟨[45,45,45]⟩⟩, .string ⟨⟨[46,46,46]⟩⟩, .string ⟨⟨[9]⟩⟩, .string ⟨⟨[13,10]⟩⟩, .string ⟨⟨[32]⟩⟩, .string ⟨⟨[49]⟩⟩, .string ⟨⟨[126]⟩⟩, .string ⟨⟨[39,111,112,101,110]⟩⟩, .string ⟨⟨[34,92,113,34]⟩⟩, .string ⟨⟨[45]⟩⟩, .string ⟨⟨[58]⟩⟩, .string ⟨⟨[116,101,120,116,32,111,102,32,119,111,114,100,115]⟩⟩, .string ⟨⟨[10,45,32]⟩⟩, .string ⟨⟨[10,107,58,32]⟩⟩, .string ⟨⟨[32,32]⟩⟩, .string ⟨⟨[35,32,111,102,102]⟩⟩, .string ⟨⟨[44]⟩⟩, .string ⟨⟨[124,43]⟩⟩, .string ⟨⟨[10,10]⟩⟩] [(⟨[97]⟩:ar),(⟨[98,58,32]⟩:ar),(⟨[45,32]⟩:ar),(⟨[10]⟩:ar),(⟨[10]⟩:ar),(⟨[10,32,32]⟩:ar),(⟨[10,32,32,32,32]⟩:ar),(⟨[107,101,121,58,32]⟩:ar),(⟨[91]⟩:ar),(⟨[93]⟩:ar),(⟨[123]⟩:ar),(⟨[125]⟩:ar),(⟨[44,32]⟩:ar),(⟨[58,32]⟩:ar),(⟨[39,105,116,39,39,115,39]⟩:ar),(⟨[34,120,92,110,34]⟩:ar),(⟨[35,32,110,111,116,101,10]⟩:ar),(⟨[38,110,32]⟩:ar),(⟨[42,110]⟩:ar),(⟨[33,33,105,110,116,32]⟩:ar),(⟨[124,10]⟩:ar),(⟨[62,45,10]⟩:ar),(⟨[45,45,45]⟩:ar),(⟨[46,46,46]⟩:ar),(⟨[9]⟩:ar),(⟨[13,10]⟩:ar),(⟨[32]⟩:ar),(⟨[49]⟩:ar),(⟨[126]⟩:ar),(⟨[39,111,112,101,110]⟩:ar),(⟨[34,92,113,34]⟩:ar),(⟨[45]⟩:ar),(⟨[58]⟩:ar),(⟨[116,101,120,116,32,111,102,32,119,111,114,100,115]⟩:ar),(⟨[10,45,32]⟩:ar),(⟨[10,107,58,32]⟩:ar),(⟨[32,32]⟩:ar),(⟨[35,32,111,102,102]⟩:ar),(⟨[44]⟩:ar),(⟨[124,43]⟩:ar),(⟨[10,10]⟩:ar)]:=RCs.cons (cs:=[.string ⟨⟨[97]⟩⟩]) rfl (RCs.cons (cs:=[.string ⟨⟨[98,58,32]⟩⟩]) rfl (RCs.cons (cs:=[.string ⟨⟨[45,32]⟩⟩]) rfl (RCs.cons (cs:=[.string ⟨⟨[10]⟩⟩]) rfl (RCs.cons (cs:=[.string ⟨⟨[10]⟩⟩]) rfl (RCs.cons (cs:=[.string ⟨⟨[10,32,32]⟩⟩]) rfl (RCs.cons (cs:=[.string ⟨⟨[10,32,32,32,32]⟩⟩]) rfl (RCs.cons (cs:=[.string ⟨⟨[107,101,121,58,32]⟩⟩]) rfl (RCs.cons (cs:=[.string ⟨⟨[91]⟩⟩]) rfl (RCs.cons (cs:=[.string ⟨⟨[93]⟩⟩]) rfl (RCs.cons (cs:=[.string ⟨⟨[123]⟩⟩]) rfl (RCs.cons (cs:=[.string ⟨⟨[125]⟩⟩]) rfl (RCs.cons (cs:=[.string ⟨⟨[44,32]⟩⟩]) rfl (RCs.cons (cs:=[.string ⟨⟨[58,32]⟩⟩]) rfl (RCs.cons (cs:=[.string ⟨⟨[39,105,116,39,39,115,39]⟩⟩]) rfl (RCs.cons (cs:=[.string ⟨⟨[34,120,92,110,34]⟩⟩]) rfl (RCs.cons (cs:=[.string ⟨⟨[35,32,110,111,116,101,10]⟩⟩]) rfl (RCs.cons (cs:=[.string ⟨⟨[38,110,32]⟩⟩]) rfl (RCs.cons (cs:=[.string ⟨⟨[42,110]⟩⟩]) rfl (RCs.cons (cs:=[.string ⟨⟨[33,33,105,110,116,32]⟩⟩]) rfl (RCs.cons (cs:=[.string ⟨⟨[124,10]⟩⟩]) rfl (RCs.cons (cs:=[.string ⟨⟨[62,45,10]⟩⟩]) rfl (RCs.cons (cs:=[.string ⟨⟨[45,45,45]⟩⟩]) rfl (RCs.cons (cs:=[.string ⟨⟨[46,46,46]⟩⟩]) rfl (RCs.cons (cs:=[.string ⟨⟨[9]⟩⟩]) rfl (RCs.cons (cs:=[.string ⟨⟨[13,10]⟩⟩]) rfl (RCs.cons (cs:=[.string ⟨⟨[32]⟩⟩]) rfl (RCs.cons (cs:=[.string ⟨⟨[49]⟩⟩]) rfl (RCs.cons (cs:=[.string ⟨⟨[126]⟩⟩]) rfl (RCs.cons (cs:=[.string ⟨⟨[39,111,112,101,110]⟩⟩]) rfl (RCs.cons (cs:=[.string ⟨⟨[34,92,113,34]⟩⟩]) rfl (RCs.cons (cs:=[.string ⟨⟨[45]⟩⟩]) rfl (RCs.cons (cs:=[.string ⟨⟨[58]⟩⟩]) rfl (RCs.cons (cs:=[.string ⟨⟨[116,101,120,116,32,111,102,32,119,111,114,100,115]⟩⟩]) rfl (RCs.cons (cs:=[.string ⟨⟨[10,45,32]⟩⟩]) rfl (RCs.cons (cs:=[.string ⟨⟨[10,107,58,32]⟩⟩]) rfl (RCs.cons (cs:=[.string ⟨⟨[32,32]⟩⟩]) rfl (RCs.cons (cs:=[.string ⟨⟨[35,32,111,102,102]⟩⟩]) rfl (RCs.cons (cs:=[.string ⟨⟨[44]⟩⟩]) rfl (RCs.cons (cs:=[.string ⟨⟨[124,43]⟩⟩]) rfl (RCs.cons (cs:=[.string ⟨⟨[10,10]⟩⟩]) rfl (RCs.bq _)))))))))))))))))))))))))))))))))))))))))
 refine dG rfl trivial (c6 (cells:=[.string ⟨⟨[97]⟩⟩, .string ⟨⟨[98,58,32]⟩⟩, .string ⟨⟨[45,32]⟩⟩, .string ⟨⟨[10]⟩⟩, .string ⟨⟨[10]⟩⟩, .string ⟨⟨[10,32,32]⟩⟩, .string ⟨⟨[10,32,32,32,32]⟩⟩, .string ⟨⟨[107,101,121,58,32]⟩⟩, .string ⟨⟨[91]⟩⟩, .string ⟨⟨[93]⟩⟩, .string ⟨⟨[123]⟩⟩, .string ⟨⟨[125]⟩⟩, .string ⟨⟨[44,32]⟩⟩, .string ⟨⟨[58,32]⟩⟩, .string ⟨⟨[39,105,116,39,39,115,39]⟩⟩, .string ⟨⟨[34,120,92,110,34]⟩⟩, .string ⟨⟨[35,32,110,111,116,101,10]⟩⟩, .string ⟨⟨[38,110,32]⟩⟩, .string ⟨⟨[42,110]⟩⟩, .string ⟨⟨[33,33,105,110,116,32]⟩⟩, .string ⟨⟨[124,10]⟩⟩, .string ⟨⟨[62,45,10]⟩⟩, .string ⟨⟨[45,45,45]⟩⟩, .string ⟨⟨[46,46,46]⟩⟩, .string ⟨⟨[9]⟩⟩, .string ⟨⟨[13,10]⟩⟩, .string ⟨⟨[32]⟩⟩, .string ⟨⟨[49]⟩⟩, .string ⟨⟨[126]⟩⟩, .string ⟨⟨[39,111,112,101,110]⟩⟩, .string ⟨⟨[34,92,113,34]⟩⟩, .string ⟨⟨[45]⟩⟩, .string ⟨⟨[58]⟩⟩, .string ⟨⟨[116,101,120,116,32,111,102,32,119,111,114,100,115]⟩⟩, .string ⟨⟨[10,45,32]⟩⟩, .string ⟨⟨[10,107,58,32]⟩⟩, .string ⟨⟨[32,32]⟩⟩, .string ⟨⟨[35,32,111,102,102]⟩⟩, .string ⟨⟨[44]⟩⟩, .string ⟨⟨[124,43]⟩⟩, .string ⟨⟨[10,10]⟩⟩]) (s:=1) (by kernel_rfl)) (by kernel_rfl) hS ?_
 intro v1 h2 I
 refine xn 1<|s0<|bC 3 v1 (I.dP (i:=0) rfl j) ?_
 obtain ⟨ab,aa,hm⟩:=ai hm
 refine cP 0 I (E8 F I.inv aa) ?_
 rintro _ ad J rfl
 refine eV 0 0 hm J j rfl ?_
 intro ae hm
 refine fZ 0 0 0 (fun U=> .string ⟨⟨U.b⟩⟩) hm J j rfl ?_
 intro U af hm
 refine xn 1<|rt<|⟨rfl,?_⟩
 obtain rfl:=si hm
 refine ⟨_,_,_,tk (.string ⟨⟨U.b⟩⟩) (ResL.nil),J,?_⟩
 exact rfl
def xX:List aR:=[u 17 (mv 6),u 18 (mv 0),u 19 (cb .len #[(t 18)] #[22]),u 20 (bc .quo 3 19 2 3),u 21 (bo .eql 3 17 20 3)]
def yC:List aR:=[u 22 (mv 5),u 23 (mv 1),u 24 (mv 1),u 25 (cb .len #[(t 24)] #[23]),u 26 (cb .min #[(t 25),(ci 30)] #[3,3]),u 27 (.slice 23 (t 23) none (some (t 26)) none),u 28 (cb .append #[(t 22),(t 27)] #[23,23]),u 5 (sg 28)]
def xb:List aR:=[u 29 (mv 5),u 30 (mv 0),u 31 (mv 6),u 32 (ia 22 30 31),u 33 (ld 3 32),u 34 (cf 21 #[(t 33)] #[3]),u 35 (cb .append #[(t 29),(t 34)] #[23,9]),u 5 (sg 35)]
def C2:List aR:=[u 36 (mv 5),u 37 (mv 5),u 38 (cb .len #[(t 37)] #[23]),u 39 (cb .min #[(t 38),(ci 400)] #[3,3]),u 40 (.slice 23 (t 36) none (some (t 39)) none),u 4 (sg 40)]
def correctorlaw6_Text_l0 (F:Nat) (a0:List Int) (a1:List UInt8):Nat→(List UInt8)→Int→Option (List UInt8)
 | 0,_,_=>none
 | n+1,I,j=>
  if j<(a0.length:Int) then
   if j<(60:Int) then
    ((if j=(af ((a0.length:Int).tdiv 2)) then
      if 0≤(0:Int)∧(0:Int)≤(dR (a1.length:Int) 30)∧(dR (a1.length:Int) 30)≤(a1.length:Int) then
       if I.length+((a1.take (dR (a1.length:Int) 30).toNat).drop (0:Int).toNat).length≤140737488355328 then
        some (I++((a1.take (dR (a1.length:Int) 30).toNat).drop (0:Int).toNat))
       else none
      else none
     else
      some I):Option (List UInt8)).bind fun o=>match o with
     | J=>if 0≤j∧j<(a0.length:Int) then
      (a0[j.toNat]?).bind fun aa=>
      (oy F aa).bind fun U=>
      if J.length+U.b.length≤140737488355328 then
       correctorlaw6_Text_l0 F a0 a1 n (J++U.b) (af (j+1))
      else none
     else none
   else
    some I
  else
   some I
def oo (F:Nat) (a0:List Int) (a1:List UInt8):Option (List UInt8):=
 ((correctorlaw6_Text_l0 F a0 a1 F [] 0):Option (List UInt8)).bind fun o=>match o with
  | j=>if 0≤(0:Int)∧(0:Int)≤(dR (j.length:Int) 400)∧(dR (j.length:Int) 400)≤(j.length:Int) then
   some ((j.take (dR (j.length:Int) 400).toNat).drop (0:Int).toNat)
  else none
theorem FU (F:Nat) {h:AH} {Z:Zn} {a0:List Int} {a1:List UInt8} {v2 v4} (hP:Pre Z h []) (ao:RS (α:=Int) Z v2 a0) (aD:RS (α:=UInt8) Z v4 a1) {r:(List UInt8)} (hm:oo F a0 a1=some r):
  bS Tryz.prog 5 [v2,v4] h Z [] fun v Z' A'=>∃ v6,v6=v∧A'=[]∧RS (α:=UInt8) Z' v6 r:=by
 refine b3 Tryz.func5 hP ?_
 intro hs hS
 unfold oo at hm
 replace hS:St hs [] Z (0,0) Z hs []:=hS
 refine sp 1<|sp 1<|sq<|sp 1 ?_
 obtain ⟨au,j,hm⟩:=ai hm
 refine aJ [5] (fun l h=>∃ av ah aj aw,ah=au∧RCs (α:=UInt8) av aw ah∧l=[(5,aj)]∧St hs [] Z (0,0) av h [.gs aj aw (aa UInt8)]) ?_ ?_
 rintro l bc ⟨av,ah,aj,aw,rfl,aE,rfl,aF⟩
 try dsimp only at hm
 refine sr C2<|bC 2 aj (aF.dP (i:=0) rfl aE)<|xq 1 [(39,V (dR (ah.length:Int) 400)),(36,aj)] ?_
 obtain ⟨bd,bf,aM,aN⟩:=(aF.front 0 rfl).freeze aE
 obtain ⟨ax,hm⟩:=aH hm
 refine j1 rfl trivial (iY (a:=0) (b:=dR (ah.length:Int) 400) aM rfl (by kernel_rfl:slTy _ _=some (aa UInt8)) rfl ⟨_,rfl⟩ ax.1 ax.2.1 ax.2.2) ?_
 intro aG aO
 refine xn 1<|rt<|⟨rfl,?_⟩
 obtain rfl:=si hm
 refine ⟨_,_,_,tk aG (ResL.nil),aN,?_⟩
 exact ⟨aG,rfl,rfl,aO⟩
 refine bk 0 ?_
 have aP:=hS.dh (aa UInt8)
 refine lp [0,1,5,6] (fun n l h=>∃ ay ad I J ae,correctorlaw6_Text_l0 F a0 a1 n ad I=some au∧RCs (α:=UInt8) ay ae ad∧l=[(0,v2),(1,v4),(5,J),(6,V I)]∧St hs [] Z (0,0) ay h [.gs J ae (aa UInt8)]) F ⟨_,[],0,(.slice none 0 0),[],j,(RCs.bq _),(by kernel_rfl),aP⟩ ?_
 rintro az l bg ⟨ay,ad,I,J,ae,j,aq,rfl,U⟩
 rcases az with _ | az
 cases (show none=some au from j)
 rw [correctorlaw6_Text_l0] at j
 refine sq<|s0<|bC 2 v2 (RS.len (ao.mono U.ag))<|aT 0 j ?_ ?_<;>intro bh j
 refine aT 2 j ?_ ?_<;>intro bj j
 refine xn 1<|dT<|sk<|sq<|bk 1<|sq ?_
 obtain ⟨aQ,ab,j⟩:=ai j
 refine dM [0,1,5,6] (fun l h=>∃ aA ar ak aB,ar=aQ∧RCs (α:=UInt8) aA aB ar∧l=[(0,v2),(1,v4),(5,ak),(6,V I)]∧St hs [] Z (0,0) aA h [.gs ak aB (aa UInt8)]) (by kernel_rfl) ?_ ?_
 rintro l bl ⟨aA,ar,ak,aB,rfl,aU,rfl,an⟩
 try dsimp only at j
 refine rg xb<|xq 3 [(31,V I),(30,v2),(29,ak),(0,v2),(1,v4),(5,ak),(6,V I)]<|a8 0 j (ao.mono an.ag) ?_
 intro bm j
 refine bt 0 0 (fun aI=>V aI) j (ao.mono an.ag) an ?_
 intro aI bn j
 obtain ⟨aL,aV,j⟩:=ai j
 refine cP 0 an (Er F an.inv aV) ?_
 rintro _ bo aW rfl
 obtain ⟨bp,j⟩:=aH j
 refine eZ rfl trivial (dE (ys:=aL.b) (bX:=1) aW (i:=0) rfl aU (w7 _ _) rfl rfl (by kernel_rfl) (by omega) (by omega)) ?_
 rintro aX aY bu ⟨aZ,a2⟩
 refine xn 1<|gp 3 ?_
 exact ⟨az,a7 _,⟨_,ar++aL.b,af (I+1),aX,aY,j,aZ,(by kernel_rfl),a2⟩⟩
 refine rg xX<|xq 2 [(18,v2),(17,V I),(0,v2),(1,v4),(5,J),(6,V I)]<|bC 0 v2 (RS.len (ao.mono U.ag))<|bW rfl trivial (wx (b:=2) (by decide) rfl rfl)<|aK 0 ab ?_ ?_<;>intro bw ab
 refine xn 0<|dT<|rg yC<|bC 3 v4 (RS.len (aD.mono U.ag))<|xq 1 [(26,V (dR (a1.length:Int) 30)),(23,v4),(22,J),(0,v2),(1,v4),(5,J),(6,V I)] ?_
 obtain ⟨aC,ab⟩:=aH ab
 refine j1 rfl trivial (iY (a:=0) (b:=dR (a1.length:Int) 30) (aD.mono U.ag) rfl (by kernel_rfl:slTy _ _=some (aa UInt8)) rfl ⟨_,rfl⟩ aC.1 aC.2.1 aC.2.2) ?_
 intro bx a3
 obtain ⟨bz,a5⟩:=RS.news a3 (U).inv
 obtain ⟨bA,ab⟩:=aH ab
 refine eZ rfl trivial (dE (ys:=(a1.take (dR (a1.length:Int) 30).toNat).drop (0:Int).toNat) (bX:=1) U (i:=0) rfl aq a5 rfl rfl (by kernel_rfl) (by omega) (by omega)) ?_
 rintro a6 a9 bB ⟨ba,bb⟩
 refine xn 1 ?_
 obtain rfl:=si ab
 exact ⟨_,ad++((a1.take (dR (a1.length:Int) 30).toNat).drop (0:Int).toNat),a6,a9,rfl,ba,(by kernel_rfl),bb⟩
 refine xn 0<|dF<|sk ?_
 obtain rfl:=si ab
 exact ⟨_,ad,J,ae,rfl,aq,(by kernel_rfl),U⟩
 refine xn 1<|dF<|xt 0<|aS ?_
 obtain rfl:=si j
 exact ⟨_,ad,J,ae,rfl,aq,(by kernel_rfl),U⟩
 refine xn 4<|dF<|xt 0<|aS ?_
 obtain rfl:=si j
 exact ⟨_,ad,J,ae,rfl,aq,(by kernel_rfl),U⟩
end
section
open Go Am Sy
open Sy.Cell (rc)
structure av where
 Kind:Int
 ah:Int
 To:Int
 aI:Int
 deriving DecidableEq,Inhabited
instance:Cell av where
 size:=4
 rc Z cs x:=cs=[V x.Kind,V x.ah,V x.To,V x.aI]
 len h:=by rw [h];rfl
 mono _ h:=h
 one h:=by rw [h];rfl
 pos:=by decide
theorem EI {Z:Zn} {cs:List Value} {x:av} (h:rc Z cs x):cs=[V x.Kind,V x.ah,V x.To,V x.aI]:=h
abbrev cX (x:av):List Value:=[V x.Kind,V x.ah,V x.To,V x.aI]
instance:FC av:=⟨cX,fun q=>q⟩
structure bd where
 iM:Bool
 aI:Int
 ah:Int
 To:Int
 deriving DecidableEq,Inhabited
instance:Cell bd where
 size:=4
 rc Z cs x:=cs=[.bool x.iM,V x.aI,V x.ah,V x.To]
 len h:=by rw [h];rfl
 mono _ h:=h
 one h:=by rw [h];rfl
 pos:=by decide
theorem u4 {Z:Zn} {cs:List Value} {x:bd} (h:rc Z cs x):cs=[.bool x.iM,V x.aI,V x.ah,V x.To]:=h
abbrev eX (x:bd):List Value:=[.bool x.iM,V x.aI,V x.ah,V x.To]
instance:FC bd:=⟨eX,fun q=>q⟩
def BW:List br:=[uP 33 (mv 0),uP 34 (mv 5),uP 35 (ia 28 33 34),uP 36 (fa 76 35 1),uL 37 (ld 3 36),uP 38 (mv 0),uP 39 (fa 67 6 1),uL 40 (ld 3 39),uP 41 (ia 28 38 40),uP 42 (fa 76 41 1),uL 43 (ld 3 42),uP 44 (bo .sub 3 37 43 3),uP 45 (fa 67 6 3),oF (.store 3 (t 45) (t 44)) .make [4,7,10],uP 46 (fa 67 6 0),oF (.store 3 (t 46) (ci 5)) .make [4,7,10]]
def C8:List aR:=[u 94 (mv 3),u 95 (ld 67 6),u 96 (.buildSlice 56 1 #[(0,(t 95))]),u 97 (cb .append #[(t 94),(t 96)] #[56,56]),u 3 (sg 97)]
def correctorref9_Rows_l1 (F:Nat) (a0:List al):Nat→(List av)→Int→Int→av→Bool→Option ((List av)×Int×Int×av×Bool)
 | 0,_,_,_,_,_=>none
 | n+1,U,aa,I,j,ab=>
  if I<(a0.length:Int) then
   if 0≤I∧I<(a0.length:Int) then
    (a0[I.toNat]?).bind fun J=>
    ((if j.aI<(0:Int) then
      (fH F J.Kind).bind fun ay=>
      if ay=true then
       if 0≤I∧I<(a0.length:Int) then
        (a0[I.toNat]?).bind fun aj=>
        if 0≤j.ah∧j.ah<(a0.length:Int) then
         (a0[j.ah.toNat]?).bind fun ak=>
         if J.Kind=(20:Int) then
          some (U,(⟨4,j.ah,j.To,af (aj.ah - ak.ah)⟩:av))
         else
          if J.Kind=(21:Int) then
           some (U,(⟨4,j.ah,j.To,af (aj.ah - ak.ah)⟩:av))
          else
           some (U,(⟨5,j.ah,j.To,af (aj.ah - ak.ah)⟩:av))
        else none
       else none
      else
       some (U,j)
     else
      some (U,j)):Option ((List av)×av)).bind fun o=>match o with
     | (an,ao)=>((((if J.Kind=(8:Int) then
        some (an,ao,true)
       else
        if J.Kind=(9:Int) then
         some (an,ao,true)
        else
         some (an,ao,false)):Option ((List av)×av×Bool)).bind fun o=>match o with
       | (ad,ae,az)=>if az=true then
        some (ad,af (aa+1),ae)
       else
        ((if J.Kind=(10:Int) then
          some (ad,ae,true)
         else
          if J.Kind=(11:Int) then
           some (ad,ae,true)
          else
           some (ad,ae,false)):Option ((List av)×av×Bool)).bind fun o=>match o with
         | (ag,ai,aA)=>if aA=true then
          some (ag,imax (af (aa - 1)) 0,ai)
         else
          ((if J.Kind=(20:Int) then
            some (ag,ai,true)
           else
            if J.Kind=(21:Int) then
             some (ag,ai,true)
            else
             some (ag,ai,false)):Option ((List av)×av×Bool)).bind fun o=>match o with
           | (aw,ax,aB)=>if aB=true then
            some (aw,0,ax)
           else
            some (aw,aa,ax)):Option ((List av)×Int×av)).bind fun o=>match o with
      | (aq,ar,au)=>if J.Kind=(1:Int) then
       some (aq,ar,af (I+1),au,ab)
      else
       if J.Kind=(19:Int) then
        some (aq,ar,af (I+1),au,ab)
       else
        correctorref9_Rows_l1 F a0 n aq ar (af (I+1)) au ab
   else none
  else
   some (U,aa,I,j,ab)
def correctorref9_Rows_l0 (F:Nat) (a0:List al):Nat→(List av)→Int→Int→Option (List av)
 | 0,_,_,_=>none
 | n+1,aa,ab,J=>
  if J<(a0.length:Int) then
   ((if (0:Int)<ab then
     some (aa,(⟨1,J,0,(-1)⟩:av),true)
    else
     some (aa,(⟨1,J,0,(-1)⟩:av),false)):Option ((List av)×av×Bool)).bind fun o=>match o with
    | (af,ag,ai)=>((correctorref9_Rows_l1 F a0 F af ab J ag ai):Option ((List av)×Int×Int×av×Bool)).bind fun o=>match o with
     | (U,aj,I,j,ak)=>((if 0≤j.ah∧j.ah<(a0.length:Int) then
       (a0[j.ah.toNat]?).bind fun an=>
       if an.Kind=(19:Int) then
        some (U,(⟨2,j.ah,I,j.aI⟩:av))
       else
        if ak=true then
         if j.Kind=(4:Int) then
          some (U,(⟨j.Kind,j.ah,I,j.aI⟩:av))
         else
          some (U,(⟨3,j.ah,I,j.aI⟩:av))
        else
         some (U,(⟨j.Kind,j.ah,I,j.aI⟩:av))
      else none):Option ((List av)×av)).bind fun o=>match o with
      | (ad,ae)=>if ad.length+[ae].length≤4398046511104 then
       correctorref9_Rows_l0 F a0 n (ad++[ae]) aj I
      else none
  else
   some aa
def l8 (F:Nat) (a0:List al):Option (List av):=
 ((correctorref9_Rows_l0 F a0 F [] 0 0):Option (List av)).bind fun o=>match o with
  | j=>some j
theorem D6 (F:Nat) {h:AH} {Z:Zn} {a0:List al} {v2} (hP:Pre Z h []) (aL:RS (α:=al) Z v2 a0) {r:(List av)} (hm:l8 F a0=some r):
  bS Tryz.prog 24 [v2] h Z [] fun v Z' A'=>∃ v4 cQ,v4=v∧A'=[.gs v4 cQ (aa av)]∧RCs (α:=av) Z' cQ r:=by
 refine b3 Tryz.func24 hP ?_
 intro hs hS
 unfold l8 at hm
 replace hS:St hs [] Z (0,0) Z hs []:=hS
 refine sp 1<|sp 1<|sp 1<|sq<|sp 1 ?_
 obtain ⟨cj,an,hm⟩:=ai hm
 refine aJ [3] (fun l h=>∃ ck cl bM bY,cl=cj∧RCs (α:=av) ck bY cl∧l=[(3,bM)]∧St hs [] Z (0,0) ck h [.gs bM bY (aa av)]) ?_ ?_
 rintro l ea ⟨ck,cl,bM,bY,rfl,de,rfl,df⟩
 try dsimp only at hm
 refine sp 2<|rt<|⟨rfl,?_⟩
 obtain rfl:=si hm
 refine ⟨_,_,_,tk bM (ResL.nil),df,?_⟩
 exact ⟨bM,bY,rfl,rfl,de⟩
 refine bk 0 ?_
 have dg:=hS.dh (aa av)
 refine lp [0,3,4,5] (fun n l h=>∃ cm bl bN aM bm bn,correctorref9_Rows_l0 F a0 n bl bN aM=some cj∧RCs (α:=av) cm bn bl∧l=[(0,v2),(3,bm),(4,V bN),(5,V aM)]∧St hs [] Z (0,0) cm h [.gs bm bn (aa av)]) F ⟨_,[],0,0,(.slice none 0 0),[],an,(RCs.bq _),(by kernel_rfl),dg⟩ ?_
 rintro cn l eb ⟨cm,bl,bN,aM,bm,bn,an,cp,rfl,cq⟩
 rcases cn with _ | cn
 cases (show none=some cj from an)
 rw [correctorref9_Rows_l0] at an
 refine sq<|s0<|bC 2 v2 (RS.len (aL.mono cq.ag))<|aT 0 an ?_ ?_<;>intro ec an
 refine xn 0<|dT<|sk<|bk 1<|s0<|dt 2 [V 0,V 0,V 0,V 0] cq ?_
 intro cR ed di
 refine bG 0 0 (.agg #[V 1,V aM,V 0,V (-1)]) [V 1,V aM,V 0,V (-1)] [V 1,V aM,V 0,V (-1)] di rfl rfl rfl ?_
 intro ee cS
 refine xn 0<|sq ?_
 obtain ⟨dj,bZ,an⟩:=ai an
 refine aJ [0,3,4,5,6,7] (fun l h=>∃ cr b0 b1 b2 b4 b5 b6,(b0,b1,b2)=dj∧RCs (α:=av) cr b5 b0∧l=[(0,v2),(3,b4),(4,V bN),(5,V aM),(6,Pt b6 0),(7, .bool b2)]∧St hs [] Z (0,0) cr h [.gs b4 b5 (aa av), .ae b6 (cX b1)]) ?_ ?_
 rintro l eg ⟨cr,b0,b1,b2,b4,b5,b6,rfl,dm,rfl,dn⟩
 try dsimp only at an
 refine sq ?_
 obtain ⟨ct,U,an⟩:=ai an
 refine aJ [0,3,4,5,6,7] (fun l h=>∃ cu aP bo az ad cv aQ aU aX,(aP,bo,az,ad,cv)=ct∧RCs (α:=av) cu aU aP∧l=[(0,v2),(3,aQ),(4,V bo),(5,V az),(6,Pt aX 0),(7, .bool cv)]∧St hs [] Z (0,0) cu h [.gs aQ aU (aa av), .ae aX (cX ad)]) ?_ ?_
 rintro l eh ⟨cu,aP,bo,az,ad,cv,aQ,aU,aX,rfl,b7,rfl,cw⟩
 try dsimp only at an
 refine s0<|bG 2 1 (V az) [V az] [V ad.Kind,V ad.ah,V az,V ad.aI] cw rfl rfl rfl ?_
 intro ei aZ
 refine xn 0<|sq ?_
 obtain ⟨dp,aA,an⟩:=ai an
 refine dM [0,3,4,5,6] (fun l h=>∃ b8 b9 aj bP cx ca,(b9,aj)=dp∧RCs (α:=av) b8 cx b9∧l=[(0,v2),(3,bP),(4,V bo),(5,V az),(6,Pt ca 0)]∧St hs [] Z (0,0) b8 h [.gs bP cx (aa av), .ae ca (cX aj)]) (by kernel_rfl) ?_ ?_
 rintro l ej ⟨b8,b9,aj,bP,cx,ca,rfl,dr,rfl,cT⟩
 try dsimp only at an
 refine rg C8<|xq 1 [(94,bP),(0,v2),(3,bP),(4,V bo),(5,V az),(6,Pt ca 0)]<|aD 0 1 (.agg #[V aj.Kind,V aj.ah,V aj.To,V aj.aI]) cT rfl ?_
 have ds:RCs (α:=av) b8 [V aj.Kind,V aj.ah,V aj.To,V aj.aI] [aj]:=RCs.cons (cs:=[V aj.Kind,V aj.ah,V aj.To,V aj.aI]) rfl (RCs.bq _)
 refine dG rfl trivial (c6 (cells:=[V aj.Kind,V aj.ah,V aj.To,V aj.aI]) (s:=4) (by kernel_rfl)) (by kernel_rfl) cT ?_
 intro ek en cU
 obtain ⟨eo,an⟩:=aH an
 refine eZ rfl trivial (dE (ys:=[aj]) (bX:=32) cU (i:=1) rfl dr ((cU).eB (j:=0) rfl ds) rfl rfl (by kernel_rfl) (by omega) (by omega)) ?_
 rintro du dw ep ⟨dx,dy⟩
 refine xn 1 ?_
 exact ⟨cn,a7 _,⟨_,b9++[aj],bo,az,du,dw,an,dx,(by kernel_rfl),((dy.front 1 rfl).takeN 1)⟩⟩
 refine g0<|aD 2 1 (V ad.ah) aZ rfl<|a8 0 aA (aL.mono cw.ag) ?_
 intro er aA
 refine bt 1 0 (fun cW=>V cW.Kind) aA (aL.mono cw.ag) aZ ?_
 intro cW et aA
 refine aK 0 aA ?_ ?_<;>intro eu aA
 refine xn 0<|dT<|g0<|bG 1 1 (V 2) [V 2] [V 2,V ad.ah,V az,V ad.aI] aZ rfl rfl rfl ?_
 intro ew dz
 refine xn 0 ?_
 obtain rfl:=si aA
 exact ⟨_,aP,(⟨2,ad.ah,az,ad.aI⟩:av),aQ,aU,aX,rfl,b7,(by kernel_rfl),dz⟩
 refine xn 0<|dF<|s0<|kb 2 88 aA ?_ ?_<;>intro ey aA
 refine aD 1 1 (V ad.Kind) aZ rfl<|dv 0 aA ?_ ?_<;>intro ez aA
 refine xn 1<|dF<|sk ?_
 obtain rfl:=si aA
 exact ⟨_,aP,(⟨ad.Kind,ad.ah,az,ad.aI⟩:av),aQ,aU,aX,rfl,b7,(by kernel_rfl),aZ⟩
 refine xn 1<|dT<|g0<|bG 1 1 (V 3) [V 3] [V 3,V ad.ah,V az,V ad.aI] aZ rfl rfl rfl ?_
 intro eA dA
 refine xn 0 ?_
 obtain rfl:=si aA
 exact ⟨_,aP,(⟨3,ad.ah,az,ad.aI⟩:av),aQ,aU,aX,rfl,b7,(by kernel_rfl),dA⟩
 refine xn 4<|dF<|sk ?_
 obtain rfl:=si aA
 exact ⟨_,aP,(⟨ad.Kind,ad.ah,az,ad.aI⟩:av),aQ,aU,aX,rfl,b7,(by kernel_rfl),aZ⟩
 refine bk 2<|lp [0,3,4,5,6,7] (fun n l h=>∃ cy aN ar ak I ao aw aE J,correctorref9_Rows_l1 F a0 n aN ar ak I ao=some ct∧RCs (α:=av) cy aE aN∧l=[(0,v2),(3,aw),(4,V ar),(5,V ak),(6,Pt J 0),(7, .bool ao)]∧St hs [] Z (0,0) cy h [.gs aw aE (aa av), .ae J (cX I)]) F ⟨_,b0,bN,aM,b1,b2,b4,b5,b6,U,dm,(by kernel_rfl),dn⟩ ?_
 rintro cz l eC ⟨cy,aN,ar,ak,I,ao,aw,aE,J,U,bp,rfl,aC⟩
 rcases cz with _ | cz
 cases (show none=some ct from U)
 rw [correctorref9_Rows_l1] at U
 refine sq<|s0<|bC 2 v2 (RS.len (aL.mono aC.ag))<|aT 0 U ?_ ?_<;>intro eD U
 refine xn 0<|dT<|sk<|bk 3<|s0<|a8 2 U (aL.mono aC.ag) ?_
 intro eE U
 refine bt 1 0 (fun ax=>V ax.Kind) U (aL.mono aC.ag) aC ?_
 intro ax eF U
 refine xn 1<|sq ?_
 obtain ⟨dB,ab,U⟩:=ai U
 refine aJ [0,3,4,5,6,7,8] (fun l h=>∃ cA bu bz bA bB bD,(bu,bz)=dB∧RCs (α:=av) cA bB bu∧l=[(0,v2),(3,bA),(4,V ar),(5,V ak),(6,Pt bD 0),(7, .bool ao),(8,V ax.Kind)]∧St hs [] Z (0,0) cA h [.gs bA bB (aa av), .ae bD (cX bz)]) ?_ ?_
 rintro l eG ⟨cA,bu,bz,bA,bB,bD,rfl,cB,rfl,cC⟩
 try dsimp only at U
 refine sq ?_
 obtain ⟨dC,aq,U⟩:=ai U
 refine aJ [0,3,4,5,6,7,8] (fun l h=>∃ cD bF bH bI bJ bK bL,(bF,bH,bI)=dC∧RCs (α:=av) cD bK bF∧l=[(0,v2),(3,bJ),(4,V bH),(5,V ak),(6,Pt bL 0),(7, .bool ao),(8,V ax.Kind)]∧St hs [] Z (0,0) cD h [.gs bJ bK (aa av), .ae bL (cX bI)]) ?_ ?_
 rintro l eI ⟨cD,bF,bH,bI,bJ,bK,bL,rfl,cE,rfl,cF⟩
 try dsimp only at U
 refine sp 3<|s0<|aK 1 U ?_ ?_<;>intro eJ U
 refine xn 4<|dT<|xt 2<|h3 rfl<|aS ?_
 obtain rfl:=si U
 exact ⟨_,bF,bH,af (ak+1),bI,ao,bJ,bK,bL,rfl,cE,(by kernel_rfl),cF⟩
 refine aK 2 U ?_ ?_<;>intro eK U
 refine xn 1<|dT<|xt 2<|h3 rfl<|aS ?_
 obtain rfl:=si U
 exact ⟨_,bF,bH,af (ak+1),bI,ao,bJ,bK,bL,rfl,cE,(by kernel_rfl),cF⟩
 refine xn 1<|dF<|sk ?_
 exact ⟨cz,a7 _,⟨_,bF,bH,af (ak+1),bI,ao,bJ,bK,bL,U,cE,(by kernel_rfl),cF⟩⟩
 refine sp 1<|bk 4<|sq ?_
 obtain ⟨dD,a1,aq⟩:=ai aq
 refine aJ [0,3,4,5,6,7,8,54,55] (fun l h=>∃ cH a2 a5 cI a6 a9 ba,(a2,a5,cI)=dD∧RCs (α:=av) cH a9 a2∧l=[(0,v2),(3,a6),(4,V ar),(5,V ak),(6,Pt ba 0),(7, .bool ao),(8,V ax.Kind),(54,V ax.Kind),(55, .bool cI)]∧St hs [] Z (0,0) cH h [.gs a6 a9 (aa av), .ae ba (cX a5)]) ?_ ?_
 rintro l eL ⟨cH,a2,a5,cI,a6,a9,ba,rfl,cb,rfl,cc⟩
 try dsimp only at aq
 refine db aq ?_ ?_<;>intro eM aq
 refine gp 3 ?_
 obtain rfl:=si aq
 exact ⟨_,a2,af (ar+1),a5,a6,a9,ba,rfl,cb,(by kernel_rfl),cc⟩
 refine sq ?_
 obtain ⟨dH,bb,aq⟩:=ai aq
 refine aJ [0,3,4,5,6,7,8,54,60] (fun l h=>∃ cJ bc bd cK bf bg bh,(bc,bd,cK)=dH∧RCs (α:=av) cJ bg bc∧l=[(0,v2),(3,bf),(4,V ar),(5,V ak),(6,Pt bh 0),(7, .bool ao),(8,V ax.Kind),(54,V ax.Kind),(60, .bool cK)]∧St hs [] Z (0,0) cJ h [.gs bf bg (aa av), .ae bh (cX bd)]) ?_ ?_
 rintro l eN ⟨cJ,bc,bd,cK,bf,bg,bh,rfl,cd,rfl,cf⟩
 try dsimp only at aq
 refine db aq ?_ ?_<;>intro eO aq
 refine gp 4 ?_
 obtain rfl:=si aq
 exact ⟨_,bc,imax (af (ar - 1)) 0,bd,bf,bg,bh,rfl,cd,(by kernel_rfl),cf⟩
 refine sq ?_
 obtain ⟨dI,bj,aq⟩:=ai aq
 refine aJ [0,3,4,5,6,7,8,66] (fun l h=>∃ cL bQ bR cM bT bU bW,(bQ,bR,cM)=dI∧RCs (α:=av) cL bU bQ∧l=[(0,v2),(3,bT),(4,V ar),(5,V ak),(6,Pt bW 0),(7, .bool ao),(8,V ax.Kind),(66, .bool cM)]∧St hs [] Z (0,0) cL h [.gs bT bU (aa av), .ae bW (cX bR)]) ?_ ?_
 rintro l eP ⟨cL,bQ,bR,cM,bT,bU,bW,rfl,c0,rfl,c3⟩
 try dsimp only at aq
 refine db aq ?_ ?_<;>intro eQ aq
 refine gp 1 ?_
 obtain rfl:=si aq
 exact ⟨_,bQ,0,bR,bT,bU,bW,rfl,c0,(by kernel_rfl),c3⟩
 refine sk ?_
 obtain rfl:=si aq
 exact ⟨_,bQ,ar,bR,bT,bU,bW,rfl,c0,(by kernel_rfl),c3⟩
 refine s0<|aK 0 bj ?_ ?_<;>intro eR bj
 refine xn 1<|dT<|sk ?_
 obtain rfl:=si bj
 exact ⟨_,bc,bd,true,bf,bg,bh,rfl,cd,(by kernel_rfl),cf⟩
 refine xn 1<|dF<|g0<|aK 0 bj ?_ ?_<;>intro eS bj
 refine xn 1 ?_
 obtain rfl:=si bj
 exact ⟨_,bc,bd,true,bf,bg,bh,rfl,cd,(by kernel_rfl),cf⟩
 refine xn 1 ?_
 obtain rfl:=si bj
 exact ⟨_,bc,bd,false,bf,bg,bh,rfl,cd,(by kernel_rfl),cf⟩
 refine s0<|aK 0 bb ?_ ?_<;>intro eT bb
 refine xn 1<|dT<|sk ?_
 obtain rfl:=si bb
 exact ⟨_,a2,a5,true,a6,a9,ba,rfl,cb,(by kernel_rfl),cc⟩
 refine xn 1<|dF<|g0<|aK 0 bb ?_ ?_<;>intro eU bb
 refine xn 1 ?_
 obtain rfl:=si bb
 exact ⟨_,a2,a5,true,a6,a9,ba,rfl,cb,(by kernel_rfl),cc⟩
 refine xn 1 ?_
 obtain rfl:=si bb
 exact ⟨_,a2,a5,false,a6,a9,ba,rfl,cb,(by kernel_rfl),cc⟩
 refine s0<|aK 0 a1 ?_ ?_<;>intro eV a1
 refine xn 1<|dT<|sk ?_
 obtain rfl:=si a1
 exact ⟨_,bu,bz,true,bA,bB,bD,rfl,cB,(by kernel_rfl),cC⟩
 refine xn 1<|dF<|g0<|aK 0 a1 ?_ ?_<;>intro eW a1
 refine xn 1 ?_
 obtain rfl:=si a1
 exact ⟨_,bu,bz,true,bA,bB,bD,rfl,cB,(by kernel_rfl),cC⟩
 refine xn 1 ?_
 obtain rfl:=si a1
 exact ⟨_,bu,bz,false,bA,bB,bD,rfl,cB,(by kernel_rfl),cC⟩
 refine s0<|aD 1 1 (V I.aI) aC rfl<|aT 0 ab ?_ ?_<;>intro eX ab
 obtain ⟨eY,dJ,ab⟩:=ai ab
 refine cP 2 aC (iW F aC.inv dJ) ?_
 rintro _ e0 c4 rfl
 refine xn 1<|db ab ?_ ?_<;>intro e2 ab
 refine cY BW c4 ?_
 intro dL e3 dN ch
 refine yq 2 [(34,V ak),(33,v2),(8,V ax.Kind),(0,v2),(3,aw),(4,V ar),(5,V ak),(6,Pt J 0),(7, .bool ao)] ?_
 obtain ⟨c5,ab⟩:=aH ab
 refine aF rfl trivial (bx rfl rfl (by kernel_rfl:slTy _ _=some (aa al)) (RS.cG (aL.mono aC.ag) (by omega)) c5.1 c5.2)<|yq 1 [(36, .pointer (some (bw v2 ak (aa al) 1))),(8,V ax.Kind),(0,v2),(3,aw),(4,V ar),(5,V ak),(6,Pt J 0),(7, .bool ao)] ?_
 obtain ⟨ay,dO,ab⟩:=ai ab
 obtain ⟨e4,dP,dQ⟩:=RS.bV (aL.mono aC.ag) (i:=ak) dO
 obtain rfl:=eH dP
 refine cg rfl rfl trivial (fun h2 hz=>bE (w:=V ay.ah) (dQ h2 hz) rfl (by kernel_rfl)) (ch.bO (aO.refl _)) (aG (v:=V ay.ah) trivial) trivial<|yq 2 [(39,Pt J 1),(38,v2),(37,V ay.ah),(8,V ax.Kind),(0,v2),(3,aw),(4,V ar),(5,V ak),(6,Pt J 0),(7, .bool ao)] ?_
 have e5:J<dL:=dN.1 _ (au (i:=1) rfl) _ (by simp [Itm.ids])
 refine aW (v:=V I.ah) rfl trivial rfl (by show J<_;omega) (aG (v:=V I.ah) trivial) (ch.aV (i:=1) rfl (by kernel_rfl)) trivial ?_
 obtain ⟨c8,ab⟩:=aH ab
 refine aF rfl trivial (bx rfl rfl (by kernel_rfl:slTy _ _=some (aa al)) (RS.cG (aL.mono aC.ag) (by omega)) c8.1 c8.2)<|yq 1 [(42, .pointer (some (bw v2 I.ah (aa al) 1))),(37,V ay.ah),(8,V ax.Kind),(0,v2),(3,aw),(4,V ar),(5,V ak),(6,Pt J 0),(7, .bool ao)] ?_
 obtain ⟨aB,dR,ab⟩:=ai ab
 obtain ⟨e6,dS,dV⟩:=RS.bV (aL.mono aC.ag) (i:=I.ah) dR
 obtain rfl:=eH dS
 refine cg rfl rfl trivial (fun h2 hz=>bE (w:=V aB.ah) (dV h2 hz) rfl (by kernel_rfl)) (ch.bO (aO.refl _)) (aG (v:=V aB.ah) trivial) trivial<|yq 2 [(45,Pt J 3),(44,V (af (ay.ah - aB.ah))),(8,V ax.Kind),(0,v2),(3,aw),(4,V ar),(5,V ak),(6,Pt J 0),(7, .bool ao)] ?_
 have dc:St _ _ _ _ _ _ ([.ae J (cX I)]++[.gs aw aE (aa av)]):=(ch.front 1 rfl)
 refine gu rfl trivial dc (gg (vs:=[V (af (ay.ah - aB.ah))]) (cO:=[V I.Kind,V I.ah,V I.To,V (af (ay.ah - aB.ah))]) (L':=[.ae J [V I.Kind,V I.ah,V I.To,V (af (ay.ah - aB.ah))]]) dc.sub (i:=0) rfl rfl rfl rfl (by kernel_rfl) rfl rfl rfl rfl) (aO.refl _) (.a3 trivial (.drop (by decide) (.a3 trivial .nil))) ?_
 intro e7 dW
 refine yq 1 [(46,Pt J 0),(8,V ax.Kind),(0,v2),(3,aw),(4,V ar),(5,V ak),(6,Pt J 0),(7, .bool ao)] ?_
 have dd:St _ _ _ _ _ _ ([.ae J [V I.Kind,V I.ah,V I.To,V (af (ay.ah - aB.ah))]]++[.gs aw aE (aa av)]):=(dW.front 0 rfl)
 refine gu rfl trivial dd (gg (vs:=[V 5]) (cO:=[V 5,V I.ah,V I.To,V (af (ay.ah - aB.ah))]) (L':=[.ae J [V 5,V I.ah,V I.To,V (af (ay.ah - aB.ah))]]) dd.sub (i:=0) rfl rfl rfl rfl (by kernel_rfl) rfl rfl rfl rfl) (aO.refl _) (.a3 trivial (.drop (by decide) (.a3 trivial .nil))) ?_
 intro e8 dX
 refine yf [(8,V ax.Kind),(0,v2),(3,aw),(4,V ar),(5,V ak),(6,Pt J 0),(7, .bool ao)] ?_
 have cN:=dX.aY
 refine s0<|aK 1 ab ?_ ?_<;>intro e9 ab
 refine xn 4<|dT<|g0<|bG 1 0 (V 4) [V 4] [V 4,V I.ah,V I.To,V (af (ay.ah - aB.ah))] cN rfl rfl rfl ?_
 intro fa dY
 refine xn 0 ?_
 obtain rfl:=si ab
 exact ⟨_,aN,(⟨4,I.ah,I.To,af (ay.ah - aB.ah)⟩:av),aw,aE,J,rfl,bp,(by kernel_rfl),((dY.front 0 rfl).front 1 rfl)⟩
 refine aK 2 ab ?_ ?_<;>intro fb ab
 refine xn 1<|dT<|g0<|bG 1 0 (V 4) [V 4] [V 4,V I.ah,V I.To,V (af (ay.ah - aB.ah))] cN rfl rfl rfl ?_
 intro fc dZ
 refine xn 0 ?_
 obtain rfl:=si ab
 exact ⟨_,aN,(⟨4,I.ah,I.To,af (ay.ah - aB.ah)⟩:av),aw,aE,J,rfl,bp,(by kernel_rfl),((dZ.front 0 rfl).front 1 rfl)⟩
 refine xn 1<|dF<|sk ?_
 obtain rfl:=si ab
 exact ⟨_,aN,(⟨5,I.ah,I.To,af (ay.ah - aB.ah)⟩:av),aw,aE,J,rfl,bp,(by kernel_rfl),((cN.front 0 rfl).front 1 rfl)⟩
 refine sk ?_
 obtain rfl:=si ab
 exact ⟨_,aN,I,aw,aE,J,rfl,bp,(by kernel_rfl),c4⟩
 refine xn 4<|dF<|sk ?_
 obtain rfl:=si ab
 exact ⟨_,aN,I,aw,aE,J,rfl,bp,(by kernel_rfl),aC⟩
 refine xn 0<|dF<|xt 2<|aS ?_
 obtain rfl:=si U
 exact ⟨_,aN,ar,ak,I,ao,aw,aE,J,rfl,bp,(by kernel_rfl),aC⟩
 refine g0<|cZ 1 bZ ?_ ?_<;>intro fe bZ
 refine xn 1 ?_
 obtain rfl:=si bZ
 exact ⟨_,bl,(⟨1,aM,0,(-1)⟩:av),true,bm,bn,cR,rfl,cp,(by kernel_rfl),((cS.front 0 rfl).front 1 rfl)⟩
 refine xn 1 ?_
 obtain rfl:=si bZ
 exact ⟨_,bl,(⟨1,aM,0,(-1)⟩:av),false,bm,bn,cR,rfl,cp,(by kernel_rfl),((cS.front 0 rfl).front 1 rfl)⟩
 refine xn 0<|dF<|xt 0<|aS ?_
 obtain rfl:=si an
 exact ⟨_,bl,bm,bn,rfl,cp,(by kernel_rfl),cq⟩
def correctorref9_skip_l0 (F:Nat) (a0:List al) (a1:Int) (I:Int) (J:Int):Nat→Int→Option Int
 | 0,_=>none
 | n+1,j=>
  if j<I then
   if 0≤j∧j<(a0.length:Int) then
    (a0[j.toNat]?).bind fun U=>
    if U.Kind=J then
     correctorref9_skip_l0 F a0 a1 I J n (af (j+1))
    else
     some j
   else none
  else
   some j
def jN (F:Nat) (a0:List al) (a1:Int) (j:Int) (I:Int):Option Int:=
 ((correctorref9_skip_l0 F a0 a1 j I F a1):Option Int).bind fun o=>match o with
  | J=>some J
theorem rV (F:Nat) {h:AH} {Z:Zn} {a0:List al} {a1:Int} {U:Int} {aa:Int} {v2} (hI:Inv Z h) (ah:RS (α:=al) Z v2 a0) {r:Int} (hm:jN F a0 a1 U aa=some r):
  bY Tryz.prog 87 [v2,V a1,V U,V aa] h Z (V r):=by
 refine b1 Tryz.func87 hI ?_
 intro hs hS
 unfold jN at hm
 refine sp 1<|sq ?_
 obtain ⟨ad,j,hm⟩:=ai hm
 refine aJ [1] (fun l h=>∃ aj ab,ab=ad∧l=[(1,V ab)]∧St hs [] Z (0,0) aj h []) ?_ ?_
 rintro l aq ⟨aj,ab,rfl,rfl,ao⟩
 try dsimp only at hm
 refine sp 2<|rt<|⟨rfl,?_⟩
 obtain rfl:=si hm
 refine ⟨_,_,_,tk (V ab) (ResL.nil),ao,?_⟩
 exact rfl
 refine bk 0<|lp [0,1,2,3] (fun n l h=>∃ ak I,correctorref9_skip_l0 F a0 a1 U aa n I=some ad∧l=[(0,v2),(1,V I),(2,V U),(3,V aa)]∧St hs [] Z (0,0) ak h []) F ⟨_,a1,j,(by kernel_rfl),hS⟩ ?_
 rintro ae l ar ⟨ak,I,j,rfl,J⟩
 rcases ae with _ | ae
 cases (show none=some ad from j)
 rw [correctorref9_skip_l0] at j
 refine sq<|s0<|aT 2 j ?_ ?_<;>intro au j
 refine a8 3 j (ah.mono J.ag) ?_
 intro av j
 refine bt 1 0 (fun an=>V an.Kind) j (ah.mono J.ag) J ?_
 intro an aw j
 refine aK 1 j ?_ ?_<;>intro ax j
 refine xn 1<|dT<|sk<|bk 1<|gp 3 ?_
 exact ⟨ae,a7 _,⟨_,af (I+1),j,(by kernel_rfl),J⟩⟩
 refine xn 1<|dF<|xt 0<|aS ?_
 obtain rfl:=si j
 exact ⟨_,I,rfl,(by kernel_rfl),J⟩
 refine xn 9<|dF<|xt 0<|aS ?_
 obtain rfl:=si j
 exact ⟨_,I,rfl,(by kernel_rfl),J⟩
def fC (F:Nat) (a0:Int):Option Bool:=
 if a0=(15:Int) then
  some true
 else
  if a0=(16:Int) then
   some true
  else
   if a0=(17:Int) then
    some true
   else
    if a0=(13:Int) then
     some true
    else
     some false
theorem qk (F:Nat) {h:AH} {Z:Zn} {a0:Int} (hI:Inv Z h) {r:Bool} (hm:fC F a0=some r):
  bY Tryz.prog 88 [V a0] h Z (.bool r):=by
 refine b1 Tryz.func88 hI ?_
 intro hs hS
 unfold fC at hm
 refine sp 1<|s0<|aK 1 hm ?_ ?_<;>intro j hm
 refine xn 13<|rt<|⟨rfl,?_⟩
 obtain rfl:=si hm
 refine ⟨_,_,_,tk (.bool true) (ResL.nil),hS,?_⟩
 exact rfl
 refine aK 2 hm ?_ ?_<;>intro I hm
 refine xn 10<|rt<|⟨rfl,?_⟩
 obtain rfl:=si hm
 refine ⟨_,_,_,tk (.bool true) (ResL.nil),hS,?_⟩
 exact rfl
 refine aK 3 hm ?_ ?_<;>intro J hm
 refine xn 6<|rt<|⟨rfl,?_⟩
 obtain rfl:=si hm
 refine ⟨_,_,_,tk (.bool true) (ResL.nil),hS,?_⟩
 exact rfl
 refine aK 3 hm ?_ ?_<;>intro U hm
 refine xn 2<|rt<|⟨rfl,?_⟩
 obtain rfl:=si hm
 refine ⟨_,_,_,tk (.bool true) (ResL.nil),hS,?_⟩
 exact rfl
 refine xn 2<|rt<|⟨rfl,?_⟩
 obtain rfl:=si hm
 refine ⟨_,_,_,tk (.bool false) (ResL.nil),hS,?_⟩
 exact rfl
def DU:List br:=[uP 14 (fa 67 3 1),uL 15 (ld 3 14),uP 4 (.assign (.const (.slice none 0 0))),uP 5 (sg 15)]
def Bm:List aR:=[u 52 (mv 9),u 53 (mv 0),u 54 (mv 6),u 55 (ia 28 53 54),u 56 (fa 76 55 1),u 57 (ld 3 56),u 58 (mv 8),u 59 (bo .sub 3 57 58 3),u 60 (mv 6),u 61 (mv 6),u 62 (bc .add 3 61 1 3),u 63 (.build 114 #[(0,(.const (.bool true))),(1,(t 59)),(2,(t 60)),(3,(t 62))]),u 64 (.buildSlice 108 1 #[(0,(t 63))]),u 65 (cb .append #[(t 52),(t 64)] #[108,108]),u 9 (sg 65)]
def Cg:List aR:=[u 129 (mv 9),u 130 (mv 0),u 131 (mv 6),u 132 (ia 28 130 131),u 133 (fa 76 132 1),u 134 (ld 3 133),u 135 (mv 8),u 136 (bo .sub 3 134 135 3),u 137 (mv 6),u 138 (mv 10),u 139 (bc .add 3 138 1 3),u 140 (.build 114 #[(1,(t 136)),(2,(t 137)),(3,(t 139))]),u 141 (.buildSlice 108 1 #[(0,(t 140))]),u 142 (cb .append #[(t 129),(t 141)] #[108,108]),u 9 (sg 142)]
def y4:List br:=[uP 147 (mv 9),uP 148 (mv 9),uP 149 (mv 9),uP 150 (cb .len #[(t 149)] #[108]),uP 151 (bc .sub 3 150 1 3),uP 152 (ia 108 148 151),uP 153 (fa 114 152 3),uL 154 (ld 3 153),uP 4 (sg 147),uP 5 (sg 154)]
def correctorref9_Entries_l0 (F:Nat) (a0:List al) (a1:av):Nat→av→Int→Option (av×Int)
 | 0,_,_=>none
 | n+1,I,j=>
  if j<I.To then
   if 0≤j∧j<(a0.length:Int) then
    (a0[j.toNat]?).bind fun J=>
    (fH F J.Kind).bind fun U=>
    if U=true then
     some (I,j)
    else
     correctorref9_Entries_l0 F a0 a1 n I (af (j+1))
   else none
  else
   some (I,j)
def correctorref9_Entries_l1 (F:Nat) (a0:List al) (a1:av):Nat→av→Int→Int→Int→(List bd)→Option (av×Int×Int×Int×(List bd))
 | 0,_,_,_,_,_=>none
 | n+1,I,j,aa,J,U=>
  if j<I.To then
   if 0≤j∧j<(a0.length:Int) then
    (a0[j.toNat]?).bind fun ad=>
    if ad.Kind=(5:Int) then
     if 0≤j∧j<(a0.length:Int) then
      (a0[j.toNat]?).bind fun ab=>
      if U.length+[(⟨true,af (ab.ah - J),j,af (j+1)⟩:bd)].length≤4398046511104 then
       (jN F a0 (af (j+1)) I.To 3).bind fun ae=>
       correctorref9_Entries_l1 F a0 a1 n I ae aa J (U++[(⟨true,af (ab.ah - J),j,af (j+1)⟩:bd)])
      else none
     else none
    else
     some (I,j,aa,J,U)
   else none
  else
   some (I,j,aa,J,U)
def correctorref9_Entries_l2 (F:Nat) (a0:List al) (a1:av):Nat→av→Int→Int→Int→(List bd)→Int→Option (av×Int×Int×Int×(List bd)×Int)
 | 0,_,_,_,_,_,_=>none
 | n+1,I,U,aa,ab,J,j=>
  ((if j<I.To then
    if 0≤j∧j<(a0.length:Int) then
     (a0[j.toNat]?).bind fun ae=>
     if ae.Kind=(12:Int) then
      some (.inl (I,J))
     else
      if 0≤j∧j<(a0.length:Int) then
       (a0[j.toNat]?).bind fun ag=>
       if ag.Kind=(14:Int) then
        some (.inl (I,J))
       else
        some (.inr (I,U,aa,ab,J,j))
      else none
    else none
   else
    some (.inr (I,U,aa,ab,J,j))):Option (Sum (av×(List bd)) (av×Int×Int×Int×(List bd)×Int))).bind fun o=>match o with
   | .inl (ad,ah)=>(jN F a0 (af (j+1)) ad.To 3).bind fun ai=>
   correctorref9_Entries_l2 F a0 a1 n ad U aa ab ah ai
   | .inr y=>some y
def nJ (F:Nat) (a0:List al) (a1:av):Option ((List bd)×Int):=
 if a1.Kind=(5:Int) then
  ((correctorref9_Entries_l0 F a0 a1 F a1 a1.ah):Option (av×Int)).bind fun o=>match o with
   | (ab,ai)=>if 0≤ab.ah∧ab.ah<(a0.length:Int) then
    (a0[ab.ah.toNat]?).bind fun ao=>
    ((correctorref9_Entries_l1 F a0 a1 F ab ai ai ao.ah []):Option (av×Int×Int×Int×(List bd))).bind fun o=>match o with
     | (aq,aj,ar,au,aw)=>((correctorref9_Entries_l2 F a0 a1 F aq aj ar au aw aj):Option (av×Int×Int×Int×(List bd)×Int)).bind fun o=>match o with
      | (U,aa,ax,ak,ad,j)=>((if j<U.To then
        if 0≤j∧j<(a0.length:Int) then
         (a0[j.toNat]?).bind fun ay=>
         (fC F ay.Kind).bind fun az=>
         if az=true then
          (jN F a0 (af (j+1)) U.To 3).bind fun aA=>
          some (U,ad,aA)
         else
          some (U,ad,j)
        else none
       else
        some (U,ad,j)):Option (av×(List bd)×Int)).bind fun o=>match o with
       | (aB,ae,J)=>((((if J<aB.To then
          if 0≤J∧J<(a0.length:Int) then
           (a0[J.toNat]?).bind fun aC=>
           if aC.Kind=(6:Int) then
            some (ae,true)
           else
            some (ae,false)
          else none
         else
          some (ae,false)):Option ((List bd)×Bool)).bind fun o=>match o with
         | (ag,aD)=>if aD=true then
          if 0≤aa∧aa<(a0.length:Int) then
           (a0[aa.toNat]?).bind fun an=>
           if ag.length+[(⟨false,af (an.ah - ak),aa,af (J+1)⟩:bd)].length≤4398046511104 then
            some (ag++[(⟨false,af (an.ah - ak),aa,af (J+1)⟩:bd)])
           else none
          else none
         else
          some ag):Option (List bd)).bind fun o=>match o with
        | I=>if (I.length:Int)=(0:Int) then
         some ([],ax)
        else
         if 0≤(af ((I.length:Int) - 1))∧(af ((I.length:Int) - 1))<(I.length:Int) then
          (I[(af ((I.length:Int) - 1)).toNat]?).bind fun aE=>
          some (I,aE.To)
         else none
   else none
 else
  some ([],a1.ah)
theorem ED (F:Nat) {h:AH} {Z:Zn} {a0:List al} {a1:av} {v2} (hP:Pre Z h []) (J:RS (α:=al) Z v2 a0) {r:(List bd)×Int} (hm:nJ F a0 a1=some r):
  bS Tryz.prog 73 [v2, .agg #[V a1.Kind,V a1.ah,V a1.To,V a1.aI]] h Z [] fun v Z' A'=>∃ v4 cF, .tuple #[v4,V r.2]=v∧A'=[.gs v4 cF (aa bd)]∧RCs (α:=bd) Z' cF r.1:=by
 refine b3 Tryz.func73 hP ?_
 intro hs hS
 unfold nJ at hm
 replace hS:St hs [] Z (0,0) Z hs []:=hS
 refine s0<|dt 0 [V a1.Kind,V a1.ah,V a1.To,V a1.aI] hS ?_
 intro bP eb bQ
 refine xn 2<|sq<|s0<|aD 1 0 (V a1.Kind) bQ rfl<|dv 0 hm ?_ ?_<;>intro ec hm
 refine xn 0<|dF<|sk<|s0<|aD 1 0 (V a1.ah) bQ rfl<|xn 1<|sq ?_
 obtain ⟨ch,ad,hm⟩:=ai hm
 refine aJ [0,3,6] (fun l h=>∃ cG bF bG bT,(bF,bG)=ch∧l=[(0,v2),(3,Pt bT 0),(6,V bG)]∧St hs [] Z (0,0) cG h [.ae bT (cX bF)]) ?_ ?_
 rintro l ed ⟨cG,bF,bG,bT,rfl,rfl,bH⟩
 try dsimp only at hm
 refine sp 2<|s0<|aD 2 0 (V bF.ah) bH rfl<|a8 0 hm (J.mono bH.ag) ?_
 intro ee hm
 refine bt 1 1 (fun cj=>V cj.ah) hm (J.mono bH.ag) bH ?_
 intro cj eg hm
 refine xn 1<|sp 1<|sq ?_
 obtain ⟨ck,I,hm⟩:=ai hm
 refine aJ [0,3,6,7,8,9] (fun l h=>∃ cl bU bI bV bW bY bZ b0 b1,(bU,bI,bV,bW,bY)=ck∧RCs (α:=bd) cl b1 bY∧l=[(0,v2),(3,Pt bZ 0),(6,V bI),(7,V bV),(8,V bW),(9,b0)]∧St hs [] Z (0,0) cl h [.ae bZ (cX bU), .gs b0 b1 (aa bd)]) ?_ ?_
 rintro l eh ⟨cl,bU,bI,bV,bW,bY,bZ,b0,b1,rfl,cZ,rfl,c0⟩
 try dsimp only at hm
 refine sp 2<|sq ?_
 obtain ⟨cm,aq,hm⟩:=ai hm
 refine aJ [0,3,6,7,8,9,10] (fun l h=>∃ cn aE ar aL aw bf bJ bg bh bj,(aE,ar,aL,aw,bf,bJ)=cm∧RCs (α:=bd) cn bj bf∧l=[(0,v2),(3,Pt bg 0),(6,V ar),(7,V aL),(8,V aw),(9,bh),(10,V bJ)]∧St hs [] Z (0,0) cn h [.ae bg (cX aE), .gs bh bj (aa bd)]) ?_ ?_
 rintro l ei ⟨cn,aE,ar,aL,aw,bf,bJ,bg,bh,bj,rfl,cp,rfl,aM⟩
 try dsimp only at hm
 refine sq ?_
 obtain ⟨c3,ak,hm⟩:=ai hm
 refine aJ [0,3,6,7,8,9,10] (fun l h=>∃ cq b2 bl ax cr bm bn,(b2,bl,ax)=c3∧RCs (α:=bd) cq bn bl∧l=[(0,v2),(3,Pt cr 0),(6,V ar),(7,V aL),(8,V aw),(9,bm),(10,V ax)]∧St hs [] Z (0,0) cq h [.ae cr (cX b2), .gs bm bn (aa bd)]) ?_ ?_
 rintro l ej ⟨cq,b2,bl,ax,cr,bm,bn,rfl,ct,rfl,aP⟩
 try dsimp only at hm
 refine sq ?_
 obtain ⟨c4,ao,hm⟩:=ai hm
 refine aJ [7,9] (fun l h=>∃ cu bo aj b4,bo=c4∧RCs (α:=bd) cu b4 bo∧l=[(7,V aL),(9,aj)]∧St hs [] Z (0,0) cu h [.gs aj b4 (aa bd)]) ?_ ?_
 rintro l ek ⟨cu,bo,aj,b4,rfl,bp,rfl,cw⟩
 try dsimp only at hm
 refine sq<|s0<|bC 1 aj (cw.dP (i:=0) rfl bp)<|aK 0 hm ?_ ?_<;>intro en hm
 refine xn 0<|dT<|sp 3<|rt<|⟨rfl,?_⟩
 have c5:=cw.dh (aa bd)
 obtain rfl:=si hm
 refine ⟨_,_,_,tk (.slice none 0 0) (tk (V aL) (ResL.nil)),(c5.takeN 1),?_⟩
 exact ⟨(.slice none 0 0),[],rfl,rfl,(RCs.bq _)⟩
 refine xn 0<|dF<|sk<|cY y4 cw ?_
 intro c8 eo dc bK
 refine yq 3 [(149,aj),(148,aj),(147,aj)]<|aF rfl trivial (h7 rfl (bK.dP (i:=0) rfl bp) ⟨_,Tryz.underlying108⟩)<|yq 1 [(151,V (af ((bo.length:Int) - 1))),(148,aj),(147,aj)] ?_
 obtain ⟨cH,hm⟩:=aH hm
 refine aF rfl trivial (bx rfl rfl (by kernel_rfl:slTy _ _=some (aa bd)) (bK.bR (j:=0) rfl bp (by omega)) cH.1 cH.2)<|yq 1 [(153, .pointer (some (bw aj (af ((bo.length:Int) - 1)) (aa bd) 3))),(147,aj)] ?_
 obtain ⟨b5,cI,hm⟩:=ai hm
 obtain ⟨ep,dd,de,er⟩:=bK.cv (j:=0) rfl bp (i:=af ((bo.length:Int) - 1)) cI
 obtain rfl:=u4 dd
 have df:=dw cI
 have dg:=bK.bR (j:=0) rfl bp df
 have et:(baseOf aj).block<c8:=dD (dc.1 _ (au (i:=0) rfl)) dg
 refine dy rfl trivial rfl (by show (baseOf aj).block<_;omega) (aG (v:=V b5.To) trivial) (bE (w:=V b5.To) de rfl (by kernel_rfl)) trivial<|ye 2 [(5,V b5.To),(4,aj)] ?_
 have di:=bK.aY
 refine rt<|⟨rfl,?_⟩
 obtain rfl:=si hm
 refine ⟨_,_,_,tk aj (tk (V b5.To) (ResL.nil)),di,?_⟩
 exact ⟨aj,b4,rfl,rfl,bp⟩
 refine sq ?_
 obtain ⟨dj,ay,ao⟩:=ai ao
 refine aJ [0,6,7,8,9,10,128] (fun l h=>∃ b6 bL cx bu b7,(bL,cx)=dj∧RCs (α:=bd) b6 b7 bL∧l=[(0,v2),(6,V ar),(7,V aL),(8,V aw),(9,bu),(10,V ax),(128, .bool cx)]∧St hs [] Z (0,0) b6 h [.gs bu b7 (aa bd)]) ?_ ?_
 rintro l eu ⟨b6,bL,cx,bu,b7,rfl,cJ,rfl,bM⟩
 try dsimp only at ao
 refine db ao ?_ ?_<;>intro ew ao
 refine rg Cg<|a8 3 ao (J.mono bM.ag) ?_
 intro ey ao
 refine bt 1 1 (fun aB=>V aB.ah) ao (J.mono bM.ag) bM ?_
 intro aB ez ao
 refine xq 6 [(140, .agg #[.bool false,V (af (aB.ah - aw)),V ar,V (af (ax+1))]),(129,bu),(7,V aL),(9,bu)] ?_
 have dm:RCs (α:=bd) b6 [.bool false,V (af (aB.ah - aw)),V ar,V (af (ax+1))] [(⟨false,af (aB.ah - aw),ar,af (ax+1)⟩:bd)]:=RCs.cons (cs:=[.bool false,V (af (aB.ah - aw)),V ar,V (af (ax+1))]) rfl (RCs.bq _)
 refine dG rfl trivial (c6 (cells:=[.bool false,V (af (aB.ah - aw)),V ar,V (af (ax+1))]) (s:=4) (by kernel_rfl)) (by kernel_rfl) bM ?_
 intro eA eC cK
 obtain ⟨eD,ao⟩:=aH ao
 refine eZ rfl trivial (dE (ys:=[(⟨false,af (aB.ah - aw),ar,af (ax+1)⟩:bd)]) (bX:=32) cK (i:=1) rfl cJ ((cK).eB (j:=0) rfl dm) rfl rfl (by kernel_rfl) (by omega) (by omega)) ?_
 rintro dn dp eE ⟨dr,ds⟩
 refine xn 1 ?_
 obtain rfl:=si ao
 exact ⟨_,bL++[(⟨false,af (aB.ah - aw),ar,af (ax+1)⟩:bd)],dn,dp,rfl,dr,(by kernel_rfl),((ds.front 1 rfl).takeN 1)⟩
 refine sk ?_
 obtain rfl:=si ao
 exact ⟨_,bL,bu,b7,rfl,cJ,(by kernel_rfl),bM⟩
 refine g0<|aD 2 0 (V b2.To) aP rfl<|aT 0 ay ?_ ?_<;>intro eF ay
 refine a8 3 ay (J.mono aP.ag) ?_
 intro eG ay
 refine bt 1 0 (fun cL=>V cL.Kind) ay (J.mono aP.ag) aP ?_
 intro cL eH ay
 refine aK 0 ay ?_ ?_<;>intro eI ay
 refine xn 1 ?_
 obtain rfl:=si ay
 exact ⟨_,bl,true,bm,bn,rfl,ct,(by kernel_rfl),((aP.front 1 rfl).takeN 1)⟩
 refine xn 1 ?_
 obtain rfl:=si ay
 exact ⟨_,bl,false,bm,bn,rfl,ct,(by kernel_rfl),((aP.front 1 rfl).takeN 1)⟩
 refine xn 8 ?_
 obtain rfl:=si ay
 exact ⟨_,bl,false,bm,bn,rfl,ct,(by kernel_rfl),((aP.front 1 rfl).takeN 1)⟩
 refine s0<|aD 2 0 (V aE.To) aM rfl<|aT 0 ak ?_ ?_<;>intro eJ ak
 refine a8 3 ak (J.mono aM.ag) ?_
 intro eK ak
 refine bt 1 0 (fun cM=>V cM.Kind) ak (J.mono aM.ag) aM ?_
 intro cM eL ak
 obtain ⟨eM,du,ak⟩:=ai ak
 refine cP 0 aM (qk F aM.inv du) ?_
 rintro _ eN b8 rfl
 refine xn 1<|db ak ?_ ?_<;>intro eO ak
 refine g0<|aD 4 0 (V aE.To) b8 rfl ?_
 obtain ⟨dx,dz,ak⟩:=ai ak
 refine cP 0 b8 (rV F b8.inv (J.mono aM.ag) dz) ?_
 rintro _ eP dA rfl
 refine xn 1 ?_
 obtain rfl:=si ak
 exact ⟨_,aE,bf,dx,bg,bh,bj,rfl,cp,(by kernel_rfl),dA⟩
 refine sk ?_
 obtain rfl:=si ak
 exact ⟨_,aE,bf,bJ,bg,bh,bj,rfl,cp,(by kernel_rfl),b8⟩
 refine xn 8<|dF<|sk ?_
 obtain rfl:=si ak
 exact ⟨_,aE,bf,bJ,bg,bh,bj,rfl,cp,(by kernel_rfl),aM⟩
 refine bk 4<|lp [0,3,6,7,8,9,10] (fun n l h=>∃ cy aN aQ aU aX aZ bz a2 a3 a5,correctorref9_Entries_l2 F a0 a1 n aN aQ aU aX aZ bz=some cm∧RCs (α:=bd) cy a5 aZ∧l=[(0,v2),(3,Pt a2 0),(6,V aQ),(7,V aU),(8,V aX),(9,a3),(10,V bz)]∧St hs [] Z (0,0) cy h [.ae a2 (cX aN), .gs a3 a5 (aa bd)]) F ⟨_,bU,bI,bV,bW,bY,bI,bZ,b0,b1,aq,cZ,(by kernel_rfl),c0⟩ ?_
 rintro cz l eQ ⟨cy,aN,aQ,aU,aX,aZ,bz,a2,a3,a5,aq,b9,rfl,az⟩
 rcases cz with _ | cz
 cases (show none=some cm from aq)
 rw [correctorref9_Entries_l2] at aq
 refine sq ?_
 obtain ⟨dB,ab,aq⟩:=ai aq
 refine aJ [0,3,6,7,8,9,10] (fun l h=>∃ cA bN ca cb cc cd, .inl (bN,ca)=dB∧RCs (α:=bd) cA cd ca∧l=[(0,v2),(3,Pt cb 0),(6,V aQ),(7,V aU),(8,V aX),(9,cc),(10,V bz)]∧St hs [] Z (0,0) cA h [.ae cb (cX bN), .gs cc cd (aa bd)]) ?_ ?_
 rintro l eR ⟨cA,bN,ca,cb,cc,cd,rfl,dC,rfl,cf⟩
 try dsimp only at aq
 refine bk 5<|g0<|aD 4 0 (V bN.To) cf rfl ?_
 obtain ⟨dH,dI,aq⟩:=ai aq
 refine cP 0 cf (rV F cf.inv (J.mono cf.ag) dI) ?_
 rintro _ eS dJ rfl
 refine xn 1 ?_
 exact ⟨cz,a7 _,⟨_,bN,aQ,aU,aX,ca,dH,cb,cc,cd,aq,dC,(by kernel_rfl),dJ⟩⟩
 refine s0<|aD 2 0 (V aN.To) az rfl<|aT 0 ab ?_ ?_<;>intro eT ab
 refine a8 3 ab (J.mono az.ag) ?_
 intro eU ab
 refine bt 1 0 (fun cN=>V cN.Kind) ab (J.mono az.ag) az ?_
 intro cN eV ab
 refine aK 0 ab ?_ ?_<;>intro eW ab
 refine xn 9<|dT<|sk ?_
 obtain rfl:=si ab
 exact ⟨_,aN,aZ,a2,a3,a5,rfl,b9,(by kernel_rfl),az⟩
 refine a8 3 ab (J.mono az.ag) ?_
 intro eX ab
 refine bt 1 0 (fun cO=>V cO.Kind) ab (J.mono az.ag) az ?_
 intro cO eY ab
 refine aK 0 ab ?_ ?_<;>intro e0 ab
 refine xn 2<|dT<|sk ?_
 obtain rfl:=si ab
 exact ⟨_,aN,aZ,a2,a3,a5,rfl,b9,(by kernel_rfl),az⟩
 refine xn 2<|dF<|xt 4<|aS ?_
 obtain rfl:=si ab
 obtain rfl:=si aq
 exact ⟨_,aN,aQ,aU,aX,aZ,bz,a2,a3,a5,rfl,b9,(by kernel_rfl),az⟩
 refine xn 16<|dF<|xt 4<|aS ?_
 obtain rfl:=si ab
 obtain rfl:=si aq
 exact ⟨_,aN,aQ,aU,aX,aZ,bz,a2,a3,a5,rfl,b9,(by kernel_rfl),az⟩
 refine bk 2 ?_
 have dL:=bH.dh (aa bd)
 refine lp [0,3,6,7,8,9] (fun n l h=>∃ cg aO U a6 an bA a9 ba bO,correctorref9_Entries_l1 F a0 a1 n aO U a6 an bA=some ck∧RCs (α:=bd) cg bO bA∧l=[(0,v2),(3,Pt a9 0),(6,V U),(7,V a6),(8,V an),(9,ba)]∧St hs [] Z (0,0) cg h [.ae a9 (cX aO), .gs ba bO (aa bd)]) F ⟨_,bF,bG,bG,cj.ah,[],bT,(.slice none 0 0),[],I,(RCs.bq _),(by kernel_rfl),((dL.front 0 rfl).front 1 rfl)⟩ ?_
 rintro cB l e2 ⟨cg,aO,U,a6,an,bA,a9,ba,bO,I,cC,rfl,aA⟩
 rcases cB with _ | cB
 cases (show none=some ck from I)
 rw [correctorref9_Entries_l1] at I
 refine sq<|s0<|aD 2 0 (V aO.To) aA rfl<|aT 0 I ?_ ?_<;>intro e3 I
 refine a8 3 I (J.mono aA.ag) ?_
 intro e4 I
 refine bt 1 0 (fun cQ=>V cQ.Kind) I (J.mono aA.ag) aA ?_
 intro cQ e5 I
 refine aK 0 I ?_ ?_<;>intro e6 I
 refine xn 1<|dT<|sk<|bk 3<|sr Bm<|a8 3 I (J.mono aA.ag) ?_
 intro e7 I
 refine bt 1 1 (fun aC=>V aC.ah) I (J.mono aA.ag) aA ?_
 intro aC e8 I
 refine xq 6 [(63, .agg #[.bool true,V (af (aC.ah - an)),V U,V (af (U+1))]),(52,ba),(0,v2),(3,Pt a9 0),(6,V U),(7,V a6),(8,V an),(9,ba)] ?_
 have dM:RCs (α:=bd) cg [.bool true,V (af (aC.ah - an)),V U,V (af (U+1))] [(⟨true,af (aC.ah - an),U,af (U+1)⟩:bd)]:=RCs.cons (cs:=[.bool true,V (af (aC.ah - an)),V U,V (af (U+1))]) rfl (RCs.bq _)
 refine dG rfl trivial (c6 (cells:=[.bool true,V (af (aC.ah - an)),V U,V (af (U+1))]) (s:=4) (by kernel_rfl)) (by kernel_rfl) aA ?_
 intro e9 fa cR
 obtain ⟨fb,I⟩:=aH I
 refine eZ rfl trivial (dE (ys:=[(⟨true,af (aC.ah - an),U,af (U+1)⟩:bd)]) (bX:=32) cR (i:=2) rfl cC ((cR).eB (j:=0) rfl dM) rfl rfl (by kernel_rfl) (by omega) (by omega)) ?_
 rintro dN dO fc ⟨dQ,cD⟩
 refine xn 1<|g0<|aD 4 1 (V aO.To) cD rfl ?_
 obtain ⟨dR,dS,I⟩:=ai I
 refine cP 0 cD (rV F cD.inv (J.mono aA.ag) dS) ?_
 rintro _ fe dV rfl
 refine xn 1 ?_
 exact ⟨cB,a7 _,⟨_,aO,dR,a6,an,bA++[(⟨true,af (aC.ah - an),U,af (U+1)⟩:bd)],a9,dN,dO,I,dQ,(by kernel_rfl),(((dV.front 2 rfl).front 2 rfl).takeN 2)⟩⟩
 refine xn 1<|dF<|xt 2<|aS ?_
 obtain rfl:=si I
 exact ⟨_,aO,U,a6,an,bA,a9,ba,bO,rfl,cC,(by kernel_rfl),aA⟩
 refine xn 8<|dF<|xt 2<|aS ?_
 obtain rfl:=si I
 exact ⟨_,aO,U,a6,an,bA,a9,ba,bO,rfl,cC,(by kernel_rfl),aA⟩
 refine bk 0<|lp [0,3,6] (fun n l h=>∃ cS bb bB bD,correctorref9_Entries_l0 F a0 a1 n bb bB=some ch∧l=[(0,v2),(3,Pt bD 0),(6,V bB)]∧St hs [] Z (0,0) cS h [.ae bD (cX bb)]) F ⟨_,a1,a1.ah,bP,ad,(by kernel_rfl),bQ⟩ ?_
 rintro cE l ff ⟨cS,bb,bB,bD,ad,rfl,bc⟩
 rcases cE with _ | cE
 cases (show none=some ch from ad)
 rw [correctorref9_Entries_l0] at ad
 refine sq<|s0<|aD 2 0 (V bb.To) bc rfl<|aT 0 ad ?_ ?_<;>intro fg ad
 refine a8 3 ad (J.mono bc.ag) ?_
 intro fh ad
 refine bt 1 0 (fun cT=>V cT.Kind) ad (J.mono bc.ag) bc ?_
 intro cT fi ad
 obtain ⟨fj,dW,ad⟩:=ai ad
 refine cP 0 bc (iW F bc.inv dW) ?_
 rintro _ fk cU rfl
 refine kb 0 28 ad ?_ ?_<;>intro fl ad
 refine xn 2<|dF<|xt 0<|aS ?_
 obtain rfl:=si ad
 exact ⟨_,bb,bB,bD,rfl,(by kernel_rfl),cU⟩
 refine xn 2<|dT<|sk<|bk 1<|gp 3 ?_
 exact ⟨cE,a7 _,⟨_,bb,af (bB+1),bD,ad,(by kernel_rfl),cU⟩⟩
 refine xn 9<|dF<|xt 0<|aS ?_
 obtain rfl:=si ad
 exact ⟨_,bb,bB,bD,rfl,(by kernel_rfl),bc⟩
 refine xn 0<|dT<|cY DU bQ ?_
 intro dX fm dY cW
 refine yq 1 [(14,Pt bP 1)] ?_
 have fo:bP<dX:=dY.1 _ (au (i:=0) rfl) _ (by simp [Itm.ids])
 refine aW (v:=V a1.ah) rfl trivial rfl (by show bP<_;omega) (aG (v:=V a1.ah) trivial) (cW.aV (i:=0) rfl (by kernel_rfl)) trivial<|ye 2 [(5,V a1.ah),(4, .slice none 0 0)] ?_
 have dZ:=cW.aY
 refine rt<|⟨rfl,?_⟩
 have ea:=dZ.dh (aa bd)
 obtain rfl:=si hm
 refine ⟨_,_,_,tk (.slice none 0 0) (tk (V a1.ah) (ResL.nil)),(ea.takeN 1),?_⟩
 exact ⟨(.slice none 0 0),[],rfl,rfl,(RCs.bq _)⟩
end
section
open Go Am Sy
open Sy.Cell (rc)
structure aq where
 Kind:Int
 ah:Int
 To:Int
 Up:Int
 Kids:List Int
 Key:Bool
 deriving DecidableEq,Inhabited
instance:Cell aq where
 size:=6
 rc Z cs x:=∃ v4,RS (α:=Int) Z v4 x.Kids∧cs=[V x.Kind,V x.ah,V x.To,V x.Up,v4, .bool x.Key]
 len h:=by obtain ⟨v4,j,h⟩:=h;rw [h];rfl
 mono hz h:=by obtain ⟨v4,j,h⟩:=h;exact ⟨v4,j.mono hz,h⟩
 one h:=by obtain ⟨v4,j,h⟩:=h;subst h;exact (bz rfl (bz rfl (bz rfl (bz rfl (bz j.di (bz rfl cz))))))
 pos:=by decide
instance:c9 aq Int where
 row x:=x.Kids
 ea v cs x:=cs=[V x.Kind,V x.ah,V x.To,V x.Up,v, .bool x.Key]
 pT h hd:=⟨_,h,hd⟩
 kB h:=by rw [h];rfl
 done hv h:=by subst h;exact (bz rfl (bz rfl (bz rfl (bz rfl (bz hv (bz rfl cz))))))
 inj h k:=by rw [h] at k;simpa using k
 fn h k:=h.trans k.symm
theorem qh {v:Value} {cs:List Value} {x:aq} (h:c9.ea v cs x):cs=[V x.Kind,V x.ah,V x.To,V x.Up,v, .bool x.Key]:=h
theorem ey {Z:Zn} {cs:List Value} {x:aq} (h:rc Z cs x):∃ v4,RS (α:=Int) Z v4 x.Kids∧cs=[V x.Kind,V x.ah,V x.To,V x.Up,v4, .bool x.Key]:=h
abbrev jl (v0:Value) (x:aq):List Value:=[V x.Kind,V x.ah,V x.To,V x.Up,v0, .bool x.Key]
structure bK where
 an:List aq
 deriving DecidableEq,Inhabited
instance:Cell bK where
 size:=1
 rc Z cs x:=∃ v0,RS (α:=aq) Z v0 x.an∧cs=[v0]
 len h:=by obtain ⟨v0,j,h⟩:=h;rw [h];rfl
 mono hz h:=by obtain ⟨v0,j,h⟩:=h;exact ⟨v0,j.mono hz,h⟩
 one h:=by obtain ⟨v0,j,h⟩:=h;subst h;exact (bz j.di cz)
 pos:=by decide
instance:c9 bK aq where
 row x:=x.an
 ea v cs x:=cs=[v]
 pT h hd:=⟨_,h,hd⟩
 kB h:=by rw [h];rfl
 done hv h:=by subst h;exact (bz hv cz)
 inj h k:=by rw [h] at k;simpa using k
 fn h k:=h.trans k.symm
def zw:List aR:=[u 9 (mv 0),u 10 (.build 47 #[(0,(ci 1)),(2,(t 9)),(3,(ci (-1)))]),u 11 (.buildSlice 29 1 #[(0,(t 10))]),u 12 (.build 31 #[(0,(t 11))]),o (.store 31 (t 2) (t 12))]
def nf (F:Nat) (a0:Int):Option bK:=
 ((if a0<(0:Int) then
   some 0
  else
   if (32768:Int)<a0 then
    some 0
   else
    some a0):Option Int).bind fun o=>match o with
  | j=>some (⟨[(⟨1,0,j,(-1),[],false⟩:aq)]⟩:bK)
theorem Eg (F:Nat) {h:AH} {Z:Zn} {a0:Int} (hP:Pre Z h []) {r:bK} (hm:nf F a0=some r):
  bS Tryz.prog 25 [V a0] h Z [] fun v Z' A'=>∃ v2 ah, .agg #[v2]=v∧A'=[.gs v2 ah (aa aq)]∧RCs (α:=aq) Z' ah r.an:=by
 refine b3 Tryz.func25 hP ?_
 intro hs hS
 unfold nf at hm
 replace hS:St hs [] Z (0,0) Z hs []:=hS
 refine s0<|dt 0 [.slice none 0 0] hS ?_
 intro ab au ad
 refine xn 0<|sq ?_
 obtain ⟨ak,I,hm⟩:=ai hm
 refine dM [0,2] (fun l h=>∃ af j U,j=ak∧l=[(0,V j),(2,Pt U 0)]∧St hs [] Z (0,0) af h [.ae U [.slice none 0 0]]) (by kernel_rfl) ?_ ?_
 rintro l av ⟨af,j,U,rfl,rfl,ao⟩
 try dsimp only at hm
 refine sr zw<|xq 2 [(10, .agg #[V 1,V 0,V j,V (-1), .slice none 0 0, .bool false]),(2,Pt U 0)] ?_
 have ar:RCs (α:=aq) af [V 1,V 0,V j,V (-1), .slice none 0 0, .bool false] [(⟨1,0,j,(-1),[],false⟩:aq)]:=RCs.cons (cs:=[V 1,V 0,V j,V (-1), .slice none 0 0, .bool false]) ⟨_,(RS.bq _),rfl⟩ (RCs.bq _)
 refine dG rfl trivial (c6 (cells:=[V 1,V 0,V j,V (-1), .slice none 0 0, .bool false]) (s:=6) (by kernel_rfl)) (by kernel_rfl) ao ?_
 intro J aw ag
 refine bW rfl trivial (jV (v:= .agg #[J]) rfl (CA.cons (cs:=[J]) (ag.fQ (i:=0) rfl) (CA.bq)) (by kernel_rfl))<|bG 0 1 (.agg #[J]) [J] [J] ag rfl rfl (bz (ag.fR (i:=0) rfl) cz) ?_
 intro ax aj
 refine xn 0<|rt<|⟨rfl,?_⟩
 obtain rfl:=si hm
 refine ⟨_,_,_,ResL.cell (v:= .agg #[J]) (by kernel_rfl) aj (i:=1) rfl (by kernel_rfl) (ResL.nil),(aj.takeN 1),?_⟩
 exact ⟨J,[V 1,V 0,V j,V (-1), .slice none 0 0, .bool false],rfl,rfl,ar⟩
 refine g0<|aT 1 I ?_ ?_<;>intro ay I
 refine xn 4<|dT<|gp 1 ?_
 obtain rfl:=si I
 exact ⟨_,0,ab,rfl,(by kernel_rfl),ad⟩
 refine cZ 2 I ?_ ?_<;>intro az I
 refine xn 1<|dT<|gp 1 ?_
 obtain rfl:=si I
 exact ⟨_,0,ab,rfl,(by kernel_rfl),ad⟩
 refine xn 1<|dF<|sk ?_
 obtain rfl:=si I
 exact ⟨_,a0,ab,rfl,(by kernel_rfl),ad⟩
def Ea:List aR:=[u 1 (.box 31 (t 0)),u 2 (.assign (.const (.slice none 0 0)))]
def yc:List aR:=[u 18 (.buildSlice 22 0 #[]),u 19 (fa 47 5 4),u 20 (ld 22 19),u 21 (cb .append #[(t 18),(t 20)] #[22,22]),u 22 (fa 47 5 4),o (.store 22 (t 22) (t 21))]
def ya:List aR:=[u 23 (mv 3),u 24 (ld 47 5),u 25 (.buildSlice 29 1 #[(0,(t 24))]),u 26 (cb .append #[(t 23),(t 25)] #[29,29]),u 3 (sg 26)]
def correctorref10_copied_l0 (F:Nat) (a0:bK):Nat→(List aq)→Int→Option (List aq)
 | 0,_,_=>none
 | n+1,J,I=>
  if I<(a0.an.length:Int) then
   if 0≤I∧I<(a0.an.length:Int) then
    (a0.an[I.toNat]?).bind fun j=>
    if ([]:List Int).length+j.Kids.length≤17592186044416 then
     if J.length+[(⟨j.Kind,j.ah,j.To,j.Up,([]:List Int)++j.Kids,j.Key⟩:aq)].length≤2199023255552 then
      correctorref10_copied_l0 F a0 n (J++[(⟨j.Kind,j.ah,j.To,j.Up,([]:List Int)++j.Kids,j.Key⟩:aq)]) (af (I+1))
     else none
    else none
   else none
  else
   some J
def lD (F:Nat) (a0:bK):Option (List aq):=
 ((correctorref10_copied_l0 F a0 F [] 0):Option (List aq)).bind fun o=>match o with
  | j=>some j
theorem vp (F:Nat) {h:AH} {Z:Zn} {a0:bK} {v2} (hP:Pre Z h []) (aB:RS (α:=aq) Z v2 a0.an) {r:(List aq)} (hm:lD F a0=some r):
  bS Tryz.prog 85 [.agg #[v2]] h Z [] fun v Z' A'=>∃ v4 aM aN,v4=v∧A'=[.gs v4 aM (aa aq), .bP aN]∧RD (α:=aq) Z' aM r aN:=by
 refine b3 Tryz.func85 hP ?_
 intro hs hS
 unfold lD at hm
 replace hS:St hs [] Z (0,0) Z hs []:=hS
 refine sr Ea<|e2 rfl trivial (eK (cs:=[v2]) rfl rfl) hS ?_
 intro aV bw aW
 refine xn 1<|sp 1<|sq<|sp 1 ?_
 obtain ⟨aC,I,hm⟩:=ai hm
 refine aJ [3] (fun l h=>∃ aE aF au ay az,aF=aC∧RD (α:=aq) aE ay aF az∧l=[(3,au)]∧St hs [] Z (0,0) aE h [.gs au ay (aa aq), .bP az]) ?_ ?_
 rintro l bx ⟨aE,aF,au,ay,az,rfl,aX,rfl,aY⟩
 try dsimp only at hm
 refine sp 2<|rt<|⟨rfl,?_⟩
 obtain rfl:=si hm
 refine ⟨_,_,_,tk au (ResL.nil),aY,?_⟩
 exact ⟨au,ay,az,rfl,rfl,aX⟩
 refine bk 0 ?_
 have aZ:=aW.yr (aa aq)
 refine lp [1,3,4] (fun n l h=>∃ av aw ad ab J ao ak,correctorref10_copied_l0 F a0 n aw ad=some aC∧RD (α:=aq) av ao aw ak∧l=[(1,Pt ab 0),(3,J),(4,V ad)]∧St hs [] Z (0,0) av h [.ae ab [v2], .gs J ao (aa aq), .bP ak]) F ⟨_,[],0,aV,(.slice none 0 0),[],[],I,RD.nil,(by kernel_rfl),(((aZ.front 1 rfl).front 1 rfl).front 2 rfl)⟩ ?_
 rintro aG l bA ⟨av,aw,ad,ab,J,ao,ak,I,aP,rfl,aj⟩
 rcases aG with _ | aG
 cases (show none=some aC from I)
 rw [correctorref10_copied_l0] at I
 refine sq<|s0<|aD 2 0 v2 aj rfl<|bC 0 v2 (RS.len (aB.mono aj.ag))<|aT 0 I ?_ ?_<;>intro bB I
 refine xn 0<|dT<|sk<|sq<|bk 1<|s0<|aD 1 0 v2 aj rfl<|a8 1 I (aB.mono aj.ag) ?_
 intro bD I
 obtain ⟨j,a1,I⟩:=ai I
 obtain ⟨bE,a2,a3⟩:=RS.bV (aB.mono aj.ag) (i:=ad) a1
 obtain ⟨ax,aQ,rfl⟩:=ey a2
 refine eS 0 0 (.agg #[V j.Kind,V j.ah,V j.To,V j.Up,ax, .bool j.Key]) (a3 _ (aj.bO (aO.refl _)))<|dt 0 [V 0,V 0,V 0,V 0, .slice none 0 0, .bool false] aj ?_
 intro ar bF a5
 refine bG 0 0 (.agg #[V j.Kind,V j.ah,V j.To,V j.Up,ax, .bool j.Key]) [V j.Kind,V j.ah,V j.To,V j.Up,ax, .bool j.Key] (jl ax j) a5 rfl rfl (bz rfl (bz rfl (bz rfl (bz rfl (bz (RS.di aQ) (bz rfl cz)))))) ?_
 intro bH a6
 refine xf [(5,Pt ar 0),(1,Pt ab 0),(3,J),(4,V ad)]<|sr yc ?_
 have a9:RCs (α:=Int) av [] []:=RCs.bq _
 refine dG rfl trivial (c6 (cells:=[]) (s:=1) (by kernel_rfl)) (by kernel_rfl) a6 ?_
 intro ba bI aI
 refine xq 1 [(19,Pt ar 4),(18,ba),(5,Pt ar 0),(1,Pt ab 0),(3,J),(4,V ad)]<|aD 0 1 ax aI rfl ?_
 obtain ⟨bJ,bb⟩:=RS.news aQ (aI).inv
 obtain ⟨bL,I⟩:=aH I
 refine eZ rfl trivial (dE (ys:=j.Kids) (bX:=8) aI (i:=0) rfl a9 bb rfl rfl (by kernel_rfl) (by omega) (by omega)) ?_
 rintro U bM bN ⟨bc,aK⟩
 refine bG 1 1 U [U] (jl U j) aK rfl (aK.fQ (i:=0) rfl) (bz (aK.fR (i:=0) rfl) cz) ?_
 intro bQ aL
 refine xn 0<|rg ya<|xq 1 [(23,J),(5,Pt ar 0),(1,Pt ab 0),(3,J),(4,V ad)]<|aD 0 1 (.agg #[V j.Kind,V j.ah,V j.To,V j.Up,U, .bool j.Key]) aL rfl ?_
 have bd:=aL.fR (i:=0) rfl
 refine dG rfl trivial (c6 (cells:=[V j.Kind,V j.ah,V j.To,V j.Up,U, .bool j.Key]) (s:=6) (by kernel_rfl)) (by kernel_rfl) aL ?_
 intro aU bR bf
 obtain ⟨aA,bg,bh⟩:=(bf.front 1 rfl).uQ bc
 have bj:=bh.front 1 rfl
 have bl:RD (α:=aq) av [V j.Kind,V j.ah,V j.To,V j.Up,U, .bool j.Key] [(⟨j.Kind,j.ah,j.To,j.Up,([]:List Int)++j.Kids,j.Key⟩:aq)] aA:=RD.one (show c9.ea _ _ _ from rfl) bd bg
 have bm:St _ _ _ _ _ _ [.gs aU [V j.Kind,V j.ah,V j.To,V j.Up,U, .bool j.Key] (aa aq), .bP aA, .ae ar (jl U j), .ae ab [v2], .gs J ao (aa aq), .bP ak]:=bj
 obtain ⟨bT,I⟩:=aH I
 have bn:St _ _ _ _ _ _ [.gs J ao (aa aq), .bP ak, .gs aU [V j.Kind,V j.ah,V j.To,V j.Up,U, .bool j.Key] (aa aq), .bP aA, .ae ar (jl U j), .ae ab [v2]]:=((((bm.front 1 rfl).front 1 rfl).front 5 rfl).front 5 rfl)
 refine eZ rfl trivial (wK (bX:=64) bn aP bl rfl rfl (by kernel_rfl) (by omega) (by omega)) ?_
 rintro bo bp bU ⟨bt,bu⟩
 refine xn 1<|gp 3 ?_
 exact ⟨aG,a7 _,⟨_,aw++[(⟨j.Kind,j.ah,j.To,j.Up,([]:List Int)++j.Kids,j.Key⟩:aq)],af (ad+1),ab,bo,bp,ak++aA,I,bt,(by kernel_rfl),((((bu.front 1 rfl).front 1 rfl).front 3 rfl).takeN 3)⟩⟩
 refine xn 0<|dF<|xt 0<|aS ?_
 obtain rfl:=si I
 exact ⟨_,aw,J,ao,ak,rfl,aP,(by kernel_rfl),(((aj.front 2 rfl).front 2 rfl).takeN 2)⟩
def BJ:List aR:=[u 10 (mv 0),u 11 (mv 6),u 12 (ia 29 10 11),u 13 (fa 47 12 3),u 14 (ld 3 13),u 6 (sg 14)]
def B2:List aR:=[u 15 (mv 0),u 16 (mv 6),u 17 (mv 0),u 18 (mv 6),u 19 (ia 29 17 18),u 20 (fa 47 19 2),u 21 (ld 3 20),u 22 (mv 2),u 23 (cb .max #[(t 21),(t 22)] #[3,3]),u 24 (ia 29 15 16),u 25 (fa 47 24 2),o (.store 3 (t 25) (t 23))]
def ky (F:Nat) (a0:List aq) (a1:Int) (U:Int):Nat→(List aq)→Int→Option (List aq)
 | 0,_,_=>none
 | n+1,J,I=>
  if (0:Int)≤I then
   if 0≤I∧I<(J.length:Int) then
    (J[I.toNat]?).bind fun aa=>
    if 0≤I∧I<(J.length:Int) then
     (J[I.toNat]?).bind fun j=>
     if 0≤I∧I<((J.set I.toNat (⟨j.Kind,j.ah,imax aa.To U,j.Up,j.Kids,j.Key⟩:aq)).length:Int) then
      ((J.set I.toNat (⟨j.Kind,j.ah,imax aa.To U,j.Up,j.Kids,j.Key⟩:aq))[I.toNat]?).bind fun ab=>
      ky F a0 a1 U n (J.set I.toNat (⟨j.Kind,j.ah,imax aa.To U,j.Up,j.Kids,j.Key⟩:aq)) ab.Up
     else none
    else none
   else none
  else
   some J
def ml (F:Nat) (a0:List aq) (a1:Int) (j:Int):Option (List aq):=
 ((ky F a0 a1 j F a0 a1):Option (List aq)).bind fun o=>match o with
  | I=>some I
theorem vk (F:Nat) {h:AH} {Z:Zn} {a0:List aq} {a1:Int} {U:Int} {v2 ae af} (hP:Pre Z h [.gs v2 ae (aa aq), .bP af]) (aL:RD (α:=aq) Z ae a0 af) {r:(List aq)} (hm:ml F a0 a1 U=some r):
  bS Tryz.prog 86 [v2,V a1,V U] h Z [.gs v2 ae (aa aq), .bP af] fun v Z' A'=>∃ aC aD, .tuple #[]=v∧A'=[.gs v2 aC (aa aq), .bP aD]∧RD (α:=aq) Z' aC r aD:=by
 refine b3 Tryz.func86 hP ?_
 intro hs hS
 unfold ml at hm
 refine sp 2 ?_
 obtain ⟨av,I,hm⟩:=ai hm
 refine aJ [] (fun l h=>∃ aw ax ao ar,ax=av∧RD (α:=aq) aw ao ax ar∧l=[]∧St hs (a2 [.gs v2 ae (aa aq), .bP af]) Z (0,0) aw h [.gs v2 ao (aa aq), .bP ar]) ?_ ?_
 rintro l a3 ⟨aw,ax,ao,ar,rfl,aM,rfl,aN⟩
 try dsimp only at hm
 obtain rfl:=si hm
 refine ⟨_,_,_,ResL.nil,aN,?_⟩
 exact ⟨ao,ar,rfl,rfl,aM⟩
 refine bk 0<|lp [0,2,6] (fun n l h=>∃ ay ak J au an,ky F a0 a1 U n ak J=some av∧RD (α:=aq) ay au ak an∧l=[(0,v2),(2,V U),(6,V J)]∧St hs (a2 [.gs v2 ae (aa aq), .bP af]) Z (0,0) ay h [.gs v2 au (aa aq), .bP an]) F ⟨_,a0,a1,ae,af,I,aL,(by kernel_rfl),hS⟩ ?_
 rintro az l a5 ⟨ay,ak,J,au,an,I,ag,rfl,aj⟩
 rcases az with _ | az
 cases (show none=some av from I)
 rw [ky] at I
 refine sq<|s0<|cS 1 I ?_ ?_<;>intro a6 I
 refine xn 0<|dT<|sk<|sq<|bk 1<|rg B2<|xq 4 [(18,V J),(17,v2),(16,V J),(15,v2),(0,v2),(2,V U),(6,V J)] ?_
 obtain ⟨aE,I⟩:=aH I
 refine bW rfl trivial (bx rfl rfl (by kernel_rfl:slTy _ _=some (aa aq)) (aj.oc (i:=0) rfl (ag).raw (by omega)) aE.1 aE.2) ?_
 obtain ⟨ad,aO,I⟩:=ai I
 obtain ⟨a8,ba,aP,bb,aQ,bc⟩:=aj.del (j:=0) rfl (ag).raw (i:=J) aO
 obtain rfl:=qh aP
 refine eS 1 2 (V ad.To) aQ<|xq 2 [(23,V (imax ad.To U)),(16,V J),(15,v2),(0,v2),(2,V U),(6,V J)] ?_
 obtain ⟨aF,I⟩:=aH I
 refine bW rfl trivial (bx rfl rfl (by kernel_rfl:slTy _ _=some (aa aq)) (aj.oc (i:=0) rfl (ag).raw (by omega)) aF.1 aF.2)<|xq 1 [(25, .pointer (some (bw v2 J (aa aq) 2))),(23,V (imax ad.To U)),(0,v2),(2,V U),(6,V J)] ?_
 obtain ⟨ab,aG,I⟩:=ai I
 obtain ⟨aT,bd,aU,bf,bg,aV⟩:=aj.del (j:=0) rfl (ag).raw (i:=J) aG
 obtain rfl:=qh aU
 refine mg rfl trivial (DA (z':=(⟨ab.Kind,ab.ah,imax ad.To U,ab.Up,ab.Kids,ab.Key⟩:aq)) (vs:=[V (imax ad.To U)]) (a9:=[V ab.Kind,V ab.ah,V (imax ad.To U),V ab.Up,aT, .bool ab.Key]) aj (m:=0) rfl ag aG aV rfl rfl rfl (by kernel_rfl) rfl rfl rfl (show c9.ea _ _ _ from rfl) (show c9.ea _ _ _ from rfl) rfl) ?_
 rintro bh aW ⟨aA,aB⟩
 refine xn 0<|rg BJ<|xq 2 [(11,V J),(10,v2),(0,v2),(2,V U),(6,V J)] ?_
 obtain ⟨aI,I⟩:=aH I
 refine bW rfl trivial (bx rfl rfl (by kernel_rfl:slTy _ _=some (aa aq)) (aB.oc (i:=0) rfl (aA).raw (by omega)) aI.1 aI.2) ?_
 obtain ⟨aK,aX,I⟩:=ai I
 obtain ⟨bj,bl,aY,bm,aZ,bn⟩:=aB.del (j:=0) rfl (aA).raw (i:=J) aX
 obtain rfl:=qh aY
 refine eS 1 3 (V aK.Up) aZ<|xn 1 ?_
 exact ⟨az,a7 _,⟨_,ak.set J.toNat (⟨ab.Kind,ab.ah,imax ad.To U,ab.Up,ab.Kids,ab.Key⟩:aq),aK.Up,aW,an,I,aA,(by kernel_rfl),aB⟩⟩
 refine xn 0<|dF<|xt 0<|aS ?_
 obtain rfl:=si I
 exact ⟨_,ak,au,an,rfl,ag,(by kernel_rfl),aj⟩
def FH:List aR:=[u 5 (.box 31 (t 0)),u 10 (.alloc 31),u 11 (.assign (ci 0))]
def A5:List br:=[uP 52 (mv 3),uP 53 (fa 47 12 1),uL 54 (ld 3 53),uP 55 (bo .lss 3 52 54 3),uP 56 (mv 55),dc 56 57 (fa 47 12 4),kQ 56 58 (ld 22 57),dc 56 59 (cb .len #[(t 58)] #[22]),dc 56 60 (bc .gtr 3 59 0 3),dc 56 61 (mv 60),aM 61 62 (mv 3),aM 61 63 (fa 31 5 0),cW 61 64 (ld 29 63),aM 61 65 (fa 47 12 4),cW 61 66 (ld 22 65),aM 61 67 (fa 47 12 4),cW 61 68 (ld 22 67),aM 61 69 (cb .len #[(t 68)] #[22]),aM 61 70 (bc .sub 3 69 1 3),aM 61 71 (ia 22 66 70),cW 61 72 (ld 3 71),aM 61 73 (ia 29 64 72),aM 61 74 (fa 47 73 2),cW 61 75 (ld 3 74),aM 61 76 (bo .lss 3 62 75 3),dc 56 77 (pf 61 76),uP 78 (pt 56 77)]
def Ez:List aR:=[u 84 (mv 13),u 85 (mv 2),u 86 (mv 3),u 87 (mv 4),u 88 (mv 1),u 89 (.build 47 #[(0,(t 85)),(1,(t 86)),(2,(t 87)),(3,(t 88))]),u 90 (.buildSlice 29 1 #[(0,(t 89))]),u 91 (cb .append #[(t 84),(t 90)] #[29,29]),u 13 (sg 91)]
def Ce:List aR:=[u 92 (mv 13),u 93 (mv 1),u 94 (mv 13),u 95 (mv 1),u 96 (ia 29 94 95),u 97 (fa 47 96 4),u 98 (ld 22 97),u 99 (mv 14),u 100 (.buildSlice 22 1 #[(0,(t 99))]),u 101 (cb .append #[(t 98),(t 100)] #[22,22]),u 102 (ia 29 92 93),u 103 (fa 47 102 4),o (.store 22 (t 103) (t 101))]
def wQ:List aR:=[u 108 (mv 13),u 109 (.build 31 #[(0,(t 108))]),u 110 (mv 14),o (.store 31 (t 10) (t 109)),u 11 (sg 110)]
def correctorref10_Add (F:Nat) (a0:bK) (a1:Int) (U:Int) (j:Int) (I:Int):Option (bK×Int):=
 if a1<(0:Int) then
  some (a0,(-1))
 else
  if (a0.an.length:Int)≤a1 then
   some (a0,(-1))
  else
   if U<(1:Int) then
    some (a0,(-1))
   else
    if (11:Int)<U then
     some (a0,(-1))
    else
     if I<j then
      some (a0,(-1))
     else
      if 0≤(0:Int)∧(0:Int)<(a0.an.length:Int) then
       (a0.an[(0:Int).toNat]?).bind fun ae=>
       if ae.To<I then
        some (a0,(-1))
       else
        if 0≤a1∧a1<(a0.an.length:Int) then
         (a0.an[a1.toNat]?).bind fun aa=>
         ((if j<aa.ah then
           some (.inr (a0,(-1)))
          else
           if (0:Int)<(aa.Kids.length:Int) then
            if 0≤(af ((aa.Kids.length:Int) - 1))∧(af ((aa.Kids.length:Int) - 1))<(aa.Kids.length:Int) then
             (aa.Kids[(af ((aa.Kids.length:Int) - 1)).toNat]?).bind fun ad=>
             if 0≤ad∧ad<(a0.an.length:Int) then
              (a0.an[ad.toNat]?).bind fun ag=>
              if j<ag.To then
               some (.inr (a0,(-1)))
              else
               some (.inl ())
             else none
            else none
           else
            some (.inl ())):Option (Sum Unit (bK×Int))).bind fun o=>match o with
          | .inl ()=>(lD F a0).bind fun J=>
          if J.length+[(⟨U,j,I,a1,[],false⟩:aq)].length≤2199023255552 then
           if 0≤a1∧a1<((J++[(⟨U,j,I,a1,[],false⟩:aq)]).length:Int) then
            ((J++[(⟨U,j,I,a1,[],false⟩:aq)])[a1.toNat]?).bind fun ab=>
            if ab.Kids.length+([(J.length:Int)]:List Int).length≤17592186044416 then
             if 0≤a1∧a1<((J++[(⟨U,j,I,a1,[],false⟩:aq)]).length:Int) then
              (ml F ((J++[(⟨U,j,I,a1,[],false⟩:aq)]).set a1.toNat (⟨ab.Kind,ab.ah,ab.To,ab.Up,ab.Kids++([(J.length:Int)]:List Int),ab.Key⟩:aq)) a1 I).bind fun ai=>
              some ((⟨ai⟩:bK),(J.length:Int))
             else none
            else none
           else none
          else none
          | .inr y=>some y
        else none
      else none
theorem xr (F:Nat) {h:AH} {Z:Zn} {a0:bK} {a1:Int} {aj:Int} {I:Int} {J:Int} {v2} (hP:Pre Z h []) (U:RS (α:=aq) Z v2 a0.an) {r:bK×Int} (hm:correctorref10_Add F a0 a1 aj I J=some r):
  bS Tryz.prog 81 [.agg #[v2],V a1,V aj,V I,V J] h Z [] fun v Z' A'=>∃ v4, .tuple #[.agg #[v4],V r.2]=v∧A'=[]∧RS (α:=aq) Z' v4 r.1.an:=by
 refine b3 Tryz.func81 hP ?_
 intro hs hS
 unfold correctorref10_Add at hm
 replace hS:St hs [] Z (0,0) Z hs []:=hS
 refine sr FH<|e2 rfl trivial (eK (cs:=[v2]) rfl rfl) hS ?_
 intro av cT bT
 refine dt 0 [.slice none 0 0] bT ?_
 intro ay cU ao
 refine xn 1<|sq<|s0<|aT 1 hm ?_ ?_<;>intro cW hm
 refine xn 29<|dT<|s0<|aD 0 1 (.agg #[v2]) ao rfl<|bG 0 0 (.agg #[v2]) [v2] [v2] ao rfl rfl (bz (RS.di U) cz) ?_
 intro cX a5
 refine xn 1<|rt<|⟨rfl,?_⟩
 obtain rfl:=si hm
 refine ⟨_,_,_,ResL.cell (v:= .agg #[v2]) (by kernel_rfl) a5 (i:=0) rfl (by kernel_rfl) (tk (V (-1)) (ResL.nil)),(a5.takeN 0),?_⟩
 exact ⟨v2,rfl,rfl,U⟩
 refine aD 3 1 v2 ao rfl<|bC 0 v2 (RS.len U)<|cS 0 hm ?_ ?_<;>intro c3 hm
 refine xn 23<|dT<|s0<|aD 0 1 (.agg #[v2]) ao rfl<|bG 0 0 (.agg #[v2]) [v2] [v2] ao rfl rfl (bz (RS.di U) cz) ?_
 intro c4 a6
 refine xn 1<|rt<|⟨rfl,?_⟩
 obtain rfl:=si hm
 refine ⟨_,_,_,ResL.cell (v:= .agg #[v2]) (by kernel_rfl) a6 (i:=0) rfl (by kernel_rfl) (tk (V (-1)) (ResL.nil)),(a6.takeN 0),?_⟩
 exact ⟨v2,rfl,rfl,U⟩
 refine aT 3 hm ?_ ?_<;>intro c5 hm
 refine xn 19<|dT<|s0<|aD 0 1 (.agg #[v2]) ao rfl<|bG 0 0 (.agg #[v2]) [v2] [v2] ao rfl rfl (bz (RS.di U) cz) ?_
 intro c8 a7
 refine xn 1<|rt<|⟨rfl,?_⟩
 obtain rfl:=si hm
 refine ⟨_,_,_,ResL.cell (v:= .agg #[v2]) (by kernel_rfl) a7 (i:=0) rfl (by kernel_rfl) (tk (V (-1)) (ResL.nil)),(a7.takeN 0),?_⟩
 exact ⟨v2,rfl,rfl,U⟩
 refine cZ 3 hm ?_ ?_<;>intro db hm
 refine xn 15<|dT<|s0<|aD 0 1 (.agg #[v2]) ao rfl<|bG 0 0 (.agg #[v2]) [v2] [v2] ao rfl rfl (bz (RS.di U) cz) ?_
 intro dc a9
 refine xn 1<|rt<|⟨rfl,?_⟩
 obtain rfl:=si hm
 refine ⟨_,_,_,ResL.cell (v:= .agg #[v2]) (by kernel_rfl) a9 (i:=0) rfl (by kernel_rfl) (tk (V (-1)) (ResL.nil)),(a9.takeN 0),?_⟩
 exact ⟨v2,rfl,rfl,U⟩
 refine cZ 4 hm ?_ ?_<;>intro dd hm
 refine xn 10<|dT<|s0<|aD 0 1 (.agg #[v2]) ao rfl<|bG 0 0 (.agg #[v2]) [v2] [v2] ao rfl rfl (bz (RS.di U) cz) ?_
 intro de ba
 refine xn 1<|rt<|⟨rfl,?_⟩
 obtain rfl:=si hm
 refine ⟨_,_,_,ResL.cell (v:= .agg #[v2]) (by kernel_rfl) ba (i:=0) rfl (by kernel_rfl) (tk (V (-1)) (ResL.nil)),(ba.takeN 0),?_⟩
 exact ⟨v2,rfl,rfl,U⟩
 refine aD 4 1 v2 ao rfl<|a8 0 hm U ?_
 intro df hm
 obtain ⟨bU,bY,hm⟩:=ai hm
 obtain ⟨dg,bZ,b0⟩:=RS.bV U (i:=0) bY
 obtain ⟨dh,dj,rfl⟩:=ey bZ
 refine eS 1 2 (V bU.To) (b0 _ (ao.bO (aO.refl _)))<|cZ 0 hm ?_ ?_<;>intro dm hm
 refine xn 1<|dT<|s0<|aD 0 1 (.agg #[v2]) ao rfl<|bG 0 0 (.agg #[v2]) [v2] [v2] ao rfl rfl (bz (RS.di U) cz) ?_
 intro dn bb
 refine xn 1<|rt<|⟨rfl,?_⟩
 obtain rfl:=si hm
 refine ⟨_,_,_,ResL.cell (v:= .agg #[v2]) (by kernel_rfl) bb (i:=0) rfl (by kernel_rfl) (tk (V (-1)) (ResL.nil)),(bb.takeN 0),?_⟩
 exact ⟨v2,rfl,rfl,U⟩
 refine xn 1<|dF<|sk<|s0<|aD 1 1 v2 ao rfl<|a8 1 hm U ?_
 intro dp hm
 obtain ⟨ak,b1,hm⟩:=ai hm
 obtain ⟨dr,b2,b4⟩:=RS.bV U (i:=a1) b1
 obtain ⟨az,aC,rfl⟩:=ey b2
 refine eS 0 0 (.agg #[V ak.Kind,V ak.ah,V ak.To,V ak.Up,az, .bool ak.Key]) (b4 _ (ao.bO (aO.refl _)))<|dt 0 [V 0,V 0,V 0,V 0, .slice none 0 0, .bool false] ao ?_
 intro aw ds b5
 refine bG 0 0 (.agg #[V ak.Kind,V ak.ah,V ak.To,V ak.Up,az, .bool ak.Key]) [V ak.Kind,V ak.ah,V ak.To,V ak.Up,az, .bool ak.Key] (jl az ak) b5 rfl rfl (bz rfl (bz rfl (bz rfl (bz rfl (bz (RS.di aC) (bz rfl cz)))))) ?_
 intro du b6
 refine xn 0<|sq ?_
 obtain ⟨b7,ad,hm⟩:=ai hm
 refine aJ [1,2,3,4,5,10] (fun l h=>∃ bc aB ax, .inl ()=b7∧l=[(1,V a1),(2,V aj),(3,V I),(4,V J),(5,Pt aB 0),(10,Pt ax 0)]∧St hs [] Z (0,0) bc h [.ae aB [v2], .ae ax [.slice none 0 0]]) ?_ ?_
 rintro l dv ⟨bc,aB,ax,rfl,rfl,aM⟩
 try dsimp only at hm
 refine s0<|aD 0 0 (.agg #[v2]) aM rfl ?_
 obtain ⟨ar,b8,hm⟩:=ai hm
 refine c0 0 aM (vp F aM.eM (U.mono aM.ag) b8) ?_
 rintro _ dw aP _ dx bd ⟨aI,bf,aQ,rfl,rfl,bg⟩
 refine xn 1<|s0<|bC 1 aI (bd.kB (i:=0) rfl (bg).raw)<|xn 1<|sr Ez<|xq 6 [(89, .agg #[V aj,V I,V J,V a1, .slice none 0 0, .bool false]),(84,aI),(14,V (ar.length:Int)),(13,aI),(1,V a1),(4,V J),(10,Pt ax 0)]<|dG rfl trivial (c6 (cells:=[V aj,V I,V J,V a1, .slice none 0 0, .bool false]) (s:=6) (by kernel_rfl)) (by kernel_rfl) bd ?_
 intro bh dy b9
 have ca:=b9.rh.front 1 rfl
 have cb:RD (α:=aq) aP [V aj,V I,V J,V a1, .slice none 0 0, .bool false] [(⟨aj,I,J,a1,[],false⟩:aq)] []:=RD.one (show c9.ea _ _ _ from rfl) rfl g4.nil
 have cc:St _ _ _ _ _ _ [.gs bh [V aj,V I,V J,V a1, .slice none 0 0, .bool false] (aa aq), .bP [], .gs aI bf (aa aq), .bP aQ, .ae aB [v2], .ae ax [.slice none 0 0]]:=ca
 obtain ⟨dz,hm⟩:=aH hm
 have cd:St _ _ _ _ _ _ [.gs aI bf (aa aq), .bP aQ, .gs bh [V aj,V I,V J,V a1, .slice none 0 0, .bool false] (aa aq), .bP [], .ae aB [v2], .ae ax [.slice none 0 0]]:=((((cc.front 1 rfl).front 1 rfl).front 3 rfl).front 3 rfl)
 refine eZ rfl trivial (wK (bX:=64) cd bg cb rfl rfl (by kernel_rfl) (by omega) (by omega)) ?_
 rintro ab bj dA ⟨bk,bl⟩
 refine xn 1<|sr Ce<|xq 4 [(95,V a1),(94,ab),(93,V a1),(92,ab),(13,ab),(14,V (ar.length:Int)),(1,V a1),(4,V J),(10,Pt ax 0)] ?_
 obtain ⟨bn,hm⟩:=aH hm
 refine bW rfl trivial (bx rfl rfl (by kernel_rfl:slTy _ _=some (aa aq)) (bl.oc (i:=0) rfl (bk).raw (by omega)) bn.1 bn.2)<|xq 1 [(97, .pointer (some (bw ab a1 (aa aq) 4))),(93,V a1),(92,ab),(13,ab),(14,V (ar.length:Int)),(1,V a1),(4,V J),(10,Pt ax 0)] ?_
 obtain ⟨aE,bo,hm⟩:=ai hm
 have cf:St _ _ _ _ _ _ [.gs ab bj (aa aq), .bP (aQ++[]), .ae aB [v2], .ae ax [.slice none 0 0]]:=((bl.front 1 rfl).front 1 rfl)
 obtain ⟨bp,dB,ch,cj,bt,ck,aS,bu,cl⟩:=cf.wZ bk (i:=a1) bo
 obtain rfl:=qh bt
 replace aS:RCs (α:=Int) aP ch aE.Kids:=aS
 refine bW rfl trivial (bE (w:=bp) ck rfl (by kernel_rfl))<|xq 1 [(99,V (ar.length:Int)),(98,bp),(93,V a1),(92,ab),(13,ab),(14,V (ar.length:Int)),(1,V a1),(4,V J),(10,Pt ax 0)] ?_
 have cm:RCs (α:=Int) aP [V (ar.length:Int)] ([(ar.length:Int)]:List Int):=RCs.cons (cs:=[V (ar.length:Int)]) rfl (RCs.bq _)
 refine dG rfl trivial (c6 (cells:=[V (ar.length:Int)]) (s:=1) (by kernel_rfl)) (by kernel_rfl) cl ?_
 intro aU dC bA
 obtain ⟨dD,hm⟩:=aH hm
 refine eZ rfl trivial (dE (ys:=([(ar.length:Int)]:List Int)) (bX:=8) bA (i:=1) rfl aS ((bA).eB (j:=0) rfl cm) rfl rfl (by kernel_rfl) (by omega) (by omega)) ?_
 rintro bB cn dH ⟨cp,bD⟩
 obtain ⟨bF,hm⟩:=aH hm
 refine bW rfl trivial (bx rfl rfl (by kernel_rfl:slTy _ _=some (aa aq)) (bD.oc (i:=2) rfl (bu).raw (by omega)) bF.1 bF.2)<|xq 1 [(103, .pointer (some (bw ab a1 (aa aq) 4))),(101,bB),(13,ab),(14,V (ar.length:Int)),(1,V a1),(4,V J),(10,Pt ax 0)] ?_
 have cq:St _ _ _ _ _ _ [.gs bB cn (aa Int), .gs ab bj (aa aq), .bP cj, .gs aU [V (ar.length:Int)] (aa Int), .ae aB [v2], .ae ax [.slice none 0 0]]:=(((bD.front 3 rfl).front 3 rfl).front 3 rfl)
 refine DJ rfl trivial (zf (z':=(⟨aE.Kind,aE.ah,aE.To,aE.Up,aE.Kids++([(ar.length:Int)]:List Int),aE.Key⟩:aq)) cq bu cp bo rfl rfl (by kernel_rfl) (by kernel_rfl) bt rfl (show c9.ea _ _ _ from rfl) rfl) ?_
 rintro dI cr ct ⟨cu,cv⟩
 refine xn 0<|s0 ?_
 obtain ⟨dJ,cw,hm⟩:=ai hm
 have cx:St _ _ _ _ _ _ ([.gs ab cr (aa aq), .bP ct]++[.gs aU [V (ar.length:Int)] (aa Int), .ae aB [v2], .ae ax [.slice none 0 0]]):=((cv.front 1 rfl).front 1 rfl)
 refine cB 3 cx (fun p=>vk F p cu cw) ?_
 rintro _ dL dM _ dN aX ⟨cy,cA,rfl,rfl,cC⟩
 refine xn 0<|sr wQ<|xq 1 [(108,ab),(14,V (ar.length:Int)),(10,Pt ax 0)]<|bW rfl trivial (jV (v:= .agg #[ab]) rfl (CA.cons (cs:=[ab]) (aX.fQ (i:=0) rfl) (CA.bq)) (by kernel_rfl))<|bG 1 4 (.agg #[ab]) [ab] [ab] aX rfl rfl (bz (aX.fR (i:=0) rfl) cz) ?_
 intro dO cD
 refine xn 1<|rt<|⟨rfl,?_⟩
 have cE:St _ _ _ _ _ _ [.gs ab cy (aa aq), .bP cA, .gs aU [V (ar.length:Int)] (aa Int), .ae aB [v2], .ae ax [ab]]:=((cD.front 1 rfl).front 1 rfl)
 obtain ⟨dP,dQ,cF,cH⟩:=cE.shallow cC
 obtain ⟨dR,dS,cI,bH⟩:=(cH.front 0 rfl).freeze cF
 obtain rfl:=si hm
 refine ⟨_,_,_,ResL.cell (v:= .agg #[ab]) (by kernel_rfl) bH (i:=2) rfl (by kernel_rfl) (tk (V (ar.length:Int)) (ResL.nil)),(bH.takeN 0),?_⟩
 exact ⟨ab,rfl,rfl,cI⟩
 refine cY A5 b6 ?_
 intro aK dV aL aA
 refine yq 2 [(53,Pt aw 1),(52,V I),(12,Pt aw 0),(10,Pt ay 0),(5,Pt av 0),(1,V a1),(2,V aj),(3,V I),(4,V J)] ?_
 have dW:aw<aK:=aL.1 _ (au (i:=0) rfl) _ (by simp [Itm.ids])
 refine aW (v:=V ak.ah) rfl trivial rfl (by show aw<_;omega) (aG (v:=V ak.ah) trivial) (aA.aV (i:=0) rfl (by kernel_rfl)) trivial ?_
 rcases ifs ad with ⟨aZ,ad⟩ | ⟨aZ,ad⟩
 refine aF rfl trivial (bm rfl rfl (mq aZ))<|ye 23 [(78, .bool true),(10,Pt ay 0),(5,Pt av 0),(1,V a1),(2,V aj),(3,V I),(4,V J)] ?_
 have bI:=aA.aY
 refine dT<|s0<|aD 0 2 (.agg #[v2]) bI rfl<|bG 0 1 (.agg #[v2]) [v2] [v2] bI rfl rfl (bz (RS.di U) cz) ?_
 intro dX bJ
 refine xn 1<|rt<|⟨rfl,?_⟩
 obtain rfl:=si ad
 obtain rfl:=si hm
 refine ⟨_,_,_,ResL.cell (v:= .agg #[v2]) (by kernel_rfl) bJ (i:=1) rfl (by kernel_rfl) (tk (V (-1)) (ResL.nil)),(bJ.takeN 0),?_⟩
 exact ⟨v2,rfl,rfl,U⟩
 refine aF rfl trivial (bm rfl rfl (mJ aZ))<|yq 2 [(57,Pt aw 4),(56, .bool false),(12,Pt aw 0),(10,Pt ay 0),(5,Pt av 0),(1,V a1),(2,V aj),(3,V I),(4,V J)] ?_
 have dY:aw<aK:=aL.1 _ (au (i:=0) rfl) _ (by simp [Itm.ids])
 refine aW (v:=az) rfl rfl rfl (by show aw<_;omega) (aG (v:=az) (RS.cM aC)) (aA.aV (i:=0) rfl (by kernel_rfl)) trivial<|aF rfl rfl (h7 rfl (RS.len aC) ⟨_,Tryz.underlying22⟩) ?_
 rcases ifs ad with ⟨a2,ad⟩ | ⟨a2,ad⟩
 refine aF rfl rfl (bm rfl rfl (lO a2))<|yq 3 [(63,Pt av 0),(62,V I),(61, .bool true),(56, .bool false),(12,Pt aw 0),(10,Pt ay 0),(5,Pt av 0),(1,V a1),(2,V aj),(3,V I),(4,V J)] ?_
 have dZ:av<aK:=aL.1 _ (au (i:=2) rfl) _ (by simp [Itm.ids])
 refine aW (v:=v2) rfl rfl rfl (by show av<_;omega) (aG (v:=v2) (RS.cM U)) (aA.aV (i:=2) rfl (by kernel_rfl)) trivial<|yq 1 [(65,Pt aw 4),(64,v2),(62,V I),(61, .bool true),(56, .bool false),(12,Pt aw 0),(10,Pt ay 0),(5,Pt av 0),(1,V a1),(2,V aj),(3,V I),(4,V J)] ?_
 have eb:aw<aK:=aL.1 _ (au (i:=0) rfl) _ (by simp [Itm.ids])
 refine aW (v:=az) rfl rfl rfl (by show aw<_;omega) (aG (v:=az) (RS.cM aC)) (aA.aV (i:=0) rfl (by kernel_rfl)) trivial<|yq 1 [(67,Pt aw 4),(66,az),(64,v2),(62,V I),(61, .bool true),(56, .bool false),(10,Pt ay 0),(5,Pt av 0),(1,V a1),(2,V aj),(3,V I),(4,V J)] ?_
 have ec:aw<aK:=aL.1 _ (au (i:=0) rfl) _ (by simp [Itm.ids])
 refine aW (v:=az) rfl rfl rfl (by show aw<_;omega) (aG (v:=az) (RS.cM aC)) (aA.aV (i:=0) rfl (by kernel_rfl)) trivial<|aF rfl rfl (h7 rfl (RS.len aC) ⟨_,Tryz.underlying22⟩)<|yq 1 [(70,V (af ((ak.Kids.length:Int) - 1))),(66,az),(64,v2),(62,V I),(61, .bool true),(56, .bool false),(10,Pt ay 0),(5,Pt av 0),(1,V a1),(2,V aj),(3,V I),(4,V J)] ?_
 obtain ⟨bL,ad⟩:=aH ad
 refine aF rfl rfl (bx rfl rfl (by kernel_rfl:slTy _ _=some (aa Int)) (RS.cG aC (by omega)) bL.1 bL.2) ?_
 obtain ⟨aN,cJ,ad⟩:=ai ad
 obtain ⟨ed,cK,cL⟩:=RS.bV aC (i:=af ((ak.Kids.length:Int) - 1)) cJ
 obtain rfl:=fB cK
 refine cg rfl rfl rfl (fun h2 hz=>bE (w:=V aN) (cL h2 hz) rfl (by kernel_rfl)) (aA.bO (aO.refl _)) (aG (v:=V aN) trivial) trivial ?_
 obtain ⟨bM,ad⟩:=aH ad
 refine aF rfl rfl (bx rfl rfl (by kernel_rfl:slTy _ _=some (aa aq)) (RS.cG U (by omega)) bM.1 bM.2)<|yq 1 [(74, .pointer (some (bw v2 aN (aa aq) 2))),(62,V I),(61, .bool true),(56, .bool false),(10,Pt ay 0),(5,Pt av 0),(1,V a1),(2,V aj),(3,V I),(4,V J)] ?_
 obtain ⟨bN,cN,ad⟩:=ai ad
 obtain ⟨ee,cO,cP⟩:=RS.bV U (i:=aN) cN
 obtain ⟨eg,eh,rfl⟩:=ey cO
 refine cg rfl rfl rfl (fun h2 hz=>bE (w:=V bN.To) (cP h2 hz) rfl (by kernel_rfl)) (aA.bO (aO.refl _)) (aG (v:=V bN.To) trivial) trivial ?_
 rcases ifs ad with ⟨a3,ad⟩ | ⟨a3,ad⟩
 refine aF rfl rfl (bm rfl rfl (mq a3))<|ye 2 [(78, .bool true),(10,Pt ay 0),(5,Pt av 0),(1,V a1),(2,V aj),(3,V I),(4,V J)] ?_
 have bQ:=aA.aY
 refine dT<|s0<|aD 0 2 (.agg #[v2]) bQ rfl<|bG 0 1 (.agg #[v2]) [v2] [v2] bQ rfl rfl (bz (RS.di U) cz) ?_
 intro ei bR
 refine xn 1<|rt<|⟨rfl,?_⟩
 obtain rfl:=si ad
 obtain rfl:=si hm
 refine ⟨_,_,_,ResL.cell (v:= .agg #[v2]) (by kernel_rfl) bR (i:=1) rfl (by kernel_rfl) (tk (V (-1)) (ResL.nil)),(bR.takeN 0),?_⟩
 exact ⟨v2,rfl,rfl,U⟩
 refine aF rfl rfl (bm rfl rfl (mJ a3))<|ye 2 [(78, .bool false),(10,Pt ay 0),(5,Pt av 0),(1,V a1),(2,V aj),(3,V I),(4,V J)] ?_
 have cQ:=aA.aY
 refine dF<|sk ?_
 obtain rfl:=si ad
 exact ⟨_,av,ay,rfl,(by kernel_rfl),(((cQ.front 1 rfl).front 2 rfl).takeN 2)⟩
 refine aF rfl rfl (bm rfl rfl (lR a2))<|ye 18 [(78, .bool false),(10,Pt ay 0),(5,Pt av 0),(1,V a1),(2,V aj),(3,V I),(4,V J)] ?_
 have cR:=aA.aY
 refine dF<|sk ?_
 obtain rfl:=si ad
 exact ⟨_,av,ay,rfl,(by kernel_rfl),(((cR.front 1 rfl).front 2 rfl).takeN 2)⟩
def Fx:List aR:=[u 3 (.box 31 (t 0)),u 6 (.alloc 31)]
def yB:List aR:=[u 33 (mv 7),u 34 (.build 31 #[(0,(t 33))]),o (.store 31 (t 6) (t 34))]
def iI (F:Nat) (a0:bK) (a1:Int) (j:Int):Option bK:=
 if a1<(0:Int) then
  some a0
 else
  if (a0.an.length:Int)≤a1 then
   some a0
  else
   if 0≤(0:Int)∧(0:Int)<(a0.an.length:Int) then
    (a0.an[(0:Int).toNat]?).bind fun I=>
    if I.To<j then
     some a0
    else
     (lD F a0).bind fun J=>
     (ml F J a1 j).bind fun U=>
     some (⟨U⟩:bK)
   else none
theorem q1 (F:Nat) {h:AH} {Z:Zn} {a0:bK} {a1:Int} {ad:Int} {v2} (hP:Pre Z h []) (J:RS (α:=aq) Z v2 a0.an) {r:bK} (hm:iI F a0 a1 ad=some r):
  bS Tryz.prog 72 [.agg #[v2],V a1,V ad] h Z [] fun v Z' A'=>∃ v4, .agg #[v4]=v∧A'=[]∧RS (α:=aq) Z' v4 r.an:=by
 refine b3 Tryz.func72 hP ?_
 intro hs hS
 unfold iI at hm
 replace hS:St hs [] Z (0,0) Z hs []:=hS
 refine sr Fx<|e2 rfl trivial (eK (cs:=[v2]) rfl rfl) hS ?_
 intro af aN ao
 refine dt 0 [.slice none 0 0] ao ?_
 intro U aP j
 refine xn 0<|sq<|s0<|aT 1 hm ?_ ?_<;>intro aQ hm
 refine xn 16<|dT<|s0<|aD 0 1 (.agg #[v2]) j rfl<|bG 0 0 (.agg #[v2]) [v2] [v2] j rfl rfl (bz (RS.di J) cz) ?_
 intro aS ag
 refine xn 0<|rt<|⟨rfl,?_⟩
 obtain rfl:=si hm
 refine ⟨_,_,_,ResL.cell (v:= .agg #[v2]) (by kernel_rfl) ag (i:=0) rfl (by kernel_rfl) (ResL.nil),(ag.takeN 0),?_⟩
 exact ⟨v2,rfl,rfl,J⟩
 refine aD 3 1 v2 j rfl<|bC 0 v2 (RS.len J)<|cS 0 hm ?_ ?_<;>intro aU hm
 refine xn 10<|dT<|s0<|aD 0 1 (.agg #[v2]) j rfl<|bG 0 0 (.agg #[v2]) [v2] [v2] j rfl rfl (bz (RS.di J) cz) ?_
 intro aV ah
 refine xn 0<|rt<|⟨rfl,?_⟩
 obtain rfl:=si hm
 refine ⟨_,_,_,ResL.cell (v:= .agg #[v2]) (by kernel_rfl) ah (i:=0) rfl (by kernel_rfl) (ResL.nil),(ah.takeN 0),?_⟩
 exact ⟨v2,rfl,rfl,J⟩
 refine aD 4 1 v2 j rfl<|a8 0 hm J ?_
 intro aW hm
 obtain ⟨ar,au,hm⟩:=ai hm
 obtain ⟨aX,av,aw⟩:=RS.bV J (i:=0) au
 obtain ⟨aY,aZ,rfl⟩:=ey av
 refine eS 1 2 (V ar.To) (aw _ (j.bO (aO.refl _)))<|cZ 0 hm ?_ ?_<;>intro a2 hm
 refine xn 1<|dT<|s0<|aD 0 1 (.agg #[v2]) j rfl<|bG 0 0 (.agg #[v2]) [v2] [v2] j rfl rfl (bz (RS.di J) cz) ?_
 intro a3 aj
 refine xn 0<|rt<|⟨rfl,?_⟩
 obtain rfl:=si hm
 refine ⟨_,_,_,ResL.cell (v:= .agg #[v2]) (by kernel_rfl) aj (i:=0) rfl (by kernel_rfl) (ResL.nil),(aj.takeN 0),?_⟩
 exact ⟨v2,rfl,rfl,J⟩
 refine xn 1<|dF<|sk<|s0<|aD 0 1 (.agg #[v2]) j rfl ?_
 obtain ⟨a5,ax,hm⟩:=ai hm
 refine c0 0 j (vp F j.eM J ax) ?_
 rintro _ a6 a7 _ a9 ay ⟨I,az,aA,rfl,rfl,aB⟩
 refine xn 1<|s0 ?_
 obtain ⟨ba,aC,hm⟩:=ai hm
 have aE:St _ _ _ _ _ _ ([.gs I az (aa aq), .bP aA]++[.ae U [.slice none 0 0], .ae af [v2]]):=((ay.front 1 rfl).front 1 rfl)
 refine cB 3 aE (fun p=>vk F p aB aC) ?_
 rintro _ bb bc _ bd ab ⟨aF,aG,rfl,rfl,aH⟩
 refine xn 0<|sr yB<|xq 1 [(33,I),(6,Pt U 0)]<|bW rfl trivial (jV (v:= .agg #[I]) rfl (CA.cons (cs:=[I]) (ab.fQ (i:=0) rfl) (CA.bq)) (by kernel_rfl))<|bG 0 2 (.agg #[I]) [I] [I] ab rfl rfl (bz (ab.fR (i:=0) rfl) cz) ?_
 intro bf aI
 refine xn 0<|rt<|⟨rfl,?_⟩
 have aJ:St _ _ _ _ _ _ [.gs I aF (aa aq), .bP aG, .ae U [I], .ae af [v2]]:=((aI.front 1 rfl).front 1 rfl)
 obtain ⟨bg,bh,aK,aL⟩:=aJ.shallow aH
 obtain ⟨bj,bk,aM,ak⟩:=(aL.front 0 rfl).freeze aK
 obtain rfl:=si hm
 refine ⟨_,_,_,ResL.cell (v:= .agg #[I]) (by kernel_rfl) ak (i:=0) rfl (by kernel_rfl) (ResL.nil),(ak.takeN 0),?_⟩
 exact ⟨I,rfl,rfl,aM⟩
end
end Go.Proofs.YtcilejikekccmaaGreat.M
