/- Packed by a program of this session (mini.py). -/
import Derived.Test.YtcilejikekccmaaGreatWa3
set_option linter.unusedVariables false
set_option linter.unusedSimpArgs false
set_option maxRecDepth 20000
set_option maxRecDepth 100000
namespace Go.Proofs.YtcilejikekccmaaGreat.M
section
open Go Am Sy
open Sy.Cell (rc)
def oS (F:Nat) (a0:a5) (a1:av):Option a5:=
 if a1.Kind=(4:Int) then
  (nQ F (⟨a0.R,a0.Rows,a0.Doc,a0.aE,a0.S,a0.aA,a1.To⟩:a5) a1).bind fun ag=>
  some ag
 else
  if a1.Kind=(5:Int) then
   (oM F (⟨a0.R,a0.Rows,a0.Doc,a0.aE,a0.S,a0.aA,a1.To⟩:a5) a1).bind fun ai=>
   some ai
  else
   ((if a1.Kind=(2:Int) then
     some (a0.Rows,a0.Doc,a0.aE,a0.S,a0.aA,a1.To,a1,true)
    else
     if a1.Kind=(3:Int) then
      some (a0.Rows,a0.Doc,a0.aE,a0.S,a0.aA,a1.To,a1,true)
     else
      some (a0.Rows,a0.Doc,a0.aE,a0.S,a0.aA,a1.To,a1,false)):Option ((List av)×Int×Bool×(List aw)×Int×Int×av×Bool)).bind fun o=>match o with
    | (J,U,aa,ab,ad,ae,af,aj)=>if aj=true then
     (g8 F (⟨a0.R,J,U,aa,ab,ad,ae⟩:a5) af.ah af.To).bind fun I=>
     if I.1<I.2 then
      (mc F (⟨a0.R,J,U,aa,ab,ad,ae⟩:a5) I.1).bind fun j=>
      (iR F j).bind fun ak=>
      (eu F j.R ak I.1 I.2 8).bind fun an=>
      some (⟨an.2,j.Rows,j.Doc,j.aE,j.S,j.aA,j.Read⟩:a5)
     else
      some (⟨a0.R,J,U,aa,ab,ad,ae⟩:a5)
    else
     some (⟨a0.R,J,U,aa,ab,ad,ae⟩:a5)
theorem xd (F:Nat) {h:AH} {Z:Zn} {a0:a5} {a1:av} {J j v4 v6 I af v11 ak U ao} (hP:Pre Z h [.ae J [Pt j 0,v11,V a0.Doc, .bool a0.aE,U,V a0.aA,V a0.Read], .ae j (aB v4 v6 I a0.R), .gs I af (aa aj), .gs v11 ak (aa av), .gs U ao (aa aw)]) (aF:RS (α:=al) Z v4 a0.R.L) (aH:RS (α:=aq) Z v6 a0.R.T.an) (aL:RCs (α:=aj) Z af a0.R.D) (aZ:RCs (α:=av) Z ak a0.Rows) (a6:RCs (α:=aw) Z ao a0.S) {r:a5} (hm:oS F a0 a1=some r):
  bS Tryz.prog 26 [Pt J 0, .agg #[V a1.Kind,V a1.ah,V a1.To,V a1.aI]] h Z [.ae J [Pt j 0,v11,V a0.Doc, .bool a0.aE,U,V a0.aA,V a0.Read], .ae j (aB v4 v6 I a0.R), .gs I af (aa aj), .gs v11 ak (aa av), .gs U ao (aa aw)] fun v Z' A'=>∃ bw bx bz bB bC bD bE, .tuple #[]=v∧A'=[.ae J [Pt j 0,v11,V r.Doc, .bool r.aE,bD,V r.aA,V r.Read], .ae j (aB bw bx bz r.R), .gs bz bB (aa aj), .gs v11 bC (aa av), .gs bD bE (aa aw)]∧RS (α:=al) Z' bw r.R.L∧RS (α:=aq) Z' bx r.R.T.an∧RCs (α:=aj) Z' bB r.R.D∧RCs (α:=av) Z' bC r.Rows∧RCs (α:=aw) Z' bE r.S:=by
 refine b3 Tryz.func26 hP ?_
 intro hs hS
 unfold oS at hm
 refine s0<|dt 0 [V a1.Kind,V a1.ah,V a1.To,V a1.aI] hS ?_
 intro a7 cU bF
 refine xn 0<|s0<|aD 2 0 (V a1.To) bF rfl<|bG 2 1 (V a1.To) [V a1.To] [Pt j 0,v11,V a0.Doc, .bool a0.aE,U,V a0.aA,V a1.To] bF rfl rfl rfl ?_
 intro cW ax
 refine xn 0<|s0<|aD 1 0 (V a1.Kind) ax rfl<|xn 0<|bk 0<|s0<|aK 0 hm ?_ ?_<;>intro cY hm
 refine xn 1<|dT<|g0<|aD 1 0 (.agg #[V a1.Kind,V a1.ah,V a1.To,V a1.aI]) ax rfl ?_
 obtain ⟨cZ,bQ,hm⟩:=ai hm
 have bR:St _ _ _ _ _ _ ([.ae J [Pt j 0,v11,V a0.Doc, .bool a0.aE,U,V a0.aA,V a1.To], .ae j (aB v4 v6 I a0.R), .gs I af (aa aj), .gs v11 ak (aa av), .gs U ao (aa aw)]++[.ae a7 (cX a1)]):=(((((ax.front 5 rfl).front 5 rfl).front 5 rfl).front 5 rfl).front 5 rfl)
 refine cB 0 bR (fun p=>wR F (a0:=(⟨a0.R,a0.Rows,a0.Doc,a0.aE,a0.S,a0.aA,a1.To⟩:a5)) p aF aH aL aZ a6 bQ) ?_
 rintro _ c0 c3 _ c4 bT ⟨bV,bW,bX,bY,b0,b1,b2,rfl,rfl,b4,b5,b6,b7,b8⟩
 refine xn 0 ?_
 obtain rfl:=si hm
 refine ⟨_,_,_,ResL.nil,(bT.takeN 5),?_⟩
 exact ⟨bV,bW,bX,bY,b0,b1,b2,rfl,rfl,b4,b5,b6,b7,b8⟩
 refine xn 1<|dF<|s0<|aK 0 hm ?_ ?_<;>intro c5 hm
 refine xn 1<|dT<|g0<|aD 1 0 (.agg #[V a1.Kind,V a1.ah,V a1.To,V a1.aI]) ax rfl ?_
 obtain ⟨c6,b9,hm⟩:=ai hm
 have ca:St _ _ _ _ _ _ ([.ae J [Pt j 0,v11,V a0.Doc, .bool a0.aE,U,V a0.aA,V a1.To], .ae j (aB v4 v6 I a0.R), .gs I af (aa aj), .gs v11 ak (aa av), .gs U ao (aa aw)]++[.ae a7 (cX a1)]):=(((((ax.front 5 rfl).front 5 rfl).front 5 rfl).front 5 rfl).front 5 rfl)
 refine cB 0 ca (fun p=>yL F (a0:=(⟨a0.R,a0.Rows,a0.Doc,a0.aE,a0.S,a0.aA,a1.To⟩:a5)) p aF aH aL aZ a6 b9) ?_
 rintro _ c8 dc _ dd cb ⟨cc,cd,cf,cg,ch,cj,ck,rfl,rfl,cl,cm,cn,cp,cq⟩
 refine xn 0 ?_
 obtain rfl:=si hm
 refine ⟨_,_,_,ResL.nil,(cb.takeN 5),?_⟩
 exact ⟨cc,cd,cf,cg,ch,cj,ck,rfl,rfl,cl,cm,cn,cp,cq⟩
 refine xn 1<|dF<|sq ?_
 obtain ⟨ct,ay,hm⟩:=ai hm
 refine aJ [0,3,23] (fun l h=>∃ bd a8 aM aN a9 aO aP ar bm aQ aS az,(a8,aM,aN,a9,aO,aP,ar,bm)=ct∧RCs (α:=av) bd aQ a8∧RCs (α:=aw) bd aS a9∧l=[(0,Pt J 0),(3,Pt az 0),(23, .bool bm)]∧St hs (a2 [.ae J [Pt j 0,v11,V a0.Doc, .bool a0.aE,U,V a0.aA,V a0.Read], .ae j (aB v4 v6 I a0.R), .gs I af (aa aj), .gs v11 ak (aa av), .gs U ao (aa aw)]) Z (0,0) bd h [.ae j (aB v4 v6 I a0.R), .gs I af (aa aj), .ae J [Pt j 0,v11,V aM, .bool aN,U,V aO,V aP], .gs v11 aQ (aa av), .gs U aS (aa aw), .ae az (cX ar)]) ?_ ?_
 rintro l dg ⟨bd,a8,aM,aN,a9,aO,aP,ar,bm,aQ,aS,az,rfl,bf,bg,rfl,ab⟩
 try dsimp only at hm
 refine db hm ?_ ?_<;>intro dh hm
 refine s0<|aD 2 5 (V ar.ah) ab rfl<|aD 1 5 (V ar.To) ab rfl ?_
 obtain ⟨aU,cu,hm⟩:=ai hm
 refine cE 0 ab (fun di ba cv bb=>ln F (a0:=(⟨a0.R,a8,aM,aN,a9,aO,aP⟩:a5)) cv (RS.mono ba (aF.mono ab.ag)) (RS.mono ba (aH.mono ab.ag)) (bA.row (bb _ (au (i:=1) rfl)) ba (aL.mono ab.ag)) (bb _ (au (i:=0) rfl)) (bA.row (bb _ (au (i:=3) rfl)) ba bf) (bA.row (bb _ (au (i:=4) rfl)) ba bg) (bb _ (au (i:=2) rfl)) cu) ?_
 rintro _ dj bH rfl
 refine xn 5<|s0<|aT 2 hm ?_ ?_<;>intro dm hm
 refine xn 0<|dT<|s0 ?_
 obtain ⟨ad,cw,hm⟩:=ai hm
 have cx:St _ _ _ _ _ _ ([.ae J [Pt j 0,v11,V aM, .bool aN,U,V aO,V aP], .ae j (aB v4 v6 I a0.R), .gs I af (aa aj), .gs v11 aQ (aa av), .gs U aS (aa aw)]++[.ae az (cX ar)]):=(((((bH.front 4 rfl).front 4 rfl).front 3 rfl).front 3 rfl).front 4 rfl)
 refine cB 2 cx (fun p=>vj F (a0:=(⟨a0.R,a8,aM,aN,a9,aO,aP⟩:a5)) p (aF.mono ab.ag) (aH.mono ab.ag) (aL.mono ab.ag) bf bg cw) ?_
 rintro _ dn dp _ dr cy ⟨bn,bo,bp,bh,aC,bj,rfl,rfl,bI,bJ,bK,bM,bN⟩
 refine xn 0<|ek wW cy ?_
 intro cz ds cA bq
 refine yq 3 [(43,Pt J 0),(5,V aU.2),(4,V aU.1),(0,Pt J 0)] ?_
 have du:J<cz:=cA.1 _ (au (i:=0) rfl) _ (by simp [Itm.ids])
 refine aW (v:=Pt j 0) rfl trivial rfl (by show J<_;omega) (aG (v:=Pt j 0) trivial) (bq.aV (i:=0) rfl (by kernel_rfl)) trivial<|yq 1 [(45,Pt J 0),(44,Pt j 0),(5,V aU.2),(4,V aU.1)] ?_
 obtain ⟨cC,cD,hm⟩:=ai hm
 have bO:=bq.bZ
 obtain ⟨dv,aX,cF,bc⟩:=St.kM (L:=[.ae J [Pt j 0,v11,V ad.Doc, .bool ad.aE,aC,V ad.aA,V ad.Read], .ae j (aB bn bo I ad.R), .gs I bp (aa aj), .gs v11 bh (aa av), .gs aC bj (aa aw), .ae az (cX ar)]) bO
 obtain ⟨dw,dx,cG,bl,rfl⟩:=n3 F cF (RS.mono aX bI) (RS.mono aX bJ) (bA.row (bc _ (au (i:=2) rfl)) aX bK) (bc _ (au (i:=1) rfl)) (bA.row (bc _ (au (i:=3) rfl)) aX bM) (bA.row (bc _ (au (i:=4) rfl)) aX bN) (bc _ (au (i:=0) rfl)) cD
 replace bl:=St.j9 aX bl
 have cH:=St.call (A:=[]) (B:=[.ae J [Pt j 0,v11,V ad.Doc, .bool ad.aE,aC,V ad.aA,V ad.Read], .ae j (aB bn bo I ad.R), .gs I bp (aa aj), .gs v11 bh (aa av), .gs aC bj (aa aw), .ae az (cX ar)]) bO bl
 refine df rfl trivial bq (cr cG rfl rfl rfl) cH (St.de bl) ?_
 intro dy cI
 refine yq 2 [(48,V aU.2),(47,V aU.1),(46,V cC),(44,Pt j 0)] ?_
 obtain ⟨dz,cJ,hm⟩:=ai hm
 have bt:St _ _ _ _ _ _ ([.ae j (aB bn bo I ad.R), .gs I bp (aa aj)]++[.ae J [Pt j 0,v11,V ad.Doc, .bool ad.aE,aC,V ad.aA,V ad.Read], .gs v11 bh (aa av), .gs aC bj (aa aw), .ae az (cX ar)]):=((cI.front 2 rfl).front 2 rfl)
 obtain ⟨dA,dB,dC,dD,cK,bP,cL,cM,cN,cO,rfl,rfl,cP,cQ,cR⟩:=fL F bt.bZ.dW bI bJ bK cJ
 have bu:=bP.ag
 refine fS rfl trivial bt (cr cK rfl rfl rfl) bP bu (.a3 (bt.bL 0 rfl bU) .nil) ?_
 intro dE cS
 refine yf [] ?_
 have cT:=cS.aY
 obtain rfl:=si hm
 refine ⟨_,_,_,ResL.nil,((((((cT.front 4 rfl).front 4 rfl).front 3 rfl).front 3 rfl).front 4 rfl).takeN 5),?_⟩
 exact ⟨cL,cM,cN,cO,bh,aC,bj,rfl,rfl,cP,cQ,cR,(bM.mono bu),(bN.mono bu)⟩
 refine xn 0<|dF<|sk ?_
 obtain rfl:=si hm
 refine ⟨_,_,_,ResL.nil,((((((bH.front 4 rfl).front 4 rfl).front 3 rfl).front 3 rfl).front 4 rfl).takeN 5),?_⟩
 exact ⟨v4,v6,I,af,aQ,U,aS,rfl,rfl,(aF.mono ab.ag),(aH.mono ab.ag),(aL.mono ab.ag),bf,bg⟩
 refine sk ?_
 obtain rfl:=si hm
 refine ⟨_,_,_,ResL.nil,((((((ab.front 4 rfl).front 4 rfl).front 3 rfl).front 3 rfl).front 4 rfl).takeN 5),?_⟩
 exact ⟨v4,v6,I,af,aQ,U,aS,rfl,rfl,(aF.mono ab.ag),(aH.mono ab.ag),(aL.mono ab.ag),bf,bg⟩
 refine s0<|aK 0 ay ?_ ?_<;>intro dG ay
 refine xn 1<|dT<|sk ?_
 obtain rfl:=si ay
 exact ⟨_,a0.Rows,a0.Doc,a0.aE,a0.S,a0.aA,a1.To,a1,true,ak,ao,a7,rfl,aZ,a6,(by kernel_rfl),((((((ax.front 0 rfl).front 5 rfl).front 5 rfl).front 3 rfl).front 5 rfl).front 5 rfl)⟩
 refine xn 1<|dF<|g0<|aK 0 ay ?_ ?_<;>intro dH ay
 refine xn 1 ?_
 obtain rfl:=si ay
 exact ⟨_,a0.Rows,a0.Doc,a0.aE,a0.S,a0.aA,a1.To,a1,true,ak,ao,a7,rfl,aZ,a6,(by kernel_rfl),((((((ax.front 0 rfl).front 5 rfl).front 5 rfl).front 3 rfl).front 5 rfl).front 5 rfl)⟩
 refine xn 1 ?_
 obtain rfl:=si ay
 exact ⟨_,a0.Rows,a0.Doc,a0.aE,a0.S,a0.aA,a1.To,a1,false,ak,ao,a7,rfl,aZ,a6,(by kernel_rfl),((((((ax.front 0 rfl).front 5 rfl).front 5 rfl).front 3 rfl).front 5 rfl).front 5 rfl)⟩
def Dl:List aR:=[u 12 (mv 0),u 13 (mv 4),u 14 (.slice 23 (t 12) (some (t 13)) none none),u 15 (cf 63 #[(t 14)] #[23]),u 11 (mv 15),u 16 (.extract (t 11) 0),u 17 (.extract (t 11) 1),u 5 (sg 16),u 6 (sg 17)]
def DC:List aR:=[u 20 (mv 3),u 21 (mv 4),u 22 (.buildSlice 22 1 #[(0,(t 21))]),u 23 (cb .append #[(t 20),(t 22)] #[22,22]),u 3 (sg 23)]
def correctorref1_Bad_l0 (F:Nat) (a0:List UInt8):Nat→(List Int)→Int→Option (List Int)
 | 0,_,_=>none
 | n+1,I,j=>
  if j<(a0.length:Int) then
   if 0≤j∧j≤(a0.length:Int)∧(a0.length:Int)≤(a0.length:Int) then
    (jY F ((a0.take (a0.length:Int).toNat).drop j.toNat)).bind fun J=>
    ((if J.1<(0:Int) then
      if I.length+([j]:List Int).length≤17592186044416 then
       some (I++([j]:List Int))
      else none
     else
      some I):Option (List Int)).bind fun o=>match o with
     | U=>correctorref1_Bad_l0 F a0 n U (af (j+J.2))
   else none
  else
   some I
def m5 (F:Nat) (a0:List UInt8):Option (List Int):=
 ((correctorref1_Bad_l0 F a0 F [] 0):Option (List Int)).bind fun o=>match o with
  | j=>some j
theorem E2 (F:Nat) {h:AH} {Z:Zn} {a0:List UInt8} {v2} (hP:Pre Z h []) (aC:RS (α:=UInt8) Z v2 a0) {r:(List Int)} (hm:m5 F a0=some r):
  bS Tryz.prog 53 [v2] h Z [] fun v Z' A'=>∃ v4 aD,v4=v∧A'=[.gs v4 aD (aa Int)]∧RCs (α:=Int) Z' aD r:=by
 refine b3 Tryz.func53 hP ?_
 intro hs hS
 unfold m5 at hm
 replace hS:St hs [] Z (0,0) Z hs []:=hS
 refine sp 1<|sp 1<|sq<|sp 1 ?_
 obtain ⟨au,J,hm⟩:=ai hm
 refine aJ [3] (fun l h=>∃ av aw ae ak,aw=au∧RCs (α:=Int) av ak aw∧l=[(3,ae)]∧St hs [] Z (0,0) av h [.gs ae ak (aa Int)]) ?_ ?_
 rintro l aY ⟨av,aw,ae,ak,rfl,aG,rfl,aI⟩
 try dsimp only at hm
 refine sp 2<|rt<|⟨rfl,?_⟩
 obtain rfl:=si hm
 refine ⟨_,_,_,tk ae (ResL.nil),aI,?_⟩
 exact ⟨ae,ak,rfl,rfl,aG⟩
 refine bk 0 ?_
 have aK:=hS.dh (aa Int)
 refine lp [0,3,4] (fun n l h=>∃ an ab I U ah,correctorref1_Bad_l0 F a0 n ab I=some au∧RCs (α:=Int) an ah ab∧l=[(0,v2),(3,U),(4,V I)]∧St hs [] Z (0,0) an h [.gs U ah (aa Int)]) F ⟨_,[],0,(.slice none 0 0),[],J,(RCs.bq _),(by kernel_rfl),aK⟩ ?_
 rintro ax l aZ ⟨an,ab,I,U,ah,J,ay,rfl,aj⟩
 rcases ax with _ | ax
 cases (show none=some au from J)
 rw [correctorref1_Bad_l0] at J
 refine sq<|s0<|bC 2 v2 (RS.len (aC.mono aj.ag))<|aT 0 J ?_ ?_<;>intro a1 J
 refine xn 0<|dT<|sk<|bk 1<|sr Dl<|xq 2 [(13,V I),(12,v2),(0,v2),(3,U),(4,V I)] ?_
 obtain ⟨az,J⟩:=aH J
 refine j1 rfl trivial (iY (a:=I) (b:=(a0.length:Int)) (aC.mono aj.ag) rfl (by kernel_rfl:slTy _ _=some (aa UInt8)) ⟨_,rfl⟩ rfl az.1 az.2.1 az.2.2) ?_
 intro a2 aL
 obtain ⟨aA,aM,J⟩:=ai J
 refine cP 0 aj (pR F aj.inv aL aM) ?_
 rintro _ a3 aE rfl
 refine xn 5<|sq ?_
 obtain ⟨aN,ad,J⟩:=ai J
 refine dM [0,3,4,6] (fun l h=>∃ aB ao aq ar,ao=aN∧RCs (α:=Int) aB ar ao∧l=[(0,v2),(3,aq),(4,V I),(6,V aA.2)]∧St hs [] Z (0,0) aB h [.gs aq ar (aa Int)]) (by kernel_rfl) ?_ ?_
 rintro l a5 ⟨aB,ao,aq,ar,rfl,aO,rfl,aP⟩
 try dsimp only at J
 refine gp 4 ?_
 exact ⟨ax,a7 _,⟨_,ao,af (I+aA.2),aq,ar,J,aO,(by kernel_rfl),aP⟩⟩
 refine g0<|aT 1 ad ?_ ?_ (kd:= .i32)<;>intro a6 ad
 refine xn 0<|dT<|rg DC<|xq 2 [(21,V I),(20,U),(6,V aA.2),(0,v2),(3,U),(4,V I)] ?_
 have aQ:RCs (α:=Int) an [V I] ([I]:List Int):=RCs.cons (cs:=[V I]) rfl (RCs.bq _)
 refine dG rfl trivial (c6 (cells:=[V I]) (s:=1) (by kernel_rfl)) (by kernel_rfl) aE ?_
 intro a8 a9 aF
 obtain ⟨ba,ad⟩:=aH ad
 refine eZ rfl trivial (dE (ys:=([I]:List Int)) (bX:=8) aF (i:=1) rfl ay ((aF).eB (j:=0) rfl aQ) rfl rfl (by kernel_rfl) (by omega) (by omega)) ?_
 rintro aU aV bb ⟨aW,aX⟩
 refine xn 1 ?_
 obtain rfl:=si ad
 exact ⟨_,ab++([I]:List Int),aU,aV,rfl,aW,(by kernel_rfl),((aX.front 1 rfl).takeN 1)⟩
 refine xn 0<|dF<|sk ?_
 obtain rfl:=si ad
 exact ⟨_,ab,U,ah,rfl,ay,(by kernel_rfl),aE⟩
 refine xn 0<|dF<|xt 0<|aS ?_
 obtain rfl:=si J
 exact ⟨_,ab,U,ah,rfl,ay,(by kernel_rfl),aj⟩
def Ci:List aR:=[u 12 (mv 0),u 13 (mv 5),u 14 (.index 9 (t 12) (t 13)),u 15 (.binOp .neq 5 (t 14) (.const (.int .u8 39)) 5)]
def AV:List aR:=[u 16 (mv 4),u 17 (mv 0),u 18 (mv 5),u 19 (mv 5),u 20 (bc .add 3 19 1 3),u 21 (.slice 9 (t 17) (some (t 18)) (some (t 20)) none),u 22 (bo .add 9 16 21 9),u 4 (sg 22)]
def za:List aR:=[u 23 (mv 5),u 24 (bc .add 3 23 1 3),u 25 (mv 0),u 26 (cb .len #[(t 25)] #[9]),u 27 (bo .geq 3 24 26 3),u 28 (mv 27),gn 28 29 (mv 0),gn 28 30 (mv 5),gn 28 31 (bc .add 3 30 1 3),gn 28 32 (.index 9 (t 29) (t 31)),gn 28 33 (.binOp .neq 5 (t 32) (.const (.int .u8 39)) 5),u 34 (pt 28 33)]
def Bx:List aR:=[u 36 (mv 4),u 37 (.binOp .add 9 (t 36) (.const (.string {data:=#[39]})) 9),u 4 (sg 37)]
def correctorref7_single_l0 (F:Nat) (a0:ar):Nat→ar→Int→Option (Sum ar (ar×Bool))
 | 0,_,_=>none
 | n+1,I,j=>
  if j<(a0.b.length:Int) then
   if 0≤j then
    (a0.b[j.toNat]?).bind fun J=>
    if (J.toNat:Int)=(39:Int) then
     if (a0.b.length:Int)≤(af (j+1)) then
      some (.inr (I,true))
     else
      if 0≤(af (j+1)) then
       (a0.b[(af (j+1)).toNat]?).bind fun U=>
       if (U.toNat:Int)=(39:Int) then
        if I.b.length+([39]:List UInt8).length≤4611686018427387904 then
         correctorref7_single_l0 F a0 n (⟨I.b++[39]⟩:ar) (af ((af (j+1))+1))
        else none
       else
        some (.inr (I,true))
      else none
    else
     if 0≤j∧j≤(af (j+1))∧(af (j+1))≤(a0.b.length:Int) then
      if I.b.length+((a0.b.take (af (j+1)).toNat).drop j.toNat).length≤4611686018427387904 then
       correctorref7_single_l0 F a0 n (⟨I.b++((a0.b.take (af (j+1)).toNat).drop j.toNat)⟩:ar) (af (j+1))
      else none
     else none
   else none
  else
   some (.inl I)
def oO (F:Nat) (a0:ar):Option (ar×Bool):=
 ((correctorref7_single_l0 F a0 F (⟨[]⟩:ar) 1):Option (Sum ar (ar×Bool))).bind fun o=>match o with
  | .inl j=>some (j,false)
  | .inr y=>some y
theorem z7 (F:Nat) {h:AH} {Z:Zn} {a0:ar} (hI:Inv Z h) {r:ar×Bool} (hm:oO F a0=some r):
  bY Tryz.prog 76 [.string ⟨⟨a0.b⟩⟩] h Z (.tuple #[.string ⟨⟨r.1.b⟩⟩, .bool r.2]):=by
 refine b1 Tryz.func76 hI ?_
 intro hs hS
 unfold oO at hm
 refine sp 2<|sp 1<|sq<|sp 1 ?_
 obtain ⟨ad,j,hm⟩:=ai hm
 refine aJ [4] (fun l h=>∃ ag aa, .inl aa=ad∧l=[(4, .string ⟨⟨aa.b⟩⟩)]∧St hs [] Z (0,0) ag h []) ?_ ?_
 rintro l aw ⟨ag,aa,rfl,rfl,aj⟩
 try dsimp only at hm
 refine sp 3<|rt<|⟨rfl,?_⟩
 obtain rfl:=si hm
 refine ⟨_,_,_,tk (.string ⟨⟨aa.b⟩⟩) (tk (.bool false) (ResL.nil)),aj,?_⟩
 exact rfl
 refine bk 0<|lp [0,4,5] (fun n l h=>∃ ah J I,correctorref7_single_l0 F a0 n J I=some ad∧l=[(0, .string ⟨⟨a0.b⟩⟩),(4, .string ⟨⟨J.b⟩⟩),(5,V I)]∧St hs [] Z (0,0) ah h []) F ⟨_,(⟨[]⟩:ar),1,j,(by kernel_rfl),hS⟩ ?_
 rintro ab l ax ⟨ah,J,I,j,rfl,U⟩
 rcases ab with _ | ab
 cases (show none=some ad from j)
 rw [correctorref7_single_l0] at j
 refine sq<|s0<|aT 3 j ?_ ?_<;>intro ay j
 refine xn 0<|dT<|sk<|sq<|bk 1<|sq<|sr Ci<|xq 2 [(13,V I),(12, .string ⟨⟨a0.b⟩⟩),(0, .string ⟨⟨a0.b⟩⟩),(4, .string ⟨⟨J.b⟩⟩),(5,V I)] ?_
 obtain ⟨ak,j⟩:=aH j
 obtain ⟨az,an,j⟩:=ai j
 refine bW rfl trivial (jW (bs:=a0.b) (i:=I) rfl rfl (by kernel_rfl) ak an)<|dv 0 j ?_ ?_ (kd:= .u8)<;>intro aA j
 refine xn 0<|dF<|sk<|sq<|sr za<|cS 4 j ?_ ?_<;>intro aB j
 refine xn 7<|dT<|sp 3<|rt<|bj<|bj<|⟨rfl,?_⟩
 obtain rfl:=si j
 obtain rfl:=si hm
 refine ⟨_,_,_,tk (.string ⟨⟨J.b⟩⟩) (tk (.bool true) (ResL.nil)),U,?_⟩
 exact rfl
 refine xq 4 [(31,V (af (I+1))),(29, .string ⟨⟨a0.b⟩⟩),(28, .bool false),(0, .string ⟨⟨a0.b⟩⟩),(4, .string ⟨⟨J.b⟩⟩),(5,V I)] ?_
 obtain ⟨ao,j⟩:=aH j
 obtain ⟨aC,aq,j⟩:=ai j
 refine bW rfl rfl (jW (bs:=a0.b) (i:=af (I+1)) rfl rfl (by kernel_rfl) ao aq)<|dv 0 j ?_ ?_ (kd:= .u8)<;>intro aD j
 refine xn 1<|dF<|sk<|sr Bx<|xq 1 [(36, .string ⟨⟨J.b⟩⟩),(0, .string ⟨⟨a0.b⟩⟩),(4, .string ⟨⟨J.b⟩⟩),(5,V I)] ?_
 obtain ⟨au,j⟩:=aH j
 refine bW rfl trivial (kT rfl rfl (by simpa using au))<|xn 1<|gp 3<|gp 3 ?_
 exact ⟨ab,a7 _,⟨_,(⟨J.b++[39]⟩:ar),af ((af (I+1))+1),j,(by kernel_rfl),U⟩⟩
 refine xn 1<|dT<|sp 3<|rt<|bj<|bj<|⟨rfl,?_⟩
 obtain rfl:=si j
 obtain rfl:=si hm
 refine ⟨_,_,_,tk (.string ⟨⟨J.b⟩⟩) (tk (.bool true) (ResL.nil)),U,?_⟩
 exact rfl
 refine xn 0<|dT<|sr AV<|xq 5 [(20,V (af (I+1))),(18,V I),(17, .string ⟨⟨a0.b⟩⟩),(16, .string ⟨⟨J.b⟩⟩),(0, .string ⟨⟨a0.b⟩⟩),(4, .string ⟨⟨J.b⟩⟩),(5,V I)] ?_
 obtain ⟨ae,j⟩:=aH j
 refine bW rfl trivial (n6 (bs:=a0.b) (a:=I) (b:=af (I+1)) rfl (by kernel_rfl) ⟨_,rfl⟩ ⟨_,rfl⟩ ae.1 ae.2.1 ae.2.2) ?_
 obtain ⟨av,j⟩:=aH j
 refine bW rfl trivial (kT rfl rfl (by simpa using av))<|xn 1<|xt 1<|aS<|gp 3 ?_
 exact ⟨ab,a7 _,⟨_,(⟨J.b++((a0.b.take (af (I+1)).toNat).drop I.toNat)⟩:ar),af (I+1),j,(by kernel_rfl),U⟩⟩
 refine xn 0<|dF<|xt 0<|aS ?_
 obtain rfl:=si j
 exact ⟨_,J,rfl,(by kernel_rfl),U⟩
def Ck:List aR:=[u 20 (mv 0),u 21 (.buildSlice 23 1 #[(0,(t 20))]),u 22 (.convert 23 9 (t 21)),u 2 (sg 22),u 3 (.assign (.const (.bool true)))]
def oq (F:Nat) (a0:Int):Option (ar×Bool):=
 if a0=(48:Int) then
  some ((⟨[0]⟩:ar),true)
 else
  if a0=(116:Int) then
   some ((⟨[9]⟩:ar),true)
  else
   if a0=(110:Int) then
    some ((⟨[10]⟩:ar),true)
   else
    if a0=(114:Int) then
     some ((⟨[13]⟩:ar),true)
    else
     if a0=(101:Int) then
      some ((⟨[27]⟩:ar),true)
     else
      ((if a0=(34:Int) then
        some true
       else
        if a0=(47:Int) then
         some true
        else
         if a0=(92:Int) then
          some true
         else
          if a0=(32:Int) then
           some true
          else
           some false):Option Bool).bind fun o=>match o with
       | j=>if j=true then
        if (0≤a0∧a0<256) then
         some ((⟨([UInt8.ofNat a0.toNat]:List UInt8)⟩:ar),true)
        else none
       else
        some ((⟨[]⟩:ar),false)
theorem CI (F:Nat) {h:AH} {Z:Zn} {a0:Int} (hI:Inv Z h) {r:ar×Bool} (hm:oq F a0=some r):
  bY Tryz.prog 99 [.int .u8 a0] h Z (.tuple #[.string ⟨⟨r.1.b⟩⟩, .bool r.2]):=by
 refine b1 Tryz.func99 hI ?_
 intro hs hS
 unfold oq at hm
 refine sp 2<|sq<|sp 1<|bk 0<|s0<|aK 0 hm ?_ ?_ (kd:= .u8)<;>intro ag hm
 refine xn 1<|dT<|sp 2<|rt<|bj<|⟨rfl,?_⟩
 obtain rfl:=si hm
 refine ⟨_,_,_,tk (.string ⟨⟨[0]⟩⟩) (tk (.bool true) (ResL.nil)),hS,?_⟩
 exact rfl
 refine xn 1<|dF<|s0<|aK 0 hm ?_ ?_ (kd:= .u8)<;>intro ah hm
 refine xn 1<|dT<|sp 2<|rt<|bj<|⟨rfl,?_⟩
 obtain rfl:=si hm
 refine ⟨_,_,_,tk (.string ⟨⟨[9]⟩⟩) (tk (.bool true) (ResL.nil)),hS,?_⟩
 exact rfl
 refine xn 1<|dF<|s0<|aK 0 hm ?_ ?_ (kd:= .u8)<;>intro aj hm
 refine xn 1<|dT<|sp 2<|rt<|bj<|⟨rfl,?_⟩
 obtain rfl:=si hm
 refine ⟨_,_,_,tk (.string ⟨⟨[10]⟩⟩) (tk (.bool true) (ResL.nil)),hS,?_⟩
 exact rfl
 refine xn 1<|dF<|s0<|aK 0 hm ?_ ?_ (kd:= .u8)<;>intro ak hm
 refine xn 1<|dT<|sp 2<|rt<|bj<|⟨rfl,?_⟩
 obtain rfl:=si hm
 refine ⟨_,_,_,tk (.string ⟨⟨[13]⟩⟩) (tk (.bool true) (ResL.nil)),hS,?_⟩
 exact rfl
 refine xn 1<|dF<|s0<|aK 0 hm ?_ ?_ (kd:= .u8)<;>intro an hm
 refine xn 1<|dT<|sp 2<|rt<|bj<|⟨rfl,?_⟩
 obtain rfl:=si hm
 refine ⟨_,_,_,tk (.string ⟨⟨[27]⟩⟩) (tk (.bool true) (ResL.nil)),hS,?_⟩
 exact rfl
 refine xn 1<|dF<|sq ?_
 obtain ⟨ad,I,hm⟩:=ai hm
 refine aJ [0,15] (fun l h=>∃ J U,U=ad∧l=[(0, .int .u8 a0),(15, .bool U)]∧St hs [] Z (0,0) J h []) ?_ ?_
 rintro l ao ⟨J,U,rfl,rfl,aa⟩
 try dsimp only at hm
 refine db hm ?_ ?_<;>intro aq hm
 refine sr Ck<|xq 1 [(20, .int .u8 a0)] ?_
 obtain ⟨ae,hm⟩:=aH hm
 have af:RCs (α:=UInt8) J [.int .u8 a0] ([UInt8.ofNat a0.toNat]:List UInt8):=RCs.cons (cs:=[.int .u8 a0]) (g6 ae) (RCs.bq _)
 refine dG rfl trivial (c6 (cells:=[.int .u8 a0]) (s:=1) (by kernel_rfl)) (by kernel_rfl) aa ?_
 intro au av ab
 refine bW rfl trivial (wm ab (j:=0) rfl af rfl (by kernel_rfl))<|xn 2<|rt<|bj<|⟨rfl,?_⟩
 obtain rfl:=si hm
 refine ⟨_,_,_,tk (.string ⟨⟨([UInt8.ofNat a0.toNat]:List UInt8)⟩⟩) (tk (.bool true) (ResL.nil)),ab,?_⟩
 exact rfl
 refine sk<|sp 2<|rt<|⟨rfl,?_⟩
 obtain rfl:=si hm
 refine ⟨_,_,_,tk (.string ⟨⟨[]⟩⟩) (tk (.bool false) (ResL.nil)),aa,?_⟩
 exact rfl
 refine s0<|aK 0 I ?_ ?_ (kd:= .u8)<;>intro aw I
 refine xn 1<|dT<|sk ?_
 obtain rfl:=si I
 exact ⟨_,true,rfl,(by kernel_rfl),hS⟩
 refine xn 1<|dF<|s0<|aK 0 I ?_ ?_ (kd:= .u8)<;>intro ax I
 refine xn 1<|dT<|sk ?_
 obtain rfl:=si I
 exact ⟨_,true,rfl,(by kernel_rfl),hS⟩
 refine xn 1<|dF<|s0<|aK 0 I ?_ ?_ (kd:= .u8)<;>intro ay I
 refine xn 1<|dT<|sk ?_
 obtain rfl:=si I
 exact ⟨_,true,rfl,(by kernel_rfl),hS⟩
 refine xn 1<|dF<|g0<|aK 0 I ?_ ?_ (kd:= .u8)<;>intro az I
 refine xn 1 ?_
 obtain rfl:=si I
 exact ⟨_,true,rfl,(by kernel_rfl),hS⟩
 refine xn 1 ?_
 obtain rfl:=si I
 exact ⟨_,false,rfl,(by kernel_rfl),hS⟩
def o9 (F:Nat) (a0:Int):Option Int:=
 ((if (48:Int)≤a0 then
   if a0≤(57:Int) then
    some true
   else
    some false
  else
   some false):Option Bool).bind fun o=>match o with
  | j=>((if j=true then
    some (.inr (af (w8 (a0 - 48))))
   else
    ((if (97:Int)≤a0 then
      if a0≤(102:Int) then
       some true
      else
       some false
     else
      some false):Option Bool).bind fun o=>match o with
     | I=>if I=true then
      some (.inr (af ((af (w8 (a0 - 97)))+10)))
     else
      if (65:Int)≤a0 then
       if a0≤(70:Int) then
        some (.inr (af ((af (w8 (a0 - 65)))+10)))
       else
        some (.inl ())
      else
       some (.inl ())):Option (Sum Unit Int)).bind fun o=>match o with
   | .inl ()=>some (-1)
   | .inr y=>some y
theorem Ff (F:Nat) {h:AH} {Z:Zn} {a0:Int} (hI:Inv Z h) {r:Int} (hm:o9 F a0=some r):
  bY Tryz.prog 100 [.int .u8 a0] h Z (V r):=by
 refine b1 Tryz.func100 hI ?_
 intro hs hS
 unfold o9 at hm
 refine sp 1<|sq<|bk 0<|sq ?_
 obtain ⟨aj,I,hm⟩:=ai hm
 refine aJ [0,3] (fun l h=>∃ ae ab,ab=aj∧l=[(0, .int .u8 a0),(3, .bool ab)]∧St hs [] Z (0,0) ae h []) ?_ ?_
 rintro l aq ⟨ae,ab,rfl,rfl,U⟩
 try dsimp only at hm
 obtain ⟨ak,j,hm⟩:=ai hm
 refine aJ [] (fun l h=>∃ ag, .inl ()=ak∧l=[]∧St hs [] Z (0,0) ag h []) ?_ ?_
 rintro l ar ⟨ag,rfl,rfl,an⟩
 try dsimp only at hm
 refine sp 1<|rt<|⟨rfl,?_⟩
 obtain rfl:=si hm
 refine ⟨_,_,_,tk (V (-1)) (ResL.nil),an,?_⟩
 exact rfl
 refine db j ?_ ?_<;>intro au j
 refine s0<|eR 2 (V (af (w8 (a0 - 48))))<|xn 1<|rt<|bj<|⟨rfl,?_⟩
 obtain rfl:=si j
 obtain rfl:=si hm
 refine ⟨_,_,_,tk (V (af (w8 (a0 - 48)))) (ResL.nil),U,?_⟩
 exact rfl
 refine sq ?_
 obtain ⟨ao,J,j⟩:=ai j
 refine aJ [0,13] (fun l h=>∃ ah ad,ad=ao∧l=[(0, .int .u8 a0),(13, .bool ad)]∧St hs [] Z (0,0) ah h []) ?_ ?_
 rintro l av ⟨ah,ad,rfl,rfl,aa⟩
 try dsimp only at j
 refine db j ?_ ?_<;>intro aw j
 refine s0<|eR 2 (V (af (w8 (a0 - 97))))<|xn 2<|rt<|bj<|⟨rfl,?_⟩
 obtain rfl:=si j
 obtain rfl:=si hm
 refine ⟨_,_,_,tk (V (af ((af (w8 (a0 - 97)))+10))) (ResL.nil),aa,?_⟩
 exact rfl
 refine s0<|cS 1 j ?_ ?_ (kd:= .u8)<;>intro ax j
 refine e4 2 j ?_ ?_ (kd:= .u8)<;>intro ay j
 refine xn 2<|dT<|s0<|eR 2 (V (af (w8 (a0 - 65))))<|xn 2<|rt<|bj<|⟨rfl,?_⟩
 obtain rfl:=si j
 obtain rfl:=si hm
 refine ⟨_,_,_,tk (V (af ((af (w8 (a0 - 65)))+10))) (ResL.nil),aa,?_⟩
 exact rfl
 refine xn 2<|dF<|sk ?_
 obtain rfl:=si j
 exact ⟨_,rfl,(by kernel_rfl),aa⟩
 refine xn 5<|dF<|sk ?_
 obtain rfl:=si j
 exact ⟨_,rfl,(by kernel_rfl),aa⟩
 refine g0<|cS 1 J ?_ ?_ (kd:= .u8)<;>intro az J
 refine e4 2 J ?_ ?_ (kd:= .u8)<;>intro aA J
 refine xn 2 ?_
 obtain rfl:=si J
 exact ⟨_,true,rfl,(by kernel_rfl),U⟩
 refine xn 2 ?_
 obtain rfl:=si J
 exact ⟨_,false,rfl,(by kernel_rfl),U⟩
 refine xn 5 ?_
 obtain rfl:=si J
 exact ⟨_,false,rfl,(by kernel_rfl),U⟩
 refine g0<|cS 1 I ?_ ?_ (kd:= .u8)<;>intro aB I
 refine e4 2 I ?_ ?_ (kd:= .u8)<;>intro aC I
 refine xn 2 ?_
 obtain rfl:=si I
 exact ⟨_,true,rfl,(by kernel_rfl),hS⟩
 refine xn 2 ?_
 obtain rfl:=si I
 exact ⟨_,false,rfl,(by kernel_rfl),hS⟩
 refine xn 5 ?_
 obtain rfl:=si I
 exact ⟨_,false,rfl,(by kernel_rfl),hS⟩
def DK:List aR:=[u 6 (mv 0),u 7 (.convert 21 5 (t 6)),u 8 (.buildSlice 23 1 #[(0,(t 7))]),u 2 (sg 8)]
def C6:List aR:=[u 12 (mv 0),u 13 (.binOp .shr 21 (t 12) (.const (.int .u64 6)) 132),u 14 (.binOp .or 21 (.const (.int .i32 192)) (t 13) 21),u 15 (.convert 21 5 (t 14)),u 16 (mv 0),u 17 (.binOp .and 21 (t 16) (.const (.int .i32 63)) 21),u 18 (.binOp .or 21 (.const (.int .i32 128)) (t 17) 21),u 19 (.convert 21 5 (t 18)),u 20 (.buildSlice 23 2 #[(0,(t 15)),(1,(t 19))]),u 2 (sg 20)]
def yN:List aR:=[u 24 (mv 0),u 25 (.binOp .shr 21 (t 24) (.const (.int .u64 12)) 132),u 26 (.binOp .or 21 (.const (.int .i32 224)) (t 25) 21),u 27 (.convert 21 5 (t 26)),u 28 (mv 0),u 29 (.binOp .shr 21 (t 28) (.const (.int .u64 6)) 132),u 30 (.binOp .and 21 (t 29) (.const (.int .i32 63)) 21),u 31 (.binOp .or 21 (.const (.int .i32 128)) (t 30) 21),u 32 (.convert 21 5 (t 31)),u 33 (mv 0),u 34 (.binOp .and 21 (t 33) (.const (.int .i32 63)) 21),u 35 (.binOp .or 21 (.const (.int .i32 128)) (t 34) 21),u 36 (.convert 21 5 (t 35)),u 37 (.buildSlice 23 3 #[(0,(t 27)),(1,(t 32)),(2,(t 36))]),u 2 (sg 37)]
def zF:List aR:=[u 38 (mv 0),u 39 (.binOp .shr 21 (t 38) (.const (.int .u64 18)) 132),u 40 (.binOp .or 21 (.const (.int .i32 240)) (t 39) 21),u 41 (.convert 21 5 (t 40)),u 42 (mv 0),u 43 (.binOp .shr 21 (t 42) (.const (.int .u64 12)) 132),u 44 (.binOp .and 21 (t 43) (.const (.int .i32 63)) 21),u 45 (.binOp .or 21 (.const (.int .i32 128)) (t 44) 21),u 46 (.convert 21 5 (t 45)),u 47 (mv 0),u 48 (.binOp .shr 21 (t 47) (.const (.int .u64 6)) 132),u 49 (.binOp .and 21 (t 48) (.const (.int .i32 63)) 21),u 50 (.binOp .or 21 (.const (.int .i32 128)) (t 49) 21),u 51 (.convert 21 5 (t 50)),u 52 (mv 0),u 53 (.binOp .and 21 (t 52) (.const (.int .i32 63)) 21),u 54 (.binOp .or 21 (.const (.int .i32 128)) (t 53) 21),u 55 (.convert 21 5 (t 54)),u 56 (.buildSlice 23 4 #[(0,(t 41)),(1,(t 46)),(2,(t 51)),(3,(t 55))]),u 2 (sg 56)]
def nX (F:Nat) (a0:Int):Option (List UInt8):=
 if a0<(128:Int) then
  if (0≤(IntKind.wrap .u8 a0)∧(IntKind.wrap .u8 a0)<256) then
   some ([UInt8.ofNat (IntKind.wrap .u8 a0).toNat]:List UInt8)
  else none
 else
  if a0<(2048:Int) then
   if (0≤(IntKind.wrap .u8 (bf .i32 192 (bT .i32 a0 6)))∧(IntKind.wrap .u8 (bf .i32 192 (bT .i32 a0 6)))<256)∧(0≤(IntKind.wrap .u8 (bf .i32 128 (bJ .i32 a0 63)))∧(IntKind.wrap .u8 (bf .i32 128 (bJ .i32 a0 63)))<256) then
    some ([UInt8.ofNat (IntKind.wrap .u8 (bf .i32 192 (bT .i32 a0 6))).toNat,UInt8.ofNat (IntKind.wrap .u8 (bf .i32 128 (bJ .i32 a0 63))).toNat]:List UInt8)
   else none
  else
   if a0<(65536:Int) then
    if (0≤(IntKind.wrap .u8 (bf .i32 224 (bT .i32 a0 12)))∧(IntKind.wrap .u8 (bf .i32 224 (bT .i32 a0 12)))<256)∧(0≤(IntKind.wrap .u8 (bf .i32 128 (bJ .i32 (bT .i32 a0 6) 63)))∧(IntKind.wrap .u8 (bf .i32 128 (bJ .i32 (bT .i32 a0 6) 63)))<256)∧(0≤(IntKind.wrap .u8 (bf .i32 128 (bJ .i32 a0 63)))∧(IntKind.wrap .u8 (bf .i32 128 (bJ .i32 a0 63)))<256) then
     some ([UInt8.ofNat (IntKind.wrap .u8 (bf .i32 224 (bT .i32 a0 12))).toNat,UInt8.ofNat (IntKind.wrap .u8 (bf .i32 128 (bJ .i32 (bT .i32 a0 6) 63))).toNat,UInt8.ofNat (IntKind.wrap .u8 (bf .i32 128 (bJ .i32 a0 63))).toNat]:List UInt8)
    else none
   else
    if (0≤(IntKind.wrap .u8 (bf .i32 240 (bT .i32 a0 18)))∧(IntKind.wrap .u8 (bf .i32 240 (bT .i32 a0 18)))<256)∧(0≤(IntKind.wrap .u8 (bf .i32 128 (bJ .i32 (bT .i32 a0 12) 63)))∧(IntKind.wrap .u8 (bf .i32 128 (bJ .i32 (bT .i32 a0 12) 63)))<256)∧(0≤(IntKind.wrap .u8 (bf .i32 128 (bJ .i32 (bT .i32 a0 6) 63)))∧(IntKind.wrap .u8 (bf .i32 128 (bJ .i32 (bT .i32 a0 6) 63)))<256)∧(0≤(IntKind.wrap .u8 (bf .i32 128 (bJ .i32 a0 63)))∧(IntKind.wrap .u8 (bf .i32 128 (bJ .i32 a0 63)))<256) then
     some ([UInt8.ofNat (IntKind.wrap .u8 (bf .i32 240 (bT .i32 a0 18))).toNat,UInt8.ofNat (IntKind.wrap .u8 (bf .i32 128 (bJ .i32 (bT .i32 a0 12) 63))).toNat,UInt8.ofNat (IntKind.wrap .u8 (bf .i32 128 (bJ .i32 (bT .i32 a0 6) 63))).toNat,UInt8.ofNat (IntKind.wrap .u8 (bf .i32 128 (bJ .i32 a0 63))).toNat]:List UInt8)
    else none
theorem Ft (F:Nat) {h:AH} {Z:Zn} {a0:Int} (hP:Pre Z h []) {r:(List UInt8)} (hm:nX F a0=some r):
  bS Tryz.prog 101 [.int .i32 a0] h Z [] fun v Z' A'=>∃ v2 J,v2=v∧A'=[.gs v2 J (aa UInt8)]∧RCs (α:=UInt8) Z' J r:=by
 refine b3 Tryz.func101 hP ?_
 intro hs hS
 unfold nX at hm
 replace hS:St hs [] Z (0,0) Z hs []:=hS
 refine sp 1<|sq<|bk 0<|s0<|aT 1 hm ?_ ?_ (kd:= .i32)<;>intro au hm
 refine xn 1<|dT<|sr DK<|xq 1 [(6, .int .i32 a0)]<|eR 0 (.int .u8 (IntKind.wrap .u8 a0)) ?_
 obtain ⟨ag,hm⟩:=aH hm
 have ah:RCs (α:=UInt8) Z [.int .u8 (IntKind.wrap .u8 a0)] ([UInt8.ofNat (IntKind.wrap .u8 a0).toNat]:List UInt8):=RCs.cons (cs:=[.int .u8 (IntKind.wrap .u8 a0)]) (g6 ag) (RCs.bq _)
 refine dG rfl trivial (c6 (cells:=[.int .u8 (IntKind.wrap .u8 a0)]) (s:=1) (by kernel_rfl)) (by kernel_rfl) hS ?_
 intro U av ai
 refine xn 1<|rt<|bj<|⟨rfl,?_⟩
 obtain rfl:=si hm
 refine ⟨_,_,_,tk U (ResL.nil),ai,?_⟩
 exact ⟨U,[.int .u8 (IntKind.wrap .u8 a0)],rfl,rfl,ah⟩
 refine xn 1<|dF<|s0<|aT 1 hm ?_ ?_ (kd:= .i32)<;>intro aw hm
 refine xn 1<|dT<|sr C6<|eR 3 (.int .u8 (IntKind.wrap .u8 (bf .i32 192 (bT .i32 a0 6))))<|xq 3 [(18, .int .i32 (bf .i32 128 (bJ .i32 a0 63))),(15, .int .u8 (IntKind.wrap .u8 (bf .i32 192 (bT .i32 a0 6))))]<|eR 0 (.int .u8 (IntKind.wrap .u8 (bf .i32 128 (bJ .i32 a0 63)))) ?_
 obtain ⟨ab,hm⟩:=aH hm
 have aj:RCs (α:=UInt8) Z [.int .u8 (IntKind.wrap .u8 (bf .i32 192 (bT .i32 a0 6))), .int .u8 (IntKind.wrap .u8 (bf .i32 128 (bJ .i32 a0 63)))] ([UInt8.ofNat (IntKind.wrap .u8 (bf .i32 192 (bT .i32 a0 6))).toNat,UInt8.ofNat (IntKind.wrap .u8 (bf .i32 128 (bJ .i32 a0 63))).toNat]:List UInt8):=RCs.cons (cs:=[.int .u8 (IntKind.wrap .u8 (bf .i32 192 (bT .i32 a0 6)))]) (g6 ab.1) (RCs.cons (cs:=[.int .u8 (IntKind.wrap .u8 (bf .i32 128 (bJ .i32 a0 63)))]) (g6 ab.2) (RCs.bq _))
 refine dG rfl trivial (c6 (cells:=[.int .u8 (IntKind.wrap .u8 (bf .i32 192 (bT .i32 a0 6))), .int .u8 (IntKind.wrap .u8 (bf .i32 128 (bJ .i32 a0 63)))]) (s:=1) (by kernel_rfl)) (by kernel_rfl) hS ?_
 intro ad ax ak
 refine xn 1<|rt<|bj<|⟨rfl,?_⟩
 obtain rfl:=si hm
 refine ⟨_,_,_,tk ad (ResL.nil),ak,?_⟩
 exact ⟨ad,[.int .u8 (IntKind.wrap .u8 (bf .i32 192 (bT .i32 a0 6))), .int .u8 (IntKind.wrap .u8 (bf .i32 128 (bJ .i32 a0 63)))],rfl,rfl,aj⟩
 refine xn 1<|dF<|s0<|aT 1 hm ?_ ?_ (kd:= .i32)<;>intro ay hm
 refine xn 1<|dT<|sr yN<|eR 3 (.int .u8 (IntKind.wrap .u8 (bf .i32 224 (bT .i32 a0 12))))<|eR 4 (.int .u8 (IntKind.wrap .u8 (bf .i32 128 (bJ .i32 (bT .i32 a0 6) 63))))<|xq 3 [(35, .int .i32 (bf .i32 128 (bJ .i32 a0 63))),(32, .int .u8 (IntKind.wrap .u8 (bf .i32 128 (bJ .i32 (bT .i32 a0 6) 63)))),(27, .int .u8 (IntKind.wrap .u8 (bf .i32 224 (bT .i32 a0 12))))] ?_
 refine eR 0 (.int .u8 (IntKind.wrap .u8 (bf .i32 128 (bJ .i32 a0 63)))) ?_
 obtain ⟨I,hm⟩:=aH hm
 have an:RCs (α:=UInt8) Z [.int .u8 (IntKind.wrap .u8 (bf .i32 224 (bT .i32 a0 12))), .int .u8 (IntKind.wrap .u8 (bf .i32 128 (bJ .i32 (bT .i32 a0 6) 63))), .int .u8 (IntKind.wrap .u8 (bf .i32 128 (bJ .i32 a0 63)))] ([UInt8.ofNat (IntKind.wrap .u8 (bf .i32 224 (bT .i32 a0 12))).toNat,UInt8.ofNat (IntKind.wrap .u8 (bf .i32 128 (bJ .i32 (bT .i32 a0 6) 63))).toNat,UInt8.ofNat (IntKind.wrap .u8 (bf .i32 128 (bJ .i32 a0 63))).toNat]:List UInt8):=RCs.cons (cs:=[.int .u8 (IntKind.wrap .u8 (bf .i32 224 (bT .i32 a0 12)))]) (g6 I.1) (RCs.cons (cs:=[.int .u8 (IntKind.wrap .u8 (bf .i32 128 (bJ .i32 (bT .i32 a0 6) 63)))]) (g6 I.2.1) (RCs.cons (cs:=[.int .u8 (IntKind.wrap .u8 (bf .i32 128 (bJ .i32 a0 63)))]) (g6 I.2.2) (RCs.bq _)))
 refine dG rfl trivial (c6 (cells:=[.int .u8 (IntKind.wrap .u8 (bf .i32 224 (bT .i32 a0 12))), .int .u8 (IntKind.wrap .u8 (bf .i32 128 (bJ .i32 (bT .i32 a0 6) 63))), .int .u8 (IntKind.wrap .u8 (bf .i32 128 (bJ .i32 a0 63)))]) (s:=1) (by kernel_rfl)) (by kernel_rfl) hS ?_
 intro ae az ao
 refine xn 1<|rt<|bj<|⟨rfl,?_⟩
 obtain rfl:=si hm
 refine ⟨_,_,_,tk ae (ResL.nil),ao,?_⟩
 exact ⟨ae,[.int .u8 (IntKind.wrap .u8 (bf .i32 224 (bT .i32 a0 12))), .int .u8 (IntKind.wrap .u8 (bf .i32 128 (bJ .i32 (bT .i32 a0 6) 63))), .int .u8 (IntKind.wrap .u8 (bf .i32 128 (bJ .i32 a0 63)))],rfl,rfl,an⟩
 refine xn 1<|dF<|sk<|sr zF<|eR 3 (.int .u8 (IntKind.wrap .u8 (bf .i32 240 (bT .i32 a0 18))))<|eR 4 (.int .u8 (IntKind.wrap .u8 (bf .i32 128 (bJ .i32 (bT .i32 a0 12) 63))))<|eR 4 (.int .u8 (IntKind.wrap .u8 (bf .i32 128 (bJ .i32 (bT .i32 a0 6) 63))))<|xq 3 [(54, .int .i32 (bf .i32 128 (bJ .i32 a0 63))),(51, .int .u8 (IntKind.wrap .u8 (bf .i32 128 (bJ .i32 (bT .i32 a0 6) 63)))),(46, .int .u8 (IntKind.wrap .u8 (bf .i32 128 (bJ .i32 (bT .i32 a0 12) 63)))),(41, .int .u8 (IntKind.wrap .u8 (bf .i32 240 (bT .i32 a0 18))))] ?_
 refine eR 0 (.int .u8 (IntKind.wrap .u8 (bf .i32 128 (bJ .i32 a0 63)))) ?_
 obtain ⟨j,hm⟩:=aH hm
 have aq:RCs (α:=UInt8) Z [.int .u8 (IntKind.wrap .u8 (bf .i32 240 (bT .i32 a0 18))), .int .u8 (IntKind.wrap .u8 (bf .i32 128 (bJ .i32 (bT .i32 a0 12) 63))), .int .u8 (IntKind.wrap .u8 (bf .i32 128 (bJ .i32 (bT .i32 a0 6) 63))), .int .u8 (IntKind.wrap .u8 (bf .i32 128 (bJ .i32 a0 63)))] ([UInt8.ofNat (IntKind.wrap .u8 (bf .i32 240 (bT .i32 a0 18))).toNat,UInt8.ofNat (IntKind.wrap .u8 (bf .i32 128 (bJ .i32 (bT .i32 a0 12) 63))).toNat,UInt8.ofNat (IntKind.wrap .u8 (bf .i32 128 (bJ .i32 (bT .i32 a0 6) 63))).toNat,UInt8.ofNat (IntKind.wrap .u8 (bf .i32 128 (bJ .i32 a0 63))).toNat]:List UInt8):=RCs.cons (cs:=[.int .u8 (IntKind.wrap .u8 (bf .i32 240 (bT .i32 a0 18)))]) (g6 j.1) (RCs.cons (cs:=[.int .u8 (IntKind.wrap .u8 (bf .i32 128 (bJ .i32 (bT .i32 a0 12) 63)))]) (g6 j.2.1) (RCs.cons (cs:=[.int .u8 (IntKind.wrap .u8 (bf .i32 128 (bJ .i32 (bT .i32 a0 6) 63)))]) (g6 j.2.2.1) (RCs.cons (cs:=[.int .u8 (IntKind.wrap .u8 (bf .i32 128 (bJ .i32 a0 63)))]) (g6 j.2.2.2) (RCs.bq _))))
 refine dG rfl trivial (c6 (cells:=[.int .u8 (IntKind.wrap .u8 (bf .i32 240 (bT .i32 a0 18))), .int .u8 (IntKind.wrap .u8 (bf .i32 128 (bJ .i32 (bT .i32 a0 12) 63))), .int .u8 (IntKind.wrap .u8 (bf .i32 128 (bJ .i32 (bT .i32 a0 6) 63))), .int .u8 (IntKind.wrap .u8 (bf .i32 128 (bJ .i32 a0 63)))]) (s:=1) (by kernel_rfl)) (by kernel_rfl) hS ?_
 intro af aA ar
 refine xn 1<|rt<|⟨rfl,?_⟩
 obtain rfl:=si hm
 refine ⟨_,_,_,tk af (ResL.nil),ar,?_⟩
 exact ⟨af,[.int .u8 (IntKind.wrap .u8 (bf .i32 240 (bT .i32 a0 18))), .int .u8 (IntKind.wrap .u8 (bf .i32 128 (bJ .i32 (bT .i32 a0 12) 63))), .int .u8 (IntKind.wrap .u8 (bf .i32 128 (bJ .i32 (bT .i32 a0 6) 63))), .int .u8 (IntKind.wrap .u8 (bf .i32 128 (bJ .i32 a0 63)))],rfl,rfl,aq⟩
def yQ:List aR:=[u 10 (mv 0),u 11 (cb .len #[(t 10)] #[9]),u 12 (bc .lss 3 11 2 3),u 13 (mv 12),gn 13 14 (mv 0),gn 13 15 (.index 9 (t 14) (ci 0)),gn 13 16 (.binOp .neq 5 (t 15) (.const (.int .u8 92)) 5),u 17 (pt 13 16)]
def A1:List aR:=[u 19 (mv 0),u 20 (.index 9 (t 19) (ci 1)),u 21 (cf 99 #[(t 20)] #[5]),u 18 (mv 21),u 22 (.extract (t 18) 0),u 23 (.extract (t 18) 1),u 4 (sg 22),u 5 (sg 23)]
def Dy:List aR:=[u 26 (mv 0),u 27 (.index 9 (t 26) (ci 1))]
def Gv:List aR:=[u 48 (mv 0),u 49 (mv 8),u 50 (.binOp .add 3 (ci 2) (t 49) 3),u 51 (.index 9 (t 48) (t 50)),u 52 (cf 100 #[(t 51)] #[5]),u 9 (sg 52)]
def A4:List aR:=[u 69 (mv 7),u 70 (.convert 3 21 (t 69)),u 71 (cf 101 #[(t 70)] #[21]),u 72 (.convert 23 9 (t 71)),u 73 (mv 6),u 74 (.binOp .add 3 (ci 2) (t 73) 3),u 2 (sg 72),u 3 (sg 74)]
def correctorref5_Escape_l0 (F:Nat) (a0:ar):Nat→Int→Int→Int→Option (Sum (Int×Int) (ar×Int))
 | 0,_,_,_=>none
 | n+1,I,J,j=>
  if j<I then
   if 0≤(af (2+j)) then
    (a0.b[(af (2+j)).toNat]?).bind fun aa=>
    (o9 F (aa.toNat:Int)).bind fun U=>
    if U<(0:Int) then
     some (.inr ((⟨[]⟩:ar),0))
    else
     correctorref5_Escape_l0 F a0 n I (af ((af (16 * J))+U)) (af (j+1))
   else none
  else
   some (.inl (I,J))
def correctorref5_Escape (F:Nat) (a0:ar):Option (ar×Int):=
 if (a0.b.length:Int)<(2:Int) then
  some ((⟨[]⟩:ar),0)
 else
  if 0≤(0:Int) then
   (a0.b[(0:Int).toNat]?).bind fun aa=>
   if (aa.toNat:Int)=(92:Int) then
    if 0≤(1:Int) then
     (a0.b[(1:Int).toNat]?).bind fun ab=>
     (oq F (ab.toNat:Int)).bind fun U=>
     if U.2=true then
      some (U.1,2)
     else
      ((if 0≤(1:Int) then
        (a0.b[(1:Int).toNat]?).bind fun I=>
        if (I.toNat:Int)=(120:Int) then
         some 2
        else
         if (I.toNat:Int)=(117:Int) then
          some 4
         else
          if (I.toNat:Int)=(85:Int) then
           some 8
          else
           some 0
       else none):Option Int).bind fun o=>match o with
       | J=>if J=(0:Int) then
        some ((⟨[]⟩:ar),0)
       else
        if (a0.b.length:Int)<(af (2+J)) then
         some ((⟨[]⟩:ar),0)
        else
         ((correctorref5_Escape_l0 F a0 F J 0 0):Option (Sum (Int×Int) (ar×Int))).bind fun o=>match o with
          | .inl (ad,j)=>((if (1114111:Int)<j then
            some (.inr ((⟨[]⟩:ar),0))
           else
            if (55296:Int)≤j then
             if j≤(57343:Int) then
              some (.inr ((⟨[]⟩:ar),0))
             else
              some (.inl ())
            else
             some (.inl ())):Option (Sum Unit (ar×Int))).bind fun o=>match o with
           | .inl ()=>(nX F (IntKind.wrap .i32 j)).bind fun ae=>
           some ((⟨ae⟩:ar),af (2+ad))
           | .inr y=>some y
          | .inr y=>some y
    else none
   else
    some ((⟨[]⟩:ar),0)
  else none
theorem E3 (F:Nat) {h:AH} {Z:Zn} {a0:ar} (hI:Inv Z h) {r:ar×Int} (hm:correctorref5_Escape F a0=some r):
  bY Tryz.prog 90 [.string ⟨⟨a0.b⟩⟩] h Z (.tuple #[.string ⟨⟨r.1.b⟩⟩,V r.2]):=by
 refine b1 Tryz.func90 hI ?_
 intro hs hS
 unfold correctorref5_Escape at hm
 refine sp 2<|sq<|sr yQ<|aT 2 hm ?_ ?_<;>intro aZ hm
 refine xn 5<|dT<|sp 2<|rt<|⟨rfl,?_⟩
 obtain rfl:=si hm
 refine ⟨_,_,_,tk (.string ⟨⟨[]⟩⟩) (tk (V 0) (ResL.nil)),hS,?_⟩
 exact rfl
 refine xq 2 [(14, .string ⟨⟨a0.b⟩⟩),(13, .bool false),(0, .string ⟨⟨a0.b⟩⟩)] ?_
 obtain ⟨aC,hm⟩:=aH hm
 obtain ⟨a1,aD,hm⟩:=ai hm
 refine bW rfl rfl (jW (bs:=a0.b) (i:=0) rfl rfl (by kernel_rfl) aC aD)<|dv 0 hm ?_ ?_ (kd:= .u8)<;>intro a2 hm
 refine xn 1<|dF<|sk<|sr A1<|xq 1 [(19, .string ⟨⟨a0.b⟩⟩),(0, .string ⟨⟨a0.b⟩⟩)] ?_
 obtain ⟨aE,hm⟩:=aH hm
 obtain ⟨a3,aF,hm⟩:=ai hm
 refine bW rfl trivial (jW (bs:=a0.b) (i:=1) rfl rfl (by kernel_rfl) aE aF) ?_
 obtain ⟨aG,aI,hm⟩:=ai hm
 refine cP 0 hS (CI F hS.inv aI) ?_
 rintro _ a5 ah rfl
 refine xn 5<|sq<|sp 1<|db hm ?_ ?_<;>intro a6 hm
 refine sp 3<|rt<|⟨rfl,?_⟩
 obtain rfl:=si hm
 refine ⟨_,_,_,tk (.string ⟨⟨aG.1.b⟩⟩) (tk (V 2) (ResL.nil)),ah,?_⟩
 exact rfl
 refine sk<|sp 1<|sq ?_
 obtain ⟨aL,J,hm⟩:=ai hm
 refine aJ [0,6] (fun l h=>∃ av aj,aj=aL∧l=[(0, .string ⟨⟨a0.b⟩⟩),(6,V aj)]∧St hs [] Z (0,0) av h []) ?_ ?_
 rintro l a8 ⟨av,aj,rfl,rfl,an⟩
 try dsimp only at hm
 refine sq<|s0<|aK 1 hm ?_ ?_<;>intro a9 hm
 refine xn 7<|dT<|sp 2<|rt<|⟨rfl,?_⟩
 obtain rfl:=si hm
 refine ⟨_,_,_,tk (.string ⟨⟨[]⟩⟩) (tk (V 0) (ResL.nil)),an,?_⟩
 exact rfl
 refine aT 5 hm ?_ ?_<;>intro ba hm
 refine xn 1<|dT<|sp 2<|rt<|⟨rfl,?_⟩
 obtain rfl:=si hm
 refine ⟨_,_,_,tk (.string ⟨⟨[]⟩⟩) (tk (V 0) (ResL.nil)),an,?_⟩
 exact rfl
 refine xn 1<|dF<|sk<|sp 1<|sq<|sp 1 ?_
 obtain ⟨ao,I,hm⟩:=ai hm
 refine aJ [6,7] (fun l h=>∃ aw ab ad, .inl (ab,ad)=ao∧l=[(6,V ab),(7,V ad)]∧St hs [] Z (0,0) aw h []) ?_ ?_
 rintro l bb ⟨aw,ab,ad,rfl,rfl,ak⟩
 try dsimp only at hm
 refine sq ?_
 obtain ⟨aM,U,hm⟩:=ai hm
 refine dM [6,7] (fun l h=>∃ ax, .inl ()=aM∧l=[(6,V ab),(7,V ad)]∧St hs [] Z (0,0) ax h []) (by kernel_rfl) ?_ ?_
 rintro l bc ⟨ax,rfl,rfl,ay⟩
 try dsimp only at hm
 refine sr A4<|xq 1 [(69,V ad),(6,V ab)]<|eR 0 (.int .i32 (IntKind.wrap .i32 ad)) ?_
 obtain ⟨aN,aO,hm⟩:=ai hm
 refine c0 0 ay (Ft F ay.eM aO) ?_
 rintro _ bd bf _ bg az ⟨bh,bl,rfl,rfl,aP⟩
 refine bW rfl trivial (wm az (j:=0) rfl aP rfl (by kernel_rfl))<|xn 4<|rt<|⟨rfl,?_⟩
 obtain rfl:=si hm
 refine ⟨_,_,_,tk (.string ⟨⟨aN⟩⟩) (tk (V (af (2+ab))) (ResL.nil)),az,?_⟩
 exact rfl
 refine g0<|cZ 1 U ?_ ?_<;>intro bm U
 refine xn 8<|dT<|sp 2<|rt<|⟨rfl,?_⟩
 obtain rfl:=si U
 obtain rfl:=si hm
 refine ⟨_,_,_,tk (.string ⟨⟨[]⟩⟩) (tk (V 0) (ResL.nil)),ak,?_⟩
 exact rfl
 refine cS 2 U ?_ ?_<;>intro bn U
 refine e4 2 U ?_ ?_<;>intro bo U
 refine xn 2<|dT<|sp 2<|rt<|⟨rfl,?_⟩
 obtain rfl:=si U
 obtain rfl:=si hm
 refine ⟨_,_,_,tk (.string ⟨⟨[]⟩⟩) (tk (V 0) (ResL.nil)),ak,?_⟩
 exact rfl
 refine xn 2<|dF<|sk ?_
 obtain rfl:=si U
 exact ⟨_,rfl,(by kernel_rfl),ak⟩
 refine xn 5<|dF<|sk ?_
 obtain rfl:=si U
 exact ⟨_,rfl,(by kernel_rfl),ak⟩
 refine bk 1<|lp [0,6,7,8] (fun n l h=>∃ aA ae ag aa,correctorref5_Escape_l0 F a0 n ae ag aa=some ao∧l=[(0, .string ⟨⟨a0.b⟩⟩),(6,V ae),(7,V ag),(8,V aa)]∧St hs [] Z (0,0) aA h []) F ⟨_,aj,0,0,I,(by kernel_rfl),an⟩ ?_
 rintro aq l bp ⟨aA,ae,ag,aa,I,rfl,au⟩
 rcases aq with _ | aq
 cases (show none=some ao from I)
 rw [correctorref5_Escape_l0] at I
 refine sq<|s0<|aT 2 I ?_ ?_<;>intro bq I
 refine xn 0<|dT<|sk<|sq<|bk 2<|sr Gv<|xq 3 [(50,V (af (2+aa))),(48, .string ⟨⟨a0.b⟩⟩),(0, .string ⟨⟨a0.b⟩⟩),(6,V ae),(7,V ag),(8,V aa)] ?_
 obtain ⟨aQ,I⟩:=aH I
 obtain ⟨bt,aU,I⟩:=ai I
 refine bW rfl trivial (jW (bs:=a0.b) (i:=af (2+aa)) rfl rfl (by kernel_rfl) aQ aU) ?_
 obtain ⟨aV,aW,I⟩:=ai I
 refine cP 0 au (Ff F au.inv aW) ?_
 rintro _ bu aB rfl
 refine xn 1<|sq<|s0<|aT 1 I ?_ ?_<;>intro bw I
 refine xn 0<|dT<|sp 2<|rt<|bj<|bj<|⟨rfl,?_⟩
 obtain rfl:=si I
 obtain rfl:=si hm
 refine ⟨_,_,_,tk (.string ⟨⟨[]⟩⟩) (tk (V 0) (ResL.nil)),aB,?_⟩
 exact rfl
 refine xn 0<|dF<|sk<|gp 5<|gp 3 ?_
 exact ⟨aq,a7 _,⟨_,ae,af ((af (16 * ag))+aV),af (aa+1),I,(by kernel_rfl),aB⟩⟩
 refine xn 0<|dF<|xt 1<|aS ?_
 obtain rfl:=si I
 exact ⟨_,ae,ag,rfl,(by kernel_rfl),au⟩
 refine sr Dy<|xq 1 [(26, .string ⟨⟨a0.b⟩⟩),(6,V 0),(0, .string ⟨⟨a0.b⟩⟩)] ?_
 obtain ⟨aX,J⟩:=aH J
 obtain ⟨bx,aY,J⟩:=ai J
 refine bW rfl trivial (jW (bs:=a0.b) (i:=1) rfl rfl (by kernel_rfl) aX aY)<|xn 0<|bk 0<|s0<|aK 0 J ?_ ?_ (kd:= .u8)<;>intro bz J
 refine xn 1<|dT<|gp 1 ?_
 obtain rfl:=si J
 exact ⟨_,2,rfl,(by kernel_rfl),ah⟩
 refine xn 1<|dF<|s0<|aK 0 J ?_ ?_ (kd:= .u8)<;>intro bA J
 refine xn 1<|dT<|gp 1 ?_
 obtain rfl:=si J
 exact ⟨_,4,rfl,(by kernel_rfl),ah⟩
 refine xn 1<|dF<|s0<|aK 0 J ?_ ?_ (kd:= .u8)<;>intro bB J
 refine xn 1<|dT<|gp 1 ?_
 obtain rfl:=si J
 exact ⟨_,8,rfl,(by kernel_rfl),ah⟩
 refine xn 1<|dF<|sk ?_
 obtain rfl:=si J
 exact ⟨_,0,rfl,(by kernel_rfl),ah⟩
 refine xn 1<|dT<|sp 2<|rt<|⟨rfl,?_⟩
 obtain rfl:=si hm
 refine ⟨_,_,_,tk (.string ⟨⟨[]⟩⟩) (tk (V 0) (ResL.nil)),hS,?_⟩
 exact rfl
def yT:List aR:=[u 14 (mv 0),u 15 (mv 7),u 16 (.index 9 (t 14) (t 15)),u 17 (.binOp .eql 5 (t 16) (.const (.int .u8 34)) 5)]
def zs:List aR:=[u 20 (mv 0),u 21 (mv 7),u 22 (.index 9 (t 20) (t 21)),u 23 (.binOp .neq 5 (t 22) (.const (.int .u8 92)) 5)]
def zY:List aR:=[u 24 (mv 5),u 25 (mv 0),u 26 (mv 7),u 27 (mv 7),u 28 (bc .add 3 27 1 3),u 29 (.slice 9 (t 25) (some (t 26)) (some (t 28)) none),u 30 (bo .add 9 24 29 9),u 5 (sg 30)]
def F9:List aR:=[u 34 (mv 0),u 35 (mv 7),u 36 (.slice 9 (t 34) (some (t 35)) none none),u 37 (cf 90 #[(t 36)] #[9]),u 33 (mv 37),u 38 (.extract (t 33) 0),u 39 (.extract (t 33) 1),u 8 (sg 38),u 9 (sg 39)]
def yn:List aR:=[u 42 (mv 6),u 43 (mv 7),u 44 (.buildSlice 22 1 #[(0,(t 43))]),u 45 (cb .append #[(t 42),(t 44)] #[22,22]),u 6 (sg 45)]
def Cj:List aR:=[u 46 (mv 0),u 47 (mv 7),u 48 (mv 7),u 49 (bc .add 3 48 1 3),u 50 (.slice 9 (t 46) (some (t 47)) (some (t 49)) none),u 8 (sg 50),u 9 (.assign (ci 1))]
def Br:List aR:=[u 51 (mv 5),u 52 (mv 8),u 53 (bo .add 9 51 52 9),u 5 (sg 53)]
def correctorref7_double_l0 (F:Nat) (a0:ar):Nat→ar→(List Int)→Int→Option (Sum (ar×(List Int)) (ar×(List Int)×Bool))
 | 0,_,_,_=>none
 | n+1,I,J,j=>
  if j<(a0.b.length:Int) then
   if 0≤j then
    (a0.b[j.toNat]?).bind fun ab=>
    if (ab.toNat:Int)=(34:Int) then
     some (.inr (I,J,true))
    else
     if 0≤j then
      (a0.b[j.toNat]?).bind fun ad=>
      if (ad.toNat:Int)=(92:Int) then
       if 0≤j∧j≤(a0.b.length:Int)∧(a0.b.length:Int)≤(a0.b.length:Int) then
        (correctorref5_Escape F (⟨(a0.b.take (a0.b.length:Int).toNat).drop j.toNat⟩:ar)).bind fun U=>
        ((if U.2=(0:Int) then
          if J.length+([j]:List Int).length≤17592186044416 then
           if 0≤j∧j≤(af (j+1))∧(af (j+1))≤(a0.b.length:Int) then
            some (J++([j]:List Int),(⟨(a0.b.take (af (j+1)).toNat).drop j.toNat⟩:ar),1)
           else none
          else none
         else
          some (J,U.1,U.2)):Option ((List Int)×ar×Int)).bind fun o=>match o with
         | (ae,aa,ag)=>if I.b.length+aa.b.length≤4611686018427387904 then
          correctorref7_double_l0 F a0 n (⟨I.b++aa.b⟩:ar) ae (af (j+ag))
         else none
       else none
      else
       if 0≤j∧j≤(af (j+1))∧(af (j+1))≤(a0.b.length:Int) then
        if I.b.length+((a0.b.take (af (j+1)).toNat).drop j.toNat).length≤4611686018427387904 then
         correctorref7_double_l0 F a0 n (⟨I.b++((a0.b.take (af (j+1)).toNat).drop j.toNat)⟩:ar) J (af (j+1))
        else none
       else none
     else none
   else none
  else
   some (.inl (I,J))
def nb (F:Nat) (a0:ar):Option (ar×(List Int)×Bool):=
 ((correctorref7_double_l0 F a0 F (⟨[]⟩:ar) [] 1):Option (Sum (ar×(List Int)) (ar×(List Int)×Bool))).bind fun o=>match o with
  | .inl (j,I)=>some (j,I,false)
  | .inr y=>some y
theorem zd (F:Nat) {h:AH} {Z:Zn} {a0:ar} (hP:Pre Z h []) {r:ar×(List Int)×Bool} (hm:nb F a0=some r):
  bS Tryz.prog 77 [.string ⟨⟨a0.b⟩⟩] h Z [] fun v Z' A'=>∃ v2 aI, .tuple #[.string ⟨⟨r.1.b⟩⟩,v2, .bool r.2.2]=v∧A'=[.gs v2 aI (aa Int)]∧RCs (α:=Int) Z' aI r.2.1:=by
 refine b3 Tryz.func77 hP ?_
 intro hs hS
 unfold nb at hm
 replace hS:St hs [] Z (0,0) Z hs []:=hS
 refine sp 3<|sp 1<|sp 1<|sq<|sp 1 ?_
 obtain ⟨aA,J,hm⟩:=ai hm
 refine aJ [5,6] (fun l h=>∃ aB au aC ah av, .inl (au,aC)=aA∧RCs (α:=Int) aB av aC∧l=[(5, .string ⟨⟨au.b⟩⟩),(6,ah)]∧St hs [] Z (0,0) aB h [.gs ah av (aa Int)]) ?_ ?_
 rintro l bc ⟨aB,au,aC,ah,av,rfl,aP,rfl,aQ⟩
 try dsimp only at hm
 refine sp 5<|rt<|⟨rfl,?_⟩
 obtain rfl:=si hm
 refine ⟨_,_,_,tk (.string ⟨⟨au.b⟩⟩) (tk ah (tk (.bool false) (ResL.nil))),aQ,?_⟩
 exact ⟨ah,av,rfl,rfl,aP⟩
 refine bk 0 ?_
 have aU:=hS.dh (aa Int)
 refine lp [0,5,6,7] (fun n l h=>∃ aw U ae I ab ag,correctorref7_double_l0 F a0 n U ae I=some aA∧RCs (α:=Int) aw ag ae∧l=[(0, .string ⟨⟨a0.b⟩⟩),(5, .string ⟨⟨U.b⟩⟩),(6,ab),(7,V I)]∧St hs [] Z (0,0) aw h [.gs ab ag (aa Int)]) F ⟨_,(⟨[]⟩:ar),[],1,(.slice none 0 0),[],J,(RCs.bq _),(by kernel_rfl),aU⟩ ?_
 rintro ax l bd ⟨aw,U,ae,I,ab,ag,J,aj,rfl,ak⟩
 rcases ax with _ | ax
 cases (show none=some aA from J)
 rw [correctorref7_double_l0] at J
 refine sq<|s0<|aT 3 J ?_ ?_<;>intro bf J
 refine xn 0<|dT<|sk<|bk 1<|sq<|sr yT<|xq 2 [(15,V I),(14, .string ⟨⟨a0.b⟩⟩),(0, .string ⟨⟨a0.b⟩⟩),(5, .string ⟨⟨U.b⟩⟩),(6,ab),(7,V I)] ?_
 obtain ⟨aV,J⟩:=aH J
 obtain ⟨bg,aW,J⟩:=ai J
 refine bW rfl trivial (jW (bs:=a0.b) (i:=I) rfl rfl (by kernel_rfl) aV aW)<|aK 0 J ?_ ?_ (kd:= .u8)<;>intro bh J
 refine xn 0<|dT<|sp 5<|rt<|bj<|bj<|⟨rfl,?_⟩
 obtain rfl:=si J
 obtain rfl:=si hm
 refine ⟨_,_,_,tk (.string ⟨⟨U.b⟩⟩) (tk ab (tk (.bool true) (ResL.nil))),ak,?_⟩
 exact ⟨ab,ag,rfl,rfl,aj⟩
 refine xn 0<|dF<|sk<|sq<|sr zs<|xq 2 [(21,V I),(20, .string ⟨⟨a0.b⟩⟩),(0, .string ⟨⟨a0.b⟩⟩),(5, .string ⟨⟨U.b⟩⟩),(6,ab),(7,V I)] ?_
 obtain ⟨aX,J⟩:=aH J
 obtain ⟨bl,aY,J⟩:=ai J
 refine bW rfl trivial (jW (bs:=a0.b) (i:=I) rfl rfl (by kernel_rfl) aX aY)<|dv 0 J ?_ ?_ (kd:= .u8)<;>intro bm J
 refine xn 0<|dF<|sk<|sr F9<|xq 2 [(35,V I),(34, .string ⟨⟨a0.b⟩⟩),(0, .string ⟨⟨a0.b⟩⟩),(5, .string ⟨⟨U.b⟩⟩),(6,ab),(7,V I)] ?_
 obtain ⟨aD,J⟩:=aH J
 refine bW rfl trivial (n6 (bs:=a0.b) (a:=I) (b:=(a0.b.length:Int)) rfl (by kernel_rfl) ⟨_,rfl⟩ rfl aD.1 aD.2.1 aD.2.2) ?_
 obtain ⟨aL,aZ,J⟩:=ai J
 refine cP 0 ak (E3 F (a0:=(⟨(a0.b.take (a0.b.length:Int).toNat).drop I.toNat⟩:ar)) ak.inv aZ) ?_
 rintro _ bn aM rfl
 refine xn 5<|sq ?_
 obtain ⟨a1,ad,J⟩:=ai J
 refine dM [0,5,6,7,8,9] (fun l h=>∃ aE ay an ao aq az,(ay,an,ao)=a1∧RCs (α:=Int) aE az ay∧l=[(0, .string ⟨⟨a0.b⟩⟩),(5, .string ⟨⟨U.b⟩⟩),(6,aq),(7,V I),(8, .string ⟨⟨an.b⟩⟩),(9,V ao)]∧St hs [] Z (0,0) aE h [.gs aq az (aa Int)]) (by kernel_rfl) ?_ ?_
 rintro l bo ⟨aE,ay,an,ao,aq,az,rfl,a2,rfl,a3⟩
 try dsimp only at J
 refine sr Br<|xq 2 [(52, .string ⟨⟨an.b⟩⟩),(51, .string ⟨⟨U.b⟩⟩),(0, .string ⟨⟨a0.b⟩⟩),(5, .string ⟨⟨U.b⟩⟩),(6,aq),(7,V I),(9,V ao)] ?_
 obtain ⟨a5,J⟩:=aH J
 refine bW rfl trivial (kT rfl rfl (by simpa using a5))<|xn 1<|gp 4 ?_
 exact ⟨ax,a7 _,⟨_,(⟨U.b++an.b⟩:ar),ay,af (I+ao),aq,az,J,a2,(by kernel_rfl),a3⟩⟩
 refine g0<|aK 1 ad ?_ ?_<;>intro bp ad
 refine xn 0<|dT<|sr yn<|xq 2 [(43,V I),(42,ab),(0, .string ⟨⟨a0.b⟩⟩),(5, .string ⟨⟨U.b⟩⟩),(6,ab),(7,V I)] ?_
 have a6:RCs (α:=Int) aw [V I] ([I]:List Int):=RCs.cons (cs:=[V I]) rfl (RCs.bq _)
 refine dG rfl trivial (c6 (cells:=[V I]) (s:=1) (by kernel_rfl)) (by kernel_rfl) aM ?_
 intro bt bu aN
 obtain ⟨bw,ad⟩:=aH ad
 refine eZ rfl trivial (dE (ys:=([I]:List Int)) (bX:=8) aN (i:=1) rfl aj ((aN).eB (j:=0) rfl a6) rfl rfl (by kernel_rfl) (by omega) (by omega)) ?_
 rintro aO a8 bx ⟨a9,ba⟩
 refine xn 1<|rg Cj<|xq 4 [(49,V (af (I+1))),(47,V I),(46, .string ⟨⟨a0.b⟩⟩),(6,aO),(0, .string ⟨⟨a0.b⟩⟩),(5, .string ⟨⟨U.b⟩⟩),(7,V I)] ?_
 obtain ⟨aF,ad⟩:=aH ad
 refine bW rfl trivial (n6 (bs:=a0.b) (a:=I) (b:=af (I+1)) rfl (by kernel_rfl) ⟨_,rfl⟩ ⟨_,rfl⟩ aF.1 aF.2.1 aF.2.2)<|xn 2 ?_
 obtain rfl:=si ad
 exact ⟨_,ae++([I]:List Int),(⟨(a0.b.take (af (I+1)).toNat).drop I.toNat⟩:ar),1,aO,a8,rfl,a9,(by kernel_rfl),((ba.front 1 rfl).takeN 1)⟩
 refine xn 0<|dF<|sk ?_
 obtain rfl:=si ad
 exact ⟨_,ae,aL.1,aL.2,ab,ag,rfl,aj,(by kernel_rfl),aM⟩
 refine xn 0<|dT<|sr zY<|xq 5 [(28,V (af (I+1))),(26,V I),(25, .string ⟨⟨a0.b⟩⟩),(24, .string ⟨⟨U.b⟩⟩),(0, .string ⟨⟨a0.b⟩⟩),(5, .string ⟨⟨U.b⟩⟩),(6,ab),(7,V I)] ?_
 obtain ⟨aG,J⟩:=aH J
 refine bW rfl trivial (n6 (bs:=a0.b) (a:=I) (b:=af (I+1)) rfl (by kernel_rfl) ⟨_,rfl⟩ ⟨_,rfl⟩ aG.1 aG.2.1 aG.2.2) ?_
 obtain ⟨bb,J⟩:=aH J
 refine bW rfl trivial (kT rfl rfl (by simpa using bb))<|xn 1<|sp 3<|xt 1<|aS ?_
 exact ⟨ax,a7 _,⟨_,(⟨U.b++((a0.b.take (af (I+1)).toNat).drop I.toNat)⟩:ar),ae,af (I+1),ab,ag,J,aj,(by kernel_rfl),ak⟩⟩
 refine xn 0<|dF<|xt 0<|aS ?_
 obtain rfl:=si J
 exact ⟨_,U,ae,ab,ag,rfl,aj,(by kernel_rfl),ak⟩
def F3:List aR:=[u 9 (mv 1),u 10 (.binOp .eql 9 (t 9) (.const (.string {data:=#[]})) 9)]
def oC (F:Nat) (a0:Int) (a1:ar):Option (ar×(List Int)×Bool):=
 if a1=(⟨[]⟩:ar) then
  some ((⟨[]⟩:ar),[],false)
 else
  if a0=(15:Int) then
   some (a1,[],true)
  else
   if a0=(16:Int) then
    (oO F a1).bind fun I=>
    some (I.1,[],I.2)
   else
    if a0=(17:Int) then
     (nb F a1).bind fun j=>
     some (j.1,j.2.1,j.2.2)
    else
     some ((⟨[]⟩:ar),[],false)
theorem As (F:Nat) {h:AH} {Z:Zn} {a0:Int} {a1:ar} (hP:Pre Z h []) {r:ar×(List Int)×Bool} (hm:oC F a0 a1=some r):
  bS Tryz.prog 54 [V a0, .string ⟨⟨a1.b⟩⟩] h Z [] fun v Z' A'=>∃ v2 I, .tuple #[.string ⟨⟨r.1.b⟩⟩,v2, .bool r.2.2]=v∧A'=[.gs v2 I (aa Int)]∧RCs (α:=Int) Z' I r.2.1:=by
 refine b3 Tryz.func54 hP ?_
 intro hs hS
 unfold oC at hm
 replace hS:St hs [] Z (0,0) Z hs []:=hS
 refine sp 3<|sq<|sr F3<|xq 1 [(9, .string ⟨⟨a1.b⟩⟩),(0,V a0),(1, .string ⟨⟨a1.b⟩⟩)] ?_
 rcases ifs hm with ⟨j,hm⟩ | ⟨j,hm⟩
 refine bW rfl trivial (bm rfl rfl (xR (a:=a1) (b:=(⟨[]⟩:ar)) j))<|xn 0<|dT<|sp 3<|rt<|⟨rfl,?_⟩
 have ad:=hS.dh (aa Int)
 obtain rfl:=si hm
 refine ⟨_,_,_,tk (.string ⟨⟨[]⟩⟩) (tk (.slice none 0 0) (tk (.bool false) (ResL.nil))),ad,?_⟩
 exact ⟨(.slice none 0 0),[],rfl,rfl,(RCs.bq _)⟩
 refine bW rfl trivial (bm rfl rfl (EP (a:=a1) (b:=(⟨[]⟩:ar)) j))<|xn 0<|dF<|sk<|sq<|sp 1<|bk 0<|s0<|aK 0 hm ?_ ?_<;>intro au hm
 refine xn 1<|dT<|sp 4<|rt<|bj<|⟨rfl,?_⟩
 have ae:=hS.dh (aa Int)
 obtain rfl:=si hm
 refine ⟨_,_,_,tk (.string ⟨⟨a1.b⟩⟩) (tk (.slice none 0 0) (tk (.bool true) (ResL.nil))),ae,?_⟩
 exact ⟨(.slice none 0 0),[],rfl,rfl,(RCs.bq _)⟩
 refine xn 1<|dF<|s0<|aK 0 hm ?_ ?_<;>intro av hm
 refine xn 1<|dT<|s0 ?_
 obtain ⟨J,af,hm⟩:=ai hm
 refine cP 1 hS (z7 F hS.inv af) ?_
 rintro _ aw ag rfl
 refine xn 5<|sp 5<|rt<|bj<|⟨rfl,?_⟩
 have ah:=ag.dh (aa Int)
 obtain rfl:=si hm
 refine ⟨_,_,_,tk (.string ⟨⟨J.1.b⟩⟩) (tk (.slice none 0 0) (tk (.bool J.2) (ResL.nil))),ah,?_⟩
 exact ⟨(.slice none 0 0),[],rfl,rfl,(RCs.bq _)⟩
 refine xn 1<|dF<|s0<|aK 0 hm ?_ ?_<;>intro ax hm
 refine xn 1<|dT<|s0 ?_
 obtain ⟨U,aj,hm⟩:=ai hm
 refine c0 1 hS (zd F hS.eM aj) ?_
 rintro _ ay az _ aA ak ⟨ab,an,rfl,rfl,ao⟩
 refine xn 6<|rt<|bj<|⟨rfl,?_⟩
 obtain rfl:=si hm
 refine ⟨_,_,_,tk (.string ⟨⟨U.1.b⟩⟩) (tk ab (tk (.bool U.2.2) (ResL.nil))),ak,?_⟩
 exact ⟨ab,an,rfl,rfl,ao⟩
 refine xn 1<|dF<|sk<|sp 3<|rt<|⟨rfl,?_⟩
 have aq:=hS.dh (aa Int)
 obtain rfl:=si hm
 refine ⟨_,_,_,tk (.string ⟨⟨[]⟩⟩) (tk (.slice none 0 0) (tk (.bool false) (ResL.nil))),aq,?_⟩
 exact ⟨(.slice none 0 0),[],rfl,rfl,(RCs.bq _)⟩
def B7:List br:=[uP 27 (mv 7),uP 28 (mv 8),uP 29 (mv 9),uP 30 (ia 22 28 29),uL 31 (ld 3 30),uP 32 (mv 8),uP 33 (mv 9),uP 34 (ia 22 32 33),uL 35 (ld 3 34),uP 36 (bc .add 3 35 1 3),uP 37 (.build 94 #[(0,(ci 1)),(1,(t 31)),(2,(t 36))]),uF 38 (.buildSlice 32 1 #[(0,(t 37))]) .fresh [],uF 39 (cb .append #[(t 27),(t 38)] #[32,32]) .make [4,8],uP 7 (sg 39)]
def Du:List br:=[uP 108 (mv 7),uP 109 (mv 1),uP 110 (mv 11),uP 111 (ia 28 109 110),uP 112 (fa 76 111 1),uL 113 (ld 3 112),uP 114 (mv 1),uP 115 (mv 11),uP 116 (ia 28 114 115),uP 117 (fa 76 116 2),uL 118 (ld 3 117),uP 119 (.build 94 #[(0,(ci 2)),(1,(t 113)),(2,(t 118))]),uF 120 (.buildSlice 32 1 #[(0,(t 119))]) .fresh [],uF 121 (cb .append #[(t 108),(t 120)] #[32,32]) .make [5,10],uP 7 (sg 121)]
def E0:List br:=[uP 143 (mv 1),uP 144 (mv 14),uP 145 (ia 28 143 144),uP 146 (fa 76 145 0),uL 147 (ld 3 146),uP 148 (mv 0),uP 149 (mv 1),uP 150 (mv 14),uP 151 (ia 28 149 150),uP 152 (fa 76 151 1),uL 153 (ld 3 152),uP 154 (mv 1),uP 155 (mv 14),uP 156 (ia 28 154 155),uP 157 (fa 76 156 2),uL 158 (ld 3 157),uP 159 (.slice 23 (t 148) (some (t 153)) (some (t 158)) none),uL 160 (.convert 23 9 (t 159)),uF 161 (cf 54 #[(t 147),(t 160)] #[3,9]) .make [4,10,15,17],uP 142 (mv 161),uP 162 (.extract (t 142) 0),uP 163 (.extract (t 142) 1),uP 164 (.extract (t 142) 2),uP 15 (sg 162),uP 16 (sg 163),uP 17 (sg 164)]
def Fz:List br:=[uP 167 (mv 7),uP 168 (mv 1),uP 169 (mv 14),uP 170 (ia 28 168 169),uP 171 (fa 76 170 1),uL 172 (ld 3 171),uP 173 (mv 1),uP 174 (mv 14),uP 175 (ia 28 173 174),uP 176 (fa 76 175 2),uL 177 (ld 3 176),uP 178 (.build 94 #[(0,(ci 3)),(1,(t 172)),(2,(t 177))]),uF 179 (.buildSlice 32 1 #[(0,(t 178))]) .fresh [],uF 180 (cb .append #[(t 167),(t 179)] #[32,32]) .make [5,10],uP 7 (sg 180)]
def GC:List br:=[uP 187 (mv 7),uP 188 (mv 1),uP 189 (mv 14),uP 190 (ia 28 188 189),uP 191 (fa 76 190 1),uL 192 (ld 3 191),uP 193 (mv 16),uP 194 (mv 18),uP 195 (ia 22 193 194),uL 196 (ld 3 195),uP 197 (bo .add 3 192 196 3),uP 198 (mv 1),uP 199 (mv 14),uP 200 (ia 28 198 199),uP 201 (fa 76 200 1),uL 202 (ld 3 201),uP 203 (mv 16),uP 204 (mv 18),uP 205 (ia 22 203 204),uL 206 (ld 3 205),uP 207 (bo .add 3 202 206 3),uP 208 (bc .add 3 207 1 3),uP 209 (.build 94 #[(0,(ci 4)),(1,(t 197)),(2,(t 208))]),uF 210 (.buildSlice 32 1 #[(0,(t 209))]) .fresh [],uF 211 (cb .append #[(t 187),(t 210)] #[32,32]) .make [5,9,15,19],uP 7 (sg 211)]
def correctorref12_told_l0 (F:Nat) (a0:List UInt8) (a1:List al) (ab:List av):Nat→(List aj)→(List Int)→Int→Option (List aj)
 | 0,_,_,_=>none
 | n+1,J,I,j=>
  if j<(I.length:Int) then
   if 0≤j∧j<(I.length:Int) then
    (I[j.toNat]?).bind fun U=>
    if 0≤j∧j<(I.length:Int) then
     (I[j.toNat]?).bind fun aa=>
     if J.length+[(⟨1,U,af (aa+1)⟩:aj)].length≤5864062014805 then
      correctorref12_told_l0 F a0 a1 ab n (J++[(⟨1,U,af (aa+1)⟩:aj)]) I (af (j+1))
     else none
    else none
   else none
  else
   some J
def correctorref12_told_l3 (F:Nat) (a0:List UInt8) (a1:List al) (ab:List av):Nat→(List aj)→Int→Int→Bool→Int→Option ((List aj)×Int×Int×Bool)
 | 0,_,_,_,_,_=>none
 | n+1,J,U,j,aa,I=>
  if 0≤j∧j<(a1.length:Int) then
   (a1[j.toNat]?).bind fun ad=>
   if I<ad.To then
    ((if aa=true then
      some (J,true)
     else
      if 0≤I∧I<(a0.length:Int) then
       (a0[I.toNat]?).bind fun ae=>
       if (ae.toNat:Int)=(9:Int) then
        some (J,true)
       else
        some (J,false)
      else none):Option ((List aj)×Bool)).bind fun o=>match o with
     | (ag,ah)=>correctorref12_told_l3 F a0 a1 ab n ag U j ah (af (I+1))
   else
    some (J,U,j,aa)
  else none
def correctorref12_told_l2 (F:Nat) (a0:List UInt8) (a1:List al) (U:List av):Nat→(List aj)→Int→Int→Option ((List aj)×Int)
 | 0,_,_,_=>none
 | n+1,aa,j,J=>
  if 0≤j∧j<(U.length:Int) then
   (U[j.toNat]?).bind fun ai=>
   if J<ai.To then
    if 0≤j∧j<(U.length:Int) then
     (U[j.toNat]?).bind fun ak=>
     if ak.Kind=(5:Int) then
      if 0≤J∧J<(a1.length:Int) then
       (a1[J.toNat]?).bind fun an=>
       (fH F an.Kind).bind fun ao=>
       if ao=true then
        some (aa,j)
       else
        if 0≤J∧J<(a1.length:Int) then
         (a1[J.toNat]?).bind fun aq=>
         ((correctorref12_told_l3 F a0 a1 U F aa j J false aq.ah):Option ((List aj)×Int×Int×Bool)).bind fun o=>match o with
          | (ab,ar,I,au)=>((if au=true then
            if 0≤I∧I<(a1.length:Int) then
             (a1[I.toNat]?).bind fun aw=>
             if aw.Kind=(3:Int) then
              some (ab,true)
             else
              some (ab,false)
            else none
           else
            some (ab,false)):Option ((List aj)×Bool)).bind fun o=>match o with
           | (ad,ax)=>((if ax=true then
             if 0≤I∧I<(a1.length:Int) then
              (a1[I.toNat]?).bind fun ae=>
              if 0≤I∧I<(a1.length:Int) then
               (a1[I.toNat]?).bind fun ag=>
               if ad.length+[(⟨2,ae.ah,ag.To⟩:aj)].length≤5864062014805 then
                some (ad++[(⟨2,ae.ah,ag.To⟩:aj)])
               else none
              else none
             else none
            else
             some ad):Option (List aj)).bind fun o=>match o with
            | ay=>correctorref12_told_l2 F a0 a1 U n ay ar (af (I+1))
        else none
      else none
     else
      some (aa,j)
    else none
   else
    some (aa,j)
  else none
def correctorref12_told_l1 (F:Nat) (a0:List UInt8) (a1:List al) (j:List av):Nat→(List aj)→Int→Option (List aj)
 | 0,_,_=>none
 | n+1,J,I=>
  if I<(j.length:Int) then
   if 0≤I∧I<(j.length:Int) then
    (j[I.toNat]?).bind fun U=>
    ((correctorref12_told_l2 F a0 a1 j F J I U.ah):Option ((List aj)×Int)).bind fun o=>match o with
     | (aa,ab)=>correctorref12_told_l1 F a0 a1 j n aa (af (ab+1))
   else none
  else
   some J
def correctorref12_told_l5 (F:Nat) (a0:List UInt8) (a1:List al) (ag:List av):Nat→(List aj)→Int→(List Int)→Int→Option ((List aj)×Int)
 | 0,_,_,_,_=>none
 | n+1,U,j,J,I=>
  if I<(J.length:Int) then
   if 0≤j∧j<(a1.length:Int) then
    (a1[j.toNat]?).bind fun aa=>
    if 0≤I∧I<(J.length:Int) then
     (J[I.toNat]?).bind fun ab=>
     if 0≤j∧j<(a1.length:Int) then
      (a1[j.toNat]?).bind fun ad=>
      if 0≤I∧I<(J.length:Int) then
       (J[I.toNat]?).bind fun ae=>
       if U.length+[(⟨4,af (aa.ah+ab),af ((af (ad.ah+ae))+1)⟩:aj)].length≤5864062014805 then
        correctorref12_told_l5 F a0 a1 ag n (U++[(⟨4,af (aa.ah+ab),af ((af (ad.ah+ae))+1)⟩:aj)]) j J (af (I+1))
       else none
      else none
     else none
    else none
   else none
  else
   some (U,j)
def correctorref12_told_l4 (F:Nat) (a0:List UInt8) (a1:List al) (ad:List av):Nat→(List aj)→Int→Option (List aj)
 | 0,_,_=>none
 | n+1,I,j=>
  if j<(a1.length:Int) then
   ((((if 0≤j∧j<(a1.length:Int) then
      (a1[j.toNat]?).bind fun ai=>
      if ai.Kind=(16:Int) then
       some (.inl I)
      else
       if 0≤j∧j<(a1.length:Int) then
        (a1[j.toNat]?).bind fun ak=>
        if ak.Kind=(17:Int) then
         some (.inl I)
        else
         some (.inr (I,j))
       else none
     else none):Option (Sum (List aj) ((List aj)×Int))).bind fun o=>match o with
     | .inl J=>if 0≤j∧j<(a1.length:Int) then
      (a1[j.toNat]?).bind fun an=>
      if 0≤j∧j<(a1.length:Int) then
       (a1[j.toNat]?).bind fun U=>
       if 0≤j∧j<(a1.length:Int) then
        (a1[j.toNat]?).bind fun aa=>
        if 0≤U.ah∧U.ah≤aa.To∧aa.To≤(a0.length:Int) then
         (oC F an.Kind (⟨(a0.take aa.To.toNat).drop U.ah.toNat⟩:ar)).bind fun ab=>
         ((if ab.2.2=true then
           some (J,ab.2.1)
          else
           if 0≤j∧j<(a1.length:Int) then
            (a1[j.toNat]?).bind fun ae=>
            if 0≤j∧j<(a1.length:Int) then
             (a1[j.toNat]?).bind fun ag=>
             if J.length+[(⟨3,ae.ah,ag.To⟩:aj)].length≤5864062014805 then
              some (J++[(⟨3,ae.ah,ag.To⟩:aj)],ab.2.1)
             else none
            else none
           else none):Option ((List aj)×(List Int))).bind fun o=>match o with
          | (ao,aq)=>((correctorref12_told_l5 F a0 a1 ad F ao j aq 0):Option ((List aj)×Int)).bind fun o=>match o with
           | (au,aw)=>some (au,aw)
        else none
       else none
      else none
     else none
     | .inr y=>some y):Option ((List aj)×Int)).bind fun o=>match o with
    | (ax,ay)=>correctorref12_told_l4 F a0 a1 ad n ax (af (ay+1))
  else
   some I
def mX (F:Nat) (a0:List UInt8) (a1:List al) (j:List av):Option (List aj):=
 (m5 F a0).bind fun I=>
 ((correctorref12_told_l0 F a0 a1 j F [] I 0):Option (List aj)).bind fun o=>match o with
  | J=>((correctorref12_told_l1 F a0 a1 j F J 0):Option (List aj)).bind fun o=>match o with
   | U=>((correctorref12_told_l4 F a0 a1 j F U 0):Option (List aj)).bind fun o=>match o with
    | aa=>some aa
theorem zq (F:Nat) {h:AH} {Z:Zn} {a0:List UInt8} {a1:List al} {bj:List av} {v2 v4 v6} (hP:Pre Z h []) (cp:RS (α:=UInt8) Z v2 a0) (U:RS (α:=al) Z v4 a1) (bn:RS (α:=av) Z v6 bj) {r:(List aj)} (hm:mX F a0 a1 bj=some r):
  bS Tryz.prog 28 [v2,v4,v6] h Z [] fun v Z' A'=>∃ eD eE,eD=v∧A'=[.gs eD eE (aa aj)]∧RCs (α:=aj) Z' eE r:=by
 refine b3 Tryz.func28 hP ?_
 intro hs hS
 unfold mX at hm
 replace hS:St hs [] Z (0,0) Z hs []:=hS
 refine sp 1<|sp 1<|s0 ?_
 obtain ⟨fz,fA,hm⟩:=ai hm
 refine c0 1 hS (E2 F hS.eM cp fA) ?_
 rintro _ hE hF _ hG fC ⟨fD,fE,rfl,rfl,fF⟩
 refine xn 1<|sq<|sp 1 ?_
 obtain ⟨dx,aq,hm⟩:=ai hm
 refine aJ [0,1,2,7] (fun l h=>∃ dz cq ct cu,cq=dx∧RCs (α:=aj) dz cu cq∧l=[(0,v2),(1,v4),(2,v6),(7,ct)]∧St hs [] Z (0,0) dz h [.gs ct cu (aa aj)]) ?_ ?_
 rintro l hH ⟨dz,cq,ct,cu,rfl,fG,rfl,fH⟩
 try dsimp only at hm
 refine sq<|sp 1 ?_
 obtain ⟨dA,az,hm⟩:=ai hm
 refine aJ [0,1,7] (fun l h=>∃ dB cw cx cy,cw=dA∧RCs (α:=aj) dB cy cw∧l=[(0,v2),(1,v4),(7,cx)]∧St hs [] Z (0,0) dB h [.gs cx cy (aa aj)]) ?_ ?_
 rintro l hI ⟨dB,cw,cx,cy,rfl,fI,rfl,fJ⟩
 try dsimp only at hm
 refine sq<|sp 1 ?_
 obtain ⟨dC,aW,hm⟩:=ai hm
 refine aJ [7] (fun l h=>∃ dG dH b5 cz,dH=dC∧RCs (α:=aj) dG cz dH∧l=[(7,b5)]∧St hs [] Z (0,0) dG h [.gs b5 cz (aa aj)]) ?_ ?_
 rintro l hJ ⟨dG,dH,b5,cz,rfl,fK,rfl,fL⟩
 try dsimp only at hm
 refine sp 2<|rt<|⟨rfl,?_⟩
 obtain rfl:=si hm
 refine ⟨_,_,_,tk b5 (ResL.nil),fL,?_⟩
 exact ⟨b5,cz,rfl,rfl,fK⟩
 refine bk 8<|lp [0,1,7,14] (fun n l h=>∃ dI bo J bp bu,correctorref12_told_l4 F a0 a1 bj n bo J=some dC∧RCs (α:=aj) dI bu bo∧l=[(0,v2),(1,v4),(7,bp),(14,V J)]∧St hs [] Z (0,0) dI h [.gs bp bu (aa aj)]) F ⟨_,cw,0,cx,cy,aW,fI,(by kernel_rfl),fJ⟩ ?_
 rintro dJ l hK ⟨dI,bo,J,bp,bu,aW,cA,rfl,aX⟩
 rcases dJ with _ | dJ
 cases (show none=some dC from aW)
 rw [correctorref12_told_l4] at aW
 refine sq<|s0<|bC 2 v4 (RS.len (U.mono aX.ag))<|aT 0 aW ?_ ?_<;>intro hL aW
 refine xn 0<|dT<|sk<|sq ?_
 obtain ⟨fM,ab,aW⟩:=ai aW
 refine aJ [0,1,7,14] (fun l h=>∃ dL cB cC cD cE,(cB,cC)=fM∧RCs (α:=aj) dL cE cB∧l=[(0,v2),(1,v4),(7,cD),(14,V cC)]∧St hs [] Z (0,0) dL h [.gs cD cE (aa aj)]) ?_ ?_
 rintro l hM ⟨dL,cB,cC,cD,cE,rfl,fN,rfl,fO⟩
 try dsimp only at aW
 refine gp 3 ?_
 exact ⟨dJ,a7 _,⟨_,cB,af (cC+1),cD,cE,aW,fN,(by kernel_rfl),fO⟩⟩
 refine bk 9<|sq ?_
 obtain ⟨fP,aA,ab⟩:=ai ab
 refine aJ [0,1,7,14] (fun l h=>∃ dM b6 ae bK, .inl b6=fP∧RCs (α:=aj) dM bK b6∧l=[(0,v2),(1,v4),(7,ae),(14,V J)]∧St hs [] Z (0,0) dM h [.gs ae bK (aa aj)]) ?_ ?_
 rintro l hN ⟨dM,b6,ae,bK,rfl,eF,rfl,aN⟩
 try dsimp only at ab
 refine cY E0 aN ?_
 intro hO hQ hR bM
 refine yq 2 [(144,V J),(143,v4),(0,v2),(1,v4),(7,ae),(14,V J)] ?_
 obtain ⟨eG,ab⟩:=aH ab
 refine aF rfl trivial (bx rfl rfl (by kernel_rfl:slTy _ _=some (aa al)) (RS.cG (U.mono aN.ag) (by omega)) eG.1 eG.2)<|yq 1 [(146, .pointer (some (bw v4 J (aa al) 0))),(0,v2),(1,v4),(7,ae),(14,V J)] ?_
 obtain ⟨bN,fQ,ab⟩:=ai ab
 obtain ⟨hT,fR,fS⟩:=RS.bV (U.mono aN.ag) (i:=J) fQ
 obtain rfl:=eH fR
 refine cg rfl rfl trivial (fun h2 hz=>bE (w:=V bN.Kind) (fS h2 hz) rfl (by kernel_rfl)) (bM.bO (aO.refl _)) (aG (v:=V bN.Kind) trivial) trivial<|yq 3 [(150,V J),(149,v4),(148,v2),(147,V bN.Kind),(0,v2),(1,v4),(7,ae),(14,V J)] ?_
 obtain ⟨eI,ab⟩:=aH ab
 refine aF rfl trivial (bx rfl rfl (by kernel_rfl:slTy _ _=some (aa al)) (RS.cG (U.mono aN.ag) (by omega)) eI.1 eI.2)<|yq 1 [(152, .pointer (some (bw v4 J (aa al) 1))),(148,v2),(147,V bN.Kind),(0,v2),(1,v4),(7,ae),(14,V J)] ?_
 obtain ⟨bP,fT,ab⟩:=ai ab
 obtain ⟨hU,fU,fV⟩:=RS.bV (U.mono aN.ag) (i:=J) fT
 obtain rfl:=eH fU
 refine cg rfl rfl trivial (fun h2 hz=>bE (w:=V bP.ah) (fV h2 hz) rfl (by kernel_rfl)) (bM.bO (aO.refl _)) (aG (v:=V bP.ah) trivial) trivial<|yq 2 [(155,V J),(154,v4),(153,V bP.ah),(148,v2),(147,V bN.Kind),(0,v2),(1,v4),(7,ae),(14,V J)] ?_
 obtain ⟨eJ,ab⟩:=aH ab
 refine aF rfl trivial (bx rfl rfl (by kernel_rfl:slTy _ _=some (aa al)) (RS.cG (U.mono aN.ag) (by omega)) eJ.1 eJ.2)<|yq 1 [(157, .pointer (some (bw v4 J (aa al) 2))),(153,V bP.ah),(148,v2),(147,V bN.Kind),(0,v2),(1,v4),(7,ae),(14,V J)] ?_
 obtain ⟨cF,fW,ab⟩:=ai ab
 obtain ⟨hV,fX,fY⟩:=RS.bV (U.mono aN.ag) (i:=J) fW
 obtain rfl:=eH fX
 refine cg rfl rfl trivial (fun h2 hz=>bE (w:=V cF.To) (fY h2 hz) rfl (by kernel_rfl)) (bM.bO (aO.refl _)) (aG (v:=V cF.To) trivial) trivial ?_
 obtain ⟨dN,ab⟩:=aH ab
 refine p8 rfl trivial (iY (a:=bP.ah) (b:=cF.To) (cp.mono aN.ag) rfl (by kernel_rfl:slTy _ _=some (aa UInt8)) ⟨_,rfl⟩ ⟨_,rfl⟩ dN.1 dN.2.1 dN.2.2) ?_
 intro hW fZ
 refine cg rfl rfl trivial (EL fZ rfl (by kernel_rfl)) (bM.bO (aO.refl _)) (aG (by trivial)) trivial ?_
 obtain ⟨dO,gb,ab⟩:=ai ab
 have gd:=bM.bZ
 have eK:St _ _ _ _ _ _ ([]++[.gs ae bK (aa aj)]):=gd
 obtain ⟨hX,hY,gf,hZ,gg,dQ,ba,dR,rfl,rfl,eL⟩:=As F (a1:=(⟨(a0.take cF.To.toNat).drop bP.ah.toNat⟩:ar)) eK.dW gb
 have gh:=eK.call dQ
 have bQ:=dQ.ag
 refine df rfl trivial bM (cr gg rfl rfl rfl) gh (St.de dQ) ?_
 intro h3 gi
 refine ye 7 [(17, .bool dO.2.2),(16,ba),(0,v2),(1,v4),(7,ae),(14,V J)] ?_
 have eN:=gi.aY
 refine sq ?_
 obtain ⟨gj,aE,ab⟩:=ai ab
 refine aJ [0,1,7,14,16] (fun l h=>∃ cH cI cJ cK cL cM cN,(cI,cJ)=gj∧RCs (α:=aj) cH cL cI∧RCs (α:=Int) cH cN cJ∧l=[(0,v2),(1,v4),(7,cK),(14,V J),(16,cM)]∧St hs [] Z (0,0) cH h [.gs cK cL (aa aj), .gs cM cN (aa Int)]) ?_ ?_
 rintro l h4 ⟨cH,cI,cJ,cK,cL,cM,cN,rfl,gk,gl,rfl,gm⟩
 try dsimp only at ab
 refine sp 1 ?_
 obtain ⟨dS,ad,ab⟩:=ai ab
 refine aJ [0,1,7,14] (fun l h=>∃ dV cO cQ cR cS,(cO,cQ)=dS∧RCs (α:=aj) dV cS cO∧l=[(0,v2),(1,v4),(7,cR),(14,V cQ)]∧St hs [] Z (0,0) dV h [.gs cR cS (aa aj)]) ?_ ?_
 rintro l h5 ⟨dV,cO,cQ,cR,cS,rfl,gn,rfl,gq⟩
 try dsimp only at ab
 obtain rfl:=si ab
 exact ⟨_,cO,cQ,cR,cS,rfl,gn,(by kernel_rfl),gq⟩
 refine bk 10<|lp [0,1,7,14,16,18] (fun n l h=>∃ b7 b8 an cT ax ao b9 ak ca,correctorref12_told_l5 F a0 a1 bj n b8 an cT ax=some dS∧RCs (α:=aj) b7 b9 b8∧RCs (α:=Int) b7 ca cT∧l=[(0,v2),(1,v4),(7,ao),(14,V an),(16,ak),(18,V ax)]∧St hs [] Z (0,0) b7 h [.gs ao b9 (aa aj), .gs ak ca (aa Int)]) F ⟨_,cI,J,cJ,0,cK,cL,cM,cN,ad,gk,gl,(by kernel_rfl),gm⟩ ?_
 rintro dX l h6 ⟨b7,b8,an,cT,ax,ao,b9,ak,ca,ad,eO,bl,rfl,bz⟩
 rcases dX with _ | dX
 cases (show none=some dS from ad)
 rw [correctorref12_told_l5] at ad
 refine sq<|s0<|bC 2 ak (bz.dP (i:=1) rfl bl)<|aT 0 ad ?_ ?_<;>intro h7 ad
 refine xn 0<|dT<|sk<|sq<|bk 11<|ek GC bz ?_
 intro eP h8 eQ bh
 refine yq 3 [(189,V an),(188,v4),(187,ao),(0,v2),(1,v4),(7,ao),(14,V an),(16,ak),(18,V ax)] ?_
 obtain ⟨eR,ad⟩:=aH ad
 refine aF rfl trivial (bx rfl rfl (by kernel_rfl:slTy _ _=some (aa al)) (RS.cG (U.mono bz.ag) (by omega)) eR.1 eR.2)<|yq 1 [(191, .pointer (some (bw v4 an (aa al) 1))),(187,ao),(0,v2),(1,v4),(7,ao),(14,V an),(16,ak),(18,V ax)] ?_
 obtain ⟨aI,gr,ad⟩:=ai ad
 obtain ⟨h9,gu,gv⟩:=RS.bV (U.mono bz.ag) (i:=an) gr
 obtain rfl:=eH gu
 refine cg rfl rfl trivial (fun h2 hz=>bE (w:=V aI.ah) (gv h2 hz) rfl (by kernel_rfl)) (bh.bO (aO.refl _)) (aG (v:=V aI.ah) trivial) trivial<|yq 2 [(194,V ax),(193,ak),(192,V aI.ah),(187,ao),(0,v2),(1,v4),(7,ao),(14,V an),(16,ak),(18,V ax)] ?_
 obtain ⟨eS,ad⟩:=aH ad
 refine aF rfl trivial (bx rfl rfl (by kernel_rfl:slTy _ _=some (aa Int)) (bh.bR (j:=1) rfl bl (by omega)) eS.1 eS.2) ?_
 obtain ⟨aM,eT,ad⟩:=ai ad
 obtain ⟨ia,gw,gx,ib⟩:=bh.cv (j:=1) rfl bl (i:=ax) eT
 obtain rfl:=fB gw
 have gy:=dw eT
 have eU:=bh.bR (j:=1) rfl bl gy
 have ic:(baseOf ak).block<eP:=dD (eQ.1 _ (au (i:=1) rfl)) eU
 refine dy rfl trivial rfl (by show (baseOf ak).block<_;omega) (aG (v:=V aM) trivial) (bE (w:=V aM) gx rfl (by kernel_rfl)) trivial<|yq 3 [(199,V an),(198,v4),(197,V (af (aI.ah+aM))),(187,ao),(0,v2),(1,v4),(7,ao),(14,V an),(16,ak),(18,V ax)] ?_
 obtain ⟨eV,ad⟩:=aH ad
 refine aF rfl trivial (bx rfl rfl (by kernel_rfl:slTy _ _=some (aa al)) (RS.cG (U.mono bz.ag) (by omega)) eV.1 eV.2)<|yq 1 [(201, .pointer (some (bw v4 an (aa al) 1))),(197,V (af (aI.ah+aM))),(187,ao),(0,v2),(1,v4),(7,ao),(14,V an),(16,ak),(18,V ax)] ?_
 obtain ⟨aZ,gz,ad⟩:=ai ad
 obtain ⟨ie,gA,gB⟩:=RS.bV (U.mono bz.ag) (i:=an) gz
 obtain rfl:=eH gA
 refine cg rfl rfl trivial (fun h2 hz=>bE (w:=V aZ.ah) (gB h2 hz) rfl (by kernel_rfl)) (bh.bO (aO.refl _)) (aG (v:=V aZ.ah) trivial) trivial<|yq 2 [(204,V ax),(203,ak),(202,V aZ.ah),(197,V (af (aI.ah+aM))),(187,ao),(0,v2),(1,v4),(7,ao),(14,V an),(16,ak),(18,V ax)] ?_
 obtain ⟨eW,ad⟩:=aH ad
 refine aF rfl trivial (bx rfl rfl (by kernel_rfl:slTy _ _=some (aa Int)) (bh.bR (j:=1) rfl bl (by omega)) eW.1 eW.2) ?_
 obtain ⟨bb,eX,ad⟩:=ai ad
 obtain ⟨ig,gC,gD,ij⟩:=bh.cv (j:=1) rfl bl (i:=ax) eX
 obtain rfl:=fB gC
 have gE:=dw eX
 have eY:=bh.bR (j:=1) rfl bl gE
 have ik:(baseOf ak).block<eP:=dD (eQ.1 _ (au (i:=1) rfl)) eY
 refine dy rfl trivial rfl (by show (baseOf ak).block<_;omega) (aG (v:=V bb) trivial) (bE (w:=V bb) gD rfl (by kernel_rfl)) trivial<|yq 3 [(209, .agg #[V 4,V (af (aI.ah+aM)),V (af ((af (aZ.ah+bb))+1))]),(187,ao),(0,v2),(1,v4),(7,ao),(14,V an),(16,ak),(18,V ax)] ?_
 have gF:RCs (α:=aj) b7 [V 4,V (af (aI.ah+aM)),V (af ((af (aZ.ah+bb))+1))] [(⟨4,af (aI.ah+aM),af ((af (aZ.ah+bb))+1)⟩:aj)]:=RCs.cons (cs:=[V 4,V (af (aI.ah+aM)),V (af ((af (aZ.ah+bb))+1))]) rfl (RCs.bq _)
 refine iU rfl trivial (c6 (cells:=[V 4,V (af (aI.ah+aM)),V (af ((af (aZ.ah+bb))+1))]) (s:=3) (by kernel_rfl)) (by kernel_rfl) bh (by omega) (Nat.add_lt_add_left (by decide) _) ?_
 intro gG il im iq ir eZ
 obtain ⟨iu,ad⟩:=aH ad
 have cU:St _ _ _ _ _ _ ([.gs ao b9 (aa aj)]++[.gs gG [V 4,V (af (aI.ah+aM)),V (af ((af (aZ.ah+bb))+1))] (aa aj), .gs ak ca (aa Int)]):=(eZ.front 1 rfl)
 refine iC rfl trivial cU (dE (ys:=[(⟨4,af (aI.ah+aM),af ((af (aZ.ah+bb))+1)⟩:aj)]) (bX:=24) cU.sub (i:=0) rfl eO ((eZ.bZ).eB (j:=0) rfl gF) rfl rfl (by kernel_rfl) (by omega) (by omega)) (aO.refl _) (.a3 (cU.bL 1 rfl (jS eY)) (.a3 trivial (.a3 (cU.bL 1 rfl (jS eU)) (.a3 trivial .nil)))) ?_
 rintro e0 gH iv ⟨gI,gJ⟩
 refine ye 1 [(7,e0),(0,v2),(1,v4),(14,V an),(16,ak),(18,V ax)] ?_
 have gK:=gJ.aY
 refine gp 3 ?_
 exact ⟨dX,a7 _,⟨_,b8++[(⟨4,af (aI.ah+aM),af ((af (aZ.ah+bb))+1)⟩:aj)],an,cT,af (ax+1),e0,gH,ak,ca,ad,gI,bl,(by kernel_rfl),(((gK.front 2 rfl).front 1 rfl).takeN 2)⟩⟩
 refine xn 0<|dF<|xt 10<|aS ?_
 obtain rfl:=si ad
 exact ⟨_,b8,an,ao,b9,rfl,eO,(by kernel_rfl),(bz.takeN 1)⟩
 refine s0<|kb 1 165 aE ?_ ?_<;>intro iw aE
 refine xn 1<|dF<|sk ?_
 obtain rfl:=si aE
 exact ⟨_,b6,dO.2.1,ae,bK,ba,dR,rfl,(eF.mono bQ),eL,(by kernel_rfl),((eN.front 0 rfl).front 1 rfl)⟩
 refine xn 1<|dT<|ek Fz eN ?_
 intro ix iy iz dY
 refine yq 3 [(169,V J),(168,v4),(167,ae),(16,ba),(0,v2),(1,v4),(7,ae),(14,V J)] ?_
 obtain ⟨e2,aE⟩:=aH aE
 refine aF rfl trivial (bx rfl rfl (by kernel_rfl:slTy _ _=some (aa al)) (RS.cG (U.mono (aN.ag.trans bQ)) (by omega)) e2.1 e2.2)<|yq 1 [(171, .pointer (some (bw v4 J (aa al) 1))),(167,ae),(16,ba),(0,v2),(1,v4),(7,ae),(14,V J)] ?_
 obtain ⟨aP,gL,aE⟩:=ai aE
 obtain ⟨iA,gM,gN⟩:=RS.bV (U.mono (aN.ag.trans bQ)) (i:=J) gL
 obtain rfl:=eH gM
 refine cg rfl rfl trivial (fun h2 hz=>bE (w:=V aP.ah) (gN h2 hz) rfl (by kernel_rfl)) (dY.bO (aO.refl _)) (aG (v:=V aP.ah) trivial) trivial<|yq 2 [(174,V J),(173,v4),(172,V aP.ah),(167,ae),(16,ba),(0,v2),(1,v4),(7,ae),(14,V J)] ?_
 obtain ⟨e3,aE⟩:=aH aE
 refine aF rfl trivial (bx rfl rfl (by kernel_rfl:slTy _ _=some (aa al)) (RS.cG (U.mono (aN.ag.trans bQ)) (by omega)) e3.1 e3.2)<|yq 1 [(176, .pointer (some (bw v4 J (aa al) 2))),(172,V aP.ah),(167,ae),(16,ba),(0,v2),(1,v4),(7,ae),(14,V J)] ?_
 obtain ⟨bc,gO,aE⟩:=ai aE
 obtain ⟨iB,gP,gQ⟩:=RS.bV (U.mono (aN.ag.trans bQ)) (i:=J) gO
 obtain rfl:=eH gP
 refine cg rfl rfl trivial (fun h2 hz=>bE (w:=V bc.To) (gQ h2 hz) rfl (by kernel_rfl)) (dY.bO (aO.refl _)) (aG (v:=V bc.To) trivial) trivial<|yq 1 [(178, .agg #[V 3,V aP.ah,V bc.To]),(167,ae),(16,ba),(0,v2),(1,v4),(7,ae),(14,V J)] ?_
 have gR:RCs (α:=aj) gf [V 3,V aP.ah,V bc.To] [(⟨3,aP.ah,bc.To⟩:aj)]:=RCs.cons (cs:=[V 3,V aP.ah,V bc.To]) rfl (RCs.bq _)
 refine iU rfl trivial (c6 (cells:=[V 3,V aP.ah,V bc.To]) (s:=3) (by kernel_rfl)) (by kernel_rfl) dY (by omega) (Nat.add_lt_add_left (by decide) _) ?_
 intro gS iD iE iF iG e4
 obtain ⟨iH,aE⟩:=aH aE
 have e5:St _ _ _ _ _ _ ([.gs ae bK (aa aj)]++[.gs gS [V 3,V aP.ah,V bc.To] (aa aj), .gs ba dR (aa Int)]):=(e4.front 2 rfl)
 refine iC rfl trivial e5 (dE (ys:=[(⟨3,aP.ah,bc.To⟩:aj)]) (bX:=24) e5.sub (i:=0) rfl (eF.mono bQ) ((e4.bZ).eB (j:=0) rfl gR) rfl rfl (by kernel_rfl) (by omega) (by omega)) (aO.refl _) (.a3 trivial (.a3 trivial .nil)) ?_
 rintro e6 gT iI ⟨gU,gV⟩
 refine ye 1 [(7,e6),(16,ba),(0,v2),(1,v4),(14,V J)] ?_
 have gW:=gV.aY
 obtain rfl:=si aE
 exact ⟨_,b6++[(⟨3,aP.ah,bc.To⟩:aj)],dO.2.1,e6,gT,ba,dR,rfl,gU,eL,(by kernel_rfl),(((gW.front 2 rfl).front 1 rfl).takeN 2)⟩
 refine s0<|a8 2 aA (U.mono aX.ag) ?_
 intro iJ aA
 refine bt 1 0 (fun e7=>V e7.Kind) aA (U.mono aX.ag) aX ?_
 intro e7 iK aA
 refine dv 0 aA ?_ ?_<;>intro iL aA
 refine xn 8<|dF<|sk ?_
 obtain rfl:=si aA
 exact ⟨_,bo,bp,bu,rfl,cA,(by kernel_rfl),aX⟩
 refine a8 3 aA (U.mono aX.ag) ?_
 intro iM aA
 refine bt 1 0 (fun e8=>V e8.Kind) aA (U.mono aX.ag) aX ?_
 intro e8 iN aA
 refine dv 0 aA ?_ ?_<;>intro iO aA
 refine xn 1<|dF<|sk ?_
 obtain rfl:=si aA
 exact ⟨_,bo,bp,bu,rfl,cA,(by kernel_rfl),aX⟩
 refine xn 1<|dT<|xt 9<|aS ?_
 obtain rfl:=si aA
 obtain rfl:=si ab
 exact ⟨_,bo,J,bp,bu,rfl,cA,(by kernel_rfl),aX⟩
 refine xn 0<|dF<|xt 8<|aS ?_
 obtain rfl:=si aW
 exact ⟨_,bo,bp,bu,rfl,cA,(by kernel_rfl),aX⟩
 refine bk 2<|lp [0,1,2,7,10] (fun n l h=>∃ dZ cb cW cc cd,correctorref12_told_l1 F a0 a1 bj n cb cW=some dA∧RCs (α:=aj) dZ cd cb∧l=[(0,v2),(1,v4),(2,v6),(7,cc),(10,V cW)]∧St hs [] Z (0,0) dZ h [.gs cc cd (aa aj)]) F ⟨_,cq,0,ct,cu,az,fG,(by kernel_rfl),fH⟩ ?_
 rintro ea l iP ⟨dZ,cb,cW,cc,cd,az,e9,rfl,bT⟩
 rcases ea with _ | ea
 cases (show none=some dA from az)
 rw [correctorref12_told_l1] at az
 refine sq<|s0<|bC 2 v6 (RS.len (bn.mono bT.ag))<|aT 0 az ?_ ?_<;>intro iQ az
 refine xn 0<|dT<|sk<|sq<|bk 3<|s0<|a8 2 az (bn.mono bT.ag) ?_
 intro iR az
 refine bt 1 1 (fun eb=>V eb.ah) az (bn.mono bT.ag) bT ?_
 intro eb iS az
 refine xn 1 ?_
 obtain ⟨ec,I,az⟩:=ai az
 refine aJ [0,1,2,7,10] (fun l h=>∃ ed cX cZ c3 c4,(cX,cZ)=ec∧RCs (α:=aj) ed c4 cX∧l=[(0,v2),(1,v4),(2,v6),(7,c3),(10,V cZ)]∧St hs [] Z (0,0) ed h [.gs c3 c4 (aa aj)]) ?_ ?_
 rintro l iT ⟨ed,cX,cZ,c3,c4,rfl,gX,rfl,gY⟩
 try dsimp only at az
 refine gp 3 ?_
 exact ⟨ea,a7 _,⟨_,cX,af (cZ+1),c3,c4,az,gX,(by kernel_rfl),gY⟩⟩
 refine bk 4<|lp [0,1,2,7,10,11] (fun n l h=>∃ ee bA bB c5 bD bF,correctorref12_told_l2 F a0 a1 bj n bA bB c5=some ec∧RCs (α:=aj) ee bF bA∧l=[(0,v2),(1,v4),(2,v6),(7,bD),(10,V bB),(11,V c5)]∧St hs [] Z (0,0) ee h [.gs bD bF (aa aj)]) F ⟨_,cb,cW,eb.ah,cc,cd,I,e9,(by kernel_rfl),bT⟩ ?_
 rintro eg l iV ⟨ee,bA,bB,c5,bD,bF,I,c8,rfl,aB⟩
 rcases eg with _ | eg
 cases (show none=some ec from I)
 rw [correctorref12_told_l2] at I
 refine sq<|s0<|a8 3 I (bn.mono aB.ag) ?_
 intro iX I
 refine bt 1 2 (fun fa=>V fa.To) I (bn.mono aB.ag) aB ?_
 intro fa iZ I
 refine aT 0 I ?_ ?_<;>intro ja I
 refine a8 3 I (bn.mono aB.ag) ?_
 intro jb I
 refine bt 1 0 (fun fb=>V fb.Kind) I (bn.mono aB.ag) aB ?_
 intro fb jc I
 refine aK 0 I ?_ ?_<;>intro jd I
 refine a8 4 I (U.mono aB.ag) ?_
 intro je I
 refine bt 1 0 (fun fc=>V fc.Kind) I (U.mono aB.ag) aB ?_
 intro fc jf I
 obtain ⟨jg,gZ,I⟩:=ai I
 refine cP 0 aB (iW F aB.inv gZ) ?_
 rintro _ jh eh rfl
 refine kb 0 72 I ?_ ?_<;>intro ji I
 refine xn 2<|dF<|xt 4<|aS ?_
 obtain rfl:=si I
 exact ⟨_,bA,bB,bD,bF,rfl,c8,(by kernel_rfl),eh⟩
 refine xn 2<|dT<|sk<|sq<|bk 5<|sp 1<|sq<|s0<|a8 2 I (U.mono aB.ag) ?_
 intro jj I
 refine bt 1 1 (fun ei=>V ei.ah) I (U.mono aB.ag) eh ?_
 intro ei jk I
 refine xn 1 ?_
 obtain ⟨ej,aC,I⟩:=ai I
 refine aJ [0,1,2,7,10,11,12] (fun l h=>∃ en bU aQ aw eo bW bY,(bU,aQ,aw,eo)=ej∧RCs (α:=aj) en bY bU∧l=[(0,v2),(1,v4),(2,v6),(7,bW),(10,V aQ),(11,V aw),(12, .bool eo)]∧St hs [] Z (0,0) en h [.gs bW bY (aa aj)]) ?_ ?_
 rintro l jl ⟨en,bU,aQ,aw,eo,bW,bY,rfl,ep,rfl,b0⟩
 try dsimp only at I
 refine sq ?_
 obtain ⟨g1,a2,I⟩:=ai I
 refine aJ [0,1,2,7,10,11,107] (fun l h=>∃ dc cf er aD ch,(cf,er)=g1∧RCs (α:=aj) dc ch cf∧l=[(0,v2),(1,v4),(2,v6),(7,aD),(10,V aQ),(11,V aw),(107, .bool er)]∧St hs [] Z (0,0) dc h [.gs aD ch (aa aj)]) ?_ ?_
 rintro l jm ⟨dc,cf,er,aD,ch,rfl,fe,rfl,b1⟩
 try dsimp only at I
 obtain ⟨g2,aL,I⟩:=ai I
 refine aJ [0,1,2,7,10,11] (fun l h=>∃ et dd dg di,dd=g2∧RCs (α:=aj) et di dd∧l=[(0,v2),(1,v4),(2,v6),(7,dg),(10,V aQ),(11,V aw)]∧St hs [] Z (0,0) et h [.gs dg di (aa aj)]) ?_ ?_
 rintro l jn ⟨et,dd,dg,di,rfl,g3,rfl,g4⟩
 try dsimp only at I
 refine gp 3 ?_
 exact ⟨eg,a7 _,⟨_,dd,aQ,af (aw+1),dg,di,I,g3,(by kernel_rfl),g4⟩⟩
 refine db aL ?_ ?_<;>intro jo aL
 refine ek Du b1 ?_
 intro jq jr js eu
 refine yq 3 [(110,V aw),(109,v4),(108,aD),(0,v2),(1,v4),(2,v6),(7,aD),(10,V aQ),(11,V aw)] ?_
 obtain ⟨ff,aL⟩:=aH aL
 refine aF rfl trivial (bx rfl rfl (by kernel_rfl:slTy _ _=some (aa al)) (RS.cG (U.mono b1.ag) (by omega)) ff.1 ff.2)<|yq 1 [(112, .pointer (some (bw v4 aw (aa al) 1))),(108,aD),(0,v2),(1,v4),(2,v6),(7,aD),(10,V aQ),(11,V aw)] ?_
 obtain ⟨aU,g5,aL⟩:=ai aL
 obtain ⟨jt,g6,g7⟩:=RS.bV (U.mono b1.ag) (i:=aw) g5
 obtain rfl:=eH g6
 refine cg rfl rfl trivial (fun h2 hz=>bE (w:=V aU.ah) (g7 h2 hz) rfl (by kernel_rfl)) (eu.bO (aO.refl _)) (aG (v:=V aU.ah) trivial) trivial<|yq 2 [(115,V aw),(114,v4),(113,V aU.ah),(108,aD),(0,v2),(1,v4),(2,v6),(7,aD),(10,V aQ),(11,V aw)] ?_
 obtain ⟨fg,aL⟩:=aH aL
 refine aF rfl trivial (bx rfl rfl (by kernel_rfl:slTy _ _=some (aa al)) (RS.cG (U.mono b1.ag) (by omega)) fg.1 fg.2)<|yq 1 [(117, .pointer (some (bw v4 aw (aa al) 2))),(113,V aU.ah),(108,aD),(0,v2),(1,v4),(2,v6),(7,aD),(10,V aQ),(11,V aw)] ?_
 obtain ⟨bd,g8,aL⟩:=ai aL
 obtain ⟨ju,g9,ha⟩:=RS.bV (U.mono b1.ag) (i:=aw) g8
 obtain rfl:=eH g9
 refine cg rfl rfl trivial (fun h2 hz=>bE (w:=V bd.To) (ha h2 hz) rfl (by kernel_rfl)) (eu.bO (aO.refl _)) (aG (v:=V bd.To) trivial) trivial<|yq 1 [(119, .agg #[V 2,V aU.ah,V bd.To]),(108,aD),(0,v2),(1,v4),(2,v6),(7,aD),(10,V aQ),(11,V aw)] ?_
 have hb:RCs (α:=aj) dc [V 2,V aU.ah,V bd.To] [(⟨2,aU.ah,bd.To⟩:aj)]:=RCs.cons (cs:=[V 2,V aU.ah,V bd.To]) rfl (RCs.bq _)
 refine iU rfl trivial (c6 (cells:=[V 2,V aU.ah,V bd.To]) (s:=3) (by kernel_rfl)) (by kernel_rfl) eu (by omega) (Nat.add_lt_add_left (by decide) _) ?_
 intro hc jv jw jx jy fh
 obtain ⟨jz,aL⟩:=aH aL
 have fi:St _ _ _ _ _ _ ([.gs aD ch (aa aj)]++[.gs hc [V 2,V aU.ah,V bd.To] (aa aj)]):=(fh.front 1 rfl)
 refine iC rfl trivial fi (dE (ys:=[(⟨2,aU.ah,bd.To⟩:aj)]) (bX:=24) fi.sub (i:=0) rfl fe ((fh.bZ).eB (j:=0) rfl hb) rfl rfl (by kernel_rfl) (by omega) (by omega)) (aO.refl _) (.a3 trivial (.a3 trivial .nil)) ?_
 rintro fj hf jA ⟨hg,hh⟩
 refine ye 1 [(7,fj),(0,v2),(1,v4),(2,v6),(10,V aQ),(11,V aw)] ?_
 have hi:=hh.aY
 obtain rfl:=si aL
 exact ⟨_,cf++[(⟨2,aU.ah,bd.To⟩:aj)],fj,hf,rfl,hg,(by kernel_rfl),(hi.takeN 1)⟩
 refine sk ?_
 obtain rfl:=si aL
 exact ⟨_,cf,aD,ch,rfl,fe,(by kernel_rfl),b1⟩
 refine g0<|kb 2 100 a2 ?_ ?_<;>intro jB a2
 refine a8 2 a2 (U.mono b0.ag) ?_
 intro jC a2
 refine bt 1 0 (fun fk=>V fk.Kind) a2 (U.mono b0.ag) b0 ?_
 intro fk jD a2
 refine aK 0 a2 ?_ ?_<;>intro jE a2
 refine xn 1 ?_
 obtain rfl:=si a2
 exact ⟨_,bU,true,bW,bY,rfl,ep,(by kernel_rfl),b0⟩
 refine xn 1 ?_
 obtain rfl:=si a2
 exact ⟨_,bU,false,bW,bY,rfl,ep,(by kernel_rfl),b0⟩
 refine xn 7 ?_
 obtain rfl:=si a2
 exact ⟨_,bU,false,bW,bY,rfl,ep,(by kernel_rfl),b0⟩
 refine bk 6<|lp [0,1,2,7,10,11,12,13] (fun n l h=>∃ ew bG b2 b4 dj cj bH bI,correctorref12_told_l3 F a0 a1 bj n bG b2 b4 dj cj=some ej∧RCs (α:=aj) ew bI bG∧l=[(0,v2),(1,v4),(2,v6),(7,bH),(10,V b2),(11,V b4),(12, .bool dj),(13,V cj)]∧St hs [] Z (0,0) ew h [.gs bH bI (aa aj)]) F ⟨_,bA,bB,c5,false,ei.ah,bD,bF,aC,c8,(by kernel_rfl),eh⟩ ?_
 rintro ey l jF ⟨ew,bG,b2,b4,dj,cj,bH,bI,aC,dm,rfl,bf⟩
 rcases ey with _ | ey
 cases (show none=some ej from aC)
 rw [correctorref12_told_l3] at aC
 refine sq<|s0<|a8 3 aC (U.mono bf.ag) ?_
 intro jG aC
 refine bt 1 2 (fun fl=>V fl.To) aC (U.mono bf.ag) bf ?_
 intro fl jH aC
 refine aT 0 aC ?_ ?_<;>intro jI aC
 refine xn 0<|dT<|sk<|sq<|bk 7 ?_
 obtain ⟨hj,a5,aC⟩:=ai aC
 refine aJ [0,1,2,7,10,11,12,13] (fun l h=>∃ ez dn dp dr ds,(dn,dp)=hj∧RCs (α:=aj) ez ds dn∧l=[(0,v2),(1,v4),(2,v6),(7,dr),(10,V b2),(11,V b4),(12, .bool dp),(13,V cj)]∧St hs [] Z (0,0) ez h [.gs dr ds (aa aj)]) ?_ ?_
 rintro l jJ ⟨ez,dn,dp,dr,ds,rfl,hk,rfl,hl⟩
 try dsimp only at aC
 refine gp 3 ?_
 exact ⟨ey,a7 _,⟨_,dn,b2,b4,dp,af (cj+1),dr,ds,aC,hk,(by kernel_rfl),hl⟩⟩
 refine g0<|kb 2 92 a5 ?_ ?_<;>intro jK a5
 refine xn 7 ?_
 obtain rfl:=si a5
 exact ⟨_,bG,true,bH,bI,rfl,dm,(by kernel_rfl),bf⟩
 refine a8 2 a5 (cp.mono bf.ag) ?_
 intro jL a5
 refine bt 0 0 (fun fm=> .int .u8 (fm.toNat:Int)) a5 (cp.mono bf.ag) bf ?_
 intro fm jM a5
 refine aK 0 a5 ?_ ?_ (kd:= .u8)<;>intro jN a5
 refine xn 2 ?_
 obtain rfl:=si a5
 exact ⟨_,bG,true,bH,bI,rfl,dm,(by kernel_rfl),bf⟩
 refine xn 2 ?_
 obtain rfl:=si a5
 exact ⟨_,bG,false,bH,bI,rfl,dm,(by kernel_rfl),bf⟩
 refine xn 0<|dF<|xt 6<|aS ?_
 obtain rfl:=si aC
 exact ⟨_,bG,b2,b4,dj,bH,bI,rfl,dm,(by kernel_rfl),bf⟩
 refine xn 10<|dF<|xt 4<|aS ?_
 obtain rfl:=si I
 exact ⟨_,bA,bB,bD,bF,rfl,c8,(by kernel_rfl),aB⟩
 refine xn 17<|dF<|xt 4<|aS ?_
 obtain rfl:=si I
 exact ⟨_,bA,bB,bD,bF,rfl,c8,(by kernel_rfl),aB⟩
 refine xn 0<|dF<|xt 2<|aS ?_
 obtain rfl:=si az
 exact ⟨_,cb,cc,cd,rfl,e9,(by kernel_rfl),bT⟩
 refine bk 0 ?_
 have hn:=fC.dh (aa aj)
 refine lp [0,1,2,7,8,9] (fun n l h=>∃ ck cl dt aV a6 cm ay cn,correctorref12_told_l0 F a0 a1 bj n cl dt aV=some dx∧RCs (α:=aj) ck cm cl∧RCs (α:=Int) ck cn dt∧l=[(0,v2),(1,v4),(2,v6),(7,a6),(8,ay),(9,V aV)]∧St hs [] Z (0,0) ck h [.gs a6 cm (aa aj), .gs ay cn (aa Int)]) F ⟨_,[],fz,0,(.slice none 0 0),[],fD,fE,aq,(RCs.bq _),fF,(by kernel_rfl),hn⟩ ?_
 rintro eA l jO ⟨ck,cl,dt,aV,a6,cm,ay,cn,aq,fo,bm,rfl,eC⟩
 rcases eA with _ | eA
 cases (show none=some dx from aq)
 rw [correctorref12_told_l0] at aq
 refine sq<|s0<|bC 2 ay (eC.dP (i:=1) rfl bm)<|aT 0 aq ?_ ?_<;>intro jP aq
 refine xn 0<|dT<|sk<|sq<|bk 1<|ek B7 eC ?_
 intro fp jQ fq bJ
 refine yq 3 [(29,V aV),(28,ay),(27,a6),(0,v2),(1,v4),(2,v6),(7,a6),(8,ay),(9,V aV)] ?_
 obtain ⟨fr,aq⟩:=aH aq
 refine aF rfl trivial (bx rfl rfl (by kernel_rfl:slTy _ _=some (aa Int)) (bJ.bR (j:=1) rfl bm (by omega)) fr.1 fr.2) ?_
 obtain ⟨a9,fs,aq⟩:=ai aq
 obtain ⟨jR,ho,hp,jT⟩:=bJ.cv (j:=1) rfl bm (i:=aV) fs
 obtain rfl:=fB ho
 have hq:=dw fs
 have ft:=bJ.bR (j:=1) rfl bm hq
 have jU:(baseOf ay).block<fp:=dD (fq.1 _ (au (i:=1) rfl)) ft
 refine dy rfl trivial rfl (by show (baseOf ay).block<_;omega) (aG (v:=V a9) trivial) (bE (w:=V a9) hp rfl (by kernel_rfl)) trivial<|yq 2 [(33,V aV),(32,ay),(31,V a9),(27,a6),(0,v2),(1,v4),(2,v6),(7,a6),(8,ay),(9,V aV)] ?_
 obtain ⟨fu,aq⟩:=aH aq
 refine aF rfl trivial (bx rfl rfl (by kernel_rfl:slTy _ _=some (aa Int)) (bJ.bR (j:=1) rfl bm (by omega)) fu.1 fu.2) ?_
 obtain ⟨bg,fv,aq⟩:=ai aq
 obtain ⟨jV,hr,ht,jW⟩:=bJ.cv (j:=1) rfl bm (i:=aV) fv
 obtain rfl:=fB hr
 have hv:=dw fv
 have fw:=bJ.bR (j:=1) rfl bm hv
 have jX:(baseOf ay).block<fp:=dD (fq.1 _ (au (i:=1) rfl)) fw
 refine dy rfl trivial rfl (by show (baseOf ay).block<_;omega) (aG (v:=V bg) trivial) (bE (w:=V bg) ht rfl (by kernel_rfl)) trivial<|yq 2 [(37, .agg #[V 1,V a9,V (af (bg+1))]),(27,a6),(0,v2),(1,v4),(2,v6),(7,a6),(8,ay),(9,V aV)] ?_
 have hx:RCs (α:=aj) ck [V 1,V a9,V (af (bg+1))] [(⟨1,a9,af (bg+1)⟩:aj)]:=RCs.cons (cs:=[V 1,V a9,V (af (bg+1))]) rfl (RCs.bq _)
 refine iU rfl trivial (c6 (cells:=[V 1,V a9,V (af (bg+1))]) (s:=3) (by kernel_rfl)) (by kernel_rfl) bJ (by omega) (Nat.add_lt_add_left (by decide) _) ?_
 intro hy jY jZ j0 j1 fx
 obtain ⟨j2,aq⟩:=aH aq
 have du:St _ _ _ _ _ _ ([.gs a6 cm (aa aj)]++[.gs hy [V 1,V a9,V (af (bg+1))] (aa aj), .gs ay cn (aa Int)]):=(fx.front 1 rfl)
 refine iC rfl trivial du (dE (ys:=[(⟨1,a9,af (bg+1)⟩:aj)]) (bX:=24) du.sub (i:=0) rfl fo ((fx.bZ).eB (j:=0) rfl hx) rfl rfl (by kernel_rfl) (by omega) (by omega)) (aO.refl _) (.a3 (du.bL 1 rfl (jS fw)) (.a3 (du.bL 1 rfl (jS ft)) .nil)) ?_
 rintro fy hA j3 ⟨hB,hC⟩
 refine ye 1 [(7,fy),(0,v2),(1,v4),(2,v6),(8,ay),(9,V aV)] ?_
 have hD:=hC.aY
 refine gp 3 ?_
 exact ⟨eA,a7 _,⟨_,cl++[(⟨1,a9,af (bg+1)⟩:aj)],dt,af (aV+1),fy,hA,ay,cn,aq,hB,bm,(by kernel_rfl),(((hD.front 2 rfl).front 1 rfl).takeN 2)⟩⟩
 refine xn 0<|dF<|xt 0<|aS ?_
 obtain rfl:=si aq
 exact ⟨_,cl,a6,cm,rfl,fo,(by kernel_rfl),(eC.takeN 1)⟩
def oB (F:Nat) (a0:aj) (a1:aj):Option Bool:=
 if a0.ah=a1.ah then
  if a0.To=a1.To then
   if a0.Code<a1.Code then
    some true
   else
    some false
  else
   if a0.To<a1.To then
    some true
   else
    some false
 else
  if a0.ah<a1.ah then
   some true
  else
   some false
theorem FP (F:Nat) {h:AH} {Z:Zn} {a0:aj} {a1:aj} (hI:Inv Z h) {r:Bool} (hm:oB F a0 a1=some r):
  bY Tryz.prog 52 [.agg #[V a0.Code,V a0.ah,V a0.To], .agg #[V a1.Code,V a1.ah,V a1.To]] h Z (.bool r):=by
 refine b1 Tryz.func52 hI ?_
 intro hs hS
 unfold oB at hm
 refine s0<|dt 0 [V a0.Code,V a0.ah,V a0.To] hS ?_
 intro J h2 I
 refine dt 0 [V a1.Code,V a1.ah,V a1.To] I ?_
 intro U aa j
 refine xn 1<|sq<|s0<|aD 1 1 (V a0.ah) j rfl<|aD 1 0 (V a1.ah) j rfl<|dv 0 hm ?_ ?_<;>intro ab hm
 refine xn 0<|dF<|sk<|sq<|s0<|aD 1 1 (V a0.To) j rfl<|aD 1 0 (V a1.To) j rfl<|dv 0 hm ?_ ?_<;>intro ad hm
 refine xn 0<|dF<|sk<|s0<|aD 1 1 (V a0.Code) j rfl<|aD 1 0 (V a1.Code) j rfl<|aT 0 hm ?_ ?_<;>intro ae hm
 refine xn 1<|rt<|⟨rfl,?_⟩
 obtain rfl:=si hm
 refine ⟨_,_,_,tk (.bool true) (ResL.nil),j,?_⟩
 exact rfl
 refine xn 1<|rt<|⟨rfl,?_⟩
 obtain rfl:=si hm
 refine ⟨_,_,_,tk (.bool false) (ResL.nil),j,?_⟩
 exact rfl
 refine xn 0<|dT<|s0<|aD 1 1 (V a0.To) j rfl<|aD 1 0 (V a1.To) j rfl<|aT 0 hm ?_ ?_<;>intro af hm
 refine xn 1<|rt<|⟨rfl,?_⟩
 obtain rfl:=si hm
 refine ⟨_,_,_,tk (.bool true) (ResL.nil),j,?_⟩
 exact rfl
 refine xn 1<|rt<|⟨rfl,?_⟩
 obtain rfl:=si hm
 refine ⟨_,_,_,tk (.bool false) (ResL.nil),j,?_⟩
 exact rfl
 refine xn 0<|dT<|s0<|aD 1 1 (V a0.ah) j rfl<|aD 1 0 (V a1.ah) j rfl<|aT 0 hm ?_ ?_<;>intro ag hm
 refine xn 1<|rt<|⟨rfl,?_⟩
 obtain rfl:=si hm
 refine ⟨_,_,_,tk (.bool true) (ResL.nil),j,?_⟩
 exact rfl
 refine xn 1<|rt<|⟨rfl,?_⟩
 obtain rfl:=si hm
 refine ⟨_,_,_,tk (.bool false) (ResL.nil),j,?_⟩
 exact rfl
def Fa:List br:=[uP 14 (mv 5),uP 15 (bc .gtr 3 14 0 3),uP 16 (mv 15),aM 16 17 (mv 0),aM 16 18 (mv 4),aM 16 19 (ia 32 17 18),cW 16 20 (ld 94 19),aM 16 21 (mv 3),aM 16 22 (mv 5),aM 16 23 (bc .sub 3 22 1 3),aM 16 24 (ia 32 21 23),cW 16 25 (ld 94 24),jR 16 (some 26) (cf 52 #[(t 20),(t 25)] #[94,94]) .make [6,11],uP 27 (pf 16 26)]
def Aq:List br:=[uP 30 (mv 5),uP 31 (bc .gtr 3 30 0 3),uP 32 (mv 31),aM 32 33 (mv 3),aM 32 34 (mv 5),aM 32 35 (bc .sub 3 34 1 3),aM 32 36 (ia 32 33 35),cW 32 37 (ld 94 36),aM 32 38 (mv 0),aM 32 39 (mv 4),aM 32 40 (ia 32 38 39),cW 32 41 (ld 94 40),aM 32 42 (bo .eql 94 37 41 94),uP 43 (pf 32 42)]
def yU:List aR:=[u 44 (mv 3),u 45 (.build 94 #[]),u 46 (.buildSlice 32 1 #[(0,(t 45))]),u 47 (cb .append #[(t 44),(t 46)] #[32,32]),u 3 (sg 47)]
def DI:List br:=[uP 48 (mv 3),uP 49 (mv 5),uP 50 (bc .add 3 49 1 3),uP 51 (.slice 32 (t 48) (some (t 50)) none none),uP 52 (mv 3),uP 53 (mv 5),uP 54 (.slice 32 (t 52) (some (t 53)) none none),uF 55 (cb .copy #[(t 51),(t 54)] #[32,32]) .make []]
def FZ:List aR:=[u 56 (mv 3),u 57 (mv 5),u 58 (mv 0),u 59 (mv 4),u 60 (ia 32 58 59),u 61 (ld 94 60),u 62 (ia 32 56 57),o (.store 94 (t 62) (t 61))]
def lE (F:Nat) (a0:List aj):Nat→(List aj)→Int→Int→Option ((List aj)×Int×Int)
 | 0,_,_,_=>none
 | n+1,J,I,j=>
  if (0:Int)<j then
   if 0≤I∧I<(a0.length:Int) then
    (a0[I.toNat]?).bind fun U=>
    if 0≤(af (j - 1))∧(af (j - 1))<(J.length:Int) then
     (J[(af (j - 1)).toNat]?).bind fun aa=>
     (oB F U aa).bind fun ab=>
     if ab=true then
      lE F a0 n J I (af (j - 1))
     else
      some (J,I,j)
    else none
   else none
  else
   some (J,I,j)
def correctorref14_Sort_l0 (F:Nat) (a0:List aj):Nat→(List aj)→Int→Option (List aj)
 | 0,_,_=>none
 | n+1,aa,ab=>
  if ab<(a0.length:Int) then
   ((((lE F a0 F aa ab (aa.length:Int)):Option ((List aj)×Int×Int)).bind fun o=>match o with
     | (U,J,j)=>((if (0:Int)<j then
       if 0≤(af (j - 1))∧(af (j - 1))<(U.length:Int) then
        (U[(af (j - 1)).toNat]?).bind fun ad=>
        if 0≤J∧J<(a0.length:Int) then
         (a0[J.toNat]?).bind fun ae=>
         if ad=ae then
          some (.inr (U,J))
         else
          some (.inl U)
        else none
       else none
      else
       some (.inl U)):Option (Sum (List aj) ((List aj)×Int))).bind fun o=>match o with
      | .inl I=>if I.length+[(⟨0,0,0⟩:aj)].length≤5864062014805 then
       if 0<(I++[(⟨0,0,0⟩:aj)]).length∧0≤(af (j+1))∧(af (j+1))≤((I++[(⟨0,0,0⟩:aj)]).length:Int)∧((I++[(⟨0,0,0⟩:aj)]).length:Int)≤((I++[(⟨0,0,0⟩:aj)]).length:Int) then
        if 0<(I++[(⟨0,0,0⟩:aj)]).length∧0≤j∧j≤((I++[(⟨0,0,0⟩:aj)]).length:Int)∧((I++[(⟨0,0,0⟩:aj)]).length:Int)≤((I++[(⟨0,0,0⟩:aj)]).length:Int) then
         if 0≤J∧J<(a0.length:Int) then
          (a0[J.toNat]?).bind fun ag=>
          if 0≤j∧j<((jo (I++[(⟨0,0,0⟩:aj)]) ((af (j+1)).toNat) j.toNat (Nat.min (((I++[(⟨0,0,0⟩:aj)]).length:Int).toNat - j.toNat) (((I++[(⟨0,0,0⟩:aj)]).length:Int).toNat - (af (j+1)).toNat))).length:Int) then
           ((jo (I++[(⟨0,0,0⟩:aj)]) ((af (j+1)).toNat) j.toNat (Nat.min (((I++[(⟨0,0,0⟩:aj)]).length:Int).toNat - j.toNat) (((I++[(⟨0,0,0⟩:aj)]).length:Int).toNat - (af (j+1)).toNat)))[j.toNat]?).bind fun ak=>
           some ((jo (I++[(⟨0,0,0⟩:aj)]) ((af (j+1)).toNat) j.toNat (Nat.min (((I++[(⟨0,0,0⟩:aj)]).length:Int).toNat - j.toNat) (((I++[(⟨0,0,0⟩:aj)]).length:Int).toNat - (af (j+1)).toNat))).set j.toNat ag,J)
          else none
         else none
        else none
       else none
      else none
      | .inr y=>some y):Option ((List aj)×Int)).bind fun o=>match o with
    | (ah,ai)=>correctorref14_Sort_l0 F a0 n ah (af (ai+1))
  else
   some aa
def nS (F:Nat) (a0:List aj):Option (List aj):=
 ((correctorref14_Sort_l0 F a0 F [] 0):Option (List aj)).bind fun o=>match o with
  | j=>some j
theorem EM (F:Nat) {h:AH} {Z:Zn} {a0:List aj} {v2} (hP:Pre Z h []) (aA:RS (α:=aj) Z v2 a0) {r:(List aj)} (hm:nS F a0=some r):
  bS Tryz.prog 27 [v2] h Z [] fun v Z' A'=>∃ v4 bL,v4=v∧A'=[.gs v4 bL (aa aj)]∧RCs (α:=aj) Z' bL r:=by
 refine b3 Tryz.func27 hP ?_
 intro hs hS
 unfold nS at hm
 replace hS:St hs [] Z (0,0) Z hs []:=hS
 refine sp 1<|sp 1<|sq<|sp 1 ?_
 obtain ⟨bd,ar,hm⟩:=ai hm
 refine aJ [3] (fun l h=>∃ bf bg aQ aW,bg=bd∧RCs (α:=aj) bf aW bg∧l=[(3,aQ)]∧St hs [] Z (0,0) bf h [.gs aQ aW (aa aj)]) ?_ ?_
 rintro l c3 ⟨bf,bg,aQ,aW,rfl,b5,rfl,b6⟩
 try dsimp only at hm
 refine sp 2<|rt<|⟨rfl,?_⟩
 obtain rfl:=si hm
 refine ⟨_,_,_,tk aQ (ResL.nil),b6,?_⟩
 exact ⟨aQ,aW,rfl,rfl,b5⟩
 refine bk 0 ?_
 have b7:=hS.dh (aa aj)
 refine lp [0,3,4] (fun n l h=>∃ bh aE aX aG aU,correctorref14_Sort_l0 F a0 n aE aX=some bd∧RCs (α:=aj) bh aU aE∧l=[(0,v2),(3,aG),(4,V aX)]∧St hs [] Z (0,0) bh h [.gs aG aU (aa aj)]) F ⟨_,[],0,(.slice none 0 0),[],ar,(RCs.bq _),(by kernel_rfl),b7⟩ ?_
 rintro bj l c4 ⟨bh,aE,aX,aG,aU,ar,bl,rfl,aZ⟩
 rcases bj with _ | bj
 cases (show none=some bd from ar)
 rw [correctorref14_Sort_l0] at ar
 refine sq<|s0<|bC 2 v2 (RS.len (aA.mono aZ.ag))<|aT 0 ar ?_ ?_<;>intro c5 ar
 refine xn 0<|dT<|sk<|sq ?_
 obtain ⟨b8,J,ar⟩:=ai ar
 refine aJ [0,3,4] (fun l h=>∃ bn a1 a2 a3 a5,(a1,a2)=b8∧RCs (α:=aj) bn a5 a1∧l=[(0,v2),(3,a3),(4,V a2)]∧St hs [] Z (0,0) bn h [.gs a3 a5 (aa aj)]) ?_ ?_
 rintro l c8 ⟨bn,a1,a2,a3,a5,rfl,b9,rfl,ca⟩
 try dsimp only at ar
 refine gp 3 ?_
 exact ⟨bj,a7 _,⟨_,a1,af (a2+1),a3,a5,ar,b9,(by kernel_rfl),ca⟩⟩
 refine bk 1<|s0<|bC 1 aG (aZ.dP (i:=0) rfl bl)<|xn 1<|sq ?_
 obtain ⟨bo,U,J⟩:=ai J
 refine aJ [0,3,4,5] (fun l h=>∃ bp aI ab I ae aK,(aI,ab,I)=bo∧RCs (α:=aj) bp aK aI∧l=[(0,v2),(3,ae),(4,V ab),(5,V I)]∧St hs [] Z (0,0) bp h [.gs ae aK (aa aj)]) ?_ ?_
 rintro l dc ⟨bp,aI,ab,I,ae,aK,rfl,aL,rfl,bu⟩
 try dsimp only at J
 refine sq ?_
 obtain ⟨cb,ad,J⟩:=ai J
 refine aJ [0,3,4,5] (fun l h=>∃ a6 ay aV bw, .inl ay=cb∧RCs (α:=aj) a6 bw ay∧l=[(0,v2),(3,aV),(4,V ab),(5,V I)]∧St hs [] Z (0,0) a6 h [.gs aV bw (aa aj)]) ?_ ?_
 rintro l dd ⟨a6,ay,aV,bw,rfl,cc,rfl,bz⟩
 try dsimp only at J
 refine sr yU<|xq 2 [(45, .agg #[V 0,V 0,V 0]),(44,aV),(0,v2),(3,aV),(4,V ab),(5,V I)] ?_
 have cd:RCs (α:=aj) a6 [V 0,V 0,V 0] [(⟨0,0,0⟩:aj)]:=RCs.cons (cs:=[V 0,V 0,V 0]) rfl (RCs.bq _)
 refine dG rfl trivial (c6 (cells:=[V 0,V 0,V 0]) (s:=3) (by kernel_rfl)) (by kernel_rfl) bz ?_
 intro cf dg bM
 obtain ⟨di,J⟩:=aH J
 refine eZ rfl trivial (dE (ys:=[(⟨0,0,0⟩:aj)]) (bX:=24) bM (i:=1) rfl cc ((bM).eB (j:=0) rfl cd) rfl rfl (by kernel_rfl) (by omega) (by omega)) ?_
 rintro aw ch dj ⟨bA,cj⟩
 refine xn 1<|cY DI cj ?_
 intro dm dn dp bB
 refine yq 3 [(50,V (af (I+1))),(48,aw),(3,aw),(0,v2),(4,V ab),(5,V I)] ?_
 obtain ⟨ba,J⟩:=aH J
 refine p8 rfl trivial (uG (a:=af (I+1)) (b:=((ay++[(⟨0,0,0⟩:aj)]).length:Int)) bB (i:=1) rfl bA ba.1 rfl (by kernel_rfl:slTy _ _=some (aa aj)) ⟨_,rfl⟩ rfl ba.2.1 ba.2.2.1 ba.2.2.2) ?_
 intro ck cl
 refine yq 2 [(53,V I),(52,aw),(51,ck),(3,aw),(0,v2),(4,V ab),(5,V I)] ?_
 obtain ⟨bb,J⟩:=aH J
 refine p8 rfl trivial (uG (a:=I) (b:=((ay++[(⟨0,0,0⟩:aj)]).length:Int)) bB (i:=1) rfl bA bb.1 rfl (by kernel_rfl:slTy _ _=some (aa aj)) ⟨_,rfl⟩ rfl bb.2.1 bb.2.2.1 bb.2.2.2) ?_
 intro dr cm
 have bN:St _ _ _ _ _ _ ([.gs aw ch (aa aj)]++[.gs cf [V 0,V 0,V 0] (aa aj)]):=(bB.front 1 rfl)
 refine lr rfl trivial bN (zl bN.sub (i:=0) rfl bA cl cm rfl rfl (by kernel_rfl:slTy _ _=some (aa aj)) (by omega) (by omega)) (aO.refl _) .nil ?_
 rintro ds dt ⟨bD,cn⟩
 refine yf [(3,aw),(0,v2),(4,V ab),(5,V I)] ?_
 have bc:=cn.aY
 refine rg FZ<|xq 4 [(59,V ab),(58,v2),(57,V I),(56,aw),(3,aw),(0,v2),(4,V ab)]<|a8 0 J (aA.mono bz.ag) ?_
 intro du J
 refine bt 0 0 (fun aq=> .agg #[V aq.Code,V aq.ah,V aq.To]) J (aA.mono bz.ag) bc ?_
 intro aq dv J
 refine eV 0 0 J bc bD rfl ?_
 intro dx J
 obtain ⟨dz,bP,J⟩:=ai J
 obtain ⟨dA,cp,dB,cq⟩:=bc.cv (j:=0) rfl bD (i:=I) bP
 obtain rfl:=nZ cp
 refine mg rfl trivial (gD (u':=aq) (vs:=[V aq.Code,V aq.ah,V aq.To]) (a9:=[V aq.Code,V aq.ah,V aq.To]) bc (m:=0) rfl bD bP cq rfl rfl rfl (by kernel_rfl) rfl rfl rfl rfl) ?_
 rintro dC ct ⟨cu,cw⟩
 refine xn 0 ?_
 obtain rfl:=si J
 exact ⟨_,(jo (ay++[(⟨0,0,0⟩:aj)]) ((af (I+1)).toNat) I.toNat (Nat.min (((ay++[(⟨0,0,0⟩:aj)]).length:Int).toNat - I.toNat) (((ay++[(⟨0,0,0⟩:aj)]).length:Int).toNat - (af (I+1)).toNat))).set I.toNat aq,ab,aw,ct,rfl,cu,(by kernel_rfl),(cw.takeN 1)⟩
 refine cY Aq bu ?_
 intro cx dH cy aB
 refine yq 1 [(30,V I),(0,v2),(3,ae),(4,V ab),(5,V I)] ?_
 rcases ifs ad with ⟨bF,ad⟩ | ⟨bF,ad⟩
 refine aF rfl trivial (bm rfl rfl (lO bF))<|yq 4 [(35,V (af (I - 1))),(33,ae),(32, .bool true),(0,v2),(3,ae),(4,V ab),(5,V I)] ?_
 obtain ⟨bQ,ad⟩:=aH ad
 refine aF rfl rfl (bx rfl rfl (by kernel_rfl:slTy _ _=some (aa aj)) (aB.bR (j:=0) rfl aL (by omega)) bQ.1 bQ.2) ?_
 obtain ⟨av,bT,ad⟩:=ai ad
 obtain ⟨dI,cz,cA,dJ⟩:=aB.cv (j:=0) rfl aL (i:=af (I - 1)) bT
 obtain rfl:=nZ cz
 have cB:=dw bT
 have cC:=aB.bR (j:=0) rfl aL cB
 have dL:(baseOf ae).block<cx:=dD (cy.1 _ (au (i:=0) rfl)) cC
 refine dy rfl rfl rfl (by show (baseOf ae).block<_;omega) (eC (cs:=[V av.Code,V av.ah,V av.To]) (.cons trivial (.cons trivial (.cons trivial .nil)))) (bE (w:= .agg #[V av.Code,V av.ah,V av.To]) cA rfl (by kernel_rfl)) trivial<|yq 2 [(39,V ab),(38,v2),(37, .agg #[V av.Code,V av.ah,V av.To]),(32, .bool true),(0,v2),(3,ae),(4,V ab),(5,V I)] ?_
 obtain ⟨bU,ad⟩:=aH ad
 refine aF rfl rfl (bx rfl rfl (by kernel_rfl:slTy _ _=some (aa aj)) (RS.cG (aA.mono bu.ag) (by omega)) bU.1 bU.2) ?_
 obtain ⟨az,cD,ad⟩:=ai ad
 obtain ⟨dM,cE,cF⟩:=RS.bV (aA.mono bu.ag) (i:=ab) cD
 obtain rfl:=nZ cE
 refine cg rfl rfl rfl (fun h2 hz=>bE (w:= .agg #[V az.Code,V az.ah,V az.To]) (cF h2 hz) rfl (by kernel_rfl)) (aB.bO (aO.refl _)) (eC (cs:=[V az.Code,V az.ah,V az.To]) (.cons trivial (.cons trivial (.cons trivial .nil)))) trivial ?_
 rcases ifs ad with ⟨bG,ad⟩ | ⟨bG,ad⟩
 refine aF rfl rfl (bm rfl rfl (A9 (x:=av) (y:=az) bG))<|ye 1 [(43, .bool true),(0,v2),(3,ae),(4,V ab),(5,V I)] ?_
 have cH:=aB.aY
 refine dT<|xt 1<|aS ?_
 obtain rfl:=si ad
 obtain rfl:=si J
 exact ⟨_,aI,ab,ae,aK,rfl,aL,(by kernel_rfl),cH⟩
 refine aF rfl rfl (bm rfl rfl (wS (x:=av) (y:=az) bG))<|ye 1 [(43, .bool false),(0,v2),(3,ae),(4,V ab),(5,V I)] ?_
 have cI:=aB.aY
 refine dF<|sk ?_
 obtain rfl:=si ad
 exact ⟨_,aI,ae,aK,rfl,aL,(by kernel_rfl),cI⟩
 refine aF rfl trivial (bm rfl rfl (lR bF))<|ye 12 [(43, .bool false),(0,v2),(3,ae),(4,V ab),(5,V I)] ?_
 have cJ:=aB.aY
 refine dF<|sk ?_
 obtain rfl:=si ad
 exact ⟨_,aI,ae,aK,rfl,aL,(by kernel_rfl),cJ⟩
 refine bk 2<|lp [0,3,4,5] (fun n l h=>∃ bH aM ao an ak aC,lE F a0 n aM ao an=some bo∧RCs (α:=aj) bH aC aM∧l=[(0,v2),(3,ak),(4,V ao),(5,V an)]∧St hs [] Z (0,0) bH h [.gs ak aC (aa aj)]) F ⟨_,aE,aX,(aE.length:Int),aG,aU,U,bl,(by kernel_rfl),aZ⟩ ?_
 rintro bI l dN ⟨bH,aM,ao,an,ak,aC,U,aN,rfl,bJ⟩
 rcases bI with _ | bI
 cases (show none=some bo from U)
 rw [lE] at U
 refine sq<|cY Fa bJ ?_
 intro cK dO cL aD
 refine yq 1 [(14,V an),(0,v2),(3,ak),(4,V ao),(5,V an)] ?_
 rcases ifs U with ⟨bK,U⟩ | ⟨bK,U⟩
 refine aF rfl trivial (bm rfl rfl (lO bK))<|yq 3 [(18,V ao),(17,v2),(16, .bool true),(0,v2),(3,ak),(4,V ao),(5,V an)] ?_
 obtain ⟨bW,U⟩:=aH U
 refine aF rfl rfl (bx rfl rfl (by kernel_rfl:slTy _ _=some (aa aj)) (RS.cG (aA.mono bJ.ag) (by omega)) bW.1 bW.2) ?_
 obtain ⟨ax,cM,U⟩:=ai U
 obtain ⟨dQ,cN,cO⟩:=RS.bV (aA.mono bJ.ag) (i:=ao) cM
 obtain rfl:=nZ cN
 refine cg rfl rfl rfl (fun h2 hz=>bE (w:= .agg #[V ax.Code,V ax.ah,V ax.To]) (cO h2 hz) rfl (by kernel_rfl)) (aD.bO (aO.refl _)) (eC (cs:=[V ax.Code,V ax.ah,V ax.To]) (.cons trivial (.cons trivial (.cons trivial .nil)))) trivial<|yq 3 [(23,V (af (an - 1))),(21,ak),(20, .agg #[V ax.Code,V ax.ah,V ax.To]),(16, .bool true),(0,v2),(3,ak),(4,V ao),(5,V an)] ?_
 obtain ⟨bY,U⟩:=aH U
 refine aF rfl rfl (bx rfl rfl (by kernel_rfl:slTy _ _=some (aa aj)) (aD.bR (j:=0) rfl aN (by omega)) bY.1 bY.2) ?_
 obtain ⟨aP,b0,U⟩:=ai U
 obtain ⟨dR,cP,cQ,dS⟩:=aD.cv (j:=0) rfl aN (i:=af (an - 1)) b0
 obtain rfl:=nZ cP
 have cR:=dw b0
 have cS:=aD.bR (j:=0) rfl aN cR
 have dV:(baseOf ak).block<cK:=dD (cL.1 _ (au (i:=0) rfl)) cS
 refine dy rfl rfl rfl (by show (baseOf ak).block<_;omega) (eC (cs:=[V aP.Code,V aP.ah,V aP.To]) (.cons trivial (.cons trivial (.cons trivial .nil)))) (bE (w:= .agg #[V aP.Code,V aP.ah,V aP.To]) cQ rfl (by kernel_rfl)) trivial ?_
 obtain ⟨cT,cU,U⟩:=ai U
 have b1:=aD.bZ
 obtain ⟨dW,dX,cW,b2,rfl⟩:=FP F b1.inv cU
 have cX:=St.call (A:=[]) (B:=[.gs ak aC (aa aj)]) b1 b2
 refine df rfl rfl aD (cr cW rfl rfl rfl) cX (St.de b2) ?_
 intro dY cZ
 refine ye 1 [(27, .bool cT),(0,v2),(3,ak),(4,V ao),(5,V an)] ?_
 have b4:=cZ.aY
 refine db U ?_ ?_<;>intro dZ U
 refine sk<|bk 3<|gp 3 ?_
 exact ⟨bI,a7 _,⟨_,aM,ao,af (an - 1),ak,aC,U,aN,(by kernel_rfl),b4⟩⟩
 refine xt 2<|aS ?_
 obtain rfl:=si U
 exact ⟨_,aM,ao,an,ak,aC,rfl,aN,(by kernel_rfl),b4⟩
 refine aF rfl trivial (bm rfl rfl (lR bK))<|ye 12 [(27, .bool false),(0,v2),(3,ak),(4,V ao),(5,V an)] ?_
 have c0:=aD.aY
 refine dF<|xt 2<|aS ?_
 obtain rfl:=si U
 exact ⟨_,aM,ao,an,ak,aC,rfl,aN,(by kernel_rfl),c0⟩
 refine xn 0<|dF<|xt 0<|aS ?_
 obtain rfl:=si ar
 exact ⟨_,aE,aG,aU,rfl,bl,(by kernel_rfl),aZ⟩
def DX:List aR:=[u 22 (mv 7),u 23 (mv 7),u 24 (cb .len #[(t 23)] #[28]),u 25 (cf 25 #[(t 24)] #[3]),u 26 (mv 7),u 27 (cb .len #[(t 26)] #[28]),u 28 (.build 62 #[(0,(t 22)),(1,(t 25)),(3,(t 27))]),u 29 (.box 62 (t 28)),u 30 (mv 8),u 31 (mv 1),u 32 (.build 65 #[(0,(t 29)),(1,(t 30)),(2,(ci (-1))),(5,(t 31))]),u 33 (.box 65 (t 32)),u 9 (sg 33)]
def F8:List br:=[uP 40 (mv 8),uP 41 (mv 10),uP 42 (ia 56 40 41),uP 43 (fa 67 42 1),uL 44 (ld 3 43),uP 45 (mv 9),uP 46 (nk 45),uP 47 (fa 65 46 6),uL 48 (ld 3 47),uP 49 (bo .geq 3 44 48 3)]
def Be:List br:=[uP 56 (mv 7),uP 57 (mv 9),uP 58 (nk 57),uP 59 (fa 65 58 0),uL 60 (ld 59 59),uP 61 (nk 60),uP 62 (fa 62 61 1),uL 63 (ld 31 62),uP 64 (mv 9),uP 65 (nk 64),uP 66 (fa 65 65 0),uL 67 (ld 59 66),uP 68 (nk 67),uP 69 (fa 62 68 2),uL 70 (ld 32 69),uP 71 (mv 0),uP 72 (mv 7),uP 73 (mv 8),uF 74 (cf 28 #[(t 71),(t 72),(t 73)] #[23,28,56]) .make [],uF 75 (cb .append #[(t 70),(t 74)] #[32,32]) .make [11,14],uF 76 (cf 27 #[(t 75)] #[32]) .make [11,14],uP 4 (sg 56),oF (.store 31 (t 5) (t 63)) .make [4,7,11,14],uP 6 (sg 76)]
def correctorref12_Tree_l0 (F:Nat) (a0:List UInt8) (a1:Int):Nat→(List al)→(List av)→aQ→Int→Bool→(List aw)→Int→Int→Int→Option ((List al)×(List av)×aQ×Int×Bool×(List aw)×Int×Int)
 | 0,_,_,_,_,_,_,_,_,_=>none
 | n+1,aa,j,ab,ad,ae,ag,ai,U,I=>
  if I<(j.length:Int) then
   ((if 0≤I∧I<(j.length:Int) then
     (j[I.toNat]?).bind fun aj=>
     if U≤aj.ah then
      if 0≤I∧I<(j.length:Int) then
       (j[I.toNat]?).bind fun ak=>
       (oS F (⟨ab,j,ad,ae,ag,ai,U⟩:a5) ak).bind fun J=>
       some (aa,J.Rows,J.R,J.Doc,J.aE,J.S,J.aA,J.Read)
      else none
     else
      some (aa,j,ab,ad,ae,ag,ai,U)
    else none):Option ((List al)×(List av)×aQ×Int×Bool×(List aw)×Int×Int)).bind fun o=>match o with
    | (an,ao,aq,ar,au,ax,ay,az)=>correctorref12_Tree_l0 F a0 a1 n an ao aq ar au ax ay az (af (I+1))
  else
   some (aa,j,ab,ad,ae,ag,ai,U)
def l6 (F:Nat) (a0:List UInt8) (a1:Int):Option ((List al)×bK×(List aj)):=
 if a1<(1:Int) then
  some ([],(⟨[]⟩:bK),[])
 else
  if (50:Int)<a1 then
   some ([],(⟨[]⟩:bK),[])
  else
   (oR F a0).bind fun j=>
   (l8 F j).bind fun aa=>
   (nf F (j.length:Int)).bind fun ab=>
   ((correctorref12_Tree_l0 F a0 a1 F j aa (⟨j,ab,[],(j.length:Int)⟩:aQ) (-1) false [] a1 0 0):Option ((List al)×(List av)×aQ×Int×Bool×(List aw)×Int×Int)).bind fun o=>match o with
    | (J,ad,I,af,ag,ah,ai,ak)=>(mX F a0 J ad).bind fun U=>
    if I.D.length+U.length≤5864062014805 then
     (nS F (I.D++U)).bind fun ae=>
     some (J,I.T,ae)
    else none
theorem wH (F:Nat) {h:AH} {Z:Zn} {a0:List UInt8} {a1:Int} {v2} (hP:Pre Z h []) (c8:RS (α:=UInt8) Z v2 a0) {r:(List al)×bK×(List aj)} (hm:l6 F a0 a1=some r):
  bS Tryz.prog 7 [v2,V a1] h Z [] fun v Z' A'=>∃ v4 v6 db dc, .tuple #[v4, .agg #[v6],db]=v∧A'=[.gs db dc (aa aj)]∧RS (α:=al) Z' v4 r.1∧RS (α:=aq) Z' v6 r.2.1.an∧RCs (α:=aj) Z' dc r.2.2:=by
 refine b3 Tryz.func7 hP ?_
 intro hs hS
 unfold l6 at hm
 replace hS:St hs [] Z (0,0) Z hs []:=hS
 refine s0<|dt 1 [.slice none 0 0] hS ?_
 intro cD fl b8
 refine xn 1<|sq<|s0<|aT 1 hm ?_ ?_<;>intro fm hm
 refine xn 4<|dT<|s0<|bG 2 0 (.agg #[.slice none 0 0]) [.slice none 0 0] [.slice none 0 0] b8 rfl rfl rfl ?_
 intro fo dJ
 refine xn 1<|rt<|⟨rfl,?_⟩
 have dd:=dJ.dh (aa aj)
 obtain rfl:=si hm
 refine ⟨_,_,_,tk (.slice none 0 0) (ResL.cell (v:= .agg #[.slice none 0 0]) (by kernel_rfl) dd (i:=1) rfl (by kernel_rfl) (tk (.slice none 0 0) (ResL.nil))),(dd.takeN 1),?_⟩
 exact ⟨.slice none 0 0, .slice none 0 0,(.slice none 0 0),[],rfl,rfl,(RS.bq _),(RS.bq _),(RCs.bq _)⟩
 refine cZ 2 hm ?_ ?_<;>intro fp hm
 refine xn 1<|dT<|s0<|bG 2 0 (.agg #[.slice none 0 0]) [.slice none 0 0] [.slice none 0 0] b8 rfl rfl rfl ?_
 intro fq dL
 refine xn 1<|rt<|⟨rfl,?_⟩
 have dg:=dL.dh (aa aj)
 obtain rfl:=si hm
 refine ⟨_,_,_,tk (.slice none 0 0) (ResL.cell (v:= .agg #[.slice none 0 0]) (by kernel_rfl) dg (i:=1) rfl (by kernel_rfl) (tk (.slice none 0 0) (ResL.nil))),(dg.takeN 1),?_⟩
 exact ⟨.slice none 0 0, .slice none 0 0,(.slice none 0 0),[],rfl,rfl,(RS.bq _),(RS.bq _),(RCs.bq _)⟩
 refine xn 1<|dF<|sk<|s0 ?_
 obtain ⟨bu,dO,hm⟩:=ai hm
 refine c0 1 b8 (CM F b8.eM c8 dO) ?_
 rintro _ fr fs _ ft dQ ⟨aD,fu,rfl,rfl,dR⟩
 refine xn 1<|s0 ?_
 obtain ⟨fv,fw,bA,dj⟩:=(dQ.front 0 rfl).freeze dR
 obtain ⟨dS,dV,hm⟩:=ai hm
 refine c0 1 dj (D6 F dj.eM bA dV) ?_
 rintro _ fx fy _ bY dm ⟨a9,dX,rfl,rfl,dY⟩
 refine xn 1<|sr DX<|bC 2 aD (RS.len (bA.mono bY)) ?_
 obtain ⟨dZ,ea,hm⟩:=ai hm
 refine c0 0 dm (Eg F dm.eM ea) ?_
 rintro _ fz fA _ b0 eb ⟨b1,fB,rfl,rfl,ec⟩
 refine xq 1 [(26,aD),(25, .agg #[b1]),(22,aD),(8,a9),(7,aD),(5,Pt cD 0),(0,v2),(1,V a1)]<|bC 0 aD (RS.len (bA.mono (bY.trans b0)))<|bW rfl trivial (jV (v:= .agg #[aD,b1, .slice none 0 0,V (bu.length:Int)]) rfl (CA.cons (cs:=[aD]) (RS.nv (bA.mono (bY.trans b0))) (CA.cons (cs:=[b1]) rfl (CA.cons (cs:=[V (bu.length:Int)]) rfl (CA.bq)))) (by kernel_rfl)) ?_
 refine e2 rfl trivial (eK (cs:=[aD,b1, .slice none 0 0,V (bu.length:Int)]) rfl rfl) eb ?_
 intro b2 fC dn
 refine xq 2 [(31,V a1),(30,a9),(29,Pt b2 0),(8,a9),(7,aD),(5,Pt cD 0),(0,v2)]<|bW rfl trivial (jV (v:= .agg #[Pt b2 0,a9,V (-1), .bool false, .slice none 0 0,V a1,V 0]) rfl (CA.cons (cs:=[Pt b2 0]) rfl (CA.cons (cs:=[a9]) (dn.fQ (i:=2) rfl) (CA.cons (cs:=[V (-1)]) rfl (CA.cons (cs:=[V a1]) rfl (CA.bq))))) (by kernel_rfl)) ?_
 refine e2 rfl trivial (eK (cs:=[Pt b2 0,a9,V (-1), .bool false, .slice none 0 0,V a1,V 0]) rfl rfl) dn ?_
 intro ed fD ee
 refine xn 1<|sq<|sp 1 ?_
 obtain ⟨cE,aK,hm⟩:=ai hm
 refine aJ [0,5,7,8,9] (fun l h=>∃ aX cF cG aN ba bb cH bc bd ad ab ax cI ak I bf U az b4 aL bg,(cF,cG,aN,ba,bb,cH,bc,bd)=cE∧RS (α:=al) aX ab cF∧RCs (α:=av) aX cI cG∧RS (α:=al) aX bf aN.L∧RS (α:=aq) aX U aN.T.an∧RCs (α:=aj) aX b4 aN.D∧RCs (α:=aw) aX bg cH∧l=[(0,v2),(5,Pt ad 0),(7,ab),(8,ax),(9,Pt ak 0)]∧St hs [] Z (0,0) aX h [.ae ad [.slice none 0 0], .gs ax cI (aa av), .ae ak [Pt I 0,ax,V ba, .bool bb,aL,V bc,V bd], .ae I (aB bf U az aN), .gs az b4 (aa aj), .gs aL bg (aa aw)]) ?_ ?_
 rintro l fE ⟨aX,cF,cG,aN,ba,bb,cH,bc,bd,ad,ab,ax,cI,ak,I,bf,U,az,b4,aL,bg,rfl,dp,eg,fF,cJ,eh,fG,rfl,dr⟩
 try dsimp only at hm
 refine cY Be dr ?_
 intro b9 fH ca bB
 refine yq 4 [(59,Pt ak 0),(56,ab),(0,v2),(5,Pt ad 0),(7,ab),(8,ax),(9,Pt ak 0)] ?_
 have fI:ak<b9:=ca.1 _ (au (i:=2) rfl) _ (by simp [Itm.ids])
 refine aW (v:=Pt I 0) rfl trivial rfl (by show ak<_;omega) (aG (v:=Pt I 0) trivial) (bB.aV (i:=2) rfl (by kernel_rfl)) trivial<|yq 2 [(62,Pt I 1),(56,ab),(0,v2),(5,Pt ad 0),(7,ab),(8,ax),(9,Pt ak 0)] ?_
 have fJ:I<b9:=ca.1 _ (au (i:=3) rfl) _ (by simp [Itm.ids])
 refine aW (v:= .agg #[U]) rfl trivial rfl (by show I<_;omega) (eC (cs:=[U]) (.cons (RS.cM cJ) .nil)) (bB.aV (i:=3) rfl (by kernel_rfl)) trivial<|yq 3 [(66,Pt ak 0),(63, .agg #[U]),(56,ab),(0,v2),(5,Pt ad 0),(7,ab),(8,ax)] ?_
 have fK:ak<b9:=ca.1 _ (au (i:=2) rfl) _ (by simp [Itm.ids])
 refine aW (v:=Pt I 0) rfl trivial rfl (by show ak<_;omega) (aG (v:=Pt I 0) trivial) (bB.aV (i:=2) rfl (by kernel_rfl)) trivial<|yq 2 [(69,Pt I 2),(63, .agg #[U]),(56,ab),(0,v2),(5,Pt ad 0),(7,ab),(8,ax)] ?_
 have fL:I<b9:=ca.1 _ (au (i:=3) rfl) _ (by simp [Itm.ids])
 refine aW (v:=az) rfl trivial rfl (by show I<_;omega) (aG (v:=az) (bB.dN (i:=4) rfl)) (bB.aV (i:=3) rfl (by kernel_rfl)) trivial<|yq 3 [(73,ax),(72,ab),(71,v2),(70,az),(63, .agg #[U]),(56,ab),(5,Pt ad 0)] ?_
 obtain ⟨fM,aZ,ei,ds⟩:=(bB.front 1 rfl).freeze eg
 obtain ⟨ej,en,hm⟩:=ai hm
 have eo:=ds.bZ
 have du:St _ _ _ _ _ _ ([]++[.ae ad [.slice none 0 0], .ae ak [Pt I 0,ax,V ba, .bool bb,aL,V bc,V bd], .ae I (aB bf U az aN), .gs az b4 (aa aj), .gs aL bg (aa aw)]):=eo
 obtain ⟨fN,fO,fP,fR,ep,cK,cL,cN,rfl,rfl,er⟩:=zq F du.dW (c8.mono (dr.ag.trans aZ)) (dp.mono aZ) ei en
 have et:=du.call cK
 have bD:=cK.ag
 refine df rfl trivial ds (cr ep rfl rfl rfl) et (St.de cK) ?_
 intro fS dv
 obtain ⟨fT,hm⟩:=aH hm
 have bF:St _ _ _ _ _ _ ([.gs az b4 (aa aj)]++[.gs cL cN (aa aj), .ae ad [.slice none 0 0], .ae ak [Pt I 0,ax,V ba, .bool bb,aL,V bc,V bd], .ae I (aB bf U az aN), .gs aL bg (aa aw)]):=(dv.front 4 rfl)
 refine iC rfl trivial bF (dE (ys:=ej) (bX:=24) bF.sub (i:=0) rfl (eh.mono (aZ.trans bD)) ((dv.bZ).eB (j:=0) rfl er) rfl rfl (by kernel_rfl) (by omega) (by omega)) (aZ.trans bD) (.a3 (bF.bL 3 rfl bU) (.a3 (bF.bL 2 rfl bU) (.a3 (bF.bL 3 rfl bU) (.a3 (bF.bL 2 rfl bU) .nil)))) ?_
 rintro fU fV fW ⟨eu,ew⟩
 obtain ⟨fX,cb,ey,dx⟩:=(ew.front 0 rfl).freeze eu
 obtain ⟨fY,ez,hm⟩:=ai hm
 have eA:=dx.bZ
 have dz:St _ _ _ _ _ _ ([]++[.gs cL cN (aa aj), .ae ad [.slice none 0 0], .ae ak [Pt I 0,ax,V ba, .bool bb,aL,V bc,V bd], .ae I (aB bf U az aN), .gs aL bg (aa aw)]):=eA
 obtain ⟨gb,gd,gf,gh,eD,cP,b5,dA,rfl,rfl,eE⟩:=EM F dz.dW ey ez
 have eF:=dz.call cP
 have cc:=cP.ag
 refine df rfl trivial dx (cr eD rfl rfl rfl) eF (St.de cP) ?_
 intro gi eG
 refine yq 1 [(4,ab),(76,b5),(63, .agg #[U]),(5,Pt ad 0)] ?_
 have bH:St _ _ _ _ _ _ ([.ae ad [.slice none 0 0]]++[.gs b5 dA (aa aj), .gs cL cN (aa aj), .ae ak [Pt I 0,ax,V ba, .bool bb,aL,V bc,V bd], .ae I (aB bf U az aN), .gs aL bg (aa aw)]):=(eG.front 2 rfl)
 refine gu rfl trivial bH (gg (vs:=[U]) (cO:=[U]) (L':=[.ae ad [U]]) bH.sub (i:=0) rfl rfl rfl rfl (by kernel_rfl) (bz (RS.di (cJ.mono (aZ.trans (bD.trans (cb.trans cc))))) cz) rfl rfl rfl) (aZ.trans (bD.trans (cb.trans cc))) (.a3 (bH.bL 3 rfl bU) (.a3 (bH.bL 2 rfl bU) (.a3 (bH.bL 3 rfl bU) (.a3 (bH.bL 2 rfl bU) .nil)))) ?_
 intro gj eH
 refine ye 1 [(6,b5),(4,ab),(5,Pt ad 0)] ?_
 have dB:=eH.aY
 refine rt<|⟨rfl,?_⟩
 obtain rfl:=si hm
 refine ⟨_,_,_,tk ab (ResL.cell (v:= .agg #[U]) (by kernel_rfl) dB (i:=0) rfl (by kernel_rfl) (tk b5 (ResL.nil))),((dB.front 1 rfl).takeN 1),?_⟩
 exact ⟨ab,U,b5,dA,rfl,rfl,(dp.mono (aZ.trans (bD.trans (cb.trans cc)))),(cJ.mono (aZ.trans (bD.trans (cb.trans cc)))),eE⟩
 refine bk 0 ?_
 obtain ⟨gk,cQ,eI,eJ⟩:=(ee.front 2 rfl).freeze ec
 have eL:=eJ.dh (aa aj)
 have eN:=eL.dh (aa aw)
 refine lp [0,5,7,8,9,10] (fun n l h=>∃ a2 bI bJ aO bh bj bM bl aP ay aC aM J bN ao a6 bO bP bn bQ bo bT,correctorref12_Tree_l0 F a0 a1 n bI bJ aO bh bj bM bl aP ay=some cE∧RS (α:=al) a2 aM bI∧RCs (α:=av) a2 bN bJ∧RS (α:=al) a2 bO aO.L∧RS (α:=aq) a2 bP aO.T.an∧RCs (α:=aj) a2 bQ aO.D∧RCs (α:=aw) a2 bT bM∧l=[(0,v2),(5,Pt aC 0),(7,aM),(8,J),(9,Pt ao 0),(10,V ay)]∧St hs [] Z (0,0) a2 h [.ae aC [.slice none 0 0], .gs J bN (aa av), .ae ao [Pt a6 0,J,V bh, .bool bj,bo,V bl,V aP], .ae a6 (aB bO bP bn aO), .gs bn bQ (aa aj), .gs bo bT (aa aw)]) F ⟨_,bu,dS,(⟨bu,dZ,[],(bu.length:Int)⟩:aQ),(-1),false,[],a1,0,0,cD,aD,a9,dX,ed,b2,aD,b1,(.slice none 0 0),[],(.slice none 0 0),[],aK,(bA.mono (bY.trans (b0.trans cQ))),(dY.mono (b0.trans cQ)),(bA.mono (bY.trans (b0.trans cQ))),eI,(RCs.bq _),(RCs.bq _),(by kernel_rfl),((((((eN.front 0 rfl).front 1 rfl).front 3 rfl).front 3 rfl).front 4 rfl).front 5 rfl)⟩ ?_
 rintro cR l gl ⟨a2,bI,bJ,aO,bh,bj,bM,bl,aP,ay,aC,aM,J,bN,ao,a6,bO,bP,bn,bQ,bo,bT,aK,cS,aU,cT,cU,cW,cX,rfl,c3⟩
 rcases cR with _ | cR
 cases (show none=some cE from aK)
 rw [correctorref12_Tree_l0] at aK
 refine sq<|s0<|bC 2 J (c3.dP (i:=1) rfl aU)<|aT 0 aK ?_ ?_<;>intro gm aK
 refine xn 0<|dT<|sk<|sq<|bk 1 ?_
 obtain ⟨eO,ar,aK⟩:=ai aK
 refine dM [0,5,7,8,9,10] (fun l h=>∃ a8 cd cf bp cg ch cj ck cl cm cn b6 cp cq ct cu cw cx cy cA cC,(cd,cf,bp,cg,ch,cj,ck,cl)=eO∧RS (α:=al) a8 cn cd∧RCs (α:=av) a8 cp cf∧RS (α:=al) a8 cu bp.L∧RS (α:=aq) a8 cw bp.T.an∧RCs (α:=aj) a8 cy bp.D∧RCs (α:=aw) a8 cC cj∧l=[(0,v2),(5,Pt cm 0),(7,cn),(8,b6),(9,Pt cq 0),(10,V ay)]∧St hs [] Z (0,0) a8 h [.ae cm [.slice none 0 0], .gs b6 cp (aa av), .ae cq [Pt ct 0,b6,V cg, .bool ch,cA,V ck,V cl], .ae ct (aB cu cw cx bp), .gs cx cy (aa aj), .gs cA cC (aa aw)]) (by kernel_rfl) ?_ ?_
 rintro l gn ⟨a8,cd,cf,bp,cg,ch,cj,ck,cl,cm,cn,b6,cp,cq,ct,cu,cw,cx,cy,cA,cC,rfl,eP,eQ,eR,eS,eT,eU,rfl,eW⟩
 try dsimp only at aK
 refine gp 3 ?_
 exact ⟨cR,a7 _,⟨_,cd,cf,bp,cg,ch,cj,ck,cl,af (ay+1),cm,cn,b6,cp,cq,ct,cu,cw,cx,cy,cA,cC,aK,eP,eQ,eR,eS,eT,eU,(by kernel_rfl),eW⟩⟩
 refine ek F8 c3 ?_
 intro dC gq dG bV
 refine yq 2 [(41,V ay),(40,J),(0,v2),(5,Pt aC 0),(7,aM),(8,J),(9,Pt ao 0),(10,V ay)] ?_
 obtain ⟨dH,ar⟩:=aH ar
 refine aF rfl trivial (bx rfl rfl (by kernel_rfl:slTy _ _=some (aa av)) (bV.bR (j:=1) rfl aU (by omega)) dH.1 dH.2)<|yq 1 [(43, .pointer (some (bw J ay (aa av) 1))),(0,v2),(5,Pt aC 0),(7,aM),(8,J),(9,Pt ao 0),(10,V ay)] ?_
 obtain ⟨c4,dI,ar⟩:=ai ar
 obtain ⟨gr,eX,eY,gv⟩:=bV.cv (j:=1) rfl aU (i:=ay) dI
 obtain rfl:=EI eX
 have eZ:=dw dI
 have e0:=bV.bR (j:=1) rfl aU eZ
 have gw:(baseOf J).block<dC:=dD (dG.1 _ (au (i:=1) rfl)) e0
 refine dy rfl trivial rfl (by show (baseOf J).block<_;omega) (aG (v:=V c4.ah) trivial) (bE (w:=V c4.ah) eY rfl (by kernel_rfl)) trivial<|yq 3 [(47,Pt ao 6),(44,V c4.ah),(0,v2),(5,Pt aC 0),(7,aM),(8,J),(9,Pt ao 0),(10,V ay)] ?_
 have gx:ao<dC:=dG.1 _ (au (i:=2) rfl) _ (by simp [Itm.ids])
 refine aW (v:=V aP) rfl trivial rfl (by show ao<_;omega) (aG (v:=V aP) trivial) (bV.aV (i:=2) rfl (by kernel_rfl)) trivial ?_
 rcases ifs ar with ⟨c5,ar⟩ | ⟨c5,ar⟩
 refine aF rfl trivial (bm rfl rfl (jH c5))<|yf [(49, .bool true),(0,v2),(5,Pt aC 0),(7,aM),(8,J),(9,Pt ao 0),(10,V ay)] ?_
 have c6:=bV.aY
 refine dT<|g0<|eV 3 1 ar c6 aU rfl ?_
 intro gy ar
 refine fZ 0 0 1 (fun b7=> .agg #[V b7.Kind,V b7.ah,V b7.To,V b7.aI]) ar c6 aU rfl ?_
 intro b7 gz ar
 obtain ⟨bt,e3,ar⟩:=ai ar
 have e4:St _ _ _ _ _ _ ([.ae ao [Pt a6 0,J,V bh, .bool bj,bo,V bl,V aP], .ae a6 (aB bO bP bn aO), .gs bn bQ (aa aj), .gs J bN (aa av), .gs bo bT (aa aw)]++[.ae aC [.slice none 0 0]]):=(((((c6.front 5 rfl).front 2 rfl).front 5 rfl).front 5 rfl).front 5 rfl)
 refine cB 0 e4 (fun p=>xd F (a0:=(⟨aO,bJ,bh,bj,bM,bl,aP⟩:a5)) p cT cU cW aU cX e3) ?_
 rintro _ gA gB _ e5 e6 ⟨e7,e8,e9,fa,fb,fc,fe,rfl,rfl,ff,fg,fh,fi,fj⟩
 refine xn 0 ?_
 obtain rfl:=si ar
 exact ⟨_,bI,bt.Rows,bt.R,bt.Doc,bt.aE,bt.S,bt.aA,bt.Read,aC,aM,J,fb,ao,a6,e7,e8,e9,fa,fc,fe,rfl,(cS.mono e5),fi,ff,fg,fh,fj,(by kernel_rfl),((((((e6.front 4 rfl).front 3 rfl).front 3 rfl).front 3 rfl).front 4 rfl).front 5 rfl)⟩
 refine aF rfl trivial (bm rfl rfl (jA c5))<|yf [(49, .bool false),(0,v2),(5,Pt aC 0),(7,aM),(8,J),(9,Pt ao 0),(10,V ay)] ?_
 have fk:=bV.aY
 refine dF<|sk ?_
 obtain rfl:=si ar
 exact ⟨_,bI,bJ,aO,bh,bj,bM,bl,aP,aC,aM,J,bN,ao,a6,bO,bP,bn,bQ,bo,bT,rfl,cS,aU,cT,cU,cW,cX,(by kernel_rfl),fk⟩
 refine xn 0<|dF<|xt 0<|aS ?_
 obtain rfl:=si aK
 exact ⟨_,bI,bJ,aO,bh,bj,bM,bl,aP,aC,aM,J,bN,ao,a6,bO,bP,bn,bQ,bo,bT,rfl,cS,aU,cT,cU,cW,cX,(by kernel_rfl),c3⟩
end
section
open Go Am Sy
open Sy.Cell (rc)
structure cD where
 an:List aq
 deriving DecidableEq,Inhabited
instance:Cell cD where
 size:=1
 rc Z cs x:=∃ v0,RS (α:=aq) Z v0 x.an∧cs=[v0]
 len h:=by obtain ⟨v0,j,h⟩:=h;rw [h];rfl
 mono hz h:=by obtain ⟨v0,j,h⟩:=h;exact ⟨v0,j.mono hz,h⟩
 one h:=by obtain ⟨v0,j,h⟩:=h;subst h;exact (bz j.di cz)
 pos:=by decide
instance:c9 cD aq where
 row x:=x.an
 ea v cs x:=cs=[v]
 pT h hd:=⟨_,h,hd⟩
 kB h:=by rw [h];rfl
 done hv h:=by subst h;exact (bz hv cz)
 inj h k:=by rw [h] at k;simpa using k
 fn h k:=h.trans k.symm
structure eF where
 ah:Int
 To:Int
 deriving DecidableEq,Inhabited
instance:Cell eF where
 size:=2
 rc Z cs x:=cs=[V x.ah,V x.To]
 len h:=by rw [h];rfl
 mono _ h:=h
 one h:=by rw [h];rfl
 pos:=by decide
abbrev Bs (x:eF):List Value:=[V x.ah,V x.To]
instance:FC eF:=⟨Bs,fun q=>q⟩
theorem Gj {x y:eF} (h:¬ x=y):aBin Tryz.prog .neq 44 (.agg #[V x.ah,V x.To]) (.agg #[V y.ah,V y.To])=some (.bool true):=by
 refine uW Tryz.underlying44 (by kernel_rfl) (by kernel_rfl) (w:=false) ?_
 by_cases h0:x.ah=y.ah
 case neg=>exact ny (by decide) rfl rfl ((fK ⟨_,Tryz.underlying3⟩).trans (by simp [h0]))
 refine ij (by decide) rfl rfl ((fK ⟨_,Tryz.underlying3⟩).trans (by simp [h0])) ?_
 by_cases h1:x.To=y.To
 case neg=>exact ny (by decide) rfl rfl ((fK ⟨_,Tryz.underlying3⟩).trans (by simp [h1]))
 refine ij (by decide) rfl rfl ((fK ⟨_,Tryz.underlying3⟩).trans (by simp [h1])) ?_
 exact absurd (by cases x;cases y;simp_all) h
theorem zg {x y:eF} (h:x=y):aBin Tryz.prog .neq 44 (.agg #[V x.ah,V x.To]) (.agg #[V y.ah,V y.To])=some (.bool false):=by
 subst h
 refine uW Tryz.underlying44 (by kernel_rfl) (by kernel_rfl) (w:=true)<|ij (by decide) rfl rfl ((fK ⟨_,Tryz.underlying3⟩).trans (by simp))<|ij (by decide) rfl rfl ((fK ⟨_,Tryz.underlying3⟩).trans (by simp)) ?_
 rfl
def pD (F:Nat) (a0:al) (a1:Int):Option Bool:=
 if a0.ah≤a1 then
  if a1<a0.To then
   some true
  else
   some false
 else
  some false
theorem Cb (F:Nat) {h:AH} {Z:Zn} {a0:al} {a1:Int} {I} (hP:Pre Z h [.ae I [V a1]]) {r:Bool} (hm:pD F a0 a1=some r):
  bS Tryz.prog 56 [.agg #[V a0.Kind,V a0.ah,V a0.To],Pt I 0] h Z [.ae I [V a1]] fun v Z' A'=> .bool r=v∧A'=[.ae I [V a1]]:=by
 refine b3 Tryz.func56 hP ?_
 intro hs hS
 unfold pD at hm
 refine s0<|dt 0 [V a0.Kind,V a0.ah,V a0.To] hS ?_
 intro J U j
 refine xn 1<|s0<|aD 0 1 (V a1) j rfl<|aD 1 0 (V a0.ah) j rfl<|cS 0 hm ?_ ?_<;>intro aa hm
 refine aD 1 1 (V a1) j rfl<|aD 1 0 (V a0.To) j rfl<|aT 0 hm ?_ ?_<;>intro ab hm
 refine xn 2<|rt<|⟨rfl,?_⟩
 obtain rfl:=si hm
 refine ⟨_,_,_,tk (.bool true) (ResL.nil),((j.front 1 rfl).takeN 1),?_⟩
 exact ⟨rfl,rfl⟩
 refine xn 2<|rt<|⟨rfl,?_⟩
 obtain rfl:=si hm
 refine ⟨_,_,_,tk (.bool false) (ResL.nil),((j.front 1 rfl).takeN 1),?_⟩
 exact ⟨rfl,rfl⟩
 refine xn 7<|rt<|⟨rfl,?_⟩
 obtain rfl:=si hm
 refine ⟨_,_,_,tk (.bool false) (ResL.nil),((j.front 1 rfl).takeN 1),?_⟩
 exact ⟨rfl,rfl⟩
def slices_IndexFunc_api_Token_l0 (F:Nat) (a0:List al) (eo:Int):Nat→Int→Option (Sum Unit Int)
 | 0,_=>none
 | n+1,j=>
  if j<(a0.length:Int) then
   if 0≤j∧j<(a0.length:Int) then
    (a0[j.toNat]?).bind fun I=>
    (pD F I eo).bind fun J=>
    if J=true then
     some (.inr j)
    else
     slices_IndexFunc_api_Token_l0 F a0 eo n (af (j+1))
   else none
  else
   some (.inl ())
def pw (F:Nat) (a0:List al) (eo:Int):Option Int:=
 ((slices_IndexFunc_api_Token_l0 F a0 eo F 0):Option (Sum Unit Int)).bind fun o=>match o with
  | .inl ()=>some (-1)
  | .inr y=>some y
theorem Gn (F:Nat) {h:AH} {Z:Zn} {a0:List al} {eo:Int} {v2 I} (hP:Pre Z h [.ae I [V eo]]) (ab:RS (α:=al) Z v2 a0) {r:Int} (hm:pw F a0 eo=some r):
  bS Tryz.prog 55 [v2, .func (.func 56) #[] #[Pt I 0]] h Z [.ae I [V eo]] fun v Z' A'=>V r=v∧A'=[.ae I [V eo]]:=by
 refine b3 Tryz.func55 hP ?_
 intro hs hS
 unfold pw at hm
 refine sp 1<|sq<|s0<|bC 1 v2 (RS.len ab)<|xn 1 ?_
 obtain ⟨ad,j,hm⟩:=ai hm
 refine aJ [] (fun l h=>∃ ak, .inl ()=ad∧l=[]∧St hs (a2 [.ae I [V eo]]) Z (0,0) ak h [.ae I [V eo]]) ?_ ?_
 rintro l au ⟨ak,rfl,rfl,aq⟩
 try dsimp only at hm
 refine sp 1<|rt<|⟨rfl,?_⟩
 obtain rfl:=si hm
 refine ⟨_,_,_,tk (V (-1)) (ResL.nil),aq,?_⟩
 exact ⟨rfl,rfl⟩
 refine bk 0<|lp [0,1,7,8] (fun n l h=>∃ an J,slices_IndexFunc_api_Token_l0 F a0 eo n J=some ad∧l=[(0,v2),(1, .func (.func 56) #[] #[Pt I 0]),(7,V (a0.length:Int)),(8,V J)]∧St hs (a2 [.ae I [V eo]]) Z (0,0) an h [.ae I [V eo]]) F ⟨_,0,j,(by kernel_rfl),hS⟩ ?_
 rintro aj l av ⟨an,J,j,rfl,U⟩
 rcases aj with _ | aj
 cases (show none=some ad from j)
 rw [slices_IndexFunc_api_Token_l0] at j
 refine s0<|aT 0 j ?_ ?_<;>intro aw j
 refine xn 0<|sq<|dT<|sk<|sq<|bk 1<|sp 2<|s0<|a8 3 j (ab.mono U.ag) ?_
 intro ax j
 refine bt 0 0 (fun aa=> .agg #[V aa.Kind,V aa.ah,V aa.To]) j (ab.mono U.ag) U ?_
 intro aa ay j
 obtain ⟨az,ar,j⟩:=ai j
 refine cA 0 U (fun p=>Cb F p ar) ?_
 rintro _ aA aB _ aC ao ⟨rfl,rfl⟩
 refine xn 0<|db j ?_ ?_<;>intro aD j
 refine sp 2<|rt<|bj<|bj<|⟨rfl,?_⟩
 obtain rfl:=si j
 obtain rfl:=si hm
 refine ⟨_,_,_,tk (V J) (ResL.nil),ao,?_⟩
 exact ⟨rfl,rfl⟩
 refine sk<|gp 2 ?_
 exact ⟨aj,a7 _,⟨_,af (J+1),j,(by kernel_rfl),ao⟩⟩
 refine xn 0<|sq<|dF<|xt 0<|aS ?_
 obtain rfl:=si j
 exact ⟨_,rfl,(by kernel_rfl),U⟩
def m3 (F:Nat) (a0:List al) (a1:Int):Option Int:=
 (pw F a0 a1).bind fun j=>
 some j
theorem wY (F:Nat) {h:AH} {Z:Zn} {a0:List al} {a1:Int} {v2} (hI:Inv Z h) (j:RS (α:=al) Z v2 a0) {r:Int} (hm:m3 F a0 a1=some r):
  bY Tryz.prog 29 [v2,V a1] h Z (V r):=by
 refine b1 Tryz.func29 hI ?_
 intro hs hS
 unfold m3 at hm
 refine s0<|dt 0 [V a1] hS ?_
 intro ab ad I
 refine xn 1<|s0 ?_
 obtain ⟨J,U,hm⟩:=ai hm
 refine cA 2 I (fun p=>Gn F p j U) ?_
 rintro _ ae af _ ag aa ⟨rfl,rfl⟩
 refine xn 1<|rt<|⟨rfl,?_⟩
 obtain rfl:=si hm
 refine ⟨_,_,_,tk (V J) (ResL.nil),aa,?_⟩
 exact rfl
def DB:List aR:=[u 2 (.box 36 (t 0)),u 4 (.assign (.const (.bool false)))]
def kA (F:Nat) (a0:cD) (a1:Int):Option Bool:=
 if (0:Int)≤a1 then
  if a1<(a0.an.length:Int) then
   some true
  else
   some false
 else
  some false
theorem sx (F:Nat) {h:AH} {Z:Zn} {a0:cD} {a1:Int} {v2} (hI:Inv Z h) (I:RS (α:=aq) Z v2 a0.an) {r:Bool} (hm:kA F a0 a1=some r):
  bY Tryz.prog 32 [.agg #[v2],V a1] h Z (.bool r):=by
 refine b1 Tryz.func32 hI ?_
 intro hs hS
 unfold kA at hm
 refine sr DB<|e2 rfl trivial (eK (cs:=[v2]) rfl rfl) hS ?_
 intro J U j
 refine xn 1<|s0<|cS 1 hm ?_ ?_<;>intro aa hm
 refine aD 3 0 v2 j rfl<|bC 0 v2 (RS.len I)<|aT 0 hm ?_ ?_<;>intro ab hm
 refine xn 2<|rt<|⟨rfl,?_⟩
 obtain rfl:=si hm
 refine ⟨_,_,_,tk (.bool true) (ResL.nil),j,?_⟩
 exact rfl
 refine xn 2<|rt<|⟨rfl,?_⟩
 obtain rfl:=si hm
 refine ⟨_,_,_,tk (.bool false) (ResL.nil),j,?_⟩
 exact rfl
 refine xn 8<|rt<|⟨rfl,?_⟩
 obtain rfl:=si hm
 refine ⟨_,_,_,tk (.bool false) (ResL.nil),j,?_⟩
 exact rfl
def Dt:List br:=[uL 5 (ld 36 1),uP 6 (mv 0),uF 7 (cf 32 #[(t 5),(t 6)] #[36,3]) .make [0],uP 8 (mv 7),aM 8 9 (fa 36 1 0),jR 8 (some 10) (ld 29 9) .look [2],aM 8 11 (mv 0),aM 8 12 (ia 29 10 11),aM 8 13 (fa 47 12 1),jR 8 (some 14) (ld 3 13) .look [2],jR 8 (some 15) (ld 3 2) .look [2],aM 8 16 (bo .leq 3 14 15 3),uP 17 (pf 8 16),uP 18 (mv 17),jR 18 (some 19) (ld 3 2) .look [2],aM 18 20 (fa 36 1 0),jR 18 (some 21) (ld 29 20) .look [2],aM 18 22 (mv 0),aM 18 23 (ia 29 21 22),aM 18 24 (fa 47 23 2),jR 18 (some 25) (ld 3 24) .look [2],aM 18 26 (bo .lss 3 19 25 3),uP 27 (pf 18 26),uP 4 (sg 27)]
def qm (F:Nat) (a0:Int) (a1:cD) (j:Int):Option Bool:=
 (kA F a1 a0).bind fun I=>
 if I=true then
  if 0≤a0∧a0<(a1.an.length:Int) then
   (a1.an[a0.toNat]?).bind fun J=>
   if J.ah≤j then
    if 0≤a0∧a0<(a1.an.length:Int) then
     (a1.an[a0.toNat]?).bind fun U=>
     if j<U.To then
      some true
     else
      some false
    else none
   else
    some false
  else none
 else
  some false
theorem BR (F:Nat) {h:AH} {Z:Zn} {a0:Int} {a1:cD} {U:Int} {j I J} (hP:Pre Z h [.ae j [I], .ae J [V U]]) (ad:RS (α:=aq) Z I a1.an) {r:Bool} (hm:qm F a0 a1 U=some r):
  bS Tryz.prog 31 [V a0,Pt j 0,Pt J 0] h Z [.ae j [I], .ae J [V U]] fun v Z' A'=> .bool r=v∧A'=[.ae j [I], .ae J [V U]]:=by
 refine b3 Tryz.func31 hP ?_
 intro hs hS
 unfold qm at hm
 refine s0<|xe 1 [(0,V a0),(1,Pt j 0),(2,Pt J 0)]<|cY Dt hS ?_
 intro af aU ag aj
 have aX:j<af:=ag.1 _ (au (i:=0) rfl) _ (by simp [Itm.ids])
 refine aW (v:= .agg #[I]) rfl trivial rfl (by show j<_;omega) (eC (cs:=[I]) (.cons (RS.cM ad) .nil)) (aj.aV (i:=0) rfl (by kernel_rfl)) trivial<|yq 1 [(6,V a0),(5, .agg #[I]),(0,V a0),(1,Pt j 0),(2,Pt J 0)] ?_
 obtain ⟨aB,aC,hm⟩:=ai hm
 have av:=aj.bZ
 obtain ⟨aZ,a2,aD,aw,rfl⟩:=sx F av.inv ad aC
 have aE:=St.call (A:=[]) (B:=[.ae j [I], .ae J [V U]]) av aw
 refine df rfl trivial aj (cr aD rfl rfl rfl) aE (St.de aw) ?_
 intro a3 ab
 refine yq 1 [(8, .bool aB),(0,V a0),(1,Pt j 0),(2,Pt J 0)] ?_
 rcases ifs hm with ⟨ak,hm⟩ | ⟨ak,hm⟩
 refine lK (t:=8) rfl ak<|yq 1 [(9,Pt j 0),(8, .bool true),(0,V a0),(1,Pt j 0),(2,Pt J 0)] ?_
 have a5:j<af:=ag.1 _ (au (i:=0) rfl) _ (by simp [Itm.ids])
 refine aW (v:=I) rfl rfl rfl (by show j<_;omega) (aG (v:=I) (RS.cM ad)) (ab.aV (i:=0) rfl (by kernel_rfl)) trivial<|yq 1 [(11,V a0),(10,I),(8, .bool true),(0,V a0),(1,Pt j 0),(2,Pt J 0)] ?_
 obtain ⟨ax,hm⟩:=aH hm
 refine aF rfl rfl (bx rfl rfl (by kernel_rfl:slTy _ _=some (aa aq)) (RS.cG ad (by omega)) ax.1 ax.2)<|yq 1 [(13, .pointer (some (bw I a0 (aa aq) 1))),(8, .bool true),(0,V a0),(1,Pt j 0),(2,Pt J 0)] ?_
 obtain ⟨ay,aI,hm⟩:=ai hm
 obtain ⟨a6,aJ,aK⟩:=RS.bV ad (i:=a0) aI
 obtain ⟨a7,a8,rfl⟩:=ey aJ
 refine cg rfl rfl rfl (fun h2 hz=>bE (w:=V ay.ah) (aK h2 hz) rfl (by kernel_rfl)) (ab.bO (aO.refl _)) (aG (v:=V ay.ah) trivial) trivial ?_
 have a9:J<af:=ag.1 _ (au (i:=1) rfl) _ (by simp [Itm.ids])
 refine aW (v:=V U) rfl rfl rfl (by show J<_;omega) (aG (v:=V U) trivial) (ab.aV (i:=1) rfl (by kernel_rfl)) trivial ?_
 rcases ifs hm with ⟨ao,hm⟩ | ⟨ao,hm⟩
 refine aF rfl rfl (bm rfl rfl (rK ao))<|yq 2 [(18, .bool true),(0,V a0),(1,Pt j 0),(2,Pt J 0)] ?_
 have ba:J<af:=ag.1 _ (au (i:=1) rfl) _ (by simp [Itm.ids])
 refine aW (v:=V U) rfl rfl rfl (by show J<_;omega) (aG (v:=V U) trivial) (ab.aV (i:=1) rfl (by kernel_rfl)) trivial<|yq 1 [(20,Pt j 0),(19,V U),(18, .bool true),(0,V a0)] ?_
 have bb:j<af:=ag.1 _ (au (i:=0) rfl) _ (by simp [Itm.ids])
 refine aW (v:=I) rfl rfl rfl (by show j<_;omega) (aG (v:=I) (RS.cM ad)) (ab.aV (i:=0) rfl (by kernel_rfl)) trivial<|yq 1 [(22,V a0),(21,I),(19,V U),(18, .bool true)] ?_
 obtain ⟨az,hm⟩:=aH hm
 refine aF rfl rfl (bx rfl rfl (by kernel_rfl:slTy _ _=some (aa aq)) (RS.cG ad (by omega)) az.1 az.2)<|yq 1 [(24, .pointer (some (bw I a0 (aa aq) 2))),(19,V U),(18, .bool true)] ?_
 obtain ⟨aA,aL,hm⟩:=ai hm
 obtain ⟨bc,aM,aN⟩:=RS.bV ad (i:=a0) aL
 obtain ⟨bd,bf,rfl⟩:=ey aM
 refine cg rfl rfl rfl (fun h2 hz=>bE (w:=V aA.To) (aN h2 hz) rfl (by kernel_rfl)) (ab.bO (aO.refl _)) (aG (v:=V aA.To) trivial) trivial ?_
 rcases ifs hm with ⟨ar,hm⟩ | ⟨ar,hm⟩
 refine aF rfl rfl (bm rfl rfl (mq ar))<|ye 2 [(4, .bool true)] ?_
 have aP:=ab.aY
 refine rt<|⟨rfl,?_⟩
 obtain rfl:=si hm
 refine ⟨_,_,_,tk (.bool true) (ResL.nil),aP,?_⟩
 exact ⟨rfl,rfl⟩
 refine aF rfl rfl (bm rfl rfl (mJ ar))<|ye 2 [(4, .bool false)] ?_
 have aQ:=ab.aY
 refine rt<|⟨rfl,?_⟩
 obtain rfl:=si hm
 refine ⟨_,_,_,tk (.bool false) (ResL.nil),aQ,?_⟩
 exact ⟨rfl,rfl⟩
 refine aF rfl rfl (bm rfl rfl (s5 ao))<|ye 12 [(4, .bool false)] ?_
 have aS:=ab.aY
 refine rt<|⟨rfl,?_⟩
 obtain rfl:=si hm
 refine ⟨_,_,_,tk (.bool false) (ResL.nil),aS,?_⟩
 exact ⟨rfl,rfl⟩
 refine lK (t:=8) rfl (Bool.eq_false_iff.2 ak)<|ye 20 [(4, .bool false)] ?_
 have aT:=ab.aY
 refine rt<|⟨rfl,?_⟩
 obtain rfl:=si hm
 refine ⟨_,_,_,tk (.bool false) (ResL.nil),aT,?_⟩
 exact ⟨rfl,rfl⟩
def mN (F:Nat) (a0:List Int) (eo:cD) (gd:Int):Nat→Int→Option (Sum Unit Int)
 | 0,_=>none
 | n+1,j=>
  if j<(a0.length:Int) then
   if 0≤j∧j<(a0.length:Int) then
    (a0[j.toNat]?).bind fun I=>
    (qm F I eo gd).bind fun J=>
    if J=true then
     some (.inr j)
    else
     mN F a0 eo gd n (af (j+1))
   else none
  else
   some (.inl ())
def ot (F:Nat) (a0:List Int) (eo:cD) (gd:Int):Option Int:=
 ((mN F a0 eo gd F 0):Option (Sum Unit Int)).bind fun o=>match o with
  | .inl ()=>some (-1)
  | .inr y=>some y
theorem zx (F:Nat) {h:AH} {Z:Zn} {a0:List Int} {eo:cD} {gd:Int} {v2 I U J} (hP:Pre Z h [.ae I [U], .ae J [V gd]]) (ad:RS (α:=Int) Z v2 a0) (av:RS (α:=aq) Z U eo.an) {r:Int} (hm:ot F a0 eo gd=some r):
  bS Tryz.prog 30 [v2, .func (.func 31) #[] #[Pt I 0,Pt J 0]] h Z [.ae I [U], .ae J [V gd]] fun v Z' A'=>V r=v∧A'=[.ae I [U], .ae J [V gd]]:=by
 refine b3 Tryz.func30 hP ?_
 intro hs hS
 unfold ot at hm
 refine sp 1<|sq<|s0<|bC 1 v2 (RS.len ad)<|xn 1 ?_
 obtain ⟨ah,j,hm⟩:=ai hm
 refine aJ [] (fun l h=>∃ ak, .inl ()=ah∧l=[]∧St hs (a2 [.ae I [U], .ae J [V gd]]) Z (0,0) ak h [.ae I [U], .ae J [V gd]]) ?_ ?_
 rintro l ay ⟨ak,rfl,rfl,aw⟩
 try dsimp only at hm
 refine sp 1<|rt<|⟨rfl,?_⟩
 obtain rfl:=si hm
 refine ⟨_,_,_,tk (V (-1)) (ResL.nil),aw,?_⟩
 exact ⟨rfl,rfl⟩
 refine bk 0<|lp [0,1,7,8] (fun n l h=>∃ ao ab,mN F a0 eo gd n ab=some ah∧l=[(0,v2),(1, .func (.func 31) #[] #[Pt I 0,Pt J 0]),(7,V (a0.length:Int)),(8,V ab)]∧St hs (a2 [.ae I [U], .ae J [V gd]]) Z (0,0) ao h [.ae I [U], .ae J [V gd]]) F ⟨_,0,j,(by kernel_rfl),hS⟩ ?_
 rintro aj l az ⟨ao,ab,j,rfl,aa⟩
 rcases aj with _ | aj
 cases (show none=some ah from j)
 rw [mN] at j
 refine s0<|aT 0 j ?_ ?_<;>intro aA j
 refine xn 0<|sq<|dT<|sk<|sq<|bk 1<|sp 2<|s0<|a8 3 j (ad.mono aa.ag) ?_
 intro aB j
 refine bt 0 0 (fun ar=>V ar) j (ad.mono aa.ag) aa ?_
 intro ar aC j
 obtain ⟨aD,ax,j⟩:=ai j
 refine cA 0 aa (fun p=>BR F p (av.mono aa.ag) ax) ?_
 rintro _ aE aF _ aG au ⟨rfl,rfl⟩
 refine xn 0<|db j ?_ ?_<;>intro aH j
 refine sp 2<|rt<|bj<|bj<|⟨rfl,?_⟩
 obtain rfl:=si j
 obtain rfl:=si hm
 refine ⟨_,_,_,tk (V ab) (ResL.nil),au,?_⟩
 exact ⟨rfl,rfl⟩
 refine sk<|gp 2 ?_
 exact ⟨aj,a7 _,⟨_,af (ab+1),j,(by kernel_rfl),au⟩⟩
 refine xn 0<|sq<|dF<|xt 0<|aS ?_
 obtain rfl:=si j
 exact ⟨_,rfl,(by kernel_rfl),aa⟩
def Fw:List aR:=[u 4 (.box 36 (t 1)),u 6 (.assign (ci 0))]
def walk_At_l0 (F:Nat) (a0:List al) (a1:cD) (ab:Int):Nat→Int→Int→Int→Option Int
 | 0,_,_,_=>none
 | n+1,J,j,U=>
  if U<(a1.an.length:Int) then
   if 0≤j∧j<(a1.an.length:Int) then
    (a1.an[j.toNat]?).bind fun ad=>
    (ot F ad.Kids a1 J).bind fun I=>
    if I<(0:Int) then
     some j
    else
     if 0≤j∧j<(a1.an.length:Int) then
      (a1.an[j.toNat]?).bind fun aa=>
      if 0≤I∧I<(aa.Kids.length:Int) then
       (aa.Kids[I.toNat]?).bind fun ae=>
       walk_At_l0 F a0 a1 ab n J ae (af (U+1))
      else none
     else none
   else none
  else
   some j
def jm (F:Nat) (a0:List al) (a1:cD) (j:Int):Option Int:=
 (m3 F a0 j).bind fun I=>
 if j<(0:Int) then
  some (-1)
 else
  if I<(0:Int) then
   some (-1)
  else
   if (a1.an.length:Int)=(0:Int) then
    some (-1)
   else
    ((walk_At_l0 F a0 a1 j F I 0 0):Option Int).bind fun o=>match o with
     | J=>some J
theorem ql (F:Nat) {h:AH} {Z:Zn} {a0:List al} {a1:cD} {au:Int} {v2 v4} (hI:Inv Z h) (aE:RS (α:=al) Z v2 a0) (J:RS (α:=aq) Z v4 a1.an) {r:Int} (hm:jm F a0 a1 au=some r):
  bY Tryz.prog 10 [v2, .agg #[v4],V au] h Z (V r):=by
 refine b1 Tryz.func10 hI ?_
 intro hs hS
 unfold jm at hm
 refine sr Fw<|e2 rfl trivial (eK (cs:=[v4]) rfl rfl) hS ?_
 intro aF a3 ay
 refine xn 1<|s0 ?_
 obtain ⟨ab,aG,hm⟩:=ai hm
 refine cP 2 ay (wY F ay.inv aE aG) ?_
 rintro _ a5 aH rfl
 refine dt 0 [V 0] aH ?_
 intro aI a6 aL
 refine bG 0 0 (V ab) [V ab] [V ab] aL rfl rfl rfl ?_
 intro a9 U
 refine xn 0<|sq<|s0<|aT 1 hm ?_ ?_<;>intro ba hm
 refine xn 10<|dT<|sp 1<|rt<|⟨rfl,?_⟩
 obtain rfl:=si hm
 refine ⟨_,_,_,tk (V (-1)) (ResL.nil),U,?_⟩
 exact rfl
 refine aD 1 0 (V ab) U rfl<|aT 0 hm ?_ ?_<;>intro bb hm
 refine xn 7<|dT<|sp 1<|rt<|⟨rfl,?_⟩
 obtain rfl:=si hm
 refine ⟨_,_,_,tk (V (-1)) (ResL.nil),U,?_⟩
 exact rfl
 refine aD 3 1 v4 U rfl<|bC 0 v4 (RS.len J)<|aK 0 hm ?_ ?_<;>intro bc hm
 refine xn 1<|dT<|sp 1<|rt<|⟨rfl,?_⟩
 obtain rfl:=si hm
 refine ⟨_,_,_,tk (V (-1)) (ResL.nil),U,?_⟩
 exact rfl
 refine xn 1<|dF<|sk<|sp 1<|sq<|s0<|aD 1 1 v4 U rfl<|bC 0 v4 (RS.len J)<|xn 1 ?_
 obtain ⟨av,j,hm⟩:=ai hm
 refine aJ [8] (fun l h=>∃ az ah,ah=av∧l=[(8,V ah)]∧St hs [] Z (0,0) az h []) ?_ ?_
 rintro l bd ⟨az,ah,rfl,rfl,aM⟩
 try dsimp only at hm
 refine sp 2<|rt<|⟨rfl,?_⟩
 obtain rfl:=si hm
 refine ⟨_,_,_,tk (V ah) (ResL.nil),aM,?_⟩
 exact rfl
 refine bk 0<|lp [4,7,8,27,28] (fun n l h=>∃ aA aj aa ak ao ar,walk_At_l0 F a0 a1 au n aj aa ak=some av∧l=[(4,Pt ao 0),(7,Pt ar 0),(8,V aa),(27,V (a1.an.length:Int)),(28,V ak)]∧St hs [] Z (0,0) aA h [.ae ao [v4], .ae ar [V aj]]) F ⟨_,ab,0,0,aF,aI,j,(by kernel_rfl),((U.front 0 rfl).front 1 rfl)⟩ ?_
 rintro aw l bf ⟨aA,aj,aa,ak,ao,ar,j,rfl,I⟩
 rcases aw with _ | aw
 cases (show none=some av from j)
 rw [walk_At_l0] at j
 refine s0<|aT 0 j ?_ ?_<;>intro bg j
 refine xn 0<|sq<|dT<|sk<|sq<|bk 1<|s0<|aD 1 0 v4 I rfl<|a8 1 j (J.mono I.ag) ?_
 intro bh j
 obtain ⟨bj,aN,j⟩:=ai j
 obtain ⟨bl,aP,aQ⟩:=RS.bV (J.mono I.ag) (i:=aa) aN
 obtain ⟨aU,aV,rfl⟩:=ey aP
 refine eS 1 4 aU (aQ _ (I.bO (aO.refl _))) ?_
 obtain ⟨bm,aW,j⟩:=ai j
 refine cA 1 I (fun p=>zx F p aV (J.mono I.ag) aW) ?_
 rintro _ bn bo _ aB ad ⟨rfl,rfl⟩
 refine xn 1<|sq<|s0<|aT 1 j ?_ ?_<;>intro bp j
 refine xn 0<|dT<|xt 0<|h3 rfl<|aS ?_
 obtain rfl:=si j
 exact ⟨_,aa,rfl,(by kernel_rfl),(ad.takeN 0)⟩
 refine xn 0<|dF<|sk<|g0<|aD 1 0 v4 ad rfl<|a8 1 j (J.mono (I.ag.trans aB)) ?_
 intro bq j
 obtain ⟨bu,aX,j⟩:=ai j
 obtain ⟨bw,aY,aZ⟩:=RS.bV (J.mono (I.ag.trans aB)) (i:=aa) aX
 obtain ⟨a2,aC,rfl⟩:=ey aY
 refine eS 1 4 a2 (aZ _ (ad.bO (aO.refl _)))<|a8 1 j aC ?_
 intro bx j
 refine bt 0 0 (fun ax=>V ax) j aC ad ?_
 intro ax bz j
 refine xn 1<|gp 2 ?_
 exact ⟨aw,a7 _,⟨_,aj,ax,af (ak+1),ao,ar,j,(by kernel_rfl),ad⟩⟩
 refine xn 0<|sq<|dF<|xt 0<|aS ?_
 obtain rfl:=si j
 exact ⟨_,aa,rfl,(by kernel_rfl),(I.takeN 0)⟩
def AN:List br:=[uP 14 (mv 0),uP 15 (mv 2),uP 16 (mv 0),uP 17 (mv 3),uP 18 (mv 0),uP 19 (mv 3),uP 20 (ia 22 18 19),uL 21 (ld 3 20),uP 22 (mv 0),uP 23 (mv 2),uP 24 (ia 22 22 23),uL 25 (ld 3 24),uP 26 (ia 22 14 15),oF (.store 3 (t 26) (t 21)) .make [7,11],uP 27 (ia 22 16 17),oF (.store 3 (t 27) (t 25)) .make [7,11]]
def slices_Reverse_int_l0 (F:Nat) (a0:List Int):Nat→(List Int)→Int→Int→Option (List Int)
 | 0,_,_,_=>none
 | n+1,I,j,J=>
  if j<J then
   if 0≤J∧J<(I.length:Int) then
    (I[J.toNat]?).bind fun U=>
    if 0≤j∧j<(I.length:Int) then
     (I[j.toNat]?).bind fun aa=>
     if 0≤j∧j<(I.length:Int) then
      (I[j.toNat]?).bind fun ab=>
      if 0≤J∧J<((I.set j.toNat U).length:Int) then
       ((I.set j.toNat U)[J.toNat]?).bind fun ad=>
       slices_Reverse_int_l0 F a0 n ((I.set j.toNat U).set J.toNat aa) (af (j+1)) (af (J - 1))
      else none
     else none
    else none
   else none
  else
   some I
def n7 (F:Nat) (a0:List Int):Option (List Int):=
 ((slices_Reverse_int_l0 F a0 F a0 0 (af ((a0.length:Int) - 1))):Option (List Int)).bind fun o=>match o with
  | j=>some j
theorem DR (F:Nat) {h:AH} {Z:Zn} {a0:List Int} {v2 ag} (hP:Pre Z h [.gs v2 ag (aa Int)]) (az:RCs (α:=Int) Z ag a0) {r:(List Int)} (hm:n7 F a0=some r):
  bS Tryz.prog 33 [v2] h Z [.gs v2 ag (aa Int)] fun v Z' A'=>∃ aA, .tuple #[]=v∧A'=[.gs v2 aA (aa Int)]∧RCs (α:=Int) Z' aA r:=by
 refine b3 Tryz.func33 hP ?_
 intro hs hS
 unfold n7 at hm
 refine s0<|bC 1 v2 (hS.dP (i:=0) rfl az)<|xn 3 ?_
 obtain ⟨ao,I,hm⟩:=ai hm
 refine aJ [] (fun l h=>∃ aq ar an,ar=ao∧RCs (α:=Int) aq an ar∧l=[]∧St hs (a2 [.gs v2 ag (aa Int)]) Z (0,0) aq h [.gs v2 an (aa Int)]) ?_ ?_
 rintro l bo ⟨aq,ar,an,rfl,aW,rfl,aX⟩
 try dsimp only at hm
 obtain rfl:=si hm
 refine ⟨_,_,_,ResL.nil,aX,?_⟩
 exact ⟨an,rfl,rfl,aW⟩
 refine bk 0<|lp [0,2,3] (fun n l h=>∃ av aj J U ak,slices_Reverse_int_l0 F a0 n aj J U=some ao∧RCs (α:=Int) av ak aj∧l=[(0,v2),(2,V J),(3,V U)]∧St hs (a2 [.gs v2 ag (aa Int)]) Z (0,0) av h [.gs v2 ak (aa Int)]) F ⟨_,a0,0,af ((a0.length:Int) - 1),ag,I,az,(by kernel_rfl),hS⟩ ?_
 rintro aw l bp ⟨av,aj,J,U,ak,I,ab,rfl,aB⟩
 rcases aw with _ | aw
 cases (show none=some ao from I)
 rw [slices_Reverse_int_l0] at I
 refine sq<|s0<|aT 2 I ?_ ?_<;>intro bq I
 refine xn 0<|dT<|sk<|sq<|bk 1<|ek AN aB ?_
 intro aC bt aD ad
 refine yq 6 [(19,V U),(18,v2),(17,V U),(16,v2),(15,V J),(14,v2),(0,v2),(2,V J),(3,V U)] ?_
 obtain ⟨aE,I⟩:=aH I
 refine aF rfl trivial (bx rfl rfl (by kernel_rfl:slTy _ _=some (aa Int)) (ad.bR (j:=0) rfl ab (by omega)) aE.1 aE.2) ?_
 obtain ⟨ae,aI,I⟩:=ai I
 obtain ⟨bu,aZ,a1,bw⟩:=ad.cv (j:=0) rfl ab (i:=U) aI
 obtain rfl:=fB aZ
 have a3:=dw aI
 have a5:=ad.bR (j:=0) rfl ab a3
 have bz:(baseOf v2).block<aC:=dD (aD.1 _ (au (i:=0) rfl)) a5
 refine dy rfl trivial rfl (by show (baseOf v2).block<_;omega) (aG (v:=V ae) trivial) (bE (w:=V ae) a1 rfl (by kernel_rfl)) trivial<|yq 2 [(23,V J),(22,v2),(21,V ae),(17,V U),(16,v2),(15,V J),(14,v2),(0,v2),(2,V J),(3,V U)] ?_
 obtain ⟨aK,I⟩:=aH I
 refine aF rfl trivial (bx rfl rfl (by kernel_rfl:slTy _ _=some (aa Int)) (ad.bR (j:=0) rfl ab (by omega)) aK.1 aK.2) ?_
 obtain ⟨ah,aL,I⟩:=ai I
 obtain ⟨bA,a6,a8,bB⟩:=ad.cv (j:=0) rfl ab (i:=J) aL
 obtain rfl:=fB a6
 have ba:=dw aL
 have bb:=ad.bR (j:=0) rfl ab ba
 have bD:(baseOf v2).block<aC:=dD (aD.1 _ (au (i:=0) rfl)) bb
 refine dy rfl trivial rfl (by show (baseOf v2).block<_;omega) (aG (v:=V ah) trivial) (bE (w:=V ah) a8 rfl (by kernel_rfl)) trivial ?_
 obtain ⟨aM,I⟩:=aH I
 refine aF rfl trivial (bx rfl rfl (by kernel_rfl:slTy _ _=some (aa Int)) (ad.bR (j:=0) rfl ab (by omega)) aM.1 aM.2) ?_
 obtain ⟨bF,aN,I⟩:=ai I
 obtain ⟨bG,bc,bH,bd⟩:=ad.cv (j:=0) rfl ab (i:=J) aN
 obtain rfl:=fB bc
 have aP:St _ _ _ _ _ _ ([.gs v2 ak (aa Int)]++[]):=(ad.front 0 rfl)
 refine lr rfl trivial aP (gD (u':=ae) (vs:=[V ae]) (a9:=[V ae]) aP.sub (m:=0) rfl ab aN bd rfl rfl rfl (by kernel_rfl) rfl rfl rfl rfl) (aO.refl _) (.drop (by decide) (.drop (by decide) .nil)) ?_
 rintro bI bf ⟨ax,ay⟩
 obtain ⟨aQ,I⟩:=aH I
 refine aF rfl trivial (bx rfl rfl (by kernel_rfl:slTy _ _=some (aa Int)) (ay.bR (j:=0) rfl ax (by omega)) aQ.1 aQ.2) ?_
 obtain ⟨bJ,aU,I⟩:=ai I
 obtain ⟨bK,bg,bL,bh⟩:=ay.cv (j:=0) rfl ax (i:=U) aU
 obtain rfl:=fB bg
 have aV:St _ _ _ _ _ _ ([.gs v2 bf (aa Int)]++[]):=(ay.front 0 rfl)
 refine lr rfl trivial aV (gD (u':=ah) (vs:=[V ah]) (a9:=[V ah]) aV.sub (m:=0) rfl ax aU bh rfl rfl rfl (by kernel_rfl) rfl rfl rfl rfl) (aO.refl _) (.drop (by decide) (.drop (by decide) .nil)) ?_
 rintro bM bj ⟨bl,bm⟩
 refine yf [(0,v2),(2,V J),(3,V U)] ?_
 have bn:=bm.aY
 refine gp 6 ?_
 exact ⟨aw,a7 _,⟨_,(aj.set J.toNat ae).set U.toNat ah,af (J+1),af (U - 1),bj,I,bl,(by kernel_rfl),bn⟩⟩
 refine xn 0<|dF<|xt 0<|aS ?_
 obtain rfl:=si I
 exact ⟨_,aj,ak,rfl,ab,(by kernel_rfl),aB⟩
def FG:List aR:=[u 3 (mv 0),u 4 (.binOp .eql 22 (t 3) (.const (.slice none 0 0)) 22)]
def A8:List aR:=[u 5 (.buildSlice 22 0 #[]),u 6 (mv 0),u 7 (cb .append #[(t 5),(t 6)] #[22,22]),u 2 (sg 7)]
def lT (F:Nat) (a0:List Int):Option (List Int):=
 if ([]:List Int).length+a0.length≤17592186044416 then
  some (([]:List Int)++a0)
 else none
theorem vE (F:Nat) {h:AH} {Z:Zn} {a0:List Int} {v2} (hP:Pre Z h []) (I:RS (α:=Int) Z v2 a0) {r:(List Int)} (hm:lT F a0=some r):
  bS Tryz.prog 34 [v2] h Z [] fun v Z' A'=>∃ v4 J,v4=v∧A'=[.gs v4 J (aa Int)]∧RCs (α:=Int) Z' J r:=by
 refine b3 Tryz.func34 hP ?_
 intro hs hS
 unfold lT at hm
 replace hS:St hs [] Z (0,0) Z hs []:=hS
 refine sp 1<|sq<|sr FG<|xq 1 [(3,v2),(0,v2)] ?_
 rcases Bl I with ⟨ad,j⟩ | j
 replace hm:some []=some r:=by rw [ad] at hm;simpa using hm
 refine bW rfl trivial (bm rfl rfl (w6 ⟨_,Tryz.underlying22⟩ j))<|xn 0<|dT<|sp 1<|rt<|⟨rfl,?_⟩
 have ae:=hS.dh (aa Int)
 obtain rfl:=si hm
 refine ⟨_,_,_,tk (.slice none 0 0) (ResL.nil),ae,?_⟩
 exact ⟨(.slice none 0 0),[],rfl,rfl,(RCs.bq _)⟩
 refine bW rfl trivial (bm rfl rfl (Gs ⟨_,Tryz.underlying22⟩ j))<|xf [(4, .bool false),(0,v2)]<|dF<|sk<|sr A8 ?_
 have af:RCs (α:=Int) Z [] []:=RCs.bq _
 refine dG rfl trivial (c6 (cells:=[]) (s:=1) (by kernel_rfl)) (by kernel_rfl) hS ?_
 intro ag an U
 refine xq 1 [(6,v2),(5,ag)] ?_
 obtain ⟨ao,ah⟩:=RS.news I (U).inv
 obtain ⟨aq,hm⟩:=aH hm
 refine eZ rfl trivial (dE (ys:=a0) (bX:=8) U (i:=0) rfl af ah rfl rfl (by kernel_rfl) (by omega) (by omega)) ?_
 rintro ab ai ar ⟨aj,ak⟩
 refine xn 1<|rt<|⟨rfl,?_⟩
 obtain rfl:=si hm
 refine ⟨_,_,_,tk ab (ResL.nil),ak,?_⟩
 exact ⟨ab,ai,rfl,rfl,aj⟩
def FL:List aR:=[u 2 (.box 36 (t 0)),u 4 (.assign (.const (.slice none 0 0)))]
def BX:List aR:=[u 17 (mv 5),u 18 (mv 1),u 19 (.buildSlice 22 1 #[(0,(t 18))]),u 20 (cb .append #[(t 17),(t 19)] #[22,22]),u 5 (sg 20)]
def walk_Path_l0 (F:Nat) (a0:cD) (a1:Int):Nat→Int→(List Int)→Option (List Int)
 | 0,_,_=>none
 | n+1,j,I=>
  (kA F a0 j).bind fun J=>
  if J=true then
   if (I.length:Int)<(a0.an.length:Int) then
    if I.length+([j]:List Int).length≤17592186044416 then
     if 0≤j∧j<(a0.an.length:Int) then
      (a0.an[j.toNat]?).bind fun U=>
      walk_Path_l0 F a0 a1 n U.Up (I++([j]:List Int))
     else none
    else none
   else
    some I
  else
   some I
def kg (F:Nat) (a0:cD) (a1:Int):Option (List Int):=
 ((walk_Path_l0 F a0 a1 F a1 []):Option (List Int)).bind fun o=>match o with
  | j=>(n7 F j).bind fun I=>
  (lT F I).bind fun J=>
  some J
theorem DY (F:Nat) {h:AH} {Z:Zn} {a0:cD} {a1:Int} {v2} (hP:Pre Z h []) (ak:RS (α:=aq) Z v2 a0.an) {r:(List Int)} (hm:kg F a0 a1=some r):
  bS Tryz.prog 13 [.agg #[v2],V a1] h Z [] fun v Z' A'=>∃ v4 aB,v4=v∧A'=[.gs v4 aB (aa Int)]∧RCs (α:=Int) Z' aB r:=by
 refine b3 Tryz.func13 hP ?_
 intro hs hS
 unfold kg at hm
 replace hS:St hs [] Z (0,0) Z hs []:=hS
 refine sr FL<|e2 rfl trivial (eK (cs:=[v2]) rfl rfl) hS ?_
 intro aI bd aK
 refine xn 1<|sp 1<|sq ?_
 obtain ⟨au,I,hm⟩:=ai hm
 refine aJ [5] (fun l h=>∃ av aw ax ay,aw=au∧RCs (α:=Int) av ay aw∧l=[(5,ax)]∧St hs [] Z (0,0) av h [.gs ax ay (aa Int)]) ?_ ?_
 rintro l bf ⟨av,aw,ax,ay,rfl,aL,rfl,aM⟩
 try dsimp only at hm
 refine s0 ?_
 obtain ⟨bg,aN,hm⟩:=ai hm
 refine cA 1 aM (fun p=>DR F p aL aN) ?_
 rintro _ bh bj _ bl aP ⟨bm,rfl,rfl,aQ⟩
 refine xn 0<|s0 ?_
 obtain ⟨bn,bo,aU,aC⟩:=(aP.front 0 rfl).freeze aQ
 obtain ⟨bp,aV,hm⟩:=ai hm
 refine c0 1 aC (vE F aC.eM aU aV) ?_
 rintro _ bt bu _ bw aW ⟨aE,aX,rfl,rfl,aY⟩
 refine xn 1<|rt<|⟨rfl,?_⟩
 obtain rfl:=si hm
 refine ⟨_,_,_,tk aE (ResL.nil),aW,?_⟩
 exact ⟨aE,aX,rfl,rfl,aY⟩
 refine bk 0 ?_
 have aZ:=aK.dh (aa Int)
 refine lp [1,2,5] (fun n l h=>∃ ao J ad af U ah,walk_Path_l0 F a0 a1 n J ad=some au∧RCs (α:=Int) ao ah ad∧l=[(1,V J),(2,Pt af 0),(5,U)]∧St hs [] Z (0,0) ao h [.ae af [v2], .gs U ah (aa Int)]) F ⟨_,a1,[],aI,(.slice none 0 0),[],I,(RCs.bq _),(by kernel_rfl),((aZ.front 0 rfl).front 1 rfl)⟩ ?_
 rintro az l bx ⟨ao,J,ad,af,U,ah,I,ar,rfl,ab⟩
 rcases az with _ | az
 cases (show none=some au from I)
 rw [walk_Path_l0] at I
 refine sq<|s0<|aD 0 0 (.agg #[v2]) ab rfl ?_
 obtain ⟨bz,a2,I⟩:=ai I
 refine cP 1 ab (sx F ab.inv (ak.mono ab.ag) a2) ?_
 rintro _ bA aj rfl
 refine kb 1 9 I ?_ ?_<;>intro bB I
 refine bC 1 U (aj.dP (i:=1) rfl ar)<|aD 1 0 v2 aj rfl<|bC 0 v2 (RS.len (ak.mono ab.ag))<|aT 0 I ?_ ?_<;>intro bD I
 refine xn 1<|dT<|sk<|bk 1<|sr BX<|xq 2 [(18,V J),(17,U),(1,V J),(2,Pt af 0),(5,U)] ?_
 have a3:RCs (α:=Int) ao [V J] ([J]:List Int):=RCs.cons (cs:=[V J]) rfl (RCs.bq _)
 refine dG rfl trivial (c6 (cells:=[V J]) (s:=1) (by kernel_rfl)) (by kernel_rfl) aj ?_
 intro bE bF aF
 obtain ⟨bG,I⟩:=aH I
 refine eZ rfl trivial (dE (ys:=([J]:List Int)) (bX:=8) aF (i:=2) rfl ar ((aF).eB (j:=0) rfl a3) rfl rfl (by kernel_rfl) (by omega) (by omega)) ?_
 rintro a5 a6 bH ⟨a9,aA⟩
 refine xn 1<|g0<|aD 1 1 v2 aA rfl<|a8 1 I (ak.mono ab.ag) ?_
 intro bI I
 obtain ⟨aG,ba,I⟩:=ai I
 obtain ⟨bJ,bb,bc⟩:=RS.bV (ak.mono ab.ag) (i:=J) ba
 obtain ⟨bK,bL,rfl⟩:=ey bb
 refine eS 1 3 (V aG.Up) (bc _ (aA.bO (aO.refl _)))<|xn 1 ?_
 exact ⟨az,a7 _,⟨_,aG.Up,ad++([J]:List Int),af,a5,a6,I,a9,(by kernel_rfl),(((aA.front 2 rfl).front 2 rfl).takeN 2)⟩⟩
 refine xn 1<|dF<|xt 0<|aS ?_
 obtain rfl:=si I
 exact ⟨_,ad,U,ah,rfl,ar,(by kernel_rfl),((aj.front 1 rfl).takeN 1)⟩
 refine xn 7<|dF<|xt 0<|aS ?_
 obtain rfl:=si I
 exact ⟨_,ad,U,ah,rfl,ar,(by kernel_rfl),((aj.front 1 rfl).takeN 1)⟩
def vz (iP:Int→cD→(List Bool)→(List Int)→Option ((List Bool)×(List Int))):Prop:=∀ {h:AH} {Z:Zn} {a0:Int} {a1:cD} {ag:List Bool} {ah:List Int} {j ab I v6 ad J v10 af U} (hP:Pre Z h [.ae j [ab], .ae I [v6], .gs v6 ad (aa Bool), .ae J [v10], .gs v10 af (aa Int), .ae U [.func (.func 36) #[] #[Pt j 0,Pt I 0,Pt J 0,Pt U 0]]]) (ao:RS (α:=aq) Z ab a1.an) (ar:RCs (α:=Bool) Z ad ag) (au:RCs (α:=Int) Z af ah) {r:(List Bool)×(List Int)} (hm:iP a0 a1 ag ah=some r),bS Tryz.prog 36 [V a0,Pt j 0,Pt I 0,Pt J 0,Pt U 0] h Z [.ae j [ab], .ae I [v6], .gs v6 ad (aa Bool), .ae J [v10], .gs v10 af (aa Int), .ae U [.func (.func 36) #[] #[Pt j 0,Pt I 0,Pt J 0,Pt U 0]]] fun v Z' A'=>∃ ai aj ak, .tuple #[]=v∧A'=[.ae j [ab], .ae I [v6], .gs v6 ai (aa Bool), .ae J [aj], .gs aj ak (aa Int), .ae U [.func (.func 36) #[] #[Pt j 0,Pt I 0,Pt J 0,Pt U 0]]]∧RCs (α:=Bool) Z' ai r.1∧RCs (α:=Int) Z' ak r.2
def CC:List aR:=[u 18 (ld 81 2),u 19 (mv 0),u 20 (ia 81 18 19),o (.store 4 (t 20) (.const (.bool true)))]
def EZ:List aR:=[u 21 (ld 22 3),u 22 (mv 0),u 23 (.buildSlice 22 1 #[(0,(t 22))]),u 24 (cb .append #[(t 21),(t 23)] #[22,22]),o (.store 22 (t 3) (t 24))]
def walk_Order_1_l0 (F:Nat) (iP:Int→cD→(List Bool)→(List Int)→Option ((List Bool)×(List Int))) (a0:Int) (a1:cD) (ad:List Bool) (ae:List Int):Nat→(List Int)→Int→Int→(List Bool)→(List Int)→Option ((List Bool)×(List Int))
 | 0,_,_,_,_,_=>none
 | n+1,I,J,j,U,aa=>
  if j<J then
   if 0≤j∧j<(I.length:Int) then
    (I[j.toNat]?).bind fun ag=>
    (iP ag a1 U aa).bind fun ab=>
    walk_Order_1_l0 F iP a0 a1 ad ae n I J (af (j+1)) ab.1 ab.2
   else none
  else
   some (U,aa)
def ou (F:Nat) (iP:Int→cD→(List Bool)→(List Int)→Option ((List Bool)×(List Int))) (a0:Int) (a1:cD) (j:List Bool) (I:List Int):Option ((List Bool)×(List Int)):=
 (kA F a1 a0).bind fun U=>
 if U=true then
  if 0≤a0∧a0<(j.length:Int) then
   (j[a0.toNat]?).bind fun aa=>
   if aa=true then
    some (j,I)
   else
    if 0≤a0∧a0<(j.length:Int) then
     (j[a0.toNat]?).bind fun ae=>
     if I.length+([a0]:List Int).length≤17592186044416 then
      if 0≤a0∧a0<(a1.an.length:Int) then
       (a1.an[a0.toNat]?).bind fun J=>
       ((walk_Order_1_l0 F iP a0 a1 j I F J.Kids (J.Kids.length:Int) 0 (j.set a0.toNat true) (I++([a0]:List Int))):Option ((List Bool)×(List Int))).bind fun o=>match o with
        | (ab,ad)=>some (ab,ad)
      else none
     else none
    else none
  else none
 else
  some (j,I)
theorem Fc (F:Nat) (iP:Int→cD→(List Bool)→(List Int)→Option ((List Bool)×(List Int))) (zS:vz iP) {h:AH} {Z:Zn} {a0:Int} {a1:cD} {aw:List Bool} {ax:List Int} {J ah ab v6 ak U v10 ao I} (hP:Pre Z h [.ae J [ah], .ae ab [v6], .gs v6 ak (aa Bool), .ae U [v10], .gs v10 ao (aa Int), .ae I [.func (.func 36) #[] #[Pt J 0,Pt ab 0,Pt U 0,Pt I 0]]]) (ay:RS (α:=aq) Z ah a1.an) (ar:RCs (α:=Bool) Z ak aw) (aU:RCs (α:=Int) Z ao ax) {r:(List Bool)×(List Int)} (hm:ou F iP a0 a1 aw ax=some r):
  bS Tryz.prog 36 [V a0,Pt J 0,Pt ab 0,Pt U 0,Pt I 0] h Z [.ae J [ah], .ae ab [v6], .gs v6 ak (aa Bool), .ae U [v10], .gs v10 ao (aa Int), .ae I [.func (.func 36) #[] #[Pt J 0,Pt ab 0,Pt U 0,Pt I 0]]] fun v Z' A'=>∃ ba bb bc, .tuple #[]=v∧A'=[.ae J [ah], .ae ab [v6], .gs v6 ba (aa Bool), .ae U [bb], .gs bb bc (aa Int), .ae I [.func (.func 36) #[] #[Pt J 0,Pt ab 0,Pt U 0,Pt I 0]]]∧RCs (α:=Bool) Z' ba r.1∧RCs (α:=Int) Z' bc r.2:=by
 refine b3 Tryz.func36 hP ?_
 intro hs hS
 unfold ou at hm
 refine sq<|s0<|aD 0 0 (.agg #[ah]) hS rfl ?_
 obtain ⟨bZ,bu,hm⟩:=ai hm
 refine cP 1 hS (sx F hS.inv ay bu) ?_
 rintro _ b0 aj rfl
 refine kb 0 10 hm ?_ ?_<;>intro b1 hm
 refine aD 2 1 v6 aj rfl<|eV 1 2 hm aj ar rfl ?_
 intro b2 hm
 refine fZ 0 0 2 (fun bd=> .bool bd) hm aj ar rfl ?_
 intro bd b4 hm
 refine xn 1<|db hm ?_ ?_<;>intro b5 hm
 refine rt<|⟨rfl,?_⟩
 obtain rfl:=si hm
 refine ⟨_,_,_,ResL.nil,aj,?_⟩
 exact ⟨ak,v10,ao,rfl,rfl,ar,aU⟩
 refine sk<|sr CC<|aD 0 1 v6 aj rfl<|xq 1 [(19,V a0),(18,v6),(0,V a0),(1,Pt J 0),(3,Pt U 0),(4,Pt I 0)]<|eV 0 2 hm aj ar rfl ?_
 intro b6 hm
 obtain ⟨b7,bf,hm⟩:=ai hm
 obtain ⟨b8,bw,b9,bx⟩:=aj.cv (j:=2) rfl ar (i:=a0) bf
 obtain rfl:=B3 bw
 refine mg rfl trivial (gD (u':=true) (vs:=[.bool true]) (a9:=[.bool true]) aj (m:=2) rfl ar bf bx rfl rfl rfl (by kernel_rfl) rfl rfl rfl rfl) ?_
 rintro ca bA ⟨bB,bg⟩
 refine xn 0<|sr EZ<|aD 0 3 v10 bg rfl<|xq 1 [(22,V a0),(21,v10),(0,V a0),(1,Pt J 0),(3,Pt U 0),(4,Pt I 0)] ?_
 have bD:RCs (α:=Int) Z [V a0] ([a0]:List Int):=RCs.cons (cs:=[V a0]) rfl (RCs.bq _)
 refine dG rfl trivial (c6 (cells:=[V a0]) (s:=1) (by kernel_rfl)) (by kernel_rfl) bg ?_
 intro cb cc bh
 obtain ⟨cd,hm⟩:=aH hm
 refine eZ rfl trivial (dE (ys:=([a0]:List Int)) (bX:=8) bh (i:=5) rfl aU ((bh).eB (j:=0) rfl bD) rfl rfl (by kernel_rfl) (by omega) (by omega)) ?_
 rintro az bE cf ⟨bF,aV⟩
 refine bG 0 4 az [az] [az] aV rfl (aV.fQ (i:=5) rfl) (bz (aV.fR (i:=5) rfl) cz) ?_
 intro cg aW
 refine xn 0<|s0<|aD 1 1 ah aW rfl<|a8 1 hm ay ?_
 intro ch hm
 obtain ⟨bj,bH,hm⟩:=ai hm
 obtain ⟨cj,bI,bJ⟩:=RS.bV ay (i:=a0) bH
 obtain ⟨aX,bl,rfl⟩:=ey bI
 refine eS 1 4 aX (bJ _ (aW.bO (aO.refl _)))<|bC 0 aX (RS.len bl)<|xn 1 ?_
 obtain ⟨aY,ad,hm⟩:=ai hm
 refine aJ [] (fun l h=>∃ aA aZ a3 aB aC aE,(aZ,a3)=aY∧RCs (α:=Bool) aA aB aZ∧RCs (α:=Int) aA aE a3∧l=[]∧St hs (a2 [.ae J [ah], .ae ab [v6], .gs v6 ak (aa Bool), .ae U [v10], .gs v10 ao (aa Int), .ae I [.func (.func 36) #[] #[Pt J 0,Pt ab 0,Pt U 0,Pt I 0]]]) Z (0,0) aA h [.ae J [ah], .ae I [.func (.func 36) #[] #[Pt J 0,Pt ab 0,Pt U 0,Pt I 0]], .ae ab [v6], .gs v6 aB (aa Bool), .ae U [aC], .gs aC aE (aa Int)]) ?_ ?_
 rintro l ck ⟨aA,aZ,a3,aB,aC,aE,rfl,bK,bL,rfl,bM⟩
 try dsimp only at hm
 obtain rfl:=si hm
 refine ⟨_,_,_,ResL.nil,((((((bM.front 1 rfl).front 5 rfl).front 5 rfl).front 5 rfl).front 5 rfl).front 5 rfl),?_⟩
 exact ⟨aB,aC,aE,rfl,rfl,bK,bL⟩
 refine bk 0<|lp [4,30,31,32] (fun n l h=>∃ au aF aG aI aK aL aM aN aP aQ,walk_Order_1_l0 F iP a0 a1 aw ax n aF aG aI aK aL=some aY∧RS (α:=Int) au aM aF∧RCs (α:=Bool) au aN aK∧RCs (α:=Int) au aQ aL∧l=[(4,Pt I 0),(30,aM),(31,V aG),(32,V aI)]∧St hs (a2 [.ae J [ah], .ae ab [v6], .gs v6 ak (aa Bool), .ae U [v10], .gs v10 ao (aa Int), .ae I [.func (.func 36) #[] #[Pt J 0,Pt ab 0,Pt U 0,Pt I 0]]]) Z (0,0) au h [.ae J [ah], .ae I [.func (.func 36) #[] #[Pt J 0,Pt ab 0,Pt U 0,Pt I 0]], .ae ab [v6], .gs v6 aN (aa Bool), .ae U [aP], .gs aP aQ (aa Int)]) F ⟨_,bj.Kids,(bj.Kids.length:Int),0,aw.set a0.toNat true,ax++([a0]:List Int),aX,bA,az,bE,ad,bl,bB,bF,(by kernel_rfl),(((((((aW.front 5 rfl).front 5 rfl).front 5 rfl).front 5 rfl).front 6 rfl).front 6 rfl).takeN 6)⟩ ?_
 rintro a5 l cl ⟨au,aF,aG,aI,aK,aL,aM,aN,aP,aQ,ad,a6,bm,bn,rfl,av⟩
 rcases a5 with _ | a5
 cases (show none=some aY from ad)
 rw [walk_Order_1_l0] at ad
 refine s0<|aT 0 ad ?_ ?_<;>intro cm ad
 refine xn 0<|sq<|dT<|sk<|sq<|bk 1<|s0<|a8 0 ad a6 ?_
 intro cn ad
 refine bt 0 0 (fun bo=>V bo) ad a6 av ?_
 intro bo cp ad
 refine xn 1<|g0<|aD 0 1 (.func (.func 36) #[] #[Pt J 0,Pt ab 0,Pt U 0,Pt I 0]) av rfl ?_
 obtain ⟨bp,bN,ad⟩:=ai ad
 refine cA 1 ((((((av.front 1 rfl).front 5 rfl).front 5 rfl).front 5 rfl).front 5 rfl).front 5 rfl) (fun p=>zS p (ay.mono av.ag) bm bn bN) ?_
 rintro _ cq cr _ bP bQ ⟨bR,bT,bU,rfl,rfl,bW,bY⟩
 refine xn 0<|gp 2 ?_
 exact ⟨a5,a7 _,⟨_,aF,aG,af (aI+1),bp.1,bp.2,aM,bR,bT,bU,ad,(a6.mono bP),bW,bY,(by kernel_rfl),((((((bQ.front 4 rfl).front 4 rfl).front 4 rfl).front 4 rfl).front 5 rfl).front 5 rfl)⟩⟩
 refine xn 0<|sq<|dF<|xt 0<|aS ?_
 obtain rfl:=si ad
 exact ⟨_,aK,aL,aN,aP,aQ,rfl,bm,bn,(by kernel_rfl),av⟩
 refine xn 7<|dT<|rt<|⟨rfl,?_⟩
 obtain rfl:=si hm
 refine ⟨_,_,_,ResL.nil,aj,?_⟩
 exact ⟨ak,v10,ao,rfl,rfl,ar,aU⟩
def mw (F:Nat):Nat→Int→cD→(List Bool)→(List Int)→Option ((List Bool)×(List Int))
 | 0=>fun _ _ _ _=>none
 | n+1=>ou F (mw F n)
theorem tt (F:Nat):∀ n,vz (mw F n)
 | 0=>by intro hP j I J r hm;cases hm
 | n+1=>by intro hP j I J r hm;exact Fc F _ (tt F n) hP j I J hm
def sU (F:Nat) (a0:Int) (a1:cD) (j:List Bool) (I:List Int):Option ((List Bool)×(List Int)):=mw F F a0 a1 j I
theorem ze (F:Nat) {h:AH} {Z:Zn} {a0:Int} {a1:cD} {ag:List Bool} {ah:List Int} {j ab I v6 ad J v10 af U} (hP:Pre Z h [.ae j [ab], .ae I [v6], .gs v6 ad (aa Bool), .ae J [v10], .gs v10 af (aa Int), .ae U [.func (.func 36) #[] #[Pt j 0,Pt I 0,Pt J 0,Pt U 0]]]) (ao:RS (α:=aq) Z ab a1.an) (ar:RCs (α:=Bool) Z ad ag) (au:RCs (α:=Int) Z af ah) {r:(List Bool)×(List Int)} (hm:sU F a0 a1 ag ah=some r):
  bS Tryz.prog 36 [V a0,Pt j 0,Pt I 0,Pt J 0,Pt U 0] h Z [.ae j [ab], .ae I [v6], .gs v6 ad (aa Bool), .ae J [v10], .gs v10 af (aa Int), .ae U [.func (.func 36) #[] #[Pt j 0,Pt I 0,Pt J 0,Pt U 0]]] fun v Z' A'=>∃ ai aj ak, .tuple #[]=v∧A'=[.ae j [ab], .ae I [v6], .gs v6 ai (aa Bool), .ae J [aj], .gs aj ak (aa Int), .ae U [.func (.func 36) #[] #[Pt j 0,Pt I 0,Pt J 0,Pt U 0]]]∧RCs (α:=Bool) Z' ai r.1∧RCs (α:=Int) Z' ak r.2:=tt F F hP ao ar au hm
def BF:List aR:=[u 1 (.box 36 (t 0)),u 2 (.assign (.const (.slice none 0 0)))]
def Cc:List aR:=[u 6 (fa 36 1 0),u 7 (ld 29 6),u 8 (cb .len #[(t 7)] #[29]),u 9 (.makeSlice 81 (t 8) (t 8)),u 4 (.alloc 81),o (.store 81 (t 4) (t 9))]
def nU (F:Nat) (a0:cD):Option (List Int):=
 if 0≤(a0.an.length:Int)∧(a0.an.length:Int)≤140737488355328 then
  (sU F 0 a0 (List.replicate (a0.an.length:Int).toNat false) []).bind fun j=>
  (lT F j.2).bind fun I=>
  some I
 else none
theorem yg (F:Nat) {h:AH} {Z:Zn} {a0:cD} {v2} (hP:Pre Z h []) (ae:RS (α:=aq) Z v2 a0.an) {r:(List Int)} (hm:nU F a0=some r):
  bS Tryz.prog 17 [.agg #[v2]] h Z [] fun v Z' A'=>∃ v4 af,v4=v∧A'=[.gs v4 af (aa Int)]∧RCs (α:=Int) Z' af r:=by
 refine b3 Tryz.func17 hP ?_
 intro hs hS
 unfold nU at hm
 replace hS:St hs [] Z (0,0) Z hs []:=hS
 refine sr BF<|e2 rfl trivial (eK (cs:=[v2]) rfl rfl) hS ?_
 intro j aK ar
 refine xn 1<|s0<|dt 0 [.slice none 0 0] ar ?_
 intro I aL ag
 refine xn 0<|sr Cc<|xq 1 [(6,Pt j 0),(3,Pt I 0),(1,Pt j 0)]<|aD 0 1 v2 ag rfl<|bC 0 v2 (RS.len ae) ?_
 obtain ⟨au,hm⟩:=aH hm
 refine Bf rfl trivial (Eb (α:=Bool) (Z:=Z) (x0:=false) (n:=(a0.an.length:Int)) (bX:=1) rfl rfl (by kernel_rfl) rfl au.1 (by omega) (by omega)) ag ?_
 intro ab aM aN av aw
 refine dt 0 [.slice none 0 0] aw ?_
 intro J aO ad
 refine bG 0 0 ab [ab] [ab] ad rfl (ad.fQ (i:=1) rfl) (bz (ad.fR (i:=1) rfl) cz) ?_
 intro aP ax
 refine xn 0<|s0<|dt 0 [.nilFunc] ax ?_
 intro U aQ ay
 refine xn 0<|s0<|bG 1 0 (.func (.func 36) #[] #[Pt j 0,Pt J 0,Pt I 0,Pt U 0]) [.func (.func 36) #[] #[Pt j 0,Pt J 0,Pt I 0,Pt U 0]] [.func (.func 36) #[] #[Pt j 0,Pt J 0,Pt I 0,Pt U 0]] ay rfl rfl rfl ?_
 intro aS ah
 refine xn 0<|s0<|aD 0 0 (.func (.func 36) #[] #[Pt j 0,Pt J 0,Pt I 0,Pt U 0]) ah rfl ?_
 have az:=ah.dh (aa Int)
 obtain ⟨aT,aA,hm⟩:=ai hm
 refine cA 0 ((((((az.front 1 rfl).front 1 rfl).front 4 rfl).front 4 rfl).front 4 rfl).front 5 rfl) (fun p=>ze F p ae av (RCs.bq _) aA) ?_
 rintro _ aU aV _ aW aj ⟨aX,aB,aY,rfl,rfl,aZ,aC⟩
 refine xn 0<|s0<|aD 0 3 aB aj rfl ?_
 obtain ⟨a1,a2,aE,ak⟩:=(aj.front 4 rfl).freeze aC
 obtain ⟨a3,aF,hm⟩:=ai hm
 refine c0 0 ak (vE F ak.eM aE aF) ?_
 rintro _ a5 a6 _ a7 aG ⟨ao,aI,rfl,rfl,aJ⟩
 refine xn 1<|rt<|⟨rfl,?_⟩
 obtain rfl:=si hm
 refine ⟨_,_,_,tk ao (ResL.nil),(aG.takeN 1),?_⟩
 exact ⟨ao,aI,rfl,rfl,aJ⟩
def yj:List br:=[uP 21 (mv 0),uP 22 (mv 1),uP 23 (ia 28 21 22),uP 24 (fa 76 23 1),uL 25 (ld 3 24),uP 26 (mv 0),uP 27 (mv 2),uP 28 (bc .sub 3 27 1 3),uP 29 (ia 28 26 28),uP 30 (fa 76 29 2),uL 31 (ld 3 30),uP 32 (.build 44 #[(0,(t 25)),(1,(t 31))]),uP 33 (.makeInterface 44 (t 32)),uP 6 (sg 33)]
def qn (F:Nat) (a0:List al) (a1:Int) (j:Int):Option (Sum Int eF):=
 ((if a1<j then
   if (0:Int)≤a1 then
    if j≤(a0.length:Int) then
     some true
    else
     some false
   else
    some false
  else
   some false):Option Bool).bind fun o=>match o with
  | I=>if I=true then
   if 0≤a1∧a1<(a0.length:Int) then
    (a0[a1.toNat]?).bind fun J=>
    if 0≤(af (j - 1))∧(af (j - 1))<(a0.length:Int) then
     (a0[(af (j - 1)).toNat]?).bind fun U=>
     some (.inr (⟨J.ah,U.To⟩:eF))
    else none
   else none
  else
   ((if (0:Int)≤a1 then
     if a1<(a0.length:Int) then
      some true
     else
      some false
    else
     some false):Option Bool).bind fun o=>match o with
    | aa=>if aa=true then
     if 0≤a1∧a1<(a0.length:Int) then
      (a0[a1.toNat]?).bind fun ab=>
      some (.inl ab.ah)
     else none
    else
     if (0:Int)<(a0.length:Int) then
      if 0≤(af ((a0.length:Int) - 1))∧(af ((a0.length:Int) - 1))<(a0.length:Int) then
       (a0[(af ((a0.length:Int) - 1)).toNat]?).bind fun ad=>
       some (.inl ad.To)
      else none
     else
      some (.inl 0)
theorem vC (F:Nat) {h:AH} {Z:Zn} {a0:List al} {a1:Int} {ab:Int} {v2} (hI:Inv Z h) (j:RS (α:=al) Z v2 a0) {r:(Sum Int eF)} (hm:qn F a0 a1 ab=some r):
  bY Tryz.prog 35 [v2,V a1,V ab] h Z (match r with | .inl az=> .iface 3 (V az) | .inr au=> .iface 44 (.agg #[V au.ah,V au.To])):=by
 refine b1 Tryz.func35 hI ?_
 intro hs hS
 unfold qn at hm
 refine sp 1<|sq<|bk 0<|sq ?_
 obtain ⟨aA,J,hm⟩:=ai hm
 refine aJ [0,1,2,7] (fun l h=>∃ av ak,ak=aA∧l=[(0,v2),(1,V a1),(2,V ab),(7, .bool ak)]∧St hs [] Z (0,0) av h []) ?_ ?_
 rintro l aN ⟨av,ak,rfl,rfl,U⟩
 try dsimp only at hm
 refine db hm ?_ ?_<;>intro aP hm
 refine cY yj U ?_
 intro aQ aS aU an
 refine yq 2 [(22,V a1),(21,v2),(0,v2),(2,V ab)] ?_
 obtain ⟨aw,hm⟩:=aH hm
 refine aF rfl trivial (bx rfl rfl (by kernel_rfl:slTy _ _=some (aa al)) (RS.cG (j.mono U.ag) (by omega)) aw.1 aw.2)<|yq 1 [(24, .pointer (some (bw v2 a1 (aa al) 1))),(0,v2),(2,V ab)] ?_
 obtain ⟨ae,aB,hm⟩:=ai hm
 obtain ⟨aV,aC,aD⟩:=RS.bV (j.mono U.ag) (i:=a1) aB
 obtain rfl:=eH aC
 refine cg rfl rfl trivial (fun h2 hz=>bE (w:=V ae.ah) (aD h2 hz) rfl (by kernel_rfl)) (an.bO (aO.refl _)) (aG (v:=V ae.ah) trivial) trivial<|yq 3 [(28,V (af (ab - 1))),(26,v2),(25,V ae.ah)] ?_
 obtain ⟨ax,hm⟩:=aH hm
 refine aF rfl trivial (bx rfl rfl (by kernel_rfl:slTy _ _=some (aa al)) (RS.cG (j.mono U.ag) (by omega)) ax.1 ax.2)<|yq 1 [(30, .pointer (some (bw v2 (af (ab - 1)) (aa al) 2))),(25,V ae.ah)] ?_
 obtain ⟨aj,aE,hm⟩:=ai hm
 obtain ⟨aW,aI,aK⟩:=RS.bV (j.mono U.ag) (i:=af (ab - 1)) aE
 obtain rfl:=eH aI
 refine cg rfl rfl trivial (fun h2 hz=>bE (w:=V aj.To) (aK h2 hz) rfl (by kernel_rfl)) (an.bO (aO.refl _)) (aG (v:=V aj.To) trivial) trivial<|ye 3 [(6, .iface 44 (.agg #[V ae.ah,V aj.To]))] ?_
 have aL:=an.aY
 refine rt<|bj<|⟨rfl,?_⟩
 obtain rfl:=si hm
 refine ⟨_,_,_,tk (.iface 44 (.agg #[V ae.ah,V aj.To])) (ResL.nil),aL,?_⟩
 exact rfl
 refine sq ?_
 obtain ⟨aM,ad,hm⟩:=ai hm
 refine aJ [0,1,34] (fun l h=>∃ ay ao,ao=aM∧l=[(0,v2),(1,V a1),(34, .bool ao)]∧St hs [] Z (0,0) ay h []) ?_ ?_
 rintro l aX ⟨ay,ao,rfl,rfl,I⟩
 try dsimp only at hm
 refine db hm ?_ ?_<;>intro aZ hm
 refine s0<|a8 2 hm (j.mono I.ag) ?_
 intro a2 hm
 refine bt 1 1 (fun aq=>V aq.ah) hm (j.mono I.ag) I ?_
 intro aq a3 hm
 refine xn 2<|rt<|bj<|⟨rfl,?_⟩
 obtain rfl:=si hm
 refine ⟨_,_,_,tk (.iface 3 (V aq.ah)) (ResL.nil),I,?_⟩
 exact rfl
 refine s0<|bC 1 v2 (RS.len (j.mono I.ag))<|cZ 0 hm ?_ ?_<;>intro a5 hm
 refine xn 1<|dT<|s0<|bC 2 v2 (RS.len (j.mono I.ag))<|a8 1 hm (j.mono I.ag) ?_
 intro a6 hm
 refine bt 1 2 (fun ar=>V ar.To) hm (j.mono I.ag) I ?_
 intro ar a7 hm
 refine xn 2<|rt<|bj<|⟨rfl,?_⟩
 obtain rfl:=si hm
 refine ⟨_,_,_,tk (.iface 3 (V ar.To)) (ResL.nil),I,?_⟩
 exact rfl
 refine xn 1<|dF<|sk<|sp 2<|rt<|⟨rfl,?_⟩
 obtain rfl:=si hm
 refine ⟨_,_,_,tk (.iface 3 (V 0)) (ResL.nil),I,?_⟩
 exact rfl
 refine g0<|cS 1 ad ?_ ?_<;>intro a9 ad
 refine bC 3 v2 (RS.len (j.mono U.ag))<|aT 0 ad ?_ ?_<;>intro ba ad
 refine xn 2 ?_
 obtain rfl:=si ad
 exact ⟨_,true,rfl,(by kernel_rfl),U⟩
 refine xn 2 ?_
 obtain rfl:=si ad
 exact ⟨_,false,rfl,(by kernel_rfl),U⟩
 refine xn 7 ?_
 obtain rfl:=si ad
 exact ⟨_,false,rfl,(by kernel_rfl),U⟩
 refine g0<|aT 2 J ?_ ?_<;>intro bb J
 refine cS 2 J ?_ ?_<;>intro bc J
 refine bC 4 v2 (RS.len j)<|e4 0 J ?_ ?_<;>intro bd J
 refine xn 2 ?_
 obtain rfl:=si J
 exact ⟨_,true,rfl,(by kernel_rfl),hS⟩
 refine xn 2 ?_
 obtain rfl:=si J
 exact ⟨_,false,rfl,(by kernel_rfl),hS⟩
 refine xn 8 ?_
 obtain rfl:=si J
 exact ⟨_,false,rfl,(by kernel_rfl),hS⟩
 refine xn 11 ?_
 obtain rfl:=si J
 exact ⟨_,false,rfl,(by kernel_rfl),hS⟩
def xp:List aR:=[u 3 (.box 47 (t 1)),u 4 (.alloc 44)]
def y3:List aR:=[u 9 (mv 0),u 10 (fa 47 3 1),u 11 (ld 3 10),u 12 (fa 47 3 2),u 13 (ld 3 12),u 14 (cf 35 #[(t 9),(t 11),(t 13)] #[28,3,3]),u 5 (sg 14)]
def walk_Span (F:Nat) (a0:List al) (a1:aq):Option eF:=
 (qn F a0 a1.ah a1.To).bind fun I=>
 match I with
  | .inl j=>some (⟨j,j⟩:eF)
  | .inr J=>some J
theorem zC (F:Nat) {h:AH} {Z:Zn} {a0:List al} {a1:aq} {v2 v4} (hI:Inv Z h) (ab:RS (α:=al) Z v2 a0) (aB:RS (α:=Int) Z v4 a1.Kids) {r:eF} (hm:walk_Span F a0 a1=some r):
  bY Tryz.prog 15 [v2, .agg #[V a1.Kind,V a1.ah,V a1.To,V a1.Up,v4, .bool a1.Key]] h Z (.agg #[V r.ah,V r.To]):=by
 refine b1 Tryz.func15 hI ?_
 intro hs hS
 unfold walk_Span at hm
 refine sr xp<|e2 rfl trivial (eK (cs:=[V a1.Kind,V a1.ah,V a1.To,V a1.Up,v4, .bool a1.Key]) rfl rfl) hS ?_
 intro U aC ak
 refine dt 0 [V 0,V 0] ak ?_
 intro aa aE J
 refine xn 0<|sr y3<|aD 2 1 (V a1.ah) J rfl<|xq 1 [(12,Pt U 2),(11,V a1.ah),(9,v2),(4,Pt aa 0)]<|aD 0 1 (V a1.To) J rfl ?_
 obtain ⟨an,ad,hm⟩:=ai hm
 rcases an with I | j
 try dsimp only at hm
 obtain ⟨aF,aG,ao,ar,rfl⟩:=vC F J.inv ab ad
 have au:=St.call (A:=[]) (B:=[.ae aa [V 0,V 0], .ae U (jl v4 a1)]) J ar
 refine bW rfl trivial (cr ao rfl rfl rfl)<|xn 1<|sq<|s0<|dt 5 [V 0,V 0] au ?_
 intro aH aI av
 refine bG 0 0 (.agg #[V 0,V 0]) [V 0,V 0] [V 0,V 0] av rfl rfl rfl ?_
 intro aJ aw
 refine xn 1<|sp 1<|dF<|sk<|sp 3<|s0<|bG 3 1 (.agg #[V I,V I]) [V I,V I] [V I,V I] aw rfl rfl rfl ?_
 intro aK af
 refine xn 0<|rt<|⟨rfl,?_⟩
 obtain rfl:=si hm
 refine ⟨_,_,_,ResL.cell (v:= .agg #[V I,V I]) (by kernel_rfl) af (i:=1) rfl (by kernel_rfl) (ResL.nil),af,?_⟩
 exact rfl
 try dsimp only at hm
 obtain ⟨aL,aM,ax,ay,rfl⟩:=vC F J.inv ab ad
 have az:=St.call (A:=[]) (B:=[.ae aa [V 0,V 0], .ae U (jl v4 a1)]) J ay
 refine bW rfl trivial (cr ax rfl rfl rfl)<|xn 1<|sq<|s0<|dt 5 [V 0,V 0] az ?_
 intro aN aO aA
 refine bG 0 0 (.agg #[V j.ah,V j.To]) [V j.ah,V j.To] [V j.ah,V j.To] aA rfl rfl rfl ?_
 intro aP ag
 refine xn 1<|sp 1<|dT<|s0<|aD 0 0 (.agg #[V j.ah,V j.To]) ag rfl<|bG 0 1 (.agg #[V j.ah,V j.To]) [V j.ah,V j.To] [V j.ah,V j.To] ag rfl rfl rfl ?_
 intro aQ aj
 refine xn 0<|rt<|⟨rfl,?_⟩
 obtain rfl:=si hm
 refine ⟨_,_,_,ResL.cell (v:= .agg #[V j.ah,V j.To]) (by kernel_rfl) aj (i:=1) rfl (by kernel_rfl) (ResL.nil),aj,?_⟩
 exact rfl
def D4:List aR:=[u 1 (.box 36 (t 0)),u 2 (.assign (ci 0))]
def walk_Errors_l0 (F:Nat) (a0:cD):Nat→Int→Int→Option Int
 | 0,_,_=>none
 | n+1,I,j=>
  if j<(a0.an.length:Int) then
   if 0≤j∧j<(a0.an.length:Int) then
    (a0.an[j.toNat]?).bind fun J=>
    ((if J.Kind=(11:Int) then
      some (af (I+1))
     else
      some I):Option Int).bind fun o=>match o with
     | U=>walk_Errors_l0 F a0 n U (af (j+1))
   else none
  else
   some I
def nA (F:Nat) (a0:cD):Option Int:=
 ((walk_Errors_l0 F a0 F 0 0):Option Int).bind fun o=>match o with
  | j=>some j
theorem Fm (F:Nat) {h:AH} {Z:Zn} {a0:cD} {v2} (hI:Inv Z h) (ak:RS (α:=aq) Z v2 a0.an) {r:Int} (hm:nA F a0=some r):
  bY Tryz.prog 19 [.agg #[v2]] h Z (V r):=by
 refine b1 Tryz.func19 hI ?_
 intro hs hS
 unfold nA at hm
 refine sr D4<|e2 rfl trivial (eK (cs:=[v2]) rfl rfl) hS ?_
 intro aI aL av
 refine xn 1<|sp 1<|sq<|s0<|aD 1 0 v2 av rfl<|bC 0 v2 (RS.len ak)<|xn 1 ?_
 obtain ⟨ao,I,hm⟩:=ai hm
 refine aJ [3] (fun l h=>∃ aw ab,ab=ao∧l=[(3,V ab)]∧St hs [] Z (0,0) aw h []) ?_ ?_
 rintro l aM ⟨aw,ab,rfl,rfl,az⟩
 try dsimp only at hm
 refine sp 2<|rt<|⟨rfl,?_⟩
 obtain rfl:=si hm
 refine ⟨_,_,_,tk (V ab) (ResL.nil),az,?_⟩
 exact rfl
 refine bk 0<|lp [3,7,8,9] (fun n l h=>∃ ax J U,walk_Errors_l0 F a0 n J U=some ao∧l=[(3,V J),(7,v2),(8,V (a0.an.length:Int)),(9,V U)]∧St hs [] Z (0,0) ax h []) F ⟨_,0,0,I,(by kernel_rfl),(av.takeN 0)⟩ ?_
 rintro ar l aN ⟨ax,J,U,I,rfl,aa⟩
 rcases ar with _ | ar
 cases (show none=some ao from I)
 rw [walk_Errors_l0] at I
 refine s0<|aT 0 I ?_ ?_<;>intro aP I
 refine xn 0<|sq<|dT<|sk<|sq<|bk 1<|s0<|a8 0 I (ak.mono aa.ag) ?_
 intro aQ I
 obtain ⟨j,aA,I⟩:=ai I
 obtain ⟨aU,aB,aC⟩:=RS.bV (ak.mono aa.ag) (i:=U) aA
 obtain ⟨ad,aE,rfl⟩:=ey aB
 refine eS 0 0 (.agg #[V j.Kind,V j.ah,V j.To,V j.Up,ad, .bool j.Key]) (aC _ (aa.bO (aO.refl _)))<|dt 0 [V 0,V 0,V 0,V 0, .slice none 0 0, .bool false] aa ?_
 intro aV aW aF
 refine bG 0 0 (.agg #[V j.Kind,V j.ah,V j.To,V j.Up,ad, .bool j.Key]) [V j.Kind,V j.ah,V j.To,V j.Up,ad, .bool j.Key] (jl ad j) aF rfl rfl (bz rfl (bz rfl (bz rfl (bz rfl (bz (RS.di aE) (bz rfl cz)))))) ?_
 intro aX au
 refine xn 0 ?_
 obtain ⟨aG,ae,I⟩:=ai I
 refine dM [3,7,8,9] (fun l h=>∃ ay aj,aj=aG∧l=[(3,V aj),(7,v2),(8,V (a0.an.length:Int)),(9,V U)]∧St hs [] Z (0,0) ay h []) (by kernel_rfl) ?_ ?_
 rintro l aY ⟨ay,aj,rfl,rfl,aH⟩
 try dsimp only at I
 refine gp 2 ?_
 exact ⟨ar,a7 _,⟨_,aj,af (U+1),I,(by kernel_rfl),aH⟩⟩
 refine g0<|aD 1 0 (V j.Kind) au rfl<|aK 0 ae ?_ ?_<;>intro aZ ae
 refine xn 0<|dT<|gp 3 ?_
 obtain rfl:=si ae
 exact ⟨_,af (J+1),rfl,(by kernel_rfl),(au.takeN 0)⟩
 refine xn 0<|dF<|sk ?_
 obtain rfl:=si ae
 exact ⟨_,J,rfl,(by kernel_rfl),(au.takeN 0)⟩
 refine xn 0<|sq<|dF<|xt 0<|aS ?_
 obtain rfl:=si I
 exact ⟨_,J,rfl,(by kernel_rfl),aa⟩
def FK:List aR:=[u 1 (.box 31 (t 0)),u 2 (.alloc 36)]
def A7:List aR:=[u 3 (fa 31 1 0),u 4 (ld 29 3),u 5 (.build 36 #[(0,(t 4))]),o (.store 36 (t 2) (t 5))]
def l3 (F:Nat) (a0:bK):Option cD:=
 some (⟨a0.an⟩:cD)
theorem sX (F:Nat) {h:AH} {Z:Zn} {a0:bK} {v2} (hP:Pre Z h []) (j:RS (α:=aq) Z v2 a0.an) {r:cD} (hm:l3 F a0=some r):
  bS Tryz.prog 9 [.agg #[v2]] h Z [] fun v Z' A'=>∃ v4, .agg #[v4]=v∧A'=[]∧RS (α:=aq) Z' v4 r.an:=by
 refine b3 Tryz.func9 hP ?_
 intro hs hS
 unfold l3 at hm
 replace hS:St hs [] Z (0,0) Z hs []:=hS
 refine sr FK<|e2 rfl trivial (eK (cs:=[v2]) rfl rfl) hS ?_
 intro U ad aa
 refine dt 0 [.slice none 0 0] aa ?_
 intro ab ae I
 refine xn 0<|sr A7<|xq 1 [(3,Pt U 0),(2,Pt ab 0)]<|aD 0 1 v2 I rfl<|bW rfl trivial (jV (v:= .agg #[v2]) rfl (CA.cons (cs:=[v2]) (RS.nv j) (CA.bq)) (by kernel_rfl))<|bG 0 0 (.agg #[v2]) [v2] [v2] I rfl rfl (bz (RS.di j) cz) ?_
 intro af J
 refine xn 0<|rt<|⟨rfl,?_⟩
 obtain rfl:=si hm
 refine ⟨_,_,_,ResL.cell (v:= .agg #[v2]) (by kernel_rfl) J (i:=0) rfl (by kernel_rfl) (ResL.nil),(J.takeN 0),?_⟩
 exact ⟨v2,rfl,rfl,j⟩
def Fk:List aR:=[u 5 (.buildSlice 23 1 #[(0,(.const (.int .u8 97)))]),u 6 (.convert 23 23 (t 5)),u 7 (cf 7 #[(t 6),(ci 5)] #[23,3]),u 4 (mv 7),u 8 (.extract (t 4) 0),u 9 (.extract (t 4) 1),u 10 (.extract (t 4) 2),u 2 (.alloc 31),u 1 (sg 8),o (.store 31 (t 2) (t 9)),u 3 (sg 10)]
def pZ (F:Nat):Option Bool:=
 if 0<([97]:List UInt8).length then
  (l6 F ([97]:List UInt8) 5).bind fun j=>
  (l3 F j.2.1).bind fun I=>
  (jm F j.1 I 9).bind fun J=>
  if J=(-1:Int) then
   (l3 F j.2.1).bind fun U=>
   (jm F j.1 U 0).bind fun aa=>
   if aa=(2:Int) then
    some true
   else
    some false
  else
   some false
 else none
theorem zo (F:Nat) {h:AH} {Z:Zn} (hI:Inv Z h) {r:Bool} (hm:pZ F=some r):
  bY Tryz.prog 4 [] h Z (.bool r):=by
 refine b1 Tryz.func4 hI ?_
 intro hs hS
 unfold pZ at hm
 refine s0<|xe 1 []<|sr Fk ?_
 have ad:RCs (α:=UInt8) Z [.int .u8 97] ([97]:List UInt8):=RCs.cons (cs:=[.int .u8 97]) rfl (RCs.bq _)
 refine dG rfl trivial (c6 (cells:=[.int .u8 97]) (s:=1) (by kernel_rfl)) (by kernel_rfl) hS ?_
 intro v1 h2 ae
 obtain ⟨an,hm⟩:=aH hm
 refine bW rfl trivial (Af ae (j:=0) rfl ad an rfl (by kernel_rfl)) ?_
 obtain ⟨aC,aE,ao,af⟩:=(ae.front 0 rfl).freeze ad
 obtain ⟨aF,aq,hm⟩:=ai hm
 refine c0 0 af (wH F af.eM ao aq) ?_
 rintro _ aG aI _ aJ ar ⟨aL,I,aM,aN,rfl,rfl,ag,U,aO⟩
 refine dt 4 [.slice none 0 0] ar ?_
 intro aP aQ au
 refine bG 1 0 (.agg #[I]) [I] [I] au rfl rfl (bz (RS.di U) cz) ?_
 intro aS aa
 refine xn 1<|s0<|aD 1 0 (.agg #[I]) aa rfl ?_
 obtain ⟨aT,av,hm⟩:=ai hm
 refine c0 0 aa (sX F aa.eM U av) ?_
 rintro _ aU aV _ ab ah ⟨aW,rfl,rfl,aw⟩
 obtain ⟨aX,ax,hm⟩:=ai hm
 refine cP 0 ah (ql F ah.inv (ag.mono ab) aw ax) ?_
 rintro _ aY J rfl
 refine aK 0 hm ?_ ?_<;>intro aZ hm
 refine aD 2 0 (.agg #[I]) J rfl ?_
 obtain ⟨a0,ay,hm⟩:=ai hm
 refine c0 0 J (sX F J.eM (U.mono ab) ay) ?_
 rintro _ a1 a2 _ az aj ⟨a3,rfl,rfl,aA⟩
 obtain ⟨a5,aB,hm⟩:=ai hm
 refine cP 0 aj (ql F aj.inv (ag.mono (ab.trans az)) aA aB) ?_
 rintro _ a6 ak rfl
 refine aK 0 hm ?_ ?_<;>intro a7 hm
 refine xn 2<|rt<|⟨rfl,?_⟩
 obtain rfl:=si hm
 refine ⟨_,_,_,tk (.bool true) (ResL.nil),ak,?_⟩
 exact rfl
 refine xn 2<|rt<|⟨rfl,?_⟩
 obtain rfl:=si hm
 refine ⟨_,_,_,tk (.bool false) (ResL.nil),ak,?_⟩
 exact rfl
 refine xn 8<|rt<|⟨rfl,?_⟩
 obtain rfl:=si hm
 refine ⟨_,_,_,tk (.bool false) (ResL.nil),J,?_⟩
 exact rfl
def Ch:List aR:=[u 6 (mv 0),u 7 (mv 1),u 8 (bo .rem 3 6 7 3),u 5 (sg 8)]
def mQ (F:Nat) (a0:Int) (a1:Int):Option Int:=
 if ¬ a1=(0:Int) then
  ((if (a0.tmod a1)<(0:Int) then
    some (af ((a0.tmod a1)+a1))
   else
    some (a0.tmod a1)):Option Int).bind fun o=>match o with
   | j=>some j
 else none
theorem xI (F:Nat) {h:AH} {Z:Zn} {a0:Int} {a1:Int} (hI:Inv Z h) {r:Int} (hm:mQ F a0 a1=some r):
  bY Tryz.prog 8 [V a0,V a1] h Z (V r):=by
 refine b1 Tryz.func8 hI ?_
 intro hs hS
 unfold mQ at hm
 refine sp 1<|sr Ch<|xq 2 [(7,V a1),(6,V a0),(1,V a1)] ?_
 obtain ⟨U,hm⟩:=aH hm
 refine bW rfl trivial (sQ U rfl rfl)<|xn 1<|sq ?_
 obtain ⟨aa,j,hm⟩:=ai hm
 refine dM [5] (fun l h=>∃ J I,I=aa∧l=[(5,V I)]∧St hs [] Z (0,0) J h []) (by kernel_rfl) ?_ ?_
 rintro l ad ⟨J,I,rfl,rfl,ab⟩
 try dsimp only at hm
 refine sp 2<|rt<|⟨rfl,?_⟩
 obtain rfl:=si hm
 refine ⟨_,_,_,tk (V I) (ResL.nil),ab,?_⟩
 exact rfl
 refine g0<|aT 1 j ?_ ?_<;>intro ae j
 refine xn 0<|dT<|gp 4 ?_
 obtain rfl:=si j
 exact ⟨_,af ((a0.tmod a1)+a1),rfl,(by kernel_rfl),hS⟩
 refine xn 0<|dF<|sk ?_
 obtain rfl:=si j
 exact ⟨_,a0.tmod a1,rfl,(by kernel_rfl),hS⟩
end
section
open Go Am Sy
open Sy.Cell (rc)
def yD:List aR:=[u 3 (.box 47 (t 1)),u 4 (.alloc 44)]
def AF:List br:=[uP 11 (mv 0),uP 12 (fa 47 3 1),uL 13 (ld 3 12),uP 14 (ia 28 11 13),uP 15 (fa 76 14 1),uL 16 (ld 3 15),uP 17 (mv 0),uP 18 (fa 47 3 2),uL 19 (ld 3 18),uP 20 (bc .sub 3 19 1 3),uP 21 (ia 28 17 20),uP 22 (fa 76 21 2),uL 23 (ld 3 22),uP 24 (.build 44 #[(0,(t 16)),(1,(t 23))]),oF (.store 44 (t 4) (t 24)) .make [2,5,8,12]]
def oh (F:Nat) (a0:List al) (a1:aq):Option eF:=
 if a1.ah<a1.To then
  if 0≤a1.ah∧a1.ah<(a0.length:Int) then
   (a0[a1.ah.toNat]?).bind fun I=>
   if 0≤(af (a1.To - 1))∧(af (a1.To - 1))<(a0.length:Int) then
    (a0[(af (a1.To - 1)).toNat]?).bind fun J=>
    some (⟨I.ah,J.To⟩:eF)
   else none
  else none
 else
  ((if a1.ah<(a0.length:Int) then
    if 0≤a1.ah∧a1.ah<(a0.length:Int) then
     (a0[a1.ah.toNat]?).bind fun U=>
     some ((⟨0,0⟩:eF),U.ah)
    else none
   else
    if (0:Int)<(a0.length:Int) then
     if 0≤(af ((a0.length:Int) - 1))∧(af ((a0.length:Int) - 1))<(a0.length:Int) then
      (a0[(af ((a0.length:Int) - 1)).toNat]?).bind fun aa=>
      some ((⟨0,0⟩:eF),aa.To)
     else none
    else
     some ((⟨0,0⟩:eF),0)):Option (eF×Int)).bind fun o=>match o with
   | (ab,j)=>some (⟨j,j⟩:eF)
theorem xv (F:Nat) {h:AH} {Z:Zn} {a0:List al} {a1:aq} {v2 v4} (hI:Inv Z h) (J:RS (α:=al) Z v2 a0) (aX:RS (α:=Int) Z v4 a1.Kids) {r:eF} (hm:oh F a0 a1=some r):
  bY Tryz.prog 16 [v2, .agg #[V a1.Kind,V a1.ah,V a1.To,V a1.Up,v4, .bool a1.Key]] h Z (.agg #[V r.ah,V r.To]):=by
 refine b1 Tryz.func16 hI ?_
 intro hs hS
 unfold oh at hm
 refine sr yD<|e2 rfl trivial (eK (cs:=[V a1.Kind,V a1.ah,V a1.To,V a1.Up,v4, .bool a1.Key]) rfl rfl) hS ?_
 intro ag aZ aI
 refine dt 0 [V 0,V 0] aI ?_
 intro I a2 ab
 refine xn 0<|sq<|s0<|aD 1 1 (V a1.ah) ab rfl<|aD 1 1 (V a1.To) ab rfl<|aT 0 hm ?_ ?_<;>intro a5 hm
 refine xn 0<|dT<|cY AF ab ?_
 intro ax a6 ay ak
 refine yq 2 [(12,Pt ag 1),(11,v2),(4,Pt I 0),(3,Pt ag 0),(0,v2)] ?_
 have a7:ag<ax:=ay.1 _ (au (i:=1) rfl) _ (by simp [Itm.ids])
 refine aW (v:=V a1.ah) rfl trivial rfl (by show ag<_;omega) (aG (v:=V a1.ah) trivial) (ak.aV (i:=1) rfl (by kernel_rfl)) trivial ?_
 obtain ⟨az,hm⟩:=aH hm
 refine aF rfl trivial (bx rfl rfl (by kernel_rfl:slTy _ _=some (aa al)) (RS.cG J (by omega)) az.1 az.2)<|yq 1 [(15, .pointer (some (bw v2 a1.ah (aa al) 1))),(4,Pt I 0),(3,Pt ag 0),(0,v2)] ?_
 obtain ⟨ad,aJ,hm⟩:=ai hm
 obtain ⟨a9,aK,aL⟩:=RS.bV J (i:=a1.ah) aJ
 obtain rfl:=eH aK
 refine cg rfl rfl trivial (fun h2 hz=>bE (w:=V ad.ah) (aL h2 hz) rfl (by kernel_rfl)) (ak.bO (aO.refl _)) (aG (v:=V ad.ah) trivial) trivial<|yq 2 [(18,Pt ag 2),(17,v2),(16,V ad.ah),(4,Pt I 0)] ?_
 have ba:ag<ax:=ay.1 _ (au (i:=1) rfl) _ (by simp [Itm.ids])
 refine aW (v:=V a1.To) rfl trivial rfl (by show ag<_;omega) (aG (v:=V a1.To) trivial) (ak.aV (i:=1) rfl (by kernel_rfl)) trivial<|yq 1 [(20,V (af (a1.To - 1))),(17,v2),(16,V ad.ah),(4,Pt I 0)] ?_
 obtain ⟨aA,hm⟩:=aH hm
 refine aF rfl trivial (bx rfl rfl (by kernel_rfl:slTy _ _=some (aa al)) (RS.cG J (by omega)) aA.1 aA.2)<|yq 1 [(22, .pointer (some (bw v2 (af (a1.To - 1)) (aa al) 2))),(16,V ad.ah),(4,Pt I 0)] ?_
 obtain ⟨aj,aM,hm⟩:=ai hm
 obtain ⟨bb,aN,aP⟩:=RS.bV J (i:=af (a1.To - 1)) aM
 obtain rfl:=eH aN
 refine cg rfl rfl trivial (fun h2 hz=>bE (w:=V aj.To) (aP h2 hz) rfl (by kernel_rfl)) (ak.bO (aO.refl _)) (aG (v:=V aj.To) trivial) trivial<|yq 1 [(24, .agg #[V ad.ah,V aj.To]),(4,Pt I 0)] ?_
 have an:St _ _ _ _ _ _ ([.ae I [V 0,V 0]]++[.ae ag (jl v4 a1)]):=(ak.front 0 rfl)
 refine gu rfl trivial an (gg (vs:=[V ad.ah,V aj.To]) (cO:=[V ad.ah,V aj.To]) (L':=[.ae I [V ad.ah,V aj.To]]) an.sub (i:=0) rfl rfl rfl rfl (by kernel_rfl) rfl rfl rfl rfl) (aO.refl _) (.a3 trivial (.a3 (an.bL 0 rfl bU) (.a3 trivial (.a3 (an.bL 0 rfl bU) .nil)))) ?_
 intro bc aQ
 refine yf [(4,Pt I 0)] ?_
 have aB:=aQ.aY
 refine rt<|⟨rfl,?_⟩
 obtain rfl:=si hm
 refine ⟨_,_,_,ResL.cell (v:= .agg #[V ad.ah,V aj.To]) (by kernel_rfl) aB (i:=0) rfl (by kernel_rfl) (ResL.nil),aB,?_⟩
 exact rfl
 refine xn 0<|dF<|sk<|sp 1<|sq ?_
 obtain ⟨aS,j,hm⟩:=ai hm
 refine dM [4,5] (fun l h=>∃ aC ao U ar,(ao,U)=aS∧l=[(4,Pt ar 0),(5,V U)]∧St hs [] Z (0,0) aC h [.ae ar [V ao.ah,V ao.To]]) (by kernel_rfl) ?_ ?_
 rintro l bd ⟨aC,ao,U,ar,rfl,rfl,aU⟩
 try dsimp only at hm
 refine s0<|bG 3 0 (.agg #[V U,V U]) [V U,V U] [V U,V U] aU rfl rfl rfl ?_
 intro bf aE
 refine xn 0<|rt<|⟨rfl,?_⟩
 obtain rfl:=si hm
 refine ⟨_,_,_,ResL.cell (v:= .agg #[V U,V U]) (by kernel_rfl) aE (i:=0) rfl (by kernel_rfl) (ResL.nil),aE,?_⟩
 exact rfl
 refine g0<|aD 1 1 (V a1.ah) ab rfl<|bC 1 v2 (RS.len J)<|aT 0 j ?_ ?_<;>intro bg j
 refine xn 0<|dT<|g0<|aD 2 1 (V a1.ah) ab rfl<|a8 0 j J ?_
 intro bh j
 refine bt 1 1 (fun av=>V av.ah) j J ab ?_
 intro av bj j
 refine xn 1 ?_
 obtain rfl:=si j
 exact ⟨_,(⟨0,0⟩:eF),av.ah,I,rfl,(by kernel_rfl),(ab.takeN 1)⟩
 refine xn 0<|dF<|s0<|bC 1 v2 (RS.len J)<|cZ 0 j ?_ ?_<;>intro bk j
 refine xn 0<|dT<|g0<|bC 2 v2 (RS.len J)<|a8 1 j J ?_
 intro bl j
 refine bt 1 2 (fun aw=>V aw.To) j J ab ?_
 intro aw bm j
 refine xn 1 ?_
 obtain rfl:=si j
 exact ⟨_,(⟨0,0⟩:eF),aw.To,I,rfl,(by kernel_rfl),(ab.takeN 1)⟩
 refine xn 0<|dF<|sk ?_
 obtain rfl:=si j
 exact ⟨_,(⟨0,0⟩:eF),0,I,rfl,(by kernel_rfl),(ab.takeN 1)⟩
def Bd:List aR:=[u 1 (.box 31 (t 0)),u 2 (.assign (ci 0))]
def correctorref13_Errors_l0 (F:Nat) (a0:bK):Nat→Int→Int→Option Int
 | 0,_,_=>none
 | n+1,I,j=>
  if j<(a0.an.length:Int) then
   ((if 0≤j∧j<(a0.an.length:Int) then
     (a0.an[j.toNat]?).bind fun J=>
     if J.Kind=(11:Int) then
      some (af (I+1))
     else
      some I
    else none):Option Int).bind fun o=>match o with
    | U=>correctorref13_Errors_l0 F a0 n U (af (j+1))
  else
   some I
def m4 (F:Nat) (a0:bK):Option Int:=
 ((correctorref13_Errors_l0 F a0 F 0 0):Option Int).bind fun o=>match o with
  | j=>some j
theorem EG (F:Nat) {h:AH} {Z:Zn} {a0:bK} {v2} (hI:Inv Z h) (ak:RS (α:=aq) Z v2 a0.an) {r:Int} (hm:m4 F a0=some r):
  bY Tryz.prog 20 [.agg #[v2]] h Z (V r):=by
 refine b1 Tryz.func20 hI ?_
 intro hs hS
 unfold m4 at hm
 refine sr Bd<|e2 rfl trivial (eK (cs:=[v2]) rfl rfl) hS ?_
 intro ax aH ay
 refine xn 1<|sp 1<|sq<|sp 1 ?_
 obtain ⟨ao,j,hm⟩:=ai hm
 refine aJ [3] (fun l h=>∃ au ad,ad=ao∧l=[(3,V ad)]∧St hs [] Z (0,0) au h []) ?_ ?_
 rintro l aI ⟨au,ad,rfl,rfl,az⟩
 try dsimp only at hm
 refine sp 2<|rt<|⟨rfl,?_⟩
 obtain rfl:=si hm
 refine ⟨_,_,_,tk (V ad) (ResL.nil),az,?_⟩
 exact rfl
 refine bk 0<|lp [1,3,4] (fun n l h=>∃ av U aa ab,correctorref13_Errors_l0 F a0 n U aa=some ao∧l=[(1,Pt ab 0),(3,V U),(4,V aa)]∧St hs [] Z (0,0) av h [.ae ab [v2]]) F ⟨_,0,0,ax,j,(by kernel_rfl),ay⟩ ?_
 rintro ar l aL ⟨av,U,aa,ab,j,rfl,I⟩
 rcases ar with _ | ar
 cases (show none=some ao from j)
 rw [correctorref13_Errors_l0] at j
 refine sq<|s0<|aD 2 0 v2 I rfl<|bC 0 v2 (RS.len (ak.mono I.ag))<|aT 0 j ?_ ?_<;>intro aM j
 refine xn 0<|dT<|sk<|sq<|bk 1 ?_
 obtain ⟨aA,J,j⟩:=ai j
 refine dM [1,3,4] (fun l h=>∃ aw ah aj,ah=aA∧l=[(1,Pt aj 0),(3,V ah),(4,V aa)]∧St hs [] Z (0,0) aw h [.ae aj [v2]]) (by kernel_rfl) ?_ ?_
 rintro l aN ⟨aw,ah,aj,rfl,rfl,aB⟩
 try dsimp only at j
 refine gp 3 ?_
 exact ⟨ar,a7 _,⟨_,ah,af (aa+1),aj,j,(by kernel_rfl),aB⟩⟩
 refine g0<|aD 1 0 v2 I rfl<|a8 1 J (ak.mono I.ag) ?_
 intro aP J
 obtain ⟨aC,aE,J⟩:=ai J
 obtain ⟨aQ,aF,aG⟩:=RS.bV (ak.mono I.ag) (i:=aa) aE
 obtain ⟨aU,aV,rfl⟩:=ey aF
 refine eS 1 0 (V aC.Kind) (aG _ (I.bO (aO.refl _)))<|aK 0 J ?_ ?_<;>intro aW J
 refine xn 0<|dT<|gp 3 ?_
 obtain rfl:=si J
 exact ⟨_,af (U+1),ab,rfl,(by kernel_rfl),I⟩
 refine xn 0<|dF<|sk ?_
 obtain rfl:=si J
 exact ⟨_,U,ab,rfl,(by kernel_rfl),I⟩
 refine xn 0<|dF<|xt 0<|aS ?_
 obtain rfl:=si j
 exact ⟨_,U,rfl,(by kernel_rfl),(I.takeN 0)⟩
def Fo:List aR:=[u 4 (.box 31 (t 1)),u 6 (.assign (ci 0))]
def yM:List br:=[uP 50 (fa 31 4 0),uL 51 (ld 29 50),uP 52 (mv 11),uP 53 (mv 12),uP 54 (ia 22 52 53),uL 55 (ld 3 54),uP 56 (ia 29 51 55),uP 57 (fa 47 56 1),uL 58 (ld 3 57),uP 59 (mv 7),uP 60 (bo .leq 3 58 59 3),uP 61 (mv 60),aM 61 62 (mv 7),aM 61 63 (fa 31 4 0),cW 61 64 (ld 29 63),aM 61 65 (mv 11),aM 61 66 (mv 12),aM 61 67 (ia 22 65 66),cW 61 68 (ld 3 67),aM 61 69 (ia 29 64 68),aM 61 70 (fa 47 69 2),cW 61 71 (ld 3 70),aM 61 72 (bo .lss 3 62 71 3),uP 73 (pf 61 72)]
def kz (F:Nat) (a0:List al) (a1:bK) (I:Int):Nat→Int→Int→Option Int
 | 0,_,_=>none
 | n+1,J,j=>
  if j<(a0.length:Int) then
   ((if 0≤j∧j<(a0.length:Int) then
     (a0[j.toNat]?).bind fun U=>
     if U.ah≤I then
      if 0≤j∧j<(a0.length:Int) then
       (a0[j.toNat]?).bind fun aa=>
       if I<aa.To then
        some j
       else
        some J
      else none
     else
      some J
    else none):Option Int).bind fun o=>match o with
    | ab=>kz F a0 a1 I n ab (af (j+1))
  else
   some J
def correctorref13_At_l2 (F:Nat) (a0:List al) (a1:bK) (ae:Int):Nat→Int→Int→Int→(List Int)→Int→Option (Int×Int×Int)
 | 0,_,_,_,_,_=>none
 | n+1,J,ad,U,I,j=>
  if j<(I.length:Int) then
   ((if 0≤j∧j<(I.length:Int) then
     (I[j.toNat]?).bind fun aa=>
     if 0≤aa∧aa<(a1.an.length:Int) then
      (a1.an[aa.toNat]?).bind fun ag=>
      if ag.ah≤J then
       if 0≤j∧j<(I.length:Int) then
        (I[j.toNat]?).bind fun ab=>
        if 0≤ab∧ab<(a1.an.length:Int) then
         (a1.an[ab.toNat]?).bind fun ai=>
         if J<ai.To then
          if 0≤j∧j<(I.length:Int) then
           (I[j.toNat]?).bind fun aj=>
           some (aj,I)
          else none
         else
          some (U,I)
        else none
       else none
      else
       some (U,I)
     else none
    else none):Option (Int×(List Int))).bind fun o=>match o with
    | (ak,ao)=>correctorref13_At_l2 F a0 a1 ae n J ad ak ao (af (j+1))
  else
   some (J,ad,U)
def correctorref13_At_l1 (F:Nat) (a0:List al) (a1:bK) (I:Int):Nat→Int→Int→Option Int
 | 0,_,_=>none
 | n+1,U,j=>
  if 0≤j∧j<(a1.an.length:Int) then
   (a1.an[j.toNat]?).bind fun aa=>
   ((correctorref13_At_l2 F a0 a1 I F U j (-1) aa.Kids 0):Option (Int×Int×Int)).bind fun o=>match o with
    | (ab,ad,J)=>if J<(0:Int) then
     some ad
    else
     correctorref13_At_l1 F a0 a1 I n ab J
  else none
def j0 (F:Nat) (a0:List al) (a1:bK) (j:Int):Option Int:=
 ((kz F a0 a1 j F (-1) 0):Option Int).bind fun o=>match o with
  | I=>if I<(0:Int) then
   some (-1)
  else
   ((correctorref13_At_l1 F a0 a1 j F I 0):Option Int).bind fun o=>match o with
    | y=>some y
theorem vY (F:Nat) {h:AH} {Z:Zn} {a0:List al} {a1:bK} {aB:Int} {v2 v4} (hI:Inv Z h) (aL:RS (α:=al) Z v2 a0) (az:RS (α:=aq) Z v4 a1.an) {r:Int} (hm:j0 F a0 a1 aB=some r):
  bY Tryz.prog 11 [v2, .agg #[v4],V aB] h Z (V r):=by
 refine b1 Tryz.func11 hI ?_
 intro hs hS
 unfold j0 at hm
 refine sr Fo<|e2 rfl trivial (eK (cs:=[v4]) rfl rfl) hS ?_
 intro b3 cy b4
 refine xn 1<|sp 1<|sq<|sp 1 ?_
 obtain ⟨bh,ar,hm⟩:=ai hm
 refine aJ [4,7] (fun l h=>∃ bF aP aQ,aP=bh∧l=[(4,Pt aQ 0),(7,V aP)]∧St hs [] Z (0,0) bF h [.ae aQ [v4]]) ?_ ?_
 rintro l cz ⟨bF,aP,aQ,rfl,rfl,bG⟩
 try dsimp only at hm
 refine sq<|s0<|aT 1 hm ?_ ?_<;>intro cA hm
 refine xn 0<|dT<|sp 1<|rt<|⟨rfl,?_⟩
 obtain rfl:=si hm
 refine ⟨_,_,_,tk (V (-1)) (ResL.nil),bG,?_⟩
 exact rfl
 refine xn 0<|dF<|sk<|sp 1 ?_
 obtain ⟨bH,ak,hm⟩:=ai hm
 refine bk 2<|lp [4,7,9] (fun n l h=>∃ bI aU aM aX,correctorref13_At_l1 F a0 a1 aB n aU aM=some bH∧l=[(4,Pt aX 0),(7,V aU),(9,V aM)]∧St hs [] Z (0,0) bI h [.ae aX [v4]]) F ⟨_,aP,0,aQ,ak,(by kernel_rfl),bG⟩ ?_
 rintro bl l cB ⟨bI,aU,aM,aX,ak,rfl,aN⟩
 rcases bl with _ | bl
 cases (show none=some bH from ak)
 rw [correctorref13_At_l1] at ak
 refine bk 3<|sp 1<|s0<|aD 1 0 v4 aN rfl<|a8 1 ak (az.mono aN.ag) ?_
 intro cC ak
 obtain ⟨b5,b6,ak⟩:=ai ak
 obtain ⟨cD,b7,b8⟩:=RS.bV (az.mono aN.ag) (i:=aM) b6
 obtain ⟨bJ,b9,rfl⟩:=ey b7
 refine eS 1 4 bJ (b8 _ (aN.bO (aO.refl _)))<|xn 1<|sq<|sp 1 ?_
 obtain ⟨bn,av,ak⟩:=ai ak
 refine aJ [4,7,9,10] (fun l h=>∃ bL aZ a2 a3 a5,(aZ,a2,a3)=bn∧l=[(4,Pt a5 0),(7,V aZ),(9,V a2),(10,V a3)]∧St hs [] Z (0,0) bL h [.ae a5 [v4]]) ?_ ?_
 rintro l cE ⟨bL,aZ,a2,a3,a5,rfl,rfl,bM⟩
 try dsimp only at ak
 refine sq<|s0<|aT 1 ak ?_ ?_<;>intro cF ak
 refine xn 0<|dT<|sp 2<|rt<|bj<|bj<|⟨rfl,?_⟩
 obtain rfl:=si ak
 obtain rfl:=si hm
 refine ⟨_,_,_,tk (V a2) (ResL.nil),bM,?_⟩
 exact rfl
 refine xn 0<|dF<|sk<|gp 2 ?_
 exact ⟨bl,a7 _,⟨_,aZ,a3,a5,ak,(by kernel_rfl),bM⟩⟩
 refine bk 4<|lp [4,7,9,10,11,12] (fun n l h=>∃ bo J ad aj aE U I ab,correctorref13_At_l2 F a0 a1 aB n J ad aj aE U=some bn∧RS (α:=Int) bo ab aE∧l=[(4,Pt I 0),(7,V J),(9,V ad),(10,V aj),(11,ab),(12,V U)]∧St hs [] Z (0,0) bo h [.ae I [v4]]) F ⟨_,aU,aM,(-1),b5.Kids,0,aX,bJ,av,b9,(by kernel_rfl),aN⟩ ?_
 rintro bp l cH ⟨bo,J,ad,aj,aE,U,I,ab,av,ax,rfl,aA⟩
 rcases bp with _ | bp
 cases (show none=some bn from av)
 rw [correctorref13_At_l2] at av
 refine sq<|s0<|bC 2 ab (RS.len ax)<|aT 0 av ?_ ?_<;>intro cI av
 refine xn 0<|dT<|sk<|sq<|bk 5 ?_
 obtain ⟨ca,j,av⟩:=ai av
 refine dM [4,7,9,10,11,12] (fun l h=>∃ bq a6 a9 ba bb,(a6,a9)=ca∧RS (α:=Int) bq bb a9∧l=[(4,Pt ba 0),(7,V J),(9,V ad),(10,V a6),(11,bb),(12,V U)]∧St hs [] Z (0,0) bq h [.ae ba [v4]]) (by kernel_rfl) ?_ ?_
 rintro l cJ ⟨bq,a6,a9,ba,bb,rfl,cb,rfl,cc⟩
 try dsimp only at av
 refine gp 3 ?_
 exact ⟨bp,a7 _,⟨_,J,ad,a6,a9,af (U+1),ba,bb,av,cb,(by kernel_rfl),cc⟩⟩
 refine ek yM aA ?_
 intro bN cK bP ay
 refine yq 1 [(50,Pt I 0),(4,Pt I 0),(7,V J),(9,V ad),(10,V aj),(11,ab),(12,V U)] ?_
 have cL:I<bN:=bP.1 _ (au (i:=0) rfl) _ (by simp [Itm.ids])
 refine aW (v:=v4) rfl trivial rfl (by show I<_;omega) (aG (v:=v4) (RS.cM (az.mono aA.ag))) (ay.aV (i:=0) rfl (by kernel_rfl)) trivial<|yq 2 [(53,V U),(52,ab),(51,v4),(4,Pt I 0),(7,V J),(9,V ad),(10,V aj),(11,ab),(12,V U)] ?_
 obtain ⟨bQ,j⟩:=aH j
 refine aF rfl trivial (bx rfl rfl (by kernel_rfl:slTy _ _=some (aa Int)) (RS.cG ax (by omega)) bQ.1 bQ.2) ?_
 obtain ⟨bc,cd,j⟩:=ai j
 obtain ⟨cN,cf,ch⟩:=RS.bV ax (i:=U) cd
 obtain rfl:=fB cf
 refine cg rfl rfl trivial (fun h2 hz=>bE (w:=V bc) (ch h2 hz) rfl (by kernel_rfl)) (ay.bO (aO.refl _)) (aG (v:=V bc) trivial) trivial ?_
 obtain ⟨bR,j⟩:=aH j
 refine aF rfl trivial (bx rfl rfl (by kernel_rfl:slTy _ _=some (aa aq)) (RS.cG (az.mono aA.ag) (by omega)) bR.1 bR.2)<|yq 1 [(57, .pointer (some (bw v4 bc (aa aq) 1))),(4,Pt I 0),(7,V J),(9,V ad),(10,V aj),(11,ab),(12,V U)] ?_
 obtain ⟨bu,cj,j⟩:=ai j
 obtain ⟨cO,ck,cl⟩:=RS.bV (az.mono aA.ag) (i:=bc) cj
 obtain ⟨cP,cQ,rfl⟩:=ey ck
 refine cg rfl rfl trivial (fun h2 hz=>bE (w:=V bu.ah) (cl h2 hz) rfl (by kernel_rfl)) (ay.bO (aO.refl _)) (aG (v:=V bu.ah) trivial) trivial<|yq 1 [(59,V J),(58,V bu.ah),(4,Pt I 0),(7,V J),(9,V ad),(10,V aj),(11,ab),(12,V U)] ?_
 rcases ifs j with ⟨bz,j⟩ | ⟨bz,j⟩
 refine aF rfl trivial (bm rfl rfl (rK bz))<|yq 3 [(63,Pt I 0),(62,V J),(61, .bool true),(4,Pt I 0),(7,V J),(9,V ad),(10,V aj),(11,ab),(12,V U)] ?_
 have cR:I<bN:=bP.1 _ (au (i:=0) rfl) _ (by simp [Itm.ids])
 refine aW (v:=v4) rfl rfl rfl (by show I<_;omega) (aG (v:=v4) (RS.cM (az.mono aA.ag))) (ay.aV (i:=0) rfl (by kernel_rfl)) trivial<|yq 2 [(66,V U),(65,ab),(64,v4),(62,V J),(61, .bool true),(4,Pt I 0),(7,V J),(9,V ad),(10,V aj),(11,ab),(12,V U)] ?_
 obtain ⟨bS,j⟩:=aH j
 refine aF rfl rfl (bx rfl rfl (by kernel_rfl:slTy _ _=some (aa Int)) (RS.cG ax (by omega)) bS.1 bS.2) ?_
 obtain ⟨bd,cm,j⟩:=ai j
 obtain ⟨cS,cn,cp⟩:=RS.bV ax (i:=U) cm
 obtain rfl:=fB cn
 refine cg rfl rfl rfl (fun h2 hz=>bE (w:=V bd) (cp h2 hz) rfl (by kernel_rfl)) (ay.bO (aO.refl _)) (aG (v:=V bd) trivial) trivial ?_
 obtain ⟨bT,j⟩:=aH j
 refine aF rfl rfl (bx rfl rfl (by kernel_rfl:slTy _ _=some (aa aq)) (RS.cG (az.mono aA.ag) (by omega)) bT.1 bT.2)<|yq 1 [(70, .pointer (some (bw v4 bd (aa aq) 2))),(62,V J),(61, .bool true),(4,Pt I 0),(7,V J),(9,V ad),(10,V aj),(11,ab),(12,V U)] ?_
 obtain ⟨bU,cq,j⟩:=ai j
 obtain ⟨cT,cr,ct⟩:=RS.bV (az.mono aA.ag) (i:=bd) cq
 obtain ⟨cU,cW,rfl⟩:=ey cr
 refine cg rfl rfl rfl (fun h2 hz=>bE (w:=V bU.To) (ct h2 hz) rfl (by kernel_rfl)) (ay.bO (aO.refl _)) (aG (v:=V bU.To) trivial) trivial ?_
 rcases ifs j with ⟨bA,j⟩ | ⟨bA,j⟩
 refine aF rfl rfl (bm rfl rfl (mq bA))<|ye 1 [(73, .bool true),(4,Pt I 0),(7,V J),(9,V ad),(10,V aj),(11,ab),(12,V U)] ?_
 have bW:=ay.aY
 refine dT<|g0<|a8 2 j ax ?_
 intro cX j
 refine bt 0 0 (fun bB=>V bB) j ax bW ?_
 intro bB cY j
 refine xn 1 ?_
 obtain rfl:=si j
 exact ⟨_,bB,aE,I,ab,rfl,ax,(by kernel_rfl),bW⟩
 refine aF rfl rfl (bm rfl rfl (mJ bA))<|ye 1 [(73, .bool false),(4,Pt I 0),(7,V J),(9,V ad),(10,V aj),(11,ab),(12,V U)] ?_
 have cu:=ay.aY
 refine dF<|sk ?_
 obtain rfl:=si j
 exact ⟨_,aj,aE,I,ab,rfl,ax,(by kernel_rfl),cu⟩
 refine aF rfl trivial (bm rfl rfl (s5 bz))<|ye 13 [(73, .bool false),(4,Pt I 0),(7,V J),(9,V ad),(10,V aj),(11,ab),(12,V U)] ?_
 have cv:=ay.aY
 refine dF<|sk ?_
 obtain rfl:=si j
 exact ⟨_,aj,aE,I,ab,rfl,ax,(by kernel_rfl),cv⟩
 refine xn 0<|dF<|xt 4<|aS ?_
 obtain rfl:=si av
 exact ⟨_,J,ad,aj,I,rfl,(by kernel_rfl),aA⟩
 refine bk 0<|lp [0,2,4,7,8] (fun n l h=>∃ bX aI aK aC,kz F a0 a1 aB n aI aK=some bh∧l=[(0,v2),(2,V aB),(4,Pt aC 0),(7,V aI),(8,V aK)]∧St hs [] Z (0,0) bX h [.ae aC [v4]]) F ⟨_,(-1),0,b3,ar,(by kernel_rfl),b4⟩ ?_
 rintro bD l cZ ⟨bX,aI,aK,aC,ar,rfl,aw⟩
 rcases bD with _ | bD
 cases (show none=some bh from ar)
 rw [kz] at ar
 refine sq<|s0<|bC 2 v2 (RS.len (aL.mono aw.ag))<|aT 0 ar ?_ ?_<;>intro c0 ar
 refine xn 0<|dT<|sk<|sq<|bk 1 ?_
 obtain ⟨cw,ao,ar⟩:=ai ar
 refine dM [0,2,4,7,8] (fun l h=>∃ bZ bf bg,bf=cw∧l=[(0,v2),(2,V aB),(4,Pt bg 0),(7,V bf),(8,V aK)]∧St hs [] Z (0,0) bZ h [.ae bg [v4]]) (by kernel_rfl) ?_ ?_
 rintro l c3 ⟨bZ,bf,bg,rfl,rfl,cx⟩
 try dsimp only at ar
 refine gp 3 ?_
 exact ⟨bD,a7 _,⟨_,bf,af (aK+1),bg,ar,(by kernel_rfl),cx⟩⟩
 refine g0<|a8 2 ao (aL.mono aw.ag) ?_
 intro c4 ao
 refine bt 1 1 (fun b0=>V b0.ah) ao (aL.mono aw.ag) aw ?_
 intro b0 c5 ao
 refine e4 1 ao ?_ ?_<;>intro c6 ao
 refine a8 4 ao (aL.mono aw.ag) ?_
 intro c8 ao
 refine bt 1 2 (fun b2=>V b2.To) ao (aL.mono aw.ag) aw ?_
 intro b2 db ao
 refine aT 0 ao ?_ ?_<;>intro dc ao
 refine xn 1<|dT<|gp 2 ?_
 obtain rfl:=si ao
 exact ⟨_,aK,aC,rfl,(by kernel_rfl),aw⟩
 refine xn 1<|dF<|sk ?_
 obtain rfl:=si ao
 exact ⟨_,aI,aC,rfl,(by kernel_rfl),aw⟩
 refine xn 9<|dF<|sk ?_
 obtain rfl:=si ao
 exact ⟨_,aI,aC,rfl,(by kernel_rfl),aw⟩
 refine xn 0<|dF<|xt 0<|aS ?_
 obtain rfl:=si ar
 exact ⟨_,aI,aC,rfl,(by kernel_rfl),aw⟩
def zX:List aR:=[u 2 (.box 31 (t 0)),u 4 (.assign (.const (.slice none 0 0)))]
def CX:List aR:=[u 25 (mv 6),u 26 (.buildSlice 22 1 #[(0,(t 25))]),u 27 (mv 5),u 28 (cb .append #[(t 26),(t 27)] #[22,22]),u 5 (sg 28)]
def correctorref13_Path_l0 (F:Nat) (a0:bK) (a1:Int):Nat→(List Int)→Int→Option (List Int)
 | 0,_,_=>none
 | n+1,I,j=>
  if (0:Int)≤j then
   if ([j]:List Int).length+I.length≤17592186044416 then
    if 0≤j∧j<(a0.an.length:Int) then
     (a0.an[j.toNat]?).bind fun J=>
     correctorref13_Path_l0 F a0 a1 n (([j]:List Int)++I) J.Up
    else none
   else none
  else
   some I
def mf (F:Nat) (a0:bK) (a1:Int):Option (List Int):=
 if a1<(0:Int) then
  some []
 else
  if (a0.an.length:Int)≤a1 then
   some []
  else
   ((correctorref13_Path_l0 F a0 a1 F [] a1):Option (List Int)).bind fun o=>match o with
    | j=>some j
theorem CB (F:Nat) {h:AH} {Z:Zn} {a0:bK} {a1:Int} {v2} (hP:Pre Z h []) (au:RS (α:=aq) Z v2 a0.an) {r:(List Int)} (hm:mf F a0 a1=some r):
  bS Tryz.prog 14 [.agg #[v2],V a1] h Z [] fun v Z' A'=>∃ v4 aA,v4=v∧A'=[.gs v4 aA (aa Int)]∧RCs (α:=Int) Z' aA r:=by
 refine b3 Tryz.func14 hP ?_
 intro hs hS
 unfold mf at hm
 replace hS:St hs [] Z (0,0) Z hs []:=hS
 refine sr zX<|e2 rfl trivial (eK (cs:=[v2]) rfl rfl) hS ?_
 intro aF aZ ah
 refine xn 1<|sq<|s0<|aT 1 hm ?_ ?_<;>intro a2 hm
 refine xn 7<|dT<|sp 1<|rt<|⟨rfl,?_⟩
 have aG:=ah.dh (aa Int)
 obtain rfl:=si hm
 refine ⟨_,_,_,tk (.slice none 0 0) (ResL.nil),(aG.takeN 1),?_⟩
 exact ⟨(.slice none 0 0),[],rfl,rfl,(RCs.bq _)⟩
 refine aD 3 0 v2 ah rfl<|bC 0 v2 (RS.len au)<|cS 0 hm ?_ ?_<;>intro a3 hm
 refine xn 1<|dT<|sp 1<|rt<|⟨rfl,?_⟩
 have aI:=ah.dh (aa Int)
 obtain rfl:=si hm
 refine ⟨_,_,_,tk (.slice none 0 0) (ResL.nil),(aI.takeN 1),?_⟩
 exact ⟨(.slice none 0 0),[],rfl,rfl,(RCs.bq _)⟩
 refine xn 1<|dF<|sk<|sp 1<|sq<|sp 2 ?_
 obtain ⟨av,I,hm⟩:=ai hm
 refine aJ [5] (fun l h=>∃ aw ax af aj,ax=av∧RCs (α:=Int) aw aj ax∧l=[(5,af)]∧St hs [] Z (0,0) aw h [.gs af aj (aa Int)]) ?_ ?_
 rintro l a5 ⟨aw,ax,af,aj,rfl,aK,rfl,aL⟩
 try dsimp only at hm
 refine sp 2<|rt<|⟨rfl,?_⟩
 obtain rfl:=si hm
 refine ⟨_,_,_,tk af (ResL.nil),aL,?_⟩
 exact ⟨af,aj,rfl,rfl,aK⟩
 refine bk 0 ?_
 have aM:=ah.dh (aa Int)
 refine lp [2,5,6] (fun n l h=>∃ ak ab J ad U ao,correctorref13_Path_l0 F a0 a1 n ab J=some av∧RCs (α:=Int) ak ao ab∧l=[(2,Pt ad 0),(5,U),(6,V J)]∧St hs [] Z (0,0) ak h [.ae ad [v2], .gs U ao (aa Int)]) F ⟨_,[],a1,aF,(.slice none 0 0),[],I,(RCs.bq _),(by kernel_rfl),((aM.front 0 rfl).front 1 rfl)⟩ ?_
 rintro ay l a6 ⟨ak,ab,J,ad,U,ao,I,aB,rfl,ar⟩
 rcases ay with _ | ay
 cases (show none=some av from I)
 rw [correctorref13_Path_l0] at I
 refine sq<|s0<|cS 1 I ?_ ?_<;>intro a9 I
 refine xn 0<|dT<|sk<|sq<|bk 1<|rg CX<|xq 1 [(25,V J),(2,Pt ad 0),(5,U),(6,V J)] ?_
 have aN:RCs (α:=Int) ak [V J] ([J]:List Int):=RCs.cons (cs:=[V J]) rfl (RCs.bq _)
 refine dG rfl trivial (c6 (cells:=[V J]) (s:=1) (by kernel_rfl)) (by kernel_rfl) ar ?_
 intro aP ba aC
 refine xq 1 [(27,U),(26,aP),(2,Pt ad 0),(5,U),(6,V J)] ?_
 obtain ⟨bb,I⟩:=aH I
 refine eZ rfl trivial (dE (ys:=ab) (bX:=8) aC (i:=0) rfl aN ((aC).eB (j:=2) rfl aB) rfl rfl (by kernel_rfl) (by omega) (by omega)) ?_
 rintro aQ aU bc ⟨aV,az⟩
 refine xn 1<|g0<|aD 1 1 v2 az rfl<|a8 1 I (au.mono ar.ag) ?_
 intro bd I
 obtain ⟨aE,aW,I⟩:=ai I
 obtain ⟨bf,aX,aY⟩:=RS.bV (au.mono ar.ag) (i:=J) aW
 obtain ⟨bg,bh,rfl⟩:=ey aX
 refine eS 1 3 (V aE.Up) (aY _ (az.bO (aO.refl _)))<|xn 1 ?_
 exact ⟨ay,a7 _,⟨_,([J]:List Int)++ab,aE.Up,ad,aQ,aU,I,aV,(by kernel_rfl),(((az.front 0 rfl).front 1 rfl).takeN 2)⟩⟩
 refine xn 0<|dF<|xt 0<|aS ?_
 obtain rfl:=si I
 exact ⟨_,ab,U,ao,rfl,aB,(by kernel_rfl),((ar.front 1 rfl).takeN 1)⟩
def tB (iK:bK→Int→Option (List Int)):Prop:=∀ {h:AH} {Z:Zn} {a0:bK} {a1:Int} {v2} (hP:Pre Z h []) (I:RS (α:=aq) Z v2 a0.an) {r:(List Int)} (hm:iK a0 a1=some r),bS Tryz.prog 37 [.agg #[v2],V a1] h Z [] fun v Z' A'=>∃ v4 j,v4=v∧A'=[.gs v4 j (aa Int)]∧RCs (α:=Int) Z' j r
def Bq:List aR:=[u 2 (.box 31 (t 0)),u 4 (.assign (.const (.slice none 0 0)))]
def D9:List aR:=[u 7 (mv 1),u 8 (.buildSlice 22 1 #[(0,(t 7))]),u 5 (sg 8)]
def zB:List br:=[uP 20 (mv 5),uL 21 (ld 31 2),uP 22 (fa 31 2 0),uL 23 (ld 29 22),uP 24 (mv 1),uP 25 (ia 29 23 24),uP 26 (fa 47 25 4),uL 27 (ld 22 26),uP 28 (mv 6),uP 29 (ia 22 27 28),uL 30 (ld 3 29),uF 31 (cf 37 #[(t 21),(t 30)] #[31,3]) .make [1,3,7,10],uF 32 (cb .append #[(t 20),(t 31)] #[22,22]) .make [1,3,7,10],uP 5 (sg 32)]
def lM (F:Nat) (iK:bK→Int→Option (List Int)) (a0:bK) (a1:Int):Nat→(List Int)→Int→Option (List Int)
 | 0,_,_=>none
 | n+1,I,j=>
  if 0≤a1∧a1<(a0.an.length:Int) then
   (a0.an[a1.toNat]?).bind fun aa=>
   if j<(aa.Kids.length:Int) then
    if 0≤a1∧a1<(a0.an.length:Int) then
     (a0.an[a1.toNat]?).bind fun J=>
     if 0≤j∧j<(J.Kids.length:Int) then
      (J.Kids[j.toNat]?).bind fun ab=>
      (iK a0 ab).bind fun U=>
      if I.length+U.length≤17592186044416 then
       lM F iK a0 a1 n (I++U) (af (j+1))
      else none
     else none
    else none
   else
    some I
  else none
def mV (F:Nat) (iK:bK→Int→Option (List Int)) (a0:bK) (a1:Int):Option (List Int):=
 ((lM F iK a0 a1 F ([a1]:List Int) 0):Option (List Int)).bind fun o=>match o with
  | j=>some j
theorem Ah (F:Nat) (iK:bK→Int→Option (List Int)) (E1:tB iK) {h:AH} {Z:Zn} {a0:bK} {a1:Int} {v2} (hP:Pre Z h []) (ah:RS (α:=aq) Z v2 a0.an) {r:(List Int)} (hm:mV F iK a0 a1=some r):
  bS Tryz.prog 37 [.agg #[v2],V a1] h Z [] fun v Z' A'=>∃ v4 aK,v4=v∧A'=[.gs v4 aK (aa Int)]∧RCs (α:=Int) Z' aK r:=by
 refine b3 Tryz.func37 hP ?_
 intro hs hS
 unfold mV at hm
 replace hS:St hs [] Z (0,0) Z hs []:=hS
 refine sr Bq<|e2 rfl trivial (eK (cs:=[v2]) rfl rfl) hS ?_
 intro aL bR bb
 refine xn 1<|sr D9<|xq 1 [(7,V a1),(2,Pt aL 0),(1,V a1)] ?_
 have bc:RCs (α:=Int) Z [V a1] ([a1]:List Int):=RCs.cons (cs:=[V a1]) rfl (RCs.bq _)
 refine dG rfl trivial (c6 (cells:=[V a1]) (s:=1) (by kernel_rfl)) (by kernel_rfl) bb ?_
 intro bd bT bf
 refine xn 1<|sq<|sp 1 ?_
 obtain ⟨ax,I,hm⟩:=ai hm
 refine aJ [5] (fun l h=>∃ ay az ao av,az=ax∧RCs (α:=Int) ay av az∧l=[(5,ao)]∧St hs [] Z (0,0) ay h [.gs ao av (aa Int)]) ?_ ?_
 rintro l bW ⟨ay,az,ao,av,rfl,bg,rfl,bh⟩
 try dsimp only at hm
 refine sp 2<|rt<|⟨rfl,?_⟩
 obtain rfl:=si hm
 refine ⟨_,_,_,tk ao (ResL.nil),bh,?_⟩
 exact ⟨ao,av,rfl,rfl,bg⟩
 refine bk 0<|lp [1,2,5,6] (fun n l h=>∃ aA ar ab J U aj,lM F iK a0 a1 n ar ab=some ax∧RCs (α:=Int) aA aj ar∧l=[(1,V a1),(2,Pt J 0),(5,U),(6,V ab)]∧St hs [] Z (0,0) aA h [.ae J [v2], .gs U aj (aa Int)]) F ⟨_,([a1]:List Int),0,aL,bd,[V a1],I,bc,(by kernel_rfl),((bf.front 0 rfl).front 1 rfl)⟩ ?_
 rintro aB l bY ⟨aA,ar,ab,J,U,aj,I,aM,rfl,ad⟩
 rcases aB with _ | aB
 cases (show none=some ax from I)
 rw [lM] at I
 refine sq<|s0<|aD 2 0 v2 ad rfl<|a8 1 I (ah.mono ad.ag) ?_
 intro b0 I
 obtain ⟨b1,bj,I⟩:=ai I
 obtain ⟨b2,bl,bm⟩:=RS.bV (ah.mono ad.ag) (i:=a1) bj
 obtain ⟨aN,bn,rfl⟩:=ey bl
 refine eS 1 4 aN (bm _ (ad.bO (aO.refl _)))<|bC 0 aN (RS.len bn)<|aT 0 I ?_ ?_<;>intro b4 I
 refine xn 0<|dT<|sk<|sq<|bk 1<|ek zB ad ?_
 intro aP b5 aQ ak
 refine yq 1 [(20,U),(1,V a1),(2,Pt J 0),(5,U),(6,V ab)] ?_
 have b6:J<aP:=aQ.1 _ (au (i:=0) rfl) _ (by simp [Itm.ids])
 refine aW (v:= .agg #[v2]) rfl trivial rfl (by show J<_;omega) (eC (cs:=[v2]) (.cons (RS.cM (ah.mono ad.ag)) .nil)) (ak.aV (i:=0) rfl (by kernel_rfl)) trivial<|yq 1 [(22,Pt J 0),(21, .agg #[v2]),(20,U),(1,V a1),(2,Pt J 0),(5,U),(6,V ab)] ?_
 have b7:J<aP:=aQ.1 _ (au (i:=0) rfl) _ (by simp [Itm.ids])
 refine aW (v:=v2) rfl trivial rfl (by show J<_;omega) (aG (v:=v2) (RS.cM (ah.mono ad.ag))) (ak.aV (i:=0) rfl (by kernel_rfl)) trivial<|yq 1 [(24,V a1),(23,v2),(21, .agg #[v2]),(20,U),(1,V a1),(2,Pt J 0),(5,U),(6,V ab)] ?_
 obtain ⟨aU,I⟩:=aH I
 refine aF rfl trivial (bx rfl rfl (by kernel_rfl:slTy _ _=some (aa aq)) (RS.cG (ah.mono ad.ag) (by omega)) aU.1 aU.2)<|yq 1 [(26, .pointer (some (bw v2 a1 (aa aq) 4))),(21, .agg #[v2]),(20,U),(1,V a1),(2,Pt J 0),(5,U),(6,V ab)] ?_
 obtain ⟨b8,bo,I⟩:=ai I
 obtain ⟨b9,bp,bt⟩:=RS.bV (ah.mono ad.ag) (i:=a1) bo
 obtain ⟨aC,aE,rfl⟩:=ey bp
 refine cg rfl rfl trivial (fun h2 hz=>bE (w:=aC) (bt h2 hz) rfl (by kernel_rfl)) (ak.bO (aO.refl _)) (aG (v:=aC) (RS.cM aE)) trivial<|yq 1 [(28,V ab),(27,aC),(21, .agg #[v2]),(20,U),(1,V a1),(2,Pt J 0),(5,U),(6,V ab)] ?_
 obtain ⟨aX,I⟩:=aH I
 refine aF rfl trivial (bx rfl rfl (by kernel_rfl:slTy _ _=some (aa Int)) (RS.cG aE (by omega)) aX.1 aX.2) ?_
 obtain ⟨aZ,bu,I⟩:=ai I
 obtain ⟨ca,bz,bA⟩:=RS.bV aE (i:=ab) bu
 obtain rfl:=fB bz
 refine cg rfl rfl trivial (fun h2 hz=>bE (w:=V aZ) (bA h2 hz) rfl (by kernel_rfl)) (ak.bO (aO.refl _)) (aG (v:=V aZ) trivial) trivial ?_
 obtain ⟨a2,bB,I⟩:=ai I
 have bD:=ak.bZ
 have a5:St _ _ _ _ _ _ ([]++[.ae J [v2], .gs U aj (aa Int)]):=bD
 obtain ⟨cb,cc,cd,cf,bF,aI,bG,bH,rfl,rfl,bI⟩:=E1 a5.dW (ah.mono ad.ag) bB
 have bJ:=a5.call aI
 have a6:=aI.ag
 refine df rfl trivial ak (cr bF rfl rfl rfl) bJ (St.de aI) ?_
 intro ch a9
 obtain ⟨cj,I⟩:=aH I
 have aw:St _ _ _ _ _ _ ([.gs U aj (aa Int)]++[.gs bG bH (aa Int), .ae J [v2]]):=(a9.front 2 rfl)
 refine iC rfl trivial aw (dE (ys:=a2) (bX:=8) aw.sub (i:=0) rfl (aM.mono a6) ((a9.bZ).eB (j:=0) rfl bI) rfl rfl (by kernel_rfl) (by omega) (by omega)) a6 (.a3 trivial (.a3 trivial (.a3 (aw.bL 1 rfl bU) (.a3 (aw.bL 1 rfl bU) .nil)))) ?_
 rintro ba bM ck ⟨bN,bP⟩
 refine ye 1 [(5,ba),(1,V a1),(2,Pt J 0),(6,V ab)] ?_
 have bQ:=bP.aY
 refine gp 3 ?_
 exact ⟨aB,a7 _,⟨_,ar++a2,af (ab+1),J,ba,bM,I,bN,(by kernel_rfl),(((bQ.front 0 rfl).front 2 rfl).takeN 2)⟩⟩
 refine xn 0<|dF<|xt 0<|aS ?_
 obtain rfl:=si I
 exact ⟨_,ar,U,aj,rfl,aM,(by kernel_rfl),((ad.front 1 rfl).takeN 1)⟩
def l2 (F:Nat):Nat→bK→Int→Option (List Int)
 | 0=>fun _ _=>none
 | n+1=>mV F (l2 F n)
theorem uo (F:Nat):∀ n,tB (l2 F n)
 | 0=>by intro hP j r hm;cases hm
 | n+1=>by intro hP j r hm;exact Ah F _ (uo F n) hP j hm
def r3 (F:Nat) (a0:bK) (a1:Int):Option (List Int):=l2 F F a0 a1
theorem xH (F:Nat) {h:AH} {Z:Zn} {a0:bK} {a1:Int} {v2} (hP:Pre Z h []) (I:RS (α:=aq) Z v2 a0.an) {r:(List Int)} (hm:r3 F a0 a1=some r):
  bS Tryz.prog 37 [.agg #[v2],V a1] h Z [] fun v Z' A'=>∃ v4 j,v4=v∧A'=[.gs v4 j (aa Int)]∧RCs (α:=Int) Z' j r:=uo F F hP I hm
def Cy:List aR:=[u 1 (.box 31 (t 0)),u 2 (.assign (.const (.slice none 0 0)))]
def oX (F:Nat) (a0:bK):Option (List Int):=
 if (a0.an.length:Int)=(0:Int) then
  some []
 else
  (r3 F a0 0).bind fun j=>
  some j
theorem xz (F:Nat) {h:AH} {Z:Zn} {a0:bK} {v2} (hP:Pre Z h []) (I:RS (α:=aq) Z v2 a0.an) {r:(List Int)} (hm:oX F a0=some r):
  bS Tryz.prog 18 [.agg #[v2]] h Z [] fun v Z' A'=>∃ v4 J,v4=v∧A'=[.gs v4 J (aa Int)]∧RCs (α:=Int) Z' J r:=by
 refine b3 Tryz.func18 hP ?_
 intro hs hS
 unfold oX at hm
 replace hS:St hs [] Z (0,0) Z hs []:=hS
 refine sr Cy<|e2 rfl trivial (eK (cs:=[v2]) rfl rfl) hS ?_
 intro ah aj j
 refine xn 1<|sq<|s0<|aD 1 0 v2 j rfl<|bC 0 v2 (RS.len I)<|aK 0 hm ?_ ?_<;>intro ak hm
 refine xn 0<|dT<|sp 1<|rt<|⟨rfl,?_⟩
 have ab:=j.dh (aa Int)
 obtain rfl:=si hm
 refine ⟨_,_,_,tk (.slice none 0 0) (ResL.nil),(ab.takeN 1),?_⟩
 exact ⟨(.slice none 0 0),[],rfl,rfl,(RCs.bq _)⟩
 refine xn 0<|dF<|sk<|s0<|aD 0 0 (.agg #[v2]) j rfl ?_
 obtain ⟨ao,ad,hm⟩:=ai hm
 refine c0 0 j (xH F j.eM I ad) ?_
 rintro _ ar au _ av ae ⟨U,af,rfl,rfl,ag⟩
 refine xn 1<|rt<|⟨rfl,?_⟩
 obtain rfl:=si hm
 refine ⟨_,_,_,tk U (ResL.nil),(ae.takeN 1),?_⟩
 exact ⟨U,af,rfl,rfl,ag⟩
def BU:List br:=[uP 17 (mv 0),uP 18 (mv 5),uP 19 (ia 22 17 18),uL 20 (ld 3 19),uP 21 (mv 1),uP 22 (mv 5),uP 23 (ia 22 21 22),uL 24 (ld 3 23),uP 25 (bo .neq 3 20 24 3)]
def correctorlaw13_ints_l0 (F:Nat) (a0:List Int) (a1:List Int):Nat→Int→Option (Sum Unit Bool)
 | 0,_=>none
 | n+1,j=>
  if j<(a0.length:Int) then
   if 0≤j∧j<(a0.length:Int) then
    (a0[j.toNat]?).bind fun I=>
    if 0≤j∧j<(a1.length:Int) then
     (a1[j.toNat]?).bind fun J=>
     if I=J then
      correctorlaw13_ints_l0 F a0 a1 n (af (j+1))
     else
      some (.inr false)
    else none
   else none
  else
   some (.inl ())
def j3 (F:Nat) (a0:List Int) (a1:List Int):Option Bool:=
 if (a0.length:Int)=(a1.length:Int) then
  ((correctorlaw13_ints_l0 F a0 a1 F 0):Option (Sum Unit Bool)).bind fun o=>match o with
   | .inl ()=>some true
   | .inr y=>some y
 else
  some false
theorem uv (F:Nat) {h:AH} {Z:Zn} {a0:List Int} {a1:List Int} {v2 v4} (hI:Inv Z h) (U:RS (α:=Int) Z v2 a0) (ad:RS (α:=Int) Z v4 a1) {r:Bool} (hm:j3 F a0 a1=some r):
  bY Tryz.prog 12 [v2,v4] h Z (.bool r):=by
 refine b1 Tryz.func12 hI ?_
 intro hs hS
 unfold j3 at hm
 refine sp 1<|sq<|s0<|bC 1 v2 (RS.len U)<|bC 1 v4 (RS.len ad)<|dv 0 hm ?_ ?_<;>intro aE hm
 refine xn 0<|dF<|sk<|sq<|sp 1 ?_
 obtain ⟨ae,j,hm⟩:=ai hm
 refine aJ [] (fun l h=>∃ an, .inl ()=ae∧l=[]∧St hs [] Z (0,0) an h []) ?_ ?_
 rintro l aI ⟨an,rfl,rfl,av⟩
 try dsimp only at hm
 refine sp 1<|rt<|⟨rfl,?_⟩
 obtain rfl:=si hm
 refine ⟨_,_,_,tk (.bool true) (ResL.nil),av,?_⟩
 exact rfl
 refine bk 0<|lp [0,1,5] (fun n l h=>∃ ao I,correctorlaw13_ints_l0 F a0 a1 n I=some ae∧l=[(0,v2),(1,v4),(5,V I)]∧St hs [] Z (0,0) ao h []) F ⟨_,0,j,(by kernel_rfl),hS⟩ ?_
 rintro ah l aK ⟨ao,I,j,rfl,J⟩
 rcases ah with _ | ah
 cases (show none=some ae from j)
 rw [correctorlaw13_ints_l0] at j
 refine sq<|s0<|bC 2 v2 (RS.len (U.mono J.ag))<|aT 0 j ?_ ?_<;>intro aL j
 refine xn 0<|dT<|sk<|sq<|bk 1<|cY BU J ?_
 intro aM aN aP ab
 refine yq 2 [(18,V I),(17,v2),(0,v2),(1,v4),(5,V I)] ?_
 obtain ⟨aq,j⟩:=aH j
 refine aF rfl trivial (bx rfl rfl (by kernel_rfl:slTy _ _=some (aa Int)) (RS.cG (U.mono J.ag) (by omega)) aq.1 aq.2) ?_
 obtain ⟨aj,aw,j⟩:=ai j
 obtain ⟨aQ,ax,ay⟩:=RS.bV (U.mono J.ag) (i:=I) aw
 obtain rfl:=fB ax
 refine cg rfl rfl trivial (fun h2 hz=>bE (w:=V aj) (ay h2 hz) rfl (by kernel_rfl)) (ab.bO (aO.refl _)) (aG (v:=V aj) trivial) trivial<|yq 2 [(22,V I),(21,v4),(20,V aj),(0,v2),(1,v4),(5,V I)] ?_
 obtain ⟨ar,j⟩:=aH j
 refine aF rfl trivial (bx rfl rfl (by kernel_rfl:slTy _ _=some (aa Int)) (RS.cG (ad.mono J.ag) (by omega)) ar.1 ar.2) ?_
 obtain ⟨au,az,j⟩:=ai j
 obtain ⟨aU,aA,aB⟩:=RS.bV (ad.mono J.ag) (i:=I) az
 obtain rfl:=fB aA
 refine cg rfl rfl trivial (fun h2 hz=>bE (w:=V au) (aB h2 hz) rfl (by kernel_rfl)) (ab.bO (aO.refl _)) (aG (v:=V au) trivial) trivial ?_
 rcases ifs j with ⟨ak,j⟩ | ⟨ak,j⟩
 refine aF rfl trivial (bm rfl rfl (nz ak))<|yf [(25, .bool false),(0,v2),(1,v4),(5,V I)] ?_
 have aC:=ab.aY
 refine dF<|sk<|gp 3 ?_
 exact ⟨ah,a7 _,⟨_,af (I+1),j,(by kernel_rfl),aC⟩⟩
 refine aF rfl trivial (bm rfl rfl (nu ak))<|yf [(25, .bool true),(0,v2),(1,v4),(5,V I)] ?_
 have aD:=ab.aY
 refine dT<|sp 1<|rt<|bj<|bj<|⟨rfl,?_⟩
 obtain rfl:=si j
 obtain rfl:=si hm
 refine ⟨_,_,_,tk (.bool false) (ResL.nil),aD,?_⟩
 exact rfl
 refine xn 0<|dF<|xt 0<|aS ?_
 obtain rfl:=si j
 exact ⟨_,rfl,(by kernel_rfl),J⟩
 refine xn 0<|dT<|sp 1<|rt<|⟨rfl,?_⟩
 obtain rfl:=si hm
 refine ⟨_,_,_,tk (.bool false) (ResL.nil),hS,?_⟩
 exact rfl
def yF:List aR:=[u 6 (mv 0),u 7 (mv 1),u 8 (bo .rem 3 6 7 3),u 5 (sg 8)]
def ox (F:Nat) (a0:Int) (a1:Int):Option Int:=
 if ¬ a1=(0:Int) then
  ((if (a0.tmod a1)<(0:Int) then
    some (af ((a0.tmod a1)+a1))
   else
    some (a0.tmod a1)):Option Int).bind fun o=>match o with
   | j=>some j
 else none
theorem tD (F:Nat) {h:AH} {Z:Zn} {a0:Int} {a1:Int} (hI:Inv Z h) {r:Int} (hm:ox F a0 a1=some r):
  bY Tryz.prog 22 [V a0,V a1] h Z (V r):=by
 refine b1 Tryz.func22 hI ?_
 intro hs hS
 unfold ox at hm
 refine sp 1<|sr yF<|xq 2 [(7,V a1),(6,V a0),(1,V a1)] ?_
 obtain ⟨U,hm⟩:=aH hm
 refine bW rfl trivial (sQ U rfl rfl)<|xn 1<|sq ?_
 obtain ⟨aa,j,hm⟩:=ai hm
 refine dM [5] (fun l h=>∃ J I,I=aa∧l=[(5,V I)]∧St hs [] Z (0,0) J h []) (by kernel_rfl) ?_ ?_
 rintro l ad ⟨J,I,rfl,rfl,ab⟩
 try dsimp only at hm
 refine sp 2<|rt<|⟨rfl,?_⟩
 obtain rfl:=si hm
 refine ⟨_,_,_,tk (V I) (ResL.nil),ab,?_⟩
 exact rfl
 refine g0<|aT 1 j ?_ ?_<;>intro ae j
 refine xn 0<|dT<|gp 4 ?_
 obtain rfl:=si j
 exact ⟨_,af ((a0.tmod a1)+a1),rfl,(by kernel_rfl),hS⟩
 refine xn 0<|dF<|sk ?_
 obtain rfl:=si j
 exact ⟨_,a0.tmod a1,rfl,(by kernel_rfl),hS⟩
def Al:List br:=[uP 15 (mv 3),uP 16 (mv 0),uP 17 (mv 4),uP 18 (ia 22 16 17),uL 19 (ld 3 18),uF 20 (cf 22 #[(t 19),(ci 7)] #[3,3]) .make [4],uP 21 (.slice 9 (.const (.string {data:=#[32,32,32,32,32,32,32,32]})) none (some (t 20)) none),uP 22 (bo .add 9 15 21 9),uF 23 (.buildSlice 54 20 #[(0,(.const (.string {data:=#[45,32]}))),(1,(.const (.string {data:=#[97,58,32]}))),(2,(.const (.string {data:=#[98,58,32,49]}))),(3,(.const (.string {data:=#[45,32,99,58,32]}))),(4,(.const (.string {data:=#[45,32,45,32,100]}))),(5,(.const (.string {data:=#[116,101,120,116]}))),(6,(.const (.string {data:=#[91,49,44,32,50,93]}))),(7,(.const (.string {data:=#[45,32,124]}))),(8,(.const (.string {data:=#[101,58,32,62]}))),(9,(.const (.string {data:=#[102,58]}))),(10,(.const (.string {data:=#[45]}))),(11,(.const (.string {data:=#[39,113,39,58,32,122]}))),(12,(.const (.string {data:=#[45,45,45]}))),(13,(.const (.string {data:=#[46,46,46]}))),(14,(.const (.string {data:=#[35,32,99]}))),(15,(.const (.string {data:=#[123,97,58,32]}))),(16,(.const (.string {data:=#[45,32,53,32,54]}))),(17,(.const (.string {data:=#[107,58,32,118,58,32,119]}))),(18,(.const (.string {data:=#[42,120]}))),(19,(.const (.string {data:=#[38,121,32,122]})))]) .fresh [],uP 24 (mv 0),uP 25 (mv 4),uP 26 (ia 22 24 25),uL 27 (ld 3 26),uP 28 (bc .quo 3 27 7 3),uF 29 (cf 22 #[(t 28),(ci 20)] #[3,3]) .make [4,12],uP 30 (ia 54 23 29),uF 31 (ld 9 30) .look [5,14],uP 32 (bo .add 9 22 31 9),uP 33 (.binOp .add 9 (t 32) (.const (.string {data:=#[10]})) 9),uP 3 (sg 33)]
def Bv:List aR:=[u 34 (mv 3),u 35 (.convert 9 23 (t 34)),u 2 (sg 35)]
def correctorlaw12_Lines_l0 (F:Nat) (a0:List Int):Nat→ar→Int→Option ar
 | 0,_,_=>none
 | n+1,I,j=>
  if j<(a0.length:Int) then
   if j<(30:Int) then
    if 0≤j∧j<(a0.length:Int) then
     (a0[j.toNat]?).bind fun ab=>
     (ox F ab 7).bind fun J=>
     if 0≤(0:Int)∧(0:Int)≤J∧J≤(([32,32,32,32,32,32,32,32]:List UInt8).length:Int) then
      if I.b.length+((([32,32,32,32,32,32,32,32]:List UInt8).take J.toNat).drop (0:Int).toNat).length≤4611686018427387904 then
       if 0≤j∧j<(a0.length:Int) then
        (a0[j.toNat]?).bind fun ad=>
        (ox F (af (ad.tdiv 7)) 20).bind fun U=>
        if 0≤U∧U<([(⟨[45,32]⟩:ar),(⟨[97,58,32]⟩:ar),(⟨[98,58,32,49]⟩:ar),(⟨[45,32,99,58,32]⟩:ar),(⟨[45,32,45,32,100]⟩:ar),(⟨[116,101,120,116]⟩:ar),(⟨[91,49,44,32,50,93]⟩:ar),(⟨[45,32,124]⟩:ar),(⟨[101,58,32,62]⟩:ar),(⟨[102,58]⟩:ar),(⟨[45]⟩:ar),(⟨[39,113,39,58,32,122]⟩:ar),(⟨[45,45,45]⟩:ar),(⟨[46,46,46]⟩:ar),(⟨[35,32,99]⟩:ar),(⟨[123,97,58,32]⟩:ar),(⟨[45,32,53,32,54]⟩:ar),(⟨[107,58,32,118,58,32,119]⟩:ar),(⟨[42,120]⟩:ar),(⟨[38,121,32,122]⟩:ar)].length:Int) then
         ([(⟨[45,32]⟩:ar),(⟨[97,58,32]⟩:ar),(⟨[98,58,32,49]⟩:ar),(⟨[45,32,99,58,32]⟩:ar),(⟨[45,32,45,32,100]⟩:ar),(⟨[116,101,120,116]⟩:ar),(⟨[91,49,44,32,50,93]⟩:ar),(⟨[45,32,124]⟩:ar),(⟨[101,58,32,62]⟩:ar),(⟨[102,58]⟩:ar),(⟨[45]⟩:ar),(⟨[39,113,39,58,32,122]⟩:ar),(⟨[45,45,45]⟩:ar),(⟨[46,46,46]⟩:ar),(⟨[35,32,99]⟩:ar),(⟨[123,97,58,32]⟩:ar),(⟨[45,32,53,32,54]⟩:ar),(⟨[107,58,32,118,58,32,119]⟩:ar),(⟨[42,120]⟩:ar),(⟨[38,121,32,122]⟩:ar)][U.toNat]?).bind fun aa=>
         if (I.b++((([32,32,32,32,32,32,32,32]:List UInt8).take J.toNat).drop (0:Int).toNat)).length+aa.b.length≤4611686018427387904 then
          if ((I.b++((([32,32,32,32,32,32,32,32]:List UInt8).take J.toNat).drop (0:Int).toNat))++aa.b).length+([10]:List UInt8).length≤4611686018427387904 then
           correctorlaw12_Lines_l0 F a0 n (⟨((I.b++((([32,32,32,32,32,32,32,32]:List UInt8).take J.toNat).drop (0:Int).toNat))++aa.b)++[10]⟩:ar) (af (j+1))
          else none
         else none
        else none
       else none
      else none
     else none
    else none
   else
    some I
  else
   some I
def nw (F:Nat) (a0:List Int):Option (List UInt8):=
 ((correctorlaw12_Lines_l0 F a0 F (⟨[]⟩:ar) 0):Option ar).bind fun o=>match o with
  | j=>some j.b
theorem yK (F:Nat) {h:AH} {Z:Zn} {a0:List Int} {v2} (hP:Pre Z h []) (ae:RS (α:=Int) Z v2 a0) {r:(List UInt8)} (hm:nw F a0=some r):
  bS Tryz.prog 6 [v2] h Z [] fun v Z' A'=>∃ v4,v4=v∧A'=[]∧RS (α:=UInt8) Z' v4 r:=by
 refine b3 Tryz.func6 hP ?_
 intro hs hS
 unfold nw at hm
 replace hS:St hs [] Z (0,0) Z hs []:=hS
 refine sp 1<|sp 1<|sq<|sp 1 ?_
 obtain ⟨an,I,hm⟩:=ai hm
 refine aJ [3] (fun l h=>∃ az ad,ad=an∧l=[(3, .string ⟨⟨ad.b⟩⟩)]∧St hs [] Z (0,0) az h []) ?_ ?_
 rintro l bp ⟨az,ad,rfl,rfl,aQ⟩
 try dsimp only at hm
 refine sr Bv<|xq 1 [(34, .string ⟨⟨ad.b⟩⟩)] ?_
 obtain ⟨aA,bt,bu,aU,bw,aV,aW,bz⟩:=GH (P:=Tryz.prog) (l:=[(34, .string ⟨⟨ad.b⟩⟩)]) (s:=9) (d:=23) (x:= .tmp 34) (bs:=ad.b) aQ rfl (by kernel_rfl)
 refine bW rfl trivial aU<|xn 1<|rt<|⟨rfl,?_⟩
 obtain rfl:=si hm
 refine ⟨_,_,_,tk aA (ResL.nil),aW,?_⟩
 exact ⟨aA,rfl,rfl,aV⟩
 refine bk 0<|lp [0,3,4] (fun n l h=>∃ ao J U,correctorlaw12_Lines_l0 F a0 n J U=some an∧l=[(0,v2),(3, .string ⟨⟨J.b⟩⟩),(4,V U)]∧St hs [] Z (0,0) ao h []) F ⟨_,(⟨[]⟩:ar),0,I,(by kernel_rfl),hS⟩ ?_
 rintro aq l bA ⟨ao,J,U,I,rfl,ab⟩
 rcases aq with _ | aq
 cases (show none=some an from I)
 rw [correctorlaw12_Lines_l0] at I
 refine sq<|s0<|bC 2 v2 (RS.len (ae.mono ab.ag))<|aT 0 I ?_ ?_<;>intro bB I
 refine aT 2 I ?_ ?_<;>intro bD I
 refine xn 1<|dT<|sk<|sq<|bk 1<|ek Al ab ?_
 intro bF bG bH au
 refine yq 3 [(17,V U),(16,v2),(15, .string ⟨⟨J.b⟩⟩),(0,v2),(3, .string ⟨⟨J.b⟩⟩),(4,V U)] ?_
 obtain ⟨aB,I⟩:=aH I
 refine aF rfl trivial (bx rfl rfl (by kernel_rfl:slTy _ _=some (aa Int)) (RS.cG (ae.mono ab.ag) (by omega)) aB.1 aB.2) ?_
 obtain ⟨aC,aX,I⟩:=ai I
 obtain ⟨bI,aZ,a1⟩:=RS.bV (ae.mono ab.ag) (i:=U) aX
 obtain rfl:=fB aZ
 refine cg rfl rfl trivial (fun h2 hz=>bE (w:=V aC) (a1 h2 hz) rfl (by kernel_rfl)) (au.bO (aO.refl _)) (aG (v:=V aC) trivial) trivial ?_
 obtain ⟨ah,a2,I⟩:=ai I
 have aD:=au.bZ
 obtain ⟨bJ,bK,a3,aE,rfl⟩:=tD F aD.inv a2
 have a5:=St.call (A:=[]) (B:=[]) aD aE
 refine df rfl trivial au (cr a3 rfl rfl rfl) a5 (St.de aE) ?_
 intro bL a6
 obtain ⟨av,I⟩:=aH I
 refine aF rfl trivial (n6 (bs:=[32,32,32,32,32,32,32,32]) (a:=0) (b:=ah) rfl (by kernel_rfl) rfl ⟨_,rfl⟩ av.1 av.2.1 av.2.2) ?_
 obtain ⟨a8,I⟩:=aH I
 refine aF rfl trivial (kT rfl rfl (by simpa using a8)) ?_
 have aw:RCs (α:=ar) ao [.string ⟨⟨[45,32]⟩⟩, .string ⟨⟨[97,58,32]⟩⟩, .string ⟨⟨[98,58,32,49]⟩⟩, .string ⟨⟨[45,32,99,58,32]⟩⟩, .string ⟨⟨[45,32,45,32,100]⟩⟩, .string ⟨⟨[116,101,120,116]⟩⟩, .string ⟨⟨[91,49,44,32,50,93]⟩⟩, .string ⟨⟨[45,32,124]⟩⟩, .string ⟨⟨[101,58,32,62]⟩⟩, .string ⟨⟨[102,58]⟩⟩, .string ⟨⟨[45]⟩⟩, .string ⟨⟨[39,113,39,58,32,122]⟩⟩, .string ⟨⟨[45,45,45]⟩⟩, .string ⟨⟨[46,46,46]⟩⟩, .string ⟨⟨[35,32,99]⟩⟩, .string ⟨⟨[123,97,58,32]⟩⟩, .string ⟨⟨[45,32,53,32,54]⟩⟩, .string ⟨⟨[107,58,32,118,58,32,119]⟩⟩, .string ⟨⟨[42,120]⟩⟩, .string ⟨⟨[38,121,32,122]⟩⟩] [(⟨[45,32]⟩:ar),(⟨[97,58,32]⟩:ar),(⟨[98,58,32,49]⟩:ar),(⟨[45,32,99,58,32]⟩:ar),(⟨[45,32,45,32,100]⟩:ar),(⟨[116,101,120,116]⟩:ar),(⟨[91,49,44,32,50,93]⟩:ar),(⟨[45,32,124]⟩:ar),(⟨[101,58,32,62]⟩:ar),(⟨[102,58]⟩:ar),(⟨[45]⟩:ar),(⟨[39,113,39,58,32,122]⟩:ar),(⟨[45,45,45]⟩:ar),(⟨[46,46,46]⟩:ar),(⟨[35,32,99]⟩:ar),(⟨[123,97,58,32]⟩:ar),(⟨[45,32,53,32,54]⟩:ar),(⟨[107,58,32,118,58,32,119]⟩:ar),(⟨[42,120]⟩:ar),(⟨[38,121,32,122]⟩:ar)]:=RCs.cons (cs:=[.string ⟨⟨[45,32]⟩⟩]) rfl (RCs.cons (cs:=[.string ⟨⟨[97,58,32]⟩⟩]) rfl (RCs.cons (cs:=[.string ⟨⟨[98,58,32,49]⟩⟩]) rfl (RCs.cons (cs:=[.string ⟨⟨[45,32,99,58,32]⟩⟩]) rfl (RCs.cons (cs:=[.string ⟨⟨[45,32,45,32,100]⟩⟩]) rfl (RCs.cons (cs:=[.string ⟨⟨[116,101,120,116]⟩⟩]) rfl (RCs.cons (cs:=[.string ⟨⟨[91,49,44,32,50,93]⟩⟩]) rfl (RCs.cons (cs:=[.string ⟨⟨[45,32,124]⟩⟩]) rfl (RCs.cons (cs:=[.string ⟨⟨[101,58,32,62]⟩⟩]) rfl (RCs.cons (cs:=[.string ⟨⟨[102,58]⟩⟩]) rfl (RCs.cons (cs:=[.string ⟨⟨[45]⟩⟩]) rfl (RCs.cons (cs:=[.string ⟨⟨[39,113,39,58,32,122]⟩⟩]) rfl (RCs.cons (cs:=[.string ⟨⟨[45,45,45]⟩⟩]) rfl (RCs.cons (cs:=[.string ⟨⟨[46,46,46]⟩⟩]) rfl (RCs.cons (cs:=[.string ⟨⟨[35,32,99]⟩⟩]) rfl (RCs.cons (cs:=[.string ⟨⟨[123,97,58,32]⟩⟩]) rfl (RCs.cons (cs:=[.string ⟨⟨[45,32,53,32,54]⟩⟩]) rfl (RCs.cons (cs:=[.string ⟨⟨[107,58,32,118,58,32,119]⟩⟩]) rfl (RCs.cons (cs:=[.string ⟨⟨[42,120]⟩⟩]) rfl (RCs.cons (cs:=[.string ⟨⟨[38,121,32,122]⟩⟩]) rfl (RCs.bq _))))))))))))))))))))
 refine iU rfl trivial (c6 (cells:=[.string ⟨⟨[45,32]⟩⟩, .string ⟨⟨[97,58,32]⟩⟩, .string ⟨⟨[98,58,32,49]⟩⟩, .string ⟨⟨[45,32,99,58,32]⟩⟩, .string ⟨⟨[45,32,45,32,100]⟩⟩, .string ⟨⟨[116,101,120,116]⟩⟩, .string ⟨⟨[91,49,44,32,50,93]⟩⟩, .string ⟨⟨[45,32,124]⟩⟩, .string ⟨⟨[101,58,32,62]⟩⟩, .string ⟨⟨[102,58]⟩⟩, .string ⟨⟨[45]⟩⟩, .string ⟨⟨[39,113,39,58,32,122]⟩⟩, .string ⟨⟨[45,45,45]⟩⟩, .string ⟨⟨[46,46,46]⟩⟩, .string ⟨⟨[35,32,99]⟩⟩, .string ⟨⟨[123,97,58,32]⟩⟩, .string ⟨⟨[45,32,53,32,54]⟩⟩, .string ⟨⟨[107,58,32,118,58,32,119]⟩⟩, .string ⟨⟨[42,120]⟩⟩, .string ⟨⟨[38,121,32,122]⟩⟩]) (s:=1) (by kernel_rfl)) (by kernel_rfl) a6 (by omega) (Nat.add_lt_add_left (by decide) _) ?_
 intro ax bM bN bP bQ ay
 refine yq 2 [(25,V U),(24,v2),(23,ax),(22, .string ⟨⟨J.b++((([32,32,32,32,32,32,32,32]:List UInt8).take ah.toNat).drop (0:Int).toNat)⟩⟩),(0,v2),(3, .string ⟨⟨J.b⟩⟩),(4,V U)] ?_
 obtain ⟨aI,I⟩:=aH I
 refine aF rfl trivial (bx rfl rfl (by kernel_rfl:slTy _ _=some (aa Int)) (RS.cG (ae.mono ab.ag) (by omega)) aI.1 aI.2) ?_
 obtain ⟨aK,a9,I⟩:=ai I
 obtain ⟨bT,ba,bb⟩:=RS.bV (ae.mono ab.ag) (i:=U) a9
 obtain rfl:=fB ba
 refine cg rfl rfl trivial (fun h2 hz=>bE (w:=V aK) (bb h2 hz) rfl (by kernel_rfl)) (ay.bO (aO.refl _)) (aG (v:=V aK) trivial) trivial<|aF rfl trivial (wx (b:=7) (by decide) rfl rfl) ?_
 obtain ⟨bc,bd,I⟩:=ai I
 have aL:=ay.bZ
 obtain ⟨bU,bX,bf,aM,rfl⟩:=tD F aL.inv bd
 have bg:=St.call (A:=[]) (B:=[.gs ax [.string ⟨⟨[45,32]⟩⟩, .string ⟨⟨[97,58,32]⟩⟩, .string ⟨⟨[98,58,32,49]⟩⟩, .string ⟨⟨[45,32,99,58,32]⟩⟩, .string ⟨⟨[45,32,45,32,100]⟩⟩, .string ⟨⟨[116,101,120,116]⟩⟩, .string ⟨⟨[91,49,44,32,50,93]⟩⟩, .string ⟨⟨[45,32,124]⟩⟩, .string ⟨⟨[101,58,32,62]⟩⟩, .string ⟨⟨[102,58]⟩⟩, .string ⟨⟨[45]⟩⟩, .string ⟨⟨[39,113,39,58,32,122]⟩⟩, .string ⟨⟨[45,45,45]⟩⟩, .string ⟨⟨[46,46,46]⟩⟩, .string ⟨⟨[35,32,99]⟩⟩, .string ⟨⟨[123,97,58,32]⟩⟩, .string ⟨⟨[45,32,53,32,54]⟩⟩, .string ⟨⟨[107,58,32,118,58,32,119]⟩⟩, .string ⟨⟨[42,120]⟩⟩, .string ⟨⟨[38,121,32,122]⟩⟩] (aa ar)]) aL aM
 refine df rfl trivial ay (cr bf rfl rfl rfl) bg (St.de aM) ?_
 intro bY aj
 obtain ⟨aN,I⟩:=aH I
 refine aF rfl trivial (bx rfl rfl (by kernel_rfl:slTy _ _=some (aa ar)) (aj.bR (j:=0) rfl aw (by omega)) aN.1 aN.2) ?_
 obtain ⟨ak,aP,I⟩:=ai I
 obtain ⟨b0,bh,bj,b1⟩:=aj.cv (j:=0) rfl aw (i:=bc) aP
 obtain rfl:=w3 bh
 have bl:=dw aP
 have b2:=aj.bR (j:=0) rfl aw bl
 refine dy rfl trivial rfl (by show (baseOf ax).block<_;omega) (aG (v:= .string ⟨⟨ak.b⟩⟩) trivial) (bE (w:= .string ⟨⟨ak.b⟩⟩) bj rfl (by kernel_rfl)) trivial ?_
 obtain ⟨bm,I⟩:=aH I
 refine aF rfl trivial (kT rfl rfl (by simpa using bm)) ?_
 obtain ⟨bn,I⟩:=aH I
 refine aF rfl trivial (kT rfl rfl (by simpa using bn))<|ye 1 [(3, .string ⟨⟨((J.b++((([32,32,32,32,32,32,32,32]:List UInt8).take ah.toNat).drop (0:Int).toNat))++ak.b)++[10]⟩⟩),(0,v2),(4,V U)] ?_
 have bo:=aj.aY
 refine gp 3 ?_
 exact ⟨aq,a7 _,⟨_,(⟨((J.b++((([32,32,32,32,32,32,32,32]:List UInt8).take ah.toNat).drop (0:Int).toNat))++ak.b)++[10]⟩:ar),af (U+1),I,(by kernel_rfl),(bo.takeN 0)⟩⟩
 refine xn 1<|dF<|xt 0<|aS ?_
 obtain rfl:=si I
 exact ⟨_,J,rfl,(by kernel_rfl),ab⟩
 refine xn 4<|dF<|xt 0<|aS ?_
 obtain rfl:=si I
 exact ⟨_,J,rfl,(by kernel_rfl),ab⟩
end
section
open Go Am Sy
open Sy.Cell (rc)
def AO:List aR:=[u 22 (mv 0),u 23 (mv 2),u 24 (cf 5 #[(t 22),(t 23)] #[22,23]),u 25 (mv 1),u 26 (cf 6 #[(t 25)] #[22]),u 27 (.buildSlice 27 2 #[(0,(t 24)),(1,(t 26))]),u 11 (sg 27)]
def F2:List br:=[uP 33 (mv 11),uP 34 (mv 12),uP 35 (ia 27 33 34),uL 36 (ld 23 35),uP 37 (mv 4),uF 38 (cf 8 #[(t 37),(ci 12)] #[3,3]) .make [],uP 39 (.binOp .add 3 (ci 1) (t 38) 3),uF 40 (cf 7 #[(t 36),(t 39)] #[23,3]) .make [3],uP 32 (mv 40),uP 41 (.extract (t 32) 0),uP 42 (.extract (t 32) 1),uP 43 (.extract (t 32) 2),uF 14 (.alloc 31) .fresh [],uP 13 (sg 41),oF (.store 31 (t 14) (t 42)) .make [3],uP 15 (sg 43)]
def zI:List br:=[uP 55 (mv 13),uL 56 (ld 36 16),uP 57 (mv 17),uF 58 (cf 10 #[(t 55),(t 56),(t 57)] #[28,36,3]) .make [1],uP 59 (mv 13),uL 60 (ld 31 14),uP 61 (mv 17),uF 62 (cf 11 #[(t 59),(t 60),(t 61)] #[28,31,3]) .make [1,5],uP 63 (bo .neq 3 58 62 3)]
def F5:List br:=[uL 71 (ld 36 16),uP 72 (mv 18),uF 73 (cf 13 #[(t 71),(t 72)] #[36,3]) .make [0],uL 74 (ld 31 14),uP 75 (mv 18),uF 76 (cf 14 #[(t 74),(t 75)] #[31,3]) .make [0,3],uF 77 (cf 12 #[(t 73),(t 76)] #[22,22]) .make [0,3],uP 78 (.unOp .not 4 (t 77))]
def x6:List br:=[uP 86 (mv 13),uP 87 (fa 31 14 0),uL 88 (ld 29 87),uP 89 (mv 19),uP 90 (ia 29 88 89),uL 91 (ld 47 90),uF 92 (cf 15 #[(t 86),(t 91)] #[28,47]) .make [2,5],uP 93 (mv 13),uP 94 (fa 31 14 0),uL 95 (ld 29 94),uP 96 (mv 19),uP 97 (ia 29 95 96),uL 98 (ld 47 97),uF 99 (cf 16 #[(t 93),(t 98)] #[28,47]) .make [2,5,9,12],uP 100 (bo .neq 44 92 99 44)]
def D2:List br:=[uL 101 (ld 36 16),uF 102 (cf 17 #[(t 101)] #[36]) .make [0],uL 103 (ld 31 14),uF 104 (cf 18 #[(t 103)] #[31]) .make [0,2],uF 105 (cf 12 #[(t 102),(t 104)] #[22,22]) .make [0,2],uP 106 (.unOp .not 4 (t 105)),uP 107 (mv 106),jL 107 (some 108) (ld 36 16) .look [1,3,4],jL 107 (some 109) (cf 19 #[(t 108)] #[36]) .make [0,2,7],jL 107 (some 110) (ld 31 14) .look [1,3,4],jL 107 (some 111) (cf 20 #[(t 110)] #[31]) .make [0,2,7,9],dc 107 112 (bo .neq 3 109 111 3),uP 113 (pt 107 112),uP 114 (mv 113),dc 114 115 (mv 13),jL 114 (some 116) (ld 36 16) .look [1,3,4,8,10],dc 114 117 (mv 3),jL 114 (some 118) (cf 10 #[(t 115),(t 116),(t 117)] #[28,36,3]) .make [0,2,7,9,15],dc 114 119 (mv 13),jL 114 (some 120) (ld 31 14) .look [1,3,4,8,10],dc 114 121 (mv 3),jL 114 (some 122) (cf 11 #[(t 119),(t 120),(t 121)] #[28,31,3]) .make [0,2,7,9,15,19],dc 114 123 (bo .neq 3 118 122 3),uP 124 (pt 114 123)]
def correctorlaw13_WalkAll_l1 (F:Nat) (a0:List Int) (a1:List Int) (ad:List UInt8) (ae:Int) (ag:Int):Nat→(List (List UInt8))→Int→(List al)→(List aq)→(List aq)→Int→Option (Sum ((List (List UInt8))×Int×(List al)×(List aq)×(List aq)) Bool)
 | 0,_,_,_,_,_,_=>none
 | n+1,I,j,J,aa,ab,U=>
  if 0≤j∧j<(I.length:Int) then
   (I[j.toNat]?).bind fun ah=>
   if U≤(ah.length:Int) then
    (jm F J (⟨ab⟩:cD) U).bind fun ai=>
    (j0 F J (⟨aa⟩:bK) U).bind fun aj=>
    if ai=aj then
     correctorlaw13_WalkAll_l1 F a0 a1 ad ae ag n I j J aa ab (af (U+1))
    else
     some (.inr false)
   else
    some (.inl (I,j,J,aa,ab))
  else none
def mB (F:Nat) (a0:List Int) (a1:List Int) (ad:List UInt8) (ae:Int) (ag:Int):Nat→(List (List UInt8))→Int→(List al)→(List aq)→(List aq)→Int→Option (Sum ((List (List UInt8))×Int×(List al)×(List aq)×(List aq)) Bool)
 | 0,_,_,_,_,_,_=>none
 | n+1,U,aa,ab,j,J,I=>
  if I≤(j.length:Int) then
   (kg F (⟨J⟩:cD) I).bind fun ah=>
   (mf F (⟨j⟩:bK) I).bind fun ai=>
   (j3 F ah ai).bind fun aj=>
   if aj=true then
    mB F a0 a1 ad ae ag n U aa ab j J (af (I+1))
   else
    some (.inr false)
  else
   some (.inl (U,aa,ab,j,J))
def l7 (F:Nat) (a0:List Int) (a1:List Int) (ad:List UInt8) (ae:Int) (ag:Int):Nat→(List (List UInt8))→Int→(List al)→(List aq)→(List aq)→Int→Option (Sum ((List (List UInt8))×Int×(List al)×(List aq)×(List aq)) Bool)
 | 0,_,_,_,_,_,_=>none
 | n+1,U,aa,J,I,ab,j=>
  if j<(I.length:Int) then
   if 0≤j∧j<(I.length:Int) then
    (I[j.toNat]?).bind fun ah=>
    (walk_Span F J ah).bind fun ai=>
    if 0≤j∧j<(I.length:Int) then
     (I[j.toNat]?).bind fun aj=>
     (oh F J aj).bind fun ak=>
     if ai=ak then
      l7 F a0 a1 ad ae ag n U aa J I ab (af (j+1))
     else
      some (.inr false)
    else none
   else none
  else
   some (.inl (U,aa,J,I,ab))
def correctorlaw13_WalkAll_l0 (F:Nat) (a0:List Int) (a1:List Int) (U:List UInt8) (j:Int) (I:Int):Nat→(List (List UInt8))→Int→Option (Sum Unit Bool)
 | 0,_,_=>none
 | n+1,aa,J=>
  if J<(2:Int) then
   if 0≤J∧J<(aa.length:Int) then
    (aa[J.toNat]?).bind fun ah=>
    (mQ F I 12).bind fun ai=>
    (l6 F ah (af (1+ai))).bind fun ab=>
    (l3 F ab.2.1).bind fun aj=>
    ((correctorlaw13_WalkAll_l1 F a0 a1 U j I F aa J ab.1 ab.2.1.an aj.an (-1)):Option (Sum ((List (List UInt8))×Int×(List al)×(List aq)×(List aq)) Bool)).bind fun o=>match o with
     | .inl (ak,ao,ar,au,av)=>((mB F a0 a1 U j I F ak ao ar au av (-1)):Option (Sum ((List (List UInt8))×Int×(List al)×(List aq)×(List aq)) Bool)).bind fun o=>match o with
      | .inl (aw,ax,ay,az,aA)=>((l7 F a0 a1 U j I F aw ax ay az aA 0):Option (Sum ((List (List UInt8))×Int×(List al)×(List aq)×(List aq)) Bool)).bind fun o=>match o with
       | .inl (aB,aC,ag,ad,ae)=>(nU F (⟨ae⟩:cD)).bind fun aD=>
       (oX F (⟨ad⟩:bK)).bind fun aE=>
       (j3 F aD aE).bind fun aF=>
       if aF=true then
        (nA F (⟨ae⟩:cD)).bind fun aG=>
        (m4 F (⟨ad⟩:bK)).bind fun aH=>
        if aG=aH then
         (jm F ag (⟨ae⟩:cD) j).bind fun aI=>
         (j0 F ag (⟨ad⟩:bK) j).bind fun aJ=>
         if aI=aJ then
          correctorlaw13_WalkAll_l0 F a0 a1 U j I n aB (af (aC+1))
         else
          some (.inr false)
        else
         some (.inr false)
       else
        some (.inr false)
       | .inr y=>some (.inr y)
      | .inr y=>some (.inr y)
     | .inr y=>some (.inr y)
   else none
  else
   some (.inl ())
def nO (F:Nat) (a0:List Int) (a1:List Int) (j:List UInt8) (I:Int) (J:Int):Option Bool:=
 (pZ F).bind fun U=>
 if U=true then
  (oo F a0 j).bind fun aa=>
  (nw F a1).bind fun ab=>
  ((correctorlaw13_WalkAll_l0 F a0 a1 j I J F ([aa,ab]:List (List UInt8)) 0):Option (Sum Unit Bool)).bind fun o=>match o with
   | .inl ()=>some true
   | .inr y=>some y
 else
  some false
theorem GG (F:Nat) {h:AH} {Z:Zn} {a0:List Int} {a1:List Int} {bJ:List UInt8} {J:Int} {U:Int} {v2 v4 v6} (hI:Inv Z h) (fR:RS (α:=Int) Z v2 a0) (fS:RS (α:=Int) Z v4 a1) (fT:RS (α:=UInt8) Z v6 bJ) {r:Bool} (hm:nO F a0 a1 bJ J U=some r):
  bY Tryz.prog 3 [v2,v4,v6,V J,V U] h Z (.bool r):=by
 refine b1 Tryz.func3 hI ?_
 intro hs hS
 unfold nO at hm
 refine sp 1<|sq<|s0 ?_
 obtain ⟨iB,fU,hm⟩:=ai hm
 refine cP 0 hS (zo F hS.inv fU) ?_
 rintro _ iC dA rfl
 refine kb 0 20 hm ?_ ?_<;>intro iD hm
 refine xn 1<|dF<|sk<|sr AO ?_
 obtain ⟨eA,fV,hm⟩:=ai hm
 refine c0 2 dA (FU F dA.eM fR fT fV) ?_
 rintro _ iE iF _ fW eB ⟨bM,rfl,rfl,eD⟩
 refine xq 1 [(25,v4),(24,bM),(3,V J),(4,V U)] ?_
 obtain ⟨eE,fX,hm⟩:=ai hm
 refine c0 0 eB (yK F eB.eM (fS.mono fW) fX) ?_
 rintro _ iG fY _ eF fZ ⟨cb,rfl,rfl,eG⟩
 have gb:RCs (α:=List UInt8) fY [bM,cb] ([eA,eE]:List (List UInt8)):=RCs.cons (cs:=[bM]) ⟨_,(eD.mono eF),rfl⟩ (RCs.cons (cs:=[cb]) ⟨_,eG,rfl⟩ (RCs.bq _))
 refine dG rfl trivial (BA (cells:=[bM,cb]) (s:=1) rfl (CA.cons (cs:=[bM]) (RS.nv (eD.mono eF)) (CA.cons (cs:=[cb]) (RS.nv eG) (CA.bq))) (by kernel_rfl)) (by kernel_rfl) fZ ?_
 intro gd iH gf
 refine xn 1<|sq<|sp 1 ?_
 obtain ⟨dB,I,hm⟩:=ai hm
 refine aJ [] (fun l h=>∃ eH, .inl ()=dB∧l=[]∧St hs [] Z (0,0) eH h []) ?_ ?_
 rintro l iI ⟨eH,rfl,rfl,gh⟩
 try dsimp only at hm
 refine sp 1<|rt<|⟨rfl,?_⟩
 obtain rfl:=si hm
 refine ⟨_,_,_,tk (.bool true) (ResL.nil),gh,?_⟩
 exact rfl
 refine bk 0<|lp [3,4,11,12] (fun n l h=>∃ dC cx a5 az bB,correctorlaw13_WalkAll_l0 F a0 a1 bJ J U n cx a5=some dB∧RCs (α:=List UInt8) dC bB cx∧l=[(3,V J),(4,V U),(11,az),(12,V a5)]∧St hs [] Z (0,0) dC h [.gs az bB (aa (List UInt8))]) F ⟨_,([eA,eE]:List (List UInt8)),0,gd,[bM,cb],I,gb,(by kernel_rfl),gf⟩ ?_
 rintro dE l iJ ⟨dC,cx,a5,az,bB,I,cy,rfl,eI⟩
 rcases dE with _ | dE
 cases (show none=some dB from I)
 rw [correctorlaw13_WalkAll_l0] at I
 refine sq<|s0<|aT 1 I ?_ ?_<;>intro iK I
 refine xn 0<|dT<|sk<|sq<|bk 1<|cY F2 eI ?_
 intro gi iL gj cc
 refine yq 2 [(34,V a5),(33,az),(3,V J),(4,V U),(11,az),(12,V a5)] ?_
 obtain ⟨eJ,I⟩:=aH I
 refine aF rfl trivial (bx rfl rfl (by kernel_rfl:slTy _ _=some (aa (List UInt8))) (cc.bR (j:=0) rfl cy (by omega)) eJ.1 eJ.2) ?_
 obtain ⟨iM,eK,I⟩:=ai I
 obtain ⟨iN,gk,gl,iO⟩:=cc.cv (j:=0) rfl cy (i:=a5) eK
 obtain ⟨cA,eL,rfl⟩:=v5 gk
 have gm:=dw eK
 have eN:=cc.bR (j:=0) rfl cy gm
 have iP:(baseOf az).block<gi:=dD (gj.1 _ (au (i:=0) rfl)) eN
 refine dy rfl trivial rfl (by show (baseOf az).block<_;omega) (aG (v:=cA) (RS.cM eL)) (bE (w:=cA) gl rfl (by kernel_rfl)) trivial<|yq 1 [(37,V U),(36,cA),(3,V J),(4,V U),(11,az),(12,V a5)] ?_
 obtain ⟨gn,gq,I⟩:=ai I
 have eO:=cc.bZ
 obtain ⟨iQ,iR,gr,eP,rfl⟩:=xI F eO.inv gq
 have gv:=St.call (A:=[]) (B:=[.gs az bB (aa (List UInt8))]) eO eP
 refine df rfl trivial cc (cr gr rfl rfl rfl) gv (St.de eP) ?_
 intro iS eQ
 refine yq 1 [(39,V (af (1+gn))),(36,cA),(3,V J),(4,V U),(11,az),(12,V a5)] ?_
 obtain ⟨eR,gw,I⟩:=ai I
 have gx:=eQ.bZ
 have eT:St _ _ _ _ _ _ ([]++[.gs az bB (aa (List UInt8))]):=gx
 obtain ⟨iT,iU,iV,iW,gy,dH,cB,bD,dI,gz,rfl,rfl,gA,dJ,iX⟩:=wH F eT.dW eL gw
 have gB:=eT.call dH
 have eU:=dH.ag
 refine df rfl trivial eQ (cr gy rfl rfl rfl) gB (St.de dH) ?_
 intro iY gC
 refine yq 4 [(43,dI),(42, .agg #[bD]),(41,cB),(3,V J),(4,V U),(11,az),(12,V a5)]<|vN rfl trivial (sJ (cs:=[.slice none 0 0]) (by kernel_rfl)) gC (by omega) (Nat.add_lt_add_left (by decide) _) ?_
 intro cd iZ ja gD
 refine yq 1 [(13,cB),(14,Pt cd 0),(43,dI),(42, .agg #[bD]),(3,V J),(4,V U),(11,az),(12,V a5)] ?_
 have dL:St _ _ _ _ _ _ ([.ae cd [.slice none 0 0]]++[.gs dI gz (aa aj), .gs az bB (aa (List UInt8))]):=(gD.front 0 rfl)
 refine gu rfl trivial dL (gg (vs:=[bD]) (cO:=[bD]) (L':=[.ae cd [bD]]) dL.sub (i:=0) rfl rfl rfl rfl (by kernel_rfl) (bz (RS.di dJ) cz) rfl rfl rfl) eU (.a3 (dL.bL 1 rfl (jS eN)) .nil) ?_
 intro jb gE
 refine ye 1 [(13,cB),(14,Pt cd 0),(3,V J),(4,V U),(11,az),(12,V a5)] ?_
 have dM:=gE.aY
 refine s0<|aD 0 0 (.agg #[bD]) dM rfl ?_
 obtain ⟨gF,gG,I⟩:=ai I
 refine c0 0 dM (sX F dM.eM dJ gG) ?_
 rintro _ jc jd _ dN gH ⟨cC,rfl,rfl,eW⟩
 refine dt 0 [.slice none 0 0] gH ?_
 intro gI je gJ
 refine bG 0 0 (.agg #[cC]) [cC] [cC] gJ rfl rfl (bz (RS.di eW) cz) ?_
 intro jf gK
 refine xn 0<|sq<|sp 1 ?_
 obtain ⟨dO,ad,I⟩:=ai I
 refine aJ [3,4,11,12,13,14,16] (fun l h=>∃ bN cE cF cH cI cJ cK cL cN cQ cR cS cT, .inl (cE,cF,cH,cI,cJ)=dO∧RCs (α:=List UInt8) bN cL cE∧RS (α:=al) bN cN cH∧RS (α:=aq) bN cR cI∧RS (α:=aq) bN cT cJ∧l=[(3,V J),(4,V U),(11,cK),(12,V cF),(13,cN),(14,Pt cQ 0),(16,Pt cS 0)]∧St hs [] Z (0,0) bN h [.gs cK cL (aa (List UInt8)), .ae cQ [cR], .ae cS [cT]]) ?_ ?_
 rintro l jg ⟨bN,cE,cF,cH,cI,cJ,cK,cL,cN,cQ,cR,cS,cT,rfl,gL,gM,gN,gO,rfl,gP⟩
 try dsimp only at I
 refine sq<|sp 1 ?_
 obtain ⟨dP,av,I⟩:=ai I
 refine aJ [3,4,11,12,13,14,16] (fun l h=>∃ bP cU cW cX cZ c3 c4 c5 c6 c8 db dc dd, .inl (cU,cW,cX,cZ,c3)=dP∧RCs (α:=List UInt8) bP c5 cU∧RS (α:=al) bP c6 cX∧RS (α:=aq) bP db cZ∧RS (α:=aq) bP dd c3∧l=[(3,V J),(4,V U),(11,c4),(12,V cW),(13,c6),(14,Pt c8 0),(16,Pt dc 0)]∧St hs [] Z (0,0) bP h [.gs c4 c5 (aa (List UInt8)), .ae c8 [db], .ae dc [dd]]) ?_ ?_
 rintro l jh ⟨bP,cU,cW,cX,cZ,c3,c4,c5,c6,c8,db,dc,dd,rfl,gQ,gR,gS,gT,rfl,gU⟩
 try dsimp only at I
 refine sq<|sp 1 ?_
 obtain ⟨dQ,ab,I⟩:=ai I
 refine aJ [3,4,11,12,13,14,16] (fun l h=>∃ bQ dg aN dR bS bT ak bc bh ao ax aw ay, .inl (dg,aN,dR,bS,bT)=dQ∧RCs (α:=List UInt8) bQ bc dg∧RS (α:=al) bQ bh dR∧RS (α:=aq) bQ ax bS∧RS (α:=aq) bQ ay bT∧l=[(3,V J),(4,V U),(11,ak),(12,V aN),(13,bh),(14,Pt ao 0),(16,Pt aw 0)]∧St hs [] Z (0,0) bQ h [.gs ak bc (aa (List UInt8)), .ae ao [ax], .ae aw [ay]]) ?_ ?_
 rintro l ji ⟨bQ,dg,aN,dR,bS,bT,ak,bc,bh,ao,ax,aw,ay,rfl,gV,eX,bU,bW,rfl,gW⟩
 try dsimp only at I
 refine cY D2 gW ?_
 intro bX jj b0 dS
 have jk:aw<bX:=b0.1 _ (au (i:=2) rfl) _ (by simp [Itm.ids])
 refine aW (v:= .agg #[ay]) rfl trivial rfl (by show aw<_;omega) (eC (cs:=[ay]) (.cons (RS.cM bW) .nil)) (dS.aV (i:=2) rfl (by kernel_rfl)) trivial ?_
 obtain ⟨jl,gX,I⟩:=ai I
 have gY:=dS.bZ
 have eY:St _ _ _ _ _ _ ([]++[.gs ak bc (aa (List UInt8)), .ae ao [ax], .ae aw [ay]]):=gY
 obtain ⟨jm,jn,jo,jq,gZ,dV,g0,g1,rfl,rfl,g2⟩:=yg F (a0:=(⟨bT⟩:cD)) eY.dW bW gX
 have g3:=eY.call dV
 have aP:=dV.ag
 refine df rfl trivial dS (cr gZ rfl rfl rfl) g3 (St.de dV) ?_
 intro jr dX
 have js:ao<bX:=b0.1 _ (au (i:=1) rfl) _ (by simp [Itm.ids])
 refine aW (v:= .agg #[ax]) rfl trivial rfl (by show ao<_;omega) (eC (cs:=[ax]) (.cons (RS.cM (bU.mono aP)) .nil)) (dX.aV (i:=2) rfl (by kernel_rfl)) trivial ?_
 obtain ⟨jt,g4,I⟩:=ai I
 have g5:=dX.bZ
 have eZ:St _ _ _ _ _ _ ([]++[.gs g0 g1 (aa Int), .gs ak bc (aa (List UInt8)), .ae ao [ax], .ae aw [ay]]):=g5
 obtain ⟨ju,jv,jw,jx,g6,dY,jy,jz,rfl,rfl,g7⟩:=xz F (a0:=(⟨bS⟩:bK)) eZ.dW (bU.mono aP) g4
 have g8:=eZ.call dY
 have a6:=dY.ag
 refine df rfl trivial dX (cr g6 rfl rfl rfl) g8 (St.de dY) ?_
 intro jA g9
 obtain ⟨jB,a8,ha,hb⟩:=(g9.front 1 rfl).freeze (g2.mono a6)
 obtain ⟨jC,a9,hc,e0⟩:=(hb.front 0 rfl).freeze (g7.mono a8)
 obtain ⟨jD,hf,I⟩:=ai I
 have e2:=e0.bZ
 obtain ⟨jE,jF,hg,e3,rfl⟩:=uv F e2.inv (ha.mono a9) hc hf
 have hh:=St.call (A:=[]) (B:=[.gs ak bc (aa (List UInt8)), .ae ao [ax], .ae aw [ay]]) e2 e3
 refine df rfl trivial e0 (cr hg rfl rfl rfl) hh (St.de e3) ?_
 intro jG dh
 rcases ifs I with ⟨dZ,I⟩ | ⟨dZ,I⟩
 refine lK (t:=105) rfl dZ<|yq 2 [(107, .bool false),(3,V J),(4,V U),(11,ak),(12,V aN),(13,bh),(14,Pt ao 0),(16,Pt aw 0)] ?_
 have jH:aw<bX:=b0.1 _ (au (i:=2) rfl) _ (by simp [Itm.ids])
 refine aW (v:= .agg #[ay]) rfl rfl rfl (by show aw<_;omega) (eC (cs:=[ay]) (.cons (RS.cM (bW.mono (aP.trans (a6.trans (a8.trans a9))))) .nil)) (dh.aV (i:=2) rfl (by kernel_rfl)) trivial ?_
 obtain ⟨jI,hi,I⟩:=ai I
 have e5:=dh.bZ
 obtain ⟨jJ,jK,hj,e6,rfl⟩:=Fm F (a0:=(⟨bT⟩:cD)) e5.inv (bW.mono (aP.trans (a6.trans (a8.trans a9)))) hi
 have hk:=St.call (A:=[]) (B:=[.gs ak bc (aa (List UInt8)), .ae ao [ax], .ae aw [ay]]) e5 e6
 refine df rfl rfl dh (cr hj rfl rfl rfl) hk (St.de e6) ?_
 intro jL ea
 have jM:ao<bX:=b0.1 _ (au (i:=1) rfl) _ (by simp [Itm.ids])
 refine aW (v:= .agg #[ax]) rfl rfl rfl (by show ao<_;omega) (eC (cs:=[ax]) (.cons (RS.cM (bU.mono (aP.trans (a6.trans (a8.trans a9))))) .nil)) (ea.aV (i:=1) rfl (by kernel_rfl)) trivial ?_
 obtain ⟨jN,hl,I⟩:=ai I
 have e7:=ea.bZ
 obtain ⟨jO,jP,hn,e8,rfl⟩:=EG F (a0:=(⟨bS⟩:bK)) e7.inv (bU.mono (aP.trans (a6.trans (a8.trans a9)))) hl
 have ho:=St.call (A:=[]) (B:=[.gs ak bc (aa (List UInt8)), .ae ao [ax], .ae aw [ay]]) e7 e8
 refine df rfl rfl ea (cr hn rfl rfl rfl) ho (St.de e8) ?_
 intro jQ dj
 rcases ifs I with ⟨eb,I⟩ | ⟨eb,I⟩
 refine aF rfl rfl (bm rfl rfl (nz eb))<|yq 3 [(115,bh),(114, .bool false),(3,V J),(4,V U),(11,ak),(12,V aN),(13,bh),(14,Pt ao 0),(16,Pt aw 0)] ?_
 have jR:aw<bX:=b0.1 _ (au (i:=2) rfl) _ (by simp [Itm.ids])
 refine aW (v:= .agg #[ay]) rfl rfl rfl (by show aw<_;omega) (eC (cs:=[ay]) (.cons (RS.cM (bW.mono (aP.trans (a6.trans (a8.trans a9))))) .nil)) (dj.aV (i:=2) rfl (by kernel_rfl)) trivial<|yq 1 [(117,V J),(116, .agg #[ay]),(115,bh),(114, .bool false),(3,V J),(4,V U),(11,ak),(12,V aN),(13,bh),(14,Pt ao 0)] ?_
 obtain ⟨e9,hp,I⟩:=ai I
 have fa:=dj.bZ
 obtain ⟨jT,jU,hq,fb,rfl⟩:=ql F (a1:=(⟨bT⟩:cD)) fa.inv (eX.mono (aP.trans (a6.trans (a8.trans a9)))) (bW.mono (aP.trans (a6.trans (a8.trans a9)))) hp
 have hr:=St.call (A:=[]) (B:=[.gs ak bc (aa (List UInt8)), .ae ao [ax], .ae aw [ay]]) fa fb
 refine df rfl rfl dj (cr hq rfl rfl rfl) hr (St.de fb) ?_
 intro jV ec
 refine yq 1 [(119,bh),(118,V e9),(114, .bool false),(3,V J),(4,V U),(11,ak),(12,V aN),(14,Pt ao 0)] ?_
 have jW:ao<bX:=b0.1 _ (au (i:=1) rfl) _ (by simp [Itm.ids])
 refine aW (v:= .agg #[ax]) rfl rfl rfl (by show ao<_;omega) (eC (cs:=[ax]) (.cons (RS.cM (bU.mono (aP.trans (a6.trans (a8.trans a9))))) .nil)) (ec.aV (i:=1) rfl (by kernel_rfl)) trivial<|yq 1 [(121,V J),(120, .agg #[ax]),(119,bh),(118,V e9),(114, .bool false),(3,V J),(4,V U),(11,ak),(12,V aN)] ?_
 obtain ⟨jX,ht,I⟩:=ai I
 have fc:=ec.bZ
 obtain ⟨jY,jZ,hv,fe,rfl⟩:=vY F (a1:=(⟨bS⟩:bK)) fc.inv (eX.mono (aP.trans (a6.trans (a8.trans a9)))) (bU.mono (aP.trans (a6.trans (a8.trans a9)))) ht
 have hx:=St.call (A:=[]) (B:=[.gs ak bc (aa (List UInt8)), .ae ao [ax], .ae aw [ay]]) fc fe
 refine df rfl rfl ec (cr hv rfl rfl rfl) hx (St.de fe) ?_
 intro j0 ff
 rcases ifs I with ⟨ed,I⟩ | ⟨ed,I⟩
 refine aF rfl rfl (bm rfl rfl (nz ed))<|ye 1 [(124, .bool false),(3,V J),(4,V U),(11,ak),(12,V aN)] ?_
 have hy:=ff.aY
 refine dF<|sk<|gp 3 ?_
 exact ⟨dE,a7 _,⟨_,dg,af (aN+1),ak,bc,I,(gV.mono (aP.trans (a6.trans (a8.trans a9)))),(by kernel_rfl),(hy.takeN 1)⟩⟩
 refine aF rfl rfl (bm rfl rfl (nu ed))<|ye 1 [(124, .bool true),(3,V J),(4,V U),(11,ak),(12,V aN)] ?_
 have hA:=ff.aY
 refine dT<|sp 1<|rt<|bj<|bj<|⟨rfl,?_⟩
 obtain rfl:=si I
 obtain rfl:=si hm
 refine ⟨_,_,_,tk (.bool false) (ResL.nil),hA,?_⟩
 exact rfl
 refine aF rfl rfl (bm rfl rfl (nu eb))<|ye 12 [(124, .bool true),(3,V J),(4,V U),(11,ak),(12,V aN)] ?_
 have hB:=dj.aY
 refine dT<|sp 1<|rt<|bj<|bj<|⟨rfl,?_⟩
 obtain rfl:=si I
 obtain rfl:=si hm
 refine ⟨_,_,_,tk (.bool false) (ResL.nil),hB,?_⟩
 exact rfl
 refine lK (t:=105) rfl (Bool.eq_false_iff.2 dZ)<|ye 19 [(124, .bool true),(3,V J),(4,V U),(11,ak),(12,V aN)] ?_
 have hC:=dh.aY
 refine dT<|sp 1<|rt<|bj<|bj<|⟨rfl,?_⟩
 obtain rfl:=si I
 obtain rfl:=si hm
 refine ⟨_,_,_,tk (.bool false) (ResL.nil),hC,?_⟩
 exact rfl
 refine bk 6<|lp [3,4,11,12,13,14,16,19] (fun n l h=>∃ b2 cf bd ch cj ck aM aQ bF aA ar aB aU bH,l7 F a0 a1 bJ J U n cf bd ch cj ck aM=some dQ∧RCs (α:=List UInt8) b2 bF cf∧RS (α:=al) b2 aA ch∧RS (α:=aq) b2 aB cj∧RS (α:=aq) b2 bH ck∧l=[(3,V J),(4,V U),(11,aQ),(12,V bd),(13,aA),(14,Pt ar 0),(16,Pt aU 0),(19,V aM)]∧St hs [] Z (0,0) b2 h [.gs aQ bF (aa (List UInt8)), .ae ar [aB], .ae aU [bH]]) F ⟨_,cU,cW,cX,cZ,c3,0,c4,c5,c6,c8,db,dc,dd,ab,gQ,gR,gS,gT,(by kernel_rfl),gU⟩ ?_
 rintro ee l j1 ⟨b2,cf,bd,ch,cj,ck,aM,aQ,bF,aA,ar,aB,aU,bH,ab,fg,dm,bw,fh,rfl,eg⟩
 rcases ee with _ | ee
 cases (show none=some dQ from ab)
 rw [l7] at ab
 refine sq<|s0<|aD 2 1 aB eg rfl<|bC 0 aB (RS.len bw)<|aT 0 ab ?_ ?_<;>intro j2 ab
 refine xn 0<|dT<|sk<|sq<|bk 7<|cY x6 eg ?_
 intro fi j3 fj dn
 refine yq 2 [(87,Pt ar 0),(86,aA),(3,V J),(4,V U),(11,aQ),(12,V bd),(13,aA),(14,Pt ar 0),(16,Pt aU 0),(19,V aM)] ?_
 have j4:ar<fi:=fj.1 _ (au (i:=1) rfl) _ (by simp [Itm.ids])
 refine aW (v:=aB) rfl trivial rfl (by show ar<_;omega) (aG (v:=aB) (RS.cM bw)) (dn.aV (i:=1) rfl (by kernel_rfl)) trivial<|yq 1 [(89,V aM),(88,aB),(86,aA),(3,V J),(4,V U),(11,aQ),(12,V bd),(13,aA),(14,Pt ar 0),(16,Pt aU 0),(19,V aM)] ?_
 obtain ⟨fk,ab⟩:=aH ab
 refine aF rfl trivial (bx rfl rfl (by kernel_rfl:slTy _ _=some (aa aq)) (RS.cG bw (by omega)) fk.1 fk.2) ?_
 obtain ⟨bl,hD,ab⟩:=ai ab
 obtain ⟨j5,hE,hF⟩:=RS.bV bw (i:=aM) hD
 obtain ⟨fl,fm,rfl⟩:=ey hE
 refine cg rfl rfl trivial (fun h2 hz=>bE (w:= .agg #[V bl.Kind,V bl.ah,V bl.To,V bl.Up,fl, .bool bl.Key]) (hF h2 hz) rfl (by kernel_rfl)) (dn.bO (aO.refl _)) (eC (cs:=[V bl.Kind,V bl.ah,V bl.To,V bl.Up,fl, .bool bl.Key]) (.cons trivial (.cons trivial (.cons trivial (.cons trivial (.cons (RS.cM fm) (.cons trivial .nil))))))) trivial ?_
 obtain ⟨b3,hG,ab⟩:=ai ab
 have fo:=dn.bZ
 obtain ⟨j6,j7,hH,fp,rfl⟩:=zC F fo.inv dm fm hG
 have hJ:=St.call (A:=[]) (B:=[.gs aQ bF (aa (List UInt8)), .ae ar [aB], .ae aU [bH]]) fo fp
 refine df rfl trivial dn (cr hH rfl rfl rfl) hJ (St.de fp) ?_
 intro j8 dp
 refine yq 2 [(94,Pt ar 0),(93,aA),(92, .agg #[V b3.ah,V b3.To]),(3,V J),(4,V U),(11,aQ),(12,V bd),(13,aA),(14,Pt ar 0),(16,Pt aU 0),(19,V aM)] ?_
 have j9:ar<fi:=fj.1 _ (au (i:=1) rfl) _ (by simp [Itm.ids])
 refine aW (v:=aB) rfl trivial rfl (by show ar<_;omega) (aG (v:=aB) (RS.cM bw)) (dp.aV (i:=1) rfl (by kernel_rfl)) trivial<|yq 1 [(96,V aM),(95,aB),(93,aA),(92, .agg #[V b3.ah,V b3.To]),(3,V J),(4,V U),(11,aQ),(12,V bd),(13,aA),(14,Pt ar 0),(16,Pt aU 0),(19,V aM)] ?_
 obtain ⟨fq,ab⟩:=aH ab
 refine aF rfl trivial (bx rfl rfl (by kernel_rfl:slTy _ _=some (aa aq)) (RS.cG bw (by omega)) fq.1 fq.2) ?_
 obtain ⟨bn,hK,ab⟩:=ai ab
 obtain ⟨ka,hL,hM⟩:=RS.bV bw (i:=aM) hK
 obtain ⟨fr,fs,rfl⟩:=ey hL
 refine cg rfl rfl trivial (fun h2 hz=>bE (w:= .agg #[V bn.Kind,V bn.ah,V bn.To,V bn.Up,fr, .bool bn.Key]) (hM h2 hz) rfl (by kernel_rfl)) (dp.bO (aO.refl _)) (eC (cs:=[V bn.Kind,V bn.ah,V bn.To,V bn.Up,fr, .bool bn.Key]) (.cons trivial (.cons trivial (.cons trivial (.cons trivial (.cons (RS.cM fs) (.cons trivial .nil))))))) trivial ?_
 obtain ⟨ft,hN,ab⟩:=ai ab
 have fu:=dp.bZ
 obtain ⟨kc,ke,hO,fv,rfl⟩:=xv F fu.inv dm fs hN
 have hP:=St.call (A:=[]) (B:=[.gs aQ bF (aa (List UInt8)), .ae ar [aB], .ae aU [bH]]) fu fv
 refine df rfl trivial dp (cr hO rfl rfl rfl) hP (St.de fv) ?_
 intro kf fw
 rcases ifs ab with ⟨eh,ab⟩ | ⟨eh,ab⟩
 refine aF rfl trivial (bm rfl rfl (zg (x:=b3) (y:=ft) eh))<|yf [(100, .bool false),(3,V J),(4,V U),(11,aQ),(12,V bd),(13,aA),(14,Pt ar 0),(16,Pt aU 0),(19,V aM)] ?_
 have hQ:=fw.aY
 refine dF<|sk<|gp 3 ?_
 exact ⟨ee,a7 _,⟨_,cf,bd,ch,cj,ck,af (aM+1),aQ,bF,aA,ar,aB,aU,bH,ab,fg,dm,bw,fh,(by kernel_rfl),hQ⟩⟩
 refine aF rfl trivial (bm rfl rfl (Gj (x:=b3) (y:=ft) eh))<|yf [(100, .bool true),(3,V J),(4,V U),(11,aQ),(12,V bd),(13,aA),(14,Pt ar 0),(16,Pt aU 0),(19,V aM)] ?_
 have hR:=fw.aY
 refine dT<|sp 1<|rt<|bj<|bj<|bj<|bj<|⟨rfl,?_⟩
 obtain rfl:=si ab
 obtain rfl:=si I
 obtain rfl:=si hm
 refine ⟨_,_,_,tk (.bool false) (ResL.nil),hR,?_⟩
 exact rfl
 refine xn 0<|dF<|xt 6<|aS ?_
 obtain rfl:=si ab
 exact ⟨_,cf,bd,ch,cj,ck,aQ,bF,aA,ar,aB,aU,bH,rfl,fg,dm,bw,fh,(by kernel_rfl),eg⟩
 refine bk 4<|lp [3,4,11,12,13,14,16,18] (fun n l h=>∃ b4 cl bo cm b5 b6 bf aX bA bp aC aZ aE bg,mB F a0 a1 bJ J U n cl bo cm b5 b6 bf=some dP∧RCs (α:=List UInt8) b4 bA cl∧RS (α:=al) b4 bp cm∧RS (α:=aq) b4 aZ b5∧RS (α:=aq) b4 bg b6∧l=[(3,V J),(4,V U),(11,aX),(12,V bo),(13,bp),(14,Pt aC 0),(16,Pt aE 0),(18,V bf)]∧St hs [] Z (0,0) b4 h [.gs aX bA (aa (List UInt8)), .ae aC [aZ], .ae aE [bg]]) F ⟨_,cE,cF,cH,cI,cJ,(-1),cK,cL,cN,cQ,cR,cS,cT,av,gL,gM,gN,gO,(by kernel_rfl),gP⟩ ?_
 rintro ei l kg ⟨b4,cl,bo,cm,b5,b6,bf,aX,bA,bp,aC,aZ,aE,bg,av,fx,fy,cn,dr,rfl,ej⟩
 rcases ei with _ | ei
 cases (show none=some dP from av)
 rw [mB] at av
 refine sq<|s0<|aD 2 1 aZ ej rfl<|bC 0 aZ (RS.len cn)<|e4 0 av ?_ ?_<;>intro kh av
 refine xf [(68, .bool true),(3,V J),(4,V U),(11,aX),(12,V bo),(13,bp),(14,Pt aC 0),(16,Pt aE 0),(18,V bf)]<|dT<|sk<|sq<|bk 5<|cY F5 ej ?_
 intro fz ki fA ek
 have kj:aE<fz:=fA.1 _ (au (i:=2) rfl) _ (by simp [Itm.ids])
 refine aW (v:= .agg #[bg]) rfl trivial rfl (by show aE<_;omega) (eC (cs:=[bg]) (.cons (RS.cM dr) .nil)) (ek.aV (i:=2) rfl (by kernel_rfl)) trivial<|yq 1 [(72,V bf),(71, .agg #[bg]),(3,V J),(4,V U),(11,aX),(12,V bo),(13,bp),(14,Pt aC 0),(16,Pt aE 0),(18,V bf)] ?_
 obtain ⟨kk,hT,av⟩:=ai av
 have hU:=ek.bZ
 have fB:St _ _ _ _ _ _ ([]++[.gs aX bA (aa (List UInt8)), .ae aC [aZ], .ae aE [bg]]):=hU
 obtain ⟨kl,km,kn,ko,hV,en,fC,hW,rfl,rfl,hX⟩:=DY F (a0:=(⟨b6⟩:cD)) fB.dW dr hT
 have hY:=fB.call en
 have b7:=en.ag
 refine df rfl trivial ek (cr hV rfl rfl rfl) hY (St.de en) ?_
 intro kp eo
 have kq:aC<fz:=fA.1 _ (au (i:=1) rfl) _ (by simp [Itm.ids])
 refine aW (v:= .agg #[aZ]) rfl trivial rfl (by show aC<_;omega) (eC (cs:=[aZ]) (.cons (RS.cM (cn.mono b7)) .nil)) (eo.aV (i:=2) rfl (by kernel_rfl)) trivial<|yq 1 [(75,V bf),(74, .agg #[aZ]),(73,fC),(3,V J),(4,V U),(11,aX),(12,V bo),(13,bp),(14,Pt aC 0),(16,Pt aE 0),(18,V bf)] ?_
 obtain ⟨kr,hZ,av⟩:=ai av
 have h3:=eo.bZ
 have fD:St _ _ _ _ _ _ ([]++[.gs fC hW (aa Int), .gs aX bA (aa (List UInt8)), .ae aC [aZ], .ae aE [bg]]):=h3
 obtain ⟨ks,kt,ku,kv,h4,ep,kx,ky,rfl,rfl,h5⟩:=CB F (a0:=(⟨b5⟩:bK)) fD.dW (cn.mono b7) hZ
 have h6:=fD.call ep
 have cp:=ep.ag
 refine df rfl trivial eo (cr h4 rfl rfl rfl) h6 (St.de ep) ?_
 intro kz h7
 obtain ⟨kA,cq,h8,h9⟩:=(h7.front 1 rfl).freeze (hX.mono cp)
 obtain ⟨kB,ct,ia,fE⟩:=(h9.front 0 rfl).freeze (h5.mono cq)
 obtain ⟨kC,ib,av⟩:=ai av
 have fF:=fE.bZ
 obtain ⟨kD,kE,ic,fG,rfl⟩:=uv F fF.inv (h8.mono ct) ia ib
 have ie:=St.call (A:=[]) (B:=[.gs aX bA (aa (List UInt8)), .ae aC [aZ], .ae aE [bg]]) fF fG
 refine df rfl trivial fE (cr ic rfl rfl rfl) ie (St.de fG) ?_
 intro kF fH
 rcases ifs av with ⟨er,av⟩ | ⟨er,av⟩
 refine lK (t:=77) rfl er<|ye 1 [(78, .bool false),(3,V J),(4,V U),(11,aX),(12,V bo),(13,bp),(14,Pt aC 0),(16,Pt aE 0),(18,V bf)] ?_
 have ig:=fH.aY
 refine dF<|sk<|gp 3 ?_
 exact ⟨ei,a7 _,⟨_,cl,bo,cm,b5,b6,af (bf+1),aX,bA,bp,aC,aZ,aE,bg,av,(fx.mono (b7.trans (cp.trans (cq.trans ct)))),(fy.mono (b7.trans (cp.trans (cq.trans ct)))),(cn.mono (b7.trans (cp.trans (cq.trans ct)))),(dr.mono (b7.trans (cp.trans (cq.trans ct)))),(by kernel_rfl),ig⟩⟩
 refine lK (t:=77) rfl (Bool.eq_false_iff.2 er)<|ye 1 [(78, .bool true),(3,V J),(4,V U),(11,aX),(12,V bo),(13,bp),(14,Pt aC 0),(16,Pt aE 0),(18,V bf)] ?_
 have ij:=fH.aY
 refine dT<|sp 1<|rt<|bj<|bj<|bj<|bj<|⟨rfl,?_⟩
 obtain rfl:=si av
 obtain rfl:=si I
 obtain rfl:=si hm
 refine ⟨_,_,_,tk (.bool false) (ResL.nil),ij,?_⟩
 exact rfl
 refine xn 0<|dF<|xt 4<|aS ?_
 obtain rfl:=si av
 exact ⟨_,cl,bo,cm,b5,b6,aX,bA,bp,aC,aZ,aE,bg,rfl,fx,fy,cn,dr,(by kernel_rfl),ej⟩
 refine bk 2<|lp [3,4,11,12,13,14,16,17] (fun n l h=>∃ b8 cu ba cw b9 ca bb a2 bI aI aK bt aL bu,correctorlaw13_WalkAll_l1 F a0 a1 bJ J U n cu ba cw b9 ca bb=some dO∧RCs (α:=List UInt8) b8 bI cu∧RS (α:=al) b8 aI cw∧RS (α:=aq) b8 bt b9∧RS (α:=aq) b8 bu ca∧l=[(3,V J),(4,V U),(11,a2),(12,V ba),(13,aI),(14,Pt aK 0),(16,Pt aL 0),(17,V bb)]∧St hs [] Z (0,0) b8 h [.gs a2 bI (aa (List UInt8)), .ae aK [bt], .ae aL [bu]]) F ⟨_,cx,a5,eR.1,eR.2.1.an,gF.an,(-1),az,bB,cB,cd,bD,gI,cC,ad,(cy.mono (eU.trans dN)),(gA.mono dN),(dJ.mono dN),eW,(by kernel_rfl),((((gK.front 0 rfl).front 1 rfl).front 3 rfl).takeN 3)⟩ ?_
 rintro et l kG ⟨b8,cu,ba,cw,b9,ca,bb,a2,bI,aI,aK,bt,aL,bu,ad,ds,du,dv,dx,rfl,dz⟩
 rcases et with _ | et
 cases (show none=some dO from ad)
 rw [correctorlaw13_WalkAll_l1] at ad
 refine sq<|s0<|eV 3 0 ad dz ds rfl ?_
 intro kH ad
 obtain ⟨kI,ik,ad⟩:=ai ad
 obtain ⟨kJ,il,im,kK⟩:=dz.cv (j:=0) rfl ds (i:=ba) ik
 obtain ⟨fI,iq,rfl⟩:=v5 il
 refine eS 0 0 fI im<|bC 0 fI (RS.len iq)<|e4 0 ad ?_ ?_<;>intro kL ad
 refine xn 0<|dT<|sk<|sq<|bk 3<|cY zI dz ?_
 intro fJ kM fK eu
 refine yq 1 [(55,aI),(3,V J),(4,V U),(11,a2),(12,V ba),(13,aI),(14,Pt aK 0),(16,Pt aL 0),(17,V bb)] ?_
 have kN:aL<fJ:=fK.1 _ (au (i:=2) rfl) _ (by simp [Itm.ids])
 refine aW (v:= .agg #[bu]) rfl trivial rfl (by show aL<_;omega) (eC (cs:=[bu]) (.cons (RS.cM dx) .nil)) (eu.aV (i:=2) rfl (by kernel_rfl)) trivial<|yq 1 [(57,V bb),(56, .agg #[bu]),(55,aI),(3,V J),(4,V U),(11,a2),(12,V ba),(13,aI),(14,Pt aK 0),(16,Pt aL 0),(17,V bb)] ?_
 obtain ⟨fL,ir,ad⟩:=ai ad
 have fM:=eu.bZ
 obtain ⟨kO,kP,iu,fN,rfl⟩:=ql F (a1:=(⟨ca⟩:cD)) fM.inv du dx ir
 have iv:=St.call (A:=[]) (B:=[.gs a2 bI (aa (List UInt8)), .ae aK [bt], .ae aL [bu]]) fM fN
 refine df rfl trivial eu (cr iu rfl rfl rfl) iv (St.de fN) ?_
 intro kQ ew
 refine yq 1 [(59,aI),(58,V fL),(3,V J),(4,V U),(11,a2),(12,V ba),(13,aI),(14,Pt aK 0),(16,Pt aL 0),(17,V bb)] ?_
 have kR:aK<fJ:=fK.1 _ (au (i:=1) rfl) _ (by simp [Itm.ids])
 refine aW (v:= .agg #[bt]) rfl trivial rfl (by show aK<_;omega) (eC (cs:=[bt]) (.cons (RS.cM dv) .nil)) (ew.aV (i:=1) rfl (by kernel_rfl)) trivial<|yq 1 [(61,V bb),(60, .agg #[bt]),(59,aI),(58,V fL),(3,V J),(4,V U),(11,a2),(12,V ba),(13,aI),(14,Pt aK 0),(16,Pt aL 0),(17,V bb)] ?_
 obtain ⟨kS,iw,ad⟩:=ai ad
 have fO:=ew.bZ
 obtain ⟨kT,kU,ix,fP,rfl⟩:=vY F (a1:=(⟨b9⟩:bK)) fO.inv du dv iw
 have iy:=St.call (A:=[]) (B:=[.gs a2 bI (aa (List UInt8)), .ae aK [bt], .ae aL [bu]]) fO fP
 refine df rfl trivial ew (cr ix rfl rfl rfl) iy (St.de fP) ?_
 intro kV fQ
 rcases ifs ad with ⟨ez,ad⟩ | ⟨ez,ad⟩
 refine aF rfl trivial (bm rfl rfl (nz ez))<|yf [(63, .bool false),(3,V J),(4,V U),(11,a2),(12,V ba),(13,aI),(14,Pt aK 0),(16,Pt aL 0),(17,V bb)] ?_
 have iz:=fQ.aY
 refine dF<|sk<|gp 3 ?_
 exact ⟨et,a7 _,⟨_,cu,ba,cw,b9,ca,af (bb+1),a2,bI,aI,aK,bt,aL,bu,ad,ds,du,dv,dx,(by kernel_rfl),iz⟩⟩
 refine aF rfl trivial (bm rfl rfl (nu ez))<|yf [(63, .bool true),(3,V J),(4,V U),(11,a2),(12,V ba),(13,aI),(14,Pt aK 0),(16,Pt aL 0),(17,V bb)] ?_
 have iA:=fQ.aY
 refine dT<|sp 1<|rt<|bj<|bj<|bj<|bj<|⟨rfl,?_⟩
 obtain rfl:=si ad
 obtain rfl:=si I
 obtain rfl:=si hm
 refine ⟨_,_,_,tk (.bool false) (ResL.nil),iA,?_⟩
 exact rfl
 refine xn 0<|dF<|xt 2<|aS ?_
 obtain rfl:=si ad
 exact ⟨_,cu,ba,cw,b9,ca,a2,bI,aI,aK,bt,aL,bu,rfl,ds,du,dv,dx,(by kernel_rfl),dz⟩
 refine xn 0<|dF<|xt 0<|aS ?_
 obtain rfl:=si I
 exact ⟨_,rfl,(by kernel_rfl),(eI.takeN 0)⟩
 refine xn 1<|dT<|sp 1<|rt<|⟨rfl,?_⟩
 obtain rfl:=si hm
 refine ⟨_,_,_,tk (.bool false) (ResL.nil),dA,?_⟩
 exact rfl
end
section
open Go Am Sy
structure Small (l:List aq):Prop where
  n:l.length≤1000000
  k:∀ x∈l,x.Kids.length≤1000000
theorem z6 {α:Type} (l:List α) (i:Nat):l[((i:Int)).toNat]?=l[i]?:=by simp
theorem Ak (F:Nat) (t:bK) (hs:Small t.an):∀ (d n i:Nat),i+d=t.an.length→d<n→correctorref10_copied_l0 F t n (t.an.take i) (i:Int)=some t.an:=by
  have hn:=hs.n
  intro d
  induction d with
  | zero=>
    intro n i h1 h2
    obtain ⟨n,rfl⟩:∃ m,n=m+1:=⟨n - 1,by omega⟩
    rw [correctorref10_copied_l0,if_neg (by omega),List.take_of_length_le (by omega)]
  | succ d ih=>
    intro n i h1 h2
    obtain ⟨n,rfl⟩:∃ m,n=m+1:=⟨n - 1,by omega⟩
    have hi:i<t.an.length:=by omega
    have hk:=hs.k t.an[i] (List.getElem_mem hi)
    rw [correctorref10_copied_l0,if_pos (by omega),if_pos (by omega),z6,aX hi]
    simp only [ax]
    rw [if_pos (by rw [List.length_nil];omega),if_pos (by rw [List.length_take,cQ];omega)]
    have hw:af ((i:Int)+1)=((i+1:Nat):Int):=by rw [aZ (by omega) (by omega)];omega
    rw [hw,← ih n (i+1) (by omega) (by omega)]
    congr 1
    rw [List.take_succ_eq_append_getElem hi]
    rfl
theorem uS (F:Nat) (t:bK) (hs:Small t.an) (hF:t.an.length<F):lD F t=some t.an:=by
  unfold lD
  have:=Ak F t hs t.an.length F 0 (by omega) hF
  rw [show ((0:Nat):Int)=0 from rfl,List.take_zero] at this
  rw [this];rfl
def endOf (l:List aq) (up:Nat):Option Int:=(l[up]?).map fun x=>match x.Kids.getLast? with
  | none=>x.ah
  | some k=>if 0≤k then (match l[k.toNat]? with | some y=>imax x.ah y.To | none=>x.ah) else x.ah
def toMax (x:aq) (to:Int):aq:={x with To:=imax x.To to}
def growL:Nat→List aq→Int→Int→List aq
  | 0,l,_,_=>l
  | k+1,l,i,to=>if 0≤i then (match l[i.toNat]? with | some x=>growL k (l.set i.toNat (toMax x to)) x.Up to | none=>l) else l
theorem El (F:Nat) (a0:List aq) (a1 to:Int):∀ (k n:Nat) (l:List aq) (i:Int),(∀ (j:Nat) x,l[j]?=some x→x.Up<(j:Int))→i<k→i<l.length→k<n→ky F a0 a1 to n l i=some (growL k l i to):=by
  intro k
  induction k with
  | zero=>
    intro n l i _ h1 _ h2
    obtain ⟨n,rfl⟩:∃ m,n=m+1:=⟨n - 1,by omega⟩
    rw [ky,if_neg (by omega)];rfl
  | succ k ih=>
    intro n l i hu h1 I h2
    obtain ⟨n,rfl⟩:∃ m,n=m+1:=⟨n - 1,by omega⟩
    rw [ky,growL]
    by_cases h0:0≤i
    · have hl:i.toNat<l.length:=by omega
      have hg:l[i.toNat]?=some l[i.toNat]:=aX hl
      have CE:=hu i.toNat _ hg
      rw [if_pos h0,if_pos h0,if_pos ⟨h0,I⟩,hg]
      simp only [ax]
      rw [if_pos ⟨h0,I⟩,if_pos (by rw [List.length_set];exact ⟨h0,I⟩),List.getElem?_set_self hl]
      simp only [ax]
      refine ih n _ _ (fun j x hx=>?_) (by omega) (by rw [List.length_set];omega) (by omega)
      by_cases e:j=i.toNat
      · subst e
        rw [List.getElem?_set_self hl] at hx
        simp only [Option.some.injEq] at hx
        subst hx;exact CE
      · rw [List.getElem?_set_ne (Ne.symm e)] at hx;exact hu j x hx
    · rw [if_neg h0,if_neg h0]
theorem vh (F:Nat) (l:List aq) (i to:Int) (hu:∀ (j:Nat) x,l[j]?=some x→x.Up<(j:Int)) (hi:i<l.length) (hF:l.length<F):ml F l i to=some (growL l.length l i to):=by
  unfold ml
  rw [El F l i to l.length F l i hu hi hi hF];rfl
theorem qs:∀ (k:Nat) (l:List aq) (i to:Int),(growL k l i to).length=l.length:=by
  intro k
  induction k with
  | zero=>intro l i to;rfl
  | succ k ih=>
    intro l i to
    simp only [growL]
    split
    · split
      · rw [ih,List.length_set]
      · rfl
    · rfl
theorem zH (F:Nat) (n:Int) (h0:0≤n) (h1:n≤32768):nf F n=some ⟨[⟨1,0,n, -1,[],false⟩]⟩:=by
  unfold nf
  rw [if_neg (by omega),if_neg (by omega)];rfl
def od (l:List aq) (up kind aN to:Int):List aq:=
  match l[up.toNat]? with
  | some x=>growL (l.length+1) ((l++[(⟨kind,aN,to,up,[],false⟩:aq)]).set up.toNat {x with Kids:=x.Kids++[(l.length:Int)]}) up to
  | none=>l
theorem xN (F:Nat) (t:bK) (up:Nat) (kind aN to:Int) (hs:Small t.an) (hn:t.an.length<1000000) (hF:t.an.length+1<F) (po:∀ (j:Nat) x,t.an[j]?=some x→x.Up<(j:Int)) (hu:up<t.an.length) (hk:1≤kind∧kind≤11) (fG:aN≤to)
    (h0:∀ x,t.an[0]?=some x→to≤x.To) (q7:∀ x,t.an[up]?=some x→∀ c,x.Kids.getLast?=some c→0≤c∧c<t.an.length) (he:∀ e,endOf t.an up=some e→e≤aN):
    correctorref10_Add F t (up:Int) kind aN to=some (⟨od t.an (up:Int) kind aN to⟩,(t.an.length:Int)):=by
  have hl:0<t.an.length:=by omega
  have U:t.an[0]?=some t.an[0]:=aX hl
  have hx:t.an[up]?=some t.an[up]:=aX hu
  have ad:=h0 _ U
  have uj:=q7 _ hx
  unfold endOf at he
  rw [hx] at he
  simp only [Option.map_some,Option.some.injEq,forall_eq'] at he
  have jq:=hs.k _ (List.getElem_mem hu)
  unfold correctorref10_Add
  have hz:((0:Int)).toNat=0:=rfl
  rw [if_neg (by omega),if_neg (by omega),if_neg (by omega),if_neg (by omega),if_neg (by omega),if_pos (by omega),hz,U]
  simp only [ax]
  rw [if_neg (by omega),if_pos (by omega),b2,hx]
  simp only [ax]
  unfold od
  rw [b2,hx]
  simp only
  generalize gz:t.an[up]=x at *
  have kK:x.ah≤aN:=by
    cases hc:x.Kids.getLast? with
    | none=>rw [hc] at he;exact he
    | some c=>
      rw [hc] at he
      simp only at he
      obtain ⟨I,aa⟩:=uj c hc
      rw [if_pos I,aX (by omega)] at he
      simp only [imax] at he
      split at he<;>omega
  rw [if_neg (by omega)]
  have step:(if (0:Int)<(x.Kids.length:Int) then
            if 0≤(af ((x.Kids.length:Int) - 1))∧(af ((x.Kids.length:Int) - 1))<(x.Kids.length:Int) then
             (x.Kids[(af ((x.Kids.length:Int) - 1)).toNat]?).bind fun J=>
             if 0≤J∧J<(t.an.length:Int) then
              (t.an[J.toNat]?).bind fun ab=>
              if aN<ab.To then
               some (.inr (t,(-1)))
              else
               some (.inl ())
             else none
            else none
           else
            some (.inl ()):Option (Sum Unit (bK×Int)))=some (.inl ()):=by
    by_cases h1:(0:Int)<x.Kids.length
    · have hw:af ((x.Kids.length:Int) - 1)=((x.Kids.length - 1:Nat):Int):=by rw [aZ (by omega) (by omega)];omega
      have nD:x.Kids.length - 1<x.Kids.length:=by omega
      have ur:x.Kids.getLast?=some x.Kids[x.Kids.length - 1]:=by rw [List.getLast?_eq_getElem?,aX nD]
      obtain ⟨I,aa⟩:=uj _ ur
      rw [ur] at he
      simp only at he
      rw [if_pos I,aX (by omega)] at he
      simp only [imax] at he
      rw [if_pos h1,hw,if_pos (by omega),b2,aX nD]
      simp only [ax]
      rw [if_pos ⟨I,aa⟩,aX (by omega)]
      simp only [ax]
      rw [if_neg (by split at he<;>omega)]
    · rw [if_neg h1]
  rw [step]
  simp only [ax]
  rw [uS F t hs (by omega)]
  simp only [ax]
  have hlen:(t.an++[(⟨kind,aN,to,(up:Int),[],false⟩:aq)]).length=t.an.length+1:=by simp
  have w4:(t.an++[(⟨kind,aN,to,(up:Int),[],false⟩:aq)])[up]?=some x:=by
    rw [List.getElem?_append_left hu,hx]
  rw [if_pos (by rw [cQ];omega),if_pos (by rw [hlen];omega),w4]
  simp only [ax]
  rw [if_pos (by rw [cQ];omega),if_pos (by rw [hlen];omega)]
  have q3:((t.an++[(⟨kind,aN,to,(up:Int),[],false⟩:aq)]).set up ⟨x.Kind,x.ah,x.To,x.Up,x.Kids++[(t.an.length:Int)],x.Key⟩).length=t.an.length+1:=by rw [List.length_set,hlen]
  rw [vh F _ _ _ (fun j y hy=>?_) (by rw [q3];omega) (by rw [q3];omega),q3]
  · rfl
  · by_cases e:j=up
    · subst e
      rw [List.getElem?_set_self (by rw [hlen];omega)] at hy
      simp only [Option.some.injEq] at hy
      subst hy;exact po j x hx
    · rw [List.getElem?_set_ne (Ne.symm e),List.getElem?_append] at hy
      split at hy
      · exact po j y hy
      · rcases Nat.eq_zero_or_pos (j - t.an.length) with q | q
        · rw [q] at hy;simp at hy;subst hy
          show (up:Int)<j
          omega
        · rw [List.getElem?_eq_none (by simp;omega)] at hy;cases hy
theorem xQ (F:Nat) (t:bK) (i:Nat) (to:Int) (hs:Small t.an) (hF:t.an.length<F) (po:∀ (j:Nat) x,t.an[j]?=some x→x.Up<(j:Int)) (hi:i<t.an.length) (h0:∀ x,t.an[0]?=some x→to≤x.To):iI F t (i:Int) to=some ⟨growL t.an.length t.an (i:Int) to⟩:=by
  have hl:0<t.an.length:=by omega
  have I:t.an[0]?=some t.an[0]:=aX hl
  have J:=h0 _ I
  have hz:((0:Int)).toNat=0:=rfl
  unfold iI
  rw [if_neg (by omega),if_neg (by omega),if_pos (by omega),hz,I]
  simp only [ax]
  rw [if_neg (by omega),uS F t hs hF]
  simp only [ax]
  rw [vh F _ _ _ po (by omega) hF]
  rfl
end
section
open Go Am Sy
theorem jD (a b:Int):imax a b=max a b:=by
 unfold imax;split<;>omega
def LP (l:List aq) (i To:Int):Int→List Int→Prop
 | _,[]=>True
 | e,k::ks=>∃ y,i<k∧0≤k∧k<l.length∧l[k.toNat]?=some y∧y.Up=i∧e≤y.ah∧y.To≤To∧LP l i To y.To ks
def eD (xs:List aq):Nat:=(xs.map fun x=>x.Kids.length).sum
structure G (N:List aq) (n:Int):Prop where
 root:∃ x,N[0]?=some x∧x.Kind=1∧x.ah=0∧x.To=n∧x.Up= -1
 ups:∀ (i:Nat) x,N[i]?=some x→i=0∨(0≤x.Up∧x.Up<(i:Int))
 cU:∀ (i:Nat) x,N[i]?=some x→LP N i x.To x.ah x.Kids∧x.ah≤x.To
 nd:∀ x∈N,x.Kids.Nodup
 sum:eD N+1=N.length
theorem G.new (n:Int) (h0:0≤n):G [⟨1,0,n, -1,[],false⟩] n where
 root:=⟨_,rfl,rfl,rfl,rfl,rfl⟩
 ups i x hx:=by
  cases i with
  | zero=>exact .inl rfl
  | succ i=>simp at hx
 cU i x hx:=by
  cases i with
  | zero=>simp at hx;subst hx;exact ⟨trivial,h0⟩
  | succ i=>simp at hx
 nd x hx:=by simp at hx;subst hx;exact List.nodup_nil
 sum:=by simp [eD]
theorem gf {N:List aq} {i:Nat} {x:aq} (h:N[i]?=some x):i<N.length:=by
 rcases Nat.lt_or_ge i N.length with q | q
 ·exact q
 ·rw [List.getElem?_eq_none q] at h;cases h
theorem LP.mem {l:List aq} {i To:Int}:∀ {ks:List Int} {e:Int},LP l i To e ks→∀ k∈ks,∃ y,i<k∧k<l.length∧l[k.toNat]?=some y∧y.Up=i∧y.To≤To:=by
 intro ks
 induction ks with
 | nil=>intro e _ k hk;cases hk
 | cons j ks ih=>
  rintro e ⟨y,h1,h2,I,J,U,ad,aa,ab⟩ k hk
  rcases List.mem_cons.1 hk with rfl | hk
  ·exact ⟨y,h1,I,J,U,aa⟩
  ·exact ih ab k hk
theorem LP.of {l l':List aq} {i To mC:Int} (hT:To≤mC):∀ {ks:List Int} {e:Int},LP l i To e ks→(∀ k∈ks,∀ y,l[k.toNat]?=some y→k<l'.length∧∃ y',l'[k.toNat]?=some y'∧y'.Up=y.Up∧y'.ah=y.ah∧y'.To=y.To)→LP l' i mC e ks:=by
 intro ks
 induction ks with
 | nil=>intro e _ _;trivial
 | cons k ks ih=>
  rintro e ⟨y,h1,h2,ai,I,J,U,aj,aa⟩ h
  obtain ⟨ab,y',ad,ae,af,ag⟩:=h k List.mem_cons_self y I
  exact ⟨y',h1,h2,ab,ad,by rw [ae];exact J,by rw [af];exact U,by omega,by rw [ag];exact ih aa (fun j hj=>h j (List.mem_cons_of_mem _ hj))⟩
theorem LP.last {l l':List aq} {i To mC:Int} (hT:To≤mC) {c:Int}:∀ {ks:List Int} {e:Int},LP l i To e ks→ks.getLast?=some c→ks.Nodup→(∀ k∈ks,k≠c→∀ y,l[k.toNat]?=some y→k<l'.length∧∃ y',l'[k.toNat]?=some y'∧y'.Up=y.Up∧y'.ah=y.ah∧y'.To=y.To)→
  (∀ y,l[c.toNat]?=some y→c<l'.length∧∃ y',l'[c.toNat]?=some y'∧y'.Up=y.Up∧y'.ah=y.ah∧y'.To≤mC)→LP l' i mC e ks:=by
 intro ks
 induction ks with
 | nil=>intro e _ h;simp at h
 | cons k ks ih=>
  rintro e ⟨y,h1,h2,ak,ad,ae,af,an,ag⟩ hl hn h hc
  obtain ⟨ai,aj⟩:=List.nodup_cons.1 hn
  cases ks with
  | nil=>
   simp only [List.getLast?_singleton,Option.some.injEq] at hl
   subst hl
   obtain ⟨I,y',J,U,aa,ab⟩:=hc y ad
   exact ⟨y',h1,h2,I,J,by rw [U];exact ae,by rw [aa];exact af,ab,trivial⟩
  | cons j ks=>
   rw [List.getLast?_cons_cons] at hl
   have cp:k≠c:=fun e=>ai (by rw [e];exact List.mem_of_getLast? hl)
   obtain ⟨I,y',J,U,aa,ab⟩:=h k List.mem_cons_self cp y ad
   exact ⟨y',h1,h2,I,J,by rw [U];exact ae,by rw [aa];exact af,by omega,by rw [ab];exact ih ag hl aj (fun m hm=>h m (List.mem_cons_of_mem _ hm)) hc⟩
theorem LP.snoc {l:List aq} {i To:Int} {k:Int} {z:aq} (h1:i<k) (h2:0≤k) (J:k<l.length) (hz:l[k.toNat]?=some z) (hu:z.Up=i) (ht:z.To≤To):∀ {ks:List Int} {e:Int},LP l i To e ks→(ks=[]→e≤z.ah)→(∀ c,ks.getLast?=some c→∀ y,l[c.toNat]?=some y→y.To≤z.ah)→LP l i To e (ks++[k]):=by
 intro ks
 induction ks with
 | nil=>intro e _ h _;exact ⟨z,h1,h2,J,hz,hu,h rfl,ht,trivial⟩
 | cons j ks ih=>
  rintro e ⟨y,U,aa,ab,I,ad,ae,af,ag⟩ _ hl
  refine ⟨y,U,aa,ab,I,ad,ae,af,ih ag (fun e=>?_) (fun c hc=>?_)⟩
  ·subst e;exact hl j rfl y I
  ·cases ks with
   | nil=>simp at hc
   | cons m ks=>exact hl c (by rw [List.getLast?_cons_cons];exact hc)
inductive Sp (N:List aq):Nat→Prop where
 | root:Sp N 0
 | g9 {u k:Nat} {x:aq} (h:Sp N u) (hx:N[u]?=some x) (hk:x.Kids.getLast?=some (k:Int)):Sp N k
structure Gx (N:List aq) (n:Int) (i:Int) (to:Int):Prop where
 root:∃ x,N[0]?=some x∧x.Kind=1∧x.ah=0∧x.To=n∧x.Up= -1
 ups:∀ (j:Nat) x,N[j]?=some x→j=0∨(0≤x.Up∧x.Up<(j:Int))
 cU:∀ (j:Nat) x,N[j]?=some x→LP N j (if (j:Int)=i then max x.To to else x.To) x.ah x.Kids∧x.ah≤x.To
 nd:∀ x∈N,x.Kids.Nodup
 sum:eD N+1=N.length
theorem wP:∀ {a b:List aq},a.map (·.Kids)=b.map (·.Kids)→eD a=eD b:=by
 intro a b h
 have:∀ c:List aq,eD c=((c.map (·.Kids)).map List.length).sum:=fun c=>by simp [eD,Function.comp_def]
 rw [this,this,h]
theorem p1 {N:List aq} {i:Nat} {x y:aq} (hx:N[i]?=some x) (hk:y.Kids=x.Kids):(N.set i y).map (·.Kids)=N.map (·.Kids):=by
 rw [List.map_set,hk]
 have hi:=gf hx
 have e7:i<(N.map (·.Kids)).length:=by simpa using hi
 have:(N.map (·.Kids))[i]=x.Kids:=by
  rw [List.getElem_map]
  have:=aX hi
  rw [hx] at this
  rw [← Option.some.inj this]
 rw [← this];exact List.set_getElem_self e7
theorem Sp.kids {N N':List aq} (h:N'.map (·.Kids)=N.map (·.Kids)) {u:Nat} (hs:Sp N u):Sp N' u:=by
 induction hs with
 | root=>exact .root
 | g9 h1 hx hk ih=>
  rename_i u k x
  have:(N'.map (·.Kids))[u]?=some x.Kids:=by rw [h,List.getElem?_map,hx];rfl
  rw [List.getElem?_map] at this
  obtain ⟨y,hy,e⟩:=Option.map_eq_some_iff.1 this
  exact .g9 ih hy (by rw [e];exact hk)
theorem G.gx {N:List aq} {n:Int} (h:G N n) (i to:Int):Gx N n i to where
 root:=h.root
 ups:=h.ups
 cU j x hx:=⟨(h.cU j x hx).1.of (by split<;>omega) (fun k hk y hy=>⟨by obtain ⟨_,_,q,_⟩:=(h.cU j x hx).1.mem k hk;exact q,y,hy,rfl,rfl,rfl⟩),(h.cU j x hx).2⟩
 nd:=h.nd
 sum:=h.sum
theorem Gx.none {N:List aq} {n i to:Int} (h:Gx N n i to) (hi:i<0):G N n where
 root:=h.root
 ups:=h.ups
 cU j x hx:=by have:=h.cU j x hx;rw [if_neg (by omega)] at this;exact this
 nd:=h.nd
 sum:=h.sum
theorem Gx.step {N:List aq} {n to:Int} {i:Nat} (h:Gx N n i to) (hs:Sp N i) {x:aq} (hx:N[i]?=some x) (ht:i=0→to≤n):Gx (N.set i (toMax x to)) n x.Up to∧(0≤x.Up→Sp N x.Up.toNat):=by
 have hi:=gf hx
 have fh:∀ (k:Nat) (y:aq),N[k]?=some y→∃ y',(N.set i (toMax x to))[k]?=some y'∧y'.Up=y.Up∧y'.ah=y.ah∧y'.Kids=y.Kids∧y'.Kind=y.Kind∧(k≠i→y'.To=y.To):=by
  intro k y hy
  by_cases e:k=i
  ·subst e
   rw [hx] at hy;simp only [Option.some.injEq] at hy;subst hy
   exact ⟨_,List.getElem?_set_self hi,rfl,rfl,rfl,rfl,fun q=>absurd rfl q⟩
  ·exact ⟨y,by rw [List.getElem?_set_ne (Ne.symm e)];exact hy,rfl,rfl,rfl,rfl,fun _=>rfl⟩
 have ke:(N.set i (toMax x to))[i]?=some (toMax x to):=List.getElem?_set_self hi
 have k8:=h.ups i x hx
 have vO:0≤x.Up→Sp N x.Up.toNat∧∃ p,N[x.Up.toNat]?=some p∧p.Kids.getLast?=some (i:Int):=by
  intro h0
  cases hs with
  | root=>
   obtain ⟨r,r1,_,_,_,ad⟩:=h.root
   rw [hx] at r1;simp only [Option.some.injEq] at r1;subst r1;omega
  | g9 h1 hp hk=>
   rename_i u p
   obtain ⟨y,_,_,I,ae,_⟩:=(h.cU u p hp).1.mem i (List.mem_of_getLast? hk)
   rw [b2,hx] at I
   simp only [Option.some.injEq] at I
   subst I
   rw [ae,b2]
   exact ⟨h1,p,hp,hk⟩
 refine ⟨⟨?_,fun j y hy=>?_,fun j y hy=>?_,fun y hy=>?_,?_⟩,fun h0=>(vO h0).1⟩
 ·obtain ⟨r,r1,ad,ai,ak,aj⟩:=h.root
  by_cases e:i=0
  ·subst e
   rw [hx] at r1;simp only [Option.some.injEq] at r1;subst r1
   refine ⟨_,ke,ad,ai,?_,aj⟩
   have:=ht rfl
   simp only [toMax,jD];omega
  ·exact ⟨r,by rw [List.getElem?_set_ne e];exact r1,ad,ai,ak,aj⟩
 ·by_cases e:j=i
  ·subst e
   rw [ke] at hy;simp only [Option.some.injEq] at hy;subst hy
   exact h.ups j x hx
  ·rw [List.getElem?_set_ne (Ne.symm e)] at hy;exact h.ups j y hy
 ·have hlen:((N.set i (toMax x to)).length:Int)=N.length:=by rw [List.length_set]
  by_cases e:j=i
  ·subst e
   rw [ke] at hy;simp only [Option.some.injEq] at hy;subst hy
   have h1:=h.cU j x hx
   rw [if_pos rfl] at h1
   refine ⟨?_,by have:=h1.2;simp only [toMax,jD];omega⟩
   have cp:(j:Int)≠x.Up:=by
    rcases k8 with q | q
    ·obtain ⟨r,r1,_,_,_,ad⟩:=h.root
     rw [q] at hx;rw [hx] at r1;simp only [Option.some.injEq] at r1;subst r1;omega
    ·omega
   rw [if_neg cp]
   have ht:(toMax x to).To=max x.To to:=by simp only [toMax,jD]
   rw [ht]
   refine h1.1.of (Int.le_refl _) (fun k hk y hy=>?_)
   obtain ⟨z,af,ag,_⟩:=h1.1.mem k hk
   obtain ⟨y',J,U,aa,_,_,ab⟩:=fh k.toNat y hy
   exact ⟨by omega,y',J,U,aa,ab (by omega)⟩
  ·rw [List.getElem?_set_ne (Ne.symm e)] at hy
   have h1:=h.cU j y hy
   rw [if_neg (by omega)] at h1
   refine ⟨?_,h1.2⟩
   by_cases ej:(j:Int)=x.Up
   ·rw [if_pos ej]
    obtain ⟨_,p,hp,hk⟩:=vO (by omega)
    rw [← ej,b2,hy] at hp
    simp only [Option.some.injEq] at hp
    subst hp
    refine h1.1.last (by omega) hk (h.nd y (au hy)) (fun k an cp z hz=>?_) (fun z hz=>?_)
    ·obtain ⟨w,af,ag,_⟩:=h1.1.mem k an
     obtain ⟨y',J,U,aa,_,_,ab⟩:=fh k.toNat z hz
     exact ⟨by omega,y',J,U,aa,ab (by omega)⟩
    ·obtain ⟨w,af,ag,I,ae,ar⟩:=h1.1.mem (i:Int) (List.mem_of_getLast? hk)
     rw [b2,hx] at hz I
     simp only [Option.some.injEq] at hz I
     subst hz;subst I
     refine ⟨by omega,toMax x to,by rw [b2];exact ke,rfl,rfl,?_⟩
     simp only [toMax,jD];omega
   ·rw [if_neg ej]
    refine h1.1.of (Int.le_refl _) (fun k hk z hz=>?_)
    obtain ⟨w,af,ag,I,ae,_⟩:=h1.1.mem k hk
    obtain ⟨y',J,U,aa,_,_,ab⟩:=fh k.toNat z hz
    refine ⟨by omega,y',J,U,aa,ab (fun ao=>?_)⟩
    rw [ao,hx] at I;simp only [Option.some.injEq] at I
    subst I;exact ej ae.symm
 ·obtain ⟨j,hj⟩:=List.getElem?_of_mem hy
  by_cases e:j=i
  ·subst e
   rw [ke] at hj;simp only [Option.some.injEq] at hj;subst hj
   exact h.nd x (au hx)
  ·rw [List.getElem?_set_ne (Ne.symm e)] at hj;exact h.nd y (au hj)
 ·rw [List.length_set,wP (p1 (y:=toMax x to) hx rfl)];exact h.sum
theorem Gx.grow {n to:Int} (ht:to≤n):∀ (k:Nat) (N:List aq) (i:Int),Gx N n i to→i<k→i<N.length→(0≤i→Sp N i.toNat)→G (growL k N i to) n:=by
 intro k
 induction k with
 | zero=>intro N i h h1 _ _;exact h.none (by omega)
 | succ k ih=>
  intro N i h h1 h2 hs
  simp only [growL]
  by_cases h0:0≤i
  ·rw [if_pos h0]
   have dJ:i.toNat<N.length:=by omega
   have hx:N[i.toNat]?=some N[i.toNat]:=aX dJ
   rw [hx]
   simp only
   generalize N[i.toNat]=x at *
   have e:((i.toNat:Nat):Int)=i:=by omega
   obtain ⟨j,I⟩:=Gx.step (i:=i.toNat) (by rw [e];exact h) (hs h0) hx (fun _=>ht)
   have k8:=h.ups i.toNat x hx
   have qR:i.toNat=0→x.Up= -1:=fun z=>by
    obtain ⟨r,r1,_,_,_,J⟩:=h.root
    rw [z] at hx;rw [hx] at r1;simp only [Option.some.injEq] at r1;subst r1;exact J
   have bD:x.Up<i:=by
    rcases k8 with q | q
    ·have:=qR q;omega
    ·omega
   exact ih _ _ j (by omega) (by rw [List.length_set];omega) (fun z=>(I z).kids (p1 (y:=toMax x to) hx rfl))
  ·rw [if_neg h0];exact h.none (by omega)
theorem tK:∀ (k:Nat) (N:List aq) (i to:Int),(growL k N i to).map (·.Kids)=N.map (·.Kids):=by
 intro k
 induction k with
 | zero=>intro N i to;rfl
 | succ k ih=>
  intro N i to
  simp only [growL]
  split
  ·split
   ·rename_i x hx
    rw [ih,p1 (y:=toMax x to) hx rfl]
   ·rfl
  ·rfl
def Below (N:List aq) (p:Int):Prop:=∀ (i:Nat) x,N[i]?=some x→0<i→x.To≤p
theorem vi:∀ (k:Nat) (N:List aq) (i to p:Int),Below N p→to≤p→Below (growL k N i to) p:=by
 intro k
 induction k with
 | zero=>intro N i to p h _;exact h
 | succ k ih=>
  intro N i to p h ht
  simp only [growL]
  split
  ·split
   ·rename_i x hx
    refine ih _ _ _ _ (fun j y hy hj=>?_) ht
    by_cases e:j=i.toNat
    ·rw [e,List.getElem?_set_self (gf hx)] at hy
     simp only [Option.some.injEq] at hy
     subst hy
     have:=h j x (by rw [e];exact hx) hj
     simp only [toMax,jD];omega
    ·rw [List.getElem?_set_ne (Ne.symm e)] at hy;exact h j y hy hj
   ·exact h
  ·exact h
theorem Gu:∀ (k:Nat) (N:List aq) (i to:Int) (j:Nat) (x':aq),(growL k N i to)[j]?=some x'→∃ x,N[j]?=some x∧x'.Kind=x.Kind∧x'.ah=x.ah:=by
 intro k
 induction k with
 | zero=>intro N i to j x' h;exact ⟨x',h,rfl,rfl⟩
 | succ k ih=>
  intro N i to j x' h
  simp only [growL] at h
  split at h
  ·split at h
   ·rename_i x hx
    obtain ⟨y,I,J,U⟩:=ih _ _ _ _ _ h
    by_cases e:j=i.toNat
    ·rw [e,List.getElem?_set_self (gf hx)] at I
     simp only [Option.some.injEq] at I
     subst I
     exact ⟨x,by rw [e];exact hx,J,U⟩
    ·rw [List.getElem?_set_ne (Ne.symm e)] at I;exact ⟨y,I,J,U⟩
   ·exact ⟨x',h,rfl,rfl⟩
  ·exact ⟨x',h,rfl,rfl⟩
end
section
open Go Am Sy
theorem yH (a b:List aq):eD (a++b)=eD a+eD b:=by simp [eD]
theorem oW {N:List aq} {x:aq} (h:x∈N):x.Kids.length≤eD N:=by
 induction N with
 | nil=>cases h
 | cons y N ih=>
  have:eD (y::N)=y.Kids.length+eD N:=by simp [eD]
  rcases List.mem_cons.1 h with rfl | h
  ·omega
  ·have:=ih h;omega
theorem AJ:∀ {N:List aq} {i:Nat} {x y:aq},N[i]?=some x→eD (N.set i y)+x.Kids.length=eD N+y.Kids.length:=by
 intro N
 induction N with
 | nil=>intro i x y h;simp at h
 | cons z N ih=>
  intro i x y h
  have e:∀ (a:aq) (b:List aq),eD (a::b)=a.Kids.length+eD b:=fun a b=>by simp [eD]
  cases i with
  | zero=>simp at h;subst h;rw [List.set_cons_zero,e,e];omega
  | succ i=>
   simp only [List.getElem?_cons_succ] at h
   have:=ih (y:=y) h
   rw [List.set_cons_succ,e,e];omega
theorem G.small {N:List aq} {n:Int} (h:G N n) (hl:N.length≤1000000):Small N:=⟨hl,fun x hx=>by have:=oW hx;have:=h.sum;omega⟩
theorem G.pos {N:List aq} {n:Int} (h:G N n):0<N.length:=by have:=h.sum;omega
theorem G.uA {N:List aq} {n:Int} (h:G N n):∃ x,N[0]?=some x∧x.To=n:=by
 obtain ⟨x,h1,_,_,h2,_⟩:=h.root;exact ⟨x,h1,h2⟩
theorem G.same {N N':List aq} {n:Int} (h:G N n) (hl:N'.length=N.length) (hs:∀ (i:Nat) x',N'[i]?=some x'→∃ x,N[i]?=some x∧x'.Kind=x.Kind∧x'.ah=x.ah∧x'.To=x.To∧x'.Up=x.Up∧x'.Kids=x.Kids):G N' n:=by
 have fq:∀ (i:Nat) x,N[i]?=some x→∃ x',N'[i]?=some x'∧x'.Kind=x.Kind∧x'.ah=x.ah∧x'.To=x.To∧x'.Up=x.Up∧x'.Kids=x.Kids:=fun i x hx=>by
  have hi:=gf hx
  have h1:N'[i]?=some N'[i]:=aX (by omega)
  obtain ⟨y,j,I⟩:=hs i _ h1
  rw [hx] at j;simp only [Option.some.injEq] at j;subst j
  exact ⟨_,h1,I⟩
 have hk:N'.map (·.Kids)=N.map (·.Kids):=by
  apply List.ext_getElem?
  intro i
  rw [List.getElem?_map,List.getElem?_map]
  rcases Nat.lt_or_ge i N.length with q | q
  ·obtain ⟨x',j,_,_,_,_,I⟩:=fq i _ (aX q)
   rw [j,aX q];simp [I]
  ·rw [List.getElem?_eq_none q,List.getElem?_eq_none (by omega)]
 refine ⟨?_,fun i x' hx=>?_,fun i x' hx=>?_,fun x' hx=>?_,by rw [hl,wP hk];exact h.sum⟩
 ·obtain ⟨x,h1,h2,ad,ae,af⟩:=h.root
  obtain ⟨x',j,I,J,U,aa,_⟩:=fq 0 x h1
  exact ⟨x',j,I.trans h2,J.trans ad,U.trans ae,aa.trans af⟩
 ·obtain ⟨x,j,_,_,_,aa,_⟩:=hs i x' hx
  rw [aa];exact h.ups i x j
 ·obtain ⟨x,j,_,J,U,_,ab⟩:=hs i x' hx
  rw [J,U,ab]
  have h1:=h.cU i x j
  exact ⟨h1.1.of (Int.le_refl _) (fun k hk y hy=>by
   obtain ⟨z,_,an,_⟩:=h1.1.mem k hk
   obtain ⟨y',ag,_,ai,aj,ak,_⟩:=fq _ y hy
   exact ⟨by omega,y',ag,ak,ai,aj⟩),h1.2⟩
 ·obtain ⟨i,hi⟩:=List.getElem?_of_mem hx
  obtain ⟨x,j,_,_,_,_,ab⟩:=hs i x' hi
  rw [ab];exact h.nd x (au j)
structure v8 (N N':List aq) (n:Int) (up:Nat) (kind aN to:Int):Prop where
 g:G N' n
 len:N'.length=N.length+1
 wg:∀ p,Below N p→to≤p→Below N' p
 new:Sp N' N.length
 c4:∀ v,v≤up→Sp N v→Sp N' v
 fresh:∃ z,N'[N.length]?=some z∧z.ah=aN∧z.Kids=[]
theorem added {N:List aq} {n:Int} (h:G N n) {up:Nat} (hu:up<N.length) (hs:Sp N up) {kind aN to:Int} (fG:aN≤to) (ht:to≤n) (he:∀ e,endOf N up=some e→e≤aN):v8 N (od N up kind aN to) n up kind aN to:=by
 have hx:N[up]?=some N[up]:=aX hu
 unfold od
 rw [b2,hx]
 simp only
 unfold endOf at he
 rw [hx] at he
 simp only [Option.map_some,Option.some.injEq,forall_eq'] at he
 generalize N[up]=x at *
 have oZ:=au hx
 have gG:(N++[(⟨kind,aN,to,(up:Int),[],false⟩:aq)]).set up {x with Kids:=x.Kids++[(N.length:Int)]}=N.set up {x with Kids:=x.Kids++[(N.length:Int)]}++[(⟨kind,aN,to,(up:Int),[],false⟩:aq)]:=List.set_append_left _ _ hu
 generalize aw:(N++[(⟨kind,aN,to,(up:Int),[],false⟩:aq)]).set up {x with Kids:=x.Kids++[(N.length:Int)]}=I at *
 have hlen:I.length=N.length+1:=by rw [gG];simp
 have fh:∀ (k:Nat) y,N[k]?=some y→∃ y',I[k]?=some y'∧y'.Kind=y.Kind∧y'.ah=y.ah∧y'.To=y.To∧y'.Up=y.Up∧(k≠up→y'=y):=by
  intro k y hy
  have hk:=gf hy
  rw [gG,List.getElem?_append_left (by rw [List.length_set];exact hk)]
  by_cases e:k=up
  ·subst e
   rw [hx] at hy;simp only [Option.some.injEq] at hy;subst hy
   exact ⟨_,List.getElem?_set_self hk,rfl,rfl,rfl,rfl,fun q=>absurd rfl q⟩
  ·exact ⟨y,by rw [List.getElem?_set_ne (Ne.symm e)];exact hy,rfl,rfl,rfl,rfl,fun _=>rfl⟩
 have uD:I[up]?=some {x with Kids:=x.Kids++[(N.length:Int)]}:=by
  rw [gG,List.getElem?_append_left (by rw [List.length_set];exact hu),List.getElem?_set_self hu]
 have iV:I[N.length]?=some ⟨kind,aN,to,(up:Int),[],false⟩:=by
  rw [gG,List.getElem?_append_right (by rw [List.length_set];exact Nat.le_refl _)];simp
 have gT:∀ (k:Nat) y',I[k]?=some y'→(k=N.length∧y'=⟨kind,aN,to,(up:Int),[],false⟩)∨(k=up∧y'={x with Kids:=x.Kids++[(N.length:Int)]})∨(k≠up∧N[k]?=some y'):=by
  intro k y' hy
  have hk:=gf hy
  by_cases e:k=N.length
  ·subst e;rw [iV] at hy;exact .inl ⟨rfl,(Option.some.inj hy).symm⟩
  ·by_cases ad:k=up
   ·subst ad;rw [uD] at hy;exact .inr (.inl ⟨rfl,(Option.some.inj hy).symm⟩)
   ·have h2:N[k]?=some N[k]:=aX (by omega)
    obtain ⟨z,J,_,_,_,_,aa⟩:=fh k _ h2
    rw [hy] at J;simp only [Option.some.injEq] at J
    rw [J,aa ad];exact .inr (.inr ⟨ad,h2⟩)
 have tA:∀ (j:Nat) y,N[j]?=some y→∀ T,y.To≤T→LP I j T y.ah y.Kids:=fun j y hy T hT=>
  (h.cU j y hy).1.of hT (fun k hk z hz=>by
   obtain ⟨w,_,aa,_⟩:=(h.cU j y hy).1.mem k hk
   obtain ⟨z',U,_,af,ae,ag,_⟩:=fh _ z hz
   exact ⟨by omega,z',U,ag,af,ae⟩)
 have xY:Gx I n up to:=by
  refine ⟨?_,fun j y hy=>?_,fun j y hy=>?_,fun y hy=>?_,?_⟩
  ·obtain ⟨r,r1,ai,aj,ak,an⟩:=h.root
   obtain ⟨z,J,aa,ab,ao,ar,_⟩:=fh 0 r r1
   exact ⟨z,J,aa.trans ai,ab.trans aj,ao.trans ak,ar.trans an⟩
  ·rcases gT j y hy with ⟨rfl,rfl⟩ | ⟨rfl,rfl⟩ | ⟨_,q⟩
   ·exact .inr ⟨by show (0:Int)≤(up:Int);omega,by show (up:Int)<(N.length:Int);omega⟩
   ·exact h.ups j x hx
   ·exact h.ups j y q
  ·rcases gT j y hy with ⟨rfl,rfl⟩ | ⟨rfl,rfl⟩ | ⟨ax,q⟩
   ·exact ⟨trivial,fG⟩
   ·rw [if_pos rfl]
    refine ⟨?_,(h.cU j x hx).2⟩
    refine LP.snoc (i:=(j:Int)) (k:=(N.length:Int)) (z:=⟨kind,aN,to,(j:Int),[],false⟩) (by omega) (by omega) (by omega) (by rw [b2];exact iV) rfl (by show to≤max x.To to;omega) (tA j x hx _ (by show x.To≤max x.To to;omega)) (fun e=>?_) (fun c hc y hy=>?_)
    ·rw [e] at he;exact he
    ·rw [hc] at he
     simp only at he
     obtain ⟨w,J,aa,ab,_⟩:=(h.cU j x hx).1.mem c (List.mem_of_getLast? hc)
     rw [if_pos (by omega),ab] at he
     simp only [jD] at he
     obtain ⟨w',U,_,_,ae,_⟩:=fh _ w ab
     rw [hy] at U;simp only [Option.some.injEq] at U
     rw [U,ae];show w.To≤aN;omega
   ·rw [if_neg (by omega)]
    exact ⟨tA j y q _ (Int.le_refl _),(h.cU j y q).2⟩
  ·obtain ⟨j,hj⟩:=List.getElem?_of_mem hy
   rcases gT j y hj with ⟨rfl,rfl⟩ | ⟨rfl,rfl⟩ | ⟨_,q⟩
   ·exact List.nodup_nil
   ·refine List.nodup_append.2 ⟨h.nd x oZ,by simp,fun a ha b hb e=>?_⟩
    simp only [List.mem_singleton] at hb
    obtain ⟨_,_,aa,_⟩:=(h.cU j x hx).1.mem a ha
    omega
   ·exact h.nd y (au q)
  ·rw [gG,yH,b7,List.length_set]
   have h1:=AJ (y:={x with Kids:=x.Kids++[(N.length:Int)]}) hx
   have h2:({x with Kids:=x.Kids++[(N.length:Int)]}:aq).Kids.length=x.Kids.length+1:=by simp
   have ay:=h.sum
   have az:eD [(⟨kind,aN,to,(up:Int),[],false⟩:aq)]=0:=rfl
   rw [h2] at h1
   simp only [cQ]
   omega
 have hold:∀ v,Sp N v→v≤up→Sp I v:=by
  intro v hv
  induction hv with
  | root=>intro _;exact .root
  | g9 h1 hy hk ih=>
   rename_i u k y
   intro hle
   obtain ⟨w,J,_⟩:=(h.cU u y hy).1.mem _ (List.mem_of_getLast? hk)
   obtain ⟨y',U,_,_,_,_,av⟩:=fh u y hy
   rw [av (by omega)] at U
   exact .g9 (ih (by omega)) U hk
 have rB:=tK (N.length+1) I up to
 have xO:Sp I N.length:= .g9 (hold up hs (Nat.le_refl _)) uD (by simp)
 refine ⟨xY.grow ht _ _ _ (by omega) (by omega) (fun _=>by rw [b2];exact hold up hs (Nat.le_refl _)),by rw [qs,hlen],fun p hp oL=>vi _ _ _ _ _ (fun j y hy hj=>?_) oL,xO.kids rB,fun v hv q=>(hold v q hv).kids rB,?_⟩
 ·rcases gT j y hy with ⟨rfl,rfl⟩ | ⟨rfl,rfl⟩ | ⟨_,q⟩
  ·exact oL
  ·exact hp j x hx hj
  ·exact hp j y q hj
 ·have hl:N.length<(growL (N.length+1) I up to).length:=by rw [qs,hlen];omega
  refine ⟨_,aX hl,?_⟩
  have h1:=aX hl
  obtain ⟨y,J,_,ab⟩:=Gu _ _ _ _ _ _ h1
  rw [iV] at J;simp only [Option.some.injEq] at J
  refine ⟨by rw [ab,← J],?_⟩
  have h2:((growL (N.length+1) I up to).map (·.Kids))[N.length]?=some []:=by rw [rB,List.getElem?_map,iV];rfl
  rw [List.getElem?_map,h1] at h2
  exact Option.some.inj h2
theorem vt {N:List aq} {n:Int} (h:G N n) {p:Int} (hb:Below N p) (hp:0≤p) (up:Nat):∀ e,endOf N up=some e→e≤p:=by
 intro e he
 unfold endOf at he
 obtain ⟨x,hx,rfl⟩:=Option.map_eq_some_iff.1 he
 have rU:x.ah≤p:=by
  rcases Nat.eq_zero_or_pos up with e | e
  ·subst e
   obtain ⟨r,r1,_,I,_⟩:=h.root
   rw [hx] at r1;simp only [Option.some.injEq] at r1;subst r1;omega
  ·have:=hb up x hx e
   have:=(h.cU up x hx).2
   omega
 cases hk:x.Kids.getLast? with
 | none=>exact rU
 | some k=>
  simp only
  obtain ⟨w,J,U,j,_⟩:=(h.cU up x hx).1.mem k (List.mem_of_getLast? hk)
  rw [if_pos (by omega),j]
  simp only [jD]
  have:=hb k.toNat w j (by omega)
  omega
theorem qK {N:List aq} {i:Nat} {z:aq} (hz:N[i]?=some z) (hk:z.Kids=[]):∀ e,endOf N i=some e→e=z.ah:=by
 intro e he
 unfold endOf at he
 rw [hz] at he
 simp only [Option.map_some,hk,List.getLast?_nil,Option.some.injEq] at he
 exact he.symm
theorem G.nC {N:List aq} {n:Int} (h:G N n) (j:Nat) (x:aq) (hx:N[j]?=some x):x.Up<(j:Int):=by
 rcases h.ups j x hx with q | q
 ·obtain ⟨r,r1,_,_,_,I⟩:=h.root
  subst q
  rw [hx] at r1;simp only [Option.some.injEq] at r1;subst r1;omega
 ·exact q.2
theorem G.last {N:List aq} {n:Int} (h:G N n) (up:Nat) (x:aq) (hx:N[up]?=some x) (c:Int) (hc:x.Kids.getLast?=some c):0≤c∧c<N.length:=by
 obtain ⟨y,j,I,_⟩:=(h.cU up x hx).1.mem c (List.mem_of_getLast? hc)
 omega
end
end Go.Proofs.YtcilejikekccmaaGreat.M
