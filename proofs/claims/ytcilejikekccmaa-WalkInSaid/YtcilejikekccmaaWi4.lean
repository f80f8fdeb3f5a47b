/- Packed by a program of this session (mini.py). -/
import Derived.Test.YtcilejikekccmaaWi3
set_option linter.unusedVariables false
set_option linter.unusedSimpArgs false
set_option maxRecDepth 20000
set_option maxRecDepth 100000
namespace Go.Proofs.Ytcilejikekccmaa.M
open Go Am Sy
open Sy.Cell (rc)
def nW (F:Nat) (a0:aT) (a1:an):Option aT:=
 if a1.Kind=(4:Int) then
  (nG F (⟨a0.R,a0.Rows,a0.Doc,a0.aA,a0.S,a0.ax,a1.To⟩:aT) a1).bind fun ag=>
  some ag
 else
  if a1.Kind=(5:Int) then
   (mi F (⟨a0.R,a0.Rows,a0.Doc,a0.aA,a0.S,a0.ax,a1.To⟩:aT) a1).bind fun ai=>
   some ai
  else
   ((if a1.Kind=(2:Int) then
     some (a0.Rows,a0.Doc,a0.aA,a0.S,a0.ax,a1.To,a1,true)
    else
     if a1.Kind=(3:Int) then
      some (a0.Rows,a0.Doc,a0.aA,a0.S,a0.ax,a1.To,a1,true)
     else
      some (a0.Rows,a0.Doc,a0.aA,a0.S,a0.ax,a1.To,a1,false)):Option ((List an)×Int×Bool×(List au)×Int×Int×an×Bool)).bind fun o=>match o with
    | (J,U,aa,ab,ad,ae,af,aj)=>if aj=true then
     (gK F (⟨a0.R,J,U,aa,ab,ad,ae⟩:aT) af.ah af.To).bind fun I=>
     if I.1<I.2 then
      (lH F (⟨a0.R,J,U,aa,ab,ad,ae⟩:aT) I.1).bind fun j=>
      (iM F j).bind fun al=>
      (dQ F j.R al I.1 I.2 8).bind fun ao=>
      some (⟨ao.2,j.Rows,j.Doc,j.aA,j.S,j.ax,j.Read⟩:aT)
     else
      some (⟨a0.R,J,U,aa,ab,ad,ae⟩:aT)
    else
     some (⟨a0.R,J,U,aa,ab,ad,ae⟩:aT)
theorem xK (F:Nat) {h:AH} {Z:Zn} {a0:aT} {a1:an} {J j v4 v6 I af v11 ao U ar} (hP:Pre Z h [.ae J [Pt j 0,v11,V a0.Doc, .bool a0.aA,U,V a0.ax,V a0.Read], .ae j (ay v4 v6 I a0.R), .gs I af (aa aj), .gs v11 ao (aa an), .gs U ar (aa au)]) (aH:RS (α:=ak) Z v4 a0.R.L) (aJ:RS (α:=aq) Z v6 a0.R.T.al) (aK:RCs (α:=aj) Z af a0.R.D) (a2:RCs (α:=an) Z ao a0.Rows) (a4:RCs (α:=au) Z ar a0.S) {r:aT} (hm:nW F a0 a1=some r):
  bQ Try.prog 22 [Pt J 0, .agg #[V a1.Kind,V a1.ah,V a1.To,V a1.aD]] h Z [.ae J [Pt j 0,v11,V a0.Doc, .bool a0.aA,U,V a0.ax,V a0.Read], .ae j (ay v4 v6 I a0.R), .gs I af (aa aj), .gs v11 ao (aa an), .gs U ar (aa au)] fun v Z' A'=>∃ bw bx bz bB bC bD bE, .tuple #[]=v∧A'=[.ae J [Pt j 0,v11,V r.Doc, .bool r.aA,bD,V r.ax,V r.Read], .ae j (ay bw bx bz r.R), .gs bz bB (aa aj), .gs v11 bC (aa an), .gs bD bE (aa au)]∧RS (α:=ak) Z' bw r.R.L∧RS (α:=aq) Z' bx r.R.T.al∧RCs (α:=aj) Z' bB r.R.D∧RCs (α:=an) Z' bC r.Rows∧RCs (α:=au) Z' bE r.S:=by
 refine b5 Try.func22 hP ?_
 intro hs hS
 unfold nW at hm
 refine s0<|df 0 [V a1.Kind,V a1.ah,V a1.To,V a1.aD] hS ?_
 intro a6 cY bF
 refine xn 0<|s0<|aB 2 0 (V a1.To) bF rfl<|bA 2 1 (V a1.To) [V a1.To] [Pt j 0,v11,V a0.Doc, .bool a0.aA,U,V a0.ax,V a1.To] bF rfl rfl rfl ?_
 intro c0 aw
 refine xn 0<|s0<|aB 1 0 (V a1.Kind) aw rfl<|xn 0<|bk 0<|s0<|aE 0 hm ?_ ?_<;>intro c3 hm
 refine xn 1<|dT<|g0<|aB 1 0 (.agg #[V a1.Kind,V a1.ah,V a1.To,V a1.aD]) aw rfl ?_
 obtain ⟨c4,bR,hm⟩:=ai hm
 have bS:St _ _ _ _ _ _ ([.ae J [Pt j 0,v11,V a0.Doc, .bool a0.aA,U,V a0.ax,V a1.To], .ae j (ay v4 v6 I a0.R), .gs I af (aa aj), .gs v11 ao (aa an), .gs U ar (aa au)]++[.ae a6 (cw a1)]):=(((((aw.front 5 rfl).front 5 rfl).front 5 rfl).front 5 rfl).front 5 rfl)
 refine cB 0 bS (fun p=>Ep F (a0:=(⟨a0.R,a0.Rows,a0.Doc,a0.aA,a0.S,a0.ax,a1.To⟩:aT)) p aH aJ aK a2 a4 bR) ?_
 rintro _ c5 c6 _ c7 bT ⟨bU,bV,bW,bX,bY,bZ,b0,rfl,rfl,b1,b2,b3,b4,b6⟩
 refine xn 0 ?_
 obtain rfl:=si hm
 refine ⟨_,_,_,ResL.nil,(bT.takeN 5),?_⟩
 exact ⟨bU,bV,bW,bX,bY,bZ,b0,rfl,rfl,b1,b2,b3,b4,b6⟩
 refine xn 1<|dF<|s0<|aE 0 hm ?_ ?_<;>intro c8 hm
 refine xn 1<|dT<|g0<|aB 1 0 (.agg #[V a1.Kind,V a1.ah,V a1.To,V a1.aD]) aw rfl ?_
 obtain ⟨c9,b7,hm⟩:=ai hm
 have b8:St _ _ _ _ _ _ ([.ae J [Pt j 0,v11,V a0.Doc, .bool a0.aA,U,V a0.ax,V a1.To], .ae j (ay v4 v6 I a0.R), .gs I af (aa aj), .gs v11 ao (aa an), .gs U ar (aa au)]++[.ae a6 (cw a1)]):=(((((aw.front 5 rfl).front 5 rfl).front 5 rfl).front 5 rfl).front 5 rfl)
 refine cB 0 b8 (fun p=>Bx F (a0:=(⟨a0.R,a0.Rows,a0.Doc,a0.aA,a0.S,a0.ax,a1.To⟩:aT)) p aH aJ aK a2 a4 b7) ?_
 rintro _ da dc _ dd b9 ⟨ca,cb,cc,cd,cf,cg,ch,rfl,rfl,cj,ck,cl,cm,cn⟩
 refine xn 0 ?_
 obtain rfl:=si hm
 refine ⟨_,_,_,ResL.nil,(b9.takeN 5),?_⟩
 exact ⟨ca,cb,cc,cd,cf,cg,ch,rfl,rfl,cj,ck,cl,cm,cn⟩
 refine xn 1<|dF<|sq ?_
 obtain ⟨cp,az,hm⟩:=ai hm
 refine aI [0,3,23] (fun l h=>∃ bc a7 aL aM a8 aN aO av bm aV aX aF,(a7,aL,aM,a8,aN,aO,av,bm)=cp∧RCs (α:=an) bc aV a7∧RCs (α:=au) bc aX a8∧l=[(0,Pt J 0),(3,Pt aF 0),(23, .bool bm)]∧St hs (aR [.ae J [Pt j 0,v11,V a0.Doc, .bool a0.aA,U,V a0.ax,V a0.Read], .ae j (ay v4 v6 I a0.R), .gs I af (aa aj), .gs v11 ao (aa an), .gs U ar (aa au)]) Z (0,0) bc h [.ae j (ay v4 v6 I a0.R), .gs I af (aa aj), .ae J [Pt j 0,v11,V aL, .bool aM,U,V aN,V aO], .gs v11 aV (aa an), .gs U aX (aa au), .ae aF (cw av)]) ?_ ?_
 rintro l de ⟨bc,a7,aL,aM,a8,aN,aO,av,bm,aV,aX,aF,rfl,bd,bg,rfl,ab⟩
 try dsimp only at hm
 refine db hm ?_ ?_<;>intro dh hm
 refine s0<|aB 2 5 (V av.ah) ab rfl<|aB 1 5 (V av.To) ab rfl ?_
 obtain ⟨aY,cq,hm⟩:=ai hm
 refine cE 0 ab (fun di a9 cr ba=>j7 F (a0:=(⟨a0.R,a7,aL,aM,a8,aN,aO⟩:aT)) cr (RS.mono a9 (aH.mono ab.ag)) (RS.mono a9 (aJ.mono ab.ag)) (bf.row (ba _ (List.mem_of_getElem? (i:=1) rfl)) a9 (aK.mono ab.ag)) (ba _ (List.mem_of_getElem? (i:=0) rfl)) (bf.row (ba _ (List.mem_of_getElem? (i:=3) rfl)) a9 bd) (bf.row (ba _ (List.mem_of_getElem? (i:=4) rfl)) a9 bg) (ba _ (List.mem_of_getElem? (i:=2) rfl)) cq) ?_
 rintro _ dj bG rfl
 refine xn 5<|s0<|aP 2 hm ?_ ?_<;>intro dk hm
 refine xn 0<|dT<|s0 ?_
 obtain ⟨ad,ct,hm⟩:=ai hm
 have cu:St _ _ _ _ _ _ ([.ae J [Pt j 0,v11,V aL, .bool aM,U,V aN,V aO], .ae j (ay v4 v6 I a0.R), .gs I af (aa aj), .gs v11 aV (aa an), .gs U aX (aa au)]++[.ae aF (cw av)]):=(((((bG.front 4 rfl).front 4 rfl).front 3 rfl).front 3 rfl).front 4 rfl)
 refine cB 2 cu (fun p=>uA F (a0:=(⟨a0.R,a7,aL,aM,a8,aN,aO⟩:aT)) p (aH.mono ab.ag) (aJ.mono ab.ag) (aK.mono ab.ag) bd bg ct) ?_
 rintro _ dm dn _ dp cx ⟨bn,bo,bp,bh,aG,bj,rfl,rfl,bI,bJ,bK,bL,bN⟩
 refine xn 0<|ee zO cx ?_
 intro cy dq cz br
 refine yq 3 [(43,Pt J 0),(5,V aY.2),(4,V aY.1),(0,Pt J 0)] ?_
 have dr:J<cy:=cz.1 _ (List.mem_of_getElem? (i:=0) rfl) _ (by simp [Itm.ids])
 refine aW (v:=Pt j 0) rfl trivial rfl (by show J<_;omega) (aC (v:=Pt j 0) trivial) (br.aU (i:=0) rfl (by kernel_rfl)) trivial<|yq 1 [(45,Pt J 0),(44,Pt j 0),(5,V aY.2),(4,V aY.1)] ?_
 obtain ⟨cA,cC,hm⟩:=ai hm
 have bO:=br.cJ
 obtain ⟨ds,aZ,cD,bb⟩:=St.ke (L:=[.ae J [Pt j 0,v11,V ad.Doc, .bool ad.aA,aG,V ad.ax,V ad.Read], .ae j (ay bn bo I ad.R), .gs I bp (aa aj), .gs v11 bh (aa an), .gs aG bj (aa au), .ae aF (cw av)]) bO
 obtain ⟨du,dv,cF,bl,rfl⟩:=mP F cD (RS.mono aZ bI) (RS.mono aZ bJ) (bf.row (bb _ (List.mem_of_getElem? (i:=2) rfl)) aZ bK) (bb _ (List.mem_of_getElem? (i:=1) rfl)) (bf.row (bb _ (List.mem_of_getElem? (i:=3) rfl)) aZ bL) (bf.row (bb _ (List.mem_of_getElem? (i:=4) rfl)) aZ bN) (bb _ (List.mem_of_getElem? (i:=0) rfl)) cC
 replace bl:=St.kH aZ bl
 have cG:=St.call (A:=[]) (B:=[.ae J [Pt j 0,v11,V ad.Doc, .bool ad.aA,aG,V ad.ax,V ad.Read], .ae j (ay bn bo I ad.R), .gs I bp (aa aj), .gs v11 bh (aa an), .gs aG bj (aa au), .ae aF (cw av)]) bO bl
 refine fD rfl trivial br (dg cF rfl rfl rfl) cG (St.fJ bl) ?_
 intro dw cH
 refine yq 2 [(48,V aY.2),(47,V aY.1),(46,V cA),(44,Pt j 0)] ?_
 obtain ⟨dx,cI,hm⟩:=ai hm
 have bt:St _ _ _ _ _ _ ([.ae j (ay bn bo I ad.R), .gs I bp (aa aj)]++[.ae J [Pt j 0,v11,V ad.Doc, .bool ad.aA,aG,V ad.ax,V ad.Read], .gs v11 bh (aa an), .gs aG bj (aa au), .ae aF (cw av)]):=((cH.front 2 rfl).front 2 rfl)
 obtain ⟨dy,dz,dA,dB,cK,bP,cL,cM,cP,cQ,rfl,rfl,cR,cS,cT⟩:=fh F bt.cJ.eE bI bJ bK cI
 have bu:=bP.ag
 refine fG rfl trivial bt (dg cK rfl rfl rfl) bP bu (.a3 (bt.bH 0 rfl bM) .nil) ?_
 intro dD cU
 refine yf [] ?_
 have cX:=cU.a5
 obtain rfl:=si hm
 refine ⟨_,_,_,ResL.nil,((((((cX.front 4 rfl).front 4 rfl).front 3 rfl).front 3 rfl).front 4 rfl).takeN 5),?_⟩
 exact ⟨cL,cM,cP,cQ,bh,aG,bj,rfl,rfl,cR,cS,cT,(bL.mono bu),(bN.mono bu)⟩
 refine xn 0<|dF<|sk ?_
 obtain rfl:=si hm
 refine ⟨_,_,_,ResL.nil,((((((bG.front 4 rfl).front 4 rfl).front 3 rfl).front 3 rfl).front 4 rfl).takeN 5),?_⟩
 exact ⟨v4,v6,I,af,aV,U,aX,rfl,rfl,(aH.mono ab.ag),(aJ.mono ab.ag),(aK.mono ab.ag),bd,bg⟩
 refine sk ?_
 obtain rfl:=si hm
 refine ⟨_,_,_,ResL.nil,((((((ab.front 4 rfl).front 4 rfl).front 3 rfl).front 3 rfl).front 4 rfl).takeN 5),?_⟩
 exact ⟨v4,v6,I,af,aV,U,aX,rfl,rfl,(aH.mono ab.ag),(aJ.mono ab.ag),(aK.mono ab.ag),bd,bg⟩
 refine s0<|aE 0 az ?_ ?_<;>intro dE az
 refine xn 1<|dT<|sk ?_
 obtain rfl:=si az
 exact ⟨_,a0.Rows,a0.Doc,a0.aA,a0.S,a0.ax,a1.To,a1,true,ao,ar,a6,rfl,a2,a4,(by kernel_rfl),((((((aw.front 0 rfl).front 5 rfl).front 5 rfl).front 3 rfl).front 5 rfl).front 5 rfl)⟩
 refine xn 1<|dF<|g0<|aE 0 az ?_ ?_<;>intro dG az
 refine xn 1 ?_
 obtain rfl:=si az
 exact ⟨_,a0.Rows,a0.Doc,a0.aA,a0.S,a0.ax,a1.To,a1,true,ao,ar,a6,rfl,a2,a4,(by kernel_rfl),((((((aw.front 0 rfl).front 5 rfl).front 5 rfl).front 3 rfl).front 5 rfl).front 5 rfl)⟩
 refine xn 1 ?_
 obtain rfl:=si az
 exact ⟨_,a0.Rows,a0.Doc,a0.aA,a0.S,a0.ax,a1.To,a1,false,ao,ar,a6,rfl,a2,a4,(by kernel_rfl),((((((aw.front 0 rfl).front 5 rfl).front 5 rfl).front 3 rfl).front 5 rfl).front 5 rfl)⟩
def zv:List aQ:=[u 12 (mv 0),u 13 (mv 4),u 14 (.slice 31 (t 12) (some (t 13)) none none),u 15 (cf 60 #[(t 14)] #[31]),u 11 (mv 15),u 16 (.extract (t 11) 0),u 17 (.extract (t 11) 1),u 5 (sg 16),u 6 (sg 17)]
def xm:List aQ:=[u 20 (mv 3),u 21 (mv 4),u 22 (.buildSlice 23 1 #[(0,(t 21))]),u 23 (cb .append #[(t 20),(t 22)] #[23,23]),u 3 (sg 23)]
def correctorref1_Bad_l0 (F:Nat) (a0:List UInt8):Nat→(List Int)→Int→Option (List Int)
 | 0,_,_=>none
 | n+1,I,j=>
  if j<(a0.length:Int) then
   if 0≤j∧j≤(a0.length:Int)∧(a0.length:Int)≤(a0.length:Int) then
    (jj F ((a0.take (a0.length:Int).toNat).drop j.toNat)).bind fun J=>
    ((if J.1<(0:Int) then
      if I.length+([j]:List Int).length≤17592186044416 then
       some (I++([j]:List Int))
      else none
     else
      some I):Option (List Int)).bind fun o=>match o with
     | U=>correctorref1_Bad_l0 F a0 n U (af (j+J.2))
   else none
  else
   some I
def mM (F:Nat) (a0:List UInt8):Option (List Int):=
 ((correctorref1_Bad_l0 F a0 F [] 0):Option (List Int)).bind fun o=>match o with
  | j=>some j
theorem Av (F:Nat) {h:AH} {Z:Zn} {a0:List UInt8} {v2} (hP:Pre Z h []) (aC:RS (α:=UInt8) Z v2 a0) {r:(List Int)} (hm:mM F a0=some r):
  bQ Try.prog 49 [v2] h Z [] fun v Z' A'=>∃ v4 aD,v4=v∧A'=[.gs v4 aD (aa Int)]∧RCs (α:=Int) Z' aD r:=by
 refine b5 Try.func49 hP ?_
 intro hs hS
 unfold mM at hm
 replace hS:St hs [] Z (0,0) Z hs []:=hS
 refine sp 1<|sp 1<|sq<|sp 1 ?_
 obtain ⟨au,J,hm⟩:=ai hm
 refine aI [3] (fun l h=>∃ av aw ae al,aw=au∧RCs (α:=Int) av al aw∧l=[(3,ae)]∧St hs [] Z (0,0) av h [.gs ae al (aa Int)]) ?_ ?_
 rintro l aZ ⟨av,aw,ae,al,rfl,aG,rfl,aH⟩
 try dsimp only at hm
 refine sp 2<|rt<|⟨rfl,?_⟩
 obtain rfl:=si hm
 refine ⟨_,_,_,tk ae (ResL.nil),aH,?_⟩
 exact ⟨ae,al,rfl,rfl,aG⟩
 refine bk 0 ?_
 have aJ:=hS.c9 (aa Int)
 refine lp [0,3,4] (fun n l h=>∃ an ab I U ah,correctorref1_Bad_l0 F a0 n ab I=some au∧RCs (α:=Int) an ah ab∧l=[(0,v2),(3,U),(4,V I)]∧St hs [] Z (0,0) an h [.gs U ah (aa Int)]) F ⟨_,[],0,(.slice none 0 0),[],J,(RCs.br _),(by kernel_rfl),aJ⟩ ?_
 rintro ax l a1 ⟨an,ab,I,U,ah,J,ay,rfl,aj⟩
 rcases ax with _ | ax
 cases (show none=some au from J)
 rw [correctorref1_Bad_l0] at J
 refine sq<|s0<|bG 2 v2 (RS.len (aC.mono aj.ag))<|aP 0 J ?_ ?_<;>intro a2 J
 refine xn 0<|dT<|sk<|bk 1<|sr zv<|xq 2 [(13,V I),(12,v2),(0,v2),(3,U),(4,V I)] ?_
 obtain ⟨az,J⟩:=aK J
 refine jS rfl trivial (iP (a:=I) (b:=(a0.length:Int)) (aC.mono aj.ag) rfl (by kernel_rfl:slTy _ _=some (aa UInt8)) ⟨_,rfl⟩ rfl az.1 az.2.1 az.2.2) ?_
 intro a3 aL
 obtain ⟨aA,aM,J⟩:=ai J
 refine cP 0 aj (pE F aj.inv aL aM) ?_
 rintro _ a4 aE rfl
 refine xn 5<|sq ?_
 obtain ⟨aO,ad,J⟩:=ai J
 refine dY [0,3,4,6] (fun l h=>∃ aB ao aq ar,ao=aO∧RCs (α:=Int) aB ar ao∧l=[(0,v2),(3,aq),(4,V I),(6,V aA.2)]∧St hs [] Z (0,0) aB h [.gs aq ar (aa Int)]) (by kernel_rfl) ?_ ?_
 rintro l a5 ⟨aB,ao,aq,ar,rfl,aR,rfl,aT⟩
 try dsimp only at J
 refine gp 4 ?_
 exact ⟨ax,Nat.lt_succ_self _,⟨_,ao,af (I+aA.2),aq,ar,J,aR,(by kernel_rfl),aT⟩⟩
 refine g0<|aP 1 ad ?_ ?_ (kd:= .i32)<;>intro a6 ad
 refine xn 0<|dT<|rg xm<|xq 2 [(21,V I),(20,U),(6,V aA.2),(0,v2),(3,U),(4,V I)] ?_
 have aU:RCs (α:=Int) an [V I] ([I]:List Int):=RCs.cons (cs:=[V I]) rfl (RCs.br _)
 refine dP rfl trivial (cX (cells:=[V I]) (s:=1) (by kernel_rfl)) (by kernel_rfl) aE ?_
 intro a7 a8 aF
 obtain ⟨a9,ad⟩:=aK ad
 refine eS rfl trivial (dG (ys:=([I]:List Int)) (bS:=8) aF (i:=1) rfl ay ((aF).eA (j:=0) rfl aU) rfl rfl (by kernel_rfl) (by omega) (by omega)) ?_
 rintro aV aW ba ⟨aX,aY⟩
 refine xn 1 ?_
 obtain rfl:=si ad
 exact ⟨_,ab++([I]:List Int),aV,aW,rfl,aX,(by kernel_rfl),((aY.front 1 rfl).takeN 1)⟩
 refine xn 0<|dF<|sk ?_
 obtain rfl:=si ad
 exact ⟨_,ab,U,ah,rfl,ay,(by kernel_rfl),aE⟩
 refine xn 0<|dF<|xt 0<|aN ?_
 obtain rfl:=si J
 exact ⟨_,ab,U,ah,rfl,ay,(by kernel_rfl),aj⟩
def z8:List aQ:=[u 12 (mv 0),u 13 (mv 5),u 14 (.index 9 (t 12) (t 13)),u 15 (.binOp .neq 5 (t 14) (.const (.int .u8 39)) 5)]
def Ez:List aQ:=[u 16 (mv 4),u 17 (mv 0),u 18 (mv 5),u 19 (mv 5),u 20 (bc .add 3 19 1 3),u 21 (.slice 9 (t 17) (some (t 18)) (some (t 20)) none),u 22 (bo .add 9 16 21 9),u 4 (sg 22)]
def D3:List aQ:=[u 23 (mv 5),u 24 (bc .add 3 23 1 3),u 25 (mv 0),u 26 (cb .len #[(t 25)] #[9]),u 27 (bo .geq 3 24 26 3),u 28 (mv 27),gn 28 29 (mv 0),gn 28 30 (mv 5),gn 28 31 (bc .add 3 30 1 3),gn 28 32 (.index 9 (t 29) (t 31)),gn 28 33 (.binOp .neq 5 (t 32) (.const (.int .u8 39)) 5),u 34 (pt 28 33)]
def BT:List aQ:=[u 36 (mv 4),u 37 (.binOp .add 9 (t 36) (.const (.string {data:=#[39]})) 9),u 4 (sg 37)]
def correctorref7_single_l0 (F:Nat) (a0:ar):Nat→ar→Int→Option (Sum ar (ar×Bool))
 | 0,_,_=>none
 | n+1,I,j=>
  if j<(a0.b.length:Int) then
   if 0≤j then
    (a0.b[j.toNat]?).bind fun J=>
    if (J.toNat:Int)=(39:Int) then
     if (a0.b.length:Int)≤(af (j+1)) then
      some (.inr (I,true))
     else
      if 0≤(af (j+1)) then
       (a0.b[(af (j+1)).toNat]?).bind fun U=>
       if (U.toNat:Int)=(39:Int) then
        if I.b.length+([39]:List UInt8).length≤4611686018427387904 then
         correctorref7_single_l0 F a0 n (⟨I.b++[39]⟩:ar) (af ((af (j+1))+1))
        else none
       else
        some (.inr (I,true))
      else none
    else
     if 0≤j∧j≤(af (j+1))∧(af (j+1))≤(a0.b.length:Int) then
      if I.b.length+((a0.b.take (af (j+1)).toNat).drop j.toNat).length≤4611686018427387904 then
       correctorref7_single_l0 F a0 n (⟨I.b++((a0.b.take (af (j+1)).toNat).drop j.toNat)⟩:ar) (af (j+1))
      else none
     else none
   else none
  else
   some (.inl I)
def nK (F:Nat) (a0:ar):Option (ar×Bool):=
 ((correctorref7_single_l0 F a0 F (⟨[]⟩:ar) 1):Option (Sum ar (ar×Bool))).bind fun o=>match o with
  | .inl j=>some (j,false)
  | .inr y=>some y
theorem vH (F:Nat) {h:AH} {Z:Zn} {a0:ar} (hI:Inv Z h) {r:ar×Bool} (hm:nK F a0=some r):
  bV Try.prog 73 [.string ⟨⟨a0.b⟩⟩] h Z (.tuple #[.string ⟨⟨r.1.b⟩⟩, .bool r.2]):=by
 refine bW Try.func73 hI ?_
 intro hs hS
 unfold nK at hm
 refine sp 2<|sp 1<|sq<|sp 1 ?_
 obtain ⟨ad,j,hm⟩:=ai hm
 refine aI [4] (fun l h=>∃ ag aa, .inl aa=ad∧l=[(4, .string ⟨⟨aa.b⟩⟩)]∧St hs [] Z (0,0) ag h []) ?_ ?_
 rintro l aw ⟨ag,aa,rfl,rfl,aj⟩
 try dsimp only at hm
 refine sp 3<|rt<|⟨rfl,?_⟩
 obtain rfl:=si hm
 refine ⟨_,_,_,tk (.string ⟨⟨aa.b⟩⟩) (tk (.bool false) (ResL.nil)),aj,?_⟩
 exact rfl
 refine bk 0<|lp [0,4,5] (fun n l h=>∃ ah J I,correctorref7_single_l0 F a0 n J I=some ad∧l=[(0, .string ⟨⟨a0.b⟩⟩),(4, .string ⟨⟨J.b⟩⟩),(5,V I)]∧St hs [] Z (0,0) ah h []) F ⟨_,(⟨[]⟩:ar),1,j,(by kernel_rfl),hS⟩ ?_
 rintro ab l ax ⟨ah,J,I,j,rfl,U⟩
 rcases ab with _ | ab
 cases (show none=some ad from j)
 rw [correctorref7_single_l0] at j
 refine sq<|s0<|aP 3 j ?_ ?_<;>intro ay j
 refine xn 0<|dT<|sk<|sq<|bk 1<|sq<|sr z8<|xq 2 [(13,V I),(12, .string ⟨⟨a0.b⟩⟩),(0, .string ⟨⟨a0.b⟩⟩),(4, .string ⟨⟨J.b⟩⟩),(5,V I)] ?_
 obtain ⟨al,j⟩:=aK j
 obtain ⟨az,an,j⟩:=ai j
 refine bN rfl trivial (jy (bs:=a0.b) (i:=I) rfl rfl (by kernel_rfl) al an)<|c7 0 j ?_ ?_ (kd:= .u8)<;>intro aA j
 refine xn 0<|dF<|sk<|sq<|sr D3<|ct 4 j ?_ ?_<;>intro aB j
 refine xn 7<|dT<|sp 3<|rt<|bw<|bw<|⟨rfl,?_⟩
 obtain rfl:=si j
 obtain rfl:=si hm
 refine ⟨_,_,_,tk (.string ⟨⟨J.b⟩⟩) (tk (.bool true) (ResL.nil)),U,?_⟩
 exact rfl
 refine xq 4 [(31,V (af (I+1))),(29, .string ⟨⟨a0.b⟩⟩),(28, .bool false),(0, .string ⟨⟨a0.b⟩⟩),(4, .string ⟨⟨J.b⟩⟩),(5,V I)] ?_
 obtain ⟨ao,j⟩:=aK j
 obtain ⟨aC,aq,j⟩:=ai j
 refine bN rfl rfl (jy (bs:=a0.b) (i:=af (I+1)) rfl rfl (by kernel_rfl) ao aq)<|c7 0 j ?_ ?_ (kd:= .u8)<;>intro aD j
 refine xn 1<|dF<|sk<|sr BT<|xq 1 [(36, .string ⟨⟨J.b⟩⟩),(0, .string ⟨⟨a0.b⟩⟩),(4, .string ⟨⟨J.b⟩⟩),(5,V I)] ?_
 obtain ⟨au,j⟩:=aK j
 refine bN rfl trivial (ou rfl rfl (by simpa using au))<|xn 1<|gp 3<|gp 3 ?_
 exact ⟨ab,Nat.lt_succ_self _,⟨_,(⟨J.b++[39]⟩:ar),af ((af (I+1))+1),j,(by kernel_rfl),U⟩⟩
 refine xn 1<|dT<|sp 3<|rt<|bw<|bw<|⟨rfl,?_⟩
 obtain rfl:=si j
 obtain rfl:=si hm
 refine ⟨_,_,_,tk (.string ⟨⟨J.b⟩⟩) (tk (.bool true) (ResL.nil)),U,?_⟩
 exact rfl
 refine xn 0<|dT<|sr Ez<|xq 5 [(20,V (af (I+1))),(18,V I),(17, .string ⟨⟨a0.b⟩⟩),(16, .string ⟨⟨J.b⟩⟩),(0, .string ⟨⟨a0.b⟩⟩),(4, .string ⟨⟨J.b⟩⟩),(5,V I)] ?_
 obtain ⟨ae,j⟩:=aK j
 refine bN rfl trivial (o5 (bs:=a0.b) (a:=I) (b:=af (I+1)) rfl (by kernel_rfl) ⟨_,rfl⟩ ⟨_,rfl⟩ ae.1 ae.2.1 ae.2.2) ?_
 obtain ⟨av,j⟩:=aK j
 refine bN rfl trivial (ou rfl rfl (by simpa using av))<|xn 1<|xt 1<|aN<|gp 3 ?_
 exact ⟨ab,Nat.lt_succ_self _,⟨_,(⟨J.b++((a0.b.take (af (I+1)).toNat).drop I.toNat)⟩:ar),af (I+1),j,(by kernel_rfl),U⟩⟩
 refine xn 0<|dF<|xt 0<|aN ?_
 obtain rfl:=si j
 exact ⟨_,J,rfl,(by kernel_rfl),U⟩
def xL:List aQ:=[u 20 (mv 0),u 21 (.buildSlice 31 1 #[(0,(t 20))]),u 22 (.convert 31 9 (t 21)),u 2 (sg 22),u 3 (.assign (.const (.bool true)))]
def nI (F:Nat) (a0:Int):Option (ar×Bool):=
 if a0=(48:Int) then
  some ((⟨[0]⟩:ar),true)
 else
  if a0=(116:Int) then
   some ((⟨[9]⟩:ar),true)
  else
   if a0=(110:Int) then
    some ((⟨[10]⟩:ar),true)
   else
    if a0=(114:Int) then
     some ((⟨[13]⟩:ar),true)
    else
     if a0=(101:Int) then
      some ((⟨[27]⟩:ar),true)
     else
      ((if a0=(34:Int) then
        some true
       else
        if a0=(47:Int) then
         some true
        else
         if a0=(92:Int) then
          some true
         else
          if a0=(32:Int) then
           some true
          else
           some false):Option Bool).bind fun o=>match o with
       | j=>if j=true then
        if (0≤a0∧a0<256) then
         some ((⟨([UInt8.ofNat a0.toNat]:List UInt8)⟩:ar),true)
        else none
       else
        some ((⟨[]⟩:ar),false)
theorem vM (F:Nat) {h:AH} {Z:Zn} {a0:Int} (hI:Inv Z h) {r:ar×Bool} (hm:nI F a0=some r):
  bV Try.prog 96 [.int .u8 a0] h Z (.tuple #[.string ⟨⟨r.1.b⟩⟩, .bool r.2]):=by
 refine bW Try.func96 hI ?_
 intro hs hS
 unfold nI at hm
 refine sp 2<|sq<|sp 1<|bk 0<|s0<|aE 0 hm ?_ ?_ (kd:= .u8)<;>intro ag hm
 refine xn 1<|dT<|sp 2<|rt<|bw<|⟨rfl,?_⟩
 obtain rfl:=si hm
 refine ⟨_,_,_,tk (.string ⟨⟨[0]⟩⟩) (tk (.bool true) (ResL.nil)),hS,?_⟩
 exact rfl
 refine xn 1<|dF<|s0<|aE 0 hm ?_ ?_ (kd:= .u8)<;>intro ah hm
 refine xn 1<|dT<|sp 2<|rt<|bw<|⟨rfl,?_⟩
 obtain rfl:=si hm
 refine ⟨_,_,_,tk (.string ⟨⟨[9]⟩⟩) (tk (.bool true) (ResL.nil)),hS,?_⟩
 exact rfl
 refine xn 1<|dF<|s0<|aE 0 hm ?_ ?_ (kd:= .u8)<;>intro aj hm
 refine xn 1<|dT<|sp 2<|rt<|bw<|⟨rfl,?_⟩
 obtain rfl:=si hm
 refine ⟨_,_,_,tk (.string ⟨⟨[10]⟩⟩) (tk (.bool true) (ResL.nil)),hS,?_⟩
 exact rfl
 refine xn 1<|dF<|s0<|aE 0 hm ?_ ?_ (kd:= .u8)<;>intro al hm
 refine xn 1<|dT<|sp 2<|rt<|bw<|⟨rfl,?_⟩
 obtain rfl:=si hm
 refine ⟨_,_,_,tk (.string ⟨⟨[13]⟩⟩) (tk (.bool true) (ResL.nil)),hS,?_⟩
 exact rfl
 refine xn 1<|dF<|s0<|aE 0 hm ?_ ?_ (kd:= .u8)<;>intro an hm
 refine xn 1<|dT<|sp 2<|rt<|bw<|⟨rfl,?_⟩
 obtain rfl:=si hm
 refine ⟨_,_,_,tk (.string ⟨⟨[27]⟩⟩) (tk (.bool true) (ResL.nil)),hS,?_⟩
 exact rfl
 refine xn 1<|dF<|sq ?_
 obtain ⟨ad,I,hm⟩:=ai hm
 refine aI [0,15] (fun l h=>∃ J U,U=ad∧l=[(0, .int .u8 a0),(15, .bool U)]∧St hs [] Z (0,0) J h []) ?_ ?_
 rintro l ao ⟨J,U,rfl,rfl,aa⟩
 try dsimp only at hm
 refine db hm ?_ ?_<;>intro aq hm
 refine sr xL<|xq 1 [(20, .int .u8 a0)] ?_
 obtain ⟨ae,hm⟩:=aK hm
 have af:RCs (α:=UInt8) J [.int .u8 a0] ([UInt8.ofNat a0.toNat]:List UInt8):=RCs.cons (cs:=[.int .u8 a0]) (gS ae) (RCs.br _)
 refine dP rfl trivial (cX (cells:=[.int .u8 a0]) (s:=1) (by kernel_rfl)) (by kernel_rfl) aa ?_
 intro au av ab
 refine bN rfl trivial (tK ab (j:=0) rfl af rfl (by kernel_rfl))<|xn 2<|rt<|bw<|⟨rfl,?_⟩
 obtain rfl:=si hm
 refine ⟨_,_,_,tk (.string ⟨⟨([UInt8.ofNat a0.toNat]:List UInt8)⟩⟩) (tk (.bool true) (ResL.nil)),ab,?_⟩
 exact rfl
 refine sk<|sp 2<|rt<|⟨rfl,?_⟩
 obtain rfl:=si hm
 refine ⟨_,_,_,tk (.string ⟨⟨[]⟩⟩) (tk (.bool false) (ResL.nil)),aa,?_⟩
 exact rfl
 refine s0<|aE 0 I ?_ ?_ (kd:= .u8)<;>intro aw I
 refine xn 1<|dT<|sk ?_
 obtain rfl:=si I
 exact ⟨_,true,rfl,(by kernel_rfl),hS⟩
 refine xn 1<|dF<|s0<|aE 0 I ?_ ?_ (kd:= .u8)<;>intro ax I
 refine xn 1<|dT<|sk ?_
 obtain rfl:=si I
 exact ⟨_,true,rfl,(by kernel_rfl),hS⟩
 refine xn 1<|dF<|s0<|aE 0 I ?_ ?_ (kd:= .u8)<;>intro ay I
 refine xn 1<|dT<|sk ?_
 obtain rfl:=si I
 exact ⟨_,true,rfl,(by kernel_rfl),hS⟩
 refine xn 1<|dF<|g0<|aE 0 I ?_ ?_ (kd:= .u8)<;>intro az I
 refine xn 1 ?_
 obtain rfl:=si I
 exact ⟨_,true,rfl,(by kernel_rfl),hS⟩
 refine xn 1 ?_
 obtain rfl:=si I
 exact ⟨_,false,rfl,(by kernel_rfl),hS⟩
def nE (F:Nat) (a0:Int):Option Int:=
 ((if (48:Int)≤a0 then
   if a0≤(57:Int) then
    some true
   else
    some false
  else
   some false):Option Bool).bind fun o=>match o with
  | j=>((if j=true then
    some (.inr (af (w8 (a0 - 48))))
   else
    ((if (97:Int)≤a0 then
      if a0≤(102:Int) then
       some true
      else
       some false
     else
      some false):Option Bool).bind fun o=>match o with
     | I=>if I=true then
      some (.inr (af ((af (w8 (a0 - 97)))+10)))
     else
      if (65:Int)≤a0 then
       if a0≤(70:Int) then
        some (.inr (af ((af (w8 (a0 - 65)))+10)))
       else
        some (.inl ())
      else
       some (.inl ())):Option (Sum Unit Int)).bind fun o=>match o with
   | .inl ()=>some (-1)
   | .inr y=>some y
theorem CE (F:Nat) {h:AH} {Z:Zn} {a0:Int} (hI:Inv Z h) {r:Int} (hm:nE F a0=some r):
  bV Try.prog 97 [.int .u8 a0] h Z (V r):=by
 refine bW Try.func97 hI ?_
 intro hs hS
 unfold nE at hm
 refine sp 1<|sq<|bk 0<|sq ?_
 obtain ⟨aj,I,hm⟩:=ai hm
 refine aI [0,3] (fun l h=>∃ ae ab,ab=aj∧l=[(0, .int .u8 a0),(3, .bool ab)]∧St hs [] Z (0,0) ae h []) ?_ ?_
 rintro l aq ⟨ae,ab,rfl,rfl,U⟩
 try dsimp only at hm
 obtain ⟨al,j,hm⟩:=ai hm
 refine aI [] (fun l h=>∃ ag, .inl ()=al∧l=[]∧St hs [] Z (0,0) ag h []) ?_ ?_
 rintro l ar ⟨ag,rfl,rfl,an⟩
 try dsimp only at hm
 refine sp 1<|rt<|⟨rfl,?_⟩
 obtain rfl:=si hm
 refine ⟨_,_,_,tk (V (-1)) (ResL.nil),an,?_⟩
 exact rfl
 refine db j ?_ ?_<;>intro au j
 refine s0<|eD 2 (V (af (w8 (a0 - 48))))<|xn 1<|rt<|bw<|⟨rfl,?_⟩
 obtain rfl:=si j
 obtain rfl:=si hm
 refine ⟨_,_,_,tk (V (af (w8 (a0 - 48)))) (ResL.nil),U,?_⟩
 exact rfl
 refine sq ?_
 obtain ⟨ao,J,j⟩:=ai j
 refine aI [0,13] (fun l h=>∃ ah ad,ad=ao∧l=[(0, .int .u8 a0),(13, .bool ad)]∧St hs [] Z (0,0) ah h []) ?_ ?_
 rintro l av ⟨ah,ad,rfl,rfl,aa⟩
 try dsimp only at j
 refine db j ?_ ?_<;>intro aw j
 refine s0<|eD 2 (V (af (w8 (a0 - 97))))<|xn 2<|rt<|bw<|⟨rfl,?_⟩
 obtain rfl:=si j
 obtain rfl:=si hm
 refine ⟨_,_,_,tk (V (af ((af (w8 (a0 - 97)))+10))) (ResL.nil),aa,?_⟩
 exact rfl
 refine s0<|ct 1 j ?_ ?_ (kd:= .u8)<;>intro ax j
 refine e6 2 j ?_ ?_ (kd:= .u8)<;>intro ay j
 refine xn 2<|dT<|s0<|eD 2 (V (af (w8 (a0 - 65))))<|xn 2<|rt<|bw<|⟨rfl,?_⟩
 obtain rfl:=si j
 obtain rfl:=si hm
 refine ⟨_,_,_,tk (V (af ((af (w8 (a0 - 65)))+10))) (ResL.nil),aa,?_⟩
 exact rfl
 refine xn 2<|dF<|sk ?_
 obtain rfl:=si j
 exact ⟨_,rfl,(by kernel_rfl),aa⟩
 refine xn 5<|dF<|sk ?_
 obtain rfl:=si j
 exact ⟨_,rfl,(by kernel_rfl),aa⟩
 refine g0<|ct 1 J ?_ ?_ (kd:= .u8)<;>intro az J
 refine e6 2 J ?_ ?_ (kd:= .u8)<;>intro aA J
 refine xn 2 ?_
 obtain rfl:=si J
 exact ⟨_,true,rfl,(by kernel_rfl),U⟩
 refine xn 2 ?_
 obtain rfl:=si J
 exact ⟨_,false,rfl,(by kernel_rfl),U⟩
 refine xn 5 ?_
 obtain rfl:=si J
 exact ⟨_,false,rfl,(by kernel_rfl),U⟩
 refine g0<|ct 1 I ?_ ?_ (kd:= .u8)<;>intro aB I
 refine e6 2 I ?_ ?_ (kd:= .u8)<;>intro aC I
 refine xn 2 ?_
 obtain rfl:=si I
 exact ⟨_,true,rfl,(by kernel_rfl),hS⟩
 refine xn 2 ?_
 obtain rfl:=si I
 exact ⟨_,false,rfl,(by kernel_rfl),hS⟩
 refine xn 5 ?_
 obtain rfl:=si I
 exact ⟨_,false,rfl,(by kernel_rfl),hS⟩
def A7:List aQ:=[u 6 (mv 0),u 7 (.convert 21 5 (t 6)),u 8 (.buildSlice 31 1 #[(0,(t 7))]),u 2 (sg 8)]
def Cw:List aQ:=[u 12 (mv 0),u 13 (.binOp .shr 21 (t 12) (.const (.int .u64 6)) 130),u 14 (.binOp .or 21 (.const (.int .i32 192)) (t 13) 21),u 15 (.convert 21 5 (t 14)),u 16 (mv 0),u 17 (.binOp .and 21 (t 16) (.const (.int .i32 63)) 21),u 18 (.binOp .or 21 (.const (.int .i32 128)) (t 17) 21),u 19 (.convert 21 5 (t 18)),u 20 (.buildSlice 31 2 #[(0,(t 15)),(1,(t 19))]),u 2 (sg 20)]
def BM:List aQ:=[u 24 (mv 0),u 25 (.binOp .shr 21 (t 24) (.const (.int .u64 12)) 130),u 26 (.binOp .or 21 (.const (.int .i32 224)) (t 25) 21),u 27 (.convert 21 5 (t 26)),u 28 (mv 0),u 29 (.binOp .shr 21 (t 28) (.const (.int .u64 6)) 130),u 30 (.binOp .and 21 (t 29) (.const (.int .i32 63)) 21),u 31 (.binOp .or 21 (.const (.int .i32 128)) (t 30) 21),u 32 (.convert 21 5 (t 31)),u 33 (mv 0),u 34 (.binOp .and 21 (t 33) (.const (.int .i32 63)) 21),u 35 (.binOp .or 21 (.const (.int .i32 128)) (t 34) 21),u 36 (.convert 21 5 (t 35)),u 37 (.buildSlice 31 3 #[(0,(t 27)),(1,(t 32)),(2,(t 36))]),u 2 (sg 37)]
def wN:List aQ:=[u 38 (mv 0),u 39 (.binOp .shr 21 (t 38) (.const (.int .u64 18)) 130),u 40 (.binOp .or 21 (.const (.int .i32 240)) (t 39) 21),u 41 (.convert 21 5 (t 40)),u 42 (mv 0),u 43 (.binOp .shr 21 (t 42) (.const (.int .u64 12)) 130),u 44 (.binOp .and 21 (t 43) (.const (.int .i32 63)) 21),u 45 (.binOp .or 21 (.const (.int .i32 128)) (t 44) 21),u 46 (.convert 21 5 (t 45)),u 47 (mv 0),u 48 (.binOp .shr 21 (t 47) (.const (.int .u64 6)) 130),u 49 (.binOp .and 21 (t 48) (.const (.int .i32 63)) 21),u 50 (.binOp .or 21 (.const (.int .i32 128)) (t 49) 21),u 51 (.convert 21 5 (t 50)),u 52 (mv 0),u 53 (.binOp .and 21 (t 52) (.const (.int .i32 63)) 21),u 54 (.binOp .or 21 (.const (.int .i32 128)) (t 53) 21),u 55 (.convert 21 5 (t 54)),u 56 (.buildSlice 31 4 #[(0,(t 41)),(1,(t 46)),(2,(t 51)),(3,(t 55))]),u 2 (sg 56)]
def nS (F:Nat) (a0:Int):Option (List UInt8):=
 if a0<(128:Int) then
  if (0≤(IntKind.wrap .u8 a0)∧(IntKind.wrap .u8 a0)<256) then
   some ([UInt8.ofNat (IntKind.wrap .u8 a0).toNat]:List UInt8)
  else none
 else
  if a0<(2048:Int) then
   if (0≤(IntKind.wrap .u8 (a4 .i32 192 (bJ .i32 a0 6)))∧(IntKind.wrap .u8 (a4 .i32 192 (bJ .i32 a0 6)))<256)∧(0≤(IntKind.wrap .u8 (a4 .i32 128 (bz .i32 a0 63)))∧(IntKind.wrap .u8 (a4 .i32 128 (bz .i32 a0 63)))<256) then
    some ([UInt8.ofNat (IntKind.wrap .u8 (a4 .i32 192 (bJ .i32 a0 6))).toNat,UInt8.ofNat (IntKind.wrap .u8 (a4 .i32 128 (bz .i32 a0 63))).toNat]:List UInt8)
   else none
  else
   if a0<(65536:Int) then
    if (0≤(IntKind.wrap .u8 (a4 .i32 224 (bJ .i32 a0 12)))∧(IntKind.wrap .u8 (a4 .i32 224 (bJ .i32 a0 12)))<256)∧(0≤(IntKind.wrap .u8 (a4 .i32 128 (bz .i32 (bJ .i32 a0 6) 63)))∧(IntKind.wrap .u8 (a4 .i32 128 (bz .i32 (bJ .i32 a0 6) 63)))<256)∧(0≤(IntKind.wrap .u8 (a4 .i32 128 (bz .i32 a0 63)))∧(IntKind.wrap .u8 (a4 .i32 128 (bz .i32 a0 63)))<256) then
     some ([UInt8.ofNat (IntKind.wrap .u8 (a4 .i32 224 (bJ .i32 a0 12))).toNat,UInt8.ofNat (IntKind.wrap .u8 (a4 .i32 128 (bz .i32 (bJ .i32 a0 6) 63))).toNat,UInt8.ofNat (IntKind.wrap .u8 (a4 .i32 128 (bz .i32 a0 63))).toNat]:List UInt8)
    else none
   else
    if (0≤(IntKind.wrap .u8 (a4 .i32 240 (bJ .i32 a0 18)))∧(IntKind.wrap .u8 (a4 .i32 240 (bJ .i32 a0 18)))<256)∧(0≤(IntKind.wrap .u8 (a4 .i32 128 (bz .i32 (bJ .i32 a0 12) 63)))∧(IntKind.wrap .u8 (a4 .i32 128 (bz .i32 (bJ .i32 a0 12) 63)))<256)∧(0≤(IntKind.wrap .u8 (a4 .i32 128 (bz .i32 (bJ .i32 a0 6) 63)))∧(IntKind.wrap .u8 (a4 .i32 128 (bz .i32 (bJ .i32 a0 6) 63)))<256)∧(0≤(IntKind.wrap .u8 (a4 .i32 128 (bz .i32 a0 63)))∧(IntKind.wrap .u8 (a4 .i32 128 (bz .i32 a0 63)))<256) then
     some ([UInt8.ofNat (IntKind.wrap .u8 (a4 .i32 240 (bJ .i32 a0 18))).toNat,UInt8.ofNat (IntKind.wrap .u8 (a4 .i32 128 (bz .i32 (bJ .i32 a0 12) 63))).toNat,UInt8.ofNat (IntKind.wrap .u8 (a4 .i32 128 (bz .i32 (bJ .i32 a0 6) 63))).toNat,UInt8.ofNat (IntKind.wrap .u8 (a4 .i32 128 (bz .i32 a0 63))).toNat]:List UInt8)
    else none
theorem zg (F:Nat) {h:AH} {Z:Zn} {a0:Int} (hP:Pre Z h []) {r:(List UInt8)} (hm:nS F a0=some r):
  bQ Try.prog 98 [.int .i32 a0] h Z [] fun v Z' A'=>∃ v2 J,v2=v∧A'=[.gs v2 J (aa UInt8)]∧RCs (α:=UInt8) Z' J r:=by
 refine b5 Try.func98 hP ?_
 intro hs hS
 unfold nS at hm
 replace hS:St hs [] Z (0,0) Z hs []:=hS
 refine sp 1<|sq<|bk 0<|s0<|aP 1 hm ?_ ?_ (kd:= .i32)<;>intro au hm
 refine xn 1<|dT<|sr A7<|xq 1 [(6, .int .i32 a0)]<|eD 0 (.int .u8 (IntKind.wrap .u8 a0)) ?_
 obtain ⟨ag,hm⟩:=aK hm
 have ah:RCs (α:=UInt8) Z [.int .u8 (IntKind.wrap .u8 a0)] ([UInt8.ofNat (IntKind.wrap .u8 a0).toNat]:List UInt8):=RCs.cons (cs:=[.int .u8 (IntKind.wrap .u8 a0)]) (gS ag) (RCs.br _)
 refine dP rfl trivial (cX (cells:=[.int .u8 (IntKind.wrap .u8 a0)]) (s:=1) (by kernel_rfl)) (by kernel_rfl) hS ?_
 intro U av ai
 refine xn 1<|rt<|bw<|⟨rfl,?_⟩
 obtain rfl:=si hm
 refine ⟨_,_,_,tk U (ResL.nil),ai,?_⟩
 exact ⟨U,[.int .u8 (IntKind.wrap .u8 a0)],rfl,rfl,ah⟩
 refine xn 1<|dF<|s0<|aP 1 hm ?_ ?_ (kd:= .i32)<;>intro aw hm
 refine xn 1<|dT<|sr Cw<|eD 3 (.int .u8 (IntKind.wrap .u8 (a4 .i32 192 (bJ .i32 a0 6))))<|xq 3 [(18, .int .i32 (a4 .i32 128 (bz .i32 a0 63))),(15, .int .u8 (IntKind.wrap .u8 (a4 .i32 192 (bJ .i32 a0 6))))]<|eD 0 (.int .u8 (IntKind.wrap .u8 (a4 .i32 128 (bz .i32 a0 63)))) ?_
 obtain ⟨ab,hm⟩:=aK hm
 have aj:RCs (α:=UInt8) Z [.int .u8 (IntKind.wrap .u8 (a4 .i32 192 (bJ .i32 a0 6))), .int .u8 (IntKind.wrap .u8 (a4 .i32 128 (bz .i32 a0 63)))] ([UInt8.ofNat (IntKind.wrap .u8 (a4 .i32 192 (bJ .i32 a0 6))).toNat,UInt8.ofNat (IntKind.wrap .u8 (a4 .i32 128 (bz .i32 a0 63))).toNat]:List UInt8):=RCs.cons (cs:=[.int .u8 (IntKind.wrap .u8 (a4 .i32 192 (bJ .i32 a0 6)))]) (gS ab.1) (RCs.cons (cs:=[.int .u8 (IntKind.wrap .u8 (a4 .i32 128 (bz .i32 a0 63)))]) (gS ab.2) (RCs.br _))
 refine dP rfl trivial (cX (cells:=[.int .u8 (IntKind.wrap .u8 (a4 .i32 192 (bJ .i32 a0 6))), .int .u8 (IntKind.wrap .u8 (a4 .i32 128 (bz .i32 a0 63)))]) (s:=1) (by kernel_rfl)) (by kernel_rfl) hS ?_
 intro ad ax al
 refine xn 1<|rt<|bw<|⟨rfl,?_⟩
 obtain rfl:=si hm
 refine ⟨_,_,_,tk ad (ResL.nil),al,?_⟩
 exact ⟨ad,[.int .u8 (IntKind.wrap .u8 (a4 .i32 192 (bJ .i32 a0 6))), .int .u8 (IntKind.wrap .u8 (a4 .i32 128 (bz .i32 a0 63)))],rfl,rfl,aj⟩
 refine xn 1<|dF<|s0<|aP 1 hm ?_ ?_ (kd:= .i32)<;>intro ay hm
 refine xn 1<|dT<|sr BM<|eD 3 (.int .u8 (IntKind.wrap .u8 (a4 .i32 224 (bJ .i32 a0 12))))<|eD 4 (.int .u8 (IntKind.wrap .u8 (a4 .i32 128 (bz .i32 (bJ .i32 a0 6) 63))))<|xq 3 [(35, .int .i32 (a4 .i32 128 (bz .i32 a0 63))),(32, .int .u8 (IntKind.wrap .u8 (a4 .i32 128 (bz .i32 (bJ .i32 a0 6) 63)))),(27, .int .u8 (IntKind.wrap .u8 (a4 .i32 224 (bJ .i32 a0 12))))] ?_
 refine eD 0 (.int .u8 (IntKind.wrap .u8 (a4 .i32 128 (bz .i32 a0 63)))) ?_
 obtain ⟨I,hm⟩:=aK hm
 have an:RCs (α:=UInt8) Z [.int .u8 (IntKind.wrap .u8 (a4 .i32 224 (bJ .i32 a0 12))), .int .u8 (IntKind.wrap .u8 (a4 .i32 128 (bz .i32 (bJ .i32 a0 6) 63))), .int .u8 (IntKind.wrap .u8 (a4 .i32 128 (bz .i32 a0 63)))] ([UInt8.ofNat (IntKind.wrap .u8 (a4 .i32 224 (bJ .i32 a0 12))).toNat,UInt8.ofNat (IntKind.wrap .u8 (a4 .i32 128 (bz .i32 (bJ .i32 a0 6) 63))).toNat,UInt8.ofNat (IntKind.wrap .u8 (a4 .i32 128 (bz .i32 a0 63))).toNat]:List UInt8):=RCs.cons (cs:=[.int .u8 (IntKind.wrap .u8 (a4 .i32 224 (bJ .i32 a0 12)))]) (gS I.1) (RCs.cons (cs:=[.int .u8 (IntKind.wrap .u8 (a4 .i32 128 (bz .i32 (bJ .i32 a0 6) 63)))]) (gS I.2.1) (RCs.cons (cs:=[.int .u8 (IntKind.wrap .u8 (a4 .i32 128 (bz .i32 a0 63)))]) (gS I.2.2) (RCs.br _)))
 refine dP rfl trivial (cX (cells:=[.int .u8 (IntKind.wrap .u8 (a4 .i32 224 (bJ .i32 a0 12))), .int .u8 (IntKind.wrap .u8 (a4 .i32 128 (bz .i32 (bJ .i32 a0 6) 63))), .int .u8 (IntKind.wrap .u8 (a4 .i32 128 (bz .i32 a0 63)))]) (s:=1) (by kernel_rfl)) (by kernel_rfl) hS ?_
 intro ae az ao
 refine xn 1<|rt<|bw<|⟨rfl,?_⟩
 obtain rfl:=si hm
 refine ⟨_,_,_,tk ae (ResL.nil),ao,?_⟩
 exact ⟨ae,[.int .u8 (IntKind.wrap .u8 (a4 .i32 224 (bJ .i32 a0 12))), .int .u8 (IntKind.wrap .u8 (a4 .i32 128 (bz .i32 (bJ .i32 a0 6) 63))), .int .u8 (IntKind.wrap .u8 (a4 .i32 128 (bz .i32 a0 63)))],rfl,rfl,an⟩
 refine xn 1<|dF<|sk<|sr wN<|eD 3 (.int .u8 (IntKind.wrap .u8 (a4 .i32 240 (bJ .i32 a0 18))))<|eD 4 (.int .u8 (IntKind.wrap .u8 (a4 .i32 128 (bz .i32 (bJ .i32 a0 12) 63))))<|eD 4 (.int .u8 (IntKind.wrap .u8 (a4 .i32 128 (bz .i32 (bJ .i32 a0 6) 63))))<|xq 3 [(54, .int .i32 (a4 .i32 128 (bz .i32 a0 63))),(51, .int .u8 (IntKind.wrap .u8 (a4 .i32 128 (bz .i32 (bJ .i32 a0 6) 63)))),(46, .int .u8 (IntKind.wrap .u8 (a4 .i32 128 (bz .i32 (bJ .i32 a0 12) 63)))),(41, .int .u8 (IntKind.wrap .u8 (a4 .i32 240 (bJ .i32 a0 18))))] ?_
 refine eD 0 (.int .u8 (IntKind.wrap .u8 (a4 .i32 128 (bz .i32 a0 63)))) ?_
 obtain ⟨j,hm⟩:=aK hm
 have aq:RCs (α:=UInt8) Z [.int .u8 (IntKind.wrap .u8 (a4 .i32 240 (bJ .i32 a0 18))), .int .u8 (IntKind.wrap .u8 (a4 .i32 128 (bz .i32 (bJ .i32 a0 12) 63))), .int .u8 (IntKind.wrap .u8 (a4 .i32 128 (bz .i32 (bJ .i32 a0 6) 63))), .int .u8 (IntKind.wrap .u8 (a4 .i32 128 (bz .i32 a0 63)))] ([UInt8.ofNat (IntKind.wrap .u8 (a4 .i32 240 (bJ .i32 a0 18))).toNat,UInt8.ofNat (IntKind.wrap .u8 (a4 .i32 128 (bz .i32 (bJ .i32 a0 12) 63))).toNat,UInt8.ofNat (IntKind.wrap .u8 (a4 .i32 128 (bz .i32 (bJ .i32 a0 6) 63))).toNat,UInt8.ofNat (IntKind.wrap .u8 (a4 .i32 128 (bz .i32 a0 63))).toNat]:List UInt8):=RCs.cons (cs:=[.int .u8 (IntKind.wrap .u8 (a4 .i32 240 (bJ .i32 a0 18)))]) (gS j.1) (RCs.cons (cs:=[.int .u8 (IntKind.wrap .u8 (a4 .i32 128 (bz .i32 (bJ .i32 a0 12) 63)))]) (gS j.2.1) (RCs.cons (cs:=[.int .u8 (IntKind.wrap .u8 (a4 .i32 128 (bz .i32 (bJ .i32 a0 6) 63)))]) (gS j.2.2.1) (RCs.cons (cs:=[.int .u8 (IntKind.wrap .u8 (a4 .i32 128 (bz .i32 a0 63)))]) (gS j.2.2.2) (RCs.br _))))
 refine dP rfl trivial (cX (cells:=[.int .u8 (IntKind.wrap .u8 (a4 .i32 240 (bJ .i32 a0 18))), .int .u8 (IntKind.wrap .u8 (a4 .i32 128 (bz .i32 (bJ .i32 a0 12) 63))), .int .u8 (IntKind.wrap .u8 (a4 .i32 128 (bz .i32 (bJ .i32 a0 6) 63))), .int .u8 (IntKind.wrap .u8 (a4 .i32 128 (bz .i32 a0 63)))]) (s:=1) (by kernel_rfl)) (by kernel_rfl) hS ?_
 intro af aA ar
 refine xn 1<|rt<|⟨rfl,?_⟩
 obtain rfl:=si hm
 refine ⟨_,_,_,tk af (ResL.nil),ar,?_⟩
 exact ⟨af,[.int .u8 (IntKind.wrap .u8 (a4 .i32 240 (bJ .i32 a0 18))), .int .u8 (IntKind.wrap .u8 (a4 .i32 128 (bz .i32 (bJ .i32 a0 12) 63))), .int .u8 (IntKind.wrap .u8 (a4 .i32 128 (bz .i32 (bJ .i32 a0 6) 63))), .int .u8 (IntKind.wrap .u8 (a4 .i32 128 (bz .i32 a0 63)))],rfl,rfl,aq⟩
def EP:List aQ:=[u 10 (mv 0),u 11 (cb .len #[(t 10)] #[9]),u 12 (bc .lss 3 11 2 3),u 13 (mv 12),gn 13 14 (mv 0),gn 13 15 (.index 9 (t 14) (ci 0)),gn 13 16 (.binOp .neq 5 (t 15) (.const (.int .u8 92)) 5),u 17 (pt 13 16)]
def xp:List aQ:=[u 19 (mv 0),u 20 (.index 9 (t 19) (ci 1)),u 21 (cf 96 #[(t 20)] #[5]),u 18 (mv 21),u 22 (.extract (t 18) 0),u 23 (.extract (t 18) 1),u 4 (sg 22),u 5 (sg 23)]
def xY:List aQ:=[u 26 (mv 0),u 27 (.index 9 (t 26) (ci 1))]
def Dp:List aQ:=[u 48 (mv 0),u 49 (mv 8),u 50 (.binOp .add 3 (ci 2) (t 49) 3),u 51 (.index 9 (t 48) (t 50)),u 52 (cf 97 #[(t 51)] #[5]),u 9 (sg 52)]
def yj:List aQ:=[u 69 (mv 7),u 70 (.convert 3 21 (t 69)),u 71 (cf 98 #[(t 70)] #[21]),u 72 (.convert 31 9 (t 71)),u 73 (mv 6),u 74 (.binOp .add 3 (ci 2) (t 73) 3),u 2 (sg 72),u 3 (sg 74)]
def correctorref5_Escape_l0 (F:Nat) (a0:ar):Nat→Int→Int→Int→Option (Sum (Int×Int) (ar×Int))
 | 0,_,_,_=>none
 | n+1,I,J,j=>
  if j<I then
   if 0≤(af (2+j)) then
    (a0.b[(af (2+j)).toNat]?).bind fun aa=>
    (nE F (aa.toNat:Int)).bind fun U=>
    if U<(0:Int) then
     some (.inr ((⟨[]⟩:ar),0))
    else
     correctorref5_Escape_l0 F a0 n I (af ((af (16 * J))+U)) (af (j+1))
   else none
  else
   some (.inl (I,J))
def correctorref5_Escape (F:Nat) (a0:ar):Option (ar×Int):=
 if (a0.b.length:Int)<(2:Int) then
  some ((⟨[]⟩:ar),0)
 else
  if 0≤(0:Int) then
   (a0.b[(0:Int).toNat]?).bind fun aa=>
   if (aa.toNat:Int)=(92:Int) then
    if 0≤(1:Int) then
     (a0.b[(1:Int).toNat]?).bind fun ab=>
     (nI F (ab.toNat:Int)).bind fun U=>
     if U.2=true then
      some (U.1,2)
     else
      ((if 0≤(1:Int) then
        (a0.b[(1:Int).toNat]?).bind fun I=>
        if (I.toNat:Int)=(120:Int) then
         some 2
        else
         if (I.toNat:Int)=(117:Int) then
          some 4
         else
          if (I.toNat:Int)=(85:Int) then
           some 8
          else
           some 0
       else none):Option Int).bind fun o=>match o with
       | J=>if J=(0:Int) then
        some ((⟨[]⟩:ar),0)
       else
        if (a0.b.length:Int)<(af (2+J)) then
         some ((⟨[]⟩:ar),0)
        else
         ((correctorref5_Escape_l0 F a0 F J 0 0):Option (Sum (Int×Int) (ar×Int))).bind fun o=>match o with
          | .inl (ad,j)=>((if (1114111:Int)<j then
            some (.inr ((⟨[]⟩:ar),0))
           else
            if (55296:Int)≤j then
             if j≤(57343:Int) then
              some (.inr ((⟨[]⟩:ar),0))
             else
              some (.inl ())
            else
             some (.inl ())):Option (Sum Unit (ar×Int))).bind fun o=>match o with
           | .inl ()=>(nS F (IntKind.wrap .i32 j)).bind fun ae=>
           some ((⟨ae⟩:ar),af (2+ad))
           | .inr y=>some y
          | .inr y=>some y
    else none
   else
    some ((⟨[]⟩:ar),0)
  else none
theorem BL (F:Nat) {h:AH} {Z:Zn} {a0:ar} (hI:Inv Z h) {r:ar×Int} (hm:correctorref5_Escape F a0=some r):
  bV Try.prog 87 [.string ⟨⟨a0.b⟩⟩] h Z (.tuple #[.string ⟨⟨r.1.b⟩⟩,V r.2]):=by
 refine bW Try.func87 hI ?_
 intro hs hS
 unfold correctorref5_Escape at hm
 refine sp 2<|sq<|sr EP<|aP 2 hm ?_ ?_<;>intro a1 hm
 refine xn 5<|dT<|sp 2<|rt<|⟨rfl,?_⟩
 obtain rfl:=si hm
 refine ⟨_,_,_,tk (.string ⟨⟨[]⟩⟩) (tk (V 0) (ResL.nil)),hS,?_⟩
 exact rfl
 refine xq 2 [(14, .string ⟨⟨a0.b⟩⟩),(13, .bool false),(0, .string ⟨⟨a0.b⟩⟩)] ?_
 obtain ⟨aC,hm⟩:=aK hm
 obtain ⟨a2,aD,hm⟩:=ai hm
 refine bN rfl rfl (jy (bs:=a0.b) (i:=0) rfl rfl (by kernel_rfl) aC aD)<|c7 0 hm ?_ ?_ (kd:= .u8)<;>intro a3 hm
 refine xn 1<|dF<|sk<|sr xp<|xq 1 [(19, .string ⟨⟨a0.b⟩⟩),(0, .string ⟨⟨a0.b⟩⟩)] ?_
 obtain ⟨aF,hm⟩:=aK hm
 obtain ⟨a4,aG,hm⟩:=ai hm
 refine bN rfl trivial (jy (bs:=a0.b) (i:=1) rfl rfl (by kernel_rfl) aF aG) ?_
 obtain ⟨aH,aJ,hm⟩:=ai hm
 refine cP 0 hS (vM F hS.inv aJ) ?_
 rintro _ a5 ah rfl
 refine xn 5<|sq<|sp 1<|db hm ?_ ?_<;>intro a6 hm
 refine sp 3<|rt<|⟨rfl,?_⟩
 obtain rfl:=si hm
 refine ⟨_,_,_,tk (.string ⟨⟨aH.1.b⟩⟩) (tk (V 2) (ResL.nil)),ah,?_⟩
 exact rfl
 refine sk<|sp 1<|sq ?_
 obtain ⟨aL,J,hm⟩:=ai hm
 refine aI [0,6] (fun l h=>∃ av aj,aj=aL∧l=[(0, .string ⟨⟨a0.b⟩⟩),(6,V aj)]∧St hs [] Z (0,0) av h []) ?_ ?_
 rintro l a7 ⟨av,aj,rfl,rfl,an⟩
 try dsimp only at hm
 refine sq<|s0<|aE 1 hm ?_ ?_<;>intro a8 hm
 refine xn 7<|dT<|sp 2<|rt<|⟨rfl,?_⟩
 obtain rfl:=si hm
 refine ⟨_,_,_,tk (.string ⟨⟨[]⟩⟩) (tk (V 0) (ResL.nil)),an,?_⟩
 exact rfl
 refine aP 5 hm ?_ ?_<;>intro a9 hm
 refine xn 1<|dT<|sp 2<|rt<|⟨rfl,?_⟩
 obtain rfl:=si hm
 refine ⟨_,_,_,tk (.string ⟨⟨[]⟩⟩) (tk (V 0) (ResL.nil)),an,?_⟩
 exact rfl
 refine xn 1<|dF<|sk<|sp 1<|sq<|sp 1 ?_
 obtain ⟨ao,I,hm⟩:=ai hm
 refine aI [6,7] (fun l h=>∃ aw ab ad, .inl (ab,ad)=ao∧l=[(6,V ab),(7,V ad)]∧St hs [] Z (0,0) aw h []) ?_ ?_
 rintro l ba ⟨aw,ab,ad,rfl,rfl,al⟩
 try dsimp only at hm
 refine sq ?_
 obtain ⟨aM,U,hm⟩:=ai hm
 refine dY [6,7] (fun l h=>∃ ax, .inl ()=aM∧l=[(6,V ab),(7,V ad)]∧St hs [] Z (0,0) ax h []) (by kernel_rfl) ?_ ?_
 rintro l bb ⟨ax,rfl,rfl,ay⟩
 try dsimp only at hm
 refine sr yj<|xq 1 [(69,V ad),(6,V ab)]<|eD 0 (.int .i32 (IntKind.wrap .i32 ad)) ?_
 obtain ⟨aO,aR,hm⟩:=ai hm
 refine c0 0 ay (zg F ay.ez aR) ?_
 rintro _ bc bd _ bf az ⟨bg,bh,rfl,rfl,aT⟩
 refine bN rfl trivial (tK az (j:=0) rfl aT rfl (by kernel_rfl))<|xn 4<|rt<|⟨rfl,?_⟩
 obtain rfl:=si hm
 refine ⟨_,_,_,tk (.string ⟨⟨aO⟩⟩) (tk (V (af (2+ab))) (ResL.nil)),az,?_⟩
 exact rfl
 refine g0<|cz 1 U ?_ ?_<;>intro bj U
 refine xn 8<|dT<|sp 2<|rt<|⟨rfl,?_⟩
 obtain rfl:=si U
 obtain rfl:=si hm
 refine ⟨_,_,_,tk (.string ⟨⟨[]⟩⟩) (tk (V 0) (ResL.nil)),al,?_⟩
 exact rfl
 refine ct 2 U ?_ ?_<;>intro bl U
 refine e6 2 U ?_ ?_<;>intro bm U
 refine xn 2<|dT<|sp 2<|rt<|⟨rfl,?_⟩
 obtain rfl:=si U
 obtain rfl:=si hm
 refine ⟨_,_,_,tk (.string ⟨⟨[]⟩⟩) (tk (V 0) (ResL.nil)),al,?_⟩
 exact rfl
 refine xn 2<|dF<|sk ?_
 obtain rfl:=si U
 exact ⟨_,rfl,(by kernel_rfl),al⟩
 refine xn 5<|dF<|sk ?_
 obtain rfl:=si U
 exact ⟨_,rfl,(by kernel_rfl),al⟩
 refine bk 1<|lp [0,6,7,8] (fun n l h=>∃ aA ae ag aa,correctorref5_Escape_l0 F a0 n ae ag aa=some ao∧l=[(0, .string ⟨⟨a0.b⟩⟩),(6,V ae),(7,V ag),(8,V aa)]∧St hs [] Z (0,0) aA h []) F ⟨_,aj,0,0,I,(by kernel_rfl),an⟩ ?_
 rintro aq l bn ⟨aA,ae,ag,aa,I,rfl,au⟩
 rcases aq with _ | aq
 cases (show none=some ao from I)
 rw [correctorref5_Escape_l0] at I
 refine sq<|s0<|aP 2 I ?_ ?_<;>intro bo I
 refine xn 0<|dT<|sk<|sq<|bk 2<|sr Dp<|xq 3 [(50,V (af (2+aa))),(48, .string ⟨⟨a0.b⟩⟩),(0, .string ⟨⟨a0.b⟩⟩),(6,V ae),(7,V ag),(8,V aa)] ?_
 obtain ⟨aU,I⟩:=aK I
 obtain ⟨bp,aV,I⟩:=ai I
 refine bN rfl trivial (jy (bs:=a0.b) (i:=af (2+aa)) rfl rfl (by kernel_rfl) aU aV) ?_
 obtain ⟨aW,aX,I⟩:=ai I
 refine cP 0 au (CE F au.inv aX) ?_
 rintro _ br aB rfl
 refine xn 1<|sq<|s0<|aP 1 I ?_ ?_<;>intro bt I
 refine xn 0<|dT<|sp 2<|rt<|bw<|bw<|⟨rfl,?_⟩
 obtain rfl:=si I
 obtain rfl:=si hm
 refine ⟨_,_,_,tk (.string ⟨⟨[]⟩⟩) (tk (V 0) (ResL.nil)),aB,?_⟩
 exact rfl
 refine xn 0<|dF<|sk<|gp 5<|gp 3 ?_
 exact ⟨aq,Nat.lt_succ_self _,⟨_,ae,af ((af (16 * ag))+aW),af (aa+1),I,(by kernel_rfl),aB⟩⟩
 refine xn 0<|dF<|xt 1<|aN ?_
 obtain rfl:=si I
 exact ⟨_,ae,ag,rfl,(by kernel_rfl),au⟩
 refine sr xY<|xq 1 [(26, .string ⟨⟨a0.b⟩⟩),(6,V 0),(0, .string ⟨⟨a0.b⟩⟩)] ?_
 obtain ⟨aY,J⟩:=aK J
 obtain ⟨bu,aZ,J⟩:=ai J
 refine bN rfl trivial (jy (bs:=a0.b) (i:=1) rfl rfl (by kernel_rfl) aY aZ)<|xn 0<|bk 0<|s0<|aE 0 J ?_ ?_ (kd:= .u8)<;>intro bx J
 refine xn 1<|dT<|gp 1 ?_
 obtain rfl:=si J
 exact ⟨_,2,rfl,(by kernel_rfl),ah⟩
 refine xn 1<|dF<|s0<|aE 0 J ?_ ?_ (kd:= .u8)<;>intro bz J
 refine xn 1<|dT<|gp 1 ?_
 obtain rfl:=si J
 exact ⟨_,4,rfl,(by kernel_rfl),ah⟩
 refine xn 1<|dF<|s0<|aE 0 J ?_ ?_ (kd:= .u8)<;>intro bA J
 refine xn 1<|dT<|gp 1 ?_
 obtain rfl:=si J
 exact ⟨_,8,rfl,(by kernel_rfl),ah⟩
 refine xn 1<|dF<|sk ?_
 obtain rfl:=si J
 exact ⟨_,0,rfl,(by kernel_rfl),ah⟩
 refine xn 1<|dT<|sp 2<|rt<|⟨rfl,?_⟩
 obtain rfl:=si hm
 refine ⟨_,_,_,tk (.string ⟨⟨[]⟩⟩) (tk (V 0) (ResL.nil)),hS,?_⟩
 exact rfl
def wS:List aQ:=[u 14 (mv 0),u 15 (mv 7),u 16 (.index 9 (t 14) (t 15)),u 17 (.binOp .eql 5 (t 16) (.const (.int .u8 34)) 5)]
def Eg:List aQ:=[u 20 (mv 0),u 21 (mv 7),u 22 (.index 9 (t 20) (t 21)),u 23 (.binOp .neq 5 (t 22) (.const (.int .u8 92)) 5)]
def zA:List aQ:=[u 24 (mv 5),u 25 (mv 0),u 26 (mv 7),u 27 (mv 7),u 28 (bc .add 3 27 1 3),u 29 (.slice 9 (t 25) (some (t 26)) (some (t 28)) none),u 30 (bo .add 9 24 29 9),u 5 (sg 30)]
def Eh:List aQ:=[u 34 (mv 0),u 35 (mv 7),u 36 (.slice 9 (t 34) (some (t 35)) none none),u 37 (cf 87 #[(t 36)] #[9]),u 33 (mv 37),u 38 (.extract (t 33) 0),u 39 (.extract (t 33) 1),u 8 (sg 38),u 9 (sg 39)]
def Cr:List aQ:=[u 42 (mv 6),u 43 (mv 7),u 44 (.buildSlice 23 1 #[(0,(t 43))]),u 45 (cb .append #[(t 42),(t 44)] #[23,23]),u 6 (sg 45)]
def yP:List aQ:=[u 46 (mv 0),u 47 (mv 7),u 48 (mv 7),u 49 (bc .add 3 48 1 3),u 50 (.slice 9 (t 46) (some (t 47)) (some (t 49)) none),u 8 (sg 50),u 9 (.assign (ci 1))]
def B5:List aQ:=[u 51 (mv 5),u 52 (mv 8),u 53 (bo .add 9 51 52 9),u 5 (sg 53)]
def correctorref7_double_l0 (F:Nat) (a0:ar):Nat→ar→(List Int)→Int→Option (Sum (ar×(List Int)) (ar×(List Int)×Bool))
 | 0,_,_,_=>none
 | n+1,I,J,j=>
  if j<(a0.b.length:Int) then
   if 0≤j then
    (a0.b[j.toNat]?).bind fun ab=>
    if (ab.toNat:Int)=(34:Int) then
     some (.inr (I,J,true))
    else
     if 0≤j then
      (a0.b[j.toNat]?).bind fun ad=>
      if (ad.toNat:Int)=(92:Int) then
       if 0≤j∧j≤(a0.b.length:Int)∧(a0.b.length:Int)≤(a0.b.length:Int) then
        (correctorref5_Escape F (⟨(a0.b.take (a0.b.length:Int).toNat).drop j.toNat⟩:ar)).bind fun U=>
        ((if U.2=(0:Int) then
          if J.length+([j]:List Int).length≤17592186044416 then
           if 0≤j∧j≤(af (j+1))∧(af (j+1))≤(a0.b.length:Int) then
            some (J++([j]:List Int),(⟨(a0.b.take (af (j+1)).toNat).drop j.toNat⟩:ar),1)
           else none
          else none
         else
          some (J,U.1,U.2)):Option ((List Int)×ar×Int)).bind fun o=>match o with
         | (ae,aa,ag)=>if I.b.length+aa.b.length≤4611686018427387904 then
          correctorref7_double_l0 F a0 n (⟨I.b++aa.b⟩:ar) ae (af (j+ag))
         else none
       else none
      else
       if 0≤j∧j≤(af (j+1))∧(af (j+1))≤(a0.b.length:Int) then
        if I.b.length+((a0.b.take (af (j+1)).toNat).drop j.toNat).length≤4611686018427387904 then
         correctorref7_double_l0 F a0 n (⟨I.b++((a0.b.take (af (j+1)).toNat).drop j.toNat)⟩:ar) J (af (j+1))
        else none
       else none
     else none
   else none
  else
   some (.inl (I,J))
def mQ (F:Nat) (a0:ar):Option (ar×(List Int)×Bool):=
 ((correctorref7_double_l0 F a0 F (⟨[]⟩:ar) [] 1):Option (Sum (ar×(List Int)) (ar×(List Int)×Bool))).bind fun o=>match o with
  | .inl (j,I)=>some (j,I,false)
  | .inr y=>some y
theorem Aa (F:Nat) {h:AH} {Z:Zn} {a0:ar} (hP:Pre Z h []) {r:ar×(List Int)×Bool} (hm:mQ F a0=some r):
  bQ Try.prog 74 [.string ⟨⟨a0.b⟩⟩] h Z [] fun v Z' A'=>∃ v2 aJ, .tuple #[.string ⟨⟨r.1.b⟩⟩,v2, .bool r.2.2]=v∧A'=[.gs v2 aJ (aa Int)]∧RCs (α:=Int) Z' aJ r.2.1:=by
 refine b5 Try.func74 hP ?_
 intro hs hS
 unfold mQ at hm
 replace hS:St hs [] Z (0,0) Z hs []:=hS
 refine sp 3<|sp 1<|sp 1<|sq<|sp 1 ?_
 obtain ⟨aA,J,hm⟩:=ai hm
 refine aI [5,6] (fun l h=>∃ aB au aC ah av, .inl (au,aC)=aA∧RCs (α:=Int) aB av aC∧l=[(5, .string ⟨⟨au.b⟩⟩),(6,ah)]∧St hs [] Z (0,0) aB h [.gs ah av (aa Int)]) ?_ ?_
 rintro l bb ⟨aB,au,aC,ah,av,rfl,aT,rfl,aU⟩
 try dsimp only at hm
 refine sp 5<|rt<|⟨rfl,?_⟩
 obtain rfl:=si hm
 refine ⟨_,_,_,tk (.string ⟨⟨au.b⟩⟩) (tk ah (tk (.bool false) (ResL.nil))),aU,?_⟩
 exact ⟨ah,av,rfl,rfl,aT⟩
 refine bk 0 ?_
 have aV:=hS.c9 (aa Int)
 refine lp [0,5,6,7] (fun n l h=>∃ aw U ae I ab ag,correctorref7_double_l0 F a0 n U ae I=some aA∧RCs (α:=Int) aw ag ae∧l=[(0, .string ⟨⟨a0.b⟩⟩),(5, .string ⟨⟨U.b⟩⟩),(6,ab),(7,V I)]∧St hs [] Z (0,0) aw h [.gs ab ag (aa Int)]) F ⟨_,(⟨[]⟩:ar),[],1,(.slice none 0 0),[],J,(RCs.br _),(by kernel_rfl),aV⟩ ?_
 rintro ax l bc ⟨aw,U,ae,I,ab,ag,J,aj,rfl,al⟩
 rcases ax with _ | ax
 cases (show none=some aA from J)
 rw [correctorref7_double_l0] at J
 refine sq<|s0<|aP 3 J ?_ ?_<;>intro bd J
 refine xn 0<|dT<|sk<|bk 1<|sq<|sr wS<|xq 2 [(15,V I),(14, .string ⟨⟨a0.b⟩⟩),(0, .string ⟨⟨a0.b⟩⟩),(5, .string ⟨⟨U.b⟩⟩),(6,ab),(7,V I)] ?_
 obtain ⟨aW,J⟩:=aK J
 obtain ⟨bf,aX,J⟩:=ai J
 refine bN rfl trivial (jy (bs:=a0.b) (i:=I) rfl rfl (by kernel_rfl) aW aX)<|aE 0 J ?_ ?_ (kd:= .u8)<;>intro bg J
 refine xn 0<|dT<|sp 5<|rt<|bw<|bw<|⟨rfl,?_⟩
 obtain rfl:=si J
 obtain rfl:=si hm
 refine ⟨_,_,_,tk (.string ⟨⟨U.b⟩⟩) (tk ab (tk (.bool true) (ResL.nil))),al,?_⟩
 exact ⟨ab,ag,rfl,rfl,aj⟩
 refine xn 0<|dF<|sk<|sq<|sr Eg<|xq 2 [(21,V I),(20, .string ⟨⟨a0.b⟩⟩),(0, .string ⟨⟨a0.b⟩⟩),(5, .string ⟨⟨U.b⟩⟩),(6,ab),(7,V I)] ?_
 obtain ⟨aY,J⟩:=aK J
 obtain ⟨bh,aZ,J⟩:=ai J
 refine bN rfl trivial (jy (bs:=a0.b) (i:=I) rfl rfl (by kernel_rfl) aY aZ)<|c7 0 J ?_ ?_ (kd:= .u8)<;>intro bj J
 refine xn 0<|dF<|sk<|sr Eh<|xq 2 [(35,V I),(34, .string ⟨⟨a0.b⟩⟩),(0, .string ⟨⟨a0.b⟩⟩),(5, .string ⟨⟨U.b⟩⟩),(6,ab),(7,V I)] ?_
 obtain ⟨aD,J⟩:=aK J
 refine bN rfl trivial (o5 (bs:=a0.b) (a:=I) (b:=(a0.b.length:Int)) rfl (by kernel_rfl) ⟨_,rfl⟩ rfl aD.1 aD.2.1 aD.2.2) ?_
 obtain ⟨aL,a1,J⟩:=ai J
 refine cP 0 al (BL F (a0:=(⟨(a0.b.take (a0.b.length:Int).toNat).drop I.toNat⟩:ar)) al.inv a1) ?_
 rintro _ bl aM rfl
 refine xn 5<|sq ?_
 obtain ⟨a2,ad,J⟩:=ai J
 refine dY [0,5,6,7,8,9] (fun l h=>∃ aF ay an ao aq az,(ay,an,ao)=a2∧RCs (α:=Int) aF az ay∧l=[(0, .string ⟨⟨a0.b⟩⟩),(5, .string ⟨⟨U.b⟩⟩),(6,aq),(7,V I),(8, .string ⟨⟨an.b⟩⟩),(9,V ao)]∧St hs [] Z (0,0) aF h [.gs aq az (aa Int)]) (by kernel_rfl) ?_ ?_
 rintro l bm ⟨aF,ay,an,ao,aq,az,rfl,a3,rfl,a4⟩
 try dsimp only at J
 refine sr B5<|xq 2 [(52, .string ⟨⟨an.b⟩⟩),(51, .string ⟨⟨U.b⟩⟩),(0, .string ⟨⟨a0.b⟩⟩),(5, .string ⟨⟨U.b⟩⟩),(6,aq),(7,V I),(9,V ao)] ?_
 obtain ⟨a5,J⟩:=aK J
 refine bN rfl trivial (ou rfl rfl (by simpa using a5))<|xn 1<|gp 4 ?_
 exact ⟨ax,Nat.lt_succ_self _,⟨_,(⟨U.b++an.b⟩:ar),ay,af (I+ao),aq,az,J,a3,(by kernel_rfl),a4⟩⟩
 refine g0<|aE 1 ad ?_ ?_<;>intro bn ad
 refine xn 0<|dT<|sr Cr<|xq 2 [(43,V I),(42,ab),(0, .string ⟨⟨a0.b⟩⟩),(5, .string ⟨⟨U.b⟩⟩),(6,ab),(7,V I)] ?_
 have a6:RCs (α:=Int) aw [V I] ([I]:List Int):=RCs.cons (cs:=[V I]) rfl (RCs.br _)
 refine dP rfl trivial (cX (cells:=[V I]) (s:=1) (by kernel_rfl)) (by kernel_rfl) aM ?_
 intro bo bp aO
 obtain ⟨bt,ad⟩:=aK ad
 refine eS rfl trivial (dG (ys:=([I]:List Int)) (bS:=8) aO (i:=1) rfl aj ((aO).eA (j:=0) rfl a6) rfl rfl (by kernel_rfl) (by omega) (by omega)) ?_
 rintro aR a7 bu ⟨a8,a9⟩
 refine xn 1<|rg yP<|xq 4 [(49,V (af (I+1))),(47,V I),(46, .string ⟨⟨a0.b⟩⟩),(6,aR),(0, .string ⟨⟨a0.b⟩⟩),(5, .string ⟨⟨U.b⟩⟩),(7,V I)] ?_
 obtain ⟨aG,ad⟩:=aK ad
 refine bN rfl trivial (o5 (bs:=a0.b) (a:=I) (b:=af (I+1)) rfl (by kernel_rfl) ⟨_,rfl⟩ ⟨_,rfl⟩ aG.1 aG.2.1 aG.2.2)<|xn 2 ?_
 obtain rfl:=si ad
 exact ⟨_,ae++([I]:List Int),(⟨(a0.b.take (af (I+1)).toNat).drop I.toNat⟩:ar),1,aR,a7,rfl,a8,(by kernel_rfl),((a9.front 1 rfl).takeN 1)⟩
 refine xn 0<|dF<|sk ?_
 obtain rfl:=si ad
 exact ⟨_,ae,aL.1,aL.2,ab,ag,rfl,aj,(by kernel_rfl),aM⟩
 refine xn 0<|dT<|sr zA<|xq 5 [(28,V (af (I+1))),(26,V I),(25, .string ⟨⟨a0.b⟩⟩),(24, .string ⟨⟨U.b⟩⟩),(0, .string ⟨⟨a0.b⟩⟩),(5, .string ⟨⟨U.b⟩⟩),(6,ab),(7,V I)] ?_
 obtain ⟨aH,J⟩:=aK J
 refine bN rfl trivial (o5 (bs:=a0.b) (a:=I) (b:=af (I+1)) rfl (by kernel_rfl) ⟨_,rfl⟩ ⟨_,rfl⟩ aH.1 aH.2.1 aH.2.2) ?_
 obtain ⟨ba,J⟩:=aK J
 refine bN rfl trivial (ou rfl rfl (by simpa using ba))<|xn 1<|sp 3<|xt 1<|aN ?_
 exact ⟨ax,Nat.lt_succ_self _,⟨_,(⟨U.b++((a0.b.take (af (I+1)).toNat).drop I.toNat)⟩:ar),ae,af (I+1),ab,ag,J,aj,(by kernel_rfl),al⟩⟩
 refine xn 0<|dF<|xt 0<|aN ?_
 obtain rfl:=si J
 exact ⟨_,U,ae,ab,ag,rfl,aj,(by kernel_rfl),al⟩
def AO:List aQ:=[u 9 (mv 1),u 10 (.binOp .eql 9 (t 9) (.const (.string {data:=#[]})) 9)]
def nZ (F:Nat) (a0:Int) (a1:ar):Option (ar×(List Int)×Bool):=
 if a1=(⟨[]⟩:ar) then
  some ((⟨[]⟩:ar),[],false)
 else
  if a0=(15:Int) then
   some (a1,[],true)
  else
   if a0=(16:Int) then
    (nK F a1).bind fun I=>
    some (I.1,[],I.2)
   else
    if a0=(17:Int) then
     (mQ F a1).bind fun j=>
     some (j.1,j.2.1,j.2.2)
    else
     some ((⟨[]⟩:ar),[],false)
theorem AY (F:Nat) {h:AH} {Z:Zn} {a0:Int} {a1:ar} (hP:Pre Z h []) {r:ar×(List Int)×Bool} (hm:nZ F a0 a1=some r):
  bQ Try.prog 50 [V a0, .string ⟨⟨a1.b⟩⟩] h Z [] fun v Z' A'=>∃ v2 I, .tuple #[.string ⟨⟨r.1.b⟩⟩,v2, .bool r.2.2]=v∧A'=[.gs v2 I (aa Int)]∧RCs (α:=Int) Z' I r.2.1:=by
 refine b5 Try.func50 hP ?_
 intro hs hS
 unfold nZ at hm
 replace hS:St hs [] Z (0,0) Z hs []:=hS
 refine sp 3<|sq<|sr AO<|xq 1 [(9, .string ⟨⟨a1.b⟩⟩),(0,V a0),(1, .string ⟨⟨a1.b⟩⟩)] ?_
 rcases ifs hm with ⟨j,hm⟩ | ⟨j,hm⟩
 refine bN rfl trivial (bp rfl rfl (Cx (a:=a1) (b:=(⟨[]⟩:ar)) j))<|xn 0<|dT<|sp 3<|rt<|⟨rfl,?_⟩
 have ad:=hS.c9 (aa Int)
 obtain rfl:=si hm
 refine ⟨_,_,_,tk (.string ⟨⟨[]⟩⟩) (tk (.slice none 0 0) (tk (.bool false) (ResL.nil))),ad,?_⟩
 exact ⟨(.slice none 0 0),[],rfl,rfl,(RCs.br _)⟩
 refine bN rfl trivial (bp rfl rfl (zC (a:=a1) (b:=(⟨[]⟩:ar)) j))<|xn 0<|dF<|sk<|sq<|sp 1<|bk 0<|s0<|aE 0 hm ?_ ?_<;>intro au hm
 refine xn 1<|dT<|sp 4<|rt<|bw<|⟨rfl,?_⟩
 have ae:=hS.c9 (aa Int)
 obtain rfl:=si hm
 refine ⟨_,_,_,tk (.string ⟨⟨a1.b⟩⟩) (tk (.slice none 0 0) (tk (.bool true) (ResL.nil))),ae,?_⟩
 exact ⟨(.slice none 0 0),[],rfl,rfl,(RCs.br _)⟩
 refine xn 1<|dF<|s0<|aE 0 hm ?_ ?_<;>intro av hm
 refine xn 1<|dT<|s0 ?_
 obtain ⟨J,af,hm⟩:=ai hm
 refine cP 1 hS (vH F hS.inv af) ?_
 rintro _ aw ag rfl
 refine xn 5<|sp 5<|rt<|bw<|⟨rfl,?_⟩
 have ah:=ag.c9 (aa Int)
 obtain rfl:=si hm
 refine ⟨_,_,_,tk (.string ⟨⟨J.1.b⟩⟩) (tk (.slice none 0 0) (tk (.bool J.2) (ResL.nil))),ah,?_⟩
 exact ⟨(.slice none 0 0),[],rfl,rfl,(RCs.br _)⟩
 refine xn 1<|dF<|s0<|aE 0 hm ?_ ?_<;>intro ax hm
 refine xn 1<|dT<|s0 ?_
 obtain ⟨U,aj,hm⟩:=ai hm
 refine c0 1 hS (Aa F hS.ez aj) ?_
 rintro _ ay az _ aA al ⟨ab,an,rfl,rfl,ao⟩
 refine xn 6<|rt<|bw<|⟨rfl,?_⟩
 obtain rfl:=si hm
 refine ⟨_,_,_,tk (.string ⟨⟨U.1.b⟩⟩) (tk ab (tk (.bool U.2.2) (ResL.nil))),al,?_⟩
 exact ⟨ab,an,rfl,rfl,ao⟩
 refine xn 1<|dF<|sk<|sp 3<|rt<|⟨rfl,?_⟩
 have aq:=hS.c9 (aa Int)
 obtain rfl:=si hm
 refine ⟨_,_,_,tk (.string ⟨⟨[]⟩⟩) (tk (.slice none 0 0) (tk (.bool false) (ResL.nil))),aq,?_⟩
 exact ⟨(.slice none 0 0),[],rfl,rfl,(RCs.br _)⟩
def zm:List bq:=[uP 27 (mv 7),uP 28 (mv 8),uP 29 (mv 9),uP 30 (ia 23 28 29),uL 31 (ld 3 30),uP 32 (mv 8),uP 33 (mv 9),uP 34 (ia 23 32 33),uL 35 (ld 3 34),uP 36 (bc .add 3 35 1 3),uP 37 (.build 92 #[(0,(ci 1)),(1,(t 31)),(2,(t 36))]),uF 38 (.buildSlice 28 1 #[(0,(t 37))]) .fresh [],uF 39 (cb .append #[(t 27),(t 38)] #[28,28]) .make [4,8],uP 7 (sg 39)]
def xZ:List bq:=[uP 108 (mv 7),uP 109 (mv 1),uP 110 (mv 11),uP 111 (ia 24 109 110),uP 112 (fa 85 111 1),uL 113 (ld 3 112),uP 114 (mv 1),uP 115 (mv 11),uP 116 (ia 24 114 115),uP 117 (fa 85 116 2),uL 118 (ld 3 117),uP 119 (.build 92 #[(0,(ci 2)),(1,(t 113)),(2,(t 118))]),uF 120 (.buildSlice 28 1 #[(0,(t 119))]) .fresh [],uF 121 (cb .append #[(t 108),(t 120)] #[28,28]) .make [5,10],uP 7 (sg 121)]
def z0:List bq:=[uP 143 (mv 1),uP 144 (mv 14),uP 145 (ia 24 143 144),uP 146 (fa 85 145 0),uL 147 (ld 3 146),uP 148 (mv 0),uP 149 (mv 1),uP 150 (mv 14),uP 151 (ia 24 149 150),uP 152 (fa 85 151 1),uL 153 (ld 3 152),uP 154 (mv 1),uP 155 (mv 14),uP 156 (ia 24 154 155),uP 157 (fa 85 156 2),uL 158 (ld 3 157),uP 159 (.slice 31 (t 148) (some (t 153)) (some (t 158)) none),uL 160 (.convert 31 9 (t 159)),uF 161 (cf 50 #[(t 147),(t 160)] #[3,9]) .make [4,10,15,17],uP 142 (mv 161),uP 162 (.extract (t 142) 0),uP 163 (.extract (t 142) 1),uP 164 (.extract (t 142) 2),uP 15 (sg 162),uP 16 (sg 163),uP 17 (sg 164)]
def zI:List bq:=[uP 167 (mv 7),uP 168 (mv 1),uP 169 (mv 14),uP 170 (ia 24 168 169),uP 171 (fa 85 170 1),uL 172 (ld 3 171),uP 173 (mv 1),uP 174 (mv 14),uP 175 (ia 24 173 174),uP 176 (fa 85 175 2),uL 177 (ld 3 176),uP 178 (.build 92 #[(0,(ci 3)),(1,(t 172)),(2,(t 177))]),uF 179 (.buildSlice 28 1 #[(0,(t 178))]) .fresh [],uF 180 (cb .append #[(t 167),(t 179)] #[28,28]) .make [5,10],uP 7 (sg 180)]
def DD:List bq:=[uP 187 (mv 7),uP 188 (mv 1),uP 189 (mv 14),uP 190 (ia 24 188 189),uP 191 (fa 85 190 1),uL 192 (ld 3 191),uP 193 (mv 16),uP 194 (mv 18),uP 195 (ia 23 193 194),uL 196 (ld 3 195),uP 197 (bo .add 3 192 196 3),uP 198 (mv 1),uP 199 (mv 14),uP 200 (ia 24 198 199),uP 201 (fa 85 200 1),uL 202 (ld 3 201),uP 203 (mv 16),uP 204 (mv 18),uP 205 (ia 23 203 204),uL 206 (ld 3 205),uP 207 (bo .add 3 202 206 3),uP 208 (bc .add 3 207 1 3),uP 209 (.build 92 #[(0,(ci 4)),(1,(t 197)),(2,(t 208))]),uF 210 (.buildSlice 28 1 #[(0,(t 209))]) .fresh [],uF 211 (cb .append #[(t 187),(t 210)] #[28,28]) .make [5,9,15,19],uP 7 (sg 211)]
def correctorref12_told_l0 (F:Nat) (a0:List UInt8) (a1:List ak) (ab:List an):Nat→(List aj)→(List Int)→Int→Option (List aj)
 | 0,_,_,_=>none
 | n+1,J,I,j=>
  if j<(I.length:Int) then
   if 0≤j∧j<(I.length:Int) then
    (I[j.toNat]?).bind fun U=>
    if 0≤j∧j<(I.length:Int) then
     (I[j.toNat]?).bind fun aa=>
     if J.length+[(⟨1,U,af (aa+1)⟩:aj)].length≤5864062014805 then
      correctorref12_told_l0 F a0 a1 ab n (J++[(⟨1,U,af (aa+1)⟩:aj)]) I (af (j+1))
     else none
    else none
   else none
  else
   some J
def correctorref12_told_l3 (F:Nat) (a0:List UInt8) (a1:List ak) (ab:List an):Nat→(List aj)→Int→Int→Bool→Int→Option ((List aj)×Int×Int×Bool)
 | 0,_,_,_,_,_=>none
 | n+1,J,U,j,aa,I=>
  if 0≤j∧j<(a1.length:Int) then
   (a1[j.toNat]?).bind fun ad=>
   if I<ad.To then
    ((if aa=true then
      some (J,true)
     else
      if 0≤I∧I<(a0.length:Int) then
       (a0[I.toNat]?).bind fun ae=>
       if (ae.toNat:Int)=(9:Int) then
        some (J,true)
       else
        some (J,false)
      else none):Option ((List aj)×Bool)).bind fun o=>match o with
     | (ag,ah)=>correctorref12_told_l3 F a0 a1 ab n ag U j ah (af (I+1))
   else
    some (J,U,j,aa)
  else none
def correctorref12_told_l2 (F:Nat) (a0:List UInt8) (a1:List ak) (U:List an):Nat→(List aj)→Int→Int→Option ((List aj)×Int)
 | 0,_,_,_=>none
 | n+1,aa,j,J=>
  if 0≤j∧j<(U.length:Int) then
   (U[j.toNat]?).bind fun ai=>
   if J<ai.To then
    if 0≤j∧j<(U.length:Int) then
     (U[j.toNat]?).bind fun al=>
     if al.Kind=(5:Int) then
      if 0≤J∧J<(a1.length:Int) then
       (a1[J.toNat]?).bind fun ao=>
       (ft F ao.Kind).bind fun aq=>
       if aq=true then
        some (aa,j)
       else
        if 0≤J∧J<(a1.length:Int) then
         (a1[J.toNat]?).bind fun ar=>
         ((correctorref12_told_l3 F a0 a1 U F aa j J false ar.ah):Option ((List aj)×Int×Int×Bool)).bind fun o=>match o with
          | (ab,au,I,av)=>((if av=true then
            if 0≤I∧I<(a1.length:Int) then
             (a1[I.toNat]?).bind fun aw=>
             if aw.Kind=(3:Int) then
              some (ab,true)
             else
              some (ab,false)
            else none
           else
            some (ab,false)):Option ((List aj)×Bool)).bind fun o=>match o with
           | (ad,ax)=>((if ax=true then
             if 0≤I∧I<(a1.length:Int) then
              (a1[I.toNat]?).bind fun ae=>
              if 0≤I∧I<(a1.length:Int) then
               (a1[I.toNat]?).bind fun ag=>
               if ad.length+[(⟨2,ae.ah,ag.To⟩:aj)].length≤5864062014805 then
                some (ad++[(⟨2,ae.ah,ag.To⟩:aj)])
               else none
              else none
             else none
            else
             some ad):Option (List aj)).bind fun o=>match o with
            | ay=>correctorref12_told_l2 F a0 a1 U n ay au (af (I+1))
        else none
      else none
     else
      some (aa,j)
    else none
   else
    some (aa,j)
  else none
def correctorref12_told_l1 (F:Nat) (a0:List UInt8) (a1:List ak) (j:List an):Nat→(List aj)→Int→Option (List aj)
 | 0,_,_=>none
 | n+1,J,I=>
  if I<(j.length:Int) then
   if 0≤I∧I<(j.length:Int) then
    (j[I.toNat]?).bind fun U=>
    ((correctorref12_told_l2 F a0 a1 j F J I U.ah):Option ((List aj)×Int)).bind fun o=>match o with
     | (aa,ab)=>correctorref12_told_l1 F a0 a1 j n aa (af (ab+1))
   else none
  else
   some J
def correctorref12_told_l5 (F:Nat) (a0:List UInt8) (a1:List ak) (ag:List an):Nat→(List aj)→Int→(List Int)→Int→Option ((List aj)×Int)
 | 0,_,_,_,_=>none
 | n+1,U,j,J,I=>
  if I<(J.length:Int) then
   if 0≤j∧j<(a1.length:Int) then
    (a1[j.toNat]?).bind fun aa=>
    if 0≤I∧I<(J.length:Int) then
     (J[I.toNat]?).bind fun ab=>
     if 0≤j∧j<(a1.length:Int) then
      (a1[j.toNat]?).bind fun ad=>
      if 0≤I∧I<(J.length:Int) then
       (J[I.toNat]?).bind fun ae=>
       if U.length+[(⟨4,af (aa.ah+ab),af ((af (ad.ah+ae))+1)⟩:aj)].length≤5864062014805 then
        correctorref12_told_l5 F a0 a1 ag n (U++[(⟨4,af (aa.ah+ab),af ((af (ad.ah+ae))+1)⟩:aj)]) j J (af (I+1))
       else none
      else none
     else none
    else none
   else none
  else
   some (U,j)
def correctorref12_told_l4 (F:Nat) (a0:List UInt8) (a1:List ak) (ad:List an):Nat→(List aj)→Int→Option (List aj)
 | 0,_,_=>none
 | n+1,I,j=>
  if j<(a1.length:Int) then
   ((((if 0≤j∧j<(a1.length:Int) then
      (a1[j.toNat]?).bind fun ai=>
      if ai.Kind=(16:Int) then
       some (.inl I)
      else
       if 0≤j∧j<(a1.length:Int) then
        (a1[j.toNat]?).bind fun al=>
        if al.Kind=(17:Int) then
         some (.inl I)
        else
         some (.inr (I,j))
       else none
     else none):Option (Sum (List aj) ((List aj)×Int))).bind fun o=>match o with
     | .inl J=>if 0≤j∧j<(a1.length:Int) then
      (a1[j.toNat]?).bind fun ao=>
      if 0≤j∧j<(a1.length:Int) then
       (a1[j.toNat]?).bind fun U=>
       if 0≤j∧j<(a1.length:Int) then
        (a1[j.toNat]?).bind fun aa=>
        if 0≤U.ah∧U.ah≤aa.To∧aa.To≤(a0.length:Int) then
         (nZ F ao.Kind (⟨(a0.take aa.To.toNat).drop U.ah.toNat⟩:ar)).bind fun ab=>
         ((if ab.2.2=true then
           some (J,ab.2.1)
          else
           if 0≤j∧j<(a1.length:Int) then
            (a1[j.toNat]?).bind fun ae=>
            if 0≤j∧j<(a1.length:Int) then
             (a1[j.toNat]?).bind fun ag=>
             if J.length+[(⟨3,ae.ah,ag.To⟩:aj)].length≤5864062014805 then
              some (J++[(⟨3,ae.ah,ag.To⟩:aj)],ab.2.1)
             else none
            else none
           else none):Option ((List aj)×(List Int))).bind fun o=>match o with
          | (aq,au)=>((correctorref12_told_l5 F a0 a1 ad F aq j au 0):Option ((List aj)×Int)).bind fun o=>match o with
           | (av,aw)=>some (av,aw)
        else none
       else none
      else none
     else none
     | .inr y=>some y):Option ((List aj)×Int)).bind fun o=>match o with
    | (ax,ay)=>correctorref12_told_l4 F a0 a1 ad n ax (af (ay+1))
  else
   some I
def mn (F:Nat) (a0:List UInt8) (a1:List ak) (j:List an):Option (List aj):=
 (mM F a0).bind fun I=>
 ((correctorref12_told_l0 F a0 a1 j F [] I 0):Option (List aj)).bind fun o=>match o with
  | J=>((correctorref12_told_l1 F a0 a1 j F J 0):Option (List aj)).bind fun o=>match o with
   | U=>((correctorref12_told_l4 F a0 a1 j F U 0):Option (List aj)).bind fun o=>match o with
    | aa=>some aa
theorem Dm (F:Nat) {h:AH} {Z:Zn} {a0:List UInt8} {a1:List ak} {bg:List an} {v2 v4 v6} (hP:Pre Z h []) (cj:RS (α:=UInt8) Z v2 a0) (U:RS (α:=ak) Z v4 a1) (bn:RS (α:=an) Z v6 bg) {r:(List aj)} (hm:mn F a0 a1 bg=some r):
  bQ Try.prog 24 [v2,v4,v6] h Z [] fun v Z' A'=>∃ ew eB,ew=v∧A'=[.gs ew eB (aa aj)]∧RCs (α:=aj) Z' eB r:=by
 refine b5 Try.func24 hP ?_
 intro hs hS
 unfold mn at hm
 replace hS:St hs [] Z (0,0) Z hs []:=hS
 refine sp 1<|sp 1<|s0 ?_
 obtain ⟨fv,fw,hm⟩:=ai hm
 refine c0 1 hS (Av F hS.ez cj fw) ?_
 rintro _ hB hC _ hD fx ⟨fy,fz,rfl,rfl,fA⟩
 refine xn 1<|sq<|sp 1 ?_
 obtain ⟨dx,au,hm⟩:=ai hm
 refine aI [0,1,2,7] (fun l h=>∃ dy ck cl cn,ck=dx∧RCs (α:=aj) dy cn ck∧l=[(0,v2),(1,v4),(2,v6),(7,cl)]∧St hs [] Z (0,0) dy h [.gs cl cn (aa aj)]) ?_ ?_
 rintro l hE ⟨dy,ck,cl,cn,rfl,fB,rfl,fC⟩
 try dsimp only at hm
 refine sq<|sp 1 ?_
 obtain ⟨dz,ay,hm⟩:=ai hm
 refine aI [0,1,7] (fun l h=>∃ dA cp cq cr,cp=dz∧RCs (α:=aj) dA cr cp∧l=[(0,v2),(1,v4),(7,cq)]∧St hs [] Z (0,0) dA h [.gs cq cr (aa aj)]) ?_ ?_
 rintro l hF ⟨dA,cp,cq,cr,rfl,fE,rfl,fG⟩
 try dsimp only at hm
 refine sq<|sp 1 ?_
 obtain ⟨dB,aW,hm⟩:=ai hm
 refine aI [7] (fun l h=>∃ dD dE bZ ct,dE=dB∧RCs (α:=aj) dD ct dE∧l=[(7,bZ)]∧St hs [] Z (0,0) dD h [.gs bZ ct (aa aj)]) ?_ ?_
 rintro l hG ⟨dD,dE,bZ,ct,rfl,fH,rfl,fI⟩
 try dsimp only at hm
 refine sp 2<|rt<|⟨rfl,?_⟩
 obtain rfl:=si hm
 refine ⟨_,_,_,tk bZ (ResL.nil),fI,?_⟩
 exact ⟨bZ,ct,rfl,rfl,fH⟩
 refine bk 8<|lp [0,1,7,14] (fun n l h=>∃ dH bo J bp bt,correctorref12_told_l4 F a0 a1 bg n bo J=some dB∧RCs (α:=aj) dH bt bo∧l=[(0,v2),(1,v4),(7,bp),(14,V J)]∧St hs [] Z (0,0) dH h [.gs bp bt (aa aj)]) F ⟨_,cp,0,cq,cr,aW,fE,(by kernel_rfl),fG⟩ ?_
 rintro dI l hH ⟨dH,bo,J,bp,bt,aW,cu,rfl,aX⟩
 rcases dI with _ | dI
 cases (show none=some dB from aW)
 rw [correctorref12_told_l4] at aW
 refine sq<|s0<|bG 2 v4 (RS.len (U.mono aX.ag))<|aP 0 aW ?_ ?_<;>intro hI aW
 refine xn 0<|dT<|sk<|sq ?_
 obtain ⟨fK,ab,aW⟩:=ai aW
 refine aI [0,1,7,14] (fun l h=>∃ dJ cw cx cz cA,(cw,cx)=fK∧RCs (α:=aj) dJ cA cw∧l=[(0,v2),(1,v4),(7,cz),(14,V cx)]∧St hs [] Z (0,0) dJ h [.gs cz cA (aa aj)]) ?_ ?_
 rintro l hJ ⟨dJ,cw,cx,cz,cA,rfl,fL,rfl,fM⟩
 try dsimp only at aW
 refine gp 3 ?_
 exact ⟨dI,Nat.lt_succ_self _,⟨_,cw,af (cx+1),cz,cA,aW,fL,(by kernel_rfl),fM⟩⟩
 refine bk 9<|sq ?_
 obtain ⟨fN,az,ab⟩:=ai ab
 refine aI [0,1,7,14] (fun l h=>∃ dK b0 ae bI, .inl b0=fN∧RCs (α:=aj) dK bI b0∧l=[(0,v2),(1,v4),(7,ae),(14,V J)]∧St hs [] Z (0,0) dK h [.gs ae bI (aa aj)]) ?_ ?_
 rintro l hK ⟨dK,b0,ae,bI,rfl,eC,rfl,aM⟩
 try dsimp only at ab
 refine cU z0 aM ?_
 intro hL hM hN bJ
 refine yq 2 [(144,V J),(143,v4),(0,v2),(1,v4),(7,ae),(14,V J)] ?_
 obtain ⟨eD,ab⟩:=aK ab
 refine aG rfl trivial (bF rfl rfl (by kernel_rfl:slTy _ _=some (aa ak)) (RS.c8 (U.mono aM.ag) (by omega)) eD.1 eD.2)<|yq 1 [(146, .pointer (some (bj v4 J (aa ak) 0))),(0,v2),(1,v4),(7,ae),(14,V J)] ?_
 obtain ⟨bM,fO,ab⟩:=ai ab
 obtain ⟨hO,fP,fQ⟩:=RS.cy (U.mono aM.ag) (i:=J) fO
 obtain rfl:=ey fP
 refine cM rfl rfl trivial (fun h2 hz=>bL (w:=V bM.Kind) (fQ h2 hz) rfl (by kernel_rfl)) (bJ.b1 (aO.refl _)) (aC (v:=V bM.Kind) trivial) trivial<|yq 3 [(150,V J),(149,v4),(148,v2),(147,V bM.Kind),(0,v2),(1,v4),(7,ae),(14,V J)] ?_
 obtain ⟨eF,ab⟩:=aK ab
 refine aG rfl trivial (bF rfl rfl (by kernel_rfl:slTy _ _=some (aa ak)) (RS.c8 (U.mono aM.ag) (by omega)) eF.1 eF.2)<|yq 1 [(152, .pointer (some (bj v4 J (aa ak) 1))),(148,v2),(147,V bM.Kind),(0,v2),(1,v4),(7,ae),(14,V J)] ?_
 obtain ⟨bN,fR,ab⟩:=ai ab
 obtain ⟨hQ,fS,fT⟩:=RS.cy (U.mono aM.ag) (i:=J) fR
 obtain rfl:=ey fS
 refine cM rfl rfl trivial (fun h2 hz=>bL (w:=V bN.ah) (fT h2 hz) rfl (by kernel_rfl)) (bJ.b1 (aO.refl _)) (aC (v:=V bN.ah) trivial) trivial<|yq 2 [(155,V J),(154,v4),(153,V bN.ah),(148,v2),(147,V bM.Kind),(0,v2),(1,v4),(7,ae),(14,V J)] ?_
 obtain ⟨eG,ab⟩:=aK ab
 refine aG rfl trivial (bF rfl rfl (by kernel_rfl:slTy _ _=some (aa ak)) (RS.c8 (U.mono aM.ag) (by omega)) eG.1 eG.2)<|yq 1 [(157, .pointer (some (bj v4 J (aa ak) 2))),(153,V bN.ah),(148,v2),(147,V bM.Kind),(0,v2),(1,v4),(7,ae),(14,V J)] ?_
 obtain ⟨cB,fU,ab⟩:=ai ab
 obtain ⟨hR,fV,fW⟩:=RS.cy (U.mono aM.ag) (i:=J) fU
 obtain rfl:=ey fV
 refine cM rfl rfl trivial (fun h2 hz=>bL (w:=V cB.To) (fW h2 hz) rfl (by kernel_rfl)) (bJ.b1 (aO.refl _)) (aC (v:=V cB.To) trivial) trivial ?_
 obtain ⟨dL,ab⟩:=aK ab
 refine oP rfl trivial (iP (a:=bN.ah) (b:=cB.To) (cj.mono aM.ag) rfl (by kernel_rfl:slTy _ _=some (aa UInt8)) ⟨_,rfl⟩ ⟨_,rfl⟩ dL.1 dL.2.1 dL.2.2) ?_
 intro hT fX
 refine cM rfl rfl trivial (zQ fX rfl (by kernel_rfl)) (bJ.b1 (aO.refl _)) (aC (by trivial)) trivial ?_
 obtain ⟨dM,fY,ab⟩:=ai ab
 have fZ:=bJ.cJ
 have eH:St _ _ _ _ _ _ ([]++[.gs ae bI (aa aj)]):=fZ
 obtain ⟨hU,hV,ga,hW,gb,dN,a8,dO,rfl,rfl,eI⟩:=AY F (a1:=(⟨(a0.take cB.To.toNat).drop bN.ah.toNat⟩:ar)) eH.eE fY
 have gd:=eH.call dN
 have bO:=dN.ag
 refine fD rfl trivial bJ (dg gb rfl rfl rfl) gd (St.fJ dN) ?_
 intro hX gf
 refine ye 7 [(17, .bool dM.2.2),(16,a8),(0,v2),(1,v4),(7,ae),(14,V J)] ?_
 have eJ:=gf.a5
 refine sq ?_
 obtain ⟨gg,aF,ab⟩:=ai ab
 refine aI [0,1,7,14,16] (fun l h=>∃ cC cD cE cF cG cH cI,(cD,cE)=gg∧RCs (α:=aj) cC cG cD∧RCs (α:=Int) cC cI cE∧l=[(0,v2),(1,v4),(7,cF),(14,V J),(16,cH)]∧St hs [] Z (0,0) cC h [.gs cF cG (aa aj), .gs cH cI (aa Int)]) ?_ ?_
 rintro l hY ⟨cC,cD,cE,cF,cG,cH,cI,rfl,gh,gi,rfl,gj⟩
 try dsimp only at ab
 refine sp 1 ?_
 obtain ⟨dP,ad,ab⟩:=ai ab
 refine aI [0,1,7,14] (fun l h=>∃ dQ cK cL cQ cR,(cK,cL)=dP∧RCs (α:=aj) dQ cR cK∧l=[(0,v2),(1,v4),(7,cQ),(14,V cL)]∧St hs [] Z (0,0) dQ h [.gs cQ cR (aa aj)]) ?_ ?_
 rintro l hZ ⟨dQ,cK,cL,cQ,cR,rfl,gk,rfl,gl⟩
 try dsimp only at ab
 obtain rfl:=si ab
 exact ⟨_,cK,cL,cQ,cR,rfl,gk,(by kernel_rfl),gl⟩
 refine bk 10<|lp [0,1,7,14,16,18] (fun n l h=>∃ b2 b3 ao cS aw aq b4 al b6,correctorref12_told_l5 F a0 a1 bg n b3 ao cS aw=some dP∧RCs (α:=aj) b2 b4 b3∧RCs (α:=Int) b2 b6 cS∧l=[(0,v2),(1,v4),(7,aq),(14,V ao),(16,al),(18,V aw)]∧St hs [] Z (0,0) b2 h [.gs aq b4 (aa aj), .gs al b6 (aa Int)]) F ⟨_,cD,J,cE,0,cF,cG,cH,cI,ad,gh,gi,(by kernel_rfl),gj⟩ ?_
 rintro dR l h3 ⟨b2,b3,ao,cS,aw,aq,b4,al,b6,ad,eK,bl,rfl,bu⟩
 rcases dR with _ | dR
 cases (show none=some dP from ad)
 rw [correctorref12_told_l5] at ad
 refine sq<|s0<|bG 2 al (bu.da (i:=1) rfl bl)<|aP 0 ad ?_ ?_<;>intro h4 ad
 refine xn 0<|dT<|sk<|sq<|bk 11<|ee DD bu ?_
 intro eL h5 eM bf
 refine yq 3 [(189,V ao),(188,v4),(187,aq),(0,v2),(1,v4),(7,aq),(14,V ao),(16,al),(18,V aw)] ?_
 obtain ⟨eN,ad⟩:=aK ad
 refine aG rfl trivial (bF rfl rfl (by kernel_rfl:slTy _ _=some (aa ak)) (RS.c8 (U.mono bu.ag) (by omega)) eN.1 eN.2)<|yq 1 [(191, .pointer (some (bj v4 ao (aa ak) 1))),(187,aq),(0,v2),(1,v4),(7,aq),(14,V ao),(16,al),(18,V aw)] ?_
 obtain ⟨aH,gm,ad⟩:=ai ad
 obtain ⟨h6,gn,gq⟩:=RS.cy (U.mono bu.ag) (i:=ao) gm
 obtain rfl:=ey gn
 refine cM rfl rfl trivial (fun h2 hz=>bL (w:=V aH.ah) (gq h2 hz) rfl (by kernel_rfl)) (bf.b1 (aO.refl _)) (aC (v:=V aH.ah) trivial) trivial<|yq 2 [(194,V aw),(193,al),(192,V aH.ah),(187,aq),(0,v2),(1,v4),(7,aq),(14,V ao),(16,al),(18,V aw)] ?_
 obtain ⟨eO,ad⟩:=aK ad
 refine aG rfl trivial (bF rfl rfl (by kernel_rfl:slTy _ _=some (aa Int)) (bf.bK (j:=1) rfl bl (by omega)) eO.1 eO.2) ?_
 obtain ⟨aL,eP,ad⟩:=ai ad
 obtain ⟨h7,gr,gu,h8⟩:=bf.cm (j:=1) rfl bl (i:=aw) eP
 obtain rfl:=iN gr
 have gv:=dw eP
 have eQ:=bf.bK (j:=1) rfl bl gv
 have h9:(baseOf al).block<eL:=dn (eM.1 _ (List.mem_of_getElem? (i:=1) rfl)) eQ
 refine di rfl trivial rfl (by show (baseOf al).block<_;omega) (aC (v:=V aL) trivial) (bL (w:=V aL) gu rfl (by kernel_rfl)) trivial<|yq 3 [(199,V ao),(198,v4),(197,V (af (aH.ah+aL))),(187,aq),(0,v2),(1,v4),(7,aq),(14,V ao),(16,al),(18,V aw)] ?_
 obtain ⟨eR,ad⟩:=aK ad
 refine aG rfl trivial (bF rfl rfl (by kernel_rfl:slTy _ _=some (aa ak)) (RS.c8 (U.mono bu.ag) (by omega)) eR.1 eR.2)<|yq 1 [(201, .pointer (some (bj v4 ao (aa ak) 1))),(197,V (af (aH.ah+aL))),(187,aq),(0,v2),(1,v4),(7,aq),(14,V ao),(16,al),(18,V aw)] ?_
 obtain ⟨aY,gw,ad⟩:=ai ad
 obtain ⟨ia,gx,gy⟩:=RS.cy (U.mono bu.ag) (i:=ao) gw
 obtain rfl:=ey gx
 refine cM rfl rfl trivial (fun h2 hz=>bL (w:=V aY.ah) (gy h2 hz) rfl (by kernel_rfl)) (bf.b1 (aO.refl _)) (aC (v:=V aY.ah) trivial) trivial<|yq 2 [(204,V aw),(203,al),(202,V aY.ah),(197,V (af (aH.ah+aL))),(187,aq),(0,v2),(1,v4),(7,aq),(14,V ao),(16,al),(18,V aw)] ?_
 obtain ⟨eS,ad⟩:=aK ad
 refine aG rfl trivial (bF rfl rfl (by kernel_rfl:slTy _ _=some (aa Int)) (bf.bK (j:=1) rfl bl (by omega)) eS.1 eS.2) ?_
 obtain ⟨a9,eT,ad⟩:=ai ad
 obtain ⟨ib,gz,gA,ic⟩:=bf.cm (j:=1) rfl bl (i:=aw) eT
 obtain rfl:=iN gz
 have gB:=dw eT
 have eU:=bf.bK (j:=1) rfl bl gB
 have ie:(baseOf al).block<eL:=dn (eM.1 _ (List.mem_of_getElem? (i:=1) rfl)) eU
 refine di rfl trivial rfl (by show (baseOf al).block<_;omega) (aC (v:=V a9) trivial) (bL (w:=V a9) gA rfl (by kernel_rfl)) trivial<|yq 3 [(209, .agg #[V 4,V (af (aH.ah+aL)),V (af ((af (aY.ah+a9))+1))]),(187,aq),(0,v2),(1,v4),(7,aq),(14,V ao),(16,al),(18,V aw)] ?_
 have gC:RCs (α:=aj) b2 [V 4,V (af (aH.ah+aL)),V (af ((af (aY.ah+a9))+1))] [(⟨4,af (aH.ah+aL),af ((af (aY.ah+a9))+1)⟩:aj)]:=RCs.cons (cs:=[V 4,V (af (aH.ah+aL)),V (af ((af (aY.ah+a9))+1))]) rfl (RCs.br _)
 refine jo rfl trivial (cX (cells:=[V 4,V (af (aH.ah+aL)),V (af ((af (aY.ah+a9))+1))]) (s:=3) (by kernel_rfl)) (by kernel_rfl) bf (by omega) (Nat.add_lt_add_left (by decide) _) ?_
 intro gD ig ij ik il eV
 obtain ⟨im,ad⟩:=aK ad
 have cT:St _ _ _ _ _ _ ([.gs aq b4 (aa aj)]++[.gs gD [V 4,V (af (aH.ah+aL)),V (af ((af (aY.ah+a9))+1))] (aa aj), .gs al b6 (aa Int)]):=(eV.front 1 rfl)
 refine iz rfl trivial cT (dG (ys:=[(⟨4,af (aH.ah+aL),af ((af (aY.ah+a9))+1)⟩:aj)]) (bS:=24) cT.sub (i:=0) rfl eK ((eV.cJ).eA (j:=0) rfl gC) rfl rfl (by kernel_rfl) (by omega) (by omega)) (aO.refl _) (.a3 (cT.bH 1 rfl (km eU)) (.a3 trivial (.a3 (cT.bH 1 rfl (km eQ)) (.a3 trivial .nil)))) ?_
 rintro eW gE iq ⟨gF,gG⟩
 refine ye 1 [(7,eW),(0,v2),(1,v4),(14,V ao),(16,al),(18,V aw)] ?_
 have gH:=gG.a5
 refine gp 3 ?_
 exact ⟨dR,Nat.lt_succ_self _,⟨_,b3++[(⟨4,af (aH.ah+aL),af ((af (aY.ah+a9))+1)⟩:aj)],ao,cS,af (aw+1),eW,gE,al,b6,ad,gF,bl,(by kernel_rfl),(((gH.front 2 rfl).front 1 rfl).takeN 2)⟩⟩
 refine xn 0<|dF<|xt 10<|aN ?_
 obtain rfl:=si ad
 exact ⟨_,b3,ao,aq,b4,rfl,eK,(by kernel_rfl),(bu.takeN 1)⟩
 refine s0<|kb 1 165 aF ?_ ?_<;>intro iu aF
 refine xn 1<|dF<|sk ?_
 obtain rfl:=si aF
 exact ⟨_,b0,dM.2.1,ae,bI,a8,dO,rfl,(eC.mono bO),eI,(by kernel_rfl),((eJ.front 0 rfl).front 1 rfl)⟩
 refine xn 1<|dT<|ee zI eJ ?_
 intro iv iw ix dS
 refine yq 3 [(169,V J),(168,v4),(167,ae),(16,a8),(0,v2),(1,v4),(7,ae),(14,V J)] ?_
 obtain ⟨eX,aF⟩:=aK aF
 refine aG rfl trivial (bF rfl rfl (by kernel_rfl:slTy _ _=some (aa ak)) (RS.c8 (U.mono (aM.ag.trans bO)) (by omega)) eX.1 eX.2)<|yq 1 [(171, .pointer (some (bj v4 J (aa ak) 1))),(167,ae),(16,a8),(0,v2),(1,v4),(7,ae),(14,V J)] ?_
 obtain ⟨aR,gI,aF⟩:=ai aF
 obtain ⟨iy,gJ,gK⟩:=RS.cy (U.mono (aM.ag.trans bO)) (i:=J) gI
 obtain rfl:=ey gJ
 refine cM rfl rfl trivial (fun h2 hz=>bL (w:=V aR.ah) (gK h2 hz) rfl (by kernel_rfl)) (dS.b1 (aO.refl _)) (aC (v:=V aR.ah) trivial) trivial<|yq 2 [(174,V J),(173,v4),(172,V aR.ah),(167,ae),(16,a8),(0,v2),(1,v4),(7,ae),(14,V J)] ?_
 obtain ⟨eY,aF⟩:=aK aF
 refine aG rfl trivial (bF rfl rfl (by kernel_rfl:slTy _ _=some (aa ak)) (RS.c8 (U.mono (aM.ag.trans bO)) (by omega)) eY.1 eY.2)<|yq 1 [(176, .pointer (some (bj v4 J (aa ak) 2))),(172,V aR.ah),(167,ae),(16,a8),(0,v2),(1,v4),(7,ae),(14,V J)] ?_
 obtain ⟨ba,gL,aF⟩:=ai aF
 obtain ⟨iA,gM,gN⟩:=RS.cy (U.mono (aM.ag.trans bO)) (i:=J) gL
 obtain rfl:=ey gM
 refine cM rfl rfl trivial (fun h2 hz=>bL (w:=V ba.To) (gN h2 hz) rfl (by kernel_rfl)) (dS.b1 (aO.refl _)) (aC (v:=V ba.To) trivial) trivial<|yq 1 [(178, .agg #[V 3,V aR.ah,V ba.To]),(167,ae),(16,a8),(0,v2),(1,v4),(7,ae),(14,V J)] ?_
 have gO:RCs (α:=aj) ga [V 3,V aR.ah,V ba.To] [(⟨3,aR.ah,ba.To⟩:aj)]:=RCs.cons (cs:=[V 3,V aR.ah,V ba.To]) rfl (RCs.br _)
 refine jo rfl trivial (cX (cells:=[V 3,V aR.ah,V ba.To]) (s:=3) (by kernel_rfl)) (by kernel_rfl) dS (by omega) (Nat.add_lt_add_left (by decide) _) ?_
 intro gP iB iC iD iE eZ
 obtain ⟨iF,aF⟩:=aK aF
 have e0:St _ _ _ _ _ _ ([.gs ae bI (aa aj)]++[.gs gP [V 3,V aR.ah,V ba.To] (aa aj), .gs a8 dO (aa Int)]):=(eZ.front 2 rfl)
 refine iz rfl trivial e0 (dG (ys:=[(⟨3,aR.ah,ba.To⟩:aj)]) (bS:=24) e0.sub (i:=0) rfl (eC.mono bO) ((eZ.cJ).eA (j:=0) rfl gO) rfl rfl (by kernel_rfl) (by omega) (by omega)) (aO.refl _) (.a3 trivial (.a3 trivial .nil)) ?_
 rintro e2 gQ iG ⟨gR,gS⟩
 refine ye 1 [(7,e2),(16,a8),(0,v2),(1,v4),(14,V J)] ?_
 have gT:=gS.a5
 obtain rfl:=si aF
 exact ⟨_,b0++[(⟨3,aR.ah,ba.To⟩:aj)],dM.2.1,e2,gQ,a8,dO,rfl,gR,eI,(by kernel_rfl),(((gT.front 2 rfl).front 1 rfl).takeN 2)⟩
 refine s0<|a6 2 az (U.mono aX.ag) ?_
 intro iH az
 refine bh 1 0 (fun e3=>V e3.Kind) az (U.mono aX.ag) aX ?_
 intro e3 iI az
 refine c7 0 az ?_ ?_<;>intro iJ az
 refine xn 8<|dF<|sk ?_
 obtain rfl:=si az
 exact ⟨_,bo,bp,bt,rfl,cu,(by kernel_rfl),aX⟩
 refine a6 3 az (U.mono aX.ag) ?_
 intro iK az
 refine bh 1 0 (fun e4=>V e4.Kind) az (U.mono aX.ag) aX ?_
 intro e4 iL az
 refine c7 0 az ?_ ?_<;>intro iM az
 refine xn 1<|dF<|sk ?_
 obtain rfl:=si az
 exact ⟨_,bo,bp,bt,rfl,cu,(by kernel_rfl),aX⟩
 refine xn 1<|dT<|xt 9<|aN ?_
 obtain rfl:=si az
 obtain rfl:=si ab
 exact ⟨_,bo,J,bp,bt,rfl,cu,(by kernel_rfl),aX⟩
 refine xn 0<|dF<|xt 8<|aN ?_
 obtain rfl:=si aW
 exact ⟨_,bo,bp,bt,rfl,cu,(by kernel_rfl),aX⟩
 refine bk 2<|lp [0,1,2,7,10] (fun n l h=>∃ dU b7 cY b8 b9,correctorref12_told_l1 F a0 a1 bg n b7 cY=some dz∧RCs (α:=aj) dU b9 b7∧l=[(0,v2),(1,v4),(2,v6),(7,b8),(10,V cY)]∧St hs [] Z (0,0) dU h [.gs b8 b9 (aa aj)]) F ⟨_,ck,0,cl,cn,ay,fB,(by kernel_rfl),fC⟩ ?_
 rintro dV l iO ⟨dU,b7,cY,b8,b9,ay,e5,rfl,bP⟩
 rcases dV with _ | dV
 cases (show none=some dz from ay)
 rw [correctorref12_told_l1] at ay
 refine sq<|s0<|bG 2 v6 (RS.len (bn.mono bP.ag))<|aP 0 ay ?_ ?_<;>intro iQ ay
 refine xn 0<|dT<|sk<|sq<|bk 3<|s0<|a6 2 ay (bn.mono bP.ag) ?_
 intro iR ay
 refine bh 1 1 (fun dW=>V dW.ah) ay (bn.mono bP.ag) bP ?_
 intro dW iS ay
 refine xn 1 ?_
 obtain ⟨dX,I,ay⟩:=ai ay
 refine aI [0,1,2,7,10] (fun l h=>∃ dY c3 c4 c5 c6,(c3,c4)=dX∧RCs (α:=aj) dY c6 c3∧l=[(0,v2),(1,v4),(2,v6),(7,c5),(10,V c4)]∧St hs [] Z (0,0) dY h [.gs c5 c6 (aa aj)]) ?_ ?_
 rintro l iT ⟨dY,c3,c4,c5,c6,rfl,gU,rfl,gV⟩
 try dsimp only at ay
 refine gp 3 ?_
 exact ⟨dV,Nat.lt_succ_self _,⟨_,c3,af (c4+1),c5,c6,ay,gU,(by kernel_rfl),gV⟩⟩
 refine bk 4<|lp [0,1,2,7,10,11] (fun n l h=>∃ dZ bw bx dc bz bA,correctorref12_told_l2 F a0 a1 bg n bw bx dc=some dX∧RCs (α:=aj) dZ bA bw∧l=[(0,v2),(1,v4),(2,v6),(7,bz),(10,V bx),(11,V dc)]∧St hs [] Z (0,0) dZ h [.gs bz bA (aa aj)]) F ⟨_,b7,cY,dW.ah,b8,b9,I,e5,(by kernel_rfl),bP⟩ ?_
 rintro ea l iU ⟨dZ,bw,bx,dc,bz,bA,I,dd,rfl,aA⟩
 rcases ea with _ | ea
 cases (show none=some dX from I)
 rw [correctorref12_told_l2] at I
 refine sq<|s0<|a6 3 I (bn.mono aA.ag) ?_
 intro iV I
 refine bh 1 2 (fun e6=>V e6.To) I (bn.mono aA.ag) aA ?_
 intro e6 iW I
 refine aP 0 I ?_ ?_<;>intro iX I
 refine a6 3 I (bn.mono aA.ag) ?_
 intro iY I
 refine bh 1 0 (fun e7=>V e7.Kind) I (bn.mono aA.ag) aA ?_
 intro e7 iZ I
 refine aE 0 I ?_ ?_<;>intro ja I
 refine a6 4 I (U.mono aA.ag) ?_
 intro jb I
 refine bh 1 0 (fun e8=>V e8.Kind) I (U.mono aA.ag) aA ?_
 intro e8 jc I
 obtain ⟨jd,gW,I⟩:=ai I
 refine cP 0 aA (ir F aA.inv gW) ?_
 rintro _ je eb rfl
 refine kb 0 72 I ?_ ?_<;>intro jf I
 refine xn 2<|dF<|xt 4<|aN ?_
 obtain rfl:=si I
 exact ⟨_,bw,bx,bz,bA,rfl,dd,(by kernel_rfl),eb⟩
 refine xn 2<|dT<|sk<|sq<|bk 5<|sp 1<|sq<|s0<|a6 2 I (U.mono aA.ag) ?_
 intro jg I
 refine bh 1 1 (fun ec=>V ec.ah) I (U.mono aA.ag) eb ?_
 intro ec jh I
 refine xn 1 ?_
 obtain ⟨ed,aB,I⟩:=ai I
 refine aI [0,1,2,7,10,11,12] (fun l h=>∃ eg bR aT av eh bT bU,(bR,aT,av,eh)=ed∧RCs (α:=aj) eg bU bR∧l=[(0,v2),(1,v4),(2,v6),(7,bT),(10,V aT),(11,V av),(12, .bool eh)]∧St hs [] Z (0,0) eg h [.gs bT bU (aa aj)]) ?_ ?_
 rintro l ji ⟨eg,bR,aT,av,eh,bT,bU,rfl,ei,rfl,bV⟩
 try dsimp only at I
 refine sq ?_
 obtain ⟨gX,aZ,I⟩:=ai I
 refine aI [0,1,2,7,10,11,107] (fun l h=>∃ de ca ej aD cb,(ca,ej)=gX∧RCs (α:=aj) de cb ca∧l=[(0,v2),(1,v4),(2,v6),(7,aD),(10,V aT),(11,V av),(107, .bool ej)]∧St hs [] Z (0,0) de h [.gs aD cb (aa aj)]) ?_ ?_
 rintro l jj ⟨de,ca,ej,aD,cb,rfl,e9,rfl,bW⟩
 try dsimp only at I
 obtain ⟨gY,aJ,I⟩:=ai I
 refine aI [0,1,2,7,10,11] (fun l h=>∃ ek df dh dj,df=gY∧RCs (α:=aj) ek dj df∧l=[(0,v2),(1,v4),(2,v6),(7,dh),(10,V aT),(11,V av)]∧St hs [] Z (0,0) ek h [.gs dh dj (aa aj)]) ?_ ?_
 rintro l jk ⟨ek,df,dh,dj,rfl,gZ,rfl,g1⟩
 try dsimp only at I
 refine gp 3 ?_
 exact ⟨ea,Nat.lt_succ_self _,⟨_,df,aT,af (av+1),dh,dj,I,gZ,(by kernel_rfl),g1⟩⟩
 refine db aJ ?_ ?_<;>intro jl aJ
 refine ee xZ bW ?_
 intro jm jn jq en
 refine yq 3 [(110,V av),(109,v4),(108,aD),(0,v2),(1,v4),(2,v6),(7,aD),(10,V aT),(11,V av)] ?_
 obtain ⟨fa,aJ⟩:=aK aJ
 refine aG rfl trivial (bF rfl rfl (by kernel_rfl:slTy _ _=some (aa ak)) (RS.c8 (U.mono bW.ag) (by omega)) fa.1 fa.2)<|yq 1 [(112, .pointer (some (bj v4 av (aa ak) 1))),(108,aD),(0,v2),(1,v4),(2,v6),(7,aD),(10,V aT),(11,V av)] ?_
 obtain ⟨aU,g2,aJ⟩:=ai aJ
 obtain ⟨jr,g3,g4⟩:=RS.cy (U.mono bW.ag) (i:=av) g2
 obtain rfl:=ey g3
 refine cM rfl rfl trivial (fun h2 hz=>bL (w:=V aU.ah) (g4 h2 hz) rfl (by kernel_rfl)) (en.b1 (aO.refl _)) (aC (v:=V aU.ah) trivial) trivial<|yq 2 [(115,V av),(114,v4),(113,V aU.ah),(108,aD),(0,v2),(1,v4),(2,v6),(7,aD),(10,V aT),(11,V av)] ?_
 obtain ⟨fb,aJ⟩:=aK aJ
 refine aG rfl trivial (bF rfl rfl (by kernel_rfl:slTy _ _=some (aa ak)) (RS.c8 (U.mono bW.ag) (by omega)) fb.1 fb.2)<|yq 1 [(117, .pointer (some (bj v4 av (aa ak) 2))),(113,V aU.ah),(108,aD),(0,v2),(1,v4),(2,v6),(7,aD),(10,V aT),(11,V av)] ?_
 obtain ⟨bb,g5,aJ⟩:=ai aJ
 obtain ⟨js,g6,g7⟩:=RS.cy (U.mono bW.ag) (i:=av) g5
 obtain rfl:=ey g6
 refine cM rfl rfl trivial (fun h2 hz=>bL (w:=V bb.To) (g7 h2 hz) rfl (by kernel_rfl)) (en.b1 (aO.refl _)) (aC (v:=V bb.To) trivial) trivial<|yq 1 [(119, .agg #[V 2,V aU.ah,V bb.To]),(108,aD),(0,v2),(1,v4),(2,v6),(7,aD),(10,V aT),(11,V av)] ?_
 have g8:RCs (α:=aj) de [V 2,V aU.ah,V bb.To] [(⟨2,aU.ah,bb.To⟩:aj)]:=RCs.cons (cs:=[V 2,V aU.ah,V bb.To]) rfl (RCs.br _)
 refine jo rfl trivial (cX (cells:=[V 2,V aU.ah,V bb.To]) (s:=3) (by kernel_rfl)) (by kernel_rfl) en (by omega) (Nat.add_lt_add_left (by decide) _) ?_
 intro g9 jt ju jv jw fc
 obtain ⟨jx,aJ⟩:=aK aJ
 have fe:St _ _ _ _ _ _ ([.gs aD cb (aa aj)]++[.gs g9 [V 2,V aU.ah,V bb.To] (aa aj)]):=(fc.front 1 rfl)
 refine iz rfl trivial fe (dG (ys:=[(⟨2,aU.ah,bb.To⟩:aj)]) (bS:=24) fe.sub (i:=0) rfl e9 ((fc.cJ).eA (j:=0) rfl g8) rfl rfl (by kernel_rfl) (by omega) (by omega)) (aO.refl _) (.a3 trivial (.a3 trivial .nil)) ?_
 rintro ff ha jy ⟨hb,hc⟩
 refine ye 1 [(7,ff),(0,v2),(1,v4),(2,v6),(10,V aT),(11,V av)] ?_
 have hf:=hc.a5
 obtain rfl:=si aJ
 exact ⟨_,ca++[(⟨2,aU.ah,bb.To⟩:aj)],ff,ha,rfl,hb,(by kernel_rfl),(hf.takeN 1)⟩
 refine sk ?_
 obtain rfl:=si aJ
 exact ⟨_,ca,aD,cb,rfl,e9,(by kernel_rfl),bW⟩
 refine g0<|kb 2 100 aZ ?_ ?_<;>intro jz aZ
 refine a6 2 aZ (U.mono bV.ag) ?_
 intro jA aZ
 refine bh 1 0 (fun fg=>V fg.Kind) aZ (U.mono bV.ag) bV ?_
 intro fg jB aZ
 refine aE 0 aZ ?_ ?_<;>intro jC aZ
 refine xn 1 ?_
 obtain rfl:=si aZ
 exact ⟨_,bR,true,bT,bU,rfl,ei,(by kernel_rfl),bV⟩
 refine xn 1 ?_
 obtain rfl:=si aZ
 exact ⟨_,bR,false,bT,bU,rfl,ei,(by kernel_rfl),bV⟩
 refine xn 7 ?_
 obtain rfl:=si aZ
 exact ⟨_,bR,false,bT,bU,rfl,ei,(by kernel_rfl),bV⟩
 refine bk 6<|lp [0,1,2,7,10,11,12,13] (fun n l h=>∃ eo bB bX bY dk cc bC bD,correctorref12_told_l3 F a0 a1 bg n bB bX bY dk cc=some ed∧RCs (α:=aj) eo bD bB∧l=[(0,v2),(1,v4),(2,v6),(7,bC),(10,V bX),(11,V bY),(12, .bool dk),(13,V cc)]∧St hs [] Z (0,0) eo h [.gs bC bD (aa aj)]) F ⟨_,bw,bx,dc,false,ec.ah,bz,bA,aB,dd,(by kernel_rfl),eb⟩ ?_
 rintro ep l jD ⟨eo,bB,bX,bY,dk,cc,bC,bD,aB,dm,rfl,bc⟩
 rcases ep with _ | ep
 cases (show none=some ed from aB)
 rw [correctorref12_told_l3] at aB
 refine sq<|s0<|a6 3 aB (U.mono bc.ag) ?_
 intro jE aB
 refine bh 1 2 (fun fh=>V fh.To) aB (U.mono bc.ag) bc ?_
 intro fh jF aB
 refine aP 0 aB ?_ ?_<;>intro jG aB
 refine xn 0<|dT<|sk<|sq<|bk 7 ?_
 obtain ⟨hg,a2,aB⟩:=ai aB
 refine aI [0,1,2,7,10,11,12,13] (fun l h=>∃ er dp dq dr ds,(dp,dq)=hg∧RCs (α:=aj) er ds dp∧l=[(0,v2),(1,v4),(2,v6),(7,dr),(10,V bX),(11,V bY),(12, .bool dq),(13,V cc)]∧St hs [] Z (0,0) er h [.gs dr ds (aa aj)]) ?_ ?_
 rintro l jH ⟨er,dp,dq,dr,ds,rfl,hh,rfl,hi⟩
 try dsimp only at aB
 refine gp 3 ?_
 exact ⟨ep,Nat.lt_succ_self _,⟨_,dp,bX,bY,dq,af (cc+1),dr,ds,aB,hh,(by kernel_rfl),hi⟩⟩
 refine g0<|kb 2 92 a2 ?_ ?_<;>intro jI a2
 refine xn 7 ?_
 obtain rfl:=si a2
 exact ⟨_,bB,true,bC,bD,rfl,dm,(by kernel_rfl),bc⟩
 refine a6 2 a2 (cj.mono bc.ag) ?_
 intro jJ a2
 refine bh 0 0 (fun fi=> .int .u8 (fi.toNat:Int)) a2 (cj.mono bc.ag) bc ?_
 intro fi jK a2
 refine aE 0 a2 ?_ ?_ (kd:= .u8)<;>intro jL a2
 refine xn 2 ?_
 obtain rfl:=si a2
 exact ⟨_,bB,true,bC,bD,rfl,dm,(by kernel_rfl),bc⟩
 refine xn 2 ?_
 obtain rfl:=si a2
 exact ⟨_,bB,false,bC,bD,rfl,dm,(by kernel_rfl),bc⟩
 refine xn 0<|dF<|xt 6<|aN ?_
 obtain rfl:=si aB
 exact ⟨_,bB,bX,bY,dk,bC,bD,rfl,dm,(by kernel_rfl),bc⟩
 refine xn 10<|dF<|xt 4<|aN ?_
 obtain rfl:=si I
 exact ⟨_,bw,bx,bz,bA,rfl,dd,(by kernel_rfl),aA⟩
 refine xn 17<|dF<|xt 4<|aN ?_
 obtain rfl:=si I
 exact ⟨_,bw,bx,bz,bA,rfl,dd,(by kernel_rfl),aA⟩
 refine xn 0<|dF<|xt 2<|aN ?_
 obtain rfl:=si ay
 exact ⟨_,b7,b8,b9,rfl,e5,(by kernel_rfl),bP⟩
 refine bk 0 ?_
 have hj:=fx.c9 (aa aj)
 refine lp [0,1,2,7,8,9] (fun n l h=>∃ cd cf du aV a4 cg ax ch,correctorref12_told_l0 F a0 a1 bg n cf du aV=some dx∧RCs (α:=aj) cd cg cf∧RCs (α:=Int) cd ch du∧l=[(0,v2),(1,v4),(2,v6),(7,a4),(8,ax),(9,V aV)]∧St hs [] Z (0,0) cd h [.gs a4 cg (aa aj), .gs ax ch (aa Int)]) F ⟨_,[],fv,0,(.slice none 0 0),[],fy,fz,au,(RCs.br _),fA,(by kernel_rfl),hj⟩ ?_
 rintro et l jM ⟨cd,cf,du,aV,a4,cg,ax,ch,au,fj,bm,rfl,eu⟩
 rcases et with _ | et
 cases (show none=some dx from au)
 rw [correctorref12_told_l0] at au
 refine sq<|s0<|bG 2 ax (eu.da (i:=1) rfl bm)<|aP 0 au ?_ ?_<;>intro jN au
 refine xn 0<|dT<|sk<|sq<|bk 1<|ee zm eu ?_
 intro fk jO fl bE
 refine yq 3 [(29,V aV),(28,ax),(27,a4),(0,v2),(1,v4),(2,v6),(7,a4),(8,ax),(9,V aV)] ?_
 obtain ⟨fm,au⟩:=aK au
 refine aG rfl trivial (bF rfl rfl (by kernel_rfl:slTy _ _=some (aa Int)) (bE.bK (j:=1) rfl bm (by omega)) fm.1 fm.2) ?_
 obtain ⟨a7,fo,au⟩:=ai au
 obtain ⟨jP,hk,hl,jQ⟩:=bE.cm (j:=1) rfl bm (i:=aV) fo
 obtain rfl:=iN hk
 have hn:=dw fo
 have fp:=bE.bK (j:=1) rfl bm hn
 have jR:(baseOf ax).block<fk:=dn (fl.1 _ (List.mem_of_getElem? (i:=1) rfl)) fp
 refine di rfl trivial rfl (by show (baseOf ax).block<_;omega) (aC (v:=V a7) trivial) (bL (w:=V a7) hl rfl (by kernel_rfl)) trivial<|yq 2 [(33,V aV),(32,ax),(31,V a7),(27,a4),(0,v2),(1,v4),(2,v6),(7,a4),(8,ax),(9,V aV)] ?_
 obtain ⟨fq,au⟩:=aK au
 refine aG rfl trivial (bF rfl rfl (by kernel_rfl:slTy _ _=some (aa Int)) (bE.bK (j:=1) rfl bm (by omega)) fq.1 fq.2) ?_
 obtain ⟨bd,fr,au⟩:=ai au
 obtain ⟨jS,ho,hp,jT⟩:=bE.cm (j:=1) rfl bm (i:=aV) fr
 obtain rfl:=iN ho
 have hq:=dw fr
 have fs:=bE.bK (j:=1) rfl bm hq
 have jU:(baseOf ax).block<fk:=dn (fl.1 _ (List.mem_of_getElem? (i:=1) rfl)) fs
 refine di rfl trivial rfl (by show (baseOf ax).block<_;omega) (aC (v:=V bd) trivial) (bL (w:=V bd) hp rfl (by kernel_rfl)) trivial<|yq 2 [(37, .agg #[V 1,V a7,V (af (bd+1))]),(27,a4),(0,v2),(1,v4),(2,v6),(7,a4),(8,ax),(9,V aV)] ?_
 have hr:RCs (α:=aj) cd [V 1,V a7,V (af (bd+1))] [(⟨1,a7,af (bd+1)⟩:aj)]:=RCs.cons (cs:=[V 1,V a7,V (af (bd+1))]) rfl (RCs.br _)
 refine jo rfl trivial (cX (cells:=[V 1,V a7,V (af (bd+1))]) (s:=3) (by kernel_rfl)) (by kernel_rfl) bE (by omega) (Nat.add_lt_add_left (by decide) _) ?_
 intro ht jV jW jX jY ft
 obtain ⟨jZ,au⟩:=aK au
 have dv:St _ _ _ _ _ _ ([.gs a4 cg (aa aj)]++[.gs ht [V 1,V a7,V (af (bd+1))] (aa aj), .gs ax ch (aa Int)]):=(ft.front 1 rfl)
 refine iz rfl trivial dv (dG (ys:=[(⟨1,a7,af (bd+1)⟩:aj)]) (bS:=24) dv.sub (i:=0) rfl fj ((ft.cJ).eA (j:=0) rfl hr) rfl rfl (by kernel_rfl) (by omega) (by omega)) (aO.refl _) (.a3 (dv.bH 1 rfl (km fs)) (.a3 (dv.bH 1 rfl (km fp)) .nil)) ?_
 rintro fu hv j0 ⟨hx,hy⟩
 refine ye 1 [(7,fu),(0,v2),(1,v4),(2,v6),(8,ax),(9,V aV)] ?_
 have hA:=hy.a5
 refine gp 3 ?_
 exact ⟨et,Nat.lt_succ_self _,⟨_,cf++[(⟨1,a7,af (bd+1)⟩:aj)],du,af (aV+1),fu,hv,ax,ch,au,hx,bm,(by kernel_rfl),(((hA.front 2 rfl).front 1 rfl).takeN 2)⟩⟩
 refine xn 0<|dF<|xt 0<|aN ?_
 obtain rfl:=si au
 exact ⟨_,cf,a4,cg,rfl,fj,(by kernel_rfl),(eu.takeN 1)⟩
def nY (F:Nat) (a0:aj) (a1:aj):Option Bool:=
 if a0.ah=a1.ah then
  if a0.To=a1.To then
   if a0.Code<a1.Code then
    some true
   else
    some false
  else
   if a0.To<a1.To then
    some true
   else
    some false
 else
  if a0.ah<a1.ah then
   some true
  else
   some false
theorem v5 (F:Nat) {h:AH} {Z:Zn} {a0:aj} {a1:aj} (hI:Inv Z h) {r:Bool} (hm:nY F a0 a1=some r):
  bV Try.prog 48 [.agg #[V a0.Code,V a0.ah,V a0.To], .agg #[V a1.Code,V a1.ah,V a1.To]] h Z (.bool r):=by
 refine bW Try.func48 hI ?_
 intro hs hS
 unfold nY at hm
 refine s0<|df 0 [V a0.Code,V a0.ah,V a0.To] hS ?_
 intro J h2 I
 refine df 0 [V a1.Code,V a1.ah,V a1.To] I ?_
 intro U aa j
 refine xn 1<|sq<|s0<|aB 1 1 (V a0.ah) j rfl<|aB 1 0 (V a1.ah) j rfl<|c7 0 hm ?_ ?_<;>intro ab hm
 refine xn 0<|dF<|sk<|sq<|s0<|aB 1 1 (V a0.To) j rfl<|aB 1 0 (V a1.To) j rfl<|c7 0 hm ?_ ?_<;>intro ad hm
 refine xn 0<|dF<|sk<|s0<|aB 1 1 (V a0.Code) j rfl<|aB 1 0 (V a1.Code) j rfl<|aP 0 hm ?_ ?_<;>intro ae hm
 refine xn 1<|rt<|⟨rfl,?_⟩
 obtain rfl:=si hm
 refine ⟨_,_,_,tk (.bool true) (ResL.nil),j,?_⟩
 exact rfl
 refine xn 1<|rt<|⟨rfl,?_⟩
 obtain rfl:=si hm
 refine ⟨_,_,_,tk (.bool false) (ResL.nil),j,?_⟩
 exact rfl
 refine xn 0<|dT<|s0<|aB 1 1 (V a0.To) j rfl<|aB 1 0 (V a1.To) j rfl<|aP 0 hm ?_ ?_<;>intro af hm
 refine xn 1<|rt<|⟨rfl,?_⟩
 obtain rfl:=si hm
 refine ⟨_,_,_,tk (.bool true) (ResL.nil),j,?_⟩
 exact rfl
 refine xn 1<|rt<|⟨rfl,?_⟩
 obtain rfl:=si hm
 refine ⟨_,_,_,tk (.bool false) (ResL.nil),j,?_⟩
 exact rfl
 refine xn 0<|dT<|s0<|aB 1 1 (V a0.ah) j rfl<|aB 1 0 (V a1.ah) j rfl<|aP 0 hm ?_ ?_<;>intro ag hm
 refine xn 1<|rt<|⟨rfl,?_⟩
 obtain rfl:=si hm
 refine ⟨_,_,_,tk (.bool true) (ResL.nil),j,?_⟩
 exact rfl
 refine xn 1<|rt<|⟨rfl,?_⟩
 obtain rfl:=si hm
 refine ⟨_,_,_,tk (.bool false) (ResL.nil),j,?_⟩
 exact rfl
def zd:List bq:=[uP 14 (mv 5),uP 15 (bc .gtr 3 14 0 3),uP 16 (mv 15),aJ 16 17 (mv 0),aJ 16 18 (mv 4),aJ 16 19 (ia 28 17 18),cG 16 20 (ld 92 19),aJ 16 21 (mv 3),aJ 16 22 (mv 5),aJ 16 23 (bc .sub 3 22 1 3),aJ 16 24 (ia 28 21 23),cG 16 25 (ld 92 24),jb 16 (some 26) (cf 48 #[(t 20),(t 25)] #[92,92]) .make [6,11],uP 27 (pf 16 26)]
def yn:List bq:=[uP 30 (mv 5),uP 31 (bc .gtr 3 30 0 3),uP 32 (mv 31),aJ 32 33 (mv 3),aJ 32 34 (mv 5),aJ 32 35 (bc .sub 3 34 1 3),aJ 32 36 (ia 28 33 35),cG 32 37 (ld 92 36),aJ 32 38 (mv 0),aJ 32 39 (mv 4),aJ 32 40 (ia 28 38 39),cG 32 41 (ld 92 40),aJ 32 42 (bo .eql 92 37 41 92),uP 43 (pf 32 42)]
def wJ:List aQ:=[u 44 (mv 3),u 45 (.build 92 #[]),u 46 (.buildSlice 28 1 #[(0,(t 45))]),u 47 (cb .append #[(t 44),(t 46)] #[28,28]),u 3 (sg 47)]
def AT:List bq:=[uP 48 (mv 3),uP 49 (mv 5),uP 50 (bc .add 3 49 1 3),uP 51 (.slice 28 (t 48) (some (t 50)) none none),uP 52 (mv 3),uP 53 (mv 5),uP 54 (.slice 28 (t 52) (some (t 53)) none none),uF 55 (cb .copy #[(t 51),(t 54)] #[28,28]) .make []]
def zE:List aQ:=[u 56 (mv 3),u 57 (mv 5),u 58 (mv 0),u 59 (mv 4),u 60 (ia 28 58 59),u 61 (ld 92 60),u 62 (ia 28 56 57),o (.store 92 (t 62) (t 61))]
def lj (F:Nat) (a0:List aj):Nat→(List aj)→Int→Int→Option ((List aj)×Int×Int)
 | 0,_,_,_=>none
 | n+1,J,I,j=>
  if (0:Int)<j then
   if 0≤I∧I<(a0.length:Int) then
    (a0[I.toNat]?).bind fun U=>
    if 0≤(af (j - 1))∧(af (j - 1))<(J.length:Int) then
     (J[(af (j - 1)).toNat]?).bind fun aa=>
     (nY F U aa).bind fun ab=>
     if ab=true then
      lj F a0 n J I (af (j - 1))
     else
      some (J,I,j)
    else none
   else none
  else
   some (J,I,j)
def correctorref14_Sort_l0 (F:Nat) (a0:List aj):Nat→(List aj)→Int→Option (List aj)
 | 0,_,_=>none
 | n+1,aa,ab=>
  if ab<(a0.length:Int) then
   ((((lj F a0 F aa ab (aa.length:Int)):Option ((List aj)×Int×Int)).bind fun o=>match o with
     | (U,J,j)=>((if (0:Int)<j then
       if 0≤(af (j - 1))∧(af (j - 1))<(U.length:Int) then
        (U[(af (j - 1)).toNat]?).bind fun ad=>
        if 0≤J∧J<(a0.length:Int) then
         (a0[J.toNat]?).bind fun ae=>
         if ad=ae then
          some (.inr (U,J))
         else
          some (.inl U)
        else none
       else none
      else
       some (.inl U)):Option (Sum (List aj) ((List aj)×Int))).bind fun o=>match o with
      | .inl I=>if I.length+[(⟨0,0,0⟩:aj)].length≤5864062014805 then
       if 0<(I++[(⟨0,0,0⟩:aj)]).length∧0≤(af (j+1))∧(af (j+1))≤((I++[(⟨0,0,0⟩:aj)]).length:Int)∧((I++[(⟨0,0,0⟩:aj)]).length:Int)≤((I++[(⟨0,0,0⟩:aj)]).length:Int) then
        if 0<(I++[(⟨0,0,0⟩:aj)]).length∧0≤j∧j≤((I++[(⟨0,0,0⟩:aj)]).length:Int)∧((I++[(⟨0,0,0⟩:aj)]).length:Int)≤((I++[(⟨0,0,0⟩:aj)]).length:Int) then
         if 0≤J∧J<(a0.length:Int) then
          (a0[J.toNat]?).bind fun ag=>
          if 0≤j∧j<((iO (I++[(⟨0,0,0⟩:aj)]) ((af (j+1)).toNat) j.toNat (Nat.min (((I++[(⟨0,0,0⟩:aj)]).length:Int).toNat - j.toNat) (((I++[(⟨0,0,0⟩:aj)]).length:Int).toNat - (af (j+1)).toNat))).length:Int) then
           ((iO (I++[(⟨0,0,0⟩:aj)]) ((af (j+1)).toNat) j.toNat (Nat.min (((I++[(⟨0,0,0⟩:aj)]).length:Int).toNat - j.toNat) (((I++[(⟨0,0,0⟩:aj)]).length:Int).toNat - (af (j+1)).toNat)))[j.toNat]?).bind fun al=>
           some ((iO (I++[(⟨0,0,0⟩:aj)]) ((af (j+1)).toNat) j.toNat (Nat.min (((I++[(⟨0,0,0⟩:aj)]).length:Int).toNat - j.toNat) (((I++[(⟨0,0,0⟩:aj)]).length:Int).toNat - (af (j+1)).toNat))).set j.toNat ag,J)
          else none
         else none
        else none
       else none
      else none
      | .inr y=>some y):Option ((List aj)×Int)).bind fun o=>match o with
    | (ah,ai)=>correctorref14_Sort_l0 F a0 n ah (af (ai+1))
  else
   some aa
def nQ (F:Nat) (a0:List aj):Option (List aj):=
 ((correctorref14_Sort_l0 F a0 F [] 0):Option (List aj)).bind fun o=>match o with
  | j=>some j
theorem Ck (F:Nat) {h:AH} {Z:Zn} {a0:List aj} {v2} (hP:Pre Z h []) (az:RS (α:=aj) Z v2 a0) {r:(List aj)} (hm:nQ F a0=some r):
  bQ Try.prog 23 [v2] h Z [] fun v Z' A'=>∃ v4 bI,v4=v∧A'=[.gs v4 bI (aa aj)]∧RCs (α:=aj) Z' bI r:=by
 refine b5 Try.func23 hP ?_
 intro hs hS
 unfold nQ at hm
 replace hS:St hs [] Z (0,0) Z hs []:=hS
 refine sp 1<|sp 1<|sq<|sp 1 ?_
 obtain ⟨bb,ar,hm⟩:=ai hm
 refine aI [3] (fun l h=>∃ bc bd aT aW,bd=bb∧RCs (α:=aj) bc aW bd∧l=[(3,aT)]∧St hs [] Z (0,0) bc h [.gs aT aW (aa aj)]) ?_ ?_
 rintro l c5 ⟨bc,bd,aT,aW,rfl,bZ,rfl,b0⟩
 try dsimp only at hm
 refine sp 2<|rt<|⟨rfl,?_⟩
 obtain rfl:=si hm
 refine ⟨_,_,_,tk aT (ResL.nil),b0,?_⟩
 exact ⟨aT,aW,rfl,rfl,bZ⟩
 refine bk 0 ?_
 have b2:=hS.c9 (aa aj)
 refine lp [0,3,4] (fun n l h=>∃ bf aD aX aE aU,correctorref14_Sort_l0 F a0 n aD aX=some bb∧RCs (α:=aj) bf aU aD∧l=[(0,v2),(3,aE),(4,V aX)]∧St hs [] Z (0,0) bf h [.gs aE aU (aa aj)]) F ⟨_,[],0,(.slice none 0 0),[],ar,(RCs.br _),(by kernel_rfl),b2⟩ ?_
 rintro bg l c6 ⟨bf,aD,aX,aE,aU,ar,bj,rfl,aY⟩
 rcases bg with _ | bg
 cases (show none=some bb from ar)
 rw [correctorref14_Sort_l0] at ar
 refine sq<|s0<|bG 2 v2 (RS.len (az.mono aY.ag))<|aP 0 ar ?_ ?_<;>intro c7 ar
 refine xn 0<|dT<|sk<|sq ?_
 obtain ⟨b3,J,ar⟩:=ai ar
 refine aI [0,3,4] (fun l h=>∃ bl a1 a2 a3 a4,(a1,a2)=b3∧RCs (α:=aj) bl a4 a1∧l=[(0,v2),(3,a3),(4,V a2)]∧St hs [] Z (0,0) bl h [.gs a3 a4 (aa aj)]) ?_ ?_
 rintro l dc ⟨bl,a1,a2,a3,a4,rfl,b4,rfl,b6⟩
 try dsimp only at ar
 refine gp 3 ?_
 exact ⟨bg,Nat.lt_succ_self _,⟨_,a1,af (a2+1),a3,a4,ar,b4,(by kernel_rfl),b6⟩⟩
 refine bk 1<|s0<|bG 1 aE (aY.da (i:=0) rfl bj)<|xn 1<|sq ?_
 obtain ⟨bm,U,J⟩:=ai J
 refine aI [0,3,4,5] (fun l h=>∃ bn aF ab I ae aH,(aF,ab,I)=bm∧RCs (α:=aj) bn aH aF∧l=[(0,v2),(3,ae),(4,V ab),(5,V I)]∧St hs [] Z (0,0) bn h [.gs ae aH (aa aj)]) ?_ ?_
 rintro l dd ⟨bn,aF,ab,I,ae,aH,rfl,aJ,rfl,bo⟩
 try dsimp only at J
 refine sq ?_
 obtain ⟨b7,ad,J⟩:=ai J
 refine aI [0,3,4,5] (fun l h=>∃ a7 ax aV bt, .inl ax=b7∧RCs (α:=aj) a7 bt ax∧l=[(0,v2),(3,aV),(4,V ab),(5,V I)]∧St hs [] Z (0,0) a7 h [.gs aV bt (aa aj)]) ?_ ?_
 rintro l de ⟨a7,ax,aV,bt,rfl,b8,rfl,bu⟩
 try dsimp only at J
 refine sr wJ<|xq 2 [(45, .agg #[V 0,V 0,V 0]),(44,aV),(0,v2),(3,aV),(4,V ab),(5,V I)] ?_
 have b9:RCs (α:=aj) a7 [V 0,V 0,V 0] [(⟨0,0,0⟩:aj)]:=RCs.cons (cs:=[V 0,V 0,V 0]) rfl (RCs.br _)
 refine dP rfl trivial (cX (cells:=[V 0,V 0,V 0]) (s:=3) (by kernel_rfl)) (by kernel_rfl) bu ?_
 intro ca df bJ
 obtain ⟨dh,J⟩:=aK J
 refine eS rfl trivial (dG (ys:=[(⟨0,0,0⟩:aj)]) (bS:=24) bJ (i:=1) rfl b8 ((bJ).eA (j:=0) rfl b9) rfl rfl (by kernel_rfl) (by omega) (by omega)) ?_
 rintro av cb dj ⟨bw,cc⟩
 refine xn 1<|cU AT cc ?_
 intro dk dm dp bx
 refine yq 3 [(50,V (af (I+1))),(48,av),(3,av),(0,v2),(4,V ab),(5,V I)] ?_
 obtain ⟨a8,J⟩:=aK J
 refine oP rfl trivial (uJ (a:=af (I+1)) (b:=((ax++[(⟨0,0,0⟩:aj)]).length:Int)) bx (i:=1) rfl bw a8.1 rfl (by kernel_rfl:slTy _ _=some (aa aj)) ⟨_,rfl⟩ rfl a8.2.1 a8.2.2.1 a8.2.2.2) ?_
 intro cd cf
 refine yq 2 [(53,V I),(52,av),(51,cd),(3,av),(0,v2),(4,V ab),(5,V I)] ?_
 obtain ⟨a9,J⟩:=aK J
 refine oP rfl trivial (uJ (a:=I) (b:=((ax++[(⟨0,0,0⟩:aj)]).length:Int)) bx (i:=1) rfl bw a9.1 rfl (by kernel_rfl:slTy _ _=some (aa aj)) ⟨_,rfl⟩ rfl a9.2.1 a9.2.2.1 a9.2.2.2) ?_
 intro dq cg
 have bM:St _ _ _ _ _ _ ([.gs av cb (aa aj)]++[.gs ca [V 0,V 0,V 0] (aa aj)]):=(bx.front 1 rfl)
 refine kg rfl trivial bM (Bj bM.sub (i:=0) rfl bw cf cg rfl rfl (by kernel_rfl:slTy _ _=some (aa aj)) (by omega) (by omega)) (aO.refl _) .nil ?_
 rintro dr ds ⟨bz,ch⟩
 refine yf [(3,av),(0,v2),(4,V ab),(5,V I)] ?_
 have ba:=ch.a5
 refine rg zE<|xq 4 [(59,V ab),(58,v2),(57,V I),(56,av),(3,av),(0,v2),(4,V ab)]<|a6 0 J (az.mono bu.ag) ?_
 intro du J
 refine bh 0 0 (fun aq=> .agg #[V aq.Code,V aq.ah,V aq.To]) J (az.mono bu.ag) ba ?_
 intro aq dv J
 refine eJ 0 0 J ba bz rfl ?_
 intro dx J
 obtain ⟨dy,bN,J⟩:=ai J
 obtain ⟨dz,cj,dA,ck⟩:=ba.cm (j:=0) rfl bz (i:=I) bN
 obtain rfl:=mX cj
 refine nP rfl trivial (gz (u':=aq) (vs:=[V aq.Code,V aq.ah,V aq.To]) (aZ:=[V aq.Code,V aq.ah,V aq.To]) ba (m:=0) rfl bz bN ck rfl rfl rfl (by kernel_rfl) rfl rfl rfl rfl) ?_
 rintro dB cl ⟨cn,cp⟩
 refine xn 0 ?_
 obtain rfl:=si J
 exact ⟨_,(iO (ax++[(⟨0,0,0⟩:aj)]) ((af (I+1)).toNat) I.toNat (Nat.min (((ax++[(⟨0,0,0⟩:aj)]).length:Int).toNat - I.toNat) (((ax++[(⟨0,0,0⟩:aj)]).length:Int).toNat - (af (I+1)).toNat))).set I.toNat aq,ab,av,cl,rfl,cn,(by kernel_rfl),(cp.takeN 1)⟩
 refine cU yn bo ?_
 intro cq dD cr aA
 refine yq 1 [(30,V I),(0,v2),(3,ae),(4,V ab),(5,V I)] ?_
 rcases ifs ad with ⟨bA,ad⟩ | ⟨bA,ad⟩
 refine aG rfl trivial (bp rfl rfl (lM bA))<|yq 4 [(35,V (af (I - 1))),(33,ae),(32, .bool true),(0,v2),(3,ae),(4,V ab),(5,V I)] ?_
 obtain ⟨bO,ad⟩:=aK ad
 refine aG rfl rfl (bF rfl rfl (by kernel_rfl:slTy _ _=some (aa aj)) (aA.bK (j:=0) rfl aJ (by omega)) bO.1 bO.2) ?_
 obtain ⟨au,bP,ad⟩:=ai ad
 obtain ⟨dE,ct,cu,dH⟩:=aA.cm (j:=0) rfl aJ (i:=af (I - 1)) bP
 obtain rfl:=mX ct
 have cw:=dw bP
 have cx:=aA.bK (j:=0) rfl aJ cw
 have dI:(baseOf ae).block<cq:=dn (cr.1 _ (List.mem_of_getElem? (i:=0) rfl)) cx
 refine di rfl rfl rfl (by show (baseOf ae).block<_;omega) (iG (cs:=[V au.Code,V au.ah,V au.To]) (.cons trivial (.cons trivial (.cons trivial .nil)))) (bL (w:= .agg #[V au.Code,V au.ah,V au.To]) cu rfl (by kernel_rfl)) trivial<|yq 2 [(39,V ab),(38,v2),(37, .agg #[V au.Code,V au.ah,V au.To]),(32, .bool true),(0,v2),(3,ae),(4,V ab),(5,V I)] ?_
 obtain ⟨bR,ad⟩:=aK ad
 refine aG rfl rfl (bF rfl rfl (by kernel_rfl:slTy _ _=some (aa aj)) (RS.c8 (az.mono bo.ag) (by omega)) bR.1 bR.2) ?_
 obtain ⟨ay,cz,ad⟩:=ai ad
 obtain ⟨dJ,cA,cB⟩:=RS.cy (az.mono bo.ag) (i:=ab) cz
 obtain rfl:=mX cA
 refine cM rfl rfl rfl (fun h2 hz=>bL (w:= .agg #[V ay.Code,V ay.ah,V ay.To]) (cB h2 hz) rfl (by kernel_rfl)) (aA.b1 (aO.refl _)) (iG (cs:=[V ay.Code,V ay.ah,V ay.To]) (.cons trivial (.cons trivial (.cons trivial .nil)))) trivial ?_
 rcases ifs ad with ⟨bB,ad⟩ | ⟨bB,ad⟩
 refine aG rfl rfl (bp rfl rfl (Az (x:=au) (y:=ay) bB))<|ye 1 [(43, .bool true),(0,v2),(3,ae),(4,V ab),(5,V I)] ?_
 have cC:=aA.a5
 refine dT<|xt 1<|aN ?_
 obtain rfl:=si ad
 obtain rfl:=si J
 exact ⟨_,aF,ab,ae,aH,rfl,aJ,(by kernel_rfl),cC⟩
 refine aG rfl rfl (bp rfl rfl (BI (x:=au) (y:=ay) bB))<|ye 1 [(43, .bool false),(0,v2),(3,ae),(4,V ab),(5,V I)] ?_
 have cD:=aA.a5
 refine dF<|sk ?_
 obtain rfl:=si ad
 exact ⟨_,aF,ae,aH,rfl,aJ,(by kernel_rfl),cD⟩
 refine aG rfl trivial (bp rfl rfl (lK bA))<|ye 12 [(43, .bool false),(0,v2),(3,ae),(4,V ab),(5,V I)] ?_
 have cE:=aA.a5
 refine dF<|sk ?_
 obtain rfl:=si ad
 exact ⟨_,aF,ae,aH,rfl,aJ,(by kernel_rfl),cE⟩
 refine bk 2<|lp [0,3,4,5] (fun n l h=>∃ bC aL ao an al aB,lj F a0 n aL ao an=some bm∧RCs (α:=aj) bC aB aL∧l=[(0,v2),(3,al),(4,V ao),(5,V an)]∧St hs [] Z (0,0) bC h [.gs al aB (aa aj)]) F ⟨_,aD,aX,(aD.length:Int),aE,aU,U,bj,(by kernel_rfl),aY⟩ ?_
 rintro bD l dK ⟨bC,aL,ao,an,al,aB,U,aM,rfl,bE⟩
 rcases bD with _ | bD
 cases (show none=some bm from U)
 rw [lj] at U
 refine sq<|cU zd bE ?_
 intro cF dL cG aC
 refine yq 1 [(14,V an),(0,v2),(3,al),(4,V ao),(5,V an)] ?_
 rcases ifs U with ⟨bH,U⟩ | ⟨bH,U⟩
 refine aG rfl trivial (bp rfl rfl (lM bH))<|yq 3 [(18,V ao),(17,v2),(16, .bool true),(0,v2),(3,al),(4,V ao),(5,V an)] ?_
 obtain ⟨bT,U⟩:=aK U
 refine aG rfl rfl (bF rfl rfl (by kernel_rfl:slTy _ _=some (aa aj)) (RS.c8 (az.mono bE.ag) (by omega)) bT.1 bT.2) ?_
 obtain ⟨aw,cH,U⟩:=ai U
 obtain ⟨dM,cI,cK⟩:=RS.cy (az.mono bE.ag) (i:=ao) cH
 obtain rfl:=mX cI
 refine cM rfl rfl rfl (fun h2 hz=>bL (w:= .agg #[V aw.Code,V aw.ah,V aw.To]) (cK h2 hz) rfl (by kernel_rfl)) (aC.b1 (aO.refl _)) (iG (cs:=[V aw.Code,V aw.ah,V aw.To]) (.cons trivial (.cons trivial (.cons trivial .nil)))) trivial<|yq 3 [(23,V (af (an - 1))),(21,al),(20, .agg #[V aw.Code,V aw.ah,V aw.To]),(16, .bool true),(0,v2),(3,al),(4,V ao),(5,V an)] ?_
 obtain ⟨bU,U⟩:=aK U
 refine aG rfl rfl (bF rfl rfl (by kernel_rfl:slTy _ _=some (aa aj)) (aC.bK (j:=0) rfl aM (by omega)) bU.1 bU.2) ?_
 obtain ⟨aR,bV,U⟩:=ai U
 obtain ⟨dN,cL,cP,dO⟩:=aC.cm (j:=0) rfl aM (i:=af (an - 1)) bV
 obtain rfl:=mX cL
 have cQ:=dw bV
 have cR:=aC.bK (j:=0) rfl aM cQ
 have dQ:(baseOf al).block<cF:=dn (cG.1 _ (List.mem_of_getElem? (i:=0) rfl)) cR
 refine di rfl rfl rfl (by show (baseOf al).block<_;omega) (iG (cs:=[V aR.Code,V aR.ah,V aR.To]) (.cons trivial (.cons trivial (.cons trivial .nil)))) (bL (w:= .agg #[V aR.Code,V aR.ah,V aR.To]) cP rfl (by kernel_rfl)) trivial ?_
 obtain ⟨cS,cT,U⟩:=ai U
 have bW:=aC.cJ
 obtain ⟨dR,dS,cY,bX,rfl⟩:=v5 F bW.inv cT
 have c0:=St.call (A:=[]) (B:=[.gs al aB (aa aj)]) bW bX
 refine fD rfl rfl aC (dg cY rfl rfl rfl) c0 (St.fJ bX) ?_
 intro dU c3
 refine ye 1 [(27, .bool cS),(0,v2),(3,al),(4,V ao),(5,V an)] ?_
 have bY:=c3.a5
 refine db U ?_ ?_<;>intro dV U
 refine sk<|bk 3<|gp 3 ?_
 exact ⟨bD,Nat.lt_succ_self _,⟨_,aL,ao,af (an - 1),al,aB,U,aM,(by kernel_rfl),bY⟩⟩
 refine xt 2<|aN ?_
 obtain rfl:=si U
 exact ⟨_,aL,ao,an,al,aB,rfl,aM,(by kernel_rfl),bY⟩
 refine aG rfl trivial (bp rfl rfl (lK bH))<|ye 12 [(27, .bool false),(0,v2),(3,al),(4,V ao),(5,V an)] ?_
 have c4:=aC.a5
 refine dF<|xt 2<|aN ?_
 obtain rfl:=si U
 exact ⟨_,aL,ao,an,al,aB,rfl,aM,(by kernel_rfl),c4⟩
 refine xn 0<|dF<|xt 0<|aN ?_
 obtain rfl:=si ar
 exact ⟨_,aD,aE,aU,rfl,bj,(by kernel_rfl),aY⟩
def yW:List aQ:=[u 22 (mv 7),u 23 (mv 7),u 24 (cb .len #[(t 23)] #[24]),u 25 (cf 21 #[(t 24)] #[3]),u 26 (mv 7),u 27 (cb .len #[(t 26)] #[24]),u 28 (.build 58 #[(0,(t 22)),(1,(t 25)),(3,(t 27))]),u 29 (.box 58 (t 28)),u 30 (mv 8),u 31 (mv 1),u 32 (.build 61 #[(0,(t 29)),(1,(t 30)),(2,(ci (-1))),(5,(t 31))]),u 33 (.box 61 (t 32)),u 9 (sg 33)]
def CL:List bq:=[uP 40 (mv 8),uP 41 (mv 10),uP 42 (ia 52 40 41),uP 43 (fa 63 42 1),uL 44 (ld 3 43),uP 45 (mv 9),uP 46 (nk 45),uP 47 (fa 61 46 6),uL 48 (ld 3 47),uP 49 (bo .geq 3 44 48 3)]
def Bh:List bq:=[uP 56 (mv 7),uP 57 (mv 9),uP 58 (nk 57),uP 59 (fa 61 58 0),uL 60 (ld 55 59),uP 61 (nk 60),uP 62 (fa 58 61 1),uL 63 (ld 27 62),uP 64 (mv 9),uP 65 (nk 64),uP 66 (fa 61 65 0),uL 67 (ld 55 66),uP 68 (nk 67),uP 69 (fa 58 68 2),uL 70 (ld 28 69),uP 71 (mv 0),uP 72 (mv 7),uP 73 (mv 8),uF 74 (cf 24 #[(t 71),(t 72),(t 73)] #[31,24,52]) .make [],uF 75 (cb .append #[(t 70),(t 74)] #[28,28]) .make [11,14],uF 76 (cf 23 #[(t 75)] #[28]) .make [11,14],uP 4 (sg 56),oF (.store 27 (t 5) (t 63)) .make [4,7,11,14],uP 6 (sg 76)]
def correctorref12_Tree_l0 (F:Nat) (a0:List UInt8) (a1:Int):Nat→(List ak)→(List an)→aL→Int→Bool→(List au)→Int→Int→Int→Option ((List ak)×(List an)×aL×Int×Bool×(List au)×Int×Int)
 | 0,_,_,_,_,_,_,_,_,_=>none
 | n+1,aa,j,ab,ad,ae,ag,ai,U,I=>
  if I<(j.length:Int) then
   ((if 0≤I∧I<(j.length:Int) then
     (j[I.toNat]?).bind fun aj=>
     if U≤aj.ah then
      if 0≤I∧I<(j.length:Int) then
       (j[I.toNat]?).bind fun al=>
       (nW F (⟨ab,j,ad,ae,ag,ai,U⟩:aT) al).bind fun J=>
       some (aa,J.Rows,J.R,J.Doc,J.aA,J.S,J.ax,J.Read)
      else none
     else
      some (aa,j,ab,ad,ae,ag,ai,U)
    else none):Option ((List ak)×(List an)×aL×Int×Bool×(List au)×Int×Int)).bind fun o=>match o with
    | (ao,aq,ar,av,aw,ay,az,aB)=>correctorref12_Tree_l0 F a0 a1 n ao aq ar av aw ay az aB (af (I+1))
  else
   some (aa,j,ab,ad,ae,ag,ai,U)
def k9 (F:Nat) (a0:List UInt8) (a1:Int):Option ((List ak)×cT×(List aj)):=
 if a1<(1:Int) then
  some ([],(⟨[]⟩:cT),[])
 else
  if (50:Int)<a1 then
   some ([],(⟨[]⟩:cT),[])
  else
   (m8 F a0).bind fun j=>
   (lO F j).bind fun aa=>
   (mW F (j.length:Int)).bind fun ab=>
   ((correctorref12_Tree_l0 F a0 a1 F j aa (⟨j,ab,[],(j.length:Int)⟩:aL) (-1) false [] a1 0 0):Option ((List ak)×(List an)×aL×Int×Bool×(List au)×Int×Int)).bind fun o=>match o with
    | (J,ad,I,af,ag,ah,ai,al)=>(mn F a0 J ad).bind fun U=>
    if I.D.length+U.length≤5864062014805 then
     (nQ F (I.D++U)).bind fun ae=>
     some (J,I.T,ae)
    else none
theorem vF (F:Nat) {h:AH} {Z:Zn} {a0:List UInt8} {a1:Int} {v2} (hP:Pre Z h []) (db:RS (α:=UInt8) Z v2 a0) {r:(List ak)×cT×(List aj)} (hm:k9 F a0 a1=some r):
  bQ Try.prog 8 [v2,V a1] h Z [] fun v Z' A'=>∃ v4 v6 dc dd, .tuple #[v4, .agg #[v6],dc]=v∧A'=[.gs dc dd (aa aj)]∧RS (α:=ak) Z' v4 r.1∧RS (α:=aq) Z' v6 r.2.1.al∧RCs (α:=aj) Z' dd r.2.2:=by
 refine b5 Try.func8 hP ?_
 intro hs hS
 unfold k9 at hm
 replace hS:St hs [] Z (0,0) Z hs []:=hS
 refine s0<|df 1 [.slice none 0 0] hS ?_
 intro cy fe b3
 refine xn 1<|sq<|s0<|aP 1 hm ?_ ?_<;>intro ff hm
 refine xn 4<|dT<|s0<|bA 2 0 (.agg #[.slice none 0 0]) [.slice none 0 0] [.slice none 0 0] b3 rfl rfl rfl ?_
 intro fg dI
 refine xn 1<|rt<|⟨rfl,?_⟩
 have de:=dI.c9 (aa aj)
 obtain rfl:=si hm
 refine ⟨_,_,_,tk (.slice none 0 0) (ResL.cell (v:= .agg #[.slice none 0 0]) (by kernel_rfl) de (i:=1) rfl (by kernel_rfl) (tk (.slice none 0 0) (ResL.nil))),(de.takeN 1),?_⟩
 exact ⟨.slice none 0 0, .slice none 0 0,(.slice none 0 0),[],rfl,rfl,(RS.br _),(RS.br _),(RCs.br _)⟩
 refine cz 2 hm ?_ ?_<;>intro fh hm
 refine xn 1<|dT<|s0<|bA 2 0 (.agg #[.slice none 0 0]) [.slice none 0 0] [.slice none 0 0] b3 rfl rfl rfl ?_
 intro fi dJ
 refine xn 1<|rt<|⟨rfl,?_⟩
 have dh:=dJ.c9 (aa aj)
 obtain rfl:=si hm
 refine ⟨_,_,_,tk (.slice none 0 0) (ResL.cell (v:= .agg #[.slice none 0 0]) (by kernel_rfl) dh (i:=1) rfl (by kernel_rfl) (tk (.slice none 0 0) (ResL.nil))),(dh.takeN 1),?_⟩
 exact ⟨.slice none 0 0, .slice none 0 0,(.slice none 0 0),[],rfl,rfl,(RS.br _),(RS.br _),(RCs.br _)⟩
 refine xn 1<|dF<|sk<|s0 ?_
 obtain ⟨bu,dK,hm⟩:=ai hm
 refine c0 1 b3 (yI F b3.ez db dK) ?_
 rintro _ fj fk _ fl dL ⟨aF,fm,rfl,rfl,dM⟩
 refine xn 1<|s0 ?_
 obtain ⟨fo,fp,bw,dj⟩:=(dL.front 0 rfl).freeze dM
 obtain ⟨dN,dO,hm⟩:=ai hm
 refine c0 1 dj (x5 F dj.ez bw dO) ?_
 rintro _ fq fr _ bV dk ⟨a7,dP,rfl,rfl,dQ⟩
 refine xn 1<|sr yW<|bG 2 aF (RS.len (bw.mono bV)) ?_
 obtain ⟨dR,dS,hm⟩:=ai hm
 refine c0 0 dk (Al F dk.ez dS) ?_
 rintro _ fs ft _ bW dU ⟨bX,fu,rfl,rfl,dV⟩
 refine xq 1 [(26,aF),(25, .agg #[bX]),(22,aF),(8,a7),(7,aF),(5,Pt cy 0),(0,v2),(1,V a1)]<|bG 0 aF (RS.len (bw.mono (bV.trans bW)))<|bN rfl trivial (jr (v:= .agg #[aF,bX, .slice none 0 0,V (bu.length:Int)]) rfl (CA.cons (cs:=[aF]) (RS.qd (bw.mono (bV.trans bW))) (CA.cons (cs:=[bX]) rfl (CA.cons (cs:=[V (bu.length:Int)]) rfl (CA.br)))) (by kernel_rfl)) ?_
 refine gN rfl trivial (gE (cs:=[aF,bX, .slice none 0 0,V (bu.length:Int)]) rfl rfl) dU ?_
 intro bY fw dm
 refine xq 2 [(31,V a1),(30,a7),(29,Pt bY 0),(8,a7),(7,aF),(5,Pt cy 0),(0,v2)]<|bN rfl trivial (jr (v:= .agg #[Pt bY 0,a7,V (-1), .bool false, .slice none 0 0,V a1,V 0]) rfl (CA.cons (cs:=[Pt bY 0]) rfl (CA.cons (cs:=[a7]) (dm.fU (i:=2) rfl) (CA.cons (cs:=[V (-1)]) rfl (CA.cons (cs:=[V a1]) rfl (CA.br))))) (by kernel_rfl)) ?_
 refine gN rfl trivial (gE (cs:=[Pt bY 0,a7,V (-1), .bool false, .slice none 0 0,V a1,V 0]) rfl rfl) dm ?_
 intro dW fx dX
 refine xn 1<|sq<|sp 1 ?_
 obtain ⟨cA,aH,hm⟩:=ai hm
 refine aI [0,5,7,8,9] (fun l h=>∃ aY cC cE aO a8 a9 cF ba bb ad ab aw cG ao I bc U aB bZ aJ bd,(cC,cE,aO,a8,a9,cF,ba,bb)=cA∧RS (α:=ak) aY ab cC∧RCs (α:=an) aY cG cE∧RS (α:=ak) aY bc aO.L∧RS (α:=aq) aY U aO.T.al∧RCs (α:=aj) aY bZ aO.D∧RCs (α:=au) aY bd cF∧l=[(0,v2),(5,Pt ad 0),(7,ab),(8,aw),(9,Pt ao 0)]∧St hs [] Z (0,0) aY h [.ae ad [.slice none 0 0], .gs aw cG (aa an), .ae ao [Pt I 0,aw,V a8, .bool a9,aJ,V ba,V bb], .ae I (ay bc U aB aO), .gs aB bZ (aa aj), .gs aJ bd (aa au)]) ?_ ?_
 rintro l fy ⟨aY,cC,cE,aO,a8,a9,cF,ba,bb,ad,ab,aw,cG,ao,I,bc,U,aB,bZ,aJ,bd,rfl,dp,ea,fz,cH,eb,fA,rfl,dq⟩
 try dsimp only at hm
 refine cU Bh dq ?_
 intro b4 fB b6 bx
 refine yq 4 [(59,Pt ao 0),(56,ab),(0,v2),(5,Pt ad 0),(7,ab),(8,aw),(9,Pt ao 0)] ?_
 have fC:ao<b4:=b6.1 _ (List.mem_of_getElem? (i:=2) rfl) _ (by simp [Itm.ids])
 refine aW (v:=Pt I 0) rfl trivial rfl (by show ao<_;omega) (aC (v:=Pt I 0) trivial) (bx.aU (i:=2) rfl (by kernel_rfl)) trivial<|yq 2 [(62,Pt I 1),(56,ab),(0,v2),(5,Pt ad 0),(7,ab),(8,aw),(9,Pt ao 0)] ?_
 have fE:I<b4:=b6.1 _ (List.mem_of_getElem? (i:=3) rfl) _ (by simp [Itm.ids])
 refine aW (v:= .agg #[U]) rfl trivial rfl (by show I<_;omega) (iG (cs:=[U]) (.cons (RS.dZ cH) .nil)) (bx.aU (i:=3) rfl (by kernel_rfl)) trivial<|yq 3 [(66,Pt ao 0),(63, .agg #[U]),(56,ab),(0,v2),(5,Pt ad 0),(7,ab),(8,aw)] ?_
 have fG:ao<b4:=b6.1 _ (List.mem_of_getElem? (i:=2) rfl) _ (by simp [Itm.ids])
 refine aW (v:=Pt I 0) rfl trivial rfl (by show ao<_;omega) (aC (v:=Pt I 0) trivial) (bx.aU (i:=2) rfl (by kernel_rfl)) trivial<|yq 2 [(69,Pt I 2),(63, .agg #[U]),(56,ab),(0,v2),(5,Pt ad 0),(7,ab),(8,aw)] ?_
 have fH:I<b4:=b6.1 _ (List.mem_of_getElem? (i:=3) rfl) _ (by simp [Itm.ids])
 refine aW (v:=aB) rfl trivial rfl (by show I<_;omega) (aC (v:=aB) (bx.dv (i:=4) rfl)) (bx.aU (i:=3) rfl (by kernel_rfl)) trivial<|yq 3 [(73,aw),(72,ab),(71,v2),(70,aB),(63, .agg #[U]),(56,ab),(5,Pt ad 0)] ?_
 obtain ⟨fI,aZ,ec,dr⟩:=(bx.front 1 rfl).freeze ea
 obtain ⟨ed,eg,hm⟩:=ai hm
 have eh:=dr.cJ
 have ds:St _ _ _ _ _ _ ([]++[.ae ad [.slice none 0 0], .ae ao [Pt I 0,aw,V a8, .bool a9,aJ,V ba,V bb], .ae I (ay bc U aB aO), .gs aB bZ (aa aj), .gs aJ bd (aa au)]):=eh
 obtain ⟨fK,fL,fM,fN,ei,cI,cK,cL,rfl,rfl,ej⟩:=Dm F ds.eE (db.mono (dq.ag.trans aZ)) (dp.mono aZ) ec eg
 have ek:=ds.call cI
 have bz:=cI.ag
 refine fD rfl trivial dr (dg ei rfl rfl rfl) ek (St.fJ cI) ?_
 intro fO du
 obtain ⟨fP,hm⟩:=aK hm
 have bB:St _ _ _ _ _ _ ([.gs aB bZ (aa aj)]++[.gs cK cL (aa aj), .ae ad [.slice none 0 0], .ae ao [Pt I 0,aw,V a8, .bool a9,aJ,V ba,V bb], .ae I (ay bc U aB aO), .gs aJ bd (aa au)]):=(du.front 4 rfl)
 refine iz rfl trivial bB (dG (ys:=ed) (bS:=24) bB.sub (i:=0) rfl (eb.mono (aZ.trans bz)) ((du.cJ).eA (j:=0) rfl ej) rfl rfl (by kernel_rfl) (by omega) (by omega)) (aZ.trans bz) (.a3 (bB.bH 3 rfl bM) (.a3 (bB.bH 2 rfl bM) (.a3 (bB.bH 3 rfl bM) (.a3 (bB.bH 2 rfl bM) .nil)))) ?_
 rintro fQ fR fS ⟨en,eo⟩
 obtain ⟨fT,b7,ep,dx⟩:=(eo.front 0 rfl).freeze en
 obtain ⟨fV,er,hm⟩:=ai hm
 have et:=dx.cJ
 have dy:St _ _ _ _ _ _ ([]++[.gs cK cL (aa aj), .ae ad [.slice none 0 0], .ae ao [Pt I 0,aw,V a8, .bool a9,aJ,V ba,V bb], .ae I (ay bc U aB aO), .gs aJ bd (aa au)]):=et
 obtain ⟨fW,fX,fY,fZ,eu,cM,b0,dz,rfl,rfl,ew⟩:=Ck F dy.eE ep er
 have ey:=dy.call cM
 have b8:=cM.ag
 refine fD rfl trivial dx (dg eu rfl rfl rfl) ey (St.fJ cM) ?_
 intro ga eB
 refine yq 1 [(4,ab),(76,b0),(63, .agg #[U]),(5,Pt ad 0)] ?_
 have bC:St _ _ _ _ _ _ ([.ae ad [.slice none 0 0]]++[.gs b0 dz (aa aj), .gs cK cL (aa aj), .ae ao [Pt I 0,aw,V a8, .bool a9,aJ,V ba,V bb], .ae I (ay bc U aB aO), .gs aJ bd (aa au)]):=(eB.front 2 rfl)
 refine g5 rfl trivial bC (gv (vs:=[U]) (cD:=[U]) (L':=[.ae ad [U]]) bC.sub (i:=0) rfl rfl rfl rfl (by kernel_rfl) (bt (RS.cY (cH.mono (aZ.trans (bz.trans (b7.trans b8))))) cp) rfl rfl rfl) (aZ.trans (bz.trans (b7.trans b8))) (.a3 (bC.bH 3 rfl bM) (.a3 (bC.bH 2 rfl bM) (.a3 (bC.bH 3 rfl bM) (.a3 (bC.bH 2 rfl bM) .nil)))) ?_
 intro gb eC
 refine ye 1 [(6,b0),(4,ab),(5,Pt ad 0)] ?_
 have dA:=eC.a5
 refine rt<|⟨rfl,?_⟩
 obtain rfl:=si hm
 refine ⟨_,_,_,tk ab (ResL.cell (v:= .agg #[U]) (by kernel_rfl) dA (i:=0) rfl (by kernel_rfl) (tk b0 (ResL.nil))),((dA.front 1 rfl).takeN 1),?_⟩
 exact ⟨ab,U,b0,dz,rfl,rfl,(dp.mono (aZ.trans (bz.trans (b7.trans b8)))),(cH.mono (aZ.trans (bz.trans (b7.trans b8)))),ew⟩
 refine bk 0 ?_
 obtain ⟨gd,cP,eD,eF⟩:=(dX.front 2 rfl).freeze dV
 have eG:=eF.c9 (aa aj)
 have eH:=eG.c9 (aa au)
 refine lp [0,5,7,8,9,10] (fun n l h=>∃ a2 bD bE aR bf bg bI bh aV az aE aM J bJ ar a4 bO bP bl bR bm bT,correctorref12_Tree_l0 F a0 a1 n bD bE aR bf bg bI bh aV az=some cA∧RS (α:=ak) a2 aM bD∧RCs (α:=an) a2 bJ bE∧RS (α:=ak) a2 bO aR.L∧RS (α:=aq) a2 bP aR.T.al∧RCs (α:=aj) a2 bR aR.D∧RCs (α:=au) a2 bT bI∧l=[(0,v2),(5,Pt aE 0),(7,aM),(8,J),(9,Pt ar 0),(10,V az)]∧St hs [] Z (0,0) a2 h [.ae aE [.slice none 0 0], .gs J bJ (aa an), .ae ar [Pt a4 0,J,V bf, .bool bg,bm,V bh,V aV], .ae a4 (ay bO bP bl aR), .gs bl bR (aa aj), .gs bm bT (aa au)]) F ⟨_,bu,dN,(⟨bu,dR,[],(bu.length:Int)⟩:aL),(-1),false,[],a1,0,0,cy,aF,a7,dP,dW,bY,aF,bX,(.slice none 0 0),[],(.slice none 0 0),[],aH,(bw.mono (bV.trans (bW.trans cP))),(dQ.mono (bW.trans cP)),(bw.mono (bV.trans (bW.trans cP))),eD,(RCs.br _),(RCs.br _),(by kernel_rfl),((((((eH.front 0 rfl).front 1 rfl).front 3 rfl).front 3 rfl).front 4 rfl).front 5 rfl)⟩ ?_
 rintro cQ l gf ⟨a2,bD,bE,aR,bf,bg,bI,bh,aV,az,aE,aM,J,bJ,ar,a4,bO,bP,bl,bR,bm,bT,aH,cR,aX,cS,cX,c3,c4,rfl,c5⟩
 rcases cQ with _ | cQ
 cases (show none=some cA from aH)
 rw [correctorref12_Tree_l0] at aH
 refine sq<|s0<|bG 2 J (c5.da (i:=1) rfl aX)<|aP 0 aH ?_ ?_<;>intro gg aH
 refine xn 0<|dT<|sk<|sq<|bk 1 ?_
 obtain ⟨eI,av,aH⟩:=ai aH
 refine dY [0,5,7,8,9,10] (fun l h=>∃ a6 b9 ca bn cb cc cd cf cg ch cj b1 ck cl cn cq cr ct cu cw cx,(b9,ca,bn,cb,cc,cd,cf,cg)=eI∧RS (α:=ak) a6 cj b9∧RCs (α:=an) a6 ck ca∧RS (α:=ak) a6 cq bn.L∧RS (α:=aq) a6 cr bn.T.al∧RCs (α:=aj) a6 cu bn.D∧RCs (α:=au) a6 cx cd∧l=[(0,v2),(5,Pt ch 0),(7,cj),(8,b1),(9,Pt cl 0),(10,V az)]∧St hs [] Z (0,0) a6 h [.ae ch [.slice none 0 0], .gs b1 ck (aa an), .ae cl [Pt cn 0,b1,V cb, .bool cc,cw,V cf,V cg], .ae cn (ay cq cr ct bn), .gs ct cu (aa aj), .gs cw cx (aa au)]) (by kernel_rfl) ?_ ?_
 rintro l gh ⟨a6,b9,ca,bn,cb,cc,cd,cf,cg,ch,cj,b1,ck,cl,cn,cq,cr,ct,cu,cw,cx,rfl,eK,eL,eM,eN,eO,eP,rfl,eQ⟩
 try dsimp only at aH
 refine gp 3 ?_
 exact ⟨cQ,Nat.lt_succ_self _,⟨_,b9,ca,bn,cb,cc,cd,cf,cg,af (az+1),ch,cj,b1,ck,cl,cn,cq,cr,ct,cu,cw,cx,aH,eK,eL,eM,eN,eO,eP,(by kernel_rfl),eQ⟩⟩
 refine ee CL c5 ?_
 intro dB gi dD bU
 refine yq 2 [(41,V az),(40,J),(0,v2),(5,Pt aE 0),(7,aM),(8,J),(9,Pt ar 0),(10,V az)] ?_
 obtain ⟨dE,av⟩:=aK av
 refine aG rfl trivial (bF rfl rfl (by kernel_rfl:slTy _ _=some (aa an)) (bU.bK (j:=1) rfl aX (by omega)) dE.1 dE.2)<|yq 1 [(43, .pointer (some (bj J az (aa an) 1))),(0,v2),(5,Pt aE 0),(7,aM),(8,J),(9,Pt ar 0),(10,V az)] ?_
 obtain ⟨c6,dH,av⟩:=ai av
 obtain ⟨gj,eR,eS,gk⟩:=bU.cm (j:=1) rfl aX (i:=az) dH
 obtain rfl:=C0 eR
 have eT:=dw dH
 have eU:=bU.bK (j:=1) rfl aX eT
 have gl:(baseOf J).block<dB:=dn (dD.1 _ (List.mem_of_getElem? (i:=1) rfl)) eU
 refine di rfl trivial rfl (by show (baseOf J).block<_;omega) (aC (v:=V c6.ah) trivial) (bL (w:=V c6.ah) eS rfl (by kernel_rfl)) trivial<|yq 3 [(47,Pt ar 6),(44,V c6.ah),(0,v2),(5,Pt aE 0),(7,aM),(8,J),(9,Pt ar 0),(10,V az)] ?_
 have gm:ar<dB:=dD.1 _ (List.mem_of_getElem? (i:=2) rfl) _ (by simp [Itm.ids])
 refine aW (v:=V aV) rfl trivial rfl (by show ar<_;omega) (aC (v:=V aV) trivial) (bU.aU (i:=2) rfl (by kernel_rfl)) trivial ?_
 rcases ifs av with ⟨c7,av⟩ | ⟨c7,av⟩
 refine aG rfl trivial (bp rfl rfl (jC c7))<|yf [(49, .bool true),(0,v2),(5,Pt aE 0),(7,aM),(8,J),(9,Pt ar 0),(10,V az)] ?_
 have c8:=bU.a5
 refine dT<|g0<|eJ 3 1 av c8 aX rfl ?_
 intro gn av
 refine fv 0 0 1 (fun b2=> .agg #[V b2.Kind,V b2.ah,V b2.To,V b2.aD]) av c8 aX rfl ?_
 intro b2 gq av
 obtain ⟨bo,eV,av⟩:=ai av
 have eW:St _ _ _ _ _ _ ([.ae ar [Pt a4 0,J,V bf, .bool bg,bm,V bh,V aV], .ae a4 (ay bO bP bl aR), .gs bl bR (aa aj), .gs J bJ (aa an), .gs bm bT (aa au)]++[.ae aE [.slice none 0 0]]):=(((((c8.front 5 rfl).front 2 rfl).front 5 rfl).front 5 rfl).front 5 rfl)
 refine cB 0 eW (fun p=>xK F (a0:=(⟨aR,bE,bf,bg,bI,bh,aV⟩:aT)) p cS cX c3 aX c4 eV) ?_
 rintro _ gr gu _ eX eY ⟨eZ,e0,e2,e3,e4,e5,e6,rfl,rfl,e7,e8,e9,fa,fb⟩
 refine xn 0 ?_
 obtain rfl:=si av
 exact ⟨_,bD,bo.Rows,bo.R,bo.Doc,bo.aA,bo.S,bo.ax,bo.Read,aE,aM,J,e4,ar,a4,eZ,e0,e2,e3,e5,e6,rfl,(cR.mono eX),fa,e7,e8,e9,fb,(by kernel_rfl),((((((eY.front 4 rfl).front 3 rfl).front 3 rfl).front 3 rfl).front 4 rfl).front 5 rfl)⟩
 refine aG rfl trivial (bp rfl rfl (jl c7))<|yf [(49, .bool false),(0,v2),(5,Pt aE 0),(7,aM),(8,J),(9,Pt ar 0),(10,V az)] ?_
 have fc:=bU.a5
 refine dF<|sk ?_
 obtain rfl:=si av
 exact ⟨_,bD,bE,aR,bf,bg,bI,bh,aV,aE,aM,J,bJ,ar,a4,bO,bP,bl,bR,bm,bT,rfl,cR,aX,cS,cX,c3,c4,(by kernel_rfl),fc⟩
 refine xn 0<|dF<|xt 0<|aN ?_
 obtain rfl:=si aH
 exact ⟨_,bD,bE,aR,bf,bg,bI,bh,aV,aE,aM,J,bJ,ar,a4,bO,bP,bl,bR,bm,bT,rfl,cR,aX,cS,cX,c3,c4,(by kernel_rfl),c5⟩
end Go.Proofs.Ytcilejikekccmaa.M
namespace Go.Proofs.Ytcilejikekccmaa.M
open Go Am Sy
open Sy.Cell (rc)
structure eo where
 al:List aq
 deriving DecidableEq,Inhabited
instance:Cell eo where
 size:=1
 rc Z cs x:=∃ v0,RS (α:=aq) Z v0 x.al∧cs=[v0]
 len h:=by obtain ⟨v0,j,h⟩:=h;rw [h];rfl
 mono hz h:=by obtain ⟨v0,j,h⟩:=h;exact ⟨v0,j.mono hz,h⟩
 one h:=by obtain ⟨v0,j,h⟩:=h;subst h;exact (bt j.cY cp)
 pos:=by decide
instance:cN eo aq where
 row x:=x.al
 dK v cs x:=cs=[v]
 oY h hd:=⟨_,h,hd⟩
 j1 h:=by rw [h];rfl
 done hv h:=by subst h;exact (bt hv cp)
 inj h k:=by rw [h] at k;simpa using k
 fn h k:=h.trans k.symm
structure ie where
 ah:Int
 To:Int
 deriving DecidableEq,Inhabited
instance:Cell ie where
 size:=2
 rc Z cs x:=cs=[V x.ah,V x.To]
 len h:=by rw [h];rfl
 mono _ h:=h
 one h:=by rw [h];rfl
 pos:=by decide
abbrev y0 (x:ie):List Value:=[V x.ah,V x.To]
instance:FC ie:=⟨y0,fun q=>q⟩
def o2 (F:Nat) (a0:ak) (a1:Int):Option Bool:=
 if a0.ah≤a1 then
  if a1<a0.To then
   some true
  else
   some false
 else
  some false
theorem ze (F:Nat) {h:AH} {Z:Zn} {a0:ak} {a1:Int} {I} (hP:Pre Z h [.ae I [V a1]]) {r:Bool} (hm:o2 F a0 a1=some r):
  bQ Try.prog 52 [.agg #[V a0.Kind,V a0.ah,V a0.To],Pt I 0] h Z [.ae I [V a1]] fun v Z' A'=> .bool r=v∧A'=[.ae I [V a1]]:=by
 refine b5 Try.func52 hP ?_
 intro hs hS
 unfold o2 at hm
 refine s0<|df 0 [V a0.Kind,V a0.ah,V a0.To] hS ?_
 intro J U j
 refine xn 1<|s0<|aB 0 1 (V a1) j rfl<|aB 1 0 (V a0.ah) j rfl<|ct 0 hm ?_ ?_<;>intro aa hm
 refine aB 1 1 (V a1) j rfl<|aB 1 0 (V a0.To) j rfl<|aP 0 hm ?_ ?_<;>intro ab hm
 refine xn 2<|rt<|⟨rfl,?_⟩
 obtain rfl:=si hm
 refine ⟨_,_,_,tk (.bool true) (ResL.nil),((j.front 1 rfl).takeN 1),?_⟩
 exact ⟨rfl,rfl⟩
 refine xn 2<|rt<|⟨rfl,?_⟩
 obtain rfl:=si hm
 refine ⟨_,_,_,tk (.bool false) (ResL.nil),((j.front 1 rfl).takeN 1),?_⟩
 exact ⟨rfl,rfl⟩
 refine xn 7<|rt<|⟨rfl,?_⟩
 obtain rfl:=si hm
 refine ⟨_,_,_,tk (.bool false) (ResL.nil),((j.front 1 rfl).takeN 1),?_⟩
 exact ⟨rfl,rfl⟩
def slices_IndexFunc_api_Token_l0 (F:Nat) (a0:List ak) (dO:Int):Nat→Int→Option (Sum Unit Int)
 | 0,_=>none
 | n+1,j=>
  if j<(a0.length:Int) then
   if 0≤j∧j<(a0.length:Int) then
    (a0[j.toNat]?).bind fun I=>
    (o2 F I dO).bind fun J=>
    if J=true then
     some (.inr j)
    else
     slices_IndexFunc_api_Token_l0 F a0 dO n (af (j+1))
   else none
  else
   some (.inl ())
def oM (F:Nat) (a0:List ak) (dO:Int):Option Int:=
 ((slices_IndexFunc_api_Token_l0 F a0 dO F 0):Option (Sum Unit Int)).bind fun o=>match o with
  | .inl ()=>some (-1)
  | .inr y=>some y
theorem Cq (F:Nat) {h:AH} {Z:Zn} {a0:List ak} {dO:Int} {v2 I} (hP:Pre Z h [.ae I [V dO]]) (ab:RS (α:=ak) Z v2 a0) {r:Int} (hm:oM F a0 dO=some r):
  bQ Try.prog 51 [v2, .func (.func 52) #[] #[Pt I 0]] h Z [.ae I [V dO]] fun v Z' A'=>V r=v∧A'=[.ae I [V dO]]:=by
 refine b5 Try.func51 hP ?_
 intro hs hS
 unfold oM at hm
 refine sp 1<|sq<|s0<|bG 1 v2 (RS.len ab)<|xn 1 ?_
 obtain ⟨ad,j,hm⟩:=ai hm
 refine aI [] (fun l h=>∃ al, .inl ()=ad∧l=[]∧St hs (aR [.ae I [V dO]]) Z (0,0) al h [.ae I [V dO]]) ?_ ?_
 rintro l au ⟨al,rfl,rfl,aq⟩
 try dsimp only at hm
 refine sp 1<|rt<|⟨rfl,?_⟩
 obtain rfl:=si hm
 refine ⟨_,_,_,tk (V (-1)) (ResL.nil),aq,?_⟩
 exact ⟨rfl,rfl⟩
 refine bk 0<|lp [0,1,7,8] (fun n l h=>∃ an J,slices_IndexFunc_api_Token_l0 F a0 dO n J=some ad∧l=[(0,v2),(1, .func (.func 52) #[] #[Pt I 0]),(7,V (a0.length:Int)),(8,V J)]∧St hs (aR [.ae I [V dO]]) Z (0,0) an h [.ae I [V dO]]) F ⟨_,0,j,(by kernel_rfl),hS⟩ ?_
 rintro aj l av ⟨an,J,j,rfl,U⟩
 rcases aj with _ | aj
 cases (show none=some ad from j)
 rw [slices_IndexFunc_api_Token_l0] at j
 refine s0<|aP 0 j ?_ ?_<;>intro aw j
 refine xn 0<|sq<|dT<|sk<|sq<|bk 1<|sp 2<|s0<|a6 3 j (ab.mono U.ag) ?_
 intro ax j
 refine bh 0 0 (fun aa=> .agg #[V aa.Kind,V aa.ah,V aa.To]) j (ab.mono U.ag) U ?_
 intro aa ay j
 obtain ⟨az,ar,j⟩:=ai j
 refine cA 0 U (fun p=>ze F p ar) ?_
 rintro _ aA aB _ aC ao ⟨rfl,rfl⟩
 refine xn 0<|db j ?_ ?_<;>intro aD j
 refine sp 2<|rt<|bw<|bw<|⟨rfl,?_⟩
 obtain rfl:=si j
 obtain rfl:=si hm
 refine ⟨_,_,_,tk (V J) (ResL.nil),ao,?_⟩
 exact ⟨rfl,rfl⟩
 refine sk<|gp 2 ?_
 exact ⟨aj,Nat.lt_succ_self _,⟨_,af (J+1),j,(by kernel_rfl),ao⟩⟩
 refine xn 0<|sq<|dF<|xt 0<|aN ?_
 obtain rfl:=si j
 exact ⟨_,rfl,(by kernel_rfl),U⟩
def mO (F:Nat) (a0:List ak) (a1:Int):Option Int:=
 (oM F a0 a1).bind fun j=>
 some j
theorem C8 (F:Nat) {h:AH} {Z:Zn} {a0:List ak} {a1:Int} {v2} (hI:Inv Z h) (j:RS (α:=ak) Z v2 a0) {r:Int} (hm:mO F a0 a1=some r):
  bV Try.prog 25 [v2,V a1] h Z (V r):=by
 refine bW Try.func25 hI ?_
 intro hs hS
 unfold mO at hm
 refine s0<|df 0 [V a1] hS ?_
 intro ab ad I
 refine xn 1<|s0 ?_
 obtain ⟨J,U,hm⟩:=ai hm
 refine cA 2 I (fun p=>Cq F p j U) ?_
 rintro _ ae af _ ag aa ⟨rfl,rfl⟩
 refine xn 1<|rt<|⟨rfl,?_⟩
 obtain rfl:=si hm
 refine ⟨_,_,_,tk (V J) (ResL.nil),aa,?_⟩
 exact rfl
def DL:List aQ:=[u 2 (.box 34 (t 0)),u 4 (.assign (.const (.bool false)))]
def lB (F:Nat) (a0:eo) (a1:Int):Option Bool:=
 if (0:Int)≤a1 then
  if a1<(a0.al.length:Int) then
   some true
  else
   some false
 else
  some false
theorem sc (F:Nat) {h:AH} {Z:Zn} {a0:eo} {a1:Int} {v2} (hI:Inv Z h) (I:RS (α:=aq) Z v2 a0.al) {r:Bool} (hm:lB F a0 a1=some r):
  bV Try.prog 28 [.agg #[v2],V a1] h Z (.bool r):=by
 refine bW Try.func28 hI ?_
 intro hs hS
 unfold lB at hm
 refine sr DL<|gN rfl trivial (gE (cs:=[v2]) rfl rfl) hS ?_
 intro J U j
 refine xn 1<|s0<|ct 1 hm ?_ ?_<;>intro aa hm
 refine aB 3 0 v2 j rfl<|bG 0 v2 (RS.len I)<|aP 0 hm ?_ ?_<;>intro ab hm
 refine xn 2<|rt<|⟨rfl,?_⟩
 obtain rfl:=si hm
 refine ⟨_,_,_,tk (.bool true) (ResL.nil),j,?_⟩
 exact rfl
 refine xn 2<|rt<|⟨rfl,?_⟩
 obtain rfl:=si hm
 refine ⟨_,_,_,tk (.bool false) (ResL.nil),j,?_⟩
 exact rfl
 refine xn 8<|rt<|⟨rfl,?_⟩
 obtain rfl:=si hm
 refine ⟨_,_,_,tk (.bool false) (ResL.nil),j,?_⟩
 exact rfl
def ym:List bq:=[uL 5 (ld 34 1),uP 6 (mv 0),uF 7 (cf 28 #[(t 5),(t 6)] #[34,3]) .make [0],uP 8 (mv 7),aJ 8 9 (fa 34 1 0),jb 8 (some 10) (ld 25 9) .look [2],aJ 8 11 (mv 0),aJ 8 12 (ia 25 10 11),aJ 8 13 (fa 37 12 1),jb 8 (some 14) (ld 3 13) .look [2],jb 8 (some 15) (ld 3 2) .look [2],aJ 8 16 (bo .leq 3 14 15 3),uP 17 (pf 8 16),uP 18 (mv 17),jb 18 (some 19) (ld 3 2) .look [2],aJ 18 20 (fa 34 1 0),jb 18 (some 21) (ld 25 20) .look [2],aJ 18 22 (mv 0),aJ 18 23 (ia 25 21 22),aJ 18 24 (fa 37 23 2),jb 18 (some 25) (ld 3 24) .look [2],aJ 18 26 (bo .lss 3 19 25 3),uP 27 (pf 18 26),uP 4 (sg 27)]
def oW (F:Nat) (a0:Int) (a1:eo) (j:Int):Option Bool:=
 (lB F a1 a0).bind fun I=>
 if I=true then
  if 0≤a0∧a0<(a1.al.length:Int) then
   (a1.al[a0.toNat]?).bind fun J=>
   if J.ah≤j then
    if 0≤a0∧a0<(a1.al.length:Int) then
     (a1.al[a0.toNat]?).bind fun U=>
     if j<U.To then
      some true
     else
      some false
    else none
   else
    some false
  else none
 else
  some false
theorem Eb (F:Nat) {h:AH} {Z:Zn} {a0:Int} {a1:eo} {U:Int} {j I J} (hP:Pre Z h [.ae j [I], .ae J [V U]]) (ad:RS (α:=aq) Z I a1.al) {r:Bool} (hm:oW F a0 a1 U=some r):
  bQ Try.prog 27 [V a0,Pt j 0,Pt J 0] h Z [.ae j [I], .ae J [V U]] fun v Z' A'=> .bool r=v∧A'=[.ae j [I], .ae J [V U]]:=by
 refine b5 Try.func27 hP ?_
 intro hs hS
 unfold oW at hm
 refine s0<|xe 1 [(0,V a0),(1,Pt j 0),(2,Pt J 0)]<|cU ym hS ?_
 intro af aV ag aj
 have aX:j<af:=ag.1 _ (List.mem_of_getElem? (i:=0) rfl) _ (by simp [Itm.ids])
 refine aW (v:= .agg #[I]) rfl trivial rfl (by show j<_;omega) (iG (cs:=[I]) (.cons (RS.dZ ad) .nil)) (aj.aU (i:=0) rfl (by kernel_rfl)) trivial<|yq 1 [(6,V a0),(5, .agg #[I]),(0,V a0),(1,Pt j 0),(2,Pt J 0)] ?_
 obtain ⟨aA,aB,hm⟩:=ai hm
 have au:=aj.cJ
 obtain ⟨aY,aZ,aD,av,rfl⟩:=sc F au.inv ad aB
 have aE:=St.call (A:=[]) (B:=[.ae j [I], .ae J [V U]]) au av
 refine fD rfl trivial aj (dg aD rfl rfl rfl) aE (St.fJ av) ?_
 intro a2 ab
 refine yq 1 [(8, .bool aA),(0,V a0),(1,Pt j 0),(2,Pt J 0)] ?_
 rcases ifs hm with ⟨an,hm⟩ | ⟨an,hm⟩
 refine tC (t:=8) rfl an<|yq 1 [(9,Pt j 0),(8, .bool true),(0,V a0),(1,Pt j 0),(2,Pt J 0)] ?_
 have a3:j<af:=ag.1 _ (List.mem_of_getElem? (i:=0) rfl) _ (by simp [Itm.ids])
 refine aW (v:=I) rfl rfl rfl (by show j<_;omega) (aC (v:=I) (RS.dZ ad)) (ab.aU (i:=0) rfl (by kernel_rfl)) trivial<|yq 1 [(11,V a0),(10,I),(8, .bool true),(0,V a0),(1,Pt j 0),(2,Pt J 0)] ?_
 obtain ⟨aw,hm⟩:=aK hm
 refine aG rfl rfl (bF rfl rfl (by kernel_rfl:slTy _ _=some (aa aq)) (RS.c8 ad (by omega)) aw.1 aw.2)<|yq 1 [(13, .pointer (some (bj I a0 (aa aq) 1))),(8, .bool true),(0,V a0),(1,Pt j 0),(2,Pt J 0)] ?_
 obtain ⟨ax,aF,hm⟩:=ai hm
 obtain ⟨a4,aH,aI⟩:=RS.cy ad (i:=a0) aF
 obtain ⟨a6,a7,rfl⟩:=fw aH
 refine cM rfl rfl rfl (fun h2 hz=>bL (w:=V ax.ah) (aI h2 hz) rfl (by kernel_rfl)) (ab.b1 (aO.refl _)) (aC (v:=V ax.ah) trivial) trivial ?_
 have a8:J<af:=ag.1 _ (List.mem_of_getElem? (i:=1) rfl) _ (by simp [Itm.ids])
 refine aW (v:=V U) rfl rfl rfl (by show J<_;omega) (aC (v:=V U) trivial) (ab.aU (i:=1) rfl (by kernel_rfl)) trivial ?_
 rcases ifs hm with ⟨ao,hm⟩ | ⟨ao,hm⟩
 refine aG rfl rfl (bp rfl rfl (tH ao))<|yq 2 [(18, .bool true),(0,V a0),(1,Pt j 0),(2,Pt J 0)] ?_
 have a9:J<af:=ag.1 _ (List.mem_of_getElem? (i:=1) rfl) _ (by simp [Itm.ids])
 refine aW (v:=V U) rfl rfl rfl (by show J<_;omega) (aC (v:=V U) trivial) (ab.aU (i:=1) rfl (by kernel_rfl)) trivial<|yq 1 [(20,Pt j 0),(19,V U),(18, .bool true),(0,V a0)] ?_
 have ba:j<af:=ag.1 _ (List.mem_of_getElem? (i:=0) rfl) _ (by simp [Itm.ids])
 refine aW (v:=I) rfl rfl rfl (by show j<_;omega) (aC (v:=I) (RS.dZ ad)) (ab.aU (i:=0) rfl (by kernel_rfl)) trivial<|yq 1 [(22,V a0),(21,I),(19,V U),(18, .bool true)] ?_
 obtain ⟨ay,hm⟩:=aK hm
 refine aG rfl rfl (bF rfl rfl (by kernel_rfl:slTy _ _=some (aa aq)) (RS.c8 ad (by omega)) ay.1 ay.2)<|yq 1 [(24, .pointer (some (bj I a0 (aa aq) 2))),(19,V U),(18, .bool true)] ?_
 obtain ⟨az,aJ,hm⟩:=ai hm
 obtain ⟨bb,aL,aM⟩:=RS.cy ad (i:=a0) aJ
 obtain ⟨bc,bd,rfl⟩:=fw aL
 refine cM rfl rfl rfl (fun h2 hz=>bL (w:=V az.To) (aM h2 hz) rfl (by kernel_rfl)) (ab.b1 (aO.refl _)) (aC (v:=V az.To) trivial) trivial ?_
 rcases ifs hm with ⟨ar,hm⟩ | ⟨ar,hm⟩
 refine aG rfl rfl (bp rfl rfl (mS ar))<|ye 2 [(4, .bool true)] ?_
 have aN:=ab.a5
 refine rt<|⟨rfl,?_⟩
 obtain rfl:=si hm
 refine ⟨_,_,_,tk (.bool true) (ResL.nil),aN,?_⟩
 exact ⟨rfl,rfl⟩
 refine aG rfl rfl (bp rfl rfl (od ar))<|ye 2 [(4, .bool false)] ?_
 have aP:=ab.a5
 refine rt<|⟨rfl,?_⟩
 obtain rfl:=si hm
 refine ⟨_,_,_,tk (.bool false) (ResL.nil),aP,?_⟩
 exact ⟨rfl,rfl⟩
 refine aG rfl rfl (bp rfl rfl (sH ao))<|ye 12 [(4, .bool false)] ?_
 have aR:=ab.a5
 refine rt<|⟨rfl,?_⟩
 obtain rfl:=si hm
 refine ⟨_,_,_,tk (.bool false) (ResL.nil),aR,?_⟩
 exact ⟨rfl,rfl⟩
 refine tC (t:=8) rfl (Bool.eq_false_iff.2 an)<|ye 20 [(4, .bool false)] ?_
 have aT:=ab.a5
 refine rt<|⟨rfl,?_⟩
 obtain rfl:=si hm
 refine ⟨_,_,_,tk (.bool false) (ResL.nil),aT,?_⟩
 exact ⟨rfl,rfl⟩
def lL (F:Nat) (a0:List Int) (dO:eo) (fL:Int):Nat→Int→Option (Sum Unit Int)
 | 0,_=>none
 | n+1,j=>
  if j<(a0.length:Int) then
   if 0≤j∧j<(a0.length:Int) then
    (a0[j.toNat]?).bind fun I=>
    (oW F I dO fL).bind fun J=>
    if J=true then
     some (.inr j)
    else
     lL F a0 dO fL n (af (j+1))
   else none
  else
   some (.inl ())
def m7 (F:Nat) (a0:List Int) (dO:eo) (fL:Int):Option Int:=
 ((lL F a0 dO fL F 0):Option (Sum Unit Int)).bind fun o=>match o with
  | .inl ()=>some (-1)
  | .inr y=>some y
theorem DS (F:Nat) {h:AH} {Z:Zn} {a0:List Int} {dO:eo} {fL:Int} {v2 I U J} (hP:Pre Z h [.ae I [U], .ae J [V fL]]) (ad:RS (α:=Int) Z v2 a0) (av:RS (α:=aq) Z U dO.al) {r:Int} (hm:m7 F a0 dO fL=some r):
  bQ Try.prog 26 [v2, .func (.func 27) #[] #[Pt I 0,Pt J 0]] h Z [.ae I [U], .ae J [V fL]] fun v Z' A'=>V r=v∧A'=[.ae I [U], .ae J [V fL]]:=by
 refine b5 Try.func26 hP ?_
 intro hs hS
 unfold m7 at hm
 refine sp 1<|sq<|s0<|bG 1 v2 (RS.len ad)<|xn 1 ?_
 obtain ⟨ah,j,hm⟩:=ai hm
 refine aI [] (fun l h=>∃ an, .inl ()=ah∧l=[]∧St hs (aR [.ae I [U], .ae J [V fL]]) Z (0,0) an h [.ae I [U], .ae J [V fL]]) ?_ ?_
 rintro l ay ⟨an,rfl,rfl,aw⟩
 try dsimp only at hm
 refine sp 1<|rt<|⟨rfl,?_⟩
 obtain rfl:=si hm
 refine ⟨_,_,_,tk (V (-1)) (ResL.nil),aw,?_⟩
 exact ⟨rfl,rfl⟩
 refine bk 0<|lp [0,1,7,8] (fun n l h=>∃ ao ab,lL F a0 dO fL n ab=some ah∧l=[(0,v2),(1, .func (.func 27) #[] #[Pt I 0,Pt J 0]),(7,V (a0.length:Int)),(8,V ab)]∧St hs (aR [.ae I [U], .ae J [V fL]]) Z (0,0) ao h [.ae I [U], .ae J [V fL]]) F ⟨_,0,j,(by kernel_rfl),hS⟩ ?_
 rintro aj l az ⟨ao,ab,j,rfl,aa⟩
 rcases aj with _ | aj
 cases (show none=some ah from j)
 rw [lL] at j
 refine s0<|aP 0 j ?_ ?_<;>intro aA j
 refine xn 0<|sq<|dT<|sk<|sq<|bk 1<|sp 2<|s0<|a6 3 j (ad.mono aa.ag) ?_
 intro aB j
 refine bh 0 0 (fun ar=>V ar) j (ad.mono aa.ag) aa ?_
 intro ar aC j
 obtain ⟨aD,ax,j⟩:=ai j
 refine cA 0 aa (fun p=>Eb F p (av.mono aa.ag) ax) ?_
 rintro _ aE aF _ aG au ⟨rfl,rfl⟩
 refine xn 0<|db j ?_ ?_<;>intro aH j
 refine sp 2<|rt<|bw<|bw<|⟨rfl,?_⟩
 obtain rfl:=si j
 obtain rfl:=si hm
 refine ⟨_,_,_,tk (V ab) (ResL.nil),au,?_⟩
 exact ⟨rfl,rfl⟩
 refine sk<|gp 2 ?_
 exact ⟨aj,Nat.lt_succ_self _,⟨_,af (ab+1),j,(by kernel_rfl),au⟩⟩
 refine xn 0<|sq<|dF<|xt 0<|aN ?_
 obtain rfl:=si j
 exact ⟨_,rfl,(by kernel_rfl),aa⟩
def zX:List aQ:=[u 4 (.box 34 (t 1)),u 6 (.assign (ci 0))]
def walk_At_l0 (F:Nat) (a0:List ak) (a1:eo) (ab:Int):Nat→Int→Int→Int→Option Int
 | 0,_,_,_=>none
 | n+1,J,j,U=>
  if U<(a1.al.length:Int) then
   if 0≤j∧j<(a1.al.length:Int) then
    (a1.al[j.toNat]?).bind fun ad=>
    (m7 F ad.Kids a1 J).bind fun I=>
    if I<(0:Int) then
     some j
    else
     if 0≤j∧j<(a1.al.length:Int) then
      (a1.al[j.toNat]?).bind fun aa=>
      if 0≤I∧I<(aa.Kids.length:Int) then
       (aa.Kids[I.toNat]?).bind fun ae=>
       walk_At_l0 F a0 a1 ab n J ae (af (U+1))
      else none
     else none
   else none
  else
   some j
def kE (F:Nat) (a0:List ak) (a1:eo) (j:Int):Option Int:=
 (mO F a0 j).bind fun I=>
 if j<(0:Int) then
  some (-1)
 else
  if I<(0:Int) then
   some (-1)
  else
   if (a1.al.length:Int)=(0:Int) then
    some (-1)
   else
    ((walk_At_l0 F a0 a1 j F I 0 0):Option Int).bind fun o=>match o with
     | J=>some J
theorem q9 (F:Nat) {h:AH} {Z:Zn} {a0:List ak} {a1:eo} {au:Int} {v2 v4} (hI:Inv Z h) (aF:RS (α:=ak) Z v2 a0) (J:RS (α:=aq) Z v4 a1.al) {r:Int} (hm:kE F a0 a1 au=some r):
  bV Try.prog 10 [v2, .agg #[v4],V au] h Z (V r):=by
 refine bW Try.func10 hI ?_
 intro hs hS
 unfold kE at hm
 refine sr zX<|gN rfl trivial (gE (cs:=[v4]) rfl rfl) hS ?_
 intro aG a4 ay
 refine xn 1<|s0 ?_
 obtain ⟨ab,aH,hm⟩:=ai hm
 refine cP 2 ay (C8 F ay.inv aF aH) ?_
 rintro _ a5 aJ rfl
 refine df 0 [V 0] aJ ?_
 intro aK a7 aL
 refine bA 0 0 (V ab) [V ab] [V ab] aL rfl rfl rfl ?_
 intro a8 U
 refine xn 0<|sq<|s0<|aP 1 hm ?_ ?_<;>intro a9 hm
 refine xn 10<|dT<|sp 1<|rt<|⟨rfl,?_⟩
 obtain rfl:=si hm
 refine ⟨_,_,_,tk (V (-1)) (ResL.nil),U,?_⟩
 exact rfl
 refine aB 1 0 (V ab) U rfl<|aP 0 hm ?_ ?_<;>intro ba hm
 refine xn 7<|dT<|sp 1<|rt<|⟨rfl,?_⟩
 obtain rfl:=si hm
 refine ⟨_,_,_,tk (V (-1)) (ResL.nil),U,?_⟩
 exact rfl
 refine aB 3 1 v4 U rfl<|bG 0 v4 (RS.len J)<|aE 0 hm ?_ ?_<;>intro bb hm
 refine xn 1<|dT<|sp 1<|rt<|⟨rfl,?_⟩
 obtain rfl:=si hm
 refine ⟨_,_,_,tk (V (-1)) (ResL.nil),U,?_⟩
 exact rfl
 refine xn 1<|dF<|sk<|sp 1<|sq<|s0<|aB 1 1 v4 U rfl<|bG 0 v4 (RS.len J)<|xn 1 ?_
 obtain ⟨av,j,hm⟩:=ai hm
 refine aI [8] (fun l h=>∃ az ah,ah=av∧l=[(8,V ah)]∧St hs [] Z (0,0) az h []) ?_ ?_
 rintro l bc ⟨az,ah,rfl,rfl,aM⟩
 try dsimp only at hm
 refine sp 2<|rt<|⟨rfl,?_⟩
 obtain rfl:=si hm
 refine ⟨_,_,_,tk (V ah) (ResL.nil),aM,?_⟩
 exact rfl
 refine bk 0<|lp [4,7,8,27,28] (fun n l h=>∃ aA aj aa an ao ar,walk_At_l0 F a0 a1 au n aj aa an=some av∧l=[(4,Pt ao 0),(7,Pt ar 0),(8,V aa),(27,V (a1.al.length:Int)),(28,V an)]∧St hs [] Z (0,0) aA h [.ae ao [v4], .ae ar [V aj]]) F ⟨_,ab,0,0,aG,aK,j,(by kernel_rfl),((U.front 0 rfl).front 1 rfl)⟩ ?_
 rintro aw l bd ⟨aA,aj,aa,an,ao,ar,j,rfl,I⟩
 rcases aw with _ | aw
 cases (show none=some av from j)
 rw [walk_At_l0] at j
 refine s0<|aP 0 j ?_ ?_<;>intro bf j
 refine xn 0<|sq<|dT<|sk<|sq<|bk 1<|s0<|aB 1 0 v4 I rfl<|a6 1 j (J.mono I.ag) ?_
 intro bg j
 obtain ⟨bj,aR,j⟩:=ai j
 obtain ⟨bl,aT,aU⟩:=RS.cy (J.mono I.ag) (i:=aa) aR
 obtain ⟨aV,aW,rfl⟩:=fw aT
 refine fe 1 4 aV (aU _ (I.b1 (aO.refl _))) ?_
 obtain ⟨bm,aX,j⟩:=ai j
 refine cA 1 I (fun p=>DS F p aW (J.mono I.ag) aX) ?_
 rintro _ bn bo _ aC ad ⟨rfl,rfl⟩
 refine xn 1<|sq<|s0<|aP 1 j ?_ ?_<;>intro bp j
 refine xn 0<|dT<|xt 0<|g3 rfl<|aN ?_
 obtain rfl:=si j
 exact ⟨_,aa,rfl,(by kernel_rfl),(ad.takeN 0)⟩
 refine xn 0<|dF<|sk<|g0<|aB 1 0 v4 ad rfl<|a6 1 j (J.mono (I.ag.trans aC)) ?_
 intro br j
 obtain ⟨bt,aY,j⟩:=ai j
 obtain ⟨bu,aZ,a2⟩:=RS.cy (J.mono (I.ag.trans aC)) (i:=aa) aY
 obtain ⟨a3,aD,rfl⟩:=fw aZ
 refine fe 1 4 a3 (a2 _ (ad.b1 (aO.refl _)))<|a6 1 j aD ?_
 intro bw j
 refine bh 0 0 (fun ax=>V ax) j aD ad ?_
 intro ax bx j
 refine xn 1<|gp 2 ?_
 exact ⟨aw,Nat.lt_succ_self _,⟨_,aj,ax,af (an+1),ao,ar,j,(by kernel_rfl),ad⟩⟩
 refine xn 0<|sq<|dF<|xt 0<|aN ?_
 obtain rfl:=si j
 exact ⟨_,aa,rfl,(by kernel_rfl),(I.takeN 0)⟩
def xg:List bq:=[uP 14 (mv 0),uP 15 (mv 2),uP 16 (mv 0),uP 17 (mv 3),uP 18 (mv 0),uP 19 (mv 3),uP 20 (ia 23 18 19),uL 21 (ld 3 20),uP 22 (mv 0),uP 23 (mv 2),uP 24 (ia 23 22 23),uL 25 (ld 3 24),uP 26 (ia 23 14 15),oF (.store 3 (t 26) (t 21)) .make [7,11],uP 27 (ia 23 16 17),oF (.store 3 (t 27) (t 25)) .make [7,11]]
def slices_Reverse_int_l0 (F:Nat) (a0:List Int):Nat→(List Int)→Int→Int→Option (List Int)
 | 0,_,_,_=>none
 | n+1,I,j,J=>
  if j<J then
   if 0≤J∧J<(I.length:Int) then
    (I[J.toNat]?).bind fun U=>
    if 0≤j∧j<(I.length:Int) then
     (I[j.toNat]?).bind fun aa=>
     if 0≤j∧j<(I.length:Int) then
      (I[j.toNat]?).bind fun ab=>
      if 0≤J∧J<((I.set j.toNat U).length:Int) then
       ((I.set j.toNat U)[J.toNat]?).bind fun ad=>
       slices_Reverse_int_l0 F a0 n ((I.set j.toNat U).set J.toNat aa) (af (j+1)) (af (J - 1))
      else none
     else none
    else none
   else none
  else
   some I
def nC (F:Nat) (a0:List Int):Option (List Int):=
 ((slices_Reverse_int_l0 F a0 F a0 0 (af ((a0.length:Int) - 1))):Option (List Int)).bind fun o=>match o with
  | j=>some j
theorem xN (F:Nat) {h:AH} {Z:Zn} {a0:List Int} {v2 ag} (hP:Pre Z h [.gs v2 ag (aa Int)]) (ay:RCs (α:=Int) Z ag a0) {r:(List Int)} (hm:nC F a0=some r):
  bQ Try.prog 34 [v2] h Z [.gs v2 ag (aa Int)] fun v Z' A'=>∃ az, .tuple #[]=v∧A'=[.gs v2 az (aa Int)]∧RCs (α:=Int) Z' az r:=by
 refine b5 Try.func34 hP ?_
 intro hs hS
 unfold nC at hm
 refine s0<|bG 1 v2 (hS.da (i:=0) rfl ay)<|xn 3 ?_
 obtain ⟨ao,I,hm⟩:=ai hm
 refine aI [] (fun l h=>∃ aq ar an,ar=ao∧RCs (α:=Int) aq an ar∧l=[]∧St hs (aR [.gs v2 ag (aa Int)]) Z (0,0) aq h [.gs v2 an (aa Int)]) ?_ ?_
 rintro l bm ⟨aq,ar,an,rfl,aX,rfl,aY⟩
 try dsimp only at hm
 obtain rfl:=si hm
 refine ⟨_,_,_,ResL.nil,aY,?_⟩
 exact ⟨an,rfl,rfl,aX⟩
 refine bk 0<|lp [0,2,3] (fun n l h=>∃ au aj J U al,slices_Reverse_int_l0 F a0 n aj J U=some ao∧RCs (α:=Int) au al aj∧l=[(0,v2),(2,V J),(3,V U)]∧St hs (aR [.gs v2 ag (aa Int)]) Z (0,0) au h [.gs v2 al (aa Int)]) F ⟨_,a0,0,af ((a0.length:Int) - 1),ag,I,ay,(by kernel_rfl),hS⟩ ?_
 rintro av l bn ⟨au,aj,J,U,al,I,ab,rfl,aA⟩
 rcases av with _ | av
 cases (show none=some ao from I)
 rw [slices_Reverse_int_l0] at I
 refine sq<|s0<|aP 2 I ?_ ?_<;>intro bo I
 refine xn 0<|dT<|sk<|sq<|bk 1<|ee xg aA ?_
 intro aB bp aD ad
 refine yq 6 [(19,V U),(18,v2),(17,V U),(16,v2),(15,V J),(14,v2),(0,v2),(2,V J),(3,V U)] ?_
 obtain ⟨aE,I⟩:=aK I
 refine aG rfl trivial (bF rfl rfl (by kernel_rfl:slTy _ _=some (aa Int)) (ad.bK (j:=0) rfl ab (by omega)) aE.1 aE.2) ?_
 obtain ⟨ae,aF,I⟩:=ai I
 obtain ⟨br,a1,a2,bt⟩:=ad.cm (j:=0) rfl ab (i:=U) aF
 obtain rfl:=iN a1
 have a3:=dw aF
 have a4:=ad.bK (j:=0) rfl ab a3
 have bu:(baseOf v2).block<aB:=dn (aD.1 _ (List.mem_of_getElem? (i:=0) rfl)) a4
 refine di rfl trivial rfl (by show (baseOf v2).block<_;omega) (aC (v:=V ae) trivial) (bL (w:=V ae) a2 rfl (by kernel_rfl)) trivial<|yq 2 [(23,V J),(22,v2),(21,V ae),(17,V U),(16,v2),(15,V J),(14,v2),(0,v2),(2,V J),(3,V U)] ?_
 obtain ⟨aH,I⟩:=aK I
 refine aG rfl trivial (bF rfl rfl (by kernel_rfl:slTy _ _=some (aa Int)) (ad.bK (j:=0) rfl ab (by omega)) aH.1 aH.2) ?_
 obtain ⟨ah,aJ,I⟩:=ai I
 obtain ⟨bw,a6,a7,bx⟩:=ad.cm (j:=0) rfl ab (i:=J) aJ
 obtain rfl:=iN a6
 have a8:=dw aJ
 have a9:=ad.bK (j:=0) rfl ab a8
 have bz:(baseOf v2).block<aB:=dn (aD.1 _ (List.mem_of_getElem? (i:=0) rfl)) a9
 refine di rfl trivial rfl (by show (baseOf v2).block<_;omega) (aC (v:=V ah) trivial) (bL (w:=V ah) a7 rfl (by kernel_rfl)) trivial ?_
 obtain ⟨aL,I⟩:=aK I
 refine aG rfl trivial (bF rfl rfl (by kernel_rfl:slTy _ _=some (aa Int)) (ad.bK (j:=0) rfl ab (by omega)) aL.1 aL.2) ?_
 obtain ⟨bA,aM,I⟩:=ai I
 obtain ⟨bB,ba,bC,bb⟩:=ad.cm (j:=0) rfl ab (i:=J) aM
 obtain rfl:=iN ba
 have aT:St _ _ _ _ _ _ ([.gs v2 al (aa Int)]++[]):=(ad.front 0 rfl)
 refine kg rfl trivial aT (gz (u':=ae) (vs:=[V ae]) (aZ:=[V ae]) aT.sub (m:=0) rfl ab aM bb rfl rfl rfl (by kernel_rfl) rfl rfl rfl rfl) (aO.refl _) (.drop (by decide) (.drop (by decide) .nil)) ?_
 rintro bD bc ⟨aw,ax⟩
 obtain ⟨aU,I⟩:=aK I
 refine aG rfl trivial (bF rfl rfl (by kernel_rfl:slTy _ _=some (aa Int)) (ax.bK (j:=0) rfl aw (by omega)) aU.1 aU.2) ?_
 obtain ⟨bE,aV,I⟩:=ai I
 obtain ⟨bH,bd,bI,bf⟩:=ax.cm (j:=0) rfl aw (i:=U) aV
 obtain rfl:=iN bd
 have aW:St _ _ _ _ _ _ ([.gs v2 bc (aa Int)]++[]):=(ax.front 0 rfl)
 refine kg rfl trivial aW (gz (u':=ah) (vs:=[V ah]) (aZ:=[V ah]) aW.sub (m:=0) rfl aw aV bf rfl rfl rfl (by kernel_rfl) rfl rfl rfl rfl) (aO.refl _) (.drop (by decide) (.drop (by decide) .nil)) ?_
 rintro bJ bg ⟨bh,bj⟩
 refine yf [(0,v2),(2,V J),(3,V U)] ?_
 have bl:=bj.a5
 refine gp 6 ?_
 exact ⟨av,Nat.lt_succ_self _,⟨_,(aj.set J.toNat ae).set U.toNat ah,af (J+1),af (U - 1),bg,I,bh,(by kernel_rfl),bl⟩⟩
 refine xn 0<|dF<|xt 0<|aN ?_
 obtain rfl:=si I
 exact ⟨_,aj,al,rfl,ab,(by kernel_rfl),aA⟩
def Ev:List aQ:=[u 3 (mv 0),u 4 (.binOp .eql 23 (t 3) (.const (.slice none 0 0)) 23)]
def yN:List aQ:=[u 5 (.buildSlice 23 0 #[]),u 6 (mv 0),u 7 (cb .append #[(t 5),(t 6)] #[23,23]),u 2 (sg 7)]
def pw (F:Nat) (a0:List Int):Option (List Int):=
 if ([]:List Int).length+a0.length≤17592186044416 then
  some (([]:List Int)++a0)
 else none
theorem x6 (F:Nat) {h:AH} {Z:Zn} {a0:List Int} {v2} (hP:Pre Z h []) (I:RS (α:=Int) Z v2 a0) {r:(List Int)} (hm:pw F a0=some r):
  bQ Try.prog 31 [v2] h Z [] fun v Z' A'=>∃ v4 J,v4=v∧A'=[.gs v4 J (aa Int)]∧RCs (α:=Int) Z' J r:=by
 refine b5 Try.func31 hP ?_
 intro hs hS
 unfold pw at hm
 replace hS:St hs [] Z (0,0) Z hs []:=hS
 refine sp 1<|sq<|sr Ev<|xq 1 [(3,v2),(0,v2)] ?_
 rcases AP I with ⟨ad,j⟩ | j
 replace hm:some []=some r:=by rw [ad] at hm;simpa using hm
 refine bN rfl trivial (bp rfl rfl (AD ⟨_,Try.underlying23⟩ j))<|xn 0<|dT<|sp 1<|rt<|⟨rfl,?_⟩
 have ae:=hS.c9 (aa Int)
 obtain rfl:=si hm
 refine ⟨_,_,_,tk (.slice none 0 0) (ResL.nil),ae,?_⟩
 exact ⟨(.slice none 0 0),[],rfl,rfl,(RCs.br _)⟩
 refine bN rfl trivial (bp rfl rfl (zu ⟨_,Try.underlying23⟩ j))<|xf [(4, .bool false),(0,v2)]<|dF<|sk<|sr yN ?_
 have af:RCs (α:=Int) Z [] []:=RCs.br _
 refine dP rfl trivial (cX (cells:=[]) (s:=1) (by kernel_rfl)) (by kernel_rfl) hS ?_
 intro ag an U
 refine xq 1 [(6,v2),(5,ag)] ?_
 obtain ⟨ao,ah⟩:=RS.news I (U).inv
 obtain ⟨aq,hm⟩:=aK hm
 refine eS rfl trivial (dG (ys:=a0) (bS:=8) U (i:=0) rfl af ah rfl rfl (by kernel_rfl) (by omega) (by omega)) ?_
 rintro ab ai ar ⟨aj,al⟩
 refine xn 1<|rt<|⟨rfl,?_⟩
 obtain rfl:=si hm
 refine ⟨_,_,_,tk ab (ResL.nil),al,?_⟩
 exact ⟨ab,ai,rfl,rfl,aj⟩
def zl:List aQ:=[u 2 (.box 34 (t 0)),u 4 (.assign (.const (.slice none 0 0)))]
def EJ:List aQ:=[u 17 (mv 5),u 18 (mv 1),u 19 (.buildSlice 23 1 #[(0,(t 18))]),u 20 (cb .append #[(t 17),(t 19)] #[23,23]),u 5 (sg 20)]
def walk_Path_l0 (F:Nat) (a0:eo) (a1:Int):Nat→Int→(List Int)→Option (List Int)
 | 0,_,_=>none
 | n+1,j,I=>
  (lB F a0 j).bind fun J=>
  if J=true then
   if (I.length:Int)<(a0.al.length:Int) then
    if I.length+([j]:List Int).length≤17592186044416 then
     if 0≤j∧j<(a0.al.length:Int) then
      (a0.al[j.toNat]?).bind fun U=>
      walk_Path_l0 F a0 a1 n U.Up (I++([j]:List Int))
     else none
    else none
   else
    some I
  else
   some I
def mC (F:Nat) (a0:eo) (a1:Int):Option (List Int):=
 ((walk_Path_l0 F a0 a1 F a1 []):Option (List Int)).bind fun o=>match o with
  | j=>(nC F j).bind fun I=>
  (pw F I).bind fun J=>
  some J
theorem zN (F:Nat) {h:AH} {Z:Zn} {a0:eo} {a1:Int} {v2} (hP:Pre Z h []) (an:RS (α:=aq) Z v2 a0.al) {r:(List Int)} (hm:mC F a0 a1=some r):
  bQ Try.prog 18 [.agg #[v2],V a1] h Z [] fun v Z' A'=>∃ v4 aC,v4=v∧A'=[.gs v4 aC (aa Int)]∧RCs (α:=Int) Z' aC r:=by
 refine b5 Try.func18 hP ?_
 intro hs hS
 unfold mC at hm
 replace hS:St hs [] Z (0,0) Z hs []:=hS
 refine sr zl<|gN rfl trivial (gE (cs:=[v2]) rfl rfl) hS ?_
 intro aH bc aJ
 refine xn 1<|sp 1<|sq ?_
 obtain ⟨au,I,hm⟩:=ai hm
 refine aI [5] (fun l h=>∃ av aw ax ay,aw=au∧RCs (α:=Int) av ay aw∧l=[(5,ax)]∧St hs [] Z (0,0) av h [.gs ax ay (aa Int)]) ?_ ?_
 rintro l bd ⟨av,aw,ax,ay,rfl,aL,rfl,aM⟩
 try dsimp only at hm
 refine s0 ?_
 obtain ⟨bf,aR,hm⟩:=ai hm
 refine cA 1 aM (fun p=>xN F p aL aR) ?_
 rintro _ bg bh _ bj aT ⟨bl,rfl,rfl,aU⟩
 refine xn 0<|s0 ?_
 obtain ⟨bm,bn,aV,aD⟩:=(aT.front 0 rfl).freeze aU
 obtain ⟨bo,aW,hm⟩:=ai hm
 refine c0 1 aD (x6 F aD.ez aV aW) ?_
 rintro _ bp bt _ bu aX ⟨aE,aY,rfl,rfl,aZ⟩
 refine xn 1<|rt<|⟨rfl,?_⟩
 obtain rfl:=si hm
 refine ⟨_,_,_,tk aE (ResL.nil),aX,?_⟩
 exact ⟨aE,aY,rfl,rfl,aZ⟩
 refine bk 0 ?_
 have a2:=aJ.c9 (aa Int)
 refine lp [1,2,5] (fun n l h=>∃ ao J ad af U ah,walk_Path_l0 F a0 a1 n J ad=some au∧RCs (α:=Int) ao ah ad∧l=[(1,V J),(2,Pt af 0),(5,U)]∧St hs [] Z (0,0) ao h [.ae af [v2], .gs U ah (aa Int)]) F ⟨_,a1,[],aH,(.slice none 0 0),[],I,(RCs.br _),(by kernel_rfl),((a2.front 0 rfl).front 1 rfl)⟩ ?_
 rintro az l bw ⟨ao,J,ad,af,U,ah,I,ar,rfl,ab⟩
 rcases az with _ | az
 cases (show none=some au from I)
 rw [walk_Path_l0] at I
 refine sq<|s0<|aB 0 0 (.agg #[v2]) ab rfl ?_
 obtain ⟨bx,a3,I⟩:=ai I
 refine cP 1 ab (sc F ab.inv (an.mono ab.ag) a3) ?_
 rintro _ bz aj rfl
 refine kb 1 9 I ?_ ?_<;>intro bA I
 refine bG 1 U (aj.da (i:=1) rfl ar)<|aB 1 0 v2 aj rfl<|bG 0 v2 (RS.len (an.mono ab.ag))<|aP 0 I ?_ ?_<;>intro bB I
 refine xn 1<|dT<|sk<|bk 1<|sr EJ<|xq 2 [(18,V J),(17,U),(1,V J),(2,Pt af 0),(5,U)] ?_
 have a4:RCs (α:=Int) ao [V J] ([J]:List Int):=RCs.cons (cs:=[V J]) rfl (RCs.br _)
 refine dP rfl trivial (cX (cells:=[V J]) (s:=1) (by kernel_rfl)) (by kernel_rfl) aj ?_
 intro bC bD aF
 obtain ⟨bE,I⟩:=aK I
 refine eS rfl trivial (dG (ys:=([J]:List Int)) (bS:=8) aF (i:=2) rfl ar ((aF).eA (j:=0) rfl a4) rfl rfl (by kernel_rfl) (by omega) (by omega)) ?_
 rintro a5 a7 bF ⟨a8,aA⟩
 refine xn 1<|g0<|aB 1 1 v2 aA rfl<|a6 1 I (an.mono ab.ag) ?_
 intro bH I
 obtain ⟨aG,a9,I⟩:=ai I
 obtain ⟨bI,ba,bb⟩:=RS.cy (an.mono ab.ag) (i:=J) a9
 obtain ⟨bJ,bK,rfl⟩:=fw ba
 refine fe 1 3 (V aG.Up) (bb _ (aA.b1 (aO.refl _)))<|xn 1 ?_
 exact ⟨az,Nat.lt_succ_self _,⟨_,aG.Up,ad++([J]:List Int),af,a5,a7,I,a8,(by kernel_rfl),(((aA.front 2 rfl).front 2 rfl).takeN 2)⟩⟩
 refine xn 1<|dF<|xt 0<|aN ?_
 obtain rfl:=si I
 exact ⟨_,ad,U,ah,rfl,ar,(by kernel_rfl),((aj.front 1 rfl).takeN 1)⟩
 refine xn 7<|dF<|xt 0<|aN ?_
 obtain rfl:=si I
 exact ⟨_,ad,U,ah,rfl,ar,(by kernel_rfl),((aj.front 1 rfl).takeN 1)⟩
def B1:List bq:=[uP 21 (mv 0),uP 22 (mv 1),uP 23 (ia 24 21 22),uP 24 (fa 85 23 1),uL 25 (ld 3 24),uP 26 (mv 0),uP 27 (mv 2),uP 28 (bc .sub 3 27 1 3),uP 29 (ia 24 26 28),uP 30 (fa 85 29 2),uL 31 (ld 3 30),uP 32 (.build 45 #[(0,(t 25)),(1,(t 31))]),uP 33 (.makeInterface 45 (t 32)),uP 6 (sg 33)]
def oI (F:Nat) (a0:List ak) (a1:Int) (j:Int):Option (Sum Int ie):=
 ((if a1<j then
   if (0:Int)≤a1 then
    if j≤(a0.length:Int) then
     some true
    else
     some false
   else
    some false
  else
   some false):Option Bool).bind fun o=>match o with
  | I=>if I=true then
   if 0≤a1∧a1<(a0.length:Int) then
    (a0[a1.toNat]?).bind fun J=>
    if 0≤(af (j - 1))∧(af (j - 1))<(a0.length:Int) then
     (a0[(af (j - 1)).toNat]?).bind fun U=>
     some (.inr (⟨J.ah,U.To⟩:ie))
    else none
   else none
  else
   ((if (0:Int)≤a1 then
     if a1<(a0.length:Int) then
      some true
     else
      some false
    else
     some false):Option Bool).bind fun o=>match o with
    | aa=>if aa=true then
     if 0≤a1∧a1<(a0.length:Int) then
      (a0[a1.toNat]?).bind fun ab=>
      some (.inl ab.ah)
     else none
    else
     if (0:Int)<(a0.length:Int) then
      if 0≤(af ((a0.length:Int) - 1))∧(af ((a0.length:Int) - 1))<(a0.length:Int) then
       (a0[(af ((a0.length:Int) - 1)).toNat]?).bind fun ad=>
       some (.inl ad.To)
      else none
     else
      some (.inl 0)
theorem uf (F:Nat) {h:AH} {Z:Zn} {a0:List ak} {a1:Int} {ab:Int} {v2} (hI:Inv Z h) (j:RS (α:=ak) Z v2 a0) {r:(Sum Int ie)} (hm:oI F a0 a1 ab=some r):
  bV Try.prog 33 [v2,V a1,V ab] h Z (match r with | .inl az=> .iface 3 (V az) | .inr au=> .iface 45 (.agg #[V au.ah,V au.To])):=by
 refine bW Try.func33 hI ?_
 intro hs hS
 unfold oI at hm
 refine sp 1<|sq<|bk 0<|sq ?_
 obtain ⟨aA,J,hm⟩:=ai hm
 refine aI [0,1,2,7] (fun l h=>∃ av al,al=aA∧l=[(0,v2),(1,V a1),(2,V ab),(7, .bool al)]∧St hs [] Z (0,0) av h []) ?_ ?_
 rintro l aN ⟨av,al,rfl,rfl,U⟩
 try dsimp only at hm
 refine db hm ?_ ?_<;>intro aR hm
 refine cU B1 U ?_
 intro aT aU aV an
 refine yq 2 [(22,V a1),(21,v2),(0,v2),(2,V ab)] ?_
 obtain ⟨aw,hm⟩:=aK hm
 refine aG rfl trivial (bF rfl rfl (by kernel_rfl:slTy _ _=some (aa ak)) (RS.c8 (j.mono U.ag) (by omega)) aw.1 aw.2)<|yq 1 [(24, .pointer (some (bj v2 a1 (aa ak) 1))),(0,v2),(2,V ab)] ?_
 obtain ⟨ae,aB,hm⟩:=ai hm
 obtain ⟨aW,aD,aE⟩:=RS.cy (j.mono U.ag) (i:=a1) aB
 obtain rfl:=ey aD
 refine cM rfl rfl trivial (fun h2 hz=>bL (w:=V ae.ah) (aE h2 hz) rfl (by kernel_rfl)) (an.b1 (aO.refl _)) (aC (v:=V ae.ah) trivial) trivial<|yq 3 [(28,V (af (ab - 1))),(26,v2),(25,V ae.ah)] ?_
 obtain ⟨ax,hm⟩:=aK hm
 refine aG rfl trivial (bF rfl rfl (by kernel_rfl:slTy _ _=some (aa ak)) (RS.c8 (j.mono U.ag) (by omega)) ax.1 ax.2)<|yq 1 [(30, .pointer (some (bj v2 (af (ab - 1)) (aa ak) 2))),(25,V ae.ah)] ?_
 obtain ⟨aj,aF,hm⟩:=ai hm
 obtain ⟨aX,aH,aJ⟩:=RS.cy (j.mono U.ag) (i:=af (ab - 1)) aF
 obtain rfl:=ey aH
 refine cM rfl rfl trivial (fun h2 hz=>bL (w:=V aj.To) (aJ h2 hz) rfl (by kernel_rfl)) (an.b1 (aO.refl _)) (aC (v:=V aj.To) trivial) trivial<|ye 3 [(6, .iface 45 (.agg #[V ae.ah,V aj.To]))] ?_
 have aL:=an.a5
 refine rt<|bw<|⟨rfl,?_⟩
 obtain rfl:=si hm
 refine ⟨_,_,_,tk (.iface 45 (.agg #[V ae.ah,V aj.To])) (ResL.nil),aL,?_⟩
 exact rfl
 refine sq ?_
 obtain ⟨aM,ad,hm⟩:=ai hm
 refine aI [0,1,34] (fun l h=>∃ ay ao,ao=aM∧l=[(0,v2),(1,V a1),(34, .bool ao)]∧St hs [] Z (0,0) ay h []) ?_ ?_
 rintro l aY ⟨ay,ao,rfl,rfl,I⟩
 try dsimp only at hm
 refine db hm ?_ ?_<;>intro aZ hm
 refine s0<|a6 2 hm (j.mono I.ag) ?_
 intro a2 hm
 refine bh 1 1 (fun aq=>V aq.ah) hm (j.mono I.ag) I ?_
 intro aq a3 hm
 refine xn 2<|rt<|bw<|⟨rfl,?_⟩
 obtain rfl:=si hm
 refine ⟨_,_,_,tk (.iface 3 (V aq.ah)) (ResL.nil),I,?_⟩
 exact rfl
 refine s0<|bG 1 v2 (RS.len (j.mono I.ag))<|cz 0 hm ?_ ?_<;>intro a4 hm
 refine xn 1<|dT<|s0<|bG 2 v2 (RS.len (j.mono I.ag))<|a6 1 hm (j.mono I.ag) ?_
 intro a7 hm
 refine bh 1 2 (fun ar=>V ar.To) hm (j.mono I.ag) I ?_
 intro ar a8 hm
 refine xn 2<|rt<|bw<|⟨rfl,?_⟩
 obtain rfl:=si hm
 refine ⟨_,_,_,tk (.iface 3 (V ar.To)) (ResL.nil),I,?_⟩
 exact rfl
 refine xn 1<|dF<|sk<|sp 2<|rt<|⟨rfl,?_⟩
 obtain rfl:=si hm
 refine ⟨_,_,_,tk (.iface 3 (V 0)) (ResL.nil),I,?_⟩
 exact rfl
 refine g0<|ct 1 ad ?_ ?_<;>intro a9 ad
 refine bG 3 v2 (RS.len (j.mono U.ag))<|aP 0 ad ?_ ?_<;>intro ba ad
 refine xn 2 ?_
 obtain rfl:=si ad
 exact ⟨_,true,rfl,(by kernel_rfl),U⟩
 refine xn 2 ?_
 obtain rfl:=si ad
 exact ⟨_,false,rfl,(by kernel_rfl),U⟩
 refine xn 7 ?_
 obtain rfl:=si ad
 exact ⟨_,false,rfl,(by kernel_rfl),U⟩
 refine g0<|aP 2 J ?_ ?_<;>intro bb J
 refine ct 2 J ?_ ?_<;>intro bc J
 refine bG 4 v2 (RS.len j)<|e6 0 J ?_ ?_<;>intro bd J
 refine xn 2 ?_
 obtain rfl:=si J
 exact ⟨_,true,rfl,(by kernel_rfl),hS⟩
 refine xn 2 ?_
 obtain rfl:=si J
 exact ⟨_,false,rfl,(by kernel_rfl),hS⟩
 refine xn 8 ?_
 obtain rfl:=si J
 exact ⟨_,false,rfl,(by kernel_rfl),hS⟩
 refine xn 11 ?_
 obtain rfl:=si J
 exact ⟨_,false,rfl,(by kernel_rfl),hS⟩
def zt:List aQ:=[u 3 (.box 37 (t 1)),u 4 (.alloc 45)]
def wm:List aQ:=[u 9 (mv 0),u 10 (fa 37 3 1),u 11 (ld 3 10),u 12 (fa 37 3 2),u 13 (ld 3 12),u 14 (cf 33 #[(t 9),(t 11),(t 13)] #[24,3,3]),u 5 (sg 14)]
def ly (F:Nat) (a0:List ak) (a1:aq):Option ie:=
 (oI F a0 a1.ah a1.To).bind fun I=>
 match I with
  | .inl j=>some (⟨j,j⟩:ie)
  | .inr J=>some J
theorem uE (F:Nat) {h:AH} {Z:Zn} {a0:List ak} {a1:aq} {v2 v4} (hI:Inv Z h) (ab:RS (α:=ak) Z v2 a0) (aC:RS (α:=Int) Z v4 a1.Kids) {r:ie} (hm:ly F a0 a1=some r):
  bV Try.prog 16 [v2, .agg #[V a1.Kind,V a1.ah,V a1.To,V a1.Up,v4, .bool a1.Key]] h Z (.agg #[V r.ah,V r.To]):=by
 refine bW Try.func16 hI ?_
 intro hs hS
 unfold ly at hm
 refine sr zt<|gN rfl trivial (gE (cs:=[V a1.Kind,V a1.ah,V a1.To,V a1.Up,v4, .bool a1.Key]) rfl rfl) hS ?_
 intro U aD al
 refine df 0 [V 0,V 0] al ?_
 intro aa aE J
 refine xn 0<|sr wm<|aB 2 1 (V a1.ah) J rfl<|xq 1 [(12,Pt U 2),(11,V a1.ah),(9,v2),(4,Pt aa 0)]<|aB 0 1 (V a1.To) J rfl ?_
 obtain ⟨an,ad,hm⟩:=ai hm
 rcases an with I | j
 try dsimp only at hm
 obtain ⟨aF,aG,ao,ar,rfl⟩:=uf F J.inv ab ad
 have au:=St.call (A:=[]) (B:=[.ae aa [V 0,V 0], .ae U (j0 v4 a1)]) J ar
 refine bN rfl trivial (dg ao rfl rfl rfl)<|xn 1<|sq<|s0<|df 5 [V 0,V 0] au ?_
 intro aH aI av
 refine bA 0 0 (.agg #[V 0,V 0]) [V 0,V 0] [V 0,V 0] av rfl rfl rfl ?_
 intro aJ aw
 refine xn 1<|sp 1<|dF<|sk<|sp 3<|s0<|bA 3 1 (.agg #[V I,V I]) [V I,V I] [V I,V I] aw rfl rfl rfl ?_
 intro aK af
 refine xn 0<|rt<|⟨rfl,?_⟩
 obtain rfl:=si hm
 refine ⟨_,_,_,ResL.cell (v:= .agg #[V I,V I]) (by kernel_rfl) af (i:=1) rfl (by kernel_rfl) (ResL.nil),af,?_⟩
 exact rfl
 try dsimp only at hm
 obtain ⟨aL,aM,ax,ay,rfl⟩:=uf F J.inv ab ad
 have az:=St.call (A:=[]) (B:=[.ae aa [V 0,V 0], .ae U (j0 v4 a1)]) J ay
 refine bN rfl trivial (dg ax rfl rfl rfl)<|xn 1<|sq<|s0<|df 5 [V 0,V 0] az ?_
 intro aN aO aA
 refine bA 0 0 (.agg #[V j.ah,V j.To]) [V j.ah,V j.To] [V j.ah,V j.To] aA rfl rfl rfl ?_
 intro aP ag
 refine xn 1<|sp 1<|dT<|s0<|aB 0 0 (.agg #[V j.ah,V j.To]) ag rfl<|bA 0 1 (.agg #[V j.ah,V j.To]) [V j.ah,V j.To] [V j.ah,V j.To] ag rfl rfl rfl ?_
 intro aR aj
 refine xn 0<|rt<|⟨rfl,?_⟩
 obtain rfl:=si hm
 refine ⟨_,_,_,ResL.cell (v:= .agg #[V j.ah,V j.To]) (by kernel_rfl) aj (i:=1) rfl (by kernel_rfl) (ResL.nil),aj,?_⟩
 exact rfl
def B6:List aQ:=[u 1 (.box 27 (t 0)),u 2 (.alloc 34)]
def Bn:List aQ:=[u 3 (fa 27 1 0),u 4 (ld 25 3),u 5 (.build 34 #[(0,(t 4))]),o (.store 34 (t 2) (t 5))]
def lN (F:Nat) (a0:cT):Option eo:=
 some (⟨a0.al⟩:eo)
theorem qa (F:Nat) {h:AH} {Z:Zn} {a0:cT} {v2} (hP:Pre Z h []) (j:RS (α:=aq) Z v2 a0.al) {r:eo} (hm:lN F a0=some r):
  bQ Try.prog 11 [.agg #[v2]] h Z [] fun v Z' A'=>∃ v4, .agg #[v4]=v∧A'=[]∧RS (α:=aq) Z' v4 r.al:=by
 refine b5 Try.func11 hP ?_
 intro hs hS
 unfold lN at hm
 replace hS:St hs [] Z (0,0) Z hs []:=hS
 refine sr B6<|gN rfl trivial (gE (cs:=[v2]) rfl rfl) hS ?_
 intro U ad aa
 refine df 0 [.slice none 0 0] aa ?_
 intro ab ae I
 refine xn 0<|sr Bn<|xq 1 [(3,Pt U 0),(2,Pt ab 0)]<|aB 0 1 v2 I rfl<|bN rfl trivial (jr (v:= .agg #[v2]) rfl (CA.cons (cs:=[v2]) (RS.qd j) (CA.br)) (by kernel_rfl))<|bA 0 0 (.agg #[v2]) [v2] [v2] I rfl rfl (bt (RS.cY j) cp) ?_
 intro af J
 refine xn 0<|rt<|⟨rfl,?_⟩
 obtain rfl:=si hm
 refine ⟨_,_,_,ResL.cell (v:= .agg #[v2]) (by kernel_rfl) J (i:=0) rfl (by kernel_rfl) (ResL.nil),(J.takeN 0),?_⟩
 exact ⟨v2,rfl,rfl,j⟩
def B4:List aQ:=[u 5 (.buildSlice 31 1 #[(0,(.const (.int .u8 97)))]),u 6 (.convert 31 31 (t 5)),u 7 (cf 8 #[(t 6),(ci 5)] #[31,3]),u 4 (mv 7),u 8 (.extract (t 4) 0),u 9 (.extract (t 4) 1),u 10 (.extract (t 4) 2),u 2 (.alloc 27),u 1 (sg 8),o (.store 27 (t 2) (t 9)),u 3 (sg 10)]
def pe (F:Nat):Option Bool:=
 if 0<([97]:List UInt8).length then
  (k9 F ([97]:List UInt8) 5).bind fun j=>
  (lN F j.2.1).bind fun I=>
  (kE F j.1 I 9).bind fun J=>
  if J=(-1:Int) then
   (lN F j.2.1).bind fun U=>
   (kE F j.1 U 0).bind fun aa=>
   if aa=(2:Int) then
    some true
   else
    some false
  else
   some false
 else none
theorem v3 (F:Nat) {h:AH} {Z:Zn} (hI:Inv Z h) {r:Bool} (hm:pe F=some r):
  bV Try.prog 7 [] h Z (.bool r):=by
 refine bW Try.func7 hI ?_
 intro hs hS
 unfold pe at hm
 refine s0<|xe 1 []<|sr B4 ?_
 have ad:RCs (α:=UInt8) Z [.int .u8 97] ([97]:List UInt8):=RCs.cons (cs:=[.int .u8 97]) rfl (RCs.br _)
 refine dP rfl trivial (cX (cells:=[.int .u8 97]) (s:=1) (by kernel_rfl)) (by kernel_rfl) hS ?_
 intro v1 h2 ae
 obtain ⟨an,hm⟩:=aK hm
 refine bN rfl trivial (wM ae (j:=0) rfl ad an rfl (by kernel_rfl)) ?_
 obtain ⟨aD,aF,ao,af⟩:=(ae.front 0 rfl).freeze ad
 obtain ⟨aG,aq,hm⟩:=ai hm
 refine c0 0 af (vF F af.ez ao aq) ?_
 rintro _ aH aI _ aJ ar ⟨aL,I,aM,aN,rfl,rfl,ag,U,aO⟩
 refine df 4 [.slice none 0 0] ar ?_
 intro aP aR au
 refine bA 1 0 (.agg #[I]) [I] [I] au rfl rfl (bt (RS.cY U) cp) ?_
 intro aT aa
 refine xn 1<|s0<|aB 1 0 (.agg #[I]) aa rfl ?_
 obtain ⟨aU,av,hm⟩:=ai hm
 refine c0 0 aa (qa F aa.ez U av) ?_
 rintro _ aV aW _ ab ah ⟨aX,rfl,rfl,aw⟩
 obtain ⟨aY,ax,hm⟩:=ai hm
 refine cP 0 ah (q9 F ah.inv (ag.mono ab) aw ax) ?_
 rintro _ aZ J rfl
 refine aE 0 hm ?_ ?_<;>intro a0 hm
 refine aB 2 0 (.agg #[I]) J rfl ?_
 obtain ⟨a1,ay,hm⟩:=ai hm
 refine c0 0 J (qa F J.ez (U.mono ab) ay) ?_
 rintro _ a2 a3 _ az aj ⟨a4,rfl,rfl,aA⟩
 obtain ⟨a5,aC,hm⟩:=ai hm
 refine cP 0 aj (q9 F aj.inv (ag.mono (ab.trans az)) aA aC) ?_
 rintro _ a6 al rfl
 refine aE 0 hm ?_ ?_<;>intro a7 hm
 refine xn 2<|rt<|⟨rfl,?_⟩
 obtain rfl:=si hm
 refine ⟨_,_,_,tk (.bool true) (ResL.nil),al,?_⟩
 exact rfl
 refine xn 2<|rt<|⟨rfl,?_⟩
 obtain rfl:=si hm
 refine ⟨_,_,_,tk (.bool false) (ResL.nil),al,?_⟩
 exact rfl
 refine xn 8<|rt<|⟨rfl,?_⟩
 obtain rfl:=si hm
 refine ⟨_,_,_,tk (.bool false) (ResL.nil),J,?_⟩
 exact rfl
def EA:List aQ:=[u 6 (mv 0),u 7 (mv 1),u 8 (bo .rem 3 6 7 3),u 5 (sg 8)]
def nL (F:Nat) (a0:Int) (a1:Int):Option Int:=
 if ¬ a1=(0:Int) then
  ((if (a0.tmod a1)<(0:Int) then
    some (af ((a0.tmod a1)+a1))
   else
    some (a0.tmod a1)):Option Int).bind fun o=>match o with
   | j=>some j
 else none
theorem D2 (F:Nat) {h:AH} {Z:Zn} {a0:Int} {a1:Int} (hI:Inv Z h) {r:Int} (hm:nL F a0 a1=some r):
  bV Try.prog 9 [V a0,V a1] h Z (V r):=by
 refine bW Try.func9 hI ?_
 intro hs hS
 unfold nL at hm
 refine sp 1<|sr EA<|xq 2 [(7,V a1),(6,V a0),(1,V a1)] ?_
 obtain ⟨U,hm⟩:=aK hm
 refine bN rfl trivial (sT U rfl rfl)<|xn 1<|sq ?_
 obtain ⟨aa,j,hm⟩:=ai hm
 refine dY [5] (fun l h=>∃ J I,I=aa∧l=[(5,V I)]∧St hs [] Z (0,0) J h []) (by kernel_rfl) ?_ ?_
 rintro l ad ⟨J,I,rfl,rfl,ab⟩
 try dsimp only at hm
 refine sp 2<|rt<|⟨rfl,?_⟩
 obtain rfl:=si hm
 refine ⟨_,_,_,tk (V I) (ResL.nil),ab,?_⟩
 exact rfl
 refine g0<|aP 1 j ?_ ?_<;>intro ae j
 refine xn 0<|dT<|gp 4 ?_
 obtain rfl:=si j
 exact ⟨_,af ((a0.tmod a1)+a1),rfl,(by kernel_rfl),hS⟩
 refine xn 0<|dF<|sk ?_
 obtain rfl:=si j
 exact ⟨_,a0.tmod a1,rfl,(by kernel_rfl),hS⟩
end Go.Proofs.Ytcilejikekccmaa.M
namespace Go.Proofs.Ytcilejikekccmaa.M
open Go Am Sy
open Sy.Cell (rc)
def correctorlaw13_WalkIn_l0 (F:Nat) (a0:List Int) (a1:List UInt8) (aj:Int):Nat→Int→(List ak)→(List aq)→(List aq)→Int→(List Int)→Int→Int→Option (Sum ((List aq)×Int) Bool)
 | 0,_,_,_,_,_,_,_,_=>none
 | n+1,U,aa,I,ab,ae,J,ag,j=>
  if j<ag then
   if 0≤j∧j<(J.length:Int) then
    (J[j.toNat]?).bind fun ad=>
    if 0≤ad∧ad<(I.length:Int) then
     (I[ad.toNat]?).bind fun al=>
     (ly F aa al).bind fun ai=>
     ((if ai.ah≤U then
       if U<ai.To then
        some (.inr false)
       else
        some (.inl (aa,I,ab,J))
      else
       some (.inl (aa,I,ab,J))):Option (Sum ((List ak)×(List aq)×(List aq)×(List Int)) Bool)).bind fun o=>match o with
      | .inl (an,ao,ar,au)=>correctorlaw13_WalkIn_l0 F a0 a1 aj n U an ao ar ae au ag (af (j+1))
      | .inr y=>some (.inr y)
    else none
   else none
  else
   some (.inl (ab,ae))
def correctorlaw13_WalkIn (F:Nat) (a0:List Int) (a1:List UInt8) (ab:Int):Option Bool:=
 (pe F).bind fun aj=>
 if aj=true then
  (mq F a0 a1).bind fun aa=>
  if (aa.length:Int)=(0:Int) then
   some true
  else
   (nL F ab (aa.length:Int)).bind fun U=>
   (k9 F aa 20).bind fun j=>
   (lN F j.2.1).bind fun ad=>
   (kE F j.1 ad U).bind fun I=>
   if I<(0:Int) then
    some false
   else
    if (j.2.1.al.length:Int)≤I then
     some false
    else
     if 0≤I∧I<(j.2.1.al.length:Int) then
      (j.2.1.al[I.toNat]?).bind fun an=>
      (ly F j.1 an).bind fun ae=>
      if U<ae.ah then
       some false
      else
       if ae.To≤U then
        some false
       else
        if 0≤I∧I<(j.2.1.al.length:Int) then
         (j.2.1.al[I.toNat]?).bind fun ag=>
         ((correctorlaw13_WalkIn_l0 F a0 a1 ab F U j.1 j.2.1.al ad.al I ag.Kids (ag.Kids.length:Int) 0):Option (Sum ((List aq)×Int) Bool)).bind fun o=>match o with
          | .inl (ao,ai)=>(mC F (⟨ao⟩:eo) ai).bind fun J=>
          if (0:Int)<(J.length:Int) then
           if 0≤(0:Int)∧(0:Int)<(J.length:Int) then
            (J[(0:Int).toNat]?).bind fun ar=>
            if ar=(0:Int) then
             if 0≤(af ((J.length:Int) - 1))∧(af ((J.length:Int) - 1))<(J.length:Int) then
              (J[(af ((J.length:Int) - 1)).toNat]?).bind fun au=>
              if au=ai then
               some true
              else
               some false
             else none
            else
             some false
           else none
          else
           some false
          | .inr y=>some y
        else none
     else none
 else
  some false
theorem Dh (F:Nat) {h:AH} {Z:Zn} {a0:List Int} {a1:List UInt8} {bd:Int} {v2 v4} (hI:Inv Z h) (bQ:RS (α:=Int) Z v2 a0) (bR:RS (α:=UInt8) Z v4 a1) {r:Bool} (hm:correctorlaw13_WalkIn F a0 a1 bd=some r):
  bV Try.prog 6 [v2,v4,V bd] h Z (.bool r):=by
 refine bW Try.func6 hI ?_
 intro hs hS
 unfold correctorlaw13_WalkIn at hm
 refine sp 1<|sq<|s0 ?_
 obtain ⟨cK,bS,hm⟩:=ai hm
 refine cP 0 hS (v3 F hS.inv bS) ?_
 rintro _ cL bf rfl
 refine kb 0 18 hm ?_ ?_<;>intro cM hm
 refine xn 1<|dF<|sk<|s0 ?_
 obtain ⟨cQ,bT,hm⟩:=ai hm
 refine c0 2 bf (x7 F bf.ez bQ bR bT) ?_
 rintro _ cR cS _ cT bg ⟨bI,rfl,rfl,bj⟩
 refine xn 1<|sq<|s0<|bG 1 bI (RS.len bj)<|aE 0 hm ?_ ?_<;>intro cU hm
 refine xn 0<|dT<|sp 1<|rt<|⟨rfl,?_⟩
 obtain rfl:=si hm
 refine ⟨_,_,_,tk (.bool true) (ResL.nil),bg,?_⟩
 exact rfl
 refine xn 0<|dF<|sk<|s0<|bG 2 bI (RS.len bj) ?_
 obtain ⟨bU,bX,hm⟩:=ai hm
 refine cP 0 bg (D2 F bg.inv bX) ?_
 rintro _ cX bJ rfl
 refine xn 1<|s0 ?_
 obtain ⟨bK,bY,hm⟩:=ai hm
 refine c0 1 bJ (vF F bJ.ez bj bY) ?_
 rintro _ c3 c4 _ c5 bZ ⟨b0,J,c6,c7,rfl,rfl,bl,aa,c8⟩
 refine df 4 [.slice none 0 0] bZ ?_
 intro b2 c9 b3
 refine bA 1 0 (.agg #[J]) [J] [J] b3 rfl rfl (bt (RS.cY aa) cp) ?_
 intro db bm
 refine xn 1<|s0<|aB 0 0 (.agg #[J]) bm rfl ?_
 obtain ⟨b4,b5,hm⟩:=ai hm
 refine c0 0 bm (qa F bm.ez aa b5) ?_
 rintro _ dc dd _ U b6 ⟨aC,rfl,rfl,bn⟩
 refine df 0 [.slice none 0 0] b6 ?_
 intro b7 de b8
 refine bA 0 0 (.agg #[aC]) [aC] [aC] b8 rfl rfl (bt (RS.cY bn) cp) ?_
 intro dg bo
 refine xn 0<|s0<|aB 1 0 (.agg #[aC]) bo rfl ?_
 obtain ⟨bp,b9,hm⟩:=ai hm
 refine cP 1 bo (q9 F bo.inv (bl.mono U) bn b9) ?_
 rintro _ dh ag rfl
 refine xn 1<|sq<|s0<|aP 1 hm ?_ ?_<;>intro di hm
 refine xn 7<|dT<|sp 1<|rt<|⟨rfl,?_⟩
 obtain rfl:=si hm
 refine ⟨_,_,_,tk (.bool false) (ResL.nil),ag,?_⟩
 exact rfl
 refine aB 3 1 J ag rfl<|bG 0 J (RS.len (aa.mono U))<|ct 0 hm ?_ ?_<;>intro dj hm
 refine xn 1<|dT<|sp 1<|rt<|⟨rfl,?_⟩
 obtain rfl:=si hm
 refine ⟨_,_,_,tk (.bool false) (ResL.nil),ag,?_⟩
 exact rfl
 refine xn 1<|dF<|sk<|s0<|aB 2 1 J ag rfl<|a6 1 hm (aa.mono U) ?_
 intro dk hm
 obtain ⟨aD,ca,hm⟩:=ai hm
 obtain ⟨dm,cb,cc⟩:=RS.cy (aa.mono U) (i:=bp) ca
 obtain ⟨cd,cf,rfl⟩:=fw cb
 refine fe 0 0 (.agg #[V aD.Kind,V aD.ah,V aD.To,V aD.Up,cd, .bool aD.Key]) (cc _ (ag.b1 (aO.refl _))) ?_
 obtain ⟨ab,cg,hm⟩:=ai hm
 refine cP 0 ag (uE F ag.inv (bl.mono U) cf cg) ?_
 rintro _ dn ch rfl
 refine df 0 [V 0,V 0] ch ?_
 intro dp dq cj
 refine bA 0 0 (.agg #[V ab.ah,V ab.To]) [V ab.ah,V ab.To] [V ab.ah,V ab.To] cj rfl rfl rfl ?_
 intro dr aj
 refine xn 0<|sq<|s0<|aB 2 0 (V ab.ah) aj rfl<|aP 0 hm ?_ ?_<;>intro ds hm
 refine xn 6<|dT<|sp 1<|rt<|⟨rfl,?_⟩
 obtain rfl:=si hm
 refine ⟨_,_,_,tk (.bool false) (ResL.nil),aj,?_⟩
 exact rfl
 refine aB 3 0 (V ab.To) aj rfl<|ct 0 hm ?_ ?_<;>intro du hm
 refine xn 1<|dT<|sp 1<|rt<|⟨rfl,?_⟩
 obtain rfl:=si hm
 refine ⟨_,_,_,tk (.bool false) (ResL.nil),aj,?_⟩
 exact rfl
 refine xn 1<|dF<|sk<|sq<|s0<|aB 1 2 J aj rfl<|a6 1 hm (aa.mono U) ?_
 intro dv hm
 obtain ⟨bL,ck,hm⟩:=ai hm
 obtain ⟨dw,cl,cm⟩:=RS.cy (aa.mono U) (i:=bp) ck
 obtain ⟨br,bM,rfl⟩:=fw cl
 refine fe 1 4 br (cm _ (aj.b1 (aO.refl _)))<|bG 0 br (RS.len bM)<|xn 1 ?_
 obtain ⟨bu,j,hm⟩:=ai hm
 refine aI [11,12] (fun l h=>∃ bx aW bz bB aX, .inl (aW,bz)=bu∧RS (α:=aq) bx aX aW∧l=[(11,Pt bB 0),(12,V bz)]∧St hs [] Z (0,0) bx h [.ae bB [aX]]) ?_ ?_
 rintro l dx ⟨bx,aW,bz,bB,aX,rfl,cn,rfl,bC⟩
 try dsimp only at hm
 refine s0<|aB 0 0 (.agg #[aX]) bC rfl ?_
 obtain ⟨dy,cq,hm⟩:=ai hm
 refine c0 1 bC (zN F (a0:=(⟨aW⟩:eo)) bC.ez cn cq) ?_
 rintro _ dz dA _ dB I ⟨bN,dD,rfl,rfl,ao⟩
 refine xn 1<|s0<|bG 1 bN (I.da (i:=0) rfl ao)<|cz 0 hm ?_ ?_<;>intro dE hm
 refine eJ 2 0 hm I ao rfl ?_
 intro dG hm
 refine fv 0 0 0 (fun bO=>V bO) hm I ao rfl ?_
 intro bO dH hm
 refine aE 0 hm ?_ ?_<;>intro dI hm
 refine bG 4 bN (I.da (i:=0) rfl ao)<|eJ 1 0 hm I ao rfl ?_
 intro dJ hm
 refine fv 0 0 0 (fun bP=>V bP) hm I ao rfl ?_
 intro bP dK hm
 refine aE 1 hm ?_ ?_<;>intro dL hm
 refine xn 2<|rt<|⟨rfl,?_⟩
 obtain rfl:=si hm
 refine ⟨_,_,_,tk (.bool true) (ResL.nil),I,?_⟩
 exact rfl
 refine xn 2<|rt<|⟨rfl,?_⟩
 obtain rfl:=si hm
 refine ⟨_,_,_,tk (.bool false) (ResL.nil),I,?_⟩
 exact rfl
 refine xn 12<|rt<|⟨rfl,?_⟩
 obtain rfl:=si hm
 refine ⟨_,_,_,tk (.bool false) (ResL.nil),I,?_⟩
 exact rfl
 refine xn 17<|rt<|⟨rfl,?_⟩
 obtain rfl:=si hm
 refine ⟨_,_,_,tk (.bool false) (ResL.nil),I,?_⟩
 exact rfl
 refine bk 0<|lp [2,8,9,11,12,73,74,75] (fun n l h=>∃ ar aF aG aH au av aJ aK aL aM aR aw ax ay aT,correctorlaw13_WalkIn_l0 F a0 a1 bd n aF aG aH au av aJ aK aL=some bu∧RS (α:=ak) ar aM aG∧RS (α:=aq) ar aw aH∧RS (α:=aq) ar ay au∧RS (α:=Int) ar aT aJ∧l=[(2,V aF),(8,aM),(9,Pt aR 0),(11,Pt ax 0),(12,V av),(73,aT),(74,V aK),(75,V aL)]∧St hs [] Z (0,0) ar h [.ae aR [aw], .ae ax [ay]]) F ⟨_,bU,bK.1,bK.2.1.al,b4.al,bp,bL.Kids,(bL.Kids.length:Int),0,b0,b2,J,b7,aC,br,j,(bl.mono U),(aa.mono U),bn,bM,(by kernel_rfl),(((aj.front 1 rfl).front 2 rfl).takeN 2)⟩ ?_
 rintro bD l dM ⟨ar,aF,aG,aH,au,av,aJ,aK,aL,aM,aR,aw,ax,ay,aT,j,bE,aY,bF,aZ,rfl,az⟩
 rcases bD with _ | bD
 cases (show none=some bu from j)
 rw [correctorlaw13_WalkIn_l0] at j
 refine s0<|aP 0 j ?_ ?_<;>intro dN j
 refine xn 0<|sq<|dT<|sk<|sq<|bk 1<|s0<|a6 0 j aZ ?_
 intro dO j
 refine bh 0 0 (fun bH=>V bH) j aZ az ?_
 intro bH dP j
 refine xn 1<|s0<|aB 2 0 aw az rfl<|a6 1 j aY ?_
 intro dQ j
 obtain ⟨aU,cr,j⟩:=ai j
 obtain ⟨dR,cu,cw⟩:=RS.cy aY (i:=bH) cr
 obtain ⟨cx,cA,rfl⟩:=fw cu
 refine fe 0 0 (.agg #[V aU.Kind,V aU.ah,V aU.To,V aU.Up,cx, .bool aU.Key]) (cw _ (az.b1 (aO.refl _))) ?_
 obtain ⟨ad,cB,j⟩:=ai j
 refine cP 0 az (uE F az.inv bE cA cB) ?_
 rintro _ dS cC rfl
 refine df 0 [V 0,V 0] cC ?_
 intro dU dV cD
 refine bA 0 0 (.agg #[V ad.ah,V ad.To]) [V ad.ah,V ad.To] [V ad.ah,V ad.To] cD rfl rfl rfl ?_
 intro dW aV
 refine xn 0 ?_
 obtain ⟨cE,an,j⟩:=ai j
 refine dY [2,8,9,11,12,73,74,75] (fun l h=>∃ aA a2 a3 a4 a5 a7 a8 a9 ba bb bc, .inl (a2,a3,a4,a5)=cE∧RS (α:=ak) aA a7 a2∧RS (α:=aq) aA a9 a3∧RS (α:=aq) aA bb a4∧RS (α:=Int) aA bc a5∧l=[(2,V aF),(8,a7),(9,Pt a8 0),(11,Pt ba 0),(12,V av),(73,bc),(74,V aK),(75,V aL)]∧St hs [] Z (0,0) aA h [.ae a8 [a9], .ae ba [bb]]) (by kernel_rfl) ?_ ?_
 rintro l dX ⟨aA,a2,a3,a4,a5,a7,a8,a9,ba,bb,bc,rfl,cF,cG,cH,cI,rfl,cJ⟩
 try dsimp only at j
 refine gp 2 ?_
 exact ⟨bD,Nat.lt_succ_self _,⟨_,aF,a2,a3,a4,av,a5,aK,af (aL+1),a7,a8,a9,ba,bb,bc,j,cF,cG,cH,cI,(by kernel_rfl),cJ⟩⟩
 refine g0<|aB 1 0 (V ad.ah) aV rfl<|e6 1 an ?_ ?_<;>intro dZ an
 refine aB 3 0 (V ad.To) aV rfl<|aP 0 an ?_ ?_<;>intro ea an
 refine xn 1<|dT<|sp 1<|rt<|bw<|bw<|⟨rfl,?_⟩
 obtain rfl:=si an
 obtain rfl:=si j
 obtain rfl:=si hm
 refine ⟨_,_,_,tk (.bool false) (ResL.nil),aV,?_⟩
 exact rfl
 refine xn 1<|dF<|sk ?_
 obtain rfl:=si an
 exact ⟨_,aG,aH,au,aJ,aM,aR,aw,ax,ay,aT,rfl,bE,aY,bF,aZ,(by kernel_rfl),(((aV.front 2 rfl).front 2 rfl).takeN 2)⟩
 refine xn 6<|dF<|sk ?_
 obtain rfl:=si an
 exact ⟨_,aG,aH,au,aJ,aM,aR,aw,ax,ay,aT,rfl,bE,aY,bF,aZ,(by kernel_rfl),(((aV.front 2 rfl).front 2 rfl).takeN 2)⟩
 refine xn 0<|sq<|dF<|xt 0<|aN ?_
 obtain rfl:=si j
 exact ⟨_,au,av,ax,ay,rfl,bF,(by kernel_rfl),((az.front 1 rfl).takeN 1)⟩
 refine xn 1<|dT<|sp 1<|rt<|⟨rfl,?_⟩
 obtain rfl:=si hm
 refine ⟨_,_,_,tk (.bool false) (ResL.nil),bf,?_⟩
 exact rfl
end Go.Proofs.Ytcilejikekccmaa.M
namespace Go.Proofs.Ytcilejikekccmaa.M
open Go Am Sy
structure Small (l:List aq):Prop where
  n:l.length≤1000000
  k:∀ x∈l,x.Kids.length≤1000000
theorem A8 {α:Type} (l:List α) (i:Nat):l[((i:Int)).toNat]?=l[i]?:=by simp
theorem Ej (F:Nat) (t:cT) (hs:Small t.al):∀ (d n i:Nat),i+d=t.al.length→d<n→correctorref10_copied_l0 F t n (t.al.take i) (i:Int)=some t.al:=by
  have hn:=hs.n
  intro d
  induction d with
  | zero=>
    intro n i h1 h2
    obtain ⟨n,rfl⟩:∃ m,n=m+1:=⟨n - 1,by omega⟩
    rw [correctorref10_copied_l0,if_neg (by omega),List.take_of_length_le (by omega)]
  | succ d ih=>
    intro n i h1 h2
    obtain ⟨n,rfl⟩:∃ m,n=m+1:=⟨n - 1,by omega⟩
    have hi:i<t.al.length:=by omega
    have hk:=hs.k t.al[i] (List.getElem_mem hi)
    rw [correctorref10_copied_l0,if_pos (by omega),if_pos (by omega),A8,List.getElem?_eq_getElem hi]
    simp only [Option.bind_some]
    rw [if_pos (by rw [List.length_nil];omega),if_pos (by rw [List.length_take,List.length_singleton];omega)]
    have hw:af ((i:Int)+1)=((i+1:Nat):Int):=by rw [aX (by omega) (by omega)];omega
    rw [hw,← ih n (i+1) (by omega) (by omega)]
    congr 1
    rw [List.take_succ_eq_append_getElem hi]
    rfl
theorem tc (F:Nat) (t:cT) (hs:Small t.al) (hF:t.al.length<F):lC F t=some t.al:=by
  unfold lC
  have:=Ej F t hs t.al.length F 0 (by omega) hF
  rw [show ((0:Nat):Int)=0 from rfl,List.take_zero] at this
  rw [this];rfl
def endOf (l:List aq) (up:Nat):Option Int:=(l[up]?).map fun x=>match x.Kids.getLast? with
  | none=>x.ah
  | some k=>if 0≤k then (match l[k.toNat]? with | some y=>imax x.ah y.To | none=>x.ah) else x.ah
def toMax (x:aq) (to:Int):aq:={x with To:=imax x.To to}
def growL:Nat→List aq→Int→Int→List aq
  | 0,l,_,_=>l
  | k+1,l,i,to=>if 0≤i then (match l[i.toNat]? with | some x=>growL k (l.set i.toNat (toMax x to)) x.Up to | none=>l) else l
theorem Ba (F:Nat) (a0:List aq) (a1 to:Int):∀ (k n:Nat) (l:List aq) (i:Int),(∀ (j:Nat) x,l[j]?=some x→x.Up<(j:Int))→i<k→i<l.length→k<n→j9 F a0 a1 to n l i=some (growL k l i to):=by
  intro k
  induction k with
  | zero=>
    intro n l i _ h1 _ h2
    obtain ⟨n,rfl⟩:∃ m,n=m+1:=⟨n - 1,by omega⟩
    rw [j9,if_neg (by omega)];rfl
  | succ k ih=>
    intro n l i hu h1 I h2
    obtain ⟨n,rfl⟩:∃ m,n=m+1:=⟨n - 1,by omega⟩
    rw [j9,growL]
    by_cases h0:0≤i
    · have hl:i.toNat<l.length:=by omega
      have hg:l[i.toNat]?=some l[i.toNat]:=List.getElem?_eq_getElem hl
      have Cy:=hu i.toNat _ hg
      rw [if_pos h0,if_pos h0,if_pos ⟨h0,I⟩,hg]
      simp only [Option.bind_some]
      rw [if_pos ⟨h0,I⟩,if_pos (by rw [List.length_set];exact ⟨h0,I⟩),List.getElem?_set_self hl]
      simp only [Option.bind_some]
      refine ih n _ _ (fun j x hx=>?_) (by omega) (by rw [List.length_set];omega) (by omega)
      by_cases e:j=i.toNat
      · subst e
        rw [List.getElem?_set_self hl] at hx
        simp only [Option.some.injEq] at hx
        subst hx;exact Cy
      · rw [List.getElem?_set_ne (Ne.symm e)] at hx;exact hu j x hx
    · rw [if_neg h0,if_neg h0]
theorem sS (F:Nat) (l:List aq) (i to:Int) (hu:∀ (j:Nat) x,l[j]?=some x→x.Up<(j:Int)) (hi:i<l.length) (hF:l.length<F):lV F l i to=some (growL l.length l i to):=by
  unfold lV
  rw [Ba F l i to l.length F l i hu hi hi hF];rfl
theorem o8:∀ (k:Nat) (l:List aq) (i to:Int),(growL k l i to).length=l.length:=by
  intro k
  induction k with
  | zero=>intro l i to;rfl
  | succ k ih=>
    intro l i to
    simp only [growL]
    split
    · split
      · rw [ih,List.length_set]
      · rfl
    · rfl
theorem BA (F:Nat) (n:Int) (h0:0≤n) (h1:n≤32768):mW F n=some ⟨[⟨1,0,n, -1,[],false⟩]⟩:=by
  unfold mW
  rw [if_neg (by omega),if_neg (by omega)];rfl
def n3 (l:List aq) (up kind aH to:Int):List aq:=
  match l[up.toNat]? with
  | some x=>growL (l.length+1) ((l++[(⟨kind,aH,to,up,[],false⟩:aq)]).set up.toNat {x with Kids:=x.Kids++[(l.length:Int)]}) up to
  | none=>l
theorem Ex (F:Nat) (t:cT) (up:Nat) (kind aH to:Int) (hs:Small t.al) (hn:t.al.length<1000000) (hF:t.al.length+1<F) (pz:∀ (j:Nat) x,t.al[j]?=some x→x.Up<(j:Int)) (hu:up<t.al.length) (hk:1≤kind∧kind≤11) (fg:aH≤to)
    (h0:∀ x,t.al[0]?=some x→to≤x.To) (rW:∀ x,t.al[up]?=some x→∀ c,x.Kids.getLast?=some c→0≤c∧c<t.al.length) (he:∀ e,endOf t.al up=some e→e≤aH):
    correctorref10_Add F t (up:Int) kind aH to=some (⟨n3 t.al (up:Int) kind aH to⟩,(t.al.length:Int)):=by
  have hl:0<t.al.length:=by omega
  have U:t.al[0]?=some t.al[0]:=List.getElem?_eq_getElem hl
  have hx:t.al[up]?=some t.al[up]:=List.getElem?_eq_getElem hu
  have ad:=h0 _ U
  have tZ:=rW _ hx
  unfold endOf at he
  rw [hx] at he
  simp only [Option.map_some,Option.some.injEq,forall_eq'] at he
  have lR:=hs.k _ (List.getElem_mem hu)
  unfold correctorref10_Add
  have hz:((0:Int)).toNat=0:=rfl
  rw [if_neg (by omega),if_neg (by omega),if_neg (by omega),if_neg (by omega),if_neg (by omega),if_pos (by omega),hz,U]
  simp only [Option.bind_some]
  rw [if_neg (by omega),if_pos (by omega),Int.toNat_natCast,hx]
  simp only [Option.bind_some]
  unfold n3
  rw [Int.toNat_natCast,hx]
  simp only
  generalize fR:t.al[up]=x at *
  have j8:x.ah≤aH:=by
    cases hc:x.Kids.getLast? with
    | none=>rw [hc] at he;exact he
    | some c=>
      rw [hc] at he
      simp only at he
      obtain ⟨I,aa⟩:=tZ c hc
      rw [if_pos I,List.getElem?_eq_getElem (by omega)] at he
      simp only [imax] at he
      split at he<;>omega
  rw [if_neg (by omega)]
  have step:(if (0:Int)<(x.Kids.length:Int) then
            if 0≤(af ((x.Kids.length:Int) - 1))∧(af ((x.Kids.length:Int) - 1))<(x.Kids.length:Int) then
             (x.Kids[(af ((x.Kids.length:Int) - 1)).toNat]?).bind fun J=>
             if 0≤J∧J<(t.al.length:Int) then
              (t.al[J.toNat]?).bind fun ab=>
              if aH<ab.To then
               some (.inr (t,(-1)))
              else
               some (.inl ())
             else none
            else none
           else
            some (.inl ()):Option (Sum Unit (cT×Int)))=some (.inl ()):=by
    by_cases h1:(0:Int)<x.Kids.length
    · have hw:af ((x.Kids.length:Int) - 1)=((x.Kids.length - 1:Nat):Int):=by rw [aX (by omega) (by omega)];omega
      have ml:x.Kids.length - 1<x.Kids.length:=by omega
      have tD:x.Kids.getLast?=some x.Kids[x.Kids.length - 1]:=by rw [List.getLast?_eq_getElem?,List.getElem?_eq_getElem ml]
      obtain ⟨I,aa⟩:=tZ _ tD
      rw [tD] at he
      simp only at he
      rw [if_pos I,List.getElem?_eq_getElem (by omega)] at he
      simp only [imax] at he
      rw [if_pos h1,hw,if_pos (by omega),Int.toNat_natCast,List.getElem?_eq_getElem ml]
      simp only [Option.bind_some]
      rw [if_pos ⟨I,aa⟩,List.getElem?_eq_getElem (by omega)]
      simp only [Option.bind_some]
      rw [if_neg (by split at he<;>omega)]
    · rw [if_neg h1]
  rw [step]
  simp only [Option.bind_some]
  rw [tc F t hs (by omega)]
  simp only [Option.bind_some]
  have hlen:(t.al++[(⟨kind,aH,to,(up:Int),[],false⟩:aq)]).length=t.al.length+1:=by simp
  have Ap:(t.al++[(⟨kind,aH,to,(up:Int),[],false⟩:aq)])[up]?=some x:=by
    rw [List.getElem?_append_left hu,hx]
  rw [if_pos (by rw [List.length_singleton];omega),if_pos (by rw [hlen];omega),Ap]
  simp only [Option.bind_some]
  rw [if_pos (by rw [List.length_singleton];omega),if_pos (by rw [hlen];omega)]
  have qy:((t.al++[(⟨kind,aH,to,(up:Int),[],false⟩:aq)]).set up ⟨x.Kind,x.ah,x.To,x.Up,x.Kids++[(t.al.length:Int)],x.Key⟩).length=t.al.length+1:=by rw [List.length_set,hlen]
  rw [sS F _ _ _ (fun j y hy=>?_) (by rw [qy];omega) (by rw [qy];omega),qy]
  · rfl
  · by_cases e:j=up
    · subst e
      rw [List.getElem?_set_self (by rw [hlen];omega)] at hy
      simp only [Option.some.injEq] at hy
      subst hy;exact pz j x hx
    · rw [List.getElem?_set_ne (Ne.symm e),List.getElem?_append] at hy
      split at hy
      · exact pz j y hy
      · rcases Nat.eq_zero_or_pos (j - t.al.length) with q | q
        · rw [q] at hy;simp at hy;subst hy
          show (up:Int)<j
          omega
        · rw [List.getElem?_eq_none (by simp;omega)] at hy;cases hy
theorem Dk (F:Nat) (t:cT) (i:Nat) (to:Int) (hs:Small t.al) (hF:t.al.length<F) (pz:∀ (j:Nat) x,t.al[j]?=some x→x.Up<(j:Int)) (hi:i<t.al.length) (h0:∀ x,t.al[0]?=some x→to≤x.To):ij F t (i:Int) to=some ⟨growL t.al.length t.al (i:Int) to⟩:=by
  have hl:0<t.al.length:=by omega
  have I:t.al[0]?=some t.al[0]:=List.getElem?_eq_getElem hl
  have J:=h0 _ I
  have hz:((0:Int)).toNat=0:=rfl
  unfold ij
  rw [if_neg (by omega),if_neg (by omega),if_pos (by omega),hz,I]
  simp only [Option.bind_some]
  rw [if_neg (by omega),tc F t hs hF]
  simp only [Option.bind_some]
  rw [sS F _ _ _ pz (by omega) hF]
  rfl
end Go.Proofs.Ytcilejikekccmaa.M
namespace Go.Proofs.Ytcilejikekccmaa.M
open Go Am Sy
theorem jt (a b:Int):imax a b=max a b:=by
 unfold imax;split<;>omega
def LP (l:List aq) (i To:Int):Int→List Int→Prop
 | _,[]=>True
 | e,k::ks=>∃ y,i<k∧0≤k∧k<l.length∧l[k.toNat]?=some y∧y.Up=i∧e≤y.ah∧y.To≤To∧LP l i To y.To ks
def ea (xs:List aq):Nat:=(xs.map fun x=>x.Kids.length).sum
structure G (N:List aq) (n:Int):Prop where
 root:∃ x,N[0]?=some x∧x.Kind=1∧x.ah=0∧x.To=n∧x.Up= -1
 ups:∀ (i:Nat) x,N[i]?=some x→i=0∨(0≤x.Up∧x.Up<(i:Int))
 cQ:∀ (i:Nat) x,N[i]?=some x→LP N i x.To x.ah x.Kids∧x.ah≤x.To
 nd:∀ x∈N,x.Kids.Nodup
 sum:ea N+1=N.length
theorem G.new (n:Int) (h0:0≤n):G [⟨1,0,n, -1,[],false⟩] n where
 root:=⟨_,rfl,rfl,rfl,rfl,rfl⟩
 ups i x hx:=by
  cases i with
  | zero=>exact .inl rfl
  | succ i=>simp at hx
 cQ i x hx:=by
  cases i with
  | zero=>simp at hx;subst hx;exact ⟨trivial,h0⟩
  | succ i=>simp at hx
 nd x hx:=by simp at hx;subst hx;exact List.nodup_nil
 sum:=by simp [ea]
theorem gP {N:List aq} {i:Nat} {x:aq} (h:N[i]?=some x):i<N.length:=by
 rcases Nat.lt_or_ge i N.length with q | q
 ·exact q
 ·rw [List.getElem?_eq_none q] at h;cases h
theorem LP.mem {l:List aq} {i To:Int}:∀ {ks:List Int} {e:Int},LP l i To e ks→∀ k∈ks,∃ y,i<k∧k<l.length∧l[k.toNat]?=some y∧y.Up=i∧y.To≤To:=by
 intro ks
 induction ks with
 | nil=>intro e _ k hk;cases hk
 | cons j ks ih=>
  rintro e ⟨y,h1,h2,I,J,U,ad,aa,ab⟩ k hk
  rcases List.mem_cons.1 hk with rfl | hk
  ·exact ⟨y,h1,I,J,U,aa⟩
  ·exact ih ab k hk
theorem LP.of {l l':List aq} {i To k6:Int} (hT:To≤k6):∀ {ks:List Int} {e:Int},LP l i To e ks→(∀ k∈ks,∀ y,l[k.toNat]?=some y→k<l'.length∧∃ y',l'[k.toNat]?=some y'∧y'.Up=y.Up∧y'.ah=y.ah∧y'.To=y.To)→LP l' i k6 e ks:=by
 intro ks
 induction ks with
 | nil=>intro e _ _;trivial
 | cons k ks ih=>
  rintro e ⟨y,h1,h2,ai,I,J,U,aj,aa⟩ h
  obtain ⟨ab,y',ad,ae,af,ag⟩:=h k List.mem_cons_self y I
  exact ⟨y',h1,h2,ab,ad,by rw [ae];exact J,by rw [af];exact U,by omega,by rw [ag];exact ih aa (fun j hj=>h j (List.mem_cons_of_mem _ hj))⟩
theorem LP.last {l l':List aq} {i To k6:Int} (hT:To≤k6) {c:Int}:∀ {ks:List Int} {e:Int},LP l i To e ks→ks.getLast?=some c→ks.Nodup→(∀ k∈ks,k≠c→∀ y,l[k.toNat]?=some y→k<l'.length∧∃ y',l'[k.toNat]?=some y'∧y'.Up=y.Up∧y'.ah=y.ah∧y'.To=y.To)→
  (∀ y,l[c.toNat]?=some y→c<l'.length∧∃ y',l'[c.toNat]?=some y'∧y'.Up=y.Up∧y'.ah=y.ah∧y'.To≤k6)→LP l' i k6 e ks:=by
 intro ks
 induction ks with
 | nil=>intro e _ h;simp at h
 | cons k ks ih=>
  rintro e ⟨y,h1,h2,al,ad,ae,af,an,ag⟩ hl hn h hc
  obtain ⟨ai,aj⟩:=List.nodup_cons.1 hn
  cases ks with
  | nil=>
   simp only [List.getLast?_singleton,Option.some.injEq] at hl
   subst hl
   obtain ⟨I,y',J,U,aa,ab⟩:=hc y ad
   exact ⟨y',h1,h2,I,J,by rw [U];exact ae,by rw [aa];exact af,ab,trivial⟩
  | cons j ks=>
   rw [List.getLast?_cons_cons] at hl
   have bY:k≠c:=fun e=>ai (by rw [e];exact List.mem_of_getLast? hl)
   obtain ⟨I,y',J,U,aa,ab⟩:=h k List.mem_cons_self bY y ad
   exact ⟨y',h1,h2,I,J,by rw [U];exact ae,by rw [aa];exact af,by omega,by rw [ab];exact ih ag hl aj (fun m hm=>h m (List.mem_cons_of_mem _ hm)) hc⟩
theorem LP.snoc {l:List aq} {i To:Int} {k:Int} {z:aq} (h1:i<k) (h2:0≤k) (J:k<l.length) (hz:l[k.toNat]?=some z) (hu:z.Up=i) (ht:z.To≤To):∀ {ks:List Int} {e:Int},LP l i To e ks→(ks=[]→e≤z.ah)→(∀ c,ks.getLast?=some c→∀ y,l[c.toNat]?=some y→y.To≤z.ah)→LP l i To e (ks++[k]):=by
 intro ks
 induction ks with
 | nil=>intro e _ h _;exact ⟨z,h1,h2,J,hz,hu,h rfl,ht,trivial⟩
 | cons j ks ih=>
  rintro e ⟨y,U,aa,ab,I,ad,ae,af,ag⟩ _ hl
  refine ⟨y,U,aa,ab,I,ad,ae,af,ih ag (fun e=>?_) (fun c hc=>?_)⟩
  ·subst e;exact hl j rfl y I
  ·cases ks with
   | nil=>simp at hc
   | cons m ks=>exact hl c (by rw [List.getLast?_cons_cons];exact hc)
inductive Sp (N:List aq):Nat→Prop where
 | root:Sp N 0
 | gY {u k:Nat} {x:aq} (h:Sp N u) (hx:N[u]?=some x) (hk:x.Kids.getLast?=some (k:Int)):Sp N k
structure Gx (N:List aq) (n:Int) (i:Int) (to:Int):Prop where
 root:∃ x,N[0]?=some x∧x.Kind=1∧x.ah=0∧x.To=n∧x.Up= -1
 ups:∀ (j:Nat) x,N[j]?=some x→j=0∨(0≤x.Up∧x.Up<(j:Int))
 cQ:∀ (j:Nat) x,N[j]?=some x→LP N j (if (j:Int)=i then max x.To to else x.To) x.ah x.Kids∧x.ah≤x.To
 nd:∀ x∈N,x.Kids.Nodup
 sum:ea N+1=N.length
theorem tL:∀ {a b:List aq},a.map (·.Kids)=b.map (·.Kids)→ea a=ea b:=by
 intro a b h
 have:∀ c:List aq,ea c=((c.map (·.Kids)).map List.length).sum:=fun c=>by simp [ea,Function.comp_def]
 rw [this,this,h]
theorem pb {N:List aq} {i:Nat} {x y:aq} (hx:N[i]?=some x) (hk:y.Kids=x.Kids):(N.set i y).map (·.Kids)=N.map (·.Kids):=by
 rw [List.map_set,hk]
 have hi:=gP hx
 have eN:i<(N.map (·.Kids)).length:=by simpa using hi
 have:(N.map (·.Kids))[i]=x.Kids:=by
  rw [List.getElem_map]
  have:=List.getElem?_eq_getElem hi
  rw [hx] at this
  rw [← Option.some.inj this]
 rw [← this];exact List.set_getElem_self eN
theorem Sp.kids {N N':List aq} (h:N'.map (·.Kids)=N.map (·.Kids)) {u:Nat} (hs:Sp N u):Sp N' u:=by
 induction hs with
 | root=>exact .root
 | gY h1 hx hk ih=>
  rename_i u k x
  have:(N'.map (·.Kids))[u]?=some x.Kids:=by rw [h,List.getElem?_map,hx];rfl
  rw [List.getElem?_map] at this
  obtain ⟨y,hy,e⟩:=Option.map_eq_some_iff.1 this
  exact .gY ih hy (by rw [e];exact hk)
theorem G.gx {N:List aq} {n:Int} (h:G N n) (i to:Int):Gx N n i to where
 root:=h.root
 ups:=h.ups
 cQ j x hx:=⟨(h.cQ j x hx).1.of (by split<;>omega) (fun k hk y hy=>⟨by obtain ⟨_,_,q,_⟩:=(h.cQ j x hx).1.mem k hk;exact q,y,hy,rfl,rfl,rfl⟩),(h.cQ j x hx).2⟩
 nd:=h.nd
 sum:=h.sum
theorem Gx.none {N:List aq} {n i to:Int} (h:Gx N n i to) (hi:i<0):G N n where
 root:=h.root
 ups:=h.ups
 cQ j x hx:=by have:=h.cQ j x hx;rw [if_neg (by omega)] at this;exact this
 nd:=h.nd
 sum:=h.sum
theorem Gx.step {N:List aq} {n to:Int} {i:Nat} (h:Gx N n i to) (hs:Sp N i) {x:aq} (hx:N[i]?=some x) (ht:i=0→to≤n):Gx (N.set i (toMax x to)) n x.Up to∧(0≤x.Up→Sp N x.Up.toNat):=by
 have hi:=gP hx
 have eT:∀ (k:Nat) (y:aq),N[k]?=some y→∃ y',(N.set i (toMax x to))[k]?=some y'∧y'.Up=y.Up∧y'.ah=y.ah∧y'.Kids=y.Kids∧y'.Kind=y.Kind∧(k≠i→y'.To=y.To):=by
  intro k y hy
  by_cases e:k=i
  ·subst e
   rw [hx] at hy;simp only [Option.some.injEq] at hy;subst hy
   exact ⟨_,List.getElem?_set_self hi,rfl,rfl,rfl,rfl,fun q=>absurd rfl q⟩
  ·exact ⟨y,by rw [List.getElem?_set_ne (Ne.symm e)];exact hy,rfl,rfl,rfl,rfl,fun _=>rfl⟩
 have jW:(N.set i (toMax x to))[i]?=some (toMax x to):=List.getElem?_set_self hi
 have kU:=h.ups i x hx
 have tA:0≤x.Up→Sp N x.Up.toNat∧∃ p,N[x.Up.toNat]?=some p∧p.Kids.getLast?=some (i:Int):=by
  intro h0
  cases hs with
  | root=>
   obtain ⟨r,r1,_,_,_,ad⟩:=h.root
   rw [hx] at r1;simp only [Option.some.injEq] at r1;subst r1;omega
  | gY h1 hp hk=>
   rename_i u p
   obtain ⟨y,_,_,I,ae,_⟩:=(h.cQ u p hp).1.mem i (List.mem_of_getLast? hk)
   rw [Int.toNat_natCast,hx] at I
   simp only [Option.some.injEq] at I
   subst I
   rw [ae,Int.toNat_natCast]
   exact ⟨h1,p,hp,hk⟩
 refine ⟨⟨?_,fun j y hy=>?_,fun j y hy=>?_,fun y hy=>?_,?_⟩,fun h0=>(tA h0).1⟩
 ·obtain ⟨r,r1,ad,ai,al,aj⟩:=h.root
  by_cases e:i=0
  ·subst e
   rw [hx] at r1;simp only [Option.some.injEq] at r1;subst r1
   refine ⟨_,jW,ad,ai,?_,aj⟩
   have:=ht rfl
   simp only [toMax,jt];omega
  ·exact ⟨r,by rw [List.getElem?_set_ne e];exact r1,ad,ai,al,aj⟩
 ·by_cases e:j=i
  ·subst e
   rw [jW] at hy;simp only [Option.some.injEq] at hy;subst hy
   exact h.ups j x hx
  ·rw [List.getElem?_set_ne (Ne.symm e)] at hy;exact h.ups j y hy
 ·have hlen:((N.set i (toMax x to)).length:Int)=N.length:=by rw [List.length_set]
  by_cases e:j=i
  ·subst e
   rw [jW] at hy;simp only [Option.some.injEq] at hy;subst hy
   have h1:=h.cQ j x hx
   rw [if_pos rfl] at h1
   refine ⟨?_,by have:=h1.2;simp only [toMax,jt];omega⟩
   have bY:(j:Int)≠x.Up:=by
    rcases kU with q | q
    ·obtain ⟨r,r1,_,_,_,ad⟩:=h.root
     rw [q] at hx;rw [hx] at r1;simp only [Option.some.injEq] at r1;subst r1;omega
    ·omega
   rw [if_neg bY]
   have ht:(toMax x to).To=max x.To to:=by simp only [toMax,jt]
   rw [ht]
   refine h1.1.of (Int.le_refl _) (fun k hk y hy=>?_)
   obtain ⟨z,af,ag,_⟩:=h1.1.mem k hk
   obtain ⟨y',J,U,aa,_,_,ab⟩:=eT k.toNat y hy
   exact ⟨by omega,y',J,U,aa,ab (by omega)⟩
  ·rw [List.getElem?_set_ne (Ne.symm e)] at hy
   have h1:=h.cQ j y hy
   rw [if_neg (by omega)] at h1
   refine ⟨?_,h1.2⟩
   by_cases ej:(j:Int)=x.Up
   ·rw [if_pos ej]
    obtain ⟨_,p,hp,hk⟩:=tA (by omega)
    rw [← ej,Int.toNat_natCast,hy] at hp
    simp only [Option.some.injEq] at hp
    subst hp
    refine h1.1.last (by omega) hk (h.nd y (List.mem_of_getElem? hy)) (fun k an bY z hz=>?_) (fun z hz=>?_)
    ·obtain ⟨w,af,ag,_⟩:=h1.1.mem k an
     obtain ⟨y',J,U,aa,_,_,ab⟩:=eT k.toNat z hz
     exact ⟨by omega,y',J,U,aa,ab (by omega)⟩
    ·obtain ⟨w,af,ag,I,ae,ar⟩:=h1.1.mem (i:Int) (List.mem_of_getLast? hk)
     rw [Int.toNat_natCast,hx] at hz I
     simp only [Option.some.injEq] at hz I
     subst hz;subst I
     refine ⟨by omega,toMax x to,by rw [Int.toNat_natCast];exact jW,rfl,rfl,?_⟩
     simp only [toMax,jt];omega
   ·rw [if_neg ej]
    refine h1.1.of (Int.le_refl _) (fun k hk z hz=>?_)
    obtain ⟨w,af,ag,I,ae,_⟩:=h1.1.mem k hk
    obtain ⟨y',J,U,aa,_,_,ab⟩:=eT k.toNat z hz
    refine ⟨by omega,y',J,U,aa,ab (fun ao=>?_)⟩
    rw [ao,hx] at I;simp only [Option.some.injEq] at I
    subst I;exact ej ae.symm
 ·obtain ⟨j,hj⟩:=List.getElem?_of_mem hy
  by_cases e:j=i
  ·subst e
   rw [jW] at hj;simp only [Option.some.injEq] at hj;subst hj
   exact h.nd x (List.mem_of_getElem? hx)
  ·rw [List.getElem?_set_ne (Ne.symm e)] at hj;exact h.nd y (List.mem_of_getElem? hj)
 ·rw [List.length_set,tL (pb (y:=toMax x to) hx rfl)];exact h.sum
theorem Gx.grow {n to:Int} (ht:to≤n):∀ (k:Nat) (N:List aq) (i:Int),Gx N n i to→i<k→i<N.length→(0≤i→Sp N i.toNat)→G (growL k N i to) n:=by
 intro k
 induction k with
 | zero=>intro N i h h1 _ _;exact h.none (by omega)
 | succ k ih=>
  intro N i h h1 h2 hs
  simp only [growL]
  by_cases h0:0≤i
  ·rw [if_pos h0]
   have dq:i.toNat<N.length:=by omega
   have hx:N[i.toNat]?=some N[i.toNat]:=List.getElem?_eq_getElem dq
   rw [hx]
   simp only
   generalize N[i.toNat]=x at *
   have e:((i.toNat:Nat):Int)=i:=by omega
   obtain ⟨j,I⟩:=Gx.step (i:=i.toNat) (by rw [e];exact h) (hs h0) hx (fun _=>ht)
   have kU:=h.ups i.toNat x hx
   have qf:i.toNat=0→x.Up= -1:=fun z=>by
    obtain ⟨r,r1,_,_,_,J⟩:=h.root
    rw [z] at hx;rw [hx] at r1;simp only [Option.some.injEq] at r1;subst r1;exact J
   have bm:x.Up<i:=by
    rcases kU with q | q
    ·have:=qf q;omega
    ·omega
   exact ih _ _ j (by omega) (by rw [List.length_set];omega) (fun z=>(I z).kids (pb (y:=toMax x to) hx rfl))
  ·rw [if_neg h0];exact h.none (by omega)
theorem tB:∀ (k:Nat) (N:List aq) (i to:Int),(growL k N i to).map (·.Kids)=N.map (·.Kids):=by
 intro k
 induction k with
 | zero=>intro N i to;rfl
 | succ k ih=>
  intro N i to
  simp only [growL]
  split
  ·split
   ·rename_i x hx
    rw [ih,pb (y:=toMax x to) hx rfl]
   ·rfl
  ·rfl
def Below (N:List aq) (p:Int):Prop:=∀ (i:Nat) x,N[i]?=some x→0<i→x.To≤p
theorem uN:∀ (k:Nat) (N:List aq) (i to p:Int),Below N p→to≤p→Below (growL k N i to) p:=by
 intro k
 induction k with
 | zero=>intro N i to p h _;exact h
 | succ k ih=>
  intro N i to p h ht
  simp only [growL]
  split
  ·split
   ·rename_i x hx
    refine ih _ _ _ _ (fun j y hy hj=>?_) ht
    by_cases e:j=i.toNat
    ·rw [e,List.getElem?_set_self (gP hx)] at hy
     simp only [Option.some.injEq] at hy
     subst hy
     have:=h j x (by rw [e];exact hx) hj
     simp only [toMax,jt];omega
    ·rw [List.getElem?_set_ne (Ne.symm e)] at hy;exact h j y hy hj
   ·exact h
  ·exact h
theorem DC:∀ (k:Nat) (N:List aq) (i to:Int) (j:Nat) (x':aq),(growL k N i to)[j]?=some x'→∃ x,N[j]?=some x∧x'.Kind=x.Kind∧x'.ah=x.ah:=by
 intro k
 induction k with
 | zero=>intro N i to j x' h;exact ⟨x',h,rfl,rfl⟩
 | succ k ih=>
  intro N i to j x' h
  simp only [growL] at h
  split at h
  ·split at h
   ·rename_i x hx
    obtain ⟨y,I,J,U⟩:=ih _ _ _ _ _ h
    by_cases e:j=i.toNat
    ·rw [e,List.getElem?_set_self (gP hx)] at I
     simp only [Option.some.injEq] at I
     subst I
     exact ⟨x,by rw [e];exact hx,J,U⟩
    ·rw [List.getElem?_set_ne (Ne.symm e)] at I;exact ⟨y,I,J,U⟩
   ·exact ⟨x',h,rfl,rfl⟩
  ·exact ⟨x',h,rfl,rfl⟩
end Go.Proofs.Ytcilejikekccmaa.M
namespace Go.Proofs.Ytcilejikekccmaa.M
open Go Am Sy
theorem CS (a b:List aq):ea (a++b)=ea a+ea b:=by simp [ea]
theorem rP {N:List aq} {x:aq} (h:x∈N):x.Kids.length≤ea N:=by
 induction N with
 | nil=>cases h
 | cons y N ih=>
  have:ea (y::N)=y.Kids.length+ea N:=by simp [ea]
  rcases List.mem_cons.1 h with rfl | h
  ·omega
  ·have:=ih h;omega
theorem Ds:∀ {N:List aq} {i:Nat} {x y:aq},N[i]?=some x→ea (N.set i y)+x.Kids.length=ea N+y.Kids.length:=by
 intro N
 induction N with
 | nil=>intro i x y h;simp at h
 | cons z N ih=>
  intro i x y h
  have e:∀ (a:aq) (b:List aq),ea (a::b)=a.Kids.length+ea b:=fun a b=>by simp [ea]
  cases i with
  | zero=>simp at h;subst h;rw [List.set_cons_zero,e,e];omega
  | succ i=>
   simp only [List.getElem?_cons_succ] at h
   have:=ih (y:=y) h
   rw [List.set_cons_succ,e,e];omega
theorem G.small {N:List aq} {n:Int} (h:G N n) (hl:N.length≤1000000):Small N:=⟨hl,fun x hx=>by have:=rP hx;have:=h.sum;omega⟩
theorem G.pos {N:List aq} {n:Int} (h:G N n):0<N.length:=by have:=h.sum;omega
theorem G.sR {N:List aq} {n:Int} (h:G N n):∃ x,N[0]?=some x∧x.To=n:=by
 obtain ⟨x,h1,_,_,h2,_⟩:=h.root;exact ⟨x,h1,h2⟩
theorem G.same {N N':List aq} {n:Int} (h:G N n) (hl:N'.length=N.length) (hs:∀ (i:Nat) x',N'[i]?=some x'→∃ x,N[i]?=some x∧x'.Kind=x.Kind∧x'.ah=x.ah∧x'.To=x.To∧x'.Up=x.Up∧x'.Kids=x.Kids):G N' n:=by
 have eY:∀ (i:Nat) x,N[i]?=some x→∃ x',N'[i]?=some x'∧x'.Kind=x.Kind∧x'.ah=x.ah∧x'.To=x.To∧x'.Up=x.Up∧x'.Kids=x.Kids:=fun i x hx=>by
  have hi:=gP hx
  have h1:N'[i]?=some N'[i]:=List.getElem?_eq_getElem (by omega)
  obtain ⟨y,j,I⟩:=hs i _ h1
  rw [hx] at j;simp only [Option.some.injEq] at j;subst j
  exact ⟨_,h1,I⟩
 have hk:N'.map (·.Kids)=N.map (·.Kids):=by
  apply List.ext_getElem?
  intro i
  rw [List.getElem?_map,List.getElem?_map]
  rcases Nat.lt_or_ge i N.length with q | q
  ·obtain ⟨x',j,_,_,_,_,I⟩:=eY i _ (List.getElem?_eq_getElem q)
   rw [j,List.getElem?_eq_getElem q];simp [I]
  ·rw [List.getElem?_eq_none q,List.getElem?_eq_none (by omega)]
 refine ⟨?_,fun i x' hx=>?_,fun i x' hx=>?_,fun x' hx=>?_,by rw [hl,tL hk];exact h.sum⟩
 ·obtain ⟨x,h1,h2,ad,ae,af⟩:=h.root
  obtain ⟨x',j,I,J,U,aa,_⟩:=eY 0 x h1
  exact ⟨x',j,I.trans h2,J.trans ad,U.trans ae,aa.trans af⟩
 ·obtain ⟨x,j,_,_,_,aa,_⟩:=hs i x' hx
  rw [aa];exact h.ups i x j
 ·obtain ⟨x,j,_,J,U,_,ab⟩:=hs i x' hx
  rw [J,U,ab]
  have h1:=h.cQ i x j
  exact ⟨h1.1.of (Int.le_refl _) (fun k hk y hy=>by
   obtain ⟨z,_,an,_⟩:=h1.1.mem k hk
   obtain ⟨y',ag,_,ai,aj,al,_⟩:=eY _ y hy
   exact ⟨by omega,y',ag,al,ai,aj⟩),h1.2⟩
 ·obtain ⟨i,hi⟩:=List.getElem?_of_mem hx
  obtain ⟨x,j,_,_,_,_,ab⟩:=hs i x' hi
  rw [ab];exact h.nd x (List.mem_of_getElem? j)
structure u2 (N N':List aq) (n:Int) (up:Nat) (kind aH to:Int):Prop where
 g:G N' n
 len:N'.length=N.length+1
 sJ:∀ p,Below N p→to≤p→Below N' p
 new:Sp N' N.length
 cF:∀ v,v≤up→Sp N v→Sp N' v
 fresh:∃ z,N'[N.length]?=some z∧z.ah=aH∧z.Kids=[]
theorem added {N:List aq} {n:Int} (h:G N n) {up:Nat} (hu:up<N.length) (hs:Sp N up) {kind aH to:Int} (fg:aH≤to) (ht:to≤n) (he:∀ e,endOf N up=some e→e≤aH):u2 N (n3 N up kind aH to) n up kind aH to:=by
 have hx:N[up]?=some N[up]:=List.getElem?_eq_getElem hu
 unfold n3
 rw [Int.toNat_natCast,hx]
 simp only
 unfold endOf at he
 rw [hx] at he
 simp only [Option.map_some,Option.some.injEq,forall_eq'] at he
 generalize N[up]=x at *
 have nj:=List.mem_of_getElem? hx
 have fS:(N++[(⟨kind,aH,to,(up:Int),[],false⟩:aq)]).set up {x with Kids:=x.Kids++[(N.length:Int)]}=N.set up {x with Kids:=x.Kids++[(N.length:Int)]}++[(⟨kind,aH,to,(up:Int),[],false⟩:aq)]:=List.set_append_left _ _ hu
 generalize av:(N++[(⟨kind,aH,to,(up:Int),[],false⟩:aq)]).set up {x with Kids:=x.Kids++[(N.length:Int)]}=I at *
 have hlen:I.length=N.length+1:=by rw [fS];simp
 have eT:∀ (k:Nat) y,N[k]?=some y→∃ y',I[k]?=some y'∧y'.Kind=y.Kind∧y'.ah=y.ah∧y'.To=y.To∧y'.Up=y.Up∧(k≠up→y'=y):=by
  intro k y hy
  have hk:=gP hy
  rw [fS,List.getElem?_append_left (by rw [List.length_set];exact hk)]
  by_cases e:k=up
  ·subst e
   rw [hx] at hy;simp only [Option.some.injEq] at hy;subst hy
   exact ⟨_,List.getElem?_set_self hk,rfl,rfl,rfl,rfl,fun q=>absurd rfl q⟩
  ·exact ⟨y,by rw [List.getElem?_set_ne (Ne.symm e)];exact hy,rfl,rfl,rfl,rfl,fun _=>rfl⟩
 have sa:I[up]?=some {x with Kids:=x.Kids++[(N.length:Int)]}:=by
  rw [fS,List.getElem?_append_left (by rw [List.length_set];exact hu),List.getElem?_set_self hu]
 have iL:I[N.length]?=some ⟨kind,aH,to,(up:Int),[],false⟩:=by
  rw [fS,List.getElem?_append_right (by rw [List.length_set];exact Nat.le_refl _)];simp
 have gJ:∀ (k:Nat) y',I[k]?=some y'→(k=N.length∧y'=⟨kind,aH,to,(up:Int),[],false⟩)∨(k=up∧y'={x with Kids:=x.Kids++[(N.length:Int)]})∨(k≠up∧N[k]?=some y'):=by
  intro k y' hy
  have hk:=gP hy
  by_cases e:k=N.length
  ·subst e;rw [iL] at hy;exact .inl ⟨rfl,(Option.some.inj hy).symm⟩
  ·by_cases ad:k=up
   ·subst ad;rw [sa] at hy;exact .inr (.inl ⟨rfl,(Option.some.inj hy).symm⟩)
   ·have h2:N[k]?=some N[k]:=List.getElem?_eq_getElem (by omega)
    obtain ⟨z,J,_,_,_,_,aa⟩:=eT k _ h2
    rw [hy] at J;simp only [Option.some.injEq] at J
    rw [J,aa ad];exact .inr (.inr ⟨ad,h2⟩)
 have tI:∀ (j:Nat) y,N[j]?=some y→∀ T,y.To≤T→LP I j T y.ah y.Kids:=fun j y hy T hT=>
  (h.cQ j y hy).1.of hT (fun k hk z hz=>by
   obtain ⟨w,_,aa,_⟩:=(h.cQ j y hy).1.mem k hk
   obtain ⟨z',U,_,af,ae,ag,_⟩:=eT _ z hz
   exact ⟨by omega,z',U,ag,af,ae⟩)
 have zB:Gx I n up to:=by
  refine ⟨?_,fun j y hy=>?_,fun j y hy=>?_,fun y hy=>?_,?_⟩
  ·obtain ⟨r,r1,ai,aj,al,an⟩:=h.root
   obtain ⟨z,J,aa,ab,ao,ar,_⟩:=eT 0 r r1
   exact ⟨z,J,aa.trans ai,ab.trans aj,ao.trans al,ar.trans an⟩
  ·rcases gJ j y hy with ⟨rfl,rfl⟩ | ⟨rfl,rfl⟩ | ⟨_,q⟩
   ·exact .inr ⟨by show (0:Int)≤(up:Int);omega,by show (up:Int)<(N.length:Int);omega⟩
   ·exact h.ups j x hx
   ·exact h.ups j y q
  ·rcases gJ j y hy with ⟨rfl,rfl⟩ | ⟨rfl,rfl⟩ | ⟨aw,q⟩
   ·exact ⟨trivial,fg⟩
   ·rw [if_pos rfl]
    refine ⟨?_,(h.cQ j x hx).2⟩
    refine LP.snoc (i:=(j:Int)) (k:=(N.length:Int)) (z:=⟨kind,aH,to,(j:Int),[],false⟩) (by omega) (by omega) (by omega) (by rw [Int.toNat_natCast];exact iL) rfl (by show to≤max x.To to;omega) (tI j x hx _ (by show x.To≤max x.To to;omega)) (fun e=>?_) (fun c hc y hy=>?_)
    ·rw [e] at he;exact he
    ·rw [hc] at he
     simp only at he
     obtain ⟨w,J,aa,ab,_⟩:=(h.cQ j x hx).1.mem c (List.mem_of_getLast? hc)
     rw [if_pos (by omega),ab] at he
     simp only [jt] at he
     obtain ⟨w',U,_,_,ae,_⟩:=eT _ w ab
     rw [hy] at U;simp only [Option.some.injEq] at U
     rw [U,ae];show w.To≤aH;omega
   ·rw [if_neg (by omega)]
    exact ⟨tI j y q _ (Int.le_refl _),(h.cQ j y q).2⟩
  ·obtain ⟨j,hj⟩:=List.getElem?_of_mem hy
   rcases gJ j y hj with ⟨rfl,rfl⟩ | ⟨rfl,rfl⟩ | ⟨_,q⟩
   ·exact List.nodup_nil
   ·refine List.nodup_append.2 ⟨h.nd x nj,by simp,fun a ha b hb e=>?_⟩
    simp only [List.mem_singleton] at hb
    obtain ⟨_,_,aa,_⟩:=(h.cQ j x hx).1.mem a ha
    omega
   ·exact h.nd y (List.mem_of_getElem? q)
  ·rw [fS,CS,List.length_append,List.length_set]
   have h1:=Ds (y:={x with Kids:=x.Kids++[(N.length:Int)]}) hx
   have h2:({x with Kids:=x.Kids++[(N.length:Int)]}:aq).Kids.length=x.Kids.length+1:=by simp
   have ax:=h.sum
   have ay:ea [(⟨kind,aH,to,(up:Int),[],false⟩:aq)]=0:=rfl
   rw [h2] at h1
   simp only [List.length_singleton]
   omega
 have hold:∀ v,Sp N v→v≤up→Sp I v:=by
  intro v hv
  induction hv with
  | root=>intro _;exact .root
  | gY h1 hy hk ih=>
   rename_i u k y
   intro hle
   obtain ⟨w,J,_⟩:=(h.cQ u y hy).1.mem _ (List.mem_of_getLast? hk)
   obtain ⟨y',U,_,_,_,_,au⟩:=eT u y hy
   rw [au (by omega)] at U
   exact .gY (ih (by omega)) U hk
 have rj:=tB (N.length+1) I up to
 have D9:Sp I N.length:= .gY (hold up hs (Nat.le_refl _)) sa (by simp)
 refine ⟨zB.grow ht _ _ _ (by omega) (by omega) (fun _=>by rw [Int.toNat_natCast];exact hold up hs (Nat.le_refl _)),by rw [o8,hlen],fun p hp nA=>uN _ _ _ _ _ (fun j y hy hj=>?_) nA,D9.kids rj,fun v hv q=>(hold v q hv).kids rj,?_⟩
 ·rcases gJ j y hy with ⟨rfl,rfl⟩ | ⟨rfl,rfl⟩ | ⟨_,q⟩
  ·exact nA
  ·exact hp j x hx hj
  ·exact hp j y q hj
 ·have hl:N.length<(growL (N.length+1) I up to).length:=by rw [o8,hlen];omega
  refine ⟨_,List.getElem?_eq_getElem hl,?_⟩
  have h1:=List.getElem?_eq_getElem hl
  obtain ⟨y,J,_,ab⟩:=DC _ _ _ _ _ _ h1
  rw [iL] at J;simp only [Option.some.injEq] at J
  refine ⟨by rw [ab,← J],?_⟩
  have h2:((growL (N.length+1) I up to).map (·.Kids))[N.length]?=some []:=by rw [rj,List.getElem?_map,iL];rfl
  rw [List.getElem?_map,h1] at h2
  exact Option.some.inj h2
theorem uG {N:List aq} {n:Int} (h:G N n) {p:Int} (hb:Below N p) (hp:0≤p) (up:Nat):∀ e,endOf N up=some e→e≤p:=by
 intro e he
 unfold endOf at he
 obtain ⟨x,hx,rfl⟩:=Option.map_eq_some_iff.1 he
 have rp:x.ah≤p:=by
  rcases Nat.eq_zero_or_pos up with e | e
  ·subst e
   obtain ⟨r,r1,_,I,_⟩:=h.root
   rw [hx] at r1;simp only [Option.some.injEq] at r1;subst r1;omega
  ·have:=hb up x hx e
   have:=(h.cQ up x hx).2
   omega
 cases hk:x.Kids.getLast? with
 | none=>exact rp
 | some k=>
  simp only
  obtain ⟨w,J,U,j,_⟩:=(h.cQ up x hx).1.mem k (List.mem_of_getLast? hk)
  rw [if_pos (by omega),j]
  simp only [jt]
  have:=hb k.toNat w j (by omega)
  omega
theorem rI {N:List aq} {i:Nat} {z:aq} (hz:N[i]?=some z) (hk:z.Kids=[]):∀ e,endOf N i=some e→e=z.ah:=by
 intro e he
 unfold endOf at he
 rw [hz] at he
 simp only [Option.map_some,hk,List.getLast?_nil,Option.some.injEq] at he
 exact he.symm
theorem G.qo {N:List aq} {n:Int} (h:G N n) (j:Nat) (x:aq) (hx:N[j]?=some x):x.Up<(j:Int):=by
 rcases h.ups j x hx with q | q
 ·obtain ⟨r,r1,_,_,_,I⟩:=h.root
  subst q
  rw [hx] at r1;simp only [Option.some.injEq] at r1;subst r1;omega
 ·exact q.2
theorem G.last {N:List aq} {n:Int} (h:G N n) (up:Nat) (x:aq) (hx:N[up]?=some x) (c:Int) (hc:x.Kids.getLast?=some c):0≤c∧c<N.length:=by
 obtain ⟨y,j,I,_⟩:=(h.cQ up x hx).1.mem c (List.mem_of_getLast? hc)
 omega
end Go.Proofs.Ytcilejikekccmaa.M
namespace Go.Proofs.Ytcilejikekccmaa.M
open Go Am Sy
abbrev Rr:=aL
structure RI (r:Rr):Prop where
 e0:0≤r.End
 e1:r.End≤r.L.length
 n:r.L.length≤450
 kp:∀ t∈r.L,0<t.Kind
def kd (r:Rr) (i:Int):Int:=if r.End≤i then 0 else match r.L[i.toNat]? with | some x=>if x.Kind=20∨x.Kind=21 then 0 else x.Kind | none=>0
theorem e2 (F:Nat) (r:Rr) (h:RI r) (i:Int) (h0:0≤i):et F r i=some (kd r i):=by
 unfold et kd
 by_cases c2:r.End≤i
 ·rw [if_pos c2,if_pos c2]
 have:=h.e1
 have hl:i.toNat<r.L.length:=by omega
 rw [if_neg c2,if_neg c2]
 have hb:0≤i∧i<(r.L.length:Int):=by omega
 simp only [if_pos hb,List.getElem?_eq_getElem hl,Option.bind_some]
 by_cases j:r.L[i.toNat].Kind=20
 ·rw [if_pos j,if_pos (.inl j)]
 rw [if_neg j]
 by_cases I:r.L[i.toNat].Kind=21
 ·rw [if_pos I,if_pos (.inr I)]
 ·rw [if_neg I,if_neg (by omega)]
theorem fz {r:Rr} {i:Int} (h:kd r i≠0):i<r.End:=by
 unfold kd at h
 split at h
 ·exact absurd rfl h
 ·omega
theorem xj {r:Rr} (h:RI r) (i:Int):0≤kd r i:=by
 unfold kd
 split
 ·exact Int.le_refl _
 ·split
  ·rename_i x hx
   have:=h.kp x (List.mem_of_getElem? hx)
   split<;>omega
  ·exact Int.le_refl _
theorem h6 {r:Rr} {i:Int} (h:r.End≤i):kd r i=0:=by unfold kd;rw [if_pos h]
theorem qs {r:Rr} (hr:RI r) {i:Int} (h0:0≤i) (h1:i<r.End):∃ x,r.L[i.toNat]?=some x∧(kd r i≠0→kd r i=x.Kind):=by
 have:=hr.e1
 have hl:i.toNat<r.L.length:=by omega
 refine ⟨_,List.getElem?_eq_getElem hl,fun q=>?_⟩
 unfold kd at q ⊢
 rw [if_neg (by omega),List.getElem?_eq_getElem hl] at q ⊢
 simp only at q ⊢
 split
 ·rename_i c;rw [if_pos c] at q;exact absurd rfl q
 ·rfl
def cn (k:Int):Bool:=decide (k≠1∧k≠2∧k≠3∧k≠4)
theorem kM (F:Nat) (k:Int):ft F k=some (cn k):=by
 unfold ft cn
 by_cases h1:k=1
 ·simp [h1]
 by_cases h2:k=2
 ·simp [h2]
 by_cases j:k=3
 ·simp [j]
 by_cases I:k=4
 ·simp [I]
 simp [h1,h2,j,I]
theorem ni (F:Nat) (k:Int):iW F k=some (decide (k=8∨k=9)):=by
 unfold iW
 by_cases h1:k=8
 ·simp [h1]
 by_cases h2:k=9
 ·simp [h2]
 simp [h1,h2]
theorem pG (F:Nat) (k:Int):iy F k=some (decide (k=10∨k=11)):=by
 unfold iy
 by_cases h1:k=10
 ·simp [h1]
 by_cases h2:k=11
 ·simp [h2]
 simp [h1,h2]
theorem oU (F:Nat) (k:Int):∃ b,e7 F k=some b:=by
 unfold e7
 by_cases h1:k=15
 ·simp [h1]
 by_cases h2:k=16
 ·simp [h2]
 by_cases j:k=17
 ·simp [j]
 by_cases I:k=13
 ·simp [I]
 simp [h1,h2,j,I]
theorem Aq {F:Nat} {k:Int} (h:e7 F k=some true):k≠0:=by
 rintro rfl
 unfold e7 at h
 simp at h
def Ct (L:List ak) (j:Int):Prop:=∃ t,L[(j - 1).toNat]?=some t∧cn t.Kind=true
theorem Ct.of {r:Rr} (h:RI r) {i:Int} (h0:0≤i) {k:Int} (hk:kd r i=k) (J:k≠0) (hc:cn k=true):Ct r.L (i+1):=by
 have eO:=fz (r:=r) (i:=i) (by omega)
 obtain ⟨t,j,I⟩:=qs h h0 eO
 refine ⟨t,by rw [Int.add_sub_cancel];exact j,?_⟩
 rw [← I (by omega),hk];exact hc
theorem w1 {i:Int} (h0:0≤i) (h1:i≤100000):af (i+1)=i+1:=aX (by omega) (by omega)
theorem jB {i:Int} (h0:0≤i) (h1:i≤100000):af (i - 1)=i - 1:=aX (by omega) (by omega)
theorem tp (F:Nat) (hF:2500≤F) (r:Rr) (h:RI r) (i:Int) (h0:0≤i) (h1:i≤2000):∃ j,kn F r i=some j∧i≤j∧(j=i∨j≤r.End)∧(kd r i≠0→kd r i≠3→j=i):=by
 have hn:=h.n
 have he:=h.e1
 have key:∀ (d n:Nat) (x:Int),i≤x→x≤2000→(r.End - x).toNat≤d→d<n→(x=i∨x≤r.End)→(kd r i≠0→kd r i≠3→x=i)→∃ j,ko F r i n x=some j∧i≤j∧(j=i∨j≤r.End)∧(kd r i≠0→kd r i≠3→j=i):=by
  intro d
  induction d with
  | zero=>
   intro n x hx U hd hn hq hz
   obtain ⟨n,rfl⟩:∃ m,n=m+1:=⟨n - 1,by omega⟩
   rw [ko,if_neg (by omega)]
   exact ⟨x,rfl,hx,hq,hz⟩
  | succ d ih=>
   intro n x hx U hd hn hq hz
   obtain ⟨n,rfl⟩:∃ m,n=m+1:=⟨n - 1,by omega⟩
   rw [ko]
   by_cases c0:x<r.End
   case neg=>rw [if_neg c0];exact ⟨x,rfl,hx,hq,hz⟩
   obtain ⟨y,aa,ab⟩:=qs h (by omega) c0
   rw [if_pos c0,if_pos (by omega),aa]
   simp only [Option.bind_some]
   split
   ·rename_i ad
    rw [w1 (by omega) (by omega)]
    exact ih n (x+1) (by omega) (by omega) (by omega) (by omega) (by omega) (fun I J=>by
     have:=hz I J
     subst this
     exact absurd ((ab I).trans ad) J)
   ·exact ⟨x,rfl,hx,hq,hz⟩
 unfold kn
 obtain ⟨j,I,J⟩:=key (r.End - i).toNat F i (Int.le_refl _) h1 (Nat.le_refl _) (by omega) (.inl rfl) (fun _ _=>rfl)
 exact ⟨j,by rw [I];rfl,J⟩
theorem m0 (F:Nat) (hF:2500≤F) (r:Rr) (h:RI r) (i:Int) (h0:0≤i) (h1:i≤2000):∃ j,h4 F r i=some j∧i≤j∧(j=i∨j≤r.End)∧(kd r j≠0→cn (kd r j)=true):=by
 have hn:=h.n
 have he:=h.e1
 have key:∀ (d n:Nat) (x:Int),i≤x→x≤2000→(r.End - x).toNat≤d→d<n→(x=i∨x≤r.End)→∃ j,jU F r i n x=some j∧i≤j∧(j=i∨j≤r.End)∧(kd r j≠0→cn (kd r j)=true):=by
  intro d
  induction d with
  | zero=>
   intro n x hx I hd hn hq
   obtain ⟨n,rfl⟩:∃ m,n=m+1:=⟨n - 1,by omega⟩
   rw [jU,if_neg (by omega)]
   exact ⟨x,rfl,hx,hq,fun q=>absurd (h6 (by omega)) q⟩
  | succ d ih=>
   intro n x hx I hd hn hq
   obtain ⟨n,rfl⟩:∃ m,n=m+1:=⟨n - 1,by omega⟩
   rw [jU]
   by_cases c0:x<r.End
   case neg=>rw [if_neg c0];exact ⟨x,rfl,hx,hq,fun q=>absurd (h6 (by omega)) q⟩
   obtain ⟨t,J,U⟩:=qs h (by omega) c0
   rw [if_pos c0,if_pos (by omega),J]
   simp only [Option.bind_some,kM]
   by_cases c:cn t.Kind=true
   ·rw [if_pos c];exact ⟨x,rfl,hx,hq,fun q=>by rw [U q];exact c⟩
   ·rw [if_neg c,w1 (by omega) (by omega)]
    exact ih n (x+1) (by omega) (by omega) (by omega) (by omega) (by omega)
 unfold h4
 obtain ⟨j,aa,ab⟩:=key (r.End - i).toNat F i (Int.le_refl _) h1 (Nat.le_refl _) (by omega) (.inl rfl)
 exact ⟨j,by rw [aa];rfl,ab⟩
theorem oO (F:Nat) (hF:2500≤F) (r:Rr) (hn:r.L.length≤450) (b a:Int) (h0:0≤a) (h1:a≤b) (h2:b≤r.L.length):∃ j,jq F r b a=some j∧a≤j∧j≤b∧(j=a∨Ct r.L j)∧(a<b→Ct r.L b→j=b):=by
 have key:∀ (d n:Nat) (x:Int),a≤x→x≤b→(x - a).toNat≤d→d<n→∃ j,kQ F r b a n x=some j∧a≤j∧j≤b∧(j=a∨Ct r.L j)∧(a<x→Ct r.L x→j=x):=by
  intro d
  induction d with
  | zero=>
   intro n x hx I hd hn
   obtain ⟨n,rfl⟩:∃ m,n=m+1:=⟨n - 1,by omega⟩
   rw [kQ,if_neg (by omega)]
   exact ⟨x,rfl,hx,I, .inl (by omega),fun _ _=>rfl⟩
  | succ d ih=>
   intro n x hx I hd hn
   obtain ⟨n,rfl⟩:∃ m,n=m+1:=⟨n - 1,by omega⟩
   rw [kQ]
   by_cases c:a<x
   ·have hl:(x - 1).toNat<r.L.length:=by omega
    rw [if_pos c,jB (by omega) (by omega),if_pos (by omega),List.getElem?_eq_getElem hl]
    simp only [Option.bind_some,kM]
    split
    ·rename_i hc
     exact ⟨x,rfl,hx,I, .inr ⟨_,List.getElem?_eq_getElem hl,hc⟩,fun _ _=>rfl⟩
    ·rename_i hc
     obtain ⟨j,J,U,ab,ad,_⟩:=ih n (x - 1) (by omega) (by omega) (by omega) (by omega)
     refine ⟨j,J,U,ab,ad,fun _ z=>?_⟩
     obtain ⟨t,aa,ae⟩:=z
     rw [List.getElem?_eq_getElem hl] at aa
     simp only [Option.some.injEq] at aa
     subst aa;exact absurd ae hc
   ·rw [if_neg c];exact ⟨x,rfl,hx,I, .inl (by omega),fun q=>absurd q c⟩
 unfold jq
 obtain ⟨j,J,U⟩:=key (b - a).toNat F b h1 (Int.le_refl _) (Nat.le_refl _) (by omega)
 exact ⟨j,by rw [J];rfl,U⟩
theorem zV (F:Nat) (hF:2500≤F) (r:Rr) (h:RI r) (a:Int) (h0:0≤a) (h1:a<r.End) (hk:Ct r.L (a+1)):∃ j,m5 F r a=some j∧a<j∧j≤r.End∧Ct r.L j:=by
 have hn:=h.n
 have he:=h.e1
 have ab:∀ (d n:Nat) (x:Int),a+1≤x→x≤r.End→(r.End - x).toNat≤d→d<n→∃ j,kP F r a n x=some j∧a<j∧j≤r.End:=by
  intro d
  induction d with
  | zero=>
   intro n x hx I hd hn
   obtain ⟨n,rfl⟩:∃ m,n=m+1:=⟨n - 1,by omega⟩
   rw [kP,if_neg (by omega)]
   exact ⟨x,rfl,by omega,I⟩
  | succ d ih=>
   intro n x hx I hd hn
   obtain ⟨n,rfl⟩:∃ m,n=m+1:=⟨n - 1,by omega⟩
   rw [kP]
   by_cases c0:x<r.End
   case neg=>rw [if_neg c0];exact ⟨x,rfl,by omega,I⟩
   have hl:x.toNat<r.L.length:=by omega
   have hb:0≤x∧x<(r.L.length:Int):=by omega
   simp only [if_pos c0,if_pos hb,List.getElem?_eq_getElem hl,Option.bind_some,kM]
   split
   ·exact ⟨x,rfl,by omega,I⟩
   split
   ·exact ⟨x,rfl,by omega,I⟩
   rw [w1 (by omega) (by omega)]
   exact ih n (x+1) (by omega) (by omega) (by omega) (by omega)
 have ad:∀ (d n:Nat) (x:Int),a+1≤x→x≤r.End→(r.End - x).toNat≤d→d<n→(x=a+1∨Ct r.L x∨∃ t,r.L[x.toNat]?=some t∧t.Kind=19∧x<r.End)→∃ j,jN F r a n x=some j∧a<j∧j≤r.End∧Ct r.L j:=by
  intro d
  induction d with
  | zero=>
   intro n x hx I hd hn hc
   obtain ⟨n,rfl⟩:∃ m,n=m+1:=⟨n - 1,by omega⟩
   rw [jN,if_neg (by omega)]
   refine ⟨x,rfl,by omega,I,?_⟩
   rcases hc with rfl | hc | ⟨_,_,_,hc⟩
   ·exact hk
   ·exact hc
   ·omega
  | succ d ih=>
   intro n x hx I hd hn hc
   obtain ⟨n,rfl⟩:∃ m,n=m+1:=⟨n - 1,by omega⟩
   rw [jN]
   by_cases c0:x<r.End
   case neg=>
    rw [if_neg c0]
    refine ⟨x,rfl,by omega,I,?_⟩
    rcases hc with rfl | hc | ⟨_,_,_,hc⟩
    ·exact hk
    ·exact hc
    ·omega
   have hl:x.toNat<r.L.length:=by omega
   rw [if_pos c0,if_pos (by omega),List.getElem?_eq_getElem hl]
   simp only [Option.bind_some]
   split
   ·rename_i J
    rw [w1 (by omega) (by omega)]
    exact ih n (x+1) (by omega) (by omega) (by omega) (by omega) (.inr (.inl ⟨_,by rw [Int.add_sub_cancel];exact List.getElem?_eq_getElem hl,by rw [J];rfl⟩))
   ·rename_i J
    refine ⟨x,rfl,by omega,I,?_⟩
    rcases hc with rfl | hc | ⟨t,U,aa,_⟩
    ·exact hk
    ·exact hc
    ·rw [List.getElem?_eq_getElem hl] at U
     simp only [Option.some.injEq] at U
     subst U;exact absurd aa J
 unfold m5
 rw [w1 h0 (by omega)]
 obtain ⟨j,U,aa,ag⟩:=ab (r.End - (a+1)).toNat F (a+1) (Int.le_refl _) (by omega) (Nat.le_refl _) (by omega)
 rw [U]
 simp only [Option.bind_some]
 by_cases c1:r.End≤j
 ·rw [if_pos c1];exact ⟨_,rfl,by omega,by omega,hk⟩
 have hl:j.toNat<r.L.length:=by omega
 rw [if_neg c1,if_pos (by omega),List.getElem?_eq_getElem hl]
 simp only [Option.bind_some]
 split
 case isFalse=>exact ⟨_,rfl,by omega,by omega,hk⟩
 rw [w1 (by omega) (by omega)]
 by_cases c2:r.End≤j+1
 ·rw [if_pos c2];exact ⟨_,rfl,by omega,by omega,hk⟩
 have hl:(j+1).toNat<r.L.length:=by omega
 rw [if_neg c2,if_pos (by omega),List.getElem?_eq_getElem hl]
 simp only [Option.bind_some]
 split
 case isFalse=>exact ⟨_,rfl,by omega,by omega,hk⟩
 rename_i J
 obtain ⟨k,ae,af⟩:=ad (r.End - (j+1)).toNat F (j+1) (by omega) (by omega) (Nat.le_refl _) (by omega) (.inr (.inr ⟨_,List.getElem?_eq_getElem hl,J,by omega⟩))
 rw [ae]
 exact ⟨k,rfl,af⟩
theorem balanced_ex (F:Nat) (hF:2500≤F) (r:Rr) (h:RI r) (a:Int) (h0:0≤a) (hk:kd r a=8∨kd r a=9):∃ j,correctorref11_Reader_balanced F r a=some j∧a<j∧j≤r.End∧Ct r.L j:=by
 have hn:=h.n
 have he:=h.e1
 have eO:=fz (r:=r) (i:=a) (by omega)
 have key:∀ (d n:Nat) (x o:Int),a≤x→x≤r.End→(r.End - x).toNat≤d→d<n→o≤x - a→0≤o→(a<x→1≤o)→∃ s,jc F r a n o x=some s∧(match s with | .inl _=>True | .inr j=>a<j∧j≤r.End∧Ct r.L j):=by
  intro d
  induction d with
  | zero=>
   intro n x o hx I hd hn ad ae U
   obtain ⟨n,rfl⟩:∃ m,n=m+1:=⟨n - 1,by omega⟩
   rw [jc,e2 F r h _ (by omega),h6 (by omega)]
   exact ⟨_,rfl,trivial⟩
  | succ d ih=>
   intro n x o hx I hd hn ad ae U
   obtain ⟨n,rfl⟩:∃ m,n=m+1:=⟨n - 1,by omega⟩
   have ag:=e2 F r h x (by omega)
   rw [jc]
   simp only [ag,Option.bind_some,ni,pG,decide_eq_true_eq]
   by_cases c:0<kd r x
   case neg=>rw [if_neg c];exact ⟨_,rfl,trivial⟩
   have iQ:=fz (r:=r) (i:=x) (by omega)
   have hw:af (x+1)=x+1:=w1 (by omega) (by omega)
   have ah:af (o+1)=o+1:=aX (by omega) (by omega)
   rw [if_pos c,hw,ah]
   have fin:∀ o':Int,0≤o'→o'≤o+1→(o'=0→Ct r.L (x+1))→∃ s,(if o'=(0:Int) then (some (.inr (x+1)):Option (Sum Unit Int)) else jc F r a n o' (x+1))=some s∧(match s with | .inl _=>True | .inr j=>a<j∧j≤r.End∧Ct r.L j):=by
    intro o' aa ai ab
    by_cases c2:o'=0
    ·rw [if_pos c2];exact ⟨_,rfl,by omega,by omega,ab c2⟩
    ·rw [if_neg c2];exact ih n (x+1) o' (by omega) (by omega) (by omega) (by omega) (by omega) (by omega) (by omega)
   by_cases c1:kd r x=8∨kd r x=9
   ·rw [if_pos c1]
    simp only [Option.bind_some]
    rw [if_neg (by omega)]
    simp only [Option.bind_some]
    exact fin _ (by omega) (by omega) (fun q=>by omega)
   rw [if_neg c1]
   simp only [Option.bind_some]
   have aj:af (o - 1)=o - 1:=aX (by omega) (by omega)
   have BN:a<x:=by
    rcases Int.lt_or_eq_of_le hx with q | q
    ·exact q
    ·subst q;exact absurd hk c1
   have ar:=U BN
   by_cases c2:kd r x=10∨kd r x=11
   ·rw [if_pos c2,aj]
    simp only [Option.bind_some]
    exact fin _ (by omega) (by omega) (fun _=>by rcases c2 with z | z<;>exact Ct.of h (by omega) z (by decide) rfl)
   ·rw [if_neg c2]
    simp only [Option.bind_some]
    exact fin _ (by omega) (by omega) (fun q=>by omega)
 have al:∀ (d n:Nat) (x:Int),a≤x→x≤r.End→(r.End - x).toNat≤d→d<n→∃ j,kx F r a n x=some j∧a<j∧j≤r.End:=by
  intro d
  induction d with
  | zero=>
   intro n x hx I hd hn
   obtain ⟨n,rfl⟩:∃ m,n=m+1:=⟨n - 1,by omega⟩
   rw [kx,e2 F r h _ (by omega),h6 (by omega)]
   exact ⟨_,rfl,by omega,by omega⟩
  | succ d ih=>
   intro n x hx I hd hn
   obtain ⟨n,rfl⟩:∃ m,n=m+1:=⟨n - 1,by omega⟩
   rw [kx,e2 F r h _ (by omega)]
   simp only [Option.bind_some]
   by_cases c:0<kd r x
   ·have iQ:=fz (r:=r) (i:=x) (by omega)
    rw [if_pos c,w1 (by omega) (by omega)]
    exact ih n (x+1) (by omega) (by omega) (by omega) (by omega)
   ·rw [if_neg c]
    refine ⟨_,rfl,?_,by omega⟩
    rcases Int.lt_or_eq_of_le hx with q | q
    ·exact q
    ·subst q;omega
 unfold correctorref11_Reader_balanced
 obtain ⟨s,an,ao⟩:=key (r.End - a).toNat F a 0 (Int.le_refl _) (by omega) (Nat.le_refl _) (by omega) (by omega) (by omega) (by omega)
 rw [an]
 cases s with
 | inl u=>
  obtain ⟨j,aa,ai,ab⟩:=al (r.End - a).toNat F a (Int.le_refl _) (by omega) (Nat.le_refl _) (by omega)
  obtain ⟨k,aq,au,av,J,_⟩:=oO F hF r hn j (a+1) (by omega) (by omega) (by omega)
  simp only [Option.bind_some,aa,w1 h0 (by omega:a≤100000),aq]
  refine ⟨k,rfl,by omega,by omega,?_⟩
  rcases J with rfl | J
  ·rcases hk with z | z<;>exact Ct.of h h0 z (by decide) rfl
  ·exact J
 | inr j=>exact ⟨j,rfl,ao⟩
theorem uS (F:Nat) (hF:2500≤F) (r:Rr) (h:RI r) (a:Int) (h0:0≤a) (h1:a≤1500):∃ j,h8 F r a=some j∧(j=0∨(a<j∧j≤r.End∧Ct r.L j)):=by
 have hn:=h.n
 have he:=h.e1
 have key:∀ (d n:Nat) (x:Int),a≤x→x≤1600→(r.End - x).toNat≤d→d<n→∃ j,jk F r a n x=some j∧a≤j∧j≤1600:=by
  intro d
  induction d with
  | zero=>
   intro n x hx J hd hn
   obtain ⟨n,rfl⟩:∃ m,n=m+1:=⟨n - 1,by omega⟩
   have I:=e2 F r h x (by omega)
   rw [h6 (by omega)] at I
   rw [jk]
   simp only [I,Option.bind_some]
   exact ⟨x,rfl,hx,J⟩
  | succ d ih=>
   intro n x hx J hd hn
   obtain ⟨n,rfl⟩:∃ m,n=m+1:=⟨n - 1,by omega⟩
   have I:=e2 F r h x (by omega)
   rw [jk]
   simp only [I,Option.bind_some]
   have go:kd r x≠0→∃ j,((h4 F r (af (x+1))).bind fun ab=>jk F r a n ab)=some j∧a≤j∧j≤1600:=by
    intro c
    have eO:=fz c
    obtain ⟨j,U,aa,ad,_⟩:=m0 F hF r h (x+1) (by omega) (by omega)
    rw [w1 (by omega) (by omega),U]
    simp only [Option.bind_some]
    exact ih n j (by omega) (by omega) (by omega) (by omega)
   by_cases c:kd r x=12
   ·rw [if_pos c];simp only [Option.bind_some];exact go (by omega)
   rw [if_neg c]
   by_cases c:kd r x=14
   ·rw [if_pos c];simp only [Option.bind_some];exact go (by omega)
   rw [if_neg c]
   exact ⟨x,rfl,hx,J⟩
 unfold h8
 obtain ⟨j,U,aa,ad⟩:=key (r.End - a).toNat F a (Int.le_refl _) (by omega) (Nat.le_refl _) (by omega)
 rw [U]
 simp only [Option.bind_some,e2 F r h j (by omega)]
 obtain ⟨b,hb⟩:=oU F (kd r j)
 rw [hb]
 simp only [Option.bind_some]
 have fin:∀ z:Int,a≤z→z≤2000→∃ y,((et F r z).bind fun ae=>if ae=(6:Int) then (some (af (z+1)):Option Int) else some 0)=some y∧(y=0∨(a<y∧y≤r.End∧Ct r.L y)):=by
  intro z hz ah
  rw [e2 F r h z (by omega)]
  simp only [Option.bind_some]
  by_cases c:kd r z=6
  ·have eO:=fz (r:=r) (i:=z) (by omega)
   rw [if_pos c,w1 (by omega) (by omega)];exact ⟨_,rfl, .inr ⟨by omega,by omega,Ct.of h (by omega) c (by decide) rfl⟩⟩
  ·rw [if_neg c];exact ⟨_,rfl, .inl rfl⟩
 cases b with
 | true=>
  have eO:=fz (Aq hb)
  obtain ⟨z,ag,ai,aj,_⟩:=m0 F hF r h (j+1) (by omega) (by omega)
  rw [if_pos rfl,w1 (by omega) (by omega),ag]
  simp only [Option.bind_some]
  exact fin z (by omega) (by omega)
 | false=>
  simp only [Bool.false_eq_true,if_false,Option.bind_some]
  exact fin j aa (by omega)
theorem BF (F:Nat) (hF:2500≤F) (r:Rr) (h:RI r) (a:Int) (h0:0≤a) (hk:0<kd r a) (gf:cn (kd r a)=true) (aq:kd r a≠7) (ar:¬ (kd r a=10∨kd r a=11)):∃ j,jG F r a=some j∧a<j∧j≤r.End∧Ct r.L j:=by
 have hn:=h.n
 have he:=h.e1
 have eO:=fz (r:=r) (i:=a) (by omega)
 have key:∀ (d n:Nat) (x o:Int),a≤x→x≤r.End→(r.End - x).toNat≤d→d<n→o≤x - a→ -(x - a)≤o→(x=a→o=0)→∃ j,ju F r a n o x=some j∧a<j∧j≤r.End:=by
  intro d
  induction d with
  | zero=>
   intro n x o hx I hd hn ad ae ag
   obtain ⟨n,rfl⟩:∃ m,n=m+1:=⟨n - 1,by omega⟩
   rw [ju,e2 F r h _ (by omega),h6 (by omega)]
   exact ⟨x,rfl,by omega,I⟩
  | succ d ih=>
   intro n x o hx I hd hn ad ae ag
   obtain ⟨n,rfl⟩:∃ m,n=m+1:=⟨n - 1,by omega⟩
   have ah:=e2 F r h x (by omega)
   rw [ju]
   simp only [ah,Option.bind_some,ni,pG,decide_eq_true_eq]
   by_cases c:0<kd r x
   case neg=>
    rw [if_neg c]
    refine ⟨x,rfl,?_,I⟩
    rcases Int.lt_or_eq_of_le hx with q | q
    ·exact q
    ·subst q;omega
   have iQ:=fz (r:=r) (i:=x) (by omega)
   have hw:af (x+1)=x+1:=w1 (by omega) (by omega)
   have ai:af (o+1)=o+1:=aX (by omega) (by omega)
   rw [if_pos c,hw,ai]
   have go:∃ j,((if kd r x=8∨kd r x=9 then (some (o+1):Option Int) else some o).bind fun U=>
       (if kd r x=10∨kd r x=11 then (some (af (U - 1)):Option Int) else some U).bind fun aj=>ju F r a n aj (x+1))=some j∧a<j∧j≤r.End:=by
    by_cases aa:kd r x=8∨kd r x=9
    ·rw [if_pos aa]
     simp only [Option.bind_some]
     rw [if_neg (by omega)]
     simp only [Option.bind_some]
     exact ih n (x+1) (o+1) (by omega) (by omega) (by omega) (by omega) (by omega) (by omega) (by omega)
    ·rw [if_neg aa]
     simp only [Option.bind_some]
     have al:af (o - 1)=o - 1:=aX (by omega) (by omega)
     by_cases ab:kd r x=10∨kd r x=11
     ·rw [if_pos ab,al]
      simp only [Option.bind_some]
      exact ih n (x+1) (o - 1) (by omega) (by omega) (by omega) (by omega) (by omega) (by omega) (by omega)
     ·rw [if_neg ab]
      simp only [Option.bind_some]
      exact ih n (x+1) o (by omega) (by omega) (by omega) (by omega) (by omega) (by omega) (by omega)
   have out:(kd r x=7∨kd r x=10∨kd r x=11)→a<x:=fun q=>by
    rcases Int.lt_or_eq_of_le hx with z | z
    ·exact z
    ·subst z;omega
   by_cases c0:o=0
   ·rw [if_pos c0]
    by_cases c1:kd r x=7
    ·rw [if_pos c1]
     exact ⟨x,rfl,out (.inl c1),I⟩
    rw [if_neg c1]
    by_cases c2:kd r x=10∨kd r x=11
    ·rw [if_pos c2]
     exact ⟨x,rfl,out (.inr c2),I⟩
    rw [if_neg c2]
    exact go
   ·rw [if_neg c0]
    exact go
 unfold jG
 obtain ⟨j,an,au,av⟩:=key (r.End - a).toNat F a 0 (Int.le_refl _) (by omega) (Nat.le_refl _) (by omega) (by omega) (by omega) (fun _=>rfl)
 rw [an]
 obtain ⟨k,ao,aw,ax,J,_⟩:=oO F hF r hn j (a+1) (by omega) (by omega) (by omega)
 simp only [Option.bind_some,w1 h0 (by omega:a≤100000),ao]
 refine ⟨k,rfl,by omega,by omega,?_⟩
 rcases J with rfl | J
 ·exact Ct.of h h0 rfl (by omega) gf
 ·exact J
end Go.Proofs.Ytcilejikekccmaa.M
namespace Go.Proofs.Ytcilejikekccmaa.M
open Go Am Sy
structure Rd (n:Int) (r:Rr) (p:Int):Prop where
 ri:RI r
 nl:n=r.L.length
 g:G r.T.al n
 b:Below r.T.al p
structure To (r r':Rr) (up:Nat) (s m:Int):Prop where
 l:r'.L=r.L
 e:r'.End=r.End
 sz:(r'.T.al.length:Int)≤r.T.al.length+s
 ge:r.T.al.length≤r'.T.al.length
 dl:(r'.D.length:Int)≤r.D.length+m
 sp:∀ v,v≤up→Sp r.T.al v→Sp r'.T.al v
theorem To.refl (r:Rr) (up:Nat):To r r up 0 0:=⟨rfl,rfl,by omega,Nat.le_refl _,by omega,fun v _ h=>h⟩
theorem To.trans {a b c:Rr} {up j:Nat} {s m s2 I:Int} (h:To a b up s m) (k:To b c j s2 I) (hu:up≤j):To a c up (s+s2) (m+I):=
 ⟨k.l.trans h.l,k.e.trans h.e,by have:=h.sz;have:=k.sz;omega,Nat.le_trans h.ge k.ge,by have:=h.dl;have:=k.dl;omega,fun v hv q=>k.sp v (by omega) (h.sp v hv q)⟩
theorem To.le {a b:Rr} {up:Nat} {s m s2 j:Int} (h:To a b up s m) (hs:s≤s2) (hm:m≤j):To a b up s2 j:={h with sz:=by have:=h.sz;omega,dl:=by have:=h.dl;omega}
theorem Below.mono {N:List aq} {p q:Int} (h:Below N p) (rD:p≤q):Below N q:=fun i x hx hi=>Int.le_trans (h i x hx hi) rD
theorem RI.of {r r':Rr} (h:RI r) (hl:r'.L=r.L) (he:r'.End=r.End):RI r':=⟨by rw [he];exact h.e0,by rw [he,hl];exact h.e1,by rw [hl];exact h.n,by rw [hl];exact h.kp⟩
theorem Rd.mono {n:Int} {r:Rr} {p q:Int} (h:Rd n r p) (rD:p≤q):Rd n r q:=⟨h.ri,h.nl,h.g,h.b.mono rD⟩
theorem Sp.lt {N:List aq} {n:Int} (h:G N n) {v:Nat} (hs:Sp N v):v<N.length:=by
 cases hs with
 | root=>exact h.pos
 | gY h1 hx hk=>
  obtain ⟨_,_,q,_⟩:=(h.cQ _ _ hx).1.mem _ (List.mem_of_getLast? hk)
  omega
theorem ub (F:Nat) (hF:2500≤F) (r:Rr) {n:Int} (h:G r.T.al n) (hl:r.T.al.length≤2400) {up:Nat} (hu:up<r.T.al.length) (hs:Sp r.T.al up) {kind aH to:Int} (hk:1≤kind∧kind≤11) (fg:aH≤to) (ht:to≤n) (he:∀ e,endOf r.T.al up=some e→e≤aH):
  ∃ N',ek F r (up:Int) kind aH to=some ((r.T.al.length:Int),(⟨r.L,⟨N'⟩,r.D,r.End⟩:Rr))∧u2 r.T.al N' n up kind aH to:=by
 refine ⟨n3 r.T.al up kind aH to,?_,added h hu hs fg ht he⟩
 unfold ek
 rw [Ex F r.T up kind aH to (h.small (by omega)) (by omega) (by omega) h.qo hu hk fg (fun x hx=>by
  obtain ⟨y,j,I⟩:=h.sR
  rw [hx] at j;simp only [Option.some.injEq] at j;subst j;omega) (fun x hx c hc=>h.last up x hx c hc) he]
 rfl
theorem iT (F:Nat) (hF:2500≤F) {n:Int} {r:Rr} {p:Int} (h:Rd n r p) (hl:r.T.al.length≤2400) {up:Nat} (hs:Sp r.T.al up) {kind aH to:Int} (hk:1≤kind∧kind≤11) (fg:aH≤to) (ht:to≤n) (jX:p≤to) (he:∀ e,endOf r.T.al up=some e→e≤aH):
  ∃ r',ek F r (up:Int) kind aH to=some ((r.T.al.length:Int),r')∧Rd n r' to∧To r r' up 1 0∧Sp r'.T.al r.T.al.length∧r'.D=r.D∧r'.T.al.length=r.T.al.length+1∧(∃ z,r'.T.al[r.T.al.length]?=some z∧z.ah=aH∧z.Kids=[]):=by
 have hn:=h.nl
 have J:=h.ri.e1
 obtain ⟨N',I,j⟩:=ub F hF r h.g hl (hs.lt h.g) hs hk fg ht he
 refine ⟨_,I,⟨h.ri.of rfl rfl,hn,j.g,j.sJ _ (h.b.mono jX) (Int.le_refl _)⟩,⟨rfl,rfl,?_,?_,?_,j.cF⟩,j.new,rfl,j.len,j.fresh⟩
 ·show (N'.length:Int)≤_;rw [j.len];omega
 ·show _≤N'.length;rw [j.len];omega
 ·show (r.D.length:Int)≤_;omega
theorem Rd.endOf {n:Int} {r:Rr} {p:Int} (h:Rd n r p) (hp:0≤p) (up:Nat) {q:Int} (hq:p≤q):∀ e,endOf r.T.al up=some e→e≤q:=fun e he=>Int.le_trans (uG h.g h.b hp up e he) hq
theorem nv (F:Nat) (hF:2500≤F) {n:Int} {r:Rr} {p:Int} (h:Rd n r p) (hl:r.T.al.length≤2400) (hd:r.D.length≤100000) {up:Nat} (hs:Sp r.T.al up) {code aH to:Int} (h0:0≤aH) (fg:aH<to) (ht:to≤n) (jX:p≤to) (he:∀ e,endOf r.T.al up=some e→e≤aH):
  ∃ r',dQ F r (up:Int) aH to code=some ((r.T.al.length:Int),r')∧Rd n r' to∧To r r' up 1 1∧Sp r'.T.al r.T.al.length:=by
 have hn:=h.nl
 have dc:=h.ri.n
 obtain ⟨r1,a1,I,j,aa,J,ab,_⟩:=iT F hF h hl hs (kind:=11) (by omega) (Int.le_of_lt fg) ht jX he
 have U:=j.l
 unfold dQ
 have ha:aH.toNat<r.L.length:=by omega
 have hb:(to - 1).toNat<r.L.length:=by omega
 rw [a1]
 simp only [Option.bind_some,U]
 rw [if_pos (by omega),List.getElem?_eq_getElem ha]
 simp only [Option.bind_some]
 rw [jB (by omega) (by omega),if_pos (by omega),List.getElem?_eq_getElem hb]
 simp only [Option.bind_some]
 rw [if_pos (by rw [List.length_singleton,J];omega)]
 refine ⟨_,rfl,⟨I.ri.of U.symm rfl,by show n=(r.L.length:Int);exact hn,I.g,I.b⟩,⟨rfl,j.e,j.sz,j.ge,?_,j.sp⟩,aa⟩
 show ((r1.D++_).length:Int)≤_
 rw [List.length_append,List.length_singleton,J];omega
theorem pK (F:Nat) (hF:2500≤F) {n:Int} {r:Rr} {p:Int} (h:Rd n r p) (hl:r.T.al.length≤2400) {c:Nat} (hs:Sp r.T.al c) {to:Int} (ht:to≤n) (jX:p≤to):
  ∃ t',ij F r.T (c:Int) to=some t'∧Rd n (⟨r.L,t',r.D,r.End⟩:Rr) to∧∀ up,To r (⟨r.L,t',r.D,r.End⟩:Rr) up 0 0:=by
 have hn:=h.nl
 have hc:=hs.lt h.g
 refine ⟨_,Dk F r.T c to (h.g.small (by omega)) (by omega) h.g.qo hc (fun x hx=>by
  obtain ⟨y,j,I⟩:=h.g.sR
  rw [hx] at j;simp only [Option.some.injEq] at j;subst j;omega),⟨h.ri.of rfl rfl,hn,?_,uN _ _ _ _ _ (h.b.mono jX) (Int.le_refl _)⟩,fun up=>⟨rfl,rfl,?_,?_,?_,fun v _ q=>q.kids (tB _ _ _ _)⟩⟩
 ·exact (h.g.gx (c:Int) to).grow ht _ _ _ (by omega) (by omega) (fun _=>by rw [Int.toNat_natCast];exact hs)
 ·show ((growL r.T.al.length r.T.al (c:Int) to).length:Int)≤_;rw [o8];omega
 ·show _≤(growL r.T.al.length r.T.al (c:Int) to).length;rw [o8];exact Nat.le_refl _
 ·show (r.D.length:Int)≤_;omega
theorem uz (F:Nat) {n:Int} {r:Rr} {p:Int} (h:Rd n r p) (hl:r.T.al.length≤2500) {i:Nat} (hi:i<r.T.al.length):
  ∃ r',l7 F r (i:Int)=some r'∧Rd n r' p∧(∀ up,To r r' up 0 0)∧r'.T.al.length=r.T.al.length∧(∀ j,endOf r'.T.al j=endOf r.T.al j):=by
 have hx:r.T.al[i]?=some r.T.al[i]:=List.getElem?_eq_getElem hi
 have hk:=pb (y:=(⟨r.T.al[i].Kind,r.T.al[i].ah,r.T.al[i].To,r.T.al[i].Up,r.T.al[i].Kids,true⟩:aq)) hx rfl
 have gJ:∀ (j:Nat) y',(r.T.al.set i (⟨r.T.al[i].Kind,r.T.al[i].ah,r.T.al[i].To,r.T.al[i].Up,r.T.al[i].Kids,true⟩:aq))[j]?=some y'→∃ y,r.T.al[j]?=some y∧y'.Kind=y.Kind∧y'.ah=y.ah∧y'.To=y.To∧y'.Up=y.Up∧y'.Kids=y.Kids:=by
  intro j y' hy
  by_cases e:j=i
  ·subst e
   rw [List.getElem?_set_self hi] at hy;simp only [Option.some.injEq] at hy;subst hy
   exact ⟨_,hx,rfl,rfl,rfl,rfl,rfl⟩
  ·rw [List.getElem?_set_ne (Ne.symm e)] at hy;exact ⟨y',hy,rfl,rfl,rfl,rfl,rfl⟩
 have vE:∀ (j:Nat),(r.T.al.set i (⟨r.T.al[i].Kind,r.T.al[i].ah,r.T.al[i].To,r.T.al[i].Up,r.T.al[i].Kids,true⟩:aq))[j]?.map (fun x=>(x.ah,x.To,x.Kids))=r.T.al[j]?.map (fun x=>(x.ah,x.To,x.Kids)):=by
  intro j
  by_cases e:j=i
  ·subst e;rw [List.getElem?_set_self hi,hx];rfl
  ·rw [List.getElem?_set_ne (Ne.symm e)]
 have kz:∀ l:List aq,([]:List aq)++l=l:=fun l=>rfl
 unfold l7
 simp only [kz]
 rw [if_pos (by rw [List.length_nil];omega),if_pos (by omega),Int.toNat_natCast,hx]
 simp only [Option.bind_some]
 refine ⟨_,rfl,⟨h.ri.of rfl rfl,h.nl,h.g.same (List.length_set) gJ,fun j y' hy hj=>?_⟩,fun up=>⟨rfl,rfl,?_,?_,?_,fun v _ q=>q.kids hk⟩,List.length_set,fun j=>?_⟩
 ·obtain ⟨y,I,_,_,J,_⟩:=gJ j y' hy
  rw [J];exact h.b j y I hj
 ·show ((r.T.al.set i _).length:Int)≤_;rw [List.length_set];omega
 ·show _≤(r.T.al.set i _).length;rw [List.length_set];exact Nat.le_refl _
 ·show (r.D.length:Int)≤_;omega
 ·show M.endOf (r.T.al.set i _) j=_
  unfold M.endOf
  have:=vE j
  revert this
  cases r.T.al[j]? with
  | none=>
   intro this
   simp only [Option.map_none,Option.map_eq_none_iff] at this
   rw [this];rfl
  | some x=>
   intro this
   obtain ⟨y,hy,e⟩:=Option.map_eq_some_iff.1 this
   simp only [Prod.mk.injEq] at e
   obtain ⟨e1,aa,U⟩:=e
   rw [hy]
   simp only [Option.map_some,e1,U]
   congr 1
   cases x.Kids.getLast? with
   | none=>rfl
   | some k=>
    simp only
    split
    ·have:=vE k.toNat
     revert this
     cases r.T.al[k.toNat]? with
     | none=>intro this;simp only [Option.map_none,Option.map_eq_none_iff] at this;rw [this]
     | some z=>
      intro this
      obtain ⟨w,hw,e⟩:=Option.map_eq_some_iff.1 this
      simp only [Prod.mk.injEq] at e
      rw [hw];simp only [e.2.1]
    ·rfl
theorem s3 (F:Nat) (hF:2500≤F) {n:Int} {r:Rr} {p:Int} (h:Rd n r p) (hl:r.T.al.length≤2300) {up:Nat} (hs:Sp r.T.al up) {aH to:Int} (h0:0≤aH) (fg:aH<to) (ht:to≤n) (jX:p≤to) (he:∀ e,endOf r.T.al up=some e→e≤aH):
  ∃ r',l8 F r (up:Int) aH to=some ((r.T.al.length:Int),r')∧Rd n r' to∧To r r' up 2 0∧Sp r'.T.al r.T.al.length∧(to - aH<2→r'.T.al.length≤r.T.al.length+1):=by
 have hn:=h.nl
 have dc:=h.ri.n
 have ka:=hs.lt h.g
 obtain ⟨r1,a1,J,ad,ae,ay,ah,z,hz,nD,m3⟩:=iT F hF h (by omega) hs (kind:=6) (by omega) (Int.le_of_lt fg) ht jX he
 unfold l8
 rw [a1]
 simp only [Option.bind_some]
 have hw:af (to - aH)=to - aH:=aX (by omega) (by omega)
 rw [hw]
 by_cases c:to - aH<2
 ·rw [if_pos c]
  exact ⟨r1,rfl,J,ad.le (by omega) (by omega),ae,fun _=>by omega⟩
 rw [if_neg c]
 have aa:=ad.l
 have key:∀ (d m:Nat) (k i:Int),aH≤i→i≤to→(to - i).toNat≤d→d<m→(1≤k∧k≤11)→∃ k' i',correctorref11_Reader_Pair_l0 F r (up:Int) aH to m r1 (r.T.al.length:Int) k i=some (r1,(r.T.al.length:Int),k')∧(1≤k'∧k'≤11)∧i'=i:=by
  intro d
  induction d with
  | zero=>
   intro m k i h1 h2 ai aj ab
   obtain ⟨m,rfl⟩:∃ q,m=q+1:=⟨m - 1,by omega⟩
   rw [correctorref11_Reader_Pair_l0,if_neg (by omega)]
   exact ⟨k,i,rfl,ab,rfl⟩
  | succ d ih=>
   intro m k i h1 h2 ai aj ab
   obtain ⟨m,rfl⟩:∃ q,m=q+1:=⟨m - 1,by omega⟩
   rw [correctorref11_Reader_Pair_l0]
   by_cases c0:i<to
   case neg=>rw [if_neg c0];exact ⟨k,i,rfl,ab,rfl⟩
   have dq:i.toNat<r1.L.length:=by rw [aa];omega
   rw [if_pos c0,if_pos (by rw [aa];omega),List.getElem?_eq_getElem dq,w1 (by omega) (by omega)]
   simp only [Option.bind_some]
   split
   ·simp only [Option.bind_some]
    obtain ⟨k',i',U,I,_⟩:=ih m 8 (i+1) (by omega) (by omega) (by omega) (by omega) (by omega)
    exact ⟨k',i,U,I,rfl⟩
   ·simp only [Option.bind_some]
    obtain ⟨k',i',U,I,_⟩:=ih m k (i+1) (by omega) (by omega) (by omega) (by omega) ab
    exact ⟨k',i,U,I,rfl⟩
 obtain ⟨k',_,an,ao,_⟩:=key (to - aH).toNat F 7 aH (Int.le_refl _) (by omega) (Nat.le_refl _) (by omega) (by omega)
 rw [an]
 simp only [Option.bind_some]
 obtain ⟨j,aq,az,aA,_⟩:=oO F hF r1 J.ri.n (to - 1) (aH+1) (by omega) (by omega) (by rw [aa];omega)
 rw [jB (by omega) (by omega),w1 (by omega) (by omega),aq]
 simp only [Option.bind_some]
 obtain ⟨N',U,I⟩:=ub F hF r1 J.g (by omega) (up:=r.T.al.length) (by omega) ae (kind:=k') (aH:=aH) (to:=j) ao (by omega) (by omega) (fun e he=>by rw [rI hz m3 e he,nD];exact Int.le_refl _)
 rw [U]
 simp only [Option.bind_some]
 have jL:Rd n (⟨r1.L,⟨N'⟩,r1.D,r1.End⟩:Rr) to:=⟨J.ri.of rfl rfl,by show n=(r1.L.length:Int);rw [aa];exact hn,I.g,I.sJ _ J.b (by omega)⟩
 have hlen:N'.length=r.T.al.length+2:=by rw [I.len,ah]
 obtain ⟨ar,au,av,aw,aB,_⟩:=uz F jL (i:=r.T.al.length) (by show N'.length≤2500;omega) (by show r.T.al.length<N'.length;omega)
 rw [au]
 have ax:To r1 (⟨r1.L,⟨N'⟩,r1.D,r1.End⟩:Rr) r.T.al.length 1 0:=⟨rfl,rfl,by show (N'.length:Int)≤_;rw [I.len];omega,by show _≤N'.length;rw [I.len];omega,by show (r1.D.length:Int)≤_;omega,I.cF⟩
 have ag:=ax.trans (aw r.T.al.length) (Nat.le_refl _)
 exact ⟨ar,rfl,av,(ad.trans ag (by omega)).le (by omega) (by omega),ag.sp _ (Nat.le_refl _) ae,fun q=>absurd q c⟩
end Go.Proofs.Ytcilejikekccmaa.M
namespace Go.Proofs.Ytcilejikekccmaa.M
open Go Am Sy
abbrev Rec:=Rr→Int→Int→Int→Option (Int×Int×Rr)
def bg (k:Int):Prop:=k=12∨k=14∨k=15∨k=16∨k=17∨k=13∨k=8∨k=9∨k=18
def Vl (n:Int) (r:Rr) (up:Nat) (at_:Int) (node next:Int) (r':Rr):Prop:=
  (node= -1∧next=at_∧r'=r∧¬ bg (kd r at_))∨(0≤node∧at_<next∧next≤r.End∧Rd n r' next∧To r r' up (2 * (next - at_) - 1) (4 * (next - at_))∧Ct r.L next)
def VS (rec:Rec) (depth:Int):Prop:=
  ∀ (n:Int) (r:Rr) (up:Nat) (at_:Int),Rd n r (at_+1)→(∀ e,endOf r.T.al up=some e→e≤at_)→Sp r.T.al up→0≤at_→at_≤r.End→(r.T.al.length:Int)≤4 * at_+5→(r.D.length:Int)≤4 * at_+5→
    ∃ node next r',rec r (up:Int) at_ depth=some (node,next,r')∧Vl n r up at_ node next r'
theorem z7 (F:Nat) (hF:2500≤F) (rec:Rec) (depth:Int) (tE: -1000≤depth∧depth≤1000) (iS:VS rec (depth - 1)) {n:Int} {r:Rr} {i:Int} (h:Rd n r i) (h0:0≤i) (h2:i<r.End) {c:Nat} (hs:Sp r.T.al c) (hN:(r.T.al.length:Int)≤4 * i+4) (hd:(r.D.length:Int)≤4 * i+4) {q:Int} (hq:h8 F r i=some q) (hb:0<q∨bg (kd r i)):
    ∃ next r',gL F rec r (c:Int) i depth=some (next,r')∧i<next∧next≤r.End∧Rd n r' next∧To r r' c (2 * (next - i)) (4 * (next - i))∧Ct r.L next:=by
  have ax:=h.ri.e1
  have dc:=h.ri.n
  have hn:=h.nl
  have ka:=hs.lt h.g
  have pQ:af (depth - 1)=depth - 1:=aX (by omega) (by omega)
  have kB:=h.endOf h0 c (Int.le_refl i)
  obtain ⟨q',ae,au⟩:=uS F hF r h.ri i h0 (by omega)
  rw [hq] at ae;simp only [Option.some.injEq] at ae;subst ae
  unfold gL
  rw [hq]
  simp only [Option.bind_some]
  by_cases c0:0<q
  · rw [if_pos c0]
    have er:i<q∧q≤r.End:=by omega
    obtain ⟨r1,a1,I,j,ag,ao⟩:=s3 F hF h (by omega) hs h0 er.1 (by omega) (by omega) kB
    have av:=j.e
    have b8:=j.sz
    have fM:=j.dl
    obtain ⟨x,ah,ai,aj,_⟩:=m0 F hF r1 I.ri q (by omega) (by omega)
    rw [a1]
    simp only [Option.bind_some,ah,e2 F r1 I.ri x (by omega),pG,decide_eq_true_eq]
    have ve:To r r1 c (2 * (q - i)) (4 * (q - i)):=by
      refine ⟨j.l,j.e,?_,j.ge,by omega,j.sp⟩
      by_cases z:q - i<2
      · have:=ao z;omega
      · omega
    have stay:∃ next r',(some (q,r1):Option (Int×Rr))=some (next,r')∧i<next∧next≤r.End∧Rd n r' next∧To r r' c (2 * (next - i)) (4 * (next - i))∧Ct r.L next:=⟨q,r1,rfl,er.1,er.2,I,ve,by rcases au with z | z;omega;exact z.2.2⟩
    by_cases c1:kd r1 x=0
    · rw [if_pos c1];exact stay
    rw [if_neg c1]
    by_cases c2:kd r1 x=7
    · rw [if_pos c2];exact stay
    rw [if_neg c2]
    by_cases aq:kd r1 x=10∨kd r1 x=11
    · rw [if_pos aq];exact stay
    rw [if_neg aq,pQ]
    have iQ:=fz c1
    obtain ⟨node,next,ab,d1,d2⟩:=iS n r1 r.T.al.length x (I.mono (by omega)) (fun e he=>Int.le_trans (uG I.g I.b (by omega) _ e he) ai) ag (by omega) (by omega) (by omega) (by omega)
    rw [d1]
    simp only [Option.bind_some]
    rcases d2 with ⟨rfl,rfl,rfl,_⟩ | ⟨e1,ad,ar,J,U,aa⟩
    · rw [if_pos (by omega)];exact stay
    · rw [if_neg (by omega)]
      exact ⟨next,ab,rfl,by omega,by omega,J,(ve.trans U (by omega)).le (by omega) (by omega),by rw [← j.l];exact aa⟩
  · rw [if_neg c0]
    have mK:bg (kd r i):=by rcases hb with z | z;exact absurd z c0;exact z
    have c3:(c:Int)<r.T.al.length:=by omega
    rw [if_pos ⟨by omega,c3⟩,Int.toNat_natCast,List.getElem?_eq_getElem ka]
    simp only [Option.bind_some]
    by_cases c1:r.T.al[c].Kind=10
    · rw [if_pos c1,w1 h0 (by omega)]
      obtain ⟨r1,a1,I,j,ag,ao,ay,z,hz,nD,m3⟩:=iT F hF h (by omega) hs (kind:=6) (aH:=i) (to:=i+1) (by omega) (by omega) (by omega) (by omega) kB
      have b8:=j.sz
      obtain ⟨ab,ah,ai,aj,az,aw⟩:=uz F I (i:=r.T.al.length) (by omega) (by omega)
      have t12:=j.trans (aj c) (Nat.le_refl _)
      have nR:kd ab i=kd r i:=by unfold kd;rw [t12.l,t12.e]
      have fM:=t12.dl
      have av:=t12.e
      rw [a1]
      simp only [Option.bind_some,ah,pQ]
      obtain ⟨node,next,an,d1,d2⟩:=iS n ab r.T.al.length i ai (fun e he=>by rw [aw,] at he;rw [rI hz m3 e he,nD];exact Int.le_refl _) ((aj r.T.al.length).sp _ (Nat.le_refl _) ag) h0 (by omega) (by omega) (by omega)
      rw [d1]
      simp only [Option.bind_some]
      rcases d2 with ⟨_,_,_,e1⟩ | ⟨e1,ad,ar,J,U,aa⟩
      · rw [nR] at e1;exact absurd mK e1
      · exact ⟨next,an,rfl,ad,by omega,J,(t12.trans U (by omega)).le (by omega) (by omega),by rw [← t12.l];exact aa⟩
    · rw [if_neg c1]
      simp only [Option.bind_some,pQ]
      obtain ⟨node,next,an,d1,d2⟩:=iS n r c i (h.mono (by omega)) kB hs h0 (by omega) (by omega) (by omega)
      rw [d1]
      simp only [Option.bind_some]
      rcases d2 with ⟨_,_,_,e1⟩ | ⟨e1,ad,ar,J,U,aa⟩
      · exact absurd mK e1
      · exact ⟨next,an,rfl,ad,by omega,J,U.le (by omega) (by omega),aa⟩
theorem y5 {F:Nat} {k:Int} {b:Bool} (h:ja F k=some b) (hb:b=true):bg k:=by
  subst hb
  unfold ja at h
  unfold bg
  by_cases c1:k=12
  · omega
  by_cases c2:k=14
  · omega
  rw [if_neg c1,if_neg c2] at h
  unfold e7 at h
  by_cases d1:k=15
  · omega
  by_cases d2:k=16
  · omega
  by_cases d3:k=17
  · omega
  by_cases d4:k=13
  · omega
  rw [if_neg d1,if_neg d2,if_neg d3,if_neg d4] at h
  simp only [Option.bind_some,Bool.false_eq_true,if_false,ni,decide_eq_true_eq] at h
  by_cases e1:k=8∨k=9
  · omega
  rw [if_neg e1] at h
  by_cases j:k=18
  · omega
  rw [if_neg j] at h
  simp at h
theorem CG (F:Nat) (k:Int):∃ b,ja F k=some b:=by
  unfold ja
  obtain ⟨b,hb⟩:=oU F k
  rw [hb]
  simp only [Option.bind_some,ni]
  repeat' split
  all_goals exact ⟨_,rfl⟩
theorem Ao (F:Nat) (hF:2500≤F) (rec:Rec) (depth:Int) (aC: -1000≤depth∧depth≤1000) (iS:VS rec (depth - 1)) {n:Int} (a0:Rr) (op:Int) (c:Nat) (aD:0≤op):
    ∀ (d m:Nat) (r:Rr) (next dI:Int) (hv:Bool),(dI=10∨dI=11)→(r.End - next).toNat≤d→d<m→Rd n r next→op<next→next≤r.End→Sp r.T.al c→(r.T.al.length:Int)≤4 * next+4→(r.D.length:Int)≤4 * next+3→Ct r.L next→
    ∃ q r',correctorref11_Reader_collection_l0 F rec a0 (c:Int) op depth m r hv next dI=some (q,r')∧next≤q∧q≤r.End∧Rd n r' q∧To r r' c (2 * (q - next)) (4 * (q - next)+1)∧Ct r.L q:=by
  have stop:∀ (m:Nat) (r:Rr) (next dI:Int) (hv:Bool) (j:Int),Rd n r next→op<next→next≤r.End→(r.D.length:Int)≤4 * next+3→Ct r.L next→h4 F r next=some j→kd r j=0→next≤j→
      ∃ q r',correctorref11_Reader_collection_l0 F rec a0 (c:Int) op depth (m+1) r hv next dI=some (q,r')∧next≤q∧q≤r.End∧Rd n r' q∧To r r' c (2 * (q - next)) (4 * (q - next)+1)∧Ct r.L q:=by
    intro m r next dI hv j h h1 h2 hd hc hj hk E2
    have ax:=h.ri.e1
    have dc:=h.ri.n
    have qj:op.toNat<r.L.length:=by omega
    rw [correctorref11_Reader_collection_l0,hj]
    simp only [Option.bind_some,e2 F r h.ri j (by omega),hk,if_true]
    rw [if_pos (by omega),List.getElem?_eq_getElem qj]
    simp only [Option.bind_some]
    rw [if_pos (by omega)]
    rw [if_pos (by rw [List.length_singleton];omega),w1 aD (by omega)]
    obtain ⟨q,aE,aV,aW,aX,aF⟩:=oO F hF (⟨r.L,r.T,r.D++[(⟨9,r.L[op.toNat].ah,r.L[op.toNat].To⟩:aj)],r.End⟩:Rr) dc next (op+1) (by omega) (by omega) (by show next≤(r.L.length:Int);omega)
    have hq:q=next:=by
      rcases Int.lt_or_eq_of_le (show op+1≤next by omega) with z | z
      · exact aF z hc
      · omega
    subst hq
    rw [aE]
    simp only [Option.bind_some]
    refine ⟨q,_,rfl,Int.le_refl _,h2,⟨h.ri.of rfl rfl,h.nl,h.g,h.b⟩,⟨rfl,rfl,by show (r.T.al.length:Int)≤_;omega,Nat.le_refl _,?_,fun v _ z=>z⟩,hc⟩
    show ((r.D++_).length:Int)≤_
    rw [List.length_append,List.length_singleton];omega
  intro d
  induction d with
  | zero=>
    intro m r next dI hv vG hd hm h aq ar hs hN fM hc
    obtain ⟨m,rfl⟩:∃ k,m=k+1:=⟨m - 1,by omega⟩
    have ax:=h.ri.e1
    have dc:=h.ri.n
    obtain ⟨i,ao,J,aG,ay⟩:=m0 F hF r h.ri next (by omega) (by omega)
    exact stop m r next dI hv i h aq ar fM hc ao (h6 (by omega)) J
  | succ d ih=>
    intro m r next dI hv vG hd hm h aq ar hs hN fM hc
    obtain ⟨m,rfl⟩:∃ k,m=k+1:=⟨m - 1,by omega⟩
    have ax:=h.ri.e1
    have dc:=h.ri.n
    have j3:=h.nl
    have ka:=hs.lt h.g
    obtain ⟨i,ao,J,aG,ay⟩:=m0 F hF r h.ri next (by omega) (by omega)
    by_cases c0:kd r i=0
    · exact stop m r next dI hv i h aq ar fM hc ao c0 J
    have o7:=fz c0
    have gf:=ay c0
    have fN:0<kd r i:=by have:=xj h.ri i;omega
    have fq:Ct r.L (i+1):=Ct.of h.ri (by omega) rfl c0 gf
    have hi:=h.mono J
    have nX:=h.endOf (by omega) c J
    have hw:af (i+1)=i+1:=w1 (by omega) (by omega)
    rw [correctorref11_Reader_collection_l0,ao]
    simp only [Option.bind_some,e2 F r h.ri i (by omega),pG,decide_eq_true_eq,hw]
    rw [if_neg c0]
    have go:∀ (next':Int) (r1:Rr) (b:Bool),i<next'→next'≤r.End→Rd n r1 next'→To r r1 c (2 * (next' - i)) (4 * (next' - i))→Ct r.L next'→∃ q r',correctorref11_Reader_collection_l0 F rec a0 (c:Int) op depth m r1 b next' dI=some (q,r')∧next≤q∧q≤r.End∧Rd n r' q∧To r r' c (2 * (q - next)) (4 * (q - next)+1)∧Ct r.L q:=by
      intro next' r1 b au az av I aI
      have e1:=I.e
      have s1:=I.sz
      have s2:=I.dl
      obtain ⟨q,r',w1,w2,aY,aJ,aK,aL⟩:=ih m r1 next' dI b vG (by omega) (by omega) av (by omega) (by omega) (I.sp c (Nat.le_refl _) hs) (by omega) (by omega) (by rw [I.l];exact aI)
      exact ⟨q,r',w1,by omega,by omega,aJ,(I.trans aK (Nat.le_refl _)).le (by omega) (by omega),by rw [← I.l];exact aL⟩
    have pJ:∀ (j:Int) (b:Bool),i<j→j≤r.End→Ct r.L j→∃ q r',((dQ F r (c:Int) i j 8).bind fun aM=>correctorref11_Reader_collection_l0 F rec a0 (c:Int) op depth m aM.2 b j dI)=some (q,r')∧next≤q∧q≤r.End∧Rd n r' q∧To r r' c (2 * (q - next)) (4 * (q - next)+1)∧Ct r.L q:=by
      intro j b au az av
      obtain ⟨r1,U,aa,ab,_⟩:=nv F hF h (by omega) (by omega) hs (code:=8) (aH:=i) (to:=j) (by omega) au (by omega) (by omega) nX
      rw [U]
      simp only [Option.bind_some]
      exact go j r1 b au az aa (ab.le (by omega) (by omega)) av
    have te:∀ q:Int,h8 F r i=some q→(0<q∨bg (kd r i))→∃ q r',((gL F rec r (c:Int) i depth).bind fun ad=>correctorref11_Reader_collection_l0 F rec a0 (c:Int) op depth m ad.2 true ad.1 dI)=some (q,r')∧next≤q∧q≤r.End∧Rd n r' q∧To r r' c (2 * (q - next)) (4 * (q - next)+1)∧Ct r.L q:=by
      intro q hq hb
      obtain ⟨nx,r1,U,aa,ab,aw,aN,aO⟩:=z7 F hF rec depth aC iS hi (by omega) o7 hs (by omega) (by omega) hq hb
      rw [U]
      simp only [Option.bind_some]
      exact go nx r1 true aa ab aw aN aO
    have E3:∀ {α:Type} (f:cT→Option α) (P:α→Prop),(∀ t',Rd n (⟨r.L,t',r.D,r.End⟩:Rr) (i+1)→To r (⟨r.L,t',r.D,r.End⟩:Rr) c 0 0→∃ a,f t'=some a∧P a)→∃ a,((ij F r.T (c:Int) (i+1)).bind f)=some a∧P a:=by
      intro α f P hf
      obtain ⟨t',ae,ag,ai⟩:=pK F hF h (by omega) hs (to:=i+1) (by omega) (by omega)
      rw [ae]
      exact hf t' ag (ai c)
    by_cases c1:kd r i=dI
    · rw [if_pos c1]
      obtain ⟨t',ae,ag,ai⟩:=pK F hF h (by omega) hs (to:=i+1) (by omega) (by omega)
      rw [ae]
      simp only [Option.bind_some]
      exact ⟨i+1,_,rfl,by omega,by omega,ag,(ai c).le (by omega) (by omega),fq⟩
    rw [if_neg c1]
    by_cases c2:kd r i=10∨kd r i=11
    · rw [if_pos c2]
      exact pJ (i+1) hv (by omega) (by omega) fq
    rw [if_neg c2]
    obtain ⟨kq,rE,_⟩:=uS F hF r h.ri i (by omega) (by omega)
    obtain ⟨bb,j4⟩:=CG F (kd r i)
    have tail:kd r i≠7→∃ q r',(if hv=true then
         (jG F r i).bind fun aA=>
         (dQ F r (c:Int) i aA 8).bind fun aP=>
         correctorref11_Reader_collection_l0 F rec a0 (c:Int) op depth m aP.2 hv aA dI
        else
         (h8 F r i).bind fun aR=>
         if (0:Int)<aR then
          (gL F rec r (c:Int) i depth).bind fun ad=>
          correctorref11_Reader_collection_l0 F rec a0 (c:Int) op depth m ad.2 true ad.1 dI
         else
          (ja F (kd r i)).bind fun aT=>
          if aT=true then
           (gL F rec r (c:Int) i depth).bind fun aB=>
           correctorref11_Reader_collection_l0 F rec a0 (c:Int) op depth m aB.2 true aB.1 dI
          else
           (dQ F r (c:Int) i (i+1) 8).bind fun aU=>
           correctorref11_Reader_collection_l0 F rec a0 (c:Int) op depth m aU.2 hv (i+1) dI)=some (q,r')∧next≤q∧q≤r.End∧Rd n r' q∧To r r' c (2 * (q - next)) (4 * (q - next)+1)∧Ct r.L q:=by
      intro an
      cases hv with
      | true=>
        simp only [if_true]
        obtain ⟨j,U,aa,ab,aw⟩:=BF F hF r h.ri i (by omega) fN gf an c2
        rw [U]
        simp only [Option.bind_some]
        exact pJ j true aa ab aw
      | false=>
        simp only [Bool.false_eq_true,if_false,rE,Option.bind_some]
        by_cases k0:0<kq
        · rw [if_pos k0];exact te kq rE (.inl k0)
        rw [if_neg k0,j4]
        simp only [Option.bind_some]
        by_cases b0:bb=true
        · rw [if_pos b0];exact te kq rE (.inr (y5 j4 b0))
        · rw [if_neg b0];exact pJ (i+1) false (by omega) (by omega) fq
    by_cases an:kd r i=7
    · simp only [if_pos an]
      cases hv with
      | true=>
        simp only [if_true]
        obtain ⟨t',ae,ag,ai⟩:=pK F hF h (by omega) hs (to:=i+1) (by omega) (by omega)
        rw [ae]
        simp only [Option.bind_some]
        exact go (i+1) _ false (by omega) (by omega) ag ((ai c).le (by omega) (by omega)) fq
      | false=>
        simp only [Bool.false_eq_true,if_false]
        exact pJ (i+1) false (by omega) (by omega) fq
    · simp only [if_neg an]
      exact tail an
end Go.Proofs.Ytcilejikekccmaa.M
namespace Go.Proofs.Ytcilejikekccmaa.M
open Go Am Sy
theorem AM (F:Nat) (hF:2500≤F) (rec:Rec) (depth:Int) (j: -1000≤depth∧depth≤1000) (iS:VS rec (depth - 1)) {n:Int} {r:Rr} {op:Int} (h:Rd n r (op+1)) (h0:0≤op) (h1:op<r.End) (hk:kd r op=8∨kd r op=9) {c:Nat} (hs:Sp r.T.al c) (hN:(r.T.al.length:Int)≤4 * op+8) (hd:(r.D.length:Int)≤4 * op+7):
  ∃ q r',lX F rec r (c:Int) op depth=some (q,r')∧op<q∧q≤r.End∧Rd n r' q∧To r r' c (2 * (q - (op+1))) (4 * (q - (op+1))+1)∧Ct r.L q:=by
 have ad:=h.ri.e1
 have dc:=h.ri.n
 have qj:op.toNat<r.L.length:=by omega
 have pO:Ct r.L (op+1):=by rcases hk with z | z<;>exact Ct.of h.ri h0 z (by decide) rfl
 have main:∀ dI:Int,(dI=10∨dI=11)→∃ q r',((correctorref11_Reader_collection_l0 F rec r (c:Int) op depth F r false (af (op+1)) dI).bind fun o=>match o with
   | y=>some y)=some (q,r')∧op<q∧q≤r.End∧Rd n r' q∧To r r' c (2 * (q - (op+1))) (4 * (q - (op+1))+1)∧Ct r.L q:=by
  intro dI hm
  obtain ⟨q,r',I,ae,J,U,aa,ab⟩:=Ao F hF rec depth j iS r op c h0 (r.End - (op+1)).toNat F r (op+1) dI false hm (Nat.le_refl _) (by omega) h (by omega) (by omega) hs (by omega) (by omega) pO
  rw [w1 h0 (by omega),I]
  exact ⟨q,r',rfl,by omega,J,U,aa,ab⟩
 unfold lX
 rw [if_pos (by omega),List.getElem?_eq_getElem qj]
 simp only [Option.bind_some]
 split
 ·simp only [Option.bind_some];exact main 11 (.inr rfl)
 ·simp only [Option.bind_some];exact main 10 (.inl rfl)
theorem sw (F:Nat) (hF:2500≤F) (rec:Rec) (depth:Int) (aw: -1000≤depth∧depth≤1000) (iS:0<depth→VS rec (depth - 1)):VS (n4 F rec) depth:=by
 intro n r up at_ h kB hs h0 eT hN hd
 have aR:=h.ri.e1
 have dc:=h.ri.n
 have j3:=h.nl
 have ka:=hs.lt h.g
 obtain ⟨i0,ax,ay,aT,az⟩:=tp F hF r h.ri at_ h0 (by omega)
 have key:∀ (d m:Nat) (i first last:Int),i0≤i→i≤1600→(r.End - i).toNat≤d→d<m→((first= -1∧i=i0)∨(first=i0∧i0≤last∧last<r.End∧Ct r.L (last+1)))→
   ∃ i' fx iH,correctorref11_Reader_Value_l0 F rec r (up:Int) at_ depth m i first last=some (i',fx,iH)∧i0≤i'∧i'≤1600∧((fx= -1∧i'=i0∧kd r i0≠12∧kd r i0≠14)∨(fx=i0∧i0≤iH∧iH<r.End∧Ct r.L (iH+1))):=by
  intro d
  induction d with
  | zero=>
   intro m i first last hi ae tE hm hl
   obtain ⟨m,rfl⟩:∃ k,m=k+1:=⟨m - 1,by omega⟩
   have aa:=e2 F r h.ri i (by omega)
   rw [h6 (by omega)] at aa
   rw [correctorref11_Reader_Value_l0]
   simp only [aa,Option.bind_some]
   refine ⟨i,first,last,rfl,hi,ae,?_⟩
   rcases hl with ⟨U,rfl⟩ | z
   ·exact .inl ⟨U,rfl,by rw [h6 (by omega)];decide,by rw [h6 (by omega)];decide⟩
   ·exact .inr z
  | succ d ih=>
   intro m i first last hi ae tE hm hl
   obtain ⟨m,rfl⟩:∃ k,m=k+1:=⟨m - 1,by omega⟩
   have aa:=e2 F r h.ri i (by omega)
   have mJ:(if first<(0:Int) then (some i:Option Int) else some first)=some i0:=by
    rcases hl with ⟨rfl,rfl⟩ | ⟨rfl,_⟩
    ·rfl
    ·rw [if_neg (by omega)]
   have go:(kd r i=12∨kd r i=14)→∃ i' fx iH,(((if first<(0:Int) then (some i:Option Int) else some first).bind fun o=>match o with
     | aA=>(kn F r (af (i+1))).bind fun aB=>
     correctorref11_Reader_Value_l0 F rec r (up:Int) at_ depth m aB aA i):Option (Int×Int×Int))=some (i',fx,iH)∧i0≤i'∧i'≤1600∧((fx= -1∧i'=i0∧kd r i0≠12∧kd r i0≠14)∨(fx=i0∧i0≤iH∧iH<r.End∧Ct r.L (iH+1))):=by
    intro c
    have eO:=fz (r:=r) (i:=i) (by omega)
    obtain ⟨j,aC,aU,aV,_⟩:=tp F hF r h.ri (i+1) (by omega) (by omega)
    rw [mJ,w1 (by omega) (by omega),aC]
    simp only [Option.bind_some]
    exact ih m j i0 i (by omega) (by omega) (by omega) (by omega) (.inr ⟨rfl,hi,eO,by rcases c with c | c<;>exact Ct.of h.ri (by omega) c (by decide) rfl⟩)
   rw [correctorref11_Reader_Value_l0]
   simp only [aa,Option.bind_some]
   by_cases c:kd r i=12
   ·simp only [if_pos c,Option.bind_some];exact go (.inl c)
   rw [if_neg c]
   by_cases c':kd r i=14
   ·simp only [if_pos c',Option.bind_some];exact go (.inr c')
   simp only [if_neg c',Option.bind_some]
   refine ⟨i,first,last,rfl,hi,ae,?_⟩
   rcases hl with ⟨U,rfl⟩ | z
   ·exact .inl ⟨U,rfl,c,c'⟩
   ·exact .inr z
 obtain ⟨i,first,last,aD,aW,aX,ao⟩:=key (r.End - i0).toNat F i0 (-1) 0 (Int.le_refl _) (by omega) (Nat.le_refl _) (by omega) (.inl ⟨rfl,rfl⟩)
 have rp:(if (0:Int)≤first then (some first:Option Int) else some i)=some i0:=by
  rcases ao with ⟨rfl,rfl,_⟩ | ⟨rfl,_⟩
  ·rfl
  ·rw [if_pos (by omega)]
 unfold n4
 rw [ax]
 simp only [Option.bind_some,aD,rp,e2 F r h.ri i (by omega),ni,decide_eq_true_eq]
 have nX:∀ e,endOf r.T.al up=some e→e≤i0:=fun e he=>Int.le_trans (kB e he) ay
 have put:∀ (kind to:Int),(1≤kind∧kind≤11)→i0<to→to≤r.End→Ct r.L to→∃ node next r',((ek F r (up:Int) kind i0 to).bind fun aq=>some (aq.1,to,aq.2))=some (node,next,r')∧Vl n r up at_ node next r':=by
  intro kind to U aE ag ab
  obtain ⟨r1,a1,ah,I,_⟩:=iT F hF h (by omega) hs (kind:=kind) (aH:=i0) (to:=to) U (by omega) (by omega) (by omega) nX
  rw [a1]
  exact ⟨_,to,r1,rfl, .inr ⟨by omega,by omega,ag,ah,I.le (by omega) (by omega),ab⟩⟩
 have eO:kd r i≠0→af (i+1)=i+1∧i+1≤r.End∧i0<i+1:=fun q=>by
  have:=fz q
  exact ⟨w1 (by omega) (by omega),by omega,by omega⟩
 by_cases ad:kd r i=13
 ·rw [if_pos ad]
  obtain ⟨w0,w2,ai⟩:=eO (by omega)
  rw [w0]
  exact put 8 (i+1) (by omega) ai w2 (Ct.of h.ri (by omega) ad (by decide) rfl)
 rw [if_neg ad]
 obtain ⟨b,hb⟩:=oU F (kd r i)
 rw [hb]
 simp only [Option.bind_some]
 have m2:b=true→kd r i=15∨kd r i=16∨kd r i=17:=by
  rintro rfl
  unfold e7 at hb
  by_cases d1:kd r i=15
  ·exact .inl d1
  by_cases d2:kd r i=16
  ·exact .inr (.inl d2)
  by_cases d3:kd r i=17
  ·exact .inr (.inr d3)
  rw [if_neg d1,if_neg d2,if_neg d3,if_neg ad] at hb
  simp at hb
 by_cases cb:b=true
 ·rw [if_pos cb]
  have hk:=m2 cb
  obtain ⟨w0,w2,ai⟩:=eO (by omega)
  rw [w0]
  exact put 7 (i+1) (by omega) ai w2 (by rcases hk with z | z | z<;>exact Ct.of h.ri (by omega) z (by decide) rfl)
 rw [if_neg cb]
 by_cases aj:kd r i=18
 ·rw [if_pos aj]
  have o7:=fz (r:=r) (i:=i) (by omega)
  obtain ⟨j,t1,t2,t3,t4⟩:=zV F hF r h.ri i (by omega) o7 (Ct.of h.ri (by omega) aj (by decide) rfl)
  rw [t1]
  simp only [Option.bind_some]
  exact put 7 j (by omega) (by omega) t3 t4
 rw [if_neg aj]
 by_cases J:kd r i=8∨kd r i=9
 ·have o7:=fz (r:=r) (i:=i) (by omega)
  by_cases ar:depth≤0
  ·rw [if_pos J,if_pos ar]
   simp only [Option.bind_some,if_true]
   obtain ⟨j,t1,t2,t3,t4⟩:=balanced_ex F hF r h.ri i (by omega) J
   rw [t1]
   simp only [Option.bind_some]
   obtain ⟨r1,aF,aG,aI,_⟩:=nv F hF h (by omega) (by omega) hs (code:=10) (aH:=i0) (to:=j) (by omega) (by omega) (by omega) (by omega) nX
   rw [aF]
   exact ⟨_,_,_,rfl, .inr ⟨by omega,by omega,t3,aG,aI.le (by omega) (by omega),t4⟩⟩
  ·rw [if_pos J,if_neg ar]
   simp only [Option.bind_some,Bool.false_eq_true,if_false,if_pos J]
   have main:∀ kind:Int,(1≤kind∧kind≤11)→∃ node next r',((ek F r (up:Int) kind i0 (af (i+1))).bind fun an=>
     (lX F rec an.2 an.1 i depth).bind fun au=>some (an.1,au.1,au.2))=some (node,next,r')∧Vl n r up at_ node next r':=by
    intro kind nc
    obtain ⟨r1,a1,ah,I,aJ,aK,aY,_⟩:=iT F hF h (by omega) hs (kind:=kind) (aH:=i0) (to:=i+1) nc (by omega) (by omega) (by omega) nX
    have nR:kd r1 i=kd r i:=by unfold kd;rw [I.l,I.e]
    have aZ:=I.e
    obtain ⟨q,aL,aM,a0,a2,aN,aO,aP⟩:=AM F hF rec depth aw (iS (by omega)) ah (by omega) (by omega) (by rw [nR];exact J) aJ (by omega) (by rw [aK];omega)
    rw [w1 (by omega) (by omega),a1]
    simp only [Option.bind_some,aM]
    exact ⟨_,q,aL,rfl, .inr ⟨by omega,by omega,by omega,aN,(I.trans aO (by omega)).le (by omega) (by omega),by rw [← I.l];exact aP⟩⟩
   by_cases av:kd r i=9
   ·rw [if_pos av];simp only [Option.bind_some];exact main 10 (by omega)
   ·rw [if_neg av];simp only [Option.bind_some];exact main 9 (by omega)
 ·simp only [if_neg J,Option.bind_some,Bool.false_eq_true,if_false]
  rcases ao with ⟨rfl,rfl,ag,ab⟩ | ⟨rfl,aE,ag,ab⟩
  ·rw [if_neg (by omega)]
   refine ⟨_,_,_,rfl, .inl ⟨rfl,rfl,rfl,fun mK=>?_⟩⟩
   have bY:kd r at_≠0∧kd r at_≠3:=by unfold bg at mK;omega
   have e:=az bY.1 bY.2
   subst e
   unfold bg at mK
   have a3:¬ (kd r i=15∨kd r i=16∨kd r i=17):=fun q=>by
    unfold e7 at hb
    rcases q with q | q | q<;>rw [q] at hb<;>simp at hb<;>exact cb hb
   omega
  ·rw [if_pos (by omega),w1 (by omega) (by omega)]
   exact put 7 (last+1) (by omega) (by omega) (by omega) ab
theorem wE (F:Nat) (hF:2500≤F):∀ (j:Nat) (k:Nat) (depth:Int), -1000≤depth→depth≤j→j≤1000→j+1≤k→VS (pH F k) depth:=by
 intro j
 induction j with
 | zero=>
  intro k depth h0 h1 h2 I
  obtain ⟨k,rfl⟩:∃ m,k=m+1:=⟨k - 1,by omega⟩
  exact sw F hF _ depth (by omega) (fun q=>by omega)
 | succ j ih=>
  intro k depth h0 h1 h2 I
  obtain ⟨k,rfl⟩:∃ m,k=m+1:=⟨k - 1,by omega⟩
  exact sw F hF _ depth (by omega) (fun q=>ih k (depth - 1) (by omega) (by omega) (by omega) (by omega))
theorem vQ (F:Nat) (hF:2500≤F) (depth:Int) (h0: -500≤depth) (h1:depth≤100):VS (qX F) depth:=wE F hF 100 F depth (by omega) (by omega) (by omega) (by omega)
end Go.Proofs.Ytcilejikekccmaa.M
namespace Go.Proofs.Ytcilejikekccmaa.M
open Go Am Sy
abbrev Pp:=aT
def Tl:Int→List an→Prop
 | _,[]=>True
 | f,r::rs=>r.ah=f∧Tl r.To rs
structure RO (L:List ak) (rs:List an):Prop where
 l5:∀ r∈rs,0≤r.ah∧r.ah<r.To∧r.To≤L.length
 tF:∀ x:Int,0≤x→x<L.length→∃ (i:Nat) (r:an),rs[i]?=some r∧x<r.To
 ji:∀ r∈rs,(r.Kind=4∨r.Kind=5)→∃ (i:Int) (t:ak),r.ah≤i∧i<r.To∧L[i.toNat]?=some t∧cn t.Kind=true
 len:rs.length≤450
 tl:Tl 0 rs
def FI (L:List ak) (aH to a:Int):Prop:=aH≤a∧a≤to∧(∀ (i:Int) (t:ak),aH≤i→i<a→L[i.toNat]?=some t→cn t.Kind=false)∧(a<to→∃ t,L[a.toNat]?=some t∧cn t.Kind=true)
theorem FI.eq {L:List ak} {aH to a b:Int} (h:FI L aH to a) (k:FI L aH to b):a=b:=by
 obtain ⟨h1,h2,J,U⟩:=h
 obtain ⟨aa,ae,ab,ad⟩:=k
 rcases Int.lt_trichotomy a b with z | z | z
 ·obtain ⟨t,I,j⟩:=U (by omega)
  rw [ab a t h1 z I] at j;cases j
 ·exact z
 ·obtain ⟨t,I,j⟩:=ad (by omega)
  rw [J b t aa z I] at j;cases j
theorem jK (F:Nat) (hF:2500≤F) (p:Pp) (hn:p.R.L.length≤450) (aH to:Int) (h0:0≤aH) (h1:aH≤to) (h2:to≤p.R.L.length):
  ∃ a b,gK F p aH to=some (a,b)∧FI p.R.L aH to a∧a≤b∧b≤to∧(a<to→a<b)∧(∀ (i:Int) (t:ak),b≤i→i<to→p.R.L[i.toNat]?=some t→cn t.Kind=false):=by
 have key:∀ (d m:Nat) (x:Int),aH≤x→x≤to→(to - x).toNat≤d→d<m→(∀ (i:Int) (t:ak),aH≤i→i<x→p.R.L[i.toNat]?=some t→cn t.Kind=false)→∃ a,correctorref12_parser_counting_l0 F p aH to m x=some a∧FI p.R.L aH to a:=by
  intro d
  induction d with
  | zero=>
   intro m x hx j hd hm hq
   obtain ⟨m,rfl⟩:∃ k,m=k+1:=⟨m - 1,by omega⟩
   rw [correctorref12_parser_counting_l0,if_neg (by omega)]
   exact ⟨x,rfl,hx,j,hq,fun q=>by omega⟩
  | succ d ih=>
   intro m x hx j hd hm hq
   obtain ⟨m,rfl⟩:∃ k,m=k+1:=⟨m - 1,by omega⟩
   rw [correctorref12_parser_counting_l0]
   by_cases c:x<to
   case neg=>rw [if_neg c];exact ⟨x,rfl,hx,j,hq,fun q=>absurd q c⟩
   have hl:x.toNat<p.R.L.length:=by omega
   rw [if_pos c,if_pos (by omega),List.getElem?_eq_getElem hl]
   simp only [Option.bind_some,kM]
   by_cases c1:cn p.R.L[x.toNat].Kind=true
   ·rw [if_pos c1];exact ⟨x,rfl,hx,j,hq,fun _=>⟨_,List.getElem?_eq_getElem hl,c1⟩⟩
   ·rw [if_neg c1,w1 (by omega) (by omega)]
    refine ih m (x+1) (by omega) (by omega) (by omega) (by omega) (fun i t I U J=>?_)
    rcases Int.lt_or_eq_of_le (show i≤x by omega) with z | z
    ·exact hq i t I z J
    ·subst z
     rw [List.getElem?_eq_getElem hl] at J
     simp only [Option.some.injEq] at J
     subst J;simpa using c1
 obtain ⟨a,a1,aa⟩:=key (to - aH).toNat F aH (Int.le_refl _) h1 (Nat.le_refl _) (by omega) (fun i t I U=>by omega)
 have ab:∀ (d m:Nat) (x:Int),a≤x→x≤to→(x - a).toNat≤d→d<m→(a<to→a<x)→(∀ (i:Int) (t:ak),x≤i→i<to→p.R.L[i.toNat]?=some t→cn t.Kind=false)→∃ b,correctorref12_parser_counting_l1 F p aH to m a x=some (a,b)∧a≤b∧b≤to∧(a<to→a<b)∧(∀ (i:Int) (t:ak),b≤i→i<to→p.R.L[i.toNat]?=some t→cn t.Kind=false):=by
  intro d
  induction d with
  | zero=>
   intro m x hx j hd hm hq hz
   obtain ⟨m,rfl⟩:∃ k,m=k+1:=⟨m - 1,by omega⟩
   rw [correctorref12_parser_counting_l1,if_neg (by omega)]
   exact ⟨x,rfl,hx,j,hq,hz⟩
  | succ d ih=>
   intro m x hx j hd hm hq hz
   obtain ⟨m,rfl⟩:∃ k,m=k+1:=⟨m - 1,by omega⟩
   rw [correctorref12_parser_counting_l1]
   by_cases c:a<x
   case neg=>rw [if_neg c];exact ⟨x,rfl,hx,j,hq,hz⟩
   have ha:=aa.1
   have hl:(x - 1).toNat<p.R.L.length:=by omega
   rw [if_pos c,jB (by omega) (by omega),if_pos (by omega),List.getElem?_eq_getElem hl]
   simp only [Option.bind_some,kM]
   by_cases c1:cn p.R.L[(x - 1).toNat].Kind=true
   ·rw [if_pos c1];exact ⟨x,rfl,hx,j,hq,hz⟩
   ·rw [if_neg c1]
    refine ih m (x - 1) (by omega) (by omega) (by omega) (by omega) (fun q=>?_) (fun i t I U J=>?_)
    rotate_left
    ·rcases Int.lt_or_eq_of_le I with z | z
     ·exact hz i t (by omega) U J
     ·subst z
      rw [List.getElem?_eq_getElem hl] at J
      simp only [Option.some.injEq] at J
      subst J;simpa using c1
    rcases Int.lt_or_eq_of_le (show a≤x - 1 by omega) with z | z
    ·exact z
    ·obtain ⟨t,I,U⟩:=aa.2.2.2 q
     rw [z,List.getElem?_eq_getElem hl] at I
     simp only [Option.some.injEq] at I
     subst I;exact absurd U c1
 obtain ⟨b,ad,ae⟩:=ab (to - a).toNat F to aa.2.1 (Int.le_refl _) (Nat.le_refl _) (by have:=aa.1;omega) (fun q=>q) (fun i t I U=>by omega)
 unfold gK
 rw [a1]
 simp only [Option.bind_some,ad]
 exact ⟨a,b,rfl,aa,ae⟩
theorem xX (F:Nat) (hF:2500≤F) (p:Pp) (hn:p.R.L.length≤450) (aH:Int) (h0:0≤aH) (h1:aH≤p.R.L.length):∃ e,mh F p aH=some e∧aH≤e∧e≤p.R.L.length:=by
 have key:∀ (d m:Nat) (x:Int),aH≤x→x≤p.R.L.length→((p.R.L.length:Int) - x).toNat≤d→d<m→∃ e,kj F p aH m x=some e∧aH≤e∧e≤p.R.L.length:=by
  intro d
  induction d with
  | zero=>
   intro m x hx j hd hm
   obtain ⟨m,rfl⟩:∃ k,m=k+1:=⟨m - 1,by omega⟩
   rw [kj,if_neg (by omega)]
   exact ⟨x,rfl,hx,j⟩
  | succ d ih=>
   intro m x hx j hd hm
   obtain ⟨m,rfl⟩:∃ k,m=k+1:=⟨m - 1,by omega⟩
   rw [kj]
   by_cases c:x<(p.R.L.length:Int)
   case neg=>rw [if_neg c];exact ⟨x,rfl,hx,j⟩
   have hl:x.toNat<p.R.L.length:=by omega
   have hb:0≤x∧x<(p.R.L.length:Int):=by omega
   simp only [if_pos c,if_pos hb,List.getElem?_eq_getElem hl,Option.bind_some]
   split
   ·exact ⟨x,rfl,hx,j⟩
   split
   ·exact ⟨x,rfl,hx,j⟩
   rw [w1 (by omega) (by omega)]
   exact ih m (x+1) (by omega) (by omega) (by omega) (by omega)
 unfold mh
 obtain ⟨e,I,J⟩:=key ((p.R.L.length:Int) - aH).toNat F aH (Int.le_refl _) h1 (Nat.le_refl _) (by omega)
 exact ⟨e,by rw [I];rfl,J⟩
structure Sm (p p':Pp):Prop where
 rows:p'.Rows=p.Rows
 doc:p'.Doc=p.Doc
 root:p'.aA=p.aA
 s:p'.S=p.S
 dep:p'.ax=p.ax
theorem ux (F:Nat) (hF:2500≤F) {n:Int} {p:Pp} {next:Int} (h:Rd n p.R next) (hr:RO p.R.L p.Rows) (h0:0≤next) (h1:next≤n) (no:Bool) (bY:no=true→next<n) (dJ:no=false→0<next) {up:Nat} (hs:Sp p.R.T.al up) (hN:p.R.T.al.length≤2300) (hd:p.R.D.length≤90000):
  ∃ p',lr F p (up:Int) next no=some p'∧Sm p p'∧next≤p'.Read∧p'.Read≤n∧(no=true→next<p'.Read)∧Rd n p'.R p'.Read∧To p.R p'.R up (p'.Read - next) (p'.Read - next):=by
 have hn:=h.nl
 have dc:=h.ri.n
 have hlen:=hr.len
 have hex:∃ (k:Nat) (r:an),p.Rows[k]?=some r∧next≤r.To∧(no=true→next<r.To):=by
  cases no with
  | true=>obtain ⟨k,r,U,ab⟩:=hr.tF next h0 (by have:=bY rfl;omega);exact ⟨k,r,U,by omega,fun _=>ab⟩
  | false=>obtain ⟨k,r,U,ab⟩:=hr.tF (next - 1) (by have:=dJ rfl;omega) (by omega);exact ⟨k,r,U,by omega,fun q=>by cases q⟩
 obtain ⟨k,rk,aa,ae,ad⟩:=hex
 have lR:k<p.Rows.length:=by
  rcases Nat.lt_or_ge k p.Rows.length with q | q
  ·exact q
  ·rw [List.getElem?_eq_none q] at aa;cases aa
 have key:∀ (d m i:Nat),i+d=k→d<m→∃ (j:Nat) (r:an),jP F p (up:Int) next no m (i:Int)=some (j:Int)∧p.Rows[j]?=some r∧next≤r.To∧(no=true→next<r.To):=by
  intro d
  induction d with
  | zero=>
   intro m i hi hm
   obtain ⟨m,rfl⟩:∃ q,m=q+1:=⟨m - 1,by omega⟩
   have:i=k:=by omega
   subst this
   rw [jP]
   have hb:0≤(i:Int)∧(i:Int)<(p.Rows.length:Int):=by omega
   simp only [if_pos hb,Int.toNat_natCast,aa,Option.bind_some]
   rw [if_neg (by omega)]
   by_cases I:no=true
   ·rw [if_pos I,if_neg (by have:=ad I;omega)]
    exact ⟨i,rk,rfl,aa,ae,ad⟩
   ·rw [if_neg I]
    exact ⟨i,rk,rfl,aa,ae,ad⟩
  | succ d ih=>
   intro m i hi hm
   obtain ⟨m,rfl⟩:∃ q,m=q+1:=⟨m - 1,by omega⟩
   have dq:i<p.Rows.length:=by omega
   rw [jP]
   have hb:0≤(i:Int)∧(i:Int)<(p.Rows.length:Int):=by omega
   have hw:af ((i:Int)+1)=((i+1:Nat):Int):=by rw [aX (by omega) (by omega)];omega
   simp only [if_pos hb,Int.toNat_natCast,List.getElem?_eq_getElem dq,Option.bind_some,hw]
   have stay:next≤p.Rows[i].To→(no=true→next<p.Rows[i].To)→∃ (j:Nat) (r:an),(some (i:Int):Option Int)=some (j:Int)∧p.Rows[j]?=some r∧next≤r.To∧(no=true→next<r.To):=fun U ab=>⟨i,_,rfl,List.getElem?_eq_getElem dq,U,ab⟩
   by_cases c:p.Rows[i].To<next
   ·rw [if_pos c];exact ih m (i+1) (by omega) (by omega)
   rw [if_neg c]
   by_cases I:no=true
   ·rw [if_pos I]
    by_cases c2:p.Rows[i].To=next
    ·rw [if_pos c2];exact ih m (i+1) (by omega) (by omega)
    ·rw [if_neg c2];exact stay (by omega) (fun _=>by omega)
   ·rw [if_neg I]
    exact stay (by omega) (fun q=>absurd q I)
 obtain ⟨j,r,ag,J,ah,ai⟩:=key k F 0 (by omega) (by omega)
 have hj:j<p.Rows.length:=by
  rcases Nat.lt_or_ge j p.Rows.length with q | q
  ·exact q
  ·rw [List.getElem?_eq_none q] at J;cases J
 have sM:=hr.l5 r (List.mem_of_getElem? J)
 obtain ⟨a,b,a1,aj,av,ao,aw,_⟩:=jK F hF p dc next r.To h0 ah (by omega)
 unfold lr
 rw [show ((0:Nat):Int)=0 from rfl] at ag
 rw [ag]
 simp only [Option.bind_some]
 rw [if_pos (by omega),Int.toNat_natCast,J]
 simp only [Option.bind_some,a1]
 by_cases c:a<b
 ·have ha:=aj.1
  obtain ⟨r1,aq,ar,au,_⟩:=nv F hF h (by omega) (by omega) hs (code:=8) (aH:=a) (to:=b) (by omega) c (by omega) (by omega) (h.endOf h0 up ha)
  rw [if_pos c,aq]
  simp only [Option.bind_some]
  rw [if_pos (by omega)]
  simp only [J,Option.bind_some]
  exact ⟨_,rfl,⟨rfl,rfl,rfl,rfl,rfl⟩,by show next≤r.To;omega,by show r.To≤n;omega,ai,ar.mono ao,au.le (by show (1:Int)≤r.To - next;omega) (by show (1:Int)≤r.To - next;omega)⟩
 ·rw [if_neg c]
  simp only [Option.bind_some]
  rw [if_pos (by omega)]
  simp only [J,Option.bind_some]
  exact ⟨_,rfl,⟨rfl,rfl,rfl,rfl,rfl⟩,by show next≤r.To;omega,by show r.To≤n;omega,ai,h.mono ah,(To.refl p.R up).le (by show (0:Int)≤r.To - next;omega) (by show (0:Int)≤r.To - next;omega)⟩
structure yH (p p':Pp) (up:Nat) (s m:Int):Prop where
 l:p'.R.L=p.R.L
 sz:(p'.R.T.al.length:Int)≤p.R.T.al.length+s
 dl:(p'.R.D.length:Int)≤p.R.D.length+m
 sp:∀ v,v≤up→Sp p.R.T.al v→Sp p'.R.T.al v
theorem wq (F:Nat) (hF:2500≤F) {n:Int} {p:Pp} {at_:Int} (h:Rd n p.R (at_+1)) (hr:RO p.R.L p.Rows) (h0:0≤at_) (h1:at_<n) (eF:0≤p.ax∧p.ax≤100) (gW:p.S.length≤400) {up:Nat} (kB:∀ e,endOf p.R.T.al up=some e→e≤at_) (hb:Below p.R.T.al at_) (hs:Sp p.R.T.al up) (hN:(p.R.T.al.length:Int)≤4 * at_+5) (hd:(p.R.D.length:Int)≤4 * at_+5):
  ∃ b p',iC F p (up:Int) at_=some (b,p')∧Sm p p'∧at_<p'.Read∧p'.Read≤n∧Rd n p'.R p'.Read∧yH p p' up (2 * (p'.Read - at_)) (4 * (p'.Read - at_)):=by
 have hn:=h.nl
 have dc:=h.ri.n
 obtain ⟨e,e1,ae,ag⟩:=xX F hF p dc at_ h0 (by omega)
 have hw:af (p.ax - (p.S.length:Int))=p.ax - p.S.length:=aX (by omega) (by omega)
 have jL:Rd n (⟨p.R.L,p.R.T,p.R.D,e⟩:Rr) (at_+1):=⟨⟨by show 0≤e;omega,ag,dc,h.ri.kp⟩,hn,h.g,h.b⟩
 obtain ⟨node,next,r',v1,v2⟩:=vQ F hF (p.ax - p.S.length) (by omega) (by omega) n (⟨p.R.L,p.R.T,p.R.D,e⟩:Rr) up at_ jL kB hs h0 ae hN hd
 unfold iC
 rw [e1]
 simp only [Option.bind_some,hw,v1]
 have s4:∀ a b:Int,b≤a→imax a b=a:=fun a b q=>by rw [jt];omega
 rcases v2 with ⟨rfl,rfl,rfl,_⟩ | ⟨ah,au,ai,aj,J,_⟩
 ·have an:Rd n (⟨p.R.L,p.R.T,p.R.D,e⟩:Rr) next:=⟨jL.ri,hn,h.g,hb⟩
  obtain ⟨p',U,j,ao,aa,ad,ab,I⟩:=ux F hF (p:=⟨⟨p.R.L,p.R.T,p.R.D,e⟩,p.Rows,p.Doc,p.aA,p.S,p.ax,p.Read⟩) (next:=next) an hr h0 (by omega) true (fun _=>h1) (fun q=>by cases q) hs (by show p.R.T.al.length≤2300;omega) (by show p.R.D.length≤90000;omega)
  have bm:=ad rfl
  simp only [show ((-1:Int)<0) from by decide,if_true,Option.bind_some,s4 next next (Int.le_refl _),U,show ¬ ((0:Int)≤ -1) from by decide,if_false]
  have b8:=I.sz
  have fM:=I.dl
  simp only at b8 fM
  exact ⟨_,_,rfl,⟨j.rows,j.doc,j.root,j.s,j.dep⟩,bm,aa,ab,⟨I.l,by show (p'.R.T.al.length:Int)≤p.R.T.al.length+2 * (p'.Read - next);omega,by show (p'.R.D.length:Int)≤p.R.D.length+4 * (p'.Read - next);omega,I.sp⟩⟩
 ·have hl:r'.L=p.R.L:=J.l
  have he:r'.End=e:=J.e
  have b8:=J.sz
  have fM:=J.dl
  simp only at b8 fM
  simp only at ai
  obtain ⟨p',U,j,ao,aa,ad,ab,I⟩:=ux F hF (p:=⟨r',p.Rows,p.Doc,p.aA,p.S,p.ax,p.Read⟩) (next:=next) aj (by show RO r'.L p.Rows;rw [hl];exact hr) (by omega) (by omega) false (fun q=>by cases q) (fun _=>by omega) (J.sp up (Nat.le_refl _) hs) (by show r'.T.al.length≤2300;omega) (by show r'.D.length≤90000;omega)
  have oT:¬ node<0:=by omega
  simp only [if_neg oT,Option.bind_some,s4 next at_ (by omega),U,if_pos ah]
  have aq:=I.sz
  have ar:=I.dl
  simp only at aq ar
  exact ⟨_,_,rfl,⟨j.rows,j.doc,j.root,j.s,j.dep⟩,by show at_<p'.Read;omega,aa,ab,⟨I.l.trans hl,by show (p'.R.T.al.length:Int)≤p.R.T.al.length+2 * (p'.Read - at_);omega,by show (p'.R.D.length:Int)≤p.R.D.length+4 * (p'.Read - at_);omega,fun v hv q=>I.sp v hv (J.sp v hv q)⟩⟩
end Go.Proofs.Ytcilejikekccmaa.M
namespace Go.Proofs.Ytcilejikekccmaa.M
open Go Am Sy
def Cn (L:List ak) (i:Int):Prop:=∃ t,L[i.toNat]?=some t∧cn t.Kind=true
def Ec (L:List ak):Int→List a2→Int→Prop
  | a,[],b=>a≤b
  | a,e::es,b=>a≤e.ah∧e.ah<e.To∧Cn L e.ah∧Ec L e.To es b
section
variable {L:List ak}
theorem Ec.le:∀ {es:List a2} {a b:Int},Ec L a es b→a+es.length≤b:=by
  intro es
  induction es with
  | nil=>intro a b h;have:a≤b:=h;simpa using this
  | cons e es ih=>
    rintro a b ⟨h1,h2,_,j⟩
    have:=ih j
    rw [List.length_cons];omega
theorem Ec.mono:∀ {es:List a2} {a b c:Int},Ec L a es b→b≤c→Ec L a es c:=by
  intro es
  induction es with
  | nil=>intro a b c h hc;exact Int.le_trans h hc
  | cons e es ih=>rintro a b c ⟨h1,h2,dM,j⟩ hc;exact ⟨h1,h2,dM,ih j hc⟩
theorem Ec.snoc:∀ {es:List a2} {a b:Int} {e:a2},Ec L a es b→b≤e.ah→e.ah<e.To→Cn L e.ah→Ec L a (es++[e]) e.To:=by
  intro es
  induction es with
  | nil=>intro a b e h h1 h2 j;exact ⟨Int.le_trans h h1,h2,j,Int.le_refl _⟩
  | cons x es ih=>rintro a b e ⟨h1,h2,hc,j⟩ I J U;exact ⟨h1,h2,hc,ih j I J U⟩
theorem Ec.last:∀ {es:List a2} {a b:Int} {e:a2},Ec L a es b→es.getLast?=some e→Ec L a es e.To∧e.To≤b:=by
  intro es
  induction es with
  | nil=>intro a b e h h1;simp at h1
  | cons x es ih=>
    rintro a b e ⟨h1,h2,hc,I⟩ j
    cases es with
    | nil=>simp at j;subst j;exact ⟨⟨h1,h2,hc,Int.le_refl _⟩,I⟩
    | cons y es=>
      rw [List.getLast?_cons_cons] at j
      obtain ⟨J,U⟩:=ih I j
      exact ⟨⟨h1,h2,hc,J⟩,U⟩
end
theorem rL (F:Nat) (hF:2500≤F) (L:List ak) (hn:L.length≤450) (a e kind:Int) (h0:0≤a) (h1:a≤e) (h2:e≤L.length):∃ j,jg F L a e kind=some j∧a≤j∧j≤e:=by
  have key:∀ (d m:Nat) (x:Int),a≤x→x≤e→(e - x).toNat≤d→d<m→∃ j,correctorref9_skip_l0 F L a e kind m x=some j∧a≤j∧j≤e:=by
    intro d
    induction d with
    | zero=>
      intro m x hx I hd hm
      obtain ⟨m,rfl⟩:∃ k,m=k+1:=⟨m - 1,by omega⟩
      rw [correctorref9_skip_l0,if_neg (by omega)]
      exact ⟨x,rfl,hx,I⟩
    | succ d ih=>
      intro m x hx I hd hm
      obtain ⟨m,rfl⟩:∃ k,m=k+1:=⟨m - 1,by omega⟩
      rw [correctorref9_skip_l0]
      by_cases c:x<e
      case neg=>rw [if_neg c];exact ⟨x,rfl,hx,I⟩
      have hl:x.toNat<L.length:=by omega
      rw [if_pos c,if_pos (by omega),List.getElem?_eq_getElem hl]
      simp only [Option.bind_some]
      split
      · rw [w1 (by omega) (by omega)]
        exact ih m (x+1) (by omega) (by omega) (by omega) (by omega)
      · exact ⟨x,rfl,hx,I⟩
  unfold jg
  obtain ⟨j,J,U⟩:=key (e - a).toNat F a (Int.le_refl _) h1 (Nat.le_refl _) (by omega)
  exact ⟨j,by rw [J];rfl,U⟩
theorem yx {F:Nat} {k:Int} (h:e7 F k=some true):cn k=true:=by
  unfold e7 at h
  by_cases h1:k=15
  · rw [h1];rfl
  by_cases h2:k=16
  · rw [h2];rfl
  by_cases j:k=17
  · rw [j];rfl
  by_cases I:k=13
  · rw [I];rfl
  rw [if_neg h1,if_neg h2,if_neg j,if_neg I] at h
  simp at h
def EO (L:List ak) (r:an) (es:List a2) (rest:Int):Prop:=
  ∃ first,FI L r.ah r.To first∧rest≤r.To∧(es=[]∨Ec L first es rest)
theorem BK (F:Nat) (hF:2500≤F) (L:List ak) (hn:L.length≤450) (r:an) (hk:r.Kind=5) (hr:0≤r.ah∧r.ah<r.To∧r.To≤L.length):∃ es rest,mU F L r=some (es,rest)∧EO L r es rest:=by
  obtain ⟨aP,aR,ag⟩:=hr
  have ax:∀ (d m:Nat) (x:Int),r.ah≤x→x≤r.To→(r.To - x).toNat≤d→d<m→(∀ (i:Int) (t:ak),r.ah≤i→i<x→L[i.toNat]?=some t→cn t.Kind=false)→∃ a,correctorref9_Entries_l0 F L r m r x=some (r,a)∧FI L r.ah r.To a:=by
    intro d
    induction d with
    | zero=>
      intro m x hx ab hd hm hq
      obtain ⟨m,rfl⟩:∃ k,m=k+1:=⟨m - 1,by omega⟩
      rw [correctorref9_Entries_l0,if_neg (by omega)]
      exact ⟨x,rfl,hx,ab,hq,fun q=>by omega⟩
    | succ d ih=>
      intro m x hx ab hd hm hq
      obtain ⟨m,rfl⟩:∃ k,m=k+1:=⟨m - 1,by omega⟩
      rw [correctorref9_Entries_l0]
      by_cases c:x<r.To
      case neg=>rw [if_neg c];exact ⟨x,rfl,hx,ab,hq,fun q=>absurd q c⟩
      have hl:x.toNat<L.length:=by omega
      rw [if_pos c,if_pos (by omega),List.getElem?_eq_getElem hl]
      simp only [Option.bind_some,kM]
      by_cases c1:cn L[x.toNat].Kind=true
      · rw [if_pos c1];exact ⟨x,rfl,hx,ab,hq,fun _=>⟨_,List.getElem?_eq_getElem hl,c1⟩⟩
      · rw [if_neg c1,w1 (by omega) (by omega)]
        refine ih m (x+1) (by omega) (by omega) (by omega) (by omega) (fun i t ad aq U=>?_)
        rcases Int.lt_or_eq_of_le (show i≤x by omega) with z | z
        · exact hq i t ad z U
        · subst z
          rw [List.getElem?_eq_getElem hl] at U
          simp only [Option.some.injEq] at U
          subst U;simpa using c1
  obtain ⟨first,f1,f2⟩:=ax (r.To - r.ah).toNat F r.ah (Int.le_refl _) (by omega) (Nat.le_refl _) (by omega) (fun i t ad aq=>by omega)
  have tM:=f2.1
  have ot:=f2.2.1
  have ay:∀ (d m:Nat) (i gV:Int) (e:List a2),first≤i→i≤r.To→(r.To - i).toNat≤d→d<m→Ec L first e i→∃ i' e',correctorref9_Entries_l1 F L r m r i first gV e=some (r,i',first,gV,e')∧first≤i'∧i'≤r.To∧Ec L first e' i':=by
    intro d
    induction d with
    | zero=>
      intro m i gV e hi I hd hm he
      obtain ⟨m,rfl⟩:∃ k,m=k+1:=⟨m - 1,by omega⟩
      rw [correctorref9_Entries_l1,if_neg (by omega)]
      exact ⟨i,e,rfl,hi,I,he⟩
    | succ d ih=>
      intro m i gV e hi I hd hm he
      obtain ⟨m,rfl⟩:∃ k,m=k+1:=⟨m - 1,by omega⟩
      rw [correctorref9_Entries_l1]
      by_cases c:i<r.To
      case neg=>rw [if_neg c];exact ⟨i,e,rfl,hi,I,he⟩
      have hl:i.toNat<L.length:=by omega
      have hb:0≤i∧i<(L.length:Int):=by omega
      have hlen:=he.le
      simp only [if_pos c,if_pos hb,List.getElem?_eq_getElem hl,Option.bind_some]
      split
      case isFalse=>exact ⟨i,e,rfl,hi,I,he⟩
      rename_i az
      have hw:af (i+1)=i+1:=w1 (by omega) (by omega)
      obtain ⟨j,J,ai,aa⟩:=rL F hF L hn (i+1) r.To 3 (by omega) (by omega) ag
      rw [if_pos (by rw [List.length_singleton];omega),hw,J]
      simp only [Option.bind_some]
      exact ih m j gV _ (by omega) aa (by omega) (by omega) (Ec.mono (Ec.snoc (e:=⟨true,_,i,i+1⟩) he (Int.le_refl _) (by show i<i+1;omega) ⟨_,List.getElem?_eq_getElem hl,by rw [az];rfl⟩) ai)
  have aA:∀ (d m:Nat) (i gV k:Int) (e:List a2),i≤k→0≤i→k≤r.To→(r.To - k).toNat≤d→d<m→(k=i∨Cn L i)→∃ k',correctorref9_Entries_l2 F L r m r i first gV e k=some (r,i,first,gV,e,k')∧i≤k'∧k'≤r.To∧(k'=i∨Cn L i):=by
    intro d
    induction d with
    | zero=>
      intro m i gV k e hi ar I hd hm hg
      obtain ⟨m,rfl⟩:∃ k,m=k+1:=⟨m - 1,by omega⟩
      rw [correctorref9_Entries_l2,if_neg (by omega)]
      exact ⟨k,rfl,hi,I,hg⟩
    | succ d ih=>
      intro m i gV k e hi ar I hd hm hg
      obtain ⟨m,rfl⟩:∃ k,m=k+1:=⟨m - 1,by omega⟩
      rw [correctorref9_Entries_l2]
      by_cases c:k<r.To
      case neg=>rw [if_neg c];exact ⟨k,rfl,hi,I,hg⟩
      have hl:k.toNat<L.length:=by omega
      have hb:0≤k∧k<(L.length:Int):=by omega
      have hw:af (k+1)=k+1:=w1 (by omega) (by omega)
      obtain ⟨j,J,ai,aa⟩:=rL F hF L hn (k+1) r.To 3 (by omega) (by omega) ag
      simp only [if_pos c,if_pos hb,List.getElem?_eq_getElem hl,Option.bind_some,hw]
      have go:cn L[k.toNat].Kind=true→_:=fun q=>ih m i gV j e (by omega) ar aa (by omega) (by omega) (by
        rcases hg with z | z
        · subst z;exact .inr ⟨_,List.getElem?_eq_getElem hl,q⟩
        · exact .inr z)
      split
      · rename_i aB;simp only [Option.bind_some,J];exact go (by rw [aB];rfl)
      split
      · rename_i aC;simp only [Option.bind_some,J];exact go (by rw [aC];rfl)
      exact ⟨k,rfl,hi,I,hg⟩
  have Em:r.ah.toNat<L.length:=by omega
  unfold mU
  rw [if_pos hk,f1]
  simp only [Option.bind_some]
  rw [if_pos (by omega),List.getElem?_eq_getElem Em]
  simp only [Option.bind_some]
  obtain ⟨i,e,aD,aT,aj,ae⟩:=ay (r.To - first).toNat F first L[r.ah.toNat].ah [] (Int.le_refl _) ot (Nat.le_refl _) (by omega) (Int.le_refl _)
  rw [aD]
  simp only [Option.bind_some]
  obtain ⟨k,aE,au,av,al⟩:=aA (r.To - i).toNat F i L[r.ah.toNat].ah i e (Int.le_refl _) (by omega) aj (Nat.le_refl _) (by omega) (.inl rfl)
  rw [aE]
  simp only [Option.bind_some]
  have aF:∃ k',((if k<r.To then
        if 0≤k∧k<(L.length:Int) then
         (L[k.toNat]?).bind fun aG=>
         (e7 F aG.Kind).bind fun aH=>
         if aH=true then
          (jg F L (af (k+1)) r.To 3).bind fun aI=>
          some (r,e,aI)
         else
          some (r,e,k)
        else none
       else
        some (r,e,k)):Option (an×(List a2)×Int))=some (r,e,k')∧i≤k'∧k'≤r.To∧(k'=i∨Cn L i):=by
    by_cases c:k<r.To
    case neg=>rw [if_neg c];exact ⟨k,rfl,au,av,al⟩
    have hl:k.toNat<L.length:=by omega
    rw [if_pos c,if_pos (by omega),List.getElem?_eq_getElem hl]
    simp only [Option.bind_some]
    obtain ⟨b,hb⟩:=oU F L[k.toNat].Kind
    rw [hb]
    simp only [Option.bind_some]
    split
    · obtain ⟨j,J,ai,aa⟩:=rL F hF L hn (k+1) r.To 3 (by omega) (by omega) ag
      rw [w1 (by omega) (by omega),J]
      refine ⟨j,rfl,by omega,aa, .inr ?_⟩
      rcases al with z | z
      · subst z
        rename_i cb
        refine ⟨_,List.getElem?_eq_getElem hl,?_⟩
        rw [cb] at hb
        exact yx hb
      · exact z
    · exact ⟨k,rfl,au,av,al⟩
  obtain ⟨k',ad,aq,U,aJ⟩:=aF
  rw [ad]
  simp only [Option.bind_some]
  have hlen:=ae.le
  have hx:∃ e',((((if k'<r.To then
          if 0≤k'∧k'<(L.length:Int) then
           (L[k'.toNat]?).bind fun aK=>
           if aK.Kind=(6:Int) then
            some (e,true)
           else
            some (e,false)
          else none
         else
          some (e,false)):Option ((List a2)×Bool)).bind fun o=>match o with
         | (ao,aL)=>if aL=true then
          if 0≤i∧i<(L.length:Int) then
           (L[i.toNat]?).bind fun aw=>
           if ao.length+[(⟨false,af (aw.ah - L[r.ah.toNat].ah),i,af (k'+1)⟩:a2)].length≤4398046511104 then
            some (ao++[(⟨false,af (aw.ah - L[r.ah.toNat].ah),i,af (k'+1)⟩:a2)])
           else none
          else none
         else
          some ao):Option (List a2))=some e'∧Ec L first e' r.To:=by
    by_cases c:k'<r.To
    case neg=>rw [if_neg c];exact ⟨e,rfl,ae.mono aj⟩
    have hl:k'.toNat<L.length:=by omega
    have dq:i.toNat<L.length:=by omega
    rw [if_pos c,if_pos (by omega),List.getElem?_eq_getElem hl]
    simp only [Option.bind_some]
    split
    · rename_i aM
      have fq:Cn L i:=by
        rcases aJ with z | z
        · subst z;exact ⟨_,List.getElem?_eq_getElem hl,by rw [aM];rfl⟩
        · exact z
      simp only [Option.bind_some,if_true]
      rw [if_pos (by omega),List.getElem?_eq_getElem dq]
      simp only [Option.bind_some]
      rw [if_pos (by rw [List.length_singleton];omega),w1 (by omega) (by omega)]
      exact ⟨_,rfl,Ec.mono (Ec.snoc (e:=⟨false,_,i,k'+1⟩) ae (Int.le_refl _) (by show i<k'+1;omega) fq) (by show k'+1≤r.To;omega)⟩
    · simp only [Option.bind_some,Bool.false_eq_true,if_false]
      exact ⟨e,rfl,ae.mono aj⟩
  obtain ⟨e',h1,h2⟩:=hx
  rw [h1]
  simp only [Option.bind_some]
  by_cases c:(e'.length:Int)=0
  · rw [if_pos c]
    exact ⟨_,_,rfl,first,f2,ot, .inl rfl⟩
  · have aU:=h2.le
    have hw:af ((e'.length:Int) - 1)=((e'.length - 1:Nat):Int):=by rw [aX (by omega) (by omega)];omega
    have ml:e'.length - 1<e'.length:=by omega
    rw [if_neg c,hw,if_pos (by omega),Int.toNat_natCast,List.getElem?_eq_getElem ml]
    simp only [Option.bind_some]
    have rW:e'.getLast?=some e'[e'.length - 1]:=by rw [List.getLast?_eq_getElem?,List.getElem?_eq_getElem ml]
    obtain ⟨aN,aO⟩:=h2.last rW
    exact ⟨_,_,rfl,first,f2,aO, .inr aN⟩
end Go.Proofs.Ytcilejikekccmaa.M
namespace Go.Proofs.Ytcilejikekccmaa.M
open Go Am Sy
abbrev Oo:=au
structure So (N:List aq) (d:Nat) (S:List Oo):Prop where
 node:∀ (i:Nat) o,S[i]?=some o→∃ m:Nat,o.Node=m∧d<m∧Sp N m
 inc:∀ (i j:Nat) o o',i<j→S[i]?=some o→S[j]?=some o'→o.Node<o'.Node
 has:∀ (i:Nat) o,S[i]?=some o→i+1<S.length→o.Has=true
 cur:∀ (i:Nat) o,S[i]?=some o→o.Has=false→∃ c:Nat,o.bP=c∧o.Node<c∧Sp N c
theorem eZ {α:Type} {S:List α} {i:Nat} {o:α} (h:S[i]?=some o):i<S.length:=by
 rcases Nat.lt_or_ge i S.length with q | q
 ·exact q
 ·rw [List.getElem?_eq_none q] at h;cases h
theorem So.nil (N:List aq) (d:Nat):So N d []:=⟨fun i o h=>by simp at h,fun i j o o' _ h=>by simp at h,fun i o h=>by simp at h,fun i o h=>by simp at h⟩
theorem k3 {α:Type} {S:List α} {k i:Nat} {o:α} (h:(S.take k)[i]?=some o):S[i]?=some o∧i<k:=by
 rw [List.getElem?_take] at h
 split at h
 ·rename_i c;exact ⟨h,c⟩
 ·cases h
theorem So.take {N:List aq} {d:Nat} {S:List Oo} (h:So N d S) (k:Nat):So N d (S.take k) where
 node i o q:=h.node i o (k3 q).1
 inc i j o o' J I U:=h.inc i j o o' J (k3 I).1 (k3 U).1
 has i o q I:=h.has i o (k3 q).1 (by rw [List.length_take] at I;omega)
 cur i o q:=h.cur i o (k3 q).1
def Up (S:List Oo) (u:Nat):Prop:=∀ (i:Nat) o,S[i]?=some o→o.Node≤u∧(o.Has=false→o.bP≤u)
theorem So.to {N N':List aq} {d u:Nat} {S:List Oo} (h:So N d S) (hu:Up S u) (hs:∀ v,v≤u→Sp N v→Sp N' v):So N' d S where
 node i o q:=by
  obtain ⟨m,J,j,I⟩:=h.node i o q
  exact ⟨m,J,j,hs m (by have:=(hu i o q).1;omega) I⟩
 inc:=h.inc
 has:=h.has
 cur i o q j:=by
  obtain ⟨c,I,U,aa⟩:=h.cur i o q j
  exact ⟨c,I,U,hs c (by have:=(hu i o q).2 j;omega) aa⟩
theorem So.push {N:List aq} {d:Nat} {S:List Oo} (h:So N d S) (hh:∀ (i:Nat) o,S[i]?=some o→o.Has=true) {o:Oo} {m c:Nat} (hn:o.Node=m) (hd:d<m) (hm:Sp N m) (bm:∀ (i:Nat) x,S[i]?=some x→x.Node<m) (hc:o.Has=false→o.bP=c∧m<c∧Sp N c):So N d (S++[o]):=by
 have eY:∀ (i:Nat) x,(S++[o])[i]?=some x→(i<S.length∧S[i]?=some x)∨(i=S.length∧x=o):=by
  intro i x hx
  have hl:=eZ hx
  rw [List.length_append,List.length_singleton] at hl
  rcases Nat.lt_or_ge i S.length with q | q
  ·rw [List.getElem?_append_left q] at hx;exact .inl ⟨q,hx⟩
  ·have:i=S.length:=by omega
   subst this
   rw [List.getElem?_append_right (Nat.le_refl _)] at hx
   simp at hx
   exact .inr ⟨rfl,hx.symm⟩
 refine ⟨fun i x hx=>?_,fun i j x y lJ hx hy=>?_,fun i x hx hl=>?_,fun i x hx hf=>?_⟩
 ·rcases eY i x hx with ⟨_,q⟩ | ⟨_,rfl⟩
  ·exact h.node i x q
  ·exact ⟨m,hn,hd,hm⟩
 ·rcases eY i x hx with ⟨_,q⟩ | ⟨q,rfl⟩
  ·rcases eY j y hy with ⟨_,I⟩ | ⟨_,rfl⟩
   ·exact h.inc i j x y lJ q I
   ·rw [hn];exact bm i x q
  ·rcases eY j y hy with ⟨I,_⟩ | ⟨I,_⟩<;>omega
 ·rcases eY i x hx with ⟨_,q⟩ | ⟨q,rfl⟩
  ·exact hh i x q
  ·rw [List.length_append,List.length_singleton] at hl;omega
 ·rcases eY i x hx with ⟨_,q⟩ | ⟨q,rfl⟩
  ·rw [hh i x q] at hf;cases hf
  ·obtain ⟨J,I,U⟩:=hc hf
   exact ⟨c,J,by rw [hn];omega,U⟩
structure PD (n:Int) (p:Pp) (q:Int) (d:Nat):Prop where
 rd:Rd n p.R q
 ro:RO p.R.L p.Rows
 dep:0≤p.ax∧p.ax≤100
 sl:(p.S.length:Int)≤p.ax
 doc:p.Doc=d
 ds:Sp p.R.T.al d
 si:So p.R.T.al d p.S
 sz:(p.R.T.al.length:Int)≤4 * q+5
 dl:(p.R.D.length:Int)≤4 * q+4
structure PI (n:Int) (p:Pp) (q:Int):Prop where
 rd:Rd n p.R q
 ro:RO p.R.L p.Rows
 dep:0≤p.ax∧p.ax≤100
 doc:(p.Doc= -1∧p.S=[])∨(∃ d:Nat,p.Doc=d∧Sp p.R.T.al d∧So p.R.T.al d p.S∧(p.S.length:Int)≤p.ax)
 sz:(p.R.T.al.length:Int)≤4 * q+4
 dl:(p.R.D.length:Int)≤4 * q+4
theorem PD.mono {n:Int} {p:Pp} {q q':Int} {d:Nat} (h:PD n p q d) (hq:q≤q'):PD n p q' d:={h with rd:=h.rd.mono hq,sz:=by have:=h.sz;omega,dl:=by have:=h.dl;omega}
theorem PI.mono {n:Int} {p:Pp} {q q':Int} (h:PI n p q) (hq:q≤q'):PI n p q':={h with rd:=h.rd.mono hq,sz:=by have:=h.sz;omega,dl:=by have:=h.dl;omega}
theorem PD.pi {n:Int} {p:Pp} {q q':Int} {d:Nat} (h:PD n p q d) (hq:q<q'):PI n p q':=⟨h.rd.mono (by omega),h.ro,h.dep, .inr ⟨d,h.doc,h.ds,h.si,h.sl⟩,by have:=h.sz;omega,by have:=h.dl;omega⟩
theorem sU (F:Nat) (hF:2500≤F) {n:Int} {p:Pp} {q a:Int} (h:PI n p q) (h0:0≤q) (hq:q≤a) (ha:a≤n):∃ p' d,lH F p a=some p'∧PD n p' a d∧p'.Read=p.Read∧p'.Rows=p.Rows∧p'.R.L=p.R.L:=by
 have hn:=h.rd.nl
 have dc:=h.rd.ri.n
 have b8:=h.sz
 have fM:=h.dl
 unfold lH
 rcases h.doc with ⟨j,I⟩ | ⟨d,j,I,U,aa⟩
 ·rw [j,if_pos (by decide)]
  obtain ⟨r1,a1,ab,J,ad,ae,af,_⟩:=iT F hF h.rd (by omega) (up:=0) .root (kind:=2) (aH:=a) (to:=a) (by omega) (Int.le_refl _) ha hq (h.rd.endOf h0 0 hq)
  rw [show ((0:Nat):Int)=0 from rfl] at a1
  rw [a1]
  exact ⟨_,_,rfl,⟨ab,by show RO r1.L p.Rows;rw [J.l];exact h.ro,h.dep,by show ((0:Nat):Int)≤_;exact h.dep.1,rfl,ad,So.nil _ _,by show (r1.T.al.length:Int)≤_;omega,by show (r1.D.length:Int)≤_;rw [ae];omega⟩,rfl,rfl,J.l⟩
 ·rw [if_neg (by omega)]
  exact ⟨p,d,rfl,⟨h.rd.mono hq,h.ro,h.dep,aa,j,I,U,by omega,by omega⟩,rfl,rfl,rfl⟩
theorem qz (F:Nat) {n:Int} {p:Pp} {q:Int} {d:Nat} (h:PD n p q d):∃ u:Nat,iM F p=some (u:Int)∧Sp p.R.T.al u∧d≤u∧Up p.S u:=by
 unfold iM
 by_cases c:(p.S.length:Int)=0
 ·rw [if_pos c,h.doc]
  have:p.S=[]:=List.eq_nil_of_length_eq_zero (by omega)
  exact ⟨d,rfl,h.ds,Nat.le_refl _,fun i o q=>by rw [this] at q;simp at q⟩
 have eF:=h.dep
 have gW:=h.sl
 have hw:af ((p.S.length:Int) - 1)=((p.S.length - 1:Nat):Int):=by rw [aX (by omega) (by omega)];omega
 have hl:p.S.length - 1<p.S.length:=by omega
 have hg:p.S[p.S.length - 1]?=some p.S[p.S.length - 1]:=List.getElem?_eq_getElem hl
 rw [if_neg c,hw,if_pos (by omega),Int.toNat_natCast,hg]
 simp only [Option.bind_some]
 obtain ⟨m,I,aa,J⟩:=h.si.node _ _ hg
 have hle:∀ (i:Nat) o,p.S[i]?=some o→o.Node≤p.S[p.S.length - 1].Node∧(o.Has=false→o=p.S[p.S.length - 1]):=by
  intro i o hi
  have dq:=eZ hi
  rcases Nat.lt_or_ge i (p.S.length - 1) with z | z
  ·have h1:=h.si.inc _ _ _ _ z hi hg
   exact ⟨by omega,fun e=>by rw [h.si.has i o hi (by omega)] at e;cases e⟩
  ·have:i=p.S.length - 1:=by omega
   subst this
   rw [hg] at hi
   simp only [Option.some.injEq] at hi
   subst hi;exact ⟨Int.le_refl _,fun _=>rfl⟩
 by_cases c2:p.S[p.S.length - 1].Has=true
 ·rw [if_pos c2,I]
  refine ⟨m,rfl,J,by omega,fun i o hi=>⟨by have:=(hle i o hi).1;omega,fun e=>?_⟩⟩
  rw [(hle i o hi).2 e,c2] at e;cases e
 ·rw [if_neg c2]
  obtain ⟨k,j,ab,U⟩:=h.si.cur _ _ hg (by simpa using c2)
  rw [j]
  refine ⟨k,rfl,U,by omega,fun i o hi=>⟨by have:=(hle i o hi).1;omega,fun e=>?_⟩⟩
  rw [(hle i o hi).2 e,j];exact Int.le_refl _
theorem qR (F:Nat) (hF:2500≤F) {n:Int} {p:Pp} {q:Int} {d u:Nat} (h:PD n p q d) (h0:0≤q) (hs:Sp p.R.T.al u) (nO:d≤u) (hu:Up p.S u) {aH to code:Int} (hf:q≤aH) (fg:aH<to) (ht:to≤n):
  ∃ r,dQ F p.R (u:Int) aH to code=some ((p.R.T.al.length:Int),r)∧PD n (⟨r,p.Rows,p.Doc,p.aA,p.S,p.ax,p.Read⟩:Pp) to d∧r.L=p.R.L∧(r.T.al.length:Int)≤4 * to+2:=by
 have hn:=h.rd.nl
 have dc:=h.rd.ri.n
 have b8:=h.sz
 have fM:=h.dl
 obtain ⟨r,I,J,j,_⟩:=nv F hF h.rd (by omega) (by omega) hs (code:=code) (aH:=aH) (to:=to) (by omega) fg ht (by omega) (h.rd.endOf h0 u hf)
 have h1:=j.sz
 have h2:=j.dl
 exact ⟨r,I,⟨J,by show RO r.L p.Rows;rw [j.l];exact h.ro,h.dep,h.sl,h.doc,j.sp d nO h.ds,h.si.to hu j.sp,by show (r.T.al.length:Int)≤_;omega,by show (r.D.length:Int)≤_;omega⟩,j.l,by omega⟩
theorem oR (F:Nat) (hF:2500≤F) {n:Int} {p:Pp} {q:Int} {d u:Nat} (h:PD n p q d) (h0:0≤q) (hs:Sp p.R.T.al u) (nO:d≤u) (hu:Up p.S u) {at_:Int} (hf:q≤at_) (ht:at_<n):
  ∃ b p',iC F p (u:Int) at_=some (b,p')∧Sm p p'∧at_<p'.Read∧p'.Read≤n∧PD n p' p'.Read d∧p'.R.L=p.R.L∧(∀ v,v≤u→Sp p.R.T.al v→Sp p'.R.T.al v)∧(p'.R.T.al.length:Int)≤4 * p'.Read+3∧(p'.R.D.length:Int)≤4 * p'.Read+4:=by
 have hn:=h.rd.nl
 have dc:=h.rd.ri.n
 have b8:=h.sz
 have fM:=h.dl
 have eF:=h.dep
 have gW:=h.sl
 obtain ⟨b,p',v1,v2,j,v4,I,v6⟩:=wq F hF (p:=p) (at_:=at_) (h.rd.mono (by omega)) h.ro (by omega) ht eF (by omega) (up:=u) (h.rd.endOf h0 u hf) (h.rd.b.mono hf) hs (by omega) (by omega)
 have h1:=v6.sz
 have h2:=v6.dl
 refine ⟨b,p',v1,v2,j,v4,⟨I,by rw [v6.l,v2.rows];exact h.ro,by rw [v2.dep];exact eF,by rw [v2.s,v2.dep];exact gW,by rw [v2.doc];exact h.doc,v6.sp d nO h.ds,by rw [v2.s];exact h.si.to hu v6.sp,by omega,by omega⟩,v6.l,v6.sp,by omega,by omega⟩
end Go.Proofs.Ytcilejikekccmaa.M
