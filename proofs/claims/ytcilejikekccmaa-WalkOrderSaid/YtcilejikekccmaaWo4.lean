/- Packed by a program of this session (mini.py). -/
import Derived.Test.YtcilejikekccmaaWo3
set_option linter.unusedVariables false
set_option linter.unusedSimpArgs false
set_option maxRecDepth 20000
set_option maxRecDepth 100000
namespace Go.Proofs.Ytcilejikekccmaa.M
open Go Am Sy
open Sy.Cell (rc)
def ml (F:Nat) (a0:aV) (a1:an):Option aV:=
 if a1.Kind=(4:Int) then
  (mM F (⟨a0.R,a0.Rows,a0.Doc,a0.aA,a0.S,a0.aw,a1.To⟩:aV) a1).bind fun ag=>
  some ag
 else
  if a1.Kind=(5:Int) then
   (nQ F (⟨a0.R,a0.Rows,a0.Doc,a0.aA,a0.S,a0.aw,a1.To⟩:aV) a1).bind fun ah=>
   some ah
  else
   ((if a1.Kind=(2:Int) then
     some (a0.Rows,a0.Doc,a0.aA,a0.S,a0.aw,a1.To,a1,true)
    else
     if a1.Kind=(3:Int) then
      some (a0.Rows,a0.Doc,a0.aA,a0.S,a0.aw,a1.To,a1,true)
     else
      some (a0.Rows,a0.Doc,a0.aA,a0.S,a0.aw,a1.To,a1,false)):Option ((List an)×Int×Bool×(List au)×Int×Int×an×Bool)).bind fun o=>match o with
    | (J,U,aa,ab,ad,ae,af,aj)=>if aj=true then
     (g6 F (⟨a0.R,J,U,aa,ab,ad,ae⟩:aV) af.ai af.To).bind fun I=>
     if I.1<I.2 then
      (lT F (⟨a0.R,J,U,aa,ab,ad,ae⟩:aV) I.1).bind fun j=>
      (iP F j).bind fun ak=>
      (ea F j.R ak I.1 I.2 8).bind fun ao=>
      some (⟨ao.2,j.Rows,j.Doc,j.aA,j.S,j.aw,j.Read⟩:aV)
     else
      some (⟨a0.R,J,U,aa,ab,ad,ae⟩:aV)
    else
     some (⟨a0.R,J,U,aa,ab,ad,ae⟩:aV)
theorem A3 (F:Nat) {h:AH} {Z:Zn} {a0:aV} {a1:an} {J j v4 v6 I af v11 ao U ar} (hP:Pre Z h [.ae J [Pt j 0,v11,V a0.Doc, .bool a0.aA,U,V a0.aw,V a0.Read], .ae j (ay v4 v6 I a0.R), .gs I af (aa aj), .gs v11 ao (aa an), .gs U ar (aa au)]) (aH:RS (α:=al) Z v4 a0.R.L) (aJ:RS (α:=aq) Z v6 a0.R.T.ak) (aK:RCs (α:=aj) Z af a0.R.D) (a3:RCs (α:=an) Z ao a0.Rows) (a4:RCs (α:=au) Z ar a0.S) {r:aV} (hm:ml F a0 a1=some r):
  bQ Try.prog 22 [Pt J 0, .agg #[V a1.Kind,V a1.ai,V a1.To,V a1.aE]] h Z [.ae J [Pt j 0,v11,V a0.Doc, .bool a0.aA,U,V a0.aw,V a0.Read], .ae j (ay v4 v6 I a0.R), .gs I af (aa aj), .gs v11 ao (aa an), .gs U ar (aa au)] fun v Z' A'=>∃ bw bx bz bA bB bC bD, .tuple #[]=v∧A'=[.ae J [Pt j 0,v11,V r.Doc, .bool r.aA,bC,V r.aw,V r.Read], .ae j (ay bw bx bz r.R), .gs bz bA (aa aj), .gs v11 bB (aa an), .gs bC bD (aa au)]∧RS (α:=al) Z' bw r.R.L∧RS (α:=aq) Z' bx r.R.T.ak∧RCs (α:=aj) Z' bA r.R.D∧RCs (α:=an) Z' bB r.Rows∧RCs (α:=au) Z' bD r.S:=by
 refine b6 Try.func22 hP ?_
 intro hs hS
 unfold ml at hm
 refine s0<|dK 0 [V a1.Kind,V a1.ai,V a1.To,V a1.aE] hS ?_
 intro a6 cU bE
 refine xn 0<|s0<|aB 2 0 (V a1.To) bE rfl<|bG 2 1 (V a1.To) [V a1.To] [Pt j 0,v11,V a0.Doc, .bool a0.aA,U,V a0.aw,V a1.To] bE rfl rfl rfl ?_
 intro cX ax
 refine xn 0<|s0<|aB 1 0 (V a1.Kind) ax rfl<|xn 0<|bk 0<|s0<|aG 0 hm ?_ ?_<;>intro c0 hm
 refine xn 1<|dT<|g0<|aB 1 0 (.agg #[V a1.Kind,V a1.ai,V a1.To,V a1.aE]) ax rfl ?_
 obtain ⟨c3,bR,hm⟩:=ah hm
 have bS:St _ _ _ _ _ _ ([.ae J [Pt j 0,v11,V a0.Doc, .bool a0.aA,U,V a0.aw,V a1.To], .ae j (ay v4 v6 I a0.R), .gs I af (aa aj), .gs v11 ao (aa an), .gs U ar (aa au)]++[.ae a6 (cz a1)]):=(((((ax.front 5 rfl).front 5 rfl).front 5 rfl).front 5 rfl).front 5 rfl)
 refine cB 0 bS (fun p=>E6 F (a0:=(⟨a0.R,a0.Rows,a0.Doc,a0.aA,a0.S,a0.aw,a1.To⟩:aV)) p aH aJ aK a3 a4 bR) ?_
 rintro _ c4 c6 _ c7 bT ⟨bU,bV,bW,bX,bY,bZ,b0,rfl,rfl,b1,b2,b3,b4,b5⟩
 refine xn 0 ?_
 obtain rfl:=si hm
 refine ⟨_,_,_,ResL.nil,(bT.takeN 5),?_⟩
 exact ⟨bU,bV,bW,bX,bY,bZ,b0,rfl,rfl,b1,b2,b3,b4,b5⟩
 refine xn 1<|dF<|s0<|aG 0 hm ?_ ?_<;>intro c8 hm
 refine xn 1<|dT<|g0<|aB 1 0 (.agg #[V a1.Kind,V a1.ai,V a1.To,V a1.aE]) ax rfl ?_
 obtain ⟨c9,b7,hm⟩:=ah hm
 have b8:St _ _ _ _ _ _ ([.ae J [Pt j 0,v11,V a0.Doc, .bool a0.aA,U,V a0.aw,V a1.To], .ae j (ay v4 v6 I a0.R), .gs I af (aa aj), .gs v11 ao (aa an), .gs U ar (aa au)]++[.ae a6 (cz a1)]):=(((((ax.front 5 rfl).front 5 rfl).front 5 rfl).front 5 rfl).front 5 rfl)
 refine cB 0 b8 (fun p=>z5 F (a0:=(⟨a0.R,a0.Rows,a0.Doc,a0.aA,a0.S,a0.aw,a1.To⟩:aV)) p aH aJ aK a3 a4 b7) ?_
 rintro _ da dc _ dd b9 ⟨ca,cb,cc,cd,cf,cg,ch,rfl,rfl,cj,ck,cl,cm,cn⟩
 refine xn 0 ?_
 obtain rfl:=si hm
 refine ⟨_,_,_,ResL.nil,(b9.takeN 5),?_⟩
 exact ⟨ca,cb,cc,cd,cf,cg,ch,rfl,rfl,cj,ck,cl,cm,cn⟩
 refine xn 1<|dF<|sq ?_
 obtain ⟨cp,az,hm⟩:=ah hm
 refine aI [0,3,23] (fun l h=>∃ bc a7 aL aM a8 aO aQ av bm aU aW aD,(a7,aL,aM,a8,aO,aQ,av,bm)=cp∧RCs (α:=an) bc aU a7∧RCs (α:=au) bc aW a8∧l=[(0,Pt J 0),(3,Pt aD 0),(23, .bool bm)]∧St hs (aR [.ae J [Pt j 0,v11,V a0.Doc, .bool a0.aA,U,V a0.aw,V a0.Read], .ae j (ay v4 v6 I a0.R), .gs I af (aa aj), .gs v11 ao (aa an), .gs U ar (aa au)]) Z (0,0) bc h [.ae j (ay v4 v6 I a0.R), .gs I af (aa aj), .ae J [Pt j 0,v11,V aL, .bool aM,U,V aO,V aQ], .gs v11 aU (aa an), .gs U aW (aa au), .ae aD (cz av)]) ?_ ?_
 rintro l de ⟨bc,a7,aL,aM,a8,aO,aQ,av,bm,aU,aW,aD,rfl,bd,bf,rfl,ab⟩
 try dsimp only at hm
 refine db hm ?_ ?_<;>intro df hm
 refine s0<|aB 2 5 (V av.ai) ab rfl<|aB 1 5 (V av.To) ab rfl ?_
 obtain ⟨aZ,cq,hm⟩:=ah hm
 refine cE 0 ab (fun dg a9 cr ba=>j4 F (a0:=(⟨a0.R,a7,aL,aM,a8,aO,aQ⟩:aV)) cr (RS.mono a9 (aH.mono ab.ag)) (RS.mono a9 (aJ.mono ab.ag)) (bj.row (ba _ (List.mem_of_getElem? (i:=1) rfl)) a9 (aK.mono ab.ag)) (ba _ (List.mem_of_getElem? (i:=0) rfl)) (bj.row (ba _ (List.mem_of_getElem? (i:=3) rfl)) a9 bd) (bj.row (ba _ (List.mem_of_getElem? (i:=4) rfl)) a9 bf) (ba _ (List.mem_of_getElem? (i:=2) rfl)) cq) ?_
 rintro _ dh bF rfl
 refine xn 5<|s0<|aP 2 hm ?_ ?_<;>intro di hm
 refine xn 0<|dT<|s0 ?_
 obtain ⟨ad,ct,hm⟩:=ah hm
 have cu:St _ _ _ _ _ _ ([.ae J [Pt j 0,v11,V aL, .bool aM,U,V aO,V aQ], .ae j (ay v4 v6 I a0.R), .gs I af (aa aj), .gs v11 aU (aa an), .gs U aW (aa au)]++[.ae aD (cz av)]):=(((((bF.front 4 rfl).front 4 rfl).front 3 rfl).front 3 rfl).front 4 rfl)
 refine cB 2 cu (fun p=>vE F (a0:=(⟨a0.R,a7,aL,aM,a8,aO,aQ⟩:aV)) p (aH.mono ab.ag) (aJ.mono ab.ag) (aK.mono ab.ag) bd bf ct) ?_
 rintro _ dj dk _ dm cv ⟨bn,bo,bp,bg,aF,bh,rfl,rfl,bH,bI,bK,bL,bM⟩
 refine xn 0<|ey EY cv ?_
 intro cw dn cx bq
 refine yq 3 [(43,Pt J 0),(5,V aZ.2),(4,V aZ.1),(0,Pt J 0)] ?_
 have dp:J<cw:=cx.1 _ (List.mem_of_getElem? (i:=0) rfl) _ (by simp [Itm.ids])
 refine aX (v:=Pt j 0) rfl trivial rfl (by show J<_;omega) (aC (v:=Pt j 0) trivial) (bq.aS (i:=0) rfl (by kernel_rfl)) trivial<|yq 1 [(45,Pt J 0),(44,Pt j 0),(5,V aZ.2),(4,V aZ.1)] ?_
 obtain ⟨cA,cC,hm⟩:=ah hm
 have bN:=bq.cM
 obtain ⟨dq,a2,cD,bb⟩:=St.jP (L:=[.ae J [Pt j 0,v11,V ad.Doc, .bool ad.aA,aF,V ad.aw,V ad.Read], .ae j (ay bn bo I ad.R), .gs I bp (aa aj), .gs v11 bg (aa an), .gs aF bh (aa au), .ae aD (cz av)]) bN
 obtain ⟨dr,ds,cF,bl,rfl⟩:=nI F cD (RS.mono a2 bH) (RS.mono a2 bI) (bj.row (bb _ (List.mem_of_getElem? (i:=2) rfl)) a2 bK) (bb _ (List.mem_of_getElem? (i:=1) rfl)) (bj.row (bb _ (List.mem_of_getElem? (i:=3) rfl)) a2 bL) (bj.row (bb _ (List.mem_of_getElem? (i:=4) rfl)) a2 bM) (bb _ (List.mem_of_getElem? (i:=0) rfl)) cC
 replace bl:=St.jX a2 bl
 have cG:=St.call (A:=[]) (B:=[.ae J [Pt j 0,v11,V ad.Doc, .bool ad.aA,aF,V ad.aw,V ad.Read], .ae j (ay bn bo I ad.R), .gs I bp (aa aj), .gs v11 bg (aa an), .gs aF bh (aa au), .ae aD (cz av)]) bN bl
 refine fv rfl trivial bq (dy cF rfl rfl rfl) cG (St.fw bl) ?_
 intro dt cH
 refine yq 2 [(48,V aZ.2),(47,V aZ.1),(46,V cA),(44,Pt j 0)] ?_
 obtain ⟨dv,cI,hm⟩:=ah hm
 have br:St _ _ _ _ _ _ ([.ae j (ay bn bo I ad.R), .gs I bp (aa aj)]++[.ae J [Pt j 0,v11,V ad.Doc, .bool ad.aA,aF,V ad.aw,V ad.Read], .gs v11 bg (aa an), .gs aF bh (aa au), .ae aD (cz av)]):=((cH.front 2 rfl).front 2 rfl)
 obtain ⟨dw,dx,dz,dA,cJ,bP,cK,cL,cN,cO,rfl,rfl,cP,cQ,cR⟩:=fD F br.cM.eF bH bI bK cI
 have bu:=bP.ag
 refine fK rfl trivial br (dy cJ rfl rfl rfl) bP bu (.a5 (br.bJ 0 rfl bO) .nil) ?_
 intro dB cS
 refine yf [] ?_
 have cT:=cS.aY
 obtain rfl:=si hm
 refine ⟨_,_,_,ResL.nil,((((((cT.front 4 rfl).front 4 rfl).front 3 rfl).front 3 rfl).front 4 rfl).takeN 5),?_⟩
 exact ⟨cK,cL,cN,cO,bg,aF,bh,rfl,rfl,cP,cQ,cR,(bL.mono bu),(bM.mono bu)⟩
 refine xn 0<|dF<|sk ?_
 obtain rfl:=si hm
 refine ⟨_,_,_,ResL.nil,((((((bF.front 4 rfl).front 4 rfl).front 3 rfl).front 3 rfl).front 4 rfl).takeN 5),?_⟩
 exact ⟨v4,v6,I,af,aU,U,aW,rfl,rfl,(aH.mono ab.ag),(aJ.mono ab.ag),(aK.mono ab.ag),bd,bf⟩
 refine sk ?_
 obtain rfl:=si hm
 refine ⟨_,_,_,ResL.nil,((((((ab.front 4 rfl).front 4 rfl).front 3 rfl).front 3 rfl).front 4 rfl).takeN 5),?_⟩
 exact ⟨v4,v6,I,af,aU,U,aW,rfl,rfl,(aH.mono ab.ag),(aJ.mono ab.ag),(aK.mono ab.ag),bd,bf⟩
 refine s0<|aG 0 az ?_ ?_<;>intro dC az
 refine xn 1<|dT<|sk ?_
 obtain rfl:=si az
 exact ⟨_,a0.Rows,a0.Doc,a0.aA,a0.S,a0.aw,a1.To,a1,true,ao,ar,a6,rfl,a3,a4,(by kernel_rfl),((((((ax.front 0 rfl).front 5 rfl).front 5 rfl).front 3 rfl).front 5 rfl).front 5 rfl)⟩
 refine xn 1<|dF<|g0<|aG 0 az ?_ ?_<;>intro dD az
 refine xn 1 ?_
 obtain rfl:=si az
 exact ⟨_,a0.Rows,a0.Doc,a0.aA,a0.S,a0.aw,a1.To,a1,true,ao,ar,a6,rfl,a3,a4,(by kernel_rfl),((((((ax.front 0 rfl).front 5 rfl).front 5 rfl).front 3 rfl).front 5 rfl).front 5 rfl)⟩
 refine xn 1 ?_
 obtain rfl:=si az
 exact ⟨_,a0.Rows,a0.Doc,a0.aA,a0.S,a0.aw,a1.To,a1,false,ao,ar,a6,rfl,a3,a4,(by kernel_rfl),((((((ax.front 0 rfl).front 5 rfl).front 5 rfl).front 3 rfl).front 5 rfl).front 5 rfl)⟩
def Af:List aN:=[u 12 (mv 0),u 13 (mv 4),u 14 (.slice 31 (t 12) (some (t 13)) none none),u 15 (cf 60 #[(t 14)] #[31]),u 11 (mv 15),u 16 (.extract (t 11) 0),u 17 (.extract (t 11) 1),u 5 (sg 16),u 6 (sg 17)]
def zR:List aN:=[u 20 (mv 3),u 21 (mv 4),u 22 (.buildSlice 23 1 #[(0,(t 21))]),u 23 (cb .append #[(t 20),(t 22)] #[23,23]),u 3 (sg 23)]
def correctorref1_Bad_l0 (F:Nat) (a0:List UInt8):Nat→(List Int)→Int→Option (List Int)
 | 0,_,_=>none
 | n+1,I,j=>
  if j<(a0.length:Int) then
   if 0≤j∧j≤(a0.length:Int)∧(a0.length:Int)≤(a0.length:Int) then
    (jr F ((a0.take (a0.length:Int).toNat).drop j.toNat)).bind fun J=>
    ((if J.1<(0:Int) then
      if I.length+([j]:List Int).length≤17592186044416 then
       some (I++([j]:List Int))
      else none
     else
      some I):Option (List Int)).bind fun o=>match o with
     | U=>correctorref1_Bad_l0 F a0 n U (af (j+J.2))
   else none
  else
   some I
def n5 (F:Nat) (a0:List UInt8):Option (List Int):=
 ((correctorref1_Bad_l0 F a0 F [] 0):Option (List Int)).bind fun o=>match o with
  | j=>some j
theorem xc (F:Nat) {h:AH} {Z:Zn} {a0:List UInt8} {v2} (hP:Pre Z h []) (aC:RS (α:=UInt8) Z v2 a0) {r:(List Int)} (hm:n5 F a0=some r):
  bQ Try.prog 49 [v2] h Z [] fun v Z' A'=>∃ v4 aD,v4=v∧A'=[.gs v4 aD (aa Int)]∧RCs (α:=Int) Z' aD r:=by
 refine b6 Try.func49 hP ?_
 intro hs hS
 unfold n5 at hm
 replace hS:St hs [] Z (0,0) Z hs []:=hS
 refine sp 1<|sp 1<|sq<|sp 1 ?_
 obtain ⟨au,J,hm⟩:=ah hm
 refine aI [3] (fun l h=>∃ av aw ae ak,aw=au∧RCs (α:=Int) av ak aw∧l=[(3,ae)]∧St hs [] Z (0,0) av h [.gs ae ak (aa Int)]) ?_ ?_
 rintro l aZ ⟨av,aw,ae,ak,rfl,aG,rfl,aH⟩
 try dsimp only at hm
 refine sp 2<|rt<|⟨rfl,?_⟩
 obtain rfl:=si hm
 refine ⟨_,_,_,tk ae (ResL.nil),aH,?_⟩
 exact ⟨ae,ak,rfl,rfl,aG⟩
 refine bk 0 ?_
 have aK:=hS.dh (aa Int)
 refine lp [0,3,4] (fun n l h=>∃ an ab I U ai,correctorref1_Bad_l0 F a0 n ab I=some au∧RCs (α:=Int) an ai ab∧l=[(0,v2),(3,U),(4,V I)]∧St hs [] Z (0,0) an h [.gs U ai (aa Int)]) F ⟨_,[],0,(.slice none 0 0),[],J,(RCs.bu _),(by kernel_rfl),aK⟩ ?_
 rintro ax l a1 ⟨an,ab,I,U,ai,J,ay,rfl,aj⟩
 rcases ax with _ | ax
 cases (show none=some au from J)
 rw [correctorref1_Bad_l0] at J
 refine sq<|s0<|bD 2 v2 (RS.len (aC.mono aj.ag))<|aP 0 J ?_ ?_<;>intro a2 J
 refine xn 0<|dT<|sk<|bk 1<|sr Af<|xq 2 [(13,V I),(12,v2),(0,v2),(3,U),(4,V I)] ?_
 obtain ⟨az,J⟩:=aJ J
 refine kT rfl trivial (iW (a:=I) (b:=(a0.length:Int)) (aC.mono aj.ag) rfl (by kernel_rfl:slTy _ _=some (aa UInt8)) ⟨_,rfl⟩ rfl az.1 az.2.1 az.2.2) ?_
 intro a3 aL
 obtain ⟨aA,aM,J⟩:=ah J
 refine cP 0 aj (oE F aj.inv aL aM) ?_
 rintro _ a4 aE rfl
 refine xn 5<|sq ?_
 obtain ⟨aQ,ad,J⟩:=ah J
 refine eo [0,3,4,6] (fun l h=>∃ aB ao aq ar,ao=aQ∧RCs (α:=Int) aB ar ao∧l=[(0,v2),(3,aq),(4,V I),(6,V aA.2)]∧St hs [] Z (0,0) aB h [.gs aq ar (aa Int)]) (by kernel_rfl) ?_ ?_
 rintro l a5 ⟨aB,ao,aq,ar,rfl,aR,rfl,aS⟩
 try dsimp only at J
 refine gp 4 ?_
 exact ⟨ax,Nat.lt_succ_self _,⟨_,ao,af (I+aA.2),aq,ar,J,aR,(by kernel_rfl),aS⟩⟩
 refine g0<|aP 1 ad ?_ ?_ (kd:= .i32)<;>intro a6 ad
 refine xn 0<|dT<|rg zR<|xq 2 [(21,V I),(20,U),(6,V aA.2),(0,v2),(3,U),(4,V I)] ?_
 have aU:RCs (α:=Int) an [V I] ([I]:List Int):=RCs.cons (cs:=[V I]) rfl (RCs.bu _)
 refine dP rfl trivial (c3 (cells:=[V I]) (s:=1) (by kernel_rfl)) (by kernel_rfl) aE ?_
 intro a7 a8 aF
 obtain ⟨a9,ad⟩:=aJ ad
 refine eY rfl trivial (dM (ys:=([I]:List Int)) (bP:=8) aF (i:=1) rfl ay ((aF).eI (j:=0) rfl aU) rfl rfl (by kernel_rfl) (by omega) (by omega)) ?_
 rintro aV aW ba ⟨aX,aY⟩
 refine xn 1 ?_
 obtain rfl:=si ad
 exact ⟨_,ab++([I]:List Int),aV,aW,rfl,aX,(by kernel_rfl),((aY.front 1 rfl).takeN 1)⟩
 refine xn 0<|dF<|sk ?_
 obtain rfl:=si ad
 exact ⟨_,ab,U,ai,rfl,ay,(by kernel_rfl),aE⟩
 refine xn 0<|dF<|xt 0<|aO ?_
 obtain rfl:=si J
 exact ⟨_,ab,U,ai,rfl,ay,(by kernel_rfl),aj⟩
def CP:List aN:=[u 12 (mv 0),u 13 (mv 5),u 14 (.index 9 (t 12) (t 13)),u 15 (.binOp .neq 5 (t 14) (.const (.int .u8 39)) 5)]
def Ek:List aN:=[u 16 (mv 4),u 17 (mv 0),u 18 (mv 5),u 19 (mv 5),u 20 (bc .add 3 19 1 3),u 21 (.slice 9 (t 17) (some (t 18)) (some (t 20)) none),u 22 (bo .add 9 16 21 9),u 4 (sg 22)]
def AI:List aN:=[u 23 (mv 5),u 24 (bc .add 3 23 1 3),u 25 (mv 0),u 26 (cb .len #[(t 25)] #[9]),u 27 (bo .geq 3 24 26 3),u 28 (mv 27),gn 28 29 (mv 0),gn 28 30 (mv 5),gn 28 31 (bc .add 3 30 1 3),gn 28 32 (.index 9 (t 29) (t 31)),gn 28 33 (.binOp .neq 5 (t 32) (.const (.int .u8 39)) 5),u 34 (pt 28 33)]
def vQ:List aN:=[u 36 (mv 4),u 37 (.binOp .add 9 (t 36) (.const (.string {data:=#[39]})) 9),u 4 (sg 37)]
def correctorref7_single_l0 (F:Nat) (a0:ar):Nat→ar→Int→Option (Sum ar (ar×Bool))
 | 0,_,_=>none
 | n+1,I,j=>
  if j<(a0.b.length:Int) then
   if 0≤j then
    (a0.b[j.toNat]?).bind fun J=>
    if (J.toNat:Int)=(39:Int) then
     if (a0.b.length:Int)≤(af (j+1)) then
      some (.inr (I,true))
     else
      if 0≤(af (j+1)) then
       (a0.b[(af (j+1)).toNat]?).bind fun U=>
       if (U.toNat:Int)=(39:Int) then
        if I.b.length+([39]:List UInt8).length≤4611686018427387904 then
         correctorref7_single_l0 F a0 n (⟨I.b++[39]⟩:ar) (af ((af (j+1))+1))
        else none
       else
        some (.inr (I,true))
      else none
    else
     if 0≤j∧j≤(af (j+1))∧(af (j+1))≤(a0.b.length:Int) then
      if I.b.length+((a0.b.take (af (j+1)).toNat).drop j.toNat).length≤4611686018427387904 then
       correctorref7_single_l0 F a0 n (⟨I.b++((a0.b.take (af (j+1)).toNat).drop j.toNat)⟩:ar) (af (j+1))
      else none
     else none
   else none
  else
   some (.inl I)
def n6 (F:Nat) (a0:ar):Option (ar×Bool):=
 ((correctorref7_single_l0 F a0 F (⟨[]⟩:ar) 1):Option (Sum ar (ar×Bool))).bind fun o=>match o with
  | .inl j=>some (j,false)
  | .inr y=>some y
theorem xB (F:Nat) {h:AH} {Z:Zn} {a0:ar} (hI:Inv Z h) {r:ar×Bool} (hm:n6 F a0=some r):
  b3 Try.prog 73 [.string ⟨⟨a0.b⟩⟩] h Z (.tuple #[.string ⟨⟨r.1.b⟩⟩, .bool r.2]):=by
 refine b4 Try.func73 hI ?_
 intro hs hS
 unfold n6 at hm
 refine sp 2<|sp 1<|sq<|sp 1 ?_
 obtain ⟨ad,j,hm⟩:=ah hm
 refine aI [4] (fun l h=>∃ ag aa, .inl aa=ad∧l=[(4, .string ⟨⟨aa.b⟩⟩)]∧St hs [] Z (0,0) ag h []) ?_ ?_
 rintro l aw ⟨ag,aa,rfl,rfl,aj⟩
 try dsimp only at hm
 refine sp 3<|rt<|⟨rfl,?_⟩
 obtain rfl:=si hm
 refine ⟨_,_,_,tk (.string ⟨⟨aa.b⟩⟩) (tk (.bool false) (ResL.nil)),aj,?_⟩
 exact rfl
 refine bk 0<|lp [0,4,5] (fun n l h=>∃ ai J I,correctorref7_single_l0 F a0 n J I=some ad∧l=[(0, .string ⟨⟨a0.b⟩⟩),(4, .string ⟨⟨J.b⟩⟩),(5,V I)]∧St hs [] Z (0,0) ai h []) F ⟨_,(⟨[]⟩:ar),1,j,(by kernel_rfl),hS⟩ ?_
 rintro ab l ax ⟨ai,J,I,j,rfl,U⟩
 rcases ab with _ | ab
 cases (show none=some ad from j)
 rw [correctorref7_single_l0] at j
 refine sq<|s0<|aP 3 j ?_ ?_<;>intro ay j
 refine xn 0<|dT<|sk<|sq<|bk 1<|sq<|sr CP<|xq 2 [(13,V I),(12, .string ⟨⟨a0.b⟩⟩),(0, .string ⟨⟨a0.b⟩⟩),(4, .string ⟨⟨J.b⟩⟩),(5,V I)] ?_
 obtain ⟨ak,j⟩:=aJ j
 obtain ⟨az,an,j⟩:=ah j
 refine bT rfl trivial (jn (bs:=a0.b) (i:=I) rfl rfl (by kernel_rfl) ak an)<|cS 0 j ?_ ?_ (kd:= .u8)<;>intro aA j
 refine xn 0<|dF<|sk<|sq<|sr AI<|cC 4 j ?_ ?_<;>intro aB j
 refine xn 7<|dT<|sp 3<|rt<|a3<|a3<|⟨rfl,?_⟩
 obtain rfl:=si j
 obtain rfl:=si hm
 refine ⟨_,_,_,tk (.string ⟨⟨J.b⟩⟩) (tk (.bool true) (ResL.nil)),U,?_⟩
 exact rfl
 refine xq 4 [(31,V (af (I+1))),(29, .string ⟨⟨a0.b⟩⟩),(28, .bool false),(0, .string ⟨⟨a0.b⟩⟩),(4, .string ⟨⟨J.b⟩⟩),(5,V I)] ?_
 obtain ⟨ao,j⟩:=aJ j
 obtain ⟨aC,aq,j⟩:=ah j
 refine bT rfl rfl (jn (bs:=a0.b) (i:=af (I+1)) rfl rfl (by kernel_rfl) ao aq)<|cS 0 j ?_ ?_ (kd:= .u8)<;>intro aD j
 refine xn 1<|dF<|sk<|sr vQ<|xq 1 [(36, .string ⟨⟨J.b⟩⟩),(0, .string ⟨⟨a0.b⟩⟩),(4, .string ⟨⟨J.b⟩⟩),(5,V I)] ?_
 obtain ⟨au,j⟩:=aJ j
 refine bT rfl trivial (pw rfl rfl (by simpa using au))<|xn 1<|gp 3<|gp 3 ?_
 exact ⟨ab,Nat.lt_succ_self _,⟨_,(⟨J.b++[39]⟩:ar),af ((af (I+1))+1),j,(by kernel_rfl),U⟩⟩
 refine xn 1<|dT<|sp 3<|rt<|a3<|a3<|⟨rfl,?_⟩
 obtain rfl:=si j
 obtain rfl:=si hm
 refine ⟨_,_,_,tk (.string ⟨⟨J.b⟩⟩) (tk (.bool true) (ResL.nil)),U,?_⟩
 exact rfl
 refine xn 0<|dT<|sr Ek<|xq 5 [(20,V (af (I+1))),(18,V I),(17, .string ⟨⟨a0.b⟩⟩),(16, .string ⟨⟨J.b⟩⟩),(0, .string ⟨⟨a0.b⟩⟩),(4, .string ⟨⟨J.b⟩⟩),(5,V I)] ?_
 obtain ⟨ae,j⟩:=aJ j
 refine bT rfl trivial (pc (bs:=a0.b) (a:=I) (b:=af (I+1)) rfl (by kernel_rfl) ⟨_,rfl⟩ ⟨_,rfl⟩ ae.1 ae.2.1 ae.2.2) ?_
 obtain ⟨av,j⟩:=aJ j
 refine bT rfl trivial (pw rfl rfl (by simpa using av))<|xn 1<|xt 1<|aO<|gp 3 ?_
 exact ⟨ab,Nat.lt_succ_self _,⟨_,(⟨J.b++((a0.b.take (af (I+1)).toNat).drop I.toNat)⟩:ar),af (I+1),j,(by kernel_rfl),U⟩⟩
 refine xn 0<|dF<|xt 0<|aO ?_
 obtain rfl:=si j
 exact ⟨_,J,rfl,(by kernel_rfl),U⟩
def xj:List aN:=[u 20 (mv 0),u 21 (.buildSlice 31 1 #[(0,(t 20))]),u 22 (.convert 31 9 (t 21)),u 2 (sg 22),u 3 (.assign (.const (.bool true)))]
def nJ (F:Nat) (a0:Int):Option (ar×Bool):=
 if a0=(48:Int) then
  some ((⟨[0]⟩:ar),true)
 else
  if a0=(116:Int) then
   some ((⟨[9]⟩:ar),true)
  else
   if a0=(110:Int) then
    some ((⟨[10]⟩:ar),true)
   else
    if a0=(114:Int) then
     some ((⟨[13]⟩:ar),true)
    else
     if a0=(101:Int) then
      some ((⟨[27]⟩:ar),true)
     else
      ((if a0=(34:Int) then
        some true
       else
        if a0=(47:Int) then
         some true
        else
         if a0=(92:Int) then
          some true
         else
          if a0=(32:Int) then
           some true
          else
           some false):Option Bool).bind fun o=>match o with
       | j=>if j=true then
        if (0≤a0∧a0<256) then
         some ((⟨([UInt8.ofNat a0.toNat]:List UInt8)⟩:ar),true)
        else none
       else
        some ((⟨[]⟩:ar),false)
theorem wU (F:Nat) {h:AH} {Z:Zn} {a0:Int} (hI:Inv Z h) {r:ar×Bool} (hm:nJ F a0=some r):
  b3 Try.prog 96 [.int .u8 a0] h Z (.tuple #[.string ⟨⟨r.1.b⟩⟩, .bool r.2]):=by
 refine b4 Try.func96 hI ?_
 intro hs hS
 unfold nJ at hm
 refine sp 2<|sq<|sp 1<|bk 0<|s0<|aG 0 hm ?_ ?_ (kd:= .u8)<;>intro ag hm
 refine xn 1<|dT<|sp 2<|rt<|a3<|⟨rfl,?_⟩
 obtain rfl:=si hm
 refine ⟨_,_,_,tk (.string ⟨⟨[0]⟩⟩) (tk (.bool true) (ResL.nil)),hS,?_⟩
 exact rfl
 refine xn 1<|dF<|s0<|aG 0 hm ?_ ?_ (kd:= .u8)<;>intro ai hm
 refine xn 1<|dT<|sp 2<|rt<|a3<|⟨rfl,?_⟩
 obtain rfl:=si hm
 refine ⟨_,_,_,tk (.string ⟨⟨[9]⟩⟩) (tk (.bool true) (ResL.nil)),hS,?_⟩
 exact rfl
 refine xn 1<|dF<|s0<|aG 0 hm ?_ ?_ (kd:= .u8)<;>intro aj hm
 refine xn 1<|dT<|sp 2<|rt<|a3<|⟨rfl,?_⟩
 obtain rfl:=si hm
 refine ⟨_,_,_,tk (.string ⟨⟨[10]⟩⟩) (tk (.bool true) (ResL.nil)),hS,?_⟩
 exact rfl
 refine xn 1<|dF<|s0<|aG 0 hm ?_ ?_ (kd:= .u8)<;>intro ak hm
 refine xn 1<|dT<|sp 2<|rt<|a3<|⟨rfl,?_⟩
 obtain rfl:=si hm
 refine ⟨_,_,_,tk (.string ⟨⟨[13]⟩⟩) (tk (.bool true) (ResL.nil)),hS,?_⟩
 exact rfl
 refine xn 1<|dF<|s0<|aG 0 hm ?_ ?_ (kd:= .u8)<;>intro an hm
 refine xn 1<|dT<|sp 2<|rt<|a3<|⟨rfl,?_⟩
 obtain rfl:=si hm
 refine ⟨_,_,_,tk (.string ⟨⟨[27]⟩⟩) (tk (.bool true) (ResL.nil)),hS,?_⟩
 exact rfl
 refine xn 1<|dF<|sq ?_
 obtain ⟨ad,I,hm⟩:=ah hm
 refine aI [0,15] (fun l h=>∃ J U,U=ad∧l=[(0, .int .u8 a0),(15, .bool U)]∧St hs [] Z (0,0) J h []) ?_ ?_
 rintro l ao ⟨J,U,rfl,rfl,aa⟩
 try dsimp only at hm
 refine db hm ?_ ?_<;>intro aq hm
 refine sr xj<|xq 1 [(20, .int .u8 a0)] ?_
 obtain ⟨ae,hm⟩:=aJ hm
 have af:RCs (α:=UInt8) J [.int .u8 a0] ([UInt8.ofNat a0.toNat]:List UInt8):=RCs.cons (cs:=[.int .u8 a0]) (g7 ae) (RCs.bu _)
 refine dP rfl trivial (c3 (cells:=[.int .u8 a0]) (s:=1) (by kernel_rfl)) (by kernel_rfl) aa ?_
 intro au av ab
 refine bT rfl trivial (vg ab (j:=0) rfl af rfl (by kernel_rfl))<|xn 2<|rt<|a3<|⟨rfl,?_⟩
 obtain rfl:=si hm
 refine ⟨_,_,_,tk (.string ⟨⟨([UInt8.ofNat a0.toNat]:List UInt8)⟩⟩) (tk (.bool true) (ResL.nil)),ab,?_⟩
 exact rfl
 refine sk<|sp 2<|rt<|⟨rfl,?_⟩
 obtain rfl:=si hm
 refine ⟨_,_,_,tk (.string ⟨⟨[]⟩⟩) (tk (.bool false) (ResL.nil)),aa,?_⟩
 exact rfl
 refine s0<|aG 0 I ?_ ?_ (kd:= .u8)<;>intro aw I
 refine xn 1<|dT<|sk ?_
 obtain rfl:=si I
 exact ⟨_,true,rfl,(by kernel_rfl),hS⟩
 refine xn 1<|dF<|s0<|aG 0 I ?_ ?_ (kd:= .u8)<;>intro ax I
 refine xn 1<|dT<|sk ?_
 obtain rfl:=si I
 exact ⟨_,true,rfl,(by kernel_rfl),hS⟩
 refine xn 1<|dF<|s0<|aG 0 I ?_ ?_ (kd:= .u8)<;>intro ay I
 refine xn 1<|dT<|sk ?_
 obtain rfl:=si I
 exact ⟨_,true,rfl,(by kernel_rfl),hS⟩
 refine xn 1<|dF<|g0<|aG 0 I ?_ ?_ (kd:= .u8)<;>intro az I
 refine xn 1 ?_
 obtain rfl:=si I
 exact ⟨_,true,rfl,(by kernel_rfl),hS⟩
 refine xn 1 ?_
 obtain rfl:=si I
 exact ⟨_,false,rfl,(by kernel_rfl),hS⟩
def mS (F:Nat) (a0:Int):Option Int:=
 ((if (48:Int)≤a0 then
   if a0≤(57:Int) then
    some true
   else
    some false
  else
   some false):Option Bool).bind fun o=>match o with
  | j=>((if j=true then
    some (.inr (af (w8 (a0 - 48))))
   else
    ((if (97:Int)≤a0 then
      if a0≤(102:Int) then
       some true
      else
       some false
     else
      some false):Option Bool).bind fun o=>match o with
     | I=>if I=true then
      some (.inr (af ((af (w8 (a0 - 97)))+10)))
     else
      if (65:Int)≤a0 then
       if a0≤(70:Int) then
        some (.inr (af ((af (w8 (a0 - 65)))+10)))
       else
        some (.inl ())
      else
       some (.inl ())):Option (Sum Unit Int)).bind fun o=>match o with
   | .inl ()=>some (-1)
   | .inr y=>some y
theorem BT (F:Nat) {h:AH} {Z:Zn} {a0:Int} (hI:Inv Z h) {r:Int} (hm:mS F a0=some r):
  b3 Try.prog 97 [.int .u8 a0] h Z (V r):=by
 refine b4 Try.func97 hI ?_
 intro hs hS
 unfold mS at hm
 refine sp 1<|sq<|bk 0<|sq ?_
 obtain ⟨aj,I,hm⟩:=ah hm
 refine aI [0,3] (fun l h=>∃ ae ab,ab=aj∧l=[(0, .int .u8 a0),(3, .bool ab)]∧St hs [] Z (0,0) ae h []) ?_ ?_
 rintro l aq ⟨ae,ab,rfl,rfl,U⟩
 try dsimp only at hm
 obtain ⟨ak,j,hm⟩:=ah hm
 refine aI [] (fun l h=>∃ ag, .inl ()=ak∧l=[]∧St hs [] Z (0,0) ag h []) ?_ ?_
 rintro l ar ⟨ag,rfl,rfl,an⟩
 try dsimp only at hm
 refine sp 1<|rt<|⟨rfl,?_⟩
 obtain rfl:=si hm
 refine ⟨_,_,_,tk (V (-1)) (ResL.nil),an,?_⟩
 exact rfl
 refine db j ?_ ?_<;>intro au j
 refine s0<|eE 2 (V (af (w8 (a0 - 48))))<|xn 1<|rt<|a3<|⟨rfl,?_⟩
 obtain rfl:=si j
 obtain rfl:=si hm
 refine ⟨_,_,_,tk (V (af (w8 (a0 - 48)))) (ResL.nil),U,?_⟩
 exact rfl
 refine sq ?_
 obtain ⟨ao,J,j⟩:=ah j
 refine aI [0,13] (fun l h=>∃ ai ad,ad=ao∧l=[(0, .int .u8 a0),(13, .bool ad)]∧St hs [] Z (0,0) ai h []) ?_ ?_
 rintro l av ⟨ai,ad,rfl,rfl,aa⟩
 try dsimp only at j
 refine db j ?_ ?_<;>intro aw j
 refine s0<|eE 2 (V (af (w8 (a0 - 97))))<|xn 2<|rt<|a3<|⟨rfl,?_⟩
 obtain rfl:=si j
 obtain rfl:=si hm
 refine ⟨_,_,_,tk (V (af ((af (w8 (a0 - 97)))+10))) (ResL.nil),aa,?_⟩
 exact rfl
 refine s0<|cC 1 j ?_ ?_ (kd:= .u8)<;>intro ax j
 refine fH 2 j ?_ ?_ (kd:= .u8)<;>intro ay j
 refine xn 2<|dT<|s0<|eE 2 (V (af (w8 (a0 - 65))))<|xn 2<|rt<|a3<|⟨rfl,?_⟩
 obtain rfl:=si j
 obtain rfl:=si hm
 refine ⟨_,_,_,tk (V (af ((af (w8 (a0 - 65)))+10))) (ResL.nil),aa,?_⟩
 exact rfl
 refine xn 2<|dF<|sk ?_
 obtain rfl:=si j
 exact ⟨_,rfl,(by kernel_rfl),aa⟩
 refine xn 5<|dF<|sk ?_
 obtain rfl:=si j
 exact ⟨_,rfl,(by kernel_rfl),aa⟩
 refine g0<|cC 1 J ?_ ?_ (kd:= .u8)<;>intro az J
 refine fH 2 J ?_ ?_ (kd:= .u8)<;>intro aA J
 refine xn 2 ?_
 obtain rfl:=si J
 exact ⟨_,true,rfl,(by kernel_rfl),U⟩
 refine xn 2 ?_
 obtain rfl:=si J
 exact ⟨_,false,rfl,(by kernel_rfl),U⟩
 refine xn 5 ?_
 obtain rfl:=si J
 exact ⟨_,false,rfl,(by kernel_rfl),U⟩
 refine g0<|cC 1 I ?_ ?_ (kd:= .u8)<;>intro aB I
 refine fH 2 I ?_ ?_ (kd:= .u8)<;>intro aC I
 refine xn 2 ?_
 obtain rfl:=si I
 exact ⟨_,true,rfl,(by kernel_rfl),hS⟩
 refine xn 2 ?_
 obtain rfl:=si I
 exact ⟨_,false,rfl,(by kernel_rfl),hS⟩
 refine xn 5 ?_
 obtain rfl:=si I
 exact ⟨_,false,rfl,(by kernel_rfl),hS⟩
def C0:List aN:=[u 6 (mv 0),u 7 (.convert 21 5 (t 6)),u 8 (.buildSlice 31 1 #[(0,(t 7))]),u 2 (sg 8)]
def yX:List aN:=[u 12 (mv 0),u 13 (.binOp .shr 21 (t 12) (.const (.int .u64 6)) 130),u 14 (.binOp .or 21 (.const (.int .i32 192)) (t 13) 21),u 15 (.convert 21 5 (t 14)),u 16 (mv 0),u 17 (.binOp .and 21 (t 16) (.const (.int .i32 63)) 21),u 18 (.binOp .or 21 (.const (.int .i32 128)) (t 17) 21),u 19 (.convert 21 5 (t 18)),u 20 (.buildSlice 31 2 #[(0,(t 15)),(1,(t 19))]),u 2 (sg 20)]
def Eb:List aN:=[u 24 (mv 0),u 25 (.binOp .shr 21 (t 24) (.const (.int .u64 12)) 130),u 26 (.binOp .or 21 (.const (.int .i32 224)) (t 25) 21),u 27 (.convert 21 5 (t 26)),u 28 (mv 0),u 29 (.binOp .shr 21 (t 28) (.const (.int .u64 6)) 130),u 30 (.binOp .and 21 (t 29) (.const (.int .i32 63)) 21),u 31 (.binOp .or 21 (.const (.int .i32 128)) (t 30) 21),u 32 (.convert 21 5 (t 31)),u 33 (mv 0),u 34 (.binOp .and 21 (t 33) (.const (.int .i32 63)) 21),u 35 (.binOp .or 21 (.const (.int .i32 128)) (t 34) 21),u 36 (.convert 21 5 (t 35)),u 37 (.buildSlice 31 3 #[(0,(t 27)),(1,(t 32)),(2,(t 36))]),u 2 (sg 37)]
def DL:List aN:=[u 38 (mv 0),u 39 (.binOp .shr 21 (t 38) (.const (.int .u64 18)) 130),u 40 (.binOp .or 21 (.const (.int .i32 240)) (t 39) 21),u 41 (.convert 21 5 (t 40)),u 42 (mv 0),u 43 (.binOp .shr 21 (t 42) (.const (.int .u64 12)) 130),u 44 (.binOp .and 21 (t 43) (.const (.int .i32 63)) 21),u 45 (.binOp .or 21 (.const (.int .i32 128)) (t 44) 21),u 46 (.convert 21 5 (t 45)),u 47 (mv 0),u 48 (.binOp .shr 21 (t 47) (.const (.int .u64 6)) 130),u 49 (.binOp .and 21 (t 48) (.const (.int .i32 63)) 21),u 50 (.binOp .or 21 (.const (.int .i32 128)) (t 49) 21),u 51 (.convert 21 5 (t 50)),u 52 (mv 0),u 53 (.binOp .and 21 (t 52) (.const (.int .i32 63)) 21),u 54 (.binOp .or 21 (.const (.int .i32 128)) (t 53) 21),u 55 (.convert 21 5 (t 54)),u 56 (.buildSlice 31 4 #[(0,(t 41)),(1,(t 46)),(2,(t 51)),(3,(t 55))]),u 2 (sg 56)]
def nU (F:Nat) (a0:Int):Option (List UInt8):=
 if a0<(128:Int) then
  if (0≤(IntKind.wrap .u8 a0)∧(IntKind.wrap .u8 a0)<256) then
   some ([UInt8.ofNat (IntKind.wrap .u8 a0).toNat]:List UInt8)
  else none
 else
  if a0<(2048:Int) then
   if (0≤(IntKind.wrap .u8 (a6 .i32 192 (bL .i32 a0 6)))∧(IntKind.wrap .u8 (a6 .i32 192 (bL .i32 a0 6)))<256)∧(0≤(IntKind.wrap .u8 (a6 .i32 128 (bx .i32 a0 63)))∧(IntKind.wrap .u8 (a6 .i32 128 (bx .i32 a0 63)))<256) then
    some ([UInt8.ofNat (IntKind.wrap .u8 (a6 .i32 192 (bL .i32 a0 6))).toNat,UInt8.ofNat (IntKind.wrap .u8 (a6 .i32 128 (bx .i32 a0 63))).toNat]:List UInt8)
   else none
  else
   if a0<(65536:Int) then
    if (0≤(IntKind.wrap .u8 (a6 .i32 224 (bL .i32 a0 12)))∧(IntKind.wrap .u8 (a6 .i32 224 (bL .i32 a0 12)))<256)∧(0≤(IntKind.wrap .u8 (a6 .i32 128 (bx .i32 (bL .i32 a0 6) 63)))∧(IntKind.wrap .u8 (a6 .i32 128 (bx .i32 (bL .i32 a0 6) 63)))<256)∧(0≤(IntKind.wrap .u8 (a6 .i32 128 (bx .i32 a0 63)))∧(IntKind.wrap .u8 (a6 .i32 128 (bx .i32 a0 63)))<256) then
     some ([UInt8.ofNat (IntKind.wrap .u8 (a6 .i32 224 (bL .i32 a0 12))).toNat,UInt8.ofNat (IntKind.wrap .u8 (a6 .i32 128 (bx .i32 (bL .i32 a0 6) 63))).toNat,UInt8.ofNat (IntKind.wrap .u8 (a6 .i32 128 (bx .i32 a0 63))).toNat]:List UInt8)
    else none
   else
    if (0≤(IntKind.wrap .u8 (a6 .i32 240 (bL .i32 a0 18)))∧(IntKind.wrap .u8 (a6 .i32 240 (bL .i32 a0 18)))<256)∧(0≤(IntKind.wrap .u8 (a6 .i32 128 (bx .i32 (bL .i32 a0 12) 63)))∧(IntKind.wrap .u8 (a6 .i32 128 (bx .i32 (bL .i32 a0 12) 63)))<256)∧(0≤(IntKind.wrap .u8 (a6 .i32 128 (bx .i32 (bL .i32 a0 6) 63)))∧(IntKind.wrap .u8 (a6 .i32 128 (bx .i32 (bL .i32 a0 6) 63)))<256)∧(0≤(IntKind.wrap .u8 (a6 .i32 128 (bx .i32 a0 63)))∧(IntKind.wrap .u8 (a6 .i32 128 (bx .i32 a0 63)))<256) then
     some ([UInt8.ofNat (IntKind.wrap .u8 (a6 .i32 240 (bL .i32 a0 18))).toNat,UInt8.ofNat (IntKind.wrap .u8 (a6 .i32 128 (bx .i32 (bL .i32 a0 12) 63))).toNat,UInt8.ofNat (IntKind.wrap .u8 (a6 .i32 128 (bx .i32 (bL .i32 a0 6) 63))).toNat,UInt8.ofNat (IntKind.wrap .u8 (a6 .i32 128 (bx .i32 a0 63))).toNat]:List UInt8)
    else none
theorem By (F:Nat) {h:AH} {Z:Zn} {a0:Int} (hP:Pre Z h []) {r:(List UInt8)} (hm:nU F a0=some r):
  bQ Try.prog 98 [.int .i32 a0] h Z [] fun v Z' A'=>∃ v2 J,v2=v∧A'=[.gs v2 J (aa UInt8)]∧RCs (α:=UInt8) Z' J r:=by
 refine b6 Try.func98 hP ?_
 intro hs hS
 unfold nU at hm
 replace hS:St hs [] Z (0,0) Z hs []:=hS
 refine sp 1<|sq<|bk 0<|s0<|aP 1 hm ?_ ?_ (kd:= .i32)<;>intro au hm
 refine xn 1<|dT<|sr C0<|xq 1 [(6, .int .i32 a0)]<|eE 0 (.int .u8 (IntKind.wrap .u8 a0)) ?_
 obtain ⟨ag,hm⟩:=aJ hm
 have ah:RCs (α:=UInt8) Z [.int .u8 (IntKind.wrap .u8 a0)] ([UInt8.ofNat (IntKind.wrap .u8 a0).toNat]:List UInt8):=RCs.cons (cs:=[.int .u8 (IntKind.wrap .u8 a0)]) (g7 ag) (RCs.bu _)
 refine dP rfl trivial (c3 (cells:=[.int .u8 (IntKind.wrap .u8 a0)]) (s:=1) (by kernel_rfl)) (by kernel_rfl) hS ?_
 intro U av ai
 refine xn 1<|rt<|a3<|⟨rfl,?_⟩
 obtain rfl:=si hm
 refine ⟨_,_,_,tk U (ResL.nil),ai,?_⟩
 exact ⟨U,[.int .u8 (IntKind.wrap .u8 a0)],rfl,rfl,ah⟩
 refine xn 1<|dF<|s0<|aP 1 hm ?_ ?_ (kd:= .i32)<;>intro aw hm
 refine xn 1<|dT<|sr yX<|eE 3 (.int .u8 (IntKind.wrap .u8 (a6 .i32 192 (bL .i32 a0 6))))<|xq 3 [(18, .int .i32 (a6 .i32 128 (bx .i32 a0 63))),(15, .int .u8 (IntKind.wrap .u8 (a6 .i32 192 (bL .i32 a0 6))))]<|eE 0 (.int .u8 (IntKind.wrap .u8 (a6 .i32 128 (bx .i32 a0 63)))) ?_
 obtain ⟨ab,hm⟩:=aJ hm
 have aj:RCs (α:=UInt8) Z [.int .u8 (IntKind.wrap .u8 (a6 .i32 192 (bL .i32 a0 6))), .int .u8 (IntKind.wrap .u8 (a6 .i32 128 (bx .i32 a0 63)))] ([UInt8.ofNat (IntKind.wrap .u8 (a6 .i32 192 (bL .i32 a0 6))).toNat,UInt8.ofNat (IntKind.wrap .u8 (a6 .i32 128 (bx .i32 a0 63))).toNat]:List UInt8):=RCs.cons (cs:=[.int .u8 (IntKind.wrap .u8 (a6 .i32 192 (bL .i32 a0 6)))]) (g7 ab.1) (RCs.cons (cs:=[.int .u8 (IntKind.wrap .u8 (a6 .i32 128 (bx .i32 a0 63)))]) (g7 ab.2) (RCs.bu _))
 refine dP rfl trivial (c3 (cells:=[.int .u8 (IntKind.wrap .u8 (a6 .i32 192 (bL .i32 a0 6))), .int .u8 (IntKind.wrap .u8 (a6 .i32 128 (bx .i32 a0 63)))]) (s:=1) (by kernel_rfl)) (by kernel_rfl) hS ?_
 intro ad ax ak
 refine xn 1<|rt<|a3<|⟨rfl,?_⟩
 obtain rfl:=si hm
 refine ⟨_,_,_,tk ad (ResL.nil),ak,?_⟩
 exact ⟨ad,[.int .u8 (IntKind.wrap .u8 (a6 .i32 192 (bL .i32 a0 6))), .int .u8 (IntKind.wrap .u8 (a6 .i32 128 (bx .i32 a0 63)))],rfl,rfl,aj⟩
 refine xn 1<|dF<|s0<|aP 1 hm ?_ ?_ (kd:= .i32)<;>intro ay hm
 refine xn 1<|dT<|sr Eb<|eE 3 (.int .u8 (IntKind.wrap .u8 (a6 .i32 224 (bL .i32 a0 12))))<|eE 4 (.int .u8 (IntKind.wrap .u8 (a6 .i32 128 (bx .i32 (bL .i32 a0 6) 63))))<|xq 3 [(35, .int .i32 (a6 .i32 128 (bx .i32 a0 63))),(32, .int .u8 (IntKind.wrap .u8 (a6 .i32 128 (bx .i32 (bL .i32 a0 6) 63)))),(27, .int .u8 (IntKind.wrap .u8 (a6 .i32 224 (bL .i32 a0 12))))] ?_
 refine eE 0 (.int .u8 (IntKind.wrap .u8 (a6 .i32 128 (bx .i32 a0 63)))) ?_
 obtain ⟨I,hm⟩:=aJ hm
 have an:RCs (α:=UInt8) Z [.int .u8 (IntKind.wrap .u8 (a6 .i32 224 (bL .i32 a0 12))), .int .u8 (IntKind.wrap .u8 (a6 .i32 128 (bx .i32 (bL .i32 a0 6) 63))), .int .u8 (IntKind.wrap .u8 (a6 .i32 128 (bx .i32 a0 63)))] ([UInt8.ofNat (IntKind.wrap .u8 (a6 .i32 224 (bL .i32 a0 12))).toNat,UInt8.ofNat (IntKind.wrap .u8 (a6 .i32 128 (bx .i32 (bL .i32 a0 6) 63))).toNat,UInt8.ofNat (IntKind.wrap .u8 (a6 .i32 128 (bx .i32 a0 63))).toNat]:List UInt8):=RCs.cons (cs:=[.int .u8 (IntKind.wrap .u8 (a6 .i32 224 (bL .i32 a0 12)))]) (g7 I.1) (RCs.cons (cs:=[.int .u8 (IntKind.wrap .u8 (a6 .i32 128 (bx .i32 (bL .i32 a0 6) 63)))]) (g7 I.2.1) (RCs.cons (cs:=[.int .u8 (IntKind.wrap .u8 (a6 .i32 128 (bx .i32 a0 63)))]) (g7 I.2.2) (RCs.bu _)))
 refine dP rfl trivial (c3 (cells:=[.int .u8 (IntKind.wrap .u8 (a6 .i32 224 (bL .i32 a0 12))), .int .u8 (IntKind.wrap .u8 (a6 .i32 128 (bx .i32 (bL .i32 a0 6) 63))), .int .u8 (IntKind.wrap .u8 (a6 .i32 128 (bx .i32 a0 63)))]) (s:=1) (by kernel_rfl)) (by kernel_rfl) hS ?_
 intro ae az ao
 refine xn 1<|rt<|a3<|⟨rfl,?_⟩
 obtain rfl:=si hm
 refine ⟨_,_,_,tk ae (ResL.nil),ao,?_⟩
 exact ⟨ae,[.int .u8 (IntKind.wrap .u8 (a6 .i32 224 (bL .i32 a0 12))), .int .u8 (IntKind.wrap .u8 (a6 .i32 128 (bx .i32 (bL .i32 a0 6) 63))), .int .u8 (IntKind.wrap .u8 (a6 .i32 128 (bx .i32 a0 63)))],rfl,rfl,an⟩
 refine xn 1<|dF<|sk<|sr DL<|eE 3 (.int .u8 (IntKind.wrap .u8 (a6 .i32 240 (bL .i32 a0 18))))<|eE 4 (.int .u8 (IntKind.wrap .u8 (a6 .i32 128 (bx .i32 (bL .i32 a0 12) 63))))<|eE 4 (.int .u8 (IntKind.wrap .u8 (a6 .i32 128 (bx .i32 (bL .i32 a0 6) 63))))<|xq 3 [(54, .int .i32 (a6 .i32 128 (bx .i32 a0 63))),(51, .int .u8 (IntKind.wrap .u8 (a6 .i32 128 (bx .i32 (bL .i32 a0 6) 63)))),(46, .int .u8 (IntKind.wrap .u8 (a6 .i32 128 (bx .i32 (bL .i32 a0 12) 63)))),(41, .int .u8 (IntKind.wrap .u8 (a6 .i32 240 (bL .i32 a0 18))))] ?_
 refine eE 0 (.int .u8 (IntKind.wrap .u8 (a6 .i32 128 (bx .i32 a0 63)))) ?_
 obtain ⟨j,hm⟩:=aJ hm
 have aq:RCs (α:=UInt8) Z [.int .u8 (IntKind.wrap .u8 (a6 .i32 240 (bL .i32 a0 18))), .int .u8 (IntKind.wrap .u8 (a6 .i32 128 (bx .i32 (bL .i32 a0 12) 63))), .int .u8 (IntKind.wrap .u8 (a6 .i32 128 (bx .i32 (bL .i32 a0 6) 63))), .int .u8 (IntKind.wrap .u8 (a6 .i32 128 (bx .i32 a0 63)))] ([UInt8.ofNat (IntKind.wrap .u8 (a6 .i32 240 (bL .i32 a0 18))).toNat,UInt8.ofNat (IntKind.wrap .u8 (a6 .i32 128 (bx .i32 (bL .i32 a0 12) 63))).toNat,UInt8.ofNat (IntKind.wrap .u8 (a6 .i32 128 (bx .i32 (bL .i32 a0 6) 63))).toNat,UInt8.ofNat (IntKind.wrap .u8 (a6 .i32 128 (bx .i32 a0 63))).toNat]:List UInt8):=RCs.cons (cs:=[.int .u8 (IntKind.wrap .u8 (a6 .i32 240 (bL .i32 a0 18)))]) (g7 j.1) (RCs.cons (cs:=[.int .u8 (IntKind.wrap .u8 (a6 .i32 128 (bx .i32 (bL .i32 a0 12) 63)))]) (g7 j.2.1) (RCs.cons (cs:=[.int .u8 (IntKind.wrap .u8 (a6 .i32 128 (bx .i32 (bL .i32 a0 6) 63)))]) (g7 j.2.2.1) (RCs.cons (cs:=[.int .u8 (IntKind.wrap .u8 (a6 .i32 128 (bx .i32 a0 63)))]) (g7 j.2.2.2) (RCs.bu _))))
 refine dP rfl trivial (c3 (cells:=[.int .u8 (IntKind.wrap .u8 (a6 .i32 240 (bL .i32 a0 18))), .int .u8 (IntKind.wrap .u8 (a6 .i32 128 (bx .i32 (bL .i32 a0 12) 63))), .int .u8 (IntKind.wrap .u8 (a6 .i32 128 (bx .i32 (bL .i32 a0 6) 63))), .int .u8 (IntKind.wrap .u8 (a6 .i32 128 (bx .i32 a0 63)))]) (s:=1) (by kernel_rfl)) (by kernel_rfl) hS ?_
 intro af aA ar
 refine xn 1<|rt<|⟨rfl,?_⟩
 obtain rfl:=si hm
 refine ⟨_,_,_,tk af (ResL.nil),ar,?_⟩
 exact ⟨af,[.int .u8 (IntKind.wrap .u8 (a6 .i32 240 (bL .i32 a0 18))), .int .u8 (IntKind.wrap .u8 (a6 .i32 128 (bx .i32 (bL .i32 a0 12) 63))), .int .u8 (IntKind.wrap .u8 (a6 .i32 128 (bx .i32 (bL .i32 a0 6) 63))), .int .u8 (IntKind.wrap .u8 (a6 .i32 128 (bx .i32 a0 63)))],rfl,rfl,aq⟩
def Ev:List aN:=[u 10 (mv 0),u 11 (cb .len #[(t 10)] #[9]),u 12 (bc .lss 3 11 2 3),u 13 (mv 12),gn 13 14 (mv 0),gn 13 15 (.index 9 (t 14) (ci 0)),gn 13 16 (.binOp .neq 5 (t 15) (.const (.int .u8 92)) 5),u 17 (pt 13 16)]
def vR:List aN:=[u 19 (mv 0),u 20 (.index 9 (t 19) (ci 1)),u 21 (cf 96 #[(t 20)] #[5]),u 18 (mv 21),u 22 (.extract (t 18) 0),u 23 (.extract (t 18) 1),u 4 (sg 22),u 5 (sg 23)]
def Es:List aN:=[u 26 (mv 0),u 27 (.index 9 (t 26) (ci 1))]
def BU:List aN:=[u 48 (mv 0),u 49 (mv 8),u 50 (.binOp .add 3 (ci 2) (t 49) 3),u 51 (.index 9 (t 48) (t 50)),u 52 (cf 97 #[(t 51)] #[5]),u 9 (sg 52)]
def CS:List aN:=[u 69 (mv 7),u 70 (.convert 3 21 (t 69)),u 71 (cf 98 #[(t 70)] #[21]),u 72 (.convert 31 9 (t 71)),u 73 (mv 6),u 74 (.binOp .add 3 (ci 2) (t 73) 3),u 2 (sg 72),u 3 (sg 74)]
def correctorref5_Escape_l0 (F:Nat) (a0:ar):Nat→Int→Int→Int→Option (Sum (Int×Int) (ar×Int))
 | 0,_,_,_=>none
 | n+1,I,J,j=>
  if j<I then
   if 0≤(af (2+j)) then
    (a0.b[(af (2+j)).toNat]?).bind fun aa=>
    (mS F (aa.toNat:Int)).bind fun U=>
    if U<(0:Int) then
     some (.inr ((⟨[]⟩:ar),0))
    else
     correctorref5_Escape_l0 F a0 n I (af ((af (16 * J))+U)) (af (j+1))
   else none
  else
   some (.inl (I,J))
def correctorref5_Escape (F:Nat) (a0:ar):Option (ar×Int):=
 if (a0.b.length:Int)<(2:Int) then
  some ((⟨[]⟩:ar),0)
 else
  if 0≤(0:Int) then
   (a0.b[(0:Int).toNat]?).bind fun aa=>
   if (aa.toNat:Int)=(92:Int) then
    if 0≤(1:Int) then
     (a0.b[(1:Int).toNat]?).bind fun ab=>
     (nJ F (ab.toNat:Int)).bind fun U=>
     if U.2=true then
      some (U.1,2)
     else
      ((if 0≤(1:Int) then
        (a0.b[(1:Int).toNat]?).bind fun I=>
        if (I.toNat:Int)=(120:Int) then
         some 2
        else
         if (I.toNat:Int)=(117:Int) then
          some 4
         else
          if (I.toNat:Int)=(85:Int) then
           some 8
          else
           some 0
       else none):Option Int).bind fun o=>match o with
       | J=>if J=(0:Int) then
        some ((⟨[]⟩:ar),0)
       else
        if (a0.b.length:Int)<(af (2+J)) then
         some ((⟨[]⟩:ar),0)
        else
         ((correctorref5_Escape_l0 F a0 F J 0 0):Option (Sum (Int×Int) (ar×Int))).bind fun o=>match o with
          | .inl (ad,j)=>((if (1114111:Int)<j then
            some (.inr ((⟨[]⟩:ar),0))
           else
            if (55296:Int)≤j then
             if j≤(57343:Int) then
              some (.inr ((⟨[]⟩:ar),0))
             else
              some (.inl ())
            else
             some (.inl ())):Option (Sum Unit (ar×Int))).bind fun o=>match o with
           | .inl ()=>(nU F (IntKind.wrap .i32 j)).bind fun ae=>
           some ((⟨ae⟩:ar),af (2+ad))
           | .inr y=>some y
          | .inr y=>some y
    else none
   else
    some ((⟨[]⟩:ar),0)
  else none
theorem CW (F:Nat) {h:AH} {Z:Zn} {a0:ar} (hI:Inv Z h) {r:ar×Int} (hm:correctorref5_Escape F a0=some r):
  b3 Try.prog 87 [.string ⟨⟨a0.b⟩⟩] h Z (.tuple #[.string ⟨⟨r.1.b⟩⟩,V r.2]):=by
 refine b4 Try.func87 hI ?_
 intro hs hS
 unfold correctorref5_Escape at hm
 refine sp 2<|sq<|sr Ev<|aP 2 hm ?_ ?_<;>intro a1 hm
 refine xn 5<|dT<|sp 2<|rt<|⟨rfl,?_⟩
 obtain rfl:=si hm
 refine ⟨_,_,_,tk (.string ⟨⟨[]⟩⟩) (tk (V 0) (ResL.nil)),hS,?_⟩
 exact rfl
 refine xq 2 [(14, .string ⟨⟨a0.b⟩⟩),(13, .bool false),(0, .string ⟨⟨a0.b⟩⟩)] ?_
 obtain ⟨aC,hm⟩:=aJ hm
 obtain ⟨a2,aD,hm⟩:=ah hm
 refine bT rfl rfl (jn (bs:=a0.b) (i:=0) rfl rfl (by kernel_rfl) aC aD)<|cS 0 hm ?_ ?_ (kd:= .u8)<;>intro a4 hm
 refine xn 1<|dF<|sk<|sr vR<|xq 1 [(19, .string ⟨⟨a0.b⟩⟩),(0, .string ⟨⟨a0.b⟩⟩)] ?_
 obtain ⟨aE,hm⟩:=aJ hm
 obtain ⟨a5,aF,hm⟩:=ah hm
 refine bT rfl trivial (jn (bs:=a0.b) (i:=1) rfl rfl (by kernel_rfl) aE aF) ?_
 obtain ⟨aH,aK,hm⟩:=ah hm
 refine cP 0 hS (wU F hS.inv aK) ?_
 rintro _ a6 ai rfl
 refine xn 5<|sq<|sp 1<|db hm ?_ ?_<;>intro a7 hm
 refine sp 3<|rt<|⟨rfl,?_⟩
 obtain rfl:=si hm
 refine ⟨_,_,_,tk (.string ⟨⟨aH.1.b⟩⟩) (tk (V 2) (ResL.nil)),ai,?_⟩
 exact rfl
 refine sk<|sp 1<|sq ?_
 obtain ⟨aL,J,hm⟩:=ah hm
 refine aI [0,6] (fun l h=>∃ av aj,aj=aL∧l=[(0, .string ⟨⟨a0.b⟩⟩),(6,V aj)]∧St hs [] Z (0,0) av h []) ?_ ?_
 rintro l a8 ⟨av,aj,rfl,rfl,an⟩
 try dsimp only at hm
 refine sq<|s0<|aG 1 hm ?_ ?_<;>intro a9 hm
 refine xn 7<|dT<|sp 2<|rt<|⟨rfl,?_⟩
 obtain rfl:=si hm
 refine ⟨_,_,_,tk (.string ⟨⟨[]⟩⟩) (tk (V 0) (ResL.nil)),an,?_⟩
 exact rfl
 refine aP 5 hm ?_ ?_<;>intro ba hm
 refine xn 1<|dT<|sp 2<|rt<|⟨rfl,?_⟩
 obtain rfl:=si hm
 refine ⟨_,_,_,tk (.string ⟨⟨[]⟩⟩) (tk (V 0) (ResL.nil)),an,?_⟩
 exact rfl
 refine xn 1<|dF<|sk<|sp 1<|sq<|sp 1 ?_
 obtain ⟨ao,I,hm⟩:=ah hm
 refine aI [6,7] (fun l h=>∃ aw ab ad, .inl (ab,ad)=ao∧l=[(6,V ab),(7,V ad)]∧St hs [] Z (0,0) aw h []) ?_ ?_
 rintro l bb ⟨aw,ab,ad,rfl,rfl,ak⟩
 try dsimp only at hm
 refine sq ?_
 obtain ⟨aM,U,hm⟩:=ah hm
 refine eo [6,7] (fun l h=>∃ ax, .inl ()=aM∧l=[(6,V ab),(7,V ad)]∧St hs [] Z (0,0) ax h []) (by kernel_rfl) ?_ ?_
 rintro l bc ⟨ax,rfl,rfl,ay⟩
 try dsimp only at hm
 refine sr CS<|xq 1 [(69,V ad),(6,V ab)]<|eE 0 (.int .i32 (IntKind.wrap .i32 ad)) ?_
 obtain ⟨aQ,aR,hm⟩:=ah hm
 refine c0 0 ay (By F ay.eJ aR) ?_
 rintro _ bd bf _ bg az ⟨bh,bj,rfl,rfl,aS⟩
 refine bT rfl trivial (vg az (j:=0) rfl aS rfl (by kernel_rfl))<|xn 4<|rt<|⟨rfl,?_⟩
 obtain rfl:=si hm
 refine ⟨_,_,_,tk (.string ⟨⟨aQ⟩⟩) (tk (V (af (2+ab))) (ResL.nil)),az,?_⟩
 exact rfl
 refine g0<|cH 1 U ?_ ?_<;>intro bl U
 refine xn 8<|dT<|sp 2<|rt<|⟨rfl,?_⟩
 obtain rfl:=si U
 obtain rfl:=si hm
 refine ⟨_,_,_,tk (.string ⟨⟨[]⟩⟩) (tk (V 0) (ResL.nil)),ak,?_⟩
 exact rfl
 refine cC 2 U ?_ ?_<;>intro bm U
 refine fH 2 U ?_ ?_<;>intro bn U
 refine xn 2<|dT<|sp 2<|rt<|⟨rfl,?_⟩
 obtain rfl:=si U
 obtain rfl:=si hm
 refine ⟨_,_,_,tk (.string ⟨⟨[]⟩⟩) (tk (V 0) (ResL.nil)),ak,?_⟩
 exact rfl
 refine xn 2<|dF<|sk ?_
 obtain rfl:=si U
 exact ⟨_,rfl,(by kernel_rfl),ak⟩
 refine xn 5<|dF<|sk ?_
 obtain rfl:=si U
 exact ⟨_,rfl,(by kernel_rfl),ak⟩
 refine bk 1<|lp [0,6,7,8] (fun n l h=>∃ aA ae ag aa,correctorref5_Escape_l0 F a0 n ae ag aa=some ao∧l=[(0, .string ⟨⟨a0.b⟩⟩),(6,V ae),(7,V ag),(8,V aa)]∧St hs [] Z (0,0) aA h []) F ⟨_,aj,0,0,I,(by kernel_rfl),an⟩ ?_
 rintro aq l bo ⟨aA,ae,ag,aa,I,rfl,au⟩
 rcases aq with _ | aq
 cases (show none=some ao from I)
 rw [correctorref5_Escape_l0] at I
 refine sq<|s0<|aP 2 I ?_ ?_<;>intro bp I
 refine xn 0<|dT<|sk<|sq<|bk 2<|sr BU<|xq 3 [(50,V (af (2+aa))),(48, .string ⟨⟨a0.b⟩⟩),(0, .string ⟨⟨a0.b⟩⟩),(6,V ae),(7,V ag),(8,V aa)] ?_
 obtain ⟨aU,I⟩:=aJ I
 obtain ⟨bq,aV,I⟩:=ah I
 refine bT rfl trivial (jn (bs:=a0.b) (i:=af (2+aa)) rfl rfl (by kernel_rfl) aU aV) ?_
 obtain ⟨aW,aX,I⟩:=ah I
 refine cP 0 au (BT F au.inv aX) ?_
 rintro _ br aB rfl
 refine xn 1<|sq<|s0<|aP 1 I ?_ ?_<;>intro bu I
 refine xn 0<|dT<|sp 2<|rt<|a3<|a3<|⟨rfl,?_⟩
 obtain rfl:=si I
 obtain rfl:=si hm
 refine ⟨_,_,_,tk (.string ⟨⟨[]⟩⟩) (tk (V 0) (ResL.nil)),aB,?_⟩
 exact rfl
 refine xn 0<|dF<|sk<|gp 5<|gp 3 ?_
 exact ⟨aq,Nat.lt_succ_self _,⟨_,ae,af ((af (16 * ag))+aW),af (aa+1),I,(by kernel_rfl),aB⟩⟩
 refine xn 0<|dF<|xt 1<|aO ?_
 obtain rfl:=si I
 exact ⟨_,ae,ag,rfl,(by kernel_rfl),au⟩
 refine sr Es<|xq 1 [(26, .string ⟨⟨a0.b⟩⟩),(6,V 0),(0, .string ⟨⟨a0.b⟩⟩)] ?_
 obtain ⟨aY,J⟩:=aJ J
 obtain ⟨bw,aZ,J⟩:=ah J
 refine bT rfl trivial (jn (bs:=a0.b) (i:=1) rfl rfl (by kernel_rfl) aY aZ)<|xn 0<|bk 0<|s0<|aG 0 J ?_ ?_ (kd:= .u8)<;>intro bx J
 refine xn 1<|dT<|gp 1 ?_
 obtain rfl:=si J
 exact ⟨_,2,rfl,(by kernel_rfl),ai⟩
 refine xn 1<|dF<|s0<|aG 0 J ?_ ?_ (kd:= .u8)<;>intro bz J
 refine xn 1<|dT<|gp 1 ?_
 obtain rfl:=si J
 exact ⟨_,4,rfl,(by kernel_rfl),ai⟩
 refine xn 1<|dF<|s0<|aG 0 J ?_ ?_ (kd:= .u8)<;>intro bA J
 refine xn 1<|dT<|gp 1 ?_
 obtain rfl:=si J
 exact ⟨_,8,rfl,(by kernel_rfl),ai⟩
 refine xn 1<|dF<|sk ?_
 obtain rfl:=si J
 exact ⟨_,0,rfl,(by kernel_rfl),ai⟩
 refine xn 1<|dT<|sp 2<|rt<|⟨rfl,?_⟩
 obtain rfl:=si hm
 refine ⟨_,_,_,tk (.string ⟨⟨[]⟩⟩) (tk (V 0) (ResL.nil)),hS,?_⟩
 exact rfl
def Bt:List aN:=[u 14 (mv 0),u 15 (mv 7),u 16 (.index 9 (t 14) (t 15)),u 17 (.binOp .eql 5 (t 16) (.const (.int .u8 34)) 5)]
def yG:List aN:=[u 20 (mv 0),u 21 (mv 7),u 22 (.index 9 (t 20) (t 21)),u 23 (.binOp .neq 5 (t 22) (.const (.int .u8 92)) 5)]
def yn:List aN:=[u 24 (mv 5),u 25 (mv 0),u 26 (mv 7),u 27 (mv 7),u 28 (bc .add 3 27 1 3),u 29 (.slice 9 (t 25) (some (t 26)) (some (t 28)) none),u 30 (bo .add 9 24 29 9),u 5 (sg 30)]
def wh:List aN:=[u 34 (mv 0),u 35 (mv 7),u 36 (.slice 9 (t 34) (some (t 35)) none none),u 37 (cf 87 #[(t 36)] #[9]),u 33 (mv 37),u 38 (.extract (t 33) 0),u 39 (.extract (t 33) 1),u 8 (sg 38),u 9 (sg 39)]
def Ed:List aN:=[u 42 (mv 6),u 43 (mv 7),u 44 (.buildSlice 23 1 #[(0,(t 43))]),u 45 (cb .append #[(t 42),(t 44)] #[23,23]),u 6 (sg 45)]
def ER:List aN:=[u 46 (mv 0),u 47 (mv 7),u 48 (mv 7),u 49 (bc .add 3 48 1 3),u 50 (.slice 9 (t 46) (some (t 47)) (some (t 49)) none),u 8 (sg 50),u 9 (.assign (ci 1))]
def CX:List aN:=[u 51 (mv 5),u 52 (mv 8),u 53 (bo .add 9 51 52 9),u 5 (sg 53)]
def correctorref7_double_l0 (F:Nat) (a0:ar):Nat→ar→(List Int)→Int→Option (Sum (ar×(List Int)) (ar×(List Int)×Bool))
 | 0,_,_,_=>none
 | n+1,I,J,j=>
  if j<(a0.b.length:Int) then
   if 0≤j then
    (a0.b[j.toNat]?).bind fun ab=>
    if (ab.toNat:Int)=(34:Int) then
     some (.inr (I,J,true))
    else
     if 0≤j then
      (a0.b[j.toNat]?).bind fun ad=>
      if (ad.toNat:Int)=(92:Int) then
       if 0≤j∧j≤(a0.b.length:Int)∧(a0.b.length:Int)≤(a0.b.length:Int) then
        (correctorref5_Escape F (⟨(a0.b.take (a0.b.length:Int).toNat).drop j.toNat⟩:ar)).bind fun U=>
        ((if U.2=(0:Int) then
          if J.length+([j]:List Int).length≤17592186044416 then
           if 0≤j∧j≤(af (j+1))∧(af (j+1))≤(a0.b.length:Int) then
            some (J++([j]:List Int),(⟨(a0.b.take (af (j+1)).toNat).drop j.toNat⟩:ar),1)
           else none
          else none
         else
          some (J,U.1,U.2)):Option ((List Int)×ar×Int)).bind fun o=>match o with
         | (ae,aa,ag)=>if I.b.length+aa.b.length≤4611686018427387904 then
          correctorref7_double_l0 F a0 n (⟨I.b++aa.b⟩:ar) ae (af (j+ag))
         else none
       else none
      else
       if 0≤j∧j≤(af (j+1))∧(af (j+1))≤(a0.b.length:Int) then
        if I.b.length+((a0.b.take (af (j+1)).toNat).drop j.toNat).length≤4611686018427387904 then
         correctorref7_double_l0 F a0 n (⟨I.b++((a0.b.take (af (j+1)).toNat).drop j.toNat)⟩:ar) J (af (j+1))
        else none
       else none
     else none
   else none
  else
   some (.inl (I,J))
def oc (F:Nat) (a0:ar):Option (ar×(List Int)×Bool):=
 ((correctorref7_double_l0 F a0 F (⟨[]⟩:ar) [] 1):Option (Sum (ar×(List Int)) (ar×(List Int)×Bool))).bind fun o=>match o with
  | .inl (j,I)=>some (j,I,false)
  | .inr y=>some y
theorem Bh (F:Nat) {h:AH} {Z:Zn} {a0:ar} (hP:Pre Z h []) {r:ar×(List Int)×Bool} (hm:oc F a0=some r):
  bQ Try.prog 74 [.string ⟨⟨a0.b⟩⟩] h Z [] fun v Z' A'=>∃ v2 aK, .tuple #[.string ⟨⟨r.1.b⟩⟩,v2, .bool r.2.2]=v∧A'=[.gs v2 aK (aa Int)]∧RCs (α:=Int) Z' aK r.2.1:=by
 refine b6 Try.func74 hP ?_
 intro hs hS
 unfold oc at hm
 replace hS:St hs [] Z (0,0) Z hs []:=hS
 refine sp 3<|sp 1<|sp 1<|sq<|sp 1 ?_
 obtain ⟨aA,J,hm⟩:=ah hm
 refine aI [5,6] (fun l h=>∃ aB au aC ai av, .inl (au,aC)=aA∧RCs (α:=Int) aB av aC∧l=[(5, .string ⟨⟨au.b⟩⟩),(6,ai)]∧St hs [] Z (0,0) aB h [.gs ai av (aa Int)]) ?_ ?_
 rintro l bc ⟨aB,au,aC,ai,av,rfl,aS,rfl,aU⟩
 try dsimp only at hm
 refine sp 5<|rt<|⟨rfl,?_⟩
 obtain rfl:=si hm
 refine ⟨_,_,_,tk (.string ⟨⟨au.b⟩⟩) (tk ai (tk (.bool false) (ResL.nil))),aU,?_⟩
 exact ⟨ai,av,rfl,rfl,aS⟩
 refine bk 0 ?_
 have aV:=hS.dh (aa Int)
 refine lp [0,5,6,7] (fun n l h=>∃ aw U ae I ab ag,correctorref7_double_l0 F a0 n U ae I=some aA∧RCs (α:=Int) aw ag ae∧l=[(0, .string ⟨⟨a0.b⟩⟩),(5, .string ⟨⟨U.b⟩⟩),(6,ab),(7,V I)]∧St hs [] Z (0,0) aw h [.gs ab ag (aa Int)]) F ⟨_,(⟨[]⟩:ar),[],1,(.slice none 0 0),[],J,(RCs.bu _),(by kernel_rfl),aV⟩ ?_
 rintro ax l bd ⟨aw,U,ae,I,ab,ag,J,aj,rfl,ak⟩
 rcases ax with _ | ax
 cases (show none=some aA from J)
 rw [correctorref7_double_l0] at J
 refine sq<|s0<|aP 3 J ?_ ?_<;>intro bf J
 refine xn 0<|dT<|sk<|bk 1<|sq<|sr Bt<|xq 2 [(15,V I),(14, .string ⟨⟨a0.b⟩⟩),(0, .string ⟨⟨a0.b⟩⟩),(5, .string ⟨⟨U.b⟩⟩),(6,ab),(7,V I)] ?_
 obtain ⟨aW,J⟩:=aJ J
 obtain ⟨bg,aX,J⟩:=ah J
 refine bT rfl trivial (jn (bs:=a0.b) (i:=I) rfl rfl (by kernel_rfl) aW aX)<|aG 0 J ?_ ?_ (kd:= .u8)<;>intro bh J
 refine xn 0<|dT<|sp 5<|rt<|a3<|a3<|⟨rfl,?_⟩
 obtain rfl:=si J
 obtain rfl:=si hm
 refine ⟨_,_,_,tk (.string ⟨⟨U.b⟩⟩) (tk ab (tk (.bool true) (ResL.nil))),ak,?_⟩
 exact ⟨ab,ag,rfl,rfl,aj⟩
 refine xn 0<|dF<|sk<|sq<|sr yG<|xq 2 [(21,V I),(20, .string ⟨⟨a0.b⟩⟩),(0, .string ⟨⟨a0.b⟩⟩),(5, .string ⟨⟨U.b⟩⟩),(6,ab),(7,V I)] ?_
 obtain ⟨aY,J⟩:=aJ J
 obtain ⟨bj,aZ,J⟩:=ah J
 refine bT rfl trivial (jn (bs:=a0.b) (i:=I) rfl rfl (by kernel_rfl) aY aZ)<|cS 0 J ?_ ?_ (kd:= .u8)<;>intro bl J
 refine xn 0<|dF<|sk<|sr wh<|xq 2 [(35,V I),(34, .string ⟨⟨a0.b⟩⟩),(0, .string ⟨⟨a0.b⟩⟩),(5, .string ⟨⟨U.b⟩⟩),(6,ab),(7,V I)] ?_
 obtain ⟨aD,J⟩:=aJ J
 refine bT rfl trivial (pc (bs:=a0.b) (a:=I) (b:=(a0.b.length:Int)) rfl (by kernel_rfl) ⟨_,rfl⟩ rfl aD.1 aD.2.1 aD.2.2) ?_
 obtain ⟨aL,a1,J⟩:=ah J
 refine cP 0 ak (CW F (a0:=(⟨(a0.b.take (a0.b.length:Int).toNat).drop I.toNat⟩:ar)) ak.inv a1) ?_
 rintro _ bm aM rfl
 refine xn 5<|sq ?_
 obtain ⟨a2,ad,J⟩:=ah J
 refine eo [0,5,6,7,8,9] (fun l h=>∃ aE ay an ao aq az,(ay,an,ao)=a2∧RCs (α:=Int) aE az ay∧l=[(0, .string ⟨⟨a0.b⟩⟩),(5, .string ⟨⟨U.b⟩⟩),(6,aq),(7,V I),(8, .string ⟨⟨an.b⟩⟩),(9,V ao)]∧St hs [] Z (0,0) aE h [.gs aq az (aa Int)]) (by kernel_rfl) ?_ ?_
 rintro l bn ⟨aE,ay,an,ao,aq,az,rfl,a4,rfl,a5⟩
 try dsimp only at J
 refine sr CX<|xq 2 [(52, .string ⟨⟨an.b⟩⟩),(51, .string ⟨⟨U.b⟩⟩),(0, .string ⟨⟨a0.b⟩⟩),(5, .string ⟨⟨U.b⟩⟩),(6,aq),(7,V I),(9,V ao)] ?_
 obtain ⟨a6,J⟩:=aJ J
 refine bT rfl trivial (pw rfl rfl (by simpa using a6))<|xn 1<|gp 4 ?_
 exact ⟨ax,Nat.lt_succ_self _,⟨_,(⟨U.b++an.b⟩:ar),ay,af (I+ao),aq,az,J,a4,(by kernel_rfl),a5⟩⟩
 refine g0<|aG 1 ad ?_ ?_<;>intro bo ad
 refine xn 0<|dT<|sr Ed<|xq 2 [(43,V I),(42,ab),(0, .string ⟨⟨a0.b⟩⟩),(5, .string ⟨⟨U.b⟩⟩),(6,ab),(7,V I)] ?_
 have a7:RCs (α:=Int) aw [V I] ([I]:List Int):=RCs.cons (cs:=[V I]) rfl (RCs.bu _)
 refine dP rfl trivial (c3 (cells:=[V I]) (s:=1) (by kernel_rfl)) (by kernel_rfl) aM ?_
 intro bp bq aQ
 obtain ⟨br,ad⟩:=aJ ad
 refine eY rfl trivial (dM (ys:=([I]:List Int)) (bP:=8) aQ (i:=1) rfl aj ((aQ).eI (j:=0) rfl a7) rfl rfl (by kernel_rfl) (by omega) (by omega)) ?_
 rintro aR a8 bw ⟨a9,ba⟩
 refine xn 1<|rg ER<|xq 4 [(49,V (af (I+1))),(47,V I),(46, .string ⟨⟨a0.b⟩⟩),(6,aR),(0, .string ⟨⟨a0.b⟩⟩),(5, .string ⟨⟨U.b⟩⟩),(7,V I)] ?_
 obtain ⟨aF,ad⟩:=aJ ad
 refine bT rfl trivial (pc (bs:=a0.b) (a:=I) (b:=af (I+1)) rfl (by kernel_rfl) ⟨_,rfl⟩ ⟨_,rfl⟩ aF.1 aF.2.1 aF.2.2)<|xn 2 ?_
 obtain rfl:=si ad
 exact ⟨_,ae++([I]:List Int),(⟨(a0.b.take (af (I+1)).toNat).drop I.toNat⟩:ar),1,aR,a8,rfl,a9,(by kernel_rfl),((ba.front 1 rfl).takeN 1)⟩
 refine xn 0<|dF<|sk ?_
 obtain rfl:=si ad
 exact ⟨_,ae,aL.1,aL.2,ab,ag,rfl,aj,(by kernel_rfl),aM⟩
 refine xn 0<|dT<|sr yn<|xq 5 [(28,V (af (I+1))),(26,V I),(25, .string ⟨⟨a0.b⟩⟩),(24, .string ⟨⟨U.b⟩⟩),(0, .string ⟨⟨a0.b⟩⟩),(5, .string ⟨⟨U.b⟩⟩),(6,ab),(7,V I)] ?_
 obtain ⟨aH,J⟩:=aJ J
 refine bT rfl trivial (pc (bs:=a0.b) (a:=I) (b:=af (I+1)) rfl (by kernel_rfl) ⟨_,rfl⟩ ⟨_,rfl⟩ aH.1 aH.2.1 aH.2.2) ?_
 obtain ⟨bb,J⟩:=aJ J
 refine bT rfl trivial (pw rfl rfl (by simpa using bb))<|xn 1<|sp 3<|xt 1<|aO ?_
 exact ⟨ax,Nat.lt_succ_self _,⟨_,(⟨U.b++((a0.b.take (af (I+1)).toNat).drop I.toNat)⟩:ar),ae,af (I+1),ab,ag,J,aj,(by kernel_rfl),ak⟩⟩
 refine xn 0<|dF<|xt 0<|aO ?_
 obtain rfl:=si J
 exact ⟨_,U,ae,ab,ag,rfl,aj,(by kernel_rfl),ak⟩
def C5:List aN:=[u 9 (mv 1),u 10 (.binOp .eql 9 (t 9) (.const (.string {data:=#[]})) 9)]
def mU (F:Nat) (a0:Int) (a1:ar):Option (ar×(List Int)×Bool):=
 if a1=(⟨[]⟩:ar) then
  some ((⟨[]⟩:ar),[],false)
 else
  if a0=(15:Int) then
   some (a1,[],true)
  else
   if a0=(16:Int) then
    (n6 F a1).bind fun I=>
    some (I.1,[],I.2)
   else
    if a0=(17:Int) then
     (oc F a1).bind fun j=>
     some (j.1,j.2.1,j.2.2)
    else
     some ((⟨[]⟩:ar),[],false)
theorem A7 (F:Nat) {h:AH} {Z:Zn} {a0:Int} {a1:ar} (hP:Pre Z h []) {r:ar×(List Int)×Bool} (hm:mU F a0 a1=some r):
  bQ Try.prog 50 [V a0, .string ⟨⟨a1.b⟩⟩] h Z [] fun v Z' A'=>∃ v2 I, .tuple #[.string ⟨⟨r.1.b⟩⟩,v2, .bool r.2.2]=v∧A'=[.gs v2 I (aa Int)]∧RCs (α:=Int) Z' I r.2.1:=by
 refine b6 Try.func50 hP ?_
 intro hs hS
 unfold mU at hm
 replace hS:St hs [] Z (0,0) Z hs []:=hS
 refine sp 3<|sq<|sr C5<|xq 1 [(9, .string ⟨⟨a1.b⟩⟩),(0,V a0),(1, .string ⟨⟨a1.b⟩⟩)] ?_
 rcases ifs hm with ⟨j,hm⟩ | ⟨j,hm⟩
 refine bT rfl trivial (a9 rfl rfl (zV (a:=a1) (b:=(⟨[]⟩:ar)) j))<|xn 0<|dT<|sp 3<|rt<|⟨rfl,?_⟩
 have ad:=hS.dh (aa Int)
 obtain rfl:=si hm
 refine ⟨_,_,_,tk (.string ⟨⟨[]⟩⟩) (tk (.slice none 0 0) (tk (.bool false) (ResL.nil))),ad,?_⟩
 exact ⟨(.slice none 0 0),[],rfl,rfl,(RCs.bu _)⟩
 refine bT rfl trivial (a9 rfl rfl (A4 (a:=a1) (b:=(⟨[]⟩:ar)) j))<|xn 0<|dF<|sk<|sq<|sp 1<|bk 0<|s0<|aG 0 hm ?_ ?_<;>intro au hm
 refine xn 1<|dT<|sp 4<|rt<|a3<|⟨rfl,?_⟩
 have ae:=hS.dh (aa Int)
 obtain rfl:=si hm
 refine ⟨_,_,_,tk (.string ⟨⟨a1.b⟩⟩) (tk (.slice none 0 0) (tk (.bool true) (ResL.nil))),ae,?_⟩
 exact ⟨(.slice none 0 0),[],rfl,rfl,(RCs.bu _)⟩
 refine xn 1<|dF<|s0<|aG 0 hm ?_ ?_<;>intro av hm
 refine xn 1<|dT<|s0 ?_
 obtain ⟨J,af,hm⟩:=ah hm
 refine cP 1 hS (xB F hS.inv af) ?_
 rintro _ aw ag rfl
 refine xn 5<|sp 5<|rt<|a3<|⟨rfl,?_⟩
 have ai:=ag.dh (aa Int)
 obtain rfl:=si hm
 refine ⟨_,_,_,tk (.string ⟨⟨J.1.b⟩⟩) (tk (.slice none 0 0) (tk (.bool J.2) (ResL.nil))),ai,?_⟩
 exact ⟨(.slice none 0 0),[],rfl,rfl,(RCs.bu _)⟩
 refine xn 1<|dF<|s0<|aG 0 hm ?_ ?_<;>intro ax hm
 refine xn 1<|dT<|s0 ?_
 obtain ⟨U,aj,hm⟩:=ah hm
 refine c0 1 hS (Bh F hS.eJ aj) ?_
 rintro _ ay az _ aA ak ⟨ab,an,rfl,rfl,ao⟩
 refine xn 6<|rt<|a3<|⟨rfl,?_⟩
 obtain rfl:=si hm
 refine ⟨_,_,_,tk (.string ⟨⟨U.1.b⟩⟩) (tk ab (tk (.bool U.2.2) (ResL.nil))),ak,?_⟩
 exact ⟨ab,an,rfl,rfl,ao⟩
 refine xn 1<|dF<|sk<|sp 3<|rt<|⟨rfl,?_⟩
 have aq:=hS.dh (aa Int)
 obtain rfl:=si hm
 refine ⟨_,_,_,tk (.string ⟨⟨[]⟩⟩) (tk (.slice none 0 0) (tk (.bool false) (ResL.nil))),aq,?_⟩
 exact ⟨(.slice none 0 0),[],rfl,rfl,(RCs.bu _)⟩
def xP:List bt:=[uP 27 (mv 7),uP 28 (mv 8),uP 29 (mv 9),uP 30 (ia 23 28 29),uL 31 (ld 3 30),uP 32 (mv 8),uP 33 (mv 9),uP 34 (ia 23 32 33),uL 35 (ld 3 34),uP 36 (bc .add 3 35 1 3),uP 37 (.build 92 #[(0,(ci 1)),(1,(t 31)),(2,(t 36))]),uF 38 (.buildSlice 28 1 #[(0,(t 37))]) .fresh [],uF 39 (cb .append #[(t 27),(t 38)] #[28,28]) .make [4,8],uP 7 (sg 39)]
def EG:List bt:=[uP 108 (mv 7),uP 109 (mv 1),uP 110 (mv 11),uP 111 (ia 24 109 110),uP 112 (fa 85 111 1),uL 113 (ld 3 112),uP 114 (mv 1),uP 115 (mv 11),uP 116 (ia 24 114 115),uP 117 (fa 85 116 2),uL 118 (ld 3 117),uP 119 (.build 92 #[(0,(ci 2)),(1,(t 113)),(2,(t 118))]),uF 120 (.buildSlice 28 1 #[(0,(t 119))]) .fresh [],uF 121 (cb .append #[(t 108),(t 120)] #[28,28]) .make [5,10],uP 7 (sg 121)]
def CG:List bt:=[uP 143 (mv 1),uP 144 (mv 14),uP 145 (ia 24 143 144),uP 146 (fa 85 145 0),uL 147 (ld 3 146),uP 148 (mv 0),uP 149 (mv 1),uP 150 (mv 14),uP 151 (ia 24 149 150),uP 152 (fa 85 151 1),uL 153 (ld 3 152),uP 154 (mv 1),uP 155 (mv 14),uP 156 (ia 24 154 155),uP 157 (fa 85 156 2),uL 158 (ld 3 157),uP 159 (.slice 31 (t 148) (some (t 153)) (some (t 158)) none),uL 160 (.convert 31 9 (t 159)),uF 161 (cf 50 #[(t 147),(t 160)] #[3,9]) .make [4,10,15,17],uP 142 (mv 161),uP 162 (.extract (t 142) 0),uP 163 (.extract (t 142) 1),uP 164 (.extract (t 142) 2),uP 15 (sg 162),uP 16 (sg 163),uP 17 (sg 164)]
def xT:List bt:=[uP 167 (mv 7),uP 168 (mv 1),uP 169 (mv 14),uP 170 (ia 24 168 169),uP 171 (fa 85 170 1),uL 172 (ld 3 171),uP 173 (mv 1),uP 174 (mv 14),uP 175 (ia 24 173 174),uP 176 (fa 85 175 2),uL 177 (ld 3 176),uP 178 (.build 92 #[(0,(ci 3)),(1,(t 172)),(2,(t 177))]),uF 179 (.buildSlice 28 1 #[(0,(t 178))]) .fresh [],uF 180 (cb .append #[(t 167),(t 179)] #[28,28]) .make [5,10],uP 7 (sg 180)]
def DQ:List bt:=[uP 187 (mv 7),uP 188 (mv 1),uP 189 (mv 14),uP 190 (ia 24 188 189),uP 191 (fa 85 190 1),uL 192 (ld 3 191),uP 193 (mv 16),uP 194 (mv 18),uP 195 (ia 23 193 194),uL 196 (ld 3 195),uP 197 (bo .add 3 192 196 3),uP 198 (mv 1),uP 199 (mv 14),uP 200 (ia 24 198 199),uP 201 (fa 85 200 1),uL 202 (ld 3 201),uP 203 (mv 16),uP 204 (mv 18),uP 205 (ia 23 203 204),uL 206 (ld 3 205),uP 207 (bo .add 3 202 206 3),uP 208 (bc .add 3 207 1 3),uP 209 (.build 92 #[(0,(ci 4)),(1,(t 197)),(2,(t 208))]),uF 210 (.buildSlice 28 1 #[(0,(t 209))]) .fresh [],uF 211 (cb .append #[(t 187),(t 210)] #[28,28]) .make [5,9,15,19],uP 7 (sg 211)]
def correctorref12_told_l0 (F:Nat) (a0:List UInt8) (a1:List al) (ab:List an):Nat→(List aj)→(List Int)→Int→Option (List aj)
 | 0,_,_,_=>none
 | n+1,J,I,j=>
  if j<(I.length:Int) then
   if 0≤j∧j<(I.length:Int) then
    (I[j.toNat]?).bind fun U=>
    if 0≤j∧j<(I.length:Int) then
     (I[j.toNat]?).bind fun aa=>
     if J.length+[(⟨1,U,af (aa+1)⟩:aj)].length≤5864062014805 then
      correctorref12_told_l0 F a0 a1 ab n (J++[(⟨1,U,af (aa+1)⟩:aj)]) I (af (j+1))
     else none
    else none
   else none
  else
   some J
def correctorref12_told_l3 (F:Nat) (a0:List UInt8) (a1:List al) (ab:List an):Nat→(List aj)→Int→Int→Bool→Int→Option ((List aj)×Int×Int×Bool)
 | 0,_,_,_,_,_=>none
 | n+1,J,U,j,aa,I=>
  if 0≤j∧j<(a1.length:Int) then
   (a1[j.toNat]?).bind fun ad=>
   if I<ad.To then
    ((if aa=true then
      some (J,true)
     else
      if 0≤I∧I<(a0.length:Int) then
       (a0[I.toNat]?).bind fun ae=>
       if (ae.toNat:Int)=(9:Int) then
        some (J,true)
       else
        some (J,false)
      else none):Option ((List aj)×Bool)).bind fun o=>match o with
     | (ag,ah)=>correctorref12_told_l3 F a0 a1 ab n ag U j ah (af (I+1))
   else
    some (J,U,j,aa)
  else none
def correctorref12_told_l2 (F:Nat) (a0:List UInt8) (a1:List al) (U:List an):Nat→(List aj)→Int→Int→Option ((List aj)×Int)
 | 0,_,_,_=>none
 | n+1,aa,j,J=>
  if 0≤j∧j<(U.length:Int) then
   (U[j.toNat]?).bind fun ah=>
   if J<ah.To then
    if 0≤j∧j<(U.length:Int) then
     (U[j.toNat]?).bind fun ak=>
     if ak.Kind=(5:Int) then
      if 0≤J∧J<(a1.length:Int) then
       (a1[J.toNat]?).bind fun ao=>
       (fA F ao.Kind).bind fun aq=>
       if aq=true then
        some (aa,j)
       else
        if 0≤J∧J<(a1.length:Int) then
         (a1[J.toNat]?).bind fun ar=>
         ((correctorref12_told_l3 F a0 a1 U F aa j J false ar.ai):Option ((List aj)×Int×Int×Bool)).bind fun o=>match o with
          | (ab,au,I,av)=>((if av=true then
            if 0≤I∧I<(a1.length:Int) then
             (a1[I.toNat]?).bind fun aw=>
             if aw.Kind=(3:Int) then
              some (ab,true)
             else
              some (ab,false)
            else none
           else
            some (ab,false)):Option ((List aj)×Bool)).bind fun o=>match o with
           | (ad,ax)=>((if ax=true then
             if 0≤I∧I<(a1.length:Int) then
              (a1[I.toNat]?).bind fun ae=>
              if 0≤I∧I<(a1.length:Int) then
               (a1[I.toNat]?).bind fun ag=>
               if ad.length+[(⟨2,ae.ai,ag.To⟩:aj)].length≤5864062014805 then
                some (ad++[(⟨2,ae.ai,ag.To⟩:aj)])
               else none
              else none
             else none
            else
             some ad):Option (List aj)).bind fun o=>match o with
            | ay=>correctorref12_told_l2 F a0 a1 U n ay au (af (I+1))
        else none
      else none
     else
      some (aa,j)
    else none
   else
    some (aa,j)
  else none
def correctorref12_told_l1 (F:Nat) (a0:List UInt8) (a1:List al) (j:List an):Nat→(List aj)→Int→Option (List aj)
 | 0,_,_=>none
 | n+1,J,I=>
  if I<(j.length:Int) then
   if 0≤I∧I<(j.length:Int) then
    (j[I.toNat]?).bind fun U=>
    ((correctorref12_told_l2 F a0 a1 j F J I U.ai):Option ((List aj)×Int)).bind fun o=>match o with
     | (aa,ab)=>correctorref12_told_l1 F a0 a1 j n aa (af (ab+1))
   else none
  else
   some J
def correctorref12_told_l5 (F:Nat) (a0:List UInt8) (a1:List al) (ag:List an):Nat→(List aj)→Int→(List Int)→Int→Option ((List aj)×Int)
 | 0,_,_,_,_=>none
 | n+1,U,j,J,I=>
  if I<(J.length:Int) then
   if 0≤j∧j<(a1.length:Int) then
    (a1[j.toNat]?).bind fun aa=>
    if 0≤I∧I<(J.length:Int) then
     (J[I.toNat]?).bind fun ab=>
     if 0≤j∧j<(a1.length:Int) then
      (a1[j.toNat]?).bind fun ad=>
      if 0≤I∧I<(J.length:Int) then
       (J[I.toNat]?).bind fun ae=>
       if U.length+[(⟨4,af (aa.ai+ab),af ((af (ad.ai+ae))+1)⟩:aj)].length≤5864062014805 then
        correctorref12_told_l5 F a0 a1 ag n (U++[(⟨4,af (aa.ai+ab),af ((af (ad.ai+ae))+1)⟩:aj)]) j J (af (I+1))
       else none
      else none
     else none
    else none
   else none
  else
   some (U,j)
def correctorref12_told_l4 (F:Nat) (a0:List UInt8) (a1:List al) (ad:List an):Nat→(List aj)→Int→Option (List aj)
 | 0,_,_=>none
 | n+1,I,j=>
  if j<(a1.length:Int) then
   ((((if 0≤j∧j<(a1.length:Int) then
      (a1[j.toNat]?).bind fun ah=>
      if ah.Kind=(16:Int) then
       some (.inl I)
      else
       if 0≤j∧j<(a1.length:Int) then
        (a1[j.toNat]?).bind fun ak=>
        if ak.Kind=(17:Int) then
         some (.inl I)
        else
         some (.inr (I,j))
       else none
     else none):Option (Sum (List aj) ((List aj)×Int))).bind fun o=>match o with
     | .inl J=>if 0≤j∧j<(a1.length:Int) then
      (a1[j.toNat]?).bind fun ao=>
      if 0≤j∧j<(a1.length:Int) then
       (a1[j.toNat]?).bind fun U=>
       if 0≤j∧j<(a1.length:Int) then
        (a1[j.toNat]?).bind fun aa=>
        if 0≤U.ai∧U.ai≤aa.To∧aa.To≤(a0.length:Int) then
         (mU F ao.Kind (⟨(a0.take aa.To.toNat).drop U.ai.toNat⟩:ar)).bind fun ab=>
         ((if ab.2.2=true then
           some (J,ab.2.1)
          else
           if 0≤j∧j<(a1.length:Int) then
            (a1[j.toNat]?).bind fun ae=>
            if 0≤j∧j<(a1.length:Int) then
             (a1[j.toNat]?).bind fun ag=>
             if J.length+[(⟨3,ae.ai,ag.To⟩:aj)].length≤5864062014805 then
              some (J++[(⟨3,ae.ai,ag.To⟩:aj)],ab.2.1)
             else none
            else none
           else none):Option ((List aj)×(List Int))).bind fun o=>match o with
          | (aq,au)=>((correctorref12_told_l5 F a0 a1 ad F aq j au 0):Option ((List aj)×Int)).bind fun o=>match o with
           | (av,aw)=>some (av,aw)
        else none
       else none
      else none
     else none
     | .inr y=>some y):Option ((List aj)×Int)).bind fun o=>match o with
    | (ax,ay)=>correctorref12_told_l4 F a0 a1 ad n ax (af (ay+1))
  else
   some I
def mT (F:Nat) (a0:List UInt8) (a1:List al) (j:List an):Option (List aj):=
 (n5 F a0).bind fun I=>
 ((correctorref12_told_l0 F a0 a1 j F [] I 0):Option (List aj)).bind fun o=>match o with
  | J=>((correctorref12_told_l1 F a0 a1 j F J 0):Option (List aj)).bind fun o=>match o with
   | U=>((correctorref12_told_l4 F a0 a1 j F U 0):Option (List aj)).bind fun o=>match o with
    | aa=>some aa
theorem BQ (F:Nat) {h:AH} {Z:Zn} {a0:List UInt8} {a1:List al} {bh:List an} {v2 v4 v6} (hP:Pre Z h []) (ck:RS (α:=UInt8) Z v2 a0) (U:RS (α:=al) Z v4 a1) (bn:RS (α:=an) Z v6 bh) {r:(List aj)} (hm:mT F a0 a1 bh=some r):
  bQ Try.prog 24 [v2,v4,v6] h Z [] fun v Z' A'=>∃ eu ew,eu=v∧A'=[.gs eu ew (aa aj)]∧RCs (α:=aj) Z' ew r:=by
 refine b6 Try.func24 hP ?_
 intro hs hS
 unfold mT at hm
 replace hS:St hs [] Z (0,0) Z hs []:=hS
 refine sp 1<|sp 1<|s0 ?_
 obtain ⟨fx,fy,hm⟩:=ah hm
 refine c0 1 hS (xc F hS.eJ ck fy) ?_
 rintro _ hB hC _ hD fz ⟨fA,fB,rfl,rfl,fC⟩
 refine xn 1<|sq<|sp 1 ?_
 obtain ⟨dv,au,hm⟩:=ah hm
 refine aI [0,1,2,7] (fun l h=>∃ dx cl cm cn,cl=dv∧RCs (α:=aj) dx cn cl∧l=[(0,v2),(1,v4),(2,v6),(7,cm)]∧St hs [] Z (0,0) dx h [.gs cm cn (aa aj)]) ?_ ?_
 rintro l hE ⟨dx,cl,cm,cn,rfl,fD,rfl,fE⟩
 try dsimp only at hm
 refine sq<|sp 1 ?_
 obtain ⟨dz,ay,hm⟩:=ah hm
 refine aI [0,1,7] (fun l h=>∃ dA cq cr cu,cq=dz∧RCs (α:=aj) dA cu cq∧l=[(0,v2),(1,v4),(7,cr)]∧St hs [] Z (0,0) dA h [.gs cr cu (aa aj)]) ?_ ?_
 rintro l hF ⟨dA,cq,cr,cu,rfl,fF,rfl,fG⟩
 try dsimp only at hm
 refine sq<|sp 1 ?_
 obtain ⟨dB,aW,hm⟩:=ah hm
 refine aI [7] (fun l h=>∃ dC dD b1 cv,dD=dB∧RCs (α:=aj) dC cv dD∧l=[(7,b1)]∧St hs [] Z (0,0) dC h [.gs b1 cv (aa aj)]) ?_ ?_
 rintro l hG ⟨dC,dD,b1,cv,rfl,fH,rfl,fI⟩
 try dsimp only at hm
 refine sp 2<|rt<|⟨rfl,?_⟩
 obtain rfl:=si hm
 refine ⟨_,_,_,tk b1 (ResL.nil),fI,?_⟩
 exact ⟨b1,cv,rfl,rfl,fH⟩
 refine bk 8<|lp [0,1,7,14] (fun n l h=>∃ dG bo J bp bq,correctorref12_told_l4 F a0 a1 bh n bo J=some dB∧RCs (α:=aj) dG bq bo∧l=[(0,v2),(1,v4),(7,bp),(14,V J)]∧St hs [] Z (0,0) dG h [.gs bp bq (aa aj)]) F ⟨_,cq,0,cr,cu,aW,fF,(by kernel_rfl),fG⟩ ?_
 rintro dH l hH ⟨dG,bo,J,bp,bq,aW,cw,rfl,aX⟩
 rcases dH with _ | dH
 cases (show none=some dB from aW)
 rw [correctorref12_told_l4] at aW
 refine sq<|s0<|bD 2 v4 (RS.len (U.mono aX.ag))<|aP 0 aW ?_ ?_<;>intro hI aW
 refine xn 0<|dT<|sk<|sq ?_
 obtain ⟨fJ,ab,aW⟩:=ah aW
 refine aI [0,1,7,14] (fun l h=>∃ dI cx cz cA cB,(cx,cz)=fJ∧RCs (α:=aj) dI cB cx∧l=[(0,v2),(1,v4),(7,cA),(14,V cz)]∧St hs [] Z (0,0) dI h [.gs cA cB (aa aj)]) ?_ ?_
 rintro l hJ ⟨dI,cx,cz,cA,cB,rfl,fK,rfl,fL⟩
 try dsimp only at aW
 refine gp 3 ?_
 exact ⟨dH,Nat.lt_succ_self _,⟨_,cx,af (cz+1),cA,cB,aW,fK,(by kernel_rfl),fL⟩⟩
 refine bk 9<|sq ?_
 obtain ⟨fM,az,ab⟩:=ah ab
 refine aI [0,1,7,14] (fun l h=>∃ dJ b2 ae bI, .inl b2=fM∧RCs (α:=aj) dJ bI b2∧l=[(0,v2),(1,v4),(7,ae),(14,V J)]∧St hs [] Z (0,0) dJ h [.gs ae bI (aa aj)]) ?_ ?_
 rintro l hK ⟨dJ,b2,ae,bI,rfl,ez,rfl,aQ⟩
 try dsimp only at ab
 refine cU CG aQ ?_
 intro hL hM hN bK
 refine yq 2 [(144,V J),(143,v4),(0,v2),(1,v4),(7,ae),(14,V J)] ?_
 obtain ⟨eA,ab⟩:=aJ ab
 refine aD rfl trivial (bA rfl rfl (by kernel_rfl:slTy _ _=some (aa al)) (RS.cQ (U.mono aQ.ag) (by omega)) eA.1 eA.2)<|yq 1 [(146, .pointer (some (ba v4 J (aa al) 0))),(0,v2),(1,v4),(7,ae),(14,V J)] ?_
 obtain ⟨bL,fN,ab⟩:=ah ab
 obtain ⟨hO,fO,fP⟩:=RS.bR (U.mono aQ.ag) (i:=J) fN
 obtain rfl:=eZ fO
 refine ct rfl rfl trivial (fun h2 hz=>bH (w:=V bL.Kind) (fP h2 hz) rfl (by kernel_rfl)) (bK.bM (aM.refl _)) (aC (v:=V bL.Kind) trivial) trivial<|yq 3 [(150,V J),(149,v4),(148,v2),(147,V bL.Kind),(0,v2),(1,v4),(7,ae),(14,V J)] ?_
 obtain ⟨eB,ab⟩:=aJ ab
 refine aD rfl trivial (bA rfl rfl (by kernel_rfl:slTy _ _=some (aa al)) (RS.cQ (U.mono aQ.ag) (by omega)) eB.1 eB.2)<|yq 1 [(152, .pointer (some (ba v4 J (aa al) 1))),(148,v2),(147,V bL.Kind),(0,v2),(1,v4),(7,ae),(14,V J)] ?_
 obtain ⟨bO,fQ,ab⟩:=ah ab
 obtain ⟨hQ,fS,fT⟩:=RS.bR (U.mono aQ.ag) (i:=J) fQ
 obtain rfl:=eZ fS
 refine ct rfl rfl trivial (fun h2 hz=>bH (w:=V bO.ai) (fT h2 hz) rfl (by kernel_rfl)) (bK.bM (aM.refl _)) (aC (v:=V bO.ai) trivial) trivial<|yq 2 [(155,V J),(154,v4),(153,V bO.ai),(148,v2),(147,V bL.Kind),(0,v2),(1,v4),(7,ae),(14,V J)] ?_
 obtain ⟨eC,ab⟩:=aJ ab
 refine aD rfl trivial (bA rfl rfl (by kernel_rfl:slTy _ _=some (aa al)) (RS.cQ (U.mono aQ.ag) (by omega)) eC.1 eC.2)<|yq 1 [(157, .pointer (some (ba v4 J (aa al) 2))),(153,V bO.ai),(148,v2),(147,V bL.Kind),(0,v2),(1,v4),(7,ae),(14,V J)] ?_
 obtain ⟨cC,fU,ab⟩:=ah ab
 obtain ⟨hR,fV,fW⟩:=RS.bR (U.mono aQ.ag) (i:=J) fU
 obtain rfl:=eZ fV
 refine ct rfl rfl trivial (fun h2 hz=>bH (w:=V cC.To) (fW h2 hz) rfl (by kernel_rfl)) (bK.bM (aM.refl _)) (aC (v:=V cC.To) trivial) trivial ?_
 obtain ⟨dK,ab⟩:=aJ ab
 refine pn rfl trivial (iW (a:=bO.ai) (b:=cC.To) (ck.mono aQ.ag) rfl (by kernel_rfl:slTy _ _=some (aa UInt8)) ⟨_,rfl⟩ ⟨_,rfl⟩ dK.1 dK.2.1 dK.2.2) ?_
 intro hT fX
 refine ct rfl rfl trivial (BG fX rfl (by kernel_rfl)) (bK.bM (aM.refl _)) (aC (by trivial)) trivial ?_
 obtain ⟨dL,fY,ab⟩:=ah ab
 have fZ:=bK.cM
 have eD:St _ _ _ _ _ _ ([]++[.gs ae bI (aa aj)]):=fZ
 obtain ⟨hU,hV,ga,hW,gb,dN,a8,dO,rfl,rfl,eE⟩:=A7 F (a1:=(⟨(a0.take cC.To.toNat).drop bO.ai.toNat⟩:ar)) eD.eF fY
 have gd:=eD.call dN
 have bS:=dN.ag
 refine fv rfl trivial bK (dy gb rfl rfl rfl) gd (St.fw dN) ?_
 intro hX gf
 refine ye 7 [(17, .bool dL.2.2),(16,a8),(0,v2),(1,v4),(7,ae),(14,V J)] ?_
 have eG:=gf.aY
 refine sq ?_
 obtain ⟨gg,aF,ab⟩:=ah ab
 refine aI [0,1,7,14,16] (fun l h=>∃ cD cE cF cG cH cI cJ,(cE,cF)=gg∧RCs (α:=aj) cD cH cE∧RCs (α:=Int) cD cJ cF∧l=[(0,v2),(1,v4),(7,cG),(14,V J),(16,cI)]∧St hs [] Z (0,0) cD h [.gs cG cH (aa aj), .gs cI cJ (aa Int)]) ?_ ?_
 rintro l hY ⟨cD,cE,cF,cG,cH,cI,cJ,rfl,gh,gi,rfl,gj⟩
 try dsimp only at ab
 refine sp 1 ?_
 obtain ⟨dP,ad,ab⟩:=ah ab
 refine aI [0,1,7,14] (fun l h=>∃ dQ cK cL cN cO,(cK,cL)=dP∧RCs (α:=aj) dQ cO cK∧l=[(0,v2),(1,v4),(7,cN),(14,V cL)]∧St hs [] Z (0,0) dQ h [.gs cN cO (aa aj)]) ?_ ?_
 rintro l hZ ⟨dQ,cK,cL,cN,cO,rfl,gk,rfl,gl⟩
 try dsimp only at ab
 obtain rfl:=si ab
 exact ⟨_,cK,cL,cN,cO,rfl,gk,(by kernel_rfl),gl⟩
 refine bk 10<|lp [0,1,7,14,16,18] (fun n l h=>∃ b3 b4 ao cR aw aq b5 ak b7,correctorref12_told_l5 F a0 a1 bh n b4 ao cR aw=some dP∧RCs (α:=aj) b3 b5 b4∧RCs (α:=Int) b3 b7 cR∧l=[(0,v2),(1,v4),(7,aq),(14,V ao),(16,ak),(18,V aw)]∧St hs [] Z (0,0) b3 h [.gs aq b5 (aa aj), .gs ak b7 (aa Int)]) F ⟨_,cE,J,cF,0,cG,cH,cI,cJ,ad,gh,gi,(by kernel_rfl),gj⟩ ?_
 rintro dR l h3 ⟨b3,b4,ao,cR,aw,aq,b5,ak,b7,ad,eH,bj,rfl,br⟩
 rcases dR with _ | dR
 cases (show none=some dP from ad)
 rw [correctorref12_told_l5] at ad
 refine sq<|s0<|bD 2 ak (br.dn (i:=1) rfl bj)<|aP 0 ad ?_ ?_<;>intro h4 ad
 refine xn 0<|dT<|sk<|sq<|bk 11<|ey DQ br ?_
 intro eK h5 eL bg
 refine yq 3 [(189,V ao),(188,v4),(187,aq),(0,v2),(1,v4),(7,aq),(14,V ao),(16,ak),(18,V aw)] ?_
 obtain ⟨eM,ad⟩:=aJ ad
 refine aD rfl trivial (bA rfl rfl (by kernel_rfl:slTy _ _=some (aa al)) (RS.cQ (U.mono br.ag) (by omega)) eM.1 eM.2)<|yq 1 [(191, .pointer (some (ba v4 ao (aa al) 1))),(187,aq),(0,v2),(1,v4),(7,aq),(14,V ao),(16,ak),(18,V aw)] ?_
 obtain ⟨aH,gm,ad⟩:=ah ad
 obtain ⟨h6,gn,gq⟩:=RS.bR (U.mono br.ag) (i:=ao) gm
 obtain rfl:=eZ gn
 refine ct rfl rfl trivial (fun h2 hz=>bH (w:=V aH.ai) (gq h2 hz) rfl (by kernel_rfl)) (bg.bM (aM.refl _)) (aC (v:=V aH.ai) trivial) trivial<|yq 2 [(194,V aw),(193,ak),(192,V aH.ai),(187,aq),(0,v2),(1,v4),(7,aq),(14,V ao),(16,ak),(18,V aw)] ?_
 obtain ⟨eN,ad⟩:=aJ ad
 refine aD rfl trivial (bA rfl rfl (by kernel_rfl:slTy _ _=some (aa Int)) (bg.bN (j:=1) rfl bj (by omega)) eN.1 eN.2) ?_
 obtain ⟨aL,eO,ad⟩:=ah ad
 obtain ⟨h7,gr,gu,h8⟩:=bg.cp (j:=1) rfl bj (i:=aw) eO
 obtain rfl:=ji gr
 have gv:=dw eO
 have eP:=bg.bN (j:=1) rfl bj gv
 have h9:(baseOf ak).block<eK:=dk (eL.1 _ (List.mem_of_getElem? (i:=1) rfl)) eP
 refine dt rfl trivial rfl (by show (baseOf ak).block<_;omega) (aC (v:=V aL) trivial) (bH (w:=V aL) gu rfl (by kernel_rfl)) trivial<|yq 3 [(199,V ao),(198,v4),(197,V (af (aH.ai+aL))),(187,aq),(0,v2),(1,v4),(7,aq),(14,V ao),(16,ak),(18,V aw)] ?_
 obtain ⟨eQ,ad⟩:=aJ ad
 refine aD rfl trivial (bA rfl rfl (by kernel_rfl:slTy _ _=some (aa al)) (RS.cQ (U.mono br.ag) (by omega)) eQ.1 eQ.2)<|yq 1 [(201, .pointer (some (ba v4 ao (aa al) 1))),(197,V (af (aH.ai+aL))),(187,aq),(0,v2),(1,v4),(7,aq),(14,V ao),(16,ak),(18,V aw)] ?_
 obtain ⟨aZ,gw,ad⟩:=ah ad
 obtain ⟨ia,gx,gy⟩:=RS.bR (U.mono br.ag) (i:=ao) gw
 obtain rfl:=eZ gx
 refine ct rfl rfl trivial (fun h2 hz=>bH (w:=V aZ.ai) (gy h2 hz) rfl (by kernel_rfl)) (bg.bM (aM.refl _)) (aC (v:=V aZ.ai) trivial) trivial<|yq 2 [(204,V aw),(203,ak),(202,V aZ.ai),(197,V (af (aH.ai+aL))),(187,aq),(0,v2),(1,v4),(7,aq),(14,V ao),(16,ak),(18,V aw)] ?_
 obtain ⟨eR,ad⟩:=aJ ad
 refine aD rfl trivial (bA rfl rfl (by kernel_rfl:slTy _ _=some (aa Int)) (bg.bN (j:=1) rfl bj (by omega)) eR.1 eR.2) ?_
 obtain ⟨a9,eS,ad⟩:=ah ad
 obtain ⟨ib,gz,gA,ic⟩:=bg.cp (j:=1) rfl bj (i:=aw) eS
 obtain rfl:=ji gz
 have gB:=dw eS
 have eT:=bg.bN (j:=1) rfl bj gB
 have ie:(baseOf ak).block<eK:=dk (eL.1 _ (List.mem_of_getElem? (i:=1) rfl)) eT
 refine dt rfl trivial rfl (by show (baseOf ak).block<_;omega) (aC (v:=V a9) trivial) (bH (w:=V a9) gA rfl (by kernel_rfl)) trivial<|yq 3 [(209, .agg #[V 4,V (af (aH.ai+aL)),V (af ((af (aZ.ai+a9))+1))]),(187,aq),(0,v2),(1,v4),(7,aq),(14,V ao),(16,ak),(18,V aw)] ?_
 have gC:RCs (α:=aj) b3 [V 4,V (af (aH.ai+aL)),V (af ((af (aZ.ai+a9))+1))] [(⟨4,af (aH.ai+aL),af ((af (aZ.ai+a9))+1)⟩:aj)]:=RCs.cons (cs:=[V 4,V (af (aH.ai+aL)),V (af ((af (aZ.ai+a9))+1))]) rfl (RCs.bu _)
 refine jE rfl trivial (c3 (cells:=[V 4,V (af (aH.ai+aL)),V (af ((af (aZ.ai+a9))+1))]) (s:=3) (by kernel_rfl)) (by kernel_rfl) bg (by omega) (Nat.add_lt_add_left (by decide) _) ?_
 intro gD ig ij ik il eU
 obtain ⟨im,ad⟩:=aJ ad
 have cT:St _ _ _ _ _ _ ([.gs aq b5 (aa aj)]++[.gs gD [V 4,V (af (aH.ai+aL)),V (af ((af (aZ.ai+a9))+1))] (aa aj), .gs ak b7 (aa Int)]):=(eU.front 1 rfl)
 refine iK rfl trivial cT (dM (ys:=[(⟨4,af (aH.ai+aL),af ((af (aZ.ai+a9))+1)⟩:aj)]) (bP:=24) cT.sub (i:=0) rfl eH ((eU.cM).eI (j:=0) rfl gC) rfl rfl (by kernel_rfl) (by omega) (by omega)) (aM.refl _) (.a5 (cT.bJ 1 rfl (kZ eT)) (.a5 trivial (.a5 (cT.bJ 1 rfl (kZ eP)) (.a5 trivial .nil)))) ?_
 rintro eV gE iq ⟨gF,gG⟩
 refine ye 1 [(7,eV),(0,v2),(1,v4),(14,V ao),(16,ak),(18,V aw)] ?_
 have gH:=gG.aY
 refine gp 3 ?_
 exact ⟨dR,Nat.lt_succ_self _,⟨_,b4++[(⟨4,af (aH.ai+aL),af ((af (aZ.ai+a9))+1)⟩:aj)],ao,cR,af (aw+1),eV,gE,ak,b7,ad,gF,bj,(by kernel_rfl),(((gH.front 2 rfl).front 1 rfl).takeN 2)⟩⟩
 refine xn 0<|dF<|xt 10<|aO ?_
 obtain rfl:=si ad
 exact ⟨_,b4,ao,aq,b5,rfl,eH,(by kernel_rfl),(br.takeN 1)⟩
 refine s0<|kb 1 165 aF ?_ ?_<;>intro ir aF
 refine xn 1<|dF<|sk ?_
 obtain rfl:=si aF
 exact ⟨_,b2,dL.2.1,ae,bI,a8,dO,rfl,(ez.mono bS),eE,(by kernel_rfl),((eG.front 0 rfl).front 1 rfl)⟩
 refine xn 1<|dT<|ey xT eG ?_
 intro iu iv iw dS
 refine yq 3 [(169,V J),(168,v4),(167,ae),(16,a8),(0,v2),(1,v4),(7,ae),(14,V J)] ?_
 obtain ⟨eW,aF⟩:=aJ aF
 refine aD rfl trivial (bA rfl rfl (by kernel_rfl:slTy _ _=some (aa al)) (RS.cQ (U.mono (aQ.ag.trans bS)) (by omega)) eW.1 eW.2)<|yq 1 [(171, .pointer (some (ba v4 J (aa al) 1))),(167,ae),(16,a8),(0,v2),(1,v4),(7,ae),(14,V J)] ?_
 obtain ⟨aR,gI,aF⟩:=ah aF
 obtain ⟨ix,gJ,gK⟩:=RS.bR (U.mono (aQ.ag.trans bS)) (i:=J) gI
 obtain rfl:=eZ gJ
 refine ct rfl rfl trivial (fun h2 hz=>bH (w:=V aR.ai) (gK h2 hz) rfl (by kernel_rfl)) (dS.bM (aM.refl _)) (aC (v:=V aR.ai) trivial) trivial<|yq 2 [(174,V J),(173,v4),(172,V aR.ai),(167,ae),(16,a8),(0,v2),(1,v4),(7,ae),(14,V J)] ?_
 obtain ⟨eX,aF⟩:=aJ aF
 refine aD rfl trivial (bA rfl rfl (by kernel_rfl:slTy _ _=some (aa al)) (RS.cQ (U.mono (aQ.ag.trans bS)) (by omega)) eX.1 eX.2)<|yq 1 [(176, .pointer (some (ba v4 J (aa al) 2))),(172,V aR.ai),(167,ae),(16,a8),(0,v2),(1,v4),(7,ae),(14,V J)] ?_
 obtain ⟨bb,gL,aF⟩:=ah aF
 obtain ⟨iy,gM,gN⟩:=RS.bR (U.mono (aQ.ag.trans bS)) (i:=J) gL
 obtain rfl:=eZ gM
 refine ct rfl rfl trivial (fun h2 hz=>bH (w:=V bb.To) (gN h2 hz) rfl (by kernel_rfl)) (dS.bM (aM.refl _)) (aC (v:=V bb.To) trivial) trivial<|yq 1 [(178, .agg #[V 3,V aR.ai,V bb.To]),(167,ae),(16,a8),(0,v2),(1,v4),(7,ae),(14,V J)] ?_
 have gO:RCs (α:=aj) ga [V 3,V aR.ai,V bb.To] [(⟨3,aR.ai,bb.To⟩:aj)]:=RCs.cons (cs:=[V 3,V aR.ai,V bb.To]) rfl (RCs.bu _)
 refine jE rfl trivial (c3 (cells:=[V 3,V aR.ai,V bb.To]) (s:=3) (by kernel_rfl)) (by kernel_rfl) dS (by omega) (Nat.add_lt_add_left (by decide) _) ?_
 intro gP iz iA iB iC eY
 obtain ⟨iD,aF⟩:=aJ aF
 have e0:St _ _ _ _ _ _ ([.gs ae bI (aa aj)]++[.gs gP [V 3,V aR.ai,V bb.To] (aa aj), .gs a8 dO (aa Int)]):=(eY.front 2 rfl)
 refine iK rfl trivial e0 (dM (ys:=[(⟨3,aR.ai,bb.To⟩:aj)]) (bP:=24) e0.sub (i:=0) rfl (ez.mono bS) ((eY.cM).eI (j:=0) rfl gO) rfl rfl (by kernel_rfl) (by omega) (by omega)) (aM.refl _) (.a5 trivial (.a5 trivial .nil)) ?_
 rintro e2 gQ iE ⟨gR,gS⟩
 refine ye 1 [(7,e2),(16,a8),(0,v2),(1,v4),(14,V J)] ?_
 have gT:=gS.aY
 obtain rfl:=si aF
 exact ⟨_,b2++[(⟨3,aR.ai,bb.To⟩:aj)],dL.2.1,e2,gQ,a8,dO,rfl,gR,eE,(by kernel_rfl),(((gT.front 2 rfl).front 1 rfl).takeN 2)⟩
 refine s0<|a2 2 az (U.mono aX.ag) ?_
 intro iF az
 refine bm 1 0 (fun e3=>V e3.Kind) az (U.mono aX.ag) aX ?_
 intro e3 iG az
 refine cS 0 az ?_ ?_<;>intro iH az
 refine xn 8<|dF<|sk ?_
 obtain rfl:=si az
 exact ⟨_,bo,bp,bq,rfl,cw,(by kernel_rfl),aX⟩
 refine a2 3 az (U.mono aX.ag) ?_
 intro iI az
 refine bm 1 0 (fun e4=>V e4.Kind) az (U.mono aX.ag) aX ?_
 intro e4 iJ az
 refine cS 0 az ?_ ?_<;>intro iL az
 refine xn 1<|dF<|sk ?_
 obtain rfl:=si az
 exact ⟨_,bo,bp,bq,rfl,cw,(by kernel_rfl),aX⟩
 refine xn 1<|dT<|xt 9<|aO ?_
 obtain rfl:=si az
 obtain rfl:=si ab
 exact ⟨_,bo,J,bp,bq,rfl,cw,(by kernel_rfl),aX⟩
 refine xn 0<|dF<|xt 8<|aO ?_
 obtain rfl:=si aW
 exact ⟨_,bo,bp,bq,rfl,cw,(by kernel_rfl),aX⟩
 refine bk 2<|lp [0,1,2,7,10] (fun n l h=>∃ dU b8 cX b9 ca,correctorref12_told_l1 F a0 a1 bh n b8 cX=some dz∧RCs (α:=aj) dU ca b8∧l=[(0,v2),(1,v4),(2,v6),(7,b9),(10,V cX)]∧St hs [] Z (0,0) dU h [.gs b9 ca (aa aj)]) F ⟨_,cl,0,cm,cn,ay,fD,(by kernel_rfl),fE⟩ ?_
 rintro dV l iM ⟨dU,b8,cX,b9,ca,ay,e5,rfl,bT⟩
 rcases dV with _ | dV
 cases (show none=some dz from ay)
 rw [correctorref12_told_l1] at ay
 refine sq<|s0<|bD 2 v6 (RS.len (bn.mono bT.ag))<|aP 0 ay ?_ ?_<;>intro iN ay
 refine xn 0<|dT<|sk<|sq<|bk 3<|s0<|a2 2 ay (bn.mono bT.ag) ?_
 intro iO ay
 refine bm 1 1 (fun dW=>V dW.ai) ay (bn.mono bT.ag) bT ?_
 intro dW iP ay
 refine xn 1 ?_
 obtain ⟨dX,I,ay⟩:=ah ay
 refine aI [0,1,2,7,10] (fun l h=>∃ dY c4 c6 c7 c8,(c4,c6)=dX∧RCs (α:=aj) dY c8 c4∧l=[(0,v2),(1,v4),(2,v6),(7,c7),(10,V c6)]∧St hs [] Z (0,0) dY h [.gs c7 c8 (aa aj)]) ?_ ?_
 rintro l iQ ⟨dY,c4,c6,c7,c8,rfl,gU,rfl,gV⟩
 try dsimp only at ay
 refine gp 3 ?_
 exact ⟨dV,Nat.lt_succ_self _,⟨_,c4,af (c6+1),c7,c8,ay,gU,(by kernel_rfl),gV⟩⟩
 refine bk 4<|lp [0,1,2,7,10,11] (fun n l h=>∃ dZ bw bx c9 bz bB,correctorref12_told_l2 F a0 a1 bh n bw bx c9=some dX∧RCs (α:=aj) dZ bB bw∧l=[(0,v2),(1,v4),(2,v6),(7,bz),(10,V bx),(11,V c9)]∧St hs [] Z (0,0) dZ h [.gs bz bB (aa aj)]) F ⟨_,b8,cX,dW.ai,b9,ca,I,e5,(by kernel_rfl),bT⟩ ?_
 rintro ea l iR ⟨dZ,bw,bx,c9,bz,bB,I,da,rfl,aA⟩
 rcases ea with _ | ea
 cases (show none=some dX from I)
 rw [correctorref12_told_l2] at I
 refine sq<|s0<|a2 3 I (bn.mono aA.ag) ?_
 intro iS I
 refine bm 1 2 (fun e6=>V e6.To) I (bn.mono aA.ag) aA ?_
 intro e6 iT I
 refine aP 0 I ?_ ?_<;>intro iU I
 refine a2 3 I (bn.mono aA.ag) ?_
 intro iV I
 refine bm 1 0 (fun e7=>V e7.Kind) I (bn.mono aA.ag) aA ?_
 intro e7 iX I
 refine aG 0 I ?_ ?_<;>intro iY I
 refine a2 4 I (U.mono aA.ag) ?_
 intro iZ I
 refine bm 1 0 (fun e8=>V e8.Kind) I (U.mono aA.ag) aA ?_
 intro e8 jb I
 obtain ⟨jc,gW,I⟩:=ah I
 refine cP 0 aA (ja F aA.inv gW) ?_
 rintro _ jd eb rfl
 refine kb 0 72 I ?_ ?_<;>intro je I
 refine xn 2<|dF<|xt 4<|aO ?_
 obtain rfl:=si I
 exact ⟨_,bw,bx,bz,bB,rfl,da,(by kernel_rfl),eb⟩
 refine xn 2<|dT<|sk<|sq<|bk 5<|sp 1<|sq<|s0<|a2 2 I (U.mono aA.ag) ?_
 intro jf I
 refine bm 1 1 (fun ec=>V ec.ai) I (U.mono aA.ag) eb ?_
 intro ec jg I
 refine xn 1 ?_
 obtain ⟨ed,aB,I⟩:=ah I
 refine aI [0,1,2,7,10,11,12] (fun l h=>∃ ee bU aS av eg bV bW,(bU,aS,av,eg)=ed∧RCs (α:=aj) ee bW bU∧l=[(0,v2),(1,v4),(2,v6),(7,bV),(10,V aS),(11,V av),(12, .bool eg)]∧St hs [] Z (0,0) ee h [.gs bV bW (aa aj)]) ?_ ?_
 rintro l jh ⟨ee,bU,aS,av,eg,bV,bW,rfl,eh,rfl,bX⟩
 try dsimp only at I
 refine sq ?_
 obtain ⟨gX,a3,I⟩:=ah I
 refine aI [0,1,2,7,10,11,107] (fun l h=>∃ dc cb ei aE cc,(cb,ei)=gX∧RCs (α:=aj) dc cc cb∧l=[(0,v2),(1,v4),(2,v6),(7,aE),(10,V aS),(11,V av),(107, .bool ei)]∧St hs [] Z (0,0) dc h [.gs aE cc (aa aj)]) ?_ ?_
 rintro l jj ⟨dc,cb,ei,aE,cc,rfl,e9,rfl,bY⟩
 try dsimp only at I
 obtain ⟨gY,aK,I⟩:=ah I
 refine aI [0,1,2,7,10,11] (fun l h=>∃ ej dd de df,dd=gY∧RCs (α:=aj) ej df dd∧l=[(0,v2),(1,v4),(2,v6),(7,de),(10,V aS),(11,V av)]∧St hs [] Z (0,0) ej h [.gs de df (aa aj)]) ?_ ?_
 rintro l jk ⟨ej,dd,de,df,rfl,gZ,rfl,g1⟩
 try dsimp only at I
 refine gp 3 ?_
 exact ⟨ea,Nat.lt_succ_self _,⟨_,dd,aS,af (av+1),de,df,I,gZ,(by kernel_rfl),g1⟩⟩
 refine db aK ?_ ?_<;>intro jl aK
 refine ey EG bY ?_
 intro jm jn jo ek
 refine yq 3 [(110,V av),(109,v4),(108,aE),(0,v2),(1,v4),(2,v6),(7,aE),(10,V aS),(11,V av)] ?_
 obtain ⟨fa,aK⟩:=aJ aK
 refine aD rfl trivial (bA rfl rfl (by kernel_rfl:slTy _ _=some (aa al)) (RS.cQ (U.mono bY.ag) (by omega)) fa.1 fa.2)<|yq 1 [(112, .pointer (some (ba v4 av (aa al) 1))),(108,aE),(0,v2),(1,v4),(2,v6),(7,aE),(10,V aS),(11,V av)] ?_
 obtain ⟨aU,g2,aK⟩:=ah aK
 obtain ⟨jq,g3,g4⟩:=RS.bR (U.mono bY.ag) (i:=av) g2
 obtain rfl:=eZ g3
 refine ct rfl rfl trivial (fun h2 hz=>bH (w:=V aU.ai) (g4 h2 hz) rfl (by kernel_rfl)) (ek.bM (aM.refl _)) (aC (v:=V aU.ai) trivial) trivial<|yq 2 [(115,V av),(114,v4),(113,V aU.ai),(108,aE),(0,v2),(1,v4),(2,v6),(7,aE),(10,V aS),(11,V av)] ?_
 obtain ⟨fb,aK⟩:=aJ aK
 refine aD rfl trivial (bA rfl rfl (by kernel_rfl:slTy _ _=some (aa al)) (RS.cQ (U.mono bY.ag) (by omega)) fb.1 fb.2)<|yq 1 [(117, .pointer (some (ba v4 av (aa al) 2))),(113,V aU.ai),(108,aE),(0,v2),(1,v4),(2,v6),(7,aE),(10,V aS),(11,V av)] ?_
 obtain ⟨bc,g5,aK⟩:=ah aK
 obtain ⟨jr,g6,g7⟩:=RS.bR (U.mono bY.ag) (i:=av) g5
 obtain rfl:=eZ g6
 refine ct rfl rfl trivial (fun h2 hz=>bH (w:=V bc.To) (g7 h2 hz) rfl (by kernel_rfl)) (ek.bM (aM.refl _)) (aC (v:=V bc.To) trivial) trivial<|yq 1 [(119, .agg #[V 2,V aU.ai,V bc.To]),(108,aE),(0,v2),(1,v4),(2,v6),(7,aE),(10,V aS),(11,V av)] ?_
 have g8:RCs (α:=aj) dc [V 2,V aU.ai,V bc.To] [(⟨2,aU.ai,bc.To⟩:aj)]:=RCs.cons (cs:=[V 2,V aU.ai,V bc.To]) rfl (RCs.bu _)
 refine jE rfl trivial (c3 (cells:=[V 2,V aU.ai,V bc.To]) (s:=3) (by kernel_rfl)) (by kernel_rfl) ek (by omega) (Nat.add_lt_add_left (by decide) _) ?_
 intro g9 js jt ju jv fc
 obtain ⟨jw,aK⟩:=aJ aK
 have fe:St _ _ _ _ _ _ ([.gs aE cc (aa aj)]++[.gs g9 [V 2,V aU.ai,V bc.To] (aa aj)]):=(fc.front 1 rfl)
 refine iK rfl trivial fe (dM (ys:=[(⟨2,aU.ai,bc.To⟩:aj)]) (bP:=24) fe.sub (i:=0) rfl e9 ((fc.cM).eI (j:=0) rfl g8) rfl rfl (by kernel_rfl) (by omega) (by omega)) (aM.refl _) (.a5 trivial (.a5 trivial .nil)) ?_
 rintro ff ha jx ⟨hb,hc⟩
 refine ye 1 [(7,ff),(0,v2),(1,v4),(2,v6),(10,V aS),(11,V av)] ?_
 have hf:=hc.aY
 obtain rfl:=si aK
 exact ⟨_,cb++[(⟨2,aU.ai,bc.To⟩:aj)],ff,ha,rfl,hb,(by kernel_rfl),(hf.takeN 1)⟩
 refine sk ?_
 obtain rfl:=si aK
 exact ⟨_,cb,aE,cc,rfl,e9,(by kernel_rfl),bY⟩
 refine g0<|kb 2 100 a3 ?_ ?_<;>intro jy a3
 refine a2 2 a3 (U.mono bX.ag) ?_
 intro jz a3
 refine bm 1 0 (fun fg=>V fg.Kind) a3 (U.mono bX.ag) bX ?_
 intro fg jA a3
 refine aG 0 a3 ?_ ?_<;>intro jB a3
 refine xn 1 ?_
 obtain rfl:=si a3
 exact ⟨_,bU,true,bV,bW,rfl,eh,(by kernel_rfl),bX⟩
 refine xn 1 ?_
 obtain rfl:=si a3
 exact ⟨_,bU,false,bV,bW,rfl,eh,(by kernel_rfl),bX⟩
 refine xn 7 ?_
 obtain rfl:=si a3
 exact ⟨_,bU,false,bV,bW,rfl,eh,(by kernel_rfl),bX⟩
 refine bk 6<|lp [0,1,2,7,10,11,12,13] (fun n l h=>∃ en bC bZ b0 dg cd bE bF,correctorref12_told_l3 F a0 a1 bh n bC bZ b0 dg cd=some ed∧RCs (α:=aj) en bF bC∧l=[(0,v2),(1,v4),(2,v6),(7,bE),(10,V bZ),(11,V b0),(12, .bool dg),(13,V cd)]∧St hs [] Z (0,0) en h [.gs bE bF (aa aj)]) F ⟨_,bw,bx,c9,false,ec.ai,bz,bB,aB,da,(by kernel_rfl),eb⟩ ?_
 rintro eo l jC ⟨en,bC,bZ,b0,dg,cd,bE,bF,aB,di,rfl,bd⟩
 rcases eo with _ | eo
 cases (show none=some ed from aB)
 rw [correctorref12_told_l3] at aB
 refine sq<|s0<|a2 3 aB (U.mono bd.ag) ?_
 intro jD aB
 refine bm 1 2 (fun fh=>V fh.To) aB (U.mono bd.ag) bd ?_
 intro fh jF aB
 refine aP 0 aB ?_ ?_<;>intro jG aB
 refine xn 0<|dT<|sk<|sq<|bk 7 ?_
 obtain ⟨hg,a4,aB⟩:=ah aB
 refine aI [0,1,2,7,10,11,12,13] (fun l h=>∃ ep dj dm dp dq,(dj,dm)=hg∧RCs (α:=aj) ep dq dj∧l=[(0,v2),(1,v4),(2,v6),(7,dp),(10,V bZ),(11,V b0),(12, .bool dm),(13,V cd)]∧St hs [] Z (0,0) ep h [.gs dp dq (aa aj)]) ?_ ?_
 rintro l jH ⟨ep,dj,dm,dp,dq,rfl,hh,rfl,hi⟩
 try dsimp only at aB
 refine gp 3 ?_
 exact ⟨eo,Nat.lt_succ_self _,⟨_,dj,bZ,b0,dm,af (cd+1),dp,dq,aB,hh,(by kernel_rfl),hi⟩⟩
 refine g0<|kb 2 92 a4 ?_ ?_<;>intro jI a4
 refine xn 7 ?_
 obtain rfl:=si a4
 exact ⟨_,bC,true,bE,bF,rfl,di,(by kernel_rfl),bd⟩
 refine a2 2 a4 (ck.mono bd.ag) ?_
 intro jJ a4
 refine bm 0 0 (fun fi=> .int .u8 (fi.toNat:Int)) a4 (ck.mono bd.ag) bd ?_
 intro fi jK a4
 refine aG 0 a4 ?_ ?_ (kd:= .u8)<;>intro jL a4
 refine xn 2 ?_
 obtain rfl:=si a4
 exact ⟨_,bC,true,bE,bF,rfl,di,(by kernel_rfl),bd⟩
 refine xn 2 ?_
 obtain rfl:=si a4
 exact ⟨_,bC,false,bE,bF,rfl,di,(by kernel_rfl),bd⟩
 refine xn 0<|dF<|xt 6<|aO ?_
 obtain rfl:=si aB
 exact ⟨_,bC,bZ,b0,dg,bE,bF,rfl,di,(by kernel_rfl),bd⟩
 refine xn 10<|dF<|xt 4<|aO ?_
 obtain rfl:=si I
 exact ⟨_,bw,bx,bz,bB,rfl,da,(by kernel_rfl),aA⟩
 refine xn 17<|dF<|xt 4<|aO ?_
 obtain rfl:=si I
 exact ⟨_,bw,bx,bz,bB,rfl,da,(by kernel_rfl),aA⟩
 refine xn 0<|dF<|xt 2<|aO ?_
 obtain rfl:=si ay
 exact ⟨_,b8,b9,ca,rfl,e5,(by kernel_rfl),bT⟩
 refine bk 0 ?_
 have hj:=fz.dh (aa aj)
 refine lp [0,1,2,7,8,9] (fun n l h=>∃ cf cg dr aV a6 ch ax cj,correctorref12_told_l0 F a0 a1 bh n cg dr aV=some dv∧RCs (α:=aj) cf ch cg∧RCs (α:=Int) cf cj dr∧l=[(0,v2),(1,v4),(2,v6),(7,a6),(8,ax),(9,V aV)]∧St hs [] Z (0,0) cf h [.gs a6 ch (aa aj), .gs ax cj (aa Int)]) F ⟨_,[],fx,0,(.slice none 0 0),[],fA,fB,au,(RCs.bu _),fC,(by kernel_rfl),hj⟩ ?_
 rintro er l jM ⟨cf,cg,dr,aV,a6,ch,ax,cj,au,fj,bl,rfl,et⟩
 rcases er with _ | er
 cases (show none=some dv from au)
 rw [correctorref12_told_l0] at au
 refine sq<|s0<|bD 2 ax (et.dn (i:=1) rfl bl)<|aP 0 au ?_ ?_<;>intro jN au
 refine xn 0<|dT<|sk<|sq<|bk 1<|ey xP et ?_
 intro fk jO fl bG
 refine yq 3 [(29,V aV),(28,ax),(27,a6),(0,v2),(1,v4),(2,v6),(7,a6),(8,ax),(9,V aV)] ?_
 obtain ⟨fm,au⟩:=aJ au
 refine aD rfl trivial (bA rfl rfl (by kernel_rfl:slTy _ _=some (aa Int)) (bG.bN (j:=1) rfl bl (by omega)) fm.1 fm.2) ?_
 obtain ⟨a7,fo,au⟩:=ah au
 obtain ⟨jP,hk,hl,jQ⟩:=bG.cp (j:=1) rfl bl (i:=aV) fo
 obtain rfl:=ji hk
 have hn:=dw fo
 have fp:=bG.bN (j:=1) rfl bl hn
 have jR:(baseOf ax).block<fk:=dk (fl.1 _ (List.mem_of_getElem? (i:=1) rfl)) fp
 refine dt rfl trivial rfl (by show (baseOf ax).block<_;omega) (aC (v:=V a7) trivial) (bH (w:=V a7) hl rfl (by kernel_rfl)) trivial<|yq 2 [(33,V aV),(32,ax),(31,V a7),(27,a6),(0,v2),(1,v4),(2,v6),(7,a6),(8,ax),(9,V aV)] ?_
 obtain ⟨fq,au⟩:=aJ au
 refine aD rfl trivial (bA rfl rfl (by kernel_rfl:slTy _ _=some (aa Int)) (bG.bN (j:=1) rfl bl (by omega)) fq.1 fq.2) ?_
 obtain ⟨bf,fr,au⟩:=ah au
 obtain ⟨jS,ho,hp,jT⟩:=bG.cp (j:=1) rfl bl (i:=aV) fr
 obtain rfl:=ji ho
 have hq:=dw fr
 have fs:=bG.bN (j:=1) rfl bl hq
 have jU:(baseOf ax).block<fk:=dk (fl.1 _ (List.mem_of_getElem? (i:=1) rfl)) fs
 refine dt rfl trivial rfl (by show (baseOf ax).block<_;omega) (aC (v:=V bf) trivial) (bH (w:=V bf) hp rfl (by kernel_rfl)) trivial<|yq 2 [(37, .agg #[V 1,V a7,V (af (bf+1))]),(27,a6),(0,v2),(1,v4),(2,v6),(7,a6),(8,ax),(9,V aV)] ?_
 have hr:RCs (α:=aj) cf [V 1,V a7,V (af (bf+1))] [(⟨1,a7,af (bf+1)⟩:aj)]:=RCs.cons (cs:=[V 1,V a7,V (af (bf+1))]) rfl (RCs.bu _)
 refine jE rfl trivial (c3 (cells:=[V 1,V a7,V (af (bf+1))]) (s:=3) (by kernel_rfl)) (by kernel_rfl) bG (by omega) (Nat.add_lt_add_left (by decide) _) ?_
 intro ht jV jW jX jY ft
 obtain ⟨jZ,au⟩:=aJ au
 have ds:St _ _ _ _ _ _ ([.gs a6 ch (aa aj)]++[.gs ht [V 1,V a7,V (af (bf+1))] (aa aj), .gs ax cj (aa Int)]):=(ft.front 1 rfl)
 refine iK rfl trivial ds (dM (ys:=[(⟨1,a7,af (bf+1)⟩:aj)]) (bP:=24) ds.sub (i:=0) rfl fj ((ft.cM).eI (j:=0) rfl hr) rfl rfl (by kernel_rfl) (by omega) (by omega)) (aM.refl _) (.a5 (ds.bJ 1 rfl (kZ fs)) (.a5 (ds.bJ 1 rfl (kZ fp)) .nil)) ?_
 rintro fu hv j0 ⟨hx,hy⟩
 refine ye 1 [(7,fu),(0,v2),(1,v4),(2,v6),(8,ax),(9,V aV)] ?_
 have hA:=hy.aY
 refine gp 3 ?_
 exact ⟨er,Nat.lt_succ_self _,⟨_,cg++[(⟨1,a7,af (bf+1)⟩:aj)],dr,af (aV+1),fu,hv,ax,cj,au,hx,bl,(by kernel_rfl),(((hA.front 2 rfl).front 1 rfl).takeN 2)⟩⟩
 refine xn 0<|dF<|xt 0<|aO ?_
 obtain rfl:=si au
 exact ⟨_,cg,a6,ch,rfl,fj,(by kernel_rfl),(et.takeN 1)⟩
def nH (F:Nat) (a0:aj) (a1:aj):Option Bool:=
 if a0.ai=a1.ai then
  if a0.To=a1.To then
   if a0.Code<a1.Code then
    some true
   else
    some false
  else
   if a0.To<a1.To then
    some true
   else
    some false
 else
  if a0.ai<a1.ai then
   some true
  else
   some false
theorem D5 (F:Nat) {h:AH} {Z:Zn} {a0:aj} {a1:aj} (hI:Inv Z h) {r:Bool} (hm:nH F a0 a1=some r):
  b3 Try.prog 48 [.agg #[V a0.Code,V a0.ai,V a0.To], .agg #[V a1.Code,V a1.ai,V a1.To]] h Z (.bool r):=by
 refine b4 Try.func48 hI ?_
 intro hs hS
 unfold nH at hm
 refine s0<|dK 0 [V a0.Code,V a0.ai,V a0.To] hS ?_
 intro J h2 I
 refine dK 0 [V a1.Code,V a1.ai,V a1.To] I ?_
 intro U aa j
 refine xn 1<|sq<|s0<|aB 1 1 (V a0.ai) j rfl<|aB 1 0 (V a1.ai) j rfl<|cS 0 hm ?_ ?_<;>intro ab hm
 refine xn 0<|dF<|sk<|sq<|s0<|aB 1 1 (V a0.To) j rfl<|aB 1 0 (V a1.To) j rfl<|cS 0 hm ?_ ?_<;>intro ad hm
 refine xn 0<|dF<|sk<|s0<|aB 1 1 (V a0.Code) j rfl<|aB 1 0 (V a1.Code) j rfl<|aP 0 hm ?_ ?_<;>intro ae hm
 refine xn 1<|rt<|⟨rfl,?_⟩
 obtain rfl:=si hm
 refine ⟨_,_,_,tk (.bool true) (ResL.nil),j,?_⟩
 exact rfl
 refine xn 1<|rt<|⟨rfl,?_⟩
 obtain rfl:=si hm
 refine ⟨_,_,_,tk (.bool false) (ResL.nil),j,?_⟩
 exact rfl
 refine xn 0<|dT<|s0<|aB 1 1 (V a0.To) j rfl<|aB 1 0 (V a1.To) j rfl<|aP 0 hm ?_ ?_<;>intro af hm
 refine xn 1<|rt<|⟨rfl,?_⟩
 obtain rfl:=si hm
 refine ⟨_,_,_,tk (.bool true) (ResL.nil),j,?_⟩
 exact rfl
 refine xn 1<|rt<|⟨rfl,?_⟩
 obtain rfl:=si hm
 refine ⟨_,_,_,tk (.bool false) (ResL.nil),j,?_⟩
 exact rfl
 refine xn 0<|dT<|s0<|aB 1 1 (V a0.ai) j rfl<|aB 1 0 (V a1.ai) j rfl<|aP 0 hm ?_ ?_<;>intro ag hm
 refine xn 1<|rt<|⟨rfl,?_⟩
 obtain rfl:=si hm
 refine ⟨_,_,_,tk (.bool true) (ResL.nil),j,?_⟩
 exact rfl
 refine xn 1<|rt<|⟨rfl,?_⟩
 obtain rfl:=si hm
 refine ⟨_,_,_,tk (.bool false) (ResL.nil),j,?_⟩
 exact rfl
def EP:List bt:=[uP 14 (mv 5),uP 15 (bc .gtr 3 14 0 3),uP 16 (mv 15),aK 16 17 (mv 0),aK 16 18 (mv 4),aK 16 19 (ia 28 17 18),cJ 16 20 (ld 92 19),aK 16 21 (mv 3),aK 16 22 (mv 5),aK 16 23 (bc .sub 3 22 1 3),aK 16 24 (ia 28 21 23),cJ 16 25 (ld 92 24),jB 16 (some 26) (cf 48 #[(t 20),(t 25)] #[92,92]) .make [6,11],uP 27 (pf 16 26)]
def DZ:List bt:=[uP 30 (mv 5),uP 31 (bc .gtr 3 30 0 3),uP 32 (mv 31),aK 32 33 (mv 3),aK 32 34 (mv 5),aK 32 35 (bc .sub 3 34 1 3),aK 32 36 (ia 28 33 35),cJ 32 37 (ld 92 36),aK 32 38 (mv 0),aK 32 39 (mv 4),aK 32 40 (ia 28 38 39),cJ 32 41 (ld 92 40),aK 32 42 (bo .eql 92 37 41 92),uP 43 (pf 32 42)]
def yJ:List aN:=[u 44 (mv 3),u 45 (.build 92 #[]),u 46 (.buildSlice 28 1 #[(0,(t 45))]),u 47 (cb .append #[(t 44),(t 46)] #[28,28]),u 3 (sg 47)]
def z1:List bt:=[uP 48 (mv 3),uP 49 (mv 5),uP 50 (bc .add 3 49 1 3),uP 51 (.slice 28 (t 48) (some (t 50)) none none),uP 52 (mv 3),uP 53 (mv 5),uP 54 (.slice 28 (t 52) (some (t 53)) none none),uF 55 (cb .copy #[(t 51),(t 54)] #[28,28]) .make []]
def ya:List aN:=[u 56 (mv 3),u 57 (mv 5),u 58 (mv 0),u 59 (mv 4),u 60 (ia 28 58 59),u 61 (ld 92 60),u 62 (ia 28 56 57),o (.store 92 (t 62) (t 61))]
def lU (F:Nat) (a0:List aj):Nat→(List aj)→Int→Int→Option ((List aj)×Int×Int)
 | 0,_,_,_=>none
 | n+1,J,I,j=>
  if (0:Int)<j then
   if 0≤I∧I<(a0.length:Int) then
    (a0[I.toNat]?).bind fun U=>
    if 0≤(af (j - 1))∧(af (j - 1))<(J.length:Int) then
     (J[(af (j - 1)).toNat]?).bind fun aa=>
     (nH F U aa).bind fun ab=>
     if ab=true then
      lU F a0 n J I (af (j - 1))
     else
      some (J,I,j)
    else none
   else none
  else
   some (J,I,j)
def correctorref14_Sort_l0 (F:Nat) (a0:List aj):Nat→(List aj)→Int→Option (List aj)
 | 0,_,_=>none
 | n+1,aa,ab=>
  if ab<(a0.length:Int) then
   ((((lU F a0 F aa ab (aa.length:Int)):Option ((List aj)×Int×Int)).bind fun o=>match o with
     | (U,J,j)=>((if (0:Int)<j then
       if 0≤(af (j - 1))∧(af (j - 1))<(U.length:Int) then
        (U[(af (j - 1)).toNat]?).bind fun ad=>
        if 0≤J∧J<(a0.length:Int) then
         (a0[J.toNat]?).bind fun ae=>
         if ad=ae then
          some (.inr (U,J))
         else
          some (.inl U)
        else none
       else none
      else
       some (.inl U)):Option (Sum (List aj) ((List aj)×Int))).bind fun o=>match o with
      | .inl I=>if I.length+[(⟨0,0,0⟩:aj)].length≤5864062014805 then
       if 0<(I++[(⟨0,0,0⟩:aj)]).length∧0≤(af (j+1))∧(af (j+1))≤((I++[(⟨0,0,0⟩:aj)]).length:Int)∧((I++[(⟨0,0,0⟩:aj)]).length:Int)≤((I++[(⟨0,0,0⟩:aj)]).length:Int) then
        if 0<(I++[(⟨0,0,0⟩:aj)]).length∧0≤j∧j≤((I++[(⟨0,0,0⟩:aj)]).length:Int)∧((I++[(⟨0,0,0⟩:aj)]).length:Int)≤((I++[(⟨0,0,0⟩:aj)]).length:Int) then
         if 0≤J∧J<(a0.length:Int) then
          (a0[J.toNat]?).bind fun ag=>
          if 0≤j∧j<((iF (I++[(⟨0,0,0⟩:aj)]) ((af (j+1)).toNat) j.toNat (Nat.min (((I++[(⟨0,0,0⟩:aj)]).length:Int).toNat - j.toNat) (((I++[(⟨0,0,0⟩:aj)]).length:Int).toNat - (af (j+1)).toNat))).length:Int) then
           ((iF (I++[(⟨0,0,0⟩:aj)]) ((af (j+1)).toNat) j.toNat (Nat.min (((I++[(⟨0,0,0⟩:aj)]).length:Int).toNat - j.toNat) (((I++[(⟨0,0,0⟩:aj)]).length:Int).toNat - (af (j+1)).toNat)))[j.toNat]?).bind fun ak=>
           some ((iF (I++[(⟨0,0,0⟩:aj)]) ((af (j+1)).toNat) j.toNat (Nat.min (((I++[(⟨0,0,0⟩:aj)]).length:Int).toNat - j.toNat) (((I++[(⟨0,0,0⟩:aj)]).length:Int).toNat - (af (j+1)).toNat))).set j.toNat ag,J)
          else none
         else none
        else none
       else none
      else none
      | .inr y=>some y):Option ((List aj)×Int)).bind fun o=>match o with
    | (ah,ai)=>correctorref14_Sort_l0 F a0 n ah (af (ai+1))
  else
   some aa
def nX (F:Nat) (a0:List aj):Option (List aj):=
 ((correctorref14_Sort_l0 F a0 F [] 0):Option (List aj)).bind fun o=>match o with
  | j=>some j
theorem wB (F:Nat) {h:AH} {Z:Zn} {a0:List aj} {v2} (hP:Pre Z h []) (az:RS (α:=aj) Z v2 a0) {r:(List aj)} (hm:nX F a0=some r):
  bQ Try.prog 23 [v2] h Z [] fun v Z' A'=>∃ v4 bJ,v4=v∧A'=[.gs v4 bJ (aa aj)]∧RCs (α:=aj) Z' bJ r:=by
 refine b6 Try.func23 hP ?_
 intro hs hS
 unfold nX at hm
 replace hS:St hs [] Z (0,0) Z hs []:=hS
 refine sp 1<|sp 1<|sq<|sp 1 ?_
 obtain ⟨bc,ar,hm⟩:=ah hm
 refine aI [3] (fun l h=>∃ bd bf aS aW,bf=bc∧RCs (α:=aj) bd aW bf∧l=[(3,aS)]∧St hs [] Z (0,0) bd h [.gs aS aW (aa aj)]) ?_ ?_
 rintro l c6 ⟨bd,bf,aS,aW,rfl,b1,rfl,b2⟩
 try dsimp only at hm
 refine sp 2<|rt<|⟨rfl,?_⟩
 obtain rfl:=si hm
 refine ⟨_,_,_,tk aS (ResL.nil),b2,?_⟩
 exact ⟨aS,aW,rfl,rfl,b1⟩
 refine bk 0 ?_
 have b3:=hS.dh (aa aj)
 refine lp [0,3,4] (fun n l h=>∃ bg aE aX aF aU,correctorref14_Sort_l0 F a0 n aE aX=some bc∧RCs (α:=aj) bg aU aE∧l=[(0,v2),(3,aF),(4,V aX)]∧St hs [] Z (0,0) bg h [.gs aF aU (aa aj)]) F ⟨_,[],0,(.slice none 0 0),[],ar,(RCs.bu _),(by kernel_rfl),b3⟩ ?_
 rintro bh l c7 ⟨bg,aE,aX,aF,aU,ar,bj,rfl,a1⟩
 rcases bh with _ | bh
 cases (show none=some bc from ar)
 rw [correctorref14_Sort_l0] at ar
 refine sq<|s0<|bD 2 v2 (RS.len (az.mono a1.ag))<|aP 0 ar ?_ ?_<;>intro c8 ar
 refine xn 0<|dT<|sk<|sq ?_
 obtain ⟨b4,J,ar⟩:=ah ar
 refine aI [0,3,4] (fun l h=>∃ bl a3 a4 a5 a6,(a3,a4)=b4∧RCs (α:=aj) bl a6 a3∧l=[(0,v2),(3,a5),(4,V a4)]∧St hs [] Z (0,0) bl h [.gs a5 a6 (aa aj)]) ?_ ?_
 rintro l c9 ⟨bl,a3,a4,a5,a6,rfl,b5,rfl,b7⟩
 try dsimp only at ar
 refine gp 3 ?_
 exact ⟨bh,Nat.lt_succ_self _,⟨_,a3,af (a4+1),a5,a6,ar,b5,(by kernel_rfl),b7⟩⟩
 refine bk 1<|s0<|bD 1 aF (a1.dn (i:=0) rfl bj)<|xn 1<|sq ?_
 obtain ⟨bn,U,J⟩:=ah J
 refine aI [0,3,4,5] (fun l h=>∃ bo aG ab I ae aH,(aG,ab,I)=bn∧RCs (α:=aj) bo aH aG∧l=[(0,v2),(3,ae),(4,V ab),(5,V I)]∧St hs [] Z (0,0) bo h [.gs ae aH (aa aj)]) ?_ ?_
 rintro l da ⟨bo,aG,ab,I,ae,aH,rfl,aK,rfl,bp⟩
 try dsimp only at J
 refine sq ?_
 obtain ⟨b8,ad,J⟩:=ah J
 refine aI [0,3,4,5] (fun l h=>∃ a7 ax aV bq, .inl ax=b8∧RCs (α:=aj) a7 bq ax∧l=[(0,v2),(3,aV),(4,V ab),(5,V I)]∧St hs [] Z (0,0) a7 h [.gs aV bq (aa aj)]) ?_ ?_
 rintro l dc ⟨a7,ax,aV,bq,rfl,b9,rfl,br⟩
 try dsimp only at J
 refine sr yJ<|xq 2 [(45, .agg #[V 0,V 0,V 0]),(44,aV),(0,v2),(3,aV),(4,V ab),(5,V I)] ?_
 have ca:RCs (α:=aj) a7 [V 0,V 0,V 0] [(⟨0,0,0⟩:aj)]:=RCs.cons (cs:=[V 0,V 0,V 0]) rfl (RCs.bu _)
 refine dP rfl trivial (c3 (cells:=[V 0,V 0,V 0]) (s:=3) (by kernel_rfl)) (by kernel_rfl) br ?_
 intro cb dd bK
 obtain ⟨de,J⟩:=aJ J
 refine eY rfl trivial (dM (ys:=[(⟨0,0,0⟩:aj)]) (bP:=24) bK (i:=1) rfl b9 ((bK).eI (j:=0) rfl ca) rfl rfl (by kernel_rfl) (by omega) (by omega)) ?_
 rintro av cc df ⟨bw,cd⟩
 refine xn 1<|cU z1 cd ?_
 intro dg di dj bx
 refine yq 3 [(50,V (af (I+1))),(48,av),(3,av),(0,v2),(4,V ab),(5,V I)] ?_
 obtain ⟨a8,J⟩:=aJ J
 refine pn rfl trivial (uz (a:=af (I+1)) (b:=((ax++[(⟨0,0,0⟩:aj)]).length:Int)) bx (i:=1) rfl bw a8.1 rfl (by kernel_rfl:slTy _ _=some (aa aj)) ⟨_,rfl⟩ rfl a8.2.1 a8.2.2.1 a8.2.2.2) ?_
 intro cf cg
 refine yq 2 [(53,V I),(52,av),(51,cf),(3,av),(0,v2),(4,V ab),(5,V I)] ?_
 obtain ⟨ba,J⟩:=aJ J
 refine pn rfl trivial (uz (a:=I) (b:=((ax++[(⟨0,0,0⟩:aj)]).length:Int)) bx (i:=1) rfl bw ba.1 rfl (by kernel_rfl:slTy _ _=some (aa aj)) ⟨_,rfl⟩ rfl ba.2.1 ba.2.2.1 ba.2.2.2) ?_
 intro dm ch
 have bL:St _ _ _ _ _ _ ([.gs av cc (aa aj)]++[.gs cb [V 0,V 0,V 0] (aa aj)]):=(bx.front 1 rfl)
 refine nN rfl trivial bL (EL bL.sub (i:=0) rfl bw cg ch rfl rfl (by kernel_rfl:slTy _ _=some (aa aj)) (by omega) (by omega)) (aM.refl _) .nil ?_
 rintro dp dq ⟨bz,cj⟩
 refine yf [(3,av),(0,v2),(4,V ab),(5,V I)] ?_
 have bb:=cj.aY
 refine rg ya<|xq 4 [(59,V ab),(58,v2),(57,V I),(56,av),(3,av),(0,v2),(4,V ab)]<|a2 0 J (az.mono br.ag) ?_
 intro dr J
 refine bm 0 0 (fun aq=> .agg #[V aq.Code,V aq.ai,V aq.To]) J (az.mono br.ag) bb ?_
 intro aq ds J
 refine dv 0 0 J bb bz rfl ?_
 intro dx J
 obtain ⟨dz,bO,J⟩:=ah J
 obtain ⟨dA,ck,dB,cl⟩:=bb.cp (j:=0) rfl bz (i:=I) bO
 obtain rfl:=nw ck
 refine jC rfl trivial (gi (u':=aq) (vs:=[V aq.Code,V aq.ai,V aq.To]) (aZ:=[V aq.Code,V aq.ai,V aq.To]) bb (m:=0) rfl bz bO cl rfl rfl rfl (by kernel_rfl) rfl rfl rfl rfl) ?_
 rintro dC cm ⟨cn,cq⟩
 refine xn 0 ?_
 obtain rfl:=si J
 exact ⟨_,(iF (ax++[(⟨0,0,0⟩:aj)]) ((af (I+1)).toNat) I.toNat (Nat.min (((ax++[(⟨0,0,0⟩:aj)]).length:Int).toNat - I.toNat) (((ax++[(⟨0,0,0⟩:aj)]).length:Int).toNat - (af (I+1)).toNat))).set I.toNat aq,ab,av,cm,rfl,cn,(by kernel_rfl),(cq.takeN 1)⟩
 refine cU DZ bp ?_
 intro cr dD cu aA
 refine yq 1 [(30,V I),(0,v2),(3,ae),(4,V ab),(5,V I)] ?_
 rcases ifs ad with ⟨bB,ad⟩ | ⟨bB,ad⟩
 refine aD rfl trivial (a9 rfl rfl (jG bB))<|yq 4 [(35,V (af (I - 1))),(33,ae),(32, .bool true),(0,v2),(3,ae),(4,V ab),(5,V I)] ?_
 obtain ⟨bS,ad⟩:=aJ ad
 refine aD rfl rfl (bA rfl rfl (by kernel_rfl:slTy _ _=some (aa aj)) (aA.bN (j:=0) rfl aK (by omega)) bS.1 bS.2) ?_
 obtain ⟨au,bT,ad⟩:=ah ad
 obtain ⟨dG,cv,cw,dH⟩:=aA.cp (j:=0) rfl aK (i:=af (I - 1)) bT
 obtain rfl:=nw cv
 have cx:=dw bT
 have cz:=aA.bN (j:=0) rfl aK cx
 have dI:(baseOf ae).block<cr:=dk (cu.1 _ (List.mem_of_getElem? (i:=0) rfl)) cz
 refine dt rfl rfl rfl (by show (baseOf ae).block<_;omega) (ir (cs:=[V au.Code,V au.ai,V au.To]) (.cons trivial (.cons trivial (.cons trivial .nil)))) (bH (w:= .agg #[V au.Code,V au.ai,V au.To]) cw rfl (by kernel_rfl)) trivial<|yq 2 [(39,V ab),(38,v2),(37, .agg #[V au.Code,V au.ai,V au.To]),(32, .bool true),(0,v2),(3,ae),(4,V ab),(5,V I)] ?_
 obtain ⟨bU,ad⟩:=aJ ad
 refine aD rfl rfl (bA rfl rfl (by kernel_rfl:slTy _ _=some (aa aj)) (RS.cQ (az.mono bp.ag) (by omega)) bU.1 bU.2) ?_
 obtain ⟨ay,cA,ad⟩:=ah ad
 obtain ⟨dJ,cB,cC⟩:=RS.bR (az.mono bp.ag) (i:=ab) cA
 obtain rfl:=nw cB
 refine ct rfl rfl rfl (fun h2 hz=>bH (w:= .agg #[V ay.Code,V ay.ai,V ay.To]) (cC h2 hz) rfl (by kernel_rfl)) (aA.bM (aM.refl _)) (ir (cs:=[V ay.Code,V ay.ai,V ay.To]) (.cons trivial (.cons trivial (.cons trivial .nil)))) trivial ?_
 rcases ifs ad with ⟨bC,ad⟩ | ⟨bC,ad⟩
 refine aD rfl rfl (a9 rfl rfl (z2 (x:=au) (y:=ay) bC))<|ye 1 [(43, .bool true),(0,v2),(3,ae),(4,V ab),(5,V I)] ?_
 have cD:=aA.aY
 refine dT<|xt 1<|aO ?_
 obtain rfl:=si ad
 obtain rfl:=si J
 exact ⟨_,aG,ab,ae,aH,rfl,aK,(by kernel_rfl),cD⟩
 refine aD rfl rfl (a9 rfl rfl (zg (x:=au) (y:=ay) bC))<|ye 1 [(43, .bool false),(0,v2),(3,ae),(4,V ab),(5,V I)] ?_
 have cE:=aA.aY
 refine dF<|sk ?_
 obtain rfl:=si ad
 exact ⟨_,aG,ae,aH,rfl,aK,(by kernel_rfl),cE⟩
 refine aD rfl trivial (a9 rfl rfl (jD bB))<|ye 12 [(43, .bool false),(0,v2),(3,ae),(4,V ab),(5,V I)] ?_
 have cF:=aA.aY
 refine dF<|sk ?_
 obtain rfl:=si ad
 exact ⟨_,aG,ae,aH,rfl,aK,(by kernel_rfl),cF⟩
 refine bk 2<|lp [0,3,4,5] (fun n l h=>∃ bE aL ao an ak aB,lU F a0 n aL ao an=some bn∧RCs (α:=aj) bE aB aL∧l=[(0,v2),(3,ak),(4,V ao),(5,V an)]∧St hs [] Z (0,0) bE h [.gs ak aB (aa aj)]) F ⟨_,aE,aX,(aE.length:Int),aF,aU,U,bj,(by kernel_rfl),a1⟩ ?_
 rintro bF l dK ⟨bE,aL,ao,an,ak,aB,U,aQ,rfl,bG⟩
 rcases bF with _ | bF
 cases (show none=some bn from U)
 rw [lU] at U
 refine sq<|cU EP bG ?_
 intro cG dL cH aC
 refine yq 1 [(14,V an),(0,v2),(3,ak),(4,V ao),(5,V an)] ?_
 rcases ifs U with ⟨bI,U⟩ | ⟨bI,U⟩
 refine aD rfl trivial (a9 rfl rfl (jG bI))<|yq 3 [(18,V ao),(17,v2),(16, .bool true),(0,v2),(3,ak),(4,V ao),(5,V an)] ?_
 obtain ⟨bV,U⟩:=aJ U
 refine aD rfl rfl (bA rfl rfl (by kernel_rfl:slTy _ _=some (aa aj)) (RS.cQ (az.mono bG.ag) (by omega)) bV.1 bV.2) ?_
 obtain ⟨aw,cI,U⟩:=ah U
 obtain ⟨dN,cJ,cK⟩:=RS.bR (az.mono bG.ag) (i:=ao) cI
 obtain rfl:=nw cJ
 refine ct rfl rfl rfl (fun h2 hz=>bH (w:= .agg #[V aw.Code,V aw.ai,V aw.To]) (cK h2 hz) rfl (by kernel_rfl)) (aC.bM (aM.refl _)) (ir (cs:=[V aw.Code,V aw.ai,V aw.To]) (.cons trivial (.cons trivial (.cons trivial .nil)))) trivial<|yq 3 [(23,V (af (an - 1))),(21,ak),(20, .agg #[V aw.Code,V aw.ai,V aw.To]),(16, .bool true),(0,v2),(3,ak),(4,V ao),(5,V an)] ?_
 obtain ⟨bW,U⟩:=aJ U
 refine aD rfl rfl (bA rfl rfl (by kernel_rfl:slTy _ _=some (aa aj)) (aC.bN (j:=0) rfl aQ (by omega)) bW.1 bW.2) ?_
 obtain ⟨aR,bX,U⟩:=ah U
 obtain ⟨dO,cL,cN,dQ⟩:=aC.cp (j:=0) rfl aQ (i:=af (an - 1)) bX
 obtain rfl:=nw cL
 have cO:=dw bX
 have cP:=aC.bN (j:=0) rfl aQ cO
 have dR:(baseOf ak).block<cG:=dk (cH.1 _ (List.mem_of_getElem? (i:=0) rfl)) cP
 refine dt rfl rfl rfl (by show (baseOf ak).block<_;omega) (ir (cs:=[V aR.Code,V aR.ai,V aR.To]) (.cons trivial (.cons trivial (.cons trivial .nil)))) (bH (w:= .agg #[V aR.Code,V aR.ai,V aR.To]) cN rfl (by kernel_rfl)) trivial ?_
 obtain ⟨cR,cS,U⟩:=ah U
 have bY:=aC.cM
 obtain ⟨dS,dU,cT,bZ,rfl⟩:=D5 F bY.inv cS
 have cX:=St.call (A:=[]) (B:=[.gs ak aB (aa aj)]) bY bZ
 refine fv rfl rfl aC (dy cT rfl rfl rfl) cX (St.fw bZ) ?_
 intro dV c0
 refine ye 1 [(27, .bool cR),(0,v2),(3,ak),(4,V ao),(5,V an)] ?_
 have b0:=c0.aY
 refine db U ?_ ?_<;>intro dW U
 refine sk<|bk 3<|gp 3 ?_
 exact ⟨bF,Nat.lt_succ_self _,⟨_,aL,ao,af (an - 1),ak,aB,U,aQ,(by kernel_rfl),b0⟩⟩
 refine xt 2<|aO ?_
 obtain rfl:=si U
 exact ⟨_,aL,ao,an,ak,aB,rfl,aQ,(by kernel_rfl),b0⟩
 refine aD rfl trivial (a9 rfl rfl (jD bI))<|ye 12 [(27, .bool false),(0,v2),(3,ak),(4,V ao),(5,V an)] ?_
 have c4:=aC.aY
 refine dF<|xt 2<|aO ?_
 obtain rfl:=si U
 exact ⟨_,aL,ao,an,ak,aB,rfl,aQ,(by kernel_rfl),c4⟩
 refine xn 0<|dF<|xt 0<|aO ?_
 obtain rfl:=si ar
 exact ⟨_,aE,aF,aU,rfl,bj,(by kernel_rfl),a1⟩
def wy:List aN:=[u 22 (mv 7),u 23 (mv 7),u 24 (cb .len #[(t 23)] #[24]),u 25 (cf 21 #[(t 24)] #[3]),u 26 (mv 7),u 27 (cb .len #[(t 26)] #[24]),u 28 (.build 58 #[(0,(t 22)),(1,(t 25)),(3,(t 27))]),u 29 (.box 58 (t 28)),u 30 (mv 8),u 31 (mv 1),u 32 (.build 61 #[(0,(t 29)),(1,(t 30)),(2,(ci (-1))),(5,(t 31))]),u 33 (.box 61 (t 32)),u 9 (sg 33)]
def Ee:List bt:=[uP 40 (mv 8),uP 41 (mv 10),uP 42 (ia 52 40 41),uP 43 (fa 63 42 1),uL 44 (ld 3 43),uP 45 (mv 9),uP 46 (nk 45),uP 47 (fa 61 46 6),uL 48 (ld 3 47),uP 49 (bo .geq 3 44 48 3)]
def yF:List bt:=[uP 56 (mv 7),uP 57 (mv 9),uP 58 (nk 57),uP 59 (fa 61 58 0),uL 60 (ld 55 59),uP 61 (nk 60),uP 62 (fa 58 61 1),uL 63 (ld 27 62),uP 64 (mv 9),uP 65 (nk 64),uP 66 (fa 61 65 0),uL 67 (ld 55 66),uP 68 (nk 67),uP 69 (fa 58 68 2),uL 70 (ld 28 69),uP 71 (mv 0),uP 72 (mv 7),uP 73 (mv 8),uF 74 (cf 24 #[(t 71),(t 72),(t 73)] #[31,24,52]) .make [],uF 75 (cb .append #[(t 70),(t 74)] #[28,28]) .make [11,14],uF 76 (cf 23 #[(t 75)] #[28]) .make [11,14],uP 4 (sg 56),oF (.store 27 (t 5) (t 63)) .make [4,7,11,14],uP 6 (sg 76)]
def correctorref12_Tree_l0 (F:Nat) (a0:List UInt8) (a1:Int):Nat→(List al)→(List an)→aL→Int→Bool→(List au)→Int→Int→Int→Option ((List al)×(List an)×aL×Int×Bool×(List au)×Int×Int)
 | 0,_,_,_,_,_,_,_,_,_=>none
 | n+1,aa,j,ab,ad,ae,ag,ah,U,I=>
  if I<(j.length:Int) then
   ((if 0≤I∧I<(j.length:Int) then
     (j[I.toNat]?).bind fun aj=>
     if U≤aj.ai then
      if 0≤I∧I<(j.length:Int) then
       (j[I.toNat]?).bind fun ak=>
       (ml F (⟨ab,j,ad,ae,ag,ah,U⟩:aV) ak).bind fun J=>
       some (aa,J.Rows,J.R,J.Doc,J.aA,J.S,J.aw,J.Read)
      else none
     else
      some (aa,j,ab,ad,ae,ag,ah,U)
    else none):Option ((List al)×(List an)×aL×Int×Bool×(List au)×Int×Int)).bind fun o=>match o with
    | (ao,aq,ar,av,ax,ay,az,aB)=>correctorref12_Tree_l0 F a0 a1 n ao aq ar av ax ay az aB (af (I+1))
  else
   some (aa,j,ab,ad,ae,ag,ah,U)
def lF (F:Nat) (a0:List UInt8) (a1:Int):Option ((List al)×cG×(List aj)):=
 if a1<(1:Int) then
  some ([],(⟨[]⟩:cG),[])
 else
  if (50:Int)<a1 then
   some ([],(⟨[]⟩:cG),[])
  else
   (mG F a0).bind fun j=>
   (l8 F j).bind fun aa=>
   (mg F (j.length:Int)).bind fun ab=>
   ((correctorref12_Tree_l0 F a0 a1 F j aa (⟨j,ab,[],(j.length:Int)⟩:aL) (-1) false [] a1 0 0):Option ((List al)×(List an)×aL×Int×Bool×(List au)×Int×Int)).bind fun o=>match o with
    | (J,ad,I,af,ag,ah,ai,ak)=>(mT F a0 J ad).bind fun U=>
    if I.D.length+U.length≤5864062014805 then
     (nX F (I.D++U)).bind fun ae=>
     some (J,I.T,ae)
    else none
theorem uS (F:Nat) {h:AH} {Z:Zn} {a0:List UInt8} {a1:Int} {v2} (hP:Pre Z h []) (c9:RS (α:=UInt8) Z v2 a0) {r:(List al)×cG×(List aj)} (hm:lF F a0 a1=some r):
  bQ Try.prog 8 [v2,V a1] h Z [] fun v Z' A'=>∃ v4 v6 da db, .tuple #[v4, .agg #[v6],da]=v∧A'=[.gs da db (aa aj)]∧RS (α:=al) Z' v4 r.1∧RS (α:=aq) Z' v6 r.2.1.ak∧RCs (α:=aj) Z' db r.2.2:=by
 refine b6 Try.func8 hP ?_
 intro hs hS
 unfold lF at hm
 replace hS:St hs [] Z (0,0) Z hs []:=hS
 refine s0<|dK 1 [.slice none 0 0] hS ?_
 intro cx ff b3
 refine xn 1<|sq<|s0<|aP 1 hm ?_ ?_<;>intro fg hm
 refine xn 4<|dT<|s0<|bG 2 0 (.agg #[.slice none 0 0]) [.slice none 0 0] [.slice none 0 0] b3 rfl rfl rfl ?_
 intro fh dI
 refine xn 1<|rt<|⟨rfl,?_⟩
 have dc:=dI.dh (aa aj)
 obtain rfl:=si hm
 refine ⟨_,_,_,tk (.slice none 0 0) (ResL.cell (v:= .agg #[.slice none 0 0]) (by kernel_rfl) dc (i:=1) rfl (by kernel_rfl) (tk (.slice none 0 0) (ResL.nil))),(dc.takeN 1),?_⟩
 exact ⟨.slice none 0 0, .slice none 0 0,(.slice none 0 0),[],rfl,rfl,(RS.bu _),(RS.bu _),(RCs.bu _)⟩
 refine cH 2 hm ?_ ?_<;>intro fi hm
 refine xn 1<|dT<|s0<|bG 2 0 (.agg #[.slice none 0 0]) [.slice none 0 0] [.slice none 0 0] b3 rfl rfl rfl ?_
 intro fj dJ
 refine xn 1<|rt<|⟨rfl,?_⟩
 have dd:=dJ.dh (aa aj)
 obtain rfl:=si hm
 refine ⟨_,_,_,tk (.slice none 0 0) (ResL.cell (v:= .agg #[.slice none 0 0]) (by kernel_rfl) dd (i:=1) rfl (by kernel_rfl) (tk (.slice none 0 0) (ResL.nil))),(dd.takeN 1),?_⟩
 exact ⟨.slice none 0 0, .slice none 0 0,(.slice none 0 0),[],rfl,rfl,(RS.bu _),(RS.bu _),(RCs.bu _)⟩
 refine xn 1<|dF<|sk<|s0 ?_
 obtain ⟨bq,dL,hm⟩:=ah hm
 refine c0 1 b3 (BP F b3.eJ c9 dL) ?_
 rintro _ fk fl _ fm dN ⟨aG,fo,rfl,rfl,dO⟩
 refine xn 1<|s0 ?_
 obtain ⟨fp,fq,bw,de⟩:=(dN.front 0 rfl).freeze dO
 obtain ⟨dP,dQ,hm⟩:=ah hm
 refine c0 1 de (DT F de.eJ bw dQ) ?_
 rintro _ fr fs _ bV df ⟨a7,dR,rfl,rfl,dS⟩
 refine xn 1<|sr wy<|bD 2 aG (RS.len (bw.mono bV)) ?_
 obtain ⟨dU,dV,hm⟩:=ah hm
 refine c0 0 df (Bj F df.eJ dV) ?_
 rintro _ ft fu _ bW dW ⟨bX,fx,rfl,rfl,dX⟩
 refine xq 1 [(26,aG),(25, .agg #[bX]),(22,aG),(8,a7),(7,aG),(5,Pt cx 0),(0,v2),(1,V a1)]<|bD 0 aG (RS.len (bw.mono (bV.trans bW)))<|bT rfl trivial (jK (v:= .agg #[aG,bX, .slice none 0 0,V (bq.length:Int)]) rfl (CA.cons (cs:=[aG]) (RS.rO (bw.mono (bV.trans bW))) (CA.cons (cs:=[bX]) rfl (CA.cons (cs:=[V (bq.length:Int)]) rfl (CA.bu)))) (by kernel_rfl)) ?_
 refine g1 rfl trivial (gv (cs:=[aG,bX, .slice none 0 0,V (bq.length:Int)]) rfl rfl) dW ?_
 intro bY fy dg
 refine xq 2 [(31,V a1),(30,a7),(29,Pt bY 0),(8,a7),(7,aG),(5,Pt cx 0),(0,v2)]<|bT rfl trivial (jK (v:= .agg #[Pt bY 0,a7,V (-1), .bool false, .slice none 0 0,V a1,V 0]) rfl (CA.cons (cs:=[Pt bY 0]) rfl (CA.cons (cs:=[a7]) (dg.fE (i:=2) rfl) (CA.cons (cs:=[V (-1)]) rfl (CA.cons (cs:=[V a1]) rfl (CA.bu))))) (by kernel_rfl)) ?_
 refine g1 rfl trivial (gv (cs:=[Pt bY 0,a7,V (-1), .bool false, .slice none 0 0,V a1,V 0]) rfl rfl) dg ?_
 intro dY fz dZ
 refine xn 1<|sq<|sp 1 ?_
 obtain ⟨cz,aH,hm⟩:=ah hm
 refine aI [0,5,7,8,9] (fun l h=>∃ aZ cA cC aQ a8 bb cD bc bd ad ab ax cE ao I bf U aB bZ aK bg,(cA,cC,aQ,a8,bb,cD,bc,bd)=cz∧RS (α:=al) aZ ab cA∧RCs (α:=an) aZ cE cC∧RS (α:=al) aZ bf aQ.L∧RS (α:=aq) aZ U aQ.T.ak∧RCs (α:=aj) aZ bZ aQ.D∧RCs (α:=au) aZ bg cD∧l=[(0,v2),(5,Pt ad 0),(7,ab),(8,ax),(9,Pt ao 0)]∧St hs [] Z (0,0) aZ h [.ae ad [.slice none 0 0], .gs ax cE (aa an), .ae ao [Pt I 0,ax,V a8, .bool bb,aK,V bc,V bd], .ae I (ay bf U aB aQ), .gs aB bZ (aa aj), .gs aK bg (aa au)]) ?_ ?_
 rintro l fA ⟨aZ,cA,cC,aQ,a8,bb,cD,bc,bd,ad,ab,ax,cE,ao,I,bf,U,aB,bZ,aK,bg,rfl,dj,ea,fB,cI,eb,fC,rfl,dm⟩
 try dsimp only at hm
 refine cU yF dm ?_
 intro b4 fD b5 bx
 refine yq 4 [(59,Pt ao 0),(56,ab),(0,v2),(5,Pt ad 0),(7,ab),(8,ax),(9,Pt ao 0)] ?_
 have fF:ao<b4:=b5.1 _ (List.mem_of_getElem? (i:=2) rfl) _ (by simp [Itm.ids])
 refine aX (v:=Pt I 0) rfl trivial rfl (by show ao<_;omega) (aC (v:=Pt I 0) trivial) (bx.aS (i:=2) rfl (by kernel_rfl)) trivial<|yq 2 [(62,Pt I 1),(56,ab),(0,v2),(5,Pt ad 0),(7,ab),(8,ax),(9,Pt ao 0)] ?_
 have fG:I<b4:=b5.1 _ (List.mem_of_getElem? (i:=3) rfl) _ (by simp [Itm.ids])
 refine aX (v:= .agg #[U]) rfl trivial rfl (by show I<_;omega) (ir (cs:=[U]) (.cons (RS.dG cI) .nil)) (bx.aS (i:=3) rfl (by kernel_rfl)) trivial<|yq 3 [(66,Pt ao 0),(63, .agg #[U]),(56,ab),(0,v2),(5,Pt ad 0),(7,ab),(8,ax)] ?_
 have fH:ao<b4:=b5.1 _ (List.mem_of_getElem? (i:=2) rfl) _ (by simp [Itm.ids])
 refine aX (v:=Pt I 0) rfl trivial rfl (by show ao<_;omega) (aC (v:=Pt I 0) trivial) (bx.aS (i:=2) rfl (by kernel_rfl)) trivial<|yq 2 [(69,Pt I 2),(63, .agg #[U]),(56,ab),(0,v2),(5,Pt ad 0),(7,ab),(8,ax)] ?_
 have fI:I<b4:=b5.1 _ (List.mem_of_getElem? (i:=3) rfl) _ (by simp [Itm.ids])
 refine aX (v:=aB) rfl trivial rfl (by show I<_;omega) (aC (v:=aB) (bx.di (i:=4) rfl)) (bx.aS (i:=3) rfl (by kernel_rfl)) trivial<|yq 3 [(73,ax),(72,ab),(71,v2),(70,aB),(63, .agg #[U]),(56,ab),(5,Pt ad 0)] ?_
 obtain ⟨fJ,a2,ec,dp⟩:=(bx.front 1 rfl).freeze ea
 obtain ⟨ed,ee,hm⟩:=ah hm
 have eg:=dp.cM
 have dq:St _ _ _ _ _ _ ([]++[.ae ad [.slice none 0 0], .ae ao [Pt I 0,ax,V a8, .bool bb,aK,V bc,V bd], .ae I (ay bf U aB aQ), .gs aB bZ (aa aj), .gs aK bg (aa au)]):=eg
 obtain ⟨fK,fL,fM,fN,ei,cJ,cK,cL,rfl,rfl,ej⟩:=BQ F dq.eF (c9.mono (dm.ag.trans a2)) (dj.mono a2) ec ee
 have ek:=dq.call cJ
 have bz:=cJ.ag
 refine fv rfl trivial dp (dy ei rfl rfl rfl) ek (St.fw cJ) ?_
 intro fO dr
 obtain ⟨fP,hm⟩:=aJ hm
 have bB:St _ _ _ _ _ _ ([.gs aB bZ (aa aj)]++[.gs cK cL (aa aj), .ae ad [.slice none 0 0], .ae ao [Pt I 0,ax,V a8, .bool bb,aK,V bc,V bd], .ae I (ay bf U aB aQ), .gs aK bg (aa au)]):=(dr.front 4 rfl)
 refine iK rfl trivial bB (dM (ys:=ed) (bP:=24) bB.sub (i:=0) rfl (eb.mono (a2.trans bz)) ((dr.cM).eI (j:=0) rfl ej) rfl rfl (by kernel_rfl) (by omega) (by omega)) (a2.trans bz) (.a5 (bB.bJ 3 rfl bO) (.a5 (bB.bJ 2 rfl bO) (.a5 (bB.bJ 3 rfl bO) (.a5 (bB.bJ 2 rfl bO) .nil)))) ?_
 rintro fQ fS fT ⟨en,ep⟩
 obtain ⟨fU,b7,er,ds⟩:=(ep.front 0 rfl).freeze en
 obtain ⟨fV,et,hm⟩:=ah hm
 have eu:=ds.cM
 have dx:St _ _ _ _ _ _ ([]++[.gs cK cL (aa aj), .ae ad [.slice none 0 0], .ae ao [Pt I 0,ax,V a8, .bool bb,aK,V bc,V bd], .ae I (ay bf U aB aQ), .gs aK bg (aa au)]):=eu
 obtain ⟨fW,fX,fY,fZ,ew,cN,b0,dz,rfl,rfl,ez⟩:=wB F dx.eF er et
 have eA:=dx.call cN
 have b8:=cN.ag
 refine fv rfl trivial ds (dy ew rfl rfl rfl) eA (St.fw cN) ?_
 intro ga eB
 refine yq 1 [(4,ab),(76,b0),(63, .agg #[U]),(5,Pt ad 0)] ?_
 have bC:St _ _ _ _ _ _ ([.ae ad [.slice none 0 0]]++[.gs b0 dz (aa aj), .gs cK cL (aa aj), .ae ao [Pt I 0,ax,V a8, .bool bb,aK,V bc,V bd], .ae I (ay bf U aB aQ), .gs aK bg (aa au)]):=(eB.front 2 rfl)
 refine g3 rfl trivial bC (gK (vs:=[U]) (cF:=[U]) (L':=[.ae ad [U]]) bC.sub (i:=0) rfl rfl rfl rfl (by kernel_rfl) (br (RS.c7 (cI.mono (a2.trans (bz.trans (b7.trans b8))))) cm) rfl rfl rfl) (a2.trans (bz.trans (b7.trans b8))) (.a5 (bC.bJ 3 rfl bO) (.a5 (bC.bJ 2 rfl bO) (.a5 (bC.bJ 3 rfl bO) (.a5 (bC.bJ 2 rfl bO) .nil)))) ?_
 intro gb eC
 refine ye 1 [(6,b0),(4,ab),(5,Pt ad 0)] ?_
 have dA:=eC.aY
 refine rt<|⟨rfl,?_⟩
 obtain rfl:=si hm
 refine ⟨_,_,_,tk ab (ResL.cell (v:= .agg #[U]) (by kernel_rfl) dA (i:=0) rfl (by kernel_rfl) (tk b0 (ResL.nil))),((dA.front 1 rfl).takeN 1),?_⟩
 exact ⟨ab,U,b0,dz,rfl,rfl,(dj.mono (a2.trans (bz.trans (b7.trans b8)))),(cI.mono (a2.trans (bz.trans (b7.trans b8)))),ez⟩
 refine bk 0 ?_
 obtain ⟨gd,cO,eD,eE⟩:=(dZ.front 2 rfl).freeze dX
 have eG:=eE.dh (aa aj)
 have eH:=eG.dh (aa au)
 refine lp [0,5,7,8,9,10] (fun n l h=>∃ a3 bE bF aR bh bj bI bl aU az aF aM J bK ar a4 bL bM bm bR bn bS,correctorref12_Tree_l0 F a0 a1 n bE bF aR bh bj bI bl aU az=some cz∧RS (α:=al) a3 aM bE∧RCs (α:=an) a3 bK bF∧RS (α:=al) a3 bL aR.L∧RS (α:=aq) a3 bM aR.T.ak∧RCs (α:=aj) a3 bR aR.D∧RCs (α:=au) a3 bS bI∧l=[(0,v2),(5,Pt aF 0),(7,aM),(8,J),(9,Pt ar 0),(10,V az)]∧St hs [] Z (0,0) a3 h [.ae aF [.slice none 0 0], .gs J bK (aa an), .ae ar [Pt a4 0,J,V bh, .bool bj,bn,V bl,V aU], .ae a4 (ay bL bM bm aR), .gs bm bR (aa aj), .gs bn bS (aa au)]) F ⟨_,bq,dP,(⟨bq,dU,[],(bq.length:Int)⟩:aL),(-1),false,[],a1,0,0,cx,aG,a7,dR,dY,bY,aG,bX,(.slice none 0 0),[],(.slice none 0 0),[],aH,(bw.mono (bV.trans (bW.trans cO))),(dS.mono (bW.trans cO)),(bw.mono (bV.trans (bW.trans cO))),eD,(RCs.bu _),(RCs.bu _),(by kernel_rfl),((((((eH.front 0 rfl).front 1 rfl).front 3 rfl).front 3 rfl).front 4 rfl).front 5 rfl)⟩ ?_
 rintro cP l gf ⟨a3,bE,bF,aR,bh,bj,bI,bl,aU,az,aF,aM,J,bK,ar,a4,bL,bM,bm,bR,bn,bS,aH,cQ,aW,cR,cS,cT,cX,rfl,c3⟩
 rcases cP with _ | cP
 cases (show none=some cz from aH)
 rw [correctorref12_Tree_l0] at aH
 refine sq<|s0<|bD 2 J (c3.dn (i:=1) rfl aW)<|aP 0 aH ?_ ?_<;>intro gg aH
 refine xn 0<|dT<|sk<|sq<|bk 1 ?_
 obtain ⟨eK,av,aH⟩:=ah aH
 refine eo [0,5,7,8,9,10] (fun l h=>∃ a6 b9 ca bo cb cc cd cf cg ch cj b1 ck cl cn cq cr ct cu cv cw,(b9,ca,bo,cb,cc,cd,cf,cg)=eK∧RS (α:=al) a6 cj b9∧RCs (α:=an) a6 ck ca∧RS (α:=al) a6 cq bo.L∧RS (α:=aq) a6 cr bo.T.ak∧RCs (α:=aj) a6 cu bo.D∧RCs (α:=au) a6 cw cd∧l=[(0,v2),(5,Pt ch 0),(7,cj),(8,b1),(9,Pt cl 0),(10,V az)]∧St hs [] Z (0,0) a6 h [.ae ch [.slice none 0 0], .gs b1 ck (aa an), .ae cl [Pt cn 0,b1,V cb, .bool cc,cv,V cf,V cg], .ae cn (ay cq cr ct bo), .gs ct cu (aa aj), .gs cv cw (aa au)]) (by kernel_rfl) ?_ ?_
 rintro l gh ⟨a6,b9,ca,bo,cb,cc,cd,cf,cg,ch,cj,b1,ck,cl,cn,cq,cr,ct,cu,cv,cw,rfl,eL,eM,eN,eO,eP,eQ,rfl,eR⟩
 try dsimp only at aH
 refine gp 3 ?_
 exact ⟨cP,Nat.lt_succ_self _,⟨_,b9,ca,bo,cb,cc,cd,cf,cg,af (az+1),ch,cj,b1,ck,cl,cn,cq,cr,ct,cu,cv,cw,aH,eL,eM,eN,eO,eP,eQ,(by kernel_rfl),eR⟩⟩
 refine ey Ee c3 ?_
 intro dB gi dC bU
 refine yq 2 [(41,V az),(40,J),(0,v2),(5,Pt aF 0),(7,aM),(8,J),(9,Pt ar 0),(10,V az)] ?_
 obtain ⟨dD,av⟩:=aJ av
 refine aD rfl trivial (bA rfl rfl (by kernel_rfl:slTy _ _=some (aa an)) (bU.bN (j:=1) rfl aW (by omega)) dD.1 dD.2)<|yq 1 [(43, .pointer (some (ba J az (aa an) 1))),(0,v2),(5,Pt aF 0),(7,aM),(8,J),(9,Pt ar 0),(10,V az)] ?_
 obtain ⟨c4,dH,av⟩:=ah av
 obtain ⟨gj,eS,eT,gk⟩:=bU.cp (j:=1) rfl aW (i:=az) dH
 obtain rfl:=Cb eS
 have eU:=dw dH
 have eV:=bU.bN (j:=1) rfl aW eU
 have gl:(baseOf J).block<dB:=dk (dC.1 _ (List.mem_of_getElem? (i:=1) rfl)) eV
 refine dt rfl trivial rfl (by show (baseOf J).block<_;omega) (aC (v:=V c4.ai) trivial) (bH (w:=V c4.ai) eT rfl (by kernel_rfl)) trivial<|yq 3 [(47,Pt ar 6),(44,V c4.ai),(0,v2),(5,Pt aF 0),(7,aM),(8,J),(9,Pt ar 0),(10,V az)] ?_
 have gm:ar<dB:=dC.1 _ (List.mem_of_getElem? (i:=2) rfl) _ (by simp [Itm.ids])
 refine aX (v:=V aU) rfl trivial rfl (by show ar<_;omega) (aC (v:=V aU) trivial) (bU.aS (i:=2) rfl (by kernel_rfl)) trivial ?_
 rcases ifs av with ⟨c6,av⟩ | ⟨c6,av⟩
 refine aD rfl trivial (a9 rfl rfl (il c6))<|yf [(49, .bool true),(0,v2),(5,Pt aF 0),(7,aM),(8,J),(9,Pt ar 0),(10,V az)] ?_
 have c8:=bU.aY
 refine dT<|g0<|dv 3 1 av c8 aW rfl ?_
 intro gn av
 refine eh 0 0 1 (fun b2=> .agg #[V b2.Kind,V b2.ai,V b2.To,V b2.aE]) av c8 aW rfl ?_
 intro b2 gq av
 obtain ⟨bp,eW,av⟩:=ah av
 have eX:St _ _ _ _ _ _ ([.ae ar [Pt a4 0,J,V bh, .bool bj,bn,V bl,V aU], .ae a4 (ay bL bM bm aR), .gs bm bR (aa aj), .gs J bK (aa an), .gs bn bS (aa au)]++[.ae aF [.slice none 0 0]]):=(((((c8.front 5 rfl).front 2 rfl).front 5 rfl).front 5 rfl).front 5 rfl)
 refine cB 0 eX (fun p=>A3 F (a0:=(⟨aR,bF,bh,bj,bI,bl,aU⟩:aV)) p cR cS cT aW cX eW) ?_
 rintro _ gr gu _ eY eZ ⟨e0,e2,e3,e4,e5,e6,e7,rfl,rfl,e8,e9,fa,fb,fc⟩
 refine xn 0 ?_
 obtain rfl:=si av
 exact ⟨_,bE,bp.Rows,bp.R,bp.Doc,bp.aA,bp.S,bp.aw,bp.Read,aF,aM,J,e5,ar,a4,e0,e2,e3,e4,e6,e7,rfl,(cQ.mono eY),fb,e8,e9,fa,fc,(by kernel_rfl),((((((eZ.front 4 rfl).front 3 rfl).front 3 rfl).front 3 rfl).front 4 rfl).front 5 rfl)⟩
 refine aD rfl trivial (a9 rfl rfl (ig c6))<|yf [(49, .bool false),(0,v2),(5,Pt aF 0),(7,aM),(8,J),(9,Pt ar 0),(10,V az)] ?_
 have fe:=bU.aY
 refine dF<|sk ?_
 obtain rfl:=si av
 exact ⟨_,bE,bF,aR,bh,bj,bI,bl,aU,aF,aM,J,bK,ar,a4,bL,bM,bm,bR,bn,bS,rfl,cQ,aW,cR,cS,cT,cX,(by kernel_rfl),fe⟩
 refine xn 0<|dF<|xt 0<|aO ?_
 obtain rfl:=si aH
 exact ⟨_,bE,bF,aR,bh,bj,bI,bl,aU,aF,aM,J,bK,ar,a4,bL,bM,bm,bR,bn,bS,rfl,cQ,aW,cR,cS,cT,cX,(by kernel_rfl),c3⟩
end Go.Proofs.Ytcilejikekccmaa.M
namespace Go.Proofs.Ytcilejikekccmaa.M
open Go Am Sy
open Sy.Cell (rc)
structure df where
 ak:List aq
 deriving DecidableEq,Inhabited
instance:Cell df where
 size:=1
 rc Z cs x:=∃ v0,RS (α:=aq) Z v0 x.ak∧cs=[v0]
 len h:=by obtain ⟨v0,j,h⟩:=h;rw [h];rfl
 mono hz h:=by obtain ⟨v0,j,h⟩:=h;exact ⟨v0,j.mono hz,h⟩
 one h:=by obtain ⟨v0,j,h⟩:=h;subst h;exact (br j.c7 cm)
 pos:=by decide
instance:cV df aq where
 row x:=x.ak
 dQ v cs x:=cs=[v]
 o6 h hd:=⟨_,h,hd⟩
 kJ h:=by rw [h];rfl
 done hv h:=by subst h;exact (br hv cm)
 inj h k:=by rw [h] at k;simpa using k
 fn h k:=h.trans k.symm
structure pZ where
 ai:Int
 To:Int
 deriving DecidableEq,Inhabited
instance:Cell pZ where
 size:=2
 rc Z cs x:=cs=[V x.ai,V x.To]
 len h:=by rw [h];rfl
 mono _ h:=h
 one h:=by rw [h];rfl
 pos:=by decide
abbrev zQ (x:pZ):List Value:=[V x.ai,V x.To]
instance:FC pZ:=⟨zQ,fun q=>q⟩
def rR (F:Nat) (a0:al) (a1:Int):Option Bool:=
 if a0.ai≤a1 then
  if a1<a0.To then
   some true
  else
   some false
 else
  some false
theorem A6 (F:Nat) {h:AH} {Z:Zn} {a0:al} {a1:Int} {I} (hP:Pre Z h [.ae I [V a1]]) {r:Bool} (hm:rR F a0 a1=some r):
  bQ Try.prog 52 [.agg #[V a0.Kind,V a0.ai,V a0.To],Pt I 0] h Z [.ae I [V a1]] fun v Z' A'=> .bool r=v∧A'=[.ae I [V a1]]:=by
 refine b6 Try.func52 hP ?_
 intro hs hS
 unfold rR at hm
 refine s0<|dK 0 [V a0.Kind,V a0.ai,V a0.To] hS ?_
 intro J U j
 refine xn 1<|s0<|aB 0 1 (V a1) j rfl<|aB 1 0 (V a0.ai) j rfl<|cC 0 hm ?_ ?_<;>intro aa hm
 refine aB 1 1 (V a1) j rfl<|aB 1 0 (V a0.To) j rfl<|aP 0 hm ?_ ?_<;>intro ab hm
 refine xn 2<|rt<|⟨rfl,?_⟩
 obtain rfl:=si hm
 refine ⟨_,_,_,tk (.bool true) (ResL.nil),((j.front 1 rfl).takeN 1),?_⟩
 exact ⟨rfl,rfl⟩
 refine xn 2<|rt<|⟨rfl,?_⟩
 obtain rfl:=si hm
 refine ⟨_,_,_,tk (.bool false) (ResL.nil),((j.front 1 rfl).takeN 1),?_⟩
 exact ⟨rfl,rfl⟩
 refine xn 7<|rt<|⟨rfl,?_⟩
 obtain rfl:=si hm
 refine ⟨_,_,_,tk (.bool false) (ResL.nil),((j.front 1 rfl).takeN 1),?_⟩
 exact ⟨rfl,rfl⟩
def slices_IndexFunc_api_Token_l0 (F:Nat) (a0:List al) (dX:Int):Nat→Int→Option (Sum Unit Int)
 | 0,_=>none
 | n+1,j=>
  if j<(a0.length:Int) then
   if 0≤j∧j<(a0.length:Int) then
    (a0[j.toNat]?).bind fun I=>
    (rR F I dX).bind fun J=>
    if J=true then
     some (.inr j)
    else
     slices_IndexFunc_api_Token_l0 F a0 dX n (af (j+1))
   else none
  else
   some (.inl ())
def qC (F:Nat) (a0:List al) (dX:Int):Option Int:=
 ((slices_IndexFunc_api_Token_l0 F a0 dX F 0):Option (Sum Unit Int)).bind fun o=>match o with
  | .inl ()=>some (-1)
  | .inr y=>some y
theorem As (F:Nat) {h:AH} {Z:Zn} {a0:List al} {dX:Int} {v2 I} (hP:Pre Z h [.ae I [V dX]]) (ab:RS (α:=al) Z v2 a0) {r:Int} (hm:qC F a0 dX=some r):
  bQ Try.prog 51 [v2, .func (.func 52) #[] #[Pt I 0]] h Z [.ae I [V dX]] fun v Z' A'=>V r=v∧A'=[.ae I [V dX]]:=by
 refine b6 Try.func51 hP ?_
 intro hs hS
 unfold qC at hm
 refine sp 1<|sq<|s0<|bD 1 v2 (RS.len ab)<|xn 1 ?_
 obtain ⟨ad,j,hm⟩:=ah hm
 refine aI [] (fun l h=>∃ ak, .inl ()=ad∧l=[]∧St hs (aR [.ae I [V dX]]) Z (0,0) ak h [.ae I [V dX]]) ?_ ?_
 rintro l au ⟨ak,rfl,rfl,aq⟩
 try dsimp only at hm
 refine sp 1<|rt<|⟨rfl,?_⟩
 obtain rfl:=si hm
 refine ⟨_,_,_,tk (V (-1)) (ResL.nil),aq,?_⟩
 exact ⟨rfl,rfl⟩
 refine bk 0<|lp [0,1,7,8] (fun n l h=>∃ an J,slices_IndexFunc_api_Token_l0 F a0 dX n J=some ad∧l=[(0,v2),(1, .func (.func 52) #[] #[Pt I 0]),(7,V (a0.length:Int)),(8,V J)]∧St hs (aR [.ae I [V dX]]) Z (0,0) an h [.ae I [V dX]]) F ⟨_,0,j,(by kernel_rfl),hS⟩ ?_
 rintro aj l av ⟨an,J,j,rfl,U⟩
 rcases aj with _ | aj
 cases (show none=some ad from j)
 rw [slices_IndexFunc_api_Token_l0] at j
 refine s0<|aP 0 j ?_ ?_<;>intro aw j
 refine xn 0<|sq<|dT<|sk<|sq<|bk 1<|sp 2<|s0<|a2 3 j (ab.mono U.ag) ?_
 intro ax j
 refine bm 0 0 (fun aa=> .agg #[V aa.Kind,V aa.ai,V aa.To]) j (ab.mono U.ag) U ?_
 intro aa ay j
 obtain ⟨az,ar,j⟩:=ah j
 refine cA 0 U (fun p=>A6 F p ar) ?_
 rintro _ aA aB _ aC ao ⟨rfl,rfl⟩
 refine xn 0<|db j ?_ ?_<;>intro aD j
 refine sp 2<|rt<|a3<|a3<|⟨rfl,?_⟩
 obtain rfl:=si j
 obtain rfl:=si hm
 refine ⟨_,_,_,tk (V J) (ResL.nil),ao,?_⟩
 exact ⟨rfl,rfl⟩
 refine sk<|gp 2 ?_
 exact ⟨aj,Nat.lt_succ_self _,⟨_,af (J+1),j,(by kernel_rfl),ao⟩⟩
 refine xn 0<|sq<|dF<|xt 0<|aO ?_
 obtain rfl:=si j
 exact ⟨_,rfl,(by kernel_rfl),U⟩
def qQ (F:Nat) (a0:List al) (a1:Int):Option Int:=
 (qC F a0 a1).bind fun j=>
 some j
theorem wu (F:Nat) {h:AH} {Z:Zn} {a0:List al} {a1:Int} {v2} (hI:Inv Z h) (j:RS (α:=al) Z v2 a0) {r:Int} (hm:qQ F a0 a1=some r):
  b3 Try.prog 25 [v2,V a1] h Z (V r):=by
 refine b4 Try.func25 hI ?_
 intro hs hS
 unfold qQ at hm
 refine s0<|dK 0 [V a1] hS ?_
 intro ab ad I
 refine xn 1<|s0 ?_
 obtain ⟨J,U,hm⟩:=ah hm
 refine cA 2 I (fun p=>As F p j U) ?_
 rintro _ ae af _ ag aa ⟨rfl,rfl⟩
 refine xn 1<|rt<|⟨rfl,?_⟩
 obtain rfl:=si hm
 refine ⟨_,_,_,tk (V J) (ResL.nil),aa,?_⟩
 exact rfl
def E3:List aN:=[u 2 (.box 34 (t 0)),u 4 (.assign (.const (.bool false)))]
def k9 (F:Nat) (a0:df) (a1:Int):Option Bool:=
 if (0:Int)≤a1 then
  if a1<(a0.ak.length:Int) then
   some true
  else
   some false
 else
  some false
theorem tC (F:Nat) {h:AH} {Z:Zn} {a0:df} {a1:Int} {v2} (hI:Inv Z h) (I:RS (α:=aq) Z v2 a0.ak) {r:Bool} (hm:k9 F a0 a1=some r):
  b3 Try.prog 28 [.agg #[v2],V a1] h Z (.bool r):=by
 refine b4 Try.func28 hI ?_
 intro hs hS
 unfold k9 at hm
 refine sr E3<|g1 rfl trivial (gv (cs:=[v2]) rfl rfl) hS ?_
 intro J U j
 refine xn 1<|s0<|cC 1 hm ?_ ?_<;>intro aa hm
 refine aB 3 0 v2 j rfl<|bD 0 v2 (RS.len I)<|aP 0 hm ?_ ?_<;>intro ab hm
 refine xn 2<|rt<|⟨rfl,?_⟩
 obtain rfl:=si hm
 refine ⟨_,_,_,tk (.bool true) (ResL.nil),j,?_⟩
 exact rfl
 refine xn 2<|rt<|⟨rfl,?_⟩
 obtain rfl:=si hm
 refine ⟨_,_,_,tk (.bool false) (ResL.nil),j,?_⟩
 exact rfl
 refine xn 8<|rt<|⟨rfl,?_⟩
 obtain rfl:=si hm
 refine ⟨_,_,_,tk (.bool false) (ResL.nil),j,?_⟩
 exact rfl
def xp:List bt:=[uL 5 (ld 34 1),uP 6 (mv 0),uF 7 (cf 28 #[(t 5),(t 6)] #[34,3]) .make [0],uP 8 (mv 7),aK 8 9 (fa 34 1 0),jB 8 (some 10) (ld 25 9) .look [2],aK 8 11 (mv 0),aK 8 12 (ia 25 10 11),aK 8 13 (fa 37 12 1),jB 8 (some 14) (ld 3 13) .look [2],jB 8 (some 15) (ld 3 2) .look [2],aK 8 16 (bo .leq 3 14 15 3),uP 17 (pf 8 16),uP 18 (mv 17),jB 18 (some 19) (ld 3 2) .look [2],aK 18 20 (fa 34 1 0),jB 18 (some 21) (ld 25 20) .look [2],aK 18 22 (mv 0),aK 18 23 (ia 25 21 22),aK 18 24 (fa 37 23 2),jB 18 (some 25) (ld 3 24) .look [2],aK 18 26 (bo .lss 3 19 25 3),uP 27 (pf 18 26),uP 4 (sg 27)]
def p3 (F:Nat) (a0:Int) (a1:df) (j:Int):Option Bool:=
 (k9 F a1 a0).bind fun I=>
 if I=true then
  if 0≤a0∧a0<(a1.ak.length:Int) then
   (a1.ak[a0.toNat]?).bind fun J=>
   if J.ai≤j then
    if 0≤a0∧a0<(a1.ak.length:Int) then
     (a1.ak[a0.toNat]?).bind fun U=>
     if j<U.To then
      some true
     else
      some false
    else none
   else
    some false
  else none
 else
  some false
theorem wX (F:Nat) {h:AH} {Z:Zn} {a0:Int} {a1:df} {U:Int} {j I J} (hP:Pre Z h [.ae j [I], .ae J [V U]]) (ad:RS (α:=aq) Z I a1.ak) {r:Bool} (hm:p3 F a0 a1 U=some r):
  bQ Try.prog 27 [V a0,Pt j 0,Pt J 0] h Z [.ae j [I], .ae J [V U]] fun v Z' A'=> .bool r=v∧A'=[.ae j [I], .ae J [V U]]:=by
 refine b6 Try.func27 hP ?_
 intro hs hS
 unfold p3 at hm
 refine s0<|xe 1 [(0,V a0),(1,Pt j 0),(2,Pt J 0)]<|cU xp hS ?_
 intro af aV ag aj
 have aW:j<af:=ag.1 _ (List.mem_of_getElem? (i:=0) rfl) _ (by simp [Itm.ids])
 refine aX (v:= .agg #[I]) rfl trivial rfl (by show j<_;omega) (ir (cs:=[I]) (.cons (RS.dG ad) .nil)) (aj.aS (i:=0) rfl (by kernel_rfl)) trivial<|yq 1 [(6,V a0),(5, .agg #[I]),(0,V a0),(1,Pt j 0),(2,Pt J 0)] ?_
 obtain ⟨aA,aB,hm⟩:=ah hm
 have au:=aj.cM
 obtain ⟨aZ,a2,aE,av,rfl⟩:=tC F au.inv ad aB
 have aF:=St.call (A:=[]) (B:=[.ae j [I], .ae J [V U]]) au av
 refine fv rfl trivial aj (dy aE rfl rfl rfl) aF (St.fw av) ?_
 intro a3 ab
 refine yq 1 [(8, .bool aA),(0,V a0),(1,Pt j 0),(2,Pt J 0)] ?_
 rcases ifs hm with ⟨an,hm⟩ | ⟨an,hm⟩
 refine vN (t:=8) rfl an<|yq 1 [(9,Pt j 0),(8, .bool true),(0,V a0),(1,Pt j 0),(2,Pt J 0)] ?_
 have a4:j<af:=ag.1 _ (List.mem_of_getElem? (i:=0) rfl) _ (by simp [Itm.ids])
 refine aX (v:=I) rfl rfl rfl (by show j<_;omega) (aC (v:=I) (RS.dG ad)) (ab.aS (i:=0) rfl (by kernel_rfl)) trivial<|yq 1 [(11,V a0),(10,I),(8, .bool true),(0,V a0),(1,Pt j 0),(2,Pt J 0)] ?_
 obtain ⟨aw,hm⟩:=aJ hm
 refine aD rfl rfl (bA rfl rfl (by kernel_rfl:slTy _ _=some (aa aq)) (RS.cQ ad (by omega)) aw.1 aw.2)<|yq 1 [(13, .pointer (some (ba I a0 (aa aq) 1))),(8, .bool true),(0,V a0),(1,Pt j 0),(2,Pt J 0)] ?_
 obtain ⟨ax,aG,hm⟩:=ah hm
 obtain ⟨a5,aH,aI⟩:=RS.bR ad (i:=a0) aG
 obtain ⟨a6,a7,rfl⟩:=c6 aH
 refine ct rfl rfl rfl (fun h2 hz=>bH (w:=V ax.ai) (aI h2 hz) rfl (by kernel_rfl)) (ab.bM (aM.refl _)) (aC (v:=V ax.ai) trivial) trivial ?_
 have a8:J<af:=ag.1 _ (List.mem_of_getElem? (i:=1) rfl) _ (by simp [Itm.ids])
 refine aX (v:=V U) rfl rfl rfl (by show J<_;omega) (aC (v:=V U) trivial) (ab.aS (i:=1) rfl (by kernel_rfl)) trivial ?_
 rcases ifs hm with ⟨ao,hm⟩ | ⟨ao,hm⟩
 refine aD rfl rfl (a9 rfl rfl (p9 ao))<|yq 2 [(18, .bool true),(0,V a0),(1,Pt j 0),(2,Pt J 0)] ?_
 have bb:J<af:=ag.1 _ (List.mem_of_getElem? (i:=1) rfl) _ (by simp [Itm.ids])
 refine aX (v:=V U) rfl rfl rfl (by show J<_;omega) (aC (v:=V U) trivial) (ab.aS (i:=1) rfl (by kernel_rfl)) trivial<|yq 1 [(20,Pt j 0),(19,V U),(18, .bool true),(0,V a0)] ?_
 have bc:j<af:=ag.1 _ (List.mem_of_getElem? (i:=0) rfl) _ (by simp [Itm.ids])
 refine aX (v:=I) rfl rfl rfl (by show j<_;omega) (aC (v:=I) (RS.dG ad)) (ab.aS (i:=0) rfl (by kernel_rfl)) trivial<|yq 1 [(22,V a0),(21,I),(19,V U),(18, .bool true)] ?_
 obtain ⟨ay,hm⟩:=aJ hm
 refine aD rfl rfl (bA rfl rfl (by kernel_rfl:slTy _ _=some (aa aq)) (RS.cQ ad (by omega)) ay.1 ay.2)<|yq 1 [(24, .pointer (some (ba I a0 (aa aq) 2))),(19,V U),(18, .bool true)] ?_
 obtain ⟨az,aK,hm⟩:=ah hm
 obtain ⟨bd,aL,aO⟩:=RS.bR ad (i:=a0) aK
 obtain ⟨bf,bg,rfl⟩:=c6 aL
 refine ct rfl rfl rfl (fun h2 hz=>bH (w:=V az.To) (aO h2 hz) rfl (by kernel_rfl)) (ab.bM (aM.refl _)) (aC (v:=V az.To) trivial) trivial ?_
 rcases ifs hm with ⟨ar,hm⟩ | ⟨ar,hm⟩
 refine aD rfl rfl (a9 rfl rfl (l2 ar))<|ye 2 [(4, .bool true)] ?_
 have aP:=ab.aY
 refine rt<|⟨rfl,?_⟩
 obtain rfl:=si hm
 refine ⟨_,_,_,tk (.bool true) (ResL.nil),aP,?_⟩
 exact ⟨rfl,rfl⟩
 refine aD rfl rfl (a9 rfl rfl (lG ar))<|ye 2 [(4, .bool false)] ?_
 have aQ:=ab.aY
 refine rt<|⟨rfl,?_⟩
 obtain rfl:=si hm
 refine ⟨_,_,_,tk (.bool false) (ResL.nil),aQ,?_⟩
 exact ⟨rfl,rfl⟩
 refine aD rfl rfl (a9 rfl rfl (rq ao))<|ye 12 [(4, .bool false)] ?_
 have aR:=ab.aY
 refine rt<|⟨rfl,?_⟩
 obtain rfl:=si hm
 refine ⟨_,_,_,tk (.bool false) (ResL.nil),aR,?_⟩
 exact ⟨rfl,rfl⟩
 refine vN (t:=8) rfl (Bool.eq_false_iff.2 an)<|ye 20 [(4, .bool false)] ?_
 have aU:=ab.aY
 refine rt<|⟨rfl,?_⟩
 obtain rfl:=si hm
 refine ⟨_,_,_,tk (.bool false) (ResL.nil),aU,?_⟩
 exact ⟨rfl,rfl⟩
def oz (F:Nat) (a0:List Int) (dX:df) (fP:Int):Nat→Int→Option (Sum Unit Int)
 | 0,_=>none
 | n+1,j=>
  if j<(a0.length:Int) then
   if 0≤j∧j<(a0.length:Int) then
    (a0[j.toNat]?).bind fun I=>
    (p3 F I dX fP).bind fun J=>
    if J=true then
     some (.inr j)
    else
     oz F a0 dX fP n (af (j+1))
   else none
  else
   some (.inl ())
def rJ (F:Nat) (a0:List Int) (dX:df) (fP:Int):Option Int:=
 ((oz F a0 dX fP F 0):Option (Sum Unit Int)).bind fun o=>match o with
  | .inl ()=>some (-1)
  | .inr y=>some y
theorem BN (F:Nat) {h:AH} {Z:Zn} {a0:List Int} {dX:df} {fP:Int} {v2 I U J} (hP:Pre Z h [.ae I [U], .ae J [V fP]]) (ad:RS (α:=Int) Z v2 a0) (av:RS (α:=aq) Z U dX.ak) {r:Int} (hm:rJ F a0 dX fP=some r):
  bQ Try.prog 26 [v2, .func (.func 27) #[] #[Pt I 0,Pt J 0]] h Z [.ae I [U], .ae J [V fP]] fun v Z' A'=>V r=v∧A'=[.ae I [U], .ae J [V fP]]:=by
 refine b6 Try.func26 hP ?_
 intro hs hS
 unfold rJ at hm
 refine sp 1<|sq<|s0<|bD 1 v2 (RS.len ad)<|xn 1 ?_
 obtain ⟨ai,j,hm⟩:=ah hm
 refine aI [] (fun l h=>∃ an, .inl ()=ai∧l=[]∧St hs (aR [.ae I [U], .ae J [V fP]]) Z (0,0) an h [.ae I [U], .ae J [V fP]]) ?_ ?_
 rintro l ay ⟨an,rfl,rfl,aw⟩
 try dsimp only at hm
 refine sp 1<|rt<|⟨rfl,?_⟩
 obtain rfl:=si hm
 refine ⟨_,_,_,tk (V (-1)) (ResL.nil),aw,?_⟩
 exact ⟨rfl,rfl⟩
 refine bk 0<|lp [0,1,7,8] (fun n l h=>∃ ao ab,oz F a0 dX fP n ab=some ai∧l=[(0,v2),(1, .func (.func 27) #[] #[Pt I 0,Pt J 0]),(7,V (a0.length:Int)),(8,V ab)]∧St hs (aR [.ae I [U], .ae J [V fP]]) Z (0,0) ao h [.ae I [U], .ae J [V fP]]) F ⟨_,0,j,(by kernel_rfl),hS⟩ ?_
 rintro aj l az ⟨ao,ab,j,rfl,aa⟩
 rcases aj with _ | aj
 cases (show none=some ai from j)
 rw [oz] at j
 refine s0<|aP 0 j ?_ ?_<;>intro aA j
 refine xn 0<|sq<|dT<|sk<|sq<|bk 1<|sp 2<|s0<|a2 3 j (ad.mono aa.ag) ?_
 intro aB j
 refine bm 0 0 (fun ar=>V ar) j (ad.mono aa.ag) aa ?_
 intro ar aC j
 obtain ⟨aD,ax,j⟩:=ah j
 refine cA 0 aa (fun p=>wX F p (av.mono aa.ag) ax) ?_
 rintro _ aE aF _ aG au ⟨rfl,rfl⟩
 refine xn 0<|db j ?_ ?_<;>intro aH j
 refine sp 2<|rt<|a3<|a3<|⟨rfl,?_⟩
 obtain rfl:=si j
 obtain rfl:=si hm
 refine ⟨_,_,_,tk (V ab) (ResL.nil),au,?_⟩
 exact ⟨rfl,rfl⟩
 refine sk<|gp 2 ?_
 exact ⟨aj,Nat.lt_succ_self _,⟨_,af (ab+1),j,(by kernel_rfl),au⟩⟩
 refine xn 0<|sq<|dF<|xt 0<|aO ?_
 obtain rfl:=si j
 exact ⟨_,rfl,(by kernel_rfl),aa⟩
def vY:List aN:=[u 4 (.box 34 (t 1)),u 6 (.assign (ci 0))]
def walk_At_l0 (F:Nat) (a0:List al) (a1:df) (ab:Int):Nat→Int→Int→Int→Option Int
 | 0,_,_,_=>none
 | n+1,J,j,U=>
  if U<(a1.ak.length:Int) then
   if 0≤j∧j<(a1.ak.length:Int) then
    (a1.ak[j.toNat]?).bind fun ad=>
    (rJ F ad.Kids a1 J).bind fun I=>
    if I<(0:Int) then
     some j
    else
     if 0≤j∧j<(a1.ak.length:Int) then
      (a1.ak[j.toNat]?).bind fun aa=>
      if 0≤I∧I<(aa.Kids.length:Int) then
       (aa.Kids[I.toNat]?).bind fun ae=>
       walk_At_l0 F a0 a1 ab n J ae (af (U+1))
      else none
     else none
   else none
  else
   some j
def o5 (F:Nat) (a0:List al) (a1:df) (j:Int):Option Int:=
 (qQ F a0 j).bind fun I=>
 if j<(0:Int) then
  some (-1)
 else
  if I<(0:Int) then
   some (-1)
  else
   if (a1.ak.length:Int)=(0:Int) then
    some (-1)
   else
    ((walk_At_l0 F a0 a1 j F I 0 0):Option Int).bind fun o=>match o with
     | J=>some J
theorem tI (F:Nat) {h:AH} {Z:Zn} {a0:List al} {a1:df} {au:Int} {v2 v4} (hI:Inv Z h) (aE:RS (α:=al) Z v2 a0) (J:RS (α:=aq) Z v4 a1.ak) {r:Int} (hm:o5 F a0 a1 au=some r):
  b3 Try.prog 10 [v2, .agg #[v4],V au] h Z (V r):=by
 refine b4 Try.func10 hI ?_
 intro hs hS
 unfold o5 at hm
 refine sr vY<|g1 rfl trivial (gv (cs:=[v4]) rfl rfl) hS ?_
 intro aF a5 ay
 refine xn 1<|s0 ?_
 obtain ⟨ab,aH,hm⟩:=ah hm
 refine cP 2 ay (wu F ay.inv aE aH) ?_
 rintro _ a6 aJ rfl
 refine dK 0 [V 0] aJ ?_
 intro aK a7 aL
 refine bG 0 0 (V ab) [V ab] [V ab] aL rfl rfl rfl ?_
 intro a8 U
 refine xn 0<|sq<|s0<|aP 1 hm ?_ ?_<;>intro a9 hm
 refine xn 10<|dT<|sp 1<|rt<|⟨rfl,?_⟩
 obtain rfl:=si hm
 refine ⟨_,_,_,tk (V (-1)) (ResL.nil),U,?_⟩
 exact rfl
 refine aB 1 0 (V ab) U rfl<|aP 0 hm ?_ ?_<;>intro ba hm
 refine xn 7<|dT<|sp 1<|rt<|⟨rfl,?_⟩
 obtain rfl:=si hm
 refine ⟨_,_,_,tk (V (-1)) (ResL.nil),U,?_⟩
 exact rfl
 refine aB 3 1 v4 U rfl<|bD 0 v4 (RS.len J)<|aG 0 hm ?_ ?_<;>intro bb hm
 refine xn 1<|dT<|sp 1<|rt<|⟨rfl,?_⟩
 obtain rfl:=si hm
 refine ⟨_,_,_,tk (V (-1)) (ResL.nil),U,?_⟩
 exact rfl
 refine xn 1<|dF<|sk<|sp 1<|sq<|s0<|aB 1 1 v4 U rfl<|bD 0 v4 (RS.len J)<|xn 1 ?_
 obtain ⟨av,j,hm⟩:=ah hm
 refine aI [8] (fun l h=>∃ az ai,ai=av∧l=[(8,V ai)]∧St hs [] Z (0,0) az h []) ?_ ?_
 rintro l bc ⟨az,ai,rfl,rfl,aQ⟩
 try dsimp only at hm
 refine sp 2<|rt<|⟨rfl,?_⟩
 obtain rfl:=si hm
 refine ⟨_,_,_,tk (V ai) (ResL.nil),aQ,?_⟩
 exact rfl
 refine bk 0<|lp [4,7,8,27,28] (fun n l h=>∃ aA aj aa an ao ar,walk_At_l0 F a0 a1 au n aj aa an=some av∧l=[(4,Pt ao 0),(7,Pt ar 0),(8,V aa),(27,V (a1.ak.length:Int)),(28,V an)]∧St hs [] Z (0,0) aA h [.ae ao [v4], .ae ar [V aj]]) F ⟨_,ab,0,0,aF,aK,j,(by kernel_rfl),((U.front 0 rfl).front 1 rfl)⟩ ?_
 rintro aw l bd ⟨aA,aj,aa,an,ao,ar,j,rfl,I⟩
 rcases aw with _ | aw
 cases (show none=some av from j)
 rw [walk_At_l0] at j
 refine s0<|aP 0 j ?_ ?_<;>intro bf j
 refine xn 0<|sq<|dT<|sk<|sq<|bk 1<|s0<|aB 1 0 v4 I rfl<|a2 1 j (J.mono I.ag) ?_
 intro bg j
 obtain ⟨bh,aR,j⟩:=ah j
 obtain ⟨bj,aS,aU⟩:=RS.bR (J.mono I.ag) (i:=aa) aR
 obtain ⟨aV,aW,rfl⟩:=c6 aS
 refine eg 1 4 aV (aU _ (I.bM (aM.refl _))) ?_
 obtain ⟨bl,aX,j⟩:=ah j
 refine cA 1 I (fun p=>BN F p aW (J.mono I.ag) aX) ?_
 rintro _ bn bo _ aC ad ⟨rfl,rfl⟩
 refine xn 1<|sq<|s0<|aP 1 j ?_ ?_<;>intro bp j
 refine xn 0<|dT<|xt 0<|hU rfl<|aO ?_
 obtain rfl:=si j
 exact ⟨_,aa,rfl,(by kernel_rfl),(ad.takeN 0)⟩
 refine xn 0<|dF<|sk<|g0<|aB 1 0 v4 ad rfl<|a2 1 j (J.mono (I.ag.trans aC)) ?_
 intro bq j
 obtain ⟨br,aY,j⟩:=ah j
 obtain ⟨bu,aZ,a3⟩:=RS.bR (J.mono (I.ag.trans aC)) (i:=aa) aY
 obtain ⟨a4,aD,rfl⟩:=c6 aZ
 refine eg 1 4 a4 (a3 _ (ad.bM (aM.refl _)))<|a2 1 j aD ?_
 intro bw j
 refine bm 0 0 (fun ax=>V ax) j aD ad ?_
 intro ax bx j
 refine xn 1<|gp 2 ?_
 exact ⟨aw,Nat.lt_succ_self _,⟨_,aj,ax,af (an+1),ao,ar,j,(by kernel_rfl),ad⟩⟩
 refine xn 0<|sq<|dF<|xt 0<|aO ?_
 obtain rfl:=si j
 exact ⟨_,aa,rfl,(by kernel_rfl),(I.takeN 0)⟩
def AY:List aN:=[u 3 (mv 0),u 4 (.binOp .eql 23 (t 3) (.const (.slice none 0 0)) 23)]
def Db:List aN:=[u 5 (.buildSlice 23 0 #[]),u 6 (mv 0),u 7 (cb .append #[(t 5),(t 6)] #[23,23]),u 2 (sg 7)]
def oR (F:Nat) (a0:List Int):Option (List Int):=
 if ([]:List Int).length+a0.length≤17592186044416 then
  some (([]:List Int)++a0)
 else none
theorem C1 (F:Nat) {h:AH} {Z:Zn} {a0:List Int} {v2} (hP:Pre Z h []) (I:RS (α:=Int) Z v2 a0) {r:(List Int)} (hm:oR F a0=some r):
  bQ Try.prog 31 [v2] h Z [] fun v Z' A'=>∃ v4 J,v4=v∧A'=[.gs v4 J (aa Int)]∧RCs (α:=Int) Z' J r:=by
 refine b6 Try.func31 hP ?_
 intro hs hS
 unfold oR at hm
 replace hS:St hs [] Z (0,0) Z hs []:=hS
 refine sp 1<|sq<|sr AY<|xq 1 [(3,v2),(0,v2)] ?_
 rcases zO I with ⟨ad,j⟩ | j
 replace hm:some []=some r:=by rw [ad] at hm;simpa using hm
 refine bT rfl trivial (a9 rfl rfl (xL ⟨_,Try.underlying23⟩ j))<|xn 0<|dT<|sp 1<|rt<|⟨rfl,?_⟩
 have ae:=hS.dh (aa Int)
 obtain rfl:=si hm
 refine ⟨_,_,_,tk (.slice none 0 0) (ResL.nil),ae,?_⟩
 exact ⟨(.slice none 0 0),[],rfl,rfl,(RCs.bu _)⟩
 refine bT rfl trivial (a9 rfl rfl (za ⟨_,Try.underlying23⟩ j))<|xf [(4, .bool false),(0,v2)]<|dF<|sk<|sr Db ?_
 have af:RCs (α:=Int) Z [] []:=RCs.bu _
 refine dP rfl trivial (c3 (cells:=[]) (s:=1) (by kernel_rfl)) (by kernel_rfl) hS ?_
 intro ag an U
 refine xq 1 [(6,v2),(5,ag)] ?_
 obtain ⟨ao,ah⟩:=RS.news I (U).inv
 obtain ⟨aq,hm⟩:=aJ hm
 refine eY rfl trivial (dM (ys:=a0) (bP:=8) U (i:=0) rfl af ah rfl rfl (by kernel_rfl) (by omega) (by omega)) ?_
 rintro ab ai ar ⟨aj,ak⟩
 refine xn 1<|rt<|⟨rfl,?_⟩
 obtain rfl:=si hm
 refine ⟨_,_,_,tk ab (ResL.nil),ak,?_⟩
 exact ⟨ab,ai,rfl,rfl,aj⟩
def tZ (iu:Int→df→(List Bool)→(List Int)→Option ((List Bool)×(List Int))):Prop:=∀ {h:AH} {Z:Zn} {a0:Int} {a1:df} {ag:List Bool} {ah:List Int} {j ab I v6 ad J v10 af U} (hP:Pre Z h [.ae j [ab], .ae I [v6], .gs v6 ad (aa Bool), .ae J [v10], .gs v10 af (aa Int), .ae U [.func (.func 30) #[] #[Pt j 0,Pt I 0,Pt J 0,Pt U 0]]]) (ao:RS (α:=aq) Z ab a1.ak) (ar:RCs (α:=Bool) Z ad ag) (au:RCs (α:=Int) Z af ah) {r:(List Bool)×(List Int)} (hm:iu a0 a1 ag ah=some r),bQ Try.prog 30 [V a0,Pt j 0,Pt I 0,Pt J 0,Pt U 0] h Z [.ae j [ab], .ae I [v6], .gs v6 ad (aa Bool), .ae J [v10], .gs v10 af (aa Int), .ae U [.func (.func 30) #[] #[Pt j 0,Pt I 0,Pt J 0,Pt U 0]]] fun v Z' A'=>∃ ai aj an, .tuple #[]=v∧A'=[.ae j [ab], .ae I [v6], .gs v6 ai (aa Bool), .ae J [aj], .gs aj an (aa Int), .ae U [.func (.func 30) #[] #[Pt j 0,Pt I 0,Pt J 0,Pt U 0]]]∧RCs (α:=Bool) Z' ai r.1∧RCs (α:=Int) Z' an r.2
def Ar:List aN:=[u 18 (ld 71 2),u 19 (mv 0),u 20 (ia 71 18 19),o (.store 4 (t 20) (.const (.bool true)))]
def Dg:List aN:=[u 21 (ld 23 3),u 22 (mv 0),u 23 (.buildSlice 23 1 #[(0,(t 22))]),u 24 (cb .append #[(t 21),(t 23)] #[23,23]),o (.store 23 (t 3) (t 24))]
def walk_Order_1_l0 (F:Nat) (iu:Int→df→(List Bool)→(List Int)→Option ((List Bool)×(List Int))) (a0:Int) (a1:df) (ad:List Bool) (ae:List Int):Nat→(List Int)→Int→Int→(List Bool)→(List Int)→Option ((List Bool)×(List Int))
 | 0,_,_,_,_,_=>none
 | n+1,I,J,j,U,aa=>
  if j<J then
   if 0≤j∧j<(I.length:Int) then
    (I[j.toNat]?).bind fun ag=>
    (iu ag a1 U aa).bind fun ab=>
    walk_Order_1_l0 F iu a0 a1 ad ae n I J (af (j+1)) ab.1 ab.2
   else none
  else
   some (U,aa)
def nY (F:Nat) (iu:Int→df→(List Bool)→(List Int)→Option ((List Bool)×(List Int))) (a0:Int) (a1:df) (j:List Bool) (I:List Int):Option ((List Bool)×(List Int)):=
 (k9 F a1 a0).bind fun U=>
 if U=true then
  if 0≤a0∧a0<(j.length:Int) then
   (j[a0.toNat]?).bind fun aa=>
   if aa=true then
    some (j,I)
   else
    if 0≤a0∧a0<(j.length:Int) then
     (j[a0.toNat]?).bind fun ae=>
     if I.length+([a0]:List Int).length≤17592186044416 then
      if 0≤a0∧a0<(a1.ak.length:Int) then
       (a1.ak[a0.toNat]?).bind fun J=>
       ((walk_Order_1_l0 F iu a0 a1 j I F J.Kids (J.Kids.length:Int) 0 (j.set a0.toNat true) (I++([a0]:List Int))):Option ((List Bool)×(List Int))).bind fun o=>match o with
        | (ab,ad)=>some (ab,ad)
      else none
     else none
    else none
  else none
 else
  some (j,I)
theorem x2 (F:Nat) (iu:Int→df→(List Bool)→(List Int)→Option ((List Bool)×(List Int))) (AX:tZ iu) {h:AH} {Z:Zn} {a0:Int} {a1:df} {aw:List Bool} {ax:List Int} {J ai ab v6 an U v10 ao I} (hP:Pre Z h [.ae J [ai], .ae ab [v6], .gs v6 an (aa Bool), .ae U [v10], .gs v10 ao (aa Int), .ae I [.func (.func 30) #[] #[Pt J 0,Pt ab 0,Pt U 0,Pt I 0]]]) (ay:RS (α:=aq) Z ai a1.ak) (ar:RCs (α:=Bool) Z an aw) (aW:RCs (α:=Int) Z ao ax) {r:(List Bool)×(List Int)} (hm:nY F iu a0 a1 aw ax=some r):
  bQ Try.prog 30 [V a0,Pt J 0,Pt ab 0,Pt U 0,Pt I 0] h Z [.ae J [ai], .ae ab [v6], .gs v6 an (aa Bool), .ae U [v10], .gs v10 ao (aa Int), .ae I [.func (.func 30) #[] #[Pt J 0,Pt ab 0,Pt U 0,Pt I 0]]] fun v Z' A'=>∃ a9 ba bb, .tuple #[]=v∧A'=[.ae J [ai], .ae ab [v6], .gs v6 a9 (aa Bool), .ae U [ba], .gs ba bb (aa Int), .ae I [.func (.func 30) #[] #[Pt J 0,Pt ab 0,Pt U 0,Pt I 0]]]∧RCs (α:=Bool) Z' a9 r.1∧RCs (α:=Int) Z' bb r.2:=by
 refine b6 Try.func30 hP ?_
 intro hs hS
 unfold nY at hm
 refine sq<|s0<|aB 0 0 (.agg #[ai]) hS rfl ?_
 obtain ⟨bY,bq,hm⟩:=ah hm
 refine cP 1 hS (tC F hS.inv ay bq) ?_
 rintro _ bZ aj rfl
 refine kb 0 10 hm ?_ ?_<;>intro b0 hm
 refine aB 2 1 v6 aj rfl<|dv 1 2 hm aj ar rfl ?_
 intro b1 hm
 refine eh 0 0 2 (fun bc=> .bool bc) hm aj ar rfl ?_
 intro bc b2 hm
 refine xn 1<|db hm ?_ ?_<;>intro b3 hm
 refine rt<|⟨rfl,?_⟩
 obtain rfl:=si hm
 refine ⟨_,_,_,ResL.nil,aj,?_⟩
 exact ⟨an,v10,ao,rfl,rfl,ar,aW⟩
 refine sk<|sr Ar<|aB 0 1 v6 aj rfl<|xq 1 [(19,V a0),(18,v6),(0,V a0),(1,Pt J 0),(3,Pt U 0),(4,Pt I 0)]<|dv 0 2 hm aj ar rfl ?_
 intro b4 hm
 obtain ⟨b5,bd,hm⟩:=ah hm
 obtain ⟨b7,bw,b8,bx⟩:=aj.cp (j:=2) rfl ar (i:=a0) bd
 obtain rfl:=BR bw
 refine jC rfl trivial (gi (u':=true) (vs:=[.bool true]) (aZ:=[.bool true]) aj (m:=2) rfl ar bd bx rfl rfl rfl (by kernel_rfl) rfl rfl rfl rfl) ?_
 rintro b9 bz ⟨bA,bf⟩
 refine xn 0<|sr Dg<|aB 0 3 v10 bf rfl<|xq 1 [(22,V a0),(21,v10),(0,V a0),(1,Pt J 0),(3,Pt U 0),(4,Pt I 0)] ?_
 have bB:RCs (α:=Int) Z [V a0] ([a0]:List Int):=RCs.cons (cs:=[V a0]) rfl (RCs.bu _)
 refine dP rfl trivial (c3 (cells:=[V a0]) (s:=1) (by kernel_rfl)) (by kernel_rfl) bf ?_
 intro ca cb bg
 obtain ⟨cc,hm⟩:=aJ hm
 refine eY rfl trivial (dM (ys:=([a0]:List Int)) (bP:=8) bg (i:=5) rfl aW ((bg).eI (j:=0) rfl bB) rfl rfl (by kernel_rfl) (by omega) (by omega)) ?_
 rintro az bC cd ⟨bE,aX⟩
 refine bG 0 4 az [az] [az] aX rfl (aX.fE (i:=5) rfl) (br (aX.fF (i:=5) rfl) cm) ?_
 intro cf aY
 refine xn 0<|s0<|aB 1 1 ai aY rfl<|a2 1 hm ay ?_
 intro cg hm
 obtain ⟨bh,bF,hm⟩:=ah hm
 obtain ⟨ch,bH,bI⟩:=RS.bR ay (i:=a0) bF
 obtain ⟨a3,bj,rfl⟩:=c6 bH
 refine eg 1 4 a3 (bI _ (aY.bM (aM.refl _)))<|bD 0 a3 (RS.len bj)<|xn 1 ?_
 obtain ⟨a4,ad,hm⟩:=ah hm
 refine aI [] (fun l h=>∃ aA a5 a6 aC aD aE,(a5,a6)=a4∧RCs (α:=Bool) aA aC a5∧RCs (α:=Int) aA aE a6∧l=[]∧St hs (aR [.ae J [ai], .ae ab [v6], .gs v6 an (aa Bool), .ae U [v10], .gs v10 ao (aa Int), .ae I [.func (.func 30) #[] #[Pt J 0,Pt ab 0,Pt U 0,Pt I 0]]]) Z (0,0) aA h [.ae J [ai], .ae I [.func (.func 30) #[] #[Pt J 0,Pt ab 0,Pt U 0,Pt I 0]], .ae ab [v6], .gs v6 aC (aa Bool), .ae U [aD], .gs aD aE (aa Int)]) ?_ ?_
 rintro l cj ⟨aA,a5,a6,aC,aD,aE,rfl,bJ,bK,rfl,bL⟩
 try dsimp only at hm
 obtain rfl:=si hm
 refine ⟨_,_,_,ResL.nil,((((((bL.front 1 rfl).front 5 rfl).front 5 rfl).front 5 rfl).front 5 rfl).front 5 rfl),?_⟩
 exact ⟨aC,aD,aE,rfl,rfl,bJ,bK⟩
 refine bk 0<|lp [4,30,31,32] (fun n l h=>∃ au aF aG aH aK aL aQ aS aU aV,walk_Order_1_l0 F iu a0 a1 aw ax n aF aG aH aK aL=some a4∧RS (α:=Int) au aQ aF∧RCs (α:=Bool) au aS aK∧RCs (α:=Int) au aV aL∧l=[(4,Pt I 0),(30,aQ),(31,V aG),(32,V aH)]∧St hs (aR [.ae J [ai], .ae ab [v6], .gs v6 an (aa Bool), .ae U [v10], .gs v10 ao (aa Int), .ae I [.func (.func 30) #[] #[Pt J 0,Pt ab 0,Pt U 0,Pt I 0]]]) Z (0,0) au h [.ae J [ai], .ae I [.func (.func 30) #[] #[Pt J 0,Pt ab 0,Pt U 0,Pt I 0]], .ae ab [v6], .gs v6 aS (aa Bool), .ae U [aU], .gs aU aV (aa Int)]) F ⟨_,bh.Kids,(bh.Kids.length:Int),0,aw.set a0.toNat true,ax++([a0]:List Int),a3,bz,az,bC,ad,bj,bA,bE,(by kernel_rfl),(((((((aY.front 5 rfl).front 5 rfl).front 5 rfl).front 5 rfl).front 6 rfl).front 6 rfl).takeN 6)⟩ ?_
 rintro a7 l ck ⟨au,aF,aG,aH,aK,aL,aQ,aS,aU,aV,ad,a8,bl,bn,rfl,av⟩
 rcases a7 with _ | a7
 cases (show none=some a4 from ad)
 rw [walk_Order_1_l0] at ad
 refine s0<|aP 0 ad ?_ ?_<;>intro cl ad
 refine xn 0<|sq<|dT<|sk<|sq<|bk 1<|s0<|a2 0 ad a8 ?_
 intro cn ad
 refine bm 0 0 (fun bo=>V bo) ad a8 av ?_
 intro bo cq ad
 refine xn 1<|g0<|aB 0 1 (.func (.func 30) #[] #[Pt J 0,Pt ab 0,Pt U 0,Pt I 0]) av rfl ?_
 obtain ⟨bp,bN,ad⟩:=ah ad
 refine cA 1 ((((((av.front 1 rfl).front 5 rfl).front 5 rfl).front 5 rfl).front 5 rfl).front 5 rfl) (fun p=>AX p (ay.mono av.ag) bl bn bN) ?_
 rintro _ cr ct _ bO bS ⟨bT,bU,bV,rfl,rfl,bW,bX⟩
 refine xn 0<|gp 2 ?_
 exact ⟨a7,Nat.lt_succ_self _,⟨_,aF,aG,af (aH+1),bp.1,bp.2,aQ,bT,bU,bV,ad,(a8.mono bO),bW,bX,(by kernel_rfl),((((((bS.front 4 rfl).front 4 rfl).front 4 rfl).front 4 rfl).front 5 rfl).front 5 rfl)⟩⟩
 refine xn 0<|sq<|dF<|xt 0<|aO ?_
 obtain rfl:=si ad
 exact ⟨_,aK,aL,aS,aU,aV,rfl,bl,bn,(by kernel_rfl),av⟩
 refine xn 7<|dT<|rt<|⟨rfl,?_⟩
 obtain rfl:=si hm
 refine ⟨_,_,_,ResL.nil,aj,?_⟩
 exact ⟨an,v10,ao,rfl,rfl,ar,aW⟩
def la (F:Nat):Nat→Int→df→(List Bool)→(List Int)→Option ((List Bool)×(List Int))
 | 0=>fun _ _ _ _=>none
 | n+1=>nY F (la F n)
theorem uO (F:Nat):∀ n,tZ (la F n)
 | 0=>by intro hP j I J r hm;cases hm
 | n+1=>by intro hP j I J r hm;exact x2 F _ (uO F n) hP j I J hm
def qt (F:Nat) (a0:Int) (a1:df) (j:List Bool) (I:List Int):Option ((List Bool)×(List Int)):=la F F a0 a1 j I
theorem Cw (F:Nat) {h:AH} {Z:Zn} {a0:Int} {a1:df} {ag:List Bool} {ah:List Int} {j ab I v6 ad J v10 af U} (hP:Pre Z h [.ae j [ab], .ae I [v6], .gs v6 ad (aa Bool), .ae J [v10], .gs v10 af (aa Int), .ae U [.func (.func 30) #[] #[Pt j 0,Pt I 0,Pt J 0,Pt U 0]]]) (ao:RS (α:=aq) Z ab a1.ak) (ar:RCs (α:=Bool) Z ad ag) (au:RCs (α:=Int) Z af ah) {r:(List Bool)×(List Int)} (hm:qt F a0 a1 ag ah=some r):
  bQ Try.prog 30 [V a0,Pt j 0,Pt I 0,Pt J 0,Pt U 0] h Z [.ae j [ab], .ae I [v6], .gs v6 ad (aa Bool), .ae J [v10], .gs v10 af (aa Int), .ae U [.func (.func 30) #[] #[Pt j 0,Pt I 0,Pt J 0,Pt U 0]]] fun v Z' A'=>∃ ai aj an, .tuple #[]=v∧A'=[.ae j [ab], .ae I [v6], .gs v6 ai (aa Bool), .ae J [aj], .gs aj an (aa Int), .ae U [.func (.func 30) #[] #[Pt j 0,Pt I 0,Pt J 0,Pt U 0]]]∧RCs (α:=Bool) Z' ai r.1∧RCs (α:=Int) Z' an r.2:=uO F F hP ao ar au hm
def Bz:List aN:=[u 1 (.box 34 (t 0)),u 2 (.assign (.const (.slice none 0 0)))]
def vZ:List aN:=[u 6 (fa 34 1 0),u 7 (ld 25 6),u 8 (cb .len #[(t 7)] #[25]),u 9 (.makeSlice 71 (t 8) (t 8)),u 4 (.alloc 71),o (.store 71 (t 4) (t 9))]
def n7 (F:Nat) (a0:df):Option (List Int):=
 if 0≤(a0.ak.length:Int)∧(a0.ak.length:Int)≤140737488355328 then
  (qt F 0 a0 (List.replicate (a0.ak.length:Int).toNat false) []).bind fun j=>
  (oR F j.2).bind fun I=>
  some I
 else none
theorem xu (F:Nat) {h:AH} {Z:Zn} {a0:df} {v2} (hP:Pre Z h []) (ae:RS (α:=aq) Z v2 a0.ak) {r:(List Int)} (hm:n7 F a0=some r):
  bQ Try.prog 13 [.agg #[v2]] h Z [] fun v Z' A'=>∃ v4 af,v4=v∧A'=[.gs v4 af (aa Int)]∧RCs (α:=Int) Z' af r:=by
 refine b6 Try.func13 hP ?_
 intro hs hS
 unfold n7 at hm
 replace hS:St hs [] Z (0,0) Z hs []:=hS
 refine sr Bz<|g1 rfl trivial (gv (cs:=[v2]) rfl rfl) hS ?_
 intro j aK ar
 refine xn 1<|s0<|dK 0 [.slice none 0 0] ar ?_
 intro I aL ag
 refine xn 0<|sr vZ<|xq 1 [(6,Pt j 0),(3,Pt I 0),(1,Pt j 0)]<|aB 0 1 v2 ag rfl<|bD 0 v2 (RS.len ae) ?_
 obtain ⟨au,hm⟩:=aJ hm
 refine p4 rfl trivial (pM (α:=Bool) (Z:=Z) (x0:=false) (n:=(a0.ak.length:Int)) (bP:=1) rfl rfl (by kernel_rfl) rfl au.1 (by omega) (by omega)) ag ?_
 intro ab aM aO av aw
 refine dK 0 [.slice none 0 0] aw ?_
 intro J aP ad
 refine bG 0 0 ab [ab] [ab] ad rfl (ad.fE (i:=1) rfl) (br (ad.fF (i:=1) rfl) cm) ?_
 intro aQ ax
 refine xn 0<|s0<|dK 0 [.nilFunc] ax ?_
 intro U aR ay
 refine xn 0<|s0<|bG 1 0 (.func (.func 30) #[] #[Pt j 0,Pt J 0,Pt I 0,Pt U 0]) [.func (.func 30) #[] #[Pt j 0,Pt J 0,Pt I 0,Pt U 0]] [.func (.func 30) #[] #[Pt j 0,Pt J 0,Pt I 0,Pt U 0]] ay rfl rfl rfl ?_
 intro aS ai
 refine xn 0<|s0<|aB 0 0 (.func (.func 30) #[] #[Pt j 0,Pt J 0,Pt I 0,Pt U 0]) ai rfl ?_
 have az:=ai.dh (aa Int)
 obtain ⟨aU,aA,hm⟩:=ah hm
 refine cA 0 ((((((az.front 1 rfl).front 1 rfl).front 4 rfl).front 4 rfl).front 4 rfl).front 5 rfl) (fun p=>Cw F p ae av (RCs.bu _) aA) ?_
 rintro _ aV aW _ aX aj ⟨aY,aC,aZ,rfl,rfl,a1,aD⟩
 refine xn 0<|s0<|aB 0 3 aC aj rfl ?_
 obtain ⟨a2,a3,aE,an⟩:=(aj.front 4 rfl).freeze aD
 obtain ⟨a4,aF,hm⟩:=ah hm
 refine c0 0 an (C1 F an.eJ aE aF) ?_
 rintro _ a5 a6 _ a7 aG ⟨ao,aH,rfl,rfl,aI⟩
 refine xn 1<|rt<|⟨rfl,?_⟩
 obtain rfl:=si hm
 refine ⟨_,_,_,tk ao (ResL.nil),(aG.takeN 1),?_⟩
 exact ⟨ao,aH,rfl,rfl,aI⟩
def Ao:List aN:=[u 1 (.box 27 (t 0)),u 2 (.alloc 34)]
def wq:List aN:=[u 3 (fa 27 1 0),u 4 (ld 25 3),u 5 (.build 34 #[(0,(t 4))]),o (.store 34 (t 2) (t 5))]
def ma (F:Nat) (a0:cG):Option df:=
 some (⟨a0.ak⟩:df)
theorem q3 (F:Nat) {h:AH} {Z:Zn} {a0:cG} {v2} (hP:Pre Z h []) (j:RS (α:=aq) Z v2 a0.ak) {r:df} (hm:ma F a0=some r):
  bQ Try.prog 11 [.agg #[v2]] h Z [] fun v Z' A'=>∃ v4, .agg #[v4]=v∧A'=[]∧RS (α:=aq) Z' v4 r.ak:=by
 refine b6 Try.func11 hP ?_
 intro hs hS
 unfold ma at hm
 replace hS:St hs [] Z (0,0) Z hs []:=hS
 refine sr Ao<|g1 rfl trivial (gv (cs:=[v2]) rfl rfl) hS ?_
 intro U ad aa
 refine dK 0 [.slice none 0 0] aa ?_
 intro ab ae I
 refine xn 0<|sr wq<|xq 1 [(3,Pt U 0),(2,Pt ab 0)]<|aB 0 1 v2 I rfl<|bT rfl trivial (jK (v:= .agg #[v2]) rfl (CA.cons (cs:=[v2]) (RS.rO j) (CA.bu)) (by kernel_rfl))<|bG 0 0 (.agg #[v2]) [v2] [v2] I rfl rfl (br (RS.c7 j) cm) ?_
 intro af J
 refine xn 0<|rt<|⟨rfl,?_⟩
 obtain rfl:=si hm
 refine ⟨_,_,_,ResL.cell (v:= .agg #[v2]) (by kernel_rfl) J (i:=0) rfl (by kernel_rfl) (ResL.nil),(J.takeN 0),?_⟩
 exact ⟨v2,rfl,rfl,j⟩
def E9:List aN:=[u 5 (.buildSlice 31 1 #[(0,(.const (.int .u8 97)))]),u 6 (.convert 31 31 (t 5)),u 7 (cf 8 #[(t 6),(ci 5)] #[31,3]),u 4 (mv 7),u 8 (.extract (t 4) 0),u 9 (.extract (t 4) 1),u 10 (.extract (t 4) 2),u 2 (.alloc 27),u 1 (sg 8),o (.store 27 (t 2) (t 9)),u 3 (sg 10)]
def pb (F:Nat):Option Bool:=
 if 0<([97]:List UInt8).length then
  (lF F ([97]:List UInt8) 5).bind fun j=>
  (ma F j.2.1).bind fun I=>
  (o5 F j.1 I 9).bind fun J=>
  if J=(-1:Int) then
   (ma F j.2.1).bind fun U=>
   (o5 F j.1 U 0).bind fun aa=>
   if aa=(2:Int) then
    some true
   else
    some false
  else
   some false
 else none
theorem yE (F:Nat) {h:AH} {Z:Zn} (hI:Inv Z h) {r:Bool} (hm:pb F=some r):
  b3 Try.prog 7 [] h Z (.bool r):=by
 refine b4 Try.func7 hI ?_
 intro hs hS
 unfold pb at hm
 refine s0<|xe 1 []<|sr E9 ?_
 have ad:RCs (α:=UInt8) Z [.int .u8 97] ([97]:List UInt8):=RCs.cons (cs:=[.int .u8 97]) rfl (RCs.bu _)
 refine dP rfl trivial (c3 (cells:=[.int .u8 97]) (s:=1) (by kernel_rfl)) (by kernel_rfl) hS ?_
 intro v1 h2 ae
 obtain ⟨an,hm⟩:=aJ hm
 refine bT rfl trivial (BM ae (j:=0) rfl ad an rfl (by kernel_rfl)) ?_
 obtain ⟨aD,aE,ao,af⟩:=(ae.front 0 rfl).freeze ad
 obtain ⟨aF,aq,hm⟩:=ah hm
 refine c0 0 af (uS F af.eJ ao aq) ?_
 rintro _ aH aI _ aK ar ⟨aL,I,aM,aO,rfl,rfl,ag,U,aP⟩
 refine dK 4 [.slice none 0 0] ar ?_
 intro aQ aR au
 refine bG 1 0 (.agg #[I]) [I] [I] au rfl rfl (br (RS.c7 U) cm) ?_
 intro aS aa
 refine xn 1<|s0<|aB 1 0 (.agg #[I]) aa rfl ?_
 obtain ⟨aU,av,hm⟩:=ah hm
 refine c0 0 aa (q3 F aa.eJ U av) ?_
 rintro _ aV aW _ ab ai ⟨aX,rfl,rfl,aw⟩
 obtain ⟨aY,ax,hm⟩:=ah hm
 refine cP 0 ai (tI F ai.inv (ag.mono ab) aw ax) ?_
 rintro _ aZ J rfl
 refine aG 0 hm ?_ ?_<;>intro a0 hm
 refine aB 2 0 (.agg #[I]) J rfl ?_
 obtain ⟨a1,ay,hm⟩:=ah hm
 refine c0 0 J (q3 F J.eJ (U.mono ab) ay) ?_
 rintro _ a2 a3 _ az aj ⟨a4,rfl,rfl,aA⟩
 obtain ⟨a5,aC,hm⟩:=ah hm
 refine cP 0 aj (tI F aj.inv (ag.mono (ab.trans az)) aA aC) ?_
 rintro _ a6 ak rfl
 refine aG 0 hm ?_ ?_<;>intro a7 hm
 refine xn 2<|rt<|⟨rfl,?_⟩
 obtain rfl:=si hm
 refine ⟨_,_,_,tk (.bool true) (ResL.nil),ak,?_⟩
 exact rfl
 refine xn 2<|rt<|⟨rfl,?_⟩
 obtain rfl:=si hm
 refine ⟨_,_,_,tk (.bool false) (ResL.nil),ak,?_⟩
 exact rfl
 refine xn 8<|rt<|⟨rfl,?_⟩
 obtain rfl:=si hm
 refine ⟨_,_,_,tk (.bool false) (ResL.nil),J,?_⟩
 exact rfl
end Go.Proofs.Ytcilejikekccmaa.M
namespace Go.Proofs.Ytcilejikekccmaa.M
open Go Am Sy
open Sy.Cell (rc)
def Ax:List aN:=[u 31 (fa 27 6 0),u 32 (ld 25 31),u 33 (cb .len #[(t 32)] #[25]),u 34 (.makeSlice 23 (t 33) (t 33)),u 9 (sg 34)]
def AD:List aN:=[u 65 (mv 9),u 66 (mv 8),u 67 (mv 10),u 68 (ia 23 66 67),u 69 (ld 3 68),u 70 (mv 10),u 71 (bc .add 3 70 1 3),u 72 (ia 23 65 69),o (.store 3 (t 72) (t 71))]
def Ah:List bt:=[uP 80 (mv 9),uP 81 (fa 27 6 0),uL 82 (ld 25 81),uP 83 (mv 11),uP 84 (ia 25 82 83),uP 85 (fa 37 84 3),uL 86 (ld 3 85),uP 87 (ia 23 80 86),uL 88 (ld 3 87),uP 89 (mv 9),uP 90 (mv 11),uP 91 (ia 23 89 90),uL 92 (ld 3 91),uP 93 (bo .geq 3 88 92 3)]
def Di:List bt:=[uL 94 (ld 27 6),uP 95 (fa 27 6 0),uL 96 (ld 25 95),uP 97 (.indexAddr 25 (t 96) (ci 0)),uP 98 (fa 37 97 2),uL 99 (ld 3 98),uF 100 (cf 14 #[(t 94),(t 99)] #[27,3]) .make [0,2,5],uP 4 (sg 100)]
def correctorlaw13_WalkOrder_l0 (F:Nat) (a0:List Int) (a1:List UInt8):Nat→(List aq)→(List Int)→(List Int)→Int→Option (Sum ((List aq)×(List Int)) Bool)
 | 0,_,_,_,_=>none
 | n+1,ab,I,J,j=>
  if j<(I.length:Int) then
   if 0≤j∧j<(I.length:Int) then
    (I[j.toNat]?).bind fun ad=>
    if ad<(0:Int) then
     some (.inr false)
    else
     if 0≤j∧j<(I.length:Int) then
      (I[j.toNat]?).bind fun ae=>
      if (J.length:Int)≤ae then
       some (.inr false)
      else
       if 0≤j∧j<(I.length:Int) then
        (I[j.toNat]?).bind fun aa=>
        if 0≤aa∧aa<(J.length:Int) then
         (J[aa.toNat]?).bind fun ag=>
         if (0:Int)<ag then
          some (.inr false)
         else
          if 0≤j∧j<(I.length:Int) then
           (I[j.toNat]?).bind fun U=>
           if 0≤U∧U<(J.length:Int) then
            (J[U.toNat]?).bind fun ah=>
            correctorlaw13_WalkOrder_l0 F a0 a1 n ab I (J.set U.toNat (af (j+1))) (af (j+1))
           else none
          else none
        else none
       else none
     else none
   else none
  else
   some (.inl (ab,J))
def correctorlaw13_WalkOrder_l1 (F:Nat) (a0:List Int) (a1:List UInt8):Nat→(List aq)→(List Int)→Int→Option (Sum (List aq) Bool)
 | 0,_,_,_=>none
 | n+1,I,J,j=>
  if j<(I.length:Int) then
   if 0≤j∧j<(I.length:Int) then
    (I[j.toNat]?).bind fun U=>
    if 0≤U.Up∧U.Up<(J.length:Int) then
     (J[U.Up.toNat]?).bind fun aa=>
     if 0≤j∧j<(J.length:Int) then
      (J[j.toNat]?).bind fun ab=>
      if ab≤aa then
       some (.inr false)
      else
       correctorlaw13_WalkOrder_l1 F a0 a1 n I J (af (j+1))
     else none
    else none
   else none
  else
   some (.inl I)
def correctorlaw13_WalkOrder (F:Nat) (a0:List Int) (a1:List UInt8):Option Bool:=
 (pb F).bind fun U=>
 if U=true then
  (np F a0 a1).bind fun aa=>
  (lF F aa 20).bind fun j=>
  (ma F j.2.1).bind fun ab=>
  (n7 F ab).bind fun J=>
  if (J.length:Int)=(j.2.1.ak.length:Int) then
   if 0≤(j.2.1.ak.length:Int)∧(j.2.1.ak.length:Int)≤17592186044416 then
    ((correctorlaw13_WalkOrder_l0 F a0 a1 F j.2.1.ak J (List.replicate (j.2.1.ak.length:Int).toNat 0) 0):Option (Sum ((List aq)×(List Int)) Bool)).bind fun o=>match o with
     | .inl (ad,ae)=>((correctorlaw13_WalkOrder_l1 F a0 a1 F ad ae 1):Option (Sum (List aq) Bool)).bind fun o=>match o with
      | .inl I=>if 0≤(0:Int)∧(0:Int)<(I.length:Int) then
       (I[(0:Int).toNat]?).bind fun af=>
       (correctorref10_Check F (⟨I⟩:cG) af.To).bind fun ag=>
       some ag
      else none
      | .inr y=>some y
     | .inr y=>some y
   else none
  else
   some false
 else
  some false
theorem w7 (F:Nat) {h:AH} {Z:Zn} {a0:List Int} {a1:List UInt8} {v2 v4} (hI:Inv Z h) (cg:RS (α:=Int) Z v2 a0) (ch:RS (α:=UInt8) Z v4 a1) {r:Bool} (hm:correctorlaw13_WalkOrder F a0 a1=some r):
  b3 Try.prog 4 [v2,v4] h Z (.bool r):=by
 refine b4 Try.func4 hI ?_
 intro hs hS
 unfold correctorlaw13_WalkOrder at hm
 refine sp 1<|sq<|s0 ?_
 obtain ⟨dB,cj,hm⟩:=ah hm
 refine cP 0 hS (yE F hS.inv cj) ?_
 rintro _ dC bm rfl
 refine kb 0 12 hm ?_ ?_<;>intro dD hm
 refine xn 1<|dF<|sk<|s0 ?_
 obtain ⟨dH,ck,hm⟩:=ah hm
 refine c0 2 bm (zH F bm.eJ cg ch ck) ?_
 rintro _ dI dJ _ dL bQ ⟨dM,rfl,rfl,cl⟩
 obtain ⟨bn,cn,hm⟩:=ah hm
 refine c0 0 bQ (uS F bQ.eJ cl cn) ?_
 rintro _ dN dO _ dP cq ⟨dQ,au,dR,dS,rfl,rfl,dU,aF,dV⟩
 refine dK 4 [.slice none 0 0] cq ?_
 intro bo dW cr
 refine bG 1 0 (.agg #[au]) [au] [au] cr rfl rfl (br (RS.c7 aF) cm) ?_
 intro dX bp
 refine xn 1<|s0<|aB 0 0 (.agg #[au]) bp rfl ?_
 obtain ⟨dY,cu,hm⟩:=ah hm
 refine c0 0 bp (q3 F bp.eJ aF cu) ?_
 rintro _ dZ ea _ bq bS ⟨eb,rfl,rfl,cv⟩
 obtain ⟨cw,cx,hm⟩:=ah hm
 refine c0 0 bS (xu F bS.eJ cv cx) ?_
 rintro _ ec cz _ bu aG ⟨bw,cA,rfl,rfl,bT⟩
 refine xn 1<|sq<|s0<|bD 1 bw (aG.dn (i:=0) rfl bT)<|aB 1 1 au aG rfl<|bD 0 au (RS.len (aF.mono (bq.trans bu)))<|cS 0 hm ?_ ?_<;>intro ed hm
 refine xn 0<|dF<|sk<|sr Ax<|xq 1 [(31,Pt bo 0),(8,bw),(6,Pt bo 0)]<|aB 0 1 au aG rfl<|bD 0 au (RS.len (aF.mono (bq.trans bu))) ?_
 obtain ⟨cB,hm⟩:=aJ hm
 refine p4 rfl trivial (pM (α:=Int) (Z:=cz) (x0:=0) (n:=(bn.2.1.ak.length:Int)) (bP:=8) rfl rfl (by kernel_rfl) rfl cB.1 (by omega) (by omega)) aG ?_
 intro cD cE ee cF cI
 refine xn 1<|sq<|sp 1 ?_
 obtain ⟨bx,I,hm⟩:=ah hm
 refine aI [6,9] (fun l h=>∃ a2 a4 a5 a6 a7 a8 bb, .inl (a4,a5)=bx∧RS (α:=aq) a2 a7 a4∧RCs (α:=Int) a2 bb a5∧l=[(6,Pt a6 0),(9,a8)]∧St hs [] Z (0,0) a2 h [.ae a6 [a7], .gs a8 bb (aa Int)]) ?_ ?_
 rintro l eg ⟨a2,a4,a5,a6,a7,a8,bb,rfl,cJ,cK,rfl,cL⟩
 try dsimp only at hm
 refine sq<|sp 1 ?_
 obtain ⟨bz,J,hm⟩:=ah hm
 refine aI [6] (fun l h=>∃ bB bc av ai, .inl bc=bz∧RS (α:=aq) bB ai bc∧l=[(6,Pt av 0)]∧St hs [] Z (0,0) bB h [.ae av [ai]]) ?_ ?_
 rintro l ei ⟨bB,bc,av,ai,rfl,aH,rfl,cN⟩
 try dsimp only at hm
 refine cU Di cN ?_
 intro bU ej bV aK
 have ek:av<bU:=bV.1 _ (List.mem_of_getElem? (i:=0) rfl) _ (by simp [Itm.ids])
 refine aX (v:= .agg #[ai]) rfl trivial rfl (by show av<_;omega) (ir (cs:=[ai]) (.cons (RS.dG aH) .nil)) (aK.aS (i:=0) rfl (by kernel_rfl)) trivial<|yq 1 [(95,Pt av 0),(94, .agg #[ai])] ?_
 have en:av<bU:=bV.1 _ (List.mem_of_getElem? (i:=0) rfl) _ (by simp [Itm.ids])
 refine aX (v:=ai) rfl trivial rfl (by show av<_;omega) (aC (v:=ai) (RS.dG aH)) (aK.aS (i:=0) rfl (by kernel_rfl)) trivial ?_
 obtain ⟨bW,hm⟩:=aJ hm
 refine aD rfl trivial (bA rfl rfl (by kernel_rfl:slTy _ _=some (aa aq)) (RS.cQ aH (by omega)) bW.1 bW.2)<|yq 1 [(98, .pointer (some (ba ai 0 (aa aq) 2))),(94, .agg #[ai])] ?_
 obtain ⟨bX,cO,hm⟩:=ah hm
 obtain ⟨eo,cR,cT⟩:=RS.bR aH (i:=0) cO
 obtain ⟨ep,er,rfl⟩:=c6 cR
 refine ct rfl rfl trivial (fun h2 hz=>bH (w:=V bX.To) (cT h2 hz) rfl (by kernel_rfl)) (aK.bM (aM.refl _)) (aC (v:=V bX.To) trivial) trivial ?_
 obtain ⟨bY,cX,hm⟩:=ah hm
 have bZ:=aK.cM
 obtain ⟨et,eu,c3,b0,rfl⟩:=yA F (a0:=(⟨bc⟩:cG)) bZ.inv aH cX
 have c4:=St.call (A:=[]) (B:=[.ae av [ai]]) bZ b0
 refine fv rfl trivial aK (dy c3 rfl rfl rfl) c4 (St.fw b0) ?_
 intro ew c8
 refine ye 1 [(4, .bool bY)] ?_
 have c9:=c8.aY
 refine rt<|⟨rfl,?_⟩
 obtain rfl:=si hm
 refine ⟨_,_,_,tk (.bool bY) (ResL.nil),c9,?_⟩
 exact rfl
 refine bk 2<|lp [6,9,11] (fun n l h=>∃ bd aL bf ad ag aj ab bg,correctorlaw13_WalkOrder_l1 F a0 a1 n aL bf ad=some bz∧RS (α:=aq) bd aj aL∧RCs (α:=Int) bd bg bf∧l=[(6,Pt ag 0),(9,ab),(11,V ad)]∧St hs [] Z (0,0) bd h [.ae ag [aj], .gs ab bg (aa Int)]) F ⟨_,a4,a5,1,a6,a7,a8,bb,J,cJ,cK,(by kernel_rfl),cL⟩ ?_
 rintro bC l ey ⟨bd,aL,bf,ad,ag,aj,ab,bg,J,az,ax,rfl,bE⟩
 rcases bC with _ | bC
 cases (show none=some bz from J)
 rw [correctorlaw13_WalkOrder_l1] at J
 refine sq<|s0<|aB 2 0 aj bE rfl<|bD 0 aj (RS.len az)<|aP 0 J ?_ ?_<;>intro ez J
 refine xn 0<|dT<|sk<|sq<|bk 3<|cU Ah bE ?_
 intro bF eA bI an
 refine yq 2 [(81,Pt ag 0),(80,ab),(6,Pt ag 0),(9,ab),(11,V ad)] ?_
 have eB:ag<bF:=bI.1 _ (List.mem_of_getElem? (i:=0) rfl) _ (by simp [Itm.ids])
 refine aX (v:=aj) rfl trivial rfl (by show ag<_;omega) (aC (v:=aj) (RS.dG az)) (an.aS (i:=0) rfl (by kernel_rfl)) trivial<|yq 1 [(83,V ad),(82,aj),(80,ab),(6,Pt ag 0),(9,ab),(11,V ad)] ?_
 obtain ⟨b1,J⟩:=aJ J
 refine aD rfl trivial (bA rfl rfl (by kernel_rfl:slTy _ _=some (aa aq)) (RS.cQ az (by omega)) b1.1 b1.2)<|yq 1 [(85, .pointer (some (ba aj ad (aa aq) 3))),(80,ab),(6,Pt ag 0),(9,ab),(11,V ad)] ?_
 obtain ⟨bJ,da,J⟩:=ah J
 obtain ⟨eC,db,dc⟩:=RS.bR az (i:=ad) da
 obtain ⟨eD,eE,rfl⟩:=c6 db
 refine ct rfl rfl trivial (fun h2 hz=>bH (w:=V bJ.Up) (dc h2 hz) rfl (by kernel_rfl)) (an.bM (aM.refl _)) (aC (v:=V bJ.Up) trivial) trivial ?_
 obtain ⟨b2,J⟩:=aJ J
 refine aD rfl trivial (bA rfl rfl (by kernel_rfl:slTy _ _=some (aa Int)) (an.bN (j:=1) rfl ax (by omega)) b2.1 b2.2) ?_
 obtain ⟨bK,b5,J⟩:=ah J
 obtain ⟨eF,dd,de,eG⟩:=an.cp (j:=1) rfl ax (i:=bJ.Up) b5
 obtain rfl:=ji dd
 have df:=dw b5
 have dg:=an.bN (j:=1) rfl ax df
 have eH:(baseOf ab).block<bF:=dk (bI.1 _ (List.mem_of_getElem? (i:=1) rfl)) dg
 refine dt rfl trivial rfl (by show (baseOf ab).block<_;omega) (aC (v:=V bK) trivial) (bH (w:=V bK) de rfl (by kernel_rfl)) trivial<|yq 2 [(90,V ad),(89,ab),(88,V bK),(6,Pt ag 0),(9,ab),(11,V ad)] ?_
 obtain ⟨b6,J⟩:=aJ J
 refine aD rfl trivial (bA rfl rfl (by kernel_rfl:slTy _ _=some (aa Int)) (an.bN (j:=1) rfl ax (by omega)) b6.1 b6.2) ?_
 obtain ⟨b7,b8,J⟩:=ah J
 obtain ⟨eI,dh,di,eK⟩:=an.cp (j:=1) rfl ax (i:=ad) b8
 obtain rfl:=ji dh
 have dj:=dw b8
 have dm:=an.bN (j:=1) rfl ax dj
 have eL:(baseOf ab).block<bF:=dk (bI.1 _ (List.mem_of_getElem? (i:=1) rfl)) dm
 refine dt rfl trivial rfl (by show (baseOf ab).block<_;omega) (aC (v:=V b7) trivial) (bH (w:=V b7) di rfl (by kernel_rfl)) trivial ?_
 rcases ifs J with ⟨bL,J⟩ | ⟨bL,J⟩
 refine aD rfl trivial (a9 rfl rfl (il bL))<|yf [(93, .bool true),(6,Pt ag 0),(9,ab),(11,V ad)] ?_
 have dp:=an.aY
 refine dT<|sp 1<|rt<|a3<|a3<|⟨rfl,?_⟩
 obtain rfl:=si J
 obtain rfl:=si hm
 refine ⟨_,_,_,tk (.bool false) (ResL.nil),dp,?_⟩
 exact rfl
 refine aD rfl trivial (a9 rfl rfl (ig bL))<|yf [(93, .bool false),(6,Pt ag 0),(9,ab),(11,V ad)] ?_
 have dq:=an.aY
 refine dF<|sk<|gp 3 ?_
 exact ⟨bC,Nat.lt_succ_self _,⟨_,aL,bf,af (ad+1),ag,aj,ab,bg,J,az,ax,(by kernel_rfl),dq⟩⟩
 refine xn 0<|dF<|xt 2<|aO ?_
 obtain rfl:=si J
 exact ⟨_,aL,ag,aj,rfl,az,(by kernel_rfl),(bE.takeN 1)⟩
 refine bk 0<|lp [6,8,9,10] (fun n l h=>∃ aQ aR bh aU ao aA aV aE bj aw bl,correctorlaw13_WalkOrder_l0 F a0 a1 n aR bh aU ao=some bx∧RS (α:=aq) aQ aV aR∧RCs (α:=Int) aQ bj bh∧RCs (α:=Int) aQ bl aU∧l=[(6,Pt aA 0),(8,aE),(9,aw),(10,V ao)]∧St hs [] Z (0,0) aQ h [.ae aA [aV], .gs aE bj (aa Int), .gs aw bl (aa Int)]) F ⟨_,bn.2.1.ak,cw,List.replicate (bn.2.1.ak.length:Int).toNat 0,0,bo,au,bw,cA,cD,cE,I,(aF.mono (bq.trans bu)),bT,cF,(by kernel_rfl),((((cI.front 0 rfl).front 1 rfl).front 2 rfl).takeN 3)⟩ ?_
 rintro bO l eM ⟨aQ,aR,bh,aU,ao,aA,aV,aE,bj,aw,bl,I,b9,ar,ay,rfl,U⟩
 rcases bO with _ | bO
 cases (show none=some bx from I)
 rw [correctorlaw13_WalkOrder_l0] at I
 refine sq<|s0<|bD 2 aE (U.dn (i:=1) rfl ar)<|aP 0 I ?_ ?_<;>intro eN I
 refine xn 0<|dT<|sk<|sq<|bk 1<|sq<|s0<|dv 2 1 I U ar rfl ?_
 intro eO I
 refine eh 0 0 1 (fun ca=>V ca) I U ar rfl ?_
 intro ca eP I
 refine aP 0 I ?_ ?_<;>intro eQ I
 refine xn 19<|dT<|sp 1<|rt<|a3<|a3<|⟨rfl,?_⟩
 obtain rfl:=si I
 obtain rfl:=si hm
 refine ⟨_,_,_,tk (.bool false) (ResL.nil),U,?_⟩
 exact rfl
 refine dv 3 1 I U ar rfl ?_
 intro eR I
 refine eh 0 0 1 (fun cb=>V cb) I U ar rfl ?_
 intro cb eS I
 refine bD 1 aw (U.dn (i:=2) rfl ay)<|cC 0 I ?_ ?_<;>intro eT I
 refine xn 11<|dT<|sp 1<|rt<|a3<|a3<|⟨rfl,?_⟩
 obtain rfl:=si I
 obtain rfl:=si hm
 refine ⟨_,_,_,tk (.bool false) (ResL.nil),U,?_⟩
 exact rfl
 refine dv 5 1 I U ar rfl ?_
 intro eU I
 refine eh 0 0 1 (fun cc=>V cc) I U ar rfl ?_
 intro cc eV I
 refine dv 0 2 I U ay rfl ?_
 intro eW I
 refine eh 0 0 2 (fun cd=>V cd) I U ay rfl ?_
 intro cd eX I
 refine cH 0 I ?_ ?_<;>intro eY I
 refine xn 1<|dT<|sp 1<|rt<|a3<|a3<|⟨rfl,?_⟩
 obtain rfl:=si I
 obtain rfl:=si hm
 refine ⟨_,_,_,tk (.bool false) (ResL.nil),U,?_⟩
 exact rfl
 refine xn 1<|dF<|sk<|rg AD<|dv 3 1 I U ar rfl ?_
 intro eZ I
 refine eh 0 0 1 (fun aW=>V aW) I U ar rfl ?_
 intro aW e0 I
 refine xq 2 [(71,V (af (ao+1))),(69,V aW),(65,aw),(6,Pt aA 0),(8,aE),(9,aw),(10,V ao)]<|dv 0 2 I U ay rfl ?_
 intro e2 I
 obtain ⟨e3,cf,I⟩:=ah I
 obtain ⟨e4,dr,e5,ds⟩:=U.cp (j:=2) rfl ay (i:=aW) cf
 obtain rfl:=ji dr
 refine jC rfl trivial (gi (u':=af (ao+1)) (vs:=[V (af (ao+1))]) (aZ:=[V (af (ao+1))]) U (m:=2) rfl ay cf ds rfl rfl rfl (by kernel_rfl) rfl rfl rfl rfl) ?_
 rintro e6 dx ⟨dz,dA⟩
 refine xn 0<|gp 3 ?_
 exact ⟨bO,Nat.lt_succ_self _,⟨_,aR,bh,aU.set aW.toNat (af (ao+1)),af (ao+1),aA,aV,aE,bj,aw,dx,I,b9,ar,dz,(by kernel_rfl),dA⟩⟩
 refine xn 0<|dF<|xt 0<|aO ?_
 obtain rfl:=si I
 exact ⟨_,aR,aU,aA,aV,aw,bl,rfl,b9,ay,(by kernel_rfl),(((U.front 2 rfl).front 1 rfl).takeN 2)⟩
 refine xn 0<|dT<|sp 1<|rt<|⟨rfl,?_⟩
 obtain rfl:=si hm
 refine ⟨_,_,_,tk (.bool false) (ResL.nil),aG,?_⟩
 exact rfl
 refine xn 1<|dT<|sp 1<|rt<|⟨rfl,?_⟩
 obtain rfl:=si hm
 refine ⟨_,_,_,tk (.bool false) (ResL.nil),bm,?_⟩
 exact rfl
end Go.Proofs.Ytcilejikekccmaa.M
namespace Go.Proofs.Ytcilejikekccmaa.M
open Go Am Sy
structure Small (l:List aq):Prop where
  n:l.length≤1000000
  k:∀ x∈l,x.Kids.length≤1000000
theorem Cc {α:Type} (l:List α) (i:Nat):l[((i:Int)).toNat]?=l[i]?:=by simp
theorem CL (F:Nat) (t:cG) (hs:Small t.ak):∀ (d n i:Nat),i+d=t.ak.length→d<n→correctorref10_copied_l0 F t n (t.ak.take i) (i:Int)=some t.ak:=by
  have hn:=hs.n
  intro d
  induction d with
  | zero=>
    intro n i h1 h2
    obtain ⟨n,rfl⟩:∃ m,n=m+1:=⟨n - 1,by omega⟩
    rw [correctorref10_copied_l0,if_neg (by omega),List.take_of_length_le (by omega)]
  | succ d ih=>
    intro n i h1 h2
    obtain ⟨n,rfl⟩:∃ m,n=m+1:=⟨n - 1,by omega⟩
    have hi:i<t.ak.length:=by omega
    have hk:=hs.k t.ak[i] (List.getElem_mem hi)
    rw [correctorref10_copied_l0,if_pos (by omega),if_pos (by omega),Cc,List.getElem?_eq_getElem hi]
    simp only [Option.bind_some]
    rw [if_pos (by rw [List.length_nil];omega),if_pos (by rw [List.length_take,List.length_singleton];omega)]
    have hw:af ((i:Int)+1)=((i+1:Nat):Int):=by rw [a8 (by omega) (by omega)];omega
    rw [hw,← ih n (i+1) (by omega) (by omega)]
    congr 1
    rw [List.take_succ_eq_append_getElem hi]
    rfl
theorem vc (F:Nat) (t:cG) (hs:Small t.ak) (hF:t.ak.length<F):mb F t=some t.ak:=by
  unfold mb
  have:=CL F t hs t.ak.length F 0 (by omega) hF
  rw [show ((0:Nat):Int)=0 from rfl,List.take_zero] at this
  rw [this];rfl
def endOf (l:List aq) (up:Nat):Option Int:=(l[up]?).map fun x=>match x.Kids.getLast? with
  | none=>x.ai
  | some k=>if 0≤k then (match l[k.toNat]? with | some y=>imax x.ai y.To | none=>x.ai) else x.ai
def toMax (x:aq) (to:Int):aq:={x with To:=imax x.To to}
def growL:Nat→List aq→Int→Int→List aq
  | 0,l,_,_=>l
  | k+1,l,i,to=>if 0≤i then (match l[i.toNat]? with | some x=>growL k (l.set i.toNat (toMax x to)) x.Up to | none=>l) else l
theorem EV (F:Nat) (a0:List aq) (a1 to:Int):∀ (k n:Nat) (l:List aq) (i:Int),(∀ (j:Nat) x,l[j]?=some x→x.Up<(j:Int))→i<k→i<l.length→k<n→kl F a0 a1 to n l i=some (growL k l i to):=by
  intro k
  induction k with
  | zero=>
    intro n l i _ h1 _ h2
    obtain ⟨n,rfl⟩:∃ m,n=m+1:=⟨n - 1,by omega⟩
    rw [kl,if_neg (by omega)];rfl
  | succ k ih=>
    intro n l i hu h1 I h2
    obtain ⟨n,rfl⟩:∃ m,n=m+1:=⟨n - 1,by omega⟩
    rw [kl,growL]
    by_cases h0:0≤i
    · have hl:i.toNat<l.length:=by omega
      have hg:l[i.toNat]?=some l[i.toNat]:=List.getElem?_eq_getElem hl
      have wb:=hu i.toNat _ hg
      rw [if_pos h0,if_pos h0,if_pos ⟨h0,I⟩,hg]
      simp only [Option.bind_some]
      rw [if_pos ⟨h0,I⟩,if_pos (by rw [List.length_set];exact ⟨h0,I⟩),List.getElem?_set_self hl]
      simp only [Option.bind_some]
      refine ih n _ _ (fun j x hx=>?_) (by omega) (by rw [List.length_set];omega) (by omega)
      by_cases e:j=i.toNat
      · subst e
        rw [List.getElem?_set_self hl] at hx
        simp only [Option.some.injEq] at hx
        subst hx;exact wb
      · rw [List.getElem?_set_ne (Ne.symm e)] at hx;exact hu j x hx
    · rw [if_neg h0,if_neg h0]
theorem ss (F:Nat) (l:List aq) (i to:Int) (hu:∀ (j:Nat) x,l[j]?=some x→x.Up<(j:Int)) (hi:i<l.length) (hF:l.length<F):lV F l i to=some (growL l.length l i to):=by
  unfold lV
  rw [EV F l i to l.length F l i hu hi hi hF];rfl
theorem ph:∀ (k:Nat) (l:List aq) (i to:Int),(growL k l i to).length=l.length:=by
  intro k
  induction k with
  | zero=>intro l i to;rfl
  | succ k ih=>
    intro l i to
    simp only [growL]
    split
    · split
      · rw [ih,List.length_set]
      · rfl
    · rfl
theorem Ds (F:Nat) (n:Int) (h0:0≤n) (h1:n≤32768):mg F n=some ⟨[⟨1,0,n, -1,[],false⟩]⟩:=by
  unfold mg
  rw [if_neg (by omega),if_neg (by omega)];rfl
def m3 (l:List aq) (up kind aH to:Int):List aq:=
  match l[up.toNat]? with
  | some x=>growL (l.length+1) ((l++[(⟨kind,aH,to,up,[],false⟩:aq)]).set up.toNat {x with Kids:=x.Kids++[(l.length:Int)]}) up to
  | none=>l
theorem D7 (F:Nat) (t:cG) (up:Nat) (kind aH to:Int) (hs:Small t.ak) (hn:t.ak.length<1000000) (hF:t.ak.length+1<F) (o2:∀ (j:Nat) x,t.ak[j]?=some x→x.Up<(j:Int)) (hu:up<t.ak.length) (hk:1≤kind∧kind≤11) (fm:aH≤to)
    (h0:∀ x,t.ak[0]?=some x→to≤x.To) (qd:∀ x,t.ak[up]?=some x→∀ c,x.Kids.getLast?=some c→0≤c∧c<t.ak.length) (he:∀ e,endOf t.ak up=some e→e≤aH):
    correctorref10_Add F t (up:Int) kind aH to=some (⟨m3 t.ak (up:Int) kind aH to⟩,(t.ak.length:Int)):=by
  have hl:0<t.ak.length:=by omega
  have U:t.ak[0]?=some t.ak[0]:=List.getElem?_eq_getElem hl
  have hx:t.ak[up]?=some t.ak[up]:=List.getElem?_eq_getElem hu
  have ad:=h0 _ U
  have vi:=qd _ hx
  unfold endOf at he
  rw [hx] at he
  simp only [Option.map_some,Option.some.injEq,forall_eq'] at he
  have gV:=hs.k _ (List.getElem_mem hu)
  unfold correctorref10_Add
  have hz:((0:Int)).toNat=0:=rfl
  rw [if_neg (by omega),if_neg (by omega),if_neg (by omega),if_neg (by omega),if_neg (by omega),if_pos (by omega),hz,U]
  simp only [Option.bind_some]
  rw [if_neg (by omega),if_pos (by omega),Int.toNat_natCast,hx]
  simp only [Option.bind_some]
  unfold m3
  rw [Int.toNat_natCast,hx]
  simp only
  generalize fW:t.ak[up]=x at *
  have kU:x.ai≤aH:=by
    cases hc:x.Kids.getLast? with
    | none=>rw [hc] at he;exact he
    | some c=>
      rw [hc] at he
      simp only at he
      obtain ⟨I,aa⟩:=vi c hc
      rw [if_pos I,List.getElem?_eq_getElem (by omega)] at he
      simp only [imax] at he
      split at he<;>omega
  rw [if_neg (by omega)]
  have step:(if (0:Int)<(x.Kids.length:Int) then
            if 0≤(af ((x.Kids.length:Int) - 1))∧(af ((x.Kids.length:Int) - 1))<(x.Kids.length:Int) then
             (x.Kids[(af ((x.Kids.length:Int) - 1)).toNat]?).bind fun J=>
             if 0≤J∧J<(t.ak.length:Int) then
              (t.ak[J.toNat]?).bind fun ab=>
              if aH<ab.To then
               some (.inr (t,(-1)))
              else
               some (.inl ())
             else none
            else none
           else
            some (.inl ()):Option (Sum Unit (cG×Int)))=some (.inl ()):=by
    by_cases h1:(0:Int)<x.Kids.length
    · have hw:af ((x.Kids.length:Int) - 1)=((x.Kids.length - 1:Nat):Int):=by rw [a8 (by omega) (by omega)];omega
      have nv:x.Kids.length - 1<x.Kids.length:=by omega
      have tv:x.Kids.getLast?=some x.Kids[x.Kids.length - 1]:=by rw [List.getLast?_eq_getElem?,List.getElem?_eq_getElem nv]
      obtain ⟨I,aa⟩:=vi _ tv
      rw [tv] at he
      simp only at he
      rw [if_pos I,List.getElem?_eq_getElem (by omega)] at he
      simp only [imax] at he
      rw [if_pos h1,hw,if_pos (by omega),Int.toNat_natCast,List.getElem?_eq_getElem nv]
      simp only [Option.bind_some]
      rw [if_pos ⟨I,aa⟩,List.getElem?_eq_getElem (by omega)]
      simp only [Option.bind_some]
      rw [if_neg (by split at he<;>omega)]
    · rw [if_neg h1]
  rw [step]
  simp only [Option.bind_some]
  rw [vc F t hs (by omega)]
  simp only [Option.bind_some]
  have hlen:(t.ak++[(⟨kind,aH,to,(up:Int),[],false⟩:aq)]).length=t.ak.length+1:=by simp
  have Eh:(t.ak++[(⟨kind,aH,to,(up:Int),[],false⟩:aq)])[up]?=some x:=by
    rw [List.getElem?_append_left hu,hx]
  rw [if_pos (by rw [List.length_singleton];omega),if_pos (by rw [hlen];omega),Eh]
  simp only [Option.bind_some]
  rw [if_pos (by rw [List.length_singleton];omega),if_pos (by rw [hlen];omega)]
  have q6:((t.ak++[(⟨kind,aH,to,(up:Int),[],false⟩:aq)]).set up ⟨x.Kind,x.ai,x.To,x.Up,x.Kids++[(t.ak.length:Int)],x.Key⟩).length=t.ak.length+1:=by rw [List.length_set,hlen]
  rw [ss F _ _ _ (fun j y hy=>?_) (by rw [q6];omega) (by rw [q6];omega),q6]
  · rfl
  · by_cases e:j=up
    · subst e
      rw [List.getElem?_set_self (by rw [hlen];omega)] at hy
      simp only [Option.some.injEq] at hy
      subst hy;exact o2 j x hx
    · rw [List.getElem?_set_ne (Ne.symm e),List.getElem?_append] at hy
      split at hy
      · exact o2 j y hy
      · rcases Nat.eq_zero_or_pos (j - t.ak.length) with q | q
        · rw [q] at hy;simp at hy;subst hy
          show (up:Int)<j
          omega
        · rw [List.getElem?_eq_none (by simp;omega)] at hy;cases hy
theorem zz (F:Nat) (t:cG) (i:Nat) (to:Int) (hs:Small t.ak) (hF:t.ak.length<F) (o2:∀ (j:Nat) x,t.ak[j]?=some x→x.Up<(j:Int)) (hi:i<t.ak.length) (h0:∀ x,t.ak[0]?=some x→to≤x.To):h6 F t (i:Int) to=some ⟨growL t.ak.length t.ak (i:Int) to⟩:=by
  have hl:0<t.ak.length:=by omega
  have I:t.ak[0]?=some t.ak[0]:=List.getElem?_eq_getElem hl
  have J:=h0 _ I
  have hz:((0:Int)).toNat=0:=rfl
  unfold h6
  rw [if_neg (by omega),if_neg (by omega),if_pos (by omega),hz,I]
  simp only [Option.bind_some]
  rw [if_neg (by omega),vc F t hs hF]
  simp only [Option.bind_some]
  rw [ss F _ _ _ o2 (by omega) hF]
  rfl
end Go.Proofs.Ytcilejikekccmaa.M
namespace Go.Proofs.Ytcilejikekccmaa.M
open Go Am Sy
theorem jM (a b:Int):imax a b=max a b:=by
 unfold imax;split<;>omega
def LP (l:List aq) (i To:Int):Int→List Int→Prop
 | _,[]=>True
 | e,k::ks=>∃ y,i<k∧0≤k∧k<l.length∧l[k.toNat]?=some y∧y.Up=i∧e≤y.ai∧y.To≤To∧LP l i To y.To ks
def ee (xs:List aq):Nat:=(xs.map fun x=>x.Kids.length).sum
structure G (N:List aq) (n:Int):Prop where
 root:∃ x,N[0]?=some x∧x.Kind=1∧x.ai=0∧x.To=n∧x.Up= -1
 ups:∀ (i:Nat) x,N[i]?=some x→i=0∨(0≤x.Up∧x.Up<(i:Int))
 cT:∀ (i:Nat) x,N[i]?=some x→LP N i x.To x.ai x.Kids∧x.ai≤x.To
 nd:∀ x∈N,x.Kids.Nodup
 sum:ee N+1=N.length
theorem G.new (n:Int) (h0:0≤n):G [⟨1,0,n, -1,[],false⟩] n where
 root:=⟨_,rfl,rfl,rfl,rfl,rfl⟩
 ups i x hx:=by
  cases i with
  | zero=>exact .inl rfl
  | succ i=>simp at hx
 cT i x hx:=by
  cases i with
  | zero=>simp at hx;subst hx;exact ⟨trivial,h0⟩
  | succ i=>simp at hx
 nd x hx:=by simp at hx;subst hx;exact List.nodup_nil
 sum:=by simp [ee]
theorem fI {N:List aq} {i:Nat} {x:aq} (h:N[i]?=some x):i<N.length:=by
 rcases Nat.lt_or_ge i N.length with q | q
 ·exact q
 ·rw [List.getElem?_eq_none q] at h;cases h
theorem LP.mem {l:List aq} {i To:Int}:∀ {ks:List Int} {e:Int},LP l i To e ks→∀ k∈ks,∃ y,i<k∧k<l.length∧l[k.toNat]?=some y∧y.Up=i∧y.To≤To:=by
 intro ks
 induction ks with
 | nil=>intro e _ k hk;cases hk
 | cons j ks ih=>
  rintro e ⟨y,h1,h2,I,J,U,ad,aa,ab⟩ k hk
  rcases List.mem_cons.1 hk with rfl | hk
  ·exact ⟨y,h1,I,J,U,aa⟩
  ·exact ih ab k hk
theorem LP.of {l l':List aq} {i To lX:Int} (hT:To≤lX):∀ {ks:List Int} {e:Int},LP l i To e ks→(∀ k∈ks,∀ y,l[k.toNat]?=some y→k<l'.length∧∃ y',l'[k.toNat]?=some y'∧y'.Up=y.Up∧y'.ai=y.ai∧y'.To=y.To)→LP l' i lX e ks:=by
 intro ks
 induction ks with
 | nil=>intro e _ _;trivial
 | cons k ks ih=>
  rintro e ⟨y,h1,h2,ah,I,J,U,aj,aa⟩ h
  obtain ⟨ab,y',ad,ae,af,ag⟩:=h k List.mem_cons_self y I
  exact ⟨y',h1,h2,ab,ad,by rw [ae];exact J,by rw [af];exact U,by omega,by rw [ag];exact ih aa (fun j hj=>h j (List.mem_cons_of_mem _ hj))⟩
theorem LP.last {l l':List aq} {i To lX:Int} (hT:To≤lX) {c:Int}:∀ {ks:List Int} {e:Int},LP l i To e ks→ks.getLast?=some c→ks.Nodup→(∀ k∈ks,k≠c→∀ y,l[k.toNat]?=some y→k<l'.length∧∃ y',l'[k.toNat]?=some y'∧y'.Up=y.Up∧y'.ai=y.ai∧y'.To=y.To)→
  (∀ y,l[c.toNat]?=some y→c<l'.length∧∃ y',l'[c.toNat]?=some y'∧y'.Up=y.Up∧y'.ai=y.ai∧y'.To≤lX)→LP l' i lX e ks:=by
 intro ks
 induction ks with
 | nil=>intro e _ h;simp at h
 | cons k ks ih=>
  rintro e ⟨y,h1,h2,ak,ad,ae,af,an,ag⟩ hl hn h hc
  obtain ⟨ah,aj⟩:=List.nodup_cons.1 hn
  cases ks with
  | nil=>
   simp only [List.getLast?_singleton,Option.some.injEq] at hl
   subst hl
   obtain ⟨I,y',J,U,aa,ab⟩:=hc y ad
   exact ⟨y',h1,h2,I,J,by rw [U];exact ae,by rw [aa];exact af,ab,trivial⟩
  | cons j ks=>
   rw [List.getLast?_cons_cons] at hl
   have bU:k≠c:=fun e=>ah (by rw [e];exact List.mem_of_getLast? hl)
   obtain ⟨I,y',J,U,aa,ab⟩:=h k List.mem_cons_self bU y ad
   exact ⟨y',h1,h2,I,J,by rw [U];exact ae,by rw [aa];exact af,by omega,by rw [ab];exact ih ag hl aj (fun m hm=>h m (List.mem_cons_of_mem _ hm)) hc⟩
theorem LP.snoc {l:List aq} {i To:Int} {k:Int} {z:aq} (h1:i<k) (h2:0≤k) (J:k<l.length) (hz:l[k.toNat]?=some z) (hu:z.Up=i) (ht:z.To≤To):∀ {ks:List Int} {e:Int},LP l i To e ks→(ks=[]→e≤z.ai)→(∀ c,ks.getLast?=some c→∀ y,l[c.toNat]?=some y→y.To≤z.ai)→LP l i To e (ks++[k]):=by
 intro ks
 induction ks with
 | nil=>intro e _ h _;exact ⟨z,h1,h2,J,hz,hu,h rfl,ht,trivial⟩
 | cons j ks ih=>
  rintro e ⟨y,U,aa,ab,I,ad,ae,af,ag⟩ _ hl
  refine ⟨y,U,aa,ab,I,ad,ae,af,ih ag (fun e=>?_) (fun c hc=>?_)⟩
  ·subst e;exact hl j rfl y I
  ·cases ks with
   | nil=>simp at hc
   | cons m ks=>exact hl c (by rw [List.getLast?_cons_cons];exact hc)
inductive Sp (N:List aq):Nat→Prop where
 | root:Sp N 0
 | gg {u k:Nat} {x:aq} (h:Sp N u) (hx:N[u]?=some x) (hk:x.Kids.getLast?=some (k:Int)):Sp N k
structure Gx (N:List aq) (n:Int) (i:Int) (to:Int):Prop where
 root:∃ x,N[0]?=some x∧x.Kind=1∧x.ai=0∧x.To=n∧x.Up= -1
 ups:∀ (j:Nat) x,N[j]?=some x→j=0∨(0≤x.Up∧x.Up<(j:Int))
 cT:∀ (j:Nat) x,N[j]?=some x→LP N j (if (j:Int)=i then max x.To to else x.To) x.ai x.Kids∧x.ai≤x.To
 nd:∀ x∈N,x.Kids.Nodup
 sum:ee N+1=N.length
theorem sA:∀ {a b:List aq},a.map (·.Kids)=b.map (·.Kids)→ee a=ee b:=by
 intro a b h
 have:∀ c:List aq,ee c=((c.map (·.Kids)).map List.length).sum:=fun c=>by simp [ee,Function.comp_def]
 rw [this,this,h]
theorem pK {N:List aq} {i:Nat} {x y:aq} (hx:N[i]?=some x) (hk:y.Kids=x.Kids):(N.set i y).map (·.Kids)=N.map (·.Kids):=by
 rw [List.map_set,hk]
 have hi:=fI hx
 have eS:i<(N.map (·.Kids)).length:=by simpa using hi
 have:(N.map (·.Kids))[i]=x.Kids:=by
  rw [List.getElem_map]
  have:=List.getElem?_eq_getElem hi
  rw [hx] at this
  rw [← Option.some.inj this]
 rw [← this];exact List.set_getElem_self eS
theorem Sp.kids {N N':List aq} (h:N'.map (·.Kids)=N.map (·.Kids)) {u:Nat} (hs:Sp N u):Sp N' u:=by
 induction hs with
 | root=>exact .root
 | gg h1 hx hk ih=>
  rename_i u k x
  have:(N'.map (·.Kids))[u]?=some x.Kids:=by rw [h,List.getElem?_map,hx];rfl
  rw [List.getElem?_map] at this
  obtain ⟨y,hy,e⟩:=Option.map_eq_some_iff.1 this
  exact .gg ih hy (by rw [e];exact hk)
theorem G.gx {N:List aq} {n:Int} (h:G N n) (i to:Int):Gx N n i to where
 root:=h.root
 ups:=h.ups
 cT j x hx:=⟨(h.cT j x hx).1.of (by split<;>omega) (fun k hk y hy=>⟨by obtain ⟨_,_,q,_⟩:=(h.cT j x hx).1.mem k hk;exact q,y,hy,rfl,rfl,rfl⟩),(h.cT j x hx).2⟩
 nd:=h.nd
 sum:=h.sum
theorem Gx.none {N:List aq} {n i to:Int} (h:Gx N n i to) (hi:i<0):G N n where
 root:=h.root
 ups:=h.ups
 cT j x hx:=by have:=h.cT j x hx;rw [if_neg (by omega)] at this;exact this
 nd:=h.nd
 sum:=h.sum
theorem Gx.step {N:List aq} {n to:Int} {i:Nat} (h:Gx N n i to) (hs:Sp N i) {x:aq} (hx:N[i]?=some x) (ht:i=0→to≤n):Gx (N.set i (toMax x to)) n x.Up to∧(0≤x.Up→Sp N x.Up.toNat):=by
 have hi:=fI hx
 have e6:∀ (k:Nat) (y:aq),N[k]?=some y→∃ y',(N.set i (toMax x to))[k]?=some y'∧y'.Up=y.Up∧y'.ai=y.ai∧y'.Kids=y.Kids∧y'.Kind=y.Kind∧(k≠i→y'.To=y.To):=by
  intro k y hy
  by_cases e:k=i
  ·subst e
   rw [hx] at hy;simp only [Option.some.injEq] at hy;subst hy
   exact ⟨_,List.getElem?_set_self hi,rfl,rfl,rfl,rfl,fun q=>absurd rfl q⟩
  ·exact ⟨y,by rw [List.getElem?_set_ne (Ne.symm e)];exact hy,rfl,rfl,rfl,rfl,fun _=>rfl⟩
 have kr:(N.set i (toMax x to))[i]?=some (toMax x to):=List.getElem?_set_self hi
 have jT:=h.ups i x hx
 have sC:0≤x.Up→Sp N x.Up.toNat∧∃ p,N[x.Up.toNat]?=some p∧p.Kids.getLast?=some (i:Int):=by
  intro h0
  cases hs with
  | root=>
   obtain ⟨r,r1,_,_,_,ad⟩:=h.root
   rw [hx] at r1;simp only [Option.some.injEq] at r1;subst r1;omega
  | gg h1 hp hk=>
   rename_i u p
   obtain ⟨y,_,_,I,ae,_⟩:=(h.cT u p hp).1.mem i (List.mem_of_getLast? hk)
   rw [Int.toNat_natCast,hx] at I
   simp only [Option.some.injEq] at I
   subst I
   rw [ae,Int.toNat_natCast]
   exact ⟨h1,p,hp,hk⟩
 refine ⟨⟨?_,fun j y hy=>?_,fun j y hy=>?_,fun y hy=>?_,?_⟩,fun h0=>(sC h0).1⟩
 ·obtain ⟨r,r1,ad,ah,ak,aj⟩:=h.root
  by_cases e:i=0
  ·subst e
   rw [hx] at r1;simp only [Option.some.injEq] at r1;subst r1
   refine ⟨_,kr,ad,ah,?_,aj⟩
   have:=ht rfl
   simp only [toMax,jM];omega
  ·exact ⟨r,by rw [List.getElem?_set_ne e];exact r1,ad,ah,ak,aj⟩
 ·by_cases e:j=i
  ·subst e
   rw [kr] at hy;simp only [Option.some.injEq] at hy;subst hy
   exact h.ups j x hx
  ·rw [List.getElem?_set_ne (Ne.symm e)] at hy;exact h.ups j y hy
 ·have hlen:((N.set i (toMax x to)).length:Int)=N.length:=by rw [List.length_set]
  by_cases e:j=i
  ·subst e
   rw [kr] at hy;simp only [Option.some.injEq] at hy;subst hy
   have h1:=h.cT j x hx
   rw [if_pos rfl] at h1
   refine ⟨?_,by have:=h1.2;simp only [toMax,jM];omega⟩
   have bU:(j:Int)≠x.Up:=by
    rcases jT with q | q
    ·obtain ⟨r,r1,_,_,_,ad⟩:=h.root
     rw [q] at hx;rw [hx] at r1;simp only [Option.some.injEq] at r1;subst r1;omega
    ·omega
   rw [if_neg bU]
   have ht:(toMax x to).To=max x.To to:=by simp only [toMax,jM]
   rw [ht]
   refine h1.1.of (Int.le_refl _) (fun k hk y hy=>?_)
   obtain ⟨z,af,ag,_⟩:=h1.1.mem k hk
   obtain ⟨y',J,U,aa,_,_,ab⟩:=e6 k.toNat y hy
   exact ⟨by omega,y',J,U,aa,ab (by omega)⟩
  ·rw [List.getElem?_set_ne (Ne.symm e)] at hy
   have h1:=h.cT j y hy
   rw [if_neg (by omega)] at h1
   refine ⟨?_,h1.2⟩
   by_cases ej:(j:Int)=x.Up
   ·rw [if_pos ej]
    obtain ⟨_,p,hp,hk⟩:=sC (by omega)
    rw [← ej,Int.toNat_natCast,hy] at hp
    simp only [Option.some.injEq] at hp
    subst hp
    refine h1.1.last (by omega) hk (h.nd y (List.mem_of_getElem? hy)) (fun k an bU z hz=>?_) (fun z hz=>?_)
    ·obtain ⟨w,af,ag,_⟩:=h1.1.mem k an
     obtain ⟨y',J,U,aa,_,_,ab⟩:=e6 k.toNat z hz
     exact ⟨by omega,y',J,U,aa,ab (by omega)⟩
    ·obtain ⟨w,af,ag,I,ae,ar⟩:=h1.1.mem (i:Int) (List.mem_of_getLast? hk)
     rw [Int.toNat_natCast,hx] at hz I
     simp only [Option.some.injEq] at hz I
     subst hz;subst I
     refine ⟨by omega,toMax x to,by rw [Int.toNat_natCast];exact kr,rfl,rfl,?_⟩
     simp only [toMax,jM];omega
   ·rw [if_neg ej]
    refine h1.1.of (Int.le_refl _) (fun k hk z hz=>?_)
    obtain ⟨w,af,ag,I,ae,_⟩:=h1.1.mem k hk
    obtain ⟨y',J,U,aa,_,_,ab⟩:=e6 k.toNat z hz
    refine ⟨by omega,y',J,U,aa,ab (fun ao=>?_)⟩
    rw [ao,hx] at I;simp only [Option.some.injEq] at I
    subst I;exact ej ae.symm
 ·obtain ⟨j,hj⟩:=List.getElem?_of_mem hy
  by_cases e:j=i
  ·subst e
   rw [kr] at hj;simp only [Option.some.injEq] at hj;subst hj
   exact h.nd x (List.mem_of_getElem? hx)
  ·rw [List.getElem?_set_ne (Ne.symm e)] at hj;exact h.nd y (List.mem_of_getElem? hj)
 ·rw [List.length_set,sA (pK (y:=toMax x to) hx rfl)];exact h.sum
theorem Gx.grow {n to:Int} (ht:to≤n):∀ (k:Nat) (N:List aq) (i:Int),Gx N n i to→i<k→i<N.length→(0≤i→Sp N i.toNat)→G (growL k N i to) n:=by
 intro k
 induction k with
 | zero=>intro N i h h1 _ _;exact h.none (by omega)
 | succ k ih=>
  intro N i h h1 h2 hs
  simp only [growL]
  by_cases h0:0≤i
  ·rw [if_pos h0]
   have dq:i.toNat<N.length:=by omega
   have hx:N[i.toNat]?=some N[i.toNat]:=List.getElem?_eq_getElem dq
   rw [hx]
   simp only
   generalize N[i.toNat]=x at *
   have e:((i.toNat:Nat):Int)=i:=by omega
   obtain ⟨j,I⟩:=Gx.step (i:=i.toNat) (by rw [e];exact h) (hs h0) hx (fun _=>ht)
   have jT:=h.ups i.toNat x hx
   have q9:i.toNat=0→x.Up= -1:=fun z=>by
    obtain ⟨r,r1,_,_,_,J⟩:=h.root
    rw [z] at hx;rw [hx] at r1;simp only [Option.some.injEq] at r1;subst r1;exact J
   have bq:x.Up<i:=by
    rcases jT with q | q
    ·have:=q9 q;omega
    ·omega
   exact ih _ _ j (by omega) (by rw [List.length_set];omega) (fun z=>(I z).kids (pK (y:=toMax x to) hx rfl))
  ·rw [if_neg h0];exact h.none (by omega)
theorem sT:∀ (k:Nat) (N:List aq) (i to:Int),(growL k N i to).map (·.Kids)=N.map (·.Kids):=by
 intro k
 induction k with
 | zero=>intro N i to;rfl
 | succ k ih=>
  intro N i to
  simp only [growL]
  split
  ·split
   ·rename_i x hx
    rw [ih,pK (y:=toMax x to) hx rfl]
   ·rfl
  ·rfl
def Below (N:List aq) (p:Int):Prop:=∀ (i:Nat) x,N[i]?=some x→0<i→x.To≤p
theorem vj:∀ (k:Nat) (N:List aq) (i to p:Int),Below N p→to≤p→Below (growL k N i to) p:=by
 intro k
 induction k with
 | zero=>intro N i to p h _;exact h
 | succ k ih=>
  intro N i to p h ht
  simp only [growL]
  split
  ·split
   ·rename_i x hx
    refine ih _ _ _ _ (fun j y hy hj=>?_) ht
    by_cases e:j=i.toNat
    ·rw [e,List.getElem?_set_self (fI hx)] at hy
     simp only [Option.some.injEq] at hy
     subst hy
     have:=h j x (by rw [e];exact hx) hj
     simp only [toMax,jM];omega
    ·rw [List.getElem?_set_ne (Ne.symm e)] at hy;exact h j y hy hj
   ·exact h
  ·exact h
theorem DF:∀ (k:Nat) (N:List aq) (i to:Int) (j:Nat) (x':aq),(growL k N i to)[j]?=some x'→∃ x,N[j]?=some x∧x'.Kind=x.Kind∧x'.ai=x.ai:=by
 intro k
 induction k with
 | zero=>intro N i to j x' h;exact ⟨x',h,rfl,rfl⟩
 | succ k ih=>
  intro N i to j x' h
  simp only [growL] at h
  split at h
  ·split at h
   ·rename_i x hx
    obtain ⟨y,I,J,U⟩:=ih _ _ _ _ _ h
    by_cases e:j=i.toNat
    ·rw [e,List.getElem?_set_self (fI hx)] at I
     simp only [Option.some.injEq] at I
     subst I
     exact ⟨x,by rw [e];exact hx,J,U⟩
    ·rw [List.getElem?_set_ne (Ne.symm e)] at I;exact ⟨y,I,J,U⟩
   ·exact ⟨x',h,rfl,rfl⟩
  ·exact ⟨x',h,rfl,rfl⟩
end Go.Proofs.Ytcilejikekccmaa.M
namespace Go.Proofs.Ytcilejikekccmaa.M
open Go Am Sy
theorem wH (a b:List aq):ee (a++b)=ee a+ee b:=by simp [ee]
theorem qs {N:List aq} {x:aq} (h:x∈N):x.Kids.length≤ee N:=by
 induction N with
 | nil=>cases h
 | cons y N ih=>
  have:ee (y::N)=y.Kids.length+ee N:=by simp [ee]
  rcases List.mem_cons.1 h with rfl | h
  ·omega
  ·have:=ih h;omega
theorem ED:∀ {N:List aq} {i:Nat} {x y:aq},N[i]?=some x→ee (N.set i y)+x.Kids.length=ee N+y.Kids.length:=by
 intro N
 induction N with
 | nil=>intro i x y h;simp at h
 | cons z N ih=>
  intro i x y h
  have e:∀ (a:aq) (b:List aq),ee (a::b)=a.Kids.length+ee b:=fun a b=>by simp [ee]
  cases i with
  | zero=>simp at h;subst h;rw [List.set_cons_zero,e,e];omega
  | succ i=>
   simp only [List.getElem?_cons_succ] at h
   have:=ih (y:=y) h
   rw [List.set_cons_succ,e,e];omega
theorem G.small {N:List aq} {n:Int} (h:G N n) (hl:N.length≤1000000):Small N:=⟨hl,fun x hx=>by have:=qs hx;have:=h.sum;omega⟩
theorem G.pos {N:List aq} {n:Int} (h:G N n):0<N.length:=by have:=h.sum;omega
theorem G.tD {N:List aq} {n:Int} (h:G N n):∃ x,N[0]?=some x∧x.To=n:=by
 obtain ⟨x,h1,_,_,h2,_⟩:=h.root;exact ⟨x,h1,h2⟩
theorem G.same {N N':List aq} {n:Int} (h:G N n) (hl:N'.length=N.length) (hs:∀ (i:Nat) x',N'[i]?=some x'→∃ x,N[i]?=some x∧x'.Kind=x.Kind∧x'.ai=x.ai∧x'.To=x.To∧x'.Up=x.Up∧x'.Kids=x.Kids):G N' n:=by
 have fg:∀ (i:Nat) x,N[i]?=some x→∃ x',N'[i]?=some x'∧x'.Kind=x.Kind∧x'.ai=x.ai∧x'.To=x.To∧x'.Up=x.Up∧x'.Kids=x.Kids:=fun i x hx=>by
  have hi:=fI hx
  have h1:N'[i]?=some N'[i]:=List.getElem?_eq_getElem (by omega)
  obtain ⟨y,j,I⟩:=hs i _ h1
  rw [hx] at j;simp only [Option.some.injEq] at j;subst j
  exact ⟨_,h1,I⟩
 have hk:N'.map (·.Kids)=N.map (·.Kids):=by
  apply List.ext_getElem?
  intro i
  rw [List.getElem?_map,List.getElem?_map]
  rcases Nat.lt_or_ge i N.length with q | q
  ·obtain ⟨x',j,_,_,_,_,I⟩:=fg i _ (List.getElem?_eq_getElem q)
   rw [j,List.getElem?_eq_getElem q];simp [I]
  ·rw [List.getElem?_eq_none q,List.getElem?_eq_none (by omega)]
 refine ⟨?_,fun i x' hx=>?_,fun i x' hx=>?_,fun x' hx=>?_,by rw [hl,sA hk];exact h.sum⟩
 ·obtain ⟨x,h1,h2,ad,ae,af⟩:=h.root
  obtain ⟨x',j,I,J,U,aa,_⟩:=fg 0 x h1
  exact ⟨x',j,I.trans h2,J.trans ad,U.trans ae,aa.trans af⟩
 ·obtain ⟨x,j,_,_,_,aa,_⟩:=hs i x' hx
  rw [aa];exact h.ups i x j
 ·obtain ⟨x,j,_,J,U,_,ab⟩:=hs i x' hx
  rw [J,U,ab]
  have h1:=h.cT i x j
  exact ⟨h1.1.of (Int.le_refl _) (fun k hk y hy=>by
   obtain ⟨z,_,an,_⟩:=h1.1.mem k hk
   obtain ⟨y',ag,_,ah,aj,ak,_⟩:=fg _ y hy
   exact ⟨by omega,y',ag,ak,ah,aj⟩),h1.2⟩
 ·obtain ⟨i,hi⟩:=List.getElem?_of_mem hx
  obtain ⟨x,j,_,_,_,_,ab⟩:=hs i x' hi
  rw [ab];exact h.nd x (List.mem_of_getElem? j)
structure sB (N N':List aq) (n:Int) (up:Nat) (kind aH to:Int):Prop where
 g:G N' n
 len:N'.length=N.length+1
 ud:∀ p,Below N p→to≤p→Below N' p
 new:Sp N' N.length
 cK:∀ v,v≤up→Sp N v→Sp N' v
 fresh:∃ z,N'[N.length]?=some z∧z.ai=aH∧z.Kids=[]
theorem added {N:List aq} {n:Int} (h:G N n) {up:Nat} (hu:up<N.length) (hs:Sp N up) {kind aH to:Int} (fm:aH≤to) (ht:to≤n) (he:∀ e,endOf N up=some e→e≤aH):sB N (m3 N up kind aH to) n up kind aH to:=by
 have hx:N[up]?=some N[up]:=List.getElem?_eq_getElem hu
 unfold m3
 rw [Int.toNat_natCast,hx]
 simp only
 unfold endOf at he
 rw [hx] at he
 simp only [Option.map_some,Option.some.injEq,forall_eq'] at he
 generalize N[up]=x at *
 have nj:=List.mem_of_getElem? hx
 have gm:(N++[(⟨kind,aH,to,(up:Int),[],false⟩:aq)]).set up {x with Kids:=x.Kids++[(N.length:Int)]}=N.set up {x with Kids:=x.Kids++[(N.length:Int)]}++[(⟨kind,aH,to,(up:Int),[],false⟩:aq)]:=List.set_append_left _ _ hu
 generalize av:(N++[(⟨kind,aH,to,(up:Int),[],false⟩:aq)]).set up {x with Kids:=x.Kids++[(N.length:Int)]}=I at *
 have hlen:I.length=N.length+1:=by rw [gm];simp
 have e6:∀ (k:Nat) y,N[k]?=some y→∃ y',I[k]?=some y'∧y'.Kind=y.Kind∧y'.ai=y.ai∧y'.To=y.To∧y'.Up=y.Up∧(k≠up→y'=y):=by
  intro k y hy
  have hk:=fI hy
  rw [gm,List.getElem?_append_left (by rw [List.length_set];exact hk)]
  by_cases e:k=up
  ·subst e
   rw [hx] at hy;simp only [Option.some.injEq] at hy;subst hy
   exact ⟨_,List.getElem?_set_self hk,rfl,rfl,rfl,rfl,fun q=>absurd rfl q⟩
  ·exact ⟨y,by rw [List.getElem?_set_ne (Ne.symm e)];exact hy,rfl,rfl,rfl,rfl,fun _=>rfl⟩
 have tP:I[up]?=some {x with Kids:=x.Kids++[(N.length:Int)]}:=by
  rw [gm,List.getElem?_append_left (by rw [List.length_set];exact hu),List.getElem?_set_self hu]
 have jf:I[N.length]?=some ⟨kind,aH,to,(up:Int),[],false⟩:=by
  rw [gm,List.getElem?_append_right (by rw [List.length_set];exact Nat.le_refl _)];simp
 have gz:∀ (k:Nat) y',I[k]?=some y'→(k=N.length∧y'=⟨kind,aH,to,(up:Int),[],false⟩)∨(k=up∧y'={x with Kids:=x.Kids++[(N.length:Int)]})∨(k≠up∧N[k]?=some y'):=by
  intro k y' hy
  have hk:=fI hy
  by_cases e:k=N.length
  ·subst e;rw [jf] at hy;exact .inl ⟨rfl,(Option.some.inj hy).symm⟩
  ·by_cases ad:k=up
   ·subst ad;rw [tP] at hy;exact .inr (.inl ⟨rfl,(Option.some.inj hy).symm⟩)
   ·have h2:N[k]?=some N[k]:=List.getElem?_eq_getElem (by omega)
    obtain ⟨z,J,_,_,_,_,aa⟩:=e6 k _ h2
    rw [hy] at J;simp only [Option.some.injEq] at J
    rw [J,aa ad];exact .inr (.inr ⟨ad,h2⟩)
 have ux:∀ (j:Nat) y,N[j]?=some y→∀ T,y.To≤T→LP I j T y.ai y.Kids:=fun j y hy T hT=>
  (h.cT j y hy).1.of hT (fun k hk z hz=>by
   obtain ⟨w,_,aa,_⟩:=(h.cT j y hy).1.mem k hk
   obtain ⟨z',U,_,af,ae,ag,_⟩:=e6 _ z hz
   exact ⟨by omega,z',U,ag,af,ae⟩)
 have AJ:Gx I n up to:=by
  refine ⟨?_,fun j y hy=>?_,fun j y hy=>?_,fun y hy=>?_,?_⟩
  ·obtain ⟨r,r1,ah,aj,ak,an⟩:=h.root
   obtain ⟨z,J,aa,ab,ao,ar,_⟩:=e6 0 r r1
   exact ⟨z,J,aa.trans ah,ab.trans aj,ao.trans ak,ar.trans an⟩
  ·rcases gz j y hy with ⟨rfl,rfl⟩ | ⟨rfl,rfl⟩ | ⟨_,q⟩
   ·exact .inr ⟨by show (0:Int)≤(up:Int);omega,by show (up:Int)<(N.length:Int);omega⟩
   ·exact h.ups j x hx
   ·exact h.ups j y q
  ·rcases gz j y hy with ⟨rfl,rfl⟩ | ⟨rfl,rfl⟩ | ⟨aw,q⟩
   ·exact ⟨trivial,fm⟩
   ·rw [if_pos rfl]
    refine ⟨?_,(h.cT j x hx).2⟩
    refine LP.snoc (i:=(j:Int)) (k:=(N.length:Int)) (z:=⟨kind,aH,to,(j:Int),[],false⟩) (by omega) (by omega) (by omega) (by rw [Int.toNat_natCast];exact jf) rfl (by show to≤max x.To to;omega) (ux j x hx _ (by show x.To≤max x.To to;omega)) (fun e=>?_) (fun c hc y hy=>?_)
    ·rw [e] at he;exact he
    ·rw [hc] at he
     simp only at he
     obtain ⟨w,J,aa,ab,_⟩:=(h.cT j x hx).1.mem c (List.mem_of_getLast? hc)
     rw [if_pos (by omega),ab] at he
     simp only [jM] at he
     obtain ⟨w',U,_,_,ae,_⟩:=e6 _ w ab
     rw [hy] at U;simp only [Option.some.injEq] at U
     rw [U,ae];show w.To≤aH;omega
   ·rw [if_neg (by omega)]
    exact ⟨ux j y q _ (Int.le_refl _),(h.cT j y q).2⟩
  ·obtain ⟨j,hj⟩:=List.getElem?_of_mem hy
   rcases gz j y hj with ⟨rfl,rfl⟩ | ⟨rfl,rfl⟩ | ⟨_,q⟩
   ·exact List.nodup_nil
   ·refine List.nodup_append.2 ⟨h.nd x nj,by simp,fun a ha b hb e=>?_⟩
    simp only [List.mem_singleton] at hb
    obtain ⟨_,_,aa,_⟩:=(h.cT j x hx).1.mem a ha
    omega
   ·exact h.nd y (List.mem_of_getElem? q)
  ·rw [gm,wH,List.length_append,List.length_set]
   have h1:=ED (y:={x with Kids:=x.Kids++[(N.length:Int)]}) hx
   have h2:({x with Kids:=x.Kids++[(N.length:Int)]}:aq).Kids.length=x.Kids.length+1:=by simp
   have ax:=h.sum
   have ay:ee [(⟨kind,aH,to,(up:Int),[],false⟩:aq)]=0:=rfl
   rw [h2] at h1
   simp only [List.length_singleton]
   omega
 have hold:∀ v,Sp N v→v≤up→Sp I v:=by
  intro v hv
  induction hv with
  | root=>intro _;exact .root
  | gg h1 hy hk ih=>
   rename_i u k y
   intro hle
   obtain ⟨w,J,_⟩:=(h.cT u y hy).1.mem _ (List.mem_of_getLast? hk)
   obtain ⟨y',U,_,_,_,_,au⟩:=e6 u y hy
   rw [au (by omega)] at U
   exact .gg (ih (by omega)) U hk
 have ql:=sT (N.length+1) I up to
 have w4:Sp I N.length:= .gg (hold up hs (Nat.le_refl _)) tP (by simp)
 refine ⟨AJ.grow ht _ _ _ (by omega) (by omega) (fun _=>by rw [Int.toNat_natCast];exact hold up hs (Nat.le_refl _)),by rw [ph,hlen],fun p hp nG=>vj _ _ _ _ _ (fun j y hy hj=>?_) nG,w4.kids ql,fun v hv q=>(hold v q hv).kids ql,?_⟩
 ·rcases gz j y hy with ⟨rfl,rfl⟩ | ⟨rfl,rfl⟩ | ⟨_,q⟩
  ·exact nG
  ·exact hp j x hx hj
  ·exact hp j y q hj
 ·have hl:N.length<(growL (N.length+1) I up to).length:=by rw [ph,hlen];omega
  refine ⟨_,List.getElem?_eq_getElem hl,?_⟩
  have h1:=List.getElem?_eq_getElem hl
  obtain ⟨y,J,_,ab⟩:=DF _ _ _ _ _ _ h1
  rw [jf] at J;simp only [Option.some.injEq] at J
  refine ⟨by rw [ab,← J],?_⟩
  have h2:((growL (N.length+1) I up to).map (·.Kids))[N.length]?=some []:=by rw [ql,List.getElem?_map,jf];rfl
  rw [List.getElem?_map,h1] at h2
  exact Option.some.inj h2
theorem sy {N:List aq} {n:Int} (h:G N n) {p:Int} (hb:Below N p) (hp:0≤p) (up:Nat):∀ e,endOf N up=some e→e≤p:=by
 intro e he
 unfold endOf at he
 obtain ⟨x,hx,rfl⟩:=Option.map_eq_some_iff.1 he
 have qi:x.ai≤p:=by
  rcases Nat.eq_zero_or_pos up with e | e
  ·subst e
   obtain ⟨r,r1,_,I,_⟩:=h.root
   rw [hx] at r1;simp only [Option.some.injEq] at r1;subst r1;omega
  ·have:=hb up x hx e
   have:=(h.cT up x hx).2
   omega
 cases hk:x.Kids.getLast? with
 | none=>exact qi
 | some k=>
  simp only
  obtain ⟨w,J,U,j,_⟩:=(h.cT up x hx).1.mem k (List.mem_of_getLast? hk)
  rw [if_pos (by omega),j]
  simp only [jM]
  have:=hb k.toNat w j (by omega)
  omega
theorem rh {N:List aq} {i:Nat} {z:aq} (hz:N[i]?=some z) (hk:z.Kids=[]):∀ e,endOf N i=some e→e=z.ai:=by
 intro e he
 unfold endOf at he
 rw [hz] at he
 simp only [Option.map_some,hk,List.getLast?_nil,Option.some.injEq] at he
 exact he.symm
theorem G.qS {N:List aq} {n:Int} (h:G N n) (j:Nat) (x:aq) (hx:N[j]?=some x):x.Up<(j:Int):=by
 rcases h.ups j x hx with q | q
 ·obtain ⟨r,r1,_,_,_,I⟩:=h.root
  subst q
  rw [hx] at r1;simp only [Option.some.injEq] at r1;subst r1;omega
 ·exact q.2
theorem G.last {N:List aq} {n:Int} (h:G N n) (up:Nat) (x:aq) (hx:N[up]?=some x) (c:Int) (hc:x.Kids.getLast?=some c):0≤c∧c<N.length:=by
 obtain ⟨y,j,I,_⟩:=(h.cT up x hx).1.mem c (List.mem_of_getLast? hc)
 omega
end Go.Proofs.Ytcilejikekccmaa.M
namespace Go.Proofs.Ytcilejikekccmaa.M
open Go Am Sy
abbrev Rr:=aL
structure RI (r:Rr):Prop where
 e0:0≤r.End
 e1:r.End≤r.L.length
 n:r.L.length≤450
 kp:∀ t∈r.L,0<t.Kind
def kd (r:Rr) (i:Int):Int:=if r.End≤i then 0 else match r.L[i.toNat]? with | some x=>if x.Kind=20∨x.Kind=21 then 0 else x.Kind | none=>0
theorem fj (F:Nat) (r:Rr) (h:RI r) (i:Int) (h0:0≤i):eC F r i=some (kd r i):=by
 unfold eC kd
 by_cases c2:r.End≤i
 ·rw [if_pos c2,if_pos c2]
 have:=h.e1
 have hl:i.toNat<r.L.length:=by omega
 rw [if_neg c2,if_neg c2]
 have hb:0≤i∧i<(r.L.length:Int):=by omega
 simp only [if_pos hb,List.getElem?_eq_getElem hl,Option.bind_some]
 by_cases j:r.L[i.toNat].Kind=20
 ·rw [if_pos j,if_pos (.inl j)]
 rw [if_neg j]
 by_cases I:r.L[i.toNat].Kind=21
 ·rw [if_pos I,if_pos (.inr I)]
 ·rw [if_neg I,if_neg (by omega)]
theorem fz {r:Rr} {i:Int} (h:kd r i≠0):i<r.End:=by
 unfold kd at h
 split at h
 ·exact absurd rfl h
 ·omega
theorem xw {r:Rr} (h:RI r) (i:Int):0≤kd r i:=by
 unfold kd
 split
 ·exact Int.le_refl _
 ·split
  ·rename_i x hx
   have:=h.kp x (List.mem_of_getElem? hx)
   split<;>omega
  ·exact Int.le_refl _
theorem h9 {r:Rr} {i:Int} (h:r.End≤i):kd r i=0:=by unfold kd;rw [if_pos h]
theorem qJ {r:Rr} (hr:RI r) {i:Int} (h0:0≤i) (h1:i<r.End):∃ x,r.L[i.toNat]?=some x∧(kd r i≠0→kd r i=x.Kind):=by
 have:=hr.e1
 have hl:i.toNat<r.L.length:=by omega
 refine ⟨_,List.getElem?_eq_getElem hl,fun q=>?_⟩
 unfold kd at q ⊢
 rw [if_neg (by omega),List.getElem?_eq_getElem hl] at q ⊢
 simp only at q ⊢
 split
 ·rename_i c;rw [if_pos c] at q;exact absurd rfl q
 ·rfl
def cn (k:Int):Bool:=decide (k≠1∧k≠2∧k≠3∧k≠4)
theorem k2 (F:Nat) (k:Int):fA F k=some (cn k):=by
 unfold fA cn
 by_cases h1:k=1
 ·simp [h1]
 by_cases h2:k=2
 ·simp [h2]
 by_cases j:k=3
 ·simp [j]
 by_cases I:k=4
 ·simp [I]
 simp [h1,h2,j,I]
theorem nt (F:Nat) (k:Int):jk F k=some (decide (k=8∨k=9)):=by
 unfold jk
 by_cases h1:k=8
 ·simp [h1]
 by_cases h2:k=9
 ·simp [h2]
 simp [h1,h2]
theorem oh (F:Nat) (k:Int):jg F k=some (decide (k=10∨k=11)):=by
 unfold jg
 by_cases h1:k=10
 ·simp [h1]
 by_cases h2:k=11
 ·simp [h2]
 simp [h1,h2]
theorem ot (F:Nat) (k:Int):∃ b,fb F k=some b:=by
 unfold fb
 by_cases h1:k=15
 ·simp [h1]
 by_cases h2:k=16
 ·simp [h2]
 by_cases j:k=17
 ·simp [j]
 by_cases I:k=13
 ·simp [I]
 simp [h1,h2,j,I]
theorem BY {F:Nat} {k:Int} (h:fb F k=some true):k≠0:=by
 rintro rfl
 unfold fb at h
 simp at h
def Ct (L:List al) (j:Int):Prop:=∃ t,L[(j - 1).toNat]?=some t∧cn t.Kind=true
theorem Ct.of {r:Rr} (h:RI r) {i:Int} (h0:0≤i) {k:Int} (hk:kd r i=k) (J:k≠0) (hc:cn k=true):Ct r.L (i+1):=by
 have eQ:=fz (r:=r) (i:=i) (by omega)
 obtain ⟨t,j,I⟩:=qJ h h0 eQ
 refine ⟨t,by rw [Int.add_sub_cancel];exact j,?_⟩
 rw [← I (by omega),hk];exact hc
theorem w1 {i:Int} (h0:0≤i) (h1:i≤100000):af (i+1)=i+1:=a8 (by omega) (by omega)
theorem jI {i:Int} (h0:0≤i) (h1:i≤100000):af (i - 1)=i - 1:=a8 (by omega) (by omega)
theorem td (F:Nat) (hF:2500≤F) (r:Rr) (h:RI r) (i:Int) (h0:0≤i) (h1:i≤2000):∃ j,kf F r i=some j∧i≤j∧(j=i∨j≤r.End)∧(kd r i≠0→kd r i≠3→j=i):=by
 have hn:=h.n
 have he:=h.e1
 have key:∀ (d n:Nat) (x:Int),i≤x→x≤2000→(r.End - x).toNat≤d→d<n→(x=i∨x≤r.End)→(kd r i≠0→kd r i≠3→x=i)→∃ j,kX F r i n x=some j∧i≤j∧(j=i∨j≤r.End)∧(kd r i≠0→kd r i≠3→j=i):=by
  intro d
  induction d with
  | zero=>
   intro n x hx U hd hn hq hz
   obtain ⟨n,rfl⟩:∃ m,n=m+1:=⟨n - 1,by omega⟩
   rw [kX,if_neg (by omega)]
   exact ⟨x,rfl,hx,hq,hz⟩
  | succ d ih=>
   intro n x hx U hd hn hq hz
   obtain ⟨n,rfl⟩:∃ m,n=m+1:=⟨n - 1,by omega⟩
   rw [kX]
   by_cases c0:x<r.End
   case neg=>rw [if_neg c0];exact ⟨x,rfl,hx,hq,hz⟩
   obtain ⟨y,aa,ab⟩:=qJ h (by omega) c0
   rw [if_pos c0,if_pos (by omega),aa]
   simp only [Option.bind_some]
   split
   ·rename_i ad
    rw [w1 (by omega) (by omega)]
    exact ih n (x+1) (by omega) (by omega) (by omega) (by omega) (by omega) (fun I J=>by
     have:=hz I J
     subst this
     exact absurd ((ab I).trans ad) J)
   ·exact ⟨x,rfl,hx,hq,hz⟩
 unfold kf
 obtain ⟨j,I,J⟩:=key (r.End - i).toNat F i (Int.le_refl _) h1 (Nat.le_refl _) (by omega) (.inl rfl) (fun _ _=>rfl)
 exact ⟨j,by rw [I];rfl,J⟩
theorem nL (F:Nat) (hF:2500≤F) (r:Rr) (h:RI r) (i:Int) (h0:0≤i) (h1:i≤2000):∃ j,ic F r i=some j∧i≤j∧(j=i∨j≤r.End)∧(kd r j≠0→cn (kd r j)=true):=by
 have hn:=h.n
 have he:=h.e1
 have key:∀ (d n:Nat) (x:Int),i≤x→x≤2000→(r.End - x).toNat≤d→d<n→(x=i∨x≤r.End)→∃ j,jV F r i n x=some j∧i≤j∧(j=i∨j≤r.End)∧(kd r j≠0→cn (kd r j)=true):=by
  intro d
  induction d with
  | zero=>
   intro n x hx I hd hn hq
   obtain ⟨n,rfl⟩:∃ m,n=m+1:=⟨n - 1,by omega⟩
   rw [jV,if_neg (by omega)]
   exact ⟨x,rfl,hx,hq,fun q=>absurd (h9 (by omega)) q⟩
  | succ d ih=>
   intro n x hx I hd hn hq
   obtain ⟨n,rfl⟩:∃ m,n=m+1:=⟨n - 1,by omega⟩
   rw [jV]
   by_cases c0:x<r.End
   case neg=>rw [if_neg c0];exact ⟨x,rfl,hx,hq,fun q=>absurd (h9 (by omega)) q⟩
   obtain ⟨t,J,U⟩:=qJ h (by omega) c0
   rw [if_pos c0,if_pos (by omega),J]
   simp only [Option.bind_some,k2]
   by_cases c:cn t.Kind=true
   ·rw [if_pos c];exact ⟨x,rfl,hx,hq,fun q=>by rw [U q];exact c⟩
   ·rw [if_neg c,w1 (by omega) (by omega)]
    exact ih n (x+1) (by omega) (by omega) (by omega) (by omega) (by omega)
 unfold ic
 obtain ⟨j,aa,ab⟩:=key (r.End - i).toNat F i (Int.le_refl _) h1 (Nat.le_refl _) (by omega) (.inl rfl)
 exact ⟨j,by rw [aa];rfl,ab⟩
theorem oZ (F:Nat) (hF:2500≤F) (r:Rr) (hn:r.L.length≤450) (b a:Int) (h0:0≤a) (h1:a≤b) (h2:b≤r.L.length):∃ j,jx F r b a=some j∧a≤j∧j≤b∧(j=a∨Ct r.L j)∧(a<b→Ct r.L b→j=b):=by
 have key:∀ (d n:Nat) (x:Int),a≤x→x≤b→(x - a).toNat≤d→d<n→∃ j,kM F r b a n x=some j∧a≤j∧j≤b∧(j=a∨Ct r.L j)∧(a<x→Ct r.L x→j=x):=by
  intro d
  induction d with
  | zero=>
   intro n x hx I hd hn
   obtain ⟨n,rfl⟩:∃ m,n=m+1:=⟨n - 1,by omega⟩
   rw [kM,if_neg (by omega)]
   exact ⟨x,rfl,hx,I, .inl (by omega),fun _ _=>rfl⟩
  | succ d ih=>
   intro n x hx I hd hn
   obtain ⟨n,rfl⟩:∃ m,n=m+1:=⟨n - 1,by omega⟩
   rw [kM]
   by_cases c:a<x
   ·have hl:(x - 1).toNat<r.L.length:=by omega
    rw [if_pos c,jI (by omega) (by omega),if_pos (by omega),List.getElem?_eq_getElem hl]
    simp only [Option.bind_some,k2]
    split
    ·rename_i hc
     exact ⟨x,rfl,hx,I, .inr ⟨_,List.getElem?_eq_getElem hl,hc⟩,fun _ _=>rfl⟩
    ·rename_i hc
     obtain ⟨j,J,U,ab,ad,_⟩:=ih n (x - 1) (by omega) (by omega) (by omega) (by omega)
     refine ⟨j,J,U,ab,ad,fun _ z=>?_⟩
     obtain ⟨t,aa,ae⟩:=z
     rw [List.getElem?_eq_getElem hl] at aa
     simp only [Option.some.injEq] at aa
     subst aa;exact absurd ae hc
   ·rw [if_neg c];exact ⟨x,rfl,hx,I, .inl (by omega),fun q=>absurd q c⟩
 unfold jx
 obtain ⟨j,J,U⟩:=key (b - a).toNat F b h1 (Int.le_refl _) (Nat.le_refl _) (by omega)
 exact ⟨j,by rw [J];rfl,U⟩
theorem vW (F:Nat) (hF:2500≤F) (r:Rr) (h:RI r) (a:Int) (h0:0≤a) (h1:a<r.End) (hk:Ct r.L (a+1)):∃ j,mr F r a=some j∧a<j∧j≤r.End∧Ct r.L j:=by
 have hn:=h.n
 have he:=h.e1
 have ab:∀ (d n:Nat) (x:Int),a+1≤x→x≤r.End→(r.End - x).toNat≤d→d<n→∃ j,jO F r a n x=some j∧a<j∧j≤r.End:=by
  intro d
  induction d with
  | zero=>
   intro n x hx I hd hn
   obtain ⟨n,rfl⟩:∃ m,n=m+1:=⟨n - 1,by omega⟩
   rw [jO,if_neg (by omega)]
   exact ⟨x,rfl,by omega,I⟩
  | succ d ih=>
   intro n x hx I hd hn
   obtain ⟨n,rfl⟩:∃ m,n=m+1:=⟨n - 1,by omega⟩
   rw [jO]
   by_cases c0:x<r.End
   case neg=>rw [if_neg c0];exact ⟨x,rfl,by omega,I⟩
   have hl:x.toNat<r.L.length:=by omega
   have hb:0≤x∧x<(r.L.length:Int):=by omega
   simp only [if_pos c0,if_pos hb,List.getElem?_eq_getElem hl,Option.bind_some,k2]
   split
   ·exact ⟨x,rfl,by omega,I⟩
   split
   ·exact ⟨x,rfl,by omega,I⟩
   rw [w1 (by omega) (by omega)]
   exact ih n (x+1) (by omega) (by omega) (by omega) (by omega)
 have ad:∀ (d n:Nat) (x:Int),a+1≤x→x≤r.End→(r.End - x).toNat≤d→d<n→(x=a+1∨Ct r.L x∨∃ t,r.L[x.toNat]?=some t∧t.Kind=19∧x<r.End)→∃ j,jQ F r a n x=some j∧a<j∧j≤r.End∧Ct r.L j:=by
  intro d
  induction d with
  | zero=>
   intro n x hx I hd hn hc
   obtain ⟨n,rfl⟩:∃ m,n=m+1:=⟨n - 1,by omega⟩
   rw [jQ,if_neg (by omega)]
   refine ⟨x,rfl,by omega,I,?_⟩
   rcases hc with rfl | hc | ⟨_,_,_,hc⟩
   ·exact hk
   ·exact hc
   ·omega
  | succ d ih=>
   intro n x hx I hd hn hc
   obtain ⟨n,rfl⟩:∃ m,n=m+1:=⟨n - 1,by omega⟩
   rw [jQ]
   by_cases c0:x<r.End
   case neg=>
    rw [if_neg c0]
    refine ⟨x,rfl,by omega,I,?_⟩
    rcases hc with rfl | hc | ⟨_,_,_,hc⟩
    ·exact hk
    ·exact hc
    ·omega
   have hl:x.toNat<r.L.length:=by omega
   rw [if_pos c0,if_pos (by omega),List.getElem?_eq_getElem hl]
   simp only [Option.bind_some]
   split
   ·rename_i J
    rw [w1 (by omega) (by omega)]
    exact ih n (x+1) (by omega) (by omega) (by omega) (by omega) (.inr (.inl ⟨_,by rw [Int.add_sub_cancel];exact List.getElem?_eq_getElem hl,by rw [J];rfl⟩))
   ·rename_i J
    refine ⟨x,rfl,by omega,I,?_⟩
    rcases hc with rfl | hc | ⟨t,U,aa,_⟩
    ·exact hk
    ·exact hc
    ·rw [List.getElem?_eq_getElem hl] at U
     simp only [Option.some.injEq] at U
     subst U;exact absurd aa J
 unfold mr
 rw [w1 h0 (by omega)]
 obtain ⟨j,U,aa,ag⟩:=ab (r.End - (a+1)).toNat F (a+1) (Int.le_refl _) (by omega) (Nat.le_refl _) (by omega)
 rw [U]
 simp only [Option.bind_some]
 by_cases c1:r.End≤j
 ·rw [if_pos c1];exact ⟨_,rfl,by omega,by omega,hk⟩
 have hl:j.toNat<r.L.length:=by omega
 rw [if_neg c1,if_pos (by omega),List.getElem?_eq_getElem hl]
 simp only [Option.bind_some]
 split
 case isFalse=>exact ⟨_,rfl,by omega,by omega,hk⟩
 rw [w1 (by omega) (by omega)]
 by_cases c2:r.End≤j+1
 ·rw [if_pos c2];exact ⟨_,rfl,by omega,by omega,hk⟩
 have hl:(j+1).toNat<r.L.length:=by omega
 rw [if_neg c2,if_pos (by omega),List.getElem?_eq_getElem hl]
 simp only [Option.bind_some]
 split
 case isFalse=>exact ⟨_,rfl,by omega,by omega,hk⟩
 rename_i J
 obtain ⟨k,ae,af⟩:=ad (r.End - (j+1)).toNat F (j+1) (by omega) (by omega) (Nat.le_refl _) (by omega) (.inr (.inr ⟨_,List.getElem?_eq_getElem hl,J,by omega⟩))
 rw [ae]
 exact ⟨k,rfl,af⟩
theorem balanced_ex (F:Nat) (hF:2500≤F) (r:Rr) (h:RI r) (a:Int) (h0:0≤a) (hk:kd r a=8∨kd r a=9):∃ j,correctorref11_Reader_balanced F r a=some j∧a<j∧j≤r.End∧Ct r.L j:=by
 have hn:=h.n
 have he:=h.e1
 have eQ:=fz (r:=r) (i:=a) (by omega)
 have key:∀ (d n:Nat) (x o:Int),a≤x→x≤r.End→(r.End - x).toNat≤d→d<n→o≤x - a→0≤o→(a<x→1≤o)→∃ s,jq F r a n o x=some s∧(match s with | .inl _=>True | .inr j=>a<j∧j≤r.End∧Ct r.L j):=by
  intro d
  induction d with
  | zero=>
   intro n x o hx I hd hn ad ae U
   obtain ⟨n,rfl⟩:∃ m,n=m+1:=⟨n - 1,by omega⟩
   rw [jq,fj F r h _ (by omega),h9 (by omega)]
   exact ⟨_,rfl,trivial⟩
  | succ d ih=>
   intro n x o hx I hd hn ad ae U
   obtain ⟨n,rfl⟩:∃ m,n=m+1:=⟨n - 1,by omega⟩
   have ag:=fj F r h x (by omega)
   rw [jq]
   simp only [ag,Option.bind_some,nt,oh,decide_eq_true_eq]
   by_cases c:0<kd r x
   case neg=>rw [if_neg c];exact ⟨_,rfl,trivial⟩
   have iN:=fz (r:=r) (i:=x) (by omega)
   have hw:af (x+1)=x+1:=w1 (by omega) (by omega)
   have ah:af (o+1)=o+1:=a8 (by omega) (by omega)
   rw [if_pos c,hw,ah]
   have fin:∀ o':Int,0≤o'→o'≤o+1→(o'=0→Ct r.L (x+1))→∃ s,(if o'=(0:Int) then (some (.inr (x+1)):Option (Sum Unit Int)) else jq F r a n o' (x+1))=some s∧(match s with | .inl _=>True | .inr j=>a<j∧j≤r.End∧Ct r.L j):=by
    intro o' aa ai ab
    by_cases c2:o'=0
    ·rw [if_pos c2];exact ⟨_,rfl,by omega,by omega,ab c2⟩
    ·rw [if_neg c2];exact ih n (x+1) o' (by omega) (by omega) (by omega) (by omega) (by omega) (by omega) (by omega)
   by_cases c1:kd r x=8∨kd r x=9
   ·rw [if_pos c1]
    simp only [Option.bind_some]
    rw [if_neg (by omega)]
    simp only [Option.bind_some]
    exact fin _ (by omega) (by omega) (fun q=>by omega)
   rw [if_neg c1]
   simp only [Option.bind_some]
   have aj:af (o - 1)=o - 1:=a8 (by omega) (by omega)
   have A9:a<x:=by
    rcases Int.lt_or_eq_of_le hx with q | q
    ·exact q
    ·subst q;exact absurd hk c1
   have ar:=U A9
   by_cases c2:kd r x=10∨kd r x=11
   ·rw [if_pos c2,aj]
    simp only [Option.bind_some]
    exact fin _ (by omega) (by omega) (fun _=>by rcases c2 with z | z<;>exact Ct.of h (by omega) z (by decide) rfl)
   ·rw [if_neg c2]
    simp only [Option.bind_some]
    exact fin _ (by omega) (by omega) (fun q=>by omega)
 have ak:∀ (d n:Nat) (x:Int),a≤x→x≤r.End→(r.End - x).toNat≤d→d<n→∃ j,j1 F r a n x=some j∧a<j∧j≤r.End:=by
  intro d
  induction d with
  | zero=>
   intro n x hx I hd hn
   obtain ⟨n,rfl⟩:∃ m,n=m+1:=⟨n - 1,by omega⟩
   rw [j1,fj F r h _ (by omega),h9 (by omega)]
   exact ⟨_,rfl,by omega,by omega⟩
  | succ d ih=>
   intro n x hx I hd hn
   obtain ⟨n,rfl⟩:∃ m,n=m+1:=⟨n - 1,by omega⟩
   rw [j1,fj F r h _ (by omega)]
   simp only [Option.bind_some]
   by_cases c:0<kd r x
   ·have iN:=fz (r:=r) (i:=x) (by omega)
    rw [if_pos c,w1 (by omega) (by omega)]
    exact ih n (x+1) (by omega) (by omega) (by omega) (by omega)
   ·rw [if_neg c]
    refine ⟨_,rfl,?_,by omega⟩
    rcases Int.lt_or_eq_of_le hx with q | q
    ·exact q
    ·subst q;omega
 unfold correctorref11_Reader_balanced
 obtain ⟨s,an,ao⟩:=key (r.End - a).toNat F a 0 (Int.le_refl _) (by omega) (Nat.le_refl _) (by omega) (by omega) (by omega) (by omega)
 rw [an]
 cases s with
 | inl u=>
  obtain ⟨j,aa,ai,ab⟩:=ak (r.End - a).toNat F a (Int.le_refl _) (by omega) (Nat.le_refl _) (by omega)
  obtain ⟨k,aq,au,av,J,_⟩:=oZ F hF r hn j (a+1) (by omega) (by omega) (by omega)
  simp only [Option.bind_some,aa,w1 h0 (by omega:a≤100000),aq]
  refine ⟨k,rfl,by omega,by omega,?_⟩
  rcases J with rfl | J
  ·rcases hk with z | z<;>exact Ct.of h h0 z (by decide) rfl
  ·exact J
 | inr j=>exact ⟨j,rfl,ao⟩
theorem tU (F:Nat) (hF:2500≤F) (r:Rr) (h:RI r) (a:Int) (h0:0≤a) (h1:a≤1500):∃ j,iC F r a=some j∧(j=0∨(a<j∧j≤r.End∧Ct r.L j)):=by
 have hn:=h.n
 have he:=h.e1
 have key:∀ (d n:Nat) (x:Int),a≤x→x≤1600→(r.End - x).toNat≤d→d<n→∃ j,jm F r a n x=some j∧a≤j∧j≤1600:=by
  intro d
  induction d with
  | zero=>
   intro n x hx J hd hn
   obtain ⟨n,rfl⟩:∃ m,n=m+1:=⟨n - 1,by omega⟩
   have I:=fj F r h x (by omega)
   rw [h9 (by omega)] at I
   rw [jm]
   simp only [I,Option.bind_some]
   exact ⟨x,rfl,hx,J⟩
  | succ d ih=>
   intro n x hx J hd hn
   obtain ⟨n,rfl⟩:∃ m,n=m+1:=⟨n - 1,by omega⟩
   have I:=fj F r h x (by omega)
   rw [jm]
   simp only [I,Option.bind_some]
   have go:kd r x≠0→∃ j,((ic F r (af (x+1))).bind fun ab=>jm F r a n ab)=some j∧a≤j∧j≤1600:=by
    intro c
    have eQ:=fz c
    obtain ⟨j,U,aa,ad,_⟩:=nL F hF r h (x+1) (by omega) (by omega)
    rw [w1 (by omega) (by omega),U]
    simp only [Option.bind_some]
    exact ih n j (by omega) (by omega) (by omega) (by omega)
   by_cases c:kd r x=12
   ·rw [if_pos c];simp only [Option.bind_some];exact go (by omega)
   rw [if_neg c]
   by_cases c:kd r x=14
   ·rw [if_pos c];simp only [Option.bind_some];exact go (by omega)
   rw [if_neg c]
   exact ⟨x,rfl,hx,J⟩
 unfold iC
 obtain ⟨j,U,aa,ad⟩:=key (r.End - a).toNat F a (Int.le_refl _) (by omega) (Nat.le_refl _) (by omega)
 rw [U]
 simp only [Option.bind_some,fj F r h j (by omega)]
 obtain ⟨b,hb⟩:=ot F (kd r j)
 rw [hb]
 simp only [Option.bind_some]
 have fin:∀ z:Int,a≤z→z≤2000→∃ y,((eC F r z).bind fun ae=>if ae=(6:Int) then (some (af (z+1)):Option Int) else some 0)=some y∧(y=0∨(a<y∧y≤r.End∧Ct r.L y)):=by
  intro z hz ah
  rw [fj F r h z (by omega)]
  simp only [Option.bind_some]
  by_cases c:kd r z=6
  ·have eQ:=fz (r:=r) (i:=z) (by omega)
   rw [if_pos c,w1 (by omega) (by omega)];exact ⟨_,rfl, .inr ⟨by omega,by omega,Ct.of h (by omega) c (by decide) rfl⟩⟩
  ·rw [if_neg c];exact ⟨_,rfl, .inl rfl⟩
 cases b with
 | true=>
  have eQ:=fz (BY hb)
  obtain ⟨z,ag,ai,aj,_⟩:=nL F hF r h (j+1) (by omega) (by omega)
  rw [if_pos rfl,w1 (by omega) (by omega),ag]
  simp only [Option.bind_some]
  exact fin z (by omega) (by omega)
 | false=>
  simp only [Bool.false_eq_true,if_false,Option.bind_some]
  exact fin j aa (by omega)
theorem DS (F:Nat) (hF:2500≤F) (r:Rr) (h:RI r) (a:Int) (h0:0≤a) (hk:0<kd r a) (fU:cn (kd r a)=true) (aq:kd r a≠7) (ar:¬ (kd r a=10∨kd r a=11)):∃ j,kL F r a=some j∧a<j∧j≤r.End∧Ct r.L j:=by
 have hn:=h.n
 have he:=h.e1
 have eQ:=fz (r:=r) (i:=a) (by omega)
 have key:∀ (d n:Nat) (x o:Int),a≤x→x≤r.End→(r.End - x).toNat≤d→d<n→o≤x - a→ -(x - a)≤o→(x=a→o=0)→∃ j,jH F r a n o x=some j∧a<j∧j≤r.End:=by
  intro d
  induction d with
  | zero=>
   intro n x o hx I hd hn ad ae ag
   obtain ⟨n,rfl⟩:∃ m,n=m+1:=⟨n - 1,by omega⟩
   rw [jH,fj F r h _ (by omega),h9 (by omega)]
   exact ⟨x,rfl,by omega,I⟩
  | succ d ih=>
   intro n x o hx I hd hn ad ae ag
   obtain ⟨n,rfl⟩:∃ m,n=m+1:=⟨n - 1,by omega⟩
   have ah:=fj F r h x (by omega)
   rw [jH]
   simp only [ah,Option.bind_some,nt,oh,decide_eq_true_eq]
   by_cases c:0<kd r x
   case neg=>
    rw [if_neg c]
    refine ⟨x,rfl,?_,I⟩
    rcases Int.lt_or_eq_of_le hx with q | q
    ·exact q
    ·subst q;omega
   have iN:=fz (r:=r) (i:=x) (by omega)
   have hw:af (x+1)=x+1:=w1 (by omega) (by omega)
   have ai:af (o+1)=o+1:=a8 (by omega) (by omega)
   rw [if_pos c,hw,ai]
   have go:∃ j,((if kd r x=8∨kd r x=9 then (some (o+1):Option Int) else some o).bind fun U=>
       (if kd r x=10∨kd r x=11 then (some (af (U - 1)):Option Int) else some U).bind fun aj=>jH F r a n aj (x+1))=some j∧a<j∧j≤r.End:=by
    by_cases aa:kd r x=8∨kd r x=9
    ·rw [if_pos aa]
     simp only [Option.bind_some]
     rw [if_neg (by omega)]
     simp only [Option.bind_some]
     exact ih n (x+1) (o+1) (by omega) (by omega) (by omega) (by omega) (by omega) (by omega) (by omega)
    ·rw [if_neg aa]
     simp only [Option.bind_some]
     have ak:af (o - 1)=o - 1:=a8 (by omega) (by omega)
     by_cases ab:kd r x=10∨kd r x=11
     ·rw [if_pos ab,ak]
      simp only [Option.bind_some]
      exact ih n (x+1) (o - 1) (by omega) (by omega) (by omega) (by omega) (by omega) (by omega) (by omega)
     ·rw [if_neg ab]
      simp only [Option.bind_some]
      exact ih n (x+1) o (by omega) (by omega) (by omega) (by omega) (by omega) (by omega) (by omega)
   have out:(kd r x=7∨kd r x=10∨kd r x=11)→a<x:=fun q=>by
    rcases Int.lt_or_eq_of_le hx with z | z
    ·exact z
    ·subst z;omega
   by_cases c0:o=0
   ·rw [if_pos c0]
    by_cases c1:kd r x=7
    ·rw [if_pos c1]
     exact ⟨x,rfl,out (.inl c1),I⟩
    rw [if_neg c1]
    by_cases c2:kd r x=10∨kd r x=11
    ·rw [if_pos c2]
     exact ⟨x,rfl,out (.inr c2),I⟩
    rw [if_neg c2]
    exact go
   ·rw [if_neg c0]
    exact go
 unfold kL
 obtain ⟨j,an,au,av⟩:=key (r.End - a).toNat F a 0 (Int.le_refl _) (by omega) (Nat.le_refl _) (by omega) (by omega) (by omega) (fun _=>rfl)
 rw [an]
 obtain ⟨k,ao,aw,ax,J,_⟩:=oZ F hF r hn j (a+1) (by omega) (by omega) (by omega)
 simp only [Option.bind_some,w1 h0 (by omega:a≤100000),ao]
 refine ⟨k,rfl,by omega,by omega,?_⟩
 rcases J with rfl | J
 ·exact Ct.of h h0 rfl (by omega) fU
 ·exact J
end Go.Proofs.Ytcilejikekccmaa.M
namespace Go.Proofs.Ytcilejikekccmaa.M
open Go Am Sy
structure Rd (n:Int) (r:Rr) (p:Int):Prop where
 ri:RI r
 nl:n=r.L.length
 g:G r.T.ak n
 b:Below r.T.ak p
structure To (r r':Rr) (up:Nat) (s m:Int):Prop where
 l:r'.L=r.L
 e:r'.End=r.End
 sz:(r'.T.ak.length:Int)≤r.T.ak.length+s
 ge:r.T.ak.length≤r'.T.ak.length
 dl:(r'.D.length:Int)≤r.D.length+m
 sp:∀ v,v≤up→Sp r.T.ak v→Sp r'.T.ak v
theorem To.refl (r:Rr) (up:Nat):To r r up 0 0:=⟨rfl,rfl,by omega,Nat.le_refl _,by omega,fun v _ h=>h⟩
theorem To.trans {a b c:Rr} {up j:Nat} {s m s2 I:Int} (h:To a b up s m) (k:To b c j s2 I) (hu:up≤j):To a c up (s+s2) (m+I):=
 ⟨k.l.trans h.l,k.e.trans h.e,by have:=h.sz;have:=k.sz;omega,Nat.le_trans h.ge k.ge,by have:=h.dl;have:=k.dl;omega,fun v hv q=>k.sp v (by omega) (h.sp v hv q)⟩
theorem To.le {a b:Rr} {up:Nat} {s m s2 j:Int} (h:To a b up s m) (hs:s≤s2) (hm:m≤j):To a b up s2 j:={h with sz:=by have:=h.sz;omega,dl:=by have:=h.dl;omega}
theorem Below.mono {N:List aq} {p q:Int} (h:Below N p) (rG:p≤q):Below N q:=fun i x hx hi=>Int.le_trans (h i x hx hi) rG
theorem RI.of {r r':Rr} (h:RI r) (hl:r'.L=r.L) (he:r'.End=r.End):RI r':=⟨by rw [he];exact h.e0,by rw [he,hl];exact h.e1,by rw [hl];exact h.n,by rw [hl];exact h.kp⟩
theorem Rd.mono {n:Int} {r:Rr} {p q:Int} (h:Rd n r p) (rG:p≤q):Rd n r q:=⟨h.ri,h.nl,h.g,h.b.mono rG⟩
theorem Sp.lt {N:List aq} {n:Int} (h:G N n) {v:Nat} (hs:Sp N v):v<N.length:=by
 cases hs with
 | root=>exact h.pos
 | gg h1 hx hk=>
  obtain ⟨_,_,q,_⟩:=(h.cT _ _ hx).1.mem _ (List.mem_of_getLast? hk)
  omega
theorem uZ (F:Nat) (hF:2500≤F) (r:Rr) {n:Int} (h:G r.T.ak n) (hl:r.T.ak.length≤2400) {up:Nat} (hu:up<r.T.ak.length) (hs:Sp r.T.ak up) {kind aH to:Int} (hk:1≤kind∧kind≤11) (fm:aH≤to) (ht:to≤n) (he:∀ e,endOf r.T.ak up=some e→e≤aH):
  ∃ N',eA F r (up:Int) kind aH to=some ((r.T.ak.length:Int),(⟨r.L,⟨N'⟩,r.D,r.End⟩:Rr))∧sB r.T.ak N' n up kind aH to:=by
 refine ⟨m3 r.T.ak up kind aH to,?_,added h hu hs fm ht he⟩
 unfold eA
 rw [D7 F r.T up kind aH to (h.small (by omega)) (by omega) (by omega) h.qS hu hk fm (fun x hx=>by
  obtain ⟨y,j,I⟩:=h.tD
  rw [hx] at j;simp only [Option.some.injEq] at j;subst j;omega) (fun x hx c hc=>h.last up x hx c hc) he]
 rfl
theorem iG (F:Nat) (hF:2500≤F) {n:Int} {r:Rr} {p:Int} (h:Rd n r p) (hl:r.T.ak.length≤2400) {up:Nat} (hs:Sp r.T.ak up) {kind aH to:Int} (hk:1≤kind∧kind≤11) (fm:aH≤to) (ht:to≤n) (ke:p≤to) (he:∀ e,endOf r.T.ak up=some e→e≤aH):
  ∃ r',eA F r (up:Int) kind aH to=some ((r.T.ak.length:Int),r')∧Rd n r' to∧To r r' up 1 0∧Sp r'.T.ak r.T.ak.length∧r'.D=r.D∧r'.T.ak.length=r.T.ak.length+1∧(∃ z,r'.T.ak[r.T.ak.length]?=some z∧z.ai=aH∧z.Kids=[]):=by
 have hn:=h.nl
 have J:=h.ri.e1
 obtain ⟨N',I,j⟩:=uZ F hF r h.g hl (hs.lt h.g) hs hk fm ht he
 refine ⟨_,I,⟨h.ri.of rfl rfl,hn,j.g,j.ud _ (h.b.mono ke) (Int.le_refl _)⟩,⟨rfl,rfl,?_,?_,?_,j.cK⟩,j.new,rfl,j.len,j.fresh⟩
 ·show (N'.length:Int)≤_;rw [j.len];omega
 ·show _≤N'.length;rw [j.len];omega
 ·show (r.D.length:Int)≤_;omega
theorem Rd.endOf {n:Int} {r:Rr} {p:Int} (h:Rd n r p) (hp:0≤p) (up:Nat) {q:Int} (hq:p≤q):∀ e,endOf r.T.ak up=some e→e≤q:=fun e he=>Int.le_trans (sy h.g h.b hp up e he) hq
theorem mC (F:Nat) (hF:2500≤F) {n:Int} {r:Rr} {p:Int} (h:Rd n r p) (hl:r.T.ak.length≤2400) (hd:r.D.length≤100000) {up:Nat} (hs:Sp r.T.ak up) {code aH to:Int} (h0:0≤aH) (fm:aH<to) (ht:to≤n) (ke:p≤to) (he:∀ e,endOf r.T.ak up=some e→e≤aH):
  ∃ r',ea F r (up:Int) aH to code=some ((r.T.ak.length:Int),r')∧Rd n r' to∧To r r' up 1 1∧Sp r'.T.ak r.T.ak.length:=by
 have hn:=h.nl
 have dg:=h.ri.n
 obtain ⟨r1,a1,I,j,aa,J,ab,_⟩:=iG F hF h hl hs (kind:=11) (by omega) (Int.le_of_lt fm) ht ke he
 have U:=j.l
 unfold ea
 have ha:aH.toNat<r.L.length:=by omega
 have hb:(to - 1).toNat<r.L.length:=by omega
 rw [a1]
 simp only [Option.bind_some,U]
 rw [if_pos (by omega),List.getElem?_eq_getElem ha]
 simp only [Option.bind_some]
 rw [jI (by omega) (by omega),if_pos (by omega),List.getElem?_eq_getElem hb]
 simp only [Option.bind_some]
 rw [if_pos (by rw [List.length_singleton,J];omega)]
 refine ⟨_,rfl,⟨I.ri.of U.symm rfl,by show n=(r.L.length:Int);exact hn,I.g,I.b⟩,⟨rfl,j.e,j.sz,j.ge,?_,j.sp⟩,aa⟩
 show ((r1.D++_).length:Int)≤_
 rw [List.length_append,List.length_singleton,J];omega
theorem px (F:Nat) (hF:2500≤F) {n:Int} {r:Rr} {p:Int} (h:Rd n r p) (hl:r.T.ak.length≤2400) {c:Nat} (hs:Sp r.T.ak c) {to:Int} (ht:to≤n) (ke:p≤to):
  ∃ t',h6 F r.T (c:Int) to=some t'∧Rd n (⟨r.L,t',r.D,r.End⟩:Rr) to∧∀ up,To r (⟨r.L,t',r.D,r.End⟩:Rr) up 0 0:=by
 have hn:=h.nl
 have hc:=hs.lt h.g
 refine ⟨_,zz F r.T c to (h.g.small (by omega)) (by omega) h.g.qS hc (fun x hx=>by
  obtain ⟨y,j,I⟩:=h.g.tD
  rw [hx] at j;simp only [Option.some.injEq] at j;subst j;omega),⟨h.ri.of rfl rfl,hn,?_,vj _ _ _ _ _ (h.b.mono ke) (Int.le_refl _)⟩,fun up=>⟨rfl,rfl,?_,?_,?_,fun v _ q=>q.kids (sT _ _ _ _)⟩⟩
 ·exact (h.g.gx (c:Int) to).grow ht _ _ _ (by omega) (by omega) (fun _=>by rw [Int.toNat_natCast];exact hs)
 ·show ((growL r.T.ak.length r.T.ak (c:Int) to).length:Int)≤_;rw [ph];omega
 ·show _≤(growL r.T.ak.length r.T.ak (c:Int) to).length;rw [ph];exact Nat.le_refl _
 ·show (r.D.length:Int)≤_;omega
theorem vA (F:Nat) {n:Int} {r:Rr} {p:Int} (h:Rd n r p) (hl:r.T.ak.length≤2500) {i:Nat} (hi:i<r.T.ak.length):
  ∃ r',lZ F r (i:Int)=some r'∧Rd n r' p∧(∀ up,To r r' up 0 0)∧r'.T.ak.length=r.T.ak.length∧(∀ j,endOf r'.T.ak j=endOf r.T.ak j):=by
 have hx:r.T.ak[i]?=some r.T.ak[i]:=List.getElem?_eq_getElem hi
 have hk:=pK (y:=(⟨r.T.ak[i].Kind,r.T.ak[i].ai,r.T.ak[i].To,r.T.ak[i].Up,r.T.ak[i].Kids,true⟩:aq)) hx rfl
 have gz:∀ (j:Nat) y',(r.T.ak.set i (⟨r.T.ak[i].Kind,r.T.ak[i].ai,r.T.ak[i].To,r.T.ak[i].Up,r.T.ak[i].Kids,true⟩:aq))[j]?=some y'→∃ y,r.T.ak[j]?=some y∧y'.Kind=y.Kind∧y'.ai=y.ai∧y'.To=y.To∧y'.Up=y.Up∧y'.Kids=y.Kids:=by
  intro j y' hy
  by_cases e:j=i
  ·subst e
   rw [List.getElem?_set_self hi] at hy;simp only [Option.some.injEq] at hy;subst hy
   exact ⟨_,hx,rfl,rfl,rfl,rfl,rfl⟩
  ·rw [List.getElem?_set_ne (Ne.symm e)] at hy;exact ⟨y',hy,rfl,rfl,rfl,rfl,rfl⟩
 have tm:∀ (j:Nat),(r.T.ak.set i (⟨r.T.ak[i].Kind,r.T.ak[i].ai,r.T.ak[i].To,r.T.ak[i].Up,r.T.ak[i].Kids,true⟩:aq))[j]?.map (fun x=>(x.ai,x.To,x.Kids))=r.T.ak[j]?.map (fun x=>(x.ai,x.To,x.Kids)):=by
  intro j
  by_cases e:j=i
  ·subst e;rw [List.getElem?_set_self hi,hx];rfl
  ·rw [List.getElem?_set_ne (Ne.symm e)]
 have kI:∀ l:List aq,([]:List aq)++l=l:=fun l=>rfl
 unfold lZ
 simp only [kI]
 rw [if_pos (by rw [List.length_nil];omega),if_pos (by omega),Int.toNat_natCast,hx]
 simp only [Option.bind_some]
 refine ⟨_,rfl,⟨h.ri.of rfl rfl,h.nl,h.g.same (List.length_set) gz,fun j y' hy hj=>?_⟩,fun up=>⟨rfl,rfl,?_,?_,?_,fun v _ q=>q.kids hk⟩,List.length_set,fun j=>?_⟩
 ·obtain ⟨y,I,_,_,J,_⟩:=gz j y' hy
  rw [J];exact h.b j y I hj
 ·show ((r.T.ak.set i _).length:Int)≤_;rw [List.length_set];omega
 ·show _≤(r.T.ak.set i _).length;rw [List.length_set];exact Nat.le_refl _
 ·show (r.D.length:Int)≤_;omega
 ·show M.endOf (r.T.ak.set i _) j=_
  unfold M.endOf
  have:=tm j
  revert this
  cases r.T.ak[j]? with
  | none=>
   intro this
   simp only [Option.map_none,Option.map_eq_none_iff] at this
   rw [this];rfl
  | some x=>
   intro this
   obtain ⟨y,hy,e⟩:=Option.map_eq_some_iff.1 this
   simp only [Prod.mk.injEq] at e
   obtain ⟨e1,aa,U⟩:=e
   rw [hy]
   simp only [Option.map_some,e1,U]
   congr 1
   cases x.Kids.getLast? with
   | none=>rfl
   | some k=>
    simp only
    split
    ·have:=tm k.toNat
     revert this
     cases r.T.ak[k.toNat]? with
     | none=>intro this;simp only [Option.map_none,Option.map_eq_none_iff] at this;rw [this]
     | some z=>
      intro this
      obtain ⟨w,hw,e⟩:=Option.map_eq_some_iff.1 this
      simp only [Prod.mk.injEq] at e
      rw [hw];simp only [e.2.1]
    ·rfl
theorem vo (F:Nat) (hF:2500≤F) {n:Int} {r:Rr} {p:Int} (h:Rd n r p) (hl:r.T.ak.length≤2300) {up:Nat} (hs:Sp r.T.ak up) {aH to:Int} (h0:0≤aH) (fm:aH<to) (ht:to≤n) (ke:p≤to) (he:∀ e,endOf r.T.ak up=some e→e≤aH):
  ∃ r',lS F r (up:Int) aH to=some ((r.T.ak.length:Int),r')∧Rd n r' to∧To r r' up 2 0∧Sp r'.T.ak r.T.ak.length∧(to - aH<2→r'.T.ak.length≤r.T.ak.length+1):=by
 have hn:=h.nl
 have dg:=h.ri.n
 have o3:=hs.lt h.g
 obtain ⟨r1,a1,J,ad,ae,ay,ah,z,hz,nS,nO⟩:=iG F hF h (by omega) hs (kind:=6) (by omega) (Int.le_of_lt fm) ht ke he
 unfold lS
 rw [a1]
 simp only [Option.bind_some]
 have hw:af (to - aH)=to - aH:=a8 (by omega) (by omega)
 rw [hw]
 by_cases c:to - aH<2
 ·rw [if_pos c]
  exact ⟨r1,rfl,J,ad.le (by omega) (by omega),ae,fun _=>by omega⟩
 rw [if_neg c]
 have aa:=ad.l
 have key:∀ (d m:Nat) (k i:Int),aH≤i→i≤to→(to - i).toNat≤d→d<m→(1≤k∧k≤11)→∃ k' i',correctorref11_Reader_Pair_l0 F r (up:Int) aH to m r1 (r.T.ak.length:Int) k i=some (r1,(r.T.ak.length:Int),k')∧(1≤k'∧k'≤11)∧i'=i:=by
  intro d
  induction d with
  | zero=>
   intro m k i h1 h2 ai aj ab
   obtain ⟨m,rfl⟩:∃ q,m=q+1:=⟨m - 1,by omega⟩
   rw [correctorref11_Reader_Pair_l0,if_neg (by omega)]
   exact ⟨k,i,rfl,ab,rfl⟩
  | succ d ih=>
   intro m k i h1 h2 ai aj ab
   obtain ⟨m,rfl⟩:∃ q,m=q+1:=⟨m - 1,by omega⟩
   rw [correctorref11_Reader_Pair_l0]
   by_cases c0:i<to
   case neg=>rw [if_neg c0];exact ⟨k,i,rfl,ab,rfl⟩
   have dq:i.toNat<r1.L.length:=by rw [aa];omega
   rw [if_pos c0,if_pos (by rw [aa];omega),List.getElem?_eq_getElem dq,w1 (by omega) (by omega)]
   simp only [Option.bind_some]
   split
   ·simp only [Option.bind_some]
    obtain ⟨k',i',U,I,_⟩:=ih m 8 (i+1) (by omega) (by omega) (by omega) (by omega) (by omega)
    exact ⟨k',i,U,I,rfl⟩
   ·simp only [Option.bind_some]
    obtain ⟨k',i',U,I,_⟩:=ih m k (i+1) (by omega) (by omega) (by omega) (by omega) ab
    exact ⟨k',i,U,I,rfl⟩
 obtain ⟨k',_,an,ao,_⟩:=key (to - aH).toNat F 7 aH (Int.le_refl _) (by omega) (Nat.le_refl _) (by omega) (by omega)
 rw [an]
 simp only [Option.bind_some]
 obtain ⟨j,aq,az,aA,_⟩:=oZ F hF r1 J.ri.n (to - 1) (aH+1) (by omega) (by omega) (by rw [aa];omega)
 rw [jI (by omega) (by omega),w1 (by omega) (by omega),aq]
 simp only [Option.bind_some]
 obtain ⟨N',U,I⟩:=uZ F hF r1 J.g (by omega) (up:=r.T.ak.length) (by omega) ae (kind:=k') (aH:=aH) (to:=j) ao (by omega) (by omega) (fun e he=>by rw [rh hz nO e he,nS];exact Int.le_refl _)
 rw [U]
 simp only [Option.bind_some]
 have kc:Rd n (⟨r1.L,⟨N'⟩,r1.D,r1.End⟩:Rr) to:=⟨J.ri.of rfl rfl,by show n=(r1.L.length:Int);rw [aa];exact hn,I.g,I.ud _ J.b (by omega)⟩
 have hlen:N'.length=r.T.ak.length+2:=by rw [I.len,ah]
 obtain ⟨ar,au,av,aw,aB,_⟩:=vA F kc (i:=r.T.ak.length) (by show N'.length≤2500;omega) (by show r.T.ak.length<N'.length;omega)
 rw [au]
 have ax:To r1 (⟨r1.L,⟨N'⟩,r1.D,r1.End⟩:Rr) r.T.ak.length 1 0:=⟨rfl,rfl,by show (N'.length:Int)≤_;rw [I.len];omega,by show _≤N'.length;rw [I.len];omega,by show (r1.D.length:Int)≤_;omega,I.cK⟩
 have ag:=ax.trans (aw r.T.ak.length) (Nat.le_refl _)
 exact ⟨ar,rfl,av,(ad.trans ag (by omega)).le (by omega) (by omega),ag.sp _ (Nat.le_refl _) ae,fun q=>absurd q c⟩
end Go.Proofs.Ytcilejikekccmaa.M
namespace Go.Proofs.Ytcilejikekccmaa.M
open Go Am Sy
abbrev Rec:=Rr→Int→Int→Int→Option (Int×Int×Rr)
def bg (k:Int):Prop:=k=12∨k=14∨k=15∨k=16∨k=17∨k=13∨k=8∨k=9∨k=18
def Vl (n:Int) (r:Rr) (up:Nat) (at_:Int) (node next:Int) (r':Rr):Prop:=
  (node= -1∧next=at_∧r'=r∧¬ bg (kd r at_))∨(0≤node∧at_<next∧next≤r.End∧Rd n r' next∧To r r' up (2 * (next - at_) - 1) (4 * (next - at_))∧Ct r.L next)
def VS (rec:Rec) (depth:Int):Prop:=
  ∀ (n:Int) (r:Rr) (up:Nat) (at_:Int),Rd n r (at_+1)→(∀ e,endOf r.T.ak up=some e→e≤at_)→Sp r.T.ak up→0≤at_→at_≤r.End→(r.T.ak.length:Int)≤4 * at_+5→(r.D.length:Int)≤4 * at_+5→
    ∃ node next r',rec r (up:Int) at_ depth=some (node,next,r')∧Vl n r up at_ node next r'
theorem DM (F:Nat) (hF:2500≤F) (rec:Rec) (depth:Int) (s5: -1000≤depth∧depth≤1000) (je:VS rec (depth - 1)) {n:Int} {r:Rr} {i:Int} (h:Rd n r i) (h0:0≤i) (h2:i<r.End) {c:Nat} (hs:Sp r.T.ak c) (hN:(r.T.ak.length:Int)≤4 * i+4) (hd:(r.D.length:Int)≤4 * i+4) {q:Int} (hq:iC F r i=some q) (hb:0<q∨bg (kd r i)):
    ∃ next r',gY F rec r (c:Int) i depth=some (next,r')∧i<next∧next≤r.End∧Rd n r' next∧To r r' c (2 * (next - i)) (4 * (next - i))∧Ct r.L next:=by
  have ax:=h.ri.e1
  have dg:=h.ri.n
  have hn:=h.nl
  have o3:=hs.lt h.g
  have qZ:af (depth - 1)=depth - 1:=a8 (by omega) (by omega)
  have jS:=h.endOf h0 c (Int.le_refl i)
  obtain ⟨q',ae,au⟩:=tU F hF r h.ri i h0 (by omega)
  rw [hq] at ae;simp only [Option.some.injEq] at ae;subst ae
  unfold gY
  rw [hq]
  simp only [Option.bind_some]
  by_cases c0:0<q
  · rw [if_pos c0]
    have ez:i<q∧q≤r.End:=by omega
    obtain ⟨r1,a1,I,j,ag,ao⟩:=vo F hF h (by omega) hs h0 ez.1 (by omega) (by omega) jS
    have av:=j.e
    have b1:=j.sz
    have fT:=j.dl
    obtain ⟨x,ah,ai,aj,_⟩:=nL F hF r1 I.ri q (by omega) (by omega)
    rw [a1]
    simp only [Option.bind_some,ah,fj F r1 I.ri x (by omega),oh,decide_eq_true_eq]
    have su:To r r1 c (2 * (q - i)) (4 * (q - i)):=by
      refine ⟨j.l,j.e,?_,j.ge,by omega,j.sp⟩
      by_cases z:q - i<2
      · have:=ao z;omega
      · omega
    have stay:∃ next r',(some (q,r1):Option (Int×Rr))=some (next,r')∧i<next∧next≤r.End∧Rd n r' next∧To r r' c (2 * (next - i)) (4 * (next - i))∧Ct r.L next:=⟨q,r1,rfl,ez.1,ez.2,I,su,by rcases au with z | z;omega;exact z.2.2⟩
    by_cases c1:kd r1 x=0
    · rw [if_pos c1];exact stay
    rw [if_neg c1]
    by_cases c2:kd r1 x=7
    · rw [if_pos c2];exact stay
    rw [if_neg c2]
    by_cases aq:kd r1 x=10∨kd r1 x=11
    · rw [if_pos aq];exact stay
    rw [if_neg aq,qZ]
    have iN:=fz c1
    obtain ⟨node,next,ab,d1,d2⟩:=je n r1 r.T.ak.length x (I.mono (by omega)) (fun e he=>Int.le_trans (sy I.g I.b (by omega) _ e he) ai) ag (by omega) (by omega) (by omega) (by omega)
    rw [d1]
    simp only [Option.bind_some]
    rcases d2 with ⟨rfl,rfl,rfl,_⟩ | ⟨e1,ad,ar,J,U,aa⟩
    · rw [if_pos (by omega)];exact stay
    · rw [if_neg (by omega)]
      exact ⟨next,ab,rfl,by omega,by omega,J,(su.trans U (by omega)).le (by omega) (by omega),by rw [← j.l];exact aa⟩
  · rw [if_neg c0]
    have nr:bg (kd r i):=by rcases hb with z | z;exact absurd z c0;exact z
    have c4:(c:Int)<r.T.ak.length:=by omega
    rw [if_pos ⟨by omega,c4⟩,Int.toNat_natCast,List.getElem?_eq_getElem o3]
    simp only [Option.bind_some]
    by_cases c1:r.T.ak[c].Kind=10
    · rw [if_pos c1,w1 h0 (by omega)]
      obtain ⟨r1,a1,I,j,ag,ao,ay,z,hz,nS,nO⟩:=iG F hF h (by omega) hs (kind:=6) (aH:=i) (to:=i+1) (by omega) (by omega) (by omega) (by omega) jS
      have b1:=j.sz
      obtain ⟨ab,ah,ai,aj,az,aw⟩:=vA F I (i:=r.T.ak.length) (by omega) (by omega)
      have t12:=j.trans (aj c) (Nat.le_refl _)
      have iJ:kd ab i=kd r i:=by unfold kd;rw [t12.l,t12.e]
      have fT:=t12.dl
      have av:=t12.e
      rw [a1]
      simp only [Option.bind_some,ah,qZ]
      obtain ⟨node,next,an,d1,d2⟩:=je n ab r.T.ak.length i ai (fun e he=>by rw [aw,] at he;rw [rh hz nO e he,nS];exact Int.le_refl _) ((aj r.T.ak.length).sp _ (Nat.le_refl _) ag) h0 (by omega) (by omega) (by omega)
      rw [d1]
      simp only [Option.bind_some]
      rcases d2 with ⟨_,_,_,e1⟩ | ⟨e1,ad,ar,J,U,aa⟩
      · rw [iJ] at e1;exact absurd nr e1
      · exact ⟨next,an,rfl,ad,by omega,J,(t12.trans U (by omega)).le (by omega) (by omega),by rw [← t12.l];exact aa⟩
    · rw [if_neg c1]
      simp only [Option.bind_some,qZ]
      obtain ⟨node,next,an,d1,d2⟩:=je n r c i (h.mono (by omega)) jS hs h0 (by omega) (by omega) (by omega)
      rw [d1]
      simp only [Option.bind_some]
      rcases d2 with ⟨_,_,_,e1⟩ | ⟨e1,ad,ar,J,U,aa⟩
      · exact absurd nr e1
      · exact ⟨next,an,rfl,ad,by omega,J,U.le (by omega) (by omega),aa⟩
theorem Cy {F:Nat} {k:Int} {b:Bool} (h:jb F k=some b) (hb:b=true):bg k:=by
  subst hb
  unfold jb at h
  unfold bg
  by_cases c1:k=12
  · omega
  by_cases c2:k=14
  · omega
  rw [if_neg c1,if_neg c2] at h
  unfold fb at h
  by_cases d1:k=15
  · omega
  by_cases d2:k=16
  · omega
  by_cases d3:k=17
  · omega
  by_cases d4:k=13
  · omega
  rw [if_neg d1,if_neg d2,if_neg d3,if_neg d4] at h
  simp only [Option.bind_some,Bool.false_eq_true,if_false,nt,decide_eq_true_eq] at h
  by_cases e1:k=8∨k=9
  · omega
  rw [if_neg e1] at h
  by_cases j:k=18
  · omega
  rw [if_neg j] at h
  simp at h
theorem An (F:Nat) (k:Int):∃ b,jb F k=some b:=by
  unfold jb
  obtain ⟨b,hb⟩:=ot F k
  rw [hb]
  simp only [Option.bind_some,nt]
  repeat' split
  all_goals exact ⟨_,rfl⟩
theorem EH (F:Nat) (hF:2500≤F) (rec:Rec) (depth:Int) (aC: -1000≤depth∧depth≤1000) (je:VS rec (depth - 1)) {n:Int} (a0:Rr) (op:Int) (c:Nat) (aD:0≤op):
    ∀ (d m:Nat) (r:Rr) (next dL:Int) (hv:Bool),(dL=10∨dL=11)→(r.End - next).toNat≤d→d<m→Rd n r next→op<next→next≤r.End→Sp r.T.ak c→(r.T.ak.length:Int)≤4 * next+4→(r.D.length:Int)≤4 * next+3→Ct r.L next→
    ∃ q r',correctorref11_Reader_collection_l0 F rec a0 (c:Int) op depth m r hv next dL=some (q,r')∧next≤q∧q≤r.End∧Rd n r' q∧To r r' c (2 * (q - next)) (4 * (q - next)+1)∧Ct r.L q:=by
  have stop:∀ (m:Nat) (r:Rr) (next dL:Int) (hv:Bool) (j:Int),Rd n r next→op<next→next≤r.End→(r.D.length:Int)≤4 * next+3→Ct r.L next→ic F r next=some j→kd r j=0→next≤j→
      ∃ q r',correctorref11_Reader_collection_l0 F rec a0 (c:Int) op depth (m+1) r hv next dL=some (q,r')∧next≤q∧q≤r.End∧Rd n r' q∧To r r' c (2 * (q - next)) (4 * (q - next)+1)∧Ct r.L q:=by
    intro m r next dL hv j h h1 h2 hd hc hj hk Fi
    have ax:=h.ri.e1
    have dg:=h.ri.n
    have rM:op.toNat<r.L.length:=by omega
    rw [correctorref11_Reader_collection_l0,hj]
    simp only [Option.bind_some,fj F r h.ri j (by omega),hk,if_true]
    rw [if_pos (by omega),List.getElem?_eq_getElem rM]
    simp only [Option.bind_some]
    rw [if_pos (by omega)]
    rw [if_pos (by rw [List.length_singleton];omega),w1 aD (by omega)]
    obtain ⟨q,aE,aV,aW,aX,aF⟩:=oZ F hF (⟨r.L,r.T,r.D++[(⟨9,r.L[op.toNat].ai,r.L[op.toNat].To⟩:aj)],r.End⟩:Rr) dg next (op+1) (by omega) (by omega) (by show next≤(r.L.length:Int);omega)
    have hq:q=next:=by
      rcases Int.lt_or_eq_of_le (show op+1≤next by omega) with z | z
      · exact aF z hc
      · omega
    subst hq
    rw [aE]
    simp only [Option.bind_some]
    refine ⟨q,_,rfl,Int.le_refl _,h2,⟨h.ri.of rfl rfl,h.nl,h.g,h.b⟩,⟨rfl,rfl,by show (r.T.ak.length:Int)≤_;omega,Nat.le_refl _,?_,fun v _ z=>z⟩,hc⟩
    show ((r.D++_).length:Int)≤_
    rw [List.length_append,List.length_singleton];omega
  intro d
  induction d with
  | zero=>
    intro m r next dL hv sN hd hm h aq ar hs hN fT hc
    obtain ⟨m,rfl⟩:∃ k,m=k+1:=⟨m - 1,by omega⟩
    have ax:=h.ri.e1
    have dg:=h.ri.n
    obtain ⟨i,ao,J,aG,ay⟩:=nL F hF r h.ri next (by omega) (by omega)
    exact stop m r next dL hv i h aq ar fT hc ao (h9 (by omega)) J
  | succ d ih=>
    intro m r next dL hv sN hd hm h aq ar hs hN fT hc
    obtain ⟨m,rfl⟩:∃ k,m=k+1:=⟨m - 1,by omega⟩
    have ax:=h.ri.e1
    have dg:=h.ri.n
    have j5:=h.nl
    have o3:=hs.lt h.g
    obtain ⟨i,ao,J,aG,ay⟩:=nL F hF r h.ri next (by omega) (by omega)
    by_cases c0:kd r i=0
    · exact stop m r next dL hv i h aq ar fT hc ao c0 J
    have ow:=fz c0
    have fU:=ay c0
    have eP:0<kd r i:=by have:=xw h.ri i;omega
    have fC:Ct r.L (i+1):=Ct.of h.ri (by omega) rfl c0 fU
    have hi:=h.mono J
    have nV:=h.endOf (by omega) c J
    have hw:af (i+1)=i+1:=w1 (by omega) (by omega)
    rw [correctorref11_Reader_collection_l0,ao]
    simp only [Option.bind_some,fj F r h.ri i (by omega),oh,decide_eq_true_eq,hw]
    rw [if_neg c0]
    have go:∀ (next':Int) (r1:Rr) (b:Bool),i<next'→next'≤r.End→Rd n r1 next'→To r r1 c (2 * (next' - i)) (4 * (next' - i))→Ct r.L next'→∃ q r',correctorref11_Reader_collection_l0 F rec a0 (c:Int) op depth m r1 b next' dL=some (q,r')∧next≤q∧q≤r.End∧Rd n r' q∧To r r' c (2 * (q - next)) (4 * (q - next)+1)∧Ct r.L q:=by
      intro next' r1 b au az av I aI
      have e1:=I.e
      have s1:=I.sz
      have s2:=I.dl
      obtain ⟨q,r',w1,w2,aY,aJ,aK,aL⟩:=ih m r1 next' dL b sN (by omega) (by omega) av (by omega) (by omega) (I.sp c (Nat.le_refl _) hs) (by omega) (by omega) (by rw [I.l];exact aI)
      exact ⟨q,r',w1,by omega,by omega,aJ,(I.trans aK (Nat.le_refl _)).le (by omega) (by omega),by rw [← I.l];exact aL⟩
    have o0:∀ (j:Int) (b:Bool),i<j→j≤r.End→Ct r.L j→∃ q r',((ea F r (c:Int) i j 8).bind fun aM=>correctorref11_Reader_collection_l0 F rec a0 (c:Int) op depth m aM.2 b j dL)=some (q,r')∧next≤q∧q≤r.End∧Rd n r' q∧To r r' c (2 * (q - next)) (4 * (q - next)+1)∧Ct r.L q:=by
      intro j b au az av
      obtain ⟨r1,U,aa,ab,_⟩:=mC F hF h (by omega) (by omega) hs (code:=8) (aH:=i) (to:=j) (by omega) au (by omega) (by omega) nV
      rw [U]
      simp only [Option.bind_some]
      exact go j r1 b au az aa (ab.le (by omega) (by omega)) av
    have uN:∀ q:Int,iC F r i=some q→(0<q∨bg (kd r i))→∃ q r',((gY F rec r (c:Int) i depth).bind fun ad=>correctorref11_Reader_collection_l0 F rec a0 (c:Int) op depth m ad.2 true ad.1 dL)=some (q,r')∧next≤q∧q≤r.End∧Rd n r' q∧To r r' c (2 * (q - next)) (4 * (q - next)+1)∧Ct r.L q:=by
      intro q hq hb
      obtain ⟨nx,r1,U,aa,ab,aw,aO,aP⟩:=DM F hF rec depth aC je hi (by omega) ow hs (by omega) (by omega) hq hb
      rw [U]
      simp only [Option.bind_some]
      exact go nx r1 true aa ab aw aO aP
    have Fw:∀ {α:Type} (f:cG→Option α) (P:α→Prop),(∀ t',Rd n (⟨r.L,t',r.D,r.End⟩:Rr) (i+1)→To r (⟨r.L,t',r.D,r.End⟩:Rr) c 0 0→∃ a,f t'=some a∧P a)→∃ a,((h6 F r.T (c:Int) (i+1)).bind f)=some a∧P a:=by
      intro α f P hf
      obtain ⟨t',ae,ag,ah⟩:=px F hF h (by omega) hs (to:=i+1) (by omega) (by omega)
      rw [ae]
      exact hf t' ag (ah c)
    by_cases c1:kd r i=dL
    · rw [if_pos c1]
      obtain ⟨t',ae,ag,ah⟩:=px F hF h (by omega) hs (to:=i+1) (by omega) (by omega)
      rw [ae]
      simp only [Option.bind_some]
      exact ⟨i+1,_,rfl,by omega,by omega,ag,(ah c).le (by omega) (by omega),fC⟩
    rw [if_neg c1]
    by_cases c2:kd r i=10∨kd r i=11
    · rw [if_pos c2]
      exact o0 (i+1) hv (by omega) (by omega) fC
    rw [if_neg c2]
    obtain ⟨kq,r6,_⟩:=tU F hF r h.ri i (by omega) (by omega)
    obtain ⟨bb,kv⟩:=An F (kd r i)
    have tail:kd r i≠7→∃ q r',(if hv=true then
         (kL F r i).bind fun aA=>
         (ea F r (c:Int) i aA 8).bind fun aQ=>
         correctorref11_Reader_collection_l0 F rec a0 (c:Int) op depth m aQ.2 hv aA dL
        else
         (iC F r i).bind fun aR=>
         if (0:Int)<aR then
          (gY F rec r (c:Int) i depth).bind fun ad=>
          correctorref11_Reader_collection_l0 F rec a0 (c:Int) op depth m ad.2 true ad.1 dL
         else
          (jb F (kd r i)).bind fun aS=>
          if aS=true then
           (gY F rec r (c:Int) i depth).bind fun aB=>
           correctorref11_Reader_collection_l0 F rec a0 (c:Int) op depth m aB.2 true aB.1 dL
          else
           (ea F r (c:Int) i (i+1) 8).bind fun aU=>
           correctorref11_Reader_collection_l0 F rec a0 (c:Int) op depth m aU.2 hv (i+1) dL)=some (q,r')∧next≤q∧q≤r.End∧Rd n r' q∧To r r' c (2 * (q - next)) (4 * (q - next)+1)∧Ct r.L q:=by
      intro an
      cases hv with
      | true=>
        simp only [if_true]
        obtain ⟨j,U,aa,ab,aw⟩:=DS F hF r h.ri i (by omega) eP fU an c2
        rw [U]
        simp only [Option.bind_some]
        exact o0 j true aa ab aw
      | false=>
        simp only [Bool.false_eq_true,if_false,r6,Option.bind_some]
        by_cases k0:0<kq
        · rw [if_pos k0];exact uN kq r6 (.inl k0)
        rw [if_neg k0,kv]
        simp only [Option.bind_some]
        by_cases b0:bb=true
        · rw [if_pos b0];exact uN kq r6 (.inr (Cy kv b0))
        · rw [if_neg b0];exact o0 (i+1) false (by omega) (by omega) fC
    by_cases an:kd r i=7
    · simp only [if_pos an]
      cases hv with
      | true=>
        simp only [if_true]
        obtain ⟨t',ae,ag,ah⟩:=px F hF h (by omega) hs (to:=i+1) (by omega) (by omega)
        rw [ae]
        simp only [Option.bind_some]
        exact go (i+1) _ false (by omega) (by omega) ag ((ah c).le (by omega) (by omega)) fC
      | false=>
        simp only [Bool.false_eq_true,if_false]
        exact o0 (i+1) false (by omega) (by omega) fC
    · simp only [if_neg an]
      exact tail an
end Go.Proofs.Ytcilejikekccmaa.M
namespace Go.Proofs.Ytcilejikekccmaa.M
open Go Am Sy
theorem zw (F:Nat) (hF:2500≤F) (rec:Rec) (depth:Int) (j: -1000≤depth∧depth≤1000) (je:VS rec (depth - 1)) {n:Int} {r:Rr} {op:Int} (h:Rd n r (op+1)) (h0:0≤op) (h1:op<r.End) (hk:kd r op=8∨kd r op=9) {c:Nat} (hs:Sp r.T.ak c) (hN:(r.T.ak.length:Int)≤4 * op+8) (hd:(r.D.length:Int)≤4 * op+7):
  ∃ q r',lf F rec r (c:Int) op depth=some (q,r')∧op<q∧q≤r.End∧Rd n r' q∧To r r' c (2 * (q - (op+1))) (4 * (q - (op+1))+1)∧Ct r.L q:=by
 have ad:=h.ri.e1
 have dg:=h.ri.n
 have rM:op.toNat<r.L.length:=by omega
 have ru:Ct r.L (op+1):=by rcases hk with z | z<;>exact Ct.of h.ri h0 z (by decide) rfl
 have main:∀ dL:Int,(dL=10∨dL=11)→∃ q r',((correctorref11_Reader_collection_l0 F rec r (c:Int) op depth F r false (af (op+1)) dL).bind fun o=>match o with
   | y=>some y)=some (q,r')∧op<q∧q≤r.End∧Rd n r' q∧To r r' c (2 * (q - (op+1))) (4 * (q - (op+1))+1)∧Ct r.L q:=by
  intro dL hm
  obtain ⟨q,r',I,ae,J,U,aa,ab⟩:=EH F hF rec depth j je r op c h0 (r.End - (op+1)).toNat F r (op+1) dL false hm (Nat.le_refl _) (by omega) h (by omega) (by omega) hs (by omega) (by omega) ru
  rw [w1 h0 (by omega),I]
  exact ⟨q,r',rfl,by omega,J,U,aa,ab⟩
 unfold lf
 rw [if_pos (by omega),List.getElem?_eq_getElem rM]
 simp only [Option.bind_some]
 split
 ·simp only [Option.bind_some];exact main 11 (.inr rfl)
 ·simp only [Option.bind_some];exact main 10 (.inl rfl)
theorem tz (F:Nat) (hF:2500≤F) (rec:Rec) (depth:Int) (aw: -1000≤depth∧depth≤1000) (je:0<depth→VS rec (depth - 1)):VS (mX F rec) depth:=by
 intro n r up at_ h jS hs h0 e6 hN hd
 have aR:=h.ri.e1
 have dg:=h.ri.n
 have j5:=h.nl
 have o3:=hs.lt h.g
 obtain ⟨i0,ax,ay,aS,az⟩:=td F hF r h.ri at_ h0 (by omega)
 have key:∀ (d m:Nat) (i first last:Int),i0≤i→i≤1600→(r.End - i).toNat≤d→d<m→((first= -1∧i=i0)∨(first=i0∧i0≤last∧last<r.End∧Ct r.L (last+1)))→
   ∃ i' ft iM,correctorref11_Reader_Value_l0 F rec r (up:Int) at_ depth m i first last=some (i',ft,iM)∧i0≤i'∧i'≤1600∧((ft= -1∧i'=i0∧kd r i0≠12∧kd r i0≠14)∨(ft=i0∧i0≤iM∧iM<r.End∧Ct r.L (iM+1))):=by
  intro d
  induction d with
  | zero=>
   intro m i first last hi ae s5 hm hl
   obtain ⟨m,rfl⟩:∃ k,m=k+1:=⟨m - 1,by omega⟩
   have aa:=fj F r h.ri i (by omega)
   rw [h9 (by omega)] at aa
   rw [correctorref11_Reader_Value_l0]
   simp only [aa,Option.bind_some]
   refine ⟨i,first,last,rfl,hi,ae,?_⟩
   rcases hl with ⟨U,rfl⟩ | z
   ·exact .inl ⟨U,rfl,by rw [h9 (by omega)];decide,by rw [h9 (by omega)];decide⟩
   ·exact .inr z
  | succ d ih=>
   intro m i first last hi ae s5 hm hl
   obtain ⟨m,rfl⟩:∃ k,m=k+1:=⟨m - 1,by omega⟩
   have aa:=fj F r h.ri i (by omega)
   have mj:(if first<(0:Int) then (some i:Option Int) else some first)=some i0:=by
    rcases hl with ⟨rfl,rfl⟩ | ⟨rfl,_⟩
    ·rfl
    ·rw [if_neg (by omega)]
   have go:(kd r i=12∨kd r i=14)→∃ i' ft iM,(((if first<(0:Int) then (some i:Option Int) else some first).bind fun o=>match o with
     | aA=>(kf F r (af (i+1))).bind fun aB=>
     correctorref11_Reader_Value_l0 F rec r (up:Int) at_ depth m aB aA i):Option (Int×Int×Int))=some (i',ft,iM)∧i0≤i'∧i'≤1600∧((ft= -1∧i'=i0∧kd r i0≠12∧kd r i0≠14)∨(ft=i0∧i0≤iM∧iM<r.End∧Ct r.L (iM+1))):=by
    intro c
    have eQ:=fz (r:=r) (i:=i) (by omega)
    obtain ⟨j,aC,aU,aV,_⟩:=td F hF r h.ri (i+1) (by omega) (by omega)
    rw [mj,w1 (by omega) (by omega),aC]
    simp only [Option.bind_some]
    exact ih m j i0 i (by omega) (by omega) (by omega) (by omega) (.inr ⟨rfl,hi,eQ,by rcases c with c | c<;>exact Ct.of h.ri (by omega) c (by decide) rfl⟩)
   rw [correctorref11_Reader_Value_l0]
   simp only [aa,Option.bind_some]
   by_cases c:kd r i=12
   ·simp only [if_pos c,Option.bind_some];exact go (.inl c)
   rw [if_neg c]
   by_cases c':kd r i=14
   ·simp only [if_pos c',Option.bind_some];exact go (.inr c')
   simp only [if_neg c',Option.bind_some]
   refine ⟨i,first,last,rfl,hi,ae,?_⟩
   rcases hl with ⟨U,rfl⟩ | z
   ·exact .inl ⟨U,rfl,c,c'⟩
   ·exact .inr z
 obtain ⟨i,first,last,aD,aW,aX,ao⟩:=key (r.End - i0).toNat F i0 (-1) 0 (Int.le_refl _) (by omega) (Nat.le_refl _) (by omega) (.inl ⟨rfl,rfl⟩)
 have qi:(if (0:Int)≤first then (some first:Option Int) else some i)=some i0:=by
  rcases ao with ⟨rfl,rfl,_⟩ | ⟨rfl,_⟩
  ·rfl
  ·rw [if_pos (by omega)]
 unfold mX
 rw [ax]
 simp only [Option.bind_some,aD,qi,fj F r h.ri i (by omega),nt,decide_eq_true_eq]
 have nV:∀ e,endOf r.T.ak up=some e→e≤i0:=fun e he=>Int.le_trans (jS e he) ay
 have put:∀ (kind to:Int),(1≤kind∧kind≤11)→i0<to→to≤r.End→Ct r.L to→∃ node next r',((eA F r (up:Int) kind i0 to).bind fun aq=>some (aq.1,to,aq.2))=some (node,next,r')∧Vl n r up at_ node next r':=by
  intro kind to U aE ag ab
  obtain ⟨r1,a1,ah,I,_⟩:=iG F hF h (by omega) hs (kind:=kind) (aH:=i0) (to:=to) U (by omega) (by omega) (by omega) nV
  rw [a1]
  exact ⟨_,to,r1,rfl, .inr ⟨by omega,by omega,ag,ah,I.le (by omega) (by omega),ab⟩⟩
 have eQ:kd r i≠0→af (i+1)=i+1∧i+1≤r.End∧i0<i+1:=fun q=>by
  have:=fz q
  exact ⟨w1 (by omega) (by omega),by omega,by omega⟩
 by_cases ad:kd r i=13
 ·rw [if_pos ad]
  obtain ⟨w0,w2,ai⟩:=eQ (by omega)
  rw [w0]
  exact put 8 (i+1) (by omega) ai w2 (Ct.of h.ri (by omega) ad (by decide) rfl)
 rw [if_neg ad]
 obtain ⟨b,hb⟩:=ot F (kd r i)
 rw [hb]
 simp only [Option.bind_some]
 have mu:b=true→kd r i=15∨kd r i=16∨kd r i=17:=by
  rintro rfl
  unfold fb at hb
  by_cases d1:kd r i=15
  ·exact .inl d1
  by_cases d2:kd r i=16
  ·exact .inr (.inl d2)
  by_cases d3:kd r i=17
  ·exact .inr (.inr d3)
  rw [if_neg d1,if_neg d2,if_neg d3,if_neg ad] at hb
  simp at hb
 by_cases cb:b=true
 ·rw [if_pos cb]
  have hk:=mu cb
  obtain ⟨w0,w2,ai⟩:=eQ (by omega)
  rw [w0]
  exact put 7 (i+1) (by omega) ai w2 (by rcases hk with z | z | z<;>exact Ct.of h.ri (by omega) z (by decide) rfl)
 rw [if_neg cb]
 by_cases aj:kd r i=18
 ·rw [if_pos aj]
  have ow:=fz (r:=r) (i:=i) (by omega)
  obtain ⟨j,t1,t2,t3,t4⟩:=vW F hF r h.ri i (by omega) ow (Ct.of h.ri (by omega) aj (by decide) rfl)
  rw [t1]
  simp only [Option.bind_some]
  exact put 7 j (by omega) (by omega) t3 t4
 rw [if_neg aj]
 by_cases J:kd r i=8∨kd r i=9
 ·have ow:=fz (r:=r) (i:=i) (by omega)
  by_cases ar:depth≤0
  ·rw [if_pos J,if_pos ar]
   simp only [Option.bind_some,if_true]
   obtain ⟨j,t1,t2,t3,t4⟩:=balanced_ex F hF r h.ri i (by omega) J
   rw [t1]
   simp only [Option.bind_some]
   obtain ⟨r1,aF,aG,aI,_⟩:=mC F hF h (by omega) (by omega) hs (code:=10) (aH:=i0) (to:=j) (by omega) (by omega) (by omega) (by omega) nV
   rw [aF]
   exact ⟨_,_,_,rfl, .inr ⟨by omega,by omega,t3,aG,aI.le (by omega) (by omega),t4⟩⟩
  ·rw [if_pos J,if_neg ar]
   simp only [Option.bind_some,Bool.false_eq_true,if_false,if_pos J]
   have main:∀ kind:Int,(1≤kind∧kind≤11)→∃ node next r',((eA F r (up:Int) kind i0 (af (i+1))).bind fun an=>
     (lf F rec an.2 an.1 i depth).bind fun au=>some (an.1,au.1,au.2))=some (node,next,r')∧Vl n r up at_ node next r':=by
    intro kind na
    obtain ⟨r1,a1,ah,I,aJ,aK,aY,_⟩:=iG F hF h (by omega) hs (kind:=kind) (aH:=i0) (to:=i+1) na (by omega) (by omega) (by omega) nV
    have iJ:kd r1 i=kd r i:=by unfold kd;rw [I.l,I.e]
    have aZ:=I.e
    obtain ⟨q,aL,aM,a0,a2,aO,aP,aQ⟩:=zw F hF rec depth aw (je (by omega)) ah (by omega) (by omega) (by rw [iJ];exact J) aJ (by omega) (by rw [aK];omega)
    rw [w1 (by omega) (by omega),a1]
    simp only [Option.bind_some,aM]
    exact ⟨_,q,aL,rfl, .inr ⟨by omega,by omega,by omega,aO,(I.trans aP (by omega)).le (by omega) (by omega),by rw [← I.l];exact aQ⟩⟩
   by_cases av:kd r i=9
   ·rw [if_pos av];simp only [Option.bind_some];exact main 10 (by omega)
   ·rw [if_neg av];simp only [Option.bind_some];exact main 9 (by omega)
 ·simp only [if_neg J,Option.bind_some,Bool.false_eq_true,if_false]
  rcases ao with ⟨rfl,rfl,ag,ab⟩ | ⟨rfl,aE,ag,ab⟩
  ·rw [if_neg (by omega)]
   refine ⟨_,_,_,rfl, .inl ⟨rfl,rfl,rfl,fun nr=>?_⟩⟩
   have bU:kd r at_≠0∧kd r at_≠3:=by unfold bg at nr;omega
   have e:=az bU.1 bU.2
   subst e
   unfold bg at nr
   have a3:¬ (kd r i=15∨kd r i=16∨kd r i=17):=fun q=>by
    unfold fb at hb
    rcases q with q | q | q<;>rw [q] at hb<;>simp at hb<;>exact cb hb
   omega
  ·rw [if_pos (by omega),w1 (by omega) (by omega)]
   exact put 7 (last+1) (by omega) (by omega) (by omega) ab
theorem zT (F:Nat) (hF:2500≤F):∀ (j:Nat) (k:Nat) (depth:Int), -1000≤depth→depth≤j→j≤1000→j+1≤k→VS (oQ F k) depth:=by
 intro j
 induction j with
 | zero=>
  intro k depth h0 h1 h2 I
  obtain ⟨k,rfl⟩:∃ m,k=m+1:=⟨k - 1,by omega⟩
  exact tz F hF _ depth (by omega) (fun q=>by omega)
 | succ j ih=>
  intro k depth h0 h1 h2 I
  obtain ⟨k,rfl⟩:∃ m,k=m+1:=⟨k - 1,by omega⟩
  exact tz F hF _ depth (by omega) (fun q=>ih k (depth - 1) (by omega) (by omega) (by omega) (by omega))
theorem wV (F:Nat) (hF:2500≤F) (depth:Int) (h0: -500≤depth) (h1:depth≤100):VS (r7 F) depth:=zT F hF 100 F depth (by omega) (by omega) (by omega) (by omega)
end Go.Proofs.Ytcilejikekccmaa.M
namespace Go.Proofs.Ytcilejikekccmaa.M
open Go Am Sy
abbrev Pp:=aV
def Tl:Int→List an→Prop
 | _,[]=>True
 | f,r::rs=>r.ai=f∧Tl r.To rs
structure RO (L:List al) (rs:List an):Prop where
 gh:∀ r∈rs,0≤r.ai∧r.ai<r.To∧r.To≤L.length
 tX:∀ x:Int,0≤x→x<L.length→∃ (i:Nat) (r:an),rs[i]?=some r∧x<r.To
 jo:∀ r∈rs,(r.Kind=4∨r.Kind=5)→∃ (i:Int) (t:al),r.ai≤i∧i<r.To∧L[i.toNat]?=some t∧cn t.Kind=true
 len:rs.length≤450
 tl:Tl 0 rs
def FI (L:List al) (aH to a:Int):Prop:=aH≤a∧a≤to∧(∀ (i:Int) (t:al),aH≤i→i<a→L[i.toNat]?=some t→cn t.Kind=false)∧(a<to→∃ t,L[a.toNat]?=some t∧cn t.Kind=true)
theorem FI.eq {L:List al} {aH to a b:Int} (h:FI L aH to a) (k:FI L aH to b):a=b:=by
 obtain ⟨h1,h2,J,U⟩:=h
 obtain ⟨aa,ae,ab,ad⟩:=k
 rcases Int.lt_trichotomy a b with z | z | z
 ·obtain ⟨t,I,j⟩:=U (by omega)
  rw [ab a t h1 z I] at j;cases j
 ·exact z
 ·obtain ⟨t,I,j⟩:=ad (by omega)
  rw [J b t aa z I] at j;cases j
theorem kN (F:Nat) (hF:2500≤F) (p:Pp) (hn:p.R.L.length≤450) (aH to:Int) (h0:0≤aH) (h1:aH≤to) (h2:to≤p.R.L.length):
  ∃ a b,g6 F p aH to=some (a,b)∧FI p.R.L aH to a∧a≤b∧b≤to∧(a<to→a<b)∧(∀ (i:Int) (t:al),b≤i→i<to→p.R.L[i.toNat]?=some t→cn t.Kind=false):=by
 have key:∀ (d m:Nat) (x:Int),aH≤x→x≤to→(to - x).toNat≤d→d<m→(∀ (i:Int) (t:al),aH≤i→i<x→p.R.L[i.toNat]?=some t→cn t.Kind=false)→∃ a,correctorref12_parser_counting_l0 F p aH to m x=some a∧FI p.R.L aH to a:=by
  intro d
  induction d with
  | zero=>
   intro m x hx j hd hm hq
   obtain ⟨m,rfl⟩:∃ k,m=k+1:=⟨m - 1,by omega⟩
   rw [correctorref12_parser_counting_l0,if_neg (by omega)]
   exact ⟨x,rfl,hx,j,hq,fun q=>by omega⟩
  | succ d ih=>
   intro m x hx j hd hm hq
   obtain ⟨m,rfl⟩:∃ k,m=k+1:=⟨m - 1,by omega⟩
   rw [correctorref12_parser_counting_l0]
   by_cases c:x<to
   case neg=>rw [if_neg c];exact ⟨x,rfl,hx,j,hq,fun q=>absurd q c⟩
   have hl:x.toNat<p.R.L.length:=by omega
   rw [if_pos c,if_pos (by omega),List.getElem?_eq_getElem hl]
   simp only [Option.bind_some,k2]
   by_cases c1:cn p.R.L[x.toNat].Kind=true
   ·rw [if_pos c1];exact ⟨x,rfl,hx,j,hq,fun _=>⟨_,List.getElem?_eq_getElem hl,c1⟩⟩
   ·rw [if_neg c1,w1 (by omega) (by omega)]
    refine ih m (x+1) (by omega) (by omega) (by omega) (by omega) (fun i t I U J=>?_)
    rcases Int.lt_or_eq_of_le (show i≤x by omega) with z | z
    ·exact hq i t I z J
    ·subst z
     rw [List.getElem?_eq_getElem hl] at J
     simp only [Option.some.injEq] at J
     subst J;simpa using c1
 obtain ⟨a,a1,aa⟩:=key (to - aH).toNat F aH (Int.le_refl _) h1 (Nat.le_refl _) (by omega) (fun i t I U=>by omega)
 have ab:∀ (d m:Nat) (x:Int),a≤x→x≤to→(x - a).toNat≤d→d<m→(a<to→a<x)→(∀ (i:Int) (t:al),x≤i→i<to→p.R.L[i.toNat]?=some t→cn t.Kind=false)→∃ b,correctorref12_parser_counting_l1 F p aH to m a x=some (a,b)∧a≤b∧b≤to∧(a<to→a<b)∧(∀ (i:Int) (t:al),b≤i→i<to→p.R.L[i.toNat]?=some t→cn t.Kind=false):=by
  intro d
  induction d with
  | zero=>
   intro m x hx j hd hm hq hz
   obtain ⟨m,rfl⟩:∃ k,m=k+1:=⟨m - 1,by omega⟩
   rw [correctorref12_parser_counting_l1,if_neg (by omega)]
   exact ⟨x,rfl,hx,j,hq,hz⟩
  | succ d ih=>
   intro m x hx j hd hm hq hz
   obtain ⟨m,rfl⟩:∃ k,m=k+1:=⟨m - 1,by omega⟩
   rw [correctorref12_parser_counting_l1]
   by_cases c:a<x
   case neg=>rw [if_neg c];exact ⟨x,rfl,hx,j,hq,hz⟩
   have ha:=aa.1
   have hl:(x - 1).toNat<p.R.L.length:=by omega
   rw [if_pos c,jI (by omega) (by omega),if_pos (by omega),List.getElem?_eq_getElem hl]
   simp only [Option.bind_some,k2]
   by_cases c1:cn p.R.L[(x - 1).toNat].Kind=true
   ·rw [if_pos c1];exact ⟨x,rfl,hx,j,hq,hz⟩
   ·rw [if_neg c1]
    refine ih m (x - 1) (by omega) (by omega) (by omega) (by omega) (fun q=>?_) (fun i t I U J=>?_)
    rotate_left
    ·rcases Int.lt_or_eq_of_le I with z | z
     ·exact hz i t (by omega) U J
     ·subst z
      rw [List.getElem?_eq_getElem hl] at J
      simp only [Option.some.injEq] at J
      subst J;simpa using c1
    rcases Int.lt_or_eq_of_le (show a≤x - 1 by omega) with z | z
    ·exact z
    ·obtain ⟨t,I,U⟩:=aa.2.2.2 q
     rw [z,List.getElem?_eq_getElem hl] at I
     simp only [Option.some.injEq] at I
     subst I;exact absurd U c1
 obtain ⟨b,ad,ae⟩:=ab (to - a).toNat F to aa.2.1 (Int.le_refl _) (Nat.le_refl _) (by have:=aa.1;omega) (fun q=>q) (fun i t I U=>by omega)
 unfold g6
 rw [a1]
 simp only [Option.bind_some,ad]
 exact ⟨a,b,rfl,aa,ae⟩
theorem D4 (F:Nat) (hF:2500≤F) (p:Pp) (hn:p.R.L.length≤450) (aH:Int) (h0:0≤aH) (h1:aH≤p.R.L.length):∃ e,mI F p aH=some e∧aH≤e∧e≤p.R.L.length:=by
 have key:∀ (d m:Nat) (x:Int),aH≤x→x≤p.R.L.length→((p.R.L.length:Int) - x).toNat≤d→d<m→∃ e,kO F p aH m x=some e∧aH≤e∧e≤p.R.L.length:=by
  intro d
  induction d with
  | zero=>
   intro m x hx j hd hm
   obtain ⟨m,rfl⟩:∃ k,m=k+1:=⟨m - 1,by omega⟩
   rw [kO,if_neg (by omega)]
   exact ⟨x,rfl,hx,j⟩
  | succ d ih=>
   intro m x hx j hd hm
   obtain ⟨m,rfl⟩:∃ k,m=k+1:=⟨m - 1,by omega⟩
   rw [kO]
   by_cases c:x<(p.R.L.length:Int)
   case neg=>rw [if_neg c];exact ⟨x,rfl,hx,j⟩
   have hl:x.toNat<p.R.L.length:=by omega
   have hb:0≤x∧x<(p.R.L.length:Int):=by omega
   simp only [if_pos c,if_pos hb,List.getElem?_eq_getElem hl,Option.bind_some]
   split
   ·exact ⟨x,rfl,hx,j⟩
   split
   ·exact ⟨x,rfl,hx,j⟩
   rw [w1 (by omega) (by omega)]
   exact ih m (x+1) (by omega) (by omega) (by omega) (by omega)
 unfold mI
 obtain ⟨e,I,J⟩:=key ((p.R.L.length:Int) - aH).toNat F aH (Int.le_refl _) h1 (Nat.le_refl _) (by omega)
 exact ⟨e,by rw [I];rfl,J⟩
structure Sm (p p':Pp):Prop where
 rows:p'.Rows=p.Rows
 doc:p'.Doc=p.Doc
 root:p'.aA=p.aA
 s:p'.S=p.S
 dep:p'.aw=p.aw
theorem u0 (F:Nat) (hF:2500≤F) {n:Int} {p:Pp} {next:Int} (h:Rd n p.R next) (hr:RO p.R.L p.Rows) (h0:0≤next) (h1:next≤n) (no:Bool) (bU:no=true→next<n) (eB:no=false→0<next) {up:Nat} (hs:Sp p.R.T.ak up) (hN:p.R.T.ak.length≤2300) (hd:p.R.D.length≤90000):
  ∃ p',lE F p (up:Int) next no=some p'∧Sm p p'∧next≤p'.Read∧p'.Read≤n∧(no=true→next<p'.Read)∧Rd n p'.R p'.Read∧To p.R p'.R up (p'.Read - next) (p'.Read - next):=by
 have hn:=h.nl
 have dg:=h.ri.n
 have hlen:=hr.len
 have hex:∃ (k:Nat) (r:an),p.Rows[k]?=some r∧next≤r.To∧(no=true→next<r.To):=by
  cases no with
  | true=>obtain ⟨k,r,U,ab⟩:=hr.tX next h0 (by have:=bU rfl;omega);exact ⟨k,r,U,by omega,fun _=>ab⟩
  | false=>obtain ⟨k,r,U,ab⟩:=hr.tX (next - 1) (by have:=eB rfl;omega) (by omega);exact ⟨k,r,U,by omega,fun q=>by cases q⟩
 obtain ⟨k,rk,aa,ae,ad⟩:=hex
 have gV:k<p.Rows.length:=by
  rcases Nat.lt_or_ge k p.Rows.length with q | q
  ·exact q
  ·rw [List.getElem?_eq_none q] at aa;cases aa
 have key:∀ (d m i:Nat),i+d=k→d<m→∃ (j:Nat) (r:an),kn F p (up:Int) next no m (i:Int)=some (j:Int)∧p.Rows[j]?=some r∧next≤r.To∧(no=true→next<r.To):=by
  intro d
  induction d with
  | zero=>
   intro m i hi hm
   obtain ⟨m,rfl⟩:∃ q,m=q+1:=⟨m - 1,by omega⟩
   have:i=k:=by omega
   subst this
   rw [kn]
   have hb:0≤(i:Int)∧(i:Int)<(p.Rows.length:Int):=by omega
   simp only [if_pos hb,Int.toNat_natCast,aa,Option.bind_some]
   rw [if_neg (by omega)]
   by_cases I:no=true
   ·rw [if_pos I,if_neg (by have:=ad I;omega)]
    exact ⟨i,rk,rfl,aa,ae,ad⟩
   ·rw [if_neg I]
    exact ⟨i,rk,rfl,aa,ae,ad⟩
  | succ d ih=>
   intro m i hi hm
   obtain ⟨m,rfl⟩:∃ q,m=q+1:=⟨m - 1,by omega⟩
   have dq:i<p.Rows.length:=by omega
   rw [kn]
   have hb:0≤(i:Int)∧(i:Int)<(p.Rows.length:Int):=by omega
   have hw:af ((i:Int)+1)=((i+1:Nat):Int):=by rw [a8 (by omega) (by omega)];omega
   simp only [if_pos hb,Int.toNat_natCast,List.getElem?_eq_getElem dq,Option.bind_some,hw]
   have stay:next≤p.Rows[i].To→(no=true→next<p.Rows[i].To)→∃ (j:Nat) (r:an),(some (i:Int):Option Int)=some (j:Int)∧p.Rows[j]?=some r∧next≤r.To∧(no=true→next<r.To):=fun U ab=>⟨i,_,rfl,List.getElem?_eq_getElem dq,U,ab⟩
   by_cases c:p.Rows[i].To<next
   ·rw [if_pos c];exact ih m (i+1) (by omega) (by omega)
   rw [if_neg c]
   by_cases I:no=true
   ·rw [if_pos I]
    by_cases c2:p.Rows[i].To=next
    ·rw [if_pos c2];exact ih m (i+1) (by omega) (by omega)
    ·rw [if_neg c2];exact stay (by omega) (fun _=>by omega)
   ·rw [if_neg I]
    exact stay (by omega) (fun q=>absurd q I)
 obtain ⟨j,r,ag,J,ah,ai⟩:=key k F 0 (by omega) (by omega)
 have hj:j<p.Rows.length:=by
  rcases Nat.lt_or_ge j p.Rows.length with q | q
  ·exact q
  ·rw [List.getElem?_eq_none q] at J;cases J
 have uJ:=hr.gh r (List.mem_of_getElem? J)
 obtain ⟨a,b,a1,aj,av,ao,aw,_⟩:=kN F hF p dg next r.To h0 ah (by omega)
 unfold lE
 rw [show ((0:Nat):Int)=0 from rfl] at ag
 rw [ag]
 simp only [Option.bind_some]
 rw [if_pos (by omega),Int.toNat_natCast,J]
 simp only [Option.bind_some,a1]
 by_cases c:a<b
 ·have ha:=aj.1
  obtain ⟨r1,aq,ar,au,_⟩:=mC F hF h (by omega) (by omega) hs (code:=8) (aH:=a) (to:=b) (by omega) c (by omega) (by omega) (h.endOf h0 up ha)
  rw [if_pos c,aq]
  simp only [Option.bind_some]
  rw [if_pos (by omega)]
  simp only [J,Option.bind_some]
  exact ⟨_,rfl,⟨rfl,rfl,rfl,rfl,rfl⟩,by show next≤r.To;omega,by show r.To≤n;omega,ai,ar.mono ao,au.le (by show (1:Int)≤r.To - next;omega) (by show (1:Int)≤r.To - next;omega)⟩
 ·rw [if_neg c]
  simp only [Option.bind_some]
  rw [if_pos (by omega)]
  simp only [J,Option.bind_some]
  exact ⟨_,rfl,⟨rfl,rfl,rfl,rfl,rfl⟩,by show next≤r.To;omega,by show r.To≤n;omega,ai,h.mono ah,(To.refl p.R up).le (by show (0:Int)≤r.To - next;omega) (by show (0:Int)≤r.To - next;omega)⟩
structure xd (p p':Pp) (up:Nat) (s m:Int):Prop where
 l:p'.R.L=p.R.L
 sz:(p'.R.T.ak.length:Int)≤p.R.T.ak.length+s
 dl:(p'.R.D.length:Int)≤p.R.D.length+m
 sp:∀ v,v≤up→Sp p.R.T.ak v→Sp p'.R.T.ak v
theorem yY (F:Nat) (hF:2500≤F) {n:Int} {p:Pp} {at_:Int} (h:Rd n p.R (at_+1)) (hr:RO p.R.L p.Rows) (h0:0≤at_) (h1:at_<n) (eU:0≤p.aw∧p.aw≤100) (gu:p.S.length≤400) {up:Nat} (jS:∀ e,endOf p.R.T.ak up=some e→e≤at_) (hb:Below p.R.T.ak at_) (hs:Sp p.R.T.ak up) (hN:(p.R.T.ak.length:Int)≤4 * at_+5) (hd:(p.R.D.length:Int)≤4 * at_+5):
  ∃ b p',iZ F p (up:Int) at_=some (b,p')∧Sm p p'∧at_<p'.Read∧p'.Read≤n∧Rd n p'.R p'.Read∧xd p p' up (2 * (p'.Read - at_)) (4 * (p'.Read - at_)):=by
 have hn:=h.nl
 have dg:=h.ri.n
 obtain ⟨e,e1,ae,ag⟩:=D4 F hF p dg at_ h0 (by omega)
 have hw:af (p.aw - (p.S.length:Int))=p.aw - p.S.length:=a8 (by omega) (by omega)
 have kc:Rd n (⟨p.R.L,p.R.T,p.R.D,e⟩:Rr) (at_+1):=⟨⟨by show 0≤e;omega,ag,dg,h.ri.kp⟩,hn,h.g,h.b⟩
 obtain ⟨node,next,r',v1,v2⟩:=wV F hF (p.aw - p.S.length) (by omega) (by omega) n (⟨p.R.L,p.R.T,p.R.D,e⟩:Rr) up at_ kc jS hs h0 ae hN hd
 unfold iZ
 rw [e1]
 simp only [Option.bind_some,hw,v1]
 have vM:∀ a b:Int,b≤a→imax a b=a:=fun a b q=>by rw [jM];omega
 rcases v2 with ⟨rfl,rfl,rfl,_⟩ | ⟨ah,au,ai,aj,J,_⟩
 ·have an:Rd n (⟨p.R.L,p.R.T,p.R.D,e⟩:Rr) next:=⟨kc.ri,hn,h.g,hb⟩
  obtain ⟨p',U,j,ao,aa,ad,ab,I⟩:=u0 F hF (p:=⟨⟨p.R.L,p.R.T,p.R.D,e⟩,p.Rows,p.Doc,p.aA,p.S,p.aw,p.Read⟩) (next:=next) an hr h0 (by omega) true (fun _=>h1) (fun q=>by cases q) hs (by show p.R.T.ak.length≤2300;omega) (by show p.R.D.length≤90000;omega)
  have bq:=ad rfl
  simp only [show ((-1:Int)<0) from by decide,if_true,Option.bind_some,vM next next (Int.le_refl _),U,show ¬ ((0:Int)≤ -1) from by decide,if_false]
  have b1:=I.sz
  have fT:=I.dl
  simp only at b1 fT
  exact ⟨_,_,rfl,⟨j.rows,j.doc,j.root,j.s,j.dep⟩,bq,aa,ab,⟨I.l,by show (p'.R.T.ak.length:Int)≤p.R.T.ak.length+2 * (p'.Read - next);omega,by show (p'.R.D.length:Int)≤p.R.D.length+4 * (p'.Read - next);omega,I.sp⟩⟩
 ·have hl:r'.L=p.R.L:=J.l
  have he:r'.End=e:=J.e
  have b1:=J.sz
  have fT:=J.dl
  simp only at b1 fT
  simp only at ai
  obtain ⟨p',U,j,ao,aa,ad,ab,I⟩:=u0 F hF (p:=⟨r',p.Rows,p.Doc,p.aA,p.S,p.aw,p.Read⟩) (next:=next) aj (by show RO r'.L p.Rows;rw [hl];exact hr) (by omega) (by omega) false (fun q=>by cases q) (fun _=>by omega) (J.sp up (Nat.le_refl _) hs) (by show r'.T.ak.length≤2300;omega) (by show r'.D.length≤90000;omega)
  have oL:¬ node<0:=by omega
  simp only [if_neg oL,Option.bind_some,vM next at_ (by omega),U,if_pos ah]
  have aq:=I.sz
  have ar:=I.dl
  simp only at aq ar
  exact ⟨_,_,rfl,⟨j.rows,j.doc,j.root,j.s,j.dep⟩,by show at_<p'.Read;omega,aa,ab,⟨I.l.trans hl,by show (p'.R.T.ak.length:Int)≤p.R.T.ak.length+2 * (p'.Read - at_);omega,by show (p'.R.D.length:Int)≤p.R.D.length+4 * (p'.Read - at_);omega,fun v hv q=>I.sp v hv (J.sp v hv q)⟩⟩
end Go.Proofs.Ytcilejikekccmaa.M
namespace Go.Proofs.Ytcilejikekccmaa.M
open Go Am Sy
def Cn (L:List al) (i:Int):Prop:=∃ t,L[i.toNat]?=some t∧cn t.Kind=true
def Ec (L:List al):Int→List a4→Int→Prop
  | a,[],b=>a≤b
  | a,e::es,b=>a≤e.ai∧e.ai<e.To∧Cn L e.ai∧Ec L e.To es b
section
variable {L:List al}
theorem Ec.le:∀ {es:List a4} {a b:Int},Ec L a es b→a+es.length≤b:=by
  intro es
  induction es with
  | nil=>intro a b h;have:a≤b:=h;simpa using this
  | cons e es ih=>
    rintro a b ⟨h1,h2,_,j⟩
    have:=ih j
    rw [List.length_cons];omega
theorem Ec.mono:∀ {es:List a4} {a b c:Int},Ec L a es b→b≤c→Ec L a es c:=by
  intro es
  induction es with
  | nil=>intro a b c h hc;exact Int.le_trans h hc
  | cons e es ih=>rintro a b c ⟨h1,h2,dN,j⟩ hc;exact ⟨h1,h2,dN,ih j hc⟩
theorem Ec.snoc:∀ {es:List a4} {a b:Int} {e:a4},Ec L a es b→b≤e.ai→e.ai<e.To→Cn L e.ai→Ec L a (es++[e]) e.To:=by
  intro es
  induction es with
  | nil=>intro a b e h h1 h2 j;exact ⟨Int.le_trans h h1,h2,j,Int.le_refl _⟩
  | cons x es ih=>rintro a b e ⟨h1,h2,hc,j⟩ I J U;exact ⟨h1,h2,hc,ih j I J U⟩
theorem Ec.last:∀ {es:List a4} {a b:Int} {e:a4},Ec L a es b→es.getLast?=some e→Ec L a es e.To∧e.To≤b:=by
  intro es
  induction es with
  | nil=>intro a b e h h1;simp at h1
  | cons x es ih=>
    rintro a b e ⟨h1,h2,hc,I⟩ j
    cases es with
    | nil=>simp at j;subst j;exact ⟨⟨h1,h2,hc,Int.le_refl _⟩,I⟩
    | cons y es=>
      rw [List.getLast?_cons_cons] at j
      obtain ⟨J,U⟩:=ih I j
      exact ⟨⟨h1,h2,hc,J⟩,U⟩
end
theorem rF (F:Nat) (hF:2500≤F) (L:List al) (hn:L.length≤450) (a e kind:Int) (h0:0≤a) (h1:a≤e) (h2:e≤L.length):∃ j,js F L a e kind=some j∧a≤j∧j≤e:=by
  have key:∀ (d m:Nat) (x:Int),a≤x→x≤e→(e - x).toNat≤d→d<m→∃ j,correctorref9_skip_l0 F L a e kind m x=some j∧a≤j∧j≤e:=by
    intro d
    induction d with
    | zero=>
      intro m x hx I hd hm
      obtain ⟨m,rfl⟩:∃ k,m=k+1:=⟨m - 1,by omega⟩
      rw [correctorref9_skip_l0,if_neg (by omega)]
      exact ⟨x,rfl,hx,I⟩
    | succ d ih=>
      intro m x hx I hd hm
      obtain ⟨m,rfl⟩:∃ k,m=k+1:=⟨m - 1,by omega⟩
      rw [correctorref9_skip_l0]
      by_cases c:x<e
      case neg=>rw [if_neg c];exact ⟨x,rfl,hx,I⟩
      have hl:x.toNat<L.length:=by omega
      rw [if_pos c,if_pos (by omega),List.getElem?_eq_getElem hl]
      simp only [Option.bind_some]
      split
      · rw [w1 (by omega) (by omega)]
        exact ih m (x+1) (by omega) (by omega) (by omega) (by omega)
      · exact ⟨x,rfl,hx,I⟩
  unfold js
  obtain ⟨j,J,U⟩:=key (e - a).toNat F a (Int.le_refl _) h1 (Nat.le_refl _) (by omega)
  exact ⟨j,by rw [J];rfl,U⟩
theorem yN {F:Nat} {k:Int} (h:fb F k=some true):cn k=true:=by
  unfold fb at h
  by_cases h1:k=15
  · rw [h1];rfl
  by_cases h2:k=16
  · rw [h2];rfl
  by_cases j:k=17
  · rw [j];rfl
  by_cases I:k=13
  · rw [I];rfl
  rw [if_neg h1,if_neg h2,if_neg j,if_neg I] at h
  simp at h
def EO (L:List al) (r:an) (es:List a4) (rest:Int):Prop:=
  ∃ first,FI L r.ai r.To first∧rest≤r.To∧(es=[]∨Ec L first es rest)
theorem E5 (F:Nat) (hF:2500≤F) (L:List al) (hn:L.length≤450) (r:an) (hk:r.Kind=5) (hr:0≤r.ai∧r.ai<r.To∧r.To≤L.length):∃ es rest,mK F L r=some (es,rest)∧EO L r es rest:=by
  obtain ⟨aQ,aR,ag⟩:=hr
  have ax:∀ (d m:Nat) (x:Int),r.ai≤x→x≤r.To→(r.To - x).toNat≤d→d<m→(∀ (i:Int) (t:al),r.ai≤i→i<x→L[i.toNat]?=some t→cn t.Kind=false)→∃ a,correctorref9_Entries_l0 F L r m r x=some (r,a)∧FI L r.ai r.To a:=by
    intro d
    induction d with
    | zero=>
      intro m x hx ab hd hm hq
      obtain ⟨m,rfl⟩:∃ k,m=k+1:=⟨m - 1,by omega⟩
      rw [correctorref9_Entries_l0,if_neg (by omega)]
      exact ⟨x,rfl,hx,ab,hq,fun q=>by omega⟩
    | succ d ih=>
      intro m x hx ab hd hm hq
      obtain ⟨m,rfl⟩:∃ k,m=k+1:=⟨m - 1,by omega⟩
      rw [correctorref9_Entries_l0]
      by_cases c:x<r.To
      case neg=>rw [if_neg c];exact ⟨x,rfl,hx,ab,hq,fun q=>absurd q c⟩
      have hl:x.toNat<L.length:=by omega
      rw [if_pos c,if_pos (by omega),List.getElem?_eq_getElem hl]
      simp only [Option.bind_some,k2]
      by_cases c1:cn L[x.toNat].Kind=true
      · rw [if_pos c1];exact ⟨x,rfl,hx,ab,hq,fun _=>⟨_,List.getElem?_eq_getElem hl,c1⟩⟩
      · rw [if_neg c1,w1 (by omega) (by omega)]
        refine ih m (x+1) (by omega) (by omega) (by omega) (by omega) (fun i t ad aq U=>?_)
        rcases Int.lt_or_eq_of_le (show i≤x by omega) with z | z
        · exact hq i t ad z U
        · subst z
          rw [List.getElem?_eq_getElem hl] at U
          simp only [Option.some.injEq] at U
          subst U;simpa using c1
  obtain ⟨first,f1,f2⟩:=ax (r.To - r.ai).toNat F r.ai (Int.le_refl _) (by omega) (Nat.le_refl _) (by omega) (fun i t ad aq=>by omega)
  have vn:=f2.1
  have pD:=f2.2.1
  have ay:∀ (d m:Nat) (i h3:Int) (e:List a4),first≤i→i≤r.To→(r.To - i).toNat≤d→d<m→Ec L first e i→∃ i' e',correctorref9_Entries_l1 F L r m r i first h3 e=some (r,i',first,h3,e')∧first≤i'∧i'≤r.To∧Ec L first e' i':=by
    intro d
    induction d with
    | zero=>
      intro m i h3 e hi I hd hm he
      obtain ⟨m,rfl⟩:∃ k,m=k+1:=⟨m - 1,by omega⟩
      rw [correctorref9_Entries_l1,if_neg (by omega)]
      exact ⟨i,e,rfl,hi,I,he⟩
    | succ d ih=>
      intro m i h3 e hi I hd hm he
      obtain ⟨m,rfl⟩:∃ k,m=k+1:=⟨m - 1,by omega⟩
      rw [correctorref9_Entries_l1]
      by_cases c:i<r.To
      case neg=>rw [if_neg c];exact ⟨i,e,rfl,hi,I,he⟩
      have hl:i.toNat<L.length:=by omega
      have hb:0≤i∧i<(L.length:Int):=by omega
      have hlen:=he.le
      simp only [if_pos c,if_pos hb,List.getElem?_eq_getElem hl,Option.bind_some]
      split
      case isFalse=>exact ⟨i,e,rfl,hi,I,he⟩
      rename_i az
      have hw:af (i+1)=i+1:=w1 (by omega) (by omega)
      obtain ⟨j,J,ah,aa⟩:=rF F hF L hn (i+1) r.To 3 (by omega) (by omega) ag
      rw [if_pos (by rw [List.length_singleton];omega),hw,J]
      simp only [Option.bind_some]
      exact ih m j h3 _ (by omega) aa (by omega) (by omega) (Ec.mono (Ec.snoc (e:=⟨true,_,i,i+1⟩) he (Int.le_refl _) (by show i<i+1;omega) ⟨_,List.getElem?_eq_getElem hl,by rw [az];rfl⟩) ah)
  have aA:∀ (d m:Nat) (i h3 k:Int) (e:List a4),i≤k→0≤i→k≤r.To→(r.To - k).toNat≤d→d<m→(k=i∨Cn L i)→∃ k',correctorref9_Entries_l2 F L r m r i first h3 e k=some (r,i,first,h3,e,k')∧i≤k'∧k'≤r.To∧(k'=i∨Cn L i):=by
    intro d
    induction d with
    | zero=>
      intro m i h3 k e hi ar I hd hm hg
      obtain ⟨m,rfl⟩:∃ k,m=k+1:=⟨m - 1,by omega⟩
      rw [correctorref9_Entries_l2,if_neg (by omega)]
      exact ⟨k,rfl,hi,I,hg⟩
    | succ d ih=>
      intro m i h3 k e hi ar I hd hm hg
      obtain ⟨m,rfl⟩:∃ k,m=k+1:=⟨m - 1,by omega⟩
      rw [correctorref9_Entries_l2]
      by_cases c:k<r.To
      case neg=>rw [if_neg c];exact ⟨k,rfl,hi,I,hg⟩
      have hl:k.toNat<L.length:=by omega
      have hb:0≤k∧k<(L.length:Int):=by omega
      have hw:af (k+1)=k+1:=w1 (by omega) (by omega)
      obtain ⟨j,J,ah,aa⟩:=rF F hF L hn (k+1) r.To 3 (by omega) (by omega) ag
      simp only [if_pos c,if_pos hb,List.getElem?_eq_getElem hl,Option.bind_some,hw]
      have go:cn L[k.toNat].Kind=true→_:=fun q=>ih m i h3 j e (by omega) ar aa (by omega) (by omega) (by
        rcases hg with z | z
        · subst z;exact .inr ⟨_,List.getElem?_eq_getElem hl,q⟩
        · exact .inr z)
      split
      · rename_i aB;simp only [Option.bind_some,J];exact go (by rw [aB];rfl)
      split
      · rename_i aC;simp only [Option.bind_some,J];exact go (by rw [aC];rfl)
      exact ⟨k,rfl,hi,I,hg⟩
  have D8:r.ai.toNat<L.length:=by omega
  unfold mK
  rw [if_pos hk,f1]
  simp only [Option.bind_some]
  rw [if_pos (by omega),List.getElem?_eq_getElem D8]
  simp only [Option.bind_some]
  obtain ⟨i,e,aD,aS,aj,ae⟩:=ay (r.To - first).toNat F first L[r.ai.toNat].ai [] (Int.le_refl _) pD (Nat.le_refl _) (by omega) (Int.le_refl _)
  rw [aD]
  simp only [Option.bind_some]
  obtain ⟨k,aE,au,av,ak⟩:=aA (r.To - i).toNat F i L[r.ai.toNat].ai i e (Int.le_refl _) (by omega) aj (Nat.le_refl _) (by omega) (.inl rfl)
  rw [aE]
  simp only [Option.bind_some]
  have aF:∃ k',((if k<r.To then
        if 0≤k∧k<(L.length:Int) then
         (L[k.toNat]?).bind fun aG=>
         (fb F aG.Kind).bind fun aH=>
         if aH=true then
          (js F L (af (k+1)) r.To 3).bind fun aI=>
          some (r,e,aI)
         else
          some (r,e,k)
        else none
       else
        some (r,e,k)):Option (an×(List a4)×Int))=some (r,e,k')∧i≤k'∧k'≤r.To∧(k'=i∨Cn L i):=by
    by_cases c:k<r.To
    case neg=>rw [if_neg c];exact ⟨k,rfl,au,av,ak⟩
    have hl:k.toNat<L.length:=by omega
    rw [if_pos c,if_pos (by omega),List.getElem?_eq_getElem hl]
    simp only [Option.bind_some]
    obtain ⟨b,hb⟩:=ot F L[k.toNat].Kind
    rw [hb]
    simp only [Option.bind_some]
    split
    · obtain ⟨j,J,ah,aa⟩:=rF F hF L hn (k+1) r.To 3 (by omega) (by omega) ag
      rw [w1 (by omega) (by omega),J]
      refine ⟨j,rfl,by omega,aa, .inr ?_⟩
      rcases ak with z | z
      · subst z
        rename_i cb
        refine ⟨_,List.getElem?_eq_getElem hl,?_⟩
        rw [cb] at hb
        exact yN hb
      · exact z
    · exact ⟨k,rfl,au,av,ak⟩
  obtain ⟨k',ad,aq,U,aJ⟩:=aF
  rw [ad]
  simp only [Option.bind_some]
  have hlen:=ae.le
  have hx:∃ e',((((if k'<r.To then
          if 0≤k'∧k'<(L.length:Int) then
           (L[k'.toNat]?).bind fun aK=>
           if aK.Kind=(6:Int) then
            some (e,true)
           else
            some (e,false)
          else none
         else
          some (e,false)):Option ((List a4)×Bool)).bind fun o=>match o with
         | (ao,aL)=>if aL=true then
          if 0≤i∧i<(L.length:Int) then
           (L[i.toNat]?).bind fun aw=>
           if ao.length+[(⟨false,af (aw.ai - L[r.ai.toNat].ai),i,af (k'+1)⟩:a4)].length≤4398046511104 then
            some (ao++[(⟨false,af (aw.ai - L[r.ai.toNat].ai),i,af (k'+1)⟩:a4)])
           else none
          else none
         else
          some ao):Option (List a4))=some e'∧Ec L first e' r.To:=by
    by_cases c:k'<r.To
    case neg=>rw [if_neg c];exact ⟨e,rfl,ae.mono aj⟩
    have hl:k'.toNat<L.length:=by omega
    have dq:i.toNat<L.length:=by omega
    rw [if_pos c,if_pos (by omega),List.getElem?_eq_getElem hl]
    simp only [Option.bind_some]
    split
    · rename_i aM
      have fC:Cn L i:=by
        rcases aJ with z | z
        · subst z;exact ⟨_,List.getElem?_eq_getElem hl,by rw [aM];rfl⟩
        · exact z
      simp only [Option.bind_some,if_true]
      rw [if_pos (by omega),List.getElem?_eq_getElem dq]
      simp only [Option.bind_some]
      rw [if_pos (by rw [List.length_singleton];omega),w1 (by omega) (by omega)]
      exact ⟨_,rfl,Ec.mono (Ec.snoc (e:=⟨false,_,i,k'+1⟩) ae (Int.le_refl _) (by show i<k'+1;omega) fC) (by show k'+1≤r.To;omega)⟩
    · simp only [Option.bind_some,Bool.false_eq_true,if_false]
      exact ⟨e,rfl,ae.mono aj⟩
  obtain ⟨e',h1,h2⟩:=hx
  rw [h1]
  simp only [Option.bind_some]
  by_cases c:(e'.length:Int)=0
  · rw [if_pos c]
    exact ⟨_,_,rfl,first,f2,pD, .inl rfl⟩
  · have aU:=h2.le
    have hw:af ((e'.length:Int) - 1)=((e'.length - 1:Nat):Int):=by rw [a8 (by omega) (by omega)];omega
    have nv:e'.length - 1<e'.length:=by omega
    rw [if_neg c,hw,if_pos (by omega),Int.toNat_natCast,List.getElem?_eq_getElem nv]
    simp only [Option.bind_some]
    have qd:e'.getLast?=some e'[e'.length - 1]:=by rw [List.getLast?_eq_getElem?,List.getElem?_eq_getElem nv]
    obtain ⟨aO,aP⟩:=h2.last qd
    exact ⟨_,_,rfl,first,f2,aP, .inr aO⟩
end Go.Proofs.Ytcilejikekccmaa.M
namespace Go.Proofs.Ytcilejikekccmaa.M
open Go Am Sy
abbrev Oo:=au
structure So (N:List aq) (d:Nat) (S:List Oo):Prop where
 node:∀ (i:Nat) o,S[i]?=some o→∃ m:Nat,o.Node=m∧d<m∧Sp N m
 inc:∀ (i j:Nat) o o',i<j→S[i]?=some o→S[j]?=some o'→o.Node<o'.Node
 has:∀ (i:Nat) o,S[i]?=some o→i+1<S.length→o.Has=true
 cur:∀ (i:Nat) o,S[i]?=some o→o.Has=false→∃ c:Nat,o.bV=c∧o.Node<c∧Sp N c
theorem gL {α:Type} {S:List α} {i:Nat} {o:α} (h:S[i]?=some o):i<S.length:=by
 rcases Nat.lt_or_ge i S.length with q | q
 ·exact q
 ·rw [List.getElem?_eq_none q] at h;cases h
theorem So.nil (N:List aq) (d:Nat):So N d []:=⟨fun i o h=>by simp at h,fun i j o o' _ h=>by simp at h,fun i o h=>by simp at h,fun i o h=>by simp at h⟩
theorem lW {α:Type} {S:List α} {k i:Nat} {o:α} (h:(S.take k)[i]?=some o):S[i]?=some o∧i<k:=by
 rw [List.getElem?_take] at h
 split at h
 ·rename_i c;exact ⟨h,c⟩
 ·cases h
theorem So.take {N:List aq} {d:Nat} {S:List Oo} (h:So N d S) (k:Nat):So N d (S.take k) where
 node i o q:=h.node i o (lW q).1
 inc i j o o' J I U:=h.inc i j o o' J (lW I).1 (lW U).1
 has i o q I:=h.has i o (lW q).1 (by rw [List.length_take] at I;omega)
 cur i o q:=h.cur i o (lW q).1
def Up (S:List Oo) (u:Nat):Prop:=∀ (i:Nat) o,S[i]?=some o→o.Node≤u∧(o.Has=false→o.bV≤u)
theorem So.to {N N':List aq} {d u:Nat} {S:List Oo} (h:So N d S) (hu:Up S u) (hs:∀ v,v≤u→Sp N v→Sp N' v):So N' d S where
 node i o q:=by
  obtain ⟨m,J,j,I⟩:=h.node i o q
  exact ⟨m,J,j,hs m (by have:=(hu i o q).1;omega) I⟩
 inc:=h.inc
 has:=h.has
 cur i o q j:=by
  obtain ⟨c,I,U,aa⟩:=h.cur i o q j
  exact ⟨c,I,U,hs c (by have:=(hu i o q).2 j;omega) aa⟩
theorem So.push {N:List aq} {d:Nat} {S:List Oo} (h:So N d S) (hh:∀ (i:Nat) o,S[i]?=some o→o.Has=true) {o:Oo} {m c:Nat} (hn:o.Node=m) (hd:d<m) (hm:Sp N m) (bq:∀ (i:Nat) x,S[i]?=some x→x.Node<m) (hc:o.Has=false→o.bV=c∧m<c∧Sp N c):So N d (S++[o]):=by
 have fg:∀ (i:Nat) x,(S++[o])[i]?=some x→(i<S.length∧S[i]?=some x)∨(i=S.length∧x=o):=by
  intro i x hx
  have hl:=gL hx
  rw [List.length_append,List.length_singleton] at hl
  rcases Nat.lt_or_ge i S.length with q | q
  ·rw [List.getElem?_append_left q] at hx;exact .inl ⟨q,hx⟩
  ·have:i=S.length:=by omega
   subst this
   rw [List.getElem?_append_right (Nat.le_refl _)] at hx
   simp at hx
   exact .inr ⟨rfl,hx.symm⟩
 refine ⟨fun i x hx=>?_,fun i j x y mo hx hy=>?_,fun i x hx hl=>?_,fun i x hx hf=>?_⟩
 ·rcases fg i x hx with ⟨_,q⟩ | ⟨_,rfl⟩
  ·exact h.node i x q
  ·exact ⟨m,hn,hd,hm⟩
 ·rcases fg i x hx with ⟨_,q⟩ | ⟨q,rfl⟩
  ·rcases fg j y hy with ⟨_,I⟩ | ⟨_,rfl⟩
   ·exact h.inc i j x y mo q I
   ·rw [hn];exact bq i x q
  ·rcases fg j y hy with ⟨I,_⟩ | ⟨I,_⟩<;>omega
 ·rcases fg i x hx with ⟨_,q⟩ | ⟨q,rfl⟩
  ·exact hh i x q
  ·rw [List.length_append,List.length_singleton] at hl;omega
 ·rcases fg i x hx with ⟨_,q⟩ | ⟨q,rfl⟩
  ·rw [hh i x q] at hf;cases hf
  ·obtain ⟨J,I,U⟩:=hc hf
   exact ⟨c,J,by rw [hn];omega,U⟩
structure PD (n:Int) (p:Pp) (q:Int) (d:Nat):Prop where
 rd:Rd n p.R q
 ro:RO p.R.L p.Rows
 dep:0≤p.aw∧p.aw≤100
 sl:(p.S.length:Int)≤p.aw
 doc:p.Doc=d
 ds:Sp p.R.T.ak d
 si:So p.R.T.ak d p.S
 sz:(p.R.T.ak.length:Int)≤4 * q+5
 dl:(p.R.D.length:Int)≤4 * q+4
structure PI (n:Int) (p:Pp) (q:Int):Prop where
 rd:Rd n p.R q
 ro:RO p.R.L p.Rows
 dep:0≤p.aw∧p.aw≤100
 doc:(p.Doc= -1∧p.S=[])∨(∃ d:Nat,p.Doc=d∧Sp p.R.T.ak d∧So p.R.T.ak d p.S∧(p.S.length:Int)≤p.aw)
 sz:(p.R.T.ak.length:Int)≤4 * q+4
 dl:(p.R.D.length:Int)≤4 * q+4
theorem PD.mono {n:Int} {p:Pp} {q q':Int} {d:Nat} (h:PD n p q d) (hq:q≤q'):PD n p q' d:={h with rd:=h.rd.mono hq,sz:=by have:=h.sz;omega,dl:=by have:=h.dl;omega}
theorem PI.mono {n:Int} {p:Pp} {q q':Int} (h:PI n p q) (hq:q≤q'):PI n p q':={h with rd:=h.rd.mono hq,sz:=by have:=h.sz;omega,dl:=by have:=h.dl;omega}
theorem PD.pi {n:Int} {p:Pp} {q q':Int} {d:Nat} (h:PD n p q d) (hq:q<q'):PI n p q':=⟨h.rd.mono (by omega),h.ro,h.dep, .inr ⟨d,h.doc,h.ds,h.si,h.sl⟩,by have:=h.sz;omega,by have:=h.dl;omega⟩
theorem ub (F:Nat) (hF:2500≤F) {n:Int} {p:Pp} {q a:Int} (h:PI n p q) (h0:0≤q) (hq:q≤a) (ha:a≤n):∃ p' d,lT F p a=some p'∧PD n p' a d∧p'.Read=p.Read∧p'.Rows=p.Rows∧p'.R.L=p.R.L:=by
 have hn:=h.rd.nl
 have dg:=h.rd.ri.n
 have b1:=h.sz
 have fT:=h.dl
 unfold lT
 rcases h.doc with ⟨j,I⟩ | ⟨d,j,I,U,aa⟩
 ·rw [j,if_pos (by decide)]
  obtain ⟨r1,a1,ab,J,ad,ae,af,_⟩:=iG F hF h.rd (by omega) (up:=0) .root (kind:=2) (aH:=a) (to:=a) (by omega) (Int.le_refl _) ha hq (h.rd.endOf h0 0 hq)
  rw [show ((0:Nat):Int)=0 from rfl] at a1
  rw [a1]
  exact ⟨_,_,rfl,⟨ab,by show RO r1.L p.Rows;rw [J.l];exact h.ro,h.dep,by show ((0:Nat):Int)≤_;exact h.dep.1,rfl,ad,So.nil _ _,by show (r1.T.ak.length:Int)≤_;omega,by show (r1.D.length:Int)≤_;rw [ae];omega⟩,rfl,rfl,J.l⟩
 ·rw [if_neg (by omega)]
  exact ⟨p,d,rfl,⟨h.rd.mono hq,h.ro,h.dep,aa,j,I,U,by omega,by omega⟩,rfl,rfl,rfl⟩
theorem rL (F:Nat) {n:Int} {p:Pp} {q:Int} {d:Nat} (h:PD n p q d):∃ u:Nat,iP F p=some (u:Int)∧Sp p.R.T.ak u∧d≤u∧Up p.S u:=by
 unfold iP
 by_cases c:(p.S.length:Int)=0
 ·rw [if_pos c,h.doc]
  have:p.S=[]:=List.eq_nil_of_length_eq_zero (by omega)
  exact ⟨d,rfl,h.ds,Nat.le_refl _,fun i o q=>by rw [this] at q;simp at q⟩
 have eU:=h.dep
 have gu:=h.sl
 have hw:af ((p.S.length:Int) - 1)=((p.S.length - 1:Nat):Int):=by rw [a8 (by omega) (by omega)];omega
 have hl:p.S.length - 1<p.S.length:=by omega
 have hg:p.S[p.S.length - 1]?=some p.S[p.S.length - 1]:=List.getElem?_eq_getElem hl
 rw [if_neg c,hw,if_pos (by omega),Int.toNat_natCast,hg]
 simp only [Option.bind_some]
 obtain ⟨m,I,aa,J⟩:=h.si.node _ _ hg
 have hle:∀ (i:Nat) o,p.S[i]?=some o→o.Node≤p.S[p.S.length - 1].Node∧(o.Has=false→o=p.S[p.S.length - 1]):=by
  intro i o hi
  have dq:=gL hi
  rcases Nat.lt_or_ge i (p.S.length - 1) with z | z
  ·have h1:=h.si.inc _ _ _ _ z hi hg
   exact ⟨by omega,fun e=>by rw [h.si.has i o hi (by omega)] at e;cases e⟩
  ·have:i=p.S.length - 1:=by omega
   subst this
   rw [hg] at hi
   simp only [Option.some.injEq] at hi
   subst hi;exact ⟨Int.le_refl _,fun _=>rfl⟩
 by_cases c2:p.S[p.S.length - 1].Has=true
 ·rw [if_pos c2,I]
  refine ⟨m,rfl,J,by omega,fun i o hi=>⟨by have:=(hle i o hi).1;omega,fun e=>?_⟩⟩
  rw [(hle i o hi).2 e,c2] at e;cases e
 ·rw [if_neg c2]
  obtain ⟨k,j,ab,U⟩:=h.si.cur _ _ hg (by simpa using c2)
  rw [j]
  refine ⟨k,rfl,U,by omega,fun i o hi=>⟨by have:=(hle i o hi).1;omega,fun e=>?_⟩⟩
  rw [(hle i o hi).2 e,j];exact Int.le_refl _
theorem rr (F:Nat) (hF:2500≤F) {n:Int} {p:Pp} {q:Int} {d u:Nat} (h:PD n p q d) (h0:0≤q) (hs:Sp p.R.T.ak u) (nR:d≤u) (hu:Up p.S u) {aH to code:Int} (hf:q≤aH) (fm:aH<to) (ht:to≤n):
  ∃ r,ea F p.R (u:Int) aH to code=some ((p.R.T.ak.length:Int),r)∧PD n (⟨r,p.Rows,p.Doc,p.aA,p.S,p.aw,p.Read⟩:Pp) to d∧r.L=p.R.L∧(r.T.ak.length:Int)≤4 * to+2:=by
 have hn:=h.rd.nl
 have dg:=h.rd.ri.n
 have b1:=h.sz
 have fT:=h.dl
 obtain ⟨r,I,J,j,_⟩:=mC F hF h.rd (by omega) (by omega) hs (code:=code) (aH:=aH) (to:=to) (by omega) fm ht (by omega) (h.rd.endOf h0 u hf)
 have h1:=j.sz
 have h2:=j.dl
 exact ⟨r,I,⟨J,by show RO r.L p.Rows;rw [j.l];exact h.ro,h.dep,h.sl,h.doc,j.sp d nR h.ds,h.si.to hu j.sp,by show (r.T.ak.length:Int)≤_;omega,by show (r.D.length:Int)≤_;omega⟩,j.l,by omega⟩
theorem pI (F:Nat) (hF:2500≤F) {n:Int} {p:Pp} {q:Int} {d u:Nat} (h:PD n p q d) (h0:0≤q) (hs:Sp p.R.T.ak u) (nR:d≤u) (hu:Up p.S u) {at_:Int} (hf:q≤at_) (ht:at_<n):
  ∃ b p',iZ F p (u:Int) at_=some (b,p')∧Sm p p'∧at_<p'.Read∧p'.Read≤n∧PD n p' p'.Read d∧p'.R.L=p.R.L∧(∀ v,v≤u→Sp p.R.T.ak v→Sp p'.R.T.ak v)∧(p'.R.T.ak.length:Int)≤4 * p'.Read+3∧(p'.R.D.length:Int)≤4 * p'.Read+4:=by
 have hn:=h.rd.nl
 have dg:=h.rd.ri.n
 have b1:=h.sz
 have fT:=h.dl
 have eU:=h.dep
 have gu:=h.sl
 obtain ⟨b,p',v1,v2,j,v4,I,v6⟩:=yY F hF (p:=p) (at_:=at_) (h.rd.mono (by omega)) h.ro (by omega) ht eU (by omega) (up:=u) (h.rd.endOf h0 u hf) (h.rd.b.mono hf) hs (by omega) (by omega)
 have h1:=v6.sz
 have h2:=v6.dl
 refine ⟨b,p',v1,v2,j,v4,⟨I,by rw [v6.l,v2.rows];exact h.ro,by rw [v2.dep];exact eU,by rw [v2.s,v2.dep];exact gu,by rw [v2.doc];exact h.doc,v6.sp d nR h.ds,by rw [v2.s];exact h.si.to hu v6.sp,by omega,by omega⟩,v6.l,v6.sp,by omega,by omega⟩
end Go.Proofs.Ytcilejikekccmaa.M
namespace Go.Proofs.Ytcilejikekccmaa.M
open Go Am Sy
def Wp {α:Type} (o:Option α) (P:α→Prop):Prop:=∃ a,o=some a∧P a
theorem wpS {α:Type} {a:α} {P:α→Prop} (h:P a):Wp (some a) P:=⟨a,rfl,h⟩
theorem az {α β:Type} {o:Option α} {f:α→Option β} {P:β→Prop} (h:Wp o (fun a=>Wp (f a) P)):Wp (o.bind f) P:=by
 obtain ⟨a,rfl,b,h1,h2⟩:=h
 exact ⟨b,by simpa using h1,h2⟩
theorem ax {α:Type} {c:Prop} [Decidable c] {x y:Option α} {P:α→Prop} (h1:c→Wp x P) (h2:¬c→Wp y P):Wp (if c then x else y) P:=by
 by_cases h:c
 ·rw [if_pos h];exact h1 h
 ·rw [if_neg h];exact h2 h
theorem a7 {α:Type} {l:List α} {i:Int} {P:α→Prop} (h:0≤i∧i<(l.length:Int)) (h1:∀ x,l[i.toNat]?=some x→P x):Wp (l[i.toNat]?) P:=by
 have:i.toNat<l.length:=by omega
 exact ⟨l[i.toNat],by simp [this],h1 _ (by simp [this])⟩
theorem wpE {α:Type} {o:Option α} {a:α} {P:α→Prop} (h:o=some a) (h1:P a):Wp o P:=⟨a,h,h1⟩
theorem bZ {α:Type} {P:α→Prop} (h:False):Wp none P:=h.elim
theorem Wp.mono {α:Type} {o:Option α} {P Q:α→Prop} (h:Wp o P) (k:∀ a,P a→Q a):Wp o Q:=by
 obtain ⟨a,h1,h2⟩:=h;exact ⟨a,h1,k a h2⟩
theorem aQ {α:Type} {c:Prop} [Decidable c] {x y:Option α} {P:α→Prop} (h:c) (h1:Wp x P):Wp (if c then x else y) P:=by rw [if_pos h];exact h1
theorem eH {α:Type} {c:Prop} [Decidable c] {x y:Option α} {P:α→Prop} (h:¬ c) (h1:Wp y P):Wp (if c then x else y) P:=by rw [if_neg h];exact h1
theorem aU {α β:Type} {o:Option α} {f:α→Option β} {a:α} {P:β→Prop} (h:o=some a) (h1:Wp (f a) P):Wp (o.bind f) P:=az ⟨a,h,h1⟩
theorem bp {α β:Type} {o:Option α} {f:α→Option β} {Q:α→Prop} {P:β→Prop} (h:Wp o Q) (h1:∀ a,Q a→Wp (f a) P):Wp (o.bind f) P:=az (h.mono h1)
end Go.Proofs.Ytcilejikekccmaa.M
