/- Packed by a program of this session (mini.py). -/
import Derived.Test.YtcilejikekccmaaWs3
set_option linter.unusedVariables false
set_option linter.unusedSimpArgs false
set_option maxRecDepth 20000
set_option maxRecDepth 100000
namespace Go.Proofs.Ytcilejikekccmaa.M
open Go Am Sy
open Sy.Cell (rc)
def mG (F:Nat) (a0:aS) (a1:an):Option aS:=
 if a1.Kind=(4:Int) then
  (m2 F (⟨a0.R,a0.Rows,a0.Doc,a0.az,a0.S,a0.av,a1.To⟩:aS) a1).bind fun ag=>
  some ag
 else
  if a1.Kind=(5:Int) then
   (n3 F (⟨a0.R,a0.Rows,a0.Doc,a0.az,a0.S,a0.av,a1.To⟩:aS) a1).bind fun ai=>
   some ai
  else
   ((if a1.Kind=(2:Int) then
     some (a0.Rows,a0.Doc,a0.az,a0.S,a0.av,a1.To,a1,true)
    else
     if a1.Kind=(3:Int) then
      some (a0.Rows,a0.Doc,a0.az,a0.S,a0.av,a1.To,a1,true)
     else
      some (a0.Rows,a0.Doc,a0.az,a0.S,a0.av,a1.To,a1,false)):Option ((List an)×Int×Bool×(List ar)×Int×Int×an×Bool)).bind fun o=>match o with
    | (J,U,aa,ab,ad,ae,af,aj)=>if aj=true then
     (g1 F (⟨a0.R,J,U,aa,ab,ad,ae⟩:aS) af.ah af.To).bind fun I=>
     if I.1<I.2 then
      (l7 F (⟨a0.R,J,U,aa,ab,ad,ae⟩:aS) I.1).bind fun j=>
      (iK F j).bind fun al=>
      (dM F j.R al I.1 I.2 8).bind fun ao=>
      some (⟨ao.2,j.Rows,j.Doc,j.az,j.S,j.av,j.Read⟩:aS)
     else
      some (⟨a0.R,J,U,aa,ab,ad,ae⟩:aS)
    else
     some (⟨a0.R,J,U,aa,ab,ad,ae⟩:aS)
theorem D9 (F:Nat) {h:AH} {Z:Zn} {a0:aS} {a1:an} {J j v4 v6 I af v11 ao U au} (hP:Pre Z h [.ae J [Pt j 0,v11,V a0.Doc, .bool a0.az,U,V a0.av,V a0.Read], .ae j (ax v4 v6 I a0.R), .gs I af (aa aj), .gs v11 ao (aa an), .gs U au (aa ar)]) (aI:RS (α:=ak) Z v4 a0.R.L) (aJ:RS (α:=aq) Z v6 a0.R.T.al) (aK:RCs (α:=aj) Z af a0.R.D) (a3:RCs (α:=an) Z ao a0.Rows) (a4:RCs (α:=ar) Z au a0.S) {r:aS} (hm:mG F a0 a1=some r):
  bX Try.prog 22 [Pt J 0, .agg #[V a1.Kind,V a1.ah,V a1.To,V a1.aC]] h Z [.ae J [Pt j 0,v11,V a0.Doc, .bool a0.az,U,V a0.av,V a0.Read], .ae j (ax v4 v6 I a0.R), .gs I af (aa aj), .gs v11 ao (aa an), .gs U au (aa ar)] fun v Z' A'=>∃ bw bx bA bC bD bE bF, .tuple #[]=v∧A'=[.ae J [Pt j 0,v11,V r.Doc, .bool r.az,bE,V r.av,V r.Read], .ae j (ax bw bx bA r.R), .gs bA bC (aa aj), .gs v11 bD (aa an), .gs bE bF (aa ar)]∧RS (α:=ak) Z' bw r.R.L∧RS (α:=aq) Z' bx r.R.T.al∧RCs (α:=aj) Z' bC r.R.D∧RCs (α:=an) Z' bD r.Rows∧RCs (α:=ar) Z' bF r.S:=by
 refine cm Try.func22 hP ?_
 intro hs hS
 unfold mG at hm
 refine s0<|df 0 [V a1.Kind,V a1.ah,V a1.To,V a1.aC] hS ?_
 intro a6 cZ bG
 refine xn 0<|s0<|aA 2 0 (V a1.To) bG rfl<|bB 2 1 (V a1.To) [V a1.To] [Pt j 0,v11,V a0.Doc, .bool a0.az,U,V a0.av,V a1.To] bG rfl rfl rfl ?_
 intro c0 ay
 refine xn 0<|s0<|aA 1 0 (V a1.Kind) ay rfl<|xn 0<|bk 0<|s0<|aD 0 hm ?_ ?_<;>intro c3 hm
 refine xn 1<|dT<|g0<|aA 1 0 (.agg #[V a1.Kind,V a1.ah,V a1.To,V a1.aC]) ay rfl ?_
 obtain ⟨c5,bQ,hm⟩:=ai hm
 have bR:St _ _ _ _ _ _ ([.ae J [Pt j 0,v11,V a0.Doc, .bool a0.az,U,V a0.av,V a1.To], .ae j (ax v4 v6 I a0.R), .gs I af (aa aj), .gs v11 ao (aa an), .gs U au (aa ar)]++[.ae a6 (cy a1)]):=(((((ay.front 5 rfl).front 5 rfl).front 5 rfl).front 5 rfl).front 5 rfl)
 refine cB 0 bR (fun p=>wS F (a0:=(⟨a0.R,a0.Rows,a0.Doc,a0.az,a0.S,a0.av,a1.To⟩:aS)) p aI aJ aK a3 a4 bQ) ?_
 rintro _ c6 c7 _ c8 bS ⟨bT,bU,bV,bW,bY,bZ,b0,rfl,rfl,b1,b2,b3,b4,b5⟩
 refine xn 0 ?_
 obtain rfl:=si hm
 refine ⟨_,_,_,ResL.nil,(bS.takeN 5),?_⟩
 exact ⟨bT,bU,bV,bW,bY,bZ,b0,rfl,rfl,b1,b2,b3,b4,b5⟩
 refine xn 1<|dF<|s0<|aD 0 hm ?_ ?_<;>intro c9 hm
 refine xn 1<|dT<|g0<|aA 1 0 (.agg #[V a1.Kind,V a1.ah,V a1.To,V a1.aC]) ay rfl ?_
 obtain ⟨da,b6,hm⟩:=ai hm
 have b7:St _ _ _ _ _ _ ([.ae J [Pt j 0,v11,V a0.Doc, .bool a0.az,U,V a0.av,V a1.To], .ae j (ax v4 v6 I a0.R), .gs I af (aa aj), .gs v11 ao (aa an), .gs U au (aa ar)]++[.ae a6 (cy a1)]):=(((((ay.front 5 rfl).front 5 rfl).front 5 rfl).front 5 rfl).front 5 rfl)
 refine cB 0 b7 (fun p=>xa F (a0:=(⟨a0.R,a0.Rows,a0.Doc,a0.az,a0.S,a0.av,a1.To⟩:aS)) p aI aJ aK a3 a4 b6) ?_
 rintro _ dc dd _ de b8 ⟨b9,ca,cb,cc,cd,cf,cg,rfl,rfl,ch,cj,ck,cl,cn⟩
 refine xn 0 ?_
 obtain rfl:=si hm
 refine ⟨_,_,_,ResL.nil,(b8.takeN 5),?_⟩
 exact ⟨b9,ca,cb,cc,cd,cf,cg,rfl,rfl,ch,cj,ck,cl,cn⟩
 refine xn 1<|dF<|sq ?_
 obtain ⟨cp,aE,hm⟩:=ai hm
 refine aH [0,3,23] (fun l h=>∃ bc a7 aL aM a8 aN aW aw bm aX aY aF,(a7,aL,aM,a8,aN,aW,aw,bm)=cp∧RCs (α:=an) bc aX a7∧RCs (α:=ar) bc aY a8∧l=[(0,Pt J 0),(3,Pt aF 0),(23, .bool bm)]∧St hs (aR [.ae J [Pt j 0,v11,V a0.Doc, .bool a0.az,U,V a0.av,V a0.Read], .ae j (ax v4 v6 I a0.R), .gs I af (aa aj), .gs v11 ao (aa an), .gs U au (aa ar)]) Z (0,0) bc h [.ae j (ax v4 v6 I a0.R), .gs I af (aa aj), .ae J [Pt j 0,v11,V aL, .bool aM,U,V aN,V aW], .gs v11 aX (aa an), .gs U aY (aa ar), .ae aF (cy aw)]) ?_ ?_
 rintro l dh ⟨bc,a7,aL,aM,a8,aN,aW,aw,bm,aX,aY,aF,rfl,bd,bg,rfl,ab⟩
 try dsimp only at hm
 refine db hm ?_ ?_<;>intro di hm
 refine s0<|aA 2 5 (V aw.ah) ab rfl<|aA 1 5 (V aw.To) ab rfl ?_
 obtain ⟨aZ,cq,hm⟩:=ai hm
 refine cE 0 ab (fun dj a9 cr ba=>kv F (a0:=(⟨a0.R,a7,aL,aM,a8,aN,aW⟩:aS)) cr (RS.mono a9 (aI.mono ab.ag)) (RS.mono a9 (aJ.mono ab.ag)) (bf.row (ba _ (List.mem_of_getElem? (i:=1) rfl)) a9 (aK.mono ab.ag)) (ba _ (List.mem_of_getElem? (i:=0) rfl)) (bf.row (ba _ (List.mem_of_getElem? (i:=3) rfl)) a9 bd) (bf.row (ba _ (List.mem_of_getElem? (i:=4) rfl)) a9 bg) (ba _ (List.mem_of_getElem? (i:=2) rfl)) cq) ?_
 rintro _ dk bI rfl
 refine xn 5<|s0<|aO 2 hm ?_ ?_<;>intro dm hm
 refine xn 0<|dT<|s0 ?_
 obtain ⟨ad,ct,hm⟩:=ai hm
 have cu:St _ _ _ _ _ _ ([.ae J [Pt j 0,v11,V aL, .bool aM,U,V aN,V aW], .ae j (ax v4 v6 I a0.R), .gs I af (aa aj), .gs v11 aX (aa an), .gs U aY (aa ar)]++[.ae aF (cy aw)]):=(((((bI.front 4 rfl).front 4 rfl).front 3 rfl).front 3 rfl).front 4 rfl)
 refine cB 2 cu (fun p=>tN F (a0:=(⟨a0.R,a7,aL,aM,a8,aN,aW⟩:aS)) p (aI.mono ab.ag) (aJ.mono ab.ag) (aK.mono ab.ag) bd bg ct) ?_
 rintro _ dn dp _ dq cv ⟨bn,bo,bp,bh,aG,bj,rfl,rfl,bJ,bK,bL,bM,bN⟩
 refine xn 0<|ea zV cv ?_
 intro cx dr cz br
 refine yq 3 [(43,Pt J 0),(5,V aZ.2),(4,V aZ.1),(0,Pt J 0)] ?_
 have ds:J<cx:=cz.1 _ (List.mem_of_getElem? (i:=0) rfl) _ (by simp [Itm.ids])
 refine aU (v:=Pt j 0) rfl trivial rfl (by show J<_;omega) (aB (v:=Pt j 0) trivial) (br.aP (i:=0) rfl (by kernel_rfl)) trivial<|yq 1 [(45,Pt J 0),(44,Pt j 0),(5,V aZ.2),(4,V aZ.1)] ?_
 obtain ⟨cA,cC,hm⟩:=ai hm
 have bO:=br.cD
 obtain ⟨dt,a2,cF,bb⟩:=St.ko (L:=[.ae J [Pt j 0,v11,V ad.Doc, .bool ad.az,aG,V ad.av,V ad.Read], .ae j (ax bn bo I ad.R), .gs I bp (aa aj), .gs v11 bh (aa an), .gs aG bj (aa ar), .ae aF (cy aw)]) bO
 obtain ⟨du,dw,cG,bl,rfl⟩:=my F cF (RS.mono a2 bJ) (RS.mono a2 bK) (bf.row (bb _ (List.mem_of_getElem? (i:=2) rfl)) a2 bL) (bb _ (List.mem_of_getElem? (i:=1) rfl)) (bf.row (bb _ (List.mem_of_getElem? (i:=3) rfl)) a2 bM) (bf.row (bb _ (List.mem_of_getElem? (i:=4) rfl)) a2 bN) (bb _ (List.mem_of_getElem? (i:=0) rfl)) cC
 replace bl:=St.ku a2 bl
 have cH:=St.call (A:=[]) (B:=[.ae J [Pt j 0,v11,V ad.Doc, .bool ad.az,aG,V ad.av,V ad.Read], .ae j (ax bn bo I ad.R), .gs I bp (aa aj), .gs v11 bh (aa an), .gs aG bj (aa ar), .ae aF (cy aw)]) bO bl
 refine eM rfl trivial br (cV cG rfl rfl rfl) cH (St.eC bl) ?_
 intro dx cI
 refine yq 2 [(48,V aZ.2),(47,V aZ.1),(46,V cA),(44,Pt j 0)] ?_
 obtain ⟨dy,cJ,hm⟩:=ai hm
 have bt:St _ _ _ _ _ _ ([.ae j (ax bn bo I ad.R), .gs I bp (aa aj)]++[.ae J [Pt j 0,v11,V ad.Doc, .bool ad.az,aG,V ad.av,V ad.Read], .gs v11 bh (aa an), .gs aG bj (aa ar), .ae aF (cy aw)]):=((cI.front 2 rfl).front 2 rfl)
 obtain ⟨dz,dA,dB,dC,cK,bP,cL,cM,cN,cP,rfl,rfl,cR,cS,cT⟩:=fk F bt.cD.ez bJ bK bL cJ
 have bu:=bP.ag
 refine fF rfl trivial bt (cV cK rfl rfl rfl) bP bu (.aT (bt.bz 0 rfl bH) .nil) ?_
 intro dD cU
 refine yf [] ?_
 have cW:=cU.a5
 obtain rfl:=si hm
 refine ⟨_,_,_,ResL.nil,((((((cW.front 4 rfl).front 4 rfl).front 3 rfl).front 3 rfl).front 4 rfl).takeN 5),?_⟩
 exact ⟨cL,cM,cN,cP,bh,aG,bj,rfl,rfl,cR,cS,cT,(bM.mono bu),(bN.mono bu)⟩
 refine xn 0<|dF<|sk ?_
 obtain rfl:=si hm
 refine ⟨_,_,_,ResL.nil,((((((bI.front 4 rfl).front 4 rfl).front 3 rfl).front 3 rfl).front 4 rfl).takeN 5),?_⟩
 exact ⟨v4,v6,I,af,aX,U,aY,rfl,rfl,(aI.mono ab.ag),(aJ.mono ab.ag),(aK.mono ab.ag),bd,bg⟩
 refine sk ?_
 obtain rfl:=si hm
 refine ⟨_,_,_,ResL.nil,((((((ab.front 4 rfl).front 4 rfl).front 3 rfl).front 3 rfl).front 4 rfl).takeN 5),?_⟩
 exact ⟨v4,v6,I,af,aX,U,aY,rfl,rfl,(aI.mono ab.ag),(aJ.mono ab.ag),(aK.mono ab.ag),bd,bg⟩
 refine s0<|aD 0 aE ?_ ?_<;>intro dE aE
 refine xn 1<|dT<|sk ?_
 obtain rfl:=si aE
 exact ⟨_,a0.Rows,a0.Doc,a0.az,a0.S,a0.av,a1.To,a1,true,ao,au,a6,rfl,a3,a4,(by kernel_rfl),((((((ay.front 0 rfl).front 5 rfl).front 5 rfl).front 3 rfl).front 5 rfl).front 5 rfl)⟩
 refine xn 1<|dF<|g0<|aD 0 aE ?_ ?_<;>intro dG aE
 refine xn 1 ?_
 obtain rfl:=si aE
 exact ⟨_,a0.Rows,a0.Doc,a0.az,a0.S,a0.av,a1.To,a1,true,ao,au,a6,rfl,a3,a4,(by kernel_rfl),((((((ay.front 0 rfl).front 5 rfl).front 5 rfl).front 3 rfl).front 5 rfl).front 5 rfl)⟩
 refine xn 1 ?_
 obtain rfl:=si aE
 exact ⟨_,a0.Rows,a0.Doc,a0.az,a0.S,a0.av,a1.To,a1,false,ao,au,a6,rfl,a3,a4,(by kernel_rfl),((((((ay.front 0 rfl).front 5 rfl).front 5 rfl).front 3 rfl).front 5 rfl).front 5 rfl)⟩
def BC:List aV:=[u 12 (mv 0),u 13 (mv 4),u 14 (.slice 31 (t 12) (some (t 13)) none none),u 15 (cf 60 #[(t 14)] #[31]),u 11 (mv 15),u 16 (.extract (t 11) 0),u 17 (.extract (t 11) 1),u 5 (sg 16),u 6 (sg 17)]
def yx:List aV:=[u 20 (mv 3),u 21 (mv 4),u 22 (.buildSlice 23 1 #[(0,(t 21))]),u 23 (cb .append #[(t 20),(t 22)] #[23,23]),u 3 (sg 23)]
def correctorref1_Bad_l0 (F:Nat) (a0:List UInt8):Nat→(List Int)→Int→Option (List Int)
 | 0,_,_=>none
 | n+1,I,j=>
  if j<(a0.length:Int) then
   if 0≤j∧j≤(a0.length:Int)∧(a0.length:Int)≤(a0.length:Int) then
    (ji F ((a0.take (a0.length:Int).toNat).drop j.toNat)).bind fun J=>
    ((if J.1<(0:Int) then
      if I.length+([j]:List Int).length≤17592186044416 then
       some (I++([j]:List Int))
      else none
     else
      some I):Option (List Int)).bind fun o=>match o with
     | U=>correctorref1_Bad_l0 F a0 n U (af (j+J.2))
   else none
  else
   some I
def mL (F:Nat) (a0:List UInt8):Option (List Int):=
 ((correctorref1_Bad_l0 F a0 F [] 0):Option (List Int)).bind fun o=>match o with
  | j=>some j
theorem BP (F:Nat) {h:AH} {Z:Zn} {a0:List UInt8} {v2} (hP:Pre Z h []) (aC:RS (α:=UInt8) Z v2 a0) {r:(List Int)} (hm:mL F a0=some r):
  bX Try.prog 49 [v2] h Z [] fun v Z' A'=>∃ v4 aD,v4=v∧A'=[.gs v4 aD (aa Int)]∧RCs (α:=Int) Z' aD r:=by
 refine cm Try.func49 hP ?_
 intro hs hS
 unfold mL at hm
 replace hS:St hs [] Z (0,0) Z hs []:=hS
 refine sp 1<|sp 1<|sq<|sp 1 ?_
 obtain ⟨au,J,hm⟩:=ai hm
 refine aH [3] (fun l h=>∃ av aw ae al,aw=au∧RCs (α:=Int) av al aw∧l=[(3,ae)]∧St hs [] Z (0,0) av h [.gs ae al (aa Int)]) ?_ ?_
 rintro l aZ ⟨av,aw,ae,al,rfl,aG,rfl,aI⟩
 try dsimp only at hm
 refine sp 2<|rt<|⟨rfl,?_⟩
 obtain rfl:=si hm
 refine ⟨_,_,_,tk ae (ResL.nil),aI,?_⟩
 exact ⟨ae,al,rfl,rfl,aG⟩
 refine bk 0 ?_
 have aJ:=hS.dE (aa Int)
 refine lp [0,3,4] (fun n l h=>∃ an ab I U ah,correctorref1_Bad_l0 F a0 n ab I=some au∧RCs (α:=Int) an ah ab∧l=[(0,v2),(3,U),(4,V I)]∧St hs [] Z (0,0) an h [.gs U ah (aa Int)]) F ⟨_,[],0,(.slice none 0 0),[],J,(RCs.bA _),(by kernel_rfl),aJ⟩ ?_
 rintro ax l a1 ⟨an,ab,I,U,ah,J,ay,rfl,aj⟩
 rcases ax with _ | ax
 cases (show none=some au from J)
 rw [correctorref1_Bad_l0] at J
 refine sq<|s0<|bM 2 v2 (RS.len (aC.mono aj.ag))<|aO 0 J ?_ ?_<;>intro a2 J
 refine xn 0<|dT<|sk<|bk 1<|sr BC<|xq 2 [(13,V I),(12,v2),(0,v2),(3,U),(4,V I)] ?_
 obtain ⟨az,J⟩:=aK J
 refine mS rfl trivial (j2 (a:=I) (b:=(a0.length:Int)) (aC.mono aj.ag) rfl (by kernel_rfl:slTy _ _=some (aa UInt8)) ⟨_,rfl⟩ rfl az.1 az.2.1 az.2.2) ?_
 intro a3 aL
 obtain ⟨aA,aM,J⟩:=ai J
 refine cP 0 aj (oY F aj.inv aL aM) ?_
 rintro _ a4 aE rfl
 refine xn 5<|sq ?_
 obtain ⟨aP,ad,J⟩:=ai J
 refine ec [0,3,4,6] (fun l h=>∃ aB ao aq ar,ao=aP∧RCs (α:=Int) aB ar ao∧l=[(0,v2),(3,aq),(4,V I),(6,V aA.2)]∧St hs [] Z (0,0) aB h [.gs aq ar (aa Int)]) (by kernel_rfl) ?_ ?_
 rintro l a5 ⟨aB,ao,aq,ar,rfl,aR,rfl,aS⟩
 try dsimp only at J
 refine gp 4 ?_
 exact ⟨ax,Nat.lt_succ_self _,⟨_,ao,af (I+aA.2),aq,ar,J,aR,(by kernel_rfl),aS⟩⟩
 refine g0<|aO 1 ad ?_ ?_ (kd:= .i32)<;>intro a6 ad
 refine xn 0<|dT<|rg yx<|xq 2 [(21,V I),(20,U),(6,V aA.2),(0,v2),(3,U),(4,V I)] ?_
 have aT:RCs (α:=Int) an [V I] ([I]:List Int):=RCs.cons (cs:=[V I]) rfl (RCs.bA _)
 refine eh rfl trivial (c6 (cells:=[V I]) (s:=1) (by kernel_rfl)) (by kernel_rfl) aE ?_
 intro a7 a8 aF
 obtain ⟨a9,ad⟩:=aK ad
 refine gd rfl trivial (dZ (ys:=([I]:List Int)) (b4:=8) aF (i:=1) rfl ay ((aF).eK (j:=0) rfl aT) rfl rfl (by kernel_rfl) (by omega) (by omega)) ?_
 rintro aU aW ba ⟨aX,aY⟩
 refine xn 1 ?_
 obtain rfl:=si ad
 exact ⟨_,ab++([I]:List Int),aU,aW,rfl,aX,(by kernel_rfl),((aY.front 1 rfl).takeN 1)⟩
 refine xn 0<|dF<|sk ?_
 obtain rfl:=si ad
 exact ⟨_,ab,U,ah,rfl,ay,(by kernel_rfl),aE⟩
 refine xn 0<|dF<|xt 0<|aN ?_
 obtain rfl:=si J
 exact ⟨_,ab,U,ah,rfl,ay,(by kernel_rfl),aj⟩
def wH:List aV:=[u 12 (mv 0),u 13 (mv 5),u 14 (.index 9 (t 12) (t 13)),u 15 (.binOp .neq 5 (t 14) (.const (.int .u8 39)) 5)]
def yz:List aV:=[u 16 (mv 4),u 17 (mv 0),u 18 (mv 5),u 19 (mv 5),u 20 (bc .add 3 19 1 3),u 21 (.slice 9 (t 17) (some (t 18)) (some (t 20)) none),u 22 (bo .add 9 16 21 9),u 4 (sg 22)]
def zj:List aV:=[u 23 (mv 5),u 24 (bc .add 3 23 1 3),u 25 (mv 0),u 26 (cb .len #[(t 25)] #[9]),u 27 (bo .geq 3 24 26 3),u 28 (mv 27),gn 28 29 (mv 0),gn 28 30 (mv 5),gn 28 31 (bc .add 3 30 1 3),gn 28 32 (.index 9 (t 29) (t 31)),gn 28 33 (.binOp .neq 5 (t 32) (.const (.int .u8 39)) 5),u 34 (pt 28 33)]
def zQ:List aV:=[u 36 (mv 4),u 37 (.binOp .add 9 (t 36) (.const (.string {data:=#[39]})) 9),u 4 (sg 37)]
def correctorref7_single_l0 (F:Nat) (a0:aL):Nat→aL→Int→Option (Sum aL (aL×Bool))
 | 0,_,_=>none
 | n+1,I,j=>
  if j<(a0.b.length:Int) then
   if 0≤j then
    (a0.b[j.toNat]?).bind fun J=>
    if (J.toNat:Int)=(39:Int) then
     if (a0.b.length:Int)≤(af (j+1)) then
      some (.inr (I,true))
     else
      if 0≤(af (j+1)) then
       (a0.b[(af (j+1)).toNat]?).bind fun U=>
       if (U.toNat:Int)=(39:Int) then
        if I.b.length+([39]:List UInt8).length≤4611686018427387904 then
         correctorref7_single_l0 F a0 n (⟨I.b++[39]⟩:aL) (af ((af (j+1))+1))
        else none
       else
        some (.inr (I,true))
      else none
    else
     if 0≤j∧j≤(af (j+1))∧(af (j+1))≤(a0.b.length:Int) then
      if I.b.length+((a0.b.take (af (j+1)).toNat).drop j.toNat).length≤4611686018427387904 then
       correctorref7_single_l0 F a0 n (⟨I.b++((a0.b.take (af (j+1)).toNat).drop j.toNat)⟩:aL) (af (j+1))
      else none
     else none
   else none
  else
   some (.inl I)
def nZ (F:Nat) (a0:aL):Option (aL×Bool):=
 ((correctorref7_single_l0 F a0 F (⟨[]⟩:aL) 1):Option (Sum aL (aL×Bool))).bind fun o=>match o with
  | .inl j=>some (j,false)
  | .inr y=>some y
theorem BB (F:Nat) {h:AH} {Z:Zn} {a0:aL} (hI:Inv Z h) {r:aL×Bool} (hm:nZ F a0=some r):
  bU Try.prog 73 [.string ⟨⟨a0.b⟩⟩] h Z (.tuple #[.string ⟨⟨r.1.b⟩⟩, .bool r.2]):=by
 refine b1 Try.func73 hI ?_
 intro hs hS
 unfold nZ at hm
 refine sp 2<|sp 1<|sq<|sp 1 ?_
 obtain ⟨ad,j,hm⟩:=ai hm
 refine aH [4] (fun l h=>∃ ag aa, .inl aa=ad∧l=[(4, .string ⟨⟨aa.b⟩⟩)]∧St hs [] Z (0,0) ag h []) ?_ ?_
 rintro l av ⟨ag,aa,rfl,rfl,aj⟩
 try dsimp only at hm
 refine sp 3<|rt<|⟨rfl,?_⟩
 obtain rfl:=si hm
 refine ⟨_,_,_,tk (.string ⟨⟨aa.b⟩⟩) (tk (.bool false) (ResL.nil)),aj,?_⟩
 exact rfl
 refine bk 0<|lp [0,4,5] (fun n l h=>∃ ah J I,correctorref7_single_l0 F a0 n J I=some ad∧l=[(0, .string ⟨⟨a0.b⟩⟩),(4, .string ⟨⟨J.b⟩⟩),(5,V I)]∧St hs [] Z (0,0) ah h []) F ⟨_,(⟨[]⟩:aL),1,j,(by kernel_rfl),hS⟩ ?_
 rintro ab l aw ⟨ah,J,I,j,rfl,U⟩
 rcases ab with _ | ab
 cases (show none=some ad from j)
 rw [correctorref7_single_l0] at j
 refine sq<|s0<|aO 3 j ?_ ?_<;>intro ax j
 refine xn 0<|dT<|sk<|sq<|bk 1<|sq<|sr wH<|xq 2 [(13,V I),(12, .string ⟨⟨a0.b⟩⟩),(0, .string ⟨⟨a0.b⟩⟩),(4, .string ⟨⟨J.b⟩⟩),(5,V I)] ?_
 obtain ⟨al,j⟩:=aK j
 obtain ⟨ay,an,j⟩:=ai j
 refine bN rfl trivial (jk (bs:=a0.b) (i:=I) rfl rfl (by kernel_rfl) al an)<|cZ 0 j ?_ ?_ (kd:= .u8)<;>intro az j
 refine xn 0<|dF<|sk<|sq<|sr zj<|cv 4 j ?_ ?_<;>intro aA j
 refine xn 7<|dT<|sp 3<|rt<|ba<|ba<|⟨rfl,?_⟩
 obtain rfl:=si j
 obtain rfl:=si hm
 refine ⟨_,_,_,tk (.string ⟨⟨J.b⟩⟩) (tk (.bool true) (ResL.nil)),U,?_⟩
 exact rfl
 refine xq 4 [(31,V (af (I+1))),(29, .string ⟨⟨a0.b⟩⟩),(28, .bool false),(0, .string ⟨⟨a0.b⟩⟩),(4, .string ⟨⟨J.b⟩⟩),(5,V I)] ?_
 obtain ⟨ao,j⟩:=aK j
 obtain ⟨aB,aq,j⟩:=ai j
 refine bN rfl rfl (jk (bs:=a0.b) (i:=af (I+1)) rfl rfl (by kernel_rfl) ao aq)<|cZ 0 j ?_ ?_ (kd:= .u8)<;>intro aC j
 refine xn 1<|dF<|sk<|sr zQ<|xq 1 [(36, .string ⟨⟨J.b⟩⟩),(0, .string ⟨⟨a0.b⟩⟩),(4, .string ⟨⟨J.b⟩⟩),(5,V I)] ?_
 obtain ⟨ar,j⟩:=aK j
 refine bN rfl trivial (kl rfl rfl (by simpa using ar))<|xn 1<|gp 3<|gp 3 ?_
 exact ⟨ab,Nat.lt_succ_self _,⟨_,(⟨J.b++[39]⟩:aL),af ((af (I+1))+1),j,(by kernel_rfl),U⟩⟩
 refine xn 1<|dT<|sp 3<|rt<|ba<|ba<|⟨rfl,?_⟩
 obtain rfl:=si j
 obtain rfl:=si hm
 refine ⟨_,_,_,tk (.string ⟨⟨J.b⟩⟩) (tk (.bool true) (ResL.nil)),U,?_⟩
 exact rfl
 refine xn 0<|dT<|sr yz<|xq 5 [(20,V (af (I+1))),(18,V I),(17, .string ⟨⟨a0.b⟩⟩),(16, .string ⟨⟨J.b⟩⟩),(0, .string ⟨⟨a0.b⟩⟩),(4, .string ⟨⟨J.b⟩⟩),(5,V I)] ?_
 obtain ⟨ae,j⟩:=aK j
 refine bN rfl trivial (n2 (bs:=a0.b) (a:=I) (b:=af (I+1)) rfl (by kernel_rfl) ⟨_,rfl⟩ ⟨_,rfl⟩ ae.1 ae.2.1 ae.2.2) ?_
 obtain ⟨au,j⟩:=aK j
 refine bN rfl trivial (kl rfl rfl (by simpa using au))<|xn 1<|xt 1<|aN<|gp 3 ?_
 exact ⟨ab,Nat.lt_succ_self _,⟨_,(⟨J.b++((a0.b.take (af (I+1)).toNat).drop I.toNat)⟩:aL),af (I+1),j,(by kernel_rfl),U⟩⟩
 refine xn 0<|dF<|xt 0<|aN ?_
 obtain rfl:=si j
 exact ⟨_,J,rfl,(by kernel_rfl),U⟩
def vV:List aV:=[u 20 (mv 0),u 21 (.buildSlice 31 1 #[(0,(t 20))]),u 22 (.convert 31 9 (t 21)),u 2 (sg 22),u 3 (.assign (.const (.bool true)))]
def nU (F:Nat) (a0:Int):Option (aL×Bool):=
 if a0=(48:Int) then
  some ((⟨[0]⟩:aL),true)
 else
  if a0=(116:Int) then
   some ((⟨[9]⟩:aL),true)
  else
   if a0=(110:Int) then
    some ((⟨[10]⟩:aL),true)
   else
    if a0=(114:Int) then
     some ((⟨[13]⟩:aL),true)
    else
     if a0=(101:Int) then
      some ((⟨[27]⟩:aL),true)
     else
      ((if a0=(34:Int) then
        some true
       else
        if a0=(47:Int) then
         some true
        else
         if a0=(92:Int) then
          some true
         else
          if a0=(32:Int) then
           some true
          else
           some false):Option Bool).bind fun o=>match o with
       | j=>if j=true then
        if (0≤a0∧a0<256) then
         some ((⟨([UInt8.ofNat a0.toNat]:List UInt8)⟩:aL),true)
        else none
       else
        some ((⟨[]⟩:aL),false)
theorem wA (F:Nat) {h:AH} {Z:Zn} {a0:Int} (hI:Inv Z h) {r:aL×Bool} (hm:nU F a0=some r):
  bU Try.prog 96 [.int .u8 a0] h Z (.tuple #[.string ⟨⟨r.1.b⟩⟩, .bool r.2]):=by
 refine b1 Try.func96 hI ?_
 intro hs hS
 unfold nU at hm
 refine sp 2<|sq<|sp 1<|bk 0<|s0<|aD 0 hm ?_ ?_ (kd:= .u8)<;>intro ag hm
 refine xn 1<|dT<|sp 2<|rt<|ba<|⟨rfl,?_⟩
 obtain rfl:=si hm
 refine ⟨_,_,_,tk (.string ⟨⟨[0]⟩⟩) (tk (.bool true) (ResL.nil)),hS,?_⟩
 exact rfl
 refine xn 1<|dF<|s0<|aD 0 hm ?_ ?_ (kd:= .u8)<;>intro ah hm
 refine xn 1<|dT<|sp 2<|rt<|ba<|⟨rfl,?_⟩
 obtain rfl:=si hm
 refine ⟨_,_,_,tk (.string ⟨⟨[9]⟩⟩) (tk (.bool true) (ResL.nil)),hS,?_⟩
 exact rfl
 refine xn 1<|dF<|s0<|aD 0 hm ?_ ?_ (kd:= .u8)<;>intro aj hm
 refine xn 1<|dT<|sp 2<|rt<|ba<|⟨rfl,?_⟩
 obtain rfl:=si hm
 refine ⟨_,_,_,tk (.string ⟨⟨[10]⟩⟩) (tk (.bool true) (ResL.nil)),hS,?_⟩
 exact rfl
 refine xn 1<|dF<|s0<|aD 0 hm ?_ ?_ (kd:= .u8)<;>intro al hm
 refine xn 1<|dT<|sp 2<|rt<|ba<|⟨rfl,?_⟩
 obtain rfl:=si hm
 refine ⟨_,_,_,tk (.string ⟨⟨[13]⟩⟩) (tk (.bool true) (ResL.nil)),hS,?_⟩
 exact rfl
 refine xn 1<|dF<|s0<|aD 0 hm ?_ ?_ (kd:= .u8)<;>intro an hm
 refine xn 1<|dT<|sp 2<|rt<|ba<|⟨rfl,?_⟩
 obtain rfl:=si hm
 refine ⟨_,_,_,tk (.string ⟨⟨[27]⟩⟩) (tk (.bool true) (ResL.nil)),hS,?_⟩
 exact rfl
 refine xn 1<|dF<|sq ?_
 obtain ⟨ad,I,hm⟩:=ai hm
 refine aH [0,15] (fun l h=>∃ J U,U=ad∧l=[(0, .int .u8 a0),(15, .bool U)]∧St hs [] Z (0,0) J h []) ?_ ?_
 rintro l ao ⟨J,U,rfl,rfl,aa⟩
 try dsimp only at hm
 refine db hm ?_ ?_<;>intro aq hm
 refine sr vV<|xq 1 [(20, .int .u8 a0)] ?_
 obtain ⟨ae,hm⟩:=aK hm
 have af:RCs (α:=UInt8) J [.int .u8 a0] ([UInt8.ofNat a0.toNat]:List UInt8):=RCs.cons (cs:=[.int .u8 a0]) (gN ae) (RCs.bA _)
 refine eh rfl trivial (c6 (cells:=[.int .u8 a0]) (s:=1) (by kernel_rfl)) (by kernel_rfl) aa ?_
 intro ar au ab
 refine bN rfl trivial (uE ab (j:=0) rfl af rfl (by kernel_rfl))<|xn 2<|rt<|ba<|⟨rfl,?_⟩
 obtain rfl:=si hm
 refine ⟨_,_,_,tk (.string ⟨⟨([UInt8.ofNat a0.toNat]:List UInt8)⟩⟩) (tk (.bool true) (ResL.nil)),ab,?_⟩
 exact rfl
 refine sk<|sp 2<|rt<|⟨rfl,?_⟩
 obtain rfl:=si hm
 refine ⟨_,_,_,tk (.string ⟨⟨[]⟩⟩) (tk (.bool false) (ResL.nil)),aa,?_⟩
 exact rfl
 refine s0<|aD 0 I ?_ ?_ (kd:= .u8)<;>intro av I
 refine xn 1<|dT<|sk ?_
 obtain rfl:=si I
 exact ⟨_,true,rfl,(by kernel_rfl),hS⟩
 refine xn 1<|dF<|s0<|aD 0 I ?_ ?_ (kd:= .u8)<;>intro aw I
 refine xn 1<|dT<|sk ?_
 obtain rfl:=si I
 exact ⟨_,true,rfl,(by kernel_rfl),hS⟩
 refine xn 1<|dF<|s0<|aD 0 I ?_ ?_ (kd:= .u8)<;>intro ax I
 refine xn 1<|dT<|sk ?_
 obtain rfl:=si I
 exact ⟨_,true,rfl,(by kernel_rfl),hS⟩
 refine xn 1<|dF<|g0<|aD 0 I ?_ ?_ (kd:= .u8)<;>intro ay I
 refine xn 1 ?_
 obtain rfl:=si I
 exact ⟨_,true,rfl,(by kernel_rfl),hS⟩
 refine xn 1 ?_
 obtain rfl:=si I
 exact ⟨_,false,rfl,(by kernel_rfl),hS⟩
def mZ (F:Nat) (a0:Int):Option Int:=
 ((if (48:Int)≤a0 then
   if a0≤(57:Int) then
    some true
   else
    some false
  else
   some false):Option Bool).bind fun o=>match o with
  | j=>((if j=true then
    some (.inr (af (w8 (a0 - 48))))
   else
    ((if (97:Int)≤a0 then
      if a0≤(102:Int) then
       some true
      else
       some false
     else
      some false):Option Bool).bind fun o=>match o with
     | I=>if I=true then
      some (.inr (af ((af (w8 (a0 - 97)))+10)))
     else
      if (65:Int)≤a0 then
       if a0≤(70:Int) then
        some (.inr (af ((af (w8 (a0 - 65)))+10)))
       else
        some (.inl ())
      else
       some (.inl ())):Option (Sum Unit Int)).bind fun o=>match o with
   | .inl ()=>some (-1)
   | .inr y=>some y
theorem Da (F:Nat) {h:AH} {Z:Zn} {a0:Int} (hI:Inv Z h) {r:Int} (hm:mZ F a0=some r):
  bU Try.prog 97 [.int .u8 a0] h Z (V r):=by
 refine b1 Try.func97 hI ?_
 intro hs hS
 unfold mZ at hm
 refine sp 1<|sq<|bk 0<|sq ?_
 obtain ⟨aj,I,hm⟩:=ai hm
 refine aH [0,3] (fun l h=>∃ ae ab,ab=aj∧l=[(0, .int .u8 a0),(3, .bool ab)]∧St hs [] Z (0,0) ae h []) ?_ ?_
 rintro l aq ⟨ae,ab,rfl,rfl,U⟩
 try dsimp only at hm
 obtain ⟨al,j,hm⟩:=ai hm
 refine aH [] (fun l h=>∃ ag, .inl ()=al∧l=[]∧St hs [] Z (0,0) ag h []) ?_ ?_
 rintro l ar ⟨ag,rfl,rfl,an⟩
 try dsimp only at hm
 refine sp 1<|rt<|⟨rfl,?_⟩
 obtain rfl:=si hm
 refine ⟨_,_,_,tk (V (-1)) (ResL.nil),an,?_⟩
 exact rfl
 refine db j ?_ ?_<;>intro au j
 refine s0<|eA 2 (V (af (w8 (a0 - 48))))<|xn 1<|rt<|ba<|⟨rfl,?_⟩
 obtain rfl:=si j
 obtain rfl:=si hm
 refine ⟨_,_,_,tk (V (af (w8 (a0 - 48)))) (ResL.nil),U,?_⟩
 exact rfl
 refine sq ?_
 obtain ⟨ao,J,j⟩:=ai j
 refine aH [0,13] (fun l h=>∃ ah ad,ad=ao∧l=[(0, .int .u8 a0),(13, .bool ad)]∧St hs [] Z (0,0) ah h []) ?_ ?_
 rintro l av ⟨ah,ad,rfl,rfl,aa⟩
 try dsimp only at j
 refine db j ?_ ?_<;>intro aw j
 refine s0<|eA 2 (V (af (w8 (a0 - 97))))<|xn 2<|rt<|ba<|⟨rfl,?_⟩
 obtain rfl:=si j
 obtain rfl:=si hm
 refine ⟨_,_,_,tk (V (af ((af (w8 (a0 - 97)))+10))) (ResL.nil),aa,?_⟩
 exact rfl
 refine s0<|cv 1 j ?_ ?_ (kd:= .u8)<;>intro ax j
 refine fm 2 j ?_ ?_ (kd:= .u8)<;>intro ay j
 refine xn 2<|dT<|s0<|eA 2 (V (af (w8 (a0 - 65))))<|xn 2<|rt<|ba<|⟨rfl,?_⟩
 obtain rfl:=si j
 obtain rfl:=si hm
 refine ⟨_,_,_,tk (V (af ((af (w8 (a0 - 65)))+10))) (ResL.nil),aa,?_⟩
 exact rfl
 refine xn 2<|dF<|sk ?_
 obtain rfl:=si j
 exact ⟨_,rfl,(by kernel_rfl),aa⟩
 refine xn 5<|dF<|sk ?_
 obtain rfl:=si j
 exact ⟨_,rfl,(by kernel_rfl),aa⟩
 refine g0<|cv 1 J ?_ ?_ (kd:= .u8)<;>intro az J
 refine fm 2 J ?_ ?_ (kd:= .u8)<;>intro aA J
 refine xn 2 ?_
 obtain rfl:=si J
 exact ⟨_,true,rfl,(by kernel_rfl),U⟩
 refine xn 2 ?_
 obtain rfl:=si J
 exact ⟨_,false,rfl,(by kernel_rfl),U⟩
 refine xn 5 ?_
 obtain rfl:=si J
 exact ⟨_,false,rfl,(by kernel_rfl),U⟩
 refine g0<|cv 1 I ?_ ?_ (kd:= .u8)<;>intro aB I
 refine fm 2 I ?_ ?_ (kd:= .u8)<;>intro aC I
 refine xn 2 ?_
 obtain rfl:=si I
 exact ⟨_,true,rfl,(by kernel_rfl),hS⟩
 refine xn 2 ?_
 obtain rfl:=si I
 exact ⟨_,false,rfl,(by kernel_rfl),hS⟩
 refine xn 5 ?_
 obtain rfl:=si I
 exact ⟨_,false,rfl,(by kernel_rfl),hS⟩
def Dx:List aV:=[u 6 (mv 0),u 7 (.convert 21 5 (t 6)),u 8 (.buildSlice 31 1 #[(0,(t 7))]),u 2 (sg 8)]
def C6:List aV:=[u 12 (mv 0),u 13 (.binOp .shr 21 (t 12) (.const (.int .u64 6)) 130),u 14 (.binOp .or 21 (.const (.int .i32 192)) (t 13) 21),u 15 (.convert 21 5 (t 14)),u 16 (mv 0),u 17 (.binOp .and 21 (t 16) (.const (.int .i32 63)) 21),u 18 (.binOp .or 21 (.const (.int .i32 128)) (t 17) 21),u 19 (.convert 21 5 (t 18)),u 20 (.buildSlice 31 2 #[(0,(t 15)),(1,(t 19))]),u 2 (sg 20)]
def vZ:List aV:=[u 24 (mv 0),u 25 (.binOp .shr 21 (t 24) (.const (.int .u64 12)) 130),u 26 (.binOp .or 21 (.const (.int .i32 224)) (t 25) 21),u 27 (.convert 21 5 (t 26)),u 28 (mv 0),u 29 (.binOp .shr 21 (t 28) (.const (.int .u64 6)) 130),u 30 (.binOp .and 21 (t 29) (.const (.int .i32 63)) 21),u 31 (.binOp .or 21 (.const (.int .i32 128)) (t 30) 21),u 32 (.convert 21 5 (t 31)),u 33 (mv 0),u 34 (.binOp .and 21 (t 33) (.const (.int .i32 63)) 21),u 35 (.binOp .or 21 (.const (.int .i32 128)) (t 34) 21),u 36 (.convert 21 5 (t 35)),u 37 (.buildSlice 31 3 #[(0,(t 27)),(1,(t 32)),(2,(t 36))]),u 2 (sg 37)]
def xc:List aV:=[u 38 (mv 0),u 39 (.binOp .shr 21 (t 38) (.const (.int .u64 18)) 130),u 40 (.binOp .or 21 (.const (.int .i32 240)) (t 39) 21),u 41 (.convert 21 5 (t 40)),u 42 (mv 0),u 43 (.binOp .shr 21 (t 42) (.const (.int .u64 12)) 130),u 44 (.binOp .and 21 (t 43) (.const (.int .i32 63)) 21),u 45 (.binOp .or 21 (.const (.int .i32 128)) (t 44) 21),u 46 (.convert 21 5 (t 45)),u 47 (mv 0),u 48 (.binOp .shr 21 (t 47) (.const (.int .u64 6)) 130),u 49 (.binOp .and 21 (t 48) (.const (.int .i32 63)) 21),u 50 (.binOp .or 21 (.const (.int .i32 128)) (t 49) 21),u 51 (.convert 21 5 (t 50)),u 52 (mv 0),u 53 (.binOp .and 21 (t 52) (.const (.int .i32 63)) 21),u 54 (.binOp .or 21 (.const (.int .i32 128)) (t 53) 21),u 55 (.convert 21 5 (t 54)),u 56 (.buildSlice 31 4 #[(0,(t 41)),(1,(t 46)),(2,(t 51)),(3,(t 55))]),u 2 (sg 56)]
def nf (F:Nat) (a0:Int):Option (List UInt8):=
 if a0<(128:Int) then
  if (0≤(IntKind.wrap .u8 a0)∧(IntKind.wrap .u8 a0)<256) then
   some ([UInt8.ofNat (IntKind.wrap .u8 a0).toNat]:List UInt8)
  else none
 else
  if a0<(2048:Int) then
   if (0≤(IntKind.wrap .u8 (a3 .i32 192 (bJ .i32 a0 6)))∧(IntKind.wrap .u8 (a3 .i32 192 (bJ .i32 a0 6)))<256)∧(0≤(IntKind.wrap .u8 (a3 .i32 128 (bx .i32 a0 63)))∧(IntKind.wrap .u8 (a3 .i32 128 (bx .i32 a0 63)))<256) then
    some ([UInt8.ofNat (IntKind.wrap .u8 (a3 .i32 192 (bJ .i32 a0 6))).toNat,UInt8.ofNat (IntKind.wrap .u8 (a3 .i32 128 (bx .i32 a0 63))).toNat]:List UInt8)
   else none
  else
   if a0<(65536:Int) then
    if (0≤(IntKind.wrap .u8 (a3 .i32 224 (bJ .i32 a0 12)))∧(IntKind.wrap .u8 (a3 .i32 224 (bJ .i32 a0 12)))<256)∧(0≤(IntKind.wrap .u8 (a3 .i32 128 (bx .i32 (bJ .i32 a0 6) 63)))∧(IntKind.wrap .u8 (a3 .i32 128 (bx .i32 (bJ .i32 a0 6) 63)))<256)∧(0≤(IntKind.wrap .u8 (a3 .i32 128 (bx .i32 a0 63)))∧(IntKind.wrap .u8 (a3 .i32 128 (bx .i32 a0 63)))<256) then
     some ([UInt8.ofNat (IntKind.wrap .u8 (a3 .i32 224 (bJ .i32 a0 12))).toNat,UInt8.ofNat (IntKind.wrap .u8 (a3 .i32 128 (bx .i32 (bJ .i32 a0 6) 63))).toNat,UInt8.ofNat (IntKind.wrap .u8 (a3 .i32 128 (bx .i32 a0 63))).toNat]:List UInt8)
    else none
   else
    if (0≤(IntKind.wrap .u8 (a3 .i32 240 (bJ .i32 a0 18)))∧(IntKind.wrap .u8 (a3 .i32 240 (bJ .i32 a0 18)))<256)∧(0≤(IntKind.wrap .u8 (a3 .i32 128 (bx .i32 (bJ .i32 a0 12) 63)))∧(IntKind.wrap .u8 (a3 .i32 128 (bx .i32 (bJ .i32 a0 12) 63)))<256)∧(0≤(IntKind.wrap .u8 (a3 .i32 128 (bx .i32 (bJ .i32 a0 6) 63)))∧(IntKind.wrap .u8 (a3 .i32 128 (bx .i32 (bJ .i32 a0 6) 63)))<256)∧(0≤(IntKind.wrap .u8 (a3 .i32 128 (bx .i32 a0 63)))∧(IntKind.wrap .u8 (a3 .i32 128 (bx .i32 a0 63)))<256) then
     some ([UInt8.ofNat (IntKind.wrap .u8 (a3 .i32 240 (bJ .i32 a0 18))).toNat,UInt8.ofNat (IntKind.wrap .u8 (a3 .i32 128 (bx .i32 (bJ .i32 a0 12) 63))).toNat,UInt8.ofNat (IntKind.wrap .u8 (a3 .i32 128 (bx .i32 (bJ .i32 a0 6) 63))).toNat,UInt8.ofNat (IntKind.wrap .u8 (a3 .i32 128 (bx .i32 a0 63))).toNat]:List UInt8)
    else none
theorem vX (F:Nat) {h:AH} {Z:Zn} {a0:Int} (hP:Pre Z h []) {r:(List UInt8)} (hm:nf F a0=some r):
  bX Try.prog 98 [.int .i32 a0] h Z [] fun v Z' A'=>∃ v2 J,v2=v∧A'=[.gs v2 J (aa UInt8)]∧RCs (α:=UInt8) Z' J r:=by
 refine cm Try.func98 hP ?_
 intro hs hS
 unfold nf at hm
 replace hS:St hs [] Z (0,0) Z hs []:=hS
 refine sp 1<|sq<|bk 0<|s0<|aO 1 hm ?_ ?_ (kd:= .i32)<;>intro au hm
 refine xn 1<|dT<|sr Dx<|xq 1 [(6, .int .i32 a0)]<|eA 0 (.int .u8 (IntKind.wrap .u8 a0)) ?_
 obtain ⟨ag,hm⟩:=aK hm
 have ah:RCs (α:=UInt8) Z [.int .u8 (IntKind.wrap .u8 a0)] ([UInt8.ofNat (IntKind.wrap .u8 a0).toNat]:List UInt8):=RCs.cons (cs:=[.int .u8 (IntKind.wrap .u8 a0)]) (gN ag) (RCs.bA _)
 refine eh rfl trivial (c6 (cells:=[.int .u8 (IntKind.wrap .u8 a0)]) (s:=1) (by kernel_rfl)) (by kernel_rfl) hS ?_
 intro U av ai
 refine xn 1<|rt<|ba<|⟨rfl,?_⟩
 obtain rfl:=si hm
 refine ⟨_,_,_,tk U (ResL.nil),ai,?_⟩
 exact ⟨U,[.int .u8 (IntKind.wrap .u8 a0)],rfl,rfl,ah⟩
 refine xn 1<|dF<|s0<|aO 1 hm ?_ ?_ (kd:= .i32)<;>intro aw hm
 refine xn 1<|dT<|sr C6<|eA 3 (.int .u8 (IntKind.wrap .u8 (a3 .i32 192 (bJ .i32 a0 6))))<|xq 3 [(18, .int .i32 (a3 .i32 128 (bx .i32 a0 63))),(15, .int .u8 (IntKind.wrap .u8 (a3 .i32 192 (bJ .i32 a0 6))))]<|eA 0 (.int .u8 (IntKind.wrap .u8 (a3 .i32 128 (bx .i32 a0 63)))) ?_
 obtain ⟨ab,hm⟩:=aK hm
 have aj:RCs (α:=UInt8) Z [.int .u8 (IntKind.wrap .u8 (a3 .i32 192 (bJ .i32 a0 6))), .int .u8 (IntKind.wrap .u8 (a3 .i32 128 (bx .i32 a0 63)))] ([UInt8.ofNat (IntKind.wrap .u8 (a3 .i32 192 (bJ .i32 a0 6))).toNat,UInt8.ofNat (IntKind.wrap .u8 (a3 .i32 128 (bx .i32 a0 63))).toNat]:List UInt8):=RCs.cons (cs:=[.int .u8 (IntKind.wrap .u8 (a3 .i32 192 (bJ .i32 a0 6)))]) (gN ab.1) (RCs.cons (cs:=[.int .u8 (IntKind.wrap .u8 (a3 .i32 128 (bx .i32 a0 63)))]) (gN ab.2) (RCs.bA _))
 refine eh rfl trivial (c6 (cells:=[.int .u8 (IntKind.wrap .u8 (a3 .i32 192 (bJ .i32 a0 6))), .int .u8 (IntKind.wrap .u8 (a3 .i32 128 (bx .i32 a0 63)))]) (s:=1) (by kernel_rfl)) (by kernel_rfl) hS ?_
 intro ad ax al
 refine xn 1<|rt<|ba<|⟨rfl,?_⟩
 obtain rfl:=si hm
 refine ⟨_,_,_,tk ad (ResL.nil),al,?_⟩
 exact ⟨ad,[.int .u8 (IntKind.wrap .u8 (a3 .i32 192 (bJ .i32 a0 6))), .int .u8 (IntKind.wrap .u8 (a3 .i32 128 (bx .i32 a0 63)))],rfl,rfl,aj⟩
 refine xn 1<|dF<|s0<|aO 1 hm ?_ ?_ (kd:= .i32)<;>intro ay hm
 refine xn 1<|dT<|sr vZ<|eA 3 (.int .u8 (IntKind.wrap .u8 (a3 .i32 224 (bJ .i32 a0 12))))<|eA 4 (.int .u8 (IntKind.wrap .u8 (a3 .i32 128 (bx .i32 (bJ .i32 a0 6) 63))))<|xq 3 [(35, .int .i32 (a3 .i32 128 (bx .i32 a0 63))),(32, .int .u8 (IntKind.wrap .u8 (a3 .i32 128 (bx .i32 (bJ .i32 a0 6) 63)))),(27, .int .u8 (IntKind.wrap .u8 (a3 .i32 224 (bJ .i32 a0 12))))] ?_
 refine eA 0 (.int .u8 (IntKind.wrap .u8 (a3 .i32 128 (bx .i32 a0 63)))) ?_
 obtain ⟨I,hm⟩:=aK hm
 have an:RCs (α:=UInt8) Z [.int .u8 (IntKind.wrap .u8 (a3 .i32 224 (bJ .i32 a0 12))), .int .u8 (IntKind.wrap .u8 (a3 .i32 128 (bx .i32 (bJ .i32 a0 6) 63))), .int .u8 (IntKind.wrap .u8 (a3 .i32 128 (bx .i32 a0 63)))] ([UInt8.ofNat (IntKind.wrap .u8 (a3 .i32 224 (bJ .i32 a0 12))).toNat,UInt8.ofNat (IntKind.wrap .u8 (a3 .i32 128 (bx .i32 (bJ .i32 a0 6) 63))).toNat,UInt8.ofNat (IntKind.wrap .u8 (a3 .i32 128 (bx .i32 a0 63))).toNat]:List UInt8):=RCs.cons (cs:=[.int .u8 (IntKind.wrap .u8 (a3 .i32 224 (bJ .i32 a0 12)))]) (gN I.1) (RCs.cons (cs:=[.int .u8 (IntKind.wrap .u8 (a3 .i32 128 (bx .i32 (bJ .i32 a0 6) 63)))]) (gN I.2.1) (RCs.cons (cs:=[.int .u8 (IntKind.wrap .u8 (a3 .i32 128 (bx .i32 a0 63)))]) (gN I.2.2) (RCs.bA _)))
 refine eh rfl trivial (c6 (cells:=[.int .u8 (IntKind.wrap .u8 (a3 .i32 224 (bJ .i32 a0 12))), .int .u8 (IntKind.wrap .u8 (a3 .i32 128 (bx .i32 (bJ .i32 a0 6) 63))), .int .u8 (IntKind.wrap .u8 (a3 .i32 128 (bx .i32 a0 63)))]) (s:=1) (by kernel_rfl)) (by kernel_rfl) hS ?_
 intro ae az ao
 refine xn 1<|rt<|ba<|⟨rfl,?_⟩
 obtain rfl:=si hm
 refine ⟨_,_,_,tk ae (ResL.nil),ao,?_⟩
 exact ⟨ae,[.int .u8 (IntKind.wrap .u8 (a3 .i32 224 (bJ .i32 a0 12))), .int .u8 (IntKind.wrap .u8 (a3 .i32 128 (bx .i32 (bJ .i32 a0 6) 63))), .int .u8 (IntKind.wrap .u8 (a3 .i32 128 (bx .i32 a0 63)))],rfl,rfl,an⟩
 refine xn 1<|dF<|sk<|sr xc<|eA 3 (.int .u8 (IntKind.wrap .u8 (a3 .i32 240 (bJ .i32 a0 18))))<|eA 4 (.int .u8 (IntKind.wrap .u8 (a3 .i32 128 (bx .i32 (bJ .i32 a0 12) 63))))<|eA 4 (.int .u8 (IntKind.wrap .u8 (a3 .i32 128 (bx .i32 (bJ .i32 a0 6) 63))))<|xq 3 [(54, .int .i32 (a3 .i32 128 (bx .i32 a0 63))),(51, .int .u8 (IntKind.wrap .u8 (a3 .i32 128 (bx .i32 (bJ .i32 a0 6) 63)))),(46, .int .u8 (IntKind.wrap .u8 (a3 .i32 128 (bx .i32 (bJ .i32 a0 12) 63)))),(41, .int .u8 (IntKind.wrap .u8 (a3 .i32 240 (bJ .i32 a0 18))))] ?_
 refine eA 0 (.int .u8 (IntKind.wrap .u8 (a3 .i32 128 (bx .i32 a0 63)))) ?_
 obtain ⟨j,hm⟩:=aK hm
 have aq:RCs (α:=UInt8) Z [.int .u8 (IntKind.wrap .u8 (a3 .i32 240 (bJ .i32 a0 18))), .int .u8 (IntKind.wrap .u8 (a3 .i32 128 (bx .i32 (bJ .i32 a0 12) 63))), .int .u8 (IntKind.wrap .u8 (a3 .i32 128 (bx .i32 (bJ .i32 a0 6) 63))), .int .u8 (IntKind.wrap .u8 (a3 .i32 128 (bx .i32 a0 63)))] ([UInt8.ofNat (IntKind.wrap .u8 (a3 .i32 240 (bJ .i32 a0 18))).toNat,UInt8.ofNat (IntKind.wrap .u8 (a3 .i32 128 (bx .i32 (bJ .i32 a0 12) 63))).toNat,UInt8.ofNat (IntKind.wrap .u8 (a3 .i32 128 (bx .i32 (bJ .i32 a0 6) 63))).toNat,UInt8.ofNat (IntKind.wrap .u8 (a3 .i32 128 (bx .i32 a0 63))).toNat]:List UInt8):=RCs.cons (cs:=[.int .u8 (IntKind.wrap .u8 (a3 .i32 240 (bJ .i32 a0 18)))]) (gN j.1) (RCs.cons (cs:=[.int .u8 (IntKind.wrap .u8 (a3 .i32 128 (bx .i32 (bJ .i32 a0 12) 63)))]) (gN j.2.1) (RCs.cons (cs:=[.int .u8 (IntKind.wrap .u8 (a3 .i32 128 (bx .i32 (bJ .i32 a0 6) 63)))]) (gN j.2.2.1) (RCs.cons (cs:=[.int .u8 (IntKind.wrap .u8 (a3 .i32 128 (bx .i32 a0 63)))]) (gN j.2.2.2) (RCs.bA _))))
 refine eh rfl trivial (c6 (cells:=[.int .u8 (IntKind.wrap .u8 (a3 .i32 240 (bJ .i32 a0 18))), .int .u8 (IntKind.wrap .u8 (a3 .i32 128 (bx .i32 (bJ .i32 a0 12) 63))), .int .u8 (IntKind.wrap .u8 (a3 .i32 128 (bx .i32 (bJ .i32 a0 6) 63))), .int .u8 (IntKind.wrap .u8 (a3 .i32 128 (bx .i32 a0 63)))]) (s:=1) (by kernel_rfl)) (by kernel_rfl) hS ?_
 intro af aA ar
 refine xn 1<|rt<|⟨rfl,?_⟩
 obtain rfl:=si hm
 refine ⟨_,_,_,tk af (ResL.nil),ar,?_⟩
 exact ⟨af,[.int .u8 (IntKind.wrap .u8 (a3 .i32 240 (bJ .i32 a0 18))), .int .u8 (IntKind.wrap .u8 (a3 .i32 128 (bx .i32 (bJ .i32 a0 12) 63))), .int .u8 (IntKind.wrap .u8 (a3 .i32 128 (bx .i32 (bJ .i32 a0 6) 63))), .int .u8 (IntKind.wrap .u8 (a3 .i32 128 (bx .i32 a0 63)))],rfl,rfl,aq⟩
def Dk:List aV:=[u 10 (mv 0),u 11 (cb .len #[(t 10)] #[9]),u 12 (bc .lss 3 11 2 3),u 13 (mv 12),gn 13 14 (mv 0),gn 13 15 (.index 9 (t 14) (ci 0)),gn 13 16 (.binOp .neq 5 (t 15) (.const (.int .u8 92)) 5),u 17 (pt 13 16)]
def BN:List aV:=[u 19 (mv 0),u 20 (.index 9 (t 19) (ci 1)),u 21 (cf 96 #[(t 20)] #[5]),u 18 (mv 21),u 22 (.extract (t 18) 0),u 23 (.extract (t 18) 1),u 4 (sg 22),u 5 (sg 23)]
def vQ:List aV:=[u 26 (mv 0),u 27 (.index 9 (t 26) (ci 1))]
def xu:List aV:=[u 48 (mv 0),u 49 (mv 8),u 50 (.binOp .add 3 (ci 2) (t 49) 3),u 51 (.index 9 (t 48) (t 50)),u 52 (cf 97 #[(t 51)] #[5]),u 9 (sg 52)]
def By:List aV:=[u 69 (mv 7),u 70 (.convert 3 21 (t 69)),u 71 (cf 98 #[(t 70)] #[21]),u 72 (.convert 31 9 (t 71)),u 73 (mv 6),u 74 (.binOp .add 3 (ci 2) (t 73) 3),u 2 (sg 72),u 3 (sg 74)]
def correctorref5_Escape_l0 (F:Nat) (a0:aL):Nat→Int→Int→Int→Option (Sum (Int×Int) (aL×Int))
 | 0,_,_,_=>none
 | n+1,I,J,j=>
  if j<I then
   if 0≤(af (2+j)) then
    (a0.b[(af (2+j)).toNat]?).bind fun aa=>
    (mZ F (aa.toNat:Int)).bind fun U=>
    if U<(0:Int) then
     some (.inr ((⟨[]⟩:aL),0))
    else
     correctorref5_Escape_l0 F a0 n I (af ((af (16 * J))+U)) (af (j+1))
   else none
  else
   some (.inl (I,J))
def correctorref5_Escape (F:Nat) (a0:aL):Option (aL×Int):=
 if (a0.b.length:Int)<(2:Int) then
  some ((⟨[]⟩:aL),0)
 else
  if 0≤(0:Int) then
   (a0.b[(0:Int).toNat]?).bind fun aa=>
   if (aa.toNat:Int)=(92:Int) then
    if 0≤(1:Int) then
     (a0.b[(1:Int).toNat]?).bind fun ab=>
     (nU F (ab.toNat:Int)).bind fun U=>
     if U.2=true then
      some (U.1,2)
     else
      ((if 0≤(1:Int) then
        (a0.b[(1:Int).toNat]?).bind fun I=>
        if (I.toNat:Int)=(120:Int) then
         some 2
        else
         if (I.toNat:Int)=(117:Int) then
          some 4
         else
          if (I.toNat:Int)=(85:Int) then
           some 8
          else
           some 0
       else none):Option Int).bind fun o=>match o with
       | J=>if J=(0:Int) then
        some ((⟨[]⟩:aL),0)
       else
        if (a0.b.length:Int)<(af (2+J)) then
         some ((⟨[]⟩:aL),0)
        else
         ((correctorref5_Escape_l0 F a0 F J 0 0):Option (Sum (Int×Int) (aL×Int))).bind fun o=>match o with
          | .inl (ad,j)=>((if (1114111:Int)<j then
            some (.inr ((⟨[]⟩:aL),0))
           else
            if (55296:Int)≤j then
             if j≤(57343:Int) then
              some (.inr ((⟨[]⟩:aL),0))
             else
              some (.inl ())
            else
             some (.inl ())):Option (Sum Unit (aL×Int))).bind fun o=>match o with
           | .inl ()=>(nf F (IntKind.wrap .i32 j)).bind fun ae=>
           some ((⟨ae⟩:aL),af (2+ad))
           | .inr y=>some y
          | .inr y=>some y
    else none
   else
    some ((⟨[]⟩:aL),0)
  else none
theorem AN (F:Nat) {h:AH} {Z:Zn} {a0:aL} (hI:Inv Z h) {r:aL×Int} (hm:correctorref5_Escape F a0=some r):
  bU Try.prog 87 [.string ⟨⟨a0.b⟩⟩] h Z (.tuple #[.string ⟨⟨r.1.b⟩⟩,V r.2]):=by
 refine b1 Try.func87 hI ?_
 intro hs hS
 unfold correctorref5_Escape at hm
 refine sp 2<|sq<|sr Dk<|aO 2 hm ?_ ?_<;>intro a1 hm
 refine xn 5<|dT<|sp 2<|rt<|⟨rfl,?_⟩
 obtain rfl:=si hm
 refine ⟨_,_,_,tk (.string ⟨⟨[]⟩⟩) (tk (V 0) (ResL.nil)),hS,?_⟩
 exact rfl
 refine xq 2 [(14, .string ⟨⟨a0.b⟩⟩),(13, .bool false),(0, .string ⟨⟨a0.b⟩⟩)] ?_
 obtain ⟨aB,hm⟩:=aK hm
 obtain ⟨a2,aC,hm⟩:=ai hm
 refine bN rfl rfl (jk (bs:=a0.b) (i:=0) rfl rfl (by kernel_rfl) aB aC)<|cZ 0 hm ?_ ?_ (kd:= .u8)<;>intro a3 hm
 refine xn 1<|dF<|sk<|sr BN<|xq 1 [(19, .string ⟨⟨a0.b⟩⟩),(0, .string ⟨⟨a0.b⟩⟩)] ?_
 obtain ⟨aE,hm⟩:=aK hm
 obtain ⟨a4,aF,hm⟩:=ai hm
 refine bN rfl trivial (jk (bs:=a0.b) (i:=1) rfl rfl (by kernel_rfl) aE aF) ?_
 obtain ⟨aG,aI,hm⟩:=ai hm
 refine cP 0 hS (wA F hS.inv aI) ?_
 rintro _ a5 ah rfl
 refine xn 5<|sq<|sp 1<|db hm ?_ ?_<;>intro a6 hm
 refine sp 3<|rt<|⟨rfl,?_⟩
 obtain rfl:=si hm
 refine ⟨_,_,_,tk (.string ⟨⟨aG.1.b⟩⟩) (tk (V 2) (ResL.nil)),ah,?_⟩
 exact rfl
 refine sk<|sp 1<|sq ?_
 obtain ⟨aJ,J,hm⟩:=ai hm
 refine aH [0,6] (fun l h=>∃ au aj,aj=aJ∧l=[(0, .string ⟨⟨a0.b⟩⟩),(6,V aj)]∧St hs [] Z (0,0) au h []) ?_ ?_
 rintro l a7 ⟨au,aj,rfl,rfl,an⟩
 try dsimp only at hm
 refine sq<|s0<|aD 1 hm ?_ ?_<;>intro a8 hm
 refine xn 7<|dT<|sp 2<|rt<|⟨rfl,?_⟩
 obtain rfl:=si hm
 refine ⟨_,_,_,tk (.string ⟨⟨[]⟩⟩) (tk (V 0) (ResL.nil)),an,?_⟩
 exact rfl
 refine aO 5 hm ?_ ?_<;>intro a9 hm
 refine xn 1<|dT<|sp 2<|rt<|⟨rfl,?_⟩
 obtain rfl:=si hm
 refine ⟨_,_,_,tk (.string ⟨⟨[]⟩⟩) (tk (V 0) (ResL.nil)),an,?_⟩
 exact rfl
 refine xn 1<|dF<|sk<|sp 1<|sq<|sp 1 ?_
 obtain ⟨ao,I,hm⟩:=ai hm
 refine aH [6,7] (fun l h=>∃ av ab ad, .inl (ab,ad)=ao∧l=[(6,V ab),(7,V ad)]∧St hs [] Z (0,0) av h []) ?_ ?_
 rintro l bb ⟨av,ab,ad,rfl,rfl,al⟩
 try dsimp only at hm
 refine sq ?_
 obtain ⟨aM,U,hm⟩:=ai hm
 refine ec [6,7] (fun l h=>∃ aw, .inl ()=aM∧l=[(6,V ab),(7,V ad)]∧St hs [] Z (0,0) aw h []) (by kernel_rfl) ?_ ?_
 rintro l bc ⟨aw,rfl,rfl,ax⟩
 try dsimp only at hm
 refine sr By<|xq 1 [(69,V ad),(6,V ab)]<|eA 0 (.int .i32 (IntKind.wrap .i32 ad)) ?_
 obtain ⟨aP,aR,hm⟩:=ai hm
 refine c0 0 ax (vX F ax.eQ aR) ?_
 rintro _ bd bf _ bg ay ⟨bh,bj,rfl,rfl,aS⟩
 refine bN rfl trivial (uE ay (j:=0) rfl aS rfl (by kernel_rfl))<|xn 4<|rt<|⟨rfl,?_⟩
 obtain rfl:=si hm
 refine ⟨_,_,_,tk (.string ⟨⟨aP⟩⟩) (tk (V (af (2+ab))) (ResL.nil)),ay,?_⟩
 exact rfl
 refine g0<|cC 1 U ?_ ?_<;>intro bl U
 refine xn 8<|dT<|sp 2<|rt<|⟨rfl,?_⟩
 obtain rfl:=si U
 obtain rfl:=si hm
 refine ⟨_,_,_,tk (.string ⟨⟨[]⟩⟩) (tk (V 0) (ResL.nil)),al,?_⟩
 exact rfl
 refine cv 2 U ?_ ?_<;>intro bm U
 refine fm 2 U ?_ ?_<;>intro bn U
 refine xn 2<|dT<|sp 2<|rt<|⟨rfl,?_⟩
 obtain rfl:=si U
 obtain rfl:=si hm
 refine ⟨_,_,_,tk (.string ⟨⟨[]⟩⟩) (tk (V 0) (ResL.nil)),al,?_⟩
 exact rfl
 refine xn 2<|dF<|sk ?_
 obtain rfl:=si U
 exact ⟨_,rfl,(by kernel_rfl),al⟩
 refine xn 5<|dF<|sk ?_
 obtain rfl:=si U
 exact ⟨_,rfl,(by kernel_rfl),al⟩
 refine bk 1<|lp [0,6,7,8] (fun n l h=>∃ az ae ag aa,correctorref5_Escape_l0 F a0 n ae ag aa=some ao∧l=[(0, .string ⟨⟨a0.b⟩⟩),(6,V ae),(7,V ag),(8,V aa)]∧St hs [] Z (0,0) az h []) F ⟨_,aj,0,0,I,(by kernel_rfl),an⟩ ?_
 rintro aq l bo ⟨az,ae,ag,aa,I,rfl,ar⟩
 rcases aq with _ | aq
 cases (show none=some ao from I)
 rw [correctorref5_Escape_l0] at I
 refine sq<|s0<|aO 2 I ?_ ?_<;>intro bp I
 refine xn 0<|dT<|sk<|sq<|bk 2<|sr xu<|xq 3 [(50,V (af (2+aa))),(48, .string ⟨⟨a0.b⟩⟩),(0, .string ⟨⟨a0.b⟩⟩),(6,V ae),(7,V ag),(8,V aa)] ?_
 obtain ⟨aT,I⟩:=aK I
 obtain ⟨br,aU,I⟩:=ai I
 refine bN rfl trivial (jk (bs:=a0.b) (i:=af (2+aa)) rfl rfl (by kernel_rfl) aT aU) ?_
 obtain ⟨aW,aX,I⟩:=ai I
 refine cP 0 ar (Da F ar.inv aX) ?_
 rintro _ bt aA rfl
 refine xn 1<|sq<|s0<|aO 1 I ?_ ?_<;>intro bu I
 refine xn 0<|dT<|sp 2<|rt<|ba<|ba<|⟨rfl,?_⟩
 obtain rfl:=si I
 obtain rfl:=si hm
 refine ⟨_,_,_,tk (.string ⟨⟨[]⟩⟩) (tk (V 0) (ResL.nil)),aA,?_⟩
 exact rfl
 refine xn 0<|dF<|sk<|gp 5<|gp 3 ?_
 exact ⟨aq,Nat.lt_succ_self _,⟨_,ae,af ((af (16 * ag))+aW),af (aa+1),I,(by kernel_rfl),aA⟩⟩
 refine xn 0<|dF<|xt 1<|aN ?_
 obtain rfl:=si I
 exact ⟨_,ae,ag,rfl,(by kernel_rfl),ar⟩
 refine sr vQ<|xq 1 [(26, .string ⟨⟨a0.b⟩⟩),(6,V 0),(0, .string ⟨⟨a0.b⟩⟩)] ?_
 obtain ⟨aY,J⟩:=aK J
 obtain ⟨bw,aZ,J⟩:=ai J
 refine bN rfl trivial (jk (bs:=a0.b) (i:=1) rfl rfl (by kernel_rfl) aY aZ)<|xn 0<|bk 0<|s0<|aD 0 J ?_ ?_ (kd:= .u8)<;>intro bx J
 refine xn 1<|dT<|gp 1 ?_
 obtain rfl:=si J
 exact ⟨_,2,rfl,(by kernel_rfl),ah⟩
 refine xn 1<|dF<|s0<|aD 0 J ?_ ?_ (kd:= .u8)<;>intro bz J
 refine xn 1<|dT<|gp 1 ?_
 obtain rfl:=si J
 exact ⟨_,4,rfl,(by kernel_rfl),ah⟩
 refine xn 1<|dF<|s0<|aD 0 J ?_ ?_ (kd:= .u8)<;>intro bA J
 refine xn 1<|dT<|gp 1 ?_
 obtain rfl:=si J
 exact ⟨_,8,rfl,(by kernel_rfl),ah⟩
 refine xn 1<|dF<|sk ?_
 obtain rfl:=si J
 exact ⟨_,0,rfl,(by kernel_rfl),ah⟩
 refine xn 1<|dT<|sp 2<|rt<|⟨rfl,?_⟩
 obtain rfl:=si hm
 refine ⟨_,_,_,tk (.string ⟨⟨[]⟩⟩) (tk (V 0) (ResL.nil)),hS,?_⟩
 exact rfl
def wB:List aV:=[u 14 (mv 0),u 15 (mv 7),u 16 (.index 9 (t 14) (t 15)),u 17 (.binOp .eql 5 (t 16) (.const (.int .u8 34)) 5)]
def zS:List aV:=[u 20 (mv 0),u 21 (mv 7),u 22 (.index 9 (t 20) (t 21)),u 23 (.binOp .neq 5 (t 22) (.const (.int .u8 92)) 5)]
def Bb:List aV:=[u 24 (mv 5),u 25 (mv 0),u 26 (mv 7),u 27 (mv 7),u 28 (bc .add 3 27 1 3),u 29 (.slice 9 (t 25) (some (t 26)) (some (t 28)) none),u 30 (bo .add 9 24 29 9),u 5 (sg 30)]
def vH:List aV:=[u 34 (mv 0),u 35 (mv 7),u 36 (.slice 9 (t 34) (some (t 35)) none none),u 37 (cf 87 #[(t 36)] #[9]),u 33 (mv 37),u 38 (.extract (t 33) 0),u 39 (.extract (t 33) 1),u 8 (sg 38),u 9 (sg 39)]
def wa:List aV:=[u 42 (mv 6),u 43 (mv 7),u 44 (.buildSlice 23 1 #[(0,(t 43))]),u 45 (cb .append #[(t 42),(t 44)] #[23,23]),u 6 (sg 45)]
def CG:List aV:=[u 46 (mv 0),u 47 (mv 7),u 48 (mv 7),u 49 (bc .add 3 48 1 3),u 50 (.slice 9 (t 46) (some (t 47)) (some (t 49)) none),u 8 (sg 50),u 9 (.assign (ci 1))]
def Dq:List aV:=[u 51 (mv 5),u 52 (mv 8),u 53 (bo .add 9 51 52 9),u 5 (sg 53)]
def correctorref7_double_l0 (F:Nat) (a0:aL):Nat→aL→(List Int)→Int→Option (Sum (aL×(List Int)) (aL×(List Int)×Bool))
 | 0,_,_,_=>none
 | n+1,I,J,j=>
  if j<(a0.b.length:Int) then
   if 0≤j then
    (a0.b[j.toNat]?).bind fun ab=>
    if (ab.toNat:Int)=(34:Int) then
     some (.inr (I,J,true))
    else
     if 0≤j then
      (a0.b[j.toNat]?).bind fun ad=>
      if (ad.toNat:Int)=(92:Int) then
       if 0≤j∧j≤(a0.b.length:Int)∧(a0.b.length:Int)≤(a0.b.length:Int) then
        (correctorref5_Escape F (⟨(a0.b.take (a0.b.length:Int).toNat).drop j.toNat⟩:aL)).bind fun U=>
        ((if U.2=(0:Int) then
          if J.length+([j]:List Int).length≤17592186044416 then
           if 0≤j∧j≤(af (j+1))∧(af (j+1))≤(a0.b.length:Int) then
            some (J++([j]:List Int),(⟨(a0.b.take (af (j+1)).toNat).drop j.toNat⟩:aL),1)
           else none
          else none
         else
          some (J,U.1,U.2)):Option ((List Int)×aL×Int)).bind fun o=>match o with
         | (ae,aa,ag)=>if I.b.length+aa.b.length≤4611686018427387904 then
          correctorref7_double_l0 F a0 n (⟨I.b++aa.b⟩:aL) ae (af (j+ag))
         else none
       else none
      else
       if 0≤j∧j≤(af (j+1))∧(af (j+1))≤(a0.b.length:Int) then
        if I.b.length+((a0.b.take (af (j+1)).toNat).drop j.toNat).length≤4611686018427387904 then
         correctorref7_double_l0 F a0 n (⟨I.b++((a0.b.take (af (j+1)).toNat).drop j.toNat)⟩:aL) J (af (j+1))
        else none
       else none
     else none
   else none
  else
   some (.inl (I,J))
def mg (F:Nat) (a0:aL):Option (aL×(List Int)×Bool):=
 ((correctorref7_double_l0 F a0 F (⟨[]⟩:aL) [] 1):Option (Sum (aL×(List Int)) (aL×(List Int)×Bool))).bind fun o=>match o with
  | .inl (j,I)=>some (j,I,false)
  | .inr y=>some y
theorem A1 (F:Nat) {h:AH} {Z:Zn} {a0:aL} (hP:Pre Z h []) {r:aL×(List Int)×Bool} (hm:mg F a0=some r):
  bX Try.prog 74 [.string ⟨⟨a0.b⟩⟩] h Z [] fun v Z' A'=>∃ v2 aI, .tuple #[.string ⟨⟨r.1.b⟩⟩,v2, .bool r.2.2]=v∧A'=[.gs v2 aI (aa Int)]∧RCs (α:=Int) Z' aI r.2.1:=by
 refine cm Try.func74 hP ?_
 intro hs hS
 unfold mg at hm
 replace hS:St hs [] Z (0,0) Z hs []:=hS
 refine sp 3<|sp 1<|sp 1<|sq<|sp 1 ?_
 obtain ⟨az,J,hm⟩:=ai hm
 refine aH [5,6] (fun l h=>∃ aA ar aB ah au, .inl (ar,aB)=az∧RCs (α:=Int) aA au aB∧l=[(5, .string ⟨⟨ar.b⟩⟩),(6,ah)]∧St hs [] Z (0,0) aA h [.gs ah au (aa Int)]) ?_ ?_
 rintro l bc ⟨aA,ar,aB,ah,au,rfl,aS,rfl,aT⟩
 try dsimp only at hm
 refine sp 5<|rt<|⟨rfl,?_⟩
 obtain rfl:=si hm
 refine ⟨_,_,_,tk (.string ⟨⟨ar.b⟩⟩) (tk ah (tk (.bool false) (ResL.nil))),aT,?_⟩
 exact ⟨ah,au,rfl,rfl,aS⟩
 refine bk 0 ?_
 have aU:=hS.dE (aa Int)
 refine lp [0,5,6,7] (fun n l h=>∃ av U ae I ab ag,correctorref7_double_l0 F a0 n U ae I=some az∧RCs (α:=Int) av ag ae∧l=[(0, .string ⟨⟨a0.b⟩⟩),(5, .string ⟨⟨U.b⟩⟩),(6,ab),(7,V I)]∧St hs [] Z (0,0) av h [.gs ab ag (aa Int)]) F ⟨_,(⟨[]⟩:aL),[],1,(.slice none 0 0),[],J,(RCs.bA _),(by kernel_rfl),aU⟩ ?_
 rintro aw l bd ⟨av,U,ae,I,ab,ag,J,aj,rfl,al⟩
 rcases aw with _ | aw
 cases (show none=some az from J)
 rw [correctorref7_double_l0] at J
 refine sq<|s0<|aO 3 J ?_ ?_<;>intro bf J
 refine xn 0<|dT<|sk<|bk 1<|sq<|sr wB<|xq 2 [(15,V I),(14, .string ⟨⟨a0.b⟩⟩),(0, .string ⟨⟨a0.b⟩⟩),(5, .string ⟨⟨U.b⟩⟩),(6,ab),(7,V I)] ?_
 obtain ⟨aW,J⟩:=aK J
 obtain ⟨bg,aX,J⟩:=ai J
 refine bN rfl trivial (jk (bs:=a0.b) (i:=I) rfl rfl (by kernel_rfl) aW aX)<|aD 0 J ?_ ?_ (kd:= .u8)<;>intro bh J
 refine xn 0<|dT<|sp 5<|rt<|ba<|ba<|⟨rfl,?_⟩
 obtain rfl:=si J
 obtain rfl:=si hm
 refine ⟨_,_,_,tk (.string ⟨⟨U.b⟩⟩) (tk ab (tk (.bool true) (ResL.nil))),al,?_⟩
 exact ⟨ab,ag,rfl,rfl,aj⟩
 refine xn 0<|dF<|sk<|sq<|sr zS<|xq 2 [(21,V I),(20, .string ⟨⟨a0.b⟩⟩),(0, .string ⟨⟨a0.b⟩⟩),(5, .string ⟨⟨U.b⟩⟩),(6,ab),(7,V I)] ?_
 obtain ⟨aY,J⟩:=aK J
 obtain ⟨bj,aZ,J⟩:=ai J
 refine bN rfl trivial (jk (bs:=a0.b) (i:=I) rfl rfl (by kernel_rfl) aY aZ)<|cZ 0 J ?_ ?_ (kd:= .u8)<;>intro bl J
 refine xn 0<|dF<|sk<|sr vH<|xq 2 [(35,V I),(34, .string ⟨⟨a0.b⟩⟩),(0, .string ⟨⟨a0.b⟩⟩),(5, .string ⟨⟨U.b⟩⟩),(6,ab),(7,V I)] ?_
 obtain ⟨aC,J⟩:=aK J
 refine bN rfl trivial (n2 (bs:=a0.b) (a:=I) (b:=(a0.b.length:Int)) rfl (by kernel_rfl) ⟨_,rfl⟩ rfl aC.1 aC.2.1 aC.2.2) ?_
 obtain ⟨aJ,a1,J⟩:=ai J
 refine cP 0 al (AN F (a0:=(⟨(a0.b.take (a0.b.length:Int).toNat).drop I.toNat⟩:aL)) al.inv a1) ?_
 rintro _ bm aM rfl
 refine xn 5<|sq ?_
 obtain ⟨a2,ad,J⟩:=ai J
 refine ec [0,5,6,7,8,9] (fun l h=>∃ aE ax an ao aq ay,(ax,an,ao)=a2∧RCs (α:=Int) aE ay ax∧l=[(0, .string ⟨⟨a0.b⟩⟩),(5, .string ⟨⟨U.b⟩⟩),(6,aq),(7,V I),(8, .string ⟨⟨an.b⟩⟩),(9,V ao)]∧St hs [] Z (0,0) aE h [.gs aq ay (aa Int)]) (by kernel_rfl) ?_ ?_
 rintro l bn ⟨aE,ax,an,ao,aq,ay,rfl,a3,rfl,a4⟩
 try dsimp only at J
 refine sr Dq<|xq 2 [(52, .string ⟨⟨an.b⟩⟩),(51, .string ⟨⟨U.b⟩⟩),(0, .string ⟨⟨a0.b⟩⟩),(5, .string ⟨⟨U.b⟩⟩),(6,aq),(7,V I),(9,V ao)] ?_
 obtain ⟨a5,J⟩:=aK J
 refine bN rfl trivial (kl rfl rfl (by simpa using a5))<|xn 1<|gp 4 ?_
 exact ⟨aw,Nat.lt_succ_self _,⟨_,(⟨U.b++an.b⟩:aL),ax,af (I+ao),aq,ay,J,a3,(by kernel_rfl),a4⟩⟩
 refine g0<|aD 1 ad ?_ ?_<;>intro bo ad
 refine xn 0<|dT<|sr wa<|xq 2 [(43,V I),(42,ab),(0, .string ⟨⟨a0.b⟩⟩),(5, .string ⟨⟨U.b⟩⟩),(6,ab),(7,V I)] ?_
 have a6:RCs (α:=Int) av [V I] ([I]:List Int):=RCs.cons (cs:=[V I]) rfl (RCs.bA _)
 refine eh rfl trivial (c6 (cells:=[V I]) (s:=1) (by kernel_rfl)) (by kernel_rfl) aM ?_
 intro bp br aP
 obtain ⟨bt,ad⟩:=aK ad
 refine gd rfl trivial (dZ (ys:=([I]:List Int)) (b4:=8) aP (i:=1) rfl aj ((aP).eK (j:=0) rfl a6) rfl rfl (by kernel_rfl) (by omega) (by omega)) ?_
 rintro aR a7 bu ⟨a8,a9⟩
 refine xn 1<|rg CG<|xq 4 [(49,V (af (I+1))),(47,V I),(46, .string ⟨⟨a0.b⟩⟩),(6,aR),(0, .string ⟨⟨a0.b⟩⟩),(5, .string ⟨⟨U.b⟩⟩),(7,V I)] ?_
 obtain ⟨aF,ad⟩:=aK ad
 refine bN rfl trivial (n2 (bs:=a0.b) (a:=I) (b:=af (I+1)) rfl (by kernel_rfl) ⟨_,rfl⟩ ⟨_,rfl⟩ aF.1 aF.2.1 aF.2.2)<|xn 2 ?_
 obtain rfl:=si ad
 exact ⟨_,ae++([I]:List Int),(⟨(a0.b.take (af (I+1)).toNat).drop I.toNat⟩:aL),1,aR,a7,rfl,a8,(by kernel_rfl),((a9.front 1 rfl).takeN 1)⟩
 refine xn 0<|dF<|sk ?_
 obtain rfl:=si ad
 exact ⟨_,ae,aJ.1,aJ.2,ab,ag,rfl,aj,(by kernel_rfl),aM⟩
 refine xn 0<|dT<|sr Bb<|xq 5 [(28,V (af (I+1))),(26,V I),(25, .string ⟨⟨a0.b⟩⟩),(24, .string ⟨⟨U.b⟩⟩),(0, .string ⟨⟨a0.b⟩⟩),(5, .string ⟨⟨U.b⟩⟩),(6,ab),(7,V I)] ?_
 obtain ⟨aG,J⟩:=aK J
 refine bN rfl trivial (n2 (bs:=a0.b) (a:=I) (b:=af (I+1)) rfl (by kernel_rfl) ⟨_,rfl⟩ ⟨_,rfl⟩ aG.1 aG.2.1 aG.2.2) ?_
 obtain ⟨bb,J⟩:=aK J
 refine bN rfl trivial (kl rfl rfl (by simpa using bb))<|xn 1<|sp 3<|xt 1<|aN ?_
 exact ⟨aw,Nat.lt_succ_self _,⟨_,(⟨U.b++((a0.b.take (af (I+1)).toNat).drop I.toNat)⟩:aL),ae,af (I+1),ab,ag,J,aj,(by kernel_rfl),al⟩⟩
 refine xn 0<|dF<|xt 0<|aN ?_
 obtain rfl:=si J
 exact ⟨_,U,ae,ab,ag,rfl,aj,(by kernel_rfl),al⟩
def xh:List aV:=[u 9 (mv 1),u 10 (.binOp .eql 9 (t 9) (.const (.string {data:=#[]})) 9)]
def nA (F:Nat) (a0:Int) (a1:aL):Option (aL×(List Int)×Bool):=
 if a1=(⟨[]⟩:aL) then
  some ((⟨[]⟩:aL),[],false)
 else
  if a0=(15:Int) then
   some (a1,[],true)
  else
   if a0=(16:Int) then
    (nZ F a1).bind fun I=>
    some (I.1,[],I.2)
   else
    if a0=(17:Int) then
     (mg F a1).bind fun j=>
     some (j.1,j.2.1,j.2.2)
    else
     some ((⟨[]⟩:aL),[],false)
theorem C0 (F:Nat) {h:AH} {Z:Zn} {a0:Int} {a1:aL} (hP:Pre Z h []) {r:aL×(List Int)×Bool} (hm:nA F a0 a1=some r):
  bX Try.prog 50 [V a0, .string ⟨⟨a1.b⟩⟩] h Z [] fun v Z' A'=>∃ v2 I, .tuple #[.string ⟨⟨r.1.b⟩⟩,v2, .bool r.2.2]=v∧A'=[.gs v2 I (aa Int)]∧RCs (α:=Int) Z' I r.2.1:=by
 refine cm Try.func50 hP ?_
 intro hs hS
 unfold nA at hm
 replace hS:St hs [] Z (0,0) Z hs []:=hS
 refine sp 3<|sq<|sr xh<|xq 1 [(9, .string ⟨⟨a1.b⟩⟩),(0,V a0),(1, .string ⟨⟨a1.b⟩⟩)] ?_
 rcases ifs hm with ⟨j,hm⟩ | ⟨j,hm⟩
 refine bN rfl trivial (br rfl rfl (Dg (a:=a1) (b:=(⟨[]⟩:aL)) j))<|xn 0<|dT<|sp 3<|rt<|⟨rfl,?_⟩
 have ad:=hS.dE (aa Int)
 obtain rfl:=si hm
 refine ⟨_,_,_,tk (.string ⟨⟨[]⟩⟩) (tk (.slice none 0 0) (tk (.bool false) (ResL.nil))),ad,?_⟩
 exact ⟨(.slice none 0 0),[],rfl,rfl,(RCs.bA _)⟩
 refine bN rfl trivial (br rfl rfl (z2 (a:=a1) (b:=(⟨[]⟩:aL)) j))<|xn 0<|dF<|sk<|sq<|sp 1<|bk 0<|s0<|aD 0 hm ?_ ?_<;>intro ar hm
 refine xn 1<|dT<|sp 4<|rt<|ba<|⟨rfl,?_⟩
 have ae:=hS.dE (aa Int)
 obtain rfl:=si hm
 refine ⟨_,_,_,tk (.string ⟨⟨a1.b⟩⟩) (tk (.slice none 0 0) (tk (.bool true) (ResL.nil))),ae,?_⟩
 exact ⟨(.slice none 0 0),[],rfl,rfl,(RCs.bA _)⟩
 refine xn 1<|dF<|s0<|aD 0 hm ?_ ?_<;>intro au hm
 refine xn 1<|dT<|s0 ?_
 obtain ⟨J,af,hm⟩:=ai hm
 refine cP 1 hS (BB F hS.inv af) ?_
 rintro _ av ag rfl
 refine xn 5<|sp 5<|rt<|ba<|⟨rfl,?_⟩
 have ah:=ag.dE (aa Int)
 obtain rfl:=si hm
 refine ⟨_,_,_,tk (.string ⟨⟨J.1.b⟩⟩) (tk (.slice none 0 0) (tk (.bool J.2) (ResL.nil))),ah,?_⟩
 exact ⟨(.slice none 0 0),[],rfl,rfl,(RCs.bA _)⟩
 refine xn 1<|dF<|s0<|aD 0 hm ?_ ?_<;>intro aw hm
 refine xn 1<|dT<|s0 ?_
 obtain ⟨U,aj,hm⟩:=ai hm
 refine c0 1 hS (A1 F hS.eQ aj) ?_
 rintro _ ax ay _ az al ⟨ab,an,rfl,rfl,ao⟩
 refine xn 6<|rt<|ba<|⟨rfl,?_⟩
 obtain rfl:=si hm
 refine ⟨_,_,_,tk (.string ⟨⟨U.1.b⟩⟩) (tk ab (tk (.bool U.2.2) (ResL.nil))),al,?_⟩
 exact ⟨ab,an,rfl,rfl,ao⟩
 refine xn 1<|dF<|sk<|sp 3<|rt<|⟨rfl,?_⟩
 have aq:=hS.dE (aa Int)
 obtain rfl:=si hm
 refine ⟨_,_,_,tk (.string ⟨⟨[]⟩⟩) (tk (.slice none 0 0) (tk (.bool false) (ResL.nil))),aq,?_⟩
 exact ⟨(.slice none 0 0),[],rfl,rfl,(RCs.bA _)⟩
def wZ:List bq:=[uP 27 (mv 7),uP 28 (mv 8),uP 29 (mv 9),uP 30 (ia 23 28 29),uL 31 (ld 3 30),uP 32 (mv 8),uP 33 (mv 9),uP 34 (ia 23 32 33),uL 35 (ld 3 34),uP 36 (bc .add 3 35 1 3),uP 37 (.build 92 #[(0,(ci 1)),(1,(t 31)),(2,(t 36))]),uF 38 (.buildSlice 28 1 #[(0,(t 37))]) .fresh [],uF 39 (cb .append #[(t 27),(t 38)] #[28,28]) .make [4,8],uP 7 (sg 39)]
def DM:List bq:=[uP 108 (mv 7),uP 109 (mv 1),uP 110 (mv 11),uP 111 (ia 24 109 110),uP 112 (fa 85 111 1),uL 113 (ld 3 112),uP 114 (mv 1),uP 115 (mv 11),uP 116 (ia 24 114 115),uP 117 (fa 85 116 2),uL 118 (ld 3 117),uP 119 (.build 92 #[(0,(ci 2)),(1,(t 113)),(2,(t 118))]),uF 120 (.buildSlice 28 1 #[(0,(t 119))]) .fresh [],uF 121 (cb .append #[(t 108),(t 120)] #[28,28]) .make [5,10],uP 7 (sg 121)]
def Aa:List bq:=[uP 143 (mv 1),uP 144 (mv 14),uP 145 (ia 24 143 144),uP 146 (fa 85 145 0),uL 147 (ld 3 146),uP 148 (mv 0),uP 149 (mv 1),uP 150 (mv 14),uP 151 (ia 24 149 150),uP 152 (fa 85 151 1),uL 153 (ld 3 152),uP 154 (mv 1),uP 155 (mv 14),uP 156 (ia 24 154 155),uP 157 (fa 85 156 2),uL 158 (ld 3 157),uP 159 (.slice 31 (t 148) (some (t 153)) (some (t 158)) none),uL 160 (.convert 31 9 (t 159)),uF 161 (cf 50 #[(t 147),(t 160)] #[3,9]) .make [4,10,15,17],uP 142 (mv 161),uP 162 (.extract (t 142) 0),uP 163 (.extract (t 142) 1),uP 164 (.extract (t 142) 2),uP 15 (sg 162),uP 16 (sg 163),uP 17 (sg 164)]
def zY:List bq:=[uP 167 (mv 7),uP 168 (mv 1),uP 169 (mv 14),uP 170 (ia 24 168 169),uP 171 (fa 85 170 1),uL 172 (ld 3 171),uP 173 (mv 1),uP 174 (mv 14),uP 175 (ia 24 173 174),uP 176 (fa 85 175 2),uL 177 (ld 3 176),uP 178 (.build 92 #[(0,(ci 3)),(1,(t 172)),(2,(t 177))]),uF 179 (.buildSlice 28 1 #[(0,(t 178))]) .fresh [],uF 180 (cb .append #[(t 167),(t 179)] #[28,28]) .make [5,10],uP 7 (sg 180)]
def yN:List bq:=[uP 187 (mv 7),uP 188 (mv 1),uP 189 (mv 14),uP 190 (ia 24 188 189),uP 191 (fa 85 190 1),uL 192 (ld 3 191),uP 193 (mv 16),uP 194 (mv 18),uP 195 (ia 23 193 194),uL 196 (ld 3 195),uP 197 (bo .add 3 192 196 3),uP 198 (mv 1),uP 199 (mv 14),uP 200 (ia 24 198 199),uP 201 (fa 85 200 1),uL 202 (ld 3 201),uP 203 (mv 16),uP 204 (mv 18),uP 205 (ia 23 203 204),uL 206 (ld 3 205),uP 207 (bo .add 3 202 206 3),uP 208 (bc .add 3 207 1 3),uP 209 (.build 92 #[(0,(ci 4)),(1,(t 197)),(2,(t 208))]),uF 210 (.buildSlice 28 1 #[(0,(t 209))]) .fresh [],uF 211 (cb .append #[(t 187),(t 210)] #[28,28]) .make [5,9,15,19],uP 7 (sg 211)]
def correctorref12_told_l0 (F:Nat) (a0:List UInt8) (a1:List ak) (ab:List an):Nat→(List aj)→(List Int)→Int→Option (List aj)
 | 0,_,_,_=>none
 | n+1,J,I,j=>
  if j<(I.length:Int) then
   if 0≤j∧j<(I.length:Int) then
    (I[j.toNat]?).bind fun U=>
    if 0≤j∧j<(I.length:Int) then
     (I[j.toNat]?).bind fun aa=>
     if J.length+[(⟨1,U,af (aa+1)⟩:aj)].length≤5864062014805 then
      correctorref12_told_l0 F a0 a1 ab n (J++[(⟨1,U,af (aa+1)⟩:aj)]) I (af (j+1))
     else none
    else none
   else none
  else
   some J
def correctorref12_told_l3 (F:Nat) (a0:List UInt8) (a1:List ak) (ab:List an):Nat→(List aj)→Int→Int→Bool→Int→Option ((List aj)×Int×Int×Bool)
 | 0,_,_,_,_,_=>none
 | n+1,J,U,j,aa,I=>
  if 0≤j∧j<(a1.length:Int) then
   (a1[j.toNat]?).bind fun ad=>
   if I<ad.To then
    ((if aa=true then
      some (J,true)
     else
      if 0≤I∧I<(a0.length:Int) then
       (a0[I.toNat]?).bind fun ae=>
       if (ae.toNat:Int)=(9:Int) then
        some (J,true)
       else
        some (J,false)
      else none):Option ((List aj)×Bool)).bind fun o=>match o with
     | (ag,ah)=>correctorref12_told_l3 F a0 a1 ab n ag U j ah (af (I+1))
   else
    some (J,U,j,aa)
  else none
def correctorref12_told_l2 (F:Nat) (a0:List UInt8) (a1:List ak) (U:List an):Nat→(List aj)→Int→Int→Option ((List aj)×Int)
 | 0,_,_,_=>none
 | n+1,aa,j,J=>
  if 0≤j∧j<(U.length:Int) then
   (U[j.toNat]?).bind fun ai=>
   if J<ai.To then
    if 0≤j∧j<(U.length:Int) then
     (U[j.toNat]?).bind fun al=>
     if al.Kind=(5:Int) then
      if 0≤J∧J<(a1.length:Int) then
       (a1[J.toNat]?).bind fun ao=>
       (fh F ao.Kind).bind fun aq=>
       if aq=true then
        some (aa,j)
       else
        if 0≤J∧J<(a1.length:Int) then
         (a1[J.toNat]?).bind fun ar=>
         ((correctorref12_told_l3 F a0 a1 U F aa j J false ar.ah):Option ((List aj)×Int×Int×Bool)).bind fun o=>match o with
          | (ab,au,I,av)=>((if av=true then
            if 0≤I∧I<(a1.length:Int) then
             (a1[I.toNat]?).bind fun aw=>
             if aw.Kind=(3:Int) then
              some (ab,true)
             else
              some (ab,false)
            else none
           else
            some (ab,false)):Option ((List aj)×Bool)).bind fun o=>match o with
           | (ad,ax)=>((if ax=true then
             if 0≤I∧I<(a1.length:Int) then
              (a1[I.toNat]?).bind fun ae=>
              if 0≤I∧I<(a1.length:Int) then
               (a1[I.toNat]?).bind fun ag=>
               if ad.length+[(⟨2,ae.ah,ag.To⟩:aj)].length≤5864062014805 then
                some (ad++[(⟨2,ae.ah,ag.To⟩:aj)])
               else none
              else none
             else none
            else
             some ad):Option (List aj)).bind fun o=>match o with
            | ay=>correctorref12_told_l2 F a0 a1 U n ay au (af (I+1))
        else none
      else none
     else
      some (aa,j)
    else none
   else
    some (aa,j)
  else none
def correctorref12_told_l1 (F:Nat) (a0:List UInt8) (a1:List ak) (j:List an):Nat→(List aj)→Int→Option (List aj)
 | 0,_,_=>none
 | n+1,J,I=>
  if I<(j.length:Int) then
   if 0≤I∧I<(j.length:Int) then
    (j[I.toNat]?).bind fun U=>
    ((correctorref12_told_l2 F a0 a1 j F J I U.ah):Option ((List aj)×Int)).bind fun o=>match o with
     | (aa,ab)=>correctorref12_told_l1 F a0 a1 j n aa (af (ab+1))
   else none
  else
   some J
def correctorref12_told_l5 (F:Nat) (a0:List UInt8) (a1:List ak) (ag:List an):Nat→(List aj)→Int→(List Int)→Int→Option ((List aj)×Int)
 | 0,_,_,_,_=>none
 | n+1,U,j,J,I=>
  if I<(J.length:Int) then
   if 0≤j∧j<(a1.length:Int) then
    (a1[j.toNat]?).bind fun aa=>
    if 0≤I∧I<(J.length:Int) then
     (J[I.toNat]?).bind fun ab=>
     if 0≤j∧j<(a1.length:Int) then
      (a1[j.toNat]?).bind fun ad=>
      if 0≤I∧I<(J.length:Int) then
       (J[I.toNat]?).bind fun ae=>
       if U.length+[(⟨4,af (aa.ah+ab),af ((af (ad.ah+ae))+1)⟩:aj)].length≤5864062014805 then
        correctorref12_told_l5 F a0 a1 ag n (U++[(⟨4,af (aa.ah+ab),af ((af (ad.ah+ae))+1)⟩:aj)]) j J (af (I+1))
       else none
      else none
     else none
    else none
   else none
  else
   some (U,j)
def correctorref12_told_l4 (F:Nat) (a0:List UInt8) (a1:List ak) (ad:List an):Nat→(List aj)→Int→Option (List aj)
 | 0,_,_=>none
 | n+1,I,j=>
  if j<(a1.length:Int) then
   ((((if 0≤j∧j<(a1.length:Int) then
      (a1[j.toNat]?).bind fun ai=>
      if ai.Kind=(16:Int) then
       some (.inl I)
      else
       if 0≤j∧j<(a1.length:Int) then
        (a1[j.toNat]?).bind fun al=>
        if al.Kind=(17:Int) then
         some (.inl I)
        else
         some (.inr (I,j))
       else none
     else none):Option (Sum (List aj) ((List aj)×Int))).bind fun o=>match o with
     | .inl J=>if 0≤j∧j<(a1.length:Int) then
      (a1[j.toNat]?).bind fun ao=>
      if 0≤j∧j<(a1.length:Int) then
       (a1[j.toNat]?).bind fun U=>
       if 0≤j∧j<(a1.length:Int) then
        (a1[j.toNat]?).bind fun aa=>
        if 0≤U.ah∧U.ah≤aa.To∧aa.To≤(a0.length:Int) then
         (nA F ao.Kind (⟨(a0.take aa.To.toNat).drop U.ah.toNat⟩:aL)).bind fun ab=>
         ((if ab.2.2=true then
           some (J,ab.2.1)
          else
           if 0≤j∧j<(a1.length:Int) then
            (a1[j.toNat]?).bind fun ae=>
            if 0≤j∧j<(a1.length:Int) then
             (a1[j.toNat]?).bind fun ag=>
             if J.length+[(⟨3,ae.ah,ag.To⟩:aj)].length≤5864062014805 then
              some (J++[(⟨3,ae.ah,ag.To⟩:aj)],ab.2.1)
             else none
            else none
           else none):Option ((List aj)×(List Int))).bind fun o=>match o with
          | (aq,ar)=>((correctorref12_told_l5 F a0 a1 ad F aq j ar 0):Option ((List aj)×Int)).bind fun o=>match o with
           | (au,av)=>some (au,av)
        else none
       else none
      else none
     else none
     | .inr y=>some y):Option ((List aj)×Int)).bind fun o=>match o with
    | (aw,ax)=>correctorref12_told_l4 F a0 a1 ad n aw (af (ax+1))
  else
   some I
def nM (F:Nat) (a0:List UInt8) (a1:List ak) (j:List an):Option (List aj):=
 (mL F a0).bind fun I=>
 ((correctorref12_told_l0 F a0 a1 j F [] I 0):Option (List aj)).bind fun o=>match o with
  | J=>((correctorref12_told_l1 F a0 a1 j F J 0):Option (List aj)).bind fun o=>match o with
   | U=>((correctorref12_told_l4 F a0 a1 j F U 0):Option (List aj)).bind fun o=>match o with
    | aa=>some aa
theorem DA (F:Nat) {h:AH} {Z:Zn} {a0:List UInt8} {a1:List ak} {bg:List an} {v2 v4 v6} (hP:Pre Z h []) (ch:RS (α:=UInt8) Z v2 a0) (U:RS (α:=ak) Z v4 a1) (bm:RS (α:=an) Z v6 bg) {r:(List aj)} (hm:nM F a0 a1 bg=some r):
  bX Try.prog 24 [v2,v4,v6] h Z [] fun v Z' A'=>∃ ey eA,ey=v∧A'=[.gs ey eA (aa aj)]∧RCs (α:=aj) Z' eA r:=by
 refine cm Try.func24 hP ?_
 intro hs hS
 unfold nM at hm
 replace hS:St hs [] Z (0,0) Z hs []:=hS
 refine sp 1<|sp 1<|s0 ?_
 obtain ⟨fy,fz,hm⟩:=ai hm
 refine c0 1 hS (BP F hS.eQ ch fz) ?_
 rintro _ hB hC _ hD fA ⟨fB,fC,rfl,rfl,fD⟩
 refine xn 1<|sq<|sp 1 ?_
 obtain ⟨ds,ar,hm⟩:=ai hm
 refine aH [0,1,2,7] (fun l h=>∃ dt cj ck cl,cj=ds∧RCs (α:=aj) dt cl cj∧l=[(0,v2),(1,v4),(2,v6),(7,ck)]∧St hs [] Z (0,0) dt h [.gs ck cl (aa aj)]) ?_ ?_
 rintro l hE ⟨dt,cj,ck,cl,rfl,fE,rfl,fF⟩
 try dsimp only at hm
 refine sq<|sp 1 ?_
 obtain ⟨dx,ax,hm⟩:=ai hm
 refine aH [0,1,7] (fun l h=>∃ dy cn cq cr,cn=dx∧RCs (α:=aj) dy cr cn∧l=[(0,v2),(1,v4),(7,cq)]∧St hs [] Z (0,0) dy h [.gs cq cr (aa aj)]) ?_ ?_
 rintro l hF ⟨dy,cn,cq,cr,rfl,fG,rfl,fH⟩
 try dsimp only at hm
 refine sq<|sp 1 ?_
 obtain ⟨dz,aX,hm⟩:=ai hm
 refine aH [7] (fun l h=>∃ dA dB bZ ct,dB=dz∧RCs (α:=aj) dA ct dB∧l=[(7,bZ)]∧St hs [] Z (0,0) dA h [.gs bZ ct (aa aj)]) ?_ ?_
 rintro l hG ⟨dA,dB,bZ,ct,rfl,fI,rfl,fJ⟩
 try dsimp only at hm
 refine sp 2<|rt<|⟨rfl,?_⟩
 obtain rfl:=si hm
 refine ⟨_,_,_,tk bZ (ResL.nil),fJ,?_⟩
 exact ⟨bZ,ct,rfl,rfl,fI⟩
 refine bk 8<|lp [0,1,7,14] (fun n l h=>∃ dC bn J bo br,correctorref12_told_l4 F a0 a1 bg n bn J=some dz∧RCs (α:=aj) dC br bn∧l=[(0,v2),(1,v4),(7,bo),(14,V J)]∧St hs [] Z (0,0) dC h [.gs bo br (aa aj)]) F ⟨_,cn,0,cq,cr,aX,fG,(by kernel_rfl),fH⟩ ?_
 rintro dD l hH ⟨dC,bn,J,bo,br,aX,cu,rfl,aY⟩
 rcases dD with _ | dD
 cases (show none=some dz from aX)
 rw [correctorref12_told_l4] at aX
 refine sq<|s0<|bM 2 v4 (RS.len (U.mono aY.ag))<|aO 0 aX ?_ ?_<;>intro hI aX
 refine xn 0<|dT<|sk<|sq ?_
 obtain ⟨fK,ab,aX⟩:=ai aX
 refine aH [0,1,7,14] (fun l h=>∃ dH cv cx cy cA,(cv,cx)=fK∧RCs (α:=aj) dH cA cv∧l=[(0,v2),(1,v4),(7,cy),(14,V cx)]∧St hs [] Z (0,0) dH h [.gs cy cA (aa aj)]) ?_ ?_
 rintro l hJ ⟨dH,cv,cx,cy,cA,rfl,fL,rfl,fM⟩
 try dsimp only at aX
 refine gp 3 ?_
 exact ⟨dD,Nat.lt_succ_self _,⟨_,cv,af (cx+1),cy,cA,aX,fL,(by kernel_rfl),fM⟩⟩
 refine bk 9<|sq ?_
 obtain ⟨fN,ay,ab⟩:=ai ab
 refine aH [0,1,7,14] (fun l h=>∃ dI b0 ae bH, .inl b0=fN∧RCs (α:=aj) dI bH b0∧l=[(0,v2),(1,v4),(7,ae),(14,V J)]∧St hs [] Z (0,0) dI h [.gs ae bH (aa aj)]) ?_ ?_
 rintro l hK ⟨dI,b0,ae,bH,rfl,eB,rfl,aP⟩
 try dsimp only at ab
 refine cT Aa aP ?_
 intro hL hM hN bI
 refine yq 2 [(144,V J),(143,v4),(0,v2),(1,v4),(7,ae),(14,V J)] ?_
 obtain ⟨eD,ab⟩:=aK ab
 refine aF rfl trivial (bG rfl rfl (by kernel_rfl:slTy _ _=some (aa ak)) (RS.cU (U.mono aP.ag) (by omega)) eD.1 eD.2)<|yq 1 [(146, .pointer (some (bh v4 J (aa ak) 0))),(0,v2),(1,v4),(7,ae),(14,V J)] ?_
 obtain ⟨bJ,fO,ab⟩:=ai ab
 obtain ⟨hO,fP,fQ⟩:=RS.cp (U.mono aP.ag) (i:=J) fO
 obtain rfl:=eu fP
 refine cG rfl rfl trivial (fun h2 hz=>bK (w:=V bJ.Kind) (fQ h2 hz) rfl (by kernel_rfl)) (bI.bV (aM.refl _)) (aB (v:=V bJ.Kind) trivial) trivial<|yq 3 [(150,V J),(149,v4),(148,v2),(147,V bJ.Kind),(0,v2),(1,v4),(7,ae),(14,V J)] ?_
 obtain ⟨eE,ab⟩:=aK ab
 refine aF rfl trivial (bG rfl rfl (by kernel_rfl:slTy _ _=some (aa ak)) (RS.cU (U.mono aP.ag) (by omega)) eE.1 eE.2)<|yq 1 [(152, .pointer (some (bh v4 J (aa ak) 1))),(148,v2),(147,V bJ.Kind),(0,v2),(1,v4),(7,ae),(14,V J)] ?_
 obtain ⟨bN,fR,ab⟩:=ai ab
 obtain ⟨hQ,fS,fT⟩:=RS.cp (U.mono aP.ag) (i:=J) fR
 obtain rfl:=eu fS
 refine cG rfl rfl trivial (fun h2 hz=>bK (w:=V bN.ah) (fT h2 hz) rfl (by kernel_rfl)) (bI.bV (aM.refl _)) (aB (v:=V bN.ah) trivial) trivial<|yq 2 [(155,V J),(154,v4),(153,V bN.ah),(148,v2),(147,V bJ.Kind),(0,v2),(1,v4),(7,ae),(14,V J)] ?_
 obtain ⟨eF,ab⟩:=aK ab
 refine aF rfl trivial (bG rfl rfl (by kernel_rfl:slTy _ _=some (aa ak)) (RS.cU (U.mono aP.ag) (by omega)) eF.1 eF.2)<|yq 1 [(157, .pointer (some (bh v4 J (aa ak) 2))),(153,V bN.ah),(148,v2),(147,V bJ.Kind),(0,v2),(1,v4),(7,ae),(14,V J)] ?_
 obtain ⟨cB,fU,ab⟩:=ai ab
 obtain ⟨hR,fV,fW⟩:=RS.cp (U.mono aP.ag) (i:=J) fU
 obtain rfl:=eu fV
 refine cG rfl rfl trivial (fun h2 hz=>bK (w:=V cB.To) (fW h2 hz) rfl (by kernel_rfl)) (bI.bV (aM.refl _)) (aB (v:=V cB.To) trivial) trivial ?_
 obtain ⟨dJ,ab⟩:=aK ab
 refine oB rfl trivial (j2 (a:=bN.ah) (b:=cB.To) (ch.mono aP.ag) rfl (by kernel_rfl:slTy _ _=some (aa UInt8)) ⟨_,rfl⟩ ⟨_,rfl⟩ dJ.1 dJ.2.1 dJ.2.2) ?_
 intro hT fX
 refine cG rfl rfl trivial (xv fX rfl (by kernel_rfl)) (bI.bV (aM.refl _)) (aB (by trivial)) trivial ?_
 obtain ⟨dK,fY,ab⟩:=ai ab
 have fZ:=bI.cD
 have eG:St _ _ _ _ _ _ ([]++[.gs ae bH (aa aj)]):=fZ
 obtain ⟨hU,hV,ga,hW,gb,dL,a8,dM,rfl,rfl,eH⟩:=C0 F (a1:=(⟨(a0.take cB.To.toNat).drop bN.ah.toNat⟩:aL)) eG.ez fY
 have gd:=eG.call dL
 have bO:=dL.ag
 refine eM rfl trivial bI (cV gb rfl rfl rfl) gd (St.eC dL) ?_
 intro hX gf
 refine ye 7 [(17, .bool dK.2.2),(16,a8),(0,v2),(1,v4),(7,ae),(14,V J)] ?_
 have eI:=gf.a5
 refine sq ?_
 obtain ⟨gg,aE,ab⟩:=ai ab
 refine aH [0,1,7,14,16] (fun l h=>∃ cC cE cF cH cI cJ cK,(cE,cF)=gg∧RCs (α:=aj) cC cI cE∧RCs (α:=Int) cC cK cF∧l=[(0,v2),(1,v4),(7,cH),(14,V J),(16,cJ)]∧St hs [] Z (0,0) cC h [.gs cH cI (aa aj), .gs cJ cK (aa Int)]) ?_ ?_
 rintro l hY ⟨cC,cE,cF,cH,cI,cJ,cK,rfl,gh,gi,rfl,gj⟩
 try dsimp only at ab
 refine sp 1 ?_
 obtain ⟨dN,ad,ab⟩:=ai ab
 refine aH [0,1,7,14] (fun l h=>∃ dO cL cM cN cR,(cL,cM)=dN∧RCs (α:=aj) dO cR cL∧l=[(0,v2),(1,v4),(7,cN),(14,V cM)]∧St hs [] Z (0,0) dO h [.gs cN cR (aa aj)]) ?_ ?_
 rintro l hZ ⟨dO,cL,cM,cN,cR,rfl,gk,rfl,gl⟩
 try dsimp only at ab
 obtain rfl:=si ab
 exact ⟨_,cL,cM,cN,cR,rfl,gk,(by kernel_rfl),gl⟩
 refine bk 10<|lp [0,1,7,14,16,18] (fun n l h=>∃ b1 b2 ao cS av aq b3 al b5,correctorref12_told_l5 F a0 a1 bg n b2 ao cS av=some dN∧RCs (α:=aj) b1 b3 b2∧RCs (α:=Int) b1 b5 cS∧l=[(0,v2),(1,v4),(7,aq),(14,V ao),(16,al),(18,V av)]∧St hs [] Z (0,0) b1 h [.gs aq b3 (aa aj), .gs al b5 (aa Int)]) F ⟨_,cE,J,cF,0,cH,cI,cJ,cK,ad,gh,gi,(by kernel_rfl),gj⟩ ?_
 rintro dP l h3 ⟨b1,b2,ao,cS,av,aq,b3,al,b5,ad,eJ,bj,rfl,bt⟩
 rcases dP with _ | dP
 cases (show none=some dN from ad)
 rw [correctorref12_told_l5] at ad
 refine sq<|s0<|bM 2 al (bt.dV (i:=1) rfl bj)<|aO 0 ad ?_ ?_<;>intro h4 ad
 refine xn 0<|dT<|sk<|sq<|bk 11<|ea yN bt ?_
 intro eL h5 eN bf
 refine yq 3 [(189,V ao),(188,v4),(187,aq),(0,v2),(1,v4),(7,aq),(14,V ao),(16,al),(18,V av)] ?_
 obtain ⟨eO,ad⟩:=aK ad
 refine aF rfl trivial (bG rfl rfl (by kernel_rfl:slTy _ _=some (aa ak)) (RS.cU (U.mono bt.ag) (by omega)) eO.1 eO.2)<|yq 1 [(191, .pointer (some (bh v4 ao (aa ak) 1))),(187,aq),(0,v2),(1,v4),(7,aq),(14,V ao),(16,al),(18,V av)] ?_
 obtain ⟨aG,gm,ad⟩:=ai ad
 obtain ⟨h6,gn,gq⟩:=RS.cp (U.mono bt.ag) (i:=ao) gm
 obtain rfl:=eu gn
 refine cG rfl rfl trivial (fun h2 hz=>bK (w:=V aG.ah) (gq h2 hz) rfl (by kernel_rfl)) (bf.bV (aM.refl _)) (aB (v:=V aG.ah) trivial) trivial<|yq 2 [(194,V av),(193,al),(192,V aG.ah),(187,aq),(0,v2),(1,v4),(7,aq),(14,V ao),(16,al),(18,V av)] ?_
 obtain ⟨eP,ad⟩:=aK ad
 refine aF rfl trivial (bG rfl rfl (by kernel_rfl:slTy _ _=some (aa Int)) (bf.bL (j:=1) rfl bj (by omega)) eP.1 eP.2) ?_
 obtain ⟨aJ,eR,ad⟩:=ai ad
 obtain ⟨h7,gr,gu,h8⟩:=bf.cz (j:=1) rfl bj (i:=av) eR
 obtain rfl:=kJ gr
 have gv:=dw eR
 have eS:=bf.bL (j:=1) rfl bj gv
 have h9:(baseOf al).block<eL:=dG (eN.1 _ (List.mem_of_getElem? (i:=1) rfl)) eS
 refine du rfl trivial rfl (by show (baseOf al).block<_;omega) (aB (v:=V aJ) trivial) (bK (w:=V aJ) gu rfl (by kernel_rfl)) trivial<|yq 3 [(199,V ao),(198,v4),(197,V (af (aG.ah+aJ))),(187,aq),(0,v2),(1,v4),(7,aq),(14,V ao),(16,al),(18,V av)] ?_
 obtain ⟨eT,ad⟩:=aK ad
 refine aF rfl trivial (bG rfl rfl (by kernel_rfl:slTy _ _=some (aa ak)) (RS.cU (U.mono bt.ag) (by omega)) eT.1 eT.2)<|yq 1 [(201, .pointer (some (bh v4 ao (aa ak) 1))),(197,V (af (aG.ah+aJ))),(187,aq),(0,v2),(1,v4),(7,aq),(14,V ao),(16,al),(18,V av)] ?_
 obtain ⟨aZ,gw,ad⟩:=ai ad
 obtain ⟨ia,gx,gy⟩:=RS.cp (U.mono bt.ag) (i:=ao) gw
 obtain rfl:=eu gx
 refine cG rfl rfl trivial (fun h2 hz=>bK (w:=V aZ.ah) (gy h2 hz) rfl (by kernel_rfl)) (bf.bV (aM.refl _)) (aB (v:=V aZ.ah) trivial) trivial<|yq 2 [(204,V av),(203,al),(202,V aZ.ah),(197,V (af (aG.ah+aJ))),(187,aq),(0,v2),(1,v4),(7,aq),(14,V ao),(16,al),(18,V av)] ?_
 obtain ⟨eU,ad⟩:=aK ad
 refine aF rfl trivial (bG rfl rfl (by kernel_rfl:slTy _ _=some (aa Int)) (bf.bL (j:=1) rfl bj (by omega)) eU.1 eU.2) ?_
 obtain ⟨a9,eV,ad⟩:=ai ad
 obtain ⟨ib,gz,gA,ic⟩:=bf.cz (j:=1) rfl bj (i:=av) eV
 obtain rfl:=kJ gz
 have gB:=dw eV
 have eW:=bf.bL (j:=1) rfl bj gB
 have ie:(baseOf al).block<eL:=dG (eN.1 _ (List.mem_of_getElem? (i:=1) rfl)) eW
 refine du rfl trivial rfl (by show (baseOf al).block<_;omega) (aB (v:=V a9) trivial) (bK (w:=V a9) gA rfl (by kernel_rfl)) trivial<|yq 3 [(209, .agg #[V 4,V (af (aG.ah+aJ)),V (af ((af (aZ.ah+a9))+1))]),(187,aq),(0,v2),(1,v4),(7,aq),(14,V ao),(16,al),(18,V av)] ?_
 have gC:RCs (α:=aj) b1 [V 4,V (af (aG.ah+aJ)),V (af ((af (aZ.ah+a9))+1))] [(⟨4,af (aG.ah+aJ),af ((af (aZ.ah+a9))+1)⟩:aj)]:=RCs.cons (cs:=[V 4,V (af (aG.ah+aJ)),V (af ((af (aZ.ah+a9))+1))]) rfl (RCs.bA _)
 refine jc rfl trivial (c6 (cells:=[V 4,V (af (aG.ah+aJ)),V (af ((af (aZ.ah+a9))+1))]) (s:=3) (by kernel_rfl)) (by kernel_rfl) bf (by omega) (Nat.add_lt_add_left (by decide) _) ?_
 intro gD ig ij ik il eX
 obtain ⟨im,ad⟩:=aK ad
 have cW:St _ _ _ _ _ _ ([.gs aq b3 (aa aj)]++[.gs gD [V 4,V (af (aG.ah+aJ)),V (af ((af (aZ.ah+a9))+1))] (aa aj), .gs al b5 (aa Int)]):=(eX.front 1 rfl)
 refine iT rfl trivial cW (dZ (ys:=[(⟨4,af (aG.ah+aJ),af ((af (aZ.ah+a9))+1)⟩:aj)]) (b4:=24) cW.sub (i:=0) rfl eJ ((eX.cD).eK (j:=0) rfl gC) rfl rfl (by kernel_rfl) (by omega) (by omega)) (aM.refl _) (.aT (cW.bz 1 rfl (kc eW)) (.aT trivial (.aT (cW.bz 1 rfl (kc eS)) (.aT trivial .nil)))) ?_
 rintro eY gE iq ⟨gF,gG⟩
 refine ye 1 [(7,eY),(0,v2),(1,v4),(14,V ao),(16,al),(18,V av)] ?_
 have gH:=gG.a5
 refine gp 3 ?_
 exact ⟨dP,Nat.lt_succ_self _,⟨_,b2++[(⟨4,af (aG.ah+aJ),af ((af (aZ.ah+a9))+1)⟩:aj)],ao,cS,af (av+1),eY,gE,al,b5,ad,gF,bj,(by kernel_rfl),(((gH.front 2 rfl).front 1 rfl).takeN 2)⟩⟩
 refine xn 0<|dF<|xt 10<|aN ?_
 obtain rfl:=si ad
 exact ⟨_,b2,ao,aq,b3,rfl,eJ,(by kernel_rfl),(bt.takeN 1)⟩
 refine s0<|kb 1 165 aE ?_ ?_<;>intro ir aE
 refine xn 1<|dF<|sk ?_
 obtain rfl:=si aE
 exact ⟨_,b0,dK.2.1,ae,bH,a8,dM,rfl,(eB.mono bO),eH,(by kernel_rfl),((eI.front 0 rfl).front 1 rfl)⟩
 refine xn 1<|dT<|ea zY eI ?_
 intro iu iv iw dQ
 refine yq 3 [(169,V J),(168,v4),(167,ae),(16,a8),(0,v2),(1,v4),(7,ae),(14,V J)] ?_
 obtain ⟨eZ,aE⟩:=aK aE
 refine aF rfl trivial (bG rfl rfl (by kernel_rfl:slTy _ _=some (aa ak)) (RS.cU (U.mono (aP.ag.trans bO)) (by omega)) eZ.1 eZ.2)<|yq 1 [(171, .pointer (some (bh v4 J (aa ak) 1))),(167,ae),(16,a8),(0,v2),(1,v4),(7,ae),(14,V J)] ?_
 obtain ⟨aR,gI,aE⟩:=ai aE
 obtain ⟨ix,gJ,gK⟩:=RS.cp (U.mono (aP.ag.trans bO)) (i:=J) gI
 obtain rfl:=eu gJ
 refine cG rfl rfl trivial (fun h2 hz=>bK (w:=V aR.ah) (gK h2 hz) rfl (by kernel_rfl)) (dQ.bV (aM.refl _)) (aB (v:=V aR.ah) trivial) trivial<|yq 2 [(174,V J),(173,v4),(172,V aR.ah),(167,ae),(16,a8),(0,v2),(1,v4),(7,ae),(14,V J)] ?_
 obtain ⟨e0,aE⟩:=aK aE
 refine aF rfl trivial (bG rfl rfl (by kernel_rfl:slTy _ _=some (aa ak)) (RS.cU (U.mono (aP.ag.trans bO)) (by omega)) e0.1 e0.2)<|yq 1 [(176, .pointer (some (bh v4 J (aa ak) 2))),(172,V aR.ah),(167,ae),(16,a8),(0,v2),(1,v4),(7,ae),(14,V J)] ?_
 obtain ⟨ba,gL,aE⟩:=ai aE
 obtain ⟨iy,gM,gN⟩:=RS.cp (U.mono (aP.ag.trans bO)) (i:=J) gL
 obtain rfl:=eu gM
 refine cG rfl rfl trivial (fun h2 hz=>bK (w:=V ba.To) (gN h2 hz) rfl (by kernel_rfl)) (dQ.bV (aM.refl _)) (aB (v:=V ba.To) trivial) trivial<|yq 1 [(178, .agg #[V 3,V aR.ah,V ba.To]),(167,ae),(16,a8),(0,v2),(1,v4),(7,ae),(14,V J)] ?_
 have gO:RCs (α:=aj) ga [V 3,V aR.ah,V ba.To] [(⟨3,aR.ah,ba.To⟩:aj)]:=RCs.cons (cs:=[V 3,V aR.ah,V ba.To]) rfl (RCs.bA _)
 refine jc rfl trivial (c6 (cells:=[V 3,V aR.ah,V ba.To]) (s:=3) (by kernel_rfl)) (by kernel_rfl) dQ (by omega) (Nat.add_lt_add_left (by decide) _) ?_
 intro gP iz iA iB iC e2
 obtain ⟨iD,aE⟩:=aK aE
 have e3:St _ _ _ _ _ _ ([.gs ae bH (aa aj)]++[.gs gP [V 3,V aR.ah,V ba.To] (aa aj), .gs a8 dM (aa Int)]):=(e2.front 2 rfl)
 refine iT rfl trivial e3 (dZ (ys:=[(⟨3,aR.ah,ba.To⟩:aj)]) (b4:=24) e3.sub (i:=0) rfl (eB.mono bO) ((e2.cD).eK (j:=0) rfl gO) rfl rfl (by kernel_rfl) (by omega) (by omega)) (aM.refl _) (.aT trivial (.aT trivial .nil)) ?_
 rintro e4 gQ iE ⟨gR,gS⟩
 refine ye 1 [(7,e4),(16,a8),(0,v2),(1,v4),(14,V J)] ?_
 have gT:=gS.a5
 obtain rfl:=si aE
 exact ⟨_,b0++[(⟨3,aR.ah,ba.To⟩:aj)],dK.2.1,e4,gQ,a8,dM,rfl,gR,eH,(by kernel_rfl),(((gT.front 2 rfl).front 1 rfl).takeN 2)⟩
 refine s0<|a6 2 ay (U.mono aY.ag) ?_
 intro iF ay
 refine bp 1 0 (fun e5=>V e5.Kind) ay (U.mono aY.ag) aY ?_
 intro e5 iG ay
 refine cZ 0 ay ?_ ?_<;>intro iH ay
 refine xn 8<|dF<|sk ?_
 obtain rfl:=si ay
 exact ⟨_,bn,bo,br,rfl,cu,(by kernel_rfl),aY⟩
 refine a6 3 ay (U.mono aY.ag) ?_
 intro iI ay
 refine bp 1 0 (fun e6=>V e6.Kind) ay (U.mono aY.ag) aY ?_
 intro e6 iJ ay
 refine cZ 0 ay ?_ ?_<;>intro iK ay
 refine xn 1<|dF<|sk ?_
 obtain rfl:=si ay
 exact ⟨_,bn,bo,br,rfl,cu,(by kernel_rfl),aY⟩
 refine xn 1<|dT<|xt 9<|aN ?_
 obtain rfl:=si ay
 obtain rfl:=si ab
 exact ⟨_,bn,J,bo,br,rfl,cu,(by kernel_rfl),aY⟩
 refine xn 0<|dF<|xt 8<|aN ?_
 obtain rfl:=si aX
 exact ⟨_,bn,bo,br,rfl,cu,(by kernel_rfl),aY⟩
 refine bk 2<|lp [0,1,2,7,10] (fun n l h=>∃ dR b6 c3 b7 b8,correctorref12_told_l1 F a0 a1 bg n b6 c3=some dx∧RCs (α:=aj) dR b8 b6∧l=[(0,v2),(1,v4),(2,v6),(7,b7),(10,V c3)]∧St hs [] Z (0,0) dR h [.gs b7 b8 (aa aj)]) F ⟨_,cj,0,ck,cl,ax,fE,(by kernel_rfl),fF⟩ ?_
 rintro dS l iL ⟨dR,b6,c3,b7,b8,ax,e7,rfl,bP⟩
 rcases dS with _ | dS
 cases (show none=some dx from ax)
 rw [correctorref12_told_l1] at ax
 refine sq<|s0<|bM 2 v6 (RS.len (bm.mono bP.ag))<|aO 0 ax ?_ ?_<;>intro iM ax
 refine xn 0<|dT<|sk<|sq<|bk 3<|s0<|a6 2 ax (bm.mono bP.ag) ?_
 intro iN ax
 refine bp 1 1 (fun dU=>V dU.ah) ax (bm.mono bP.ag) bP ?_
 intro dU iO ax
 refine xn 1 ?_
 obtain ⟨dW,I,ax⟩:=ai ax
 refine aH [0,1,2,7,10] (fun l h=>∃ dX c5 c7 c8 c9,(c5,c7)=dW∧RCs (α:=aj) dX c9 c5∧l=[(0,v2),(1,v4),(2,v6),(7,c8),(10,V c7)]∧St hs [] Z (0,0) dX h [.gs c8 c9 (aa aj)]) ?_ ?_
 rintro l iP ⟨dX,c5,c7,c8,c9,rfl,gU,rfl,gV⟩
 try dsimp only at ax
 refine gp 3 ?_
 exact ⟨dS,Nat.lt_succ_self _,⟨_,c5,af (c7+1),c8,c9,ax,gU,(by kernel_rfl),gV⟩⟩
 refine bk 4<|lp [0,1,2,7,10,11] (fun n l h=>∃ dY bu bw da bx bB,correctorref12_told_l2 F a0 a1 bg n bu bw da=some dW∧RCs (α:=aj) dY bB bu∧l=[(0,v2),(1,v4),(2,v6),(7,bx),(10,V bw),(11,V da)]∧St hs [] Z (0,0) dY h [.gs bx bB (aa aj)]) F ⟨_,b6,c3,dU.ah,b7,b8,I,e7,(by kernel_rfl),bP⟩ ?_
 rintro eb l iQ ⟨dY,bu,bw,da,bx,bB,I,dc,rfl,az⟩
 rcases eb with _ | eb
 cases (show none=some dW from I)
 rw [correctorref12_told_l2] at I
 refine sq<|s0<|a6 3 I (bm.mono az.ag) ?_
 intro iR I
 refine bp 1 2 (fun e8=>V e8.To) I (bm.mono az.ag) az ?_
 intro e8 iU I
 refine aO 0 I ?_ ?_<;>intro iV I
 refine a6 3 I (bm.mono az.ag) ?_
 intro iW I
 refine bp 1 0 (fun e9=>V e9.Kind) I (bm.mono az.ag) az ?_
 intro e9 iX I
 refine aD 0 I ?_ ?_<;>intro iY I
 refine a6 4 I (U.mono az.ag) ?_
 intro iZ I
 refine bp 1 0 (fun fa=>V fa.Kind) I (U.mono az.ag) az ?_
 intro fa ja I
 obtain ⟨jb,gW,I⟩:=ai I
 refine cP 0 az (iS F az.inv gW) ?_
 rintro _ jd ec rfl
 refine kb 0 72 I ?_ ?_<;>intro je I
 refine xn 2<|dF<|xt 4<|aN ?_
 obtain rfl:=si I
 exact ⟨_,bu,bw,bx,bB,rfl,dc,(by kernel_rfl),ec⟩
 refine xn 2<|dT<|sk<|sq<|bk 5<|sp 1<|sq<|s0<|a6 2 I (U.mono az.ag) ?_
 intro jf I
 refine bp 1 1 (fun ed=>V ed.ah) I (U.mono az.ag) ec ?_
 intro ed jg I
 refine xn 1 ?_
 obtain ⟨ee,aA,I⟩:=ai I
 refine aH [0,1,2,7,10,11,12] (fun l h=>∃ eg bQ aS au eh bR bS,(bQ,aS,au,eh)=ee∧RCs (α:=aj) eg bS bQ∧l=[(0,v2),(1,v4),(2,v6),(7,bR),(10,V aS),(11,V au),(12, .bool eh)]∧St hs [] Z (0,0) eg h [.gs bR bS (aa aj)]) ?_ ?_
 rintro l jh ⟨eg,bQ,aS,au,eh,bR,bS,rfl,ei,rfl,bT⟩
 try dsimp only at I
 refine sq ?_
 obtain ⟨gX,a2,I⟩:=ai I
 refine aH [0,1,2,7,10,11,107] (fun l h=>∃ dd b9 ej aC ca,(b9,ej)=gX∧RCs (α:=aj) dd ca b9∧l=[(0,v2),(1,v4),(2,v6),(7,aC),(10,V aS),(11,V au),(107, .bool ej)]∧St hs [] Z (0,0) dd h [.gs aC ca (aa aj)]) ?_ ?_
 rintro l ji ⟨dd,b9,ej,aC,ca,rfl,fb,rfl,bU⟩
 try dsimp only at I
 obtain ⟨gY,aI,I⟩:=ai I
 refine aH [0,1,2,7,10,11] (fun l h=>∃ ek de df dh,de=gY∧RCs (α:=aj) ek dh de∧l=[(0,v2),(1,v4),(2,v6),(7,df),(10,V aS),(11,V au)]∧St hs [] Z (0,0) ek h [.gs df dh (aa aj)]) ?_ ?_
 rintro l jj ⟨ek,de,df,dh,rfl,gZ,rfl,g1⟩
 try dsimp only at I
 refine gp 3 ?_
 exact ⟨eb,Nat.lt_succ_self _,⟨_,de,aS,af (au+1),df,dh,I,gZ,(by kernel_rfl),g1⟩⟩
 refine db aI ?_ ?_<;>intro jk aI
 refine ea DM bU ?_
 intro jl jm jn en
 refine yq 3 [(110,V au),(109,v4),(108,aC),(0,v2),(1,v4),(2,v6),(7,aC),(10,V aS),(11,V au)] ?_
 obtain ⟨fc,aI⟩:=aK aI
 refine aF rfl trivial (bG rfl rfl (by kernel_rfl:slTy _ _=some (aa ak)) (RS.cU (U.mono bU.ag) (by omega)) fc.1 fc.2)<|yq 1 [(112, .pointer (some (bh v4 au (aa ak) 1))),(108,aC),(0,v2),(1,v4),(2,v6),(7,aC),(10,V aS),(11,V au)] ?_
 obtain ⟨aU,g2,aI⟩:=ai aI
 obtain ⟨jo,g3,g4⟩:=RS.cp (U.mono bU.ag) (i:=au) g2
 obtain rfl:=eu g3
 refine cG rfl rfl trivial (fun h2 hz=>bK (w:=V aU.ah) (g4 h2 hz) rfl (by kernel_rfl)) (en.bV (aM.refl _)) (aB (v:=V aU.ah) trivial) trivial<|yq 2 [(115,V au),(114,v4),(113,V aU.ah),(108,aC),(0,v2),(1,v4),(2,v6),(7,aC),(10,V aS),(11,V au)] ?_
 obtain ⟨fe,aI⟩:=aK aI
 refine aF rfl trivial (bG rfl rfl (by kernel_rfl:slTy _ _=some (aa ak)) (RS.cU (U.mono bU.ag) (by omega)) fe.1 fe.2)<|yq 1 [(117, .pointer (some (bh v4 au (aa ak) 2))),(113,V aU.ah),(108,aC),(0,v2),(1,v4),(2,v6),(7,aC),(10,V aS),(11,V au)] ?_
 obtain ⟨bb,g5,aI⟩:=ai aI
 obtain ⟨jq,g6,g7⟩:=RS.cp (U.mono bU.ag) (i:=au) g5
 obtain rfl:=eu g6
 refine cG rfl rfl trivial (fun h2 hz=>bK (w:=V bb.To) (g7 h2 hz) rfl (by kernel_rfl)) (en.bV (aM.refl _)) (aB (v:=V bb.To) trivial) trivial<|yq 1 [(119, .agg #[V 2,V aU.ah,V bb.To]),(108,aC),(0,v2),(1,v4),(2,v6),(7,aC),(10,V aS),(11,V au)] ?_
 have g8:RCs (α:=aj) dd [V 2,V aU.ah,V bb.To] [(⟨2,aU.ah,bb.To⟩:aj)]:=RCs.cons (cs:=[V 2,V aU.ah,V bb.To]) rfl (RCs.bA _)
 refine jc rfl trivial (c6 (cells:=[V 2,V aU.ah,V bb.To]) (s:=3) (by kernel_rfl)) (by kernel_rfl) en (by omega) (Nat.add_lt_add_left (by decide) _) ?_
 intro g9 jr js jt ju ff
 obtain ⟨jv,aI⟩:=aK aI
 have fg:St _ _ _ _ _ _ ([.gs aC ca (aa aj)]++[.gs g9 [V 2,V aU.ah,V bb.To] (aa aj)]):=(ff.front 1 rfl)
 refine iT rfl trivial fg (dZ (ys:=[(⟨2,aU.ah,bb.To⟩:aj)]) (b4:=24) fg.sub (i:=0) rfl fb ((ff.cD).eK (j:=0) rfl g8) rfl rfl (by kernel_rfl) (by omega) (by omega)) (aM.refl _) (.aT trivial (.aT trivial .nil)) ?_
 rintro fh ha jw ⟨hb,hc⟩
 refine ye 1 [(7,fh),(0,v2),(1,v4),(2,v6),(10,V aS),(11,V au)] ?_
 have hf:=hc.a5
 obtain rfl:=si aI
 exact ⟨_,b9++[(⟨2,aU.ah,bb.To⟩:aj)],fh,ha,rfl,hb,(by kernel_rfl),(hf.takeN 1)⟩
 refine sk ?_
 obtain rfl:=si aI
 exact ⟨_,b9,aC,ca,rfl,fb,(by kernel_rfl),bU⟩
 refine g0<|kb 2 100 a2 ?_ ?_<;>intro jx a2
 refine a6 2 a2 (U.mono bT.ag) ?_
 intro jy a2
 refine bp 1 0 (fun fi=>V fi.Kind) a2 (U.mono bT.ag) bT ?_
 intro fi jz a2
 refine aD 0 a2 ?_ ?_<;>intro jA a2
 refine xn 1 ?_
 obtain rfl:=si a2
 exact ⟨_,bQ,true,bR,bS,rfl,ei,(by kernel_rfl),bT⟩
 refine xn 1 ?_
 obtain rfl:=si a2
 exact ⟨_,bQ,false,bR,bS,rfl,ei,(by kernel_rfl),bT⟩
 refine xn 7 ?_
 obtain rfl:=si a2
 exact ⟨_,bQ,false,bR,bS,rfl,ei,(by kernel_rfl),bT⟩
 refine bk 6<|lp [0,1,2,7,10,11,12,13] (fun n l h=>∃ eo bC bW bY di cb bD bE,correctorref12_told_l3 F a0 a1 bg n bC bW bY di cb=some ee∧RCs (α:=aj) eo bE bC∧l=[(0,v2),(1,v4),(2,v6),(7,bD),(10,V bW),(11,V bY),(12, .bool di),(13,V cb)]∧St hs [] Z (0,0) eo h [.gs bD bE (aa aj)]) F ⟨_,bu,bw,da,false,ed.ah,bx,bB,aA,dc,(by kernel_rfl),ec⟩ ?_
 rintro ep l jB ⟨eo,bC,bW,bY,di,cb,bD,bE,aA,dj,rfl,bc⟩
 rcases ep with _ | ep
 cases (show none=some ee from aA)
 rw [correctorref12_told_l3] at aA
 refine sq<|s0<|a6 3 aA (U.mono bc.ag) ?_
 intro jC aA
 refine bp 1 2 (fun fj=>V fj.To) aA (U.mono bc.ag) bc ?_
 intro fj jD aA
 refine aO 0 aA ?_ ?_<;>intro jE aA
 refine xn 0<|dT<|sk<|sq<|bk 7 ?_
 obtain ⟨hg,a3,aA⟩:=ai aA
 refine aH [0,1,2,7,10,11,12,13] (fun l h=>∃ er dk dm dn dp,(dk,dm)=hg∧RCs (α:=aj) er dp dk∧l=[(0,v2),(1,v4),(2,v6),(7,dn),(10,V bW),(11,V bY),(12, .bool dm),(13,V cb)]∧St hs [] Z (0,0) er h [.gs dn dp (aa aj)]) ?_ ?_
 rintro l jF ⟨er,dk,dm,dn,dp,rfl,hh,rfl,hi⟩
 try dsimp only at aA
 refine gp 3 ?_
 exact ⟨ep,Nat.lt_succ_self _,⟨_,dk,bW,bY,dm,af (cb+1),dn,dp,aA,hh,(by kernel_rfl),hi⟩⟩
 refine g0<|kb 2 92 a3 ?_ ?_<;>intro jG a3
 refine xn 7 ?_
 obtain rfl:=si a3
 exact ⟨_,bC,true,bD,bE,rfl,dj,(by kernel_rfl),bc⟩
 refine a6 2 a3 (ch.mono bc.ag) ?_
 intro jH a3
 refine bp 0 0 (fun fk=> .int .u8 (fk.toNat:Int)) a3 (ch.mono bc.ag) bc ?_
 intro fk jI a3
 refine aD 0 a3 ?_ ?_ (kd:= .u8)<;>intro jJ a3
 refine xn 2 ?_
 obtain rfl:=si a3
 exact ⟨_,bC,true,bD,bE,rfl,dj,(by kernel_rfl),bc⟩
 refine xn 2 ?_
 obtain rfl:=si a3
 exact ⟨_,bC,false,bD,bE,rfl,dj,(by kernel_rfl),bc⟩
 refine xn 0<|dF<|xt 6<|aN ?_
 obtain rfl:=si aA
 exact ⟨_,bC,bW,bY,di,bD,bE,rfl,dj,(by kernel_rfl),bc⟩
 refine xn 10<|dF<|xt 4<|aN ?_
 obtain rfl:=si I
 exact ⟨_,bu,bw,bx,bB,rfl,dc,(by kernel_rfl),az⟩
 refine xn 17<|dF<|xt 4<|aN ?_
 obtain rfl:=si I
 exact ⟨_,bu,bw,bx,bB,rfl,dc,(by kernel_rfl),az⟩
 refine xn 0<|dF<|xt 2<|aN ?_
 obtain rfl:=si ax
 exact ⟨_,b6,b7,b8,rfl,e7,(by kernel_rfl),bP⟩
 refine bk 0 ?_
 have hj:=fA.dE (aa aj)
 refine lp [0,1,2,7,8,9] (fun n l h=>∃ cc cd dq aW a4 cf aw cg,correctorref12_told_l0 F a0 a1 bg n cd dq aW=some ds∧RCs (α:=aj) cc cf cd∧RCs (α:=Int) cc cg dq∧l=[(0,v2),(1,v4),(2,v6),(7,a4),(8,aw),(9,V aW)]∧St hs [] Z (0,0) cc h [.gs a4 cf (aa aj), .gs aw cg (aa Int)]) F ⟨_,[],fy,0,(.slice none 0 0),[],fB,fC,ar,(RCs.bA _),fD,(by kernel_rfl),hj⟩ ?_
 rintro et l jK ⟨cc,cd,dq,aW,a4,cf,aw,cg,ar,fl,bl,rfl,ew⟩
 rcases et with _ | et
 cases (show none=some ds from ar)
 rw [correctorref12_told_l0] at ar
 refine sq<|s0<|bM 2 aw (ew.dV (i:=1) rfl bl)<|aO 0 ar ?_ ?_<;>intro jL ar
 refine xn 0<|dT<|sk<|sq<|bk 1<|ea wZ ew ?_
 intro fm jM fo bF
 refine yq 3 [(29,V aW),(28,aw),(27,a4),(0,v2),(1,v4),(2,v6),(7,a4),(8,aw),(9,V aW)] ?_
 obtain ⟨fp,ar⟩:=aK ar
 refine aF rfl trivial (bG rfl rfl (by kernel_rfl:slTy _ _=some (aa Int)) (bF.bL (j:=1) rfl bl (by omega)) fp.1 fp.2) ?_
 obtain ⟨a7,fq,ar⟩:=ai ar
 obtain ⟨jN,hk,hl,jO⟩:=bF.cz (j:=1) rfl bl (i:=aW) fq
 obtain rfl:=kJ hk
 have hn:=dw fq
 have fr:=bF.bL (j:=1) rfl bl hn
 have jP:(baseOf aw).block<fm:=dG (fo.1 _ (List.mem_of_getElem? (i:=1) rfl)) fr
 refine du rfl trivial rfl (by show (baseOf aw).block<_;omega) (aB (v:=V a7) trivial) (bK (w:=V a7) hl rfl (by kernel_rfl)) trivial<|yq 2 [(33,V aW),(32,aw),(31,V a7),(27,a4),(0,v2),(1,v4),(2,v6),(7,a4),(8,aw),(9,V aW)] ?_
 obtain ⟨fs,ar⟩:=aK ar
 refine aF rfl trivial (bG rfl rfl (by kernel_rfl:slTy _ _=some (aa Int)) (bF.bL (j:=1) rfl bl (by omega)) fs.1 fs.2) ?_
 obtain ⟨bd,ft,ar⟩:=ai ar
 obtain ⟨jQ,ho,hp,jR⟩:=bF.cz (j:=1) rfl bl (i:=aW) ft
 obtain rfl:=kJ ho
 have hq:=dw ft
 have fu:=bF.bL (j:=1) rfl bl hq
 have jS:(baseOf aw).block<fm:=dG (fo.1 _ (List.mem_of_getElem? (i:=1) rfl)) fu
 refine du rfl trivial rfl (by show (baseOf aw).block<_;omega) (aB (v:=V bd) trivial) (bK (w:=V bd) hp rfl (by kernel_rfl)) trivial<|yq 2 [(37, .agg #[V 1,V a7,V (af (bd+1))]),(27,a4),(0,v2),(1,v4),(2,v6),(7,a4),(8,aw),(9,V aW)] ?_
 have hr:RCs (α:=aj) cc [V 1,V a7,V (af (bd+1))] [(⟨1,a7,af (bd+1)⟩:aj)]:=RCs.cons (cs:=[V 1,V a7,V (af (bd+1))]) rfl (RCs.bA _)
 refine jc rfl trivial (c6 (cells:=[V 1,V a7,V (af (bd+1))]) (s:=3) (by kernel_rfl)) (by kernel_rfl) bF (by omega) (Nat.add_lt_add_left (by decide) _) ?_
 intro ht jT jU jV jW fv
 obtain ⟨jX,ar⟩:=aK ar
 have dr:St _ _ _ _ _ _ ([.gs a4 cf (aa aj)]++[.gs ht [V 1,V a7,V (af (bd+1))] (aa aj), .gs aw cg (aa Int)]):=(fv.front 1 rfl)
 refine iT rfl trivial dr (dZ (ys:=[(⟨1,a7,af (bd+1)⟩:aj)]) (b4:=24) dr.sub (i:=0) rfl fl ((fv.cD).eK (j:=0) rfl hr) rfl rfl (by kernel_rfl) (by omega) (by omega)) (aM.refl _) (.aT (dr.bz 1 rfl (kc fu)) (.aT (dr.bz 1 rfl (kc fr)) .nil)) ?_
 rintro fx hv jY ⟨hx,hy⟩
 refine ye 1 [(7,fx),(0,v2),(1,v4),(2,v6),(8,aw),(9,V aW)] ?_
 have hA:=hy.a5
 refine gp 3 ?_
 exact ⟨et,Nat.lt_succ_self _,⟨_,cd++[(⟨1,a7,af (bd+1)⟩:aj)],dq,af (aW+1),fx,hv,aw,cg,ar,hx,bl,(by kernel_rfl),(((hA.front 2 rfl).front 1 rfl).takeN 2)⟩⟩
 refine xn 0<|dF<|xt 0<|aN ?_
 obtain rfl:=si ar
 exact ⟨_,cd,a4,cf,rfl,fl,(by kernel_rfl),(ew.takeN 1)⟩
def nz (F:Nat) (a0:aj) (a1:aj):Option Bool:=
 if a0.ah=a1.ah then
  if a0.To=a1.To then
   if a0.Code<a1.Code then
    some true
   else
    some false
  else
   if a0.To<a1.To then
    some true
   else
    some false
 else
  if a0.ah<a1.ah then
   some true
  else
   some false
theorem D3 (F:Nat) {h:AH} {Z:Zn} {a0:aj} {a1:aj} (hI:Inv Z h) {r:Bool} (hm:nz F a0 a1=some r):
  bU Try.prog 48 [.agg #[V a0.Code,V a0.ah,V a0.To], .agg #[V a1.Code,V a1.ah,V a1.To]] h Z (.bool r):=by
 refine b1 Try.func48 hI ?_
 intro hs hS
 unfold nz at hm
 refine s0<|df 0 [V a0.Code,V a0.ah,V a0.To] hS ?_
 intro J h2 I
 refine df 0 [V a1.Code,V a1.ah,V a1.To] I ?_
 intro U aa j
 refine xn 1<|sq<|s0<|aA 1 1 (V a0.ah) j rfl<|aA 1 0 (V a1.ah) j rfl<|cZ 0 hm ?_ ?_<;>intro ab hm
 refine xn 0<|dF<|sk<|sq<|s0<|aA 1 1 (V a0.To) j rfl<|aA 1 0 (V a1.To) j rfl<|cZ 0 hm ?_ ?_<;>intro ad hm
 refine xn 0<|dF<|sk<|s0<|aA 1 1 (V a0.Code) j rfl<|aA 1 0 (V a1.Code) j rfl<|aO 0 hm ?_ ?_<;>intro ae hm
 refine xn 1<|rt<|⟨rfl,?_⟩
 obtain rfl:=si hm
 refine ⟨_,_,_,tk (.bool true) (ResL.nil),j,?_⟩
 exact rfl
 refine xn 1<|rt<|⟨rfl,?_⟩
 obtain rfl:=si hm
 refine ⟨_,_,_,tk (.bool false) (ResL.nil),j,?_⟩
 exact rfl
 refine xn 0<|dT<|s0<|aA 1 1 (V a0.To) j rfl<|aA 1 0 (V a1.To) j rfl<|aO 0 hm ?_ ?_<;>intro af hm
 refine xn 1<|rt<|⟨rfl,?_⟩
 obtain rfl:=si hm
 refine ⟨_,_,_,tk (.bool true) (ResL.nil),j,?_⟩
 exact rfl
 refine xn 1<|rt<|⟨rfl,?_⟩
 obtain rfl:=si hm
 refine ⟨_,_,_,tk (.bool false) (ResL.nil),j,?_⟩
 exact rfl
 refine xn 0<|dT<|s0<|aA 1 1 (V a0.ah) j rfl<|aA 1 0 (V a1.ah) j rfl<|aO 0 hm ?_ ?_<;>intro ag hm
 refine xn 1<|rt<|⟨rfl,?_⟩
 obtain rfl:=si hm
 refine ⟨_,_,_,tk (.bool true) (ResL.nil),j,?_⟩
 exact rfl
 refine xn 1<|rt<|⟨rfl,?_⟩
 obtain rfl:=si hm
 refine ⟨_,_,_,tk (.bool false) (ResL.nil),j,?_⟩
 exact rfl
def yA:List bq:=[uP 14 (mv 5),uP 15 (bc .gtr 3 14 0 3),uP 16 (mv 15),aI 16 17 (mv 0),aI 16 18 (mv 4),aI 16 19 (ia 28 17 18),cJ 16 20 (ld 92 19),aI 16 21 (mv 3),aI 16 22 (mv 5),aI 16 23 (bc .sub 3 22 1 3),aI 16 24 (ia 28 21 23),cJ 16 25 (ld 92 24),jE 16 (some 26) (cf 48 #[(t 20),(t 25)] #[92,92]) .make [6,11],uP 27 (pf 16 26)]
def Cl:List bq:=[uP 30 (mv 5),uP 31 (bc .gtr 3 30 0 3),uP 32 (mv 31),aI 32 33 (mv 3),aI 32 34 (mv 5),aI 32 35 (bc .sub 3 34 1 3),aI 32 36 (ia 28 33 35),cJ 32 37 (ld 92 36),aI 32 38 (mv 0),aI 32 39 (mv 4),aI 32 40 (ia 28 38 39),cJ 32 41 (ld 92 40),aI 32 42 (bo .eql 92 37 41 92),uP 43 (pf 32 42)]
def xb:List aV:=[u 44 (mv 3),u 45 (.build 92 #[]),u 46 (.buildSlice 28 1 #[(0,(t 45))]),u 47 (cb .append #[(t 44),(t 46)] #[28,28]),u 3 (sg 47)]
def wK:List bq:=[uP 48 (mv 3),uP 49 (mv 5),uP 50 (bc .add 3 49 1 3),uP 51 (.slice 28 (t 48) (some (t 50)) none none),uP 52 (mv 3),uP 53 (mv 5),uP 54 (.slice 28 (t 52) (some (t 53)) none none),uF 55 (cb .copy #[(t 51),(t 54)] #[28,28]) .make []]
def x2:List aV:=[u 56 (mv 3),u 57 (mv 5),u 58 (mv 0),u 59 (mv 4),u 60 (ia 28 58 59),u 61 (ld 92 60),u 62 (ia 28 56 57),o (.store 92 (t 62) (t 61))]
def lM (F:Nat) (a0:List aj):Nat→(List aj)→Int→Int→Option ((List aj)×Int×Int)
 | 0,_,_,_=>none
 | n+1,J,I,j=>
  if (0:Int)<j then
   if 0≤I∧I<(a0.length:Int) then
    (a0[I.toNat]?).bind fun U=>
    if 0≤(af (j - 1))∧(af (j - 1))<(J.length:Int) then
     (J[(af (j - 1)).toNat]?).bind fun aa=>
     (nz F U aa).bind fun ab=>
     if ab=true then
      lM F a0 n J I (af (j - 1))
     else
      some (J,I,j)
    else none
   else none
  else
   some (J,I,j)
def correctorref14_Sort_l0 (F:Nat) (a0:List aj):Nat→(List aj)→Int→Option (List aj)
 | 0,_,_=>none
 | n+1,aa,ab=>
  if ab<(a0.length:Int) then
   ((((lM F a0 F aa ab (aa.length:Int)):Option ((List aj)×Int×Int)).bind fun o=>match o with
     | (U,J,j)=>((if (0:Int)<j then
       if 0≤(af (j - 1))∧(af (j - 1))<(U.length:Int) then
        (U[(af (j - 1)).toNat]?).bind fun ad=>
        if 0≤J∧J<(a0.length:Int) then
         (a0[J.toNat]?).bind fun ae=>
         if ad=ae then
          some (.inr (U,J))
         else
          some (.inl U)
        else none
       else none
      else
       some (.inl U)):Option (Sum (List aj) ((List aj)×Int))).bind fun o=>match o with
      | .inl I=>if I.length+[(⟨0,0,0⟩:aj)].length≤5864062014805 then
       if 0<(I++[(⟨0,0,0⟩:aj)]).length∧0≤(af (j+1))∧(af (j+1))≤((I++[(⟨0,0,0⟩:aj)]).length:Int)∧((I++[(⟨0,0,0⟩:aj)]).length:Int)≤((I++[(⟨0,0,0⟩:aj)]).length:Int) then
        if 0<(I++[(⟨0,0,0⟩:aj)]).length∧0≤j∧j≤((I++[(⟨0,0,0⟩:aj)]).length:Int)∧((I++[(⟨0,0,0⟩:aj)]).length:Int)≤((I++[(⟨0,0,0⟩:aj)]).length:Int) then
         if 0≤J∧J<(a0.length:Int) then
          (a0[J.toNat]?).bind fun ag=>
          if 0≤j∧j<((iH (I++[(⟨0,0,0⟩:aj)]) ((af (j+1)).toNat) j.toNat (Nat.min (((I++[(⟨0,0,0⟩:aj)]).length:Int).toNat - j.toNat) (((I++[(⟨0,0,0⟩:aj)]).length:Int).toNat - (af (j+1)).toNat))).length:Int) then
           ((iH (I++[(⟨0,0,0⟩:aj)]) ((af (j+1)).toNat) j.toNat (Nat.min (((I++[(⟨0,0,0⟩:aj)]).length:Int).toNat - j.toNat) (((I++[(⟨0,0,0⟩:aj)]).length:Int).toNat - (af (j+1)).toNat)))[j.toNat]?).bind fun al=>
           some ((iH (I++[(⟨0,0,0⟩:aj)]) ((af (j+1)).toNat) j.toNat (Nat.min (((I++[(⟨0,0,0⟩:aj)]).length:Int).toNat - j.toNat) (((I++[(⟨0,0,0⟩:aj)]).length:Int).toNat - (af (j+1)).toNat))).set j.toNat ag,J)
          else none
         else none
        else none
       else none
      else none
      | .inr y=>some y):Option ((List aj)×Int)).bind fun o=>match o with
    | (ah,ai)=>correctorref14_Sort_l0 F a0 n ah (af (ai+1))
  else
   some aa
def nQ (F:Nat) (a0:List aj):Option (List aj):=
 ((correctorref14_Sort_l0 F a0 F [] 0):Option (List aj)).bind fun o=>match o with
  | j=>some j
theorem xQ (F:Nat) {h:AH} {Z:Zn} {a0:List aj} {v2} (hP:Pre Z h []) (az:RS (α:=aj) Z v2 a0) {r:(List aj)} (hm:nQ F a0=some r):
  bX Try.prog 23 [v2] h Z [] fun v Z' A'=>∃ v4 bH,v4=v∧A'=[.gs v4 bH (aa aj)]∧RCs (α:=aj) Z' bH r:=by
 refine cm Try.func23 hP ?_
 intro hs hS
 unfold nQ at hm
 replace hS:St hs [] Z (0,0) Z hs []:=hS
 refine sp 1<|sp 1<|sq<|sp 1 ?_
 obtain ⟨bb,ar,hm⟩:=ai hm
 refine aH [3] (fun l h=>∃ bc bd aS aW,bd=bb∧RCs (α:=aj) bc aW bd∧l=[(3,aS)]∧St hs [] Z (0,0) bc h [.gs aS aW (aa aj)]) ?_ ?_
 rintro l c7 ⟨bc,bd,aS,aW,rfl,bZ,rfl,b0⟩
 try dsimp only at hm
 refine sp 2<|rt<|⟨rfl,?_⟩
 obtain rfl:=si hm
 refine ⟨_,_,_,tk aS (ResL.nil),b0,?_⟩
 exact ⟨aS,aW,rfl,rfl,bZ⟩
 refine bk 0 ?_
 have b1:=hS.dE (aa aj)
 refine lp [0,3,4] (fun n l h=>∃ bf aD aX aE aT,correctorref14_Sort_l0 F a0 n aD aX=some bb∧RCs (α:=aj) bf aT aD∧l=[(0,v2),(3,aE),(4,V aX)]∧St hs [] Z (0,0) bf h [.gs aE aT (aa aj)]) F ⟨_,[],0,(.slice none 0 0),[],ar,(RCs.bA _),(by kernel_rfl),b1⟩ ?_
 rintro bg l c8 ⟨bf,aD,aX,aE,aT,ar,bh,rfl,aY⟩
 rcases bg with _ | bg
 cases (show none=some bb from ar)
 rw [correctorref14_Sort_l0] at ar
 refine sq<|s0<|bM 2 v2 (RS.len (az.mono aY.ag))<|aO 0 ar ?_ ?_<;>intro c9 ar
 refine xn 0<|dT<|sk<|sq ?_
 obtain ⟨b2,J,ar⟩:=ai ar
 refine aH [0,3,4] (fun l h=>∃ bj aZ a1 a3 a4,(aZ,a1)=b2∧RCs (α:=aj) bj a4 aZ∧l=[(0,v2),(3,a3),(4,V a1)]∧St hs [] Z (0,0) bj h [.gs a3 a4 (aa aj)]) ?_ ?_
 rintro l da ⟨bj,aZ,a1,a3,a4,rfl,b3,rfl,b5⟩
 try dsimp only at ar
 refine gp 3 ?_
 exact ⟨bg,Nat.lt_succ_self _,⟨_,aZ,af (a1+1),a3,a4,ar,b3,(by kernel_rfl),b5⟩⟩
 refine bk 1<|s0<|bM 1 aE (aY.dV (i:=0) rfl bh)<|xn 1<|sq ?_
 obtain ⟨bl,U,J⟩:=ai J
 refine aH [0,3,4,5] (fun l h=>∃ bm aG ab I ae aI,(aG,ab,I)=bl∧RCs (α:=aj) bm aI aG∧l=[(0,v2),(3,ae),(4,V ab),(5,V I)]∧St hs [] Z (0,0) bm h [.gs ae aI (aa aj)]) ?_ ?_
 rintro l dc ⟨bm,aG,ab,I,ae,aI,rfl,aJ,rfl,bn⟩
 try dsimp only at J
 refine sq ?_
 obtain ⟨b6,ad,J⟩:=ai J
 refine aH [0,3,4,5] (fun l h=>∃ a7 ax aU bo, .inl ax=b6∧RCs (α:=aj) a7 bo ax∧l=[(0,v2),(3,aU),(4,V ab),(5,V I)]∧St hs [] Z (0,0) a7 h [.gs aU bo (aa aj)]) ?_ ?_
 rintro l dd ⟨a7,ax,aU,bo,rfl,b7,rfl,bt⟩
 try dsimp only at J
 refine sr xb<|xq 2 [(45, .agg #[V 0,V 0,V 0]),(44,aU),(0,v2),(3,aU),(4,V ab),(5,V I)] ?_
 have b8:RCs (α:=aj) a7 [V 0,V 0,V 0] [(⟨0,0,0⟩:aj)]:=RCs.cons (cs:=[V 0,V 0,V 0]) rfl (RCs.bA _)
 refine eh rfl trivial (c6 (cells:=[V 0,V 0,V 0]) (s:=3) (by kernel_rfl)) (by kernel_rfl) bt ?_
 intro b9 de bI
 obtain ⟨df,J⟩:=aK J
 refine gd rfl trivial (dZ (ys:=[(⟨0,0,0⟩:aj)]) (b4:=24) bI (i:=1) rfl b7 ((bI).eK (j:=0) rfl b8) rfl rfl (by kernel_rfl) (by omega) (by omega)) ?_
 rintro av ca dh ⟨bu,cb⟩
 refine xn 1<|cT wK cb ?_
 intro di dj dk bw
 refine yq 3 [(50,V (af (I+1))),(48,av),(3,av),(0,v2),(4,V ab),(5,V I)] ?_
 obtain ⟨a8,J⟩:=aK J
 refine oB rfl trivial (tB (a:=af (I+1)) (b:=((ax++[(⟨0,0,0⟩:aj)]).length:Int)) bw (i:=1) rfl bu a8.1 rfl (by kernel_rfl:slTy _ _=some (aa aj)) ⟨_,rfl⟩ rfl a8.2.1 a8.2.2.1 a8.2.2.2) ?_
 intro cc cd
 refine yq 2 [(53,V I),(52,av),(51,cc),(3,av),(0,v2),(4,V ab),(5,V I)] ?_
 obtain ⟨a9,J⟩:=aK J
 refine oB rfl trivial (tB (a:=I) (b:=((ax++[(⟨0,0,0⟩:aj)]).length:Int)) bw (i:=1) rfl bu a9.1 rfl (by kernel_rfl:slTy _ _=some (aa aj)) ⟨_,rfl⟩ rfl a9.2.1 a9.2.2.1 a9.2.2.2) ?_
 intro dm cf
 have bJ:St _ _ _ _ _ _ ([.gs av ca (aa aj)]++[.gs b9 [V 0,V 0,V 0] (aa aj)]):=(bw.front 1 rfl)
 refine nF rfl trivial bJ (yy bJ.sub (i:=0) rfl bu cd cf rfl rfl (by kernel_rfl:slTy _ _=some (aa aj)) (by omega) (by omega)) (aM.refl _) .nil ?_
 rintro dn dp ⟨bx,cg⟩
 refine yf [(3,av),(0,v2),(4,V ab),(5,V I)] ?_
 have ba:=cg.a5
 refine rg x2<|xq 4 [(59,V ab),(58,v2),(57,V I),(56,av),(3,av),(0,v2),(4,V ab)]<|a6 0 J (az.mono bt.ag) ?_
 intro dq J
 refine bp 0 0 (fun aq=> .agg #[V aq.Code,V aq.ah,V aq.To]) J (az.mono bt.ag) ba ?_
 intro aq dr J
 refine fj 0 0 J ba bx rfl ?_
 intro ds J
 obtain ⟨dt,bN,J⟩:=ai J
 obtain ⟨dx,ch,dy,cj⟩:=ba.cz (j:=0) rfl bx (i:=I) bN
 obtain rfl:=mw ch
 refine mz rfl trivial (iq (u':=aq) (vs:=[V aq.Code,V aq.ah,V aq.To]) (a2:=[V aq.Code,V aq.ah,V aq.To]) ba (m:=0) rfl bx bN cj rfl rfl rfl (by kernel_rfl) rfl rfl rfl rfl) ?_
 rintro dz ck ⟨cl,cn⟩
 refine xn 0 ?_
 obtain rfl:=si J
 exact ⟨_,(iH (ax++[(⟨0,0,0⟩:aj)]) ((af (I+1)).toNat) I.toNat (Nat.min (((ax++[(⟨0,0,0⟩:aj)]).length:Int).toNat - I.toNat) (((ax++[(⟨0,0,0⟩:aj)]).length:Int).toNat - (af (I+1)).toNat))).set I.toNat aq,ab,av,ck,rfl,cl,(by kernel_rfl),(cn.takeN 1)⟩
 refine cT Cl bn ?_
 intro cq dA cr aA
 refine yq 1 [(30,V I),(0,v2),(3,ae),(4,V ab),(5,V I)] ?_
 rcases ifs ad with ⟨bz,ad⟩ | ⟨bz,ad⟩
 refine aF rfl trivial (br rfl rfl (l0 bz))<|yq 4 [(35,V (af (I - 1))),(33,ae),(32, .bool true),(0,v2),(3,ae),(4,V ab),(5,V I)] ?_
 obtain ⟨bO,ad⟩:=aK ad
 refine aF rfl rfl (bG rfl rfl (by kernel_rfl:slTy _ _=some (aa aj)) (aA.bL (j:=0) rfl aJ (by omega)) bO.1 bO.2) ?_
 obtain ⟨au,bP,ad⟩:=ai ad
 obtain ⟨dB,ct,cu,dC⟩:=aA.cz (j:=0) rfl aJ (i:=af (I - 1)) bP
 obtain rfl:=mw ct
 have cv:=dw bP
 have cx:=aA.bL (j:=0) rfl aJ cv
 have dD:(baseOf ae).block<cq:=dG (cr.1 _ (List.mem_of_getElem? (i:=0) rfl)) cx
 refine du rfl rfl rfl (by show (baseOf ae).block<_;omega) (g7 (cs:=[V au.Code,V au.ah,V au.To]) (.cons trivial (.cons trivial (.cons trivial .nil)))) (bK (w:= .agg #[V au.Code,V au.ah,V au.To]) cu rfl (by kernel_rfl)) trivial<|yq 2 [(39,V ab),(38,v2),(37, .agg #[V au.Code,V au.ah,V au.To]),(32, .bool true),(0,v2),(3,ae),(4,V ab),(5,V I)] ?_
 obtain ⟨bQ,ad⟩:=aK ad
 refine aF rfl rfl (bG rfl rfl (by kernel_rfl:slTy _ _=some (aa aj)) (RS.cU (az.mono bn.ag) (by omega)) bQ.1 bQ.2) ?_
 obtain ⟨ay,cy,ad⟩:=ai ad
 obtain ⟨dH,cA,cB⟩:=RS.cp (az.mono bn.ag) (i:=ab) cy
 obtain rfl:=mw cA
 refine cG rfl rfl rfl (fun h2 hz=>bK (w:= .agg #[V ay.Code,V ay.ah,V ay.To]) (cB h2 hz) rfl (by kernel_rfl)) (aA.bV (aM.refl _)) (g7 (cs:=[V ay.Code,V ay.ah,V ay.To]) (.cons trivial (.cons trivial (.cons trivial .nil)))) trivial ?_
 rcases ifs ad with ⟨bB,ad⟩ | ⟨bB,ad⟩
 refine aF rfl rfl (br rfl rfl (Bs (x:=au) (y:=ay) bB))<|ye 1 [(43, .bool true),(0,v2),(3,ae),(4,V ab),(5,V I)] ?_
 have cC:=aA.a5
 refine dT<|xt 1<|aN ?_
 obtain rfl:=si ad
 obtain rfl:=si J
 exact ⟨_,aG,ab,ae,aI,rfl,aJ,(by kernel_rfl),cC⟩
 refine aF rfl rfl (br rfl rfl (D8 (x:=au) (y:=ay) bB))<|ye 1 [(43, .bool false),(0,v2),(3,ae),(4,V ab),(5,V I)] ?_
 have cE:=aA.a5
 refine dF<|sk ?_
 obtain rfl:=si ad
 exact ⟨_,aG,ae,aI,rfl,aJ,(by kernel_rfl),cE⟩
 refine aF rfl trivial (br rfl rfl (lb bz))<|ye 12 [(43, .bool false),(0,v2),(3,ae),(4,V ab),(5,V I)] ?_
 have cF:=aA.a5
 refine dF<|sk ?_
 obtain rfl:=si ad
 exact ⟨_,aG,ae,aI,rfl,aJ,(by kernel_rfl),cF⟩
 refine bk 2<|lp [0,3,4,5] (fun n l h=>∃ bC aL ao an al aB,lM F a0 n aL ao an=some bl∧RCs (α:=aj) bC aB aL∧l=[(0,v2),(3,al),(4,V ao),(5,V an)]∧St hs [] Z (0,0) bC h [.gs al aB (aa aj)]) F ⟨_,aD,aX,(aD.length:Int),aE,aT,U,bh,(by kernel_rfl),aY⟩ ?_
 rintro bD l dI ⟨bC,aL,ao,an,al,aB,U,aP,rfl,bE⟩
 rcases bD with _ | bD
 cases (show none=some bl from U)
 rw [lM] at U
 refine sq<|cT yA bE ?_
 intro cH dJ cI aC
 refine yq 1 [(14,V an),(0,v2),(3,al),(4,V ao),(5,V an)] ?_
 rcases ifs U with ⟨bF,U⟩ | ⟨bF,U⟩
 refine aF rfl trivial (br rfl rfl (l0 bF))<|yq 3 [(18,V ao),(17,v2),(16, .bool true),(0,v2),(3,al),(4,V ao),(5,V an)] ?_
 obtain ⟨bR,U⟩:=aK U
 refine aF rfl rfl (bG rfl rfl (by kernel_rfl:slTy _ _=some (aa aj)) (RS.cU (az.mono bE.ag) (by omega)) bR.1 bR.2) ?_
 obtain ⟨aw,cJ,U⟩:=ai U
 obtain ⟨dK,cK,cL⟩:=RS.cp (az.mono bE.ag) (i:=ao) cJ
 obtain rfl:=mw cK
 refine cG rfl rfl rfl (fun h2 hz=>bK (w:= .agg #[V aw.Code,V aw.ah,V aw.To]) (cL h2 hz) rfl (by kernel_rfl)) (aC.bV (aM.refl _)) (g7 (cs:=[V aw.Code,V aw.ah,V aw.To]) (.cons trivial (.cons trivial (.cons trivial .nil)))) trivial<|yq 3 [(23,V (af (an - 1))),(21,al),(20, .agg #[V aw.Code,V aw.ah,V aw.To]),(16, .bool true),(0,v2),(3,al),(4,V ao),(5,V an)] ?_
 obtain ⟨bS,U⟩:=aK U
 refine aF rfl rfl (bG rfl rfl (by kernel_rfl:slTy _ _=some (aa aj)) (aC.bL (j:=0) rfl aP (by omega)) bS.1 bS.2) ?_
 obtain ⟨aR,bT,U⟩:=ai U
 obtain ⟨dL,cM,cN,dM⟩:=aC.cz (j:=0) rfl aP (i:=af (an - 1)) bT
 obtain rfl:=mw cM
 have cP:=dw bT
 have cR:=aC.bL (j:=0) rfl aP cP
 have dN:(baseOf al).block<cH:=dG (cI.1 _ (List.mem_of_getElem? (i:=0) rfl)) cR
 refine du rfl rfl rfl (by show (baseOf al).block<_;omega) (g7 (cs:=[V aR.Code,V aR.ah,V aR.To]) (.cons trivial (.cons trivial (.cons trivial .nil)))) (bK (w:= .agg #[V aR.Code,V aR.ah,V aR.To]) cN rfl (by kernel_rfl)) trivial ?_
 obtain ⟨cS,cW,U⟩:=ai U
 have bU:=aC.cD
 obtain ⟨dO,dP,cZ,bW,rfl⟩:=D3 F bU.inv cW
 have c0:=St.call (A:=[]) (B:=[.gs al aB (aa aj)]) bU bW
 refine eM rfl rfl aC (cV cZ rfl rfl rfl) c0 (St.eC bW) ?_
 intro dQ c3
 refine ye 1 [(27, .bool cS),(0,v2),(3,al),(4,V ao),(5,V an)] ?_
 have bY:=c3.a5
 refine db U ?_ ?_<;>intro dR U
 refine sk<|bk 3<|gp 3 ?_
 exact ⟨bD,Nat.lt_succ_self _,⟨_,aL,ao,af (an - 1),al,aB,U,aP,(by kernel_rfl),bY⟩⟩
 refine xt 2<|aN ?_
 obtain rfl:=si U
 exact ⟨_,aL,ao,an,al,aB,rfl,aP,(by kernel_rfl),bY⟩
 refine aF rfl trivial (br rfl rfl (lb bF))<|ye 12 [(27, .bool false),(0,v2),(3,al),(4,V ao),(5,V an)] ?_
 have c5:=aC.a5
 refine dF<|xt 2<|aN ?_
 obtain rfl:=si U
 exact ⟨_,aL,ao,an,al,aB,rfl,aP,(by kernel_rfl),c5⟩
 refine xn 0<|dF<|xt 0<|aN ?_
 obtain rfl:=si ar
 exact ⟨_,aD,aE,aT,rfl,bh,(by kernel_rfl),aY⟩
def DB:List aV:=[u 22 (mv 7),u 23 (mv 7),u 24 (cb .len #[(t 23)] #[24]),u 25 (cf 21 #[(t 24)] #[3]),u 26 (mv 7),u 27 (cb .len #[(t 26)] #[24]),u 28 (.build 58 #[(0,(t 22)),(1,(t 25)),(3,(t 27))]),u 29 (.box 58 (t 28)),u 30 (mv 8),u 31 (mv 1),u 32 (.build 61 #[(0,(t 29)),(1,(t 30)),(2,(ci (-1))),(5,(t 31))]),u 33 (.box 61 (t 32)),u 9 (sg 33)]
def wg:List bq:=[uP 40 (mv 8),uP 41 (mv 10),uP 42 (ia 52 40 41),uP 43 (fa 63 42 1),uL 44 (ld 3 43),uP 45 (mv 9),uP 46 (nk 45),uP 47 (fa 61 46 6),uL 48 (ld 3 47),uP 49 (bo .geq 3 44 48 3)]
def vx:List bq:=[uP 56 (mv 7),uP 57 (mv 9),uP 58 (nk 57),uP 59 (fa 61 58 0),uL 60 (ld 55 59),uP 61 (nk 60),uP 62 (fa 58 61 1),uL 63 (ld 27 62),uP 64 (mv 9),uP 65 (nk 64),uP 66 (fa 61 65 0),uL 67 (ld 55 66),uP 68 (nk 67),uP 69 (fa 58 68 2),uL 70 (ld 28 69),uP 71 (mv 0),uP 72 (mv 7),uP 73 (mv 8),uF 74 (cf 24 #[(t 71),(t 72),(t 73)] #[31,24,52]) .make [],uF 75 (cb .append #[(t 70),(t 74)] #[28,28]) .make [11,14],uF 76 (cf 23 #[(t 75)] #[28]) .make [11,14],uP 4 (sg 56),oF (.store 27 (t 5) (t 63)) .make [4,7,11,14],uP 6 (sg 76)]
def correctorref12_Tree_l0 (F:Nat) (a0:List UInt8) (a1:Int):Nat→(List ak)→(List an)→aJ→Int→Bool→(List ar)→Int→Int→Int→Option ((List ak)×(List an)×aJ×Int×Bool×(List ar)×Int×Int)
 | 0,_,_,_,_,_,_,_,_,_=>none
 | n+1,aa,j,ab,ad,ae,ag,ai,U,I=>
  if I<(j.length:Int) then
   ((if 0≤I∧I<(j.length:Int) then
     (j[I.toNat]?).bind fun aj=>
     if U≤aj.ah then
      if 0≤I∧I<(j.length:Int) then
       (j[I.toNat]?).bind fun al=>
       (mG F (⟨ab,j,ad,ae,ag,ai,U⟩:aS) al).bind fun J=>
       some (aa,J.Rows,J.R,J.Doc,J.az,J.S,J.av,J.Read)
      else none
     else
      some (aa,j,ab,ad,ae,ag,ai,U)
    else none):Option ((List ak)×(List an)×aJ×Int×Bool×(List ar)×Int×Int)).bind fun o=>match o with
    | (ao,aq,au,aw,ax,ay,aA,aB)=>correctorref12_Tree_l0 F a0 a1 n ao aq au aw ax ay aA aB (af (I+1))
  else
   some (aa,j,ab,ad,ae,ag,ai,U)
def ly (F:Nat) (a0:List UInt8) (a1:Int):Option ((List ak)×cM×(List aj)):=
 if a1<(1:Int) then
  some ([],(⟨[]⟩:cM),[])
 else
  if (50:Int)<a1 then
   some ([],(⟨[]⟩:cM),[])
  else
   (nN F a0).bind fun j=>
   (lK F j).bind fun aa=>
   (nj F (j.length:Int)).bind fun ab=>
   ((correctorref12_Tree_l0 F a0 a1 F j aa (⟨j,ab,[],(j.length:Int)⟩:aJ) (-1) false [] a1 0 0):Option ((List ak)×(List an)×aJ×Int×Bool×(List ar)×Int×Int)).bind fun o=>match o with
    | (J,ad,I,af,ag,ah,ai,al)=>(nM F a0 J ad).bind fun U=>
    if I.D.length+U.length≤5864062014805 then
     (nQ F (I.D++U)).bind fun ae=>
     some (J,I.T,ae)
    else none
theorem s6 (F:Nat) {h:AH} {Z:Zn} {a0:List UInt8} {a1:Int} {v2} (hP:Pre Z h []) (da:RS (α:=UInt8) Z v2 a0) {r:(List ak)×cM×(List aj)} (hm:ly F a0 a1=some r):
  bX Try.prog 8 [v2,V a1] h Z [] fun v Z' A'=>∃ v4 v6 db dc, .tuple #[v4, .agg #[v6],db]=v∧A'=[.gs db dc (aa aj)]∧RS (α:=ak) Z' v4 r.1∧RS (α:=aq) Z' v6 r.2.1.al∧RCs (α:=aj) Z' dc r.2.2:=by
 refine cm Try.func8 hP ?_
 intro hs hS
 unfold ly at hm
 replace hS:St hs [] Z (0,0) Z hs []:=hS
 refine s0<|df 1 [.slice none 0 0] hS ?_
 intro cy ff b2
 refine xn 1<|sq<|s0<|aO 1 hm ?_ ?_<;>intro fg hm
 refine xn 4<|dT<|s0<|bB 2 0 (.agg #[.slice none 0 0]) [.slice none 0 0] [.slice none 0 0] b2 rfl rfl rfl ?_
 intro fh dH
 refine xn 1<|rt<|⟨rfl,?_⟩
 have dd:=dH.dE (aa aj)
 obtain rfl:=si hm
 refine ⟨_,_,_,tk (.slice none 0 0) (ResL.cell (v:= .agg #[.slice none 0 0]) (by kernel_rfl) dd (i:=1) rfl (by kernel_rfl) (tk (.slice none 0 0) (ResL.nil))),(dd.takeN 1),?_⟩
 exact ⟨.slice none 0 0, .slice none 0 0,(.slice none 0 0),[],rfl,rfl,(RS.bA _),(RS.bA _),(RCs.bA _)⟩
 refine cC 2 hm ?_ ?_<;>intro fi hm
 refine xn 1<|dT<|s0<|bB 2 0 (.agg #[.slice none 0 0]) [.slice none 0 0] [.slice none 0 0] b2 rfl rfl rfl ?_
 intro fk dI
 refine xn 1<|rt<|⟨rfl,?_⟩
 have de:=dI.dE (aa aj)
 obtain rfl:=si hm
 refine ⟨_,_,_,tk (.slice none 0 0) (ResL.cell (v:= .agg #[.slice none 0 0]) (by kernel_rfl) de (i:=1) rfl (by kernel_rfl) (tk (.slice none 0 0) (ResL.nil))),(de.takeN 1),?_⟩
 exact ⟨.slice none 0 0, .slice none 0 0,(.slice none 0 0),[],rfl,rfl,(RS.bA _),(RS.bA _),(RCs.bA _)⟩
 refine xn 1<|dF<|sk<|s0 ?_
 obtain ⟨bt,dJ,hm⟩:=ai hm
 refine c0 1 b2 (Ar F b2.eQ da dJ) ?_
 rintro _ fl fm _ fo dK ⟨aG,fp,rfl,rfl,dL⟩
 refine xn 1<|s0 ?_
 obtain ⟨fq,fr,bu,dh⟩:=(dK.front 0 rfl).freeze dL
 obtain ⟨dM,dN,hm⟩:=ai hm
 refine c0 1 dh (zG F dh.eQ bu dN) ?_
 rintro _ fs ft _ bT di ⟨a7,dO,rfl,rfl,dP⟩
 refine xn 1<|sr DB<|bM 2 aG (RS.len (bu.mono bT)) ?_
 obtain ⟨dQ,dR,hm⟩:=ai hm
 refine c0 0 di (Be F di.eQ dR) ?_
 rintro _ fu fv _ bU dS ⟨bV,fx,rfl,rfl,dU⟩
 refine xq 1 [(26,aG),(25, .agg #[bV]),(22,aG),(8,a7),(7,aG),(5,Pt cy 0),(0,v2),(1,V a1)]<|bM 0 aG (RS.len (bu.mono (bT.trans bU)))<|bN rfl trivial (jm (v:= .agg #[aG,bV, .slice none 0 0,V (bt.length:Int)]) rfl (CA.cons (cs:=[aG]) (RS.p8 (bu.mono (bT.trans bU))) (CA.cons (cs:=[bV]) rfl (CA.cons (cs:=[V (bt.length:Int)]) rfl (CA.bA)))) (by kernel_rfl)) ?_
 refine gS rfl trivial (gl (cs:=[aG,bV, .slice none 0 0,V (bt.length:Int)]) rfl rfl) dS ?_
 intro bW fy dj
 refine xq 2 [(31,V a1),(30,a7),(29,Pt bW 0),(8,a7),(7,aG),(5,Pt cy 0),(0,v2)]<|bN rfl trivial (jm (v:= .agg #[Pt bW 0,a7,V (-1), .bool false, .slice none 0 0,V a1,V 0]) rfl (CA.cons (cs:=[Pt bW 0]) rfl (CA.cons (cs:=[a7]) (dj.gb (i:=2) rfl) (CA.cons (cs:=[V (-1)]) rfl (CA.cons (cs:=[V a1]) rfl (CA.bA))))) (by kernel_rfl)) ?_
 refine gS rfl trivial (gl (cs:=[Pt bW 0,a7,V (-1), .bool false, .slice none 0 0,V a1,V 0]) rfl rfl) dj ?_
 intro dW fz dX
 refine xn 1<|sq<|sp 1 ?_
 obtain ⟨cA,aI,hm⟩:=ai hm
 refine aH [0,5,7,8,9] (fun l h=>∃ aZ cE cF aR a9 ba cG bb bc ad ab ay cH ao I bd U aD bY aL bf,(cE,cF,aR,a9,ba,cG,bb,bc)=cA∧RS (α:=ak) aZ ab cE∧RCs (α:=an) aZ cH cF∧RS (α:=ak) aZ bd aR.L∧RS (α:=aq) aZ U aR.T.al∧RCs (α:=aj) aZ bY aR.D∧RCs (α:=ar) aZ bf cG∧l=[(0,v2),(5,Pt ad 0),(7,ab),(8,ay),(9,Pt ao 0)]∧St hs [] Z (0,0) aZ h [.ae ad [.slice none 0 0], .gs ay cH (aa an), .ae ao [Pt I 0,ay,V a9, .bool ba,aL,V bb,V bc], .ae I (ax bd U aD aR), .gs aD bY (aa aj), .gs aL bf (aa ar)]) ?_ ?_
 rintro l fA ⟨aZ,cE,cF,aR,a9,ba,cG,bb,bc,ad,ab,ay,cH,ao,I,bd,U,aD,bY,aL,bf,rfl,dm,dY,fB,cI,eb,fC,rfl,dn⟩
 try dsimp only at hm
 refine cT vx dn ?_
 intro b3 fD b5 bw
 refine yq 4 [(59,Pt ao 0),(56,ab),(0,v2),(5,Pt ad 0),(7,ab),(8,ay),(9,Pt ao 0)] ?_
 have fE:ao<b3:=b5.1 _ (List.mem_of_getElem? (i:=2) rfl) _ (by simp [Itm.ids])
 refine aU (v:=Pt I 0) rfl trivial rfl (by show ao<_;omega) (aB (v:=Pt I 0) trivial) (bw.aP (i:=2) rfl (by kernel_rfl)) trivial<|yq 2 [(62,Pt I 1),(56,ab),(0,v2),(5,Pt ad 0),(7,ab),(8,ay),(9,Pt ao 0)] ?_
 have fF:I<b3:=b5.1 _ (List.mem_of_getElem? (i:=3) rfl) _ (by simp [Itm.ids])
 refine aU (v:= .agg #[U]) rfl trivial rfl (by show I<_;omega) (g7 (cs:=[U]) (.cons (RS.dD cI) .nil)) (bw.aP (i:=3) rfl (by kernel_rfl)) trivial<|yq 3 [(66,Pt ao 0),(63, .agg #[U]),(56,ab),(0,v2),(5,Pt ad 0),(7,ab),(8,ay)] ?_
 have fG:ao<b3:=b5.1 _ (List.mem_of_getElem? (i:=2) rfl) _ (by simp [Itm.ids])
 refine aU (v:=Pt I 0) rfl trivial rfl (by show ao<_;omega) (aB (v:=Pt I 0) trivial) (bw.aP (i:=2) rfl (by kernel_rfl)) trivial<|yq 2 [(69,Pt I 2),(63, .agg #[U]),(56,ab),(0,v2),(5,Pt ad 0),(7,ab),(8,ay)] ?_
 have fH:I<b3:=b5.1 _ (List.mem_of_getElem? (i:=3) rfl) _ (by simp [Itm.ids])
 refine aU (v:=aD) rfl trivial rfl (by show I<_;omega) (aB (v:=aD) (bw.dk (i:=4) rfl)) (bw.aP (i:=3) rfl (by kernel_rfl)) trivial<|yq 3 [(73,ay),(72,ab),(71,v2),(70,aD),(63, .agg #[U]),(56,ab),(5,Pt ad 0)] ?_
 obtain ⟨fJ,a2,ed,dp⟩:=(bw.front 1 rfl).freeze dY
 obtain ⟨ee,eg,hm⟩:=ai hm
 have eh:=dp.cD
 have dq:St _ _ _ _ _ _ ([]++[.ae ad [.slice none 0 0], .ae ao [Pt I 0,ay,V a9, .bool ba,aL,V bb,V bc], .ae I (ax bd U aD aR), .gs aD bY (aa aj), .gs aL bf (aa ar)]):=eh
 obtain ⟨fK,fL,fN,fO,ei,cJ,cK,cL,rfl,rfl,ej⟩:=DA F dq.ez (da.mono (dn.ag.trans a2)) (dm.mono a2) ed eg
 have ek:=dq.call cJ
 have bx:=cJ.ag
 refine eM rfl trivial dp (cV ei rfl rfl rfl) ek (St.eC cJ) ?_
 intro fP dr
 obtain ⟨fQ,hm⟩:=aK hm
 have bC:St _ _ _ _ _ _ ([.gs aD bY (aa aj)]++[.gs cK cL (aa aj), .ae ad [.slice none 0 0], .ae ao [Pt I 0,ay,V a9, .bool ba,aL,V bb,V bc], .ae I (ax bd U aD aR), .gs aL bf (aa ar)]):=(dr.front 4 rfl)
 refine iT rfl trivial bC (dZ (ys:=ee) (b4:=24) bC.sub (i:=0) rfl (eb.mono (a2.trans bx)) ((dr.cD).eK (j:=0) rfl ej) rfl rfl (by kernel_rfl) (by omega) (by omega)) (a2.trans bx) (.aT (bC.bz 3 rfl bH) (.aT (bC.bz 2 rfl bH) (.aT (bC.bz 3 rfl bH) (.aT (bC.bz 2 rfl bH) .nil)))) ?_
 rintro fR fS fT ⟨en,eo⟩
 obtain ⟨fU,b6,ep,ds⟩:=(eo.front 0 rfl).freeze en
 obtain ⟨fV,er,hm⟩:=ai hm
 have et:=ds.cD
 have dt:St _ _ _ _ _ _ ([]++[.gs cK cL (aa aj), .ae ad [.slice none 0 0], .ae ao [Pt I 0,ay,V a9, .bool ba,aL,V bb,V bc], .ae I (ax bd U aD aR), .gs aL bf (aa ar)]):=et
 obtain ⟨fW,fX,fY,fZ,eu,cN,bZ,dx,rfl,rfl,ew⟩:=xQ F dt.ez ep er
 have ey:=dt.call cN
 have b7:=cN.ag
 refine eM rfl trivial ds (cV eu rfl rfl rfl) ey (St.eC cN) ?_
 intro ga eA
 refine yq 1 [(4,ab),(76,bZ),(63, .agg #[U]),(5,Pt ad 0)] ?_
 have bD:St _ _ _ _ _ _ ([.ae ad [.slice none 0 0]]++[.gs bZ dx (aa aj), .gs cK cL (aa aj), .ae ao [Pt I 0,ay,V a9, .bool ba,aL,V bb,V bc], .ae I (ax bd U aD aR), .gs aL bf (aa ar)]):=(eA.front 2 rfl)
 refine fM rfl trivial bD (fI (vs:=[U]) (cr:=[U]) (L':=[.ae ad [U]]) bD.sub (i:=0) rfl rfl rfl rfl (by kernel_rfl) (a8 (RS.cW (cI.mono (a2.trans (bx.trans (b6.trans b7))))) cc) rfl rfl rfl) (a2.trans (bx.trans (b6.trans b7))) (.aT (bD.bz 3 rfl bH) (.aT (bD.bz 2 rfl bH) (.aT (bD.bz 3 rfl bH) (.aT (bD.bz 2 rfl bH) .nil)))) ?_
 intro gd eB
 refine ye 1 [(6,bZ),(4,ab),(5,Pt ad 0)] ?_
 have dy:=eB.a5
 refine rt<|⟨rfl,?_⟩
 obtain rfl:=si hm
 refine ⟨_,_,_,tk ab (ResL.cell (v:= .agg #[U]) (by kernel_rfl) dy (i:=0) rfl (by kernel_rfl) (tk bZ (ResL.nil))),((dy.front 1 rfl).takeN 1),?_⟩
 exact ⟨ab,U,bZ,dx,rfl,rfl,(dm.mono (a2.trans (bx.trans (b6.trans b7)))),(cI.mono (a2.trans (bx.trans (b6.trans b7)))),ew⟩
 refine bk 0 ?_
 obtain ⟨gf,cP,eD,eE⟩:=(dX.front 2 rfl).freeze dU
 have eF:=eE.dE (aa aj)
 have eG:=eF.dE (aa ar)
 refine lp [0,5,7,8,9,10] (fun n l h=>∃ a3 bE bF aW bg bj bI bl aX aA aE aM J bJ au a4 bO bP bm bQ bn bR,correctorref12_Tree_l0 F a0 a1 n bE bF aW bg bj bI bl aX aA=some cA∧RS (α:=ak) a3 aM bE∧RCs (α:=an) a3 bJ bF∧RS (α:=ak) a3 bO aW.L∧RS (α:=aq) a3 bP aW.T.al∧RCs (α:=aj) a3 bQ aW.D∧RCs (α:=ar) a3 bR bI∧l=[(0,v2),(5,Pt aE 0),(7,aM),(8,J),(9,Pt au 0),(10,V aA)]∧St hs [] Z (0,0) a3 h [.ae aE [.slice none 0 0], .gs J bJ (aa an), .ae au [Pt a4 0,J,V bg, .bool bj,bn,V bl,V aX], .ae a4 (ax bO bP bm aW), .gs bm bQ (aa aj), .gs bn bR (aa ar)]) F ⟨_,bt,dM,(⟨bt,dQ,[],(bt.length:Int)⟩:aJ),(-1),false,[],a1,0,0,cy,aG,a7,dO,dW,bW,aG,bV,(.slice none 0 0),[],(.slice none 0 0),[],aI,(bu.mono (bT.trans (bU.trans cP))),(dP.mono (bU.trans cP)),(bu.mono (bT.trans (bU.trans cP))),eD,(RCs.bA _),(RCs.bA _),(by kernel_rfl),((((((eG.front 0 rfl).front 1 rfl).front 3 rfl).front 3 rfl).front 4 rfl).front 5 rfl)⟩ ?_
 rintro cR l gg ⟨a3,bE,bF,aW,bg,bj,bI,bl,aX,aA,aE,aM,J,bJ,au,a4,bO,bP,bm,bQ,bn,bR,aI,cS,aY,cU,cZ,c3,c5,rfl,c6⟩
 rcases cR with _ | cR
 cases (show none=some cA from aI)
 rw [correctorref12_Tree_l0] at aI
 refine sq<|s0<|bM 2 J (c6.dV (i:=1) rfl aY)<|aO 0 aI ?_ ?_<;>intro gh aI
 refine xn 0<|dT<|sk<|sq<|bk 1 ?_
 obtain ⟨eH,aw,aI⟩:=ai aI
 refine ec [0,5,7,8,9,10] (fun l h=>∃ a6 b8 b9 bo ca cb cd cf cg ch cj b0 ck cl cn cp cq ct cu cv cx,(b8,b9,bo,ca,cb,cd,cf,cg)=eH∧RS (α:=ak) a6 cj b8∧RCs (α:=an) a6 ck b9∧RS (α:=ak) a6 cp bo.L∧RS (α:=aq) a6 cq bo.T.al∧RCs (α:=aj) a6 cu bo.D∧RCs (α:=ar) a6 cx cd∧l=[(0,v2),(5,Pt ch 0),(7,cj),(8,b0),(9,Pt cl 0),(10,V aA)]∧St hs [] Z (0,0) a6 h [.ae ch [.slice none 0 0], .gs b0 ck (aa an), .ae cl [Pt cn 0,b0,V ca, .bool cb,cv,V cf,V cg], .ae cn (ax cp cq ct bo), .gs ct cu (aa aj), .gs cv cx (aa ar)]) (by kernel_rfl) ?_ ?_
 rintro l gi ⟨a6,b8,b9,bo,ca,cb,cd,cf,cg,ch,cj,b0,ck,cl,cn,cp,cq,ct,cu,cv,cx,rfl,eI,eJ,eL,eN,eO,eP,rfl,eR⟩
 try dsimp only at aI
 refine gp 3 ?_
 exact ⟨cR,Nat.lt_succ_self _,⟨_,b8,b9,bo,ca,cb,cd,cf,cg,af (aA+1),ch,cj,b0,ck,cl,cn,cp,cq,ct,cu,cv,cx,aI,eI,eJ,eL,eN,eO,eP,(by kernel_rfl),eR⟩⟩
 refine ea wg c6 ?_
 intro dz gj dA bS
 refine yq 2 [(41,V aA),(40,J),(0,v2),(5,Pt aE 0),(7,aM),(8,J),(9,Pt au 0),(10,V aA)] ?_
 obtain ⟨dB,aw⟩:=aK aw
 refine aF rfl trivial (bG rfl rfl (by kernel_rfl:slTy _ _=some (aa an)) (bS.bL (j:=1) rfl aY (by omega)) dB.1 dB.2)<|yq 1 [(43, .pointer (some (bh J aA (aa an) 1))),(0,v2),(5,Pt aE 0),(7,aM),(8,J),(9,Pt au 0),(10,V aA)] ?_
 obtain ⟨c7,dC,aw⟩:=ai aw
 obtain ⟨gk,eS,eT,gm⟩:=bS.cz (j:=1) rfl aY (i:=aA) dC
 obtain rfl:=xw eS
 have eU:=dw dC
 have eV:=bS.bL (j:=1) rfl aY eU
 have gn:(baseOf J).block<dz:=dG (dA.1 _ (List.mem_of_getElem? (i:=1) rfl)) eV
 refine du rfl trivial rfl (by show (baseOf J).block<_;omega) (aB (v:=V c7.ah) trivial) (bK (w:=V c7.ah) eT rfl (by kernel_rfl)) trivial<|yq 3 [(47,Pt au 6),(44,V c7.ah),(0,v2),(5,Pt aE 0),(7,aM),(8,J),(9,Pt au 0),(10,V aA)] ?_
 have gq:au<dz:=dA.1 _ (List.mem_of_getElem? (i:=2) rfl) _ (by simp [Itm.ids])
 refine aU (v:=V aX) rfl trivial rfl (by show au<_;omega) (aB (v:=V aX) trivial) (bS.aP (i:=2) rfl (by kernel_rfl)) trivial ?_
 rcases ifs aw with ⟨c8,aw⟩ | ⟨c8,aw⟩
 refine aF rfl trivial (br rfl rfl (jC c8))<|yf [(49, .bool true),(0,v2),(5,Pt aE 0),(7,aM),(8,J),(9,Pt au 0),(10,V aA)] ?_
 have c9:=bS.a5
 refine dT<|g0<|fj 3 1 aw c9 aY rfl ?_
 intro gr aw
 refine gB 0 0 1 (fun b1=> .agg #[V b1.Kind,V b1.ah,V b1.To,V b1.aC]) aw c9 aY rfl ?_
 intro b1 gu aw
 obtain ⟨bp,eW,aw⟩:=ai aw
 have eX:St _ _ _ _ _ _ ([.ae au [Pt a4 0,J,V bg, .bool bj,bn,V bl,V aX], .ae a4 (ax bO bP bm aW), .gs bm bQ (aa aj), .gs J bJ (aa an), .gs bn bR (aa ar)]++[.ae aE [.slice none 0 0]]):=(((((c9.front 5 rfl).front 2 rfl).front 5 rfl).front 5 rfl).front 5 rfl)
 refine cB 0 eX (fun p=>D9 F (a0:=(⟨aW,bF,bg,bj,bI,bl,aX⟩:aS)) p cU cZ c3 aY c5 eW) ?_
 rintro _ gv gw _ eY eZ ⟨e0,e2,e3,e4,e5,e6,e7,rfl,rfl,e8,e9,fa,fb,fc⟩
 refine xn 0 ?_
 obtain rfl:=si aw
 exact ⟨_,bE,bp.Rows,bp.R,bp.Doc,bp.az,bp.S,bp.av,bp.Read,aE,aM,J,e5,au,a4,e0,e2,e3,e4,e6,e7,rfl,(cS.mono eY),fb,e8,e9,fa,fc,(by kernel_rfl),((((((eZ.front 4 rfl).front 3 rfl).front 3 rfl).front 3 rfl).front 4 rfl).front 5 rfl)⟩
 refine aF rfl trivial (br rfl rfl (jf c8))<|yf [(49, .bool false),(0,v2),(5,Pt aE 0),(7,aM),(8,J),(9,Pt au 0),(10,V aA)] ?_
 have fe:=bS.a5
 refine dF<|sk ?_
 obtain rfl:=si aw
 exact ⟨_,bE,bF,aW,bg,bj,bI,bl,aX,aE,aM,J,bJ,au,a4,bO,bP,bm,bQ,bn,bR,rfl,cS,aY,cU,cZ,c3,c5,(by kernel_rfl),fe⟩
 refine xn 0<|dF<|xt 0<|aN ?_
 obtain rfl:=si aI
 exact ⟨_,bE,bF,aW,bg,bj,bI,bl,aX,aE,aM,J,bJ,au,a4,bO,bP,bm,bQ,bn,bR,rfl,cS,aY,cU,cZ,c3,c5,(by kernel_rfl),c6⟩
end Go.Proofs.Ytcilejikekccmaa.M
namespace Go.Proofs.Ytcilejikekccmaa.M
open Go Am Sy
open Sy.Cell (rc)
structure eF where
 al:List aq
 deriving DecidableEq,Inhabited
instance:Cell eF where
 size:=1
 rc Z cs x:=∃ v0,RS (α:=aq) Z v0 x.al∧cs=[v0]
 len h:=by obtain ⟨v0,j,h⟩:=h;rw [h];rfl
 mono hz h:=by obtain ⟨v0,j,h⟩:=h;exact ⟨v0,j.mono hz,h⟩
 one h:=by obtain ⟨v0,j,h⟩:=h;subst h;exact (a8 j.cW cc)
 pos:=by decide
instance:cQ eF aq where
 row x:=x.al
 dJ v cs x:=cs=[v]
 ox h hd:=⟨_,h,hd⟩
 kQ h:=by rw [h];rfl
 done hv h:=by subst h;exact (a8 hv cc)
 inj h k:=by rw [h] at k;simpa using k
 fn h k:=h.trans k.symm
structure iG where
 ah:Int
 To:Int
 deriving DecidableEq,Inhabited
instance:Cell iG where
 size:=2
 rc Z cs x:=cs=[V x.ah,V x.To]
 len h:=by rw [h];rfl
 mono _ h:=h
 one h:=by rw [h];rfl
 pos:=by decide
abbrev Ef (x:iG):List Value:=[V x.ah,V x.To]
instance:FC iG:=⟨Ef,fun q=>q⟩
def ql (F:Nat) (a0:ak) (a1:Int):Option Bool:=
 if a0.ah≤a1 then
  if a1<a0.To then
   some true
  else
   some false
 else
  some false
theorem yB (F:Nat) {h:AH} {Z:Zn} {a0:ak} {a1:Int} {I} (hP:Pre Z h [.ae I [V a1]]) {r:Bool} (hm:ql F a0 a1=some r):
  bX Try.prog 52 [.agg #[V a0.Kind,V a0.ah,V a0.To],Pt I 0] h Z [.ae I [V a1]] fun v Z' A'=> .bool r=v∧A'=[.ae I [V a1]]:=by
 refine cm Try.func52 hP ?_
 intro hs hS
 unfold ql at hm
 refine s0<|df 0 [V a0.Kind,V a0.ah,V a0.To] hS ?_
 intro J U j
 refine xn 1<|s0<|aA 0 1 (V a1) j rfl<|aA 1 0 (V a0.ah) j rfl<|cv 0 hm ?_ ?_<;>intro aa hm
 refine aA 1 1 (V a1) j rfl<|aA 1 0 (V a0.To) j rfl<|aO 0 hm ?_ ?_<;>intro ab hm
 refine xn 2<|rt<|⟨rfl,?_⟩
 obtain rfl:=si hm
 refine ⟨_,_,_,tk (.bool true) (ResL.nil),((j.front 1 rfl).takeN 1),?_⟩
 exact ⟨rfl,rfl⟩
 refine xn 2<|rt<|⟨rfl,?_⟩
 obtain rfl:=si hm
 refine ⟨_,_,_,tk (.bool false) (ResL.nil),((j.front 1 rfl).takeN 1),?_⟩
 exact ⟨rfl,rfl⟩
 refine xn 7<|rt<|⟨rfl,?_⟩
 obtain rfl:=si hm
 refine ⟨_,_,_,tk (.bool false) (ResL.nil),((j.front 1 rfl).takeN 1),?_⟩
 exact ⟨rfl,rfl⟩
def slices_IndexFunc_api_Token_l0 (F:Nat) (a0:List ak) (dP:Int):Nat→Int→Option (Sum Unit Int)
 | 0,_=>none
 | n+1,j=>
  if j<(a0.length:Int) then
   if 0≤j∧j<(a0.length:Int) then
    (a0[j.toNat]?).bind fun I=>
    (ql F I dP).bind fun J=>
    if J=true then
     some (.inr j)
    else
     slices_IndexFunc_api_Token_l0 F a0 dP n (af (j+1))
   else none
  else
   some (.inl ())
def qd (F:Nat) (a0:List ak) (dP:Int):Option Int:=
 ((slices_IndexFunc_api_Token_l0 F a0 dP F 0):Option (Sum Unit Int)).bind fun o=>match o with
  | .inl ()=>some (-1)
  | .inr y=>some y
theorem AV (F:Nat) {h:AH} {Z:Zn} {a0:List ak} {dP:Int} {v2 I} (hP:Pre Z h [.ae I [V dP]]) (ab:RS (α:=ak) Z v2 a0) {r:Int} (hm:qd F a0 dP=some r):
  bX Try.prog 51 [v2, .func (.func 52) #[] #[Pt I 0]] h Z [.ae I [V dP]] fun v Z' A'=>V r=v∧A'=[.ae I [V dP]]:=by
 refine cm Try.func51 hP ?_
 intro hs hS
 unfold qd at hm
 refine sp 1<|sq<|s0<|bM 1 v2 (RS.len ab)<|xn 1 ?_
 obtain ⟨ad,j,hm⟩:=ai hm
 refine aH [] (fun l h=>∃ al, .inl ()=ad∧l=[]∧St hs (aR [.ae I [V dP]]) Z (0,0) al h [.ae I [V dP]]) ?_ ?_
 rintro l au ⟨al,rfl,rfl,aq⟩
 try dsimp only at hm
 refine sp 1<|rt<|⟨rfl,?_⟩
 obtain rfl:=si hm
 refine ⟨_,_,_,tk (V (-1)) (ResL.nil),aq,?_⟩
 exact ⟨rfl,rfl⟩
 refine bk 0<|lp [0,1,7,8] (fun n l h=>∃ an J,slices_IndexFunc_api_Token_l0 F a0 dP n J=some ad∧l=[(0,v2),(1, .func (.func 52) #[] #[Pt I 0]),(7,V (a0.length:Int)),(8,V J)]∧St hs (aR [.ae I [V dP]]) Z (0,0) an h [.ae I [V dP]]) F ⟨_,0,j,(by kernel_rfl),hS⟩ ?_
 rintro aj l av ⟨an,J,j,rfl,U⟩
 rcases aj with _ | aj
 cases (show none=some ad from j)
 rw [slices_IndexFunc_api_Token_l0] at j
 refine s0<|aO 0 j ?_ ?_<;>intro aw j
 refine xn 0<|sq<|dT<|sk<|sq<|bk 1<|sp 2<|s0<|a6 3 j (ab.mono U.ag) ?_
 intro ax j
 refine bp 0 0 (fun aa=> .agg #[V aa.Kind,V aa.ah,V aa.To]) j (ab.mono U.ag) U ?_
 intro aa ay j
 obtain ⟨az,ar,j⟩:=ai j
 refine cA 0 U (fun p=>yB F p ar) ?_
 rintro _ aA aB _ aC ao ⟨rfl,rfl⟩
 refine xn 0<|db j ?_ ?_<;>intro aD j
 refine sp 2<|rt<|ba<|ba<|⟨rfl,?_⟩
 obtain rfl:=si j
 obtain rfl:=si hm
 refine ⟨_,_,_,tk (V J) (ResL.nil),ao,?_⟩
 exact ⟨rfl,rfl⟩
 refine sk<|gp 2 ?_
 exact ⟨aj,Nat.lt_succ_self _,⟨_,af (J+1),j,(by kernel_rfl),ao⟩⟩
 refine xn 0<|sq<|dF<|xt 0<|aN ?_
 obtain rfl:=si j
 exact ⟨_,rfl,(by kernel_rfl),U⟩
def q0 (F:Nat) (a0:List ak) (a1:Int):Option Int:=
 (qd F a0 a1).bind fun j=>
 some j
theorem wF (F:Nat) {h:AH} {Z:Zn} {a0:List ak} {a1:Int} {v2} (hI:Inv Z h) (j:RS (α:=ak) Z v2 a0) {r:Int} (hm:q0 F a0 a1=some r):
  bU Try.prog 25 [v2,V a1] h Z (V r):=by
 refine b1 Try.func25 hI ?_
 intro hs hS
 unfold q0 at hm
 refine s0<|df 0 [V a1] hS ?_
 intro ab ad I
 refine xn 1<|s0 ?_
 obtain ⟨J,U,hm⟩:=ai hm
 refine cA 2 I (fun p=>AV F p j U) ?_
 rintro _ ae af _ ag aa ⟨rfl,rfl⟩
 refine xn 1<|rt<|⟨rfl,?_⟩
 obtain rfl:=si hm
 refine ⟨_,_,_,tk (V J) (ResL.nil),aa,?_⟩
 exact rfl
def Ca:List aV:=[u 2 (.box 34 (t 0)),u 4 (.assign (.const (.bool false)))]
def ry (F:Nat) (a0:eF) (a1:Int):Option Bool:=
 if (0:Int)≤a1 then
  if a1<(a0.al.length:Int) then
   some true
  else
   some false
 else
  some false
theorem CD (F:Nat) {h:AH} {Z:Zn} {a0:eF} {a1:Int} {v2} (hI:Inv Z h) (I:RS (α:=aq) Z v2 a0.al) {r:Bool} (hm:ry F a0 a1=some r):
  bU Try.prog 28 [.agg #[v2],V a1] h Z (.bool r):=by
 refine b1 Try.func28 hI ?_
 intro hs hS
 unfold ry at hm
 refine sr Ca<|gS rfl trivial (gl (cs:=[v2]) rfl rfl) hS ?_
 intro J U j
 refine xn 1<|s0<|cv 1 hm ?_ ?_<;>intro aa hm
 refine aA 3 0 v2 j rfl<|bM 0 v2 (RS.len I)<|aO 0 hm ?_ ?_<;>intro ab hm
 refine xn 2<|rt<|⟨rfl,?_⟩
 obtain rfl:=si hm
 refine ⟨_,_,_,tk (.bool true) (ResL.nil),j,?_⟩
 exact rfl
 refine xn 2<|rt<|⟨rfl,?_⟩
 obtain rfl:=si hm
 refine ⟨_,_,_,tk (.bool false) (ResL.nil),j,?_⟩
 exact rfl
 refine xn 8<|rt<|⟨rfl,?_⟩
 obtain rfl:=si hm
 refine ⟨_,_,_,tk (.bool false) (ResL.nil),j,?_⟩
 exact rfl
def wu:List bq:=[uL 5 (ld 34 1),uP 6 (mv 0),uF 7 (cf 28 #[(t 5),(t 6)] #[34,3]) .make [0],uP 8 (mv 7),aI 8 9 (fa 34 1 0),jE 8 (some 10) (ld 25 9) .look [2],aI 8 11 (mv 0),aI 8 12 (ia 25 10 11),aI 8 13 (fa 37 12 1),jE 8 (some 14) (ld 3 13) .look [2],jE 8 (some 15) (ld 3 2) .look [2],aI 8 16 (bo .leq 3 14 15 3),uP 17 (pf 8 16),uP 18 (mv 17),jE 18 (some 19) (ld 3 2) .look [2],aI 18 20 (fa 34 1 0),jE 18 (some 21) (ld 25 20) .look [2],aI 18 22 (mv 0),aI 18 23 (ia 25 21 22),aI 18 24 (fa 37 23 2),jE 18 (some 25) (ld 3 24) .look [2],aI 18 26 (bo .lss 3 19 25 3),uP 27 (pf 18 26),uP 4 (sg 27)]
def rF (F:Nat) (a0:Int) (a1:eF) (j:Int):Option Bool:=
 (ry F a1 a0).bind fun I=>
 if I=true then
  if 0≤a0∧a0<(a1.al.length:Int) then
   (a1.al[a0.toNat]?).bind fun J=>
   if J.ah≤j then
    if 0≤a0∧a0<(a1.al.length:Int) then
     (a1.al[a0.toNat]?).bind fun U=>
     if j<U.To then
      some true
     else
      some false
    else none
   else
    some false
  else none
 else
  some false
theorem BX (F:Nat) {h:AH} {Z:Zn} {a0:Int} {a1:eF} {U:Int} {j I J} (hP:Pre Z h [.ae j [I], .ae J [V U]]) (ad:RS (α:=aq) Z I a1.al) {r:Bool} (hm:rF F a0 a1 U=some r):
  bX Try.prog 27 [V a0,Pt j 0,Pt J 0] h Z [.ae j [I], .ae J [V U]] fun v Z' A'=> .bool r=v∧A'=[.ae j [I], .ae J [V U]]:=by
 refine cm Try.func27 hP ?_
 intro hs hS
 unfold rF at hm
 refine s0<|xe 1 [(0,V a0),(1,Pt j 0),(2,Pt J 0)]<|cT wu hS ?_
 intro af aW ag aj
 have aX:j<af:=ag.1 _ (List.mem_of_getElem? (i:=0) rfl) _ (by simp [Itm.ids])
 refine aU (v:= .agg #[I]) rfl trivial rfl (by show j<_;omega) (g7 (cs:=[I]) (.cons (RS.dD ad) .nil)) (aj.aP (i:=0) rfl (by kernel_rfl)) trivial<|yq 1 [(6,V a0),(5, .agg #[I]),(0,V a0),(1,Pt j 0),(2,Pt J 0)] ?_
 obtain ⟨aA,aC,hm⟩:=ai hm
 have au:=aj.cD
 obtain ⟨aY,aZ,aD,av,rfl⟩:=CD F au.inv ad aC
 have aE:=St.call (A:=[]) (B:=[.ae j [I], .ae J [V U]]) au av
 refine eM rfl trivial aj (cV aD rfl rfl rfl) aE (St.eC av) ?_
 intro a2 ab
 refine yq 1 [(8, .bool aA),(0,V a0),(1,Pt j 0),(2,Pt J 0)] ?_
 rcases ifs hm with ⟨an,hm⟩ | ⟨an,hm⟩
 refine uw (t:=8) rfl an<|yq 1 [(9,Pt j 0),(8, .bool true),(0,V a0),(1,Pt j 0),(2,Pt J 0)] ?_
 have a3:j<af:=ag.1 _ (List.mem_of_getElem? (i:=0) rfl) _ (by simp [Itm.ids])
 refine aU (v:=I) rfl rfl rfl (by show j<_;omega) (aB (v:=I) (RS.dD ad)) (ab.aP (i:=0) rfl (by kernel_rfl)) trivial<|yq 1 [(11,V a0),(10,I),(8, .bool true),(0,V a0),(1,Pt j 0),(2,Pt J 0)] ?_
 obtain ⟨aw,hm⟩:=aK hm
 refine aF rfl rfl (bG rfl rfl (by kernel_rfl:slTy _ _=some (aa aq)) (RS.cU ad (by omega)) aw.1 aw.2)<|yq 1 [(13, .pointer (some (bh I a0 (aa aq) 1))),(8, .bool true),(0,V a0),(1,Pt j 0),(2,Pt J 0)] ?_
 obtain ⟨ax,aG,hm⟩:=ai hm
 obtain ⟨a4,aH,aI⟩:=RS.cp ad (i:=a0) aG
 obtain ⟨a6,a7,rfl⟩:=fz aH
 refine cG rfl rfl rfl (fun h2 hz=>bK (w:=V ax.ah) (aI h2 hz) rfl (by kernel_rfl)) (ab.bV (aM.refl _)) (aB (v:=V ax.ah) trivial) trivial ?_
 have a8:J<af:=ag.1 _ (List.mem_of_getElem? (i:=1) rfl) _ (by simp [Itm.ids])
 refine aU (v:=V U) rfl rfl rfl (by show J<_;omega) (aB (v:=V U) trivial) (ab.aP (i:=1) rfl (by kernel_rfl)) trivial ?_
 rcases ifs hm with ⟨ao,hm⟩ | ⟨ao,hm⟩
 refine aF rfl rfl (br rfl rfl (tU ao))<|yq 2 [(18, .bool true),(0,V a0),(1,Pt j 0),(2,Pt J 0)] ?_
 have a9:J<af:=ag.1 _ (List.mem_of_getElem? (i:=1) rfl) _ (by simp [Itm.ids])
 refine aU (v:=V U) rfl rfl rfl (by show J<_;omega) (aB (v:=V U) trivial) (ab.aP (i:=1) rfl (by kernel_rfl)) trivial<|yq 1 [(20,Pt j 0),(19,V U),(18, .bool true),(0,V a0)] ?_
 have ba:j<af:=ag.1 _ (List.mem_of_getElem? (i:=0) rfl) _ (by simp [Itm.ids])
 refine aU (v:=I) rfl rfl rfl (by show j<_;omega) (aB (v:=I) (RS.dD ad)) (ab.aP (i:=0) rfl (by kernel_rfl)) trivial<|yq 1 [(22,V a0),(21,I),(19,V U),(18, .bool true)] ?_
 obtain ⟨ay,hm⟩:=aK hm
 refine aF rfl rfl (bG rfl rfl (by kernel_rfl:slTy _ _=some (aa aq)) (RS.cU ad (by omega)) ay.1 ay.2)<|yq 1 [(24, .pointer (some (bh I a0 (aa aq) 2))),(19,V U),(18, .bool true)] ?_
 obtain ⟨az,aJ,hm⟩:=ai hm
 obtain ⟨bb,aL,aN⟩:=RS.cp ad (i:=a0) aJ
 obtain ⟨bc,bd,rfl⟩:=fz aL
 refine cG rfl rfl rfl (fun h2 hz=>bK (w:=V az.To) (aN h2 hz) rfl (by kernel_rfl)) (ab.bV (aM.refl _)) (aB (v:=V az.To) trivial) trivial ?_
 rcases ifs hm with ⟨ar,hm⟩ | ⟨ar,hm⟩
 refine aF rfl rfl (br rfl rfl (mQ ar))<|ye 2 [(4, .bool true)] ?_
 have aO:=ab.a5
 refine rt<|⟨rfl,?_⟩
 obtain rfl:=si hm
 refine ⟨_,_,_,tk (.bool true) (ResL.nil),aO,?_⟩
 exact ⟨rfl,rfl⟩
 refine aF rfl rfl (br rfl rfl (nw ar))<|ye 2 [(4, .bool false)] ?_
 have aR:=ab.a5
 refine rt<|⟨rfl,?_⟩
 obtain rfl:=si hm
 refine ⟨_,_,_,tk (.bool false) (ResL.nil),aR,?_⟩
 exact ⟨rfl,rfl⟩
 refine aF rfl rfl (br rfl rfl (uB ao))<|ye 12 [(4, .bool false)] ?_
 have aS:=ab.a5
 refine rt<|⟨rfl,?_⟩
 obtain rfl:=si hm
 refine ⟨_,_,_,tk (.bool false) (ResL.nil),aS,?_⟩
 exact ⟨rfl,rfl⟩
 refine uw (t:=8) rfl (Bool.eq_false_iff.2 an)<|ye 20 [(4, .bool false)] ?_
 have aT:=ab.a5
 refine rt<|⟨rfl,?_⟩
 obtain rfl:=si hm
 refine ⟨_,_,_,tk (.bool false) (ResL.nil),aT,?_⟩
 exact ⟨rfl,rfl⟩
def oL (F:Nat) (a0:List Int) (dP:eF) (fE:Int):Nat→Int→Option (Sum Unit Int)
 | 0,_=>none
 | n+1,j=>
  if j<(a0.length:Int) then
   if 0≤j∧j<(a0.length:Int) then
    (a0[j.toNat]?).bind fun I=>
    (rF F I dP fE).bind fun J=>
    if J=true then
     some (.inr j)
    else
     oL F a0 dP fE n (af (j+1))
   else none
  else
   some (.inl ())
def p4 (F:Nat) (a0:List Int) (dP:eF) (fE:Int):Option Int:=
 ((oL F a0 dP fE F 0):Option (Sum Unit Int)).bind fun o=>match o with
  | .inl ()=>some (-1)
  | .inr y=>some y
theorem DU (F:Nat) {h:AH} {Z:Zn} {a0:List Int} {dP:eF} {fE:Int} {v2 I U J} (hP:Pre Z h [.ae I [U], .ae J [V fE]]) (ad:RS (α:=Int) Z v2 a0) (av:RS (α:=aq) Z U dP.al) {r:Int} (hm:p4 F a0 dP fE=some r):
  bX Try.prog 26 [v2, .func (.func 27) #[] #[Pt I 0,Pt J 0]] h Z [.ae I [U], .ae J [V fE]] fun v Z' A'=>V r=v∧A'=[.ae I [U], .ae J [V fE]]:=by
 refine cm Try.func26 hP ?_
 intro hs hS
 unfold p4 at hm
 refine sp 1<|sq<|s0<|bM 1 v2 (RS.len ad)<|xn 1 ?_
 obtain ⟨ah,j,hm⟩:=ai hm
 refine aH [] (fun l h=>∃ an, .inl ()=ah∧l=[]∧St hs (aR [.ae I [U], .ae J [V fE]]) Z (0,0) an h [.ae I [U], .ae J [V fE]]) ?_ ?_
 rintro l ay ⟨an,rfl,rfl,aw⟩
 try dsimp only at hm
 refine sp 1<|rt<|⟨rfl,?_⟩
 obtain rfl:=si hm
 refine ⟨_,_,_,tk (V (-1)) (ResL.nil),aw,?_⟩
 exact ⟨rfl,rfl⟩
 refine bk 0<|lp [0,1,7,8] (fun n l h=>∃ ao ab,oL F a0 dP fE n ab=some ah∧l=[(0,v2),(1, .func (.func 27) #[] #[Pt I 0,Pt J 0]),(7,V (a0.length:Int)),(8,V ab)]∧St hs (aR [.ae I [U], .ae J [V fE]]) Z (0,0) ao h [.ae I [U], .ae J [V fE]]) F ⟨_,0,j,(by kernel_rfl),hS⟩ ?_
 rintro aj l az ⟨ao,ab,j,rfl,aa⟩
 rcases aj with _ | aj
 cases (show none=some ah from j)
 rw [oL] at j
 refine s0<|aO 0 j ?_ ?_<;>intro aA j
 refine xn 0<|sq<|dT<|sk<|sq<|bk 1<|sp 2<|s0<|a6 3 j (ad.mono aa.ag) ?_
 intro aB j
 refine bp 0 0 (fun ar=>V ar) j (ad.mono aa.ag) aa ?_
 intro ar aC j
 obtain ⟨aD,ax,j⟩:=ai j
 refine cA 0 aa (fun p=>BX F p (av.mono aa.ag) ax) ?_
 rintro _ aE aF _ aG au ⟨rfl,rfl⟩
 refine xn 0<|db j ?_ ?_<;>intro aI j
 refine sp 2<|rt<|ba<|ba<|⟨rfl,?_⟩
 obtain rfl:=si j
 obtain rfl:=si hm
 refine ⟨_,_,_,tk (V ab) (ResL.nil),au,?_⟩
 exact ⟨rfl,rfl⟩
 refine sk<|gp 2 ?_
 exact ⟨aj,Nat.lt_succ_self _,⟨_,af (ab+1),j,(by kernel_rfl),au⟩⟩
 refine xn 0<|sq<|dF<|xt 0<|aN ?_
 obtain rfl:=si j
 exact ⟨_,rfl,(by kernel_rfl),aa⟩
def DS:List aV:=[u 4 (.box 34 (t 1)),u 6 (.assign (ci 0))]
def walk_At_l0 (F:Nat) (a0:List ak) (a1:eF) (ab:Int):Nat→Int→Int→Int→Option Int
 | 0,_,_,_=>none
 | n+1,J,j,U=>
  if U<(a1.al.length:Int) then
   if 0≤j∧j<(a1.al.length:Int) then
    (a1.al[j.toNat]?).bind fun ad=>
    (p4 F ad.Kids a1 J).bind fun I=>
    if I<(0:Int) then
     some j
    else
     if 0≤j∧j<(a1.al.length:Int) then
      (a1.al[j.toNat]?).bind fun aa=>
      if 0≤I∧I<(aa.Kids.length:Int) then
       (aa.Kids[I.toNat]?).bind fun ae=>
       walk_At_l0 F a0 a1 ab n J ae (af (U+1))
      else none
     else none
   else none
  else
   some j
def pd (F:Nat) (a0:List ak) (a1:eF) (j:Int):Option Int:=
 (q0 F a0 j).bind fun I=>
 if j<(0:Int) then
  some (-1)
 else
  if I<(0:Int) then
   some (-1)
  else
   if (a1.al.length:Int)=(0:Int) then
    some (-1)
   else
    ((walk_At_l0 F a0 a1 j F I 0 0):Option Int).bind fun o=>match o with
     | J=>some J
theorem tw (F:Nat) {h:AH} {Z:Zn} {a0:List ak} {a1:eF} {au:Int} {v2 v4} (hI:Inv Z h) (aF:RS (α:=ak) Z v2 a0) (J:RS (α:=aq) Z v4 a1.al) {r:Int} (hm:pd F a0 a1 au=some r):
  bU Try.prog 10 [v2, .agg #[v4],V au] h Z (V r):=by
 refine b1 Try.func10 hI ?_
 intro hs hS
 unfold pd at hm
 refine sr DS<|gS rfl trivial (gl (cs:=[v4]) rfl rfl) hS ?_
 intro aG a4 ay
 refine xn 1<|s0 ?_
 obtain ⟨ab,aI,hm⟩:=ai hm
 refine cP 2 ay (wF F ay.inv aF aI) ?_
 rintro _ a5 aJ rfl
 refine df 0 [V 0] aJ ?_
 intro aK a7 aL
 refine bB 0 0 (V ab) [V ab] [V ab] aL rfl rfl rfl ?_
 intro a8 U
 refine xn 0<|sq<|s0<|aO 1 hm ?_ ?_<;>intro a9 hm
 refine xn 10<|dT<|sp 1<|rt<|⟨rfl,?_⟩
 obtain rfl:=si hm
 refine ⟨_,_,_,tk (V (-1)) (ResL.nil),U,?_⟩
 exact rfl
 refine aA 1 0 (V ab) U rfl<|aO 0 hm ?_ ?_<;>intro ba hm
 refine xn 7<|dT<|sp 1<|rt<|⟨rfl,?_⟩
 obtain rfl:=si hm
 refine ⟨_,_,_,tk (V (-1)) (ResL.nil),U,?_⟩
 exact rfl
 refine aA 3 1 v4 U rfl<|bM 0 v4 (RS.len J)<|aD 0 hm ?_ ?_<;>intro bb hm
 refine xn 1<|dT<|sp 1<|rt<|⟨rfl,?_⟩
 obtain rfl:=si hm
 refine ⟨_,_,_,tk (V (-1)) (ResL.nil),U,?_⟩
 exact rfl
 refine xn 1<|dF<|sk<|sp 1<|sq<|s0<|aA 1 1 v4 U rfl<|bM 0 v4 (RS.len J)<|xn 1 ?_
 obtain ⟨av,j,hm⟩:=ai hm
 refine aH [8] (fun l h=>∃ az ah,ah=av∧l=[(8,V ah)]∧St hs [] Z (0,0) az h []) ?_ ?_
 rintro l bc ⟨az,ah,rfl,rfl,aP⟩
 try dsimp only at hm
 refine sp 2<|rt<|⟨rfl,?_⟩
 obtain rfl:=si hm
 refine ⟨_,_,_,tk (V ah) (ResL.nil),aP,?_⟩
 exact rfl
 refine bk 0<|lp [4,7,8,27,28] (fun n l h=>∃ aB aj aa an ao ar,walk_At_l0 F a0 a1 au n aj aa an=some av∧l=[(4,Pt ao 0),(7,Pt ar 0),(8,V aa),(27,V (a1.al.length:Int)),(28,V an)]∧St hs [] Z (0,0) aB h [.ae ao [v4], .ae ar [V aj]]) F ⟨_,ab,0,0,aG,aK,j,(by kernel_rfl),((U.front 0 rfl).front 1 rfl)⟩ ?_
 rintro aw l bd ⟨aB,aj,aa,an,ao,ar,j,rfl,I⟩
 rcases aw with _ | aw
 cases (show none=some av from j)
 rw [walk_At_l0] at j
 refine s0<|aO 0 j ?_ ?_<;>intro bf j
 refine xn 0<|sq<|dT<|sk<|sq<|bk 1<|s0<|aA 1 0 v4 I rfl<|a6 1 j (J.mono I.ag) ?_
 intro bg j
 obtain ⟨bh,aR,j⟩:=ai j
 obtain ⟨bj,aS,aT⟩:=RS.cp (J.mono I.ag) (i:=aa) aR
 obtain ⟨aU,aW,rfl⟩:=fz aS
 refine fX 1 4 aU (aT _ (I.bV (aM.refl _))) ?_
 obtain ⟨bl,aX,j⟩:=ai j
 refine cA 1 I (fun p=>DU F p aW (J.mono I.ag) aX) ?_
 rintro _ bm bn _ aC ad ⟨rfl,rfl⟩
 refine xn 1<|sq<|s0<|aO 1 j ?_ ?_<;>intro bo j
 refine xn 0<|dT<|xt 0<|g5 rfl<|aN ?_
 obtain rfl:=si j
 exact ⟨_,aa,rfl,(by kernel_rfl),(ad.takeN 0)⟩
 refine xn 0<|dF<|sk<|g0<|aA 1 0 v4 ad rfl<|a6 1 j (J.mono (I.ag.trans aC)) ?_
 intro br j
 obtain ⟨bt,aY,j⟩:=ai j
 obtain ⟨bu,aZ,a2⟩:=RS.cp (J.mono (I.ag.trans aC)) (i:=aa) aY
 obtain ⟨a3,aE,rfl⟩:=fz aZ
 refine fX 1 4 a3 (a2 _ (ad.bV (aM.refl _)))<|a6 1 j aE ?_
 intro bw j
 refine bp 0 0 (fun ax=>V ax) j aE ad ?_
 intro ax bx j
 refine xn 1<|gp 2 ?_
 exact ⟨aw,Nat.lt_succ_self _,⟨_,aj,ax,af (an+1),ao,ar,j,(by kernel_rfl),ad⟩⟩
 refine xn 0<|sq<|dF<|xt 0<|aN ?_
 obtain rfl:=si j
 exact ⟨_,aa,rfl,(by kernel_rfl),(I.takeN 0)⟩
def yV:List bq:=[uP 21 (mv 0),uP 22 (mv 1),uP 23 (ia 24 21 22),uP 24 (fa 85 23 1),uL 25 (ld 3 24),uP 26 (mv 0),uP 27 (mv 2),uP 28 (bc .sub 3 27 1 3),uP 29 (ia 24 26 28),uP 30 (fa 85 29 2),uL 31 (ld 3 30),uP 32 (.build 45 #[(0,(t 25)),(1,(t 31))]),uP 33 (.makeInterface 45 (t 32)),uP 6 (sg 33)]
def oR (F:Nat) (a0:List ak) (a1:Int) (j:Int):Option (Sum Int iG):=
 ((if a1<j then
   if (0:Int)≤a1 then
    if j≤(a0.length:Int) then
     some true
    else
     some false
   else
    some false
  else
   some false):Option Bool).bind fun o=>match o with
  | I=>if I=true then
   if 0≤a1∧a1<(a0.length:Int) then
    (a0[a1.toNat]?).bind fun J=>
    if 0≤(af (j - 1))∧(af (j - 1))<(a0.length:Int) then
     (a0[(af (j - 1)).toNat]?).bind fun U=>
     some (.inr (⟨J.ah,U.To⟩:iG))
    else none
   else none
  else
   ((if (0:Int)≤a1 then
     if a1<(a0.length:Int) then
      some true
     else
      some false
    else
     some false):Option Bool).bind fun o=>match o with
    | aa=>if aa=true then
     if 0≤a1∧a1<(a0.length:Int) then
      (a0[a1.toNat]?).bind fun ab=>
      some (.inl ab.ah)
     else none
    else
     if (0:Int)<(a0.length:Int) then
      if 0≤(af ((a0.length:Int) - 1))∧(af ((a0.length:Int) - 1))<(a0.length:Int) then
       (a0[(af ((a0.length:Int) - 1)).toNat]?).bind fun ad=>
       some (.inl ad.To)
      else none
     else
      some (.inl 0)
theorem sh (F:Nat) {h:AH} {Z:Zn} {a0:List ak} {a1:Int} {ab:Int} {v2} (hI:Inv Z h) (j:RS (α:=ak) Z v2 a0) {r:(Sum Int iG)} (hm:oR F a0 a1 ab=some r):
  bU Try.prog 33 [v2,V a1,V ab] h Z (match r with | .inl az=> .iface 3 (V az) | .inr au=> .iface 45 (.agg #[V au.ah,V au.To])):=by
 refine b1 Try.func33 hI ?_
 intro hs hS
 unfold oR at hm
 refine sp 1<|sq<|bk 0<|sq ?_
 obtain ⟨aA,J,hm⟩:=ai hm
 refine aH [0,1,2,7] (fun l h=>∃ av al,al=aA∧l=[(0,v2),(1,V a1),(2,V ab),(7, .bool al)]∧St hs [] Z (0,0) av h []) ?_ ?_
 rintro l aP ⟨av,al,rfl,rfl,U⟩
 try dsimp only at hm
 refine db hm ?_ ?_<;>intro aR hm
 refine cT yV U ?_
 intro aS aT aU an
 refine yq 2 [(22,V a1),(21,v2),(0,v2),(2,V ab)] ?_
 obtain ⟨aw,hm⟩:=aK hm
 refine aF rfl trivial (bG rfl rfl (by kernel_rfl:slTy _ _=some (aa ak)) (RS.cU (j.mono U.ag) (by omega)) aw.1 aw.2)<|yq 1 [(24, .pointer (some (bh v2 a1 (aa ak) 1))),(0,v2),(2,V ab)] ?_
 obtain ⟨ae,aC,hm⟩:=ai hm
 obtain ⟨aW,aD,aE⟩:=RS.cp (j.mono U.ag) (i:=a1) aC
 obtain rfl:=eu aD
 refine cG rfl rfl trivial (fun h2 hz=>bK (w:=V ae.ah) (aE h2 hz) rfl (by kernel_rfl)) (an.bV (aM.refl _)) (aB (v:=V ae.ah) trivial) trivial<|yq 3 [(28,V (af (ab - 1))),(26,v2),(25,V ae.ah)] ?_
 obtain ⟨ax,hm⟩:=aK hm
 refine aF rfl trivial (bG rfl rfl (by kernel_rfl:slTy _ _=some (aa ak)) (RS.cU (j.mono U.ag) (by omega)) ax.1 ax.2)<|yq 1 [(30, .pointer (some (bh v2 (af (ab - 1)) (aa ak) 2))),(25,V ae.ah)] ?_
 obtain ⟨aj,aG,hm⟩:=ai hm
 obtain ⟨aX,aI,aJ⟩:=RS.cp (j.mono U.ag) (i:=af (ab - 1)) aG
 obtain rfl:=eu aI
 refine cG rfl rfl trivial (fun h2 hz=>bK (w:=V aj.To) (aJ h2 hz) rfl (by kernel_rfl)) (an.bV (aM.refl _)) (aB (v:=V aj.To) trivial) trivial<|ye 3 [(6, .iface 45 (.agg #[V ae.ah,V aj.To]))] ?_
 have aL:=an.a5
 refine rt<|ba<|⟨rfl,?_⟩
 obtain rfl:=si hm
 refine ⟨_,_,_,tk (.iface 45 (.agg #[V ae.ah,V aj.To])) (ResL.nil),aL,?_⟩
 exact rfl
 refine sq ?_
 obtain ⟨aN,ad,hm⟩:=ai hm
 refine aH [0,1,34] (fun l h=>∃ ay ao,ao=aN∧l=[(0,v2),(1,V a1),(34, .bool ao)]∧St hs [] Z (0,0) ay h []) ?_ ?_
 rintro l aY ⟨ay,ao,rfl,rfl,I⟩
 try dsimp only at hm
 refine db hm ?_ ?_<;>intro aZ hm
 refine s0<|a6 2 hm (j.mono I.ag) ?_
 intro a2 hm
 refine bp 1 1 (fun aq=>V aq.ah) hm (j.mono I.ag) I ?_
 intro aq a3 hm
 refine xn 2<|rt<|ba<|⟨rfl,?_⟩
 obtain rfl:=si hm
 refine ⟨_,_,_,tk (.iface 3 (V aq.ah)) (ResL.nil),I,?_⟩
 exact rfl
 refine s0<|bM 1 v2 (RS.len (j.mono I.ag))<|cC 0 hm ?_ ?_<;>intro a4 hm
 refine xn 1<|dT<|s0<|bM 2 v2 (RS.len (j.mono I.ag))<|a6 1 hm (j.mono I.ag) ?_
 intro a7 hm
 refine bp 1 2 (fun ar=>V ar.To) hm (j.mono I.ag) I ?_
 intro ar a8 hm
 refine xn 2<|rt<|ba<|⟨rfl,?_⟩
 obtain rfl:=si hm
 refine ⟨_,_,_,tk (.iface 3 (V ar.To)) (ResL.nil),I,?_⟩
 exact rfl
 refine xn 1<|dF<|sk<|sp 2<|rt<|⟨rfl,?_⟩
 obtain rfl:=si hm
 refine ⟨_,_,_,tk (.iface 3 (V 0)) (ResL.nil),I,?_⟩
 exact rfl
 refine g0<|cv 1 ad ?_ ?_<;>intro a9 ad
 refine bM 3 v2 (RS.len (j.mono U.ag))<|aO 0 ad ?_ ?_<;>intro bb ad
 refine xn 2 ?_
 obtain rfl:=si ad
 exact ⟨_,true,rfl,(by kernel_rfl),U⟩
 refine xn 2 ?_
 obtain rfl:=si ad
 exact ⟨_,false,rfl,(by kernel_rfl),U⟩
 refine xn 7 ?_
 obtain rfl:=si ad
 exact ⟨_,false,rfl,(by kernel_rfl),U⟩
 refine g0<|aO 2 J ?_ ?_<;>intro bc J
 refine cv 2 J ?_ ?_<;>intro bd J
 refine bM 4 v2 (RS.len j)<|fm 0 J ?_ ?_<;>intro bf J
 refine xn 2 ?_
 obtain rfl:=si J
 exact ⟨_,true,rfl,(by kernel_rfl),hS⟩
 refine xn 2 ?_
 obtain rfl:=si J
 exact ⟨_,false,rfl,(by kernel_rfl),hS⟩
 refine xn 8 ?_
 obtain rfl:=si J
 exact ⟨_,false,rfl,(by kernel_rfl),hS⟩
 refine xn 11 ?_
 obtain rfl:=si J
 exact ⟨_,false,rfl,(by kernel_rfl),hS⟩
def xN:List aV:=[u 3 (.box 37 (t 1)),u 4 (.alloc 45)]
def BO:List aV:=[u 9 (mv 0),u 10 (fa 37 3 1),u 11 (ld 3 10),u 12 (fa 37 3 2),u 13 (ld 3 12),u 14 (cf 33 #[(t 9),(t 11),(t 13)] #[24,3,3]),u 5 (sg 14)]
def lS (F:Nat) (a0:List ak) (a1:aq):Option iG:=
 (oR F a0 a1.ah a1.To).bind fun I=>
 match I with
  | .inl j=>some (⟨j,j⟩:iG)
  | .inr J=>some J
theorem sZ (F:Nat) {h:AH} {Z:Zn} {a0:List ak} {a1:aq} {v2 v4} (hI:Inv Z h) (ab:RS (α:=ak) Z v2 a0) (aC:RS (α:=Int) Z v4 a1.Kids) {r:iG} (hm:lS F a0 a1=some r):
  bU Try.prog 16 [v2, .agg #[V a1.Kind,V a1.ah,V a1.To,V a1.Up,v4, .bool a1.Key]] h Z (.agg #[V r.ah,V r.To]):=by
 refine b1 Try.func16 hI ?_
 intro hs hS
 unfold lS at hm
 refine sr xN<|gS rfl trivial (gl (cs:=[V a1.Kind,V a1.ah,V a1.To,V a1.Up,v4, .bool a1.Key]) rfl rfl) hS ?_
 intro U aD al
 refine df 0 [V 0,V 0] al ?_
 intro aa aE J
 refine xn 0<|sr BO<|aA 2 1 (V a1.ah) J rfl<|xq 1 [(12,Pt U 2),(11,V a1.ah),(9,v2),(4,Pt aa 0)]<|aA 0 1 (V a1.To) J rfl ?_
 obtain ⟨an,ad,hm⟩:=ai hm
 rcases an with I | j
 try dsimp only at hm
 obtain ⟨aF,aG,ao,ar,rfl⟩:=sh F J.inv ab ad
 have au:=St.call (A:=[]) (B:=[.ae aa [V 0,V 0], .ae U (fU v4 a1)]) J ar
 refine bN rfl trivial (cV ao rfl rfl rfl)<|xn 1<|sq<|s0<|df 5 [V 0,V 0] au ?_
 intro aH aI av
 refine bB 0 0 (.agg #[V 0,V 0]) [V 0,V 0] [V 0,V 0] av rfl rfl rfl ?_
 intro aJ aw
 refine xn 1<|sp 1<|dF<|sk<|sp 3<|s0<|bB 3 1 (.agg #[V I,V I]) [V I,V I] [V I,V I] aw rfl rfl rfl ?_
 intro aK af
 refine xn 0<|rt<|⟨rfl,?_⟩
 obtain rfl:=si hm
 refine ⟨_,_,_,ResL.cell (v:= .agg #[V I,V I]) (by kernel_rfl) af (i:=1) rfl (by kernel_rfl) (ResL.nil),af,?_⟩
 exact rfl
 try dsimp only at hm
 obtain ⟨aL,aM,ax,ay,rfl⟩:=sh F J.inv ab ad
 have az:=St.call (A:=[]) (B:=[.ae aa [V 0,V 0], .ae U (fU v4 a1)]) J ay
 refine bN rfl trivial (cV ax rfl rfl rfl)<|xn 1<|sq<|s0<|df 5 [V 0,V 0] az ?_
 intro aN aO aB
 refine bB 0 0 (.agg #[V j.ah,V j.To]) [V j.ah,V j.To] [V j.ah,V j.To] aB rfl rfl rfl ?_
 intro aP ag
 refine xn 1<|sp 1<|dT<|s0<|aA 0 0 (.agg #[V j.ah,V j.To]) ag rfl<|bB 0 1 (.agg #[V j.ah,V j.To]) [V j.ah,V j.To] [V j.ah,V j.To] ag rfl rfl rfl ?_
 intro aR aj
 refine xn 0<|rt<|⟨rfl,?_⟩
 obtain rfl:=si hm
 refine ⟨_,_,_,ResL.cell (v:= .agg #[V j.ah,V j.To]) (by kernel_rfl) aj (i:=1) rfl (by kernel_rfl) (ResL.nil),aj,?_⟩
 exact rfl
def Bl:List aV:=[u 1 (.box 34 (t 0)),u 2 (.assign (ci 0))]
def walk_Errors_l0 (F:Nat) (a0:eF):Nat→Int→Int→Option Int
 | 0,_,_=>none
 | n+1,I,j=>
  if j<(a0.al.length:Int) then
   if 0≤j∧j<(a0.al.length:Int) then
    (a0.al[j.toNat]?).bind fun J=>
    ((if J.Kind=(11:Int) then
      some (af (I+1))
     else
      some I):Option Int).bind fun o=>match o with
     | U=>walk_Errors_l0 F a0 n U (af (j+1))
   else none
  else
   some I
def nS (F:Nat) (a0:eF):Option Int:=
 ((walk_Errors_l0 F a0 F 0 0):Option Int).bind fun o=>match o with
  | j=>some j
theorem yW (F:Nat) {h:AH} {Z:Zn} {a0:eF} {v2} (hI:Inv Z h) (an:RS (α:=aq) Z v2 a0.al) {r:Int} (hm:nS F a0=some r):
  bU Try.prog 17 [.agg #[v2]] h Z (V r):=by
 refine b1 Try.func17 hI ?_
 intro hs hS
 unfold nS at hm
 refine sr Bl<|gS rfl trivial (gl (cs:=[v2]) rfl rfl) hS ?_
 intro aK aL av
 refine xn 1<|sp 1<|sq<|s0<|aA 1 0 v2 av rfl<|bM 0 v2 (RS.len an)<|xn 1 ?_
 obtain ⟨ao,I,hm⟩:=ai hm
 refine aH [3] (fun l h=>∃ aw ab,ab=ao∧l=[(3,V ab)]∧St hs [] Z (0,0) aw h []) ?_ ?_
 rintro l aP ⟨aw,ab,rfl,rfl,az⟩
 try dsimp only at hm
 refine sp 2<|rt<|⟨rfl,?_⟩
 obtain rfl:=si hm
 refine ⟨_,_,_,tk (V ab) (ResL.nil),az,?_⟩
 exact rfl
 refine bk 0<|lp [3,7,8,9] (fun n l h=>∃ ax J U,walk_Errors_l0 F a0 n J U=some ao∧l=[(3,V J),(7,v2),(8,V (a0.al.length:Int)),(9,V U)]∧St hs [] Z (0,0) ax h []) F ⟨_,0,0,I,(by kernel_rfl),(av.takeN 0)⟩ ?_
 rintro ar l aR ⟨ax,J,U,I,rfl,aa⟩
 rcases ar with _ | ar
 cases (show none=some ao from I)
 rw [walk_Errors_l0] at I
 refine s0<|aO 0 I ?_ ?_<;>intro aS I
 refine xn 0<|sq<|dT<|sk<|sq<|bk 1<|s0<|a6 0 I (an.mono aa.ag) ?_
 intro aT I
 obtain ⟨j,aB,I⟩:=ai I
 obtain ⟨aU,aC,aE⟩:=RS.cp (an.mono aa.ag) (i:=U) aB
 obtain ⟨ad,aF,rfl⟩:=fz aC
 refine fX 0 0 (.agg #[V j.Kind,V j.ah,V j.To,V j.Up,ad, .bool j.Key]) (aE _ (aa.bV (aM.refl _)))<|df 0 [V 0,V 0,V 0,V 0, .slice none 0 0, .bool false] aa ?_
 intro aW aX aG
 refine bB 0 0 (.agg #[V j.Kind,V j.ah,V j.To,V j.Up,ad, .bool j.Key]) [V j.Kind,V j.ah,V j.To,V j.Up,ad, .bool j.Key] (fU ad j) aG rfl rfl (a8 rfl (a8 rfl (a8 rfl (a8 rfl (a8 (RS.cW aF) (a8 rfl cc)))))) ?_
 intro aY au
 refine xn 0 ?_
 obtain ⟨aI,ae,I⟩:=ai I
 refine ec [3,7,8,9] (fun l h=>∃ ay aj,aj=aI∧l=[(3,V aj),(7,v2),(8,V (a0.al.length:Int)),(9,V U)]∧St hs [] Z (0,0) ay h []) (by kernel_rfl) ?_ ?_
 rintro l aZ ⟨ay,aj,rfl,rfl,aJ⟩
 try dsimp only at I
 refine gp 2 ?_
 exact ⟨ar,Nat.lt_succ_self _,⟨_,aj,af (U+1),I,(by kernel_rfl),aJ⟩⟩
 refine g0<|aA 1 0 (V j.Kind) au rfl<|aD 0 ae ?_ ?_<;>intro a1 ae
 refine xn 0<|dT<|gp 3 ?_
 obtain rfl:=si ae
 exact ⟨_,af (J+1),rfl,(by kernel_rfl),(au.takeN 0)⟩
 refine xn 0<|dF<|sk ?_
 obtain rfl:=si ae
 exact ⟨_,J,rfl,(by kernel_rfl),(au.takeN 0)⟩
 refine xn 0<|sq<|dF<|xt 0<|aN ?_
 obtain rfl:=si I
 exact ⟨_,J,rfl,(by kernel_rfl),aa⟩
def Bq:List aV:=[u 1 (.box 27 (t 0)),u 2 (.alloc 34)]
def Al:List aV:=[u 3 (fa 27 1 0),u 4 (ld 25 3),u 5 (.build 34 #[(0,(t 4))]),o (.store 34 (t 2) (t 5))]
def lj (F:Nat) (a0:cM):Option eF:=
 some (⟨a0.al⟩:eF)
theorem qk (F:Nat) {h:AH} {Z:Zn} {a0:cM} {v2} (hP:Pre Z h []) (j:RS (α:=aq) Z v2 a0.al) {r:eF} (hm:lj F a0=some r):
  bX Try.prog 11 [.agg #[v2]] h Z [] fun v Z' A'=>∃ v4, .agg #[v4]=v∧A'=[]∧RS (α:=aq) Z' v4 r.al:=by
 refine cm Try.func11 hP ?_
 intro hs hS
 unfold lj at hm
 replace hS:St hs [] Z (0,0) Z hs []:=hS
 refine sr Bq<|gS rfl trivial (gl (cs:=[v2]) rfl rfl) hS ?_
 intro U ad aa
 refine df 0 [.slice none 0 0] aa ?_
 intro ab ae I
 refine xn 0<|sr Al<|xq 1 [(3,Pt U 0),(2,Pt ab 0)]<|aA 0 1 v2 I rfl<|bN rfl trivial (jm (v:= .agg #[v2]) rfl (CA.cons (cs:=[v2]) (RS.p8 j) (CA.bA)) (by kernel_rfl))<|bB 0 0 (.agg #[v2]) [v2] [v2] I rfl rfl (a8 (RS.cW j) cc) ?_
 intro af J
 refine xn 0<|rt<|⟨rfl,?_⟩
 obtain rfl:=si hm
 refine ⟨_,_,_,ResL.cell (v:= .agg #[v2]) (by kernel_rfl) J (i:=0) rfl (by kernel_rfl) (ResL.nil),(J.takeN 0),?_⟩
 exact ⟨v2,rfl,rfl,j⟩
def B2:List aV:=[u 5 (.buildSlice 31 1 #[(0,(.const (.int .u8 97)))]),u 6 (.convert 31 31 (t 5)),u 7 (cf 8 #[(t 6),(ci 5)] #[31,3]),u 4 (mv 7),u 8 (.extract (t 4) 0),u 9 (.extract (t 4) 1),u 10 (.extract (t 4) 2),u 2 (.alloc 27),u 1 (sg 8),o (.store 27 (t 2) (t 9)),u 3 (sg 10)]
def py (F:Nat):Option Bool:=
 if 0<([97]:List UInt8).length then
  (ly F ([97]:List UInt8) 5).bind fun j=>
  (lj F j.2.1).bind fun I=>
  (pd F j.1 I 9).bind fun J=>
  if J=(-1:Int) then
   (lj F j.2.1).bind fun U=>
   (pd F j.1 U 0).bind fun aa=>
   if aa=(2:Int) then
    some true
   else
    some false
  else
   some false
 else none
theorem x1 (F:Nat) {h:AH} {Z:Zn} (hI:Inv Z h) {r:Bool} (hm:py F=some r):
  bU Try.prog 7 [] h Z (.bool r):=by
 refine b1 Try.func7 hI ?_
 intro hs hS
 unfold py at hm
 refine s0<|xe 1 []<|sr B2 ?_
 have ad:RCs (α:=UInt8) Z [.int .u8 97] ([97]:List UInt8):=RCs.cons (cs:=[.int .u8 97]) rfl (RCs.bA _)
 refine eh rfl trivial (c6 (cells:=[.int .u8 97]) (s:=1) (by kernel_rfl)) (by kernel_rfl) hS ?_
 intro v1 h2 ae
 obtain ⟨an,hm⟩:=aK hm
 refine bN rfl trivial (xC ae (j:=0) rfl ad an rfl (by kernel_rfl)) ?_
 obtain ⟨aE,aF,ao,af⟩:=(ae.front 0 rfl).freeze ad
 obtain ⟨aG,aq,hm⟩:=ai hm
 refine c0 0 af (s6 F af.eQ ao aq) ?_
 rintro _ aH aI _ aJ ar ⟨aL,I,aM,aN,rfl,rfl,ag,U,aO⟩
 refine df 4 [.slice none 0 0] ar ?_
 intro aP aR au
 refine bB 1 0 (.agg #[I]) [I] [I] au rfl rfl (a8 (RS.cW U) cc) ?_
 intro aS aa
 refine xn 1<|s0<|aA 1 0 (.agg #[I]) aa rfl ?_
 obtain ⟨aT,av,hm⟩:=ai hm
 refine c0 0 aa (qk F aa.eQ U av) ?_
 rintro _ aU aW _ ab ah ⟨aX,rfl,rfl,aw⟩
 obtain ⟨aY,ax,hm⟩:=ai hm
 refine cP 0 ah (tw F ah.inv (ag.mono ab) aw ax) ?_
 rintro _ aZ J rfl
 refine aD 0 hm ?_ ?_<;>intro a0 hm
 refine aA 2 0 (.agg #[I]) J rfl ?_
 obtain ⟨a1,ay,hm⟩:=ai hm
 refine c0 0 J (qk F J.eQ (U.mono ab) ay) ?_
 rintro _ a2 a3 _ az aj ⟨a4,rfl,rfl,aB⟩
 obtain ⟨a5,aC,hm⟩:=ai hm
 refine cP 0 aj (tw F aj.inv (ag.mono (ab.trans az)) aB aC) ?_
 rintro _ a6 al rfl
 refine aD 0 hm ?_ ?_<;>intro a7 hm
 refine xn 2<|rt<|⟨rfl,?_⟩
 obtain rfl:=si hm
 refine ⟨_,_,_,tk (.bool true) (ResL.nil),al,?_⟩
 exact rfl
 refine xn 2<|rt<|⟨rfl,?_⟩
 obtain rfl:=si hm
 refine ⟨_,_,_,tk (.bool false) (ResL.nil),al,?_⟩
 exact rfl
 refine xn 8<|rt<|⟨rfl,?_⟩
 obtain rfl:=si hm
 refine ⟨_,_,_,tk (.bool false) (ResL.nil),J,?_⟩
 exact rfl
def xT:List aV:=[u 6 (mv 0),u 7 (mv 1),u 8 (bo .rem 3 6 7 3),u 5 (sg 8)]
def kS (F:Nat) (a0:Int) (a1:Int):Option Int:=
 if ¬ a1=(0:Int) then
  ((if (a0.tmod a1)<(0:Int) then
    some (af ((a0.tmod a1)+a1))
   else
    some (a0.tmod a1)):Option Int).bind fun o=>match o with
   | j=>some j
 else none
theorem ru (F:Nat) {h:AH} {Z:Zn} {a0:Int} {a1:Int} (hI:Inv Z h) {r:Int} (hm:kS F a0 a1=some r):
  bU Try.prog 9 [V a0,V a1] h Z (V r):=by
 refine b1 Try.func9 hI ?_
 intro hs hS
 unfold kS at hm
 refine sp 1<|sr xT<|xq 2 [(7,V a1),(6,V a0),(1,V a1)] ?_
 obtain ⟨U,hm⟩:=aK hm
 refine bN rfl trivial (Bd U rfl rfl)<|xn 1<|sq ?_
 obtain ⟨aa,j,hm⟩:=ai hm
 refine ec [5] (fun l h=>∃ J I,I=aa∧l=[(5,V I)]∧St hs [] Z (0,0) J h []) (by kernel_rfl) ?_ ?_
 rintro l ad ⟨J,I,rfl,rfl,ab⟩
 try dsimp only at hm
 refine sp 2<|rt<|⟨rfl,?_⟩
 obtain rfl:=si hm
 refine ⟨_,_,_,tk (V I) (ResL.nil),ab,?_⟩
 exact rfl
 refine g0<|aO 1 j ?_ ?_<;>intro ae j
 refine xn 0<|dT<|gp 4 ?_
 obtain rfl:=si j
 exact ⟨_,af ((a0.tmod a1)+a1),rfl,(by kernel_rfl),hS⟩
 refine xn 0<|dF<|sk ?_
 obtain rfl:=si j
 exact ⟨_,a0.tmod a1,rfl,(by kernel_rfl),hS⟩
end Go.Proofs.Ytcilejikekccmaa.M
namespace Go.Proofs.Ytcilejikekccmaa.M
open Go Am Sy
open Sy.Cell (rc)
def Ad:List bq:=[uP 15 (mv 3),uP 16 (mv 0),uP 17 (mv 4),uP 18 (ia 23 16 17),uL 19 (ld 3 18),uF 20 (cf 9 #[(t 19),(ci 5)] #[3,3]) .make [4],uP 21 (.slice 9 (.const (.string {data:=#[32,32,32,32,32,32]})) none (some (t 20)) none),uP 22 (bo .add 9 15 21 9),uF 23 (.buildSlice 75 8 #[(0,(.const (.string {data:=#[45,32]}))),(1,(.const (.string {data:=#[97,58,32]}))),(2,(.const (.string {data:=#[98,58,32,91,49,44,32,50,93]}))),(3,(.const (.string {data:=#[45,32,99,58,32,100]}))),(4,(.const (.string {data:=#[116,101,120,116]}))),(5,(.const (.string {data:=#[93]}))),(6,(.const (.string {data:=#[123,120,58,32,121,125]}))),(7,(.const (.string {data:=#[45,32,124]})))]) .fresh [],uP 24 (mv 0),uP 25 (mv 4),uP 26 (ia 23 24 25),uL 27 (ld 3 26),uP 28 (bc .quo 3 27 5 3),uF 29 (cf 9 #[(t 28),(ci 8)] #[3,3]) .make [4,12],uP 30 (ia 75 23 29),uF 31 (ld 9 30) .look [5,14],uP 32 (bo .add 9 22 31 9),uP 33 (.binOp .add 9 (t 32) (.const (.string {data:=#[10]})) 9),uP 3 (sg 33)]
def De:List aV:=[u 34 (mv 3),u 35 (.convert 9 31 (t 34)),u 2 (sg 35)]
def correctorlaw13_lines_l0 (F:Nat) (a0:List Int):Nat→aL→Int→Option aL
 | 0,_,_=>none
 | n+1,I,j=>
  if j<(a0.length:Int) then
   if j<(20:Int) then
    if 0≤j∧j<(a0.length:Int) then
     (a0[j.toNat]?).bind fun ab=>
     (kS F ab 5).bind fun J=>
     if 0≤(0:Int)∧(0:Int)≤J∧J≤(([32,32,32,32,32,32]:List UInt8).length:Int) then
      if I.b.length+((([32,32,32,32,32,32]:List UInt8).take J.toNat).drop (0:Int).toNat).length≤4611686018427387904 then
       if 0≤j∧j<(a0.length:Int) then
        (a0[j.toNat]?).bind fun ad=>
        (kS F (af (ad.tdiv 5)) 8).bind fun U=>
        if 0≤U∧U<([(⟨[45,32]⟩:aL),(⟨[97,58,32]⟩:aL),(⟨[98,58,32,91,49,44,32,50,93]⟩:aL),(⟨[45,32,99,58,32,100]⟩:aL),(⟨[116,101,120,116]⟩:aL),(⟨[93]⟩:aL),(⟨[123,120,58,32,121,125]⟩:aL),(⟨[45,32,124]⟩:aL)].length:Int) then
         ([(⟨[45,32]⟩:aL),(⟨[97,58,32]⟩:aL),(⟨[98,58,32,91,49,44,32,50,93]⟩:aL),(⟨[45,32,99,58,32,100]⟩:aL),(⟨[116,101,120,116]⟩:aL),(⟨[93]⟩:aL),(⟨[123,120,58,32,121,125]⟩:aL),(⟨[45,32,124]⟩:aL)][U.toNat]?).bind fun aa=>
         if (I.b++((([32,32,32,32,32,32]:List UInt8).take J.toNat).drop (0:Int).toNat)).length+aa.b.length≤4611686018427387904 then
          if ((I.b++((([32,32,32,32,32,32]:List UInt8).take J.toNat).drop (0:Int).toNat))++aa.b).length+([10]:List UInt8).length≤4611686018427387904 then
           correctorlaw13_lines_l0 F a0 n (⟨((I.b++((([32,32,32,32,32,32]:List UInt8).take J.toNat).drop (0:Int).toNat))++aa.b)++[10]⟩:aL) (af (j+1))
          else none
         else none
        else none
       else none
      else none
     else none
    else none
   else
    some I
  else
   some I
def m7 (F:Nat) (a0:List Int):Option (List UInt8):=
 ((correctorlaw13_lines_l0 F a0 F (⟨[]⟩:aL) 0):Option aL).bind fun o=>match o with
  | j=>some j.b
theorem DZ (F:Nat) {h:AH} {Z:Zn} {a0:List Int} {v2} (hP:Pre Z h []) (ae:RS (α:=Int) Z v2 a0) {r:(List UInt8)} (hm:m7 F a0=some r):
  bX Try.prog 15 [v2] h Z [] fun v Z' A'=>∃ v4,v4=v∧A'=[]∧RS (α:=UInt8) Z' v4 r:=by
 refine cm Try.func15 hP ?_
 intro hs hS
 unfold m7 at hm
 replace hS:St hs [] Z (0,0) Z hs []:=hS
 refine sp 1<|sp 1<|sq<|sp 1 ?_
 obtain ⟨an,I,hm⟩:=ai hm
 refine aH [3] (fun l h=>∃ ay ad,ad=an∧l=[(3, .string ⟨⟨ad.b⟩⟩)]∧St hs [] Z (0,0) ay h []) ?_ ?_
 rintro l bo ⟨ay,ad,rfl,rfl,aT⟩
 try dsimp only at hm
 refine sr De<|xq 1 [(34, .string ⟨⟨ad.b⟩⟩)] ?_
 obtain ⟨az,bp,br,aU,bt,aW,aX,bu⟩:=Bo (P:=Try.prog) (l:=[(34, .string ⟨⟨ad.b⟩⟩)]) (s:=9) (d:=31) (x:= .tmp 34) (bs:=ad.b) aT rfl (by kernel_rfl)
 refine bN rfl trivial aU<|xn 1<|rt<|⟨rfl,?_⟩
 obtain rfl:=si hm
 refine ⟨_,_,_,tk az (ResL.nil),aX,?_⟩
 exact ⟨az,rfl,rfl,aW⟩
 refine bk 0<|lp [0,3,4] (fun n l h=>∃ ao J U,correctorlaw13_lines_l0 F a0 n J U=some an∧l=[(0,v2),(3, .string ⟨⟨J.b⟩⟩),(4,V U)]∧St hs [] Z (0,0) ao h []) F ⟨_,(⟨[]⟩:aL),0,I,(by kernel_rfl),hS⟩ ?_
 rintro aq l bw ⟨ao,J,U,I,rfl,ab⟩
 rcases aq with _ | aq
 cases (show none=some an from I)
 rw [correctorlaw13_lines_l0] at I
 refine sq<|s0<|bM 2 v2 (RS.len (ae.mono ab.ag))<|aO 0 I ?_ ?_<;>intro bx I
 refine aO 2 I ?_ ?_<;>intro bz I
 refine xn 1<|dT<|sk<|sq<|bk 1<|ea Ad ab ?_
 intro bB bC bD ar
 refine yq 3 [(17,V U),(16,v2),(15, .string ⟨⟨J.b⟩⟩),(0,v2),(3, .string ⟨⟨J.b⟩⟩),(4,V U)] ?_
 obtain ⟨aA,I⟩:=aK I
 refine aF rfl trivial (bG rfl rfl (by kernel_rfl:slTy _ _=some (aa Int)) (RS.cU (ae.mono ab.ag) (by omega)) aA.1 aA.2) ?_
 obtain ⟨aC,aY,I⟩:=ai I
 obtain ⟨bE,aZ,a1⟩:=RS.cp (ae.mono ab.ag) (i:=U) aY
 obtain rfl:=kJ aZ
 refine cG rfl rfl trivial (fun h2 hz=>bK (w:=V aC) (a1 h2 hz) rfl (by kernel_rfl)) (ar.bV (aM.refl _)) (aB (v:=V aC) trivial) trivial ?_
 obtain ⟨ah,a2,I⟩:=ai I
 have aD:=ar.cD
 obtain ⟨bF,bH,a3,aE,rfl⟩:=ru F aD.inv a2
 have a4:=St.call (A:=[]) (B:=[]) aD aE
 refine eM rfl trivial ar (cV a3 rfl rfl rfl) a4 (St.eC aE) ?_
 intro bI a6
 obtain ⟨au,I⟩:=aK I
 refine aF rfl trivial (n2 (bs:=[32,32,32,32,32,32]) (a:=0) (b:=ah) rfl (by kernel_rfl) rfl ⟨_,rfl⟩ au.1 au.2.1 au.2.2) ?_
 obtain ⟨a7,I⟩:=aK I
 refine aF rfl trivial (kl rfl rfl (by simpa using a7)) ?_
 have av:RCs (α:=aL) ao [.string ⟨⟨[45,32]⟩⟩, .string ⟨⟨[97,58,32]⟩⟩, .string ⟨⟨[98,58,32,91,49,44,32,50,93]⟩⟩, .string ⟨⟨[45,32,99,58,32,100]⟩⟩, .string ⟨⟨[116,101,120,116]⟩⟩, .string ⟨⟨[93]⟩⟩, .string ⟨⟨[123,120,58,32,121,125]⟩⟩, .string ⟨⟨[45,32,124]⟩⟩] [(⟨[45,32]⟩:aL),(⟨[97,58,32]⟩:aL),(⟨[98,58,32,91,49,44,32,50,93]⟩:aL),(⟨[45,32,99,58,32,100]⟩:aL),(⟨[116,101,120,116]⟩:aL),(⟨[93]⟩:aL),(⟨[123,120,58,32,121,125]⟩:aL),(⟨[45,32,124]⟩:aL)]:=RCs.cons (cs:=[.string ⟨⟨[45,32]⟩⟩]) rfl (RCs.cons (cs:=[.string ⟨⟨[97,58,32]⟩⟩]) rfl (RCs.cons (cs:=[.string ⟨⟨[98,58,32,91,49,44,32,50,93]⟩⟩]) rfl (RCs.cons (cs:=[.string ⟨⟨[45,32,99,58,32,100]⟩⟩]) rfl (RCs.cons (cs:=[.string ⟨⟨[116,101,120,116]⟩⟩]) rfl (RCs.cons (cs:=[.string ⟨⟨[93]⟩⟩]) rfl (RCs.cons (cs:=[.string ⟨⟨[123,120,58,32,121,125]⟩⟩]) rfl (RCs.cons (cs:=[.string ⟨⟨[45,32,124]⟩⟩]) rfl (RCs.bA _))))))))
 refine jc rfl trivial (c6 (cells:=[.string ⟨⟨[45,32]⟩⟩, .string ⟨⟨[97,58,32]⟩⟩, .string ⟨⟨[98,58,32,91,49,44,32,50,93]⟩⟩, .string ⟨⟨[45,32,99,58,32,100]⟩⟩, .string ⟨⟨[116,101,120,116]⟩⟩, .string ⟨⟨[93]⟩⟩, .string ⟨⟨[123,120,58,32,121,125]⟩⟩, .string ⟨⟨[45,32,124]⟩⟩]) (s:=1) (by kernel_rfl)) (by kernel_rfl) a6 (by omega) (Nat.add_lt_add_left (by decide) _) ?_
 intro aw bJ bO bP bQ ax
 refine yq 2 [(25,V U),(24,v2),(23,aw),(22, .string ⟨⟨J.b++((([32,32,32,32,32,32]:List UInt8).take ah.toNat).drop (0:Int).toNat)⟩⟩),(0,v2),(3, .string ⟨⟨J.b⟩⟩),(4,V U)] ?_
 obtain ⟨aG,I⟩:=aK I
 refine aF rfl trivial (bG rfl rfl (by kernel_rfl:slTy _ _=some (aa Int)) (RS.cU (ae.mono ab.ag) (by omega)) aG.1 aG.2) ?_
 obtain ⟨aI,a8,I⟩:=ai I
 obtain ⟨bR,a9,ba⟩:=RS.cp (ae.mono ab.ag) (i:=U) a8
 obtain rfl:=kJ a9
 refine cG rfl rfl trivial (fun h2 hz=>bK (w:=V aI) (ba h2 hz) rfl (by kernel_rfl)) (ax.bV (aM.refl _)) (aB (v:=V aI) trivial) trivial<|aF rfl trivial (Db (b:=5) (by decide) rfl rfl) ?_
 obtain ⟨bb,bc,I⟩:=ai I
 have aJ:=ax.cD
 obtain ⟨bS,bT,bd,aP,rfl⟩:=ru F aJ.inv bc
 have bf:=St.call (A:=[]) (B:=[.gs aw [.string ⟨⟨[45,32]⟩⟩, .string ⟨⟨[97,58,32]⟩⟩, .string ⟨⟨[98,58,32,91,49,44,32,50,93]⟩⟩, .string ⟨⟨[45,32,99,58,32,100]⟩⟩, .string ⟨⟨[116,101,120,116]⟩⟩, .string ⟨⟨[93]⟩⟩, .string ⟨⟨[123,120,58,32,121,125]⟩⟩, .string ⟨⟨[45,32,124]⟩⟩] (aa aL)]) aJ aP
 refine eM rfl trivial ax (cV bd rfl rfl rfl) bf (St.eC aP) ?_
 intro bU aj
 obtain ⟨aR,I⟩:=aK I
 refine aF rfl trivial (bG rfl rfl (by kernel_rfl:slTy _ _=some (aa aL)) (aj.bL (j:=0) rfl av (by omega)) aR.1 aR.2) ?_
 obtain ⟨al,aS,I⟩:=ai I
 obtain ⟨bW,bg,bh,bY⟩:=aj.cz (j:=0) rfl av (i:=bb) aS
 obtain rfl:=wD bg
 have bj:=dw aS
 have bZ:=aj.bL (j:=0) rfl av bj
 refine du rfl trivial rfl (by show (baseOf aw).block<_;omega) (aB (v:= .string ⟨⟨al.b⟩⟩) trivial) (bK (w:= .string ⟨⟨al.b⟩⟩) bh rfl (by kernel_rfl)) trivial ?_
 obtain ⟨bl,I⟩:=aK I
 refine aF rfl trivial (kl rfl rfl (by simpa using bl)) ?_
 obtain ⟨bm,I⟩:=aK I
 refine aF rfl trivial (kl rfl rfl (by simpa using bm))<|ye 1 [(3, .string ⟨⟨((J.b++((([32,32,32,32,32,32]:List UInt8).take ah.toNat).drop (0:Int).toNat))++al.b)++[10]⟩⟩),(0,v2),(4,V U)] ?_
 have bn:=aj.a5
 refine gp 3 ?_
 exact ⟨aq,Nat.lt_succ_self _,⟨_,(⟨((J.b++((([32,32,32,32,32,32]:List UInt8).take ah.toNat).drop (0:Int).toNat))++al.b)++[10]⟩:aL),af (U+1),I,(by kernel_rfl),(bn.takeN 0)⟩⟩
 refine xn 1<|dF<|xt 0<|aN ?_
 obtain rfl:=si I
 exact ⟨_,J,rfl,(by kernel_rfl),ab⟩
 refine xn 4<|dF<|xt 0<|aN ?_
 obtain rfl:=si I
 exact ⟨_,J,rfl,(by kernel_rfl),ab⟩
def A8:List bq:=[uP 36 (mv 5),uL 37 (ld 37 9),uF 38 (cf 16 #[(t 36),(t 37)] #[24,37]) .make [1],uP 39 (mv 5),uP 40 (fa 27 6 0),uL 41 (ld 25 40),uP 42 (fa 37 9 3),uL 43 (ld 3 42),uP 44 (ia 25 41 43),uL 45 (ld 37 44),uF 46 (cf 16 #[(t 39),(t 45)] #[24,37]) .make [1,5,7,9],uF 10 (.alloc 45) .fresh [],uF 11 (.alloc 45) .fresh [],oF (.store 45 (t 10) (t 38)) .make [1,5,7,9],oF (.store 45 (t 11) (t 46)) .make [1,5,7,9]]
def correctorlaw13_WalkSpans_l0 (F:Nat) (a0:List Int) (a1:Int):Nat→(List ak)→(List aq)→Int→Option (Sum (List aq) Bool)
 | 0,_,_,_=>none
 | n+1,U,j,aa=>
  if aa<(j.length:Int) then
   if 0≤aa∧aa<(j.length:Int) then
    (j[aa.toNat]?).bind fun I=>
    (lS F U I).bind fun J=>
    if 0≤I.Up∧I.Up<(j.length:Int) then
     (j[I.Up.toNat]?).bind fun ad=>
     (lS F U ad).bind fun ab=>
     ((if I.ah<I.To then
       if J.ah<ab.ah then
        some (.inr false)
       else
        if ab.To<J.To then
         some (.inr false)
        else
         if J.To≤J.ah then
          some (.inr false)
         else
          if I.ah=I.To then
           if J.ah=J.To then
            some (.inl (U,j))
           else
            some (.inr false)
          else
           some (.inl (U,j))
      else
       if I.ah=I.To then
        if J.ah=J.To then
         some (.inl (U,j))
        else
         some (.inr false)
       else
        some (.inl (U,j))):Option (Sum ((List ak)×(List aq)) Bool)).bind fun o=>match o with
      | .inl (ae,ag)=>correctorlaw13_WalkSpans_l0 F a0 a1 n ae ag (af (aa+1))
      | .inr y=>some (.inr y)
    else none
   else none
  else
   some (.inl j)
def correctorlaw13_WalkSpans (F:Nat) (a0:List Int) (a1:Int):Option Bool:=
 (py F).bind fun I=>
 if I=true then
  (m7 F a0).bind fun J=>
  (kS F a1 20).bind fun U=>
  (ly F J (af (1+U))).bind fun j=>
  ((correctorlaw13_WalkSpans_l0 F a0 a1 F j.1 j.2.1.al 1):Option (Sum (List aq) Bool)).bind fun o=>match o with
   | .inl aa=>(lj F (⟨aa⟩:cM)).bind fun ab=>
   (nS F ab).bind fun ad=>
   if (0:Int)≤ad then
    some true
   else
    some false
   | .inr y=>some y
 else
  some false
theorem yF (F:Nat) {h:AH} {Z:Zn} {a0:List Int} {a1:Int} {v2} (hI:Inv Z h) (bI:RS (α:=Int) Z v2 a0) {r:Bool} (hm:correctorlaw13_WalkSpans F a0 a1=some r):
  bU Try.prog 5 [v2,V a1] h Z (.bool r):=by
 refine b1 Try.func5 hI ?_
 intro hs hS
 unfold correctorlaw13_WalkSpans at hm
 refine sp 1<|sq<|s0 ?_
 obtain ⟨cz,bJ,hm⟩:=ai hm
 refine cP 0 hS (x1 F hS.inv bJ) ?_
 rintro _ cA a9 rfl
 refine kb 0 12 hm ?_ ?_<;>intro cB hm
 refine xn 1<|dF<|sk<|s0 ?_
 obtain ⟨cE,bL,hm⟩:=ai hm
 refine c0 1 a9 (DZ F a9.eQ bI bL) ?_
 rintro _ cF cH _ cI bn ⟨cJ,rfl,rfl,bN⟩
 obtain ⟨cK,bO,hm⟩:=ai hm
 refine cP 1 bn (ru F bn.inv bO) ?_
 rintro _ cL bo rfl
 obtain ⟨bp,bP,hm⟩:=ai hm
 refine c0 1 bo (s6 F bo.eQ bN bP) ?_
 rintro _ cN cR _ cS bQ ⟨bR,aJ,c3,c5,rfl,rfl,bS,br,c6⟩
 refine df 4 [.slice none 0 0] bQ ?_
 intro bT c7 bW
 refine bB 1 0 (.agg #[aJ]) [aJ] [aJ] bW rfl rfl (a8 (RS.cW br) cc) ?_
 intro c8 bX
 refine xn 1<|sq<|sp 1 ?_
 obtain ⟨bb,I,hm⟩:=ai hm
 refine aH [6] (fun l h=>∃ bc aL bd aR, .inl aL=bb∧RS (α:=aq) bc aR aL∧l=[(6,Pt bd 0)]∧St hs [] Z (0,0) bc h [.ae bd [aR]]) ?_ ?_
 rintro l c9 ⟨bc,aL,bd,aR,rfl,bY,rfl,bf⟩
 try dsimp only at hm
 refine s0<|aA 0 0 (.agg #[aR]) bf rfl ?_
 obtain ⟨da,bZ,hm⟩:=ai hm
 refine c0 0 bf (qk F (a0:=(⟨aL⟩:cM)) bf.eQ bY bZ) ?_
 rintro _ db dc _ dd bt ⟨de,rfl,rfl,b0⟩
 obtain ⟨dh,b2,hm⟩:=ai hm
 refine cP 0 bt (yW F bt.inv b0 b2) ?_
 rintro _ di bu rfl
 refine cv 0 hm ?_ ?_<;>intro dj hm
 refine xn 1<|rt<|⟨rfl,?_⟩
 obtain rfl:=si hm
 refine ⟨_,_,_,tk (.bool true) (ResL.nil),bu,?_⟩
 exact rfl
 refine xn 1<|rt<|⟨rfl,?_⟩
 obtain rfl:=si hm
 refine ⟨_,_,_,tk (.bool false) (ResL.nil),bu,?_⟩
 exact rfl
 refine bk 0<|lp [5,6,8] (fun n l h=>∃ aS ay aw ar aj ad ag,correctorlaw13_WalkSpans_l0 F a0 a1 n ay aw ar=some bb∧RS (α:=ak) aS aj ay∧RS (α:=aq) aS ag aw∧l=[(5,aj),(6,Pt ad 0),(8,V ar)]∧St hs [] Z (0,0) aS h [.ae ad [ag]]) F ⟨_,bp.1,bp.2.1.al,1,bR,bT,aJ,I,bS,br,(by kernel_rfl),(bX.takeN 1)⟩ ?_
 rintro bg l dk ⟨aS,ay,aw,ar,aj,ad,ag,I,az,ao,rfl,aC⟩
 rcases bg with _ | bg
 cases (show none=some bb from I)
 rw [correctorlaw13_WalkSpans_l0] at I
 refine sq<|s0<|aA 2 0 ag aC rfl<|bM 0 ag (RS.len ao)<|aO 0 I ?_ ?_<;>intro dm I
 refine xn 0<|dT<|sk<|sq<|bk 1<|s0<|aA 1 0 ag aC rfl<|a6 1 I ao ?_
 intro dn I
 obtain ⟨j,b3,I⟩:=ai I
 obtain ⟨dp,b4,b5⟩:=RS.cp ao (i:=ar) b3
 obtain ⟨au,bh,rfl⟩:=fz b4
 refine fX 0 0 (.agg #[V j.Kind,V j.ah,V j.To,V j.Up,au, .bool j.Key]) (b5 _ (aC.bV (aM.refl _)))<|df 0 [V 0,V 0,V 0,V 0, .slice none 0 0, .bool false] aC ?_
 intro an dq b6
 refine bB 0 0 (.agg #[V j.Kind,V j.ah,V j.To,V j.Up,au, .bool j.Key]) [V j.Kind,V j.ah,V j.To,V j.Up,au, .bool j.Key] (fU au j) b6 rfl rfl (a8 rfl (a8 rfl (a8 rfl (a8 rfl (a8 (RS.cW bh) (a8 rfl cc)))))) ?_
 intro dr b7
 refine xn 0<|cT A8 b7 ?_
 intro bj ds bl bm
 refine yq 1 [(36,aj),(9,Pt an 0),(5,aj),(6,Pt ad 0),(8,V ar)] ?_
 have dt:an<bj:=bl.1 _ (List.mem_of_getElem? (i:=0) rfl) _ (by simp [Itm.ids])
 refine aU (v:= .agg #[V j.Kind,V j.ah,V j.To,V j.Up,au, .bool j.Key]) rfl trivial rfl (by show an<_;omega) (g7 (cs:=[V j.Kind,V j.ah,V j.To,V j.Up,au, .bool j.Key]) (.cons trivial (.cons trivial (.cons trivial (.cons trivial (.cons (RS.dD bh) (.cons trivial .nil))))))) (bm.aP (i:=0) rfl (by kernel_rfl)) trivial ?_
 obtain ⟨ab,b8,I⟩:=ai I
 have bw:=bm.cD
 obtain ⟨du,dw,b9,bx,rfl⟩:=sZ F bw.inv az bh b8
 have ca:=St.call (A:=[]) (B:=[.ae an (fU au j), .ae ad [ag]]) bw bx
 refine eM rfl trivial bm (cV b9 rfl rfl rfl) ca (St.eC bx) ?_
 intro dx aE
 refine yq 2 [(40,Pt ad 0),(39,aj),(38, .agg #[V ab.ah,V ab.To]),(9,Pt an 0),(5,aj),(6,Pt ad 0),(8,V ar)] ?_
 have dy:ad<bj:=bl.1 _ (List.mem_of_getElem? (i:=1) rfl) _ (by simp [Itm.ids])
 refine aU (v:=ag) rfl trivial rfl (by show ad<_;omega) (aB (v:=ag) (RS.dD ao)) (aE.aP (i:=1) rfl (by kernel_rfl)) trivial<|yq 1 [(42,Pt an 3),(41,ag),(39,aj),(38, .agg #[V ab.ah,V ab.To]),(9,Pt an 0),(5,aj),(6,Pt ad 0),(8,V ar)] ?_
 have dz:an<bj:=bl.1 _ (List.mem_of_getElem? (i:=0) rfl) _ (by simp [Itm.ids])
 refine aU (v:=V j.Up) rfl trivial rfl (by show an<_;omega) (aB (v:=V j.Up) trivial) (aE.aP (i:=0) rfl (by kernel_rfl)) trivial ?_
 obtain ⟨bA,I⟩:=aK I
 refine aF rfl trivial (bG rfl rfl (by kernel_rfl:slTy _ _=some (aa aq)) (RS.cU ao (by omega)) bA.1 bA.2) ?_
 obtain ⟨av,cb,I⟩:=ai I
 obtain ⟨dA,cd,cf⟩:=RS.cp ao (i:=j.Up) cb
 obtain ⟨bC,bD,rfl⟩:=fz cd
 refine cG rfl rfl trivial (fun h2 hz=>bK (w:= .agg #[V av.Kind,V av.ah,V av.To,V av.Up,bC, .bool av.Key]) (cf h2 hz) rfl (by kernel_rfl)) (aE.bV (aM.refl _)) (g7 (cs:=[V av.Kind,V av.ah,V av.To,V av.Up,bC, .bool av.Key]) (.cons trivial (.cons trivial (.cons trivial (.cons trivial (.cons (RS.dD bD) (.cons trivial .nil))))))) trivial ?_
 obtain ⟨ax,cg,I⟩:=ai I
 have bE:=aE.cD
 obtain ⟨dB,dC,ch,bF,rfl⟩:=sZ F bE.inv az bD cg
 have cj:=St.call (A:=[]) (B:=[.ae an (fU au j), .ae ad [ag]]) bE bF
 refine eM rfl trivial aE (cV ch rfl rfl rfl) cj (St.eC bF) ?_
 intro dE ck
 refine r4 rfl trivial (oz (cs:=[V 0,V 0]) (by kernel_rfl)) ck (by omega) (Nat.add_lt_add_left (by decide) _) ?_
 intro aW dG dH cl
 refine r4 rfl trivial (oz (cs:=[V 0,V 0]) (by kernel_rfl)) cl (by omega) (Nat.add_lt_add_left (by decide) _) ?_
 intro aX dI dJ cm
 have aG:St _ _ _ _ _ _ ([.ae aW [V 0,V 0]]++[.ae aX [V 0,V 0], .ae an (fU au j), .ae ad [ag]]):=(cm.front 1 rfl)
 refine fM rfl trivial aG (fI (vs:=[V ab.ah,V ab.To]) (cr:=[V ab.ah,V ab.To]) (L':=[.ae aW [V ab.ah,V ab.To]]) aG.sub (i:=0) rfl rfl rfl rfl (by kernel_rfl) rfl rfl rfl rfl) (aM.refl _) (.aT trivial (.aT (aG.bz 1 rfl bH) (.aT (aG.bz 2 rfl bH) (.aT (aG.bz 1 rfl bH) .nil)))) ?_
 intro dK cn
 have aI:St _ _ _ _ _ _ ([.ae aX [V 0,V 0]]++[.ae aW [V ab.ah,V ab.To], .ae an (fU au j), .ae ad [ag]]):=(cn.front 1 rfl)
 refine fM rfl trivial aI (fI (vs:=[V ax.ah,V ax.To]) (cr:=[V ax.ah,V ax.To]) (L':=[.ae aX [V ax.ah,V ax.To]]) aI.sub (i:=0) rfl rfl rfl rfl (by kernel_rfl) rfl rfl rfl rfl) (aM.refl _) (.aT trivial (.aT (aI.bz 1 rfl bH) (.aT (aI.bz 2 rfl bH) (.aT (aI.bz 1 rfl bH) .nil)))) ?_
 intro dL cq
 refine yf [(11,Pt aX 0),(10,Pt aW 0),(9,Pt an 0),(5,aj),(6,Pt ad 0),(8,V ar)] ?_
 have J:=cq.a5
 obtain ⟨ct,U,I⟩:=ai I
 refine ec [5,6,8] (fun l h=>∃ aY aZ a2 a3 a4 a7, .inl (aZ,a2)=ct∧RS (α:=ak) aY a3 aZ∧RS (α:=aq) aY a7 a2∧l=[(5,a3),(6,Pt a4 0),(8,V ar)]∧St hs [] Z (0,0) aY h [.ae a4 [a7]]) (by kernel_rfl) ?_ ?_
 rintro l dM ⟨aY,aZ,a2,a3,a4,a7,rfl,cu,cx,rfl,cy⟩
 try dsimp only at I
 refine gp 3 ?_
 exact ⟨bg,Nat.lt_succ_self _,⟨_,aZ,a2,af (ar+1),a3,a4,a7,I,cu,cx,(by kernel_rfl),cy⟩⟩
 refine g0<|aA 1 2 (V j.ah) J rfl<|aA 1 2 (V j.To) J rfl<|aO 0 U ?_ ?_<;>intro dN U
 refine aA 2 1 (V ab.ah) J rfl<|aA 1 0 (V ax.ah) J rfl<|aO 0 U ?_ ?_<;>intro dO U
 refine xn 29<|dT<|sp 1<|rt<|ba<|ba<|⟨rfl,?_⟩
 obtain rfl:=si U
 obtain rfl:=si I
 obtain rfl:=si hm
 refine ⟨_,_,_,tk (.bool false) (ResL.nil),J,?_⟩
 exact rfl
 refine aA 2 1 (V ab.To) J rfl<|aA 1 0 (V ax.To) J rfl<|cC 0 U ?_ ?_<;>intro dP U
 refine xn 23<|dT<|sp 1<|rt<|ba<|ba<|⟨rfl,?_⟩
 obtain rfl:=si U
 obtain rfl:=si I
 obtain rfl:=si hm
 refine ⟨_,_,_,tk (.bool false) (ResL.nil),J,?_⟩
 exact rfl
 refine aA 3 1 (V ab.ah) J rfl<|aA 1 1 (V ab.To) J rfl<|cv 0 U ?_ ?_<;>intro dQ U
 refine xn 16<|dT<|sp 1<|rt<|ba<|ba<|⟨rfl,?_⟩
 obtain rfl:=si U
 obtain rfl:=si I
 obtain rfl:=si hm
 refine ⟨_,_,_,tk (.bool false) (ResL.nil),J,?_⟩
 exact rfl
 refine aA 4 2 (V j.ah) J rfl<|aA 1 2 (V j.To) J rfl<|aD 0 U ?_ ?_<;>intro dR U
 refine aA 2 1 (V ab.ah) J rfl<|aA 1 1 (V ab.To) J rfl<|cZ 0 U ?_ ?_<;>intro dS U
 refine xn 2<|dF<|sk ?_
 obtain rfl:=si U
 exact ⟨_,ay,aw,aj,ad,ag,rfl,az,ao,(by kernel_rfl),((J.front 3 rfl).takeN 1)⟩
 refine xn 2<|dT<|sp 1<|rt<|ba<|ba<|⟨rfl,?_⟩
 obtain rfl:=si U
 obtain rfl:=si I
 obtain rfl:=si hm
 refine ⟨_,_,_,tk (.bool false) (ResL.nil),J,?_⟩
 exact rfl
 refine xn 8<|dF<|sk ?_
 obtain rfl:=si U
 exact ⟨_,ay,aw,aj,ad,ag,rfl,az,ao,(by kernel_rfl),((J.front 3 rfl).takeN 1)⟩
 refine aA 23 2 (V j.ah) J rfl<|aA 1 2 (V j.To) J rfl<|aD 0 U ?_ ?_<;>intro dU U
 refine aA 2 1 (V ab.ah) J rfl<|aA 1 1 (V ab.To) J rfl<|cZ 0 U ?_ ?_<;>intro dV U
 refine xn 2<|dF<|sk ?_
 obtain rfl:=si U
 exact ⟨_,ay,aw,aj,ad,ag,rfl,az,ao,(by kernel_rfl),((J.front 3 rfl).takeN 1)⟩
 refine xn 2<|dT<|sp 1<|rt<|ba<|ba<|⟨rfl,?_⟩
 obtain rfl:=si U
 obtain rfl:=si I
 obtain rfl:=si hm
 refine ⟨_,_,_,tk (.bool false) (ResL.nil),J,?_⟩
 exact rfl
 refine xn 8<|dF<|sk ?_
 obtain rfl:=si U
 exact ⟨_,ay,aw,aj,ad,ag,rfl,az,ao,(by kernel_rfl),((J.front 3 rfl).takeN 1)⟩
 refine xn 0<|dF<|xt 0<|aN ?_
 obtain rfl:=si I
 exact ⟨_,aw,ad,ag,rfl,ao,(by kernel_rfl),aC⟩
 refine xn 1<|dT<|sp 1<|rt<|⟨rfl,?_⟩
 obtain rfl:=si hm
 refine ⟨_,_,_,tk (.bool false) (ResL.nil),a9,?_⟩
 exact rfl
end Go.Proofs.Ytcilejikekccmaa.M
namespace Go.Proofs.Ytcilejikekccmaa.M
open Go Am Sy
structure Small (l:List aq):Prop where
  n:l.length≤1000000
  k:∀ x∈l,x.Kids.length≤1000000
theorem y2 {α:Type} (l:List α) (i:Nat):l[((i:Int)).toNat]?=l[i]?:=by simp
theorem yh (F:Nat) (t:cM) (hs:Small t.al):∀ (d n i:Nat),i+d=t.al.length→d<n→correctorref10_copied_l0 F t n (t.al.take i) (i:Int)=some t.al:=by
  have hn:=hs.n
  intro d
  induction d with
  | zero=>
    intro n i h1 h2
    obtain ⟨n,rfl⟩:∃ m,n=m+1:=⟨n - 1,by omega⟩
    rw [correctorref10_copied_l0,if_neg (by omega),List.take_of_length_le (by omega)]
  | succ d ih=>
    intro n i h1 h2
    obtain ⟨n,rfl⟩:∃ m,n=m+1:=⟨n - 1,by omega⟩
    have hi:i<t.al.length:=by omega
    have hk:=hs.k t.al[i] (List.getElem_mem hi)
    rw [correctorref10_copied_l0,if_pos (by omega),if_pos (by omega),y2,List.getElem?_eq_getElem hi]
    simp only [Option.bind_some]
    rw [if_pos (by rw [List.length_nil];omega),if_pos (by rw [List.length_take,List.length_singleton];omega)]
    have hw:af ((i:Int)+1)=((i+1:Nat):Int):=by rw [a4 (by omega) (by omega)];omega
    rw [hw,← ih n (i+1) (by omega) (by omega)]
    congr 1
    rw [List.take_succ_eq_append_getElem hi]
    rfl
theorem vi (F:Nat) (t:cM) (hs:Small t.al) (hF:t.al.length<F):k7 F t=some t.al:=by
  unfold k7
  have:=yh F t hs t.al.length F 0 (by omega) hF
  rw [show ((0:Nat):Int)=0 from rfl,List.take_zero] at this
  rw [this];rfl
def endOf (l:List aq) (up:Nat):Option Int:=(l[up]?).map fun x=>match x.Kids.getLast? with
  | none=>x.ah
  | some k=>if 0≤k then (match l[k.toNat]? with | some y=>imax x.ah y.To | none=>x.ah) else x.ah
def toMax (x:aq) (to:Int):aq:={x with To:=imax x.To to}
def growL:Nat→List aq→Int→Int→List aq
  | 0,l,_,_=>l
  | k+1,l,i,to=>if 0≤i then (match l[i.toNat]? with | some x=>growL k (l.set i.toNat (toMax x to)) x.Up to | none=>l) else l
theorem BE (F:Nat) (a0:List aq) (a1 to:Int):∀ (k n:Nat) (l:List aq) (i:Int),(∀ (j:Nat) x,l[j]?=some x→x.Up<(j:Int))→i<k→i<l.length→k<n→kZ F a0 a1 to n l i=some (growL k l i to):=by
  intro k
  induction k with
  | zero=>
    intro n l i _ h1 _ h2
    obtain ⟨n,rfl⟩:∃ m,n=m+1:=⟨n - 1,by omega⟩
    rw [kZ,if_neg (by omega)];rfl
  | succ k ih=>
    intro n l i hu h1 I h2
    obtain ⟨n,rfl⟩:∃ m,n=m+1:=⟨n - 1,by omega⟩
    rw [kZ,growL]
    by_cases h0:0≤i
    · have hl:i.toNat<l.length:=by omega
      have hg:l[i.toNat]?=some l[i.toNat]:=List.getElem?_eq_getElem hl
      have AB:=hu i.toNat _ hg
      rw [if_pos h0,if_pos h0,if_pos ⟨h0,I⟩,hg]
      simp only [Option.bind_some]
      rw [if_pos ⟨h0,I⟩,if_pos (by rw [List.length_set];exact ⟨h0,I⟩),List.getElem?_set_self hl]
      simp only [Option.bind_some]
      refine ih n _ _ (fun j x hx=>?_) (by omega) (by rw [List.length_set];omega) (by omega)
      by_cases e:j=i.toNat
      · subst e
        rw [List.getElem?_set_self hl] at hx
        simp only [Option.some.injEq] at hx
        subst hx;exact AB
      · rw [List.getElem?_set_ne (Ne.symm e)] at hx;exact hu j x hx
    · rw [if_neg h0,if_neg h0]
theorem ui (F:Nat) (l:List aq) (i to:Int) (hu:∀ (j:Nat) x,l[j]?=some x→x.Up<(j:Int)) (hi:i<l.length) (hF:l.length<F):lh F l i to=some (growL l.length l i to):=by
  unfold lh
  rw [BE F l i to l.length F l i hu hi hi hF];rfl
theorem pk:∀ (k:Nat) (l:List aq) (i to:Int),(growL k l i to).length=l.length:=by
  intro k
  induction k with
  | zero=>intro l i to;rfl
  | succ k ih=>
    intro l i to
    simp only [growL]
    split
    · split
      · rw [ih,List.length_set]
      · rfl
    · rfl
theorem vJ (F:Nat) (n:Int) (h0:0≤n) (h1:n≤32768):nj F n=some ⟨[⟨1,0,n, -1,[],false⟩]⟩:=by
  unfold nj
  rw [if_neg (by omega),if_neg (by omega)];rfl
def nI (l:List aq) (up kind aG to:Int):List aq:=
  match l[up.toNat]? with
  | some x=>growL (l.length+1) ((l++[(⟨kind,aG,to,up,[],false⟩:aq)]).set up.toNat {x with Kids:=x.Kids++[(l.length:Int)]}) up to
  | none=>l
theorem yk (F:Nat) (t:cM) (up:Nat) (kind aG to:Int) (hs:Small t.al) (hn:t.al.length<1000000) (hF:t.al.length+1<F) (n7:∀ (j:Nat) x,t.al[j]?=some x→x.Up<(j:Int)) (hu:up<t.al.length) (hk:1≤kind∧kind≤11) (fb:aG≤to)
    (h0:∀ x,t.al[0]?=some x→to≤x.To) (qb:∀ x,t.al[up]?=some x→∀ c,x.Kids.getLast?=some c→0≤c∧c<t.al.length) (he:∀ e,endOf t.al up=some e→e≤aG):
    correctorref10_Add F t (up:Int) kind aG to=some (⟨nI t.al (up:Int) kind aG to⟩,(t.al.length:Int)):=by
  have hl:0<t.al.length:=by omega
  have U:t.al[0]?=some t.al[0]:=List.getElem?_eq_getElem hl
  have hx:t.al[up]?=some t.al[up]:=List.getElem?_eq_getElem hu
  have ad:=h0 _ U
  have tu:=qb _ hx
  unfold endOf at he
  rw [hx] at he
  simp only [Option.map_some,Option.some.injEq,forall_eq'] at he
  have oK:=hs.k _ (List.getElem_mem hu)
  unfold correctorref10_Add
  have hz:((0:Int)).toNat=0:=rfl
  rw [if_neg (by omega),if_neg (by omega),if_neg (by omega),if_neg (by omega),if_neg (by omega),if_pos (by omega),hz,U]
  simp only [Option.bind_some]
  rw [if_neg (by omega),if_pos (by omega),Int.toNat_natCast,hx]
  simp only [Option.bind_some]
  unfold nI
  rw [Int.toNat_natCast,hx]
  simp only
  generalize fR:t.al[up]=x at *
  have jZ:x.ah≤aG:=by
    cases hc:x.Kids.getLast? with
    | none=>rw [hc] at he;exact he
    | some c=>
      rw [hc] at he
      simp only at he
      obtain ⟨I,aa⟩:=tu c hc
      rw [if_pos I,List.getElem?_eq_getElem (by omega)] at he
      simp only [imax] at he
      split at he<;>omega
  rw [if_neg (by omega)]
  have step:(if (0:Int)<(x.Kids.length:Int) then
            if 0≤(af ((x.Kids.length:Int) - 1))∧(af ((x.Kids.length:Int) - 1))<(x.Kids.length:Int) then
             (x.Kids[(af ((x.Kids.length:Int) - 1)).toNat]?).bind fun J=>
             if 0≤J∧J<(t.al.length:Int) then
              (t.al[J.toNat]?).bind fun ab=>
              if aG<ab.To then
               some (.inr (t,(-1)))
              else
               some (.inl ())
             else none
            else none
           else
            some (.inl ()):Option (Sum Unit (cM×Int)))=some (.inl ()):=by
    by_cases h1:(0:Int)<x.Kids.length
    · have hw:af ((x.Kids.length:Int) - 1)=((x.Kids.length - 1:Nat):Int):=by rw [a4 (by omega) (by omega)];omega
      have nL:x.Kids.length - 1<x.Kids.length:=by omega
      have s3:x.Kids.getLast?=some x.Kids[x.Kids.length - 1]:=by rw [List.getLast?_eq_getElem?,List.getElem?_eq_getElem nL]
      obtain ⟨I,aa⟩:=tu _ s3
      rw [s3] at he
      simp only at he
      rw [if_pos I,List.getElem?_eq_getElem (by omega)] at he
      simp only [imax] at he
      rw [if_pos h1,hw,if_pos (by omega),Int.toNat_natCast,List.getElem?_eq_getElem nL]
      simp only [Option.bind_some]
      rw [if_pos ⟨I,aa⟩,List.getElem?_eq_getElem (by omega)]
      simp only [Option.bind_some]
      rw [if_neg (by split at he<;>omega)]
    · rw [if_neg h1]
  rw [step]
  simp only [Option.bind_some]
  rw [vi F t hs (by omega)]
  simp only [Option.bind_some]
  have hlen:(t.al++[(⟨kind,aG,to,(up:Int),[],false⟩:aq)]).length=t.al.length+1:=by simp
  have A2:(t.al++[(⟨kind,aG,to,(up:Int),[],false⟩:aq)])[up]?=some x:=by
    rw [List.getElem?_append_left hu,hx]
  rw [if_pos (by rw [List.length_singleton];omega),if_pos (by rw [hlen];omega),A2]
  simp only [Option.bind_some]
  rw [if_pos (by rw [List.length_singleton];omega),if_pos (by rw [hlen];omega)]
  have rZ:((t.al++[(⟨kind,aG,to,(up:Int),[],false⟩:aq)]).set up ⟨x.Kind,x.ah,x.To,x.Up,x.Kids++[(t.al.length:Int)],x.Key⟩).length=t.al.length+1:=by rw [List.length_set,hlen]
  rw [ui F _ _ _ (fun j y hy=>?_) (by rw [rZ];omega) (by rw [rZ];omega),rZ]
  · rfl
  · by_cases e:j=up
    · subst e
      rw [List.getElem?_set_self (by rw [hlen];omega)] at hy
      simp only [Option.some.injEq] at hy
      subst hy;exact n7 j x hx
    · rw [List.getElem?_set_ne (Ne.symm e),List.getElem?_append] at hy
      split at hy
      · exact n7 j y hy
      · rcases Nat.eq_zero_or_pos (j - t.al.length) with q | q
        · rw [q] at hy;simp at hy;subst hy
          show (up:Int)<j
          omega
        · rw [List.getElem?_eq_none (by simp;omega)] at hy;cases hy
theorem Ch (F:Nat) (t:cM) (i:Nat) (to:Int) (hs:Small t.al) (hF:t.al.length<F) (n7:∀ (j:Nat) x,t.al[j]?=some x→x.Up<(j:Int)) (hi:i<t.al.length) (h0:∀ x,t.al[0]?=some x→to≤x.To):h6 F t (i:Int) to=some ⟨growL t.al.length t.al (i:Int) to⟩:=by
  have hl:0<t.al.length:=by omega
  have I:t.al[0]?=some t.al[0]:=List.getElem?_eq_getElem hl
  have J:=h0 _ I
  have hz:((0:Int)).toNat=0:=rfl
  unfold h6
  rw [if_neg (by omega),if_neg (by omega),if_pos (by omega),hz,I]
  simp only [Option.bind_some]
  rw [if_neg (by omega),vi F t hs hF]
  simp only [Option.bind_some]
  rw [ui F _ _ _ n7 (by omega) hF]
  rfl
end Go.Proofs.Ytcilejikekccmaa.M
namespace Go.Proofs.Ytcilejikekccmaa.M
open Go Am Sy
theorem jr (a b:Int):imax a b=max a b:=by
 unfold imax;split<;>omega
def LP (l:List aq) (i To:Int):Int→List Int→Prop
 | _,[]=>True
 | e,k::ks=>∃ y,i<k∧0≤k∧k<l.length∧l[k.toNat]?=some y∧y.Up=i∧e≤y.ah∧y.To≤To∧LP l i To y.To ks
def dU (xs:List aq):Nat:=(xs.map fun x=>x.Kids.length).sum
structure G (N:List aq) (n:Int):Prop where
 root:∃ x,N[0]?=some x∧x.Kind=1∧x.ah=0∧x.To=n∧x.Up= -1
 fD:∀ (i:Nat) x,N[i]?=some x→i=0∨(0≤x.Up∧x.Up<(i:Int))
 c5:∀ (i:Nat) x,N[i]?=some x→LP N i x.To x.ah x.Kids∧x.ah≤x.To
 nd:∀ x∈N,x.Kids.Nodup
 sum:dU N+1=N.length
theorem G.new (n:Int) (h0:0≤n):G [⟨1,0,n, -1,[],false⟩] n where
 root:=⟨_,rfl,rfl,rfl,rfl,rfl⟩
 fD i x hx:=by
  cases i with
  | zero=>exact .inl rfl
  | succ i=>simp at hx
 c5 i x hx:=by
  cases i with
  | zero=>simp at hx;subst hx;exact ⟨trivial,h0⟩
  | succ i=>simp at hx
 nd x hx:=by simp at hx;subst hx;exact List.nodup_nil
 sum:=by simp [dU]
theorem iA {N:List aq} {i:Nat} {x:aq} (h:N[i]?=some x):i<N.length:=by
 rcases Nat.lt_or_ge i N.length with q | q
 ·exact q
 ·rw [List.getElem?_eq_none q] at h;cases h
theorem LP.mem {l:List aq} {i To:Int}:∀ {ks:List Int} {e:Int},LP l i To e ks→∀ k∈ks,∃ y,i<k∧k<l.length∧l[k.toNat]?=some y∧y.Up=i∧y.To≤To:=by
 intro ks
 induction ks with
 | nil=>intro e _ k hk;cases hk
 | cons j ks ih=>
  rintro e ⟨y,h1,h2,I,J,U,ad,aa,ab⟩ k hk
  rcases List.mem_cons.1 hk with rfl | hk
  ·exact ⟨y,h1,I,J,U,aa⟩
  ·exact ih ab k hk
theorem LP.of {l l':List aq} {i To l3:Int} (hT:To≤l3):∀ {ks:List Int} {e:Int},LP l i To e ks→(∀ k∈ks,∀ y,l[k.toNat]?=some y→k<l'.length∧∃ y',l'[k.toNat]?=some y'∧y'.Up=y.Up∧y'.ah=y.ah∧y'.To=y.To)→LP l' i l3 e ks:=by
 intro ks
 induction ks with
 | nil=>intro e _ _;trivial
 | cons k ks ih=>
  rintro e ⟨y,h1,h2,ai,I,J,U,aj,aa⟩ h
  obtain ⟨ab,y',ad,ae,af,ag⟩:=h k List.mem_cons_self y I
  exact ⟨y',h1,h2,ab,ad,by rw [ae];exact J,by rw [af];exact U,by omega,by rw [ag];exact ih aa (fun j hj=>h j (List.mem_cons_of_mem _ hj))⟩
theorem LP.last {l l':List aq} {i To l3:Int} (hT:To≤l3) {c:Int}:∀ {ks:List Int} {e:Int},LP l i To e ks→ks.getLast?=some c→ks.Nodup→(∀ k∈ks,k≠c→∀ y,l[k.toNat]?=some y→k<l'.length∧∃ y',l'[k.toNat]?=some y'∧y'.Up=y.Up∧y'.ah=y.ah∧y'.To=y.To)→
  (∀ y,l[c.toNat]?=some y→c<l'.length∧∃ y',l'[c.toNat]?=some y'∧y'.Up=y.Up∧y'.ah=y.ah∧y'.To≤l3)→LP l' i l3 e ks:=by
 intro ks
 induction ks with
 | nil=>intro e _ h;simp at h
 | cons k ks ih=>
  rintro e ⟨y,h1,h2,al,ad,ae,af,an,ag⟩ hl hn h hc
  obtain ⟨ai,aj⟩:=List.nodup_cons.1 hn
  cases ks with
  | nil=>
   simp only [List.getLast?_singleton,Option.some.injEq] at hl
   subst hl
   obtain ⟨I,y',J,U,aa,ab⟩:=hc y ad
   exact ⟨y',h1,h2,I,J,by rw [U];exact ae,by rw [aa];exact af,ab,trivial⟩
  | cons j ks=>
   rw [List.getLast?_cons_cons] at hl
   have bY:k≠c:=fun e=>ai (by rw [e];exact List.mem_of_getLast? hl)
   obtain ⟨I,y',J,U,aa,ab⟩:=h k List.mem_cons_self bY y ad
   exact ⟨y',h1,h2,I,J,by rw [U];exact ae,by rw [aa];exact af,by omega,by rw [ab];exact ih ag hl aj (fun m hm=>h m (List.mem_cons_of_mem _ hm)) hc⟩
theorem LP.snoc {l:List aq} {i To:Int} {k:Int} {z:aq} (h1:i<k) (h2:0≤k) (J:k<l.length) (hz:l[k.toNat]?=some z) (hu:z.Up=i) (ht:z.To≤To):∀ {ks:List Int} {e:Int},LP l i To e ks→(ks=[]→e≤z.ah)→(∀ c,ks.getLast?=some c→∀ y,l[c.toNat]?=some y→y.To≤z.ah)→LP l i To e (ks++[k]):=by
 intro ks
 induction ks with
 | nil=>intro e _ h _;exact ⟨z,h1,h2,J,hz,hu,h rfl,ht,trivial⟩
 | cons j ks ih=>
  rintro e ⟨y,U,aa,ab,I,ad,ae,af,ag⟩ _ hl
  refine ⟨y,U,aa,ab,I,ad,ae,af,ih ag (fun e=>?_) (fun c hc=>?_)⟩
  ·subst e;exact hl j rfl y I
  ·cases ks with
   | nil=>simp at hc
   | cons m ks=>exact hl c (by rw [List.getLast?_cons_cons];exact hc)
inductive Sp (N:List aq):Nat→Prop where
 | root:Sp N 0
 | gg {u k:Nat} {x:aq} (h:Sp N u) (hx:N[u]?=some x) (hk:x.Kids.getLast?=some (k:Int)):Sp N k
structure Gx (N:List aq) (n:Int) (i:Int) (to:Int):Prop where
 root:∃ x,N[0]?=some x∧x.Kind=1∧x.ah=0∧x.To=n∧x.Up= -1
 fD:∀ (j:Nat) x,N[j]?=some x→j=0∨(0≤x.Up∧x.Up<(j:Int))
 c5:∀ (j:Nat) x,N[j]?=some x→LP N j (if (j:Int)=i then max x.To to else x.To) x.ah x.Kids∧x.ah≤x.To
 nd:∀ x∈N,x.Kids.Nodup
 sum:dU N+1=N.length
theorem uG:∀ {a b:List aq},a.map (·.Kids)=b.map (·.Kids)→dU a=dU b:=by
 intro a b h
 have:∀ c:List aq,dU c=((c.map (·.Kids)).map List.length).sum:=fun c=>by simp [dU,Function.comp_def]
 rw [this,this,h]
theorem o7 {N:List aq} {i:Nat} {x y:aq} (hx:N[i]?=some x) (hk:y.Kids=x.Kids):(N.set i y).map (·.Kids)=N.map (·.Kids):=by
 rw [List.map_set,hk]
 have hi:=iA hx
 have eB:i<(N.map (·.Kids)).length:=by simpa using hi
 have:(N.map (·.Kids))[i]=x.Kids:=by
  rw [List.getElem_map]
  have:=List.getElem?_eq_getElem hi
  rw [hx] at this
  rw [← Option.some.inj this]
 rw [← this];exact List.set_getElem_self eB
theorem Sp.kids {N N':List aq} (h:N'.map (·.Kids)=N.map (·.Kids)) {u:Nat} (hs:Sp N u):Sp N' u:=by
 induction hs with
 | root=>exact .root
 | gg h1 hx hk ih=>
  rename_i u k x
  have:(N'.map (·.Kids))[u]?=some x.Kids:=by rw [h,List.getElem?_map,hx];rfl
  rw [List.getElem?_map] at this
  obtain ⟨y,hy,e⟩:=Option.map_eq_some_iff.1 this
  exact .gg ih hy (by rw [e];exact hk)
theorem G.gx {N:List aq} {n:Int} (h:G N n) (i to:Int):Gx N n i to where
 root:=h.root
 fD:=h.fD
 c5 j x hx:=⟨(h.c5 j x hx).1.of (by split<;>omega) (fun k hk y hy=>⟨by obtain ⟨_,_,q,_⟩:=(h.c5 j x hx).1.mem k hk;exact q,y,hy,rfl,rfl,rfl⟩),(h.c5 j x hx).2⟩
 nd:=h.nd
 sum:=h.sum
theorem Gx.none {N:List aq} {n i to:Int} (h:Gx N n i to) (hi:i<0):G N n where
 root:=h.root
 fD:=h.fD
 c5 j x hx:=by have:=h.c5 j x hx;rw [if_neg (by omega)] at this;exact this
 nd:=h.nd
 sum:=h.sum
theorem Gx.step {N:List aq} {n to:Int} {i:Nat} (h:Gx N n i to) (hs:Sp N i) {x:aq} (hx:N[i]?=some x) (ht:i=0→to≤n):Gx (N.set i (toMax x to)) n x.Up to∧(0≤x.Up→Sp N x.Up.toNat):=by
 have hi:=iA hx
 have eP:∀ (k:Nat) (y:aq),N[k]?=some y→∃ y',(N.set i (toMax x to))[k]?=some y'∧y'.Up=y.Up∧y'.ah=y.ah∧y'.Kids=y.Kids∧y'.Kind=y.Kind∧(k≠i→y'.To=y.To):=by
  intro k y hy
  by_cases e:k=i
  ·subst e
   rw [hx] at hy;simp only [Option.some.injEq] at hy;subst hy
   exact ⟨_,List.getElem?_set_self hi,rfl,rfl,rfl,rfl,fun q=>absurd rfl q⟩
  ·exact ⟨y,by rw [List.getElem?_set_ne (Ne.symm e)];exact hy,rfl,rfl,rfl,rfl,fun _=>rfl⟩
 have j5:(N.set i (toMax x to))[i]?=some (toMax x to):=List.getElem?_set_self hi
 have j7:=h.fD i x hx
 have vc:0≤x.Up→Sp N x.Up.toNat∧∃ p,N[x.Up.toNat]?=some p∧p.Kids.getLast?=some (i:Int):=by
  intro h0
  cases hs with
  | root=>
   obtain ⟨r,r1,_,_,_,ad⟩:=h.root
   rw [hx] at r1;simp only [Option.some.injEq] at r1;subst r1;omega
  | gg h1 hp hk=>
   rename_i u p
   obtain ⟨y,_,_,I,ae,_⟩:=(h.c5 u p hp).1.mem i (List.mem_of_getLast? hk)
   rw [Int.toNat_natCast,hx] at I
   simp only [Option.some.injEq] at I
   subst I
   rw [ae,Int.toNat_natCast]
   exact ⟨h1,p,hp,hk⟩
 refine ⟨⟨?_,fun j y hy=>?_,fun j y hy=>?_,fun y hy=>?_,?_⟩,fun h0=>(vc h0).1⟩
 ·obtain ⟨r,r1,ad,ai,al,aj⟩:=h.root
  by_cases e:i=0
  ·subst e
   rw [hx] at r1;simp only [Option.some.injEq] at r1;subst r1
   refine ⟨_,j5,ad,ai,?_,aj⟩
   have:=ht rfl
   simp only [toMax,jr];omega
  ·exact ⟨r,by rw [List.getElem?_set_ne e];exact r1,ad,ai,al,aj⟩
 ·by_cases e:j=i
  ·subst e
   rw [j5] at hy;simp only [Option.some.injEq] at hy;subst hy
   exact h.fD j x hx
  ·rw [List.getElem?_set_ne (Ne.symm e)] at hy;exact h.fD j y hy
 ·have hlen:((N.set i (toMax x to)).length:Int)=N.length:=by rw [List.length_set]
  by_cases e:j=i
  ·subst e
   rw [j5] at hy;simp only [Option.some.injEq] at hy;subst hy
   have h1:=h.c5 j x hx
   rw [if_pos rfl] at h1
   refine ⟨?_,by have:=h1.2;simp only [toMax,jr];omega⟩
   have bY:(j:Int)≠x.Up:=by
    rcases j7 with q | q
    ·obtain ⟨r,r1,_,_,_,ad⟩:=h.root
     rw [q] at hx;rw [hx] at r1;simp only [Option.some.injEq] at r1;subst r1;omega
    ·omega
   rw [if_neg bY]
   have ht:(toMax x to).To=max x.To to:=by simp only [toMax,jr]
   rw [ht]
   refine h1.1.of (Int.le_refl _) (fun k hk y hy=>?_)
   obtain ⟨z,af,ag,_⟩:=h1.1.mem k hk
   obtain ⟨y',J,U,aa,_,_,ab⟩:=eP k.toNat y hy
   exact ⟨by omega,y',J,U,aa,ab (by omega)⟩
  ·rw [List.getElem?_set_ne (Ne.symm e)] at hy
   have h1:=h.c5 j y hy
   rw [if_neg (by omega)] at h1
   refine ⟨?_,h1.2⟩
   by_cases ej:(j:Int)=x.Up
   ·rw [if_pos ej]
    obtain ⟨_,p,hp,hk⟩:=vc (by omega)
    rw [← ej,Int.toNat_natCast,hy] at hp
    simp only [Option.some.injEq] at hp
    subst hp
    refine h1.1.last (by omega) hk (h.nd y (List.mem_of_getElem? hy)) (fun k an bY z hz=>?_) (fun z hz=>?_)
    ·obtain ⟨w,af,ag,_⟩:=h1.1.mem k an
     obtain ⟨y',J,U,aa,_,_,ab⟩:=eP k.toNat z hz
     exact ⟨by omega,y',J,U,aa,ab (by omega)⟩
    ·obtain ⟨w,af,ag,I,ae,ar⟩:=h1.1.mem (i:Int) (List.mem_of_getLast? hk)
     rw [Int.toNat_natCast,hx] at hz I
     simp only [Option.some.injEq] at hz I
     subst hz;subst I
     refine ⟨by omega,toMax x to,by rw [Int.toNat_natCast];exact j5,rfl,rfl,?_⟩
     simp only [toMax,jr];omega
   ·rw [if_neg ej]
    refine h1.1.of (Int.le_refl _) (fun k hk z hz=>?_)
    obtain ⟨w,af,ag,I,ae,_⟩:=h1.1.mem k hk
    obtain ⟨y',J,U,aa,_,_,ab⟩:=eP k.toNat z hz
    refine ⟨by omega,y',J,U,aa,ab (fun ao=>?_)⟩
    rw [ao,hx] at I;simp only [Option.some.injEq] at I
    subst I;exact ej ae.symm
 ·obtain ⟨j,hj⟩:=List.getElem?_of_mem hy
  by_cases e:j=i
  ·subst e
   rw [j5] at hj;simp only [Option.some.injEq] at hj;subst hj
   exact h.nd x (List.mem_of_getElem? hx)
  ·rw [List.getElem?_set_ne (Ne.symm e)] at hj;exact h.nd y (List.mem_of_getElem? hj)
 ·rw [List.length_set,uG (o7 (y:=toMax x to) hx rfl)];exact h.sum
theorem Gx.grow {n to:Int} (ht:to≤n):∀ (k:Nat) (N:List aq) (i:Int),Gx N n i to→i<k→i<N.length→(0≤i→Sp N i.toNat)→G (growL k N i to) n:=by
 intro k
 induction k with
 | zero=>intro N i h h1 _ _;exact h.none (by omega)
 | succ k ih=>
  intro N i h h1 h2 hs
  simp only [growL]
  by_cases h0:0≤i
  ·rw [if_pos h0]
   have di:i.toNat<N.length:=by omega
   have hx:N[i.toNat]?=some N[i.toNat]:=List.getElem?_eq_getElem di
   rw [hx]
   simp only
   generalize N[i.toNat]=x at *
   have e:((i.toNat:Nat):Int)=i:=by omega
   obtain ⟨j,I⟩:=Gx.step (i:=i.toNat) (by rw [e];exact h) (hs h0) hx (fun _=>ht)
   have j7:=h.fD i.toNat x hx
   have rq:i.toNat=0→x.Up= -1:=fun z=>by
    obtain ⟨r,r1,_,_,_,J⟩:=h.root
    rw [z] at hx;rw [hx] at r1;simp only [Option.some.injEq] at r1;subst r1;exact J
   have bm:x.Up<i:=by
    rcases j7 with q | q
    ·have:=rq q;omega
    ·omega
   exact ih _ _ j (by omega) (by rw [List.length_set];omega) (fun z=>(I z).kids (o7 (y:=toMax x to) hx rfl))
  ·rw [if_neg h0];exact h.none (by omega)
theorem sM:∀ (k:Nat) (N:List aq) (i to:Int),(growL k N i to).map (·.Kids)=N.map (·.Kids):=by
 intro k
 induction k with
 | zero=>intro N i to;rfl
 | succ k ih=>
  intro N i to
  simp only [growL]
  split
  ·split
   ·rename_i x hx
    rw [ih,o7 (y:=toMax x to) hx rfl]
   ·rfl
  ·rfl
def Below (N:List aq) (p:Int):Prop:=∀ (i:Nat) x,N[i]?=some x→0<i→x.To≤p
theorem tz:∀ (k:Nat) (N:List aq) (i to p:Int),Below N p→to≤p→Below (growL k N i to) p:=by
 intro k
 induction k with
 | zero=>intro N i to p h _;exact h
 | succ k ih=>
  intro N i to p h ht
  simp only [growL]
  split
  ·split
   ·rename_i x hx
    refine ih _ _ _ _ (fun j y hy hj=>?_) ht
    by_cases e:j=i.toNat
    ·rw [e,List.getElem?_set_self (iA hx)] at hy
     simp only [Option.some.injEq] at hy
     subst hy
     have:=h j x (by rw [e];exact hx) hj
     simp only [toMax,jr];omega
    ·rw [List.getElem?_set_ne (Ne.symm e)] at hy;exact h j y hy hj
   ·exact h
  ·exact h
theorem zm:∀ (k:Nat) (N:List aq) (i to:Int) (j:Nat) (x':aq),(growL k N i to)[j]?=some x'→∃ x,N[j]?=some x∧x'.Kind=x.Kind∧x'.ah=x.ah:=by
 intro k
 induction k with
 | zero=>intro N i to j x' h;exact ⟨x',h,rfl,rfl⟩
 | succ k ih=>
  intro N i to j x' h
  simp only [growL] at h
  split at h
  ·split at h
   ·rename_i x hx
    obtain ⟨y,I,J,U⟩:=ih _ _ _ _ _ h
    by_cases e:j=i.toNat
    ·rw [e,List.getElem?_set_self (iA hx)] at I
     simp only [Option.some.injEq] at I
     subst I
     exact ⟨x,by rw [e];exact hx,J,U⟩
    ·rw [List.getElem?_set_ne (Ne.symm e)] at I;exact ⟨y,I,J,U⟩
   ·exact ⟨x',h,rfl,rfl⟩
  ·exact ⟨x',h,rfl,rfl⟩
end Go.Proofs.Ytcilejikekccmaa.M
namespace Go.Proofs.Ytcilejikekccmaa.M
open Go Am Sy
theorem z8 (a b:List aq):dU (a++b)=dU a+dU b:=by simp [dU]
theorem wc {N:List aq} {x:aq} (h:x∈N):x.Kids.length≤dU N:=by
 induction N with
 | nil=>cases h
 | cons y N ih=>
  have:dU (y::N)=y.Kids.length+dU N:=by simp [dU]
  rcases List.mem_cons.1 h with rfl | h
  ·omega
  ·have:=ih h;omega
theorem Cr:∀ {N:List aq} {i:Nat} {x y:aq},N[i]?=some x→dU (N.set i y)+x.Kids.length=dU N+y.Kids.length:=by
 intro N
 induction N with
 | nil=>intro i x y h;simp at h
 | cons z N ih=>
  intro i x y h
  have e:∀ (a:aq) (b:List aq),dU (a::b)=a.Kids.length+dU b:=fun a b=>by simp [dU]
  cases i with
  | zero=>simp at h;subst h;rw [List.set_cons_zero,e,e];omega
  | succ i=>
   simp only [List.getElem?_cons_succ] at h
   have:=ih (y:=y) h
   rw [List.set_cons_succ,e,e];omega
theorem G.small {N:List aq} {n:Int} (h:G N n) (hl:N.length≤1000000):Small N:=⟨hl,fun x hx=>by have:=wc hx;have:=h.sum;omega⟩
theorem G.pos {N:List aq} {n:Int} (h:G N n):0<N.length:=by have:=h.sum;omega
theorem G.uI {N:List aq} {n:Int} (h:G N n):∃ x,N[0]?=some x∧x.To=n:=by
 obtain ⟨x,h1,_,_,h2,_⟩:=h.root;exact ⟨x,h1,h2⟩
theorem G.same {N N':List aq} {n:Int} (h:G N n) (hl:N'.length=N.length) (hs:∀ (i:Nat) x',N'[i]?=some x'→∃ x,N[i]?=some x∧x'.Kind=x.Kind∧x'.ah=x.ah∧x'.To=x.To∧x'.Up=x.Up∧x'.Kids=x.Kids):G N' n:=by
 have e6:∀ (i:Nat) x,N[i]?=some x→∃ x',N'[i]?=some x'∧x'.Kind=x.Kind∧x'.ah=x.ah∧x'.To=x.To∧x'.Up=x.Up∧x'.Kids=x.Kids:=fun i x hx=>by
  have hi:=iA hx
  have h1:N'[i]?=some N'[i]:=List.getElem?_eq_getElem (by omega)
  obtain ⟨y,j,I⟩:=hs i _ h1
  rw [hx] at j;simp only [Option.some.injEq] at j;subst j
  exact ⟨_,h1,I⟩
 have hk:N'.map (·.Kids)=N.map (·.Kids):=by
  apply List.ext_getElem?
  intro i
  rw [List.getElem?_map,List.getElem?_map]
  rcases Nat.lt_or_ge i N.length with q | q
  ·obtain ⟨x',j,_,_,_,_,I⟩:=e6 i _ (List.getElem?_eq_getElem q)
   rw [j,List.getElem?_eq_getElem q];simp [I]
  ·rw [List.getElem?_eq_none q,List.getElem?_eq_none (by omega)]
 refine ⟨?_,fun i x' hx=>?_,fun i x' hx=>?_,fun x' hx=>?_,by rw [hl,uG hk];exact h.sum⟩
 ·obtain ⟨x,h1,h2,ad,ae,af⟩:=h.root
  obtain ⟨x',j,I,J,U,aa,_⟩:=e6 0 x h1
  exact ⟨x',j,I.trans h2,J.trans ad,U.trans ae,aa.trans af⟩
 ·obtain ⟨x,j,_,_,_,aa,_⟩:=hs i x' hx
  rw [aa];exact h.fD i x j
 ·obtain ⟨x,j,_,J,U,_,ab⟩:=hs i x' hx
  rw [J,U,ab]
  have h1:=h.c5 i x j
  exact ⟨h1.1.of (Int.le_refl _) (fun k hk y hy=>by
   obtain ⟨z,_,an,_⟩:=h1.1.mem k hk
   obtain ⟨y',ag,_,ai,aj,al,_⟩:=e6 _ y hy
   exact ⟨by omega,y',ag,al,ai,aj⟩),h1.2⟩
 ·obtain ⟨i,hi⟩:=List.getElem?_of_mem hx
  obtain ⟨x,j,_,_,_,_,ab⟩:=hs i x' hi
  rw [ab];exact h.nd x (List.mem_of_getElem? j)
structure uZ (N N':List aq) (n:Int) (up:Nat) (kind aG to:Int):Prop where
 g:G N' n
 len:N'.length=N.length+1
 vk:∀ p,Below N p→to≤p→Below N' p
 new:Sp N' N.length
 cH:∀ v,v≤up→Sp N v→Sp N' v
 fresh:∃ z,N'[N.length]?=some z∧z.ah=aG∧z.Kids=[]
theorem added {N:List aq} {n:Int} (h:G N n) {up:Nat} (hu:up<N.length) (hs:Sp N up) {kind aG to:Int} (fb:aG≤to) (ht:to≤n) (he:∀ e,endOf N up=some e→e≤aG):uZ N (nI N up kind aG to) n up kind aG to:=by
 have hx:N[up]?=some N[up]:=List.getElem?_eq_getElem hu
 unfold nI
 rw [Int.toNat_natCast,hx]
 simp only
 unfold endOf at he
 rw [hx] at he
 simp only [Option.map_some,Option.some.injEq,forall_eq'] at he
 generalize N[up]=x at *
 have ml:=List.mem_of_getElem? hx
 have fS:(N++[(⟨kind,aG,to,(up:Int),[],false⟩:aq)]).set up {x with Kids:=x.Kids++[(N.length:Int)]}=N.set up {x with Kids:=x.Kids++[(N.length:Int)]}++[(⟨kind,aG,to,(up:Int),[],false⟩:aq)]:=List.set_append_left _ _ hu
 generalize av:(N++[(⟨kind,aG,to,(up:Int),[],false⟩:aq)]).set up {x with Kids:=x.Kids++[(N.length:Int)]}=I at *
 have hlen:I.length=N.length+1:=by rw [fS];simp
 have eP:∀ (k:Nat) y,N[k]?=some y→∃ y',I[k]?=some y'∧y'.Kind=y.Kind∧y'.ah=y.ah∧y'.To=y.To∧y'.Up=y.Up∧(k≠up→y'=y):=by
  intro k y hy
  have hk:=iA hy
  rw [fS,List.getElem?_append_left (by rw [List.length_set];exact hk)]
  by_cases e:k=up
  ·subst e
   rw [hx] at hy;simp only [Option.some.injEq] at hy;subst hy
   exact ⟨_,List.getElem?_set_self hk,rfl,rfl,rfl,rfl,fun q=>absurd rfl q⟩
  ·exact ⟨y,by rw [List.getElem?_set_ne (Ne.symm e)];exact hy,rfl,rfl,rfl,rfl,fun _=>rfl⟩
 have tj:I[up]?=some {x with Kids:=x.Kids++[(N.length:Int)]}:=by
  rw [fS,List.getElem?_append_left (by rw [List.length_set];exact hu),List.getElem?_set_self hu]
 have iL:I[N.length]?=some ⟨kind,aG,to,(up:Int),[],false⟩:=by
  rw [fS,List.getElem?_append_right (by rw [List.length_set];exact Nat.le_refl _)];simp
 have gF:∀ (k:Nat) y',I[k]?=some y'→(k=N.length∧y'=⟨kind,aG,to,(up:Int),[],false⟩)∨(k=up∧y'={x with Kids:=x.Kids++[(N.length:Int)]})∨(k≠up∧N[k]?=some y'):=by
  intro k y' hy
  have hk:=iA hy
  by_cases e:k=N.length
  ·subst e;rw [iL] at hy;exact .inl ⟨rfl,(Option.some.inj hy).symm⟩
  ·by_cases ad:k=up
   ·subst ad;rw [tj] at hy;exact .inr (.inl ⟨rfl,(Option.some.inj hy).symm⟩)
   ·have h2:N[k]?=some N[k]:=List.getElem?_eq_getElem (by omega)
    obtain ⟨z,J,_,_,_,_,aa⟩:=eP k _ h2
    rw [hy] at J;simp only [Option.some.injEq] at J
    rw [J,aa ad];exact .inr (.inr ⟨ad,h2⟩)
 have tC:∀ (j:Nat) y,N[j]?=some y→∀ T,y.To≤T→LP I j T y.ah y.Kids:=fun j y hy T hT=>
  (h.c5 j y hy).1.of hT (fun k hk z hz=>by
   obtain ⟨w,_,aa,_⟩:=(h.c5 j y hy).1.mem k hk
   obtain ⟨z',U,_,af,ae,ag,_⟩:=eP _ z hz
   exact ⟨by omega,z',U,ag,af,ae⟩)
 have Cv:Gx I n up to:=by
  refine ⟨?_,fun j y hy=>?_,fun j y hy=>?_,fun y hy=>?_,?_⟩
  ·obtain ⟨r,r1,ai,aj,al,an⟩:=h.root
   obtain ⟨z,J,aa,ab,ao,ar,_⟩:=eP 0 r r1
   exact ⟨z,J,aa.trans ai,ab.trans aj,ao.trans al,ar.trans an⟩
  ·rcases gF j y hy with ⟨rfl,rfl⟩ | ⟨rfl,rfl⟩ | ⟨_,q⟩
   ·exact .inr ⟨by show (0:Int)≤(up:Int);omega,by show (up:Int)<(N.length:Int);omega⟩
   ·exact h.fD j x hx
   ·exact h.fD j y q
  ·rcases gF j y hy with ⟨rfl,rfl⟩ | ⟨rfl,rfl⟩ | ⟨aw,q⟩
   ·exact ⟨trivial,fb⟩
   ·rw [if_pos rfl]
    refine ⟨?_,(h.c5 j x hx).2⟩
    refine LP.snoc (i:=(j:Int)) (k:=(N.length:Int)) (z:=⟨kind,aG,to,(j:Int),[],false⟩) (by omega) (by omega) (by omega) (by rw [Int.toNat_natCast];exact iL) rfl (by show to≤max x.To to;omega) (tC j x hx _ (by show x.To≤max x.To to;omega)) (fun e=>?_) (fun c hc y hy=>?_)
    ·rw [e] at he;exact he
    ·rw [hc] at he
     simp only at he
     obtain ⟨w,J,aa,ab,_⟩:=(h.c5 j x hx).1.mem c (List.mem_of_getLast? hc)
     rw [if_pos (by omega),ab] at he
     simp only [jr] at he
     obtain ⟨w',U,_,_,ae,_⟩:=eP _ w ab
     rw [hy] at U;simp only [Option.some.injEq] at U
     rw [U,ae];show w.To≤aG;omega
   ·rw [if_neg (by omega)]
    exact ⟨tC j y q _ (Int.le_refl _),(h.c5 j y q).2⟩
  ·obtain ⟨j,hj⟩:=List.getElem?_of_mem hy
   rcases gF j y hj with ⟨rfl,rfl⟩ | ⟨rfl,rfl⟩ | ⟨_,q⟩
   ·exact List.nodup_nil
   ·refine List.nodup_append.2 ⟨h.nd x ml,by simp,fun a ha b hb e=>?_⟩
    simp only [List.mem_singleton] at hb
    obtain ⟨_,_,aa,_⟩:=(h.c5 j x hx).1.mem a ha
    omega
   ·exact h.nd y (List.mem_of_getElem? q)
  ·rw [fS,z8,List.length_append,List.length_set]
   have h1:=Cr (y:={x with Kids:=x.Kids++[(N.length:Int)]}) hx
   have h2:({x with Kids:=x.Kids++[(N.length:Int)]}:aq).Kids.length=x.Kids.length+1:=by simp
   have ax:=h.sum
   have ay:dU [(⟨kind,aG,to,(up:Int),[],false⟩:aq)]=0:=rfl
   rw [h2] at h1
   simp only [List.length_singleton]
   omega
 have hold:∀ v,Sp N v→v≤up→Sp I v:=by
  intro v hv
  induction hv with
  | root=>intro _;exact .root
  | gg h1 hy hk ih=>
   rename_i u k y
   intro hle
   obtain ⟨w,J,_⟩:=(h.c5 u y hy).1.mem _ (List.mem_of_getLast? hk)
   obtain ⟨y',U,_,_,_,_,au⟩:=eP u y hy
   rw [au (by omega)] at U
   exact .gg (ih (by omega)) U hk
 have rT:=sM (N.length+1) I up to
 have yl:Sp I N.length:= .gg (hold up hs (Nat.le_refl _)) tj (by simp)
 refine ⟨Cv.grow ht _ _ _ (by omega) (by omega) (fun _=>by rw [Int.toNat_natCast];exact hold up hs (Nat.le_refl _)),by rw [pk,hlen],fun p hp nE=>tz _ _ _ _ _ (fun j y hy hj=>?_) nE,yl.kids rT,fun v hv q=>(hold v q hv).kids rT,?_⟩
 ·rcases gF j y hy with ⟨rfl,rfl⟩ | ⟨rfl,rfl⟩ | ⟨_,q⟩
  ·exact nE
  ·exact hp j x hx hj
  ·exact hp j y q hj
 ·have hl:N.length<(growL (N.length+1) I up to).length:=by rw [pk,hlen];omega
  refine ⟨_,List.getElem?_eq_getElem hl,?_⟩
  have h1:=List.getElem?_eq_getElem hl
  obtain ⟨y,J,_,ab⟩:=zm _ _ _ _ _ _ h1
  rw [iL] at J;simp only [Option.some.injEq] at J
  refine ⟨by rw [ab,← J],?_⟩
  have h2:((growL (N.length+1) I up to).map (·.Kids))[N.length]?=some []:=by rw [rT,List.getElem?_map,iL];rfl
  rw [List.getElem?_map,h1] at h2
  exact Option.some.inj h2
theorem vq {N:List aq} {n:Int} (h:G N n) {p:Int} (hb:Below N p) (hp:0≤p) (up:Nat):∀ e,endOf N up=some e→e≤p:=by
 intro e he
 unfold endOf at he
 obtain ⟨x,hx,rfl⟩:=Option.map_eq_some_iff.1 he
 have rD:x.ah≤p:=by
  rcases Nat.eq_zero_or_pos up with e | e
  ·subst e
   obtain ⟨r,r1,_,I,_⟩:=h.root
   rw [hx] at r1;simp only [Option.some.injEq] at r1;subst r1;omega
  ·have:=hb up x hx e
   have:=(h.c5 up x hx).2
   omega
 cases hk:x.Kids.getLast? with
 | none=>exact rD
 | some k=>
  simp only
  obtain ⟨w,J,U,j,_⟩:=(h.c5 up x hx).1.mem k (List.mem_of_getLast? hk)
  rw [if_pos (by omega),j]
  simp only [jr]
  have:=hb k.toNat w j (by omega)
  omega
theorem rr {N:List aq} {i:Nat} {z:aq} (hz:N[i]?=some z) (hk:z.Kids=[]):∀ e,endOf N i=some e→e=z.ah:=by
 intro e he
 unfold endOf at he
 rw [hz] at he
 simp only [Option.map_some,hk,List.getLast?_nil,Option.some.injEq] at he
 exact he.symm
theorem G.tY {N:List aq} {n:Int} (h:G N n) (j:Nat) (x:aq) (hx:N[j]?=some x):x.Up<(j:Int):=by
 rcases h.fD j x hx with q | q
 ·obtain ⟨r,r1,_,_,_,I⟩:=h.root
  subst q
  rw [hx] at r1;simp only [Option.some.injEq] at r1;subst r1;omega
 ·exact q.2
theorem G.last {N:List aq} {n:Int} (h:G N n) (up:Nat) (x:aq) (hx:N[up]?=some x) (c:Int) (hc:x.Kids.getLast?=some c):0≤c∧c<N.length:=by
 obtain ⟨y,j,I,_⟩:=(h.c5 up x hx).1.mem c (List.mem_of_getLast? hc)
 omega
end Go.Proofs.Ytcilejikekccmaa.M
namespace Go.Proofs.Ytcilejikekccmaa.M
open Go Am Sy
abbrev Rr:=aJ
structure RI (r:Rr):Prop where
 e0:0≤r.End
 e1:r.End≤r.L.length
 n:r.L.length≤450
 kp:∀ t∈r.L,0<t.Kind
def kd (r:Rr) (i:Int):Int:=if r.End≤i then 0 else match r.L[i.toNat]? with | some x=>if x.Kind=20∨x.Kind=21 then 0 else x.Kind | none=>0
theorem eX (F:Nat) (r:Rr) (h:RI r) (i:Int) (h0:0≤i):ee F r i=some (kd r i):=by
 unfold ee kd
 by_cases c2:r.End≤i
 ·rw [if_pos c2,if_pos c2]
 have:=h.e1
 have hl:i.toNat<r.L.length:=by omega
 rw [if_neg c2,if_neg c2]
 have hb:0≤i∧i<(r.L.length:Int):=by omega
 simp only [if_pos hb,List.getElem?_eq_getElem hl,Option.bind_some]
 by_cases j:r.L[i.toNat].Kind=20
 ·rw [if_pos j,if_pos (.inl j)]
 rw [if_neg j]
 by_cases I:r.L[i.toNat].Kind=21
 ·rw [if_pos I,if_pos (.inr I)]
 ·rw [if_neg I,if_neg (by omega)]
theorem fq {r:Rr} {i:Int} (h:kd r i≠0):i<r.End:=by
 unfold kd at h
 split at h
 ·exact absurd rfl h
 ·omega
theorem y3 {r:Rr} (h:RI r) (i:Int):0≤kd r i:=by
 unfold kd
 split
 ·exact Int.le_refl _
 ·split
  ·rename_i x hx
   have:=h.kp x (List.mem_of_getElem? hx)
   split<;>omega
  ·exact Int.le_refl _
theorem h8 {r:Rr} {i:Int} (h:r.End≤i):kd r i=0:=by unfold kd;rw [if_pos h]
theorem rj {r:Rr} (hr:RI r) {i:Int} (h0:0≤i) (h1:i<r.End):∃ x,r.L[i.toNat]?=some x∧(kd r i≠0→kd r i=x.Kind):=by
 have:=hr.e1
 have hl:i.toNat<r.L.length:=by omega
 refine ⟨_,List.getElem?_eq_getElem hl,fun q=>?_⟩
 unfold kd at q ⊢
 rw [if_neg (by omega),List.getElem?_eq_getElem hl] at q ⊢
 simp only at q ⊢
 split
 ·rename_i c;rw [if_pos c] at q;exact absurd rfl q
 ·rfl
def cn (k:Int):Bool:=decide (k≠1∧k≠2∧k≠3∧k≠4)
theorem kx (F:Nat) (k:Int):fh F k=some (cn k):=by
 unfold fh cn
 by_cases h1:k=1
 ·simp [h1]
 by_cases h2:k=2
 ·simp [h2]
 by_cases j:k=3
 ·simp [j]
 by_cases I:k=4
 ·simp [I]
 simp [h1,h2,j,I]
theorem nX (F:Nat) (k:Int):iY F k=some (decide (k=8∨k=9)):=by
 unfold iY
 by_cases h1:k=8
 ·simp [h1]
 by_cases h2:k=9
 ·simp [h2]
 simp [h1,h2]
theorem oG (F:Nat) (k:Int):iw F k=some (decide (k=10∨k=11)):=by
 unfold iw
 by_cases h1:k=10
 ·simp [h1]
 by_cases h2:k=11
 ·simp [h2]
 simp [h1,h2]
theorem oI (F:Nat) (k:Int):∃ b,eZ F k=some b:=by
 unfold eZ
 by_cases h1:k=15
 ·simp [h1]
 by_cases h2:k=16
 ·simp [h2]
 by_cases j:k=17
 ·simp [j]
 by_cases I:k=13
 ·simp [I]
 simp [h1,h2,j,I]
theorem B3 {F:Nat} {k:Int} (h:eZ F k=some true):k≠0:=by
 rintro rfl
 unfold eZ at h
 simp at h
def Ct (L:List ak) (j:Int):Prop:=∃ t,L[(j - 1).toNat]?=some t∧cn t.Kind=true
theorem Ct.of {r:Rr} (h:RI r) {i:Int} (h0:0≤i) {k:Int} (hk:kd r i=k) (J:k≠0) (hc:cn k=true):Ct r.L (i+1):=by
 have eI:=fq (r:=r) (i:=i) (by omega)
 obtain ⟨t,j,I⟩:=rj h h0 eI
 refine ⟨t,by rw [Int.add_sub_cancel];exact j,?_⟩
 rw [← I (by omega),hk];exact hc
theorem w1 {i:Int} (h0:0≤i) (h1:i≤100000):af (i+1)=i+1:=a4 (by omega) (by omega)
theorem ju {i:Int} (h0:0≤i) (h1:i≤100000):af (i - 1)=i - 1:=a4 (by omega) (by omega)
theorem u5 (F:Nat) (hF:2500≤F) (r:Rr) (h:RI r) (i:Int) (h0:0≤i) (h1:i≤2000):∃ j,kD F r i=some j∧i≤j∧(j=i∨j≤r.End)∧(kd r i≠0→kd r i≠3→j=i):=by
 have hn:=h.n
 have he:=h.e1
 have key:∀ (d n:Nat) (x:Int),i≤x→x≤2000→(r.End - x).toNat≤d→d<n→(x=i∨x≤r.End)→(kd r i≠0→kd r i≠3→x=i)→∃ j,kt F r i n x=some j∧i≤j∧(j=i∨j≤r.End)∧(kd r i≠0→kd r i≠3→j=i):=by
  intro d
  induction d with
  | zero=>
   intro n x hx U hd hn hq hz
   obtain ⟨n,rfl⟩:∃ m,n=m+1:=⟨n - 1,by omega⟩
   rw [kt,if_neg (by omega)]
   exact ⟨x,rfl,hx,hq,hz⟩
  | succ d ih=>
   intro n x hx U hd hn hq hz
   obtain ⟨n,rfl⟩:∃ m,n=m+1:=⟨n - 1,by omega⟩
   rw [kt]
   by_cases c0:x<r.End
   case neg=>rw [if_neg c0];exact ⟨x,rfl,hx,hq,hz⟩
   obtain ⟨y,aa,ab⟩:=rj h (by omega) c0
   rw [if_pos c0,if_pos (by omega),aa]
   simp only [Option.bind_some]
   split
   ·rename_i ad
    rw [w1 (by omega) (by omega)]
    exact ih n (x+1) (by omega) (by omega) (by omega) (by omega) (by omega) (fun I J=>by
     have:=hz I J
     subst this
     exact absurd ((ab I).trans ad) J)
   ·exact ⟨x,rfl,hx,hq,hz⟩
 unfold kD
 obtain ⟨j,I,J⟩:=key (r.End - i).toNat F i (Int.le_refl _) h1 (Nat.le_refl _) (by omega) (.inl rfl) (fun _ _=>rfl)
 exact ⟨j,by rw [I];rfl,J⟩
theorem mK (F:Nat) (hF:2500≤F) (r:Rr) (h:RI r) (i:Int) (h0:0≤i) (h1:i≤2000):∃ j,h3 F r i=some j∧i≤j∧(j=i∨j≤r.End)∧(kd r j≠0→cn (kd r j)=true):=by
 have hn:=h.n
 have he:=h.e1
 have key:∀ (d n:Nat) (x:Int),i≤x→x≤2000→(r.End - x).toNat≤d→d<n→(x=i∨x≤r.End)→∃ j,kI F r i n x=some j∧i≤j∧(j=i∨j≤r.End)∧(kd r j≠0→cn (kd r j)=true):=by
  intro d
  induction d with
  | zero=>
   intro n x hx I hd hn hq
   obtain ⟨n,rfl⟩:∃ m,n=m+1:=⟨n - 1,by omega⟩
   rw [kI,if_neg (by omega)]
   exact ⟨x,rfl,hx,hq,fun q=>absurd (h8 (by omega)) q⟩
  | succ d ih=>
   intro n x hx I hd hn hq
   obtain ⟨n,rfl⟩:∃ m,n=m+1:=⟨n - 1,by omega⟩
   rw [kI]
   by_cases c0:x<r.End
   case neg=>rw [if_neg c0];exact ⟨x,rfl,hx,hq,fun q=>absurd (h8 (by omega)) q⟩
   obtain ⟨t,J,U⟩:=rj h (by omega) c0
   rw [if_pos c0,if_pos (by omega),J]
   simp only [Option.bind_some,kx]
   by_cases c:cn t.Kind=true
   ·rw [if_pos c];exact ⟨x,rfl,hx,hq,fun q=>by rw [U q];exact c⟩
   ·rw [if_neg c,w1 (by omega) (by omega)]
    exact ih n (x+1) (by omega) (by omega) (by omega) (by omega) (by omega)
 unfold h3
 obtain ⟨j,aa,ab⟩:=key (r.End - i).toNat F i (Int.le_refl _) h1 (Nat.le_refl _) (by omega) (.inl rfl)
 exact ⟨j,by rw [aa];rfl,ab⟩
theorem o3 (F:Nat) (hF:2500≤F) (r:Rr) (hn:r.L.length≤450) (b a:Int) (h0:0≤a) (h1:a≤b) (h2:b≤r.L.length):∃ j,jg F r b a=some j∧a≤j∧j≤b∧(j=a∨Ct r.L j)∧(a<b→Ct r.L b→j=b):=by
 have key:∀ (d n:Nat) (x:Int),a≤x→x≤b→(x - a).toNat≤d→d<n→∃ j,jI F r b a n x=some j∧a≤j∧j≤b∧(j=a∨Ct r.L j)∧(a<x→Ct r.L x→j=x):=by
  intro d
  induction d with
  | zero=>
   intro n x hx I hd hn
   obtain ⟨n,rfl⟩:∃ m,n=m+1:=⟨n - 1,by omega⟩
   rw [jI,if_neg (by omega)]
   exact ⟨x,rfl,hx,I, .inl (by omega),fun _ _=>rfl⟩
  | succ d ih=>
   intro n x hx I hd hn
   obtain ⟨n,rfl⟩:∃ m,n=m+1:=⟨n - 1,by omega⟩
   rw [jI]
   by_cases c:a<x
   ·have hl:(x - 1).toNat<r.L.length:=by omega
    rw [if_pos c,ju (by omega) (by omega),if_pos (by omega),List.getElem?_eq_getElem hl]
    simp only [Option.bind_some,kx]
    split
    ·rename_i hc
     exact ⟨x,rfl,hx,I, .inr ⟨_,List.getElem?_eq_getElem hl,hc⟩,fun _ _=>rfl⟩
    ·rename_i hc
     obtain ⟨j,J,U,ab,ad,_⟩:=ih n (x - 1) (by omega) (by omega) (by omega) (by omega)
     refine ⟨j,J,U,ab,ad,fun _ z=>?_⟩
     obtain ⟨t,aa,ae⟩:=z
     rw [List.getElem?_eq_getElem hl] at aa
     simp only [Option.some.injEq] at aa
     subst aa;exact absurd ae hc
   ·rw [if_neg c];exact ⟨x,rfl,hx,I, .inl (by omega),fun q=>absurd q c⟩
 unfold jg
 obtain ⟨j,J,U⟩:=key (b - a).toNat F b h1 (Int.le_refl _) (Nat.le_refl _) (by omega)
 exact ⟨j,by rw [J];rfl,U⟩
theorem xd (F:Nat) (hF:2500≤F) (r:Rr) (h:RI r) (a:Int) (h0:0≤a) (h1:a<r.End) (hk:Ct r.L (a+1)):∃ j,mq F r a=some j∧a<j∧j≤r.End∧Ct r.L j:=by
 have hn:=h.n
 have he:=h.e1
 have ab:∀ (d n:Nat) (x:Int),a+1≤x→x≤r.End→(r.End - x).toNat≤d→d<n→∃ j,kN F r a n x=some j∧a<j∧j≤r.End:=by
  intro d
  induction d with
  | zero=>
   intro n x hx I hd hn
   obtain ⟨n,rfl⟩:∃ m,n=m+1:=⟨n - 1,by omega⟩
   rw [kN,if_neg (by omega)]
   exact ⟨x,rfl,by omega,I⟩
  | succ d ih=>
   intro n x hx I hd hn
   obtain ⟨n,rfl⟩:∃ m,n=m+1:=⟨n - 1,by omega⟩
   rw [kN]
   by_cases c0:x<r.End
   case neg=>rw [if_neg c0];exact ⟨x,rfl,by omega,I⟩
   have hl:x.toNat<r.L.length:=by omega
   have hb:0≤x∧x<(r.L.length:Int):=by omega
   simp only [if_pos c0,if_pos hb,List.getElem?_eq_getElem hl,Option.bind_some,kx]
   split
   ·exact ⟨x,rfl,by omega,I⟩
   split
   ·exact ⟨x,rfl,by omega,I⟩
   rw [w1 (by omega) (by omega)]
   exact ih n (x+1) (by omega) (by omega) (by omega) (by omega)
 have ad:∀ (d n:Nat) (x:Int),a+1≤x→x≤r.End→(r.End - x).toNat≤d→d<n→(x=a+1∨Ct r.L x∨∃ t,r.L[x.toNat]?=some t∧t.Kind=19∧x<r.End)→∃ j,jN F r a n x=some j∧a<j∧j≤r.End∧Ct r.L j:=by
  intro d
  induction d with
  | zero=>
   intro n x hx I hd hn hc
   obtain ⟨n,rfl⟩:∃ m,n=m+1:=⟨n - 1,by omega⟩
   rw [jN,if_neg (by omega)]
   refine ⟨x,rfl,by omega,I,?_⟩
   rcases hc with rfl | hc | ⟨_,_,_,hc⟩
   ·exact hk
   ·exact hc
   ·omega
  | succ d ih=>
   intro n x hx I hd hn hc
   obtain ⟨n,rfl⟩:∃ m,n=m+1:=⟨n - 1,by omega⟩
   rw [jN]
   by_cases c0:x<r.End
   case neg=>
    rw [if_neg c0]
    refine ⟨x,rfl,by omega,I,?_⟩
    rcases hc with rfl | hc | ⟨_,_,_,hc⟩
    ·exact hk
    ·exact hc
    ·omega
   have hl:x.toNat<r.L.length:=by omega
   rw [if_pos c0,if_pos (by omega),List.getElem?_eq_getElem hl]
   simp only [Option.bind_some]
   split
   ·rename_i J
    rw [w1 (by omega) (by omega)]
    exact ih n (x+1) (by omega) (by omega) (by omega) (by omega) (.inr (.inl ⟨_,by rw [Int.add_sub_cancel];exact List.getElem?_eq_getElem hl,by rw [J];rfl⟩))
   ·rename_i J
    refine ⟨x,rfl,by omega,I,?_⟩
    rcases hc with rfl | hc | ⟨t,U,aa,_⟩
    ·exact hk
    ·exact hc
    ·rw [List.getElem?_eq_getElem hl] at U
     simp only [Option.some.injEq] at U
     subst U;exact absurd aa J
 unfold mq
 rw [w1 h0 (by omega)]
 obtain ⟨j,U,aa,ag⟩:=ab (r.End - (a+1)).toNat F (a+1) (Int.le_refl _) (by omega) (Nat.le_refl _) (by omega)
 rw [U]
 simp only [Option.bind_some]
 by_cases c1:r.End≤j
 ·rw [if_pos c1];exact ⟨_,rfl,by omega,by omega,hk⟩
 have hl:j.toNat<r.L.length:=by omega
 rw [if_neg c1,if_pos (by omega),List.getElem?_eq_getElem hl]
 simp only [Option.bind_some]
 split
 case isFalse=>exact ⟨_,rfl,by omega,by omega,hk⟩
 rw [w1 (by omega) (by omega)]
 by_cases c2:r.End≤j+1
 ·rw [if_pos c2];exact ⟨_,rfl,by omega,by omega,hk⟩
 have hl:(j+1).toNat<r.L.length:=by omega
 rw [if_neg c2,if_pos (by omega),List.getElem?_eq_getElem hl]
 simp only [Option.bind_some]
 split
 case isFalse=>exact ⟨_,rfl,by omega,by omega,hk⟩
 rename_i J
 obtain ⟨k,ae,af⟩:=ad (r.End - (j+1)).toNat F (j+1) (by omega) (by omega) (Nat.le_refl _) (by omega) (.inr (.inr ⟨_,List.getElem?_eq_getElem hl,J,by omega⟩))
 rw [ae]
 exact ⟨k,rfl,af⟩
theorem balanced_ex (F:Nat) (hF:2500≤F) (r:Rr) (h:RI r) (a:Int) (h0:0≤a) (hk:kd r a=8∨kd r a=9):∃ j,correctorref11_Reader_balanced F r a=some j∧a<j∧j≤r.End∧Ct r.L j:=by
 have hn:=h.n
 have he:=h.e1
 have eI:=fq (r:=r) (i:=a) (by omega)
 have key:∀ (d n:Nat) (x o:Int),a≤x→x≤r.End→(r.End - x).toNat≤d→d<n→o≤x - a→0≤o→(a<x→1≤o)→∃ s,jt F r a n o x=some s∧(match s with | .inl _=>True | .inr j=>a<j∧j≤r.End∧Ct r.L j):=by
  intro d
  induction d with
  | zero=>
   intro n x o hx I hd hn ad ae U
   obtain ⟨n,rfl⟩:∃ m,n=m+1:=⟨n - 1,by omega⟩
   rw [jt,eX F r h _ (by omega),h8 (by omega)]
   exact ⟨_,rfl,trivial⟩
  | succ d ih=>
   intro n x o hx I hd hn ad ae U
   obtain ⟨n,rfl⟩:∃ m,n=m+1:=⟨n - 1,by omega⟩
   have ag:=eX F r h x (by omega)
   rw [jt]
   simp only [ag,Option.bind_some,nX,oG,decide_eq_true_eq]
   by_cases c:0<kd r x
   case neg=>rw [if_neg c];exact ⟨_,rfl,trivial⟩
   have iB:=fq (r:=r) (i:=x) (by omega)
   have hw:af (x+1)=x+1:=w1 (by omega) (by omega)
   have ah:af (o+1)=o+1:=a4 (by omega) (by omega)
   rw [if_pos c,hw,ah]
   have fin:∀ o':Int,0≤o'→o'≤o+1→(o'=0→Ct r.L (x+1))→∃ s,(if o'=(0:Int) then (some (.inr (x+1)):Option (Sum Unit Int)) else jt F r a n o' (x+1))=some s∧(match s with | .inl _=>True | .inr j=>a<j∧j≤r.End∧Ct r.L j):=by
    intro o' aa ai ab
    by_cases c2:o'=0
    ·rw [if_pos c2];exact ⟨_,rfl,by omega,by omega,ab c2⟩
    ·rw [if_neg c2];exact ih n (x+1) o' (by omega) (by omega) (by omega) (by omega) (by omega) (by omega) (by omega)
   by_cases c1:kd r x=8∨kd r x=9
   ·rw [if_pos c1]
    simp only [Option.bind_some]
    rw [if_neg (by omega)]
    simp only [Option.bind_some]
    exact fin _ (by omega) (by omega) (fun q=>by omega)
   rw [if_neg c1]
   simp only [Option.bind_some]
   have aj:af (o - 1)=o - 1:=a4 (by omega) (by omega)
   have zz:a<x:=by
    rcases Int.lt_or_eq_of_le hx with q | q
    ·exact q
    ·subst q;exact absurd hk c1
   have ar:=U zz
   by_cases c2:kd r x=10∨kd r x=11
   ·rw [if_pos c2,aj]
    simp only [Option.bind_some]
    exact fin _ (by omega) (by omega) (fun _=>by rcases c2 with z | z<;>exact Ct.of h (by omega) z (by decide) rfl)
   ·rw [if_neg c2]
    simp only [Option.bind_some]
    exact fin _ (by omega) (by omega) (fun q=>by omega)
 have al:∀ (d n:Nat) (x:Int),a≤x→x≤r.End→(r.End - x).toNat≤d→d<n→∃ j,j4 F r a n x=some j∧a<j∧j≤r.End:=by
  intro d
  induction d with
  | zero=>
   intro n x hx I hd hn
   obtain ⟨n,rfl⟩:∃ m,n=m+1:=⟨n - 1,by omega⟩
   rw [j4,eX F r h _ (by omega),h8 (by omega)]
   exact ⟨_,rfl,by omega,by omega⟩
  | succ d ih=>
   intro n x hx I hd hn
   obtain ⟨n,rfl⟩:∃ m,n=m+1:=⟨n - 1,by omega⟩
   rw [j4,eX F r h _ (by omega)]
   simp only [Option.bind_some]
   by_cases c:0<kd r x
   ·have iB:=fq (r:=r) (i:=x) (by omega)
    rw [if_pos c,w1 (by omega) (by omega)]
    exact ih n (x+1) (by omega) (by omega) (by omega) (by omega)
   ·rw [if_neg c]
    refine ⟨_,rfl,?_,by omega⟩
    rcases Int.lt_or_eq_of_le hx with q | q
    ·exact q
    ·subst q;omega
 unfold correctorref11_Reader_balanced
 obtain ⟨s,an,ao⟩:=key (r.End - a).toNat F a 0 (Int.le_refl _) (by omega) (Nat.le_refl _) (by omega) (by omega) (by omega) (by omega)
 rw [an]
 cases s with
 | inl u=>
  obtain ⟨j,aa,ai,ab⟩:=al (r.End - a).toNat F a (Int.le_refl _) (by omega) (Nat.le_refl _) (by omega)
  obtain ⟨k,aq,au,av,J,_⟩:=o3 F hF r hn j (a+1) (by omega) (by omega) (by omega)
  simp only [Option.bind_some,aa,w1 h0 (by omega:a≤100000),aq]
  refine ⟨k,rfl,by omega,by omega,?_⟩
  rcases J with rfl | J
  ·rcases hk with z | z<;>exact Ct.of h h0 z (by decide) rfl
  ·exact J
 | inr j=>exact ⟨j,rfl,ao⟩
theorem uN (F:Nat) (hF:2500≤F) (r:Rr) (h:RI r) (a:Int) (h0:0≤a) (h1:a≤1500):∃ j,h4 F r a=some j∧(j=0∨(a<j∧j≤r.End∧Ct r.L j)):=by
 have hn:=h.n
 have he:=h.e1
 have key:∀ (d n:Nat) (x:Int),a≤x→x≤1600→(r.End - x).toNat≤d→d<n→∃ j,jd F r a n x=some j∧a≤j∧j≤1600:=by
  intro d
  induction d with
  | zero=>
   intro n x hx J hd hn
   obtain ⟨n,rfl⟩:∃ m,n=m+1:=⟨n - 1,by omega⟩
   have I:=eX F r h x (by omega)
   rw [h8 (by omega)] at I
   rw [jd]
   simp only [I,Option.bind_some]
   exact ⟨x,rfl,hx,J⟩
  | succ d ih=>
   intro n x hx J hd hn
   obtain ⟨n,rfl⟩:∃ m,n=m+1:=⟨n - 1,by omega⟩
   have I:=eX F r h x (by omega)
   rw [jd]
   simp only [I,Option.bind_some]
   have go:kd r x≠0→∃ j,((h3 F r (af (x+1))).bind fun ab=>jd F r a n ab)=some j∧a≤j∧j≤1600:=by
    intro c
    have eI:=fq c
    obtain ⟨j,U,aa,ad,_⟩:=mK F hF r h (x+1) (by omega) (by omega)
    rw [w1 (by omega) (by omega),U]
    simp only [Option.bind_some]
    exact ih n j (by omega) (by omega) (by omega) (by omega)
   by_cases c:kd r x=12
   ·rw [if_pos c];simp only [Option.bind_some];exact go (by omega)
   rw [if_neg c]
   by_cases c:kd r x=14
   ·rw [if_pos c];simp only [Option.bind_some];exact go (by omega)
   rw [if_neg c]
   exact ⟨x,rfl,hx,J⟩
 unfold h4
 obtain ⟨j,U,aa,ad⟩:=key (r.End - a).toNat F a (Int.le_refl _) (by omega) (Nat.le_refl _) (by omega)
 rw [U]
 simp only [Option.bind_some,eX F r h j (by omega)]
 obtain ⟨b,hb⟩:=oI F (kd r j)
 rw [hb]
 simp only [Option.bind_some]
 have fin:∀ z:Int,a≤z→z≤2000→∃ y,((ee F r z).bind fun ae=>if ae=(6:Int) then (some (af (z+1)):Option Int) else some 0)=some y∧(y=0∨(a<y∧y≤r.End∧Ct r.L y)):=by
  intro z hz ah
  rw [eX F r h z (by omega)]
  simp only [Option.bind_some]
  by_cases c:kd r z=6
  ·have eI:=fq (r:=r) (i:=z) (by omega)
   rw [if_pos c,w1 (by omega) (by omega)];exact ⟨_,rfl, .inr ⟨by omega,by omega,Ct.of h (by omega) c (by decide) rfl⟩⟩
  ·rw [if_neg c];exact ⟨_,rfl, .inl rfl⟩
 cases b with
 | true=>
  have eI:=fq (B3 hb)
  obtain ⟨z,ag,ai,aj,_⟩:=mK F hF r h (j+1) (by omega) (by omega)
  rw [if_pos rfl,w1 (by omega) (by omega),ag]
  simp only [Option.bind_some]
  exact fin z (by omega) (by omega)
 | false=>
  simp only [Bool.false_eq_true,if_false,Option.bind_some]
  exact fin j aa (by omega)
theorem Dm (F:Nat) (hF:2500≤F) (r:Rr) (h:RI r) (a:Int) (h0:0≤a) (hk:0<kd r a) (fW:cn (kd r a)=true) (aq:kd r a≠7) (ar:¬ (kd r a=10∨kd r a=11)):∃ j,kK F r a=some j∧a<j∧j≤r.End∧Ct r.L j:=by
 have hn:=h.n
 have he:=h.e1
 have eI:=fq (r:=r) (i:=a) (by omega)
 have key:∀ (d n:Nat) (x o:Int),a≤x→x≤r.End→(r.End - x).toNat≤d→d<n→o≤x - a→ -(x - a)≤o→(x=a→o=0)→∃ j,jz F r a n o x=some j∧a<j∧j≤r.End:=by
  intro d
  induction d with
  | zero=>
   intro n x o hx I hd hn ad ae ag
   obtain ⟨n,rfl⟩:∃ m,n=m+1:=⟨n - 1,by omega⟩
   rw [jz,eX F r h _ (by omega),h8 (by omega)]
   exact ⟨x,rfl,by omega,I⟩
  | succ d ih=>
   intro n x o hx I hd hn ad ae ag
   obtain ⟨n,rfl⟩:∃ m,n=m+1:=⟨n - 1,by omega⟩
   have ah:=eX F r h x (by omega)
   rw [jz]
   simp only [ah,Option.bind_some,nX,oG,decide_eq_true_eq]
   by_cases c:0<kd r x
   case neg=>
    rw [if_neg c]
    refine ⟨x,rfl,?_,I⟩
    rcases Int.lt_or_eq_of_le hx with q | q
    ·exact q
    ·subst q;omega
   have iB:=fq (r:=r) (i:=x) (by omega)
   have hw:af (x+1)=x+1:=w1 (by omega) (by omega)
   have ai:af (o+1)=o+1:=a4 (by omega) (by omega)
   rw [if_pos c,hw,ai]
   have go:∃ j,((if kd r x=8∨kd r x=9 then (some (o+1):Option Int) else some o).bind fun U=>
       (if kd r x=10∨kd r x=11 then (some (af (U - 1)):Option Int) else some U).bind fun aj=>jz F r a n aj (x+1))=some j∧a<j∧j≤r.End:=by
    by_cases aa:kd r x=8∨kd r x=9
    ·rw [if_pos aa]
     simp only [Option.bind_some]
     rw [if_neg (by omega)]
     simp only [Option.bind_some]
     exact ih n (x+1) (o+1) (by omega) (by omega) (by omega) (by omega) (by omega) (by omega) (by omega)
    ·rw [if_neg aa]
     simp only [Option.bind_some]
     have al:af (o - 1)=o - 1:=a4 (by omega) (by omega)
     by_cases ab:kd r x=10∨kd r x=11
     ·rw [if_pos ab,al]
      simp only [Option.bind_some]
      exact ih n (x+1) (o - 1) (by omega) (by omega) (by omega) (by omega) (by omega) (by omega) (by omega)
     ·rw [if_neg ab]
      simp only [Option.bind_some]
      exact ih n (x+1) o (by omega) (by omega) (by omega) (by omega) (by omega) (by omega) (by omega)
   have out:(kd r x=7∨kd r x=10∨kd r x=11)→a<x:=fun q=>by
    rcases Int.lt_or_eq_of_le hx with z | z
    ·exact z
    ·subst z;omega
   by_cases c0:o=0
   ·rw [if_pos c0]
    by_cases c1:kd r x=7
    ·rw [if_pos c1]
     exact ⟨x,rfl,out (.inl c1),I⟩
    rw [if_neg c1]
    by_cases c2:kd r x=10∨kd r x=11
    ·rw [if_pos c2]
     exact ⟨x,rfl,out (.inr c2),I⟩
    rw [if_neg c2]
    exact go
   ·rw [if_neg c0]
    exact go
 unfold kK
 obtain ⟨j,an,au,av⟩:=key (r.End - a).toNat F a 0 (Int.le_refl _) (by omega) (Nat.le_refl _) (by omega) (by omega) (by omega) (fun _=>rfl)
 rw [an]
 obtain ⟨k,ao,aw,ax,J,_⟩:=o3 F hF r hn j (a+1) (by omega) (by omega) (by omega)
 simp only [Option.bind_some,w1 h0 (by omega:a≤100000),ao]
 refine ⟨k,rfl,by omega,by omega,?_⟩
 rcases J with rfl | J
 ·exact Ct.of h h0 rfl (by omega) fW
 ·exact J
end Go.Proofs.Ytcilejikekccmaa.M
namespace Go.Proofs.Ytcilejikekccmaa.M
open Go Am Sy
structure Rd (n:Int) (r:Rr) (p:Int):Prop where
 ri:RI r
 nl:n=r.L.length
 g:G r.T.al n
 b:Below r.T.al p
structure To (r r':Rr) (up:Nat) (s m:Int):Prop where
 l:r'.L=r.L
 e:r'.End=r.End
 sz:(r'.T.al.length:Int)≤r.T.al.length+s
 ge:r.T.al.length≤r'.T.al.length
 dl:(r'.D.length:Int)≤r.D.length+m
 sp:∀ v,v≤up→Sp r.T.al v→Sp r'.T.al v
theorem To.refl (r:Rr) (up:Nat):To r r up 0 0:=⟨rfl,rfl,by omega,Nat.le_refl _,by omega,fun v _ h=>h⟩
theorem To.trans {a b c:Rr} {up j:Nat} {s m s2 I:Int} (h:To a b up s m) (k:To b c j s2 I) (hu:up≤j):To a c up (s+s2) (m+I):=
 ⟨k.l.trans h.l,k.e.trans h.e,by have:=h.sz;have:=k.sz;omega,Nat.le_trans h.ge k.ge,by have:=h.dl;have:=k.dl;omega,fun v hv q=>k.sp v (by omega) (h.sp v hv q)⟩
theorem To.le {a b:Rr} {up:Nat} {s m s2 j:Int} (h:To a b up s m) (hs:s≤s2) (hm:m≤j):To a b up s2 j:={h with sz:=by have:=h.sz;omega,dl:=by have:=h.dl;omega}
theorem Below.mono {N:List aq} {p q:Int} (h:Below N p) (pZ:p≤q):Below N q:=fun i x hx hi=>Int.le_trans (h i x hx hi) pZ
theorem RI.of {r r':Rr} (h:RI r) (hl:r'.L=r.L) (he:r'.End=r.End):RI r':=⟨by rw [he];exact h.e0,by rw [he,hl];exact h.e1,by rw [hl];exact h.n,by rw [hl];exact h.kp⟩
theorem Rd.mono {n:Int} {r:Rr} {p q:Int} (h:Rd n r p) (pZ:p≤q):Rd n r q:=⟨h.ri,h.nl,h.g,h.b.mono pZ⟩
theorem Sp.lt {N:List aq} {n:Int} (h:G N n) {v:Nat} (hs:Sp N v):v<N.length:=by
 cases hs with
 | root=>exact h.pos
 | gg h1 hx hk=>
  obtain ⟨_,_,q,_⟩:=(h.c5 _ _ hx).1.mem _ (List.mem_of_getLast? hk)
  omega
theorem uK (F:Nat) (hF:2500≤F) (r:Rr) {n:Int} (h:G r.T.al n) (hl:r.T.al.length≤2400) {up:Nat} (hu:up<r.T.al.length) (hs:Sp r.T.al up) {kind aG to:Int} (hk:1≤kind∧kind≤11) (fb:aG≤to) (ht:to≤n) (he:∀ e,endOf r.T.al up=some e→e≤aG):
  ∃ N',eg F r (up:Int) kind aG to=some ((r.T.al.length:Int),(⟨r.L,⟨N'⟩,r.D,r.End⟩:Rr))∧uZ r.T.al N' n up kind aG to:=by
 refine ⟨nI r.T.al up kind aG to,?_,added h hu hs fb ht he⟩
 unfold eg
 rw [yk F r.T up kind aG to (h.small (by omega)) (by omega) (by omega) h.tY hu hk fb (fun x hx=>by
  obtain ⟨y,j,I⟩:=h.uI
  rw [hx] at j;simp only [Option.some.injEq] at j;subst j;omega) (fun x hx c hc=>h.last up x hx c hc) he]
 rfl
theorem iW (F:Nat) (hF:2500≤F) {n:Int} {r:Rr} {p:Int} (h:Rd n r p) (hl:r.T.al.length≤2400) {up:Nat} (hs:Sp r.T.al up) {kind aG to:Int} (hk:1≤kind∧kind≤11) (fb:aG≤to) (ht:to≤n) (kO:p≤to) (he:∀ e,endOf r.T.al up=some e→e≤aG):
  ∃ r',eg F r (up:Int) kind aG to=some ((r.T.al.length:Int),r')∧Rd n r' to∧To r r' up 1 0∧Sp r'.T.al r.T.al.length∧r'.D=r.D∧r'.T.al.length=r.T.al.length+1∧(∃ z,r'.T.al[r.T.al.length]?=some z∧z.ah=aG∧z.Kids=[]):=by
 have hn:=h.nl
 have J:=h.ri.e1
 obtain ⟨N',I,j⟩:=uK F hF r h.g hl (hs.lt h.g) hs hk fb ht he
 refine ⟨_,I,⟨h.ri.of rfl rfl,hn,j.g,j.vk _ (h.b.mono kO) (Int.le_refl _)⟩,⟨rfl,rfl,?_,?_,?_,j.cH⟩,j.new,rfl,j.len,j.fresh⟩
 ·show (N'.length:Int)≤_;rw [j.len];omega
 ·show _≤N'.length;rw [j.len];omega
 ·show (r.D.length:Int)≤_;omega
theorem Rd.endOf {n:Int} {r:Rr} {p:Int} (h:Rd n r p) (hp:0≤p) (up:Nat) {q:Int} (hq:p≤q):∀ e,endOf r.T.al up=some e→e≤q:=fun e he=>Int.le_trans (vq h.g h.b hp up e he) hq
theorem me (F:Nat) (hF:2500≤F) {n:Int} {r:Rr} {p:Int} (h:Rd n r p) (hl:r.T.al.length≤2400) (hd:r.D.length≤100000) {up:Nat} (hs:Sp r.T.al up) {code aG to:Int} (h0:0≤aG) (fb:aG<to) (ht:to≤n) (kO:p≤to) (he:∀ e,endOf r.T.al up=some e→e≤aG):
  ∃ r',dM F r (up:Int) aG to code=some ((r.T.al.length:Int),r')∧Rd n r' to∧To r r' up 1 1∧Sp r'.T.al r.T.al.length:=by
 have hn:=h.nl
 have de:=h.ri.n
 obtain ⟨r1,a1,I,j,aa,J,ab,_⟩:=iW F hF h hl hs (kind:=11) (by omega) (Int.le_of_lt fb) ht kO he
 have U:=j.l
 unfold dM
 have ha:aG.toNat<r.L.length:=by omega
 have hb:(to - 1).toNat<r.L.length:=by omega
 rw [a1]
 simp only [Option.bind_some,U]
 rw [if_pos (by omega),List.getElem?_eq_getElem ha]
 simp only [Option.bind_some]
 rw [ju (by omega) (by omega),if_pos (by omega),List.getElem?_eq_getElem hb]
 simp only [Option.bind_some]
 rw [if_pos (by rw [List.length_singleton,J];omega)]
 refine ⟨_,rfl,⟨I.ri.of U.symm rfl,by show n=(r.L.length:Int);exact hn,I.g,I.b⟩,⟨rfl,j.e,j.sz,j.ge,?_,j.sp⟩,aa⟩
 show ((r1.D++_).length:Int)≤_
 rw [List.length_append,List.length_singleton,J];omega
theorem oU (F:Nat) (hF:2500≤F) {n:Int} {r:Rr} {p:Int} (h:Rd n r p) (hl:r.T.al.length≤2400) {c:Nat} (hs:Sp r.T.al c) {to:Int} (ht:to≤n) (kO:p≤to):
  ∃ t',h6 F r.T (c:Int) to=some t'∧Rd n (⟨r.L,t',r.D,r.End⟩:Rr) to∧∀ up,To r (⟨r.L,t',r.D,r.End⟩:Rr) up 0 0:=by
 have hn:=h.nl
 have hc:=hs.lt h.g
 refine ⟨_,Ch F r.T c to (h.g.small (by omega)) (by omega) h.g.tY hc (fun x hx=>by
  obtain ⟨y,j,I⟩:=h.g.uI
  rw [hx] at j;simp only [Option.some.injEq] at j;subst j;omega),⟨h.ri.of rfl rfl,hn,?_,tz _ _ _ _ _ (h.b.mono kO) (Int.le_refl _)⟩,fun up=>⟨rfl,rfl,?_,?_,?_,fun v _ q=>q.kids (sM _ _ _ _)⟩⟩
 ·exact (h.g.gx (c:Int) to).grow ht _ _ _ (by omega) (by omega) (fun _=>by rw [Int.toNat_natCast];exact hs)
 ·show ((growL r.T.al.length r.T.al (c:Int) to).length:Int)≤_;rw [pk];omega
 ·show _≤(growL r.T.al.length r.T.al (c:Int) to).length;rw [pk];exact Nat.le_refl _
 ·show (r.D.length:Int)≤_;omega
theorem vj (F:Nat) {n:Int} {r:Rr} {p:Int} (h:Rd n r p) (hl:r.T.al.length≤2500) {i:Nat} (hi:i<r.T.al.length):
  ∃ r',k6 F r (i:Int)=some r'∧Rd n r' p∧(∀ up,To r r' up 0 0)∧r'.T.al.length=r.T.al.length∧(∀ j,endOf r'.T.al j=endOf r.T.al j):=by
 have hx:r.T.al[i]?=some r.T.al[i]:=List.getElem?_eq_getElem hi
 have hk:=o7 (y:=(⟨r.T.al[i].Kind,r.T.al[i].ah,r.T.al[i].To,r.T.al[i].Up,r.T.al[i].Kids,true⟩:aq)) hx rfl
 have gF:∀ (j:Nat) y',(r.T.al.set i (⟨r.T.al[i].Kind,r.T.al[i].ah,r.T.al[i].To,r.T.al[i].Up,r.T.al[i].Kids,true⟩:aq))[j]?=some y'→∃ y,r.T.al[j]?=some y∧y'.Kind=y.Kind∧y'.ah=y.ah∧y'.To=y.To∧y'.Up=y.Up∧y'.Kids=y.Kids:=by
  intro j y' hy
  by_cases e:j=i
  ·subst e
   rw [List.getElem?_set_self hi] at hy;simp only [Option.some.injEq] at hy;subst hy
   exact ⟨_,hx,rfl,rfl,rfl,rfl,rfl⟩
  ·rw [List.getElem?_set_ne (Ne.symm e)] at hy;exact ⟨y',hy,rfl,rfl,rfl,rfl,rfl⟩
 have sy:∀ (j:Nat),(r.T.al.set i (⟨r.T.al[i].Kind,r.T.al[i].ah,r.T.al[i].To,r.T.al[i].Up,r.T.al[i].Kids,true⟩:aq))[j]?.map (fun x=>(x.ah,x.To,x.Kids))=r.T.al[j]?.map (fun x=>(x.ah,x.To,x.Kids)):=by
  intro j
  by_cases e:j=i
  ·subst e;rw [List.getElem?_set_self hi,hx];rfl
  ·rw [List.getElem?_set_ne (Ne.symm e)]
 have kF:∀ l:List aq,([]:List aq)++l=l:=fun l=>rfl
 unfold k6
 simp only [kF]
 rw [if_pos (by rw [List.length_nil];omega),if_pos (by omega),Int.toNat_natCast,hx]
 simp only [Option.bind_some]
 refine ⟨_,rfl,⟨h.ri.of rfl rfl,h.nl,h.g.same (List.length_set) gF,fun j y' hy hj=>?_⟩,fun up=>⟨rfl,rfl,?_,?_,?_,fun v _ q=>q.kids hk⟩,List.length_set,fun j=>?_⟩
 ·obtain ⟨y,I,_,_,J,_⟩:=gF j y' hy
  rw [J];exact h.b j y I hj
 ·show ((r.T.al.set i _).length:Int)≤_;rw [List.length_set];omega
 ·show _≤(r.T.al.set i _).length;rw [List.length_set];exact Nat.le_refl _
 ·show (r.D.length:Int)≤_;omega
 ·show M.endOf (r.T.al.set i _) j=_
  unfold M.endOf
  have:=sy j
  revert this
  cases r.T.al[j]? with
  | none=>
   intro this
   simp only [Option.map_none,Option.map_eq_none_iff] at this
   rw [this];rfl
  | some x=>
   intro this
   obtain ⟨y,hy,e⟩:=Option.map_eq_some_iff.1 this
   simp only [Prod.mk.injEq] at e
   obtain ⟨e1,aa,U⟩:=e
   rw [hy]
   simp only [Option.map_some,e1,U]
   congr 1
   cases x.Kids.getLast? with
   | none=>rfl
   | some k=>
    simp only
    split
    ·have:=sy k.toNat
     revert this
     cases r.T.al[k.toNat]? with
     | none=>intro this;simp only [Option.map_none,Option.map_eq_none_iff] at this;rw [this]
     | some z=>
      intro this
      obtain ⟨w,hw,e⟩:=Option.map_eq_some_iff.1 this
      simp only [Prod.mk.injEq] at e
      rw [hw];simp only [e.2.1]
    ·rfl
theorem sU (F:Nat) (hF:2500≤F) {n:Int} {r:Rr} {p:Int} (h:Rd n r p) (hl:r.T.al.length≤2300) {up:Nat} (hs:Sp r.T.al up) {aG to:Int} (h0:0≤aG) (fb:aG<to) (ht:to≤n) (kO:p≤to) (he:∀ e,endOf r.T.al up=some e→e≤aG):
  ∃ r',lW F r (up:Int) aG to=some ((r.T.al.length:Int),r')∧Rd n r' to∧To r r' up 2 0∧Sp r'.T.al r.T.al.length∧(to - aG<2→r'.T.al.length≤r.T.al.length+1):=by
 have hn:=h.nl
 have de:=h.ri.n
 have pr:=hs.lt h.g
 obtain ⟨r1,a1,J,ad,ae,ay,ah,z,hz,nV,m0⟩:=iW F hF h (by omega) hs (kind:=6) (by omega) (Int.le_of_lt fb) ht kO he
 unfold lW
 rw [a1]
 simp only [Option.bind_some]
 have hw:af (to - aG)=to - aG:=a4 (by omega) (by omega)
 rw [hw]
 by_cases c:to - aG<2
 ·rw [if_pos c]
  exact ⟨r1,rfl,J,ad.le (by omega) (by omega),ae,fun _=>by omega⟩
 rw [if_neg c]
 have aa:=ad.l
 have key:∀ (d m:Nat) (k i:Int),aG≤i→i≤to→(to - i).toNat≤d→d<m→(1≤k∧k≤11)→∃ k' i',correctorref11_Reader_Pair_l0 F r (up:Int) aG to m r1 (r.T.al.length:Int) k i=some (r1,(r.T.al.length:Int),k')∧(1≤k'∧k'≤11)∧i'=i:=by
  intro d
  induction d with
  | zero=>
   intro m k i h1 h2 ai aj ab
   obtain ⟨m,rfl⟩:∃ q,m=q+1:=⟨m - 1,by omega⟩
   rw [correctorref11_Reader_Pair_l0,if_neg (by omega)]
   exact ⟨k,i,rfl,ab,rfl⟩
  | succ d ih=>
   intro m k i h1 h2 ai aj ab
   obtain ⟨m,rfl⟩:∃ q,m=q+1:=⟨m - 1,by omega⟩
   rw [correctorref11_Reader_Pair_l0]
   by_cases c0:i<to
   case neg=>rw [if_neg c0];exact ⟨k,i,rfl,ab,rfl⟩
   have di:i.toNat<r1.L.length:=by rw [aa];omega
   rw [if_pos c0,if_pos (by rw [aa];omega),List.getElem?_eq_getElem di,w1 (by omega) (by omega)]
   simp only [Option.bind_some]
   split
   ·simp only [Option.bind_some]
    obtain ⟨k',i',U,I,_⟩:=ih m 8 (i+1) (by omega) (by omega) (by omega) (by omega) (by omega)
    exact ⟨k',i,U,I,rfl⟩
   ·simp only [Option.bind_some]
    obtain ⟨k',i',U,I,_⟩:=ih m k (i+1) (by omega) (by omega) (by omega) (by omega) ab
    exact ⟨k',i,U,I,rfl⟩
 obtain ⟨k',_,an,ao,_⟩:=key (to - aG).toNat F 7 aG (Int.le_refl _) (by omega) (Nat.le_refl _) (by omega) (by omega)
 rw [an]
 simp only [Option.bind_some]
 obtain ⟨j,aq,az,aA,_⟩:=o3 F hF r1 J.ri.n (to - 1) (aG+1) (by omega) (by omega) (by rw [aa];omega)
 rw [ju (by omega) (by omega),w1 (by omega) (by omega),aq]
 simp only [Option.bind_some]
 obtain ⟨N',U,I⟩:=uK F hF r1 J.g (by omega) (up:=r.T.al.length) (by omega) ae (kind:=k') (aG:=aG) (to:=j) ao (by omega) (by omega) (fun e he=>by rw [rr hz m0 e he,nV];exact Int.le_refl _)
 rw [U]
 simp only [Option.bind_some]
 have jX:Rd n (⟨r1.L,⟨N'⟩,r1.D,r1.End⟩:Rr) to:=⟨J.ri.of rfl rfl,by show n=(r1.L.length:Int);rw [aa];exact hn,I.g,I.vk _ J.b (by omega)⟩
 have hlen:N'.length=r.T.al.length+2:=by rw [I.len,ah]
 obtain ⟨ar,au,av,aw,aB,_⟩:=vj F jX (i:=r.T.al.length) (by show N'.length≤2500;omega) (by show r.T.al.length<N'.length;omega)
 rw [au]
 have ax:To r1 (⟨r1.L,⟨N'⟩,r1.D,r1.End⟩:Rr) r.T.al.length 1 0:=⟨rfl,rfl,by show (N'.length:Int)≤_;rw [I.len];omega,by show _≤N'.length;rw [I.len];omega,by show (r1.D.length:Int)≤_;omega,I.cH⟩
 have ag:=ax.trans (aw r.T.al.length) (Nat.le_refl _)
 exact ⟨ar,rfl,av,(ad.trans ag (by omega)).le (by omega) (by omega),ag.sp _ (Nat.le_refl _) ae,fun q=>absurd q c⟩
end Go.Proofs.Ytcilejikekccmaa.M
namespace Go.Proofs.Ytcilejikekccmaa.M
open Go Am Sy
abbrev Rec:=Rr→Int→Int→Int→Option (Int×Int×Rr)
def bg (k:Int):Prop:=k=12∨k=14∨k=15∨k=16∨k=17∨k=13∨k=8∨k=9∨k=18
def Vl (n:Int) (r:Rr) (up:Nat) (at_:Int) (node next:Int) (r':Rr):Prop:=
  (node= -1∧next=at_∧r'=r∧¬ bg (kd r at_))∨(0≤node∧at_<next∧next≤r.End∧Rd n r' next∧To r r' up (2 * (next - at_) - 1) (4 * (next - at_))∧Ct r.L next)
def VS (rec:Rec) (depth:Int):Prop:=
  ∀ (n:Int) (r:Rr) (up:Nat) (at_:Int),Rd n r (at_+1)→(∀ e,endOf r.T.al up=some e→e≤at_)→Sp r.T.al up→0≤at_→at_≤r.End→(r.T.al.length:Int)≤4 * at_+5→(r.D.length:Int)≤4 * at_+5→
    ∃ node next r',rec r (up:Int) at_ depth=some (node,next,r')∧Vl n r up at_ node next r'
theorem xL (F:Nat) (hF:2500≤F) (rec:Rec) (depth:Int) (uA: -1000≤depth∧depth≤1000) (iI:VS rec (depth - 1)) {n:Int} {r:Rr} {i:Int} (h:Rd n r i) (h0:0≤i) (h2:i<r.End) {c:Nat} (hs:Sp r.T.al c) (hN:(r.T.al.length:Int)≤4 * i+4) (hd:(r.D.length:Int)≤4 * i+4) {q:Int} (hq:h4 F r i=some q) (hb:0<q∨bg (kd r i)):
    ∃ next r',gV F rec r (c:Int) i depth=some (next,r')∧i<next∧next≤r.End∧Rd n r' next∧To r r' c (2 * (next - i)) (4 * (next - i))∧Ct r.L next:=by
  have ax:=h.ri.e1
  have de:=h.ri.n
  have hn:=h.nl
  have pr:=hs.lt h.g
  have pJ:af (depth - 1)=depth - 1:=a4 (by omega) (by omega)
  have kf:=h.endOf h0 c (Int.le_refl i)
  obtain ⟨q',ae,au⟩:=uN F hF r h.ri i h0 (by omega)
  rw [hq] at ae;simp only [Option.some.injEq] at ae;subst ae
  unfold gV
  rw [hq]
  simp only [Option.bind_some]
  by_cases c0:0<q
  · rw [if_pos c0]
    have ek:i<q∧q≤r.End:=by omega
    obtain ⟨r1,a1,I,j,ag,ao⟩:=sU F hF h (by omega) hs h0 ek.1 (by omega) (by omega) kf
    have av:=j.e
    have b7:=j.sz
    have fx:=j.dl
    obtain ⟨x,ah,ai,aj,_⟩:=mK F hF r1 I.ri q (by omega) (by omega)
    rw [a1]
    simp only [Option.bind_some,ah,eX F r1 I.ri x (by omega),oG,decide_eq_true_eq]
    have uR:To r r1 c (2 * (q - i)) (4 * (q - i)):=by
      refine ⟨j.l,j.e,?_,j.ge,by omega,j.sp⟩
      by_cases z:q - i<2
      · have:=ao z;omega
      · omega
    have stay:∃ next r',(some (q,r1):Option (Int×Rr))=some (next,r')∧i<next∧next≤r.End∧Rd n r' next∧To r r' c (2 * (next - i)) (4 * (next - i))∧Ct r.L next:=⟨q,r1,rfl,ek.1,ek.2,I,uR,by rcases au with z | z;omega;exact z.2.2⟩
    by_cases c1:kd r1 x=0
    · rw [if_pos c1];exact stay
    rw [if_neg c1]
    by_cases c2:kd r1 x=7
    · rw [if_pos c2];exact stay
    rw [if_neg c2]
    by_cases aq:kd r1 x=10∨kd r1 x=11
    · rw [if_pos aq];exact stay
    rw [if_neg aq,pJ]
    have iB:=fq c1
    obtain ⟨node,next,ab,d1,d2⟩:=iI n r1 r.T.al.length x (I.mono (by omega)) (fun e he=>Int.le_trans (vq I.g I.b (by omega) _ e he) ai) ag (by omega) (by omega) (by omega) (by omega)
    rw [d1]
    simp only [Option.bind_some]
    rcases d2 with ⟨rfl,rfl,rfl,_⟩ | ⟨e1,ad,ar,J,U,aa⟩
    · rw [if_pos (by omega)];exact stay
    · rw [if_neg (by omega)]
      exact ⟨next,ab,rfl,by omega,by omega,J,(uR.trans U (by omega)).le (by omega) (by omega),by rw [← j.l];exact aa⟩
  · rw [if_neg c0]
    have mc:bg (kd r i):=by rcases hb with z | z;exact absurd z c0;exact z
    have c3:(c:Int)<r.T.al.length:=by omega
    rw [if_pos ⟨by omega,c3⟩,Int.toNat_natCast,List.getElem?_eq_getElem pr]
    simp only [Option.bind_some]
    by_cases c1:r.T.al[c].Kind=10
    · rw [if_pos c1,w1 h0 (by omega)]
      obtain ⟨r1,a1,I,j,ag,ao,ay,z,hz,nV,m0⟩:=iW F hF h (by omega) hs (kind:=6) (aG:=i) (to:=i+1) (by omega) (by omega) (by omega) (by omega) kf
      have b7:=j.sz
      obtain ⟨ab,ah,ai,aj,az,aw⟩:=vj F I (i:=r.T.al.length) (by omega) (by omega)
      have t12:=j.trans (aj c) (Nat.le_refl _)
      have mV:kd ab i=kd r i:=by unfold kd;rw [t12.l,t12.e]
      have fx:=t12.dl
      have av:=t12.e
      rw [a1]
      simp only [Option.bind_some,ah,pJ]
      obtain ⟨node,next,an,d1,d2⟩:=iI n ab r.T.al.length i ai (fun e he=>by rw [aw,] at he;rw [rr hz m0 e he,nV];exact Int.le_refl _) ((aj r.T.al.length).sp _ (Nat.le_refl _) ag) h0 (by omega) (by omega) (by omega)
      rw [d1]
      simp only [Option.bind_some]
      rcases d2 with ⟨_,_,_,e1⟩ | ⟨e1,ad,ar,J,U,aa⟩
      · rw [mV] at e1;exact absurd mc e1
      · exact ⟨next,an,rfl,ad,by omega,J,(t12.trans U (by omega)).le (by omega) (by omega),by rw [← t12.l];exact aa⟩
    · rw [if_neg c1]
      simp only [Option.bind_some,pJ]
      obtain ⟨node,next,an,d1,d2⟩:=iI n r c i (h.mono (by omega)) kf hs h0 (by omega) (by omega) (by omega)
      rw [d1]
      simp only [Option.bind_some]
      rcases d2 with ⟨_,_,_,e1⟩ | ⟨e1,ad,ar,J,U,aa⟩
      · exact absurd mc e1
      · exact ⟨next,an,rfl,ad,by omega,J,U.le (by omega) (by omega),aa⟩
theorem xl {F:Nat} {k:Int} {b:Bool} (h:jb F k=some b) (hb:b=true):bg k:=by
  subst hb
  unfold jb at h
  unfold bg
  by_cases c1:k=12
  · omega
  by_cases c2:k=14
  · omega
  rw [if_neg c1,if_neg c2] at h
  unfold eZ at h
  by_cases d1:k=15
  · omega
  by_cases d2:k=16
  · omega
  by_cases d3:k=17
  · omega
  by_cases d4:k=13
  · omega
  rw [if_neg d1,if_neg d2,if_neg d3,if_neg d4] at h
  simp only [Option.bind_some,Bool.false_eq_true,if_false,nX,decide_eq_true_eq] at h
  by_cases e1:k=8∨k=9
  · omega
  rw [if_neg e1] at h
  by_cases j:k=18
  · omega
  rw [if_neg j] at h
  simp at h
theorem DQ (F:Nat) (k:Int):∃ b,jb F k=some b:=by
  unfold jb
  obtain ⟨b,hb⟩:=oI F k
  rw [hb]
  simp only [Option.bind_some,nX]
  repeat' split
  all_goals exact ⟨_,rfl⟩
theorem B8 (F:Nat) (hF:2500≤F) (rec:Rec) (depth:Int) (aC: -1000≤depth∧depth≤1000) (iI:VS rec (depth - 1)) {n:Int} (a0:Rr) (op:Int) (c:Nat) (aD:0≤op):
    ∀ (d m:Nat) (r:Rr) (next dA:Int) (hv:Bool),(dA=10∨dA=11)→(r.End - next).toNat≤d→d<m→Rd n r next→op<next→next≤r.End→Sp r.T.al c→(r.T.al.length:Int)≤4 * next+4→(r.D.length:Int)≤4 * next+3→Ct r.L next→
    ∃ q r',correctorref11_Reader_collection_l0 F rec a0 (c:Int) op depth m r hv next dA=some (q,r')∧next≤q∧q≤r.End∧Rd n r' q∧To r r' c (2 * (q - next)) (4 * (q - next)+1)∧Ct r.L q:=by
  have stop:∀ (m:Nat) (r:Rr) (next dA:Int) (hv:Bool) (j:Int),Rd n r next→op<next→next≤r.End→(r.D.length:Int)≤4 * next+3→Ct r.L next→h3 F r next=some j→kd r j=0→next≤j→
      ∃ q r',correctorref11_Reader_collection_l0 F rec a0 (c:Int) op depth (m+1) r hv next dA=some (q,r')∧next≤q∧q≤r.End∧Rd n r' q∧To r r' c (2 * (q - next)) (4 * (q - next)+1)∧Ct r.L q:=by
    intro m r next dA hv j h h1 h2 hd hc hj hk Ek
    have ax:=h.ri.e1
    have de:=h.ri.n
    have pR:op.toNat<r.L.length:=by omega
    rw [correctorref11_Reader_collection_l0,hj]
    simp only [Option.bind_some,eX F r h.ri j (by omega),hk,if_true]
    rw [if_pos (by omega),List.getElem?_eq_getElem pR]
    simp only [Option.bind_some]
    rw [if_pos (by omega)]
    rw [if_pos (by rw [List.length_singleton];omega),w1 aD (by omega)]
    obtain ⟨q,aE,aU,aW,aX,aF⟩:=o3 F hF (⟨r.L,r.T,r.D++[(⟨9,r.L[op.toNat].ah,r.L[op.toNat].To⟩:aj)],r.End⟩:Rr) de next (op+1) (by omega) (by omega) (by show next≤(r.L.length:Int);omega)
    have hq:q=next:=by
      rcases Int.lt_or_eq_of_le (show op+1≤next by omega) with z | z
      · exact aF z hc
      · omega
    subst hq
    rw [aE]
    simp only [Option.bind_some]
    refine ⟨q,_,rfl,Int.le_refl _,h2,⟨h.ri.of rfl rfl,h.nl,h.g,h.b⟩,⟨rfl,rfl,by show (r.T.al.length:Int)≤_;omega,Nat.le_refl _,?_,fun v _ z=>z⟩,hc⟩
    show ((r.D++_).length:Int)≤_
    rw [List.length_append,List.length_singleton];omega
  intro d
  induction d with
  | zero=>
    intro m r next dA hv sX hd hm h aq ar hs hN fx hc
    obtain ⟨m,rfl⟩:∃ k,m=k+1:=⟨m - 1,by omega⟩
    have ax:=h.ri.e1
    have de:=h.ri.n
    obtain ⟨i,ao,J,aH,ay⟩:=mK F hF r h.ri next (by omega) (by omega)
    exact stop m r next dA hv i h aq ar fx hc ao (h8 (by omega)) J
  | succ d ih=>
    intro m r next dA hv sX hd hm h aq ar hs hN fx hc
    obtain ⟨m,rfl⟩:∃ k,m=k+1:=⟨m - 1,by omega⟩
    have ax:=h.ri.e1
    have de:=h.ri.n
    have kM:=h.nl
    have pr:=hs.lt h.g
    obtain ⟨i,ao,J,aH,ay⟩:=mK F hF r h.ri next (by omega) (by omega)
    by_cases c0:kd r i=0
    · exact stop m r next dA hv i h aq ar fx hc ao c0 J
    have od:=fq c0
    have fW:=ay c0
    have gr:0<kd r i:=by have:=y3 h.ri i;omega
    have fg:Ct r.L (i+1):=Ct.of h.ri (by omega) rfl c0 fW
    have hi:=h.mono J
    have na:=h.endOf (by omega) c J
    have hw:af (i+1)=i+1:=w1 (by omega) (by omega)
    rw [correctorref11_Reader_collection_l0,ao]
    simp only [Option.bind_some,eX F r h.ri i (by omega),oG,decide_eq_true_eq,hw]
    rw [if_neg c0]
    have go:∀ (next':Int) (r1:Rr) (b:Bool),i<next'→next'≤r.End→Rd n r1 next'→To r r1 c (2 * (next' - i)) (4 * (next' - i))→Ct r.L next'→∃ q r',correctorref11_Reader_collection_l0 F rec a0 (c:Int) op depth m r1 b next' dA=some (q,r')∧next≤q∧q≤r.End∧Rd n r' q∧To r r' c (2 * (q - next)) (4 * (q - next)+1)∧Ct r.L q:=by
      intro next' r1 b au az av I aI
      have e1:=I.e
      have s1:=I.sz
      have s2:=I.dl
      obtain ⟨q,r',w1,w2,aY,aJ,aK,aL⟩:=ih m r1 next' dA b sX (by omega) (by omega) av (by omega) (by omega) (I.sp c (Nat.le_refl _) hs) (by omega) (by omega) (by rw [I.l];exact aI)
      exact ⟨q,r',w1,by omega,by omega,aJ,(I.trans aK (Nat.le_refl _)).le (by omega) (by omega),by rw [← I.l];exact aL⟩
    have oD:∀ (j:Int) (b:Bool),i<j→j≤r.End→Ct r.L j→∃ q r',((dM F r (c:Int) i j 8).bind fun aM=>correctorref11_Reader_collection_l0 F rec a0 (c:Int) op depth m aM.2 b j dA)=some (q,r')∧next≤q∧q≤r.End∧Rd n r' q∧To r r' c (2 * (q - next)) (4 * (q - next)+1)∧Ct r.L q:=by
      intro j b au az av
      obtain ⟨r1,U,aa,ab,_⟩:=me F hF h (by omega) (by omega) hs (code:=8) (aG:=i) (to:=j) (by omega) au (by omega) (by omega) na
      rw [U]
      simp only [Option.bind_some]
      exact go j r1 b au az aa (ab.le (by omega) (by omega)) av
    have uX:∀ q:Int,h4 F r i=some q→(0<q∨bg (kd r i))→∃ q r',((gV F rec r (c:Int) i depth).bind fun ad=>correctorref11_Reader_collection_l0 F rec a0 (c:Int) op depth m ad.2 true ad.1 dA)=some (q,r')∧next≤q∧q≤r.End∧Rd n r' q∧To r r' c (2 * (q - next)) (4 * (q - next)+1)∧Ct r.L q:=by
      intro q hq hb
      obtain ⟨nx,r1,U,aa,ab,aw,aN,aO⟩:=xL F hF rec depth aC iI hi (by omega) od hs (by omega) (by omega) hq hb
      rw [U]
      simp only [Option.bind_some]
      exact go nx r1 true aa ab aw aN aO
    have EA:∀ {α:Type} (f:cM→Option α) (P:α→Prop),(∀ t',Rd n (⟨r.L,t',r.D,r.End⟩:Rr) (i+1)→To r (⟨r.L,t',r.D,r.End⟩:Rr) c 0 0→∃ a,f t'=some a∧P a)→∃ a,((h6 F r.T (c:Int) (i+1)).bind f)=some a∧P a:=by
      intro α f P hf
      obtain ⟨t',ae,ag,ai⟩:=oU F hF h (by omega) hs (to:=i+1) (by omega) (by omega)
      rw [ae]
      exact hf t' ag (ai c)
    by_cases c1:kd r i=dA
    · rw [if_pos c1]
      obtain ⟨t',ae,ag,ai⟩:=oU F hF h (by omega) hs (to:=i+1) (by omega) (by omega)
      rw [ae]
      simp only [Option.bind_some]
      exact ⟨i+1,_,rfl,by omega,by omega,ag,(ai c).le (by omega) (by omega),fg⟩
    rw [if_neg c1]
    by_cases c2:kd r i=10∨kd r i=11
    · rw [if_pos c2]
      exact oD (i+1) hv (by omega) (by omega) fg
    rw [if_neg c2]
    obtain ⟨kq,rW,_⟩:=uN F hF r h.ri i (by omega) (by omega)
    obtain ⟨bb,kY⟩:=DQ F (kd r i)
    have tail:kd r i≠7→∃ q r',(if hv=true then
         (kK F r i).bind fun aA=>
         (dM F r (c:Int) i aA 8).bind fun aP=>
         correctorref11_Reader_collection_l0 F rec a0 (c:Int) op depth m aP.2 hv aA dA
        else
         (h4 F r i).bind fun aR=>
         if (0:Int)<aR then
          (gV F rec r (c:Int) i depth).bind fun ad=>
          correctorref11_Reader_collection_l0 F rec a0 (c:Int) op depth m ad.2 true ad.1 dA
         else
          (jb F (kd r i)).bind fun aS=>
          if aS=true then
           (gV F rec r (c:Int) i depth).bind fun aB=>
           correctorref11_Reader_collection_l0 F rec a0 (c:Int) op depth m aB.2 true aB.1 dA
          else
           (dM F r (c:Int) i (i+1) 8).bind fun aT=>
           correctorref11_Reader_collection_l0 F rec a0 (c:Int) op depth m aT.2 hv (i+1) dA)=some (q,r')∧next≤q∧q≤r.End∧Rd n r' q∧To r r' c (2 * (q - next)) (4 * (q - next)+1)∧Ct r.L q:=by
      intro an
      cases hv with
      | true=>
        simp only [if_true]
        obtain ⟨j,U,aa,ab,aw⟩:=Dm F hF r h.ri i (by omega) gr fW an c2
        rw [U]
        simp only [Option.bind_some]
        exact oD j true aa ab aw
      | false=>
        simp only [Bool.false_eq_true,if_false,rW,Option.bind_some]
        by_cases k0:0<kq
        · rw [if_pos k0];exact uX kq rW (.inl k0)
        rw [if_neg k0,kY]
        simp only [Option.bind_some]
        by_cases b0:bb=true
        · rw [if_pos b0];exact uX kq rW (.inr (xl kY b0))
        · rw [if_neg b0];exact oD (i+1) false (by omega) (by omega) fg
    by_cases an:kd r i=7
    · simp only [if_pos an]
      cases hv with
      | true=>
        simp only [if_true]
        obtain ⟨t',ae,ag,ai⟩:=oU F hF h (by omega) hs (to:=i+1) (by omega) (by omega)
        rw [ae]
        simp only [Option.bind_some]
        exact go (i+1) _ false (by omega) (by omega) ag ((ai c).le (by omega) (by omega)) fg
      | false=>
        simp only [Bool.false_eq_true,if_false]
        exact oD (i+1) false (by omega) (by omega) fg
    · simp only [if_neg an]
      exact tail an
end Go.Proofs.Ytcilejikekccmaa.M
namespace Go.Proofs.Ytcilejikekccmaa.M
open Go Am Sy
theorem CK (F:Nat) (hF:2500≤F) (rec:Rec) (depth:Int) (j: -1000≤depth∧depth≤1000) (iI:VS rec (depth - 1)) {n:Int} {r:Rr} {op:Int} (h:Rd n r (op+1)) (h0:0≤op) (h1:op<r.End) (hk:kd r op=8∨kd r op=9) {c:Nat} (hs:Sp r.T.al c) (hN:(r.T.al.length:Int)≤4 * op+8) (hd:(r.D.length:Int)≤4 * op+7):
  ∃ q r',lJ F rec r (c:Int) op depth=some (q,r')∧op<q∧q≤r.End∧Rd n r' q∧To r r' c (2 * (q - (op+1))) (4 * (q - (op+1))+1)∧Ct r.L q:=by
 have ad:=h.ri.e1
 have de:=h.ri.n
 have pR:op.toNat<r.L.length:=by omega
 have qB:Ct r.L (op+1):=by rcases hk with z | z<;>exact Ct.of h.ri h0 z (by decide) rfl
 have main:∀ dA:Int,(dA=10∨dA=11)→∃ q r',((correctorref11_Reader_collection_l0 F rec r (c:Int) op depth F r false (af (op+1)) dA).bind fun o=>match o with
   | y=>some y)=some (q,r')∧op<q∧q≤r.End∧Rd n r' q∧To r r' c (2 * (q - (op+1))) (4 * (q - (op+1))+1)∧Ct r.L q:=by
  intro dA hm
  obtain ⟨q,r',I,ae,J,U,aa,ab⟩:=B8 F hF rec depth j iI r op c h0 (r.End - (op+1)).toNat F r (op+1) dA false hm (Nat.le_refl _) (by omega) h (by omega) (by omega) hs (by omega) (by omega) qB
  rw [w1 h0 (by omega),I]
  exact ⟨q,r',rfl,by omega,J,U,aa,ab⟩
 unfold lJ
 rw [if_pos (by omega),List.getElem?_eq_getElem pR]
 simp only [Option.bind_some]
 split
 ·simp only [Option.bind_some];exact main 11 (.inr rfl)
 ·simp only [Option.bind_some];exact main 10 (.inl rfl)
theorem tL (F:Nat) (hF:2500≤F) (rec:Rec) (depth:Int) (aw: -1000≤depth∧depth≤1000) (iI:0<depth→VS rec (depth - 1)):VS (nG F rec) depth:=by
 intro n r up at_ h kf hs h0 eP hN hd
 have aR:=h.ri.e1
 have de:=h.ri.n
 have kM:=h.nl
 have pr:=hs.lt h.g
 obtain ⟨i0,ax,ay,aS,az⟩:=u5 F hF r h.ri at_ h0 (by omega)
 have key:∀ (d m:Nat) (i first last:Int),i0≤i→i≤1600→(r.End - i).toNat≤d→d<m→((first= -1∧i=i0)∨(first=i0∧i0≤last∧last<r.End∧Ct r.L (last+1)))→
   ∃ i' fe iF,correctorref11_Reader_Value_l0 F rec r (up:Int) at_ depth m i first last=some (i',fe,iF)∧i0≤i'∧i'≤1600∧((fe= -1∧i'=i0∧kd r i0≠12∧kd r i0≠14)∨(fe=i0∧i0≤iF∧iF<r.End∧Ct r.L (iF+1))):=by
  intro d
  induction d with
  | zero=>
   intro m i first last hi ae uA hm hl
   obtain ⟨m,rfl⟩:∃ k,m=k+1:=⟨m - 1,by omega⟩
   have aa:=eX F r h.ri i (by omega)
   rw [h8 (by omega)] at aa
   rw [correctorref11_Reader_Value_l0]
   simp only [aa,Option.bind_some]
   refine ⟨i,first,last,rfl,hi,ae,?_⟩
   rcases hl with ⟨U,rfl⟩ | z
   ·exact .inl ⟨U,rfl,by rw [h8 (by omega)];decide,by rw [h8 (by omega)];decide⟩
   ·exact .inr z
  | succ d ih=>
   intro m i first last hi ae uA hm hl
   obtain ⟨m,rfl⟩:∃ k,m=k+1:=⟨m - 1,by omega⟩
   have aa:=eX F r h.ri i (by omega)
   have nt:(if first<(0:Int) then (some i:Option Int) else some first)=some i0:=by
    rcases hl with ⟨rfl,rfl⟩ | ⟨rfl,_⟩
    ·rfl
    ·rw [if_neg (by omega)]
   have go:(kd r i=12∨kd r i=14)→∃ i' fe iF,(((if first<(0:Int) then (some i:Option Int) else some first).bind fun o=>match o with
     | aA=>(kD F r (af (i+1))).bind fun aB=>
     correctorref11_Reader_Value_l0 F rec r (up:Int) at_ depth m aB aA i):Option (Int×Int×Int))=some (i',fe,iF)∧i0≤i'∧i'≤1600∧((fe= -1∧i'=i0∧kd r i0≠12∧kd r i0≠14)∨(fe=i0∧i0≤iF∧iF<r.End∧Ct r.L (iF+1))):=by
    intro c
    have eI:=fq (r:=r) (i:=i) (by omega)
    obtain ⟨j,aC,aT,aU,_⟩:=u5 F hF r h.ri (i+1) (by omega) (by omega)
    rw [nt,w1 (by omega) (by omega),aC]
    simp only [Option.bind_some]
    exact ih m j i0 i (by omega) (by omega) (by omega) (by omega) (.inr ⟨rfl,hi,eI,by rcases c with c | c<;>exact Ct.of h.ri (by omega) c (by decide) rfl⟩)
   rw [correctorref11_Reader_Value_l0]
   simp only [aa,Option.bind_some]
   by_cases c:kd r i=12
   ·simp only [if_pos c,Option.bind_some];exact go (.inl c)
   rw [if_neg c]
   by_cases c':kd r i=14
   ·simp only [if_pos c',Option.bind_some];exact go (.inr c')
   simp only [if_neg c',Option.bind_some]
   refine ⟨i,first,last,rfl,hi,ae,?_⟩
   rcases hl with ⟨U,rfl⟩ | z
   ·exact .inl ⟨U,rfl,c,c'⟩
   ·exact .inr z
 obtain ⟨i,first,last,aD,aW,aX,ao⟩:=key (r.End - i0).toNat F i0 (-1) 0 (Int.le_refl _) (by omega) (Nat.le_refl _) (by omega) (.inl ⟨rfl,rfl⟩)
 have rD:(if (0:Int)≤first then (some first:Option Int) else some i)=some i0:=by
  rcases ao with ⟨rfl,rfl,_⟩ | ⟨rfl,_⟩
  ·rfl
  ·rw [if_pos (by omega)]
 unfold nG
 rw [ax]
 simp only [Option.bind_some,aD,rD,eX F r h.ri i (by omega),nX,decide_eq_true_eq]
 have na:∀ e,endOf r.T.al up=some e→e≤i0:=fun e he=>Int.le_trans (kf e he) ay
 have put:∀ (kind to:Int),(1≤kind∧kind≤11)→i0<to→to≤r.End→Ct r.L to→∃ node next r',((eg F r (up:Int) kind i0 to).bind fun aq=>some (aq.1,to,aq.2))=some (node,next,r')∧Vl n r up at_ node next r':=by
  intro kind to U aE ag ab
  obtain ⟨r1,a1,ah,I,_⟩:=iW F hF h (by omega) hs (kind:=kind) (aG:=i0) (to:=to) U (by omega) (by omega) (by omega) na
  rw [a1]
  exact ⟨_,to,r1,rfl, .inr ⟨by omega,by omega,ag,ah,I.le (by omega) (by omega),ab⟩⟩
 have eI:kd r i≠0→af (i+1)=i+1∧i+1≤r.End∧i0<i+1:=fun q=>by
  have:=fq q
  exact ⟨w1 (by omega) (by omega),by omega,by omega⟩
 by_cases ad:kd r i=13
 ·rw [if_pos ad]
  obtain ⟨w0,w2,ai⟩:=eI (by omega)
  rw [w0]
  exact put 8 (i+1) (by omega) ai w2 (Ct.of h.ri (by omega) ad (by decide) rfl)
 rw [if_neg ad]
 obtain ⟨b,hb⟩:=oI F (kd r i)
 rw [hb]
 simp only [Option.bind_some]
 have m4:b=true→kd r i=15∨kd r i=16∨kd r i=17:=by
  rintro rfl
  unfold eZ at hb
  by_cases d1:kd r i=15
  ·exact .inl d1
  by_cases d2:kd r i=16
  ·exact .inr (.inl d2)
  by_cases d3:kd r i=17
  ·exact .inr (.inr d3)
  rw [if_neg d1,if_neg d2,if_neg d3,if_neg ad] at hb
  simp at hb
 by_cases cb:b=true
 ·rw [if_pos cb]
  have hk:=m4 cb
  obtain ⟨w0,w2,ai⟩:=eI (by omega)
  rw [w0]
  exact put 7 (i+1) (by omega) ai w2 (by rcases hk with z | z | z<;>exact Ct.of h.ri (by omega) z (by decide) rfl)
 rw [if_neg cb]
 by_cases aj:kd r i=18
 ·rw [if_pos aj]
  have od:=fq (r:=r) (i:=i) (by omega)
  obtain ⟨j,t1,t2,t3,t4⟩:=xd F hF r h.ri i (by omega) od (Ct.of h.ri (by omega) aj (by decide) rfl)
  rw [t1]
  simp only [Option.bind_some]
  exact put 7 j (by omega) (by omega) t3 t4
 rw [if_neg aj]
 by_cases J:kd r i=8∨kd r i=9
 ·have od:=fq (r:=r) (i:=i) (by omega)
  by_cases ar:depth≤0
  ·rw [if_pos J,if_pos ar]
   simp only [Option.bind_some,if_true]
   obtain ⟨j,t1,t2,t3,t4⟩:=balanced_ex F hF r h.ri i (by omega) J
   rw [t1]
   simp only [Option.bind_some]
   obtain ⟨r1,aF,aH,aI,_⟩:=me F hF h (by omega) (by omega) hs (code:=10) (aG:=i0) (to:=j) (by omega) (by omega) (by omega) (by omega) na
   rw [aF]
   exact ⟨_,_,_,rfl, .inr ⟨by omega,by omega,t3,aH,aI.le (by omega) (by omega),t4⟩⟩
  ·rw [if_pos J,if_neg ar]
   simp only [Option.bind_some,Bool.false_eq_true,if_false,if_pos J]
   have main:∀ kind:Int,(1≤kind∧kind≤11)→∃ node next r',((eg F r (up:Int) kind i0 (af (i+1))).bind fun an=>
     (lJ F rec an.2 an.1 i depth).bind fun au=>some (an.1,au.1,au.2))=some (node,next,r')∧Vl n r up at_ node next r':=by
    intro kind mo
    obtain ⟨r1,a1,ah,I,aJ,aK,aY,_⟩:=iW F hF h (by omega) hs (kind:=kind) (aG:=i0) (to:=i+1) mo (by omega) (by omega) (by omega) na
    have mV:kd r1 i=kd r i:=by unfold kd;rw [I.l,I.e]
    have aZ:=I.e
    obtain ⟨q,aL,aM,a0,a2,aN,aO,aP⟩:=CK F hF rec depth aw (iI (by omega)) ah (by omega) (by omega) (by rw [mV];exact J) aJ (by omega) (by rw [aK];omega)
    rw [w1 (by omega) (by omega),a1]
    simp only [Option.bind_some,aM]
    exact ⟨_,q,aL,rfl, .inr ⟨by omega,by omega,by omega,aN,(I.trans aO (by omega)).le (by omega) (by omega),by rw [← I.l];exact aP⟩⟩
   by_cases av:kd r i=9
   ·rw [if_pos av];simp only [Option.bind_some];exact main 10 (by omega)
   ·rw [if_neg av];simp only [Option.bind_some];exact main 9 (by omega)
 ·simp only [if_neg J,Option.bind_some,Bool.false_eq_true,if_false]
  rcases ao with ⟨rfl,rfl,ag,ab⟩ | ⟨rfl,aE,ag,ab⟩
  ·rw [if_neg (by omega)]
   refine ⟨_,_,_,rfl, .inl ⟨rfl,rfl,rfl,fun mc=>?_⟩⟩
   have bY:kd r at_≠0∧kd r at_≠3:=by unfold bg at mc;omega
   have e:=az bY.1 bY.2
   subst e
   unfold bg at mc
   have a3:¬ (kd r i=15∨kd r i=16∨kd r i=17):=fun q=>by
    unfold eZ at hb
    rcases q with q | q | q<;>rw [q] at hb<;>simp at hb<;>exact cb hb
   omega
  ·rw [if_pos (by omega),w1 (by omega) (by omega)]
   exact put 7 (last+1) (by omega) (by omega) (by omega) ab
theorem zd (F:Nat) (hF:2500≤F):∀ (j:Nat) (k:Nat) (depth:Int), -1000≤depth→depth≤j→j≤1000→j+1≤k→VS (oX F k) depth:=by
 intro j
 induction j with
 | zero=>
  intro k depth h0 h1 h2 I
  obtain ⟨k,rfl⟩:∃ m,k=m+1:=⟨k - 1,by omega⟩
  exact tL F hF _ depth (by omega) (fun q=>by omega)
 | succ j ih=>
  intro k depth h0 h1 h2 I
  obtain ⟨k,rfl⟩:∃ m,k=m+1:=⟨k - 1,by omega⟩
  exact tL F hF _ depth (by omega) (fun q=>ih k (depth - 1) (by omega) (by omega) (by omega) (by omega))
theorem CB (F:Nat) (hF:2500≤F) (depth:Int) (h0: -500≤depth) (h1:depth≤100):VS (qC F) depth:=zd F hF 100 F depth (by omega) (by omega) (by omega) (by omega)
end Go.Proofs.Ytcilejikekccmaa.M
namespace Go.Proofs.Ytcilejikekccmaa.M
open Go Am Sy
abbrev Pp:=aS
def Tl:Int→List an→Prop
 | _,[]=>True
 | f,r::rs=>r.ah=f∧Tl r.To rs
structure RO (L:List ak) (rs:List an):Prop where
 lZ:∀ r∈rs,0≤r.ah∧r.ah<r.To∧r.To≤L.length
 vh:∀ x:Int,0≤x→x<L.length→∃ (i:Nat) (r:an),rs[i]?=some r∧x<r.To
 jl:∀ r∈rs,(r.Kind=4∨r.Kind=5)→∃ (i:Int) (t:ak),r.ah≤i∧i<r.To∧L[i.toNat]?=some t∧cn t.Kind=true
 len:rs.length≤450
 tl:Tl 0 rs
def FI (L:List ak) (aG to a:Int):Prop:=aG≤a∧a≤to∧(∀ (i:Int) (t:ak),aG≤i→i<a→L[i.toNat]?=some t→cn t.Kind=false)∧(a<to→∃ t,L[a.toNat]?=some t∧cn t.Kind=true)
theorem FI.eq {L:List ak} {aG to a b:Int} (h:FI L aG to a) (k:FI L aG to b):a=b:=by
 obtain ⟨h1,h2,J,U⟩:=h
 obtain ⟨aa,ae,ab,ad⟩:=k
 rcases Int.lt_trichotomy a b with z | z | z
 ·obtain ⟨t,I,j⟩:=U (by omega)
  rw [ab a t h1 z I] at j;cases j
 ·exact z
 ·obtain ⟨t,I,j⟩:=ad (by omega)
  rw [J b t aa z I] at j;cases j
theorem jY (F:Nat) (hF:2500≤F) (p:Pp) (hn:p.R.L.length≤450) (aG to:Int) (h0:0≤aG) (h1:aG≤to) (h2:to≤p.R.L.length):
  ∃ a b,g1 F p aG to=some (a,b)∧FI p.R.L aG to a∧a≤b∧b≤to∧(a<to→a<b)∧(∀ (i:Int) (t:ak),b≤i→i<to→p.R.L[i.toNat]?=some t→cn t.Kind=false):=by
 have key:∀ (d m:Nat) (x:Int),aG≤x→x≤to→(to - x).toNat≤d→d<m→(∀ (i:Int) (t:ak),aG≤i→i<x→p.R.L[i.toNat]?=some t→cn t.Kind=false)→∃ a,correctorref12_parser_counting_l0 F p aG to m x=some a∧FI p.R.L aG to a:=by
  intro d
  induction d with
  | zero=>
   intro m x hx j hd hm hq
   obtain ⟨m,rfl⟩:∃ k,m=k+1:=⟨m - 1,by omega⟩
   rw [correctorref12_parser_counting_l0,if_neg (by omega)]
   exact ⟨x,rfl,hx,j,hq,fun q=>by omega⟩
  | succ d ih=>
   intro m x hx j hd hm hq
   obtain ⟨m,rfl⟩:∃ k,m=k+1:=⟨m - 1,by omega⟩
   rw [correctorref12_parser_counting_l0]
   by_cases c:x<to
   case neg=>rw [if_neg c];exact ⟨x,rfl,hx,j,hq,fun q=>absurd q c⟩
   have hl:x.toNat<p.R.L.length:=by omega
   rw [if_pos c,if_pos (by omega),List.getElem?_eq_getElem hl]
   simp only [Option.bind_some,kx]
   by_cases c1:cn p.R.L[x.toNat].Kind=true
   ·rw [if_pos c1];exact ⟨x,rfl,hx,j,hq,fun _=>⟨_,List.getElem?_eq_getElem hl,c1⟩⟩
   ·rw [if_neg c1,w1 (by omega) (by omega)]
    refine ih m (x+1) (by omega) (by omega) (by omega) (by omega) (fun i t I U J=>?_)
    rcases Int.lt_or_eq_of_le (show i≤x by omega) with z | z
    ·exact hq i t I z J
    ·subst z
     rw [List.getElem?_eq_getElem hl] at J
     simp only [Option.some.injEq] at J
     subst J;simpa using c1
 obtain ⟨a,a1,aa⟩:=key (to - aG).toNat F aG (Int.le_refl _) h1 (Nat.le_refl _) (by omega) (fun i t I U=>by omega)
 have ab:∀ (d m:Nat) (x:Int),a≤x→x≤to→(x - a).toNat≤d→d<m→(a<to→a<x)→(∀ (i:Int) (t:ak),x≤i→i<to→p.R.L[i.toNat]?=some t→cn t.Kind=false)→∃ b,correctorref12_parser_counting_l1 F p aG to m a x=some (a,b)∧a≤b∧b≤to∧(a<to→a<b)∧(∀ (i:Int) (t:ak),b≤i→i<to→p.R.L[i.toNat]?=some t→cn t.Kind=false):=by
  intro d
  induction d with
  | zero=>
   intro m x hx j hd hm hq hz
   obtain ⟨m,rfl⟩:∃ k,m=k+1:=⟨m - 1,by omega⟩
   rw [correctorref12_parser_counting_l1,if_neg (by omega)]
   exact ⟨x,rfl,hx,j,hq,hz⟩
  | succ d ih=>
   intro m x hx j hd hm hq hz
   obtain ⟨m,rfl⟩:∃ k,m=k+1:=⟨m - 1,by omega⟩
   rw [correctorref12_parser_counting_l1]
   by_cases c:a<x
   case neg=>rw [if_neg c];exact ⟨x,rfl,hx,j,hq,hz⟩
   have ha:=aa.1
   have hl:(x - 1).toNat<p.R.L.length:=by omega
   rw [if_pos c,ju (by omega) (by omega),if_pos (by omega),List.getElem?_eq_getElem hl]
   simp only [Option.bind_some,kx]
   by_cases c1:cn p.R.L[(x - 1).toNat].Kind=true
   ·rw [if_pos c1];exact ⟨x,rfl,hx,j,hq,hz⟩
   ·rw [if_neg c1]
    refine ih m (x - 1) (by omega) (by omega) (by omega) (by omega) (fun q=>?_) (fun i t I U J=>?_)
    rotate_left
    ·rcases Int.lt_or_eq_of_le I with z | z
     ·exact hz i t (by omega) U J
     ·subst z
      rw [List.getElem?_eq_getElem hl] at J
      simp only [Option.some.injEq] at J
      subst J;simpa using c1
    rcases Int.lt_or_eq_of_le (show a≤x - 1 by omega) with z | z
    ·exact z
    ·obtain ⟨t,I,U⟩:=aa.2.2.2 q
     rw [z,List.getElem?_eq_getElem hl] at I
     simp only [Option.some.injEq] at I
     subst I;exact absurd U c1
 obtain ⟨b,ad,ae⟩:=ab (to - a).toNat F to aa.2.1 (Int.le_refl _) (Nat.le_refl _) (by have:=aa.1;omega) (fun q=>q) (fun i t I U=>by omega)
 unfold g1
 rw [a1]
 simp only [Option.bind_some,ad]
 exact ⟨a,b,rfl,aa,ae⟩
theorem yw (F:Nat) (hF:2500≤F) (p:Pp) (hn:p.R.L.length≤450) (aG:Int) (h0:0≤aG) (h1:aG≤p.R.L.length):∃ e,ma F p aG=some e∧aG≤e∧e≤p.R.L.length:=by
 have key:∀ (d m:Nat) (x:Int),aG≤x→x≤p.R.L.length→((p.R.L.length:Int) - x).toNat≤d→d<m→∃ e,jQ F p aG m x=some e∧aG≤e∧e≤p.R.L.length:=by
  intro d
  induction d with
  | zero=>
   intro m x hx j hd hm
   obtain ⟨m,rfl⟩:∃ k,m=k+1:=⟨m - 1,by omega⟩
   rw [jQ,if_neg (by omega)]
   exact ⟨x,rfl,hx,j⟩
  | succ d ih=>
   intro m x hx j hd hm
   obtain ⟨m,rfl⟩:∃ k,m=k+1:=⟨m - 1,by omega⟩
   rw [jQ]
   by_cases c:x<(p.R.L.length:Int)
   case neg=>rw [if_neg c];exact ⟨x,rfl,hx,j⟩
   have hl:x.toNat<p.R.L.length:=by omega
   have hb:0≤x∧x<(p.R.L.length:Int):=by omega
   simp only [if_pos c,if_pos hb,List.getElem?_eq_getElem hl,Option.bind_some]
   split
   ·exact ⟨x,rfl,hx,j⟩
   split
   ·exact ⟨x,rfl,hx,j⟩
   rw [w1 (by omega) (by omega)]
   exact ih m (x+1) (by omega) (by omega) (by omega) (by omega)
 unfold ma
 obtain ⟨e,I,J⟩:=key ((p.R.L.length:Int) - aG).toNat F aG (Int.le_refl _) h1 (Nat.le_refl _) (by omega)
 exact ⟨e,by rw [I];rfl,J⟩
structure Sm (p p':Pp):Prop where
 rows:p'.Rows=p.Rows
 doc:p'.Doc=p.Doc
 root:p'.az=p.az
 s:p'.S=p.S
 dep:p'.av=p.av
theorem sY (F:Nat) (hF:2500≤F) {n:Int} {p:Pp} {next:Int} (h:Rd n p.R next) (hr:RO p.R.L p.Rows) (h0:0≤next) (h1:next≤n) (no:Bool) (bY:no=true→next<n) (eW:no=false→0<next) {up:Nat} (hs:Sp p.R.T.al up) (hN:p.R.T.al.length≤2300) (hd:p.R.D.length≤90000):
  ∃ p',lF F p (up:Int) next no=some p'∧Sm p p'∧next≤p'.Read∧p'.Read≤n∧(no=true→next<p'.Read)∧Rd n p'.R p'.Read∧To p.R p'.R up (p'.Read - next) (p'.Read - next):=by
 have hn:=h.nl
 have de:=h.ri.n
 have hlen:=hr.len
 have hex:∃ (k:Nat) (r:an),p.Rows[k]?=some r∧next≤r.To∧(no=true→next<r.To):=by
  cases no with
  | true=>obtain ⟨k,r,U,ab⟩:=hr.vh next h0 (by have:=bY rfl;omega);exact ⟨k,r,U,by omega,fun _=>ab⟩
  | false=>obtain ⟨k,r,U,ab⟩:=hr.vh (next - 1) (by have:=eW rfl;omega) (by omega);exact ⟨k,r,U,by omega,fun q=>by cases q⟩
 obtain ⟨k,rk,aa,ae,ad⟩:=hex
 have oK:k<p.Rows.length:=by
  rcases Nat.lt_or_ge k p.Rows.length with q | q
  ·exact q
  ·rw [List.getElem?_eq_none q] at aa;cases aa
 have key:∀ (d m i:Nat),i+d=k→d<m→∃ (j:Nat) (r:an),kh F p (up:Int) next no m (i:Int)=some (j:Int)∧p.Rows[j]?=some r∧next≤r.To∧(no=true→next<r.To):=by
  intro d
  induction d with
  | zero=>
   intro m i hi hm
   obtain ⟨m,rfl⟩:∃ q,m=q+1:=⟨m - 1,by omega⟩
   have:i=k:=by omega
   subst this
   rw [kh]
   have hb:0≤(i:Int)∧(i:Int)<(p.Rows.length:Int):=by omega
   simp only [if_pos hb,Int.toNat_natCast,aa,Option.bind_some]
   rw [if_neg (by omega)]
   by_cases I:no=true
   ·rw [if_pos I,if_neg (by have:=ad I;omega)]
    exact ⟨i,rk,rfl,aa,ae,ad⟩
   ·rw [if_neg I]
    exact ⟨i,rk,rfl,aa,ae,ad⟩
  | succ d ih=>
   intro m i hi hm
   obtain ⟨m,rfl⟩:∃ q,m=q+1:=⟨m - 1,by omega⟩
   have di:i<p.Rows.length:=by omega
   rw [kh]
   have hb:0≤(i:Int)∧(i:Int)<(p.Rows.length:Int):=by omega
   have hw:af ((i:Int)+1)=((i+1:Nat):Int):=by rw [a4 (by omega) (by omega)];omega
   simp only [if_pos hb,Int.toNat_natCast,List.getElem?_eq_getElem di,Option.bind_some,hw]
   have stay:next≤p.Rows[i].To→(no=true→next<p.Rows[i].To)→∃ (j:Nat) (r:an),(some (i:Int):Option Int)=some (j:Int)∧p.Rows[j]?=some r∧next≤r.To∧(no=true→next<r.To):=fun U ab=>⟨i,_,rfl,List.getElem?_eq_getElem di,U,ab⟩
   by_cases c:p.Rows[i].To<next
   ·rw [if_pos c];exact ih m (i+1) (by omega) (by omega)
   rw [if_neg c]
   by_cases I:no=true
   ·rw [if_pos I]
    by_cases c2:p.Rows[i].To=next
    ·rw [if_pos c2];exact ih m (i+1) (by omega) (by omega)
    ·rw [if_neg c2];exact stay (by omega) (fun _=>by omega)
   ·rw [if_neg I]
    exact stay (by omega) (fun q=>absurd q I)
 obtain ⟨j,r,ag,J,ah,ai⟩:=key k F 0 (by omega) (by omega)
 have hj:j<p.Rows.length:=by
  rcases Nat.lt_or_ge j p.Rows.length with q | q
  ·exact q
  ·rw [List.getElem?_eq_none q] at J;cases J
 have uM:=hr.lZ r (List.mem_of_getElem? J)
 obtain ⟨a,b,a1,aj,av,ao,aw,_⟩:=jY F hF p de next r.To h0 ah (by omega)
 unfold lF
 rw [show ((0:Nat):Int)=0 from rfl] at ag
 rw [ag]
 simp only [Option.bind_some]
 rw [if_pos (by omega),Int.toNat_natCast,J]
 simp only [Option.bind_some,a1]
 by_cases c:a<b
 ·have ha:=aj.1
  obtain ⟨r1,aq,ar,au,_⟩:=me F hF h (by omega) (by omega) hs (code:=8) (aG:=a) (to:=b) (by omega) c (by omega) (by omega) (h.endOf h0 up ha)
  rw [if_pos c,aq]
  simp only [Option.bind_some]
  rw [if_pos (by omega)]
  simp only [J,Option.bind_some]
  exact ⟨_,rfl,⟨rfl,rfl,rfl,rfl,rfl⟩,by show next≤r.To;omega,by show r.To≤n;omega,ai,ar.mono ao,au.le (by show (1:Int)≤r.To - next;omega) (by show (1:Int)≤r.To - next;omega)⟩
 ·rw [if_neg c]
  simp only [Option.bind_some]
  rw [if_pos (by omega)]
  simp only [J,Option.bind_some]
  exact ⟨_,rfl,⟨rfl,rfl,rfl,rfl,rfl⟩,by show next≤r.To;omega,by show r.To≤n;omega,ai,h.mono ah,(To.refl p.R up).le (by show (0:Int)≤r.To - next;omega) (by show (0:Int)≤r.To - next;omega)⟩
structure wj (p p':Pp) (up:Nat) (s m:Int):Prop where
 l:p'.R.L=p.R.L
 sz:(p'.R.T.al.length:Int)≤p.R.T.al.length+s
 dl:(p'.R.D.length:Int)≤p.R.D.length+m
 sp:∀ v,v≤up→Sp p.R.T.al v→Sp p'.R.T.al v
theorem x4 (F:Nat) (hF:2500≤F) {n:Int} {p:Pp} {at_:Int} (h:Rd n p.R (at_+1)) (hr:RO p.R.L p.Rows) (h0:0≤at_) (h1:at_<n) (eJ:0≤p.av∧p.av≤100) (gR:p.S.length≤400) {up:Nat} (kf:∀ e,endOf p.R.T.al up=some e→e≤at_) (hb:Below p.R.T.al at_) (hs:Sp p.R.T.al up) (hN:(p.R.T.al.length:Int)≤4 * at_+5) (hd:(p.R.D.length:Int)≤4 * at_+5):
  ∃ b p',ja F p (up:Int) at_=some (b,p')∧Sm p p'∧at_<p'.Read∧p'.Read≤n∧Rd n p'.R p'.Read∧wj p p' up (2 * (p'.Read - at_)) (4 * (p'.Read - at_)):=by
 have hn:=h.nl
 have de:=h.ri.n
 obtain ⟨e,e1,ae,ag⟩:=yw F hF p de at_ h0 (by omega)
 have hw:af (p.av - (p.S.length:Int))=p.av - p.S.length:=a4 (by omega) (by omega)
 have jX:Rd n (⟨p.R.L,p.R.T,p.R.D,e⟩:Rr) (at_+1):=⟨⟨by show 0≤e;omega,ag,de,h.ri.kp⟩,hn,h.g,h.b⟩
 obtain ⟨node,next,r',v1,v2⟩:=CB F hF (p.av - p.S.length) (by omega) (by omega) n (⟨p.R.L,p.R.T,p.R.D,e⟩:Rr) up at_ jX kf hs h0 ae hN hd
 unfold ja
 rw [e1]
 simp only [Option.bind_some,hw,v1]
 have sH:∀ a b:Int,b≤a→imax a b=a:=fun a b q=>by rw [jr];omega
 rcases v2 with ⟨rfl,rfl,rfl,_⟩ | ⟨ah,au,ai,aj,J,_⟩
 ·have an:Rd n (⟨p.R.L,p.R.T,p.R.D,e⟩:Rr) next:=⟨jX.ri,hn,h.g,hb⟩
  obtain ⟨p',U,j,ao,aa,ad,ab,I⟩:=sY F hF (p:=⟨⟨p.R.L,p.R.T,p.R.D,e⟩,p.Rows,p.Doc,p.az,p.S,p.av,p.Read⟩) (next:=next) an hr h0 (by omega) true (fun _=>h1) (fun q=>by cases q) hs (by show p.R.T.al.length≤2300;omega) (by show p.R.D.length≤90000;omega)
  have bm:=ad rfl
  simp only [show ((-1:Int)<0) from by decide,if_true,Option.bind_some,sH next next (Int.le_refl _),U,show ¬ ((0:Int)≤ -1) from by decide,if_false]
  have b7:=I.sz
  have fx:=I.dl
  simp only at b7 fx
  exact ⟨_,_,rfl,⟨j.rows,j.doc,j.root,j.s,j.dep⟩,bm,aa,ab,⟨I.l,by show (p'.R.T.al.length:Int)≤p.R.T.al.length+2 * (p'.Read - next);omega,by show (p'.R.D.length:Int)≤p.R.D.length+4 * (p'.Read - next);omega,I.sp⟩⟩
 ·have hl:r'.L=p.R.L:=J.l
  have he:r'.End=e:=J.e
  have b7:=J.sz
  have fx:=J.dl
  simp only at b7 fx
  simp only at ai
  obtain ⟨p',U,j,ao,aa,ad,ab,I⟩:=sY F hF (p:=⟨r',p.Rows,p.Doc,p.az,p.S,p.av,p.Read⟩) (next:=next) aj (by show RO r'.L p.Rows;rw [hl];exact hr) (by omega) (by omega) false (fun q=>by cases q) (fun _=>by omega) (J.sp up (Nat.le_refl _) hs) (by show r'.T.al.length≤2300;omega) (by show r'.D.length≤90000;omega)
  have oH:¬ node<0:=by omega
  simp only [if_neg oH,Option.bind_some,sH next at_ (by omega),U,if_pos ah]
  have aq:=I.sz
  have ar:=I.dl
  simp only at aq ar
  exact ⟨_,_,rfl,⟨j.rows,j.doc,j.root,j.s,j.dep⟩,by show at_<p'.Read;omega,aa,ab,⟨I.l.trans hl,by show (p'.R.T.al.length:Int)≤p.R.T.al.length+2 * (p'.Read - at_);omega,by show (p'.R.D.length:Int)≤p.R.D.length+4 * (p'.Read - at_);omega,fun v hv q=>I.sp v hv (J.sp v hv q)⟩⟩
end Go.Proofs.Ytcilejikekccmaa.M
namespace Go.Proofs.Ytcilejikekccmaa.M
open Go Am Sy
def Cn (L:List ak) (i:Int):Prop:=∃ t,L[i.toNat]?=some t∧cn t.Kind=true
def Ec (L:List ak):Int→List aZ→Int→Prop
  | a,[],b=>a≤b
  | a,e::es,b=>a≤e.ah∧e.ah<e.To∧Cn L e.ah∧Ec L e.To es b
section
variable {L:List ak}
theorem Ec.le:∀ {es:List aZ} {a b:Int},Ec L a es b→a+es.length≤b:=by
  intro es
  induction es with
  | nil=>intro a b h;have:a≤b:=h;simpa using this
  | cons e es ih=>
    rintro a b ⟨h1,h2,_,j⟩
    have:=ih j
    rw [List.length_cons];omega
theorem Ec.mono:∀ {es:List aZ} {a b c:Int},Ec L a es b→b≤c→Ec L a es c:=by
  intro es
  induction es with
  | nil=>intro a b c h hc;exact Int.le_trans h hc
  | cons e es ih=>rintro a b c ⟨h1,h2,dI,j⟩ hc;exact ⟨h1,h2,dI,ih j hc⟩
theorem Ec.snoc:∀ {es:List aZ} {a b:Int} {e:aZ},Ec L a es b→b≤e.ah→e.ah<e.To→Cn L e.ah→Ec L a (es++[e]) e.To:=by
  intro es
  induction es with
  | nil=>intro a b e h h1 h2 j;exact ⟨Int.le_trans h h1,h2,j,Int.le_refl _⟩
  | cons x es ih=>rintro a b e ⟨h1,h2,hc,j⟩ I J U;exact ⟨h1,h2,hc,ih j I J U⟩
theorem Ec.last:∀ {es:List aZ} {a b:Int} {e:aZ},Ec L a es b→es.getLast?=some e→Ec L a es e.To∧e.To≤b:=by
  intro es
  induction es with
  | nil=>intro a b e h h1;simp at h1
  | cons x es ih=>
    rintro a b e ⟨h1,h2,hc,I⟩ j
    cases es with
    | nil=>simp at j;subst j;exact ⟨⟨h1,h2,hc,Int.le_refl _⟩,I⟩
    | cons y es=>
      rw [List.getLast?_cons_cons] at j
      obtain ⟨J,U⟩:=ih I j
      exact ⟨⟨h1,h2,hc,J⟩,U⟩
end
theorem pO (F:Nat) (hF:2500≤F) (L:List ak) (hn:L.length≤450) (a e kind:Int) (h0:0≤a) (h1:a≤e) (h2:e≤L.length):∃ j,jF F L a e kind=some j∧a≤j∧j≤e:=by
  have key:∀ (d m:Nat) (x:Int),a≤x→x≤e→(e - x).toNat≤d→d<m→∃ j,correctorref9_skip_l0 F L a e kind m x=some j∧a≤j∧j≤e:=by
    intro d
    induction d with
    | zero=>
      intro m x hx I hd hm
      obtain ⟨m,rfl⟩:∃ k,m=k+1:=⟨m - 1,by omega⟩
      rw [correctorref9_skip_l0,if_neg (by omega)]
      exact ⟨x,rfl,hx,I⟩
    | succ d ih=>
      intro m x hx I hd hm
      obtain ⟨m,rfl⟩:∃ k,m=k+1:=⟨m - 1,by omega⟩
      rw [correctorref9_skip_l0]
      by_cases c:x<e
      case neg=>rw [if_neg c];exact ⟨x,rfl,hx,I⟩
      have hl:x.toNat<L.length:=by omega
      rw [if_pos c,if_pos (by omega),List.getElem?_eq_getElem hl]
      simp only [Option.bind_some]
      split
      · rw [w1 (by omega) (by omega)]
        exact ih m (x+1) (by omega) (by omega) (by omega) (by omega)
      · exact ⟨x,rfl,hx,I⟩
  unfold jF
  obtain ⟨j,J,U⟩:=key (e - a).toNat F a (Int.le_refl _) h1 (Nat.le_refl _) (by omega)
  exact ⟨j,by rw [J];rfl,U⟩
theorem wV {F:Nat} {k:Int} (h:eZ F k=some true):cn k=true:=by
  unfold eZ at h
  by_cases h1:k=15
  · rw [h1];rfl
  by_cases h2:k=16
  · rw [h2];rfl
  by_cases j:k=17
  · rw [j];rfl
  by_cases I:k=13
  · rw [I];rfl
  rw [if_neg h1,if_neg h2,if_neg j,if_neg I] at h
  simp at h
def EO (L:List ak) (r:an) (es:List aZ) (rest:Int):Prop:=
  ∃ first,FI L r.ah r.To first∧rest≤r.To∧(es=[]∨Ec L first es rest)
theorem As (F:Nat) (hF:2500≤F) (L:List ak) (hn:L.length≤450) (r:an) (hk:r.Kind=5) (hr:0≤r.ah∧r.ah<r.To∧r.To≤L.length):∃ es rest,nr F L r=some (es,rest)∧EO L r es rest:=by
  obtain ⟨aP,aR,ag⟩:=hr
  have ax:∀ (d m:Nat) (x:Int),r.ah≤x→x≤r.To→(r.To - x).toNat≤d→d<m→(∀ (i:Int) (t:ak),r.ah≤i→i<x→L[i.toNat]?=some t→cn t.Kind=false)→∃ a,correctorref9_Entries_l0 F L r m r x=some (r,a)∧FI L r.ah r.To a:=by
    intro d
    induction d with
    | zero=>
      intro m x hx ab hd hm hq
      obtain ⟨m,rfl⟩:∃ k,m=k+1:=⟨m - 1,by omega⟩
      rw [correctorref9_Entries_l0,if_neg (by omega)]
      exact ⟨x,rfl,hx,ab,hq,fun q=>by omega⟩
    | succ d ih=>
      intro m x hx ab hd hm hq
      obtain ⟨m,rfl⟩:∃ k,m=k+1:=⟨m - 1,by omega⟩
      rw [correctorref9_Entries_l0]
      by_cases c:x<r.To
      case neg=>rw [if_neg c];exact ⟨x,rfl,hx,ab,hq,fun q=>absurd q c⟩
      have hl:x.toNat<L.length:=by omega
      rw [if_pos c,if_pos (by omega),List.getElem?_eq_getElem hl]
      simp only [Option.bind_some,kx]
      by_cases c1:cn L[x.toNat].Kind=true
      · rw [if_pos c1];exact ⟨x,rfl,hx,ab,hq,fun _=>⟨_,List.getElem?_eq_getElem hl,c1⟩⟩
      · rw [if_neg c1,w1 (by omega) (by omega)]
        refine ih m (x+1) (by omega) (by omega) (by omega) (by omega) (fun i t ad aq U=>?_)
        rcases Int.lt_or_eq_of_le (show i≤x by omega) with z | z
        · exact hq i t ad z U
        · subst z
          rw [List.getElem?_eq_getElem hl] at U
          simp only [Option.some.injEq] at U
          subst U;simpa using c1
  obtain ⟨first,f1,f2⟩:=ax (r.To - r.ah).toNat F r.ah (Int.le_refl _) (by omega) (Nat.le_refl _) (by omega) (fun i t ad aq=>by omega)
  have sO:=f2.1
  have oO:=f2.2.1
  have ay:∀ (d m:Nat) (i gY:Int) (e:List aZ),first≤i→i≤r.To→(r.To - i).toNat≤d→d<m→Ec L first e i→∃ i' e',correctorref9_Entries_l1 F L r m r i first gY e=some (r,i',first,gY,e')∧first≤i'∧i'≤r.To∧Ec L first e' i':=by
    intro d
    induction d with
    | zero=>
      intro m i gY e hi I hd hm he
      obtain ⟨m,rfl⟩:∃ k,m=k+1:=⟨m - 1,by omega⟩
      rw [correctorref9_Entries_l1,if_neg (by omega)]
      exact ⟨i,e,rfl,hi,I,he⟩
    | succ d ih=>
      intro m i gY e hi I hd hm he
      obtain ⟨m,rfl⟩:∃ k,m=k+1:=⟨m - 1,by omega⟩
      rw [correctorref9_Entries_l1]
      by_cases c:i<r.To
      case neg=>rw [if_neg c];exact ⟨i,e,rfl,hi,I,he⟩
      have hl:i.toNat<L.length:=by omega
      have hb:0≤i∧i<(L.length:Int):=by omega
      have hlen:=he.le
      simp only [if_pos c,if_pos hb,List.getElem?_eq_getElem hl,Option.bind_some]
      split
      case isFalse=>exact ⟨i,e,rfl,hi,I,he⟩
      rename_i az
      have hw:af (i+1)=i+1:=w1 (by omega) (by omega)
      obtain ⟨j,J,ai,aa⟩:=pO F hF L hn (i+1) r.To 3 (by omega) (by omega) ag
      rw [if_pos (by rw [List.length_singleton];omega),hw,J]
      simp only [Option.bind_some]
      exact ih m j gY _ (by omega) aa (by omega) (by omega) (Ec.mono (Ec.snoc (e:=⟨true,_,i,i+1⟩) he (Int.le_refl _) (by show i<i+1;omega) ⟨_,List.getElem?_eq_getElem hl,by rw [az];rfl⟩) ai)
  have aA:∀ (d m:Nat) (i gY k:Int) (e:List aZ),i≤k→0≤i→k≤r.To→(r.To - k).toNat≤d→d<m→(k=i∨Cn L i)→∃ k',correctorref9_Entries_l2 F L r m r i first gY e k=some (r,i,first,gY,e,k')∧i≤k'∧k'≤r.To∧(k'=i∨Cn L i):=by
    intro d
    induction d with
    | zero=>
      intro m i gY k e hi ar I hd hm hg
      obtain ⟨m,rfl⟩:∃ k,m=k+1:=⟨m - 1,by omega⟩
      rw [correctorref9_Entries_l2,if_neg (by omega)]
      exact ⟨k,rfl,hi,I,hg⟩
    | succ d ih=>
      intro m i gY k e hi ar I hd hm hg
      obtain ⟨m,rfl⟩:∃ k,m=k+1:=⟨m - 1,by omega⟩
      rw [correctorref9_Entries_l2]
      by_cases c:k<r.To
      case neg=>rw [if_neg c];exact ⟨k,rfl,hi,I,hg⟩
      have hl:k.toNat<L.length:=by omega
      have hb:0≤k∧k<(L.length:Int):=by omega
      have hw:af (k+1)=k+1:=w1 (by omega) (by omega)
      obtain ⟨j,J,ai,aa⟩:=pO F hF L hn (k+1) r.To 3 (by omega) (by omega) ag
      simp only [if_pos c,if_pos hb,List.getElem?_eq_getElem hl,Option.bind_some,hw]
      have go:cn L[k.toNat].Kind=true→_:=fun q=>ih m i gY j e (by omega) ar aa (by omega) (by omega) (by
        rcases hg with z | z
        · subst z;exact .inr ⟨_,List.getElem?_eq_getElem hl,q⟩
        · exact .inr z)
      split
      · rename_i aB;simp only [Option.bind_some,J];exact go (by rw [aB];rfl)
      split
      · rename_i aC;simp only [Option.bind_some,J];exact go (by rw [aC];rfl)
      exact ⟨k,rfl,hi,I,hg⟩
  have xE:r.ah.toNat<L.length:=by omega
  unfold nr
  rw [if_pos hk,f1]
  simp only [Option.bind_some]
  rw [if_pos (by omega),List.getElem?_eq_getElem xE]
  simp only [Option.bind_some]
  obtain ⟨i,e,aD,aS,aj,ae⟩:=ay (r.To - first).toNat F first L[r.ah.toNat].ah [] (Int.le_refl _) oO (Nat.le_refl _) (by omega) (Int.le_refl _)
  rw [aD]
  simp only [Option.bind_some]
  obtain ⟨k,aE,au,av,al⟩:=aA (r.To - i).toNat F i L[r.ah.toNat].ah i e (Int.le_refl _) (by omega) aj (Nat.le_refl _) (by omega) (.inl rfl)
  rw [aE]
  simp only [Option.bind_some]
  have aF:∃ k',((if k<r.To then
        if 0≤k∧k<(L.length:Int) then
         (L[k.toNat]?).bind fun aG=>
         (eZ F aG.Kind).bind fun aH=>
         if aH=true then
          (jF F L (af (k+1)) r.To 3).bind fun aI=>
          some (r,e,aI)
         else
          some (r,e,k)
        else none
       else
        some (r,e,k)):Option (an×(List aZ)×Int))=some (r,e,k')∧i≤k'∧k'≤r.To∧(k'=i∨Cn L i):=by
    by_cases c:k<r.To
    case neg=>rw [if_neg c];exact ⟨k,rfl,au,av,al⟩
    have hl:k.toNat<L.length:=by omega
    rw [if_pos c,if_pos (by omega),List.getElem?_eq_getElem hl]
    simp only [Option.bind_some]
    obtain ⟨b,hb⟩:=oI F L[k.toNat].Kind
    rw [hb]
    simp only [Option.bind_some]
    split
    · obtain ⟨j,J,ai,aa⟩:=pO F hF L hn (k+1) r.To 3 (by omega) (by omega) ag
      rw [w1 (by omega) (by omega),J]
      refine ⟨j,rfl,by omega,aa, .inr ?_⟩
      rcases al with z | z
      · subst z
        rename_i cb
        refine ⟨_,List.getElem?_eq_getElem hl,?_⟩
        rw [cb] at hb
        exact wV hb
      · exact z
    · exact ⟨k,rfl,au,av,al⟩
  obtain ⟨k',ad,aq,U,aJ⟩:=aF
  rw [ad]
  simp only [Option.bind_some]
  have hlen:=ae.le
  have hx:∃ e',((((if k'<r.To then
          if 0≤k'∧k'<(L.length:Int) then
           (L[k'.toNat]?).bind fun aK=>
           if aK.Kind=(6:Int) then
            some (e,true)
           else
            some (e,false)
          else none
         else
          some (e,false)):Option ((List aZ)×Bool)).bind fun o=>match o with
         | (ao,aL)=>if aL=true then
          if 0≤i∧i<(L.length:Int) then
           (L[i.toNat]?).bind fun aw=>
           if ao.length+[(⟨false,af (aw.ah - L[r.ah.toNat].ah),i,af (k'+1)⟩:aZ)].length≤4398046511104 then
            some (ao++[(⟨false,af (aw.ah - L[r.ah.toNat].ah),i,af (k'+1)⟩:aZ)])
           else none
          else none
         else
          some ao):Option (List aZ))=some e'∧Ec L first e' r.To:=by
    by_cases c:k'<r.To
    case neg=>rw [if_neg c];exact ⟨e,rfl,ae.mono aj⟩
    have hl:k'.toNat<L.length:=by omega
    have di:i.toNat<L.length:=by omega
    rw [if_pos c,if_pos (by omega),List.getElem?_eq_getElem hl]
    simp only [Option.bind_some]
    split
    · rename_i aM
      have fg:Cn L i:=by
        rcases aJ with z | z
        · subst z;exact ⟨_,List.getElem?_eq_getElem hl,by rw [aM];rfl⟩
        · exact z
      simp only [Option.bind_some,if_true]
      rw [if_pos (by omega),List.getElem?_eq_getElem di]
      simp only [Option.bind_some]
      rw [if_pos (by rw [List.length_singleton];omega),w1 (by omega) (by omega)]
      exact ⟨_,rfl,Ec.mono (Ec.snoc (e:=⟨false,_,i,k'+1⟩) ae (Int.le_refl _) (by show i<k'+1;omega) fg) (by show k'+1≤r.To;omega)⟩
    · simp only [Option.bind_some,Bool.false_eq_true,if_false]
      exact ⟨e,rfl,ae.mono aj⟩
  obtain ⟨e',h1,h2⟩:=hx
  rw [h1]
  simp only [Option.bind_some]
  by_cases c:(e'.length:Int)=0
  · rw [if_pos c]
    exact ⟨_,_,rfl,first,f2,oO, .inl rfl⟩
  · have aT:=h2.le
    have hw:af ((e'.length:Int) - 1)=((e'.length - 1:Nat):Int):=by rw [a4 (by omega) (by omega)];omega
    have nL:e'.length - 1<e'.length:=by omega
    rw [if_neg c,hw,if_pos (by omega),Int.toNat_natCast,List.getElem?_eq_getElem nL]
    simp only [Option.bind_some]
    have qb:e'.getLast?=some e'[e'.length - 1]:=by rw [List.getLast?_eq_getElem?,List.getElem?_eq_getElem nL]
    obtain ⟨aN,aO⟩:=h2.last qb
    exact ⟨_,_,rfl,first,f2,aO, .inr aN⟩
end Go.Proofs.Ytcilejikekccmaa.M
