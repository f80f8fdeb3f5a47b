/- Packed by a program of this session (mini.py). -/
import Derived.Calls
import Derived.Orders
import Derived.Scope
import Derived.ScopeJumps
import Derived.Laws.Append
import Derived.Laws.Cells
import Derived.Laws.Rows
import Derived.Laws.AppendOwn
import Derived.Laws.BytesString
import Derived.Laws.MakeOwn
import Derived.Lib.ConvBytes
import Derived.LoopN
import Derived.Still
import Derived.ChangeSame
import Derived.RowKit3
set_option linter.unusedVariables false
set_option linter.unusedSectionVars false
set_option linter.unusedSimpArgs false
namespace Go.Proofs.Ytcilejikekccmaa.Am
open Go
inductive Tr (α:Type) where
 | nil
 | node (l:Tr α) (v:Option α) (r:Tr α)
namespace Tr
variable {α:Type}
def get:Tr α→Nat→Option α
 | .nil,_=>none
 | .node l v r,n=>if n=0 then v else if n % 2=1 then l.get (n / 2) else r.get (n / 2 - 1)
def setF:Nat→Tr α→Nat→Option α→Tr α
 | 0,t,_,_=>t
 | f+1, .nil,n,x=>if n=0 then .node .nil x .nil else if n % 2=1 then .node (setF f .nil (n / 2) x) none .nil else .node .nil none (setF f .nil (n / 2 - 1) x)
 | f+1, .node l v r,n,x=>if n=0 then .node l x r else if n % 2=1 then .node (setF f l (n / 2) x) v r else .node l v (setF f r (n / 2 - 1) x)
def set (t:Tr α) (n:Nat) (x:Option α):Tr α:=setF (n+1) t n x
theorem wk (f:Nat):∀ (t:Tr α) (n m:Nat) (x:Option α),n<f→(setF f t n x).get m=if m=n then x else t.get m:=by
 induction f with
 | zero=>intro t n m x h;omega
 | succ f ih=>
  intro t n m x h
  cases t with
  | nil=>
   simp only [setF]
   by_cases hn:n=0
   ·subst hn
    simp only [if_true,get]
    by_cases hm:m=0<;>simp [hm]
   ·rw [if_neg hn]
    by_cases ho:n % 2=1
    ·rw [if_pos ho]
     simp only [get]
     by_cases hm:m=0
     ·subst hm;simp [Ne.symm hn]
     ·rw [if_neg hm]
      by_cases fB:m % 2=1
      ·rw [if_pos fB,ih _ _ _ _ (by omega)]
       simp only [get]
       by_cases e:m=n
       ·simp [e]
       ·rw [if_neg e,if_neg (by omega)]
      ·rw [if_neg fB,if_neg (by omega)]
    ·rw [if_neg ho]
     simp only [get]
     by_cases hm:m=0
     ·subst hm;simp [Ne.symm hn]
     ·rw [if_neg hm]
      by_cases fB:m % 2=1
      ·rw [if_pos fB,if_neg (by omega)]
      ·rw [if_neg fB,ih _ _ _ _ (by omega)]
       simp only [get]
       by_cases e:m=n
       ·simp [e]
       ·rw [if_neg e,if_neg (by omega)]
  | node l v r=>
   simp only [setF]
   by_cases hn:n=0
   ·subst hn
    simp only [if_true,get]
    by_cases hm:m=0<;>simp [hm]
   ·rw [if_neg hn]
    by_cases ho:n % 2=1
    ·rw [if_pos ho]
     simp only [get]
     by_cases hm:m=0
     ·subst hm;simp [Ne.symm hn]
     ·rw [if_neg hm,if_neg hm]
      by_cases fB:m % 2=1
      ·rw [if_pos fB,if_pos fB,ih _ _ _ _ (by omega)]
       by_cases e:m=n
       ·simp [e]
       ·rw [if_neg e,if_neg (by omega)]
      ·rw [if_neg fB,if_neg fB,if_neg (by omega)]
    ·rw [if_neg ho]
     simp only [get]
     by_cases hm:m=0
     ·subst hm;simp [Ne.symm hn]
     ·rw [if_neg hm,if_neg hm]
      by_cases fB:m % 2=1
      ·rw [if_pos fB,if_pos fB,if_neg (by omega)]
      ·rw [if_neg fB,if_neg fB,ih _ _ _ _ (by omega)]
       by_cases e:m=n
       ·simp [e]
       ·rw [if_neg e,if_neg (by omega)]
theorem eT (t:Tr α) (n m:Nat) (x:Option α):(t.set n x).get m=if m=n then x else t.get m:=wk _ t n m x (by omega)
end Tr
abbrev Env:=Tr Value
def Env.get (e:Env) (t:Nat):Value:=(Tr.get e t).getD undef
def Env.set (e:Env) (t:Nat) (v:Value):Env:=Tr.set e t (some v)
theorem Env.eT (e:Env) (t u:Nat) (v:Value):(Env.set e t v).get u=if u=t then v else e.get u:=by
 unfold Env.get Env.set
 rw [Tr.eT]
 split<;>rfl
theorem Env.get_nil (t:Nat):Env.get (.nil:Env) t=undef:=rfl
def Env.put (e:Env) (d:Option Nat) (v:Value):Env:=match d with | some t=>Env.set e t v | none=>e
def Env.ofArgs:Nat→List Value→Env→Env
 | _,[],e=>e
 | i,v::vs,e=>Env.ofArgs (i+1) vs (Env.set e i v)
def Env.ev (e:Env):Operand→Value
 | .tmp t=>e.get t
 | .const v=>v
 | .global _=>undef
 | .func f=> .func (.func f) #[] #[]
theorem Env.uI (vs:List Value):∀ (i:Nat) (e:Env) (t:Nat),(Env.ofArgs i vs e).get t=if i≤t∧t<i+vs.length then vs.getD (t - i) undef else e.get t:=by
 induction vs with
 | nil=>intro i e t;simp [Env.ofArgs];intro h1 h2;omega
 | cons v vs ih=>
  intro i e t
  simp only [Env.ofArgs,ih,List.length_cons,Env.eT]
  by_cases h1:i+1≤t∧t<i+1+vs.length
  ·rw [if_pos h1,if_pos (by omega)]
   have:t - i=(t - (i+1))+1:=by omega
   rw [this,List.getD_cons_succ]
  ·rw [if_neg h1]
   by_cases h2:t=i
   ·subst h2;simp
   ·rw [if_neg h2,if_neg (by omega)]
structure dD where
 cells:List Value
 own:Bool
 dA:Nat
structure AH where
 t:Tr dD
 next:Nat
 low:Nat
namespace AH
def ae (h:AH) (b:Nat):Option dD:=h.t.get b
def alloc (h:AH) (cs:List Value) (dA:Nat):AH:=⟨h.t.set h.next (some ⟨cs,true,dA⟩),h.next+1,h.low⟩
def put (h:AH) (b:Nat) (x:Option dD):AH:=⟨h.t.set b x,h.next,if b<h.low then b else h.low⟩
theorem e5 (h:AH) (cs:List Value) (dA b:Nat):(h.alloc cs dA).ae b=if b=h.next then some ⟨cs,true,dA⟩ else h.ae b:=Tr.eT _ _ _ _
theorem gD (h:AH) (c b:Nat) (x:Option dD):(h.put c x).ae b=if b=c then x else h.ae b:=Tr.eT _ _ _ _
theorem qg (h:AH) (cs:List Value) (dA:Nat):(h.alloc cs dA).next=h.next+1:=rfl
theorem mP (h:AH) (b:Nat) (x:Option dD):(h.put b x).next=h.next:=rfl
theorem Dh (h:AH) (cs:List Value) (dA:Nat):(h.alloc cs dA).low=h.low:=rfl
theorem lb (h:AH) (b:Nat) (x:Option dD):(h.put b x).low=if b<h.low then b else h.low:=rfl
def load (h:AH) (a:Addr):Option Value:=
 match a.spot with
 | none=>(h.ae a.block).bind fun B=>B.cells[a.off]?
 | some _=>none
def cv (h:AH) (a:Addr) (n:Nat):Option (List Value):=
 match a.spot with
 | none=>(h.ae a.block).bind fun B=>if a.off+n≤B.cells.length then some ((B.cells.drop a.off).take n) else none
 | some _=>none
def store (h:AH) (a:Addr) (vs:List Value):Option AH:=
 match a.spot with
 | none=>(h.ae a.block).bind fun B=>
  if B.own=true∧a.off+vs.length≤B.cells.length∧vs.all Value.oneCell'=true then
   some (h.put a.block (some ⟨B.cells.take a.off++vs++B.cells.drop (a.off+vs.length),true,B.dA⟩))
  else none
 | some _=>none
end AH
def oneClean:Value→Bool
 | .bool _ | .int .. | .string _ | .pointer none | .nilFunc | .nilIface=>true
 | .slice none n c=>decide (n≤c)
 | _=>false
def clean1:Value→Bool
 | .agg cs=>cs.toList.all oneClean
 | v=>oneClean v
def clean:Value→Bool
 | .tuple cs=>cs.toList.all clean1
 | .iface _ v=>clean1 v
 | .func (.func _) first captured=>first.toList.isEmpty && captured.toList.isEmpty
 | v=>clean1 v
def bW (P:Program) (t:TypeId):Option Nat:=(P.info? t).map (·.size)
def jj (P:Program) (t:TypeId):Option Nat:=(P.info? t).map (·.bytes)
def dO (P:Program) (t:TypeId):Option Value:=(P.info? t).bind (·.zero)
def lJ:TypeDesc→Bool
 | .struct _ | .array _ _=>true
 | _=>false
def gF (P:Program) (t:TypeId) (cs:Array Value) (off:Nat):Option Value:=
 (P.underlying t).bind fun d=>if lJ d then (bW P t).map fun s=> .agg (cs.extract off (off+s)) else cs[off]?
def aEqFields (P:Program) (eq:TypeId→Value→Value→Option Bool):List Field→Array Value→Array Value→Option Bool
 | [],_,_=>some true
 | f::fs,xs,ys=>
  if f.name≠ "_" then
   match gF P f.type xs f.offset,gF P f.type ys f.offset with
   | some a,some b=>match eq f.type a b with
    | some true=>aEqFields P eq fs xs ys
    | some false=>some false
    | none=>none
   | _,_=>none
  else aEqFields P eq fs xs ys
def aEq (P:Program):Nat→TypeId→Value→Value→Option Bool
 | 0,_,_,_=>none
 | d+1,t,x,y=>
  match P.underlying t,x,y with
  | some .bool, .bool a, .bool b=>some (a == b)
  | some (.int _), .int k a, .int k' b=>if k=k' then some (a == b) else none
  | some .string, .string a, .string b=>some (a == b)
  | some (.pointer _), .pointer none, .pointer b=>some b.isNone
  | some (.pointer _), .pointer (some _), .pointer none=>some false
  | some (.interface _), .nilIface, .iface _ _=>some false
  | some (.interface _), .iface _ _, .nilIface=>some false
  | some (.struct fields), .agg xs, .agg ys=>if P.stoodInHeld t=false then aEqFields P (aEq P d) fields.toList xs ys else none
  | some (.slice _), .slice none _ _, .slice b _ _=>some b.isNone
  | some (.slice _), .slice (some _) _ _, .slice none _ _=>some false
  | some (.func _ _ _), .nilFunc, .nilFunc=>some true
  | some (.func _ _ _), .nilFunc, .func _ _ _=>some false
  | some (.func _ _ _), .func _ _ _, .nilFunc=>some false
  | _,_,_=>none
def l0:Nat:=20
def aEqTop (P:Program) (t:TypeId) (x y:Value):Option Bool:=
 match x,y with
 | .nilIface, .nilIface=>none
 | .agg _, .agg _=>if P.eqGuardType P.depth t=false then aEq P l0 t x y else none
 | _,_=>aEq P l0 t x y
def aInt (op:BinOp) (k:IntKind) (a b:Int):Option Value:=
 match op with
 | .add=>some (.int k (k.wrap (a+b)))
 | .sub=>some (.int k (k.wrap (a - b)))
 | .mul=>some (.int k (k.wrap (a * b)))
 | .quo=>if b=0 then none else some (.int k (k.wrap (a.tdiv b)))
 | .rem=>if b=0 then none else some (.int k (a.tmod b))
 | .and=>some (.int k (k.wrap (BitVec.ofInt k.bits a &&& BitVec.ofInt k.bits b).toNat))
 | .or=>some (.int k (k.wrap (BitVec.ofInt k.bits a ||| BitVec.ofInt k.bits b).toNat))
 | .eql=>some (.bool (a == b))
 | .neq=>some (.bool (a != b))
 | .lss=>some (.bool (decide (a<b)))
 | .leq=>some (.bool (decide (a≤b)))
 | .gtr=>some (.bool (decide (a>b)))
 | .geq=>some (.bool (decide (a≥b)))
 | _=>none
def aStr (op:BinOp) (x y:ByteArray):Option Value:=
 match op with
 | .add=>if ((x.size+y.size:Nat):Int)>IntKind.i64.max then none else some (.string (x++y))
 | .eql=>some (.bool (x.toList == y.toList))
 | .neq=>some (.bool !(x.toList == y.toList))
 | _=>none
def aBin (P:Program) (op:BinOp) (t:TypeId) (x y:Value):Option Value:=
 match x,y with
 | .int k a, .int k' b=>
  match op with
  | .shl=>if b<0 then none else some (.int k (k.wrap (a * 2 ^ (min b.toNat k.bits))))
  | .shr=>if b<0 then none else some (.int k (a.fdiv (2 ^ (min b.toNat k.bits))))
  | _=>if k=k' then aInt op k a b else none
 | .string a, .string b=>aStr op a b
 | x,y=>
  match op with
  | .eql=>(aEqTop P t x y).map .bool
  | .neq=>(aEqTop P t x y).map fun b=> .bool !b
  | _=>none
def aUn (op:UnOp) (x:Value):Option Value:=
 match op,x with
 | .neg, .int k n=>some (.int k (k.wrap (0 - n)))
 | .not, .bool b=>some (.bool !b)
 | _,_=>none
def aField (P:Program) (s:TypeId) (f:Nat) (x:Value):Option Value:=
 match P.underlying s,x with
 | some (.struct fields), .pointer (some a)=>(fields[f]?).bind fun fd=>(bW P fd.type).bind fun z=>if z=0∨a.spot≠none then none else some (.pointer (some (a.add fd.offset)))
 | _,_=>none
def aIndexAddr (P:Program) (t:TypeId) (x ix:Value):Option Value:=
 match P.underlying t,x,ix with
 | some (.slice e), .slice (some a) n _, .int _ i=>(bW P e).bind fun s=>if 0≤i∧i<n∧a.spot=none then some (.pointer (some (a.add (i.toNat * s)))) else none
 | some (.array n e), .pointer (some a), .int _ i=>(bW P e).bind fun s=>if 0≤i∧i<n∧a.spot=none then some (.pointer (some (a.add (i.toNat * s)))) else none
 | _,_,_=>none
def aIndex (P:Program) (t:TypeId) (x ix:Value):Option Value:=
 match P.underlying t,x,ix with
 | some .string, .string s, .int _ i=>if 0≤i then (s[i.toNat]?).map fun b=> .int .u8 b.toNat else none
 | some (.array n e), .agg cs, .int _ i=>(bW P e).bind fun s=>if 0≤i∧i<n then gF P e cs (i.toNat * s) else none
 | _,_,_=>none
def aFieldV (P:Program) (t:TypeId) (f:Nat) (x:Value):Option Value:=
 match P.underlying t,x with
 | some (.struct fields), .agg cs=>(fields[f]?).bind fun fd=>gF P fd.type cs fd.offset
 | _,_=>none
def aBnd (y:Nat):Value→Option Nat
 | .int _ i=>if 0≤i∧i≤y then some i.toNat else none
 | _=>none
def aLow (h:Nat) (m:Option Nat):Option Value→Option (Nat×Nat×Option Nat)
 | none=>some (0,h,m)
 | some l=>(aBnd h l).map fun l=>(l,h,m)
def aBounds (n:Nat) (lo hi mx:Option Value):Option (Nat×Nat×Option Nat):=
 match mx,hi with
 | none,none=>aLow n none lo
 | none,some h=>(aBnd n h).bind fun h=>aLow h none lo
 | some _,none=>none
 | some m,some h=>(aBnd n m).bind fun m=>(aBnd m h).bind fun h=>aLow h (some m) lo
def aSlice (P:Program) (t:TypeId) (x:Value) (lo hi mx:Option Value):Option Value:=
 match P.underlying t,x with
 | some .string, .string s=>if mx.isSome then none else (aBounds s.size lo hi none).map fun b=> .string (s.extract b.1 b.2.1)
 | some (.slice e), .slice a n c=>(bW P e).bind fun s=>(aBounds n lo hi mx).bind fun b=>
   let len:=b.2.1 - b.1
   let cap:=match b.2.2 with
    | some m=>if m=b.2.1 then len else len+2
    | none=>if c=n∧b.2.1=n then len else len+2
   match a with
   | none=>some (.slice none len cap)
   | some ad=>if ad.spot=none then some (.slice (some (ad.add (b.1 * s))) len cap) else none
 | _,_=>none
def aBuild (P:Program) (t:TypeId) (parts:List (Nat×Value)):Option Value:=
 (dO P t).bind fun z=>if clean z then
  match P.underlying t with
  | some (.struct fields)=>(fields.toList.mapM fun f=>(bW P f.type).map fun s=>(f.offset,s)).bind fun pj=>(Instr.fill (fun i=>pj[i]?) z.cells parts).map .agg
  | some (.array _ e)=>(bW P e).bind fun s=>(Instr.fill (fun i=>some (i * s,s)) z.cells parts).map .agg
  | _=>none
 else none
def aAssert (P:Program) (x:Value) (asserted:TypeId) (ok:Bool):Option Value:=
 match P.underlying asserted,x with
 | some (.interface _),_=>none
 | some _, .nilIface=>if ok then (dO P asserted).bind fun z=>if clean z then some (.tuple #[z, .bool false]) else none else none
 | some _, .iface t v=>
  if t=asserted then some (if ok then .tuple #[v, .bool true] else v)
  else if ok then (dO P asserted).bind fun z=>if clean z then some (.tuple #[z, .bool false]) else none else none
 | _,_=>none
def aLen (P:Program) (t:TypeId) (x:Value):Option Value:=
 match P.underlying t,x with
 | some .string, .string s=>some (.int .i64 s.size)
 | some (.slice _), .slice _ n _=>some (.int .i64 n)
 | some (.array n _),_=>some (.int .i64 n)
 | _,_=>none
def aMax:Value→List Value→Option Value
 | .int k x,[]=>some (.int k x)
 | .int k x, .int k' y::vs=>if k=k' then aMax (.int k (if y>x then y else x)) vs else none
 | _,_=>none
def jv:Value→List Value→Option Value
 | .int k x,[]=>some (.int k x)
 | .int k x, .int k' y::vs=>if k=k' then jv (.int k (if y<x then y else x)) vs else none
 | _,_=>none
end Go.Proofs.Ytcilejikekccmaa.Am
namespace Go.Proofs.Ytcilejikekccmaa.Am
open Go
abbrev gB:=(Nat→Value)×List Value×Nat
def AH.fresh (h:AH) (f:gB):Value×AH:=(f.1 h.next,h.alloc f.2.1 f.2.2)
def m1 (P:Program) (e:TypeId):Option gB:=
 (dO P e).bind fun z=>if clean z then some (fun id=> .pointer (some ⟨id,0,none⟩),z.cells.toList,0) else none
def ny (v:Value):Option gB:=some (fun id=> .pointer (some ⟨id,0,none⟩),v.cells.toList,0)
def aBuildSlice (P:Program) (t:TypeId) (len:Nat) (parts:List (Nat×Value)):Option gB:=
 match P.underlying t with
 | some (.slice e)=>(bW P e).bind fun s=>(dO P e).bind fun z=>
  if clean z=true∧len * s≤2 ^ 24∧0<s then
   (Instr.fill (fun i=>some (i * s,s)) ((Array.range (len * s)).map fun i=>z.cells[i % z.cells.size]!) parts).map fun cells=>
    (fun id=> .slice (some ⟨id,0,none⟩) len len,cells.toList,s)
  else none
 | _=>none
def aMakeSlice (P:Program) (t:TypeId) (l c:Value):Option gB:=
 match P.underlying t,l,c with
 | some (.slice e), .int _ n, .int _ m=>(bW P e).bind fun s=>(jj P e).bind fun bP=>(dO P e).bind fun z=>
  if clean z=true∧0<s∧0≤n∧n=m∧bP * n≤2 ^ 48∧n≤4611686018427387904 then
   some (fun id=> .slice (some ⟨id,0,none⟩) n.toNat n.toNat,((Array.range (n.toNat * s)).map fun i=>z.cells[i % z.cells.size]!).toList,s)
  else none
 | _,_,_=>none
def aFresh (P:Program) (ev:Operand→Value):Op→Option gB
 | .alloc e=>m1 P e
 | .box _ x=>ny (ev x)
 | .buildSlice t n ps=>aBuildSlice P t n (ps.toList.map fun p=>(p.1,ev p.2))
 | .makeSlice t l c=>aMakeSlice P t (ev l) (ev c)
 | _=>none
def AP:Op→Bool
 | .alloc _ | .box .. | .buildSlice .. | .makeSlice .. =>true
 | _=>false
def aLoad (P:Program) (t:TypeId) (x:Value) (h:AH):Option Value:=
 match x with
 | .pointer (some a)=>(P.underlying t).bind fun d=>
  if lJ d then (bW P t).bind fun s=>(h.cv a s).map fun cs=> .agg cs.toArray else h.load a
 | _=>none
def iO (P:Program) (t:TypeId) (x v:Value) (h:AH):Option AH:=
 match x with
 | .pointer (some a)=>(bW P t).bind fun s=>if v.cells.size=s then h.store a v.cells.toList else none
 | _=>none
def e9 (b:UInt8):Value:= .int .u8 b.toNat
def bytesOf:List Value→Option (List UInt8)
 | []=>some []
 | .int .u8 n::vs=>(bytesOf vs).map (UInt8.ofNat n.toNat::·)
 | _::_=>none
def aConvert (P:Program) (src dst:TypeId) (x:Value) (h:AH):Option (Value×AH):=
 match P.underlying src,P.underlying dst,x with
 | some _,some (.int k), .int _ n=>some (.int k (k.wrap n),h)
 | some _,some .string, .string s=>some (.string s,h)
 | some .string,some (.slice e), .string s=>
  match P.underlying e with
  | some (.int .u8)=>some (.slice (some ⟨h.next,0,none⟩) s.size (s.size+2),h.alloc (s.data.toList.map e9) 1)
  | _=>none
 | some (.slice _),some (.slice e), .slice (some a) n c=>
  match P.underlying e with
  | some (.int .u8)=>if src=dst∧0<n∧((h.ae a.block).map (·.own))=some true then some (x,h) else none
  | _=>none
 | some (.slice e),some .string, .slice none _ _=>
  match P.underlying e with
  | some (.int .u8)=>some (.string .empty,h)
  | _=>none
 | some (.slice e),some .string, .slice (some a) n _=>
  match P.underlying e with
  | some (.int .u8)=>if n=0 then some (.string .empty,h) else (h.cv a n).bind fun cs=>(bytesOf cs).map fun bs=>(.string ⟨bs.toArray⟩,h)
  | _=>none
 | _,_,_=>none
def aNews (s:Nat) (x:Value) (h:AH):Option (Nat×List Value):=
 match x with
 | .slice none n _=>if n=0 then some (0,[]) else none
 | .slice (some a) n _=>(h.cv a (n * s)).map fun cs=>(n,cs)
 | .string b=>if s=1 then some (b.size,b.data.toList.map e9) else none
 | _=>none
def appKind:TypeDesc→Bool
 | .slice _ | .string=>true
 | _=>false
def aAppend (P:Program) (t tx:TypeId) (sv x:Value) (h:AH):Option (Value×AH):=
 match P.underlying t,P.underlying tx,sv with
 | some (.slice e),some dx, .slice base n c=>
  if appKind dx=true then
  (bW P e).bind fun s=>(jj P e).bind fun bP=>(dO P e).bind fun z=>(aNews s x h).bind fun mx=>
  if clean z=true∧0<s∧z.cells.size=s∧(n+mx.1) * bP≤140737488355328∧n+mx.1≤4611686018427387904∧mx.2.all Value.oneCell'=true then
   if mx.1=0 then some (sv,h) else
   match base with
   | none=>if n=0∧c=0 then some (.slice (some ⟨h.next,0,none⟩) mx.1 (mx.1+1),h.alloc mx.2 s) else none
   | some a=>
    if c=n then (h.cv a (n * s)).bind fun cK=>some (.slice (some ⟨h.next,0,none⟩) (n+mx.1) (n+mx.1+1),h.alloc (cK++mx.2) s)
    else if c=n+1∧a.spot=none then (h.ae a.block).bind fun B=>
     if B.own=true∧B.dA=s∧a.off+n * s=B.cells.length then
      some (.slice (some ⟨h.next,0,none⟩) (n+mx.1) (n+mx.1+1),(h.put a.block none).alloc (B.cells.drop a.off++mx.2) s)
     else none
    else none
  else none
  else none
 | _,_,_=>none
def aCopy (P:Program) (t:TypeId) (d s:Value) (h:AH):Option (Value×AH):=
 match P.underlying t,d,s with
 | some (.slice e), .slice db n _, .slice sb m _=>(bW P e).bind fun z=>
  if Nat.min m n=0 then some (.int .i64 0,h) else
  match db,sb with
  | some a,some b=>(h.cv b (Nat.min m n * z)).bind fun cs=>(h.store a cs).map fun h'=>(.int .i64 (Nat.min m n),h')
  | _,_=>none
 | _,_,_=>none
abbrev cy:=FuncId→List Value→AH→Option (Value×AH)
def aBuiltin (P:Program) (b:Builtin) (ts:List TypeId) (args:List Value) (h:AH):Option (Value×AH):=
 match b,ts,args with
 | .append,[t,tx],[s,x]=>aAppend P t tx s x h
 | .copy,[t,_],[d,s]=>aCopy P t d s h
 | .len,t::_,x::_=>(aLen P t x).map (·,h)
 | .max,_,x::vs=>(aMax x vs).map (·,h)
 | .min,_,x::vs=>(jv x vs).map (·,h)
 | _,_,_=>none
def aOp (P:Program) (call:cy) (ev:Operand→Value) (op:Op) (h:AH):Option (Value×AH):=
 match op with
 | .move x | .assign x=>some (ev x,h)
 | .pick c a b=>match ev c with | .bool t=>some (if t then ev a else ev b,h) | _=>none
 | .alloc e=>(m1 P e).map h.fresh
 | .box _ x=>(ny (ev x)).map h.fresh
 | .build t ps=>(aBuild P t (ps.toList.map fun p=>(p.1,ev p.2))).map (·,h)
 | .buildSlice t n ps=>(aBuildSlice P t n (ps.toList.map fun p=>(p.1,ev p.2))).map h.fresh
 | .load t a=>(aLoad P t (ev a) h).map (·,h)
 | .store t a x=>(iO P t (ev a) (ev x) h).map (undef,·)
 | .nilCheck x=>match ev x with
  | .pointer (some a)=>some (.pointer (some a),h)
  | .func (.func f) fi ca=>some (.func (.func f) fi ca,h)
  | _=>none
 | .binOp o t x y _=>(aBin P o t (ev x) (ev y)).map (·,h)
 | .unOp o _ x=>(aUn o (ev x)).map (·,h)
 | .convert s d x=>aConvert P s d (ev x) h
 | .makeInterface t x=>match P.underlying t with | some (.interface _)=>none | some _=>some (.iface t (ev x),h) | none=>none
 | .makeFunc (.func f) first captured=>some (.func (.func f) (first.map ev) (captured.map ev),h)
 | .makeSlice t l c=>(aMakeSlice P t (ev l) (ev c)).map h.fresh
 | .slice t x lo hi mx=>(aSlice P t (ev x) (lo.map ev) (hi.map ev) (mx.map ev)).map (·,h)
 | .fieldAddr s x f=>(aField P s f (ev x)).map (·,h)
 | .field t x f=>(aFieldV P t f (ev x)).map (·,h)
 | .indexAddr t x i=>(aIndexAddr P t (ev x) (ev i)).map (·,h)
 | .index t x i=>(aIndex P t (ev x) (ev i)).map (·,h)
 | .typeAssert x _ t ok=>(aAssert P (ev x) t ok).map (·,h)
 | .extract x i=>match ev x with | .tuple vs=>(vs[i]?).map (·,h) | _=>none
 | .call c=>match c.callee with
  | .builtin b=>aBuiltin P b c.argTypes.toList (c.args.toList.map ev) h
  | .value f=>match ev f with
   | .func (.func g) first captured=>call g (first.toList++c.args.toList.map ev++captured.toList) h
   | _=>none
  | .invoke _ _=>none
 | _=>none
def aYield (ops:Array Oper) (e:Env) (j:Nat):Option Bool:=
 match (ops[j]?).bind (·.dst) with
 | some d=>match e.get d with | .bool b=>some b | _=>none
 | none=>none
def b8 (ops:Array Oper) (e:Env) (o:Oper):Bool:=
 match o.guard with
 | none=>true
 | some (j,want)=>aYield ops e j == some want
def aOps (P:Program) (call:cy) (ops:Array Oper):List Oper→Env→AH→Option (Env×AH)
 | [],e,h=>some (e,h)
 | o::os,e,h=>
  if b8 ops e o then (aOp P call e.ev o.op h).bind fun r=>aOps P call ops os (e.put o.dst r.1) r.2
  else aOps P call ops os (e.put o.dst undef) h
inductive fu where
 | pure | look | fresh | make
 deriving DecidableEq
def cls (P:Program):Op→fu
 | .move _ | .assign _ | .pick .. | .build .. | .nilCheck _ | .binOp .. | .unOp .. | .makeInterface .. | .makeFunc .. | .slice .. | .fieldAddr .. | .field .. | .indexAddr .. | .index ..
 | .typeAssert .. | .extract .. => .pure
 | .load .. => .look
 | .alloc _ | .box .. | .buildSlice .. | .makeSlice .. => .fresh
 | .convert _ d _=>match P.underlying d with | some .string=> .look | some (.int _)=> .pure | _=> .make
 | .call c=>match c.callee with | .builtin .len | .builtin .max | .builtin .min=> .pure | _=> .make
 | _=> .make
def aLook (P:Program) (ev:Operand→Value) (op:Op) (h:AH):Option Value:=
 match op with
 | .load t a=>aLoad P t (ev a) h
 | .convert s d x=>(aConvert P s d (ev x) h).map (·.1)
 | _=>none
def q8 {α:Type} (m:Nat) (f:Nat→α):α:=match m with
 | 0=>f 0
 | n+1=>f (n+1)
theorem qv {α:Type} (m:Nat) (f:Nat→α):q8 m f=f m:=by cases m<;>rfl
def sW (o:Oper) (n:Nat) (acc:List Nat):Nat:=
 o.after.toList.foldl (fun m e=>if Region.binds .any e then Nat.lor (Nat.lor m (Nat.shiftLeft 1 e.on)) (if Nat.blt e.on n then acc.getD (n - 1 - e.on) 0 else 0) else m) 0
def predsAux:List Oper→Nat→List Nat→List Nat
 | [],_,acc=>acc.reverse
 | o::os,n,acc=>q8 (sW o n acc) fun m=>q8 (n+1) fun n=>predsAux os n (m::acc)
def da (ops:List Oper):List Nat:=predsAux ops 0 []
def ordered (ps:List Nat) (i j:Nat):Bool:=(ps.getD i 0).testBit j || (ps.getD j 0).testBit i
def sameV:Value→Value→Bool
 | .bool a, .bool b=>a == b
 | .int k a, .int l b=>decide (k=l) && decide (a=b)
 | .string a, .string b=>decide (a.data.toList=b.data.toList)
 | .pointer a, .pointer b=>decide (a=b)
 | .slice a n c, .slice b m d=>decide (a=b) && decide (n=m) && decide (c=d)
 | .agg cY, .agg bs=>decide (cY.size=bs.size) && (cY.toList.zip bs.toList).all fun x=>match x.1,x.2 with
  | .bool a, .bool b=>a == b
  | .int k a, .int l b=>decide (k=l) && decide (a=b)
  | .string a, .string b=>decide (a.data.toList=b.data.toList)
  | .pointer a, .pointer b=>decide (a=b)
  | .slice a n c, .slice b m d=>decide (a=b) && decide (n=m) && decide (c=d)
  | _,_=>false
 | _,_=>false
structure gb where
 e:Env
 h:AH
 looks:List (Nat×Env×Value)
 dS:List (Nat×AH)
def aDrawOp (P:Program) (call:cy) (ops:List Oper) (base i:Nat) (o:Oper) (s:gb):Option gb:=
 match cls P o.op with
 | .pure=>(aOp P call s.e.ev o.op s.h).map fun r=>{s with e:=s.e.put o.dst r.1}
 | .look=>(aLook P s.e.ev o.op s.h).bind fun v=>
  if s.dS.all (fun x=>ordered (da ops) i x.1 || (match aLook P s.e.ev o.op x.2 with | some u=>sameV v u | none=>false)) then
   some {s with e:=s.e.put o.dst v,looks:=(i,s.e,v)::s.looks}
  else none
 | .fresh=>(aFresh P s.e.ev o.op).map fun f=>{s with e:=s.e.put o.dst (f.1 (base+i)),h:={s.h with t:=s.h.t.set (base+i) (some ⟨f.2.1,true,f.2.2⟩)}}
 | .make=>(aOp P call s.e.ev o.op {s.h with low:=s.h.next}).bind fun r=>
  let h':AH:={r.2 with low:=if r.2.low<s.h.low then r.2.low else s.h.low}
  if s.h.next≤r.2.low then some {s with e:=s.e.put o.dst r.1,h:=h'}
  else if s.looks.all (fun x=>ordered (da ops) i x.1 || (match aLook P x.2.1.ev ((ops.getD x.1 default).op) h' with | some u=>sameV x.2.2 u | none=>false)) then
   some {s with e:=s.e.put o.dst r.1,h:=h',dS:=(i,s.h)::s.dS}
  else none
def aDraw (P:Program) (call:cy) (ops:Array Oper) (base:Nat):Nat→List Oper→gb→Option gb
 | _,[],s=>some s
 | i,o::os,s=>
  if b8 ops s.e o then (aDrawOp P call ops.toList base i o s).bind fun s'=>aDraw P call ops base (i+1) os s'
  else aDraw P call ops base (i+1) os {s with e:=s.e.put o.dst undef}
def fh (P:Program) (call:cy) (ops:Array Oper) (e:Env) (h:AH):Option (Env×AH):=
 (aDraw P call ops h.next 0 ops.toList ⟨e,{h with next:=h.next+ops.size},[],[]⟩).map fun s=>(s.e,s.h)
def qF (P:Program) (ops:List Oper):Bool:=
 let ms:=(List.range ops.length).filter fun j=>cls P (ops.getD j default).op= .make
 ms.all fun i=>ms.all fun j=>i == j || ordered (da ops) i j
inductive cZ where
 | normal | exit (id:Nat) | goto (l:Nat) | ret
abbrev fR:=Option (cZ×Env×AH)
def aLoop (body:Env→AH→fR):Nat→Env→AH→fR
 | 0,_,_=>none
 | k+1,e,h=>match body e h with
  | some (.normal,e',h')=>aLoop body k e' h'
  | r=>r
def aJump (run:Code→Env→AH→fR) (c:Code):Nat→Code→Env→AH→fR
 | 0,_,_,_=>none
 | k+1,cur,e,h=>match run cur e h with
  | some (.goto l,e',h')=>match findLabel c l with
   | some rest=>aJump run c k rest e' h'
   | none=>some (.goto l,e',h')
  | r=>r
def aCode (P:Program) (call:cy):Nat→Code→Env→AH→fR
 | 0,_,_,_=>none
 | k+1,c,e,h=>
  match c with
  | .skip | .label _=>some (.normal,e,h)
  | .region _ ops false=>(aOps P call ops ops.toList e h).map fun r=>(.normal,r.1,r.2)
  | .region _ ops true=>(fh P call ops e h).map fun r=>(.normal,r.1,r.2)
  | .seq a b=>match aCode P call k a e h with
   | some (.normal,e',h')=>aCode P call k b e' h'
   | r=>r
  | .cond c a b=>match e.ev c with
   | .bool t=>aCode P call k (if t then a else b) e h
   | _=>none
  | .block id c=>match aCode P call k c e h with
   | some (.exit i,e',h')=>if i=id then some (.normal,e',h') else some (.exit i,e',h')
   | r=>r
  | .loop c=>aLoop (aCode P call k c) k e h
  | .scope c=>aJump (aCode P call k) c k c e h
  | .exit id=>some (.exit id,e,h)
  | .goto l=>some (.goto l,e,h)
  | .ret=>some (.ret,e,h)
  | _=>none
def aResult (P:Program) (e:Env) (h:AH):ResultVar→Option Value
 | .tmp t=>some (e.get t)
 | .cell a t=>aLoad P t (e.get a) h
def aResults (P:Program) (rs:List ResultVar) (e:Env) (h:AH):Option Value:=
 (rs.mapM (aResult P e h)).map fun vs=>match vs with | [v]=>v | vs=> .tuple vs.toArray
def e4 (r:Bool) (h0:AH) (v:Value) (h1:AH):Value×AH:=
 if r=true∧h0.next≤h1.low∧clean v=true then (v,h0) else (v,{h1 with low:=if h1.low<h0.low then h1.low else h0.low})
def vf (P:Program) (t:TypeId):Bool:=match P.underlying t with
 | some .bool | some (.int _) | some .string=>true
 | _=>false
def gI (P:Program) (fn:Func):Bool:=Nat.beq fn.nfree 0 && fn.params.toList.all (vf P) && fn.resultTypes.toList.all (vf P)
def aCall (P:Program) (ov:cy):Nat→FuncId→List Value→AH→Option (Value×AH)
 | 0,f,args,h=>ov f args h
 | k+1,f,args,h=>
  match ov f args h with
  | some r=>some r
  | none=>
  (P.funcs[f]?).bind fun fn=>fn.body.bind fun c=>
  if args.length≤fn.ntmps then
   match aCode P (aCall P ov k) k c (Env.ofArgs 0 args .nil) {h with low:=h.next} with
   | some (.normal,e,h1) | some (.ret,e,h1)=>(aResults P fn.results.toList e h1).map fun v=>e4 (gI P fn) h v h1
   | _=>none
  else none
end Go.Proofs.Ytcilejikekccmaa.Am
namespace Go.Proofs.Ytcilejikekccmaa.Am
open Go
structure Place where
  ae:Nat
  off:Nat
  sz:Nat
  ext:Nat
abbrev aT:=Nat→Option Place
class Marks where
  mark:Nat→Int
variable [Marks]
def AR (ρ:aT) (a a':Addr):Prop:=a.spot=none∧∃ p,ρ a.block=some p∧a'=⟨p.ae,p.off+a.off,none⟩
inductive VR (ρ:aT):Value→Value→Prop
  | bool (b:Bool):VR ρ (.bool b) (.bool b)
  | int (k:IntKind) (n:Int):VR ρ (.int k n) (.int k n)
  | float (k:FloatKind) (n:Nat):VR ρ (.float k n) (.int .i64 (Marks.mark n))
  | string (s:ByteArray):VR ρ (.string s) (.string s)
  | nilFunc:VR ρ .nilFunc .nilFunc
  | nilIface:VR ρ .nilIface .nilIface
  | my:VR ρ (.pointer none) (.pointer none)
  | ptr {a a':Addr} (h:AR ρ a a'):VR ρ (.pointer (some a)) (.pointer (some a'))
  | fV {n c c':Nat} (h1:c=n→c'=n) (h2:n≤c'):VR ρ (.slice none n c) (.slice none n c')
  | sl {a a':Addr} {n c c':Nat} (h1:c=n→c'=n) (h2:n≤c') (j:0<n→AR ρ a a')
      (I:c=n+1→AR ρ a a'∧∃ p,ρ a.block=some p∧a.off+c' * p.sz≤p.ext):VR ρ (.slice (some a) n c) (.slice (some a') n c')
  | func (f:FuncId) {fi q1 ca rX:Array Value} (h1:fi.size=q1.size) (h2:∀ (i:Nat) v v',fi[i]?=some v→q1[i]?=some v'→VR ρ v v')
      (j:ca.size=rX.size) (I:∀ (i:Nat) v v',ca[i]?=some v→rX[i]?=some v'→VR ρ v v'):VR ρ (.func (.func f) fi ca) (.func (.func f) q1 rX)
  | iface (t:TypeId) {v v':Value} (h:VR ρ v v'):VR ρ (.iface t v) (.iface t v')
  | agg {cs aZ:Array Value} (h1:cs.size=aZ.size) (h2:∀ (i:Nat) v v',cs[i]?=some v→aZ[i]?=some v'→VR ρ v v'):VR ρ (.agg cs) (.agg aZ)
  | tuple {cs aZ:Array Value} (h1:cs.size=aZ.size) (h2:∀ (i:Nat) v v',cs[i]?=some v→aZ[i]?=some v'→VR ρ v v'):VR ρ (.tuple cs) (.tuple aZ)
def LR (ρ:aT) (l l':List Value):Prop:=l.length=l'.length∧∀ (i:Nat) v v',l[i]?=some v→l'[i]?=some v'→VR ρ v v'
def cD (ρ ρ':aT):Prop:=∀ b p,ρ b=some p→ρ' b=some p
theorem cD.refl (ρ:aT):cD ρ ρ:=fun _ _ h=>h
theorem cD.trans {a b c:aT} (h:cD a b) (h':cD b c):cD a c:=fun _ _ q=>h' _ _ (h _ _ q)
theorem AR.mono {ρ ρ':aT} (hr:cD ρ ρ') {a a':Addr} (h:AR ρ a a'):AR ρ' a a':=by
  obtain ⟨h1,p,h2,j⟩:=h
  exact ⟨h1,p,hr _ _ h2,j⟩
theorem VR.mono {ρ ρ':aT} (hr:cD ρ ρ') {v v':Value} (h:VR ρ v v'):VR ρ' v v':=by
  induction h with
  | bool b=>exact .bool b
  | int k n=>exact .int k n
  | float k n=>exact .float k n
  | string s=>exact .string s
  | nilFunc=>exact .nilFunc
  | nilIface=>exact .nilIface
  | my=>exact .my
  | ptr h=>exact .ptr (h.mono hr)
  | fV h1 h2=>exact .fV h1 h2
  | sl h1 h2 j I=>exact .sl h1 h2 (fun h=>(j h).mono hr) (fun h=>by
      obtain ⟨J,p,U,aa⟩:=I h
      exact ⟨J.mono hr,p,hr _ _ U,aa⟩)
  | func f h1 _ j _ ab ad=>exact .func f h1 ab j ad
  | iface t _ ih=>exact .iface t ih
  | agg h1 _ ih=>exact .agg h1 ih
  | tuple h1 _ ih=>exact .tuple h1 ih
theorem LR.mono {ρ ρ':aT} (hr:cD ρ ρ') {l l':List Value} (h:LR ρ l l'):LR ρ' l l':=⟨h.1,fun i v v' a b=>(h.2 i v v' a b).mono hr⟩
theorem LR.nil (ρ:aT):LR ρ [] []:=⟨rfl,fun i v v' h=>by simp at h⟩
theorem LR.cons {ρ:aT} {v v':Value} {l l':List Value} (h:VR ρ v v') (hl:LR ρ l l'):LR ρ (v::l) (v'::l'):=
  ⟨by simp [hl.1],fun i u u' a b=>by
    cases i with
    | zero=>simp at a b;subst a;subst b;exact h
    | succ i=>exact hl.2 i u u' (by simpa using a) (by simpa using b)⟩
theorem LR.head {ρ:aT} {v v':Value} {l l':List Value} (h:LR ρ (v::l) (v'::l')):VR ρ v v':=h.2 0 v v' (by simp) (by simp)
theorem LR.tail {ρ:aT} {v v':Value} {l l':List Value} (h:LR ρ (v::l) (v'::l')):LR ρ l l':=
  ⟨by have:=h.1;simpa using this,fun i u u' a b=>h.2 (i+1) u u' (by simpa using a) (by simpa using b)⟩
theorem LR.append {ρ:aT} {a a' b b':List Value} (h:LR ρ a a') (k:LR ρ b b'):LR ρ (a++b) (a'++b'):=by
  refine ⟨by simp [h.1,k.1],fun i v v' p q=>?_⟩
  by_cases hi:i<a.length
  · rw [List.getElem?_append_left hi] at p
    rw [List.getElem?_append_left (by rw [← h.1];exact hi)] at q
    exact h.2 i v v' p q
  · rw [List.getElem?_append_right (by omega)] at p
    rw [List.getElem?_append_right (by have:=h.1;omega)] at q
    rw [← h.1] at q
    exact k.2 _ v v' p q
theorem LR.take {ρ:aT} {a a':List Value} (h:LR ρ a a') (n:Nat):LR ρ (a.take n) (a'.take n):=by
  refine ⟨by simp [h.1],fun i v v' p q=>?_⟩
  rw [List.getElem?_take] at p q
  split at p
  · rename_i hi;rw [if_pos hi] at q;exact h.2 i v v' p q
  · cases p
theorem LR.drop {ρ:aT} {a a':List Value} (h:LR ρ a a') (n:Nat):LR ρ (a.drop n) (a'.drop n):=by
  refine ⟨by simp [h.1],fun i v v' p q=>?_⟩
  rw [List.getElem?_drop] at p q
  exact h.2 _ v v' p q
theorem LR.get {ρ:aT} {a a':List Value} (h:LR ρ a a') {i:Nat} {v:Value} (hv:a[i]?=some v):∃ v',a'[i]?=some v'∧VR ρ v v':=by
  have hi:i<a'.length:=by rw [← h.1];exact (List.getElem?_eq_some_iff.1 hv).1
  exact ⟨a'[i],List.getElem?_eq_getElem hi,h.2 i v _ hv (List.getElem?_eq_getElem hi)⟩
theorem LR.jy {ρ:aT} {cs aZ:Array Value} (h1:cs.size=aZ.size) (h2:∀ (i:Nat) v v',cs[i]?=some v→aZ[i]?=some v'→VR ρ v v'):LR ρ cs.toList aZ.toList:=
  ⟨by simpa using h1,fun i v v' a b=>h2 i v v' (by simpa using a) (by simpa using b)⟩
theorem LR.mE {ρ:aT} {l l':List Value} (h:LR ρ l l'):VR ρ (.agg l.toArray) (.agg l'.toArray):= .agg (by simpa using h.1) (fun i v v' a b=>h.2 i v v' (by simpa using a) (by simpa using b))
theorem LR.rT {ρ:aT} {l l':List Value} (h:LR ρ l l'):VR ρ (.tuple l.toArray) (.tuple l'.toArray):= .tuple (by simpa using h.1) (fun i v v' a b=>h.2 i v v' (by simpa using a) (by simpa using b))
theorem VR.undef (ρ:aT):VR ρ undef undef:= .tuple rfl (fun i v v' h=>by simp at h)
theorem vb (ρ:aT) {v:Value} (h:oneClean v=true):VR ρ v v:=by
  cases v<;>simp [oneClean] at h<;>try constructor
  case pointer a=>cases a<;>simp at h;exact .my
  case slice a n c=>
    cases a with
    | none=>exact .fV (fun e=>e) (by simpa using h)
    | some a=>simp at h
theorem oX (ρ:aT) {l:List Value} (h:∀ v∈l,VR ρ v v):LR ρ l l:=
  ⟨rfl,fun i v v' a b=>by rw [a] at b;cases b;exact h v (List.mem_of_getElem? a)⟩
theorem rv (ρ:aT) {v:Value} (h:clean1 v=true):VR ρ v v:=by
  cases v
  case agg cs=>
    simp only [clean1,List.all_eq_true] at h
    have:=LR.mE (oX ρ fun v hv=>vb ρ (h v hv))
    simpa using this
  all_goals exact vb ρ h
theorem l4 (ρ:aT) {v:Value} (h:clean v=true):VR ρ v v:=by
  cases v
  case tuple cs=>
    simp only [clean,List.all_eq_true] at h
    have:=LR.rT (oX ρ fun v hv=>rv ρ (h v hv))
    simpa using this
  case iface t v=>exact .iface t (rv ρ h)
  case func fn fi ca=>
    cases fn<;>simp [clean,clean1,oneClean] at h
    obtain ⟨h1,h2⟩:=h
    subst h1;subst h2
    exact .func _ rfl (fun i v v' h=>by simp at h) rfl (fun i v v' h=>by simp at h)
  all_goals exact rv ρ h
theorem VR.qM {ρ:aT} {v v':Value} (h:VR ρ v v'):v'.oneCell'=v.oneCell':=by cases h<;>rfl
theorem VR.cells {ρ:aT} {v v':Value} (h:VR ρ v v'):LR ρ v.cells.toList v'.cells.toList:=by
  cases h<;>first
    | (rename_i h1 h2;exact LR.jy h1 h2)
    | (simp only [Value.cells];exact LR.cons (by constructor<;>assumption) (LR.nil _))
section
variable {P:Program}
theorem cq {t:TypeId} {d:TypeDesc} (h:P.underlying t=some d) (w:World):(underlying t).run P w= .ok d w:=by simp [underlying,h]
theorem x6 {t:TypeId} {s:Nat} (h:bW P t=some s):∃ i,P.info? t=some i∧i.size=s:=by
  unfold bW at h
  cases hi:P.info? t with
  | none=>rw [hi] at h;cases h
  | some i=>rw [hi] at h;exact ⟨i,rfl,by simpa using h⟩
theorem e3 {t:TypeId} {s:Nat} (h:bW P t=some s) (w:World):(sizeOf t).run P w= .ok s w:=by
  obtain ⟨i,hi,rfl⟩:=x6 h
  simp [sizeOf,typeInfo,hi]
theorem j6 {t:TypeId} {z:Value} (h:dO P t=some z) (w:World):(zeroValue t).run P w= .ok z w:=by
  unfold dO at h
  cases hi:P.info? t with
  | none=>rw [hi] at h;cases h
  | some i=>rw [hi] at h;simp at h;simp [zeroValue,typeInfo,hi,h]
theorem oT {t:TypeId} {d:TypeDesc} (h:P.underlying t=some d) (w:World):(isAgg t).run P w= .ok (lJ d) w:=by
  simp only [isAgg,Sem.run_bind,cq h,Result.andThen_ok]
  cases d<;>rfl
theorem pE {ρ:aT} {a a':Addr} (h:AR ρ a a') (n:Nat):AR ρ (a.add n) (a'.add n):=by
  obtain ⟨h1,p,h2,rfl⟩:=h
  unfold Addr.add
  by_cases hn:n=0
  · simp only [hn,if_true];exact ⟨h1,p,h2,rfl⟩
  · simp only [hn,if_false];exact ⟨rfl,p,h2,by simp [Nat.add_assoc]⟩
theorem pL {ρ:aT} {t:TypeId} {cs aZ:Array Value} {off:Nat} {v:Value} (h:gF P t cs off=some v) (hl:LR ρ cs.toList aZ.toList):
    ∃ v',VR ρ v v'∧∀ w,(part t aZ off).run P w= .ok v' w:=by
  unfold gF at h
  cases hd:P.underlying t with
  | none=>rw [hd] at h;cases h
  | some d=>
    rw [hd] at h
    simp only [Option.bind_some] at h
    by_cases ha:lJ d=true
    · rw [if_pos ha] at h
      cases hs:bW P t with
      | none=>rw [hs] at h;cases h
      | some s=>
        rw [hs] at h
        simp at h
        subst h
        refine ⟨.agg (aZ.extract off (off+s)),?_,fun w=>?_⟩
        · have he:∀ c:Array Value,c.extract off (off+s)=((c.toList.drop off).take s).toArray:=fun c=>by apply Array.ext';simp
          rw [he,he]
          exact LR.mE ((hl.drop off).take s)
        · simp [part,oT hd,ha,e3 hs]
    · rw [if_neg ha] at h
      obtain ⟨v',rz,hr⟩:=hl.get (show cs.toList[off]?=some v by simpa using h)
      refine ⟨v',hr,fun w=>?_⟩
      have Aj:aZ[off]?=some v':=by simpa using rz
      simp [part,oT hd,ha,Aj]
theorem forIn_eq (D:Nat) (oo oN:Array Value) (eqs:TypeId→Value→Value→Option Bool)
    (heq:∀ t x y b,eqs t x y=some b→∀ {ρ:aT} {x' y':Value},VR ρ x x'→VR ρ y y'→∀ w,(Op.equalIn D t x' y').run P w= .ok b w)
    {ρ:aT} {xs ys:Array Value} (hx:LR ρ xs.toList oo.toList) (hy:LR ρ ys.toList oN.toList):
    ∀ (fs:List Field) (b:Bool),aEqFields P eqs fs xs ys=some b→∀ w,
      (do for f in fs do
            if f.name≠ "_" then
              if !(← Op.equalIn D f.type (← part f.type oo f.offset) (← part f.type oN f.offset)) then return false
          pure true:Sem Bool).run P w= .ok b w:=by
  intro fs
  induction fs with
  | nil=>intro b h w;simp [aEqFields] at h;subst h;simp
  | cons f fs ih=>
    intro b h w
    simp only [aEqFields] at h
    by_cases hn:f.name≠ "_"
    · rw [if_pos hn] at h
      cases ha:gF P f.type xs f.offset with
      | none=>rw [ha] at h;cases h
      | some a=>
        cases hb:gF P f.type ys f.offset with
        | none=>rw [ha,hb] at h;cases h
        | some c=>
          rw [ha,hb] at h
          simp only at h
          obtain ⟨a',ra,sL⟩:=pL ha hx
          obtain ⟨c',rc,dN⟩:=pL hb hy
          cases he:eqs f.type a c with
          | none=>rw [he] at h;cases h
          | some e=>
            rw [he] at h
            have hJ:=heq _ _ _ _ he ra rc w
            cases e with
            | true=>
              have:=ih b h w
              simp only [List.forIn_cons,Sem.run_bind,hn,ne_eq,not_false_eq_true,if_true,sL,dN,Result.andThen_ok,hJ,Sem.run_pure] at this ⊢
              simpa using this
            | false=>
              simp only at h
              cases h
              simp only [List.forIn_cons,Sem.run_bind,hn,ne_eq,not_false_eq_true,if_true,sL,dN,Result.andThen_ok,hJ,Sem.run_pure]
              simp
    · rw [if_neg hn] at h
      have:=ih b h w
      simp only [List.forIn_cons,Sem.run_bind,hn,ne_eq,if_false,Sem.run_pure,Result.andThen_ok] at this ⊢
      simpa using this
theorem Ew:∀ (d:Nat) (t:TypeId) (x y:Value) (b:Bool),aEq P d t x y=some b→∀ (D:Nat),d≤D→∀ {ρ:aT} {x' y':Value},VR ρ x x'→VR ρ y y'→∀ w,(Op.equalIn D t x' y').run P w= .ok b w:=by
  intro d
  induction d with
  | zero=>intro t x y b h;simp [aEq] at h
  | succ d ih=>
    intro t x y b h D hD ρ x' y' hx hy w
    obtain ⟨D,rfl⟩:∃ m,D=m+1:=⟨D - 1,by omega⟩
    cases hu:P.underlying t with
    | none=>simp [aEq,hu] at h
    | some u=>
      cases u<;>simp only [aEq,hu] at h<;>try (exact absurd h (by simp;done))
      case bool=>cases hx<;>first | (simp at h;done) | (cases hy<;>first | (simp at h;done) | (simp at h;simp [Op.equalIn,cq hu,h]))
      case int k=>cases hx<;>first | (simp at h;done) | (cases hy<;>first | (simp at h;done) | (simp at h;simp [Op.equalIn,cq hu,h]))
      case string=>cases hx<;>first | (simp at h;done) | (cases hy<;>first | (simp at h;done) | (simp at h;simp [Op.equalIn,cq hu,h]))
      case pointer e=>cases hx<;>first | (simp at h;done) | (cases hy<;>first | (simp at h;done) | (simp at h;simp [Op.equalIn,cq hu,h]))
      case interface ms=>cases hx<;>first | (simp at h;done) | (cases hy<;>first | (simp at h;done) | (simp at h;simp [Op.equalIn,cq hu,h]))
      case slice e=>cases hx<;>first | (simp at h;done) | (cases hy<;>first | (simp at h;done) | (simp at h;simp [Op.equalIn,cq hu,h]))
      case func a1 ab ad=>cases hx<;>first | (simp at h;done) | (cases hy<;>first | (simp at h;done) | (simp at h;simp [Op.equalIn,cq hu,h]))
      case struct fields=>
        cases hx<;>first | (simp at h;done) | skip
        cases hy<;>first | (simp at h;done) | skip
        rename_i xs oo j I ys oN J U
        simp only at h
        split at h
        · rename_i bd
          have:=forIn_eq (P:=P) D oo oN (aEq P d) (fun t x y b he {ρ} {x'} {y'} r1 aa w=>ih t x y b he D (by omega) r1 aa w) (LR.jy j I) (LR.jy J U) fields.toList b h w
          simp only [Op.equalIn,Sem.run_bind,cq hu,Result.andThen_ok,run_program,bd,Bool.false_eq_true,if_false]
          simpa using this
        · cases h
theorem yk (op:BinOp) {a b:ByteArray} {v:Value} (h:aStr op a b=some v) (w:World):(Op.stringOp op a b).run P w= .ok v w:=by
  cases op<;>simp [aStr] at h
  case add=>obtain ⟨h1,rfl⟩:=h;simp [Op.stringOp,h1]
  case eql=>subst h;simp [Op.stringOp]
  case neq=>subst h;simp [Op.stringOp]
theorem zU {op:BinOp} {a b:ByteArray} {v:Value} (h:aStr op a b=some v) (ρ:aT):VR ρ v v:=by
  cases op<;>simp [aStr] at h
  case add=>obtain ⟨h1,rfl⟩:=h;exact .string _
  case eql=>subst h;exact .bool _
  case neq=>subst h;exact .bool _
theorem Bl (t:TypeId) (op:BinOp) (k:IntKind) {a b:Int} {v:Value} (h:aInt op k a b=some v) (w:World):(binOp op t (.int k a) (.int k b)).run P w= .ok v w:=by
  cases op<;>simp [aInt] at h
  all_goals first
    | (subst h;simp [binOp,Op.intArith,Op.intCmp,Op.intBits];done)
    | (obtain ⟨h1,rfl⟩:=h;simp [binOp,Op.intDiv,h1])
theorem zI {op:BinOp} {k:IntKind} {a b:Int} {v:Value} (h:aInt op k a b=some v) (ρ:aT):VR ρ v v:=by
  cases op<;>simp [aInt] at h
  all_goals first
    | (subst h;first | exact .int _ _ | exact .bool _)
    | (obtain ⟨h1,rfl⟩:=h;first | exact .int _ _ | exact .bool _)
def jF (op:BinOp) (t:TypeId) (xo yo:Operand) (x y:Value):Sem Value:=do eqGuard op t xo yo x y;binOp op t x y
theorem uw {t:TypeId} {x y:Value} {b:Bool} (h:aEqTop P t x y=some b) {ρ:aT} {x' y':Value} (hx:VR ρ x x') (hy:VR ρ y y') (op:BinOp) (av:op= .eql∨op= .neq) (xo yo:Operand) (w:World):
    (eqGuard op t xo yo x' y').run P w= .ok () w∧(Op.equal t x' y').run P w= .ok b w:=by
  have gw:∀ cs ds,x'= .agg cs→y'= .agg ds→P.eqGuardType P.depth t=false:=by
    intro cs ds hc hd
    subst hc;subst hd
    cases hx;cases hy
    simp only [aEqTop] at h
    split at h
    · assumption
    · cases h
  have DG:¬ (x'= .nilIface∧y'= .nilIface):=by
    rintro ⟨rfl,rfl⟩
    cases hx;cases hy
    simp [aEqTop] at h
  have he:aEq P l0 t x y=some b:=by
    unfold aEqTop at h
    split at h
    · cases h
    · split at h
      · exact h
      · cases h
    · exact h
  refine ⟨?_,Ew _ _ _ _ _ he _ (by decide) hx hy w⟩
  have bU:(!(match op with | .eql | .neq=>true | _=>false))=false:=by rcases av with rfl | rfl<;>rfl
  unfold eqGuard
  rcases av with rfl | rfl
  all_goals
    simp only [Bool.not_true,Bool.false_eq_true,if_false]
    split
    · exact absurd ⟨rfl,rfl⟩ DG
    · rename_i cs ds
      have:=gw cs ds rfl rfl
      simp [this]
    · rfl
theorem vu (d:Nat) (t:TypeId) (k:FloatKind) (a:Nat) (y:Value):aEq P d t (.float k a) y=none:=by
  cases d with
  | zero=>rfl
  | succ d=>simp only [aEq];cases P.underlying t with
    | none=>rfl
    | some u=>cases u<;>rfl
theorem sw (d:Nat) (t:TypeId) (k:FloatKind) (a:Nat) (x:Value):aEq P d t x (.float k a)=none:=by
  cases d with
  | zero=>rfl
  | succ d=>simp only [aEq];cases P.underlying t with
    | none=>rfl
    | some u=>cases u<;>cases x<;>first | rfl | (rename_i o;cases o<;>rfl) | (rename_i o _ _;cases o<;>rfl)
theorem xR {op:BinOp} {t:TypeId} {x y v:Value} (h:aBin P op t x y=some v):(∀ k n,x≠ .float k n)∧∀ k n,y≠ .float k n:=by
  refine ⟨fun k n e=>?_,fun k n e=>?_⟩
  · subst e
    have:aEqTop P t (.float k n) y=none:=by simp only [aEqTop,vu]
    simp only [aBin,this] at h
    cases op<;>simp at h
  · subst e
    have:aEqTop P t x (.float k n)=none:=by simp only [aEqTop,sw]
    simp only [aBin,this] at h
    cases op<;>simp at h
theorem uH {t:TypeId} {x y:Value} {b:Bool} (h:aEqTop P t x y=some b) {ρ:aT} {x' y':Value} (hx:VR ρ x x') (hy:VR ρ y y') (h1:¬ ∃ k a k' b,x'= .int k a∧y'= .int k' b) (h2:¬ ∃ a b,x'= .string a∧y'= .string b):
    binOp .eql t x' y'=(do pure (.bool (← Op.equal t x' y')))∧binOp .neq t x' y'=(do pure (.bool (!(← Op.equal t x' y')))):=by
  cases hx<;>cases hy<;>first
    | exact ⟨rfl,rfl⟩
    | exact absurd ⟨_,_,_,_,rfl,rfl⟩ h1
    | exact absurd ⟨_,_,rfl,rfl⟩ h2
    | (exfalso;simp only [aEqTop,vu,sw] at h;cases h)
theorem zK {op:BinOp} {t:TypeId} {x y v:Value} (h:aBin P op t x y=some v) {ρ:aT} {x' y':Value} (hx:VR ρ x x') (hy:VR ρ y y') (xo yo:Operand):
    VR ρ v v∧∀ w,(jF op t xo yo x' y').run P w= .ok v w:=by
  obtain ⟨aa,ab⟩:=xR h
  by_cases hint:∃ k a k' b,x= .int k a∧y= .int k' b
  · obtain ⟨k,a,k',b,rfl,rfl⟩:=hint
    cases hx;cases hy
    have hg:∀ w,(eqGuard op t xo yo (.int k a) (.int k' b)).run P w= .ok () w:=by
      intro w;unfold eqGuard;split<;>simp
    simp only [aBin] at h
    split at h
    · split at h
      · cases h
      · rename_i hb;simp at h;subst h
        exact ⟨.int _ _,fun w=>by simp [jF,hg,binOp,Op.shift,hb]⟩
    · split at h
      · cases h
      · rename_i hb;simp at h;subst h
        exact ⟨.int _ _,fun w=>by simp [jF,hg,binOp,Op.shift,hb]⟩
    · split at h
      · rename_i hk;subst hk
        exact ⟨zI h ρ,fun w=>by simp [jF,hg,Bl t op k h w]⟩
      · cases h
  by_cases sh:∃ a b,x= .string a∧y= .string b
  · obtain ⟨a,b,rfl,rfl⟩:=sh
    cases hx;cases hy
    have hg:∀ w,(eqGuard op t xo yo (.string a) (.string b)).run P w= .ok () w:=by
      intro w;unfold eqGuard;split<;>simp
    simp only [aBin] at h
    refine ⟨zU h ρ,fun w=>?_⟩
    have:=yk (P:=P) op h w
    cases op<;>simp [aStr] at h<;>simp [jF,hg,binOp,this]
  have J:¬ ∃ k a k' b,x'= .int k a∧y'= .int k' b:=by
    rintro ⟨k,a,k',b,rfl,rfl⟩
    cases hx with
    | float=>exact aa _ _ rfl
    | int=>
      cases hy with
      | float=>exact ab _ _ rfl
      | int=>exact hint ⟨_,_,_,_,rfl,rfl⟩
  have U:¬ ∃ a b,x'= .string a∧y'= .string b:=by
    rintro ⟨a,b,rfl,rfl⟩;cases hx;cases hy;exact sh ⟨_,_,rfl,rfl⟩
  unfold aBin at h
  split at h
  · exact absurd ⟨_,_,_,_,rfl,rfl⟩ hint
  · exact absurd ⟨_,_,rfl,rfl⟩ sh
  · split at h
    · cases hb:aEqTop P t x y with
      | none=>rw [hb] at h;cases h
      | some b=>
        rw [hb] at h;simp at h;subst h
        refine ⟨.bool _,fun w=>?_⟩
        obtain ⟨j,I⟩:=uw hb hx hy .eql (.inl rfl) xo yo w
        simp [jF,j,(uH hb hx hy J U).1,I]
    · cases hb:aEqTop P t x y with
      | none=>rw [hb] at h;cases h
      | some b=>
        rw [hb] at h;simp at h;subst h
        refine ⟨.bool _,fun w=>?_⟩
        obtain ⟨j,I⟩:=uw hb hx hy .neq (.inr rfl) xo yo w
        simp [jF,j,(uH hb hx hy J U).2,I]
    · cases h
end
end Go.Proofs.Ytcilejikekccmaa.Am
namespace Go.Proofs.Ytcilejikekccmaa.Am
open Go
variable [Marks]
section
variable {P:Program} {ρ:aT}
theorem wo {op:UnOp} {x v x':Value} (h:aUn op x=some v) (hx:VR ρ x x'):∃ v',VR ρ v v'∧∀ w,(Op.unary op x').run P w= .ok v' w:=by
 cases hx<;>cases op<;>simp [aUn] at h
 all_goals (subst h;first | exact ⟨_, .int _ _,fun w=>by simp [Op.unary,Op.intArith]⟩ | exact ⟨_, .bool _,fun w=>by simp [Op.unary]⟩)
theorem yd {s:TypeId} {f:Nat} {x v x':Value} (h:aField P s f x=some v) (hx:VR ρ x x'):∃ v',VR ρ v v'∧∀ w,(Instr.fieldAt s x' f).run P w= .ok v' w:=by
 unfold aField at h
 split at h
 ·rename_i fields a hu
  cases hx
  rename_i a' ha
  cases hf:fields[f]? with
  | none=>rw [hf] at h;cases h
  | some fd=>
   rw [hf] at h
   simp only [Option.bind_some] at h
   cases hs:bW P fd.type with
   | none=>rw [hs] at h;cases h
   | some z=>
    rw [hs] at h
    simp only [Option.bind_some] at h
    split at h
    ·cases h
    ·rename_i hz
     simp at h;subst h
     refine ⟨_, .ptr (pE ha fd.offset),fun w=>?_⟩
     have j:z≠0:=fun e=>hz (.inl e)
     simp [Instr.fieldAt,cq hu,hf,Instr.sureAddr,fieldPlace,e3 hs,j]
 ·cases h
theorem En {t:TypeId} {x ix v x' mQ:Value} (h:aIndexAddr P t x ix=some v) (hx:VR ρ x x') (hi:VR ρ ix mQ):∃ v',VR ρ v v'∧∀ w,(Instr.indexAt t x' mQ).run P w= .ok v' w:=by
 unfold aIndexAddr at h
 split at h
 ·rename_i e a n c k i hu
  cases hi
  have m2:∃ a' c',x'= .slice (some a') n c'∧(0<n→AR ρ a a'):=by
   cases hx with
   | sl h1 h2 j I=>exact ⟨_,_,rfl,j⟩
  obtain ⟨a',c',rfl,j⟩:=m2
  cases hs:bW P e with
  | none=>rw [hs] at h;cases h
  | some s=>
   rw [hs] at h
   simp only [Option.bind_some] at h
   split at h
   ·rename_i hc
    simp at h;subst h
    refine ⟨_, .ptr (pE (j (by omega)) (i.toNat * s)),fun w=>?_⟩
    simp [Instr.indexAt,asIntOf,cq hu,hc.1,hc.2.1,e3 hs]
   ·cases h
 ·rename_i n e a k i hu
  cases hi
  cases hx
  rename_i a' ha
  cases hs:bW P e with
  | none=>rw [hs] at h;cases h
  | some s=>
   rw [hs] at h
   simp only [Option.bind_some] at h
   split at h
   ·rename_i hc
    simp at h;subst h
    refine ⟨_, .ptr (pE ha (i.toNat * s)),fun w=>?_⟩
    simp [Instr.indexAt,asIntOf,cq hu,hc.1,hc.2.1,e3 hs,Instr.sureAddr]
   ·cases h
 ·cases h
theorem D0 {t:TypeId} {x ix v x' mQ:Value} (h:aIndex P t x ix=some v) (hx:VR ρ x x') (hi:VR ρ ix mQ):∃ v',VR ρ v v'∧∀ w,(Instr.index t x' mQ).run P w= .ok v' w:=by
 unfold aIndex at h
 split at h
 ·rename_i s k i hu
  cases hi;cases hx
  split at h
  ·rename_i h0
   cases hb:s[i.toNat]? with
   | none=>rw [hb] at h;cases h
   | some b=>
    rw [hb] at h;simp at h;subst h
    exact ⟨_, .int _ _,fun w=>by simp [Instr.index,asIntOf,cq hu,h0,hb]⟩
  ·cases h
 ·rename_i n e cs k i hu
  cases hi;cases hx
  rename_i aZ j I
  cases hs:bW P e with
  | none=>rw [hs] at h;cases h
  | some s=>
   rw [hs] at h
   simp only [Option.bind_some] at h
   split at h
   ·rename_i hc
    obtain ⟨v',hv,hr⟩:=pL h (LR.jy j I)
    exact ⟨v',hv,fun w=>by simp [Instr.index,asIntOf,cq hu,hc.1,hc.2,e3 hs,hr]⟩
   ·cases h
 ·cases h
theorem xS {t:TypeId} {f:Nat} {x v x':Value} (h:aFieldV P t f x=some v) (hx:VR ρ x x'):∃ v',VR ρ v v'∧∀ w,(Instr.field t x' f).run P w= .ok v' w:=by
 unfold aFieldV at h
 split at h
 ·rename_i fields cs hu
  cases hx
  rename_i aZ j I
  cases hf:fields[f]? with
  | none=>rw [hf] at h;cases h
  | some fd=>
   rw [hf] at h
   simp only [Option.bind_some] at h
   obtain ⟨v',hv,hr⟩:=pL h (LR.jy j I)
   exact ⟨v',hv,fun w=>by simp [Instr.field,cq hu,hf,asAgg,hr]⟩
 ·cases h
theorem Eu {t ty:TypeId} {ts:Array TypeId} {x v x':Value} {args:Array Value} (h:aLen P t x=some v) (hx:VR ρ x x') (ht:ts[0]?=some t) (ha:args[0]?=some x'):VR ρ v v∧∀ w,(Builtin.len_ ts ty args).run P w= .ok v w:=by
 unfold aLen at h
 split at h
 ·rename_i s hu;cases hx;simp at h;subst h
  exact ⟨.int _ _,fun w=>by simp [Builtin.len_,ht,ha,cq hu,goInt]⟩
 ·rename_i e a n c hu
  simp at h;subst h
  cases hx<;>exact ⟨.int _ _,fun w=>by simp [Builtin.len_,ht,ha,cq hu,goInt]⟩
 ·rename_i n e hu
  simp at h;subst h
  exact ⟨.int _ _,fun w=>by simp [Builtin.len_,ht,ha,cq hu,goInt]⟩
 ·cases h
theorem LR.cons_inv {v:Value} {vs l':List Value} (h:LR ρ (v::vs) l'):∃ v' cO,l'=v'::cO∧VR ρ v v'∧LR ρ vs cO:=by
 cases l' with
 | nil=>have:=h.1;simp at this
 | cons v' cO=>exact ⟨v',cO,rfl,h.head,h.tail⟩
theorem LR.ln {l':List Value} (h:LR ρ [] l'):l'=[]:=by
 cases l' with
 | nil=>rfl
 | cons v' cO=>have:=h.1;simp at this
theorem yv:∀ (vs cO:List Value) (x v:Value),aMax x vs=some v→LR ρ vs cO→∀ w,(cO.foldlM Builtin.max2 x).run P w= .ok v w∧VR ρ v v:=by
 intro vs
 induction vs with
 | nil=>
  intro cO x v h hl w
  obtain rfl:=hl.ln
  cases x<;>simp [aMax] at h
  subst h
  exact ⟨by simp, .int _ _⟩
 | cons y vs ih=>
  intro cO x v h hl w
  obtain ⟨y',cO,rfl,hy,jh⟩:=hl.cons_inv
  cases x<;>cases hy<;>simp only [aMax] at h<;>first | (cases h;done) | skip
  rename_i k x k' y
  split at h
  ·rename_i hk;subst hk
   have:=ih cO _ v h jh w
   simpa [List.foldlM_cons,Builtin.max2] using this
  ·cases h
theorem Ca:∀ (vs cO:List Value) (x v:Value),jv x vs=some v→LR ρ vs cO→∀ w,(cO.foldlM Builtin.min2 x).run P w= .ok v w∧VR ρ v v:=by
 intro vs
 induction vs with
 | nil=>
  intro cO x v h hl w
  obtain rfl:=hl.ln
  cases x<;>simp [jv] at h
  subst h
  exact ⟨by simp, .int _ _⟩
 | cons y vs ih=>
  intro cO x v h hl w
  obtain ⟨y',cO,rfl,hy,jh⟩:=hl.cons_inv
  cases x<;>cases hy<;>simp only [jv] at h<;>first | (cases h;done) | skip
  rename_i k x k' y
  split at h
  ·rename_i hk;subst hk
   have:=ih cO _ v h jh w
   simpa [List.foldlM_cons,Builtin.min2] using this
  ·cases h
theorem Dp {x v x':Value} {xt asserted:TypeId} {ok:Bool} (h:aAssert P x asserted ok=some v) (hx:VR ρ x x'):∃ v',VR ρ v v'∧∀ w,(Instr.typeAssert x' xt asserted ok).run P w= .ok v' w:=by
 have zr:∀ z,dO P asserted=some z→clean z=true→VR ρ (.tuple #[z, .bool false]) (.tuple #[z, .bool false]):=fun z _ hz=>
  LR.rT (LR.cons (l4 ρ hz) (LR.cons (.bool _) (LR.nil _)))
 unfold aAssert at h
 split at h
 ·cases h
 ·rename_i d fG hu
  cases hx
  cases ok with
  | false=>simp at h
  | true=>
   simp only [if_true] at h
   cases hz:dO P asserted with
   | none=>rw [hz] at h;cases h
   | some z=>
    rw [hz] at h
    simp only [Option.bind_some] at h
    split at h
    ·rename_i hc;simp at h;subst h
     refine ⟨_,zr z hz hc,fun w=>?_⟩
     cases d<;>simp [Instr.typeAssert,cq hu,j6 hz] at fG ⊢
    ·cases h
 ·rename_i d t u fG hu
  cases hx
  rename_i u' hr
  split at h
  ·rename_i ht
   simp at h;subst h
   cases ok with
   | false=>exact ⟨u',hr,fun w=>by cases d<;>simp [Instr.typeAssert,cq hu,ht] at fG ⊢⟩
   | true=>exact ⟨.tuple #[u', .bool true],LR.rT (LR.cons hr (LR.cons (.bool _) (LR.nil _))),fun w=>by cases d<;>simp [Instr.typeAssert,cq hu,ht] at fG ⊢⟩
  ·rename_i ht
   cases ok with
   | false=>simp at h
   | true=>
    simp only [if_true] at h
    cases hz:dO P asserted with
    | none=>rw [hz] at h;cases h
    | some z=>
     rw [hz] at h
     simp only [Option.bind_some] at h
     split at h
     ·rename_i hc;simp at h;subst h
      refine ⟨_,zr z hz hc,fun w=>?_⟩
      cases d<;>simp [Instr.typeAssert,cq hu,j6 hz,ht] at fG ⊢
     ·cases h
 ·cases h
end
end Go.Proofs.Ytcilejikekccmaa.Am
namespace Go.Proofs.Ytcilejikekccmaa.Am
open Go
variable [Marks]
section
variable {P:Program} {ρ:aT}
inductive OR (ρ:aT):Option Value→Option Value→Prop
 | no:OR ρ none none
 | so {v v':Value} (h:VR ρ v v'):OR ρ (some v) (some v')
theorem OR.map {ev dH:Operand→Value} (x:Option Operand) (h:∀ o,x=some o→VR ρ (ev o) (dH o)):OR ρ (x.map ev) (x.map dH):=by
 cases x with
 | none=>exact .no
 | some o=>exact .so (h o rfl)
theorem o1 {y i:Nat} {v v':Value} (h:aBnd y v=some i) (hv:VR ρ v v'):i≤y∧∀ (y':Nat) (code:BoundsCode) (w:World),y≤y'→(Instr.sliceBound v' y' code).run P w= .ok i w:=by
 cases hv<;>simp [aBnd] at h
 rename_i k n
 obtain ⟨⟨h0,h1⟩,rfl⟩:=h
 refine ⟨by omega,fun y' code w hy=>?_⟩
 have h2:n≤(y':Int):=by omega
 simp [Instr.sliceBound,asIntOf,h0,h2]
theorem qN {h l h2:Nat} {m j:Option Nat} {lo iy:Option Value} (hb:aLow h m lo=some (l,h2,j)) (hl:OR ρ lo iy):
  h2=h∧j=m∧l≤h∧((iy=none∧l=0)∨∃ v,iy=some v∧∀ (code:BoundsCode) (w:World),(Instr.sliceBound v h code).run P w= .ok l w):=by
 cases hl with
 | no=>simp [aLow] at hb;obtain ⟨rfl,rfl,rfl⟩:=hb;exact ⟨rfl,rfl,by omega, .inl ⟨rfl,rfl⟩⟩
 | so hv=>
  simp only [aLow] at hb
  rename_i v v'
  cases hx:aBnd h v with
  | none=>rw [hx] at hb;cases hb
  | some i=>
   rw [hx] at hb;simp at hb
   obtain ⟨rfl,rfl,rfl⟩:=hb
   obtain ⟨I,J⟩:=o1 (P:=P) hx hv
   exact ⟨rfl,rfl,I, .inr ⟨_,rfl,fun code w=>J _ code w (Nat.le_refl _)⟩⟩
theorem tp {n c':Nat} {lo hi mx iy eS l1:Option Value} {l h:Nat} {m:Option Nat} (hb:aBounds n lo hi mx=some (l,h,m)) (hl:OR ρ lo iy) (hh:OR ρ hi eS) (hm:OR ρ mx l1) (hc:n≤c') (isSlice:Bool):
  (∀ w,(Instr.sliceBounds isSlice n c' iy eS l1).run P w= .ok (l,h,m.getD c') w)∧l≤h∧h≤m.getD n∧m.getD n≤n:=by
 cases hm with
 | no=>
  cases hh with
  | no=>
   obtain ⟨rfl,rfl,I,j⟩:=qN (P:=P) (show aLow n none lo=some (l,h,m) from hb) hl
   exact ⟨fun w=>by rcases j with ⟨rfl,rfl⟩ | ⟨u,rfl,j⟩<;>simp [Instr.sliceBounds, *],I,by simp,by simp⟩
  | so hv=>
   rename_i v v'
   simp only [aBounds] at hb
   cases hx:aBnd n v with
   | none=>rw [hx] at hb;cases hb
   | some i=>
    rw [hx] at hb
    simp only [Option.bind_some] at hb
    obtain ⟨J,U⟩:=o1 (P:=P) hx hv
    obtain ⟨rfl,rfl,I,j⟩:=qN (P:=P) hb hl
    exact ⟨fun w=>by rcases j with ⟨rfl,rfl⟩ | ⟨u,rfl,j⟩<;>simp [Instr.sliceBounds,U _ _ _ hc, *],I,by simpa using J,by simp⟩
 | so B5=>
  rename_i vm Fs
  cases hh with
  | no=>simp [aBounds] at hb
  | so hv=>
   rename_i v v'
   simp only [aBounds] at hb
   cases nj:aBnd n vm with
   | none=>rw [nj] at hb;cases hb
   | some im=>
    rw [nj] at hb
    simp only [Option.bind_some] at hb
    cases hx:aBnd im v with
    | none=>rw [hx] at hb;cases hb
    | some i=>
     rw [hx] at hb
     simp only [Option.bind_some] at hb
     obtain ⟨aa,ab⟩:=o1 (P:=P) nj B5
     obtain ⟨J,U⟩:=o1 (P:=P) hx hv
     obtain ⟨rfl,rfl,I,j⟩:=qN (P:=P) hb hl
     exact ⟨fun w=>by rcases j with ⟨rfl,rfl⟩ | ⟨u,rfl,j⟩<;>simp [Instr.sliceBounds,ab _ _ _ hc,U _ _ _ (Nat.le_refl _), *],I,by simpa using J,by simpa using aa⟩
theorem Dm {t:TypeId} {x v x':Value} {lo hi mx iy eS l1:Option Value} (h:aSlice P t x lo hi mx=some v) (hx:VR ρ x x') (hl:OR ρ lo iy) (hh:OR ρ hi eS) (hm:OR ρ mx l1):
  ∃ v',VR ρ v v'∧∀ w,(Instr.sliceAt t x' iy eS l1).run P w= .ok v' w:=by
 unfold aSlice at h
 split at h
 ·rename_i s hu
  cases hx
  split at h
  ·cases h
  ·rename_i z4
   cases hm with
   | so hv=>simp at z4
   | no=>
    cases hb:aBounds s.size lo hi none with
    | none=>rw [hb] at h;cases h
    | some b=>
     obtain ⟨l,h2,m⟩:=b
     rw [hb] at h;simp at h;subst h
     obtain ⟨j,ab,I,U⟩:=tp (P:=P) hb hl hh .no (Nat.le_refl _) false
     exact ⟨_, .string _,fun w=>by simp [Instr.sliceAt,cq hu,Instr.slice,j]⟩
 ·rename_i e a n c hu
  obtain ⟨a',c',rfl,ae,af,kI,J⟩:∃ a' c',x'= .slice a' n c'∧(c=n→c'=n)∧n≤c'∧(a=none→a'=none)∧(∀ ad,a=some ad→∃ gR,a'=some gR∧(0<n→AR ρ ad gR)):=by
   cases hx with
   | fV h1 h2=>exact ⟨_,_,rfl,h1,h2,fun _=>rfl,fun ad h=>(by cases h)⟩
   | sl h1 h2 J ah=>exact ⟨_,_,rfl,h1,h2,fun h=>(by cases h),fun ad h=>(by cases h;exact ⟨_,rfl,J⟩)⟩
  cases hs:bW P e with
  | none=>rw [hs] at h;cases h
  | some s=>
   rw [hs] at h
   simp only [Option.bind_some] at h
   cases hb:aBounds n lo hi mx with
   | none=>rw [hb] at h;cases h
   | some b=>
    obtain ⟨l,h2,m⟩:=b
    rw [hb] at h
    simp only [Option.bind_some] at h
    obtain ⟨j,ab,I,U⟩:=tp (P:=P) hb hl hh hm af true
    have hJ:∀ w,(Instr.sliceAt t (.slice a' n c') iy eS l1).run P w= .ok (.slice (if m.getD c'=l then a' else a'.map (·.add (l * s))) (h2 - l) (m.getD c' - l)) w:=by
     intro w
     simp [Instr.sliceAt,cq hu,Instr.slice,j,e3 hs]
    have hle:h2≤m.getD c':=by
     cases m with
     | none=>simp at I ⊢;omega
     | some m=>simpa using I
    have aa:(match m with | some m=>if m=h2 then h2 - l else h2 - l+2 | none=>if c=n∧h2=n then h2 - l else h2 - l+2)=h2 - l→m.getD c' - l=h2 - l:=by
     cases m with
     | none=>
      simp only [Option.getD_none]
      split
      ·rename_i fU;intro _;rw [ae fU.1,fU.2]
      ·intro hh;omega
     | some m=>
      simp only [Option.getD_some]
      split
      ·rename_i qu;intro _;omega
      ·intro hh;omega
    have ag:(match m with | some m=>if m=h2 then h2 - l else h2 - l+2 | none=>if c=n∧h2=n then h2 - l else h2 - l+2)≠h2 - l+1:=by
     cases m<;>simp only<;>split<;>omega
    cases a with
    | none=>
     simp at h;subst h
     obtain rfl:=kI rfl
     refine ⟨_,?_,hJ⟩
     simp only [Option.map_none,ite_self]
     exact .fV aa (by omega)
    | some ad=>
     simp only at h
     split at h
     ·rename_i rK
      simp at h;subst h
      obtain ⟨gR,rfl,m2⟩:=J ad rfl
      refine ⟨_,?_,hJ⟩
      have:(if m.getD c'=l then some gR else (some gR).map (·.add (l * s)))=some (if m.getD c'=l then gR else gR.add (l * s)):=by split<;>simp
      rw [this]
      refine .sl aa (by omega) (fun eP=>?_) (fun e=>absurd e ag)
      have hn:0<n:=by
       have:m.getD n≤n:=U
       omega
      rw [if_neg (by omega)]
      exact pE (m2 hn) _
     ·cases h
 ·cases h
theorem DO (off:Nat):∀ (l l':List Value) (k:Nat) (A A':Array Value),LR ρ l l'→LR ρ A.toList A'.toList→
  LR ρ ((l.zipIdx k).foldl (fun cs (x:Value×Nat)=>cs.setIfInBounds (off+x.2) x.1) A).toList ((l'.zipIdx k).foldl (fun cs (x:Value×Nat)=>cs.setIfInBounds (off+x.2) x.1) A').toList∧
   ((l.zipIdx k).foldl (fun cs (x:Value×Nat)=>cs.setIfInBounds (off+x.2) x.1) A).size=A.size:=by
 intro l
 induction l with
 | nil=>intro l' k A A' h hA;obtain rfl:=h.ln;exact ⟨by simpa using hA,by simp⟩
 | cons v l ih=>
  intro l' k A A' h hA
  obtain ⟨v',l',rfl,hv,hl⟩:=h.cons_inv
  have j:LR ρ (A.setIfInBounds (off+k) v).toList (A'.setIfInBounds (off+k) v').toList:=by
   refine ⟨by simpa using hA.1,fun i u u' p q=>?_⟩
   simp only [Array.toList_setIfInBounds,List.getElem?_set] at p q
   by_cases e:off+k=i
   ·rw [if_pos e] at p q
    split at p
    ·split at q
     ·cases p;cases q;exact hv
     ·cases q
    ·cases p
   ·rw [if_neg e] at p q;exact hA.2 i u u' p q
  have:=ih l' (k+1) _ _ hl j
  simp only [List.zipIdx_cons,List.foldl_cons]
  exact ⟨this.1,by rw [this.2];simp⟩
theorem rf (place:Nat→Option (Nat×Nat)):∀ (ps e8:List (Nat×Value)) (A A' B:Array Value),Instr.fill place A ps=some B→ps.map (·.1)=e8.map (·.1)→LR ρ (ps.map (·.2)) (e8.map (·.2))→LR ρ A.toList A'.toList→
  ∃ B',Instr.fill place A' e8=some B'∧LR ρ B.toList B'.toList∧B.size=A.size:=by
 intro ps
 induction ps with
 | nil=>
  intro e8 A A' B h h1 h2 hA
  have:e8=[]:=by cases e8<;>simp at h1 ⊢
  subst this
  simp [Instr.fill] at h
  subst h
  exact ⟨A',by simp [Instr.fill],hA,rfl⟩
 | cons x ps ih=>
  intro e8 A A' B h h1 h2 hA
  obtain ⟨i,v⟩:=x
  cases e8 with
  | nil=>simp at h1
  | cons y e8=>
   obtain ⟨i',v'⟩:=y
   simp only [List.map_cons,List.cons.injEq] at h1 h2
   obtain ⟨rfl,h1⟩:=h1
   have hv:=h2.head
   simp only [Instr.fill] at h ⊢
   cases hp:place i with
   | none=>rw [hp] at h;cases h
   | some pl=>
    obtain ⟨off,size⟩:=pl
    rw [hp] at h
    simp only at h ⊢
    have b1:v'.cells.size=v.cells.size:=by have:=hv.cells.1;simpa using this.symm
    have v9:A'.size=A.size:=by have:=hA.1;simpa using this.symm
    split at h
    ·cases h
    ·rename_i hc
     rw [b1,v9,if_neg hc]
     have hf:=DO off v.cells.toList v'.cells.toList 0 A A' hv.cells hA
     have e:∀ (w:Value) (C:Array Value),w.cells.zipIdx.foldl (fun cs (x:Value×Nat)=>cs.setIfInBounds (off+x.2) x.1) C=(w.cells.toList.zipIdx 0).foldl (fun cs (x:Value×Nat)=>cs.setIfInBounds (off+x.2) x.1) C:=by
      intro w C
      rw [← Array.foldl_toList]
      simp
     rw [e] at h
     obtain ⟨B',j,I,J⟩:=ih e8 _ _ B h h1 h2.tail hf.1
     exact ⟨B',by rw [← e] at j;exact j,I,by rw [J];exact hf.2⟩
theorem tW {ev dH:Operand→Value} (ps:Array (Nat×Operand)) (h:∀ x∈ps,VR ρ (ev x.2) (dH x.2)):
  (ps.toList.map fun p=>(p.1,ev p.2)).map (·.1)=(ps.toList.map fun p=>(p.1,dH p.2)).map (·.1)∧LR ρ ((ps.toList.map fun p=>(p.1,ev p.2)).map (·.2)) ((ps.toList.map fun p=>(p.1,dH p.2)).map (·.2)):=by
 refine ⟨by simp,by simp,fun i v v' a b=>?_⟩
 simp only [List.map_map,List.getElem?_map,Function.comp] at a b
 cases hx:ps.toList[i]? with
 | none=>rw [hx] at a;cases a
 | some x=>
  rw [hx] at a b
  simp at a b
  subst a;subst b
  exact h x (by simpa using List.mem_of_getElem? hx)
theorem Cg {α β:Type} (f:α→Option β) (g:α→Sem β) (w:World) (rC:∀ a b,f a=some b→(g a).run P w= .ok b w):∀ (l:List α) (r:List β),l.mapM f=some r→(l.mapM g).run P w= .ok r w:=by
 intro l
 induction l with
 | nil=>intro r h;simp at h;subst h;simp
 | cons a l ih=>
  intro r h
  simp only [List.mapM_cons] at h ⊢
  cases ha:f a with
  | none=>rw [ha] at h;simp at h
  | some b=>
   rw [ha] at h
   cases hl:l.mapM f with
   | none=>rw [hl] at h;simp at h
   | some bs=>
    rw [hl] at h
    simp at h
    subst h
    simp [rC a b ha,ih bs hl]
theorem BX {t:TypeId} {ps e8:List (Nat×Value)} {v:Value} (h:aBuild P t ps=some v) (h1:ps.map (·.1)=e8.map (·.1)) (h2:LR ρ (ps.map (·.2)) (e8.map (·.2))):
  ∃ v',VR ρ v v'∧∀ w,(Instr.build t e8.toArray).run P w= .ok v' w:=by
 unfold aBuild at h
 cases hz:dO P t with
 | none=>rw [hz] at h;cases h
 | some z=>
  rw [hz] at h
  simp only [Option.bind_some] at h
  split at h
  ·rename_i c4
   have vF:LR ρ z.cells.toList z.cells.toList:=(l4 ρ c4).cells
   split at h
   ·rename_i fields hu
    cases hp:fields.toList.mapM (fun f=>(bW P f.type).map fun s=>(f.offset,s)) with
    | none=>rw [hp] at h;cases h
    | some pj=>
     rw [hp] at h
     simp only [Option.bind_some] at h
     cases hf:Instr.fill (fun i=>pj[i]?) z.cells ps with
     | none=>rw [hf] at h;cases h
     | some B=>
      rw [hf] at h;simp at h;subst h
      obtain ⟨B',j,I,J⟩:=rf (ρ:=ρ) _ ps e8 z.cells z.cells B hf h1 h2 vF
      refine ⟨.agg B',by have:=I.mE;simpa using this,fun w=>?_⟩
      have hm:=Cg (P:=P) (fun f:Field=>(bW P f.type).map fun s=>(f.offset,s)) (fun f=>do pure (f.offset,← sizeOf f.type)) w (fun f b hb=>by
       cases hs:bW P f.type with
       | none=>rw [hs] at hb;cases hb
       | some s=>rw [hs] at hb;simp at hb;subst hb;simp [e3 hs]) _ _ hp
      have U:(fields.mapM (fun f=>do pure (f.offset,← sizeOf f.type)):Sem (Array (Nat×Nat))).run P w= .ok pj.toArray w:=by
       rw [Array.mapM_eq_mapM_toList]
       simp only [Sem.run_map,hm,Result.andThen_ok]
      simp only [Instr.build,Sem.run_bind,j6 hz,Result.andThen_ok,cq hu,U]
      simp [j]
   ·rename_i n e hu
    cases hs:bW P e with
    | none=>rw [hs] at h;cases h
    | some s=>
     rw [hs] at h
     simp only [Option.bind_some] at h
     cases hf:Instr.fill (fun i=>some (i * s,s)) z.cells ps with
     | none=>rw [hf] at h;cases h
     | some B=>
      rw [hf] at h;simp at h;subst h
      obtain ⟨B',j,I,J⟩:=rf (ρ:=ρ) _ ps e8 z.cells z.cells B hf h1 h2 vF
      refine ⟨.agg B',by have:=I.mE;simpa using this,fun w=>?_⟩
      simp only [Instr.build,Sem.run_bind,j6 hz,Result.andThen_ok,cq hu,e3 hs]
      simp [j]
   ·cases h
  ·cases h
end
end Go.Proofs.Ytcilejikekccmaa.Am
namespace Go.Proofs.Ytcilejikekccmaa.Am
open Go
variable [Marks]
section
variable {P:Program} {ρ:aT}
abbrev cW:=Nat→Option dD
def kx (ρ:aT) (ae:cW) (k:Nat):Prop:=∃ b B p,ae b=some B∧B.own=true∧ρ b=some p∧p.ae=k
structure bh (ρ:aT) (w:World) (ae:cW) (next:Nat):Prop where
 dV:∀ b p,ρ b=some p→b<next
 lt:∀ b p,ρ b=some p→p.ae<w.heap.size
 cell:∀ b B p,ae b=some B→ρ b=some p→∀ (i:Nat) v,B.cells[i]?=some v→∃ v',w.cell? ⟨p.ae,p.off+i,none⟩=some v'∧VR ρ v v'
 own:∀ b B p,ae b=some B→ρ b=some p→B.own=true→B.dA=p.sz∧B.cells.length≤p.ext∧
  ∃ cur el fr,w.heap[p.ae]?=some (.cells cur el fr)∧p.off+p.ext≤cur.size∧(fr.1=fr.2∨p.off+p.ext≤fr.1)
 apart:∀ b c B C p q,b≠c→ae b=some B→ae c=some C→ρ b=some p→ρ c=some q→B.own=true→p.ae≠q.ae
 live:∀ b,ae b≠none→b<next
structure Ext (ρ:aT) (ae:cW) (next:Nat) (w:World) (ρ':aT) (gP:cW) (next':Nat) (w':World):Prop where
 le:cD ρ ρ'
 os:w'.os=w.os
 tape:w'.tape=w.tape
 output:w'.output=w.output
 size:w.heap.size≤w'.heap.size
 nx:next≤next'
 a5:∀ k,k<w.heap.size→¬ kx ρ ae k→w'.heap[k]?=w.heap[k]?
 gM:∀ k,k<w.heap.size→kx ρ' gP k→kx ρ ae k
 new:∀ b p,ρ' b=some p→ρ b=some p∨(next≤b∧(w.heap.size≤p.ae∨kx ρ ae p.ae))
 un:∀ b,b<next→ρ b=none→gP b=ae b
theorem Ext.refl (ρ:aT) (ae:cW) (next:Nat) (w:World):Ext ρ ae next w ρ ae next w:=
 ⟨cD.refl _,rfl,rfl,rfl,Nat.le_refl _,Nat.le_refl _,fun _ _ _=>rfl,fun _ _ h=>h,fun _ _ h=> .inl h,fun _ _ _=>rfl⟩
theorem Ext.trans' {ρ ρ1 ρ2:aT} {ae j I:cW} {n U m J:Nat} {w w1 w2:World} (h:Ext ρ ae n w ρ1 j U w1) (k:Ext ρ1 j m w1 ρ2 I J w2) (hm:n≤m):Ext ρ ae n w ρ2 I J w2:=
 ⟨h.le.trans k.le,k.os.trans h.os,k.tape.trans h.tape,k.output.trans h.output,Nat.le_trans h.size k.size,Nat.le_trans hm k.nx,
  fun i hi ho=>(k.a5 i (Nat.lt_of_lt_of_le hi h.size) (fun q=>ho (h.gM i hi q))).trans (h.a5 i hi ho),
  fun i hi q=>h.gM i hi (k.gM i (Nat.lt_of_lt_of_le hi h.size) q),
  fun b p q=>(k.new b p q).elim (fun q=>h.new b p q) (fun q=> .inr ⟨Nat.le_trans hm q.1,by
   by_cases e:p.ae<w.heap.size
   ·exact q.2.elim (fun q=>absurd h.size (by omega)) (fun q=> .inr (h.gM _ e q))
   ·exact .inl (by omega)⟩),
  fun b hb hr=>by
   rw [k.un b (by omega) ?_,h.un b hb hr]
   cases hq:ρ1 b with
   | none=>rfl
   | some p=>exact (h.new b p hq).elim (fun q=>by rw [hr] at q;cases q) (fun q=>absurd q.1 (by omega))⟩
theorem Ext.trans {ρ ρ1 ρ2:aT} {ae j I:cW} {n J U:Nat} {w w1 w2:World} (h:Ext ρ ae n w ρ1 j J w1) (k:Ext ρ1 j J w1 ρ2 I U w2):Ext ρ ae n w ρ2 I U w2:=
 h.trans' k h.nx
theorem qq {fr:Nat×Nat} {n:Nat} (h:fr.1=fr.2∨n≤fr.1) (j:Nat) (hj:j<n):¬ (fr.1≤j∧j<fr.2):=by omega
theorem h4 {w:World} {b o:Nat} {c:Array Value} {el:TypeId} {fr:Nat×Nat} (h:w.heap[b]?=some (.cells c el fr)):w.cell? ⟨b,o,none⟩=c[o]?:=by simp [World.cell?,h]
theorem bh.world {w w':World} {ae:cW} {next:Nat} (h:bh ρ w ae next) (hh:w'.heap=w.heap):bh ρ w' ae next:=
 ⟨h.dV,fun b p q=>by rw [hh];exact h.lt b p q,fun b B p q r i v hv=>by
  obtain ⟨v',h1,h2⟩:=h.cell b B p q r i v hv
  exact ⟨v',by rw [← h1];exact World.cell?_of_block (by rw [hh]),h2⟩,
  fun b B p q r s=>by rw [hh];exact h.own b B p q r s,h.apart,h.live⟩
def bE (ρ:aT) (id:Nat) (p:Place):aT:=fun b=>if b=id then some p else ρ b
def bB (ae:cW) (id:Nat) (B:Option dD):cW:=fun b=>if b=id then B else ae b
theorem cD.bE (ρ:aT) {id:Nat} (p:Place) (h:ρ id=none):cD ρ (bE ρ id p):=fun b q hq=>by
 unfold Am.bE
 split
 ·rename_i e;subst e;rw [h] at hq;cases hq
 ·exact hq
theorem bh.made {w w1:World} {ae:cW} {next next':Nat} (h:bh ρ w ae next) {id:Nat} (c8:ρ id=none) (bq:id<next') (dB:next≤next')
  {cs aZ:List Value} (hl:LR ρ cs aZ) {C:Array Value} {el:TypeId} {fr:Nat×Nat} {dA ext:Nat} (b1:w1.heap.size=w.heap.size+1) (hold:∀ k,k<w.heap.size→w1.heap[k]?=w.heap[k]?)
  (jf:w1.heap[w.heap.size]?=some (.cells C el fr)) (hC:∀ (i:Nat) v,aZ[i]?=some v→C[i]?=some v) (qR:ext≤C.size) (x1:cs.length≤ext) (kU:fr.1=fr.2∨ext≤fr.1):
  bh (bE ρ id ⟨w.heap.size,0,dA,ext⟩) w1 (bB ae id (some ⟨cs,true,dA⟩)) next':=by
 have hr:=cD.bE ρ ⟨w.heap.size,0,dA,ext⟩ c8
 have cK:∀ k p,bE ρ id ⟨w.heap.size,0,dA,ext⟩ k=some p→k≠id→ρ k=some p:=fun k p q hk=>by simpa [bE,hk] using q
 have x4:∀ (k o:Nat),k<w.heap.size→w1.cell? ⟨k,o,none⟩=w.cell? ⟨k,o,none⟩:=fun k o hk=>World.cell?_of_block (hold k hk)
 refine ⟨fun b p q=>?_,fun b p q=>?_,fun b B p q r i v hv=>?_,fun b B p q r s=>?_,fun b c B C' p q ib hB fJ hp hq ho=>?_,fun b hb=>?_⟩
 ·by_cases e:b=id
  ·rw [e];exact bq
  ·exact Nat.lt_of_lt_of_le (h.dV b p (cK b p q e)) dB
 ·by_cases e:b=id
  ·subst e
   simp [bE] at q
   subst q
   simp only;omega
  ·have:=h.lt b p (cK b p q e);omega
 ·by_cases e:b=id
  ·subst e
   simp [bE] at r
   simp [bB] at q
   subst r;subst q
   obtain ⟨v',h1,h2⟩:=hl.get hv
   exact ⟨v',by rw [h4 jf];simpa using hC i v' h1,h2.mono hr⟩
  ·have hp:=cK b p r e
   obtain ⟨v',h1,h2⟩:=h.cell b B p (by simpa [bB,e] using q) hp i v hv
   exact ⟨v',by rw [x4 _ _ (h.lt b p hp)];exact h1,h2.mono hr⟩
 ·by_cases e:b=id
  ·subst e
   simp [bE] at r
   simp [bB] at q
   subst r;subst q
   exact ⟨rfl,x1,C,el,fr,jf,by simpa using qR,by simpa using kU⟩
  ·have hp:=cK b p r e
   obtain ⟨h1,h2,cur,AK,j2,I,J,U⟩:=h.own b B p (by simpa [bB,e] using q) hp s
   exact ⟨h1,h2,cur,AK,j2,by rw [hold _ (h.lt b p hp)];exact I,J,U⟩
 ·by_cases e:b=id
  ·subst e
   simp [bE] at hp
   subst hp
   have:=h.lt c q (cK c q hq (Ne.symm ib))
   simp only;omega
  ·by_cases j:c=id
   ·subst j
    simp [bE] at hq
    subst hq
    have:=h.lt b p (cK b p hp e)
    simp only;omega
   ·exact h.apart b c B C' p q ib (by simpa [bB,e] using hB) (by simpa [bB,j] using fJ) (cK b p hp e) (cK c q hq j) ho
 ·by_cases e:b=id
  ·rw [e];exact bq
  ·exact Nat.lt_of_lt_of_le (h.live b (by simpa [bB,e] using hb)) dB
theorem Ext.made {w w1:World} {ae:cW} {next next':Nat} {id:Nat} (c8:ρ id=none) (hn:next≤id) (dB:next≤next') {pl:Place} (mz:pl.ae=w.heap.size) {B:dD}
  (b1:w1.heap.size=w.heap.size+1) (hold:∀ k,k<w.heap.size→w1.heap[k]?=w.heap[k]?) (ho:w1.os=w.os) (ht:w1.tape=w.tape) (hu:w1.output=w.output):
  Ext ρ ae next w (bE ρ id pl) (bB ae id (some B)) next' w1:=by
 refine ⟨cD.bE ρ pl c8,ho,ht,hu,by omega,dB,fun k hk _=>hold k hk,fun k hk ⟨b,B',p,I,J,j,U⟩=>?_,fun b p q=>?_,fun b hb _=>by simp only [bB];rw [if_neg (by omega)]⟩
 ·by_cases e:b=id
  ·subst e
   simp [bE] at j
   subst j
   omega
  ·exact ⟨b,B',p,by simpa [bB,e] using I,J,by simpa [bE,e] using j,U⟩
 ·by_cases e:b=id
  ·subst e
   simp [bE] at q
   subst q
   exact .inr ⟨hn, .inl (by omega)⟩
  ·exact .inl (by simpa [bE,e] using q)
theorem sc (g o:Nat):∀ (vs:List Value) (i:Nat) (w:World) (cur:Array Value) (el:TypeId) (fr:Nat×Nat),w.heap[g]?=some (.cells cur el fr)→o+i+vs.length≤cur.size→
  (∀ j,o+i≤j→j<o+i+vs.length→¬ (fr.1≤j∧j<fr.2))→(∀ v∈vs,v.oneCell'=true)→
  ∃ w' fe,(storeCells ⟨g,o,none⟩ vs i).run P w= .ok () w'∧w'.heap[g]?=some (.cells fe el fr)∧fe.size=cur.size∧
   (∀ j:Nat,fe[j]?=if o+i≤j∧j<o+i+vs.length then vs[j - (o+i)]? else cur[j]?)∧(∀ k,k≠g→w'.heap[k]?=w.heap[k]?)∧w'.heap.size=w.heap.size∧w'.os=w.os∧w'.tape=w.tape∧w'.output=w.output:=by
 intro vs
 induction vs with
 | nil=>intro i w cur el fr hg _ _ _;exact ⟨w,cur,rfl,hg,rfl,fun j=>by rw [if_neg (by simp only [List.length_nil];omega)],fun _ _=>rfl,rfl,rfl,rfl,rfl⟩
 | cons v vs ih=>
  intro i w cur el fr hg hl hf h1
  simp only [List.length_cons] at hl hf
  have pW:(⟨g,o,none⟩:Addr).add i=⟨g,o+i,none⟩:=by unfold Addr.add;split<;>simp_all
  have hc:w.cell? ⟨g,o+i,none⟩=some cur[o+i]:=by rw [h4 hg];exact Array.getElem?_eq_getElem (by omega)
  have hz:w.frozen? ⟨g,o+i,none⟩=false:=by
   have:=hf (o+i) (by omega) (by omega)
   simp only [World.frozen?,hg]
   simp
   intro h;have:=fun q=>this ⟨h,q⟩;omega
  have bd:(store ((⟨g,o,none⟩:Addr).add i) v).run P w= .ok () (w.setCell ⟨g,o+i,none⟩ v):=by
   rw [pW,run_store P w _ v _ (h1 v (by simp)),hc]
   simp [hz]
  have J:(w.setCell ⟨g,o+i,none⟩ v).heap[g]?=some (.cells (cur.setIfInBounds (o+i) v) el fr):=by
   simp [World.setCell,Array.getElem?_modify,hg]
  obtain ⟨w',fe,r1,U,aa,ab,ad,ae,af,ag,ah⟩:=ih (i+1) (w.setCell ⟨g,o+i,none⟩ v) _ el fr J (by simp;omega) (fun j a b=>hf j (by omega) (by omega)) (fun u hu=>h1 u (by simp [hu]))
  refine ⟨w',fe,?_,U,by rw [aa];simp,fun j=>?_,fun k hk=>?_,by rw [ae];simp [World.setCell],by rw [af];rfl,by rw [ag];rfl,by rw [ah];rfl⟩
  ·simp only [storeCells,Sem.run_bind,bd,Result.andThen_ok,r1]
  ·rw [ab j]
   by_cases e:j=o+i
   ·subst e
    rw [if_neg (by omega),if_pos (by simp only [List.length_cons];omega),Nat.sub_self]
    simp [Array.getElem?_setIfInBounds_self_of_lt (show o+i<cur.size by omega)]
   ·by_cases I:o+(i+1)≤j∧j<o+(i+1)+vs.length
    ·rw [if_pos I,if_pos (by simp;omega)]
     have:j - (o+i)=(j - (o+(i+1)))+1:=by omega
     rw [this,List.getElem?_cons_succ]
    ·rw [if_neg I,if_neg (by simp;omega)]
     rw [Array.getElem?_setIfInBounds_ne (by omega)]
  ·rw [ad k hk]
   simp [World.setCell,Array.getElem?_modify,Ne.symm hk]
end
end Go.Proofs.Ytcilejikekccmaa.Am
namespace Go.Proofs.Ytcilejikekccmaa.Am
open Go
variable [Marks]
section
variable {P:Program} {ρ:aT}
theorem bh.part {w:World} {ae gP:cW} {next:Nat} (h:bh ρ w ae next) (hb:∀ b B,ρ b≠none→gP b=some B→ae b=some B) (hl:∀ b,gP b≠none→b<next):bh ρ w gP next:=by
 have on:∀ {b p},ρ b=some p→ρ b≠none:=fun q r=>by rw [q] at r;cases r
 exact ⟨h.dV,h.lt,fun b B p q r=>h.cell b B p (hb b B (on r) q) r,fun b B p q r=>h.own b B p (hb b B (on r) q) r,fun b c B C p q e h1 h2 j I=>h.apart b c B C p q e (hb b B (on j) h1) (hb c C (on I) h2) j I,hl⟩
theorem bh.less {w:World} {ae gP:cW} {next:Nat} (h:bh ρ w ae next) (hb:∀ b B,gP b=some B→ae b=some B):bh ρ w gP next:=
 ⟨h.dV,h.lt,fun b B p q=>h.cell b B p (hb b B q),fun b B p q=>h.own b B p (hb b B q),fun b c B C p q e h1 h2=>h.apart b c B C p q e (hb b B h1) (hb c C h2),fun b q=>by
  cases hq:gP b with
  | none=>exact absurd hq q
  | some B=>exact h.live b (by rw [hb b B hq];exact fun q=>by cases q)⟩
theorem bh.wrote {w w':World} {ae:cW} {next:Nat} (h:bh ρ w ae next) {b:Nat} {B:dD} {p:Place} (hB:ae b=some B) (hp:ρ b=some p) (ho:B.own=true)
  {cur fe:Array Value} {el:TypeId} {fr:Nat×Nat} (h1:w.heap[p.ae]?=some (.cells cur el fr)) (h2:w'.heap[p.ae]?=some (.cells fe el fr)) (ab:fe.size=cur.size)
  (aa:∀ k,k≠p.ae→w'.heap[k]?=w.heap[k]?) (ad:w'.heap.size=w.heap.size)
  {cs:List Value} (hlen:cs.length≤p.ext) (de:∀ (i:Nat) v,cs[i]?=some v→∃ v',fe[p.off+i]?=some v'∧VR ρ v v'):
  bh ρ w' (bB ae b (some ⟨cs,true,B.dA⟩)) next:=by
 obtain ⟨he,hl,ao,aq,ar,J,af,ag⟩:=h.own b B p hB hp ho
 rw [h1] at J
 injection J with J
 injection J with e1 U ah
 subst e1;subst U;subst ah
 have other:∀ c C q,c≠b→ae c=some C→ρ c=some q→q.ae≠p.ae:=fun c C q hc hC hq e=>h.apart b c B C p q (Ne.symm hc) hB hC hp hq ho e.symm
 refine ⟨h.dV,fun c q hq=>by rw [ad];exact h.lt c q hq,fun c C q hC hq i v hv=>?_,fun c C q hC hq iT=>?_,fun c d C D q r jw hC hD hq hr iT=>?_,fun c hc=>?_⟩
 ·by_cases e:c=b
  ·subst e
   simp [bB] at hC
   subst hC
   rw [hp] at hq;cases hq
   obtain ⟨v',j,I⟩:=de i v hv
   exact ⟨v',by rw [h4 h2];exact j,I⟩
  ·have fJ:ae c=some C:=by simpa [bB,e] using hC
   obtain ⟨v',j,I⟩:=h.cell c C q fJ hq i v hv
   exact ⟨v',by rw [← j];exact World.cell?_of_block (aa _ (other c C q e fJ hq)),I⟩
 ·by_cases e:c=b
  ·subst e
   simp [bB] at hC
   subst hC
   rw [hp] at hq;cases hq
   exact ⟨he,hlen,fe,el,fr,h2,by rw [ab];exact af,ag⟩
  ·have fJ:ae c=some C:=by simpa [bB,e] using hC
   obtain ⟨j,I,c1,c2,ai,aj,ak,an⟩:=h.own c C q fJ hq iT
   exact ⟨j,I,c1,c2,ai,by rw [aa _ (other c C q e fJ hq)];exact aj,ak,an⟩
 ·by_cases e:c=b
  ·subst e
   rw [hp] at hq;cases hq
   exact h.apart c d B D p r jw hB (by simpa [bB,Ne.symm jw] using hD) hp hr ho
  ·by_cases U:d=b
   ·subst U
    rw [hp] at hr;cases hr
    exact h.apart c d C B q p jw (by simpa [bB,e] using hC) hB hq hp iT
   ·exact h.apart c d C D q r jw (by simpa [bB,e] using hC) (by simpa [bB,U] using hD) hq hr iT
 ·by_cases e:c=b
  ·rw [e];exact h.live b (by rw [hB];exact fun q=>by cases q)
  ·exact h.live c (by simpa [bB,e] using hc)
theorem Ext.wrote {w w':World} {ae:cW} {next:Nat} {b:Nat} {B:dD} {p:Place} (hB:ae b=some B) (hp:ρ b=some p) (ho:B.own=true)
  (J:∀ k,k≠p.ae→w'.heap[k]?=w.heap[k]?) (ag:w'.heap.size=w.heap.size) (U:w'.os=w.os) (aa:w'.tape=w.tape) (ab:w'.output=w.output) (B':Option dD):
  Ext ρ ae next w ρ (bB ae b B') next w':=by
 refine ⟨cD.refl _,U,aa,ab,by omega,Nat.le_refl _,fun k hk hn=>J k fun e=>hn ⟨b,B,p,hB,ho,hp,e.symm⟩,fun k hk ⟨c,C,q,ad,af,j,I⟩=>?_,fun _ _ h=> .inl h,fun c hc hr=>by
  simp only [bB]
  rw [if_neg (fun e=>by subst e;rw [hp] at hr;cases hr)]⟩
 by_cases e:c=b
 ·subst e
  exact ⟨c,B,p,hB,ho,hp,by rw [hp] at j;cases j;exact I⟩
 ·exact ⟨c,C,q,by simpa [bB,e] using ad,af,j,I⟩
theorem bh.pT {w:World} {ae:cW} {next next':Nat} (h:bh ρ w ae next) {b:Nat} {B:dD} {p:Place} (hB:ae b=some B) (hp:ρ b=some p) (ho:B.own=true) {id:Nat} (c8:ρ id=none) (bq:id<next') (dB:next≤next') (o:Nat) (oG:o≤p.ext)
  (mz:p.off+o+(p.ext - o)=p.off+p.ext):
  bh (bE ρ id ⟨p.ae,p.off+o,p.sz,p.ext - o⟩) w (bB (bB ae b none) id (some ⟨B.cells.drop o,true,B.dA⟩)) next':=by
 have Fm:b≠id:=fun e=>by subst e;rw [hp] at c8;cases c8
 have hr:=cD.bE ρ ⟨p.ae,p.off+o,p.sz,p.ext - o⟩ c8
 have cK:∀ k q,bE ρ id ⟨p.ae,p.off+o,p.sz,p.ext - o⟩ k=some q→k≠id→ρ k=some q:=fun k q hq hk=>by simpa [bE,hk] using hq
 have mF:∀ c C,bB (bB ae b none) id (some ⟨B.cells.drop o,true,B.dA⟩) c=some C→c≠id→c≠b∧ae c=some C:=fun c C hC hc=>by
  by_cases e:c=b
  ·subst e;simp [bB,hc] at hC
  ·exact ⟨e,by simpa [bB,hc,e] using hC⟩
 obtain ⟨he,hl,cur,el,fr,U,aa,ab⟩:=h.own b B p hB hp ho
 refine ⟨fun c q hq=>?_,fun c q hq=>?_,fun c C q hC hq i v hv=>?_,fun c C q hC hq iT=>?_,fun c d C D q r jw hC hD hq n3 iT=>?_,fun c hc=>?_⟩
 ·by_cases e:c=id
  ·rw [e];exact bq
  ·exact Nat.lt_of_lt_of_le (h.dV c q (cK c q hq e)) dB
 ·by_cases e:c=id
  ·subst e;simp [bE] at hq;subst hq;exact h.lt b p hp
  ·exact h.lt c q (cK c q hq e)
 ·by_cases e:c=id
  ·subst e
   simp [bE] at hq;subst hq
   simp [bB] at hC;subst hC
   have rz:B.cells[o+i]?=some v:=by simpa using hv
   obtain ⟨v',I,J⟩:=h.cell b B p hB hp (o+i) v rz
   exact ⟨v',by rw [← I];simp [Nat.add_assoc],J.mono hr⟩
  ·obtain ⟨_,fJ⟩:=mF c C hC e
   obtain ⟨v',I,J⟩:=h.cell c C q fJ (cK c q hq e) i v hv
   exact ⟨v',I,J.mono hr⟩
 ·by_cases e:c=id
  ·subst e
   simp [bE] at hq;subst hq
   simp [bB] at hC;subst hC
   exact ⟨he,by simp;omega,cur,el,fr,U,by simp only;omega,by simp only;omega⟩
  ·obtain ⟨_,fJ⟩:=mF c C hC e
   exact h.own c C q fJ (cK c q hq e) iT
 ·by_cases e:c=id
  ·subst e
   simp [bE] at hq;subst hq
   obtain ⟨AT,jt⟩:=mF d D hD (Ne.symm jw)
   exact h.apart b d B D p r (Ne.symm AT) hB jt hp (cK d r n3 (Ne.symm jw)) ho
  ·obtain ⟨AA,fJ⟩:=mF c C hC e
   by_cases j:d=id
   ·subst j
    simp [bE] at n3;subst n3
    exact h.apart c b C B q p AA fJ hB (cK c q hq e) hp iT
   ·obtain ⟨_,jt⟩:=mF d D hD j
    exact h.apart c d C D q r jw fJ jt (cK c q hq e) (cK d r n3 j) iT
 ·by_cases e:c=id
  ·rw [e];exact bq
  ·by_cases j:c=b
   ·subst j;simp [bB,e] at hc
   ·exact Nat.lt_of_lt_of_le (h.live c (by simpa [bB,e,j] using hc)) dB
theorem Ext.pT {w:World} {ae:cW} {next next':Nat} {b:Nat} {B:dD} {p:Place} (hB:ae b=some B) (hp:ρ b=some p) (ho:B.own=true) {id:Nat} (c8:ρ id=none) (hn:next≤id) (dB:next≤next') {pl:Place} (mz:pl.ae=p.ae) (B':dD):
  Ext ρ ae next w (bE ρ id pl) (bB (bB ae b none) id (some B')) next' w:=by
 refine ⟨cD.bE ρ pl c8,rfl,rfl,rfl,Nat.le_refl _,dB,fun _ _ _=>rfl,fun k hk ⟨c,C,q,I,aa,j,J⟩=>?_,fun c q hq=>?_,fun c hc hr=>by
  simp only [bB]
  rw [if_neg (by omega),if_neg (fun e=>by subst e;rw [hp] at hr;cases hr)]⟩
 ·by_cases e:c=id
  ·subst e
   simp [bE] at j;subst j
   exact ⟨b,B,p,hB,ho,hp,by rw [← mz];exact J⟩
  ·by_cases U:c=b
   ·subst U;simp [bB,e] at I
   ·exact ⟨c,C,q,by simpa [bB,e,U] using I,aa,by simpa [bE,e] using j,J⟩
 ·by_cases e:c=id
  ·subst e
   simp [bE] at hq
   subst hq
   exact .inr ⟨hn, .inr ⟨b,B,p,hB,ho,hp,by rw [mz]⟩⟩
  ·exact .inl (by simpa [bE,e] using hq)
theorem E7 {w:World} {h:AH} {a a':Addr} {v:Value} (hs:bh ρ w h.ae h.next) (hl:h.load a=some v) (ha:AR ρ a a'):∃ v',VR ρ v v'∧w.cell? a'=some v':=by
 obtain ⟨fO,p,hp,rfl⟩:=ha
 simp only [AH.load,fO] at hl
 cases hb:h.ae a.block with
 | none=>rw [hb] at hl;cases hl
 | some B=>
  rw [hb] at hl
  obtain ⟨v',j,I⟩:=hs.cell _ B p hb hp a.off v hl
  exact ⟨v',I,j⟩
theorem l5 {w:World} {h:AH} {a a':Addr} {n:Nat} {cs:List Value} (hs:bh ρ w h.ae h.next) (hl:h.cv a n=some cs) (ha:AR ρ a a'):∃ aZ,LR ρ cs aZ∧cs.length=n∧∀ j v,aZ[j]?=some v→w.cell? (a'.add j)=some v:=by
 obtain ⟨fO,p,hp,rfl⟩:=ha
 simp only [AH.cv,fO] at hl
 cases hb:h.ae a.block with
 | none=>rw [hb] at hl;cases hl
 | some B=>
  rw [hb] at hl
  simp only [Option.bind_some] at hl
  split at hl
  ·rename_i hle
   simp at hl;subst hl
   have hc:∀ j,j<n→∃ v',w.cell? ⟨p.ae,p.off+(a.off+j),none⟩=some v'∧∀ v,B.cells[a.off+j]?=some v→VR ρ v v':=by
    intro j hj
    have bq:a.off+j<B.cells.length:=by omega
    obtain ⟨v',U,aa⟩:=hs.cell _ B p hb hp (a.off+j) _ (List.getElem?_eq_getElem bq)
    exact ⟨v',U,fun v hv=>by rw [List.getElem?_eq_getElem bq] at hv;cases hv;exact aa⟩
   refine ⟨(List.range n).map fun j=>(w.cell? ⟨p.ae,p.off+(a.off+j),none⟩).getD undef,⟨by simp;omega,fun i v v' x y=>?_⟩,by simp;omega,fun j v hv=>?_⟩
   ·have hi:i<n:=by
     have:=(List.getElem?_eq_some_iff.1 y).1
     simpa using this
    obtain ⟨u,I,J⟩:=hc i hi
    simp [hi,I] at y
    subst y
    apply J
    rw [List.getElem?_take,if_pos hi,List.getElem?_drop] at x
    exact x
   ·have hj:j<n:=by
     have:=(List.getElem?_eq_some_iff.1 hv).1
     simpa using this
    obtain ⟨u,I,J⟩:=hc j hj
    simp [hj,I] at hv
    subst hv
    rw [show (⟨p.ae,p.off+a.off,none⟩:Addr).add j=⟨p.ae,p.off+(a.off+j),none⟩ by
     unfold Addr.add;split<;>simp_all [Nat.add_assoc]]
    exact I
  ·cases hl
theorem tQ {w:World} {h:AH} {t:TypeId} {x x' v:Value} (hs:bh ρ w h.ae h.next) (hl:aLoad P t x h=some v) (hx:VR ρ x x'):∃ v',VR ρ v v'∧(Instr.loadAt t x').run P w= .ok v' w:=by
 unfold aLoad at hl
 split at hl
 ·rename_i a
  obtain ⟨a',rfl,ha⟩:∃ a',x'= .pointer (some a')∧AR ρ a a':=by
   cases hx with
   | ptr h=>exact ⟨_,rfl,h⟩
  cases hd:P.underlying t with
  | none=>rw [hd] at hl;cases hl
  | some d=>
   rw [hd] at hl
   simp only [Option.bind_some] at hl
   by_cases gw:lJ d=true
   ·rw [if_pos gw] at hl
    cases hz:bW P t with
    | none=>rw [hz] at hl;cases hl
    | some s=>
     rw [hz] at hl
     simp only [Option.bind_some] at hl
     cases hc:h.cv a s with
     | none=>rw [hc] at hl;cases hl
     | some cs=>
      rw [hc] at hl;simp at hl;subst hl
      obtain ⟨aZ,j,I,J⟩:=l5 hs hc ha
      refine ⟨.agg aZ.toArray,j.mE,?_⟩
      have mq:=run_loadCells_list (P:=P) w a' aZ J
      rw [← j.1,I] at mq
      simp [Instr.loadAt,Instr.sureAddr,loadVar,oT hd,gw,e3 hz,mq]
   ·rw [if_neg gw] at hl
    obtain ⟨v',j,I⟩:=E7 hs hl ha
    exact ⟨v',j,by simp [Instr.loadAt,Instr.sureAddr,loadVar,oT hd,gw,I]⟩
 ·cases hl
end
end Go.Proofs.Ytcilejikekccmaa.Am
namespace Go.Proofs.Ytcilejikekccmaa.Am
open Go
variable [Marks]
section
variable {P:Program} {ρ:aT}
theorem yK (ρ:aT) {z:Value} (h:clean z=true) (i:Nat):VR ρ (z.cells[i]!) (z.cells[i]!):=by
 have hl:=(l4 ρ h).cells
 by_cases hi:i<z.cells.size
 ·have e:z.cells[i]! =z.cells[i]:=by simp [hi]
  rw [e]
  exact hl.2 i _ _ (by simp [hi]) (by simp [hi])
 ·have e:z.cells[i]! =default:=by simp [hi]
  rw [e]
  exact .bool _
theorem uD (ρ:aT) {z:Value} (h:clean z=true) (m:Nat):LR ρ ((Array.range m).map fun i=>z.cells[i % z.cells.size]!).toList ((Array.range m).map fun i=>z.cells[i % z.cells.size]!).toList:=
 oX ρ fun v hv=>by
  simp at hv
  obtain ⟨i,_,rfl⟩:=hv
  simpa using yK ρ h (i % z.cells.size)
theorem kH {ρ':aT} {id n sz ext:Nat} (h:ρ' id=some ⟨n,0,sz,ext⟩):AR ρ' ⟨id,0,none⟩ ⟨n,0,none⟩:=⟨rfl,_,h,rfl⟩
theorem tj {ev dH:Operand→Value} {o:Oper} {f:gB} (cc:∀ x∈o.op.operands,VR ρ (ev x) (dH x)) (hf:aFresh P ev o.op=some f) (w:World):
  ∃ v' C el,(execOp dH o).run P w= .ok (.value v') (w.alloc (.cells C el))∧LR ρ f.2.1 C.toList∧∀ (ρ':aT) (id:Nat),cD ρ ρ'→ρ' id=some ⟨w.heap.size,0,f.2.2,C.size⟩→VR ρ' (f.1 id) v':=by
 cases av:o.op<;>rw [av] at hf cc<;>simp only [aFresh] at hf<;>try (cases hf;done)
 case alloc e=>
  unfold m1 at hf
  cases hz:dO P e with
  | none=>rw [hz] at hf;cases hf
  | some z=>
   rw [hz] at hf
   simp only [Option.bind_some] at hf
   split at hf
   ·rename_i hc
    simp at hf;subst hf
    refine ⟨_,z.cells,e,?_,(l4 ρ hc).cells,fun ρ' id hr hi=> .ptr (kH hi)⟩
    simp [execOp,av,Instr.alloc,j6 hz,newVar,newRow]
   ·cases hf
 case box e x=>
  simp [ny] at hf;subst hf
  have hx:=cc x (by simp [Op.operands])
  refine ⟨_,(dH x).cells,e,?_,hx.cells,fun ρ' id hr hi=> .ptr (kH hi)⟩
  simp [execOp,av,Instr.box,newVar,newRow]
 case buildSlice t len ps=>
  unfold aBuildSlice at hf
  split at hf
  ·rename_i e hu
   cases hs:bW P e with
   | none=>rw [hs] at hf;cases hf
   | some s=>
    rw [hs] at hf
    simp only [Option.bind_some] at hf
    cases hz:dO P e with
    | none=>rw [hz] at hf;cases hf
    | some z=>
     rw [hz] at hf
     simp only [Option.bind_some] at hf
     split at hf
     ·rename_i hc
      obtain ⟨c4,hlen,j⟩:=hc
      cases kt:Instr.fill (fun i=>some (i * s,s)) ((Array.range (len * s)).map fun i=>z.cells[i % z.cells.size]!) (ps.toList.map fun p=>(p.1,ev p.2)) with
      | none=>rw [kt] at hf;cases hf
      | some B=>
       rw [kt] at hf;simp at hf;subst hf
       obtain ⟨I,J⟩:=tW (ρ:=ρ) (ev:=ev) (dH:=dH) ps (fun x hx=>cc x.2 (by simp [Op.operands];exact ⟨x.1,hx⟩))
       obtain ⟨B',r1,U,ae⟩:=rf (ρ:=ρ) _ _ _ _ _ B kt I J (uD ρ c4 (len * s))
       refine ⟨.slice (some ⟨w.heap.size,0,none⟩) len len,B',e,?_,U,fun ρ' id hr hi=> .sl (fun h=>h) (Nat.le_refl _) (fun _=>kH hi) (fun h=>by omega)⟩
       have gT:(ps.map fun x=>(x.1,dH x.2)).toList=ps.toList.map fun p=>(p.1,dH p.2):=by simp
       by_cases h0:len * s=0
       ·have wC:Instr.fill (fun i=>some (i * s,s)) #[] (ps.toList.map fun p=>(p.1,dH p.2))=some B':=by rw [h0] at r1;simpa [Array.range_zero'] using r1
        simp only [execOp,av,Instr.buildSlice,Sem.run_bind,cq hu,e3 hs,Result.andThen_ok]
        simp [h0,Array.range_zero',wC,newRow]
       ·have j5:¬ 16777216<len * s:=by omega
        simp only [execOp,av,Instr.buildSlice,Sem.run_bind,cq hu,e3 hs,Result.andThen_ok]
        simp [h0,j5,j6 hz,newRow,r1]
     ·cases hf
  ·cases hf
 case makeSlice t l c=>
  unfold aMakeSlice at hf
  split at hf
  ·rename_i e k n aa m hu hl ab
   have nP:=cc l (by simp [Op.operands])
   have qk:=cc c (by simp [Op.operands])
   rw [hl] at nP
   rw [ab] at qk
   generalize jh:dH l=l' at nP
   generalize dN:dH c=c' at qk
   cases nP;cases qk
   cases hs:bW P e with
   | none=>rw [hs] at hf;cases hf
   | some s=>
    rw [hs] at hf
    simp only [Option.bind_some] at hf
    cases hb:jj P e with
    | none=>rw [hb] at hf;cases hf
    | some bP=>
     rw [hb] at hf
     simp only [Option.bind_some] at hf
     cases hz:dO P e with
     | none=>rw [hz] at hf;cases hf
     | some z=>
      rw [hz] at hf
      simp only [Option.bind_some] at hf
      split at hf
      ·rename_i hc
       obtain ⟨c4,j,ad,rfl,iS,rl⟩:=hc
       simp at hf;subst hf
       refine ⟨.slice (some ⟨w.heap.size,0,none⟩) n.toNat n.toNat,(Array.range (n.toNat * s)).map fun i=>z.cells[i % z.cells.size]!,e,?_,by simpa using uD ρ c4 (n.toNat * s),fun ρ' id hr hi=> .sl (fun h=>h) (Nat.le_refl _) (fun _=>kH hi) (fun h=>by omega)⟩
       obtain ⟨i,hi,rY⟩:∃ i,P.info? e=some i∧i.bytes=bP:=by
        unfold jj at hb
        cases hi:P.info? e with
        | none=>rw [hi] at hb;cases hb
        | some i=>rw [hi] at hb;exact ⟨i,rfl,by simpa using hb⟩
       have yS:i.size=s:=by unfold bW at hs;rw [hi] at hs;simpa using hs
       have x5:i.zero=some z:=by unfold dO at hz;rw [hi] at hz;simpa using hz
       have:=run_make (P:=P) w t e i z hu hi x5 k aa n n ad (Int.le_refl _) (by rw [rY];exact iS) (by omega)
       simp only [execOp,av,jh,dN,Sem.run_bind,this,Result.andThen_ok,Sem.run_pure,madeCells,yS]
      ·cases hf
  ·cases hf
end
end Go.Proofs.Ytcilejikekccmaa.Am
namespace Go.Proofs.Ytcilejikekccmaa.Am
open Go
variable [Marks]
section
variable {P:Program} {ρ:aT}
theorem g5 (h:AH) (cs:List Value) (z:Nat):(h.alloc cs z).ae=bB h.ae h.next (some ⟨cs,true,z⟩):=by funext b;simp [AH.e5,bB]
theorem kQ (h:AH) (c:Nat) (x:Option dD):(h.put c x).ae=bB h.ae c x:=by funext b;simp [AH.gD,bB]
theorem vI (ρ:aT) (l:List UInt8):LR ρ (l.map e9) (l.map e9):=oX ρ fun v hv=>by
 simp at hv
 obtain ⟨b,_,rfl⟩:=hv
 exact .int _ _
theorem v5 {w:World} {h:AH} {s m:Nat} {x x':Value} {cs:List Value} (hs:bh ρ w h.ae h.next) (hn:aNews s x h=some (m,cs)) (hx:VR ρ x x'):
  ∃ aZ,LR ρ cs aZ∧cs.length=m * s∧(Builtin.lenOf x').run P w= .ok m w∧∀ w2:World,w2.heap=w.heap→(Builtin.firstCells s m x').run P w2= .ok aZ.toArray w2:=by
 unfold aNews at hn
 split at hn
 ·rename_i n c
  split at hn
  ·rename_i h0
   simp at hn
   obtain ⟨rfl,rfl⟩:=hn
   subst h0
   cases hx
   exact ⟨[],LR.nil ρ,by simp,by simp [Builtin.lenOf],fun w2 _=>by simp [Builtin.firstCells]⟩
  ·cases hn
 ·rename_i a n c
  cases hc:h.cv a (n * s) with
  | none=>rw [hc] at hn;cases hn
  | some l=>
   rw [hc] at hn;simp at hn
   obtain ⟨rfl,rfl⟩:=hn
   obtain ⟨a',c',rfl,I⟩:∃ a' c',x'= .slice (some a') n c'∧(0<n→AR ρ a a'):=by
    cases hx with
    | sl h1 h2 I ab=>exact ⟨_,_,rfl,I⟩
   by_cases h0:n=0
   ·subst h0
    have hl:l=[]:=by
     unfold AH.cv at hc
     split at hc
     ·cases hb:h.ae a.block with
      | none=>rw [hb] at hc;cases hc
      | some B=>
       rw [hb] at hc
       simp at hc
       exact by simpa using hc.2.symm
     ·cases hc
    subst hl
    exact ⟨[],LR.nil ρ,by simp,by simp [Builtin.lenOf],fun w2 _=>by simp [Builtin.firstCells,loadCells,loadCellsFrom]⟩
   ·obtain ⟨aZ,J,U,aa⟩:=l5 hs hc (I (by omega))
    refine ⟨aZ,J,U,by simp [Builtin.lenOf],fun w2 hw=>?_⟩
    have:=run_loadCells_list (P:=P) w2 a' aZ (fun j v hv=>by rw [← aa j v hv];exact World.cell?_of_block (by rw [hw]))
    rw [← J.1,U] at this
    simpa [Builtin.firstCells] using this
 ·rename_i b
  split at hn
  ·rename_i h1
   simp at hn
   obtain ⟨rfl,rfl⟩:=hn
   cases hx
   refine ⟨b.data.toList.map e9,vI ρ _,by simp [h1],by simp [Builtin.lenOf],fun w2 _=>?_⟩
   have e:(b.extract 0 b.size)=b:=by simp
   simp only [Builtin.firstCells,e,Sem.run_pure]
   congr 1
   apply Array.ext'
   simp [e9]
  ·cases hn
 ·cases hn
theorem room_le {qB cap bP:Nat} (h:cap<qB) (hb:qB * bP≤140737488355328):¬ (2 ^ 48<Builtin.nextslicecap qB cap * bP):=by
 have:=growslice_fits h hb
 omega
theorem zE {w:World} {h h':AH} {t tx ty:TypeId} {sv x qz x' v:Value} (hs:bh ρ w h.ae h.next) (ha:aAppend P t tx sv x h=some (v,h')) (pG:VR ρ sv qz) (hx:VR ρ x x'):
  ∃ ρ' v' w',(Builtin.append_ #[t,tx] ty #[qz,x']).run P w= .ok v' w'∧VR ρ' v v'∧bh ρ' w' h'.ae h'.next∧Ext ρ h.ae h.next w ρ' h'.ae h'.next w':=by
 unfold aAppend at ha
 split at ha
 ·rename_i e dx base n c hu sa
  split at ha
  ·rename_i na
   have ag:(∃ q,dx= .slice q)∨dx= .string:=by cases dx<;>simp [appKind] at na ⊢
   cases b1:bW P e with
   | none=>rw [b1] at ha;cases ha
   | some s=>
    rw [b1] at ha;simp only [Option.bind_some] at ha
    cases iS:jj P e with
    | none=>rw [iS] at ha;cases ha
    | some bP=>
     rw [iS] at ha;simp only [Option.bind_some] at ha
     cases hz:dO P e with
     | none=>rw [hz] at ha;cases ha
     | some z=>
      rw [hz] at ha;simp only [Option.bind_some] at ha
      cases hn:aNews s x h with
      | none=>rw [hn] at ha;cases ha
      | some mx=>
       obtain ⟨m,news⟩:=mx
       rw [hn] at ha;simp only [Option.bind_some] at ha
       split at ha
       ·rename_i hc
        obtain ⟨c4,aU,Fc,Ej,Fj,fq⟩:=hc
        obtain ⟨g4,hl,hlen,lz,mj⟩:=v5 (P:=P) hs hn hx
        have nK:∀ u∈g4,u.oneCell'=true:=by
         intro u ko
         obtain ⟨i,hi⟩:=List.mem_iff_getElem?.1 ko
         have dq:i<news.length:=by rw [hl.1];exact (List.getElem?_eq_some_iff.1 hi).1
         have hv:=hl.2 i _ u (List.getElem?_eq_getElem dq) hi
         rw [hv.qM]
         exact List.all_eq_true.1 fq _ (List.getElem_mem dq)
        obtain ⟨i,hi,rY⟩:∃ i,P.info? e=some i∧i.bytes=bP:=by
         unfold jj at iS
         cases hi:P.info? e with
         | none=>rw [hi] at iS;cases iS
         | some i=>rw [hi] at iS;exact ⟨i,rfl,by simpa using iS⟩
        have E4:∀ w:World,(typeInfo e).run P w= .ok i w:=fun w=>by simp [typeInfo,hi]
        obtain ⟨ie,c',rfl,ak,av,kI,EI⟩:∃ ie c',qz= .slice ie n c'∧(c=n→c'=n)∧n≤c'∧(base=none→ie=none)∧
          (∀ a,base=some a→∃ a',ie=some a'∧(0<n→AR ρ a a')∧(c=n+1→AR ρ a a'∧∃ p,ρ a.block=some p∧a.off+c' * p.sz≤p.ext)):=by
         cases pG with
         | fV h1 h2=>exact ⟨_,_,rfl,h1,h2,fun _=>rfl,fun a h=>(by cases h)⟩
         | sl h1 h2 aw ax=>exact ⟨_,_,rfl,h1,h2,fun h=>(by cases h),fun a h=>(by cases h;exact ⟨_,rfl,aw,ax⟩)⟩
        have c8:ρ h.next=none:=by
         cases hr:ρ h.next with
         | none=>rfl
         | some p=>have:=hs.dV _ p hr;omega
        have grow:∀ (eW:List Value),c'<n+m→(∀ w2:World,w2.heap=w.heap→(Builtin.firstCells s n (.slice ie n c')).run P w2= .ok eW.toArray w2)→
          (Builtin.append_ #[t,tx] ty #[.slice ie n c',x']).run P w= .ok (.slice (some ⟨w.heap.size,0,none⟩) (n+m) (grownCap w (n+m) c' e))
           (w.drew.alloc (.cells (eW.toArray++g4.toArray++Builtin.zeroCells z.cells (grownCap w (n+m) c' e - (n+m))) e)):=by
         intro eW bq hold
         have ay:¬ (n+m≤c'):=by omega
         have az:¬ (((n+m:Nat):Int)>IntKind.i64.max∧(False∨i.bytes=0)):=by
          have:IntKind.i64.max=9223372036854775807:=by decide
          rw [this];omega
         have aA:¬ (Builtin.nextslicecap (n+m) c' * i.bytes>2 ^ 48):=by rw [rY];exact room_le bq Ej
         have h1:=hold w.drew rfl
         have h2:=mj w.drew rfl
         have hq:(Question.appendCap (n+m) c' e).forced=false:=rfl
         unfold Builtin.append_
         simp only [List.getElem?_toArray,List.getElem?_cons_zero,List.getElem?_cons_succ,Sem.run_bind,cq hu,e3 b1,cq sa,Result.andThen_ok,Sem.run_pure,lz]
         rcases ag with ⟨q,rfl⟩ | rfl
         all_goals
          simp only [Bool.false_eq_true,if_false,Sem.run_bind,lz,Result.andThen_ok,ay,Sem.run_ite,E4,az,aA,run_choose,hq,run_askRoom,World.drew_eq,h1,Bool.not_false,if_true,h2,j6 hz,newRow,run_newObj,World.alloc_eq,Sem.run_pure]
          rfl
        have zc:∀ k,(Builtin.zeroCells z.cells k).size=k * s:=fun k=>by simp [Builtin.zeroCells,Fc]
        have grown:∀ (cK eW:List Value),LR ρ cK eW→cK.length=n * s→c'<n+m→(∀ w2:World,w2.heap=w.heap→(Builtin.firstCells s n (.slice ie n c')).run P w2= .ok eW.toArray w2)→
          ∀ (du:cW),(∀ b B,du b=some B→h.ae b=some B)→(∀ b,ρ b=none→du b=h.ae b)→
          ∃ ρ' v' w',(Builtin.append_ #[t,tx] ty #[.slice ie n c',x']).run P w= .ok v' w'∧VR ρ' (.slice (some ⟨h.next,0,none⟩) (n+m) (n+m+1)) v'∧
           bh ρ' w' (bB du h.next (some ⟨cK++news,true,s⟩)) (h.next+1)∧Ext ρ h.ae h.next w ρ' (bB du h.next (some ⟨cK++news,true,s⟩)) (h.next+1) w':=by
         intro cK eW ho tK bq hold du an aB
         have hg:=grownCap_ge w (n+m) c' e
         refine ⟨bE ρ h.next ⟨w.heap.size,0,s,grownCap w (n+m) c' e * s⟩,_,_,grow eW bq hold,?_,?_,?_⟩
         ·refine .sl (fun q=>by omega) hg (fun _=>kH (by simp [bE];exact ⟨rfl,rfl⟩)) (fun _=>⟨kH (by simp [bE];exact ⟨rfl,rfl⟩),_,by simp [bE];rfl,by simp⟩)
         ·have aC:bh ρ w.drew du h.next:=(hs.less an).world rfl
          refine bh.made (fr:=(0,0)) (el:=e) (C:=eW.toArray++g4.toArray++Builtin.zeroCells z.cells (grownCap w (n+m) c' e - (n+m))) aC c8 (Nat.lt_succ_self _) (Nat.le_succ _) (ho.append hl) (by simp) (fun k hk=>heap_alloc_old w.drew _ k hk) (heap_alloc_new w.drew _) ?_ ?_ ?_ (.inl rfl)
          ·intro i v hv
           have aD:i<(eW++g4).length:=(List.getElem?_eq_some_iff.1 hv).1
           rw [Array.getElem?_append_left (by simpa using aD)]
           simpa using hv
          ·have h1:eW.length=n * s:=by rw [← ho.1];exact tK
           have h2:g4.length=m * s:=by rw [← hl.1];exact hlen
           simp only [Array.size_append,List.size_toArray,h1,h2,zc,← Nat.add_mul]
           exact Nat.mul_le_mul_right _ (by omega)
          ·rw [List.length_append,tK,hlen,← Nat.add_mul]
           exact Nat.mul_le_mul_right _ hg
         ·have hE:=Ext.made (ρ:=ρ) (w:=w) (ae:=h.ae) (next:=h.next) (next':=h.next+1) (w1:=w.drew.alloc (.cells (eW.toArray++g4.toArray++Builtin.zeroCells z.cells (grownCap w (n+m) c' e - (n+m))) e)) c8 (Nat.le_refl _) (Nat.le_succ _) (pl:=⟨w.heap.size,0,s,grownCap w (n+m) c' e * s⟩) rfl (B:=⟨cK++news,true,s⟩) (by simp) (fun k hk=>heap_alloc_old w.drew _ k hk) rfl rfl rfl
          exact ⟨hE.le,hE.os,hE.tape,hE.output,hE.size,hE.nx,hE.a5,fun k hk ⟨b,B,p,I,J,ad,ao⟩=>by
           by_cases eb:b=h.next
           ·subst eb;exact hE.gM k hk ⟨h.next,B,p,by simpa [bB] using I,J,ad,ao⟩
           ·exact hE.gM k hk ⟨b,B,p,by simpa [bB,eb] using an b B (by simpa [bB,eb] using I),J,ad,ao⟩,hE.new,fun b hb hr=>by
            simp only [bB]
            rw [if_neg (by omega)]
            exact aB b hr⟩
        by_cases hm:m=0
        ·
         rw [if_pos hm] at ha
         simp at ha
         obtain ⟨rfl,rfl⟩:=ha
         subst hm
         have aE:g4=[]:=by
          have h1:news.length=0:=by rw [hlen];simp
          have:g4.length=0:=by rw [← hl.1];exact h1
          exact List.eq_nil_of_length_eq_zero this
         subst aE
         refine ⟨ρ, .slice ie n c',w,?_,pG,hs,Ext.refl _ _ _ _⟩
         have h2:=mj w rfl
         unfold Builtin.append_
         simp only [List.getElem?_toArray,List.getElem?_cons_zero,List.getElem?_cons_succ,Sem.run_bind,cq hu,e3 b1,cq sa,Result.andThen_ok,Sem.run_pure,lz]
         rcases ag with ⟨q,rfl⟩ | rfl
         all_goals
          simp only [Bool.false_eq_true,if_false,Sem.run_bind,lz,Result.andThen_ok,Nat.add_zero,av,if_true,Bool.not_false,h2]
          cases ie<;>simp [storeCells]
        ·rw [if_neg hm] at ha
         cases pB:base with
         | none=>
          rw [pB] at ha
          simp only at ha
          split at ha
          ·rename_i h0
           obtain ⟨rfl,rfl⟩:=h0
           simp at ha
           obtain ⟨rfl,rfl⟩:=ha
           obtain rfl:=kI pB
           have:=ak rfl
           subst this
           obtain ⟨ρ',v',w',r1,U,aa,ab⟩:=grown [] [] (LR.nil ρ) (by simp) (by omega) (fun w2 _=>by simp [Builtin.firstCells]) h.ae (fun _ _ h=>h) (fun _ _=>rfl)
           simp only [Nat.zero_add,List.nil_append] at U aa ab
           exact ⟨ρ',v',w',r1,U,by rw [g5];exact aa,by rw [g5];exact ab⟩
          ·cases ha
         | some a=>
          rw [pB] at ha
          simp only at ha
          obtain ⟨a',rfl,m2,DD⟩:=EI a pB
          split at ha
          ·rename_i fU
           have tf:=ak fU
           cases hold:h.cv a (n * s) with
           | none=>rw [hold] at ha;cases ha
           | some cK=>
            rw [hold] at ha;simp at ha
            obtain ⟨rfl,rfl⟩:=ha
            have zC:∃ eW,LR ρ cK eW∧cK.length=n * s∧∀ w2:World,w2.heap=w.heap→(Builtin.firstCells s n (.slice (some a') n c')).run P w2= .ok eW.toArray w2:=by
             by_cases h0:n=0
             ·subst h0
              have aF:cK=[]:=by
               unfold AH.cv at hold
               split at hold
               ·cases hb:h.ae a.block with
                | none=>rw [hb] at hold;cases hold
                | some B=>rw [hb] at hold;simp at hold;exact by simpa using hold.2.symm
               ·cases hold
              subst aF
              exact ⟨[],LR.nil ρ,by simp,fun w2 _=>by simp [Builtin.firstCells,loadCells,loadCellsFrom]⟩
             ·obtain ⟨aZ,I,J,ad⟩:=l5 hs hold (m2 (by omega))
              refine ⟨aZ,I,J,fun w2 hw=>?_⟩
              have:=run_loadCells_list (P:=P) w2 a' aZ (fun j v hv=>by rw [← ad j v hv];exact World.cell?_of_block (by rw [hw]))
              rw [← I.1,J] at this
              simpa [Builtin.firstCells] using this
            obtain ⟨eW,aG,aH,aI⟩:=zC
            obtain ⟨ρ',v',w',r1,U,aa,ab⟩:=grown cK eW aG aH (by omega) aI h.ae (fun _ _ h=>h) (fun _ _=>rfl)
            exact ⟨ρ',v',w',r1,U,by rw [g5];exact aa,by rw [g5];exact ab⟩
          ·split at ha
           ·rename_i fU zF
            obtain ⟨nf,rK⟩:=zF
            obtain ⟨Ci,p,hp,qR⟩:=DD nf
            cases hB:h.ae a.block with
            | none=>rw [hB] at ha;cases ha
            | some B=>
             rw [hB] at ha
             simp only [Option.bind_some] at ha
             split at ha
             ·rename_i aJ
              obtain ⟨eN,vr,pP⟩:=aJ
              simp at ha
              obtain ⟨rfl,rfl⟩:=ha
              obtain ⟨_,p',eM,rfl⟩:=Ci
              rw [hp] at eM;cases eM
              obtain ⟨he,Fx,cur,el,fr,ah,aV,aK⟩:=hs.own _ B p hB hp eN
              have gT:p.sz=s:=by rw [← he];exact vr
              rw [gT] at qR
              by_cases qh:n+m≤c'
              ·
               have Ft:(n+m) * s≤c' * s:=Nat.mul_le_mul_right _ qh
               have iR:(n+m) * s=n * s+m * s:=Nat.add_mul _ _ _
               have aW:g4.length=m * s:=by rw [← hl.1];exact hlen
               obtain ⟨w',fe,r1,U,aa,ab,aq,ar,aL,aM,aO⟩:=sc (P:=P) p.ae (p.off+a.off+n * s) g4 0 w cur el fr ah (by omega) (fun j I J=>qq aK j (by omega)) nK
               have hJ:(Builtin.append_ #[t,tx] ty #[.slice (some ⟨p.ae,p.off+a.off,none⟩) n c',x']).run P w= .ok (.slice (some ⟨p.ae,p.off+a.off,none⟩) (n+m) c') w':=by
                have h2:=mj w rfl
                have pW:(⟨p.ae,p.off+a.off,none⟩:Addr).add (n * s)=⟨p.ae,p.off+a.off+n * s,none⟩:=by unfold Addr.add;split<;>simp_all
                unfold Builtin.append_
                simp only [List.getElem?_toArray,List.getElem?_cons_zero,List.getElem?_cons_succ,Sem.run_bind,cq hu,e3 b1,cq sa,Result.andThen_ok,Sem.run_pure,lz]
                rcases ag with ⟨q,rfl⟩ | rfl
                all_goals
                 simp only [Bool.false_eq_true,if_false,Sem.run_bind,lz,Result.andThen_ok,qh,if_true,Bool.not_false,h2,pW,r1,Sem.run_pure,List.toList_toArray]
               have ni:∀ (i:Nat) v,(B.cells++news)[i]?=some v→∃ v',fe[p.off+i]?=some v'∧VR ρ v v':=by
                intro i v hv
                rw [ab]
                by_cases aP:i<B.cells.length
                ·rw [List.getElem?_append_left aP] at hv
                 obtain ⟨v',I,J⟩:=hs.cell _ B p hB hp i v hv
                 rw [h4 ah] at I
                 exact ⟨v',by rw [if_neg (by omega)];exact I,J⟩
                ·rw [List.getElem?_append_right (by omega)] at hv
                 obtain ⟨v',I,J⟩:=hl.get hv
                 have aX:i - B.cells.length<g4.length:=(List.getElem?_eq_some_iff.1 I).1
                 exact ⟨v',by rw [if_pos (by omega)];rw [← I];congr 1;omega,J⟩
               have aQ:(B.cells++news).length≤p.ext:=by rw [List.length_append];omega
               have aR:=hs.wrote hB hp eN ah U aa aq ar aQ ni
               have aS:=Ext.wrote (next:=h.next) hB hp eN aq ar aL aM aO (some ⟨B.cells++news,true,B.dA⟩)
               have au:bB h.ae a.block (some ⟨B.cells++news,true,B.dA⟩) a.block=some ⟨B.cells++news,true,B.dA⟩:=by simp [bB]
               have ai:=aR.pT au hp rfl (id:=h.next) (next':=h.next+1) c8 (Nat.lt_succ_self _) (Nat.le_succ _) a.off (by omega) (by omega)
               have aj:=Ext.pT (w:=w') (next:=h.next) (next':=h.next+1) au hp rfl (id:=h.next) c8 (Nat.le_refl _) (Nat.le_succ _) (pl:=⟨p.ae,p.off+a.off,p.sz,p.ext - a.off⟩) rfl ⟨(B.cells++news).drop a.off,true,B.dA⟩
               have rN:(B.cells++news).drop a.off=B.cells.drop a.off++news:=by rw [List.drop_append_of_le_length (by omega)]
               have fZ:bB (bB (bB h.ae a.block (some ⟨B.cells++news,true,B.dA⟩)) a.block none) h.next (some ⟨(B.cells++news).drop a.off,true,B.dA⟩)=((h.put a.block none).alloc (B.cells.drop a.off++news) s).ae:=by
                rw [g5,AH.mP,kQ,rN,vr]
                funext b
                simp only [bB]
                by_cases e1:b=h.next
                ·rw [if_pos e1,if_pos e1]
                ·rw [if_neg e1,if_neg e1]
                 by_cases af:b=a.block
                 ·rw [if_pos af,if_pos af]
                 ·rw [if_neg af,if_neg af,if_neg af]
               simp only at ai aj
               rw [fZ] at ai aj
               refine ⟨_,_,w',hJ,?_,ai,aS.trans aj⟩
               have jT:bE ρ h.next ⟨p.ae,p.off+a.off,p.sz,p.ext - a.off⟩ h.next=some ⟨p.ae,p.off+a.off,p.sz,p.ext - a.off⟩:=by simp [bE]
               refine .sl (fun q=>by omega) qh (fun _=>⟨rfl,_,jT,by simp⟩) (fun _=>⟨⟨rfl,_,jT,by simp⟩,_,jT,?_⟩)
               simp only [gT];omega
              ·
               have hold:h.cv a (n * s)=some (B.cells.drop a.off):=by
                simp only [AH.cv,rK,hB,Option.bind_some]
                rw [if_pos (by omega),List.take_of_length_le (by simp;omega)]
               obtain ⟨aZ,I,J,ad⟩:=l5 hs hold ⟨rK,p,hp,rfl⟩
               obtain ⟨ρ',v',w',r1,U,aa,ab⟩:=grown _ aZ I J (by omega) (fun w2 hw=>by
                have:=run_loadCells_list (P:=P) w2 ⟨p.ae,p.off+a.off,none⟩ aZ (fun j v hv=>by rw [← ad j v hv];exact World.cell?_of_block (by rw [hw]))
                rw [← I.1,J] at this
                simpa [Builtin.firstCells] using this) (bB h.ae a.block none) (fun b C hC=>by
                 by_cases e:b=a.block
                 ·subst e;simp [bB] at hC
                 ·simpa [bB,e] using hC) (fun b hr=>by
                 simp only [bB]
                 rw [if_neg (fun e=>by subst e;rw [hp] at hr;cases hr)])
               exact ⟨ρ',v',w',r1,U,by rw [g5,kQ];exact aa,by rw [g5,kQ];exact ab⟩
             ·cases ha
           ·cases ha
       ·cases ha
  ·cases ha
 ·cases ha
end
end Go.Proofs.Ytcilejikekccmaa.Am
namespace Go.Proofs.Ytcilejikekccmaa.Am
open Go
variable [Marks]
section
variable {P:Program} {ρ:aT}
theorem AU:∀ (cs aZ:List Value) (bs:List UInt8),bytesOf cs=some bs→LR ρ cs aZ→∃ ns:List Int,aZ=ns.map (Value.int .u8)∧bs=ns.map fun n=>UInt8.ofNat n.toNat:=by
 intro cs
 induction cs with
 | nil=>intro aZ bs h hl;obtain rfl:=hl.ln;simp [bytesOf] at h;subst h;exact ⟨[],rfl,rfl⟩
 | cons c cs ih=>
  intro aZ bs h hl
  obtain ⟨c',aZ,rfl,hc,jh⟩:=hl.cons_inv
  cases hc<;>first | (simp only [bytesOf] at h;cases h;done) | skip
  rename_i k n
  cases k<;>first | (simp only [bytesOf] at h;cases h;done) | skip
  simp [bytesOf] at h
  obtain ⟨jJ,h1,rfl⟩:=h
  obtain ⟨ns,rfl,rfl⟩:=ih _ _ h1 jh
  exact ⟨n::ns,rfl,rfl⟩
theorem B7:∀ (ns:List Int) (l:List UInt8),ns.foldl (fun (r:ByteArray) n=>r.push (UInt8.ofNat n.toNat)) ⟨l.toArray⟩=⟨(l++ns.map fun n=>UInt8.ofNat n.toNat).toArray⟩:=by
 intro ns
 induction ns with
 | nil=>intro l;simp
 | cons n ns ih=>
  intro l
  simp only [List.foldl_cons,List.map_cons]
  have:(⟨l.toArray⟩:ByteArray).push (UInt8.ofNat n.toNat)=⟨(l++[UInt8.ofNat n.toNat]).toArray⟩:=by
   simp [ByteArray.push]
  rw [this,ih]
  simp
theorem bh.marked {w:World} {ae:cW} {next:Nat} (h:bh ρ w ae next) {g:Nat} {cur:Array Value} {el:TypeId} {fr:Nat×Nat} (hg:w.heap[g]?=some (.cells cur el fr)):
  bh ρ (w.freeze ⟨g,cur.size,none⟩ 1) ae next∧(∀ k,k≠g→(w.freeze ⟨g,cur.size,none⟩ 1).heap[k]?=w.heap[k]?)∧(w.freeze ⟨g,cur.size,none⟩ 1).heap.size=w.heap.size:=by
 have qc:∀ k,k≠g→(w.freeze ⟨g,cur.size,none⟩ 1).heap[k]?=w.heap[k]?:=fun k hk=>by simp [World.freeze,Array.getElem?_modify,Ne.symm hk]
 have ec:∃ j2,(w.freeze ⟨g,cur.size,none⟩ 1).heap[g]?=some (.cells cur el j2)∧(j2=(cur.size,cur.size+1)∨(fr.1≠fr.2∧j2=(min fr.1 cur.size,max fr.2 (cur.size+1)))):=by
  obtain ⟨lo,hi⟩:=fr
  by_cases e:lo=hi
  ·refine ⟨(cur.size,cur.size+1),?_, .inl rfl⟩
   simp [World.freeze,Array.getElem?_modify,hg,e]
  ·refine ⟨(min lo cur.size,max hi (cur.size+1)),?_, .inr ⟨e,rfl⟩⟩
   simp [World.freeze,Array.getElem?_modify,hg,e]
 have b1:(w.freeze ⟨g,cur.size,none⟩ 1).heap.size=w.heap.size:=by simp [World.freeze]
 obtain ⟨j2,aa,ab⟩:=ec
 refine ⟨⟨h.dV,fun b p q=>by rw [b1];exact h.lt b p q,fun b B p q r i v hv=>?_,fun b B p q r s=>?_,h.apart,h.live⟩,qc,b1⟩
 ·obtain ⟨v',J,ad⟩:=h.cell b B p q r i v hv
  refine ⟨v',?_,ad⟩
  by_cases e:p.ae=g
  ·rw [e] at J ⊢
   rw [h4 aa]
   rw [h4 hg] at J
   exact J
  ·rw [← J];exact World.cell?_of_block (qc _ e)
 ·obtain ⟨h1,h2,c0,e0,f0,j,U,I⟩:=h.own b B p q r s
  by_cases e:p.ae=g
  ·rw [e] at j ⊢
   rw [hg] at j
   injection j with j
   injection j with e1 af ag
   subst e1;subst af;subst ag
   refine ⟨h1,h2,cur,el,j2,aa,U,?_⟩
   rcases ab with rfl | ⟨bU,rfl⟩
   ·exact .inr U
   ·right
    rcases I with I | I
    ·exact absurd I bU
    ·simp only;omega
  ·exact ⟨h1,h2,c0,e0,f0,by rw [qc _ e];exact j,U,I⟩
theorem DP {w:World} {h h':AH} {src dst:TypeId} {x x' v:Value} (hs:bh ρ w h.ae h.next) (hc:aConvert P src dst x h=some (v,h')) (hx:VR ρ x x'):
  ∃ ρ' v' w',(convert src dst x').run P w= .ok v' w'∧VR ρ' v v'∧bh ρ' w' h'.ae h'.next∧Ext ρ h.ae h.next w ρ' h'.ae h'.next w':=by
 unfold aConvert at hc
 split at hc
 ·rename_i d k ai n gd fX
  simp at hc;obtain ⟨rfl,rfl⟩:=hc
  cases hx
  exact ⟨ρ,_,w,by simp [convert,cq gd,cq fX,Conv.intToInt], .int _ _,hs,Ext.refl _ _ _ _⟩
 ·rename_i d s gd fX
  simp at hc;obtain ⟨rfl,rfl⟩:=hc
  cases hx
  exact ⟨ρ,_,w,by simp [convert,cq gd,cq fX], .string _,hs,Ext.refl _ _ _ _⟩
 ·rename_i e s gd fX
  split at hc
  ·rename_i he
   simp at hc;obtain ⟨rfl,rfl⟩:=hc
   cases hx
   have c8:ρ h.next=none:=by
    cases hr:ρ h.next with
    | none=>rfl
    | some p=>have:=hs.dV _ p hr;omega
   have xK:∀ (i:Nat) v,(s.data.toList.map e9)[i]?=some v→(Lib.bytesCells w e s)[i]?=some v:=by
    intro i v hv
    have bq:i<(s.data.toList.map e9).length:=(List.getElem?_eq_some_iff.1 hv).1
    have U:i<(s.data.map fun b=>Value.int .u8 (b.toNat:Int)).size:=by simpa using bq
    unfold Lib.bytesCells
    rw [Array.getElem?_append_left U]
    simpa [e9] using hv
   have b1:s.size≤(Lib.bytesCells w e s).size:=by simp [Lib.bytesCells]
   refine ⟨bE ρ h.next ⟨w.heap.size,0,1,s.size⟩,_,_,Lib.run_convert_string_bytes w src dst e s gd fX he,?_,?_,?_⟩
   ·exact .sl (fun q=>by omega) (grownCap_ge w s.size 0 e) (fun _=>kH (sz:=1) (ext:=s.size) (by simp [bE])) (fun q=>by omega)
   ·rw [g5]
    exact bh.made hs c8 (Nat.lt_succ_self _) (Nat.le_succ _) (vI ρ _) (Lib.bytesWorld_size w e s) (fun k hk=>Lib.bytesWorld_at_old w e s k hk) (Lib.bytesWorld_at_new w e s) xK b1 (by simp) (.inr b1)
   ·rw [g5]
    exact Ext.made c8 (Nat.le_refl _) (Nat.le_succ _) rfl (Lib.bytesWorld_size w e s) (fun k hk=>Lib.bytesWorld_at_old w e s k hk) rfl rfl rfl
  ·cases hc
 ·rename_i e0 e a n c gd fX
  split at hc
  ·rename_i he
   split at hc
   ·rename_i kD
    obtain ⟨rfl,hn,eN⟩:=kD
    simp at hc;obtain ⟨rfl,rfl⟩:=hc
    obtain ⟨a',c',rfl,j⟩:∃ a' c',x'= .slice (some a') n c'∧(0<n→AR ρ a a'):=by
     cases hx with
     | sl h1 h2 j aa=>exact ⟨_,_,rfl,j⟩
    obtain ⟨fO,p,hp,rfl⟩:=j hn
    cases hB:h.ae a.block with
    | none=>rw [hB] at eN;cases eN
    | some B=>
     rw [hB] at eN
     simp at eN
     obtain ⟨h1,h2,cur,el,fr,I,aj,ak⟩:=hs.own _ B p hB hp eN
     obtain ⟨ab,ad,an⟩:=hs.marked I
     refine ⟨ρ,_,w.freeze ⟨p.ae,cur.size,none⟩ 1,?_,hx,ab,?_⟩
     ·have zj:w.shape? p.ae=some (el,cur.size):=by simp [World.shape?,I]
      have af:e0=e:=by rw [gd] at fX;cases fX;rfl
      subst af
      simp [convert,cq gd,cq he,markStringish,zj]
     ·exact ⟨cD.refl _,rfl,rfl,rfl,by omega,Nat.le_refl _,fun k hk ho=>ad k fun e=>ho ⟨_,B,p,hB,eN,hp,e.symm⟩,fun k _ q=>q,fun _ _ q=> .inl q,fun _ _ _=>rfl⟩
   ·cases hc
  ·cases hc
 ·rename_i e n c gd fX
  split at hc
  ·rename_i he
   simp at hc;obtain ⟨rfl,rfl⟩:=hc
   obtain ⟨c',rfl⟩:∃ c',x'= .slice none n c':=by
    cases hx with
    | fV h1 h2=>exact ⟨_,rfl⟩
   exact ⟨ρ,_,w,by rw [run_convert_bytes_string w src dst e none n c' gd he fX];simp [Conv.bytesToString], .string _,hs,Ext.refl _ _ _ _⟩
  ·cases hc
 ·rename_i e a n c gd fX
  split at hc
  ·rename_i he
   obtain ⟨a',c',rfl,j⟩:∃ a' c',x'= .slice (some a') n c'∧(0<n→AR ρ a a'):=by
    cases hx with
    | sl h1 h2 j aa=>exact ⟨_,_,rfl,j⟩
   split at hc
   ·rename_i h0
    subst h0
    simp at hc;obtain ⟨rfl,rfl⟩:=hc
    refine ⟨ρ, .string .empty,w,?_, .string _,hs,Ext.refl _ _ _ _⟩
    rw [run_convert_bytes_string w src dst e (some a') 0 c' gd he fX,run_bytesToString w a' 0 c' [] (by simp [loadCells,loadCellsFrom])]
    rfl
   ·rename_i h0
    cases de:h.cv a n with
    | none=>rw [de] at hc;cases hc
    | some cs=>
     rw [de] at hc
     simp only [Option.bind_some] at hc
     cases m6:bytesOf cs with
     | none=>rw [m6] at hc;cases hc
     | some bs=>
      rw [m6] at hc
      simp at hc;obtain ⟨rfl,rfl⟩:=hc
      obtain ⟨aZ,J,ag,ah⟩:=l5 hs de (j (by omega))
      obtain ⟨ns,rfl,rfl⟩:=AU _ _ _ m6 J
      have uy:=run_loadCells_list (P:=P) w a' _ ah
      rw [← J.1,ag] at uy
      refine ⟨ρ,_,w,?_, .string _,hs,Ext.refl _ _ _ _⟩
      rw [run_convert_bytes_string w src dst e (some a') n c' gd he fX,run_bytesToString w a' n c' ns uy]
      have:=B7 ns []
      simp only [List.nil_append] at this
      rw [← this]
      rfl
  ·cases hc
 ·cases hc
theorem Ac {w:World} {h h':AH} {t:TypeId} {x x' v v':Value} (hs:bh ρ w h.ae h.next) (bd:iO P t x v h=some h') (hx:VR ρ x x') (hv:VR ρ v v'):
  ∃ w',(Instr.storeAt t x' v').run P w= .ok () w'∧bh ρ w' h'.ae h'.next∧Ext ρ h.ae h.next w ρ h'.ae h'.next w':=by
 unfold iO at bd
 split at bd
 ·rename_i a
  obtain ⟨a',rfl,ha⟩:∃ a',x'= .pointer (some a')∧AR ρ a a':=by
   cases hx with
   | ptr h=>exact ⟨_,rfl,h⟩
  cases hz:bW P t with
  | none=>rw [hz] at bd;cases bd
  | some s=>
   rw [hz] at bd
   simp only [Option.bind_some] at bd
   split at bd
   ·rename_i gC
    obtain ⟨fO,p,hp,rfl⟩:=ha
    simp only [AH.store,fO] at bd
    cases hB:h.ae a.block with
    | none=>rw [hB] at bd;cases bd
    | some B=>
     rw [hB] at bd
     simp only [Option.bind_some] at bd
     split at bd
     ·rename_i kD
      obtain ⟨eN,hlen,fq⟩:=kD
      injection bd with bd
      subst bd
      have hl:=hv.cells
      obtain ⟨h1,h2,cur,el,fr,U,an,ad⟩:=hs.own _ B p hB hp eN
      have nK:∀ u∈v'.cells.toList,u.oneCell'=true:=by
       intro u ko
       obtain ⟨i,hi⟩:=List.mem_iff_getElem?.1 ko
       have dq:i<v.cells.toList.length:=by rw [hl.1];exact (List.getElem?_eq_some_iff.1 hi).1
       have r3:=hl.2 i _ u (List.getElem?_eq_getElem dq) hi
       rw [r3.qM]
       exact List.all_eq_true.1 fq _ (List.getElem_mem dq)
      have m4:v'.cells.toList.length=v.cells.toList.length:=hl.1.symm
      obtain ⟨w',fe,r1,af,ag,ah,aa,ab,ai,aj,ak⟩:=sc (P:=P) p.ae (p.off+a.off) v'.cells.toList 0 w cur el fr U (by omega) (fun j I J=>qq ad j (by omega)) nK
      have ni:∀ (i:Nat) u,(B.cells.take a.off++v.cells.toList++B.cells.drop (a.off+v.cells.toList.length))[i]?=some u→∃ u',fe[p.off+i]?=some u'∧VR ρ u u':=by
       intro i u hu
       rw [ah,m4]
       have mn:(B.cells.take a.off).length=a.off:=by rw [List.length_take];omega
       by_cases i1:i<a.off
       ·rw [List.append_assoc,List.getElem?_append_left (by omega),List.getElem?_take,if_pos i1] at hu
        obtain ⟨u',I,J⟩:=hs.cell _ B p hB hp i u hu
        rw [h4 U] at I
        exact ⟨u',by rw [if_neg (by omega)];exact I,J⟩
       ·by_cases i2:i<a.off+v.cells.toList.length
        ·rw [List.append_assoc,List.getElem?_append_right (by omega),mn,List.getElem?_append_left (by omega)] at hu
         obtain ⟨u',I,J⟩:=hl.get hu
         refine ⟨u',?_,J⟩
         rw [if_pos (by omega),← I]
         congr 1
         omega
        ·rw [List.getElem?_append_right (by rw [List.length_append];omega),List.getElem?_drop,List.length_append,mn] at hu
         obtain ⟨u',I,J⟩:=hs.cell _ B p hB hp _ u hu
         rw [h4 U] at I
         refine ⟨u',?_,J⟩
         rw [if_neg (by omega),← I]
         congr 1
         omega
      have j5:(B.cells.take a.off++v.cells.toList++B.cells.drop (a.off+v.cells.toList.length)).length≤p.ext:=by
       simp only [List.length_append,List.length_take,List.length_drop];omega
      have b1:v'.cells.size=s:=by have:=m4;simp only [Array.length_toList] at this;omega
      refine ⟨w',?_,?_,?_⟩
      ·simp [Instr.storeAt,Instr.sureAddr,storeVar,e3 hz,b1,r1]
      ·rw [kQ]
       exact hs.wrote hB hp eN U af ag aa ab j5 ni
      ·rw [kQ]
       exact Ext.wrote hB hp eN aa ab ai aj ak _
     ·cases bd
   ·cases bd
 ·cases bd
theorem DC {w:World} {h h':AH} {a a':Addr} {cs aZ:List Value} (hs:bh ρ w h.ae h.next) (bd:h.store a cs=some h') (ha:AR ρ a a') (hl:LR ρ cs aZ):
  ∃ w',(storeCells a' aZ).run P w= .ok () w'∧bh ρ w' h'.ae h'.next∧Ext ρ h.ae h.next w ρ h'.ae h'.next w':=by
  obtain ⟨fO,p,hp,rfl⟩:=ha
  simp only [AH.store,fO] at bd
  cases hB:h.ae a.block with
  | none=>rw [hB] at bd;cases bd
  | some B=>
   rw [hB] at bd
   simp only [Option.bind_some] at bd
   split at bd
   ·rename_i kD
    obtain ⟨eN,hlen,fq⟩:=kD
    injection bd with bd
    subst bd
    obtain ⟨h1,h2,cur,el,fr,U,an,ad⟩:=hs.own _ B p hB hp eN
    have nK:∀ u∈aZ,u.oneCell'=true:=by
     intro u ko
     obtain ⟨i,hi⟩:=List.mem_iff_getElem?.1 ko
     have dq:i<cs.length:=by rw [hl.1];exact (List.getElem?_eq_some_iff.1 hi).1
     have r3:=hl.2 i _ u (List.getElem?_eq_getElem dq) hi
     rw [r3.qM]
     exact List.all_eq_true.1 fq _ (List.getElem_mem dq)
    have m4:aZ.length=cs.length:=hl.1.symm
    obtain ⟨w',fe,r1,af,ag,ah,aa,ab,ai,aj,ak⟩:=sc (P:=P) p.ae (p.off+a.off) aZ 0 w cur el fr U (by omega) (fun j I J=>qq ad j (by omega)) nK
    have ni:∀ (i:Nat) u,(B.cells.take a.off++cs++B.cells.drop (a.off+cs.length))[i]?=some u→∃ u',fe[p.off+i]?=some u'∧VR ρ u u':=by
     intro i u hu
     rw [ah,m4]
     have mn:(B.cells.take a.off).length=a.off:=by rw [List.length_take];omega
     by_cases i1:i<a.off
     ·rw [List.append_assoc,List.getElem?_append_left (by omega),List.getElem?_take,if_pos i1] at hu
      obtain ⟨u',I,J⟩:=hs.cell _ B p hB hp i u hu
      rw [h4 U] at I
      exact ⟨u',by rw [if_neg (by omega)];exact I,J⟩
     ·by_cases i2:i<a.off+cs.length
      ·rw [List.append_assoc,List.getElem?_append_right (by omega),mn,List.getElem?_append_left (by omega)] at hu
       obtain ⟨u',I,J⟩:=hl.get hu
       refine ⟨u',?_,J⟩
       rw [if_pos (by omega),← I]
       congr 1
       omega
      ·rw [List.getElem?_append_right (by rw [List.length_append];omega),List.getElem?_drop,List.length_append,mn] at hu
       obtain ⟨u',I,J⟩:=hs.cell _ B p hB hp _ u hu
       rw [h4 U] at I
       refine ⟨u',?_,J⟩
       rw [if_neg (by omega),← I]
       congr 1
       omega
    have j5:(B.cells.take a.off++cs++B.cells.drop (a.off+cs.length)).length≤p.ext:=by
     simp only [List.length_append,List.length_take,List.length_drop];omega
    refine ⟨w',?_,?_,?_⟩
    ·exact r1
    ·rw [kQ]
     exact hs.wrote hB hp eN U af ag aa ab j5 ni
    ·rw [kQ]
     exact Ext.wrote hB hp eN aa ab ai aj ak _
   ·cases bd
theorem C8 {w:World} {h h':AH} {t tx ty:TypeId} {d d' s s' v:Value} (hs:bh ρ w h.ae h.next) (hc:aCopy P t d s h=some (v,h')) (hd:VR ρ d d') (pG:VR ρ s s'):
  ∃ v' w',(Builtin.copy_ #[t,tx] ty #[d',s']).run P w= .ok v' w'∧VR ρ v v'∧bh ρ w' h'.ae h'.next∧Ext ρ h.ae h.next w ρ h'.ae h'.next w':=by
 unfold aCopy at hc
 split at hc
 ·rename_i e db n c sb m c2 hu
  cases hz:bW P e with
  | none=>rw [hz] at hc;cases hc
  | some z=>
   rw [hz] at hc
   simp only [Option.bind_some] at hc
   obtain ⟨pr,c',rfl,Du⟩:∃ pr c',d'= .slice pr n c'∧(∀ a,db=some a→∃ a',pr=some a'∧(0<n→AR ρ a a')):=by
    cases hd with
    | fV h1 h2=>exact ⟨_,_,rfl,fun a q=>by cases q⟩
    | sl h1 h2 j J=>exact ⟨_,_,rfl,fun a q=>by cases q;exact ⟨_,rfl,j⟩⟩
   obtain ⟨mN,ti,rfl,CO⟩:∃ mN c',s'= .slice mN m c'∧(∀ a,sb=some a→∃ a',mN=some a'∧(0<m→AR ρ a a')):=by
    cases pG with
    | fV h1 h2=>exact ⟨_,_,rfl,fun a q=>by cases q⟩
    | sl h1 h2 j J=>exact ⟨_,_,rfl,fun a q=>by cases q;exact ⟨_,rfl,j⟩⟩
   split at hc
   ·rename_i h0
    simp at hc
    obtain ⟨rfl,rfl⟩:=hc
    refine ⟨.int .i64 0,w,?_, .int _ _,hs,Ext.refl _ _ _ _⟩
    have hf:(Builtin.firstCells z (Nat.min m n) (.slice mN m ti)).run P w= .ok #[] w:=by
     rw [h0]
     cases mN<;>simp [Builtin.firstCells,loadCells,loadCellsFrom]
    rw [h0] at hf
    cases pr<;>simp [Builtin.copy_,cq hu,Builtin.lenOf,e3 hz,hf,h0,storeCells,goInt]
   ·rename_i h0
    split at hc
    ·rename_i a b
     obtain ⟨a',rfl,ha⟩:=Du a rfl
     obtain ⟨b',rfl,hb⟩:=CO b rfl
     have u4:0<m∧0<n:=by
      have:Nat.min m n≠0:=h0
      have e:Nat.min m n=min m n:=rfl
      omega
     cases de:h.cv b (Nat.min m n * z) with
     | none=>rw [de] at hc;cases hc
     | some cs=>
      rw [de] at hc
      simp only [Option.bind_some] at hc
      cases bd:h.store a cs with
      | none=>rw [bd] at hc;cases hc
      | some h2=>
       rw [bd] at hc
       simp at hc
       obtain ⟨rfl,rfl⟩:=hc
       obtain ⟨aZ,I,U,aa⟩:=l5 hs de (hb u4.1)
       have mq:=run_loadCells_list (P:=P) w b' aZ aa
       rw [← I.1,U] at mq
       obtain ⟨w',r1,ab,ad⟩:=DC (P:=P) hs bd (ha u4.2) I
       refine ⟨.int .i64 (Nat.min m n),w',?_, .int _ _,ab,ad⟩
       have hf:(Builtin.firstCells z (Nat.min m n) (.slice (some b') m ti)).run P w= .ok aZ.toArray w:=by
        simpa [Builtin.firstCells] using mq
       simp [Builtin.copy_,cq hu,Builtin.lenOf,e3 hz,hf,r1,goInt]
    ·cases hc
 ·cases hc
end
end Go.Proofs.Ytcilejikekccmaa.Am
namespace Go.Proofs.Ytcilejikekccmaa.Am
open Go
variable [Marks]
section
variable {P:Program} {ρ:aT}
def Good (P:Program) (call:cy):Prop:=∀ f args h v h',call f args h=some (v,h')→
 (∃ fn c,P.funcs[f]?=some fn∧fn.body=some c∧(fn.name == "runtime.NumGoroutine")=false)∧
 ∀ (ρ:aT) (w:World) (ff:List Value),LR ρ args ff→bh ρ w h.ae h.next→
  Calls P f ff.toArray w fun e w'=>∃ ρ' v',e= .returned v'∧VR ρ' v v'∧bh ρ' w' h'.ae h'.next∧Ext ρ h.ae h.next w ρ' h'.ae h'.next w'
theorem gk {o:Oper} {a:Act} {w w':World} {v:Value} {K:Act→World→Prop} {Q:Exit→Act→World→Prop} (h:(execOp a.eval o).run P w= .ok (.value v) w') (hK:K (a.put o.dst v) w'):o.wp P a w K Q:=by
 unfold Oper.wp
 rw [h]
 exact hK
theorem Ei {o:Oper} {a:Act} {w w':World} {K:Act→World→Prop} {Q:Exit→Act→World→Prop} (h:(execOp a.eval o).run P w= .ok .skip w') (hK:K (a.put o.dst undef) w'):o.wp P a w K Q:=by
 unfold Oper.wp
 rw [h]
 exact hK
theorem LR.map {ev dH:Operand→Value}:∀ (l:List Operand),(∀ x∈l,VR ρ (ev x) (dH x))→LR ρ (l.map ev) (l.map dH):=by
 intro l
 induction l with
 | nil=>intro _;exact LR.nil ρ
 | cons x l ih=>intro h;exact LR.cons (h x (by simp)) (ih fun y hy=>h y (by simp [hy]))
theorem LR.arr {cs aZ:Array Value} (h:LR ρ cs.toList aZ.toList):cs.size=aZ.size∧∀ (i:Nat) v v',cs[i]?=some v→aZ[i]?=some v'→VR ρ v v':=
 ⟨by simpa using h.1,fun i v v' a b=>h.2 i v v' (by simpa using a) (by simpa using b)⟩
theorem r4 {call:cy} (n1:Good P call) {o:Oper} {ev:Operand→Value} {a:Act} {w:World} {h h':AH} {v:Value} (hs:bh ρ w h.ae h.next) (cc:∀ x∈o.op.operands,VR ρ (ev x) (a.eval x))
  (av:aOp P call ev o.op h=some (v,h')) {K:Act→World→Prop} {Q:Exit→Act→World→Prop}
  (hK:∀ ρ' v' w',VR ρ' v v'→bh ρ' w' h'.ae h'.next→Ext ρ h.ae h.next w ρ' h'.ae h'.next w'→K (a.put o.dst v') w'):o.wp P a w K Q:=by
 have still:∀ (s:Sem Value) (u:Value),(∃ v',VR ρ u v'∧∀ w,s.run P w= .ok v' w)→(v,h')=(u,h)→(execOp a.eval o=do pure (.value (← s)))→o.wp P a w K Q:=by
  intro s u ⟨v',h1,h2⟩ he hx
  injection he with e1 J
  subst e1;subst J
  exact gk (by rw [hx];simp [h2 w]) (hK ρ v' w h1 hs (Ext.refl _ _ _ _))
 have fresh:∀ f,aFresh P ev o.op=some f→(v,h')=h.fresh f→o.wp P a w K Q:=by
  intro f hf he
  obtain ⟨v',C,el,h1,h2,ag⟩:=tj (P:=P) cc hf w
  injection he with e1 J
  subst e1;subst J
  have c8:ρ h.next=none:=by
   cases hr:ρ h.next with
   | none=>rfl
   | some p=>have:=hs.dV _ p hr;omega
  refine gk h1 (hK (bE ρ h.next ⟨w.heap.size,0,f.2.2,C.size⟩) v' _ (ag _ _ (cD.bE ρ _ c8) (by simp [bE])) ?_ ?_)
  ·rw [g5]
   exact bh.made (fr:=(0,0)) hs c8 (Nat.lt_succ_self _) (Nat.le_succ _) h2 (by simp) (fun k hk=>heap_alloc_old w _ k hk) (heap_alloc_new w _) (fun i v hv=>by simpa using hv) (Nat.le_refl _) (by have:=h2.1;simp at this;omega) (.inl rfl)
  ·rw [g5]
   exact Ext.made c8 (Nat.le_refl _) (Nat.le_succ _) rfl (by simp) (fun k hk=>heap_alloc_old w _ k hk) rfl rfl rfl
 obtain ⟨dst,op,ty,pos,after,guard⟩:=o
 simp only at cc av fresh
 cases op<;>simp only [aOp] at av<;>try (cases av;done)
 case move x=>
  have hx:=cc x (by simp [Op.operands])
  exact still (pure (a.eval x)) (ev x) ⟨_,hx,fun w=>rfl⟩ (Option.some.inj av).symm rfl
 case assign x=>
  have hx:=cc x (by simp [Op.operands])
  exact still (pure (a.eval x)) (ev x) ⟨_,hx,fun w=>rfl⟩ (Option.some.inj av).symm rfl
 case pick c x y=>
  have hc:=cc c (by simp [Op.operands])
  have hx:=cc x (by simp [Op.operands])
  have hy:=cc y (by simp [Op.operands])
  split at av
  ·rename_i t ru
   rw [ru] at hc
   generalize tf:a.eval c=c' at hc
   cases hc
   injection av with av
   injection av with e1 J
   subst e1;subst J
   refine gk (v:=if t then a.eval x else a.eval y) (w':=w) (by simp [execOp,tf,asBool]) (hK ρ _ w ?_ hs (Ext.refl _ _ _ _))
   cases t<;>simp [hx,hy]
  ·cases av
 case alloc e=>
  cases hf:m1 P e with
  | none=>rw [hf] at av;cases av
  | some f=>rw [hf] at av;exact fresh f (by simpa [aFresh] using hf) (Option.some.inj av).symm
 case box e x=>
  cases hf:ny (ev x) with
  | none=>rw [hf] at av;cases av
  | some f=>rw [hf] at av;exact fresh f (by simpa [aFresh] using hf) (Option.some.inj av).symm
 case buildSlice t n ps=>
  cases hf:aBuildSlice P t n (ps.toList.map fun p=>(p.1,ev p.2)) with
  | none=>rw [hf] at av;cases av
  | some f=>rw [hf] at av;exact fresh f (by simpa [aFresh] using hf) (Option.some.inj av).symm
 case makeSlice t l c=>
  cases hf:aMakeSlice P t (ev l) (ev c) with
  | none=>rw [hf] at av;cases av
  | some f=>rw [hf] at av;exact fresh f (by simpa [aFresh] using hf) (Option.some.inj av).symm
 case build t ps=>
  cases hb:aBuild P t (ps.toList.map fun p=>(p.1,ev p.2)) with
  | none=>rw [hb] at av;cases av
  | some u=>
   rw [hb] at av
   obtain ⟨j,I⟩:=tW (ρ:=ρ) (ev:=ev) (dH:=a.eval) ps (fun x hx=>cc x.2 (by simp [Op.operands];exact ⟨x.1,hx⟩))
   refine still (Instr.build t (ps.map fun (i,x)=>(i,a.eval x))) u ?_ (Option.some.inj av).symm rfl
   obtain ⟨v',r1,au⟩:=BX (P:=P) hb j I
   have e:(ps.toList.map fun p=>(p.1,a.eval p.2)).toArray=ps.map fun (i,x)=>(i,a.eval x):=by apply Array.ext';simp
   rw [e] at au
   exact ⟨v',r1,au⟩
 case load t x=>
  have hx:=cc x (by simp [Op.operands])
  cases hl:aLoad P t (ev x) h with
  | none=>rw [hl] at av;cases av
  | some u=>
   rw [hl] at av
   injection av with av
   injection av with e1 J
   subst e1;subst J
   obtain ⟨v',j,I⟩:=tQ (P:=P) hs hl hx
   exact gk (by simp [execOp,I]) (hK ρ v' w j hs (Ext.refl _ _ _ _))
 case store t x y=>
  have hx:=cc x (by simp [Op.operands])
  have hy:=cc y (by simp [Op.operands])
  cases hl:iO P t (ev x) (ev y) h with
  | none=>rw [hl] at av;cases av
  | some u=>
   rw [hl] at av
   injection av with av
   injection av with e1 J
   subst e1;subst J
   obtain ⟨w',j,I,U⟩:=Ac (P:=P) hs hl hx hy
   exact Ei (by simp [execOp,j]) (hK ρ undef w' (VR.undef ρ) I U)
 case nilCheck x=>
  have hx:=cc x (by simp [Op.operands])
  split at av
  ·rename_i ad iN
   rw [iN] at hx
   generalize fW:a.eval x=x' at hx
   obtain ⟨gR,rfl,BC⟩:∃ gR,x'= .pointer (some gR)∧AR ρ ad gR:=by
    cases hx with
    | ptr h=>exact ⟨_,rfl,h⟩
   injection av with av
   injection av with e1 J
   subst e1;subst J
   exact gk (v:= .pointer (some gR)) (w':=w) (by simp [execOp,fW]) (hK ρ _ w (.ptr BC) hs (Ext.refl _ _ _ _))
  ·rename_i f fi ca iN
   rw [iN] at hx
   generalize fW:a.eval x=x' at hx
   injection av with av
   injection av with e1 J
   subst e1;subst J
   cases hx with
   | func f h1 h2 ag aj=>exact gk (w':=w) (by simp only [execOp,fW];rfl) (hK ρ _ w (.func f h1 h2 ag aj) hs (Ext.refl _ _ _ _))
  ·cases av
 case binOp op t x y yt=>
  have hx:=cc x (by simp [Op.operands])
  have hy:=cc y (by simp [Op.operands])
  cases hb:aBin P op t (ev x) (ev y) with
  | none=>rw [hb] at av;cases av
  | some u=>
   rw [hb] at av
   obtain ⟨j,I⟩:=zK (P:=P) hb hx hy x y
   exact still (jF op t x y (a.eval x) (a.eval y)) u ⟨u,j,I⟩ (Option.some.inj av).symm rfl
 case unOp op t x=>
  have hx:=cc x (by simp [Op.operands])
  cases hb:aUn op (ev x) with
  | none=>rw [hb] at av;cases av
  | some u=>rw [hb] at av;exact still (Op.unary op (a.eval x)) u (wo hb hx) (Option.some.inj av).symm rfl
 case convert s d x=>
  have hx:=cc x (by simp [Op.operands])
  obtain ⟨ρ',v',w',j,I,U,ah⟩:=DP (P:=P) hs av hx
  exact gk (by simp [execOp,j]) (hK ρ' v' w' I U ah)
 case makeInterface t x=>
  have hx:=cc x (by simp [Op.operands])
  split at av
  ·cases av
  ·rename_i d fG hu
   refine still (Instr.makeInterface t (a.eval x)) (.iface t (ev x)) ⟨.iface t (a.eval x), .iface t hx,fun w=>?_⟩ (Option.some.inj av).symm rfl
   simp only [Instr.makeInterface,Sem.run_bind,cq hu,Result.andThen_ok]
   cases d<;>first | rfl | (exact absurd rfl (fG _))
  ·cases av
 case makeFunc fn first captured=>
  cases fn<;>simp only at av<;>try (cases av;done)
  rename_i f
  refine still (Instr.makeFunc (.func f) (first.map a.eval) (captured.map a.eval)) (.func (.func f) (first.map ev) (captured.map ev)) ⟨.func (.func f) (first.map a.eval) (captured.map a.eval),?_,fun w=>rfl⟩ (Option.some.inj av).symm rfl
  have h1:LR ρ (first.map ev).toList (first.map a.eval).toList:=by
   simp only [Array.toList_map]
   exact LR.map _ fun x hx=>cc x (by simp [Op.operands];exact .inl (by simpa using hx))
  have h2:LR ρ (captured.map ev).toList (captured.map a.eval).toList:=by
   simp only [Array.toList_map]
   exact LR.map _ fun x hx=>cc x (by simp [Op.operands];exact .inr (by simpa using hx))
  exact .func f h1.arr.1 h1.arr.2 h2.arr.1 h2.arr.2
 case slice t x lo hi mx=>
  have hx:=cc x (by simp [Op.operands])
  cases hb:aSlice P t (ev x) (lo.map ev) (hi.map ev) (mx.map ev) with
  | none=>rw [hb] at av;cases av
  | some u=>
   rw [hb] at av
   exact still (Instr.sliceAt t (a.eval x) (lo.map a.eval) (hi.map a.eval) (mx.map a.eval)) u
    (Dm hb hx (OR.map lo fun o ho=>cc o (by simp [Op.operands,ho])) (OR.map hi fun o ho=>cc o (by simp [Op.operands,ho])) (OR.map mx fun o ho=>cc o (by simp [Op.operands,ho]))) (Option.some.inj av).symm rfl
 case fieldAddr s x f=>
  have hx:=cc x (by simp [Op.operands])
  cases hb:aField P s f (ev x) with
  | none=>rw [hb] at av;cases av
  | some u=>rw [hb] at av;exact still (Instr.fieldAt s (a.eval x) f) u (yd hb hx) (Option.some.inj av).symm rfl
 case field t x f=>
  have hx:=cc x (by simp [Op.operands])
  cases hb:aFieldV P t f (ev x) with
  | none=>rw [hb] at av;cases av
  | some u=>rw [hb] at av;exact still (Instr.field t (a.eval x) f) u (xS hb hx) (Option.some.inj av).symm rfl
 case indexAddr t x i=>
  have hx:=cc x (by simp [Op.operands])
  have hi:=cc i (by simp [Op.operands])
  cases hb:aIndexAddr P t (ev x) (ev i) with
  | none=>rw [hb] at av;cases av
  | some u=>rw [hb] at av;exact still (Instr.indexAt t (a.eval x) (a.eval i)) u (En hb hx hi) (Option.some.inj av).symm rfl
 case index t x i=>
  have hx:=cc x (by simp [Op.operands])
  have hi:=cc i (by simp [Op.operands])
  cases hb:aIndex P t (ev x) (ev i) with
  | none=>rw [hb] at av;cases av
  | some u=>rw [hb] at av;exact still (Instr.index t (a.eval x) (a.eval i)) u (D0 hb hx hi) (Option.some.inj av).symm rfl
 case typeAssert x xt t ok=>
  have hx:=cc x (by simp [Op.operands])
  cases hb:aAssert P (ev x) t ok with
  | none=>rw [hb] at av;cases av
  | some u=>rw [hb] at av;exact still (Instr.typeAssert (a.eval x) xt t ok) u (Dp hb hx) (Option.some.inj av).symm rfl
 case extract x i=>
  have hx:=cc x (by simp [Op.operands])
  split at av
  ·rename_i vs iN
   rw [iN] at hx
   generalize fW:a.eval x=x' at hx
   obtain ⟨cO,rfl,h1,h2⟩:∃ cO,x'= .tuple cO∧vs.size=cO.size∧∀ (i:Nat) v v',vs[i]?=some v→cO[i]?=some v'→VR ρ v v':=by
    cases hx with
    | tuple h1 h2=>exact ⟨_,rfl,h1,h2⟩
   cases hg:vs[i]? with
   | none=>rw [hg] at av;cases av
   | some u=>
    rw [hg] at av
    obtain ⟨u',aw,ax⟩:=(LR.jy h1 h2).get (show vs.toList[i]?=some u by simpa using hg)
    refine still (Instr.extract (a.eval x) i) u ⟨u',ax,fun w=>?_⟩ (Option.some.inj av).symm rfl
    have yM:cO[i]?=some u':=by simpa using aw
    simp [fW,Instr.extract,yM]
  ·cases av
 case call c=>
  obtain ⟨callee,args,argTypes⟩:=c
  cases callee with
  | invoke r m=>simp only at av;cases av
  | builtin b=>
   simp only at av
   have dU:LR ρ (args.toList.map ev) (args.toList.map a.eval):=LR.map _ fun x hx=>cc x (by simp [Op.operands,Call.operands];simpa using hx)
   have CN:(args.toList.map a.eval)=(args.map a.eval).toList:=by simp
   rw [CN] at dU
   generalize hA:args.map a.eval=A at dU
   obtain ⟨tN,hex⟩:∃ tN,execOp a.eval ⟨dst, .call ⟨.builtin b,args,argTypes⟩,ty,pos,after,guard⟩=builtin b argTypes ty tN A:=by
    subst hA
    exact ⟨_,rfl⟩
   unfold aBuiltin at av
   split at av
   ·rename_i t tx s x mD has
    rw [has] at dU
    obtain ⟨s',ai,aa,ak,af⟩:=dU.cons_inv
    obtain ⟨x',ay,an,ab,ao⟩:=af.cons_inv
    obtain rfl:=ao.ln
    subst an
    have aq:A=#[s',x']:=by apply Array.ext';simpa using aa
    have ar:argTypes=#[t,tx]:=by apply Array.ext';simpa using mD
    obtain ⟨ρ',v',w',j,I,U,ah⟩:=zE (P:=P) (ty:=ty) hs av ak ab
    refine gk (v:=v') (w':=w') ?_ (hK ρ' v' w' I U ah)
    rw [hex,aq,ar]
    simp [builtin,j]
   ·rename_i t tx s x mD has
    rw [has] at dU
    obtain ⟨s',ai,aa,ak,af⟩:=dU.cons_inv
    obtain ⟨x',ay,an,ab,ao⟩:=af.cons_inv
    obtain rfl:=ao.ln
    subst an
    have aq:A=#[s',x']:=by apply Array.ext';simpa using aa
    have ar:argTypes=#[t,tx]:=by apply Array.ext';simpa using mD
    obtain ⟨v',w',j,I,U,ah⟩:=C8 (P:=P) (tx:=tx) (ty:=ty) hs av ak ab
    refine gk (v:=v') (w':=w') ?_ (hK ρ v' w' I U ah)
    rw [hex,aq,ar]
    simp [builtin,j]
   ·rename_i t ts x xs mD has
    rw [has] at dU
    obtain ⟨x',ai,aa,ab,af⟩:=dU.cons_inv
    cases hb:aLen P t x with
    | none=>rw [hb] at av;cases av
    | some u=>
     rw [hb] at av
     injection av with av
     injection av with e1 J
     subst e1;subst J
     have az:argTypes[0]?=some t:=by rw [← Array.getElem?_toList,mD];rfl
     have aA:A[0]?=some x':=by rw [← Array.getElem?_toList,aa];rfl
     obtain ⟨j,I⟩:=Eu (P:=P) (ty:=ty) hb ab az aA
     exact gk (v:=u) (w':=w) (by rw [hex];simp [builtin,I w]) (hK ρ u w j hs (Ext.refl _ _ _ _))
   ·rename_i ts x vs has
    rw [has] at dU
    obtain ⟨x',ai,aa,ab,af⟩:=dU.cons_inv
    cases hb:aMax x vs with
    | none=>rw [hb] at av;cases av
    | some u=>
     rw [hb] at av
     injection av with av
     injection av with e1 J
     subst e1;subst J
     obtain ⟨kk,nn,rfl⟩:∃ k n,x= .int k n:=by
      unfold aMax at hb
      split at hb<;>first | exact ⟨_,_,rfl⟩ | cases hb
     have fW:x'= .int kk nn:=by cases ab;rfl
     subst fW
     obtain ⟨j,I⟩:=yv (P:=P) _ _ _ _ hb af w
     exact gk (v:=u) (w':=w) (by rw [hex];simp [builtin,Builtin.max_,aa,j]) (hK ρ u w I hs (Ext.refl _ _ _ _))
   ·rename_i ts x vs has
    rw [has] at dU
    obtain ⟨x',ai,aa,ab,af⟩:=dU.cons_inv
    cases hb:jv x vs with
    | none=>rw [hb] at av;cases av
    | some u=>
     rw [hb] at av
     injection av with av
     injection av with e1 J
     subst e1;subst J
     obtain ⟨kk,nn,rfl⟩:∃ k n,x= .int k n:=by
      unfold jv at hb
      split at hb<;>first | exact ⟨_,_,rfl⟩ | cases hb
     have fW:x'= .int kk nn:=by cases ab;rfl
     subst fW
     obtain ⟨j,I⟩:=Ca (P:=P) _ _ _ _ hb af w
     exact gk (v:=u) (w':=w) (by rw [hex];simp [builtin,Builtin.min_,aa,j]) (hK ρ u w I hs (Ext.refl _ _ _ _))
   ·cases av
  | value f=>
   simp only at av
   have hf:=cc f (by simp [Op.operands,Call.operands])
   have dU:LR ρ (args.toList.map ev) (args.toList.map a.eval):=LR.map _ fun x hx=>cc x (by simp [Op.operands,Call.operands];exact .inr (by simpa using hx))
   split at av
   ·rename_i g first captured pD
    rw [pD] at hf
    generalize Dk:a.eval f=f' at hf
    obtain ⟨ft,km,rfl,h1,h2⟩:∃ ft km,f'= .func (.func g) ft km∧LR ρ first.toList ft.toList∧LR ρ captured.toList km.toList:=by
     cases hf with
     | func f h1 h2 ag aj=>exact ⟨_,_,rfl,LR.jy h1 h2,LR.jy ag aj⟩
    obtain ⟨⟨fn,cd,D2,yg,Dw⟩,hc⟩:=n1 _ _ _ _ _ av
    have hC:=hc ρ w (ft.toList++args.toList.map a.eval++km.toList) ((h1.append dU).append h2) hs
    have hJ:(execOp a.eval ⟨dst, .call ⟨.value f,args,argTypes⟩,ty,pos,after,guard⟩).run P w= .ok (.enter g (ft.toList++args.toList.map a.eval++km.toList).toArray) w:=by
     have he:(ft++args.map a.eval)++km=(ft.toList++args.toList.map a.eval++km.toList).toArray:=by apply Array.ext';simp
     rw [← he]
     have aB:¬ fn.name= "runtime.NumGoroutine":=by simpa using Dw
     simp [execOp,resolve,Dk,Deferred.ofValue,invoke,callFunc,D2,aB,yg]
    unfold Oper.wp
    rw [hJ]
    simp only [Oper.upon]
    refine hC.mono ?_
    rintro e w' ⟨ρ',v',rfl,j,I,U⟩
    exact hK ρ' v' w' j I U
   ·cases av
end
end Go.Proofs.Ytcilejikekccmaa.Am
namespace Go.Proofs.Ytcilejikekccmaa.Am
open Go
structure bz (h h':AH):Prop where
  low:h'.low≤h.low
  next:h.next≤h'.next
  ae:∀ b,b<h.next→b<h'.low→h'.ae b=h.ae b
  dead:∀ b,b<h.next→h.ae b=none→h'.ae b=none
  live:(∀ b,h.ae b≠none→b<h.next)→∀ b,h'.ae b≠none→b<h'.next
theorem bz.refl (h:AH):bz h h:=⟨Nat.le_refl _,Nat.le_refl _,fun _ _ _=>rfl,fun _ _ q=>q,fun q=>q⟩
theorem bz.trans {a b c:AH} (h:bz a b) (k:bz b c):bz a c:=
  ⟨Nat.le_trans k.low h.low,Nat.le_trans h.next k.next,fun i h1 h2=>(k.ae i (Nat.lt_of_lt_of_le h1 h.next) h2).trans (h.ae i h1 (Nat.lt_of_lt_of_le h2 k.low)),
    fun i h1 h2=>k.dead i (Nat.lt_of_lt_of_le h1 h.next) (h.dead i h1 h2),fun q=>k.live (h.live q)⟩
theorem bz.alloc (h:AH) (cs:List Value) (z:Nat):bz h (h.alloc cs z):=by
  refine ⟨Nat.le_refl _,Nat.le_succ _,fun b h1 _=>by rw [AH.e5,if_neg (by omega)],fun b h1 h2=>by rw [AH.e5,if_neg (by omega)];exact h2,fun q b hb=>?_⟩
  rw [AH.e5] at hb
  rw [AH.qg]
  by_cases e:b=h.next
  · omega
  · rw [if_neg e] at hb;have:=q b hb;omega
theorem bz.put (h:AH) (c:Nat) (x:Option dD) (hx:x=none∨h.ae c≠none):bz h (h.put c x):=by
  refine ⟨?_,Nat.le_refl _,fun b h1 h2=>?_,fun b h1 h2=>?_,fun q b hb=>?_⟩
  · rw [AH.lb];split<;>omega
  · rw [AH.gD,if_neg]
    rw [AH.lb] at h2
    split at h2<;>omega
  · rw [AH.gD]
    by_cases e:b=c
    · subst e
      rw [if_pos rfl]
      rcases hx with hx | hx
      · exact hx
      · exact absurd h2 hx
    · rw [if_neg e];exact h2
  · rw [AH.gD] at hb
    rw [AH.mP]
    by_cases e:b=c
    · subst e
      rw [if_pos rfl] at hb
      rcases hx with hx | hx
      · exact absurd hx hb
      · exact q b hx
    · rw [if_neg e] at hb;exact q b hb
def fM (call:cy):Prop:=∀ f args h v h',call f args h=some (v,h')→bz h h'
section
variable {P:Program}
theorem Cp {s d:TypeId} {x v:Value} {h h':AH} (hc:aConvert P s d x h=some (v,h')):bz h h':=by
  unfold aConvert at hc
  split at hc
  · simp at hc;obtain ⟨_,rfl⟩:=hc;exact bz.refl _
  · simp at hc;obtain ⟨_,rfl⟩:=hc;exact bz.refl _
  · split at hc
    · simp at hc;obtain ⟨_,rfl⟩:=hc;exact bz.alloc _ _ _
    · cases hc
  · split at hc
    · split at hc
      · simp at hc;obtain ⟨_,rfl⟩:=hc;exact bz.refl _
      · cases hc
    · cases hc
  · split at hc
    · simp at hc;obtain ⟨_,rfl⟩:=hc;exact bz.refl _
    · cases hc
  · rename_i a n _ _ _
    split at hc
    · split at hc
      · simp at hc;obtain ⟨_,rfl⟩:=hc;exact bz.refl _
      · cases hq:h.cv a n with
        | none=>rw [hq] at hc;cases hc
        | some cs=>
          rw [hq] at hc;simp only [Option.bind_some] at hc
          cases hb:bytesOf cs with
          | none=>rw [hb] at hc;cases hc
          | some bs=>rw [hb] at hc;simp at hc;obtain ⟨_,rfl⟩:=hc;exact bz.refl _
    · cases hc
  · cases hc
theorem CB {t tx:TypeId} {sv x v:Value} {h h':AH} (ha:aAppend P t tx sv x h=some (v,h')):bz h h':=by
  unfold aAppend at ha
  split at ha
  · rename_i e dx base n c _ _
    split at ha
    · cases h1:bW P e with
      | none=>rw [h1] at ha;cases ha
      | some s=>
        rw [h1] at ha;simp only [Option.bind_some] at ha
        cases h2:jj P e with
        | none=>rw [h2] at ha;cases ha
        | some bP=>
          rw [h2] at ha;simp only [Option.bind_some] at ha
          cases I:dO P e with
          | none=>rw [I] at ha;cases ha
          | some z=>
            rw [I] at ha;simp only [Option.bind_some] at ha
            cases J:aNews s x h with
            | none=>rw [J] at ha;cases ha
            | some mx=>
              rw [J] at ha;simp only [Option.bind_some] at ha
              split at ha
              · split at ha
                · simp at ha;obtain ⟨_,rfl⟩:=ha;exact bz.refl _
                · split at ha
                  · split at ha
                    · simp at ha;obtain ⟨_,rfl⟩:=ha;exact bz.alloc _ _ _
                    · cases ha
                  · rename_i a
                    split at ha
                    · cases j:h.cv a (n * s) with
                      | none=>rw [j] at ha;cases ha
                      | some cK=>rw [j] at ha;simp at ha;obtain ⟨_,rfl⟩:=ha;exact bz.alloc _ _ _
                    · split at ha
                      · cases j:h.ae a.block with
                        | none=>rw [j] at ha;cases ha
                        | some B=>
                          rw [j] at ha;simp only [Option.bind_some] at ha
                          split at ha
                          · simp at ha;obtain ⟨_,rfl⟩:=ha;exact (bz.put _ _ _ (.inl rfl)).trans (bz.alloc _ _ _)
                          · cases ha
                      · cases ha
              · cases ha
    · cases ha
  · cases ha
theorem BJ {a:Addr} {cs:List Value} {h h':AH} (bd:h.store a cs=some h'):bz h h':=by
  unfold AH.store at bd
  split at bd
  · cases hB:h.ae a.block with
    | none=>rw [hB] at bd;cases bd
    | some B=>
      rw [hB] at bd
      simp only [Option.bind_some] at bd
      split at bd
      · injection bd with bd;subst bd
        exact bz.put _ _ _ (.inr (by rw [hB];exact fun q=>by cases q))
      · cases bd
  · cases bd
theorem Be {t:TypeId} {d s v:Value} {h h':AH} (hc:aCopy P t d s h=some (v,h')):bz h h':=by
  unfold aCopy at hc
  split at hc
  · rename_i e db n c sb m c2 hu
    cases hz:bW P e with
    | none=>rw [hz] at hc;cases hc
    | some z=>
      rw [hz] at hc
      simp only [Option.bind_some] at hc
      split at hc
      · simp at hc;obtain ⟨_,rfl⟩:=hc;exact bz.refl _
      · split at hc
        · rename_i a b
          cases de:h.cv b (Nat.min m n * z) with
          | none=>rw [de] at hc;cases hc
          | some cs=>
            rw [de] at hc
            simp only [Option.bind_some] at hc
            cases bd:h.store a cs with
            | none=>rw [bd] at hc;cases hc
            | some h2=>
              rw [bd] at hc
              simp at hc
              obtain ⟨_,rfl⟩:=hc
              exact BJ bd
        · cases hc
  · cases hc
theorem Ey {t:TypeId} {x v:Value} {h h':AH} (hs:iO P t x v h=some h'):bz h h':=by
  unfold iO at hs
  split at hs
  · rename_i a
    cases h1:bW P t with
    | none=>rw [h1] at hs;cases hs
    | some s=>
      rw [h1] at hs;simp only [Option.bind_some] at hs
      split at hs
      · unfold AH.store at hs
        split at hs
        · cases j:h.ae a.block with
          | none=>rw [j] at hs;cases hs
          | some B=>
            rw [j] at hs;simp only [Option.bind_some] at hs
            split at hs
            · injection hs with hs;subst hs;exact bz.put _ _ _ (.inr (by rw [j];exact fun q=>by cases q))
            · cases hs
        · cases hs
      · cases hs
  · cases hs
theorem mm {α:Type} {o:Option Value} {h h':α} {v:Value} (hm:o.map (·,h)=some (v,h')):h'=h:=by
  cases o with
  | none=>cases hm
  | some u=>simp at hm;exact hm.2.symm
theorem oP {o:Option gB} {h h':AH} {v:Value} (hm:o.map h.fresh=some (v,h')):bz h h':=by
  cases o with
  | none=>cases hm
  | some f=>simp [AH.fresh] at hm;obtain ⟨_,rfl⟩:=hm;exact bz.alloc _ _ _
theorem mJ {call:cy} (hc:fM call) {ev:Operand→Value} {op:Op} {h h':AH} {v:Value} (av:aOp P call ev op h=some (v,h')):bz h h':=by
  cases op<;>simp only [aOp] at av<;>try (cases av;done)
  case pick c a b=>split at av<;>simp at av;obtain ⟨_,rfl⟩:=av;exact bz.refl _
  case move x=>simp at av;obtain ⟨_,rfl⟩:=av;exact bz.refl _
  case assign x=>simp at av;obtain ⟨_,rfl⟩:=av;exact bz.refl _
  case alloc e=>exact oP av
  case box e x=>exact oP av
  case buildSlice t n ps=>exact oP av
  case makeSlice t l c=>exact oP av
  case store t x y=>
    cases bd:iO P t (ev x) (ev y) h with
    | none=>rw [bd] at av;cases av
    | some u=>rw [bd] at av;simp at av;obtain ⟨_,rfl⟩:=av;exact Ey bd
  case nilCheck x=>split at av<;>simp at av<;>(obtain ⟨_,rfl⟩:=av;exact bz.refl _)
  case convert s d x=>exact Cp av
  case makeInterface t x=>split at av<;>simp at av;obtain ⟨_,rfl⟩:=av;exact bz.refl _
  case makeFunc fn fi ca=>cases fn<;>simp at av;obtain ⟨_,rfl⟩:=av;exact bz.refl _
  case extract x i=>
    split at av
    · exact mm av ▸ bz.refl _
    · cases av
  case call c=>
    split at av
    · rename_i b hb
      unfold aBuiltin at av
      split at av
      · exact CB av
      · exact Be av
      · exact mm av ▸ bz.refl _
      · exact mm av ▸ bz.refl _
      · exact mm av ▸ bz.refl _
      · cases av
    · split at av
      · exact hc _ _ _ _ _ av
      · cases av
    · cases av
  all_goals exact mm av ▸ bz.refl _
theorem yR {call:cy} (hc:fM call) (ops:Array Oper):∀ (os:List Oper) (e e':Env) (h h':AH),aOps P call ops os e h=some (e',h')→bz h h':=by
  intro os
  induction os with
  | nil=>intro e e' h h' hh;simp [aOps] at hh;obtain ⟨_,rfl⟩:=hh;exact bz.refl _
  | cons o os ih=>
    intro e e' h h' hh
    simp only [aOps] at hh
    split at hh
    · cases ho:aOp P call e.ev o.op h with
      | none=>rw [ho] at hh;cases hh
      | some r=>rw [ho] at hh;exact (mJ hc ho).trans (ih _ _ _ _ hh)
    · exact ih _ _ _ _ hh
theorem bz.reset {h r:AH} (k:bz {h with low:=h.next} r):bz h {r with low:=if r.low<h.low then r.low else h.low}:=by
  refine ⟨?_,k.next,fun b h1 h2=>?_,k.dead,k.live⟩
  · simp only;split<;>omega
  · have:b<r.low:=by simp only at h2;split at h2<;>omega
    exact k.ae b h1 this
theorem Fb {call:cy} (hc:fM call) (ops:Array Oper) (base:Nat) (h0:AH) (hb:h0.next≤base):∀ (os:List Oper) (i:Nat) (s s':gb),bz h0 s.h→base+i+os.length≤s.h.next→aDraw P call ops base i os s=some s'→bz h0 s'.h:=by
  intro os
  induction os with
  | nil=>intro i s s' hs _ hh;simp [aDraw] at hh;subst hh;exact hs
  | cons o os ih=>
    intro i s s' hs hn hh
    simp only [List.length_cons] at hn
    simp only [aDraw] at hh
    split at hh
    · cases ho:aDrawOp P call ops.toList base i o s with
      | none=>rw [ho] at hh;cases hh
      | some s1=>
        rw [ho] at hh
        suffices hq:bz h0 s1.h∧s.h.next≤s1.h.next from ih _ _ _ hq.1 (by omega) hh
        unfold aDrawOp at ho
        split at ho
        · cases hq:aOp P call s.e.ev o.op s.h with
          | none=>rw [hq] at ho;cases ho
          | some r=>rw [hq] at ho;simp at ho;subst ho;exact ⟨hs,Nat.le_refl _⟩
        · cases hq:aLook P s.e.ev o.op s.h with
          | none=>rw [hq] at ho;cases ho
          | some v=>
            rw [hq] at ho;simp only [Option.bind_some] at ho
            split at ho
            · simp at ho;subst ho;exact ⟨hs,Nat.le_refl _⟩
            · cases ho
        · cases hq:aFresh P s.e.ev o.op with
          | none=>rw [hq] at ho;cases ho
          | some f=>
            rw [hq] at ho;simp at ho;subst ho
            have bq:base+i<s.h.next:=by have:=hn;omega
            refine ⟨⟨hs.low,hs.next,fun b h1 h2=>?_,fun b h1 h2=>?_,fun q b hb=>?_⟩,Nat.le_refl _⟩
            · simp only [AH.ae,Tr.eT]
              rw [if_neg (by omega)]
              exact hs.ae b h1 h2
            · simp only [AH.ae,Tr.eT]
              rw [if_neg (by omega)]
              exact hs.dead b h1 h2
            · simp only [AH.ae,Tr.eT] at hb
              by_cases e:b=base+i
              · rw [e];exact bq
              · rw [if_neg e] at hb;exact hs.live q b hb
        · cases hq:aOp P call s.e.ev o.op {s.h with low:=s.h.next} with
          | none=>rw [hq] at ho;cases ho
          | some r=>
            rw [hq] at ho;simp only [Option.bind_some] at ho
            have bd:=(mJ hc hq).reset
            revert bd ho
            generalize ({r.2 with low:=if r.2.low<s.h.low then r.2.low else s.h.low}:AH)=h2
            intro ho bd
            split at ho
            · injection ho with ho;subst ho;exact ⟨hs.trans bd,bd.next⟩
            · split at ho
              · injection ho with ho;subst ho;exact ⟨hs.trans bd,bd.next⟩
              · cases ho
    · refine ih _ _ _ ?_ ?_ hh
      · exact hs
      · simp only;omega
theorem EA {call:cy} (hc:fM call) {ops:Array Oper} {e e':Env} {h h':AH} (hh:fh P call ops e h=some (e',h')):bz h h':=by
  unfold fh at hh
  cases hq:aDraw P call ops h.next 0 ops.toList ⟨e,{h with next:=h.next+ops.size},[],[]⟩ with
  | none=>rw [hq] at hh;cases hh
  | some s=>
    rw [hq] at hh;simp at hh;obtain ⟨_,rfl⟩:=hh
    exact Fb hc ops h.next h (Nat.le_refl _) _ _ _ _ ⟨Nat.le_refl _,Nat.le_add_right _ _,fun _ _ _=>rfl,fun _ _ q=>q,fun q b hb=>Nat.lt_of_lt_of_le (q b hb) (Nat.le_add_right _ _)⟩ (by simp) hq
theorem EE {body:Env→AH→fR} (hb:∀ e h x e' h',body e h=some (x,e',h')→bz h h'):∀ (k:Nat) e h x e' h',aLoop body k e h=some (x,e',h')→bz h h':=by
  intro k
  induction k with
  | zero=>intro e h x e' h' hh;simp [aLoop] at hh
  | succ k ih=>
    intro e h x e' h' hh
    simp only [aLoop] at hh
    split at hh
    · rename_i e1 h1 hq
      exact (hb _ _ _ _ _ hq).trans (ih _ _ _ _ _ hh)
    · exact hb _ _ _ _ _ hh
theorem xh {run:Code→Env→AH→fR} (hb:∀ c e h x e' h',run c e h=some (x,e',h')→bz h h') (c:Code):∀ (k:Nat) cur e h x e' h',aJump run c k cur e h=some (x,e',h')→bz h h':=by
  intro k
  induction k with
  | zero=>intro cur e h x e' h' hh;simp [aJump] at hh
  | succ k ih=>
    intro cur e h x e' h' hh
    simp only [aJump] at hh
    split at hh
    · rename_i l e1 h1 hq
      split at hh
      · exact (hb _ _ _ _ _ _ hq).trans (ih _ _ _ _ _ _ hh)
      · simp at hh;obtain ⟨_,_,rfl⟩:=hh;exact hb _ _ _ _ _ _ hq
    · exact hb _ _ _ _ _ _ hh
theorem nE {call:cy} (hc:fM call):∀ (k:Nat) (c:Code) e h x e' h',aCode P call k c e h=some (x,e',h')→bz h h':=by
  intro k
  induction k with
  | zero=>intro c e h x e' h' hh;simp [aCode] at hh
  | succ k ih=>
    intro c e h x e' h' hh
    simp only [aCode] at hh
    split at hh
    · simp at hh;obtain ⟨_,_,rfl⟩:=hh;exact bz.refl _
    · simp at hh;obtain ⟨_,_,rfl⟩:=hh;exact bz.refl _
    · rename_i id ops
      cases hq:aOps P call ops ops.toList e h with
      | none=>rw [hq] at hh;cases hh
      | some r=>rw [hq] at hh;simp at hh;obtain ⟨_,_,rfl⟩:=hh;exact yR hc ops _ _ _ _ _ hq
    · rename_i id ops
      cases hq:fh P call ops e h with
      | none=>rw [hq] at hh;cases hh
      | some r=>rw [hq] at hh;simp at hh;obtain ⟨_,_,rfl⟩:=hh;exact EA hc hq
    · rename_i a b
      split at hh
      · rename_i e1 h1 hq
        exact (ih _ _ _ _ _ _ hq).trans (ih _ _ _ _ _ _ hh)
      · exact ih _ _ _ _ _ _ hh
    · split at hh
      · exact ih _ _ _ _ _ _ hh
      · cases hh
    · split at hh
      · rename_i i e1 h1 hq
        split at hh
        · simp at hh;obtain ⟨_,_,rfl⟩:=hh;exact ih _ _ _ _ _ _ hq
        · simp at hh;obtain ⟨_,_,rfl⟩:=hh;exact ih _ _ _ _ _ _ hq
      · exact ih _ _ _ _ _ _ hh
    · exact EE (fun e h x e' h' q=>ih _ _ _ _ _ _ q) _ _ _ _ _ _ hh
    · exact xh (fun c e h x e' h' q=>ih _ _ _ _ _ _ q) _ _ _ _ _ _ _ _ hh
    · simp at hh;obtain ⟨_,_,rfl⟩:=hh;exact bz.refl _
    · simp at hh;obtain ⟨_,_,rfl⟩:=hh;exact bz.refl _
    · simp at hh;obtain ⟨_,_,rfl⟩:=hh;exact bz.refl _
    · cases hh
theorem yw {r:Bool} {h0 h1 h':AH} {v v':Value} (k:bz {h0 with low:=h0.next} h1) (hl:e4 r h0 v h1=(v',h')):bz h0 h':=by
  unfold e4 at hl
  split at hl
  · injection hl with _ hl;subst hl;exact bz.refl _
  · injection hl with _ hl;subst hl;exact k.reset
theorem vC {ov:cy} (m8:fM ov):∀ (k:Nat),fM (aCall P ov k):=by
  intro k
  induction k with
  | zero=>intro f args h v h' hh;exact m8 f args h v h' hh
  | succ k ih=>
    intro f args h v h' hh
    simp only [aCall] at hh
    cases ho:ov f args h with
    | some r=>rw [ho] at hh;simp at hh;subst hh;exact m8 f args h v h' ho
    | none=>
    rw [ho] at hh
    simp only at hh
    cases hf:P.funcs[f]? with
    | none=>rw [hf] at hh;cases hh
    | some fn=>
      rw [hf] at hh;simp only [Option.bind_some] at hh
      cases hb:fn.body with
      | none=>rw [hb] at hh;cases hh
      | some c=>
        rw [hb] at hh;simp only [Option.bind_some] at hh
        split at hh
        · split at hh
          all_goals first
            | (rename_i e h1 hq
               cases hr:aResults P fn.results.toList e h1 with
               | none=>rw [hr] at hh;cases hh
               | some u=>rw [hr] at hh;exact yw (nE ih _ _ _ _ _ _ _ hq) (Option.some.inj hh))
            | cases hh
        · cases hh
end
end Go.Proofs.Ytcilejikekccmaa.Am
namespace Go.Proofs.Ytcilejikekccmaa.Am
open Go
variable [Marks]
def operandOk:Operand→Bool
  | .const v=>clean v
  | .global _=>false
  | _=>true
def opOk (n:Nat) (o:Oper):Bool:=(match o.dst with | some d=>decide (d<n) | none=>true) && o.op.operands.toList.all operandOk
def r8 (A:Array Oper) (o:Oper):Nat:=(o.looksAt A).foldl (fun m t=>Nat.lor m (Nat.shiftLeft 1 t)) 0
def mw (A:Array Oper) (x y:Oper):Bool:=
  (match x.dst with
   | some d=>!(r8 A y).testBit d && (match y.dst with | some d2=>!(Nat.beq d d2) | none=>true)
   | none=>true) &&
  (match y.dst with
   | some d=>!(r8 A x).testBit d
   | none=>true)
def qY (ops:List Oper):Bool:=
  (List.range ops.length).all fun i=>(List.range i).all fun j=>ordered (da ops) i j || mw ops.toArray (ops.getD i default) (ops.getD j default)
omit [Marks] in
theorem vp (m t d:Nat):(Nat.lor m (Nat.shiftLeft 1 t)).testBit d=(m.testBit d || decide (t=d)):=by
  have:Nat.lor m (Nat.shiftLeft 1 t)=m ||| (1 <<< t):=rfl
  rw [this,Nat.testBit_or,Nat.one_shiftLeft,Nat.testBit_two_pow]
omit [Marks] in
theorem uM (A:Array Oper) (o:Oper) (d:Nat) (h:d∈o.looksAt A):(r8 A o).testBit d=true:=by
  have key:∀ (l:List Nat) (m:Nat),(m.testBit d=true∨d∈l)→(l.foldl (fun m t=>Nat.lor m (Nat.shiftLeft 1 t)) m).testBit d=true:=by
    intro l
    induction l with
    | nil=>
      intro m h
      rcases h with h | h
      · exact h
      · cases h
    | cons t l ih=>
      intro m h
      refine ih _ ?_
      rw [vp]
      rcases h with h | h
      · left;simp [h]
      · rcases List.mem_cons.1 h with rfl | h
        · left;simp
        · exact .inr h
  exact key _ 0 (.inr h)
omit [Marks] in
theorem uf {A:Array Oper} {x y:Oper} (h:mw A x y=true):(∀ d,x.dst=some d→d∉y.looksAt A)∧(∀ d,x.dst=some d→y.dst≠some d)∧(∀ d,y.dst=some d→d∉x.looksAt A):=by
  refine ⟨fun d hd hm=>?_,fun d hd he=>?_,fun d hd hm=>?_⟩
  · simp [mw,hd,uM A y d hm] at h
  · simp [mw,hd,he,Nat.beq_refl] at h
  · simp only [mw,hd,Bool.and_eq_true] at h
    have:=h.2
    rw [uM A x d hm] at this
    cases this
def lB (ops:List Oper):Bool:=(List.range ops.length).all fun i=>(ops.getD i default).after.toList.all fun e=>!(Region.binds .any e) || decide (e.on<i)
def rb (P:Program) (ops:List Oper):Bool:=qF P ops && qY ops && lB ops
def codeOk (P:Program) (n:Nat):Code→Bool
  | .region _ ops draw=>ops.toList.all (opOk n) && (!draw || rb P ops.toList)
  | .seq a b=>codeOk P n a && codeOk P n b
  | .cond c a b=>operandOk c && codeOk P n a && codeOk P n b
  | .block _ c | .loop c | .scope c=>codeOk P n c
  | _=>true
def funcOk (P:Program) (fn:Func):Bool:=!(fn.name == "runtime.NumGoroutine") && (match fn.body with | some c=>codeOk P fn.ntmps c | none=>true)
def mB (P:Program):Prop:=P.follows .mixedOrders=true∧P.funcs.toList.all (funcOk P)=true
theorem mB.func {P:Program} (h:mB P) {f:Nat} {fn:Func} (hf:P.funcs[f]?=some fn):funcOk P fn=true:=
  List.all_eq_true.1 h.2 fn (by rw [← Array.getElem?_toList] at hf;exact List.mem_of_getElem? hf)
structure eu (ρ:aT) (e:Env) (n:Nat) (a:Act):Prop where
  size:a.tmps.size=n
  get:∀ t,VR ρ (e.get t) ((a.tmps[t]?).getD undef)
theorem eu.mono {ρ ρ':aT} (hr:cD ρ ρ') {e:Env} {n:Nat} {a:Act} (h:eu ρ e n a):eu ρ' e n a:=⟨h.size,fun t=>(h.get t).mono hr⟩
theorem eu.ev {ρ:aT} {e:Env} {n:Nat} {a:Act} (h:eu ρ e n a) {x:Operand} (hx:operandOk x=true):VR ρ (e.ev x) (a.eval x):=by
  cases x with
  | tmp t=>simpa [Env.ev,Act.eval] using h.get t
  | const v=>exact l4 ρ hx
  | global g=>simp [operandOk] at hx
  | func f=>exact .func f rfl (fun i v v' q=>by simp at q) rfl (fun i v v' q=>by simp at q)
theorem eu.put {ρ:aT} {e:Env} {n:Nat} {a:Act} (h:eu ρ e n a) {d:Option Nat} (hd:∀ t,d=some t→t<n) {v v':Value} (hv:VR ρ v v'):eu ρ (e.put d v) n (a.put d v'):=by
  cases d with
  | none=>exact h
  | some d=>
    refine ⟨by simp [Act.put,h.size],fun t=>?_⟩
    have bq:d<a.tmps.size:=by rw [h.size];exact hd d rfl
    simp only [Env.put,Act.put,Env.eT]
    by_cases e1:t=d
    · subst e1
      rw [if_pos rfl,Array.getElem?_setIfInBounds_self_of_lt bq]
      exact hv
    · rw [if_neg e1,Array.getElem?_setIfInBounds_ne (Ne.symm e1)]
      exact h.get t
theorem k4 {n:Nat} {o:Oper} (h:opOk n o=true):∀ t,o.dst=some t→t<n:=by
  intro t ht
  simp only [opOk,Bool.and_eq_true] at h
  have:=h.1
  rw [ht] at this
  simpa using this
theorem ug {n:Nat} {o:Oper} (h:opOk n o=true):∀ x∈o.op.operands,operandOk x=true:=by
  intro x hx
  simp only [opOk,Bool.and_eq_true,List.all_eq_true] at h
  exact h.2 x (by simpa using hx)
theorem put_defers (a:Act) (d:Option Nat) (v:Value):(a.put d v).defers=a.defers:=by cases d<;>rfl
theorem Bu {ρ:aT} {e:Env} {n:Nat} {a:Act} (h:eu ρ e n a) {ops:Array Oper} (bX:∀ o∈ops.toList,opOk n o=true) (j:Nat):yielded ops a.tmps j=aYield ops e j:=by
  unfold yielded aYield
  cases hj:(ops[j]?).bind (·.dst) with
  | none=>rfl
  | some d=>
    have hd:d<a.tmps.size:=by
      cases ho:ops[j]? with
      | none=>rw [ho] at hj;cases hj
      | some o=>
        rw [ho] at hj
        rw [h.size]
        exact k4 (bX o (by rw [← Array.getElem?_toList] at ho;exact List.mem_of_getElem? ho)) d hj
    have hv:=h.get d
    simp only [Option.bind_some,Array.getElem?_eq_getElem hd,Option.getD_some] at hv ⊢
    generalize he:e.get d=x at hv ⊢
    generalize a.tmps[d]=y at hv ⊢
    cases hv<;>rfl
theorem sP {ρ:aT} {e:Env} {n:Nat} {a:Act} (h:eu ρ e n a) {ops:Array Oper} (bX:∀ o∈ops.toList,opOk n o=true) (o:Oper):Region.wanted o (yielded ops a.tmps)=b8 ops e o:=by
  unfold Region.wanted b8
  cases o.guard with
  | none=>rfl
  | some g=>obtain ⟨j,want⟩:=g;simp only [Bu h bX]
section
variable {P:Program}
theorem xY {call:cy} (n1:Good P call) {n:Nat} {ops:Array Oper} (bX:∀ o∈ops.toList,opOk n o=true) {Q:Exit→Act→World→Prop} {e':Env} {h':AH}:∀ (os:List Oper) (i:Nat) (e:Env) (h:AH) (a:Act) (w:World) (ρ:aT),
    ops.toList.drop i=os→aOps P call ops os e h=some (e',h')→eu ρ e n a→bh ρ w h.ae h.next→
    (∀ ρ' a' w',eu ρ' e' n a'→a'.defers=a.defers→bh ρ' w' h'.ae h'.next→Ext ρ h.ae h.next w ρ' h'.ae h'.next w'→Q .normal a' w')→wpOps P ops Q (List.range' i os.length) a w:=by
  intro os
  induction os with
  | nil=>
    intro i e h a w ρ hd hr he hs hQ
    simp [aOps] at hr
    obtain ⟨rfl,rfl⟩:=hr
    exact hQ ρ a w he rfl hs (Ext.refl _ _ _ _)
  | cons o os ih=>
    intro i e h a w ρ hd hr he hs hQ
    have hi:ops[i]?=some o:=by
      have:(ops.toList.drop i)[0]?=some o:=by rw [hd];rfl
      rw [List.getElem?_drop] at this
      simpa using this
    have aa:ops.toList.drop (i+1)=os:=by
      rw [← List.drop_drop,hd]
      rfl
    have gE:opOk n o=true:=bX o (by rw [← Array.getElem?_toList] at hi;exact List.mem_of_getElem? hi)
    simp only [List.length_cons,List.range'_succ]
    rw [wpOps_cons]
    unfold wpOp
    rw [hi]
    simp only
    rw [sP he bX o]
    simp only [aOps] at hr
    split at hr
    · rename_i hw
      rw [if_pos hw]
      cases av:aOp P call e.ev o.op h with
      | none=>rw [av] at hr;cases hr
      | some r=>
        obtain ⟨v,h1⟩:=r
        rw [av] at hr
        refine .inl (r4 n1 hs (fun x hx=>he.ev (ug gE x hx)) av fun ρ1 v' w1 ad af ab=>?_)
        exact ih (i+1) _ _ _ w1 ρ1 aa hr ((he.mono ab.le).put (k4 gE) ad) af fun ρ2 j w2 r1 I J U=>hQ ρ2 j w2 r1 (by rw [I,put_defers]) J (ab.trans U)
    · rename_i hw
      rw [if_neg hw]
      exact ih (i+1) _ _ _ w ρ aa hr (he.put (k4 gE) (VR.undef ρ)) hs fun ρ2 j w2 r1 I J U=>hQ ρ2 j w2 r1 (by rw [I,put_defers]) J U
def exOf:cZ→Exit
  | .normal=> .normal
  | .exit i=> .exit i
  | .goto l=> .goto l
  | .ret=> .ret
def gU (ρ:aT) (h:AH) (w:World) (n:Nat) (a:Act) (x:cZ) (e':Env) (h':AH):Exit→Act→World→Prop:=
  fun ex a' w'=>ex=exOf x∧∃ ρ',eu ρ' e' n a'∧a'.defers=a.defers∧bh ρ' w' h'.ae h'.next∧Ext ρ h.ae h.next w ρ' h'.ae h'.next w'
theorem gU.trans {ρ ρ1:aT} {h h1:AH} {w w1:World} {n:Nat} {a a1:Act} {x:cZ} {e':Env} {h':AH} (hd:a1.defers=a.defers) (hE:Ext ρ h.ae h.next w ρ1 h1.ae h1.next w1) {ex:Exit} {a':Act} {w':World} (hp:gU ρ1 h1 w1 n a1 x e' h' ex a' w'):gU ρ h w n a x e' h' ex a' w':=by
  obtain ⟨h1,ρ',j,I,J,U⟩:=hp
  exact ⟨h1,ρ',j,I.trans hd,J,hE.trans U⟩
def ta (P:Program) (call:cy):Prop:=∀ (n:Nat) (id:Nat) (ops:Array Oper) (e e':Env) (h h':AH) (ρ:aT) (a:Act) (w:World),(∀ o∈ops.toList,opOk n o=true)→rb P ops.toList=true→
  fh P call ops e h=some (e',h')→eu ρ e n a→bh ρ w h.ae h.next→(∀ b,h.ae b≠none→b<h.next)→(Code.region id ops true).wp P (gU ρ h w n a .normal e' h') a w
def scopeRounds (P:Program) (c:Code) (Q:Exit→Act→World→Prop):Nat→Code→Act→World→Prop
  | 0,_,_,_=>False
  | k+1,cur,a,w=>cur.wp P (fun ex a w=>match ex with
      | .goto l=>match findLabel c l with
        | some rest=>scopeRounds P c Q k rest a w
        | none=>Q (.goto l) a w
      | ex=>Q ex a w) a w
theorem zD {c:Code} {Q:Exit→Act→World→Prop} {a:Act} {w:World} (k:Nat) (h:scopeRounds P c Q k c a w):(Code.scope c).wp P Q a w:=by
  intro b ks cs
  have key:∀ k cur a w,scopeRounds P c Q k cur a w→∃ e a' w',Q e a' w'∧Arrives P (lone (b.at a (.code cur:: .inScope c::ks)) cs w) b ks cs e a' w':=by
    intro k
    induction k with
    | zero=>intro cur a w h;exact h.elim
    | succ k ih=>
      intro cur a w h
      obtain ⟨e,a₁,w₁,hq,iD⟩:=h b (.inScope c::ks) cs
      cases e with
      | normal=>exact ⟨.normal,a₁,w₁,hq,Steps.trans iD (.one step_inScope)⟩
      | exit id=>exact ⟨.exit id,a₁,w₁,hq,fun k' hk=>iD k' (by simp [exitTo,hk])⟩
      | goto l=>
        simp only at hq
        cases hf:findLabel c l with
        | none=>
          rw [hf] at hq
          exact ⟨.goto l,a₁,w₁,hq,fun k' hk=>iD k' (by simp [gotoIn,hf,hk])⟩
        | some rest=>
          rw [hf] at hq
          obtain ⟨e₂,a₂,w₂,zy,Bd⟩:=ih rest a₁ w₁ hq
          exact ⟨e₂,a₂,w₂,zy, .of_steps (iD _ (by simp [gotoIn,hf])) Bd⟩
      | ret=>exact ⟨_,a₁,w₁,hq,iD⟩
      | panic ch=>exact ⟨_,a₁,w₁,hq,iD⟩
      | outgrown=>exact ⟨_,a₁,w₁,hq,iD⟩
  obtain ⟨e,a',w',hq,iD⟩:=key k c a w h
  exact ⟨e,a',w',hq, .of_steps (.one step_scope) iD⟩
theorem EN {n:Nat}:∀ (c:Code) (l:Nat) (rest:Code),findLabel c l=some rest→codeOk P n c=true→codeOk P n rest=true:=by
  intro c
  induction c with
  | seq a b Bw Ap=>
    intro l rest h bX
    simp only [codeOk,Bool.and_eq_true] at bX
    simp only [findLabel] at h
    cases ha:findLabel a l with
    | some r=>
      rw [ha] at h
      simp at h;subst h
      simp only [codeOk,Bool.and_eq_true]
      exact ⟨Bw l r ha bX.1,bX.2⟩
    | none=>rw [ha] at h;exact Ap l rest h bX.2
  | label l'=>
    intro l rest h bX
    simp only [findLabel] at h
    split at h
    · simp at h;subst h;rfl
    · cases h
  | _=>intro l rest h;simp [findLabel] at h
def Live (h:AH):Prop:=∀ b,h.ae b≠none→b<h.next
theorem y9 {call:cy} (n1:Good P call) (bd:fM call) (zh:ta P call) {n:Nat}:∀ (k:Nat) (c:Code) (e:Env) (h:AH) (x:cZ) (e':Env) (h':AH),aCode P call k c e h=some (x,e',h')→codeOk P n c=true→
    ∀ (ρ:aT) (a:Act) (w:World),eu ρ e n a→bh ρ w h.ae h.next→Live h→c.wp P (gU ρ h w n a x e' h') a w:=by
  intro k
  induction k with
  | zero=>intro c e h x e' h' hh;simp [aCode] at hh
  | succ k ih=>
    intro c e h x e' h' hh bX ρ a w he hs hl
    have here:∀ (x0:cZ),x=x0→e'=e→h'=h→∀ ex,ex=exOf x0→gU ρ h w n a x e' h' ex a w:=by
      rintro x0 rfl rfl rfl ex rfl
      exact ⟨rfl,ρ,he,rfl,hs,Ext.refl _ _ _ _⟩
    have step:∀ (c1:Code) (e1:Env) (h1:AH),codeOk P n c1=true→aCode P call k c1 e h=some (.normal,e1,h1)→∀ (Q:Exit→Act→World→Prop),
        (∀ ρ1 a1 w1,eu ρ1 e1 n a1→bh ρ1 w1 h1.ae h1.next→Live h1→a1.defers=a.defers→Ext ρ h.ae h.next w ρ1 h1.ae h1.next w1→Q .normal a1 w1)→c1.wp P Q a w:=by
      intro c1 e1 h1 ai hr Q hQ
      refine wp_mono (ih c1 e h _ e1 h1 hr ai ρ a w he hs hl) ?_
      rintro ex a1 w1 ⟨rfl,ρ1,j,I,J,U⟩
      exact hQ ρ1 a1 w1 j J ((nE bd _ _ _ _ _ _ _ hr).live hl) I U
    simp only [aCode] at hh
    split at hh
    · simp at hh;obtain ⟨j,I,J⟩:=hh;exact wp_skip (here .normal j.symm I.symm J.symm _ rfl)
    · simp at hh;obtain ⟨j,I,J⟩:=hh;exact wp_label (here .normal j.symm I.symm J.symm _ rfl)
    · rename_i id ops
      cases hq:aOps P call ops ops.toList e h with
      | none=>rw [hq] at hh;cases hh
      | some r=>
        rw [hq] at hh;simp at hh;obtain ⟨rfl,rfl,rfl⟩:=hh
        have aj:∀ o∈ops.toList,opOk n o=true:=by
          simp only [codeOk,Bool.and_eq_true,List.all_eq_true] at bX
          exact bX.1
        refine wp_region ?_
        have:=xY n1 aj (Q:=gU ρ h w n a .normal r.1 r.2) ops.toList 0 e h a w ρ rfl hq he hs fun ρ' a' w' j I J U=>⟨rfl,ρ',j,I,J,U⟩
        rw [List.range_eq_range']
        simpa using this
    · rename_i id ops
      cases hq:fh P call ops e h with
      | none=>rw [hq] at hh;cases hh
      | some r=>
        rw [hq] at hh;simp at hh;obtain ⟨rfl,rfl,rfl⟩:=hh
        simp only [codeOk,Bool.and_eq_true,List.all_eq_true,Bool.or_eq_true,Bool.not_true,Bool.false_eq_true,false_or] at bX
        exact zh n id ops e r.1 h r.2 ρ a w bX.1 bX.2 hq he hs hl
    · rename_i c1 c2
      simp only [codeOk,Bool.and_eq_true] at bX
      split at hh
      · rename_i e1 h1 hq
        refine wp_seq (step c1 e1 h1 bX.1 hq _ fun ρ1 a1 w1 j I J U ak=>?_)
        show c2.wp P _ a1 w1
        exact wp_mono (ih c2 e1 h1 x e' h' hh bX.2 ρ1 a1 w1 j I J) fun ex a' w' hp=>hp.trans U ak
      · rename_i r bU
        refine wp_seq (wp_mono (ih c1 e h x e' h' hh bX.1 ρ a w he hs hl) ?_)
        rintro ex a' w' ⟨rfl,hp⟩
        cases x with
        | normal=>exact absurd hh (bU _ _)
        | exit i=>exact ⟨rfl,hp⟩
        | goto l=>exact ⟨rfl,hp⟩
        | ret=>exact ⟨rfl,hp⟩
    · rename_i cd c1 c2
      simp only [codeOk,Bool.and_eq_true] at bX
      split at hh
      · rename_i t ht
        have hv:=he.ev bX.1.1
        rw [ht] at hv
        have hc:a.eval cd= .bool t:=by
          generalize a.eval cd=y at hv
          cases hv;rfl
        refine wp_cond hc (ih _ e h x e' h' hh ?_ ρ a w he hs hl)
        cases t
        · exact bX.2
        · exact bX.1.2
      · cases hh
    · rename_i id c1
      simp only [codeOk] at bX
      split at hh
      · rename_i i e1 h1 hq
        refine wp_block (wp_mono (ih c1 e h _ e1 h1 hq bX ρ a w he hs hl) ?_)
        rintro ex a' w' ⟨rfl,hp⟩
        split at hh
        · rename_i c8
          simp at hh;obtain ⟨rfl,rfl,rfl⟩:=hh
          simp only [exOf,Exit.inBlock,c8,if_true]
          exact ⟨rfl,hp⟩
        · rename_i c8
          simp at hh;obtain ⟨rfl,rfl,rfl⟩:=hh
          simp only [exOf,Exit.inBlock,c8,if_false]
          exact ⟨rfl,hp⟩
      · rename_i bU
        refine wp_block (wp_mono (ih c1 e h x e' h' hh bX ρ a w he hs hl) ?_)
        rintro ex a' w' ⟨rfl,hp⟩
        cases x with
        | normal=>exact ⟨rfl,hp⟩
        | exit i=>exact absurd hh (bU _ _ _)
        | goto l=>exact ⟨rfl,hp⟩
        | ret=>exact ⟨rfl,hp⟩
    · rename_i c1
      simp only [codeOk] at bX
      have key:∀ (m:Nat) (e0:Env) (h0:AH),aLoop (aCode P call k c1) m e0 h0=some (x,e',h')→∀ (ρ0:aT) (a0:Act) (w0:World),eu ρ0 e0 n a0→bh ρ0 w0 h0.ae h0.next→Live h0→a0.defers=a.defers→Ext ρ h.ae h.next w ρ0 h0.ae h0.next w0→
          Code.rounds P c1 (gU ρ h w n a x e' h') m a0 w0:=by
        intro m
        induction m with
        | zero=>intro e0 h0 hq;simp [aLoop] at hq
        | succ m rp=>
          intro e0 h0 hq ρ0 a0 w0 ag ah aa ad af
          rw [rounds_succ]
          simp only [aLoop] at hq
          split at hq
          · rename_i e1 h1 hb
            refine wp_mono (ih c1 e0 h0 _ e1 h1 hb bX ρ0 a0 w0 ag ah aa) ?_
            rintro ex a1 w1 ⟨rfl,ρ1,j,I,J,U⟩
            exact rp e1 h1 hq ρ1 a1 w1 j J ((nE bd _ _ _ _ _ _ _ hb).live aa) (I.trans ad) (af.trans U)
          · rename_i r bU
            refine wp_mono (ih c1 e0 h0 x e' h' hq bX ρ0 a0 w0 ag ah aa) ?_
            rintro ex a1 w1 hp
            have ab:gU ρ h w n a x e' h' ex a1 w1:=hp.trans ad af
            obtain ⟨rfl,_⟩:=hp
            cases x with
            | normal=>exact absurd hq (bU _ _)
            | exit i=>exact ab
            | goto l=>exact ab
            | ret=>exact ab
      exact wp_loop_rounds k (key k e h hh ρ a w he hs hl rfl (Ext.refl _ _ _ _))
    · rename_i c1
      simp only [codeOk] at bX
      have key:∀ (m:Nat) (cur:Code) (e0:Env) (h0:AH),codeOk P n cur=true→aJump (aCode P call k) c1 m cur e0 h0=some (x,e',h')→∀ (ρ0:aT) (a0:Act) (w0:World),eu ρ0 e0 n a0→bh ρ0 w0 h0.ae h0.next→Live h0→a0.defers=a.defers→Ext ρ h.ae h.next w ρ0 h0.ae h0.next w0→
          scopeRounds P c1 (gU ρ h w n a x e' h') m cur a0 w0:=by
        intro m
        induction m with
        | zero=>intro cur e0 h0 _ hq;simp [aJump] at hq
        | succ m rp=>
          intro cur e0 h0 sM hq ρ0 a0 w0 ag ah aa ad af
          simp only [scopeRounds]
          simp only [aJump] at hq
          split at hq
          · rename_i l e1 h1 hb
            refine wp_mono (ih cur e0 h0 _ e1 h1 hb sM ρ0 a0 w0 ag ah aa) ?_
            rintro ex a1 w1 ⟨rfl,ρ1,j,I,J,U⟩
            simp only [exOf]
            split at hq
            · rename_i rest hf
              try rw [hf]
              exact rp rest e1 h1 (EN c1 l rest hf bX) hq ρ1 a1 w1 j J ((nE bd _ _ _ _ _ _ _ hb).live aa) (I.trans ad) (af.trans U)
            · rename_i hf
              try rw [hf]
              simp at hq;obtain ⟨rfl,rfl,rfl⟩:=hq
              exact ⟨rfl,ρ1,j,I.trans ad,J,af.trans U⟩
          · rename_i r bU
            refine wp_mono (ih cur e0 h0 x e' h' hq sM ρ0 a0 w0 ag ah aa) ?_
            rintro ex a1 w1 hp
            have ab:gU ρ h w n a x e' h' ex a1 w1:=hp.trans ad af
            obtain ⟨rfl,_⟩:=hp
            cases x with
            | normal=>exact ab
            | exit i=>exact ab
            | goto l=>exact absurd hq (bU _ _ _)
            | ret=>exact ab
      exact zD k (key k c1 e h bX hh ρ a w he hs hl rfl (Ext.refl _ _ _ _))
    · simp at hh;obtain ⟨j,I,J⟩:=hh;exact wp_exit (here (.exit _) j.symm I.symm J.symm _ rfl)
    · simp at hh;obtain ⟨j,I,J⟩:=hh;exact wp_goto (here (.goto _) j.symm I.symm J.symm _ rfl)
    · simp at hh;obtain ⟨j,I,J⟩:=hh;exact wp_ret (here .ret j.symm I.symm J.symm _ rfl)
    · cases hh
end
end Go.Proofs.Ytcilejikekccmaa.Am
namespace Go.Proofs.Ytcilejikekccmaa.Am
open Go
def bits (m:Nat):List Nat:=(List.range (m+1)).filter fun j=>m.testBit j
theorem pV {m j:Nat}:j∈bits m↔m.testBit j=true:=by
 unfold bits
 rw [List.mem_filter,List.mem_range]
 refine ⟨fun h=>h.2,fun h=>⟨?_,h⟩⟩
 have:=Nat.ge_two_pow_of_testBit h
 have h2:j<2 ^ j:=Nat.lt_two_pow_self
 omega
def Pr (L:List Oper) (i:Nat):List Nat:=bits ((da L).getD i 0)
theorem El {o:Oper} {n:Nat} {acc:List Nat} {j:Nat} (h:(sW o n acc).testBit j=true):∃ e∈o.after.toList,Region.binds .any e=true∧(j=e.on∨(e.on<n∧(acc.getD (n - 1 - e.on) 0).testBit j=true)):=by
 have key:∀ (l:List Edge) (m:Nat),(l.foldl (fun m e=>if Region.binds .any e then Nat.lor (Nat.lor m (Nat.shiftLeft 1 e.on)) (if Nat.blt e.on n then acc.getD (n - 1 - e.on) 0 else 0) else m) m).testBit j=true→
   m.testBit j=true∨∃ e∈l,Region.binds .any e=true∧(j=e.on∨(e.on<n∧(acc.getD (n - 1 - e.on) 0).testBit j=true)):=by
  intro l
  induction l with
  | nil=>intro m h;exact .inl h
  | cons e l ih=>
   intro m h
   rcases ih _ h with h1 | ⟨e',h1,h2⟩
   ·by_cases hb:Region.binds .any e=true
    ·simp only [if_pos hb] at h1
     have e1:∀ a b:Nat,(Nat.lor a b).testBit j=(a.testBit j || b.testBit j):=fun a b=>Nat.testBit_or a b j
     rw [e1,vp] at h1
     simp only [Bool.or_eq_true,decide_eq_true_eq] at h1
     rcases h1 with (h1 | h1) | h1
     ·exact .inl h1
     ·exact .inr ⟨e,by simp,hb, .inl h1.symm⟩
     ·by_cases bq:e.on<n
      ·rw [if_pos (by rw [Nat.blt_eq];exact bq)] at h1
       exact .inr ⟨e,by simp,hb, .inr ⟨bq,h1⟩⟩
      ·rw [if_neg (by rw [Nat.blt_eq];exact bq)] at h1
       simp at h1
    ·simp only [if_neg hb] at h1;exact .inl h1
   ·exact .inr ⟨e',by simp [h1],h2⟩
 rcases key _ 0 h with h1 | h1
 ·simp at h1
 ·exact h1
theorem zv:∀ (os:List Oper) (n:Nat) (acc:List Nat),(predsAux os n acc).length=acc.length+os.length:=by
 intro os
 induction os with
 | nil=>intro n acc;simp [predsAux]
 | cons o os ih=>intro n acc;simp only [predsAux,qv,ih,List.length_cons];omega
theorem Cx (acc:List Nat) (i:Nat) (h:i<acc.length):acc.reverse.getD i 0=acc.getD (acc.length - 1 - i) 0:=by
 rw [List.getD_eq_getElem?_getD,List.getD_eq_getElem?_getD,List.getElem?_reverse h]
theorem tR:∀ (os:List Oper) (n:Nat) (acc:List Nat) (i:Nat),acc.length=n→i<n→(predsAux os n acc).getD i 0=acc.getD (n - 1 - i) 0:=by
 intro os
 induction os with
 | nil=>intro n acc i hn h;simp only [predsAux];rw [Cx _ _ (by omega),hn]
 | cons o os ih=>
  intro n acc i hn h
  simp only [predsAux,qv]
  rw [ih _ _ _ (by simp [hn]) (by omega)]
  have:n+1 - 1 - i=(n - 1 - i)+1:=by omega
  rw [this]
  simp [List.getD_eq_getElem?_getD]
theorem Fa:∀ (os:List Oper) (n:Nat) (acc:List Nat) (k:Nat) (o:Oper),acc.length=n→os[k]?=some o→∀ j,((predsAux os n acc).getD (n+k) 0).testBit j=true→
  ∃ e∈o.after.toList,Region.binds .any e=true∧(j=e.on∨(e.on<n+k∧((predsAux os n acc).getD e.on 0).testBit j=true)):=by
 intro os
 induction os with
 | nil=>intro n acc k o hn h;simp at h
 | cons o os ih=>
  intro n acc k o' hn h j hj
  simp only [predsAux,qv] at hj ⊢
  cases k with
  | zero=>
   simp at h;subst h
   rw [Nat.add_zero,tR _ _ _ _ (by simp [hn]) (by omega)] at hj
   simp [List.getD_eq_getElem?_getD] at hj
   obtain ⟨e,he,hb,hc⟩:=El hj
   refine ⟨e,he,hb,hc.imp id fun ⟨h1,h2⟩=>⟨by omega,?_⟩⟩
   rw [tR _ _ _ _ (by simp [hn]) (by omega)]
   have:n+1 - 1 - e.on=(n - 1 - e.on)+1:=by omega
   rw [this]
   simpa [List.getD_eq_getElem?_getD] using h2
  | succ k=>
   have e1:n+(k+1)=(n+1)+k:=by omega
   rw [e1] at hj ⊢
   exact ih _ _ k o' (by simp [hn]) (by simpa using h) j hj
theorem sI {L:List Oper} {i:Nat} {o:Oper} (ho:L[i]?=some o) {j:Nat} (hj:j∈Pr L i):∃ e∈o.after.toList,Region.binds .any e=true∧(j=e.on∨(e.on<i∧j∈Pr L e.on)):=by
 have:=Fa L 0 [] i o rfl ho j (by simpa [Pr,da,pV] using hj)
 simpa [Pr,da,pV] using this
theorem yr {L:List Oper} {i:Nat} (h:L[i]?=none):Pr L i=[]:=by
 have:(da L).length=L.length:=by simp [da,zv]
 unfold Pr
 rw [List.getD_eq_getElem?_getD,List.getElem?_eq_none (by rw [this];exact List.getElem?_eq_none_iff.1 h)]
 rfl
theorem kF {L:List Oper} (hb:lB L=true):∀ (i j:Nat),j∈Pr L i→j<i:=by
 intro i
 induction i using Nat.strongRecOn with
 | _ i ih=>
  intro j hj
  cases ho:L[i]? with
  | none=>rw [yr ho] at hj;cases hj
  | some o=>
   obtain ⟨e,he,nb,hc⟩:=sI ho hj
   have hi:i<L.length:=(List.getElem?_eq_some_iff.1 ho).1
   simp only [lB,List.all_eq_true,List.mem_range] at hb
   have h1:=hb i hi e (by rw [List.getD_eq_getElem?_getD,ho];exact he)
   rw [nb] at h1
   have h2:e.on<i:=by simpa using h1
   rcases hc with rfl | ⟨_,I⟩
   ·exact h2
   ·exact Nat.lt_trans (ih e.on h2 j I) h2
theorem lh {L:List Oper} {i j:Nat}:ordered (da L) i j=true↔j∈Pr L i∨i∈Pr L j:=by
 simp [ordered,Pr,pV]
theorem sS (p:Nat→Prop):∀ (n:Nat),(∃ j,j<n∧p j)→∃ j,j<n∧p j∧∀ k,j<k→k<n→¬ p k:=by
 intro n
 induction n with
 | zero=>rintro ⟨j,h,_⟩;omega
 | succ n ih=>
  rintro ⟨j,h,hp⟩
  by_cases hn:p n
  ·exact ⟨n,by omega,hn,fun k h1 h2=>by omega⟩
  ·obtain ⟨m,h1,h2,I⟩:=ih ⟨j,by
    have:j≠n:=fun e=>hn (e ▸ hp)
    omega,hp⟩
   refine ⟨m,by omega,h2,fun k J U hk=>?_⟩
   by_cases e:k=n
   ·exact hn (e ▸ hk)
   ·exact I k J (by omega) hk
theorem tS {a b:ByteArray} (h:a.data.toList=b.data.toList):a=b:=by
 cases a;cases b
 congr 1
 exact Array.ext' h
theorem uT {a b:Value} (h:sameV a b=true):a=b:=by
 unfold sameV at h
 split at h
 ·simp at h;rw [h]
 ·simp at h;rw [h.1,h.2]
 ·exact congrArg Value.string (tS (by simpa using h))
 ·simp at h;rw [h]
 ·simp at h;rw [h.1.1,h.1.2,h.2]
 ·rename_i cY bs
  simp only [Bool.and_eq_true,decide_eq_true_eq,List.all_eq_true] at h
  obtain ⟨h1,h2⟩:=h
  congr 1
  apply Array.ext h1
  intro i hi J
  have:=h2 (cY[i],bs[i]) (by
   rw [List.mem_iff_getElem?]
   refine ⟨i,?_⟩
   rw [List.getElem?_zip_eq_some]
   exact ⟨by simp [hi],by simp [J]⟩)
  simp only at this
  split at this
  ·simp at this;rename_i j I;rw [j,I,this]
  ·simp at this;rename_i j I;rw [j,I,this.1,this.2]
  ·rename_i j I;rw [j,I];exact congrArg Value.string (tS (by simpa using this))
  ·simp at this;rename_i j I;rw [j,I,this]
  ·simp at this;rename_i j I;rw [j,I,this.1.1,this.1.2,this.2]
  ·cases this
 ·cases h
section
variable {P:Program}
def lookBlk (ev:Operand→Value):Op→Option Nat
 | .load _ x=>match ev x with | .pointer (some a)=>some a.block | _=>none
 | .convert _ _ x=>match ev x with | .slice (some a) n _=>if n=0 then none else some a.block | _=>none
 | _=>none
theorem se {ev:Operand→Value} {op:Op} (hc:cls P op= .look) {h h':AH} (hb:∀ b,lookBlk ev op=some b→h.ae b=h'.ae b):aLook P ev op h=aLook P ev op h':=by
 cases op<;>simp only [cls] at hc<;>try (cases hc;done)
 case load t x=>
  simp only [aLook,aLoad]
  split
  ·rename_i a hx
   have kv:=hb a.block (by simp [lookBlk,hx])
   have h1:∀ n,h.cv a n=h'.cv a n:=fun n=>by simp only [AH.cv,kv]
   have h2:h.load a=h'.load a:=by simp only [AH.load,kv]
   simp only [h1,h2]
  ·rfl
 case convert s d x=>
  split at hc
  ·rename_i hd
   simp only [aLook]
   unfold aConvert
   rw [hd]
   cases hu:P.underlying s with
   | none=>simp
   | some u=>
    cases hx:ev x<;>try (cases u<;>rfl)
    rename_i a n c
    cases a with
    | none=>cases u<;>simp;split<;>rfl
    | some a=>
     cases u<;>try rfl
     rename_i e
     simp only
     split
     ·by_cases h0:n=0
      ·simp [h0]
      ·rw [if_neg h0,if_neg h0]
       have kv:=hb a.block (by simp [lookBlk,hx,h0])
       have h1:h.cv a n=h'.cv a n:=by simp only [AH.cv,kv]
       rw [h1]
       cases h'.cv a n with
       | none=>rfl
       | some cs=>cases hq:bytesOf cs<;>simp [hq]
     ·rfl
  ·cases hc
  ·cases hc
 case call c=>split at hc<;>cases hc
theorem Ag {ev:Operand→Value} {op:Op} (hc:cls P op= .look) {h:AH} {v:Value} (hl:aLook P ev op h=some v):∀ b,lookBlk ev op=some b→h.ae b≠none:=by
 intro b hb hn
 cases op<;>simp only [cls] at hc<;>try (cases hc;done)
 case load t x=>
  simp only [lookBlk] at hb
  split at hb
  ·rename_i a hx
   simp at hb;subst hb
   simp only [aLook,aLoad,hx] at hl
   cases hd:P.underlying t with
   | none=>rw [hd] at hl;cases hl
   | some d=>
    rw [hd] at hl
    simp only [Option.bind_some] at hl
    have h1:∀ n,h.cv a n=none:=fun n=>by unfold AH.cv;cases a.spot<;>simp [hn]
    have h2:h.load a=none:=by unfold AH.load;cases a.spot<;>simp [hn]
    split at hl
    ·cases hz:bW P t with
     | none=>rw [hz] at hl;cases hl
     | some s=>rw [hz] at hl;simp [h1] at hl
    ·rw [h2] at hl;cases hl
  ·cases hb
 case convert s d x=>
  split at hc
  ·rename_i hd
   simp only [lookBlk] at hb
   split at hb
   ·rename_i a n c hx
    split at hb
    ·cases hb
    ·rename_i h0
     simp at hb;subst hb
     simp only [aLook] at hl
     unfold aConvert at hl
     rw [hd,hx] at hl
     have h1:∀ n,h.cv a n=none:=fun n=>by unfold AH.cv;cases a.spot<;>simp [hn]
     cases hu:P.underlying s with
     | none=>rw [hu] at hl;simp at hl
     | some u=>
      rw [hu] at hl
      cases u<;>try (simp at hl;done)
      simp only [h0,if_false,h1,Option.bind_none] at hl
      split at hl<;>simp at hl
   ·cases hb
  ·cases hc
  ·cases hc
 case call c=>split at hc<;>cases hc
theorem mZ {α:Type} {o:Option Value} {h h':α} {v:Value} (hm:o.map (·,h)=some (v,h')):h'=h∧∀ h2:α,o.map (·,h2)=some (v,h2):=by
 cases o with
 | none=>cases hm
 | some u=>simp at hm;obtain ⟨rfl,rfl⟩:=hm;exact ⟨rfl,fun _=>rfl⟩
theorem wj {call:cy} {ev:Operand→Value} {op:Op} (hc:cls P op= .pure) {h h':AH} {v:Value} (av:aOp P call ev op h=some (v,h')):h'=h∧∀ h2,aOp P call ev op h2=some (v,h2):=by
 cases op<;>simp only [cls] at hc<;>try (cases hc;done)
 case pick c a b=>simp only [aOp] at av ⊢;split at av<;>simp at av;obtain ⟨rfl,rfl⟩:=av;rename_i t ht;exact ⟨rfl,fun h2=>by simp [ht]⟩
 case move x=>simp [aOp] at av ⊢;obtain ⟨rfl,rfl⟩:=av;simp
 case assign x=>simp [aOp] at av ⊢;obtain ⟨rfl,rfl⟩:=av;simp
 case nilCheck x=>
  simp only [aOp] at av ⊢
  split at av
  ·rename_i a ha;simp at av;obtain ⟨rfl,rfl⟩:=av;exact ⟨rfl,fun h2=>by simp [ha]⟩
  ·rename_i f fi ca ha;simp at av;obtain ⟨rfl,rfl⟩:=av;exact ⟨rfl,fun h2=>by simp [ha]⟩
  ·cases av
 case makeInterface t x=>
  simp only [aOp] at av ⊢
  split at av
  ·cases av
  ·rename_i d fG hu;simp at av;obtain ⟨rfl,rfl⟩:=av
   exact ⟨rfl,fun h2=>by cases d<;>first | rfl | (exact absurd rfl (fG _)) | (simp [hu])⟩
  ·cases av
 case makeFunc fn fi ca=>
  cases fn<;>simp only [aOp] at av ⊢<;>try (cases av;done)
  injection av with av;injection av with e1 j;subst e1;subst j;exact ⟨rfl,fun _=>rfl⟩
 case extract x i=>
  simp only [aOp] at av ⊢
  split at av
  ·rename_i vs hv;obtain ⟨I,J⟩:=mZ av;exact ⟨I,fun h2=>by simpa [hv] using J h2⟩
  ·cases av
 case convert s d x=>
  split at hc
  ·cases hc
  ·rename_i k hd
   simp only [aOp] at av ⊢
   unfold aConvert at av ⊢
   rw [hd] at av ⊢
   cases hu:P.underlying s with
   | none=>rw [hu] at av;simp at av
   | some u=>
    rw [hu] at av
    cases hx:ev x<;>rw [hx] at av<;>try (cases u<;>simp at av;done)
    simp at av ⊢
    obtain ⟨rfl,rfl⟩:=av
    simp
  ·cases hc
 case call c=>
  have key:∀ (b:Builtin) (ts:List TypeId) (args:List Value),(b= .len∨b= .max∨b= .min)→aBuiltin P b ts args h=some (v,h')→h'=h∧∀ h2,aBuiltin P b ts args h2=some (v,h2):=by
   intro b ts args hb hq
   rcases hb with rfl | rfl | rfl
   ·cases ts with
    | nil=>simp [aBuiltin] at hq
    | cons t ts=>cases args with
     | nil=>simp [aBuiltin] at hq
     | cons x xs=>exact mZ hq
   ·cases args with
    | nil=>simp [aBuiltin] at hq
    | cons x xs=>exact mZ hq
   ·cases args with
    | nil=>simp [aBuiltin] at hq
    | cons x xs=>exact mZ hq
  split at hc
  all_goals try (cases hc;done)
  all_goals
   rename_i hb
   simp only [aOp,hb] at av ⊢
   exact key _ _ _ (by simp) av
 all_goals
  simp only [aOp] at av ⊢
  exact mZ av
end
end Go.Proofs.Ytcilejikekccmaa.Am
namespace Go.Proofs.Ytcilejikekccmaa.Am
open Go
section
variable {P:Program}
theorem z6 {call:cy} {ops:Array Oper} {base:Nat}:∀ (os:List Oper) (i:Nat) (s sF:gb),aDraw P call ops base i os s=some sF→
  ∃ st:Nat→gb,st i=s∧st (i+os.length)=sF∧∀ (k:Nat) o,os[k]?=some o→
   (b8 ops (st (i+k)).e o=true∧aDrawOp P call ops.toList base (i+k) o (st (i+k))=some (st (i+k+1)))∨
   (b8 ops (st (i+k)).e o=false∧st (i+k+1)={st (i+k) with e:=(st (i+k)).e.put o.dst undef}):=by
 intro os
 induction os with
 | nil=>intro i s sF h;simp [aDraw] at h;subst h;exact ⟨fun _=>s,rfl,rfl,fun k o hk=>by simp at hk⟩
 | cons o os ih=>
  intro i s sF h
  simp only [aDraw] at h
  have glue:∀ s1,aDraw P call ops base (i+1) os s1=some sF→
    ((b8 ops s.e o=true∧aDrawOp P call ops.toList base i o s=some s1)∨(b8 ops s.e o=false∧s1={s with e:=s.e.put o.dst undef}))→
    ∃ st:Nat→gb,st i=s∧st (i+(o::os).length)=sF∧∀ (k:Nat) o',(o::os)[k]?=some o'→
     (b8 ops (st (i+k)).e o'=true∧aDrawOp P call ops.toList base (i+k) o' (st (i+k))=some (st (i+k+1)))∨
     (b8 ops (st (i+k)).e o'=false∧st (i+k+1)={st (i+k) with e:=(st (i+k)).e.put o'.dst undef}):=by
   intro s1 h1 p1
   obtain ⟨st,I,J,U⟩:=ih (i+1) s1 sF h1
   refine ⟨fun j=>if j=i then s else st j,by simp,?_,fun k o' hk=>?_⟩
   ·have:i+(o::os).length≠i:=by simp
    simp only [this,if_false]
    rw [← J];congr 1;simp;omega
   ·cases k with
    | zero=>
     simp at hk;subst hk
     have e1:(i+0+1=i)=False:=by simp
     simp only [Nat.add_zero,if_true,e1,if_false]
     have:(i+1=i)=False:=by simp
     simp only [this,if_false,I]
     exact p1
    | succ k=>
     have:=U k o' (by simpa using hk)
     have e1:(i+(k+1)=i)=False:=by simp
     have aa:(i+(k+1)+1=i)=False:=by simp;omega
     simp only [e1,aa,if_false]
     have ab:i+(k+1)=i+1+k:=by omega
     rw [ab]
     exact this
  split at h
  ·rename_i hw
   cases ho:aDrawOp P call ops.toList base i o s with
   | none=>rw [ho] at h;cases h
   | some s1=>rw [ho] at h;exact glue s1 h (.inl ⟨hw,ho⟩)
  ·rename_i hw
   exact glue _ h (.inr ⟨by simpa using hw,rfl⟩)
structure s7 (P:Program) (call:cy) (ops:Array Oper) (base:Nat) (E:Nat→Env) (H:Nat→AH) (val:Nat→Value):Prop where
 put:∀ i o,ops.toList[i]?=some o→E (i+1)=(E i).put o.dst (val i)
 off:∀ i o,ops.toList[i]?=some o→b8 ops (E i) o=false→val i=undef∧H (i+1)=H i
 pure:∀ i o,ops.toList[i]?=some o→b8 ops (E i) o=true→cls P o.op= .pure→(∀ h2,aOp P call (E i).ev o.op h2=some (val i,h2))∧H (i+1)=H i
 look:∀ i o,ops.toList[i]?=some o→b8 ops (E i) o=true→cls P o.op= .look→aLook P (E i).ev o.op (H i)=some (val i)∧H (i+1)=H i
 fresh:∀ i o,ops.toList[i]?=some o→b8 ops (E i) o=true→cls P o.op= .fresh→∃ f,aFresh P (E i).ev o.op=some f∧val i=f.1 (base+i)∧(H (i+1)).next=(H i).next∧∀ b,(H (i+1)).ae b=if b=base+i then some ⟨f.2.1,true,f.2.2⟩ else (H i).ae b
 make:∀ i o,ops.toList[i]?=some o→b8 ops (E i) o=true→cls P o.op= .make→∃ r,aOp P call (E i).ev o.op {H i with low:=(H i).next}=some (val i,r)∧(∀ b,(H (i+1)).ae b=r.ae b)∧(H (i+1)).next=r.next∧bz {H i with low:=(H i).next} r
 h8:∀ j o,ops.toList[j]?=some o→b8 ops (E j) o=true→cls P o.op= .make→(∀ b,b<(H j).next→(H (j+1)).ae b=(H j).ae b)∨
  (∀ i oi,ops.toList[i]?=some oi→b8 ops (E i) oi=true→cls P oi.op= .look→ordered (da ops.toList) i j=false→(i<j→aLook P (E i).ev oi.op (H (j+1))=some (val i))∧(j<i→aLook P (E i).ev oi.op (H j)=some (val i)))
theorem qo (ps:List Nat) (i j:Nat):ordered ps i j=ordered ps j i:=by simp [ordered,Bool.or_comm]
theorem draw_facts {call:cy} (bd:fM call) {ops:Array Oper} {base:Nat} {s sF:gb} (h:aDraw P call ops base 0 ops.toList s=some sF) (hl:s.looks=[]) (he:s.dS=[]):
  ∃ E H val,s7 P call ops base E H val∧E 0=s.e∧H 0=s.h∧E ops.size=sF.e∧H ops.size=sF.h:=by
 obtain ⟨st,h0,h1,h2⟩:=z6 ops.toList 0 s sF h
 have nc:∀ (i:Nat) o,ops.toList[i]?=some o→(b8 ops (st i).e o=true∧aDrawOp P call ops.toList base i o (st i)=some (st (i+1)))∨(b8 ops (st i).e o=false∧st (i+1)={st i with e:=(st i).e.put o.dst undef}):=by
  intro i o ho
  simpa using h2 i o ho
 let val:Nat→Value:=fun i=>match ops.toList[i]? with
  | none=>undef
  | some o=>if b8 ops (st i).e o=true then (match cls P o.op with
    | .pure=>((aOp P call (st i).e.ev o.op (st i).h).map (·.1)).getD undef
    | .look=>(aLook P (st i).e.ev o.op (st i).h).getD undef
    | .fresh=>((aFresh P (st i).e.ev o.op).map fun f=>f.1 (base+i)).getD undef
    | .make=>((aOp P call (st i).e.ev o.op {(st i).h with low:=(st i).h.next}).map (·.1)).getD undef) else undef
 have oG:∀ i o,ops.toList[i]?=some o→b8 ops (st i).e o=false→st (i+1)={st i with e:=(st i).e.put o.dst (val i)}∧val i=undef:=by
  intro i o ho hw
  have iI:ops[i]?=some o:=by simpa using ho
  have hv:val i=undef:=by simp [val,ho,iI,hw]
  rcases nc i o ho with ⟨q,_⟩ | ⟨_,q⟩
  ·rw [hw] at q;cases q
  ·rw [hv];exact ⟨q,rfl⟩
 have rW:∀ i o,ops.toList[i]?=some o→b8 ops (st i).e o=true→cls P o.op= .pure→∃ r,aOp P call (st i).e.ev o.op (st i).h=some r∧val i=r.1∧st (i+1)={st i with e:=(st i).e.put o.dst (val i)}:=by
  intro i o ho hw hc
  rcases nc i o ho with ⟨_,q⟩ | ⟨q,_⟩
  ·unfold aDrawOp at q
   rw [hc] at q
   simp only at q
   cases hr:aOp P call (st i).e.ev o.op (st i).h with
   | none=>rw [hr] at q;cases q
   | some r=>
    rw [hr] at q
    have iI:ops[i]?=some o:=by simpa using ho
    have hv:val i=r.1:=by simp [val,ho,iI,hw,hc,hr]
    exact ⟨r,rfl,hv,by rw [hv];exact (Option.some.inj q).symm⟩
  ·rw [hw] at q;cases q
 have j3:∀ i o,ops.toList[i]?=some o→b8 ops (st i).e o=true→cls P o.op= .look→aLook P (st i).e.ev o.op (st i).h=some (val i)∧st (i+1)={st i with e:=(st i).e.put o.dst (val i),looks:=(i,(st i).e,val i)::(st i).looks}∧
   ∀ x∈(st i).dS,ordered (da ops.toList) i x.1=false→aLook P (st i).e.ev o.op x.2=some (val i):=by
  intro i o ho hw hc
  rcases nc i o ho with ⟨_,q⟩ | ⟨q,_⟩
  ·unfold aDrawOp at q
   rw [hc] at q
   simp only at q
   cases hr:aLook P (st i).e.ev o.op (st i).h with
   | none=>rw [hr] at q;cases q
   | some v=>
    rw [hr] at q
    simp only [Option.bind_some] at q
    have iI:ops[i]?=some o:=by simpa using ho
    have hv:val i=v:=by simp [val,ho,iI,hw,hc,hr]
    rw [hv]
    split at q
    ·rename_i eD
     refine ⟨rfl,(Option.some.inj q).symm,fun x hx gN=>?_⟩
     have:=List.all_eq_true.1 eD x hx
     rw [gN,Bool.false_or] at this
     split at this
     ·rename_i u hu;rw [hu,uT this]
     ·cases this
    ·cases q
  ·rw [hw] at q;cases q
 have p7:∀ i o,ops.toList[i]?=some o→b8 ops (st i).e o=true→cls P o.op= .fresh→∃ f,aFresh P (st i).e.ev o.op=some f∧val i=f.1 (base+i)∧
   st (i+1)={st i with e:=(st i).e.put o.dst (val i),h:={(st i).h with t:=(st i).h.t.set (base+i) (some ⟨f.2.1,true,f.2.2⟩)}}:=by
  intro i o ho hw hc
  rcases nc i o ho with ⟨_,q⟩ | ⟨q,_⟩
  ·unfold aDrawOp at q
   rw [hc] at q
   simp only at q
   cases hr:aFresh P (st i).e.ev o.op with
   | none=>rw [hr] at q;cases q
   | some f=>
    rw [hr] at q
    have iI:ops[i]?=some o:=by simpa using ho
    have hv:val i=f.1 (base+i):=by simp [val,ho,iI,hw,hc,hr]
    exact ⟨f,rfl,hv,by rw [hv];exact (Option.some.inj q).symm⟩
  ·rw [hw] at q;cases q
 have oC:∀ i o,ops.toList[i]?=some o→b8 ops (st i).e o=true→cls P o.op= .make→∃ r,aOp P call (st i).e.ev o.op {(st i).h with low:=(st i).h.next}=some (val i,r)∧
   (st (i+1)).e=(st i).e.put o.dst (val i)∧(∀ b,(st (i+1)).h.ae b=r.ae b)∧(st (i+1)).h.next=r.next∧(st (i+1)).looks=(st i).looks∧
   ((st (i+1)).dS=(st i).dS∧(st i).h.next≤r.low∨(st (i+1)).dS=(i,(st i).h)::(st i).dS∧
    ∀ x∈(st i).looks,ordered (da ops.toList) i x.1=false→aLook P x.2.1.ev (ops.toList.getD x.1 default).op (st (i+1)).h=some x.2.2):=by
  intro i o ho hw hc
  rcases nc i o ho with ⟨_,q⟩ | ⟨q,_⟩
  ·unfold aDrawOp at q
   rw [hc] at q
   simp only at q
   cases hr:aOp P call (st i).e.ev o.op {(st i).h with low:=(st i).h.next} with
   | none=>rw [hr] at q;cases q
   | some r=>
    obtain ⟨v,r⟩:=r
    rw [hr] at q
    simp only [Option.bind_some] at q
    have iI:ops[i]?=some o:=by simpa using ho
    have hv:val i=v:=by simp [val,ho,iI,hw,hc,hr]
    rw [hv]
    refine ⟨r,rfl,?_⟩
    have fN:∀ b,({r with low:=if r.low<(st i).h.low then r.low else (st i).h.low}:AH).ae b=r.ae b:=fun b=>rfl
    have dB:({r with low:=if r.low<(st i).h.low then r.low else (st i).h.low}:AH).next=r.next:=rfl
    revert q fN dB
    generalize ({r with low:=if r.low<(st i).h.low then r.low else (st i).h.low}:AH)=ar
    intro q fN dB
    split at q
    ·rename_i g8
     have:=Option.some.inj q
     rw [← this]
     exact ⟨rfl,fN,dB,rfl, .inl ⟨rfl,g8⟩⟩
    ·split at q
     ·rename_i eD
      have:=Option.some.inj q
      rw [← this]
      refine ⟨rfl,fN,dB,rfl, .inr ⟨rfl,fun x hx gN=>?_⟩⟩
      have aa:=List.all_eq_true.1 eD x hx
      rw [gN,Bool.false_or] at aa
      split at aa
      ·rename_i u hu;rw [hu,uT aa]
      ·cases aa
     ·cases q
  ·rw [hw] at q;cases q
 have hZ:∀ c:fu,c= .pure∨c= .look∨c= .fresh∨c= .make:=by intro c;cases c<;>simp
 have BK:∀ i o,ops.toList[i]?=some o→(∀ x∈(st i).looks,x∈(st (i+1)).looks)∧(∀ x∈(st i).dS,x∈(st (i+1)).dS):=by
  intro i o ho
  cases hw:b8 ops (st i).e o with
  | false=>rw [(oG i o ho hw).1];exact ⟨fun x q=>q,fun x q=>q⟩
  | true=>
   rcases hZ (cls P o.op) with hc | hc | hc | hc
   ·obtain ⟨r,_,_,q⟩:=rW i o ho hw hc;rw [q];exact ⟨fun x q=>q,fun x q=>q⟩
   ·obtain ⟨_,q,_⟩:=j3 i o ho hw hc;rw [q];exact ⟨fun x q=>List.mem_cons_of_mem _ q,fun x q=>q⟩
   ·obtain ⟨f,_,_,q⟩:=p7 i o ho hw hc;rw [q];exact ⟨fun x q=>q,fun x q=>q⟩
   ·obtain ⟨r,_,_,_,_,q,I⟩:=oC i o ho hw hc
    refine ⟨fun x hx=>by rw [q];exact hx,fun x hx=>?_⟩
    rcases I with ⟨I,_⟩ | ⟨I,_⟩
    ·rw [I];exact hx
    ·rw [I];exact List.mem_cons_of_mem _ hx
 have uj:∀ (d i:Nat),i+d≤ops.toList.length→(∀ x∈(st i).looks,x∈(st (i+d)).looks)∧(∀ x∈(st i).dS,x∈(st (i+d)).dS):=by
  intro d
  induction d with
  | zero=>intro i _;exact ⟨fun x q=>q,fun x q=>q⟩
  | succ d ih=>
   intro i hi
   obtain ⟨ag,ah⟩:=BK (i+d) _ (List.getElem?_eq_getElem (by omega))
   obtain ⟨ai,aj⟩:=ih i (by omega)
   exact ⟨fun x q=>ag x (ai x q),fun x q=>ah x (aj x q)⟩
 refine ⟨fun i=>(st i).e,fun i=>(st i).h,val,⟨?_,?_,?_,?_,?_,?_,?_⟩,by simp only [h0],by simp only [h0],by simp [← h1],by simp [← h1]⟩
 ·intro i o ho
  cases hw:b8 ops (st i).e o with
  | false=>rw [(oG i o ho hw).1]
  | true=>
   rcases hZ (cls P o.op) with hc | hc | hc | hc
   ·obtain ⟨r,_,_,q⟩:=rW i o ho hw hc;rw [q]
   ·obtain ⟨_,q,_⟩:=j3 i o ho hw hc;rw [q]
   ·obtain ⟨f,_,_,q⟩:=p7 i o ho hw hc;rw [q]
   ·obtain ⟨r,_,q,_⟩:=oC i o ho hw hc;exact q
 ·intro i o ho hw
  obtain ⟨J,I⟩:=oG i o ho hw
  exact ⟨I,by simp only [J]⟩
 ·intro i o ho hw hc
  obtain ⟨r,J,I,U⟩:=rW i o ho hw hc
  obtain ⟨_,ad⟩:=wj hc (v:=r.1) (h':=r.2) J
  exact ⟨fun h2=>by rw [I];exact ad h2,by simp only [U]⟩
 ·intro i o ho hw hc
  obtain ⟨J,I,_⟩:=j3 i o ho hw hc
  exact ⟨J,by simp only [I]⟩
 ·intro i o ho hw hc
  obtain ⟨f,J,I,U⟩:=p7 i o ho hw hc
  refine ⟨f,J,I,by simp only [U],fun b=>?_⟩
  simp only [U,AH.ae,Tr.eT]
 ·intro i o ho hw hc
  obtain ⟨r,J,I,U,af,_⟩:=oC i o ho hw hc
  exact ⟨r,J,U,af,mJ bd J⟩
 ·intro j o ho hw hc
  obtain ⟨r,J,I,U,af,ad,ak⟩:=oC j o ho hw hc
  rcases ak with ⟨_,ab⟩ | ⟨ab,an⟩
  ·left
   intro b hb
   show (st (j+1)).h.ae b=_
   rw [U b]
   exact (mJ bd J).ae b hb (Nat.lt_of_lt_of_le hb ab)
  ·right
   intro i oi qK kG fC gN
   obtain ⟨au,ao,aq⟩:=j3 i oi qK kG fC
   have Fg:j<ops.toList.length:=(List.getElem?_eq_some_iff.1 ho).1
   have eQ:i<ops.toList.length:=(List.getElem?_eq_some_iff.1 qK).1
   refine ⟨fun mo=>?_,fun Fy=>?_⟩
   ·have hm:(i,(st i).e,val i)∈(st j).looks:=by
     have:=(uj (j - (i+1)) (i+1) (by omega)).1 (i,(st i).e,val i) (by rw [ao];simp)
     rwa [show i+1+(j - (i+1))=j by omega] at this
    have:=an _ hm (by rw [qo];exact gN)
    have hg:ops.toList.getD i default=oi:=by rw [List.getD_eq_getElem?_getD,qK];rfl
    simp only [hg] at this
    exact this
   ·have hm:(j,(st j).h)∈(st i).dS:=by
     have:=(uj (i - (j+1)) (j+1) (by omega)).2 (j,(st j).h) (by rw [ab];simp)
     rwa [show j+1+(i - (j+1))=i by omega] at this
    exact aq _ hm gN
end
end Go.Proofs.Ytcilejikekccmaa.Am
namespace Go.Proofs.Ytcilejikekccmaa.Am
open Go
variable [Marks]
def Dn (cN:Array Bool) (j:Nat):Prop:=cN.getD j false=true
def leftOf (n:Nat) (cN:Array Bool):List Nat:=(List.range n).filter fun i=>!cN.getD i false
theorem filter_lt {α:Type} (p q:α→Bool):∀ (l:List α),(∀ x∈l,q x=true→p x=true)→(∃ x∈l,p x=true∧q x=false)→(l.filter q).length<(l.filter p).length:=by
 intro l
 induction l with
 | nil=>rintro _ ⟨x,h,_⟩;cases h
 | cons y l ih=>
  intro h1 h2
  have hle:(l.filter q).length≤(l.filter p).length:=by
   clear ih h2
   induction l with
   | nil=>simp
   | cons z l ih=>
    have:=ih fun x hx=>h1 x (by simp at hx ⊢;rcases hx with hx | hx<;>simp [hx])
    simp only [List.filter_cons]
    have hz:=h1 z (by simp)
    cases hq:q z<;>cases hp:p z<;>simp_all<;>omega
  simp only [List.filter_cons]
  have hy:=h1 y (by simp)
  by_cases qx:p y=true∧q y=false
  ·simp only [qx.1,qx.2,if_true,Bool.false_eq_true,if_false,List.length_cons];omega
  ·have:(l.filter q).length<(l.filter p).length:=ih (fun x hx=>h1 x (by simp [hx])) (by
    obtain ⟨x,hx,fW⟩:=h2
    rcases List.mem_cons.1 hx with rfl | hx
    ·exact absurd fW qx
    ·exact ⟨x,hx,fW⟩)
   cases hq:q y<;>cases hp:p y<;>simp_all<;>omega
theorem uh {n:Nat} {cN:Array Bool} (hn:cN.size=n) {i:Nat} (hi:i<n):Dn (cN.setIfInBounds i true)=fun j=>j=i∨Dn cN j:=by
 funext j
 unfold Dn
 by_cases e:j=i
 ·subst e
  simp [Array.getD_eq_getD_getElem?,Array.getElem?_setIfInBounds_self_of_lt (show j<cN.size by omega)]
 ·simp [e,Array.getD_eq_getD_getElem?,Array.getElem?_setIfInBounds_ne (Ne.symm e)]
theorem q0 {n:Nat} {cN:Array Bool} (hn:cN.size=n) {i:Nat}:cN.getD i true=false↔i<n∧¬ Dn cN i:=by
 unfold Dn
 rw [Array.getD_eq_getD_getElem?,Array.getD_eq_getD_getElem?]
 by_cases h:i<n
 ·rw [Array.getElem?_eq_getElem (by omega)];simp [h]
 ·rw [Array.getElem?_eq_none (by omega)];simp [h]
theorem yW {P:Program} {ops:Array Oper} {Q:Exit→Act→World→Prop} (gz:lB ops.toList=true) (I:(Nat→Prop)→Act→World→Prop)
  (p1:∀ D i o a w,I D a w→ops[i]?=some o→¬ D i→(∀ e∈o.after.toList,Region.binds .any e=true→D e.on)→∀ K:Act→World→Prop,(∀ a' w',I (fun j=>j=i∨D j) a' w'→K a' w')→wpOp P ops Q i K a w)
  (pP:∀ D a w,I D a w→(∀ i,i<ops.size→D i)→Q .normal a w):
  ∀ (fuel:Nat) (cN:Array Bool) (a:Act) (w:World),cN.size=ops.size→(leftOf ops.size cN).length≤fuel→I (Dn cN) a w→wpAny P .any ops Q fuel cN a w:=by
 have done:∀ (cN:Array Bool),cN.size=ops.size→Region.ready .any ops cN=[]→∀ i,i<ops.size→Dn cN i:=by
  intro cN b1 hr i
  induction i using Nat.strongRecOn with
  | _ i ih=>
   intro hi
   refine Classical.byContradiction fun hn=>?_
   have:i∈Region.ready .any ops cN:=by
    rw [mem_ready]
    refine ⟨(q0 b1).2 ⟨hi,hn⟩,ops[i],by simp [hi],fun e he hb=>?_⟩
    simp only [lB,List.all_eq_true,List.mem_range] at gz
    have h1:=gz i (by simpa using hi) e (by simpa [List.getD_eq_getElem?_getD,hi] using he)
    rw [hb] at h1
    have h2:e.on<i:=by simpa using h1
    exact ih e.on h2 (by omega)
   rw [hr] at this
   cases this
 intro fuel
 induction fuel with
 | zero=>
  intro cN a w b1 hl hI
  have kI:leftOf ops.size cN=[]:=List.eq_nil_of_length_eq_zero (by omega)
  have eD:∀ i,i<ops.size→Dn cN i:=by
   intro i hi
   refine Classical.byContradiction fun hn=>?_
   have:i∈leftOf ops.size cN:=by
    unfold leftOf
    rw [List.mem_filter,List.mem_range]
    exact ⟨hi,by simpa [Dn] using hn⟩
   rw [kI] at this
   cases this
  refine ⟨?_,pP _ a w hI eD⟩
  cases hr:Region.ready .any ops cN with
  | nil=>rfl
  | cons i l=>
   have:i∈Region.ready .any ops cN:=by rw [hr];simp
   obtain ⟨h0,h1⟩:=(q0 b1).1 (mem_ready.1 this).1
   exact absurd (eD i h0) h1
 | succ fuel ih=>
  intro cN a w b1 hl hI
  refine ⟨fun hr=>pP _ a w hI (done cN b1 hr),fun i hi=>?_⟩
  obtain ⟨h0,o,ho,eD⟩:=mem_ready.1 hi
  obtain ⟨bq,hn⟩:=(q0 b1).1 h0
  refine p1 _ i o a w hI ho hn (fun e he hb=>eD e (by simpa using he) hb) _ fun a' w' wT=>?_
  refine ih _ a' w' (by simp [b1]) ?_ (by rw [uh b1 bq];exact wT)
  have:(leftOf ops.size (cN.setIfInBounds i true)).length<(leftOf ops.size cN).length:=by
   have hD:=uh b1 bq
   have hd:∀ j,(cN.setIfInBounds i true).getD j false=true↔(j=i∨cN.getD j false=true):=fun j=>by
    have:=congrFun hD j
    unfold Dn at this
    rw [this]
   refine filter_lt _ _ _ (fun j _ hj=>?_) ⟨i,by simpa using bq,?_,?_⟩
   ·simp only [Bool.not_eq_true'] at hj ⊢
    cases hq:cN.getD j false with
    | false=>rfl
    | true=>rw [(hd j).2 (.inr hq)] at hj;cases hj
   ·simpa [Dn] using hn
   ·simp only [(hd i).2 (.inl rfl),Bool.not_true]
  omega
theorem bh.merge {ρ ρ':aT} {w w':World} {G X X' G':cW} {nx iH:Nat} (hs:bh ρ w G nx) (fx:bh ρ' w' X' iH) (hE:Ext ρ X nx w ρ' X' iH w')
  (hX:∀ b B,ρ b≠none→X b=some B→G b=some B) (p0:∀ b,b<nx→X b=none→X' b=none)
  (ag:∀ b,ρ b≠none→X b=none→G' b=G b) (ab:∀ b,ρ' b≠none→(ρ b=none∨X b≠none)→G' b=X' b) (hl:∀ b,G' b≠none→b<iH):bh ρ' w' G' iH:=by
 have on:∀ {ρ:aT} {b p},ρ b=some p→ρ b≠none:=fun q r=>by rw [q] at r;cases r
 have live:∀ {X:cW} {b B},X b=some B→X b≠none:=fun q r=>by rw [q] at r;cases r
 have side:∀ b p,ρ' b=some p→(ρ b=some p∧X b=none∧G' b=G b)∨((ρ b=none∨X b≠none)∧G' b=X' b):=by
  intro b p hp
  cases hr:ρ b with
  | none=>exact .inr ⟨.inl rfl,ab b (on hp) (.inl hr)⟩
  | some q=>
   have:q=p:=by have:=hE.le b q hr;rw [hp] at this;exact (Option.some.inj this).symm
   subst this
   cases hx:X b with
   | none=>exact .inl ⟨rfl,rfl,ag b (on hr) hx⟩
   | some B=>exact .inr ⟨.inr (fun q=>by cases q),ab b (on hp) (.inr (live hx))⟩
 have oY:∀ b B p,ρ b=some p→X b=none→G b=some B→∀ k,kx ρ X k→k≠p.ae:=by
  rintro b B p hp hx hB k ⟨c,C,q,U,ah,ad,ai⟩ e
  have ib:c≠b:=fun e=>by subst e;rw [hx] at U;cases U
  exact hs.apart c b C B q p ib (hX c C (on ad) U) hB ad hp ah (by rw [ai,e])
 refine ⟨fx.dV,fx.lt,fun b B p hB hp=>?_,fun b B p hB hp ho=>?_,fun b c B C p q ib hB hC hp hq ho=>?_,hl⟩
 ·rcases side b p hp with ⟨h1,h2,J⟩ | ⟨h1,h2⟩
  ·intro i v hv
   rw [J] at hB
   obtain ⟨v',aj,ak⟩:=hs.cell b B p hB h1 i v hv
   refine ⟨v',?_,ak.mono hE.le⟩
   rw [← aj]
   exact World.cell?_of_block (hE.a5 _ (hs.lt b p h1) fun hO=>oY b B p h1 h2 hB _ hO rfl)
  ·exact fx.cell b B p (by rw [← h2];exact hB) hp
 ·rcases side b p hp with ⟨h1,h2,J⟩ | ⟨h1,h2⟩
  ·rw [J] at hB
   have:=hs.own b B p hB h1 ho
   rwa [← hE.a5 _ (hs.lt b p h1) fun hO=>oY b B p h1 h2 hB _ hO rfl] at this
  ·exact fx.own b B p (by rw [← h2];exact hB) hp ho
 ·rcases side b p hp with ⟨h1,h2,J⟩ | ⟨h1,h2⟩
  ·rw [J] at hB
   rcases side c q hq with ⟨j,I,aa⟩ | ⟨j,I⟩
   ·exact hs.apart b c B C p q ib hB (by rw [← aa];exact hC) h1 j ho
   ·rw [I] at hC
    cases mR:ρ c with
    | none=>
     rcases hE.new c q hq with g | ⟨_,g | g⟩
     ·rw [mR] at g;cases g
     ·have:=hs.lt b p h1;omega
     ·exact fun e=>oY b B p h1 h2 hB _ g e.symm
    | some q'=>
     have CD:q'=q:=by have:=hE.le c q' mR;rw [hq] at this;exact (Option.some.inj this).symm
     subst CD
     have z7:X c≠none:=by
      rcases j with j | j
      ·rw [mR] at j;cases j
      ·exact j
     cases af:X c with
     | none=>exact absurd af z7
     | some C'=>exact hs.apart b c B C' p q' ib hB (hX c C' (on mR) af) h1 mR ho
  ·rw [h2] at hB
   rcases side c q hq with ⟨j,I,aa⟩ | ⟨j,I⟩
   ·rw [aa] at hC
    intro e
    have bq:=hs.lt c q j
    exact oY c C q j I hC p.ae (hE.gM p.ae (by omega) ⟨b,B,p,hB,ho,hp,rfl⟩) e
   ·exact fx.apart b c B C p q ib hB (by rw [← I];exact hC) hp hq ho
theorem Ext.merge {ρ ρ':aT} {w w':World} {G X X' G':cW} {nx iH base:Nat} (hE:Ext ρ X nx w ρ' X' iH w') (hb:base≤nx)
  (hX:∀ b B,ρ b≠none→X b=some B→G b=some B) (aa:∀ b,ρ b≠none→X b=none→G' b=G b) (ab:∀ b,ρ' b≠none→(ρ b=none∨X b≠none)→G' b=X' b)
  (z0:∀ b,b<base→ρ b=none→G' b=G b):Ext ρ G base w ρ' G' iH w':=by
 have on:∀ {ρ:aT} {b p},ρ b=some p→ρ b≠none:=fun q r=>by rw [q] at r;cases r
 have gM:∀ k,kx ρ X k→kx ρ G k:=fun k ⟨b,B,p,j,J,I,U⟩=>⟨b,B,p,hX b B (on I) j,J,I,U⟩
 refine ⟨hE.le,hE.os,hE.tape,hE.output,hE.size,Nat.le_trans hb hE.nx,fun k hk ho=>hE.a5 k hk fun q=>ho (gM k q),fun k hk ⟨b,B,p,j,J,I,U⟩=>?_,fun b p q=>(hE.new b p q).imp id fun q=>⟨Nat.le_trans hb q.1,q.2.imp id (gM _)⟩,z0⟩
 by_cases h:ρ b≠none∧X b=none
 ·rw [aa b h.1 h.2] at j
  cases hr:ρ b with
  | none=>exact absurd hr h.1
  | some p'=>
   have:=hE.le b p' hr
   rw [I] at this
   cases this
   exact ⟨b,B,p,j,J,hr,U⟩
 ·have h':ρ b=none∨X b≠none:=by
   by_cases e:ρ b=none
   ·exact .inl e
   ·exact .inr fun ad=>h ⟨e,ad⟩
  rw [ab b (on I) h'] at j
  exact gM k (hE.gM k hk ⟨b,B,p,j,J,I,U⟩)
theorem s8 {P:Program} {call:cy} {ev:Operand→Value} {op:Op} (hc:cls P op= .look) {h:AH} {v:Value} (hl:aLook P ev op h=some v):aOp P call ev op h=some (v,h):=by
 cases op<;>simp only [cls] at hc<;>try (cases hc;done)
 case load t x=>simp only [aLook] at hl;simp [aOp,hl]
 case convert s d x=>
  split at hc
  ·rename_i hd
   simp only [aLook] at hl
   simp only [aOp]
   have:∀ r,aConvert P s d (ev x) h=some r→r.2=h:=by
    intro r hr
    unfold aConvert at hr
    rw [hd] at hr
    split at hr
    ·rename_i hk _;simp at hk
    ·simp at hr;rw [← hr]
    ·rename_i hk _;simp at hk
    ·rename_i hk _;simp at hk
    ·split at hr
     ·simp at hr;rw [← hr]
     ·cases hr
    ·split at hr
     ·split at hr
      ·simp at hr;rw [← hr]
      ·rename_i n _ _ _ _ a
       revert hr
       cases h.cv _ _ with
       | none=>intro hr;cases hr
       | some cs=>
        intro hr
        simp at hr
        obtain ⟨bs,_,hr⟩:=hr
        rw [← hr]
     ·cases hr
    ·cases hr
   cases hr:aConvert P s d (ev x) h with
   | none=>rw [hr] at hl;cases hl
   | some r=>
    rw [hr] at hl
    simp at hl
    obtain ⟨u,g⟩:=r
    have:=this _ hr
    simp at this hl
    rw [this,hl]
  ·cases hc
  ·cases hc
 case call c=>split at hc<;>cases hc
end Go.Proofs.Ytcilejikekccmaa.Am
namespace Go.Proofs.Ytcilejikekccmaa.Am
open Go
variable [Marks]
structure Dr (P:Program) (call:cy) (ops:Array Oper) (n base:Nat) (E:Nat→Env) (H:Nat→AH) (val:Nat→Value):Prop where
 gq:Good P call
 ok:∀ o∈ops.toList,opOk n o=true
 facts:s7 P call ops base E H val
 made:qF P ops.toList=true
 apart:qY ops.toList=true
 back:lB ops.toList=true
 tu:(H 0).next=base+ops.size
 ua:∀ b,(H 0).ae b≠none→b<base
section
variable {P:Program} {call:cy} {ops:Array Oper} {n base:Nat} {E:Nat→Env} {H:Nat→AH} {val:Nat→Value}
def Mk (P:Program) (ops:Array Oper) (E:Nat→Env) (i:Nat):Prop:=∃ o,ops.toList[i]?=some o∧b8 ops (E i) o=true∧cls P o.op= .make
def Fr (P:Program) (ops:Array Oper) (E:Nat→Env) (i:Nat):Prop:=∃ o,ops.toList[i]?=some o∧b8 ops (E i) o=true∧cls P o.op= .fresh
theorem Mk.lt {i:Nat} (h:Mk P ops E i):i<ops.size:=by
 obtain ⟨o,h1,_⟩:=h
 simpa using (List.getElem?_eq_some_iff.1 h1).1
theorem uv {i:Nat} (h:i<ops.size):∃ o,ops.toList[i]?=some o:=⟨_,List.getElem?_eq_getElem (by simpa using h)⟩
theorem Dr.step (d:Dr P call ops n base E H val) {i:Nat} (hi:i<ops.size) (hm:¬ Mk P ops E i):
  (H (i+1)).next=(H i).next∧(∀ b,b≠base+i→(H (i+1)).ae b=(H i).ae b)∧(¬ Fr P ops E i→∀ b,(H (i+1)).ae b=(H i).ae b):=by
 obtain ⟨o,ho⟩:=uv hi
 cases hw:b8 ops (E i) o with
 | false=>rw [(d.facts.off i o ho hw).2];exact ⟨rfl,fun _ _=>rfl,fun _ _=>rfl⟩
 | true=>
  have hZ:∀ c:fu,c= .pure∨c= .look∨c= .fresh∨c= .make:=by intro c;cases c<;>simp
  rcases hZ (cls P o.op) with hc | hc | hc | hc
  ·rw [(d.facts.pure i o ho hw hc).2];exact ⟨rfl,fun _ _=>rfl,fun _ _=>rfl⟩
  ·rw [(d.facts.look i o ho hw hc).2];exact ⟨rfl,fun _ _=>rfl,fun _ _=>rfl⟩
  ·obtain ⟨f,_,_,h1,h2⟩:=d.facts.fresh i o ho hw hc
   exact ⟨h1,fun b hb=>by rw [h2,if_neg hb],fun hf=>absurd ⟨o,ho,hw,hc⟩ hf⟩
  ·exact absurd ⟨o,ho,hw,hc⟩ hm
theorem Dr.oA (d:Dr P call ops n base E H val) {i:Nat} (hm:Mk P ops E i):
  (H i).next≤(H (i+1)).next∧(∀ b,b<(H i).next→(H i).ae b=none→(H (i+1)).ae b=none)∧((∀ b,(H i).ae b≠none→b<(H i).next)→∀ b,(H (i+1)).ae b≠none→b<(H (i+1)).next):=by
 obtain ⟨o,ho,hw,hc⟩:=hm
 obtain ⟨r,_,h1,h2,j⟩:=d.facts.make i o ho hw hc
 refine ⟨by rw [h2];exact j.next,fun b hb q=>by rw [h1];exact j.dead b hb q,fun hl b hb=>?_⟩
 rw [h2]
 exact j.live hl b (by rw [← h1];exact hb)
theorem Dr.xV (d:Dr P call ops n base E H val) {i:Nat}:∀ (m:Nat),i+m≤ops.size→(H i).next≤(H (i+m)).next:=by
 intro m
 induction m with
 | zero=>intro _;exact Nat.le_refl _
 | succ m ih=>
  intro h
  refine Nat.le_trans (ih (by omega)) ?_
  by_cases hm:Mk P ops E (i+m)
  ·exact (d.oA hm).1
  ·exact Nat.le_of_eq (d.step (by omega) hm).1.symm
theorem Dr.qH (d:Dr P call ops n base E H val) {i k:Nat} (h:i≤k) (hk:k≤ops.size):(H i).next≤(H k).next:=by
 have:=d.xV (i:=i) (k - i) (by omega)
 rwa [show i+(k - i)=k by omega] at this
theorem Dr.l9 (d:Dr P call ops n base E H val) {k:Nat} (hk:k≤ops.size):base+ops.size≤(H k).next:=by
 rw [← d.tu];exact d.qH (Nat.zero_le k) hk
theorem Dr.live (d:Dr P call ops n base E H val):∀ (k:Nat),k≤ops.size→∀ b,(H k).ae b≠none→b<(H k).next:=by
 intro k
 induction k with
 | zero=>intro _ b hb;rw [d.tu];exact Nat.lt_of_lt_of_le (d.ua b hb) (by omega)
 | succ k ih=>
  intro hk b hb
  by_cases hm:Mk P ops E k
  ·exact (d.oA hm).2.2 (ih (by omega)) b hb
  ·obtain ⟨h1,h2,j⟩:=d.step (by omega) hm
   rw [h1]
   by_cases e:b=base+k
   ·have:=d.l9 (k:=k) (by omega);omega
   ·exact ih (by omega) b (by rw [← h2 b e];exact hb)
theorem Dr.dead (d:Dr P call ops n base E H val) {f:Nat} (hf:f<ops.size):∀ (k:Nat),k≤f→(H k).ae (base+f)=none:=by
 intro k
 induction k with
 | zero=>
  intro _
  cases h:(H 0).ae (base+f) with
  | none=>rfl
  | some B=>have:=d.ua (base+f) (by rw [h];exact fun q=>by cases q);omega
 | succ k ih=>
  intro hk
  by_cases hm:Mk P ops E k
  ·refine (d.oA hm).2.1 _ ?_ (ih (by omega))
   have:=d.l9 (k:=k) (by omega);omega
  ·rw [(d.step (by omega) hm).2.1 _ (by omega)];exact ih (by omega)
theorem Dr.same (d:Dr P call ops n base E H val) {i:Nat}:∀ (m:Nat),i+m≤ops.size→(∀ j,i≤j→j<i+m→¬ Mk P ops E j)→
  (H (i+m)).next=(H i).next∧∀ b,(∀ j,i≤j→j<i+m→b≠base+j)→(H (i+m)).ae b=(H i).ae b:=by
 intro m
 induction m with
 | zero=>intro _ _;exact ⟨rfl,fun _ _=>rfl⟩
 | succ m ih=>
  intro h hn
  obtain ⟨h1,h2⟩:=ih (by omega) fun j a b=>hn j a (by omega)
  obtain ⟨I,J,_⟩:=d.step (i:=i+m) (by omega) (hn _ (by omega) (by omega))
  exact ⟨I.trans h1,fun b hb=>(J b (hb _ (by omega) (by omega))).trans (h2 b fun j p q=>hb j p (by omega))⟩
theorem Dr.kE (d:Dr P call ops n base E H val) {i k:Nat} (h:i≤k) (hk:k≤ops.size) (hn:∀ j,i≤j→j<k→¬ Mk P ops E j):
  (H k).next=(H i).next∧∀ b,(∀ j,i≤j→j<k→b≠base+j)→(H k).ae b=(H i).ae b:=by
 have:=d.same (i:=i) (k - i) (by omega) (fun j a b=>hn j a (by omega))
 rw [show i+(k - i)=k by omega] at this
 exact this
theorem Dr.quiet (d:Dr P call ops n base E H val) {i:Nat} (hi:i<ops.size) (hm:¬ Mk P ops E i) (hf:¬ Fr P ops E i):(H (i+1)).ae (base+i)=none:=by
 rw [(d.step hi hm).2.2 hf];exact d.dead hi i (Nat.le_refl _)
def Wr (ops:Array Oper) (j t:Nat):Prop:=∃ o,ops.toList[j]?=some o∧o.dst=some t
theorem Wr.lt {j t:Nat} (h:Wr ops j t):j<ops.size:=by
 obtain ⟨o,h1,_⟩:=h
 simpa using (List.getElem?_eq_some_iff.1 h1).1
theorem qD (e:Env) (d:Option Nat) (v:Value) (t:Nat):(e.put d v).get t=if d=some t then v else e.get t:=by
 cases d with
 | none=>simp [Env.put]
 | some d=>
  simp only [Env.put,Env.eT]
  by_cases h:t=d
  ·subst h;simp
  ·rw [if_neg h,if_neg (fun q=>h (by simpa using q.symm))]
theorem Dr.env (d:Dr P call ops n base E H val) (t:Nat):∀ (k:Nat),k≤ops.size→((∀ j,j<k→¬ Wr ops j t)→(E k).get t=(E 0).get t)∧(∀ j,j<k→Wr ops j t→(∀ m,j<m→m<k→¬ Wr ops m t)→(E k).get t=val j):=by
 intro k
 induction k with
 | zero=>intro _;exact ⟨fun _=>rfl,fun j h=>by omega⟩
 | succ k ih=>
  intro hk
  obtain ⟨o,ho⟩:=uv (show k<ops.size by omega)
  obtain ⟨h1,h2⟩:=ih (by omega)
  rw [d.facts.put k o ho,qD]
  refine ⟨fun hn=>?_,fun j hj hw hn=>?_⟩
  ·rw [if_neg fun q=>hn k (by omega) ⟨o,ho,q⟩]
   exact h1 fun j hj=>hn j (by omega)
  ·by_cases e:j=k
   ·subst e
    obtain ⟨o',I,J⟩:=hw
    rw [ho] at I;cases I
    rw [if_pos J]
   ·rw [if_neg fun q=>hn k (by omega) (by omega) ⟨o,ho,q⟩]
    exact h2 j (by omega) hw fun m a b=>hn m a (by omega)
structure Inv (P:Program) (ops:Array Oper) (n base:Nat) (E:Nat→Env) (H:Nat→AH) (val:Nat→Value) (ρ0:aT) (du:cW) (w0:World) (d0:List Deferred)
  (D:Nat→Prop) (a:Act) (w:World) (ρ:aT) (G:cW) (c:Nat) (e:Env):Prop where
 closed:∀ i j,D i→j∈Pr ops.toList i→D j
 lK:∀ i,D i→i<ops.size
 fL:c≤ops.size
 lP:∀ j,D j→Mk P ops E j→j<c
 oM:∀ j,j<c→Mk P ops E j→D j
 out:∀ b,(b<base∨base+ops.size≤b)→G b=(H c).ae b
 inl:∀ f,D f→f<c→G (base+f)=(H c).ae (base+f)
 inr:∀ f,D f→c≤f→G (base+f)=(H (f+1)).ae (base+f)
 g2:∀ f,f<ops.size→¬ D f→G (base+f)=none∧ρ (base+f)=none
 nM:∀ f,f<ops.size→¬ D f→f<c→(H c).ae (base+f)=(H (f+1)).ae (base+f)
 env:eu ρ e n a
 w1:∀ t j,D j→Wr ops j t→(∀ k,D k→Wr ops k t→k≤j)→e.get t=val j
 w2:∀ t,(∀ j,D j→¬ Wr ops j t)→e.get t=(E 0).get t
 dZ:bh ρ w G (H c).next
 ext:Ext ρ0 du base w0 ρ G (H c).next w
 defers:a.defers=d0
variable {ρ0:aT} {du:cW} {w0:World} {d0:List Deferred} {D:Nat→Prop} {a:Act} {w:World} {ρ:aT} {G:cW} {c:Nat} {e:Env}
theorem Inv.BI (d:Dr P call ops n base E H val) (v:Inv P ops n base E H val ρ0 du w0 d0 D a w ρ G c e) {i:Nat} (hi:i<ops.size) (hn:¬ D i) (hp:∀ j∈Pr ops.toList i,D j)
  {t:Nat} (ht:∀ j,Wr ops j t→j≠i→ordered (da ops.toList) i j=true):e.get t=(E i).get t:=by
 have rV:∀ j,Wr ops j t→(D j↔j<i):=by
  intro j hj
  by_cases e:j=i
  ·subst e;exact ⟨fun q=>absurd q hn,fun q=>absurd q (by omega)⟩
  ·rcases lh.1 (ht j hj e) with q | q
   ·have:=kF d.back _ _ q
    exact ⟨fun _=>this,fun _=>hp j q⟩
   ·have:=kF d.back _ _ q
    exact ⟨fun J=>absurd (v.closed j i J q) hn,fun J=>by omega⟩
 obtain ⟨h1,h2⟩:=d.env t i (by omega)
 by_cases hex:∃ j,j<i∧Wr ops j t
 ·obtain ⟨j,U,I,aa⟩:=sS (fun j=>Wr ops j t) i hex
  rw [h2 j U I aa]
  exact v.w1 t j ((rV j I).2 U) I fun k hk hw=>by
   have:=(rV k hw).1 hk
   exact Classical.byContradiction fun q=>aa k (by omega) this hw
 ·rw [h1 fun j hj hw=>hex ⟨j,hj,hw⟩]
  exact v.w2 t fun j hj hw=>hex ⟨j,(rV j hw).1 hj,hw⟩
theorem ue (d:Dr P call ops n base E H val) {i j:Nat} {oi oj:Oper} (hi:ops.toList[i]?=some oi) (hj:ops.toList[j]?=some oj) (bU:i≠j) (ho:ordered (da ops.toList) i j=false):
  (∀ t,oi.dst=some t→oj.dst≠some t)∧(∀ t,oj.dst=some t→t∉oi.looksAt ops):=by
 have h:=d.apart
 simp only [qY,List.all_eq_true,List.mem_range] at h
 have dq:=(List.getElem?_eq_some_iff.1 hi).1
 have rP:=(List.getElem?_eq_some_iff.1 hj).1
 by_cases bq:j<i
 ·have:=h i dq j bq
  rw [List.getD_eq_getElem?_getD,List.getD_eq_getElem?_getD,hi,hj,ho] at this
  obtain ⟨_,h2,I⟩:=uf (by simpa using this)
  exact ⟨h2,I⟩
 ·have:=h j rP i (by omega)
  rw [List.getD_eq_getElem?_getD,List.getD_eq_getElem?_getD,hi,hj,qo,ho] at this
  obtain ⟨h1,h2,_⟩:=uf (by simpa using this)
  exact ⟨fun t J U=>h2 t U J,h1⟩
theorem Inv.reads (d:Dr P call ops n base E H val) (v:Inv P ops n base E H val ρ0 du w0 d0 D a w ρ G c e) {i:Nat} {o:Oper} (ho:ops.toList[i]?=some o) (hn:¬ D i) (hp:∀ j∈Pr ops.toList i,D j):
  ∀ t∈o.looksAt ops,e.get t=(E i).get t:=by
 intro t ht
 refine v.BI d (by simpa using (List.getElem?_eq_some_iff.1 ho).1) hn hp fun j ⟨oj,hj,hd⟩ bU=>?_
 refine Classical.byContradiction fun q=>?_
 have:=(ue d ho hj (Ne.symm bU) (by simpa using q)).2 t hd
 exact this ht
theorem Inv.ev (d:Dr P call ops n base E H val) (v:Inv P ops n base E H val ρ0 du w0 d0 D a w ρ G c e) {i:Nat} {o:Oper} (ho:ops.toList[i]?=some o) (hn:¬ D i) (hp:∀ j∈Pr ops.toList i,D j):
  (∀ x∈o.op.operands,VR ρ ((E i).ev x) (a.eval x))∧b8 ops (E i) o=b8 ops e o:=by
 have hr:=v.reads d ho hn hp
 have gE:opOk n o=true:=d.ok o (List.mem_of_getElem? ho)
 refine ⟨fun x hx=>?_,?_⟩
 ·have:=v.env.ev (ug gE x hx)
  have he:(E i).ev x=e.ev x:=by
   cases x with
   | tmp t=>
    simp only [Env.ev]
    refine (hr t ?_).symm
    unfold Oper.looksAt
    rw [List.mem_append]
    exact .inl (List.mem_filterMap.2 ⟨.tmp t,by simpa using hx,rfl⟩)
   | const _=>rfl
   | global _=>rfl
   | func _=>rfl
  rw [he];exact this
 ·unfold b8
  cases hg:o.guard with
  | none=>rfl
  | some g=>
   obtain ⟨j,want⟩:=g
   simp only
   have:aYield ops (E i) j=aYield ops e j:=by
    unfold aYield
    cases hd:(ops[j]?).bind (·.dst) with
    | none=>rfl
    | some t=>
     simp only
     rw [hr t (by unfold Oper.looksAt;rw [List.mem_append];right;simp [hg,hd])]
   rw [this]
theorem Inv.ry (d:Dr P call ops n base E H val) (v:Inv P ops n base E H val ρ0 du w0 d0 D a w ρ G c e) {i:Nat} {o:Oper} (ho:ops.toList[i]?=some o) (hn:¬ D i) (hp:∀ j∈Pr ops.toList i,D j):
  (∀ t j,(j=i∨D j)→Wr ops j t→(∀ k,(k=i∨D k)→Wr ops k t→k≤j)→(e.put o.dst (val i)).get t=val j)∧(∀ t,(∀ j,(j=i∨D j)→¬ Wr ops j t)→(e.put o.dst (val i)).get t=(E 0).get t):=by
 have before:∀ t,o.dst=some t→∀ j,D j→Wr ops j t→j<i:=by
  intro t ht j hj ⟨oj,h1,h2⟩
  have bU:i≠j:=fun e=>hn (e ▸ hj)
  cases gN:ordered (da ops.toList) i j with
  | false=>exact absurd h2 ((ue d ho h1 bU gN).1 t ht)
  | true=>
   rcases lh.1 gN with q | q
   ·exact kF d.back _ _ q
   ·exact absurd (v.closed j i hj q) hn
 refine ⟨fun t j hj hw hk=>?_,fun t ht=>?_⟩
 ·rw [qD]
  by_cases hd:o.dst=some t
  ·rw [if_pos hd]
   rcases hj with rfl | hj
   ·rfl
   ·have h1:=before t hd j hj hw
    have h2:=hk i (.inl rfl) ⟨o,ho,hd⟩
    omega
  ·rw [if_neg hd]
   rcases hj with rfl | hj
   ·obtain ⟨o',I,J⟩:=hw
    rw [ho] at I;cases I
    exact absurd J hd
   ·exact v.w1 t j hj hw fun k q=>hk k (.inr q)
 ·rw [qD,if_neg fun q=>ht i (.inl rfl) ⟨o,ho,q⟩]
  exact v.w2 t fun j hj=>ht j (.inr hj)
theorem Inv.shut (v:Inv P ops n base E H val ρ0 du w0 d0 D a w ρ G c e) {i:Nat} (hp:∀ j∈Pr ops.toList i,D j):∀ k j,(k=i∨D k)→j∈Pr ops.toList k→(j=i∨D j):=by
 rintro k j (rfl | hk) hj
 ·exact .inr (hp j hj)
 ·exact .inr (v.closed k j hk hj)
theorem qG {G G' X X':cW} {nx iH:Nat} {ρ ρ':aT} {w w':World} (hE:Ext ρ X nx w ρ' X' iH w') {b:Nat} (hb:b<nx) (hr:ρ b=none):ρ' b=none:=by
 cases h:ρ' b with
 | none=>rfl
 | some p=>
  rcases hE.new b p h with q | q
  ·rw [hr] at q;cases q
  ·omega
theorem Inv.still (d:Dr P call ops n base E H val) (v:Inv P ops n base E H val ρ0 du w0 d0 D a w ρ G c e) {i:Nat} {o:Oper} (ho:ops.toList[i]?=some o) (hn:¬ D i) (hp:∀ j∈Pr ops.toList i,D j)
  (hm:¬ Mk P ops E i) (hf:¬ Fr P ops E i) {ρ':aT} {w':World} {u:Value} (hle:cD ρ ρ') (hu:VR ρ' (val i) u) (hs:bh ρ' w' G (H c).next) (hE:Ext ρ G base w ρ' G (H c).next w')
  (jf:∀ f,f<ops.size→ρ (base+f)=none→ρ' (base+f)=none):Inv P ops n base E H val ρ0 du w0 d0 (fun j=>j=i∨D j) (a.put o.dst u) w' ρ' G c (e.put o.dst (val i)):=by
 have hi:i<ops.size:=by simpa using (List.getElem?_eq_some_iff.1 ho).1
 have gE:opOk n o=true:=d.ok o (List.mem_of_getElem? ho)
 obtain ⟨t1,t2⟩:=v.ry d ho hn hp
 have hq:=d.quiet hi hm hf
 obtain ⟨I,aa⟩:=v.g2 i hi hn
 refine ⟨v.shut hp,fun k hk=>?_,v.fL,fun j hj gf=>?_,fun j hj gf=> .inr (v.oM j hj gf),v.out,fun f hf hc=>?_,fun f hf hc=>?_,fun f bq hf=>?_,fun f bq hf hc=>?_,(v.env.mono hle).put (k4 gE) hu,t1,t2,hs,v.ext.trans' hE (Nat.le_refl _),by rw [put_defers];exact v.defers⟩
 ·rcases hk with rfl | hk
  ·exact hi
  ·exact v.lK k hk
 ·rcases hj with rfl | hj
  ·exact absurd gf hm
  ·exact v.lP j hj gf
 ·rcases hf with rfl | hf
  ·rw [I,v.nM f hi hn hc,hq]
  ·exact v.inl f hf hc
 ·rcases hf with rfl | hf
  ·rw [I,hq]
  ·exact v.inr f hf hc
 ·obtain ⟨J,U⟩:=v.g2 f bq fun q=>hf (.inr q)
  exact ⟨J,jf f bq U⟩
 ·exact v.nM f bq (fun q=>hf (.inr q)) hc
end
end Go.Proofs.Ytcilejikekccmaa.Am
namespace Go.Proofs.Ytcilejikekccmaa.Am
open Go
variable [Marks]
section
variable {P:Program} {call:cy} {ops:Array Oper} {n base:Nat} {E:Nat→Env} {H:Nat→AH} {val:Nat→Value}
variable {ρ0:aT} {du:cW} {w0:World} {d0:List Deferred} {D:Nat→Prop} {a:Act} {w:World} {ρ:aT} {G:cW} {c:Nat} {e:Env}
theorem Inv.wN (d:Dr P call ops n base E H val) (v:Inv P ops n base E H val ρ0 du w0 d0 D a w ρ G c e) {i:Nat} (fC:c≤i) (hi:i<ops.size) (eB:∀ j,c≤j→j<i→¬ Mk P ops E j):
  ∀ b,ρ b≠none→(b<base∨base+ops.size≤b∨(H i).ae b≠none∨∃ f,b=base+f∧f<i)→G b=(H i).ae b:=by
 intro b hb hc
 have kh:∀ f,b=base+f→f<ops.size→f<i→G b=(H i).ae b:=by
  rintro f rfl hf kt
  have hD:D f:=Classical.byContradiction fun q=>hb (v.g2 f hf q).2
  by_cases h7:f<c
  ·rw [v.inl f hD h7]
   exact ((d.kE fC (by omega) eB).2 _ fun j J I=>by omega).symm
  ·rw [v.inr f hD (by omega)]
   exact ((d.kE (i:=f+1) (by omega) (by omega) fun j J I=>eB j (by omega) I).2 _ fun j J I=>by omega).symm
 have tw:(b<base∨base+ops.size≤b)→G b=(H i).ae b:=fun h=>by
  rw [v.out b h]
  exact ((d.kE fC (by omega) eB).2 _ fun j J I=>by omega).symm
 by_cases h1:b<base
 ·exact tw (.inl h1)
 by_cases h2:base+ops.size≤b
 ·exact tw (.inr h2)
 rcases hc with hc | hc | hc | ⟨f,rfl,hf⟩
 ·exact absurd hc h1
 ·exact absurd hc h2
 ·have eR:b=base+(b - base):=by omega
  refine kh (b - base) eR (by omega) ?_
  refine Classical.byContradiction fun q=>hc ?_
  rw [eR]
  exact d.dead (by omega) i (by omega)
 ·exact kh f rfl (by omega) hf
theorem Inv.part (d:Dr P call ops n base E H val) (v:Inv P ops n base E H val ρ0 du w0 d0 D a w ρ G c e) {i:Nat} {o:Oper} (ho:ops.toList[i]?=some o) (hn:¬ D i) (hp:∀ j∈Pr ops.toList i,D j)
  (hm:¬ Mk P ops E i) (hf:¬ Fr P ops E i) {X:AH} (dB:X.next=(H c).next) (hX:∀ b,X.ae b=none∨X.ae b=G b) (av:aOp P call (E i).ev o.op X=some (val i,X)) {Q:Exit→Act→World→Prop} {K:Act→World→Prop}
  (hK:∀ a' w',(∃ ρ' G' c' e',Inv P ops n base E H val ρ0 du w0 d0 (fun j=>j=i∨D j) a' w' ρ' G' c' e')→K a' w'):o.wp P a w K Q:=by
 have hi:i<ops.size:=by simpa using (List.getElem?_eq_some_iff.1 ho).1
 have kY:=d.live c v.fL
 have o9:=d.l9 v.fL
 have jz:∀ b B,X.ae b=some B→G b=some B:=fun b B q=>by
  rcases hX b with I | I
  ·rw [q] at I;cases I
  ·rw [← I];exact q
 have sX:∀ b,G b≠none→b<(H c).next:=v.dZ.live
 have J:bh ρ w X.ae X.next:=by
  rw [dB]
  exact v.dZ.less jz
 refine r4 d.gq J (v.ev d ho hn hp).1 av fun ρ' u w' hu fx hE=>?_
 have U:∀ b,ρ' b≠none→(ρ b=none∨X.ae b≠none)→G b=X.ae b:=by
  rintro b hb (q | q)
  ·cases hr:ρ' b with
   | none=>exact absurd hr hb
   | some p=>
    rcases hE.new b p hr with h1 | ⟨h1,_⟩
    ·rw [q] at h1;cases h1
    ·have h2:G b=none:=Classical.byContradiction fun q=>by have:=sX b q;omega
     have aa:X.ae b=none:=Classical.byContradiction fun q=>by have:=J.live b q;omega
     rw [h2,aa]
  ·rcases hX b with I | I
   ·exact absurd I q
   ·exact I.symm
 have ab:bh ρ' w' G (H c).next:=by
  rw [dB] at fx hE
  exact bh.merge v.dZ fx hE (fun b B _ q=>jz b B q) (fun _ _ q=>q) (fun _ _ _=>rfl) U sX
 have ad:Ext ρ G base w ρ' G (H c).next w':=by
  rw [dB] at hE
  exact hE.merge (by omega) (fun b B _ q=>jz b B q) (fun _ _ _=>rfl) U (fun _ _ _=>rfl)
 exact hK _ _ ⟨ρ',G,c,_,v.still d ho hn hp hm hf hE.le hu ab ad fun f bq hr=>qG (G:=G) (G':=G) hE (by omega) hr⟩
theorem Inv.BD (d:Dr P call ops n base E H val) (v:Inv P ops n base E H val ρ0 du w0 d0 D a w ρ G c e) {i:Nat} {o:Oper} (ho:ops.toList[i]?=some o) (hn:¬ D i) (hp:∀ j∈Pr ops.toList i,D j)
  (hw:b8 ops (E i) o=true) (hc:cls P o.op= .look) (b0:Nat) (U:lookBlk (E i).ev o.op=some b0) (hρ:ρ b0≠none):∃ k,k≤ops.size∧G b0=(H k).ae b0∧aLook P (E i).ev o.op (H k)=some (val i):=by
 have hi:i<ops.size:=by simpa using (List.getElem?_eq_some_iff.1 ho).1
 obtain ⟨hl,_⟩:=d.facts.look i o ho hw hc
 have oy:(H i).ae b0≠none:=Ag hc hl b0 U
 have bq:b0<(H c).next:=by
  cases hr:ρ b0 with
  | none=>exact absurd hr hρ
  | some p=>exact v.dZ.dV b0 p hr
 have dep:∀ k m,(H k).ae b0=(H m).ae b0→aLook P (E i).ev o.op (H k)=some (val i)→aLook P (E i).ev o.op (H m)=some (val i):=fun k m h1 h2=>by
  rw [← h2]
  exact se hc fun b hb=>by rw [U] at hb;cases hb;exact h1.symm
 have tH:∀ j,j<ops.size→Mk P ops E j→j≠i→(∀ (_:c≤j) (_:j<i),ordered (da ops.toList) i j=false)∧(∀ (_:j<c) (_:i<j),ordered (da ops.toList) i j=false):=by
  intro j hj hm bU
  refine ⟨fun h1 h2=>?_,fun h1 h2=>?_⟩
  ·refine Bool.eq_false_iff.2 fun q=>?_
   rcases lh.1 q with q | q
   ·have:=v.lP j (hp j q) hm;omega
   ·have:=kF d.back _ _ q;omega
  ·refine Bool.eq_false_iff.2 fun q=>?_
   rcases lh.1 q with q | q
   ·have:=kF d.back _ _ q;omega
   ·exact hn (v.closed j i (v.oM j h1 hm) q)
 have sR:∀ m,i+m≤c→(∀ j,i≤j→j<i+m→b0≠base+j)→aLook P (E i).ev o.op (H (i+m))=some (val i):=by
  intro m
  induction m with
  | zero=>intro _ _;exact hl
  | succ m ih=>
   intro hm hf
   have h1:=ih (by omega) fun j I J=>hf j I (by omega)
   by_cases hk:Mk P ops E (i+m)
   ·obtain ⟨oj,kj,mO,ky⟩:=hk
    have bU:i+m≠i:=by
     rintro q
     rw [q,ho] at kj
     cases kj
     rw [hc] at ky;cases ky
    rcases d.facts.h8 (i+m) oj kj mO ky with q | q
    ·exact dep _ _ (q b0 (Nat.lt_of_lt_of_le (d.live i (by omega) b0 oy) (d.qH (by omega) (by have:=v.fL;omega)))).symm h1
    ·exact (q i o ho hw hc ((tH (i+m) (by have:=v.fL;omega) ⟨oj,kj,mO,ky⟩ bU).2 (by omega) (by omega))).1 (by omega)
   ·exact dep _ _ ((d.step (by have:=v.fL;omega) hk).2.1 b0 (hf _ (by omega) (by omega))).symm h1
 have back:∀ m,m≤i→c≤i - m→(∀ j,i - m≤j→j<i→b0≠base+j)→aLook P (E i).ev o.op (H (i - m))=some (val i):=by
  intro m
  induction m with
  | zero=>intro _ _ _;exact hl
  | succ m ih=>
   intro hm tn hf
   have h1:=ih (by omega) (by omega) fun j I J=>hf j (by omega) J
   have e1:i - m=i - (m+1)+1:=by omega
   rw [e1] at h1
   by_cases hk:Mk P ops E (i - (m+1))
   ·obtain ⟨oj,kj,mO,ky⟩:=hk
    rcases d.facts.h8 _ oj kj mO ky with q | q
    ·exact dep _ _ (q b0 (Nat.lt_of_lt_of_le bq (d.qH tn (by omega)))) h1
    ·exact (q i o ho hw hc ((tH _ (by omega) ⟨oj,kj,mO,ky⟩ (by omega)).1 tn (by omega))).2 (by omega)
   ·exact dep _ _ ((d.step (by omega) hk).2.1 b0 (hf _ (by omega) (by omega))) h1
 by_cases kh:base≤b0∧b0<base+ops.size
 ·obtain ⟨f,rfl⟩:∃ f,b0=base+f:=⟨b0 - base,by omega⟩
  have hf:f<ops.size:=by omega
  have hD:D f:=Classical.byContradiction fun q=>hρ (v.g2 f hf q).2
  have kt:f<i:=Classical.byContradiction fun q=>oy (d.dead hf i (by omega))
  by_cases h7:f<c
  ·refine ⟨c,v.fL,v.inl f hD h7,?_⟩
   by_cases w6:i≤c
   ·have:=sR (c - i) (by omega) fun j I J=>by omega
    rwa [show i+(c - i)=c by omega] at this
   ·have:=back (i - c) (by omega) (by omega) fun j I J=>by omega
    rwa [show i - (i - c)=c by omega] at this
  ·refine ⟨f+1,by omega,v.inr f hD (by omega),?_⟩
   have:=back (i - (f+1)) (by omega) (by omega) fun j I J=>by omega
   rwa [show i - (i - (f+1))=f+1 by omega] at this
 ·refine ⟨c,v.fL,v.out b0 (by omega),?_⟩
  have c4:=v.fL
  by_cases w6:i≤c
  ·have:=sR (c - i) (by omega) fun j I J=>by omega
   rwa [show i+(c - i)=c by omega] at this
  ·have:=back (i - c) (by omega) (by omega) fun j I J=>by omega
   rwa [show i - (i - c)=c by omega] at this
theorem Inv.row (d:Dr P call ops n base E H val) (v:Inv P ops n base E H val ρ0 du w0 d0 D a w ρ G c e) {i:Nat} {o:Oper} (ho:ops.toList[i]?=some o) (hn:¬ D i) (hp:∀ j∈Pr ops.toList i,D j)
  (hw:b8 ops (E i) o=true) (hc:cls P o.op= .fresh) {Q:Exit→Act→World→Prop} {K:Act→World→Prop}
  (hK:∀ a' w',(∃ ρ' G' c' e',Inv P ops n base E H val ρ0 du w0 d0 (fun j=>j=i∨D j) a' w' ρ' G' c' e')→K a' w'):o.wp P a w K Q:=by
 have hi:i<ops.size:=by simpa using (List.getElem?_eq_some_iff.1 ho).1
 have gE:opOk n o=true:=d.ok o (List.mem_of_getElem? ho)
 obtain ⟨f,f1,f2,f3,f4⟩:=d.facts.fresh i o ho hw hc
 have hm:¬ Mk P ops E i:=by
  rintro ⟨o',I,_,U⟩
  rw [ho] at I;cases I
  rw [hc] at U;cases U
 obtain ⟨v',C,el,h1,h2,aa⟩:=tj (P:=P) (v.ev d ho hn hp).1 f1 w
 obtain ⟨ad,J⟩:=v.g2 i hi hn
 have o9:=d.l9 v.fL
 have c8:base+i<(H c).next:=by omega
 have kr:(H (i+1)).ae (base+i)=some ⟨f.2.1,true,f.2.2⟩:=by rw [f4,if_pos rfl]
 obtain ⟨t1,t2⟩:=v.ry d ho hn hp
 have hle:=cD.bE ρ ⟨w.heap.size,0,f.2.2,C.size⟩ J
 have hS:bh (bE ρ (base+i) ⟨w.heap.size,0,f.2.2,C.size⟩) (w.alloc (.cells C el)) (bB G (base+i) (some ⟨f.2.1,true,f.2.2⟩)) (H c).next:=
  bh.made (fr:=(0,0)) v.dZ J c8 (Nat.le_refl _) h2 (by simp) (fun k hk=>heap_alloc_old w _ k hk) (heap_alloc_new w _) (fun i v hv=>by simpa using hv) (Nat.le_refl _) (by have:=h2.1;simp at this;omega) (.inl rfl)
 have hE:Ext ρ G base w (bE ρ (base+i) ⟨w.heap.size,0,f.2.2,C.size⟩) (bB G (base+i) (some ⟨f.2.1,true,f.2.2⟩)) (H c).next (w.alloc (.cells C el)):=
  Ext.made J (by omega) (by omega) rfl (by simp) (fun k hk=>heap_alloc_old w _ k hk) rfl rfl rfl
 have other:∀ k,k≠i→bB G (base+i) (some ⟨f.2.1,true,f.2.2⟩) (base+k)=G (base+k):=fun k hk=>by simp only [bB];rw [if_neg (by omega)]
 have own:bB G (base+i) (some ⟨f.2.1,true,f.2.2⟩) (base+i)=(H (i+1)).ae (base+i):=by rw [kr];simp [bB]
 refine gk h1 (hK _ _ ⟨_,_,c,e.put o.dst (val i),v.shut hp,fun k hk=>?_,v.fL,fun j hj gf=>?_,fun j hj gf=> .inr (v.oM j hj gf),fun b hb=>?_,fun k hk lD=>?_,fun k hk lD=>?_,fun k bq hk=>?_,fun k bq hk lD=>?_,
  (v.env.mono hle).put (k4 gE) ?_,t1,t2,hS,v.ext.trans' hE (Nat.le_refl _),by rw [put_defers];exact v.defers⟩)
 ·rcases hk with rfl | hk
  ·exact hi
  ·exact v.lK k hk
 ·rcases hj with rfl | hj
  ·exact absurd gf hm
  ·exact v.lP j hj gf
 ·simp only [bB]
  rw [if_neg (by omega)]
  exact v.out b hb
 ·rcases hk with rfl | hk
  ·rw [own,v.nM k hi hn lD]
  ·rw [other k (fun q=>hn (q ▸ hk))];exact v.inl k hk lD
 ·rcases hk with rfl | hk
  ·exact own
  ·rw [other k (fun q=>hn (q ▸ hk))];exact v.inr k hk lD
 ·have bU:k≠i:=fun q=>hk (.inl q)
  obtain ⟨I,ab⟩:=v.g2 k bq fun q=>hk (.inr q)
  rw [other k bU]
  refine ⟨I,?_⟩
  simp only [bE]
  rw [if_neg (by omega)]
  exact ab
 ·exact v.nM k bq (fun q=>hk (.inr q)) lD
 ·rw [f2]
  exact aa _ _ hle (by simp [bE])
theorem Inv.makes (d:Dr P call ops n base E H val) (v:Inv P ops n base E H val ρ0 du w0 d0 D a w ρ G c e) {i:Nat} {o:Oper} (ho:ops.toList[i]?=some o) (hn:¬ D i) (hp:∀ j∈Pr ops.toList i,D j)
  (hw:b8 ops (E i) o=true) (hc:cls P o.op= .make) {Q:Exit→Act→World→Prop} {K:Act→World→Prop}
  (hK:∀ a' w',(∃ ρ' G' c' e',Inv P ops n base E H val ρ0 du w0 d0 (fun j=>j=i∨D j) a' w' ρ' G' c' e')→K a' w'):o.wp P a w K Q:=by
 have hi:i<ops.size:=by simpa using (List.getElem?_eq_some_iff.1 ho).1
 have gE:opOk n o=true:=d.ok o (List.mem_of_getElem? ho)
 obtain ⟨r,f1,f2,f3,f4⟩:=d.facts.make i o ho hw hc
 have tV:Mk P ops E i:=⟨o,ho,hw,hc⟩
 have gN:∀ j,Mk P ops E j→j≠i→ordered (da ops.toList) i j=true:=by
  rintro j ⟨oj,I,_,aa⟩ bU
  have h:=d.made
  simp only [qF,List.all_eq_true,List.mem_filter,List.mem_range,decide_eq_true_eq] at h
  have:=h i ⟨by simpa using hi,by rw [List.getD_eq_getElem?_getD,ho];exact hc⟩ j ⟨(List.getElem?_eq_some_iff.1 I).1,by rw [List.getD_eq_getElem?_getD,I];exact aa⟩
  simpa [Ne.symm bU] using this
 have fC:c≤i:=Classical.byContradiction fun q=>hn (v.oM i (by omega) tV)
 have eB:∀ j,c≤j→j<i→¬ Mk P ops E j:=by
  intro j h1 h2 hm
  rcases lh.1 (gN j hm (by omega)) with q | q
  ·have:=v.lP j (hp j q) hm;omega
  ·have:=kF d.back _ _ q;omega
 have gw:=v.wN d fC hi eB
 obtain ⟨dB,rl⟩:=d.kE fC (by omega) eB
 have o9:=d.l9 v.fL
 have ag:bh ρ w ({H i with low:=(H i).next}:AH).ae ({H i with low:=(H i).next}:AH).next:=by
  show bh ρ w (H i).ae (H i).next
  rw [dB]
  refine v.dZ.part (fun b B hb q=>?_) fun b q=>?_
  ·rw [gw b hb (.inr (.inr (.inl (by rw [q];exact fun q=>by cases q)))),q]
  ·rw [← dB];exact d.live i (by omega) b q
 refine r4 d.gq ag (v.ev d ho hn hp).1 f1 fun ρ' u w' hu fx hE=>?_
 have hE:Ext ρ (H i).ae (H c).next w ρ' r.ae r.next w':=by rw [← dB];exact hE
 classical
 let G':cW:=fun b=>if base≤b∧b<base+ops.size∧(i<b - base∨(b - base≠i∧¬ D (b - base))) then G b else r.ae b
 have e0:∀ f,base+f - base=f:=fun f=>by omega
 have ab:∀ f,f<ops.size→(i<f∨(f≠i∧¬ D f))→G' (base+f)=G (base+f):=fun f I J=>by
  show (if _ then _ else _)=_
  rw [if_pos ⟨by omega,by omega,by rw [e0];exact J⟩]
 have U:∀ b,¬ (base≤b∧b<base+ops.size∧(i<b - base∨(b - base≠i∧¬ D (b - base))))→G' b=r.ae b:=fun b q=>by
  show (if _ then _ else _)=_
  rw [if_neg q]
 have qO:∀ f,f<ops.size→¬ D f→ρ' (base+f)=none:=fun f hf hD=>qG (G:=G) (G':=G) hE (by omega) (v.g2 f hf hD).2
 have gz:∀ b,ρ' b≠none→b<(H c).next→ρ b≠none:=by
  intro b hb bq hr
  exact hb (qG (G:=G) (G':=G) hE bq hr)
 have gQ:∀ f,f<i→¬ D f→(H i).ae (base+f)=(H (f+1)).ae (base+f):=by
  intro f kt hD
  by_cases h7:f<c
  ·rw [← v.nM f (by omega) hD h7]
   exact rl _ fun j I J=>by omega
  ·exact (d.kE (i:=f+1) (by omega) (by omega) fun j I J=>eB j (by omega) J).2 _ fun j I J=>by omega
 have hX:∀ b B,ρ b≠none→(H i).ae b=some B→G b=some B:=fun b B hb q=>by
  rw [gw b hb (.inr (.inr (.inl (by rw [q];exact fun q=>by cases q)))),q]
 have p0:∀ b,b<(H c).next→(H i).ae b=none→r.ae b=none:=by
  intro b hb q
  rw [← f2]
  exact (d.oA tV).2.1 b (by omega) q
 have ad:∀ b,ρ b≠none→(H i).ae b=none→G' b=G b:=by
  intro b hb q
  by_cases hZ:base≤b∧b<base+ops.size∧(i<b - base∨(b - base≠i∧¬ D (b - base)))
  ·show (if _ then _ else _)=_
   rw [if_pos hZ]
  ·have we:b<(H c).next:=by
    cases hr:ρ b with
    | none=>exact absurd hr hb
    | some p=>exact v.dZ.dV b p hr
   rw [U b hZ,p0 b we q]
   by_cases h1:b<base
   ·rw [gw b hb (.inl h1),q]
   by_cases h2:base+ops.size≤b
   ·rw [gw b hb (.inr (.inl h2)),q]
   have kt:b - base≠i:=fun e=>hb (by
    have:=(v.g2 i hi hn).2
    rwa [show base+i=b by omega] at this)
   rw [gw b hb (.inr (.inr (.inr ⟨b - base,by omega,by omega⟩))),q]
 have af:∀ b,ρ' b≠none→(ρ b=none∨(H i).ae b≠none)→G' b=r.ae b:=by
  intro b hb q
  refine U b fun ⟨I,J,aa⟩=>?_
  have h1:=gz b hb (by omega)
  have aa:i<b - base:=by
   refine aa.resolve_right fun ah=>h1 ?_
   have:=(v.g2 (b - base) (by omega) ah.2).2
   rwa [show base+(b - base)=b by omega] at this
  rcases q with q | q
  ·exact h1 q
  ·have h2:=d.dead (f:=b - base) (by omega) i (by omega)
   rw [show base+(b - base)=b by omega] at h2
   exact q h2
 have hl:∀ b,G' b≠none→b<r.next:=by
  intro b hb
  have hle:(H c).next≤r.next:=hE.nx
  by_cases hZ:base≤b∧b<base+ops.size∧(i<b - base∨(b - base≠i∧¬ D (b - base)))
  ·omega
  ·rw [U b hZ] at hb
   exact fx.live b hb
 have ai:=bh.merge v.dZ (by simpa [dB] using fx) hE hX p0 ad af hl
 have aj:Ext ρ G base w ρ' G' r.next w':=hE.merge (by omega) hX ad af fun b hb hr=>by
  rw [U b (by omega),hE.un b (by omega) hr,v.out b (.inl hb)]
  exact rl b fun j I J=>by omega
 obtain ⟨t1,t2⟩:=v.ry d ho hn hp
 refine hK _ _ ⟨ρ',G',i+1,e.put o.dst (val i),v.shut hp,fun k hk=>?_,by omega,fun j hj gf=>?_,fun j hj gf=>?_,fun b hb=>?_,fun f hf h7=>?_,fun f hf h7=>?_,fun f bq hf=>?_,fun f bq hf h7=>?_,
  (v.env.mono hE.le).put (k4 gE) hu,t1,t2,by rw [f3];exact ai,by rw [f3];exact v.ext.trans' aj (Nat.le_refl _),by rw [put_defers];exact v.defers⟩
 ·rcases hk with rfl | hk
  ·exact hi
  ·exact v.lK k hk
 ·rcases hj with rfl | hj
  ·omega
  ·have:=v.lP j hj gf;omega
 ·by_cases e1:j=i
  ·exact .inl e1
  ·rcases lh.1 (gN j gf e1) with q | q
   ·exact .inr (hp j q)
   ·have:=kF d.back _ _ q;omega
 ·rw [U b (by omega),f2]
 ·rw [U _ (fun ⟨_,_,q⟩=>by
   rw [e0] at q
   rcases q with q | ⟨I,J⟩
   ·omega
   ·exact hf.elim I J),f2]
 ·rcases hf with rfl | hf
  ·omega
  ·rw [ab f (v.lK f hf) (.inl (by omega))]
   exact v.inr f hf (by omega)
 ·have hD:¬ D f:=fun q=>hf (.inr q)
  have bU:f≠i:=fun q=>hf (.inl q)
  refine ⟨?_,qO f bq hD⟩
  rw [ab f bq (.inr ⟨bU,hD⟩)];exact (v.g2 f bq hD).1
 ·have hD:¬ D f:=fun q=>hf (.inr q)
  have bU:f≠i:=fun q=>hf (.inl q)
  rw [f2,hE.un _ (by omega) (v.g2 f bq hD).2]
  exact gQ f (by omega) hD
theorem Em {P:Program} {ρ:aT} {ev dH:Operand→Value} {op:Op} (hc:cls P op= .look) {h:AH} {v:Value} (hl:aLook P ev op h=some v) (cc:∀ x∈op.operands,VR ρ (ev x) (dH x)) {b:Nat} (hb:lookBlk ev op=some b):ρ b≠none:=by
 cases op<;>simp only [cls] at hc<;>try (cases hc;done)
 case load t x=>
  have hx:=cc x (by simp [Op.operands])
  simp only [lookBlk] at hb
  split at hb
  ·rename_i a ha
   simp at hb;subst hb
   rw [ha] at hx
   generalize dH x=y at hx
   cases hx with
   | ptr h=>obtain ⟨_,p,h2,_⟩:=h;rw [h2];exact fun q=>by cases q
  ·cases hb
 case convert s d x=>
  have hx:=cc x (by simp [Op.operands])
  simp only [lookBlk] at hb
  split at hb
  ·rename_i a n c ha
   split at hb
   ·cases hb
   ·rename_i h0
    simp at hb;subst hb
    rw [ha] at hx
    generalize dH x=y at hx
    cases hx with
    | sl h1 h2 j I=>obtain ⟨_,p,h2,_⟩:=j (by omega);rw [h2];exact fun q=>by cases q
  ·cases hb
 case call c=>split at hc<;>cases hc
theorem Inv.step (d:Dr P call ops n base E H val) {i:Nat} {o:Oper} (v:Inv P ops n base E H val ρ0 du w0 d0 D a w ρ G c e) (ho:ops[i]?=some o) (hn:¬ D i) (hp:∀ j∈Pr ops.toList i,D j) {Q:Exit→Act→World→Prop} {K:Act→World→Prop}
  (hK:∀ a' w',(∃ ρ' G' c' e',Inv P ops n base E H val ρ0 du w0 d0 (fun j=>j=i∨D j) a' w' ρ' G' c' e')→K a' w'):wpOp P ops Q i K a w:=by
 have I:ops.toList[i]?=some o:=by rw [Array.getElem?_toList];exact ho
 have hi:i<ops.size:=by simpa using (List.getElem?_eq_some_iff.1 I).1
 have gE:opOk n o=true:=d.ok o (List.mem_of_getElem? I)
 have same:∀ {cl:fu},cls P o.op=cl→cl≠ .make→¬ Mk P ops E i:=by
  rintro cl h1 h2 ⟨o',J,_,U⟩
  rw [I] at J;cases J
  rw [h1] at U;exact h2 U
 have ad:∀ {cl:fu},cls P o.op=cl→cl≠ .fresh→¬ Fr P ops E i:=by
  rintro cl h1 h2 ⟨o',J,_,U⟩
  rw [I] at J;cases J
  rw [h1] at U;exact h2 U
 unfold wpOp
 rw [ho]
 simp only
 rw [sP v.env d.ok o,← (v.ev d I hn hp).2]
 cases hw:b8 ops (E i) o with
 | false=>
  rw [if_neg (by simp)]
  have hm:¬ Mk P ops E i:=by
   rintro ⟨o',J,aa,_⟩
   rw [I] at J;cases J
   rw [hw] at aa;cases aa
  have hf:¬ Fr P ops E i:=by
   rintro ⟨o',J,aa,_⟩
   rw [I] at J;cases J
   rw [hw] at aa;cases aa
  have hv:=(d.facts.off i o I hw).1
  exact hK _ _ ⟨ρ,G,c,_,v.still d I hn hp hm hf (cD.refl _) (by rw [hv];exact VR.undef ρ) v.dZ
   ⟨cD.refl _,rfl,rfl,rfl,Nat.le_refl _,by have:=d.l9 v.fL;omega,fun _ _ _=>rfl,fun _ _ h=>h,fun _ _ h=> .inl h,fun _ _ _=>rfl⟩ fun _ _ h=>h⟩
 | true=>
  rw [if_pos rfl]
  have hZ:∀ c:fu,c= .pure∨c= .look∨c= .fresh∨c= .make:=by intro c;cases c<;>simp
  rcases hZ (cls P o.op) with hc | hc | hc | hc
  ·refine .inl (v.part d I hn hp (same hc (by simp)) (ad hc (by simp)) (X:=⟨.nil,(H c).next,(H c).next⟩) rfl (fun b=> .inl (by simp [AH.ae,Tr.get])) ((d.facts.pure i o I hw hc).1 _) hK)
  ·cases hb:lookBlk (E i).ev o.op with
   | none=>
    have hl:=(d.facts.look i o I hw hc).1
    rw [se hc (h':=⟨.nil,(H c).next,(H c).next⟩) fun b ab=>by rw [hb] at ab;cases ab] at hl
    exact .inl (v.part d I hn hp (same hc (by simp)) (ad hc (by simp)) (X:=⟨.nil,(H c).next,(H c).next⟩) rfl (fun b=> .inl (by simp [AH.ae,Tr.get])) (s8 hc hl) hK)
   | some b0=>
    have hρ:ρ b0≠none:=by
     have cc:=(v.ev d I hn hp).1
     have hl:=(d.facts.look i o I hw hc).1
     exact Em hc hl cc hb
    obtain ⟨k,hk,h1,h2⟩:=v.BD d I hn hp hw hc b0 hb hρ
    have hX:∀ b,(⟨(Tr.nil).set b0 (G b0),(H c).next,(H c).next⟩:AH).ae b=if b=b0 then G b0 else none:=by
     intro b
     simp only [AH.ae,Tr.eT]
     simp [Tr.get]
    have hl:aLook P (E i).ev o.op ⟨(Tr.nil).set b0 (G b0),(H c).next,(H c).next⟩=some (val i):=by
     rw [← h2]
     refine se hc fun b ab=>?_
     rw [hb] at ab;cases ab
     rw [hX,if_pos rfl,h1]
    refine .inl (v.part d I hn hp (same hc (by simp)) (ad hc (by simp)) (X:=⟨(Tr.nil).set b0 (G b0),(H c).next,(H c).next⟩) rfl (fun b=>?_) (s8 hc hl) hK)
    rw [hX]
    by_cases e1:b=b0
    ·subst e1;rw [if_pos rfl];exact .inr rfl
    ·rw [if_neg e1];exact .inl rfl
  ·exact .inl (v.row d I hn hp hw hc hK)
  ·exact .inl (v.makes d I hn hp hw hc hK)
theorem Cm (hm:P.follows .mixedOrders=true) {call:cy} (Ab:Good P call) (bd:fM call):ta P call:=by
 intro n id ops e e' h h' ρ a w bX hd hr he hs hl
 unfold fh at hr
 cases hq:aDraw P call ops h.next 0 ops.toList ⟨e,{h with next:=h.next+ops.size},[],[]⟩ with
 | none=>rw [hq] at hr;cases hr
 | some s=>
  rw [hq] at hr
  simp at hr
  obtain ⟨rfl,rfl⟩:=hr
  obtain ⟨E,H,val,hf,e0,h0,e1,h1⟩:=draw_facts bd hq rfl rfl
  simp only [rb,Bool.and_eq_true] at hd
  have d:Dr P call ops n h.next E H val:=⟨Ab,bX,hf,hd.1.1,hd.1.2,hd.2,by rw [h0],fun b hb=>hl b (by rw [h0] at hb;exact hb)⟩
  refine wp_region_any hm ?_
  have kA:∀ f,f<ops.size→ρ (h.next+f)=none:=by
   intro f _
   cases hr:ρ (h.next+f) with
   | none=>rfl
   | some p=>have:=hs.dV _ p hr;omega
  refine yW hd.2 (fun D a' w'=>∃ ρ' G' c' e',Inv P ops n h.next E H val ρ h.ae w a.defers D a' w' ρ' G' c' e') ?_ ?_ ops.size _ a _ (by simp) ?_ ?_
  ·rintro D i o a' w' ⟨ρ',G',c',e',v⟩ ho hn eD K hK
   refine v.step d ho hn (fun j hj=>?_) hK
   obtain ⟨ed,Cj,hb,hc⟩:=sI (by rw [Array.getElem?_toList];exact ho) hj
   have:=eD ed Cj hb
   rcases hc with rfl | ⟨_,hc⟩
   ·exact this
   ·exact v.closed _ _ this hc
  ·rintro D a' w' ⟨ρ',G',c',e',v⟩ eD
   have eB:∀ j,c'≤j→j<ops.size→¬ Mk P ops E j:=fun j J I af=>by have:=v.lP j (eD j I) af;omega
   obtain ⟨ag,U⟩:=d.kE v.fL (Nat.le_refl _) eB
   have hG:G'=(H ops.size).ae:=by
    funext b
    by_cases kh:h.next≤b∧b<h.next+ops.size
    ·obtain ⟨f,rfl⟩:∃ f,b=h.next+f:=⟨b - h.next,by omega⟩
     have hf:f<ops.size:=by omega
     by_cases h7:f<c'
     ·rw [v.inl f (eD f hf) h7]
      exact (U _ fun j J I=>by omega).symm
     ·rw [v.inr f (eD f hf) (by omega)]
      exact ((d.kE (i:=f+1) (by omega) (Nat.le_refl _) fun j J I=>eB j (by omega) I).2 _ fun j J I=>by omega).symm
    ·rw [v.out b (by omega)]
     exact (U _ fun j J I=>by omega).symm
   have hE:∀ t,e'.get t=(E ops.size).get t:=by
    intro t
    obtain ⟨ah,ai⟩:=d.env t ops.size (Nat.le_refl _)
    by_cases hex:∃ j,j<ops.size∧Wr ops j t
    ·obtain ⟨j,aa,ab,ad⟩:=sS (fun j=>Wr ops j t) ops.size hex
     rw [ai j aa ab ad]
     exact v.w1 t j (eD j aa) ab fun k hk hw=>Classical.byContradiction fun q=>ad k (by omega) (v.lK k hk) hw
    ·rw [ah fun j hj hw=>hex ⟨j,hj,hw⟩]
     exact v.w2 t fun j hj hw=>hex ⟨j,v.lK j hj,hw⟩
   have hS:=v.dZ
   have hX:=v.ext
   rw [hG,← ag] at hS hX
   rw [← e1,← h1]
   exact ⟨rfl,ρ',⟨v.env.size,fun t=>by rw [← hE t];exact v.env.get t⟩,v.defers,hS,hX⟩
  ·unfold leftOf
   exact Nat.le_trans (List.length_filter_le _ _) (by simp)
  ·have hD:Dn (Array.replicate ops.size false)=fun _=>False:=by
    funext j
    unfold Dn
    rw [Array.getD_eq_getD_getElem?]
    by_cases hj:j<ops.size
    ·simp [hj]
    ·rw [Array.getElem?_eq_none (by simpa using Nat.le_of_not_lt hj)];simp
   rw [hD]
   have fN:(H 0).ae=h.ae:=by rw [h0];rfl
   have dB:(H 0).next=h.next+ops.size:=by rw [h0]
   refine ⟨ρ,h.ae,0,e,fun _ _ q=>q.elim,fun _ q=>q.elim,Nat.zero_le _,fun _ q=>q.elim,fun j q=>by omega,fun b _=>by rw [fN],fun _ q=>q.elim,fun _ q=>q.elim,fun f hf _=>⟨?_,kA f hf⟩,fun _ _ _ q=>by omega,⟨he.size,he.get⟩,fun _ _ q=>q.elim,fun t _=>by rw [e0],?_,?_,rfl⟩
   ·exact Classical.byContradiction fun q=>by have:=hl _ q;omega
   ·rw [dB]
    exact ⟨fun b p q=>Nat.lt_of_lt_of_le (hs.dV b p q) (by omega),hs.lt,(hs.world (w':={w with drawn:=w.drawn+1}) rfl).cell,(hs.world (w':={w with drawn:=w.drawn+1}) rfl).own,hs.apart,fun b q=>Nat.lt_of_lt_of_le (hs.live b q) (by omega)⟩
   ·rw [dB]
    exact ⟨cD.refl _,rfl,rfl,rfl,Nat.le_refl _,by omega,fun _ _ _=>rfl,fun _ _ h=>h,fun _ _ h=> .inl h,fun _ _ _=>rfl⟩
end
end Go.Proofs.Ytcilejikekccmaa.Am
namespace Go.Proofs.Ytcilejikekccmaa.Am
open Go
variable [Marks]
theorem AR.narrow {ρ ρ':aT} (hr:cD ρ ρ') {a a0 a':Addr} (h:AR ρ a a0) (h':AR ρ' a a'):AR ρ a a':=by
 obtain ⟨h1,p,h2,J⟩:=h
 obtain ⟨_,p',j,I⟩:=h'
 have:=hr _ _ h2
 rw [j] at this
 have:=Option.some.inj this
 subst this
 exact ⟨h1,p',h2,I⟩
theorem VR.narrow {ρ ρ':aT} (hr:cD ρ ρ') {v v0:Value} (h:VR ρ v v0):∀ v',VR ρ' v v'→VR ρ v v':=by
 induction h with
 | bool b=>intro v' h';cases h';exact .bool b
 | int k n=>intro v' h';cases h';exact .int k n
 | float k n=>intro v' h';cases h';exact .float k n
 | string s=>intro v' h';cases h';exact .string s
 | nilFunc=>intro v' h';cases h';exact .nilFunc
 | nilIface=>intro v' h';cases h';exact .nilIface
 | my=>intro v' h';cases h';exact .my
 | ptr h=>intro v' h';cases h' with | ptr h'=>exact .ptr (h.narrow hr h')
 | fV h1 h2=>intro v' h';cases h' with | fV j I=>exact .fV j I
 | sl h1 h2 aa ad=>
  intro v' h'
  cases h' with
  | sl j I J U=>
   refine .sl j I (fun q=>(aa q).narrow hr (J q)) fun q=>?_
   obtain ⟨ae,p,ab,ak⟩:=ad q
   obtain ⟨af,p',ag,ah⟩:=U q
   have:=hr _ _ ab
   rw [ag] at this
   have:=Option.some.inj this
   subst this
   exact ⟨ae.narrow hr af,p',ab,ah⟩
 | func f h1 _ aa _ ai aj=>
  intro v' h'
  cases h' with
  | func _ j I J U=>
   refine .func f j (fun i v u a b=>?_) J fun i v u a b=>?_
   ·have hi:i<_:=(Array.getElem?_eq_some_iff.1 a).1
    exact ai i v _ a (Array.getElem?_eq_getElem (by omega)) u (I i v u a b)
   ·have hi:i<_:=(Array.getElem?_eq_some_iff.1 a).1
    exact aj i v _ a (Array.getElem?_eq_getElem (by omega)) u (U i v u a b)
 | iface t _ ih=>intro v' h';cases h' with | iface _ h'=>exact .iface t (ih _ h')
 | agg h1 _ ih=>
  intro v' h'
  cases h' with
  | agg j I=>
   refine .agg j fun i v u a b=>?_
   have hi:i<_:=(Array.getElem?_eq_some_iff.1 a).1
   exact ih i v _ a (Array.getElem?_eq_getElem (by omega)) u (I i v u a b)
 | tuple h1 _ ih=>
  intro v' h'
  cases h' with
  | tuple j I=>
   refine .tuple j fun i v u a b=>?_
   have hi:i<_:=(Array.getElem?_eq_some_iff.1 a).1
   exact ih i v _ a (Array.getElem?_eq_getElem (by omega)) u (I i v u a b)
section
variable {P:Program}
theorem DH {α:Type} {ρ:aT} {f:α→Option Value} {g:α→Sem Value} {w:World} (rC:∀ a b,f a=some b→∃ b',VR ρ b b'∧(g a).run P w= .ok b' w):∀ (l:List α) (r:List Value),l.mapM f=some r→∃ r',LR ρ r r'∧(l.mapM g).run P w= .ok r' w:=by
 intro l
 induction l with
 | nil=>intro r h;simp at h;subst h;exact ⟨[],LR.nil ρ,by simp⟩
 | cons a l ih=>
  intro r h
  simp only [List.mapM_cons] at h
  cases ha:f a with
  | none=>rw [ha] at h;simp at h
  | some b=>
   rw [ha] at h
   cases hl:l.mapM f with
   | none=>rw [hl] at h;simp at h
   | some bs=>
    rw [hl] at h
    simp at h
    subst h
    obtain ⟨b',j,I⟩:=rC a b ha
    obtain ⟨jJ,J,U⟩:=ih bs hl
    exact ⟨b'::jJ,LR.cons j J,by simp [List.mapM_cons,I,U]⟩
theorem results_run {ρ:aT} {n:Nat} {fn:Func} {e:Env} {h:AH} {a:Act} {w:World} {v:Value} (hv:aResults P fn.results.toList e h=some v) (he:eu ρ e n a) (hs:bh ρ w h.ae h.next):
  ∃ v',VR ρ v v'∧(results fn a.tmps).run P w= .ok v' w:=by
 unfold aResults at hv
 cases hm:fn.results.toList.mapM (aResult P e h) with
 | none=>rw [hm] at hv;cases hv
 | some vs=>
  rw [hm] at hv
  have sY:∀ t,a.tmps.getD t undef=(a.tmps[t]?).getD undef:=fun t=>by rw [Array.getD_eq_getD_getElem?]
  obtain ⟨cO,j,I⟩:=DH (P:=P) (ρ:=ρ) (w:=w) (f:=aResult P e h) (g:=fun r=>match r with
   | .tmp t=>pure (a.tmps.getD t undef)
   | .cell x t=>do loadVar t (← asAddr (a.tmps.getD x undef))) (fun r b hb=>by
    cases r with
    | tmp t=>simp only [aResult,Option.some.injEq] at hb;subst hb;exact ⟨_,he.get t,by simp [sY]⟩
    | cell x t=>
     simp only [aResult] at hb
     obtain ⟨b',h1,h2⟩:=tQ (P:=P) hs hb (he.get x)
     refine ⟨b',h1,?_⟩
     have hx:=he.get x
     unfold aLoad at hb
     split at hb
     ·rename_i ad hq
      rw [hq] at hx
      show Sem.run P (asAddr (a.tmps.getD x undef) >>= fun q=>loadVar t q) w=_
      rw [sY]
      generalize (a.tmps[x]?).getD undef=y at hx h2
      cases hx with
      | ptr hh=>simpa [Instr.loadAt,Instr.sureAddr,asAddr] using h2
     ·cases hb) _ _ hm
  have hJ:∀ (k:Array Value→Sem Value),((fn.results.mapM fun
    | .tmp t=>pure (a.tmps.getD t undef)
    | .cell x t=>do loadVar t (← asAddr (a.tmps.getD x undef))) >>= k).run P w=(k cO.toArray).run P w:=by
   intro k
   rw [Array.mapM_eq_mapM_toList]
   simp only [Sem.run_bind,Sem.run_map]
   rw [I]
   simp [Result.andThen]
  have hr:(results fn a.tmps).run P w= .ok (if h:cO.toArray.size=1 then cO.toArray[0] else .tuple cO.toArray) w:=by
   have:=hJ fun vs=>pure (if h:vs.size=1 then vs[0] else .tuple vs)
   exact this
  refine ⟨_,?_,hr⟩
  simp only [Option.map_some,Option.some.injEq] at hv
  subst hv
  match vs,cO,j with
  | [],[],q=>exact .tuple rfl fun i v v' a=>by simp at a
  | [x],[x'],q=>simpa using q.head
  | x::y::l,x'::y'::l',q=>
   have:¬ (x'::y'::l').toArray.size=1:=by simp
   rw [dif_neg this]
   exact .tuple (by simpa using q.1) fun i v v' a b=>q.2 i v v' (by simpa using a) (by simpa using b)
  | [],_::_,q=>exact absurd q.1 (by simp)
  | [_],[],q=>exact absurd q.1 (by simp)
  | [_],_::_::_,q=>exact absurd q.1 (by simp)
  | _::_::_,[],q=>exact absurd q.1 (by simp)
  | _::_::_,[_],q=>exact absurd q.1 (by simp)
theorem xW (hP:mB P) {ov:cy} (m8:Good P ov) (vX:fM ov):∀ (k:Nat),Good P (aCall P ov k):=by
 intro k
 induction k with
 | zero=>intro f args h v h' hh;exact m8 f args h v h' hh
 | succ k ih=>
  intro f args h v h' hh
  simp only [aCall] at hh
  cases ho:ov f args h with
  | some r=>rw [ho] at hh;simp at hh;subst hh;exact m8 f args h v h' ho
  | none=>
  rw [ho] at hh
  simp only at hh
  cases hf:P.funcs[f]? with
  | none=>rw [hf] at hh;cases hh
  | some fn=>
   rw [hf] at hh
   simp only [Option.bind_some] at hh
   cases hb:fn.body with
   | none=>rw [hb] at hh;cases hh
   | some c=>
    rw [hb] at hh
    simp only [Option.bind_some] at hh
    have rI:=hP.func hf
    simp only [funcOk,hb,Bool.and_eq_true,Bool.not_eq_true'] at rI
    refine ⟨⟨fn,c,rfl,hb,rI.1⟩,fun ρ w ff dU hs=>?_⟩
    split at hh
    ·rename_i hlen
     have he:eu ρ (Env.ofArgs 0 args .nil) fn.ntmps {tmps:=ff.toArray++Array.replicate (fn.ntmps - ff.toArray.size) undef,defers:=[]}:=by
      have hl:=dU.1
      refine ⟨by simp;omega,fun t=>?_⟩
      rw [Env.uI,Env.get_nil]
      by_cases ht:t<args.length
      ·rw [if_pos ⟨Nat.zero_le _,by omega⟩,Nat.sub_zero]
       obtain ⟨u,hu⟩:∃ u,args[t]?=some u:=⟨_,List.getElem?_eq_getElem ht⟩
       obtain ⟨u',I,J⟩:=dU.get hu
       rw [List.getD_eq_getElem?_getD,hu]
       have bq:t<ff.toArray.size:=by simpa [← hl] using ht
       rw [Array.getElem?_append_left bq]
       simp only [List.getElem?_toArray,I,Option.getD_some]
       exact J
      ·rw [if_neg (by omega)]
       rw [Array.getElem?_append_right (by simp;omega)]
       simp only [Array.getElem?_replicate]
       split<;>exact VR.undef ρ
     have bd:=vC (P:=P) vX k
     have main:∀ x e1 h1,aCode P (aCall P ov k) k c (Env.ofArgs 0 args .nil) {h with low:=h.next}=some (x,e1,h1)→(x= .normal∨x= .ret)→aResults P fn.results.toList e1 h1=some v→e4 (gI P fn) h v h1=(v,h')→
       Calls P f ff.toArray w fun e w'=>∃ ρ' v',e= .returned v'∧VR ρ' v v'∧bh ρ' w' h'.ae h'.next∧Ext ρ h.ae h.next w ρ' h'.ae h'.next w':=by
      intro x e1 h1 hc hx hv kY
      refine calls_of_wp hf hb (wp_mono (y9 ih bd (Cm hP.1 ih bd) k c _ _ x e1 h1 hc rI.2 ρ _ w he (show bh ρ w h.ae h.next from hs) hs.live) ?_)
      rintro ex a' w' ⟨rfl,ρ1,ab,aa,U,j⟩
      obtain ⟨v',I,J⟩:=results_run (P:=P) hv ab U
      have j:Ext ρ h.ae h.next w ρ1 h1.ae h1.next w':=j
      have hS:=nE bd _ _ _ _ _ _ _ hc
      have fin:∃ ρ' vO,Ending.returned v'= .returned vO∧VR ρ' v vO∧bh ρ' w' h'.ae h'.next∧Ext ρ h.ae h.next w ρ' h'.ae h'.next w':=by
       unfold e4 at kY
       split at kY
       ·rename_i kD
        obtain ⟨_,gQ,c4⟩:=kD
        simp at kY
        subst kY
        have fN:∀ b B,h.ae b=some B→h1.ae b=some B:=fun b B hB=>by
         have fZ:b<h.next:=hs.live b (by rw [hB];exact fun q=>by cases q)
         rw [hS.ae b fZ (Nat.lt_of_lt_of_le fZ gQ)];exact hB
        refine ⟨ρ,v',rfl,VR.narrow j.le (l4 ρ c4) v' I,⟨hs.dV,fun b p q=>Nat.lt_of_lt_of_le (hs.lt b p q) j.size,fun b B p hB hp i u hu=>?_,fun b B p hB hp ho=>U.own b B p (fN b B hB) (j.le b p hp) ho,hs.apart,hs.live⟩,
         ⟨cD.refl _,j.os,j.tape,j.output,j.size,Nat.le_refl _,j.a5,fun _ _ q=>q,fun _ _ q=> .inl q,fun _ _ _=>rfl⟩⟩
        obtain ⟨u',ad,af⟩:=U.cell b B p (fN b B hB) (j.le b p hp) i u hu
        obtain ⟨ah,_,ag⟩:=hs.cell b B p hB hp i u hu
        exact ⟨u',ad,VR.narrow j.le ag u' af⟩
       ·simp at kY
        subst kY
        exact ⟨ρ1,v',rfl,I,U,j⟩
      rcases hx with rfl | rfl
      ·exact ⟨aa,v',J,fin⟩
      ·exact ⟨aa,v',J,fin⟩
     have leave:∀ h1 v1,e4 (gI P fn) h v1 h1=(v,h')→v1=v:=by
      intro h1 v1 hq
      unfold e4 at hq
      split at hq<;>simp at hq<;>exact hq.1
     split at hh
     ·rename_i e1 h1 hc
      cases hv:aResults P fn.results.toList e1 h1 with
      | none=>rw [hv] at hh;cases hh
      | some v1=>
       rw [hv] at hh
       simp only [Option.map_some,Option.some.injEq] at hh
       obtain rfl:=leave h1 v1 hh
       exact main _ e1 h1 hc (.inl rfl) hv hh
     ·rename_i e1 h1 hc
      cases hv:aResults P fn.results.toList e1 h1 with
      | none=>rw [hv] at hh;cases hh
      | some v1=>
       rw [hv] at hh
       simp only [Option.map_some,Option.some.injEq] at hh
       obtain rfl:=leave h1 v1 hh
       exact main _ e1 h1 hc (.inr rfl) hv hh
     ·cases hh
    ·cases hh
end
end Go.Proofs.Ytcilejikekccmaa.Am
namespace Go.Proofs.Ytcilejikekccmaa.Am
open Go
variable [Marks]
def ij (W w':World):Prop:=W.keptBut w' (fun _=>False)∧(∀ a:Addr,a.block<W.heap.size→w'.frozen? a=W.frozen? a)∧W.heap.size≤w'.heap.size
omit [Marks] in
theorem ij.frame {W w':World} (h:ij W w') (may:MemPlace→Prop):W.keptBut w' may:=World.keptBut_mono (fun _ f=>f.elim) h.1
omit [Marks] in
theorem yU {W w':World} (ho:w'.os=W.os) (hu:w'.output=W.output) (hs:W.heap.size≤w'.heap.size) (hk:∀ k,k<W.heap.size→w'.heap[k]?=W.heap[k]?):ij W w':=by
 refine ⟨⟨ho,hu,fun i hi=>?_⟩,fun a ha=>?_,hs⟩
 ·have h1:=(World.keptBut_refl W (fun _=>False)).2.2 i hi
  rw [hk i hi]
  exact h1
 ·unfold World.frozen?
  rw [hk _ ha]
theorem Ext.Bi {ρ ρ':aT} {ae gP:cW} {n n':Nat} {W w':World} (h:Ext ρ ae n W ρ' gP n' w') (eB:∀ b B,ae b=some B→B.own=false):ij W w':=
 yU h.os h.output h.size fun k hk=>h.a5 k hk fun ⟨b,B,p,I,j,J,U⟩=>by rw [eB b B I] at j;cases j
section
open Go.ChangeShapes Go.WideShapes
variable {H:Type} {enc:TypeId×Value→H} {P:Program}
omit [Marks] in
theorem Ad {f:Func} {s:ChangeSpec} {apart fresh handsOn again:Bool} {W W':World} {args:Array Value} {v:Value} {ds gs:List (DataW H)} {before pa pv:List MemPlace}
  (hW:DataW.Whole enc P f.params.toList s.vars apart W args.toList ds gs before)
  (kh:∀ (b:Nat) (sp:Nat→Bool) (hd:Bool),DataW.TrodAll enc P W' b sp hd f.resultTypes.toList (v.resultList f.resultTypes.size) (s.fn H (ds++gs)).results [])
  (dU:∀ sp:Nat→Bool,(∀ p∈before,sp p.block=true)→DataW.TrodAll enc P W' 0 sp true f.params.toList args.toList (s.fn H (ds++gs)).args pa)
  (tJ:∀ sp:Nat→Bool,(∀ p∈before,sp p.block=true)→DataW.TrodVars enc P W' sp s.vars (s.fn H (ds++gs)).vars pv)
  (gT:before=pa++pv) (hg:ij W W')
  (bX:∀ (j:Nat) (t:TypeId) (r:Value),f.resultTypes[j]?=some t→(v.resultList f.resultTypes.size)[j]?=some r→Value.okWide P W' .any 0 t r):
  s.post enc P f apart fresh handsOn again W args v W':=by
 have bq:=fun p hp=>hW.lt p hp
 have hold:∀ p∈before,(fun b=>decide (b<W.heap.size)) p.block=true:=fun p hp=>by simpa using hW.lt p hp
 refine ⟨ds,gs,before,[],pa,pv,hW,kh _ _ _,dU _ hold,tJ _ hold,World.keptBut_mono (fun p hp=>⟨hp,?_⟩) (hg.frame (·∈before)),fun _=>?_⟩
 ·rw [gT,List.mem_append] at hp
  exact Or.inr hp
 ·obtain ⟨_,_,_,_,_,hz,hn⟩:=hW
  refine ⟨bX,_,_,([]++pa)++pv,⟨[]++pa,pv,trodAll_append (dU _ (fun _ _=>rfl)) (kh _ _ _),tJ _ (fun _ _=>rfl),rfl,?_,?_⟩,?_⟩
  ·intro b off hp
   have eM:MemPlace.cell b off∈before:=by rw [gT];simpa using hp
   rw [hg.2.1 _ (bq _ eM)]
   exact hz b off eM
  ·intro ha
   have:=hn ha
   rw [gT] at this
   simpa using this
  ·intro p hp _
   rw [gT]
   simpa using hp
end
section
variable {P:Program}
theorem bh.grow {ρ:aT} {w w':World} {ae:cW} {next:Nat} (h:bh ρ w ae next) (hs:w.heap.size≤w'.heap.size) (hk:∀ k,k<w.heap.size→w'.heap[k]?=w.heap[k]?):bh ρ w' ae next:=
 ⟨h.dV,fun b p q=>Nat.lt_of_lt_of_le (h.lt b p q) hs,fun b B p q r i v hv=>by
  obtain ⟨v',h1,h2⟩:=h.cell b B p q r i v hv
  exact ⟨v',by rw [← h1];exact World.cell?_of_block (hk _ (h.lt b p r)),h2⟩,
  fun b B p q r s=>by rw [hk _ (h.lt b p r)];exact h.own b B p q r s,h.apart,h.live⟩
def xE (P:Program) (f:FuncId) (args:List Value) (v:Value):Prop:=
 (∃ fn c,P.funcs[f]?=some fn∧fn.body=some c∧(fn.name == "runtime.NumGoroutine")=false)∧
 ∀ (ρ:aT) (w:World) (ff:List Value) (ae:cW) (next:Nat),LR ρ args ff→bh ρ w ae next→
  Calls P f ff.toArray w fun e w'=>∃ v',e= .returned v'∧VR ρ v v'∧bh ρ w' ae next∧Ext ρ ae next w ρ ae next w'
theorem ET {ov:cy} (h:∀ f args h v h',ov f args h=some (v,h')→h'=h∧xE P f args v):Good P ov∧fM ov:=by
 refine ⟨fun f args h0 v h' hh=>?_,fun f args h0 v h' hh=>?_⟩
 ·obtain ⟨rfl,h1,h2⟩:=h f args h0 v h' hh
  refine ⟨h1,fun ρ w ff hl hs=>?_⟩
  refine (h2 ρ w ff _ _ hl hs).mono fun e w' hq=>?_
  obtain ⟨v',j,I,J,U⟩:=hq
  exact ⟨ρ,v',j,I,J,U⟩
 ·obtain ⟨rfl,_⟩:=h f args h0 v h' hh
  exact bz.refl _
def iw:cy:=fun _ _ _=>none
theorem s4:Good P iw∧fM iw:=ET fun f args h v h' hh=>by cases hh
def AH.none:AH:=⟨.nil,0,0⟩
theorem AH.k7 (b:Nat):AH.none.ae b=Option.none:=by simp [AH.none,AH.ae,Tr.get]
def ρ0:aT:=fun _=>Option.none
theorem wA (w:World):bh ρ0 w AH.none.ae AH.none.next where
 dV b p q:=by cases q
 lt b p q:=by cases q
 cell b B p q:=by rw [AH.k7] at q;cases q
 own b B p q:=by rw [AH.k7] at q;cases q
 apart b c B C p q h j:=by rw [AH.k7] at j;cases j
 live b q:=absurd (AH.k7 b) q
end
end Go.Proofs.Ytcilejikekccmaa.Am
namespace Go.Proofs.Ytcilejikekccmaa.Am
open Go
def cL:Code→Code
 | .seq a _=>a
 | .cond _ a _=>a
 | c=>c
def cR:Code→Code
 | .seq _ b=>b
 | .cond _ _ b=>b
 | c=>c
def cI:Code→Code
 | .block _ c=>c
 | .loop c=>c
 | .scope c=>c
 | c=>c
def iQ (f:Func):Code:=f.body.getD .skip
section
variable {P:Program} {call:cy} {k:Nat} {c:Code} {e e1:Env} {h h1:AH} {r:fR}
end
end Go.Proofs.Ytcilejikekccmaa.Am
namespace Go.Proofs.Ytcilejikekccmaa.Am
open Go
def er (c1 c2:cy):Prop:=∀ f a h r,c1 f a h=some r→c2 f a h=some r
theorem er.refl (c:cy):er c c:=fun _ _ _ _ h=>h
theorem er.trans {a b c:cy} (h:er a b) (k:er b c):er a c:=fun _ _ _ _ q=>k _ _ _ _ (h _ _ _ _ q)
section
variable {P:Program} {c1 c2:cy}
theorem pF (hc:er c1 c2) {ev:Operand→Value} {op:Op} {h:AH} {r:Value×AH} (hr:aOp P c1 ev op h=some r):aOp P c2 ev op h=some r:=by
 cases op with
 | call c=>
  simp only [aOp] at hr ⊢
  cases k1:c.callee with
  | builtin b=>rw [k1] at hr;exact hr
  | value f=>
   rw [k1] at hr
   simp only at hr ⊢
   split at hr
   ·rename_i g first captured zp
    exact hc _ _ _ _ hr
   ·cases hr
  | invoke a b=>rw [k1] at hr;cases hr
 | makeFunc fn first captured=>cases fn<;>exact hr
 | _=>exact hr
theorem vy (hc:er c1 c2) {ops:Array Oper}:∀ (os:List Oper) {e:Env} {h:AH} {r:Env×AH},aOps P c1 ops os e h=some r→aOps P c2 ops os e h=some r:=by
 intro os
 induction os with
 | nil=>intro e h r hr;exact hr
 | cons o os ih=>
  intro e h r hr
  simp only [aOps] at hr ⊢
  split at hr
  ·rename_i hw
   rw [if_pos hw]
   cases ho:aOp P c1 e.ev o.op h with
   | none=>rw [ho] at hr;cases hr
   | some x=>
    rw [ho] at hr
    rw [pF hc ho]
    exact ih hr
  ·rename_i hw
   rw [if_neg hw]
   exact ih hr
theorem uK (hc:er c1 c2) {ops:List Oper} {base i:Nat} {o:Oper} {s s':gb} (hr:aDrawOp P c1 ops base i o s=some s'):aDrawOp P c2 ops base i o s=some s':=by
 unfold aDrawOp at hr ⊢
 cases iL:cls P o.op with
 | pure=>
  rw [iL] at hr
  simp only at hr ⊢
  cases ho:aOp P c1 s.e.ev o.op s.h with
  | none=>rw [ho] at hr;cases hr
  | some x=>rw [ho] at hr;rw [pF hc ho];exact hr
 | look=>rw [iL] at hr;exact hr
 | fresh=>rw [iL] at hr;exact hr
 | make=>
  rw [iL] at hr
  simp only at hr ⊢
  cases ho:aOp P c1 s.e.ev o.op {s.h with low:=s.h.next} with
  | none=>rw [ho] at hr;cases hr
  | some x=>rw [ho] at hr;rw [pF hc ho];exact hr
theorem sO (hc:er c1 c2) {ops:Array Oper} {base:Nat}:∀ (os:List Oper) {i:Nat} {s s':gb},aDraw P c1 ops base i os s=some s'→aDraw P c2 ops base i os s=some s':=by
 intro os
 induction os with
 | nil=>intro i s s' hr;exact hr
 | cons o os ih=>
  intro i s s' hr
  simp only [aDraw] at hr ⊢
  split at hr
  ·rename_i hw
   rw [if_pos hw]
   cases ho:aDrawOp P c1 ops.toList base i o s with
   | none=>rw [ho] at hr;cases hr
   | some x=>
    rw [ho] at hr
    rw [uK hc ho]
    exact ih hr
  ·rename_i hw
   rw [if_neg hw]
   exact ih hr
theorem wW (hc:er c1 c2) {ops:Array Oper} {e:Env} {h:AH} {r:Env×AH} (hr:fh P c1 ops e h=some r):fh P c2 ops e h=some r:=by
 unfold fh at hr ⊢
 cases ho:aDraw P c1 ops h.next 0 ops.toList ⟨e,{h with next:=h.next+ops.size},[],[]⟩ with
 | none=>rw [ho] at hr;cases hr
 | some x=>rw [ho] at hr;rw [sO hc _ ho];exact hr
theorem pN {j I:Env→AH→fR} (hb:∀ e h r,j e h=some r→I e h=some r):∀ (n m:Nat),n≤m→∀ (e:Env) (h:AH) (r),aLoop j n e h=some r→aLoop I m e h=some r:=by
 intro n
 induction n with
 | zero=>intro m _ e h r hr;cases hr
 | succ n ih=>
  intro m hm e h r hr
  obtain ⟨m,rfl⟩:∃ k,m=k+1:=⟨m - 1,by omega⟩
  simp only [aLoop] at hr ⊢
  cases hx:j e h with
  | none=>rw [hx] at hr;cases hr
  | some x=>
   rw [hx] at hr
   rw [hb _ _ _ hx]
   obtain ⟨x,e',h'⟩:=x
   cases x with
   | normal=>exact ih m (by omega) _ _ _ hr
   | exit i=>exact hr
   | goto l=>exact hr
   | ret=>exact hr
theorem uC {j I:Code→Env→AH→fR} (hb:∀ c e h r,j c e h=some r→I c e h=some r) (c:Code):∀ (n m:Nat),n≤m→∀ (cur:Code) (e:Env) (h:AH) (r),aJump j c n cur e h=some r→aJump I c m cur e h=some r:=by
 intro n
 induction n with
 | zero=>intro m _ cur e h r hr;cases hr
 | succ n ih=>
  intro m hm cur e h r hr
  obtain ⟨m,rfl⟩:∃ k,m=k+1:=⟨m - 1,by omega⟩
  simp only [aJump] at hr ⊢
  cases hx:j cur e h with
  | none=>rw [hx] at hr;cases hr
  | some x=>
   rw [hx] at hr
   rw [hb _ _ _ _ hx]
   obtain ⟨x,e',h'⟩:=x
   cases x with
   | normal=>exact hr
   | exit i=>exact hr
   | goto l=>
    simp only at hr ⊢
    split at hr
    ·exact ih m (by omega) _ _ _ _ hr
    ·exact hr
   | ret=>exact hr
theorem gW (hc:er c1 c2):∀ (n m:Nat),n≤m→∀ (c:Code) (e:Env) (h:AH) (r),aCode P c1 n c e h=some r→aCode P c2 m c e h=some r:=by
 intro n
 induction n with
 | zero=>intro m _ c e h r hr;cases hr
 | succ n ih=>
  intro m hm c e h r hr
  obtain ⟨m,rfl⟩:∃ k,m=k+1:=⟨m - 1,by omega⟩
  have iR:n≤m:=by omega
  cases c with
  | region a ops d=>
   cases d with
   | false=>
    simp only [aCode] at hr ⊢
    cases ho:aOps P c1 ops ops.toList e h with
    | none=>rw [ho] at hr;cases hr
    | some x=>rw [ho] at hr;rw [vy hc _ ho];exact hr
   | true=>
    simp only [aCode] at hr ⊢
    cases ho:fh P c1 ops e h with
    | none=>rw [ho] at hr;cases hr
    | some x=>rw [ho] at hr;rw [wW hc ho];exact hr
  | seq a b=>
   simp only [aCode] at hr ⊢
   cases hx:aCode P c1 n a e h with
   | none=>rw [hx] at hr;cases hr
   | some x=>
    rw [hx] at hr
    rw [ih m iR _ _ _ _ hx]
    obtain ⟨x,e',h'⟩:=x
    cases x with
    | normal=>exact ih m iR _ _ _ _ hr
    | exit i=>exact hr
    | goto l=>exact hr
    | ret=>exact hr
  | cond x a b=>
   simp only [aCode] at hr ⊢
   split at hr
   ·exact ih m iR _ _ _ _ hr
   ·cases hr
  | block id c=>
   simp only [aCode] at hr ⊢
   cases hx:aCode P c1 n c e h with
   | none=>rw [hx] at hr;cases hr
   | some x=>rw [hx] at hr;rw [ih m iR _ _ _ _ hx];exact hr
  | loop c=>
   simp only [aCode] at hr ⊢
   exact pN (fun e h r q=>ih m iR _ _ _ _ q) n m iR _ _ _ hr
  | scope c=>
   simp only [aCode] at hr ⊢
   exact uC (fun cur e h r q=>ih m iR _ _ _ _ q) c n m iR _ _ _ _ hr
  | skip=>exact hr
  | label l=>exact hr
  | exit id=>exact hr
  | goto l=>exact hr
  | ret=>exact hr
  | _=>cases hr
theorem xz (ov:cy):∀ (k:Nat),er (aCall P ov k) (aCall P ov (k+1)):=by
 intro k
 induction k with
 | zero=>intro f a h r hr;simp only [aCall] at hr;rw [aCall,hr]
 | succ k ih=>
  intro f a h r hr
  rw [aCall] at hr ⊢
  cases ho:ov f a h with
  | some x=>rw [ho] at hr;exact hr
  | none=>
   rw [ho] at hr
   simp only at hr ⊢
   cases hf:P.funcs[f]? with
   | none=>rw [hf] at hr;cases hr
   | some fn=>
    rw [hf] at hr
    simp only [Option.bind_some] at hr ⊢
    cases hb:fn.body with
    | none=>rw [hb] at hr;cases hr
    | some c=>
     rw [hb] at hr
     simp only [Option.bind_some] at hr ⊢
     split at hr
     ·rename_i hl
      rw [if_pos hl]
      cases hx:aCode P (aCall P ov k) k c (Env.ofArgs 0 a .nil) {h with low:=h.next} with
      | none=>rw [hx] at hr;cases hr
      | some x=>rw [hx] at hr;rw [gW ih k (k+1) (by omega) _ _ _ _ hx];exact hr
     ·cases hr
theorem qe (ov:cy) {k m:Nat} (h:k≤m):er (aCall P ov k) (aCall P ov m):=by
 induction h with
 | refl=>exact er.refl _
 | step _ ih=>exact ih.trans (xz ov _)
end
open Classical in
noncomputable def bS (P:Program):cy:=fun f a h=>if H:∃ r,∃ k,aCall P iw k f a h=some r then some H.choose else none
section
variable {P:Program}
theorem y5 {k:Nat} {f:FuncId} {a:List Value} {h:AH} {r:Value×AH} (hr:aCall P iw k f a h=some r):bS P f a h=some r:=by
 unfold bS
 have H:∃ r,∃ k,aCall P iw k f a h=some r:=⟨r,k,hr⟩
 rw [dif_pos H]
 obtain ⟨k',jN⟩:=H.choose_spec
 have h1:=qe (P:=P) iw (Nat.le_max_left k k') _ _ _ _ hr
 have h2:=qe (P:=P) iw (Nat.le_max_right k k') _ _ _ _ jN
 rw [h1] at h2
 exact h2.symm
theorem qW {f:FuncId} {a:List Value} {h:AH} {r:Value×AH} (hr:bS P f a h=some r):∃ k,aCall P iw k f a h=some r:=by
 unfold bS at hr
 split at hr
 ·rename_i H
  obtain ⟨k,hk⟩:=H.choose_spec
  simp only [Option.some.injEq] at hr
  rw [hr] at hk
  exact ⟨k,hk⟩
 ·cases hr
abbrev g9 (P:Program) (k:Nat):cy:=aCall P iw k
theorem r9 {ev:Operand→Value} {op:Op} {h:AH} {r:Value×AH} (hr:aOp P (bS P) ev op h=some r):∃ k,aOp P (g9 P k) ev op h=some r:=by
 cases op with
 | call c=>
  simp only [aOp] at hr ⊢
  cases k1:c.callee with
  | builtin b=>rw [k1] at hr;exact ⟨0,hr⟩
  | value f=>
   rw [k1] at hr
   simp only at hr ⊢
   split at hr
   ·rename_i g first captured zp
    exact qW hr
   ·cases hr
  | invoke a b=>rw [k1] at hr;cases hr
 | makeFunc fn first captured=>cases fn<;>exact ⟨0,hr⟩
 | _=>exact ⟨0,hr⟩
theorem iY {k m:Nat} (h:k≤m):er (g9 P k) (g9 P m):=qe _ h
theorem vT {ops:Array Oper}:∀ (os:List Oper) {e:Env} {h:AH} {r:Env×AH},aOps P (bS P) ops os e h=some r→∃ k,aOps P (g9 P k) ops os e h=some r:=by
 intro os
 induction os with
 | nil=>intro e h r hr;exact ⟨0,hr⟩
 | cons o os ih=>
  intro e h r hr
  simp only [aOps] at hr ⊢
  split at hr
  ·rename_i hw
   cases ho:aOp P (bS P) e.ev o.op h with
   | none=>rw [ho] at hr;cases hr
   | some x=>
    rw [ho] at hr
    obtain ⟨I,h1⟩:=r9 ho
    obtain ⟨j,h2⟩:=ih hr
    refine ⟨max I j,?_⟩
    rw [if_pos hw,pF (iY (Nat.le_max_left I j)) h1]
    exact vy (iY (Nat.le_max_right I j)) _ h2
  ·rename_i hw
   obtain ⟨j,h2⟩:=ih hr
   exact ⟨j,by rw [if_neg hw];exact h2⟩
theorem xO {ops:List Oper} {base i:Nat} {o:Oper} {s s':gb} (hr:aDrawOp P (bS P) ops base i o s=some s'):∃ k,aDrawOp P (g9 P k) ops base i o s=some s':=by
 unfold aDrawOp at hr ⊢
 cases iL:cls P o.op with
 | pure=>
  rw [iL] at hr
  simp only at hr ⊢
  cases ho:aOp P (bS P) s.e.ev o.op s.h with
  | none=>rw [ho] at hr;cases hr
  | some x=>
   rw [ho] at hr
   obtain ⟨k,hk⟩:=r9 ho
   exact ⟨k,by rw [hk];exact hr⟩
 | look=>rw [iL] at hr;exact ⟨0,hr⟩
 | fresh=>rw [iL] at hr;exact ⟨0,hr⟩
 | make=>
  rw [iL] at hr
  simp only at hr ⊢
  cases ho:aOp P (bS P) s.e.ev o.op {s.h with low:=s.h.next} with
  | none=>rw [ho] at hr;cases hr
  | some x=>
   rw [ho] at hr
   obtain ⟨k,hk⟩:=r9 ho
   exact ⟨k,by rw [hk];exact hr⟩
theorem CT {ops:Array Oper} {base:Nat}:∀ (os:List Oper) {i:Nat} {s s':gb},aDraw P (bS P) ops base i os s=some s'→∃ k,aDraw P (g9 P k) ops base i os s=some s':=by
 intro os
 induction os with
 | nil=>intro i s s' hr;exact ⟨0,hr⟩
 | cons o os ih=>
  intro i s s' hr
  simp only [aDraw] at hr ⊢
  split at hr
  ·rename_i hw
   cases ho:aDrawOp P (bS P) ops.toList base i o s with
   | none=>rw [ho] at hr;cases hr
   | some x=>
    rw [ho] at hr
    obtain ⟨I,h1⟩:=xO ho
    obtain ⟨j,h2⟩:=ih hr
    refine ⟨max I j,?_⟩
    rw [if_pos hw,uK (iY (Nat.le_max_left I j)) h1]
    exact sO (iY (Nat.le_max_right I j)) _ h2
  ·rename_i hw
   obtain ⟨j,h2⟩:=ih hr
   exact ⟨j,by rw [if_neg hw];exact h2⟩
theorem xZ {ops:Array Oper} {e:Env} {h:AH} {r:Env×AH} (hr:fh P (bS P) ops e h=some r):∃ k,fh P (g9 P k) ops e h=some r:=by
 unfold fh at hr ⊢
 cases ho:aDraw P (bS P) ops h.next 0 ops.toList ⟨e,{h with next:=h.next+ops.size},[],[]⟩ with
 | none=>rw [ho] at hr;cases hr
 | some x=>
  rw [ho] at hr
  obtain ⟨k,hk⟩:=CT _ ho
  exact ⟨k,by rw [hk];exact hr⟩
theorem Dj {b:Nat→Env→AH→fR} {bI:Env→AH→fR} (hm:∀ k m,k≤m→∀ e h r,b k e h=some r→b m e h=some r) (hb:∀ e h r,bI e h=some r→∃ k,b k e h=some r):∀ (n:Nat) (e:Env) (h:AH) (r),aLoop bI n e h=some r→∃ k,aLoop (b k) n e h=some r:=by
 intro n
 induction n with
 | zero=>intro e h r hr;cases hr
 | succ n ih=>
  intro e h r hr
  simp only [aLoop] at hr ⊢
  cases hx:bI e h with
  | none=>rw [hx] at hr;cases hr
  | some x=>
   rw [hx] at hr
   obtain ⟨j,h1⟩:=hb _ _ _ hx
   obtain ⟨x,e',h'⟩:=x
   cases x with
   | normal=>
    obtain ⟨I,h2⟩:=ih _ _ _ hr
    refine ⟨max j I,?_⟩
    rw [hm _ _ (Nat.le_max_left j I) _ _ _ h1]
    exact pN (hm _ _ (Nat.le_max_right j I)) n n (Nat.le_refl _) _ _ _ h2
   | exit i=>exact ⟨j,by rw [h1];exact hr⟩
   | goto l=>exact ⟨j,by rw [h1];exact hr⟩
   | ret=>exact ⟨j,by rw [h1];exact hr⟩
theorem zJ {b:Nat→Code→Env→AH→fR} {bI:Code→Env→AH→fR} (hm:∀ k m,k≤m→∀ c e h r,b k c e h=some r→b m c e h=some r) (hb:∀ c e h r,bI c e h=some r→∃ k,b k c e h=some r) (c:Code):∀ (n:Nat) (cur:Code) (e:Env) (h:AH) (r),aJump bI c n cur e h=some r→∃ k,aJump (b k) c n cur e h=some r:=by
 intro n
 induction n with
 | zero=>intro cur e h r hr;cases hr
 | succ n ih=>
  intro cur e h r hr
  simp only [aJump] at hr ⊢
  cases hx:bI cur e h with
  | none=>rw [hx] at hr;cases hr
  | some x=>
   rw [hx] at hr
   obtain ⟨j,h1⟩:=hb _ _ _ _ hx
   obtain ⟨x,e',h'⟩:=x
   cases x with
   | normal=>exact ⟨j,by rw [h1];exact hr⟩
   | exit i=>exact ⟨j,by rw [h1];exact hr⟩
   | goto l=>
    simp only at hr
    cases hl:findLabel c l with
    | none=>rw [hl] at hr;exact ⟨j,by rw [h1];simp only [hl];exact hr⟩
    | some rest=>
     rw [hl] at hr
     obtain ⟨I,h2⟩:=ih _ _ _ _ hr
     refine ⟨max j I,?_⟩
     rw [hm _ _ (Nat.le_max_left j I) _ _ _ _ h1]
     simp only [hl]
     exact uC (hm _ _ (Nat.le_max_right j I)) c n n (Nat.le_refl _) _ _ _ _ h2
   | ret=>exact ⟨j,by rw [h1];exact hr⟩
theorem BV:∀ (n:Nat) (c:Code) (e:Env) (h:AH) (r),aCode P (bS P) n c e h=some r→∃ k,aCode P (g9 P k) n c e h=some r:=by
 intro n
 induction n with
 | zero=>intro c e h r hr;cases hr
 | succ n ih=>
  intro c e h r hr
  cases c with
  | region a ops d=>
   cases d with
   | false=>
    simp only [aCode] at hr ⊢
    cases ho:aOps P (bS P) ops ops.toList e h with
    | none=>rw [ho] at hr;cases hr
    | some x=>
     rw [ho] at hr
     obtain ⟨k,hk⟩:=vT _ ho
     exact ⟨k,by rw [hk];exact hr⟩
   | true=>
    simp only [aCode] at hr ⊢
    cases ho:fh P (bS P) ops e h with
    | none=>rw [ho] at hr;cases hr
    | some x=>
     rw [ho] at hr
     obtain ⟨k,hk⟩:=xZ ho
     exact ⟨k,by rw [hk];exact hr⟩
  | seq a b=>
   simp only [aCode] at hr ⊢
   cases hx:aCode P (bS P) n a e h with
   | none=>rw [hx] at hr;cases hr
   | some x=>
    rw [hx] at hr
    obtain ⟨j,h1⟩:=ih _ _ _ _ hx
    obtain ⟨x,e',h'⟩:=x
    cases x with
    | normal=>
     obtain ⟨I,h2⟩:=ih _ _ _ _ hr
     refine ⟨max j I,?_⟩
     rw [gW (iY (Nat.le_max_left j I)) n n (Nat.le_refl _) _ _ _ _ h1]
     exact gW (iY (Nat.le_max_right j I)) n n (Nat.le_refl _) _ _ _ _ h2
    | exit i=>exact ⟨j,by rw [h1];exact hr⟩
    | goto l=>exact ⟨j,by rw [h1];exact hr⟩
    | ret=>exact ⟨j,by rw [h1];exact hr⟩
  | cond x a b=>
   simp only [aCode] at hr ⊢
   split at hr
   ·exact ih _ _ _ _ hr
   ·cases hr
  | block id c=>
   simp only [aCode] at hr ⊢
   cases hx:aCode P (bS P) n c e h with
   | none=>rw [hx] at hr;cases hr
   | some x=>
    rw [hx] at hr
    obtain ⟨j,h1⟩:=ih _ _ _ _ hx
    exact ⟨j,by rw [h1];exact hr⟩
  | loop c=>
   simp only [aCode] at hr ⊢
   exact Dj (b:=fun k=>aCode P (g9 P k) n c) (fun k m hk e h r q=>gW (iY hk) n n (Nat.le_refl _) _ _ _ _ q) (fun e h r q=>ih _ _ _ _ q) n _ _ _ hr
  | scope c=>
   simp only [aCode] at hr ⊢
   exact zJ (b:=fun k=>aCode P (g9 P k) n) (fun k m hk c e h r q=>gW (iY hk) n n (Nat.le_refl _) _ _ _ _ q) (fun c e h r q=>ih _ _ _ _ q) c n _ _ _ _ hr
  | skip=>exact ⟨0,hr⟩
  | label l=>exact ⟨0,hr⟩
  | exit id=>exact ⟨0,hr⟩
  | goto l=>exact ⟨0,hr⟩
  | ret=>exact ⟨0,hr⟩
  | _=>cases hr
end
end Go.Proofs.Ytcilejikekccmaa.Am
