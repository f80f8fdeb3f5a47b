/- Packed by a program of this session (mini.py). -/
import Derived.Calls
import Derived.Orders
import Derived.Scope
import Derived.ScopeJumps
import Derived.Laws.Append
import Derived.Laws.Cells
import Derived.Laws.Rows
import Derived.Laws.AppendOwn
import Derived.Laws.BytesString
import Derived.Laws.MakeOwn
import Derived.Lib.ConvBytes
import Derived.LoopN
import Derived.Still
import Derived.ChangeSame
import Derived.RowKit3
set_option linter.unusedVariables false
set_option linter.unusedSectionVars false
set_option linter.unusedSimpArgs false
namespace Go.Proofs.Ytcilejikekccmaa.Am
open Go
inductive Tr (α:Type) where
 | nil
 | node (l:Tr α) (v:Option α) (r:Tr α)
namespace Tr
variable {α:Type}
def get:Tr α→Nat→Option α
 | .nil,_=>none
 | .node l v r,n=>if n=0 then v else if n % 2=1 then l.get (n / 2) else r.get (n / 2 - 1)
def setF:Nat→Tr α→Nat→Option α→Tr α
 | 0,t,_,_=>t
 | f+1, .nil,n,x=>if n=0 then .node .nil x .nil else if n % 2=1 then .node (setF f .nil (n / 2) x) none .nil else .node .nil none (setF f .nil (n / 2 - 1) x)
 | f+1, .node l v r,n,x=>if n=0 then .node l x r else if n % 2=1 then .node (setF f l (n / 2) x) v r else .node l v (setF f r (n / 2 - 1) x)
def set (t:Tr α) (n:Nat) (x:Option α):Tr α:=setF (n+1) t n x
theorem AP (f:Nat):∀ (t:Tr α) (n m:Nat) (x:Option α),n<f→(setF f t n x).get m=if m=n then x else t.get m:=by
 induction f with
 | zero=>intro t n m x h;omega
 | succ f ih=>
  intro t n m x h
  cases t with
  | nil=>
   simp only [setF]
   by_cases hn:n=0
   ·subst hn
    simp only [if_true,get]
    by_cases hm:m=0<;>simp [hm]
   ·rw [if_neg hn]
    by_cases ho:n % 2=1
    ·rw [if_pos ho]
     simp only [get]
     by_cases hm:m=0
     ·subst hm;simp [Ne.symm hn]
     ·rw [if_neg hm]
      by_cases ff:m % 2=1
      ·rw [if_pos ff,ih _ _ _ _ (by omega)]
       simp only [get]
       by_cases e:m=n
       ·simp [e]
       ·rw [if_neg e,if_neg (by omega)]
      ·rw [if_neg ff,if_neg (by omega)]
    ·rw [if_neg ho]
     simp only [get]
     by_cases hm:m=0
     ·subst hm;simp [Ne.symm hn]
     ·rw [if_neg hm]
      by_cases ff:m % 2=1
      ·rw [if_pos ff,if_neg (by omega)]
      ·rw [if_neg ff,ih _ _ _ _ (by omega)]
       simp only [get]
       by_cases e:m=n
       ·simp [e]
       ·rw [if_neg e,if_neg (by omega)]
  | node l v r=>
   simp only [setF]
   by_cases hn:n=0
   ·subst hn
    simp only [if_true,get]
    by_cases hm:m=0<;>simp [hm]
   ·rw [if_neg hn]
    by_cases ho:n % 2=1
    ·rw [if_pos ho]
     simp only [get]
     by_cases hm:m=0
     ·subst hm;simp [Ne.symm hn]
     ·rw [if_neg hm,if_neg hm]
      by_cases ff:m % 2=1
      ·rw [if_pos ff,if_pos ff,ih _ _ _ _ (by omega)]
       by_cases e:m=n
       ·simp [e]
       ·rw [if_neg e,if_neg (by omega)]
      ·rw [if_neg ff,if_neg ff,if_neg (by omega)]
    ·rw [if_neg ho]
     simp only [get]
     by_cases hm:m=0
     ·subst hm;simp [Ne.symm hn]
     ·rw [if_neg hm,if_neg hm]
      by_cases ff:m % 2=1
      ·rw [if_pos ff,if_pos ff,if_neg (by omega)]
      ·rw [if_neg ff,if_neg ff,ih _ _ _ _ (by omega)]
       by_cases e:m=n
       ·simp [e]
       ·rw [if_neg e,if_neg (by omega)]
theorem eG (t:Tr α) (n m:Nat) (x:Option α):(t.set n x).get m=if m=n then x else t.get m:=AP _ t n m x (by omega)
end Tr
abbrev Env:=Tr Value
def Env.get (e:Env) (t:Nat):Value:=(Tr.get e t).getD undef
def Env.set (e:Env) (t:Nat) (v:Value):Env:=Tr.set e t (some v)
theorem Env.eG (e:Env) (t u:Nat) (v:Value):(Env.set e t v).get u=if u=t then v else e.get u:=by
 unfold Env.get Env.set
 rw [Tr.eG]
 split<;>rfl
theorem Env.get_nil (t:Nat):Env.get (.nil:Env) t=undef:=rfl
def Env.put (e:Env) (d:Option Nat) (v:Value):Env:=match d with | some t=>Env.set e t v | none=>e
def Env.ofArgs:Nat→List Value→Env→Env
 | _,[],e=>e
 | i,v::vs,e=>Env.ofArgs (i+1) vs (Env.set e i v)
def Env.ev (e:Env):Operand→Value
 | .tmp t=>e.get t
 | .const v=>v
 | .global _=>undef
 | .func f=> .func (.func f) #[] #[]
theorem Env.tG (vs:List Value):∀ (i:Nat) (e:Env) (t:Nat),(Env.ofArgs i vs e).get t=if i≤t∧t<i+vs.length then vs.getD (t - i) undef else e.get t:=by
 induction vs with
 | nil=>intro i e t;simp [Env.ofArgs];intro h1 h2;omega
 | cons v vs ih=>
  intro i e t
  simp only [Env.ofArgs,ih,List.length_cons,Env.eG]
  by_cases h1:i+1≤t∧t<i+1+vs.length
  ·rw [if_pos h1,if_pos (by omega)]
   have:t - i=(t - (i+1))+1:=by omega
   rw [this,List.getD_cons_succ]
  ·rw [if_neg h1]
   by_cases h2:t=i
   ·subst h2;simp
   ·rw [if_neg h2,if_neg (by omega)]
structure dt where
 cells:List Value
 own:Bool
 dh:Nat
structure AH where
 t:Tr dt
 next:Nat
 low:Nat
namespace AH
def ae (h:AH) (b:Nat):Option dt:=h.t.get b
def alloc (h:AH) (cs:List Value) (dh:Nat):AH:=⟨h.t.set h.next (some ⟨cs,true,dh⟩),h.next+1,h.low⟩
def put (h:AH) (b:Nat) (x:Option dt):AH:=⟨h.t.set b x,h.next,if b<h.low then b else h.low⟩
theorem eL (h:AH) (cs:List Value) (dh b:Nat):(h.alloc cs dh).ae b=if b=h.next then some ⟨cs,true,dh⟩ else h.ae b:=Tr.eG _ _ _ _
theorem gE (h:AH) (c b:Nat) (x:Option dt):(h.put c x).ae b=if b=c then x else h.ae b:=Tr.eG _ _ _ _
theorem pI (h:AH) (cs:List Value) (dh:Nat):(h.alloc cs dh).next=h.next+1:=rfl
theorem mB (h:AH) (b:Nat) (x:Option dt):(h.put b x).next=h.next:=rfl
theorem Di (h:AH) (cs:List Value) (dh:Nat):(h.alloc cs dh).low=h.low:=rfl
theorem l8 (h:AH) (b:Nat) (x:Option dt):(h.put b x).low=if b<h.low then b else h.low:=rfl
def load (h:AH) (a:Addr):Option Value:=
 match a.spot with
 | none=>(h.ae a.block).bind fun B=>B.cells[a.off]?
 | some _=>none
def cq (h:AH) (a:Addr) (n:Nat):Option (List Value):=
 match a.spot with
 | none=>(h.ae a.block).bind fun B=>if a.off+n≤B.cells.length then some ((B.cells.drop a.off).take n) else none
 | some _=>none
def store (h:AH) (a:Addr) (vs:List Value):Option AH:=
 match a.spot with
 | none=>(h.ae a.block).bind fun B=>
  if B.own=true∧a.off+vs.length≤B.cells.length∧vs.all Value.oneCell'=true then
   some (h.put a.block (some ⟨B.cells.take a.off++vs++B.cells.drop (a.off+vs.length),true,B.dh⟩))
  else none
 | some _=>none
end AH
def oneClean:Value→Bool
 | .bool _ | .int .. | .string _ | .pointer none | .nilFunc | .nilIface=>true
 | .slice none n c=>decide (n≤c)
 | _=>false
def clean1:Value→Bool
 | .agg cs=>cs.toList.all oneClean
 | v=>oneClean v
def clean:Value→Bool
 | .tuple cs=>cs.toList.all clean1
 | .iface _ v=>clean1 v
 | .func (.func _) first captured=>first.toList.isEmpty && captured.toList.isEmpty
 | v=>clean1 v
def bS (P:Program) (t:TypeId):Option Nat:=(P.info? t).map (·.size)
def je (P:Program) (t:TypeId):Option Nat:=(P.info? t).map (·.bytes)
def dR (P:Program) (t:TypeId):Option Value:=(P.info? t).bind (·.zero)
def lf:TypeDesc→Bool
 | .struct _ | .array _ _=>true
 | _=>false
def gf (P:Program) (t:TypeId) (cs:Array Value) (off:Nat):Option Value:=
 (P.underlying t).bind fun d=>if lf d then (bS P t).map fun s=> .agg (cs.extract off (off+s)) else cs[off]?
def aEqFields (P:Program) (eq:TypeId→Value→Value→Option Bool):List Field→Array Value→Array Value→Option Bool
 | [],_,_=>some true
 | f::fs,xs,ys=>
  if f.name≠ "_" then
   match gf P f.type xs f.offset,gf P f.type ys f.offset with
   | some a,some b=>match eq f.type a b with
    | some true=>aEqFields P eq fs xs ys
    | some false=>some false
    | none=>none
   | _,_=>none
  else aEqFields P eq fs xs ys
def aEq (P:Program):Nat→TypeId→Value→Value→Option Bool
 | 0,_,_,_=>none
 | d+1,t,x,y=>
  match P.underlying t,x,y with
  | some .bool, .bool a, .bool b=>some (a == b)
  | some (.int _), .int k a, .int k' b=>if k=k' then some (a == b) else none
  | some .string, .string a, .string b=>some (a == b)
  | some (.pointer _), .pointer none, .pointer b=>some b.isNone
  | some (.pointer _), .pointer (some _), .pointer none=>some false
  | some (.interface _), .nilIface, .iface _ _=>some false
  | some (.interface _), .iface _ _, .nilIface=>some false
  | some (.struct fields), .agg xs, .agg ys=>if P.stoodInHeld t=false then aEqFields P (aEq P d) fields.toList xs ys else none
  | some (.slice _), .slice none _ _, .slice b _ _=>some b.isNone
  | some (.slice _), .slice (some _) _ _, .slice none _ _=>some false
  | some (.func _ _ _), .nilFunc, .nilFunc=>some true
  | some (.func _ _ _), .nilFunc, .func _ _ _=>some false
  | some (.func _ _ _), .func _ _ _, .nilFunc=>some false
  | _,_,_=>none
def oy:Nat:=20
def aEqTop (P:Program) (t:TypeId) (x y:Value):Option Bool:=
 match x,y with
 | .nilIface, .nilIface=>none
 | .agg _, .agg _=>if P.eqGuardType P.depth t=false then aEq P oy t x y else none
 | _,_=>aEq P oy t x y
def aInt (op:BinOp) (k:IntKind) (a b:Int):Option Value:=
 match op with
 | .add=>some (.int k (k.wrap (a+b)))
 | .sub=>some (.int k (k.wrap (a - b)))
 | .mul=>some (.int k (k.wrap (a * b)))
 | .quo=>if b=0 then none else some (.int k (k.wrap (a.tdiv b)))
 | .rem=>if b=0 then none else some (.int k (a.tmod b))
 | .and=>some (.int k (k.wrap (BitVec.ofInt k.bits a &&& BitVec.ofInt k.bits b).toNat))
 | .or=>some (.int k (k.wrap (BitVec.ofInt k.bits a ||| BitVec.ofInt k.bits b).toNat))
 | .eql=>some (.bool (a == b))
 | .neq=>some (.bool (a != b))
 | .lss=>some (.bool (decide (a<b)))
 | .leq=>some (.bool (decide (a≤b)))
 | .gtr=>some (.bool (decide (a>b)))
 | .geq=>some (.bool (decide (a≥b)))
 | _=>none
def aStr (op:BinOp) (x y:ByteArray):Option Value:=
 match op with
 | .add=>if ((x.size+y.size:Nat):Int)>IntKind.i64.max then none else some (.string (x++y))
 | .eql=>some (.bool (x.toList == y.toList))
 | .neq=>some (.bool !(x.toList == y.toList))
 | _=>none
def aBin (P:Program) (op:BinOp) (t:TypeId) (x y:Value):Option Value:=
 match x,y with
 | .int k a, .int k' b=>
  match op with
  | .shl=>if b<0 then none else some (.int k (k.wrap (a * 2 ^ (min b.toNat k.bits))))
  | .shr=>if b<0 then none else some (.int k (a.fdiv (2 ^ (min b.toNat k.bits))))
  | _=>if k=k' then aInt op k a b else none
 | .string a, .string b=>aStr op a b
 | x,y=>
  match op with
  | .eql=>(aEqTop P t x y).map .bool
  | .neq=>(aEqTop P t x y).map fun b=> .bool !b
  | _=>none
def aUn (op:UnOp) (x:Value):Option Value:=
 match op,x with
 | .neg, .int k n=>some (.int k (k.wrap (0 - n)))
 | .not, .bool b=>some (.bool !b)
 | _,_=>none
def aField (P:Program) (s:TypeId) (f:Nat) (x:Value):Option Value:=
 match P.underlying s,x with
 | some (.struct fields), .pointer (some a)=>(fields[f]?).bind fun fd=>(bS P fd.type).bind fun z=>if z=0∨a.spot≠none then none else some (.pointer (some (a.add fd.offset)))
 | _,_=>none
def aIndexAddr (P:Program) (t:TypeId) (x ix:Value):Option Value:=
 match P.underlying t,x,ix with
 | some (.slice e), .slice (some a) n _, .int _ i=>(bS P e).bind fun s=>if 0≤i∧i<n∧a.spot=none then some (.pointer (some (a.add (i.toNat * s)))) else none
 | some (.array n e), .pointer (some a), .int _ i=>(bS P e).bind fun s=>if 0≤i∧i<n∧a.spot=none then some (.pointer (some (a.add (i.toNat * s)))) else none
 | _,_,_=>none
def aIndex (P:Program) (t:TypeId) (x ix:Value):Option Value:=
 match P.underlying t,x,ix with
 | some .string, .string s, .int _ i=>if 0≤i then (s[i.toNat]?).map fun b=> .int .u8 b.toNat else none
 | some (.array n e), .agg cs, .int _ i=>(bS P e).bind fun s=>if 0≤i∧i<n then gf P e cs (i.toNat * s) else none
 | _,_,_=>none
def aFieldV (P:Program) (t:TypeId) (f:Nat) (x:Value):Option Value:=
 match P.underlying t,x with
 | some (.struct fields), .agg cs=>(fields[f]?).bind fun fd=>gf P fd.type cs fd.offset
 | _,_=>none
def aBnd (y:Nat):Value→Option Nat
 | .int _ i=>if 0≤i∧i≤y then some i.toNat else none
 | _=>none
def aLow (h:Nat) (m:Option Nat):Option Value→Option (Nat×Nat×Option Nat)
 | none=>some (0,h,m)
 | some l=>(aBnd h l).map fun l=>(l,h,m)
def aBounds (n:Nat) (lo hi mx:Option Value):Option (Nat×Nat×Option Nat):=
 match mx,hi with
 | none,none=>aLow n none lo
 | none,some h=>(aBnd n h).bind fun h=>aLow h none lo
 | some _,none=>none
 | some m,some h=>(aBnd n m).bind fun m=>(aBnd m h).bind fun h=>aLow h (some m) lo
def aSlice (P:Program) (t:TypeId) (x:Value) (lo hi mx:Option Value):Option Value:=
 match P.underlying t,x with
 | some .string, .string s=>if mx.isSome then none else (aBounds s.size lo hi none).map fun b=> .string (s.extract b.1 b.2.1)
 | some (.slice e), .slice a n c=>(bS P e).bind fun s=>(aBounds n lo hi mx).bind fun b=>
   let len:=b.2.1 - b.1
   let cap:=match b.2.2 with
    | some m=>if m=b.2.1 then len else len+2
    | none=>if c=n∧b.2.1=n then len else len+2
   match a with
   | none=>some (.slice none len cap)
   | some ad=>if ad.spot=none then some (.slice (some (ad.add (b.1 * s))) len cap) else none
 | _,_=>none
def aBuild (P:Program) (t:TypeId) (parts:List (Nat×Value)):Option Value:=
 (dR P t).bind fun z=>if clean z then
  match P.underlying t with
  | some (.struct fields)=>(fields.toList.mapM fun f=>(bS P f.type).map fun s=>(f.offset,s)).bind fun oQ=>(Instr.fill (fun i=>oQ[i]?) z.cells parts).map .agg
  | some (.array _ e)=>(bS P e).bind fun s=>(Instr.fill (fun i=>some (i * s,s)) z.cells parts).map .agg
  | _=>none
 else none
def aAssert (P:Program) (x:Value) (asserted:TypeId) (ok:Bool):Option Value:=
 match P.underlying asserted,x with
 | some (.interface _),_=>none
 | some _, .nilIface=>if ok then (dR P asserted).bind fun z=>if clean z then some (.tuple #[z, .bool false]) else none else none
 | some _, .iface t v=>
  if t=asserted then some (if ok then .tuple #[v, .bool true] else v)
  else if ok then (dR P asserted).bind fun z=>if clean z then some (.tuple #[z, .bool false]) else none else none
 | _,_=>none
def aLen (P:Program) (t:TypeId) (x:Value):Option Value:=
 match P.underlying t,x with
 | some .string, .string s=>some (.int .i64 s.size)
 | some (.slice _), .slice _ n _=>some (.int .i64 n)
 | some (.array n _),_=>some (.int .i64 n)
 | _,_=>none
def aMax:Value→List Value→Option Value
 | .int k x,[]=>some (.int k x)
 | .int k x, .int k' y::vs=>if k=k' then aMax (.int k (if y>x then y else x)) vs else none
 | _,_=>none
def jv:Value→List Value→Option Value
 | .int k x,[]=>some (.int k x)
 | .int k x, .int k' y::vs=>if k=k' then jv (.int k (if y<x then y else x)) vs else none
 | _,_=>none
end Go.Proofs.Ytcilejikekccmaa.Am
namespace Go.Proofs.Ytcilejikekccmaa.Am
open Go
abbrev gH:=(Nat→Value)×List Value×Nat
def AH.fresh (h:AH) (f:gH):Value×AH:=(f.1 h.next,h.alloc f.2.1 f.2.2)
def nq (P:Program) (e:TypeId):Option gH:=
 (dR P e).bind fun z=>if clean z then some (fun id=> .pointer (some ⟨id,0,none⟩),z.cells.toList,0) else none
def ni (v:Value):Option gH:=some (fun id=> .pointer (some ⟨id,0,none⟩),v.cells.toList,0)
def aBuildSlice (P:Program) (t:TypeId) (len:Nat) (parts:List (Nat×Value)):Option gH:=
 match P.underlying t with
 | some (.slice e)=>(bS P e).bind fun s=>(dR P e).bind fun z=>
  if clean z=true∧len * s≤2 ^ 24∧0<s then
   (Instr.fill (fun i=>some (i * s,s)) ((Array.range (len * s)).map fun i=>z.cells[i % z.cells.size]!) parts).map fun cells=>
    (fun id=> .slice (some ⟨id,0,none⟩) len len,cells.toList,s)
  else none
 | _=>none
def aMakeSlice (P:Program) (t:TypeId) (l c:Value):Option gH:=
 match P.underlying t,l,c with
 | some (.slice e), .int _ n, .int _ m=>(bS P e).bind fun s=>(je P e).bind fun b4=>(dR P e).bind fun z=>
  if clean z=true∧0<s∧0≤n∧n=m∧b4 * n≤2 ^ 48∧n≤4611686018427387904 then
   some (fun id=> .slice (some ⟨id,0,none⟩) n.toNat n.toNat,((Array.range (n.toNat * s)).map fun i=>z.cells[i % z.cells.size]!).toList,s)
  else none
 | _,_,_=>none
def aFresh (P:Program) (ev:Operand→Value):Op→Option gH
 | .alloc e=>nq P e
 | .box _ x=>ni (ev x)
 | .buildSlice t n ps=>aBuildSlice P t n (ps.toList.map fun p=>(p.1,ev p.2))
 | .makeSlice t l c=>aMakeSlice P t (ev l) (ev c)
 | _=>none
def wh:Op→Bool
 | .alloc _ | .box .. | .buildSlice .. | .makeSlice .. =>true
 | _=>false
def aLoad (P:Program) (t:TypeId) (x:Value) (h:AH):Option Value:=
 match x with
 | .pointer (some a)=>(P.underlying t).bind fun d=>
  if lf d then (bS P t).bind fun s=>(h.cq a s).map fun cs=> .agg cs.toArray else h.load a
 | _=>none
def iV (P:Program) (t:TypeId) (x v:Value) (h:AH):Option AH:=
 match x with
 | .pointer (some a)=>(bS P t).bind fun s=>if v.cells.size=s then h.store a v.cells.toList else none
 | _=>none
def eO (b:UInt8):Value:= .int .u8 b.toNat
def bytesOf:List Value→Option (List UInt8)
 | []=>some []
 | .int .u8 n::vs=>(bytesOf vs).map (UInt8.ofNat n.toNat::·)
 | _::_=>none
def aConvert (P:Program) (src dst:TypeId) (x:Value) (h:AH):Option (Value×AH):=
 match P.underlying src,P.underlying dst,x with
 | some _,some (.int k), .int _ n=>some (.int k (k.wrap n),h)
 | some _,some .string, .string s=>some (.string s,h)
 | some .string,some (.slice e), .string s=>
  match P.underlying e with
  | some (.int .u8)=>some (.slice (some ⟨h.next,0,none⟩) s.size (s.size+2),h.alloc (s.data.toList.map eO) 1)
  | _=>none
 | some (.slice _),some (.slice e), .slice (some a) n c=>
  match P.underlying e with
  | some (.int .u8)=>if src=dst∧0<n∧((h.ae a.block).map (·.own))=some true then some (x,h) else none
  | _=>none
 | some (.slice e),some .string, .slice none _ _=>
  match P.underlying e with
  | some (.int .u8)=>some (.string .empty,h)
  | _=>none
 | some (.slice e),some .string, .slice (some a) n _=>
  match P.underlying e with
  | some (.int .u8)=>if n=0 then some (.string .empty,h) else (h.cq a n).bind fun cs=>(bytesOf cs).map fun bs=>(.string ⟨bs.toArray⟩,h)
  | _=>none
 | _,_,_=>none
def aNews (s:Nat) (x:Value) (h:AH):Option (Nat×List Value):=
 match x with
 | .slice none n _=>if n=0 then some (0,[]) else none
 | .slice (some a) n _=>(h.cq a (n * s)).map fun cs=>(n,cs)
 | .string b=>if s=1 then some (b.size,b.data.toList.map eO) else none
 | _=>none
def appKind:TypeDesc→Bool
 | .slice _ | .string=>true
 | _=>false
def aAppend (P:Program) (t tx:TypeId) (sv x:Value) (h:AH):Option (Value×AH):=
 match P.underlying t,P.underlying tx,sv with
 | some (.slice e),some dx, .slice base n c=>
  if appKind dx=true then
  (bS P e).bind fun s=>(je P e).bind fun b4=>(dR P e).bind fun z=>(aNews s x h).bind fun mx=>
  if clean z=true∧0<s∧z.cells.size=s∧(n+mx.1) * b4≤140737488355328∧n+mx.1≤4611686018427387904∧mx.2.all Value.oneCell'=true then
   if mx.1=0 then some (sv,h) else
   match base with
   | none=>if n=0∧c=0 then some (.slice (some ⟨h.next,0,none⟩) mx.1 (mx.1+1),h.alloc mx.2 s) else none
   | some a=>
    if c=n then (h.cq a (n * s)).bind fun cH=>some (.slice (some ⟨h.next,0,none⟩) (n+mx.1) (n+mx.1+1),h.alloc (cH++mx.2) s)
    else if c=n+1∧a.spot=none then (h.ae a.block).bind fun B=>
     if B.own=true∧B.dh=s∧a.off+n * s=B.cells.length then
      some (.slice (some ⟨h.next,0,none⟩) (n+mx.1) (n+mx.1+1),(h.put a.block none).alloc (B.cells.drop a.off++mx.2) s)
     else none
    else none
  else none
  else none
 | _,_,_=>none
def aCopy (P:Program) (t:TypeId) (d s:Value) (h:AH):Option (Value×AH):=
 match P.underlying t,d,s with
 | some (.slice e), .slice db n _, .slice sb m _=>(bS P e).bind fun z=>
  if Nat.min m n=0 then some (.int .i64 0,h) else
  match db,sb with
  | some a,some b=>(h.cq b (Nat.min m n * z)).bind fun cs=>(h.store a cs).map fun h'=>(.int .i64 (Nat.min m n),h')
  | _,_=>none
 | _,_,_=>none
abbrev cw:=FuncId→List Value→AH→Option (Value×AH)
def aBuiltin (P:Program) (b:Builtin) (ts:List TypeId) (args:List Value) (h:AH):Option (Value×AH):=
 match b,ts,args with
 | .append,[t,tx],[s,x]=>aAppend P t tx s x h
 | .copy,[t,_],[d,s]=>aCopy P t d s h
 | .len,t::_,x::_=>(aLen P t x).map (·,h)
 | .max,_,x::vs=>(aMax x vs).map (·,h)
 | .min,_,x::vs=>(jv x vs).map (·,h)
 | _,_,_=>none
def aOp (P:Program) (call:cw) (ev:Operand→Value) (op:Op) (h:AH):Option (Value×AH):=
 match op with
 | .move x | .assign x=>some (ev x,h)
 | .pick c a b=>match ev c with | .bool t=>some (if t then ev a else ev b,h) | _=>none
 | .alloc e=>(nq P e).map h.fresh
 | .box _ x=>(ni (ev x)).map h.fresh
 | .build t ps=>(aBuild P t (ps.toList.map fun p=>(p.1,ev p.2))).map (·,h)
 | .buildSlice t n ps=>(aBuildSlice P t n (ps.toList.map fun p=>(p.1,ev p.2))).map h.fresh
 | .load t a=>(aLoad P t (ev a) h).map (·,h)
 | .store t a x=>(iV P t (ev a) (ev x) h).map (undef,·)
 | .nilCheck x=>match ev x with
  | .pointer (some a)=>some (.pointer (some a),h)
  | .func (.func f) fi ca=>some (.func (.func f) fi ca,h)
  | _=>none
 | .binOp o t x y _=>(aBin P o t (ev x) (ev y)).map (·,h)
 | .unOp o _ x=>(aUn o (ev x)).map (·,h)
 | .convert s d x=>aConvert P s d (ev x) h
 | .makeInterface t x=>match P.underlying t with | some (.interface _)=>none | some _=>some (.iface t (ev x),h) | none=>none
 | .makeFunc (.func f) first captured=>some (.func (.func f) (first.map ev) (captured.map ev),h)
 | .makeSlice t l c=>(aMakeSlice P t (ev l) (ev c)).map h.fresh
 | .slice t x lo hi mx=>(aSlice P t (ev x) (lo.map ev) (hi.map ev) (mx.map ev)).map (·,h)
 | .fieldAddr s x f=>(aField P s f (ev x)).map (·,h)
 | .field t x f=>(aFieldV P t f (ev x)).map (·,h)
 | .indexAddr t x i=>(aIndexAddr P t (ev x) (ev i)).map (·,h)
 | .index t x i=>(aIndex P t (ev x) (ev i)).map (·,h)
 | .typeAssert x _ t ok=>(aAssert P (ev x) t ok).map (·,h)
 | .extract x i=>match ev x with | .tuple vs=>(vs[i]?).map (·,h) | _=>none
 | .call c=>match c.callee with
  | .builtin b=>aBuiltin P b c.argTypes.toList (c.args.toList.map ev) h
  | .value f=>match ev f with
   | .func (.func g) first captured=>call g (first.toList++c.args.toList.map ev++captured.toList) h
   | _=>none
  | .invoke _ _=>none
 | _=>none
def aYield (ops:Array Oper) (e:Env) (j:Nat):Option Bool:=
 match (ops[j]?).bind (·.dst) with
 | some d=>match e.get d with | .bool b=>some b | _=>none
 | none=>none
def b3 (ops:Array Oper) (e:Env) (o:Oper):Bool:=
 match o.guard with
 | none=>true
 | some (j,want)=>aYield ops e j == some want
def aOps (P:Program) (call:cw) (ops:Array Oper):List Oper→Env→AH→Option (Env×AH)
 | [],e,h=>some (e,h)
 | o::os,e,h=>
  if b3 ops e o then (aOp P call e.ev o.op h).bind fun r=>aOps P call ops os (e.put o.dst r.1) r.2
  else aOps P call ops os (e.put o.dst undef) h
inductive ft where
 | pure | look | fresh | make
 deriving DecidableEq
def cls (P:Program):Op→ft
 | .move _ | .assign _ | .pick .. | .build .. | .nilCheck _ | .binOp .. | .unOp .. | .makeInterface .. | .makeFunc .. | .slice .. | .fieldAddr .. | .field .. | .indexAddr .. | .index ..
 | .typeAssert .. | .extract .. => .pure
 | .load .. => .look
 | .alloc _ | .box .. | .buildSlice .. | .makeSlice .. => .fresh
 | .convert _ d _=>match P.underlying d with | some .string=> .look | some (.int _)=> .pure | _=> .make
 | .call c=>match c.callee with | .builtin .len | .builtin .max | .builtin .min=> .pure | _=> .make
 | _=> .make
def aLook (P:Program) (ev:Operand→Value) (op:Op) (h:AH):Option Value:=
 match op with
 | .load t a=>aLoad P t (ev a) h
 | .convert s d x=>(aConvert P s d (ev x) h).map (·.1)
 | _=>none
def qE {α:Type} (m:Nat) (f:Nat→α):α:=match m with
 | 0=>f 0
 | n+1=>f (n+1)
theorem p9 {α:Type} (m:Nat) (f:Nat→α):qE m f=f m:=by cases m<;>rfl
def td (o:Oper) (n:Nat) (acc:List Nat):Nat:=
 o.after.toList.foldl (fun m e=>if Region.binds .any e then Nat.lor (Nat.lor m (Nat.shiftLeft 1 e.on)) (if Nat.blt e.on n then acc.getD (n - 1 - e.on) 0 else 0) else m) 0
def predsAux:List Oper→Nat→List Nat→List Nat
 | [],_,acc=>acc.reverse
 | o::os,n,acc=>qE (td o n acc) fun m=>qE (n+1) fun n=>predsAux os n (m::acc)
def c9 (ops:List Oper):List Nat:=predsAux ops 0 []
def ordered (ps:List Nat) (i j:Nat):Bool:=(ps.getD i 0).testBit j || (ps.getD j 0).testBit i
def sameV:Value→Value→Bool
 | .bool a, .bool b=>a == b
 | .int k a, .int l b=>decide (k=l) && decide (a=b)
 | .string a, .string b=>decide (a.data.toList=b.data.toList)
 | .pointer a, .pointer b=>decide (a=b)
 | .slice a n c, .slice b m d=>decide (a=b) && decide (n=m) && decide (c=d)
 | .agg cY, .agg bs=>decide (cY.size=bs.size) && (cY.toList.zip bs.toList).all fun x=>match x.1,x.2 with
  | .bool a, .bool b=>a == b
  | .int k a, .int l b=>decide (k=l) && decide (a=b)
  | .string a, .string b=>decide (a.data.toList=b.data.toList)
  | .pointer a, .pointer b=>decide (a=b)
  | .slice a n c, .slice b m d=>decide (a=b) && decide (n=m) && decide (c=d)
  | _,_=>false
 | _,_=>false
structure fY where
 e:Env
 h:AH
 looks:List (Nat×Env×Value)
 dK:List (Nat×AH)
def aDrawOp (P:Program) (call:cw) (ops:List Oper) (base i:Nat) (o:Oper) (s:fY):Option fY:=
 match cls P o.op with
 | .pure=>(aOp P call s.e.ev o.op s.h).map fun r=>{s with e:=s.e.put o.dst r.1}
 | .look=>(aLook P s.e.ev o.op s.h).bind fun v=>
  if s.dK.all (fun x=>ordered (c9 ops) i x.1 || (match aLook P s.e.ev o.op x.2 with | some u=>sameV v u | none=>false)) then
   some {s with e:=s.e.put o.dst v,looks:=(i,s.e,v)::s.looks}
  else none
 | .fresh=>(aFresh P s.e.ev o.op).map fun f=>{s with e:=s.e.put o.dst (f.1 (base+i)),h:={s.h with t:=s.h.t.set (base+i) (some ⟨f.2.1,true,f.2.2⟩)}}
 | .make=>(aOp P call s.e.ev o.op {s.h with low:=s.h.next}).bind fun r=>
  let h':AH:={r.2 with low:=if r.2.low<s.h.low then r.2.low else s.h.low}
  if s.h.next≤r.2.low then some {s with e:=s.e.put o.dst r.1,h:=h'}
  else if s.looks.all (fun x=>ordered (c9 ops) i x.1 || (match aLook P x.2.1.ev ((ops.getD x.1 default).op) h' with | some u=>sameV x.2.2 u | none=>false)) then
   some {s with e:=s.e.put o.dst r.1,h:=h',dK:=(i,s.h)::s.dK}
  else none
def aDraw (P:Program) (call:cw) (ops:Array Oper) (base:Nat):Nat→List Oper→fY→Option fY
 | _,[],s=>some s
 | i,o::os,s=>
  if b3 ops s.e o then (aDrawOp P call ops.toList base i o s).bind fun s'=>aDraw P call ops base (i+1) os s'
  else aDraw P call ops base (i+1) os {s with e:=s.e.put o.dst undef}
def e3 (P:Program) (call:cw) (ops:Array Oper) (e:Env) (h:AH):Option (Env×AH):=
 (aDraw P call ops h.next 0 ops.toList ⟨e,{h with next:=h.next+ops.size},[],[]⟩).map fun s=>(s.e,s.h)
def qS (P:Program) (ops:List Oper):Bool:=
 let ms:=(List.range ops.length).filter fun j=>cls P (ops.getD j default).op= .make
 ms.all fun i=>ms.all fun j=>i == j || ordered (c9 ops) i j
inductive cX where
 | normal | exit (id:Nat) | goto (l:Nat) | ret
abbrev fw:=Option (cX×Env×AH)
def aLoop (body:Env→AH→fw):Nat→Env→AH→fw
 | 0,_,_=>none
 | k+1,e,h=>match body e h with
  | some (.normal,e',h')=>aLoop body k e' h'
  | r=>r
def aJump (run:Code→Env→AH→fw) (c:Code):Nat→Code→Env→AH→fw
 | 0,_,_,_=>none
 | k+1,cur,e,h=>match run cur e h with
  | some (.goto l,e',h')=>match findLabel c l with
   | some rest=>aJump run c k rest e' h'
   | none=>some (.goto l,e',h')
  | r=>r
def aCode (P:Program) (call:cw):Nat→Code→Env→AH→fw
 | 0,_,_,_=>none
 | k+1,c,e,h=>
  match c with
  | .skip | .label _=>some (.normal,e,h)
  | .region _ ops false=>(aOps P call ops ops.toList e h).map fun r=>(.normal,r.1,r.2)
  | .region _ ops true=>(e3 P call ops e h).map fun r=>(.normal,r.1,r.2)
  | .seq a b=>match aCode P call k a e h with
   | some (.normal,e',h')=>aCode P call k b e' h'
   | r=>r
  | .cond c a b=>match e.ev c with
   | .bool t=>aCode P call k (if t then a else b) e h
   | _=>none
  | .block id c=>match aCode P call k c e h with
   | some (.exit i,e',h')=>if i=id then some (.normal,e',h') else some (.exit i,e',h')
   | r=>r
  | .loop c=>aLoop (aCode P call k c) k e h
  | .scope c=>aJump (aCode P call k) c k c e h
  | .exit id=>some (.exit id,e,h)
  | .goto l=>some (.goto l,e,h)
  | .ret=>some (.ret,e,h)
  | _=>none
def aResult (P:Program) (e:Env) (h:AH):ResultVar→Option Value
 | .tmp t=>some (e.get t)
 | .cell a t=>aLoad P t (e.get a) h
def aResults (P:Program) (rs:List ResultVar) (e:Env) (h:AH):Option Value:=
 (rs.mapM (aResult P e h)).map fun vs=>match vs with | [v]=>v | vs=> .tuple vs.toArray
def eS (r:Bool) (h0:AH) (v:Value) (h1:AH):Value×AH:=
 if r=true∧h0.next≤h1.low∧clean v=true then (v,h0) else (v,{h1 with low:=if h1.low<h0.low then h1.low else h0.low})
def tn (P:Program) (t:TypeId):Bool:=match P.underlying t with
 | some .bool | some (.int _) | some .string=>true
 | _=>false
def gj (P:Program) (fn:Func):Bool:=Nat.beq fn.nfree 0 && fn.params.toList.all (tn P) && fn.resultTypes.toList.all (tn P)
def aCall (P:Program) (ov:cw):Nat→FuncId→List Value→AH→Option (Value×AH)
 | 0,f,args,h=>ov f args h
 | k+1,f,args,h=>
  match ov f args h with
  | some r=>some r
  | none=>
  (P.funcs[f]?).bind fun fn=>fn.body.bind fun c=>
  if args.length≤fn.ntmps then
   match aCode P (aCall P ov k) k c (Env.ofArgs 0 args .nil) {h with low:=h.next} with
   | some (.normal,e,h1) | some (.ret,e,h1)=>(aResults P fn.results.toList e h1).map fun v=>eS (gj P fn) h v h1
   | _=>none
  else none
end Go.Proofs.Ytcilejikekccmaa.Am
namespace Go.Proofs.Ytcilejikekccmaa.Am
open Go
structure Place where
  ae:Nat
  off:Nat
  sz:Nat
  ext:Nat
abbrev aQ:=Nat→Option Place
class Marks where
  mark:Nat→Int
variable [Marks]
def AR (ρ:aQ) (a a':Addr):Prop:=a.spot=none∧∃ p,ρ a.block=some p∧a'=⟨p.ae,p.off+a.off,none⟩
inductive VR (ρ:aQ):Value→Value→Prop
  | bool (b:Bool):VR ρ (.bool b) (.bool b)
  | int (k:IntKind) (n:Int):VR ρ (.int k n) (.int k n)
  | float (k:FloatKind) (n:Nat):VR ρ (.float k n) (.int .i64 (Marks.mark n))
  | string (s:ByteArray):VR ρ (.string s) (.string s)
  | nilFunc:VR ρ .nilFunc .nilFunc
  | nilIface:VR ρ .nilIface .nilIface
  | mr:VR ρ (.pointer none) (.pointer none)
  | ptr {a a':Addr} (h:AR ρ a a'):VR ρ (.pointer (some a)) (.pointer (some a'))
  | ga {n c c':Nat} (h1:c=n→c'=n) (h2:n≤c'):VR ρ (.slice none n c) (.slice none n c')
  | sl {a a':Addr} {n c c':Nat} (h1:c=n→c'=n) (h2:n≤c') (j:0<n→AR ρ a a')
      (I:c=n+1→AR ρ a a'∧∃ p,ρ a.block=some p∧a.off+c' * p.sz≤p.ext):VR ρ (.slice (some a) n c) (.slice (some a') n c')
  | func (f:FuncId) {fi qX ca rC:Array Value} (h1:fi.size=qX.size) (h2:∀ (i:Nat) v v',fi[i]?=some v→qX[i]?=some v'→VR ρ v v')
      (j:ca.size=rC.size) (I:∀ (i:Nat) v v',ca[i]?=some v→rC[i]?=some v'→VR ρ v v'):VR ρ (.func (.func f) fi ca) (.func (.func f) qX rC)
  | iface (t:TypeId) {v v':Value} (h:VR ρ v v'):VR ρ (.iface t v) (.iface t v')
  | agg {cs a2:Array Value} (h1:cs.size=a2.size) (h2:∀ (i:Nat) v v',cs[i]?=some v→a2[i]?=some v'→VR ρ v v'):VR ρ (.agg cs) (.agg a2)
  | tuple {cs a2:Array Value} (h1:cs.size=a2.size) (h2:∀ (i:Nat) v v',cs[i]?=some v→a2[i]?=some v'→VR ρ v v'):VR ρ (.tuple cs) (.tuple a2)
def LR (ρ:aQ) (l l':List Value):Prop:=l.length=l'.length∧∀ (i:Nat) v v',l[i]?=some v→l'[i]?=some v'→VR ρ v v'
def cF (ρ ρ':aQ):Prop:=∀ b p,ρ b=some p→ρ' b=some p
theorem cF.refl (ρ:aQ):cF ρ ρ:=fun _ _ h=>h
theorem cF.trans {a b c:aQ} (h:cF a b) (h':cF b c):cF a c:=fun _ _ q=>h' _ _ (h _ _ q)
theorem AR.mono {ρ ρ':aQ} (hr:cF ρ ρ') {a a':Addr} (h:AR ρ a a'):AR ρ' a a':=by
  obtain ⟨h1,p,h2,j⟩:=h
  exact ⟨h1,p,hr _ _ h2,j⟩
theorem VR.mono {ρ ρ':aQ} (hr:cF ρ ρ') {v v':Value} (h:VR ρ v v'):VR ρ' v v':=by
  induction h with
  | bool b=>exact .bool b
  | int k n=>exact .int k n
  | float k n=>exact .float k n
  | string s=>exact .string s
  | nilFunc=>exact .nilFunc
  | nilIface=>exact .nilIface
  | mr=>exact .mr
  | ptr h=>exact .ptr (h.mono hr)
  | ga h1 h2=>exact .ga h1 h2
  | sl h1 h2 j I=>exact .sl h1 h2 (fun h=>(j h).mono hr) (fun h=>by
      obtain ⟨J,p,U,aa⟩:=I h
      exact ⟨J.mono hr,p,hr _ _ U,aa⟩)
  | func f h1 _ j _ ab ad=>exact .func f h1 ab j ad
  | iface t _ ih=>exact .iface t ih
  | agg h1 _ ih=>exact .agg h1 ih
  | tuple h1 _ ih=>exact .tuple h1 ih
theorem LR.mono {ρ ρ':aQ} (hr:cF ρ ρ') {l l':List Value} (h:LR ρ l l'):LR ρ' l l':=⟨h.1,fun i v v' a b=>(h.2 i v v' a b).mono hr⟩
theorem LR.nil (ρ:aQ):LR ρ [] []:=⟨rfl,fun i v v' h=>by simp at h⟩
theorem LR.cons {ρ:aQ} {v v':Value} {l l':List Value} (h:VR ρ v v') (hl:LR ρ l l'):LR ρ (v::l) (v'::l'):=
  ⟨by simp [hl.1],fun i u u' a b=>by
    cases i with
    | zero=>simp at a b;subst a;subst b;exact h
    | succ i=>exact hl.2 i u u' (by simpa using a) (by simpa using b)⟩
theorem LR.head {ρ:aQ} {v v':Value} {l l':List Value} (h:LR ρ (v::l) (v'::l')):VR ρ v v':=h.2 0 v v' (by simp) (by simp)
theorem LR.tail {ρ:aQ} {v v':Value} {l l':List Value} (h:LR ρ (v::l) (v'::l')):LR ρ l l':=
  ⟨by have:=h.1;simpa using this,fun i u u' a b=>h.2 (i+1) u u' (by simpa using a) (by simpa using b)⟩
theorem LR.append {ρ:aQ} {a a' b b':List Value} (h:LR ρ a a') (k:LR ρ b b'):LR ρ (a++b) (a'++b'):=by
  refine ⟨by simp [h.1,k.1],fun i v v' p q=>?_⟩
  by_cases hi:i<a.length
  · rw [List.getElem?_append_left hi] at p
    rw [List.getElem?_append_left (by rw [← h.1];exact hi)] at q
    exact h.2 i v v' p q
  · rw [List.getElem?_append_right (by omega)] at p
    rw [List.getElem?_append_right (by have:=h.1;omega)] at q
    rw [← h.1] at q
    exact k.2 _ v v' p q
theorem LR.take {ρ:aQ} {a a':List Value} (h:LR ρ a a') (n:Nat):LR ρ (a.take n) (a'.take n):=by
  refine ⟨by simp [h.1],fun i v v' p q=>?_⟩
  rw [List.getElem?_take] at p q
  split at p
  · rename_i hi;rw [if_pos hi] at q;exact h.2 i v v' p q
  · cases p
theorem LR.drop {ρ:aQ} {a a':List Value} (h:LR ρ a a') (n:Nat):LR ρ (a.drop n) (a'.drop n):=by
  refine ⟨by simp [h.1],fun i v v' p q=>?_⟩
  rw [List.getElem?_drop] at p q
  exact h.2 _ v v' p q
theorem LR.get {ρ:aQ} {a a':List Value} (h:LR ρ a a') {i:Nat} {v:Value} (hv:a[i]?=some v):∃ v',a'[i]?=some v'∧VR ρ v v':=by
  have hi:i<a'.length:=by rw [← h.1];exact (List.getElem?_eq_some_iff.1 hv).1
  exact ⟨a'[i],List.getElem?_eq_getElem hi,h.2 i v _ hv (List.getElem?_eq_getElem hi)⟩
theorem LR.jD {ρ:aQ} {cs a2:Array Value} (h1:cs.size=a2.size) (h2:∀ (i:Nat) v v',cs[i]?=some v→a2[i]?=some v'→VR ρ v v'):LR ρ cs.toList a2.toList:=
  ⟨by simpa using h1,fun i v v' a b=>h2 i v v' (by simpa using a) (by simpa using b)⟩
theorem LR.np {ρ:aQ} {l l':List Value} (h:LR ρ l l'):VR ρ (.agg l.toArray) (.agg l'.toArray):= .agg (by simpa using h.1) (fun i v v' a b=>h.2 i v v' (by simpa using a) (by simpa using b))
theorem LR.rp {ρ:aQ} {l l':List Value} (h:LR ρ l l'):VR ρ (.tuple l.toArray) (.tuple l'.toArray):= .tuple (by simpa using h.1) (fun i v v' a b=>h.2 i v v' (by simpa using a) (by simpa using b))
theorem VR.undef (ρ:aQ):VR ρ undef undef:= .tuple rfl (fun i v v' h=>by simp at h)
theorem ug (ρ:aQ) {v:Value} (h:oneClean v=true):VR ρ v v:=by
  cases v<;>simp [oneClean] at h<;>try constructor
  case pointer a=>cases a<;>simp at h;exact .mr
  case slice a n c=>
    cases a with
    | none=>exact .ga (fun e=>e) (by simpa using h)
    | some a=>simp at h
theorem ot (ρ:aQ) {l:List Value} (h:∀ v∈l,VR ρ v v):LR ρ l l:=
  ⟨rfl,fun i v v' a b=>by rw [a] at b;cases b;exact h v (List.mem_of_getElem? a)⟩
theorem q3 (ρ:aQ) {v:Value} (h:clean1 v=true):VR ρ v v:=by
  cases v
  case agg cs=>
    simp only [clean1,List.all_eq_true] at h
    have:=LR.np (ot ρ fun v hv=>ug ρ (h v hv))
    simpa using this
  all_goals exact ug ρ h
theorem lI (ρ:aQ) {v:Value} (h:clean v=true):VR ρ v v:=by
  cases v
  case tuple cs=>
    simp only [clean,List.all_eq_true] at h
    have:=LR.rp (ot ρ fun v hv=>q3 ρ (h v hv))
    simpa using this
  case iface t v=>exact .iface t (q3 ρ h)
  case func fn fi ca=>
    cases fn<;>simp [clean,clean1,oneClean] at h
    obtain ⟨h1,h2⟩:=h
    subst h1;subst h2
    exact .func _ rfl (fun i v v' h=>by simp at h) rfl (fun i v v' h=>by simp at h)
  all_goals exact q3 ρ h
theorem VR.rb {ρ:aQ} {v v':Value} (h:VR ρ v v'):v'.oneCell'=v.oneCell':=by cases h<;>rfl
theorem VR.cells {ρ:aQ} {v v':Value} (h:VR ρ v v'):LR ρ v.cells.toList v'.cells.toList:=by
  cases h<;>first
    | (rename_i h1 h2;exact LR.jD h1 h2)
    | (simp only [Value.cells];exact LR.cons (by constructor<;>assumption) (LR.nil _))
section
variable {P:Program}
theorem cj {t:TypeId} {d:TypeDesc} (h:P.underlying t=some d) (w:World):(underlying t).run P w= .ok d w:=by simp [underlying,h]
theorem yH {t:TypeId} {s:Nat} (h:bS P t=some s):∃ i,P.info? t=some i∧i.size=s:=by
  unfold bS at h
  cases hi:P.info? t with
  | none=>rw [hi] at h;cases h
  | some i=>rw [hi] at h;exact ⟨i,rfl,by simpa using h⟩
theorem eV {t:TypeId} {s:Nat} (h:bS P t=some s) (w:World):(sizeOf t).run P w= .ok s w:=by
  obtain ⟨i,hi,rfl⟩:=yH h
  simp [sizeOf,typeInfo,hi]
theorem j0 {t:TypeId} {z:Value} (h:dR P t=some z) (w:World):(zeroValue t).run P w= .ok z w:=by
  unfold dR at h
  cases hi:P.info? t with
  | none=>rw [hi] at h;cases h
  | some i=>rw [hi] at h;simp at h;simp [zeroValue,typeInfo,hi,h]
theorem oo {t:TypeId} {d:TypeDesc} (h:P.underlying t=some d) (w:World):(isAgg t).run P w= .ok (lf d) w:=by
  simp only [isAgg,Sem.run_bind,cj h,Result.andThen_ok]
  cases d<;>rfl
theorem pw {ρ:aQ} {a a':Addr} (h:AR ρ a a') (n:Nat):AR ρ (a.add n) (a'.add n):=by
  obtain ⟨h1,p,h2,rfl⟩:=h
  unfold Addr.add
  by_cases hn:n=0
  · simp only [hn,if_true];exact ⟨h1,p,h2,rfl⟩
  · simp only [hn,if_false];exact ⟨rfl,p,h2,by simp [Nat.add_assoc]⟩
theorem po {ρ:aQ} {t:TypeId} {cs a2:Array Value} {off:Nat} {v:Value} (h:gf P t cs off=some v) (hl:LR ρ cs.toList a2.toList):
    ∃ v',VR ρ v v'∧∀ w,(part t a2 off).run P w= .ok v' w:=by
  unfold gf at h
  cases hd:P.underlying t with
  | none=>rw [hd] at h;cases h
  | some d=>
    rw [hd] at h
    simp only [Option.bind_some] at h
    by_cases ha:lf d=true
    · rw [if_pos ha] at h
      cases hs:bS P t with
      | none=>rw [hs] at h;cases h
      | some s=>
        rw [hs] at h
        simp at h
        subst h
        refine ⟨.agg (a2.extract off (off+s)),?_,fun w=>?_⟩
        · have he:∀ c:Array Value,c.extract off (off+s)=((c.toList.drop off).take s).toArray:=fun c=>by apply Array.ext';simp
          rw [he,he]
          exact LR.np ((hl.drop off).take s)
        · simp [part,oo hd,ha,eV hs]
    · rw [if_neg ha] at h
      obtain ⟨v',p0,hr⟩:=hl.get (show cs.toList[off]?=some v by simpa using h)
      refine ⟨v',hr,fun w=>?_⟩
      have DW:a2[off]?=some v':=by simpa using p0
      simp [part,oo hd,ha,DW]
theorem forIn_eq (D:Nat) (oc oh:Array Value) (eqs:TypeId→Value→Value→Option Bool)
    (heq:∀ t x y b,eqs t x y=some b→∀ {ρ:aQ} {x' y':Value},VR ρ x x'→VR ρ y y'→∀ w,(Op.equalIn D t x' y').run P w= .ok b w)
    {ρ:aQ} {xs ys:Array Value} (hx:LR ρ xs.toList oc.toList) (hy:LR ρ ys.toList oh.toList):
    ∀ (fs:List Field) (b:Bool),aEqFields P eqs fs xs ys=some b→∀ w,
      (do for f in fs do
            if f.name≠ "_" then
              if !(← Op.equalIn D f.type (← part f.type oc f.offset) (← part f.type oh f.offset)) then return false
          pure true:Sem Bool).run P w= .ok b w:=by
  intro fs
  induction fs with
  | nil=>intro b h w;simp [aEqFields] at h;subst h;simp
  | cons f fs ih=>
    intro b h w
    simp only [aEqFields] at h
    by_cases hn:f.name≠ "_"
    · rw [if_pos hn] at h
      cases ha:gf P f.type xs f.offset with
      | none=>rw [ha] at h;cases h
      | some a=>
        cases hb:gf P f.type ys f.offset with
        | none=>rw [ha,hb] at h;cases h
        | some c=>
          rw [ha,hb] at h
          simp only at h
          obtain ⟨a',ra,uO⟩:=po ha hx
          obtain ⟨c',rc,dI⟩:=po hb hy
          cases he:eqs f.type a c with
          | none=>rw [he] at h;cases h
          | some e=>
            rw [he] at h
            have g2:=heq _ _ _ _ he ra rc w
            cases e with
            | true=>
              have:=ih b h w
              simp only [List.forIn_cons,Sem.run_bind,hn,ne_eq,not_false_eq_true,if_true,uO,dI,Result.andThen_ok,g2,Sem.run_pure] at this ⊢
              simpa using this
            | false=>
              simp only at h
              cases h
              simp only [List.forIn_cons,Sem.run_bind,hn,ne_eq,not_false_eq_true,if_true,uO,dI,Result.andThen_ok,g2,Sem.run_pure]
              simp
    · rw [if_neg hn] at h
      have:=ih b h w
      simp only [List.forIn_cons,Sem.run_bind,hn,ne_eq,if_false,Sem.run_pure,Result.andThen_ok] at this ⊢
      simpa using this
theorem zJ:∀ (d:Nat) (t:TypeId) (x y:Value) (b:Bool),aEq P d t x y=some b→∀ (D:Nat),d≤D→∀ {ρ:aQ} {x' y':Value},VR ρ x x'→VR ρ y y'→∀ w,(Op.equalIn D t x' y').run P w= .ok b w:=by
  intro d
  induction d with
  | zero=>intro t x y b h;simp [aEq] at h
  | succ d ih=>
    intro t x y b h D hD ρ x' y' hx hy w
    obtain ⟨D,rfl⟩:∃ m,D=m+1:=⟨D - 1,by omega⟩
    cases hu:P.underlying t with
    | none=>simp [aEq,hu] at h
    | some u=>
      cases u<;>simp only [aEq,hu] at h<;>try (exact absurd h (by simp;done))
      case bool=>cases hx<;>first | (simp at h;done) | (cases hy<;>first | (simp at h;done) | (simp at h;simp [Op.equalIn,cj hu,h]))
      case int k=>cases hx<;>first | (simp at h;done) | (cases hy<;>first | (simp at h;done) | (simp at h;simp [Op.equalIn,cj hu,h]))
      case string=>cases hx<;>first | (simp at h;done) | (cases hy<;>first | (simp at h;done) | (simp at h;simp [Op.equalIn,cj hu,h]))
      case pointer e=>cases hx<;>first | (simp at h;done) | (cases hy<;>first | (simp at h;done) | (simp at h;simp [Op.equalIn,cj hu,h]))
      case interface ms=>cases hx<;>first | (simp at h;done) | (cases hy<;>first | (simp at h;done) | (simp at h;simp [Op.equalIn,cj hu,h]))
      case slice e=>cases hx<;>first | (simp at h;done) | (cases hy<;>first | (simp at h;done) | (simp at h;simp [Op.equalIn,cj hu,h]))
      case func a1 ab ad=>cases hx<;>first | (simp at h;done) | (cases hy<;>first | (simp at h;done) | (simp at h;simp [Op.equalIn,cj hu,h]))
      case struct fields=>
        cases hx<;>first | (simp at h;done) | skip
        cases hy<;>first | (simp at h;done) | skip
        rename_i xs oc j I ys oh J U
        simp only at h
        split at h
        · rename_i a7
          have:=forIn_eq (P:=P) D oc oh (aEq P d) (fun t x y b he {ρ} {x'} {y'} r1 aa w=>ih t x y b he D (by omega) r1 aa w) (LR.jD j I) (LR.jD J U) fields.toList b h w
          simp only [Op.equalIn,Sem.run_bind,cj hu,Result.andThen_ok,run_program,a7,Bool.false_eq_true,if_false]
          simpa using this
        · cases h
theorem vU (op:BinOp) {a b:ByteArray} {v:Value} (h:aStr op a b=some v) (w:World):(Op.stringOp op a b).run P w= .ok v w:=by
  cases op<;>simp [aStr] at h
  case add=>obtain ⟨h1,rfl⟩:=h;simp [Op.stringOp,h1]
  case eql=>subst h;simp [Op.stringOp]
  case neq=>subst h;simp [Op.stringOp]
theorem DT {op:BinOp} {a b:ByteArray} {v:Value} (h:aStr op a b=some v) (ρ:aQ):VR ρ v v:=by
  cases op<;>simp [aStr] at h
  case add=>obtain ⟨h1,rfl⟩:=h;exact .string _
  case eql=>subst h;exact .bool _
  case neq=>subst h;exact .bool _
theorem A4 (t:TypeId) (op:BinOp) (k:IntKind) {a b:Int} {v:Value} (h:aInt op k a b=some v) (w:World):(binOp op t (.int k a) (.int k b)).run P w= .ok v w:=by
  cases op<;>simp [aInt] at h
  all_goals first
    | (subst h;simp [binOp,Op.intArith,Op.intCmp,Op.intBits];done)
    | (obtain ⟨h1,rfl⟩:=h;simp [binOp,Op.intDiv,h1])
theorem xU {op:BinOp} {k:IntKind} {a b:Int} {v:Value} (h:aInt op k a b=some v) (ρ:aQ):VR ρ v v:=by
  cases op<;>simp [aInt] at h
  all_goals first
    | (subst h;first | exact .int _ _ | exact .bool _)
    | (obtain ⟨h1,rfl⟩:=h;first | exact .int _ _ | exact .bool _)
def jy (op:BinOp) (t:TypeId) (xo yo:Operand) (x y:Value):Sem Value:=do eqGuard op t xo yo x y;binOp op t x y
theorem s9 {t:TypeId} {x y:Value} {b:Bool} (h:aEqTop P t x y=some b) {ρ:aQ} {x' y':Value} (hx:VR ρ x x') (hy:VR ρ y y') (op:BinOp) (au:op= .eql∨op= .neq) (xo yo:Operand) (w:World):
    (eqGuard op t xo yo x' y').run P w= .ok () w∧(Op.equal t x' y').run P w= .ok b w:=by
  have gI:∀ cs ds,x'= .agg cs→y'= .agg ds→P.eqGuardType P.depth t=false:=by
    intro cs ds hc hd
    subst hc;subst hd
    cases hx;cases hy
    simp only [aEqTop] at h
    split at h
    · assumption
    · cases h
  have zy:¬ (x'= .nilIface∧y'= .nilIface):=by
    rintro ⟨rfl,rfl⟩
    cases hx;cases hy
    simp [aEqTop] at h
  have he:aEq P oy t x y=some b:=by
    unfold aEqTop at h
    split at h
    · cases h
    · split at h
      · exact h
      · cases h
    · exact h
  refine ⟨?_,zJ _ _ _ _ _ he _ (by decide) hx hy w⟩
  have bY:(!(match op with | .eql | .neq=>true | _=>false))=false:=by rcases au with rfl | rfl<;>rfl
  unfold eqGuard
  rcases au with rfl | rfl
  all_goals
    simp only [Bool.not_true,Bool.false_eq_true,if_false]
    split
    · exact absurd ⟨rfl,rfl⟩ zy
    · rename_i cs ds
      have:=gI cs ds rfl rfl
      simp [this]
    · rfl
theorem uC (d:Nat) (t:TypeId) (k:FloatKind) (a:Nat) (y:Value):aEq P d t (.float k a) y=none:=by
  cases d with
  | zero=>rfl
  | succ d=>simp only [aEq];cases P.underlying t with
    | none=>rfl
    | some u=>cases u<;>rfl
theorem uH (d:Nat) (t:TypeId) (k:FloatKind) (a:Nat) (x:Value):aEq P d t x (.float k a)=none:=by
  cases d with
  | zero=>rfl
  | succ d=>simp only [aEq];cases P.underlying t with
    | none=>rfl
    | some u=>cases u<;>cases x<;>first | rfl | (rename_i o;cases o<;>rfl) | (rename_i o _ _;cases o<;>rfl)
theorem Cg {op:BinOp} {t:TypeId} {x y v:Value} (h:aBin P op t x y=some v):(∀ k n,x≠ .float k n)∧∀ k n,y≠ .float k n:=by
  refine ⟨fun k n e=>?_,fun k n e=>?_⟩
  · subst e
    have:aEqTop P t (.float k n) y=none:=by simp only [aEqTop,uC]
    simp only [aBin,this] at h
    cases op<;>simp at h
  · subst e
    have:aEqTop P t x (.float k n)=none:=by simp only [aEqTop,uH]
    simp only [aBin,this] at h
    cases op<;>simp at h
theorem uV {t:TypeId} {x y:Value} {b:Bool} (h:aEqTop P t x y=some b) {ρ:aQ} {x' y':Value} (hx:VR ρ x x') (hy:VR ρ y y') (h1:¬ ∃ k a k' b,x'= .int k a∧y'= .int k' b) (h2:¬ ∃ a b,x'= .string a∧y'= .string b):
    binOp .eql t x' y'=(do pure (.bool (← Op.equal t x' y')))∧binOp .neq t x' y'=(do pure (.bool (!(← Op.equal t x' y')))):=by
  cases hx<;>cases hy<;>first
    | exact ⟨rfl,rfl⟩
    | exact absurd ⟨_,_,_,_,rfl,rfl⟩ h1
    | exact absurd ⟨_,_,rfl,rfl⟩ h2
    | (exfalso;simp only [aEqTop,uC,uH] at h;cases h)
theorem yR {op:BinOp} {t:TypeId} {x y v:Value} (h:aBin P op t x y=some v) {ρ:aQ} {x' y':Value} (hx:VR ρ x x') (hy:VR ρ y y') (xo yo:Operand):
    VR ρ v v∧∀ w,(jy op t xo yo x' y').run P w= .ok v w:=by
  obtain ⟨aa,ab⟩:=Cg h
  by_cases hint:∃ k a k' b,x= .int k a∧y= .int k' b
  · obtain ⟨k,a,k',b,rfl,rfl⟩:=hint
    cases hx;cases hy
    have hg:∀ w,(eqGuard op t xo yo (.int k a) (.int k' b)).run P w= .ok () w:=by
      intro w;unfold eqGuard;split<;>simp
    simp only [aBin] at h
    split at h
    · split at h
      · cases h
      · rename_i hb;simp at h;subst h
        exact ⟨.int _ _,fun w=>by simp [jy,hg,binOp,Op.shift,hb]⟩
    · split at h
      · cases h
      · rename_i hb;simp at h;subst h
        exact ⟨.int _ _,fun w=>by simp [jy,hg,binOp,Op.shift,hb]⟩
    · split at h
      · rename_i hk;subst hk
        exact ⟨xU h ρ,fun w=>by simp [jy,hg,A4 t op k h w]⟩
      · cases h
  by_cases rf:∃ a b,x= .string a∧y= .string b
  · obtain ⟨a,b,rfl,rfl⟩:=rf
    cases hx;cases hy
    have hg:∀ w,(eqGuard op t xo yo (.string a) (.string b)).run P w= .ok () w:=by
      intro w;unfold eqGuard;split<;>simp
    simp only [aBin] at h
    refine ⟨DT h ρ,fun w=>?_⟩
    have:=vU (P:=P) op h w
    cases op<;>simp [aStr] at h<;>simp [jy,hg,binOp,this]
  have J:¬ ∃ k a k' b,x'= .int k a∧y'= .int k' b:=by
    rintro ⟨k,a,k',b,rfl,rfl⟩
    cases hx with
    | float=>exact aa _ _ rfl
    | int=>
      cases hy with
      | float=>exact ab _ _ rfl
      | int=>exact hint ⟨_,_,_,_,rfl,rfl⟩
  have U:¬ ∃ a b,x'= .string a∧y'= .string b:=by
    rintro ⟨a,b,rfl,rfl⟩;cases hx;cases hy;exact rf ⟨_,_,rfl,rfl⟩
  unfold aBin at h
  split at h
  · exact absurd ⟨_,_,_,_,rfl,rfl⟩ hint
  · exact absurd ⟨_,_,rfl,rfl⟩ rf
  · split at h
    · cases hb:aEqTop P t x y with
      | none=>rw [hb] at h;cases h
      | some b=>
        rw [hb] at h;simp at h;subst h
        refine ⟨.bool _,fun w=>?_⟩
        obtain ⟨j,I⟩:=s9 hb hx hy .eql (.inl rfl) xo yo w
        simp [jy,j,(uV hb hx hy J U).1,I]
    · cases hb:aEqTop P t x y with
      | none=>rw [hb] at h;cases h
      | some b=>
        rw [hb] at h;simp at h;subst h
        refine ⟨.bool _,fun w=>?_⟩
        obtain ⟨j,I⟩:=s9 hb hx hy .neq (.inr rfl) xo yo w
        simp [jy,j,(uV hb hx hy J U).2,I]
    · cases h
end
end Go.Proofs.Ytcilejikekccmaa.Am
namespace Go.Proofs.Ytcilejikekccmaa.Am
open Go
variable [Marks]
section
variable {P:Program} {ρ:aQ}
theorem xM {op:UnOp} {x v x':Value} (h:aUn op x=some v) (hx:VR ρ x x'):∃ v',VR ρ v v'∧∀ w,(Op.unary op x').run P w= .ok v' w:=by
 cases hx<;>cases op<;>simp [aUn] at h
 all_goals (subst h;first | exact ⟨_, .int _ _,fun w=>by simp [Op.unary,Op.intArith]⟩ | exact ⟨_, .bool _,fun w=>by simp [Op.unary]⟩)
theorem xR {s:TypeId} {f:Nat} {x v x':Value} (h:aField P s f x=some v) (hx:VR ρ x x'):∃ v',VR ρ v v'∧∀ w,(Instr.fieldAt s x' f).run P w= .ok v' w:=by
 unfold aField at h
 split at h
 ·rename_i fields a hu
  cases hx
  rename_i a' ha
  cases hf:fields[f]? with
  | none=>rw [hf] at h;cases h
  | some fd=>
   rw [hf] at h
   simp only [Option.bind_some] at h
   cases hs:bS P fd.type with
   | none=>rw [hs] at h;cases h
   | some z=>
    rw [hs] at h
    simp only [Option.bind_some] at h
    split at h
    ·cases h
    ·rename_i hz
     simp at h;subst h
     refine ⟨_, .ptr (pw ha fd.offset),fun w=>?_⟩
     have j:z≠0:=fun e=>hz (.inl e)
     simp [Instr.fieldAt,cj hu,hf,Instr.sureAddr,fieldPlace,eV hs,j]
 ·cases h
theorem AG {t:TypeId} {x ix v x' nc:Value} (h:aIndexAddr P t x ix=some v) (hx:VR ρ x x') (hi:VR ρ ix nc):∃ v',VR ρ v v'∧∀ w,(Instr.indexAt t x' nc).run P w= .ok v' w:=by
 unfold aIndexAddr at h
 split at h
 ·rename_i e a n c k i hu
  cases hi
  have m9:∃ a' c',x'= .slice (some a') n c'∧(0<n→AR ρ a a'):=by
   cases hx with
   | sl h1 h2 j I=>exact ⟨_,_,rfl,j⟩
  obtain ⟨a',c',rfl,j⟩:=m9
  cases hs:bS P e with
  | none=>rw [hs] at h;cases h
  | some s=>
   rw [hs] at h
   simp only [Option.bind_some] at h
   split at h
   ·rename_i hc
    simp at h;subst h
    refine ⟨_, .ptr (pw (j (by omega)) (i.toNat * s)),fun w=>?_⟩
    simp [Instr.indexAt,asIntOf,cj hu,hc.1,hc.2.1,eV hs]
   ·cases h
 ·rename_i n e a k i hu
  cases hi
  cases hx
  rename_i a' ha
  cases hs:bS P e with
  | none=>rw [hs] at h;cases h
  | some s=>
   rw [hs] at h
   simp only [Option.bind_some] at h
   split at h
   ·rename_i hc
    simp at h;subst h
    refine ⟨_, .ptr (pw ha (i.toNat * s)),fun w=>?_⟩
    simp [Instr.indexAt,asIntOf,cj hu,hc.1,hc.2.1,eV hs,Instr.sureAddr]
   ·cases h
 ·cases h
theorem yC {t:TypeId} {x ix v x' nc:Value} (h:aIndex P t x ix=some v) (hx:VR ρ x x') (hi:VR ρ ix nc):∃ v',VR ρ v v'∧∀ w,(Instr.index t x' nc).run P w= .ok v' w:=by
 unfold aIndex at h
 split at h
 ·rename_i s k i hu
  cases hi;cases hx
  split at h
  ·rename_i h0
   cases hb:s[i.toNat]? with
   | none=>rw [hb] at h;cases h
   | some b=>
    rw [hb] at h;simp at h;subst h
    exact ⟨_, .int _ _,fun w=>by simp [Instr.index,asIntOf,cj hu,h0,hb]⟩
  ·cases h
 ·rename_i n e cs k i hu
  cases hi;cases hx
  rename_i a2 j I
  cases hs:bS P e with
  | none=>rw [hs] at h;cases h
  | some s=>
   rw [hs] at h
   simp only [Option.bind_some] at h
   split at h
   ·rename_i hc
    obtain ⟨v',hv,hr⟩:=po h (LR.jD j I)
    exact ⟨v',hv,fun w=>by simp [Instr.index,asIntOf,cj hu,hc.1,hc.2,eV hs,hr]⟩
   ·cases h
 ·cases h
theorem wk {t:TypeId} {f:Nat} {x v x':Value} (h:aFieldV P t f x=some v) (hx:VR ρ x x'):∃ v',VR ρ v v'∧∀ w,(Instr.field t x' f).run P w= .ok v' w:=by
 unfold aFieldV at h
 split at h
 ·rename_i fields cs hu
  cases hx
  rename_i a2 j I
  cases hf:fields[f]? with
  | none=>rw [hf] at h;cases h
  | some fd=>
   rw [hf] at h
   simp only [Option.bind_some] at h
   obtain ⟨v',hv,hr⟩:=po h (LR.jD j I)
   exact ⟨v',hv,fun w=>by simp [Instr.field,cj hu,hf,asAgg,hr]⟩
 ·cases h
theorem vM {t ty:TypeId} {ts:Array TypeId} {x v x':Value} {args:Array Value} (h:aLen P t x=some v) (hx:VR ρ x x') (ht:ts[0]?=some t) (ha:args[0]?=some x'):VR ρ v v∧∀ w,(Builtin.len_ ts ty args).run P w= .ok v w:=by
 unfold aLen at h
 split at h
 ·rename_i s hu;cases hx;simp at h;subst h
  exact ⟨.int _ _,fun w=>by simp [Builtin.len_,ht,ha,cj hu,goInt]⟩
 ·rename_i e a n c hu
  simp at h;subst h
  cases hx<;>exact ⟨.int _ _,fun w=>by simp [Builtin.len_,ht,ha,cj hu,goInt]⟩
 ·rename_i n e hu
  simp at h;subst h
  exact ⟨.int _ _,fun w=>by simp [Builtin.len_,ht,ha,cj hu,goInt]⟩
 ·cases h
theorem LR.cons_inv {v:Value} {vs l':List Value} (h:LR ρ (v::vs) l'):∃ v' cN,l'=v'::cN∧VR ρ v v'∧LR ρ vs cN:=by
 cases l' with
 | nil=>have:=h.1;simp at this
 | cons v' cN=>exact ⟨v',cN,rfl,h.head,h.tail⟩
theorem LR.lr {l':List Value} (h:LR ρ [] l'):l'=[]:=by
 cases l' with
 | nil=>rfl
 | cons v' cN=>have:=h.1;simp at this
theorem zO:∀ (vs cN:List Value) (x v:Value),aMax x vs=some v→LR ρ vs cN→∀ w,(cN.foldlM Builtin.max2 x).run P w= .ok v w∧VR ρ v v:=by
 intro vs
 induction vs with
 | nil=>
  intro cN x v h hl w
  obtain rfl:=hl.lr
  cases x<;>simp [aMax] at h
  subst h
  exact ⟨by simp, .int _ _⟩
 | cons y vs ih=>
  intro cN x v h hl w
  obtain ⟨y',cN,rfl,hy,iZ⟩:=hl.cons_inv
  cases x<;>cases hy<;>simp only [aMax] at h<;>first | (cases h;done) | skip
  rename_i k x k' y
  split at h
  ·rename_i hk;subst hk
   have:=ih cN _ v h iZ w
   simpa [List.foldlM_cons,Builtin.max2] using this
  ·cases h
theorem Af:∀ (vs cN:List Value) (x v:Value),jv x vs=some v→LR ρ vs cN→∀ w,(cN.foldlM Builtin.min2 x).run P w= .ok v w∧VR ρ v v:=by
 intro vs
 induction vs with
 | nil=>
  intro cN x v h hl w
  obtain rfl:=hl.lr
  cases x<;>simp [jv] at h
  subst h
  exact ⟨by simp, .int _ _⟩
 | cons y vs ih=>
  intro cN x v h hl w
  obtain ⟨y',cN,rfl,hy,iZ⟩:=hl.cons_inv
  cases x<;>cases hy<;>simp only [jv] at h<;>first | (cases h;done) | skip
  rename_i k x k' y
  split at h
  ·rename_i hk;subst hk
   have:=ih cN _ v h iZ w
   simpa [List.foldlM_cons,Builtin.min2] using this
  ·cases h
theorem DG {x v x':Value} {xt asserted:TypeId} {ok:Bool} (h:aAssert P x asserted ok=some v) (hx:VR ρ x x'):∃ v',VR ρ v v'∧∀ w,(Instr.typeAssert x' xt asserted ok).run P w= .ok v' w:=by
 have zr:∀ z,dR P asserted=some z→clean z=true→VR ρ (.tuple #[z, .bool false]) (.tuple #[z, .bool false]):=fun z _ hz=>
  LR.rp (LR.cons (lI ρ hz) (LR.cons (.bool _) (LR.nil _)))
 unfold aAssert at h
 split at h
 ·cases h
 ·rename_i d gw hu
  cases hx
  cases ok with
  | false=>simp at h
  | true=>
   simp only [if_true] at h
   cases hz:dR P asserted with
   | none=>rw [hz] at h;cases h
   | some z=>
    rw [hz] at h
    simp only [Option.bind_some] at h
    split at h
    ·rename_i hc;simp at h;subst h
     refine ⟨_,zr z hz hc,fun w=>?_⟩
     cases d<;>simp [Instr.typeAssert,cj hu,j0 hz] at gw ⊢
    ·cases h
 ·rename_i d t u gw hu
  cases hx
  rename_i u' hr
  split at h
  ·rename_i ht
   simp at h;subst h
   cases ok with
   | false=>exact ⟨u',hr,fun w=>by cases d<;>simp [Instr.typeAssert,cj hu,ht] at gw ⊢⟩
   | true=>exact ⟨.tuple #[u', .bool true],LR.rp (LR.cons hr (LR.cons (.bool _) (LR.nil _))),fun w=>by cases d<;>simp [Instr.typeAssert,cj hu,ht] at gw ⊢⟩
  ·rename_i ht
   cases ok with
   | false=>simp at h
   | true=>
    simp only [if_true] at h
    cases hz:dR P asserted with
    | none=>rw [hz] at h;cases h
    | some z=>
     rw [hz] at h
     simp only [Option.bind_some] at h
     split at h
     ·rename_i hc;simp at h;subst h
      refine ⟨_,zr z hz hc,fun w=>?_⟩
      cases d<;>simp [Instr.typeAssert,cj hu,j0 hz,ht] at gw ⊢
     ·cases h
 ·cases h
end
end Go.Proofs.Ytcilejikekccmaa.Am
namespace Go.Proofs.Ytcilejikekccmaa.Am
open Go
variable [Marks]
section
variable {P:Program} {ρ:aQ}
inductive OR (ρ:aQ):Option Value→Option Value→Prop
 | no:OR ρ none none
 | so {v v':Value} (h:VR ρ v v'):OR ρ (some v) (some v')
theorem OR.map {ev dy:Operand→Value} (x:Option Operand) (h:∀ o,x=some o→VR ρ (ev o) (dy o)):OR ρ (x.map ev) (x.map dy):=by
 cases x with
 | none=>exact .no
 | some o=>exact .so (h o rfl)
theorem pn {y i:Nat} {v v':Value} (h:aBnd y v=some i) (hv:VR ρ v v'):i≤y∧∀ (y':Nat) (code:BoundsCode) (w:World),y≤y'→(Instr.sliceBound v' y' code).run P w= .ok i w:=by
 cases hv<;>simp [aBnd] at h
 rename_i k n
 obtain ⟨⟨h0,h1⟩,rfl⟩:=h
 refine ⟨by omega,fun y' code w hy=>?_⟩
 have h2:n≤(y':Int):=by omega
 simp [Instr.sliceBound,asIntOf,h0,h2]
theorem q9 {h l h2:Nat} {m j:Option Nat} {lo ie:Option Value} (hb:aLow h m lo=some (l,h2,j)) (hl:OR ρ lo ie):
  h2=h∧j=m∧l≤h∧((ie=none∧l=0)∨∃ v,ie=some v∧∀ (code:BoundsCode) (w:World),(Instr.sliceBound v h code).run P w= .ok l w):=by
 cases hl with
 | no=>simp [aLow] at hb;obtain ⟨rfl,rfl,rfl⟩:=hb;exact ⟨rfl,rfl,by omega, .inl ⟨rfl,rfl⟩⟩
 | so hv=>
  simp only [aLow] at hb
  rename_i v v'
  cases hx:aBnd h v with
  | none=>rw [hx] at hb;cases hb
  | some i=>
   rw [hx] at hb;simp at hb
   obtain ⟨rfl,rfl,rfl⟩:=hb
   obtain ⟨I,J⟩:=pn (P:=P) hx hv
   exact ⟨rfl,rfl,I, .inr ⟨_,rfl,fun code w=>J _ code w (Nat.le_refl _)⟩⟩
theorem sI {n c':Nat} {lo hi mx ie eB lX:Option Value} {l h:Nat} {m:Option Nat} (hb:aBounds n lo hi mx=some (l,h,m)) (hl:OR ρ lo ie) (hh:OR ρ hi eB) (hm:OR ρ mx lX) (hc:n≤c') (isSlice:Bool):
  (∀ w,(Instr.sliceBounds isSlice n c' ie eB lX).run P w= .ok (l,h,m.getD c') w)∧l≤h∧h≤m.getD n∧m.getD n≤n:=by
 cases hm with
 | no=>
  cases hh with
  | no=>
   obtain ⟨rfl,rfl,I,j⟩:=q9 (P:=P) (show aLow n none lo=some (l,h,m) from hb) hl
   exact ⟨fun w=>by rcases j with ⟨rfl,rfl⟩ | ⟨u,rfl,j⟩<;>simp [Instr.sliceBounds, *],I,by simp,by simp⟩
  | so hv=>
   rename_i v v'
   simp only [aBounds] at hb
   cases hx:aBnd n v with
   | none=>rw [hx] at hb;cases hb
   | some i=>
    rw [hx] at hb
    simp only [Option.bind_some] at hb
    obtain ⟨J,U⟩:=pn (P:=P) hx hv
    obtain ⟨rfl,rfl,I,j⟩:=q9 (P:=P) hb hl
    exact ⟨fun w=>by rcases j with ⟨rfl,rfl⟩ | ⟨u,rfl,j⟩<;>simp [Instr.sliceBounds,U _ _ _ hc, *],I,by simpa using J,by simp⟩
 | so Cm=>
  rename_i vm Ep
  cases hh with
  | no=>simp [aBounds] at hb
  | so hv=>
   rename_i v v'
   simp only [aBounds] at hb
   cases ml:aBnd n vm with
   | none=>rw [ml] at hb;cases hb
   | some im=>
    rw [ml] at hb
    simp only [Option.bind_some] at hb
    cases hx:aBnd im v with
    | none=>rw [hx] at hb;cases hb
    | some i=>
     rw [hx] at hb
     simp only [Option.bind_some] at hb
     obtain ⟨aa,ab⟩:=pn (P:=P) ml Cm
     obtain ⟨J,U⟩:=pn (P:=P) hx hv
     obtain ⟨rfl,rfl,I,j⟩:=q9 (P:=P) hb hl
     exact ⟨fun w=>by rcases j with ⟨rfl,rfl⟩ | ⟨u,rfl,j⟩<;>simp [Instr.sliceBounds,ab _ _ _ hc,U _ _ _ (Nat.le_refl _), *],I,by simpa using J,by simpa using aa⟩
theorem x7 {t:TypeId} {x v x':Value} {lo hi mx ie eB lX:Option Value} (h:aSlice P t x lo hi mx=some v) (hx:VR ρ x x') (hl:OR ρ lo ie) (hh:OR ρ hi eB) (hm:OR ρ mx lX):
  ∃ v',VR ρ v v'∧∀ w,(Instr.sliceAt t x' ie eB lX).run P w= .ok v' w:=by
 unfold aSlice at h
 split at h
 ·rename_i s hu
  cases hx
  split at h
  ·cases h
  ·rename_i wR
   cases hm with
   | so hv=>simp at wR
   | no=>
    cases hb:aBounds s.size lo hi none with
    | none=>rw [hb] at h;cases h
    | some b=>
     obtain ⟨l,h2,m⟩:=b
     rw [hb] at h;simp at h;subst h
     obtain ⟨j,ab,I,U⟩:=sI (P:=P) hb hl hh .no (Nat.le_refl _) false
     exact ⟨_, .string _,fun w=>by simp [Instr.sliceAt,cj hu,Instr.slice,j]⟩
 ·rename_i e a n c hu
  obtain ⟨a',c',rfl,ae,af,kF,J⟩:∃ a' c',x'= .slice a' n c'∧(c=n→c'=n)∧n≤c'∧(a=none→a'=none)∧(∀ ad,a=some ad→∃ gL,a'=some gL∧(0<n→AR ρ ad gL)):=by
   cases hx with
   | ga h1 h2=>exact ⟨_,_,rfl,h1,h2,fun _=>rfl,fun ad h=>(by cases h)⟩
   | sl h1 h2 J ah=>exact ⟨_,_,rfl,h1,h2,fun h=>(by cases h),fun ad h=>(by cases h;exact ⟨_,rfl,J⟩)⟩
  cases hs:bS P e with
  | none=>rw [hs] at h;cases h
  | some s=>
   rw [hs] at h
   simp only [Option.bind_some] at h
   cases hb:aBounds n lo hi mx with
   | none=>rw [hb] at h;cases h
   | some b=>
    obtain ⟨l,h2,m⟩:=b
    rw [hb] at h
    simp only [Option.bind_some] at h
    obtain ⟨j,ab,I,U⟩:=sI (P:=P) hb hl hh hm af true
    have g2:∀ w,(Instr.sliceAt t (.slice a' n c') ie eB lX).run P w= .ok (.slice (if m.getD c'=l then a' else a'.map (·.add (l * s))) (h2 - l) (m.getD c' - l)) w:=by
     intro w
     simp [Instr.sliceAt,cj hu,Instr.slice,j,eV hs]
    have hle:h2≤m.getD c':=by
     cases m with
     | none=>simp at I ⊢;omega
     | some m=>simpa using I
    have aa:(match m with | some m=>if m=h2 then h2 - l else h2 - l+2 | none=>if c=n∧h2=n then h2 - l else h2 - l+2)=h2 - l→m.getD c' - l=h2 - l:=by
     cases m with
     | none=>
      simp only [Option.getD_none]
      split
      ·rename_i fW;intro _;rw [ae fW.1,fW.2]
      ·intro hh;omega
     | some m=>
      simp only [Option.getD_some]
      split
      ·rename_i rU;intro _;omega
      ·intro hh;omega
    have ag:(match m with | some m=>if m=h2 then h2 - l else h2 - l+2 | none=>if c=n∧h2=n then h2 - l else h2 - l+2)≠h2 - l+1:=by
     cases m<;>simp only<;>split<;>omega
    cases a with
    | none=>
     simp at h;subst h
     obtain rfl:=kF rfl
     refine ⟨_,?_,g2⟩
     simp only [Option.map_none,ite_self]
     exact .ga aa (by omega)
    | some ad=>
     simp only at h
     split at h
     ·rename_i p2
      simp at h;subst h
      obtain ⟨gL,rfl,m9⟩:=J ad rfl
      refine ⟨_,?_,g2⟩
      have:(if m.getD c'=l then some gL else (some gL).map (·.add (l * s)))=some (if m.getD c'=l then gL else gL.add (l * s)):=by split<;>simp
      rw [this]
      refine .sl aa (by omega) (fun gr=>?_) (fun e=>absurd e ag)
      have hn:0<n:=by
       have:m.getD n≤n:=U
       omega
      rw [if_neg (by omega)]
      exact pw (m9 hn) _
     ·cases h
 ·cases h
theorem vA (off:Nat):∀ (l l':List Value) (k:Nat) (A A':Array Value),LR ρ l l'→LR ρ A.toList A'.toList→
  LR ρ ((l.zipIdx k).foldl (fun cs (x:Value×Nat)=>cs.setIfInBounds (off+x.2) x.1) A).toList ((l'.zipIdx k).foldl (fun cs (x:Value×Nat)=>cs.setIfInBounds (off+x.2) x.1) A').toList∧
   ((l.zipIdx k).foldl (fun cs (x:Value×Nat)=>cs.setIfInBounds (off+x.2) x.1) A).size=A.size:=by
 intro l
 induction l with
 | nil=>intro l' k A A' h hA;obtain rfl:=h.lr;exact ⟨by simpa using hA,by simp⟩
 | cons v l ih=>
  intro l' k A A' h hA
  obtain ⟨v',l',rfl,hv,hl⟩:=h.cons_inv
  have j:LR ρ (A.setIfInBounds (off+k) v).toList (A'.setIfInBounds (off+k) v').toList:=by
   refine ⟨by simpa using hA.1,fun i u u' p q=>?_⟩
   simp only [Array.toList_setIfInBounds,List.getElem?_set] at p q
   by_cases e:off+k=i
   ·rw [if_pos e] at p q
    split at p
    ·split at q
     ·cases p;cases q;exact hv
     ·cases q
    ·cases p
   ·rw [if_neg e] at p q;exact hA.2 i u u' p q
  have:=ih l' (k+1) _ _ hl j
  simp only [List.zipIdx_cons,List.foldl_cons]
  exact ⟨this.1,by rw [this.2];simp⟩
theorem qp (place:Nat→Option (Nat×Nat)):∀ (ps eY:List (Nat×Value)) (A A' B:Array Value),Instr.fill place A ps=some B→ps.map (·.1)=eY.map (·.1)→LR ρ (ps.map (·.2)) (eY.map (·.2))→LR ρ A.toList A'.toList→
  ∃ B',Instr.fill place A' eY=some B'∧LR ρ B.toList B'.toList∧B.size=A.size:=by
 intro ps
 induction ps with
 | nil=>
  intro eY A A' B h h1 h2 hA
  have:eY=[]:=by cases eY<;>simp at h1 ⊢
  subst this
  simp [Instr.fill] at h
  subst h
  exact ⟨A',by simp [Instr.fill],hA,rfl⟩
 | cons x ps ih=>
  intro eY A A' B h h1 h2 hA
  obtain ⟨i,v⟩:=x
  cases eY with
  | nil=>simp at h1
  | cons y eY=>
   obtain ⟨i',v'⟩:=y
   simp only [List.map_cons,List.cons.injEq] at h1 h2
   obtain ⟨rfl,h1⟩:=h1
   have hv:=h2.head
   simp only [Instr.fill] at h ⊢
   cases hp:place i with
   | none=>rw [hp] at h;cases h
   | some pl=>
    obtain ⟨off,size⟩:=pl
    rw [hp] at h
    simp only at h ⊢
    have b7:v'.cells.size=v.cells.size:=by have:=hv.cells.1;simpa using this.symm
    have xr:A'.size=A.size:=by have:=hA.1;simpa using this.symm
    split at h
    ·cases h
    ·rename_i hc
     rw [b7,xr,if_neg hc]
     have hf:=vA off v.cells.toList v'.cells.toList 0 A A' hv.cells hA
     have e:∀ (w:Value) (C:Array Value),w.cells.zipIdx.foldl (fun cs (x:Value×Nat)=>cs.setIfInBounds (off+x.2) x.1) C=(w.cells.toList.zipIdx 0).foldl (fun cs (x:Value×Nat)=>cs.setIfInBounds (off+x.2) x.1) C:=by
      intro w C
      rw [← Array.foldl_toList]
      simp
     rw [e] at h
     obtain ⟨B',j,I,J⟩:=ih eY _ _ B h h1 h2.tail hf.1
     exact ⟨B',by rw [← e] at j;exact j,I,by rw [J];exact hf.2⟩
theorem tc {ev dy:Operand→Value} (ps:Array (Nat×Operand)) (h:∀ x∈ps,VR ρ (ev x.2) (dy x.2)):
  (ps.toList.map fun p=>(p.1,ev p.2)).map (·.1)=(ps.toList.map fun p=>(p.1,dy p.2)).map (·.1)∧LR ρ ((ps.toList.map fun p=>(p.1,ev p.2)).map (·.2)) ((ps.toList.map fun p=>(p.1,dy p.2)).map (·.2)):=by
 refine ⟨by simp,by simp,fun i v v' a b=>?_⟩
 simp only [List.map_map,List.getElem?_map,Function.comp] at a b
 cases hx:ps.toList[i]? with
 | none=>rw [hx] at a;cases a
 | some x=>
  rw [hx] at a b
  simp at a b
  subst a;subst b
  exact h x (by simpa using List.mem_of_getElem? hx)
theorem Bz {α β:Type} (f:α→Option β) (g:α→Sem β) (w:World) (qw:∀ a b,f a=some b→(g a).run P w= .ok b w):∀ (l:List α) (r:List β),l.mapM f=some r→(l.mapM g).run P w= .ok r w:=by
 intro l
 induction l with
 | nil=>intro r h;simp at h;subst h;simp
 | cons a l ih=>
  intro r h
  simp only [List.mapM_cons] at h ⊢
  cases ha:f a with
  | none=>rw [ha] at h;simp at h
  | some b=>
   rw [ha] at h
   cases hl:l.mapM f with
   | none=>rw [hl] at h;simp at h
   | some bs=>
    rw [hl] at h
    simp at h
    subst h
    simp [qw a b ha,ih bs hl]
theorem CZ {t:TypeId} {ps eY:List (Nat×Value)} {v:Value} (h:aBuild P t ps=some v) (h1:ps.map (·.1)=eY.map (·.1)) (h2:LR ρ (ps.map (·.2)) (eY.map (·.2))):
  ∃ v',VR ρ v v'∧∀ w,(Instr.build t eY.toArray).run P w= .ok v' w:=by
 unfold aBuild at h
 cases hz:dR P t with
 | none=>rw [hz] at h;cases h
 | some z=>
  rw [hz] at h
  simp only [Option.bind_some] at h
  split at h
  ·rename_i c3
   have ub:LR ρ z.cells.toList z.cells.toList:=(lI ρ c3).cells
   split at h
   ·rename_i fields hu
    cases hp:fields.toList.mapM (fun f=>(bS P f.type).map fun s=>(f.offset,s)) with
    | none=>rw [hp] at h;cases h
    | some oQ=>
     rw [hp] at h
     simp only [Option.bind_some] at h
     cases hf:Instr.fill (fun i=>oQ[i]?) z.cells ps with
     | none=>rw [hf] at h;cases h
     | some B=>
      rw [hf] at h;simp at h;subst h
      obtain ⟨B',j,I,J⟩:=qp (ρ:=ρ) _ ps eY z.cells z.cells B hf h1 h2 ub
      refine ⟨.agg B',by have:=I.np;simpa using this,fun w=>?_⟩
      have hm:=Bz (P:=P) (fun f:Field=>(bS P f.type).map fun s=>(f.offset,s)) (fun f=>do pure (f.offset,← sizeOf f.type)) w (fun f b hb=>by
       cases hs:bS P f.type with
       | none=>rw [hs] at hb;cases hb
       | some s=>rw [hs] at hb;simp at hb;subst hb;simp [eV hs]) _ _ hp
      have U:(fields.mapM (fun f=>do pure (f.offset,← sizeOf f.type)):Sem (Array (Nat×Nat))).run P w= .ok oQ.toArray w:=by
       rw [Array.mapM_eq_mapM_toList]
       simp only [Sem.run_map,hm,Result.andThen_ok]
      simp only [Instr.build,Sem.run_bind,j0 hz,Result.andThen_ok,cj hu,U]
      simp [j]
   ·rename_i n e hu
    cases hs:bS P e with
    | none=>rw [hs] at h;cases h
    | some s=>
     rw [hs] at h
     simp only [Option.bind_some] at h
     cases hf:Instr.fill (fun i=>some (i * s,s)) z.cells ps with
     | none=>rw [hf] at h;cases h
     | some B=>
      rw [hf] at h;simp at h;subst h
      obtain ⟨B',j,I,J⟩:=qp (ρ:=ρ) _ ps eY z.cells z.cells B hf h1 h2 ub
      refine ⟨.agg B',by have:=I.np;simpa using this,fun w=>?_⟩
      simp only [Instr.build,Sem.run_bind,j0 hz,Result.andThen_ok,cj hu,eV hs]
      simp [j]
   ·cases h
  ·cases h
end
end Go.Proofs.Ytcilejikekccmaa.Am
namespace Go.Proofs.Ytcilejikekccmaa.Am
open Go
variable [Marks]
section
variable {P:Program} {ρ:aQ}
abbrev cO:=Nat→Option dt
def j1 (ρ:aQ) (ae:cO) (k:Nat):Prop:=∃ b B p,ae b=some B∧B.own=true∧ρ b=some p∧p.ae=k
structure bd (ρ:aQ) (w:World) (ae:cO) (next:Nat):Prop where
 dN:∀ b p,ρ b=some p→b<next
 lt:∀ b p,ρ b=some p→p.ae<w.heap.size
 cell:∀ b B p,ae b=some B→ρ b=some p→∀ (i:Nat) v,B.cells[i]?=some v→∃ v',w.cell? ⟨p.ae,p.off+i,none⟩=some v'∧VR ρ v v'
 own:∀ b B p,ae b=some B→ρ b=some p→B.own=true→B.dh=p.sz∧B.cells.length≤p.ext∧
  ∃ cur el fr,w.heap[p.ae]?=some (.cells cur el fr)∧p.off+p.ext≤cur.size∧(fr.1=fr.2∨p.off+p.ext≤fr.1)
 apart:∀ b c B C p q,b≠c→ae b=some B→ae c=some C→ρ b=some p→ρ c=some q→B.own=true→p.ae≠q.ae
 live:∀ b,ae b≠none→b<next
structure Ext (ρ:aQ) (ae:cO) (next:Nat) (w:World) (ρ':aQ) (gA:cO) (next':Nat) (w':World):Prop where
 le:cF ρ ρ'
 os:w'.os=w.os
 tape:w'.tape=w.tape
 output:w'.output=w.output
 size:w.heap.size≤w'.heap.size
 nx:next≤next'
 aT:∀ k,k<w.heap.size→¬ j1 ρ ae k→w'.heap[k]?=w.heap[k]?
 gv:∀ k,k<w.heap.size→j1 ρ' gA k→j1 ρ ae k
 new:∀ b p,ρ' b=some p→ρ b=some p∨(next≤b∧(w.heap.size≤p.ae∨j1 ρ ae p.ae))
 un:∀ b,b<next→ρ b=none→gA b=ae b
theorem Ext.refl (ρ:aQ) (ae:cO) (next:Nat) (w:World):Ext ρ ae next w ρ ae next w:=
 ⟨cF.refl _,rfl,rfl,rfl,Nat.le_refl _,Nat.le_refl _,fun _ _ _=>rfl,fun _ _ h=>h,fun _ _ h=> .inl h,fun _ _ _=>rfl⟩
theorem Ext.trans' {ρ ρ1 ρ2:aQ} {ae j I:cO} {n U m J:Nat} {w w1 w2:World} (h:Ext ρ ae n w ρ1 j U w1) (k:Ext ρ1 j m w1 ρ2 I J w2) (hm:n≤m):Ext ρ ae n w ρ2 I J w2:=
 ⟨h.le.trans k.le,k.os.trans h.os,k.tape.trans h.tape,k.output.trans h.output,Nat.le_trans h.size k.size,Nat.le_trans hm k.nx,
  fun i hi ho=>(k.aT i (Nat.lt_of_lt_of_le hi h.size) (fun q=>ho (h.gv i hi q))).trans (h.aT i hi ho),
  fun i hi q=>h.gv i hi (k.gv i (Nat.lt_of_lt_of_le hi h.size) q),
  fun b p q=>(k.new b p q).elim (fun q=>h.new b p q) (fun q=> .inr ⟨Nat.le_trans hm q.1,by
   by_cases e:p.ae<w.heap.size
   ·exact q.2.elim (fun q=>absurd h.size (by omega)) (fun q=> .inr (h.gv _ e q))
   ·exact .inl (by omega)⟩),
  fun b hb hr=>by
   rw [k.un b (by omega) ?_,h.un b hb hr]
   cases hq:ρ1 b with
   | none=>rfl
   | some p=>exact (h.new b p hq).elim (fun q=>by rw [hr] at q;cases q) (fun q=>absurd q.1 (by omega))⟩
theorem Ext.trans {ρ ρ1 ρ2:aQ} {ae j I:cO} {n J U:Nat} {w w1 w2:World} (h:Ext ρ ae n w ρ1 j J w1) (k:Ext ρ1 j J w1 ρ2 I U w2):Ext ρ ae n w ρ2 I U w2:=
 h.trans' k h.nx
theorem qo {fr:Nat×Nat} {n:Nat} (h:fr.1=fr.2∨n≤fr.1) (j:Nat) (hj:j<n):¬ (fr.1≤j∧j<fr.2):=by omega
theorem h5 {w:World} {b o:Nat} {c:Array Value} {el:TypeId} {fr:Nat×Nat} (h:w.heap[b]?=some (.cells c el fr)):w.cell? ⟨b,o,none⟩=c[o]?:=by simp [World.cell?,h]
theorem bd.world {w w':World} {ae:cO} {next:Nat} (h:bd ρ w ae next) (hh:w'.heap=w.heap):bd ρ w' ae next:=
 ⟨h.dN,fun b p q=>by rw [hh];exact h.lt b p q,fun b B p q r i v hv=>by
  obtain ⟨v',h1,h2⟩:=h.cell b B p q r i v hv
  exact ⟨v',by rw [← h1];exact World.cell?_of_block (by rw [hh]),h2⟩,
  fun b B p q r s=>by rw [hh];exact h.own b B p q r s,h.apart,h.live⟩
def bF (ρ:aQ) (id:Nat) (p:Place):aQ:=fun b=>if b=id then some p else ρ b
def bC (ae:cO) (id:Nat) (B:Option dt):cO:=fun b=>if b=id then B else ae b
theorem cF.bF (ρ:aQ) {id:Nat} (p:Place) (h:ρ id=none):cF ρ (bF ρ id p):=fun b q hq=>by
 unfold Am.bF
 split
 ·rename_i e;subst e;rw [h] at hq;cases hq
 ·exact hq
theorem bd.made {w w1:World} {ae:cO} {next next':Nat} (h:bd ρ w ae next) {id:Nat} (c8:ρ id=none) (bm:id<next') (dq:next≤next')
  {cs a2:List Value} (hl:LR ρ cs a2) {C:Array Value} {el:TypeId} {fr:Nat×Nat} {dh ext:Nat} (b7:w1.heap.size=w.heap.size+1) (hold:∀ k,k<w.heap.size→w1.heap[k]?=w.heap[k]?)
  (iL:w1.heap[w.heap.size]?=some (.cells C el fr)) (hC:∀ (i:Nat) v,a2[i]?=some v→C[i]?=some v) (pD:ext≤C.size) (Ae:cs.length≤ext) (jZ:fr.1=fr.2∨ext≤fr.1):
  bd (bF ρ id ⟨w.heap.size,0,dh,ext⟩) w1 (bC ae id (some ⟨cs,true,dh⟩)) next':=by
 have hr:=cF.bF ρ ⟨w.heap.size,0,dh,ext⟩ c8
 have cH:∀ k p,bF ρ id ⟨w.heap.size,0,dh,ext⟩ k=some p→k≠id→ρ k=some p:=fun k p q hk=>by simpa [bF,hk] using q
 have zv:∀ (k o:Nat),k<w.heap.size→w1.cell? ⟨k,o,none⟩=w.cell? ⟨k,o,none⟩:=fun k o hk=>World.cell?_of_block (hold k hk)
 refine ⟨fun b p q=>?_,fun b p q=>?_,fun b B p q r i v hv=>?_,fun b B p q r s=>?_,fun b c B C' p q ik hB fv hp hq ho=>?_,fun b hb=>?_⟩
 ·by_cases e:b=id
  ·rw [e];exact bm
  ·exact Nat.lt_of_lt_of_le (h.dN b p (cH b p q e)) dq
 ·by_cases e:b=id
  ·subst e
   simp [bF] at q
   subst q
   simp only;omega
  ·have:=h.lt b p (cH b p q e);omega
 ·by_cases e:b=id
  ·subst e
   simp [bF] at r
   simp [bC] at q
   subst r;subst q
   obtain ⟨v',h1,h2⟩:=hl.get hv
   exact ⟨v',by rw [h5 iL];simpa using hC i v' h1,h2.mono hr⟩
  ·have hp:=cH b p r e
   obtain ⟨v',h1,h2⟩:=h.cell b B p (by simpa [bC,e] using q) hp i v hv
   exact ⟨v',by rw [zv _ _ (h.lt b p hp)];exact h1,h2.mono hr⟩
 ·by_cases e:b=id
  ·subst e
   simp [bF] at r
   simp [bC] at q
   subst r;subst q
   exact ⟨rfl,Ae,C,el,fr,iL,by simpa using pD,by simpa using jZ⟩
  ·have hp:=cH b p r e
   obtain ⟨h1,h2,cur,zB,kA,I,J,U⟩:=h.own b B p (by simpa [bC,e] using q) hp s
   exact ⟨h1,h2,cur,zB,kA,by rw [hold _ (h.lt b p hp)];exact I,J,U⟩
 ·by_cases e:b=id
  ·subst e
   simp [bF] at hp
   subst hp
   have:=h.lt c q (cH c q hq (Ne.symm ik))
   simp only;omega
  ·by_cases j:c=id
   ·subst j
    simp [bF] at hq
    subst hq
    have:=h.lt b p (cH b p hp e)
    simp only;omega
   ·exact h.apart b c B C' p q ik (by simpa [bC,e] using hB) (by simpa [bC,j] using fv) (cH b p hp e) (cH c q hq j) ho
 ·by_cases e:b=id
  ·rw [e];exact bm
  ·exact Nat.lt_of_lt_of_le (h.live b (by simpa [bC,e] using hb)) dq
theorem Ext.made {w w1:World} {ae:cO} {next next':Nat} {id:Nat} (c8:ρ id=none) (hn:next≤id) (dq:next≤next') {pl:Place} (n5:pl.ae=w.heap.size) {B:dt}
  (b7:w1.heap.size=w.heap.size+1) (hold:∀ k,k<w.heap.size→w1.heap[k]?=w.heap[k]?) (ho:w1.os=w.os) (ht:w1.tape=w.tape) (hu:w1.output=w.output):
  Ext ρ ae next w (bF ρ id pl) (bC ae id (some B)) next' w1:=by
 refine ⟨cF.bF ρ pl c8,ho,ht,hu,by omega,dq,fun k hk _=>hold k hk,fun k hk ⟨b,B',p,I,J,j,U⟩=>?_,fun b p q=>?_,fun b hb _=>by simp only [bC];rw [if_neg (by omega)]⟩
 ·by_cases e:b=id
  ·subst e
   simp [bF] at j
   subst j
   omega
  ·exact ⟨b,B',p,by simpa [bC,e] using I,J,by simpa [bF,e] using j,U⟩
 ·by_cases e:b=id
  ·subst e
   simp [bF] at q
   subst q
   exact .inr ⟨hn, .inl (by omega)⟩
  ·exact .inl (by simpa [bF,e] using q)
theorem pL (g o:Nat):∀ (vs:List Value) (i:Nat) (w:World) (cur:Array Value) (el:TypeId) (fr:Nat×Nat),w.heap[g]?=some (.cells cur el fr)→o+i+vs.length≤cur.size→
  (∀ j,o+i≤j→j<o+i+vs.length→¬ (fr.1≤j∧j<fr.2))→(∀ v∈vs,v.oneCell'=true)→
  ∃ w' e2,(storeCells ⟨g,o,none⟩ vs i).run P w= .ok () w'∧w'.heap[g]?=some (.cells e2 el fr)∧e2.size=cur.size∧
   (∀ j:Nat,e2[j]?=if o+i≤j∧j<o+i+vs.length then vs[j - (o+i)]? else cur[j]?)∧(∀ k,k≠g→w'.heap[k]?=w.heap[k]?)∧w'.heap.size=w.heap.size∧w'.os=w.os∧w'.tape=w.tape∧w'.output=w.output:=by
 intro vs
 induction vs with
 | nil=>intro i w cur el fr hg _ _ _;exact ⟨w,cur,rfl,hg,rfl,fun j=>by rw [if_neg (by simp only [List.length_nil];omega)],fun _ _=>rfl,rfl,rfl,rfl,rfl⟩
 | cons v vs ih=>
  intro i w cur el fr hg hl hf h1
  simp only [List.length_cons] at hl hf
  have q7:(⟨g,o,none⟩:Addr).add i=⟨g,o+i,none⟩:=by unfold Addr.add;split<;>simp_all
  have hc:w.cell? ⟨g,o+i,none⟩=some cur[o+i]:=by rw [h5 hg];exact Array.getElem?_eq_getElem (by omega)
  have hz:w.frozen? ⟨g,o+i,none⟩=false:=by
   have:=hf (o+i) (by omega) (by omega)
   simp only [World.frozen?,hg]
   simp
   intro h;have:=fun q=>this ⟨h,q⟩;omega
  have a7:(store ((⟨g,o,none⟩:Addr).add i) v).run P w= .ok () (w.setCell ⟨g,o+i,none⟩ v):=by
   rw [q7,run_store P w _ v _ (h1 v (by simp)),hc]
   simp [hz]
  have J:(w.setCell ⟨g,o+i,none⟩ v).heap[g]?=some (.cells (cur.setIfInBounds (o+i) v) el fr):=by
   simp [World.setCell,Array.getElem?_modify,hg]
  obtain ⟨w',e2,r1,U,aa,ab,ad,ae,af,ag,ah⟩:=ih (i+1) (w.setCell ⟨g,o+i,none⟩ v) _ el fr J (by simp;omega) (fun j a b=>hf j (by omega) (by omega)) (fun u hu=>h1 u (by simp [hu]))
  refine ⟨w',e2,?_,U,by rw [aa];simp,fun j=>?_,fun k hk=>?_,by rw [ae];simp [World.setCell],by rw [af];rfl,by rw [ag];rfl,by rw [ah];rfl⟩
  ·simp only [storeCells,Sem.run_bind,a7,Result.andThen_ok,r1]
  ·rw [ab j]
   by_cases e:j=o+i
   ·subst e
    rw [if_neg (by omega),if_pos (by simp only [List.length_cons];omega),Nat.sub_self]
    simp [Array.getElem?_setIfInBounds_self_of_lt (show o+i<cur.size by omega)]
   ·by_cases I:o+(i+1)≤j∧j<o+(i+1)+vs.length
    ·rw [if_pos I,if_pos (by simp;omega)]
     have:j - (o+i)=(j - (o+(i+1)))+1:=by omega
     rw [this,List.getElem?_cons_succ]
    ·rw [if_neg I,if_neg (by simp;omega)]
     rw [Array.getElem?_setIfInBounds_ne (by omega)]
  ·rw [ad k hk]
   simp [World.setCell,Array.getElem?_modify,Ne.symm hk]
end
end Go.Proofs.Ytcilejikekccmaa.Am
namespace Go.Proofs.Ytcilejikekccmaa.Am
open Go
variable [Marks]
section
variable {P:Program} {ρ:aQ}
theorem bd.part {w:World} {ae gA:cO} {next:Nat} (h:bd ρ w ae next) (hb:∀ b B,ρ b≠none→gA b=some B→ae b=some B) (hl:∀ b,gA b≠none→b<next):bd ρ w gA next:=by
 have on:∀ {b p},ρ b=some p→ρ b≠none:=fun q r=>by rw [q] at r;cases r
 exact ⟨h.dN,h.lt,fun b B p q r=>h.cell b B p (hb b B (on r) q) r,fun b B p q r=>h.own b B p (hb b B (on r) q) r,fun b c B C p q e h1 h2 j I=>h.apart b c B C p q e (hb b B (on j) h1) (hb c C (on I) h2) j I,hl⟩
theorem bd.less {w:World} {ae gA:cO} {next:Nat} (h:bd ρ w ae next) (hb:∀ b B,gA b=some B→ae b=some B):bd ρ w gA next:=
 ⟨h.dN,h.lt,fun b B p q=>h.cell b B p (hb b B q),fun b B p q=>h.own b B p (hb b B q),fun b c B C p q e h1 h2=>h.apart b c B C p q e (hb b B h1) (hb c C h2),fun b q=>by
  cases hq:gA b with
  | none=>exact absurd hq q
  | some B=>exact h.live b (by rw [hb b B hq];exact fun q=>by cases q)⟩
theorem bd.wrote {w w':World} {ae:cO} {next:Nat} (h:bd ρ w ae next) {b:Nat} {B:dt} {p:Place} (hB:ae b=some B) (hp:ρ b=some p) (ho:B.own=true)
  {cur e2:Array Value} {el:TypeId} {fr:Nat×Nat} (h1:w.heap[p.ae]?=some (.cells cur el fr)) (h2:w'.heap[p.ae]?=some (.cells e2 el fr)) (ab:e2.size=cur.size)
  (aa:∀ k,k≠p.ae→w'.heap[k]?=w.heap[k]?) (ad:w'.heap.size=w.heap.size)
  {cs:List Value} (hlen:cs.length≤p.ext) (dc:∀ (i:Nat) v,cs[i]?=some v→∃ v',e2[p.off+i]?=some v'∧VR ρ v v'):
  bd ρ w' (bC ae b (some ⟨cs,true,B.dh⟩)) next:=by
 obtain ⟨he,hl,ao,aq,ar,J,af,ag⟩:=h.own b B p hB hp ho
 rw [h1] at J
 injection J with J
 injection J with e1 U ah
 subst e1;subst U;subst ah
 have other:∀ c C q,c≠b→ae c=some C→ρ c=some q→q.ae≠p.ae:=fun c C q hc hC hq e=>h.apart b c B C p q (Ne.symm hc) hB hC hp hq ho e.symm
 refine ⟨h.dN,fun c q hq=>by rw [ad];exact h.lt c q hq,fun c C q hC hq i v hv=>?_,fun c C q hC hq iR=>?_,fun c d C D q r jw hC hD hq hr iR=>?_,fun c hc=>?_⟩
 ·by_cases e:c=b
  ·subst e
   simp [bC] at hC
   subst hC
   rw [hp] at hq;cases hq
   obtain ⟨v',j,I⟩:=dc i v hv
   exact ⟨v',by rw [h5 h2];exact j,I⟩
  ·have fv:ae c=some C:=by simpa [bC,e] using hC
   obtain ⟨v',j,I⟩:=h.cell c C q fv hq i v hv
   exact ⟨v',by rw [← j];exact World.cell?_of_block (aa _ (other c C q e fv hq)),I⟩
 ·by_cases e:c=b
  ·subst e
   simp [bC] at hC
   subst hC
   rw [hp] at hq;cases hq
   exact ⟨he,hlen,e2,el,fr,h2,by rw [ab];exact af,ag⟩
  ·have fv:ae c=some C:=by simpa [bC,e] using hC
   obtain ⟨j,I,c1,c2,ai,aj,al,an⟩:=h.own c C q fv hq iR
   exact ⟨j,I,c1,c2,ai,by rw [aa _ (other c C q e fv hq)];exact aj,al,an⟩
 ·by_cases e:c=b
  ·subst e
   rw [hp] at hq;cases hq
   exact h.apart c d B D p r jw hB (by simpa [bC,Ne.symm jw] using hD) hp hr ho
  ·by_cases U:d=b
   ·subst U
    rw [hp] at hr;cases hr
    exact h.apart c d C B q p jw (by simpa [bC,e] using hC) hB hq hp iR
   ·exact h.apart c d C D q r jw (by simpa [bC,e] using hC) (by simpa [bC,U] using hD) hq hr iR
 ·by_cases e:c=b
  ·rw [e];exact h.live b (by rw [hB];exact fun q=>by cases q)
  ·exact h.live c (by simpa [bC,e] using hc)
theorem Ext.wrote {w w':World} {ae:cO} {next:Nat} {b:Nat} {B:dt} {p:Place} (hB:ae b=some B) (hp:ρ b=some p) (ho:B.own=true)
  (J:∀ k,k≠p.ae→w'.heap[k]?=w.heap[k]?) (ag:w'.heap.size=w.heap.size) (U:w'.os=w.os) (aa:w'.tape=w.tape) (ab:w'.output=w.output) (B':Option dt):
  Ext ρ ae next w ρ (bC ae b B') next w':=by
 refine ⟨cF.refl _,U,aa,ab,by omega,Nat.le_refl _,fun k hk hn=>J k fun e=>hn ⟨b,B,p,hB,ho,hp,e.symm⟩,fun k hk ⟨c,C,q,ad,af,j,I⟩=>?_,fun _ _ h=> .inl h,fun c hc hr=>by
  simp only [bC]
  rw [if_neg (fun e=>by subst e;rw [hp] at hr;cases hr)]⟩
 by_cases e:c=b
 ·subst e
  exact ⟨c,B,p,hB,ho,hp,by rw [hp] at j;cases j;exact I⟩
 ·exact ⟨c,C,q,by simpa [bC,e] using ad,af,j,I⟩
theorem bd.qc {w:World} {ae:cO} {next next':Nat} (h:bd ρ w ae next) {b:Nat} {B:dt} {p:Place} (hB:ae b=some B) (hp:ρ b=some p) (ho:B.own=true) {id:Nat} (c8:ρ id=none) (bm:id<next') (dq:next≤next') (o:Nat) (pg:o≤p.ext)
  (n5:p.off+o+(p.ext - o)=p.off+p.ext):
  bd (bF ρ id ⟨p.ae,p.off+o,p.sz,p.ext - o⟩) w (bC (bC ae b none) id (some ⟨B.cells.drop o,true,B.dh⟩)) next':=by
 have Eu:b≠id:=fun e=>by subst e;rw [hp] at c8;cases c8
 have hr:=cF.bF ρ ⟨p.ae,p.off+o,p.sz,p.ext - o⟩ c8
 have cH:∀ k q,bF ρ id ⟨p.ae,p.off+o,p.sz,p.ext - o⟩ k=some q→k≠id→ρ k=some q:=fun k q hq hk=>by simpa [bF,hk] using hq
 have nv:∀ c C,bC (bC ae b none) id (some ⟨B.cells.drop o,true,B.dh⟩) c=some C→c≠id→c≠b∧ae c=some C:=fun c C hC hc=>by
  by_cases e:c=b
  ·subst e;simp [bC,hc] at hC
  ·exact ⟨e,by simpa [bC,hc,e] using hC⟩
 obtain ⟨he,hl,cur,el,fr,U,aa,ab⟩:=h.own b B p hB hp ho
 refine ⟨fun c q hq=>?_,fun c q hq=>?_,fun c C q hC hq i v hv=>?_,fun c C q hC hq iR=>?_,fun c d C D q r jw hC hD hq ng iR=>?_,fun c hc=>?_⟩
 ·by_cases e:c=id
  ·rw [e];exact bm
  ·exact Nat.lt_of_lt_of_le (h.dN c q (cH c q hq e)) dq
 ·by_cases e:c=id
  ·subst e;simp [bF] at hq;subst hq;exact h.lt b p hp
  ·exact h.lt c q (cH c q hq e)
 ·by_cases e:c=id
  ·subst e
   simp [bF] at hq;subst hq
   simp [bC] at hC;subst hC
   have p0:B.cells[o+i]?=some v:=by simpa using hv
   obtain ⟨v',I,J⟩:=h.cell b B p hB hp (o+i) v p0
   exact ⟨v',by rw [← I];simp [Nat.add_assoc],J.mono hr⟩
  ·obtain ⟨_,fv⟩:=nv c C hC e
   obtain ⟨v',I,J⟩:=h.cell c C q fv (cH c q hq e) i v hv
   exact ⟨v',I,J.mono hr⟩
 ·by_cases e:c=id
  ·subst e
   simp [bF] at hq;subst hq
   simp [bC] at hC;subst hC
   exact ⟨he,by simp;omega,cur,el,fr,U,by simp only;omega,by simp only;omega⟩
  ·obtain ⟨_,fv⟩:=nv c C hC e
   exact h.own c C q fv (cH c q hq e) iR
 ·by_cases e:c=id
  ·subst e
   simp [bF] at hq;subst hq
   obtain ⟨wU,jj⟩:=nv d D hD (Ne.symm jw)
   exact h.apart b d B D p r (Ne.symm wU) hB jj hp (cH d r ng (Ne.symm jw)) ho
  ·obtain ⟨zt,fv⟩:=nv c C hC e
   by_cases j:d=id
   ·subst j
    simp [bF] at ng;subst ng
    exact h.apart c b C B q p zt fv hB (cH c q hq e) hp iR
   ·obtain ⟨_,jj⟩:=nv d D hD j
    exact h.apart c d C D q r jw fv jj (cH c q hq e) (cH d r ng j) iR
 ·by_cases e:c=id
  ·rw [e];exact bm
  ·by_cases j:c=b
   ·subst j;simp [bC,e] at hc
   ·exact Nat.lt_of_lt_of_le (h.live c (by simpa [bC,e,j] using hc)) dq
theorem Ext.qc {w:World} {ae:cO} {next next':Nat} {b:Nat} {B:dt} {p:Place} (hB:ae b=some B) (hp:ρ b=some p) (ho:B.own=true) {id:Nat} (c8:ρ id=none) (hn:next≤id) (dq:next≤next') {pl:Place} (n5:pl.ae=p.ae) (B':dt):
  Ext ρ ae next w (bF ρ id pl) (bC (bC ae b none) id (some B')) next' w:=by
 refine ⟨cF.bF ρ pl c8,rfl,rfl,rfl,Nat.le_refl _,dq,fun _ _ _=>rfl,fun k hk ⟨c,C,q,I,aa,j,J⟩=>?_,fun c q hq=>?_,fun c hc hr=>by
  simp only [bC]
  rw [if_neg (by omega),if_neg (fun e=>by subst e;rw [hp] at hr;cases hr)]⟩
 ·by_cases e:c=id
  ·subst e
   simp [bF] at j;subst j
   exact ⟨b,B,p,hB,ho,hp,by rw [← n5];exact J⟩
  ·by_cases U:c=b
   ·subst U;simp [bC,e] at I
   ·exact ⟨c,C,q,by simpa [bC,e,U] using I,aa,by simpa [bF,e] using j,J⟩
 ·by_cases e:c=id
  ·subst e
   simp [bF] at hq
   subst hq
   exact .inr ⟨hn, .inr ⟨b,B,p,hB,ho,hp,by rw [n5]⟩⟩
  ·exact .inl (by simpa [bF,e] using hq)
theorem Cz {w:World} {h:AH} {a a':Addr} {v:Value} (hs:bd ρ w h.ae h.next) (hl:h.load a=some v) (ha:AR ρ a a'):∃ v',VR ρ v v'∧w.cell? a'=some v':=by
 obtain ⟨fB,p,hp,rfl⟩:=ha
 simp only [AH.load,fB] at hl
 cases hb:h.ae a.block with
 | none=>rw [hb] at hl;cases hl
 | some B=>
  rw [hb] at hl
  obtain ⟨v',j,I⟩:=hs.cell _ B p hb hp a.off v hl
  exact ⟨v',I,j⟩
theorem lq {w:World} {h:AH} {a a':Addr} {n:Nat} {cs:List Value} (hs:bd ρ w h.ae h.next) (hl:h.cq a n=some cs) (ha:AR ρ a a'):∃ a2,LR ρ cs a2∧cs.length=n∧∀ j v,a2[j]?=some v→w.cell? (a'.add j)=some v:=by
 obtain ⟨fB,p,hp,rfl⟩:=ha
 simp only [AH.cq,fB] at hl
 cases hb:h.ae a.block with
 | none=>rw [hb] at hl;cases hl
 | some B=>
  rw [hb] at hl
  simp only [Option.bind_some] at hl
  split at hl
  ·rename_i hle
   simp at hl;subst hl
   have hc:∀ j,j<n→∃ v',w.cell? ⟨p.ae,p.off+(a.off+j),none⟩=some v'∧∀ v,B.cells[a.off+j]?=some v→VR ρ v v':=by
    intro j hj
    have bm:a.off+j<B.cells.length:=by omega
    obtain ⟨v',U,aa⟩:=hs.cell _ B p hb hp (a.off+j) _ (List.getElem?_eq_getElem bm)
    exact ⟨v',U,fun v hv=>by rw [List.getElem?_eq_getElem bm] at hv;cases hv;exact aa⟩
   refine ⟨(List.range n).map fun j=>(w.cell? ⟨p.ae,p.off+(a.off+j),none⟩).getD undef,⟨by simp;omega,fun i v v' x y=>?_⟩,by simp;omega,fun j v hv=>?_⟩
   ·have hi:i<n:=by
     have:=(List.getElem?_eq_some_iff.1 y).1
     simpa using this
    obtain ⟨u,I,J⟩:=hc i hi
    simp [hi,I] at y
    subst y
    apply J
    rw [List.getElem?_take,if_pos hi,List.getElem?_drop] at x
    exact x
   ·have hj:j<n:=by
     have:=(List.getElem?_eq_some_iff.1 hv).1
     simpa using this
    obtain ⟨u,I,J⟩:=hc j hj
    simp [hj,I] at hv
    subst hv
    rw [show (⟨p.ae,p.off+a.off,none⟩:Addr).add j=⟨p.ae,p.off+(a.off+j),none⟩ by
     unfold Addr.add;split<;>simp_all [Nat.add_assoc]]
    exact I
  ·cases hl
theorem r9 {w:World} {h:AH} {t:TypeId} {x x' v:Value} (hs:bd ρ w h.ae h.next) (hl:aLoad P t x h=some v) (hx:VR ρ x x'):∃ v',VR ρ v v'∧(Instr.loadAt t x').run P w= .ok v' w:=by
 unfold aLoad at hl
 split at hl
 ·rename_i a
  obtain ⟨a',rfl,ha⟩:∃ a',x'= .pointer (some a')∧AR ρ a a':=by
   cases hx with
   | ptr h=>exact ⟨_,rfl,h⟩
  cases hd:P.underlying t with
  | none=>rw [hd] at hl;cases hl
  | some d=>
   rw [hd] at hl
   simp only [Option.bind_some] at hl
   by_cases gI:lf d=true
   ·rw [if_pos gI] at hl
    cases hz:bS P t with
    | none=>rw [hz] at hl;cases hl
    | some s=>
     rw [hz] at hl
     simp only [Option.bind_some] at hl
     cases hc:h.cq a s with
     | none=>rw [hc] at hl;cases hl
     | some cs=>
      rw [hc] at hl;simp at hl;subst hl
      obtain ⟨a2,j,I,J⟩:=lq hs hc ha
      refine ⟨.agg a2.toArray,j.np,?_⟩
      have nB:=run_loadCells_list (P:=P) w a' a2 J
      rw [← j.1,I] at nB
      simp [Instr.loadAt,Instr.sureAddr,loadVar,oo hd,gI,eV hz,nB]
   ·rw [if_neg gI] at hl
    obtain ⟨v',j,I⟩:=Cz hs hl ha
    exact ⟨v',j,by simp [Instr.loadAt,Instr.sureAddr,loadVar,oo hd,gI,I]⟩
 ·cases hl
end
end Go.Proofs.Ytcilejikekccmaa.Am
namespace Go.Proofs.Ytcilejikekccmaa.Am
open Go
variable [Marks]
section
variable {P:Program} {ρ:aQ}
theorem D1 (ρ:aQ) {z:Value} (h:clean z=true) (i:Nat):VR ρ (z.cells[i]!) (z.cells[i]!):=by
 have hl:=(lI ρ h).cells
 by_cases hi:i<z.cells.size
 ·have e:z.cells[i]! =z.cells[i]:=by simp [hi]
  rw [e]
  exact hl.2 i _ _ (by simp [hi]) (by simp [hi])
 ·have e:z.cells[i]! =default:=by simp [hi]
  rw [e]
  exact .bool _
theorem tX (ρ:aQ) {z:Value} (h:clean z=true) (m:Nat):LR ρ ((Array.range m).map fun i=>z.cells[i % z.cells.size]!).toList ((Array.range m).map fun i=>z.cells[i % z.cells.size]!).toList:=
 ot ρ fun v hv=>by
  simp at hv
  obtain ⟨i,_,rfl⟩:=hv
  simpa using D1 ρ h (i % z.cells.size)
theorem jO {ρ':aQ} {id n sz ext:Nat} (h:ρ' id=some ⟨n,0,sz,ext⟩):AR ρ' ⟨id,0,none⟩ ⟨n,0,none⟩:=⟨rfl,_,h,rfl⟩
theorem u1 {ev dy:Operand→Value} {o:Oper} {f:gH} (b5:∀ x∈o.op.operands,VR ρ (ev x) (dy x)) (hf:aFresh P ev o.op=some f) (w:World):
  ∃ v' C el,(execOp dy o).run P w= .ok (.value v') (w.alloc (.cells C el))∧LR ρ f.2.1 C.toList∧∀ (ρ':aQ) (id:Nat),cF ρ ρ'→ρ' id=some ⟨w.heap.size,0,f.2.2,C.size⟩→VR ρ' (f.1 id) v':=by
 cases au:o.op<;>rw [au] at hf b5<;>simp only [aFresh] at hf<;>try (cases hf;done)
 case alloc e=>
  unfold nq at hf
  cases hz:dR P e with
  | none=>rw [hz] at hf;cases hf
  | some z=>
   rw [hz] at hf
   simp only [Option.bind_some] at hf
   split at hf
   ·rename_i hc
    simp at hf;subst hf
    refine ⟨_,z.cells,e,?_,(lI ρ hc).cells,fun ρ' id hr hi=> .ptr (jO hi)⟩
    simp [execOp,au,Instr.alloc,j0 hz,newVar,newRow]
   ·cases hf
 case box e x=>
  simp [ni] at hf;subst hf
  have hx:=b5 x (by simp [Op.operands])
  refine ⟨_,(dy x).cells,e,?_,hx.cells,fun ρ' id hr hi=> .ptr (jO hi)⟩
  simp [execOp,au,Instr.box,newVar,newRow]
 case buildSlice t len ps=>
  unfold aBuildSlice at hf
  split at hf
  ·rename_i e hu
   cases hs:bS P e with
   | none=>rw [hs] at hf;cases hf
   | some s=>
    rw [hs] at hf
    simp only [Option.bind_some] at hf
    cases hz:dR P e with
    | none=>rw [hz] at hf;cases hf
    | some z=>
     rw [hz] at hf
     simp only [Option.bind_some] at hf
     split at hf
     ·rename_i hc
      obtain ⟨c3,hlen,j⟩:=hc
      cases ke:Instr.fill (fun i=>some (i * s,s)) ((Array.range (len * s)).map fun i=>z.cells[i % z.cells.size]!) (ps.toList.map fun p=>(p.1,ev p.2)) with
      | none=>rw [ke] at hf;cases hf
      | some B=>
       rw [ke] at hf;simp at hf;subst hf
       obtain ⟨I,J⟩:=tc (ρ:=ρ) (ev:=ev) (dy:=dy) ps (fun x hx=>b5 x.2 (by simp [Op.operands];exact ⟨x.1,hx⟩))
       obtain ⟨B',r1,U,ae⟩:=qp (ρ:=ρ) _ _ _ _ _ B ke I J (tX ρ c3 (len * s))
       refine ⟨.slice (some ⟨w.heap.size,0,none⟩) len len,B',e,?_,U,fun ρ' id hr hi=> .sl (fun h=>h) (Nat.le_refl _) (fun _=>jO hi) (fun h=>by omega)⟩
       have jo:(ps.map fun x=>(x.1,dy x.2)).toList=ps.toList.map fun p=>(p.1,dy p.2):=by simp
       by_cases h0:len * s=0
       ·have Eh:Instr.fill (fun i=>some (i * s,s)) #[] (ps.toList.map fun p=>(p.1,dy p.2))=some B':=by rw [h0] at r1;simpa [Array.range_zero'] using r1
        simp only [execOp,au,Instr.buildSlice,Sem.run_bind,cj hu,eV hs,Result.andThen_ok]
        simp [h0,Array.range_zero',Eh,newRow]
       ·have kM:¬ 16777216<len * s:=by omega
        simp only [execOp,au,Instr.buildSlice,Sem.run_bind,cj hu,eV hs,Result.andThen_ok]
        simp [h0,kM,j0 hz,newRow,r1]
     ·cases hf
  ·cases hf
 case makeSlice t l c=>
  unfold aMakeSlice at hf
  split at hf
  ·rename_i e k n aa m hu hl ab
   have mj:=b5 l (by simp [Op.operands])
   have r2:=b5 c (by simp [Op.operands])
   rw [hl] at mj
   rw [ab] at r2
   generalize iZ:dy l=l' at mj
   generalize dI:dy c=c' at r2
   cases mj;cases r2
   cases hs:bS P e with
   | none=>rw [hs] at hf;cases hf
   | some s=>
    rw [hs] at hf
    simp only [Option.bind_some] at hf
    cases hb:je P e with
    | none=>rw [hb] at hf;cases hf
    | some b4=>
     rw [hb] at hf
     simp only [Option.bind_some] at hf
     cases hz:dR P e with
     | none=>rw [hz] at hf;cases hf
     | some z=>
      rw [hz] at hf
      simp only [Option.bind_some] at hf
      split at hf
      ·rename_i hc
       obtain ⟨c3,j,ad,rfl,iN,rP⟩:=hc
       simp at hf;subst hf
       refine ⟨.slice (some ⟨w.heap.size,0,none⟩) n.toNat n.toNat,(Array.range (n.toNat * s)).map fun i=>z.cells[i % z.cells.size]!,e,?_,by simpa using tX ρ c3 (n.toNat * s),fun ρ' id hr hi=> .sl (fun h=>h) (Nat.le_refl _) (fun _=>jO hi) (fun h=>by omega)⟩
       obtain ⟨i,hi,qD⟩:∃ i,P.info? e=some i∧i.bytes=b4:=by
        unfold je at hb
        cases hi:P.info? e with
        | none=>rw [hi] at hb;cases hb
        | some i=>rw [hi] at hb;exact ⟨i,rfl,by simpa using hb⟩
       have Eb:i.size=s:=by unfold bS at hs;rw [hi] at hs;simpa using hs
       have BT:i.zero=some z:=by unfold dR at hz;rw [hi] at hz;simpa using hz
       have:=run_make (P:=P) w t e i z hu hi BT k aa n n ad (Int.le_refl _) (by rw [qD];exact iN) (by omega)
       simp only [execOp,au,iZ,dI,Sem.run_bind,this,Result.andThen_ok,Sem.run_pure,madeCells,Eb]
      ·cases hf
  ·cases hf
end
end Go.Proofs.Ytcilejikekccmaa.Am
namespace Go.Proofs.Ytcilejikekccmaa.Am
open Go
variable [Marks]
section
variable {P:Program} {ρ:aQ}
theorem gW (h:AH) (cs:List Value) (z:Nat):(h.alloc cs z).ae=bC h.ae h.next (some ⟨cs,true,z⟩):=by funext b;simp [AH.eL,bC]
theorem km (h:AH) (c:Nat) (x:Option dt):(h.put c x).ae=bC h.ae c x:=by funext b;simp [AH.gE,bC]
theorem uk (ρ:aQ) (l:List UInt8):LR ρ (l.map eO) (l.map eO):=ot ρ fun v hv=>by
 simp at hv
 obtain ⟨b,_,rfl⟩:=hv
 exact .int _ _
theorem Bp {w:World} {h:AH} {s m:Nat} {x x':Value} {cs:List Value} (hs:bd ρ w h.ae h.next) (hn:aNews s x h=some (m,cs)) (hx:VR ρ x x'):
  ∃ a2,LR ρ cs a2∧cs.length=m * s∧(Builtin.lenOf x').run P w= .ok m w∧∀ w2:World,w2.heap=w.heap→(Builtin.firstCells s m x').run P w2= .ok a2.toArray w2:=by
 unfold aNews at hn
 split at hn
 ·rename_i n c
  split at hn
  ·rename_i h0
   simp at hn
   obtain ⟨rfl,rfl⟩:=hn
   subst h0
   cases hx
   exact ⟨[],LR.nil ρ,by simp,by simp [Builtin.lenOf],fun w2 _=>by simp [Builtin.firstCells]⟩
  ·cases hn
 ·rename_i a n c
  cases hc:h.cq a (n * s) with
  | none=>rw [hc] at hn;cases hn
  | some l=>
   rw [hc] at hn;simp at hn
   obtain ⟨rfl,rfl⟩:=hn
   obtain ⟨a',c',rfl,I⟩:∃ a' c',x'= .slice (some a') n c'∧(0<n→AR ρ a a'):=by
    cases hx with
    | sl h1 h2 I ab=>exact ⟨_,_,rfl,I⟩
   by_cases h0:n=0
   ·subst h0
    have hl:l=[]:=by
     unfold AH.cq at hc
     split at hc
     ·cases hb:h.ae a.block with
      | none=>rw [hb] at hc;cases hc
      | some B=>
       rw [hb] at hc
       simp at hc
       exact by simpa using hc.2.symm
     ·cases hc
    subst hl
    exact ⟨[],LR.nil ρ,by simp,by simp [Builtin.lenOf],fun w2 _=>by simp [Builtin.firstCells,loadCells,loadCellsFrom]⟩
   ·obtain ⟨a2,J,U,aa⟩:=lq hs hc (I (by omega))
    refine ⟨a2,J,U,by simp [Builtin.lenOf],fun w2 hw=>?_⟩
    have:=run_loadCells_list (P:=P) w2 a' a2 (fun j v hv=>by rw [← aa j v hv];exact World.cell?_of_block (by rw [hw]))
    rw [← J.1,U] at this
    simpa [Builtin.firstCells] using this
 ·rename_i b
  split at hn
  ·rename_i h1
   simp at hn
   obtain ⟨rfl,rfl⟩:=hn
   cases hx
   refine ⟨b.data.toList.map eO,uk ρ _,by simp [h1],by simp [Builtin.lenOf],fun w2 _=>?_⟩
   have e:(b.extract 0 b.size)=b:=by simp
   simp only [Builtin.firstCells,e,Sem.run_pure]
   congr 1
   apply Array.ext'
   simp [eO]
  ·cases hn
 ·cases hn
theorem room_le {pM cap b4:Nat} (h:cap<pM) (hb:pM * b4≤140737488355328):¬ (2 ^ 48<Builtin.nextslicecap pM cap * b4):=by
 have:=growslice_fits h hb
 omega
theorem zK {w:World} {h h':AH} {t tx ty:TypeId} {sv x p5 x' v:Value} (hs:bd ρ w h.ae h.next) (ha:aAppend P t tx sv x h=some (v,h')) (oW:VR ρ sv p5) (hx:VR ρ x x'):
  ∃ ρ' v' w',(Builtin.append_ #[t,tx] ty #[p5,x']).run P w= .ok v' w'∧VR ρ' v v'∧bd ρ' w' h'.ae h'.next∧Ext ρ h.ae h.next w ρ' h'.ae h'.next w':=by
 unfold aAppend at ha
 split at ha
 ·rename_i e dx base n c hu qI
  split at ha
  ·rename_i mo
   have ag:(∃ q,dx= .slice q)∨dx= .string:=by cases dx<;>simp [appKind] at mo ⊢
   cases b7:bS P e with
   | none=>rw [b7] at ha;cases ha
   | some s=>
    rw [b7] at ha;simp only [Option.bind_some] at ha
    cases iN:je P e with
    | none=>rw [iN] at ha;cases ha
    | some b4=>
     rw [iN] at ha;simp only [Option.bind_some] at ha
     cases hz:dR P e with
     | none=>rw [hz] at ha;cases ha
     | some z=>
      rw [hz] at ha;simp only [Option.bind_some] at ha
      cases hn:aNews s x h with
      | none=>rw [hn] at ha;cases ha
      | some mx=>
       obtain ⟨m,news⟩:=mx
       rw [hn] at ha;simp only [Option.bind_some] at ha
       split at ha
       ·rename_i hc
        obtain ⟨c3,aU,yj,BQ,Ew,e7⟩:=hc
        obtain ⟨g8,hl,hlen,lH,nt⟩:=Bp (P:=P) hs hn hx
        have n4:∀ u∈g8,u.oneCell'=true:=by
         intro u kg
         obtain ⟨i,hi⟩:=List.mem_iff_getElem?.1 kg
         have di:i<news.length:=by rw [hl.1];exact (List.getElem?_eq_some_iff.1 hi).1
         have hv:=hl.2 i _ u (List.getElem?_eq_getElem di) hi
         rw [hv.rb]
         exact List.all_eq_true.1 e7 _ (List.getElem_mem di)
        obtain ⟨i,hi,qD⟩:∃ i,P.info? e=some i∧i.bytes=b4:=by
         unfold je at iN
         cases hi:P.info? e with
         | none=>rw [hi] at iN;cases iN
         | some i=>rw [hi] at iN;exact ⟨i,rfl,by simpa using iN⟩
        have xg:∀ w:World,(typeInfo e).run P w= .ok i w:=fun w=>by simp [typeInfo,hi]
        obtain ⟨g9,c',rfl,al,av,kF,CS⟩:∃ g9 c',p5= .slice g9 n c'∧(c=n→c'=n)∧n≤c'∧(base=none→g9=none)∧
          (∀ a,base=some a→∃ a',g9=some a'∧(0<n→AR ρ a a')∧(c=n+1→AR ρ a a'∧∃ p,ρ a.block=some p∧a.off+c' * p.sz≤p.ext)):=by
         cases oW with
         | ga h1 h2=>exact ⟨_,_,rfl,h1,h2,fun _=>rfl,fun a h=>(by cases h)⟩
         | sl h1 h2 aw ax=>exact ⟨_,_,rfl,h1,h2,fun h=>(by cases h),fun a h=>(by cases h;exact ⟨_,rfl,aw,ax⟩)⟩
        have c8:ρ h.next=none:=by
         cases hr:ρ h.next with
         | none=>rfl
         | some p=>have:=hs.dN _ p hr;omega
        have grow:∀ (eR:List Value),c'<n+m→(∀ w2:World,w2.heap=w.heap→(Builtin.firstCells s n (.slice g9 n c')).run P w2= .ok eR.toArray w2)→
          (Builtin.append_ #[t,tx] ty #[.slice g9 n c',x']).run P w= .ok (.slice (some ⟨w.heap.size,0,none⟩) (n+m) (grownCap w (n+m) c' e))
           (w.drew.alloc (.cells (eR.toArray++g8.toArray++Builtin.zeroCells z.cells (grownCap w (n+m) c' e - (n+m))) e)):=by
         intro eR bm hold
         have ay:¬ (n+m≤c'):=by omega
         have az:¬ (((n+m:Nat):Int)>IntKind.i64.max∧(False∨i.bytes=0)):=by
          have:IntKind.i64.max=9223372036854775807:=by decide
          rw [this];omega
         have aA:¬ (Builtin.nextslicecap (n+m) c' * i.bytes>2 ^ 48):=by rw [qD];exact room_le bm BQ
         have h1:=hold w.drew rfl
         have h2:=nt w.drew rfl
         have hq:(Question.appendCap (n+m) c' e).forced=false:=rfl
         unfold Builtin.append_
         simp only [List.getElem?_toArray,List.getElem?_cons_zero,List.getElem?_cons_succ,Sem.run_bind,cj hu,eV b7,cj qI,Result.andThen_ok,Sem.run_pure,lH]
         rcases ag with ⟨q,rfl⟩ | rfl
         all_goals
          simp only [Bool.false_eq_true,if_false,Sem.run_bind,lH,Result.andThen_ok,ay,Sem.run_ite,xg,az,aA,run_choose,hq,run_askRoom,World.drew_eq,h1,Bool.not_false,if_true,h2,j0 hz,newRow,run_newObj,World.alloc_eq,Sem.run_pure]
          rfl
        have zc:∀ k,(Builtin.zeroCells z.cells k).size=k * s:=fun k=>by simp [Builtin.zeroCells,yj]
        have grown:∀ (cH eR:List Value),LR ρ cH eR→cH.length=n * s→c'<n+m→(∀ w2:World,w2.heap=w.heap→(Builtin.firstCells s n (.slice g9 n c')).run P w2= .ok eR.toArray w2)→
          ∀ (dg:cO),(∀ b B,dg b=some B→h.ae b=some B)→(∀ b,ρ b=none→dg b=h.ae b)→
          ∃ ρ' v' w',(Builtin.append_ #[t,tx] ty #[.slice g9 n c',x']).run P w= .ok v' w'∧VR ρ' (.slice (some ⟨h.next,0,none⟩) (n+m) (n+m+1)) v'∧
           bd ρ' w' (bC dg h.next (some ⟨cH++news,true,s⟩)) (h.next+1)∧Ext ρ h.ae h.next w ρ' (bC dg h.next (some ⟨cH++news,true,s⟩)) (h.next+1) w':=by
         intro cH eR ho ta bm hold dg an aB
         have hg:=grownCap_ge w (n+m) c' e
         refine ⟨bF ρ h.next ⟨w.heap.size,0,s,grownCap w (n+m) c' e * s⟩,_,_,grow eR bm hold,?_,?_,?_⟩
         ·refine .sl (fun q=>by omega) hg (fun _=>jO (by simp [bF];exact ⟨rfl,rfl⟩)) (fun _=>⟨jO (by simp [bF];exact ⟨rfl,rfl⟩),_,by simp [bF];rfl,by simp⟩)
         ·have aC:bd ρ w.drew dg h.next:=(hs.less an).world rfl
          refine bd.made (fr:=(0,0)) (el:=e) (C:=eR.toArray++g8.toArray++Builtin.zeroCells z.cells (grownCap w (n+m) c' e - (n+m))) aC c8 (Nat.lt_succ_self _) (Nat.le_succ _) (ho.append hl) (by simp) (fun k hk=>heap_alloc_old w.drew _ k hk) (heap_alloc_new w.drew _) ?_ ?_ ?_ (.inl rfl)
          ·intro i v hv
           have aD:i<(eR++g8).length:=(List.getElem?_eq_some_iff.1 hv).1
           rw [Array.getElem?_append_left (by simpa using aD)]
           simpa using hv
          ·have h1:eR.length=n * s:=by rw [← ho.1];exact ta
           have h2:g8.length=m * s:=by rw [← hl.1];exact hlen
           simp only [Array.size_append,List.size_toArray,h1,h2,zc,← Nat.add_mul]
           exact Nat.mul_le_mul_right _ (by omega)
          ·rw [List.length_append,ta,hlen,← Nat.add_mul]
           exact Nat.mul_le_mul_right _ hg
         ·have hE:=Ext.made (ρ:=ρ) (w:=w) (ae:=h.ae) (next:=h.next) (next':=h.next+1) (w1:=w.drew.alloc (.cells (eR.toArray++g8.toArray++Builtin.zeroCells z.cells (grownCap w (n+m) c' e - (n+m))) e)) c8 (Nat.le_refl _) (Nat.le_succ _) (pl:=⟨w.heap.size,0,s,grownCap w (n+m) c' e * s⟩) rfl (B:=⟨cH++news,true,s⟩) (by simp) (fun k hk=>heap_alloc_old w.drew _ k hk) rfl rfl rfl
          exact ⟨hE.le,hE.os,hE.tape,hE.output,hE.size,hE.nx,hE.aT,fun k hk ⟨b,B,p,I,J,ad,ao⟩=>by
           by_cases eb:b=h.next
           ·subst eb;exact hE.gv k hk ⟨h.next,B,p,by simpa [bC] using I,J,ad,ao⟩
           ·exact hE.gv k hk ⟨b,B,p,by simpa [bC,eb] using an b B (by simpa [bC,eb] using I),J,ad,ao⟩,hE.new,fun b hb hr=>by
            simp only [bC]
            rw [if_neg (by omega)]
            exact aB b hr⟩
        by_cases hm:m=0
        ·
         rw [if_pos hm] at ha
         simp at ha
         obtain ⟨rfl,rfl⟩:=ha
         subst hm
         have aE:g8=[]:=by
          have h1:news.length=0:=by rw [hlen];simp
          have:g8.length=0:=by rw [← hl.1];exact h1
          exact List.eq_nil_of_length_eq_zero this
         subst aE
         refine ⟨ρ, .slice g9 n c',w,?_,oW,hs,Ext.refl _ _ _ _⟩
         have h2:=nt w rfl
         unfold Builtin.append_
         simp only [List.getElem?_toArray,List.getElem?_cons_zero,List.getElem?_cons_succ,Sem.run_bind,cj hu,eV b7,cj qI,Result.andThen_ok,Sem.run_pure,lH]
         rcases ag with ⟨q,rfl⟩ | rfl
         all_goals
          simp only [Bool.false_eq_true,if_false,Sem.run_bind,lH,Result.andThen_ok,Nat.add_zero,av,if_true,Bool.not_false,h2]
          cases g9<;>simp [storeCells]
        ·rw [if_neg hm] at ha
         cases oC:base with
         | none=>
          rw [oC] at ha
          simp only at ha
          split at ha
          ·rename_i h0
           obtain ⟨rfl,rfl⟩:=h0
           simp at ha
           obtain ⟨rfl,rfl⟩:=ha
           obtain rfl:=kF oC
           have:=al rfl
           subst this
           obtain ⟨ρ',v',w',r1,U,aa,ab⟩:=grown [] [] (LR.nil ρ) (by simp) (by omega) (fun w2 _=>by simp [Builtin.firstCells]) h.ae (fun _ _ h=>h) (fun _ _=>rfl)
           simp only [Nat.zero_add,List.nil_append] at U aa ab
           exact ⟨ρ',v',w',r1,U,by rw [gW];exact aa,by rw [gW];exact ab⟩
          ·cases ha
         | some a=>
          rw [oC] at ha
          simp only at ha
          obtain ⟨a',rfl,m9,CU⟩:=CS a oC
          split at ha
          ·rename_i fW
           have s5:=al fW
           cases hold:h.cq a (n * s) with
           | none=>rw [hold] at ha;cases ha
           | some cH=>
            rw [hold] at ha;simp at ha
            obtain ⟨rfl,rfl⟩:=ha
            have xm:∃ eR,LR ρ cH eR∧cH.length=n * s∧∀ w2:World,w2.heap=w.heap→(Builtin.firstCells s n (.slice (some a') n c')).run P w2= .ok eR.toArray w2:=by
             by_cases h0:n=0
             ·subst h0
              have aF:cH=[]:=by
               unfold AH.cq at hold
               split at hold
               ·cases hb:h.ae a.block with
                | none=>rw [hb] at hold;cases hold
                | some B=>rw [hb] at hold;simp at hold;exact by simpa using hold.2.symm
               ·cases hold
              subst aF
              exact ⟨[],LR.nil ρ,by simp,fun w2 _=>by simp [Builtin.firstCells,loadCells,loadCellsFrom]⟩
             ·obtain ⟨a2,I,J,ad⟩:=lq hs hold (m9 (by omega))
              refine ⟨a2,I,J,fun w2 hw=>?_⟩
              have:=run_loadCells_list (P:=P) w2 a' a2 (fun j v hv=>by rw [← ad j v hv];exact World.cell?_of_block (by rw [hw]))
              rw [← I.1,J] at this
              simpa [Builtin.firstCells] using this
            obtain ⟨eR,aG,aH,aI⟩:=xm
            obtain ⟨ρ',v',w',r1,U,aa,ab⟩:=grown cH eR aG aH (by omega) aI h.ae (fun _ _ h=>h) (fun _ _=>rfl)
            exact ⟨ρ',v',w',r1,U,by rw [gW];exact aa,by rw [gW];exact ab⟩
          ·split at ha
           ·rename_i fW wq
            obtain ⟨mU,p2⟩:=wq
            obtain ⟨B0,p,hp,pD⟩:=CU mU
            cases hB:h.ae a.block with
            | none=>rw [hB] at ha;cases ha
            | some B=>
             rw [hB] at ha
             simp only [Option.bind_some] at ha
             split at ha
             ·rename_i aJ
              obtain ⟨eN,vn,rJ⟩:=aJ
              simp at ha
              obtain ⟨rfl,rfl⟩:=ha
              obtain ⟨_,p',eE,rfl⟩:=B0
              rw [hp] at eE;cases eE
              obtain ⟨he,Ez,cur,el,fr,ah,aW,aK⟩:=hs.own _ B p hB hp eN
              have jo:p.sz=s:=by rw [← he];exact vn
              rw [jo] at pD
              by_cases qx:n+m≤c'
              ·
               have Ej:(n+m) * s≤c' * s:=Nat.mul_le_mul_right _ qx
               have iy:(n+m) * s=n * s+m * s:=Nat.add_mul _ _ _
               have aX:g8.length=m * s:=by rw [← hl.1];exact hlen
               obtain ⟨w',e2,r1,U,aa,ab,aq,ar,aL,aM,aN⟩:=pL (P:=P) p.ae (p.off+a.off+n * s) g8 0 w cur el fr ah (by omega) (fun j I J=>qo aK j (by omega)) n4
               have g2:(Builtin.append_ #[t,tx] ty #[.slice (some ⟨p.ae,p.off+a.off,none⟩) n c',x']).run P w= .ok (.slice (some ⟨p.ae,p.off+a.off,none⟩) (n+m) c') w':=by
                have h2:=nt w rfl
                have q7:(⟨p.ae,p.off+a.off,none⟩:Addr).add (n * s)=⟨p.ae,p.off+a.off+n * s,none⟩:=by unfold Addr.add;split<;>simp_all
                unfold Builtin.append_
                simp only [List.getElem?_toArray,List.getElem?_cons_zero,List.getElem?_cons_succ,Sem.run_bind,cj hu,eV b7,cj qI,Result.andThen_ok,Sem.run_pure,lH]
                rcases ag with ⟨q,rfl⟩ | rfl
                all_goals
                 simp only [Bool.false_eq_true,if_false,Sem.run_bind,lH,Result.andThen_ok,qx,if_true,Bool.not_false,h2,q7,r1,Sem.run_pure,List.toList_toArray]
               have nh:∀ (i:Nat) v,(B.cells++news)[i]?=some v→∃ v',e2[p.off+i]?=some v'∧VR ρ v v':=by
                intro i v hv
                rw [ab]
                by_cases aO:i<B.cells.length
                ·rw [List.getElem?_append_left aO] at hv
                 obtain ⟨v',I,J⟩:=hs.cell _ B p hB hp i v hv
                 rw [h5 ah] at I
                 exact ⟨v',by rw [if_neg (by omega)];exact I,J⟩
                ·rw [List.getElem?_append_right (by omega)] at hv
                 obtain ⟨v',I,J⟩:=hl.get hv
                 have aY:i - B.cells.length<g8.length:=(List.getElem?_eq_some_iff.1 I).1
                 exact ⟨v',by rw [if_pos (by omega)];rw [← I];congr 1;omega,J⟩
               have aP:(B.cells++news).length≤p.ext:=by rw [List.length_append];omega
               have aR:=hs.wrote hB hp eN ah U aa aq ar aP nh
               have aS:=Ext.wrote (next:=h.next) hB hp eN aq ar aL aM aN (some ⟨B.cells++news,true,B.dh⟩)
               have au:bC h.ae a.block (some ⟨B.cells++news,true,B.dh⟩) a.block=some ⟨B.cells++news,true,B.dh⟩:=by simp [bC]
               have ai:=aR.qc au hp rfl (id:=h.next) (next':=h.next+1) c8 (Nat.lt_succ_self _) (Nat.le_succ _) a.off (by omega) (by omega)
               have aj:=Ext.qc (w:=w') (next:=h.next) (next':=h.next+1) au hp rfl (id:=h.next) c8 (Nat.le_refl _) (Nat.le_succ _) (pl:=⟨p.ae,p.off+a.off,p.sz,p.ext - a.off⟩) rfl ⟨(B.cells++news).drop a.off,true,B.dh⟩
               have qA:(B.cells++news).drop a.off=B.cells.drop a.off++news:=by rw [List.drop_append_of_le_length (by omega)]
               have fO:bC (bC (bC h.ae a.block (some ⟨B.cells++news,true,B.dh⟩)) a.block none) h.next (some ⟨(B.cells++news).drop a.off,true,B.dh⟩)=((h.put a.block none).alloc (B.cells.drop a.off++news) s).ae:=by
                rw [gW,AH.mB,km,qA,vn]
                funext b
                simp only [bC]
                by_cases e1:b=h.next
                ·rw [if_pos e1,if_pos e1]
                ·rw [if_neg e1,if_neg e1]
                 by_cases af:b=a.block
                 ·rw [if_pos af,if_pos af]
                 ·rw [if_neg af,if_neg af,if_neg af]
               simp only at ai aj
               rw [fO] at ai aj
               refine ⟨_,_,w',g2,?_,ai,aS.trans aj⟩
               have j7:bF ρ h.next ⟨p.ae,p.off+a.off,p.sz,p.ext - a.off⟩ h.next=some ⟨p.ae,p.off+a.off,p.sz,p.ext - a.off⟩:=by simp [bF]
               refine .sl (fun q=>by omega) qx (fun _=>⟨rfl,_,j7,by simp⟩) (fun _=>⟨⟨rfl,_,j7,by simp⟩,_,j7,?_⟩)
               simp only [jo];omega
              ·
               have hold:h.cq a (n * s)=some (B.cells.drop a.off):=by
                simp only [AH.cq,p2,hB,Option.bind_some]
                rw [if_pos (by omega),List.take_of_length_le (by simp;omega)]
               obtain ⟨a2,I,J,ad⟩:=lq hs hold ⟨p2,p,hp,rfl⟩
               obtain ⟨ρ',v',w',r1,U,aa,ab⟩:=grown _ a2 I J (by omega) (fun w2 hw=>by
                have:=run_loadCells_list (P:=P) w2 ⟨p.ae,p.off+a.off,none⟩ a2 (fun j v hv=>by rw [← ad j v hv];exact World.cell?_of_block (by rw [hw]))
                rw [← I.1,J] at this
                simpa [Builtin.firstCells] using this) (bC h.ae a.block none) (fun b C hC=>by
                 by_cases e:b=a.block
                 ·subst e;simp [bC] at hC
                 ·simpa [bC,e] using hC) (fun b hr=>by
                 simp only [bC]
                 rw [if_neg (fun e=>by subst e;rw [hp] at hr;cases hr)])
               exact ⟨ρ',v',w',r1,U,by rw [gW,km];exact aa,by rw [gW,km];exact ab⟩
             ·cases ha
           ·cases ha
       ·cases ha
  ·cases ha
 ·cases ha
end
end Go.Proofs.Ytcilejikekccmaa.Am
namespace Go.Proofs.Ytcilejikekccmaa.Am
open Go
variable [Marks]
section
variable {P:Program} {ρ:aQ}
theorem zR:∀ (cs a2:List Value) (bs:List UInt8),bytesOf cs=some bs→LR ρ cs a2→∃ ns:List Int,a2=ns.map (Value.int .u8)∧bs=ns.map fun n=>UInt8.ofNat n.toNat:=by
 intro cs
 induction cs with
 | nil=>intro a2 bs h hl;obtain rfl:=hl.lr;simp [bytesOf] at h;subst h;exact ⟨[],rfl,rfl⟩
 | cons c cs ih=>
  intro a2 bs h hl
  obtain ⟨c',a2,rfl,hc,iZ⟩:=hl.cons_inv
  cases hc<;>first | (simp only [bytesOf] at h;cases h;done) | skip
  rename_i k n
  cases k<;>first | (simp only [bytesOf] at h;cases h;done) | skip
  simp [bytesOf] at h
  obtain ⟨jq,h1,rfl⟩:=h
  obtain ⟨ns,rfl,rfl⟩:=ih _ _ h1 iZ
  exact ⟨n::ns,rfl,rfl⟩
theorem wb:∀ (ns:List Int) (l:List UInt8),ns.foldl (fun (r:ByteArray) n=>r.push (UInt8.ofNat n.toNat)) ⟨l.toArray⟩=⟨(l++ns.map fun n=>UInt8.ofNat n.toNat).toArray⟩:=by
 intro ns
 induction ns with
 | nil=>intro l;simp
 | cons n ns ih=>
  intro l
  simp only [List.foldl_cons,List.map_cons]
  have:(⟨l.toArray⟩:ByteArray).push (UInt8.ofNat n.toNat)=⟨(l++[UInt8.ofNat n.toNat]).toArray⟩:=by
   simp [ByteArray.push]
  rw [this,ih]
  simp
theorem bd.marked {w:World} {ae:cO} {next:Nat} (h:bd ρ w ae next) {g:Nat} {cur:Array Value} {el:TypeId} {fr:Nat×Nat} (hg:w.heap[g]?=some (.cells cur el fr)):
  bd ρ (w.freeze ⟨g,cur.size,none⟩ 1) ae next∧(∀ k,k≠g→(w.freeze ⟨g,cur.size,none⟩ 1).heap[k]?=w.heap[k]?)∧(w.freeze ⟨g,cur.size,none⟩ 1).heap.size=w.heap.size:=by
 have pK:∀ k,k≠g→(w.freeze ⟨g,cur.size,none⟩ 1).heap[k]?=w.heap[k]?:=fun k hk=>by simp [World.freeze,Array.getElem?_modify,Ne.symm hk]
 have dS:∃ kA,(w.freeze ⟨g,cur.size,none⟩ 1).heap[g]?=some (.cells cur el kA)∧(kA=(cur.size,cur.size+1)∨(fr.1≠fr.2∧kA=(min fr.1 cur.size,max fr.2 (cur.size+1)))):=by
  obtain ⟨lo,hi⟩:=fr
  by_cases e:lo=hi
  ·refine ⟨(cur.size,cur.size+1),?_, .inl rfl⟩
   simp [World.freeze,Array.getElem?_modify,hg,e]
  ·refine ⟨(min lo cur.size,max hi (cur.size+1)),?_, .inr ⟨e,rfl⟩⟩
   simp [World.freeze,Array.getElem?_modify,hg,e]
 have b7:(w.freeze ⟨g,cur.size,none⟩ 1).heap.size=w.heap.size:=by simp [World.freeze]
 obtain ⟨kA,aa,ab⟩:=dS
 refine ⟨⟨h.dN,fun b p q=>by rw [b7];exact h.lt b p q,fun b B p q r i v hv=>?_,fun b B p q r s=>?_,h.apart,h.live⟩,pK,b7⟩
 ·obtain ⟨v',J,ad⟩:=h.cell b B p q r i v hv
  refine ⟨v',?_,ad⟩
  by_cases e:p.ae=g
  ·rw [e] at J ⊢
   rw [h5 aa]
   rw [h5 hg] at J
   exact J
  ·rw [← J];exact World.cell?_of_block (pK _ e)
 ·obtain ⟨h1,h2,c0,e0,f0,j,U,I⟩:=h.own b B p q r s
  by_cases e:p.ae=g
  ·rw [e] at j ⊢
   rw [hg] at j
   injection j with j
   injection j with e1 af ag
   subst e1;subst af;subst ag
   refine ⟨h1,h2,cur,el,kA,aa,U,?_⟩
   rcases ab with rfl | ⟨bY,rfl⟩
   ·exact .inr U
   ·right
    rcases I with I | I
    ·exact absurd I bY
    ·simp only;omega
  ·exact ⟨h1,h2,c0,e0,f0,by rw [pK _ e];exact j,U,I⟩
theorem xS {w:World} {h h':AH} {src dst:TypeId} {x x' v:Value} (hs:bd ρ w h.ae h.next) (hc:aConvert P src dst x h=some (v,h')) (hx:VR ρ x x'):
  ∃ ρ' v' w',(convert src dst x').run P w= .ok v' w'∧VR ρ' v v'∧bd ρ' w' h'.ae h'.next∧Ext ρ h.ae h.next w ρ' h'.ae h'.next w':=by
 unfold aConvert at hc
 split at hc
 ·rename_i d k ai n fJ fP
  simp at hc;obtain ⟨rfl,rfl⟩:=hc
  cases hx
  exact ⟨ρ,_,w,by simp [convert,cj fJ,cj fP,Conv.intToInt], .int _ _,hs,Ext.refl _ _ _ _⟩
 ·rename_i d s fJ fP
  simp at hc;obtain ⟨rfl,rfl⟩:=hc
  cases hx
  exact ⟨ρ,_,w,by simp [convert,cj fJ,cj fP], .string _,hs,Ext.refl _ _ _ _⟩
 ·rename_i e s fJ fP
  split at hc
  ·rename_i he
   simp at hc;obtain ⟨rfl,rfl⟩:=hc
   cases hx
   have c8:ρ h.next=none:=by
    cases hr:ρ h.next with
    | none=>rfl
    | some p=>have:=hs.dN _ p hr;omega
   have CJ:∀ (i:Nat) v,(s.data.toList.map eO)[i]?=some v→(Lib.bytesCells w e s)[i]?=some v:=by
    intro i v hv
    have bm:i<(s.data.toList.map eO).length:=(List.getElem?_eq_some_iff.1 hv).1
    have U:i<(s.data.map fun b=>Value.int .u8 (b.toNat:Int)).size:=by simpa using bm
    unfold Lib.bytesCells
    rw [Array.getElem?_append_left U]
    simpa [eO] using hv
   have b7:s.size≤(Lib.bytesCells w e s).size:=by simp [Lib.bytesCells]
   refine ⟨bF ρ h.next ⟨w.heap.size,0,1,s.size⟩,_,_,Lib.run_convert_string_bytes w src dst e s fJ fP he,?_,?_,?_⟩
   ·exact .sl (fun q=>by omega) (grownCap_ge w s.size 0 e) (fun _=>jO (sz:=1) (ext:=s.size) (by simp [bF])) (fun q=>by omega)
   ·rw [gW]
    exact bd.made hs c8 (Nat.lt_succ_self _) (Nat.le_succ _) (uk ρ _) (Lib.bytesWorld_size w e s) (fun k hk=>Lib.bytesWorld_at_old w e s k hk) (Lib.bytesWorld_at_new w e s) CJ b7 (by simp) (.inr b7)
   ·rw [gW]
    exact Ext.made c8 (Nat.le_refl _) (Nat.le_succ _) rfl (Lib.bytesWorld_size w e s) (fun k hk=>Lib.bytesWorld_at_old w e s k hk) rfl rfl rfl
  ·cases hc
 ·rename_i e0 e a n c fJ fP
  split at hc
  ·rename_i he
   split at hc
   ·rename_i jG
    obtain ⟨rfl,hn,eN⟩:=jG
    simp at hc;obtain ⟨rfl,rfl⟩:=hc
    obtain ⟨a',c',rfl,j⟩:∃ a' c',x'= .slice (some a') n c'∧(0<n→AR ρ a a'):=by
     cases hx with
     | sl h1 h2 j aa=>exact ⟨_,_,rfl,j⟩
    obtain ⟨fB,p,hp,rfl⟩:=j hn
    cases hB:h.ae a.block with
    | none=>rw [hB] at eN;cases eN
    | some B=>
     rw [hB] at eN
     simp at eN
     obtain ⟨h1,h2,cur,el,fr,I,aj,al⟩:=hs.own _ B p hB hp eN
     obtain ⟨ab,ad,an⟩:=hs.marked I
     refine ⟨ρ,_,w.freeze ⟨p.ae,cur.size,none⟩ 1,?_,hx,ab,?_⟩
     ·have zl:w.shape? p.ae=some (el,cur.size):=by simp [World.shape?,I]
      have af:e0=e:=by rw [fJ] at fP;cases fP;rfl
      subst af
      simp [convert,cj fJ,cj he,markStringish,zl]
     ·exact ⟨cF.refl _,rfl,rfl,rfl,by omega,Nat.le_refl _,fun k hk ho=>ad k fun e=>ho ⟨_,B,p,hB,eN,hp,e.symm⟩,fun k _ q=>q,fun _ _ q=> .inl q,fun _ _ _=>rfl⟩
   ·cases hc
  ·cases hc
 ·rename_i e n c fJ fP
  split at hc
  ·rename_i he
   simp at hc;obtain ⟨rfl,rfl⟩:=hc
   obtain ⟨c',rfl⟩:∃ c',x'= .slice none n c':=by
    cases hx with
    | ga h1 h2=>exact ⟨_,rfl⟩
   exact ⟨ρ,_,w,by rw [run_convert_bytes_string w src dst e none n c' fJ he fP];simp [Conv.bytesToString], .string _,hs,Ext.refl _ _ _ _⟩
  ·cases hc
 ·rename_i e a n c fJ fP
  split at hc
  ·rename_i he
   obtain ⟨a',c',rfl,j⟩:∃ a' c',x'= .slice (some a') n c'∧(0<n→AR ρ a a'):=by
    cases hx with
    | sl h1 h2 j aa=>exact ⟨_,_,rfl,j⟩
   split at hc
   ·rename_i h0
    subst h0
    simp at hc;obtain ⟨rfl,rfl⟩:=hc
    refine ⟨ρ, .string .empty,w,?_, .string _,hs,Ext.refl _ _ _ _⟩
    rw [run_convert_bytes_string w src dst e (some a') 0 c' fJ he fP,run_bytesToString w a' 0 c' [] (by simp [loadCells,loadCellsFrom])]
    rfl
   ·rename_i h0
    cases dc:h.cq a n with
    | none=>rw [dc] at hc;cases hc
    | some cs=>
     rw [dc] at hc
     simp only [Option.bind_some] at hc
     cases qj:bytesOf cs with
     | none=>rw [qj] at hc;cases hc
     | some bs=>
      rw [qj] at hc
      simp at hc;obtain ⟨rfl,rfl⟩:=hc
      obtain ⟨a2,J,ag,ah⟩:=lq hs dc (j (by omega))
      obtain ⟨ns,rfl,rfl⟩:=zR _ _ _ qj J
      have ur:=run_loadCells_list (P:=P) w a' _ ah
      rw [← J.1,ag] at ur
      refine ⟨ρ,_,w,?_, .string _,hs,Ext.refl _ _ _ _⟩
      rw [run_convert_bytes_string w src dst e (some a') n c' fJ he fP,run_bytesToString w a' n c' ns ur]
      have:=wb ns []
      simp only [List.nil_append] at this
      rw [← this]
      rfl
  ·cases hc
 ·cases hc
theorem A3 {w:World} {h h':AH} {t:TypeId} {x x' v v':Value} (hs:bd ρ w h.ae h.next) (a7:iV P t x v h=some h') (hx:VR ρ x x') (hv:VR ρ v v'):
  ∃ w',(Instr.storeAt t x' v').run P w= .ok () w'∧bd ρ w' h'.ae h'.next∧Ext ρ h.ae h.next w ρ h'.ae h'.next w':=by
 unfold iV at a7
 split at a7
 ·rename_i a
  obtain ⟨a',rfl,ha⟩:∃ a',x'= .pointer (some a')∧AR ρ a a':=by
   cases hx with
   | ptr h=>exact ⟨_,rfl,h⟩
  cases hz:bS P t with
  | none=>rw [hz] at a7;cases a7
  | some s=>
   rw [hz] at a7
   simp only [Option.bind_some] at a7
   split at a7
   ·rename_i gy
    obtain ⟨fB,p,hp,rfl⟩:=ha
    simp only [AH.store,fB] at a7
    cases hB:h.ae a.block with
    | none=>rw [hB] at a7;cases a7
    | some B=>
     rw [hB] at a7
     simp only [Option.bind_some] at a7
     split at a7
     ·rename_i jG
      obtain ⟨eN,hlen,e7⟩:=jG
      injection a7 with a7
      subst a7
      have hl:=hv.cells
      obtain ⟨h1,h2,cur,el,fr,U,an,ad⟩:=hs.own _ B p hB hp eN
      have n4:∀ u∈v'.cells.toList,u.oneCell'=true:=by
       intro u kg
       obtain ⟨i,hi⟩:=List.mem_iff_getElem?.1 kg
       have di:i<v.cells.toList.length:=by rw [hl.1];exact (List.getElem?_eq_some_iff.1 hi).1
       have rR:=hl.2 i _ u (List.getElem?_eq_getElem di) hi
       rw [rR.rb]
       exact List.all_eq_true.1 e7 _ (List.getElem_mem di)
      have mu:v'.cells.toList.length=v.cells.toList.length:=hl.1.symm
      obtain ⟨w',e2,r1,af,ag,ah,aa,ab,ai,aj,al⟩:=pL (P:=P) p.ae (p.off+a.off) v'.cells.toList 0 w cur el fr U (by omega) (fun j I J=>qo ad j (by omega)) n4
      have nh:∀ (i:Nat) u,(B.cells.take a.off++v.cells.toList++B.cells.drop (a.off+v.cells.toList.length))[i]?=some u→∃ u',e2[p.off+i]?=some u'∧VR ρ u u':=by
       intro i u hu
       rw [ah,mu]
       have mI:(B.cells.take a.off).length=a.off:=by rw [List.length_take];omega
       by_cases i1:i<a.off
       ·rw [List.append_assoc,List.getElem?_append_left (by omega),List.getElem?_take,if_pos i1] at hu
        obtain ⟨u',I,J⟩:=hs.cell _ B p hB hp i u hu
        rw [h5 U] at I
        exact ⟨u',by rw [if_neg (by omega)];exact I,J⟩
       ·by_cases i2:i<a.off+v.cells.toList.length
        ·rw [List.append_assoc,List.getElem?_append_right (by omega),mI,List.getElem?_append_left (by omega)] at hu
         obtain ⟨u',I,J⟩:=hl.get hu
         refine ⟨u',?_,J⟩
         rw [if_pos (by omega),← I]
         congr 1
         omega
        ·rw [List.getElem?_append_right (by rw [List.length_append];omega),List.getElem?_drop,List.length_append,mI] at hu
         obtain ⟨u',I,J⟩:=hs.cell _ B p hB hp _ u hu
         rw [h5 U] at I
         refine ⟨u',?_,J⟩
         rw [if_neg (by omega),← I]
         congr 1
         omega
      have kM:(B.cells.take a.off++v.cells.toList++B.cells.drop (a.off+v.cells.toList.length)).length≤p.ext:=by
       simp only [List.length_append,List.length_take,List.length_drop];omega
      have b7:v'.cells.size=s:=by have:=mu;simp only [Array.length_toList] at this;omega
      refine ⟨w',?_,?_,?_⟩
      ·simp [Instr.storeAt,Instr.sureAddr,storeVar,eV hz,b7,r1]
      ·rw [km]
       exact hs.wrote hB hp eN U af ag aa ab kM nh
      ·rw [km]
       exact Ext.wrote hB hp eN aa ab ai aj al _
     ·cases a7
   ·cases a7
 ·cases a7
theorem xB {w:World} {h h':AH} {a a':Addr} {cs a2:List Value} (hs:bd ρ w h.ae h.next) (a7:h.store a cs=some h') (ha:AR ρ a a') (hl:LR ρ cs a2):
  ∃ w',(storeCells a' a2).run P w= .ok () w'∧bd ρ w' h'.ae h'.next∧Ext ρ h.ae h.next w ρ h'.ae h'.next w':=by
  obtain ⟨fB,p,hp,rfl⟩:=ha
  simp only [AH.store,fB] at a7
  cases hB:h.ae a.block with
  | none=>rw [hB] at a7;cases a7
  | some B=>
   rw [hB] at a7
   simp only [Option.bind_some] at a7
   split at a7
   ·rename_i jG
    obtain ⟨eN,hlen,e7⟩:=jG
    injection a7 with a7
    subst a7
    obtain ⟨h1,h2,cur,el,fr,U,an,ad⟩:=hs.own _ B p hB hp eN
    have n4:∀ u∈a2,u.oneCell'=true:=by
     intro u kg
     obtain ⟨i,hi⟩:=List.mem_iff_getElem?.1 kg
     have di:i<cs.length:=by rw [hl.1];exact (List.getElem?_eq_some_iff.1 hi).1
     have rR:=hl.2 i _ u (List.getElem?_eq_getElem di) hi
     rw [rR.rb]
     exact List.all_eq_true.1 e7 _ (List.getElem_mem di)
    have mu:a2.length=cs.length:=hl.1.symm
    obtain ⟨w',e2,r1,af,ag,ah,aa,ab,ai,aj,al⟩:=pL (P:=P) p.ae (p.off+a.off) a2 0 w cur el fr U (by omega) (fun j I J=>qo ad j (by omega)) n4
    have nh:∀ (i:Nat) u,(B.cells.take a.off++cs++B.cells.drop (a.off+cs.length))[i]?=some u→∃ u',e2[p.off+i]?=some u'∧VR ρ u u':=by
     intro i u hu
     rw [ah,mu]
     have mI:(B.cells.take a.off).length=a.off:=by rw [List.length_take];omega
     by_cases i1:i<a.off
     ·rw [List.append_assoc,List.getElem?_append_left (by omega),List.getElem?_take,if_pos i1] at hu
      obtain ⟨u',I,J⟩:=hs.cell _ B p hB hp i u hu
      rw [h5 U] at I
      exact ⟨u',by rw [if_neg (by omega)];exact I,J⟩
     ·by_cases i2:i<a.off+cs.length
      ·rw [List.append_assoc,List.getElem?_append_right (by omega),mI,List.getElem?_append_left (by omega)] at hu
       obtain ⟨u',I,J⟩:=hl.get hu
       refine ⟨u',?_,J⟩
       rw [if_pos (by omega),← I]
       congr 1
       omega
      ·rw [List.getElem?_append_right (by rw [List.length_append];omega),List.getElem?_drop,List.length_append,mI] at hu
       obtain ⟨u',I,J⟩:=hs.cell _ B p hB hp _ u hu
       rw [h5 U] at I
       refine ⟨u',?_,J⟩
       rw [if_neg (by omega),← I]
       congr 1
       omega
    have kM:(B.cells.take a.off++cs++B.cells.drop (a.off+cs.length)).length≤p.ext:=by
     simp only [List.length_append,List.length_take,List.length_drop];omega
    refine ⟨w',?_,?_,?_⟩
    ·exact r1
    ·rw [km]
     exact hs.wrote hB hp eN U af ag aa ab kM nh
    ·rw [km]
     exact Ext.wrote hB hp eN aa ab ai aj al _
   ·cases a7
theorem DC {w:World} {h h':AH} {t tx ty:TypeId} {d d' s s' v:Value} (hs:bd ρ w h.ae h.next) (hc:aCopy P t d s h=some (v,h')) (hd:VR ρ d d') (oW:VR ρ s s'):
  ∃ v' w',(Builtin.copy_ #[t,tx] ty #[d',s']).run P w= .ok v' w'∧VR ρ v v'∧bd ρ w' h'.ae h'.next∧Ext ρ h.ae h.next w ρ h'.ae h'.next w':=by
 unfold aCopy at hc
 split at hc
 ·rename_i e db n c sb m c2 hu
  cases hz:bS P e with
  | none=>rw [hz] at hc;cases hc
  | some z=>
   rw [hz] at hc
   simp only [Option.bind_some] at hc
   obtain ⟨px,c',rfl,CO⟩:∃ px c',d'= .slice px n c'∧(∀ a,db=some a→∃ a',px=some a'∧(0<n→AR ρ a a')):=by
    cases hd with
    | ga h1 h2=>exact ⟨_,_,rfl,fun a q=>by cases q⟩
    | sl h1 h2 j J=>exact ⟨_,_,rfl,fun a q=>by cases q;exact ⟨_,rfl,j⟩⟩
   obtain ⟨mF,r5,rfl,ze⟩:∃ mF c',s'= .slice mF m c'∧(∀ a,sb=some a→∃ a',mF=some a'∧(0<m→AR ρ a a')):=by
    cases oW with
    | ga h1 h2=>exact ⟨_,_,rfl,fun a q=>by cases q⟩
    | sl h1 h2 j J=>exact ⟨_,_,rfl,fun a q=>by cases q;exact ⟨_,rfl,j⟩⟩
   split at hc
   ·rename_i h0
    simp at hc
    obtain ⟨rfl,rfl⟩:=hc
    refine ⟨.int .i64 0,w,?_, .int _ _,hs,Ext.refl _ _ _ _⟩
    have hf:(Builtin.firstCells z (Nat.min m n) (.slice mF m r5)).run P w= .ok #[] w:=by
     rw [h0]
     cases mF<;>simp [Builtin.firstCells,loadCells,loadCellsFrom]
    rw [h0] at hf
    cases px<;>simp [Builtin.copy_,cj hu,Builtin.lenOf,eV hz,hf,h0,storeCells,goInt]
   ·rename_i h0
    split at hc
    ·rename_i a b
     obtain ⟨a',rfl,ha⟩:=CO a rfl
     obtain ⟨b',rfl,hb⟩:=ze b rfl
     have uh:0<m∧0<n:=by
      have:Nat.min m n≠0:=h0
      have e:Nat.min m n=min m n:=rfl
      omega
     cases dc:h.cq b (Nat.min m n * z) with
     | none=>rw [dc] at hc;cases hc
     | some cs=>
      rw [dc] at hc
      simp only [Option.bind_some] at hc
      cases a7:h.store a cs with
      | none=>rw [a7] at hc;cases hc
      | some h2=>
       rw [a7] at hc
       simp at hc
       obtain ⟨rfl,rfl⟩:=hc
       obtain ⟨a2,I,U,aa⟩:=lq hs dc (hb uh.1)
       have nB:=run_loadCells_list (P:=P) w b' a2 aa
       rw [← I.1,U] at nB
       obtain ⟨w',r1,ab,ad⟩:=xB (P:=P) hs a7 (ha uh.2) I
       refine ⟨.int .i64 (Nat.min m n),w',?_, .int _ _,ab,ad⟩
       have hf:(Builtin.firstCells z (Nat.min m n) (.slice (some b') m r5)).run P w= .ok a2.toArray w:=by
        simpa [Builtin.firstCells] using nB
       simp [Builtin.copy_,cj hu,Builtin.lenOf,eV hz,hf,r1,goInt]
    ·cases hc
 ·cases hc
end
end Go.Proofs.Ytcilejikekccmaa.Am
namespace Go.Proofs.Ytcilejikekccmaa.Am
open Go
variable [Marks]
section
variable {P:Program} {ρ:aQ}
def Good (P:Program) (call:cw):Prop:=∀ f args h v h',call f args h=some (v,h')→
 (∃ fn c,P.funcs[f]?=some fn∧fn.body=some c∧(fn.name == "runtime.NumGoroutine")=false)∧
 ∀ (ρ:aQ) (w:World) (e4:List Value),LR ρ args e4→bd ρ w h.ae h.next→
  Calls P f e4.toArray w fun e w'=>∃ ρ' v',e= .returned v'∧VR ρ' v v'∧bd ρ' w' h'.ae h'.next∧Ext ρ h.ae h.next w ρ' h'.ae h'.next w'
theorem fZ {o:Oper} {a:Act} {w w':World} {v:Value} {K:Act→World→Prop} {Q:Exit→Act→World→Prop} (h:(execOp a.eval o).run P w= .ok (.value v) w') (hK:K (a.put o.dst v) w'):o.wp P a w K Q:=by
 unfold Oper.wp
 rw [h]
 exact hK
theorem w5 {o:Oper} {a:Act} {w w':World} {K:Act→World→Prop} {Q:Exit→Act→World→Prop} (h:(execOp a.eval o).run P w= .ok .skip w') (hK:K (a.put o.dst undef) w'):o.wp P a w K Q:=by
 unfold Oper.wp
 rw [h]
 exact hK
theorem LR.map {ev dy:Operand→Value}:∀ (l:List Operand),(∀ x∈l,VR ρ (ev x) (dy x))→LR ρ (l.map ev) (l.map dy):=by
 intro l
 induction l with
 | nil=>intro _;exact LR.nil ρ
 | cons x l ih=>intro h;exact LR.cons (h x (by simp)) (ih fun y hy=>h y (by simp [hy]))
theorem LR.arr {cs a2:Array Value} (h:LR ρ cs.toList a2.toList):cs.size=a2.size∧∀ (i:Nat) v v',cs[i]?=some v→a2[i]?=some v'→VR ρ v v':=
 ⟨by simpa using h.1,fun i v v' a b=>h.2 i v v' (by simpa using a) (by simpa using b)⟩
theorem qR {call:cw} (mO:Good P call) {o:Oper} {ev:Operand→Value} {a:Act} {w:World} {h h':AH} {v:Value} (hs:bd ρ w h.ae h.next) (b5:∀ x∈o.op.operands,VR ρ (ev x) (a.eval x))
  (au:aOp P call ev o.op h=some (v,h')) {K:Act→World→Prop} {Q:Exit→Act→World→Prop}
  (hK:∀ ρ' v' w',VR ρ' v v'→bd ρ' w' h'.ae h'.next→Ext ρ h.ae h.next w ρ' h'.ae h'.next w'→K (a.put o.dst v') w'):o.wp P a w K Q:=by
 have still:∀ (s:Sem Value) (u:Value),(∃ v',VR ρ u v'∧∀ w,s.run P w= .ok v' w)→(v,h')=(u,h)→(execOp a.eval o=do pure (.value (← s)))→o.wp P a w K Q:=by
  intro s u ⟨v',h1,h2⟩ he hx
  injection he with e1 J
  subst e1;subst J
  exact fZ (by rw [hx];simp [h2 w]) (hK ρ v' w h1 hs (Ext.refl _ _ _ _))
 have fresh:∀ f,aFresh P ev o.op=some f→(v,h')=h.fresh f→o.wp P a w K Q:=by
  intro f hf he
  obtain ⟨v',C,el,h1,h2,ag⟩:=u1 (P:=P) b5 hf w
  injection he with e1 J
  subst e1;subst J
  have c8:ρ h.next=none:=by
   cases hr:ρ h.next with
   | none=>rfl
   | some p=>have:=hs.dN _ p hr;omega
  refine fZ h1 (hK (bF ρ h.next ⟨w.heap.size,0,f.2.2,C.size⟩) v' _ (ag _ _ (cF.bF ρ _ c8) (by simp [bF])) ?_ ?_)
  ·rw [gW]
   exact bd.made (fr:=(0,0)) hs c8 (Nat.lt_succ_self _) (Nat.le_succ _) h2 (by simp) (fun k hk=>heap_alloc_old w _ k hk) (heap_alloc_new w _) (fun i v hv=>by simpa using hv) (Nat.le_refl _) (by have:=h2.1;simp at this;omega) (.inl rfl)
  ·rw [gW]
   exact Ext.made c8 (Nat.le_refl _) (Nat.le_succ _) rfl (by simp) (fun k hk=>heap_alloc_old w _ k hk) rfl rfl rfl
 obtain ⟨dst,op,ty,pos,after,guard⟩:=o
 simp only at b5 au fresh
 cases op<;>simp only [aOp] at au<;>try (cases au;done)
 case move x=>
  have hx:=b5 x (by simp [Op.operands])
  exact still (pure (a.eval x)) (ev x) ⟨_,hx,fun w=>rfl⟩ (Option.some.inj au).symm rfl
 case assign x=>
  have hx:=b5 x (by simp [Op.operands])
  exact still (pure (a.eval x)) (ev x) ⟨_,hx,fun w=>rfl⟩ (Option.some.inj au).symm rfl
 case pick c x y=>
  have hc:=b5 c (by simp [Op.operands])
  have hx:=b5 x (by simp [Op.operands])
  have hy:=b5 y (by simp [Op.operands])
  split at au
  ·rename_i t qB
   rw [qB] at hc
   generalize s5:a.eval c=c' at hc
   cases hc
   injection au with au
   injection au with e1 J
   subst e1;subst J
   refine fZ (v:=if t then a.eval x else a.eval y) (w':=w) (by simp [execOp,s5,asBool]) (hK ρ _ w ?_ hs (Ext.refl _ _ _ _))
   cases t<;>simp [hx,hy]
  ·cases au
 case alloc e=>
  cases hf:nq P e with
  | none=>rw [hf] at au;cases au
  | some f=>rw [hf] at au;exact fresh f (by simpa [aFresh] using hf) (Option.some.inj au).symm
 case box e x=>
  cases hf:ni (ev x) with
  | none=>rw [hf] at au;cases au
  | some f=>rw [hf] at au;exact fresh f (by simpa [aFresh] using hf) (Option.some.inj au).symm
 case buildSlice t n ps=>
  cases hf:aBuildSlice P t n (ps.toList.map fun p=>(p.1,ev p.2)) with
  | none=>rw [hf] at au;cases au
  | some f=>rw [hf] at au;exact fresh f (by simpa [aFresh] using hf) (Option.some.inj au).symm
 case makeSlice t l c=>
  cases hf:aMakeSlice P t (ev l) (ev c) with
  | none=>rw [hf] at au;cases au
  | some f=>rw [hf] at au;exact fresh f (by simpa [aFresh] using hf) (Option.some.inj au).symm
 case build t ps=>
  cases hb:aBuild P t (ps.toList.map fun p=>(p.1,ev p.2)) with
  | none=>rw [hb] at au;cases au
  | some u=>
   rw [hb] at au
   obtain ⟨j,I⟩:=tc (ρ:=ρ) (ev:=ev) (dy:=a.eval) ps (fun x hx=>b5 x.2 (by simp [Op.operands];exact ⟨x.1,hx⟩))
   refine still (Instr.build t (ps.map fun (i,x)=>(i,a.eval x))) u ?_ (Option.some.inj au).symm rfl
   obtain ⟨v',r1,av⟩:=CZ (P:=P) hb j I
   have e:(ps.toList.map fun p=>(p.1,a.eval p.2)).toArray=ps.map fun (i,x)=>(i,a.eval x):=by apply Array.ext';simp
   rw [e] at av
   exact ⟨v',r1,av⟩
 case load t x=>
  have hx:=b5 x (by simp [Op.operands])
  cases hl:aLoad P t (ev x) h with
  | none=>rw [hl] at au;cases au
  | some u=>
   rw [hl] at au
   injection au with au
   injection au with e1 J
   subst e1;subst J
   obtain ⟨v',j,I⟩:=r9 (P:=P) hs hl hx
   exact fZ (by simp [execOp,I]) (hK ρ v' w j hs (Ext.refl _ _ _ _))
 case store t x y=>
  have hx:=b5 x (by simp [Op.operands])
  have hy:=b5 y (by simp [Op.operands])
  cases hl:iV P t (ev x) (ev y) h with
  | none=>rw [hl] at au;cases au
  | some u=>
   rw [hl] at au
   injection au with au
   injection au with e1 J
   subst e1;subst J
   obtain ⟨w',j,I,U⟩:=A3 (P:=P) hs hl hx hy
   exact w5 (by simp [execOp,j]) (hK ρ undef w' (VR.undef ρ) I U)
 case nilCheck x=>
  have hx:=b5 x (by simp [Op.operands])
  split at au
  ·rename_i ad iB
   rw [iB] at hx
   generalize fR:a.eval x=x' at hx
   obtain ⟨gL,rfl,Bt⟩:∃ gL,x'= .pointer (some gL)∧AR ρ ad gL:=by
    cases hx with
    | ptr h=>exact ⟨_,rfl,h⟩
   injection au with au
   injection au with e1 J
   subst e1;subst J
   exact fZ (v:= .pointer (some gL)) (w':=w) (by simp [execOp,fR]) (hK ρ _ w (.ptr Bt) hs (Ext.refl _ _ _ _))
  ·rename_i f fi ca iB
   rw [iB] at hx
   generalize fR:a.eval x=x' at hx
   injection au with au
   injection au with e1 J
   subst e1;subst J
   cases hx with
   | func f h1 h2 ag aj=>exact fZ (w':=w) (by simp only [execOp,fR];rfl) (hK ρ _ w (.func f h1 h2 ag aj) hs (Ext.refl _ _ _ _))
  ·cases au
 case binOp op t x y yt=>
  have hx:=b5 x (by simp [Op.operands])
  have hy:=b5 y (by simp [Op.operands])
  cases hb:aBin P op t (ev x) (ev y) with
  | none=>rw [hb] at au;cases au
  | some u=>
   rw [hb] at au
   obtain ⟨j,I⟩:=yR (P:=P) hb hx hy x y
   exact still (jy op t x y (a.eval x) (a.eval y)) u ⟨u,j,I⟩ (Option.some.inj au).symm rfl
 case unOp op t x=>
  have hx:=b5 x (by simp [Op.operands])
  cases hb:aUn op (ev x) with
  | none=>rw [hb] at au;cases au
  | some u=>rw [hb] at au;exact still (Op.unary op (a.eval x)) u (xM hb hx) (Option.some.inj au).symm rfl
 case convert s d x=>
  have hx:=b5 x (by simp [Op.operands])
  obtain ⟨ρ',v',w',j,I,U,ah⟩:=xS (P:=P) hs au hx
  exact fZ (by simp [execOp,j]) (hK ρ' v' w' I U ah)
 case makeInterface t x=>
  have hx:=b5 x (by simp [Op.operands])
  split at au
  ·cases au
  ·rename_i d gw hu
   refine still (Instr.makeInterface t (a.eval x)) (.iface t (ev x)) ⟨.iface t (a.eval x), .iface t hx,fun w=>?_⟩ (Option.some.inj au).symm rfl
   simp only [Instr.makeInterface,Sem.run_bind,cj hu,Result.andThen_ok]
   cases d<;>first | rfl | (exact absurd rfl (gw _))
  ·cases au
 case makeFunc fn first captured=>
  cases fn<;>simp only at au<;>try (cases au;done)
  rename_i f
  refine still (Instr.makeFunc (.func f) (first.map a.eval) (captured.map a.eval)) (.func (.func f) (first.map ev) (captured.map ev)) ⟨.func (.func f) (first.map a.eval) (captured.map a.eval),?_,fun w=>rfl⟩ (Option.some.inj au).symm rfl
  have h1:LR ρ (first.map ev).toList (first.map a.eval).toList:=by
   simp only [Array.toList_map]
   exact LR.map _ fun x hx=>b5 x (by simp [Op.operands];exact .inl (by simpa using hx))
  have h2:LR ρ (captured.map ev).toList (captured.map a.eval).toList:=by
   simp only [Array.toList_map]
   exact LR.map _ fun x hx=>b5 x (by simp [Op.operands];exact .inr (by simpa using hx))
  exact .func f h1.arr.1 h1.arr.2 h2.arr.1 h2.arr.2
 case slice t x lo hi mx=>
  have hx:=b5 x (by simp [Op.operands])
  cases hb:aSlice P t (ev x) (lo.map ev) (hi.map ev) (mx.map ev) with
  | none=>rw [hb] at au;cases au
  | some u=>
   rw [hb] at au
   exact still (Instr.sliceAt t (a.eval x) (lo.map a.eval) (hi.map a.eval) (mx.map a.eval)) u
    (x7 hb hx (OR.map lo fun o ho=>b5 o (by simp [Op.operands,ho])) (OR.map hi fun o ho=>b5 o (by simp [Op.operands,ho])) (OR.map mx fun o ho=>b5 o (by simp [Op.operands,ho]))) (Option.some.inj au).symm rfl
 case fieldAddr s x f=>
  have hx:=b5 x (by simp [Op.operands])
  cases hb:aField P s f (ev x) with
  | none=>rw [hb] at au;cases au
  | some u=>rw [hb] at au;exact still (Instr.fieldAt s (a.eval x) f) u (xR hb hx) (Option.some.inj au).symm rfl
 case field t x f=>
  have hx:=b5 x (by simp [Op.operands])
  cases hb:aFieldV P t f (ev x) with
  | none=>rw [hb] at au;cases au
  | some u=>rw [hb] at au;exact still (Instr.field t (a.eval x) f) u (wk hb hx) (Option.some.inj au).symm rfl
 case indexAddr t x i=>
  have hx:=b5 x (by simp [Op.operands])
  have hi:=b5 i (by simp [Op.operands])
  cases hb:aIndexAddr P t (ev x) (ev i) with
  | none=>rw [hb] at au;cases au
  | some u=>rw [hb] at au;exact still (Instr.indexAt t (a.eval x) (a.eval i)) u (AG hb hx hi) (Option.some.inj au).symm rfl
 case index t x i=>
  have hx:=b5 x (by simp [Op.operands])
  have hi:=b5 i (by simp [Op.operands])
  cases hb:aIndex P t (ev x) (ev i) with
  | none=>rw [hb] at au;cases au
  | some u=>rw [hb] at au;exact still (Instr.index t (a.eval x) (a.eval i)) u (yC hb hx hi) (Option.some.inj au).symm rfl
 case typeAssert x xt t ok=>
  have hx:=b5 x (by simp [Op.operands])
  cases hb:aAssert P (ev x) t ok with
  | none=>rw [hb] at au;cases au
  | some u=>rw [hb] at au;exact still (Instr.typeAssert (a.eval x) xt t ok) u (DG hb hx) (Option.some.inj au).symm rfl
 case extract x i=>
  have hx:=b5 x (by simp [Op.operands])
  split at au
  ·rename_i vs iB
   rw [iB] at hx
   generalize fR:a.eval x=x' at hx
   obtain ⟨cN,rfl,h1,h2⟩:∃ cN,x'= .tuple cN∧vs.size=cN.size∧∀ (i:Nat) v v',vs[i]?=some v→cN[i]?=some v'→VR ρ v v':=by
    cases hx with
    | tuple h1 h2=>exact ⟨_,rfl,h1,h2⟩
   cases hg:vs[i]? with
   | none=>rw [hg] at au;cases au
   | some u=>
    rw [hg] at au
    obtain ⟨u',aw,ax⟩:=(LR.jD h1 h2).get (show vs.toList[i]?=some u by simpa using hg)
    refine still (Instr.extract (a.eval x) i) u ⟨u',ax,fun w=>?_⟩ (Option.some.inj au).symm rfl
    have DD:cN[i]?=some u':=by simpa using aw
    simp [fR,Instr.extract,DD]
  ·cases au
 case call c=>
  obtain ⟨callee,args,argTypes⟩:=c
  cases callee with
  | invoke r m=>simp only at au;cases au
  | builtin b=>
   simp only at au
   have dQ:LR ρ (args.toList.map ev) (args.toList.map a.eval):=LR.map _ fun x hx=>b5 x (by simp [Op.operands,Call.operands];simpa using hx)
   have xi:(args.toList.map a.eval)=(args.map a.eval).toList:=by simp
   rw [xi] at dQ
   generalize hA:args.map a.eval=A at dQ
   obtain ⟨sC,hex⟩:∃ sC,execOp a.eval ⟨dst, .call ⟨.builtin b,args,argTypes⟩,ty,pos,after,guard⟩=builtin b argTypes ty sC A:=by
    subst hA
    exact ⟨_,rfl⟩
   unfold aBuiltin at au
   split at au
   ·rename_i t tx s x mD has
    rw [has] at dQ
    obtain ⟨s',ai,aa,al,af⟩:=dQ.cons_inv
    obtain ⟨x',ay,an,ab,ao⟩:=af.cons_inv
    obtain rfl:=ao.lr
    subst an
    have aq:A=#[s',x']:=by apply Array.ext';simpa using aa
    have ar:argTypes=#[t,tx]:=by apply Array.ext';simpa using mD
    obtain ⟨ρ',v',w',j,I,U,ah⟩:=zK (P:=P) (ty:=ty) hs au al ab
    refine fZ (v:=v') (w':=w') ?_ (hK ρ' v' w' I U ah)
    rw [hex,aq,ar]
    simp [builtin,j]
   ·rename_i t tx s x mD has
    rw [has] at dQ
    obtain ⟨s',ai,aa,al,af⟩:=dQ.cons_inv
    obtain ⟨x',ay,an,ab,ao⟩:=af.cons_inv
    obtain rfl:=ao.lr
    subst an
    have aq:A=#[s',x']:=by apply Array.ext';simpa using aa
    have ar:argTypes=#[t,tx]:=by apply Array.ext';simpa using mD
    obtain ⟨v',w',j,I,U,ah⟩:=DC (P:=P) (tx:=tx) (ty:=ty) hs au al ab
    refine fZ (v:=v') (w':=w') ?_ (hK ρ v' w' I U ah)
    rw [hex,aq,ar]
    simp [builtin,j]
   ·rename_i t ts x xs mD has
    rw [has] at dQ
    obtain ⟨x',ai,aa,ab,af⟩:=dQ.cons_inv
    cases hb:aLen P t x with
    | none=>rw [hb] at au;cases au
    | some u=>
     rw [hb] at au
     injection au with au
     injection au with e1 J
     subst e1;subst J
     have az:argTypes[0]?=some t:=by rw [← Array.getElem?_toList,mD];rfl
     have aA:A[0]?=some x':=by rw [← Array.getElem?_toList,aa];rfl
     obtain ⟨j,I⟩:=vM (P:=P) (ty:=ty) hb ab az aA
     exact fZ (v:=u) (w':=w) (by rw [hex];simp [builtin,I w]) (hK ρ u w j hs (Ext.refl _ _ _ _))
   ·rename_i ts x vs has
    rw [has] at dQ
    obtain ⟨x',ai,aa,ab,af⟩:=dQ.cons_inv
    cases hb:aMax x vs with
    | none=>rw [hb] at au;cases au
    | some u=>
     rw [hb] at au
     injection au with au
     injection au with e1 J
     subst e1;subst J
     obtain ⟨kk,nn,rfl⟩:∃ k n,x= .int k n:=by
      unfold aMax at hb
      split at hb<;>first | exact ⟨_,_,rfl⟩ | cases hb
     have fR:x'= .int kk nn:=by cases ab;rfl
     subst fR
     obtain ⟨j,I⟩:=zO (P:=P) _ _ _ _ hb af w
     exact fZ (v:=u) (w':=w) (by rw [hex];simp [builtin,Builtin.max_,aa,j]) (hK ρ u w I hs (Ext.refl _ _ _ _))
   ·rename_i ts x vs has
    rw [has] at dQ
    obtain ⟨x',ai,aa,ab,af⟩:=dQ.cons_inv
    cases hb:jv x vs with
    | none=>rw [hb] at au;cases au
    | some u=>
     rw [hb] at au
     injection au with au
     injection au with e1 J
     subst e1;subst J
     obtain ⟨kk,nn,rfl⟩:∃ k n,x= .int k n:=by
      unfold jv at hb
      split at hb<;>first | exact ⟨_,_,rfl⟩ | cases hb
     have fR:x'= .int kk nn:=by cases ab;rfl
     subst fR
     obtain ⟨j,I⟩:=Af (P:=P) _ _ _ _ hb af w
     exact fZ (v:=u) (w':=w) (by rw [hex];simp [builtin,Builtin.min_,aa,j]) (hK ρ u w I hs (Ext.refl _ _ _ _))
   ·cases au
  | value f=>
   simp only at au
   have hf:=b5 f (by simp [Op.operands,Call.operands])
   have dQ:LR ρ (args.toList.map ev) (args.toList.map a.eval):=LR.map _ fun x hx=>b5 x (by simp [Op.operands,Call.operands];exact .inr (by simpa using hx))
   split at au
   ·rename_i g first captured oO
    rw [oO] at hf
    generalize zw:a.eval f=f' at hf
    obtain ⟨fe,j6,rfl,h1,h2⟩:∃ fe j6,f'= .func (.func g) fe j6∧LR ρ first.toList fe.toList∧LR ρ captured.toList j6.toList:=by
     cases hf with
     | func f h1 h2 ag aj=>exact ⟨_,_,rfl,LR.jD h1 h2,LR.jD ag aj⟩
    obtain ⟨⟨fn,cd,Cq,yO,xG⟩,hc⟩:=mO _ _ _ _ _ au
    have hC:=hc ρ w (fe.toList++args.toList.map a.eval++j6.toList) ((h1.append dQ).append h2) hs
    have g2:(execOp a.eval ⟨dst, .call ⟨.value f,args,argTypes⟩,ty,pos,after,guard⟩).run P w= .ok (.enter g (fe.toList++args.toList.map a.eval++j6.toList).toArray) w:=by
     have he:(fe++args.map a.eval)++j6=(fe.toList++args.toList.map a.eval++j6.toList).toArray:=by apply Array.ext';simp
     rw [← he]
     have aB:¬ fn.name= "runtime.NumGoroutine":=by simpa using xG
     simp [execOp,resolve,zw,Deferred.ofValue,invoke,callFunc,Cq,aB,yO]
    unfold Oper.wp
    rw [g2]
    simp only [Oper.upon]
    refine hC.mono ?_
    rintro e w' ⟨ρ',v',rfl,j,I,U⟩
    exact hK ρ' v' w' j I U
   ·cases au
end
end Go.Proofs.Ytcilejikekccmaa.Am
namespace Go.Proofs.Ytcilejikekccmaa.Am
open Go
structure bw (h h':AH):Prop where
  low:h'.low≤h.low
  next:h.next≤h'.next
  ae:∀ b,b<h.next→b<h'.low→h'.ae b=h.ae b
  dead:∀ b,b<h.next→h.ae b=none→h'.ae b=none
  live:(∀ b,h.ae b≠none→b<h.next)→∀ b,h'.ae b≠none→b<h'.next
theorem bw.refl (h:AH):bw h h:=⟨Nat.le_refl _,Nat.le_refl _,fun _ _ _=>rfl,fun _ _ q=>q,fun q=>q⟩
theorem bw.trans {a b c:AH} (h:bw a b) (k:bw b c):bw a c:=
  ⟨Nat.le_trans k.low h.low,Nat.le_trans h.next k.next,fun i h1 h2=>(k.ae i (Nat.lt_of_lt_of_le h1 h.next) h2).trans (h.ae i h1 (Nat.lt_of_lt_of_le h2 k.low)),
    fun i h1 h2=>k.dead i (Nat.lt_of_lt_of_le h1 h.next) (h.dead i h1 h2),fun q=>k.live (h.live q)⟩
theorem bw.alloc (h:AH) (cs:List Value) (z:Nat):bw h (h.alloc cs z):=by
  refine ⟨Nat.le_refl _,Nat.le_succ _,fun b h1 _=>by rw [AH.eL,if_neg (by omega)],fun b h1 h2=>by rw [AH.eL,if_neg (by omega)];exact h2,fun q b hb=>?_⟩
  rw [AH.eL] at hb
  rw [AH.pI]
  by_cases e:b=h.next
  · omega
  · rw [if_neg e] at hb;have:=q b hb;omega
theorem bw.put (h:AH) (c:Nat) (x:Option dt) (hx:x=none∨h.ae c≠none):bw h (h.put c x):=by
  refine ⟨?_,Nat.le_refl _,fun b h1 h2=>?_,fun b h1 h2=>?_,fun q b hb=>?_⟩
  · rw [AH.l8];split<;>omega
  · rw [AH.gE,if_neg]
    rw [AH.l8] at h2
    split at h2<;>omega
  · rw [AH.gE]
    by_cases e:b=c
    · subst e
      rw [if_pos rfl]
      rcases hx with hx | hx
      · exact hx
      · exact absurd h2 hx
    · rw [if_neg e];exact h2
  · rw [AH.gE] at hb
    rw [AH.mB]
    by_cases e:b=c
    · subst e
      rw [if_pos rfl] at hb
      rcases hx with hx | hx
      · exact absurd hx hb
      · exact q b hx
    · rw [if_neg e] at hb;exact q b hb
def fG (call:cw):Prop:=∀ f args h v h',call f args h=some (v,h')→bw h h'
section
variable {P:Program}
theorem D7 {s d:TypeId} {x v:Value} {h h':AH} (hc:aConvert P s d x h=some (v,h')):bw h h':=by
  unfold aConvert at hc
  split at hc
  · simp at hc;obtain ⟨_,rfl⟩:=hc;exact bw.refl _
  · simp at hc;obtain ⟨_,rfl⟩:=hc;exact bw.refl _
  · split at hc
    · simp at hc;obtain ⟨_,rfl⟩:=hc;exact bw.alloc _ _ _
    · cases hc
  · split at hc
    · split at hc
      · simp at hc;obtain ⟨_,rfl⟩:=hc;exact bw.refl _
      · cases hc
    · cases hc
  · split at hc
    · simp at hc;obtain ⟨_,rfl⟩:=hc;exact bw.refl _
    · cases hc
  · rename_i a n _ _ _
    split at hc
    · split at hc
      · simp at hc;obtain ⟨_,rfl⟩:=hc;exact bw.refl _
      · cases hq:h.cq a n with
        | none=>rw [hq] at hc;cases hc
        | some cs=>
          rw [hq] at hc;simp only [Option.bind_some] at hc
          cases hb:bytesOf cs with
          | none=>rw [hb] at hc;cases hc
          | some bs=>rw [hb] at hc;simp at hc;obtain ⟨_,rfl⟩:=hc;exact bw.refl _
    · cases hc
  · cases hc
theorem xJ {t tx:TypeId} {sv x v:Value} {h h':AH} (ha:aAppend P t tx sv x h=some (v,h')):bw h h':=by
  unfold aAppend at ha
  split at ha
  · rename_i e dx base n c _ _
    split at ha
    · cases h1:bS P e with
      | none=>rw [h1] at ha;cases ha
      | some s=>
        rw [h1] at ha;simp only [Option.bind_some] at ha
        cases h2:je P e with
        | none=>rw [h2] at ha;cases ha
        | some b4=>
          rw [h2] at ha;simp only [Option.bind_some] at ha
          cases I:dR P e with
          | none=>rw [I] at ha;cases ha
          | some z=>
            rw [I] at ha;simp only [Option.bind_some] at ha
            cases J:aNews s x h with
            | none=>rw [J] at ha;cases ha
            | some mx=>
              rw [J] at ha;simp only [Option.bind_some] at ha
              split at ha
              · split at ha
                · simp at ha;obtain ⟨_,rfl⟩:=ha;exact bw.refl _
                · split at ha
                  · split at ha
                    · simp at ha;obtain ⟨_,rfl⟩:=ha;exact bw.alloc _ _ _
                    · cases ha
                  · rename_i a
                    split at ha
                    · cases j:h.cq a (n * s) with
                      | none=>rw [j] at ha;cases ha
                      | some cH=>rw [j] at ha;simp at ha;obtain ⟨_,rfl⟩:=ha;exact bw.alloc _ _ _
                    · split at ha
                      · cases j:h.ae a.block with
                        | none=>rw [j] at ha;cases ha
                        | some B=>
                          rw [j] at ha;simp only [Option.bind_some] at ha
                          split at ha
                          · simp at ha;obtain ⟨_,rfl⟩:=ha;exact (bw.put _ _ _ (.inl rfl)).trans (bw.alloc _ _ _)
                          · cases ha
                      · cases ha
              · cases ha
    · cases ha
  · cases ha
theorem yL {a:Addr} {cs:List Value} {h h':AH} (a7:h.store a cs=some h'):bw h h':=by
  unfold AH.store at a7
  split at a7
  · cases hB:h.ae a.block with
    | none=>rw [hB] at a7;cases a7
    | some B=>
      rw [hB] at a7
      simp only [Option.bind_some] at a7
      split at a7
      · injection a7 with a7;subst a7
        exact bw.put _ _ _ (.inr (by rw [hB];exact fun q=>by cases q))
      · cases a7
  · cases a7
theorem xF {t:TypeId} {d s v:Value} {h h':AH} (hc:aCopy P t d s h=some (v,h')):bw h h':=by
  unfold aCopy at hc
  split at hc
  · rename_i e db n c sb m c2 hu
    cases hz:bS P e with
    | none=>rw [hz] at hc;cases hc
    | some z=>
      rw [hz] at hc
      simp only [Option.bind_some] at hc
      split at hc
      · simp at hc;obtain ⟨_,rfl⟩:=hc;exact bw.refl _
      · split at hc
        · rename_i a b
          cases dc:h.cq b (Nat.min m n * z) with
          | none=>rw [dc] at hc;cases hc
          | some cs=>
            rw [dc] at hc
            simp only [Option.bind_some] at hc
            cases a7:h.store a cs with
            | none=>rw [a7] at hc;cases hc
            | some h2=>
              rw [a7] at hc
              simp at hc
              obtain ⟨_,rfl⟩:=hc
              exact yL a7
        · cases hc
  · cases hc
theorem zU {t:TypeId} {x v:Value} {h h':AH} (hs:iV P t x v h=some h'):bw h h':=by
  unfold iV at hs
  split at hs
  · rename_i a
    cases h1:bS P t with
    | none=>rw [h1] at hs;cases hs
    | some s=>
      rw [h1] at hs;simp only [Option.bind_some] at hs
      split at hs
      · unfold AH.store at hs
        split at hs
        · cases j:h.ae a.block with
          | none=>rw [j] at hs;cases hs
          | some B=>
            rw [j] at hs;simp only [Option.bind_some] at hs
            split at hs
            · injection hs with hs;subst hs;exact bw.put _ _ _ (.inr (by rw [j];exact fun q=>by cases q))
            · cases hs
        · cases hs
      · cases hs
  · cases hs
theorem mX {α:Type} {o:Option Value} {h h':α} {v:Value} (hm:o.map (·,h)=some (v,h')):h'=h:=by
  cases o with
  | none=>cases hm
  | some u=>simp at hm;exact hm.2.symm
theorem pq {o:Option gH} {h h':AH} {v:Value} (hm:o.map h.fresh=some (v,h')):bw h h':=by
  cases o with
  | none=>cases hm
  | some f=>simp [AH.fresh] at hm;obtain ⟨_,rfl⟩:=hm;exact bw.alloc _ _ _
theorem mH {call:cw} (hc:fG call) {ev:Operand→Value} {op:Op} {h h':AH} {v:Value} (au:aOp P call ev op h=some (v,h')):bw h h':=by
  cases op<;>simp only [aOp] at au<;>try (cases au;done)
  case pick c a b=>split at au<;>simp at au;obtain ⟨_,rfl⟩:=au;exact bw.refl _
  case move x=>simp at au;obtain ⟨_,rfl⟩:=au;exact bw.refl _
  case assign x=>simp at au;obtain ⟨_,rfl⟩:=au;exact bw.refl _
  case alloc e=>exact pq au
  case box e x=>exact pq au
  case buildSlice t n ps=>exact pq au
  case makeSlice t l c=>exact pq au
  case store t x y=>
    cases a7:iV P t (ev x) (ev y) h with
    | none=>rw [a7] at au;cases au
    | some u=>rw [a7] at au;simp at au;obtain ⟨_,rfl⟩:=au;exact zU a7
  case nilCheck x=>split at au<;>simp at au<;>(obtain ⟨_,rfl⟩:=au;exact bw.refl _)
  case convert s d x=>exact D7 au
  case makeInterface t x=>split at au<;>simp at au;obtain ⟨_,rfl⟩:=au;exact bw.refl _
  case makeFunc fn fi ca=>cases fn<;>simp at au;obtain ⟨_,rfl⟩:=au;exact bw.refl _
  case extract x i=>
    split at au
    · exact mX au ▸ bw.refl _
    · cases au
  case call c=>
    split at au
    · rename_i b hb
      unfold aBuiltin at au
      split at au
      · exact xJ au
      · exact xF au
      · exact mX au ▸ bw.refl _
      · exact mX au ▸ bw.refl _
      · exact mX au ▸ bw.refl _
      · cases au
    · split at au
      · exact hc _ _ _ _ _ au
      · cases au
    · cases au
  all_goals exact mX au ▸ bw.refl _
theorem vE {call:cw} (hc:fG call) (ops:Array Oper):∀ (os:List Oper) (e e':Env) (h h':AH),aOps P call ops os e h=some (e',h')→bw h h':=by
  intro os
  induction os with
  | nil=>intro e e' h h' hh;simp [aOps] at hh;obtain ⟨_,rfl⟩:=hh;exact bw.refl _
  | cons o os ih=>
    intro e e' h h' hh
    simp only [aOps] at hh
    split at hh
    · cases ho:aOp P call e.ev o.op h with
      | none=>rw [ho] at hh;cases hh
      | some r=>rw [ho] at hh;exact (mH hc ho).trans (ih _ _ _ _ hh)
    · exact ih _ _ _ _ hh
theorem bw.reset {h r:AH} (k:bw {h with low:=h.next} r):bw h {r with low:=if r.low<h.low then r.low else h.low}:=by
  refine ⟨?_,k.next,fun b h1 h2=>?_,k.dead,k.live⟩
  · simp only;split<;>omega
  · have:b<r.low:=by simp only at h2;split at h2<;>omega
    exact k.ae b h1 this
theorem D2 {call:cw} (hc:fG call) (ops:Array Oper) (base:Nat) (h0:AH) (hb:h0.next≤base):∀ (os:List Oper) (i:Nat) (s s':fY),bw h0 s.h→base+i+os.length≤s.h.next→aDraw P call ops base i os s=some s'→bw h0 s'.h:=by
  intro os
  induction os with
  | nil=>intro i s s' hs _ hh;simp [aDraw] at hh;subst hh;exact hs
  | cons o os ih=>
    intro i s s' hs hn hh
    simp only [List.length_cons] at hn
    simp only [aDraw] at hh
    split at hh
    · cases ho:aDrawOp P call ops.toList base i o s with
      | none=>rw [ho] at hh;cases hh
      | some s1=>
        rw [ho] at hh
        suffices hq:bw h0 s1.h∧s.h.next≤s1.h.next from ih _ _ _ hq.1 (by omega) hh
        unfold aDrawOp at ho
        split at ho
        · cases hq:aOp P call s.e.ev o.op s.h with
          | none=>rw [hq] at ho;cases ho
          | some r=>rw [hq] at ho;simp at ho;subst ho;exact ⟨hs,Nat.le_refl _⟩
        · cases hq:aLook P s.e.ev o.op s.h with
          | none=>rw [hq] at ho;cases ho
          | some v=>
            rw [hq] at ho;simp only [Option.bind_some] at ho
            split at ho
            · simp at ho;subst ho;exact ⟨hs,Nat.le_refl _⟩
            · cases ho
        · cases hq:aFresh P s.e.ev o.op with
          | none=>rw [hq] at ho;cases ho
          | some f=>
            rw [hq] at ho;simp at ho;subst ho
            have bm:base+i<s.h.next:=by have:=hn;omega
            refine ⟨⟨hs.low,hs.next,fun b h1 h2=>?_,fun b h1 h2=>?_,fun q b hb=>?_⟩,Nat.le_refl _⟩
            · simp only [AH.ae,Tr.eG]
              rw [if_neg (by omega)]
              exact hs.ae b h1 h2
            · simp only [AH.ae,Tr.eG]
              rw [if_neg (by omega)]
              exact hs.dead b h1 h2
            · simp only [AH.ae,Tr.eG] at hb
              by_cases e:b=base+i
              · rw [e];exact bm
              · rw [if_neg e] at hb;exact hs.live q b hb
        · cases hq:aOp P call s.e.ev o.op {s.h with low:=s.h.next} with
          | none=>rw [hq] at ho;cases ho
          | some r=>
            rw [hq] at ho;simp only [Option.bind_some] at ho
            have a7:=(mH hc hq).reset
            revert a7 ho
            generalize ({r.2 with low:=if r.2.low<s.h.low then r.2.low else s.h.low}:AH)=h2
            intro ho a7
            split at ho
            · injection ho with ho;subst ho;exact ⟨hs.trans a7,a7.next⟩
            · split at ho
              · injection ho with ho;subst ho;exact ⟨hs.trans a7,a7.next⟩
              · cases ho
    · refine ih _ _ _ ?_ ?_ hh
      · exact hs
      · simp only;omega
theorem Ap {call:cw} (hc:fG call) {ops:Array Oper} {e e':Env} {h h':AH} (hh:e3 P call ops e h=some (e',h')):bw h h':=by
  unfold e3 at hh
  cases hq:aDraw P call ops h.next 0 ops.toList ⟨e,{h with next:=h.next+ops.size},[],[]⟩ with
  | none=>rw [hq] at hh;cases hh
  | some s=>
    rw [hq] at hh;simp at hh;obtain ⟨_,rfl⟩:=hh
    exact D2 hc ops h.next h (Nat.le_refl _) _ _ _ _ ⟨Nat.le_refl _,Nat.le_add_right _ _,fun _ _ _=>rfl,fun _ _ q=>q,fun q b hb=>Nat.lt_of_lt_of_le (q b hb) (Nat.le_add_right _ _)⟩ (by simp) hq
theorem zC {body:Env→AH→fw} (hb:∀ e h x e' h',body e h=some (x,e',h')→bw h h'):∀ (k:Nat) e h x e' h',aLoop body k e h=some (x,e',h')→bw h h':=by
  intro k
  induction k with
  | zero=>intro e h x e' h' hh;simp [aLoop] at hh
  | succ k ih=>
    intro e h x e' h' hh
    simp only [aLoop] at hh
    split at hh
    · rename_i e1 h1 hq
      exact (hb _ _ _ _ _ hq).trans (ih _ _ _ _ _ hh)
    · exact hb _ _ _ _ _ hh
theorem Dd {run:Code→Env→AH→fw} (hb:∀ c e h x e' h',run c e h=some (x,e',h')→bw h h') (c:Code):∀ (k:Nat) cur e h x e' h',aJump run c k cur e h=some (x,e',h')→bw h h':=by
  intro k
  induction k with
  | zero=>intro cur e h x e' h' hh;simp [aJump] at hh
  | succ k ih=>
    intro cur e h x e' h' hh
    simp only [aJump] at hh
    split at hh
    · rename_i l e1 h1 hq
      split at hh
      · exact (hb _ _ _ _ _ _ hq).trans (ih _ _ _ _ _ _ hh)
      · simp at hh;obtain ⟨_,_,rfl⟩:=hh;exact hb _ _ _ _ _ _ hq
    · exact hb _ _ _ _ _ _ hh
theorem m5 {call:cw} (hc:fG call):∀ (k:Nat) (c:Code) e h x e' h',aCode P call k c e h=some (x,e',h')→bw h h':=by
  intro k
  induction k with
  | zero=>intro c e h x e' h' hh;simp [aCode] at hh
  | succ k ih=>
    intro c e h x e' h' hh
    simp only [aCode] at hh
    split at hh
    · simp at hh;obtain ⟨_,_,rfl⟩:=hh;exact bw.refl _
    · simp at hh;obtain ⟨_,_,rfl⟩:=hh;exact bw.refl _
    · rename_i id ops
      cases hq:aOps P call ops ops.toList e h with
      | none=>rw [hq] at hh;cases hh
      | some r=>rw [hq] at hh;simp at hh;obtain ⟨_,_,rfl⟩:=hh;exact vE hc ops _ _ _ _ _ hq
    · rename_i id ops
      cases hq:e3 P call ops e h with
      | none=>rw [hq] at hh;cases hh
      | some r=>rw [hq] at hh;simp at hh;obtain ⟨_,_,rfl⟩:=hh;exact Ap hc hq
    · rename_i a b
      split at hh
      · rename_i e1 h1 hq
        exact (ih _ _ _ _ _ _ hq).trans (ih _ _ _ _ _ _ hh)
      · exact ih _ _ _ _ _ _ hh
    · split at hh
      · exact ih _ _ _ _ _ _ hh
      · cases hh
    · split at hh
      · rename_i i e1 h1 hq
        split at hh
        · simp at hh;obtain ⟨_,_,rfl⟩:=hh;exact ih _ _ _ _ _ _ hq
        · simp at hh;obtain ⟨_,_,rfl⟩:=hh;exact ih _ _ _ _ _ _ hq
      · exact ih _ _ _ _ _ _ hh
    · exact zC (fun e h x e' h' q=>ih _ _ _ _ _ _ q) _ _ _ _ _ _ hh
    · exact Dd (fun c e h x e' h' q=>ih _ _ _ _ _ _ q) _ _ _ _ _ _ _ _ hh
    · simp at hh;obtain ⟨_,_,rfl⟩:=hh;exact bw.refl _
    · simp at hh;obtain ⟨_,_,rfl⟩:=hh;exact bw.refl _
    · simp at hh;obtain ⟨_,_,rfl⟩:=hh;exact bw.refl _
    · cases hh
theorem Dw {r:Bool} {h0 h1 h':AH} {v v':Value} (k:bw {h0 with low:=h0.next} h1) (hl:eS r h0 v h1=(v',h')):bw h0 h':=by
  unfold eS at hl
  split at hl
  · injection hl with _ hl;subst hl;exact bw.refl _
  · injection hl with _ hl;subst hl;exact k.reset
theorem sa {ov:cw} (nb:fG ov):∀ (k:Nat),fG (aCall P ov k):=by
  intro k
  induction k with
  | zero=>intro f args h v h' hh;exact nb f args h v h' hh
  | succ k ih=>
    intro f args h v h' hh
    simp only [aCall] at hh
    cases ho:ov f args h with
    | some r=>rw [ho] at hh;simp at hh;subst hh;exact nb f args h v h' ho
    | none=>
    rw [ho] at hh
    simp only at hh
    cases hf:P.funcs[f]? with
    | none=>rw [hf] at hh;cases hh
    | some fn=>
      rw [hf] at hh;simp only [Option.bind_some] at hh
      cases hb:fn.body with
      | none=>rw [hb] at hh;cases hh
      | some c=>
        rw [hb] at hh;simp only [Option.bind_some] at hh
        split at hh
        · split at hh
          all_goals first
            | (rename_i e h1 hq
               cases hr:aResults P fn.results.toList e h1 with
               | none=>rw [hr] at hh;cases hh
               | some u=>rw [hr] at hh;exact Dw (m5 ih _ _ _ _ _ _ _ hq) (Option.some.inj hh))
            | cases hh
        · cases hh
end
end Go.Proofs.Ytcilejikekccmaa.Am
namespace Go.Proofs.Ytcilejikekccmaa.Am
open Go
variable [Marks]
def operandOk:Operand→Bool
  | .const v=>clean v
  | .global _=>false
  | _=>true
def opOk (n:Nat) (o:Oper):Bool:=(match o.dst with | some d=>decide (d<n) | none=>true) && o.op.operands.toList.all operandOk
def rY (A:Array Oper) (o:Oper):Nat:=(o.looksAt A).foldl (fun m t=>Nat.lor m (Nat.shiftLeft 1 t)) 0
def nC (A:Array Oper) (x y:Oper):Bool:=
  (match x.dst with
   | some d=>!(rY A y).testBit d && (match y.dst with | some d2=>!(Nat.beq d d2) | none=>true)
   | none=>true) &&
  (match y.dst with
   | some d=>!(rY A x).testBit d
   | none=>true)
def pE (ops:List Oper):Bool:=
  (List.range ops.length).all fun i=>(List.range i).all fun j=>ordered (c9 ops) i j || nC ops.toArray (ops.getD i default) (ops.getD j default)
omit [Marks] in
theorem um (m t d:Nat):(Nat.lor m (Nat.shiftLeft 1 t)).testBit d=(m.testBit d || decide (t=d)):=by
  have:Nat.lor m (Nat.shiftLeft 1 t)=m ||| (1 <<< t):=rfl
  rw [this,Nat.testBit_or,Nat.one_shiftLeft,Nat.testBit_two_pow]
omit [Marks] in
theorem u9 (A:Array Oper) (o:Oper) (d:Nat) (h:d∈o.looksAt A):(rY A o).testBit d=true:=by
  have key:∀ (l:List Nat) (m:Nat),(m.testBit d=true∨d∈l)→(l.foldl (fun m t=>Nat.lor m (Nat.shiftLeft 1 t)) m).testBit d=true:=by
    intro l
    induction l with
    | nil=>
      intro m h
      rcases h with h | h
      · exact h
      · cases h
    | cons t l ih=>
      intro m h
      refine ih _ ?_
      rw [um]
      rcases h with h | h
      · left;simp [h]
      · rcases List.mem_cons.1 h with rfl | h
        · left;simp
        · exact .inr h
  exact key _ 0 (.inr h)
omit [Marks] in
theorem vb {A:Array Oper} {x y:Oper} (h:nC A x y=true):(∀ d,x.dst=some d→d∉y.looksAt A)∧(∀ d,x.dst=some d→y.dst≠some d)∧(∀ d,y.dst=some d→d∉x.looksAt A):=by
  refine ⟨fun d hd hm=>?_,fun d hd he=>?_,fun d hd hm=>?_⟩
  · simp [nC,hd,u9 A y d hm] at h
  · simp [nC,hd,he,Nat.beq_refl] at h
  · simp only [nC,hd,Bool.and_eq_true] at h
    have:=h.2
    rw [u9 A x d hm] at this
    cases this
def lG (ops:List Oper):Bool:=(List.range ops.length).all fun i=>(ops.getD i default).after.toList.all fun e=>!(Region.binds .any e) || decide (e.on<i)
def qZ (P:Program) (ops:List Oper):Bool:=qS P ops && pE ops && lG ops
def codeOk (P:Program) (n:Nat):Code→Bool
  | .region _ ops draw=>ops.toList.all (opOk n) && (!draw || qZ P ops.toList)
  | .seq a b=>codeOk P n a && codeOk P n b
  | .cond c a b=>operandOk c && codeOk P n a && codeOk P n b
  | .block _ c | .loop c | .scope c=>codeOk P n c
  | _=>true
def funcOk (P:Program) (fn:Func):Bool:=!(fn.name == "runtime.NumGoroutine") && (match fn.body with | some c=>codeOk P fn.ntmps c | none=>true)
def nJ (P:Program):Prop:=P.follows .mixedOrders=true∧P.funcs.toList.all (funcOk P)=true
theorem nJ.func {P:Program} (h:nJ P) {f:Nat} {fn:Func} (hf:P.funcs[f]?=some fn):funcOk P fn=true:=
  List.all_eq_true.1 h.2 fn (by rw [← Array.getElem?_toList] at hf;exact List.mem_of_getElem? hf)
structure dX (ρ:aQ) (e:Env) (n:Nat) (a:Act):Prop where
  size:a.tmps.size=n
  get:∀ t,VR ρ (e.get t) ((a.tmps[t]?).getD undef)
theorem dX.mono {ρ ρ':aQ} (hr:cF ρ ρ') {e:Env} {n:Nat} {a:Act} (h:dX ρ e n a):dX ρ' e n a:=⟨h.size,fun t=>(h.get t).mono hr⟩
theorem dX.ev {ρ:aQ} {e:Env} {n:Nat} {a:Act} (h:dX ρ e n a) {x:Operand} (hx:operandOk x=true):VR ρ (e.ev x) (a.eval x):=by
  cases x with
  | tmp t=>simpa [Env.ev,Act.eval] using h.get t
  | const v=>exact lI ρ hx
  | global g=>simp [operandOk] at hx
  | func f=>exact .func f rfl (fun i v v' q=>by simp at q) rfl (fun i v v' q=>by simp at q)
theorem dX.put {ρ:aQ} {e:Env} {n:Nat} {a:Act} (h:dX ρ e n a) {d:Option Nat} (hd:∀ t,d=some t→t<n) {v v':Value} (hv:VR ρ v v'):dX ρ (e.put d v) n (a.put d v'):=by
  cases d with
  | none=>exact h
  | some d=>
    refine ⟨by simp [Act.put,h.size],fun t=>?_⟩
    have bm:d<a.tmps.size:=by rw [h.size];exact hd d rfl
    simp only [Env.put,Act.put,Env.eG]
    by_cases e1:t=d
    · subst e1
      rw [if_pos rfl,Array.getElem?_setIfInBounds_self_of_lt bm]
      exact hv
    · rw [if_neg e1,Array.getElem?_setIfInBounds_ne (Ne.symm e1)]
      exact h.get t
theorem k1 {n:Nat} {o:Oper} (h:opOk n o=true):∀ t,o.dst=some t→t<n:=by
  intro t ht
  simp only [opOk,Bool.and_eq_true] at h
  have:=h.1
  rw [ht] at this
  simpa using this
theorem sN {n:Nat} {o:Oper} (h:opOk n o=true):∀ x∈o.op.operands,operandOk x=true:=by
  intro x hx
  simp only [opOk,Bool.and_eq_true,List.all_eq_true] at h
  exact h.2 x (by simpa using hx)
theorem put_defers (a:Act) (d:Option Nat) (v:Value):(a.put d v).defers=a.defers:=by cases d<;>rfl
theorem CX {ρ:aQ} {e:Env} {n:Nat} {a:Act} (h:dX ρ e n a) {ops:Array Oper} (bR:∀ o∈ops.toList,opOk n o=true) (j:Nat):yielded ops a.tmps j=aYield ops e j:=by
  unfold yielded aYield
  cases hj:(ops[j]?).bind (·.dst) with
  | none=>rfl
  | some d=>
    have hd:d<a.tmps.size:=by
      cases ho:ops[j]? with
      | none=>rw [ho] at hj;cases hj
      | some o=>
        rw [ho] at hj
        rw [h.size]
        exact k1 (bR o (by rw [← Array.getElem?_toList] at ho;exact List.mem_of_getElem? ho)) d hj
    have hv:=h.get d
    simp only [Option.bind_some,Array.getElem?_eq_getElem hd,Option.getD_some] at hv ⊢
    generalize he:e.get d=x at hv ⊢
    generalize a.tmps[d]=y at hv ⊢
    cases hv<;>rfl
theorem uz {ρ:aQ} {e:Env} {n:Nat} {a:Act} (h:dX ρ e n a) {ops:Array Oper} (bR:∀ o∈ops.toList,opOk n o=true) (o:Oper):Region.wanted o (yielded ops a.tmps)=b3 ops e o:=by
  unfold Region.wanted b3
  cases o.guard with
  | none=>rfl
  | some g=>obtain ⟨j,want⟩:=g;simp only [CX h bR]
section
variable {P:Program}
theorem xP {call:cw} (mO:Good P call) {n:Nat} {ops:Array Oper} (bR:∀ o∈ops.toList,opOk n o=true) {Q:Exit→Act→World→Prop} {e':Env} {h':AH}:∀ (os:List Oper) (i:Nat) (e:Env) (h:AH) (a:Act) (w:World) (ρ:aQ),
    ops.toList.drop i=os→aOps P call ops os e h=some (e',h')→dX ρ e n a→bd ρ w h.ae h.next→
    (∀ ρ' a' w',dX ρ' e' n a'→a'.defers=a.defers→bd ρ' w' h'.ae h'.next→Ext ρ h.ae h.next w ρ' h'.ae h'.next w'→Q .normal a' w')→wpOps P ops Q (List.range' i os.length) a w:=by
  intro os
  induction os with
  | nil=>
    intro i e h a w ρ hd hr he hs hQ
    simp [aOps] at hr
    obtain ⟨rfl,rfl⟩:=hr
    exact hQ ρ a w he rfl hs (Ext.refl _ _ _ _)
  | cons o os ih=>
    intro i e h a w ρ hd hr he hs hQ
    have hi:ops[i]?=some o:=by
      have:(ops.toList.drop i)[0]?=some o:=by rw [hd];rfl
      rw [List.getElem?_drop] at this
      simpa using this
    have aa:ops.toList.drop (i+1)=os:=by
      rw [← List.drop_drop,hd]
      rfl
    have gD:opOk n o=true:=bR o (by rw [← Array.getElem?_toList] at hi;exact List.mem_of_getElem? hi)
    simp only [List.length_cons,List.range'_succ]
    rw [wpOps_cons]
    unfold wpOp
    rw [hi]
    simp only
    rw [uz he bR o]
    simp only [aOps] at hr
    split at hr
    · rename_i hw
      rw [if_pos hw]
      cases au:aOp P call e.ev o.op h with
      | none=>rw [au] at hr;cases hr
      | some r=>
        obtain ⟨v,h1⟩:=r
        rw [au] at hr
        refine .inl (qR mO hs (fun x hx=>he.ev (sN gD x hx)) au fun ρ1 v' w1 ad af ab=>?_)
        exact ih (i+1) _ _ _ w1 ρ1 aa hr ((he.mono ab.le).put (k1 gD) ad) af fun ρ2 j w2 r1 I J U=>hQ ρ2 j w2 r1 (by rw [I,put_defers]) J (ab.trans U)
    · rename_i hw
      rw [if_neg hw]
      exact ih (i+1) _ _ _ w ρ aa hr (he.put (k1 gD) (VR.undef ρ)) hs fun ρ2 j w2 r1 I J U=>hQ ρ2 j w2 r1 (by rw [I,put_defers]) J U
def exOf:cX→Exit
  | .normal=> .normal
  | .exit i=> .exit i
  | .goto l=> .goto l
  | .ret=> .ret
def g3 (ρ:aQ) (h:AH) (w:World) (n:Nat) (a:Act) (x:cX) (e':Env) (h':AH):Exit→Act→World→Prop:=
  fun ex a' w'=>ex=exOf x∧∃ ρ',dX ρ' e' n a'∧a'.defers=a.defers∧bd ρ' w' h'.ae h'.next∧Ext ρ h.ae h.next w ρ' h'.ae h'.next w'
theorem g3.trans {ρ ρ1:aQ} {h h1:AH} {w w1:World} {n:Nat} {a a1:Act} {x:cX} {e':Env} {h':AH} (hd:a1.defers=a.defers) (hE:Ext ρ h.ae h.next w ρ1 h1.ae h1.next w1) {ex:Exit} {a':Act} {w':World} (hp:g3 ρ1 h1 w1 n a1 x e' h' ex a' w'):g3 ρ h w n a x e' h' ex a' w':=by
  obtain ⟨h1,ρ',j,I,J,U⟩:=hp
  exact ⟨h1,ρ',j,I.trans hd,J,hE.trans U⟩
def ud (P:Program) (call:cw):Prop:=∀ (n:Nat) (id:Nat) (ops:Array Oper) (e e':Env) (h h':AH) (ρ:aQ) (a:Act) (w:World),(∀ o∈ops.toList,opOk n o=true)→qZ P ops.toList=true→
  e3 P call ops e h=some (e',h')→dX ρ e n a→bd ρ w h.ae h.next→(∀ b,h.ae b≠none→b<h.next)→(Code.region id ops true).wp P (g3 ρ h w n a .normal e' h') a w
def scopeRounds (P:Program) (c:Code) (Q:Exit→Act→World→Prop):Nat→Code→Act→World→Prop
  | 0,_,_,_=>False
  | k+1,cur,a,w=>cur.wp P (fun ex a w=>match ex with
      | .goto l=>match findLabel c l with
        | some rest=>scopeRounds P c Q k rest a w
        | none=>Q (.goto l) a w
      | ex=>Q ex a w) a w
theorem Cw {c:Code} {Q:Exit→Act→World→Prop} {a:Act} {w:World} (k:Nat) (h:scopeRounds P c Q k c a w):(Code.scope c).wp P Q a w:=by
  intro b ks cs
  have key:∀ k cur a w,scopeRounds P c Q k cur a w→∃ e a' w',Q e a' w'∧Arrives P (lone (b.at a (.code cur:: .inScope c::ks)) cs w) b ks cs e a' w':=by
    intro k
    induction k with
    | zero=>intro cur a w h;exact h.elim
    | succ k ih=>
      intro cur a w h
      obtain ⟨e,a₁,w₁,hq,iU⟩:=h b (.inScope c::ks) cs
      cases e with
      | normal=>exact ⟨.normal,a₁,w₁,hq,Steps.trans iU (.one step_inScope)⟩
      | exit id=>exact ⟨.exit id,a₁,w₁,hq,fun k' hk=>iU k' (by simp [exitTo,hk])⟩
      | goto l=>
        simp only at hq
        cases hf:findLabel c l with
        | none=>
          rw [hf] at hq
          exact ⟨.goto l,a₁,w₁,hq,fun k' hk=>iU k' (by simp [gotoIn,hf,hk])⟩
        | some rest=>
          rw [hf] at hq
          obtain ⟨e₂,a₂,w₂,zg,CV⟩:=ih rest a₁ w₁ hq
          exact ⟨e₂,a₂,w₂,zg, .of_steps (iU _ (by simp [gotoIn,hf])) CV⟩
      | ret=>exact ⟨_,a₁,w₁,hq,iU⟩
      | panic ch=>exact ⟨_,a₁,w₁,hq,iU⟩
      | outgrown=>exact ⟨_,a₁,w₁,hq,iU⟩
  obtain ⟨e,a',w',hq,iU⟩:=key k c a w h
  exact ⟨e,a',w',hq, .of_steps (.one step_scope) iU⟩
theorem Cc {n:Nat}:∀ (c:Code) (l:Nat) (rest:Code),findLabel c l=some rest→codeOk P n c=true→codeOk P n rest=true:=by
  intro c
  induction c with
  | seq a b zI ym=>
    intro l rest h bR
    simp only [codeOk,Bool.and_eq_true] at bR
    simp only [findLabel] at h
    cases ha:findLabel a l with
    | some r=>
      rw [ha] at h
      simp at h;subst h
      simp only [codeOk,Bool.and_eq_true]
      exact ⟨zI l r ha bR.1,bR.2⟩
    | none=>rw [ha] at h;exact ym l rest h bR.2
  | label l'=>
    intro l rest h bR
    simp only [findLabel] at h
    split at h
    · simp at h;subst h;rfl
    · cases h
  | _=>intro l rest h;simp [findLabel] at h
def Live (h:AH):Prop:=∀ b,h.ae b≠none→b<h.next
theorem Cy {call:cw} (mO:Good P call) (a7:fG call) (B9:ud P call) {n:Nat}:∀ (k:Nat) (c:Code) (e:Env) (h:AH) (x:cX) (e':Env) (h':AH),aCode P call k c e h=some (x,e',h')→codeOk P n c=true→
    ∀ (ρ:aQ) (a:Act) (w:World),dX ρ e n a→bd ρ w h.ae h.next→Live h→c.wp P (g3 ρ h w n a x e' h') a w:=by
  intro k
  induction k with
  | zero=>intro c e h x e' h' hh;simp [aCode] at hh
  | succ k ih=>
    intro c e h x e' h' hh bR ρ a w he hs hl
    have here:∀ (ai:cX),x=ai→e'=e→h'=h→∀ ex,ex=exOf ai→g3 ρ h w n a x e' h' ex a w:=by
      rintro ai rfl rfl rfl ex rfl
      exact ⟨rfl,ρ,he,rfl,hs,Ext.refl _ _ _ _⟩
    have step:∀ (c1:Code) (e1:Env) (h1:AH),codeOk P n c1=true→aCode P call k c1 e h=some (.normal,e1,h1)→∀ (Q:Exit→Act→World→Prop),
        (∀ ρ1 a1 w1,dX ρ1 e1 n a1→bd ρ1 w1 h1.ae h1.next→Live h1→a1.defers=a.defers→Ext ρ h.ae h.next w ρ1 h1.ae h1.next w1→Q .normal a1 w1)→c1.wp P Q a w:=by
      intro c1 e1 h1 aj hr Q hQ
      refine wp_mono (ih c1 e h _ e1 h1 hr aj ρ a w he hs hl) ?_
      rintro ex a1 w1 ⟨rfl,ρ1,j,I,J,U⟩
      exact hQ ρ1 a1 w1 j J ((m5 a7 _ _ _ _ _ _ _ hr).live hl) I U
    simp only [aCode] at hh
    split at hh
    · simp at hh;obtain ⟨j,I,J⟩:=hh;exact wp_skip (here .normal j.symm I.symm J.symm _ rfl)
    · simp at hh;obtain ⟨j,I,J⟩:=hh;exact wp_label (here .normal j.symm I.symm J.symm _ rfl)
    · rename_i id ops
      cases hq:aOps P call ops ops.toList e h with
      | none=>rw [hq] at hh;cases hh
      | some r=>
        rw [hq] at hh;simp at hh;obtain ⟨rfl,rfl,rfl⟩:=hh
        have al:∀ o∈ops.toList,opOk n o=true:=by
          simp only [codeOk,Bool.and_eq_true,List.all_eq_true] at bR
          exact bR.1
        refine wp_region ?_
        have:=xP mO al (Q:=g3 ρ h w n a .normal r.1 r.2) ops.toList 0 e h a w ρ rfl hq he hs fun ρ' a' w' j I J U=>⟨rfl,ρ',j,I,J,U⟩
        rw [List.range_eq_range']
        simpa using this
    · rename_i id ops
      cases hq:e3 P call ops e h with
      | none=>rw [hq] at hh;cases hh
      | some r=>
        rw [hq] at hh;simp at hh;obtain ⟨rfl,rfl,rfl⟩:=hh
        simp only [codeOk,Bool.and_eq_true,List.all_eq_true,Bool.or_eq_true,Bool.not_true,Bool.false_eq_true,false_or] at bR
        exact B9 n id ops e r.1 h r.2 ρ a w bR.1 bR.2 hq he hs hl
    · rename_i c1 c2
      simp only [codeOk,Bool.and_eq_true] at bR
      split at hh
      · rename_i e1 h1 hq
        refine wp_seq (step c1 e1 h1 bR.1 hq _ fun ρ1 a1 w1 j I J U an=>?_)
        show c2.wp P _ a1 w1
        exact wp_mono (ih c2 e1 h1 x e' h' hh bR.2 ρ1 a1 w1 j I J) fun ex a' w' hp=>hp.trans U an
      · rename_i r bY
        refine wp_seq (wp_mono (ih c1 e h x e' h' hh bR.1 ρ a w he hs hl) ?_)
        rintro ex a' w' ⟨rfl,hp⟩
        cases x with
        | normal=>exact absurd hh (bY _ _)
        | exit i=>exact ⟨rfl,hp⟩
        | goto l=>exact ⟨rfl,hp⟩
        | ret=>exact ⟨rfl,hp⟩
    · rename_i cd c1 c2
      simp only [codeOk,Bool.and_eq_true] at bR
      split at hh
      · rename_i t ht
        have hv:=he.ev bR.1.1
        rw [ht] at hv
        have hc:a.eval cd= .bool t:=by
          generalize a.eval cd=y at hv
          cases hv;rfl
        refine wp_cond hc (ih _ e h x e' h' hh ?_ ρ a w he hs hl)
        cases t
        · exact bR.2
        · exact bR.1.2
      · cases hh
    · rename_i id c1
      simp only [codeOk] at bR
      split at hh
      · rename_i i e1 h1 hq
        refine wp_block (wp_mono (ih c1 e h _ e1 h1 hq bR ρ a w he hs hl) ?_)
        rintro ex a' w' ⟨rfl,hp⟩
        split at hh
        · rename_i c8
          simp at hh;obtain ⟨rfl,rfl,rfl⟩:=hh
          simp only [exOf,Exit.inBlock,c8,if_true]
          exact ⟨rfl,hp⟩
        · rename_i c8
          simp at hh;obtain ⟨rfl,rfl,rfl⟩:=hh
          simp only [exOf,Exit.inBlock,c8,if_false]
          exact ⟨rfl,hp⟩
      · rename_i bY
        refine wp_block (wp_mono (ih c1 e h x e' h' hh bR ρ a w he hs hl) ?_)
        rintro ex a' w' ⟨rfl,hp⟩
        cases x with
        | normal=>exact ⟨rfl,hp⟩
        | exit i=>exact absurd hh (bY _ _ _)
        | goto l=>exact ⟨rfl,hp⟩
        | ret=>exact ⟨rfl,hp⟩
    · rename_i c1
      simp only [codeOk] at bR
      have key:∀ (m:Nat) (e0:Env) (h0:AH),aLoop (aCode P call k c1) m e0 h0=some (x,e',h')→∀ (ρ0:aQ) (a0:Act) (w0:World),dX ρ0 e0 n a0→bd ρ0 w0 h0.ae h0.next→Live h0→a0.defers=a.defers→Ext ρ h.ae h.next w ρ0 h0.ae h0.next w0→
          Code.rounds P c1 (g3 ρ h w n a x e' h') m a0 w0:=by
        intro m
        induction m with
        | zero=>intro e0 h0 hq;simp [aLoop] at hq
        | succ m qM=>
          intro e0 h0 hq ρ0 a0 w0 ag ah aa ad af
          rw [rounds_succ]
          simp only [aLoop] at hq
          split at hq
          · rename_i e1 h1 hb
            refine wp_mono (ih c1 e0 h0 _ e1 h1 hb bR ρ0 a0 w0 ag ah aa) ?_
            rintro ex a1 w1 ⟨rfl,ρ1,j,I,J,U⟩
            exact qM e1 h1 hq ρ1 a1 w1 j J ((m5 a7 _ _ _ _ _ _ _ hb).live aa) (I.trans ad) (af.trans U)
          · rename_i r bY
            refine wp_mono (ih c1 e0 h0 x e' h' hq bR ρ0 a0 w0 ag ah aa) ?_
            rintro ex a1 w1 hp
            have ab:g3 ρ h w n a x e' h' ex a1 w1:=hp.trans ad af
            obtain ⟨rfl,_⟩:=hp
            cases x with
            | normal=>exact absurd hq (bY _ _)
            | exit i=>exact ab
            | goto l=>exact ab
            | ret=>exact ab
      exact wp_loop_rounds k (key k e h hh ρ a w he hs hl rfl (Ext.refl _ _ _ _))
    · rename_i c1
      simp only [codeOk] at bR
      have key:∀ (m:Nat) (cur:Code) (e0:Env) (h0:AH),codeOk P n cur=true→aJump (aCode P call k) c1 m cur e0 h0=some (x,e',h')→∀ (ρ0:aQ) (a0:Act) (w0:World),dX ρ0 e0 n a0→bd ρ0 w0 h0.ae h0.next→Live h0→a0.defers=a.defers→Ext ρ h.ae h.next w ρ0 h0.ae h0.next w0→
          scopeRounds P c1 (g3 ρ h w n a x e' h') m cur a0 w0:=by
        intro m
        induction m with
        | zero=>intro cur e0 h0 _ hq;simp [aJump] at hq
        | succ m qM=>
          intro cur e0 h0 sc hq ρ0 a0 w0 ag ah aa ad af
          simp only [scopeRounds]
          simp only [aJump] at hq
          split at hq
          · rename_i l e1 h1 hb
            refine wp_mono (ih cur e0 h0 _ e1 h1 hb sc ρ0 a0 w0 ag ah aa) ?_
            rintro ex a1 w1 ⟨rfl,ρ1,j,I,J,U⟩
            simp only [exOf]
            split at hq
            · rename_i rest hf
              try rw [hf]
              exact qM rest e1 h1 (Cc c1 l rest hf bR) hq ρ1 a1 w1 j J ((m5 a7 _ _ _ _ _ _ _ hb).live aa) (I.trans ad) (af.trans U)
            · rename_i hf
              try rw [hf]
              simp at hq;obtain ⟨rfl,rfl,rfl⟩:=hq
              exact ⟨rfl,ρ1,j,I.trans ad,J,af.trans U⟩
          · rename_i r bY
            refine wp_mono (ih cur e0 h0 x e' h' hq sc ρ0 a0 w0 ag ah aa) ?_
            rintro ex a1 w1 hp
            have ab:g3 ρ h w n a x e' h' ex a1 w1:=hp.trans ad af
            obtain ⟨rfl,_⟩:=hp
            cases x with
            | normal=>exact ab
            | exit i=>exact ab
            | goto l=>exact absurd hq (bY _ _ _)
            | ret=>exact ab
      exact Cw k (key k c1 e h bR hh ρ a w he hs hl rfl (Ext.refl _ _ _ _))
    · simp at hh;obtain ⟨j,I,J⟩:=hh;exact wp_exit (here (.exit _) j.symm I.symm J.symm _ rfl)
    · simp at hh;obtain ⟨j,I,J⟩:=hh;exact wp_goto (here (.goto _) j.symm I.symm J.symm _ rfl)
    · simp at hh;obtain ⟨j,I,J⟩:=hh;exact wp_ret (here .ret j.symm I.symm J.symm _ rfl)
    · cases hh
end
end Go.Proofs.Ytcilejikekccmaa.Am
namespace Go.Proofs.Ytcilejikekccmaa.Am
open Go
def bits (m:Nat):List Nat:=(List.range (m+1)).filter fun j=>m.testBit j
theorem rH {m j:Nat}:j∈bits m↔m.testBit j=true:=by
 unfold bits
 rw [List.mem_filter,List.mem_range]
 refine ⟨fun h=>h.2,fun h=>⟨?_,h⟩⟩
 have:=Nat.ge_two_pow_of_testBit h
 have h2:j<2 ^ j:=Nat.lt_two_pow_self
 omega
def Pr (L:List Oper) (i:Nat):List Nat:=bits ((c9 L).getD i 0)
theorem Bw {o:Oper} {n:Nat} {acc:List Nat} {j:Nat} (h:(td o n acc).testBit j=true):∃ e∈o.after.toList,Region.binds .any e=true∧(j=e.on∨(e.on<n∧(acc.getD (n - 1 - e.on) 0).testBit j=true)):=by
 have key:∀ (l:List Edge) (m:Nat),(l.foldl (fun m e=>if Region.binds .any e then Nat.lor (Nat.lor m (Nat.shiftLeft 1 e.on)) (if Nat.blt e.on n then acc.getD (n - 1 - e.on) 0 else 0) else m) m).testBit j=true→
   m.testBit j=true∨∃ e∈l,Region.binds .any e=true∧(j=e.on∨(e.on<n∧(acc.getD (n - 1 - e.on) 0).testBit j=true)):=by
  intro l
  induction l with
  | nil=>intro m h;exact .inl h
  | cons e l ih=>
   intro m h
   rcases ih _ h with h1 | ⟨e',h1,h2⟩
   ·by_cases hb:Region.binds .any e=true
    ·simp only [if_pos hb] at h1
     have e1:∀ a b:Nat,(Nat.lor a b).testBit j=(a.testBit j || b.testBit j):=fun a b=>Nat.testBit_or a b j
     rw [e1,um] at h1
     simp only [Bool.or_eq_true,decide_eq_true_eq] at h1
     rcases h1 with (h1 | h1) | h1
     ·exact .inl h1
     ·exact .inr ⟨e,by simp,hb, .inl h1.symm⟩
     ·by_cases bm:e.on<n
      ·rw [if_pos (by rw [Nat.blt_eq];exact bm)] at h1
       exact .inr ⟨e,by simp,hb, .inr ⟨bm,h1⟩⟩
      ·rw [if_neg (by rw [Nat.blt_eq];exact bm)] at h1
       simp at h1
    ·simp only [if_neg hb] at h1;exact .inl h1
   ·exact .inr ⟨e',by simp [h1],h2⟩
 rcases key _ 0 h with h1 | h1
 ·simp at h1
 ·exact h1
theorem x0:∀ (os:List Oper) (n:Nat) (acc:List Nat),(predsAux os n acc).length=acc.length+os.length:=by
 intro os
 induction os with
 | nil=>intro n acc;simp [predsAux]
 | cons o os ih=>intro n acc;simp only [predsAux,p9,ih,List.length_cons];omega
theorem z4 (acc:List Nat) (i:Nat) (h:i<acc.length):acc.reverse.getD i 0=acc.getD (acc.length - 1 - i) 0:=by
 rw [List.getD_eq_getElem?_getD,List.getD_eq_getElem?_getD,List.getElem?_reverse h]
theorem u4:∀ (os:List Oper) (n:Nat) (acc:List Nat) (i:Nat),acc.length=n→i<n→(predsAux os n acc).getD i 0=acc.getD (n - 1 - i) 0:=by
 intro os
 induction os with
 | nil=>intro n acc i hn h;simp only [predsAux];rw [z4 _ _ (by omega),hn]
 | cons o os ih=>
  intro n acc i hn h
  simp only [predsAux,p9]
  rw [ih _ _ _ (by simp [hn]) (by omega)]
  have:n+1 - 1 - i=(n - 1 - i)+1:=by omega
  rw [this]
  simp [List.getD_eq_getElem?_getD]
theorem C5:∀ (os:List Oper) (n:Nat) (acc:List Nat) (k:Nat) (o:Oper),acc.length=n→os[k]?=some o→∀ j,((predsAux os n acc).getD (n+k) 0).testBit j=true→
  ∃ e∈o.after.toList,Region.binds .any e=true∧(j=e.on∨(e.on<n+k∧((predsAux os n acc).getD e.on 0).testBit j=true)):=by
 intro os
 induction os with
 | nil=>intro n acc k o hn h;simp at h
 | cons o os ih=>
  intro n acc k o' hn h j hj
  simp only [predsAux,p9] at hj ⊢
  cases k with
  | zero=>
   simp at h;subst h
   rw [Nat.add_zero,u4 _ _ _ _ (by simp [hn]) (by omega)] at hj
   simp [List.getD_eq_getElem?_getD] at hj
   obtain ⟨e,he,hb,hc⟩:=Bw hj
   refine ⟨e,he,hb,hc.imp id fun ⟨h1,h2⟩=>⟨by omega,?_⟩⟩
   rw [u4 _ _ _ _ (by simp [hn]) (by omega)]
   have:n+1 - 1 - e.on=(n - 1 - e.on)+1:=by omega
   rw [this]
   simpa [List.getD_eq_getElem?_getD] using h2
  | succ k=>
   have e1:n+(k+1)=(n+1)+k:=by omega
   rw [e1] at hj ⊢
   exact ih _ _ k o' (by simp [hn]) (by simpa using h) j hj
theorem tv {L:List Oper} {i:Nat} {o:Oper} (ho:L[i]?=some o) {j:Nat} (hj:j∈Pr L i):∃ e∈o.after.toList,Region.binds .any e=true∧(j=e.on∨(e.on<i∧j∈Pr L e.on)):=by
 have:=C5 L 0 [] i o rfl ho j (by simpa [Pr,c9,rH] using hj)
 simpa [Pr,c9,rH] using this
theorem Cp {L:List Oper} {i:Nat} (h:L[i]?=none):Pr L i=[]:=by
 have:(c9 L).length=L.length:=by simp [c9,x0]
 unfold Pr
 rw [List.getD_eq_getElem?_getD,List.getElem?_eq_none (by rw [this];exact List.getElem?_eq_none_iff.1 h)]
 rfl
theorem j8 {L:List Oper} (hb:lG L=true):∀ (i j:Nat),j∈Pr L i→j<i:=by
 intro i
 induction i using Nat.strongRecOn with
 | _ i ih=>
  intro j hj
  cases ho:L[i]? with
  | none=>rw [Cp ho] at hj;cases hj
  | some o=>
   obtain ⟨e,he,mM,hc⟩:=tv ho hj
   have hi:i<L.length:=(List.getElem?_eq_some_iff.1 ho).1
   simp only [lG,List.all_eq_true,List.mem_range] at hb
   have h1:=hb i hi e (by rw [List.getD_eq_getElem?_getD,ho];exact he)
   rw [mM] at h1
   have h2:e.on<i:=by simpa using h1
   rcases hc with rfl | ⟨_,I⟩
   ·exact h2
   ·exact Nat.lt_trans (ih e.on h2 j I) h2
theorem lY {L:List Oper} {i j:Nat}:ordered (c9 L) i j=true↔j∈Pr L i∨i∈Pr L j:=by
 simp [ordered,Pr,rH]
theorem u0 (p:Nat→Prop):∀ (n:Nat),(∃ j,j<n∧p j)→∃ j,j<n∧p j∧∀ k,j<k→k<n→¬ p k:=by
 intro n
 induction n with
 | zero=>rintro ⟨j,h,_⟩;omega
 | succ n ih=>
  rintro ⟨j,h,hp⟩
  by_cases hn:p n
  ·exact ⟨n,by omega,hn,fun k h1 h2=>by omega⟩
  ·obtain ⟨m,h1,h2,I⟩:=ih ⟨j,by
    have:j≠n:=fun e=>hn (e ▸ hp)
    omega,hp⟩
   refine ⟨m,by omega,h2,fun k J U hk=>?_⟩
   by_cases e:k=n
   ·exact hn (e ▸ hk)
   ·exact I k J (by omega) hk
theorem sP {a b:ByteArray} (h:a.data.toList=b.data.toList):a=b:=by
 cases a;cases b
 congr 1
 exact Array.ext' h
theorem ti {a b:Value} (h:sameV a b=true):a=b:=by
 unfold sameV at h
 split at h
 ·simp at h;rw [h]
 ·simp at h;rw [h.1,h.2]
 ·exact congrArg Value.string (sP (by simpa using h))
 ·simp at h;rw [h]
 ·simp at h;rw [h.1.1,h.1.2,h.2]
 ·rename_i cY bs
  simp only [Bool.and_eq_true,decide_eq_true_eq,List.all_eq_true] at h
  obtain ⟨h1,h2⟩:=h
  congr 1
  apply Array.ext h1
  intro i hi J
  have:=h2 (cY[i],bs[i]) (by
   rw [List.mem_iff_getElem?]
   refine ⟨i,?_⟩
   rw [List.getElem?_zip_eq_some]
   exact ⟨by simp [hi],by simp [J]⟩)
  simp only at this
  split at this
  ·simp at this;rename_i j I;rw [j,I,this]
  ·simp at this;rename_i j I;rw [j,I,this.1,this.2]
  ·rename_i j I;rw [j,I];exact congrArg Value.string (sP (by simpa using this))
  ·simp at this;rename_i j I;rw [j,I,this]
  ·simp at this;rename_i j I;rw [j,I,this.1.1,this.1.2,this.2]
  ·cases this
 ·cases h
section
variable {P:Program}
def lookBlk (ev:Operand→Value):Op→Option Nat
 | .load _ x=>match ev x with | .pointer (some a)=>some a.block | _=>none
 | .convert _ _ x=>match ev x with | .slice (some a) n _=>if n=0 then none else some a.block | _=>none
 | _=>none
theorem pF {ev:Operand→Value} {op:Op} (hc:cls P op= .look) {h h':AH} (hb:∀ b,lookBlk ev op=some b→h.ae b=h'.ae b):aLook P ev op h=aLook P ev op h':=by
 cases op<;>simp only [cls] at hc<;>try (cases hc;done)
 case load t x=>
  simp only [aLook,aLoad]
  split
  ·rename_i a hx
   have kY:=hb a.block (by simp [lookBlk,hx])
   have h1:∀ n,h.cq a n=h'.cq a n:=fun n=>by simp only [AH.cq,kY]
   have h2:h.load a=h'.load a:=by simp only [AH.load,kY]
   simp only [h1,h2]
  ·rfl
 case convert s d x=>
  split at hc
  ·rename_i hd
   simp only [aLook]
   unfold aConvert
   rw [hd]
   cases hu:P.underlying s with
   | none=>simp
   | some u=>
    cases hx:ev x<;>try (cases u<;>rfl)
    rename_i a n c
    cases a with
    | none=>cases u<;>simp;split<;>rfl
    | some a=>
     cases u<;>try rfl
     rename_i e
     simp only
     split
     ·by_cases h0:n=0
      ·simp [h0]
      ·rw [if_neg h0,if_neg h0]
       have kY:=hb a.block (by simp [lookBlk,hx,h0])
       have h1:h.cq a n=h'.cq a n:=by simp only [AH.cq,kY]
       rw [h1]
       cases h'.cq a n with
       | none=>rfl
       | some cs=>cases hq:bytesOf cs<;>simp [hq]
     ·rfl
  ·cases hc
  ·cases hc
 case call c=>split at hc<;>cases hc
theorem wI {ev:Operand→Value} {op:Op} (hc:cls P op= .look) {h:AH} {v:Value} (hl:aLook P ev op h=some v):∀ b,lookBlk ev op=some b→h.ae b≠none:=by
 intro b hb hn
 cases op<;>simp only [cls] at hc<;>try (cases hc;done)
 case load t x=>
  simp only [lookBlk] at hb
  split at hb
  ·rename_i a hx
   simp at hb;subst hb
   simp only [aLook,aLoad,hx] at hl
   cases hd:P.underlying t with
   | none=>rw [hd] at hl;cases hl
   | some d=>
    rw [hd] at hl
    simp only [Option.bind_some] at hl
    have h1:∀ n,h.cq a n=none:=fun n=>by unfold AH.cq;cases a.spot<;>simp [hn]
    have h2:h.load a=none:=by unfold AH.load;cases a.spot<;>simp [hn]
    split at hl
    ·cases hz:bS P t with
     | none=>rw [hz] at hl;cases hl
     | some s=>rw [hz] at hl;simp [h1] at hl
    ·rw [h2] at hl;cases hl
  ·cases hb
 case convert s d x=>
  split at hc
  ·rename_i hd
   simp only [lookBlk] at hb
   split at hb
   ·rename_i a n c hx
    split at hb
    ·cases hb
    ·rename_i h0
     simp at hb;subst hb
     simp only [aLook] at hl
     unfold aConvert at hl
     rw [hd,hx] at hl
     have h1:∀ n,h.cq a n=none:=fun n=>by unfold AH.cq;cases a.spot<;>simp [hn]
     cases hu:P.underlying s with
     | none=>rw [hu] at hl;simp at hl
     | some u=>
      rw [hu] at hl
      cases u<;>try (simp at hl;done)
      simp only [h0,if_false,h1,Option.bind_none] at hl
      split at hl<;>simp at hl
   ·cases hb
  ·cases hc
  ·cases hc
 case call c=>split at hc<;>cases hc
theorem n1 {α:Type} {o:Option Value} {h h':α} {v:Value} (hm:o.map (·,h)=some (v,h')):h'=h∧∀ h2:α,o.map (·,h2)=some (v,h2):=by
 cases o with
 | none=>cases hm
 | some u=>simp at hm;obtain ⟨rfl,rfl⟩:=hm;exact ⟨rfl,fun _=>rfl⟩
theorem yJ {call:cw} {ev:Operand→Value} {op:Op} (hc:cls P op= .pure) {h h':AH} {v:Value} (au:aOp P call ev op h=some (v,h')):h'=h∧∀ h2,aOp P call ev op h2=some (v,h2):=by
 cases op<;>simp only [cls] at hc<;>try (cases hc;done)
 case pick c a b=>simp only [aOp] at au ⊢;split at au<;>simp at au;obtain ⟨rfl,rfl⟩:=au;rename_i t ht;exact ⟨rfl,fun h2=>by simp [ht]⟩
 case move x=>simp [aOp] at au ⊢;obtain ⟨rfl,rfl⟩:=au;simp
 case assign x=>simp [aOp] at au ⊢;obtain ⟨rfl,rfl⟩:=au;simp
 case nilCheck x=>
  simp only [aOp] at au ⊢
  split at au
  ·rename_i a ha;simp at au;obtain ⟨rfl,rfl⟩:=au;exact ⟨rfl,fun h2=>by simp [ha]⟩
  ·rename_i f fi ca ha;simp at au;obtain ⟨rfl,rfl⟩:=au;exact ⟨rfl,fun h2=>by simp [ha]⟩
  ·cases au
 case makeInterface t x=>
  simp only [aOp] at au ⊢
  split at au
  ·cases au
  ·rename_i d gw hu;simp at au;obtain ⟨rfl,rfl⟩:=au
   exact ⟨rfl,fun h2=>by cases d<;>first | rfl | (exact absurd rfl (gw _)) | (simp [hu])⟩
  ·cases au
 case makeFunc fn fi ca=>
  cases fn<;>simp only [aOp] at au ⊢<;>try (cases au;done)
  injection au with au;injection au with e1 j;subst e1;subst j;exact ⟨rfl,fun _=>rfl⟩
 case extract x i=>
  simp only [aOp] at au ⊢
  split at au
  ·rename_i vs hv;obtain ⟨I,J⟩:=n1 au;exact ⟨I,fun h2=>by simpa [hv] using J h2⟩
  ·cases au
 case convert s d x=>
  split at hc
  ·cases hc
  ·rename_i k hd
   simp only [aOp] at au ⊢
   unfold aConvert at au ⊢
   rw [hd] at au ⊢
   cases hu:P.underlying s with
   | none=>rw [hu] at au;simp at au
   | some u=>
    rw [hu] at au
    cases hx:ev x<;>rw [hx] at au<;>try (cases u<;>simp at au;done)
    simp at au ⊢
    obtain ⟨rfl,rfl⟩:=au
    simp
  ·cases hc
 case call c=>
  have key:∀ (b:Builtin) (ts:List TypeId) (args:List Value),(b= .len∨b= .max∨b= .min)→aBuiltin P b ts args h=some (v,h')→h'=h∧∀ h2,aBuiltin P b ts args h2=some (v,h2):=by
   intro b ts args hb hq
   rcases hb with rfl | rfl | rfl
   ·cases ts with
    | nil=>simp [aBuiltin] at hq
    | cons t ts=>cases args with
     | nil=>simp [aBuiltin] at hq
     | cons x xs=>exact n1 hq
   ·cases args with
    | nil=>simp [aBuiltin] at hq
    | cons x xs=>exact n1 hq
   ·cases args with
    | nil=>simp [aBuiltin] at hq
    | cons x xs=>exact n1 hq
  split at hc
  all_goals try (cases hc;done)
  all_goals
   rename_i hb
   simp only [aOp,hb] at au ⊢
   exact key _ _ _ (by simp) au
 all_goals
  simp only [aOp] at au ⊢
  exact n1 au
end
end Go.Proofs.Ytcilejikekccmaa.Am
namespace Go.Proofs.Ytcilejikekccmaa.Am
open Go
section
variable {P:Program}
theorem v3 {call:cw} {ops:Array Oper} {base:Nat}:∀ (os:List Oper) (i:Nat) (s sF:fY),aDraw P call ops base i os s=some sF→
  ∃ st:Nat→fY,st i=s∧st (i+os.length)=sF∧∀ (k:Nat) o,os[k]?=some o→
   (b3 ops (st (i+k)).e o=true∧aDrawOp P call ops.toList base (i+k) o (st (i+k))=some (st (i+k+1)))∨
   (b3 ops (st (i+k)).e o=false∧st (i+k+1)={st (i+k) with e:=(st (i+k)).e.put o.dst undef}):=by
 intro os
 induction os with
 | nil=>intro i s sF h;simp [aDraw] at h;subst h;exact ⟨fun _=>s,rfl,rfl,fun k o hk=>by simp at hk⟩
 | cons o os ih=>
  intro i s sF h
  simp only [aDraw] at h
  have glue:∀ s1,aDraw P call ops base (i+1) os s1=some sF→
    ((b3 ops s.e o=true∧aDrawOp P call ops.toList base i o s=some s1)∨(b3 ops s.e o=false∧s1={s with e:=s.e.put o.dst undef}))→
    ∃ st:Nat→fY,st i=s∧st (i+(o::os).length)=sF∧∀ (k:Nat) o',(o::os)[k]?=some o'→
     (b3 ops (st (i+k)).e o'=true∧aDrawOp P call ops.toList base (i+k) o' (st (i+k))=some (st (i+k+1)))∨
     (b3 ops (st (i+k)).e o'=false∧st (i+k+1)={st (i+k) with e:=(st (i+k)).e.put o'.dst undef}):=by
   intro s1 h1 qz
   obtain ⟨st,I,J,U⟩:=ih (i+1) s1 sF h1
   refine ⟨fun j=>if j=i then s else st j,by simp,?_,fun k o' hk=>?_⟩
   ·have:i+(o::os).length≠i:=by simp
    simp only [this,if_false]
    rw [← J];congr 1;simp;omega
   ·cases k with
    | zero=>
     simp at hk;subst hk
     have e1:(i+0+1=i)=False:=by simp
     simp only [Nat.add_zero,if_true,e1,if_false]
     have:(i+1=i)=False:=by simp
     simp only [this,if_false,I]
     exact qz
    | succ k=>
     have:=U k o' (by simpa using hk)
     have e1:(i+(k+1)=i)=False:=by simp
     have aa:(i+(k+1)+1=i)=False:=by simp;omega
     simp only [e1,aa,if_false]
     have ab:i+(k+1)=i+1+k:=by omega
     rw [ab]
     exact this
  split at h
  ·rename_i hw
   cases ho:aDrawOp P call ops.toList base i o s with
   | none=>rw [ho] at h;cases h
   | some s1=>rw [ho] at h;exact glue s1 h (.inl ⟨hw,ho⟩)
  ·rename_i hw
   exact glue _ h (.inr ⟨by simpa using hw,rfl⟩)
structure sE (P:Program) (call:cw) (ops:Array Oper) (base:Nat) (E:Nat→Env) (H:Nat→AH) (val:Nat→Value):Prop where
 put:∀ i o,ops.toList[i]?=some o→E (i+1)=(E i).put o.dst (val i)
 off:∀ i o,ops.toList[i]?=some o→b3 ops (E i) o=false→val i=undef∧H (i+1)=H i
 pure:∀ i o,ops.toList[i]?=some o→b3 ops (E i) o=true→cls P o.op= .pure→(∀ h2,aOp P call (E i).ev o.op h2=some (val i,h2))∧H (i+1)=H i
 look:∀ i o,ops.toList[i]?=some o→b3 ops (E i) o=true→cls P o.op= .look→aLook P (E i).ev o.op (H i)=some (val i)∧H (i+1)=H i
 fresh:∀ i o,ops.toList[i]?=some o→b3 ops (E i) o=true→cls P o.op= .fresh→∃ f,aFresh P (E i).ev o.op=some f∧val i=f.1 (base+i)∧(H (i+1)).next=(H i).next∧∀ b,(H (i+1)).ae b=if b=base+i then some ⟨f.2.1,true,f.2.2⟩ else (H i).ae b
 make:∀ i o,ops.toList[i]?=some o→b3 ops (E i) o=true→cls P o.op= .make→∃ r,aOp P call (E i).ev o.op {H i with low:=(H i).next}=some (val i,r)∧(∀ b,(H (i+1)).ae b=r.ae b)∧(H (i+1)).next=r.next∧bw {H i with low:=(H i).next} r
 hZ:∀ j o,ops.toList[j]?=some o→b3 ops (E j) o=true→cls P o.op= .make→(∀ b,b<(H j).next→(H (j+1)).ae b=(H j).ae b)∨
  (∀ i oi,ops.toList[i]?=some oi→b3 ops (E i) oi=true→cls P oi.op= .look→ordered (c9 ops.toList) i j=false→(i<j→aLook P (E i).ev oi.op (H (j+1))=some (val i))∧(j<i→aLook P (E i).ev oi.op (H j)=some (val i)))
theorem qF (ps:List Nat) (i j:Nat):ordered ps i j=ordered ps j i:=by simp [ordered,Bool.or_comm]
theorem draw_facts {call:cw} (a7:fG call) {ops:Array Oper} {base:Nat} {s sF:fY} (h:aDraw P call ops base 0 ops.toList s=some sF) (hl:s.looks=[]) (he:s.dK=[]):
  ∃ E H val,sE P call ops base E H val∧E 0=s.e∧H 0=s.h∧E ops.size=sF.e∧H ops.size=sF.h:=by
 obtain ⟨st,h0,h1,h2⟩:=v3 ops.toList 0 s sF h
 have nO:∀ (i:Nat) o,ops.toList[i]?=some o→(b3 ops (st i).e o=true∧aDrawOp P call ops.toList base i o (st i)=some (st (i+1)))∨(b3 ops (st i).e o=false∧st (i+1)={st i with e:=(st i).e.put o.dst undef}):=by
  intro i o ho
  simpa using h2 i o ho
 let val:Nat→Value:=fun i=>match ops.toList[i]? with
  | none=>undef
  | some o=>if b3 ops (st i).e o=true then (match cls P o.op with
    | .pure=>((aOp P call (st i).e.ev o.op (st i).h).map (·.1)).getD undef
    | .look=>(aLook P (st i).e.ev o.op (st i).h).getD undef
    | .fresh=>((aFresh P (st i).e.ev o.op).map fun f=>f.1 (base+i)).getD undef
    | .make=>((aOp P call (st i).e.ev o.op {(st i).h with low:=(st i).h.next}).map (·.1)).getD undef) else undef
 have pg:∀ i o,ops.toList[i]?=some o→b3 ops (st i).e o=false→st (i+1)={st i with e:=(st i).e.put o.dst (val i)}∧val i=undef:=by
  intro i o ho hw
  have iM:ops[i]?=some o:=by simpa using ho
  have hv:val i=undef:=by simp [val,ho,iM,hw]
  rcases nO i o ho with ⟨q,_⟩ | ⟨_,q⟩
  ·rw [hw] at q;cases q
  ·rw [hv];exact ⟨q,rfl⟩
 have qO:∀ i o,ops.toList[i]?=some o→b3 ops (st i).e o=true→cls P o.op= .pure→∃ r,aOp P call (st i).e.ev o.op (st i).h=some r∧val i=r.1∧st (i+1)={st i with e:=(st i).e.put o.dst (val i)}:=by
  intro i o ho hw hc
  rcases nO i o ho with ⟨_,q⟩ | ⟨q,_⟩
  ·unfold aDrawOp at q
   rw [hc] at q
   simp only at q
   cases hr:aOp P call (st i).e.ev o.op (st i).h with
   | none=>rw [hr] at q;cases q
   | some r=>
    rw [hr] at q
    have iM:ops[i]?=some o:=by simpa using ho
    have hv:val i=r.1:=by simp [val,ho,iM,hw,hc,hr]
    exact ⟨r,rfl,hv,by rw [hv];exact (Option.some.inj q).symm⟩
  ·rw [hw] at q;cases q
 have kC:∀ i o,ops.toList[i]?=some o→b3 ops (st i).e o=true→cls P o.op= .look→aLook P (st i).e.ev o.op (st i).h=some (val i)∧st (i+1)={st i with e:=(st i).e.put o.dst (val i),looks:=(i,(st i).e,val i)::(st i).looks}∧
   ∀ x∈(st i).dK,ordered (c9 ops.toList) i x.1=false→aLook P (st i).e.ev o.op x.2=some (val i):=by
  intro i o ho hw hc
  rcases nO i o ho with ⟨_,q⟩ | ⟨q,_⟩
  ·unfold aDrawOp at q
   rw [hc] at q
   simp only at q
   cases hr:aLook P (st i).e.ev o.op (st i).h with
   | none=>rw [hr] at q;cases q
   | some v=>
    rw [hr] at q
    simp only [Option.bind_some] at q
    have iM:ops[i]?=some o:=by simpa using ho
    have hv:val i=v:=by simp [val,ho,iM,hw,hc,hr]
    rw [hv]
    split at q
    ·rename_i e8
     refine ⟨rfl,(Option.some.inj q).symm,fun x hx gJ=>?_⟩
     have:=List.all_eq_true.1 e8 x hx
     rw [gJ,Bool.false_or] at this
     split at this
     ·rename_i u hu;rw [hu,ti this]
     ·cases this
    ·cases q
  ·rw [hw] at q;cases q
 have rv:∀ i o,ops.toList[i]?=some o→b3 ops (st i).e o=true→cls P o.op= .fresh→∃ f,aFresh P (st i).e.ev o.op=some f∧val i=f.1 (base+i)∧
   st (i+1)={st i with e:=(st i).e.put o.dst (val i),h:={(st i).h with t:=(st i).h.t.set (base+i) (some ⟨f.2.1,true,f.2.2⟩)}}:=by
  intro i o ho hw hc
  rcases nO i o ho with ⟨_,q⟩ | ⟨q,_⟩
  ·unfold aDrawOp at q
   rw [hc] at q
   simp only at q
   cases hr:aFresh P (st i).e.ev o.op with
   | none=>rw [hr] at q;cases q
   | some f=>
    rw [hr] at q
    have iM:ops[i]?=some o:=by simpa using ho
    have hv:val i=f.1 (base+i):=by simp [val,ho,iM,hw,hc,hr]
    exact ⟨f,rfl,hv,by rw [hv];exact (Option.some.inj q).symm⟩
  ·rw [hw] at q;cases q
 have ou:∀ i o,ops.toList[i]?=some o→b3 ops (st i).e o=true→cls P o.op= .make→∃ r,aOp P call (st i).e.ev o.op {(st i).h with low:=(st i).h.next}=some (val i,r)∧
   (st (i+1)).e=(st i).e.put o.dst (val i)∧(∀ b,(st (i+1)).h.ae b=r.ae b)∧(st (i+1)).h.next=r.next∧(st (i+1)).looks=(st i).looks∧
   ((st (i+1)).dK=(st i).dK∧(st i).h.next≤r.low∨(st (i+1)).dK=(i,(st i).h)::(st i).dK∧
    ∀ x∈(st i).looks,ordered (c9 ops.toList) i x.1=false→aLook P x.2.1.ev (ops.toList.getD x.1 default).op (st (i+1)).h=some x.2.2):=by
  intro i o ho hw hc
  rcases nO i o ho with ⟨_,q⟩ | ⟨q,_⟩
  ·unfold aDrawOp at q
   rw [hc] at q
   simp only at q
   cases hr:aOp P call (st i).e.ev o.op {(st i).h with low:=(st i).h.next} with
   | none=>rw [hr] at q;cases q
   | some r=>
    obtain ⟨v,r⟩:=r
    rw [hr] at q
    simp only [Option.bind_some] at q
    have iM:ops[i]?=some o:=by simpa using ho
    have hv:val i=v:=by simp [val,ho,iM,hw,hc,hr]
    rw [hv]
    refine ⟨r,rfl,?_⟩
    have fu:∀ b,({r with low:=if r.low<(st i).h.low then r.low else (st i).h.low}:AH).ae b=r.ae b:=fun b=>rfl
    have dq:({r with low:=if r.low<(st i).h.low then r.low else (st i).h.low}:AH).next=r.next:=rfl
    revert q fu dq
    generalize ({r with low:=if r.low<(st i).h.low then r.low else (st i).h.low}:AH)=ar
    intro q fu dq
    split at q
    ·rename_i g4
     have:=Option.some.inj q
     rw [← this]
     exact ⟨rfl,fu,dq,rfl, .inl ⟨rfl,g4⟩⟩
    ·split at q
     ·rename_i e8
      have:=Option.some.inj q
      rw [← this]
      refine ⟨rfl,fu,dq,rfl, .inr ⟨rfl,fun x hx gJ=>?_⟩⟩
      have aa:=List.all_eq_true.1 e8 x hx
      rw [gJ,Bool.false_or] at aa
      split at aa
      ·rename_i u hu;rw [hu,ti aa]
      ·cases aa
     ·cases q
  ·rw [hw] at q;cases q
 have gZ:∀ c:ft,c= .pure∨c= .look∨c= .fresh∨c= .make:=by intro c;cases c<;>simp
 have A7:∀ i o,ops.toList[i]?=some o→(∀ x∈(st i).looks,x∈(st (i+1)).looks)∧(∀ x∈(st i).dK,x∈(st (i+1)).dK):=by
  intro i o ho
  cases hw:b3 ops (st i).e o with
  | false=>rw [(pg i o ho hw).1];exact ⟨fun x q=>q,fun x q=>q⟩
  | true=>
   rcases gZ (cls P o.op) with hc | hc | hc | hc
   ·obtain ⟨r,_,_,q⟩:=qO i o ho hw hc;rw [q];exact ⟨fun x q=>q,fun x q=>q⟩
   ·obtain ⟨_,q,_⟩:=kC i o ho hw hc;rw [q];exact ⟨fun x q=>List.mem_cons_of_mem _ q,fun x q=>q⟩
   ·obtain ⟨f,_,_,q⟩:=rv i o ho hw hc;rw [q];exact ⟨fun x q=>q,fun x q=>q⟩
   ·obtain ⟨r,_,_,_,_,q,I⟩:=ou i o ho hw hc
    refine ⟨fun x hx=>by rw [q];exact hx,fun x hx=>?_⟩
    rcases I with ⟨I,_⟩ | ⟨I,_⟩
    ·rw [I];exact hx
    ·rw [I];exact List.mem_cons_of_mem _ hx
 have u2:∀ (d i:Nat),i+d≤ops.toList.length→(∀ x∈(st i).looks,x∈(st (i+d)).looks)∧(∀ x∈(st i).dK,x∈(st (i+d)).dK):=by
  intro d
  induction d with
  | zero=>intro i _;exact ⟨fun x q=>q,fun x q=>q⟩
  | succ d ih=>
   intro i hi
   obtain ⟨ag,ah⟩:=A7 (i+d) _ (List.getElem?_eq_getElem (by omega))
   obtain ⟨ai,aj⟩:=ih i (by omega)
   exact ⟨fun x q=>ag x (ai x q),fun x q=>ah x (aj x q)⟩
 refine ⟨fun i=>(st i).e,fun i=>(st i).h,val,⟨?_,?_,?_,?_,?_,?_,?_⟩,by simp only [h0],by simp only [h0],by simp [← h1],by simp [← h1]⟩
 ·intro i o ho
  cases hw:b3 ops (st i).e o with
  | false=>rw [(pg i o ho hw).1]
  | true=>
   rcases gZ (cls P o.op) with hc | hc | hc | hc
   ·obtain ⟨r,_,_,q⟩:=qO i o ho hw hc;rw [q]
   ·obtain ⟨_,q,_⟩:=kC i o ho hw hc;rw [q]
   ·obtain ⟨f,_,_,q⟩:=rv i o ho hw hc;rw [q]
   ·obtain ⟨r,_,q,_⟩:=ou i o ho hw hc;exact q
 ·intro i o ho hw
  obtain ⟨J,I⟩:=pg i o ho hw
  exact ⟨I,by simp only [J]⟩
 ·intro i o ho hw hc
  obtain ⟨r,J,I,U⟩:=qO i o ho hw hc
  obtain ⟨_,ad⟩:=yJ hc (v:=r.1) (h':=r.2) J
  exact ⟨fun h2=>by rw [I];exact ad h2,by simp only [U]⟩
 ·intro i o ho hw hc
  obtain ⟨J,I,_⟩:=kC i o ho hw hc
  exact ⟨J,by simp only [I]⟩
 ·intro i o ho hw hc
  obtain ⟨f,J,I,U⟩:=rv i o ho hw hc
  refine ⟨f,J,I,by simp only [U],fun b=>?_⟩
  simp only [U,AH.ae,Tr.eG]
 ·intro i o ho hw hc
  obtain ⟨r,J,I,U,af,_⟩:=ou i o ho hw hc
  exact ⟨r,J,U,af,mH a7 J⟩
 ·intro j o ho hw hc
  obtain ⟨r,J,I,U,af,ad,al⟩:=ou j o ho hw hc
  rcases al with ⟨_,ab⟩ | ⟨ab,an⟩
  ·left
   intro b hb
   show (st (j+1)).h.ae b=_
   rw [U b]
   exact (mH a7 J).ae b hb (Nat.lt_of_lt_of_le hb ab)
  ·right
   intro i oi qs jS fg gJ
   obtain ⟨au,ao,aq⟩:=kC i oi qs jS fg
   have En:j<ops.toList.length:=(List.getElem?_eq_some_iff.1 ho).1
   have eI:i<ops.toList.length:=(List.getElem?_eq_some_iff.1 qs).1
   refine ⟨fun k3=>?_,fun Et=>?_⟩
   ·have hm:(i,(st i).e,val i)∈(st j).looks:=by
     have:=(u2 (j - (i+1)) (i+1) (by omega)).1 (i,(st i).e,val i) (by rw [ao];simp)
     rwa [show i+1+(j - (i+1))=j by omega] at this
    have:=an _ hm (by rw [qF];exact gJ)
    have hg:ops.toList.getD i default=oi:=by rw [List.getD_eq_getElem?_getD,qs];rfl
    simp only [hg] at this
    exact this
   ·have hm:(j,(st j).h)∈(st i).dK:=by
     have:=(u2 (i - (j+1)) (j+1) (by omega)).2 (j,(st j).h) (by rw [ab];simp)
     rwa [show j+1+(i - (j+1))=i by omega] at this
    exact aq _ hm gJ
end
end Go.Proofs.Ytcilejikekccmaa.Am
namespace Go.Proofs.Ytcilejikekccmaa.Am
open Go
variable [Marks]
def Dn (cK:Array Bool) (j:Nat):Prop:=cK.getD j false=true
def leftOf (n:Nat) (cK:Array Bool):List Nat:=(List.range n).filter fun i=>!cK.getD i false
theorem filter_lt {α:Type} (p q:α→Bool):∀ (l:List α),(∀ x∈l,q x=true→p x=true)→(∃ x∈l,p x=true∧q x=false)→(l.filter q).length<(l.filter p).length:=by
 intro l
 induction l with
 | nil=>rintro _ ⟨x,h,_⟩;cases h
 | cons y l ih=>
  intro h1 h2
  have hle:(l.filter q).length≤(l.filter p).length:=by
   clear ih h2
   induction l with
   | nil=>simp
   | cons z l ih=>
    have:=ih fun x hx=>h1 x (by simp at hx ⊢;rcases hx with hx | hx<;>simp [hx])
    simp only [List.filter_cons]
    have hz:=h1 z (by simp)
    cases hq:q z<;>cases hp:p z<;>simp_all<;>omega
  simp only [List.filter_cons]
  have hy:=h1 y (by simp)
  by_cases q6:p y=true∧q y=false
  ·simp only [q6.1,q6.2,if_true,Bool.false_eq_true,if_false,List.length_cons];omega
  ·have:(l.filter q).length<(l.filter p).length:=ih (fun x hx=>h1 x (by simp [hx])) (by
    obtain ⟨x,hx,fR⟩:=h2
    rcases List.mem_cons.1 hx with rfl | hx
    ·exact absurd fR q6
    ·exact ⟨x,hx,fR⟩)
   cases hq:q y<;>cases hp:p y<;>simp_all<;>omega
theorem vv {n:Nat} {cK:Array Bool} (hn:cK.size=n) {i:Nat} (hi:i<n):Dn (cK.setIfInBounds i true)=fun j=>j=i∨Dn cK j:=by
 funext j
 unfold Dn
 by_cases e:j=i
 ·subst e
  simp [Array.getD_eq_getD_getElem?,Array.getElem?_setIfInBounds_self_of_lt (show j<cK.size by omega)]
 ·simp [e,Array.getD_eq_getD_getElem?,Array.getElem?_setIfInBounds_ne (Ne.symm e)]
theorem pS {n:Nat} {cK:Array Bool} (hn:cK.size=n) {i:Nat}:cK.getD i true=false↔i<n∧¬ Dn cK i:=by
 unfold Dn
 rw [Array.getD_eq_getD_getElem?,Array.getD_eq_getD_getElem?]
 by_cases h:i<n
 ·rw [Array.getElem?_eq_getElem (by omega)];simp [h]
 ·rw [Array.getElem?_eq_none (by omega)];simp [h]
theorem Bf {P:Program} {ops:Array Oper} {Q:Exit→Act→World→Prop} (gF:lG ops.toList=true) (I:(Nat→Prop)→Act→World→Prop)
  (qz:∀ D i o a w,I D a w→ops[i]?=some o→¬ D i→(∀ e∈o.after.toList,Region.binds .any e=true→D e.on)→∀ K:Act→World→Prop,(∀ a' w',I (fun j=>j=i∨D j) a' w'→K a' w')→wpOp P ops Q i K a w)
  (rJ:∀ D a w,I D a w→(∀ i,i<ops.size→D i)→Q .normal a w):
  ∀ (fuel:Nat) (cK:Array Bool) (a:Act) (w:World),cK.size=ops.size→(leftOf ops.size cK).length≤fuel→I (Dn cK) a w→wpAny P .any ops Q fuel cK a w:=by
 have done:∀ (cK:Array Bool),cK.size=ops.size→Region.ready .any ops cK=[]→∀ i,i<ops.size→Dn cK i:=by
  intro cK b7 hr i
  induction i using Nat.strongRecOn with
  | _ i ih=>
   intro hi
   refine Classical.byContradiction fun hn=>?_
   have:i∈Region.ready .any ops cK:=by
    rw [mem_ready]
    refine ⟨(pS b7).2 ⟨hi,hn⟩,ops[i],by simp [hi],fun e he hb=>?_⟩
    simp only [lG,List.all_eq_true,List.mem_range] at gF
    have h1:=gF i (by simpa using hi) e (by simpa [List.getD_eq_getElem?_getD,hi] using he)
    rw [hb] at h1
    have h2:e.on<i:=by simpa using h1
    exact ih e.on h2 (by omega)
   rw [hr] at this
   cases this
 intro fuel
 induction fuel with
 | zero=>
  intro cK a w b7 hl hI
  have kF:leftOf ops.size cK=[]:=List.eq_nil_of_length_eq_zero (by omega)
  have e8:∀ i,i<ops.size→Dn cK i:=by
   intro i hi
   refine Classical.byContradiction fun hn=>?_
   have:i∈leftOf ops.size cK:=by
    unfold leftOf
    rw [List.mem_filter,List.mem_range]
    exact ⟨hi,by simpa [Dn] using hn⟩
   rw [kF] at this
   cases this
  refine ⟨?_,rJ _ a w hI e8⟩
  cases hr:Region.ready .any ops cK with
  | nil=>rfl
  | cons i l=>
   have:i∈Region.ready .any ops cK:=by rw [hr];simp
   obtain ⟨h0,h1⟩:=(pS b7).1 (mem_ready.1 this).1
   exact absurd (e8 i h0) h1
 | succ fuel ih=>
  intro cK a w b7 hl hI
  refine ⟨fun hr=>rJ _ a w hI (done cK b7 hr),fun i hi=>?_⟩
  obtain ⟨h0,o,ho,e8⟩:=mem_ready.1 hi
  obtain ⟨bm,hn⟩:=(pS b7).1 h0
  refine qz _ i o a w hI ho hn (fun e he hb=>e8 e (by simpa using he) hb) _ fun a' w' DY=>?_
  refine ih _ a' w' (by simp [b7]) ?_ (by rw [vv b7 bm];exact DY)
  have:(leftOf ops.size (cK.setIfInBounds i true)).length<(leftOf ops.size cK).length:=by
   have hD:=vv b7 bm
   have hd:∀ j,(cK.setIfInBounds i true).getD j false=true↔(j=i∨cK.getD j false=true):=fun j=>by
    have:=congrFun hD j
    unfold Dn at this
    rw [this]
   refine filter_lt _ _ _ (fun j _ hj=>?_) ⟨i,by simpa using bm,?_,?_⟩
   ·simp only [Bool.not_eq_true'] at hj ⊢
    cases hq:cK.getD j false with
    | false=>rfl
    | true=>rw [(hd j).2 (.inr hq)] at hj;cases hj
   ·simpa [Dn] using hn
   ·simp only [(hd i).2 (.inl rfl),Bool.not_true]
  omega
theorem bd.merge {ρ ρ':aQ} {w w':World} {G X X' G':cO} {nx iO:Nat} (hs:bd ρ w G nx) (gT:bd ρ' w' X' iO) (hE:Ext ρ X nx w ρ' X' iO w')
  (hX:∀ b B,ρ b≠none→X b=some B→G b=some B) (rM:∀ b,b<nx→X b=none→X' b=none)
  (ag:∀ b,ρ b≠none→X b=none→G' b=G b) (ab:∀ b,ρ' b≠none→(ρ b=none∨X b≠none)→G' b=X' b) (hl:∀ b,G' b≠none→b<iO):bd ρ' w' G' iO:=by
 have on:∀ {ρ:aQ} {b p},ρ b=some p→ρ b≠none:=fun q r=>by rw [q] at r;cases r
 have live:∀ {X:cO} {b B},X b=some B→X b≠none:=fun q r=>by rw [q] at r;cases r
 have side:∀ b p,ρ' b=some p→(ρ b=some p∧X b=none∧G' b=G b)∨((ρ b=none∨X b≠none)∧G' b=X' b):=by
  intro b p hp
  cases hr:ρ b with
  | none=>exact .inr ⟨.inl rfl,ab b (on hp) (.inl hr)⟩
  | some q=>
   have:q=p:=by have:=hE.le b q hr;rw [hp] at this;exact (Option.some.inj this).symm
   subst this
   cases hx:X b with
   | none=>exact .inl ⟨rfl,rfl,ag b (on hr) hx⟩
   | some B=>exact .inr ⟨.inr (fun q=>by cases q),ab b (on hp) (.inr (live hx))⟩
 have o1:∀ b B p,ρ b=some p→X b=none→G b=some B→∀ k,j1 ρ X k→k≠p.ae:=by
  rintro b B p hp hx hB k ⟨c,C,q,U,ah,ad,ai⟩ e
  have ik:c≠b:=fun e=>by subst e;rw [hx] at U;cases U
  exact hs.apart c b C B q p ik (hX c C (on ad) U) hB ad hp ah (by rw [ai,e])
 refine ⟨gT.dN,gT.lt,fun b B p hB hp=>?_,fun b B p hB hp ho=>?_,fun b c B C p q ik hB hC hp hq ho=>?_,hl⟩
 ·rcases side b p hp with ⟨h1,h2,J⟩ | ⟨h1,h2⟩
  ·intro i v hv
   rw [J] at hB
   obtain ⟨v',aj,al⟩:=hs.cell b B p hB h1 i v hv
   refine ⟨v',?_,al.mono hE.le⟩
   rw [← aj]
   exact World.cell?_of_block (hE.aT _ (hs.lt b p h1) fun hO=>o1 b B p h1 h2 hB _ hO rfl)
  ·exact gT.cell b B p (by rw [← h2];exact hB) hp
 ·rcases side b p hp with ⟨h1,h2,J⟩ | ⟨h1,h2⟩
  ·rw [J] at hB
   have:=hs.own b B p hB h1 ho
   rwa [← hE.aT _ (hs.lt b p h1) fun hO=>o1 b B p h1 h2 hB _ hO rfl] at this
  ·exact gT.own b B p (by rw [← h2];exact hB) hp ho
 ·rcases side b p hp with ⟨h1,h2,J⟩ | ⟨h1,h2⟩
  ·rw [J] at hB
   rcases side c q hq with ⟨j,I,aa⟩ | ⟨j,I⟩
   ·exact hs.apart b c B C p q ik hB (by rw [← aa];exact hC) h1 j ho
   ·rw [I] at hC
    cases ny:ρ c with
    | none=>
     rcases hE.new c q hq with g | ⟨_,g | g⟩
     ·rw [ny] at g;cases g
     ·have:=hs.lt b p h1;omega
     ·exact fun e=>o1 b B p h1 h2 hB _ g e.symm
    | some q'=>
     have zF:q'=q:=by have:=hE.le c q' ny;rw [hq] at this;exact (Option.some.inj this).symm
     subst zF
     have wL:X c≠none:=by
      rcases j with j | j
      ·rw [ny] at j;cases j
      ·exact j
     cases af:X c with
     | none=>exact absurd af wL
     | some C'=>exact hs.apart b c B C' p q' ik hB (hX c C' (on ny) af) h1 ny ho
  ·rw [h2] at hB
   rcases side c q hq with ⟨j,I,aa⟩ | ⟨j,I⟩
   ·rw [aa] at hC
    intro e
    have bm:=hs.lt c q j
    exact o1 c C q j I hC p.ae (hE.gv p.ae (by omega) ⟨b,B,p,hB,ho,hp,rfl⟩) e
   ·exact gT.apart b c B C p q ik hB (by rw [← I];exact hC) hp hq ho
theorem Ext.merge {ρ ρ':aQ} {w w':World} {G X X' G':cO} {nx iO base:Nat} (hE:Ext ρ X nx w ρ' X' iO w') (hb:base≤nx)
  (hX:∀ b B,ρ b≠none→X b=some B→G b=some B) (aa:∀ b,ρ b≠none→X b=none→G' b=G b) (ab:∀ b,ρ' b≠none→(ρ b=none∨X b≠none)→G' b=X' b)
  (A9:∀ b,b<base→ρ b=none→G' b=G b):Ext ρ G base w ρ' G' iO w':=by
 have on:∀ {ρ:aQ} {b p},ρ b=some p→ρ b≠none:=fun q r=>by rw [q] at r;cases r
 have gv:∀ k,j1 ρ X k→j1 ρ G k:=fun k ⟨b,B,p,j,J,I,U⟩=>⟨b,B,p,hX b B (on I) j,J,I,U⟩
 refine ⟨hE.le,hE.os,hE.tape,hE.output,hE.size,Nat.le_trans hb hE.nx,fun k hk ho=>hE.aT k hk fun q=>ho (gv k q),fun k hk ⟨b,B,p,j,J,I,U⟩=>?_,fun b p q=>(hE.new b p q).imp id fun q=>⟨Nat.le_trans hb q.1,q.2.imp id (gv _)⟩,A9⟩
 by_cases h:ρ b≠none∧X b=none
 ·rw [aa b h.1 h.2] at j
  cases hr:ρ b with
  | none=>exact absurd hr h.1
  | some p'=>
   have:=hE.le b p' hr
   rw [I] at this
   cases this
   exact ⟨b,B,p,j,J,hr,U⟩
 ·have h':ρ b=none∨X b≠none:=by
   by_cases e:ρ b=none
   ·exact .inl e
   ·exact .inr fun ad=>h ⟨e,ad⟩
  rw [ab b (on I) h'] at j
  exact gv k (hE.gv k hk ⟨b,B,p,j,J,I,U⟩)
theorem s4 {P:Program} {call:cw} {ev:Operand→Value} {op:Op} (hc:cls P op= .look) {h:AH} {v:Value} (hl:aLook P ev op h=some v):aOp P call ev op h=some (v,h):=by
 cases op<;>simp only [cls] at hc<;>try (cases hc;done)
 case load t x=>simp only [aLook] at hl;simp [aOp,hl]
 case convert s d x=>
  split at hc
  ·rename_i hd
   simp only [aLook] at hl
   simp only [aOp]
   have:∀ r,aConvert P s d (ev x) h=some r→r.2=h:=by
    intro r hr
    unfold aConvert at hr
    rw [hd] at hr
    split at hr
    ·rename_i hk _;simp at hk
    ·simp at hr;rw [← hr]
    ·rename_i hk _;simp at hk
    ·rename_i hk _;simp at hk
    ·split at hr
     ·simp at hr;rw [← hr]
     ·cases hr
    ·split at hr
     ·split at hr
      ·simp at hr;rw [← hr]
      ·rename_i n _ _ _ _ a
       revert hr
       cases h.cq _ _ with
       | none=>intro hr;cases hr
       | some cs=>
        intro hr
        simp at hr
        obtain ⟨bs,_,hr⟩:=hr
        rw [← hr]
     ·cases hr
    ·cases hr
   cases hr:aConvert P s d (ev x) h with
   | none=>rw [hr] at hl;cases hl
   | some r=>
    rw [hr] at hl
    simp at hl
    obtain ⟨u,g⟩:=r
    have:=this _ hr
    simp at this hl
    rw [this,hl]
  ·cases hc
  ·cases hc
 case call c=>split at hc<;>cases hc
end Go.Proofs.Ytcilejikekccmaa.Am
namespace Go.Proofs.Ytcilejikekccmaa.Am
open Go
variable [Marks]
structure Dr (P:Program) (call:cw) (ops:Array Oper) (n base:Nat) (E:Nat→Env) (H:Nat→AH) (val:Nat→Value):Prop where
 fQ:Good P call
 ok:∀ o∈ops.toList,opOk n o=true
 facts:sE P call ops base E H val
 made:qS P ops.toList=true
 apart:pE ops.toList=true
 back:lG ops.toList=true
 vp:(H 0).next=base+ops.size
 u6:∀ b,(H 0).ae b≠none→b<base
section
variable {P:Program} {call:cw} {ops:Array Oper} {n base:Nat} {E:Nat→Env} {H:Nat→AH} {val:Nat→Value}
def Mk (P:Program) (ops:Array Oper) (E:Nat→Env) (i:Nat):Prop:=∃ o,ops.toList[i]?=some o∧b3 ops (E i) o=true∧cls P o.op= .make
def Fr (P:Program) (ops:Array Oper) (E:Nat→Env) (i:Nat):Prop:=∃ o,ops.toList[i]?=some o∧b3 ops (E i) o=true∧cls P o.op= .fresh
theorem Mk.lt {i:Nat} (h:Mk P ops E i):i<ops.size:=by
 obtain ⟨o,h1,_⟩:=h
 simpa using (List.getElem?_eq_some_iff.1 h1).1
theorem uY {i:Nat} (h:i<ops.size):∃ o,ops.toList[i]?=some o:=⟨_,List.getElem?_eq_getElem (by simpa using h)⟩
theorem Dr.step (d:Dr P call ops n base E H val) {i:Nat} (hi:i<ops.size) (hm:¬ Mk P ops E i):
  (H (i+1)).next=(H i).next∧(∀ b,b≠base+i→(H (i+1)).ae b=(H i).ae b)∧(¬ Fr P ops E i→∀ b,(H (i+1)).ae b=(H i).ae b):=by
 obtain ⟨o,ho⟩:=uY hi
 cases hw:b3 ops (E i) o with
 | false=>rw [(d.facts.off i o ho hw).2];exact ⟨rfl,fun _ _=>rfl,fun _ _=>rfl⟩
 | true=>
  have gZ:∀ c:ft,c= .pure∨c= .look∨c= .fresh∨c= .make:=by intro c;cases c<;>simp
  rcases gZ (cls P o.op) with hc | hc | hc | hc
  ·rw [(d.facts.pure i o ho hw hc).2];exact ⟨rfl,fun _ _=>rfl,fun _ _=>rfl⟩
  ·rw [(d.facts.look i o ho hw hc).2];exact ⟨rfl,fun _ _=>rfl,fun _ _=>rfl⟩
  ·obtain ⟨f,_,_,h1,h2⟩:=d.facts.fresh i o ho hw hc
   exact ⟨h1,fun b hb=>by rw [h2,if_neg hb],fun hf=>absurd ⟨o,ho,hw,hc⟩ hf⟩
  ·exact absurd ⟨o,ho,hw,hc⟩ hm
theorem Dr.oT (d:Dr P call ops n base E H val) {i:Nat} (hm:Mk P ops E i):
  (H i).next≤(H (i+1)).next∧(∀ b,b<(H i).next→(H i).ae b=none→(H (i+1)).ae b=none)∧((∀ b,(H i).ae b≠none→b<(H i).next)→∀ b,(H (i+1)).ae b≠none→b<(H (i+1)).next):=by
 obtain ⟨o,ho,hw,hc⟩:=hm
 obtain ⟨r,_,h1,h2,j⟩:=d.facts.make i o ho hw hc
 refine ⟨by rw [h2];exact j.next,fun b hb q=>by rw [h1];exact j.dead b hb q,fun hl b hb=>?_⟩
 rw [h2]
 exact j.live hl b (by rw [← h1];exact hb)
theorem Dr.yU (d:Dr P call ops n base E H val) {i:Nat}:∀ (m:Nat),i+m≤ops.size→(H i).next≤(H (i+m)).next:=by
 intro m
 induction m with
 | zero=>intro _;exact Nat.le_refl _
 | succ m ih=>
  intro h
  refine Nat.le_trans (ih (by omega)) ?_
  by_cases hm:Mk P ops E (i+m)
  ·exact (d.oT hm).1
  ·exact Nat.le_of_eq (d.step (by omega) hm).1.symm
theorem Dr.qN (d:Dr P call ops n base E H val) {i k:Nat} (h:i≤k) (hk:k≤ops.size):(H i).next≤(H k).next:=by
 have:=d.yU (i:=i) (k - i) (by omega)
 rwa [show i+(k - i)=k by omega] at this
theorem Dr.lQ (d:Dr P call ops n base E H val) {k:Nat} (hk:k≤ops.size):base+ops.size≤(H k).next:=by
 rw [← d.vp];exact d.qN (Nat.zero_le k) hk
theorem Dr.live (d:Dr P call ops n base E H val):∀ (k:Nat),k≤ops.size→∀ b,(H k).ae b≠none→b<(H k).next:=by
 intro k
 induction k with
 | zero=>intro _ b hb;rw [d.vp];exact Nat.lt_of_lt_of_le (d.u6 b hb) (by omega)
 | succ k ih=>
  intro hk b hb
  by_cases hm:Mk P ops E k
  ·exact (d.oT hm).2.2 (ih (by omega)) b hb
  ·obtain ⟨h1,h2,j⟩:=d.step (by omega) hm
   rw [h1]
   by_cases e:b=base+k
   ·have:=d.lQ (k:=k) (by omega);omega
   ·exact ih (by omega) b (by rw [← h2 b e];exact hb)
theorem Dr.dead (d:Dr P call ops n base E H val) {f:Nat} (hf:f<ops.size):∀ (k:Nat),k≤f→(H k).ae (base+f)=none:=by
 intro k
 induction k with
 | zero=>
  intro _
  cases h:(H 0).ae (base+f) with
  | none=>rfl
  | some B=>have:=d.u6 (base+f) (by rw [h];exact fun q=>by cases q);omega
 | succ k ih=>
  intro hk
  by_cases hm:Mk P ops E k
  ·refine (d.oT hm).2.1 _ ?_ (ih (by omega))
   have:=d.lQ (k:=k) (by omega);omega
  ·rw [(d.step (by omega) hm).2.1 _ (by omega)];exact ih (by omega)
theorem Dr.same (d:Dr P call ops n base E H val) {i:Nat}:∀ (m:Nat),i+m≤ops.size→(∀ j,i≤j→j<i+m→¬ Mk P ops E j)→
  (H (i+m)).next=(H i).next∧∀ b,(∀ j,i≤j→j<i+m→b≠base+j)→(H (i+m)).ae b=(H i).ae b:=by
 intro m
 induction m with
 | zero=>intro _ _;exact ⟨rfl,fun _ _=>rfl⟩
 | succ m ih=>
  intro h hn
  obtain ⟨h1,h2⟩:=ih (by omega) fun j a b=>hn j a (by omega)
  obtain ⟨I,J,_⟩:=d.step (i:=i+m) (by omega) (hn _ (by omega) (by omega))
  exact ⟨I.trans h1,fun b hb=>(J b (hb _ (by omega) (by omega))).trans (h2 b fun j p q=>hb j p (by omega))⟩
theorem Dr.kW (d:Dr P call ops n base E H val) {i k:Nat} (h:i≤k) (hk:k≤ops.size) (hn:∀ j,i≤j→j<k→¬ Mk P ops E j):
  (H k).next=(H i).next∧∀ b,(∀ j,i≤j→j<k→b≠base+j)→(H k).ae b=(H i).ae b:=by
 have:=d.same (i:=i) (k - i) (by omega) (fun j a b=>hn j a (by omega))
 rw [show i+(k - i)=k by omega] at this
 exact this
theorem Dr.quiet (d:Dr P call ops n base E H val) {i:Nat} (hi:i<ops.size) (hm:¬ Mk P ops E i) (hf:¬ Fr P ops E i):(H (i+1)).ae (base+i)=none:=by
 rw [(d.step hi hm).2.2 hf];exact d.dead hi i (Nat.le_refl _)
def Wr (ops:Array Oper) (j t:Nat):Prop:=∃ o,ops.toList[j]?=some o∧o.dst=some t
theorem Wr.lt {j t:Nat} (h:Wr ops j t):j<ops.size:=by
 obtain ⟨o,h1,_⟩:=h
 simpa using (List.getElem?_eq_some_iff.1 h1).1
theorem qJ (e:Env) (d:Option Nat) (v:Value) (t:Nat):(e.put d v).get t=if d=some t then v else e.get t:=by
 cases d with
 | none=>simp [Env.put]
 | some d=>
  simp only [Env.put,Env.eG]
  by_cases h:t=d
  ·subst h;simp
  ·rw [if_neg h,if_neg (fun q=>h (by simpa using q.symm))]
theorem Dr.env (d:Dr P call ops n base E H val) (t:Nat):∀ (k:Nat),k≤ops.size→((∀ j,j<k→¬ Wr ops j t)→(E k).get t=(E 0).get t)∧(∀ j,j<k→Wr ops j t→(∀ m,j<m→m<k→¬ Wr ops m t)→(E k).get t=val j):=by
 intro k
 induction k with
 | zero=>intro _;exact ⟨fun _=>rfl,fun j h=>by omega⟩
 | succ k ih=>
  intro hk
  obtain ⟨o,ho⟩:=uY (show k<ops.size by omega)
  obtain ⟨h1,h2⟩:=ih (by omega)
  rw [d.facts.put k o ho,qJ]
  refine ⟨fun hn=>?_,fun j hj hw hn=>?_⟩
  ·rw [if_neg fun q=>hn k (by omega) ⟨o,ho,q⟩]
   exact h1 fun j hj=>hn j (by omega)
  ·by_cases e:j=k
   ·subst e
    obtain ⟨o',I,J⟩:=hw
    rw [ho] at I;cases I
    rw [if_pos J]
   ·rw [if_neg fun q=>hn k (by omega) (by omega) ⟨o,ho,q⟩]
    exact h2 j (by omega) hw fun m a b=>hn m a (by omega)
structure Inv (P:Program) (ops:Array Oper) (n base:Nat) (E:Nat→Env) (H:Nat→AH) (val:Nat→Value) (ρ0:aQ) (dg:cO) (w0:World) (d0:List Deferred)
  (D:Nat→Prop) (a:Act) (w:World) (ρ:aQ) (G:cO) (c:Nat) (e:Env):Prop where
 closed:∀ i j,D i→j∈Pr ops.toList i→D j
 lP:∀ i,D i→i<ops.size
 fH:c≤ops.size
 l2:∀ j,D j→Mk P ops E j→j<c
 oM:∀ j,j<c→Mk P ops E j→D j
 out:∀ b,(b<base∨base+ops.size≤b)→G b=(H c).ae b
 inl:∀ f,D f→f<c→G (base+f)=(H c).ae (base+f)
 inr:∀ f,D f→c≤f→G (base+f)=(H (f+1)).ae (base+f)
 g6:∀ f,f<ops.size→¬ D f→G (base+f)=none∧ρ (base+f)=none
 nR:∀ f,f<ops.size→¬ D f→f<c→(H c).ae (base+f)=(H (f+1)).ae (base+f)
 env:dX ρ e n a
 w1:∀ t j,D j→Wr ops j t→(∀ k,D k→Wr ops k t→k≤j)→e.get t=val j
 w2:∀ t,(∀ j,D j→¬ Wr ops j t)→e.get t=(E 0).get t
 dL:bd ρ w G (H c).next
 ext:Ext ρ0 dg base w0 ρ G (H c).next w
 defers:a.defers=d0
variable {ρ0:aQ} {dg:cO} {w0:World} {d0:List Deferred} {D:Nat→Prop} {a:Act} {w:World} {ρ:aQ} {G:cO} {c:Nat} {e:Env}
theorem Inv.AU (d:Dr P call ops n base E H val) (v:Inv P ops n base E H val ρ0 dg w0 d0 D a w ρ G c e) {i:Nat} (hi:i<ops.size) (hn:¬ D i) (hp:∀ j∈Pr ops.toList i,D j)
  {t:Nat} (ht:∀ j,Wr ops j t→j≠i→ordered (c9 ops.toList) i j=true):e.get t=(E i).get t:=by
 have pN:∀ j,Wr ops j t→(D j↔j<i):=by
  intro j hj
  by_cases e:j=i
  ·subst e;exact ⟨fun q=>absurd q hn,fun q=>absurd q (by omega)⟩
  ·rcases lY.1 (ht j hj e) with q | q
   ·have:=j8 d.back _ _ q
    exact ⟨fun _=>this,fun _=>hp j q⟩
   ·have:=j8 d.back _ _ q
    exact ⟨fun J=>absurd (v.closed j i J q) hn,fun J=>by omega⟩
 obtain ⟨h1,h2⟩:=d.env t i (by omega)
 by_cases hex:∃ j,j<i∧Wr ops j t
 ·obtain ⟨j,U,I,aa⟩:=u0 (fun j=>Wr ops j t) i hex
  rw [h2 j U I aa]
  exact v.w1 t j ((pN j I).2 U) I fun k hk hw=>by
   have:=(pN k hw).1 hk
   exact Classical.byContradiction fun q=>aa k (by omega) this hw
 ·rw [h1 fun j hj hw=>hex ⟨j,hj,hw⟩]
  exact v.w2 t fun j hj hw=>hex ⟨j,(pN j hw).1 hj,hw⟩
theorem uW (d:Dr P call ops n base E H val) {i j:Nat} {oi oj:Oper} (hi:ops.toList[i]?=some oi) (hj:ops.toList[j]?=some oj) (bY:i≠j) (ho:ordered (c9 ops.toList) i j=false):
  (∀ t,oi.dst=some t→oj.dst≠some t)∧(∀ t,oj.dst=some t→t∉oi.looksAt ops):=by
 have h:=d.apart
 simp only [pE,List.all_eq_true,List.mem_range] at h
 have di:=(List.getElem?_eq_some_iff.1 hi).1
 have qn:=(List.getElem?_eq_some_iff.1 hj).1
 by_cases bm:j<i
 ·have:=h i di j bm
  rw [List.getD_eq_getElem?_getD,List.getD_eq_getElem?_getD,hi,hj,ho] at this
  obtain ⟨_,h2,I⟩:=vb (by simpa using this)
  exact ⟨h2,I⟩
 ·have:=h j qn i (by omega)
  rw [List.getD_eq_getElem?_getD,List.getD_eq_getElem?_getD,hi,hj,qF,ho] at this
  obtain ⟨h1,h2,_⟩:=vb (by simpa using this)
  exact ⟨fun t J U=>h2 t U J,h1⟩
theorem Inv.reads (d:Dr P call ops n base E H val) (v:Inv P ops n base E H val ρ0 dg w0 d0 D a w ρ G c e) {i:Nat} {o:Oper} (ho:ops.toList[i]?=some o) (hn:¬ D i) (hp:∀ j∈Pr ops.toList i,D j):
  ∀ t∈o.looksAt ops,e.get t=(E i).get t:=by
 intro t ht
 refine v.AU d (by simpa using (List.getElem?_eq_some_iff.1 ho).1) hn hp fun j ⟨oj,hj,hd⟩ bY=>?_
 refine Classical.byContradiction fun q=>?_
 have:=(uW d ho hj (Ne.symm bY) (by simpa using q)).2 t hd
 exact this ht
theorem Inv.ev (d:Dr P call ops n base E H val) (v:Inv P ops n base E H val ρ0 dg w0 d0 D a w ρ G c e) {i:Nat} {o:Oper} (ho:ops.toList[i]?=some o) (hn:¬ D i) (hp:∀ j∈Pr ops.toList i,D j):
  (∀ x∈o.op.operands,VR ρ ((E i).ev x) (a.eval x))∧b3 ops (E i) o=b3 ops e o:=by
 have hr:=v.reads d ho hn hp
 have gD:opOk n o=true:=d.ok o (List.mem_of_getElem? ho)
 refine ⟨fun x hx=>?_,?_⟩
 ·have:=v.env.ev (sN gD x hx)
  have he:(E i).ev x=e.ev x:=by
   cases x with
   | tmp t=>
    simp only [Env.ev]
    refine (hr t ?_).symm
    unfold Oper.looksAt
    rw [List.mem_append]
    exact .inl (List.mem_filterMap.2 ⟨.tmp t,by simpa using hx,rfl⟩)
   | const _=>rfl
   | global _=>rfl
   | func _=>rfl
  rw [he];exact this
 ·unfold b3
  cases hg:o.guard with
  | none=>rfl
  | some g=>
   obtain ⟨j,want⟩:=g
   simp only
   have:aYield ops (E i) j=aYield ops e j:=by
    unfold aYield
    cases hd:(ops[j]?).bind (·.dst) with
    | none=>rfl
    | some t=>
     simp only
     rw [hr t (by unfold Oper.looksAt;rw [List.mem_append];right;simp [hg,hd])]
   rw [this]
theorem Inv.qa (d:Dr P call ops n base E H val) (v:Inv P ops n base E H val ρ0 dg w0 d0 D a w ρ G c e) {i:Nat} {o:Oper} (ho:ops.toList[i]?=some o) (hn:¬ D i) (hp:∀ j∈Pr ops.toList i,D j):
  (∀ t j,(j=i∨D j)→Wr ops j t→(∀ k,(k=i∨D k)→Wr ops k t→k≤j)→(e.put o.dst (val i)).get t=val j)∧(∀ t,(∀ j,(j=i∨D j)→¬ Wr ops j t)→(e.put o.dst (val i)).get t=(E 0).get t):=by
 have before:∀ t,o.dst=some t→∀ j,D j→Wr ops j t→j<i:=by
  intro t ht j hj ⟨oj,h1,h2⟩
  have bY:i≠j:=fun e=>hn (e ▸ hj)
  cases gJ:ordered (c9 ops.toList) i j with
  | false=>exact absurd h2 ((uW d ho h1 bY gJ).1 t ht)
  | true=>
   rcases lY.1 gJ with q | q
   ·exact j8 d.back _ _ q
   ·exact absurd (v.closed j i hj q) hn
 refine ⟨fun t j hj hw hk=>?_,fun t ht=>?_⟩
 ·rw [qJ]
  by_cases hd:o.dst=some t
  ·rw [if_pos hd]
   rcases hj with rfl | hj
   ·rfl
   ·have h1:=before t hd j hj hw
    have h2:=hk i (.inl rfl) ⟨o,ho,hd⟩
    omega
  ·rw [if_neg hd]
   rcases hj with rfl | hj
   ·obtain ⟨o',I,J⟩:=hw
    rw [ho] at I;cases I
    exact absurd J hd
   ·exact v.w1 t j hj hw fun k q=>hk k (.inr q)
 ·rw [qJ,if_neg fun q=>ht i (.inl rfl) ⟨o,ho,q⟩]
  exact v.w2 t fun j hj=>ht j (.inr hj)
theorem Inv.shut (v:Inv P ops n base E H val ρ0 dg w0 d0 D a w ρ G c e) {i:Nat} (hp:∀ j∈Pr ops.toList i,D j):∀ k j,(k=i∨D k)→j∈Pr ops.toList k→(j=i∨D j):=by
 rintro k j (rfl | hk) hj
 ·exact .inr (hp j hj)
 ·exact .inr (v.closed k j hk hj)
theorem rV {G G' X X':cO} {nx iO:Nat} {ρ ρ':aQ} {w w':World} (hE:Ext ρ X nx w ρ' X' iO w') {b:Nat} (hb:b<nx) (hr:ρ b=none):ρ' b=none:=by
 cases h:ρ' b with
 | none=>rfl
 | some p=>
  rcases hE.new b p h with q | q
  ·rw [hr] at q;cases q
  ·omega
theorem Inv.still (d:Dr P call ops n base E H val) (v:Inv P ops n base E H val ρ0 dg w0 d0 D a w ρ G c e) {i:Nat} {o:Oper} (ho:ops.toList[i]?=some o) (hn:¬ D i) (hp:∀ j∈Pr ops.toList i,D j)
  (hm:¬ Mk P ops E i) (hf:¬ Fr P ops E i) {ρ':aQ} {w':World} {u:Value} (hle:cF ρ ρ') (hu:VR ρ' (val i) u) (hs:bd ρ' w' G (H c).next) (hE:Ext ρ G base w ρ' G (H c).next w')
  (iL:∀ f,f<ops.size→ρ (base+f)=none→ρ' (base+f)=none):Inv P ops n base E H val ρ0 dg w0 d0 (fun j=>j=i∨D j) (a.put o.dst u) w' ρ' G c (e.put o.dst (val i)):=by
 have hi:i<ops.size:=by simpa using (List.getElem?_eq_some_iff.1 ho).1
 have gD:opOk n o=true:=d.ok o (List.mem_of_getElem? ho)
 obtain ⟨t1,t2⟩:=v.qa d ho hn hp
 have hq:=d.quiet hi hm hf
 obtain ⟨I,aa⟩:=v.g6 i hi hn
 refine ⟨v.shut hp,fun k hk=>?_,v.fH,fun j hj fT=>?_,fun j hj fT=> .inr (v.oM j hj fT),v.out,fun f hf hc=>?_,fun f hf hc=>?_,fun f bm hf=>?_,fun f bm hf hc=>?_,(v.env.mono hle).put (k1 gD) hu,t1,t2,hs,v.ext.trans' hE (Nat.le_refl _),by rw [put_defers];exact v.defers⟩
 ·rcases hk with rfl | hk
  ·exact hi
  ·exact v.lP k hk
 ·rcases hj with rfl | hj
  ·exact absurd fT hm
  ·exact v.l2 j hj fT
 ·rcases hf with rfl | hf
  ·rw [I,v.nR f hi hn hc,hq]
  ·exact v.inl f hf hc
 ·rcases hf with rfl | hf
  ·rw [I,hq]
  ·exact v.inr f hf hc
 ·obtain ⟨J,U⟩:=v.g6 f bm fun q=>hf (.inr q)
  exact ⟨J,iL f bm U⟩
 ·exact v.nR f bm (fun q=>hf (.inr q)) hc
end
end Go.Proofs.Ytcilejikekccmaa.Am
namespace Go.Proofs.Ytcilejikekccmaa.Am
open Go
variable [Marks]
section
variable {P:Program} {call:cw} {ops:Array Oper} {n base:Nat} {E:Nat→Env} {H:Nat→AH} {val:Nat→Value}
variable {ρ0:aQ} {dg:cO} {w0:World} {d0:List Deferred} {D:Nat→Prop} {a:Act} {w:World} {ρ:aQ} {G:cO} {c:Nat} {e:Env}
theorem Inv.AK (d:Dr P call ops n base E H val) (v:Inv P ops n base E H val ρ0 dg w0 d0 D a w ρ G c e) {i:Nat} (fg:c≤i) (hi:i<ops.size) (eW:∀ j,c≤j→j<i→¬ Mk P ops E j):
  ∀ b,ρ b≠none→(b<base∨base+ops.size≤b∨(H i).ae b≠none∨∃ f,b=base+f∧f<i)→G b=(H i).ae b:=by
 intro b hb hc
 have jK:∀ f,b=base+f→f<ops.size→f<i→G b=(H i).ae b:=by
  rintro f rfl hf ke
  have hD:D f:=Classical.byContradiction fun q=>hb (v.g6 f hf q).2
  by_cases h7:f<c
  ·rw [v.inl f hD h7]
   exact ((d.kW fg (by omega) eW).2 _ fun j J I=>by omega).symm
  ·rw [v.inr f hD (by omega)]
   exact ((d.kW (i:=f+1) (by omega) (by omega) fun j J I=>eW j (by omega) I).2 _ fun j J I=>by omega).symm
 have tp:(b<base∨base+ops.size≤b)→G b=(H i).ae b:=fun h=>by
  rw [v.out b h]
  exact ((d.kW fg (by omega) eW).2 _ fun j J I=>by omega).symm
 by_cases h1:b<base
 ·exact tp (.inl h1)
 by_cases h2:base+ops.size≤b
 ·exact tp (.inr h2)
 rcases hc with hc | hc | hc | ⟨f,rfl,hf⟩
 ·exact absurd hc h1
 ·exact absurd hc h2
 ·have eH:b=base+(b - base):=by omega
  refine jK (b - base) eH (by omega) ?_
  refine Classical.byContradiction fun q=>hc ?_
  rw [eH]
  exact d.dead (by omega) i (by omega)
 ·exact jK f rfl (by omega) hf
theorem Inv.part (d:Dr P call ops n base E H val) (v:Inv P ops n base E H val ρ0 dg w0 d0 D a w ρ G c e) {i:Nat} {o:Oper} (ho:ops.toList[i]?=some o) (hn:¬ D i) (hp:∀ j∈Pr ops.toList i,D j)
  (hm:¬ Mk P ops E i) (hf:¬ Fr P ops E i) {X:AH} (dq:X.next=(H c).next) (hX:∀ b,X.ae b=none∨X.ae b=G b) (au:aOp P call (E i).ev o.op X=some (val i,X)) {Q:Exit→Act→World→Prop} {K:Act→World→Prop}
  (hK:∀ a' w',(∃ ρ' G' c' e',Inv P ops n base E H val ρ0 dg w0 d0 (fun j=>j=i∨D j) a' w' ρ' G' c' e')→K a' w'):o.wp P a w K Q:=by
 have hi:i<ops.size:=by simpa using (List.getElem?_eq_some_iff.1 ho).1
 have jL:=d.live c v.fH
 have qv:=d.lQ v.fH
 have jA:∀ b B,X.ae b=some B→G b=some B:=fun b B q=>by
  rcases hX b with I | I
  ·rw [q] at I;cases I
  ·rw [← I];exact q
 have tO:∀ b,G b≠none→b<(H c).next:=v.dL.live
 have J:bd ρ w X.ae X.next:=by
  rw [dq]
  exact v.dL.less jA
 refine qR d.fQ J (v.ev d ho hn hp).1 au fun ρ' u w' hu gT hE=>?_
 have U:∀ b,ρ' b≠none→(ρ b=none∨X.ae b≠none)→G b=X.ae b:=by
  rintro b hb (q | q)
  ·cases hr:ρ' b with
   | none=>exact absurd hr hb
   | some p=>
    rcases hE.new b p hr with h1 | ⟨h1,_⟩
    ·rw [q] at h1;cases h1
    ·have h2:G b=none:=Classical.byContradiction fun q=>by have:=tO b q;omega
     have aa:X.ae b=none:=Classical.byContradiction fun q=>by have:=J.live b q;omega
     rw [h2,aa]
  ·rcases hX b with I | I
   ·exact absurd I q
   ·exact I.symm
 have ab:bd ρ' w' G (H c).next:=by
  rw [dq] at gT hE
  exact bd.merge v.dL gT hE (fun b B _ q=>jA b B q) (fun _ _ q=>q) (fun _ _ _=>rfl) U tO
 have ad:Ext ρ G base w ρ' G (H c).next w':=by
  rw [dq] at hE
  exact hE.merge (by omega) (fun b B _ q=>jA b B q) (fun _ _ _=>rfl) U (fun _ _ _=>rfl)
 exact hK _ _ ⟨ρ',G,c,_,v.still d ho hn hp hm hf hE.le hu ab ad fun f bm hr=>rV (G:=G) (G':=G) hE (by omega) hr⟩
theorem Inv.AI (d:Dr P call ops n base E H val) (v:Inv P ops n base E H val ρ0 dg w0 d0 D a w ρ G c e) {i:Nat} {o:Oper} (ho:ops.toList[i]?=some o) (hn:¬ D i) (hp:∀ j∈Pr ops.toList i,D j)
  (hw:b3 ops (E i) o=true) (hc:cls P o.op= .look) (b0:Nat) (U:lookBlk (E i).ev o.op=some b0) (hρ:ρ b0≠none):∃ k,k≤ops.size∧G b0=(H k).ae b0∧aLook P (E i).ev o.op (H k)=some (val i):=by
 have hi:i<ops.size:=by simpa using (List.getElem?_eq_some_iff.1 ho).1
 obtain ⟨hl,_⟩:=d.facts.look i o ho hw hc
 have og:(H i).ae b0≠none:=wI hc hl b0 U
 have bm:b0<(H c).next:=by
  cases hr:ρ b0 with
  | none=>exact absurd hr hρ
  | some p=>exact v.dL.dN b0 p hr
 have dep:∀ k m,(H k).ae b0=(H m).ae b0→aLook P (E i).ev o.op (H k)=some (val i)→aLook P (E i).ev o.op (H m)=some (val i):=fun k m h1 h2=>by
  rw [← h2]
  exact pF hc fun b hb=>by rw [U] at hb;cases hb;exact h1.symm
 have uS:∀ j,j<ops.size→Mk P ops E j→j≠i→(∀ (_:c≤j) (_:j<i),ordered (c9 ops.toList) i j=false)∧(∀ (_:j<c) (_:i<j),ordered (c9 ops.toList) i j=false):=by
  intro j hj hm bY
  refine ⟨fun h1 h2=>?_,fun h1 h2=>?_⟩
  ·refine Bool.eq_false_iff.2 fun q=>?_
   rcases lY.1 q with q | q
   ·have:=v.l2 j (hp j q) hm;omega
   ·have:=j8 d.back _ _ q;omega
  ·refine Bool.eq_false_iff.2 fun q=>?_
   rcases lY.1 q with q | q
   ·have:=j8 d.back _ _ q;omega
   ·exact hn (v.closed j i (v.oM j h1 hm) q)
 have tZ:∀ m,i+m≤c→(∀ j,i≤j→j<i+m→b0≠base+j)→aLook P (E i).ev o.op (H (i+m))=some (val i):=by
  intro m
  induction m with
  | zero=>intro _ _;exact hl
  | succ m ih=>
   intro hm hf
   have h1:=ih (by omega) fun j I J=>hf j I (by omega)
   by_cases hk:Mk P ops E (i+m)
   ·obtain ⟨oj,kU,mi,jH⟩:=hk
    have bY:i+m≠i:=by
     rintro q
     rw [q,ho] at kU
     cases kU
     rw [hc] at jH;cases jH
    rcases d.facts.hZ (i+m) oj kU mi jH with q | q
    ·exact dep _ _ (q b0 (Nat.lt_of_lt_of_le (d.live i (by omega) b0 og) (d.qN (by omega) (by have:=v.fH;omega)))).symm h1
    ·exact (q i o ho hw hc ((uS (i+m) (by have:=v.fH;omega) ⟨oj,kU,mi,jH⟩ bY).2 (by omega) (by omega))).1 (by omega)
   ·exact dep _ _ ((d.step (by have:=v.fH;omega) hk).2.1 b0 (hf _ (by omega) (by omega))).symm h1
 have back:∀ m,m≤i→c≤i - m→(∀ j,i - m≤j→j<i→b0≠base+j)→aLook P (E i).ev o.op (H (i - m))=some (val i):=by
  intro m
  induction m with
  | zero=>intro _ _ _;exact hl
  | succ m ih=>
   intro hm sT hf
   have h1:=ih (by omega) (by omega) fun j I J=>hf j (by omega) J
   have e1:i - m=i - (m+1)+1:=by omega
   rw [e1] at h1
   by_cases hk:Mk P ops E (i - (m+1))
   ·obtain ⟨oj,kU,mi,jH⟩:=hk
    rcases d.facts.hZ _ oj kU mi jH with q | q
    ·exact dep _ _ (q b0 (Nat.lt_of_lt_of_le bm (d.qN sT (by omega)))) h1
    ·exact (q i o ho hw hc ((uS _ (by omega) ⟨oj,kU,mi,jH⟩ (by omega)).1 sT (by omega))).2 (by omega)
   ·exact dep _ _ ((d.step (by omega) hk).2.1 b0 (hf _ (by omega) (by omega))) h1
 by_cases jK:base≤b0∧b0<base+ops.size
 ·obtain ⟨f,rfl⟩:∃ f,b0=base+f:=⟨b0 - base,by omega⟩
  have hf:f<ops.size:=by omega
  have hD:D f:=Classical.byContradiction fun q=>hρ (v.g6 f hf q).2
  have ke:f<i:=Classical.byContradiction fun q=>og (d.dead hf i (by omega))
  by_cases h7:f<c
  ·refine ⟨c,v.fH,v.inl f hD h7,?_⟩
   by_cases Dh:i≤c
   ·have:=tZ (c - i) (by omega) fun j I J=>by omega
    rwa [show i+(c - i)=c by omega] at this
   ·have:=back (i - c) (by omega) (by omega) fun j I J=>by omega
    rwa [show i - (i - c)=c by omega] at this
  ·refine ⟨f+1,by omega,v.inr f hD (by omega),?_⟩
   have:=back (i - (f+1)) (by omega) (by omega) fun j I J=>by omega
   rwa [show i - (i - (f+1))=f+1 by omega] at this
 ·refine ⟨c,v.fH,v.out b0 (by omega),?_⟩
  have c3:=v.fH
  by_cases Dh:i≤c
  ·have:=tZ (c - i) (by omega) fun j I J=>by omega
   rwa [show i+(c - i)=c by omega] at this
  ·have:=back (i - c) (by omega) (by omega) fun j I J=>by omega
   rwa [show i - (i - c)=c by omega] at this
theorem Inv.row (d:Dr P call ops n base E H val) (v:Inv P ops n base E H val ρ0 dg w0 d0 D a w ρ G c e) {i:Nat} {o:Oper} (ho:ops.toList[i]?=some o) (hn:¬ D i) (hp:∀ j∈Pr ops.toList i,D j)
  (hw:b3 ops (E i) o=true) (hc:cls P o.op= .fresh) {Q:Exit→Act→World→Prop} {K:Act→World→Prop}
  (hK:∀ a' w',(∃ ρ' G' c' e',Inv P ops n base E H val ρ0 dg w0 d0 (fun j=>j=i∨D j) a' w' ρ' G' c' e')→K a' w'):o.wp P a w K Q:=by
 have hi:i<ops.size:=by simpa using (List.getElem?_eq_some_iff.1 ho).1
 have gD:opOk n o=true:=d.ok o (List.mem_of_getElem? ho)
 obtain ⟨f,f1,f2,f3,f4⟩:=d.facts.fresh i o ho hw hc
 have hm:¬ Mk P ops E i:=by
  rintro ⟨o',I,_,U⟩
  rw [ho] at I;cases I
  rw [hc] at U;cases U
 obtain ⟨v',C,el,h1,h2,aa⟩:=u1 (P:=P) (v.ev d ho hn hp).1 f1 w
 obtain ⟨ad,J⟩:=v.g6 i hi hn
 have qv:=d.lQ v.fH
 have c8:base+i<(H c).next:=by omega
 have j5:(H (i+1)).ae (base+i)=some ⟨f.2.1,true,f.2.2⟩:=by rw [f4,if_pos rfl]
 obtain ⟨t1,t2⟩:=v.qa d ho hn hp
 have hle:=cF.bF ρ ⟨w.heap.size,0,f.2.2,C.size⟩ J
 have hS:bd (bF ρ (base+i) ⟨w.heap.size,0,f.2.2,C.size⟩) (w.alloc (.cells C el)) (bC G (base+i) (some ⟨f.2.1,true,f.2.2⟩)) (H c).next:=
  bd.made (fr:=(0,0)) v.dL J c8 (Nat.le_refl _) h2 (by simp) (fun k hk=>heap_alloc_old w _ k hk) (heap_alloc_new w _) (fun i v hv=>by simpa using hv) (Nat.le_refl _) (by have:=h2.1;simp at this;omega) (.inl rfl)
 have hE:Ext ρ G base w (bF ρ (base+i) ⟨w.heap.size,0,f.2.2,C.size⟩) (bC G (base+i) (some ⟨f.2.1,true,f.2.2⟩)) (H c).next (w.alloc (.cells C el)):=
  Ext.made J (by omega) (by omega) rfl (by simp) (fun k hk=>heap_alloc_old w _ k hk) rfl rfl rfl
 have other:∀ k,k≠i→bC G (base+i) (some ⟨f.2.1,true,f.2.2⟩) (base+k)=G (base+k):=fun k hk=>by simp only [bC];rw [if_neg (by omega)]
 have own:bC G (base+i) (some ⟨f.2.1,true,f.2.2⟩) (base+i)=(H (i+1)).ae (base+i):=by rw [j5];simp [bC]
 refine fZ h1 (hK _ _ ⟨_,_,c,e.put o.dst (val i),v.shut hp,fun k hk=>?_,v.fH,fun j hj fT=>?_,fun j hj fT=> .inr (v.oM j hj fT),fun b hb=>?_,fun k hk lv=>?_,fun k hk lv=>?_,fun k bm hk=>?_,fun k bm hk lv=>?_,
  (v.env.mono hle).put (k1 gD) ?_,t1,t2,hS,v.ext.trans' hE (Nat.le_refl _),by rw [put_defers];exact v.defers⟩)
 ·rcases hk with rfl | hk
  ·exact hi
  ·exact v.lP k hk
 ·rcases hj with rfl | hj
  ·exact absurd fT hm
  ·exact v.l2 j hj fT
 ·simp only [bC]
  rw [if_neg (by omega)]
  exact v.out b hb
 ·rcases hk with rfl | hk
  ·rw [own,v.nR k hi hn lv]
  ·rw [other k (fun q=>hn (q ▸ hk))];exact v.inl k hk lv
 ·rcases hk with rfl | hk
  ·exact own
  ·rw [other k (fun q=>hn (q ▸ hk))];exact v.inr k hk lv
 ·have bY:k≠i:=fun q=>hk (.inl q)
  obtain ⟨I,ab⟩:=v.g6 k bm fun q=>hk (.inr q)
  rw [other k bY]
  refine ⟨I,?_⟩
  simp only [bF]
  rw [if_neg (by omega)]
  exact ab
 ·exact v.nR k bm (fun q=>hk (.inr q)) lv
 ·rw [f2]
  exact aa _ _ hle (by simp [bF])
theorem Inv.makes (d:Dr P call ops n base E H val) (v:Inv P ops n base E H val ρ0 dg w0 d0 D a w ρ G c e) {i:Nat} {o:Oper} (ho:ops.toList[i]?=some o) (hn:¬ D i) (hp:∀ j∈Pr ops.toList i,D j)
  (hw:b3 ops (E i) o=true) (hc:cls P o.op= .make) {Q:Exit→Act→World→Prop} {K:Act→World→Prop}
  (hK:∀ a' w',(∃ ρ' G' c' e',Inv P ops n base E H val ρ0 dg w0 d0 (fun j=>j=i∨D j) a' w' ρ' G' c' e')→K a' w'):o.wp P a w K Q:=by
 have hi:i<ops.size:=by simpa using (List.getElem?_eq_some_iff.1 ho).1
 have gD:opOk n o=true:=d.ok o (List.mem_of_getElem? ho)
 obtain ⟨r,f1,f2,f3,f4⟩:=d.facts.make i o ho hw hc
 have vw:Mk P ops E i:=⟨o,ho,hw,hc⟩
 have gJ:∀ j,Mk P ops E j→j≠i→ordered (c9 ops.toList) i j=true:=by
  rintro j ⟨oj,I,_,aa⟩ bY
  have h:=d.made
  simp only [qS,List.all_eq_true,List.mem_filter,List.mem_range,decide_eq_true_eq] at h
  have:=h i ⟨by simpa using hi,by rw [List.getD_eq_getElem?_getD,ho];exact hc⟩ j ⟨(List.getElem?_eq_some_iff.1 I).1,by rw [List.getD_eq_getElem?_getD,I];exact aa⟩
  simpa [Ne.symm bY] using this
 have fg:c≤i:=Classical.byContradiction fun q=>hn (v.oM i (by omega) vw)
 have eW:∀ j,c≤j→j<i→¬ Mk P ops E j:=by
  intro j h1 h2 hm
  rcases lY.1 (gJ j hm (by omega)) with q | q
  ·have:=v.l2 j (hp j q) hm;omega
  ·have:=j8 d.back _ _ q;omega
 have gI:=v.AK d fg hi eW
 obtain ⟨dq,rP⟩:=d.kW fg (by omega) eW
 have qv:=d.lQ v.fH
 have ag:bd ρ w ({H i with low:=(H i).next}:AH).ae ({H i with low:=(H i).next}:AH).next:=by
  show bd ρ w (H i).ae (H i).next
  rw [dq]
  refine v.dL.part (fun b B hb q=>?_) fun b q=>?_
  ·rw [gI b hb (.inr (.inr (.inl (by rw [q];exact fun q=>by cases q)))),q]
  ·rw [← dq];exact d.live i (by omega) b q
 refine qR d.fQ ag (v.ev d ho hn hp).1 f1 fun ρ' u w' hu gT hE=>?_
 have hE:Ext ρ (H i).ae (H c).next w ρ' r.ae r.next w':=by rw [← dq];exact hE
 classical
 let G':cO:=fun b=>if base≤b∧b<base+ops.size∧(i<b - base∨(b - base≠i∧¬ D (b - base))) then G b else r.ae b
 have e0:∀ f,base+f - base=f:=fun f=>by omega
 have ab:∀ f,f<ops.size→(i<f∨(f≠i∧¬ D f))→G' (base+f)=G (base+f):=fun f I J=>by
  show (if _ then _ else _)=_
  rw [if_pos ⟨by omega,by omega,by rw [e0];exact J⟩]
 have U:∀ b,¬ (base≤b∧b<base+ops.size∧(i<b - base∨(b - base≠i∧¬ D (b - base))))→G' b=r.ae b:=fun b q=>by
  show (if _ then _ else _)=_
  rw [if_neg q]
 have rK:∀ f,f<ops.size→¬ D f→ρ' (base+f)=none:=fun f hf hD=>rV (G:=G) (G':=G) hE (by omega) (v.g6 f hf hD).2
 have gF:∀ b,ρ' b≠none→b<(H c).next→ρ b≠none:=by
  intro b hb bm hr
  exact hb (rV (G:=G) (G':=G) hE bm hr)
 have gz:∀ f,f<i→¬ D f→(H i).ae (base+f)=(H (f+1)).ae (base+f):=by
  intro f ke hD
  by_cases h7:f<c
  ·rw [← v.nR f (by omega) hD h7]
   exact rP _ fun j I J=>by omega
  ·exact (d.kW (i:=f+1) (by omega) (by omega) fun j I J=>eW j (by omega) J).2 _ fun j I J=>by omega
 have hX:∀ b B,ρ b≠none→(H i).ae b=some B→G b=some B:=fun b B hb q=>by
  rw [gI b hb (.inr (.inr (.inl (by rw [q];exact fun q=>by cases q)))),q]
 have rM:∀ b,b<(H c).next→(H i).ae b=none→r.ae b=none:=by
  intro b hb q
  rw [← f2]
  exact (d.oT vw).2.1 b (by omega) q
 have ad:∀ b,ρ b≠none→(H i).ae b=none→G' b=G b:=by
  intro b hb q
  by_cases gZ:base≤b∧b<base+ops.size∧(i<b - base∨(b - base≠i∧¬ D (b - base)))
  ·show (if _ then _ else _)=_
   rw [if_pos gZ]
  ·have CP:b<(H c).next:=by
    cases hr:ρ b with
    | none=>exact absurd hr hb
    | some p=>exact v.dL.dN b p hr
   rw [U b gZ,rM b CP q]
   by_cases h1:b<base
   ·rw [gI b hb (.inl h1),q]
   by_cases h2:base+ops.size≤b
   ·rw [gI b hb (.inr (.inl h2)),q]
   have ke:b - base≠i:=fun e=>hb (by
    have:=(v.g6 i hi hn).2
    rwa [show base+i=b by omega] at this)
   rw [gI b hb (.inr (.inr (.inr ⟨b - base,by omega,by omega⟩))),q]
 have af:∀ b,ρ' b≠none→(ρ b=none∨(H i).ae b≠none)→G' b=r.ae b:=by
  intro b hb q
  refine U b fun ⟨I,J,aa⟩=>?_
  have h1:=gF b hb (by omega)
  have aa:i<b - base:=by
   refine aa.resolve_right fun ah=>h1 ?_
   have:=(v.g6 (b - base) (by omega) ah.2).2
   rwa [show base+(b - base)=b by omega] at this
  rcases q with q | q
  ·exact h1 q
  ·have h2:=d.dead (f:=b - base) (by omega) i (by omega)
   rw [show base+(b - base)=b by omega] at h2
   exact q h2
 have hl:∀ b,G' b≠none→b<r.next:=by
  intro b hb
  have hle:(H c).next≤r.next:=hE.nx
  by_cases gZ:base≤b∧b<base+ops.size∧(i<b - base∨(b - base≠i∧¬ D (b - base)))
  ·omega
  ·rw [U b gZ] at hb
   exact gT.live b hb
 have ai:=bd.merge v.dL (by simpa [dq] using gT) hE hX rM ad af hl
 have aj:Ext ρ G base w ρ' G' r.next w':=hE.merge (by omega) hX ad af fun b hb hr=>by
  rw [U b (by omega),hE.un b (by omega) hr,v.out b (.inl hb)]
  exact rP b fun j I J=>by omega
 obtain ⟨t1,t2⟩:=v.qa d ho hn hp
 refine hK _ _ ⟨ρ',G',i+1,e.put o.dst (val i),v.shut hp,fun k hk=>?_,by omega,fun j hj fT=>?_,fun j hj fT=>?_,fun b hb=>?_,fun f hf h7=>?_,fun f hf h7=>?_,fun f bm hf=>?_,fun f bm hf h7=>?_,
  (v.env.mono hE.le).put (k1 gD) hu,t1,t2,by rw [f3];exact ai,by rw [f3];exact v.ext.trans' aj (Nat.le_refl _),by rw [put_defers];exact v.defers⟩
 ·rcases hk with rfl | hk
  ·exact hi
  ·exact v.lP k hk
 ·rcases hj with rfl | hj
  ·omega
  ·have:=v.l2 j hj fT;omega
 ·by_cases e1:j=i
  ·exact .inl e1
  ·rcases lY.1 (gJ j fT e1) with q | q
   ·exact .inr (hp j q)
   ·have:=j8 d.back _ _ q;omega
 ·rw [U b (by omega),f2]
 ·rw [U _ (fun ⟨_,_,q⟩=>by
   rw [e0] at q
   rcases q with q | ⟨I,J⟩
   ·omega
   ·exact hf.elim I J),f2]
 ·rcases hf with rfl | hf
  ·omega
  ·rw [ab f (v.lP f hf) (.inl (by omega))]
   exact v.inr f hf (by omega)
 ·have hD:¬ D f:=fun q=>hf (.inr q)
  have bY:f≠i:=fun q=>hf (.inl q)
  refine ⟨?_,rK f bm hD⟩
  rw [ab f bm (.inr ⟨bY,hD⟩)];exact (v.g6 f bm hD).1
 ·have hD:¬ D f:=fun q=>hf (.inr q)
  have bY:f≠i:=fun q=>hf (.inl q)
  rw [f2,hE.un _ (by omega) (v.g6 f bm hD).2]
  exact gz f (by omega) hD
theorem Bm {P:Program} {ρ:aQ} {ev dy:Operand→Value} {op:Op} (hc:cls P op= .look) {h:AH} {v:Value} (hl:aLook P ev op h=some v) (b5:∀ x∈op.operands,VR ρ (ev x) (dy x)) {b:Nat} (hb:lookBlk ev op=some b):ρ b≠none:=by
 cases op<;>simp only [cls] at hc<;>try (cases hc;done)
 case load t x=>
  have hx:=b5 x (by simp [Op.operands])
  simp only [lookBlk] at hb
  split at hb
  ·rename_i a ha
   simp at hb;subst hb
   rw [ha] at hx
   generalize dy x=y at hx
   cases hx with
   | ptr h=>obtain ⟨_,p,h2,_⟩:=h;rw [h2];exact fun q=>by cases q
  ·cases hb
 case convert s d x=>
  have hx:=b5 x (by simp [Op.operands])
  simp only [lookBlk] at hb
  split at hb
  ·rename_i a n c ha
   split at hb
   ·cases hb
   ·rename_i h0
    simp at hb;subst hb
    rw [ha] at hx
    generalize dy x=y at hx
    cases hx with
    | sl h1 h2 j I=>obtain ⟨_,p,h2,_⟩:=j (by omega);rw [h2];exact fun q=>by cases q
  ·cases hb
 case call c=>split at hc<;>cases hc
theorem Inv.step (d:Dr P call ops n base E H val) {i:Nat} {o:Oper} (v:Inv P ops n base E H val ρ0 dg w0 d0 D a w ρ G c e) (ho:ops[i]?=some o) (hn:¬ D i) (hp:∀ j∈Pr ops.toList i,D j) {Q:Exit→Act→World→Prop} {K:Act→World→Prop}
  (hK:∀ a' w',(∃ ρ' G' c' e',Inv P ops n base E H val ρ0 dg w0 d0 (fun j=>j=i∨D j) a' w' ρ' G' c' e')→K a' w'):wpOp P ops Q i K a w:=by
 have I:ops.toList[i]?=some o:=by rw [Array.getElem?_toList];exact ho
 have hi:i<ops.size:=by simpa using (List.getElem?_eq_some_iff.1 I).1
 have gD:opOk n o=true:=d.ok o (List.mem_of_getElem? I)
 have same:∀ {cl:ft},cls P o.op=cl→cl≠ .make→¬ Mk P ops E i:=by
  rintro cl h1 h2 ⟨o',J,_,U⟩
  rw [I] at J;cases J
  rw [h1] at U;exact h2 U
 have ad:∀ {cl:ft},cls P o.op=cl→cl≠ .fresh→¬ Fr P ops E i:=by
  rintro cl h1 h2 ⟨o',J,_,U⟩
  rw [I] at J;cases J
  rw [h1] at U;exact h2 U
 unfold wpOp
 rw [ho]
 simp only
 rw [uz v.env d.ok o,← (v.ev d I hn hp).2]
 cases hw:b3 ops (E i) o with
 | false=>
  rw [if_neg (by simp)]
  have hm:¬ Mk P ops E i:=by
   rintro ⟨o',J,aa,_⟩
   rw [I] at J;cases J
   rw [hw] at aa;cases aa
  have hf:¬ Fr P ops E i:=by
   rintro ⟨o',J,aa,_⟩
   rw [I] at J;cases J
   rw [hw] at aa;cases aa
  have hv:=(d.facts.off i o I hw).1
  exact hK _ _ ⟨ρ,G,c,_,v.still d I hn hp hm hf (cF.refl _) (by rw [hv];exact VR.undef ρ) v.dL
   ⟨cF.refl _,rfl,rfl,rfl,Nat.le_refl _,by have:=d.lQ v.fH;omega,fun _ _ _=>rfl,fun _ _ h=>h,fun _ _ h=> .inl h,fun _ _ _=>rfl⟩ fun _ _ h=>h⟩
 | true=>
  rw [if_pos rfl]
  have gZ:∀ c:ft,c= .pure∨c= .look∨c= .fresh∨c= .make:=by intro c;cases c<;>simp
  rcases gZ (cls P o.op) with hc | hc | hc | hc
  ·refine .inl (v.part d I hn hp (same hc (by simp)) (ad hc (by simp)) (X:=⟨.nil,(H c).next,(H c).next⟩) rfl (fun b=> .inl (by simp [AH.ae,Tr.get])) ((d.facts.pure i o I hw hc).1 _) hK)
  ·cases hb:lookBlk (E i).ev o.op with
   | none=>
    have hl:=(d.facts.look i o I hw hc).1
    rw [pF hc (h':=⟨.nil,(H c).next,(H c).next⟩) fun b ab=>by rw [hb] at ab;cases ab] at hl
    exact .inl (v.part d I hn hp (same hc (by simp)) (ad hc (by simp)) (X:=⟨.nil,(H c).next,(H c).next⟩) rfl (fun b=> .inl (by simp [AH.ae,Tr.get])) (s4 hc hl) hK)
   | some b0=>
    have hρ:ρ b0≠none:=by
     have b5:=(v.ev d I hn hp).1
     have hl:=(d.facts.look i o I hw hc).1
     exact Bm hc hl b5 hb
    obtain ⟨k,hk,h1,h2⟩:=v.AI d I hn hp hw hc b0 hb hρ
    have hX:∀ b,(⟨(Tr.nil).set b0 (G b0),(H c).next,(H c).next⟩:AH).ae b=if b=b0 then G b0 else none:=by
     intro b
     simp only [AH.ae,Tr.eG]
     simp [Tr.get]
    have hl:aLook P (E i).ev o.op ⟨(Tr.nil).set b0 (G b0),(H c).next,(H c).next⟩=some (val i):=by
     rw [← h2]
     refine pF hc fun b ab=>?_
     rw [hb] at ab;cases ab
     rw [hX,if_pos rfl,h1]
    refine .inl (v.part d I hn hp (same hc (by simp)) (ad hc (by simp)) (X:=⟨(Tr.nil).set b0 (G b0),(H c).next,(H c).next⟩) rfl (fun b=>?_) (s4 hc hl) hK)
    rw [hX]
    by_cases e1:b=b0
    ·subst e1;rw [if_pos rfl];exact .inr rfl
    ·rw [if_neg e1];exact .inl rfl
  ·exact .inl (v.row d I hn hp hw hc hK)
  ·exact .inl (v.makes d I hn hp hw hc hK)
theorem wo (hm:P.follows .mixedOrders=true) {call:cw} (yG:Good P call) (a7:fG call):ud P call:=by
 intro n id ops e e' h h' ρ a w bR hd hr he hs hl
 unfold e3 at hr
 cases hq:aDraw P call ops h.next 0 ops.toList ⟨e,{h with next:=h.next+ops.size},[],[]⟩ with
 | none=>rw [hq] at hr;cases hr
 | some s=>
  rw [hq] at hr
  simp at hr
  obtain ⟨rfl,rfl⟩:=hr
  obtain ⟨E,H,val,hf,e0,h0,e1,h1⟩:=draw_facts a7 hq rfl rfl
  simp only [qZ,Bool.and_eq_true] at hd
  have d:Dr P call ops n h.next E H val:=⟨yG,bR,hf,hd.1.1,hd.1.2,hd.2,by rw [h0],fun b hb=>hl b (by rw [h0] at hb;exact hb)⟩
  refine wp_region_any hm ?_
  have kz:∀ f,f<ops.size→ρ (h.next+f)=none:=by
   intro f _
   cases hr:ρ (h.next+f) with
   | none=>rfl
   | some p=>have:=hs.dN _ p hr;omega
  refine Bf hd.2 (fun D a' w'=>∃ ρ' G' c' e',Inv P ops n h.next E H val ρ h.ae w a.defers D a' w' ρ' G' c' e') ?_ ?_ ops.size _ a _ (by simp) ?_ ?_
  ·rintro D i o a' w' ⟨ρ',G',c',e',v⟩ ho hn e8 K hK
   refine v.step d ho hn (fun j hj=>?_) hK
   obtain ⟨ed,Bj,hb,hc⟩:=tv (by rw [Array.getElem?_toList];exact ho) hj
   have:=e8 ed Bj hb
   rcases hc with rfl | ⟨_,hc⟩
   ·exact this
   ·exact v.closed _ _ this hc
  ·rintro D a' w' ⟨ρ',G',c',e',v⟩ e8
   have eW:∀ j,c'≤j→j<ops.size→¬ Mk P ops E j:=fun j J I af=>by have:=v.l2 j (e8 j I) af;omega
   obtain ⟨ag,U⟩:=d.kW v.fH (Nat.le_refl _) eW
   have hG:G'=(H ops.size).ae:=by
    funext b
    by_cases jK:h.next≤b∧b<h.next+ops.size
    ·obtain ⟨f,rfl⟩:∃ f,b=h.next+f:=⟨b - h.next,by omega⟩
     have hf:f<ops.size:=by omega
     by_cases h7:f<c'
     ·rw [v.inl f (e8 f hf) h7]
      exact (U _ fun j J I=>by omega).symm
     ·rw [v.inr f (e8 f hf) (by omega)]
      exact ((d.kW (i:=f+1) (by omega) (Nat.le_refl _) fun j J I=>eW j (by omega) I).2 _ fun j J I=>by omega).symm
    ·rw [v.out b (by omega)]
     exact (U _ fun j J I=>by omega).symm
   have hE:∀ t,e'.get t=(E ops.size).get t:=by
    intro t
    obtain ⟨ah,ai⟩:=d.env t ops.size (Nat.le_refl _)
    by_cases hex:∃ j,j<ops.size∧Wr ops j t
    ·obtain ⟨j,aa,ab,ad⟩:=u0 (fun j=>Wr ops j t) ops.size hex
     rw [ai j aa ab ad]
     exact v.w1 t j (e8 j aa) ab fun k hk hw=>Classical.byContradiction fun q=>ad k (by omega) (v.lP k hk) hw
    ·rw [ah fun j hj hw=>hex ⟨j,hj,hw⟩]
     exact v.w2 t fun j hj hw=>hex ⟨j,v.lP j hj,hw⟩
   have hS:=v.dL
   have hX:=v.ext
   rw [hG,← ag] at hS hX
   rw [← e1,← h1]
   exact ⟨rfl,ρ',⟨v.env.size,fun t=>by rw [← hE t];exact v.env.get t⟩,v.defers,hS,hX⟩
  ·unfold leftOf
   exact Nat.le_trans (List.length_filter_le _ _) (by simp)
  ·have hD:Dn (Array.replicate ops.size false)=fun _=>False:=by
    funext j
    unfold Dn
    rw [Array.getD_eq_getD_getElem?]
    by_cases hj:j<ops.size
    ·simp [hj]
    ·rw [Array.getElem?_eq_none (by simpa using Nat.le_of_not_lt hj)];simp
   rw [hD]
   have fu:(H 0).ae=h.ae:=by rw [h0];rfl
   have dq:(H 0).next=h.next+ops.size:=by rw [h0]
   refine ⟨ρ,h.ae,0,e,fun _ _ q=>q.elim,fun _ q=>q.elim,Nat.zero_le _,fun _ q=>q.elim,fun j q=>by omega,fun b _=>by rw [fu],fun _ q=>q.elim,fun _ q=>q.elim,fun f hf _=>⟨?_,kz f hf⟩,fun _ _ _ q=>by omega,⟨he.size,he.get⟩,fun _ _ q=>q.elim,fun t _=>by rw [e0],?_,?_,rfl⟩
   ·exact Classical.byContradiction fun q=>by have:=hl _ q;omega
   ·rw [dq]
    exact ⟨fun b p q=>Nat.lt_of_lt_of_le (hs.dN b p q) (by omega),hs.lt,(hs.world (w':={w with drawn:=w.drawn+1}) rfl).cell,(hs.world (w':={w with drawn:=w.drawn+1}) rfl).own,hs.apart,fun b q=>Nat.lt_of_lt_of_le (hs.live b q) (by omega)⟩
   ·rw [dq]
    exact ⟨cF.refl _,rfl,rfl,rfl,Nat.le_refl _,by omega,fun _ _ _=>rfl,fun _ _ h=>h,fun _ _ h=> .inl h,fun _ _ _=>rfl⟩
end
end Go.Proofs.Ytcilejikekccmaa.Am
namespace Go.Proofs.Ytcilejikekccmaa.Am
open Go
variable [Marks]
theorem AR.narrow {ρ ρ':aQ} (hr:cF ρ ρ') {a a0 a':Addr} (h:AR ρ a a0) (h':AR ρ' a a'):AR ρ a a':=by
 obtain ⟨h1,p,h2,J⟩:=h
 obtain ⟨_,p',j,I⟩:=h'
 have:=hr _ _ h2
 rw [j] at this
 have:=Option.some.inj this
 subst this
 exact ⟨h1,p',h2,I⟩
theorem VR.narrow {ρ ρ':aQ} (hr:cF ρ ρ') {v v0:Value} (h:VR ρ v v0):∀ v',VR ρ' v v'→VR ρ v v':=by
 induction h with
 | bool b=>intro v' h';cases h';exact .bool b
 | int k n=>intro v' h';cases h';exact .int k n
 | float k n=>intro v' h';cases h';exact .float k n
 | string s=>intro v' h';cases h';exact .string s
 | nilFunc=>intro v' h';cases h';exact .nilFunc
 | nilIface=>intro v' h';cases h';exact .nilIface
 | mr=>intro v' h';cases h';exact .mr
 | ptr h=>intro v' h';cases h' with | ptr h'=>exact .ptr (h.narrow hr h')
 | ga h1 h2=>intro v' h';cases h' with | ga j I=>exact .ga j I
 | sl h1 h2 aa ad=>
  intro v' h'
  cases h' with
  | sl j I J U=>
   refine .sl j I (fun q=>(aa q).narrow hr (J q)) fun q=>?_
   obtain ⟨ae,p,ab,al⟩:=ad q
   obtain ⟨af,p',ag,ah⟩:=U q
   have:=hr _ _ ab
   rw [ag] at this
   have:=Option.some.inj this
   subst this
   exact ⟨ae.narrow hr af,p',ab,ah⟩
 | func f h1 _ aa _ ai aj=>
  intro v' h'
  cases h' with
  | func _ j I J U=>
   refine .func f j (fun i v u a b=>?_) J fun i v u a b=>?_
   ·have hi:i<_:=(Array.getElem?_eq_some_iff.1 a).1
    exact ai i v _ a (Array.getElem?_eq_getElem (by omega)) u (I i v u a b)
   ·have hi:i<_:=(Array.getElem?_eq_some_iff.1 a).1
    exact aj i v _ a (Array.getElem?_eq_getElem (by omega)) u (U i v u a b)
 | iface t _ ih=>intro v' h';cases h' with | iface _ h'=>exact .iface t (ih _ h')
 | agg h1 _ ih=>
  intro v' h'
  cases h' with
  | agg j I=>
   refine .agg j fun i v u a b=>?_
   have hi:i<_:=(Array.getElem?_eq_some_iff.1 a).1
   exact ih i v _ a (Array.getElem?_eq_getElem (by omega)) u (I i v u a b)
 | tuple h1 _ ih=>
  intro v' h'
  cases h' with
  | tuple j I=>
   refine .tuple j fun i v u a b=>?_
   have hi:i<_:=(Array.getElem?_eq_some_iff.1 a).1
   exact ih i v _ a (Array.getElem?_eq_getElem (by omega)) u (I i v u a b)
section
variable {P:Program}
theorem z6 {α:Type} {ρ:aQ} {f:α→Option Value} {g:α→Sem Value} {w:World} (qw:∀ a b,f a=some b→∃ b',VR ρ b b'∧(g a).run P w= .ok b' w):∀ (l:List α) (r:List Value),l.mapM f=some r→∃ r',LR ρ r r'∧(l.mapM g).run P w= .ok r' w:=by
 intro l
 induction l with
 | nil=>intro r h;simp at h;subst h;exact ⟨[],LR.nil ρ,by simp⟩
 | cons a l ih=>
  intro r h
  simp only [List.mapM_cons] at h
  cases ha:f a with
  | none=>rw [ha] at h;simp at h
  | some b=>
   rw [ha] at h
   cases hl:l.mapM f with
   | none=>rw [hl] at h;simp at h
   | some bs=>
    rw [hl] at h
    simp at h
    subst h
    obtain ⟨b',j,I⟩:=qw a b ha
    obtain ⟨jq,J,U⟩:=ih bs hl
    exact ⟨b'::jq,LR.cons j J,by simp [List.mapM_cons,I,U]⟩
theorem results_run {ρ:aQ} {n:Nat} {fn:Func} {e:Env} {h:AH} {a:Act} {w:World} {v:Value} (hv:aResults P fn.results.toList e h=some v) (he:dX ρ e n a) (hs:bd ρ w h.ae h.next):
  ∃ v',VR ρ v v'∧(results fn a.tmps).run P w= .ok v' w:=by
 unfold aResults at hv
 cases hm:fn.results.toList.mapM (aResult P e h) with
 | none=>rw [hm] at hv;cases hv
 | some vs=>
  rw [hm] at hv
  have uD:∀ t,a.tmps.getD t undef=(a.tmps[t]?).getD undef:=fun t=>by rw [Array.getD_eq_getD_getElem?]
  obtain ⟨cN,j,I⟩:=z6 (P:=P) (ρ:=ρ) (w:=w) (f:=aResult P e h) (g:=fun r=>match r with
   | .tmp t=>pure (a.tmps.getD t undef)
   | .cell x t=>do loadVar t (← asAddr (a.tmps.getD x undef))) (fun r b hb=>by
    cases r with
    | tmp t=>simp only [aResult,Option.some.injEq] at hb;subst hb;exact ⟨_,he.get t,by simp [uD]⟩
    | cell x t=>
     simp only [aResult] at hb
     obtain ⟨b',h1,h2⟩:=r9 (P:=P) hs hb (he.get x)
     refine ⟨b',h1,?_⟩
     have hx:=he.get x
     unfold aLoad at hb
     split at hb
     ·rename_i ad hq
      rw [hq] at hx
      show Sem.run P (asAddr (a.tmps.getD x undef) >>= fun q=>loadVar t q) w=_
      rw [uD]
      generalize (a.tmps[x]?).getD undef=y at hx h2
      cases hx with
      | ptr hh=>simpa [Instr.loadAt,Instr.sureAddr,asAddr] using h2
     ·cases hb) _ _ hm
  have g2:∀ (k:Array Value→Sem Value),((fn.results.mapM fun
    | .tmp t=>pure (a.tmps.getD t undef)
    | .cell x t=>do loadVar t (← asAddr (a.tmps.getD x undef))) >>= k).run P w=(k cN.toArray).run P w:=by
   intro k
   rw [Array.mapM_eq_mapM_toList]
   simp only [Sem.run_bind,Sem.run_map]
   rw [I]
   simp [Result.andThen]
  have hr:(results fn a.tmps).run P w= .ok (if h:cN.toArray.size=1 then cN.toArray[0] else .tuple cN.toArray) w:=by
   have:=g2 fun vs=>pure (if h:vs.size=1 then vs[0] else .tuple vs)
   exact this
  refine ⟨_,?_,hr⟩
  simp only [Option.map_some,Option.some.injEq] at hv
  subst hv
  match vs,cN,j with
  | [],[],q=>exact .tuple rfl fun i v v' a=>by simp at a
  | [x],[x'],q=>simpa using q.head
  | x::y::l,x'::y'::l',q=>
   have:¬ (x'::y'::l').toArray.size=1:=by simp
   rw [dif_neg this]
   exact .tuple (by simpa using q.1) fun i v v' a b=>q.2 i v v' (by simpa using a) (by simpa using b)
  | [],_::_,q=>exact absurd q.1 (by simp)
  | [_],[],q=>exact absurd q.1 (by simp)
  | [_],_::_::_,q=>exact absurd q.1 (by simp)
  | _::_::_,[],q=>exact absurd q.1 (by simp)
  | _::_::_,[_],q=>exact absurd q.1 (by simp)
theorem yX (hP:nJ P) {ov:cw} (nb:Good P ov) (DR:fG ov):∀ (k:Nat),Good P (aCall P ov k):=by
 intro k
 induction k with
 | zero=>intro f args h v h' hh;exact nb f args h v h' hh
 | succ k ih=>
  intro f args h v h' hh
  simp only [aCall] at hh
  cases ho:ov f args h with
  | some r=>rw [ho] at hh;simp at hh;subst hh;exact nb f args h v h' ho
  | none=>
  rw [ho] at hh
  simp only at hh
  cases hf:P.funcs[f]? with
  | none=>rw [hf] at hh;cases hh
  | some fn=>
   rw [hf] at hh
   simp only [Option.bind_some] at hh
   cases hb:fn.body with
   | none=>rw [hb] at hh;cases hh
   | some c=>
    rw [hb] at hh
    simp only [Option.bind_some] at hh
    have qW:=hP.func hf
    simp only [funcOk,hb,Bool.and_eq_true,Bool.not_eq_true'] at qW
    refine ⟨⟨fn,c,rfl,hb,qW.1⟩,fun ρ w e4 dQ hs=>?_⟩
    split at hh
    ·rename_i hlen
     have he:dX ρ (Env.ofArgs 0 args .nil) fn.ntmps {tmps:=e4.toArray++Array.replicate (fn.ntmps - e4.toArray.size) undef,defers:=[]}:=by
      have hl:=dQ.1
      refine ⟨by simp;omega,fun t=>?_⟩
      rw [Env.tG,Env.get_nil]
      by_cases ht:t<args.length
      ·rw [if_pos ⟨Nat.zero_le _,by omega⟩,Nat.sub_zero]
       obtain ⟨u,hu⟩:∃ u,args[t]?=some u:=⟨_,List.getElem?_eq_getElem ht⟩
       obtain ⟨u',I,J⟩:=dQ.get hu
       rw [List.getD_eq_getElem?_getD,hu]
       have bm:t<e4.toArray.size:=by simpa [← hl] using ht
       rw [Array.getElem?_append_left bm]
       simp only [List.getElem?_toArray,I,Option.getD_some]
       exact J
      ·rw [if_neg (by omega)]
       rw [Array.getElem?_append_right (by simp;omega)]
       simp only [Array.getElem?_replicate]
       split<;>exact VR.undef ρ
     have a7:=sa (P:=P) DR k
     have main:∀ x e1 h1,aCode P (aCall P ov k) k c (Env.ofArgs 0 args .nil) {h with low:=h.next}=some (x,e1,h1)→(x= .normal∨x= .ret)→aResults P fn.results.toList e1 h1=some v→eS (gj P fn) h v h1=(v,h')→
       Calls P f e4.toArray w fun e w'=>∃ ρ' v',e= .returned v'∧VR ρ' v v'∧bd ρ' w' h'.ae h'.next∧Ext ρ h.ae h.next w ρ' h'.ae h'.next w':=by
      intro x e1 h1 hc hx hv jL
      refine calls_of_wp hf hb (wp_mono (Cy ih a7 (wo hP.1 ih a7) k c _ _ x e1 h1 hc qW.2 ρ _ w he (show bd ρ w h.ae h.next from hs) hs.live) ?_)
      rintro ex a' w' ⟨rfl,ρ1,ab,aa,U,j⟩
      obtain ⟨v',I,J⟩:=results_run (P:=P) hv ab U
      have j:Ext ρ h.ae h.next w ρ1 h1.ae h1.next w':=j
      have hS:=m5 a7 _ _ _ _ _ _ _ hc
      have fin:∃ ρ' tq,Ending.returned v'= .returned tq∧VR ρ' v tq∧bd ρ' w' h'.ae h'.next∧Ext ρ h.ae h.next w ρ' h'.ae h'.next w':=by
       unfold eS at jL
       split at jL
       ·rename_i jG
        obtain ⟨_,gz,c3⟩:=jG
        simp at jL
        subst jL
        have fu:∀ b B,h.ae b=some B→h1.ae b=some B:=fun b B hB=>by
         have fO:b<h.next:=hs.live b (by rw [hB];exact fun q=>by cases q)
         rw [hS.ae b fO (Nat.lt_of_lt_of_le fO gz)];exact hB
        refine ⟨ρ,v',rfl,VR.narrow j.le (lI ρ c3) v' I,⟨hs.dN,fun b p q=>Nat.lt_of_lt_of_le (hs.lt b p q) j.size,fun b B p hB hp i u hu=>?_,fun b B p hB hp ho=>U.own b B p (fu b B hB) (j.le b p hp) ho,hs.apart,hs.live⟩,
         ⟨cF.refl _,j.os,j.tape,j.output,j.size,Nat.le_refl _,j.aT,fun _ _ q=>q,fun _ _ q=> .inl q,fun _ _ _=>rfl⟩⟩
        obtain ⟨u',ad,af⟩:=U.cell b B p (fu b B hB) (j.le b p hp) i u hu
        obtain ⟨ah,_,ag⟩:=hs.cell b B p hB hp i u hu
        exact ⟨u',ad,VR.narrow j.le ag u' af⟩
       ·simp at jL
        subst jL
        exact ⟨ρ1,v',rfl,I,U,j⟩
      rcases hx with rfl | rfl
      ·exact ⟨aa,v',J,fin⟩
      ·exact ⟨aa,v',J,fin⟩
     have leave:∀ h1 v1,eS (gj P fn) h v1 h1=(v,h')→v1=v:=by
      intro h1 v1 hq
      unfold eS at hq
      split at hq<;>simp at hq<;>exact hq.1
     split at hh
     ·rename_i e1 h1 hc
      cases hv:aResults P fn.results.toList e1 h1 with
      | none=>rw [hv] at hh;cases hh
      | some v1=>
       rw [hv] at hh
       simp only [Option.map_some,Option.some.injEq] at hh
       obtain rfl:=leave h1 v1 hh
       exact main _ e1 h1 hc (.inl rfl) hv hh
     ·rename_i e1 h1 hc
      cases hv:aResults P fn.results.toList e1 h1 with
      | none=>rw [hv] at hh;cases hh
      | some v1=>
       rw [hv] at hh
       simp only [Option.map_some,Option.some.injEq] at hh
       obtain rfl:=leave h1 v1 hh
       exact main _ e1 h1 hc (.inr rfl) hv hh
     ·cases hh
    ·cases hh
end
end Go.Proofs.Ytcilejikekccmaa.Am
namespace Go.Proofs.Ytcilejikekccmaa.Am
open Go
variable [Marks]
def hJ (W w':World):Prop:=W.keptBut w' (fun _=>False)∧(∀ a:Addr,a.block<W.heap.size→w'.frozen? a=W.frozen? a)∧W.heap.size≤w'.heap.size
omit [Marks] in
theorem hJ.frame {W w':World} (h:hJ W w') (may:MemPlace→Prop):W.keptBut w' may:=World.keptBut_mono (fun _ f=>f.elim) h.1
omit [Marks] in
theorem w6 {W w':World} (ho:w'.os=W.os) (hu:w'.output=W.output) (hs:W.heap.size≤w'.heap.size) (hk:∀ k,k<W.heap.size→w'.heap[k]?=W.heap[k]?):hJ W w':=by
 refine ⟨⟨ho,hu,fun i hi=>?_⟩,fun a ha=>?_,hs⟩
 ·have h1:=(World.keptBut_refl W (fun _=>False)).2.2 i hi
  rw [hk i hi]
  exact h1
 ·unfold World.frozen?
  rw [hk _ ha]
theorem Ext.C1 {ρ ρ':aQ} {ae gA:cO} {n n':Nat} {W w':World} (h:Ext ρ ae n W ρ' gA n' w') (eW:∀ b B,ae b=some B→B.own=false):hJ W w':=
 w6 h.os h.output h.size fun k hk=>h.aT k hk fun ⟨b,B,p,I,j,J,U⟩=>by rw [eW b B I] at j;cases j
section
open Go.ChangeShapes Go.WideShapes
variable {H:Type} {enc:TypeId×Value→H} {P:Program}
omit [Marks] in
theorem DL {f:Func} {s:ChangeSpec} {apart fresh handsOn again:Bool} {W W':World} {args:Array Value} {v:Value} {ds gs:List (DataW H)} {before pa pv:List MemPlace}
  (hW:DataW.Whole enc P f.params.toList s.vars apart W args.toList ds gs before)
  (jK:∀ (b:Nat) (sp:Nat→Bool) (hd:Bool),DataW.TrodAll enc P W' b sp hd f.resultTypes.toList (v.resultList f.resultTypes.size) (s.fn H (ds++gs)).results [])
  (dQ:∀ sp:Nat→Bool,(∀ p∈before,sp p.block=true)→DataW.TrodAll enc P W' 0 sp true f.params.toList args.toList (s.fn H (ds++gs)).args pa)
  (vr:∀ sp:Nat→Bool,(∀ p∈before,sp p.block=true)→DataW.TrodVars enc P W' sp s.vars (s.fn H (ds++gs)).vars pv)
  (jo:before=pa++pv) (hg:hJ W W')
  (bR:∀ (j:Nat) (t:TypeId) (r:Value),f.resultTypes[j]?=some t→(v.resultList f.resultTypes.size)[j]?=some r→Value.okWide P W' .any 0 t r):
  s.post enc P f apart fresh handsOn again W args v W':=by
 have bm:=fun p hp=>hW.lt p hp
 have hold:∀ p∈before,(fun b=>decide (b<W.heap.size)) p.block=true:=fun p hp=>by simpa using hW.lt p hp
 refine ⟨ds,gs,before,[],pa,pv,hW,jK _ _ _,dQ _ hold,vr _ hold,World.keptBut_mono (fun p hp=>⟨hp,?_⟩) (hg.frame (·∈before)),fun _=>?_⟩
 ·rw [jo,List.mem_append] at hp
  exact Or.inr hp
 ·obtain ⟨_,_,_,_,_,hz,hn⟩:=hW
  refine ⟨bR,_,_,([]++pa)++pv,⟨[]++pa,pv,trodAll_append (dQ _ (fun _ _=>rfl)) (jK _ _ _),vr _ (fun _ _=>rfl),rfl,?_,?_⟩,?_⟩
  ·intro b off hp
   have eE:MemPlace.cell b off∈before:=by rw [jo];simpa using hp
   rw [hg.2.1 _ (bm _ eE)]
   exact hz b off eE
  ·intro ha
   have:=hn ha
   rw [jo] at this
   simpa using this
  ·intro p hp _
   rw [jo]
   simpa using hp
end
section
variable {P:Program}
theorem bd.grow {ρ:aQ} {w w':World} {ae:cO} {next:Nat} (h:bd ρ w ae next) (hs:w.heap.size≤w'.heap.size) (hk:∀ k,k<w.heap.size→w'.heap[k]?=w.heap[k]?):bd ρ w' ae next:=
 ⟨h.dN,fun b p q=>Nat.lt_of_lt_of_le (h.lt b p q) hs,fun b B p q r i v hv=>by
  obtain ⟨v',h1,h2⟩:=h.cell b B p q r i v hv
  exact ⟨v',by rw [← h1];exact World.cell?_of_block (hk _ (h.lt b p r)),h2⟩,
  fun b B p q r s=>by rw [hk _ (h.lt b p r)];exact h.own b B p q r s,h.apart,h.live⟩
def vN (P:Program) (f:FuncId) (args:List Value) (v:Value):Prop:=
 (∃ fn c,P.funcs[f]?=some fn∧fn.body=some c∧(fn.name == "runtime.NumGoroutine")=false)∧
 ∀ (ρ:aQ) (w:World) (e4:List Value) (ae:cO) (next:Nat),LR ρ args e4→bd ρ w ae next→
  Calls P f e4.toArray w fun e w'=>∃ v',e= .returned v'∧VR ρ v v'∧bd ρ w' ae next∧Ext ρ ae next w ρ ae next w'
theorem D0 {ov:cw} (h:∀ f args h v h',ov f args h=some (v,h')→h'=h∧vN P f args v):Good P ov∧fG ov:=by
 refine ⟨fun f args h0 v h' hh=>?_,fun f args h0 v h' hh=>?_⟩
 ·obtain ⟨rfl,h1,h2⟩:=h f args h0 v h' hh
  refine ⟨h1,fun ρ w e4 hl hs=>?_⟩
  refine (h2 ρ w e4 _ _ hl hs).mono fun e w' hq=>?_
  obtain ⟨v',j,I,J,U⟩:=hq
  exact ⟨ρ,v',j,I,J,U⟩
 ·obtain ⟨rfl,_⟩:=h f args h0 v h' hh
  exact bw.refl _
def ir:cw:=fun _ _ _=>none
theorem tJ:Good P ir∧fG ir:=D0 fun f args h v h' hh=>by cases hh
def AH.none:AH:=⟨.nil,0,0⟩
theorem AH.l5 (b:Nat):AH.none.ae b=Option.none:=by simp [AH.none,AH.ae,Tr.get]
def ρ0:aQ:=fun _=>Option.none
theorem CC (w:World):bd ρ0 w AH.none.ae AH.none.next where
 dN b p q:=by cases q
 lt b p q:=by cases q
 cell b B p q:=by rw [AH.l5] at q;cases q
 own b B p q:=by rw [AH.l5] at q;cases q
 apart b c B C p q h j:=by rw [AH.l5] at j;cases j
 live b q:=absurd (AH.l5 b) q
end
end Go.Proofs.Ytcilejikekccmaa.Am
namespace Go.Proofs.Ytcilejikekccmaa.Am
open Go
def cL:Code→Code
 | .seq a _=>a
 | .cond _ a _=>a
 | c=>c
def cR:Code→Code
 | .seq _ b=>b
 | .cond _ _ b=>b
 | c=>c
def cI:Code→Code
 | .block _ c=>c
 | .loop c=>c
 | .scope c=>c
 | c=>c
def iv (f:Func):Code:=f.body.getD .skip
section
variable {P:Program} {call:cw} {k:Nat} {c:Code} {e e1:Env} {h h1:AH} {r:fw}
end
end Go.Proofs.Ytcilejikekccmaa.Am
namespace Go.Proofs.Ytcilejikekccmaa.Am
open Go
def dY (c1 c2:cw):Prop:=∀ f a h r,c1 f a h=some r→c2 f a h=some r
theorem dY.refl (c:cw):dY c c:=fun _ _ _ _ h=>h
theorem dY.trans {a b c:cw} (h:dY a b) (k:dY b c):dY a c:=fun _ _ _ _ q=>k _ _ _ _ (h _ _ _ _ q)
section
variable {P:Program} {c1 c2:cw}
theorem ow (hc:dY c1 c2) {ev:Operand→Value} {op:Op} {h:AH} {r:Value×AH} (hr:aOp P c1 ev op h=some r):aOp P c2 ev op h=some r:=by
 cases op with
 | call c=>
  simp only [aOp] at hr ⊢
  cases kB:c.callee with
  | builtin b=>rw [kB] at hr;exact hr
  | value f=>
   rw [kB] at hr
   simp only at hr ⊢
   split at hr
   ·rename_i g first captured zE
    exact hc _ _ _ _ hr
   ·cases hr
  | invoke a b=>rw [kB] at hr;cases hr
 | makeFunc fn first captured=>cases fn<;>exact hr
 | _=>exact hr
theorem tt (hc:dY c1 c2) {ops:Array Oper}:∀ (os:List Oper) {e:Env} {h:AH} {r:Env×AH},aOps P c1 ops os e h=some r→aOps P c2 ops os e h=some r:=by
 intro os
 induction os with
 | nil=>intro e h r hr;exact hr
 | cons o os ih=>
  intro e h r hr
  simp only [aOps] at hr ⊢
  split at hr
  ·rename_i hw
   rw [if_pos hw]
   cases ho:aOp P c1 e.ev o.op h with
   | none=>rw [ho] at hr;cases hr
   | some x=>
    rw [ho] at hr
    rw [ow hc ho]
    exact ih hr
  ·rename_i hw
   rw [if_neg hw]
   exact ih hr
theorem th (hc:dY c1 c2) {ops:List Oper} {base i:Nat} {o:Oper} {s s':fY} (hr:aDrawOp P c1 ops base i o s=some s'):aDrawOp P c2 ops base i o s=some s':=by
 unfold aDrawOp at hr ⊢
 cases iX:cls P o.op with
 | pure=>
  rw [iX] at hr
  simp only at hr ⊢
  cases ho:aOp P c1 s.e.ev o.op s.h with
  | none=>rw [ho] at hr;cases hr
  | some x=>rw [ho] at hr;rw [ow hc ho];exact hr
 | look=>rw [iX] at hr;exact hr
 | fresh=>rw [iX] at hr;exact hr
 | make=>
  rw [iX] at hr
  simp only at hr ⊢
  cases ho:aOp P c1 s.e.ev o.op {s.h with low:=s.h.next} with
  | none=>rw [ho] at hr;cases hr
  | some x=>rw [ho] at hr;rw [ow hc ho];exact hr
theorem tS (hc:dY c1 c2) {ops:Array Oper} {base:Nat}:∀ (os:List Oper) {i:Nat} {s s':fY},aDraw P c1 ops base i os s=some s'→aDraw P c2 ops base i os s=some s':=by
 intro os
 induction os with
 | nil=>intro i s s' hr;exact hr
 | cons o os ih=>
  intro i s s' hr
  simp only [aDraw] at hr ⊢
  split at hr
  ·rename_i hw
   rw [if_pos hw]
   cases ho:aDrawOp P c1 ops.toList base i o s with
   | none=>rw [ho] at hr;cases hr
   | some x=>
    rw [ho] at hr
    rw [th hc ho]
    exact ih hr
  ·rename_i hw
   rw [if_neg hw]
   exact ih hr
theorem w4 (hc:dY c1 c2) {ops:Array Oper} {e:Env} {h:AH} {r:Env×AH} (hr:e3 P c1 ops e h=some r):e3 P c2 ops e h=some r:=by
 unfold e3 at hr ⊢
 cases ho:aDraw P c1 ops h.next 0 ops.toList ⟨e,{h with next:=h.next+ops.size},[],[]⟩ with
 | none=>rw [ho] at hr;cases hr
 | some x=>rw [ho] at hr;rw [tS hc _ ho];exact hr
theorem pW {j I:Env→AH→fw} (hb:∀ e h r,j e h=some r→I e h=some r):∀ (n m:Nat),n≤m→∀ (e:Env) (h:AH) (r),aLoop j n e h=some r→aLoop I m e h=some r:=by
 intro n
 induction n with
 | zero=>intro m _ e h r hr;cases hr
 | succ n ih=>
  intro m hm e h r hr
  obtain ⟨m,rfl⟩:∃ k,m=k+1:=⟨m - 1,by omega⟩
  simp only [aLoop] at hr ⊢
  cases hx:j e h with
  | none=>rw [hx] at hr;cases hr
  | some x=>
   rw [hx] at hr
   rw [hb _ _ _ hx]
   obtain ⟨x,e',h'⟩:=x
   cases x with
   | normal=>exact ih m (by omega) _ _ _ hr
   | exit i=>exact hr
   | goto l=>exact hr
   | ret=>exact hr
theorem ue {j I:Code→Env→AH→fw} (hb:∀ c e h r,j c e h=some r→I c e h=some r) (c:Code):∀ (n m:Nat),n≤m→∀ (cur:Code) (e:Env) (h:AH) (r),aJump j c n cur e h=some r→aJump I c m cur e h=some r:=by
 intro n
 induction n with
 | zero=>intro m _ cur e h r hr;cases hr
 | succ n ih=>
  intro m hm cur e h r hr
  obtain ⟨m,rfl⟩:∃ k,m=k+1:=⟨m - 1,by omega⟩
  simp only [aJump] at hr ⊢
  cases hx:j cur e h with
  | none=>rw [hx] at hr;cases hr
  | some x=>
   rw [hx] at hr
   rw [hb _ _ _ _ hx]
   obtain ⟨x,e',h'⟩:=x
   cases x with
   | normal=>exact hr
   | exit i=>exact hr
   | goto l=>
    simp only at hr ⊢
    split at hr
    ·exact ih m (by omega) _ _ _ _ hr
    ·exact hr
   | ret=>exact hr
theorem gQ (hc:dY c1 c2):∀ (n m:Nat),n≤m→∀ (c:Code) (e:Env) (h:AH) (r),aCode P c1 n c e h=some r→aCode P c2 m c e h=some r:=by
 intro n
 induction n with
 | zero=>intro m _ c e h r hr;cases hr
 | succ n ih=>
  intro m hm c e h r hr
  obtain ⟨m,rfl⟩:∃ k,m=k+1:=⟨m - 1,by omega⟩
  have iy:n≤m:=by omega
  cases c with
  | region a ops d=>
   cases d with
   | false=>
    simp only [aCode] at hr ⊢
    cases ho:aOps P c1 ops ops.toList e h with
    | none=>rw [ho] at hr;cases hr
    | some x=>rw [ho] at hr;rw [tt hc _ ho];exact hr
   | true=>
    simp only [aCode] at hr ⊢
    cases ho:e3 P c1 ops e h with
    | none=>rw [ho] at hr;cases hr
    | some x=>rw [ho] at hr;rw [w4 hc ho];exact hr
  | seq a b=>
   simp only [aCode] at hr ⊢
   cases hx:aCode P c1 n a e h with
   | none=>rw [hx] at hr;cases hr
   | some x=>
    rw [hx] at hr
    rw [ih m iy _ _ _ _ hx]
    obtain ⟨x,e',h'⟩:=x
    cases x with
    | normal=>exact ih m iy _ _ _ _ hr
    | exit i=>exact hr
    | goto l=>exact hr
    | ret=>exact hr
  | cond x a b=>
   simp only [aCode] at hr ⊢
   split at hr
   ·exact ih m iy _ _ _ _ hr
   ·cases hr
  | block id c=>
   simp only [aCode] at hr ⊢
   cases hx:aCode P c1 n c e h with
   | none=>rw [hx] at hr;cases hr
   | some x=>rw [hx] at hr;rw [ih m iy _ _ _ _ hx];exact hr
  | loop c=>
   simp only [aCode] at hr ⊢
   exact pW (fun e h r q=>ih m iy _ _ _ _ q) n m iy _ _ _ hr
  | scope c=>
   simp only [aCode] at hr ⊢
   exact ue (fun cur e h r q=>ih m iy _ _ _ _ q) c n m iy _ _ _ _ hr
  | skip=>exact hr
  | label l=>exact hr
  | exit id=>exact hr
  | goto l=>exact hr
  | ret=>exact hr
  | _=>cases hr
theorem vR (ov:cw):∀ (k:Nat),dY (aCall P ov k) (aCall P ov (k+1)):=by
 intro k
 induction k with
 | zero=>intro f a h r hr;simp only [aCall] at hr;rw [aCall,hr]
 | succ k ih=>
  intro f a h r hr
  rw [aCall] at hr ⊢
  cases ho:ov f a h with
  | some x=>rw [ho] at hr;exact hr
  | none=>
   rw [ho] at hr
   simp only at hr ⊢
   cases hf:P.funcs[f]? with
   | none=>rw [hf] at hr;cases hr
   | some fn=>
    rw [hf] at hr
    simp only [Option.bind_some] at hr ⊢
    cases hb:fn.body with
    | none=>rw [hb] at hr;cases hr
    | some c=>
     rw [hb] at hr
     simp only [Option.bind_some] at hr ⊢
     split at hr
     ·rename_i hl
      rw [if_pos hl]
      cases hx:aCode P (aCall P ov k) k c (Env.ofArgs 0 a .nil) {h with low:=h.next} with
      | none=>rw [hx] at hr;cases hr
      | some x=>rw [hx] at hr;rw [gQ ih k (k+1) (by omega) _ _ _ _ hx];exact hr
     ·cases hr
theorem q2 (ov:cw) {k m:Nat} (h:k≤m):dY (aCall P ov k) (aCall P ov m):=by
 induction h with
 | refl=>exact dY.refl _
 | step _ ih=>exact ih.trans (vR ov _)
end
open Classical in
noncomputable def bO (P:Program):cw:=fun f a h=>if H:∃ r,∃ k,aCall P ir k f a h=some r then some H.choose else none
section
variable {P:Program}
theorem xO {k:Nat} {f:FuncId} {a:List Value} {h:AH} {r:Value×AH} (hr:aCall P ir k f a h=some r):bO P f a h=some r:=by
 unfold bO
 have H:∃ r,∃ k,aCall P ir k f a h=some r:=⟨r,k,hr⟩
 rw [dif_pos H]
 obtain ⟨k',jn⟩:=H.choose_spec
 have h1:=q2 (P:=P) ir (Nat.le_max_left k k') _ _ _ _ hr
 have h2:=q2 (P:=P) ir (Nat.le_max_right k k') _ _ _ _ jn
 rw [h1] at h2
 exact h2.symm
theorem qY {f:FuncId} {a:List Value} {h:AH} {r:Value×AH} (hr:bO P f a h=some r):∃ k,aCall P ir k f a h=some r:=by
 unfold bO at hr
 split at hr
 ·rename_i H
  obtain ⟨k,hk⟩:=H.choose_spec
  simp only [Option.some.injEq] at hr
  rw [hr] at hk
  exact ⟨k,hk⟩
 ·cases hr
abbrev gO (P:Program) (k:Nat):cw:=aCall P ir k
theorem qy {ev:Operand→Value} {op:Op} {h:AH} {r:Value×AH} (hr:aOp P (bO P) ev op h=some r):∃ k,aOp P (gO P k) ev op h=some r:=by
 cases op with
 | call c=>
  simp only [aOp] at hr ⊢
  cases kB:c.callee with
  | builtin b=>rw [kB] at hr;exact ⟨0,hr⟩
  | value f=>
   rw [kB] at hr
   simp only at hr ⊢
   split at hr
   ·rename_i g first captured zE
    exact qY hr
   ·cases hr
  | invoke a b=>rw [kB] at hr;cases hr
 | makeFunc fn first captured=>cases fn<;>exact ⟨0,hr⟩
 | _=>exact ⟨0,hr⟩
theorem iE {k m:Nat} (h:k≤m):dY (gO P k) (gO P m):=q2 _ h
theorem DJ {ops:Array Oper}:∀ (os:List Oper) {e:Env} {h:AH} {r:Env×AH},aOps P (bO P) ops os e h=some r→∃ k,aOps P (gO P k) ops os e h=some r:=by
 intro os
 induction os with
 | nil=>intro e h r hr;exact ⟨0,hr⟩
 | cons o os ih=>
  intro e h r hr
  simp only [aOps] at hr ⊢
  split at hr
  ·rename_i hw
   cases ho:aOp P (bO P) e.ev o.op h with
   | none=>rw [ho] at hr;cases hr
   | some x=>
    rw [ho] at hr
    obtain ⟨I,h1⟩:=qy ho
    obtain ⟨j,h2⟩:=ih hr
    refine ⟨max I j,?_⟩
    rw [if_pos hw,ow (iE (Nat.le_max_left I j)) h1]
    exact tt (iE (Nat.le_max_right I j)) _ h2
  ·rename_i hw
   obtain ⟨j,h2⟩:=ih hr
   exact ⟨j,by rw [if_neg hw];exact h2⟩
theorem yD {ops:List Oper} {base i:Nat} {o:Oper} {s s':fY} (hr:aDrawOp P (bO P) ops base i o s=some s'):∃ k,aDrawOp P (gO P k) ops base i o s=some s':=by
 unfold aDrawOp at hr ⊢
 cases iX:cls P o.op with
 | pure=>
  rw [iX] at hr
  simp only at hr ⊢
  cases ho:aOp P (bO P) s.e.ev o.op s.h with
  | none=>rw [ho] at hr;cases hr
  | some x=>
   rw [ho] at hr
   obtain ⟨k,hk⟩:=qy ho
   exact ⟨k,by rw [hk];exact hr⟩
 | look=>rw [iX] at hr;exact ⟨0,hr⟩
 | fresh=>rw [iX] at hr;exact ⟨0,hr⟩
 | make=>
  rw [iX] at hr
  simp only at hr ⊢
  cases ho:aOp P (bO P) s.e.ev o.op {s.h with low:=s.h.next} with
  | none=>rw [ho] at hr;cases hr
  | some x=>
   rw [ho] at hr
   obtain ⟨k,hk⟩:=qy ho
   exact ⟨k,by rw [hk];exact hr⟩
theorem wx {ops:Array Oper} {base:Nat}:∀ (os:List Oper) {i:Nat} {s s':fY},aDraw P (bO P) ops base i os s=some s'→∃ k,aDraw P (gO P k) ops base i os s=some s':=by
 intro os
 induction os with
 | nil=>intro i s s' hr;exact ⟨0,hr⟩
 | cons o os ih=>
  intro i s s' hr
  simp only [aDraw] at hr ⊢
  split at hr
  ·rename_i hw
   cases ho:aDrawOp P (bO P) ops.toList base i o s with
   | none=>rw [ho] at hr;cases hr
   | some x=>
    rw [ho] at hr
    obtain ⟨I,h1⟩:=yD ho
    obtain ⟨j,h2⟩:=ih hr
    refine ⟨max I j,?_⟩
    rw [if_pos hw,th (iE (Nat.le_max_left I j)) h1]
    exact tS (iE (Nat.le_max_right I j)) _ h2
  ·rename_i hw
   obtain ⟨j,h2⟩:=ih hr
   exact ⟨j,by rw [if_neg hw];exact h2⟩
theorem zP {ops:Array Oper} {e:Env} {h:AH} {r:Env×AH} (hr:e3 P (bO P) ops e h=some r):∃ k,e3 P (gO P k) ops e h=some r:=by
 unfold e3 at hr ⊢
 cases ho:aDraw P (bO P) ops h.next 0 ops.toList ⟨e,{h with next:=h.next+ops.size},[],[]⟩ with
 | none=>rw [ho] at hr;cases hr
 | some x=>
  rw [ho] at hr
  obtain ⟨k,hk⟩:=wx _ ho
  exact ⟨k,by rw [hk];exact hr⟩
theorem Dc {b:Nat→Env→AH→fw} {bI:Env→AH→fw} (hm:∀ k m,k≤m→∀ e h r,b k e h=some r→b m e h=some r) (hb:∀ e h r,bI e h=some r→∃ k,b k e h=some r):∀ (n:Nat) (e:Env) (h:AH) (r),aLoop bI n e h=some r→∃ k,aLoop (b k) n e h=some r:=by
 intro n
 induction n with
 | zero=>intro e h r hr;cases hr
 | succ n ih=>
  intro e h r hr
  simp only [aLoop] at hr ⊢
  cases hx:bI e h with
  | none=>rw [hx] at hr;cases hr
  | some x=>
   rw [hx] at hr
   obtain ⟨j,h1⟩:=hb _ _ _ hx
   obtain ⟨x,e',h'⟩:=x
   cases x with
   | normal=>
    obtain ⟨I,h2⟩:=ih _ _ _ hr
    refine ⟨max j I,?_⟩
    rw [hm _ _ (Nat.le_max_left j I) _ _ _ h1]
    exact pW (hm _ _ (Nat.le_max_right j I)) n n (Nat.le_refl _) _ _ _ h2
   | exit i=>exact ⟨j,by rw [h1];exact hr⟩
   | goto l=>exact ⟨j,by rw [h1];exact hr⟩
   | ret=>exact ⟨j,by rw [h1];exact hr⟩
theorem vG {b:Nat→Code→Env→AH→fw} {bI:Code→Env→AH→fw} (hm:∀ k m,k≤m→∀ c e h r,b k c e h=some r→b m c e h=some r) (hb:∀ c e h r,bI c e h=some r→∃ k,b k c e h=some r) (c:Code):∀ (n:Nat) (cur:Code) (e:Env) (h:AH) (r),aJump bI c n cur e h=some r→∃ k,aJump (b k) c n cur e h=some r:=by
 intro n
 induction n with
 | zero=>intro cur e h r hr;cases hr
 | succ n ih=>
  intro cur e h r hr
  simp only [aJump] at hr ⊢
  cases hx:bI cur e h with
  | none=>rw [hx] at hr;cases hr
  | some x=>
   rw [hx] at hr
   obtain ⟨j,h1⟩:=hb _ _ _ _ hx
   obtain ⟨x,e',h'⟩:=x
   cases x with
   | normal=>exact ⟨j,by rw [h1];exact hr⟩
   | exit i=>exact ⟨j,by rw [h1];exact hr⟩
   | goto l=>
    simp only at hr
    cases hl:findLabel c l with
    | none=>rw [hl] at hr;exact ⟨j,by rw [h1];simp only [hl];exact hr⟩
    | some rest=>
     rw [hl] at hr
     obtain ⟨I,h2⟩:=ih _ _ _ _ hr
     refine ⟨max j I,?_⟩
     rw [hm _ _ (Nat.le_max_left j I) _ _ _ _ h1]
     simp only [hl]
     exact ue (hm _ _ (Nat.le_max_right j I)) c n n (Nat.le_refl _) _ _ _ _ h2
   | ret=>exact ⟨j,by rw [h1];exact hr⟩
theorem wv:∀ (n:Nat) (c:Code) (e:Env) (h:AH) (r),aCode P (bO P) n c e h=some r→∃ k,aCode P (gO P k) n c e h=some r:=by
 intro n
 induction n with
 | zero=>intro c e h r hr;cases hr
 | succ n ih=>
  intro c e h r hr
  cases c with
  | region a ops d=>
   cases d with
   | false=>
    simp only [aCode] at hr ⊢
    cases ho:aOps P (bO P) ops ops.toList e h with
    | none=>rw [ho] at hr;cases hr
    | some x=>
     rw [ho] at hr
     obtain ⟨k,hk⟩:=DJ _ ho
     exact ⟨k,by rw [hk];exact hr⟩
   | true=>
    simp only [aCode] at hr ⊢
    cases ho:e3 P (bO P) ops e h with
    | none=>rw [ho] at hr;cases hr
    | some x=>
     rw [ho] at hr
     obtain ⟨k,hk⟩:=zP ho
     exact ⟨k,by rw [hk];exact hr⟩
  | seq a b=>
   simp only [aCode] at hr ⊢
   cases hx:aCode P (bO P) n a e h with
   | none=>rw [hx] at hr;cases hr
   | some x=>
    rw [hx] at hr
    obtain ⟨j,h1⟩:=ih _ _ _ _ hx
    obtain ⟨x,e',h'⟩:=x
    cases x with
    | normal=>
     obtain ⟨I,h2⟩:=ih _ _ _ _ hr
     refine ⟨max j I,?_⟩
     rw [gQ (iE (Nat.le_max_left j I)) n n (Nat.le_refl _) _ _ _ _ h1]
     exact gQ (iE (Nat.le_max_right j I)) n n (Nat.le_refl _) _ _ _ _ h2
    | exit i=>exact ⟨j,by rw [h1];exact hr⟩
    | goto l=>exact ⟨j,by rw [h1];exact hr⟩
    | ret=>exact ⟨j,by rw [h1];exact hr⟩
  | cond x a b=>
   simp only [aCode] at hr ⊢
   split at hr
   ·exact ih _ _ _ _ hr
   ·cases hr
  | block id c=>
   simp only [aCode] at hr ⊢
   cases hx:aCode P (bO P) n c e h with
   | none=>rw [hx] at hr;cases hr
   | some x=>
    rw [hx] at hr
    obtain ⟨j,h1⟩:=ih _ _ _ _ hx
    exact ⟨j,by rw [h1];exact hr⟩
  | loop c=>
   simp only [aCode] at hr ⊢
   exact Dc (b:=fun k=>aCode P (gO P k) n c) (fun k m hk e h r q=>gQ (iE hk) n n (Nat.le_refl _) _ _ _ _ q) (fun e h r q=>ih _ _ _ _ q) n _ _ _ hr
  | scope c=>
   simp only [aCode] at hr ⊢
   exact vG (b:=fun k=>aCode P (gO P k) n) (fun k m hk c e h r q=>gQ (iE hk) n n (Nat.le_refl _) _ _ _ _ q) (fun c e h r q=>ih _ _ _ _ q) c n _ _ _ _ hr
  | skip=>exact ⟨0,hr⟩
  | label l=>exact ⟨0,hr⟩
  | exit id=>exact ⟨0,hr⟩
  | goto l=>exact ⟨0,hr⟩
  | ret=>exact ⟨0,hr⟩
  | _=>cases hr
end
end Go.Proofs.Ytcilejikekccmaa.Am
