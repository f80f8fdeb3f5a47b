/- Packed by a program of this session (mini.py). -/
import Derived.Calls
import Derived.Orders
import Derived.Scope
import Derived.ScopeJumps
import Derived.Laws.Append
import Derived.Laws.Cells
import Derived.Laws.Rows
import Derived.Laws.AppendOwn
import Derived.Laws.BytesString
import Derived.Laws.MakeOwn
import Derived.Lib.ConvBytes
import Derived.LoopN
import Derived.Still
import Derived.ChangeSame
import Derived.RowKit3
set_option linter.unusedVariables false
set_option linter.unusedSectionVars false
set_option linter.unusedSimpArgs false
namespace Go.Proofs.YtcilejikekccmaaGreat
theorem au.{u} {α:Type u} {l:List α} {i:Nat} {a:α} (h:l[i]?=some a):a∈l:=List.mem_of_getElem? h
theorem aX.{u} {α:Type u} {l:List α} {i:Nat} (h:i<l.length):l[i]?=some l[i]:=List.getElem?_eq_getElem h
theorem ax.{u,v} {α:Type u} {β:Type v} (a:α) (f:α→Option β):(some a).bind f=f a:=rfl
theorem a7 (n:Nat):n<n.succ:=Nat.lt_succ_self n
theorem b2 (n:Nat):(n:Int).toNat=n:=Int.toNat_natCast n
theorem b7.{u} {α:Type u} {c7 bs:List α}:(c7++bs).length=c7.length+bs.length:=List.length_append
theorem cQ.{u} {α:Type u} {a:α}:[a].length=1:=rfl
end Go.Proofs.YtcilejikekccmaaGreat
namespace Go.Proofs.YtcilejikekccmaaGreat.Am
open Go
inductive Tr (α:Type) where
 | nil
 | node (l:Tr α) (v:Option α) (r:Tr α)
namespace Tr
variable {α:Type}
def get:Tr α→Nat→Option α
 | .nil,_=>none
 | .node l v r,n=>if n=0 then v else if n % 2=1 then l.get (n / 2) else r.get (n / 2 - 1)
def setF:Nat→Tr α→Nat→Option α→Tr α
 | 0,t,_,_=>t
 | f+1, .nil,n,x=>if n=0 then .node .nil x .nil else if n % 2=1 then .node (setF f .nil (n / 2) x) none .nil else .node .nil none (setF f .nil (n / 2 - 1) x)
 | f+1, .node l v r,n,x=>if n=0 then .node l x r else if n % 2=1 then .node (setF f l (n / 2) x) v r else .node l v (setF f r (n / 2 - 1) x)
def set (t:Tr α) (n:Nat) (x:Option α):Tr α:=setF (n+1) t n x
theorem zu (f:Nat):∀ (t:Tr α) (n m:Nat) (x:Option α),n<f→(setF f t n x).get m=if m=n then x else t.get m:=by
 induction f with
 | zero=>intro t n m x h;omega
 | succ f ih=>
  intro t n m x h
  cases t with
  | nil=>
   simp only [setF]
   by_cases hn:n=0
   ·subst hn
    simp only [if_true,get]
    by_cases hm:m=0<;>simp [hm]
   ·rw [if_neg hn]
    by_cases ho:n % 2=1
    ·rw [if_pos ho]
     simp only [get]
     by_cases hm:m=0
     ·subst hm;simp [Ne.symm hn]
     ·rw [if_neg hm]
      by_cases fJ:m % 2=1
      ·rw [if_pos fJ,ih _ _ _ _ (by omega)]
       simp only [get]
       by_cases e:m=n
       ·simp [e]
       ·rw [if_neg e,if_neg (by omega)]
      ·rw [if_neg fJ,if_neg (by omega)]
    ·rw [if_neg ho]
     simp only [get]
     by_cases hm:m=0
     ·subst hm;simp [Ne.symm hn]
     ·rw [if_neg hm]
      by_cases fJ:m % 2=1
      ·rw [if_pos fJ,if_neg (by omega)]
      ·rw [if_neg fJ,ih _ _ _ _ (by omega)]
       simp only [get]
       by_cases e:m=n
       ·simp [e]
       ·rw [if_neg e,if_neg (by omega)]
  | node l v r=>
   simp only [setF]
   by_cases hn:n=0
   ·subst hn
    simp only [if_true,get]
    by_cases hm:m=0<;>simp [hm]
   ·rw [if_neg hn]
    by_cases ho:n % 2=1
    ·rw [if_pos ho]
     simp only [get]
     by_cases hm:m=0
     ·subst hm;simp [Ne.symm hn]
     ·rw [if_neg hm,if_neg hm]
      by_cases fJ:m % 2=1
      ·rw [if_pos fJ,if_pos fJ,ih _ _ _ _ (by omega)]
       by_cases e:m=n
       ·simp [e]
       ·rw [if_neg e,if_neg (by omega)]
      ·rw [if_neg fJ,if_neg fJ,if_neg (by omega)]
    ·rw [if_neg ho]
     simp only [get]
     by_cases hm:m=0
     ·subst hm;simp [Ne.symm hn]
     ·rw [if_neg hm,if_neg hm]
      by_cases fJ:m % 2=1
      ·rw [if_pos fJ,if_pos fJ,if_neg (by omega)]
      ·rw [if_neg fJ,if_neg fJ,ih _ _ _ _ (by omega)]
       by_cases e:m=n
       ·simp [e]
       ·rw [if_neg e,if_neg (by omega)]
theorem e8 (t:Tr α) (n m:Nat) (x:Option α):(t.set n x).get m=if m=n then x else t.get m:=zu _ t n m x (by omega)
end Tr
abbrev Env:=Tr Value
def Env.get (e:Env) (t:Nat):Value:=(Tr.get e t).getD undef
def Env.set (e:Env) (t:Nat) (v:Value):Env:=Tr.set e t (some v)
theorem Env.e8 (e:Env) (t u:Nat) (v:Value):(Env.set e t v).get u=if u=t then v else e.get u:=by
 unfold Env.get Env.set
 rw [Tr.e8]
 split<;>rfl
theorem Env.get_nil (t:Nat):Env.get (.nil:Env) t=undef:=rfl
def Env.put (e:Env) (d:Option Nat) (v:Value):Env:=match d with | some t=>Env.set e t v | none=>e
def Env.ofArgs:Nat→List Value→Env→Env
 | _,[],e=>e
 | i,v::vs,e=>Env.ofArgs (i+1) vs (Env.set e i v)
def Env.ev (e:Env):Operand→Value
 | .tmp t=>e.get t
 | .const v=>v
 | .global _=>undef
 | .func f=> .func (.func f) #[] #[]
theorem Env.tn (vs:List Value):∀ (i:Nat) (e:Env) (t:Nat),(Env.ofArgs i vs e).get t=if i≤t∧t<i+vs.length then vs.getD (t - i) undef else e.get t:=by
 induction vs with
 | nil=>intro i e t;simp [Env.ofArgs];intro h1 h2;omega
 | cons v vs ih=>
  intro i e t
  simp only [Env.ofArgs,ih,List.length_cons,Env.e8]
  by_cases h1:i+1≤t∧t<i+1+vs.length
  ·rw [if_pos h1,if_pos (by omega)]
   have:t - i=(t - (i+1))+1:=by omega
   rw [this,List.getD_cons_succ]
  ·rw [if_neg h1]
   by_cases h2:t=i
   ·subst h2;simp
   ·rw [if_neg h2,if_neg (by omega)]
structure dS where
 cells:List Value
 own:Bool
 dL:Nat
structure AH where
 t:Tr dS
 next:Nat
 low:Nat
namespace AH
def ae (h:AH) (b:Nat):Option dS:=h.t.get b
def alloc (h:AH) (cs:List Value) (dL:Nat):AH:=⟨h.t.set h.next (some ⟨cs,true,dL⟩),h.next+1,h.low⟩
def put (h:AH) (b:Nat) (x:Option dS):AH:=⟨h.t.set b x,h.next,if b<h.low then b else h.low⟩
theorem fe (h:AH) (cs:List Value) (dL b:Nat):(h.alloc cs dL).ae b=if b=h.next then some ⟨cs,true,dL⟩ else h.ae b:=Tr.e8 _ _ _ _
theorem gQ (h:AH) (c b:Nat) (x:Option dS):(h.put c x).ae b=if b=c then x else h.ae b:=Tr.e8 _ _ _ _
theorem qV (h:AH) (cs:List Value) (dL:Nat):(h.alloc cs dL).next=h.next+1:=rfl
theorem oe (h:AH) (b:Nat) (x:Option dS):(h.put b x).next=h.next:=rfl
theorem Ge (h:AH) (cs:List Value) (dL:Nat):(h.alloc cs dL).low=h.low:=rfl
theorem lG (h:AH) (b:Nat) (x:Option dS):(h.put b x).low=if b<h.low then b else h.low:=rfl
def load (h:AH) (a:Addr):Option Value:=
 match a.spot with
 | none=>(h.ae a.block).bind fun B=>B.cells[a.off]?
 | some _=>none
def cN (h:AH) (a:Addr) (n:Nat):Option (List Value):=
 match a.spot with
 | none=>(h.ae a.block).bind fun B=>if a.off+n≤B.cells.length then some ((B.cells.drop a.off).take n) else none
 | some _=>none
def store (h:AH) (a:Addr) (vs:List Value):Option AH:=
 match a.spot with
 | none=>(h.ae a.block).bind fun B=>
  if B.own=true∧a.off+vs.length≤B.cells.length∧vs.all Value.oneCell'=true then
   some (h.put a.block (some ⟨B.cells.take a.off++vs++B.cells.drop (a.off+vs.length),true,B.dL⟩))
  else none
 | some _=>none
end AH
def oneClean:Value→Bool
 | .bool _ | .int .. | .string _ | .pointer none | .nilFunc | .nilIface=>true
 | .slice none n c=>decide (n≤c)
 | _=>false
def clean1:Value→Bool
 | .agg cs=>cs.toList.all oneClean
 | v=>oneClean v
def clean:Value→Bool
 | .tuple cs=>cs.toList.all clean1
 | .iface _ v=>clean1 v
 | .func (.func _) first captured=>first.toList.isEmpty && captured.toList.isEmpty
 | v=>clean1 v
def b6 (P:Program) (t:TypeId):Option Nat:=(P.info? t).map (·.size)
def ju (P:Program) (t:TypeId):Option Nat:=(P.info? t).map (·.bytes)
def ec (P:Program) (t:TypeId):Option Value:=(P.info? t).bind (·.zero)
def lH:TypeDesc→Bool
 | .struct _ | .array _ _=>true
 | _=>false
def gX (P:Program) (t:TypeId) (cs:Array Value) (off:Nat):Option Value:=
 (P.underlying t).bind fun d=>if lH d then (b6 P t).map fun s=> .agg (cs.extract off (off+s)) else cs[off]?
def aEqFields (P:Program) (eq:TypeId→Value→Value→Option Bool):List Field→Array Value→Array Value→Option Bool
 | [],_,_=>some true
 | f::fs,xs,ys=>
  if f.name≠ "_" then
   match gX P f.type xs f.offset,gX P f.type ys f.offset with
   | some a,some b=>match eq f.type a b with
    | some true=>aEqFields P eq fs xs ys
    | some false=>some false
    | none=>none
   | _,_=>none
  else aEqFields P eq fs xs ys
def aEq (P:Program):Nat→TypeId→Value→Value→Option Bool
 | 0,_,_,_=>none
 | d+1,t,x,y=>
  match P.underlying t,x,y with
  | some .bool, .bool a, .bool b=>some (a == b)
  | some (.int _), .int k a, .int k' b=>if k=k' then some (a == b) else none
  | some .string, .string a, .string b=>some (a == b)
  | some (.pointer _), .pointer none, .pointer b=>some b.isNone
  | some (.pointer _), .pointer (some _), .pointer none=>some false
  | some (.interface _), .nilIface, .iface _ _=>some false
  | some (.interface _), .iface _ _, .nilIface=>some false
  | some (.struct fields), .agg xs, .agg ys=>if P.stoodInHeld t=false then aEqFields P (aEq P d) fields.toList xs ys else none
  | some (.slice _), .slice none _ _, .slice b _ _=>some b.isNone
  | some (.slice _), .slice (some _) _ _, .slice none _ _=>some false
  | some (.func _ _ _), .nilFunc, .nilFunc=>some true
  | some (.func _ _ _), .nilFunc, .func _ _ _=>some false
  | some (.func _ _ _), .func _ _ _, .nilFunc=>some false
  | _,_,_=>none
def lS:Nat:=20
def aEqTop (P:Program) (t:TypeId) (x y:Value):Option Bool:=
 match x,y with
 | .nilIface, .nilIface=>none
 | .agg _, .agg _=>if P.eqGuardType P.depth t=false then aEq P lS t x y else none
 | _,_=>aEq P lS t x y
def aInt (op:BinOp) (k:IntKind) (a b:Int):Option Value:=
 match op with
 | .add=>some (.int k (k.wrap (a+b)))
 | .sub=>some (.int k (k.wrap (a - b)))
 | .mul=>some (.int k (k.wrap (a * b)))
 | .quo=>if b=0 then none else some (.int k (k.wrap (a.tdiv b)))
 | .rem=>if b=0 then none else some (.int k (a.tmod b))
 | .and=>some (.int k (k.wrap (BitVec.ofInt k.bits a &&& BitVec.ofInt k.bits b).toNat))
 | .or=>some (.int k (k.wrap (BitVec.ofInt k.bits a ||| BitVec.ofInt k.bits b).toNat))
 | .eql=>some (.bool (a == b))
 | .neq=>some (.bool (a != b))
 | .lss=>some (.bool (decide (a<b)))
 | .leq=>some (.bool (decide (a≤b)))
 | .gtr=>some (.bool (decide (a>b)))
 | .geq=>some (.bool (decide (a≥b)))
 | _=>none
def aStr (op:BinOp) (x y:ByteArray):Option Value:=
 match op with
 | .add=>if ((x.size+y.size:Nat):Int)>IntKind.i64.max then none else some (.string (x++y))
 | .eql=>some (.bool (x.toList == y.toList))
 | .neq=>some (.bool !(x.toList == y.toList))
 | _=>none
def aBin (P:Program) (op:BinOp) (t:TypeId) (x y:Value):Option Value:=
 match x,y with
 | .int k a, .int k' b=>
  match op with
  | .shl=>if b<0 then none else some (.int k (k.wrap (a * 2 ^ (min b.toNat k.bits))))
  | .shr=>if b<0 then none else some (.int k (a.fdiv (2 ^ (min b.toNat k.bits))))
  | _=>if k=k' then aInt op k a b else none
 | .string a, .string b=>aStr op a b
 | x,y=>
  match op with
  | .eql=>(aEqTop P t x y).map .bool
  | .neq=>(aEqTop P t x y).map fun b=> .bool !b
  | _=>none
def aUn (op:UnOp) (x:Value):Option Value:=
 match op,x with
 | .neg, .int k n=>some (.int k (k.wrap (0 - n)))
 | .not, .bool b=>some (.bool !b)
 | _,_=>none
def aField (P:Program) (s:TypeId) (f:Nat) (x:Value):Option Value:=
 match P.underlying s,x with
 | some (.struct fields), .pointer (some a)=>(fields[f]?).bind fun fd=>(b6 P fd.type).bind fun z=>if z=0∨a.spot≠none then none else some (.pointer (some (a.add fd.offset)))
 | _,_=>none
def aIndexAddr (P:Program) (t:TypeId) (x ix:Value):Option Value:=
 match P.underlying t,x,ix with
 | some (.slice e), .slice (some a) n _, .int _ i=>(b6 P e).bind fun s=>if 0≤i∧i<n∧a.spot=none then some (.pointer (some (a.add (i.toNat * s)))) else none
 | some (.array n e), .pointer (some a), .int _ i=>(b6 P e).bind fun s=>if 0≤i∧i<n∧a.spot=none then some (.pointer (some (a.add (i.toNat * s)))) else none
 | _,_,_=>none
def aIndex (P:Program) (t:TypeId) (x ix:Value):Option Value:=
 match P.underlying t,x,ix with
 | some .string, .string s, .int _ i=>if 0≤i then (s[i.toNat]?).map fun b=> .int .u8 b.toNat else none
 | some (.array n e), .agg cs, .int _ i=>(b6 P e).bind fun s=>if 0≤i∧i<n then gX P e cs (i.toNat * s) else none
 | _,_,_=>none
def aFieldV (P:Program) (t:TypeId) (f:Nat) (x:Value):Option Value:=
 match P.underlying t,x with
 | some (.struct fields), .agg cs=>(fields[f]?).bind fun fd=>gX P fd.type cs fd.offset
 | _,_=>none
def aBnd (y:Nat):Value→Option Nat
 | .int _ i=>if 0≤i∧i≤y then some i.toNat else none
 | _=>none
def aLow (h:Nat) (m:Option Nat):Option Value→Option (Nat×Nat×Option Nat)
 | none=>some (0,h,m)
 | some l=>(aBnd h l).map fun l=>(l,h,m)
def aBounds (n:Nat) (lo hi mx:Option Value):Option (Nat×Nat×Option Nat):=
 match mx,hi with
 | none,none=>aLow n none lo
 | none,some h=>(aBnd n h).bind fun h=>aLow h none lo
 | some _,none=>none
 | some m,some h=>(aBnd n m).bind fun m=>(aBnd m h).bind fun h=>aLow h (some m) lo
def aSlice (P:Program) (t:TypeId) (x:Value) (lo hi mx:Option Value):Option Value:=
 match P.underlying t,x with
 | some .string, .string s=>if mx.isSome then none else (aBounds s.size lo hi none).map fun b=> .string (s.extract b.1 b.2.1)
 | some (.slice e), .slice a n c=>(b6 P e).bind fun s=>(aBounds n lo hi mx).bind fun b=>
   let len:=b.2.1 - b.1
   let cap:=match b.2.2 with
    | some m=>if m=b.2.1 then len else len+2
    | none=>if c=n∧b.2.1=n then len else len+2
   match a with
   | none=>some (.slice none len cap)
   | some ad=>if ad.spot=none then some (.slice (some (ad.add (b.1 * s))) len cap) else none
 | _,_=>none
def aBuild (P:Program) (t:TypeId) (parts:List (Nat×Value)):Option Value:=
 (ec P t).bind fun z=>if clean z then
  match P.underlying t with
  | some (.struct fields)=>(fields.toList.mapM fun f=>(b6 P f.type).map fun s=>(f.offset,s)).bind fun qp=>(Instr.fill (fun i=>qp[i]?) z.cells parts).map .agg
  | some (.array _ e)=>(b6 P e).bind fun s=>(Instr.fill (fun i=>some (i * s,s)) z.cells parts).map .agg
  | _=>none
 else none
def aAssert (P:Program) (x:Value) (asserted:TypeId) (ok:Bool):Option Value:=
 match P.underlying asserted,x with
 | some (.interface _),_=>none
 | some _, .nilIface=>if ok then (ec P asserted).bind fun z=>if clean z then some (.tuple #[z, .bool false]) else none else none
 | some _, .iface t v=>
  if t=asserted then some (if ok then .tuple #[v, .bool true] else v)
  else if ok then (ec P asserted).bind fun z=>if clean z then some (.tuple #[z, .bool false]) else none else none
 | _,_=>none
def aLen (P:Program) (t:TypeId) (x:Value):Option Value:=
 match P.underlying t,x with
 | some .string, .string s=>some (.int .i64 s.size)
 | some (.slice _), .slice _ n _=>some (.int .i64 n)
 | some (.array n _),_=>some (.int .i64 n)
 | _,_=>none
def aMax:Value→List Value→Option Value
 | .int k x,[]=>some (.int k x)
 | .int k x, .int k' y::vs=>if k=k' then aMax (.int k (if y>x then y else x)) vs else none
 | _,_=>none
def jG:Value→List Value→Option Value
 | .int k x,[]=>some (.int k x)
 | .int k x, .int k' y::vs=>if k=k' then jG (.int k (if y<x then y else x)) vs else none
 | _,_=>none
end Go.Proofs.YtcilejikekccmaaGreat.Am
namespace Go.Proofs.YtcilejikekccmaaGreat.Am
section
open Go
abbrev gR:=(Nat→Value)×List Value×Nat
def AH.fresh (h:AH) (f:gR):Value×AH:=(f.1 h.next,h.alloc f.2.1 f.2.2)
def nP (P:Program) (e:TypeId):Option gR:=
 (ec P e).bind fun z=>if clean z then some (fun id=> .pointer (some ⟨id,0,none⟩),z.cells.toList,0) else none
def mU (v:Value):Option gR:=some (fun id=> .pointer (some ⟨id,0,none⟩),v.cells.toList,0)
def aBuildSlice (P:Program) (t:TypeId) (len:Nat) (parts:List (Nat×Value)):Option gR:=
 match P.underlying t with
 | some (.slice e)=>(b6 P e).bind fun s=>(ec P e).bind fun z=>
  if clean z=true∧len * s≤2 ^ 24∧0<s then
   (Instr.fill (fun i=>some (i * s,s)) ((Array.range (len * s)).map fun i=>z.cells[i % z.cells.size]!) parts).map fun cells=>
    (fun id=> .slice (some ⟨id,0,none⟩) len len,cells.toList,s)
  else none
 | _=>none
def aMakeSlice (P:Program) (t:TypeId) (l c:Value):Option gR:=
 match P.underlying t,l,c with
 | some (.slice e), .int _ n, .int _ m=>(b6 P e).bind fun s=>(ju P e).bind fun bX=>(ec P e).bind fun z=>
  if clean z=true∧0<s∧0≤n∧n=m∧bX * n≤2 ^ 48∧n≤4611686018427387904 then
   some (fun id=> .slice (some ⟨id,0,none⟩) n.toNat n.toNat,((Array.range (n.toNat * s)).map fun i=>z.cells[i % z.cells.size]!).toList,s)
  else none
 | _,_,_=>none
def aFresh (P:Program) (ev:Operand→Value):Op→Option gR
 | .alloc e=>nP P e
 | .box _ x=>mU (ev x)
 | .buildSlice t n ps=>aBuildSlice P t n (ps.toList.map fun p=>(p.1,ev p.2))
 | .makeSlice t l c=>aMakeSlice P t (ev l) (ev c)
 | _=>none
def DL:Op→Bool
 | .alloc _ | .box .. | .buildSlice .. | .makeSlice .. =>true
 | _=>false
def aLoad (P:Program) (t:TypeId) (x:Value) (h:AH):Option Value:=
 match x with
 | .pointer (some a)=>(P.underlying t).bind fun d=>
  if lH d then (b6 P t).bind fun s=>(h.cN a s).map fun cs=> .agg cs.toArray else h.load a
 | _=>none
def iT (P:Program) (t:TypeId) (x v:Value) (h:AH):Option AH:=
 match x with
 | .pointer (some a)=>(b6 P t).bind fun s=>if v.cells.size=s then h.store a v.cells.toList else none
 | _=>none
def eT (b:UInt8):Value:= .int .u8 b.toNat
def bytesOf:List Value→Option (List UInt8)
 | []=>some []
 | .int .u8 n::vs=>(bytesOf vs).map (UInt8.ofNat n.toNat::·)
 | _::_=>none
def aConvert (P:Program) (src dst:TypeId) (x:Value) (h:AH):Option (Value×AH):=
 match P.underlying src,P.underlying dst,x with
 | some _,some (.int k), .int _ n=>some (.int k (k.wrap n),h)
 | some _,some .string, .string s=>some (.string s,h)
 | some .string,some (.slice e), .string s=>
  match P.underlying e with
  | some (.int .u8)=>some (.slice (some ⟨h.next,0,none⟩) s.size (s.size+2),h.alloc (s.data.toList.map eT) 1)
  | _=>none
 | some (.slice _),some (.slice e), .slice (some a) n c=>
  match P.underlying e with
  | some (.int .u8)=>if src=dst∧0<n∧((h.ae a.block).map (·.own))=some true then some (x,h) else none
  | _=>none
 | some (.slice e),some .string, .slice none _ _=>
  match P.underlying e with
  | some (.int .u8)=>some (.string .empty,h)
  | _=>none
 | some (.slice e),some .string, .slice (some a) n _=>
  match P.underlying e with
  | some (.int .u8)=>if n=0 then some (.string .empty,h) else (h.cN a n).bind fun cs=>(bytesOf cs).map fun bs=>(.string ⟨bs.toArray⟩,h)
  | _=>none
 | _,_,_=>none
def aNews (s:Nat) (x:Value) (h:AH):Option (Nat×List Value):=
 match x with
 | .slice none n _=>if n=0 then some (0,[]) else none
 | .slice (some a) n _=>(h.cN a (n * s)).map fun cs=>(n,cs)
 | .string b=>if s=1 then some (b.size,b.data.toList.map eT) else none
 | _=>none
def appKind:TypeDesc→Bool
 | .slice _ | .string=>true
 | _=>false
def aAppend (P:Program) (t tx:TypeId) (sv x:Value) (h:AH):Option (Value×AH):=
 match P.underlying t,P.underlying tx,sv with
 | some (.slice e),some dx, .slice base n c=>
  if appKind dx=true then
  (b6 P e).bind fun s=>(ju P e).bind fun bX=>(ec P e).bind fun z=>(aNews s x h).bind fun mx=>
  if clean z=true∧0<s∧z.cells.size=s∧(n+mx.1) * bX≤140737488355328∧n+mx.1≤4611686018427387904∧mx.2.all Value.oneCell'=true then
   if mx.1=0 then some (sv,h) else
   match base with
   | none=>if n=0∧c=0 then some (.slice (some ⟨h.next,0,none⟩) mx.1 (mx.1+1),h.alloc mx.2 s) else none
   | some a=>
    if c=n then (h.cN a (n * s)).bind fun c4=>some (.slice (some ⟨h.next,0,none⟩) (n+mx.1) (n+mx.1+1),h.alloc (c4++mx.2) s)
    else if c=n+1∧a.spot=none then (h.ae a.block).bind fun B=>
     if B.own=true∧B.dL=s∧a.off+n * s=B.cells.length then
      some (.slice (some ⟨h.next,0,none⟩) (n+mx.1) (n+mx.1+1),(h.put a.block none).alloc (B.cells.drop a.off++mx.2) s)
     else none
    else none
  else none
  else none
 | _,_,_=>none
def aCopy (P:Program) (t:TypeId) (d s:Value) (h:AH):Option (Value×AH):=
 match P.underlying t,d,s with
 | some (.slice e), .slice db n _, .slice sb m _=>(b6 P e).bind fun z=>
  if Nat.min m n=0 then some (.int .i64 0,h) else
  match db,sb with
  | some a,some b=>(h.cN b (Nat.min m n * z)).bind fun cs=>(h.store a cs).map fun h'=>(.int .i64 (Nat.min m n),h')
  | _,_=>none
 | _,_,_=>none
abbrev cV:=FuncId→List Value→AH→Option (Value×AH)
def aBuiltin (P:Program) (b:Builtin) (ts:List TypeId) (args:List Value) (h:AH):Option (Value×AH):=
 match b,ts,args with
 | .append,[t,tx],[s,x]=>aAppend P t tx s x h
 | .copy,[t,_],[d,s]=>aCopy P t d s h
 | .len,t::_,x::_=>(aLen P t x).map (·,h)
 | .max,_,x::vs=>(aMax x vs).map (·,h)
 | .min,_,x::vs=>(jG x vs).map (·,h)
 | _,_,_=>none
def aOp (P:Program) (call:cV) (ev:Operand→Value) (op:Op) (h:AH):Option (Value×AH):=
 match op with
 | .move x | .assign x=>some (ev x,h)
 | .pick c a b=>match ev c with | .bool t=>some (if t then ev a else ev b,h) | _=>none
 | .alloc e=>(nP P e).map h.fresh
 | .box _ x=>(mU (ev x)).map h.fresh
 | .build t ps=>(aBuild P t (ps.toList.map fun p=>(p.1,ev p.2))).map (·,h)
 | .buildSlice t n ps=>(aBuildSlice P t n (ps.toList.map fun p=>(p.1,ev p.2))).map h.fresh
 | .load t a=>(aLoad P t (ev a) h).map (·,h)
 | .store t a x=>(iT P t (ev a) (ev x) h).map (undef,·)
 | .nilCheck x=>match ev x with
  | .pointer (some a)=>some (.pointer (some a),h)
  | .func (.func f) fi ca=>some (.func (.func f) fi ca,h)
  | _=>none
 | .binOp o t x y _=>(aBin P o t (ev x) (ev y)).map (·,h)
 | .unOp o _ x=>(aUn o (ev x)).map (·,h)
 | .convert s d x=>aConvert P s d (ev x) h
 | .makeInterface t x=>match P.underlying t with | some (.interface _)=>none | some _=>some (.iface t (ev x),h) | none=>none
 | .makeFunc (.func f) first captured=>some (.func (.func f) (first.map ev) (captured.map ev),h)
 | .makeSlice t l c=>(aMakeSlice P t (ev l) (ev c)).map h.fresh
 | .slice t x lo hi mx=>(aSlice P t (ev x) (lo.map ev) (hi.map ev) (mx.map ev)).map (·,h)
 | .fieldAddr s x f=>(aField P s f (ev x)).map (·,h)
 | .field t x f=>(aFieldV P t f (ev x)).map (·,h)
 | .indexAddr t x i=>(aIndexAddr P t (ev x) (ev i)).map (·,h)
 | .index t x i=>(aIndex P t (ev x) (ev i)).map (·,h)
 | .typeAssert x _ t ok=>(aAssert P (ev x) t ok).map (·,h)
 | .extract x i=>match ev x with | .tuple vs=>(vs[i]?).map (·,h) | _=>none
 | .call c=>match c.callee with
  | .builtin b=>aBuiltin P b c.argTypes.toList (c.args.toList.map ev) h
  | .value f=>match ev f with
   | .func (.func g) first captured=>call g (first.toList++c.args.toList.map ev++captured.toList) h
   | _=>none
  | .invoke _ _=>none
 | _=>none
def aYield (ops:Array Oper) (e:Env) (j:Nat):Option Bool:=
 match (ops[j]?).bind (·.dst) with
 | some d=>match e.get d with | .bool b=>some b | _=>none
 | none=>none
def ct (ops:Array Oper) (e:Env) (o:Oper):Bool:=
 match o.guard with
 | none=>true
 | some (j,want)=>aYield ops e j == some want
def aOps (P:Program) (call:cV) (ops:Array Oper):List Oper→Env→AH→Option (Env×AH)
 | [],e,h=>some (e,h)
 | o::os,e,h=>
  if ct ops e o then (aOp P call e.ev o.op h).bind fun r=>aOps P call ops os (e.put o.dst r.1) r.2
  else aOps P call ops os (e.put o.dst undef) h
inductive fD where
 | pure | look | fresh | make
 deriving DecidableEq
def cls (P:Program):Op→fD
 | .move _ | .assign _ | .pick .. | .build .. | .nilCheck _ | .binOp .. | .unOp .. | .makeInterface .. | .makeFunc .. | .slice .. | .fieldAddr .. | .field .. | .indexAddr .. | .index ..
 | .typeAssert .. | .extract .. => .pure
 | .load .. => .look
 | .alloc _ | .box .. | .buildSlice .. | .makeSlice .. => .fresh
 | .convert _ d _=>match P.underlying d with | some .string=> .look | some (.int _)=> .pure | _=> .make
 | .call c=>match c.callee with | .builtin .len | .builtin .max | .builtin .min=> .pure | _=> .make
 | _=> .make
def aLook (P:Program) (ev:Operand→Value) (op:Op) (h:AH):Option Value:=
 match op with
 | .load t a=>aLoad P t (ev a) h
 | .convert s d x=>(aConvert P s d (ev x) h).map (·.1)
 | _=>none
def rR {α:Type} (m:Nat) (f:Nat→α):α:=match m with
 | 0=>f 0
 | n+1=>f (n+1)
theorem rD {α:Type} (m:Nat) (f:Nat→α):rR m f=f m:=by cases m<;>rfl
def v3 (o:Oper) (n:Nat) (acc:List Nat):Nat:=
 o.after.toList.foldl (fun m e=>if Region.binds .any e then Nat.lor (Nat.lor m (Nat.shiftLeft 1 e.on)) (if Nat.blt e.on n then acc.getD (n - 1 - e.on) 0 else 0) else m) 0
def predsAux:List Oper→Nat→List Nat→List Nat
 | [],_,acc=>acc.reverse
 | o::os,n,acc=>rR (v3 o n acc) fun m=>rR (n+1) fun n=>predsAux os n (m::acc)
def dC (ops:List Oper):List Nat:=predsAux ops 0 []
def ordered (ps:List Nat) (i j:Nat):Bool:=(ps.getD i 0).testBit j || (ps.getD j 0).testBit i
def sameV:Value→Value→Bool
 | .bool a, .bool b=>a == b
 | .int k a, .int l b=>decide (k=l) && decide (a=b)
 | .string a, .string b=>decide (a.data.toList=b.data.toList)
 | .pointer a, .pointer b=>decide (a=b)
 | .slice a n c, .slice b m d=>decide (a=b) && decide (n=m) && decide (c=d)
 | .agg c7, .agg bs=>decide (c7.size=bs.size) && (c7.toList.zip bs.toList).all fun x=>match x.1,x.2 with
  | .bool a, .bool b=>a == b
  | .int k a, .int l b=>decide (k=l) && decide (a=b)
  | .string a, .string b=>decide (a.data.toList=b.data.toList)
  | .pointer a, .pointer b=>decide (a=b)
  | .slice a n c, .slice b m d=>decide (a=b) && decide (n=m) && decide (c=d)
  | _,_=>false
 | _,_=>false
structure gy where
 e:Env
 h:AH
 looks:List (Nat×Env×Value)
 ee:List (Nat×AH)
def aDrawOp (P:Program) (call:cV) (ops:List Oper) (base i:Nat) (o:Oper) (s:gy):Option gy:=
 match cls P o.op with
 | .pure=>(aOp P call s.e.ev o.op s.h).map fun r=>{s with e:=s.e.put o.dst r.1}
 | .look=>(aLook P s.e.ev o.op s.h).bind fun v=>
  if s.ee.all (fun x=>ordered (dC ops) i x.1 || (match aLook P s.e.ev o.op x.2 with | some u=>sameV v u | none=>false)) then
   some {s with e:=s.e.put o.dst v,looks:=(i,s.e,v)::s.looks}
  else none
 | .fresh=>(aFresh P s.e.ev o.op).map fun f=>{s with e:=s.e.put o.dst (f.1 (base+i)),h:={s.h with t:=s.h.t.set (base+i) (some ⟨f.2.1,true,f.2.2⟩)}}
 | .make=>(aOp P call s.e.ev o.op {s.h with low:=s.h.next}).bind fun r=>
  let h':AH:={r.2 with low:=if r.2.low<s.h.low then r.2.low else s.h.low}
  if s.h.next≤r.2.low then some {s with e:=s.e.put o.dst r.1,h:=h'}
  else if s.looks.all (fun x=>ordered (dC ops) i x.1 || (match aLook P x.2.1.ev ((ops.getD x.1 default).op) h' with | some u=>sameV x.2.2 u | none=>false)) then
   some {s with e:=s.e.put o.dst r.1,h:=h',ee:=(i,s.h)::s.ee}
  else none
def aDraw (P:Program) (call:cV) (ops:Array Oper) (base:Nat):Nat→List Oper→gy→Option gy
 | _,[],s=>some s
 | i,o::os,s=>
  if ct ops s.e o then (aDrawOp P call ops.toList base i o s).bind fun s'=>aDraw P call ops base (i+1) os s'
  else aDraw P call ops base (i+1) os {s with e:=s.e.put o.dst undef}
def fv (P:Program) (call:cV) (ops:Array Oper) (e:Env) (h:AH):Option (Env×AH):=
 (aDraw P call ops h.next 0 ops.toList ⟨e,{h with next:=h.next+ops.size},[],[]⟩).map fun s=>(s.e,s.h)
def qO (P:Program) (ops:List Oper):Bool:=
 let ms:=(List.range ops.length).filter fun j=>cls P (ops.getD j default).op= .make
 ms.all fun i=>ms.all fun j=>i == j || ordered (dC ops) i j
inductive dk where
 | normal | exit (id:Nat) | goto (l:Nat) | ret
abbrev ga:=Option (dk×Env×AH)
def aLoop (body:Env→AH→ga):Nat→Env→AH→ga
 | 0,_,_=>none
 | k+1,e,h=>match body e h with
  | some (.normal,e',h')=>aLoop body k e' h'
  | r=>r
def aJump (run:Code→Env→AH→ga) (c:Code):Nat→Code→Env→AH→ga
 | 0,_,_,_=>none
 | k+1,cur,e,h=>match run cur e h with
  | some (.goto l,e',h')=>match findLabel c l with
   | some rest=>aJump run c k rest e' h'
   | none=>some (.goto l,e',h')
  | r=>r
def aCode (P:Program) (call:cV):Nat→Code→Env→AH→ga
 | 0,_,_,_=>none
 | k+1,c,e,h=>
  match c with
  | .skip | .label _=>some (.normal,e,h)
  | .region _ ops false=>(aOps P call ops ops.toList e h).map fun r=>(.normal,r.1,r.2)
  | .region _ ops true=>(fv P call ops e h).map fun r=>(.normal,r.1,r.2)
  | .seq a b=>match aCode P call k a e h with
   | some (.normal,e',h')=>aCode P call k b e' h'
   | r=>r
  | .cond c a b=>match e.ev c with
   | .bool t=>aCode P call k (if t then a else b) e h
   | _=>none
  | .block id c=>match aCode P call k c e h with
   | some (.exit i,e',h')=>if i=id then some (.normal,e',h') else some (.exit i,e',h')
   | r=>r
  | .loop c=>aLoop (aCode P call k c) k e h
  | .scope c=>aJump (aCode P call k) c k c e h
  | .exit id=>some (.exit id,e,h)
  | .goto l=>some (.goto l,e,h)
  | .ret=>some (.ret,e,h)
  | _=>none
def aResult (P:Program) (e:Env) (h:AH):ResultVar→Option Value
 | .tmp t=>some (e.get t)
 | .cell a t=>aLoad P t (e.get a) h
def aResults (P:Program) (rs:List ResultVar) (e:Env) (h:AH):Option Value:=
 (rs.mapM (aResult P e h)).map fun vs=>match vs with | [v]=>v | vs=> .tuple vs.toArray
def ff (r:Bool) (h0:AH) (v:Value) (h1:AH):Value×AH:=
 if r=true∧h0.next≤h1.low∧clean v=true then (v,h0) else (v,{h1 with low:=if h1.low<h0.low then h1.low else h0.low})
def uI (P:Program) (t:TypeId):Bool:=match P.underlying t with
 | some .bool | some (.int _) | some .string=>true
 | _=>false
def gW (P:Program) (fn:Func):Bool:=Nat.beq fn.nfree 0 && fn.params.toList.all (uI P) && fn.resultTypes.toList.all (uI P)
def aCall (P:Program) (ov:cV):Nat→FuncId→List Value→AH→Option (Value×AH)
 | 0,f,args,h=>ov f args h
 | k+1,f,args,h=>
  match ov f args h with
  | some r=>some r
  | none=>
  (P.funcs[f]?).bind fun fn=>fn.body.bind fun c=>
  if args.length≤fn.ntmps then
   match aCode P (aCall P ov k) k c (Env.ofArgs 0 args .nil) {h with low:=h.next} with
   | some (.normal,e,h1) | some (.ret,e,h1)=>(aResults P fn.results.toList e h1).map fun v=>ff (gW P fn) h v h1
   | _=>none
  else none
end
section
open Go
structure Place where
  ae:Nat
  off:Nat
  sz:Nat
  ext:Nat
abbrev a4:=Nat→Option Place
class Marks where
  mark:Nat→Int
variable [Marks]
def AR (ρ:a4) (a a':Addr):Prop:=a.spot=none∧∃ p,ρ a.block=some p∧a'=⟨p.ae,p.off+a.off,none⟩
inductive VR (ρ:a4):Value→Value→Prop
  | bool (b:Bool):VR ρ (.bool b) (.bool b)
  | int (k:IntKind) (n:Int):VR ρ (.int k n) (.int k n)
  | float (k:FloatKind) (n:Nat):VR ρ (.float k n) (.int .i64 (Marks.mark n))
  | string (s:ByteArray):VR ρ (.string s) (.string s)
  | nilFunc:VR ρ .nilFunc .nilFunc
  | nilIface:VR ρ .nilIface .nilIface
  | nY:VR ρ (.pointer none) (.pointer none)
  | ptr {a a':Addr} (h:AR ρ a a'):VR ρ (.pointer (some a)) (.pointer (some a'))
  | gl {n c c':Nat} (h1:c=n→c'=n) (h2:n≤c'):VR ρ (.slice none n c) (.slice none n c')
  | sl {a a':Addr} {n c c':Nat} (h1:c=n→c'=n) (h2:n≤c') (j:0<n→AR ρ a a')
      (I:c=n+1→AR ρ a a'∧∃ p,ρ a.block=some p∧a.off+c' * p.sz≤p.ext):VR ρ (.slice (some a) n c) (.slice (some a') n c')
  | func (f:FuncId) {fi rp ca sA:Array Value} (h1:fi.size=rp.size) (h2:∀ (i:Nat) v v',fi[i]?=some v→rp[i]?=some v'→VR ρ v v')
      (j:ca.size=sA.size) (I:∀ (i:Nat) v v',ca[i]?=some v→sA[i]?=some v'→VR ρ v v'):VR ρ (.func (.func f) fi ca) (.func (.func f) rp sA)
  | iface (t:TypeId) {v v':Value} (h:VR ρ v v'):VR ρ (.iface t v) (.iface t v')
  | agg {cs a9:Array Value} (h1:cs.size=a9.size) (h2:∀ (i:Nat) v v',cs[i]?=some v→a9[i]?=some v'→VR ρ v v'):VR ρ (.agg cs) (.agg a9)
  | tuple {cs a9:Array Value} (h1:cs.size=a9.size) (h2:∀ (i:Nat) v v',cs[i]?=some v→a9[i]?=some v'→VR ρ v v'):VR ρ (.tuple cs) (.tuple a9)
def LR (ρ:a4) (l l':List Value):Prop:=l.length=l'.length∧∀ (i:Nat) v v',l[i]?=some v→l'[i]?=some v'→VR ρ v v'
def c3 (ρ ρ':a4):Prop:=∀ b p,ρ b=some p→ρ' b=some p
theorem c3.refl (ρ:a4):c3 ρ ρ:=fun _ _ h=>h
theorem c3.trans {a b c:a4} (h:c3 a b) (h':c3 b c):c3 a c:=fun _ _ q=>h' _ _ (h _ _ q)
theorem AR.mono {ρ ρ':a4} (hr:c3 ρ ρ') {a a':Addr} (h:AR ρ a a'):AR ρ' a a':=by
  obtain ⟨h1,p,h2,j⟩:=h
  exact ⟨h1,p,hr _ _ h2,j⟩
theorem VR.mono {ρ ρ':a4} (hr:c3 ρ ρ') {v v':Value} (h:VR ρ v v'):VR ρ' v v':=by
  induction h with
  | bool b=>exact .bool b
  | int k n=>exact .int k n
  | float k n=>exact .float k n
  | string s=>exact .string s
  | nilFunc=>exact .nilFunc
  | nilIface=>exact .nilIface
  | nY=>exact .nY
  | ptr h=>exact .ptr (h.mono hr)
  | gl h1 h2=>exact .gl h1 h2
  | sl h1 h2 j I=>exact .sl h1 h2 (fun h=>(j h).mono hr) (fun h=>by
      obtain ⟨J,p,U,aa⟩:=I h
      exact ⟨J.mono hr,p,hr _ _ U,aa⟩)
  | func f h1 _ j _ ab ad=>exact .func f h1 ab j ad
  | iface t _ ih=>exact .iface t ih
  | agg h1 _ ih=>exact .agg h1 ih
  | tuple h1 _ ih=>exact .tuple h1 ih
theorem LR.mono {ρ ρ':a4} (hr:c3 ρ ρ') {l l':List Value} (h:LR ρ l l'):LR ρ' l l':=⟨h.1,fun i v v' a b=>(h.2 i v v' a b).mono hr⟩
theorem LR.nil (ρ:a4):LR ρ [] []:=⟨rfl,fun i v v' h=>by simp at h⟩
theorem LR.cons {ρ:a4} {v v':Value} {l l':List Value} (h:VR ρ v v') (hl:LR ρ l l'):LR ρ (v::l) (v'::l'):=
  ⟨by simp [hl.1],fun i u u' a b=>by
    cases i with
    | zero=>simp at a b;subst a;subst b;exact h
    | succ i=>exact hl.2 i u u' (by simpa using a) (by simpa using b)⟩
theorem LR.head {ρ:a4} {v v':Value} {l l':List Value} (h:LR ρ (v::l) (v'::l')):VR ρ v v':=h.2 0 v v' (by simp) (by simp)
theorem LR.tail {ρ:a4} {v v':Value} {l l':List Value} (h:LR ρ (v::l) (v'::l')):LR ρ l l':=
  ⟨by have:=h.1;simpa using this,fun i u u' a b=>h.2 (i+1) u u' (by simpa using a) (by simpa using b)⟩
theorem LR.append {ρ:a4} {a a' b b':List Value} (h:LR ρ a a') (k:LR ρ b b'):LR ρ (a++b) (a'++b'):=by
  refine ⟨by simp [h.1,k.1],fun i v v' p q=>?_⟩
  by_cases hi:i<a.length
  · rw [List.getElem?_append_left hi] at p
    rw [List.getElem?_append_left (by rw [← h.1];exact hi)] at q
    exact h.2 i v v' p q
  · rw [List.getElem?_append_right (by omega)] at p
    rw [List.getElem?_append_right (by have:=h.1;omega)] at q
    rw [← h.1] at q
    exact k.2 _ v v' p q
theorem LR.take {ρ:a4} {a a':List Value} (h:LR ρ a a') (n:Nat):LR ρ (a.take n) (a'.take n):=by
  refine ⟨by simp [h.1],fun i v v' p q=>?_⟩
  rw [List.getElem?_take] at p q
  split at p
  · rename_i hi;rw [if_pos hi] at q;exact h.2 i v v' p q
  · cases p
theorem LR.drop {ρ:a4} {a a':List Value} (h:LR ρ a a') (n:Nat):LR ρ (a.drop n) (a'.drop n):=by
  refine ⟨by simp [h.1],fun i v v' p q=>?_⟩
  rw [List.getElem?_drop] at p q
  exact h.2 _ v v' p q
theorem LR.get {ρ:a4} {a a':List Value} (h:LR ρ a a') {i:Nat} {v:Value} (hv:a[i]?=some v):∃ v',a'[i]?=some v'∧VR ρ v v':=by
  have hi:i<a'.length:=by rw [← h.1];exact (List.getElem?_eq_some_iff.1 hv).1
  exact ⟨a'[i],aX hi,h.2 i v _ hv (aX hi)⟩
theorem LR.jB {ρ:a4} {cs a9:Array Value} (h1:cs.size=a9.size) (h2:∀ (i:Nat) v v',cs[i]?=some v→a9[i]?=some v'→VR ρ v v'):LR ρ cs.toList a9.toList:=
  ⟨by simpa using h1,fun i v v' a b=>h2 i v v' (by simpa using a) (by simpa using b)⟩
theorem LR.oG {ρ:a4} {l l':List Value} (h:LR ρ l l'):VR ρ (.agg l.toArray) (.agg l'.toArray):= .agg (by simpa using h.1) (fun i v v' a b=>h.2 i v v' (by simpa using a) (by simpa using b))
theorem LR.qN {ρ:a4} {l l':List Value} (h:LR ρ l l'):VR ρ (.tuple l.toArray) (.tuple l'.toArray):= .tuple (by simpa using h.1) (fun i v v' a b=>h.2 i v v' (by simpa using a) (by simpa using b))
theorem VR.undef (ρ:a4):VR ρ undef undef:= .tuple rfl (fun i v v' h=>by simp at h)
theorem wy (ρ:a4) {v:Value} (h:oneClean v=true):VR ρ v v:=by
  cases v<;>simp [oneClean] at h<;>try constructor
  case pointer a=>cases a<;>simp at h;exact .nY
  case slice a n c=>
    cases a with
    | none=>exact .gl (fun e=>e) (by simpa using h)
    | some a=>simp at h
theorem p9 (ρ:a4) {l:List Value} (h:∀ v∈l,VR ρ v v):LR ρ l l:=
  ⟨rfl,fun i v v' a b=>by rw [a] at b;cases b;exact h v (au a)⟩
theorem ru (ρ:a4) {v:Value} (h:clean1 v=true):VR ρ v v:=by
  cases v
  case agg cs=>
    simp only [clean1,List.all_eq_true] at h
    have:=LR.oG (p9 ρ fun v hv=>wy ρ (h v hv))
    simpa using this
  all_goals exact wy ρ h
theorem l1 (ρ:a4) {v:Value} (h:clean v=true):VR ρ v v:=by
  cases v
  case tuple cs=>
    simp only [clean,List.all_eq_true] at h
    have:=LR.qN (p9 ρ fun v hv=>ru ρ (h v hv))
    simpa using this
  case iface t v=>exact .iface t (ru ρ h)
  case func fn fi ca=>
    cases fn<;>simp [clean,clean1,oneClean] at h
    obtain ⟨h1,h2⟩:=h
    subst h1;subst h2
    exact .func _ rfl (fun i v v' h=>by simp at h) rfl (fun i v v' h=>by simp at h)
  all_goals exact ru ρ h
theorem VR.qB {ρ:a4} {v v':Value} (h:VR ρ v v'):v'.oneCell'=v.oneCell':=by cases h<;>rfl
theorem VR.cells {ρ:a4} {v v':Value} (h:VR ρ v v'):LR ρ v.cells.toList v'.cells.toList:=by
  cases h<;>first
    | (rename_i h1 h2;exact LR.jB h1 h2)
    | (simp only [Value.cells];exact LR.cons (by constructor<;>assumption) (LR.nil _))
section
variable {P:Program}
theorem cJ {t:TypeId} {d:TypeDesc} (h:P.underlying t=some d) (w:World):(underlying t).run P w= .ok d w:=by simp [underlying,h]
theorem CJ {t:TypeId} {s:Nat} (h:b6 P t=some s):∃ i,P.info? t=some i∧i.size=s:=by
  unfold b6 at h
  cases hi:P.info? t with
  | none=>rw [hi] at h;cases h
  | some i=>rw [hi] at h;exact ⟨i,rfl,by simpa using h⟩
theorem fk {t:TypeId} {s:Nat} (h:b6 P t=some s) (w:World):(sizeOf t).run P w= .ok s w:=by
  obtain ⟨i,hi,rfl⟩:=CJ h
  simp [sizeOf,typeInfo,hi]
theorem kr {t:TypeId} {z:Value} (h:ec P t=some z) (w:World):(zeroValue t).run P w= .ok z w:=by
  unfold ec at h
  cases hi:P.info? t with
  | none=>rw [hi] at h;cases h
  | some i=>rw [hi] at h;simp at h;simp [zeroValue,typeInfo,hi,h]
theorem pQ {t:TypeId} {d:TypeDesc} (h:P.underlying t=some d) (w:World):(isAgg t).run P w= .ok (lH d) w:=by
  simp only [isAgg,Sem.run_bind,cJ h,Result.andThen_ok]
  cases d<;>rfl
theorem pz {ρ:a4} {a a':Addr} (h:AR ρ a a') (n:Nat):AR ρ (a.add n) (a'.add n):=by
  obtain ⟨h1,p,h2,rfl⟩:=h
  unfold Addr.add
  by_cases hn:n=0
  · simp only [hn,if_true];exact ⟨h1,p,h2,rfl⟩
  · simp only [hn,if_false];exact ⟨rfl,p,h2,by simp [Nat.add_assoc]⟩
theorem pL {ρ:a4} {t:TypeId} {cs a9:Array Value} {off:Nat} {v:Value} (h:gX P t cs off=some v) (hl:LR ρ cs.toList a9.toList):
    ∃ v',VR ρ v v'∧∀ w,(part t a9 off).run P w= .ok v' w:=by
  unfold gX at h
  cases hd:P.underlying t with
  | none=>rw [hd] at h;cases h
  | some d=>
    rw [hd] at h
    simp only [ax] at h
    by_cases ha:lH d=true
    · rw [if_pos ha] at h
      cases hs:b6 P t with
      | none=>rw [hs] at h;cases h
      | some s=>
        rw [hs] at h
        simp at h
        subst h
        refine ⟨.agg (a9.extract off (off+s)),?_,fun w=>?_⟩
        · have he:∀ c:Array Value,c.extract off (off+s)=((c.toList.drop off).take s).toArray:=fun c=>by apply Array.ext';simp
          rw [he,he]
          exact LR.oG ((hl.drop off).take s)
        · simp [part,pQ hd,ha,fk hs]
    · rw [if_neg ha] at h
      obtain ⟨v',r4,hr⟩:=hl.get (show cs.toList[off]?=some v by simpa using h)
      refine ⟨v',hr,fun w=>?_⟩
      have xy:a9[off]?=some v':=by simpa using r4
      simp [part,pQ hd,ha,xy]
theorem forIn_eq (D:Nat) (px p4:Array Value) (eqs:TypeId→Value→Value→Option Bool)
    (heq:∀ t x y b,eqs t x y=some b→∀ {ρ:a4} {x' y':Value},VR ρ x x'→VR ρ y y'→∀ w,(Op.equalIn D t x' y').run P w= .ok b w)
    {ρ:a4} {xs ys:Array Value} (hx:LR ρ xs.toList px.toList) (hy:LR ρ ys.toList p4.toList):
    ∀ (fs:List Field) (b:Bool),aEqFields P eqs fs xs ys=some b→∀ w,
      (do for f in fs do
            if f.name≠ "_" then
              if !(← Op.equalIn D f.type (← part f.type px f.offset) (← part f.type p4 f.offset)) then return false
          pure true:Sem Bool).run P w= .ok b w:=by
  intro fs
  induction fs with
  | nil=>intro b h w;simp [aEqFields] at h;subst h;simp
  | cons f fs ih=>
    intro b h w
    simp only [aEqFields] at h
    by_cases hn:f.name≠ "_"
    · rw [if_pos hn] at h
      cases ha:gX P f.type xs f.offset with
      | none=>rw [ha] at h;cases h
      | some a=>
        cases hb:gX P f.type ys f.offset with
        | none=>rw [ha,hb] at h;cases h
        | some c=>
          rw [ha,hb] at h
          simp only at h
          obtain ⟨a',ra,uz⟩:=pL ha hx
          obtain ⟨c',rc,eg⟩:=pL hb hy
          cases he:eqs f.type a c with
          | none=>rw [he] at h;cases h
          | some e=>
            rw [he] at h
            have hJ:=heq _ _ _ _ he ra rc w
            cases e with
            | true=>
              have:=ih b h w
              simp only [List.forIn_cons,Sem.run_bind,hn,ne_eq,not_false_eq_true,if_true,uz,eg,Result.andThen_ok,hJ,Sem.run_pure] at this ⊢
              simpa using this
            | false=>
              simp only at h
              cases h
              simp only [List.forIn_cons,Sem.run_bind,hn,ne_eq,not_false_eq_true,if_true,uz,eg,Result.andThen_ok,hJ,Sem.run_pure]
              simp
    · rw [if_neg hn] at h
      have:=ih b h w
      simp only [List.forIn_cons,Sem.run_bind,hn,ne_eq,if_false,Sem.run_pure,Result.andThen_ok] at this ⊢
      simpa using this
theorem Db:∀ (d:Nat) (t:TypeId) (x y:Value) (b:Bool),aEq P d t x y=some b→∀ (D:Nat),d≤D→∀ {ρ:a4} {x' y':Value},VR ρ x x'→VR ρ y y'→∀ w,(Op.equalIn D t x' y').run P w= .ok b w:=by
  intro d
  induction d with
  | zero=>intro t x y b h;simp [aEq] at h
  | succ d ih=>
    intro t x y b h D hD ρ x' y' hx hy w
    obtain ⟨D,rfl⟩:∃ m,D=m+1:=⟨D - 1,by omega⟩
    cases hu:P.underlying t with
    | none=>simp [aEq,hu] at h
    | some u=>
      cases u<;>simp only [aEq,hu] at h<;>try (exact absurd h (by simp;done))
      case bool=>cases hx<;>first | (simp at h;done) | (cases hy<;>first | (simp at h;done) | (simp at h;simp [Op.equalIn,cJ hu,h]))
      case int k=>cases hx<;>first | (simp at h;done) | (cases hy<;>first | (simp at h;done) | (simp at h;simp [Op.equalIn,cJ hu,h]))
      case string=>cases hx<;>first | (simp at h;done) | (cases hy<;>first | (simp at h;done) | (simp at h;simp [Op.equalIn,cJ hu,h]))
      case pointer e=>cases hx<;>first | (simp at h;done) | (cases hy<;>first | (simp at h;done) | (simp at h;simp [Op.equalIn,cJ hu,h]))
      case interface ms=>cases hx<;>first | (simp at h;done) | (cases hy<;>first | (simp at h;done) | (simp at h;simp [Op.equalIn,cJ hu,h]))
      case slice e=>cases hx<;>first | (simp at h;done) | (cases hy<;>first | (simp at h;done) | (simp at h;simp [Op.equalIn,cJ hu,h]))
      case func a1 ab ad=>cases hx<;>first | (simp at h;done) | (cases hy<;>first | (simp at h;done) | (simp at h;simp [Op.equalIn,cJ hu,h]))
      case struct fields=>
        cases hx<;>first | (simp at h;done) | skip
        cases hy<;>first | (simp at h;done) | skip
        rename_i xs px j I ys p4 J U
        simp only at h
        split at h
        · rename_i bp
          have:=forIn_eq (P:=P) D px p4 (aEq P d) (fun t x y b he {ρ} {x'} {y'} r1 aa w=>ih t x y b he D (by omega) r1 aa w) (LR.jB j I) (LR.jB J U) fields.toList b h w
          simp only [Op.equalIn,Sem.run_bind,cJ hu,Result.andThen_ok,run_program,bp,Bool.false_eq_true,if_false]
          simpa using this
        · cases h
theorem Aj (op:BinOp) {a b:ByteArray} {v:Value} (h:aStr op a b=some v) (w:World):(Op.stringOp op a b).run P w= .ok v w:=by
  cases op<;>simp [aStr] at h
  case add=>obtain ⟨h1,rfl⟩:=h;simp [Op.stringOp,h1]
  case eql=>subst h;simp [Op.stringOp]
  case neq=>subst h;simp [Op.stringOp]
theorem z4 {op:BinOp} {a b:ByteArray} {v:Value} (h:aStr op a b=some v) (ρ:a4):VR ρ v v:=by
  cases op<;>simp [aStr] at h
  case add=>obtain ⟨h1,rfl⟩:=h;exact .string _
  case eql=>subst h;exact .bool _
  case neq=>subst h;exact .bool _
theorem Gk (t:TypeId) (op:BinOp) (k:IntKind) {a b:Int} {v:Value} (h:aInt op k a b=some v) (w:World):(binOp op t (.int k a) (.int k b)).run P w= .ok v w:=by
  cases op<;>simp [aInt] at h
  all_goals first
    | (subst h;simp [binOp,Op.intArith,Op.intCmp,Op.intBits];done)
    | (obtain ⟨h1,rfl⟩:=h;simp [binOp,Op.intDiv,h1])
theorem x9 {op:BinOp} {k:IntKind} {a b:Int} {v:Value} (h:aInt op k a b=some v) (ρ:a4):VR ρ v v:=by
  cases op<;>simp [aInt] at h
  all_goals first
    | (subst h;first | exact .int _ _ | exact .bool _)
    | (obtain ⟨h1,rfl⟩:=h;first | exact .int _ _ | exact .bool _)
def jT (op:BinOp) (t:TypeId) (xo yo:Operand) (x y:Value):Sem Value:=do eqGuard op t xo yo x y;binOp op t x y
theorem uw {t:TypeId} {x y:Value} {b:Bool} (h:aEqTop P t x y=some b) {ρ:a4} {x' y':Value} (hx:VR ρ x x') (hy:VR ρ y y') (op:BinOp) (ay:op= .eql∨op= .neq) (xo yo:Operand) (w:World):
    (eqGuard op t xo yo x' y').run P w= .ok () w∧(Op.equal t x' y').run P w= .ok b w:=by
  have gS:∀ cs ds,x'= .agg cs→y'= .agg ds→P.eqGuardType P.depth t=false:=by
    intro cs ds hc hd
    subst hc;subst hd
    cases hx;cases hy
    simp only [aEqTop] at h
    split at h
    · assumption
    · cases h
  have FM:¬ (x'= .nilIface∧y'= .nilIface):=by
    rintro ⟨rfl,rfl⟩
    cases hx;cases hy
    simp [aEqTop] at h
  have he:aEq P lS t x y=some b:=by
    unfold aEqTop at h
    split at h
    · cases h
    · split at h
      · exact h
      · cases h
    · exact h
  refine ⟨?_,Db _ _ _ _ _ he _ (by decide) hx hy w⟩
  have cp:(!(match op with | .eql | .neq=>true | _=>false))=false:=by rcases ay with rfl | rfl<;>rfl
  unfold eqGuard
  rcases ay with rfl | rfl
  all_goals
    simp only [Bool.not_true,Bool.false_eq_true,if_false]
    split
    · exact absurd ⟨rfl,rfl⟩ FM
    · rename_i cs ds
      have:=gS cs ds rfl rfl
      simp [this]
    · rfl
theorem vy (d:Nat) (t:TypeId) (k:FloatKind) (a:Nat) (y:Value):aEq P d t (.float k a) y=none:=by
  cases d with
  | zero=>rfl
  | succ d=>simp only [aEq];cases P.underlying t with
    | none=>rfl
    | some u=>cases u<;>rfl
theorem uJ (d:Nat) (t:TypeId) (k:FloatKind) (a:Nat) (x:Value):aEq P d t x (.float k a)=none:=by
  cases d with
  | zero=>rfl
  | succ d=>simp only [aEq];cases P.underlying t with
    | none=>rfl
    | some u=>cases u<;>cases x<;>first | rfl | (rename_i o;cases o<;>rfl) | (rename_i o _ _;cases o<;>rfl)
theorem Gg {op:BinOp} {t:TypeId} {x y v:Value} (h:aBin P op t x y=some v):(∀ k n,x≠ .float k n)∧∀ k n,y≠ .float k n:=by
  refine ⟨fun k n e=>?_,fun k n e=>?_⟩
  · subst e
    have:aEqTop P t (.float k n) y=none:=by simp only [aEqTop,vy]
    simp only [aBin,this] at h
    cases op<;>simp at h
  · subst e
    have:aEqTop P t x (.float k n)=none:=by simp only [aEqTop,uJ]
    simp only [aBin,this] at h
    cases op<;>simp at h
theorem tY {t:TypeId} {x y:Value} {b:Bool} (h:aEqTop P t x y=some b) {ρ:a4} {x' y':Value} (hx:VR ρ x x') (hy:VR ρ y y') (h1:¬ ∃ k a k' b,x'= .int k a∧y'= .int k' b) (h2:¬ ∃ a b,x'= .string a∧y'= .string b):
    binOp .eql t x' y'=(do pure (.bool (← Op.equal t x' y')))∧binOp .neq t x' y'=(do pure (.bool (!(← Op.equal t x' y')))):=by
  cases hx<;>cases hy<;>first
    | exact ⟨rfl,rfl⟩
    | exact absurd ⟨_,_,_,_,rfl,rfl⟩ h1
    | exact absurd ⟨_,_,rfl,rfl⟩ h2
    | (exfalso;simp only [aEqTop,vy,uJ] at h;cases h)
theorem zh {op:BinOp} {t:TypeId} {x y v:Value} (h:aBin P op t x y=some v) {ρ:a4} {x' y':Value} (hx:VR ρ x x') (hy:VR ρ y y') (xo yo:Operand):
    VR ρ v v∧∀ w,(jT op t xo yo x' y').run P w= .ok v w:=by
  obtain ⟨aa,ab⟩:=Gg h
  by_cases hint:∃ k a k' b,x= .int k a∧y= .int k' b
  · obtain ⟨k,a,k',b,rfl,rfl⟩:=hint
    cases hx;cases hy
    have hg:∀ w,(eqGuard op t xo yo (.int k a) (.int k' b)).run P w= .ok () w:=by
      intro w;unfold eqGuard;split<;>simp
    simp only [aBin] at h
    split at h
    · split at h
      · cases h
      · rename_i hb;simp at h;subst h
        exact ⟨.int _ _,fun w=>by simp [jT,hg,binOp,Op.shift,hb]⟩
    · split at h
      · cases h
      · rename_i hb;simp at h;subst h
        exact ⟨.int _ _,fun w=>by simp [jT,hg,binOp,Op.shift,hb]⟩
    · split at h
      · rename_i hk;subst hk
        exact ⟨x9 h ρ,fun w=>by simp [jT,hg,Gk t op k h w]⟩
      · cases h
  by_cases s3:∃ a b,x= .string a∧y= .string b
  · obtain ⟨a,b,rfl,rfl⟩:=s3
    cases hx;cases hy
    have hg:∀ w,(eqGuard op t xo yo (.string a) (.string b)).run P w= .ok () w:=by
      intro w;unfold eqGuard;split<;>simp
    simp only [aBin] at h
    refine ⟨z4 h ρ,fun w=>?_⟩
    have:=Aj (P:=P) op h w
    cases op<;>simp [aStr] at h<;>simp [jT,hg,binOp,this]
  have J:¬ ∃ k a k' b,x'= .int k a∧y'= .int k' b:=by
    rintro ⟨k,a,k',b,rfl,rfl⟩
    cases hx with
    | float=>exact aa _ _ rfl
    | int=>
      cases hy with
      | float=>exact ab _ _ rfl
      | int=>exact hint ⟨_,_,_,_,rfl,rfl⟩
  have U:¬ ∃ a b,x'= .string a∧y'= .string b:=by
    rintro ⟨a,b,rfl,rfl⟩;cases hx;cases hy;exact s3 ⟨_,_,rfl,rfl⟩
  unfold aBin at h
  split at h
  · exact absurd ⟨_,_,_,_,rfl,rfl⟩ hint
  · exact absurd ⟨_,_,rfl,rfl⟩ s3
  · split at h
    · cases hb:aEqTop P t x y with
      | none=>rw [hb] at h;cases h
      | some b=>
        rw [hb] at h;simp at h;subst h
        refine ⟨.bool _,fun w=>?_⟩
        obtain ⟨j,I⟩:=uw hb hx hy .eql (.inl rfl) xo yo w
        simp [jT,j,(tY hb hx hy J U).1,I]
    · cases hb:aEqTop P t x y with
      | none=>rw [hb] at h;cases h
      | some b=>
        rw [hb] at h;simp at h;subst h
        refine ⟨.bool _,fun w=>?_⟩
        obtain ⟨j,I⟩:=uw hb hx hy .neq (.inr rfl) xo yo w
        simp [jT,j,(tY hb hx hy J U).2,I]
    · cases h
end
end
section
open Go
variable [Marks]
section
variable {P:Program} {ρ:a4}
theorem xZ {op:UnOp} {x v x':Value} (h:aUn op x=some v) (hx:VR ρ x x'):∃ v',VR ρ v v'∧∀ w,(Op.unary op x').run P w= .ok v' w:=by
 cases hx<;>cases op<;>simp [aUn] at h
 all_goals (subst h;first | exact ⟨_, .int _ _,fun w=>by simp [Op.unary,Op.intArith]⟩ | exact ⟨_, .bool _,fun w=>by simp [Op.unary]⟩)
theorem Cr {s:TypeId} {f:Nat} {x v x':Value} (h:aField P s f x=some v) (hx:VR ρ x x'):∃ v',VR ρ v v'∧∀ w,(Instr.fieldAt s x' f).run P w= .ok v' w:=by
 unfold aField at h
 split at h
 ·rename_i fields a hu
  cases hx
  rename_i a' ha
  cases hf:fields[f]? with
  | none=>rw [hf] at h;cases h
  | some fd=>
   rw [hf] at h
   simp only [ax] at h
   cases hs:b6 P fd.type with
   | none=>rw [hs] at h;cases h
   | some z=>
    rw [hs] at h
    simp only [ax] at h
    split at h
    ·cases h
    ·rename_i hz
     simp at h;subst h
     refine ⟨_, .ptr (pz ha fd.offset),fun w=>?_⟩
     have j:z≠0:=fun e=>hz (.inl e)
     simp [Instr.fieldAt,cJ hu,hf,Instr.sureAddr,fieldPlace,fk hs,j]
 ·cases h
theorem zJ {t:TypeId} {x ix v x' na:Value} (h:aIndexAddr P t x ix=some v) (hx:VR ρ x x') (hi:VR ρ ix na):∃ v',VR ρ v v'∧∀ w,(Instr.indexAt t x' na).run P w= .ok v' w:=by
 unfold aIndexAddr at h
 split at h
 ·rename_i e a n c k i hu
  cases hi
  have oK:∃ a' c',x'= .slice (some a') n c'∧(0<n→AR ρ a a'):=by
   cases hx with
   | sl h1 h2 j I=>exact ⟨_,_,rfl,j⟩
  obtain ⟨a',c',rfl,j⟩:=oK
  cases hs:b6 P e with
  | none=>rw [hs] at h;cases h
  | some s=>
   rw [hs] at h
   simp only [ax] at h
   split at h
   ·rename_i hc
    simp at h;subst h
    refine ⟨_, .ptr (pz (j (by omega)) (i.toNat * s)),fun w=>?_⟩
    simp [Instr.indexAt,asIntOf,cJ hu,hc.1,hc.2.1,fk hs]
   ·cases h
 ·rename_i n e a k i hu
  cases hi
  cases hx
  rename_i a' ha
  cases hs:b6 P e with
  | none=>rw [hs] at h;cases h
  | some s=>
   rw [hs] at h
   simp only [ax] at h
   split at h
   ·rename_i hc
    simp at h;subst h
    refine ⟨_, .ptr (pz ha (i.toNat * s)),fun w=>?_⟩
    simp [Instr.indexAt,asIntOf,cJ hu,hc.1,hc.2.1,fk hs,Instr.sureAddr]
   ·cases h
 ·cases h
theorem BV {t:TypeId} {x ix v x' na:Value} (h:aIndex P t x ix=some v) (hx:VR ρ x x') (hi:VR ρ ix na):∃ v',VR ρ v v'∧∀ w,(Instr.index t x' na).run P w= .ok v' w:=by
 unfold aIndex at h
 split at h
 ·rename_i s k i hu
  cases hi;cases hx
  split at h
  ·rename_i h0
   cases hb:s[i.toNat]? with
   | none=>rw [hb] at h;cases h
   | some b=>
    rw [hb] at h;simp at h;subst h
    exact ⟨_, .int _ _,fun w=>by simp [Instr.index,asIntOf,cJ hu,h0,hb]⟩
  ·cases h
 ·rename_i n e cs k i hu
  cases hi;cases hx
  rename_i a9 j I
  cases hs:b6 P e with
  | none=>rw [hs] at h;cases h
  | some s=>
   rw [hs] at h
   simp only [ax] at h
   split at h
   ·rename_i hc
    obtain ⟨v',hv,hr⟩:=pL h (LR.jB j I)
    exact ⟨v',hv,fun w=>by simp [Instr.index,asIntOf,cJ hu,hc.1,hc.2,fk hs,hr]⟩
   ·cases h
 ·cases h
theorem zt {t:TypeId} {f:Nat} {x v x':Value} (h:aFieldV P t f x=some v) (hx:VR ρ x x'):∃ v',VR ρ v v'∧∀ w,(Instr.field t x' f).run P w= .ok v' w:=by
 unfold aFieldV at h
 split at h
 ·rename_i fields cs hu
  cases hx
  rename_i a9 j I
  cases hf:fields[f]? with
  | none=>rw [hf] at h;cases h
  | some fd=>
   rw [hf] at h
   simp only [ax] at h
   obtain ⟨v',hv,hr⟩:=pL h (LR.jB j I)
   exact ⟨v',hv,fun w=>by simp [Instr.field,cJ hu,hf,asAgg,hr]⟩
 ·cases h
theorem z2 {t ty:TypeId} {ts:Array TypeId} {x v x':Value} {args:Array Value} (h:aLen P t x=some v) (hx:VR ρ x x') (ht:ts[0]?=some t) (ha:args[0]?=some x'):VR ρ v v∧∀ w,(Builtin.len_ ts ty args).run P w= .ok v w:=by
 unfold aLen at h
 split at h
 ·rename_i s hu;cases hx;simp at h;subst h
  exact ⟨.int _ _,fun w=>by simp [Builtin.len_,ht,ha,cJ hu,goInt]⟩
 ·rename_i e a n c hu
  simp at h;subst h
  cases hx<;>exact ⟨.int _ _,fun w=>by simp [Builtin.len_,ht,ha,cJ hu,goInt]⟩
 ·rename_i n e hu
  simp at h;subst h
  exact ⟨.int _ _,fun w=>by simp [Builtin.len_,ht,ha,cJ hu,goInt]⟩
 ·cases h
theorem LR.cons_inv {v:Value} {vs l':List Value} (h:LR ρ (v::vs) l'):∃ v' c8,l'=v'::c8∧VR ρ v v'∧LR ρ vs c8:=by
 cases l' with
 | nil=>have:=h.1;simp at this
 | cons v' c8=>exact ⟨v',c8,rfl,h.head,h.tail⟩
theorem LR.lW {l':List Value} (h:LR ρ [] l'):l'=[]:=by
 cases l' with
 | nil=>rfl
 | cons v' c8=>have:=h.1;simp at this
theorem Df:∀ (vs c8:List Value) (x v:Value),aMax x vs=some v→LR ρ vs c8→∀ w,(c8.foldlM Builtin.max2 x).run P w= .ok v w∧VR ρ v v:=by
 intro vs
 induction vs with
 | nil=>
  intro c8 x v h hl w
  obtain rfl:=hl.lW
  cases x<;>simp [aMax] at h
  subst h
  exact ⟨by simp, .int _ _⟩
 | cons y vs ih=>
  intro c8 x v h hl w
  obtain ⟨y',c8,rfl,hy,je⟩:=hl.cons_inv
  cases x<;>cases hy<;>simp only [aMax] at h<;>first | (cases h;done) | skip
  rename_i k x k' y
  split at h
  ·rename_i hk;subst hk
   have:=ih c8 _ v h je w
   simpa [List.foldlM_cons,Builtin.max2] using this
  ·cases h
theorem Bo:∀ (vs c8:List Value) (x v:Value),jG x vs=some v→LR ρ vs c8→∀ w,(c8.foldlM Builtin.min2 x).run P w= .ok v w∧VR ρ v v:=by
 intro vs
 induction vs with
 | nil=>
  intro c8 x v h hl w
  obtain rfl:=hl.lW
  cases x<;>simp [jG] at h
  subst h
  exact ⟨by simp, .int _ _⟩
 | cons y vs ih=>
  intro c8 x v h hl w
  obtain ⟨y',c8,rfl,hy,je⟩:=hl.cons_inv
  cases x<;>cases hy<;>simp only [jG] at h<;>first | (cases h;done) | skip
  rename_i k x k' y
  split at h
  ·rename_i hk;subst hk
   have:=ih c8 _ v h je w
   simpa [List.foldlM_cons,Builtin.min2] using this
  ·cases h
theorem D8 {x v x':Value} {xt asserted:TypeId} {ok:Bool} (h:aAssert P x asserted ok=some v) (hx:VR ρ x x'):∃ v',VR ρ v v'∧∀ w,(Instr.typeAssert x' xt asserted ok).run P w= .ok v' w:=by
 have zr:∀ z,ec P asserted=some z→clean z=true→VR ρ (.tuple #[z, .bool false]) (.tuple #[z, .bool false]):=fun z _ hz=>
  LR.qN (LR.cons (l1 ρ hz) (LR.cons (.bool _) (LR.nil _)))
 unfold aAssert at h
 split at h
 ·cases h
 ·rename_i d gO hu
  cases hx
  cases ok with
  | false=>simp at h
  | true=>
   simp only [if_true] at h
   cases hz:ec P asserted with
   | none=>rw [hz] at h;cases h
   | some z=>
    rw [hz] at h
    simp only [ax] at h
    split at h
    ·rename_i hc;simp at h;subst h
     refine ⟨_,zr z hz hc,fun w=>?_⟩
     cases d<;>simp [Instr.typeAssert,cJ hu,kr hz] at gO ⊢
    ·cases h
 ·rename_i d t u gO hu
  cases hx
  rename_i u' hr
  split at h
  ·rename_i ht
   simp at h;subst h
   cases ok with
   | false=>exact ⟨u',hr,fun w=>by cases d<;>simp [Instr.typeAssert,cJ hu,ht] at gO ⊢⟩
   | true=>exact ⟨.tuple #[u', .bool true],LR.qN (LR.cons hr (LR.cons (.bool _) (LR.nil _))),fun w=>by cases d<;>simp [Instr.typeAssert,cJ hu,ht] at gO ⊢⟩
  ·rename_i ht
   cases ok with
   | false=>simp at h
   | true=>
    simp only [if_true] at h
    cases hz:ec P asserted with
    | none=>rw [hz] at h;cases h
    | some z=>
     rw [hz] at h
     simp only [ax] at h
     split at h
     ·rename_i hc;simp at h;subst h
      refine ⟨_,zr z hz hc,fun w=>?_⟩
      cases d<;>simp [Instr.typeAssert,cJ hu,kr hz,ht] at gO ⊢
     ·cases h
 ·cases h
end
end
section
open Go
variable [Marks]
section
variable {P:Program} {ρ:a4}
inductive OR (ρ:a4):Option Value→Option Value→Prop
 | no:OR ρ none none
 | so {v v':Value} (h:VR ρ v v'):OR ρ (some v) (some v')
theorem OR.map {ev dV:Operand→Value} (x:Option Operand) (h:∀ o,x=some o→VR ρ (ev o) (dV o)):OR ρ (x.map ev) (x.map dV):=by
 cases x with
 | none=>exact .no
 | some o=>exact .so (h o rfl)
theorem pA {y i:Nat} {v v':Value} (h:aBnd y v=some i) (hv:VR ρ v v'):i≤y∧∀ (y':Nat) (code:BoundsCode) (w:World),y≤y'→(Instr.sliceBound v' y' code).run P w= .ok i w:=by
 cases hv<;>simp [aBnd] at h
 rename_i k n
 obtain ⟨⟨h0,h1⟩,rfl⟩:=h
 refine ⟨by omega,fun y' code w hy=>?_⟩
 have h2:n≤(y':Int):=by omega
 simp [Instr.sliceBound,asIntOf,h0,h2]
theorem sL {h l h2:Nat} {m j:Option Nat} {lo il:Option Value} (hb:aLow h m lo=some (l,h2,j)) (hl:OR ρ lo il):
  h2=h∧j=m∧l≤h∧((il=none∧l=0)∨∃ v,il=some v∧∀ (code:BoundsCode) (w:World),(Instr.sliceBound v h code).run P w= .ok l w):=by
 cases hl with
 | no=>simp [aLow] at hb;obtain ⟨rfl,rfl,rfl⟩:=hb;exact ⟨rfl,rfl,by omega, .inl ⟨rfl,rfl⟩⟩
 | so hv=>
  simp only [aLow] at hb
  rename_i v v'
  cases hx:aBnd h v with
  | none=>rw [hx] at hb;cases hb
  | some i=>
   rw [hx] at hb;simp at hb
   obtain ⟨rfl,rfl,rfl⟩:=hb
   obtain ⟨I,J⟩:=pA (P:=P) hx hv
   exact ⟨rfl,rfl,I, .inr ⟨_,rfl,fun code w=>J _ code w (Nat.le_refl _)⟩⟩
theorem ua {n c':Nat} {lo hi mx il e7 mj:Option Value} {l h:Nat} {m:Option Nat} (hb:aBounds n lo hi mx=some (l,h,m)) (hl:OR ρ lo il) (hh:OR ρ hi e7) (hm:OR ρ mx mj) (hc:n≤c') (isSlice:Bool):
  (∀ w,(Instr.sliceBounds isSlice n c' il e7 mj).run P w= .ok (l,h,m.getD c') w)∧l≤h∧h≤m.getD n∧m.getD n≤n:=by
 cases hm with
 | no=>
  cases hh with
  | no=>
   obtain ⟨rfl,rfl,I,j⟩:=sL (P:=P) (show aLow n none lo=some (l,h,m) from hb) hl
   exact ⟨fun w=>by rcases j with ⟨rfl,rfl⟩ | ⟨u,rfl,j⟩<;>simp [Instr.sliceBounds, *],I,by simp,by simp⟩
  | so hv=>
   rename_i v v'
   simp only [aBounds] at hb
   cases hx:aBnd n v with
   | none=>rw [hx] at hb;cases hb
   | some i=>
    rw [hx] at hb
    simp only [ax] at hb
    obtain ⟨J,U⟩:=pA (P:=P) hx hv
    obtain ⟨rfl,rfl,I,j⟩:=sL (P:=P) hb hl
    exact ⟨fun w=>by rcases j with ⟨rfl,rfl⟩ | ⟨u,rfl,j⟩<;>simp [Instr.sliceBounds,U _ _ _ hc, *],I,by simpa using J,by simp⟩
 | so E6=>
  rename_i vm G0
  cases hh with
  | no=>simp [aBounds] at hb
  | so hv=>
   rename_i v v'
   simp only [aBounds] at hb
   cases oZ:aBnd n vm with
   | none=>rw [oZ] at hb;cases hb
   | some im=>
    rw [oZ] at hb
    simp only [ax] at hb
    cases hx:aBnd im v with
    | none=>rw [hx] at hb;cases hb
    | some i=>
     rw [hx] at hb
     simp only [ax] at hb
     obtain ⟨aa,ab⟩:=pA (P:=P) oZ E6
     obtain ⟨J,U⟩:=pA (P:=P) hx hv
     obtain ⟨rfl,rfl,I,j⟩:=sL (P:=P) hb hl
     exact ⟨fun w=>by rcases j with ⟨rfl,rfl⟩ | ⟨u,rfl,j⟩<;>simp [Instr.sliceBounds,ab _ _ _ hc,U _ _ _ (Nat.le_refl _), *],I,by simpa using J,by simpa using aa⟩
theorem EB {t:TypeId} {x v x':Value} {lo hi mx il e7 mj:Option Value} (h:aSlice P t x lo hi mx=some v) (hx:VR ρ x x') (hl:OR ρ lo il) (hh:OR ρ hi e7) (hm:OR ρ mx mj):
  ∃ v',VR ρ v v'∧∀ w,(Instr.sliceAt t x' il e7 mj).run P w= .ok v' w:=by
 unfold aSlice at h
 split at h
 ·rename_i s hu
  cases hx
  split at h
  ·cases h
  ·rename_i z0
   cases hm with
   | so hv=>simp at z0
   | no=>
    cases hb:aBounds s.size lo hi none with
    | none=>rw [hb] at h;cases h
    | some b=>
     obtain ⟨l,h2,m⟩:=b
     rw [hb] at h;simp at h;subst h
     obtain ⟨j,ab,I,U⟩:=ua (P:=P) hb hl hh .no (Nat.le_refl _) false
     exact ⟨_, .string _,fun w=>by simp [Instr.sliceAt,cJ hu,Instr.slice,j]⟩
 ·rename_i e a n c hu
  obtain ⟨a',c',rfl,ae,af,lj,J⟩:∃ a' c',x'= .slice a' n c'∧(c=n→c'=n)∧n≤c'∧(a=none→a'=none)∧(∀ ad,a=some ad→∃ gN,a'=some gN∧(0<n→AR ρ ad gN)):=by
   cases hx with
   | gl h1 h2=>exact ⟨_,_,rfl,h1,h2,fun _=>rfl,fun ad h=>(by cases h)⟩
   | sl h1 h2 J ah=>exact ⟨_,_,rfl,h1,h2,fun h=>(by cases h),fun ad h=>(by cases h;exact ⟨_,rfl,J⟩)⟩
  cases hs:b6 P e with
  | none=>rw [hs] at h;cases h
  | some s=>
   rw [hs] at h
   simp only [ax] at h
   cases hb:aBounds n lo hi mx with
   | none=>rw [hb] at h;cases h
   | some b=>
    obtain ⟨l,h2,m⟩:=b
    rw [hb] at h
    simp only [ax] at h
    obtain ⟨j,ab,I,U⟩:=ua (P:=P) hb hl hh hm af true
    have hJ:∀ w,(Instr.sliceAt t (.slice a' n c') il e7 mj).run P w= .ok (.slice (if m.getD c'=l then a' else a'.map (·.add (l * s))) (h2 - l) (m.getD c' - l)) w:=by
     intro w
     simp [Instr.sliceAt,cJ hu,Instr.slice,j,fk hs]
    have hle:h2≤m.getD c':=by
     cases m with
     | none=>simp at I ⊢;omega
     | some m=>simpa using I
    have aa:(match m with | some m=>if m=h2 then h2 - l else h2 - l+2 | none=>if c=n∧h2=n then h2 - l else h2 - l+2)=h2 - l→m.getD c' - l=h2 - l:=by
     cases m with
     | none=>
      simp only [Option.getD_none]
      split
      ·rename_i gw;intro _;rw [ae gw.1,gw.2]
      ·intro hh;omega
     | some m=>
      simp only [Option.getD_some]
      split
      ·rename_i rm;intro _;omega
      ·intro hh;omega
    have ag:(match m with | some m=>if m=h2 then h2 - l else h2 - l+2 | none=>if c=n∧h2=n then h2 - l else h2 - l+2)≠h2 - l+1:=by
     cases m<;>simp only<;>split<;>omega
    cases a with
    | none=>
     simp at h;subst h
     obtain rfl:=lj rfl
     refine ⟨_,?_,hJ⟩
     simp only [Option.map_none,ite_self]
     exact .gl aa (by omega)
    | some ad=>
     simp only at h
     split at h
     ·rename_i sV
      simp at h;subst h
      obtain ⟨gN,rfl,oK⟩:=J ad rfl
      refine ⟨_,?_,hJ⟩
      have:(if m.getD c'=l then some gN else (some gN).map (·.add (l * s)))=some (if m.getD c'=l then gN else gN.add (l * s)):=by split<;>simp
      rw [this]
      refine .sl aa (by omega) (fun eN=>?_) (fun e=>absurd e ag)
      have hn:0<n:=by
       have:m.getD n≤n:=U
       omega
      rw [if_neg (by omega)]
      exact pz (oK hn) _
     ·cases h
 ·cases h
theorem x4 (off:Nat):∀ (l l':List Value) (k:Nat) (A A':Array Value),LR ρ l l'→LR ρ A.toList A'.toList→
  LR ρ ((l.zipIdx k).foldl (fun cs (x:Value×Nat)=>cs.setIfInBounds (off+x.2) x.1) A).toList ((l'.zipIdx k).foldl (fun cs (x:Value×Nat)=>cs.setIfInBounds (off+x.2) x.1) A').toList∧
   ((l.zipIdx k).foldl (fun cs (x:Value×Nat)=>cs.setIfInBounds (off+x.2) x.1) A).size=A.size:=by
 intro l
 induction l with
 | nil=>intro l' k A A' h hA;obtain rfl:=h.lW;exact ⟨by simpa using hA,by simp⟩
 | cons v l ih=>
  intro l' k A A' h hA
  obtain ⟨v',l',rfl,hv,hl⟩:=h.cons_inv
  have j:LR ρ (A.setIfInBounds (off+k) v).toList (A'.setIfInBounds (off+k) v').toList:=by
   refine ⟨by simpa using hA.1,fun i u u' p q=>?_⟩
   simp only [Array.toList_setIfInBounds,List.getElem?_set] at p q
   by_cases e:off+k=i
   ·rw [if_pos e] at p q
    split at p
    ·split at q
     ·cases p;cases q;exact hv
     ·cases q
    ·cases p
   ·rw [if_neg e] at p q;exact hA.2 i u u' p q
  have:=ih l' (k+1) _ _ hl j
  simp only [List.zipIdx_cons,List.foldl_cons]
  exact ⟨this.1,by rw [this.2];simp⟩
theorem r6 (place:Nat→Option (Nat×Nat)):∀ (ps ft:List (Nat×Value)) (A A' B:Array Value),Instr.fill place A ps=some B→ps.map (·.1)=ft.map (·.1)→LR ρ (ps.map (·.2)) (ft.map (·.2))→LR ρ A.toList A'.toList→
  ∃ B',Instr.fill place A' ft=some B'∧LR ρ B.toList B'.toList∧B.size=A.size:=by
 intro ps
 induction ps with
 | nil=>
  intro ft A A' B h h1 h2 hA
  have:ft=[]:=by cases ft<;>simp at h1 ⊢
  subst this
  simp [Instr.fill] at h
  subst h
  exact ⟨A',by simp [Instr.fill],hA,rfl⟩
 | cons x ps ih=>
  intro ft A A' B h h1 h2 hA
  obtain ⟨i,v⟩:=x
  cases ft with
  | nil=>simp at h1
  | cons y ft=>
   obtain ⟨i',v'⟩:=y
   simp only [List.map_cons,List.cons.injEq] at h1 h2
   obtain ⟨rfl,h1⟩:=h1
   have hv:=h2.head
   simp only [Instr.fill] at h ⊢
   cases hp:place i with
   | none=>rw [hp] at h;cases h
   | some pl=>
    obtain ⟨off,size⟩:=pl
    rw [hp] at h
    simp only at h ⊢
    have cc:v'.cells.size=v.cells.size:=by have:=hv.cells.1;simpa using this.symm
    have EA:A'.size=A.size:=by have:=hA.1;simpa using this.symm
    split at h
    ·cases h
    ·rename_i hc
     rw [cc,EA,if_neg hc]
     have hf:=x4 off v.cells.toList v'.cells.toList 0 A A' hv.cells hA
     have e:∀ (w:Value) (C:Array Value),w.cells.zipIdx.foldl (fun cs (x:Value×Nat)=>cs.setIfInBounds (off+x.2) x.1) C=(w.cells.toList.zipIdx 0).foldl (fun cs (x:Value×Nat)=>cs.setIfInBounds (off+x.2) x.1) C:=by
      intro w C
      rw [← Array.foldl_toList]
      simp
     rw [e] at h
     obtain ⟨B',j,I,J⟩:=ih ft _ _ B h h1 h2.tail hf.1
     exact ⟨B',by rw [← e] at j;exact j,I,by rw [J];exact hf.2⟩
theorem td {ev dV:Operand→Value} (ps:Array (Nat×Operand)) (h:∀ x∈ps,VR ρ (ev x.2) (dV x.2)):
  (ps.toList.map fun p=>(p.1,ev p.2)).map (·.1)=(ps.toList.map fun p=>(p.1,dV p.2)).map (·.1)∧LR ρ ((ps.toList.map fun p=>(p.1,ev p.2)).map (·.2)) ((ps.toList.map fun p=>(p.1,dV p.2)).map (·.2)):=by
 refine ⟨by simp,by simp,fun i v v' a b=>?_⟩
 simp only [List.map_map,List.getElem?_map,Function.comp] at a b
 cases hx:ps.toList[i]? with
 | none=>rw [hx] at a;cases a
 | some x=>
  rw [hx] at a b
  simp at a b
  subst a;subst b
  exact h x (by simpa using au hx)
theorem FY {α β:Type} (f:α→Option β) (g:α→Sem β) (w:World) (qX:∀ a b,f a=some b→(g a).run P w= .ok b w):∀ (l:List α) (r:List β),l.mapM f=some r→(l.mapM g).run P w= .ok r w:=by
 intro l
 induction l with
 | nil=>intro r h;simp at h;subst h;simp
 | cons a l ih=>
  intro r h
  simp only [List.mapM_cons] at h ⊢
  cases ha:f a with
  | none=>rw [ha] at h;simp at h
  | some b=>
   rw [ha] at h
   cases hl:l.mapM f with
   | none=>rw [hl] at h;simp at h
   | some bs=>
    rw [hl] at h
    simp at h
    subst h
    simp [qX a b ha,ih bs hl]
theorem ER {t:TypeId} {ps ft:List (Nat×Value)} {v:Value} (h:aBuild P t ps=some v) (h1:ps.map (·.1)=ft.map (·.1)) (h2:LR ρ (ps.map (·.2)) (ft.map (·.2))):
  ∃ v',VR ρ v v'∧∀ w,(Instr.build t ft.toArray).run P w= .ok v' w:=by
 unfold aBuild at h
 cases hz:ec P t with
 | none=>rw [hz] at h;cases h
 | some z=>
  rw [hz] at h
  simp only [ax] at h
  split at h
  ·rename_i du
   have wE:LR ρ z.cells.toList z.cells.toList:=(l1 ρ du).cells
   split at h
   ·rename_i fields hu
    cases hp:fields.toList.mapM (fun f=>(b6 P f.type).map fun s=>(f.offset,s)) with
    | none=>rw [hp] at h;cases h
    | some qp=>
     rw [hp] at h
     simp only [ax] at h
     cases hf:Instr.fill (fun i=>qp[i]?) z.cells ps with
     | none=>rw [hf] at h;cases h
     | some B=>
      rw [hf] at h;simp at h;subst h
      obtain ⟨B',j,I,J⟩:=r6 (ρ:=ρ) _ ps ft z.cells z.cells B hf h1 h2 wE
      refine ⟨.agg B',by have:=I.oG;simpa using this,fun w=>?_⟩
      have hm:=FY (P:=P) (fun f:Field=>(b6 P f.type).map fun s=>(f.offset,s)) (fun f=>do pure (f.offset,← sizeOf f.type)) w (fun f b hb=>by
       cases hs:b6 P f.type with
       | none=>rw [hs] at hb;cases hb
       | some s=>rw [hs] at hb;simp at hb;subst hb;simp [fk hs]) _ _ hp
      have U:(fields.mapM (fun f=>do pure (f.offset,← sizeOf f.type)):Sem (Array (Nat×Nat))).run P w= .ok qp.toArray w:=by
       rw [Array.mapM_eq_mapM_toList]
       simp only [Sem.run_map,hm,Result.andThen_ok]
      simp only [Instr.build,Sem.run_bind,kr hz,Result.andThen_ok,cJ hu,U]
      simp [j]
   ·rename_i n e hu
    cases hs:b6 P e with
    | none=>rw [hs] at h;cases h
    | some s=>
     rw [hs] at h
     simp only [ax] at h
     cases hf:Instr.fill (fun i=>some (i * s,s)) z.cells ps with
     | none=>rw [hf] at h;cases h
     | some B=>
      rw [hf] at h;simp at h;subst h
      obtain ⟨B',j,I,J⟩:=r6 (ρ:=ρ) _ ps ft z.cells z.cells B hf h1 h2 wE
      refine ⟨.agg B',by have:=I.oG;simpa using this,fun w=>?_⟩
      simp only [Instr.build,Sem.run_bind,kr hz,Result.andThen_ok,cJ hu,fk hs]
      simp [j]
   ·cases h
  ·cases h
end
end
section
open Go
variable [Marks]
section
variable {P:Program} {ρ:a4}
abbrev da:=Nat→Option dS
def kJ (ρ:a4) (ae:da) (k:Nat):Prop:=∃ b B p,ae b=some B∧B.own=true∧ρ b=some p∧p.ae=k
structure bB (ρ:a4) (w:World) (ae:da) (next:Nat):Prop where
 er:∀ b p,ρ b=some p→b<next
 lt:∀ b p,ρ b=some p→p.ae<w.heap.size
 cell:∀ b B p,ae b=some B→ρ b=some p→∀ (i:Nat) v,B.cells[i]?=some v→∃ v',w.cell? ⟨p.ae,p.off+i,none⟩=some v'∧VR ρ v v'
 own:∀ b B p,ae b=some B→ρ b=some p→B.own=true→B.dL=p.sz∧B.cells.length≤p.ext∧
  ∃ cur el fr,w.heap[p.ae]?=some (.cells cur el fr)∧p.off+p.ext≤cur.size∧(fr.1=fr.2∨p.off+p.ext≤fr.1)
 apart:∀ b c B C p q,b≠c→ae b=some B→ae c=some C→ρ b=some p→ρ c=some q→B.own=true→p.ae≠q.ae
 live:∀ b,ae b≠none→b<next
structure Ext (ρ:a4) (ae:da) (next:Nat) (w:World) (ρ':a4) (gL:da) (next':Nat) (w':World):Prop where
 le:c3 ρ ρ'
 os:w'.os=w.os
 tape:w'.tape=w.tape
 output:w'.output=w.output
 size:w.heap.size≤w'.heap.size
 nx:next≤next'
 a3:∀ k,k<w.heap.size→¬ kJ ρ ae k→w'.heap[k]?=w.heap[k]?
 gH:∀ k,k<w.heap.size→kJ ρ' gL k→kJ ρ ae k
 new:∀ b p,ρ' b=some p→ρ b=some p∨(next≤b∧(w.heap.size≤p.ae∨kJ ρ ae p.ae))
 un:∀ b,b<next→ρ b=none→gL b=ae b
theorem Ext.refl (ρ:a4) (ae:da) (next:Nat) (w:World):Ext ρ ae next w ρ ae next w:=
 ⟨c3.refl _,rfl,rfl,rfl,Nat.le_refl _,Nat.le_refl _,fun _ _ _=>rfl,fun _ _ h=>h,fun _ _ h=> .inl h,fun _ _ _=>rfl⟩
theorem Ext.trans' {ρ ρ1 ρ2:a4} {ae j I:da} {n U m J:Nat} {w w1 w2:World} (h:Ext ρ ae n w ρ1 j U w1) (k:Ext ρ1 j m w1 ρ2 I J w2) (hm:n≤m):Ext ρ ae n w ρ2 I J w2:=
 ⟨h.le.trans k.le,k.os.trans h.os,k.tape.trans h.tape,k.output.trans h.output,Nat.le_trans h.size k.size,Nat.le_trans hm k.nx,
  fun i hi ho=>(k.a3 i (Nat.lt_of_lt_of_le hi h.size) (fun q=>ho (h.gH i hi q))).trans (h.a3 i hi ho),
  fun i hi q=>h.gH i hi (k.gH i (Nat.lt_of_lt_of_le hi h.size) q),
  fun b p q=>(k.new b p q).elim (fun q=>h.new b p q) (fun q=> .inr ⟨Nat.le_trans hm q.1,by
   by_cases e:p.ae<w.heap.size
   ·exact q.2.elim (fun q=>absurd h.size (by omega)) (fun q=> .inr (h.gH _ e q))
   ·exact .inl (by omega)⟩),
  fun b hb hr=>by
   rw [k.un b (by omega) ?_,h.un b hb hr]
   cases hq:ρ1 b with
   | none=>rfl
   | some p=>exact (h.new b p hq).elim (fun q=>by rw [hr] at q;cases q) (fun q=>absurd q.1 (by omega))⟩
theorem Ext.trans {ρ ρ1 ρ2:a4} {ae j I:da} {n J U:Nat} {w w1 w2:World} (h:Ext ρ ae n w ρ1 j J w1) (k:Ext ρ1 j J w1 ρ2 I U w2):Ext ρ ae n w ρ2 I U w2:=
 h.trans' k h.nx
theorem qL {fr:Nat×Nat} {n:Nat} (h:fr.1=fr.2∨n≤fr.1) (j:Nat) (hj:j<n):¬ (fr.1≤j∧j<fr.2):=by omega
theorem ig {w:World} {b o:Nat} {c:Array Value} {el:TypeId} {fr:Nat×Nat} (h:w.heap[b]?=some (.cells c el fr)):w.cell? ⟨b,o,none⟩=c[o]?:=by simp [World.cell?,h]
theorem bB.world {w w':World} {ae:da} {next:Nat} (h:bB ρ w ae next) (hh:w'.heap=w.heap):bB ρ w' ae next:=
 ⟨h.er,fun b p q=>by rw [hh];exact h.lt b p q,fun b B p q r i v hv=>by
  obtain ⟨v',h1,h2⟩:=h.cell b B p q r i v hv
  exact ⟨v',by rw [← h1];exact World.cell?_of_block (by rw [hh]),h2⟩,
  fun b B p q r s=>by rw [hh];exact h.own b B p q r s,h.apart,h.live⟩
def bQ (ρ:a4) (id:Nat) (p:Place):a4:=fun b=>if b=id then some p else ρ b
def bM (ae:da) (id:Nat) (B:Option dS):da:=fun b=>if b=id then B else ae b
theorem c3.bQ (ρ:a4) {id:Nat} (p:Place) (h:ρ id=none):c3 ρ (bQ ρ id p):=fun b q hq=>by
 unfold Am.bQ
 split
 ·rename_i e;subst e;rw [h] at hq;cases hq
 ·exact hq
theorem bB.made {w w1:World} {ae:da} {next next':Nat} (h:bB ρ w ae next) {id:Nat} (dA:ρ id=none) (bD:id<next') (dQ:next≤next')
  {cs a9:List Value} (hl:LR ρ cs a9) {C:Array Value} {el:TypeId} {fr:Nat×Nat} {dL ext:Nat} (cc:w1.heap.size=w.heap.size+1) (hold:∀ k,k<w.heap.size→w1.heap[k]?=w.heap[k]?)
  (iV:w1.heap[w.heap.size]?=some (.cells C el fr)) (hC:∀ (i:Nat) v,a9[i]?=some v→C[i]?=some v) (sy:ext≤C.size) (EV:cs.length≤ext) (kK:fr.1=fr.2∨ext≤fr.1):
  bB (bQ ρ id ⟨w.heap.size,0,dL,ext⟩) w1 (bM ae id (some ⟨cs,true,dL⟩)) next':=by
 have hr:=c3.bQ ρ ⟨w.heap.size,0,dL,ext⟩ dA
 have c4:∀ k p,bQ ρ id ⟨w.heap.size,0,dL,ext⟩ k=some p→k≠id→ρ k=some p:=fun k p q hk=>by simpa [bQ,hk] using q
 have FN:∀ (k o:Nat),k<w.heap.size→w1.cell? ⟨k,o,none⟩=w.cell? ⟨k,o,none⟩:=fun k o hk=>World.cell?_of_block (hold k hk)
 refine ⟨fun b p q=>?_,fun b p q=>?_,fun b B p q r i v hv=>?_,fun b B p q r s=>?_,fun b c B C' p q iE hB gh hp hq ho=>?_,fun b hb=>?_⟩
 ·by_cases e:b=id
  ·rw [e];exact bD
  ·exact Nat.lt_of_lt_of_le (h.er b p (c4 b p q e)) dQ
 ·by_cases e:b=id
  ·subst e
   simp [bQ] at q
   subst q
   simp only;omega
  ·have:=h.lt b p (c4 b p q e);omega
 ·by_cases e:b=id
  ·subst e
   simp [bQ] at r
   simp [bM] at q
   subst r;subst q
   obtain ⟨v',h1,h2⟩:=hl.get hv
   exact ⟨v',by rw [ig iV];simpa using hC i v' h1,h2.mono hr⟩
  ·have hp:=c4 b p r e
   obtain ⟨v',h1,h2⟩:=h.cell b B p (by simpa [bM,e] using q) hp i v hv
   exact ⟨v',by rw [FN _ _ (h.lt b p hp)];exact h1,h2.mono hr⟩
 ·by_cases e:b=id
  ·subst e
   simp [bQ] at r
   simp [bM] at q
   subst r;subst q
   exact ⟨rfl,EV,C,el,fr,iV,by simpa using sy,by simpa using kK⟩
  ·have hp:=c4 b p r e
   obtain ⟨h1,h2,cur,Gt,kx,I,J,U⟩:=h.own b B p (by simpa [bM,e] using q) hp s
   exact ⟨h1,h2,cur,Gt,kx,by rw [hold _ (h.lt b p hp)];exact I,J,U⟩
 ·by_cases e:b=id
  ·subst e
   simp [bQ] at hp
   subst hp
   have:=h.lt c q (c4 c q hq (Ne.symm iE))
   simp only;omega
  ·by_cases j:c=id
   ·subst j
    simp [bQ] at hq
    subst hq
    have:=h.lt b p (c4 b p hp e)
    simp only;omega
   ·exact h.apart b c B C' p q iE (by simpa [bM,e] using hB) (by simpa [bM,j] using gh) (c4 b p hp e) (c4 c q hq j) ho
 ·by_cases e:b=id
  ·rw [e];exact bD
  ·exact Nat.lt_of_lt_of_le (h.live b (by simpa [bM,e] using hb)) dQ
theorem Ext.made {w w1:World} {ae:da} {next next':Nat} {id:Nat} (dA:ρ id=none) (hn:next≤id) (dQ:next≤next') {pl:Place} (qq:pl.ae=w.heap.size) {B:dS}
  (cc:w1.heap.size=w.heap.size+1) (hold:∀ k,k<w.heap.size→w1.heap[k]?=w.heap[k]?) (ho:w1.os=w.os) (ht:w1.tape=w.tape) (hu:w1.output=w.output):
  Ext ρ ae next w (bQ ρ id pl) (bM ae id (some B)) next' w1:=by
 refine ⟨c3.bQ ρ pl dA,ho,ht,hu,by omega,dQ,fun k hk _=>hold k hk,fun k hk ⟨b,B',p,I,J,j,U⟩=>?_,fun b p q=>?_,fun b hb _=>by simp only [bM];rw [if_neg (by omega)]⟩
 ·by_cases e:b=id
  ·subst e
   simp [bQ] at j
   subst j
   omega
  ·exact ⟨b,B',p,by simpa [bM,e] using I,J,by simpa [bQ,e] using j,U⟩
 ·by_cases e:b=id
  ·subst e
   simp [bQ] at q
   subst q
   exact .inr ⟨hn, .inl (by omega)⟩
  ·exact .inl (by simpa [bQ,e] using q)
theorem r8 (g o:Nat):∀ (vs:List Value) (i:Nat) (w:World) (cur:Array Value) (el:TypeId) (fr:Nat×Nat),w.heap[g]?=some (.cells cur el fr)→o+i+vs.length≤cur.size→
  (∀ j,o+i≤j→j<o+i+vs.length→¬ (fr.1≤j∧j<fr.2))→(∀ v∈vs,v.oneCell'=true)→
  ∃ w' fx,(storeCells ⟨g,o,none⟩ vs i).run P w= .ok () w'∧w'.heap[g]?=some (.cells fx el fr)∧fx.size=cur.size∧
   (∀ j:Nat,fx[j]?=if o+i≤j∧j<o+i+vs.length then vs[j - (o+i)]? else cur[j]?)∧(∀ k,k≠g→w'.heap[k]?=w.heap[k]?)∧w'.heap.size=w.heap.size∧w'.os=w.os∧w'.tape=w.tape∧w'.output=w.output:=by
 intro vs
 induction vs with
 | nil=>intro i w cur el fr hg _ _ _;exact ⟨w,cur,rfl,hg,rfl,fun j=>by rw [if_neg (by simp only [List.length_nil];omega)],fun _ _=>rfl,rfl,rfl,rfl,rfl⟩
 | cons v vs ih=>
  intro i w cur el fr hg hl hf h1
  simp only [List.length_cons] at hl hf
  have rY:(⟨g,o,none⟩:Addr).add i=⟨g,o+i,none⟩:=by unfold Addr.add;split<;>simp_all
  have hc:w.cell? ⟨g,o+i,none⟩=some cur[o+i]:=by rw [ig hg];exact Array.getElem?_eq_getElem (by omega)
  have hz:w.frozen? ⟨g,o+i,none⟩=false:=by
   have:=hf (o+i) (by omega) (by omega)
   simp only [World.frozen?,hg]
   simp
   intro h;have:=fun q=>this ⟨h,q⟩;omega
  have bp:(store ((⟨g,o,none⟩:Addr).add i) v).run P w= .ok () (w.setCell ⟨g,o+i,none⟩ v):=by
   rw [rY,run_store P w _ v _ (h1 v (by simp)),hc]
   simp [hz]
  have J:(w.setCell ⟨g,o+i,none⟩ v).heap[g]?=some (.cells (cur.setIfInBounds (o+i) v) el fr):=by
   simp [World.setCell,Array.getElem?_modify,hg]
  obtain ⟨w',fx,r1,U,aa,ab,ad,ae,af,ag,ah⟩:=ih (i+1) (w.setCell ⟨g,o+i,none⟩ v) _ el fr J (by simp;omega) (fun j a b=>hf j (by omega) (by omega)) (fun u hu=>h1 u (by simp [hu]))
  refine ⟨w',fx,?_,U,by rw [aa];simp,fun j=>?_,fun k hk=>?_,by rw [ae];simp [World.setCell],by rw [af];rfl,by rw [ag];rfl,by rw [ah];rfl⟩
  ·simp only [storeCells,Sem.run_bind,bp,Result.andThen_ok,r1]
  ·rw [ab j]
   by_cases e:j=o+i
   ·subst e
    rw [if_neg (by omega),if_pos (by simp only [List.length_cons];omega),Nat.sub_self]
    simp [Array.getElem?_setIfInBounds_self_of_lt (show o+i<cur.size by omega)]
   ·by_cases I:o+(i+1)≤j∧j<o+(i+1)+vs.length
    ·rw [if_pos I,if_pos (by simp;omega)]
     have:j - (o+i)=(j - (o+(i+1)))+1:=by omega
     rw [this,List.getElem?_cons_succ]
    ·rw [if_neg I,if_neg (by simp;omega)]
     rw [Array.getElem?_setIfInBounds_ne (by omega)]
  ·rw [ad k hk]
   simp [World.setCell,Array.getElem?_modify,Ne.symm hk]
end
end
section
open Go
variable [Marks]
section
variable {P:Program} {ρ:a4}
theorem bB.part {w:World} {ae gL:da} {next:Nat} (h:bB ρ w ae next) (hb:∀ b B,ρ b≠none→gL b=some B→ae b=some B) (hl:∀ b,gL b≠none→b<next):bB ρ w gL next:=by
 have on:∀ {b p},ρ b=some p→ρ b≠none:=fun q r=>by rw [q] at r;cases r
 exact ⟨h.er,h.lt,fun b B p q r=>h.cell b B p (hb b B (on r) q) r,fun b B p q r=>h.own b B p (hb b B (on r) q) r,fun b c B C p q e h1 h2 j I=>h.apart b c B C p q e (hb b B (on j) h1) (hb c C (on I) h2) j I,hl⟩
theorem bB.less {w:World} {ae gL:da} {next:Nat} (h:bB ρ w ae next) (hb:∀ b B,gL b=some B→ae b=some B):bB ρ w gL next:=
 ⟨h.er,h.lt,fun b B p q=>h.cell b B p (hb b B q),fun b B p q=>h.own b B p (hb b B q),fun b c B C p q e h1 h2=>h.apart b c B C p q e (hb b B h1) (hb c C h2),fun b q=>by
  cases hq:gL b with
  | none=>exact absurd hq q
  | some B=>exact h.live b (by rw [hb b B hq];exact fun q=>by cases q)⟩
theorem bB.wrote {w w':World} {ae:da} {next:Nat} (h:bB ρ w ae next) {b:Nat} {B:dS} {p:Place} (hB:ae b=some B) (hp:ρ b=some p) (ho:B.own=true)
  {cur fx:Array Value} {el:TypeId} {fr:Nat×Nat} (h1:w.heap[p.ae]?=some (.cells cur el fr)) (h2:w'.heap[p.ae]?=some (.cells fx el fr)) (ab:fx.size=cur.size)
  (aa:∀ k,k≠p.ae→w'.heap[k]?=w.heap[k]?) (ad:w'.heap.size=w.heap.size)
  {cs:List Value} (hlen:cs.length≤p.ext) (dI:∀ (i:Nat) v,cs[i]?=some v→∃ v',fx[p.off+i]?=some v'∧VR ρ v v'):
  bB ρ w' (bM ae b (some ⟨cs,true,B.dL⟩)) next:=by
 obtain ⟨he,hl,ao,aq,ar,J,af,ag⟩:=h.own b B p hB hp ho
 rw [h1] at J
 injection J with J
 injection J with e1 U ah
 subst e1;subst U;subst ah
 have other:∀ c C q,c≠b→ae c=some C→ρ c=some q→q.ae≠p.ae:=fun c C q hc hC hq e=>h.apart b c B C p q (Ne.symm hc) hB hC hp hq ho e.symm
 refine ⟨h.er,fun c q hq=>by rw [ad];exact h.lt c q hq,fun c C q hC hq i v hv=>?_,fun c C q hC hq iX=>?_,fun c d C D q r jE hC hD hq hr iX=>?_,fun c hc=>?_⟩
 ·by_cases e:c=b
  ·subst e
   simp [bM] at hC
   subst hC
   rw [hp] at hq;cases hq
   obtain ⟨v',j,I⟩:=dI i v hv
   exact ⟨v',by rw [ig h2];exact j,I⟩
  ·have gh:ae c=some C:=by simpa [bM,e] using hC
   obtain ⟨v',j,I⟩:=h.cell c C q gh hq i v hv
   exact ⟨v',by rw [← j];exact World.cell?_of_block (aa _ (other c C q e gh hq)),I⟩
 ·by_cases e:c=b
  ·subst e
   simp [bM] at hC
   subst hC
   rw [hp] at hq;cases hq
   exact ⟨he,hlen,fx,el,fr,h2,by rw [ab];exact af,ag⟩
  ·have gh:ae c=some C:=by simpa [bM,e] using hC
   obtain ⟨j,I,c1,c2,ai,aj,ak,an⟩:=h.own c C q gh hq iX
   exact ⟨j,I,c1,c2,ai,by rw [aa _ (other c C q e gh hq)];exact aj,ak,an⟩
 ·by_cases e:c=b
  ·subst e
   rw [hp] at hq;cases hq
   exact h.apart c d B D p r jE hB (by simpa [bM,Ne.symm jE] using hD) hp hr ho
  ·by_cases U:d=b
   ·subst U
    rw [hp] at hr;cases hr
    exact h.apart c d C B q p jE (by simpa [bM,e] using hC) hB hq hp iX
   ·exact h.apart c d C D q r jE (by simpa [bM,e] using hC) (by simpa [bM,U] using hD) hq hr iX
 ·by_cases e:c=b
  ·rw [e];exact h.live b (by rw [hB];exact fun q=>by cases q)
  ·exact h.live c (by simpa [bM,e] using hc)
theorem Ext.wrote {w w':World} {ae:da} {next:Nat} {b:Nat} {B:dS} {p:Place} (hB:ae b=some B) (hp:ρ b=some p) (ho:B.own=true)
  (J:∀ k,k≠p.ae→w'.heap[k]?=w.heap[k]?) (ag:w'.heap.size=w.heap.size) (U:w'.os=w.os) (aa:w'.tape=w.tape) (ab:w'.output=w.output) (B':Option dS):
  Ext ρ ae next w ρ (bM ae b B') next w':=by
 refine ⟨c3.refl _,U,aa,ab,by omega,Nat.le_refl _,fun k hk hn=>J k fun e=>hn ⟨b,B,p,hB,ho,hp,e.symm⟩,fun k hk ⟨c,C,q,ad,af,j,I⟩=>?_,fun _ _ h=> .inl h,fun c hc hr=>by
  simp only [bM]
  rw [if_neg (fun e=>by subst e;rw [hp] at hr;cases hr)]⟩
 by_cases e:c=b
 ·subst e
  exact ⟨c,B,p,hB,ho,hp,by rw [hp] at j;cases j;exact I⟩
 ·exact ⟨c,C,q,by simpa [bM,e] using ad,af,j,I⟩
theorem bB.sD {w:World} {ae:da} {next next':Nat} (h:bB ρ w ae next) {b:Nat} {B:dS} {p:Place} (hB:ae b=some B) (hp:ρ b=some p) (ho:B.own=true) {id:Nat} (dA:ρ id=none) (bD:id<next') (dQ:next≤next') (o:Nat) (qu:o≤p.ext)
  (qq:p.off+o+(p.ext - o)=p.off+p.ext):
  bB (bQ ρ id ⟨p.ae,p.off+o,p.sz,p.ext - o⟩) w (bM (bM ae b none) id (some ⟨B.cells.drop o,true,B.dL⟩)) next':=by
 have GU:b≠id:=fun e=>by subst e;rw [hp] at dA;cases dA
 have hr:=c3.bQ ρ ⟨p.ae,p.off+o,p.sz,p.ext - o⟩ dA
 have c4:∀ k q,bQ ρ id ⟨p.ae,p.off+o,p.sz,p.ext - o⟩ k=some q→k≠id→ρ k=some q:=fun k q hq hk=>by simpa [bQ,hk] using hq
 have o5:∀ c C,bM (bM ae b none) id (some ⟨B.cells.drop o,true,B.dL⟩) c=some C→c≠id→c≠b∧ae c=some C:=fun c C hC hc=>by
  by_cases e:c=b
  ·subst e;simp [bM,hc] at hC
  ·exact ⟨e,by simpa [bM,hc,e] using hC⟩
 obtain ⟨he,hl,cur,el,fr,U,aa,ab⟩:=h.own b B p hB hp ho
 refine ⟨fun c q hq=>?_,fun c q hq=>?_,fun c C q hC hq i v hv=>?_,fun c C q hC hq iX=>?_,fun c d C D q r jE hC hD hq nt iX=>?_,fun c hc=>?_⟩
 ·by_cases e:c=id
  ·rw [e];exact bD
  ·exact Nat.lt_of_lt_of_le (h.er c q (c4 c q hq e)) dQ
 ·by_cases e:c=id
  ·subst e;simp [bQ] at hq;subst hq;exact h.lt b p hp
  ·exact h.lt c q (c4 c q hq e)
 ·by_cases e:c=id
  ·subst e
   simp [bQ] at hq;subst hq
   simp [bM] at hC;subst hC
   have r4:B.cells[o+i]?=some v:=by simpa using hv
   obtain ⟨v',I,J⟩:=h.cell b B p hB hp (o+i) v r4
   exact ⟨v',by rw [← I];simp [Nat.add_assoc],J.mono hr⟩
  ·obtain ⟨_,gh⟩:=o5 c C hC e
   obtain ⟨v',I,J⟩:=h.cell c C q gh (c4 c q hq e) i v hv
   exact ⟨v',I,J.mono hr⟩
 ·by_cases e:c=id
  ·subst e
   simp [bQ] at hq;subst hq
   simp [bM] at hC;subst hC
   exact ⟨he,by simp;omega,cur,el,fr,U,by simp only;omega,by simp only;omega⟩
  ·obtain ⟨_,gh⟩:=o5 c C hC e
   exact h.own c C q gh (c4 c q hq e) iX
 ·by_cases e:c=id
  ·subst e
   simp [bQ] at hq;subst hq
   obtain ⟨y2,jX⟩:=o5 d D hD (Ne.symm jE)
   exact h.apart b d B D p r (Ne.symm y2) hB jX hp (c4 d r nt (Ne.symm jE)) ho
  ·obtain ⟨B4,gh⟩:=o5 c C hC e
   by_cases j:d=id
   ·subst j
    simp [bQ] at nt;subst nt
    exact h.apart c b C B q p B4 gh hB (c4 c q hq e) hp iX
   ·obtain ⟨_,jX⟩:=o5 d D hD j
    exact h.apart c d C D q r jE gh jX (c4 c q hq e) (c4 d r nt j) iX
 ·by_cases e:c=id
  ·rw [e];exact bD
  ·by_cases j:c=b
   ·subst j;simp [bM,e] at hc
   ·exact Nat.lt_of_lt_of_le (h.live c (by simpa [bM,e,j] using hc)) dQ
theorem Ext.sD {w:World} {ae:da} {next next':Nat} {b:Nat} {B:dS} {p:Place} (hB:ae b=some B) (hp:ρ b=some p) (ho:B.own=true) {id:Nat} (dA:ρ id=none) (hn:next≤id) (dQ:next≤next') {pl:Place} (qq:pl.ae=p.ae) (B':dS):
  Ext ρ ae next w (bQ ρ id pl) (bM (bM ae b none) id (some B')) next' w:=by
 refine ⟨c3.bQ ρ pl dA,rfl,rfl,rfl,Nat.le_refl _,dQ,fun _ _ _=>rfl,fun k hk ⟨c,C,q,I,aa,j,J⟩=>?_,fun c q hq=>?_,fun c hc hr=>by
  simp only [bM]
  rw [if_neg (by omega),if_neg (fun e=>by subst e;rw [hp] at hr;cases hr)]⟩
 ·by_cases e:c=id
  ·subst e
   simp [bQ] at j;subst j
   exact ⟨b,B,p,hB,ho,hp,by rw [← qq];exact J⟩
  ·by_cases U:c=b
   ·subst U;simp [bM,e] at I
   ·exact ⟨c,C,q,by simpa [bM,e,U] using I,aa,by simpa [bQ,e] using j,J⟩
 ·by_cases e:c=id
  ·subst e
   simp [bQ] at hq
   subst hq
   exact .inr ⟨hn, .inr ⟨b,B,p,hB,ho,hp,by rw [qq]⟩⟩
  ·exact .inl (by simpa [bQ,e] using hq)
theorem yP {w:World} {h:AH} {a a':Addr} {v:Value} (hs:bB ρ w h.ae h.next) (hl:h.load a=some v) (ha:AR ρ a a'):∃ v',VR ρ v v'∧w.cell? a'=some v':=by
 obtain ⟨gb,p,hp,rfl⟩:=ha
 simp only [AH.load,gb] at hl
 cases hb:h.ae a.block with
 | none=>rw [hb] at hl;cases hl
 | some B=>
  rw [hb] at hl
  obtain ⟨v',j,I⟩:=hs.cell _ B p hb hp a.off v hl
  exact ⟨v',I,j⟩
theorem lF {w:World} {h:AH} {a a':Addr} {n:Nat} {cs:List Value} (hs:bB ρ w h.ae h.next) (hl:h.cN a n=some cs) (ha:AR ρ a a'):∃ a9,LR ρ cs a9∧cs.length=n∧∀ j v,a9[j]?=some v→w.cell? (a'.add j)=some v:=by
 obtain ⟨gb,p,hp,rfl⟩:=ha
 simp only [AH.cN,gb] at hl
 cases hb:h.ae a.block with
 | none=>rw [hb] at hl;cases hl
 | some B=>
  rw [hb] at hl
  simp only [ax] at hl
  split at hl
  ·rename_i hle
   simp at hl;subst hl
   have hc:∀ j,j<n→∃ v',w.cell? ⟨p.ae,p.off+(a.off+j),none⟩=some v'∧∀ v,B.cells[a.off+j]?=some v→VR ρ v v':=by
    intro j hj
    have bD:a.off+j<B.cells.length:=by omega
    obtain ⟨v',U,aa⟩:=hs.cell _ B p hb hp (a.off+j) _ (aX bD)
    exact ⟨v',U,fun v hv=>by rw [aX bD] at hv;cases hv;exact aa⟩
   refine ⟨(List.range n).map fun j=>(w.cell? ⟨p.ae,p.off+(a.off+j),none⟩).getD undef,⟨by simp;omega,fun i v v' x y=>?_⟩,by simp;omega,fun j v hv=>?_⟩
   ·have hi:i<n:=by
     have:=(List.getElem?_eq_some_iff.1 y).1
     simpa using this
    obtain ⟨u,I,J⟩:=hc i hi
    simp [hi,I] at y
    subst y
    apply J
    rw [List.getElem?_take,if_pos hi,List.getElem?_drop] at x
    exact x
   ·have hj:j<n:=by
     have:=(List.getElem?_eq_some_iff.1 hv).1
     simpa using this
    obtain ⟨u,I,J⟩:=hc j hj
    simp [hj,I] at hv
    subst hv
    rw [show (⟨p.ae,p.off+a.off,none⟩:Addr).add j=⟨p.ae,p.off+(a.off+j),none⟩ by
     unfold Addr.add;split<;>simp_all [Nat.add_assoc]]
    exact I
  ·cases hl
theorem wz {w:World} {h:AH} {t:TypeId} {x x' v:Value} (hs:bB ρ w h.ae h.next) (hl:aLoad P t x h=some v) (hx:VR ρ x x'):∃ v',VR ρ v v'∧(Instr.loadAt t x').run P w= .ok v' w:=by
 unfold aLoad at hl
 split at hl
 ·rename_i a
  obtain ⟨a',rfl,ha⟩:∃ a',x'= .pointer (some a')∧AR ρ a a':=by
   cases hx with
   | ptr h=>exact ⟨_,rfl,h⟩
  cases hd:P.underlying t with
  | none=>rw [hd] at hl;cases hl
  | some d=>
   rw [hd] at hl
   simp only [ax] at hl
   by_cases gS:lH d=true
   ·rw [if_pos gS] at hl
    cases hz:b6 P t with
    | none=>rw [hz] at hl;cases hl
    | some s=>
     rw [hz] at hl
     simp only [ax] at hl
     cases hc:h.cN a s with
     | none=>rw [hc] at hl;cases hl
     | some cs=>
      rw [hc] at hl;simp at hl;subst hl
      obtain ⟨a9,j,I,J⟩:=lF hs hc ha
      refine ⟨.agg a9.toArray,j.oG,?_⟩
      have m0:=run_loadCells_list (P:=P) w a' a9 J
      rw [← j.1,I] at m0
      simp [Instr.loadAt,Instr.sureAddr,loadVar,pQ hd,gS,fk hz,m0]
   ·rw [if_neg gS] at hl
    obtain ⟨v',j,I⟩:=yP hs hl ha
    exact ⟨v',j,by simp [Instr.loadAt,Instr.sureAddr,loadVar,pQ hd,gS,I]⟩
 ·cases hl
end
end
section
open Go
variable [Marks]
section
variable {P:Program} {ρ:a4}
theorem yW (ρ:a4) {z:Value} (h:clean z=true) (i:Nat):VR ρ (z.cells[i]!) (z.cells[i]!):=by
 have hl:=(l1 ρ h).cells
 by_cases hi:i<z.cells.size
 ·have e:z.cells[i]! =z.cells[i]:=by simp [hi]
  rw [e]
  exact hl.2 i _ _ (by simp [hi]) (by simp [hi])
 ·have e:z.cells[i]! =default:=by simp [hi]
  rw [e]
  exact .bool _
theorem uU (ρ:a4) {z:Value} (h:clean z=true) (m:Nat):LR ρ ((Array.range m).map fun i=>z.cells[i % z.cells.size]!).toList ((Array.range m).map fun i=>z.cells[i % z.cells.size]!).toList:=
 p9 ρ fun v hv=>by
  simp at hv
  obtain ⟨i,_,rfl⟩:=hv
  simpa using yW ρ h (i % z.cells.size)
theorem k7 {ρ':a4} {id n sz ext:Nat} (h:ρ' id=some ⟨n,0,sz,ext⟩):AR ρ' ⟨id,0,none⟩ ⟨n,0,none⟩:=⟨rfl,_,h,rfl⟩
theorem vZ {ev dV:Operand→Value} {o:Oper} {f:gR} (cy:∀ x∈o.op.operands,VR ρ (ev x) (dV x)) (hf:aFresh P ev o.op=some f) (w:World):
  ∃ v' C el,(execOp dV o).run P w= .ok (.value v') (w.alloc (.cells C el))∧LR ρ f.2.1 C.toList∧∀ (ρ':a4) (id:Nat),c3 ρ ρ'→ρ' id=some ⟨w.heap.size,0,f.2.2,C.size⟩→VR ρ' (f.1 id) v':=by
 cases ay:o.op<;>rw [ay] at hf cy<;>simp only [aFresh] at hf<;>try (cases hf;done)
 case alloc e=>
  unfold nP at hf
  cases hz:ec P e with
  | none=>rw [hz] at hf;cases hf
  | some z=>
   rw [hz] at hf
   simp only [ax] at hf
   split at hf
   ·rename_i hc
    simp at hf;subst hf
    refine ⟨_,z.cells,e,?_,(l1 ρ hc).cells,fun ρ' id hr hi=> .ptr (k7 hi)⟩
    simp [execOp,ay,Instr.alloc,kr hz,newVar,newRow]
   ·cases hf
 case box e x=>
  simp [mU] at hf;subst hf
  have hx:=cy x (by simp [Op.operands])
  refine ⟨_,(dV x).cells,e,?_,hx.cells,fun ρ' id hr hi=> .ptr (k7 hi)⟩
  simp [execOp,ay,Instr.box,newVar,newRow]
 case buildSlice t len ps=>
  unfold aBuildSlice at hf
  split at hf
  ·rename_i e hu
   cases hs:b6 P e with
   | none=>rw [hs] at hf;cases hf
   | some s=>
    rw [hs] at hf
    simp only [ax] at hf
    cases hz:ec P e with
    | none=>rw [hz] at hf;cases hf
    | some z=>
     rw [hz] at hf
     simp only [ax] at hf
     split at hf
     ·rename_i hc
      obtain ⟨du,hlen,j⟩:=hc
      cases kh:Instr.fill (fun i=>some (i * s,s)) ((Array.range (len * s)).map fun i=>z.cells[i % z.cells.size]!) (ps.toList.map fun p=>(p.1,ev p.2)) with
      | none=>rw [kh] at hf;cases hf
      | some B=>
       rw [kh] at hf;simp at hf;subst hf
       obtain ⟨I,J⟩:=td (ρ:=ρ) (ev:=ev) (dV:=dV) ps (fun x hx=>cy x.2 (by simp [Op.operands];exact ⟨x.1,hx⟩))
       obtain ⟨B',r1,U,ae⟩:=r6 (ρ:=ρ) _ _ _ _ _ B kh I J (uU ρ du (len * s))
       refine ⟨.slice (some ⟨w.heap.size,0,none⟩) len len,B',e,?_,U,fun ρ' id hr hi=> .sl (fun h=>h) (Nat.le_refl _) (fun _=>k7 hi) (fun h=>by omega)⟩
       have jM:(ps.map fun x=>(x.1,dV x.2)).toList=ps.toList.map fun p=>(p.1,dV p.2):=by simp
       by_cases h0:len * s=0
       ·have zG:Instr.fill (fun i=>some (i * s,s)) #[] (ps.toList.map fun p=>(p.1,dV p.2))=some B':=by rw [h0] at r1;simpa [Array.range_zero'] using r1
        simp only [execOp,ay,Instr.buildSlice,Sem.run_bind,cJ hu,fk hs,Result.andThen_ok]
        simp [h0,Array.range_zero',zG,newRow]
       ·have lz:¬ 16777216<len * s:=by omega
        simp only [execOp,ay,Instr.buildSlice,Sem.run_bind,cJ hu,fk hs,Result.andThen_ok]
        simp [h0,lz,kr hz,newRow,r1]
     ·cases hf
  ·cases hf
 case makeSlice t l c=>
  unfold aMakeSlice at hf
  split at hf
  ·rename_i e k n aa m hu hl ab
   have o8:=cy l (by simp [Op.operands])
   have sS:=cy c (by simp [Op.operands])
   rw [hl] at o8
   rw [ab] at sS
   generalize je:dV l=l' at o8
   generalize eg:dV c=c' at sS
   cases o8;cases sS
   cases hs:b6 P e with
   | none=>rw [hs] at hf;cases hf
   | some s=>
    rw [hs] at hf
    simp only [ax] at hf
    cases hb:ju P e with
    | none=>rw [hb] at hf;cases hf
    | some bX=>
     rw [hb] at hf
     simp only [ax] at hf
     cases hz:ec P e with
     | none=>rw [hz] at hf;cases hf
     | some z=>
      rw [hz] at hf
      simp only [ax] at hf
      split at hf
      ·rename_i hc
       obtain ⟨du,j,ad,rfl,ja,ta⟩:=hc
       simp at hf;subst hf
       refine ⟨.slice (some ⟨w.heap.size,0,none⟩) n.toNat n.toNat,(Array.range (n.toNat * s)).map fun i=>z.cells[i % z.cells.size]!,e,?_,by simpa using uU ρ du (n.toNat * s),fun ρ' id hr hi=> .sl (fun h=>h) (Nat.le_refl _) (fun _=>k7 hi) (fun h=>by omega)⟩
       obtain ⟨i,hi,rj⟩:∃ i,P.info? e=some i∧i.bytes=bX:=by
        unfold ju at hb
        cases hi:P.info? e with
        | none=>rw [hi] at hb;cases hb
        | some i=>rw [hi] at hb;exact ⟨i,rfl,by simpa using hb⟩
       have xj:i.size=s:=by unfold b6 at hs;rw [hi] at hs;simpa using hs
       have CQ:i.zero=some z:=by unfold ec at hz;rw [hi] at hz;simpa using hz
       have:=run_make (P:=P) w t e i z hu hi CQ k aa n n ad (Int.le_refl _) (by rw [rj];exact ja) (by omega)
       simp only [execOp,ay,je,eg,Sem.run_bind,this,Result.andThen_ok,Sem.run_pure,madeCells,xj]
      ·cases hf
  ·cases hf
end
end
section
open Go
variable [Marks]
section
variable {P:Program} {ρ:a4}
theorem g1 (h:AH) (cs:List Value) (z:Nat):(h.alloc cs z).ae=bM h.ae h.next (some ⟨cs,true,z⟩):=by funext b;simp [AH.fe,bM]
theorem kI (h:AH) (c:Nat) (x:Option dS):(h.put c x).ae=bM h.ae c x:=by funext b;simp [AH.gQ,bM]
theorem vo (ρ:a4) (l:List UInt8):LR ρ (l.map eT) (l.map eT):=p9 ρ fun v hv=>by
 simp at hv
 obtain ⟨b,_,rfl⟩:=hv
 exact .int _ _
theorem Bt {w:World} {h:AH} {s m:Nat} {x x':Value} {cs:List Value} (hs:bB ρ w h.ae h.next) (hn:aNews s x h=some (m,cs)) (hx:VR ρ x x'):
  ∃ a9,LR ρ cs a9∧cs.length=m * s∧(Builtin.lenOf x').run P w= .ok m w∧∀ w2:World,w2.heap=w.heap→(Builtin.firstCells s m x').run P w2= .ok a9.toArray w2:=by
 unfold aNews at hn
 split at hn
 ·rename_i n c
  split at hn
  ·rename_i h0
   simp at hn
   obtain ⟨rfl,rfl⟩:=hn
   subst h0
   cases hx
   exact ⟨[],LR.nil ρ,by simp,by simp [Builtin.lenOf],fun w2 _=>by simp [Builtin.firstCells]⟩
  ·cases hn
 ·rename_i a n c
  cases hc:h.cN a (n * s) with
  | none=>rw [hc] at hn;cases hn
  | some l=>
   rw [hc] at hn;simp at hn
   obtain ⟨rfl,rfl⟩:=hn
   obtain ⟨a',c',rfl,I⟩:∃ a' c',x'= .slice (some a') n c'∧(0<n→AR ρ a a'):=by
    cases hx with
    | sl h1 h2 I ab=>exact ⟨_,_,rfl,I⟩
   by_cases h0:n=0
   ·subst h0
    have hl:l=[]:=by
     unfold AH.cN at hc
     split at hc
     ·cases hb:h.ae a.block with
      | none=>rw [hb] at hc;cases hc
      | some B=>
       rw [hb] at hc
       simp at hc
       exact by simpa using hc.2.symm
     ·cases hc
    subst hl
    exact ⟨[],LR.nil ρ,by simp,by simp [Builtin.lenOf],fun w2 _=>by simp [Builtin.firstCells,loadCells,loadCellsFrom]⟩
   ·obtain ⟨a9,J,U,aa⟩:=lF hs hc (I (by omega))
    refine ⟨a9,J,U,by simp [Builtin.lenOf],fun w2 hw=>?_⟩
    have:=run_loadCells_list (P:=P) w2 a' a9 (fun j v hv=>by rw [← aa j v hv];exact World.cell?_of_block (by rw [hw]))
    rw [← J.1,U] at this
    simpa [Builtin.firstCells] using this
 ·rename_i b
  split at hn
  ·rename_i h1
   simp at hn
   obtain ⟨rfl,rfl⟩:=hn
   cases hx
   refine ⟨b.data.toList.map eT,vo ρ _,by simp [h1],by simp [Builtin.lenOf],fun w2 _=>?_⟩
   have e:(b.extract 0 b.size)=b:=by simp
   simp only [Builtin.firstCells,e,Sem.run_pure]
   congr 1
   apply Array.ext'
   simp [eT]
  ·cases hn
 ·cases hn
theorem room_le {sa cap bX:Nat} (h:cap<sa) (hb:sa * bX≤140737488355328):¬ (2 ^ 48<Builtin.nextslicecap sa cap * bX):=by
 have:=growslice_fits h hb
 omega
theorem A3 {w:World} {h h':AH} {t tx ty:TypeId} {sv x sR x' v:Value} (hs:bB ρ w h.ae h.next) (ha:aAppend P t tx sv x h=some (v,h')) (qe:VR ρ sv sR) (hx:VR ρ x x'):
  ∃ ρ' v' w',(Builtin.append_ #[t,tx] ty #[sR,x']).run P w= .ok v' w'∧VR ρ' v v'∧bB ρ' w' h'.ae h'.next∧Ext ρ h.ae h.next w ρ' h'.ae h'.next w':=by
 unfold aAppend at ha
 split at ha
 ·rename_i e dx base n c hu sE
  split at ha
  ·rename_i oz
   have ag:(∃ q,dx= .slice q)∨dx= .string:=by cases dx<;>simp [appKind] at oz ⊢
   cases cc:b6 P e with
   | none=>rw [cc] at ha;cases ha
   | some s=>
    rw [cc] at ha;simp only [ax] at ha
    cases ja:ju P e with
    | none=>rw [ja] at ha;cases ha
    | some bX=>
     rw [ja] at ha;simp only [ax] at ha
     cases hz:ec P e with
     | none=>rw [hz] at ha;cases ha
     | some z=>
      rw [hz] at ha;simp only [ax] at ha
      cases hn:aNews s x h with
      | none=>rw [hn] at ha;cases ha
      | some mx=>
       obtain ⟨m,news⟩:=mx
       rw [hn] at ha;simp only [ax] at ha
       split at ha
       ·rename_i hc
        obtain ⟨du,aU,xl,Fy,GZ,fF⟩:=hc
        obtain ⟨h9,hl,hlen,mO,o7⟩:=Bt (P:=P) hs hn hx
        have oU:∀ u∈h9,u.oneCell'=true:=by
         intro u iz
         obtain ⟨i,hi⟩:=List.mem_iff_getElem?.1 iz
         have dJ:i<news.length:=by rw [hl.1];exact (List.getElem?_eq_some_iff.1 hi).1
         have hv:=hl.2 i _ u (aX dJ) hi
         rw [hv.qB]
         exact List.all_eq_true.1 fF _ (List.getElem_mem dJ)
        obtain ⟨i,hi,rj⟩:∃ i,P.info? e=some i∧i.bytes=bX:=by
         unfold ju at ja
         cases hi:P.info? e with
         | none=>rw [hi] at ja;cases ja
         | some i=>rw [hi] at ja;exact ⟨i,rfl,by simpa using ja⟩
        have FV:∀ w:World,(typeInfo e).run P w= .ok i w:=fun w=>by simp [typeInfo,hi]
        obtain ⟨ie,c',rfl,ak,av,lj,zE⟩:∃ ie c',sR= .slice ie n c'∧(c=n→c'=n)∧n≤c'∧(base=none→ie=none)∧
          (∀ a,base=some a→∃ a',ie=some a'∧(0<n→AR ρ a a')∧(c=n+1→AR ρ a a'∧∃ p,ρ a.block=some p∧a.off+c' * p.sz≤p.ext)):=by
         cases qe with
         | gl h1 h2=>exact ⟨_,_,rfl,h1,h2,fun _=>rfl,fun a h=>(by cases h)⟩
         | sl h1 h2 aw ay=>exact ⟨_,_,rfl,h1,h2,fun h=>(by cases h),fun a h=>(by cases h;exact ⟨_,rfl,aw,ay⟩)⟩
        have dA:ρ h.next=none:=by
         cases hr:ρ h.next with
         | none=>rfl
         | some p=>have:=hs.er _ p hr;omega
        have grow:∀ (fj:List Value),c'<n+m→(∀ w2:World,w2.heap=w.heap→(Builtin.firstCells s n (.slice ie n c')).run P w2= .ok fj.toArray w2)→
          (Builtin.append_ #[t,tx] ty #[.slice ie n c',x']).run P w= .ok (.slice (some ⟨w.heap.size,0,none⟩) (n+m) (grownCap w (n+m) c' e))
           (w.drew.alloc (.cells (fj.toArray++h9.toArray++Builtin.zeroCells z.cells (grownCap w (n+m) c' e - (n+m))) e)):=by
         intro fj bD hold
         have az:¬ (n+m≤c'):=by omega
         have aA:¬ (((n+m:Nat):Int)>IntKind.i64.max∧(False∨i.bytes=0)):=by
          have:IntKind.i64.max=9223372036854775807:=by decide
          rw [this];omega
         have aB:¬ (Builtin.nextslicecap (n+m) c' * i.bytes>2 ^ 48):=by rw [rj];exact room_le bD Fy
         have h1:=hold w.drew rfl
         have h2:=o7 w.drew rfl
         have hq:(Question.appendCap (n+m) c' e).forced=false:=rfl
         unfold Builtin.append_
         simp only [List.getElem?_toArray,List.getElem?_cons_zero,List.getElem?_cons_succ,Sem.run_bind,cJ hu,fk cc,cJ sE,Result.andThen_ok,Sem.run_pure,mO]
         rcases ag with ⟨q,rfl⟩ | rfl
         all_goals
          simp only [Bool.false_eq_true,if_false,Sem.run_bind,mO,Result.andThen_ok,az,Sem.run_ite,FV,aA,aB,run_choose,hq,run_askRoom,World.drew_eq,h1,Bool.not_false,if_true,h2,kr hz,newRow,run_newObj,World.alloc_eq,Sem.run_pure]
          rfl
        have zc:∀ k,(Builtin.zeroCells z.cells k).size=k * s:=fun k=>by simp [Builtin.zeroCells,xl]
        have grown:∀ (c4 fj:List Value),LR ρ c4 fj→c4.length=n * s→c'<n+m→(∀ w2:World,w2.heap=w.heap→(Builtin.firstCells s n (.slice ie n c')).run P w2= .ok fj.toArray w2)→
          ∀ (dK:da),(∀ b B,dK b=some B→h.ae b=some B)→(∀ b,ρ b=none→dK b=h.ae b)→
          ∃ ρ' v' w',(Builtin.append_ #[t,tx] ty #[.slice ie n c',x']).run P w= .ok v' w'∧VR ρ' (.slice (some ⟨h.next,0,none⟩) (n+m) (n+m+1)) v'∧
           bB ρ' w' (bM dK h.next (some ⟨c4++news,true,s⟩)) (h.next+1)∧Ext ρ h.ae h.next w ρ' (bM dK h.next (some ⟨c4++news,true,s⟩)) (h.next+1) w':=by
         intro c4 fj ho tW bD hold dK an aC
         have hg:=grownCap_ge w (n+m) c' e
         refine ⟨bQ ρ h.next ⟨w.heap.size,0,s,grownCap w (n+m) c' e * s⟩,_,_,grow fj bD hold,?_,?_,?_⟩
         ·refine .sl (fun q=>by omega) hg (fun _=>k7 (by simp [bQ];exact ⟨rfl,rfl⟩)) (fun _=>⟨k7 (by simp [bQ];exact ⟨rfl,rfl⟩),_,by simp [bQ];rfl,by simp⟩)
         ·have aD:bB ρ w.drew dK h.next:=(hs.less an).world rfl
          refine bB.made (fr:=(0,0)) (el:=e) (C:=fj.toArray++h9.toArray++Builtin.zeroCells z.cells (grownCap w (n+m) c' e - (n+m))) aD dA (a7 _) (Nat.le_succ _) (ho.append hl) (by simp) (fun k hk=>heap_alloc_old w.drew _ k hk) (heap_alloc_new w.drew _) ?_ ?_ ?_ (.inl rfl)
          ·intro i v hv
           have aE:i<(fj++h9).length:=(List.getElem?_eq_some_iff.1 hv).1
           rw [Array.getElem?_append_left (by simpa using aE)]
           simpa using hv
          ·have h1:fj.length=n * s:=by rw [← ho.1];exact tW
           have h2:h9.length=m * s:=by rw [← hl.1];exact hlen
           simp only [Array.size_append,List.size_toArray,h1,h2,zc,← Nat.add_mul]
           exact Nat.mul_le_mul_right _ (by omega)
          ·rw [b7,tW,hlen,← Nat.add_mul]
           exact Nat.mul_le_mul_right _ hg
         ·have hE:=Ext.made (ρ:=ρ) (w:=w) (ae:=h.ae) (next:=h.next) (next':=h.next+1) (w1:=w.drew.alloc (.cells (fj.toArray++h9.toArray++Builtin.zeroCells z.cells (grownCap w (n+m) c' e - (n+m))) e)) dA (Nat.le_refl _) (Nat.le_succ _) (pl:=⟨w.heap.size,0,s,grownCap w (n+m) c' e * s⟩) rfl (B:=⟨c4++news,true,s⟩) (by simp) (fun k hk=>heap_alloc_old w.drew _ k hk) rfl rfl rfl
          exact ⟨hE.le,hE.os,hE.tape,hE.output,hE.size,hE.nx,hE.a3,fun k hk ⟨b,B,p,I,J,ad,ao⟩=>by
           by_cases eb:b=h.next
           ·subst eb;exact hE.gH k hk ⟨h.next,B,p,by simpa [bM] using I,J,ad,ao⟩
           ·exact hE.gH k hk ⟨b,B,p,by simpa [bM,eb] using an b B (by simpa [bM,eb] using I),J,ad,ao⟩,hE.new,fun b hb hr=>by
            simp only [bM]
            rw [if_neg (by omega)]
            exact aC b hr⟩
        by_cases hm:m=0
        ·
         rw [if_pos hm] at ha
         simp at ha
         obtain ⟨rfl,rfl⟩:=ha
         subst hm
         have aF:h9=[]:=by
          have h1:news.length=0:=by rw [hlen];simp
          have:h9.length=0:=by rw [← hl.1];exact h1
          exact List.eq_nil_of_length_eq_zero this
         subst aF
         refine ⟨ρ, .slice ie n c',w,?_,qe,hs,Ext.refl _ _ _ _⟩
         have h2:=o7 w rfl
         unfold Builtin.append_
         simp only [List.getElem?_toArray,List.getElem?_cons_zero,List.getElem?_cons_succ,Sem.run_bind,cJ hu,fk cc,cJ sE,Result.andThen_ok,Sem.run_pure,mO]
         rcases ag with ⟨q,rfl⟩ | rfl
         all_goals
          simp only [Bool.false_eq_true,if_false,Sem.run_bind,mO,Result.andThen_ok,Nat.add_zero,av,if_true,Bool.not_false,h2]
          cases ie<;>simp [storeCells]
        ·rw [if_neg hm] at ha
         cases pE:base with
         | none=>
          rw [pE] at ha
          simp only at ha
          split at ha
          ·rename_i h0
           obtain ⟨rfl,rfl⟩:=h0
           simp at ha
           obtain ⟨rfl,rfl⟩:=ha
           obtain rfl:=lj pE
           have:=ak rfl
           subst this
           obtain ⟨ρ',v',w',r1,U,aa,ab⟩:=grown [] [] (LR.nil ρ) (by simp) (by omega) (fun w2 _=>by simp [Builtin.firstCells]) h.ae (fun _ _ h=>h) (fun _ _=>rfl)
           simp only [Nat.zero_add,List.nil_append] at U aa ab
           exact ⟨ρ',v',w',r1,U,by rw [g1];exact aa,by rw [g1];exact ab⟩
          ·cases ha
         | some a=>
          rw [pE] at ha
          simp only at ha
          obtain ⟨a',rfl,oK,EU⟩:=zE a pE
          split at ha
          ·rename_i gw
           have wj:=ak gw
           cases hold:h.cN a (n * s) with
           | none=>rw [hold] at ha;cases ha
           | some c4=>
            rw [hold] at ha;simp at ha
            obtain ⟨rfl,rfl⟩:=ha
            have FQ:∃ fj,LR ρ c4 fj∧c4.length=n * s∧∀ w2:World,w2.heap=w.heap→(Builtin.firstCells s n (.slice (some a') n c')).run P w2= .ok fj.toArray w2:=by
             by_cases h0:n=0
             ·subst h0
              have aG:c4=[]:=by
               unfold AH.cN at hold
               split at hold
               ·cases hb:h.ae a.block with
                | none=>rw [hb] at hold;cases hold
                | some B=>rw [hb] at hold;simp at hold;exact by simpa using hold.2.symm
               ·cases hold
              subst aG
              exact ⟨[],LR.nil ρ,by simp,fun w2 _=>by simp [Builtin.firstCells,loadCells,loadCellsFrom]⟩
             ·obtain ⟨a9,I,J,ad⟩:=lF hs hold (oK (by omega))
              refine ⟨a9,I,J,fun w2 hw=>?_⟩
              have:=run_loadCells_list (P:=P) w2 a' a9 (fun j v hv=>by rw [← ad j v hv];exact World.cell?_of_block (by rw [hw]))
              rw [← I.1,J] at this
              simpa [Builtin.firstCells] using this
            obtain ⟨fj,aH,aI,aJ⟩:=FQ
            obtain ⟨ρ',v',w',r1,U,aa,ab⟩:=grown c4 fj aH aI (by omega) aJ h.ae (fun _ _ h=>h) (fun _ _=>rfl)
            exact ⟨ρ',v',w',r1,U,by rw [g1];exact aa,by rw [g1];exact ab⟩
          ·split at ha
           ·rename_i gw yI
            obtain ⟨mR,sV⟩:=yI
            obtain ⟨AM,p,hp,sy⟩:=EU mR
            cases hB:h.ae a.block with
            | none=>rw [hB] at ha;cases ha
            | some B=>
             rw [hB] at ha
             simp only [ax] at ha
             split at ha
             ·rename_i aK
              obtain ⟨e9,uu,s8⟩:=aK
              simp at ha
              obtain ⟨rfl,rfl⟩:=ha
              obtain ⟨_,p',e3,rfl⟩:=AM
              rw [hp] at e3;cases e3
              obtain ⟨he,GX,cur,el,fr,ah,aV,aL⟩:=hs.own _ B p hB hp e9
              have jM:p.sz=s:=by rw [← he];exact uu
              rw [jM] at sy
              by_cases q8:n+m≤c'
              ·
               have GR:(n+m) * s≤c' * s:=Nat.mul_le_mul_right _ q8
               have jn:(n+m) * s=n * s+m * s:=Nat.add_mul _ _ _
               have aW:h9.length=m * s:=by rw [← hl.1];exact hlen
               obtain ⟨w',fx,r1,U,aa,ab,aq,ar,aM,aN,aO⟩:=r8 (P:=P) p.ae (p.off+a.off+n * s) h9 0 w cur el fr ah (by omega) (fun j I J=>qL aL j (by omega)) oU
               have hJ:(Builtin.append_ #[t,tx] ty #[.slice (some ⟨p.ae,p.off+a.off,none⟩) n c',x']).run P w= .ok (.slice (some ⟨p.ae,p.off+a.off,none⟩) (n+m) c') w':=by
                have h2:=o7 w rfl
                have rY:(⟨p.ae,p.off+a.off,none⟩:Addr).add (n * s)=⟨p.ae,p.off+a.off+n * s,none⟩:=by unfold Addr.add;split<;>simp_all
                unfold Builtin.append_
                simp only [List.getElem?_toArray,List.getElem?_cons_zero,List.getElem?_cons_succ,Sem.run_bind,cJ hu,fk cc,cJ sE,Result.andThen_ok,Sem.run_pure,mO]
                rcases ag with ⟨q,rfl⟩ | rfl
                all_goals
                 simp only [Bool.false_eq_true,if_false,Sem.run_bind,mO,Result.andThen_ok,q8,if_true,Bool.not_false,h2,rY,r1,Sem.run_pure,List.toList_toArray]
               have m2:∀ (i:Nat) v,(B.cells++news)[i]?=some v→∃ v',fx[p.off+i]?=some v'∧VR ρ v v':=by
                intro i v hv
                rw [ab]
                by_cases aP:i<B.cells.length
                ·rw [List.getElem?_append_left aP] at hv
                 obtain ⟨v',I,J⟩:=hs.cell _ B p hB hp i v hv
                 rw [ig ah] at I
                 exact ⟨v',by rw [if_neg (by omega)];exact I,J⟩
                ·rw [List.getElem?_append_right (by omega)] at hv
                 obtain ⟨v',I,J⟩:=hl.get hv
                 have aY:i - B.cells.length<h9.length:=(List.getElem?_eq_some_iff.1 I).1
                 exact ⟨v',by rw [if_pos (by omega)];rw [← I];congr 1;omega,J⟩
               have aQ:(B.cells++news).length≤p.ext:=by rw [b7];omega
               have aS:=hs.wrote hB hp e9 ah U aa aq ar aQ m2
               have aT:=Ext.wrote (next:=h.next) hB hp e9 aq ar aM aN aO (some ⟨B.cells++news,true,B.dL⟩)
               have au:bM h.ae a.block (some ⟨B.cells++news,true,B.dL⟩) a.block=some ⟨B.cells++news,true,B.dL⟩:=by simp [bM]
               have ai:=aS.sD au hp rfl (id:=h.next) (next':=h.next+1) dA (a7 _) (Nat.le_succ _) a.off (by omega) (by omega)
               have aj:=Ext.sD (w:=w') (next:=h.next) (next':=h.next+1) au hp rfl (id:=h.next) dA (Nat.le_refl _) (Nat.le_succ _) (pl:=⟨p.ae,p.off+a.off,p.sz,p.ext - a.off⟩) rfl ⟨(B.cells++news).drop a.off,true,B.dL⟩
               have sI:(B.cells++news).drop a.off=B.cells.drop a.off++news:=by rw [List.drop_append_of_le_length (by omega)]
               have gi:bM (bM (bM h.ae a.block (some ⟨B.cells++news,true,B.dL⟩)) a.block none) h.next (some ⟨(B.cells++news).drop a.off,true,B.dL⟩)=((h.put a.block none).alloc (B.cells.drop a.off++news) s).ae:=by
                rw [g1,AH.oe,kI,sI,uu]
                funext b
                simp only [bM]
                by_cases e1:b=h.next
                ·rw [if_pos e1,if_pos e1]
                ·rw [if_neg e1,if_neg e1]
                 by_cases af:b=a.block
                 ·rw [if_pos af,if_pos af]
                 ·rw [if_neg af,if_neg af,if_neg af]
               simp only at ai aj
               rw [gi] at ai aj
               refine ⟨_,_,w',hJ,?_,ai,aT.trans aj⟩
               have k8:bQ ρ h.next ⟨p.ae,p.off+a.off,p.sz,p.ext - a.off⟩ h.next=some ⟨p.ae,p.off+a.off,p.sz,p.ext - a.off⟩:=by simp [bQ]
               refine .sl (fun q=>by omega) q8 (fun _=>⟨rfl,_,k8,by simp⟩) (fun _=>⟨⟨rfl,_,k8,by simp⟩,_,k8,?_⟩)
               simp only [jM];omega
              ·
               have hold:h.cN a (n * s)=some (B.cells.drop a.off):=by
                simp only [AH.cN,sV,hB,ax]
                rw [if_pos (by omega),List.take_of_length_le (by simp;omega)]
               obtain ⟨a9,I,J,ad⟩:=lF hs hold ⟨sV,p,hp,rfl⟩
               obtain ⟨ρ',v',w',r1,U,aa,ab⟩:=grown _ a9 I J (by omega) (fun w2 hw=>by
                have:=run_loadCells_list (P:=P) w2 ⟨p.ae,p.off+a.off,none⟩ a9 (fun j v hv=>by rw [← ad j v hv];exact World.cell?_of_block (by rw [hw]))
                rw [← I.1,J] at this
                simpa [Builtin.firstCells] using this) (bM h.ae a.block none) (fun b C hC=>by
                 by_cases e:b=a.block
                 ·subst e;simp [bM] at hC
                 ·simpa [bM,e] using hC) (fun b hr=>by
                 simp only [bM]
                 rw [if_neg (fun e=>by subst e;rw [hp] at hr;cases hr)])
               exact ⟨ρ',v',w',r1,U,by rw [g1,kI];exact aa,by rw [g1,kI];exact ab⟩
             ·cases ha
           ·cases ha
       ·cases ha
  ·cases ha
 ·cases ha
end
end
section
open Go
variable [Marks]
section
variable {P:Program} {ρ:a4}
theorem Dq:∀ (cs a9:List Value) (bs:List UInt8),bytesOf cs=some bs→LR ρ cs a9→∃ ns:List Int,a9=ns.map (Value.int .u8)∧bs=ns.map fun n=>UInt8.ofNat n.toNat:=by
 intro cs
 induction cs with
 | nil=>intro a9 bs h hl;obtain rfl:=hl.lW;simp [bytesOf] at h;subst h;exact ⟨[],rfl,rfl⟩
 | cons c cs ih=>
  intro a9 bs h hl
  obtain ⟨c',a9,rfl,hc,je⟩:=hl.cons_inv
  cases hc<;>first | (simp only [bytesOf] at h;cases h;done) | skip
  rename_i k n
  cases k<;>first | (simp only [bytesOf] at h;cases h;done) | skip
  simp [bytesOf] at h
  obtain ⟨jK,h1,rfl⟩:=h
  obtain ⟨ns,rfl,rfl⟩:=ih _ _ h1 je
  exact ⟨n::ns,rfl,rfl⟩
theorem BM:∀ (ns:List Int) (l:List UInt8),ns.foldl (fun (r:ByteArray) n=>r.push (UInt8.ofNat n.toNat)) ⟨l.toArray⟩=⟨(l++ns.map fun n=>UInt8.ofNat n.toNat).toArray⟩:=by
 intro ns
 induction ns with
 | nil=>intro l;simp
 | cons n ns ih=>
  intro l
  simp only [List.foldl_cons,List.map_cons]
  have:(⟨l.toArray⟩:ByteArray).push (UInt8.ofNat n.toNat)=⟨(l++[UInt8.ofNat n.toNat]).toArray⟩:=by
   simp [ByteArray.push]
  rw [this,ih]
  simp
theorem bB.marked {w:World} {ae:da} {next:Nat} (h:bB ρ w ae next) {g:Nat} {cur:Array Value} {el:TypeId} {fr:Nat×Nat} (hg:w.heap[g]?=some (.cells cur el fr)):
  bB ρ (w.freeze ⟨g,cur.size,none⟩ 1) ae next∧(∀ k,k≠g→(w.freeze ⟨g,cur.size,none⟩ 1).heap[k]?=w.heap[k]?)∧(w.freeze ⟨g,cur.size,none⟩ 1).heap.size=w.heap.size:=by
 have rv:∀ k,k≠g→(w.freeze ⟨g,cur.size,none⟩ 1).heap[k]?=w.heap[k]?:=fun k hk=>by simp [World.freeze,Array.getElem?_modify,Ne.symm hk]
 have eE:∃ kx,(w.freeze ⟨g,cur.size,none⟩ 1).heap[g]?=some (.cells cur el kx)∧(kx=(cur.size,cur.size+1)∨(fr.1≠fr.2∧kx=(min fr.1 cur.size,max fr.2 (cur.size+1)))):=by
  obtain ⟨lo,hi⟩:=fr
  by_cases e:lo=hi
  ·refine ⟨(cur.size,cur.size+1),?_, .inl rfl⟩
   simp [World.freeze,Array.getElem?_modify,hg,e]
  ·refine ⟨(min lo cur.size,max hi (cur.size+1)),?_, .inr ⟨e,rfl⟩⟩
   simp [World.freeze,Array.getElem?_modify,hg,e]
 have cc:(w.freeze ⟨g,cur.size,none⟩ 1).heap.size=w.heap.size:=by simp [World.freeze]
 obtain ⟨kx,aa,ab⟩:=eE
 refine ⟨⟨h.er,fun b p q=>by rw [cc];exact h.lt b p q,fun b B p q r i v hv=>?_,fun b B p q r s=>?_,h.apart,h.live⟩,rv,cc⟩
 ·obtain ⟨v',J,ad⟩:=h.cell b B p q r i v hv
  refine ⟨v',?_,ad⟩
  by_cases e:p.ae=g
  ·rw [e] at J ⊢
   rw [ig aa]
   rw [ig hg] at J
   exact J
  ·rw [← J];exact World.cell?_of_block (rv _ e)
 ·obtain ⟨h1,h2,c0,e0,f0,j,U,I⟩:=h.own b B p q r s
  by_cases e:p.ae=g
  ·rw [e] at j ⊢
   rw [hg] at j
   injection j with j
   injection j with e1 af ag
   subst e1;subst af;subst ag
   refine ⟨h1,h2,cur,el,kx,aa,U,?_⟩
   rcases ab with rfl | ⟨cp,rfl⟩
   ·exact .inr U
   ·right
    rcases I with I | I
    ·exact absurd I cp
    ·simp only;omega
  ·exact ⟨h1,h2,c0,e0,f0,by rw [rv _ e];exact j,U,I⟩
theorem yZ {w:World} {h h':AH} {src dst:TypeId} {x x' v:Value} (hs:bB ρ w h.ae h.next) (hc:aConvert P src dst x h=some (v,h')) (hx:VR ρ x x'):
  ∃ ρ' v' w',(convert src dst x').run P w= .ok v' w'∧VR ρ' v v'∧bB ρ' w' h'.ae h'.next∧Ext ρ h.ae h.next w ρ' h'.ae h'.next w':=by
 unfold aConvert at hc
 split at hc
 ·rename_i d k ai n gE gq
  simp at hc;obtain ⟨rfl,rfl⟩:=hc
  cases hx
  exact ⟨ρ,_,w,by simp [convert,cJ gE,cJ gq,Conv.intToInt], .int _ _,hs,Ext.refl _ _ _ _⟩
 ·rename_i d s gE gq
  simp at hc;obtain ⟨rfl,rfl⟩:=hc
  cases hx
  exact ⟨ρ,_,w,by simp [convert,cJ gE,cJ gq], .string _,hs,Ext.refl _ _ _ _⟩
 ·rename_i e s gE gq
  split at hc
  ·rename_i he
   simp at hc;obtain ⟨rfl,rfl⟩:=hc
   cases hx
   have dA:ρ h.next=none:=by
    cases hr:ρ h.next with
    | none=>rfl
    | some p=>have:=hs.er _ p hr;omega
   have DQ:∀ (i:Nat) v,(s.data.toList.map eT)[i]?=some v→(Lib.bytesCells w e s)[i]?=some v:=by
    intro i v hv
    have bD:i<(s.data.toList.map eT).length:=(List.getElem?_eq_some_iff.1 hv).1
    have U:i<(s.data.map fun b=>Value.int .u8 (b.toNat:Int)).size:=by simpa using bD
    unfold Lib.bytesCells
    rw [Array.getElem?_append_left U]
    simpa [eT] using hv
   have cc:s.size≤(Lib.bytesCells w e s).size:=by simp [Lib.bytesCells]
   refine ⟨bQ ρ h.next ⟨w.heap.size,0,1,s.size⟩,_,_,Lib.run_convert_string_bytes w src dst e s gE gq he,?_,?_,?_⟩
   ·exact .sl (fun q=>by omega) (grownCap_ge w s.size 0 e) (fun _=>k7 (sz:=1) (ext:=s.size) (by simp [bQ])) (fun q=>by omega)
   ·rw [g1]
    exact bB.made hs dA (a7 _) (Nat.le_succ _) (vo ρ _) (Lib.bytesWorld_size w e s) (fun k hk=>Lib.bytesWorld_at_old w e s k hk) (Lib.bytesWorld_at_new w e s) DQ cc (by simp) (.inr cc)
   ·rw [g1]
    exact Ext.made dA (Nat.le_refl _) (Nat.le_succ _) rfl (Lib.bytesWorld_size w e s) (fun k hk=>Lib.bytesWorld_at_old w e s k hk) rfl rfl rfl
  ·cases hc
 ·rename_i e0 e a n c gE gq
  split at hc
  ·rename_i he
   split at hc
   ·rename_i ko
    obtain ⟨rfl,hn,e9⟩:=ko
    simp at hc;obtain ⟨rfl,rfl⟩:=hc
    obtain ⟨a',c',rfl,j⟩:∃ a' c',x'= .slice (some a') n c'∧(0<n→AR ρ a a'):=by
     cases hx with
     | sl h1 h2 j aa=>exact ⟨_,_,rfl,j⟩
    obtain ⟨gb,p,hp,rfl⟩:=j hn
    cases hB:h.ae a.block with
    | none=>rw [hB] at e9;cases e9
    | some B=>
     rw [hB] at e9
     simp at e9
     obtain ⟨h1,h2,cur,el,fr,I,aj,ak⟩:=hs.own _ B p hB hp e9
     obtain ⟨ab,ad,an⟩:=hs.marked I
     refine ⟨ρ,_,w.freeze ⟨p.ae,cur.size,none⟩ 1,?_,hx,ab,?_⟩
     ·have zk:w.shape? p.ae=some (el,cur.size):=by simp [World.shape?,I]
      have af:e0=e:=by rw [gE] at gq;cases gq;rfl
      subst af
      simp [convert,cJ gE,cJ he,markStringish,zk]
     ·exact ⟨c3.refl _,rfl,rfl,rfl,by omega,Nat.le_refl _,fun k hk ho=>ad k fun e=>ho ⟨_,B,p,hB,e9,hp,e.symm⟩,fun k _ q=>q,fun _ _ q=> .inl q,fun _ _ _=>rfl⟩
   ·cases hc
  ·cases hc
 ·rename_i e n c gE gq
  split at hc
  ·rename_i he
   simp at hc;obtain ⟨rfl,rfl⟩:=hc
   obtain ⟨c',rfl⟩:∃ c',x'= .slice none n c':=by
    cases hx with
    | gl h1 h2=>exact ⟨_,rfl⟩
   exact ⟨ρ,_,w,by rw [run_convert_bytes_string w src dst e none n c' gE he gq];simp [Conv.bytesToString], .string _,hs,Ext.refl _ _ _ _⟩
  ·cases hc
 ·rename_i e a n c gE gq
  split at hc
  ·rename_i he
   obtain ⟨a',c',rfl,j⟩:∃ a' c',x'= .slice (some a') n c'∧(0<n→AR ρ a a'):=by
    cases hx with
    | sl h1 h2 j aa=>exact ⟨_,_,rfl,j⟩
   split at hc
   ·rename_i h0
    subst h0
    simp at hc;obtain ⟨rfl,rfl⟩:=hc
    refine ⟨ρ, .string .empty,w,?_, .string _,hs,Ext.refl _ _ _ _⟩
    rw [run_convert_bytes_string w src dst e (some a') 0 c' gE he gq,run_bytesToString w a' 0 c' [] (by simp [loadCells,loadCellsFrom])]
    rfl
   ·rename_i h0
    cases dI:h.cN a n with
    | none=>rw [dI] at hc;cases hc
    | some cs=>
     rw [dI] at hc
     simp only [ax] at hc
     cases oV:bytesOf cs with
     | none=>rw [oV] at hc;cases hc
     | some bs=>
      rw [oV] at hc
      simp at hc;obtain ⟨rfl,rfl⟩:=hc
      obtain ⟨a9,J,ag,ah⟩:=lF hs dI (j (by omega))
      obtain ⟨ns,rfl,rfl⟩:=Dq _ _ _ oV J
      have ug:=run_loadCells_list (P:=P) w a' _ ah
      rw [← J.1,ag] at ug
      refine ⟨ρ,_,w,?_, .string _,hs,Ext.refl _ _ _ _⟩
      rw [run_convert_bytes_string w src dst e (some a') n c' gE he gq,run_bytesToString w a' n c' ns ug]
      have:=BM ns []
      simp only [List.nil_append] at this
      rw [← this]
      rfl
  ·cases hc
 ·cases hc
theorem AP {w:World} {h h':AH} {t:TypeId} {x x' v v':Value} (hs:bB ρ w h.ae h.next) (bp:iT P t x v h=some h') (hx:VR ρ x x') (hv:VR ρ v v'):
  ∃ w',(Instr.storeAt t x' v').run P w= .ok () w'∧bB ρ w' h'.ae h'.next∧Ext ρ h.ae h.next w ρ h'.ae h'.next w':=by
 unfold iT at bp
 split at bp
 ·rename_i a
  obtain ⟨a',rfl,ha⟩:∃ a',x'= .pointer (some a')∧AR ρ a a':=by
   cases hx with
   | ptr h=>exact ⟨_,rfl,h⟩
  cases hz:b6 P t with
  | none=>rw [hz] at bp;cases bp
  | some s=>
   rw [hz] at bp
   simp only [ax] at bp
   split at bp
   ·rename_i fW
    obtain ⟨gb,p,hp,rfl⟩:=ha
    simp only [AH.store,gb] at bp
    cases hB:h.ae a.block with
    | none=>rw [hB] at bp;cases bp
    | some B=>
     rw [hB] at bp
     simp only [ax] at bp
     split at bp
     ·rename_i ko
      obtain ⟨e9,hlen,fF⟩:=ko
      injection bp with bp
      subst bp
      have hl:=hv.cells
      obtain ⟨h1,h2,cur,el,fr,U,an,ad⟩:=hs.own _ B p hB hp e9
      have oU:∀ u∈v'.cells.toList,u.oneCell'=true:=by
       intro u iz
       obtain ⟨i,hi⟩:=List.mem_iff_getElem?.1 iz
       have dJ:i<v.cells.toList.length:=by rw [hl.1];exact (List.getElem?_eq_some_iff.1 hi).1
       have sM:=hl.2 i _ u (aX dJ) hi
       rw [sM.qB]
       exact List.all_eq_true.1 fF _ (List.getElem_mem dJ)
      have mT:v'.cells.toList.length=v.cells.toList.length:=hl.1.symm
      obtain ⟨w',fx,r1,af,ag,ah,aa,ab,ai,aj,ak⟩:=r8 (P:=P) p.ae (p.off+a.off) v'.cells.toList 0 w cur el fr U (by omega) (fun j I J=>qL ad j (by omega)) oU
      have m2:∀ (i:Nat) u,(B.cells.take a.off++v.cells.toList++B.cells.drop (a.off+v.cells.toList.length))[i]?=some u→∃ u',fx[p.off+i]?=some u'∧VR ρ u u':=by
       intro i u hu
       rw [ah,mT]
       have m9:(B.cells.take a.off).length=a.off:=by rw [List.length_take];omega
       by_cases i1:i<a.off
       ·rw [List.append_assoc,List.getElem?_append_left (by omega),List.getElem?_take,if_pos i1] at hu
        obtain ⟨u',I,J⟩:=hs.cell _ B p hB hp i u hu
        rw [ig U] at I
        exact ⟨u',by rw [if_neg (by omega)];exact I,J⟩
       ·by_cases i2:i<a.off+v.cells.toList.length
        ·rw [List.append_assoc,List.getElem?_append_right (by omega),m9,List.getElem?_append_left (by omega)] at hu
         obtain ⟨u',I,J⟩:=hl.get hu
         refine ⟨u',?_,J⟩
         rw [if_pos (by omega),← I]
         congr 1
         omega
        ·rw [List.getElem?_append_right (by rw [b7];omega),List.getElem?_drop,b7,m9] at hu
         obtain ⟨u',I,J⟩:=hs.cell _ B p hB hp _ u hu
         rw [ig U] at I
         refine ⟨u',?_,J⟩
         rw [if_neg (by omega),← I]
         congr 1
         omega
      have lz:(B.cells.take a.off++v.cells.toList++B.cells.drop (a.off+v.cells.toList.length)).length≤p.ext:=by
       simp only [b7,List.length_take,List.length_drop];omega
      have cc:v'.cells.size=s:=by have:=mT;simp only [Array.length_toList] at this;omega
      refine ⟨w',?_,?_,?_⟩
      ·simp [Instr.storeAt,Instr.sureAddr,storeVar,fk hz,cc,r1]
      ·rw [kI]
       exact hs.wrote hB hp e9 U af ag aa ab lz m2
      ·rw [kI]
       exact Ext.wrote hB hp e9 aa ab ai aj ak _
     ·cases bp
   ·cases bp
 ·cases bp
theorem C4 {w:World} {h h':AH} {a a':Addr} {cs a9:List Value} (hs:bB ρ w h.ae h.next) (bp:h.store a cs=some h') (ha:AR ρ a a') (hl:LR ρ cs a9):
  ∃ w',(storeCells a' a9).run P w= .ok () w'∧bB ρ w' h'.ae h'.next∧Ext ρ h.ae h.next w ρ h'.ae h'.next w':=by
  obtain ⟨gb,p,hp,rfl⟩:=ha
  simp only [AH.store,gb] at bp
  cases hB:h.ae a.block with
  | none=>rw [hB] at bp;cases bp
  | some B=>
   rw [hB] at bp
   simp only [ax] at bp
   split at bp
   ·rename_i ko
    obtain ⟨e9,hlen,fF⟩:=ko
    injection bp with bp
    subst bp
    obtain ⟨h1,h2,cur,el,fr,U,an,ad⟩:=hs.own _ B p hB hp e9
    have oU:∀ u∈a9,u.oneCell'=true:=by
     intro u iz
     obtain ⟨i,hi⟩:=List.mem_iff_getElem?.1 iz
     have dJ:i<cs.length:=by rw [hl.1];exact (List.getElem?_eq_some_iff.1 hi).1
     have sM:=hl.2 i _ u (aX dJ) hi
     rw [sM.qB]
     exact List.all_eq_true.1 fF _ (List.getElem_mem dJ)
    have mT:a9.length=cs.length:=hl.1.symm
    obtain ⟨w',fx,r1,af,ag,ah,aa,ab,ai,aj,ak⟩:=r8 (P:=P) p.ae (p.off+a.off) a9 0 w cur el fr U (by omega) (fun j I J=>qL ad j (by omega)) oU
    have m2:∀ (i:Nat) u,(B.cells.take a.off++cs++B.cells.drop (a.off+cs.length))[i]?=some u→∃ u',fx[p.off+i]?=some u'∧VR ρ u u':=by
     intro i u hu
     rw [ah,mT]
     have m9:(B.cells.take a.off).length=a.off:=by rw [List.length_take];omega
     by_cases i1:i<a.off
     ·rw [List.append_assoc,List.getElem?_append_left (by omega),List.getElem?_take,if_pos i1] at hu
      obtain ⟨u',I,J⟩:=hs.cell _ B p hB hp i u hu
      rw [ig U] at I
      exact ⟨u',by rw [if_neg (by omega)];exact I,J⟩
     ·by_cases i2:i<a.off+cs.length
      ·rw [List.append_assoc,List.getElem?_append_right (by omega),m9,List.getElem?_append_left (by omega)] at hu
       obtain ⟨u',I,J⟩:=hl.get hu
       refine ⟨u',?_,J⟩
       rw [if_pos (by omega),← I]
       congr 1
       omega
      ·rw [List.getElem?_append_right (by rw [b7];omega),List.getElem?_drop,b7,m9] at hu
       obtain ⟨u',I,J⟩:=hs.cell _ B p hB hp _ u hu
       rw [ig U] at I
       refine ⟨u',?_,J⟩
       rw [if_neg (by omega),← I]
       congr 1
       omega
    have lz:(B.cells.take a.off++cs++B.cells.drop (a.off+cs.length)).length≤p.ext:=by
     simp only [b7,List.length_take,List.length_drop];omega
    refine ⟨w',?_,?_,?_⟩
    ·exact r1
    ·rw [kI]
     exact hs.wrote hB hp e9 U af ag aa ab lz m2
    ·rw [kI]
     exact Ext.wrote hB hp e9 aa ab ai aj ak _
   ·cases bp
theorem E7 {w:World} {h h':AH} {t tx ty:TypeId} {d d' s s' v:Value} (hs:bB ρ w h.ae h.next) (hc:aCopy P t d s h=some (v,h')) (hd:VR ρ d d') (qe:VR ρ s s'):
  ∃ v' w',(Builtin.copy_ #[t,tx] ty #[d',s']).run P w= .ok v' w'∧VR ρ v v'∧bB ρ w' h'.ae h'.next∧Ext ρ h.ae h.next w ρ h'.ae h'.next w':=by
 unfold aCopy at hc
 split at hc
 ·rename_i e db n c sb m c2 hu
  cases hz:b6 P e with
  | none=>rw [hz] at hc;cases hc
  | some z=>
   rw [hz] at hc
   simp only [ax] at hc
   obtain ⟨qb,c',rfl,Ef⟩:∃ qb c',d'= .slice qb n c'∧(∀ a,db=some a→∃ a',qb=some a'∧(0<n→AR ρ a a')):=by
    cases hd with
    | gl h1 h2=>exact ⟨_,_,rfl,fun a q=>by cases q⟩
    | sl h1 h2 j J=>exact ⟨_,_,rfl,fun a q=>by cases q;exact ⟨_,rfl,j⟩⟩
   obtain ⟨mY,tV,rfl,Gy⟩:∃ mY c',s'= .slice mY m c'∧(∀ a,sb=some a→∃ a',mY=some a'∧(0<m→AR ρ a a')):=by
    cases qe with
    | gl h1 h2=>exact ⟨_,_,rfl,fun a q=>by cases q⟩
    | sl h1 h2 j J=>exact ⟨_,_,rfl,fun a q=>by cases q;exact ⟨_,rfl,j⟩⟩
   split at hc
   ·rename_i h0
    simp at hc
    obtain ⟨rfl,rfl⟩:=hc
    refine ⟨.int .i64 0,w,?_, .int _ _,hs,Ext.refl _ _ _ _⟩
    have hf:(Builtin.firstCells z (Nat.min m n) (.slice mY m tV)).run P w= .ok #[] w:=by
     rw [h0]
     cases mY<;>simp [Builtin.firstCells,loadCells,loadCellsFrom]
    rw [h0] at hf
    cases qb<;>simp [Builtin.copy_,cJ hu,Builtin.lenOf,fk hz,hf,h0,storeCells,goInt]
   ·rename_i h0
    split at hc
    ·rename_i a b
     obtain ⟨a',rfl,ha⟩:=Ef a rfl
     obtain ⟨b',rfl,hb⟩:=Gy b rfl
     have wF:0<m∧0<n:=by
      have:Nat.min m n≠0:=h0
      have e:Nat.min m n=min m n:=rfl
      omega
     cases dI:h.cN b (Nat.min m n * z) with
     | none=>rw [dI] at hc;cases hc
     | some cs=>
      rw [dI] at hc
      simp only [ax] at hc
      cases bp:h.store a cs with
      | none=>rw [bp] at hc;cases hc
      | some h2=>
       rw [bp] at hc
       simp at hc
       obtain ⟨rfl,rfl⟩:=hc
       obtain ⟨a9,I,U,aa⟩:=lF hs dI (hb wF.1)
       have m0:=run_loadCells_list (P:=P) w b' a9 aa
       rw [← I.1,U] at m0
       obtain ⟨w',r1,ab,ad⟩:=C4 (P:=P) hs bp (ha wF.2) I
       refine ⟨.int .i64 (Nat.min m n),w',?_, .int _ _,ab,ad⟩
       have hf:(Builtin.firstCells z (Nat.min m n) (.slice (some b') m tV)).run P w= .ok a9.toArray w:=by
        simpa [Builtin.firstCells] using m0
       simp [Builtin.copy_,cJ hu,Builtin.lenOf,fk hz,hf,r1,goInt]
    ·cases hc
 ·cases hc
end
end
section
open Go
variable [Marks]
section
variable {P:Program} {ρ:a4}
def Good (P:Program) (call:cV):Prop:=∀ f args h v h',call f args h=some (v,h')→
 (∃ fn c,P.funcs[f]?=some fn∧fn.body=some c∧(fn.name == "runtime.NumGoroutine")=false)∧
 ∀ (ρ:a4) (w:World) (fz:List Value),LR ρ args fz→bB ρ w h.ae h.next→
  Calls P f fz.toArray w fun e w'=>∃ ρ' v',e= .returned v'∧VR ρ' v v'∧bB ρ' w' h'.ae h'.next∧Ext ρ h.ae h.next w ρ' h'.ae h'.next w'
theorem gk {o:Oper} {a:Act} {w w':World} {v:Value} {K:Act→World→Prop} {Q:Exit→Act→World→Prop} (h:(execOp a.eval o).run P w= .ok (.value v) w') (hK:K (a.put o.dst v) w'):o.wp P a w K Q:=by
 unfold Oper.wp
 rw [h]
 exact hK
theorem CH {o:Oper} {a:Act} {w w':World} {K:Act→World→Prop} {Q:Exit→Act→World→Prop} (h:(execOp a.eval o).run P w= .ok .skip w') (hK:K (a.put o.dst undef) w'):o.wp P a w K Q:=by
 unfold Oper.wp
 rw [h]
 exact hK
theorem LR.map {ev dV:Operand→Value}:∀ (l:List Operand),(∀ x∈l,VR ρ (ev x) (dV x))→LR ρ (l.map ev) (l.map dV):=by
 intro l
 induction l with
 | nil=>intro _;exact LR.nil ρ
 | cons x l ih=>intro h;exact LR.cons (h x (by simp)) (ih fun y hy=>h y (by simp [hy]))
theorem LR.arr {cs a9:Array Value} (h:LR ρ cs.toList a9.toList):cs.size=a9.size∧∀ (i:Nat) v v',cs[i]?=some v→a9[i]?=some v'→VR ρ v v':=
 ⟨by simpa using h.1,fun i v v' a b=>h.2 i v v' (by simpa using a) (by simpa using b)⟩
theorem sH {call:cV} (nN:Good P call) {o:Oper} {ev:Operand→Value} {a:Act} {w:World} {h h':AH} {v:Value} (hs:bB ρ w h.ae h.next) (cy:∀ x∈o.op.operands,VR ρ (ev x) (a.eval x))
  (ay:aOp P call ev o.op h=some (v,h')) {K:Act→World→Prop} {Q:Exit→Act→World→Prop}
  (hK:∀ ρ' v' w',VR ρ' v v'→bB ρ' w' h'.ae h'.next→Ext ρ h.ae h.next w ρ' h'.ae h'.next w'→K (a.put o.dst v') w'):o.wp P a w K Q:=by
 have still:∀ (s:Sem Value) (u:Value),(∃ v',VR ρ u v'∧∀ w,s.run P w= .ok v' w)→(v,h')=(u,h)→(execOp a.eval o=do pure (.value (← s)))→o.wp P a w K Q:=by
  intro s u ⟨v',h1,h2⟩ he hx
  injection he with e1 J
  subst e1;subst J
  exact gk (by rw [hx];simp [h2 w]) (hK ρ v' w h1 hs (Ext.refl _ _ _ _))
 have fresh:∀ f,aFresh P ev o.op=some f→(v,h')=h.fresh f→o.wp P a w K Q:=by
  intro f hf he
  obtain ⟨v',C,el,h1,h2,ag⟩:=vZ (P:=P) cy hf w
  injection he with e1 J
  subst e1;subst J
  have dA:ρ h.next=none:=by
   cases hr:ρ h.next with
   | none=>rfl
   | some p=>have:=hs.er _ p hr;omega
  refine gk h1 (hK (bQ ρ h.next ⟨w.heap.size,0,f.2.2,C.size⟩) v' _ (ag _ _ (c3.bQ ρ _ dA) (by simp [bQ])) ?_ ?_)
  ·rw [g1]
   exact bB.made (fr:=(0,0)) hs dA (a7 _) (Nat.le_succ _) h2 (by simp) (fun k hk=>heap_alloc_old w _ k hk) (heap_alloc_new w _) (fun i v hv=>by simpa using hv) (Nat.le_refl _) (by have:=h2.1;simp at this;omega) (.inl rfl)
  ·rw [g1]
   exact Ext.made dA (Nat.le_refl _) (Nat.le_succ _) rfl (by simp) (fun k hk=>heap_alloc_old w _ k hk) rfl rfl rfl
 obtain ⟨dst,op,ty,pos,after,guard⟩:=o
 simp only at cy ay fresh
 cases op<;>simp only [aOp] at ay<;>try (cases ay;done)
 case move x=>
  have hx:=cy x (by simp [Op.operands])
  exact still (pure (a.eval x)) (ev x) ⟨_,hx,fun w=>rfl⟩ (Option.some.inj ay).symm rfl
 case assign x=>
  have hx:=cy x (by simp [Op.operands])
  exact still (pure (a.eval x)) (ev x) ⟨_,hx,fun w=>rfl⟩ (Option.some.inj ay).symm rfl
 case pick c x y=>
  have hc:=cy c (by simp [Op.operands])
  have hx:=cy x (by simp [Op.operands])
  have hy:=cy y (by simp [Op.operands])
  split at ay
  ·rename_i t qH
   rw [qH] at hc
   generalize wj:a.eval c=c' at hc
   cases hc
   injection ay with ay
   injection ay with e1 J
   subst e1;subst J
   refine gk (v:=if t then a.eval x else a.eval y) (w':=w) (by simp [execOp,wj,asBool]) (hK ρ _ w ?_ hs (Ext.refl _ _ _ _))
   cases t<;>simp [hx,hy]
  ·cases ay
 case alloc e=>
  cases hf:nP P e with
  | none=>rw [hf] at ay;cases ay
  | some f=>rw [hf] at ay;exact fresh f (by simpa [aFresh] using hf) (Option.some.inj ay).symm
 case box e x=>
  cases hf:mU (ev x) with
  | none=>rw [hf] at ay;cases ay
  | some f=>rw [hf] at ay;exact fresh f (by simpa [aFresh] using hf) (Option.some.inj ay).symm
 case buildSlice t n ps=>
  cases hf:aBuildSlice P t n (ps.toList.map fun p=>(p.1,ev p.2)) with
  | none=>rw [hf] at ay;cases ay
  | some f=>rw [hf] at ay;exact fresh f (by simpa [aFresh] using hf) (Option.some.inj ay).symm
 case makeSlice t l c=>
  cases hf:aMakeSlice P t (ev l) (ev c) with
  | none=>rw [hf] at ay;cases ay
  | some f=>rw [hf] at ay;exact fresh f (by simpa [aFresh] using hf) (Option.some.inj ay).symm
 case build t ps=>
  cases hb:aBuild P t (ps.toList.map fun p=>(p.1,ev p.2)) with
  | none=>rw [hb] at ay;cases ay
  | some u=>
   rw [hb] at ay
   obtain ⟨j,I⟩:=td (ρ:=ρ) (ev:=ev) (dV:=a.eval) ps (fun x hx=>cy x.2 (by simp [Op.operands];exact ⟨x.1,hx⟩))
   refine still (Instr.build t (ps.map fun (i,x)=>(i,a.eval x))) u ?_ (Option.some.inj ay).symm rfl
   obtain ⟨v',r1,au⟩:=ER (P:=P) hb j I
   have e:(ps.toList.map fun p=>(p.1,a.eval p.2)).toArray=ps.map fun (i,x)=>(i,a.eval x):=by apply Array.ext';simp
   rw [e] at au
   exact ⟨v',r1,au⟩
 case load t x=>
  have hx:=cy x (by simp [Op.operands])
  cases hl:aLoad P t (ev x) h with
  | none=>rw [hl] at ay;cases ay
  | some u=>
   rw [hl] at ay
   injection ay with ay
   injection ay with e1 J
   subst e1;subst J
   obtain ⟨v',j,I⟩:=wz (P:=P) hs hl hx
   exact gk (by simp [execOp,I]) (hK ρ v' w j hs (Ext.refl _ _ _ _))
 case store t x y=>
  have hx:=cy x (by simp [Op.operands])
  have hy:=cy y (by simp [Op.operands])
  cases hl:iT P t (ev x) (ev y) h with
  | none=>rw [hl] at ay;cases ay
  | some u=>
   rw [hl] at ay
   injection ay with ay
   injection ay with e1 J
   subst e1;subst J
   obtain ⟨w',j,I,U⟩:=AP (P:=P) hs hl hx hy
   exact CH (by simp [execOp,j]) (hK ρ undef w' (VR.undef ρ) I U)
 case nilCheck x=>
  have hx:=cy x (by simp [Op.operands])
  split at ay
  ·rename_i ad jj
   rw [jj] at hx
   generalize gz:a.eval x=x' at hx
   obtain ⟨gN,rfl,Cp⟩:∃ gN,x'= .pointer (some gN)∧AR ρ ad gN:=by
    cases hx with
    | ptr h=>exact ⟨_,rfl,h⟩
   injection ay with ay
   injection ay with e1 J
   subst e1;subst J
   exact gk (v:= .pointer (some gN)) (w':=w) (by simp [execOp,gz]) (hK ρ _ w (.ptr Cp) hs (Ext.refl _ _ _ _))
  ·rename_i f fi ca jj
   rw [jj] at hx
   generalize gz:a.eval x=x' at hx
   injection ay with ay
   injection ay with e1 J
   subst e1;subst J
   cases hx with
   | func f h1 h2 ag aj=>exact gk (w':=w) (by simp only [execOp,gz];rfl) (hK ρ _ w (.func f h1 h2 ag aj) hs (Ext.refl _ _ _ _))
  ·cases ay
 case binOp op t x y yt=>
  have hx:=cy x (by simp [Op.operands])
  have hy:=cy y (by simp [Op.operands])
  cases hb:aBin P op t (ev x) (ev y) with
  | none=>rw [hb] at ay;cases ay
  | some u=>
   rw [hb] at ay
   obtain ⟨j,I⟩:=zh (P:=P) hb hx hy x y
   exact still (jT op t x y (a.eval x) (a.eval y)) u ⟨u,j,I⟩ (Option.some.inj ay).symm rfl
 case unOp op t x=>
  have hx:=cy x (by simp [Op.operands])
  cases hb:aUn op (ev x) with
  | none=>rw [hb] at ay;cases ay
  | some u=>rw [hb] at ay;exact still (Op.unary op (a.eval x)) u (xZ hb hx) (Option.some.inj ay).symm rfl
 case convert s d x=>
  have hx:=cy x (by simp [Op.operands])
  obtain ⟨ρ',v',w',j,I,U,ah⟩:=yZ (P:=P) hs ay hx
  exact gk (by simp [execOp,j]) (hK ρ' v' w' I U ah)
 case makeInterface t x=>
  have hx:=cy x (by simp [Op.operands])
  split at ay
  ·cases ay
  ·rename_i d gO hu
   refine still (Instr.makeInterface t (a.eval x)) (.iface t (ev x)) ⟨.iface t (a.eval x), .iface t hx,fun w=>?_⟩ (Option.some.inj ay).symm rfl
   simp only [Instr.makeInterface,Sem.run_bind,cJ hu,Result.andThen_ok]
   cases d<;>first | rfl | (exact absurd rfl (gO _))
  ·cases ay
 case makeFunc fn first captured=>
  cases fn<;>simp only at ay<;>try (cases ay;done)
  rename_i f
  refine still (Instr.makeFunc (.func f) (first.map a.eval) (captured.map a.eval)) (.func (.func f) (first.map ev) (captured.map ev)) ⟨.func (.func f) (first.map a.eval) (captured.map a.eval),?_,fun w=>rfl⟩ (Option.some.inj ay).symm rfl
  have h1:LR ρ (first.map ev).toList (first.map a.eval).toList:=by
   simp only [Array.toList_map]
   exact LR.map _ fun x hx=>cy x (by simp [Op.operands];exact .inl (by simpa using hx))
  have h2:LR ρ (captured.map ev).toList (captured.map a.eval).toList:=by
   simp only [Array.toList_map]
   exact LR.map _ fun x hx=>cy x (by simp [Op.operands];exact .inr (by simpa using hx))
  exact .func f h1.arr.1 h1.arr.2 h2.arr.1 h2.arr.2
 case slice t x lo hi mx=>
  have hx:=cy x (by simp [Op.operands])
  cases hb:aSlice P t (ev x) (lo.map ev) (hi.map ev) (mx.map ev) with
  | none=>rw [hb] at ay;cases ay
  | some u=>
   rw [hb] at ay
   exact still (Instr.sliceAt t (a.eval x) (lo.map a.eval) (hi.map a.eval) (mx.map a.eval)) u
    (EB hb hx (OR.map lo fun o ho=>cy o (by simp [Op.operands,ho])) (OR.map hi fun o ho=>cy o (by simp [Op.operands,ho])) (OR.map mx fun o ho=>cy o (by simp [Op.operands,ho]))) (Option.some.inj ay).symm rfl
 case fieldAddr s x f=>
  have hx:=cy x (by simp [Op.operands])
  cases hb:aField P s f (ev x) with
  | none=>rw [hb] at ay;cases ay
  | some u=>rw [hb] at ay;exact still (Instr.fieldAt s (a.eval x) f) u (Cr hb hx) (Option.some.inj ay).symm rfl
 case field t x f=>
  have hx:=cy x (by simp [Op.operands])
  cases hb:aFieldV P t f (ev x) with
  | none=>rw [hb] at ay;cases ay
  | some u=>rw [hb] at ay;exact still (Instr.field t (a.eval x) f) u (zt hb hx) (Option.some.inj ay).symm rfl
 case indexAddr t x i=>
  have hx:=cy x (by simp [Op.operands])
  have hi:=cy i (by simp [Op.operands])
  cases hb:aIndexAddr P t (ev x) (ev i) with
  | none=>rw [hb] at ay;cases ay
  | some u=>rw [hb] at ay;exact still (Instr.indexAt t (a.eval x) (a.eval i)) u (zJ hb hx hi) (Option.some.inj ay).symm rfl
 case index t x i=>
  have hx:=cy x (by simp [Op.operands])
  have hi:=cy i (by simp [Op.operands])
  cases hb:aIndex P t (ev x) (ev i) with
  | none=>rw [hb] at ay;cases ay
  | some u=>rw [hb] at ay;exact still (Instr.index t (a.eval x) (a.eval i)) u (BV hb hx hi) (Option.some.inj ay).symm rfl
 case typeAssert x xt t ok=>
  have hx:=cy x (by simp [Op.operands])
  cases hb:aAssert P (ev x) t ok with
  | none=>rw [hb] at ay;cases ay
  | some u=>rw [hb] at ay;exact still (Instr.typeAssert (a.eval x) xt t ok) u (D8 hb hx) (Option.some.inj ay).symm rfl
 case extract x i=>
  have hx:=cy x (by simp [Op.operands])
  split at ay
  ·rename_i vs jj
   rw [jj] at hx
   generalize gz:a.eval x=x' at hx
   obtain ⟨c8,rfl,h1,h2⟩:∃ c8,x'= .tuple c8∧vs.size=c8.size∧∀ (i:Nat) v v',vs[i]?=some v→c8[i]?=some v'→VR ρ v v':=by
    cases hx with
    | tuple h1 h2=>exact ⟨_,rfl,h1,h2⟩
   cases hg:vs[i]? with
   | none=>rw [hg] at ay;cases ay
   | some u=>
    rw [hg] at ay
    obtain ⟨u',av,aw⟩:=(LR.jB h1 h2).get (show vs.toList[i]?=some u by simpa using hg)
    refine still (Instr.extract (a.eval x) i) u ⟨u',aw,fun w=>?_⟩ (Option.some.inj ay).symm rfl
    have z5:c8[i]?=some u':=by simpa using av
    simp [gz,Instr.extract,z5]
  ·cases ay
 case call c=>
  obtain ⟨callee,args,argTypes⟩:=c
  cases callee with
  | invoke r m=>simp only at ay;cases ay
  | builtin b=>
   simp only at ay
   have ez:LR ρ (args.toList.map ev) (args.toList.map a.eval):=LR.map _ fun x hx=>cy x (by simp [Op.operands,Call.operands];simpa using hx)
   have yO:(args.toList.map a.eval)=(args.map a.eval).toList:=by simp
   rw [yO] at ez
   generalize hA:args.map a.eval=A at ez
   obtain ⟨uN,hex⟩:∃ uN,execOp a.eval ⟨dst, .call ⟨.builtin b,args,argTypes⟩,ty,pos,after,guard⟩=builtin b argTypes ty uN A:=by
    subst hA
    exact ⟨_,rfl⟩
   unfold aBuiltin at ay
   split at ay
   ·rename_i t tx s x mS has
    rw [has] at ez
    obtain ⟨s',ai,aa,ak,af⟩:=ez.cons_inv
    obtain ⟨x',ax,an,ab,ao⟩:=af.cons_inv
    obtain rfl:=ao.lW
    subst an
    have aq:A=#[s',x']:=by apply Array.ext';simpa using aa
    have ar:argTypes=#[t,tx]:=by apply Array.ext';simpa using mS
    obtain ⟨ρ',v',w',j,I,U,ah⟩:=A3 (P:=P) (ty:=ty) hs ay ak ab
    refine gk (v:=v') (w':=w') ?_ (hK ρ' v' w' I U ah)
    rw [hex,aq,ar]
    simp [builtin,j]
   ·rename_i t tx s x mS has
    rw [has] at ez
    obtain ⟨s',ai,aa,ak,af⟩:=ez.cons_inv
    obtain ⟨x',ax,an,ab,ao⟩:=af.cons_inv
    obtain rfl:=ao.lW
    subst an
    have aq:A=#[s',x']:=by apply Array.ext';simpa using aa
    have ar:argTypes=#[t,tx]:=by apply Array.ext';simpa using mS
    obtain ⟨v',w',j,I,U,ah⟩:=E7 (P:=P) (tx:=tx) (ty:=ty) hs ay ak ab
    refine gk (v:=v') (w':=w') ?_ (hK ρ v' w' I U ah)
    rw [hex,aq,ar]
    simp [builtin,j]
   ·rename_i t ts x xs mS has
    rw [has] at ez
    obtain ⟨x',ai,aa,ab,af⟩:=ez.cons_inv
    cases hb:aLen P t x with
    | none=>rw [hb] at ay;cases ay
    | some u=>
     rw [hb] at ay
     injection ay with ay
     injection ay with e1 J
     subst e1;subst J
     have az:argTypes[0]?=some t:=by rw [← Array.getElem?_toList,mS];rfl
     have aA:A[0]?=some x':=by rw [← Array.getElem?_toList,aa];rfl
     obtain ⟨j,I⟩:=z2 (P:=P) (ty:=ty) hb ab az aA
     exact gk (v:=u) (w':=w) (by rw [hex];simp [builtin,I w]) (hK ρ u w j hs (Ext.refl _ _ _ _))
   ·rename_i ts x vs has
    rw [has] at ez
    obtain ⟨x',ai,aa,ab,af⟩:=ez.cons_inv
    cases hb:aMax x vs with
    | none=>rw [hb] at ay;cases ay
    | some u=>
     rw [hb] at ay
     injection ay with ay
     injection ay with e1 J
     subst e1;subst J
     obtain ⟨kk,nn,rfl⟩:∃ k n,x= .int k n:=by
      unfold aMax at hb
      split at hb<;>first | exact ⟨_,_,rfl⟩ | cases hb
     have gz:x'= .int kk nn:=by cases ab;rfl
     subst gz
     obtain ⟨j,I⟩:=Df (P:=P) _ _ _ _ hb af w
     exact gk (v:=u) (w':=w) (by rw [hex];simp [builtin,Builtin.max_,aa,j]) (hK ρ u w I hs (Ext.refl _ _ _ _))
   ·rename_i ts x vs has
    rw [has] at ez
    obtain ⟨x',ai,aa,ab,af⟩:=ez.cons_inv
    cases hb:jG x vs with
    | none=>rw [hb] at ay;cases ay
    | some u=>
     rw [hb] at ay
     injection ay with ay
     injection ay with e1 J
     subst e1;subst J
     obtain ⟨kk,nn,rfl⟩:∃ k n,x= .int k n:=by
      unfold jG at hb
      split at hb<;>first | exact ⟨_,_,rfl⟩ | cases hb
     have gz:x'= .int kk nn:=by cases ab;rfl
     subst gz
     obtain ⟨j,I⟩:=Bo (P:=P) _ _ _ _ hb af w
     exact gk (v:=u) (w':=w) (by rw [hex];simp [builtin,Builtin.min_,aa,j]) (hK ρ u w I hs (Ext.refl _ _ _ _))
   ·cases ay
  | value f=>
   simp only at ay
   have hf:=cy f (by simp [Op.operands,Call.operands])
   have ez:LR ρ (args.toList.map ev) (args.toList.map a.eval):=LR.map _ fun x hx=>cy x (by simp [Op.operands,Call.operands];exact .inr (by simpa using hx))
   split at ay
   ·rename_i g first captured pN
    rw [pN] at hf
    generalize Ex:a.eval f=f' at hf
    obtain ⟨fI,kU,rfl,h1,h2⟩:∃ fI kU,f'= .func (.func g) fI kU∧LR ρ first.toList fI.toList∧LR ρ captured.toList kU.toList:=by
     cases hf with
     | func f h1 h2 ag aj=>exact ⟨_,_,rfl,LR.jB h1 h2,LR.jB ag aj⟩
    obtain ⟨⟨fn,cd,xc,AI,D5⟩,hc⟩:=nN _ _ _ _ _ ay
    have hC:=hc ρ w (fI.toList++args.toList.map a.eval++kU.toList) ((h1.append ez).append h2) hs
    have hJ:(execOp a.eval ⟨dst, .call ⟨.value f,args,argTypes⟩,ty,pos,after,guard⟩).run P w= .ok (.enter g (fI.toList++args.toList.map a.eval++kU.toList).toArray) w:=by
     have he:(fI++args.map a.eval)++kU=(fI.toList++args.toList.map a.eval++kU.toList).toArray:=by apply Array.ext';simp
     rw [← he]
     have aB:¬ fn.name= "runtime.NumGoroutine":=by simpa using D5
     simp [execOp,resolve,Ex,Deferred.ofValue,invoke,callFunc,xc,aB,AI]
    unfold Oper.wp
    rw [hJ]
    simp only [Oper.upon]
    refine hC.mono ?_
    rintro e w' ⟨ρ',v',rfl,j,I,U⟩
    exact hK ρ' v' w' j I U
   ·cases ay
end
end
section
open Go
structure bH (h h':AH):Prop where
  low:h'.low≤h.low
  next:h.next≤h'.next
  ae:∀ b,b<h.next→b<h'.low→h'.ae b=h.ae b
  dead:∀ b,b<h.next→h.ae b=none→h'.ae b=none
  live:(∀ b,h.ae b≠none→b<h.next)→∀ b,h'.ae b≠none→b<h'.next
theorem bH.refl (h:AH):bH h h:=⟨Nat.le_refl _,Nat.le_refl _,fun _ _ _=>rfl,fun _ _ q=>q,fun q=>q⟩
theorem bH.trans {a b c:AH} (h:bH a b) (k:bH b c):bH a c:=
  ⟨Nat.le_trans k.low h.low,Nat.le_trans h.next k.next,fun i h1 h2=>(k.ae i (Nat.lt_of_lt_of_le h1 h.next) h2).trans (h.ae i h1 (Nat.lt_of_lt_of_le h2 k.low)),
    fun i h1 h2=>k.dead i (Nat.lt_of_lt_of_le h1 h.next) (h.dead i h1 h2),fun q=>k.live (h.live q)⟩
theorem bH.alloc (h:AH) (cs:List Value) (z:Nat):bH h (h.alloc cs z):=by
  refine ⟨Nat.le_refl _,Nat.le_succ _,fun b h1 _=>by rw [AH.fe,if_neg (by omega)],fun b h1 h2=>by rw [AH.fe,if_neg (by omega)];exact h2,fun q b hb=>?_⟩
  rw [AH.fe] at hb
  rw [AH.qV]
  by_cases e:b=h.next
  · omega
  · rw [if_neg e] at hb;have:=q b hb;omega
theorem bH.put (h:AH) (c:Nat) (x:Option dS) (hx:x=none∨h.ae c≠none):bH h (h.put c x):=by
  refine ⟨?_,Nat.le_refl _,fun b h1 h2=>?_,fun b h1 h2=>?_,fun q b hb=>?_⟩
  · rw [AH.lG];split<;>omega
  · rw [AH.gQ,if_neg]
    rw [AH.lG] at h2
    split at h2<;>omega
  · rw [AH.gQ]
    by_cases e:b=c
    · subst e
      rw [if_pos rfl]
      rcases hx with hx | hx
      · exact hx
      · exact absurd h2 hx
    · rw [if_neg e];exact h2
  · rw [AH.gQ] at hb
    rw [AH.oe]
    by_cases e:b=c
    · subst e
      rw [if_pos rfl] at hb
      rcases hx with hx | hx
      · exact absurd hx hb
      · exact q b hx
    · rw [if_neg e] at hb;exact q b hb
def fX (call:cV):Prop:=∀ f args h v h',call f args h=some (v,h')→bH h h'
section
variable {P:Program}
theorem Ag {s d:TypeId} {x v:Value} {h h':AH} (hc:aConvert P s d x h=some (v,h')):bH h h':=by
  unfold aConvert at hc
  split at hc
  · simp at hc;obtain ⟨_,rfl⟩:=hc;exact bH.refl _
  · simp at hc;obtain ⟨_,rfl⟩:=hc;exact bH.refl _
  · split at hc
    · simp at hc;obtain ⟨_,rfl⟩:=hc;exact bH.alloc _ _ _
    · cases hc
  · split at hc
    · split at hc
      · simp at hc;obtain ⟨_,rfl⟩:=hc;exact bH.refl _
      · cases hc
    · cases hc
  · split at hc
    · simp at hc;obtain ⟨_,rfl⟩:=hc;exact bH.refl _
    · cases hc
  · rename_i a n _ _ _
    split at hc
    · split at hc
      · simp at hc;obtain ⟨_,rfl⟩:=hc;exact bH.refl _
      · cases hq:h.cN a n with
        | none=>rw [hq] at hc;cases hc
        | some cs=>
          rw [hq] at hc;simp only [ax] at hc
          cases hb:bytesOf cs with
          | none=>rw [hb] at hc;cases hc
          | some bs=>rw [hb] at hc;simp at hc;obtain ⟨_,rfl⟩:=hc;exact bH.refl _
    · cases hc
  · cases hc
theorem Gb {t tx:TypeId} {sv x v:Value} {h h':AH} (ha:aAppend P t tx sv x h=some (v,h')):bH h h':=by
  unfold aAppend at ha
  split at ha
  · rename_i e dx base n c _ _
    split at ha
    · cases h1:b6 P e with
      | none=>rw [h1] at ha;cases ha
      | some s=>
        rw [h1] at ha;simp only [ax] at ha
        cases h2:ju P e with
        | none=>rw [h2] at ha;cases ha
        | some bX=>
          rw [h2] at ha;simp only [ax] at ha
          cases I:ec P e with
          | none=>rw [I] at ha;cases ha
          | some z=>
            rw [I] at ha;simp only [ax] at ha
            cases J:aNews s x h with
            | none=>rw [J] at ha;cases ha
            | some mx=>
              rw [J] at ha;simp only [ax] at ha
              split at ha
              · split at ha
                · simp at ha;obtain ⟨_,rfl⟩:=ha;exact bH.refl _
                · split at ha
                  · split at ha
                    · simp at ha;obtain ⟨_,rfl⟩:=ha;exact bH.alloc _ _ _
                    · cases ha
                  · rename_i a
                    split at ha
                    · cases j:h.cN a (n * s) with
                      | none=>rw [j] at ha;cases ha
                      | some c4=>rw [j] at ha;simp at ha;obtain ⟨_,rfl⟩:=ha;exact bH.alloc _ _ _
                    · split at ha
                      · cases j:h.ae a.block with
                        | none=>rw [j] at ha;cases ha
                        | some B=>
                          rw [j] at ha;simp only [ax] at ha
                          split at ha
                          · simp at ha;obtain ⟨_,rfl⟩:=ha;exact (bH.put _ _ _ (.inl rfl)).trans (bH.alloc _ _ _)
                          · cases ha
                      · cases ha
              · cases ha
    · cases ha
  · cases ha
theorem CG {a:Addr} {cs:List Value} {h h':AH} (bp:h.store a cs=some h'):bH h h':=by
  unfold AH.store at bp
  split at bp
  · cases hB:h.ae a.block with
    | none=>rw [hB] at bp;cases bp
    | some B=>
      rw [hB] at bp
      simp only [ax] at bp
      split at bp
      · injection bp with bp;subst bp
        exact bH.put _ _ _ (.inr (by rw [hB];exact fun q=>by cases q))
      · cases bp
  · cases bp
theorem zy {t:TypeId} {d s v:Value} {h h':AH} (hc:aCopy P t d s h=some (v,h')):bH h h':=by
  unfold aCopy at hc
  split at hc
  · rename_i e db n c sb m c2 hu
    cases hz:b6 P e with
    | none=>rw [hz] at hc;cases hc
    | some z=>
      rw [hz] at hc
      simp only [ax] at hc
      split at hc
      · simp at hc;obtain ⟨_,rfl⟩:=hc;exact bH.refl _
      · split at hc
        · rename_i a b
          cases dI:h.cN b (Nat.min m n * z) with
          | none=>rw [dI] at hc;cases hc
          | some cs=>
            rw [dI] at hc
            simp only [ax] at hc
            cases bp:h.store a cs with
            | none=>rw [bp] at hc;cases hc
            | some h2=>
              rw [bp] at hc
              simp at hc
              obtain ⟨_,rfl⟩:=hc
              exact CG bp
        · cases hc
  · cases hc
theorem Cv {t:TypeId} {x v:Value} {h h':AH} (hs:iT P t x v h=some h'):bH h h':=by
  unfold iT at hs
  split at hs
  · rename_i a
    cases h1:b6 P t with
    | none=>rw [h1] at hs;cases hs
    | some s=>
      rw [h1] at hs;simp only [ax] at hs
      split at hs
      · unfold AH.store at hs
        split at hs
        · cases j:h.ae a.block with
          | none=>rw [j] at hs;cases hs
          | some B=>
            rw [j] at hs;simp only [ax] at hs
            split at hs
            · injection hs with hs;subst hs;exact bH.put _ _ _ (.inr (by rw [j];exact fun q=>by cases q))
            · cases hs
        · cases hs
      · cases hs
  · cases hs
theorem oA {α:Type} {o:Option Value} {h h':α} {v:Value} (hm:o.map (·,h)=some (v,h')):h'=h:=by
  cases o with
  | none=>cases hm
  | some u=>simp at hm;exact hm.2.symm
theorem pr {o:Option gR} {h h':AH} {v:Value} (hm:o.map h.fresh=some (v,h')):bH h h':=by
  cases o with
  | none=>cases hm
  | some f=>simp [AH.fresh] at hm;obtain ⟨_,rfl⟩:=hm;exact bH.alloc _ _ _
theorem nE {call:cV} (hc:fX call) {ev:Operand→Value} {op:Op} {h h':AH} {v:Value} (ay:aOp P call ev op h=some (v,h')):bH h h':=by
  cases op<;>simp only [aOp] at ay<;>try (cases ay;done)
  case pick c a b=>split at ay<;>simp at ay;obtain ⟨_,rfl⟩:=ay;exact bH.refl _
  case move x=>simp at ay;obtain ⟨_,rfl⟩:=ay;exact bH.refl _
  case assign x=>simp at ay;obtain ⟨_,rfl⟩:=ay;exact bH.refl _
  case alloc e=>exact pr ay
  case box e x=>exact pr ay
  case buildSlice t n ps=>exact pr ay
  case makeSlice t l c=>exact pr ay
  case store t x y=>
    cases bp:iT P t (ev x) (ev y) h with
    | none=>rw [bp] at ay;cases ay
    | some u=>rw [bp] at ay;simp at ay;obtain ⟨_,rfl⟩:=ay;exact Cv bp
  case nilCheck x=>split at ay<;>simp at ay<;>(obtain ⟨_,rfl⟩:=ay;exact bH.refl _)
  case convert s d x=>exact Ag ay
  case makeInterface t x=>split at ay<;>simp at ay;obtain ⟨_,rfl⟩:=ay;exact bH.refl _
  case makeFunc fn fi ca=>cases fn<;>simp at ay;obtain ⟨_,rfl⟩:=ay;exact bH.refl _
  case extract x i=>
    split at ay
    · exact oA ay ▸ bH.refl _
    · cases ay
  case call c=>
    split at ay
    · rename_i b hb
      unfold aBuiltin at ay
      split at ay
      · exact Gb ay
      · exact zy ay
      · exact oA ay ▸ bH.refl _
      · exact oA ay ▸ bH.refl _
      · exact oA ay ▸ bH.refl _
      · cases ay
    · split at ay
      · exact hc _ _ _ _ _ ay
      · cases ay
    · cases ay
  all_goals exact oA ay ▸ bH.refl _
theorem EF {call:cV} (hc:fX call) (ops:Array Oper):∀ (os:List Oper) (e e':Env) (h h':AH),aOps P call ops os e h=some (e',h')→bH h h':=by
  intro os
  induction os with
  | nil=>intro e e' h h' hh;simp [aOps] at hh;obtain ⟨_,rfl⟩:=hh;exact bH.refl _
  | cons o os ih=>
    intro e e' h h' hh
    simp only [aOps] at hh
    split at hh
    · cases ho:aOp P call e.ev o.op h with
      | none=>rw [ho] at hh;cases hh
      | some r=>rw [ho] at hh;exact (nE hc ho).trans (ih _ _ _ _ hh)
    · exact ih _ _ _ _ hh
theorem bH.reset {h r:AH} (k:bH {h with low:=h.next} r):bH h {r with low:=if r.low<h.low then r.low else h.low}:=by
  refine ⟨?_,k.next,fun b h1 h2=>?_,k.dead,k.live⟩
  · simp only;split<;>omega
  · have:b<r.low:=by simp only at h2;split at h2<;>omega
    exact k.ae b h1 this
theorem B5 {call:cV} (hc:fX call) (ops:Array Oper) (base:Nat) (h0:AH) (hb:h0.next≤base):∀ (os:List Oper) (i:Nat) (s s':gy),bH h0 s.h→base+i+os.length≤s.h.next→aDraw P call ops base i os s=some s'→bH h0 s'.h:=by
  intro os
  induction os with
  | nil=>intro i s s' hs _ hh;simp [aDraw] at hh;subst hh;exact hs
  | cons o os ih=>
    intro i s s' hs hn hh
    simp only [List.length_cons] at hn
    simp only [aDraw] at hh
    split at hh
    · cases ho:aDrawOp P call ops.toList base i o s with
      | none=>rw [ho] at hh;cases hh
      | some s1=>
        rw [ho] at hh
        suffices hq:bH h0 s1.h∧s.h.next≤s1.h.next from ih _ _ _ hq.1 (by omega) hh
        unfold aDrawOp at ho
        split at ho
        · cases hq:aOp P call s.e.ev o.op s.h with
          | none=>rw [hq] at ho;cases ho
          | some r=>rw [hq] at ho;simp at ho;subst ho;exact ⟨hs,Nat.le_refl _⟩
        · cases hq:aLook P s.e.ev o.op s.h with
          | none=>rw [hq] at ho;cases ho
          | some v=>
            rw [hq] at ho;simp only [ax] at ho
            split at ho
            · simp at ho;subst ho;exact ⟨hs,Nat.le_refl _⟩
            · cases ho
        · cases hq:aFresh P s.e.ev o.op with
          | none=>rw [hq] at ho;cases ho
          | some f=>
            rw [hq] at ho;simp at ho;subst ho
            have bD:base+i<s.h.next:=by have:=hn;omega
            refine ⟨⟨hs.low,hs.next,fun b h1 h2=>?_,fun b h1 h2=>?_,fun q b hb=>?_⟩,Nat.le_refl _⟩
            · simp only [AH.ae,Tr.e8]
              rw [if_neg (by omega)]
              exact hs.ae b h1 h2
            · simp only [AH.ae,Tr.e8]
              rw [if_neg (by omega)]
              exact hs.dead b h1 h2
            · simp only [AH.ae,Tr.e8] at hb
              by_cases e:b=base+i
              · rw [e];exact bD
              · rw [if_neg e] at hb;exact hs.live q b hb
        · cases hq:aOp P call s.e.ev o.op {s.h with low:=s.h.next} with
          | none=>rw [hq] at ho;cases ho
          | some r=>
            rw [hq] at ho;simp only [ax] at ho
            have bp:=(nE hc hq).reset
            revert bp ho
            generalize ({r.2 with low:=if r.2.low<s.h.low then r.2.low else s.h.low}:AH)=h2
            intro ho bp
            split at ho
            · injection ho with ho;subst ho;exact ⟨hs.trans bp,bp.next⟩
            · split at ho
              · injection ho with ho;subst ho;exact ⟨hs.trans bp,bp.next⟩
              · cases ho
    · refine ih _ _ _ ?_ ?_ hh
      · exact hs
      · simp only;omega
theorem Ax {call:cV} (hc:fX call) {ops:Array Oper} {e e':Env} {h h':AH} (hh:fv P call ops e h=some (e',h')):bH h h':=by
  unfold fv at hh
  cases hq:aDraw P call ops h.next 0 ops.toList ⟨e,{h with next:=h.next+ops.size},[],[]⟩ with
  | none=>rw [hq] at hh;cases hh
  | some s=>
    rw [hq] at hh;simp at hh;obtain ⟨_,rfl⟩:=hh
    exact B5 hc ops h.next h (Nat.le_refl _) _ _ _ _ ⟨Nat.le_refl _,Nat.le_add_right _ _,fun _ _ _=>rfl,fun _ _ q=>q,fun q b hb=>Nat.lt_of_lt_of_le (q b hb) (Nat.le_add_right _ _)⟩ (by simp) hq
theorem yk {body:Env→AH→ga} (hb:∀ e h x e' h',body e h=some (x,e',h')→bH h h'):∀ (k:Nat) e h x e' h',aLoop body k e h=some (x,e',h')→bH h h':=by
  intro k
  induction k with
  | zero=>intro e h x e' h' hh;simp [aLoop] at hh
  | succ k ih=>
    intro e h x e' h' hh
    simp only [aLoop] at hh
    split at hh
    · rename_i e1 h1 hq
      exact (hb _ _ _ _ _ hq).trans (ih _ _ _ _ _ hh)
    · exact hb _ _ _ _ _ hh
theorem C5 {run:Code→Env→AH→ga} (hb:∀ c e h x e' h',run c e h=some (x,e',h')→bH h h') (c:Code):∀ (k:Nat) cur e h x e' h',aJump run c k cur e h=some (x,e',h')→bH h h':=by
  intro k
  induction k with
  | zero=>intro cur e h x e' h' hh;simp [aJump] at hh
  | succ k ih=>
    intro cur e h x e' h' hh
    simp only [aJump] at hh
    split at hh
    · rename_i l e1 h1 hq
      split at hh
      · exact (hb _ _ _ _ _ _ hq).trans (ih _ _ _ _ _ _ hh)
      · simp at hh;obtain ⟨_,_,rfl⟩:=hh;exact hb _ _ _ _ _ _ hq
    · exact hb _ _ _ _ _ _ hh
theorem n0 {call:cV} (hc:fX call):∀ (k:Nat) (c:Code) e h x e' h',aCode P call k c e h=some (x,e',h')→bH h h':=by
  intro k
  induction k with
  | zero=>intro c e h x e' h' hh;simp [aCode] at hh
  | succ k ih=>
    intro c e h x e' h' hh
    simp only [aCode] at hh
    split at hh
    · simp at hh;obtain ⟨_,_,rfl⟩:=hh;exact bH.refl _
    · simp at hh;obtain ⟨_,_,rfl⟩:=hh;exact bH.refl _
    · rename_i id ops
      cases hq:aOps P call ops ops.toList e h with
      | none=>rw [hq] at hh;cases hh
      | some r=>rw [hq] at hh;simp at hh;obtain ⟨_,_,rfl⟩:=hh;exact EF hc ops _ _ _ _ _ hq
    · rename_i id ops
      cases hq:fv P call ops e h with
      | none=>rw [hq] at hh;cases hh
      | some r=>rw [hq] at hh;simp at hh;obtain ⟨_,_,rfl⟩:=hh;exact Ax hc hq
    · rename_i a b
      split at hh
      · rename_i e1 h1 hq
        exact (ih _ _ _ _ _ _ hq).trans (ih _ _ _ _ _ _ hh)
      · exact ih _ _ _ _ _ _ hh
    · split at hh
      · exact ih _ _ _ _ _ _ hh
      · cases hh
    · split at hh
      · rename_i i e1 h1 hq
        split at hh
        · simp at hh;obtain ⟨_,_,rfl⟩:=hh;exact ih _ _ _ _ _ _ hq
        · simp at hh;obtain ⟨_,_,rfl⟩:=hh;exact ih _ _ _ _ _ _ hq
      · exact ih _ _ _ _ _ _ hh
    · exact yk (fun e h x e' h' q=>ih _ _ _ _ _ _ q) _ _ _ _ _ _ hh
    · exact C5 (fun c e h x e' h' q=>ih _ _ _ _ _ _ q) _ _ _ _ _ _ _ _ hh
    · simp at hh;obtain ⟨_,_,rfl⟩:=hh;exact bH.refl _
    · simp at hh;obtain ⟨_,_,rfl⟩:=hh;exact bH.refl _
    · simp at hh;obtain ⟨_,_,rfl⟩:=hh;exact bH.refl _
    · cases hh
theorem zz {r:Bool} {h0 h1 h':AH} {v v':Value} (k:bH {h0 with low:=h0.next} h1) (hl:ff r h0 v h1=(v',h')):bH h0 h':=by
  unfold ff at hl
  split at hl
  · injection hl with _ hl;subst hl;exact bH.refl _
  · injection hl with _ hl;subst hl;exact k.reset
theorem u9 {ov:cV} (nr:fX ov):∀ (k:Nat),fX (aCall P ov k):=by
  intro k
  induction k with
  | zero=>intro f args h v h' hh;exact nr f args h v h' hh
  | succ k ih=>
    intro f args h v h' hh
    simp only [aCall] at hh
    cases ho:ov f args h with
    | some r=>rw [ho] at hh;simp at hh;subst hh;exact nr f args h v h' ho
    | none=>
    rw [ho] at hh
    simp only at hh
    cases hf:P.funcs[f]? with
    | none=>rw [hf] at hh;cases hh
    | some fn=>
      rw [hf] at hh;simp only [ax] at hh
      cases hb:fn.body with
      | none=>rw [hb] at hh;cases hh
      | some c=>
        rw [hb] at hh;simp only [ax] at hh
        split at hh
        · split at hh
          all_goals first
            | (rename_i e h1 hq
               cases hr:aResults P fn.results.toList e h1 with
               | none=>rw [hr] at hh;cases hh
               | some u=>rw [hr] at hh;exact zz (n0 ih _ _ _ _ _ _ _ hq) (Option.some.inj hh))
            | cases hh
        · cases hh
end
end
section
open Go
variable [Marks]
def operandOk:Operand→Bool
  | .const v=>clean v
  | .global _=>false
  | _=>true
def opOk (n:Nat) (o:Oper):Bool:=(match o.dst with | some d=>decide (d<n) | none=>true) && o.op.operands.toList.all operandOk
def rG (A:Array Oper) (o:Oper):Nat:=(o.looksAt A).foldl (fun m t=>Nat.lor m (Nat.shiftLeft 1 t)) 0
def nI (A:Array Oper) (x y:Oper):Bool:=
  (match x.dst with
   | some d=>!(rG A y).testBit d && (match y.dst with | some d2=>!(Nat.beq d d2) | none=>true)
   | none=>true) &&
  (match y.dst with
   | some d=>!(rG A x).testBit d
   | none=>true)
def qT (ops:List Oper):Bool:=
  (List.range ops.length).all fun i=>(List.range i).all fun j=>ordered (dC ops) i j || nI ops.toArray (ops.getD i default) (ops.getD j default)
omit [Marks] in
theorem vg (m t d:Nat):(Nat.lor m (Nat.shiftLeft 1 t)).testBit d=(m.testBit d || decide (t=d)):=by
  have:Nat.lor m (Nat.shiftLeft 1 t)=m ||| (1 <<< t):=rfl
  rw [this,Nat.testBit_or,Nat.one_shiftLeft,Nat.testBit_two_pow]
omit [Marks] in
theorem uZ (A:Array Oper) (o:Oper) (d:Nat) (h:d∈o.looksAt A):(rG A o).testBit d=true:=by
  have key:∀ (l:List Nat) (m:Nat),(m.testBit d=true∨d∈l)→(l.foldl (fun m t=>Nat.lor m (Nat.shiftLeft 1 t)) m).testBit d=true:=by
    intro l
    induction l with
    | nil=>
      intro m h
      rcases h with h | h
      · exact h
      · cases h
    | cons t l ih=>
      intro m h
      refine ih _ ?_
      rw [vg]
      rcases h with h | h
      · left;simp [h]
      · rcases List.mem_cons.1 h with rfl | h
        · left;simp
        · exact .inr h
  exact key _ 0 (.inr h)
omit [Marks] in
theorem va {A:Array Oper} {x y:Oper} (h:nI A x y=true):(∀ d,x.dst=some d→d∉y.looksAt A)∧(∀ d,x.dst=some d→y.dst≠some d)∧(∀ d,y.dst=some d→d∉x.looksAt A):=by
  refine ⟨fun d hd hm=>?_,fun d hd he=>?_,fun d hd hm=>?_⟩
  · simp [nI,hd,uZ A y d hm] at h
  · simp [nI,hd,he,Nat.beq_refl] at h
  · simp only [nI,hd,Bool.and_eq_true] at h
    have:=h.2
    rw [uZ A x d hm] at this
    cases this
def mG (ops:List Oper):Bool:=(List.range ops.length).all fun i=>(ops.getD i default).after.toList.all fun e=>!(Region.binds .any e) || decide (e.on<i)
def qU (P:Program) (ops:List Oper):Bool:=qO P ops && qT ops && mG ops
def codeOk (P:Program) (n:Nat):Code→Bool
  | .region _ ops draw=>ops.toList.all (opOk n) && (!draw || qU P ops.toList)
  | .seq a b=>codeOk P n a && codeOk P n b
  | .cond c a b=>operandOk c && codeOk P n a && codeOk P n b
  | .block _ c | .loop c | .scope c=>codeOk P n c
  | _=>true
def funcOk (P:Program) (fn:Func):Bool:=!(fn.name == "runtime.NumGoroutine") && (match fn.body with | some c=>codeOk P fn.ntmps c | none=>true)
def ng (P:Program):Prop:=P.follows .mixedOrders=true∧P.funcs.toList.all (funcOk P)=true
theorem ng.func {P:Program} (h:ng P) {f:Nat} {fn:Func} (hf:P.funcs[f]?=some fn):funcOk P fn=true:=
  List.all_eq_true.1 h.2 fn (by rw [← Array.getElem?_toList] at hf;exact au hf)
structure eG (ρ:a4) (e:Env) (n:Nat) (a:Act):Prop where
  size:a.tmps.size=n
  get:∀ t,VR ρ (e.get t) ((a.tmps[t]?).getD undef)
theorem eG.mono {ρ ρ':a4} (hr:c3 ρ ρ') {e:Env} {n:Nat} {a:Act} (h:eG ρ e n a):eG ρ' e n a:=⟨h.size,fun t=>(h.get t).mono hr⟩
theorem eG.ev {ρ:a4} {e:Env} {n:Nat} {a:Act} (h:eG ρ e n a) {x:Operand} (hx:operandOk x=true):VR ρ (e.ev x) (a.eval x):=by
  cases x with
  | tmp t=>simpa [Env.ev,Act.eval] using h.get t
  | const v=>exact l1 ρ hx
  | global g=>simp [operandOk] at hx
  | func f=>exact .func f rfl (fun i v v' q=>by simp at q) rfl (fun i v v' q=>by simp at q)
theorem eG.put {ρ:a4} {e:Env} {n:Nat} {a:Act} (h:eG ρ e n a) {d:Option Nat} (hd:∀ t,d=some t→t<n) {v v':Value} (hv:VR ρ v v'):eG ρ (e.put d v) n (a.put d v'):=by
  cases d with
  | none=>exact h
  | some d=>
    refine ⟨by simp [Act.put,h.size],fun t=>?_⟩
    have bD:d<a.tmps.size:=by rw [h.size];exact hd d rfl
    simp only [Env.put,Act.put,Env.e8]
    by_cases e1:t=d
    · subst e1
      rw [if_pos rfl,Array.getElem?_setIfInBounds_self_of_lt bD]
      exact hv
    · rw [if_neg e1,Array.getElem?_setIfInBounds_ne (Ne.symm e1)]
      exact h.get t
theorem mK {n:Nat} {o:Oper} (h:opOk n o=true):∀ t,o.dst=some t→t<n:=by
  intro t ht
  simp only [opOk,Bool.and_eq_true] at h
  have:=h.1
  rw [ht] at this
  simpa using this
theorem vS {n:Nat} {o:Oper} (h:opOk n o=true):∀ x∈o.op.operands,operandOk x=true:=by
  intro x hx
  simp only [opOk,Bool.and_eq_true,List.all_eq_true] at h
  exact h.2 x (by simpa using hx)
theorem put_defers (a:Act) (d:Option Nat) (v:Value):(a.put d v).defers=a.defers:=by cases d<;>rfl
theorem zW {ρ:a4} {e:Env} {n:Nat} {a:Act} (h:eG ρ e n a) {ops:Array Oper} (b9:∀ o∈ops.toList,opOk n o=true) (j:Nat):yielded ops a.tmps j=aYield ops e j:=by
  unfold yielded aYield
  cases hj:(ops[j]?).bind (·.dst) with
  | none=>rfl
  | some d=>
    have hd:d<a.tmps.size:=by
      cases ho:ops[j]? with
      | none=>rw [ho] at hj;cases hj
      | some o=>
        rw [ho] at hj
        rw [h.size]
        exact mK (b9 o (by rw [← Array.getElem?_toList] at ho;exact au ho)) d hj
    have hv:=h.get d
    simp only [ax,Array.getElem?_eq_getElem hd,Option.getD_some] at hv ⊢
    generalize he:e.get d=x at hv ⊢
    generalize a.tmps[d]=y at hv ⊢
    cases hv<;>rfl
theorem tz {ρ:a4} {e:Env} {n:Nat} {a:Act} (h:eG ρ e n a) {ops:Array Oper} (b9:∀ o∈ops.toList,opOk n o=true) (o:Oper):Region.wanted o (yielded ops a.tmps)=ct ops e o:=by
  unfold Region.wanted ct
  cases o.guard with
  | none=>rfl
  | some g=>obtain ⟨j,want⟩:=g;simp only [zW h b9]
section
variable {P:Program}
theorem y6 {call:cV} (nN:Good P call) {n:Nat} {ops:Array Oper} (b9:∀ o∈ops.toList,opOk n o=true) {Q:Exit→Act→World→Prop} {e':Env} {h':AH}:∀ (os:List Oper) (i:Nat) (e:Env) (h:AH) (a:Act) (w:World) (ρ:a4),
    ops.toList.drop i=os→aOps P call ops os e h=some (e',h')→eG ρ e n a→bB ρ w h.ae h.next→
    (∀ ρ' a' w',eG ρ' e' n a'→a'.defers=a.defers→bB ρ' w' h'.ae h'.next→Ext ρ h.ae h.next w ρ' h'.ae h'.next w'→Q .normal a' w')→wpOps P ops Q (List.range' i os.length) a w:=by
  intro os
  induction os with
  | nil=>
    intro i e h a w ρ hd hr he hs hQ
    simp [aOps] at hr
    obtain ⟨rfl,rfl⟩:=hr
    exact hQ ρ a w he rfl hs (Ext.refl _ _ _ _)
  | cons o os ih=>
    intro i e h a w ρ hd hr he hs hQ
    have hi:ops[i]?=some o:=by
      have:(ops.toList.drop i)[0]?=some o:=by rw [hd];rfl
      rw [List.getElem?_drop] at this
      simpa using this
    have aa:ops.toList.drop (i+1)=os:=by
      rw [← List.drop_drop,hd]
      rfl
    have gJ:opOk n o=true:=b9 o (by rw [← Array.getElem?_toList] at hi;exact au hi)
    simp only [List.length_cons,List.range'_succ]
    rw [wpOps_cons]
    unfold wpOp
    rw [hi]
    simp only
    rw [tz he b9 o]
    simp only [aOps] at hr
    split at hr
    · rename_i hw
      rw [if_pos hw]
      cases ay:aOp P call e.ev o.op h with
      | none=>rw [ay] at hr;cases hr
      | some r=>
        obtain ⟨v,h1⟩:=r
        rw [ay] at hr
        refine .inl (sH nN hs (fun x hx=>he.ev (vS gJ x hx)) ay fun ρ1 v' w1 ad af ab=>?_)
        exact ih (i+1) _ _ _ w1 ρ1 aa hr ((he.mono ab.le).put (mK gJ) ad) af fun ρ2 j w2 r1 I J U=>hQ ρ2 j w2 r1 (by rw [I,put_defers]) J (ab.trans U)
    · rename_i hw
      rw [if_neg hw]
      exact ih (i+1) _ _ _ w ρ aa hr (he.put (mK gJ) (VR.undef ρ)) hs fun ρ2 j w2 r1 I J U=>hQ ρ2 j w2 r1 (by rw [I,put_defers]) J U
def exOf:dk→Exit
  | .normal=> .normal
  | .exit i=> .exit i
  | .goto l=> .goto l
  | .ret=> .ret
def h6 (ρ:a4) (h:AH) (w:World) (n:Nat) (a:Act) (x:dk) (e':Env) (h':AH):Exit→Act→World→Prop:=
  fun ex a' w'=>ex=exOf x∧∃ ρ',eG ρ' e' n a'∧a'.defers=a.defers∧bB ρ' w' h'.ae h'.next∧Ext ρ h.ae h.next w ρ' h'.ae h'.next w'
theorem h6.trans {ρ ρ1:a4} {h h1:AH} {w w1:World} {n:Nat} {a a1:Act} {x:dk} {e':Env} {h':AH} (hd:a1.defers=a.defers) (hE:Ext ρ h.ae h.next w ρ1 h1.ae h1.next w1) {ex:Exit} {a':Act} {w':World} (hp:h6 ρ1 h1 w1 n a1 x e' h' ex a' w'):h6 ρ h w n a x e' h' ex a' w':=by
  obtain ⟨h1,ρ',j,I,J,U⟩:=hp
  exact ⟨h1,ρ',j,I.trans hd,J,hE.trans U⟩
def uk (P:Program) (call:cV):Prop:=∀ (n:Nat) (id:Nat) (ops:Array Oper) (e e':Env) (h h':AH) (ρ:a4) (a:Act) (w:World),(∀ o∈ops.toList,opOk n o=true)→qU P ops.toList=true→
  fv P call ops e h=some (e',h')→eG ρ e n a→bB ρ w h.ae h.next→(∀ b,h.ae b≠none→b<h.next)→(Code.region id ops true).wp P (h6 ρ h w n a .normal e' h') a w
def scopeRounds (P:Program) (c:Code) (Q:Exit→Act→World→Prop):Nat→Code→Act→World→Prop
  | 0,_,_,_=>False
  | k+1,cur,a,w=>cur.wp P (fun ex a w=>match ex with
      | .goto l=>match findLabel c l with
        | some rest=>scopeRounds P c Q k rest a w
        | none=>Q (.goto l) a w
      | ex=>Q ex a w) a w
theorem EC {c:Code} {Q:Exit→Act→World→Prop} {a:Act} {w:World} (k:Nat) (h:scopeRounds P c Q k c a w):(Code.scope c).wp P Q a w:=by
  intro b ks cs
  have key:∀ k cur a w,scopeRounds P c Q k cur a w→∃ e a' w',Q e a' w'∧Arrives P (lone (b.at a (.code cur:: .inScope c::ks)) cs w) b ks cs e a' w':=by
    intro k
    induction k with
    | zero=>intro cur a w h;exact h.elim
    | succ k ih=>
      intro cur a w h
      obtain ⟨e,a₁,w₁,hq,ji⟩:=h b (.inScope c::ks) cs
      cases e with
      | normal=>exact ⟨.normal,a₁,w₁,hq,Steps.trans ji (.one step_inScope)⟩
      | exit id=>exact ⟨.exit id,a₁,w₁,hq,fun k' hk=>ji k' (by simp [exitTo,hk])⟩
      | goto l=>
        simp only at hq
        cases hf:findLabel c l with
        | none=>
          rw [hf] at hq
          exact ⟨.goto l,a₁,w₁,hq,fun k' hk=>ji k' (by simp [gotoIn,hf,hk])⟩
        | some rest=>
          rw [hf] at hq
          obtain ⟨e₂,a₂,w₂,xC,CR⟩:=ih rest a₁ w₁ hq
          exact ⟨e₂,a₂,w₂,xC, .of_steps (ji _ (by simp [gotoIn,hf])) CR⟩
      | ret=>exact ⟨_,a₁,w₁,hq,ji⟩
      | panic ch=>exact ⟨_,a₁,w₁,hq,ji⟩
      | outgrown=>exact ⟨_,a₁,w₁,hq,ji⟩
  obtain ⟨e,a',w',hq,ji⟩:=key k c a w h
  exact ⟨e,a',w',hq, .of_steps (.one step_scope) ji⟩
theorem Dj {n:Nat}:∀ (c:Code) (l:Nat) (rest:Code),findLabel c l=some rest→codeOk P n c=true→codeOk P n rest=true:=by
  intro c
  induction c with
  | seq a b DM zm=>
    intro l rest h b9
    simp only [codeOk,Bool.and_eq_true] at b9
    simp only [findLabel] at h
    cases ha:findLabel a l with
    | some r=>
      rw [ha] at h
      simp at h;subst h
      simp only [codeOk,Bool.and_eq_true]
      exact ⟨DM l r ha b9.1,b9.2⟩
    | none=>rw [ha] at h;exact zm l rest h b9.2
  | label l'=>
    intro l rest h b9
    simp only [findLabel] at h
    split at h
    · simp at h;subst h;rfl
    · cases h
  | _=>intro l rest h;simp [findLabel] at h
def Live (h:AH):Prop:=∀ b,h.ae b≠none→b<h.next
theorem Gf {call:cV} (nN:Good P call) (bp:fX call) (zp:uk P call) {n:Nat}:∀ (k:Nat) (c:Code) (e:Env) (h:AH) (x:dk) (e':Env) (h':AH),aCode P call k c e h=some (x,e',h')→codeOk P n c=true→
    ∀ (ρ:a4) (a:Act) (w:World),eG ρ e n a→bB ρ w h.ae h.next→Live h→c.wp P (h6 ρ h w n a x e' h') a w:=by
  intro k
  induction k with
  | zero=>intro c e h x e' h' hh;simp [aCode] at hh
  | succ k ih=>
    intro c e h x e' h' hh b9 ρ a w he hs hl
    have here:∀ (x0:dk),x=x0→e'=e→h'=h→∀ ex,ex=exOf x0→h6 ρ h w n a x e' h' ex a w:=by
      rintro x0 rfl rfl rfl ex rfl
      exact ⟨rfl,ρ,he,rfl,hs,Ext.refl _ _ _ _⟩
    have step:∀ (c1:Code) (e1:Env) (h1:AH),codeOk P n c1=true→aCode P call k c1 e h=some (.normal,e1,h1)→∀ (Q:Exit→Act→World→Prop),
        (∀ ρ1 a1 w1,eG ρ1 e1 n a1→bB ρ1 w1 h1.ae h1.next→Live h1→a1.defers=a.defers→Ext ρ h.ae h.next w ρ1 h1.ae h1.next w1→Q .normal a1 w1)→c1.wp P Q a w:=by
      intro c1 e1 h1 ai hr Q hQ
      refine wp_mono (ih c1 e h _ e1 h1 hr ai ρ a w he hs hl) ?_
      rintro ex a1 w1 ⟨rfl,ρ1,j,I,J,U⟩
      exact hQ ρ1 a1 w1 j J ((n0 bp _ _ _ _ _ _ _ hr).live hl) I U
    simp only [aCode] at hh
    split at hh
    · simp at hh;obtain ⟨j,I,J⟩:=hh;exact wp_skip (here .normal j.symm I.symm J.symm _ rfl)
    · simp at hh;obtain ⟨j,I,J⟩:=hh;exact wp_label (here .normal j.symm I.symm J.symm _ rfl)
    · rename_i id ops
      cases hq:aOps P call ops ops.toList e h with
      | none=>rw [hq] at hh;cases hh
      | some r=>
        rw [hq] at hh;simp at hh;obtain ⟨rfl,rfl,rfl⟩:=hh
        have aj:∀ o∈ops.toList,opOk n o=true:=by
          simp only [codeOk,Bool.and_eq_true,List.all_eq_true] at b9
          exact b9.1
        refine wp_region ?_
        have:=y6 nN aj (Q:=h6 ρ h w n a .normal r.1 r.2) ops.toList 0 e h a w ρ rfl hq he hs fun ρ' a' w' j I J U=>⟨rfl,ρ',j,I,J,U⟩
        rw [List.range_eq_range']
        simpa using this
    · rename_i id ops
      cases hq:fv P call ops e h with
      | none=>rw [hq] at hh;cases hh
      | some r=>
        rw [hq] at hh;simp at hh;obtain ⟨rfl,rfl,rfl⟩:=hh
        simp only [codeOk,Bool.and_eq_true,List.all_eq_true,Bool.or_eq_true,Bool.not_true,Bool.false_eq_true,false_or] at b9
        exact zp n id ops e r.1 h r.2 ρ a w b9.1 b9.2 hq he hs hl
    · rename_i c1 c2
      simp only [codeOk,Bool.and_eq_true] at b9
      split at hh
      · rename_i e1 h1 hq
        refine wp_seq (step c1 e1 h1 b9.1 hq _ fun ρ1 a1 w1 j I J U ak=>?_)
        show c2.wp P _ a1 w1
        exact wp_mono (ih c2 e1 h1 x e' h' hh b9.2 ρ1 a1 w1 j I J) fun ex a' w' hp=>hp.trans U ak
      · rename_i r cp
        refine wp_seq (wp_mono (ih c1 e h x e' h' hh b9.1 ρ a w he hs hl) ?_)
        rintro ex a' w' ⟨rfl,hp⟩
        cases x with
        | normal=>exact absurd hh (cp _ _)
        | exit i=>exact ⟨rfl,hp⟩
        | goto l=>exact ⟨rfl,hp⟩
        | ret=>exact ⟨rfl,hp⟩
    · rename_i cd c1 c2
      simp only [codeOk,Bool.and_eq_true] at b9
      split at hh
      · rename_i t ht
        have hv:=he.ev b9.1.1
        rw [ht] at hv
        have hc:a.eval cd= .bool t:=by
          generalize a.eval cd=y at hv
          cases hv;rfl
        refine wp_cond hc (ih _ e h x e' h' hh ?_ ρ a w he hs hl)
        cases t
        · exact b9.2
        · exact b9.1.2
      · cases hh
    · rename_i id c1
      simp only [codeOk] at b9
      split at hh
      · rename_i i e1 h1 hq
        refine wp_block (wp_mono (ih c1 e h _ e1 h1 hq b9 ρ a w he hs hl) ?_)
        rintro ex a' w' ⟨rfl,hp⟩
        split at hh
        · rename_i dA
          simp at hh;obtain ⟨rfl,rfl,rfl⟩:=hh
          simp only [exOf,Exit.inBlock,dA,if_true]
          exact ⟨rfl,hp⟩
        · rename_i dA
          simp at hh;obtain ⟨rfl,rfl,rfl⟩:=hh
          simp only [exOf,Exit.inBlock,dA,if_false]
          exact ⟨rfl,hp⟩
      · rename_i cp
        refine wp_block (wp_mono (ih c1 e h x e' h' hh b9 ρ a w he hs hl) ?_)
        rintro ex a' w' ⟨rfl,hp⟩
        cases x with
        | normal=>exact ⟨rfl,hp⟩
        | exit i=>exact absurd hh (cp _ _ _)
        | goto l=>exact ⟨rfl,hp⟩
        | ret=>exact ⟨rfl,hp⟩
    · rename_i c1
      simp only [codeOk] at b9
      have key:∀ (m:Nat) (e0:Env) (h0:AH),aLoop (aCode P call k c1) m e0 h0=some (x,e',h')→∀ (ρ0:a4) (a0:Act) (w0:World),eG ρ0 e0 n a0→bB ρ0 w0 h0.ae h0.next→Live h0→a0.defers=a.defers→Ext ρ h.ae h.next w ρ0 h0.ae h0.next w0→
          Code.rounds P c1 (h6 ρ h w n a x e' h') m a0 w0:=by
        intro m
        induction m with
        | zero=>intro e0 h0 hq;simp [aLoop] at hq
        | succ m sO=>
          intro e0 h0 hq ρ0 a0 w0 ag ah aa ad af
          rw [rounds_succ]
          simp only [aLoop] at hq
          split at hq
          · rename_i e1 h1 hb
            refine wp_mono (ih c1 e0 h0 _ e1 h1 hb b9 ρ0 a0 w0 ag ah aa) ?_
            rintro ex a1 w1 ⟨rfl,ρ1,j,I,J,U⟩
            exact sO e1 h1 hq ρ1 a1 w1 j J ((n0 bp _ _ _ _ _ _ _ hb).live aa) (I.trans ad) (af.trans U)
          · rename_i r cp
            refine wp_mono (ih c1 e0 h0 x e' h' hq b9 ρ0 a0 w0 ag ah aa) ?_
            rintro ex a1 w1 hp
            have ab:h6 ρ h w n a x e' h' ex a1 w1:=hp.trans ad af
            obtain ⟨rfl,_⟩:=hp
            cases x with
            | normal=>exact absurd hq (cp _ _)
            | exit i=>exact ab
            | goto l=>exact ab
            | ret=>exact ab
      exact wp_loop_rounds k (key k e h hh ρ a w he hs hl rfl (Ext.refl _ _ _ _))
    · rename_i c1
      simp only [codeOk] at b9
      have key:∀ (m:Nat) (cur:Code) (e0:Env) (h0:AH),codeOk P n cur=true→aJump (aCode P call k) c1 m cur e0 h0=some (x,e',h')→∀ (ρ0:a4) (a0:Act) (w0:World),eG ρ0 e0 n a0→bB ρ0 w0 h0.ae h0.next→Live h0→a0.defers=a.defers→Ext ρ h.ae h.next w ρ0 h0.ae h0.next w0→
          scopeRounds P c1 (h6 ρ h w n a x e' h') m cur a0 w0:=by
        intro m
        induction m with
        | zero=>intro cur e0 h0 _ hq;simp [aJump] at hq
        | succ m sO=>
          intro cur e0 h0 ub hq ρ0 a0 w0 ag ah aa ad af
          simp only [scopeRounds]
          simp only [aJump] at hq
          split at hq
          · rename_i l e1 h1 hb
            refine wp_mono (ih cur e0 h0 _ e1 h1 hb ub ρ0 a0 w0 ag ah aa) ?_
            rintro ex a1 w1 ⟨rfl,ρ1,j,I,J,U⟩
            simp only [exOf]
            split at hq
            · rename_i rest hf
              try rw [hf]
              exact sO rest e1 h1 (Dj c1 l rest hf b9) hq ρ1 a1 w1 j J ((n0 bp _ _ _ _ _ _ _ hb).live aa) (I.trans ad) (af.trans U)
            · rename_i hf
              try rw [hf]
              simp at hq;obtain ⟨rfl,rfl,rfl⟩:=hq
              exact ⟨rfl,ρ1,j,I.trans ad,J,af.trans U⟩
          · rename_i r cp
            refine wp_mono (ih cur e0 h0 x e' h' hq ub ρ0 a0 w0 ag ah aa) ?_
            rintro ex a1 w1 hp
            have ab:h6 ρ h w n a x e' h' ex a1 w1:=hp.trans ad af
            obtain ⟨rfl,_⟩:=hp
            cases x with
            | normal=>exact ab
            | exit i=>exact ab
            | goto l=>exact absurd hq (cp _ _ _)
            | ret=>exact ab
      exact EC k (key k c1 e h b9 hh ρ a w he hs hl rfl (Ext.refl _ _ _ _))
    · simp at hh;obtain ⟨j,I,J⟩:=hh;exact wp_exit (here (.exit _) j.symm I.symm J.symm _ rfl)
    · simp at hh;obtain ⟨j,I,J⟩:=hh;exact wp_goto (here (.goto _) j.symm I.symm J.symm _ rfl)
    · simp at hh;obtain ⟨j,I,J⟩:=hh;exact wp_ret (here .ret j.symm I.symm J.symm _ rfl)
    · cases hh
end
end
section
open Go
def bits (m:Nat):List Nat:=(List.range (m+1)).filter fun j=>m.testBit j
theorem sN {m j:Nat}:j∈bits m↔m.testBit j=true:=by
 unfold bits
 rw [List.mem_filter,List.mem_range]
 refine ⟨fun h=>h.2,fun h=>⟨?_,h⟩⟩
 have:=Nat.ge_two_pow_of_testBit h
 have h2:j<2 ^ j:=Nat.lt_two_pow_self
 omega
def Pr (L:List Oper) (i:Nat):List Nat:=bits ((dC L).getD i 0)
theorem zM {o:Oper} {n:Nat} {acc:List Nat} {j:Nat} (h:(v3 o n acc).testBit j=true):∃ e∈o.after.toList,Region.binds .any e=true∧(j=e.on∨(e.on<n∧(acc.getD (n - 1 - e.on) 0).testBit j=true)):=by
 have key:∀ (l:List Edge) (m:Nat),(l.foldl (fun m e=>if Region.binds .any e then Nat.lor (Nat.lor m (Nat.shiftLeft 1 e.on)) (if Nat.blt e.on n then acc.getD (n - 1 - e.on) 0 else 0) else m) m).testBit j=true→
   m.testBit j=true∨∃ e∈l,Region.binds .any e=true∧(j=e.on∨(e.on<n∧(acc.getD (n - 1 - e.on) 0).testBit j=true)):=by
  intro l
  induction l with
  | nil=>intro m h;exact .inl h
  | cons e l ih=>
   intro m h
   rcases ih _ h with h1 | ⟨e',h1,h2⟩
   ·by_cases hb:Region.binds .any e=true
    ·simp only [if_pos hb] at h1
     have e1:∀ a b:Nat,(Nat.lor a b).testBit j=(a.testBit j || b.testBit j):=fun a b=>Nat.testBit_or a b j
     rw [e1,vg] at h1
     simp only [Bool.or_eq_true,decide_eq_true_eq] at h1
     rcases h1 with (h1 | h1) | h1
     ·exact .inl h1
     ·exact .inr ⟨e,by simp,hb, .inl h1.symm⟩
     ·by_cases bD:e.on<n
      ·rw [if_pos (by rw [Nat.blt_eq];exact bD)] at h1
       exact .inr ⟨e,by simp,hb, .inr ⟨bD,h1⟩⟩
      ·rw [if_neg (by rw [Nat.blt_eq];exact bD)] at h1
       simp at h1
    ·simp only [if_neg hb] at h1;exact .inl h1
   ·exact .inr ⟨e',by simp [h1],h2⟩
 rcases key _ 0 h with h1 | h1
 ·simp at h1
 ·exact h1
theorem yi:∀ (os:List Oper) (n:Nat) (acc:List Nat),(predsAux os n acc).length=acc.length+os.length:=by
 intro os
 induction os with
 | nil=>intro n acc;simp [predsAux]
 | cons o os ih=>intro n acc;simp only [predsAux,rD,ih,List.length_cons];omega
theorem Eo (acc:List Nat) (i:Nat) (h:i<acc.length):acc.reverse.getD i 0=acc.getD (acc.length - 1 - i) 0:=by
 rw [List.getD_eq_getElem?_getD,List.getD_eq_getElem?_getD,List.getElem?_reverse h]
theorem vM:∀ (os:List Oper) (n:Nat) (acc:List Nat) (i:Nat),acc.length=n→i<n→(predsAux os n acc).getD i 0=acc.getD (n - 1 - i) 0:=by
 intro os
 induction os with
 | nil=>intro n acc i hn h;simp only [predsAux];rw [Eo _ _ (by omega),hn]
 | cons o os ih=>
  intro n acc i hn h
  simp only [predsAux,rD]
  rw [ih _ _ _ (by simp [hn]) (by omega)]
  have:n+1 - 1 - i=(n - 1 - i)+1:=by omega
  rw [this]
  simp [List.getD_eq_getElem?_getD]
theorem GJ:∀ (os:List Oper) (n:Nat) (acc:List Nat) (k:Nat) (o:Oper),acc.length=n→os[k]?=some o→∀ j,((predsAux os n acc).getD (n+k) 0).testBit j=true→
  ∃ e∈o.after.toList,Region.binds .any e=true∧(j=e.on∨(e.on<n+k∧((predsAux os n acc).getD e.on 0).testBit j=true)):=by
 intro os
 induction os with
 | nil=>intro n acc k o hn h;simp at h
 | cons o os ih=>
  intro n acc k o' hn h j hj
  simp only [predsAux,rD] at hj ⊢
  cases k with
  | zero=>
   simp at h;subst h
   rw [Nat.add_zero,vM _ _ _ _ (by simp [hn]) (by omega)] at hj
   simp [List.getD_eq_getElem?_getD] at hj
   obtain ⟨e,he,hb,hc⟩:=zM hj
   refine ⟨e,he,hb,hc.imp id fun ⟨h1,h2⟩=>⟨by omega,?_⟩⟩
   rw [vM _ _ _ _ (by simp [hn]) (by omega)]
   have:n+1 - 1 - e.on=(n - 1 - e.on)+1:=by omega
   rw [this]
   simpa [List.getD_eq_getElem?_getD] using h2
  | succ k=>
   have e1:n+(k+1)=(n+1)+k:=by omega
   rw [e1] at hj ⊢
   exact ih _ _ k o' (by simp [hn]) (by simpa using h) j hj
theorem wv {L:List Oper} {i:Nat} {o:Oper} (ho:L[i]?=some o) {j:Nat} (hj:j∈Pr L i):∃ e∈o.after.toList,Region.binds .any e=true∧(j=e.on∨(e.on<i∧j∈Pr L e.on)):=by
 have:=GJ L 0 [] i o rfl ho j (by simpa [Pr,dC,sN] using hj)
 simpa [Pr,dC,sN] using this
theorem zU {L:List Oper} {i:Nat} (h:L[i]?=none):Pr L i=[]:=by
 have:(dC L).length=L.length:=by simp [dC,yi]
 unfold Pr
 rw [List.getD_eq_getElem?_getD,List.getElem?_eq_none (by rw [this];exact List.getElem?_eq_none_iff.1 h)]
 rfl
theorem kW {L:List Oper} (hb:mG L=true):∀ (i j:Nat),j∈Pr L i→j<i:=by
 intro i
 induction i using Nat.strongRecOn with
 | _ i ih=>
  intro j hj
  cases ho:L[i]? with
  | none=>rw [zU ho] at hj;cases hj
  | some o=>
   obtain ⟨e,he,o1,hc⟩:=wv ho hj
   have hi:i<L.length:=(List.getElem?_eq_some_iff.1 ho).1
   simp only [mG,List.all_eq_true,List.mem_range] at hb
   have h1:=hb i hi e (by rw [List.getD_eq_getElem?_getD,ho];exact he)
   rw [o1] at h1
   have h2:e.on<i:=by simpa using h1
   rcases hc with rfl | ⟨_,I⟩
   ·exact h2
   ·exact Nat.lt_trans (ih e.on h2 j I) h2
theorem lJ {L:List Oper} {i j:Nat}:ordered (dC L) i j=true↔j∈Pr L i∨i∈Pr L j:=by
 simp [ordered,Pr,sN]
theorem wB (p:Nat→Prop):∀ (n:Nat),(∃ j,j<n∧p j)→∃ j,j<n∧p j∧∀ k,j<k→k<n→¬ p k:=by
 intro n
 induction n with
 | zero=>rintro ⟨j,h,_⟩;omega
 | succ n ih=>
  rintro ⟨j,h,hp⟩
  by_cases hn:p n
  ·exact ⟨n,by omega,hn,fun k h1 h2=>by omega⟩
  ·obtain ⟨m,h1,h2,I⟩:=ih ⟨j,by
    have:j≠n:=fun e=>hn (e ▸ hp)
    omega,hp⟩
   refine ⟨m,by omega,h2,fun k J U hk=>?_⟩
   by_cases e:k=n
   ·exact hn (e ▸ hk)
   ·exact I k J (by omega) hk
theorem vu {a b:ByteArray} (h:a.data.toList=b.data.toList):a=b:=by
 cases a;cases b
 congr 1
 exact Array.ext' h
theorem wG {a b:Value} (h:sameV a b=true):a=b:=by
 unfold sameV at h
 split at h
 ·simp at h;rw [h]
 ·simp at h;rw [h.1,h.2]
 ·exact congrArg Value.string (vu (by simpa using h))
 ·simp at h;rw [h]
 ·simp at h;rw [h.1.1,h.1.2,h.2]
 ·rename_i c7 bs
  simp only [Bool.and_eq_true,decide_eq_true_eq,List.all_eq_true] at h
  obtain ⟨h1,h2⟩:=h
  congr 1
  apply Array.ext h1
  intro i hi J
  have:=h2 (c7[i],bs[i]) (by
   rw [List.mem_iff_getElem?]
   refine ⟨i,?_⟩
   rw [List.getElem?_zip_eq_some]
   exact ⟨by simp [hi],by simp [J]⟩)
  simp only at this
  split at this
  ·simp at this;rename_i j I;rw [j,I,this]
  ·simp at this;rename_i j I;rw [j,I,this.1,this.2]
  ·rename_i j I;rw [j,I];exact congrArg Value.string (vu (by simpa using this))
  ·simp at this;rename_i j I;rw [j,I,this]
  ·simp at this;rename_i j I;rw [j,I,this.1.1,this.1.2,this.2]
  ·cases this
 ·cases h
section
variable {P:Program}
def lookBlk (ev:Operand→Value):Op→Option Nat
 | .load _ x=>match ev x with | .pointer (some a)=>some a.block | _=>none
 | .convert _ _ x=>match ev x with | .slice (some a) n _=>if n=0 then none else some a.block | _=>none
 | _=>none
theorem sn {ev:Operand→Value} {op:Op} (hc:cls P op= .look) {h h':AH} (hb:∀ b,lookBlk ev op=some b→h.ae b=h'.ae b):aLook P ev op h=aLook P ev op h':=by
 cases op<;>simp only [cls] at hc<;>try (cases hc;done)
 case load t x=>
  simp only [aLook,aLoad]
  split
  ·rename_i a hx
   have kG:=hb a.block (by simp [lookBlk,hx])
   have h1:∀ n,h.cN a n=h'.cN a n:=fun n=>by simp only [AH.cN,kG]
   have h2:h.load a=h'.load a:=by simp only [AH.load,kG]
   simp only [h1,h2]
  ·rfl
 case convert s d x=>
  split at hc
  ·rename_i hd
   simp only [aLook]
   unfold aConvert
   rw [hd]
   cases hu:P.underlying s with
   | none=>simp
   | some u=>
    cases hx:ev x<;>try (cases u<;>rfl)
    rename_i a n c
    cases a with
    | none=>cases u<;>simp;split<;>rfl
    | some a=>
     cases u<;>try rfl
     rename_i e
     simp only
     split
     ·by_cases h0:n=0
      ·simp [h0]
      ·rw [if_neg h0,if_neg h0]
       have kG:=hb a.block (by simp [lookBlk,hx,h0])
       have h1:h.cN a n=h'.cN a n:=by simp only [AH.cN,kG]
       rw [h1]
       cases h'.cN a n with
       | none=>rfl
       | some cs=>cases hq:bytesOf cs<;>simp [hq]
     ·rfl
  ·cases hc
  ·cases hc
 case call c=>split at hc<;>cases hc
theorem yv {ev:Operand→Value} {op:Op} (hc:cls P op= .look) {h:AH} {v:Value} (hl:aLook P ev op h=some v):∀ b,lookBlk ev op=some b→h.ae b≠none:=by
 intro b hb hn
 cases op<;>simp only [cls] at hc<;>try (cases hc;done)
 case load t x=>
  simp only [lookBlk] at hb
  split at hb
  ·rename_i a hx
   simp at hb;subst hb
   simp only [aLook,aLoad,hx] at hl
   cases hd:P.underlying t with
   | none=>rw [hd] at hl;cases hl
   | some d=>
    rw [hd] at hl
    simp only [ax] at hl
    have h1:∀ n,h.cN a n=none:=fun n=>by unfold AH.cN;cases a.spot<;>simp [hn]
    have h2:h.load a=none:=by unfold AH.load;cases a.spot<;>simp [hn]
    split at hl
    ·cases hz:b6 P t with
     | none=>rw [hz] at hl;cases hl
     | some s=>rw [hz] at hl;simp [h1] at hl
    ·rw [h2] at hl;cases hl
  ·cases hb
 case convert s d x=>
  split at hc
  ·rename_i hd
   simp only [lookBlk] at hb
   split at hb
   ·rename_i a n c hx
    split at hb
    ·cases hb
    ·rename_i h0
     simp at hb;subst hb
     simp only [aLook] at hl
     unfold aConvert at hl
     rw [hd,hx] at hl
     have h1:∀ n,h.cN a n=none:=fun n=>by unfold AH.cN;cases a.spot<;>simp [hn]
     cases hu:P.underlying s with
     | none=>rw [hu] at hl;simp at hl
     | some u=>
      rw [hu] at hl
      cases u<;>try (simp at hl;done)
      simp only [h0,if_false,h1,Option.bind_none] at hl
      split at hl<;>simp at hl
   ·cases hb
  ·cases hc
  ·cases hc
 case call c=>split at hc<;>cases hc
theorem ow {α:Type} {o:Option Value} {h h':α} {v:Value} (hm:o.map (·,h)=some (v,h')):h'=h∧∀ h2:α,o.map (·,h2)=some (v,h2):=by
 cases o with
 | none=>cases hm
 | some u=>simp at hm;obtain ⟨rfl,rfl⟩:=hm;exact ⟨rfl,fun _=>rfl⟩
theorem DE {call:cV} {ev:Operand→Value} {op:Op} (hc:cls P op= .pure) {h h':AH} {v:Value} (ay:aOp P call ev op h=some (v,h')):h'=h∧∀ h2,aOp P call ev op h2=some (v,h2):=by
 cases op<;>simp only [cls] at hc<;>try (cases hc;done)
 case pick c a b=>simp only [aOp] at ay ⊢;split at ay<;>simp at ay;obtain ⟨rfl,rfl⟩:=ay;rename_i t ht;exact ⟨rfl,fun h2=>by simp [ht]⟩
 case move x=>simp [aOp] at ay ⊢;obtain ⟨rfl,rfl⟩:=ay;simp
 case assign x=>simp [aOp] at ay ⊢;obtain ⟨rfl,rfl⟩:=ay;simp
 case nilCheck x=>
  simp only [aOp] at ay ⊢
  split at ay
  ·rename_i a ha;simp at ay;obtain ⟨rfl,rfl⟩:=ay;exact ⟨rfl,fun h2=>by simp [ha]⟩
  ·rename_i f fi ca ha;simp at ay;obtain ⟨rfl,rfl⟩:=ay;exact ⟨rfl,fun h2=>by simp [ha]⟩
  ·cases ay
 case makeInterface t x=>
  simp only [aOp] at ay ⊢
  split at ay
  ·cases ay
  ·rename_i d gO hu;simp at ay;obtain ⟨rfl,rfl⟩:=ay
   exact ⟨rfl,fun h2=>by cases d<;>first | rfl | (exact absurd rfl (gO _)) | (simp [hu])⟩
  ·cases ay
 case makeFunc fn fi ca=>
  cases fn<;>simp only [aOp] at ay ⊢<;>try (cases ay;done)
  injection ay with ay;injection ay with e1 j;subst e1;subst j;exact ⟨rfl,fun _=>rfl⟩
 case extract x i=>
  simp only [aOp] at ay ⊢
  split at ay
  ·rename_i vs hv;obtain ⟨I,J⟩:=ow ay;exact ⟨I,fun h2=>by simpa [hv] using J h2⟩
  ·cases ay
 case convert s d x=>
  split at hc
  ·cases hc
  ·rename_i k hd
   simp only [aOp] at ay ⊢
   unfold aConvert at ay ⊢
   rw [hd] at ay ⊢
   cases hu:P.underlying s with
   | none=>rw [hu] at ay;simp at ay
   | some u=>
    rw [hu] at ay
    cases hx:ev x<;>rw [hx] at ay<;>try (cases u<;>simp at ay;done)
    simp at ay ⊢
    obtain ⟨rfl,rfl⟩:=ay
    simp
  ·cases hc
 case call c=>
  have key:∀ (b:Builtin) (ts:List TypeId) (args:List Value),(b= .len∨b= .max∨b= .min)→aBuiltin P b ts args h=some (v,h')→h'=h∧∀ h2,aBuiltin P b ts args h2=some (v,h2):=by
   intro b ts args hb hq
   rcases hb with rfl | rfl | rfl
   ·cases ts with
    | nil=>simp [aBuiltin] at hq
    | cons t ts=>cases args with
     | nil=>simp [aBuiltin] at hq
     | cons x xs=>exact ow hq
   ·cases args with
    | nil=>simp [aBuiltin] at hq
    | cons x xs=>exact ow hq
   ·cases args with
    | nil=>simp [aBuiltin] at hq
    | cons x xs=>exact ow hq
  split at hc
  all_goals try (cases hc;done)
  all_goals
   rename_i hb
   simp only [aOp,hb] at ay ⊢
   exact key _ _ _ (by simp) ay
 all_goals
  simp only [aOp] at ay ⊢
  exact ow ay
end
end
section
open Go
section
variable {P:Program}
theorem xP {call:cV} {ops:Array Oper} {base:Nat}:∀ (os:List Oper) (i:Nat) (s sF:gy),aDraw P call ops base i os s=some sF→
  ∃ st:Nat→gy,st i=s∧st (i+os.length)=sF∧∀ (k:Nat) o,os[k]?=some o→
   (ct ops (st (i+k)).e o=true∧aDrawOp P call ops.toList base (i+k) o (st (i+k))=some (st (i+k+1)))∨
   (ct ops (st (i+k)).e o=false∧st (i+k+1)={st (i+k) with e:=(st (i+k)).e.put o.dst undef}):=by
 intro os
 induction os with
 | nil=>intro i s sF h;simp [aDraw] at h;subst h;exact ⟨fun _=>s,rfl,rfl,fun k o hk=>by simp at hk⟩
 | cons o os ih=>
  intro i s sF h
  simp only [aDraw] at h
  have glue:∀ s1,aDraw P call ops base (i+1) os s1=some sF→
    ((ct ops s.e o=true∧aDrawOp P call ops.toList base i o s=some s1)∨(ct ops s.e o=false∧s1={s with e:=s.e.put o.dst undef}))→
    ∃ st:Nat→gy,st i=s∧st (i+(o::os).length)=sF∧∀ (k:Nat) o',(o::os)[k]?=some o'→
     (ct ops (st (i+k)).e o'=true∧aDrawOp P call ops.toList base (i+k) o' (st (i+k))=some (st (i+k+1)))∨
     (ct ops (st (i+k)).e o'=false∧st (i+k+1)={st (i+k) with e:=(st (i+k)).e.put o'.dst undef}):=by
   intro s1 h1 rJ
   obtain ⟨st,I,J,U⟩:=ih (i+1) s1 sF h1
   refine ⟨fun j=>if j=i then s else st j,by simp,?_,fun k o' hk=>?_⟩
   ·have:i+(o::os).length≠i:=by simp
    simp only [this,if_false]
    rw [← J];congr 1;simp;omega
   ·cases k with
    | zero=>
     simp at hk;subst hk
     have e1:(i+0+1=i)=False:=by simp
     simp only [Nat.add_zero,if_true,e1,if_false]
     have:(i+1=i)=False:=by simp
     simp only [this,if_false,I]
     exact rJ
    | succ k=>
     have:=U k o' (by simpa using hk)
     have e1:(i+(k+1)=i)=False:=by simp
     have aa:(i+(k+1)+1=i)=False:=by simp;omega
     simp only [e1,aa,if_false]
     have ab:i+(k+1)=i+1+k:=by omega
     rw [ab]
     exact this
  split at h
  ·rename_i hw
   cases ho:aDrawOp P call ops.toList base i o s with
   | none=>rw [ho] at h;cases h
   | some s1=>rw [ho] at h;exact glue s1 h (.inl ⟨hw,ho⟩)
  ·rename_i hw
   exact glue _ h (.inr ⟨by simpa using hw,rfl⟩)
structure vR (P:Program) (call:cV) (ops:Array Oper) (base:Nat) (E:Nat→Env) (H:Nat→AH) (val:Nat→Value):Prop where
 put:∀ i o,ops.toList[i]?=some o→E (i+1)=(E i).put o.dst (val i)
 off:∀ i o,ops.toList[i]?=some o→ct ops (E i) o=false→val i=undef∧H (i+1)=H i
 pure:∀ i o,ops.toList[i]?=some o→ct ops (E i) o=true→cls P o.op= .pure→(∀ h2,aOp P call (E i).ev o.op h2=some (val i,h2))∧H (i+1)=H i
 look:∀ i o,ops.toList[i]?=some o→ct ops (E i) o=true→cls P o.op= .look→aLook P (E i).ev o.op (H i)=some (val i)∧H (i+1)=H i
 fresh:∀ i o,ops.toList[i]?=some o→ct ops (E i) o=true→cls P o.op= .fresh→∃ f,aFresh P (E i).ev o.op=some f∧val i=f.1 (base+i)∧(H (i+1)).next=(H i).next∧∀ b,(H (i+1)).ae b=if b=base+i then some ⟨f.2.1,true,f.2.2⟩ else (H i).ae b
 make:∀ i o,ops.toList[i]?=some o→ct ops (E i) o=true→cls P o.op= .make→∃ r,aOp P call (E i).ev o.op {H i with low:=(H i).next}=some (val i,r)∧(∀ b,(H (i+1)).ae b=r.ae b)∧(H (i+1)).next=r.next∧bH {H i with low:=(H i).next} r
 iH:∀ j o,ops.toList[j]?=some o→ct ops (E j) o=true→cls P o.op= .make→(∀ b,b<(H j).next→(H (j+1)).ae b=(H j).ae b)∨
  (∀ i oi,ops.toList[i]?=some oi→ct ops (E i) oi=true→cls P oi.op= .look→ordered (dC ops.toList) i j=false→(i<j→aLook P (E i).ev oi.op (H (j+1))=some (val i))∧(j<i→aLook P (E i).ev oi.op (H j)=some (val i)))
theorem sG (ps:List Nat) (i j:Nat):ordered ps i j=ordered ps j i:=by simp [ordered,Bool.or_comm]
theorem draw_facts {call:cV} (bp:fX call) {ops:Array Oper} {base:Nat} {s sF:gy} (h:aDraw P call ops base 0 ops.toList s=some sF) (hl:s.looks=[]) (he:s.ee=[]):
  ∃ E H val,vR P call ops base E H val∧E 0=s.e∧H 0=s.h∧E ops.size=sF.e∧H ops.size=sF.h:=by
 obtain ⟨st,h0,h1,h2⟩:=xP ops.toList 0 s sF h
 have oY:∀ (i:Nat) o,ops.toList[i]?=some o→(ct ops (st i).e o=true∧aDrawOp P call ops.toList base i o (st i)=some (st (i+1)))∨(ct ops (st i).e o=false∧st (i+1)={st i with e:=(st i).e.put o.dst undef}):=by
  intro i o ho
  simpa using h2 i o ho
 let val:Nat→Value:=fun i=>match ops.toList[i]? with
  | none=>undef
  | some o=>if ct ops (st i).e o=true then (match cls P o.op with
    | .pure=>((aOp P call (st i).e.ev o.op (st i).h).map (·.1)).getD undef
    | .look=>(aLook P (st i).e.ev o.op (st i).h).getD undef
    | .fresh=>((aFresh P (st i).e.ev o.op).map fun f=>f.1 (base+i)).getD undef
    | .make=>((aOp P call (st i).e.ev o.op {(st i).h with low:=(st i).h.next}).map (·.1)).getD undef) else undef
 have qu:∀ i o,ops.toList[i]?=some o→ct ops (st i).e o=false→st (i+1)={st i with e:=(st i).e.put o.dst (val i)}∧val i=undef:=by
  intro i o ho hw
  have jg:ops[i]?=some o:=by simpa using ho
  have hv:val i=undef:=by simp [val,ho,jg,hw]
  rcases oY i o ho with ⟨q,_⟩ | ⟨_,q⟩
  ·rw [hw] at q;cases q
  ·rw [hv];exact ⟨q,rfl⟩
 have q0:∀ i o,ops.toList[i]?=some o→ct ops (st i).e o=true→cls P o.op= .pure→∃ r,aOp P call (st i).e.ev o.op (st i).h=some r∧val i=r.1∧st (i+1)={st i with e:=(st i).e.put o.dst (val i)}:=by
  intro i o ho hw hc
  rcases oY i o ho with ⟨_,q⟩ | ⟨q,_⟩
  ·unfold aDrawOp at q
   rw [hc] at q
   simp only at q
   cases hr:aOp P call (st i).e.ev o.op (st i).h with
   | none=>rw [hr] at q;cases q
   | some r=>
    rw [hr] at q
    have jg:ops[i]?=some o:=by simpa using ho
    have hv:val i=r.1:=by simp [val,ho,jg,hw,hc,hr]
    exact ⟨r,rfl,hv,by rw [hv];exact (Option.some.inj q).symm⟩
  ·rw [hw] at q;cases q
 have kH:∀ i o,ops.toList[i]?=some o→ct ops (st i).e o=true→cls P o.op= .look→aLook P (st i).e.ev o.op (st i).h=some (val i)∧st (i+1)={st i with e:=(st i).e.put o.dst (val i),looks:=(i,(st i).e,val i)::(st i).looks}∧
   ∀ x∈(st i).ee,ordered (dC ops.toList) i x.1=false→aLook P (st i).e.ev o.op x.2=some (val i):=by
  intro i o ho hw hc
  rcases oY i o ho with ⟨_,q⟩ | ⟨q,_⟩
  ·unfold aDrawOp at q
   rw [hc] at q
   simp only at q
   cases hr:aLook P (st i).e.ev o.op (st i).h with
   | none=>rw [hr] at q;cases q
   | some v=>
    rw [hr] at q
    simp only [ax] at q
    have jg:ops[i]?=some o:=by simpa using ho
    have hv:val i=v:=by simp [val,ho,jg,hw,hc,hr]
    rw [hv]
    split at q
    ·rename_i fP
     refine ⟨rfl,(Option.some.inj q).symm,fun x hx gU=>?_⟩
     have:=List.all_eq_true.1 fP x hx
     rw [gU,Bool.false_or] at this
     split at this
     ·rename_i u hu;rw [hu,wG this]
     ·cases this
    ·cases q
  ·rw [hw] at q;cases q
 have rS:∀ i o,ops.toList[i]?=some o→ct ops (st i).e o=true→cls P o.op= .fresh→∃ f,aFresh P (st i).e.ev o.op=some f∧val i=f.1 (base+i)∧
   st (i+1)={st i with e:=(st i).e.put o.dst (val i),h:={(st i).h with t:=(st i).h.t.set (base+i) (some ⟨f.2.1,true,f.2.2⟩)}}:=by
  intro i o ho hw hc
  rcases oY i o ho with ⟨_,q⟩ | ⟨q,_⟩
  ·unfold aDrawOp at q
   rw [hc] at q
   simp only at q
   cases hr:aFresh P (st i).e.ev o.op with
   | none=>rw [hr] at q;cases q
   | some f=>
    rw [hr] at q
    have jg:ops[i]?=some o:=by simpa using ho
    have hv:val i=f.1 (base+i):=by simp [val,ho,jg,hw,hc,hr]
    exact ⟨f,rfl,hv,by rw [hv];exact (Option.some.inj q).symm⟩
  ·rw [hw] at q;cases q
 have p2:∀ i o,ops.toList[i]?=some o→ct ops (st i).e o=true→cls P o.op= .make→∃ r,aOp P call (st i).e.ev o.op {(st i).h with low:=(st i).h.next}=some (val i,r)∧
   (st (i+1)).e=(st i).e.put o.dst (val i)∧(∀ b,(st (i+1)).h.ae b=r.ae b)∧(st (i+1)).h.next=r.next∧(st (i+1)).looks=(st i).looks∧
   ((st (i+1)).ee=(st i).ee∧(st i).h.next≤r.low∨(st (i+1)).ee=(i,(st i).h)::(st i).ee∧
    ∀ x∈(st i).looks,ordered (dC ops.toList) i x.1=false→aLook P x.2.1.ev (ops.toList.getD x.1 default).op (st (i+1)).h=some x.2.2):=by
  intro i o ho hw hc
  rcases oY i o ho with ⟨_,q⟩ | ⟨q,_⟩
  ·unfold aDrawOp at q
   rw [hc] at q
   simp only at q
   cases hr:aOp P call (st i).e.ev o.op {(st i).h with low:=(st i).h.next} with
   | none=>rw [hr] at q;cases q
   | some r=>
    obtain ⟨v,r⟩:=r
    rw [hr] at q
    simp only [ax] at q
    have jg:ops[i]?=some o:=by simpa using ho
    have hv:val i=v:=by simp [val,ho,jg,hw,hc,hr]
    rw [hv]
    refine ⟨r,rfl,?_⟩
    have fV:∀ b,({r with low:=if r.low<(st i).h.low then r.low else (st i).h.low}:AH).ae b=r.ae b:=fun b=>rfl
    have dQ:({r with low:=if r.low<(st i).h.low then r.low else (st i).h.low}:AH).next=r.next:=rfl
    revert q fV dQ
    generalize ({r with low:=if r.low<(st i).h.low then r.low else (st i).h.low}:AH)=ar
    intro q fV dQ
    split at q
    ·rename_i ib
     have:=Option.some.inj q
     rw [← this]
     exact ⟨rfl,fV,dQ,rfl, .inl ⟨rfl,ib⟩⟩
    ·split at q
     ·rename_i fP
      have:=Option.some.inj q
      rw [← this]
      refine ⟨rfl,fV,dQ,rfl, .inr ⟨rfl,fun x hx gU=>?_⟩⟩
      have aa:=List.all_eq_true.1 fP x hx
      rw [gU,Bool.false_or] at aa
      split at aa
      ·rename_i u hu;rw [hu,wG aa]
      ·cases aa
     ·cases q
  ·rw [hw] at q;cases q
 have h8:∀ c:fD,c= .pure∨c= .look∨c= .fresh∨c= .make:=by intro c;cases c<;>simp
 have B6:∀ i o,ops.toList[i]?=some o→(∀ x∈(st i).looks,x∈(st (i+1)).looks)∧(∀ x∈(st i).ee,x∈(st (i+1)).ee):=by
  intro i o ho
  cases hw:ct ops (st i).e o with
  | false=>rw [(qu i o ho hw).1];exact ⟨fun x q=>q,fun x q=>q⟩
  | true=>
   rcases h8 (cls P o.op) with hc | hc | hc | hc
   ·obtain ⟨r,_,_,q⟩:=q0 i o ho hw hc;rw [q];exact ⟨fun x q=>q,fun x q=>q⟩
   ·obtain ⟨_,q,_⟩:=kH i o ho hw hc;rw [q];exact ⟨fun x q=>List.mem_cons_of_mem _ q,fun x q=>q⟩
   ·obtain ⟨f,_,_,q⟩:=rS i o ho hw hc;rw [q];exact ⟨fun x q=>q,fun x q=>q⟩
   ·obtain ⟨r,_,_,_,_,q,I⟩:=p2 i o ho hw hc
    refine ⟨fun x hx=>by rw [q];exact hx,fun x hx=>?_⟩
    rcases I with ⟨I,_⟩ | ⟨I,_⟩
    ·rw [I];exact hx
    ·rw [I];exact List.mem_cons_of_mem _ hx
 have vv:∀ (d i:Nat),i+d≤ops.toList.length→(∀ x∈(st i).looks,x∈(st (i+d)).looks)∧(∀ x∈(st i).ee,x∈(st (i+d)).ee):=by
  intro d
  induction d with
  | zero=>intro i _;exact ⟨fun x q=>q,fun x q=>q⟩
  | succ d ih=>
   intro i hi
   obtain ⟨ag,ah⟩:=B6 (i+d) _ (aX (by omega))
   obtain ⟨ai,aj⟩:=ih i (by omega)
   exact ⟨fun x q=>ag x (ai x q),fun x q=>ah x (aj x q)⟩
 refine ⟨fun i=>(st i).e,fun i=>(st i).h,val,⟨?_,?_,?_,?_,?_,?_,?_⟩,by simp only [h0],by simp only [h0],by simp [← h1],by simp [← h1]⟩
 ·intro i o ho
  cases hw:ct ops (st i).e o with
  | false=>rw [(qu i o ho hw).1]
  | true=>
   rcases h8 (cls P o.op) with hc | hc | hc | hc
   ·obtain ⟨r,_,_,q⟩:=q0 i o ho hw hc;rw [q]
   ·obtain ⟨_,q,_⟩:=kH i o ho hw hc;rw [q]
   ·obtain ⟨f,_,_,q⟩:=rS i o ho hw hc;rw [q]
   ·obtain ⟨r,_,q,_⟩:=p2 i o ho hw hc;exact q
 ·intro i o ho hw
  obtain ⟨J,I⟩:=qu i o ho hw
  exact ⟨I,by simp only [J]⟩
 ·intro i o ho hw hc
  obtain ⟨r,J,I,U⟩:=q0 i o ho hw hc
  obtain ⟨_,ad⟩:=DE hc (v:=r.1) (h':=r.2) J
  exact ⟨fun h2=>by rw [I];exact ad h2,by simp only [U]⟩
 ·intro i o ho hw hc
  obtain ⟨J,I,_⟩:=kH i o ho hw hc
  exact ⟨J,by simp only [I]⟩
 ·intro i o ho hw hc
  obtain ⟨f,J,I,U⟩:=rS i o ho hw hc
  refine ⟨f,J,I,by simp only [U],fun b=>?_⟩
  simp only [U,AH.ae,Tr.e8]
 ·intro i o ho hw hc
  obtain ⟨r,J,I,U,af,_⟩:=p2 i o ho hw hc
  exact ⟨r,J,U,af,nE bp J⟩
 ·intro j o ho hw hc
  obtain ⟨r,J,I,U,af,ad,ak⟩:=p2 j o ho hw hc
  rcases ak with ⟨_,ab⟩ | ⟨ab,an⟩
  ·left
   intro b hb
   show (st (j+1)).h.ae b=_
   rw [U b]
   exact (nE bp J).ae b hb (Nat.lt_of_lt_of_le hb ab)
  ·right
   intro i oi rL lv fM gU
   obtain ⟨au,ao,aq⟩:=kH i oi rL lv fM
   have GS:j<ops.toList.length:=(List.getElem?_eq_some_iff.1 ho).1
   have fb:i<ops.toList.length:=(List.getElem?_eq_some_iff.1 rL).1
   refine ⟨fun mi=>?_,fun GV=>?_⟩
   ·have hm:(i,(st i).e,val i)∈(st j).looks:=by
     have:=(vv (j - (i+1)) (i+1) (by omega)).1 (i,(st i).e,val i) (by rw [ao];simp)
     rwa [show i+1+(j - (i+1))=j by omega] at this
    have:=an _ hm (by rw [sG];exact gU)
    have hg:ops.toList.getD i default=oi:=by rw [List.getD_eq_getElem?_getD,rL];rfl
    simp only [hg] at this
    exact this
   ·have hm:(j,(st j).h)∈(st i).ee:=by
     have:=(vv (i - (j+1)) (j+1) (by omega)).2 (j,(st j).h) (by rw [ab];simp)
     rwa [show j+1+(i - (j+1))=i by omega] at this
    exact aq _ hm gU
end
end
section
open Go
variable [Marks]
def Dn (c5:Array Bool) (j:Nat):Prop:=c5.getD j false=true
def leftOf (n:Nat) (c5:Array Bool):List Nat:=(List.range n).filter fun i=>!c5.getD i false
theorem filter_lt {α:Type} (p q:α→Bool):∀ (l:List α),(∀ x∈l,q x=true→p x=true)→(∃ x∈l,p x=true∧q x=false)→(l.filter q).length<(l.filter p).length:=by
 intro l
 induction l with
 | nil=>rintro _ ⟨x,h,_⟩;cases h
 | cons y l ih=>
  intro h1 h2
  have hle:(l.filter q).length≤(l.filter p).length:=by
   clear ih h2
   induction l with
   | nil=>simp
   | cons z l ih=>
    have:=ih fun x hx=>h1 x (by simp at hx ⊢;rcases hx with hx | hx<;>simp [hx])
    simp only [List.filter_cons]
    have hz:=h1 z (by simp)
    cases hq:q z<;>cases hp:p z<;>simp_all<;>omega
  simp only [List.filter_cons]
  have hy:=h1 y (by simp)
  by_cases s7:p y=true∧q y=false
  ·simp only [s7.1,s7.2,if_true,Bool.false_eq_true,if_false,List.length_cons];omega
  ·have:(l.filter q).length<(l.filter p).length:=ih (fun x hx=>h1 x (by simp [hx])) (by
    obtain ⟨x,hx,gz⟩:=h2
    rcases List.mem_cons.1 hx with rfl | hx
    ·exact absurd gz s7
    ·exact ⟨x,hx,gz⟩)
   cases hq:q y<;>cases hp:p y<;>simp_all<;>omega
theorem u6 {n:Nat} {c5:Array Bool} (hn:c5.size=n) {i:Nat} (hi:i<n):Dn (c5.setIfInBounds i true)=fun j=>j=i∨Dn c5 j:=by
 funext j
 unfold Dn
 by_cases e:j=i
 ·subst e
  simp [Array.getD_eq_getD_getElem?,Array.getElem?_setIfInBounds_self_of_lt (show j<c5.size by omega)]
 ·simp [e,Array.getD_eq_getD_getElem?,Array.getElem?_setIfInBounds_ne (Ne.symm e)]
theorem qM {n:Nat} {c5:Array Bool} (hn:c5.size=n) {i:Nat}:c5.getD i true=false↔i<n∧¬ Dn c5 i:=by
 unfold Dn
 rw [Array.getD_eq_getD_getElem?,Array.getD_eq_getD_getElem?]
 by_cases h:i<n
 ·rw [Array.getElem?_eq_getElem (by omega)];simp [h]
 ·rw [Array.getElem?_eq_none (by omega)];simp [h]
theorem D1 {P:Program} {ops:Array Oper} {Q:Exit→Act→World→Prop} (gT:mG ops.toList=true) (I:(Nat→Prop)→Act→World→Prop)
  (rJ:∀ D i o a w,I D a w→ops[i]?=some o→¬ D i→(∀ e∈o.after.toList,Region.binds .any e=true→D e.on)→∀ K:Act→World→Prop,(∀ a' w',I (fun j=>j=i∨D j) a' w'→K a' w')→wpOp P ops Q i K a w)
  (s8:∀ D a w,I D a w→(∀ i,i<ops.size→D i)→Q .normal a w):
  ∀ (fuel:Nat) (c5:Array Bool) (a:Act) (w:World),c5.size=ops.size→(leftOf ops.size c5).length≤fuel→I (Dn c5) a w→wpAny P .any ops Q fuel c5 a w:=by
 have done:∀ (c5:Array Bool),c5.size=ops.size→Region.ready .any ops c5=[]→∀ i,i<ops.size→Dn c5 i:=by
  intro c5 cc hr i
  induction i using Nat.strongRecOn with
  | _ i ih=>
   intro hi
   refine Classical.byContradiction fun hn=>?_
   have:i∈Region.ready .any ops c5:=by
    rw [mem_ready]
    refine ⟨(qM cc).2 ⟨hi,hn⟩,ops[i],by simp [hi],fun e he hb=>?_⟩
    simp only [mG,List.all_eq_true,List.mem_range] at gT
    have h1:=gT i (by simpa using hi) e (by simpa [List.getD_eq_getElem?_getD,hi] using he)
    rw [hb] at h1
    have h2:e.on<i:=by simpa using h1
    exact ih e.on h2 (by omega)
   rw [hr] at this
   cases this
 intro fuel
 induction fuel with
 | zero=>
  intro c5 a w cc hl hI
  have lj:leftOf ops.size c5=[]:=List.eq_nil_of_length_eq_zero (by omega)
  have fP:∀ i,i<ops.size→Dn c5 i:=by
   intro i hi
   refine Classical.byContradiction fun hn=>?_
   have:i∈leftOf ops.size c5:=by
    unfold leftOf
    rw [List.mem_filter,List.mem_range]
    exact ⟨hi,by simpa [Dn] using hn⟩
   rw [lj] at this
   cases this
  refine ⟨?_,s8 _ a w hI fP⟩
  cases hr:Region.ready .any ops c5 with
  | nil=>rfl
  | cons i l=>
   have:i∈Region.ready .any ops c5:=by rw [hr];simp
   obtain ⟨h0,h1⟩:=(qM cc).1 (mem_ready.1 this).1
   exact absurd (fP i h0) h1
 | succ fuel ih=>
  intro c5 a w cc hl hI
  refine ⟨fun hr=>s8 _ a w hI (done c5 cc hr),fun i hi=>?_⟩
  obtain ⟨h0,o,ho,fP⟩:=mem_ready.1 hi
  obtain ⟨bD,hn⟩:=(qM cc).1 h0
  refine rJ _ i o a w hI ho hn (fun e he hb=>fP e (by simpa using he) hb) _ fun a' w' C1=>?_
  refine ih _ a' w' (by simp [cc]) ?_ (by rw [u6 cc bD];exact C1)
  have:(leftOf ops.size (c5.setIfInBounds i true)).length<(leftOf ops.size c5).length:=by
   have hD:=u6 cc bD
   have hd:∀ j,(c5.setIfInBounds i true).getD j false=true↔(j=i∨c5.getD j false=true):=fun j=>by
    have:=congrFun hD j
    unfold Dn at this
    rw [this]
   refine filter_lt _ _ _ (fun j _ hj=>?_) ⟨i,by simpa using bD,?_,?_⟩
   ·simp only [Bool.not_eq_true'] at hj ⊢
    cases hq:c5.getD j false with
    | false=>rfl
    | true=>rw [(hd j).2 (.inr hq)] at hj;cases hj
   ·simpa [Dn] using hn
   ·simp only [(hd i).2 (.inl rfl),Bool.not_true]
  omega
theorem bB.merge {ρ ρ':a4} {w w':World} {G X X' G':da} {nx iZ:Nat} (hs:bB ρ w G nx) (hU:bB ρ' w' X' iZ) (hE:Ext ρ X nx w ρ' X' iZ w')
  (hX:∀ b B,ρ b≠none→X b=some B→G b=some B) (qY:∀ b,b<nx→X b=none→X' b=none)
  (ag:∀ b,ρ b≠none→X b=none→G' b=G b) (ab:∀ b,ρ' b≠none→(ρ b=none∨X b≠none)→G' b=X' b) (hl:∀ b,G' b≠none→b<iZ):bB ρ' w' G' iZ:=by
 have on:∀ {ρ:a4} {b p},ρ b=some p→ρ b≠none:=fun q r=>by rw [q] at r;cases r
 have live:∀ {X:da} {b B},X b=some B→X b≠none:=fun q r=>by rw [q] at r;cases r
 have side:∀ b p,ρ' b=some p→(ρ b=some p∧X b=none∧G' b=G b)∨((ρ b=none∨X b≠none)∧G' b=X' b):=by
  intro b p hp
  cases hr:ρ b with
  | none=>exact .inr ⟨.inl rfl,ab b (on hp) (.inl hr)⟩
  | some q=>
   have:q=p:=by have:=hE.le b q hr;rw [hp] at this;exact (Option.some.inj this).symm
   subst this
   cases hx:X b with
   | none=>exact .inl ⟨rfl,rfl,ag b (on hr) hx⟩
   | some B=>exact .inr ⟨.inr (fun q=>by cases q),ab b (on hp) (.inr (live hx))⟩
 have pg:∀ b B p,ρ b=some p→X b=none→G b=some B→∀ k,kJ ρ X k→k≠p.ae:=by
  rintro b B p hp hx hB k ⟨c,C,q,U,ah,ad,ai⟩ e
  have iE:c≠b:=fun e=>by subst e;rw [hx] at U;cases U
  exact hs.apart c b C B q p iE (hX c C (on ad) U) hB ad hp ah (by rw [ai,e])
 refine ⟨hU.er,hU.lt,fun b B p hB hp=>?_,fun b B p hB hp ho=>?_,fun b c B C p q iE hB hC hp hq ho=>?_,hl⟩
 ·rcases side b p hp with ⟨h1,h2,J⟩ | ⟨h1,h2⟩
  ·intro i v hv
   rw [J] at hB
   obtain ⟨v',aj,ak⟩:=hs.cell b B p hB h1 i v hv
   refine ⟨v',?_,ak.mono hE.le⟩
   rw [← aj]
   exact World.cell?_of_block (hE.a3 _ (hs.lt b p h1) fun hO=>pg b B p h1 h2 hB _ hO rfl)
  ·exact hU.cell b B p (by rw [← h2];exact hB) hp
 ·rcases side b p hp with ⟨h1,h2,J⟩ | ⟨h1,h2⟩
  ·rw [J] at hB
   have:=hs.own b B p hB h1 ho
   rwa [← hE.a3 _ (hs.lt b p h1) fun hO=>pg b B p h1 h2 hB _ hO rfl] at this
  ·exact hU.own b B p (by rw [← h2];exact hB) hp ho
 ·rcases side b p hp with ⟨h1,h2,J⟩ | ⟨h1,h2⟩
  ·rw [J] at hB
   rcases side c q hq with ⟨j,I,aa⟩ | ⟨j,I⟩
   ·exact hs.apart b c B C p q iE hB (by rw [← aa];exact hC) h1 j ho
   ·rw [I] at hC
    cases oD:ρ c with
    | none=>
     rcases hE.new c q hq with g | ⟨_,g | g⟩
     ·rw [oD] at g;cases g
     ·have:=hs.lt b p h1;omega
     ·exact fun e=>pg b B p h1 h2 hB _ g e.symm
    | some q'=>
     have Ey:q'=q:=by have:=hE.le c q' oD;rw [hq] at this;exact (Option.some.inj this).symm
     subst Ey
     have yl:X c≠none:=by
      rcases j with j | j
      ·rw [oD] at j;cases j
      ·exact j
     cases af:X c with
     | none=>exact absurd af yl
     | some C'=>exact hs.apart b c B C' p q' iE hB (hX c C' (on oD) af) h1 oD ho
  ·rw [h2] at hB
   rcases side c q hq with ⟨j,I,aa⟩ | ⟨j,I⟩
   ·rw [aa] at hC
    intro e
    have bD:=hs.lt c q j
    exact pg c C q j I hC p.ae (hE.gH p.ae (by omega) ⟨b,B,p,hB,ho,hp,rfl⟩) e
   ·exact hU.apart b c B C p q iE hB (by rw [← I];exact hC) hp hq ho
theorem Ext.merge {ρ ρ':a4} {w w':World} {G X X' G':da} {nx iZ base:Nat} (hE:Ext ρ X nx w ρ' X' iZ w') (hb:base≤nx)
  (hX:∀ b B,ρ b≠none→X b=some B→G b=some B) (aa:∀ b,ρ b≠none→X b=none→G' b=G b) (ab:∀ b,ρ' b≠none→(ρ b=none∨X b≠none)→G' b=X' b)
  (AS:∀ b,b<base→ρ b=none→G' b=G b):Ext ρ G base w ρ' G' iZ w':=by
 have on:∀ {ρ:a4} {b p},ρ b=some p→ρ b≠none:=fun q r=>by rw [q] at r;cases r
 have gH:∀ k,kJ ρ X k→kJ ρ G k:=fun k ⟨b,B,p,j,J,I,U⟩=>⟨b,B,p,hX b B (on I) j,J,I,U⟩
 refine ⟨hE.le,hE.os,hE.tape,hE.output,hE.size,Nat.le_trans hb hE.nx,fun k hk ho=>hE.a3 k hk fun q=>ho (gH k q),fun k hk ⟨b,B,p,j,J,I,U⟩=>?_,fun b p q=>(hE.new b p q).imp id fun q=>⟨Nat.le_trans hb q.1,q.2.imp id (gH _)⟩,AS⟩
 by_cases h:ρ b≠none∧X b=none
 ·rw [aa b h.1 h.2] at j
  cases hr:ρ b with
  | none=>exact absurd hr h.1
  | some p'=>
   have:=hE.le b p' hr
   rw [I] at this
   cases this
   exact ⟨b,B,p,j,J,hr,U⟩
 ·have h':ρ b=none∨X b≠none:=by
   by_cases e:ρ b=none
   ·exact .inl e
   ·exact .inr fun ad=>h ⟨e,ad⟩
  rw [ab b (on I) h'] at j
  exact gH k (hE.gH k hk ⟨b,B,p,j,J,I,U⟩)
theorem wA {P:Program} {call:cV} {ev:Operand→Value} {op:Op} (hc:cls P op= .look) {h:AH} {v:Value} (hl:aLook P ev op h=some v):aOp P call ev op h=some (v,h):=by
 cases op<;>simp only [cls] at hc<;>try (cases hc;done)
 case load t x=>simp only [aLook] at hl;simp [aOp,hl]
 case convert s d x=>
  split at hc
  ·rename_i hd
   simp only [aLook] at hl
   simp only [aOp]
   have:∀ r,aConvert P s d (ev x) h=some r→r.2=h:=by
    intro r hr
    unfold aConvert at hr
    rw [hd] at hr
    split at hr
    ·rename_i hk _;simp at hk
    ·simp at hr;rw [← hr]
    ·rename_i hk _;simp at hk
    ·rename_i hk _;simp at hk
    ·split at hr
     ·simp at hr;rw [← hr]
     ·cases hr
    ·split at hr
     ·split at hr
      ·simp at hr;rw [← hr]
      ·rename_i n _ _ _ _ a
       revert hr
       cases h.cN _ _ with
       | none=>intro hr;cases hr
       | some cs=>
        intro hr
        simp at hr
        obtain ⟨bs,_,hr⟩:=hr
        rw [← hr]
     ·cases hr
    ·cases hr
   cases hr:aConvert P s d (ev x) h with
   | none=>rw [hr] at hl;cases hl
   | some r=>
    rw [hr] at hl
    simp at hl
    obtain ⟨u,g⟩:=r
    have:=this _ hr
    simp at this hl
    rw [this,hl]
  ·cases hc
  ·cases hc
 case call c=>split at hc<;>cases hc
end
section
open Go
variable [Marks]
structure Dr (P:Program) (call:cV) (ops:Array Oper) (n base:Nat) (E:Nat→Env) (H:Nat→AH) (val:Nat→Value):Prop where
 gr:Good P call
 ok:∀ o∈ops.toList,opOk n o=true
 facts:vR P call ops base E H val
 made:qO P ops.toList=true
 apart:qT ops.toList=true
 back:mG ops.toList=true
 tu:(H 0).next=base+ops.size
 vx:∀ b,(H 0).ae b≠none→b<base
section
variable {P:Program} {call:cV} {ops:Array Oper} {n base:Nat} {E:Nat→Env} {H:Nat→AH} {val:Nat→Value}
def Mk (P:Program) (ops:Array Oper) (E:Nat→Env) (i:Nat):Prop:=∃ o,ops.toList[i]?=some o∧ct ops (E i) o=true∧cls P o.op= .make
def Fr (P:Program) (ops:Array Oper) (E:Nat→Env) (i:Nat):Prop:=∃ o,ops.toList[i]?=some o∧ct ops (E i) o=true∧cls P o.op= .fresh
theorem Mk.lt {i:Nat} (h:Mk P ops E i):i<ops.size:=by
 obtain ⟨o,h1,_⟩:=h
 simpa using (List.getElem?_eq_some_iff.1 h1).1
theorem tE {i:Nat} (h:i<ops.size):∃ o,ops.toList[i]?=some o:=⟨_,aX (by simpa using h)⟩
theorem Dr.step (d:Dr P call ops n base E H val) {i:Nat} (hi:i<ops.size) (hm:¬ Mk P ops E i):
  (H (i+1)).next=(H i).next∧(∀ b,b≠base+i→(H (i+1)).ae b=(H i).ae b)∧(¬ Fr P ops E i→∀ b,(H (i+1)).ae b=(H i).ae b):=by
 obtain ⟨o,ho⟩:=tE hi
 cases hw:ct ops (E i) o with
 | false=>rw [(d.facts.off i o ho hw).2];exact ⟨rfl,fun _ _=>rfl,fun _ _=>rfl⟩
 | true=>
  have h8:∀ c:fD,c= .pure∨c= .look∨c= .fresh∨c= .make:=by intro c;cases c<;>simp
  rcases h8 (cls P o.op) with hc | hc | hc | hc
  ·rw [(d.facts.pure i o ho hw hc).2];exact ⟨rfl,fun _ _=>rfl,fun _ _=>rfl⟩
  ·rw [(d.facts.look i o ho hw hc).2];exact ⟨rfl,fun _ _=>rfl,fun _ _=>rfl⟩
  ·obtain ⟨f,_,_,h1,h2⟩:=d.facts.fresh i o ho hw hc
   exact ⟨h1,fun b hb=>by rw [h2,if_neg hb],fun hf=>absurd ⟨o,ho,hw,hc⟩ hf⟩
  ·exact absurd ⟨o,ho,hw,hc⟩ hm
theorem Dr.pF (d:Dr P call ops n base E H val) {i:Nat} (hm:Mk P ops E i):
  (H i).next≤(H (i+1)).next∧(∀ b,b<(H i).next→(H i).ae b=none→(H (i+1)).ae b=none)∧((∀ b,(H i).ae b≠none→b<(H i).next)→∀ b,(H (i+1)).ae b≠none→b<(H (i+1)).next):=by
 obtain ⟨o,ho,hw,hc⟩:=hm
 obtain ⟨r,_,h1,h2,j⟩:=d.facts.make i o ho hw hc
 refine ⟨by rw [h2];exact j.next,fun b hb q=>by rw [h1];exact j.dead b hb q,fun hl b hb=>?_⟩
 rw [h2]
 exact j.live hl b (by rw [← h1];exact hb)
theorem Dr.ET (d:Dr P call ops n base E H val) {i:Nat}:∀ (m:Nat),i+m≤ops.size→(H i).next≤(H (i+m)).next:=by
 intro m
 induction m with
 | zero=>intro _;exact Nat.le_refl _
 | succ m ih=>
  intro h
  refine Nat.le_trans (ih (by omega)) ?_
  by_cases hm:Mk P ops E (i+m)
  ·exact (d.pF hm).1
  ·exact Nat.le_of_eq (d.step (by omega) hm).1.symm
theorem Dr.sc (d:Dr P call ops n base E H val) {i k:Nat} (h:i≤k) (hk:k≤ops.size):(H i).next≤(H k).next:=by
 have:=d.ET (i:=i) (k - i) (by omega)
 rwa [show i+(k - i)=k by omega] at this
theorem Dr.lX (d:Dr P call ops n base E H val) {k:Nat} (hk:k≤ops.size):base+ops.size≤(H k).next:=by
 rw [← d.tu];exact d.sc (Nat.zero_le k) hk
theorem Dr.live (d:Dr P call ops n base E H val):∀ (k:Nat),k≤ops.size→∀ b,(H k).ae b≠none→b<(H k).next:=by
 intro k
 induction k with
 | zero=>intro _ b hb;rw [d.tu];exact Nat.lt_of_lt_of_le (d.vx b hb) (by omega)
 | succ k ih=>
  intro hk b hb
  by_cases hm:Mk P ops E k
  ·exact (d.pF hm).2.2 (ih (by omega)) b hb
  ·obtain ⟨h1,h2,j⟩:=d.step (by omega) hm
   rw [h1]
   by_cases e:b=base+k
   ·have:=d.lX (k:=k) (by omega);omega
   ·exact ih (by omega) b (by rw [← h2 b e];exact hb)
theorem Dr.dead (d:Dr P call ops n base E H val) {f:Nat} (hf:f<ops.size):∀ (k:Nat),k≤f→(H k).ae (base+f)=none:=by
 intro k
 induction k with
 | zero=>
  intro _
  cases h:(H 0).ae (base+f) with
  | none=>rfl
  | some B=>have:=d.vx (base+f) (by rw [h];exact fun q=>by cases q);omega
 | succ k ih=>
  intro hk
  by_cases hm:Mk P ops E k
  ·refine (d.pF hm).2.1 _ ?_ (ih (by omega))
   have:=d.lX (k:=k) (by omega);omega
  ·rw [(d.step (by omega) hm).2.1 _ (by omega)];exact ih (by omega)
theorem Dr.same (d:Dr P call ops n base E H val) {i:Nat}:∀ (m:Nat),i+m≤ops.size→(∀ j,i≤j→j<i+m→¬ Mk P ops E j)→
  (H (i+m)).next=(H i).next∧∀ b,(∀ j,i≤j→j<i+m→b≠base+j)→(H (i+m)).ae b=(H i).ae b:=by
 intro m
 induction m with
 | zero=>intro _ _;exact ⟨rfl,fun _ _=>rfl⟩
 | succ m ih=>
  intro h hn
  obtain ⟨h1,h2⟩:=ih (by omega) fun j a b=>hn j a (by omega)
  obtain ⟨I,J,_⟩:=d.step (i:=i+m) (by omega) (hn _ (by omega) (by omega))
  exact ⟨I.trans h1,fun b hb=>(J b (hb _ (by omega) (by omega))).trans (h2 b fun j p q=>hb j p (by omega))⟩
theorem Dr.lq (d:Dr P call ops n base E H val) {i k:Nat} (h:i≤k) (hk:k≤ops.size) (hn:∀ j,i≤j→j<k→¬ Mk P ops E j):
  (H k).next=(H i).next∧∀ b,(∀ j,i≤j→j<k→b≠base+j)→(H k).ae b=(H i).ae b:=by
 have:=d.same (i:=i) (k - i) (by omega) (fun j a b=>hn j a (by omega))
 rw [show i+(k - i)=k by omega] at this
 exact this
theorem Dr.quiet (d:Dr P call ops n base E H val) {i:Nat} (hi:i<ops.size) (hm:¬ Mk P ops E i) (hf:¬ Fr P ops E i):(H (i+1)).ae (base+i)=none:=by
 rw [(d.step hi hm).2.2 hf];exact d.dead hi i (Nat.le_refl _)
def Wr (ops:Array Oper) (j t:Nat):Prop:=∃ o,ops.toList[j]?=some o∧o.dst=some t
theorem Wr.lt {j t:Nat} (h:Wr ops j t):j<ops.size:=by
 obtain ⟨o,h1,_⟩:=h
 simpa using (List.getElem?_eq_some_iff.1 h1).1
theorem rN (e:Env) (d:Option Nat) (v:Value) (t:Nat):(e.put d v).get t=if d=some t then v else e.get t:=by
 cases d with
 | none=>simp [Env.put]
 | some d=>
  simp only [Env.put,Env.e8]
  by_cases h:t=d
  ·subst h;simp
  ·rw [if_neg h,if_neg (fun q=>h (by simpa using q.symm))]
theorem Dr.env (d:Dr P call ops n base E H val) (t:Nat):∀ (k:Nat),k≤ops.size→((∀ j,j<k→¬ Wr ops j t)→(E k).get t=(E 0).get t)∧(∀ j,j<k→Wr ops j t→(∀ m,j<m→m<k→¬ Wr ops m t)→(E k).get t=val j):=by
 intro k
 induction k with
 | zero=>intro _;exact ⟨fun _=>rfl,fun j h=>by omega⟩
 | succ k ih=>
  intro hk
  obtain ⟨o,ho⟩:=tE (show k<ops.size by omega)
  obtain ⟨h1,h2⟩:=ih (by omega)
  rw [d.facts.put k o ho,rN]
  refine ⟨fun hn=>?_,fun j hj hw hn=>?_⟩
  ·rw [if_neg fun q=>hn k (by omega) ⟨o,ho,q⟩]
   exact h1 fun j hj=>hn j (by omega)
  ·by_cases e:j=k
   ·subst e
    obtain ⟨o',I,J⟩:=hw
    rw [ho] at I;cases I
    rw [if_pos J]
   ·rw [if_neg fun q=>hn k (by omega) (by omega) ⟨o,ho,q⟩]
    exact h2 j (by omega) hw fun m a b=>hn m a (by omega)
structure Inv (P:Program) (ops:Array Oper) (n base:Nat) (E:Nat→Env) (H:Nat→AH) (val:Nat→Value) (ρ0:a4) (dK:da) (w0:World) (d0:List Deferred)
  (D:Nat→Prop) (a:Act) (w:World) (ρ:a4) (G:da) (c:Nat) (e:Env):Prop where
 closed:∀ i j,D i→j∈Pr ops.toList i→D j
 l4:∀ i,D i→i<ops.size
 fU:c≤ops.size
 me:∀ j,D j→Mk P ops E j→j<c
 p5:∀ j,j<c→Mk P ops E j→D j
 out:∀ b,(b<base∨base+ops.size≤b)→G b=(H c).ae b
 inl:∀ f,D f→f<c→G (base+f)=(H c).ae (base+f)
 inr:∀ f,D f→c≤f→G (base+f)=(H (f+1)).ae (base+f)
 h5:∀ f,f<ops.size→¬ D f→G (base+f)=none∧ρ (base+f)=none
 nL:∀ f,f<ops.size→¬ D f→f<c→(H c).ae (base+f)=(H (f+1)).ae (base+f)
 env:eG ρ e n a
 w1:∀ t j,D j→Wr ops j t→(∀ k,D k→Wr ops k t→k≤j)→e.get t=val j
 w2:∀ t,(∀ j,D j→¬ Wr ops j t)→e.get t=(E 0).get t
 et:bB ρ w G (H c).next
 ext:Ext ρ0 dK base w0 ρ G (H c).next w
 defers:a.defers=d0
variable {ρ0:a4} {dK:da} {w0:World} {d0:List Deferred} {D:Nat→Prop} {a:Act} {w:World} {ρ:a4} {G:da} {c:Nat} {e:Env}
theorem Inv.CV (d:Dr P call ops n base E H val) (v:Inv P ops n base E H val ρ0 dK w0 d0 D a w ρ G c e) {i:Nat} (hi:i<ops.size) (hn:¬ D i) (hp:∀ j∈Pr ops.toList i,D j)
  {t:Nat} (ht:∀ j,Wr ops j t→j≠i→ordered (dC ops.toList) i j=true):e.get t=(E i).get t:=by
 have qC:∀ j,Wr ops j t→(D j↔j<i):=by
  intro j hj
  by_cases e:j=i
  ·subst e;exact ⟨fun q=>absurd q hn,fun q=>absurd q (by omega)⟩
  ·rcases lJ.1 (ht j hj e) with q | q
   ·have:=kW d.back _ _ q
    exact ⟨fun _=>this,fun _=>hp j q⟩
   ·have:=kW d.back _ _ q
    exact ⟨fun J=>absurd (v.closed j i J q) hn,fun J=>by omega⟩
 obtain ⟨h1,h2⟩:=d.env t i (by omega)
 by_cases hex:∃ j,j<i∧Wr ops j t
 ·obtain ⟨j,U,I,aa⟩:=wB (fun j=>Wr ops j t) i hex
  rw [h2 j U I aa]
  exact v.w1 t j ((qC j I).2 U) I fun k hk hw=>by
   have:=(qC k hw).1 hk
   exact Classical.byContradiction fun q=>aa k (by omega) this hw
 ·rw [h1 fun j hj hw=>hex ⟨j,hj,hw⟩]
  exact v.w2 t fun j hj hw=>hex ⟨j,(qC j hw).1 hj,hw⟩
theorem uB (d:Dr P call ops n base E H val) {i j:Nat} {oi oj:Oper} (hi:ops.toList[i]?=some oi) (hj:ops.toList[j]?=some oj) (cp:i≠j) (ho:ordered (dC ops.toList) i j=false):
  (∀ t,oi.dst=some t→oj.dst≠some t)∧(∀ t,oj.dst=some t→t∉oi.looksAt ops):=by
 have h:=d.apart
 simp only [qT,List.all_eq_true,List.mem_range] at h
 have dJ:=(List.getElem?_eq_some_iff.1 hi).1
 have q5:=(List.getElem?_eq_some_iff.1 hj).1
 by_cases bD:j<i
 ·have:=h i dJ j bD
  rw [List.getD_eq_getElem?_getD,List.getD_eq_getElem?_getD,hi,hj,ho] at this
  obtain ⟨_,h2,I⟩:=va (by simpa using this)
  exact ⟨h2,I⟩
 ·have:=h j q5 i (by omega)
  rw [List.getD_eq_getElem?_getD,List.getD_eq_getElem?_getD,hi,hj,sG,ho] at this
  obtain ⟨h1,h2,_⟩:=va (by simpa using this)
  exact ⟨fun t J U=>h2 t U J,h1⟩
theorem Inv.reads (d:Dr P call ops n base E H val) (v:Inv P ops n base E H val ρ0 dK w0 d0 D a w ρ G c e) {i:Nat} {o:Oper} (ho:ops.toList[i]?=some o) (hn:¬ D i) (hp:∀ j∈Pr ops.toList i,D j):
  ∀ t∈o.looksAt ops,e.get t=(E i).get t:=by
 intro t ht
 refine v.CV d (by simpa using (List.getElem?_eq_some_iff.1 ho).1) hn hp fun j ⟨oj,hj,hd⟩ cp=>?_
 refine Classical.byContradiction fun q=>?_
 have:=(uB d ho hj (Ne.symm cp) (by simpa using q)).2 t hd
 exact this ht
theorem Inv.ev (d:Dr P call ops n base E H val) (v:Inv P ops n base E H val ρ0 dK w0 d0 D a w ρ G c e) {i:Nat} {o:Oper} (ho:ops.toList[i]?=some o) (hn:¬ D i) (hp:∀ j∈Pr ops.toList i,D j):
  (∀ x∈o.op.operands,VR ρ ((E i).ev x) (a.eval x))∧ct ops (E i) o=ct ops e o:=by
 have hr:=v.reads d ho hn hp
 have gJ:opOk n o=true:=d.ok o (au ho)
 refine ⟨fun x hx=>?_,?_⟩
 ·have:=v.env.ev (vS gJ x hx)
  have he:(E i).ev x=e.ev x:=by
   cases x with
   | tmp t=>
    simp only [Env.ev]
    refine (hr t ?_).symm
    unfold Oper.looksAt
    rw [List.mem_append]
    exact .inl (List.mem_filterMap.2 ⟨.tmp t,by simpa using hx,rfl⟩)
   | const _=>rfl
   | global _=>rfl
   | func _=>rfl
  rw [he];exact this
 ·unfold ct
  cases hg:o.guard with
  | none=>rfl
  | some g=>
   obtain ⟨j,want⟩:=g
   simp only
   have:aYield ops (E i) j=aYield ops e j:=by
    unfold aYield
    cases hd:(ops[j]?).bind (·.dst) with
    | none=>rfl
    | some t=>
     simp only
     rw [hr t (by unfold Oper.looksAt;rw [List.mem_append];right;simp [hg,hd])]
   rw [this]
theorem Inv.rl (d:Dr P call ops n base E H val) (v:Inv P ops n base E H val ρ0 dK w0 d0 D a w ρ G c e) {i:Nat} {o:Oper} (ho:ops.toList[i]?=some o) (hn:¬ D i) (hp:∀ j∈Pr ops.toList i,D j):
  (∀ t j,(j=i∨D j)→Wr ops j t→(∀ k,(k=i∨D k)→Wr ops k t→k≤j)→(e.put o.dst (val i)).get t=val j)∧(∀ t,(∀ j,(j=i∨D j)→¬ Wr ops j t)→(e.put o.dst (val i)).get t=(E 0).get t):=by
 have before:∀ t,o.dst=some t→∀ j,D j→Wr ops j t→j<i:=by
  intro t ht j hj ⟨oj,h1,h2⟩
  have cp:i≠j:=fun e=>hn (e ▸ hj)
  cases gU:ordered (dC ops.toList) i j with
  | false=>exact absurd h2 ((uB d ho h1 cp gU).1 t ht)
  | true=>
   rcases lJ.1 gU with q | q
   ·exact kW d.back _ _ q
   ·exact absurd (v.closed j i hj q) hn
 refine ⟨fun t j hj hw hk=>?_,fun t ht=>?_⟩
 ·rw [rN]
  by_cases hd:o.dst=some t
  ·rw [if_pos hd]
   rcases hj with rfl | hj
   ·rfl
   ·have h1:=before t hd j hj hw
    have h2:=hk i (.inl rfl) ⟨o,ho,hd⟩
    omega
  ·rw [if_neg hd]
   rcases hj with rfl | hj
   ·obtain ⟨o',I,J⟩:=hw
    rw [ho] at I;cases I
    exact absurd J hd
   ·exact v.w1 t j hj hw fun k q=>hk k (.inr q)
 ·rw [rN,if_neg fun q=>ht i (.inl rfl) ⟨o,ho,q⟩]
  exact v.w2 t fun j hj=>ht j (.inr hj)
theorem Inv.shut (v:Inv P ops n base E H val ρ0 dK w0 d0 D a w ρ G c e) {i:Nat} (hp:∀ j∈Pr ops.toList i,D j):∀ k j,(k=i∨D k)→j∈Pr ops.toList k→(j=i∨D j):=by
 rintro k j (rfl | hk) hj
 ·exact .inr (hp j hj)
 ·exact .inr (v.closed k j hk hj)
theorem rC {G G' X X':da} {nx iZ:Nat} {ρ ρ':a4} {w w':World} (hE:Ext ρ X nx w ρ' X' iZ w') {b:Nat} (hb:b<nx) (hr:ρ b=none):ρ' b=none:=by
 cases h:ρ' b with
 | none=>rfl
 | some p=>
  rcases hE.new b p h with q | q
  ·rw [hr] at q;cases q
  ·omega
theorem Inv.still (d:Dr P call ops n base E H val) (v:Inv P ops n base E H val ρ0 dK w0 d0 D a w ρ G c e) {i:Nat} {o:Oper} (ho:ops.toList[i]?=some o) (hn:¬ D i) (hp:∀ j∈Pr ops.toList i,D j)
  (hm:¬ Mk P ops E i) (hf:¬ Fr P ops E i) {ρ':a4} {w':World} {u:Value} (hle:c3 ρ ρ') (hu:VR ρ' (val i) u) (hs:bB ρ' w' G (H c).next) (hE:Ext ρ G base w ρ' G (H c).next w')
  (iV:∀ f,f<ops.size→ρ (base+f)=none→ρ' (base+f)=none):Inv P ops n base E H val ρ0 dK w0 d0 (fun j=>j=i∨D j) (a.put o.dst u) w' ρ' G c (e.put o.dst (val i)):=by
 have hi:i<ops.size:=by simpa using (List.getElem?_eq_some_iff.1 ho).1
 have gJ:opOk n o=true:=d.ok o (au ho)
 obtain ⟨t1,t2⟩:=v.rl d ho hn hp
 have hq:=d.quiet hi hm hf
 obtain ⟨I,aa⟩:=v.h5 i hi hn
 refine ⟨v.shut hp,fun k hk=>?_,v.fU,fun j hj gv=>?_,fun j hj gv=> .inr (v.p5 j hj gv),v.out,fun f hf hc=>?_,fun f hf hc=>?_,fun f bD hf=>?_,fun f bD hf hc=>?_,(v.env.mono hle).put (mK gJ) hu,t1,t2,hs,v.ext.trans' hE (Nat.le_refl _),by rw [put_defers];exact v.defers⟩
 ·rcases hk with rfl | hk
  ·exact hi
  ·exact v.l4 k hk
 ·rcases hj with rfl | hj
  ·exact absurd gv hm
  ·exact v.me j hj gv
 ·rcases hf with rfl | hf
  ·rw [I,v.nL f hi hn hc,hq]
  ·exact v.inl f hf hc
 ·rcases hf with rfl | hf
  ·rw [I,hq]
  ·exact v.inr f hf hc
 ·obtain ⟨J,U⟩:=v.h5 f bD fun q=>hf (.inr q)
  exact ⟨J,iV f bD U⟩
 ·exact v.nL f bD (fun q=>hf (.inr q)) hc
end
end
section
open Go
variable [Marks]
section
variable {P:Program} {call:cV} {ops:Array Oper} {n base:Nat} {E:Nat→Env} {H:Nat→AH} {val:Nat→Value}
variable {ρ0:a4} {dK:da} {w0:World} {d0:List Deferred} {D:Nat→Prop} {a:Act} {w:World} {ρ:a4} {G:da} {c:Nat} {e:Env}
theorem Inv.E4 (d:Dr P call ops n base E H val) (v:Inv P ops n base E H val ρ0 dK w0 d0 D a w ρ G c e) {i:Nat} (fM:c≤i) (hi:i<ops.size) (dO:∀ j,c≤j→j<i→¬ Mk P ops E j):
  ∀ b,ρ b≠none→(b<base∨base+ops.size≤b∨(H i).ae b≠none∨∃ f,b=base+f∧f<i)→G b=(H i).ae b:=by
 intro b hb hc
 have kZ:∀ f,b=base+f→f<ops.size→f<i→G b=(H i).ae b:=by
  rintro f rfl hf kh
  have hD:D f:=Classical.byContradiction fun q=>hb (v.h5 f hf q).2
  by_cases iu:f<c
  ·rw [v.inl f hD iu]
   exact ((d.lq fM (by omega) dO).2 _ fun j J I=>by omega).symm
  ·rw [v.inr f hD (by omega)]
   exact ((d.lq (i:=f+1) (by omega) (by omega) fun j J I=>dO j (by omega) I).2 _ fun j J I=>by omega).symm
 have vc:(b<base∨base+ops.size≤b)→G b=(H i).ae b:=fun h=>by
  rw [v.out b h]
  exact ((d.lq fM (by omega) dO).2 _ fun j J I=>by omega).symm
 by_cases h1:b<base
 ·exact vc (.inl h1)
 by_cases h2:base+ops.size≤b
 ·exact vc (.inr h2)
 rcases hc with hc | hc | hc | ⟨f,rfl,hf⟩
 ·exact absurd hc h1
 ·exact absurd hc h2
 ·have eQ:b=base+(b - base):=by omega
  refine kZ (b - base) eQ (by omega) ?_
  refine Classical.byContradiction fun q=>hc ?_
  rw [eQ]
  exact d.dead (by omega) i (by omega)
 ·exact kZ f rfl (by omega) hf
theorem Inv.part (d:Dr P call ops n base E H val) (v:Inv P ops n base E H val ρ0 dK w0 d0 D a w ρ G c e) {i:Nat} {o:Oper} (ho:ops.toList[i]?=some o) (hn:¬ D i) (hp:∀ j∈Pr ops.toList i,D j)
  (hm:¬ Mk P ops E i) (hf:¬ Fr P ops E i) {X:AH} (dQ:X.next=(H c).next) (hX:∀ b,X.ae b=none∨X.ae b=G b) (ay:aOp P call (E i).ev o.op X=some (val i,X)) {Q:Exit→Act→World→Prop} {K:Act→World→Prop}
  (hK:∀ a' w',(∃ ρ' G' c' e',Inv P ops n base E H val ρ0 dK w0 d0 (fun j=>j=i∨D j) a' w' ρ' G' c' e')→K a' w'):o.wp P a w K Q:=by
 have hi:i<ops.size:=by simpa using (List.getElem?_eq_some_iff.1 ho).1
 have j2:=d.live c v.fU
 have qx:=d.lX v.fU
 have jF:∀ b B,X.ae b=some B→G b=some B:=fun b B q=>by
  rcases hX b with I | I
  ·rw [q] at I;cases I
  ·rw [← I];exact q
 have vB:∀ b,G b≠none→b<(H c).next:=v.et.live
 have J:bB ρ w X.ae X.next:=by
  rw [dQ]
  exact v.et.less jF
 refine sH d.gr J (v.ev d ho hn hp).1 ay fun ρ' u w' hu hU hE=>?_
 have U:∀ b,ρ' b≠none→(ρ b=none∨X.ae b≠none)→G b=X.ae b:=by
  rintro b hb (q | q)
  ·cases hr:ρ' b with
   | none=>exact absurd hr hb
   | some p=>
    rcases hE.new b p hr with h1 | ⟨h1,_⟩
    ·rw [q] at h1;cases h1
    ·have h2:G b=none:=Classical.byContradiction fun q=>by have:=vB b q;omega
     have aa:X.ae b=none:=Classical.byContradiction fun q=>by have:=J.live b q;omega
     rw [h2,aa]
  ·rcases hX b with I | I
   ·exact absurd I q
   ·exact I.symm
 have ab:bB ρ' w' G (H c).next:=by
  rw [dQ] at hU hE
  exact bB.merge v.et hU hE (fun b B _ q=>jF b B q) (fun _ _ q=>q) (fun _ _ _=>rfl) U vB
 have ad:Ext ρ G base w ρ' G (H c).next w':=by
  rw [dQ] at hE
  exact hE.merge (by omega) (fun b B _ q=>jF b B q) (fun _ _ _=>rfl) U (fun _ _ _=>rfl)
 exact hK _ _ ⟨ρ',G,c,_,v.still d ho hn hp hm hf hE.le hu ab ad fun f bD hr=>rC (G:=G) (G':=G) hE (by omega) hr⟩
theorem Inv.EK (d:Dr P call ops n base E H val) (v:Inv P ops n base E H val ρ0 dK w0 d0 D a w ρ G c e) {i:Nat} {o:Oper} (ho:ops.toList[i]?=some o) (hn:¬ D i) (hp:∀ j∈Pr ops.toList i,D j)
  (hw:ct ops (E i) o=true) (hc:cls P o.op= .look) (b0:Nat) (U:lookBlk (E i).ev o.op=some b0) (hρ:ρ b0≠none):∃ k,k≤ops.size∧G b0=(H k).ae b0∧aLook P (E i).ev o.op (H k)=some (val i):=by
 have hi:i<ops.size:=by simpa using (List.getElem?_eq_some_iff.1 ho).1
 obtain ⟨hl,_⟩:=d.facts.look i o ho hw hc
 have qt:(H i).ae b0≠none:=yv hc hl b0 U
 have bD:b0<(H c).next:=by
  cases hr:ρ b0 with
  | none=>exact absurd hr hρ
  | some p=>exact v.et.er b0 p hr
 have dep:∀ k m,(H k).ae b0=(H m).ae b0→aLook P (E i).ev o.op (H k)=some (val i)→aLook P (E i).ev o.op (H m)=some (val i):=fun k m h1 h2=>by
  rw [← h2]
  exact sn hc fun b hb=>by rw [U] at hb;cases hb;exact h1.symm
 have vJ:∀ j,j<ops.size→Mk P ops E j→j≠i→(∀ (_:c≤j) (_:j<i),ordered (dC ops.toList) i j=false)∧(∀ (_:j<c) (_:i<j),ordered (dC ops.toList) i j=false):=by
  intro j hj hm cp
  refine ⟨fun h1 h2=>?_,fun h1 h2=>?_⟩
  ·refine Bool.eq_false_iff.2 fun q=>?_
   rcases lJ.1 q with q | q
   ·have:=v.me j (hp j q) hm;omega
   ·have:=kW d.back _ _ q;omega
  ·refine Bool.eq_false_iff.2 fun q=>?_
   rcases lJ.1 q with q | q
   ·have:=kW d.back _ _ q;omega
   ·exact hn (v.closed j i (v.p5 j h1 hm) q)
 have vq:∀ m,i+m≤c→(∀ j,i≤j→j<i+m→b0≠base+j)→aLook P (E i).ev o.op (H (i+m))=some (val i):=by
  intro m
  induction m with
  | zero=>intro _ _;exact hl
  | succ m ih=>
   intro hm hf
   have h1:=ih (by omega) fun j I J=>hf j I (by omega)
   by_cases hk:Mk P ops E (i+m)
   ·obtain ⟨oj,lb,np,kX⟩:=hk
    have cp:i+m≠i:=by
     rintro q
     rw [q,ho] at lb
     cases lb
     rw [hc] at kX;cases kX
    rcases d.facts.iH (i+m) oj lb np kX with q | q
    ·exact dep _ _ (q b0 (Nat.lt_of_lt_of_le (d.live i (by omega) b0 qt) (d.sc (by omega) (by have:=v.fU;omega)))).symm h1
    ·exact (q i o ho hw hc ((vJ (i+m) (by have:=v.fU;omega) ⟨oj,lb,np,kX⟩ cp).2 (by omega) (by omega))).1 (by omega)
   ·exact dep _ _ ((d.step (by have:=v.fU;omega) hk).2.1 b0 (hf _ (by omega) (by omega))).symm h1
 have back:∀ m,m≤i→c≤i - m→(∀ j,i - m≤j→j<i→b0≠base+j)→aLook P (E i).ev o.op (H (i - m))=some (val i):=by
  intro m
  induction m with
  | zero=>intro _ _ _;exact hl
  | succ m ih=>
   intro hm vP hf
   have h1:=ih (by omega) (by omega) fun j I J=>hf j (by omega) J
   have e1:i - m=i - (m+1)+1:=by omega
   rw [e1] at h1
   by_cases hk:Mk P ops E (i - (m+1))
   ·obtain ⟨oj,lb,np,kX⟩:=hk
    rcases d.facts.iH _ oj lb np kX with q | q
    ·exact dep _ _ (q b0 (Nat.lt_of_lt_of_le bD (d.sc vP (by omega)))) h1
    ·exact (q i o ho hw hc ((vJ _ (by omega) ⟨oj,lb,np,kX⟩ (by omega)).1 vP (by omega))).2 (by omega)
   ·exact dep _ _ ((d.step (by omega) hk).2.1 b0 (hf _ (by omega) (by omega))) h1
 by_cases kZ:base≤b0∧b0<base+ops.size
 ·obtain ⟨f,rfl⟩:∃ f,b0=base+f:=⟨b0 - base,by omega⟩
  have hf:f<ops.size:=by omega
  have hD:D f:=Classical.byContradiction fun q=>hρ (v.h5 f hf q).2
  have kh:f<i:=Classical.byContradiction fun q=>qt (d.dead hf i (by omega))
  by_cases iu:f<c
  ·refine ⟨c,v.fU,v.inl f hD iu,?_⟩
   by_cases FT:i≤c
   ·have:=vq (c - i) (by omega) fun j I J=>by omega
    rwa [show i+(c - i)=c by omega] at this
   ·have:=back (i - c) (by omega) (by omega) fun j I J=>by omega
    rwa [show i - (i - c)=c by omega] at this
  ·refine ⟨f+1,by omega,v.inr f hD (by omega),?_⟩
   have:=back (i - (f+1)) (by omega) (by omega) fun j I J=>by omega
   rwa [show i - (i - (f+1))=f+1 by omega] at this
 ·refine ⟨c,v.fU,v.out b0 (by omega),?_⟩
  have du:=v.fU
  by_cases FT:i≤c
  ·have:=vq (c - i) (by omega) fun j I J=>by omega
   rwa [show i+(c - i)=c by omega] at this
  ·have:=back (i - c) (by omega) (by omega) fun j I J=>by omega
   rwa [show i - (i - c)=c by omega] at this
theorem Inv.row (d:Dr P call ops n base E H val) (v:Inv P ops n base E H val ρ0 dK w0 d0 D a w ρ G c e) {i:Nat} {o:Oper} (ho:ops.toList[i]?=some o) (hn:¬ D i) (hp:∀ j∈Pr ops.toList i,D j)
  (hw:ct ops (E i) o=true) (hc:cls P o.op= .fresh) {Q:Exit→Act→World→Prop} {K:Act→World→Prop}
  (hK:∀ a' w',(∃ ρ' G' c' e',Inv P ops n base E H val ρ0 dK w0 d0 (fun j=>j=i∨D j) a' w' ρ' G' c' e')→K a' w'):o.wp P a w K Q:=by
 have hi:i<ops.size:=by simpa using (List.getElem?_eq_some_iff.1 ho).1
 have gJ:opOk n o=true:=d.ok o (au ho)
 obtain ⟨f,f1,f2,f3,f4⟩:=d.facts.fresh i o ho hw hc
 have hm:¬ Mk P ops E i:=by
  rintro ⟨o',I,_,U⟩
  rw [ho] at I;cases I
  rw [hc] at U;cases U
 obtain ⟨v',C,el,h1,h2,aa⟩:=vZ (P:=P) (v.ev d ho hn hp).1 f1 w
 obtain ⟨ad,J⟩:=v.h5 i hi hn
 have qx:=d.lX v.fU
 have dA:base+i<(H c).next:=by omega
 have ke:(H (i+1)).ae (base+i)=some ⟨f.2.1,true,f.2.2⟩:=by rw [f4,if_pos rfl]
 obtain ⟨t1,t2⟩:=v.rl d ho hn hp
 have hle:=c3.bQ ρ ⟨w.heap.size,0,f.2.2,C.size⟩ J
 have hS:bB (bQ ρ (base+i) ⟨w.heap.size,0,f.2.2,C.size⟩) (w.alloc (.cells C el)) (bM G (base+i) (some ⟨f.2.1,true,f.2.2⟩)) (H c).next:=
  bB.made (fr:=(0,0)) v.et J dA (Nat.le_refl _) h2 (by simp) (fun k hk=>heap_alloc_old w _ k hk) (heap_alloc_new w _) (fun i v hv=>by simpa using hv) (Nat.le_refl _) (by have:=h2.1;simp at this;omega) (.inl rfl)
 have hE:Ext ρ G base w (bQ ρ (base+i) ⟨w.heap.size,0,f.2.2,C.size⟩) (bM G (base+i) (some ⟨f.2.1,true,f.2.2⟩)) (H c).next (w.alloc (.cells C el)):=
  Ext.made J (by omega) (by omega) rfl (by simp) (fun k hk=>heap_alloc_old w _ k hk) rfl rfl rfl
 have other:∀ k,k≠i→bM G (base+i) (some ⟨f.2.1,true,f.2.2⟩) (base+k)=G (base+k):=fun k hk=>by simp only [bM];rw [if_neg (by omega)]
 have own:bM G (base+i) (some ⟨f.2.1,true,f.2.2⟩) (base+i)=(H (i+1)).ae (base+i):=by rw [ke];simp [bM]
 refine gk h1 (hK _ _ ⟨_,_,c,e.put o.dst (val i),v.shut hp,fun k hk=>?_,v.fU,fun j hj gv=>?_,fun j hj gv=> .inr (v.p5 j hj gv),fun b hb=>?_,fun k hk my=>?_,fun k hk my=>?_,fun k bD hk=>?_,fun k bD hk my=>?_,
  (v.env.mono hle).put (mK gJ) ?_,t1,t2,hS,v.ext.trans' hE (Nat.le_refl _),by rw [put_defers];exact v.defers⟩)
 ·rcases hk with rfl | hk
  ·exact hi
  ·exact v.l4 k hk
 ·rcases hj with rfl | hj
  ·exact absurd gv hm
  ·exact v.me j hj gv
 ·simp only [bM]
  rw [if_neg (by omega)]
  exact v.out b hb
 ·rcases hk with rfl | hk
  ·rw [own,v.nL k hi hn my]
  ·rw [other k (fun q=>hn (q ▸ hk))];exact v.inl k hk my
 ·rcases hk with rfl | hk
  ·exact own
  ·rw [other k (fun q=>hn (q ▸ hk))];exact v.inr k hk my
 ·have cp:k≠i:=fun q=>hk (.inl q)
  obtain ⟨I,ab⟩:=v.h5 k bD fun q=>hk (.inr q)
  rw [other k cp]
  refine ⟨I,?_⟩
  simp only [bQ]
  rw [if_neg (by omega)]
  exact ab
 ·exact v.nL k bD (fun q=>hk (.inr q)) my
 ·rw [f2]
  exact aa _ _ hle (by simp [bQ])
theorem Inv.makes (d:Dr P call ops n base E H val) (v:Inv P ops n base E H val ρ0 dK w0 d0 D a w ρ G c e) {i:Nat} {o:Oper} (ho:ops.toList[i]?=some o) (hn:¬ D i) (hp:∀ j∈Pr ops.toList i,D j)
  (hw:ct ops (E i) o=true) (hc:cls P o.op= .make) {Q:Exit→Act→World→Prop} {K:Act→World→Prop}
  (hK:∀ a' w',(∃ ρ' G' c' e',Inv P ops n base E H val ρ0 dK w0 d0 (fun j=>j=i∨D j) a' w' ρ' G' c' e')→K a' w'):o.wp P a w K Q:=by
 have hi:i<ops.size:=by simpa using (List.getElem?_eq_some_iff.1 ho).1
 have gJ:opOk n o=true:=d.ok o (au ho)
 obtain ⟨r,f1,f2,f3,f4⟩:=d.facts.make i o ho hw hc
 have wk:Mk P ops E i:=⟨o,ho,hw,hc⟩
 have gU:∀ j,Mk P ops E j→j≠i→ordered (dC ops.toList) i j=true:=by
  rintro j ⟨oj,I,_,aa⟩ cp
  have h:=d.made
  simp only [qO,List.all_eq_true,List.mem_filter,List.mem_range,decide_eq_true_eq] at h
  have:=h i ⟨by simpa using hi,by rw [List.getD_eq_getElem?_getD,ho];exact hc⟩ j ⟨(List.getElem?_eq_some_iff.1 I).1,by rw [List.getD_eq_getElem?_getD,I];exact aa⟩
  simpa [Ne.symm cp] using this
 have fM:c≤i:=Classical.byContradiction fun q=>hn (v.p5 i (by omega) wk)
 have dO:∀ j,c≤j→j<i→¬ Mk P ops E j:=by
  intro j h1 h2 hm
  rcases lJ.1 (gU j hm (by omega)) with q | q
  ·have:=v.me j (hp j q) hm;omega
  ·have:=kW d.back _ _ q;omega
 have gS:=v.E4 d fM hi dO
 obtain ⟨dQ,ta⟩:=d.lq fM (by omega) dO
 have qx:=d.lX v.fU
 have ag:bB ρ w ({H i with low:=(H i).next}:AH).ae ({H i with low:=(H i).next}:AH).next:=by
  show bB ρ w (H i).ae (H i).next
  rw [dQ]
  refine v.et.part (fun b B hb q=>?_) fun b q=>?_
  ·rw [gS b hb (.inr (.inr (.inl (by rw [q];exact fun q=>by cases q)))),q]
  ·rw [← dQ];exact d.live i (by omega) b q
 refine sH d.gr ag (v.ev d ho hn hp).1 f1 fun ρ' u w' hu hU hE=>?_
 have hE:Ext ρ (H i).ae (H c).next w ρ' r.ae r.next w':=by rw [← dQ];exact hE
 classical
 let G':da:=fun b=>if base≤b∧b<base+ops.size∧(i<b - base∨(b - base≠i∧¬ D (b - base))) then G b else r.ae b
 have e0:∀ f,base+f - base=f:=fun f=>by omega
 have ab:∀ f,f<ops.size→(i<f∨(f≠i∧¬ D f))→G' (base+f)=G (base+f):=fun f I J=>by
  show (if _ then _ else _)=_
  rw [if_pos ⟨by omega,by omega,by rw [e0];exact J⟩]
 have U:∀ b,¬ (base≤b∧b<base+ops.size∧(i<b - base∨(b - base≠i∧¬ D (b - base))))→G' b=r.ae b:=fun b q=>by
  show (if _ then _ else _)=_
  rw [if_neg q]
 have qG:∀ f,f<ops.size→¬ D f→ρ' (base+f)=none:=fun f hf hD=>rC (G:=G) (G':=G) hE (by omega) (v.h5 f hf hD).2
 have gT:∀ b,ρ' b≠none→b<(H c).next→ρ b≠none:=by
  intro b hb bD hr
  exact hb (rC (G:=G) (G':=G) hE bD hr)
 have gK:∀ f,f<i→¬ D f→(H i).ae (base+f)=(H (f+1)).ae (base+f):=by
  intro f kh hD
  by_cases iu:f<c
  ·rw [← v.nL f (by omega) hD iu]
   exact ta _ fun j I J=>by omega
  ·exact (d.lq (i:=f+1) (by omega) (by omega) fun j I J=>dO j (by omega) J).2 _ fun j I J=>by omega
 have hX:∀ b B,ρ b≠none→(H i).ae b=some B→G b=some B:=fun b B hb q=>by
  rw [gS b hb (.inr (.inr (.inl (by rw [q];exact fun q=>by cases q)))),q]
 have qY:∀ b,b<(H c).next→(H i).ae b=none→r.ae b=none:=by
  intro b hb q
  rw [← f2]
  exact (d.pF wk).2.1 b (by omega) q
 have ad:∀ b,ρ b≠none→(H i).ae b=none→G' b=G b:=by
  intro b hb q
  by_cases h8:base≤b∧b<base+ops.size∧(i<b - base∨(b - base≠i∧¬ D (b - base)))
  ·show (if _ then _ else _)=_
   rw [if_pos h8]
  ·have Ed:b<(H c).next:=by
    cases hr:ρ b with
    | none=>exact absurd hr hb
    | some p=>exact v.et.er b p hr
   rw [U b h8,qY b Ed q]
   by_cases h1:b<base
   ·rw [gS b hb (.inl h1),q]
   by_cases h2:base+ops.size≤b
   ·rw [gS b hb (.inr (.inl h2)),q]
   have kh:b - base≠i:=fun e=>hb (by
    have:=(v.h5 i hi hn).2
    rwa [show base+i=b by omega] at this)
   rw [gS b hb (.inr (.inr (.inr ⟨b - base,by omega,by omega⟩))),q]
 have af:∀ b,ρ' b≠none→(ρ b=none∨(H i).ae b≠none)→G' b=r.ae b:=by
  intro b hb q
  refine U b fun ⟨I,J,aa⟩=>?_
  have h1:=gT b hb (by omega)
  have aa:i<b - base:=by
   refine aa.resolve_right fun ah=>h1 ?_
   have:=(v.h5 (b - base) (by omega) ah.2).2
   rwa [show base+(b - base)=b by omega] at this
  rcases q with q | q
  ·exact h1 q
  ·have h2:=d.dead (f:=b - base) (by omega) i (by omega)
   rw [show base+(b - base)=b by omega] at h2
   exact q h2
 have hl:∀ b,G' b≠none→b<r.next:=by
  intro b hb
  have hle:(H c).next≤r.next:=hE.nx
  by_cases h8:base≤b∧b<base+ops.size∧(i<b - base∨(b - base≠i∧¬ D (b - base)))
  ·omega
  ·rw [U b h8] at hb
   exact hU.live b hb
 have ai:=bB.merge v.et (by simpa [dQ] using hU) hE hX qY ad af hl
 have aj:Ext ρ G base w ρ' G' r.next w':=hE.merge (by omega) hX ad af fun b hb hr=>by
  rw [U b (by omega),hE.un b (by omega) hr,v.out b (.inl hb)]
  exact ta b fun j I J=>by omega
 obtain ⟨t1,t2⟩:=v.rl d ho hn hp
 refine hK _ _ ⟨ρ',G',i+1,e.put o.dst (val i),v.shut hp,fun k hk=>?_,by omega,fun j hj gv=>?_,fun j hj gv=>?_,fun b hb=>?_,fun f hf iu=>?_,fun f hf iu=>?_,fun f bD hf=>?_,fun f bD hf iu=>?_,
  (v.env.mono hE.le).put (mK gJ) hu,t1,t2,by rw [f3];exact ai,by rw [f3];exact v.ext.trans' aj (Nat.le_refl _),by rw [put_defers];exact v.defers⟩
 ·rcases hk with rfl | hk
  ·exact hi
  ·exact v.l4 k hk
 ·rcases hj with rfl | hj
  ·omega
  ·have:=v.me j hj gv;omega
 ·by_cases e1:j=i
  ·exact .inl e1
  ·rcases lJ.1 (gU j gv e1) with q | q
   ·exact .inr (hp j q)
   ·have:=kW d.back _ _ q;omega
 ·rw [U b (by omega),f2]
 ·rw [U _ (fun ⟨_,_,q⟩=>by
   rw [e0] at q
   rcases q with q | ⟨I,J⟩
   ·omega
   ·exact hf.elim I J),f2]
 ·rcases hf with rfl | hf
  ·omega
  ·rw [ab f (v.l4 f hf) (.inl (by omega))]
   exact v.inr f hf (by omega)
 ·have hD:¬ D f:=fun q=>hf (.inr q)
  have cp:f≠i:=fun q=>hf (.inl q)
  refine ⟨?_,qG f bD hD⟩
  rw [ab f bD (.inr ⟨cp,hD⟩)];exact (v.h5 f bD hD).1
 ·have hD:¬ D f:=fun q=>hf (.inr q)
  have cp:f≠i:=fun q=>hf (.inl q)
  rw [f2,hE.un _ (by omega) (v.h5 f bD hD).2]
  exact gK f (by omega) hD
theorem CZ {P:Program} {ρ:a4} {ev dV:Operand→Value} {op:Op} (hc:cls P op= .look) {h:AH} {v:Value} (hl:aLook P ev op h=some v) (cy:∀ x∈op.operands,VR ρ (ev x) (dV x)) {b:Nat} (hb:lookBlk ev op=some b):ρ b≠none:=by
 cases op<;>simp only [cls] at hc<;>try (cases hc;done)
 case load t x=>
  have hx:=cy x (by simp [Op.operands])
  simp only [lookBlk] at hb
  split at hb
  ·rename_i a ha
   simp at hb;subst hb
   rw [ha] at hx
   generalize dV x=y at hx
   cases hx with
   | ptr h=>obtain ⟨_,p,h2,_⟩:=h;rw [h2];exact fun q=>by cases q
  ·cases hb
 case convert s d x=>
  have hx:=cy x (by simp [Op.operands])
  simp only [lookBlk] at hb
  split at hb
  ·rename_i a n c ha
   split at hb
   ·cases hb
   ·rename_i h0
    simp at hb;subst hb
    rw [ha] at hx
    generalize dV x=y at hx
    cases hx with
    | sl h1 h2 j I=>obtain ⟨_,p,h2,_⟩:=j (by omega);rw [h2];exact fun q=>by cases q
  ·cases hb
 case call c=>split at hc<;>cases hc
theorem Inv.step (d:Dr P call ops n base E H val) {i:Nat} {o:Oper} (v:Inv P ops n base E H val ρ0 dK w0 d0 D a w ρ G c e) (ho:ops[i]?=some o) (hn:¬ D i) (hp:∀ j∈Pr ops.toList i,D j) {Q:Exit→Act→World→Prop} {K:Act→World→Prop}
  (hK:∀ a' w',(∃ ρ' G' c' e',Inv P ops n base E H val ρ0 dK w0 d0 (fun j=>j=i∨D j) a' w' ρ' G' c' e')→K a' w'):wpOp P ops Q i K a w:=by
 have I:ops.toList[i]?=some o:=by rw [Array.getElem?_toList];exact ho
 have hi:i<ops.size:=by simpa using (List.getElem?_eq_some_iff.1 I).1
 have gJ:opOk n o=true:=d.ok o (au I)
 have same:∀ {cl:fD},cls P o.op=cl→cl≠ .make→¬ Mk P ops E i:=by
  rintro cl h1 h2 ⟨o',J,_,U⟩
  rw [I] at J;cases J
  rw [h1] at U;exact h2 U
 have ad:∀ {cl:fD},cls P o.op=cl→cl≠ .fresh→¬ Fr P ops E i:=by
  rintro cl h1 h2 ⟨o',J,_,U⟩
  rw [I] at J;cases J
  rw [h1] at U;exact h2 U
 unfold wpOp
 rw [ho]
 simp only
 rw [tz v.env d.ok o,← (v.ev d I hn hp).2]
 cases hw:ct ops (E i) o with
 | false=>
  rw [if_neg (by simp)]
  have hm:¬ Mk P ops E i:=by
   rintro ⟨o',J,aa,_⟩
   rw [I] at J;cases J
   rw [hw] at aa;cases aa
  have hf:¬ Fr P ops E i:=by
   rintro ⟨o',J,aa,_⟩
   rw [I] at J;cases J
   rw [hw] at aa;cases aa
  have hv:=(d.facts.off i o I hw).1
  exact hK _ _ ⟨ρ,G,c,_,v.still d I hn hp hm hf (c3.refl _) (by rw [hv];exact VR.undef ρ) v.et
   ⟨c3.refl _,rfl,rfl,rfl,Nat.le_refl _,by have:=d.lX v.fU;omega,fun _ _ _=>rfl,fun _ _ h=>h,fun _ _ h=> .inl h,fun _ _ _=>rfl⟩ fun _ _ h=>h⟩
 | true=>
  rw [if_pos rfl]
  have h8:∀ c:fD,c= .pure∨c= .look∨c= .fresh∨c= .make:=by intro c;cases c<;>simp
  rcases h8 (cls P o.op) with hc | hc | hc | hc
  ·refine .inl (v.part d I hn hp (same hc (by simp)) (ad hc (by simp)) (X:=⟨.nil,(H c).next,(H c).next⟩) rfl (fun b=> .inl (by simp [AH.ae,Tr.get])) ((d.facts.pure i o I hw hc).1 _) hK)
  ·cases hb:lookBlk (E i).ev o.op with
   | none=>
    have hl:=(d.facts.look i o I hw hc).1
    rw [sn hc (h':=⟨.nil,(H c).next,(H c).next⟩) fun b ab=>by rw [hb] at ab;cases ab] at hl
    exact .inl (v.part d I hn hp (same hc (by simp)) (ad hc (by simp)) (X:=⟨.nil,(H c).next,(H c).next⟩) rfl (fun b=> .inl (by simp [AH.ae,Tr.get])) (wA hc hl) hK)
   | some b0=>
    have hρ:ρ b0≠none:=by
     have cy:=(v.ev d I hn hp).1
     have hl:=(d.facts.look i o I hw hc).1
     exact CZ hc hl cy hb
    obtain ⟨k,hk,h1,h2⟩:=v.EK d I hn hp hw hc b0 hb hρ
    have hX:∀ b,(⟨(Tr.nil).set b0 (G b0),(H c).next,(H c).next⟩:AH).ae b=if b=b0 then G b0 else none:=by
     intro b
     simp only [AH.ae,Tr.e8]
     simp [Tr.get]
    have hl:aLook P (E i).ev o.op ⟨(Tr.nil).set b0 (G b0),(H c).next,(H c).next⟩=some (val i):=by
     rw [← h2]
     refine sn hc fun b ab=>?_
     rw [hb] at ab;cases ab
     rw [hX,if_pos rfl,h1]
    refine .inl (v.part d I hn hp (same hc (by simp)) (ad hc (by simp)) (X:=⟨(Tr.nil).set b0 (G b0),(H c).next,(H c).next⟩) rfl (fun b=>?_) (wA hc hl) hK)
    rw [hX]
    by_cases e1:b=b0
    ·subst e1;rw [if_pos rfl];exact .inr rfl
    ·rw [if_neg e1];exact .inl rfl
  ·exact .inl (v.row d I hn hp hw hc hK)
  ·exact .inl (v.makes d I hn hp hw hc hK)
theorem F7 (hm:P.follows .mixedOrders=true) {call:cV} (yd:Good P call) (bp:fX call):uk P call:=by
 intro n id ops e e' h h' ρ a w b9 hd hr he hs hl
 unfold fv at hr
 cases hq:aDraw P call ops h.next 0 ops.toList ⟨e,{h with next:=h.next+ops.size},[],[]⟩ with
 | none=>rw [hq] at hr;cases hr
 | some s=>
  rw [hq] at hr
  simp at hr
  obtain ⟨rfl,rfl⟩:=hr
  obtain ⟨E,H,val,hf,e0,h0,e1,h1⟩:=draw_facts bp hq rfl rfl
  simp only [qU,Bool.and_eq_true] at hd
  have d:Dr P call ops n h.next E H val:=⟨yd,b9,hf,hd.1.1,hd.1.2,hd.2,by rw [h0],fun b hb=>hl b (by rw [h0] at hb;exact hb)⟩
  refine wp_region_any hm ?_
  have kC:∀ f,f<ops.size→ρ (h.next+f)=none:=by
   intro f _
   cases hr:ρ (h.next+f) with
   | none=>rfl
   | some p=>have:=hs.er _ p hr;omega
  refine D1 hd.2 (fun D a' w'=>∃ ρ' G' c' e',Inv P ops n h.next E H val ρ h.ae w a.defers D a' w' ρ' G' c' e') ?_ ?_ ops.size _ a _ (by simp) ?_ ?_
  ·rintro D i o a' w' ⟨ρ',G',c',e',v⟩ ho hn fP K hK
   refine v.step d ho hn (fun j hj=>?_) hK
   obtain ⟨ed,Ek,hb,hc⟩:=wv (by rw [Array.getElem?_toList];exact ho) hj
   have:=fP ed Ek hb
   rcases hc with rfl | ⟨_,hc⟩
   ·exact this
   ·exact v.closed _ _ this hc
  ·rintro D a' w' ⟨ρ',G',c',e',v⟩ fP
   have dO:∀ j,c'≤j→j<ops.size→¬ Mk P ops E j:=fun j J I af=>by have:=v.me j (fP j I) af;omega
   obtain ⟨ag,U⟩:=d.lq v.fU (Nat.le_refl _) dO
   have hG:G'=(H ops.size).ae:=by
    funext b
    by_cases kZ:h.next≤b∧b<h.next+ops.size
    ·obtain ⟨f,rfl⟩:∃ f,b=h.next+f:=⟨b - h.next,by omega⟩
     have hf:f<ops.size:=by omega
     by_cases iu:f<c'
     ·rw [v.inl f (fP f hf) iu]
      exact (U _ fun j J I=>by omega).symm
     ·rw [v.inr f (fP f hf) (by omega)]
      exact ((d.lq (i:=f+1) (by omega) (Nat.le_refl _) fun j J I=>dO j (by omega) I).2 _ fun j J I=>by omega).symm
    ·rw [v.out b (by omega)]
     exact (U _ fun j J I=>by omega).symm
   have hE:∀ t,e'.get t=(E ops.size).get t:=by
    intro t
    obtain ⟨ah,ai⟩:=d.env t ops.size (Nat.le_refl _)
    by_cases hex:∃ j,j<ops.size∧Wr ops j t
    ·obtain ⟨j,aa,ab,ad⟩:=wB (fun j=>Wr ops j t) ops.size hex
     rw [ai j aa ab ad]
     exact v.w1 t j (fP j aa) ab fun k hk hw=>Classical.byContradiction fun q=>ad k (by omega) (v.l4 k hk) hw
    ·rw [ah fun j hj hw=>hex ⟨j,hj,hw⟩]
     exact v.w2 t fun j hj hw=>hex ⟨j,v.l4 j hj,hw⟩
   have hS:=v.et
   have hX:=v.ext
   rw [hG,← ag] at hS hX
   rw [← e1,← h1]
   exact ⟨rfl,ρ',⟨v.env.size,fun t=>by rw [← hE t];exact v.env.get t⟩,v.defers,hS,hX⟩
  ·unfold leftOf
   exact Nat.le_trans (List.length_filter_le _ _) (by simp)
  ·have hD:Dn (Array.replicate ops.size false)=fun _=>False:=by
    funext j
    unfold Dn
    rw [Array.getD_eq_getD_getElem?]
    by_cases hj:j<ops.size
    ·simp [hj]
    ·rw [Array.getElem?_eq_none (by simpa using Nat.le_of_not_lt hj)];simp
   rw [hD]
   have fV:(H 0).ae=h.ae:=by rw [h0];rfl
   have dQ:(H 0).next=h.next+ops.size:=by rw [h0]
   refine ⟨ρ,h.ae,0,e,fun _ _ q=>q.elim,fun _ q=>q.elim,Nat.zero_le _,fun _ q=>q.elim,fun j q=>by omega,fun b _=>by rw [fV],fun _ q=>q.elim,fun _ q=>q.elim,fun f hf _=>⟨?_,kC f hf⟩,fun _ _ _ q=>by omega,⟨he.size,he.get⟩,fun _ _ q=>q.elim,fun t _=>by rw [e0],?_,?_,rfl⟩
   ·exact Classical.byContradiction fun q=>by have:=hl _ q;omega
   ·rw [dQ]
    exact ⟨fun b p q=>Nat.lt_of_lt_of_le (hs.er b p q) (by omega),hs.lt,(hs.world (w':={w with drawn:=w.drawn+1}) rfl).cell,(hs.world (w':={w with drawn:=w.drawn+1}) rfl).own,hs.apart,fun b q=>Nat.lt_of_lt_of_le (hs.live b q) (by omega)⟩
   ·rw [dQ]
    exact ⟨c3.refl _,rfl,rfl,rfl,Nat.le_refl _,by omega,fun _ _ _=>rfl,fun _ _ h=>h,fun _ _ h=> .inl h,fun _ _ _=>rfl⟩
end
end
section
open Go
variable [Marks]
theorem AR.narrow {ρ ρ':a4} (hr:c3 ρ ρ') {a a0 a':Addr} (h:AR ρ a a0) (h':AR ρ' a a'):AR ρ a a':=by
 obtain ⟨h1,p,h2,J⟩:=h
 obtain ⟨_,p',j,I⟩:=h'
 have:=hr _ _ h2
 rw [j] at this
 have:=Option.some.inj this
 subst this
 exact ⟨h1,p',h2,I⟩
theorem VR.narrow {ρ ρ':a4} (hr:c3 ρ ρ') {v v0:Value} (h:VR ρ v v0):∀ v',VR ρ' v v'→VR ρ v v':=by
 induction h with
 | bool b=>intro v' h';cases h';exact .bool b
 | int k n=>intro v' h';cases h';exact .int k n
 | float k n=>intro v' h';cases h';exact .float k n
 | string s=>intro v' h';cases h';exact .string s
 | nilFunc=>intro v' h';cases h';exact .nilFunc
 | nilIface=>intro v' h';cases h';exact .nilIface
 | nY=>intro v' h';cases h';exact .nY
 | ptr h=>intro v' h';cases h' with | ptr h'=>exact .ptr (h.narrow hr h')
 | gl h1 h2=>intro v' h';cases h' with | gl j I=>exact .gl j I
 | sl h1 h2 aa ad=>
  intro v' h'
  cases h' with
  | sl j I J U=>
   refine .sl j I (fun q=>(aa q).narrow hr (J q)) fun q=>?_
   obtain ⟨ae,p,ab,ak⟩:=ad q
   obtain ⟨af,p',ag,ah⟩:=U q
   have:=hr _ _ ab
   rw [ag] at this
   have:=Option.some.inj this
   subst this
   exact ⟨ae.narrow hr af,p',ab,ah⟩
 | func f h1 _ aa _ ai aj=>
  intro v' h'
  cases h' with
  | func _ j I J U=>
   refine .func f j (fun i v u a b=>?_) J fun i v u a b=>?_
   ·have hi:i<_:=(Array.getElem?_eq_some_iff.1 a).1
    exact ai i v _ a (Array.getElem?_eq_getElem (by omega)) u (I i v u a b)
   ·have hi:i<_:=(Array.getElem?_eq_some_iff.1 a).1
    exact aj i v _ a (Array.getElem?_eq_getElem (by omega)) u (U i v u a b)
 | iface t _ ih=>intro v' h';cases h' with | iface _ h'=>exact .iface t (ih _ h')
 | agg h1 _ ih=>
  intro v' h'
  cases h' with
  | agg j I=>
   refine .agg j fun i v u a b=>?_
   have hi:i<_:=(Array.getElem?_eq_some_iff.1 a).1
   exact ih i v _ a (Array.getElem?_eq_getElem (by omega)) u (I i v u a b)
 | tuple h1 _ ih=>
  intro v' h'
  cases h' with
  | tuple j I=>
   refine .tuple j fun i v u a b=>?_
   have hi:i<_:=(Array.getElem?_eq_some_iff.1 a).1
   exact ih i v _ a (Array.getElem?_eq_getElem (by omega)) u (I i v u a b)
section
variable {P:Program}
theorem Ei {α:Type} {ρ:a4} {f:α→Option Value} {g:α→Sem Value} {w:World} (qX:∀ a b,f a=some b→∃ b',VR ρ b b'∧(g a).run P w= .ok b' w):∀ (l:List α) (r:List Value),l.mapM f=some r→∃ r',LR ρ r r'∧(l.mapM g).run P w= .ok r' w:=by
 intro l
 induction l with
 | nil=>intro r h;simp at h;subst h;exact ⟨[],LR.nil ρ,by simp⟩
 | cons a l ih=>
  intro r h
  simp only [List.mapM_cons] at h
  cases ha:f a with
  | none=>rw [ha] at h;simp at h
  | some b=>
   rw [ha] at h
   cases hl:l.mapM f with
   | none=>rw [hl] at h;simp at h
   | some bs=>
    rw [hl] at h
    simp at h
    subst h
    obtain ⟨b',j,I⟩:=qX a b ha
    obtain ⟨jK,J,U⟩:=ih bs hl
    exact ⟨b'::jK,LR.cons j J,by simp [List.mapM_cons,I,U]⟩
theorem results_run {ρ:a4} {n:Nat} {fn:Func} {e:Env} {h:AH} {a:Act} {w:World} {v:Value} (hv:aResults P fn.results.toList e h=some v) (he:eG ρ e n a) (hs:bB ρ w h.ae h.next):
  ∃ v',VR ρ v v'∧(results fn a.tmps).run P w= .ok v' w:=by
 unfold aResults at hv
 cases hm:fn.results.toList.mapM (aResult P e h) with
 | none=>rw [hm] at hv;cases hv
 | some vs=>
  rw [hm] at hv
  have wh:∀ t,a.tmps.getD t undef=(a.tmps[t]?).getD undef:=fun t=>by rw [Array.getD_eq_getD_getElem?]
  obtain ⟨c8,j,I⟩:=Ei (P:=P) (ρ:=ρ) (w:=w) (f:=aResult P e h) (g:=fun r=>match r with
   | .tmp t=>pure (a.tmps.getD t undef)
   | .cell x t=>do loadVar t (← asAddr (a.tmps.getD x undef))) (fun r b hb=>by
    cases r with
    | tmp t=>simp only [aResult,Option.some.injEq] at hb;subst hb;exact ⟨_,he.get t,by simp [wh]⟩
    | cell x t=>
     simp only [aResult] at hb
     obtain ⟨b',h1,h2⟩:=wz (P:=P) hs hb (he.get x)
     refine ⟨b',h1,?_⟩
     have hx:=he.get x
     unfold aLoad at hb
     split at hb
     ·rename_i ad hq
      rw [hq] at hx
      show Sem.run P (asAddr (a.tmps.getD x undef) >>= fun q=>loadVar t q) w=_
      rw [wh]
      generalize (a.tmps[x]?).getD undef=y at hx h2
      cases hx with
      | ptr hh=>simpa [Instr.loadAt,Instr.sureAddr,asAddr] using h2
     ·cases hb) _ _ hm
  have hJ:∀ (k:Array Value→Sem Value),((fn.results.mapM fun
    | .tmp t=>pure (a.tmps.getD t undef)
    | .cell x t=>do loadVar t (← asAddr (a.tmps.getD x undef))) >>= k).run P w=(k c8.toArray).run P w:=by
   intro k
   rw [Array.mapM_eq_mapM_toList]
   simp only [Sem.run_bind,Sem.run_map]
   rw [I]
   simp [Result.andThen]
  have hr:(results fn a.tmps).run P w= .ok (if h:c8.toArray.size=1 then c8.toArray[0] else .tuple c8.toArray) w:=by
   have:=hJ fun vs=>pure (if h:vs.size=1 then vs[0] else .tuple vs)
   exact this
  refine ⟨_,?_,hr⟩
  simp only [Option.map_some,Option.some.injEq] at hv
  subst hv
  match vs,c8,j with
  | [],[],q=>exact .tuple rfl fun i v v' a=>by simp at a
  | [x],[x'],q=>simpa using q.head
  | x::y::l,x'::y'::l',q=>
   have:¬ (x'::y'::l').toArray.size=1:=by simp
   rw [dif_neg this]
   exact .tuple (by simpa using q.1) fun i v v' a b=>q.2 i v v' (by simpa using a) (by simpa using b)
  | [],_::_,q=>exact absurd q.1 (by simp)
  | [_],[],q=>exact absurd q.1 (by simp)
  | [_],_::_::_,q=>exact absurd q.1 (by simp)
  | _::_::_,[],q=>exact absurd q.1 (by simp)
  | _::_::_,[_],q=>exact absurd q.1 (by simp)
theorem Dp (hP:ng P) {ov:cV} (nr:Good P ov) (yy:fX ov):∀ (k:Nat),Good P (aCall P ov k):=by
 intro k
 induction k with
 | zero=>intro f args h v h' hh;exact nr f args h v h' hh
 | succ k ih=>
  intro f args h v h' hh
  simp only [aCall] at hh
  cases ho:ov f args h with
  | some r=>rw [ho] at hh;simp at hh;subst hh;exact nr f args h v h' ho
  | none=>
  rw [ho] at hh
  simp only at hh
  cases hf:P.funcs[f]? with
  | none=>rw [hf] at hh;cases hh
  | some fn=>
   rw [hf] at hh
   simp only [ax] at hh
   cases hb:fn.body with
   | none=>rw [hb] at hh;cases hh
   | some c=>
    rw [hb] at hh
    simp only [ax] at hh
    have rQ:=hP.func hf
    simp only [funcOk,hb,Bool.and_eq_true,Bool.not_eq_true'] at rQ
    refine ⟨⟨fn,c,rfl,hb,rQ.1⟩,fun ρ w fz ez hs=>?_⟩
    split at hh
    ·rename_i hlen
     have he:eG ρ (Env.ofArgs 0 args .nil) fn.ntmps {tmps:=fz.toArray++Array.replicate (fn.ntmps - fz.toArray.size) undef,defers:=[]}:=by
      have hl:=ez.1
      refine ⟨by simp;omega,fun t=>?_⟩
      rw [Env.tn,Env.get_nil]
      by_cases ht:t<args.length
      ·rw [if_pos ⟨Nat.zero_le _,by omega⟩,Nat.sub_zero]
       obtain ⟨u,hu⟩:∃ u,args[t]?=some u:=⟨_,aX ht⟩
       obtain ⟨u',I,J⟩:=ez.get hu
       rw [List.getD_eq_getElem?_getD,hu]
       have bD:t<fz.toArray.size:=by simpa [← hl] using ht
       rw [Array.getElem?_append_left bD]
       simp only [List.getElem?_toArray,I,Option.getD_some]
       exact J
      ·rw [if_neg (by omega)]
       rw [Array.getElem?_append_right (by simp;omega)]
       simp only [Array.getElem?_replicate]
       split<;>exact VR.undef ρ
     have bp:=u9 (P:=P) yy k
     have main:∀ x e1 h1,aCode P (aCall P ov k) k c (Env.ofArgs 0 args .nil) {h with low:=h.next}=some (x,e1,h1)→(x= .normal∨x= .ret)→aResults P fn.results.toList e1 h1=some v→ff (gW P fn) h v h1=(v,h')→
       Calls P f fz.toArray w fun e w'=>∃ ρ' v',e= .returned v'∧VR ρ' v v'∧bB ρ' w' h'.ae h'.next∧Ext ρ h.ae h.next w ρ' h'.ae h'.next w':=by
      intro x e1 h1 hc hx hv j2
      refine calls_of_wp hf hb (wp_mono (Gf ih bp (F7 hP.1 ih bp) k c _ _ x e1 h1 hc rQ.2 ρ _ w he (show bB ρ w h.ae h.next from hs) hs.live) ?_)
      rintro ex a' w' ⟨rfl,ρ1,ab,aa,U,j⟩
      obtain ⟨v',I,J⟩:=results_run (P:=P) hv ab U
      have j:Ext ρ h.ae h.next w ρ1 h1.ae h1.next w':=j
      have hS:=n0 bp _ _ _ _ _ _ _ hc
      have fin:∃ ρ' tI,Ending.returned v'= .returned tI∧VR ρ' v tI∧bB ρ' w' h'.ae h'.next∧Ext ρ h.ae h.next w ρ' h'.ae h'.next w':=by
       unfold ff at j2
       split at j2
       ·rename_i ko
        obtain ⟨_,gK,du⟩:=ko
        simp at j2
        subst j2
        have fV:∀ b B,h.ae b=some B→h1.ae b=some B:=fun b B hB=>by
         have gi:b<h.next:=hs.live b (by rw [hB];exact fun q=>by cases q)
         rw [hS.ae b gi (Nat.lt_of_lt_of_le gi gK)];exact hB
        refine ⟨ρ,v',rfl,VR.narrow j.le (l1 ρ du) v' I,⟨hs.er,fun b p q=>Nat.lt_of_lt_of_le (hs.lt b p q) j.size,fun b B p hB hp i u hu=>?_,fun b B p hB hp ho=>U.own b B p (fV b B hB) (j.le b p hp) ho,hs.apart,hs.live⟩,
         ⟨c3.refl _,j.os,j.tape,j.output,j.size,Nat.le_refl _,j.a3,fun _ _ q=>q,fun _ _ q=> .inl q,fun _ _ _=>rfl⟩⟩
        obtain ⟨u',ad,af⟩:=U.cell b B p (fV b B hB) (j.le b p hp) i u hu
        obtain ⟨ah,_,ag⟩:=hs.cell b B p hB hp i u hu
        exact ⟨u',ad,VR.narrow j.le ag u' af⟩
       ·simp at j2
        subst j2
        exact ⟨ρ1,v',rfl,I,U,j⟩
      rcases hx with rfl | rfl
      ·exact ⟨aa,v',J,fin⟩
      ·exact ⟨aa,v',J,fin⟩
     have leave:∀ h1 v1,ff (gW P fn) h v1 h1=(v,h')→v1=v:=by
      intro h1 v1 hq
      unfold ff at hq
      split at hq<;>simp at hq<;>exact hq.1
     split at hh
     ·rename_i e1 h1 hc
      cases hv:aResults P fn.results.toList e1 h1 with
      | none=>rw [hv] at hh;cases hh
      | some v1=>
       rw [hv] at hh
       simp only [Option.map_some,Option.some.injEq] at hh
       obtain rfl:=leave h1 v1 hh
       exact main _ e1 h1 hc (.inl rfl) hv hh
     ·rename_i e1 h1 hc
      cases hv:aResults P fn.results.toList e1 h1 with
      | none=>rw [hv] at hh;cases hh
      | some v1=>
       rw [hv] at hh
       simp only [Option.map_some,Option.some.injEq] at hh
       obtain rfl:=leave h1 v1 hh
       exact main _ e1 h1 hc (.inr rfl) hv hh
     ·cases hh
    ·cases hh
end
end
section
open Go
variable [Marks]
def iF (W w':World):Prop:=W.keptBut w' (fun _=>False)∧(∀ a:Addr,a.block<W.heap.size→w'.frozen? a=W.frozen? a)∧W.heap.size≤w'.heap.size
omit [Marks] in
theorem iF.frame {W w':World} (h:iF W w') (may:MemPlace→Prop):W.keptBut w' may:=World.keptBut_mono (fun _ f=>f.elim) h.1
omit [Marks] in
theorem x8 {W w':World} (ho:w'.os=W.os) (hu:w'.output=W.output) (hs:W.heap.size≤w'.heap.size) (hk:∀ k,k<W.heap.size→w'.heap[k]?=W.heap[k]?):iF W w':=by
 refine ⟨⟨ho,hu,fun i hi=>?_⟩,fun a ha=>?_,hs⟩
 ·have h1:=(World.keptBut_refl W (fun _=>False)).2.2 i hi
  rw [hk i hi]
  exact h1
 ·unfold World.frozen?
  rw [hk _ ha]
theorem Ext.Cq {ρ ρ':a4} {ae gL:da} {n n':Nat} {W w':World} (h:Ext ρ ae n W ρ' gL n' w') (dO:∀ b B,ae b=some B→B.own=false):iF W w':=
 x8 h.os h.output h.size fun k hk=>h.a3 k hk fun ⟨b,B,p,I,j,J,U⟩=>by rw [dO b B I] at j;cases j
section
open Go.ChangeShapes Go.WideShapes
variable {H:Type} {enc:TypeId×Value→H} {P:Program}
omit [Marks] in
theorem y8 {f:Func} {s:ChangeSpec} {apart fresh handsOn again:Bool} {W W':World} {args:Array Value} {v:Value} {ds gs:List (DataW H)} {before pa pv:List MemPlace}
  (hW:DataW.Whole enc P f.params.toList s.vars apart W args.toList ds gs before)
  (kZ:∀ (b:Nat) (sp:Nat→Bool) (hd:Bool),DataW.TrodAll enc P W' b sp hd f.resultTypes.toList (v.resultList f.resultTypes.size) (s.fn H (ds++gs)).results [])
  (ez:∀ sp:Nat→Bool,(∀ p∈before,sp p.block=true)→DataW.TrodAll enc P W' 0 sp true f.params.toList args.toList (s.fn H (ds++gs)).args pa)
  (te:∀ sp:Nat→Bool,(∀ p∈before,sp p.block=true)→DataW.TrodVars enc P W' sp s.vars (s.fn H (ds++gs)).vars pv)
  (jM:before=pa++pv) (hg:iF W W')
  (b9:∀ (j:Nat) (t:TypeId) (r:Value),f.resultTypes[j]?=some t→(v.resultList f.resultTypes.size)[j]?=some r→Value.okWide P W' .any 0 t r):
  s.post enc P f apart fresh handsOn again W args v W':=by
 have bD:=fun p hp=>hW.lt p hp
 have hold:∀ p∈before,(fun b=>decide (b<W.heap.size)) p.block=true:=fun p hp=>by simpa using hW.lt p hp
 refine ⟨ds,gs,before,[],pa,pv,hW,kZ _ _ _,ez _ hold,te _ hold,World.keptBut_mono (fun p hp=>⟨hp,?_⟩) (hg.frame (·∈before)),fun _=>?_⟩
 ·rw [jM,List.mem_append] at hp
  exact Or.inr hp
 ·obtain ⟨_,_,_,_,_,hz,hn⟩:=hW
  refine ⟨b9,_,_,([]++pa)++pv,⟨[]++pa,pv,trodAll_append (ez _ (fun _ _=>rfl)) (kZ _ _ _),te _ (fun _ _=>rfl),rfl,?_,?_⟩,?_⟩
  ·intro b off hp
   have e3:MemPlace.cell b off∈before:=by rw [jM];simpa using hp
   rw [hg.2.1 _ (bD _ e3)]
   exact hz b off e3
  ·intro ha
   have:=hn ha
   rw [jM] at this
   simpa using this
  ·intro p hp _
   rw [jM]
   simpa using hp
end
section
variable {P:Program}
theorem bB.grow {ρ:a4} {w w':World} {ae:da} {next:Nat} (h:bB ρ w ae next) (hs:w.heap.size≤w'.heap.size) (hk:∀ k,k<w.heap.size→w'.heap[k]?=w.heap[k]?):bB ρ w' ae next:=
 ⟨h.er,fun b p q=>Nat.lt_of_lt_of_le (h.lt b p q) hs,fun b B p q r i v hv=>by
  obtain ⟨v',h1,h2⟩:=h.cell b B p q r i v hv
  exact ⟨v',by rw [← h1];exact World.cell?_of_block (hk _ (h.lt b p r)),h2⟩,
  fun b B p q r s=>by rw [hk _ (h.lt b p r)];exact h.own b B p q r s,h.apart,h.live⟩
def F4 (P:Program) (f:FuncId) (args:List Value) (v:Value):Prop:=
 (∃ fn c,P.funcs[f]?=some fn∧fn.body=some c∧(fn.name == "runtime.NumGoroutine")=false)∧
 ∀ (ρ:a4) (w:World) (fz:List Value) (ae:da) (next:Nat),LR ρ args fz→bB ρ w ae next→
  Calls P f fz.toArray w fun e w'=>∃ v',e= .returned v'∧VR ρ v v'∧bB ρ w' ae next∧Ext ρ ae next w ρ ae next w'
theorem D7 {ov:cV} (h:∀ f args h v h',ov f args h=some (v,h')→h'=h∧F4 P f args v):Good P ov∧fX ov:=by
 refine ⟨fun f args h0 v h' hh=>?_,fun f args h0 v h' hh=>?_⟩
 ·obtain ⟨rfl,h1,h2⟩:=h f args h0 v h' hh
  refine ⟨h1,fun ρ w fz hl hs=>?_⟩
  refine (h2 ρ w fz _ _ hl hs).mono fun e w' hq=>?_
  obtain ⟨v',j,I,J,U⟩:=hq
  exact ⟨ρ,v',j,I,J,U⟩
 ·obtain ⟨rfl,_⟩:=h f args h0 v h' hh
  exact bH.refl _
def iD:cV:=fun _ _ _=>none
theorem wM:Good P iD∧fX iD:=D7 fun f args h v h' hh=>by cases hh
def AH.none:AH:=⟨.nil,0,0⟩
theorem AH.mu (b:Nat):AH.none.ae b=Option.none:=by simp [AH.none,AH.ae,Tr.get]
def ρ0:a4:=fun _=>Option.none
theorem BC (w:World):bB ρ0 w AH.none.ae AH.none.next where
 er b p q:=by cases q
 lt b p q:=by cases q
 cell b B p q:=by rw [AH.mu] at q;cases q
 own b B p q:=by rw [AH.mu] at q;cases q
 apart b c B C p q h j:=by rw [AH.mu] at j;cases j
 live b q:=absurd (AH.mu b) q
end
end
section
open Go
def cL:Code→Code
 | .seq a _=>a
 | .cond _ a _=>a
 | c=>c
def cR:Code→Code
 | .seq _ b=>b
 | .cond _ _ b=>b
 | c=>c
def cI:Code→Code
 | .block _ c=>c
 | .loop c=>c
 | .scope c=>c
 | c=>c
def jd (f:Func):Code:=f.body.getD .skip
section
variable {P:Program} {call:cV} {k:Nat} {c:Code} {e e1:Env} {h h1:AH} {r:ga}
end
end
section
open Go
def eJ (c1 c2:cV):Prop:=∀ f a h r,c1 f a h=some r→c2 f a h=some r
theorem eJ.refl (c:cV):eJ c c:=fun _ _ _ _ h=>h
theorem eJ.trans {a b c:cV} (h:eJ a b) (k:eJ b c):eJ a c:=fun _ _ _ _ q=>k _ _ _ _ (h _ _ _ _ q)
section
variable {P:Program} {c1 c2:cV}
theorem pI (hc:eJ c1 c2) {ev:Operand→Value} {op:Op} {h:AH} {r:Value×AH} (hr:aOp P c1 ev op h=some r):aOp P c2 ev op h=some r:=by
 cases op with
 | call c=>
  simp only [aOp] at hr ⊢
  cases kF:c.callee with
  | builtin b=>rw [kF] at hr;exact hr
  | value f=>
   rw [kF] at hr
   simp only at hr ⊢
   split at hr
   ·rename_i g first captured GL
    exact hc _ _ _ _ hr
   ·cases hr
  | invoke a b=>rw [kF] at hr;cases hr
 | makeFunc fn first captured=>cases fn<;>exact hr
 | _=>exact hr
theorem tj (hc:eJ c1 c2) {ops:Array Oper}:∀ (os:List Oper) {e:Env} {h:AH} {r:Env×AH},aOps P c1 ops os e h=some r→aOps P c2 ops os e h=some r:=by
 intro os
 induction os with
 | nil=>intro e h r hr;exact hr
 | cons o os ih=>
  intro e h r hr
  simp only [aOps] at hr ⊢
  split at hr
  ·rename_i hw
   rw [if_pos hw]
   cases ho:aOp P c1 e.ev o.op h with
   | none=>rw [ho] at hr;cases hr
   | some x=>
    rw [ho] at hr
    rw [pI hc ho]
    exact ih hr
  ·rename_i hw
   rw [if_neg hw]
   exact ih hr
theorem uY (hc:eJ c1 c2) {ops:List Oper} {base i:Nat} {o:Oper} {s s':gy} (hr:aDrawOp P c1 ops base i o s=some s'):aDrawOp P c2 ops base i o s=some s':=by
 unfold aDrawOp at hr ⊢
 cases jt:cls P o.op with
 | pure=>
  rw [jt] at hr
  simp only at hr ⊢
  cases ho:aOp P c1 s.e.ev o.op s.h with
  | none=>rw [ho] at hr;cases hr
  | some x=>rw [ho] at hr;rw [pI hc ho];exact hr
 | look=>rw [jt] at hr;exact hr
 | fresh=>rw [jt] at hr;exact hr
 | make=>
  rw [jt] at hr
  simp only at hr ⊢
  cases ho:aOp P c1 s.e.ev o.op {s.h with low:=s.h.next} with
  | none=>rw [ho] at hr;cases hr
  | some x=>rw [ho] at hr;rw [pI hc ho];exact hr
theorem u7 (hc:eJ c1 c2) {ops:Array Oper} {base:Nat}:∀ (os:List Oper) {i:Nat} {s s':gy},aDraw P c1 ops base i os s=some s'→aDraw P c2 ops base i os s=some s':=by
 intro os
 induction os with
 | nil=>intro i s s' hr;exact hr
 | cons o os ih=>
  intro i s s' hr
  simp only [aDraw] at hr ⊢
  split at hr
  ·rename_i hw
   rw [if_pos hw]
   cases ho:aDrawOp P c1 ops.toList base i o s with
   | none=>rw [ho] at hr;cases hr
   | some x=>
    rw [ho] at hr
    rw [uY hc ho]
    exact ih hr
  ·rename_i hw
   rw [if_neg hw]
   exact ih hr
theorem GO (hc:eJ c1 c2) {ops:Array Oper} {e:Env} {h:AH} {r:Env×AH} (hr:fv P c1 ops e h=some r):fv P c2 ops e h=some r:=by
 unfold fv at hr ⊢
 cases ho:aDraw P c1 ops h.next 0 ops.toList ⟨e,{h with next:=h.next+ops.size},[],[]⟩ with
 | none=>rw [ho] at hr;cases hr
 | some x=>rw [ho] at hr;rw [u7 hc _ ho];exact hr
theorem sW {j I:Env→AH→ga} (hb:∀ e h r,j e h=some r→I e h=some r):∀ (n m:Nat),n≤m→∀ (e:Env) (h:AH) (r),aLoop j n e h=some r→aLoop I m e h=some r:=by
 intro n
 induction n with
 | zero=>intro m _ e h r hr;cases hr
 | succ n ih=>
  intro m hm e h r hr
  obtain ⟨m,rfl⟩:∃ k,m=k+1:=⟨m - 1,by omega⟩
  simp only [aLoop] at hr ⊢
  cases hx:j e h with
  | none=>rw [hx] at hr;cases hr
  | some x=>
   rw [hx] at hr
   rw [hb _ _ _ hx]
   obtain ⟨x,e',h'⟩:=x
   cases x with
   | normal=>exact ih m (by omega) _ _ _ hr
   | exit i=>exact hr
   | goto l=>exact hr
   | ret=>exact hr
theorem tC {j I:Code→Env→AH→ga} (hb:∀ c e h r,j c e h=some r→I c e h=some r) (c:Code):∀ (n m:Nat),n≤m→∀ (cur:Code) (e:Env) (h:AH) (r),aJump j c n cur e h=some r→aJump I c m cur e h=some r:=by
 intro n
 induction n with
 | zero=>intro m _ cur e h r hr;cases hr
 | succ n ih=>
  intro m hm cur e h r hr
  obtain ⟨m,rfl⟩:∃ k,m=k+1:=⟨m - 1,by omega⟩
  simp only [aJump] at hr ⊢
  cases hx:j cur e h with
  | none=>rw [hx] at hr;cases hr
  | some x=>
   rw [hx] at hr
   rw [hb _ _ _ _ hx]
   obtain ⟨x,e',h'⟩:=x
   cases x with
   | normal=>exact hr
   | exit i=>exact hr
   | goto l=>
    simp only at hr ⊢
    split at hr
    ·exact ih m (by omega) _ _ _ _ hr
    ·exact hr
   | ret=>exact hr
theorem g3 (hc:eJ c1 c2):∀ (n m:Nat),n≤m→∀ (c:Code) (e:Env) (h:AH) (r),aCode P c1 n c e h=some r→aCode P c2 m c e h=some r:=by
 intro n
 induction n with
 | zero=>intro m _ c e h r hr;cases hr
 | succ n ih=>
  intro m hm c e h r hr
  obtain ⟨m,rfl⟩:∃ k,m=k+1:=⟨m - 1,by omega⟩
  have jn:n≤m:=by omega
  cases c with
  | region a ops d=>
   cases d with
   | false=>
    simp only [aCode] at hr ⊢
    cases ho:aOps P c1 ops ops.toList e h with
    | none=>rw [ho] at hr;cases hr
    | some x=>rw [ho] at hr;rw [tj hc _ ho];exact hr
   | true=>
    simp only [aCode] at hr ⊢
    cases ho:fv P c1 ops e h with
    | none=>rw [ho] at hr;cases hr
    | some x=>rw [ho] at hr;rw [GO hc ho];exact hr
  | seq a b=>
   simp only [aCode] at hr ⊢
   cases hx:aCode P c1 n a e h with
   | none=>rw [hx] at hr;cases hr
   | some x=>
    rw [hx] at hr
    rw [ih m jn _ _ _ _ hx]
    obtain ⟨x,e',h'⟩:=x
    cases x with
    | normal=>exact ih m jn _ _ _ _ hr
    | exit i=>exact hr
    | goto l=>exact hr
    | ret=>exact hr
  | cond x a b=>
   simp only [aCode] at hr ⊢
   split at hr
   ·exact ih m jn _ _ _ _ hr
   ·cases hr
  | block id c=>
   simp only [aCode] at hr ⊢
   cases hx:aCode P c1 n c e h with
   | none=>rw [hx] at hr;cases hr
   | some x=>rw [hx] at hr;rw [ih m jn _ _ _ _ hx];exact hr
  | loop c=>
   simp only [aCode] at hr ⊢
   exact sW (fun e h r q=>ih m jn _ _ _ _ q) n m jn _ _ _ hr
  | scope c=>
   simp only [aCode] at hr ⊢
   exact tC (fun cur e h r q=>ih m jn _ _ _ _ q) c n m jn _ _ _ _ hr
  | skip=>exact hr
  | label l=>exact hr
  | exit id=>exact hr
  | goto l=>exact hr
  | ret=>exact hr
  | _=>cases hr
theorem yp (ov:cV):∀ (k:Nat),eJ (aCall P ov k) (aCall P ov (k+1)):=by
 intro k
 induction k with
 | zero=>intro f a h r hr;simp only [aCall] at hr;rw [aCall,hr]
 | succ k ih=>
  intro f a h r hr
  rw [aCall] at hr ⊢
  cases ho:ov f a h with
  | some x=>rw [ho] at hr;exact hr
  | none=>
   rw [ho] at hr
   simp only at hr ⊢
   cases hf:P.funcs[f]? with
   | none=>rw [hf] at hr;cases hr
   | some fn=>
    rw [hf] at hr
    simp only [ax] at hr ⊢
    cases hb:fn.body with
    | none=>rw [hb] at hr;cases hr
    | some c=>
     rw [hb] at hr
     simp only [ax] at hr ⊢
     split at hr
     ·rename_i hl
      rw [if_pos hl]
      cases hx:aCode P (aCall P ov k) k c (Env.ofArgs 0 a .nil) {h with low:=h.next} with
      | none=>rw [hx] at hr;cases hr
      | some x=>rw [hx] at hr;rw [g3 ih k (k+1) (by omega) _ _ _ _ hx];exact hr
     ·cases hr
theorem sP (ov:cV) {k m:Nat} (h:k≤m):eJ (aCall P ov k) (aCall P ov m):=by
 induction h with
 | refl=>exact eJ.refl _
 | step _ ih=>exact ih.trans (yp ov _)
end
open Classical in
noncomputable def b5 (P:Program):cV:=fun f a h=>if H:∃ r,∃ k,aCall P iD k f a h=some r then some H.choose else none
section
variable {P:Program}
theorem Dz {k:Nat} {f:FuncId} {a:List Value} {h:AH} {r:Value×AH} (hr:aCall P iD k f a h=some r):b5 P f a h=some r:=by
 unfold b5
 have H:∃ r,∃ k,aCall P iD k f a h=some r:=⟨r,k,hr⟩
 rw [dif_pos H]
 obtain ⟨k',ir⟩:=H.choose_spec
 have h1:=sP (P:=P) iD (Nat.le_max_left k k') _ _ _ _ hr
 have h2:=sP (P:=P) iD (Nat.le_max_right k k') _ _ _ _ ir
 rw [h1] at h2
 exact h2.symm
theorem qz {f:FuncId} {a:List Value} {h:AH} {r:Value×AH} (hr:b5 P f a h=some r):∃ k,aCall P iD k f a h=some r:=by
 unfold b5 at hr
 split at hr
 ·rename_i H
  obtain ⟨k,hk⟩:=H.choose_spec
  simp only [Option.some.injEq] at hr
  rw [hr] at hk
  exact ⟨k,hk⟩
 ·cases hr
abbrev hM (P:Program) (k:Nat):cV:=aCall P iD k
theorem r2 {ev:Operand→Value} {op:Op} {h:AH} {r:Value×AH} (hr:aOp P (b5 P) ev op h=some r):∃ k,aOp P (hM P k) ev op h=some r:=by
 cases op with
 | call c=>
  simp only [aOp] at hr ⊢
  cases kF:c.callee with
  | builtin b=>rw [kF] at hr;exact ⟨0,hr⟩
  | value f=>
   rw [kF] at hr
   simp only at hr ⊢
   split at hr
   ·rename_i g first captured GL
    exact qz hr
   ·cases hr
  | invoke a b=>rw [kF] at hr;cases hr
 | makeFunc fn first captured=>cases fn<;>exact ⟨0,hr⟩
 | _=>exact ⟨0,hr⟩
theorem jk {k m:Nat} (h:k≤m):eJ (hM P k) (hM P m):=sP _ h
theorem AQ {ops:Array Oper}:∀ (os:List Oper) {e:Env} {h:AH} {r:Env×AH},aOps P (b5 P) ops os e h=some r→∃ k,aOps P (hM P k) ops os e h=some r:=by
 intro os
 induction os with
 | nil=>intro e h r hr;exact ⟨0,hr⟩
 | cons o os ih=>
  intro e h r hr
  simp only [aOps] at hr ⊢
  split at hr
  ·rename_i hw
   cases ho:aOp P (b5 P) e.ev o.op h with
   | none=>rw [ho] at hr;cases hr
   | some x=>
    rw [ho] at hr
    obtain ⟨I,h1⟩:=r2 ho
    obtain ⟨j,h2⟩:=ih hr
    refine ⟨max I j,?_⟩
    rw [if_pos hw,pI (jk (Nat.le_max_left I j)) h1]
    exact tj (jk (Nat.le_max_right I j)) _ h2
  ·rename_i hw
   obtain ⟨j,h2⟩:=ih hr
   exact ⟨j,by rw [if_neg hw];exact h2⟩
theorem zT {ops:List Oper} {base i:Nat} {o:Oper} {s s':gy} (hr:aDrawOp P (b5 P) ops base i o s=some s'):∃ k,aDrawOp P (hM P k) ops base i o s=some s':=by
 unfold aDrawOp at hr ⊢
 cases jt:cls P o.op with
 | pure=>
  rw [jt] at hr
  simp only at hr ⊢
  cases ho:aOp P (b5 P) s.e.ev o.op s.h with
  | none=>rw [ho] at hr;cases hr
  | some x=>
   rw [ho] at hr
   obtain ⟨k,hk⟩:=r2 ho
   exact ⟨k,by rw [hk];exact hr⟩
 | look=>rw [jt] at hr;exact ⟨0,hr⟩
 | fresh=>rw [jt] at hr;exact ⟨0,hr⟩
 | make=>
  rw [jt] at hr
  simp only at hr ⊢
  cases ho:aOp P (b5 P) s.e.ev o.op {s.h with low:=s.h.next} with
  | none=>rw [ho] at hr;cases hr
  | some x=>
   rw [ho] at hr
   obtain ⟨k,hk⟩:=r2 ho
   exact ⟨k,by rw [hk];exact hr⟩
theorem Dm {ops:Array Oper} {base:Nat}:∀ (os:List Oper) {i:Nat} {s s':gy},aDraw P (b5 P) ops base i os s=some s'→∃ k,aDraw P (hM P k) ops base i os s=some s':=by
 intro os
 induction os with
 | nil=>intro i s s' hr;exact ⟨0,hr⟩
 | cons o os ih=>
  intro i s s' hr
  simp only [aDraw] at hr ⊢
  split at hr
  ·rename_i hw
   cases ho:aDrawOp P (b5 P) ops.toList base i o s with
   | none=>rw [ho] at hr;cases hr
   | some x=>
    rw [ho] at hr
    obtain ⟨I,h1⟩:=zT ho
    obtain ⟨j,h2⟩:=ih hr
    refine ⟨max I j,?_⟩
    rw [if_pos hw,uY (jk (Nat.le_max_left I j)) h1]
    exact u7 (jk (Nat.le_max_right I j)) _ h2
  ·rename_i hw
   obtain ⟨j,h2⟩:=ih hr
   exact ⟨j,by rw [if_neg hw];exact h2⟩
theorem Fe {ops:Array Oper} {e:Env} {h:AH} {r:Env×AH} (hr:fv P (b5 P) ops e h=some r):∃ k,fv P (hM P k) ops e h=some r:=by
 unfold fv at hr ⊢
 cases ho:aDraw P (b5 P) ops h.next 0 ops.toList ⟨e,{h with next:=h.next+ops.size},[],[]⟩ with
 | none=>rw [ho] at hr;cases hr
 | some x=>
  rw [ho] at hr
  obtain ⟨k,hk⟩:=Dm _ ho
  exact ⟨k,by rw [hk];exact hr⟩
theorem AU {b:Nat→Env→AH→ga} {bI:Env→AH→ga} (hm:∀ k m,k≤m→∀ e h r,b k e h=some r→b m e h=some r) (hb:∀ e h r,bI e h=some r→∃ k,b k e h=some r):∀ (n:Nat) (e:Env) (h:AH) (r),aLoop bI n e h=some r→∃ k,aLoop (b k) n e h=some r:=by
 intro n
 induction n with
 | zero=>intro e h r hr;cases hr
 | succ n ih=>
  intro e h r hr
  simp only [aLoop] at hr ⊢
  cases hx:bI e h with
  | none=>rw [hx] at hr;cases hr
  | some x=>
   rw [hx] at hr
   obtain ⟨j,h1⟩:=hb _ _ _ hx
   obtain ⟨x,e',h'⟩:=x
   cases x with
   | normal=>
    obtain ⟨I,h2⟩:=ih _ _ _ hr
    refine ⟨max j I,?_⟩
    rw [hm _ _ (Nat.le_max_left j I) _ _ _ h1]
    exact sW (hm _ _ (Nat.le_max_right j I)) n n (Nat.le_refl _) _ _ _ h2
   | exit i=>exact ⟨j,by rw [h1];exact hr⟩
   | goto l=>exact ⟨j,by rw [h1];exact hr⟩
   | ret=>exact ⟨j,by rw [h1];exact hr⟩
theorem Dv {b:Nat→Code→Env→AH→ga} {bI:Code→Env→AH→ga} (hm:∀ k m,k≤m→∀ c e h r,b k c e h=some r→b m c e h=some r) (hb:∀ c e h r,bI c e h=some r→∃ k,b k c e h=some r) (c:Code):∀ (n:Nat) (cur:Code) (e:Env) (h:AH) (r),aJump bI c n cur e h=some r→∃ k,aJump (b k) c n cur e h=some r:=by
 intro n
 induction n with
 | zero=>intro cur e h r hr;cases hr
 | succ n ih=>
  intro cur e h r hr
  simp only [aJump] at hr ⊢
  cases hx:bI cur e h with
  | none=>rw [hx] at hr;cases hr
  | some x=>
   rw [hx] at hr
   obtain ⟨j,h1⟩:=hb _ _ _ _ hx
   obtain ⟨x,e',h'⟩:=x
   cases x with
   | normal=>exact ⟨j,by rw [h1];exact hr⟩
   | exit i=>exact ⟨j,by rw [h1];exact hr⟩
   | goto l=>
    simp only at hr
    cases hl:findLabel c l with
    | none=>rw [hl] at hr;exact ⟨j,by rw [h1];simp only [hl];exact hr⟩
    | some rest=>
     rw [hl] at hr
     obtain ⟨I,h2⟩:=ih _ _ _ _ hr
     refine ⟨max j I,?_⟩
     rw [hm _ _ (Nat.le_max_left j I) _ _ _ _ h1]
     simp only [hl]
     exact tC (hm _ _ (Nat.le_max_right j I)) c n n (Nat.le_refl _) _ _ _ _ h2
   | ret=>exact ⟨j,by rw [h1];exact hr⟩
theorem Co:∀ (n:Nat) (c:Code) (e:Env) (h:AH) (r),aCode P (b5 P) n c e h=some r→∃ k,aCode P (hM P k) n c e h=some r:=by
 intro n
 induction n with
 | zero=>intro c e h r hr;cases hr
 | succ n ih=>
  intro c e h r hr
  cases c with
  | region a ops d=>
   cases d with
   | false=>
    simp only [aCode] at hr ⊢
    cases ho:aOps P (b5 P) ops ops.toList e h with
    | none=>rw [ho] at hr;cases hr
    | some x=>
     rw [ho] at hr
     obtain ⟨k,hk⟩:=AQ _ ho
     exact ⟨k,by rw [hk];exact hr⟩
   | true=>
    simp only [aCode] at hr ⊢
    cases ho:fv P (b5 P) ops e h with
    | none=>rw [ho] at hr;cases hr
    | some x=>
     rw [ho] at hr
     obtain ⟨k,hk⟩:=Fe ho
     exact ⟨k,by rw [hk];exact hr⟩
  | seq a b=>
   simp only [aCode] at hr ⊢
   cases hx:aCode P (b5 P) n a e h with
   | none=>rw [hx] at hr;cases hr
   | some x=>
    rw [hx] at hr
    obtain ⟨j,h1⟩:=ih _ _ _ _ hx
    obtain ⟨x,e',h'⟩:=x
    cases x with
    | normal=>
     obtain ⟨I,h2⟩:=ih _ _ _ _ hr
     refine ⟨max j I,?_⟩
     rw [g3 (jk (Nat.le_max_left j I)) n n (Nat.le_refl _) _ _ _ _ h1]
     exact g3 (jk (Nat.le_max_right j I)) n n (Nat.le_refl _) _ _ _ _ h2
    | exit i=>exact ⟨j,by rw [h1];exact hr⟩
    | goto l=>exact ⟨j,by rw [h1];exact hr⟩
    | ret=>exact ⟨j,by rw [h1];exact hr⟩
  | cond x a b=>
   simp only [aCode] at hr ⊢
   split at hr
   ·exact ih _ _ _ _ hr
   ·cases hr
  | block id c=>
   simp only [aCode] at hr ⊢
   cases hx:aCode P (b5 P) n c e h with
   | none=>rw [hx] at hr;cases hr
   | some x=>
    rw [hx] at hr
    obtain ⟨j,h1⟩:=ih _ _ _ _ hx
    exact ⟨j,by rw [h1];exact hr⟩
  | loop c=>
   simp only [aCode] at hr ⊢
   exact AU (b:=fun k=>aCode P (hM P k) n c) (fun k m hk e h r q=>g3 (jk hk) n n (Nat.le_refl _) _ _ _ _ q) (fun e h r q=>ih _ _ _ _ q) n _ _ _ hr
  | scope c=>
   simp only [aCode] at hr ⊢
   exact Dv (b:=fun k=>aCode P (hM P k) n) (fun k m hk c e h r q=>g3 (jk hk) n n (Nat.le_refl _) _ _ _ _ q) (fun c e h r q=>ih _ _ _ _ q) c n _ _ _ _ hr
  | skip=>exact ⟨0,hr⟩
  | label l=>exact ⟨0,hr⟩
  | exit id=>exact ⟨0,hr⟩
  | goto l=>exact ⟨0,hr⟩
  | ret=>exact ⟨0,hr⟩
  | _=>cases hr
end
end
end Go.Proofs.YtcilejikekccmaaGreat.Am
