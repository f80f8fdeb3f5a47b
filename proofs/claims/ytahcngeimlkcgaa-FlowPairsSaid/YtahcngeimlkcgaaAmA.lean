/- The abstract machine: tries, the abstract heap, and the operations on them; definitions and their first laws. No program in sight. -/
import Derived.Calls
import Derived.Orders
import Derived.Scope
import Derived.ScopeJumps
import Derived.Laws.Append
import Derived.Laws.Cells
import Derived.Laws.Rows
import Derived.Laws.AppendOwn
namespace Go.Proofs.Ytahcngeimlkcgaa.Am
open Go
set_option linter.unusedVariables false
set_option linter.unusedSectionVars false
inductive Tr (α : Type) where
 | nil
 | node (l : Tr α) (v : Option α) (r : Tr α)
namespace Tr
variable {α : Type}
def get : Tr α → Nat → Option α
 | .nil, _ => none
 | .node l v r, n => if n = 0 then v else if n % 2 = 1 then l.get (n / 2) else r.get (n / 2 - 1)
def setF : Nat → Tr α → Nat → Option α → Tr α
 | 0, t, _, _ => t
 | f + 1, .nil, n, x => if n = 0 then .node .nil x .nil else if n % 2 = 1 then .node (setF f .nil (n / 2) x) none .nil else .node .nil none (setF f .nil (n / 2 - 1) x)
 | f + 1, .node l v r, n, x => if n = 0 then .node l x r else if n % 2 = 1 then .node (setF f l (n / 2) x) v r else .node l v (setF f r (n / 2 - 1) x)
def set (t : Tr α) (n : Nat) (x : Option α) : Tr α := setF (n + 1) t n x
theorem get_setF (f : Nat) : ∀ (t : Tr α) (n m : Nat) (x : Option α), n < f → (setF f t n x).get m = if m = n then x else t.get m := by
 induction f with
 | zero => intro t n m x h; omega
 | succ f ih =>
  intro t n m x h
  cases t with
  | nil =>
   simp only [setF]
   by_cases hn : n = 0
   ·subst hn
    simp only [if_true, get]
    by_cases hm : m = 0 <;> simp [hm]
   ·rw [if_neg hn]
    by_cases ho : n % 2 = 1
    ·rw [if_pos ho]
     simp only [get]
     by_cases hm : m = 0
     ·subst hm; simp [Ne.symm hn]
     ·rw [if_neg hm]
      by_cases hmo : m % 2 = 1
      ·rw [if_pos hmo, ih _ _ _ _ (by omega)]
       simp only [get]
       by_cases e : m = n
       ·simp [e]
       ·rw [if_neg e, if_neg (by omega)]
      ·rw [if_neg hmo, if_neg (by omega)]
    ·rw [if_neg ho]
     simp only [get]
     by_cases hm : m = 0
     ·subst hm; simp [Ne.symm hn]
     ·rw [if_neg hm]
      by_cases hmo : m % 2 = 1
      ·rw [if_pos hmo, if_neg (by omega)]
      ·rw [if_neg hmo, ih _ _ _ _ (by omega)]
       simp only [get]
       by_cases e : m = n
       ·simp [e]
       ·rw [if_neg e, if_neg (by omega)]
  | node l v r =>
   simp only [setF]
   by_cases hn : n = 0
   ·subst hn
    simp only [if_true, get]
    by_cases hm : m = 0 <;> simp [hm]
   ·rw [if_neg hn]
    by_cases ho : n % 2 = 1
    ·rw [if_pos ho]
     simp only [get]
     by_cases hm : m = 0
     ·subst hm; simp [Ne.symm hn]
     ·rw [if_neg hm, if_neg hm]
      by_cases hmo : m % 2 = 1
      ·rw [if_pos hmo, if_pos hmo, ih _ _ _ _ (by omega)]
       by_cases e : m = n
       ·simp [e]
       ·rw [if_neg e, if_neg (by omega)]
      ·rw [if_neg hmo, if_neg hmo, if_neg (by omega)]
    ·rw [if_neg ho]
     simp only [get]
     by_cases hm : m = 0
     ·subst hm; simp [Ne.symm hn]
     ·rw [if_neg hm, if_neg hm]
      by_cases hmo : m % 2 = 1
      ·rw [if_pos hmo, if_pos hmo, if_neg (by omega)]
      ·rw [if_neg hmo, if_neg hmo, ih _ _ _ _ (by omega)]
       by_cases e : m = n
       ·simp [e]
       ·rw [if_neg e, if_neg (by omega)]
theorem get_set (t : Tr α) (n m : Nat) (x : Option α) : (t.set n x).get m = if m = n then x else t.get m := get_setF _ t n m x (by omega)
end Tr
abbrev Env := Tr Value
def Env.get (e : Env) (t : Nat) : Value := (Tr.get e t).getD undef
def Env.set (e : Env) (t : Nat) (v : Value) : Env := Tr.set e t (some v)
theorem Env.get_set (e : Env) (t u : Nat) (v : Value) : (Env.set e t v).get u = if u = t then v else e.get u := by
 unfold Env.get Env.set
 rw [Tr.get_set]
 split <;> rfl
theorem Env.get_nil (t : Nat) : Env.get (.nil : Env) t = undef := rfl
def Env.put (e : Env) (d : Option Nat) (v : Value) : Env := match d with | some t => Env.set e t v | none => e
def Env.ofArgs : Nat → List Value → Env → Env
 | _, [], e => e
 | i, v :: vs, e => Env.ofArgs (i + 1) vs (Env.set e i v)
def Env.ev (e : Env) : Operand → Value
 | .tmp t => e.get t
 | .const v => v
 | .global _ => undef
 | .func f => .func (.func f) #[] #[]
theorem Env.get_ofArgs (vs : List Value) : ∀ (i : Nat) (e : Env) (t : Nat), (Env.ofArgs i vs e).get t = if i ≤ t ∧ t < i + vs.length then vs.getD (t - i) undef else e.get t := by
 induction vs with
 | nil => intro i e t; simp [Env.ofArgs]; intro h1 h2; omega
 | cons v vs ih =>
  intro i e t
  simp only [Env.ofArgs, ih, List.length_cons, Env.get_set]
  by_cases h1 : i + 1 ≤ t ∧ t < i + 1 + vs.length
  ·rw [if_pos h1, if_pos (by omega)]
   have : t - i = (t - (i + 1)) + 1 := by omega
   rw [this, List.getD_cons_succ]
  ·rw [if_neg h1]
   by_cases h2 : t = i
   ·subst h2; simp
   ·rw [if_neg h2, if_neg (by omega)]
structure ABlk where
 cells : List Value
 own : Bool
 esz : Nat
structure AH where
 t : Tr ABlk
 next : Nat
 low : Nat
namespace AH
def blk (h : AH) (b : Nat) : Option ABlk := h.t.get b
def alloc (h : AH) (cs : List Value) (esz : Nat) : AH := ⟨h.t.set h.next (some ⟨cs, true, esz⟩), h.next + 1, h.low⟩
def put (h : AH) (b : Nat) (x : Option ABlk) : AH := ⟨h.t.set b x, h.next, if b < h.low then b else h.low⟩
theorem blk_alloc (h : AH) (cs : List Value) (esz b : Nat) : (h.alloc cs esz).blk b = if b = h.next then some ⟨cs, true, esz⟩ else h.blk b := Tr.get_set _ _ _ _
theorem blk_put (h : AH) (c b : Nat) (x : Option ABlk) : (h.put c x).blk b = if b = c then x else h.blk b := Tr.get_set _ _ _ _
theorem next_alloc (h : AH) (cs : List Value) (esz : Nat) : (h.alloc cs esz).next = h.next + 1 := rfl
theorem next_put (h : AH) (b : Nat) (x : Option ABlk) : (h.put b x).next = h.next := rfl
theorem low_alloc (h : AH) (cs : List Value) (esz : Nat) : (h.alloc cs esz).low = h.low := rfl
theorem low_put (h : AH) (b : Nat) (x : Option ABlk) : (h.put b x).low = if b < h.low then b else h.low := rfl
def load (h : AH) (a : Addr) : Option Value :=
 match a.spot with
 | none => (h.blk a.block).bind fun B => B.cells[a.off]?
 | some _ => none
def cellsAt (h : AH) (a : Addr) (n : Nat) : Option (List Value) :=
 match a.spot with
 | none => (h.blk a.block).bind fun B => if a.off + n ≤ B.cells.length then some ((B.cells.drop a.off).take n) else none
 | some _ => none
def store (h : AH) (a : Addr) (vs : List Value) : Option AH :=
 match a.spot with
 | none => (h.blk a.block).bind fun B =>
  if B.own = true ∧ a.off + vs.length ≤ B.cells.length ∧ vs.all Value.oneCell' = true then
   some (h.put a.block (some ⟨B.cells.take a.off ++ vs ++ B.cells.drop (a.off + vs.length), true, B.esz⟩))
  else none
 | some _ => none
end AH
def oneClean : Value → Bool
 | .bool _ | .int .. | .string _ | .pointer none | .nilFunc | .nilIface => true
 | .slice none n c => decide (n ≤ c)
 | _ => false
def clean1 : Value → Bool
 | .agg cs => cs.toList.all oneClean
 | v => oneClean v
def clean : Value → Bool
 | .tuple cs => cs.toList.all clean1
 | .iface _ v => clean1 v
 | .func (.func _) first captured => first.toList.isEmpty && captured.toList.isEmpty
 | v => clean1 v
def tsize (P : Program) (t : TypeId) : Option Nat := (P.info? t).map (·.size)
def tbytes (P : Program) (t : TypeId) : Option Nat := (P.info? t).map (·.bytes)
def tzero (P : Program) (t : TypeId) : Option Value := (P.info? t).bind (·.zero)
def aggD : TypeDesc → Bool
 | .struct _ | .array _ _ => true
 | _ => false
def aPart (P : Program) (t : TypeId) (cs : Array Value) (off : Nat) : Option Value :=
 (P.underlying t).bind fun d => if aggD d then (tsize P t).map fun s => .agg (cs.extract off (off + s)) else cs[off]?
def aEqFields (P : Program) (eq : TypeId → Value → Value → Option Bool) : List Field → Array Value → Array Value → Option Bool
 | [], _, _ => some true
 | f :: fs, xs, ys =>
  if f.name ≠ "_" then
   match aPart P f.type xs f.offset, aPart P f.type ys f.offset with
   | some a, some b => match eq f.type a b with
    | some true => aEqFields P eq fs xs ys
    | some false => some false
    | none => none
   | _, _ => none
  else aEqFields P eq fs xs ys
def aEq (P : Program) : Nat → TypeId → Value → Value → Option Bool
 | 0, _, _, _ => none
 | d + 1, t, x, y =>
  match P.underlying t, x, y with
  | some .bool, .bool a, .bool b => some (a == b)
  | some (.int _), .int k a, .int k' b => if k = k' then some (a == b) else none
  | some .string, .string a, .string b => some (a == b)
  | some (.pointer _), .pointer none, .pointer b => some b.isNone
  | some (.pointer _), .pointer (some _), .pointer none => some false
  | some (.interface _), .nilIface, .iface _ _ => some false
  | some (.interface _), .iface _ _, .nilIface => some false
  | some (.struct fields), .agg xs, .agg ys => if P.stoodInHeld t = false then aEqFields P (aEq P d) fields.toList xs ys else none
  | some (.slice _), .slice none _ _, .slice b _ _ => some b.isNone
  | some (.slice _), .slice (some _) _ _, .slice none _ _ => some false
  | some (.func _ _ _), .nilFunc, .nilFunc => some true
  | some (.func _ _ _), .nilFunc, .func _ _ _ => some false
  | some (.func _ _ _), .func _ _ _, .nilFunc => some false
  | _, _, _ => none
def eqDepth : Nat := 20
def aEqTop (P : Program) (t : TypeId) (x y : Value) : Option Bool :=
 match x, y with
 | .nilIface, .nilIface => none
 | .agg _, .agg _ => if P.eqGuardType P.depth t = false then aEq P eqDepth t x y else none
 | _, _ => aEq P eqDepth t x y
def aInt (op : BinOp) (k : IntKind) (a b : Int) : Option Value :=
 match op with
 | .add => some (.int k (k.wrap (a + b)))
 | .sub => some (.int k (k.wrap (a - b)))
 | .mul => some (.int k (k.wrap (a * b)))
 | .quo => if b = 0 then none else some (.int k (k.wrap (a.tdiv b)))
 | .rem => if b = 0 then none else some (.int k (a.tmod b))
 | .and => some (.int k (k.wrap (BitVec.ofInt k.bits a &&& BitVec.ofInt k.bits b).toNat))
 | .or => some (.int k (k.wrap (BitVec.ofInt k.bits a ||| BitVec.ofInt k.bits b).toNat))
 | .eql => some (.bool (a == b))
 | .neq => some (.bool (a != b))
 | .lss => some (.bool (decide (a < b)))
 | .leq => some (.bool (decide (a ≤ b)))
 | .gtr => some (.bool (decide (a > b)))
 | .geq => some (.bool (decide (a ≥ b)))
 | _ => none
def aStr (op : BinOp) (x y : ByteArray) : Option Value :=
 match op with
 | .add => if ((x.size + y.size : Nat) : Int) > IntKind.i64.max then none else some (.string (x ++ y))
 | .eql => some (.bool (x.toList == y.toList))
 | .neq => some (.bool !(x.toList == y.toList))
 | _ => none
def aBin (P : Program) (op : BinOp) (t : TypeId) (x y : Value) : Option Value :=
 match x, y with
 | .int k a, .int k' b =>
  match op with
  | .shl => if b < 0 then none else some (.int k (k.wrap (a * 2 ^ (min b.toNat k.bits))))
  | .shr => if b < 0 then none else some (.int k (a.fdiv (2 ^ (min b.toNat k.bits))))
  | _ => if k = k' then aInt op k a b else none
 | .string a, .string b => aStr op a b
 | x, y =>
  match op with
  | .eql => (aEqTop P t x y).map .bool
  | .neq => (aEqTop P t x y).map fun b => .bool !b
  | _ => none
def aUn (op : UnOp) (x : Value) : Option Value :=
 match op, x with
 | .neg, .int k n => some (.int k (k.wrap (0 - n)))
 | .not, .bool b => some (.bool !b)
 | _, _ => none
def aField (P : Program) (s : TypeId) (f : Nat) (x : Value) : Option Value :=
 match P.underlying s, x with
 | some (.struct fields), .pointer (some a) => (fields[f]?).bind fun fd => (tsize P fd.type).bind fun z => if z = 0 ∨ a.spot ≠ none then none else some (.pointer (some (a.add fd.offset)))
 | _, _ => none
def aIndexAddr (P : Program) (t : TypeId) (x ix : Value) : Option Value :=
 match P.underlying t, x, ix with
 | some (.slice e), .slice (some a) n _, .int _ i => (tsize P e).bind fun s => if 0 ≤ i ∧ i < n ∧ a.spot = none then some (.pointer (some (a.add (i.toNat * s)))) else none
 | some (.array n e), .pointer (some a), .int _ i => (tsize P e).bind fun s => if 0 ≤ i ∧ i < n ∧ a.spot = none then some (.pointer (some (a.add (i.toNat * s)))) else none
 | _, _, _ => none
def aIndex (P : Program) (t : TypeId) (x ix : Value) : Option Value :=
 match P.underlying t, x, ix with
 | some .string, .string s, .int _ i => if 0 ≤ i then (s[i.toNat]?).map fun b => .int .u8 b.toNat else none
 | some (.array n e), .agg cs, .int _ i => (tsize P e).bind fun s => if 0 ≤ i ∧ i < n then aPart P e cs (i.toNat * s) else none
 | _, _, _ => none
def aFieldV (P : Program) (t : TypeId) (f : Nat) (x : Value) : Option Value :=
 match P.underlying t, x with
 | some (.struct fields), .agg cs => (fields[f]?).bind fun fd => aPart P fd.type cs fd.offset
 | _, _ => none
def aBnd (y : Nat) : Value → Option Nat
 | .int _ i => if 0 ≤ i ∧ i ≤ y then some i.toNat else none
 | _ => none
def aLow (h : Nat) (m : Option Nat) : Option Value → Option (Nat × Nat × Option Nat)
 | none => some (0, h, m)
 | some l => (aBnd h l).map fun l => (l, h, m)
def aBounds (n : Nat) (lo hi mx : Option Value) : Option (Nat × Nat × Option Nat) :=
 match mx, hi with
 | none, none => aLow n none lo
 | none, some h => (aBnd n h).bind fun h => aLow h none lo
 | some _, none => none
 | some m, some h => (aBnd n m).bind fun m => (aBnd m h).bind fun h => aLow h (some m) lo
def aSlice (P : Program) (t : TypeId) (x : Value) (lo hi mx : Option Value) : Option Value :=
 match P.underlying t, x with
 | some .string, .string s => if mx.isSome then none else (aBounds s.size lo hi none).map fun b => .string (s.extract b.1 b.2.1)
 | some (.slice e), .slice a n c => (tsize P e).bind fun s => (aBounds n lo hi mx).bind fun b =>
   let len := b.2.1 - b.1
   let cap := match b.2.2 with
    | some m => if m = b.2.1 then len else len + 2
    | none => if c = n ∧ b.2.1 = n then len else len + 2
   match a with
   | none => some (.slice none len cap)
   | some ad => if ad.spot = none then some (.slice (some (ad.add (b.1 * s))) len cap) else none
 | _, _ => none
def aBuild (P : Program) (t : TypeId) (parts : List (Nat × Value)) : Option Value :=
 (tzero P t).bind fun z => if clean z then
  match P.underlying t with
  | some (.struct fields) => (fields.toList.mapM fun f => (tsize P f.type).map fun s => (f.offset, s)).bind fun places => (Instr.fill (fun i => places[i]?) z.cells parts).map .agg
  | some (.array _ e) => (tsize P e).bind fun s => (Instr.fill (fun i => some (i * s, s)) z.cells parts).map .agg
  | _ => none
 else none
def aAssert (P : Program) (x : Value) (asserted : TypeId) (ok : Bool) : Option Value :=
 match P.underlying asserted, x with
 | some (.interface _), _ => none
 | some _, .nilIface => if ok then (tzero P asserted).bind fun z => if clean z then some (.tuple #[z, .bool false]) else none else none
 | some _, .iface t v =>
  if t = asserted then some (if ok then .tuple #[v, .bool true] else v)
  else if ok then (tzero P asserted).bind fun z => if clean z then some (.tuple #[z, .bool false]) else none else none
 | _, _ => none
def aLen (P : Program) (t : TypeId) (x : Value) : Option Value :=
 match P.underlying t, x with
 | some .string, .string s => some (.int .i64 s.size)
 | some (.slice _), .slice _ n _ => some (.int .i64 n)
 | some (.array n _), _ => some (.int .i64 n)
 | _, _ => none
def aMax : Value → List Value → Option Value
 | .int k x, [] => some (.int k x)
 | .int k x, .int k' y :: vs => if k = k' then aMax (.int k (if y > x then y else x)) vs else none
 | _, _ => none
def aMin : Value → List Value → Option Value
 | .int k x, [] => some (.int k x)
 | .int k x, .int k' y :: vs => if k = k' then aMin (.int k (if y < x then y else x)) vs else none
 | _, _ => none
end Go.Proofs.Ytahcngeimlkcgaa.Am
