/- The abstract machine: operations with memory, regions, code, calls. -/
import Derived.Test.YtahcngeimlkcgaaAmA
namespace Go.Proofs.Ytahcngeimlkcgaa.Am
open Go
set_option linter.unusedVariables false
set_option linter.unusedSectionVars false
abbrev Fresh := (Nat → Value) × List Value × Nat
def AH.fresh (h : AH) (f : Fresh) : Value × AH := (f.1 h.next, h.alloc f.2.1 f.2.2)
def aAllocZ (P : Program) (e : TypeId) : Option Fresh :=
 (tzero P e).bind fun z => if clean z then some (fun id => .pointer (some ⟨id, 0, none⟩), z.cells.toList, 0) else none
def aBox (v : Value) : Option Fresh := some (fun id => .pointer (some ⟨id, 0, none⟩), v.cells.toList, 0)
def aBuildSlice (P : Program) (t : TypeId) (len : Nat) (parts : List (Nat × Value)) : Option Fresh :=
 match P.underlying t with
 | some (.slice e) => (tsize P e).bind fun s => (tzero P e).bind fun z =>
  if clean z = true ∧ len * s ≤ 2 ^ 24 ∧ 0 < s then
   (Instr.fill (fun i => some (i * s, s)) ((Array.range (len * s)).map fun i => z.cells[i % z.cells.size]!) parts).map fun cells =>
    (fun id => .slice (some ⟨id, 0, none⟩) len len, cells.toList, s)
  else none
 | _ => none
def aMakeSlice (P : Program) (t : TypeId) (l c : Value) : Option Fresh :=
 match P.underlying t, l, c with
 | some (.slice e), .int _ n, .int _ m => (tsize P e).bind fun s => (tbytes P e).bind fun by_ => (tzero P e).bind fun z =>
  if clean z = true ∧ 0 < s ∧ 0 ≤ n ∧ n = m ∧ by_ * n ≤ 2 ^ 48 ∧ n ≤ 4611686018427387904 then
   some (fun id => .slice (some ⟨id, 0, none⟩) n.toNat n.toNat, ((Array.range (n.toNat * s)).map fun i => z.cells[i % z.cells.size]!).toList, s)
  else none
 | _, _, _ => none
def aFresh (P : Program) (ev : Operand → Value) : Op → Option Fresh
 | .alloc e => aAllocZ P e
 | .box _ x => aBox (ev x)
 | .buildSlice t n ps => aBuildSlice P t n (ps.toList.map fun p => (p.1, ev p.2))
 | .makeSlice t l c => aMakeSlice P t (ev l) (ev c)
 | _ => none
def freshish : Op → Bool
 | .alloc _ | .box .. | .buildSlice .. | .makeSlice .. => true
 | _ => false
def aLoad (P : Program) (t : TypeId) (x : Value) (h : AH) : Option Value :=
 match x with
 | .pointer (some a) => (P.underlying t).bind fun d =>
  if aggD d then (tsize P t).bind fun s => (h.cellsAt a s).map fun cs => .agg cs.toArray else h.load a
 | _ => none
def aStore (P : Program) (t : TypeId) (x v : Value) (h : AH) : Option AH :=
 match x with
 | .pointer (some a) => (tsize P t).bind fun s => if v.cells.size = s then h.store a v.cells.toList else none
 | _ => none
def byteV (b : UInt8) : Value := .int .u8 b.toNat
def bytesOf : List Value → Option (List UInt8)
 | [] => some []
 | .int .u8 n :: vs => (bytesOf vs).map (UInt8.ofNat n.toNat :: ·)
 | _ :: _ => none
def aConvert (P : Program) (src dst : TypeId) (x : Value) (h : AH) : Option (Value × AH) :=
 match P.underlying src, P.underlying dst, x with
 | some _, some (.int k), .int _ n => some (.int k (k.wrap n), h)
 | some _, some .string, .string s => some (.string s, h)
 | some .string, some (.slice e), .string s =>
  match P.underlying e with
  | some (.int .u8) => some (.slice (some ⟨h.next, 0, none⟩) s.size (s.size + 2), h.alloc (s.data.toList.map byteV) 1)
  | _ => none
 | some (.slice _), some (.slice e), .slice (some a) n c =>
  match P.underlying e with
  | some (.int .u8) => if src = dst ∧ 0 < n ∧ ((h.blk a.block).map (·.own)) = some true then some (x, h) else none
  | _ => none
 | some (.slice e), some .string, .slice none _ _ =>
  match P.underlying e with
  | some (.int .u8) => some (.string .empty, h)
  | _ => none
 | some (.slice e), some .string, .slice (some a) n _ =>
  match P.underlying e with
  | some (.int .u8) => if n = 0 then some (.string .empty, h) else (h.cellsAt a n).bind fun cs => (bytesOf cs).map fun bs => (.string ⟨bs.toArray⟩, h)
  | _ => none
 | _, _, _ => none
def aNews (s : Nat) (x : Value) (h : AH) : Option (Nat × List Value) :=
 match x with
 | .slice none n _ => if n = 0 then some (0, []) else none
 | .slice (some a) n _ => (h.cellsAt a (n * s)).map fun cs => (n, cs)
 | .string b => if s = 1 then some (b.size, b.data.toList.map byteV) else none
 | _ => none
def appKind : TypeDesc → Bool
 | .slice _ | .string => true
 | _ => false
def aAppend (P : Program) (t tx : TypeId) (sv x : Value) (h : AH) : Option (Value × AH) :=
 match P.underlying t, P.underlying tx, sv with
 | some (.slice e), some dx, .slice base n c =>
  if appKind dx = true then
  (tsize P e).bind fun s => (tbytes P e).bind fun by_ => (tzero P e).bind fun z => (aNews s x h).bind fun mx =>
  if clean z = true ∧ 0 < s ∧ z.cells.size = s ∧ (n + mx.1) * by_ ≤ 140737488355328 ∧ n + mx.1 ≤ 4611686018427387904 ∧ mx.2.all Value.oneCell' = true then
   if mx.1 = 0 then some (sv, h) else
   match base with
   | none => if n = 0 ∧ c = 0 then some (.slice (some ⟨h.next, 0, none⟩) mx.1 (mx.1 + 1), h.alloc mx.2 s) else none
   | some a =>
    if c = n then (h.cellsAt a (n * s)).bind fun old => some (.slice (some ⟨h.next, 0, none⟩) (n + mx.1) (n + mx.1 + 1), h.alloc (old ++ mx.2) s)
    else if c = n + 1 ∧ a.spot = none then (h.blk a.block).bind fun B =>
     if B.own = true ∧ B.esz = s ∧ a.off + n * s = B.cells.length then
      some (.slice (some ⟨h.next, 0, none⟩) (n + mx.1) (n + mx.1 + 1), (h.put a.block none).alloc (B.cells.drop a.off ++ mx.2) s)
     else none
    else none
  else none
  else none
 | _, _, _ => none
def aCopy (P : Program) (t : TypeId) (d s : Value) (h : AH) : Option (Value × AH) :=
 match P.underlying t, d, s with
 | some (.slice e), .slice db n _, .slice sb m _ => (tsize P e).bind fun z =>
  if Nat.min m n = 0 then some (.int .i64 0, h) else
  match db, sb with
  | some a, some b => (h.cellsAt b (Nat.min m n * z)).bind fun cs => (h.store a cs).map fun h' => (.int .i64 (Nat.min m n), h')
  | _, _ => none
 | _, _, _ => none
abbrev ACallee := FuncId → List Value → AH → Option (Value × AH)
def aBuiltin (P : Program) (b : Builtin) (ts : List TypeId) (args : List Value) (h : AH) : Option (Value × AH) :=
 match b, ts, args with
 | .append, [t, tx], [s, x] => aAppend P t tx s x h
 | .copy, [t, _], [d, s] => aCopy P t d s h
 | .len, t :: _, x :: _ => (aLen P t x).map (·, h)
 | .max, _, x :: vs => (aMax x vs).map (·, h)
 | .min, _, x :: vs => (aMin x vs).map (·, h)
 | _, _, _ => none
def aOp (P : Program) (call : ACallee) (ev : Operand → Value) (op : Op) (h : AH) : Option (Value × AH) :=
 match op with
 | .move x | .assign x => some (ev x, h)
 | .pick c a b => match ev c with | .bool t => some (if t then ev a else ev b, h) | _ => none
 | .alloc e => (aAllocZ P e).map h.fresh
 | .box _ x => (aBox (ev x)).map h.fresh
 | .build t ps => (aBuild P t (ps.toList.map fun p => (p.1, ev p.2))).map (·, h)
 | .buildSlice t n ps => (aBuildSlice P t n (ps.toList.map fun p => (p.1, ev p.2))).map h.fresh
 | .load t a => (aLoad P t (ev a) h).map (·, h)
 | .store t a x => (aStore P t (ev a) (ev x) h).map (undef, ·)
 | .nilCheck x => match ev x with
  | .pointer (some a) => some (.pointer (some a), h)
  | .func (.func f) fi ca => some (.func (.func f) fi ca, h)
  | _ => none
 | .binOp o t x y _ => (aBin P o t (ev x) (ev y)).map (·, h)
 | .unOp o _ x => (aUn o (ev x)).map (·, h)
 | .convert s d x => aConvert P s d (ev x) h
 | .makeInterface t x => match P.underlying t with | some (.interface _) => none | some _ => some (.iface t (ev x), h) | none => none
 | .makeFunc (.func f) first captured => some (.func (.func f) (first.map ev) (captured.map ev), h)
 | .makeSlice t l c => (aMakeSlice P t (ev l) (ev c)).map h.fresh
 | .slice t x lo hi mx => (aSlice P t (ev x) (lo.map ev) (hi.map ev) (mx.map ev)).map (·, h)
 | .fieldAddr s x f => (aField P s f (ev x)).map (·, h)
 | .field t x f => (aFieldV P t f (ev x)).map (·, h)
 | .indexAddr t x i => (aIndexAddr P t (ev x) (ev i)).map (·, h)
 | .index t x i => (aIndex P t (ev x) (ev i)).map (·, h)
 | .typeAssert x _ t ok => (aAssert P (ev x) t ok).map (·, h)
 | .extract x i => match ev x with | .tuple vs => (vs[i]?).map (·, h) | _ => none
 | .call c => match c.callee with
  | .builtin b => aBuiltin P b c.argTypes.toList (c.args.toList.map ev) h
  | .value f => match ev f with
   | .func (.func g) first captured => call g (first.toList ++ c.args.toList.map ev ++ captured.toList) h
   | _ => none
  | .invoke _ _ => none
 | _ => none
def aYield (ops : Array Oper) (e : Env) (j : Nat) : Option Bool :=
 match (ops[j]?).bind (·.dst) with
 | some d => match e.get d with | .bool b => some b | _ => none
 | none => none
def aWanted (ops : Array Oper) (e : Env) (o : Oper) : Bool :=
 match o.guard with
 | none => true
 | some (j, want) => aYield ops e j == some want
def aOps (P : Program) (call : ACallee) (ops : Array Oper) : List Oper → Env → AH → Option (Env × AH)
 | [], e, h => some (e, h)
 | o :: os, e, h =>
  if aWanted ops e o then (aOp P call e.ev o.op h).bind fun r => aOps P call ops os (e.put o.dst r.1) r.2
  else aOps P call ops os (e.put o.dst undef) h
inductive Cls where
 | pure | look | fresh | make
 deriving DecidableEq
def cls (P : Program) : Op → Cls
 | .move _ | .assign _ | .pick .. | .build .. | .nilCheck _ | .binOp .. | .unOp .. | .makeInterface .. | .makeFunc .. | .slice .. | .fieldAddr .. | .field .. | .indexAddr .. | .index ..
 | .typeAssert .. | .extract .. => .pure
 | .load .. => .look
 | .alloc _ | .box .. | .buildSlice .. | .makeSlice .. => .fresh
 | .convert _ d _ => match P.underlying d with | some .string => .look | some (.int _) => .pure | _ => .make
 | .call c => match c.callee with | .builtin .len | .builtin .max | .builtin .min => .pure | _ => .make
 | _ => .make
def aLook (P : Program) (ev : Operand → Value) (op : Op) (h : AH) : Option Value :=
 match op with
 | .load t a => aLoad P t (ev a) h
 | .convert s d x => (aConvert P s d (ev x) h).map (·.1)
 | _ => none
def forceN {α : Type} (m : Nat) (f : Nat → α) : α := match m with
 | 0 => f 0
 | n + 1 => f (n + 1)
theorem forceN_eq {α : Type} (m : Nat) (f : Nat → α) : forceN m f = f m := by cases m <;> rfl
def maskOf (o : Oper) (n : Nat) (acc : List Nat) : Nat :=
 o.after.toList.foldl (fun m e => if Region.binds .any e then Nat.lor (Nat.lor m (Nat.shiftLeft 1 e.on)) (if Nat.blt e.on n then acc.getD (n - 1 - e.on) 0 else 0) else m) 0
def predsAux : List Oper → Nat → List Nat → List Nat
 | [], _, acc => acc.reverse
 | o :: os, n, acc => forceN (maskOf o n acc) fun m => forceN (n + 1) fun n => predsAux os n (m :: acc)
def preds (ops : List Oper) : List Nat := predsAux ops 0 []
def ordered (ps : List Nat) (i j : Nat) : Bool := (ps.getD i 0).testBit j || (ps.getD j 0).testBit i
def sameV : Value → Value → Bool
 | .bool a, .bool b => a == b
 | .int k a, .int l b => decide (k = l) && decide (a = b)
 | .string a, .string b => decide (a.data.toList = b.data.toList)
 | .pointer a, .pointer b => decide (a = b)
 | .slice a n c, .slice b m d => decide (a = b) && decide (n = m) && decide (c = d)
 | .agg as, .agg bs => decide (as.size = bs.size) && (as.toList.zip bs.toList).all fun x => match x.1, x.2 with
  | .bool a, .bool b => a == b
  | .int k a, .int l b => decide (k = l) && decide (a = b)
  | .string a, .string b => decide (a.data.toList = b.data.toList)
  | .pointer a, .pointer b => decide (a = b)
  | .slice a n c, .slice b m d => decide (a = b) && decide (n = m) && decide (c = d)
  | _, _ => false
 | _, _ => false
structure DSt where
 e : Env
 h : AH
 looks : List (Nat × Env × Value)
 effs : List (Nat × AH)
def aDrawOp (P : Program) (call : ACallee) (ops : List Oper) (base i : Nat) (o : Oper) (s : DSt) : Option DSt :=
 match cls P o.op with
 | .pure => (aOp P call s.e.ev o.op s.h).map fun r => { s with e := s.e.put o.dst r.1 }
 | .look => (aLook P s.e.ev o.op s.h).bind fun v =>
  if s.effs.all (fun x => ordered (preds ops) i x.1 || (match aLook P s.e.ev o.op x.2 with | some u => sameV v u | none => false)) then
   some { s with e := s.e.put o.dst v, looks := (i, s.e, v) :: s.looks }
  else none
 | .fresh => (aFresh P s.e.ev o.op).map fun f => { s with e := s.e.put o.dst (f.1 (base + i)), h := { s.h with t := s.h.t.set (base + i) (some ⟨f.2.1, true, f.2.2⟩) } }
 | .make => (aOp P call s.e.ev o.op { s.h with low := s.h.next }).bind fun r =>
  let h' : AH := { r.2 with low := if r.2.low < s.h.low then r.2.low else s.h.low }
  if s.h.next ≤ r.2.low then some { s with e := s.e.put o.dst r.1, h := h' }
  else if s.looks.all (fun x => ordered (preds ops) i x.1 || (match aLook P x.2.1.ev ((ops.getD x.1 default).op) h' with | some u => sameV x.2.2 u | none => false)) then
   some { s with e := s.e.put o.dst r.1, h := h', effs := (i, s.h) :: s.effs }
  else none
def aDraw (P : Program) (call : ACallee) (ops : Array Oper) (base : Nat) : Nat → List Oper → DSt → Option DSt
 | _, [], s => some s
 | i, o :: os, s =>
  if aWanted ops s.e o then (aDrawOp P call ops.toList base i o s).bind fun s' => aDraw P call ops base (i + 1) os s'
  else aDraw P call ops base (i + 1) os { s with e := s.e.put o.dst undef }
def aRegionD (P : Program) (call : ACallee) (ops : Array Oper) (e : Env) (h : AH) : Option (Env × AH) :=
 (aDraw P call ops h.next 0 ops.toList ⟨e, { h with next := h.next + ops.size }, [], []⟩).map fun s => (s.e, s.h)
def madeInOrder (P : Program) (ops : List Oper) : Bool :=
 let ms := (List.range ops.length).filter fun j => cls P (ops.getD j default).op = .make
 ms.all fun i => ms.all fun j => i == j || ordered (preds ops) i j
inductive AEx where
 | normal | exit (id : Nat) | goto (l : Nat) | ret
abbrev ARes := Option (AEx × Env × AH)
def aLoop (body : Env → AH → ARes) : Nat → Env → AH → ARes
 | 0, _, _ => none
 | k + 1, e, h => match body e h with
  | some (.normal, e', h') => aLoop body k e' h'
  | r => r
def aJump (run : Code → Env → AH → ARes) (c : Code) : Nat → Code → Env → AH → ARes
 | 0, _, _, _ => none
 | k + 1, cur, e, h => match run cur e h with
  | some (.goto l, e', h') => match findLabel c l with
   | some rest => aJump run c k rest e' h'
   | none => some (.goto l, e', h')
  | r => r
def aCode (P : Program) (call : ACallee) : Nat → Code → Env → AH → ARes
 | 0, _, _, _ => none
 | k + 1, c, e, h =>
  match c with
  | .skip | .label _ => some (.normal, e, h)
  | .region _ ops false => (aOps P call ops ops.toList e h).map fun r => (.normal, r.1, r.2)
  | .region _ ops true => (aRegionD P call ops e h).map fun r => (.normal, r.1, r.2)
  | .seq a b => match aCode P call k a e h with
   | some (.normal, e', h') => aCode P call k b e' h'
   | r => r
  | .cond c a b => match e.ev c with
   | .bool t => aCode P call k (if t then a else b) e h
   | _ => none
  | .block id c => match aCode P call k c e h with
   | some (.exit i, e', h') => if i = id then some (.normal, e', h') else some (.exit i, e', h')
   | r => r
  | .loop c => aLoop (aCode P call k c) k e h
  | .scope c => aJump (aCode P call k) c k c e h
  | .exit id => some (.exit id, e, h)
  | .goto l => some (.goto l, e, h)
  | .ret => some (.ret, e, h)
  | _ => none
def aResult (P : Program) (e : Env) (h : AH) : ResultVar → Option Value
 | .tmp t => some (e.get t)
 | .cell a t => aLoad P t (e.get a) h
def aResults (P : Program) (rs : List ResultVar) (e : Env) (h : AH) : Option Value :=
 (rs.mapM (aResult P e h)).map fun vs => match vs with | [v] => v | vs => .tuple vs.toArray
def aLeave (r : Bool) (h0 : AH) (v : Value) (h1 : AH) : Value × AH :=
 if r = true ∧ h0.next ≤ h1.low ∧ clean v = true then (v, h0) else (v, { h1 with low := if h1.low < h0.low then h1.low else h0.low })
def scalarTy (P : Program) (t : TypeId) : Bool := match P.underlying t with
 | some .bool | some (.int _) | some .string => true
 | _ => false
def scalarFn (P : Program) (fn : Func) : Bool := Nat.beq fn.nfree 0 && fn.params.toList.all (scalarTy P) && fn.resultTypes.toList.all (scalarTy P)
def aCall (P : Program) (ov : ACallee) : Nat → FuncId → List Value → AH → Option (Value × AH)
 | 0, f, args, h => ov f args h
 | k + 1, f, args, h =>
  match ov f args h with
  | some r => some r
  | none =>
  (P.funcs[f]?).bind fun fn => fn.body.bind fun c =>
  if args.length ≤ fn.ntmps then
   match aCode P (aCall P ov k) k c (Env.ofArgs 0 args .nil) { h with low := h.next } with
   | some (.normal, e, h1) | some (.ret, e, h1) => (aResults P fn.results.toList e h1).map fun v => aLeave (scalarFn P fn) h v h1
   | _ => none
  else none
end Go.Proofs.Ytahcngeimlkcgaa.Am
