/- Printed by a program of this session: Go functions as Lean functions over plain data, and that the calls come to them. -/
import Derived.Test.YtpijjenaadkjdaaSyF
import Derived.Test.YtpijjenaadkjdaaChecked
import Derived.KernelRfl
import Derived.Test.YtpijjenaadkjdaaMA1
namespace Go.Proofs.Ytpijjenaadkjdaa.M
open Go Am Sy
open Sy.Cell (rc)
set_option linter.unusedVariables false
set_option linter.unusedSimpArgs false
set_option maxRecDepth 20000

structure correctorlaw10_Act where
  Kind : Int
  A : Int
  B : Int
  C : Int
  D : Int
  deriving DecidableEq, Inhabited
instance : Cell correctorlaw10_Act where
  size := 5
  rc Z cs x := cs = [.int .i64 x.Kind, .int .i64 x.A, .int .i64 x.B, .int .i64 x.C, .int .i64 x.D]
  len h := by rw [h]; rfl
  mono _ h := h
  one h := by rw [h]; rfl
  pos := by decide
theorem rc_correctorlaw10_Act {Z : Zn} {cs : List Value} {x : correctorlaw10_Act} (h : rc Z cs x) : cs = [.int .i64 x.Kind, .int .i64 x.A, .int .i64 x.B, .int .i64 x.C, .int .i64 x.D] := h

def r5_0 : List COp := [⟨none, some 4, (Go.Op.assign (Go.Operand.const (Go.Value.bool false)))⟩]
def r5_1 : List COp := [⟨none, some 13, (Go.Op.call { callee := (Go.Callee.value (Go.Operand.func 8)), args := #[], argTypes := #[] })⟩,
  ⟨none, some 14, (Go.Op.unOp Go.UnOp.not 4 (Go.Operand.tmp 13))⟩]
def r5_2 : List COp := [⟨none, some 4, (Go.Op.assign (Go.Operand.const (Go.Value.bool false)))⟩]
def r5_3 : List COp := [⟨none, some 15, (Go.Op.move (Go.Operand.tmp 0))⟩,
  ⟨none, some 16, (Go.Op.call { callee := (Go.Callee.value (Go.Operand.func 9)), args := #[(Go.Operand.tmp 15), (Go.Operand.const (Go.Value.int Go.IntKind.i64 40))], argTypes := #[3, 3] })⟩,
  ⟨none, some 17, (Go.Op.binOp Go.BinOp.add 3 (Go.Operand.const (Go.Value.int Go.IntKind.i64 5)) (Go.Operand.tmp 16) 3)⟩,
  ⟨none, some 0, (Go.Op.assign (Go.Operand.tmp 17))⟩]
def r5_4 : List COp := [⟨none, some 19, (Go.Op.move (Go.Operand.tmp 0))⟩,
  ⟨none, some 20, (Go.Op.call { callee := (Go.Callee.value (Go.Operand.func 10)), args := #[(Go.Operand.tmp 19)], argTypes := #[3] })⟩,
  ⟨none, some 21, (Go.Op.call { callee := (Go.Callee.value (Go.Operand.func 14)), args := #[(Go.Operand.tmp 20), (Go.Operand.const (Go.Value.int Go.IntKind.i64 0)), (Go.Operand.const (Go.Value.int Go.IntKind.i64 2)), (Go.Operand.const (Go.Value.int Go.IntKind.i64 0)), (Go.Operand.const (Go.Value.int Go.IntKind.i64 1))], argTypes := #[27, 3, 3, 3, 3] })⟩,
  ⟨none, some 18, (Go.Op.move (Go.Operand.tmp 21))⟩,
  ⟨none, some 22, (Go.Op.extract (Go.Operand.tmp 18) 0)⟩,
  ⟨none, some 23, (Go.Op.extract (Go.Operand.tmp 18) 1)⟩,
  ⟨none, some 5, (Go.Op.alloc 27)⟩,
  ⟨none, none, (Go.Op.store 27 (Go.Operand.tmp 5) (Go.Operand.tmp 22))⟩,
  ⟨none, some 6, (Go.Op.assign (Go.Operand.tmp 23))⟩]
def r5_5 : List COp := [⟨none, some 24, (Go.Op.load 27 (Go.Operand.tmp 5))⟩,
  ⟨none, some 25, (Go.Op.call { callee := (Go.Callee.value (Go.Operand.func 16)), args := #[(Go.Operand.tmp 24), (Go.Operand.const (Go.Value.int Go.IntKind.i64 0)), (Go.Operand.const (Go.Value.int Go.IntKind.i64 0))], argTypes := #[27, 3, 3] })⟩,
  ⟨none, some 7, (Go.Op.alloc 27)⟩,
  ⟨none, none, (Go.Op.store 27 (Go.Operand.tmp 7) (Go.Operand.tmp 25))⟩]
def r5_6 : List COp := [⟨none, some 27, (Go.Op.load 27 (Go.Operand.tmp 5))⟩,
  ⟨none, some 28, (Go.Op.call { callee := (Go.Callee.value (Go.Operand.func 14)), args := #[(Go.Operand.tmp 27), (Go.Operand.const (Go.Value.int Go.IntKind.i64 1)), (Go.Operand.const (Go.Value.int Go.IntKind.i64 3)), (Go.Operand.const (Go.Value.int Go.IntKind.i64 1)), (Go.Operand.const (Go.Value.int Go.IntKind.i64 2))], argTypes := #[27, 3, 3, 3, 3] })⟩,
  ⟨none, some 26, (Go.Op.move (Go.Operand.tmp 28))⟩,
  ⟨none, some 29, (Go.Op.extract (Go.Operand.tmp 26) 0)⟩,
  ⟨none, some 30, (Go.Op.extract (Go.Operand.tmp 26) 1)⟩,
  ⟨none, some 8, (Go.Op.alloc 27)⟩,
  ⟨none, none, (Go.Op.store 27 (Go.Operand.tmp 8) (Go.Operand.tmp 29))⟩,
  ⟨none, some 9, (Go.Op.assign (Go.Operand.tmp 30))⟩]
def r5_7 : List COp := [⟨none, some 32, (Go.Op.load 27 (Go.Operand.tmp 5))⟩,
  ⟨none, some 33, (Go.Op.call { callee := (Go.Callee.value (Go.Operand.func 14)), args := #[(Go.Operand.tmp 32), (Go.Operand.const (Go.Value.int Go.IntKind.i64 1)), (Go.Operand.const (Go.Value.int Go.IntKind.i64 5)), (Go.Operand.const (Go.Value.int Go.IntKind.i64 1)), (Go.Operand.const (Go.Value.int Go.IntKind.i64 3))], argTypes := #[27, 3, 3, 3, 3] })⟩,
  ⟨none, some 31, (Go.Op.move (Go.Operand.tmp 33))⟩,
  ⟨none, some 34, (Go.Op.extract (Go.Operand.tmp 31) 0)⟩,
  ⟨none, some 35, (Go.Op.extract (Go.Operand.tmp 31) 1)⟩,
  ⟨none, some 10, (Go.Op.alloc 27)⟩,
  ⟨none, none, (Go.Op.store 27 (Go.Operand.tmp 10) (Go.Operand.tmp 34))⟩,
  ⟨none, some 11, (Go.Op.assign (Go.Operand.tmp 35))⟩]
def r5_8 : List COp := [⟨none, some 36, (Go.Op.move (Go.Operand.tmp 9))⟩,
  ⟨none, some 37, (Go.Op.binOp Go.BinOp.neq 3 (Go.Operand.tmp 36) (Go.Operand.const (Go.Value.int Go.IntKind.i64 2)) 3)⟩,
  ⟨none, some 38, (Go.Op.move (Go.Operand.tmp 37))⟩,
  ⟨(some (some 38, false)), some 39, (Go.Op.move (Go.Operand.tmp 11))⟩,
  ⟨(some (some 38, false)), some 40, (Go.Op.binOp Go.BinOp.neq 3 (Go.Operand.tmp 39) (Go.Operand.const (Go.Value.int Go.IntKind.i64 2)) 3)⟩,
  ⟨none, some 41, (Go.Op.pick (Go.Operand.tmp 38) (Go.Operand.const (Go.Value.bool true)) (Go.Operand.tmp 40))⟩,
  ⟨none, some 42, (Go.Op.move (Go.Operand.tmp 41))⟩,
  ⟨(some (some 42, false)), some 43, (Go.Op.fieldAddr 27 (Go.Operand.tmp 8) 0)⟩,
  ⟨(some (some 42, false)), some 44, (Go.Op.load 25 (Go.Operand.tmp 43))⟩,
  ⟨(some (some 42, false)), some 45, (Go.Op.call { callee := (Go.Callee.builtin Go.Builtin.len), args := #[(Go.Operand.tmp 44)], argTypes := #[25] })⟩,
  ⟨(some (some 42, false)), some 46, (Go.Op.binOp Go.BinOp.eql 3 (Go.Operand.tmp 45) (Go.Operand.const (Go.Value.int Go.IntKind.i64 0)) 3)⟩,
  ⟨none, some 47, (Go.Op.pick (Go.Operand.tmp 42) (Go.Operand.const (Go.Value.bool true)) (Go.Operand.tmp 46))⟩]
def r5_9 : List COp := [⟨none, some 4, (Go.Op.assign (Go.Operand.const (Go.Value.bool false)))⟩]
def r5_10 : List COp := [⟨none, some 12, (Go.Op.assign (Go.Operand.const (Go.Value.int Go.IntKind.i64 0)))⟩]
def r5_11 : List COp := [⟨none, some 48, (Go.Op.move (Go.Operand.tmp 12))⟩,
  ⟨none, some 49, (Go.Op.move (Go.Operand.tmp 1))⟩,
  ⟨none, some 50, (Go.Op.call { callee := (Go.Callee.builtin Go.Builtin.len), args := #[(Go.Operand.tmp 49)], argTypes := #[22] })⟩,
  ⟨none, some 51, (Go.Op.binOp Go.BinOp.lss 3 (Go.Operand.tmp 48) (Go.Operand.tmp 50) 3)⟩,
  ⟨none, some 52, (Go.Op.move (Go.Operand.tmp 51))⟩,
  ⟨(some (some 52, true)), some 53, (Go.Op.move (Go.Operand.tmp 12))⟩,
  ⟨(some (some 52, true)), some 54, (Go.Op.binOp Go.BinOp.lss 3 (Go.Operand.tmp 53) (Go.Operand.const (Go.Value.int Go.IntKind.i64 10)) 3)⟩,
  ⟨none, some 55, (Go.Op.pick (Go.Operand.tmp 52) (Go.Operand.tmp 54) (Go.Operand.const (Go.Value.bool false)))⟩,
  ⟨none, some 56, (Go.Op.move (Go.Operand.tmp 55))⟩,
  ⟨(some (some 56, true)), some 57, (Go.Op.fieldAddr 27 (Go.Operand.tmp 8) 0)⟩,
  ⟨(some (some 56, true)), some 58, (Go.Op.load 25 (Go.Operand.tmp 57))⟩,
  ⟨(some (some 56, true)), some 59, (Go.Op.call { callee := (Go.Callee.builtin Go.Builtin.len), args := #[(Go.Operand.tmp 58)], argTypes := #[25] })⟩,
  ⟨(some (some 56, true)), some 60, (Go.Op.binOp Go.BinOp.gtr 3 (Go.Operand.tmp 59) (Go.Operand.const (Go.Value.int Go.IntKind.i64 0)) 3)⟩,
  ⟨none, some 61, (Go.Op.pick (Go.Operand.tmp 56) (Go.Operand.tmp 60) (Go.Operand.const (Go.Value.bool false)))⟩]
def r5_12 : List COp := [⟨none, some 62, (Go.Op.move (Go.Operand.tmp 12))⟩,
  ⟨none, some 63, (Go.Op.binOp Go.BinOp.add 3 (Go.Operand.tmp 62) (Go.Operand.const (Go.Value.int Go.IntKind.i64 1)) 3)⟩,
  ⟨none, some 12, (Go.Op.assign (Go.Operand.tmp 63))⟩]
def r5_13 : List COpD := [⟨none, some 65, (Go.Op.load 27 (Go.Operand.tmp 8)), .look, false, false⟩,
  ⟨none, some 66, (Go.Op.move (Go.Operand.tmp 1)), .pure, false, true⟩,
  ⟨none, some 67, (Go.Op.move (Go.Operand.tmp 12)), .pure, false, true⟩,
  ⟨none, some 68, (Go.Op.indexAddr 22 (Go.Operand.tmp 66) (Go.Operand.tmp 67)), .pure, false, true⟩,
  ⟨none, some 69, (Go.Op.fieldAddr 32 (Go.Operand.tmp 68) 1), .pure, false, true⟩,
  ⟨none, some 70, (Go.Op.load 3 (Go.Operand.tmp 69)), .look, false, true⟩,
  ⟨none, some 71, (Go.Op.fieldAddr 27 (Go.Operand.tmp 8) 0), .pure, false, true⟩,
  ⟨none, some 72, (Go.Op.load 25 (Go.Operand.tmp 71)), .look, false, true⟩,
  ⟨none, some 73, (Go.Op.call { callee := (Go.Callee.builtin Go.Builtin.len), args := #[(Go.Operand.tmp 72)], argTypes := #[25] }), .pure, false, true⟩,
  ⟨none, some 74, (Go.Op.call { callee := (Go.Callee.value (Go.Operand.func 9)), args := #[(Go.Operand.tmp 70), (Go.Operand.tmp 73)], argTypes := #[3, 3] }), .make, false, false⟩,
  ⟨none, some 75, (Go.Op.move (Go.Operand.tmp 1)), .pure, false, false⟩,
  ⟨none, some 76, (Go.Op.move (Go.Operand.tmp 12)), .pure, false, false⟩,
  ⟨none, some 77, (Go.Op.indexAddr 22 (Go.Operand.tmp 75) (Go.Operand.tmp 76)), .pure, false, false⟩,
  ⟨none, some 78, (Go.Op.fieldAddr 32 (Go.Operand.tmp 77) 3), .pure, false, false⟩,
  ⟨none, some 79, (Go.Op.load 3 (Go.Operand.tmp 78)), .look, false, false⟩,
  ⟨none, some 80, (Go.Op.move (Go.Operand.tmp 0)), .pure, false, false⟩,
  ⟨none, some 81, (Go.Op.call { callee := (Go.Callee.value (Go.Operand.func 9)), args := #[(Go.Operand.tmp 79), (Go.Operand.tmp 80)], argTypes := #[3, 3] }), .make, false, false⟩,
  ⟨none, some 82, (Go.Op.move (Go.Operand.tmp 1)), .pure, false, false⟩,
  ⟨none, some 83, (Go.Op.move (Go.Operand.tmp 12)), .pure, false, false⟩,
  ⟨none, some 84, (Go.Op.indexAddr 22 (Go.Operand.tmp 82) (Go.Operand.tmp 83)), .pure, false, false⟩,
  ⟨none, some 85, (Go.Op.fieldAddr 32 (Go.Operand.tmp 84) 3), .pure, false, false⟩,
  ⟨none, some 86, (Go.Op.load 3 (Go.Operand.tmp 85)), .look, false, false⟩,
  ⟨none, some 87, (Go.Op.move (Go.Operand.tmp 0)), .pure, false, false⟩,
  ⟨none, some 88, (Go.Op.call { callee := (Go.Callee.value (Go.Operand.func 9)), args := #[(Go.Operand.tmp 86), (Go.Operand.tmp 87)], argTypes := #[3, 3] }), .make, false, false⟩,
  ⟨none, some 89, (Go.Op.call { callee := (Go.Callee.value (Go.Operand.func 14)), args := #[(Go.Operand.tmp 65), (Go.Operand.tmp 74), (Go.Operand.const (Go.Value.int Go.IntKind.i64 7)), (Go.Operand.tmp 81), (Go.Operand.tmp 88)], argTypes := #[27, 3, 3, 3, 3] }), .make, true, false⟩,
  ⟨none, some 64, (Go.Op.move (Go.Operand.tmp 89)), .pure, true, true⟩,
  ⟨none, some 90, (Go.Op.extract (Go.Operand.tmp 64) 0), .pure, true, true⟩,
  ⟨none, some 91, (Go.Op.extract (Go.Operand.tmp 64) 1), .pure, true, false⟩,
  ⟨none, none, (Go.Op.store 27 (Go.Operand.tmp 8) (Go.Operand.tmp 90)), .make, true, false⟩]
def r5_14 : List COp := [⟨none, some 92, (Go.Op.move (Go.Operand.tmp 9))⟩,
  ⟨none, some 93, (Go.Op.binOp Go.BinOp.eql 3 (Go.Operand.tmp 92) (Go.Operand.const (Go.Value.int Go.IntKind.i64 2)) 3)⟩,
  ⟨none, some 94, (Go.Op.move (Go.Operand.tmp 93))⟩,
  ⟨(some (some 94, true)), some 95, (Go.Op.move (Go.Operand.tmp 11))⟩,
  ⟨(some (some 94, true)), some 96, (Go.Op.binOp Go.BinOp.eql 3 (Go.Operand.tmp 95) (Go.Operand.const (Go.Value.int Go.IntKind.i64 2)) 3)⟩,
  ⟨none, some 97, (Go.Op.pick (Go.Operand.tmp 94) (Go.Operand.tmp 96) (Go.Operand.const (Go.Value.bool false)))⟩,
  ⟨none, some 98, (Go.Op.move (Go.Operand.tmp 97))⟩,
  ⟨(some (some 98, true)), some 99, (Go.Op.load 27 (Go.Operand.tmp 5))⟩,
  ⟨(some (some 98, true)), some 100, (Go.Op.load 27 (Go.Operand.tmp 7))⟩,
  ⟨(some (some 98, true)), some 101, (Go.Op.call { callee := (Go.Callee.value (Go.Operand.func 18)), args := #[(Go.Operand.tmp 99), (Go.Operand.tmp 100)], argTypes := #[27, 27] })⟩,
  ⟨none, some 102, (Go.Op.pick (Go.Operand.tmp 98) (Go.Operand.tmp 101) (Go.Operand.const (Go.Value.bool false)))⟩,
  ⟨none, some 103, (Go.Op.move (Go.Operand.tmp 102))⟩,
  ⟨(some (some 103, true)), some 104, (Go.Op.fieldAddr 27 (Go.Operand.tmp 10) 0)⟩,
  ⟨(some (some 103, true)), some 105, (Go.Op.load 25 (Go.Operand.tmp 104))⟩,
  ⟨(some (some 103, true)), some 106, (Go.Op.call { callee := (Go.Callee.builtin Go.Builtin.len), args := #[(Go.Operand.tmp 105)], argTypes := #[25] })⟩,
  ⟨(some (some 103, true)), some 107, (Go.Op.binOp Go.BinOp.eql 3 (Go.Operand.tmp 106) (Go.Operand.const (Go.Value.int Go.IntKind.i64 3)) 3)⟩,
  ⟨none, some 108, (Go.Op.pick (Go.Operand.tmp 103) (Go.Operand.tmp 107) (Go.Operand.const (Go.Value.bool false)))⟩,
  ⟨none, some 109, (Go.Op.move (Go.Operand.tmp 108))⟩,
  ⟨(some (some 109, true)), some 110, (Go.Op.fieldAddr 27 (Go.Operand.tmp 10) 0)⟩,
  ⟨(some (some 109, true)), some 111, (Go.Op.load 25 (Go.Operand.tmp 110))⟩,
  ⟨(some (some 109, true)), some 112, (Go.Op.indexAddr 25 (Go.Operand.tmp 111) (Go.Operand.const (Go.Value.int Go.IntKind.i64 2)))⟩,
  ⟨(some (some 109, true)), some 113, (Go.Op.fieldAddr 46 (Go.Operand.tmp 112) 0)⟩,
  ⟨(some (some 109, true)), some 114, (Go.Op.load 3 (Go.Operand.tmp 113))⟩,
  ⟨(some (some 109, true)), some 115, (Go.Op.binOp Go.BinOp.eql 3 (Go.Operand.tmp 114) (Go.Operand.const (Go.Value.int Go.IntKind.i64 5)) 3)⟩,
  ⟨none, some 116, (Go.Op.pick (Go.Operand.tmp 109) (Go.Operand.tmp 115) (Go.Operand.const (Go.Value.bool false)))⟩,
  ⟨none, some 117, (Go.Op.move (Go.Operand.tmp 116))⟩,
  ⟨(some (some 117, true)), some 118, (Go.Op.fieldAddr 27 (Go.Operand.tmp 10) 0)⟩,
  ⟨(some (some 117, true)), some 119, (Go.Op.load 25 (Go.Operand.tmp 118))⟩,
  ⟨(some (some 117, true)), some 120, (Go.Op.indexAddr 25 (Go.Operand.tmp 119) (Go.Operand.const (Go.Value.int Go.IntKind.i64 2)))⟩,
  ⟨(some (some 117, true)), some 121, (Go.Op.fieldAddr 46 (Go.Operand.tmp 120) 2)⟩,
  ⟨(some (some 117, true)), some 122, (Go.Op.load 3 (Go.Operand.tmp 121))⟩,
  ⟨(some (some 117, true)), some 123, (Go.Op.binOp Go.BinOp.eql 3 (Go.Operand.tmp 122) (Go.Operand.const (Go.Value.int Go.IntKind.i64 3)) 3)⟩,
  ⟨none, some 124, (Go.Op.pick (Go.Operand.tmp 117) (Go.Operand.tmp 123) (Go.Operand.const (Go.Value.bool false)))⟩,
  ⟨none, some 4, (Go.Op.assign (Go.Operand.tmp 124))⟩]
def correctorlaw10_ArenaTwo_l0 (F : Nat) (a0 : Int) (a1 : List correctorlaw10_Act) : Nat → Int → (List api_Node) → (List api_Node) → (List api_Node) → Int → (List api_Node) → Int → Int → Option ((List api_Node) × (List api_Node) × Int × (List api_Node) × Int)
  | 0, _, _, _, _, _, _, _, _ => none
  | n + 1, x49841, x49843, x49847, x49852, x49856, x49858, x49862, x49863 =>
    if x49863 < (a1.length : Int) then
      if x49863 < (10 : Int) then
        if (0 : Int) < (x49852.length : Int) then
          if 0 ≤ x49863 ∧ x49863 < (a1.length : Int) then
            (a1[x49863.toNat]?).bind fun x49969 =>
            (correctorlaw10_within F x49969.A (x49852.length : Int)).bind fun r49975 =>
            if 0 ≤ x49863 ∧ x49863 < (a1.length : Int) then
              (a1[x49863.toNat]?).bind fun x49986 =>
              (correctorlaw10_within F x49986.C x49841).bind fun r49994 =>
              if 0 ≤ x49863 ∧ x49863 < (a1.length : Int) then
                (a1[x49863.toNat]?).bind fun x50005 =>
                (correctorlaw10_within F x50005.C x49841).bind fun r50013 =>
                (arena_Add F (⟨x49852⟩ : arena_Tree) r49975 7 r49994 r50013).bind fun r50027 =>
                correctorlaw10_ArenaTwo_l0 F a0 a1 n x49841 x49843 x49847 r50027.1.Nodes x49856 x49858 x49862 (w64 (x49863 + 1))
              else none
            else none
          else none
        else
          some (x49843, x49847, x49856, x49858, x49862)
      else
        some (x49843, x49847, x49856, x49858, x49862)
    else
      some (x49843, x49847, x49856, x49858, x49862)
def correctorlaw10_ArenaTwo (F : Nat) (a0 : Int) (a1 : List correctorlaw10_Act) : Option Bool :=
  (correctorlaw10_known F).bind fun r49282 =>
  if r49282 = true then
    (correctorlaw10_within F a0 40).bind fun r49290 =>
    (arena_New F (w64 (5 + r49290))).bind fun r49297 =>
    (arena_Add F r49297 0 2 0 1).bind fun r49315 =>
    (arena_Grow F r49315.1 0 0).bind fun r49338 =>
    (arena_Add F r49315.1 1 3 1 2).bind fun r49357 =>
    (arena_Add F r49315.1 1 5 1 3).bind fun r49376 =>
    if r49357.2 = (2 : Int) then
      if r49376.2 = (2 : Int) then
        if (r49357.1.Nodes.length : Int) = (0 : Int) then
          some false
        else
          ((correctorlaw10_ArenaTwo_l0 F a0 a1 F (w64 (5 + r49290)) r49315.1.Nodes r49338.Nodes r49357.1.Nodes r49357.2 r49376.1.Nodes r49376.2 0) : Option ((List api_Node) × (List api_Node) × Int × (List api_Node) × Int)).bind fun o => match o with
            | (x50065, x50069, x50073, x50075, x50079) => if x50073 = (2 : Int) then
              if x50079 = (2 : Int) then
                (arena_Same F (⟨x50065⟩ : arena_Tree) (⟨x50069⟩ : arena_Tree)).bind fun r50123 =>
                if r50123 = true then
                  if (x50075.length : Int) = (3 : Int) then
                    if 0 ≤ (2 : Int) ∧ (2 : Int) < (x50075.length : Int) then
                      (x50075[(2 : Int).toNat]?).bind fun x50133 =>
                      if x50133.Kind = (5 : Int) then
                        if 0 ≤ (2 : Int) ∧ (2 : Int) < (x50075.length : Int) then
                          (x50075[(2 : Int).toNat]?).bind fun x50143 =>
                          if x50143.To = (3 : Int) then
                            some true
                          else
                            some false
                        else none
                      else
                        some false
                    else none
                  else
                    some false
                else
                  some false
              else
                some false
            else
              some false
      else
        some false
    else
      some false
  else
    some false
theorem correctorlaw10_ArenaTwo_ok (F : Nat) {h : AH} {Z : Zn} {a0 : Int} {a1 : List correctorlaw10_Act} {v48588 : Value} (hI : Inv Z h) (q48587 : RS (α := correctorlaw10_Act) Z v48588 a1) {r : Bool} (hm : correctorlaw10_ArenaTwo F a0 a1 = some r) :
    ∃ v h', callI Go.Proofs.Try.prog 5 [.int .i64 a0, v48588] h = some (v, h') ∧ St h [] Z (0, 0) Z h' [] ∧ v = .bool r := by
  refine fn_plain (Q := fun v => v = .bool r) Go.Proofs.Try.func5 rfl rfl hI ?_
  intro hs hS
  unfold correctorlaw10_ArenaTwo at hm
  refine W_seq (by kernel_rfl) ?_
  refine W_region (R := r5_0) (by kernel_rfl) ?_
  refine r_run 1 (l' := [(4, .bool false), (0, .int .i64 a0), (1, v48588)]) (by kernel_rfl) ?_
  refine r_forget [0, 1] (l' := [(0, .int .i64 a0), (1, v48588)]) (by kernel_rfl) ?_
  refine r_end rfl ?_
  refine W_seq (by kernel_rfl) ?_
  refine W_seq (by kernel_rfl) ?_
  refine W_region (R := r5_1) (by kernel_rfl) ?_
  obtain ⟨r49282, hx49283, hm⟩ := obind hm
  obtain ⟨v49284, h49285, hcl49286, hSc49287, rfl⟩ := correctorlaw10_known_ok F hS.inv  hx49283
  have hS49288 := St.call (A := []) (B := []) hS hSc49287
  replace hS49288 : St _ _ _ _ _ _ [] := hS49288
  refine r_step rfl trivial (o_call hcl49286 rfl rfl rfl) ?_
  rcases ifs hm with ⟨hp49289, hm⟩ | ⟨hp49289, hm⟩
  · refine r_setb (t := 13) rfl hp49289 ?_
    refine r_run 1 (l' := [(14, .bool false), (13, .bool true), (13, .bool r49282), (0, .int .i64 a0), (1, v48588)]) (by kernel_rfl) ?_
    refine r_forget [14, 0, 1] (l' := [(14, .bool false), (0, .int .i64 a0), (1, v48588)]) (by kernel_rfl) ?_
    refine r_end rfl ?_
    refine W_condF (x := .tmp 14) (by kernel_rfl) rfl rfl ?_
    refine W_skip (by kernel_rfl) ?_
    refine W_seq (by kernel_rfl) ?_
    refine W_region (R := r5_3) (by kernel_rfl) ?_
    refine r_run 1 (l' := [(15, .int .i64 a0), (14, .bool false), (0, .int .i64 a0), (1, v48588)]) (by kernel_rfl) ?_
    obtain ⟨r49290, hx49291, hm⟩ := obind hm
    obtain ⟨v49292, h49293, hcl49294, hSc49295, rfl⟩ := correctorlaw10_within_ok F hS49288.inv  hx49291
    have hS49296 := St.call (A := []) (B := []) hS49288 hSc49295
    replace hS49296 : St _ _ _ _ _ _ [] := hS49296
    refine r_step rfl trivial (o_call hcl49294 rfl rfl rfl) ?_
    refine r_run 2 (l' := [(0, .int .i64 (w64 (5 + r49290))), (17, .int .i64 (w64 (5 + r49290))), (16, .int .i64 r49290), (15, .int .i64 a0), (14, .bool false), (0, .int .i64 a0), (1, v48588)]) (by kernel_rfl) ?_
    refine r_forget [0, 1] (l' := [(0, .int .i64 (w64 (5 + r49290))), (1, v48588)]) (by kernel_rfl) ?_
    refine r_end rfl ?_
    refine W_seq (by kernel_rfl) ?_
    refine W_region (R := r5_4) (by kernel_rfl) ?_
    refine r_run 1 (l' := [(19, .int .i64 (w64 (5 + r49290))), (0, .int .i64 (w64 (5 + r49290))), (1, v48588)]) (by kernel_rfl) ?_
    obtain ⟨r49297, hx49298, hm⟩ := obind hm
    have hSr49304 : St _ _ _ _ _ _ ([] ++ []) := hS49296
    obtain ⟨v49299, h49300, Z49305, A49307, hcl49301, hSc49302, v49309, c49310, rfl, rfl, q49308⟩ := arena_New_ok F hSr49304.preL  hx49298
    have hS49303 := hSr49304.call hSc49302
    have hZ49306 := hSc49302.zle
    replace hS49303 : St _ _ _ _ _ _ [.gs v49309 c49310 (csz api_Node)] := hS49303
    refine r_step rfl trivial (o_call hcl49301 rfl rfl rfl) ?_
    obtain ⟨Z49311, hZ49312, q49313, hS49314⟩ := (hS49303.front 0 rfl).freeze q49308
    replace hS49314 : St _ _ _ _ _ _ [] := hS49314
    obtain ⟨r49315, hx49316, hm⟩ := obind hm
    have hSr49322 : St _ _ _ _ _ _ ([] ++ []) := hS49314
    obtain ⟨v49317, h49318, Z49323, A49325, hcl49319, hSc49320, v49327, c49328, rfl, rfl, q49326⟩ := arena_Add_ok F hSr49322.preL q49313 hx49316
    have hS49321 := hSr49322.call hSc49320
    have hZ49324 := hSc49320.zle
    replace hS49321 : St _ _ _ _ _ _ [.gs v49327 c49328 (csz api_Node)] := hS49321
    refine r_step rfl trivial (o_call hcl49319 rfl rfl rfl) ?_
    refine r_run 3 (l' := [(23, .int .i64 r49315.2), (22, .agg #[v49327]), (18, .tuple #[.agg #[v49327], .int .i64 r49315.2]), (21, .tuple #[.agg #[v49327], .int .i64 r49315.2]), (20, .agg #[v49309]), (19, .int .i64 (w64 (5 + r49290))), (0, .int .i64 (w64 (5 + r49290))), (1, v48588)]) (by kernel_rfl) ?_
    refine r_blk rfl trivial (o_alloc (cs := [.slice none 0 0]) (by kernel_rfl)) hS49321 ?_
    intro b49329 h49330 hS49331
    refine r_ex1 rfl trivial (o_stb (vs := [v49327]) (cells' := [v49327]) (L' := [.blk b49329 [v49327], .gs v49327 c49328 (csz api_Node)]) hS49331 (i := 0) rfl rfl rfl rfl (by kernel_rfl) (one_cons (hS49331.gone1 (i := 1) rfl) one_nil) rfl rfl rfl) ?_
    intro h49332 hS49333
    refine r_run 1 (l' := [(6, .int .i64 r49315.2), (5, .pointer (some ⟨b49329, 0, none⟩)), (23, .int .i64 r49315.2), (22, .agg #[v49327]), (18, .tuple #[.agg #[v49327], .int .i64 r49315.2]), (21, .tuple #[.agg #[v49327], .int .i64 r49315.2]), (20, .agg #[v49309]), (19, .int .i64 (w64 (5 + r49290))), (0, .int .i64 (w64 (5 + r49290))), (1, v48588)]) (by kernel_rfl) ?_
    refine r_forget [5, 0, 1] (l' := [(5, .pointer (some ⟨b49329, 0, none⟩)), (0, .int .i64 (w64 (5 + r49290))), (1, v48588)]) (by kernel_rfl) ?_
    refine r_end rfl ?_
    refine W_seq (by kernel_rfl) ?_
    refine W_region (R := r5_5) (by kernel_rfl) ?_
    refine r_step rfl trivial (o_ldb (v := .agg #[v49327]) hS49333 (i := 0) rfl rfl (by kernel_rfl)) ?_
    obtain ⟨Z49334, hZ49335, q49336, hS49337⟩ := (hS49333.front 1 rfl).freeze q49326
    replace hS49337 : St _ _ _ _ _ _ [.blk b49329 [v49327]] := hS49337
    obtain ⟨r49338, hx49339, hm⟩ := obind hm
    have hSr49345 : St _ _ _ _ _ _ ([] ++ [.blk b49329 [v49327]]) := hS49337
    obtain ⟨v49340, h49341, Z49346, A49348, hcl49342, hSc49343, v49350, c49351, rfl, rfl, q49349⟩ := arena_Grow_ok F hSr49345.preL q49336 hx49339
    have hS49344 := hSr49345.call hSc49343
    have hZ49347 := hSc49343.zle
    replace hS49344 : St _ _ _ _ _ _ [.gs v49350 c49351 (csz api_Node), .blk b49329 [v49327]] := hS49344
    refine r_step rfl trivial (o_call hcl49342 rfl rfl rfl) ?_
    refine r_blk rfl trivial (o_alloc (cs := [.slice none 0 0]) (by kernel_rfl)) hS49344 ?_
    intro b49352 h49353 hS49354
    refine r_ex1 rfl trivial (o_stb (vs := [v49350]) (cells' := [v49350]) (L' := [.blk b49352 [v49350], .gs v49350 c49351 (csz api_Node), .blk b49329 [v49327]]) hS49354 (i := 0) rfl rfl rfl rfl (by kernel_rfl) (one_cons (hS49354.gone1 (i := 1) rfl) one_nil) rfl rfl rfl) ?_
    intro h49355 hS49356
    refine r_forget [7, 5, 0, 1] (l' := [(7, .pointer (some ⟨b49352, 0, none⟩)), (5, .pointer (some ⟨b49329, 0, none⟩)), (0, .int .i64 (w64 (5 + r49290))), (1, v48588)]) (by kernel_rfl) ?_
    refine r_end rfl ?_
    refine W_seq (by kernel_rfl) ?_
    refine W_region (R := r5_6) (by kernel_rfl) ?_
    refine r_step rfl trivial (o_ldb (v := .agg #[v49327]) hS49356 (i := 2) rfl rfl (by kernel_rfl)) ?_
    obtain ⟨r49357, hx49358, hm⟩ := obind hm
    have hSr49364 : St _ _ _ _ _ _ ([] ++ [.blk b49352 [v49350], .gs v49350 c49351 (csz api_Node), .blk b49329 [v49327]]) := hS49356
    obtain ⟨v49359, h49360, Z49365, A49367, hcl49361, hSc49362, v49369, c49370, rfl, rfl, q49368⟩ := arena_Add_ok F hSr49364.preL (q49336.mono hZ49347) hx49358
    have hS49363 := hSr49364.call hSc49362
    have hZ49366 := hSc49362.zle
    replace hS49363 : St _ _ _ _ _ _ [.gs v49369 c49370 (csz api_Node), .blk b49352 [v49350], .gs v49350 c49351 (csz api_Node), .blk b49329 [v49327]] := hS49363
    refine r_step rfl trivial (o_call hcl49361 rfl rfl rfl) ?_
    refine r_run 3 (l' := [(30, .int .i64 r49357.2), (29, .agg #[v49369]), (26, .tuple #[.agg #[v49369], .int .i64 r49357.2]), (28, .tuple #[.agg #[v49369], .int .i64 r49357.2]), (27, .agg #[v49327]), (7, .pointer (some ⟨b49352, 0, none⟩)), (5, .pointer (some ⟨b49329, 0, none⟩)), (0, .int .i64 (w64 (5 + r49290))), (1, v48588)]) (by kernel_rfl) ?_
    refine r_blk rfl trivial (o_alloc (cs := [.slice none 0 0]) (by kernel_rfl)) hS49363 ?_
    intro b49371 h49372 hS49373
    refine r_ex1 rfl trivial (o_stb (vs := [v49369]) (cells' := [v49369]) (L' := [.blk b49371 [v49369], .gs v49369 c49370 (csz api_Node), .blk b49352 [v49350], .gs v49350 c49351 (csz api_Node), .blk b49329 [v49327]]) hS49373 (i := 0) rfl rfl rfl rfl (by kernel_rfl) (one_cons (hS49373.gone1 (i := 1) rfl) one_nil) rfl rfl rfl) ?_
    intro h49374 hS49375
    refine r_run 1 (l' := [(9, .int .i64 r49357.2), (8, .pointer (some ⟨b49371, 0, none⟩)), (30, .int .i64 r49357.2), (29, .agg #[v49369]), (26, .tuple #[.agg #[v49369], .int .i64 r49357.2]), (28, .tuple #[.agg #[v49369], .int .i64 r49357.2]), (27, .agg #[v49327]), (7, .pointer (some ⟨b49352, 0, none⟩)), (5, .pointer (some ⟨b49329, 0, none⟩)), (0, .int .i64 (w64 (5 + r49290))), (1, v48588)]) (by kernel_rfl) ?_
    refine r_forget [9, 8, 7, 5, 0, 1] (l' := [(9, .int .i64 r49357.2), (8, .pointer (some ⟨b49371, 0, none⟩)), (7, .pointer (some ⟨b49352, 0, none⟩)), (5, .pointer (some ⟨b49329, 0, none⟩)), (0, .int .i64 (w64 (5 + r49290))), (1, v48588)]) (by kernel_rfl) ?_
    refine r_end rfl ?_
    refine W_seq (by kernel_rfl) ?_
    refine W_region (R := r5_7) (by kernel_rfl) ?_
    refine r_step rfl trivial (o_ldb (v := .agg #[v49327]) hS49375 (i := 4) rfl rfl (by kernel_rfl)) ?_
    obtain ⟨r49376, hx49377, hm⟩ := obind hm
    have hSr49383 : St _ _ _ _ _ _ ([] ++ [.blk b49371 [v49369], .gs v49369 c49370 (csz api_Node), .blk b49352 [v49350], .gs v49350 c49351 (csz api_Node), .blk b49329 [v49327]]) := hS49375
    obtain ⟨v49378, h49379, Z49384, A49386, hcl49380, hSc49381, v49388, c49389, rfl, rfl, q49387⟩ := arena_Add_ok F hSr49383.preL (q49336.mono (hZ49347.trans hZ49366)) hx49377
    have hS49382 := hSr49383.call hSc49381
    have hZ49385 := hSc49381.zle
    replace hS49382 : St _ _ _ _ _ _ [.gs v49388 c49389 (csz api_Node), .blk b49371 [v49369], .gs v49369 c49370 (csz api_Node), .blk b49352 [v49350], .gs v49350 c49351 (csz api_Node), .blk b49329 [v49327]] := hS49382
    refine r_step rfl trivial (o_call hcl49380 rfl rfl rfl) ?_
    refine r_run 3 (l' := [(35, .int .i64 r49376.2), (34, .agg #[v49388]), (31, .tuple #[.agg #[v49388], .int .i64 r49376.2]), (33, .tuple #[.agg #[v49388], .int .i64 r49376.2]), (32, .agg #[v49327]), (9, .int .i64 r49357.2), (8, .pointer (some ⟨b49371, 0, none⟩)), (7, .pointer (some ⟨b49352, 0, none⟩)), (5, .pointer (some ⟨b49329, 0, none⟩)), (0, .int .i64 (w64 (5 + r49290))), (1, v48588)]) (by kernel_rfl) ?_
    refine r_blk rfl trivial (o_alloc (cs := [.slice none 0 0]) (by kernel_rfl)) hS49382 ?_
    intro b49390 h49391 hS49392
    refine r_ex1 rfl trivial (o_stb (vs := [v49388]) (cells' := [v49388]) (L' := [.blk b49390 [v49388], .gs v49388 c49389 (csz api_Node), .blk b49371 [v49369], .gs v49369 c49370 (csz api_Node), .blk b49352 [v49350], .gs v49350 c49351 (csz api_Node), .blk b49329 [v49327]]) hS49392 (i := 0) rfl rfl rfl rfl (by kernel_rfl) (one_cons (hS49392.gone1 (i := 1) rfl) one_nil) rfl rfl rfl) ?_
    intro h49393 hS49394
    refine r_run 1 (l' := [(11, .int .i64 r49376.2), (10, .pointer (some ⟨b49390, 0, none⟩)), (35, .int .i64 r49376.2), (34, .agg #[v49388]), (31, .tuple #[.agg #[v49388], .int .i64 r49376.2]), (33, .tuple #[.agg #[v49388], .int .i64 r49376.2]), (32, .agg #[v49327]), (9, .int .i64 r49357.2), (8, .pointer (some ⟨b49371, 0, none⟩)), (7, .pointer (some ⟨b49352, 0, none⟩)), (5, .pointer (some ⟨b49329, 0, none⟩)), (0, .int .i64 (w64 (5 + r49290))), (1, v48588)]) (by kernel_rfl) ?_
    refine r_forget [11, 10, 9, 8, 7, 5, 0, 1] (l' := [(11, .int .i64 r49376.2), (10, .pointer (some ⟨b49390, 0, none⟩)), (9, .int .i64 r49357.2), (8, .pointer (some ⟨b49371, 0, none⟩)), (7, .pointer (some ⟨b49352, 0, none⟩)), (5, .pointer (some ⟨b49329, 0, none⟩)), (0, .int .i64 (w64 (5 + r49290))), (1, v48588)]) (by kernel_rfl) ?_
    refine r_end rfl ?_
    refine W_seq (by kernel_rfl) ?_
    refine W_seq (by kernel_rfl) ?_
    refine W_region (R := r5_8) (by kernel_rfl) ?_
    refine r_run 1 (l' := [(36, .int .i64 r49357.2), (11, .int .i64 r49376.2), (10, .pointer (some ⟨b49390, 0, none⟩)), (9, .int .i64 r49357.2), (8, .pointer (some ⟨b49371, 0, none⟩)), (7, .pointer (some ⟨b49352, 0, none⟩)), (5, .pointer (some ⟨b49329, 0, none⟩)), (0, .int .i64 (w64 (5 + r49290))), (1, v48588)]) (by kernel_rfl) ?_
    rcases ifs hm with ⟨hp49404, hm⟩ | ⟨hp49404, hm⟩
    · refine r_step rfl trivial (o_cmp rfl rfl (c_neq_F hp49404)) ?_
      refine r_run 2 (l' := [(39, .int .i64 r49376.2), (38, .bool false), (37, .bool false), (36, .int .i64 r49357.2), (11, .int .i64 r49376.2), (10, .pointer (some ⟨b49390, 0, none⟩)), (9, .int .i64 r49357.2), (8, .pointer (some ⟨b49371, 0, none⟩)), (7, .pointer (some ⟨b49352, 0, none⟩)), (5, .pointer (some ⟨b49329, 0, none⟩)), (0, .int .i64 (w64 (5 + r49290))), (1, v48588)]) (by kernel_rfl) ?_
      rcases ifs hm with ⟨hp49405, hm⟩ | ⟨hp49405, hm⟩
      · refine r_step rfl rfl (o_cmp rfl rfl (c_neq_F hp49405)) ?_
        refine r_run 3 (l' := [(43, .pointer (some ⟨b49371, 0, none⟩)), (42, .bool false), (41, .bool false), (40, .bool false), (39, .int .i64 r49376.2), (38, .bool false), (37, .bool false), (36, .int .i64 r49357.2), (11, .int .i64 r49376.2), (10, .pointer (some ⟨b49390, 0, none⟩)), (9, .int .i64 r49357.2), (8, .pointer (some ⟨b49371, 0, none⟩)), (7, .pointer (some ⟨b49352, 0, none⟩)), (5, .pointer (some ⟨b49329, 0, none⟩)), (0, .int .i64 (w64 (5 + r49290))), (1, v48588)]) (by kernel_rfl) ?_
        refine r_step rfl rfl (o_ldb (v := v49369) hS49394 (i := 2) rfl rfl (by kernel_rfl)) ?_
        refine r_step rfl rfl (o_len rfl (hS49394.glen (i := 3) rfl (q49368.mono hZ49385)) ⟨_, Go.Proofs.Try.underlying25⟩) ?_
        rcases ifs hm with ⟨hp49406, hm⟩ | ⟨hp49406, hm⟩
        · refine r_step rfl rfl (o_cmp rfl rfl (c_eql_T hp49406)) ?_
          refine r_run 1 (l' := [(47, .bool true), (46, .bool true), (45, .int .i64 (r49357.1.Nodes.length : Int)), (44, v49369), (43, .pointer (some ⟨b49371, 0, none⟩)), (42, .bool false), (41, .bool false), (40, .bool false), (39, .int .i64 r49376.2), (38, .bool false), (37, .bool false), (36, .int .i64 r49357.2), (11, .int .i64 r49376.2), (10, .pointer (some ⟨b49390, 0, none⟩)), (9, .int .i64 r49357.2), (8, .pointer (some ⟨b49371, 0, none⟩)), (7, .pointer (some ⟨b49352, 0, none⟩)), (5, .pointer (some ⟨b49329, 0, none⟩)), (0, .int .i64 (w64 (5 + r49290))), (1, v48588)]) (by kernel_rfl) ?_
          refine r_forget [47, 11, 10, 9, 8, 7, 5, 0, 1] (l' := [(47, .bool true), (11, .int .i64 r49376.2), (10, .pointer (some ⟨b49390, 0, none⟩)), (9, .int .i64 r49357.2), (8, .pointer (some ⟨b49371, 0, none⟩)), (7, .pointer (some ⟨b49352, 0, none⟩)), (5, .pointer (some ⟨b49329, 0, none⟩)), (0, .int .i64 (w64 (5 + r49290))), (1, v48588)]) (by kernel_rfl) ?_
          refine r_end rfl ?_
          refine W_condT (x := .tmp 47) (by kernel_rfl) rfl rfl ?_
          refine W_seq (by kernel_rfl) ?_
          refine W_region (R := r5_9) (by kernel_rfl) ?_
          refine r_run 1 (l' := [(4, .bool false), (47, .bool true), (11, .int .i64 r49376.2), (10, .pointer (some ⟨b49390, 0, none⟩)), (9, .int .i64 r49357.2), (8, .pointer (some ⟨b49371, 0, none⟩)), (7, .pointer (some ⟨b49352, 0, none⟩)), (5, .pointer (some ⟨b49329, 0, none⟩)), (0, .int .i64 (w64 (5 + r49290))), (1, v48588)]) (by kernel_rfl) ?_
          refine r_forget [4] (l' := [(4, .bool false)]) (by kernel_rfl) ?_
          refine r_end rfl ?_
          refine W_ret (by kernel_rfl) ?_
          refine ⟨rfl, ?_⟩
          obtain rfl := Option.some.inj hm
          refine ⟨_, _, _, ResL.tmp rfl (ResL.nil), hS49394, ?_⟩
          exact rfl
        · refine r_step rfl rfl (o_cmp rfl rfl (c_eql_F hp49406)) ?_
          refine r_run 1 (l' := [(47, .bool false), (46, .bool false), (45, .int .i64 (r49357.1.Nodes.length : Int)), (44, v49369), (43, .pointer (some ⟨b49371, 0, none⟩)), (42, .bool false), (41, .bool false), (40, .bool false), (39, .int .i64 r49376.2), (38, .bool false), (37, .bool false), (36, .int .i64 r49357.2), (11, .int .i64 r49376.2), (10, .pointer (some ⟨b49390, 0, none⟩)), (9, .int .i64 r49357.2), (8, .pointer (some ⟨b49371, 0, none⟩)), (7, .pointer (some ⟨b49352, 0, none⟩)), (5, .pointer (some ⟨b49329, 0, none⟩)), (0, .int .i64 (w64 (5 + r49290))), (1, v48588)]) (by kernel_rfl) ?_
          refine r_forget [47, 11, 10, 9, 8, 7, 5, 0, 1] (l' := [(47, .bool false), (11, .int .i64 r49376.2), (10, .pointer (some ⟨b49390, 0, none⟩)), (9, .int .i64 r49357.2), (8, .pointer (some ⟨b49371, 0, none⟩)), (7, .pointer (some ⟨b49352, 0, none⟩)), (5, .pointer (some ⟨b49329, 0, none⟩)), (0, .int .i64 (w64 (5 + r49290))), (1, v48588)]) (by kernel_rfl) ?_
          refine r_end rfl ?_
          refine W_condF (x := .tmp 47) (by kernel_rfl) rfl rfl ?_
          refine W_skip (by kernel_rfl) ?_
          refine W_seq (by kernel_rfl) ?_
          refine W_seq (by kernel_rfl) ?_
          refine W_region (R := r5_10) (by kernel_rfl) ?_
          refine r_run 1 (l' := [(12, .int .i64 0), (47, .bool false), (11, .int .i64 r49376.2), (10, .pointer (some ⟨b49390, 0, none⟩)), (9, .int .i64 r49357.2), (8, .pointer (some ⟨b49371, 0, none⟩)), (7, .pointer (some ⟨b49352, 0, none⟩)), (5, .pointer (some ⟨b49329, 0, none⟩)), (0, .int .i64 (w64 (5 + r49290))), (1, v48588)]) (by kernel_rfl) ?_
          refine r_forget [12, 11, 10, 9, 8, 7, 5, 0, 1] (l' := [(12, .int .i64 0), (11, .int .i64 r49376.2), (10, .pointer (some ⟨b49390, 0, none⟩)), (9, .int .i64 r49357.2), (8, .pointer (some ⟨b49371, 0, none⟩)), (7, .pointer (some ⟨b49352, 0, none⟩)), (5, .pointer (some ⟨b49329, 0, none⟩)), (0, .int .i64 (w64 (5 + r49290))), (1, v48588)]) (by kernel_rfl) ?_
          refine r_end rfl ?_
          obtain ⟨o49839, ho49838, hm⟩ := obind hm
          refine W_join [5, 7, 9, 10, 11] (fun l h => ∃ Z50063 : Zn, ∃ x50065 : List api_Node, ∃ x50069 : List api_Node, ∃ x50073 : Int, ∃ x50075 : List api_Node, ∃ x50079 : Int, ∃ b50064 : Nat, ∃ v50067 : Value, ∃ b50068 : Nat, ∃ v50071 : Value, ∃ c50072 : List Value, ∃ b50074 : Nat, ∃ v50077 : Value, ∃ c50078 : List Value, (x50065, x50069, x50073, x50075, x50079) = o49839 ∧ RS (α := api_Node) Z50063 v50067 x50065 ∧ RCs (α := api_Node) Z50063 c50072 x50069 ∧ RCs (α := api_Node) Z50063 c50078 x50075 ∧ l = [(5, .pointer (some ⟨b50064, 0, none⟩)), (7, .pointer (some ⟨b50068, 0, none⟩)), (9, .int .i64 x50073), (10, .pointer (some ⟨b50074, 0, none⟩)), (11, .int .i64 x50079)] ∧ St hs [] Z (0, 0) Z50063 h [.blk b50064 [v50067], .blk b50068 [v50071], .gs v50071 c50072 (csz api_Node), .blk b50074 [v50077], .gs v50077 c50078 (csz api_Node)]) ?_ ?_
          · rintro l h50080 ⟨Z50063, x50065, x50069, x50073, x50075, x50079, b50064, v50067, b50068, v50071, c50072, b50074, v50077, c50078, rfl, q50066, q50070, q50076, rfl, hS50081⟩
            try dsimp only at hm
            refine W_seq (by kernel_rfl) ?_
            refine W_region (R := r5_14) (by kernel_rfl) ?_
            refine r_run 1 (l' := [(92, .int .i64 x50073), (5, .pointer (some ⟨b50064, 0, none⟩)), (7, .pointer (some ⟨b50068, 0, none⟩)), (9, .int .i64 x50073), (10, .pointer (some ⟨b50074, 0, none⟩)), (11, .int .i64 x50079)]) (by kernel_rfl) ?_
            rcases ifs hm with ⟨hp50117, hm⟩ | ⟨hp50117, hm⟩
            · refine r_step rfl trivial (o_cmp rfl rfl (c_eql_T hp50117)) ?_
              refine r_run 2 (l' := [(95, .int .i64 x50079), (94, .bool true), (93, .bool true), (92, .int .i64 x50073), (5, .pointer (some ⟨b50064, 0, none⟩)), (7, .pointer (some ⟨b50068, 0, none⟩)), (9, .int .i64 x50073), (10, .pointer (some ⟨b50074, 0, none⟩)), (11, .int .i64 x50079)]) (by kernel_rfl) ?_
              rcases ifs hm with ⟨hp50118, hm⟩ | ⟨hp50118, hm⟩
              · refine r_step rfl rfl (o_cmp rfl rfl (c_eql_T hp50118)) ?_
                refine r_run 2 (l' := [(98, .bool true), (97, .bool true), (96, .bool true), (95, .int .i64 x50079), (94, .bool true), (93, .bool true), (92, .int .i64 x50073), (5, .pointer (some ⟨b50064, 0, none⟩)), (7, .pointer (some ⟨b50068, 0, none⟩)), (9, .int .i64 x50073), (10, .pointer (some ⟨b50074, 0, none⟩)), (11, .int .i64 x50079)]) (by kernel_rfl) ?_
                refine r_step rfl rfl (o_ldb (v := .agg #[v50067]) hS50081 (i := 0) rfl rfl (by kernel_rfl)) ?_
                refine r_step rfl rfl (o_ldb (v := .agg #[v50071]) hS50081 (i := 1) rfl rfl (by kernel_rfl)) ?_
                obtain ⟨Z50119, hZ50120, q50121, hS50122⟩ := (hS50081.front 2 rfl).freeze q50070
                replace hS50122 : St _ _ _ _ _ _ [.blk b50064 [v50067], .blk b50068 [v50071], .blk b50074 [v50077], .gs v50077 c50078 (csz api_Node)] := hS50122
                obtain ⟨r50123, hx50124, hm⟩ := obind hm
                obtain ⟨v50125, h50126, hcl50127, hSc50128, rfl⟩ := arena_Same_ok F hS50122.inv (q50066.mono hZ50120) q50121 hx50124
                have hS50129 := St.call (A := []) (B := [.blk b50064 [v50067], .blk b50068 [v50071], .blk b50074 [v50077], .gs v50077 c50078 (csz api_Node)]) hS50122 hSc50128
                replace hS50129 : St _ _ _ _ _ _ [.blk b50064 [v50067], .blk b50068 [v50071], .blk b50074 [v50077], .gs v50077 c50078 (csz api_Node)] := hS50129
                refine r_step rfl rfl (o_call hcl50127 rfl rfl rfl) ?_
                refine r_run 2 (l' := [(103, .bool r50123), (102, .bool r50123), (101, .bool r50123), (100, .agg #[v50071]), (99, .agg #[v50067]), (98, .bool true), (97, .bool true), (96, .bool true), (95, .int .i64 x50079), (94, .bool true), (93, .bool true), (92, .int .i64 x50073), (5, .pointer (some ⟨b50064, 0, none⟩)), (7, .pointer (some ⟨b50068, 0, none⟩)), (9, .int .i64 x50073), (10, .pointer (some ⟨b50074, 0, none⟩)), (11, .int .i64 x50079)]) (by kernel_rfl) ?_
                rcases ifs hm with ⟨hp50130, hm⟩ | ⟨hp50130, hm⟩
                · refine r_setb (t := 103) rfl hp50130 ?_
                  refine r_run 1 (l' := [(104, .pointer (some ⟨b50074, 0, none⟩)), (103, .bool true), (103, .bool r50123), (102, .bool r50123), (101, .bool r50123), (100, .agg #[v50071]), (99, .agg #[v50067]), (98, .bool true), (97, .bool true), (96, .bool true), (95, .int .i64 x50079), (94, .bool true), (93, .bool true), (92, .int .i64 x50073), (5, .pointer (some ⟨b50064, 0, none⟩)), (7, .pointer (some ⟨b50068, 0, none⟩)), (9, .int .i64 x50073), (10, .pointer (some ⟨b50074, 0, none⟩)), (11, .int .i64 x50079)]) (by kernel_rfl) ?_
                  refine r_step rfl rfl (o_ldb (v := v50077) hS50129 (i := 2) rfl rfl (by kernel_rfl)) ?_
                  refine r_step rfl rfl (o_len rfl (hS50129.glen (i := 3) rfl (q50076.mono hZ50120)) ⟨_, Go.Proofs.Try.underlying25⟩) ?_
                  rcases ifs hm with ⟨hp50131, hm⟩ | ⟨hp50131, hm⟩
                  · refine r_step rfl rfl (o_cmp rfl rfl (c_eql_T hp50131)) ?_
                    refine r_run 3 (l' := [(110, .pointer (some ⟨b50074, 0, none⟩)), (109, .bool true), (108, .bool true), (107, .bool true), (106, .int .i64 (x50075.length : Int)), (105, v50077), (104, .pointer (some ⟨b50074, 0, none⟩)), (103, .bool true), (103, .bool r50123), (102, .bool r50123), (101, .bool r50123), (100, .agg #[v50071]), (99, .agg #[v50067]), (98, .bool true), (97, .bool true), (96, .bool true), (95, .int .i64 x50079), (94, .bool true), (93, .bool true), (92, .int .i64 x50073), (5, .pointer (some ⟨b50064, 0, none⟩)), (7, .pointer (some ⟨b50068, 0, none⟩)), (9, .int .i64 x50073), (10, .pointer (some ⟨b50074, 0, none⟩)), (11, .int .i64 x50079)]) (by kernel_rfl) ?_
                    refine r_step rfl rfl (o_ldb (v := v50077) hS50129 (i := 2) rfl rfl (by kernel_rfl)) ?_
                    obtain ⟨hc50132, hm⟩ := chk hm
                    refine r_step rfl rfl (o_index rfl rfl (by kernel_rfl : slTy _ _ = some (csz api_Node)) (hS50129.gbased (j := 3) rfl (q50076.mono hZ50120) (by omega)) hc50132.1 hc50132.2) ?_
                    refine r_run 1 (l' := [(113, .pointer (some (elemA v50077 2 (csz api_Node) 0))), (112, .pointer (some (elemA v50077 2 (csz api_Node) 0))), (111, v50077), (110, .pointer (some ⟨b50074, 0, none⟩)), (109, .bool true), (108, .bool true), (107, .bool true), (106, .int .i64 (x50075.length : Int)), (105, v50077), (104, .pointer (some ⟨b50074, 0, none⟩)), (103, .bool true), (103, .bool r50123), (102, .bool r50123), (101, .bool r50123), (100, .agg #[v50071]), (99, .agg #[v50067]), (98, .bool true), (97, .bool true), (96, .bool true), (95, .int .i64 x50079), (94, .bool true), (93, .bool true), (92, .int .i64 x50073), (5, .pointer (some ⟨b50064, 0, none⟩)), (7, .pointer (some ⟨b50068, 0, none⟩)), (9, .int .i64 x50073), (10, .pointer (some ⟨b50074, 0, none⟩)), (11, .int .i64 x50079)]) (by kernel_rfl) ?_
                    obtain ⟨x50133, hx50134, hm⟩ := obind hm
                    obtain ⟨cs50135, hc50136, he50137, ht50138⟩ := hS50129.gel (j := 3) rfl (q50076.mono hZ50120) (i := 2) hx50134
                    obtain ⟨v50139, q50140, rfl⟩ := rc_api_Node hc50136
                    refine r_step rfl rfl (o_lde (w := .int .i64 x50133.Kind) he50137 rfl (by kernel_rfl)) ?_
                    rcases ifs hm with ⟨hp50141, hm⟩ | ⟨hp50141, hm⟩
                    · refine r_step rfl rfl (o_cmp rfl rfl (c_eql_T hp50141)) ?_
                      refine r_run 3 (l' := [(118, .pointer (some ⟨b50074, 0, none⟩)), (117, .bool true), (116, .bool true), (115, .bool true), (114, .int .i64 x50133.Kind), (113, .pointer (some (elemA v50077 2 (csz api_Node) 0))), (112, .pointer (some (elemA v50077 2 (csz api_Node) 0))), (111, v50077), (110, .pointer (some ⟨b50074, 0, none⟩)), (109, .bool true), (108, .bool true), (107, .bool true), (106, .int .i64 (x50075.length : Int)), (105, v50077), (104, .pointer (some ⟨b50074, 0, none⟩)), (103, .bool true), (103, .bool r50123), (102, .bool r50123), (101, .bool r50123), (100, .agg #[v50071]), (99, .agg #[v50067]), (98, .bool true), (97, .bool true), (96, .bool true), (95, .int .i64 x50079), (94, .bool true), (93, .bool true), (92, .int .i64 x50073), (5, .pointer (some ⟨b50064, 0, none⟩)), (7, .pointer (some ⟨b50068, 0, none⟩)), (9, .int .i64 x50073), (10, .pointer (some ⟨b50074, 0, none⟩)), (11, .int .i64 x50079)]) (by kernel_rfl) ?_
                      refine r_step rfl rfl (o_ldb (v := v50077) hS50129 (i := 2) rfl rfl (by kernel_rfl)) ?_
                      obtain ⟨hc50142, hm⟩ := chk hm
                      refine r_step rfl rfl (o_index rfl rfl (by kernel_rfl : slTy _ _ = some (csz api_Node)) (hS50129.gbased (j := 3) rfl (q50076.mono hZ50120) (by omega)) hc50142.1 hc50142.2) ?_
                      refine r_run 1 (l' := [(121, .pointer (some (elemA v50077 2 (csz api_Node) 2))), (120, .pointer (some (elemA v50077 2 (csz api_Node) 0))), (119, v50077), (118, .pointer (some ⟨b50074, 0, none⟩)), (117, .bool true), (116, .bool true), (115, .bool true), (114, .int .i64 x50133.Kind), (113, .pointer (some (elemA v50077 2 (csz api_Node) 0))), (112, .pointer (some (elemA v50077 2 (csz api_Node) 0))), (111, v50077), (110, .pointer (some ⟨b50074, 0, none⟩)), (109, .bool true), (108, .bool true), (107, .bool true), (106, .int .i64 (x50075.length : Int)), (105, v50077), (104, .pointer (some ⟨b50074, 0, none⟩)), (103, .bool true), (103, .bool r50123), (102, .bool r50123), (101, .bool r50123), (100, .agg #[v50071]), (99, .agg #[v50067]), (98, .bool true), (97, .bool true), (96, .bool true), (95, .int .i64 x50079), (94, .bool true), (93, .bool true), (92, .int .i64 x50073), (5, .pointer (some ⟨b50064, 0, none⟩)), (7, .pointer (some ⟨b50068, 0, none⟩)), (9, .int .i64 x50073), (10, .pointer (some ⟨b50074, 0, none⟩)), (11, .int .i64 x50079)]) (by kernel_rfl) ?_
                      obtain ⟨x50143, hx50144, hm⟩ := obind hm
                      obtain ⟨cs50145, hc50146, he50147, ht50148⟩ := hS50129.gel (j := 3) rfl (q50076.mono hZ50120) (i := 2) hx50144
                      obtain ⟨v50149, q50150, rfl⟩ := rc_api_Node hc50146
                      refine r_step rfl rfl (o_lde (w := .int .i64 x50143.To) he50147 rfl (by kernel_rfl)) ?_
                      rcases ifs hm with ⟨hp50151, hm⟩ | ⟨hp50151, hm⟩
                      · refine r_step rfl rfl (o_cmp rfl rfl (c_eql_T hp50151)) ?_
                        refine r_run 2 (l' := [(4, .bool true), (124, .bool true), (123, .bool true), (122, .int .i64 x50143.To), (121, .pointer (some (elemA v50077 2 (csz api_Node) 2))), (120, .pointer (some (elemA v50077 2 (csz api_Node) 0))), (119, v50077), (118, .pointer (some ⟨b50074, 0, none⟩)), (117, .bool true), (116, .bool true), (115, .bool true), (114, .int .i64 x50133.Kind), (113, .pointer (some (elemA v50077 2 (csz api_Node) 0))), (112, .pointer (some (elemA v50077 2 (csz api_Node) 0))), (111, v50077), (110, .pointer (some ⟨b50074, 0, none⟩)), (109, .bool true), (108, .bool true), (107, .bool true), (106, .int .i64 (x50075.length : Int)), (105, v50077), (104, .pointer (some ⟨b50074, 0, none⟩)), (103, .bool true), (103, .bool r50123), (102, .bool r50123), (101, .bool r50123), (100, .agg #[v50071]), (99, .agg #[v50067]), (98, .bool true), (97, .bool true), (96, .bool true), (95, .int .i64 x50079), (94, .bool true), (93, .bool true), (92, .int .i64 x50073), (5, .pointer (some ⟨b50064, 0, none⟩)), (7, .pointer (some ⟨b50068, 0, none⟩)), (9, .int .i64 x50073), (10, .pointer (some ⟨b50074, 0, none⟩)), (11, .int .i64 x50079)]) (by kernel_rfl) ?_
                        refine r_forget [4] (l' := [(4, .bool true)]) (by kernel_rfl) ?_
                        refine r_end rfl ?_
                        refine W_ret (by kernel_rfl) ?_
                        refine ⟨rfl, ?_⟩
                        obtain rfl := Option.some.inj hm
                        refine ⟨_, _, _, ResL.tmp rfl (ResL.nil), hS50129, ?_⟩
                        exact rfl
                      · refine r_step rfl rfl (o_cmp rfl rfl (c_eql_F hp50151)) ?_
                        refine r_run 2 (l' := [(4, .bool false), (124, .bool false), (123, .bool false), (122, .int .i64 x50143.To), (121, .pointer (some (elemA v50077 2 (csz api_Node) 2))), (120, .pointer (some (elemA v50077 2 (csz api_Node) 0))), (119, v50077), (118, .pointer (some ⟨b50074, 0, none⟩)), (117, .bool true), (116, .bool true), (115, .bool true), (114, .int .i64 x50133.Kind), (113, .pointer (some (elemA v50077 2 (csz api_Node) 0))), (112, .pointer (some (elemA v50077 2 (csz api_Node) 0))), (111, v50077), (110, .pointer (some ⟨b50074, 0, none⟩)), (109, .bool true), (108, .bool true), (107, .bool true), (106, .int .i64 (x50075.length : Int)), (105, v50077), (104, .pointer (some ⟨b50074, 0, none⟩)), (103, .bool true), (103, .bool r50123), (102, .bool r50123), (101, .bool r50123), (100, .agg #[v50071]), (99, .agg #[v50067]), (98, .bool true), (97, .bool true), (96, .bool true), (95, .int .i64 x50079), (94, .bool true), (93, .bool true), (92, .int .i64 x50073), (5, .pointer (some ⟨b50064, 0, none⟩)), (7, .pointer (some ⟨b50068, 0, none⟩)), (9, .int .i64 x50073), (10, .pointer (some ⟨b50074, 0, none⟩)), (11, .int .i64 x50079)]) (by kernel_rfl) ?_
                        refine r_forget [4] (l' := [(4, .bool false)]) (by kernel_rfl) ?_
                        refine r_end rfl ?_
                        refine W_ret (by kernel_rfl) ?_
                        refine ⟨rfl, ?_⟩
                        obtain rfl := Option.some.inj hm
                        refine ⟨_, _, _, ResL.tmp rfl (ResL.nil), hS50129, ?_⟩
                        exact rfl
                    · refine r_step rfl rfl (o_cmp rfl rfl (c_eql_F hp50141)) ?_
                      refine r_run 10 (l' := [(4, .bool false), (124, .bool false), (123, undef), (122, undef), (121, undef), (120, undef), (119, undef), (118, undef), (117, .bool false), (116, .bool false), (115, .bool false), (114, .int .i64 x50133.Kind), (113, .pointer (some (elemA v50077 2 (csz api_Node) 0))), (112, .pointer (some (elemA v50077 2 (csz api_Node) 0))), (111, v50077), (110, .pointer (some ⟨b50074, 0, none⟩)), (109, .bool true), (108, .bool true), (107, .bool true), (106, .int .i64 (x50075.length : Int)), (105, v50077), (104, .pointer (some ⟨b50074, 0, none⟩)), (103, .bool true), (103, .bool r50123), (102, .bool r50123), (101, .bool r50123), (100, .agg #[v50071]), (99, .agg #[v50067]), (98, .bool true), (97, .bool true), (96, .bool true), (95, .int .i64 x50079), (94, .bool true), (93, .bool true), (92, .int .i64 x50073), (5, .pointer (some ⟨b50064, 0, none⟩)), (7, .pointer (some ⟨b50068, 0, none⟩)), (9, .int .i64 x50073), (10, .pointer (some ⟨b50074, 0, none⟩)), (11, .int .i64 x50079)]) (by kernel_rfl) ?_
                      refine r_forget [4] (l' := [(4, .bool false)]) (by kernel_rfl) ?_
                      refine r_end rfl ?_
                      refine W_ret (by kernel_rfl) ?_
                      refine ⟨rfl, ?_⟩
                      obtain rfl := Option.some.inj hm
                      refine ⟨_, _, _, ResL.tmp rfl (ResL.nil), hS50129, ?_⟩
                      exact rfl
                  · refine r_step rfl rfl (o_cmp rfl rfl (c_eql_F hp50131)) ?_
                    refine r_run 18 (l' := [(4, .bool false), (124, .bool false), (123, undef), (122, undef), (121, undef), (120, undef), (119, undef), (118, undef), (117, .bool false), (116, .bool false), (115, undef), (114, undef), (113, undef), (112, undef), (111, undef), (110, undef), (109, .bool false), (108, .bool false), (107, .bool false), (106, .int .i64 (x50075.length : Int)), (105, v50077), (104, .pointer (some ⟨b50074, 0, none⟩)), (103, .bool true), (103, .bool r50123), (102, .bool r50123), (101, .bool r50123), (100, .agg #[v50071]), (99, .agg #[v50067]), (98, .bool true), (97, .bool true), (96, .bool true), (95, .int .i64 x50079), (94, .bool true), (93, .bool true), (92, .int .i64 x50073), (5, .pointer (some ⟨b50064, 0, none⟩)), (7, .pointer (some ⟨b50068, 0, none⟩)), (9, .int .i64 x50073), (10, .pointer (some ⟨b50074, 0, none⟩)), (11, .int .i64 x50079)]) (by kernel_rfl) ?_
                    refine r_forget [4] (l' := [(4, .bool false)]) (by kernel_rfl) ?_
                    refine r_end rfl ?_
                    refine W_ret (by kernel_rfl) ?_
                    refine ⟨rfl, ?_⟩
                    obtain rfl := Option.some.inj hm
                    refine ⟨_, _, _, ResL.tmp rfl (ResL.nil), hS50129, ?_⟩
                    exact rfl
                · refine r_setb (t := 103) rfl (Bool.eq_false_iff.2 hp50130) ?_
                  refine r_run 22 (l' := [(4, .bool false), (124, .bool false), (123, undef), (122, undef), (121, undef), (120, undef), (119, undef), (118, undef), (117, .bool false), (116, .bool false), (115, undef), (114, undef), (113, undef), (112, undef), (111, undef), (110, undef), (109, .bool false), (108, .bool false), (107, undef), (106, undef), (105, undef), (104, undef), (103, .bool false), (103, .bool r50123), (102, .bool r50123), (101, .bool r50123), (100, .agg #[v50071]), (99, .agg #[v50067]), (98, .bool true), (97, .bool true), (96, .bool true), (95, .int .i64 x50079), (94, .bool true), (93, .bool true), (92, .int .i64 x50073), (5, .pointer (some ⟨b50064, 0, none⟩)), (7, .pointer (some ⟨b50068, 0, none⟩)), (9, .int .i64 x50073), (10, .pointer (some ⟨b50074, 0, none⟩)), (11, .int .i64 x50079)]) (by kernel_rfl) ?_
                  refine r_forget [4] (l' := [(4, .bool false)]) (by kernel_rfl) ?_
                  refine r_end rfl ?_
                  refine W_ret (by kernel_rfl) ?_
                  refine ⟨rfl, ?_⟩
                  obtain rfl := Option.some.inj hm
                  refine ⟨_, _, _, ResL.tmp rfl (ResL.nil), hS50129, ?_⟩
                  exact rfl
              · refine r_step rfl rfl (o_cmp rfl rfl (c_eql_F hp50118)) ?_
                refine r_run 29 (l' := [(4, .bool false), (124, .bool false), (123, undef), (122, undef), (121, undef), (120, undef), (119, undef), (118, undef), (117, .bool false), (116, .bool false), (115, undef), (114, undef), (113, undef), (112, undef), (111, undef), (110, undef), (109, .bool false), (108, .bool false), (107, undef), (106, undef), (105, undef), (104, undef), (103, .bool false), (102, .bool false), (101, undef), (100, undef), (99, undef), (98, .bool false), (97, .bool false), (96, .bool false), (95, .int .i64 x50079), (94, .bool true), (93, .bool true), (92, .int .i64 x50073), (5, .pointer (some ⟨b50064, 0, none⟩)), (7, .pointer (some ⟨b50068, 0, none⟩)), (9, .int .i64 x50073), (10, .pointer (some ⟨b50074, 0, none⟩)), (11, .int .i64 x50079)]) (by kernel_rfl) ?_
                refine r_forget [4] (l' := [(4, .bool false)]) (by kernel_rfl) ?_
                refine r_end rfl ?_
                refine W_ret (by kernel_rfl) ?_
                refine ⟨rfl, ?_⟩
                obtain rfl := Option.some.inj hm
                refine ⟨_, _, _, ResL.tmp rfl (ResL.nil), hS50081, ?_⟩
                exact rfl
            · refine r_step rfl trivial (o_cmp rfl rfl (c_eql_F hp50117)) ?_
              refine r_run 32 (l' := [(4, .bool false), (124, .bool false), (123, undef), (122, undef), (121, undef), (120, undef), (119, undef), (118, undef), (117, .bool false), (116, .bool false), (115, undef), (114, undef), (113, undef), (112, undef), (111, undef), (110, undef), (109, .bool false), (108, .bool false), (107, undef), (106, undef), (105, undef), (104, undef), (103, .bool false), (102, .bool false), (101, undef), (100, undef), (99, undef), (98, .bool false), (97, .bool false), (96, undef), (95, undef), (94, .bool false), (93, .bool false), (92, .int .i64 x50073), (5, .pointer (some ⟨b50064, 0, none⟩)), (7, .pointer (some ⟨b50068, 0, none⟩)), (9, .int .i64 x50073), (10, .pointer (some ⟨b50074, 0, none⟩)), (11, .int .i64 x50079)]) (by kernel_rfl) ?_
              refine r_forget [4] (l' := [(4, .bool false)]) (by kernel_rfl) ?_
              refine r_end rfl ?_
              refine W_ret (by kernel_rfl) ?_
              refine ⟨rfl, ?_⟩
              obtain rfl := Option.some.inj hm
              refine ⟨_, _, _, ResL.tmp rfl (ResL.nil), hS50081, ?_⟩
              exact rfl
          · refine W_block (i := 0) (by kernel_rfl) ?_
            refine W_loop [0, 1, 5, 7, 8, 9, 10, 11, 12] (fun n l h => ∃ Z49840 : Zn, ∃ x49841 : Int, ∃ x49843 : List api_Node, ∃ x49847 : List api_Node, ∃ x49852 : List api_Node, ∃ x49856 : Int, ∃ x49858 : List api_Node, ∃ x49862 : Int, ∃ x49863 : Int, ∃ b49842 : Nat, ∃ v49845 : Value, ∃ b49846 : Nat, ∃ v49849 : Value, ∃ c49850 : List Value, ∃ b49851 : Nat, ∃ v49854 : Value, ∃ c49855 : List Value, ∃ b49857 : Nat, ∃ v49860 : Value, ∃ c49861 : List Value, correctorlaw10_ArenaTwo_l0 F a0 a1 n x49841 x49843 x49847 x49852 x49856 x49858 x49862 x49863 = some o49839 ∧ RS (α := api_Node) Z49840 v49845 x49843 ∧ RCs (α := api_Node) Z49840 c49850 x49847 ∧ RCs (α := api_Node) Z49840 c49855 x49852 ∧ RCs (α := api_Node) Z49840 c49861 x49858 ∧ l = [(0, .int .i64 x49841), (1, v48588), (5, .pointer (some ⟨b49842, 0, none⟩)), (7, .pointer (some ⟨b49846, 0, none⟩)), (8, .pointer (some ⟨b49851, 0, none⟩)), (9, .int .i64 x49856), (10, .pointer (some ⟨b49857, 0, none⟩)), (11, .int .i64 x49862), (12, .int .i64 x49863)] ∧ St hs [] Z (0, 0) Z49840 h [.blk b49842 [v49845], .blk b49846 [v49849], .gs v49849 c49850 (csz api_Node), .blk b49851 [v49854], .gs v49854 c49855 (csz api_Node), .blk b49857 [v49860], .gs v49860 c49861 (csz api_Node)]) F (by kernel_rfl) ⟨_, w64 (5 + r49290), r49315.1.Nodes, r49338.Nodes, r49357.1.Nodes, r49357.2, r49376.1.Nodes, r49376.2, 0, b49329, v49327, b49352, v49350, c49351, b49371, v49369, c49370, b49390, v49388, c49389, ho49838, (q49336.mono (hZ49347.trans (hZ49366.trans hZ49385))), (q49349.mono (hZ49366.trans hZ49385)), (q49368.mono hZ49385), q49387, rfl, (((((((hS49394.front 1 rfl).front 1 rfl).front 3 rfl).front 3 rfl).front 5 rfl).front 5 rfl).front 6 rfl)⟩ ?_
            rintro n49866 l h49864 ⟨Z49840, x49841, x49843, x49847, x49852, x49856, x49858, x49862, x49863, b49842, v49845, b49846, v49849, c49850, b49851, v49854, c49855, b49857, v49860, c49861, ho49838, q49844, q49848, q49853, q49859, rfl, hS49865⟩
            cases n49866 with
            | zero => cases (show none = some o49839 from ho49838)
            | succ n49866 =>
              rw [correctorlaw10_ArenaTwo_l0] at ho49838
              refine W_seq (by kernel_rfl) ?_
              refine W_seq (by kernel_rfl) ?_
              refine W_region (R := r5_11) (by kernel_rfl) ?_
              refine r_run 2 (l' := [(49, v48588), (48, .int .i64 x49863), (0, .int .i64 x49841), (1, v48588), (5, .pointer (some ⟨b49842, 0, none⟩)), (7, .pointer (some ⟨b49846, 0, none⟩)), (8, .pointer (some ⟨b49851, 0, none⟩)), (9, .int .i64 x49856), (10, .pointer (some ⟨b49857, 0, none⟩)), (11, .int .i64 x49862), (12, .int .i64 x49863)]) (by kernel_rfl) ?_
              refine r_step rfl trivial (o_len rfl (RS.len (q48587.mono hS49865.zle)) ⟨_, Go.Proofs.Try.underlying22⟩) ?_
              rcases ifs ho49838 with ⟨hp49876, ho49838⟩ | ⟨hp49876, ho49838⟩
              · refine r_step rfl trivial (o_cmp rfl rfl (c_lss_T hp49876)) ?_
                refine r_run 2 (l' := [(53, .int .i64 x49863), (52, .bool true), (51, .bool true), (50, .int .i64 (a1.length : Int)), (49, v48588), (48, .int .i64 x49863), (0, .int .i64 x49841), (1, v48588), (5, .pointer (some ⟨b49842, 0, none⟩)), (7, .pointer (some ⟨b49846, 0, none⟩)), (8, .pointer (some ⟨b49851, 0, none⟩)), (9, .int .i64 x49856), (10, .pointer (some ⟨b49857, 0, none⟩)), (11, .int .i64 x49862), (12, .int .i64 x49863)]) (by kernel_rfl) ?_
                rcases ifs ho49838 with ⟨hp49877, ho49838⟩ | ⟨hp49877, ho49838⟩
                · refine r_step rfl rfl (o_cmp rfl rfl (c_lss_T hp49877)) ?_
                  refine r_run 3 (l' := [(57, .pointer (some ⟨b49851, 0, none⟩)), (56, .bool true), (55, .bool true), (54, .bool true), (53, .int .i64 x49863), (52, .bool true), (51, .bool true), (50, .int .i64 (a1.length : Int)), (49, v48588), (48, .int .i64 x49863), (0, .int .i64 x49841), (1, v48588), (5, .pointer (some ⟨b49842, 0, none⟩)), (7, .pointer (some ⟨b49846, 0, none⟩)), (8, .pointer (some ⟨b49851, 0, none⟩)), (9, .int .i64 x49856), (10, .pointer (some ⟨b49857, 0, none⟩)), (11, .int .i64 x49862), (12, .int .i64 x49863)]) (by kernel_rfl) ?_
                  refine r_step rfl rfl (o_ldb (v := v49854) hS49865 (i := 3) rfl rfl (by kernel_rfl)) ?_
                  refine r_step rfl rfl (o_len rfl (hS49865.glen (i := 4) rfl q49853) ⟨_, Go.Proofs.Try.underlying25⟩) ?_
                  rcases ifs ho49838 with ⟨hp49878, ho49838⟩ | ⟨hp49878, ho49838⟩
                  · refine r_step rfl rfl (o_cmp rfl rfl (c_gtr_T hp49878)) ?_
                    refine r_run 1 (l' := [(61, .bool true), (60, .bool true), (59, .int .i64 (x49852.length : Int)), (58, v49854), (57, .pointer (some ⟨b49851, 0, none⟩)), (56, .bool true), (55, .bool true), (54, .bool true), (53, .int .i64 x49863), (52, .bool true), (51, .bool true), (50, .int .i64 (a1.length : Int)), (49, v48588), (48, .int .i64 x49863), (0, .int .i64 x49841), (1, v48588), (5, .pointer (some ⟨b49842, 0, none⟩)), (7, .pointer (some ⟨b49846, 0, none⟩)), (8, .pointer (some ⟨b49851, 0, none⟩)), (9, .int .i64 x49856), (10, .pointer (some ⟨b49857, 0, none⟩)), (11, .int .i64 x49862), (12, .int .i64 x49863)]) (by kernel_rfl) ?_
                    refine r_forget [61, 0, 1, 5, 7, 8, 9, 10, 11, 12] (l' := [(61, .bool true), (0, .int .i64 x49841), (1, v48588), (5, .pointer (some ⟨b49842, 0, none⟩)), (7, .pointer (some ⟨b49846, 0, none⟩)), (8, .pointer (some ⟨b49851, 0, none⟩)), (9, .int .i64 x49856), (10, .pointer (some ⟨b49857, 0, none⟩)), (11, .int .i64 x49862), (12, .int .i64 x49863)]) (by kernel_rfl) ?_
                    refine r_end rfl ?_
                    refine W_condT (x := .tmp 61) (by kernel_rfl) rfl rfl ?_
                    refine W_skip (by kernel_rfl) ?_
                    refine W_seq (by kernel_rfl) ?_
                    refine W_block (i := 1) (by kernel_rfl) ?_
                    refine W_regionD (R := r5_13) (by kernel_rfl) hS49865 ?_
                    intro bs49963 h49964 hlv49966 hS49965
                    have lt49967 : b49851 < bs49963 := hlv49966.1 _ (List.mem_of_getElem? (i := 3) rfl) _ (by simp [Itm.ids])
                    refine d_lookS rfl trivial rfl lt49967 (same_agg (cs := [v49854]) (.cons (hS49965.gsim1 (i := 4) rfl) .nil)) (o_ldb (v := .agg #[v49854]) hS49965 (i := 3) rfl rfl (by kernel_rfl)) ?_
                    refine d_run 2 (l' := [(67, .int .i64 x49863), (66, v48588), (65, .agg #[v49854]), (61, .bool true), (0, .int .i64 x49841), (1, v48588), (5, .pointer (some ⟨b49842, 0, none⟩)), (7, .pointer (some ⟨b49846, 0, none⟩)), (8, .pointer (some ⟨b49851, 0, none⟩)), (9, .int .i64 x49856), (10, .pointer (some ⟨b49857, 0, none⟩)), (11, .int .i64 x49862), (12, .int .i64 x49863)]) (by kernel_rfl) ?_
                    obtain ⟨hc49968, ho49838⟩ := chk ho49838
                    refine d_val rfl trivial (o_index rfl rfl (by kernel_rfl : slTy _ _ = some (csz correctorlaw10_Act)) (RS.based (q48587.mono hS49865.zle) (by omega)) hc49968.1 hc49968.2) ?_
                    refine d_run 1 (l' := [(69, .pointer (some (elemA v48588 x49863 (csz correctorlaw10_Act) 1))), (68, .pointer (some (elemA v48588 x49863 (csz correctorlaw10_Act) 0))), (67, .int .i64 x49863), (66, v48588), (65, .agg #[v49854]), (61, .bool true), (0, .int .i64 x49841), (1, v48588), (5, .pointer (some ⟨b49842, 0, none⟩)), (7, .pointer (some ⟨b49846, 0, none⟩)), (8, .pointer (some ⟨b49851, 0, none⟩)), (9, .int .i64 x49856), (10, .pointer (some ⟨b49857, 0, none⟩)), (11, .int .i64 x49862), (12, .int .i64 x49863)]) (by kernel_rfl) ?_
                    obtain ⟨x49969, hx49970, ho49838⟩ := obind ho49838
                    obtain ⟨cs49971, hc49972, he49973⟩ := RS.el (q48587.mono hS49865.zle) hS49965.inv (i := x49863) hx49970
                    obtain rfl := rc_correctorlaw10_Act hc49972
                    refine d_lookL rfl rfl trivial (o_lde (w := .int .i64 x49969.A) he49973 rfl (by kernel_rfl)) (fun _ _ => .inl rfl) ?_
                    refine d_run 1 (l' := [(71, .pointer (some ⟨b49851, 0, none⟩)), (70, .int .i64 x49969.A), (69, .pointer (some (elemA v48588 x49863 (csz correctorlaw10_Act) 1))), (68, .pointer (some (elemA v48588 x49863 (csz correctorlaw10_Act) 0))), (67, .int .i64 x49863), (66, v48588), (65, .agg #[v49854]), (61, .bool true), (0, .int .i64 x49841), (1, v48588), (5, .pointer (some ⟨b49842, 0, none⟩)), (7, .pointer (some ⟨b49846, 0, none⟩)), (8, .pointer (some ⟨b49851, 0, none⟩)), (9, .int .i64 x49856), (10, .pointer (some ⟨b49857, 0, none⟩)), (11, .int .i64 x49862), (12, .int .i64 x49863)]) (by kernel_rfl) ?_
                    refine d_lookL rfl rfl trivial (o_ldb (v := v49854) hS49965 (i := 3) rfl rfl (by kernel_rfl)) (fun _ _ => .inl rfl) ?_
                    refine d_val rfl trivial (o_len rfl (hS49965.glen (i := 4) rfl q49853) ⟨_, Go.Proofs.Try.underlying25⟩) ?_
                    obtain ⟨r49975, hx49976, ho49838⟩ := obind ho49838
                    have hSl49982 := hS49965.lown
                    obtain ⟨v49977, h49978, hcl49979, hSc49980, rfl⟩ := correctorlaw10_within_ok F hSl49982.inv  hx49976
                    have hS49981 := St.call (A := []) (B := [.blk b49842 [v49845], .blk b49846 [v49849], .gs v49849 c49850 (csz api_Node), .blk b49851 [v49854], .gs v49854 c49855 (csz api_Node), .blk b49857 [v49860], .gs v49860 c49861 (csz api_Node)]) hSl49982 hSc49980
                    replace hS49981 : St _ _ _ _ _ _ [.blk b49842 [v49845], .blk b49846 [v49849], .gs v49849 c49850 (csz api_Node), .blk b49851 [v49854], .gs v49854 c49855 (csz api_Node), .blk b49857 [v49860], .gs v49860 c49861 (csz api_Node)] := hS49981
                    refine d_make rfl trivial hS49965 (o_call hcl49979 rfl rfl rfl) hS49981 (.still (St.lowk hSc49980)) ?_
                    intro h49983 hS49984
                    refine d_run 2 (l' := [(76, .int .i64 x49863), (75, v48588), (74, .int .i64 r49975), (73, .int .i64 (x49852.length : Int)), (72, v49854), (71, .pointer (some ⟨b49851, 0, none⟩)), (70, .int .i64 x49969.A), (69, .pointer (some (elemA v48588 x49863 (csz correctorlaw10_Act) 1))), (68, .pointer (some (elemA v48588 x49863 (csz correctorlaw10_Act) 0))), (67, .int .i64 x49863), (66, v48588), (65, .agg #[v49854]), (61, .bool true), (0, .int .i64 x49841), (1, v48588), (5, .pointer (some ⟨b49842, 0, none⟩)), (7, .pointer (some ⟨b49846, 0, none⟩)), (8, .pointer (some ⟨b49851, 0, none⟩)), (9, .int .i64 x49856), (10, .pointer (some ⟨b49857, 0, none⟩)), (11, .int .i64 x49862), (12, .int .i64 x49863)]) (by kernel_rfl) ?_
                    obtain ⟨hc49985, ho49838⟩ := chk ho49838
                    refine d_val rfl trivial (o_index rfl rfl (by kernel_rfl : slTy _ _ = some (csz correctorlaw10_Act)) (RS.based (q48587.mono hS49865.zle) (by omega)) hc49985.1 hc49985.2) ?_
                    refine d_run 1 (l' := [(78, .pointer (some (elemA v48588 x49863 (csz correctorlaw10_Act) 3))), (77, .pointer (some (elemA v48588 x49863 (csz correctorlaw10_Act) 0))), (76, .int .i64 x49863), (75, v48588), (74, .int .i64 r49975), (73, .int .i64 (x49852.length : Int)), (72, v49854), (71, .pointer (some ⟨b49851, 0, none⟩)), (70, .int .i64 x49969.A), (69, .pointer (some (elemA v48588 x49863 (csz correctorlaw10_Act) 1))), (68, .pointer (some (elemA v48588 x49863 (csz correctorlaw10_Act) 0))), (67, .int .i64 x49863), (66, v48588), (65, .agg #[v49854]), (61, .bool true), (0, .int .i64 x49841), (1, v48588), (5, .pointer (some ⟨b49842, 0, none⟩)), (7, .pointer (some ⟨b49846, 0, none⟩)), (8, .pointer (some ⟨b49851, 0, none⟩)), (9, .int .i64 x49856), (10, .pointer (some ⟨b49857, 0, none⟩)), (11, .int .i64 x49862), (12, .int .i64 x49863)]) (by kernel_rfl) ?_
                    obtain ⟨x49986, hx49987, ho49838⟩ := obind ho49838
                    obtain ⟨cs49988, hc49989, he49990⟩ := RS.el (q48587.mono hS49865.zle) hS49984.inv (i := x49863) hx49987
                    obtain rfl := rc_correctorlaw10_Act hc49989
                    have ps49993 := pos_of hx49987
                    have lt49992 := row_ltI hlv49966.2 (q48587.mono hS49865.zle) ps49993
                    refine d_lookS rfl trivial rfl lt49992 (same1 (v := .int .i64 x49986.C) trivial) (o_lde (w := .int .i64 x49986.C) he49990 rfl (by kernel_rfl)) ?_
                    refine d_run 1 (l' := [(80, .int .i64 x49841), (79, .int .i64 x49986.C), (78, .pointer (some (elemA v48588 x49863 (csz correctorlaw10_Act) 3))), (77, .pointer (some (elemA v48588 x49863 (csz correctorlaw10_Act) 0))), (76, .int .i64 x49863), (75, v48588), (74, .int .i64 r49975), (73, .int .i64 (x49852.length : Int)), (72, v49854), (71, .pointer (some ⟨b49851, 0, none⟩)), (70, .int .i64 x49969.A), (69, .pointer (some (elemA v48588 x49863 (csz correctorlaw10_Act) 1))), (68, .pointer (some (elemA v48588 x49863 (csz correctorlaw10_Act) 0))), (67, .int .i64 x49863), (66, v48588), (65, .agg #[v49854]), (61, .bool true), (0, .int .i64 x49841), (1, v48588), (5, .pointer (some ⟨b49842, 0, none⟩)), (7, .pointer (some ⟨b49846, 0, none⟩)), (8, .pointer (some ⟨b49851, 0, none⟩)), (9, .int .i64 x49856), (10, .pointer (some ⟨b49857, 0, none⟩)), (11, .int .i64 x49862), (12, .int .i64 x49863)]) (by kernel_rfl) ?_
                    obtain ⟨r49994, hx49995, ho49838⟩ := obind ho49838
                    have hSl50001 := hS49984.lown
                    obtain ⟨v49996, h49997, hcl49998, hSc49999, rfl⟩ := correctorlaw10_within_ok F hSl50001.inv  hx49995
                    have hS50000 := St.call (A := []) (B := [.blk b49842 [v49845], .blk b49846 [v49849], .gs v49849 c49850 (csz api_Node), .blk b49851 [v49854], .gs v49854 c49855 (csz api_Node), .blk b49857 [v49860], .gs v49860 c49861 (csz api_Node)]) hSl50001 hSc49999
                    replace hS50000 : St _ _ _ _ _ _ [.blk b49842 [v49845], .blk b49846 [v49849], .gs v49849 c49850 (csz api_Node), .blk b49851 [v49854], .gs v49854 c49855 (csz api_Node), .blk b49857 [v49860], .gs v49860 c49861 (csz api_Node)] := hS50000
                    refine d_make rfl trivial hS49984 (o_call hcl49998 rfl rfl rfl) hS50000 (.still (St.lowk hSc49999)) ?_
                    intro h50002 hS50003
                    refine d_run 2 (l' := [(83, .int .i64 x49863), (82, v48588), (81, .int .i64 r49994), (80, .int .i64 x49841), (79, .int .i64 x49986.C), (78, .pointer (some (elemA v48588 x49863 (csz correctorlaw10_Act) 3))), (77, .pointer (some (elemA v48588 x49863 (csz correctorlaw10_Act) 0))), (76, .int .i64 x49863), (75, v48588), (74, .int .i64 r49975), (73, .int .i64 (x49852.length : Int)), (72, v49854), (71, .pointer (some ⟨b49851, 0, none⟩)), (70, .int .i64 x49969.A), (69, .pointer (some (elemA v48588 x49863 (csz correctorlaw10_Act) 1))), (68, .pointer (some (elemA v48588 x49863 (csz correctorlaw10_Act) 0))), (67, .int .i64 x49863), (66, v48588), (65, .agg #[v49854]), (61, .bool true), (0, .int .i64 x49841), (1, v48588), (5, .pointer (some ⟨b49842, 0, none⟩)), (7, .pointer (some ⟨b49846, 0, none⟩)), (8, .pointer (some ⟨b49851, 0, none⟩)), (9, .int .i64 x49856), (10, .pointer (some ⟨b49857, 0, none⟩)), (11, .int .i64 x49862), (12, .int .i64 x49863)]) (by kernel_rfl) ?_
                    obtain ⟨hc50004, ho49838⟩ := chk ho49838
                    refine d_val rfl trivial (o_index rfl rfl (by kernel_rfl : slTy _ _ = some (csz correctorlaw10_Act)) (RS.based (q48587.mono hS49865.zle) (by omega)) hc50004.1 hc50004.2) ?_
                    refine d_run 1 (l' := [(85, .pointer (some (elemA v48588 x49863 (csz correctorlaw10_Act) 3))), (84, .pointer (some (elemA v48588 x49863 (csz correctorlaw10_Act) 0))), (83, .int .i64 x49863), (82, v48588), (81, .int .i64 r49994), (80, .int .i64 x49841), (79, .int .i64 x49986.C), (78, .pointer (some (elemA v48588 x49863 (csz correctorlaw10_Act) 3))), (77, .pointer (some (elemA v48588 x49863 (csz correctorlaw10_Act) 0))), (76, .int .i64 x49863), (75, v48588), (74, .int .i64 r49975), (73, .int .i64 (x49852.length : Int)), (72, v49854), (71, .pointer (some ⟨b49851, 0, none⟩)), (70, .int .i64 x49969.A), (69, .pointer (some (elemA v48588 x49863 (csz correctorlaw10_Act) 1))), (68, .pointer (some (elemA v48588 x49863 (csz correctorlaw10_Act) 0))), (67, .int .i64 x49863), (66, v48588), (65, .agg #[v49854]), (61, .bool true), (0, .int .i64 x49841), (1, v48588), (5, .pointer (some ⟨b49842, 0, none⟩)), (7, .pointer (some ⟨b49846, 0, none⟩)), (8, .pointer (some ⟨b49851, 0, none⟩)), (9, .int .i64 x49856), (10, .pointer (some ⟨b49857, 0, none⟩)), (11, .int .i64 x49862), (12, .int .i64 x49863)]) (by kernel_rfl) ?_
                    obtain ⟨x50005, hx50006, ho49838⟩ := obind ho49838
                    obtain ⟨cs50007, hc50008, he50009⟩ := RS.el (q48587.mono hS49865.zle) hS50003.inv (i := x49863) hx50006
                    obtain rfl := rc_correctorlaw10_Act hc50008
                    have ps50012 := pos_of hx50006
                    have lt50011 := row_ltI hlv49966.2 (q48587.mono hS49865.zle) ps50012
                    refine d_lookS rfl trivial rfl lt50011 (same1 (v := .int .i64 x50005.C) trivial) (o_lde (w := .int .i64 x50005.C) he50009 rfl (by kernel_rfl)) ?_
                    refine d_run 1 (l' := [(87, .int .i64 x49841), (86, .int .i64 x50005.C), (85, .pointer (some (elemA v48588 x49863 (csz correctorlaw10_Act) 3))), (84, .pointer (some (elemA v48588 x49863 (csz correctorlaw10_Act) 0))), (83, .int .i64 x49863), (82, v48588), (81, .int .i64 r49994), (80, .int .i64 x49841), (79, .int .i64 x49986.C), (78, .pointer (some (elemA v48588 x49863 (csz correctorlaw10_Act) 3))), (77, .pointer (some (elemA v48588 x49863 (csz correctorlaw10_Act) 0))), (76, .int .i64 x49863), (75, v48588), (74, .int .i64 r49975), (73, .int .i64 (x49852.length : Int)), (72, v49854), (71, .pointer (some ⟨b49851, 0, none⟩)), (70, .int .i64 x49969.A), (69, .pointer (some (elemA v48588 x49863 (csz correctorlaw10_Act) 1))), (68, .pointer (some (elemA v48588 x49863 (csz correctorlaw10_Act) 0))), (67, .int .i64 x49863), (66, v48588), (65, .agg #[v49854]), (61, .bool true), (0, .int .i64 x49841), (1, v48588), (5, .pointer (some ⟨b49842, 0, none⟩)), (7, .pointer (some ⟨b49846, 0, none⟩)), (8, .pointer (some ⟨b49851, 0, none⟩)), (9, .int .i64 x49856), (10, .pointer (some ⟨b49857, 0, none⟩)), (11, .int .i64 x49862), (12, .int .i64 x49863)]) (by kernel_rfl) ?_
                    obtain ⟨r50013, hx50014, ho49838⟩ := obind ho49838
                    have hSl50020 := hS50003.lown
                    obtain ⟨v50015, h50016, hcl50017, hSc50018, rfl⟩ := correctorlaw10_within_ok F hSl50020.inv  hx50014
                    have hS50019 := St.call (A := []) (B := [.blk b49842 [v49845], .blk b49846 [v49849], .gs v49849 c49850 (csz api_Node), .blk b49851 [v49854], .gs v49854 c49855 (csz api_Node), .blk b49857 [v49860], .gs v49860 c49861 (csz api_Node)]) hSl50020 hSc50018
                    replace hS50019 : St _ _ _ _ _ _ [.blk b49842 [v49845], .blk b49846 [v49849], .gs v49849 c49850 (csz api_Node), .blk b49851 [v49854], .gs v49854 c49855 (csz api_Node), .blk b49857 [v49860], .gs v49860 c49861 (csz api_Node)] := hS50019
                    refine d_make rfl trivial hS50003 (o_call hcl50017 rfl rfl rfl) hS50019 (.still (St.lowk hSc50018)) ?_
                    intro h50021 hS50022
                    obtain ⟨Z50023, hZ50024, q50025, hS50026⟩ := (hS50022.front 4 rfl).freeze q49853
                    replace hS50026 : St _ _ _ _ _ _ [.blk b49842 [v49845], .blk b49846 [v49849], .gs v49849 c49850 (csz api_Node), .blk b49851 [v49854], .blk b49857 [v49860], .gs v49860 c49861 (csz api_Node)] := hS50026
                    obtain ⟨r50027, hx50028, ho49838⟩ := obind ho49838
                    have hSl50034 := hS50026.lown
                    have hSr50035 : St _ _ _ _ _ _ ([] ++ [.blk b49842 [v49845], .blk b49846 [v49849], .gs v49849 c49850 (csz api_Node), .blk b49851 [v49854], .blk b49857 [v49860], .gs v49860 c49861 (csz api_Node)]) := hSl50034
                    obtain ⟨v50029, h50030, Z50036, A50038, hcl50031, hSc50032, v50040, c50041, rfl, rfl, q50039⟩ := arena_Add_ok F hSr50035.preL q50025 hx50028
                    have hS50033 := hSr50035.call hSc50032
                    have hZ50037 := hSc50032.zle
                    replace hS50033 : St _ _ _ _ _ _ [.gs v50040 c50041 (csz api_Node), .blk b49842 [v49845], .blk b49846 [v49849], .gs v49849 c49850 (csz api_Node), .blk b49851 [v49854], .blk b49857 [v49860], .gs v49860 c49861 (csz api_Node)] := hS50033
                    refine d_make rfl trivial hS50026 (o_call hcl50031 rfl rfl rfl) hS50033 (.still (St.lowk hSc50032)) ?_
                    intro h50042 hS50043
                    refine d_run 3 (l' := [(91, .int .i64 r50027.2), (90, .agg #[v50040]), (64, .tuple #[.agg #[v50040], .int .i64 r50027.2]), (89, .tuple #[.agg #[v50040], .int .i64 r50027.2]), (88, .int .i64 r50013), (87, .int .i64 x49841), (86, .int .i64 x50005.C), (85, .pointer (some (elemA v48588 x49863 (csz correctorlaw10_Act) 3))), (84, .pointer (some (elemA v48588 x49863 (csz correctorlaw10_Act) 0))), (83, .int .i64 x49863), (82, v48588), (81, .int .i64 r49994), (80, .int .i64 x49841), (79, .int .i64 x49986.C), (78, .pointer (some (elemA v48588 x49863 (csz correctorlaw10_Act) 3))), (77, .pointer (some (elemA v48588 x49863 (csz correctorlaw10_Act) 0))), (76, .int .i64 x49863), (75, v48588), (74, .int .i64 r49975), (73, .int .i64 (x49852.length : Int)), (72, v49854), (71, .pointer (some ⟨b49851, 0, none⟩)), (70, .int .i64 x49969.A), (69, .pointer (some (elemA v48588 x49863 (csz correctorlaw10_Act) 1))), (68, .pointer (some (elemA v48588 x49863 (csz correctorlaw10_Act) 0))), (67, .int .i64 x49863), (66, v48588), (65, .agg #[v49854]), (61, .bool true), (0, .int .i64 x49841), (1, v48588), (5, .pointer (some ⟨b49842, 0, none⟩)), (7, .pointer (some ⟨b49846, 0, none⟩)), (8, .pointer (some ⟨b49851, 0, none⟩)), (9, .int .i64 x49856), (10, .pointer (some ⟨b49857, 0, none⟩)), (11, .int .i64 x49862), (12, .int .i64 x49863)]) (by kernel_rfl) ?_
                    refine d_ex1 rfl trivial hS50043 (o_stb (vs := [v50040]) (cells' := [v50040]) (L' := [.gs v50040 c50041 (csz api_Node), .blk b49842 [v49845], .blk b49846 [v49849], .gs v49849 c49850 (csz api_Node), .blk b49851 [v50040], .blk b49857 [v49860], .gs v49860 c49861 (csz api_Node)]) (hS50043.lown) (i := 4) rfl rfl rfl rfl (by kernel_rfl) (one_cons (hS50043.gone1 (i := 0) rfl) one_nil) rfl rfl rfl) rfl ?_
                    intro h50044 hS50045
                    refine d_forget [0, 1, 5, 7, 8, 9, 10, 11, 12] (l' := [(0, .int .i64 x49841), (1, v48588), (5, .pointer (some ⟨b49842, 0, none⟩)), (7, .pointer (some ⟨b49846, 0, none⟩)), (8, .pointer (some ⟨b49851, 0, none⟩)), (9, .int .i64 x49856), (10, .pointer (some ⟨b49857, 0, none⟩)), (11, .int .i64 x49862), (12, .int .i64 x49863)]) (by kernel_rfl) ?_
                    refine d_end rfl ?_
                    have hS50046 := hS50045.unres
                    refine W_region (R := r5_12) (by kernel_rfl) ?_
                    refine r_run 3 (l' := [(12, .int .i64 (w64 (x49863 + 1))), (63, .int .i64 (w64 (x49863 + 1))), (62, .int .i64 x49863), (0, .int .i64 x49841), (1, v48588), (5, .pointer (some ⟨b49842, 0, none⟩)), (7, .pointer (some ⟨b49846, 0, none⟩)), (8, .pointer (some ⟨b49851, 0, none⟩)), (9, .int .i64 x49856), (10, .pointer (some ⟨b49857, 0, none⟩)), (11, .int .i64 x49862), (12, .int .i64 x49863)]) (by kernel_rfl) ?_
                    refine r_forget [12, 0, 1, 5, 7, 8, 9, 10, 11] (l' := [(12, .int .i64 (w64 (x49863 + 1))), (0, .int .i64 x49841), (1, v48588), (5, .pointer (some ⟨b49842, 0, none⟩)), (7, .pointer (some ⟨b49846, 0, none⟩)), (8, .pointer (some ⟨b49851, 0, none⟩)), (9, .int .i64 x49856), (10, .pointer (some ⟨b49857, 0, none⟩)), (11, .int .i64 x49862)]) (by kernel_rfl) ?_
                    refine r_end rfl ?_
                    exact ⟨n49866, Nat.lt_succ_self _, ⟨_, x49841, x49843, x49847, r50027.1.Nodes, x49856, x49858, x49862, w64 (x49863 + 1), b49842, v49845, b49846, v49849, c49850, b49851, v50040, c50041, b49857, v49860, c49861, ho49838, (q49844.mono (hZ50024.trans hZ50037)), (q49848.mono (hZ50024.trans hZ50037)), q50039, (q49859.mono (hZ50024.trans hZ50037)), rfl, (((((((hS50046.front 6 rfl).front 6 rfl).front 2 rfl).front 6 rfl).front 6 rfl).front 6 rfl).front 6 rfl)⟩⟩
                  · refine r_step rfl rfl (o_cmp rfl rfl (c_gtr_F hp49878)) ?_
                    refine r_run 1 (l' := [(61, .bool false), (60, .bool false), (59, .int .i64 (x49852.length : Int)), (58, v49854), (57, .pointer (some ⟨b49851, 0, none⟩)), (56, .bool true), (55, .bool true), (54, .bool true), (53, .int .i64 x49863), (52, .bool true), (51, .bool true), (50, .int .i64 (a1.length : Int)), (49, v48588), (48, .int .i64 x49863), (0, .int .i64 x49841), (1, v48588), (5, .pointer (some ⟨b49842, 0, none⟩)), (7, .pointer (some ⟨b49846, 0, none⟩)), (8, .pointer (some ⟨b49851, 0, none⟩)), (9, .int .i64 x49856), (10, .pointer (some ⟨b49857, 0, none⟩)), (11, .int .i64 x49862), (12, .int .i64 x49863)]) (by kernel_rfl) ?_
                    refine r_forget [61, 0, 1, 5, 7, 8, 9, 10, 11, 12] (l' := [(61, .bool false), (0, .int .i64 x49841), (1, v48588), (5, .pointer (some ⟨b49842, 0, none⟩)), (7, .pointer (some ⟨b49846, 0, none⟩)), (8, .pointer (some ⟨b49851, 0, none⟩)), (9, .int .i64 x49856), (10, .pointer (some ⟨b49857, 0, none⟩)), (11, .int .i64 x49862), (12, .int .i64 x49863)]) (by kernel_rfl) ?_
                    refine r_end rfl ?_
                    refine W_condF (x := .tmp 61) (by kernel_rfl) rfl rfl ?_
                    refine W_exit (i := 0) (by kernel_rfl) ?_
                    refine blkX_hit ?_
                    obtain rfl := Option.some.inj ho49838
                    exact ⟨_, x49843, x49847, x49856, x49858, x49862, b49842, v49845, b49846, v49849, c49850, b49857, v49860, c49861, rfl, q49844, q49848, q49859, rfl, ((((((hS49865.front 6 rfl).front 6 rfl).front 4 rfl).front 4 rfl).front 4 rfl).takeN 5)⟩
                · refine r_step rfl rfl (o_cmp rfl rfl (c_lss_F hp49877)) ?_
                  refine r_run 7 (l' := [(61, .bool false), (60, undef), (59, undef), (58, undef), (57, undef), (56, .bool false), (55, .bool false), (54, .bool false), (53, .int .i64 x49863), (52, .bool true), (51, .bool true), (50, .int .i64 (a1.length : Int)), (49, v48588), (48, .int .i64 x49863), (0, .int .i64 x49841), (1, v48588), (5, .pointer (some ⟨b49842, 0, none⟩)), (7, .pointer (some ⟨b49846, 0, none⟩)), (8, .pointer (some ⟨b49851, 0, none⟩)), (9, .int .i64 x49856), (10, .pointer (some ⟨b49857, 0, none⟩)), (11, .int .i64 x49862), (12, .int .i64 x49863)]) (by kernel_rfl) ?_
                  refine r_forget [61, 0, 1, 5, 7, 8, 9, 10, 11, 12] (l' := [(61, .bool false), (0, .int .i64 x49841), (1, v48588), (5, .pointer (some ⟨b49842, 0, none⟩)), (7, .pointer (some ⟨b49846, 0, none⟩)), (8, .pointer (some ⟨b49851, 0, none⟩)), (9, .int .i64 x49856), (10, .pointer (some ⟨b49857, 0, none⟩)), (11, .int .i64 x49862), (12, .int .i64 x49863)]) (by kernel_rfl) ?_
                  refine r_end rfl ?_
                  refine W_condF (x := .tmp 61) (by kernel_rfl) rfl rfl ?_
                  refine W_exit (i := 0) (by kernel_rfl) ?_
                  refine blkX_hit ?_
                  obtain rfl := Option.some.inj ho49838
                  exact ⟨_, x49843, x49847, x49856, x49858, x49862, b49842, v49845, b49846, v49849, c49850, b49857, v49860, c49861, rfl, q49844, q49848, q49859, rfl, ((((((hS49865.front 6 rfl).front 6 rfl).front 4 rfl).front 4 rfl).front 4 rfl).takeN 5)⟩
              · refine r_step rfl trivial (o_cmp rfl rfl (c_lss_F hp49876)) ?_
                refine r_run 10 (l' := [(61, .bool false), (60, undef), (59, undef), (58, undef), (57, undef), (56, .bool false), (55, .bool false), (54, undef), (53, undef), (52, .bool false), (51, .bool false), (50, .int .i64 (a1.length : Int)), (49, v48588), (48, .int .i64 x49863), (0, .int .i64 x49841), (1, v48588), (5, .pointer (some ⟨b49842, 0, none⟩)), (7, .pointer (some ⟨b49846, 0, none⟩)), (8, .pointer (some ⟨b49851, 0, none⟩)), (9, .int .i64 x49856), (10, .pointer (some ⟨b49857, 0, none⟩)), (11, .int .i64 x49862), (12, .int .i64 x49863)]) (by kernel_rfl) ?_
                refine r_forget [61, 0, 1, 5, 7, 8, 9, 10, 11, 12] (l' := [(61, .bool false), (0, .int .i64 x49841), (1, v48588), (5, .pointer (some ⟨b49842, 0, none⟩)), (7, .pointer (some ⟨b49846, 0, none⟩)), (8, .pointer (some ⟨b49851, 0, none⟩)), (9, .int .i64 x49856), (10, .pointer (some ⟨b49857, 0, none⟩)), (11, .int .i64 x49862), (12, .int .i64 x49863)]) (by kernel_rfl) ?_
                refine r_end rfl ?_
                refine W_condF (x := .tmp 61) (by kernel_rfl) rfl rfl ?_
                refine W_exit (i := 0) (by kernel_rfl) ?_
                refine blkX_hit ?_
                obtain rfl := Option.some.inj ho49838
                exact ⟨_, x49843, x49847, x49856, x49858, x49862, b49842, v49845, b49846, v49849, c49850, b49857, v49860, c49861, rfl, q49844, q49848, q49859, rfl, ((((((hS49865.front 6 rfl).front 6 rfl).front 4 rfl).front 4 rfl).front 4 rfl).takeN 5)⟩
      · refine r_step rfl rfl (o_cmp rfl rfl (c_neq_T hp49405)) ?_
        refine r_run 7 (l' := [(47, .bool true), (46, undef), (45, undef), (44, undef), (43, undef), (42, .bool true), (41, .bool true), (40, .bool true), (39, .int .i64 r49376.2), (38, .bool false), (37, .bool false), (36, .int .i64 r49357.2), (11, .int .i64 r49376.2), (10, .pointer (some ⟨b49390, 0, none⟩)), (9, .int .i64 r49357.2), (8, .pointer (some ⟨b49371, 0, none⟩)), (7, .pointer (some ⟨b49352, 0, none⟩)), (5, .pointer (some ⟨b49329, 0, none⟩)), (0, .int .i64 (w64 (5 + r49290))), (1, v48588)]) (by kernel_rfl) ?_
        refine r_forget [47, 11, 10, 9, 8, 7, 5, 0, 1] (l' := [(47, .bool true), (11, .int .i64 r49376.2), (10, .pointer (some ⟨b49390, 0, none⟩)), (9, .int .i64 r49357.2), (8, .pointer (some ⟨b49371, 0, none⟩)), (7, .pointer (some ⟨b49352, 0, none⟩)), (5, .pointer (some ⟨b49329, 0, none⟩)), (0, .int .i64 (w64 (5 + r49290))), (1, v48588)]) (by kernel_rfl) ?_
        refine r_end rfl ?_
        refine W_condT (x := .tmp 47) (by kernel_rfl) rfl rfl ?_
        refine W_seq (by kernel_rfl) ?_
        refine W_region (R := r5_9) (by kernel_rfl) ?_
        refine r_run 1 (l' := [(4, .bool false), (47, .bool true), (11, .int .i64 r49376.2), (10, .pointer (some ⟨b49390, 0, none⟩)), (9, .int .i64 r49357.2), (8, .pointer (some ⟨b49371, 0, none⟩)), (7, .pointer (some ⟨b49352, 0, none⟩)), (5, .pointer (some ⟨b49329, 0, none⟩)), (0, .int .i64 (w64 (5 + r49290))), (1, v48588)]) (by kernel_rfl) ?_
        refine r_forget [4] (l' := [(4, .bool false)]) (by kernel_rfl) ?_
        refine r_end rfl ?_
        refine W_ret (by kernel_rfl) ?_
        refine ⟨rfl, ?_⟩
        obtain rfl := Option.some.inj hm
        refine ⟨_, _, _, ResL.tmp rfl (ResL.nil), hS49394, ?_⟩
        exact rfl
    · refine r_step rfl trivial (o_cmp rfl rfl (c_neq_T hp49404)) ?_
      refine r_run 10 (l' := [(47, .bool true), (46, undef), (45, undef), (44, undef), (43, undef), (42, .bool true), (41, .bool true), (40, undef), (39, undef), (38, .bool true), (37, .bool true), (36, .int .i64 r49357.2), (11, .int .i64 r49376.2), (10, .pointer (some ⟨b49390, 0, none⟩)), (9, .int .i64 r49357.2), (8, .pointer (some ⟨b49371, 0, none⟩)), (7, .pointer (some ⟨b49352, 0, none⟩)), (5, .pointer (some ⟨b49329, 0, none⟩)), (0, .int .i64 (w64 (5 + r49290))), (1, v48588)]) (by kernel_rfl) ?_
      refine r_forget [47, 11, 10, 9, 8, 7, 5, 0, 1] (l' := [(47, .bool true), (11, .int .i64 r49376.2), (10, .pointer (some ⟨b49390, 0, none⟩)), (9, .int .i64 r49357.2), (8, .pointer (some ⟨b49371, 0, none⟩)), (7, .pointer (some ⟨b49352, 0, none⟩)), (5, .pointer (some ⟨b49329, 0, none⟩)), (0, .int .i64 (w64 (5 + r49290))), (1, v48588)]) (by kernel_rfl) ?_
      refine r_end rfl ?_
      refine W_condT (x := .tmp 47) (by kernel_rfl) rfl rfl ?_
      refine W_seq (by kernel_rfl) ?_
      refine W_region (R := r5_9) (by kernel_rfl) ?_
      refine r_run 1 (l' := [(4, .bool false), (47, .bool true), (11, .int .i64 r49376.2), (10, .pointer (some ⟨b49390, 0, none⟩)), (9, .int .i64 r49357.2), (8, .pointer (some ⟨b49371, 0, none⟩)), (7, .pointer (some ⟨b49352, 0, none⟩)), (5, .pointer (some ⟨b49329, 0, none⟩)), (0, .int .i64 (w64 (5 + r49290))), (1, v48588)]) (by kernel_rfl) ?_
      refine r_forget [4] (l' := [(4, .bool false)]) (by kernel_rfl) ?_
      refine r_end rfl ?_
      refine W_ret (by kernel_rfl) ?_
      refine ⟨rfl, ?_⟩
      obtain rfl := Option.some.inj hm
      refine ⟨_, _, _, ResL.tmp rfl (ResL.nil), hS49394, ?_⟩
      exact rfl
  · refine r_setb (t := 13) rfl (Bool.eq_false_iff.2 hp49289) ?_
    refine r_run 1 (l' := [(14, .bool true), (13, .bool false), (13, .bool r49282), (0, .int .i64 a0), (1, v48588)]) (by kernel_rfl) ?_
    refine r_forget [14, 0, 1] (l' := [(14, .bool true), (0, .int .i64 a0), (1, v48588)]) (by kernel_rfl) ?_
    refine r_end rfl ?_
    refine W_condT (x := .tmp 14) (by kernel_rfl) rfl rfl ?_
    refine W_seq (by kernel_rfl) ?_
    refine W_region (R := r5_2) (by kernel_rfl) ?_
    refine r_run 1 (l' := [(4, .bool false), (14, .bool true), (0, .int .i64 a0), (1, v48588)]) (by kernel_rfl) ?_
    refine r_forget [4] (l' := [(4, .bool false)]) (by kernel_rfl) ?_
    refine r_end rfl ?_
    refine W_ret (by kernel_rfl) ?_
    refine ⟨rfl, ?_⟩
    obtain rfl := Option.some.inj hm
    refine ⟨_, _, _, ResL.tmp rfl (ResL.nil), hS49288, ?_⟩
    exact rfl

end Go.Proofs.Ytpijjenaadkjdaa.M
