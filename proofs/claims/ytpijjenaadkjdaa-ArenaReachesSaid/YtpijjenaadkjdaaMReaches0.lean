/- Printed by a program of this session: Go functions as Lean functions over plain data, and that the calls come to them. -/
import Derived.Test.YtpijjenaadkjdaaSyF
import Derived.Test.YtpijjenaadkjdaaChecked
import Derived.KernelRfl
import Derived.Test.YtpijjenaadkjdaaMB0
namespace Go.Proofs.Ytpijjenaadkjdaa.M
open Go Am Sy
open Sy.Cell (rc)
set_option linter.unusedVariables false
set_option linter.unusedSimpArgs false
set_option maxRecDepth 20000

def r7_0 : List COp := [⟨none, some 6, (Go.Op.assign (Go.Operand.const (Go.Value.bool false)))⟩]
def r7_1 : List COp := [⟨none, some 13, (Go.Op.call { callee := (Go.Callee.value (Go.Operand.func 8)), args := #[], argTypes := #[] })⟩,
  ⟨none, some 14, (Go.Op.unOp Go.UnOp.not 4 (Go.Operand.tmp 13))⟩]
def r7_2 : List COp := [⟨none, some 6, (Go.Op.assign (Go.Operand.const (Go.Value.bool false)))⟩]
def r7_3 : List COp := [⟨none, some 15, (Go.Op.move (Go.Operand.tmp 0))⟩,
  ⟨none, some 16, (Go.Op.call { callee := (Go.Callee.value (Go.Operand.func 9)), args := #[(Go.Operand.tmp 15), (Go.Operand.const (Go.Value.int Go.IntKind.i64 40))], argTypes := #[3, 3] })⟩,
  ⟨none, some 17, (Go.Op.binOp Go.BinOp.add 3 (Go.Operand.const (Go.Value.int Go.IntKind.i64 20)) (Go.Operand.tmp 16) 3)⟩,
  ⟨none, some 18, (Go.Op.move (Go.Operand.tmp 1))⟩,
  ⟨none, some 19, (Go.Op.call { callee := (Go.Callee.value (Go.Operand.func 9)), args := #[(Go.Operand.tmp 18), (Go.Operand.const (Go.Value.int Go.IntKind.i64 12))], argTypes := #[3, 3] })⟩,
  ⟨none, some 20, (Go.Op.binOp Go.BinOp.add 3 (Go.Operand.const (Go.Value.int Go.IntKind.i64 1)) (Go.Operand.tmp 19) 3)⟩,
  ⟨none, some 0, (Go.Op.assign (Go.Operand.tmp 17))⟩,
  ⟨none, some 1, (Go.Op.assign (Go.Operand.tmp 20))⟩]
def r7_4 : List COp := [⟨none, some 21, (Go.Op.move (Go.Operand.tmp 0))⟩,
  ⟨none, some 22, (Go.Op.call { callee := (Go.Callee.value (Go.Operand.func 10)), args := #[(Go.Operand.tmp 21)], argTypes := #[3] })⟩,
  ⟨none, some 7, (Go.Op.alloc 27)⟩,
  ⟨none, none, (Go.Op.store 27 (Go.Operand.tmp 7) (Go.Operand.tmp 22))⟩]
def r7_5 : List COp := [⟨none, some 8, (Go.Op.assign (Go.Operand.const (Go.Value.int Go.IntKind.i64 0)))⟩]
def r7_6 : List COp := [⟨none, some 23, (Go.Op.move (Go.Operand.tmp 8))⟩,
  ⟨none, some 24, (Go.Op.move (Go.Operand.tmp 1))⟩,
  ⟨none, some 25, (Go.Op.binOp Go.BinOp.lss 3 (Go.Operand.tmp 23) (Go.Operand.tmp 24) 3)⟩]
def r7_7 : List COp := [⟨none, some 26, (Go.Op.move (Go.Operand.tmp 8))⟩,
  ⟨none, some 27, (Go.Op.binOp Go.BinOp.add 3 (Go.Operand.tmp 26) (Go.Operand.const (Go.Value.int Go.IntKind.i64 1)) 3)⟩,
  ⟨none, some 8, (Go.Op.assign (Go.Operand.tmp 27))⟩]
def r7_8 : List COp := [⟨none, some 29, (Go.Op.load 27 (Go.Operand.tmp 7))⟩,
  ⟨none, some 30, (Go.Op.move (Go.Operand.tmp 8))⟩,
  ⟨none, some 31, (Go.Op.move (Go.Operand.tmp 8))⟩,
  ⟨none, some 32, (Go.Op.move (Go.Operand.tmp 8))⟩,
  ⟨none, some 33, (Go.Op.binOp Go.BinOp.add 3 (Go.Operand.tmp 32) (Go.Operand.const (Go.Value.int Go.IntKind.i64 1)) 3)⟩,
  ⟨none, some 34, (Go.Op.call { callee := (Go.Callee.value (Go.Operand.func 14)), args := #[(Go.Operand.tmp 29), (Go.Operand.tmp 30), (Go.Operand.const (Go.Value.int Go.IntKind.i64 3)), (Go.Operand.tmp 31), (Go.Operand.tmp 33)], argTypes := #[27, 3, 3, 3, 3] })⟩,
  ⟨none, some 28, (Go.Op.move (Go.Operand.tmp 34))⟩,
  ⟨none, some 35, (Go.Op.extract (Go.Operand.tmp 28) 0)⟩,
  ⟨none, some 36, (Go.Op.extract (Go.Operand.tmp 28) 1)⟩,
  ⟨none, some 9, (Go.Op.alloc 27)⟩,
  ⟨none, none, (Go.Op.store 27 (Go.Operand.tmp 9) (Go.Operand.tmp 35))⟩,
  ⟨none, some 10, (Go.Op.assign (Go.Operand.tmp 36))⟩]
def r7_9 : List COp := [⟨none, some 37, (Go.Op.move (Go.Operand.tmp 10))⟩,
  ⟨none, some 38, (Go.Op.move (Go.Operand.tmp 8))⟩,
  ⟨none, some 39, (Go.Op.binOp Go.BinOp.add 3 (Go.Operand.tmp 38) (Go.Operand.const (Go.Value.int Go.IntKind.i64 1)) 3)⟩,
  ⟨none, some 40, (Go.Op.binOp Go.BinOp.neq 3 (Go.Operand.tmp 37) (Go.Operand.tmp 39) 3)⟩]
def r7_10 : List COp := [⟨none, some 6, (Go.Op.assign (Go.Operand.const (Go.Value.bool false)))⟩]
def r7_11 : List COp := [⟨none, some 41, (Go.Op.load 27 (Go.Operand.tmp 9))⟩,
  ⟨none, none, (Go.Op.store 27 (Go.Operand.tmp 7) (Go.Operand.tmp 41))⟩]
def r7_12 : List COp := [⟨none, some 42, (Go.Op.move (Go.Operand.tmp 1))⟩,
  ⟨none, some 43, (Go.Op.move (Go.Operand.tmp 2))⟩,
  ⟨none, some 44, (Go.Op.move (Go.Operand.tmp 0))⟩,
  ⟨none, some 45, (Go.Op.move (Go.Operand.tmp 1))⟩,
  ⟨none, some 46, (Go.Op.binOp Go.BinOp.sub 3 (Go.Operand.tmp 44) (Go.Operand.tmp 45) 3)⟩,
  ⟨none, some 47, (Go.Op.binOp Go.BinOp.add 3 (Go.Operand.tmp 46) (Go.Operand.const (Go.Value.int Go.IntKind.i64 1)) 3)⟩,
  ⟨none, some 48, (Go.Op.call { callee := (Go.Callee.value (Go.Operand.func 9)), args := #[(Go.Operand.tmp 43), (Go.Operand.tmp 47)], argTypes := #[3, 3] })⟩,
  ⟨none, some 49, (Go.Op.binOp Go.BinOp.add 3 (Go.Operand.tmp 42) (Go.Operand.tmp 48) 3)⟩,
  ⟨none, some 2, (Go.Op.assign (Go.Operand.tmp 49))⟩]
def r7_13 : List COp := [⟨none, some 50, (Go.Op.load 27 (Go.Operand.tmp 7))⟩,
  ⟨none, some 51, (Go.Op.move (Go.Operand.tmp 1))⟩,
  ⟨none, some 52, (Go.Op.move (Go.Operand.tmp 2))⟩,
  ⟨none, some 53, (Go.Op.call { callee := (Go.Callee.value (Go.Operand.func 16)), args := #[(Go.Operand.tmp 50), (Go.Operand.tmp 51), (Go.Operand.tmp 52)], argTypes := #[27, 3, 3] })⟩,
  ⟨none, some 11, (Go.Op.alloc 27)⟩,
  ⟨none, none, (Go.Op.store 27 (Go.Operand.tmp 11) (Go.Operand.tmp 53))⟩]
def r7_14 : List COp := [⟨none, some 54, (Go.Op.fieldAddr 27 (Go.Operand.tmp 11) 0)⟩,
  ⟨none, some 55, (Go.Op.load 25 (Go.Operand.tmp 54))⟩,
  ⟨none, some 56, (Go.Op.call { callee := (Go.Callee.builtin Go.Builtin.len), args := #[(Go.Operand.tmp 55)], argTypes := #[25] })⟩,
  ⟨none, some 57, (Go.Op.move (Go.Operand.tmp 1))⟩,
  ⟨none, some 58, (Go.Op.binOp Go.BinOp.add 3 (Go.Operand.tmp 57) (Go.Operand.const (Go.Value.int Go.IntKind.i64 1)) 3)⟩,
  ⟨none, some 59, (Go.Op.binOp Go.BinOp.neq 3 (Go.Operand.tmp 56) (Go.Operand.tmp 58) 3)⟩,
  ⟨none, some 60, (Go.Op.move (Go.Operand.tmp 59))⟩,
  ⟨(some (some 60, false)), some 61, (Go.Op.fieldAddr 27 (Go.Operand.tmp 11) 0)⟩,
  ⟨(some (some 60, false)), some 62, (Go.Op.load 25 (Go.Operand.tmp 61))⟩,
  ⟨(some (some 60, false)), some 63, (Go.Op.indexAddr 25 (Go.Operand.tmp 62) (Go.Operand.const (Go.Value.int Go.IntKind.i64 0)))⟩,
  ⟨(some (some 60, false)), some 64, (Go.Op.fieldAddr 46 (Go.Operand.tmp 63) 2)⟩,
  ⟨(some (some 60, false)), some 65, (Go.Op.load 3 (Go.Operand.tmp 64))⟩,
  ⟨(some (some 60, false)), some 66, (Go.Op.move (Go.Operand.tmp 0))⟩,
  ⟨(some (some 60, false)), some 67, (Go.Op.binOp Go.BinOp.neq 3 (Go.Operand.tmp 65) (Go.Operand.tmp 66) 3)⟩,
  ⟨none, some 68, (Go.Op.pick (Go.Operand.tmp 60) (Go.Operand.const (Go.Value.bool true)) (Go.Operand.tmp 67))⟩]
def r7_15 : List COp := [⟨none, some 6, (Go.Op.assign (Go.Operand.const (Go.Value.bool false)))⟩]
def r7_16 : List COp := [⟨none, some 12, (Go.Op.assign (Go.Operand.const (Go.Value.int Go.IntKind.i64 1)))⟩]
def r7_17 : List COp := [⟨none, some 69, (Go.Op.move (Go.Operand.tmp 12))⟩,
  ⟨none, some 70, (Go.Op.move (Go.Operand.tmp 1))⟩,
  ⟨none, some 71, (Go.Op.binOp Go.BinOp.leq 3 (Go.Operand.tmp 69) (Go.Operand.tmp 70) 3)⟩]
def r7_18 : List COp := [⟨none, some 72, (Go.Op.move (Go.Operand.tmp 12))⟩,
  ⟨none, some 73, (Go.Op.binOp Go.BinOp.add 3 (Go.Operand.tmp 72) (Go.Operand.const (Go.Value.int Go.IntKind.i64 1)) 3)⟩,
  ⟨none, some 12, (Go.Op.assign (Go.Operand.tmp 73))⟩]
def r7_19 : List COp := [⟨none, some 74, (Go.Op.fieldAddr 27 (Go.Operand.tmp 11) 0)⟩,
  ⟨none, some 75, (Go.Op.load 25 (Go.Operand.tmp 74))⟩,
  ⟨none, some 76, (Go.Op.move (Go.Operand.tmp 12))⟩,
  ⟨none, some 77, (Go.Op.indexAddr 25 (Go.Operand.tmp 75) (Go.Operand.tmp 76))⟩,
  ⟨none, some 78, (Go.Op.fieldAddr 46 (Go.Operand.tmp 77) 2)⟩,
  ⟨none, some 79, (Go.Op.load 3 (Go.Operand.tmp 78))⟩,
  ⟨none, some 80, (Go.Op.move (Go.Operand.tmp 2))⟩,
  ⟨none, some 81, (Go.Op.move (Go.Operand.tmp 1))⟩,
  ⟨none, some 82, (Go.Op.call { callee := (Go.Callee.builtin Go.Builtin.max), args := #[(Go.Operand.tmp 80), (Go.Operand.tmp 81)], argTypes := #[3, 3] })⟩,
  ⟨none, some 83, (Go.Op.binOp Go.BinOp.neq 3 (Go.Operand.tmp 79) (Go.Operand.tmp 82) 3)⟩,
  ⟨none, some 84, (Go.Op.move (Go.Operand.tmp 83))⟩,
  ⟨(some (some 84, false)), some 85, (Go.Op.fieldAddr 27 (Go.Operand.tmp 11) 0)⟩,
  ⟨(some (some 84, false)), some 86, (Go.Op.load 25 (Go.Operand.tmp 85))⟩,
  ⟨(some (some 84, false)), some 87, (Go.Op.move (Go.Operand.tmp 12))⟩,
  ⟨(some (some 84, false)), some 88, (Go.Op.indexAddr 25 (Go.Operand.tmp 86) (Go.Operand.tmp 87))⟩,
  ⟨(some (some 84, false)), some 89, (Go.Op.fieldAddr 46 (Go.Operand.tmp 88) 1)⟩,
  ⟨(some (some 84, false)), some 90, (Go.Op.load 3 (Go.Operand.tmp 89))⟩,
  ⟨(some (some 84, false)), some 91, (Go.Op.move (Go.Operand.tmp 12))⟩,
  ⟨(some (some 84, false)), some 92, (Go.Op.binOp Go.BinOp.sub 3 (Go.Operand.tmp 91) (Go.Operand.const (Go.Value.int Go.IntKind.i64 1)) 3)⟩,
  ⟨(some (some 84, false)), some 93, (Go.Op.binOp Go.BinOp.neq 3 (Go.Operand.tmp 90) (Go.Operand.tmp 92) 3)⟩,
  ⟨none, some 94, (Go.Op.pick (Go.Operand.tmp 84) (Go.Operand.const (Go.Value.bool true)) (Go.Operand.tmp 93))⟩,
  ⟨none, some 95, (Go.Op.move (Go.Operand.tmp 94))⟩,
  ⟨(some (some 95, false)), some 96, (Go.Op.fieldAddr 27 (Go.Operand.tmp 11) 0)⟩,
  ⟨(some (some 95, false)), some 97, (Go.Op.load 25 (Go.Operand.tmp 96))⟩,
  ⟨(some (some 95, false)), some 98, (Go.Op.move (Go.Operand.tmp 12))⟩,
  ⟨(some (some 95, false)), some 99, (Go.Op.indexAddr 25 (Go.Operand.tmp 97) (Go.Operand.tmp 98))⟩,
  ⟨(some (some 95, false)), some 100, (Go.Op.fieldAddr 46 (Go.Operand.tmp 99) 3)⟩,
  ⟨(some (some 95, false)), some 101, (Go.Op.load 3 (Go.Operand.tmp 100))⟩,
  ⟨(some (some 95, false)), some 102, (Go.Op.move (Go.Operand.tmp 12))⟩,
  ⟨(some (some 95, false)), some 103, (Go.Op.binOp Go.BinOp.sub 3 (Go.Operand.tmp 102) (Go.Operand.const (Go.Value.int Go.IntKind.i64 1)) 3)⟩,
  ⟨(some (some 95, false)), some 104, (Go.Op.binOp Go.BinOp.neq 3 (Go.Operand.tmp 101) (Go.Operand.tmp 103) 3)⟩,
  ⟨none, some 105, (Go.Op.pick (Go.Operand.tmp 95) (Go.Operand.const (Go.Value.bool true)) (Go.Operand.tmp 104))⟩]
def r7_20 : List COp := [⟨none, some 6, (Go.Op.assign (Go.Operand.const (Go.Value.bool false)))⟩]
def r7_21 : List COpD := [⟨none, some 106, (Go.Op.load 27 (Go.Operand.tmp 11)), .look, false, true⟩,
  ⟨none, some 107, (Go.Op.move (Go.Operand.tmp 0)), .pure, false, true⟩,
  ⟨none, some 108, (Go.Op.call { callee := (Go.Callee.value (Go.Operand.func 20)), args := #[(Go.Operand.tmp 106), (Go.Operand.tmp 107)], argTypes := #[27, 3] }), .make, true, false⟩,
  ⟨none, some 109, (Go.Op.move (Go.Operand.tmp 108)), .pure, true, true⟩,
  ⟨(some (some 109, true)), some 110, (Go.Op.load 27 (Go.Operand.tmp 7)), .look, false, true⟩,
  ⟨(some (some 109, true)), some 111, (Go.Op.move (Go.Operand.tmp 0)), .pure, false, true⟩,
  ⟨(some (some 109, true)), some 112, (Go.Op.call { callee := (Go.Callee.value (Go.Operand.func 20)), args := #[(Go.Operand.tmp 110), (Go.Operand.tmp 111)], argTypes := #[27, 3] }), .make, true, false⟩,
  ⟨none, some 113, (Go.Op.pick (Go.Operand.tmp 109) (Go.Operand.tmp 112) (Go.Operand.const (Go.Value.bool false))), .pure, true, true⟩,
  ⟨none, some 114, (Go.Op.move (Go.Operand.tmp 113)), .pure, true, true⟩,
  ⟨(some (some 114, true)), some 115, (Go.Op.load 27 (Go.Operand.tmp 11)), .look, false, true⟩,
  ⟨(some (some 114, true)), some 116, (Go.Op.move (Go.Operand.tmp 1)), .pure, false, true⟩,
  ⟨(some (some 114, true)), some 117, (Go.Op.move (Go.Operand.tmp 0)), .pure, false, true⟩,
  ⟨(some (some 114, true)), some 118, (Go.Op.binOp Go.BinOp.add 3 (Go.Operand.tmp 117) (Go.Operand.const (Go.Value.int Go.IntKind.i64 1)) 3), .pure, false, true⟩,
  ⟨(some (some 114, true)), some 119, (Go.Op.call { callee := (Go.Callee.value (Go.Operand.func 16)), args := #[(Go.Operand.tmp 115), (Go.Operand.tmp 116), (Go.Operand.tmp 118)], argTypes := #[27, 3, 3] }), .make, false, false⟩,
  ⟨(some (some 114, true)), some 120, (Go.Op.load 27 (Go.Operand.tmp 11)), .look, false, false⟩,
  ⟨(some (some 114, true)), some 121, (Go.Op.call { callee := (Go.Callee.value (Go.Operand.func 18)), args := #[(Go.Operand.tmp 119), (Go.Operand.tmp 120)], argTypes := #[27, 27] }), .make, true, false⟩,
  ⟨none, some 122, (Go.Op.pick (Go.Operand.tmp 114) (Go.Operand.tmp 121) (Go.Operand.const (Go.Value.bool false))), .pure, true, true⟩,
  ⟨none, some 123, (Go.Op.move (Go.Operand.tmp 122)), .pure, true, true⟩,
  ⟨(some (some 123, true)), some 124, (Go.Op.load 27 (Go.Operand.tmp 11)), .look, false, true⟩,
  ⟨(some (some 123, true)), some 125, (Go.Op.call { callee := (Go.Callee.value (Go.Operand.func 16)), args := #[(Go.Operand.tmp 124), (Go.Operand.const (Go.Value.int Go.IntKind.i64 (-1))), (Go.Operand.const (Go.Value.int Go.IntKind.i64 3))], argTypes := #[27, 3, 3] }), .make, false, false⟩,
  ⟨(some (some 123, true)), some 126, (Go.Op.load 27 (Go.Operand.tmp 11)), .look, false, false⟩,
  ⟨(some (some 123, true)), some 127, (Go.Op.call { callee := (Go.Callee.value (Go.Operand.func 18)), args := #[(Go.Operand.tmp 125), (Go.Operand.tmp 126)], argTypes := #[27, 27] }), .make, true, false⟩,
  ⟨none, some 128, (Go.Op.pick (Go.Operand.tmp 123) (Go.Operand.tmp 127) (Go.Operand.const (Go.Value.bool false))), .pure, true, true⟩,
  ⟨none, some 6, (Go.Op.assign (Go.Operand.tmp 128)), .pure, true, true⟩]
def correctorlaw10_ArenaReaches_l0 (F : Nat) (a0 : Int) (a1 : Int) (a2 : Int) : Nat → Int → Int → Int → (List api_Node) → Int → Option (Sum (Int × Int × Int × (List api_Node)) Bool)
  | 0, _, _, _, _, _ => none
  | n + 1, x51210, x51211, x51212, x51214, x51218 =>
    if x51218 < x51211 then
      (arena_Add F (⟨x51214⟩ : arena_Tree) x51218 3 x51218 (w64 (x51218 + 1))).bind fun r51259 =>
      if r51259.2 = (w64 (x51218 + 1)) then
        correctorlaw10_ArenaReaches_l0 F a0 a1 a2 n x51210 x51211 x51212 r51259.1.Nodes (w64 (x51218 + 1))
      else
        some (.inr false)
    else
      some (.inl (x51210, x51211, x51212, x51214))
def correctorlaw10_ArenaReaches_l1 (F : Nat) (a0 : Int) (a1 : Int) (a2 : Int) : Nat → Int → Int → Int → (List api_Node) → (List api_Node) → Int → Option (Sum (Int × Int × (List api_Node) × (List api_Node)) Bool)
  | 0, _, _, _, _, _, _ => none
  | n + 1, x51674, x51675, x51676, x51678, x51682, x51686 =>
    if x51686 ≤ x51675 then
      if 0 ≤ x51686 ∧ x51686 < (x51682.length : Int) then
        (x51682[x51686.toNat]?).bind fun x51785 =>
        if x51785.To = (imax x51676 x51675) then
          if 0 ≤ x51686 ∧ x51686 < (x51682.length : Int) then
            (x51682[x51686.toNat]?).bind fun x51795 =>
            if x51795.From = (w64 (x51686 - 1)) then
              if 0 ≤ x51686 ∧ x51686 < (x51682.length : Int) then
                (x51682[x51686.toNat]?).bind fun x51805 =>
                if x51805.Up = (w64 (x51686 - 1)) then
                  correctorlaw10_ArenaReaches_l1 F a0 a1 a2 n x51674 x51675 x51676 x51678 x51682 (w64 (x51686 + 1))
                else
                  some (.inr false)
              else none
            else
              some (.inr false)
          else none
        else
          some (.inr false)
      else none
    else
      some (.inl (x51674, x51675, x51678, x51682))
def correctorlaw10_ArenaReaches (F : Nat) (a0 : Int) (a1 : Int) (a2 : Int) : Option Bool :=
  (correctorlaw10_known F).bind fun r51007 =>
  if r51007 = true then
    (correctorlaw10_within F a0 40).bind fun r51015 =>
    (correctorlaw10_within F a1 12).bind fun r51022 =>
    (arena_New F (w64 (20 + r51015))).bind fun r51029 =>
    ((correctorlaw10_ArenaReaches_l0 F a0 a1 a2 F (w64 (20 + r51015)) (w64 (1 + r51022)) a2 r51029.Nodes 0) : Option (Sum (Int × Int × Int × (List api_Node)) Bool)).bind fun o => match o with
      | .inl (x51293, x51294, x51295, x51297) => (correctorlaw10_within F x51295 (w64 ((w64 (x51293 - x51294)) + 1))).bind fun r51303 =>
      (arena_Grow F (⟨x51297⟩ : arena_Tree) x51294 (w64 (x51294 + r51303))).bind fun r51314 =>
      if (r51314.Nodes.length : Int) = (w64 (x51294 + 1)) then
        if 0 ≤ (0 : Int) ∧ (0 : Int) < (r51314.Nodes.length : Int) then
          (r51314.Nodes[(0 : Int).toNat]?).bind fun x51368 =>
          if x51368.To = x51293 then
            ((correctorlaw10_ArenaReaches_l1 F a0 a1 a2 F x51293 x51294 (w64 (x51294 + r51303)) x51297 r51314.Nodes 1) : Option (Sum (Int × Int × (List api_Node) × (List api_Node)) Bool)).bind fun o => match o with
              | .inl (x51826, x51827, x51829, x51833) => (arena_Check F (⟨x51833⟩ : arena_Tree) x51826).bind fun r51946 =>
              if r51946 = true then
                (arena_Check F (⟨x51829⟩ : arena_Tree) x51826).bind fun r51957 =>
                if r51957 = true then
                  (arena_Grow F (⟨x51833⟩ : arena_Tree) x51827 (w64 (x51826 + 1))).bind fun r51968 =>
                  (arena_Same F r51968 (⟨x51833⟩ : arena_Tree)).bind fun r51990 =>
                  if r51990 = true then
                    (arena_Grow F (⟨x51833⟩ : arena_Tree) (-1) 3).bind fun r52001 =>
                    (arena_Same F r52001 (⟨x51833⟩ : arena_Tree)).bind fun r52023 =>
                    some r52023
                  else
                    some false
                else
                  some false
              else
                some false
              | .inr y => some y
          else
            some false
        else none
      else
        some false
      | .inr y => some y
  else
    some false
theorem correctorlaw10_ArenaReaches_ok (F : Nat) {h : AH} {Z : Zn} {a0 : Int} {a1 : Int} {a2 : Int} (hI : Inv Z h) {r : Bool} (hm : correctorlaw10_ArenaReaches F a0 a1 a2 = some r) :
    ∃ v h', callI Go.Proofs.Try.prog 7 [.int .i64 a0, .int .i64 a1, .int .i64 a2] h = some (v, h') ∧ St h [] Z (0, 0) Z h' [] ∧ v = .bool r := by
  refine fn_plain (Q := fun v => v = .bool r) Go.Proofs.Try.func7 rfl rfl hI ?_
  intro hs hS
  unfold correctorlaw10_ArenaReaches at hm
  refine W_seq (by kernel_rfl) ?_
  refine W_region (R := r7_0) (by kernel_rfl) ?_
  refine r_run 1 (l' := [(6, .bool false), (0, .int .i64 a0), (1, .int .i64 a1), (2, .int .i64 a2)]) (by kernel_rfl) ?_
  refine r_forget [0, 1, 2] (l' := [(0, .int .i64 a0), (1, .int .i64 a1), (2, .int .i64 a2)]) (by kernel_rfl) ?_
  refine r_end rfl ?_
  refine W_seq (by kernel_rfl) ?_
  refine W_seq (by kernel_rfl) ?_
  refine W_region (R := r7_1) (by kernel_rfl) ?_
  obtain ⟨r51007, hx51008, hm⟩ := obind hm
  obtain ⟨v51009, h51010, hcl51011, hSc51012, rfl⟩ := correctorlaw10_known_ok F hS.inv  hx51008
  have hS51013 := St.call (A := []) (B := []) hS hSc51012
  replace hS51013 : St _ _ _ _ _ _ [] := hS51013
  refine r_step rfl trivial (o_call hcl51011 rfl rfl rfl) ?_
  rcases ifs hm with ⟨hp51014, hm⟩ | ⟨hp51014, hm⟩
  · refine r_setb (t := 13) rfl hp51014 ?_
    refine r_run 1 (l' := [(14, .bool false), (13, .bool true), (13, .bool r51007), (0, .int .i64 a0), (1, .int .i64 a1), (2, .int .i64 a2)]) (by kernel_rfl) ?_
    refine r_forget [14, 0, 1, 2] (l' := [(14, .bool false), (0, .int .i64 a0), (1, .int .i64 a1), (2, .int .i64 a2)]) (by kernel_rfl) ?_
    refine r_end rfl ?_
    refine W_condF (x := .tmp 14) (by kernel_rfl) rfl rfl ?_
    refine W_skip (by kernel_rfl) ?_
    refine W_seq (by kernel_rfl) ?_
    refine W_region (R := r7_3) (by kernel_rfl) ?_
    refine r_run 1 (l' := [(15, .int .i64 a0), (14, .bool false), (0, .int .i64 a0), (1, .int .i64 a1), (2, .int .i64 a2)]) (by kernel_rfl) ?_
    obtain ⟨r51015, hx51016, hm⟩ := obind hm
    obtain ⟨v51017, h51018, hcl51019, hSc51020, rfl⟩ := correctorlaw10_within_ok F hS51013.inv  hx51016
    have hS51021 := St.call (A := []) (B := []) hS51013 hSc51020
    replace hS51021 : St _ _ _ _ _ _ [] := hS51021
    refine r_step rfl trivial (o_call hcl51019 rfl rfl rfl) ?_
    refine r_run 2 (l' := [(18, .int .i64 a1), (17, .int .i64 (w64 (20 + r51015))), (16, .int .i64 r51015), (15, .int .i64 a0), (14, .bool false), (0, .int .i64 a0), (1, .int .i64 a1), (2, .int .i64 a2)]) (by kernel_rfl) ?_
    obtain ⟨r51022, hx51023, hm⟩ := obind hm
    obtain ⟨v51024, h51025, hcl51026, hSc51027, rfl⟩ := correctorlaw10_within_ok F hS51021.inv  hx51023
    have hS51028 := St.call (A := []) (B := []) hS51021 hSc51027
    replace hS51028 : St _ _ _ _ _ _ [] := hS51028
    refine r_step rfl trivial (o_call hcl51026 rfl rfl rfl) ?_
    refine r_run 3 (l' := [(1, .int .i64 (w64 (1 + r51022))), (0, .int .i64 (w64 (20 + r51015))), (20, .int .i64 (w64 (1 + r51022))), (19, .int .i64 r51022), (18, .int .i64 a1), (17, .int .i64 (w64 (20 + r51015))), (16, .int .i64 r51015), (15, .int .i64 a0), (14, .bool false), (0, .int .i64 a0), (1, .int .i64 a1), (2, .int .i64 a2)]) (by kernel_rfl) ?_
    refine r_forget [1, 0, 2] (l' := [(1, .int .i64 (w64 (1 + r51022))), (0, .int .i64 (w64 (20 + r51015))), (2, .int .i64 a2)]) (by kernel_rfl) ?_
    refine r_end rfl ?_
    refine W_seq (by kernel_rfl) ?_
    refine W_region (R := r7_4) (by kernel_rfl) ?_
    refine r_run 1 (l' := [(21, .int .i64 (w64 (20 + r51015))), (1, .int .i64 (w64 (1 + r51022))), (0, .int .i64 (w64 (20 + r51015))), (2, .int .i64 a2)]) (by kernel_rfl) ?_
    obtain ⟨r51029, hx51030, hm⟩ := obind hm
    have hSr51036 : St _ _ _ _ _ _ ([] ++ []) := hS51028
    obtain ⟨v51031, h51032, Z51037, A51039, hcl51033, hSc51034, v51041, c51042, rfl, rfl, q51040⟩ := arena_New_ok F hSr51036.preL  hx51030
    have hS51035 := hSr51036.call hSc51034
    have hZ51038 := hSc51034.zle
    replace hS51035 : St _ _ _ _ _ _ [.gs v51041 c51042 (csz api_Node)] := hS51035
    refine r_step rfl trivial (o_call hcl51033 rfl rfl rfl) ?_
    refine r_blk rfl trivial (o_alloc (cs := [.slice none 0 0]) (by kernel_rfl)) hS51035 ?_
    intro b51043 h51044 hS51045
    refine r_ex1 rfl trivial (o_stb (vs := [v51041]) (cells' := [v51041]) (L' := [.blk b51043 [v51041], .gs v51041 c51042 (csz api_Node)]) hS51045 (i := 0) rfl rfl rfl rfl (by kernel_rfl) (one_cons (hS51045.gone1 (i := 1) rfl) one_nil) rfl rfl rfl) ?_
    intro h51046 hS51047
    refine r_forget [7, 1, 0, 2] (l' := [(7, .pointer (some ⟨b51043, 0, none⟩)), (1, .int .i64 (w64 (1 + r51022))), (0, .int .i64 (w64 (20 + r51015))), (2, .int .i64 a2)]) (by kernel_rfl) ?_
    refine r_end rfl ?_
    refine W_seq (by kernel_rfl) ?_
    refine W_seq (by kernel_rfl) ?_
    refine W_region (R := r7_5) (by kernel_rfl) ?_
    refine r_run 1 (l' := [(8, .int .i64 0), (7, .pointer (some ⟨b51043, 0, none⟩)), (1, .int .i64 (w64 (1 + r51022))), (0, .int .i64 (w64 (20 + r51015))), (2, .int .i64 a2)]) (by kernel_rfl) ?_
    refine r_forget [8, 7, 1, 0, 2] (l' := [(8, .int .i64 0), (7, .pointer (some ⟨b51043, 0, none⟩)), (1, .int .i64 (w64 (1 + r51022))), (0, .int .i64 (w64 (20 + r51015))), (2, .int .i64 a2)]) (by kernel_rfl) ?_
    refine r_end rfl ?_
    obtain ⟨o51208, ho51207, hm⟩ := obind hm
    refine W_join [0, 1, 2, 7] (fun l h => ∃ Z51292 : Zn, ∃ x51293 : Int, ∃ x51294 : Int, ∃ x51295 : Int, ∃ x51297 : List api_Node, ∃ b51296 : Nat, ∃ v51299 : Value, ∃ c51300 : List Value, .inl (x51293, x51294, x51295, x51297) = o51208 ∧ RCs (α := api_Node) Z51292 c51300 x51297 ∧ l = [(0, .int .i64 x51293), (1, .int .i64 x51294), (2, .int .i64 x51295), (7, .pointer (some ⟨b51296, 0, none⟩))] ∧ St hs [] Z (0, 0) Z51292 h [.blk b51296 [v51299], .gs v51299 c51300 (csz api_Node)]) ?_ ?_
    · rintro l h51301 ⟨Z51292, x51293, x51294, x51295, x51297, b51296, v51299, c51300, rfl, q51298, rfl, hS51302⟩
      try dsimp only at hm
      refine W_seq (by kernel_rfl) ?_
      refine W_region (R := r7_12) (by kernel_rfl) ?_
      refine r_run 6 (l' := [(47, .int .i64 (w64 ((w64 (x51293 - x51294)) + 1))), (46, .int .i64 (w64 (x51293 - x51294))), (45, .int .i64 x51294), (44, .int .i64 x51293), (43, .int .i64 x51295), (42, .int .i64 x51294), (0, .int .i64 x51293), (1, .int .i64 x51294), (2, .int .i64 x51295), (7, .pointer (some ⟨b51296, 0, none⟩))]) (by kernel_rfl) ?_
      obtain ⟨r51303, hx51304, hm⟩ := obind hm
      obtain ⟨v51305, h51306, hcl51307, hSc51308, rfl⟩ := correctorlaw10_within_ok F hS51302.inv  hx51304
      have hS51309 := St.call (A := []) (B := [.blk b51296 [v51299], .gs v51299 c51300 (csz api_Node)]) hS51302 hSc51308
      replace hS51309 : St _ _ _ _ _ _ [.blk b51296 [v51299], .gs v51299 c51300 (csz api_Node)] := hS51309
      refine r_step rfl trivial (o_call hcl51307 rfl rfl rfl) ?_
      refine r_run 2 (l' := [(2, .int .i64 (w64 (x51294 + r51303))), (49, .int .i64 (w64 (x51294 + r51303))), (48, .int .i64 r51303), (47, .int .i64 (w64 ((w64 (x51293 - x51294)) + 1))), (46, .int .i64 (w64 (x51293 - x51294))), (45, .int .i64 x51294), (44, .int .i64 x51293), (43, .int .i64 x51295), (42, .int .i64 x51294), (0, .int .i64 x51293), (1, .int .i64 x51294), (2, .int .i64 x51295), (7, .pointer (some ⟨b51296, 0, none⟩))]) (by kernel_rfl) ?_
      refine r_forget [2, 0, 1, 7] (l' := [(2, .int .i64 (w64 (x51294 + r51303))), (0, .int .i64 x51293), (1, .int .i64 x51294), (7, .pointer (some ⟨b51296, 0, none⟩))]) (by kernel_rfl) ?_
      refine r_end rfl ?_
      refine W_seq (by kernel_rfl) ?_
      refine W_region (R := r7_13) (by kernel_rfl) ?_
      refine r_step rfl trivial (o_ldb (v := .agg #[v51299]) hS51309 (i := 0) rfl rfl (by kernel_rfl)) ?_
      refine r_run 2 (l' := [(52, .int .i64 (w64 (x51294 + r51303))), (51, .int .i64 x51294), (50, .agg #[v51299]), (2, .int .i64 (w64 (x51294 + r51303))), (0, .int .i64 x51293), (1, .int .i64 x51294), (7, .pointer (some ⟨b51296, 0, none⟩))]) (by kernel_rfl) ?_
      obtain ⟨Z51310, hZ51311, q51312, hS51313⟩ := (hS51309.front 1 rfl).freeze q51298
      replace hS51313 : St _ _ _ _ _ _ [.blk b51296 [v51299]] := hS51313
      obtain ⟨r51314, hx51315, hm⟩ := obind hm
      have hSr51321 : St _ _ _ _ _ _ ([] ++ [.blk b51296 [v51299]]) := hS51313
      obtain ⟨v51316, h51317, Z51322, A51324, hcl51318, hSc51319, v51326, c51327, rfl, rfl, q51325⟩ := arena_Grow_ok F hSr51321.preL q51312 hx51315
      have hS51320 := hSr51321.call hSc51319
      have hZ51323 := hSc51319.zle
      replace hS51320 : St _ _ _ _ _ _ [.gs v51326 c51327 (csz api_Node), .blk b51296 [v51299]] := hS51320
      refine r_step rfl trivial (o_call hcl51318 rfl rfl rfl) ?_
      refine r_blk rfl trivial (o_alloc (cs := [.slice none 0 0]) (by kernel_rfl)) hS51320 ?_
      intro b51328 h51329 hS51330
      refine r_ex1 rfl trivial (o_stb (vs := [v51326]) (cells' := [v51326]) (L' := [.blk b51328 [v51326], .gs v51326 c51327 (csz api_Node), .blk b51296 [v51299]]) hS51330 (i := 0) rfl rfl rfl rfl (by kernel_rfl) (one_cons (hS51330.gone1 (i := 1) rfl) one_nil) rfl rfl rfl) ?_
      intro h51331 hS51332
      refine r_forget [11, 2, 0, 1, 7] (l' := [(11, .pointer (some ⟨b51328, 0, none⟩)), (2, .int .i64 (w64 (x51294 + r51303))), (0, .int .i64 x51293), (1, .int .i64 x51294), (7, .pointer (some ⟨b51296, 0, none⟩))]) (by kernel_rfl) ?_
      refine r_end rfl ?_
      refine W_seq (by kernel_rfl) ?_
      refine W_seq (by kernel_rfl) ?_
      refine W_region (R := r7_14) (by kernel_rfl) ?_
      refine r_run 1 (l' := [(54, .pointer (some ⟨b51328, 0, none⟩)), (11, .pointer (some ⟨b51328, 0, none⟩)), (2, .int .i64 (w64 (x51294 + r51303))), (0, .int .i64 x51293), (1, .int .i64 x51294), (7, .pointer (some ⟨b51296, 0, none⟩))]) (by kernel_rfl) ?_
      refine r_step rfl trivial (o_ldb (v := v51326) hS51332 (i := 0) rfl rfl (by kernel_rfl)) ?_
      refine r_step rfl trivial (o_len rfl (hS51332.glen (i := 1) rfl q51325) ⟨_, Go.Proofs.Try.underlying25⟩) ?_
      refine r_run 2 (l' := [(58, .int .i64 (w64 (x51294 + 1))), (57, .int .i64 x51294), (56, .int .i64 (r51314.Nodes.length : Int)), (55, v51326), (54, .pointer (some ⟨b51328, 0, none⟩)), (11, .pointer (some ⟨b51328, 0, none⟩)), (2, .int .i64 (w64 (x51294 + r51303))), (0, .int .i64 x51293), (1, .int .i64 x51294), (7, .pointer (some ⟨b51296, 0, none⟩))]) (by kernel_rfl) ?_
      rcases ifs hm with ⟨hp51366, hm⟩ | ⟨hp51366, hm⟩
      · refine r_step rfl trivial (o_cmp rfl rfl (c_neq_F hp51366)) ?_
        refine r_run 2 (l' := [(61, .pointer (some ⟨b51328, 0, none⟩)), (60, .bool false), (59, .bool false), (58, .int .i64 (w64 (x51294 + 1))), (57, .int .i64 x51294), (56, .int .i64 (r51314.Nodes.length : Int)), (55, v51326), (54, .pointer (some ⟨b51328, 0, none⟩)), (11, .pointer (some ⟨b51328, 0, none⟩)), (2, .int .i64 (w64 (x51294 + r51303))), (0, .int .i64 x51293), (1, .int .i64 x51294), (7, .pointer (some ⟨b51296, 0, none⟩))]) (by kernel_rfl) ?_
        refine r_step rfl rfl (o_ldb (v := v51326) hS51332 (i := 0) rfl rfl (by kernel_rfl)) ?_
        obtain ⟨hc51367, hm⟩ := chk hm
        refine r_step rfl rfl (o_index rfl rfl (by kernel_rfl : slTy _ _ = some (csz api_Node)) (hS51332.gbased (j := 1) rfl q51325 (by omega)) hc51367.1 hc51367.2) ?_
        refine r_run 1 (l' := [(64, .pointer (some (elemA v51326 0 (csz api_Node) 2))), (63, .pointer (some (elemA v51326 0 (csz api_Node) 0))), (62, v51326), (61, .pointer (some ⟨b51328, 0, none⟩)), (60, .bool false), (59, .bool false), (58, .int .i64 (w64 (x51294 + 1))), (57, .int .i64 x51294), (56, .int .i64 (r51314.Nodes.length : Int)), (55, v51326), (54, .pointer (some ⟨b51328, 0, none⟩)), (11, .pointer (some ⟨b51328, 0, none⟩)), (2, .int .i64 (w64 (x51294 + r51303))), (0, .int .i64 x51293), (1, .int .i64 x51294), (7, .pointer (some ⟨b51296, 0, none⟩))]) (by kernel_rfl) ?_
        obtain ⟨x51368, hx51369, hm⟩ := obind hm
        obtain ⟨cs51370, hc51371, he51372, ht51373⟩ := hS51332.gel (j := 1) rfl q51325 (i := 0) hx51369
        obtain ⟨v51374, q51375, rfl⟩ := rc_api_Node hc51371
        refine r_step rfl rfl (o_lde (w := .int .i64 x51368.To) he51372 rfl (by kernel_rfl)) ?_
        refine r_run 1 (l' := [(66, .int .i64 x51293), (65, .int .i64 x51368.To), (64, .pointer (some (elemA v51326 0 (csz api_Node) 2))), (63, .pointer (some (elemA v51326 0 (csz api_Node) 0))), (62, v51326), (61, .pointer (some ⟨b51328, 0, none⟩)), (60, .bool false), (59, .bool false), (58, .int .i64 (w64 (x51294 + 1))), (57, .int .i64 x51294), (56, .int .i64 (r51314.Nodes.length : Int)), (55, v51326), (54, .pointer (some ⟨b51328, 0, none⟩)), (11, .pointer (some ⟨b51328, 0, none⟩)), (2, .int .i64 (w64 (x51294 + r51303))), (0, .int .i64 x51293), (1, .int .i64 x51294), (7, .pointer (some ⟨b51296, 0, none⟩))]) (by kernel_rfl) ?_
        rcases ifs hm with ⟨hp51376, hm⟩ | ⟨hp51376, hm⟩
        · refine r_step rfl rfl (o_cmp rfl rfl (c_neq_F hp51376)) ?_
          refine r_run 1 (l' := [(68, .bool false), (67, .bool false), (66, .int .i64 x51293), (65, .int .i64 x51368.To), (64, .pointer (some (elemA v51326 0 (csz api_Node) 2))), (63, .pointer (some (elemA v51326 0 (csz api_Node) 0))), (62, v51326), (61, .pointer (some ⟨b51328, 0, none⟩)), (60, .bool false), (59, .bool false), (58, .int .i64 (w64 (x51294 + 1))), (57, .int .i64 x51294), (56, .int .i64 (r51314.Nodes.length : Int)), (55, v51326), (54, .pointer (some ⟨b51328, 0, none⟩)), (11, .pointer (some ⟨b51328, 0, none⟩)), (2, .int .i64 (w64 (x51294 + r51303))), (0, .int .i64 x51293), (1, .int .i64 x51294), (7, .pointer (some ⟨b51296, 0, none⟩))]) (by kernel_rfl) ?_
          refine r_forget [68, 11, 2, 0, 1, 7] (l' := [(68, .bool false), (11, .pointer (some ⟨b51328, 0, none⟩)), (2, .int .i64 (w64 (x51294 + r51303))), (0, .int .i64 x51293), (1, .int .i64 x51294), (7, .pointer (some ⟨b51296, 0, none⟩))]) (by kernel_rfl) ?_
          refine r_end rfl ?_
          refine W_condF (x := .tmp 68) (by kernel_rfl) rfl rfl ?_
          refine W_skip (by kernel_rfl) ?_
          refine W_seq (by kernel_rfl) ?_
          refine W_seq (by kernel_rfl) ?_
          refine W_region (R := r7_16) (by kernel_rfl) ?_
          refine r_run 1 (l' := [(12, .int .i64 1), (68, .bool false), (11, .pointer (some ⟨b51328, 0, none⟩)), (2, .int .i64 (w64 (x51294 + r51303))), (0, .int .i64 x51293), (1, .int .i64 x51294), (7, .pointer (some ⟨b51296, 0, none⟩))]) (by kernel_rfl) ?_
          refine r_forget [12, 11, 2, 0, 1, 7] (l' := [(12, .int .i64 1), (11, .pointer (some ⟨b51328, 0, none⟩)), (2, .int .i64 (w64 (x51294 + r51303))), (0, .int .i64 x51293), (1, .int .i64 x51294), (7, .pointer (some ⟨b51296, 0, none⟩))]) (by kernel_rfl) ?_
          refine r_end rfl ?_
          obtain ⟨o51672, ho51671, hm⟩ := obind hm
          refine W_join [0, 1, 7, 11] (fun l h => ∃ Z51825 : Zn, ∃ x51826 : Int, ∃ x51827 : Int, ∃ x51829 : List api_Node, ∃ x51833 : List api_Node, ∃ b51828 : Nat, ∃ v51831 : Value, ∃ b51832 : Nat, ∃ v51835 : Value, ∃ c51836 : List Value, .inl (x51826, x51827, x51829, x51833) = o51672 ∧ RS (α := api_Node) Z51825 v51831 x51829 ∧ RCs (α := api_Node) Z51825 c51836 x51833 ∧ l = [(0, .int .i64 x51826), (1, .int .i64 x51827), (7, .pointer (some ⟨b51828, 0, none⟩)), (11, .pointer (some ⟨b51832, 0, none⟩))] ∧ St hs [] Z (0, 0) Z51825 h [.blk b51828 [v51831], .blk b51832 [v51835], .gs v51835 c51836 (csz api_Node)]) ?_ ?_
          · rintro l h51837 ⟨Z51825, x51826, x51827, x51829, x51833, b51828, v51831, b51832, v51835, c51836, rfl, q51830, q51834, rfl, hS51838⟩
            try dsimp only at hm
            refine W_seq (by kernel_rfl) ?_
            refine W_regionD (R := r7_21) (by kernel_rfl) hS51838 ?_
            intro bs51938 h51939 hlv51941 hS51940
            refine d_lookL rfl rfl trivial (o_ldb (v := .agg #[v51835]) hS51940 (i := 1) rfl rfl (by kernel_rfl)) (fun _ _ => .inl rfl) ?_
            refine d_run 1 (l' := [(107, .int .i64 x51826), (106, .agg #[v51835]), (0, .int .i64 x51826), (1, .int .i64 x51827), (7, .pointer (some ⟨b51828, 0, none⟩)), (11, .pointer (some ⟨b51832, 0, none⟩))]) (by kernel_rfl) ?_
            obtain ⟨Z51942, hZ51943, q51944, hS51945⟩ := (hS51940.front 2 rfl).freeze q51834
            replace hS51945 : St _ _ _ _ _ _ [.blk b51828 [v51831], .blk b51832 [v51835]] := hS51945
            obtain ⟨r51946, hx51947, hm⟩ := obind hm
            have hSl51953 := hS51945.lown
            obtain ⟨v51948, h51949, hcl51950, hSc51951, rfl⟩ := arena_Check_ok F hSl51953.inv q51944 hx51947
            have hS51952 := St.call (A := []) (B := [.blk b51828 [v51831], .blk b51832 [v51835]]) hSl51953 hSc51951
            replace hS51952 : St _ _ _ _ _ _ [.blk b51828 [v51831], .blk b51832 [v51835]] := hS51952
            refine d_make rfl trivial hS51945 (o_call hcl51950 rfl rfl rfl) hS51952 (.still (St.lowk hSc51951)) ?_
            intro h51954 hS51955
            refine d_run 1 (l' := [(109, .bool r51946), (108, .bool r51946), (107, .int .i64 x51826), (106, .agg #[v51835]), (0, .int .i64 x51826), (1, .int .i64 x51827), (7, .pointer (some ⟨b51828, 0, none⟩)), (11, .pointer (some ⟨b51832, 0, none⟩))]) (by kernel_rfl) ?_
            rcases ifs hm with ⟨hp51956, hm⟩ | ⟨hp51956, hm⟩
            · refine d_setb (t := 109) rfl hp51956 ?_
              refine d_lookL rfl rfl rfl (o_ldb (v := .agg #[v51831]) hS51955 (i := 0) rfl rfl (by kernel_rfl)) (fun _ _ => .inl rfl) ?_
              refine d_run 1 (l' := [(111, .int .i64 x51826), (110, .agg #[v51831]), (109, .bool true), (109, .bool r51946), (108, .bool r51946), (107, .int .i64 x51826), (106, .agg #[v51835]), (0, .int .i64 x51826), (1, .int .i64 x51827), (7, .pointer (some ⟨b51828, 0, none⟩)), (11, .pointer (some ⟨b51832, 0, none⟩))]) (by kernel_rfl) ?_
              obtain ⟨r51957, hx51958, hm⟩ := obind hm
              have hSl51964 := hS51955.lown
              obtain ⟨v51959, h51960, hcl51961, hSc51962, rfl⟩ := arena_Check_ok F hSl51964.inv (q51830.mono hZ51943) hx51958
              have hS51963 := St.call (A := []) (B := [.blk b51828 [v51831], .blk b51832 [v51835]]) hSl51964 hSc51962
              replace hS51963 : St _ _ _ _ _ _ [.blk b51828 [v51831], .blk b51832 [v51835]] := hS51963
              refine d_make rfl rfl hS51955 (o_call hcl51961 rfl rfl rfl) hS51963 (.still (St.lowk hSc51962)) ?_
              intro h51965 hS51966
              refine d_run 2 (l' := [(114, .bool r51957), (113, .bool r51957), (112, .bool r51957), (111, .int .i64 x51826), (110, .agg #[v51831]), (109, .bool true), (109, .bool r51946), (108, .bool r51946), (107, .int .i64 x51826), (106, .agg #[v51835]), (0, .int .i64 x51826), (1, .int .i64 x51827), (7, .pointer (some ⟨b51828, 0, none⟩)), (11, .pointer (some ⟨b51832, 0, none⟩))]) (by kernel_rfl) ?_
              rcases ifs hm with ⟨hp51967, hm⟩ | ⟨hp51967, hm⟩
              · refine d_setb (t := 114) rfl hp51967 ?_
                refine d_lookL rfl rfl rfl (o_ldb (v := .agg #[v51835]) hS51966 (i := 1) rfl rfl (by kernel_rfl)) (fun _ _ => .inl rfl) ?_
                refine d_run 3 (l' := [(118, .int .i64 (w64 (x51826 + 1))), (117, .int .i64 x51826), (116, .int .i64 x51827), (115, .agg #[v51835]), (114, .bool true), (114, .bool r51957), (113, .bool r51957), (112, .bool r51957), (111, .int .i64 x51826), (110, .agg #[v51831]), (109, .bool true), (109, .bool r51946), (108, .bool r51946), (107, .int .i64 x51826), (106, .agg #[v51835]), (0, .int .i64 x51826), (1, .int .i64 x51827), (7, .pointer (some ⟨b51828, 0, none⟩)), (11, .pointer (some ⟨b51832, 0, none⟩))]) (by kernel_rfl) ?_
                obtain ⟨r51968, hx51969, hm⟩ := obind hm
                have hSl51975 := hS51966.lown
                have hSr51976 : St _ _ _ _ _ _ ([] ++ [.blk b51828 [v51831], .blk b51832 [v51835]]) := hSl51975
                obtain ⟨v51970, h51971, Z51977, A51979, hcl51972, hSc51973, v51981, c51982, rfl, rfl, q51980⟩ := arena_Grow_ok F hSr51976.preL q51944 hx51969
                have hS51974 := hSr51976.call hSc51973
                have hZ51978 := hSc51973.zle
                replace hS51974 : St _ _ _ _ _ _ [.gs v51981 c51982 (csz api_Node), .blk b51828 [v51831], .blk b51832 [v51835]] := hS51974
                refine d_make rfl rfl hS51966 (o_call hcl51972 rfl rfl rfl) hS51974 (.still (St.lowk hSc51973)) ?_
                intro h51983 hS51984
                have lt51985 : b51832 < bs51938 := hlv51941.1 _ (List.mem_of_getElem? (i := 1) rfl) _ (by simp [Itm.ids])
                refine d_lookS rfl rfl rfl lt51985 (same_agg (cs := [v51835]) (.cons (RS.sim1 (q51944.mono hZ51978)) .nil)) (o_ldb (v := .agg #[v51835]) hS51984 (i := 2) rfl rfl (by kernel_rfl)) ?_
                obtain ⟨Z51986, hZ51987, q51988, hS51989⟩ := (hS51984.front 0 rfl).freeze q51980
                replace hS51989 : St _ _ _ _ _ _ [.blk b51828 [v51831], .blk b51832 [v51835]] := hS51989
                obtain ⟨r51990, hx51991, hm⟩ := obind hm
                have hSl51997 := hS51989.lown
                obtain ⟨v51992, h51993, hcl51994, hSc51995, rfl⟩ := arena_Same_ok F hSl51997.inv q51988 (q51944.mono (hZ51978.trans hZ51987)) hx51991
                have hS51996 := St.call (A := []) (B := [.blk b51828 [v51831], .blk b51832 [v51835]]) hSl51997 hSc51995
                replace hS51996 : St _ _ _ _ _ _ [.blk b51828 [v51831], .blk b51832 [v51835]] := hS51996
                refine d_make rfl rfl hS51989 (o_call hcl51994 rfl rfl rfl) hS51996 (.still (St.lowk hSc51995)) ?_
                intro h51998 hS51999
                refine d_run 2 (l' := [(123, .bool r51990), (122, .bool r51990), (121, .bool r51990), (120, .agg #[v51835]), (119, .agg #[v51981]), (118, .int .i64 (w64 (x51826 + 1))), (117, .int .i64 x51826), (116, .int .i64 x51827), (115, .agg #[v51835]), (114, .bool true), (114, .bool r51957), (113, .bool r51957), (112, .bool r51957), (111, .int .i64 x51826), (110, .agg #[v51831]), (109, .bool true), (109, .bool r51946), (108, .bool r51946), (107, .int .i64 x51826), (106, .agg #[v51835]), (0, .int .i64 x51826), (1, .int .i64 x51827), (7, .pointer (some ⟨b51828, 0, none⟩)), (11, .pointer (some ⟨b51832, 0, none⟩))]) (by kernel_rfl) ?_
                rcases ifs hm with ⟨hp52000, hm⟩ | ⟨hp52000, hm⟩
                · refine d_setb (t := 123) rfl hp52000 ?_
                  refine d_lookL rfl rfl rfl (o_ldb (v := .agg #[v51835]) hS51999 (i := 1) rfl rfl (by kernel_rfl)) (fun _ _ => .inl rfl) ?_
                  obtain ⟨r52001, hx52002, hm⟩ := obind hm
                  have hSl52008 := hS51999.lown
                  have hSr52009 : St _ _ _ _ _ _ ([] ++ [.blk b51828 [v51831], .blk b51832 [v51835]]) := hSl52008
                  obtain ⟨v52003, h52004, Z52010, A52012, hcl52005, hSc52006, v52014, c52015, rfl, rfl, q52013⟩ := arena_Grow_ok F hSr52009.preL (q51944.mono (hZ51978.trans hZ51987)) hx52002
                  have hS52007 := hSr52009.call hSc52006
                  have hZ52011 := hSc52006.zle
                  replace hS52007 : St _ _ _ _ _ _ [.gs v52014 c52015 (csz api_Node), .blk b51828 [v51831], .blk b51832 [v51835]] := hS52007
                  refine d_make rfl rfl hS51999 (o_call hcl52005 rfl rfl rfl) hS52007 (.still (St.lowk hSc52006)) ?_
                  intro h52016 hS52017
                  have lt52018 : b51832 < bs51938 := hlv51941.1 _ (List.mem_of_getElem? (i := 1) rfl) _ (by simp [Itm.ids])
                  refine d_lookS rfl rfl rfl lt52018 (same_agg (cs := [v51835]) (.cons (RS.sim1 (q51944.mono (hZ51978.trans (hZ51987.trans hZ52011)))) .nil)) (o_ldb (v := .agg #[v51835]) hS52017 (i := 2) rfl rfl (by kernel_rfl)) ?_
                  obtain ⟨Z52019, hZ52020, q52021, hS52022⟩ := (hS52017.front 0 rfl).freeze q52013
                  replace hS52022 : St _ _ _ _ _ _ [.blk b51828 [v51831], .blk b51832 [v51835]] := hS52022
                  obtain ⟨r52023, hx52024, hm⟩ := obind hm
                  have hSl52030 := hS52022.lown
                  obtain ⟨v52025, h52026, hcl52027, hSc52028, rfl⟩ := arena_Same_ok F hSl52030.inv q52021 (q51944.mono (hZ51978.trans (hZ51987.trans (hZ52011.trans hZ52020)))) hx52024
                  have hS52029 := St.call (A := []) (B := [.blk b51828 [v51831], .blk b51832 [v51835]]) hSl52030 hSc52028
                  replace hS52029 : St _ _ _ _ _ _ [.blk b51828 [v51831], .blk b51832 [v51835]] := hS52029
                  refine d_make rfl rfl hS52022 (o_call hcl52027 rfl rfl rfl) hS52029 (.still (St.lowk hSc52028)) ?_
                  intro h52031 hS52032
                  refine d_run 2 (l' := [(6, .bool r52023), (128, .bool r52023), (127, .bool r52023), (126, .agg #[v51835]), (125, .agg #[v52014]), (124, .agg #[v51835]), (123, .bool true), (123, .bool r51990), (122, .bool r51990), (121, .bool r51990), (120, .agg #[v51835]), (119, .agg #[v51981]), (118, .int .i64 (w64 (x51826 + 1))), (117, .int .i64 x51826), (116, .int .i64 x51827), (115, .agg #[v51835]), (114, .bool true), (114, .bool r51957), (113, .bool r51957), (112, .bool r51957), (111, .int .i64 x51826), (110, .agg #[v51831]), (109, .bool true), (109, .bool r51946), (108, .bool r51946), (107, .int .i64 x51826), (106, .agg #[v51835]), (0, .int .i64 x51826), (1, .int .i64 x51827), (7, .pointer (some ⟨b51828, 0, none⟩)), (11, .pointer (some ⟨b51832, 0, none⟩))]) (by kernel_rfl) ?_
                  refine d_forget [6] (l' := [(6, .bool r52023)]) (by kernel_rfl) ?_
                  refine d_end rfl ?_
                  have hS52033 := hS52032.unres
                  refine W_ret (by kernel_rfl) ?_
                  refine ⟨rfl, ?_⟩
                  obtain rfl := Option.some.inj hm
                  refine ⟨_, _, _, ResL.tmp rfl (ResL.nil), hS52033, ?_⟩
                  exact rfl
                · refine d_setb (t := 123) rfl (Bool.eq_false_iff.2 hp52000) ?_
                  refine d_run 6 (l' := [(6, .bool false), (128, .bool false), (127, undef), (126, undef), (125, undef), (124, undef), (123, .bool false), (123, .bool r51990), (122, .bool r51990), (121, .bool r51990), (120, .agg #[v51835]), (119, .agg #[v51981]), (118, .int .i64 (w64 (x51826 + 1))), (117, .int .i64 x51826), (116, .int .i64 x51827), (115, .agg #[v51835]), (114, .bool true), (114, .bool r51957), (113, .bool r51957), (112, .bool r51957), (111, .int .i64 x51826), (110, .agg #[v51831]), (109, .bool true), (109, .bool r51946), (108, .bool r51946), (107, .int .i64 x51826), (106, .agg #[v51835]), (0, .int .i64 x51826), (1, .int .i64 x51827), (7, .pointer (some ⟨b51828, 0, none⟩)), (11, .pointer (some ⟨b51832, 0, none⟩))]) (by kernel_rfl) ?_
                  refine d_forget [6] (l' := [(6, .bool false)]) (by kernel_rfl) ?_
                  refine d_end rfl ?_
                  have hS52034 := hS51999.unres
                  refine W_ret (by kernel_rfl) ?_
                  refine ⟨rfl, ?_⟩
                  obtain rfl := Option.some.inj hm
                  refine ⟨_, _, _, ResL.tmp rfl (ResL.nil), hS52034, ?_⟩
                  exact rfl
              · refine d_setb (t := 114) rfl (Bool.eq_false_iff.2 hp51967) ?_
                refine d_run 15 (l' := [(6, .bool false), (128, .bool false), (127, undef), (126, undef), (125, undef), (124, undef), (123, .bool false), (122, .bool false), (121, undef), (120, undef), (119, undef), (118, undef), (117, undef), (116, undef), (115, undef), (114, .bool false), (114, .bool r51957), (113, .bool r51957), (112, .bool r51957), (111, .int .i64 x51826), (110, .agg #[v51831]), (109, .bool true), (109, .bool r51946), (108, .bool r51946), (107, .int .i64 x51826), (106, .agg #[v51835]), (0, .int .i64 x51826), (1, .int .i64 x51827), (7, .pointer (some ⟨b51828, 0, none⟩)), (11, .pointer (some ⟨b51832, 0, none⟩))]) (by kernel_rfl) ?_
                refine d_forget [6] (l' := [(6, .bool false)]) (by kernel_rfl) ?_
                refine d_end rfl ?_
                have hS52035 := hS51966.unres
                refine W_ret (by kernel_rfl) ?_
                refine ⟨rfl, ?_⟩
                obtain rfl := Option.some.inj hm
                refine ⟨_, _, _, ResL.tmp rfl (ResL.nil), hS52035, ?_⟩
                exact rfl
            · refine d_setb (t := 109) rfl (Bool.eq_false_iff.2 hp51956) ?_
              refine d_run 20 (l' := [(6, .bool false), (128, .bool false), (127, undef), (126, undef), (125, undef), (124, undef), (123, .bool false), (122, .bool false), (121, undef), (120, undef), (119, undef), (118, undef), (117, undef), (116, undef), (115, undef), (114, .bool false), (113, .bool false), (112, undef), (111, undef), (110, undef), (109, .bool false), (109, .bool r51946), (108, .bool r51946), (107, .int .i64 x51826), (106, .agg #[v51835]), (0, .int .i64 x51826), (1, .int .i64 x51827), (7, .pointer (some ⟨b51828, 0, none⟩)), (11, .pointer (some ⟨b51832, 0, none⟩))]) (by kernel_rfl) ?_
              refine d_forget [6] (l' := [(6, .bool false)]) (by kernel_rfl) ?_
              refine d_end rfl ?_
              have hS52036 := hS51955.unres
              refine W_ret (by kernel_rfl) ?_
              refine ⟨rfl, ?_⟩
              obtain rfl := Option.some.inj hm
              refine ⟨_, _, _, ResL.tmp rfl (ResL.nil), hS52036, ?_⟩
              exact rfl
          · refine W_block (i := 2) (by kernel_rfl) ?_
            refine W_loop [0, 1, 2, 7, 11, 12] (fun n l h => ∃ Z51673 : Zn, ∃ x51674 : Int, ∃ x51675 : Int, ∃ x51676 : Int, ∃ x51678 : List api_Node, ∃ x51682 : List api_Node, ∃ x51686 : Int, ∃ b51677 : Nat, ∃ v51680 : Value, ∃ b51681 : Nat, ∃ v51684 : Value, ∃ c51685 : List Value, correctorlaw10_ArenaReaches_l1 F a0 a1 a2 n x51674 x51675 x51676 x51678 x51682 x51686 = some o51672 ∧ RS (α := api_Node) Z51673 v51680 x51678 ∧ RCs (α := api_Node) Z51673 c51685 x51682 ∧ l = [(0, .int .i64 x51674), (1, .int .i64 x51675), (2, .int .i64 x51676), (7, .pointer (some ⟨b51677, 0, none⟩)), (11, .pointer (some ⟨b51681, 0, none⟩)), (12, .int .i64 x51686)] ∧ St hs [] Z (0, 0) Z51673 h [.blk b51677 [v51680], .blk b51681 [v51684], .gs v51684 c51685 (csz api_Node)]) F (by kernel_rfl) ⟨_, x51293, x51294, w64 (x51294 + r51303), x51297, r51314.Nodes, 1, b51296, v51299, b51328, v51326, c51327, ho51671, (q51312.mono hZ51323), q51325, rfl, (((hS51332.front 1 rfl).front 1 rfl).front 2 rfl)⟩ ?_
            rintro n51689 l h51687 ⟨Z51673, x51674, x51675, x51676, x51678, x51682, x51686, b51677, v51680, b51681, v51684, c51685, ho51671, q51679, q51683, rfl, hS51688⟩
            cases n51689 with
            | zero => cases (show none = some o51672 from ho51671)
            | succ n51689 =>
              rw [correctorlaw10_ArenaReaches_l1] at ho51671
              refine W_seq (by kernel_rfl) ?_
              refine W_seq (by kernel_rfl) ?_
              refine W_region (R := r7_17) (by kernel_rfl) ?_
              refine r_run 2 (l' := [(70, .int .i64 x51675), (69, .int .i64 x51686), (0, .int .i64 x51674), (1, .int .i64 x51675), (2, .int .i64 x51676), (7, .pointer (some ⟨b51677, 0, none⟩)), (11, .pointer (some ⟨b51681, 0, none⟩)), (12, .int .i64 x51686)]) (by kernel_rfl) ?_
              rcases ifs ho51671 with ⟨hp51693, ho51671⟩ | ⟨hp51693, ho51671⟩
              · refine r_step rfl trivial (o_cmp rfl rfl (c_leq_T hp51693)) ?_
                refine r_forget [71, 0, 1, 2, 7, 11, 12] (l' := [(71, .bool true), (0, .int .i64 x51674), (1, .int .i64 x51675), (2, .int .i64 x51676), (7, .pointer (some ⟨b51677, 0, none⟩)), (11, .pointer (some ⟨b51681, 0, none⟩)), (12, .int .i64 x51686)]) (by kernel_rfl) ?_
                refine r_end rfl ?_
                refine W_condT (x := .tmp 71) (by kernel_rfl) rfl rfl ?_
                refine W_skip (by kernel_rfl) ?_
                refine W_seq (by kernel_rfl) ?_
                refine W_block (i := 3) (by kernel_rfl) ?_
                refine W_seq (by kernel_rfl) ?_
                refine W_region (R := r7_19) (by kernel_rfl) ?_
                refine r_run 1 (l' := [(74, .pointer (some ⟨b51681, 0, none⟩)), (71, .bool true), (0, .int .i64 x51674), (1, .int .i64 x51675), (2, .int .i64 x51676), (7, .pointer (some ⟨b51677, 0, none⟩)), (11, .pointer (some ⟨b51681, 0, none⟩)), (12, .int .i64 x51686)]) (by kernel_rfl) ?_
                refine r_step rfl trivial (o_ldb (v := v51684) hS51688 (i := 1) rfl rfl (by kernel_rfl)) ?_
                refine r_run 1 (l' := [(76, .int .i64 x51686), (75, v51684), (74, .pointer (some ⟨b51681, 0, none⟩)), (71, .bool true), (0, .int .i64 x51674), (1, .int .i64 x51675), (2, .int .i64 x51676), (7, .pointer (some ⟨b51677, 0, none⟩)), (11, .pointer (some ⟨b51681, 0, none⟩)), (12, .int .i64 x51686)]) (by kernel_rfl) ?_
                obtain ⟨hc51784, ho51671⟩ := chk ho51671
                refine r_step rfl trivial (o_index rfl rfl (by kernel_rfl : slTy _ _ = some (csz api_Node)) (hS51688.gbased (j := 2) rfl q51683 (by omega)) hc51784.1 hc51784.2) ?_
                refine r_run 1 (l' := [(78, .pointer (some (elemA v51684 x51686 (csz api_Node) 2))), (77, .pointer (some (elemA v51684 x51686 (csz api_Node) 0))), (76, .int .i64 x51686), (75, v51684), (74, .pointer (some ⟨b51681, 0, none⟩)), (71, .bool true), (0, .int .i64 x51674), (1, .int .i64 x51675), (2, .int .i64 x51676), (7, .pointer (some ⟨b51677, 0, none⟩)), (11, .pointer (some ⟨b51681, 0, none⟩)), (12, .int .i64 x51686)]) (by kernel_rfl) ?_
                obtain ⟨x51785, hx51786, ho51671⟩ := obind ho51671
                obtain ⟨cs51787, hc51788, he51789, ht51790⟩ := hS51688.gel (j := 2) rfl q51683 (i := x51686) hx51786
                obtain ⟨v51791, q51792, rfl⟩ := rc_api_Node hc51788
                refine r_step rfl trivial (o_lde (w := .int .i64 x51785.To) he51789 rfl (by kernel_rfl)) ?_
                refine r_run 3 (l' := [(82, .int .i64 (imax x51676 x51675)), (81, .int .i64 x51675), (80, .int .i64 x51676), (79, .int .i64 x51785.To), (78, .pointer (some (elemA v51684 x51686 (csz api_Node) 2))), (77, .pointer (some (elemA v51684 x51686 (csz api_Node) 0))), (76, .int .i64 x51686), (75, v51684), (74, .pointer (some ⟨b51681, 0, none⟩)), (71, .bool true), (0, .int .i64 x51674), (1, .int .i64 x51675), (2, .int .i64 x51676), (7, .pointer (some ⟨b51677, 0, none⟩)), (11, .pointer (some ⟨b51681, 0, none⟩)), (12, .int .i64 x51686)]) (by kernel_rfl) ?_
                rcases ifs ho51671 with ⟨hp51793, ho51671⟩ | ⟨hp51793, ho51671⟩
                · refine r_step rfl trivial (o_cmp rfl rfl (c_neq_F hp51793)) ?_
                  refine r_run 2 (l' := [(85, .pointer (some ⟨b51681, 0, none⟩)), (84, .bool false), (83, .bool false), (82, .int .i64 (imax x51676 x51675)), (81, .int .i64 x51675), (80, .int .i64 x51676), (79, .int .i64 x51785.To), (78, .pointer (some (elemA v51684 x51686 (csz api_Node) 2))), (77, .pointer (some (elemA v51684 x51686 (csz api_Node) 0))), (76, .int .i64 x51686), (75, v51684), (74, .pointer (some ⟨b51681, 0, none⟩)), (71, .bool true), (0, .int .i64 x51674), (1, .int .i64 x51675), (2, .int .i64 x51676), (7, .pointer (some ⟨b51677, 0, none⟩)), (11, .pointer (some ⟨b51681, 0, none⟩)), (12, .int .i64 x51686)]) (by kernel_rfl) ?_
                  refine r_step rfl rfl (o_ldb (v := v51684) hS51688 (i := 1) rfl rfl (by kernel_rfl)) ?_
                  refine r_run 1 (l' := [(87, .int .i64 x51686), (86, v51684), (85, .pointer (some ⟨b51681, 0, none⟩)), (84, .bool false), (83, .bool false), (82, .int .i64 (imax x51676 x51675)), (81, .int .i64 x51675), (80, .int .i64 x51676), (79, .int .i64 x51785.To), (78, .pointer (some (elemA v51684 x51686 (csz api_Node) 2))), (77, .pointer (some (elemA v51684 x51686 (csz api_Node) 0))), (76, .int .i64 x51686), (75, v51684), (74, .pointer (some ⟨b51681, 0, none⟩)), (71, .bool true), (0, .int .i64 x51674), (1, .int .i64 x51675), (2, .int .i64 x51676), (7, .pointer (some ⟨b51677, 0, none⟩)), (11, .pointer (some ⟨b51681, 0, none⟩)), (12, .int .i64 x51686)]) (by kernel_rfl) ?_
                  obtain ⟨hc51794, ho51671⟩ := chk ho51671
                  refine r_step rfl rfl (o_index rfl rfl (by kernel_rfl : slTy _ _ = some (csz api_Node)) (hS51688.gbased (j := 2) rfl q51683 (by omega)) hc51794.1 hc51794.2) ?_
                  refine r_run 1 (l' := [(89, .pointer (some (elemA v51684 x51686 (csz api_Node) 1))), (88, .pointer (some (elemA v51684 x51686 (csz api_Node) 0))), (87, .int .i64 x51686), (86, v51684), (85, .pointer (some ⟨b51681, 0, none⟩)), (84, .bool false), (83, .bool false), (82, .int .i64 (imax x51676 x51675)), (81, .int .i64 x51675), (80, .int .i64 x51676), (79, .int .i64 x51785.To), (78, .pointer (some (elemA v51684 x51686 (csz api_Node) 2))), (77, .pointer (some (elemA v51684 x51686 (csz api_Node) 0))), (76, .int .i64 x51686), (75, v51684), (74, .pointer (some ⟨b51681, 0, none⟩)), (71, .bool true), (0, .int .i64 x51674), (1, .int .i64 x51675), (2, .int .i64 x51676), (7, .pointer (some ⟨b51677, 0, none⟩)), (11, .pointer (some ⟨b51681, 0, none⟩)), (12, .int .i64 x51686)]) (by kernel_rfl) ?_
                  obtain ⟨x51795, hx51796, ho51671⟩ := obind ho51671
                  obtain ⟨cs51797, hc51798, he51799, ht51800⟩ := hS51688.gel (j := 2) rfl q51683 (i := x51686) hx51796
                  obtain ⟨v51801, q51802, rfl⟩ := rc_api_Node hc51798
                  refine r_step rfl rfl (o_lde (w := .int .i64 x51795.From) he51799 rfl (by kernel_rfl)) ?_
                  refine r_run 2 (l' := [(92, .int .i64 (w64 (x51686 - 1))), (91, .int .i64 x51686), (90, .int .i64 x51795.From), (89, .pointer (some (elemA v51684 x51686 (csz api_Node) 1))), (88, .pointer (some (elemA v51684 x51686 (csz api_Node) 0))), (87, .int .i64 x51686), (86, v51684), (85, .pointer (some ⟨b51681, 0, none⟩)), (84, .bool false), (83, .bool false), (82, .int .i64 (imax x51676 x51675)), (81, .int .i64 x51675), (80, .int .i64 x51676), (79, .int .i64 x51785.To), (78, .pointer (some (elemA v51684 x51686 (csz api_Node) 2))), (77, .pointer (some (elemA v51684 x51686 (csz api_Node) 0))), (76, .int .i64 x51686), (75, v51684), (74, .pointer (some ⟨b51681, 0, none⟩)), (71, .bool true), (0, .int .i64 x51674), (1, .int .i64 x51675), (2, .int .i64 x51676), (7, .pointer (some ⟨b51677, 0, none⟩)), (11, .pointer (some ⟨b51681, 0, none⟩)), (12, .int .i64 x51686)]) (by kernel_rfl) ?_
                  rcases ifs ho51671 with ⟨hp51803, ho51671⟩ | ⟨hp51803, ho51671⟩
                  · refine r_step rfl rfl (o_cmp rfl rfl (c_neq_F hp51803)) ?_
                    refine r_run 3 (l' := [(96, .pointer (some ⟨b51681, 0, none⟩)), (95, .bool false), (94, .bool false), (93, .bool false), (92, .int .i64 (w64 (x51686 - 1))), (91, .int .i64 x51686), (90, .int .i64 x51795.From), (89, .pointer (some (elemA v51684 x51686 (csz api_Node) 1))), (88, .pointer (some (elemA v51684 x51686 (csz api_Node) 0))), (87, .int .i64 x51686), (86, v51684), (85, .pointer (some ⟨b51681, 0, none⟩)), (84, .bool false), (83, .bool false), (82, .int .i64 (imax x51676 x51675)), (81, .int .i64 x51675), (80, .int .i64 x51676), (79, .int .i64 x51785.To), (78, .pointer (some (elemA v51684 x51686 (csz api_Node) 2))), (77, .pointer (some (elemA v51684 x51686 (csz api_Node) 0))), (76, .int .i64 x51686), (75, v51684), (74, .pointer (some ⟨b51681, 0, none⟩)), (71, .bool true), (0, .int .i64 x51674), (1, .int .i64 x51675), (2, .int .i64 x51676), (7, .pointer (some ⟨b51677, 0, none⟩)), (11, .pointer (some ⟨b51681, 0, none⟩)), (12, .int .i64 x51686)]) (by kernel_rfl) ?_
                    refine r_step rfl rfl (o_ldb (v := v51684) hS51688 (i := 1) rfl rfl (by kernel_rfl)) ?_
                    refine r_run 1 (l' := [(98, .int .i64 x51686), (97, v51684), (96, .pointer (some ⟨b51681, 0, none⟩)), (95, .bool false), (94, .bool false), (93, .bool false), (92, .int .i64 (w64 (x51686 - 1))), (91, .int .i64 x51686), (90, .int .i64 x51795.From), (89, .pointer (some (elemA v51684 x51686 (csz api_Node) 1))), (88, .pointer (some (elemA v51684 x51686 (csz api_Node) 0))), (87, .int .i64 x51686), (86, v51684), (85, .pointer (some ⟨b51681, 0, none⟩)), (84, .bool false), (83, .bool false), (82, .int .i64 (imax x51676 x51675)), (81, .int .i64 x51675), (80, .int .i64 x51676), (79, .int .i64 x51785.To), (78, .pointer (some (elemA v51684 x51686 (csz api_Node) 2))), (77, .pointer (some (elemA v51684 x51686 (csz api_Node) 0))), (76, .int .i64 x51686), (75, v51684), (74, .pointer (some ⟨b51681, 0, none⟩)), (71, .bool true), (0, .int .i64 x51674), (1, .int .i64 x51675), (2, .int .i64 x51676), (7, .pointer (some ⟨b51677, 0, none⟩)), (11, .pointer (some ⟨b51681, 0, none⟩)), (12, .int .i64 x51686)]) (by kernel_rfl) ?_
                    obtain ⟨hc51804, ho51671⟩ := chk ho51671
                    refine r_step rfl rfl (o_index rfl rfl (by kernel_rfl : slTy _ _ = some (csz api_Node)) (hS51688.gbased (j := 2) rfl q51683 (by omega)) hc51804.1 hc51804.2) ?_
                    refine r_run 1 (l' := [(100, .pointer (some (elemA v51684 x51686 (csz api_Node) 3))), (99, .pointer (some (elemA v51684 x51686 (csz api_Node) 0))), (98, .int .i64 x51686), (97, v51684), (96, .pointer (some ⟨b51681, 0, none⟩)), (95, .bool false), (94, .bool false), (93, .bool false), (92, .int .i64 (w64 (x51686 - 1))), (91, .int .i64 x51686), (90, .int .i64 x51795.From), (89, .pointer (some (elemA v51684 x51686 (csz api_Node) 1))), (88, .pointer (some (elemA v51684 x51686 (csz api_Node) 0))), (87, .int .i64 x51686), (86, v51684), (85, .pointer (some ⟨b51681, 0, none⟩)), (84, .bool false), (83, .bool false), (82, .int .i64 (imax x51676 x51675)), (81, .int .i64 x51675), (80, .int .i64 x51676), (79, .int .i64 x51785.To), (78, .pointer (some (elemA v51684 x51686 (csz api_Node) 2))), (77, .pointer (some (elemA v51684 x51686 (csz api_Node) 0))), (76, .int .i64 x51686), (75, v51684), (74, .pointer (some ⟨b51681, 0, none⟩)), (71, .bool true), (0, .int .i64 x51674), (1, .int .i64 x51675), (2, .int .i64 x51676), (7, .pointer (some ⟨b51677, 0, none⟩)), (11, .pointer (some ⟨b51681, 0, none⟩)), (12, .int .i64 x51686)]) (by kernel_rfl) ?_
                    obtain ⟨x51805, hx51806, ho51671⟩ := obind ho51671
                    obtain ⟨cs51807, hc51808, he51809, ht51810⟩ := hS51688.gel (j := 2) rfl q51683 (i := x51686) hx51806
                    obtain ⟨v51811, q51812, rfl⟩ := rc_api_Node hc51808
                    refine r_step rfl rfl (o_lde (w := .int .i64 x51805.Up) he51809 rfl (by kernel_rfl)) ?_
                    refine r_run 2 (l' := [(103, .int .i64 (w64 (x51686 - 1))), (102, .int .i64 x51686), (101, .int .i64 x51805.Up), (100, .pointer (some (elemA v51684 x51686 (csz api_Node) 3))), (99, .pointer (some (elemA v51684 x51686 (csz api_Node) 0))), (98, .int .i64 x51686), (97, v51684), (96, .pointer (some ⟨b51681, 0, none⟩)), (95, .bool false), (94, .bool false), (93, .bool false), (92, .int .i64 (w64 (x51686 - 1))), (91, .int .i64 x51686), (90, .int .i64 x51795.From), (89, .pointer (some (elemA v51684 x51686 (csz api_Node) 1))), (88, .pointer (some (elemA v51684 x51686 (csz api_Node) 0))), (87, .int .i64 x51686), (86, v51684), (85, .pointer (some ⟨b51681, 0, none⟩)), (84, .bool false), (83, .bool false), (82, .int .i64 (imax x51676 x51675)), (81, .int .i64 x51675), (80, .int .i64 x51676), (79, .int .i64 x51785.To), (78, .pointer (some (elemA v51684 x51686 (csz api_Node) 2))), (77, .pointer (some (elemA v51684 x51686 (csz api_Node) 0))), (76, .int .i64 x51686), (75, v51684), (74, .pointer (some ⟨b51681, 0, none⟩)), (71, .bool true), (0, .int .i64 x51674), (1, .int .i64 x51675), (2, .int .i64 x51676), (7, .pointer (some ⟨b51677, 0, none⟩)), (11, .pointer (some ⟨b51681, 0, none⟩)), (12, .int .i64 x51686)]) (by kernel_rfl) ?_
                    rcases ifs ho51671 with ⟨hp51813, ho51671⟩ | ⟨hp51813, ho51671⟩
                    · refine r_step rfl rfl (o_cmp rfl rfl (c_neq_F hp51813)) ?_
                      refine r_run 1 (l' := [(105, .bool false), (104, .bool false), (103, .int .i64 (w64 (x51686 - 1))), (102, .int .i64 x51686), (101, .int .i64 x51805.Up), (100, .pointer (some (elemA v51684 x51686 (csz api_Node) 3))), (99, .pointer (some (elemA v51684 x51686 (csz api_Node) 0))), (98, .int .i64 x51686), (97, v51684), (96, .pointer (some ⟨b51681, 0, none⟩)), (95, .bool false), (94, .bool false), (93, .bool false), (92, .int .i64 (w64 (x51686 - 1))), (91, .int .i64 x51686), (90, .int .i64 x51795.From), (89, .pointer (some (elemA v51684 x51686 (csz api_Node) 1))), (88, .pointer (some (elemA v51684 x51686 (csz api_Node) 0))), (87, .int .i64 x51686), (86, v51684), (85, .pointer (some ⟨b51681, 0, none⟩)), (84, .bool false), (83, .bool false), (82, .int .i64 (imax x51676 x51675)), (81, .int .i64 x51675), (80, .int .i64 x51676), (79, .int .i64 x51785.To), (78, .pointer (some (elemA v51684 x51686 (csz api_Node) 2))), (77, .pointer (some (elemA v51684 x51686 (csz api_Node) 0))), (76, .int .i64 x51686), (75, v51684), (74, .pointer (some ⟨b51681, 0, none⟩)), (71, .bool true), (0, .int .i64 x51674), (1, .int .i64 x51675), (2, .int .i64 x51676), (7, .pointer (some ⟨b51677, 0, none⟩)), (11, .pointer (some ⟨b51681, 0, none⟩)), (12, .int .i64 x51686)]) (by kernel_rfl) ?_
                      refine r_forget [105, 0, 1, 2, 7, 11, 12] (l' := [(105, .bool false), (0, .int .i64 x51674), (1, .int .i64 x51675), (2, .int .i64 x51676), (7, .pointer (some ⟨b51677, 0, none⟩)), (11, .pointer (some ⟨b51681, 0, none⟩)), (12, .int .i64 x51686)]) (by kernel_rfl) ?_
                      refine r_end rfl ?_
                      refine W_condF (x := .tmp 105) (by kernel_rfl) rfl rfl ?_
                      refine W_skip (by kernel_rfl) ?_
                      refine W_region (R := r7_18) (by kernel_rfl) ?_
                      refine r_run 3 (l' := [(12, .int .i64 (w64 (x51686 + 1))), (73, .int .i64 (w64 (x51686 + 1))), (72, .int .i64 x51686), (105, .bool false), (0, .int .i64 x51674), (1, .int .i64 x51675), (2, .int .i64 x51676), (7, .pointer (some ⟨b51677, 0, none⟩)), (11, .pointer (some ⟨b51681, 0, none⟩)), (12, .int .i64 x51686)]) (by kernel_rfl) ?_
                      refine r_forget [12, 0, 1, 2, 7, 11] (l' := [(12, .int .i64 (w64 (x51686 + 1))), (0, .int .i64 x51674), (1, .int .i64 x51675), (2, .int .i64 x51676), (7, .pointer (some ⟨b51677, 0, none⟩)), (11, .pointer (some ⟨b51681, 0, none⟩))]) (by kernel_rfl) ?_
                      refine r_end rfl ?_
                      exact ⟨n51689, Nat.lt_succ_self _, ⟨_, x51674, x51675, x51676, x51678, x51682, w64 (x51686 + 1), b51677, v51680, b51681, v51684, c51685, ho51671, q51679, q51683, rfl, hS51688⟩⟩
                    · refine r_step rfl rfl (o_cmp rfl rfl (c_neq_T hp51813)) ?_
                      refine r_run 1 (l' := [(105, .bool true), (104, .bool true), (103, .int .i64 (w64 (x51686 - 1))), (102, .int .i64 x51686), (101, .int .i64 x51805.Up), (100, .pointer (some (elemA v51684 x51686 (csz api_Node) 3))), (99, .pointer (some (elemA v51684 x51686 (csz api_Node) 0))), (98, .int .i64 x51686), (97, v51684), (96, .pointer (some ⟨b51681, 0, none⟩)), (95, .bool false), (94, .bool false), (93, .bool false), (92, .int .i64 (w64 (x51686 - 1))), (91, .int .i64 x51686), (90, .int .i64 x51795.From), (89, .pointer (some (elemA v51684 x51686 (csz api_Node) 1))), (88, .pointer (some (elemA v51684 x51686 (csz api_Node) 0))), (87, .int .i64 x51686), (86, v51684), (85, .pointer (some ⟨b51681, 0, none⟩)), (84, .bool false), (83, .bool false), (82, .int .i64 (imax x51676 x51675)), (81, .int .i64 x51675), (80, .int .i64 x51676), (79, .int .i64 x51785.To), (78, .pointer (some (elemA v51684 x51686 (csz api_Node) 2))), (77, .pointer (some (elemA v51684 x51686 (csz api_Node) 0))), (76, .int .i64 x51686), (75, v51684), (74, .pointer (some ⟨b51681, 0, none⟩)), (71, .bool true), (0, .int .i64 x51674), (1, .int .i64 x51675), (2, .int .i64 x51676), (7, .pointer (some ⟨b51677, 0, none⟩)), (11, .pointer (some ⟨b51681, 0, none⟩)), (12, .int .i64 x51686)]) (by kernel_rfl) ?_
                      refine r_forget [105, 0, 1, 2, 7, 11, 12] (l' := [(105, .bool true), (0, .int .i64 x51674), (1, .int .i64 x51675), (2, .int .i64 x51676), (7, .pointer (some ⟨b51677, 0, none⟩)), (11, .pointer (some ⟨b51681, 0, none⟩)), (12, .int .i64 x51686)]) (by kernel_rfl) ?_
                      refine r_end rfl ?_
                      refine W_condT (x := .tmp 105) (by kernel_rfl) rfl rfl ?_
                      refine W_seq (by kernel_rfl) ?_
                      refine W_region (R := r7_20) (by kernel_rfl) ?_
                      refine r_run 1 (l' := [(6, .bool false), (105, .bool true), (0, .int .i64 x51674), (1, .int .i64 x51675), (2, .int .i64 x51676), (7, .pointer (some ⟨b51677, 0, none⟩)), (11, .pointer (some ⟨b51681, 0, none⟩)), (12, .int .i64 x51686)]) (by kernel_rfl) ?_
                      refine r_forget [6] (l' := [(6, .bool false)]) (by kernel_rfl) ?_
                      refine r_end rfl ?_
                      refine W_ret (by kernel_rfl) ?_
                      refine blkX_ret ?_
                      refine blkX_ret ?_
                      refine ⟨rfl, ?_⟩
                      obtain rfl := Option.some.inj ho51671
                      obtain rfl := Option.some.inj hm
                      refine ⟨_, _, _, ResL.tmp rfl (ResL.nil), hS51688, ?_⟩
                      exact rfl
                  · refine r_step rfl rfl (o_cmp rfl rfl (c_neq_T hp51803)) ?_
                    refine r_run 12 (l' := [(105, .bool true), (104, undef), (103, undef), (102, undef), (101, undef), (100, undef), (99, undef), (98, undef), (97, undef), (96, undef), (95, .bool true), (94, .bool true), (93, .bool true), (92, .int .i64 (w64 (x51686 - 1))), (91, .int .i64 x51686), (90, .int .i64 x51795.From), (89, .pointer (some (elemA v51684 x51686 (csz api_Node) 1))), (88, .pointer (some (elemA v51684 x51686 (csz api_Node) 0))), (87, .int .i64 x51686), (86, v51684), (85, .pointer (some ⟨b51681, 0, none⟩)), (84, .bool false), (83, .bool false), (82, .int .i64 (imax x51676 x51675)), (81, .int .i64 x51675), (80, .int .i64 x51676), (79, .int .i64 x51785.To), (78, .pointer (some (elemA v51684 x51686 (csz api_Node) 2))), (77, .pointer (some (elemA v51684 x51686 (csz api_Node) 0))), (76, .int .i64 x51686), (75, v51684), (74, .pointer (some ⟨b51681, 0, none⟩)), (71, .bool true), (0, .int .i64 x51674), (1, .int .i64 x51675), (2, .int .i64 x51676), (7, .pointer (some ⟨b51677, 0, none⟩)), (11, .pointer (some ⟨b51681, 0, none⟩)), (12, .int .i64 x51686)]) (by kernel_rfl) ?_
                    refine r_forget [105, 0, 1, 2, 7, 11, 12] (l' := [(105, .bool true), (0, .int .i64 x51674), (1, .int .i64 x51675), (2, .int .i64 x51676), (7, .pointer (some ⟨b51677, 0, none⟩)), (11, .pointer (some ⟨b51681, 0, none⟩)), (12, .int .i64 x51686)]) (by kernel_rfl) ?_
                    refine r_end rfl ?_
                    refine W_condT (x := .tmp 105) (by kernel_rfl) rfl rfl ?_
                    refine W_seq (by kernel_rfl) ?_
                    refine W_region (R := r7_20) (by kernel_rfl) ?_
                    refine r_run 1 (l' := [(6, .bool false), (105, .bool true), (0, .int .i64 x51674), (1, .int .i64 x51675), (2, .int .i64 x51676), (7, .pointer (some ⟨b51677, 0, none⟩)), (11, .pointer (some ⟨b51681, 0, none⟩)), (12, .int .i64 x51686)]) (by kernel_rfl) ?_
                    refine r_forget [6] (l' := [(6, .bool false)]) (by kernel_rfl) ?_
                    refine r_end rfl ?_
                    refine W_ret (by kernel_rfl) ?_
                    refine blkX_ret ?_
                    refine blkX_ret ?_
                    refine ⟨rfl, ?_⟩
                    obtain rfl := Option.some.inj ho51671
                    obtain rfl := Option.some.inj hm
                    refine ⟨_, _, _, ResL.tmp rfl (ResL.nil), hS51688, ?_⟩
                    exact rfl
                · refine r_step rfl trivial (o_cmp rfl rfl (c_neq_T hp51793)) ?_
                  refine r_run 22 (l' := [(105, .bool true), (104, undef), (103, undef), (102, undef), (101, undef), (100, undef), (99, undef), (98, undef), (97, undef), (96, undef), (95, .bool true), (94, .bool true), (93, undef), (92, undef), (91, undef), (90, undef), (89, undef), (88, undef), (87, undef), (86, undef), (85, undef), (84, .bool true), (83, .bool true), (82, .int .i64 (imax x51676 x51675)), (81, .int .i64 x51675), (80, .int .i64 x51676), (79, .int .i64 x51785.To), (78, .pointer (some (elemA v51684 x51686 (csz api_Node) 2))), (77, .pointer (some (elemA v51684 x51686 (csz api_Node) 0))), (76, .int .i64 x51686), (75, v51684), (74, .pointer (some ⟨b51681, 0, none⟩)), (71, .bool true), (0, .int .i64 x51674), (1, .int .i64 x51675), (2, .int .i64 x51676), (7, .pointer (some ⟨b51677, 0, none⟩)), (11, .pointer (some ⟨b51681, 0, none⟩)), (12, .int .i64 x51686)]) (by kernel_rfl) ?_
                  refine r_forget [105, 0, 1, 2, 7, 11, 12] (l' := [(105, .bool true), (0, .int .i64 x51674), (1, .int .i64 x51675), (2, .int .i64 x51676), (7, .pointer (some ⟨b51677, 0, none⟩)), (11, .pointer (some ⟨b51681, 0, none⟩)), (12, .int .i64 x51686)]) (by kernel_rfl) ?_
                  refine r_end rfl ?_
                  refine W_condT (x := .tmp 105) (by kernel_rfl) rfl rfl ?_
                  refine W_seq (by kernel_rfl) ?_
                  refine W_region (R := r7_20) (by kernel_rfl) ?_
                  refine r_run 1 (l' := [(6, .bool false), (105, .bool true), (0, .int .i64 x51674), (1, .int .i64 x51675), (2, .int .i64 x51676), (7, .pointer (some ⟨b51677, 0, none⟩)), (11, .pointer (some ⟨b51681, 0, none⟩)), (12, .int .i64 x51686)]) (by kernel_rfl) ?_
                  refine r_forget [6] (l' := [(6, .bool false)]) (by kernel_rfl) ?_
                  refine r_end rfl ?_
                  refine W_ret (by kernel_rfl) ?_
                  refine blkX_ret ?_
                  refine blkX_ret ?_
                  refine ⟨rfl, ?_⟩
                  obtain rfl := Option.some.inj ho51671
                  obtain rfl := Option.some.inj hm
                  refine ⟨_, _, _, ResL.tmp rfl (ResL.nil), hS51688, ?_⟩
                  exact rfl
              · refine r_step rfl trivial (o_cmp rfl rfl (c_leq_F hp51693)) ?_
                refine r_forget [71, 0, 1, 2, 7, 11, 12] (l' := [(71, .bool false), (0, .int .i64 x51674), (1, .int .i64 x51675), (2, .int .i64 x51676), (7, .pointer (some ⟨b51677, 0, none⟩)), (11, .pointer (some ⟨b51681, 0, none⟩)), (12, .int .i64 x51686)]) (by kernel_rfl) ?_
                refine r_end rfl ?_
                refine W_condF (x := .tmp 71) (by kernel_rfl) rfl rfl ?_
                refine W_exit (i := 2) (by kernel_rfl) ?_
                refine blkX_hit ?_
                obtain rfl := Option.some.inj ho51671
                exact ⟨_, x51674, x51675, x51678, x51682, b51677, v51680, b51681, v51684, c51685, rfl, q51679, q51683, rfl, hS51688⟩
        · refine r_step rfl rfl (o_cmp rfl rfl (c_neq_T hp51376)) ?_
          refine r_run 1 (l' := [(68, .bool true), (67, .bool true), (66, .int .i64 x51293), (65, .int .i64 x51368.To), (64, .pointer (some (elemA v51326 0 (csz api_Node) 2))), (63, .pointer (some (elemA v51326 0 (csz api_Node) 0))), (62, v51326), (61, .pointer (some ⟨b51328, 0, none⟩)), (60, .bool false), (59, .bool false), (58, .int .i64 (w64 (x51294 + 1))), (57, .int .i64 x51294), (56, .int .i64 (r51314.Nodes.length : Int)), (55, v51326), (54, .pointer (some ⟨b51328, 0, none⟩)), (11, .pointer (some ⟨b51328, 0, none⟩)), (2, .int .i64 (w64 (x51294 + r51303))), (0, .int .i64 x51293), (1, .int .i64 x51294), (7, .pointer (some ⟨b51296, 0, none⟩))]) (by kernel_rfl) ?_
          refine r_forget [68, 11, 2, 0, 1, 7] (l' := [(68, .bool true), (11, .pointer (some ⟨b51328, 0, none⟩)), (2, .int .i64 (w64 (x51294 + r51303))), (0, .int .i64 x51293), (1, .int .i64 x51294), (7, .pointer (some ⟨b51296, 0, none⟩))]) (by kernel_rfl) ?_
          refine r_end rfl ?_
          refine W_condT (x := .tmp 68) (by kernel_rfl) rfl rfl ?_
          refine W_seq (by kernel_rfl) ?_
          refine W_region (R := r7_15) (by kernel_rfl) ?_
          refine r_run 1 (l' := [(6, .bool false), (68, .bool true), (11, .pointer (some ⟨b51328, 0, none⟩)), (2, .int .i64 (w64 (x51294 + r51303))), (0, .int .i64 x51293), (1, .int .i64 x51294), (7, .pointer (some ⟨b51296, 0, none⟩))]) (by kernel_rfl) ?_
          refine r_forget [6] (l' := [(6, .bool false)]) (by kernel_rfl) ?_
          refine r_end rfl ?_
          refine W_ret (by kernel_rfl) ?_
          refine ⟨rfl, ?_⟩
          obtain rfl := Option.some.inj hm
          refine ⟨_, _, _, ResL.tmp rfl (ResL.nil), hS51332, ?_⟩
          exact rfl
      · refine r_step rfl trivial (o_cmp rfl rfl (c_neq_T hp51366)) ?_
        refine r_run 9 (l' := [(68, .bool true), (67, undef), (66, undef), (65, undef), (64, undef), (63, undef), (62, undef), (61, undef), (60, .bool true), (59, .bool true), (58, .int .i64 (w64 (x51294 + 1))), (57, .int .i64 x51294), (56, .int .i64 (r51314.Nodes.length : Int)), (55, v51326), (54, .pointer (some ⟨b51328, 0, none⟩)), (11, .pointer (some ⟨b51328, 0, none⟩)), (2, .int .i64 (w64 (x51294 + r51303))), (0, .int .i64 x51293), (1, .int .i64 x51294), (7, .pointer (some ⟨b51296, 0, none⟩))]) (by kernel_rfl) ?_
        refine r_forget [68, 11, 2, 0, 1, 7] (l' := [(68, .bool true), (11, .pointer (some ⟨b51328, 0, none⟩)), (2, .int .i64 (w64 (x51294 + r51303))), (0, .int .i64 x51293), (1, .int .i64 x51294), (7, .pointer (some ⟨b51296, 0, none⟩))]) (by kernel_rfl) ?_
        refine r_end rfl ?_
        refine W_condT (x := .tmp 68) (by kernel_rfl) rfl rfl ?_
        refine W_seq (by kernel_rfl) ?_
        refine W_region (R := r7_15) (by kernel_rfl) ?_
        refine r_run 1 (l' := [(6, .bool false), (68, .bool true), (11, .pointer (some ⟨b51328, 0, none⟩)), (2, .int .i64 (w64 (x51294 + r51303))), (0, .int .i64 x51293), (1, .int .i64 x51294), (7, .pointer (some ⟨b51296, 0, none⟩))]) (by kernel_rfl) ?_
        refine r_forget [6] (l' := [(6, .bool false)]) (by kernel_rfl) ?_
        refine r_end rfl ?_
        refine W_ret (by kernel_rfl) ?_
        refine ⟨rfl, ?_⟩
        obtain rfl := Option.some.inj hm
        refine ⟨_, _, _, ResL.tmp rfl (ResL.nil), hS51332, ?_⟩
        exact rfl
    · refine W_block (i := 0) (by kernel_rfl) ?_
      refine W_loop [0, 1, 2, 7, 8] (fun n l h => ∃ Z51209 : Zn, ∃ x51210 : Int, ∃ x51211 : Int, ∃ x51212 : Int, ∃ x51214 : List api_Node, ∃ x51218 : Int, ∃ b51213 : Nat, ∃ v51216 : Value, ∃ c51217 : List Value, correctorlaw10_ArenaReaches_l0 F a0 a1 a2 n x51210 x51211 x51212 x51214 x51218 = some o51208 ∧ RCs (α := api_Node) Z51209 c51217 x51214 ∧ l = [(0, .int .i64 x51210), (1, .int .i64 x51211), (2, .int .i64 x51212), (7, .pointer (some ⟨b51213, 0, none⟩)), (8, .int .i64 x51218)] ∧ St hs [] Z (0, 0) Z51209 h [.blk b51213 [v51216], .gs v51216 c51217 (csz api_Node)]) F (by kernel_rfl) ⟨_, w64 (20 + r51015), w64 (1 + r51022), a2, r51029.Nodes, 0, b51043, v51041, c51042, ho51207, q51040, rfl, hS51047⟩ ?_
      rintro n51221 l h51219 ⟨Z51209, x51210, x51211, x51212, x51214, x51218, b51213, v51216, c51217, ho51207, q51215, rfl, hS51220⟩
      cases n51221 with
      | zero => cases (show none = some o51208 from ho51207)
      | succ n51221 =>
        rw [correctorlaw10_ArenaReaches_l0] at ho51207
        refine W_seq (by kernel_rfl) ?_
        refine W_seq (by kernel_rfl) ?_
        refine W_region (R := r7_6) (by kernel_rfl) ?_
        refine r_run 2 (l' := [(24, .int .i64 x51211), (23, .int .i64 x51218), (0, .int .i64 x51210), (1, .int .i64 x51211), (2, .int .i64 x51212), (7, .pointer (some ⟨b51213, 0, none⟩)), (8, .int .i64 x51218)]) (by kernel_rfl) ?_
        rcases ifs ho51207 with ⟨hp51225, ho51207⟩ | ⟨hp51225, ho51207⟩
        · refine r_step rfl trivial (o_cmp rfl rfl (c_lss_T hp51225)) ?_
          refine r_forget [25, 0, 1, 2, 7, 8] (l' := [(25, .bool true), (0, .int .i64 x51210), (1, .int .i64 x51211), (2, .int .i64 x51212), (7, .pointer (some ⟨b51213, 0, none⟩)), (8, .int .i64 x51218)]) (by kernel_rfl) ?_
          refine r_end rfl ?_
          refine W_condT (x := .tmp 25) (by kernel_rfl) rfl rfl ?_
          refine W_skip (by kernel_rfl) ?_
          refine W_seq (by kernel_rfl) ?_
          refine W_block (i := 1) (by kernel_rfl) ?_
          refine W_seq (by kernel_rfl) ?_
          refine W_region (R := r7_8) (by kernel_rfl) ?_
          refine r_step rfl trivial (o_ldb (v := .agg #[v51216]) hS51220 (i := 0) rfl rfl (by kernel_rfl)) ?_
          refine r_run 4 (l' := [(33, .int .i64 (w64 (x51218 + 1))), (32, .int .i64 x51218), (31, .int .i64 x51218), (30, .int .i64 x51218), (29, .agg #[v51216]), (25, .bool true), (0, .int .i64 x51210), (1, .int .i64 x51211), (2, .int .i64 x51212), (7, .pointer (some ⟨b51213, 0, none⟩)), (8, .int .i64 x51218)]) (by kernel_rfl) ?_
          obtain ⟨Z51255, hZ51256, q51257, hS51258⟩ := (hS51220.front 1 rfl).freeze q51215
          replace hS51258 : St _ _ _ _ _ _ [.blk b51213 [v51216]] := hS51258
          obtain ⟨r51259, hx51260, ho51207⟩ := obind ho51207
          have hSr51266 : St _ _ _ _ _ _ ([] ++ [.blk b51213 [v51216]]) := hS51258
          obtain ⟨v51261, h51262, Z51267, A51269, hcl51263, hSc51264, v51271, c51272, rfl, rfl, q51270⟩ := arena_Add_ok F hSr51266.preL q51257 hx51260
          have hS51265 := hSr51266.call hSc51264
          have hZ51268 := hSc51264.zle
          replace hS51265 : St _ _ _ _ _ _ [.gs v51271 c51272 (csz api_Node), .blk b51213 [v51216]] := hS51265
          refine r_step rfl trivial (o_call hcl51263 rfl rfl rfl) ?_
          refine r_run 3 (l' := [(36, .int .i64 r51259.2), (35, .agg #[v51271]), (28, .tuple #[.agg #[v51271], .int .i64 r51259.2]), (34, .tuple #[.agg #[v51271], .int .i64 r51259.2]), (33, .int .i64 (w64 (x51218 + 1))), (32, .int .i64 x51218), (31, .int .i64 x51218), (30, .int .i64 x51218), (29, .agg #[v51216]), (25, .bool true), (0, .int .i64 x51210), (1, .int .i64 x51211), (2, .int .i64 x51212), (7, .pointer (some ⟨b51213, 0, none⟩)), (8, .int .i64 x51218)]) (by kernel_rfl) ?_
          refine r_blk rfl trivial (o_alloc (cs := [.slice none 0 0]) (by kernel_rfl)) hS51265 ?_
          intro b51273 h51274 hS51275
          refine r_ex1 rfl trivial (o_stb (vs := [v51271]) (cells' := [v51271]) (L' := [.blk b51273 [v51271], .gs v51271 c51272 (csz api_Node), .blk b51213 [v51216]]) hS51275 (i := 0) rfl rfl rfl rfl (by kernel_rfl) (one_cons (hS51275.gone1 (i := 1) rfl) one_nil) rfl rfl rfl) ?_
          intro h51276 hS51277
          refine r_run 1 (l' := [(10, .int .i64 r51259.2), (9, .pointer (some ⟨b51273, 0, none⟩)), (36, .int .i64 r51259.2), (35, .agg #[v51271]), (28, .tuple #[.agg #[v51271], .int .i64 r51259.2]), (34, .tuple #[.agg #[v51271], .int .i64 r51259.2]), (33, .int .i64 (w64 (x51218 + 1))), (32, .int .i64 x51218), (31, .int .i64 x51218), (30, .int .i64 x51218), (29, .agg #[v51216]), (25, .bool true), (0, .int .i64 x51210), (1, .int .i64 x51211), (2, .int .i64 x51212), (7, .pointer (some ⟨b51213, 0, none⟩)), (8, .int .i64 x51218)]) (by kernel_rfl) ?_
          refine r_forget [10, 9, 0, 1, 2, 7, 8] (l' := [(10, .int .i64 r51259.2), (9, .pointer (some ⟨b51273, 0, none⟩)), (0, .int .i64 x51210), (1, .int .i64 x51211), (2, .int .i64 x51212), (7, .pointer (some ⟨b51213, 0, none⟩)), (8, .int .i64 x51218)]) (by kernel_rfl) ?_
          refine r_end rfl ?_
          refine W_seq (by kernel_rfl) ?_
          refine W_seq (by kernel_rfl) ?_
          refine W_region (R := r7_9) (by kernel_rfl) ?_
          refine r_run 3 (l' := [(39, .int .i64 (w64 (x51218 + 1))), (38, .int .i64 x51218), (37, .int .i64 r51259.2), (10, .int .i64 r51259.2), (9, .pointer (some ⟨b51273, 0, none⟩)), (0, .int .i64 x51210), (1, .int .i64 x51211), (2, .int .i64 x51212), (7, .pointer (some ⟨b51213, 0, none⟩)), (8, .int .i64 x51218)]) (by kernel_rfl) ?_
          rcases ifs ho51207 with ⟨hp51281, ho51207⟩ | ⟨hp51281, ho51207⟩
          · refine r_step rfl trivial (o_cmp rfl rfl (c_neq_F hp51281)) ?_
            refine r_forget [40, 9, 0, 1, 2, 7, 8] (l' := [(40, .bool false), (9, .pointer (some ⟨b51273, 0, none⟩)), (0, .int .i64 x51210), (1, .int .i64 x51211), (2, .int .i64 x51212), (7, .pointer (some ⟨b51213, 0, none⟩)), (8, .int .i64 x51218)]) (by kernel_rfl) ?_
            refine r_end rfl ?_
            refine W_condF (x := .tmp 40) (by kernel_rfl) rfl rfl ?_
            refine W_skip (by kernel_rfl) ?_
            refine W_region (R := r7_11) (by kernel_rfl) ?_
            refine r_step rfl trivial (o_ldb (v := .agg #[v51271]) hS51277 (i := 0) rfl rfl (by kernel_rfl)) ?_
            refine r_ex1 rfl trivial (o_stb (vs := [v51271]) (cells' := [v51271]) (L' := [.blk b51273 [v51271], .gs v51271 c51272 (csz api_Node), .blk b51213 [v51271]]) hS51277 (i := 2) rfl rfl rfl rfl (by kernel_rfl) (one_cons (hS51277.gone1 (i := 1) rfl) one_nil) rfl rfl rfl) ?_
            intro h51282 hS51283
            refine r_forget [0, 1, 2, 7, 8] (l' := [(0, .int .i64 x51210), (1, .int .i64 x51211), (2, .int .i64 x51212), (7, .pointer (some ⟨b51213, 0, none⟩)), (8, .int .i64 x51218)]) (by kernel_rfl) ?_
            refine r_end rfl ?_
            refine W_region (R := r7_7) (by kernel_rfl) ?_
            refine r_run 3 (l' := [(8, .int .i64 (w64 (x51218 + 1))), (27, .int .i64 (w64 (x51218 + 1))), (26, .int .i64 x51218), (0, .int .i64 x51210), (1, .int .i64 x51211), (2, .int .i64 x51212), (7, .pointer (some ⟨b51213, 0, none⟩)), (8, .int .i64 x51218)]) (by kernel_rfl) ?_
            refine r_forget [8, 0, 1, 2, 7] (l' := [(8, .int .i64 (w64 (x51218 + 1))), (0, .int .i64 x51210), (1, .int .i64 x51211), (2, .int .i64 x51212), (7, .pointer (some ⟨b51213, 0, none⟩))]) (by kernel_rfl) ?_
            refine r_end rfl ?_
            exact ⟨n51221, Nat.lt_succ_self _, ⟨_, x51210, x51211, x51212, r51259.1.Nodes, w64 (x51218 + 1), b51213, v51271, c51272, ho51207, q51270, rfl, (((hS51283.front 1 rfl).front 2 rfl).takeN 2)⟩⟩
          · refine r_step rfl trivial (o_cmp rfl rfl (c_neq_T hp51281)) ?_
            refine r_forget [40, 9, 0, 1, 2, 7, 8] (l' := [(40, .bool true), (9, .pointer (some ⟨b51273, 0, none⟩)), (0, .int .i64 x51210), (1, .int .i64 x51211), (2, .int .i64 x51212), (7, .pointer (some ⟨b51213, 0, none⟩)), (8, .int .i64 x51218)]) (by kernel_rfl) ?_
            refine r_end rfl ?_
            refine W_condT (x := .tmp 40) (by kernel_rfl) rfl rfl ?_
            refine W_seq (by kernel_rfl) ?_
            refine W_region (R := r7_10) (by kernel_rfl) ?_
            refine r_run 1 (l' := [(6, .bool false), (40, .bool true), (9, .pointer (some ⟨b51273, 0, none⟩)), (0, .int .i64 x51210), (1, .int .i64 x51211), (2, .int .i64 x51212), (7, .pointer (some ⟨b51213, 0, none⟩)), (8, .int .i64 x51218)]) (by kernel_rfl) ?_
            refine r_forget [6] (l' := [(6, .bool false)]) (by kernel_rfl) ?_
            refine r_end rfl ?_
            refine W_ret (by kernel_rfl) ?_
            refine blkX_ret ?_
            refine blkX_ret ?_
            refine ⟨rfl, ?_⟩
            obtain rfl := Option.some.inj ho51207
            obtain rfl := Option.some.inj hm
            refine ⟨_, _, _, ResL.tmp rfl (ResL.nil), hS51277, ?_⟩
            exact rfl
        · refine r_step rfl trivial (o_cmp rfl rfl (c_lss_F hp51225)) ?_
          refine r_forget [25, 0, 1, 2, 7, 8] (l' := [(25, .bool false), (0, .int .i64 x51210), (1, .int .i64 x51211), (2, .int .i64 x51212), (7, .pointer (some ⟨b51213, 0, none⟩)), (8, .int .i64 x51218)]) (by kernel_rfl) ?_
          refine r_end rfl ?_
          refine W_condF (x := .tmp 25) (by kernel_rfl) rfl rfl ?_
          refine W_exit (i := 0) (by kernel_rfl) ?_
          refine blkX_hit ?_
          obtain rfl := Option.some.inj ho51207
          exact ⟨_, x51210, x51211, x51212, x51214, b51213, v51216, c51217, rfl, q51215, rfl, hS51220⟩
  · refine r_setb (t := 13) rfl (Bool.eq_false_iff.2 hp51014) ?_
    refine r_run 1 (l' := [(14, .bool true), (13, .bool false), (13, .bool r51007), (0, .int .i64 a0), (1, .int .i64 a1), (2, .int .i64 a2)]) (by kernel_rfl) ?_
    refine r_forget [14, 0, 1, 2] (l' := [(14, .bool true), (0, .int .i64 a0), (1, .int .i64 a1), (2, .int .i64 a2)]) (by kernel_rfl) ?_
    refine r_end rfl ?_
    refine W_condT (x := .tmp 14) (by kernel_rfl) rfl rfl ?_
    refine W_seq (by kernel_rfl) ?_
    refine W_region (R := r7_2) (by kernel_rfl) ?_
    refine r_run 1 (l' := [(6, .bool false), (14, .bool true), (0, .int .i64 a0), (1, .int .i64 a1), (2, .int .i64 a2)]) (by kernel_rfl) ?_
    refine r_forget [6] (l' := [(6, .bool false)]) (by kernel_rfl) ?_
    refine r_end rfl ?_
    refine W_ret (by kernel_rfl) ?_
    refine ⟨rfl, ?_⟩
    obtain rfl := Option.some.inj hm
    refine ⟨_, _, _, ResL.tmp rfl (ResL.nil), hS51013, ?_⟩
    exact rfl

end Go.Proofs.Ytpijjenaadkjdaa.M
