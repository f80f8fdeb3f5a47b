/- Printed by a program of this session: Go functions as Lean functions over plain data, and that the calls come to them. -/
import Derived.Test.YtpijjenaadkjdaaSyF
import Derived.Test.YtpijjenaadkjdaaChecked
import Derived.KernelRfl
import Derived.Test.YtpijjenaadkjdaaMA1
namespace Go.Proofs.Ytpijjenaadkjdaa.M
open Go Am Sy
open Sy.Cell (rc)
set_option linter.unusedVariables false
set_option linter.unusedSimpArgs false
set_option maxRecDepth 20000

def r4_0 : List COp := [⟨none, some 6, (Go.Op.assign (Go.Operand.const (Go.Value.bool false)))⟩]
def r4_1 : List COp := [⟨none, some 15, (Go.Op.call { callee := (Go.Callee.value (Go.Operand.func 8)), args := #[], argTypes := #[] })⟩,
  ⟨none, some 16, (Go.Op.unOp Go.UnOp.not 4 (Go.Operand.tmp 15))⟩]
def r4_2 : List COp := [⟨none, some 6, (Go.Op.assign (Go.Operand.const (Go.Value.bool false)))⟩]
def r4_3 : List COp := [⟨none, some 17, (Go.Op.move (Go.Operand.tmp 0))⟩,
  ⟨none, some 18, (Go.Op.call { callee := (Go.Callee.value (Go.Operand.func 9)), args := #[(Go.Operand.tmp 17), (Go.Operand.const (Go.Value.int Go.IntKind.i64 50))], argTypes := #[3, 3] })⟩,
  ⟨none, some 19, (Go.Op.binOp Go.BinOp.add 3 (Go.Operand.const (Go.Value.int Go.IntKind.i64 5)) (Go.Operand.tmp 18) 3)⟩,
  ⟨none, some 20, (Go.Op.move (Go.Operand.tmp 2))⟩,
  ⟨none, some 21, (Go.Op.call { callee := (Go.Callee.value (Go.Operand.func 9)), args := #[(Go.Operand.tmp 20), (Go.Operand.const (Go.Value.int Go.IntKind.i64 9))], argTypes := #[3, 3] })⟩,
  ⟨none, some 22, (Go.Op.binOp Go.BinOp.add 3 (Go.Operand.const (Go.Value.int Go.IntKind.i64 1)) (Go.Operand.tmp 21) 3)⟩,
  ⟨none, some 0, (Go.Op.assign (Go.Operand.tmp 19))⟩,
  ⟨none, some 2, (Go.Op.assign (Go.Operand.tmp 22))⟩]
def r4_4 : List COp := [⟨none, some 24, (Go.Op.move (Go.Operand.tmp 0))⟩,
  ⟨none, some 25, (Go.Op.call { callee := (Go.Callee.value (Go.Operand.func 10)), args := #[(Go.Operand.tmp 24)], argTypes := #[3] })⟩,
  ⟨none, some 26, (Go.Op.call { callee := (Go.Callee.value (Go.Operand.func 14)), args := #[(Go.Operand.tmp 25), (Go.Operand.const (Go.Value.int Go.IntKind.i64 0)), (Go.Operand.const (Go.Value.int Go.IntKind.i64 2)), (Go.Operand.const (Go.Value.int Go.IntKind.i64 1)), (Go.Operand.const (Go.Value.int Go.IntKind.i64 3))], argTypes := #[27, 3, 3, 3, 3] })⟩,
  ⟨none, some 23, (Go.Op.move (Go.Operand.tmp 26))⟩,
  ⟨none, some 27, (Go.Op.extract (Go.Operand.tmp 23) 0)⟩,
  ⟨none, some 28, (Go.Op.extract (Go.Operand.tmp 23) 1)⟩,
  ⟨none, some 7, (Go.Op.alloc 27)⟩,
  ⟨none, none, (Go.Op.store 27 (Go.Operand.tmp 7) (Go.Operand.tmp 27))⟩,
  ⟨none, some 8, (Go.Op.assign (Go.Operand.tmp 28))⟩]
def r4_5 : List COp := [⟨none, some 9, (Go.Op.assign (Go.Operand.const (Go.Value.int Go.IntKind.i64 0)))⟩,
  ⟨none, some 10, (Go.Op.assign (Go.Operand.const (Go.Value.int Go.IntKind.i64 3)))⟩,
  ⟨none, some 11, (Go.Op.assign (Go.Operand.const (Go.Value.int Go.IntKind.i64 3)))⟩,
  ⟨none, some 12, (Go.Op.assign (Go.Operand.const (Go.Value.int Go.IntKind.i64 4)))⟩]
def r4_6 : List COp := [⟨none, some 29, (Go.Op.move (Go.Operand.tmp 1))⟩,
  ⟨none, some 30, (Go.Op.call { callee := (Go.Callee.value (Go.Operand.func 9)), args := #[(Go.Operand.tmp 29), (Go.Operand.const (Go.Value.int Go.IntKind.i64 8))], argTypes := #[3, 3] })⟩]
def r4_7 : List COp := [⟨none, some 32, (Go.Op.binOp Go.BinOp.eql 3 (Go.Operand.tmp 30) (Go.Operand.const (Go.Value.int Go.IntKind.i64 0)) 3)⟩,
  ⟨none, some 31, (Go.Op.assign (Go.Operand.tmp 32))⟩]
def r4_8 : List COp := [⟨none, some 33, (Go.Op.move (Go.Operand.tmp 2))⟩,
  ⟨none, some 34, (Go.Op.binOp Go.BinOp.sub 3 (Go.Operand.const (Go.Value.int Go.IntKind.i64 0)) (Go.Operand.tmp 33) 3)⟩,
  ⟨none, some 9, (Go.Op.assign (Go.Operand.tmp 34))⟩]
def r4_9 : List COp := [⟨none, some 36, (Go.Op.binOp Go.BinOp.eql 3 (Go.Operand.tmp 30) (Go.Operand.const (Go.Value.int Go.IntKind.i64 1)) 3)⟩,
  ⟨none, some 35, (Go.Op.assign (Go.Operand.tmp 36))⟩]
def r4_10 : List COp := [⟨none, some 37, (Go.Op.move (Go.Operand.tmp 2))⟩,
  ⟨none, some 38, (Go.Op.binOp Go.BinOp.add 3 (Go.Operand.const (Go.Value.int Go.IntKind.i64 1)) (Go.Operand.tmp 37) 3)⟩,
  ⟨none, some 9, (Go.Op.assign (Go.Operand.tmp 38))⟩]
def r4_11 : List COp := [⟨none, some 40, (Go.Op.binOp Go.BinOp.eql 3 (Go.Operand.tmp 30) (Go.Operand.const (Go.Value.int Go.IntKind.i64 2)) 3)⟩,
  ⟨none, some 39, (Go.Op.assign (Go.Operand.tmp 40))⟩]
def r4_12 : List COp := [⟨none, some 10, (Go.Op.assign (Go.Operand.const (Go.Value.int Go.IntKind.i64 0)))⟩]
def r4_13 : List COp := [⟨none, some 42, (Go.Op.binOp Go.BinOp.eql 3 (Go.Operand.tmp 30) (Go.Operand.const (Go.Value.int Go.IntKind.i64 3)) 3)⟩,
  ⟨none, some 41, (Go.Op.assign (Go.Operand.tmp 42))⟩]
def r4_14 : List COp := [⟨none, some 43, (Go.Op.move (Go.Operand.tmp 2))⟩,
  ⟨none, some 44, (Go.Op.binOp Go.BinOp.add 3 (Go.Operand.const (Go.Value.int Go.IntKind.i64 11)) (Go.Operand.tmp 43) 3)⟩,
  ⟨none, some 10, (Go.Op.assign (Go.Operand.tmp 44))⟩]
def r4_15 : List COp := [⟨none, some 46, (Go.Op.binOp Go.BinOp.eql 3 (Go.Operand.tmp 30) (Go.Operand.const (Go.Value.int Go.IntKind.i64 4)) 3)⟩,
  ⟨none, some 45, (Go.Op.assign (Go.Operand.tmp 46))⟩]
def r4_16 : List COp := [⟨none, some 47, (Go.Op.move (Go.Operand.tmp 12))⟩,
  ⟨none, some 48, (Go.Op.move (Go.Operand.tmp 2))⟩,
  ⟨none, some 49, (Go.Op.binOp Go.BinOp.add 3 (Go.Operand.tmp 47) (Go.Operand.tmp 48) 3)⟩,
  ⟨none, some 11, (Go.Op.assign (Go.Operand.tmp 49))⟩]
def r4_17 : List COp := [⟨none, some 51, (Go.Op.binOp Go.BinOp.eql 3 (Go.Operand.tmp 30) (Go.Operand.const (Go.Value.int Go.IntKind.i64 5)) 3)⟩,
  ⟨none, some 50, (Go.Op.assign (Go.Operand.tmp 51))⟩]
def r4_18 : List COp := [⟨none, some 52, (Go.Op.move (Go.Operand.tmp 0))⟩,
  ⟨none, some 53, (Go.Op.move (Go.Operand.tmp 2))⟩,
  ⟨none, some 54, (Go.Op.binOp Go.BinOp.add 3 (Go.Operand.tmp 52) (Go.Operand.tmp 53) 3)⟩,
  ⟨none, some 12, (Go.Op.assign (Go.Operand.tmp 54))⟩]
def r4_19 : List COp := [⟨none, some 56, (Go.Op.binOp Go.BinOp.eql 3 (Go.Operand.tmp 30) (Go.Operand.const (Go.Value.int Go.IntKind.i64 6)) 3)⟩,
  ⟨none, some 55, (Go.Op.assign (Go.Operand.tmp 56))⟩]
def r4_20 : List COp := [⟨none, some 11, (Go.Op.assign (Go.Operand.const (Go.Value.int Go.IntKind.i64 2)))⟩]
def r4_21 : List COp := [⟨none, some 58, (Go.Op.binOp Go.BinOp.eql 3 (Go.Operand.tmp 30) (Go.Operand.const (Go.Value.int Go.IntKind.i64 7)) 3)⟩,
  ⟨none, some 57, (Go.Op.assign (Go.Operand.tmp 58))⟩]
def r4_22 : List COp := [⟨none, some 9, (Go.Op.assign (Go.Operand.const (Go.Value.int Go.IntKind.i64 1)))⟩,
  ⟨none, some 11, (Go.Op.assign (Go.Operand.const (Go.Value.int Go.IntKind.i64 0)))⟩]
def r4_23 : List COp := [⟨none, some 60, (Go.Op.load 27 (Go.Operand.tmp 7))⟩,
  ⟨none, some 61, (Go.Op.move (Go.Operand.tmp 9))⟩,
  ⟨none, some 62, (Go.Op.move (Go.Operand.tmp 10))⟩,
  ⟨none, some 63, (Go.Op.move (Go.Operand.tmp 11))⟩,
  ⟨none, some 64, (Go.Op.move (Go.Operand.tmp 12))⟩,
  ⟨none, some 65, (Go.Op.call { callee := (Go.Callee.value (Go.Operand.func 14)), args := #[(Go.Operand.tmp 60), (Go.Operand.tmp 61), (Go.Operand.tmp 62), (Go.Operand.tmp 63), (Go.Operand.tmp 64)], argTypes := #[27, 3, 3, 3, 3] })⟩,
  ⟨none, some 59, (Go.Op.move (Go.Operand.tmp 65))⟩,
  ⟨none, some 66, (Go.Op.extract (Go.Operand.tmp 59) 0)⟩,
  ⟨none, some 67, (Go.Op.extract (Go.Operand.tmp 59) 1)⟩,
  ⟨none, some 13, (Go.Op.alloc 27)⟩,
  ⟨none, none, (Go.Op.store 27 (Go.Operand.tmp 13) (Go.Operand.tmp 66))⟩,
  ⟨none, some 14, (Go.Op.assign (Go.Operand.tmp 67))⟩]
def r4_24 : List COp := [⟨none, some 68, (Go.Op.move (Go.Operand.tmp 8))⟩,
  ⟨none, some 69, (Go.Op.binOp Go.BinOp.eql 3 (Go.Operand.tmp 68) (Go.Operand.const (Go.Value.int Go.IntKind.i64 1)) 3)⟩,
  ⟨none, some 70, (Go.Op.move (Go.Operand.tmp 69))⟩,
  ⟨(some (some 70, true)), some 71, (Go.Op.move (Go.Operand.tmp 14))⟩,
  ⟨(some (some 70, true)), some 72, (Go.Op.binOp Go.BinOp.eql 3 (Go.Operand.tmp 71) (Go.Operand.const (Go.Value.int Go.IntKind.i64 (-1))) 3)⟩,
  ⟨none, some 73, (Go.Op.pick (Go.Operand.tmp 70) (Go.Operand.tmp 72) (Go.Operand.const (Go.Value.bool false)))⟩,
  ⟨none, some 74, (Go.Op.move (Go.Operand.tmp 73))⟩,
  ⟨(some (some 74, true)), some 75, (Go.Op.load 27 (Go.Operand.tmp 13))⟩,
  ⟨(some (some 74, true)), some 76, (Go.Op.load 27 (Go.Operand.tmp 7))⟩,
  ⟨(some (some 74, true)), some 77, (Go.Op.call { callee := (Go.Callee.value (Go.Operand.func 18)), args := #[(Go.Operand.tmp 75), (Go.Operand.tmp 76)], argTypes := #[27, 27] })⟩,
  ⟨none, some 78, (Go.Op.pick (Go.Operand.tmp 74) (Go.Operand.tmp 77) (Go.Operand.const (Go.Value.bool false)))⟩,
  ⟨none, some 79, (Go.Op.move (Go.Operand.tmp 78))⟩,
  ⟨(some (some 79, true)), some 80, (Go.Op.fieldAddr 27 (Go.Operand.tmp 13) 0)⟩,
  ⟨(some (some 79, true)), some 81, (Go.Op.load 25 (Go.Operand.tmp 80))⟩,
  ⟨(some (some 79, true)), some 82, (Go.Op.call { callee := (Go.Callee.builtin Go.Builtin.len), args := #[(Go.Operand.tmp 81)], argTypes := #[25] })⟩,
  ⟨(some (some 79, true)), some 83, (Go.Op.binOp Go.BinOp.eql 3 (Go.Operand.tmp 82) (Go.Operand.const (Go.Value.int Go.IntKind.i64 2)) 3)⟩,
  ⟨none, some 84, (Go.Op.pick (Go.Operand.tmp 79) (Go.Operand.tmp 83) (Go.Operand.const (Go.Value.bool false)))⟩,
  ⟨none, some 6, (Go.Op.assign (Go.Operand.tmp 84))⟩]
def correctorlaw10_ArenaRefuses (F : Nat) (a0 : Int) (a1 : Int) (a2 : Int) : Option Bool :=
  (correctorlaw10_known F).bind fun r22196 =>
  if r22196 = true then
    (correctorlaw10_within F a0 50).bind fun r22204 =>
    (correctorlaw10_within F a2 9).bind fun r22211 =>
    (arena_New F (w64 (5 + r22204))).bind fun r22218 =>
    (arena_Add F r22218 0 2 1 3).bind fun r22236 =>
    (((correctorlaw10_within F a1 8).bind fun r35384 =>
      if r35384 = (0 : Int) then
        some (r22236.1.Nodes, r22236.2, w64 (0 - (w64 (1 + r22211))), 3, 3, 4)
      else
        if r35384 = (1 : Int) then
          some (r22236.1.Nodes, r22236.2, w64 (1 + (w64 (1 + r22211))), 3, 3, 4)
        else
          if r35384 = (2 : Int) then
            some (r22236.1.Nodes, r22236.2, 0, 0, 3, 4)
          else
            if r35384 = (3 : Int) then
              some (r22236.1.Nodes, r22236.2, 0, w64 (11 + (w64 (1 + r22211))), 3, 4)
            else
              if r35384 = (4 : Int) then
                some (r22236.1.Nodes, r22236.2, 0, 3, w64 (4 + (w64 (1 + r22211))), 4)
              else
                if r35384 = (5 : Int) then
                  some (r22236.1.Nodes, r22236.2, 0, 3, 3, w64 ((w64 (5 + r22204)) + (w64 (1 + r22211))))
                else
                  if r35384 = (6 : Int) then
                    some (r22236.1.Nodes, r22236.2, 0, 3, 2, 4)
                  else
                    if r35384 = (7 : Int) then
                      some (r22236.1.Nodes, r22236.2, 1, 3, 0, 4)
                    else
                      some (r22236.1.Nodes, r22236.2, 0, 3, 3, 4)) : Option ((List api_Node) × Int × Int × Int × Int × Int)).bind fun o => match o with
      | (x48513, x48517, x48518, x48519, x48520, x48521) => (arena_Add F (⟨x48513⟩ : arena_Tree) x48518 x48519 x48520 x48521).bind fun r48528 =>
      if x48517 = (1 : Int) then
        if r48528.2 = (-1 : Int) then
          (arena_Same F r48528.1 (⟨x48513⟩ : arena_Tree)).bind fun r48568 =>
          if r48568 = true then
            if (r48528.1.Nodes.length : Int) = (2 : Int) then
              some true
            else
              some false
          else
            some false
        else
          some false
      else
        some false
  else
    some false
theorem correctorlaw10_ArenaRefuses_ok (F : Nat) {h : AH} {Z : Zn} {a0 : Int} {a1 : Int} {a2 : Int} (hI : Inv Z h) {r : Bool} (hm : correctorlaw10_ArenaRefuses F a0 a1 a2 = some r) :
    ∃ v h', callI Go.Proofs.Try.prog 4 [.int .i64 a0, .int .i64 a1, .int .i64 a2] h = some (v, h') ∧ St h [] Z (0, 0) Z h' [] ∧ v = .bool r := by
  refine fn_plain (Q := fun v => v = .bool r) Go.Proofs.Try.func4 rfl rfl hI ?_
  intro hs hS
  unfold correctorlaw10_ArenaRefuses at hm
  refine W_seq (by kernel_rfl) ?_
  refine W_region (R := r4_0) (by kernel_rfl) ?_
  refine r_run 1 (l' := [(6, .bool false), (0, .int .i64 a0), (1, .int .i64 a1), (2, .int .i64 a2)]) (by kernel_rfl) ?_
  refine r_forget [0, 1, 2] (l' := [(0, .int .i64 a0), (1, .int .i64 a1), (2, .int .i64 a2)]) (by kernel_rfl) ?_
  refine r_end rfl ?_
  refine W_seq (by kernel_rfl) ?_
  refine W_seq (by kernel_rfl) ?_
  refine W_region (R := r4_1) (by kernel_rfl) ?_
  obtain ⟨r22196, hx22197, hm⟩ := obind hm
  obtain ⟨v22198, h22199, hcl22200, hSc22201, rfl⟩ := correctorlaw10_known_ok F hS.inv  hx22197
  have hS22202 := St.call (A := []) (B := []) hS hSc22201
  replace hS22202 : St _ _ _ _ _ _ [] := hS22202
  refine r_step rfl trivial (o_call hcl22200 rfl rfl rfl) ?_
  rcases ifs hm with ⟨hp22203, hm⟩ | ⟨hp22203, hm⟩
  · refine r_setb (t := 15) rfl hp22203 ?_
    refine r_run 1 (l' := [(16, .bool false), (15, .bool true), (15, .bool r22196), (0, .int .i64 a0), (1, .int .i64 a1), (2, .int .i64 a2)]) (by kernel_rfl) ?_
    refine r_forget [16, 0, 1, 2] (l' := [(16, .bool false), (0, .int .i64 a0), (1, .int .i64 a1), (2, .int .i64 a2)]) (by kernel_rfl) ?_
    refine r_end rfl ?_
    refine W_condF (x := .tmp 16) (by kernel_rfl) rfl rfl ?_
    refine W_skip (by kernel_rfl) ?_
    refine W_seq (by kernel_rfl) ?_
    refine W_region (R := r4_3) (by kernel_rfl) ?_
    refine r_run 1 (l' := [(17, .int .i64 a0), (16, .bool false), (0, .int .i64 a0), (1, .int .i64 a1), (2, .int .i64 a2)]) (by kernel_rfl) ?_
    obtain ⟨r22204, hx22205, hm⟩ := obind hm
    obtain ⟨v22206, h22207, hcl22208, hSc22209, rfl⟩ := correctorlaw10_within_ok F hS22202.inv  hx22205
    have hS22210 := St.call (A := []) (B := []) hS22202 hSc22209
    replace hS22210 : St _ _ _ _ _ _ [] := hS22210
    refine r_step rfl trivial (o_call hcl22208 rfl rfl rfl) ?_
    refine r_run 2 (l' := [(20, .int .i64 a2), (19, .int .i64 (w64 (5 + r22204))), (18, .int .i64 r22204), (17, .int .i64 a0), (16, .bool false), (0, .int .i64 a0), (1, .int .i64 a1), (2, .int .i64 a2)]) (by kernel_rfl) ?_
    obtain ⟨r22211, hx22212, hm⟩ := obind hm
    obtain ⟨v22213, h22214, hcl22215, hSc22216, rfl⟩ := correctorlaw10_within_ok F hS22210.inv  hx22212
    have hS22217 := St.call (A := []) (B := []) hS22210 hSc22216
    replace hS22217 : St _ _ _ _ _ _ [] := hS22217
    refine r_step rfl trivial (o_call hcl22215 rfl rfl rfl) ?_
    refine r_run 3 (l' := [(2, .int .i64 (w64 (1 + r22211))), (0, .int .i64 (w64 (5 + r22204))), (22, .int .i64 (w64 (1 + r22211))), (21, .int .i64 r22211), (20, .int .i64 a2), (19, .int .i64 (w64 (5 + r22204))), (18, .int .i64 r22204), (17, .int .i64 a0), (16, .bool false), (0, .int .i64 a0), (1, .int .i64 a1), (2, .int .i64 a2)]) (by kernel_rfl) ?_
    refine r_forget [2, 0, 1] (l' := [(2, .int .i64 (w64 (1 + r22211))), (0, .int .i64 (w64 (5 + r22204))), (1, .int .i64 a1)]) (by kernel_rfl) ?_
    refine r_end rfl ?_
    refine W_seq (by kernel_rfl) ?_
    refine W_region (R := r4_4) (by kernel_rfl) ?_
    refine r_run 1 (l' := [(24, .int .i64 (w64 (5 + r22204))), (2, .int .i64 (w64 (1 + r22211))), (0, .int .i64 (w64 (5 + r22204))), (1, .int .i64 a1)]) (by kernel_rfl) ?_
    obtain ⟨r22218, hx22219, hm⟩ := obind hm
    have hSr22225 : St _ _ _ _ _ _ ([] ++ []) := hS22217
    obtain ⟨v22220, h22221, Z22226, A22228, hcl22222, hSc22223, v22230, c22231, rfl, rfl, q22229⟩ := arena_New_ok F hSr22225.preL  hx22219
    have hS22224 := hSr22225.call hSc22223
    have hZ22227 := hSc22223.zle
    replace hS22224 : St _ _ _ _ _ _ [.gs v22230 c22231 (csz api_Node)] := hS22224
    refine r_step rfl trivial (o_call hcl22222 rfl rfl rfl) ?_
    obtain ⟨Z22232, hZ22233, q22234, hS22235⟩ := (hS22224.front 0 rfl).freeze q22229
    replace hS22235 : St _ _ _ _ _ _ [] := hS22235
    obtain ⟨r22236, hx22237, hm⟩ := obind hm
    have hSr22243 : St _ _ _ _ _ _ ([] ++ []) := hS22235
    obtain ⟨v22238, h22239, Z22244, A22246, hcl22240, hSc22241, v22248, c22249, rfl, rfl, q22247⟩ := arena_Add_ok F hSr22243.preL q22234 hx22237
    have hS22242 := hSr22243.call hSc22241
    have hZ22245 := hSc22241.zle
    replace hS22242 : St _ _ _ _ _ _ [.gs v22248 c22249 (csz api_Node)] := hS22242
    refine r_step rfl trivial (o_call hcl22240 rfl rfl rfl) ?_
    refine r_run 3 (l' := [(28, .int .i64 r22236.2), (27, .agg #[v22248]), (23, .tuple #[.agg #[v22248], .int .i64 r22236.2]), (26, .tuple #[.agg #[v22248], .int .i64 r22236.2]), (25, .agg #[v22230]), (24, .int .i64 (w64 (5 + r22204))), (2, .int .i64 (w64 (1 + r22211))), (0, .int .i64 (w64 (5 + r22204))), (1, .int .i64 a1)]) (by kernel_rfl) ?_
    refine r_blk rfl trivial (o_alloc (cs := [.slice none 0 0]) (by kernel_rfl)) hS22242 ?_
    intro b22250 h22251 hS22252
    refine r_ex1 rfl trivial (o_stb (vs := [v22248]) (cells' := [v22248]) (L' := [.blk b22250 [v22248], .gs v22248 c22249 (csz api_Node)]) hS22252 (i := 0) rfl rfl rfl rfl (by kernel_rfl) (one_cons (hS22252.gone1 (i := 1) rfl) one_nil) rfl rfl rfl) ?_
    intro h22253 hS22254
    refine r_run 1 (l' := [(8, .int .i64 r22236.2), (7, .pointer (some ⟨b22250, 0, none⟩)), (28, .int .i64 r22236.2), (27, .agg #[v22248]), (23, .tuple #[.agg #[v22248], .int .i64 r22236.2]), (26, .tuple #[.agg #[v22248], .int .i64 r22236.2]), (25, .agg #[v22230]), (24, .int .i64 (w64 (5 + r22204))), (2, .int .i64 (w64 (1 + r22211))), (0, .int .i64 (w64 (5 + r22204))), (1, .int .i64 a1)]) (by kernel_rfl) ?_
    refine r_forget [8, 7, 2, 0, 1] (l' := [(8, .int .i64 r22236.2), (7, .pointer (some ⟨b22250, 0, none⟩)), (2, .int .i64 (w64 (1 + r22211))), (0, .int .i64 (w64 (5 + r22204))), (1, .int .i64 a1)]) (by kernel_rfl) ?_
    refine r_end rfl ?_
    refine W_seq (by kernel_rfl) ?_
    refine W_region (R := r4_5) (by kernel_rfl) ?_
    refine r_run 4 (l' := [(12, .int .i64 4), (11, .int .i64 3), (10, .int .i64 3), (9, .int .i64 0), (8, .int .i64 r22236.2), (7, .pointer (some ⟨b22250, 0, none⟩)), (2, .int .i64 (w64 (1 + r22211))), (0, .int .i64 (w64 (5 + r22204))), (1, .int .i64 a1)]) (by kernel_rfl) ?_
    refine r_forget [12, 11, 10, 9, 8, 7, 2, 0, 1] (l' := [(12, .int .i64 4), (11, .int .i64 3), (10, .int .i64 3), (9, .int .i64 0), (8, .int .i64 r22236.2), (7, .pointer (some ⟨b22250, 0, none⟩)), (2, .int .i64 (w64 (1 + r22211))), (0, .int .i64 (w64 (5 + r22204))), (1, .int .i64 a1)]) (by kernel_rfl) ?_
    refine r_end rfl ?_
    refine W_seq (by kernel_rfl) ?_
    obtain ⟨o35383, ho35382, hm⟩ := obind hm
    refine W_join [7, 8, 9, 10, 11, 12] (fun l h => ∃ Z48511 : Zn, ∃ x48513 : List api_Node, ∃ x48517 : Int, ∃ x48518 : Int, ∃ x48519 : Int, ∃ x48520 : Int, ∃ x48521 : Int, ∃ b48512 : Nat, ∃ v48515 : Value, ∃ c48516 : List Value, (x48513, x48517, x48518, x48519, x48520, x48521) = o35383 ∧ RCs (α := api_Node) Z48511 c48516 x48513 ∧ l = [(7, .pointer (some ⟨b48512, 0, none⟩)), (8, .int .i64 x48517), (9, .int .i64 x48518), (10, .int .i64 x48519), (11, .int .i64 x48520), (12, .int .i64 x48521)] ∧ St hs [] Z (0, 0) Z48511 h [.blk b48512 [v48515], .gs v48515 c48516 (csz api_Node)]) ?_ ?_
    · rintro l h48522 ⟨Z48511, x48513, x48517, x48518, x48519, x48520, x48521, b48512, v48515, c48516, rfl, q48514, rfl, hS48523⟩
      try dsimp only at hm
      refine W_seq (by kernel_rfl) ?_
      refine W_region (R := r4_23) (by kernel_rfl) ?_
      refine r_step rfl trivial (o_ldb (v := .agg #[v48515]) hS48523 (i := 0) rfl rfl (by kernel_rfl)) ?_
      refine r_run 4 (l' := [(64, .int .i64 x48521), (63, .int .i64 x48520), (62, .int .i64 x48519), (61, .int .i64 x48518), (60, .agg #[v48515]), (7, .pointer (some ⟨b48512, 0, none⟩)), (8, .int .i64 x48517), (9, .int .i64 x48518), (10, .int .i64 x48519), (11, .int .i64 x48520), (12, .int .i64 x48521)]) (by kernel_rfl) ?_
      obtain ⟨Z48524, hZ48525, q48526, hS48527⟩ := (hS48523.front 1 rfl).freeze q48514
      replace hS48527 : St _ _ _ _ _ _ [.blk b48512 [v48515]] := hS48527
      obtain ⟨r48528, hx48529, hm⟩ := obind hm
      have hSr48535 : St _ _ _ _ _ _ ([] ++ [.blk b48512 [v48515]]) := hS48527
      obtain ⟨v48530, h48531, Z48536, A48538, hcl48532, hSc48533, v48540, c48541, rfl, rfl, q48539⟩ := arena_Add_ok F hSr48535.preL q48526 hx48529
      have hS48534 := hSr48535.call hSc48533
      have hZ48537 := hSc48533.zle
      replace hS48534 : St _ _ _ _ _ _ [.gs v48540 c48541 (csz api_Node), .blk b48512 [v48515]] := hS48534
      refine r_step rfl trivial (o_call hcl48532 rfl rfl rfl) ?_
      refine r_run 3 (l' := [(67, .int .i64 r48528.2), (66, .agg #[v48540]), (59, .tuple #[.agg #[v48540], .int .i64 r48528.2]), (65, .tuple #[.agg #[v48540], .int .i64 r48528.2]), (64, .int .i64 x48521), (63, .int .i64 x48520), (62, .int .i64 x48519), (61, .int .i64 x48518), (60, .agg #[v48515]), (7, .pointer (some ⟨b48512, 0, none⟩)), (8, .int .i64 x48517), (9, .int .i64 x48518), (10, .int .i64 x48519), (11, .int .i64 x48520), (12, .int .i64 x48521)]) (by kernel_rfl) ?_
      refine r_blk rfl trivial (o_alloc (cs := [.slice none 0 0]) (by kernel_rfl)) hS48534 ?_
      intro b48542 h48543 hS48544
      refine r_ex1 rfl trivial (o_stb (vs := [v48540]) (cells' := [v48540]) (L' := [.blk b48542 [v48540], .gs v48540 c48541 (csz api_Node), .blk b48512 [v48515]]) hS48544 (i := 0) rfl rfl rfl rfl (by kernel_rfl) (one_cons (hS48544.gone1 (i := 1) rfl) one_nil) rfl rfl rfl) ?_
      intro h48545 hS48546
      refine r_run 1 (l' := [(14, .int .i64 r48528.2), (13, .pointer (some ⟨b48542, 0, none⟩)), (67, .int .i64 r48528.2), (66, .agg #[v48540]), (59, .tuple #[.agg #[v48540], .int .i64 r48528.2]), (65, .tuple #[.agg #[v48540], .int .i64 r48528.2]), (64, .int .i64 x48521), (63, .int .i64 x48520), (62, .int .i64 x48519), (61, .int .i64 x48518), (60, .agg #[v48515]), (7, .pointer (some ⟨b48512, 0, none⟩)), (8, .int .i64 x48517), (9, .int .i64 x48518), (10, .int .i64 x48519), (11, .int .i64 x48520), (12, .int .i64 x48521)]) (by kernel_rfl) ?_
      refine r_forget [14, 13, 7, 8] (l' := [(14, .int .i64 r48528.2), (13, .pointer (some ⟨b48542, 0, none⟩)), (7, .pointer (some ⟨b48512, 0, none⟩)), (8, .int .i64 x48517)]) (by kernel_rfl) ?_
      refine r_end rfl ?_
      refine W_seq (by kernel_rfl) ?_
      refine W_region (R := r4_24) (by kernel_rfl) ?_
      refine r_run 1 (l' := [(68, .int .i64 x48517), (14, .int .i64 r48528.2), (13, .pointer (some ⟨b48542, 0, none⟩)), (7, .pointer (some ⟨b48512, 0, none⟩)), (8, .int .i64 x48517)]) (by kernel_rfl) ?_
      rcases ifs hm with ⟨hp48562, hm⟩ | ⟨hp48562, hm⟩
      · refine r_step rfl trivial (o_cmp rfl rfl (c_eql_T hp48562)) ?_
        refine r_run 2 (l' := [(71, .int .i64 r48528.2), (70, .bool true), (69, .bool true), (68, .int .i64 x48517), (14, .int .i64 r48528.2), (13, .pointer (some ⟨b48542, 0, none⟩)), (7, .pointer (some ⟨b48512, 0, none⟩)), (8, .int .i64 x48517)]) (by kernel_rfl) ?_
        rcases ifs hm with ⟨hp48563, hm⟩ | ⟨hp48563, hm⟩
        · refine r_step rfl rfl (o_cmp rfl rfl (c_eql_T hp48563)) ?_
          refine r_run 2 (l' := [(74, .bool true), (73, .bool true), (72, .bool true), (71, .int .i64 r48528.2), (70, .bool true), (69, .bool true), (68, .int .i64 x48517), (14, .int .i64 r48528.2), (13, .pointer (some ⟨b48542, 0, none⟩)), (7, .pointer (some ⟨b48512, 0, none⟩)), (8, .int .i64 x48517)]) (by kernel_rfl) ?_
          refine r_step rfl rfl (o_ldb (v := .agg #[v48540]) hS48546 (i := 0) rfl rfl (by kernel_rfl)) ?_
          refine r_step rfl rfl (o_ldb (v := .agg #[v48515]) hS48546 (i := 2) rfl rfl (by kernel_rfl)) ?_
          obtain ⟨Z48564, hZ48565, q48566, hS48567⟩ := (hS48546.front 1 rfl).freeze q48539
          replace hS48567 : St _ _ _ _ _ _ [.blk b48542 [v48540], .blk b48512 [v48515]] := hS48567
          obtain ⟨r48568, hx48569, hm⟩ := obind hm
          obtain ⟨v48570, h48571, hcl48572, hSc48573, rfl⟩ := arena_Same_ok F hS48567.inv q48566 (q48526.mono (hZ48537.trans hZ48565)) hx48569
          have hS48574 := St.call (A := []) (B := [.blk b48542 [v48540], .blk b48512 [v48515]]) hS48567 hSc48573
          replace hS48574 : St _ _ _ _ _ _ [.blk b48542 [v48540], .blk b48512 [v48515]] := hS48574
          refine r_step rfl rfl (o_call hcl48572 rfl rfl rfl) ?_
          refine r_run 2 (l' := [(79, .bool r48568), (78, .bool r48568), (77, .bool r48568), (76, .agg #[v48515]), (75, .agg #[v48540]), (74, .bool true), (73, .bool true), (72, .bool true), (71, .int .i64 r48528.2), (70, .bool true), (69, .bool true), (68, .int .i64 x48517), (14, .int .i64 r48528.2), (13, .pointer (some ⟨b48542, 0, none⟩)), (7, .pointer (some ⟨b48512, 0, none⟩)), (8, .int .i64 x48517)]) (by kernel_rfl) ?_
          rcases ifs hm with ⟨hp48575, hm⟩ | ⟨hp48575, hm⟩
          · refine r_setb (t := 79) rfl hp48575 ?_
            refine r_run 1 (l' := [(80, .pointer (some ⟨b48542, 0, none⟩)), (79, .bool true), (79, .bool r48568), (78, .bool r48568), (77, .bool r48568), (76, .agg #[v48515]), (75, .agg #[v48540]), (74, .bool true), (73, .bool true), (72, .bool true), (71, .int .i64 r48528.2), (70, .bool true), (69, .bool true), (68, .int .i64 x48517), (14, .int .i64 r48528.2), (13, .pointer (some ⟨b48542, 0, none⟩)), (7, .pointer (some ⟨b48512, 0, none⟩)), (8, .int .i64 x48517)]) (by kernel_rfl) ?_
            refine r_step rfl rfl (o_ldb (v := v48540) hS48574 (i := 0) rfl rfl (by kernel_rfl)) ?_
            refine r_step rfl rfl (o_len rfl (RS.len q48566) ⟨_, Go.Proofs.Try.underlying25⟩) ?_
            rcases ifs hm with ⟨hp48576, hm⟩ | ⟨hp48576, hm⟩
            · refine r_step rfl rfl (o_cmp rfl rfl (c_eql_T hp48576)) ?_
              refine r_run 2 (l' := [(6, .bool true), (84, .bool true), (83, .bool true), (82, .int .i64 (r48528.1.Nodes.length : Int)), (81, v48540), (80, .pointer (some ⟨b48542, 0, none⟩)), (79, .bool true), (79, .bool r48568), (78, .bool r48568), (77, .bool r48568), (76, .agg #[v48515]), (75, .agg #[v48540]), (74, .bool true), (73, .bool true), (72, .bool true), (71, .int .i64 r48528.2), (70, .bool true), (69, .bool true), (68, .int .i64 x48517), (14, .int .i64 r48528.2), (13, .pointer (some ⟨b48542, 0, none⟩)), (7, .pointer (some ⟨b48512, 0, none⟩)), (8, .int .i64 x48517)]) (by kernel_rfl) ?_
              refine r_forget [6] (l' := [(6, .bool true)]) (by kernel_rfl) ?_
              refine r_end rfl ?_
              refine W_ret (by kernel_rfl) ?_
              refine ⟨rfl, ?_⟩
              obtain rfl := Option.some.inj hm
              refine ⟨_, _, _, ResL.tmp rfl (ResL.nil), hS48574, ?_⟩
              exact rfl
            · refine r_step rfl rfl (o_cmp rfl rfl (c_eql_F hp48576)) ?_
              refine r_run 2 (l' := [(6, .bool false), (84, .bool false), (83, .bool false), (82, .int .i64 (r48528.1.Nodes.length : Int)), (81, v48540), (80, .pointer (some ⟨b48542, 0, none⟩)), (79, .bool true), (79, .bool r48568), (78, .bool r48568), (77, .bool r48568), (76, .agg #[v48515]), (75, .agg #[v48540]), (74, .bool true), (73, .bool true), (72, .bool true), (71, .int .i64 r48528.2), (70, .bool true), (69, .bool true), (68, .int .i64 x48517), (14, .int .i64 r48528.2), (13, .pointer (some ⟨b48542, 0, none⟩)), (7, .pointer (some ⟨b48512, 0, none⟩)), (8, .int .i64 x48517)]) (by kernel_rfl) ?_
              refine r_forget [6] (l' := [(6, .bool false)]) (by kernel_rfl) ?_
              refine r_end rfl ?_
              refine W_ret (by kernel_rfl) ?_
              refine ⟨rfl, ?_⟩
              obtain rfl := Option.some.inj hm
              refine ⟨_, _, _, ResL.tmp rfl (ResL.nil), hS48574, ?_⟩
              exact rfl
          · refine r_setb (t := 79) rfl (Bool.eq_false_iff.2 hp48575) ?_
            refine r_run 6 (l' := [(6, .bool false), (84, .bool false), (83, undef), (82, undef), (81, undef), (80, undef), (79, .bool false), (79, .bool r48568), (78, .bool r48568), (77, .bool r48568), (76, .agg #[v48515]), (75, .agg #[v48540]), (74, .bool true), (73, .bool true), (72, .bool true), (71, .int .i64 r48528.2), (70, .bool true), (69, .bool true), (68, .int .i64 x48517), (14, .int .i64 r48528.2), (13, .pointer (some ⟨b48542, 0, none⟩)), (7, .pointer (some ⟨b48512, 0, none⟩)), (8, .int .i64 x48517)]) (by kernel_rfl) ?_
            refine r_forget [6] (l' := [(6, .bool false)]) (by kernel_rfl) ?_
            refine r_end rfl ?_
            refine W_ret (by kernel_rfl) ?_
            refine ⟨rfl, ?_⟩
            obtain rfl := Option.some.inj hm
            refine ⟨_, _, _, ResL.tmp rfl (ResL.nil), hS48574, ?_⟩
            exact rfl
        · refine r_step rfl rfl (o_cmp rfl rfl (c_eql_F hp48563)) ?_
          refine r_run 13 (l' := [(6, .bool false), (84, .bool false), (83, undef), (82, undef), (81, undef), (80, undef), (79, .bool false), (78, .bool false), (77, undef), (76, undef), (75, undef), (74, .bool false), (73, .bool false), (72, .bool false), (71, .int .i64 r48528.2), (70, .bool true), (69, .bool true), (68, .int .i64 x48517), (14, .int .i64 r48528.2), (13, .pointer (some ⟨b48542, 0, none⟩)), (7, .pointer (some ⟨b48512, 0, none⟩)), (8, .int .i64 x48517)]) (by kernel_rfl) ?_
          refine r_forget [6] (l' := [(6, .bool false)]) (by kernel_rfl) ?_
          refine r_end rfl ?_
          refine W_ret (by kernel_rfl) ?_
          refine ⟨rfl, ?_⟩
          obtain rfl := Option.some.inj hm
          refine ⟨_, _, _, ResL.tmp rfl (ResL.nil), hS48546, ?_⟩
          exact rfl
      · refine r_step rfl trivial (o_cmp rfl rfl (c_eql_F hp48562)) ?_
        refine r_run 16 (l' := [(6, .bool false), (84, .bool false), (83, undef), (82, undef), (81, undef), (80, undef), (79, .bool false), (78, .bool false), (77, undef), (76, undef), (75, undef), (74, .bool false), (73, .bool false), (72, undef), (71, undef), (70, .bool false), (69, .bool false), (68, .int .i64 x48517), (14, .int .i64 r48528.2), (13, .pointer (some ⟨b48542, 0, none⟩)), (7, .pointer (some ⟨b48512, 0, none⟩)), (8, .int .i64 x48517)]) (by kernel_rfl) ?_
        refine r_forget [6] (l' := [(6, .bool false)]) (by kernel_rfl) ?_
        refine r_end rfl ?_
        refine W_ret (by kernel_rfl) ?_
        refine ⟨rfl, ?_⟩
        obtain rfl := Option.some.inj hm
        refine ⟨_, _, _, ResL.tmp rfl (ResL.nil), hS48546, ?_⟩
        exact rfl
    · refine W_seq (by kernel_rfl) ?_
      refine W_region (R := r4_6) (by kernel_rfl) ?_
      refine r_run 1 (l' := [(29, .int .i64 a1), (12, .int .i64 4), (11, .int .i64 3), (10, .int .i64 3), (9, .int .i64 0), (8, .int .i64 r22236.2), (7, .pointer (some ⟨b22250, 0, none⟩)), (2, .int .i64 (w64 (1 + r22211))), (0, .int .i64 (w64 (5 + r22204))), (1, .int .i64 a1)]) (by kernel_rfl) ?_
      obtain ⟨r35384, hx35385, ho35382⟩ := obind ho35382
      obtain ⟨v35386, h35387, hcl35388, hSc35389, rfl⟩ := correctorlaw10_within_ok F hS22254.inv  hx35385
      have hS35390 := St.call (A := []) (B := [.blk b22250 [v22248], .gs v22248 c22249 (csz api_Node)]) hS22254 hSc35389
      replace hS35390 : St _ _ _ _ _ _ [.blk b22250 [v22248], .gs v22248 c22249 (csz api_Node)] := hS35390
      refine r_step rfl trivial (o_call hcl35388 rfl rfl rfl) ?_
      refine r_forget [30, 12, 11, 10, 9, 8, 7, 2, 0] (l' := [(30, .int .i64 r35384), (12, .int .i64 4), (11, .int .i64 3), (10, .int .i64 3), (9, .int .i64 0), (8, .int .i64 r22236.2), (7, .pointer (some ⟨b22250, 0, none⟩)), (2, .int .i64 (w64 (1 + r22211))), (0, .int .i64 (w64 (5 + r22204)))]) (by kernel_rfl) ?_
      refine r_end rfl ?_
      refine W_block (i := 0) (by kernel_rfl) ?_
      refine W_seq (by kernel_rfl) ?_
      refine W_region (R := r4_7) (by kernel_rfl) ?_
      rcases ifs ho35382 with ⟨hp44138, ho35382⟩ | ⟨hp44138, ho35382⟩
      · refine r_step rfl trivial (o_cmp rfl rfl (c_eql_T hp44138)) ?_
        refine r_run 1 (l' := [(31, .bool true), (32, .bool true), (30, .int .i64 r35384), (12, .int .i64 4), (11, .int .i64 3), (10, .int .i64 3), (9, .int .i64 0), (8, .int .i64 r22236.2), (7, .pointer (some ⟨b22250, 0, none⟩)), (2, .int .i64 (w64 (1 + r22211))), (0, .int .i64 (w64 (5 + r22204)))]) (by kernel_rfl) ?_
        refine r_forget [31, 30, 12, 11, 10, 9, 8, 7, 2, 0] (l' := [(31, .bool true), (30, .int .i64 r35384), (12, .int .i64 4), (11, .int .i64 3), (10, .int .i64 3), (9, .int .i64 0), (8, .int .i64 r22236.2), (7, .pointer (some ⟨b22250, 0, none⟩)), (2, .int .i64 (w64 (1 + r22211))), (0, .int .i64 (w64 (5 + r22204)))]) (by kernel_rfl) ?_
        refine r_end rfl ?_
        refine W_condT (x := .tmp 31) (by kernel_rfl) rfl rfl ?_
        refine W_region (R := r4_8) (by kernel_rfl) ?_
        refine r_run 3 (l' := [(9, .int .i64 (w64 (0 - (w64 (1 + r22211))))), (34, .int .i64 (w64 (0 - (w64 (1 + r22211))))), (33, .int .i64 (w64 (1 + r22211))), (31, .bool true), (30, .int .i64 r35384), (12, .int .i64 4), (11, .int .i64 3), (10, .int .i64 3), (9, .int .i64 0), (8, .int .i64 r22236.2), (7, .pointer (some ⟨b22250, 0, none⟩)), (2, .int .i64 (w64 (1 + r22211))), (0, .int .i64 (w64 (5 + r22204)))]) (by kernel_rfl) ?_
        refine r_forget [9, 12, 11, 10, 8, 7] (l' := [(9, .int .i64 (w64 (0 - (w64 (1 + r22211))))), (12, .int .i64 4), (11, .int .i64 3), (10, .int .i64 3), (8, .int .i64 r22236.2), (7, .pointer (some ⟨b22250, 0, none⟩))]) (by kernel_rfl) ?_
        refine r_end rfl ?_
        obtain rfl := Option.some.inj ho35382
        exact ⟨_, r22236.1.Nodes, r22236.2, w64 (0 - (w64 (1 + r22211))), 3, 3, 4, b22250, v22248, c22249, rfl, q22247, rfl, hS35390⟩
      · refine r_step rfl trivial (o_cmp rfl rfl (c_eql_F hp44138)) ?_
        refine r_run 1 (l' := [(31, .bool false), (32, .bool false), (30, .int .i64 r35384), (12, .int .i64 4), (11, .int .i64 3), (10, .int .i64 3), (9, .int .i64 0), (8, .int .i64 r22236.2), (7, .pointer (some ⟨b22250, 0, none⟩)), (2, .int .i64 (w64 (1 + r22211))), (0, .int .i64 (w64 (5 + r22204)))]) (by kernel_rfl) ?_
        refine r_forget [31, 30, 12, 11, 10, 9, 8, 7, 2, 0] (l' := [(31, .bool false), (30, .int .i64 r35384), (12, .int .i64 4), (11, .int .i64 3), (10, .int .i64 3), (9, .int .i64 0), (8, .int .i64 r22236.2), (7, .pointer (some ⟨b22250, 0, none⟩)), (2, .int .i64 (w64 (1 + r22211))), (0, .int .i64 (w64 (5 + r22204)))]) (by kernel_rfl) ?_
        refine r_end rfl ?_
        refine W_condF (x := .tmp 31) (by kernel_rfl) rfl rfl ?_
        refine W_seq (by kernel_rfl) ?_
        refine W_region (R := r4_9) (by kernel_rfl) ?_
        rcases ifs ho35382 with ⟨hp47054, ho35382⟩ | ⟨hp47054, ho35382⟩
        · refine r_step rfl trivial (o_cmp rfl rfl (c_eql_T hp47054)) ?_
          refine r_run 1 (l' := [(35, .bool true), (36, .bool true), (31, .bool false), (30, .int .i64 r35384), (12, .int .i64 4), (11, .int .i64 3), (10, .int .i64 3), (9, .int .i64 0), (8, .int .i64 r22236.2), (7, .pointer (some ⟨b22250, 0, none⟩)), (2, .int .i64 (w64 (1 + r22211))), (0, .int .i64 (w64 (5 + r22204)))]) (by kernel_rfl) ?_
          refine r_forget [35, 30, 12, 11, 10, 9, 8, 7, 2, 0] (l' := [(35, .bool true), (30, .int .i64 r35384), (12, .int .i64 4), (11, .int .i64 3), (10, .int .i64 3), (9, .int .i64 0), (8, .int .i64 r22236.2), (7, .pointer (some ⟨b22250, 0, none⟩)), (2, .int .i64 (w64 (1 + r22211))), (0, .int .i64 (w64 (5 + r22204)))]) (by kernel_rfl) ?_
          refine r_end rfl ?_
          refine W_condT (x := .tmp 35) (by kernel_rfl) rfl rfl ?_
          refine W_region (R := r4_10) (by kernel_rfl) ?_
          refine r_run 3 (l' := [(9, .int .i64 (w64 (1 + (w64 (1 + r22211))))), (38, .int .i64 (w64 (1 + (w64 (1 + r22211))))), (37, .int .i64 (w64 (1 + r22211))), (35, .bool true), (30, .int .i64 r35384), (12, .int .i64 4), (11, .int .i64 3), (10, .int .i64 3), (9, .int .i64 0), (8, .int .i64 r22236.2), (7, .pointer (some ⟨b22250, 0, none⟩)), (2, .int .i64 (w64 (1 + r22211))), (0, .int .i64 (w64 (5 + r22204)))]) (by kernel_rfl) ?_
          refine r_forget [9, 12, 11, 10, 8, 7] (l' := [(9, .int .i64 (w64 (1 + (w64 (1 + r22211))))), (12, .int .i64 4), (11, .int .i64 3), (10, .int .i64 3), (8, .int .i64 r22236.2), (7, .pointer (some ⟨b22250, 0, none⟩))]) (by kernel_rfl) ?_
          refine r_end rfl ?_
          obtain rfl := Option.some.inj ho35382
          exact ⟨_, r22236.1.Nodes, r22236.2, w64 (1 + (w64 (1 + r22211))), 3, 3, 4, b22250, v22248, c22249, rfl, q22247, rfl, hS35390⟩
        · refine r_step rfl trivial (o_cmp rfl rfl (c_eql_F hp47054)) ?_
          refine r_run 1 (l' := [(35, .bool false), (36, .bool false), (31, .bool false), (30, .int .i64 r35384), (12, .int .i64 4), (11, .int .i64 3), (10, .int .i64 3), (9, .int .i64 0), (8, .int .i64 r22236.2), (7, .pointer (some ⟨b22250, 0, none⟩)), (2, .int .i64 (w64 (1 + r22211))), (0, .int .i64 (w64 (5 + r22204)))]) (by kernel_rfl) ?_
          refine r_forget [35, 30, 12, 11, 10, 9, 8, 7, 2, 0] (l' := [(35, .bool false), (30, .int .i64 r35384), (12, .int .i64 4), (11, .int .i64 3), (10, .int .i64 3), (9, .int .i64 0), (8, .int .i64 r22236.2), (7, .pointer (some ⟨b22250, 0, none⟩)), (2, .int .i64 (w64 (1 + r22211))), (0, .int .i64 (w64 (5 + r22204)))]) (by kernel_rfl) ?_
          refine r_end rfl ?_
          refine W_condF (x := .tmp 35) (by kernel_rfl) rfl rfl ?_
          refine W_seq (by kernel_rfl) ?_
          refine W_region (R := r4_11) (by kernel_rfl) ?_
          rcases ifs ho35382 with ⟨hp48026, ho35382⟩ | ⟨hp48026, ho35382⟩
          · refine r_step rfl trivial (o_cmp rfl rfl (c_eql_T hp48026)) ?_
            refine r_run 1 (l' := [(39, .bool true), (40, .bool true), (35, .bool false), (30, .int .i64 r35384), (12, .int .i64 4), (11, .int .i64 3), (10, .int .i64 3), (9, .int .i64 0), (8, .int .i64 r22236.2), (7, .pointer (some ⟨b22250, 0, none⟩)), (2, .int .i64 (w64 (1 + r22211))), (0, .int .i64 (w64 (5 + r22204)))]) (by kernel_rfl) ?_
            refine r_forget [39, 30, 12, 11, 10, 9, 8, 7, 2, 0] (l' := [(39, .bool true), (30, .int .i64 r35384), (12, .int .i64 4), (11, .int .i64 3), (10, .int .i64 3), (9, .int .i64 0), (8, .int .i64 r22236.2), (7, .pointer (some ⟨b22250, 0, none⟩)), (2, .int .i64 (w64 (1 + r22211))), (0, .int .i64 (w64 (5 + r22204)))]) (by kernel_rfl) ?_
            refine r_end rfl ?_
            refine W_condT (x := .tmp 39) (by kernel_rfl) rfl rfl ?_
            refine W_region (R := r4_12) (by kernel_rfl) ?_
            refine r_run 1 (l' := [(10, .int .i64 0), (39, .bool true), (30, .int .i64 r35384), (12, .int .i64 4), (11, .int .i64 3), (10, .int .i64 3), (9, .int .i64 0), (8, .int .i64 r22236.2), (7, .pointer (some ⟨b22250, 0, none⟩)), (2, .int .i64 (w64 (1 + r22211))), (0, .int .i64 (w64 (5 + r22204)))]) (by kernel_rfl) ?_
            refine r_forget [10, 12, 11, 9, 8, 7] (l' := [(10, .int .i64 0), (12, .int .i64 4), (11, .int .i64 3), (9, .int .i64 0), (8, .int .i64 r22236.2), (7, .pointer (some ⟨b22250, 0, none⟩))]) (by kernel_rfl) ?_
            refine r_end rfl ?_
            obtain rfl := Option.some.inj ho35382
            exact ⟨_, r22236.1.Nodes, r22236.2, 0, 0, 3, 4, b22250, v22248, c22249, rfl, q22247, rfl, hS35390⟩
          · refine r_step rfl trivial (o_cmp rfl rfl (c_eql_F hp48026)) ?_
            refine r_run 1 (l' := [(39, .bool false), (40, .bool false), (35, .bool false), (30, .int .i64 r35384), (12, .int .i64 4), (11, .int .i64 3), (10, .int .i64 3), (9, .int .i64 0), (8, .int .i64 r22236.2), (7, .pointer (some ⟨b22250, 0, none⟩)), (2, .int .i64 (w64 (1 + r22211))), (0, .int .i64 (w64 (5 + r22204)))]) (by kernel_rfl) ?_
            refine r_forget [39, 30, 12, 11, 10, 9, 8, 7, 2, 0] (l' := [(39, .bool false), (30, .int .i64 r35384), (12, .int .i64 4), (11, .int .i64 3), (10, .int .i64 3), (9, .int .i64 0), (8, .int .i64 r22236.2), (7, .pointer (some ⟨b22250, 0, none⟩)), (2, .int .i64 (w64 (1 + r22211))), (0, .int .i64 (w64 (5 + r22204)))]) (by kernel_rfl) ?_
            refine r_end rfl ?_
            refine W_condF (x := .tmp 39) (by kernel_rfl) rfl rfl ?_
            refine W_seq (by kernel_rfl) ?_
            refine W_region (R := r4_13) (by kernel_rfl) ?_
            rcases ifs ho35382 with ⟨hp48350, ho35382⟩ | ⟨hp48350, ho35382⟩
            · refine r_step rfl trivial (o_cmp rfl rfl (c_eql_T hp48350)) ?_
              refine r_run 1 (l' := [(41, .bool true), (42, .bool true), (39, .bool false), (30, .int .i64 r35384), (12, .int .i64 4), (11, .int .i64 3), (10, .int .i64 3), (9, .int .i64 0), (8, .int .i64 r22236.2), (7, .pointer (some ⟨b22250, 0, none⟩)), (2, .int .i64 (w64 (1 + r22211))), (0, .int .i64 (w64 (5 + r22204)))]) (by kernel_rfl) ?_
              refine r_forget [41, 30, 12, 11, 10, 9, 8, 7, 2, 0] (l' := [(41, .bool true), (30, .int .i64 r35384), (12, .int .i64 4), (11, .int .i64 3), (10, .int .i64 3), (9, .int .i64 0), (8, .int .i64 r22236.2), (7, .pointer (some ⟨b22250, 0, none⟩)), (2, .int .i64 (w64 (1 + r22211))), (0, .int .i64 (w64 (5 + r22204)))]) (by kernel_rfl) ?_
              refine r_end rfl ?_
              refine W_condT (x := .tmp 41) (by kernel_rfl) rfl rfl ?_
              refine W_region (R := r4_14) (by kernel_rfl) ?_
              refine r_run 3 (l' := [(10, .int .i64 (w64 (11 + (w64 (1 + r22211))))), (44, .int .i64 (w64 (11 + (w64 (1 + r22211))))), (43, .int .i64 (w64 (1 + r22211))), (41, .bool true), (30, .int .i64 r35384), (12, .int .i64 4), (11, .int .i64 3), (10, .int .i64 3), (9, .int .i64 0), (8, .int .i64 r22236.2), (7, .pointer (some ⟨b22250, 0, none⟩)), (2, .int .i64 (w64 (1 + r22211))), (0, .int .i64 (w64 (5 + r22204)))]) (by kernel_rfl) ?_
              refine r_forget [10, 12, 11, 9, 8, 7] (l' := [(10, .int .i64 (w64 (11 + (w64 (1 + r22211))))), (12, .int .i64 4), (11, .int .i64 3), (9, .int .i64 0), (8, .int .i64 r22236.2), (7, .pointer (some ⟨b22250, 0, none⟩))]) (by kernel_rfl) ?_
              refine r_end rfl ?_
              obtain rfl := Option.some.inj ho35382
              exact ⟨_, r22236.1.Nodes, r22236.2, 0, w64 (11 + (w64 (1 + r22211))), 3, 4, b22250, v22248, c22249, rfl, q22247, rfl, hS35390⟩
            · refine r_step rfl trivial (o_cmp rfl rfl (c_eql_F hp48350)) ?_
              refine r_run 1 (l' := [(41, .bool false), (42, .bool false), (39, .bool false), (30, .int .i64 r35384), (12, .int .i64 4), (11, .int .i64 3), (10, .int .i64 3), (9, .int .i64 0), (8, .int .i64 r22236.2), (7, .pointer (some ⟨b22250, 0, none⟩)), (2, .int .i64 (w64 (1 + r22211))), (0, .int .i64 (w64 (5 + r22204)))]) (by kernel_rfl) ?_
              refine r_forget [41, 30, 12, 11, 10, 9, 8, 7, 2, 0] (l' := [(41, .bool false), (30, .int .i64 r35384), (12, .int .i64 4), (11, .int .i64 3), (10, .int .i64 3), (9, .int .i64 0), (8, .int .i64 r22236.2), (7, .pointer (some ⟨b22250, 0, none⟩)), (2, .int .i64 (w64 (1 + r22211))), (0, .int .i64 (w64 (5 + r22204)))]) (by kernel_rfl) ?_
              refine r_end rfl ?_
              refine W_condF (x := .tmp 41) (by kernel_rfl) rfl rfl ?_
              refine W_seq (by kernel_rfl) ?_
              refine W_region (R := r4_15) (by kernel_rfl) ?_
              rcases ifs ho35382 with ⟨hp48458, ho35382⟩ | ⟨hp48458, ho35382⟩
              · refine r_step rfl trivial (o_cmp rfl rfl (c_eql_T hp48458)) ?_
                refine r_run 1 (l' := [(45, .bool true), (46, .bool true), (41, .bool false), (30, .int .i64 r35384), (12, .int .i64 4), (11, .int .i64 3), (10, .int .i64 3), (9, .int .i64 0), (8, .int .i64 r22236.2), (7, .pointer (some ⟨b22250, 0, none⟩)), (2, .int .i64 (w64 (1 + r22211))), (0, .int .i64 (w64 (5 + r22204)))]) (by kernel_rfl) ?_
                refine r_forget [45, 30, 12, 11, 10, 9, 8, 7, 2, 0] (l' := [(45, .bool true), (30, .int .i64 r35384), (12, .int .i64 4), (11, .int .i64 3), (10, .int .i64 3), (9, .int .i64 0), (8, .int .i64 r22236.2), (7, .pointer (some ⟨b22250, 0, none⟩)), (2, .int .i64 (w64 (1 + r22211))), (0, .int .i64 (w64 (5 + r22204)))]) (by kernel_rfl) ?_
                refine r_end rfl ?_
                refine W_condT (x := .tmp 45) (by kernel_rfl) rfl rfl ?_
                refine W_region (R := r4_16) (by kernel_rfl) ?_
                refine r_run 4 (l' := [(11, .int .i64 (w64 (4 + (w64 (1 + r22211))))), (49, .int .i64 (w64 (4 + (w64 (1 + r22211))))), (48, .int .i64 (w64 (1 + r22211))), (47, .int .i64 4), (45, .bool true), (30, .int .i64 r35384), (12, .int .i64 4), (11, .int .i64 3), (10, .int .i64 3), (9, .int .i64 0), (8, .int .i64 r22236.2), (7, .pointer (some ⟨b22250, 0, none⟩)), (2, .int .i64 (w64 (1 + r22211))), (0, .int .i64 (w64 (5 + r22204)))]) (by kernel_rfl) ?_
                refine r_forget [11, 12, 10, 9, 8, 7] (l' := [(11, .int .i64 (w64 (4 + (w64 (1 + r22211))))), (12, .int .i64 4), (10, .int .i64 3), (9, .int .i64 0), (8, .int .i64 r22236.2), (7, .pointer (some ⟨b22250, 0, none⟩))]) (by kernel_rfl) ?_
                refine r_end rfl ?_
                obtain rfl := Option.some.inj ho35382
                exact ⟨_, r22236.1.Nodes, r22236.2, 0, 3, w64 (4 + (w64 (1 + r22211))), 4, b22250, v22248, c22249, rfl, q22247, rfl, hS35390⟩
              · refine r_step rfl trivial (o_cmp rfl rfl (c_eql_F hp48458)) ?_
                refine r_run 1 (l' := [(45, .bool false), (46, .bool false), (41, .bool false), (30, .int .i64 r35384), (12, .int .i64 4), (11, .int .i64 3), (10, .int .i64 3), (9, .int .i64 0), (8, .int .i64 r22236.2), (7, .pointer (some ⟨b22250, 0, none⟩)), (2, .int .i64 (w64 (1 + r22211))), (0, .int .i64 (w64 (5 + r22204)))]) (by kernel_rfl) ?_
                refine r_forget [45, 30, 12, 11, 10, 9, 8, 7, 2, 0] (l' := [(45, .bool false), (30, .int .i64 r35384), (12, .int .i64 4), (11, .int .i64 3), (10, .int .i64 3), (9, .int .i64 0), (8, .int .i64 r22236.2), (7, .pointer (some ⟨b22250, 0, none⟩)), (2, .int .i64 (w64 (1 + r22211))), (0, .int .i64 (w64 (5 + r22204)))]) (by kernel_rfl) ?_
                refine r_end rfl ?_
                refine W_condF (x := .tmp 45) (by kernel_rfl) rfl rfl ?_
                refine W_seq (by kernel_rfl) ?_
                refine W_region (R := r4_17) (by kernel_rfl) ?_
                rcases ifs ho35382 with ⟨hp48494, ho35382⟩ | ⟨hp48494, ho35382⟩
                · refine r_step rfl trivial (o_cmp rfl rfl (c_eql_T hp48494)) ?_
                  refine r_run 1 (l' := [(50, .bool true), (51, .bool true), (45, .bool false), (30, .int .i64 r35384), (12, .int .i64 4), (11, .int .i64 3), (10, .int .i64 3), (9, .int .i64 0), (8, .int .i64 r22236.2), (7, .pointer (some ⟨b22250, 0, none⟩)), (2, .int .i64 (w64 (1 + r22211))), (0, .int .i64 (w64 (5 + r22204)))]) (by kernel_rfl) ?_
                  refine r_forget [50, 30, 12, 11, 10, 9, 8, 7, 2, 0] (l' := [(50, .bool true), (30, .int .i64 r35384), (12, .int .i64 4), (11, .int .i64 3), (10, .int .i64 3), (9, .int .i64 0), (8, .int .i64 r22236.2), (7, .pointer (some ⟨b22250, 0, none⟩)), (2, .int .i64 (w64 (1 + r22211))), (0, .int .i64 (w64 (5 + r22204)))]) (by kernel_rfl) ?_
                  refine r_end rfl ?_
                  refine W_condT (x := .tmp 50) (by kernel_rfl) rfl rfl ?_
                  refine W_region (R := r4_18) (by kernel_rfl) ?_
                  refine r_run 4 (l' := [(12, .int .i64 (w64 ((w64 (5 + r22204)) + (w64 (1 + r22211))))), (54, .int .i64 (w64 ((w64 (5 + r22204)) + (w64 (1 + r22211))))), (53, .int .i64 (w64 (1 + r22211))), (52, .int .i64 (w64 (5 + r22204))), (50, .bool true), (30, .int .i64 r35384), (12, .int .i64 4), (11, .int .i64 3), (10, .int .i64 3), (9, .int .i64 0), (8, .int .i64 r22236.2), (7, .pointer (some ⟨b22250, 0, none⟩)), (2, .int .i64 (w64 (1 + r22211))), (0, .int .i64 (w64 (5 + r22204)))]) (by kernel_rfl) ?_
                  refine r_forget [12, 11, 10, 9, 8, 7] (l' := [(12, .int .i64 (w64 ((w64 (5 + r22204)) + (w64 (1 + r22211))))), (11, .int .i64 3), (10, .int .i64 3), (9, .int .i64 0), (8, .int .i64 r22236.2), (7, .pointer (some ⟨b22250, 0, none⟩))]) (by kernel_rfl) ?_
                  refine r_end rfl ?_
                  obtain rfl := Option.some.inj ho35382
                  exact ⟨_, r22236.1.Nodes, r22236.2, 0, 3, 3, w64 ((w64 (5 + r22204)) + (w64 (1 + r22211))), b22250, v22248, c22249, rfl, q22247, rfl, hS35390⟩
                · refine r_step rfl trivial (o_cmp rfl rfl (c_eql_F hp48494)) ?_
                  refine r_run 1 (l' := [(50, .bool false), (51, .bool false), (45, .bool false), (30, .int .i64 r35384), (12, .int .i64 4), (11, .int .i64 3), (10, .int .i64 3), (9, .int .i64 0), (8, .int .i64 r22236.2), (7, .pointer (some ⟨b22250, 0, none⟩)), (2, .int .i64 (w64 (1 + r22211))), (0, .int .i64 (w64 (5 + r22204)))]) (by kernel_rfl) ?_
                  refine r_forget [50, 30, 12, 11, 10, 9, 8, 7, 2, 0] (l' := [(50, .bool false), (30, .int .i64 r35384), (12, .int .i64 4), (11, .int .i64 3), (10, .int .i64 3), (9, .int .i64 0), (8, .int .i64 r22236.2), (7, .pointer (some ⟨b22250, 0, none⟩)), (2, .int .i64 (w64 (1 + r22211))), (0, .int .i64 (w64 (5 + r22204)))]) (by kernel_rfl) ?_
                  refine r_end rfl ?_
                  refine W_condF (x := .tmp 50) (by kernel_rfl) rfl rfl ?_
                  refine W_seq (by kernel_rfl) ?_
                  refine W_region (R := r4_19) (by kernel_rfl) ?_
                  rcases ifs ho35382 with ⟨hp48506, ho35382⟩ | ⟨hp48506, ho35382⟩
                  · refine r_step rfl trivial (o_cmp rfl rfl (c_eql_T hp48506)) ?_
                    refine r_run 1 (l' := [(55, .bool true), (56, .bool true), (50, .bool false), (30, .int .i64 r35384), (12, .int .i64 4), (11, .int .i64 3), (10, .int .i64 3), (9, .int .i64 0), (8, .int .i64 r22236.2), (7, .pointer (some ⟨b22250, 0, none⟩)), (2, .int .i64 (w64 (1 + r22211))), (0, .int .i64 (w64 (5 + r22204)))]) (by kernel_rfl) ?_
                    refine r_forget [55, 30, 12, 11, 10, 9, 8, 7] (l' := [(55, .bool true), (30, .int .i64 r35384), (12, .int .i64 4), (11, .int .i64 3), (10, .int .i64 3), (9, .int .i64 0), (8, .int .i64 r22236.2), (7, .pointer (some ⟨b22250, 0, none⟩))]) (by kernel_rfl) ?_
                    refine r_end rfl ?_
                    refine W_condT (x := .tmp 55) (by kernel_rfl) rfl rfl ?_
                    refine W_region (R := r4_20) (by kernel_rfl) ?_
                    refine r_run 1 (l' := [(11, .int .i64 2), (55, .bool true), (30, .int .i64 r35384), (12, .int .i64 4), (11, .int .i64 3), (10, .int .i64 3), (9, .int .i64 0), (8, .int .i64 r22236.2), (7, .pointer (some ⟨b22250, 0, none⟩))]) (by kernel_rfl) ?_
                    refine r_forget [11, 12, 10, 9, 8, 7] (l' := [(11, .int .i64 2), (12, .int .i64 4), (10, .int .i64 3), (9, .int .i64 0), (8, .int .i64 r22236.2), (7, .pointer (some ⟨b22250, 0, none⟩))]) (by kernel_rfl) ?_
                    refine r_end rfl ?_
                    obtain rfl := Option.some.inj ho35382
                    exact ⟨_, r22236.1.Nodes, r22236.2, 0, 3, 2, 4, b22250, v22248, c22249, rfl, q22247, rfl, hS35390⟩
                  · refine r_step rfl trivial (o_cmp rfl rfl (c_eql_F hp48506)) ?_
                    refine r_run 1 (l' := [(55, .bool false), (56, .bool false), (50, .bool false), (30, .int .i64 r35384), (12, .int .i64 4), (11, .int .i64 3), (10, .int .i64 3), (9, .int .i64 0), (8, .int .i64 r22236.2), (7, .pointer (some ⟨b22250, 0, none⟩)), (2, .int .i64 (w64 (1 + r22211))), (0, .int .i64 (w64 (5 + r22204)))]) (by kernel_rfl) ?_
                    refine r_forget [55, 30, 12, 11, 10, 9, 8, 7] (l' := [(55, .bool false), (30, .int .i64 r35384), (12, .int .i64 4), (11, .int .i64 3), (10, .int .i64 3), (9, .int .i64 0), (8, .int .i64 r22236.2), (7, .pointer (some ⟨b22250, 0, none⟩))]) (by kernel_rfl) ?_
                    refine r_end rfl ?_
                    refine W_condF (x := .tmp 55) (by kernel_rfl) rfl rfl ?_
                    refine W_seq (by kernel_rfl) ?_
                    refine W_region (R := r4_21) (by kernel_rfl) ?_
                    rcases ifs ho35382 with ⟨hp48510, ho35382⟩ | ⟨hp48510, ho35382⟩
                    · refine r_step rfl trivial (o_cmp rfl rfl (c_eql_T hp48510)) ?_
                      refine r_run 1 (l' := [(57, .bool true), (58, .bool true), (55, .bool false), (30, .int .i64 r35384), (12, .int .i64 4), (11, .int .i64 3), (10, .int .i64 3), (9, .int .i64 0), (8, .int .i64 r22236.2), (7, .pointer (some ⟨b22250, 0, none⟩))]) (by kernel_rfl) ?_
                      refine r_forget [57, 12, 11, 10, 9, 8, 7] (l' := [(57, .bool true), (12, .int .i64 4), (11, .int .i64 3), (10, .int .i64 3), (9, .int .i64 0), (8, .int .i64 r22236.2), (7, .pointer (some ⟨b22250, 0, none⟩))]) (by kernel_rfl) ?_
                      refine r_end rfl ?_
                      refine W_condT (x := .tmp 57) (by kernel_rfl) rfl rfl ?_
                      refine W_region (R := r4_22) (by kernel_rfl) ?_
                      refine r_run 2 (l' := [(11, .int .i64 0), (9, .int .i64 1), (57, .bool true), (12, .int .i64 4), (11, .int .i64 3), (10, .int .i64 3), (9, .int .i64 0), (8, .int .i64 r22236.2), (7, .pointer (some ⟨b22250, 0, none⟩))]) (by kernel_rfl) ?_
                      refine r_forget [11, 9, 12, 10, 8, 7] (l' := [(11, .int .i64 0), (9, .int .i64 1), (12, .int .i64 4), (10, .int .i64 3), (8, .int .i64 r22236.2), (7, .pointer (some ⟨b22250, 0, none⟩))]) (by kernel_rfl) ?_
                      refine r_end rfl ?_
                      obtain rfl := Option.some.inj ho35382
                      exact ⟨_, r22236.1.Nodes, r22236.2, 1, 3, 0, 4, b22250, v22248, c22249, rfl, q22247, rfl, hS35390⟩
                    · refine r_step rfl trivial (o_cmp rfl rfl (c_eql_F hp48510)) ?_
                      refine r_run 1 (l' := [(57, .bool false), (58, .bool false), (55, .bool false), (30, .int .i64 r35384), (12, .int .i64 4), (11, .int .i64 3), (10, .int .i64 3), (9, .int .i64 0), (8, .int .i64 r22236.2), (7, .pointer (some ⟨b22250, 0, none⟩))]) (by kernel_rfl) ?_
                      refine r_forget [57, 12, 11, 10, 9, 8, 7] (l' := [(57, .bool false), (12, .int .i64 4), (11, .int .i64 3), (10, .int .i64 3), (9, .int .i64 0), (8, .int .i64 r22236.2), (7, .pointer (some ⟨b22250, 0, none⟩))]) (by kernel_rfl) ?_
                      refine r_end rfl ?_
                      refine W_condF (x := .tmp 57) (by kernel_rfl) rfl rfl ?_
                      refine W_skip (by kernel_rfl) ?_
                      obtain rfl := Option.some.inj ho35382
                      exact ⟨_, r22236.1.Nodes, r22236.2, 0, 3, 3, 4, b22250, v22248, c22249, rfl, q22247, rfl, hS35390⟩
  · refine r_setb (t := 15) rfl (Bool.eq_false_iff.2 hp22203) ?_
    refine r_run 1 (l' := [(16, .bool true), (15, .bool false), (15, .bool r22196), (0, .int .i64 a0), (1, .int .i64 a1), (2, .int .i64 a2)]) (by kernel_rfl) ?_
    refine r_forget [16, 0, 1, 2] (l' := [(16, .bool true), (0, .int .i64 a0), (1, .int .i64 a1), (2, .int .i64 a2)]) (by kernel_rfl) ?_
    refine r_end rfl ?_
    refine W_condT (x := .tmp 16) (by kernel_rfl) rfl rfl ?_
    refine W_seq (by kernel_rfl) ?_
    refine W_region (R := r4_2) (by kernel_rfl) ?_
    refine r_run 1 (l' := [(6, .bool false), (16, .bool true), (0, .int .i64 a0), (1, .int .i64 a1), (2, .int .i64 a2)]) (by kernel_rfl) ?_
    refine r_forget [6] (l' := [(6, .bool false)]) (by kernel_rfl) ?_
    refine r_end rfl ?_
    refine W_ret (by kernel_rfl) ?_
    refine ⟨rfl, ?_⟩
    obtain rfl := Option.some.inj hm
    refine ⟨_, _, _, ResL.tmp rfl (ResL.nil), hS22202, ?_⟩
    exact rfl

end Go.Proofs.Ytpijjenaadkjdaa.M
