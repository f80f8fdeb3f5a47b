/- Printed by a program of this session: Go functions as Lean functions over plain data, and that the calls come to them. -/
import Derived.Test.YtpijjenaadkjdaaSyF
import Derived.Test.YtpijjenaadkjdaaChecked
import Derived.KernelRfl
import Derived.Test.YtpijjenaadkjdaaMA0
namespace Go.Proofs.Ytpijjenaadkjdaa.M
open Go Am Sy
open Sy.Cell (rc)
set_option linter.unusedVariables false
set_option linter.unusedSimpArgs false
set_option maxRecDepth 20000

def r31_0 : List COp := [⟨none, some 4, (Go.Op.assign (Go.Operand.const (Go.Value.bool false)))⟩]
def r31_1 : List COp := [⟨none, some 10, (Go.Op.move (Go.Operand.tmp 0))⟩,
  ⟨none, some 11, (Go.Op.typeAssert (Go.Operand.tmp 10) 20 46 true)⟩,
  ⟨none, some 9, (Go.Op.move (Go.Operand.tmp 11))⟩,
  ⟨none, some 12, (Go.Op.extract (Go.Operand.tmp 9) 0)⟩,
  ⟨none, some 13, (Go.Op.extract (Go.Operand.tmp 9) 1)⟩,
  ⟨none, some 5, (Go.Op.alloc 46)⟩,
  ⟨none, none, (Go.Op.store 46 (Go.Operand.tmp 5) (Go.Operand.tmp 12))⟩,
  ⟨none, some 6, (Go.Op.assign (Go.Operand.tmp 13))⟩]
def r31_2 : List COp := [⟨none, some 15, (Go.Op.move (Go.Operand.tmp 1))⟩,
  ⟨none, some 16, (Go.Op.typeAssert (Go.Operand.tmp 15) 20 46 true)⟩,
  ⟨none, some 14, (Go.Op.move (Go.Operand.tmp 16))⟩,
  ⟨none, some 17, (Go.Op.extract (Go.Operand.tmp 14) 0)⟩,
  ⟨none, some 18, (Go.Op.extract (Go.Operand.tmp 14) 1)⟩,
  ⟨none, some 7, (Go.Op.alloc 46)⟩,
  ⟨none, none, (Go.Op.store 46 (Go.Operand.tmp 7) (Go.Operand.tmp 17))⟩,
  ⟨none, some 8, (Go.Op.assign (Go.Operand.tmp 18))⟩]
def r31_3 : List COp := [⟨none, some 19, (Go.Op.move (Go.Operand.tmp 6))⟩,
  ⟨none, some 20, (Go.Op.move (Go.Operand.tmp 19))⟩,
  ⟨(some (some 20, true)), some 21, (Go.Op.move (Go.Operand.tmp 8))⟩,
  ⟨none, some 22, (Go.Op.pick (Go.Operand.tmp 20) (Go.Operand.tmp 21) (Go.Operand.const (Go.Value.bool false)))⟩,
  ⟨none, some 23, (Go.Op.move (Go.Operand.tmp 22))⟩,
  ⟨(some (some 23, true)), some 24, (Go.Op.fieldAddr 46 (Go.Operand.tmp 5) 0)⟩,
  ⟨(some (some 23, true)), some 25, (Go.Op.load 3 (Go.Operand.tmp 24))⟩,
  ⟨(some (some 23, true)), some 26, (Go.Op.fieldAddr 46 (Go.Operand.tmp 7) 0)⟩,
  ⟨(some (some 23, true)), some 27, (Go.Op.load 3 (Go.Operand.tmp 26))⟩,
  ⟨(some (some 23, true)), some 28, (Go.Op.binOp Go.BinOp.eql 3 (Go.Operand.tmp 25) (Go.Operand.tmp 27) 3)⟩,
  ⟨none, some 29, (Go.Op.pick (Go.Operand.tmp 23) (Go.Operand.tmp 28) (Go.Operand.const (Go.Value.bool false)))⟩,
  ⟨none, some 30, (Go.Op.move (Go.Operand.tmp 29))⟩,
  ⟨(some (some 30, true)), some 31, (Go.Op.fieldAddr 46 (Go.Operand.tmp 5) 1)⟩,
  ⟨(some (some 30, true)), some 32, (Go.Op.load 3 (Go.Operand.tmp 31))⟩,
  ⟨(some (some 30, true)), some 33, (Go.Op.fieldAddr 46 (Go.Operand.tmp 7) 1)⟩,
  ⟨(some (some 30, true)), some 34, (Go.Op.load 3 (Go.Operand.tmp 33))⟩,
  ⟨(some (some 30, true)), some 35, (Go.Op.binOp Go.BinOp.eql 3 (Go.Operand.tmp 32) (Go.Operand.tmp 34) 3)⟩,
  ⟨none, some 36, (Go.Op.pick (Go.Operand.tmp 30) (Go.Operand.tmp 35) (Go.Operand.const (Go.Value.bool false)))⟩,
  ⟨none, some 37, (Go.Op.move (Go.Operand.tmp 36))⟩,
  ⟨(some (some 37, true)), some 38, (Go.Op.fieldAddr 46 (Go.Operand.tmp 5) 2)⟩,
  ⟨(some (some 37, true)), some 39, (Go.Op.load 3 (Go.Operand.tmp 38))⟩,
  ⟨(some (some 37, true)), some 40, (Go.Op.fieldAddr 46 (Go.Operand.tmp 7) 2)⟩,
  ⟨(some (some 37, true)), some 41, (Go.Op.load 3 (Go.Operand.tmp 40))⟩,
  ⟨(some (some 37, true)), some 42, (Go.Op.binOp Go.BinOp.eql 3 (Go.Operand.tmp 39) (Go.Operand.tmp 41) 3)⟩,
  ⟨none, some 43, (Go.Op.pick (Go.Operand.tmp 37) (Go.Operand.tmp 42) (Go.Operand.const (Go.Value.bool false)))⟩,
  ⟨none, some 44, (Go.Op.move (Go.Operand.tmp 43))⟩,
  ⟨(some (some 44, true)), some 45, (Go.Op.fieldAddr 46 (Go.Operand.tmp 5) 3)⟩,
  ⟨(some (some 44, true)), some 46, (Go.Op.load 3 (Go.Operand.tmp 45))⟩,
  ⟨(some (some 44, true)), some 47, (Go.Op.fieldAddr 46 (Go.Operand.tmp 7) 3)⟩,
  ⟨(some (some 44, true)), some 48, (Go.Op.load 3 (Go.Operand.tmp 47))⟩,
  ⟨(some (some 44, true)), some 49, (Go.Op.binOp Go.BinOp.eql 3 (Go.Operand.tmp 46) (Go.Operand.tmp 48) 3)⟩,
  ⟨none, some 50, (Go.Op.pick (Go.Operand.tmp 44) (Go.Operand.tmp 49) (Go.Operand.const (Go.Value.bool false)))⟩,
  ⟨none, some 51, (Go.Op.move (Go.Operand.tmp 50))⟩,
  ⟨(some (some 51, true)), some 52, (Go.Op.fieldAddr 46 (Go.Operand.tmp 5) 5)⟩,
  ⟨(some (some 51, true)), some 53, (Go.Op.load 4 (Go.Operand.tmp 52))⟩,
  ⟨(some (some 51, true)), some 54, (Go.Op.fieldAddr 46 (Go.Operand.tmp 7) 5)⟩,
  ⟨(some (some 51, true)), some 55, (Go.Op.load 4 (Go.Operand.tmp 54))⟩,
  ⟨(some (some 51, true)), some 56, (Go.Op.binOp Go.BinOp.eql 4 (Go.Operand.tmp 53) (Go.Operand.tmp 55) 4)⟩,
  ⟨none, some 57, (Go.Op.pick (Go.Operand.tmp 51) (Go.Operand.tmp 56) (Go.Operand.const (Go.Value.bool false)))⟩,
  ⟨none, some 58, (Go.Op.move (Go.Operand.tmp 57))⟩,
  ⟨(some (some 58, true)), some 59, (Go.Op.fieldAddr 46 (Go.Operand.tmp 5) 4)⟩,
  ⟨(some (some 58, true)), some 60, (Go.Op.load 44 (Go.Operand.tmp 59))⟩,
  ⟨(some (some 58, true)), some 61, (Go.Op.fieldAddr 46 (Go.Operand.tmp 7) 4)⟩,
  ⟨(some (some 58, true)), some 62, (Go.Op.load 44 (Go.Operand.tmp 61))⟩,
  ⟨(some (some 58, true)), some 63, (Go.Op.call { callee := (Go.Callee.value (Go.Operand.func 37)), args := #[(Go.Operand.tmp 60), (Go.Operand.tmp 62)], argTypes := #[44, 44] })⟩,
  ⟨none, some 64, (Go.Op.pick (Go.Operand.tmp 58) (Go.Operand.tmp 63) (Go.Operand.const (Go.Value.bool false)))⟩,
  ⟨none, some 4, (Go.Op.assign (Go.Operand.tmp 64))⟩]
def arena_alike (F : Nat) (a0 : api_Node) (a1 : api_Node) : Option Bool :=
  if a0.Kind = a1.Kind then
    if a0.From = a1.From then
      if a0.To = a1.To then
        if a0.Up = a1.Up then
          if a0.Key = true then
            if a1.Key = true then
              (slices_Equal_int F a0.Kids a1.Kids).bind fun r3558 =>
              some r3558
            else
              some false
          else
            if a1.Key = true then
              some false
            else
              (slices_Equal_int F a0.Kids a1.Kids).bind fun r3566 =>
              some r3566
        else
          some false
      else
        some false
    else
      some false
  else
    some false
theorem arena_alike_ok (F : Nat) {h : AH} {Z : Zn} {a0 : api_Node} {a1 : api_Node} {v2984 : Value} {v2986 : Value} (hI : Inv Z h) (q2983 : RS (α := Int) Z v2984 a0.Kids) (q2985 : RS (α := Int) Z v2986 a1.Kids) {r : Bool} (hm : arena_alike F a0 a1 = some r) :
    ∃ v h', callI Go.Proofs.Try.prog 31 [.iface 46 (.agg #[.int .i64 a0.Kind, .int .i64 a0.From, .int .i64 a0.To, .int .i64 a0.Up, v2984, .bool a0.Key]), .iface 46 (.agg #[.int .i64 a1.Kind, .int .i64 a1.From, .int .i64 a1.To, .int .i64 a1.Up, v2986, .bool a1.Key])] h = some (v, h') ∧ St h [] Z (0, 0) Z h' [] ∧ v = .bool r := by
  refine fn_plain (Q := fun v => v = .bool r) Go.Proofs.Try.func31 rfl rfl hI ?_
  intro hs hS
  unfold arena_alike at hm
  refine W_seq (by kernel_rfl) ?_
  refine W_region (R := r31_0) (by kernel_rfl) ?_
  refine r_run 1 (l' := [(4, .bool false), (0, .iface 46 (.agg #[.int .i64 a0.Kind, .int .i64 a0.From, .int .i64 a0.To, .int .i64 a0.Up, v2984, .bool a0.Key])), (1, .iface 46 (.agg #[.int .i64 a1.Kind, .int .i64 a1.From, .int .i64 a1.To, .int .i64 a1.Up, v2986, .bool a1.Key]))]) (by kernel_rfl) ?_
  refine r_forget [0, 1] (l' := [(0, .iface 46 (.agg #[.int .i64 a0.Kind, .int .i64 a0.From, .int .i64 a0.To, .int .i64 a0.Up, v2984, .bool a0.Key])), (1, .iface 46 (.agg #[.int .i64 a1.Kind, .int .i64 a1.From, .int .i64 a1.To, .int .i64 a1.Up, v2986, .bool a1.Key]))]) (by kernel_rfl) ?_
  refine r_end rfl ?_
  refine W_seq (by kernel_rfl) ?_
  refine W_region (R := r31_1) (by kernel_rfl) ?_
  refine r_run 5 (l' := [(13, .bool true), (12, .agg #[.int .i64 a0.Kind, .int .i64 a0.From, .int .i64 a0.To, .int .i64 a0.Up, v2984, .bool a0.Key]), (9, .tuple #[.agg #[.int .i64 a0.Kind, .int .i64 a0.From, .int .i64 a0.To, .int .i64 a0.Up, v2984, .bool a0.Key], .bool true]), (11, .tuple #[.agg #[.int .i64 a0.Kind, .int .i64 a0.From, .int .i64 a0.To, .int .i64 a0.Up, v2984, .bool a0.Key], .bool true]), (10, .iface 46 (.agg #[.int .i64 a0.Kind, .int .i64 a0.From, .int .i64 a0.To, .int .i64 a0.Up, v2984, .bool a0.Key])), (0, .iface 46 (.agg #[.int .i64 a0.Kind, .int .i64 a0.From, .int .i64 a0.To, .int .i64 a0.Up, v2984, .bool a0.Key])), (1, .iface 46 (.agg #[.int .i64 a1.Kind, .int .i64 a1.From, .int .i64 a1.To, .int .i64 a1.Up, v2986, .bool a1.Key]))]) (by kernel_rfl) ?_
  refine r_blk rfl trivial (o_alloc (cs := [.int .i64 0, .int .i64 0, .int .i64 0, .int .i64 0, .slice none 0 0, .bool false]) (by kernel_rfl)) hS ?_
  intro b3521 h3522 hS3523
  refine r_ex1 rfl trivial (o_stb (vs := [.int .i64 a0.Kind, .int .i64 a0.From, .int .i64 a0.To, .int .i64 a0.Up, v2984, .bool a0.Key]) (cells' := [.int .i64 a0.Kind, .int .i64 a0.From, .int .i64 a0.To, .int .i64 a0.Up, v2984, .bool a0.Key]) (L' := [.blk b3521 [.int .i64 a0.Kind, .int .i64 a0.From, .int .i64 a0.To, .int .i64 a0.Up, v2984, .bool a0.Key]]) hS3523 (i := 0) rfl rfl rfl rfl (by kernel_rfl) (one_cons rfl (one_cons rfl (one_cons rfl (one_cons rfl (one_cons (RS.one1 q2983) (one_cons rfl one_nil)))))) rfl rfl rfl) ?_
  intro h3524 hS3525
  refine r_run 1 (l' := [(6, .bool true), (5, .pointer (some ⟨b3521, 0, none⟩)), (13, .bool true), (12, .agg #[.int .i64 a0.Kind, .int .i64 a0.From, .int .i64 a0.To, .int .i64 a0.Up, v2984, .bool a0.Key]), (9, .tuple #[.agg #[.int .i64 a0.Kind, .int .i64 a0.From, .int .i64 a0.To, .int .i64 a0.Up, v2984, .bool a0.Key], .bool true]), (11, .tuple #[.agg #[.int .i64 a0.Kind, .int .i64 a0.From, .int .i64 a0.To, .int .i64 a0.Up, v2984, .bool a0.Key], .bool true]), (10, .iface 46 (.agg #[.int .i64 a0.Kind, .int .i64 a0.From, .int .i64 a0.To, .int .i64 a0.Up, v2984, .bool a0.Key])), (0, .iface 46 (.agg #[.int .i64 a0.Kind, .int .i64 a0.From, .int .i64 a0.To, .int .i64 a0.Up, v2984, .bool a0.Key])), (1, .iface 46 (.agg #[.int .i64 a1.Kind, .int .i64 a1.From, .int .i64 a1.To, .int .i64 a1.Up, v2986, .bool a1.Key]))]) (by kernel_rfl) ?_
  refine r_forget [6, 5, 1] (l' := [(6, .bool true), (5, .pointer (some ⟨b3521, 0, none⟩)), (1, .iface 46 (.agg #[.int .i64 a1.Kind, .int .i64 a1.From, .int .i64 a1.To, .int .i64 a1.Up, v2986, .bool a1.Key]))]) (by kernel_rfl) ?_
  refine r_end rfl ?_
  refine W_seq (by kernel_rfl) ?_
  refine W_region (R := r31_2) (by kernel_rfl) ?_
  refine r_run 5 (l' := [(18, .bool true), (17, .agg #[.int .i64 a1.Kind, .int .i64 a1.From, .int .i64 a1.To, .int .i64 a1.Up, v2986, .bool a1.Key]), (14, .tuple #[.agg #[.int .i64 a1.Kind, .int .i64 a1.From, .int .i64 a1.To, .int .i64 a1.Up, v2986, .bool a1.Key], .bool true]), (16, .tuple #[.agg #[.int .i64 a1.Kind, .int .i64 a1.From, .int .i64 a1.To, .int .i64 a1.Up, v2986, .bool a1.Key], .bool true]), (15, .iface 46 (.agg #[.int .i64 a1.Kind, .int .i64 a1.From, .int .i64 a1.To, .int .i64 a1.Up, v2986, .bool a1.Key])), (6, .bool true), (5, .pointer (some ⟨b3521, 0, none⟩)), (1, .iface 46 (.agg #[.int .i64 a1.Kind, .int .i64 a1.From, .int .i64 a1.To, .int .i64 a1.Up, v2986, .bool a1.Key]))]) (by kernel_rfl) ?_
  refine r_blk rfl trivial (o_alloc (cs := [.int .i64 0, .int .i64 0, .int .i64 0, .int .i64 0, .slice none 0 0, .bool false]) (by kernel_rfl)) hS3525 ?_
  intro b3526 h3527 hS3528
  refine r_ex1 rfl trivial (o_stb (vs := [.int .i64 a1.Kind, .int .i64 a1.From, .int .i64 a1.To, .int .i64 a1.Up, v2986, .bool a1.Key]) (cells' := [.int .i64 a1.Kind, .int .i64 a1.From, .int .i64 a1.To, .int .i64 a1.Up, v2986, .bool a1.Key]) (L' := [.blk b3526 [.int .i64 a1.Kind, .int .i64 a1.From, .int .i64 a1.To, .int .i64 a1.Up, v2986, .bool a1.Key], .blk b3521 [.int .i64 a0.Kind, .int .i64 a0.From, .int .i64 a0.To, .int .i64 a0.Up, v2984, .bool a0.Key]]) hS3528 (i := 0) rfl rfl rfl rfl (by kernel_rfl) (one_cons rfl (one_cons rfl (one_cons rfl (one_cons rfl (one_cons (RS.one1 q2985) (one_cons rfl one_nil)))))) rfl rfl rfl) ?_
  intro h3529 hS3530
  refine r_run 1 (l' := [(8, .bool true), (7, .pointer (some ⟨b3526, 0, none⟩)), (18, .bool true), (17, .agg #[.int .i64 a1.Kind, .int .i64 a1.From, .int .i64 a1.To, .int .i64 a1.Up, v2986, .bool a1.Key]), (14, .tuple #[.agg #[.int .i64 a1.Kind, .int .i64 a1.From, .int .i64 a1.To, .int .i64 a1.Up, v2986, .bool a1.Key], .bool true]), (16, .tuple #[.agg #[.int .i64 a1.Kind, .int .i64 a1.From, .int .i64 a1.To, .int .i64 a1.Up, v2986, .bool a1.Key], .bool true]), (15, .iface 46 (.agg #[.int .i64 a1.Kind, .int .i64 a1.From, .int .i64 a1.To, .int .i64 a1.Up, v2986, .bool a1.Key])), (6, .bool true), (5, .pointer (some ⟨b3521, 0, none⟩)), (1, .iface 46 (.agg #[.int .i64 a1.Kind, .int .i64 a1.From, .int .i64 a1.To, .int .i64 a1.Up, v2986, .bool a1.Key]))]) (by kernel_rfl) ?_
  refine r_forget [8, 7, 6, 5] (l' := [(8, .bool true), (7, .pointer (some ⟨b3526, 0, none⟩)), (6, .bool true), (5, .pointer (some ⟨b3521, 0, none⟩))]) (by kernel_rfl) ?_
  refine r_end rfl ?_
  refine W_seq (by kernel_rfl) ?_
  refine W_region (R := r31_3) (by kernel_rfl) ?_
  refine r_run 6 (l' := [(24, .pointer (some ⟨b3521, 0, none⟩)), (23, .bool true), (22, .bool true), (21, .bool true), (20, .bool true), (19, .bool true), (8, .bool true), (7, .pointer (some ⟨b3526, 0, none⟩)), (6, .bool true), (5, .pointer (some ⟨b3521, 0, none⟩))]) (by kernel_rfl) ?_
  refine r_step rfl rfl (o_ldb (v := .int .i64 a0.Kind) hS3530 (i := 1) rfl rfl (by kernel_rfl)) ?_
  refine r_run 1 (l' := [(26, .pointer (some ⟨b3526, 0, none⟩)), (25, .int .i64 a0.Kind), (24, .pointer (some ⟨b3521, 0, none⟩)), (23, .bool true), (22, .bool true), (21, .bool true), (20, .bool true), (19, .bool true), (8, .bool true), (7, .pointer (some ⟨b3526, 0, none⟩)), (6, .bool true), (5, .pointer (some ⟨b3521, 0, none⟩))]) (by kernel_rfl) ?_
  refine r_step rfl rfl (o_ldb (v := .int .i64 a1.Kind) hS3530 (i := 0) rfl rfl (by kernel_rfl)) ?_
  rcases ifs hm with ⟨hp3552, hm⟩ | ⟨hp3552, hm⟩
  · refine r_step rfl rfl (o_cmp rfl rfl (c_eql_T hp3552)) ?_
    refine r_run 3 (l' := [(31, .pointer (some ⟨b3521, 1, none⟩)), (30, .bool true), (29, .bool true), (28, .bool true), (27, .int .i64 a1.Kind), (26, .pointer (some ⟨b3526, 0, none⟩)), (25, .int .i64 a0.Kind), (24, .pointer (some ⟨b3521, 0, none⟩)), (23, .bool true), (22, .bool true), (21, .bool true), (20, .bool true), (19, .bool true), (8, .bool true), (7, .pointer (some ⟨b3526, 0, none⟩)), (6, .bool true), (5, .pointer (some ⟨b3521, 0, none⟩))]) (by kernel_rfl) ?_
    refine r_step rfl rfl (o_ldb (v := .int .i64 a0.From) hS3530 (i := 1) rfl rfl (by kernel_rfl)) ?_
    refine r_run 1 (l' := [(33, .pointer (some ⟨b3526, 1, none⟩)), (32, .int .i64 a0.From), (31, .pointer (some ⟨b3521, 1, none⟩)), (30, .bool true), (29, .bool true), (28, .bool true), (27, .int .i64 a1.Kind), (26, .pointer (some ⟨b3526, 0, none⟩)), (25, .int .i64 a0.Kind), (24, .pointer (some ⟨b3521, 0, none⟩)), (23, .bool true), (22, .bool true), (21, .bool true), (20, .bool true), (19, .bool true), (8, .bool true), (7, .pointer (some ⟨b3526, 0, none⟩)), (6, .bool true), (5, .pointer (some ⟨b3521, 0, none⟩))]) (by kernel_rfl) ?_
    refine r_step rfl rfl (o_ldb (v := .int .i64 a1.From) hS3530 (i := 0) rfl rfl (by kernel_rfl)) ?_
    rcases ifs hm with ⟨hp3553, hm⟩ | ⟨hp3553, hm⟩
    · refine r_step rfl rfl (o_cmp rfl rfl (c_eql_T hp3553)) ?_
      refine r_run 3 (l' := [(38, .pointer (some ⟨b3521, 2, none⟩)), (37, .bool true), (36, .bool true), (35, .bool true), (34, .int .i64 a1.From), (33, .pointer (some ⟨b3526, 1, none⟩)), (32, .int .i64 a0.From), (31, .pointer (some ⟨b3521, 1, none⟩)), (30, .bool true), (29, .bool true), (28, .bool true), (27, .int .i64 a1.Kind), (26, .pointer (some ⟨b3526, 0, none⟩)), (25, .int .i64 a0.Kind), (24, .pointer (some ⟨b3521, 0, none⟩)), (23, .bool true), (22, .bool true), (21, .bool true), (20, .bool true), (19, .bool true), (8, .bool true), (7, .pointer (some ⟨b3526, 0, none⟩)), (6, .bool true), (5, .pointer (some ⟨b3521, 0, none⟩))]) (by kernel_rfl) ?_
      refine r_step rfl rfl (o_ldb (v := .int .i64 a0.To) hS3530 (i := 1) rfl rfl (by kernel_rfl)) ?_
      refine r_run 1 (l' := [(40, .pointer (some ⟨b3526, 2, none⟩)), (39, .int .i64 a0.To), (38, .pointer (some ⟨b3521, 2, none⟩)), (37, .bool true), (36, .bool true), (35, .bool true), (34, .int .i64 a1.From), (33, .pointer (some ⟨b3526, 1, none⟩)), (32, .int .i64 a0.From), (31, .pointer (some ⟨b3521, 1, none⟩)), (30, .bool true), (29, .bool true), (28, .bool true), (27, .int .i64 a1.Kind), (26, .pointer (some ⟨b3526, 0, none⟩)), (25, .int .i64 a0.Kind), (24, .pointer (some ⟨b3521, 0, none⟩)), (23, .bool true), (22, .bool true), (21, .bool true), (20, .bool true), (19, .bool true), (8, .bool true), (7, .pointer (some ⟨b3526, 0, none⟩)), (6, .bool true), (5, .pointer (some ⟨b3521, 0, none⟩))]) (by kernel_rfl) ?_
      refine r_step rfl rfl (o_ldb (v := .int .i64 a1.To) hS3530 (i := 0) rfl rfl (by kernel_rfl)) ?_
      rcases ifs hm with ⟨hp3554, hm⟩ | ⟨hp3554, hm⟩
      · refine r_step rfl rfl (o_cmp rfl rfl (c_eql_T hp3554)) ?_
        refine r_run 3 (l' := [(45, .pointer (some ⟨b3521, 3, none⟩)), (44, .bool true), (43, .bool true), (42, .bool true), (41, .int .i64 a1.To), (40, .pointer (some ⟨b3526, 2, none⟩)), (39, .int .i64 a0.To), (38, .pointer (some ⟨b3521, 2, none⟩)), (37, .bool true), (36, .bool true), (35, .bool true), (34, .int .i64 a1.From), (33, .pointer (some ⟨b3526, 1, none⟩)), (32, .int .i64 a0.From), (31, .pointer (some ⟨b3521, 1, none⟩)), (30, .bool true), (29, .bool true), (28, .bool true), (27, .int .i64 a1.Kind), (26, .pointer (some ⟨b3526, 0, none⟩)), (25, .int .i64 a0.Kind), (24, .pointer (some ⟨b3521, 0, none⟩)), (23, .bool true), (22, .bool true), (21, .bool true), (20, .bool true), (19, .bool true), (8, .bool true), (7, .pointer (some ⟨b3526, 0, none⟩)), (6, .bool true), (5, .pointer (some ⟨b3521, 0, none⟩))]) (by kernel_rfl) ?_
        refine r_step rfl rfl (o_ldb (v := .int .i64 a0.Up) hS3530 (i := 1) rfl rfl (by kernel_rfl)) ?_
        refine r_run 1 (l' := [(47, .pointer (some ⟨b3526, 3, none⟩)), (46, .int .i64 a0.Up), (45, .pointer (some ⟨b3521, 3, none⟩)), (44, .bool true), (43, .bool true), (42, .bool true), (41, .int .i64 a1.To), (40, .pointer (some ⟨b3526, 2, none⟩)), (39, .int .i64 a0.To), (38, .pointer (some ⟨b3521, 2, none⟩)), (37, .bool true), (36, .bool true), (35, .bool true), (34, .int .i64 a1.From), (33, .pointer (some ⟨b3526, 1, none⟩)), (32, .int .i64 a0.From), (31, .pointer (some ⟨b3521, 1, none⟩)), (30, .bool true), (29, .bool true), (28, .bool true), (27, .int .i64 a1.Kind), (26, .pointer (some ⟨b3526, 0, none⟩)), (25, .int .i64 a0.Kind), (24, .pointer (some ⟨b3521, 0, none⟩)), (23, .bool true), (22, .bool true), (21, .bool true), (20, .bool true), (19, .bool true), (8, .bool true), (7, .pointer (some ⟨b3526, 0, none⟩)), (6, .bool true), (5, .pointer (some ⟨b3521, 0, none⟩))]) (by kernel_rfl) ?_
        refine r_step rfl rfl (o_ldb (v := .int .i64 a1.Up) hS3530 (i := 0) rfl rfl (by kernel_rfl)) ?_
        rcases ifs hm with ⟨hp3555, hm⟩ | ⟨hp3555, hm⟩
        · refine r_step rfl rfl (o_cmp rfl rfl (c_eql_T hp3555)) ?_
          refine r_run 3 (l' := [(52, .pointer (some ⟨b3521, 5, none⟩)), (51, .bool true), (50, .bool true), (49, .bool true), (48, .int .i64 a1.Up), (47, .pointer (some ⟨b3526, 3, none⟩)), (46, .int .i64 a0.Up), (45, .pointer (some ⟨b3521, 3, none⟩)), (44, .bool true), (43, .bool true), (42, .bool true), (41, .int .i64 a1.To), (40, .pointer (some ⟨b3526, 2, none⟩)), (39, .int .i64 a0.To), (38, .pointer (some ⟨b3521, 2, none⟩)), (37, .bool true), (36, .bool true), (35, .bool true), (34, .int .i64 a1.From), (33, .pointer (some ⟨b3526, 1, none⟩)), (32, .int .i64 a0.From), (31, .pointer (some ⟨b3521, 1, none⟩)), (30, .bool true), (29, .bool true), (28, .bool true), (27, .int .i64 a1.Kind), (26, .pointer (some ⟨b3526, 0, none⟩)), (25, .int .i64 a0.Kind), (24, .pointer (some ⟨b3521, 0, none⟩)), (23, .bool true), (22, .bool true), (21, .bool true), (20, .bool true), (19, .bool true), (8, .bool true), (7, .pointer (some ⟨b3526, 0, none⟩)), (6, .bool true), (5, .pointer (some ⟨b3521, 0, none⟩))]) (by kernel_rfl) ?_
          refine r_step rfl rfl (o_ldb (v := .bool a0.Key) hS3530 (i := 1) rfl rfl (by kernel_rfl)) ?_
          refine r_run 1 (l' := [(54, .pointer (some ⟨b3526, 5, none⟩)), (53, .bool a0.Key), (52, .pointer (some ⟨b3521, 5, none⟩)), (51, .bool true), (50, .bool true), (49, .bool true), (48, .int .i64 a1.Up), (47, .pointer (some ⟨b3526, 3, none⟩)), (46, .int .i64 a0.Up), (45, .pointer (some ⟨b3521, 3, none⟩)), (44, .bool true), (43, .bool true), (42, .bool true), (41, .int .i64 a1.To), (40, .pointer (some ⟨b3526, 2, none⟩)), (39, .int .i64 a0.To), (38, .pointer (some ⟨b3521, 2, none⟩)), (37, .bool true), (36, .bool true), (35, .bool true), (34, .int .i64 a1.From), (33, .pointer (some ⟨b3526, 1, none⟩)), (32, .int .i64 a0.From), (31, .pointer (some ⟨b3521, 1, none⟩)), (30, .bool true), (29, .bool true), (28, .bool true), (27, .int .i64 a1.Kind), (26, .pointer (some ⟨b3526, 0, none⟩)), (25, .int .i64 a0.Kind), (24, .pointer (some ⟨b3521, 0, none⟩)), (23, .bool true), (22, .bool true), (21, .bool true), (20, .bool true), (19, .bool true), (8, .bool true), (7, .pointer (some ⟨b3526, 0, none⟩)), (6, .bool true), (5, .pointer (some ⟨b3521, 0, none⟩))]) (by kernel_rfl) ?_
          refine r_step rfl rfl (o_ldb (v := .bool a1.Key) hS3530 (i := 0) rfl rfl (by kernel_rfl)) ?_
          rcases ifs hm with ⟨hp3556, hm⟩ | ⟨hp3556, hm⟩
          · refine r_setb (t := 53) rfl hp3556 ?_
            rcases ifs hm with ⟨hp3557, hm⟩ | ⟨hp3557, hm⟩
            · refine r_setb (t := 55) rfl hp3557 ?_
              refine r_step rfl rfl (o_cmp (w := true) rfl rfl (by kernel_rfl)) ?_
              refine r_run 3 (l' := [(59, .pointer (some ⟨b3521, 4, none⟩)), (58, .bool true), (57, .bool true), (56, .bool true), (55, .bool true), (53, .bool true), (55, .bool a1.Key), (54, .pointer (some ⟨b3526, 5, none⟩)), (53, .bool a0.Key), (52, .pointer (some ⟨b3521, 5, none⟩)), (51, .bool true), (50, .bool true), (49, .bool true), (48, .int .i64 a1.Up), (47, .pointer (some ⟨b3526, 3, none⟩)), (46, .int .i64 a0.Up), (45, .pointer (some ⟨b3521, 3, none⟩)), (44, .bool true), (43, .bool true), (42, .bool true), (41, .int .i64 a1.To), (40, .pointer (some ⟨b3526, 2, none⟩)), (39, .int .i64 a0.To), (38, .pointer (some ⟨b3521, 2, none⟩)), (37, .bool true), (36, .bool true), (35, .bool true), (34, .int .i64 a1.From), (33, .pointer (some ⟨b3526, 1, none⟩)), (32, .int .i64 a0.From), (31, .pointer (some ⟨b3521, 1, none⟩)), (30, .bool true), (29, .bool true), (28, .bool true), (27, .int .i64 a1.Kind), (26, .pointer (some ⟨b3526, 0, none⟩)), (25, .int .i64 a0.Kind), (24, .pointer (some ⟨b3521, 0, none⟩)), (23, .bool true), (22, .bool true), (21, .bool true), (20, .bool true), (19, .bool true), (8, .bool true), (7, .pointer (some ⟨b3526, 0, none⟩)), (6, .bool true), (5, .pointer (some ⟨b3521, 0, none⟩))]) (by kernel_rfl) ?_
              refine r_step rfl rfl (o_ldb (v := v2984) hS3530 (i := 1) rfl rfl (by kernel_rfl)) ?_
              refine r_run 1 (l' := [(61, .pointer (some ⟨b3526, 4, none⟩)), (60, v2984), (59, .pointer (some ⟨b3521, 4, none⟩)), (58, .bool true), (57, .bool true), (56, .bool true), (55, .bool true), (53, .bool true), (55, .bool a1.Key), (54, .pointer (some ⟨b3526, 5, none⟩)), (53, .bool a0.Key), (52, .pointer (some ⟨b3521, 5, none⟩)), (51, .bool true), (50, .bool true), (49, .bool true), (48, .int .i64 a1.Up), (47, .pointer (some ⟨b3526, 3, none⟩)), (46, .int .i64 a0.Up), (45, .pointer (some ⟨b3521, 3, none⟩)), (44, .bool true), (43, .bool true), (42, .bool true), (41, .int .i64 a1.To), (40, .pointer (some ⟨b3526, 2, none⟩)), (39, .int .i64 a0.To), (38, .pointer (some ⟨b3521, 2, none⟩)), (37, .bool true), (36, .bool true), (35, .bool true), (34, .int .i64 a1.From), (33, .pointer (some ⟨b3526, 1, none⟩)), (32, .int .i64 a0.From), (31, .pointer (some ⟨b3521, 1, none⟩)), (30, .bool true), (29, .bool true), (28, .bool true), (27, .int .i64 a1.Kind), (26, .pointer (some ⟨b3526, 0, none⟩)), (25, .int .i64 a0.Kind), (24, .pointer (some ⟨b3521, 0, none⟩)), (23, .bool true), (22, .bool true), (21, .bool true), (20, .bool true), (19, .bool true), (8, .bool true), (7, .pointer (some ⟨b3526, 0, none⟩)), (6, .bool true), (5, .pointer (some ⟨b3521, 0, none⟩))]) (by kernel_rfl) ?_
              refine r_step rfl rfl (o_ldb (v := v2986) hS3530 (i := 0) rfl rfl (by kernel_rfl)) ?_
              obtain ⟨r3558, hx3559, hm⟩ := obind hm
              obtain ⟨v3560, h3561, hcl3562, hSc3563, rfl⟩ := slices_Equal_int_ok F hS3530.inv q2983 q2985 hx3559
              have hS3564 := St.call (A := []) (B := [.blk b3526 [.int .i64 a1.Kind, .int .i64 a1.From, .int .i64 a1.To, .int .i64 a1.Up, v2986, .bool a1.Key], .blk b3521 [.int .i64 a0.Kind, .int .i64 a0.From, .int .i64 a0.To, .int .i64 a0.Up, v2984, .bool a0.Key]]) hS3530 hSc3563
              replace hS3564 : St _ _ _ _ _ _ [.blk b3526 [.int .i64 a1.Kind, .int .i64 a1.From, .int .i64 a1.To, .int .i64 a1.Up, v2986, .bool a1.Key], .blk b3521 [.int .i64 a0.Kind, .int .i64 a0.From, .int .i64 a0.To, .int .i64 a0.Up, v2984, .bool a0.Key]] := hS3564
              refine r_step rfl rfl (o_call hcl3562 rfl rfl rfl) ?_
              refine r_run 2 (l' := [(4, .bool r3558), (64, .bool r3558), (63, .bool r3558), (62, v2986), (61, .pointer (some ⟨b3526, 4, none⟩)), (60, v2984), (59, .pointer (some ⟨b3521, 4, none⟩)), (58, .bool true), (57, .bool true), (56, .bool true), (55, .bool true), (53, .bool true), (55, .bool a1.Key), (54, .pointer (some ⟨b3526, 5, none⟩)), (53, .bool a0.Key), (52, .pointer (some ⟨b3521, 5, none⟩)), (51, .bool true), (50, .bool true), (49, .bool true), (48, .int .i64 a1.Up), (47, .pointer (some ⟨b3526, 3, none⟩)), (46, .int .i64 a0.Up), (45, .pointer (some ⟨b3521, 3, none⟩)), (44, .bool true), (43, .bool true), (42, .bool true), (41, .int .i64 a1.To), (40, .pointer (some ⟨b3526, 2, none⟩)), (39, .int .i64 a0.To), (38, .pointer (some ⟨b3521, 2, none⟩)), (37, .bool true), (36, .bool true), (35, .bool true), (34, .int .i64 a1.From), (33, .pointer (some ⟨b3526, 1, none⟩)), (32, .int .i64 a0.From), (31, .pointer (some ⟨b3521, 1, none⟩)), (30, .bool true), (29, .bool true), (28, .bool true), (27, .int .i64 a1.Kind), (26, .pointer (some ⟨b3526, 0, none⟩)), (25, .int .i64 a0.Kind), (24, .pointer (some ⟨b3521, 0, none⟩)), (23, .bool true), (22, .bool true), (21, .bool true), (20, .bool true), (19, .bool true), (8, .bool true), (7, .pointer (some ⟨b3526, 0, none⟩)), (6, .bool true), (5, .pointer (some ⟨b3521, 0, none⟩))]) (by kernel_rfl) ?_
              refine r_forget [4] (l' := [(4, .bool r3558)]) (by kernel_rfl) ?_
              refine r_end rfl ?_
              refine W_ret (by kernel_rfl) ?_
              refine ⟨rfl, ?_⟩
              obtain rfl := Option.some.inj hm
              refine ⟨_, _, _, ResL.tmp rfl (ResL.nil), hS3564, ?_⟩
              exact rfl
            · refine r_setb (t := 55) rfl (Bool.eq_false_iff.2 hp3557) ?_
              refine r_step rfl rfl (o_cmp (w := false) rfl rfl (by kernel_rfl)) ?_
              refine r_run 9 (l' := [(4, .bool false), (64, .bool false), (63, undef), (62, undef), (61, undef), (60, undef), (59, undef), (58, .bool false), (57, .bool false), (56, .bool false), (55, .bool false), (53, .bool true), (55, .bool a1.Key), (54, .pointer (some ⟨b3526, 5, none⟩)), (53, .bool a0.Key), (52, .pointer (some ⟨b3521, 5, none⟩)), (51, .bool true), (50, .bool true), (49, .bool true), (48, .int .i64 a1.Up), (47, .pointer (some ⟨b3526, 3, none⟩)), (46, .int .i64 a0.Up), (45, .pointer (some ⟨b3521, 3, none⟩)), (44, .bool true), (43, .bool true), (42, .bool true), (41, .int .i64 a1.To), (40, .pointer (some ⟨b3526, 2, none⟩)), (39, .int .i64 a0.To), (38, .pointer (some ⟨b3521, 2, none⟩)), (37, .bool true), (36, .bool true), (35, .bool true), (34, .int .i64 a1.From), (33, .pointer (some ⟨b3526, 1, none⟩)), (32, .int .i64 a0.From), (31, .pointer (some ⟨b3521, 1, none⟩)), (30, .bool true), (29, .bool true), (28, .bool true), (27, .int .i64 a1.Kind), (26, .pointer (some ⟨b3526, 0, none⟩)), (25, .int .i64 a0.Kind), (24, .pointer (some ⟨b3521, 0, none⟩)), (23, .bool true), (22, .bool true), (21, .bool true), (20, .bool true), (19, .bool true), (8, .bool true), (7, .pointer (some ⟨b3526, 0, none⟩)), (6, .bool true), (5, .pointer (some ⟨b3521, 0, none⟩))]) (by kernel_rfl) ?_
              refine r_forget [4] (l' := [(4, .bool false)]) (by kernel_rfl) ?_
              refine r_end rfl ?_
              refine W_ret (by kernel_rfl) ?_
              refine ⟨rfl, ?_⟩
              obtain rfl := Option.some.inj hm
              refine ⟨_, _, _, ResL.tmp rfl (ResL.nil), hS3530, ?_⟩
              exact rfl
          · refine r_setb (t := 53) rfl (Bool.eq_false_iff.2 hp3556) ?_
            rcases ifs hm with ⟨hp3565, hm⟩ | ⟨hp3565, hm⟩
            · refine r_setb (t := 55) rfl hp3565 ?_
              refine r_step rfl rfl (o_cmp (w := false) rfl rfl (by kernel_rfl)) ?_
              refine r_run 9 (l' := [(4, .bool false), (64, .bool false), (63, undef), (62, undef), (61, undef), (60, undef), (59, undef), (58, .bool false), (57, .bool false), (56, .bool false), (55, .bool true), (53, .bool false), (55, .bool a1.Key), (54, .pointer (some ⟨b3526, 5, none⟩)), (53, .bool a0.Key), (52, .pointer (some ⟨b3521, 5, none⟩)), (51, .bool true), (50, .bool true), (49, .bool true), (48, .int .i64 a1.Up), (47, .pointer (some ⟨b3526, 3, none⟩)), (46, .int .i64 a0.Up), (45, .pointer (some ⟨b3521, 3, none⟩)), (44, .bool true), (43, .bool true), (42, .bool true), (41, .int .i64 a1.To), (40, .pointer (some ⟨b3526, 2, none⟩)), (39, .int .i64 a0.To), (38, .pointer (some ⟨b3521, 2, none⟩)), (37, .bool true), (36, .bool true), (35, .bool true), (34, .int .i64 a1.From), (33, .pointer (some ⟨b3526, 1, none⟩)), (32, .int .i64 a0.From), (31, .pointer (some ⟨b3521, 1, none⟩)), (30, .bool true), (29, .bool true), (28, .bool true), (27, .int .i64 a1.Kind), (26, .pointer (some ⟨b3526, 0, none⟩)), (25, .int .i64 a0.Kind), (24, .pointer (some ⟨b3521, 0, none⟩)), (23, .bool true), (22, .bool true), (21, .bool true), (20, .bool true), (19, .bool true), (8, .bool true), (7, .pointer (some ⟨b3526, 0, none⟩)), (6, .bool true), (5, .pointer (some ⟨b3521, 0, none⟩))]) (by kernel_rfl) ?_
              refine r_forget [4] (l' := [(4, .bool false)]) (by kernel_rfl) ?_
              refine r_end rfl ?_
              refine W_ret (by kernel_rfl) ?_
              refine ⟨rfl, ?_⟩
              obtain rfl := Option.some.inj hm
              refine ⟨_, _, _, ResL.tmp rfl (ResL.nil), hS3530, ?_⟩
              exact rfl
            · refine r_setb (t := 55) rfl (Bool.eq_false_iff.2 hp3565) ?_
              refine r_step rfl rfl (o_cmp (w := true) rfl rfl (by kernel_rfl)) ?_
              refine r_run 3 (l' := [(59, .pointer (some ⟨b3521, 4, none⟩)), (58, .bool true), (57, .bool true), (56, .bool true), (55, .bool false), (53, .bool false), (55, .bool a1.Key), (54, .pointer (some ⟨b3526, 5, none⟩)), (53, .bool a0.Key), (52, .pointer (some ⟨b3521, 5, none⟩)), (51, .bool true), (50, .bool true), (49, .bool true), (48, .int .i64 a1.Up), (47, .pointer (some ⟨b3526, 3, none⟩)), (46, .int .i64 a0.Up), (45, .pointer (some ⟨b3521, 3, none⟩)), (44, .bool true), (43, .bool true), (42, .bool true), (41, .int .i64 a1.To), (40, .pointer (some ⟨b3526, 2, none⟩)), (39, .int .i64 a0.To), (38, .pointer (some ⟨b3521, 2, none⟩)), (37, .bool true), (36, .bool true), (35, .bool true), (34, .int .i64 a1.From), (33, .pointer (some ⟨b3526, 1, none⟩)), (32, .int .i64 a0.From), (31, .pointer (some ⟨b3521, 1, none⟩)), (30, .bool true), (29, .bool true), (28, .bool true), (27, .int .i64 a1.Kind), (26, .pointer (some ⟨b3526, 0, none⟩)), (25, .int .i64 a0.Kind), (24, .pointer (some ⟨b3521, 0, none⟩)), (23, .bool true), (22, .bool true), (21, .bool true), (20, .bool true), (19, .bool true), (8, .bool true), (7, .pointer (some ⟨b3526, 0, none⟩)), (6, .bool true), (5, .pointer (some ⟨b3521, 0, none⟩))]) (by kernel_rfl) ?_
              refine r_step rfl rfl (o_ldb (v := v2984) hS3530 (i := 1) rfl rfl (by kernel_rfl)) ?_
              refine r_run 1 (l' := [(61, .pointer (some ⟨b3526, 4, none⟩)), (60, v2984), (59, .pointer (some ⟨b3521, 4, none⟩)), (58, .bool true), (57, .bool true), (56, .bool true), (55, .bool false), (53, .bool false), (55, .bool a1.Key), (54, .pointer (some ⟨b3526, 5, none⟩)), (53, .bool a0.Key), (52, .pointer (some ⟨b3521, 5, none⟩)), (51, .bool true), (50, .bool true), (49, .bool true), (48, .int .i64 a1.Up), (47, .pointer (some ⟨b3526, 3, none⟩)), (46, .int .i64 a0.Up), (45, .pointer (some ⟨b3521, 3, none⟩)), (44, .bool true), (43, .bool true), (42, .bool true), (41, .int .i64 a1.To), (40, .pointer (some ⟨b3526, 2, none⟩)), (39, .int .i64 a0.To), (38, .pointer (some ⟨b3521, 2, none⟩)), (37, .bool true), (36, .bool true), (35, .bool true), (34, .int .i64 a1.From), (33, .pointer (some ⟨b3526, 1, none⟩)), (32, .int .i64 a0.From), (31, .pointer (some ⟨b3521, 1, none⟩)), (30, .bool true), (29, .bool true), (28, .bool true), (27, .int .i64 a1.Kind), (26, .pointer (some ⟨b3526, 0, none⟩)), (25, .int .i64 a0.Kind), (24, .pointer (some ⟨b3521, 0, none⟩)), (23, .bool true), (22, .bool true), (21, .bool true), (20, .bool true), (19, .bool true), (8, .bool true), (7, .pointer (some ⟨b3526, 0, none⟩)), (6, .bool true), (5, .pointer (some ⟨b3521, 0, none⟩))]) (by kernel_rfl) ?_
              refine r_step rfl rfl (o_ldb (v := v2986) hS3530 (i := 0) rfl rfl (by kernel_rfl)) ?_
              obtain ⟨r3566, hx3567, hm⟩ := obind hm
              obtain ⟨v3568, h3569, hcl3570, hSc3571, rfl⟩ := slices_Equal_int_ok F hS3530.inv q2983 q2985 hx3567
              have hS3572 := St.call (A := []) (B := [.blk b3526 [.int .i64 a1.Kind, .int .i64 a1.From, .int .i64 a1.To, .int .i64 a1.Up, v2986, .bool a1.Key], .blk b3521 [.int .i64 a0.Kind, .int .i64 a0.From, .int .i64 a0.To, .int .i64 a0.Up, v2984, .bool a0.Key]]) hS3530 hSc3571
              replace hS3572 : St _ _ _ _ _ _ [.blk b3526 [.int .i64 a1.Kind, .int .i64 a1.From, .int .i64 a1.To, .int .i64 a1.Up, v2986, .bool a1.Key], .blk b3521 [.int .i64 a0.Kind, .int .i64 a0.From, .int .i64 a0.To, .int .i64 a0.Up, v2984, .bool a0.Key]] := hS3572
              refine r_step rfl rfl (o_call hcl3570 rfl rfl rfl) ?_
              refine r_run 2 (l' := [(4, .bool r3566), (64, .bool r3566), (63, .bool r3566), (62, v2986), (61, .pointer (some ⟨b3526, 4, none⟩)), (60, v2984), (59, .pointer (some ⟨b3521, 4, none⟩)), (58, .bool true), (57, .bool true), (56, .bool true), (55, .bool false), (53, .bool false), (55, .bool a1.Key), (54, .pointer (some ⟨b3526, 5, none⟩)), (53, .bool a0.Key), (52, .pointer (some ⟨b3521, 5, none⟩)), (51, .bool true), (50, .bool true), (49, .bool true), (48, .int .i64 a1.Up), (47, .pointer (some ⟨b3526, 3, none⟩)), (46, .int .i64 a0.Up), (45, .pointer (some ⟨b3521, 3, none⟩)), (44, .bool true), (43, .bool true), (42, .bool true), (41, .int .i64 a1.To), (40, .pointer (some ⟨b3526, 2, none⟩)), (39, .int .i64 a0.To), (38, .pointer (some ⟨b3521, 2, none⟩)), (37, .bool true), (36, .bool true), (35, .bool true), (34, .int .i64 a1.From), (33, .pointer (some ⟨b3526, 1, none⟩)), (32, .int .i64 a0.From), (31, .pointer (some ⟨b3521, 1, none⟩)), (30, .bool true), (29, .bool true), (28, .bool true), (27, .int .i64 a1.Kind), (26, .pointer (some ⟨b3526, 0, none⟩)), (25, .int .i64 a0.Kind), (24, .pointer (some ⟨b3521, 0, none⟩)), (23, .bool true), (22, .bool true), (21, .bool true), (20, .bool true), (19, .bool true), (8, .bool true), (7, .pointer (some ⟨b3526, 0, none⟩)), (6, .bool true), (5, .pointer (some ⟨b3521, 0, none⟩))]) (by kernel_rfl) ?_
              refine r_forget [4] (l' := [(4, .bool r3566)]) (by kernel_rfl) ?_
              refine r_end rfl ?_
              refine W_ret (by kernel_rfl) ?_
              refine ⟨rfl, ?_⟩
              obtain rfl := Option.some.inj hm
              refine ⟨_, _, _, ResL.tmp rfl (ResL.nil), hS3572, ?_⟩
              exact rfl
        · refine r_step rfl rfl (o_cmp rfl rfl (c_eql_F hp3555)) ?_
          refine r_run 16 (l' := [(4, .bool false), (64, .bool false), (63, undef), (62, undef), (61, undef), (60, undef), (59, undef), (58, .bool false), (57, .bool false), (56, undef), (55, undef), (54, undef), (53, undef), (52, undef), (51, .bool false), (50, .bool false), (49, .bool false), (48, .int .i64 a1.Up), (47, .pointer (some ⟨b3526, 3, none⟩)), (46, .int .i64 a0.Up), (45, .pointer (some ⟨b3521, 3, none⟩)), (44, .bool true), (43, .bool true), (42, .bool true), (41, .int .i64 a1.To), (40, .pointer (some ⟨b3526, 2, none⟩)), (39, .int .i64 a0.To), (38, .pointer (some ⟨b3521, 2, none⟩)), (37, .bool true), (36, .bool true), (35, .bool true), (34, .int .i64 a1.From), (33, .pointer (some ⟨b3526, 1, none⟩)), (32, .int .i64 a0.From), (31, .pointer (some ⟨b3521, 1, none⟩)), (30, .bool true), (29, .bool true), (28, .bool true), (27, .int .i64 a1.Kind), (26, .pointer (some ⟨b3526, 0, none⟩)), (25, .int .i64 a0.Kind), (24, .pointer (some ⟨b3521, 0, none⟩)), (23, .bool true), (22, .bool true), (21, .bool true), (20, .bool true), (19, .bool true), (8, .bool true), (7, .pointer (some ⟨b3526, 0, none⟩)), (6, .bool true), (5, .pointer (some ⟨b3521, 0, none⟩))]) (by kernel_rfl) ?_
          refine r_forget [4] (l' := [(4, .bool false)]) (by kernel_rfl) ?_
          refine r_end rfl ?_
          refine W_ret (by kernel_rfl) ?_
          refine ⟨rfl, ?_⟩
          obtain rfl := Option.some.inj hm
          refine ⟨_, _, _, ResL.tmp rfl (ResL.nil), hS3530, ?_⟩
          exact rfl
      · refine r_step rfl rfl (o_cmp rfl rfl (c_eql_F hp3554)) ?_
        refine r_run 23 (l' := [(4, .bool false), (64, .bool false), (63, undef), (62, undef), (61, undef), (60, undef), (59, undef), (58, .bool false), (57, .bool false), (56, undef), (55, undef), (54, undef), (53, undef), (52, undef), (51, .bool false), (50, .bool false), (49, undef), (48, undef), (47, undef), (46, undef), (45, undef), (44, .bool false), (43, .bool false), (42, .bool false), (41, .int .i64 a1.To), (40, .pointer (some ⟨b3526, 2, none⟩)), (39, .int .i64 a0.To), (38, .pointer (some ⟨b3521, 2, none⟩)), (37, .bool true), (36, .bool true), (35, .bool true), (34, .int .i64 a1.From), (33, .pointer (some ⟨b3526, 1, none⟩)), (32, .int .i64 a0.From), (31, .pointer (some ⟨b3521, 1, none⟩)), (30, .bool true), (29, .bool true), (28, .bool true), (27, .int .i64 a1.Kind), (26, .pointer (some ⟨b3526, 0, none⟩)), (25, .int .i64 a0.Kind), (24, .pointer (some ⟨b3521, 0, none⟩)), (23, .bool true), (22, .bool true), (21, .bool true), (20, .bool true), (19, .bool true), (8, .bool true), (7, .pointer (some ⟨b3526, 0, none⟩)), (6, .bool true), (5, .pointer (some ⟨b3521, 0, none⟩))]) (by kernel_rfl) ?_
        refine r_forget [4] (l' := [(4, .bool false)]) (by kernel_rfl) ?_
        refine r_end rfl ?_
        refine W_ret (by kernel_rfl) ?_
        refine ⟨rfl, ?_⟩
        obtain rfl := Option.some.inj hm
        refine ⟨_, _, _, ResL.tmp rfl (ResL.nil), hS3530, ?_⟩
        exact rfl
    · refine r_step rfl rfl (o_cmp rfl rfl (c_eql_F hp3553)) ?_
      refine r_run 30 (l' := [(4, .bool false), (64, .bool false), (63, undef), (62, undef), (61, undef), (60, undef), (59, undef), (58, .bool false), (57, .bool false), (56, undef), (55, undef), (54, undef), (53, undef), (52, undef), (51, .bool false), (50, .bool false), (49, undef), (48, undef), (47, undef), (46, undef), (45, undef), (44, .bool false), (43, .bool false), (42, undef), (41, undef), (40, undef), (39, undef), (38, undef), (37, .bool false), (36, .bool false), (35, .bool false), (34, .int .i64 a1.From), (33, .pointer (some ⟨b3526, 1, none⟩)), (32, .int .i64 a0.From), (31, .pointer (some ⟨b3521, 1, none⟩)), (30, .bool true), (29, .bool true), (28, .bool true), (27, .int .i64 a1.Kind), (26, .pointer (some ⟨b3526, 0, none⟩)), (25, .int .i64 a0.Kind), (24, .pointer (some ⟨b3521, 0, none⟩)), (23, .bool true), (22, .bool true), (21, .bool true), (20, .bool true), (19, .bool true), (8, .bool true), (7, .pointer (some ⟨b3526, 0, none⟩)), (6, .bool true), (5, .pointer (some ⟨b3521, 0, none⟩))]) (by kernel_rfl) ?_
      refine r_forget [4] (l' := [(4, .bool false)]) (by kernel_rfl) ?_
      refine r_end rfl ?_
      refine W_ret (by kernel_rfl) ?_
      refine ⟨rfl, ?_⟩
      obtain rfl := Option.some.inj hm
      refine ⟨_, _, _, ResL.tmp rfl (ResL.nil), hS3530, ?_⟩
      exact rfl
  · refine r_step rfl rfl (o_cmp rfl rfl (c_eql_F hp3552)) ?_
    refine r_run 37 (l' := [(4, .bool false), (64, .bool false), (63, undef), (62, undef), (61, undef), (60, undef), (59, undef), (58, .bool false), (57, .bool false), (56, undef), (55, undef), (54, undef), (53, undef), (52, undef), (51, .bool false), (50, .bool false), (49, undef), (48, undef), (47, undef), (46, undef), (45, undef), (44, .bool false), (43, .bool false), (42, undef), (41, undef), (40, undef), (39, undef), (38, undef), (37, .bool false), (36, .bool false), (35, undef), (34, undef), (33, undef), (32, undef), (31, undef), (30, .bool false), (29, .bool false), (28, .bool false), (27, .int .i64 a1.Kind), (26, .pointer (some ⟨b3526, 0, none⟩)), (25, .int .i64 a0.Kind), (24, .pointer (some ⟨b3521, 0, none⟩)), (23, .bool true), (22, .bool true), (21, .bool true), (20, .bool true), (19, .bool true), (8, .bool true), (7, .pointer (some ⟨b3526, 0, none⟩)), (6, .bool true), (5, .pointer (some ⟨b3521, 0, none⟩))]) (by kernel_rfl) ?_
    refine r_forget [4] (l' := [(4, .bool false)]) (by kernel_rfl) ?_
    refine r_end rfl ?_
    refine W_ret (by kernel_rfl) ?_
    refine ⟨rfl, ?_⟩
    obtain rfl := Option.some.inj hm
    refine ⟨_, _, _, ResL.tmp rfl (ResL.nil), hS3530, ?_⟩
    exact rfl

def r30_0 : List COp := [⟨none, some 2, (Go.Op.box 46 (Go.Operand.tmp 0))⟩,
  ⟨none, some 3, (Go.Op.box 46 (Go.Operand.tmp 1))⟩,
  ⟨none, some 4, (Go.Op.assign (Go.Operand.const (Go.Value.bool false)))⟩]
def r30_1 : List COp := [⟨none, some 5, (Go.Op.load 46 (Go.Operand.tmp 2))⟩,
  ⟨none, some 6, (Go.Op.makeInterface 46 (Go.Operand.tmp 5))⟩,
  ⟨none, some 7, (Go.Op.load 46 (Go.Operand.tmp 3))⟩,
  ⟨none, some 8, (Go.Op.makeInterface 46 (Go.Operand.tmp 7))⟩,
  ⟨none, some 9, (Go.Op.call { callee := (Go.Callee.value (Go.Operand.func 31)), args := #[(Go.Operand.tmp 6), (Go.Operand.tmp 8)], argTypes := #[20, 20] })⟩,
  ⟨none, some 4, (Go.Op.assign (Go.Operand.tmp 9))⟩]
def arena_Same_1 (F : Nat) (a0 : api_Node) (a1 : api_Node) : Option Bool :=
  (arena_alike F a0 a1).bind fun r3586 =>
  some r3586
theorem arena_Same_1_ok (F : Nat) {h : AH} {Z : Zn} {a0 : api_Node} {a1 : api_Node} {v2974 : Value} {v2976 : Value} (hI : Inv Z h) (q2973 : RS (α := Int) Z v2974 a0.Kids) (q2975 : RS (α := Int) Z v2976 a1.Kids) {r : Bool} (hm : arena_Same_1 F a0 a1 = some r) :
    ∃ v h', callI Go.Proofs.Try.prog 30 [.agg #[.int .i64 a0.Kind, .int .i64 a0.From, .int .i64 a0.To, .int .i64 a0.Up, v2974, .bool a0.Key], .agg #[.int .i64 a1.Kind, .int .i64 a1.From, .int .i64 a1.To, .int .i64 a1.Up, v2976, .bool a1.Key]] h = some (v, h') ∧ St h [] Z (0, 0) Z h' [] ∧ v = .bool r := by
  refine fn_plain (Q := fun v => v = .bool r) Go.Proofs.Try.func30 rfl rfl hI ?_
  intro hs hS
  unfold arena_Same_1 at hm
  refine W_seq (by kernel_rfl) ?_
  refine W_region (R := r30_0) (by kernel_rfl) ?_
  refine r_blk rfl trivial (o_box (cs := [.int .i64 a0.Kind, .int .i64 a0.From, .int .i64 a0.To, .int .i64 a0.Up, v2974, .bool a0.Key]) rfl rfl) hS ?_
  intro b3580 h3581 hS3582
  refine r_blk rfl trivial (o_box (cs := [.int .i64 a1.Kind, .int .i64 a1.From, .int .i64 a1.To, .int .i64 a1.Up, v2976, .bool a1.Key]) rfl rfl) hS3582 ?_
  intro b3583 h3584 hS3585
  refine r_run 1 (l' := [(4, .bool false), (3, .pointer (some ⟨b3583, 0, none⟩)), (2, .pointer (some ⟨b3580, 0, none⟩)), (0, .agg #[.int .i64 a0.Kind, .int .i64 a0.From, .int .i64 a0.To, .int .i64 a0.Up, v2974, .bool a0.Key]), (1, .agg #[.int .i64 a1.Kind, .int .i64 a1.From, .int .i64 a1.To, .int .i64 a1.Up, v2976, .bool a1.Key])]) (by kernel_rfl) ?_
  refine r_forget [3, 2] (l' := [(3, .pointer (some ⟨b3583, 0, none⟩)), (2, .pointer (some ⟨b3580, 0, none⟩))]) (by kernel_rfl) ?_
  refine r_end rfl ?_
  refine W_seq (by kernel_rfl) ?_
  refine W_region (R := r30_1) (by kernel_rfl) ?_
  refine r_step rfl trivial (o_ldb (v := .agg #[.int .i64 a0.Kind, .int .i64 a0.From, .int .i64 a0.To, .int .i64 a0.Up, v2974, .bool a0.Key]) hS3585 (i := 1) rfl rfl (by kernel_rfl)) ?_
  refine r_run 1 (l' := [(6, .iface 46 (.agg #[.int .i64 a0.Kind, .int .i64 a0.From, .int .i64 a0.To, .int .i64 a0.Up, v2974, .bool a0.Key])), (5, .agg #[.int .i64 a0.Kind, .int .i64 a0.From, .int .i64 a0.To, .int .i64 a0.Up, v2974, .bool a0.Key]), (3, .pointer (some ⟨b3583, 0, none⟩)), (2, .pointer (some ⟨b3580, 0, none⟩))]) (by kernel_rfl) ?_
  refine r_step rfl trivial (o_ldb (v := .agg #[.int .i64 a1.Kind, .int .i64 a1.From, .int .i64 a1.To, .int .i64 a1.Up, v2976, .bool a1.Key]) hS3585 (i := 0) rfl rfl (by kernel_rfl)) ?_
  refine r_run 1 (l' := [(8, .iface 46 (.agg #[.int .i64 a1.Kind, .int .i64 a1.From, .int .i64 a1.To, .int .i64 a1.Up, v2976, .bool a1.Key])), (7, .agg #[.int .i64 a1.Kind, .int .i64 a1.From, .int .i64 a1.To, .int .i64 a1.Up, v2976, .bool a1.Key]), (6, .iface 46 (.agg #[.int .i64 a0.Kind, .int .i64 a0.From, .int .i64 a0.To, .int .i64 a0.Up, v2974, .bool a0.Key])), (5, .agg #[.int .i64 a0.Kind, .int .i64 a0.From, .int .i64 a0.To, .int .i64 a0.Up, v2974, .bool a0.Key]), (3, .pointer (some ⟨b3583, 0, none⟩)), (2, .pointer (some ⟨b3580, 0, none⟩))]) (by kernel_rfl) ?_
  obtain ⟨r3586, hx3587, hm⟩ := obind hm
  obtain ⟨v3588, h3589, hcl3590, hSc3591, rfl⟩ := arena_alike_ok F hS3585.inv q2973 q2975 hx3587
  have hS3592 := St.call (A := []) (B := [.blk b3583 [.int .i64 a1.Kind, .int .i64 a1.From, .int .i64 a1.To, .int .i64 a1.Up, v2976, .bool a1.Key], .blk b3580 [.int .i64 a0.Kind, .int .i64 a0.From, .int .i64 a0.To, .int .i64 a0.Up, v2974, .bool a0.Key]]) hS3585 hSc3591
  replace hS3592 : St _ _ _ _ _ _ [.blk b3583 [.int .i64 a1.Kind, .int .i64 a1.From, .int .i64 a1.To, .int .i64 a1.Up, v2976, .bool a1.Key], .blk b3580 [.int .i64 a0.Kind, .int .i64 a0.From, .int .i64 a0.To, .int .i64 a0.Up, v2974, .bool a0.Key]] := hS3592
  refine r_step rfl trivial (o_call hcl3590 rfl rfl rfl) ?_
  refine r_run 1 (l' := [(4, .bool r3586), (9, .bool r3586), (8, .iface 46 (.agg #[.int .i64 a1.Kind, .int .i64 a1.From, .int .i64 a1.To, .int .i64 a1.Up, v2976, .bool a1.Key])), (7, .agg #[.int .i64 a1.Kind, .int .i64 a1.From, .int .i64 a1.To, .int .i64 a1.Up, v2976, .bool a1.Key]), (6, .iface 46 (.agg #[.int .i64 a0.Kind, .int .i64 a0.From, .int .i64 a0.To, .int .i64 a0.Up, v2974, .bool a0.Key])), (5, .agg #[.int .i64 a0.Kind, .int .i64 a0.From, .int .i64 a0.To, .int .i64 a0.Up, v2974, .bool a0.Key]), (3, .pointer (some ⟨b3583, 0, none⟩)), (2, .pointer (some ⟨b3580, 0, none⟩))]) (by kernel_rfl) ?_
  refine r_forget [4] (l' := [(4, .bool r3586)]) (by kernel_rfl) ?_
  refine r_end rfl ?_
  refine W_ret (by kernel_rfl) ?_
  refine ⟨rfl, ?_⟩
  obtain rfl := Option.some.inj hm
  refine ⟨_, _, _, ResL.tmp rfl (ResL.nil), hS3592, ?_⟩
  exact rfl

def r29_0 : List COp := [⟨none, some 6, (Go.Op.assign (Go.Operand.const (Go.Value.bool false)))⟩]
def r29_1 : List COp := [⟨none, some 10, (Go.Op.move (Go.Operand.tmp 0))⟩,
  ⟨none, some 11, (Go.Op.call { callee := (Go.Callee.builtin Go.Builtin.len), args := #[(Go.Operand.tmp 10)], argTypes := #[25] })⟩,
  ⟨none, some 12, (Go.Op.move (Go.Operand.tmp 1))⟩,
  ⟨none, some 13, (Go.Op.call { callee := (Go.Callee.builtin Go.Builtin.len), args := #[(Go.Operand.tmp 12)], argTypes := #[25] })⟩,
  ⟨none, some 14, (Go.Op.binOp Go.BinOp.neq 3 (Go.Operand.tmp 11) (Go.Operand.tmp 13) 3)⟩]
def r29_2 : List COp := [⟨none, some 6, (Go.Op.assign (Go.Operand.const (Go.Value.bool false)))⟩]
def r29_3 : List COp := [⟨none, some 15, (Go.Op.move (Go.Operand.tmp 0))⟩,
  ⟨none, some 16, (Go.Op.call { callee := (Go.Callee.builtin Go.Builtin.len), args := #[(Go.Operand.tmp 15)], argTypes := #[25] })⟩,
  ⟨none, some 17, (Go.Op.move (Go.Operand.const (Go.Value.int Go.IntKind.i64 0)))⟩]
def r29_4 : List COp := [⟨none, some 18, (Go.Op.binOp Go.BinOp.lss 3 (Go.Operand.tmp 17) (Go.Operand.tmp 16) 3)⟩]
def r29_5 : List COp := [⟨none, some 19, (Go.Op.move (Go.Operand.tmp 17))⟩,
  ⟨none, some 20, (Go.Op.indexAddr 25 (Go.Operand.tmp 15) (Go.Operand.tmp 17))⟩,
  ⟨none, some 21, (Go.Op.load 46 (Go.Operand.tmp 20))⟩,
  ⟨none, some 8, (Go.Op.alloc 46)⟩,
  ⟨none, some 7, (Go.Op.assign (Go.Operand.tmp 19))⟩,
  ⟨none, none, (Go.Op.store 46 (Go.Operand.tmp 8) (Go.Operand.tmp 21))⟩]
def r29_6 : List COp := [⟨none, some 22, (Go.Op.move (Go.Operand.tmp 1))⟩,
  ⟨none, some 23, (Go.Op.move (Go.Operand.tmp 7))⟩,
  ⟨none, some 24, (Go.Op.indexAddr 25 (Go.Operand.tmp 22) (Go.Operand.tmp 23))⟩,
  ⟨none, some 25, (Go.Op.load 46 (Go.Operand.tmp 24))⟩,
  ⟨none, some 9, (Go.Op.alloc 46)⟩,
  ⟨none, none, (Go.Op.store 46 (Go.Operand.tmp 9) (Go.Operand.tmp 25))⟩]
def r29_7 : List COp := [⟨none, some 26, (Go.Op.move (Go.Operand.tmp 2))⟩,
  ⟨none, some 27, (Go.Op.load 46 (Go.Operand.tmp 8))⟩,
  ⟨none, some 28, (Go.Op.load 46 (Go.Operand.tmp 9))⟩,
  ⟨none, some 29, (Go.Op.call { callee := (Go.Callee.value (Go.Operand.tmp 26)), args := #[(Go.Operand.tmp 27), (Go.Operand.tmp 28)], argTypes := #[46, 46] })⟩,
  ⟨none, some 30, (Go.Op.unOp Go.UnOp.not 4 (Go.Operand.tmp 29))⟩]
def r29_8 : List COp := [⟨none, some 6, (Go.Op.assign (Go.Operand.const (Go.Value.bool false)))⟩]
def r29_9 : List COp := [⟨none, some 31, (Go.Op.binOp Go.BinOp.add 3 (Go.Operand.tmp 17) (Go.Operand.const (Go.Value.int Go.IntKind.i64 1)) 3)⟩,
  ⟨none, some 17, (Go.Op.move (Go.Operand.tmp 31))⟩]
def r29_10 : List COp := [⟨none, some 6, (Go.Op.assign (Go.Operand.const (Go.Value.bool true)))⟩]
def slices_EqualFunc_api_Node_l0 (F : Nat) (a0 : List api_Node) (a1 : List api_Node) : Nat → Int → Int → Option (Sum Unit Bool)
  | 0, _, _ => none
  | n + 1, x3954, x3955 =>
    if x3955 < x3954 then
      if 0 ≤ x3955 ∧ x3955 < (a0.length : Int) then
        (a0[x3955.toNat]?).bind fun x4006 =>
        if 0 ≤ x3955 ∧ x3955 < (a1.length : Int) then
          (a1[x3955.toNat]?).bind fun x4020 =>
          (arena_Same_1 F x4006 x4020).bind fun r4041 =>
          if r4041 = true then
            slices_EqualFunc_api_Node_l0 F a0 a1 n x3954 (w64 (x3955 + 1))
          else
            some (.inr false)
        else none
      else none
    else
      some (.inl ())
def slices_EqualFunc_api_Node (F : Nat) (a0 : List api_Node) (a1 : List api_Node) : Option Bool :=
  if (a0.length : Int) = (a1.length : Int) then
    ((slices_EqualFunc_api_Node_l0 F a0 a1 F (a0.length : Int) 0) : Option (Sum Unit Bool)).bind fun o => match o with
      | .inl () => some true
      | .inr y => some y
  else
    some false
theorem slices_EqualFunc_api_Node_ok (F : Nat) {h : AH} {Z : Zn} {a0 : List api_Node} {a1 : List api_Node} {v2931 : Value} {v2933 : Value} (hI : Inv Z h) (q2930 : RS (α := api_Node) Z v2931 a0) (q2932 : RS (α := api_Node) Z v2933 a1) {r : Bool} (hm : slices_EqualFunc_api_Node F a0 a1 = some r) :
    ∃ v h', callI Go.Proofs.Try.prog 29 [v2931, v2933, .func (.func 30) #[] #[]] h = some (v, h') ∧ St h [] Z (0, 0) Z h' [] ∧ v = .bool r := by
  refine fn_plain (Q := fun v => v = .bool r) Go.Proofs.Try.func29 rfl rfl hI ?_
  intro hs hS
  unfold slices_EqualFunc_api_Node at hm
  refine W_seq (by kernel_rfl) ?_
  refine W_region (R := r29_0) (by kernel_rfl) ?_
  refine r_run 1 (l' := [(6, .bool false), (0, v2931), (1, v2933), (2, .func (.func 30) #[] #[])]) (by kernel_rfl) ?_
  refine r_forget [0, 1, 2] (l' := [(0, v2931), (1, v2933), (2, .func (.func 30) #[] #[])]) (by kernel_rfl) ?_
  refine r_end rfl ?_
  refine W_seq (by kernel_rfl) ?_
  refine W_seq (by kernel_rfl) ?_
  refine W_region (R := r29_1) (by kernel_rfl) ?_
  refine r_run 1 (l' := [(10, v2931), (0, v2931), (1, v2933), (2, .func (.func 30) #[] #[])]) (by kernel_rfl) ?_
  refine r_step rfl trivial (o_len rfl (RS.len q2930) ⟨_, Go.Proofs.Try.underlying25⟩) ?_
  refine r_run 1 (l' := [(12, v2933), (11, .int .i64 (a0.length : Int)), (10, v2931), (0, v2931), (1, v2933), (2, .func (.func 30) #[] #[])]) (by kernel_rfl) ?_
  refine r_step rfl trivial (o_len rfl (RS.len q2932) ⟨_, Go.Proofs.Try.underlying25⟩) ?_
  rcases ifs hm with ⟨hp3757, hm⟩ | ⟨hp3757, hm⟩
  · refine r_step rfl trivial (o_cmp rfl rfl (c_neq_F hp3757)) ?_
    refine r_forget [14, 0, 1, 2] (l' := [(14, .bool false), (0, v2931), (1, v2933), (2, .func (.func 30) #[] #[])]) (by kernel_rfl) ?_
    refine r_end rfl ?_
    refine W_condF (x := .tmp 14) (by kernel_rfl) rfl rfl ?_
    refine W_skip (by kernel_rfl) ?_
    refine W_seq (by kernel_rfl) ?_
    refine W_seq (by kernel_rfl) ?_
    refine W_region (R := r29_3) (by kernel_rfl) ?_
    refine r_run 1 (l' := [(15, v2931), (14, .bool false), (0, v2931), (1, v2933), (2, .func (.func 30) #[] #[])]) (by kernel_rfl) ?_
    refine r_step rfl trivial (o_len rfl (RS.len q2930) ⟨_, Go.Proofs.Try.underlying25⟩) ?_
    refine r_run 1 (l' := [(17, .int .i64 0), (16, .int .i64 (a0.length : Int)), (15, v2931), (14, .bool false), (0, v2931), (1, v2933), (2, .func (.func 30) #[] #[])]) (by kernel_rfl) ?_
    refine r_forget [17, 16, 15, 1, 2] (l' := [(17, .int .i64 0), (16, .int .i64 (a0.length : Int)), (15, v2931), (1, v2933), (2, .func (.func 30) #[] #[])]) (by kernel_rfl) ?_
    refine r_end rfl ?_
    obtain ⟨o3952, ho3951, hm⟩ := obind hm
    refine W_join [] (fun l h => ∃ Z4049 : Zn, .inl () = o3952 ∧ l = [] ∧ St hs [] Z (0, 0) Z4049 h []) ?_ ?_
    · rintro l h4050 ⟨Z4049, rfl, rfl, hS4051⟩
      try dsimp only at hm
      refine W_seq (by kernel_rfl) ?_
      refine W_region (R := r29_10) (by kernel_rfl) ?_
      refine r_run 1 (l' := [(6, .bool true)]) (by kernel_rfl) ?_
      refine r_forget [6] (l' := [(6, .bool true)]) (by kernel_rfl) ?_
      refine r_end rfl ?_
      refine W_ret (by kernel_rfl) ?_
      refine ⟨rfl, ?_⟩
      obtain rfl := Option.some.inj hm
      refine ⟨_, _, _, ResL.tmp rfl (ResL.nil), hS4051, ?_⟩
      exact rfl
    · refine W_block (i := 0) (by kernel_rfl) ?_
      refine W_loop [1, 2, 15, 16, 17] (fun n l h => ∃ Z3953 : Zn, ∃ x3954 : Int, ∃ x3955 : Int, slices_EqualFunc_api_Node_l0 F a0 a1 n x3954 x3955 = some o3952 ∧ l = [(1, v2933), (2, .func (.func 30) #[] #[]), (15, v2931), (16, .int .i64 x3954), (17, .int .i64 x3955)] ∧ St hs [] Z (0, 0) Z3953 h []) F (by kernel_rfl) ⟨_, (a0.length : Int), 0, ho3951, rfl, hS⟩ ?_
      rintro n3958 l h3956 ⟨Z3953, x3954, x3955, ho3951, rfl, hS3957⟩
      cases n3958 with
      | zero => cases (show none = some o3952 from ho3951)
      | succ n3958 =>
        rw [slices_EqualFunc_api_Node_l0] at ho3951
        refine W_seq (by kernel_rfl) ?_
        refine W_region (R := r29_4) (by kernel_rfl) ?_
        rcases ifs ho3951 with ⟨hp3960, ho3951⟩ | ⟨hp3960, ho3951⟩
        · refine r_step rfl trivial (o_cmp rfl rfl (c_lss_T hp3960)) ?_
          refine r_forget [18, 1, 2, 15, 16, 17] (l' := [(18, .bool true), (1, v2933), (2, .func (.func 30) #[] #[]), (15, v2931), (16, .int .i64 x3954), (17, .int .i64 x3955)]) (by kernel_rfl) ?_
          refine r_end rfl ?_
          refine W_seq (by kernel_rfl) ?_
          refine W_condT (x := .tmp 18) (by kernel_rfl) rfl rfl ?_
          refine W_skip (by kernel_rfl) ?_
          refine W_seq (by kernel_rfl) ?_
          refine W_block (i := 1) (by kernel_rfl) ?_
          refine W_seq (by kernel_rfl) ?_
          refine W_region (R := r29_5) (by kernel_rfl) ?_
          refine r_run 1 (l' := [(19, .int .i64 x3955), (18, .bool true), (1, v2933), (2, .func (.func 30) #[] #[]), (15, v2931), (16, .int .i64 x3954), (17, .int .i64 x3955)]) (by kernel_rfl) ?_
          obtain ⟨hc4005, ho3951⟩ := chk ho3951
          refine r_step rfl trivial (o_index rfl rfl (by kernel_rfl : slTy _ _ = some (csz api_Node)) (RS.based (q2930.mono hS3957.zle) (by omega)) hc4005.1 hc4005.2) ?_
          obtain ⟨x4006, hx4007, ho3951⟩ := obind ho3951
          obtain ⟨cs4008, hc4009, he4010⟩ := RS.el (q2930.mono hS3957.zle) hS3957.inv (i := x3955) hx4007
          obtain ⟨v4012, q4013, rfl⟩ := rc_api_Node hc4009
          refine r_step rfl trivial (o_lde (w := .agg #[.int .i64 x4006.Kind, .int .i64 x4006.From, .int .i64 x4006.To, .int .i64 x4006.Up, v4012, .bool x4006.Key]) he4010 rfl (by kernel_rfl)) ?_
          refine r_blk rfl trivial (o_alloc (cs := [.int .i64 0, .int .i64 0, .int .i64 0, .int .i64 0, .slice none 0 0, .bool false]) (by kernel_rfl)) hS3957 ?_
          intro b4014 h4015 hS4016
          refine r_run 1 (l' := [(7, .int .i64 x3955), (8, .pointer (some ⟨b4014, 0, none⟩)), (21, .agg #[.int .i64 x4006.Kind, .int .i64 x4006.From, .int .i64 x4006.To, .int .i64 x4006.Up, v4012, .bool x4006.Key]), (20, .pointer (some (elemA v2931 x3955 (csz api_Node) 0))), (19, .int .i64 x3955), (18, .bool true), (1, v2933), (2, .func (.func 30) #[] #[]), (15, v2931), (16, .int .i64 x3954), (17, .int .i64 x3955)]) (by kernel_rfl) ?_
          refine r_ex1 rfl trivial (o_stb (vs := [.int .i64 x4006.Kind, .int .i64 x4006.From, .int .i64 x4006.To, .int .i64 x4006.Up, v4012, .bool x4006.Key]) (cells' := [.int .i64 x4006.Kind, .int .i64 x4006.From, .int .i64 x4006.To, .int .i64 x4006.Up, v4012, .bool x4006.Key]) (L' := [.blk b4014 [.int .i64 x4006.Kind, .int .i64 x4006.From, .int .i64 x4006.To, .int .i64 x4006.Up, v4012, .bool x4006.Key]]) hS4016 (i := 0) rfl rfl rfl rfl (by kernel_rfl) (one_cons rfl (one_cons rfl (one_cons rfl (one_cons rfl (one_cons (RS.one1 q4013) (one_cons rfl one_nil)))))) rfl rfl rfl) ?_
          intro h4017 hS4018
          refine r_forget [7, 8, 1, 2, 15, 16, 17] (l' := [(7, .int .i64 x3955), (8, .pointer (some ⟨b4014, 0, none⟩)), (1, v2933), (2, .func (.func 30) #[] #[]), (15, v2931), (16, .int .i64 x3954), (17, .int .i64 x3955)]) (by kernel_rfl) ?_
          refine r_end rfl ?_
          refine W_seq (by kernel_rfl) ?_
          refine W_region (R := r29_6) (by kernel_rfl) ?_
          refine r_run 2 (l' := [(23, .int .i64 x3955), (22, v2933), (7, .int .i64 x3955), (8, .pointer (some ⟨b4014, 0, none⟩)), (1, v2933), (2, .func (.func 30) #[] #[]), (15, v2931), (16, .int .i64 x3954), (17, .int .i64 x3955)]) (by kernel_rfl) ?_
          obtain ⟨hc4019, ho3951⟩ := chk ho3951
          refine r_step rfl trivial (o_index rfl rfl (by kernel_rfl : slTy _ _ = some (csz api_Node)) (RS.based (q2932.mono hS3957.zle) (by omega)) hc4019.1 hc4019.2) ?_
          obtain ⟨x4020, hx4021, ho3951⟩ := obind ho3951
          obtain ⟨cs4022, hc4023, he4024⟩ := RS.el (q2932.mono hS3957.zle) hS4018.inv (i := x3955) hx4021
          obtain ⟨v4026, q4027, rfl⟩ := rc_api_Node hc4023
          refine r_step rfl trivial (o_lde (w := .agg #[.int .i64 x4020.Kind, .int .i64 x4020.From, .int .i64 x4020.To, .int .i64 x4020.Up, v4026, .bool x4020.Key]) he4024 rfl (by kernel_rfl)) ?_
          refine r_blk rfl trivial (o_alloc (cs := [.int .i64 0, .int .i64 0, .int .i64 0, .int .i64 0, .slice none 0 0, .bool false]) (by kernel_rfl)) hS4018 ?_
          intro b4028 h4029 hS4030
          refine r_ex1 rfl trivial (o_stb (vs := [.int .i64 x4020.Kind, .int .i64 x4020.From, .int .i64 x4020.To, .int .i64 x4020.Up, v4026, .bool x4020.Key]) (cells' := [.int .i64 x4020.Kind, .int .i64 x4020.From, .int .i64 x4020.To, .int .i64 x4020.Up, v4026, .bool x4020.Key]) (L' := [.blk b4028 [.int .i64 x4020.Kind, .int .i64 x4020.From, .int .i64 x4020.To, .int .i64 x4020.Up, v4026, .bool x4020.Key], .blk b4014 [.int .i64 x4006.Kind, .int .i64 x4006.From, .int .i64 x4006.To, .int .i64 x4006.Up, v4012, .bool x4006.Key]]) hS4030 (i := 0) rfl rfl rfl rfl (by kernel_rfl) (one_cons rfl (one_cons rfl (one_cons rfl (one_cons rfl (one_cons (RS.one1 q4027) (one_cons rfl one_nil)))))) rfl rfl rfl) ?_
          intro h4031 hS4032
          refine r_forget [9, 8, 1, 2, 15, 16, 17] (l' := [(9, .pointer (some ⟨b4028, 0, none⟩)), (8, .pointer (some ⟨b4014, 0, none⟩)), (1, v2933), (2, .func (.func 30) #[] #[]), (15, v2931), (16, .int .i64 x3954), (17, .int .i64 x3955)]) (by kernel_rfl) ?_
          refine r_end rfl ?_
          refine W_seq (by kernel_rfl) ?_
          refine W_region (R := r29_7) (by kernel_rfl) ?_
          refine r_run 1 (l' := [(26, .func (.func 30) #[] #[]), (9, .pointer (some ⟨b4028, 0, none⟩)), (8, .pointer (some ⟨b4014, 0, none⟩)), (1, v2933), (2, .func (.func 30) #[] #[]), (15, v2931), (16, .int .i64 x3954), (17, .int .i64 x3955)]) (by kernel_rfl) ?_
          refine r_step rfl trivial (o_ldb (v := .agg #[.int .i64 x4006.Kind, .int .i64 x4006.From, .int .i64 x4006.To, .int .i64 x4006.Up, v4012, .bool x4006.Key]) hS4032 (i := 1) rfl rfl (by kernel_rfl)) ?_
          refine r_step rfl trivial (o_ldb (v := .agg #[.int .i64 x4020.Kind, .int .i64 x4020.From, .int .i64 x4020.To, .int .i64 x4020.Up, v4026, .bool x4020.Key]) hS4032 (i := 0) rfl rfl (by kernel_rfl)) ?_
          obtain ⟨r4041, hx4042, ho3951⟩ := obind ho3951
          obtain ⟨v4043, h4044, hcl4045, hSc4046, rfl⟩ := arena_Same_1_ok F hS4032.inv q4013 q4027 hx4042
          have hS4047 := St.call (A := []) (B := [.blk b4028 [.int .i64 x4020.Kind, .int .i64 x4020.From, .int .i64 x4020.To, .int .i64 x4020.Up, v4026, .bool x4020.Key], .blk b4014 [.int .i64 x4006.Kind, .int .i64 x4006.From, .int .i64 x4006.To, .int .i64 x4006.Up, v4012, .bool x4006.Key]]) hS4032 hSc4046
          replace hS4047 : St _ _ _ _ _ _ [.blk b4028 [.int .i64 x4020.Kind, .int .i64 x4020.From, .int .i64 x4020.To, .int .i64 x4020.Up, v4026, .bool x4020.Key], .blk b4014 [.int .i64 x4006.Kind, .int .i64 x4006.From, .int .i64 x4006.To, .int .i64 x4006.Up, v4012, .bool x4006.Key]] := hS4047
          refine r_step rfl trivial (o_call hcl4045 rfl rfl rfl) ?_
          rcases ifs ho3951 with ⟨hp4048, ho3951⟩ | ⟨hp4048, ho3951⟩
          · refine r_setb (t := 29) rfl hp4048 ?_
            refine r_run 1 (l' := [(30, .bool false), (29, .bool true), (29, .bool r4041), (28, .agg #[.int .i64 x4020.Kind, .int .i64 x4020.From, .int .i64 x4020.To, .int .i64 x4020.Up, v4026, .bool x4020.Key]), (27, .agg #[.int .i64 x4006.Kind, .int .i64 x4006.From, .int .i64 x4006.To, .int .i64 x4006.Up, v4012, .bool x4006.Key]), (26, .func (.func 30) #[] #[]), (9, .pointer (some ⟨b4028, 0, none⟩)), (8, .pointer (some ⟨b4014, 0, none⟩)), (1, v2933), (2, .func (.func 30) #[] #[]), (15, v2931), (16, .int .i64 x3954), (17, .int .i64 x3955)]) (by kernel_rfl) ?_
            refine r_forget [30, 1, 2, 15, 16, 17] (l' := [(30, .bool false), (1, v2933), (2, .func (.func 30) #[] #[]), (15, v2931), (16, .int .i64 x3954), (17, .int .i64 x3955)]) (by kernel_rfl) ?_
            refine r_end rfl ?_
            refine W_condF (x := .tmp 30) (by kernel_rfl) rfl rfl ?_
            refine W_skip (by kernel_rfl) ?_
            refine W_region (R := r29_9) (by kernel_rfl) ?_
            refine r_run 2 (l' := [(17, .int .i64 (w64 (x3955 + 1))), (31, .int .i64 (w64 (x3955 + 1))), (30, .bool false), (1, v2933), (2, .func (.func 30) #[] #[]), (15, v2931), (16, .int .i64 x3954), (17, .int .i64 x3955)]) (by kernel_rfl) ?_
            refine r_forget [17, 1, 2, 15, 16] (l' := [(17, .int .i64 (w64 (x3955 + 1))), (1, v2933), (2, .func (.func 30) #[] #[]), (15, v2931), (16, .int .i64 x3954)]) (by kernel_rfl) ?_
            refine r_end rfl ?_
            exact ⟨n3958, Nat.lt_succ_self _, ⟨_, x3954, w64 (x3955 + 1), ho3951, rfl, (hS4047.takeN 0)⟩⟩
          · refine r_setb (t := 29) rfl (Bool.eq_false_iff.2 hp4048) ?_
            refine r_run 1 (l' := [(30, .bool true), (29, .bool false), (29, .bool r4041), (28, .agg #[.int .i64 x4020.Kind, .int .i64 x4020.From, .int .i64 x4020.To, .int .i64 x4020.Up, v4026, .bool x4020.Key]), (27, .agg #[.int .i64 x4006.Kind, .int .i64 x4006.From, .int .i64 x4006.To, .int .i64 x4006.Up, v4012, .bool x4006.Key]), (26, .func (.func 30) #[] #[]), (9, .pointer (some ⟨b4028, 0, none⟩)), (8, .pointer (some ⟨b4014, 0, none⟩)), (1, v2933), (2, .func (.func 30) #[] #[]), (15, v2931), (16, .int .i64 x3954), (17, .int .i64 x3955)]) (by kernel_rfl) ?_
            refine r_forget [30, 1, 2, 15, 16, 17] (l' := [(30, .bool true), (1, v2933), (2, .func (.func 30) #[] #[]), (15, v2931), (16, .int .i64 x3954), (17, .int .i64 x3955)]) (by kernel_rfl) ?_
            refine r_end rfl ?_
            refine W_condT (x := .tmp 30) (by kernel_rfl) rfl rfl ?_
            refine W_seq (by kernel_rfl) ?_
            refine W_region (R := r29_8) (by kernel_rfl) ?_
            refine r_run 1 (l' := [(6, .bool false), (30, .bool true), (1, v2933), (2, .func (.func 30) #[] #[]), (15, v2931), (16, .int .i64 x3954), (17, .int .i64 x3955)]) (by kernel_rfl) ?_
            refine r_forget [6] (l' := [(6, .bool false)]) (by kernel_rfl) ?_
            refine r_end rfl ?_
            refine W_ret (by kernel_rfl) ?_
            refine blkX_ret ?_
            refine blkX_ret ?_
            refine ⟨rfl, ?_⟩
            obtain rfl := Option.some.inj ho3951
            obtain rfl := Option.some.inj hm
            refine ⟨_, _, _, ResL.tmp rfl (ResL.nil), hS4047, ?_⟩
            exact rfl
        · refine r_step rfl trivial (o_cmp rfl rfl (c_lss_F hp3960)) ?_
          refine r_forget [18, 1, 2, 15, 16, 17] (l' := [(18, .bool false), (1, v2933), (2, .func (.func 30) #[] #[]), (15, v2931), (16, .int .i64 x3954), (17, .int .i64 x3955)]) (by kernel_rfl) ?_
          refine r_end rfl ?_
          refine W_seq (by kernel_rfl) ?_
          refine W_condF (x := .tmp 18) (by kernel_rfl) rfl rfl ?_
          refine W_exit (i := 0) (by kernel_rfl) ?_
          refine blkX_hit ?_
          obtain rfl := Option.some.inj ho3951
          exact ⟨_, rfl, rfl, hS3957⟩
  · refine r_step rfl trivial (o_cmp rfl rfl (c_neq_T hp3757)) ?_
    refine r_forget [14, 0, 1, 2] (l' := [(14, .bool true), (0, v2931), (1, v2933), (2, .func (.func 30) #[] #[])]) (by kernel_rfl) ?_
    refine r_end rfl ?_
    refine W_condT (x := .tmp 14) (by kernel_rfl) rfl rfl ?_
    refine W_seq (by kernel_rfl) ?_
    refine W_region (R := r29_2) (by kernel_rfl) ?_
    refine r_run 1 (l' := [(6, .bool false), (14, .bool true), (0, v2931), (1, v2933), (2, .func (.func 30) #[] #[])]) (by kernel_rfl) ?_
    refine r_forget [6] (l' := [(6, .bool false)]) (by kernel_rfl) ?_
    refine r_end rfl ?_
    refine W_ret (by kernel_rfl) ?_
    refine ⟨rfl, ?_⟩
    obtain rfl := Option.some.inj hm
    refine ⟨_, _, _, ResL.tmp rfl (ResL.nil), hS, ?_⟩
    exact rfl

def r18_0 : List COp := [⟨none, some 2, (Go.Op.box 27 (Go.Operand.tmp 0))⟩,
  ⟨none, some 3, (Go.Op.box 27 (Go.Operand.tmp 1))⟩,
  ⟨none, some 4, (Go.Op.assign (Go.Operand.const (Go.Value.bool false)))⟩]
def r18_1 : List COp := [⟨none, some 5, (Go.Op.fieldAddr 27 (Go.Operand.tmp 2) 0)⟩,
  ⟨none, some 6, (Go.Op.load 25 (Go.Operand.tmp 5))⟩,
  ⟨none, some 7, (Go.Op.fieldAddr 27 (Go.Operand.tmp 3) 0)⟩,
  ⟨none, some 8, (Go.Op.load 25 (Go.Operand.tmp 7))⟩,
  ⟨none, some 9, (Go.Op.call { callee := (Go.Callee.value (Go.Operand.func 29)), args := #[(Go.Operand.tmp 6), (Go.Operand.tmp 8), (Go.Operand.func 30)], argTypes := #[25, 25, 63] })⟩,
  ⟨none, some 4, (Go.Op.assign (Go.Operand.tmp 9))⟩]
def arena_Same (F : Nat) (a0 : arena_Tree) (a1 : arena_Tree) : Option Bool :=
  (slices_EqualFunc_api_Node F a0.Nodes a1.Nodes).bind fun r4065 =>
  some r4065
theorem arena_Same_ok (F : Nat) {h : AH} {Z : Zn} {a0 : arena_Tree} {a1 : arena_Tree} {v2921 : Value} {v2923 : Value} (hI : Inv Z h) (q2920 : RS (α := api_Node) Z v2921 a0.Nodes) (q2922 : RS (α := api_Node) Z v2923 a1.Nodes) {r : Bool} (hm : arena_Same F a0 a1 = some r) :
    ∃ v h', callI Go.Proofs.Try.prog 18 [.agg #[v2921], .agg #[v2923]] h = some (v, h') ∧ St h [] Z (0, 0) Z h' [] ∧ v = .bool r := by
  refine fn_plain (Q := fun v => v = .bool r) Go.Proofs.Try.func18 rfl rfl hI ?_
  intro hs hS
  unfold arena_Same at hm
  refine W_seq (by kernel_rfl) ?_
  refine W_region (R := r18_0) (by kernel_rfl) ?_
  refine r_blk rfl trivial (o_box (cs := [v2921]) rfl rfl) hS ?_
  intro b4059 h4060 hS4061
  refine r_blk rfl trivial (o_box (cs := [v2923]) rfl rfl) hS4061 ?_
  intro b4062 h4063 hS4064
  refine r_run 1 (l' := [(4, .bool false), (3, .pointer (some ⟨b4062, 0, none⟩)), (2, .pointer (some ⟨b4059, 0, none⟩)), (0, .agg #[v2921]), (1, .agg #[v2923])]) (by kernel_rfl) ?_
  refine r_forget [3, 2] (l' := [(3, .pointer (some ⟨b4062, 0, none⟩)), (2, .pointer (some ⟨b4059, 0, none⟩))]) (by kernel_rfl) ?_
  refine r_end rfl ?_
  refine W_seq (by kernel_rfl) ?_
  refine W_region (R := r18_1) (by kernel_rfl) ?_
  refine r_run 1 (l' := [(5, .pointer (some ⟨b4059, 0, none⟩)), (3, .pointer (some ⟨b4062, 0, none⟩)), (2, .pointer (some ⟨b4059, 0, none⟩))]) (by kernel_rfl) ?_
  refine r_step rfl trivial (o_ldb (v := v2921) hS4064 (i := 1) rfl rfl (by kernel_rfl)) ?_
  refine r_run 1 (l' := [(7, .pointer (some ⟨b4062, 0, none⟩)), (6, v2921), (5, .pointer (some ⟨b4059, 0, none⟩)), (3, .pointer (some ⟨b4062, 0, none⟩)), (2, .pointer (some ⟨b4059, 0, none⟩))]) (by kernel_rfl) ?_
  refine r_step rfl trivial (o_ldb (v := v2923) hS4064 (i := 0) rfl rfl (by kernel_rfl)) ?_
  obtain ⟨r4065, hx4066, hm⟩ := obind hm
  obtain ⟨v4067, h4068, hcl4069, hSc4070, rfl⟩ := slices_EqualFunc_api_Node_ok F hS4064.inv q2920 q2922 hx4066
  have hS4071 := St.call (A := []) (B := [.blk b4062 [v2923], .blk b4059 [v2921]]) hS4064 hSc4070
  replace hS4071 : St _ _ _ _ _ _ [.blk b4062 [v2923], .blk b4059 [v2921]] := hS4071
  refine r_step rfl trivial (o_call hcl4069 rfl rfl rfl) ?_
  refine r_run 1 (l' := [(4, .bool r4065), (9, .bool r4065), (8, v2923), (7, .pointer (some ⟨b4062, 0, none⟩)), (6, v2921), (5, .pointer (some ⟨b4059, 0, none⟩)), (3, .pointer (some ⟨b4062, 0, none⟩)), (2, .pointer (some ⟨b4059, 0, none⟩))]) (by kernel_rfl) ?_
  refine r_forget [4] (l' := [(4, .bool r4065)]) (by kernel_rfl) ?_
  refine r_end rfl ?_
  refine W_ret (by kernel_rfl) ?_
  refine ⟨rfl, ?_⟩
  obtain rfl := Option.some.inj hm
  refine ⟨_, _, _, ResL.tmp rfl (ResL.nil), hS4071, ?_⟩
  exact rfl

def r8_0 : List COp := [⟨none, some 0, (Go.Op.assign (Go.Operand.const (Go.Value.bool false)))⟩]
def r8_1 : List COp := [⟨none, some 2, (Go.Op.call { callee := (Go.Callee.value (Go.Operand.func 10)), args := #[(Go.Operand.const (Go.Value.int Go.IntKind.i64 3))], argTypes := #[3] })⟩,
  ⟨none, some 1, (Go.Op.alloc 27)⟩,
  ⟨none, none, (Go.Op.store 27 (Go.Operand.tmp 1) (Go.Operand.tmp 2))⟩]
def r8_2 : List COp := [⟨none, some 3, (Go.Op.fieldAddr 27 (Go.Operand.tmp 1) 0)⟩,
  ⟨none, some 4, (Go.Op.load 25 (Go.Operand.tmp 3))⟩,
  ⟨none, some 5, (Go.Op.call { callee := (Go.Callee.builtin Go.Builtin.len), args := #[(Go.Operand.tmp 4)], argTypes := #[25] })⟩,
  ⟨none, some 6, (Go.Op.binOp Go.BinOp.eql 3 (Go.Operand.tmp 5) (Go.Operand.const (Go.Value.int Go.IntKind.i64 1)) 3)⟩,
  ⟨none, some 7, (Go.Op.move (Go.Operand.tmp 6))⟩,
  ⟨(some (some 7, true)), some 8, (Go.Op.fieldAddr 27 (Go.Operand.tmp 1) 0)⟩,
  ⟨(some (some 7, true)), some 9, (Go.Op.load 25 (Go.Operand.tmp 8))⟩,
  ⟨(some (some 7, true)), some 10, (Go.Op.indexAddr 25 (Go.Operand.tmp 9) (Go.Operand.const (Go.Value.int Go.IntKind.i64 0)))⟩,
  ⟨(some (some 7, true)), some 11, (Go.Op.fieldAddr 46 (Go.Operand.tmp 10) 0)⟩,
  ⟨(some (some 7, true)), some 12, (Go.Op.load 3 (Go.Operand.tmp 11))⟩,
  ⟨(some (some 7, true)), some 13, (Go.Op.binOp Go.BinOp.eql 3 (Go.Operand.tmp 12) (Go.Operand.const (Go.Value.int Go.IntKind.i64 1)) 3)⟩,
  ⟨none, some 14, (Go.Op.pick (Go.Operand.tmp 7) (Go.Operand.tmp 13) (Go.Operand.const (Go.Value.bool false)))⟩,
  ⟨none, some 15, (Go.Op.move (Go.Operand.tmp 14))⟩,
  ⟨(some (some 15, true)), some 16, (Go.Op.fieldAddr 27 (Go.Operand.tmp 1) 0)⟩,
  ⟨(some (some 15, true)), some 17, (Go.Op.load 25 (Go.Operand.tmp 16))⟩,
  ⟨(some (some 15, true)), some 18, (Go.Op.indexAddr 25 (Go.Operand.tmp 17) (Go.Operand.const (Go.Value.int Go.IntKind.i64 0)))⟩,
  ⟨(some (some 15, true)), some 19, (Go.Op.fieldAddr 46 (Go.Operand.tmp 18) 2)⟩,
  ⟨(some (some 15, true)), some 20, (Go.Op.load 3 (Go.Operand.tmp 19))⟩,
  ⟨(some (some 15, true)), some 21, (Go.Op.binOp Go.BinOp.eql 3 (Go.Operand.tmp 20) (Go.Operand.const (Go.Value.int Go.IntKind.i64 3)) 3)⟩,
  ⟨none, some 22, (Go.Op.pick (Go.Operand.tmp 15) (Go.Operand.tmp 21) (Go.Operand.const (Go.Value.bool false)))⟩,
  ⟨none, some 23, (Go.Op.move (Go.Operand.tmp 22))⟩,
  ⟨(some (some 23, true)), some 24, (Go.Op.fieldAddr 27 (Go.Operand.tmp 1) 0)⟩,
  ⟨(some (some 23, true)), some 25, (Go.Op.load 25 (Go.Operand.tmp 24))⟩,
  ⟨(some (some 23, true)), some 26, (Go.Op.indexAddr 25 (Go.Operand.tmp 25) (Go.Operand.const (Go.Value.int Go.IntKind.i64 0)))⟩,
  ⟨(some (some 23, true)), some 27, (Go.Op.fieldAddr 46 (Go.Operand.tmp 26) 3)⟩,
  ⟨(some (some 23, true)), some 28, (Go.Op.load 3 (Go.Operand.tmp 27))⟩,
  ⟨(some (some 23, true)), some 29, (Go.Op.binOp Go.BinOp.eql 3 (Go.Operand.tmp 28) (Go.Operand.const (Go.Value.int Go.IntKind.i64 (-1))) 3)⟩,
  ⟨none, some 30, (Go.Op.pick (Go.Operand.tmp 23) (Go.Operand.tmp 29) (Go.Operand.const (Go.Value.bool false)))⟩,
  ⟨none, some 0, (Go.Op.assign (Go.Operand.tmp 30))⟩]
def correctorlaw10_known (F : Nat) : Option Bool :=
  (arena_New F 3).bind fun r4153 =>
  if (r4153.Nodes.length : Int) = (1 : Int) then
    if 0 ≤ (0 : Int) ∧ (0 : Int) < (r4153.Nodes.length : Int) then
      (r4153.Nodes[(0 : Int).toNat]?).bind fun x4205 =>
      if x4205.Kind = (1 : Int) then
        if 0 ≤ (0 : Int) ∧ (0 : Int) < (r4153.Nodes.length : Int) then
          (r4153.Nodes[(0 : Int).toNat]?).bind fun x4215 =>
          if x4215.To = (3 : Int) then
            if 0 ≤ (0 : Int) ∧ (0 : Int) < (r4153.Nodes.length : Int) then
              (r4153.Nodes[(0 : Int).toNat]?).bind fun x4225 =>
              if x4225.Up = (-1 : Int) then
                some true
              else
                some false
            else none
          else
            some false
        else none
      else
        some false
    else none
  else
    some false
theorem correctorlaw10_known_ok (F : Nat) {h : AH} {Z : Zn} (hI : Inv Z h) {r : Bool} (hm : correctorlaw10_known F = some r) :
    ∃ v h', callI Go.Proofs.Try.prog 8 [] h = some (v, h') ∧ St h [] Z (0, 0) Z h' [] ∧ v = .bool r := by
  refine fn_plain (Q := fun v => v = .bool r) Go.Proofs.Try.func8 rfl rfl hI ?_
  intro hs hS
  unfold correctorlaw10_known at hm
  refine W_seq (by kernel_rfl) ?_
  refine W_region (R := r8_0) (by kernel_rfl) ?_
  refine r_run 1 (l' := [(0, .bool false)]) (by kernel_rfl) ?_
  refine r_forget [] (l' := []) (by kernel_rfl) ?_
  refine r_end rfl ?_
  refine W_seq (by kernel_rfl) ?_
  refine W_region (R := r8_1) (by kernel_rfl) ?_
  obtain ⟨r4153, hx4154, hm⟩ := obind hm
  have hSr4160 : St _ _ _ _ _ _ ([] ++ []) := hS
  obtain ⟨v4155, h4156, Z4161, A4163, hcl4157, hSc4158, v4165, c4166, rfl, rfl, q4164⟩ := arena_New_ok F hSr4160.preL  hx4154
  have hS4159 := hSr4160.call hSc4158
  have hZ4162 := hSc4158.zle
  replace hS4159 : St _ _ _ _ _ _ [.gs v4165 c4166 (csz api_Node)] := hS4159
  refine r_step rfl trivial (o_call hcl4157 rfl rfl rfl) ?_
  refine r_blk rfl trivial (o_alloc (cs := [.slice none 0 0]) (by kernel_rfl)) hS4159 ?_
  intro b4167 h4168 hS4169
  refine r_ex1 rfl trivial (o_stb (vs := [v4165]) (cells' := [v4165]) (L' := [.blk b4167 [v4165], .gs v4165 c4166 (csz api_Node)]) hS4169 (i := 0) rfl rfl rfl rfl (by kernel_rfl) (one_cons (hS4169.gone1 (i := 1) rfl) one_nil) rfl rfl rfl) ?_
  intro h4170 hS4171
  refine r_forget [1] (l' := [(1, .pointer (some ⟨b4167, 0, none⟩))]) (by kernel_rfl) ?_
  refine r_end rfl ?_
  refine W_seq (by kernel_rfl) ?_
  refine W_region (R := r8_2) (by kernel_rfl) ?_
  refine r_run 1 (l' := [(3, .pointer (some ⟨b4167, 0, none⟩)), (1, .pointer (some ⟨b4167, 0, none⟩))]) (by kernel_rfl) ?_
  refine r_step rfl trivial (o_ldb (v := v4165) hS4171 (i := 0) rfl rfl (by kernel_rfl)) ?_
  refine r_step rfl trivial (o_len rfl (hS4171.glen (i := 1) rfl q4164) ⟨_, Go.Proofs.Try.underlying25⟩) ?_
  rcases ifs hm with ⟨hp4203, hm⟩ | ⟨hp4203, hm⟩
  · refine r_step rfl trivial (o_cmp rfl rfl (c_eql_T hp4203)) ?_
    refine r_run 2 (l' := [(8, .pointer (some ⟨b4167, 0, none⟩)), (7, .bool true), (6, .bool true), (5, .int .i64 (r4153.Nodes.length : Int)), (4, v4165), (3, .pointer (some ⟨b4167, 0, none⟩)), (1, .pointer (some ⟨b4167, 0, none⟩))]) (by kernel_rfl) ?_
    refine r_step rfl rfl (o_ldb (v := v4165) hS4171 (i := 0) rfl rfl (by kernel_rfl)) ?_
    obtain ⟨hc4204, hm⟩ := chk hm
    refine r_step rfl rfl (o_index rfl rfl (by kernel_rfl : slTy _ _ = some (csz api_Node)) (hS4171.gbased (j := 1) rfl q4164 (by omega)) hc4204.1 hc4204.2) ?_
    refine r_run 1 (l' := [(11, .pointer (some (elemA v4165 0 (csz api_Node) 0))), (10, .pointer (some (elemA v4165 0 (csz api_Node) 0))), (9, v4165), (8, .pointer (some ⟨b4167, 0, none⟩)), (7, .bool true), (6, .bool true), (5, .int .i64 (r4153.Nodes.length : Int)), (4, v4165), (3, .pointer (some ⟨b4167, 0, none⟩)), (1, .pointer (some ⟨b4167, 0, none⟩))]) (by kernel_rfl) ?_
    obtain ⟨x4205, hx4206, hm⟩ := obind hm
    obtain ⟨cs4207, hc4208, he4209, ht4210⟩ := hS4171.gel (j := 1) rfl q4164 (i := 0) hx4206
    obtain ⟨v4211, q4212, rfl⟩ := rc_api_Node hc4208
    refine r_step rfl rfl (o_lde (w := .int .i64 x4205.Kind) he4209 rfl (by kernel_rfl)) ?_
    rcases ifs hm with ⟨hp4213, hm⟩ | ⟨hp4213, hm⟩
    · refine r_step rfl rfl (o_cmp rfl rfl (c_eql_T hp4213)) ?_
      refine r_run 3 (l' := [(16, .pointer (some ⟨b4167, 0, none⟩)), (15, .bool true), (14, .bool true), (13, .bool true), (12, .int .i64 x4205.Kind), (11, .pointer (some (elemA v4165 0 (csz api_Node) 0))), (10, .pointer (some (elemA v4165 0 (csz api_Node) 0))), (9, v4165), (8, .pointer (some ⟨b4167, 0, none⟩)), (7, .bool true), (6, .bool true), (5, .int .i64 (r4153.Nodes.length : Int)), (4, v4165), (3, .pointer (some ⟨b4167, 0, none⟩)), (1, .pointer (some ⟨b4167, 0, none⟩))]) (by kernel_rfl) ?_
      refine r_step rfl rfl (o_ldb (v := v4165) hS4171 (i := 0) rfl rfl (by kernel_rfl)) ?_
      obtain ⟨hc4214, hm⟩ := chk hm
      refine r_step rfl rfl (o_index rfl rfl (by kernel_rfl : slTy _ _ = some (csz api_Node)) (hS4171.gbased (j := 1) rfl q4164 (by omega)) hc4214.1 hc4214.2) ?_
      refine r_run 1 (l' := [(19, .pointer (some (elemA v4165 0 (csz api_Node) 2))), (18, .pointer (some (elemA v4165 0 (csz api_Node) 0))), (17, v4165), (16, .pointer (some ⟨b4167, 0, none⟩)), (15, .bool true), (14, .bool true), (13, .bool true), (12, .int .i64 x4205.Kind), (11, .pointer (some (elemA v4165 0 (csz api_Node) 0))), (10, .pointer (some (elemA v4165 0 (csz api_Node) 0))), (9, v4165), (8, .pointer (some ⟨b4167, 0, none⟩)), (7, .bool true), (6, .bool true), (5, .int .i64 (r4153.Nodes.length : Int)), (4, v4165), (3, .pointer (some ⟨b4167, 0, none⟩)), (1, .pointer (some ⟨b4167, 0, none⟩))]) (by kernel_rfl) ?_
      obtain ⟨x4215, hx4216, hm⟩ := obind hm
      obtain ⟨cs4217, hc4218, he4219, ht4220⟩ := hS4171.gel (j := 1) rfl q4164 (i := 0) hx4216
      obtain ⟨v4221, q4222, rfl⟩ := rc_api_Node hc4218
      refine r_step rfl rfl (o_lde (w := .int .i64 x4215.To) he4219 rfl (by kernel_rfl)) ?_
      rcases ifs hm with ⟨hp4223, hm⟩ | ⟨hp4223, hm⟩
      · refine r_step rfl rfl (o_cmp rfl rfl (c_eql_T hp4223)) ?_
        refine r_run 3 (l' := [(24, .pointer (some ⟨b4167, 0, none⟩)), (23, .bool true), (22, .bool true), (21, .bool true), (20, .int .i64 x4215.To), (19, .pointer (some (elemA v4165 0 (csz api_Node) 2))), (18, .pointer (some (elemA v4165 0 (csz api_Node) 0))), (17, v4165), (16, .pointer (some ⟨b4167, 0, none⟩)), (15, .bool true), (14, .bool true), (13, .bool true), (12, .int .i64 x4205.Kind), (11, .pointer (some (elemA v4165 0 (csz api_Node) 0))), (10, .pointer (some (elemA v4165 0 (csz api_Node) 0))), (9, v4165), (8, .pointer (some ⟨b4167, 0, none⟩)), (7, .bool true), (6, .bool true), (5, .int .i64 (r4153.Nodes.length : Int)), (4, v4165), (3, .pointer (some ⟨b4167, 0, none⟩)), (1, .pointer (some ⟨b4167, 0, none⟩))]) (by kernel_rfl) ?_
        refine r_step rfl rfl (o_ldb (v := v4165) hS4171 (i := 0) rfl rfl (by kernel_rfl)) ?_
        obtain ⟨hc4224, hm⟩ := chk hm
        refine r_step rfl rfl (o_index rfl rfl (by kernel_rfl : slTy _ _ = some (csz api_Node)) (hS4171.gbased (j := 1) rfl q4164 (by omega)) hc4224.1 hc4224.2) ?_
        refine r_run 1 (l' := [(27, .pointer (some (elemA v4165 0 (csz api_Node) 3))), (26, .pointer (some (elemA v4165 0 (csz api_Node) 0))), (25, v4165), (24, .pointer (some ⟨b4167, 0, none⟩)), (23, .bool true), (22, .bool true), (21, .bool true), (20, .int .i64 x4215.To), (19, .pointer (some (elemA v4165 0 (csz api_Node) 2))), (18, .pointer (some (elemA v4165 0 (csz api_Node) 0))), (17, v4165), (16, .pointer (some ⟨b4167, 0, none⟩)), (15, .bool true), (14, .bool true), (13, .bool true), (12, .int .i64 x4205.Kind), (11, .pointer (some (elemA v4165 0 (csz api_Node) 0))), (10, .pointer (some (elemA v4165 0 (csz api_Node) 0))), (9, v4165), (8, .pointer (some ⟨b4167, 0, none⟩)), (7, .bool true), (6, .bool true), (5, .int .i64 (r4153.Nodes.length : Int)), (4, v4165), (3, .pointer (some ⟨b4167, 0, none⟩)), (1, .pointer (some ⟨b4167, 0, none⟩))]) (by kernel_rfl) ?_
        obtain ⟨x4225, hx4226, hm⟩ := obind hm
        obtain ⟨cs4227, hc4228, he4229, ht4230⟩ := hS4171.gel (j := 1) rfl q4164 (i := 0) hx4226
        obtain ⟨v4231, q4232, rfl⟩ := rc_api_Node hc4228
        refine r_step rfl rfl (o_lde (w := .int .i64 x4225.Up) he4229 rfl (by kernel_rfl)) ?_
        rcases ifs hm with ⟨hp4233, hm⟩ | ⟨hp4233, hm⟩
        · refine r_step rfl rfl (o_cmp rfl rfl (c_eql_T hp4233)) ?_
          refine r_run 2 (l' := [(0, .bool true), (30, .bool true), (29, .bool true), (28, .int .i64 x4225.Up), (27, .pointer (some (elemA v4165 0 (csz api_Node) 3))), (26, .pointer (some (elemA v4165 0 (csz api_Node) 0))), (25, v4165), (24, .pointer (some ⟨b4167, 0, none⟩)), (23, .bool true), (22, .bool true), (21, .bool true), (20, .int .i64 x4215.To), (19, .pointer (some (elemA v4165 0 (csz api_Node) 2))), (18, .pointer (some (elemA v4165 0 (csz api_Node) 0))), (17, v4165), (16, .pointer (some ⟨b4167, 0, none⟩)), (15, .bool true), (14, .bool true), (13, .bool true), (12, .int .i64 x4205.Kind), (11, .pointer (some (elemA v4165 0 (csz api_Node) 0))), (10, .pointer (some (elemA v4165 0 (csz api_Node) 0))), (9, v4165), (8, .pointer (some ⟨b4167, 0, none⟩)), (7, .bool true), (6, .bool true), (5, .int .i64 (r4153.Nodes.length : Int)), (4, v4165), (3, .pointer (some ⟨b4167, 0, none⟩)), (1, .pointer (some ⟨b4167, 0, none⟩))]) (by kernel_rfl) ?_
          refine r_forget [0] (l' := [(0, .bool true)]) (by kernel_rfl) ?_
          refine r_end rfl ?_
          refine W_ret (by kernel_rfl) ?_
          refine ⟨rfl, ?_⟩
          obtain rfl := Option.some.inj hm
          refine ⟨_, _, _, ResL.tmp rfl (ResL.nil), hS4171, ?_⟩
          exact rfl
        · refine r_step rfl rfl (o_cmp rfl rfl (c_eql_F hp4233)) ?_
          refine r_run 2 (l' := [(0, .bool false), (30, .bool false), (29, .bool false), (28, .int .i64 x4225.Up), (27, .pointer (some (elemA v4165 0 (csz api_Node) 3))), (26, .pointer (some (elemA v4165 0 (csz api_Node) 0))), (25, v4165), (24, .pointer (some ⟨b4167, 0, none⟩)), (23, .bool true), (22, .bool true), (21, .bool true), (20, .int .i64 x4215.To), (19, .pointer (some (elemA v4165 0 (csz api_Node) 2))), (18, .pointer (some (elemA v4165 0 (csz api_Node) 0))), (17, v4165), (16, .pointer (some ⟨b4167, 0, none⟩)), (15, .bool true), (14, .bool true), (13, .bool true), (12, .int .i64 x4205.Kind), (11, .pointer (some (elemA v4165 0 (csz api_Node) 0))), (10, .pointer (some (elemA v4165 0 (csz api_Node) 0))), (9, v4165), (8, .pointer (some ⟨b4167, 0, none⟩)), (7, .bool true), (6, .bool true), (5, .int .i64 (r4153.Nodes.length : Int)), (4, v4165), (3, .pointer (some ⟨b4167, 0, none⟩)), (1, .pointer (some ⟨b4167, 0, none⟩))]) (by kernel_rfl) ?_
          refine r_forget [0] (l' := [(0, .bool false)]) (by kernel_rfl) ?_
          refine r_end rfl ?_
          refine W_ret (by kernel_rfl) ?_
          refine ⟨rfl, ?_⟩
          obtain rfl := Option.some.inj hm
          refine ⟨_, _, _, ResL.tmp rfl (ResL.nil), hS4171, ?_⟩
          exact rfl
      · refine r_step rfl rfl (o_cmp rfl rfl (c_eql_F hp4223)) ?_
        refine r_run 10 (l' := [(0, .bool false), (30, .bool false), (29, undef), (28, undef), (27, undef), (26, undef), (25, undef), (24, undef), (23, .bool false), (22, .bool false), (21, .bool false), (20, .int .i64 x4215.To), (19, .pointer (some (elemA v4165 0 (csz api_Node) 2))), (18, .pointer (some (elemA v4165 0 (csz api_Node) 0))), (17, v4165), (16, .pointer (some ⟨b4167, 0, none⟩)), (15, .bool true), (14, .bool true), (13, .bool true), (12, .int .i64 x4205.Kind), (11, .pointer (some (elemA v4165 0 (csz api_Node) 0))), (10, .pointer (some (elemA v4165 0 (csz api_Node) 0))), (9, v4165), (8, .pointer (some ⟨b4167, 0, none⟩)), (7, .bool true), (6, .bool true), (5, .int .i64 (r4153.Nodes.length : Int)), (4, v4165), (3, .pointer (some ⟨b4167, 0, none⟩)), (1, .pointer (some ⟨b4167, 0, none⟩))]) (by kernel_rfl) ?_
        refine r_forget [0] (l' := [(0, .bool false)]) (by kernel_rfl) ?_
        refine r_end rfl ?_
        refine W_ret (by kernel_rfl) ?_
        refine ⟨rfl, ?_⟩
        obtain rfl := Option.some.inj hm
        refine ⟨_, _, _, ResL.tmp rfl (ResL.nil), hS4171, ?_⟩
        exact rfl
    · refine r_step rfl rfl (o_cmp rfl rfl (c_eql_F hp4213)) ?_
      refine r_run 18 (l' := [(0, .bool false), (30, .bool false), (29, undef), (28, undef), (27, undef), (26, undef), (25, undef), (24, undef), (23, .bool false), (22, .bool false), (21, undef), (20, undef), (19, undef), (18, undef), (17, undef), (16, undef), (15, .bool false), (14, .bool false), (13, .bool false), (12, .int .i64 x4205.Kind), (11, .pointer (some (elemA v4165 0 (csz api_Node) 0))), (10, .pointer (some (elemA v4165 0 (csz api_Node) 0))), (9, v4165), (8, .pointer (some ⟨b4167, 0, none⟩)), (7, .bool true), (6, .bool true), (5, .int .i64 (r4153.Nodes.length : Int)), (4, v4165), (3, .pointer (some ⟨b4167, 0, none⟩)), (1, .pointer (some ⟨b4167, 0, none⟩))]) (by kernel_rfl) ?_
      refine r_forget [0] (l' := [(0, .bool false)]) (by kernel_rfl) ?_
      refine r_end rfl ?_
      refine W_ret (by kernel_rfl) ?_
      refine ⟨rfl, ?_⟩
      obtain rfl := Option.some.inj hm
      refine ⟨_, _, _, ResL.tmp rfl (ResL.nil), hS4171, ?_⟩
      exact rfl
  · refine r_step rfl trivial (o_cmp rfl rfl (c_eql_F hp4203)) ?_
    refine r_run 25 (l' := [(0, .bool false), (30, .bool false), (29, undef), (28, undef), (27, undef), (26, undef), (25, undef), (24, undef), (23, .bool false), (22, .bool false), (21, undef), (20, undef), (19, undef), (18, undef), (17, undef), (16, undef), (15, .bool false), (14, .bool false), (13, undef), (12, undef), (11, undef), (10, undef), (9, undef), (8, undef), (7, .bool false), (6, .bool false), (5, .int .i64 (r4153.Nodes.length : Int)), (4, v4165), (3, .pointer (some ⟨b4167, 0, none⟩)), (1, .pointer (some ⟨b4167, 0, none⟩))]) (by kernel_rfl) ?_
    refine r_forget [0] (l' := [(0, .bool false)]) (by kernel_rfl) ?_
    refine r_end rfl ?_
    refine W_ret (by kernel_rfl) ?_
    refine ⟨rfl, ?_⟩
    obtain rfl := Option.some.inj hm
    refine ⟨_, _, _, ResL.tmp rfl (ResL.nil), hS4171, ?_⟩
    exact rfl

def r9_0 : List COp := [⟨none, some 4, (Go.Op.assign (Go.Operand.const (Go.Value.int Go.IntKind.i64 0)))⟩]
def r9_1 : List COp := [⟨none, some 6, (Go.Op.move (Go.Operand.tmp 0))⟩,
  ⟨none, some 7, (Go.Op.move (Go.Operand.tmp 1))⟩,
  ⟨none, some 8, (Go.Op.binOp Go.BinOp.rem 3 (Go.Operand.tmp 6) (Go.Operand.tmp 7) 3)⟩,
  ⟨none, some 5, (Go.Op.assign (Go.Operand.tmp 8))⟩]
def r9_2 : List COp := [⟨none, some 9, (Go.Op.move (Go.Operand.tmp 5))⟩,
  ⟨none, some 10, (Go.Op.binOp Go.BinOp.lss 3 (Go.Operand.tmp 9) (Go.Operand.const (Go.Value.int Go.IntKind.i64 0)) 3)⟩]
def r9_3 : List COp := [⟨none, some 11, (Go.Op.move (Go.Operand.tmp 5))⟩,
  ⟨none, some 12, (Go.Op.move (Go.Operand.tmp 1))⟩,
  ⟨none, some 13, (Go.Op.binOp Go.BinOp.add 3 (Go.Operand.tmp 11) (Go.Operand.tmp 12) 3)⟩,
  ⟨none, some 5, (Go.Op.assign (Go.Operand.tmp 13))⟩]
def r9_4 : List COp := [⟨none, some 14, (Go.Op.move (Go.Operand.tmp 5))⟩,
  ⟨none, some 4, (Go.Op.assign (Go.Operand.tmp 14))⟩]
def correctorlaw10_within (F : Nat) (a0 : Int) (a1 : Int) : Option Int :=
  if ¬ a1 = (0 : Int) then
    ((if (a0.tmod a1) < (0 : Int) then
        some (w64 ((a0.tmod a1) + a1))
      else
        some (a0.tmod a1)) : Option Int).bind fun o => match o with
      | x4250 => some x4250
  else none
theorem correctorlaw10_within_ok (F : Nat) {h : AH} {Z : Zn} {a0 : Int} {a1 : Int} (hI : Inv Z h) {r : Int} (hm : correctorlaw10_within F a0 a1 = some r) :
    ∃ v h', callI Go.Proofs.Try.prog 9 [.int .i64 a0, .int .i64 a1] h = some (v, h') ∧ St h [] Z (0, 0) Z h' [] ∧ v = .int .i64 r := by
  refine fn_plain (Q := fun v => v = .int .i64 r) Go.Proofs.Try.func9 rfl rfl hI ?_
  intro hs hS
  unfold correctorlaw10_within at hm
  refine W_seq (by kernel_rfl) ?_
  refine W_region (R := r9_0) (by kernel_rfl) ?_
  refine r_run 1 (l' := [(4, .int .i64 0), (0, .int .i64 a0), (1, .int .i64 a1)]) (by kernel_rfl) ?_
  refine r_forget [0, 1] (l' := [(0, .int .i64 a0), (1, .int .i64 a1)]) (by kernel_rfl) ?_
  refine r_end rfl ?_
  refine W_seq (by kernel_rfl) ?_
  refine W_region (R := r9_1) (by kernel_rfl) ?_
  refine r_run 2 (l' := [(7, .int .i64 a1), (6, .int .i64 a0), (0, .int .i64 a0), (1, .int .i64 a1)]) (by kernel_rfl) ?_
  obtain ⟨hc4242, hm⟩ := chk hm
  refine r_step rfl trivial (o_rem hc4242 rfl rfl) ?_
  refine r_run 1 (l' := [(5, .int .i64 (a0.tmod a1)), (8, .int .i64 (a0.tmod a1)), (7, .int .i64 a1), (6, .int .i64 a0), (0, .int .i64 a0), (1, .int .i64 a1)]) (by kernel_rfl) ?_
  refine r_forget [5, 1] (l' := [(5, .int .i64 (a0.tmod a1)), (1, .int .i64 a1)]) (by kernel_rfl) ?_
  refine r_end rfl ?_
  refine W_seq (by kernel_rfl) ?_
  obtain ⟨o4247, ho4246, hm⟩ := obind hm
  refine W_seqJoin0 [5] (fun l h => ∃ Z4249 : Zn, ∃ x4250 : Int, x4250 = o4247 ∧ l = [(5, .int .i64 x4250)] ∧ St hs [] Z (0, 0) Z4249 h []) (by kernel_rfl) ?_ ?_
  · rintro l h4251 ⟨Z4249, x4250, rfl, rfl, hS4252⟩
    try dsimp only at hm
    refine W_seq (by kernel_rfl) ?_
    refine W_region (R := r9_4) (by kernel_rfl) ?_
    refine r_run 2 (l' := [(4, .int .i64 x4250), (14, .int .i64 x4250), (5, .int .i64 x4250)]) (by kernel_rfl) ?_
    refine r_forget [4] (l' := [(4, .int .i64 x4250)]) (by kernel_rfl) ?_
    refine r_end rfl ?_
    refine W_ret (by kernel_rfl) ?_
    refine ⟨rfl, ?_⟩
    obtain rfl := Option.some.inj hm
    refine ⟨_, _, _, ResL.tmp rfl (ResL.nil), hS4252, ?_⟩
    exact rfl
  · refine W_region (R := r9_2) (by kernel_rfl) ?_
    refine r_run 1 (l' := [(9, .int .i64 (a0.tmod a1)), (5, .int .i64 (a0.tmod a1)), (1, .int .i64 a1)]) (by kernel_rfl) ?_
    rcases ifs ho4246 with ⟨hp4248, ho4246⟩ | ⟨hp4248, ho4246⟩
    · refine r_step rfl trivial (o_cmp rfl rfl (c_lss_T hp4248)) ?_
      refine r_forget [10, 5, 1] (l' := [(10, .bool true), (5, .int .i64 (a0.tmod a1)), (1, .int .i64 a1)]) (by kernel_rfl) ?_
      refine r_end rfl ?_
      refine W_condT (x := .tmp 10) (by kernel_rfl) rfl rfl ?_
      refine W_region (R := r9_3) (by kernel_rfl) ?_
      refine r_run 4 (l' := [(5, .int .i64 (w64 ((a0.tmod a1) + a1))), (13, .int .i64 (w64 ((a0.tmod a1) + a1))), (12, .int .i64 a1), (11, .int .i64 (a0.tmod a1)), (10, .bool true), (5, .int .i64 (a0.tmod a1)), (1, .int .i64 a1)]) (by kernel_rfl) ?_
      refine r_forget [5] (l' := [(5, .int .i64 (w64 ((a0.tmod a1) + a1)))]) (by kernel_rfl) ?_
      refine r_end rfl ?_
      obtain rfl := Option.some.inj ho4246
      exact ⟨_, w64 ((a0.tmod a1) + a1), rfl, rfl, hS⟩
    · refine r_step rfl trivial (o_cmp rfl rfl (c_lss_F hp4248)) ?_
      refine r_forget [10, 5, 1] (l' := [(10, .bool false), (5, .int .i64 (a0.tmod a1)), (1, .int .i64 a1)]) (by kernel_rfl) ?_
      refine r_end rfl ?_
      refine W_condF (x := .tmp 10) (by kernel_rfl) rfl rfl ?_
      refine W_skip (by kernel_rfl) ?_
      obtain rfl := Option.some.inj ho4246
      exact ⟨_, a0.tmod a1, rfl, rfl, hS⟩

end Go.Proofs.Ytpijjenaadkjdaa.M
