/- Printed by a program of this session: Go functions as Lean functions over plain data, and that the calls come to them. -/
import Derived.Test.YtpijjenaadkjdaaSyF
import Derived.Test.YtpijjenaadkjdaaChecked
import Derived.KernelRfl
import Derived.Test.YtpijjenaadkjdaaMA1
namespace Go.Proofs.Ytpijjenaadkjdaa.M
open Go Am Sy
open Sy.Cell (rc)
set_option linter.unusedVariables false
set_option linter.unusedSimpArgs false
set_option maxRecDepth 20000

def r32_0 : List COp := [⟨none, some 4, (Go.Op.assign (Go.Operand.const (Go.Value.bool false)))⟩]
def r32_1 : List COp := [⟨none, some 9, (Go.Op.move (Go.Operand.tmp 0))⟩,
  ⟨none, some 10, (Go.Op.nilCheck (Go.Operand.tmp 9))⟩,
  ⟨none, some 11, (Go.Op.fieldAddr 58 (Go.Operand.tmp 10) 0)⟩,
  ⟨none, some 12, (Go.Op.fieldAddr 27 (Go.Operand.tmp 11) 0)⟩,
  ⟨none, some 13, (Go.Op.load 25 (Go.Operand.tmp 12))⟩,
  ⟨none, some 14, (Go.Op.move (Go.Operand.tmp 1))⟩,
  ⟨none, some 15, (Go.Op.indexAddr 25 (Go.Operand.tmp 13) (Go.Operand.tmp 14))⟩,
  ⟨none, some 16, (Go.Op.load 46 (Go.Operand.tmp 15))⟩,
  ⟨none, some 5, (Go.Op.alloc 46)⟩,
  ⟨none, none, (Go.Op.store 46 (Go.Operand.tmp 5) (Go.Operand.tmp 16))⟩]
def r32_2 : List COp := [⟨none, some 17, (Go.Op.fieldAddr 46 (Go.Operand.tmp 5) 1)⟩,
  ⟨none, some 18, (Go.Op.load 3 (Go.Operand.tmp 17))⟩,
  ⟨none, some 6, (Go.Op.assign (Go.Operand.tmp 18))⟩]
def r32_3 : List COp := [⟨none, some 19, (Go.Op.fieldAddr 46 (Go.Operand.tmp 5) 4)⟩,
  ⟨none, some 20, (Go.Op.load 44 (Go.Operand.tmp 19))⟩,
  ⟨none, some 21, (Go.Op.call { callee := (Go.Callee.builtin Go.Builtin.len), args := #[(Go.Operand.tmp 20)], argTypes := #[44] })⟩,
  ⟨none, some 22, (Go.Op.move (Go.Operand.const (Go.Value.int Go.IntKind.i64 0)))⟩]
def r32_4 : List COp := [⟨none, some 23, (Go.Op.binOp Go.BinOp.lss 3 (Go.Operand.tmp 22) (Go.Operand.tmp 21) 3)⟩]
def r32_5 : List COp := [⟨none, some 24, (Go.Op.indexAddr 44 (Go.Operand.tmp 20) (Go.Operand.tmp 22))⟩,
  ⟨none, some 25, (Go.Op.load 3 (Go.Operand.tmp 24))⟩,
  ⟨none, some 8, (Go.Op.assign (Go.Operand.tmp 25))⟩]
def r32_6 : List COpD := [⟨none, some 26, (Go.Op.move (Go.Operand.tmp 8)), .pure, true, true⟩,
  ⟨none, some 27, (Go.Op.move (Go.Operand.tmp 1)), .pure, true, true⟩,
  ⟨none, some 28, (Go.Op.binOp Go.BinOp.leq 3 (Go.Operand.tmp 26) (Go.Operand.tmp 27) 3), .pure, true, true⟩,
  ⟨none, some 29, (Go.Op.move (Go.Operand.tmp 28)), .pure, true, true⟩,
  ⟨(some (some 29, false)), some 30, (Go.Op.move (Go.Operand.tmp 0)), .pure, true, true⟩,
  ⟨(some (some 29, false)), some 31, (Go.Op.move (Go.Operand.tmp 8)), .pure, true, true⟩,
  ⟨(some (some 29, false)), some 32, (Go.Op.call { callee := (Go.Callee.value (Go.Operand.func 26)), args := #[(Go.Operand.tmp 30), (Go.Operand.tmp 31)], argTypes := #[54, 3] }), .make, true, false⟩,
  ⟨(some (some 29, false)), some 33, (Go.Op.unOp Go.UnOp.not 4 (Go.Operand.tmp 32)), .pure, true, true⟩,
  ⟨none, some 34, (Go.Op.pick (Go.Operand.tmp 29) (Go.Operand.const (Go.Value.bool true)) (Go.Operand.tmp 33)), .pure, true, true⟩,
  ⟨none, some 35, (Go.Op.move (Go.Operand.tmp 34)), .pure, true, true⟩,
  ⟨(some (some 35, false)), some 36, (Go.Op.move (Go.Operand.tmp 0)), .pure, true, true⟩,
  ⟨(some (some 35, false)), some 37, (Go.Op.nilCheck (Go.Operand.tmp 36)), .pure, true, true⟩,
  ⟨(some (some 35, false)), some 38, (Go.Op.fieldAddr 58 (Go.Operand.tmp 37) 0), .pure, true, true⟩,
  ⟨(some (some 35, false)), some 39, (Go.Op.fieldAddr 27 (Go.Operand.tmp 38) 0), .pure, true, true⟩,
  ⟨(some (some 35, false)), some 40, (Go.Op.load 25 (Go.Operand.tmp 39)), .look, false, true⟩,
  ⟨(some (some 35, false)), some 41, (Go.Op.move (Go.Operand.tmp 8)), .pure, false, true⟩,
  ⟨(some (some 35, false)), some 42, (Go.Op.indexAddr 25 (Go.Operand.tmp 40) (Go.Operand.tmp 41)), .pure, true, true⟩,
  ⟨(some (some 35, false)), some 43, (Go.Op.fieldAddr 46 (Go.Operand.tmp 42) 3), .pure, true, true⟩,
  ⟨(some (some 35, false)), some 44, (Go.Op.load 3 (Go.Operand.tmp 43)), .look, false, true⟩,
  ⟨(some (some 35, false)), some 45, (Go.Op.move (Go.Operand.tmp 1)), .pure, false, true⟩,
  ⟨(some (some 35, false)), some 46, (Go.Op.binOp Go.BinOp.neq 3 (Go.Operand.tmp 44) (Go.Operand.tmp 45) 3), .pure, true, true⟩,
  ⟨none, some 47, (Go.Op.pick (Go.Operand.tmp 35) (Go.Operand.const (Go.Value.bool true)) (Go.Operand.tmp 46)), .pure, true, true⟩,
  ⟨none, some 48, (Go.Op.move (Go.Operand.tmp 47)), .pure, true, true⟩,
  ⟨(some (some 48, false)), some 49, (Go.Op.move (Go.Operand.tmp 0)), .pure, true, true⟩,
  ⟨(some (some 48, false)), some 50, (Go.Op.nilCheck (Go.Operand.tmp 49)), .pure, true, true⟩,
  ⟨(some (some 48, false)), some 51, (Go.Op.fieldAddr 58 (Go.Operand.tmp 50) 0), .pure, true, true⟩,
  ⟨(some (some 48, false)), some 52, (Go.Op.fieldAddr 27 (Go.Operand.tmp 51) 0), .pure, true, true⟩,
  ⟨(some (some 48, false)), some 53, (Go.Op.load 25 (Go.Operand.tmp 52)), .look, false, true⟩,
  ⟨(some (some 48, false)), some 54, (Go.Op.move (Go.Operand.tmp 8)), .pure, false, true⟩,
  ⟨(some (some 48, false)), some 55, (Go.Op.indexAddr 25 (Go.Operand.tmp 53) (Go.Operand.tmp 54)), .pure, true, true⟩,
  ⟨(some (some 48, false)), some 56, (Go.Op.fieldAddr 46 (Go.Operand.tmp 55) 1), .pure, true, true⟩,
  ⟨(some (some 48, false)), some 57, (Go.Op.load 3 (Go.Operand.tmp 56)), .look, false, true⟩,
  ⟨(some (some 48, false)), some 58, (Go.Op.move (Go.Operand.tmp 6)), .pure, false, true⟩,
  ⟨(some (some 48, false)), some 59, (Go.Op.binOp Go.BinOp.lss 3 (Go.Operand.tmp 57) (Go.Operand.tmp 58) 3), .pure, true, true⟩,
  ⟨none, some 60, (Go.Op.pick (Go.Operand.tmp 48) (Go.Operand.const (Go.Value.bool true)) (Go.Operand.tmp 59)), .pure, true, true⟩,
  ⟨none, some 61, (Go.Op.move (Go.Operand.tmp 60)), .pure, true, true⟩,
  ⟨(some (some 61, false)), some 62, (Go.Op.move (Go.Operand.tmp 0)), .pure, false, true⟩,
  ⟨(some (some 61, false)), some 63, (Go.Op.nilCheck (Go.Operand.tmp 62)), .pure, false, true⟩,
  ⟨(some (some 61, false)), some 64, (Go.Op.fieldAddr 58 (Go.Operand.tmp 63) 0), .pure, false, true⟩,
  ⟨(some (some 61, false)), some 65, (Go.Op.fieldAddr 27 (Go.Operand.tmp 64) 0), .pure, false, true⟩,
  ⟨(some (some 61, false)), some 66, (Go.Op.load 25 (Go.Operand.tmp 65)), .look, false, true⟩,
  ⟨(some (some 61, false)), some 67, (Go.Op.move (Go.Operand.tmp 8)), .pure, false, true⟩,
  ⟨(some (some 61, false)), some 68, (Go.Op.indexAddr 25 (Go.Operand.tmp 66) (Go.Operand.tmp 67)), .pure, false, true⟩,
  ⟨(some (some 61, false)), some 69, (Go.Op.fieldAddr 46 (Go.Operand.tmp 68) 2), .pure, false, true⟩,
  ⟨(some (some 61, false)), some 70, (Go.Op.load 3 (Go.Operand.tmp 69)), .look, false, true⟩,
  ⟨(some (some 61, false)), some 71, (Go.Op.fieldAddr 46 (Go.Operand.tmp 5) 2), .pure, false, true⟩,
  ⟨(some (some 61, false)), some 72, (Go.Op.load 3 (Go.Operand.tmp 71)), .look, false, true⟩,
  ⟨(some (some 61, false)), some 73, (Go.Op.binOp Go.BinOp.gtr 3 (Go.Operand.tmp 70) (Go.Operand.tmp 72) 3), .pure, true, true⟩,
  ⟨none, some 74, (Go.Op.pick (Go.Operand.tmp 61) (Go.Operand.const (Go.Value.bool true)) (Go.Operand.tmp 73)), .pure, true, true⟩]
def r32_7 : List COp := [⟨none, some 4, (Go.Op.assign (Go.Operand.const (Go.Value.bool false)))⟩]
def r32_8 : List COp := [⟨none, some 75, (Go.Op.move (Go.Operand.tmp 0))⟩,
  ⟨none, some 76, (Go.Op.nilCheck (Go.Operand.tmp 75))⟩,
  ⟨none, some 77, (Go.Op.fieldAddr 58 (Go.Operand.tmp 76) 0)⟩,
  ⟨none, some 78, (Go.Op.fieldAddr 27 (Go.Operand.tmp 77) 0)⟩,
  ⟨none, some 79, (Go.Op.load 25 (Go.Operand.tmp 78))⟩,
  ⟨none, some 80, (Go.Op.move (Go.Operand.tmp 8))⟩,
  ⟨none, some 81, (Go.Op.indexAddr 25 (Go.Operand.tmp 79) (Go.Operand.tmp 80))⟩,
  ⟨none, some 82, (Go.Op.fieldAddr 46 (Go.Operand.tmp 81) 2)⟩,
  ⟨none, some 83, (Go.Op.load 3 (Go.Operand.tmp 82))⟩,
  ⟨none, some 6, (Go.Op.assign (Go.Operand.tmp 83))⟩]
def r32_9 : List COp := [⟨none, some 84, (Go.Op.binOp Go.BinOp.add 3 (Go.Operand.tmp 22) (Go.Operand.const (Go.Value.int Go.IntKind.i64 1)) 3)⟩,
  ⟨none, some 22, (Go.Op.move (Go.Operand.tmp 84))⟩]
def r32_10 : List COp := [⟨none, some 85, (Go.Op.fieldAddr 46 (Go.Operand.tmp 5) 1)⟩,
  ⟨none, some 86, (Go.Op.load 3 (Go.Operand.tmp 85))⟩,
  ⟨none, some 87, (Go.Op.fieldAddr 46 (Go.Operand.tmp 5) 2)⟩,
  ⟨none, some 88, (Go.Op.load 3 (Go.Operand.tmp 87))⟩,
  ⟨none, some 89, (Go.Op.binOp Go.BinOp.leq 3 (Go.Operand.tmp 86) (Go.Operand.tmp 88) 3)⟩,
  ⟨none, some 4, (Go.Op.assign (Go.Operand.tmp 89))⟩]
def arena_forest_lies_l0 (F : Nat) (a0 : arena_forest) (a1 : Int) : Nat → Int → Int → Int → Int → Int → (List Int) → Bool → Int → (List Int) → Int → Int → Option (Sum (Int × Int × Int × Int × (List Int) × Bool) Bool)
  | 0, _, _, _, _, _, _, _, _, _, _, _ => none
  | n + 1, x6412, x6414, x6415, x6416, x6417, x6418, x6421, x6422, x6423, x6426, x6427 =>
    if x6427 < x6426 then
      if 0 ≤ x6427 ∧ x6427 < (x6423.length : Int) then
        (x6423[x6427.toNat]?).bind fun x6674 =>
        if x6674 ≤ x6412 then
          some (.inr false)
        else
          (arena_forest_has F a0 x6674).bind fun r6854 =>
          if r6854 = true then
            if 0 ≤ x6674 ∧ x6674 < (a0.Tree.Nodes.length : Int) then
              (a0.Tree.Nodes[x6674.toNat]?).bind fun x6870 =>
              if x6870.Up = x6412 then
                if 0 ≤ x6674 ∧ x6674 < (a0.Tree.Nodes.length : Int) then
                  (a0.Tree.Nodes[x6674.toNat]?).bind fun x6880 =>
                  if x6880.From < x6422 then
                    some (.inr false)
                  else
                    if 0 ≤ x6674 ∧ x6674 < (a0.Tree.Nodes.length : Int) then
                      (a0.Tree.Nodes[x6674.toNat]?).bind fun x6891 =>
                      if x6416 < x6891.To then
                        some (.inr false)
                      else
                        if 0 ≤ x6674 ∧ x6674 < (a0.Tree.Nodes.length : Int) then
                          (a0.Tree.Nodes[x6674.toNat]?).bind fun x6903 =>
                          arena_forest_lies_l0 F a0 a1 n x6412 x6414 x6415 x6416 x6417 x6418 x6421 x6903.To x6423 x6426 (w64 (x6427 + 1))
                        else none
                    else none
                else none
              else
                some (.inr false)
            else none
          else
            some (.inr false)
      else none
    else
      some (.inl (x6414, x6415, x6416, x6417, x6418, x6421))
def arena_forest_lies (F : Nat) (a0 : arena_forest) (a1 : Int) : Option Bool :=
  if 0 ≤ a1 ∧ a1 < (a0.Tree.Nodes.length : Int) then
    (a0.Tree.Nodes[a1.toNat]?).bind fun x5382 =>
    ((arena_forest_lies_l0 F a0 a1 F a1 x5382.Kind x5382.From x5382.To x5382.Up x5382.Kids x5382.Key x5382.From x5382.Kids (x5382.Kids.length : Int) 0) : Option (Sum (Int × Int × Int × Int × (List Int) × Bool) Bool)).bind fun o => match o with
      | .inl (x6924, x6925, x6926, x6927, x6928, x6931) => if x6925 ≤ x6926 then
        some true
      else
        some false
      | .inr y => some y
  else none
theorem arena_forest_lies_ok (F : Nat) {h : AH} {Z : Zn} {a0 : arena_forest} {a1 : Int} {b4335 : Nat} {v4337 : Value} {c4338 : List Value} (hP : Pre Z h [.blk b4335 [v4337], .gs v4337 c4338 (csz api_Node)]) (q4336 : RCs (α := api_Node) Z c4338 a0.Tree.Nodes) {r : Bool} (hm : arena_forest_lies F a0 a1 = some r) :
    ∃ v h' Z' A', callI Go.Proofs.Try.prog 32 [.pointer (some ⟨b4335, 0, none⟩), .int .i64 a1] h = some (v, h') ∧ St h (idsL [.blk b4335 [v4337], .gs v4337 c4338 (csz api_Node)]) Z (0, 0) Z' h' A' ∧ .bool r = v ∧ A' = [.blk b4335 [v4337], .gs v4337 c4338 (csz api_Node)] := by
  refine fn_intro (A := [.blk b4335 [v4337], .gs v4337 c4338 (csz api_Node)]) (Q := fun v Z' A' => .bool r = v ∧ A' = [.blk b4335 [v4337], .gs v4337 c4338 (csz api_Node)]) Go.Proofs.Try.func32 rfl rfl (by kernel_rfl) hP ?_
  intro hs hS
  unfold arena_forest_lies at hm
  refine W_seq (by kernel_rfl) ?_
  refine W_region (R := r32_0) (by kernel_rfl) ?_
  refine r_run 1 (l' := [(4, .bool false), (0, .pointer (some ⟨b4335, 0, none⟩)), (1, .int .i64 a1)]) (by kernel_rfl) ?_
  refine r_forget [0, 1] (l' := [(0, .pointer (some ⟨b4335, 0, none⟩)), (1, .int .i64 a1)]) (by kernel_rfl) ?_
  refine r_end rfl ?_
  refine W_seq (by kernel_rfl) ?_
  refine W_region (R := r32_1) (by kernel_rfl) ?_
  refine r_run 4 (l' := [(12, .pointer (some ⟨b4335, 0, none⟩)), (11, .pointer (some ⟨b4335, 0, none⟩)), (10, .pointer (some ⟨b4335, 0, none⟩)), (9, .pointer (some ⟨b4335, 0, none⟩)), (0, .pointer (some ⟨b4335, 0, none⟩)), (1, .int .i64 a1)]) (by kernel_rfl) ?_
  refine r_step rfl trivial (o_ldb (v := v4337) hS (i := 0) rfl rfl (by kernel_rfl)) ?_
  refine r_run 1 (l' := [(14, .int .i64 a1), (13, v4337), (12, .pointer (some ⟨b4335, 0, none⟩)), (11, .pointer (some ⟨b4335, 0, none⟩)), (10, .pointer (some ⟨b4335, 0, none⟩)), (9, .pointer (some ⟨b4335, 0, none⟩)), (0, .pointer (some ⟨b4335, 0, none⟩)), (1, .int .i64 a1)]) (by kernel_rfl) ?_
  obtain ⟨hc5381, hm⟩ := chk hm
  refine r_step rfl trivial (o_index rfl rfl (by kernel_rfl : slTy _ _ = some (csz api_Node)) (hS.gbased (j := 1) rfl q4336 (by omega)) hc5381.1 hc5381.2) ?_
  obtain ⟨x5382, hx5383, hm⟩ := obind hm
  obtain ⟨cs5384, hc5385, he5386, ht5387⟩ := hS.gel (j := 1) rfl q4336 (i := a1) hx5383
  obtain ⟨v5388, q5389, rfl⟩ := rc_api_Node hc5385
  refine r_step rfl trivial (o_lde (w := .agg #[.int .i64 x5382.Kind, .int .i64 x5382.From, .int .i64 x5382.To, .int .i64 x5382.Up, v5388, .bool x5382.Key]) he5386 rfl (by kernel_rfl)) ?_
  refine r_blk rfl trivial (o_alloc (cs := [.int .i64 0, .int .i64 0, .int .i64 0, .int .i64 0, .slice none 0 0, .bool false]) (by kernel_rfl)) hS ?_
  intro b5390 h5391 hS5392
  refine r_ex1 rfl trivial (o_stb (vs := [.int .i64 x5382.Kind, .int .i64 x5382.From, .int .i64 x5382.To, .int .i64 x5382.Up, v5388, .bool x5382.Key]) (cells' := [.int .i64 x5382.Kind, .int .i64 x5382.From, .int .i64 x5382.To, .int .i64 x5382.Up, v5388, .bool x5382.Key]) (L' := [.blk b5390 [.int .i64 x5382.Kind, .int .i64 x5382.From, .int .i64 x5382.To, .int .i64 x5382.Up, v5388, .bool x5382.Key], .blk b4335 [v4337], .gs v4337 c4338 (csz api_Node)]) hS5392 (i := 0) rfl rfl rfl rfl (by kernel_rfl) (one_cons rfl (one_cons rfl (one_cons rfl (one_cons rfl (one_cons (RS.one1 q5389) (one_cons rfl one_nil)))))) rfl rfl rfl) ?_
  intro h5393 hS5394
  refine r_forget [5, 0, 1] (l' := [(5, .pointer (some ⟨b5390, 0, none⟩)), (0, .pointer (some ⟨b4335, 0, none⟩)), (1, .int .i64 a1)]) (by kernel_rfl) ?_
  refine r_end rfl ?_
  refine W_seq (by kernel_rfl) ?_
  refine W_region (R := r32_2) (by kernel_rfl) ?_
  refine r_run 1 (l' := [(17, .pointer (some ⟨b5390, 1, none⟩)), (5, .pointer (some ⟨b5390, 0, none⟩)), (0, .pointer (some ⟨b4335, 0, none⟩)), (1, .int .i64 a1)]) (by kernel_rfl) ?_
  refine r_step rfl trivial (o_ldb (v := .int .i64 x5382.From) hS5394 (i := 0) rfl rfl (by kernel_rfl)) ?_
  refine r_run 1 (l' := [(6, .int .i64 x5382.From), (18, .int .i64 x5382.From), (17, .pointer (some ⟨b5390, 1, none⟩)), (5, .pointer (some ⟨b5390, 0, none⟩)), (0, .pointer (some ⟨b4335, 0, none⟩)), (1, .int .i64 a1)]) (by kernel_rfl) ?_
  refine r_forget [6, 5, 0, 1] (l' := [(6, .int .i64 x5382.From), (5, .pointer (some ⟨b5390, 0, none⟩)), (0, .pointer (some ⟨b4335, 0, none⟩)), (1, .int .i64 a1)]) (by kernel_rfl) ?_
  refine r_end rfl ?_
  refine W_seq (by kernel_rfl) ?_
  refine W_seq (by kernel_rfl) ?_
  refine W_region (R := r32_3) (by kernel_rfl) ?_
  refine r_run 1 (l' := [(19, .pointer (some ⟨b5390, 4, none⟩)), (6, .int .i64 x5382.From), (5, .pointer (some ⟨b5390, 0, none⟩)), (0, .pointer (some ⟨b4335, 0, none⟩)), (1, .int .i64 a1)]) (by kernel_rfl) ?_
  refine r_step rfl trivial (o_ldb (v := v5388) hS5394 (i := 0) rfl rfl (by kernel_rfl)) ?_
  refine r_step rfl trivial (o_len rfl (RS.len q5389) ⟨_, Go.Proofs.Try.underlying44⟩) ?_
  refine r_run 1 (l' := [(22, .int .i64 0), (21, .int .i64 (x5382.Kids.length : Int)), (20, v5388), (19, .pointer (some ⟨b5390, 4, none⟩)), (6, .int .i64 x5382.From), (5, .pointer (some ⟨b5390, 0, none⟩)), (0, .pointer (some ⟨b4335, 0, none⟩)), (1, .int .i64 a1)]) (by kernel_rfl) ?_
  refine r_forget [22, 21, 20, 6, 5, 0, 1] (l' := [(22, .int .i64 0), (21, .int .i64 (x5382.Kids.length : Int)), (20, v5388), (6, .int .i64 x5382.From), (5, .pointer (some ⟨b5390, 0, none⟩)), (0, .pointer (some ⟨b4335, 0, none⟩)), (1, .int .i64 a1)]) (by kernel_rfl) ?_
  refine r_end rfl ?_
  obtain ⟨o6410, ho6409, hm⟩ := obind hm
  refine W_join [5] (fun l h => ∃ Z6922 : Zn, ∃ x6924 : Int, ∃ x6925 : Int, ∃ x6926 : Int, ∃ x6927 : Int, ∃ x6928 : List Int, ∃ x6931 : Bool, ∃ b6923 : Nat, ∃ v6930 : Value, .inl (x6924, x6925, x6926, x6927, x6928, x6931) = o6410 ∧ RS (α := Int) Z6922 v6930 x6928 ∧ l = [(5, .pointer (some ⟨b6923, 0, none⟩))] ∧ St hs (idsL [.blk b4335 [v4337], .gs v4337 c4338 (csz api_Node)]) Z (0, 0) Z6922 h [.blk b4335 [v4337], .gs v4337 c4338 (csz api_Node), .blk b6923 [.int .i64 x6924, .int .i64 x6925, .int .i64 x6926, .int .i64 x6927, v6930, .bool x6931]]) ?_ ?_
  · rintro l h6932 ⟨Z6922, x6924, x6925, x6926, x6927, x6928, x6931, b6923, v6930, rfl, q6929, rfl, hS6933⟩
    try dsimp only at hm
    refine W_seq (by kernel_rfl) ?_
    refine W_region (R := r32_10) (by kernel_rfl) ?_
    refine r_run 1 (l' := [(85, .pointer (some ⟨b6923, 1, none⟩)), (5, .pointer (some ⟨b6923, 0, none⟩))]) (by kernel_rfl) ?_
    refine r_step rfl trivial (o_ldb (v := .int .i64 x6925) hS6933 (i := 2) rfl rfl (by kernel_rfl)) ?_
    refine r_run 1 (l' := [(87, .pointer (some ⟨b6923, 2, none⟩)), (86, .int .i64 x6925), (85, .pointer (some ⟨b6923, 1, none⟩)), (5, .pointer (some ⟨b6923, 0, none⟩))]) (by kernel_rfl) ?_
    refine r_step rfl trivial (o_ldb (v := .int .i64 x6926) hS6933 (i := 2) rfl rfl (by kernel_rfl)) ?_
    rcases ifs hm with ⟨hp6935, hm⟩ | ⟨hp6935, hm⟩
    · refine r_step rfl trivial (o_cmp rfl rfl (c_leq_T hp6935)) ?_
      refine r_run 1 (l' := [(4, .bool true), (89, .bool true), (88, .int .i64 x6926), (87, .pointer (some ⟨b6923, 2, none⟩)), (86, .int .i64 x6925), (85, .pointer (some ⟨b6923, 1, none⟩)), (5, .pointer (some ⟨b6923, 0, none⟩))]) (by kernel_rfl) ?_
      refine r_forget [4] (l' := [(4, .bool true)]) (by kernel_rfl) ?_
      refine r_end rfl ?_
      refine W_ret (by kernel_rfl) ?_
      refine ⟨rfl, ?_⟩
      obtain rfl := Option.some.inj hm
      refine ⟨_, _, _, ResL.tmp rfl (ResL.nil), (hS6933.takeN 2), ?_⟩
      exact ⟨rfl, rfl⟩
    · refine r_step rfl trivial (o_cmp rfl rfl (c_leq_F hp6935)) ?_
      refine r_run 1 (l' := [(4, .bool false), (89, .bool false), (88, .int .i64 x6926), (87, .pointer (some ⟨b6923, 2, none⟩)), (86, .int .i64 x6925), (85, .pointer (some ⟨b6923, 1, none⟩)), (5, .pointer (some ⟨b6923, 0, none⟩))]) (by kernel_rfl) ?_
      refine r_forget [4] (l' := [(4, .bool false)]) (by kernel_rfl) ?_
      refine r_end rfl ?_
      refine W_ret (by kernel_rfl) ?_
      refine ⟨rfl, ?_⟩
      obtain rfl := Option.some.inj hm
      refine ⟨_, _, _, ResL.tmp rfl (ResL.nil), (hS6933.takeN 2), ?_⟩
      exact ⟨rfl, rfl⟩
  · refine W_block (i := 0) (by kernel_rfl) ?_
    refine W_loop [0, 1, 5, 6, 20, 21, 22] (fun n l h => ∃ Z6411 : Zn, ∃ x6412 : Int, ∃ x6414 : Int, ∃ x6415 : Int, ∃ x6416 : Int, ∃ x6417 : Int, ∃ x6418 : List Int, ∃ x6421 : Bool, ∃ x6422 : Int, ∃ x6423 : List Int, ∃ x6426 : Int, ∃ x6427 : Int, ∃ b6413 : Nat, ∃ v6420 : Value, ∃ v6425 : Value, arena_forest_lies_l0 F a0 a1 n x6412 x6414 x6415 x6416 x6417 x6418 x6421 x6422 x6423 x6426 x6427 = some o6410 ∧ RS (α := Int) Z6411 v6420 x6418 ∧ RS (α := Int) Z6411 v6425 x6423 ∧ l = [(0, .pointer (some ⟨b4335, 0, none⟩)), (1, .int .i64 x6412), (5, .pointer (some ⟨b6413, 0, none⟩)), (6, .int .i64 x6422), (20, v6425), (21, .int .i64 x6426), (22, .int .i64 x6427)] ∧ St hs (idsL [.blk b4335 [v4337], .gs v4337 c4338 (csz api_Node)]) Z (0, 0) Z6411 h [.blk b4335 [v4337], .gs v4337 c4338 (csz api_Node), .blk b6413 [.int .i64 x6414, .int .i64 x6415, .int .i64 x6416, .int .i64 x6417, v6420, .bool x6421]]) F (by kernel_rfl) ⟨_, a1, x5382.Kind, x5382.From, x5382.To, x5382.Up, x5382.Kids, x5382.Key, x5382.From, x5382.Kids, (x5382.Kids.length : Int), 0, b5390, v5388, v5388, ho6409, q5389, q5389, rfl, (((hS5394.front 0 rfl).front 2 rfl).front 2 rfl)⟩ ?_
    rintro n6430 l h6428 ⟨Z6411, x6412, x6414, x6415, x6416, x6417, x6418, x6421, x6422, x6423, x6426, x6427, b6413, v6420, v6425, ho6409, q6419, q6424, rfl, hS6429⟩
    cases n6430 with
    | zero => cases (show none = some o6410 from ho6409)
    | succ n6430 =>
      rw [arena_forest_lies_l0] at ho6409
      refine W_seq (by kernel_rfl) ?_
      refine W_region (R := r32_4) (by kernel_rfl) ?_
      rcases ifs ho6409 with ⟨hp6432, ho6409⟩ | ⟨hp6432, ho6409⟩
      · refine r_step rfl trivial (o_cmp rfl rfl (c_lss_T hp6432)) ?_
        refine r_forget [23, 0, 1, 5, 6, 20, 21, 22] (l' := [(23, .bool true), (0, .pointer (some ⟨b4335, 0, none⟩)), (1, .int .i64 x6412), (5, .pointer (some ⟨b6413, 0, none⟩)), (6, .int .i64 x6422), (20, v6425), (21, .int .i64 x6426), (22, .int .i64 x6427)]) (by kernel_rfl) ?_
        refine r_end rfl ?_
        refine W_seq (by kernel_rfl) ?_
        refine W_condT (x := .tmp 23) (by kernel_rfl) rfl rfl ?_
        refine W_skip (by kernel_rfl) ?_
        refine W_seq (by kernel_rfl) ?_
        refine W_block (i := 1) (by kernel_rfl) ?_
        refine W_seq (by kernel_rfl) ?_
        refine W_region (R := r32_5) (by kernel_rfl) ?_
        obtain ⟨hc6673, ho6409⟩ := chk ho6409
        refine r_step rfl trivial (o_index rfl rfl (by kernel_rfl : slTy _ _ = some (csz Int)) (RS.based q6424 (by omega)) hc6673.1 hc6673.2) ?_
        obtain ⟨x6674, hx6675, ho6409⟩ := obind ho6409
        obtain ⟨cs6676, hc6677, he6678⟩ := RS.el q6424 hS6429.inv (i := x6427) hx6675
        obtain rfl := rc_Int hc6677
        refine r_step rfl trivial (o_lde (w := .int .i64 x6674) he6678 rfl (by kernel_rfl)) ?_
        refine r_run 1 (l' := [(8, .int .i64 x6674), (25, .int .i64 x6674), (24, .pointer (some (elemA v6425 x6427 (csz Int) 0))), (23, .bool true), (0, .pointer (some ⟨b4335, 0, none⟩)), (1, .int .i64 x6412), (5, .pointer (some ⟨b6413, 0, none⟩)), (6, .int .i64 x6422), (20, v6425), (21, .int .i64 x6426), (22, .int .i64 x6427)]) (by kernel_rfl) ?_
        refine r_forget [8, 0, 1, 5, 6, 20, 21, 22] (l' := [(8, .int .i64 x6674), (0, .pointer (some ⟨b4335, 0, none⟩)), (1, .int .i64 x6412), (5, .pointer (some ⟨b6413, 0, none⟩)), (6, .int .i64 x6422), (20, v6425), (21, .int .i64 x6426), (22, .int .i64 x6427)]) (by kernel_rfl) ?_
        refine r_end rfl ?_
        refine W_seq (by kernel_rfl) ?_
        refine W_seq (by kernel_rfl) ?_
        refine W_regionD (R := r32_6) (by kernel_rfl) hS6429 ?_
        intro bs6848 h6849 hlv6851 hS6850
        refine d_run 2 (l' := [(27, .int .i64 x6412), (26, .int .i64 x6674), (8, .int .i64 x6674), (0, .pointer (some ⟨b4335, 0, none⟩)), (1, .int .i64 x6412), (5, .pointer (some ⟨b6413, 0, none⟩)), (6, .int .i64 x6422), (20, v6425), (21, .int .i64 x6426), (22, .int .i64 x6427)]) (by kernel_rfl) ?_
        rcases ifs ho6409 with ⟨hp6852, ho6409⟩ | ⟨hp6852, ho6409⟩
        · refine d_val rfl trivial (o_cmp rfl rfl (c_leq_T hp6852)) ?_
          refine d_run 46 (l' := [(74, .bool true), (73, undef), (72, undef), (71, undef), (70, undef), (69, undef), (68, undef), (67, undef), (66, undef), (65, undef), (64, undef), (63, undef), (62, undef), (61, .bool true), (60, .bool true), (59, undef), (58, undef), (57, undef), (56, undef), (55, undef), (54, undef), (53, undef), (52, undef), (51, undef), (50, undef), (49, undef), (48, .bool true), (47, .bool true), (46, undef), (45, undef), (44, undef), (43, undef), (42, undef), (41, undef), (40, undef), (39, undef), (38, undef), (37, undef), (36, undef), (35, .bool true), (34, .bool true), (33, undef), (32, undef), (31, undef), (30, undef), (29, .bool true), (28, .bool true), (27, .int .i64 x6412), (26, .int .i64 x6674), (8, .int .i64 x6674), (0, .pointer (some ⟨b4335, 0, none⟩)), (1, .int .i64 x6412), (5, .pointer (some ⟨b6413, 0, none⟩)), (6, .int .i64 x6422), (20, v6425), (21, .int .i64 x6426), (22, .int .i64 x6427)]) (by kernel_rfl) ?_
          refine d_forget [74, 8, 0, 1, 5, 20, 21, 22] (l' := [(74, .bool true), (8, .int .i64 x6674), (0, .pointer (some ⟨b4335, 0, none⟩)), (1, .int .i64 x6412), (5, .pointer (some ⟨b6413, 0, none⟩)), (20, v6425), (21, .int .i64 x6426), (22, .int .i64 x6427)]) (by kernel_rfl) ?_
          refine d_end rfl ?_
          have hS6853 := hS6850.unres
          refine W_condT (x := .tmp 74) (by kernel_rfl) rfl rfl ?_
          refine W_seq (by kernel_rfl) ?_
          refine W_region (R := r32_7) (by kernel_rfl) ?_
          refine r_run 1 (l' := [(4, .bool false), (74, .bool true), (8, .int .i64 x6674), (0, .pointer (some ⟨b4335, 0, none⟩)), (1, .int .i64 x6412), (5, .pointer (some ⟨b6413, 0, none⟩)), (20, v6425), (21, .int .i64 x6426), (22, .int .i64 x6427)]) (by kernel_rfl) ?_
          refine r_forget [4] (l' := [(4, .bool false)]) (by kernel_rfl) ?_
          refine r_end rfl ?_
          refine W_ret (by kernel_rfl) ?_
          refine blkX_ret ?_
          refine blkX_ret ?_
          refine ⟨rfl, ?_⟩
          obtain rfl := Option.some.inj ho6409
          obtain rfl := Option.some.inj hm
          refine ⟨_, _, _, ResL.tmp rfl (ResL.nil), (hS6853.takeN 2), ?_⟩
          exact ⟨rfl, rfl⟩
        · refine d_val rfl trivial (o_cmp rfl rfl (c_leq_F hp6852)) ?_
          refine d_run 3 (l' := [(31, .int .i64 x6674), (30, .pointer (some ⟨b4335, 0, none⟩)), (29, .bool false), (28, .bool false), (27, .int .i64 x6412), (26, .int .i64 x6674), (8, .int .i64 x6674), (0, .pointer (some ⟨b4335, 0, none⟩)), (1, .int .i64 x6412), (5, .pointer (some ⟨b6413, 0, none⟩)), (6, .int .i64 x6422), (20, v6425), (21, .int .i64 x6426), (22, .int .i64 x6427)]) (by kernel_rfl) ?_
          obtain ⟨r6854, hx6855, ho6409⟩ := obind ho6409
          have hSl6861 := hS6850.lown
          have hSr6862 : St _ _ _ _ _ _ ([.blk b4335 [v4337], .gs v4337 c4338 (csz api_Node)] ++ [.blk b6413 [.int .i64 x6414, .int .i64 x6415, .int .i64 x6416, .int .i64 x6417, v6420, .bool x6421]]) := ((hSl6861.front 1 rfl).front 1 rfl)
          obtain ⟨v6856, h6857, Z6863, A6865, hcl6858, hSc6859, rfl, rfl⟩ := arena_forest_has_ok F hSr6862.preL (q4336.mono hS6429.zle) hx6855
          have hS6860 := hSr6862.call hSc6859
          have hZ6864 := hSc6859.zle
          replace hS6860 : St _ _ _ _ _ _ [.blk b4335 [v4337], .gs v4337 c4338 (csz api_Node), .blk b6413 [.int .i64 x6414, .int .i64 x6415, .int .i64 x6416, .int .i64 x6417, v6420, .bool x6421]] := hS6860
          refine d_make rfl rfl hS6850 (o_call hcl6858 rfl rfl rfl) hS6860 (.ord rfl) ?_
          intro h6866 hS6867
          rcases ifs ho6409 with ⟨hp6868, ho6409⟩ | ⟨hp6868, ho6409⟩
          · refine d_setb (t := 32) rfl hp6868 ?_
            refine d_run 7 (l' := [(39, .pointer (some ⟨b4335, 0, none⟩)), (38, .pointer (some ⟨b4335, 0, none⟩)), (37, .pointer (some ⟨b4335, 0, none⟩)), (36, .pointer (some ⟨b4335, 0, none⟩)), (35, .bool false), (34, .bool false), (33, .bool false), (32, .bool true), (32, .bool r6854), (31, .int .i64 x6674), (30, .pointer (some ⟨b4335, 0, none⟩)), (29, .bool false), (28, .bool false), (27, .int .i64 x6412), (26, .int .i64 x6674), (8, .int .i64 x6674), (0, .pointer (some ⟨b4335, 0, none⟩)), (1, .int .i64 x6412), (5, .pointer (some ⟨b6413, 0, none⟩)), (6, .int .i64 x6422), (20, v6425), (21, .int .i64 x6426), (22, .int .i64 x6427)]) (by kernel_rfl) ?_
            refine d_look rfl rfl rfl (o_ldb (v := v4337) hS6867 (i := 0) rfl rfl (by kernel_rfl)) ?_
            refine d_run 1 (l' := [(41, .int .i64 x6674), (40, v4337), (39, .pointer (some ⟨b4335, 0, none⟩)), (38, .pointer (some ⟨b4335, 0, none⟩)), (37, .pointer (some ⟨b4335, 0, none⟩)), (36, .pointer (some ⟨b4335, 0, none⟩)), (35, .bool false), (34, .bool false), (33, .bool false), (32, .bool true), (32, .bool r6854), (31, .int .i64 x6674), (30, .pointer (some ⟨b4335, 0, none⟩)), (29, .bool false), (28, .bool false), (27, .int .i64 x6412), (26, .int .i64 x6674), (8, .int .i64 x6674), (0, .pointer (some ⟨b4335, 0, none⟩)), (1, .int .i64 x6412), (5, .pointer (some ⟨b6413, 0, none⟩)), (6, .int .i64 x6422), (20, v6425), (21, .int .i64 x6426), (22, .int .i64 x6427)]) (by kernel_rfl) ?_
            obtain ⟨hc6869, ho6409⟩ := chk ho6409
            refine d_val rfl rfl (o_index rfl rfl (by kernel_rfl : slTy _ _ = some (csz api_Node)) (hS6867.gbased (j := 1) rfl (q4336.mono (hS6429.zle.trans hZ6864)) (by omega)) hc6869.1 hc6869.2) ?_
            refine d_run 1 (l' := [(43, .pointer (some (elemA v4337 x6674 (csz api_Node) 3))), (42, .pointer (some (elemA v4337 x6674 (csz api_Node) 0))), (41, .int .i64 x6674), (40, v4337), (39, .pointer (some ⟨b4335, 0, none⟩)), (38, .pointer (some ⟨b4335, 0, none⟩)), (37, .pointer (some ⟨b4335, 0, none⟩)), (36, .pointer (some ⟨b4335, 0, none⟩)), (35, .bool false), (34, .bool false), (33, .bool false), (32, .bool true), (32, .bool r6854), (31, .int .i64 x6674), (30, .pointer (some ⟨b4335, 0, none⟩)), (29, .bool false), (28, .bool false), (27, .int .i64 x6412), (26, .int .i64 x6674), (8, .int .i64 x6674), (0, .pointer (some ⟨b4335, 0, none⟩)), (1, .int .i64 x6412), (5, .pointer (some ⟨b6413, 0, none⟩)), (6, .int .i64 x6422), (20, v6425), (21, .int .i64 x6426), (22, .int .i64 x6427)]) (by kernel_rfl) ?_
            obtain ⟨x6870, hx6871, ho6409⟩ := obind ho6409
            obtain ⟨cs6872, hc6873, he6874, ht6875⟩ := hS6867.gel (j := 1) rfl (q4336.mono (hS6429.zle.trans hZ6864)) (i := x6674) hx6871
            obtain ⟨v6876, q6877, rfl⟩ := rc_api_Node hc6873
            refine d_look rfl rfl rfl (o_lde (w := .int .i64 x6870.Up) he6874 rfl (by kernel_rfl)) ?_
            refine d_run 1 (l' := [(45, .int .i64 x6412), (44, .int .i64 x6870.Up), (43, .pointer (some (elemA v4337 x6674 (csz api_Node) 3))), (42, .pointer (some (elemA v4337 x6674 (csz api_Node) 0))), (41, .int .i64 x6674), (40, v4337), (39, .pointer (some ⟨b4335, 0, none⟩)), (38, .pointer (some ⟨b4335, 0, none⟩)), (37, .pointer (some ⟨b4335, 0, none⟩)), (36, .pointer (some ⟨b4335, 0, none⟩)), (35, .bool false), (34, .bool false), (33, .bool false), (32, .bool true), (32, .bool r6854), (31, .int .i64 x6674), (30, .pointer (some ⟨b4335, 0, none⟩)), (29, .bool false), (28, .bool false), (27, .int .i64 x6412), (26, .int .i64 x6674), (8, .int .i64 x6674), (0, .pointer (some ⟨b4335, 0, none⟩)), (1, .int .i64 x6412), (5, .pointer (some ⟨b6413, 0, none⟩)), (6, .int .i64 x6422), (20, v6425), (21, .int .i64 x6426), (22, .int .i64 x6427)]) (by kernel_rfl) ?_
            rcases ifs ho6409 with ⟨hp6878, ho6409⟩ | ⟨hp6878, ho6409⟩
            · refine d_val rfl rfl (o_cmp rfl rfl (c_neq_F hp6878)) ?_
              refine d_run 6 (l' := [(52, .pointer (some ⟨b4335, 0, none⟩)), (51, .pointer (some ⟨b4335, 0, none⟩)), (50, .pointer (some ⟨b4335, 0, none⟩)), (49, .pointer (some ⟨b4335, 0, none⟩)), (48, .bool false), (47, .bool false), (46, .bool false), (45, .int .i64 x6412), (44, .int .i64 x6870.Up), (43, .pointer (some (elemA v4337 x6674 (csz api_Node) 3))), (42, .pointer (some (elemA v4337 x6674 (csz api_Node) 0))), (41, .int .i64 x6674), (40, v4337), (39, .pointer (some ⟨b4335, 0, none⟩)), (38, .pointer (some ⟨b4335, 0, none⟩)), (37, .pointer (some ⟨b4335, 0, none⟩)), (36, .pointer (some ⟨b4335, 0, none⟩)), (35, .bool false), (34, .bool false), (33, .bool false), (32, .bool true), (32, .bool r6854), (31, .int .i64 x6674), (30, .pointer (some ⟨b4335, 0, none⟩)), (29, .bool false), (28, .bool false), (27, .int .i64 x6412), (26, .int .i64 x6674), (8, .int .i64 x6674), (0, .pointer (some ⟨b4335, 0, none⟩)), (1, .int .i64 x6412), (5, .pointer (some ⟨b6413, 0, none⟩)), (6, .int .i64 x6422), (20, v6425), (21, .int .i64 x6426), (22, .int .i64 x6427)]) (by kernel_rfl) ?_
              refine d_look rfl rfl rfl (o_ldb (v := v4337) hS6867 (i := 0) rfl rfl (by kernel_rfl)) ?_
              refine d_run 1 (l' := [(54, .int .i64 x6674), (53, v4337), (52, .pointer (some ⟨b4335, 0, none⟩)), (51, .pointer (some ⟨b4335, 0, none⟩)), (50, .pointer (some ⟨b4335, 0, none⟩)), (49, .pointer (some ⟨b4335, 0, none⟩)), (48, .bool false), (47, .bool false), (46, .bool false), (45, .int .i64 x6412), (44, .int .i64 x6870.Up), (43, .pointer (some (elemA v4337 x6674 (csz api_Node) 3))), (42, .pointer (some (elemA v4337 x6674 (csz api_Node) 0))), (41, .int .i64 x6674), (40, v4337), (39, .pointer (some ⟨b4335, 0, none⟩)), (38, .pointer (some ⟨b4335, 0, none⟩)), (37, .pointer (some ⟨b4335, 0, none⟩)), (36, .pointer (some ⟨b4335, 0, none⟩)), (35, .bool false), (34, .bool false), (33, .bool false), (32, .bool true), (32, .bool r6854), (31, .int .i64 x6674), (30, .pointer (some ⟨b4335, 0, none⟩)), (29, .bool false), (28, .bool false), (27, .int .i64 x6412), (26, .int .i64 x6674), (8, .int .i64 x6674), (0, .pointer (some ⟨b4335, 0, none⟩)), (1, .int .i64 x6412), (5, .pointer (some ⟨b6413, 0, none⟩)), (6, .int .i64 x6422), (20, v6425), (21, .int .i64 x6426), (22, .int .i64 x6427)]) (by kernel_rfl) ?_
              obtain ⟨hc6879, ho6409⟩ := chk ho6409
              refine d_val rfl rfl (o_index rfl rfl (by kernel_rfl : slTy _ _ = some (csz api_Node)) (hS6867.gbased (j := 1) rfl (q4336.mono (hS6429.zle.trans hZ6864)) (by omega)) hc6879.1 hc6879.2) ?_
              refine d_run 1 (l' := [(56, .pointer (some (elemA v4337 x6674 (csz api_Node) 1))), (55, .pointer (some (elemA v4337 x6674 (csz api_Node) 0))), (54, .int .i64 x6674), (53, v4337), (52, .pointer (some ⟨b4335, 0, none⟩)), (51, .pointer (some ⟨b4335, 0, none⟩)), (50, .pointer (some ⟨b4335, 0, none⟩)), (49, .pointer (some ⟨b4335, 0, none⟩)), (48, .bool false), (47, .bool false), (46, .bool false), (45, .int .i64 x6412), (44, .int .i64 x6870.Up), (43, .pointer (some (elemA v4337 x6674 (csz api_Node) 3))), (42, .pointer (some (elemA v4337 x6674 (csz api_Node) 0))), (41, .int .i64 x6674), (40, v4337), (39, .pointer (some ⟨b4335, 0, none⟩)), (38, .pointer (some ⟨b4335, 0, none⟩)), (37, .pointer (some ⟨b4335, 0, none⟩)), (36, .pointer (some ⟨b4335, 0, none⟩)), (35, .bool false), (34, .bool false), (33, .bool false), (32, .bool true), (32, .bool r6854), (31, .int .i64 x6674), (30, .pointer (some ⟨b4335, 0, none⟩)), (29, .bool false), (28, .bool false), (27, .int .i64 x6412), (26, .int .i64 x6674), (8, .int .i64 x6674), (0, .pointer (some ⟨b4335, 0, none⟩)), (1, .int .i64 x6412), (5, .pointer (some ⟨b6413, 0, none⟩)), (6, .int .i64 x6422), (20, v6425), (21, .int .i64 x6426), (22, .int .i64 x6427)]) (by kernel_rfl) ?_
              obtain ⟨x6880, hx6881, ho6409⟩ := obind ho6409
              obtain ⟨cs6882, hc6883, he6884, ht6885⟩ := hS6867.gel (j := 1) rfl (q4336.mono (hS6429.zle.trans hZ6864)) (i := x6674) hx6881
              obtain ⟨v6886, q6887, rfl⟩ := rc_api_Node hc6883
              refine d_look rfl rfl rfl (o_lde (w := .int .i64 x6880.From) he6884 rfl (by kernel_rfl)) ?_
              refine d_run 1 (l' := [(58, .int .i64 x6422), (57, .int .i64 x6880.From), (56, .pointer (some (elemA v4337 x6674 (csz api_Node) 1))), (55, .pointer (some (elemA v4337 x6674 (csz api_Node) 0))), (54, .int .i64 x6674), (53, v4337), (52, .pointer (some ⟨b4335, 0, none⟩)), (51, .pointer (some ⟨b4335, 0, none⟩)), (50, .pointer (some ⟨b4335, 0, none⟩)), (49, .pointer (some ⟨b4335, 0, none⟩)), (48, .bool false), (47, .bool false), (46, .bool false), (45, .int .i64 x6412), (44, .int .i64 x6870.Up), (43, .pointer (some (elemA v4337 x6674 (csz api_Node) 3))), (42, .pointer (some (elemA v4337 x6674 (csz api_Node) 0))), (41, .int .i64 x6674), (40, v4337), (39, .pointer (some ⟨b4335, 0, none⟩)), (38, .pointer (some ⟨b4335, 0, none⟩)), (37, .pointer (some ⟨b4335, 0, none⟩)), (36, .pointer (some ⟨b4335, 0, none⟩)), (35, .bool false), (34, .bool false), (33, .bool false), (32, .bool true), (32, .bool r6854), (31, .int .i64 x6674), (30, .pointer (some ⟨b4335, 0, none⟩)), (29, .bool false), (28, .bool false), (27, .int .i64 x6412), (26, .int .i64 x6674), (8, .int .i64 x6674), (0, .pointer (some ⟨b4335, 0, none⟩)), (1, .int .i64 x6412), (5, .pointer (some ⟨b6413, 0, none⟩)), (6, .int .i64 x6422), (20, v6425), (21, .int .i64 x6426), (22, .int .i64 x6427)]) (by kernel_rfl) ?_
              rcases ifs ho6409 with ⟨hp6888, ho6409⟩ | ⟨hp6888, ho6409⟩
              · refine d_val rfl rfl (o_cmp rfl rfl (c_lss_T hp6888)) ?_
                refine d_run 15 (l' := [(74, .bool true), (73, undef), (72, undef), (71, undef), (70, undef), (69, undef), (68, undef), (67, undef), (66, undef), (65, undef), (64, undef), (63, undef), (62, undef), (61, .bool true), (60, .bool true), (59, .bool true), (58, .int .i64 x6422), (57, .int .i64 x6880.From), (56, .pointer (some (elemA v4337 x6674 (csz api_Node) 1))), (55, .pointer (some (elemA v4337 x6674 (csz api_Node) 0))), (54, .int .i64 x6674), (53, v4337), (52, .pointer (some ⟨b4335, 0, none⟩)), (51, .pointer (some ⟨b4335, 0, none⟩)), (50, .pointer (some ⟨b4335, 0, none⟩)), (49, .pointer (some ⟨b4335, 0, none⟩)), (48, .bool false), (47, .bool false), (46, .bool false), (45, .int .i64 x6412), (44, .int .i64 x6870.Up), (43, .pointer (some (elemA v4337 x6674 (csz api_Node) 3))), (42, .pointer (some (elemA v4337 x6674 (csz api_Node) 0))), (41, .int .i64 x6674), (40, v4337), (39, .pointer (some ⟨b4335, 0, none⟩)), (38, .pointer (some ⟨b4335, 0, none⟩)), (37, .pointer (some ⟨b4335, 0, none⟩)), (36, .pointer (some ⟨b4335, 0, none⟩)), (35, .bool false), (34, .bool false), (33, .bool false), (32, .bool true), (32, .bool r6854), (31, .int .i64 x6674), (30, .pointer (some ⟨b4335, 0, none⟩)), (29, .bool false), (28, .bool false), (27, .int .i64 x6412), (26, .int .i64 x6674), (8, .int .i64 x6674), (0, .pointer (some ⟨b4335, 0, none⟩)), (1, .int .i64 x6412), (5, .pointer (some ⟨b6413, 0, none⟩)), (6, .int .i64 x6422), (20, v6425), (21, .int .i64 x6426), (22, .int .i64 x6427)]) (by kernel_rfl) ?_
                refine d_forget [74, 8, 0, 1, 5, 20, 21, 22] (l' := [(74, .bool true), (8, .int .i64 x6674), (0, .pointer (some ⟨b4335, 0, none⟩)), (1, .int .i64 x6412), (5, .pointer (some ⟨b6413, 0, none⟩)), (20, v6425), (21, .int .i64 x6426), (22, .int .i64 x6427)]) (by kernel_rfl) ?_
                refine d_end rfl ?_
                have hS6889 := hS6867.unres
                refine W_condT (x := .tmp 74) (by kernel_rfl) rfl rfl ?_
                refine W_seq (by kernel_rfl) ?_
                refine W_region (R := r32_7) (by kernel_rfl) ?_
                refine r_run 1 (l' := [(4, .bool false), (74, .bool true), (8, .int .i64 x6674), (0, .pointer (some ⟨b4335, 0, none⟩)), (1, .int .i64 x6412), (5, .pointer (some ⟨b6413, 0, none⟩)), (20, v6425), (21, .int .i64 x6426), (22, .int .i64 x6427)]) (by kernel_rfl) ?_
                refine r_forget [4] (l' := [(4, .bool false)]) (by kernel_rfl) ?_
                refine r_end rfl ?_
                refine W_ret (by kernel_rfl) ?_
                refine blkX_ret ?_
                refine blkX_ret ?_
                refine ⟨rfl, ?_⟩
                obtain rfl := Option.some.inj ho6409
                obtain rfl := Option.some.inj hm
                refine ⟨_, _, _, ResL.tmp rfl (ResL.nil), (hS6889.takeN 2), ?_⟩
                exact ⟨rfl, rfl⟩
              · refine d_val rfl rfl (o_cmp rfl rfl (c_lss_F hp6888)) ?_
                refine d_run 6 (l' := [(65, .pointer (some ⟨b4335, 0, none⟩)), (64, .pointer (some ⟨b4335, 0, none⟩)), (63, .pointer (some ⟨b4335, 0, none⟩)), (62, .pointer (some ⟨b4335, 0, none⟩)), (61, .bool false), (60, .bool false), (59, .bool false), (58, .int .i64 x6422), (57, .int .i64 x6880.From), (56, .pointer (some (elemA v4337 x6674 (csz api_Node) 1))), (55, .pointer (some (elemA v4337 x6674 (csz api_Node) 0))), (54, .int .i64 x6674), (53, v4337), (52, .pointer (some ⟨b4335, 0, none⟩)), (51, .pointer (some ⟨b4335, 0, none⟩)), (50, .pointer (some ⟨b4335, 0, none⟩)), (49, .pointer (some ⟨b4335, 0, none⟩)), (48, .bool false), (47, .bool false), (46, .bool false), (45, .int .i64 x6412), (44, .int .i64 x6870.Up), (43, .pointer (some (elemA v4337 x6674 (csz api_Node) 3))), (42, .pointer (some (elemA v4337 x6674 (csz api_Node) 0))), (41, .int .i64 x6674), (40, v4337), (39, .pointer (some ⟨b4335, 0, none⟩)), (38, .pointer (some ⟨b4335, 0, none⟩)), (37, .pointer (some ⟨b4335, 0, none⟩)), (36, .pointer (some ⟨b4335, 0, none⟩)), (35, .bool false), (34, .bool false), (33, .bool false), (32, .bool true), (32, .bool r6854), (31, .int .i64 x6674), (30, .pointer (some ⟨b4335, 0, none⟩)), (29, .bool false), (28, .bool false), (27, .int .i64 x6412), (26, .int .i64 x6674), (8, .int .i64 x6674), (0, .pointer (some ⟨b4335, 0, none⟩)), (1, .int .i64 x6412), (5, .pointer (some ⟨b6413, 0, none⟩)), (6, .int .i64 x6422), (20, v6425), (21, .int .i64 x6426), (22, .int .i64 x6427)]) (by kernel_rfl) ?_
                refine d_look rfl rfl rfl (o_ldb (v := v4337) hS6867 (i := 0) rfl rfl (by kernel_rfl)) ?_
                refine d_run 1 (l' := [(67, .int .i64 x6674), (66, v4337), (65, .pointer (some ⟨b4335, 0, none⟩)), (64, .pointer (some ⟨b4335, 0, none⟩)), (63, .pointer (some ⟨b4335, 0, none⟩)), (62, .pointer (some ⟨b4335, 0, none⟩)), (61, .bool false), (60, .bool false), (59, .bool false), (58, .int .i64 x6422), (57, .int .i64 x6880.From), (56, .pointer (some (elemA v4337 x6674 (csz api_Node) 1))), (55, .pointer (some (elemA v4337 x6674 (csz api_Node) 0))), (54, .int .i64 x6674), (53, v4337), (52, .pointer (some ⟨b4335, 0, none⟩)), (51, .pointer (some ⟨b4335, 0, none⟩)), (50, .pointer (some ⟨b4335, 0, none⟩)), (49, .pointer (some ⟨b4335, 0, none⟩)), (48, .bool false), (47, .bool false), (46, .bool false), (45, .int .i64 x6412), (44, .int .i64 x6870.Up), (43, .pointer (some (elemA v4337 x6674 (csz api_Node) 3))), (42, .pointer (some (elemA v4337 x6674 (csz api_Node) 0))), (41, .int .i64 x6674), (40, v4337), (39, .pointer (some ⟨b4335, 0, none⟩)), (38, .pointer (some ⟨b4335, 0, none⟩)), (37, .pointer (some ⟨b4335, 0, none⟩)), (36, .pointer (some ⟨b4335, 0, none⟩)), (35, .bool false), (34, .bool false), (33, .bool false), (32, .bool true), (32, .bool r6854), (31, .int .i64 x6674), (30, .pointer (some ⟨b4335, 0, none⟩)), (29, .bool false), (28, .bool false), (27, .int .i64 x6412), (26, .int .i64 x6674), (8, .int .i64 x6674), (0, .pointer (some ⟨b4335, 0, none⟩)), (1, .int .i64 x6412), (5, .pointer (some ⟨b6413, 0, none⟩)), (6, .int .i64 x6422), (20, v6425), (21, .int .i64 x6426), (22, .int .i64 x6427)]) (by kernel_rfl) ?_
                obtain ⟨hc6890, ho6409⟩ := chk ho6409
                refine d_val rfl rfl (o_index rfl rfl (by kernel_rfl : slTy _ _ = some (csz api_Node)) (hS6867.gbased (j := 1) rfl (q4336.mono (hS6429.zle.trans hZ6864)) (by omega)) hc6890.1 hc6890.2) ?_
                refine d_run 1 (l' := [(69, .pointer (some (elemA v4337 x6674 (csz api_Node) 2))), (68, .pointer (some (elemA v4337 x6674 (csz api_Node) 0))), (67, .int .i64 x6674), (66, v4337), (65, .pointer (some ⟨b4335, 0, none⟩)), (64, .pointer (some ⟨b4335, 0, none⟩)), (63, .pointer (some ⟨b4335, 0, none⟩)), (62, .pointer (some ⟨b4335, 0, none⟩)), (61, .bool false), (60, .bool false), (59, .bool false), (58, .int .i64 x6422), (57, .int .i64 x6880.From), (56, .pointer (some (elemA v4337 x6674 (csz api_Node) 1))), (55, .pointer (some (elemA v4337 x6674 (csz api_Node) 0))), (54, .int .i64 x6674), (53, v4337), (52, .pointer (some ⟨b4335, 0, none⟩)), (51, .pointer (some ⟨b4335, 0, none⟩)), (50, .pointer (some ⟨b4335, 0, none⟩)), (49, .pointer (some ⟨b4335, 0, none⟩)), (48, .bool false), (47, .bool false), (46, .bool false), (45, .int .i64 x6412), (44, .int .i64 x6870.Up), (43, .pointer (some (elemA v4337 x6674 (csz api_Node) 3))), (42, .pointer (some (elemA v4337 x6674 (csz api_Node) 0))), (41, .int .i64 x6674), (40, v4337), (39, .pointer (some ⟨b4335, 0, none⟩)), (38, .pointer (some ⟨b4335, 0, none⟩)), (37, .pointer (some ⟨b4335, 0, none⟩)), (36, .pointer (some ⟨b4335, 0, none⟩)), (35, .bool false), (34, .bool false), (33, .bool false), (32, .bool true), (32, .bool r6854), (31, .int .i64 x6674), (30, .pointer (some ⟨b4335, 0, none⟩)), (29, .bool false), (28, .bool false), (27, .int .i64 x6412), (26, .int .i64 x6674), (8, .int .i64 x6674), (0, .pointer (some ⟨b4335, 0, none⟩)), (1, .int .i64 x6412), (5, .pointer (some ⟨b6413, 0, none⟩)), (6, .int .i64 x6422), (20, v6425), (21, .int .i64 x6426), (22, .int .i64 x6427)]) (by kernel_rfl) ?_
                obtain ⟨x6891, hx6892, ho6409⟩ := obind ho6409
                obtain ⟨cs6893, hc6894, he6895, ht6896⟩ := hS6867.gel (j := 1) rfl (q4336.mono (hS6429.zle.trans hZ6864)) (i := x6674) hx6892
                obtain ⟨v6897, q6898, rfl⟩ := rc_api_Node hc6894
                refine d_look rfl rfl rfl (o_lde (w := .int .i64 x6891.To) he6895 rfl (by kernel_rfl)) ?_
                refine d_run 1 (l' := [(71, .pointer (some ⟨b6413, 2, none⟩)), (70, .int .i64 x6891.To), (69, .pointer (some (elemA v4337 x6674 (csz api_Node) 2))), (68, .pointer (some (elemA v4337 x6674 (csz api_Node) 0))), (67, .int .i64 x6674), (66, v4337), (65, .pointer (some ⟨b4335, 0, none⟩)), (64, .pointer (some ⟨b4335, 0, none⟩)), (63, .pointer (some ⟨b4335, 0, none⟩)), (62, .pointer (some ⟨b4335, 0, none⟩)), (61, .bool false), (60, .bool false), (59, .bool false), (58, .int .i64 x6422), (57, .int .i64 x6880.From), (56, .pointer (some (elemA v4337 x6674 (csz api_Node) 1))), (55, .pointer (some (elemA v4337 x6674 (csz api_Node) 0))), (54, .int .i64 x6674), (53, v4337), (52, .pointer (some ⟨b4335, 0, none⟩)), (51, .pointer (some ⟨b4335, 0, none⟩)), (50, .pointer (some ⟨b4335, 0, none⟩)), (49, .pointer (some ⟨b4335, 0, none⟩)), (48, .bool false), (47, .bool false), (46, .bool false), (45, .int .i64 x6412), (44, .int .i64 x6870.Up), (43, .pointer (some (elemA v4337 x6674 (csz api_Node) 3))), (42, .pointer (some (elemA v4337 x6674 (csz api_Node) 0))), (41, .int .i64 x6674), (40, v4337), (39, .pointer (some ⟨b4335, 0, none⟩)), (38, .pointer (some ⟨b4335, 0, none⟩)), (37, .pointer (some ⟨b4335, 0, none⟩)), (36, .pointer (some ⟨b4335, 0, none⟩)), (35, .bool false), (34, .bool false), (33, .bool false), (32, .bool true), (32, .bool r6854), (31, .int .i64 x6674), (30, .pointer (some ⟨b4335, 0, none⟩)), (29, .bool false), (28, .bool false), (27, .int .i64 x6412), (26, .int .i64 x6674), (8, .int .i64 x6674), (0, .pointer (some ⟨b4335, 0, none⟩)), (1, .int .i64 x6412), (5, .pointer (some ⟨b6413, 0, none⟩)), (6, .int .i64 x6422), (20, v6425), (21, .int .i64 x6426), (22, .int .i64 x6427)]) (by kernel_rfl) ?_
                refine d_look rfl rfl rfl (o_ldb (v := .int .i64 x6416) hS6867 (i := 2) rfl rfl (by kernel_rfl)) ?_
                rcases ifs ho6409 with ⟨hp6899, ho6409⟩ | ⟨hp6899, ho6409⟩
                · refine d_val rfl rfl (o_cmp rfl rfl (c_gtr_T hp6899)) ?_
                  refine d_run 1 (l' := [(74, .bool true), (73, .bool true), (72, .int .i64 x6416), (71, .pointer (some ⟨b6413, 2, none⟩)), (70, .int .i64 x6891.To), (69, .pointer (some (elemA v4337 x6674 (csz api_Node) 2))), (68, .pointer (some (elemA v4337 x6674 (csz api_Node) 0))), (67, .int .i64 x6674), (66, v4337), (65, .pointer (some ⟨b4335, 0, none⟩)), (64, .pointer (some ⟨b4335, 0, none⟩)), (63, .pointer (some ⟨b4335, 0, none⟩)), (62, .pointer (some ⟨b4335, 0, none⟩)), (61, .bool false), (60, .bool false), (59, .bool false), (58, .int .i64 x6422), (57, .int .i64 x6880.From), (56, .pointer (some (elemA v4337 x6674 (csz api_Node) 1))), (55, .pointer (some (elemA v4337 x6674 (csz api_Node) 0))), (54, .int .i64 x6674), (53, v4337), (52, .pointer (some ⟨b4335, 0, none⟩)), (51, .pointer (some ⟨b4335, 0, none⟩)), (50, .pointer (some ⟨b4335, 0, none⟩)), (49, .pointer (some ⟨b4335, 0, none⟩)), (48, .bool false), (47, .bool false), (46, .bool false), (45, .int .i64 x6412), (44, .int .i64 x6870.Up), (43, .pointer (some (elemA v4337 x6674 (csz api_Node) 3))), (42, .pointer (some (elemA v4337 x6674 (csz api_Node) 0))), (41, .int .i64 x6674), (40, v4337), (39, .pointer (some ⟨b4335, 0, none⟩)), (38, .pointer (some ⟨b4335, 0, none⟩)), (37, .pointer (some ⟨b4335, 0, none⟩)), (36, .pointer (some ⟨b4335, 0, none⟩)), (35, .bool false), (34, .bool false), (33, .bool false), (32, .bool true), (32, .bool r6854), (31, .int .i64 x6674), (30, .pointer (some ⟨b4335, 0, none⟩)), (29, .bool false), (28, .bool false), (27, .int .i64 x6412), (26, .int .i64 x6674), (8, .int .i64 x6674), (0, .pointer (some ⟨b4335, 0, none⟩)), (1, .int .i64 x6412), (5, .pointer (some ⟨b6413, 0, none⟩)), (6, .int .i64 x6422), (20, v6425), (21, .int .i64 x6426), (22, .int .i64 x6427)]) (by kernel_rfl) ?_
                  refine d_forget [74, 8, 0, 1, 5, 20, 21, 22] (l' := [(74, .bool true), (8, .int .i64 x6674), (0, .pointer (some ⟨b4335, 0, none⟩)), (1, .int .i64 x6412), (5, .pointer (some ⟨b6413, 0, none⟩)), (20, v6425), (21, .int .i64 x6426), (22, .int .i64 x6427)]) (by kernel_rfl) ?_
                  refine d_end rfl ?_
                  have hS6900 := hS6867.unres
                  refine W_condT (x := .tmp 74) (by kernel_rfl) rfl rfl ?_
                  refine W_seq (by kernel_rfl) ?_
                  refine W_region (R := r32_7) (by kernel_rfl) ?_
                  refine r_run 1 (l' := [(4, .bool false), (74, .bool true), (8, .int .i64 x6674), (0, .pointer (some ⟨b4335, 0, none⟩)), (1, .int .i64 x6412), (5, .pointer (some ⟨b6413, 0, none⟩)), (20, v6425), (21, .int .i64 x6426), (22, .int .i64 x6427)]) (by kernel_rfl) ?_
                  refine r_forget [4] (l' := [(4, .bool false)]) (by kernel_rfl) ?_
                  refine r_end rfl ?_
                  refine W_ret (by kernel_rfl) ?_
                  refine blkX_ret ?_
                  refine blkX_ret ?_
                  refine ⟨rfl, ?_⟩
                  obtain rfl := Option.some.inj ho6409
                  obtain rfl := Option.some.inj hm
                  refine ⟨_, _, _, ResL.tmp rfl (ResL.nil), (hS6900.takeN 2), ?_⟩
                  exact ⟨rfl, rfl⟩
                · refine d_val rfl rfl (o_cmp rfl rfl (c_gtr_F hp6899)) ?_
                  refine d_run 1 (l' := [(74, .bool false), (73, .bool false), (72, .int .i64 x6416), (71, .pointer (some ⟨b6413, 2, none⟩)), (70, .int .i64 x6891.To), (69, .pointer (some (elemA v4337 x6674 (csz api_Node) 2))), (68, .pointer (some (elemA v4337 x6674 (csz api_Node) 0))), (67, .int .i64 x6674), (66, v4337), (65, .pointer (some ⟨b4335, 0, none⟩)), (64, .pointer (some ⟨b4335, 0, none⟩)), (63, .pointer (some ⟨b4335, 0, none⟩)), (62, .pointer (some ⟨b4335, 0, none⟩)), (61, .bool false), (60, .bool false), (59, .bool false), (58, .int .i64 x6422), (57, .int .i64 x6880.From), (56, .pointer (some (elemA v4337 x6674 (csz api_Node) 1))), (55, .pointer (some (elemA v4337 x6674 (csz api_Node) 0))), (54, .int .i64 x6674), (53, v4337), (52, .pointer (some ⟨b4335, 0, none⟩)), (51, .pointer (some ⟨b4335, 0, none⟩)), (50, .pointer (some ⟨b4335, 0, none⟩)), (49, .pointer (some ⟨b4335, 0, none⟩)), (48, .bool false), (47, .bool false), (46, .bool false), (45, .int .i64 x6412), (44, .int .i64 x6870.Up), (43, .pointer (some (elemA v4337 x6674 (csz api_Node) 3))), (42, .pointer (some (elemA v4337 x6674 (csz api_Node) 0))), (41, .int .i64 x6674), (40, v4337), (39, .pointer (some ⟨b4335, 0, none⟩)), (38, .pointer (some ⟨b4335, 0, none⟩)), (37, .pointer (some ⟨b4335, 0, none⟩)), (36, .pointer (some ⟨b4335, 0, none⟩)), (35, .bool false), (34, .bool false), (33, .bool false), (32, .bool true), (32, .bool r6854), (31, .int .i64 x6674), (30, .pointer (some ⟨b4335, 0, none⟩)), (29, .bool false), (28, .bool false), (27, .int .i64 x6412), (26, .int .i64 x6674), (8, .int .i64 x6674), (0, .pointer (some ⟨b4335, 0, none⟩)), (1, .int .i64 x6412), (5, .pointer (some ⟨b6413, 0, none⟩)), (6, .int .i64 x6422), (20, v6425), (21, .int .i64 x6426), (22, .int .i64 x6427)]) (by kernel_rfl) ?_
                  refine d_forget [74, 8, 0, 1, 5, 20, 21, 22] (l' := [(74, .bool false), (8, .int .i64 x6674), (0, .pointer (some ⟨b4335, 0, none⟩)), (1, .int .i64 x6412), (5, .pointer (some ⟨b6413, 0, none⟩)), (20, v6425), (21, .int .i64 x6426), (22, .int .i64 x6427)]) (by kernel_rfl) ?_
                  refine d_end rfl ?_
                  have hS6901 := hS6867.unres
                  refine W_condF (x := .tmp 74) (by kernel_rfl) rfl rfl ?_
                  refine W_skip (by kernel_rfl) ?_
                  refine W_region (R := r32_8) (by kernel_rfl) ?_
                  refine r_run 4 (l' := [(78, .pointer (some ⟨b4335, 0, none⟩)), (77, .pointer (some ⟨b4335, 0, none⟩)), (76, .pointer (some ⟨b4335, 0, none⟩)), (75, .pointer (some ⟨b4335, 0, none⟩)), (74, .bool false), (8, .int .i64 x6674), (0, .pointer (some ⟨b4335, 0, none⟩)), (1, .int .i64 x6412), (5, .pointer (some ⟨b6413, 0, none⟩)), (20, v6425), (21, .int .i64 x6426), (22, .int .i64 x6427)]) (by kernel_rfl) ?_
                  refine r_step rfl trivial (o_ldb (v := v4337) hS6901 (i := 0) rfl rfl (by kernel_rfl)) ?_
                  refine r_run 1 (l' := [(80, .int .i64 x6674), (79, v4337), (78, .pointer (some ⟨b4335, 0, none⟩)), (77, .pointer (some ⟨b4335, 0, none⟩)), (76, .pointer (some ⟨b4335, 0, none⟩)), (75, .pointer (some ⟨b4335, 0, none⟩)), (74, .bool false), (8, .int .i64 x6674), (0, .pointer (some ⟨b4335, 0, none⟩)), (1, .int .i64 x6412), (5, .pointer (some ⟨b6413, 0, none⟩)), (20, v6425), (21, .int .i64 x6426), (22, .int .i64 x6427)]) (by kernel_rfl) ?_
                  obtain ⟨hc6902, ho6409⟩ := chk ho6409
                  refine r_step rfl trivial (o_index rfl rfl (by kernel_rfl : slTy _ _ = some (csz api_Node)) (hS6901.gbased (j := 1) rfl (q4336.mono (hS6429.zle.trans hZ6864)) (by omega)) hc6902.1 hc6902.2) ?_
                  refine r_run 1 (l' := [(82, .pointer (some (elemA v4337 x6674 (csz api_Node) 2))), (81, .pointer (some (elemA v4337 x6674 (csz api_Node) 0))), (80, .int .i64 x6674), (79, v4337), (78, .pointer (some ⟨b4335, 0, none⟩)), (77, .pointer (some ⟨b4335, 0, none⟩)), (76, .pointer (some ⟨b4335, 0, none⟩)), (75, .pointer (some ⟨b4335, 0, none⟩)), (74, .bool false), (8, .int .i64 x6674), (0, .pointer (some ⟨b4335, 0, none⟩)), (1, .int .i64 x6412), (5, .pointer (some ⟨b6413, 0, none⟩)), (20, v6425), (21, .int .i64 x6426), (22, .int .i64 x6427)]) (by kernel_rfl) ?_
                  obtain ⟨x6903, hx6904, ho6409⟩ := obind ho6409
                  obtain ⟨cs6905, hc6906, he6907, ht6908⟩ := hS6901.gel (j := 1) rfl (q4336.mono (hS6429.zle.trans hZ6864)) (i := x6674) hx6904
                  obtain ⟨v6909, q6910, rfl⟩ := rc_api_Node hc6906
                  refine r_step rfl trivial (o_lde (w := .int .i64 x6903.To) he6907 rfl (by kernel_rfl)) ?_
                  refine r_run 1 (l' := [(6, .int .i64 x6903.To), (83, .int .i64 x6903.To), (82, .pointer (some (elemA v4337 x6674 (csz api_Node) 2))), (81, .pointer (some (elemA v4337 x6674 (csz api_Node) 0))), (80, .int .i64 x6674), (79, v4337), (78, .pointer (some ⟨b4335, 0, none⟩)), (77, .pointer (some ⟨b4335, 0, none⟩)), (76, .pointer (some ⟨b4335, 0, none⟩)), (75, .pointer (some ⟨b4335, 0, none⟩)), (74, .bool false), (8, .int .i64 x6674), (0, .pointer (some ⟨b4335, 0, none⟩)), (1, .int .i64 x6412), (5, .pointer (some ⟨b6413, 0, none⟩)), (20, v6425), (21, .int .i64 x6426), (22, .int .i64 x6427)]) (by kernel_rfl) ?_
                  refine r_forget [6, 0, 1, 5, 20, 21, 22] (l' := [(6, .int .i64 x6903.To), (0, .pointer (some ⟨b4335, 0, none⟩)), (1, .int .i64 x6412), (5, .pointer (some ⟨b6413, 0, none⟩)), (20, v6425), (21, .int .i64 x6426), (22, .int .i64 x6427)]) (by kernel_rfl) ?_
                  refine r_end rfl ?_
                  refine W_region (R := r32_9) (by kernel_rfl) ?_
                  refine r_run 2 (l' := [(22, .int .i64 (w64 (x6427 + 1))), (84, .int .i64 (w64 (x6427 + 1))), (6, .int .i64 x6903.To), (0, .pointer (some ⟨b4335, 0, none⟩)), (1, .int .i64 x6412), (5, .pointer (some ⟨b6413, 0, none⟩)), (20, v6425), (21, .int .i64 x6426), (22, .int .i64 x6427)]) (by kernel_rfl) ?_
                  refine r_forget [22, 6, 0, 1, 5, 20, 21] (l' := [(22, .int .i64 (w64 (x6427 + 1))), (6, .int .i64 x6903.To), (0, .pointer (some ⟨b4335, 0, none⟩)), (1, .int .i64 x6412), (5, .pointer (some ⟨b6413, 0, none⟩)), (20, v6425), (21, .int .i64 x6426)]) (by kernel_rfl) ?_
                  refine r_end rfl ?_
                  exact ⟨n6430, Nat.lt_succ_self _, ⟨_, x6412, x6414, x6415, x6416, x6417, x6418, x6421, x6903.To, x6423, x6426, w64 (x6427 + 1), b6413, v6420, v6425, ho6409, (q6419.mono hZ6864), (q6424.mono hZ6864), rfl, hS6901⟩⟩
            · refine d_val rfl rfl (o_cmp rfl rfl (c_neq_T hp6878)) ?_
              refine d_run 28 (l' := [(74, .bool true), (73, undef), (72, undef), (71, undef), (70, undef), (69, undef), (68, undef), (67, undef), (66, undef), (65, undef), (64, undef), (63, undef), (62, undef), (61, .bool true), (60, .bool true), (59, undef), (58, undef), (57, undef), (56, undef), (55, undef), (54, undef), (53, undef), (52, undef), (51, undef), (50, undef), (49, undef), (48, .bool true), (47, .bool true), (46, .bool true), (45, .int .i64 x6412), (44, .int .i64 x6870.Up), (43, .pointer (some (elemA v4337 x6674 (csz api_Node) 3))), (42, .pointer (some (elemA v4337 x6674 (csz api_Node) 0))), (41, .int .i64 x6674), (40, v4337), (39, .pointer (some ⟨b4335, 0, none⟩)), (38, .pointer (some ⟨b4335, 0, none⟩)), (37, .pointer (some ⟨b4335, 0, none⟩)), (36, .pointer (some ⟨b4335, 0, none⟩)), (35, .bool false), (34, .bool false), (33, .bool false), (32, .bool true), (32, .bool r6854), (31, .int .i64 x6674), (30, .pointer (some ⟨b4335, 0, none⟩)), (29, .bool false), (28, .bool false), (27, .int .i64 x6412), (26, .int .i64 x6674), (8, .int .i64 x6674), (0, .pointer (some ⟨b4335, 0, none⟩)), (1, .int .i64 x6412), (5, .pointer (some ⟨b6413, 0, none⟩)), (6, .int .i64 x6422), (20, v6425), (21, .int .i64 x6426), (22, .int .i64 x6427)]) (by kernel_rfl) ?_
              refine d_forget [74, 8, 0, 1, 5, 20, 21, 22] (l' := [(74, .bool true), (8, .int .i64 x6674), (0, .pointer (some ⟨b4335, 0, none⟩)), (1, .int .i64 x6412), (5, .pointer (some ⟨b6413, 0, none⟩)), (20, v6425), (21, .int .i64 x6426), (22, .int .i64 x6427)]) (by kernel_rfl) ?_
              refine d_end rfl ?_
              have hS6911 := hS6867.unres
              refine W_condT (x := .tmp 74) (by kernel_rfl) rfl rfl ?_
              refine W_seq (by kernel_rfl) ?_
              refine W_region (R := r32_7) (by kernel_rfl) ?_
              refine r_run 1 (l' := [(4, .bool false), (74, .bool true), (8, .int .i64 x6674), (0, .pointer (some ⟨b4335, 0, none⟩)), (1, .int .i64 x6412), (5, .pointer (some ⟨b6413, 0, none⟩)), (20, v6425), (21, .int .i64 x6426), (22, .int .i64 x6427)]) (by kernel_rfl) ?_
              refine r_forget [4] (l' := [(4, .bool false)]) (by kernel_rfl) ?_
              refine r_end rfl ?_
              refine W_ret (by kernel_rfl) ?_
              refine blkX_ret ?_
              refine blkX_ret ?_
              refine ⟨rfl, ?_⟩
              obtain rfl := Option.some.inj ho6409
              obtain rfl := Option.some.inj hm
              refine ⟨_, _, _, ResL.tmp rfl (ResL.nil), (hS6911.takeN 2), ?_⟩
              exact ⟨rfl, rfl⟩
          · refine d_setb (t := 32) rfl (Bool.eq_false_iff.2 hp6868) ?_
            refine d_run 42 (l' := [(74, .bool true), (73, undef), (72, undef), (71, undef), (70, undef), (69, undef), (68, undef), (67, undef), (66, undef), (65, undef), (64, undef), (63, undef), (62, undef), (61, .bool true), (60, .bool true), (59, undef), (58, undef), (57, undef), (56, undef), (55, undef), (54, undef), (53, undef), (52, undef), (51, undef), (50, undef), (49, undef), (48, .bool true), (47, .bool true), (46, undef), (45, undef), (44, undef), (43, undef), (42, undef), (41, undef), (40, undef), (39, undef), (38, undef), (37, undef), (36, undef), (35, .bool true), (34, .bool true), (33, .bool true), (32, .bool false), (32, .bool r6854), (31, .int .i64 x6674), (30, .pointer (some ⟨b4335, 0, none⟩)), (29, .bool false), (28, .bool false), (27, .int .i64 x6412), (26, .int .i64 x6674), (8, .int .i64 x6674), (0, .pointer (some ⟨b4335, 0, none⟩)), (1, .int .i64 x6412), (5, .pointer (some ⟨b6413, 0, none⟩)), (6, .int .i64 x6422), (20, v6425), (21, .int .i64 x6426), (22, .int .i64 x6427)]) (by kernel_rfl) ?_
            refine d_forget [74, 8, 0, 1, 5, 20, 21, 22] (l' := [(74, .bool true), (8, .int .i64 x6674), (0, .pointer (some ⟨b4335, 0, none⟩)), (1, .int .i64 x6412), (5, .pointer (some ⟨b6413, 0, none⟩)), (20, v6425), (21, .int .i64 x6426), (22, .int .i64 x6427)]) (by kernel_rfl) ?_
            refine d_end rfl ?_
            have hS6912 := hS6867.unres
            refine W_condT (x := .tmp 74) (by kernel_rfl) rfl rfl ?_
            refine W_seq (by kernel_rfl) ?_
            refine W_region (R := r32_7) (by kernel_rfl) ?_
            refine r_run 1 (l' := [(4, .bool false), (74, .bool true), (8, .int .i64 x6674), (0, .pointer (some ⟨b4335, 0, none⟩)), (1, .int .i64 x6412), (5, .pointer (some ⟨b6413, 0, none⟩)), (20, v6425), (21, .int .i64 x6426), (22, .int .i64 x6427)]) (by kernel_rfl) ?_
            refine r_forget [4] (l' := [(4, .bool false)]) (by kernel_rfl) ?_
            refine r_end rfl ?_
            refine W_ret (by kernel_rfl) ?_
            refine blkX_ret ?_
            refine blkX_ret ?_
            refine ⟨rfl, ?_⟩
            obtain rfl := Option.some.inj ho6409
            obtain rfl := Option.some.inj hm
            refine ⟨_, _, _, ResL.tmp rfl (ResL.nil), (hS6912.takeN 2), ?_⟩
            exact ⟨rfl, rfl⟩
      · refine r_step rfl trivial (o_cmp rfl rfl (c_lss_F hp6432)) ?_
        refine r_forget [23, 0, 1, 5, 6, 20, 21, 22] (l' := [(23, .bool false), (0, .pointer (some ⟨b4335, 0, none⟩)), (1, .int .i64 x6412), (5, .pointer (some ⟨b6413, 0, none⟩)), (6, .int .i64 x6422), (20, v6425), (21, .int .i64 x6426), (22, .int .i64 x6427)]) (by kernel_rfl) ?_
        refine r_end rfl ?_
        refine W_seq (by kernel_rfl) ?_
        refine W_condF (x := .tmp 23) (by kernel_rfl) rfl rfl ?_
        refine W_exit (i := 0) (by kernel_rfl) ?_
        refine blkX_hit ?_
        obtain rfl := Option.some.inj ho6409
        exact ⟨_, x6414, x6415, x6416, x6417, x6418, x6421, b6413, v6420, rfl, q6419, rfl, hS6429⟩

def r38_0 : List COp := [⟨none, some 4, (Go.Op.assign (Go.Operand.const (Go.Value.int Go.IntKind.i64 0)))⟩]
def r38_1 : List COp := [⟨none, some 6, (Go.Op.move (Go.Operand.tmp 0))⟩,
  ⟨none, some 7, (Go.Op.call { callee := (Go.Callee.builtin Go.Builtin.len), args := #[(Go.Operand.tmp 6)], argTypes := #[44] })⟩,
  ⟨none, some 8, (Go.Op.move (Go.Operand.const (Go.Value.int Go.IntKind.i64 0)))⟩]
def r38_2 : List COp := [⟨none, some 9, (Go.Op.binOp Go.BinOp.lss 3 (Go.Operand.tmp 8) (Go.Operand.tmp 7) 3)⟩]
def r38_3 : List COp := [⟨none, some 10, (Go.Op.move (Go.Operand.tmp 8))⟩,
  ⟨none, some 5, (Go.Op.assign (Go.Operand.tmp 10))⟩]
def r38_4 : List COp := [⟨none, some 11, (Go.Op.move (Go.Operand.tmp 1))⟩,
  ⟨none, some 12, (Go.Op.move (Go.Operand.tmp 0))⟩,
  ⟨none, some 13, (Go.Op.move (Go.Operand.tmp 5))⟩,
  ⟨none, some 14, (Go.Op.indexAddr 44 (Go.Operand.tmp 12) (Go.Operand.tmp 13))⟩,
  ⟨none, some 15, (Go.Op.load 3 (Go.Operand.tmp 14))⟩,
  ⟨none, some 16, (Go.Op.binOp Go.BinOp.eql 3 (Go.Operand.tmp 11) (Go.Operand.tmp 15) 3)⟩]
def r38_5 : List COp := [⟨none, some 17, (Go.Op.move (Go.Operand.tmp 5))⟩,
  ⟨none, some 4, (Go.Op.assign (Go.Operand.tmp 17))⟩]
def r38_6 : List COp := [⟨none, some 18, (Go.Op.binOp Go.BinOp.add 3 (Go.Operand.tmp 8) (Go.Operand.const (Go.Value.int Go.IntKind.i64 1)) 3)⟩,
  ⟨none, some 8, (Go.Op.move (Go.Operand.tmp 18))⟩]
def r38_7 : List COp := [⟨none, some 4, (Go.Op.assign (Go.Operand.const (Go.Value.int Go.IntKind.i64 (-1))))⟩]
def slices_Index_int_l0 (F : Nat) (a0 : List Int) (a1 : Int) : Nat → Int → Int → Int → Option (Sum Unit Int)
  | 0, _, _, _ => none
  | n + 1, x7209, x7210, x7211 =>
    if x7211 < x7210 then
      if 0 ≤ x7211 ∧ x7211 < (a0.length : Int) then
        (a0[x7211.toNat]?).bind fun x7242 =>
        if x7209 = x7242 then
          some (.inr x7211)
        else
          slices_Index_int_l0 F a0 a1 n x7209 x7210 (w64 (x7211 + 1))
      else none
    else
      some (.inl ())
def slices_Index_int (F : Nat) (a0 : List Int) (a1 : Int) : Option Int :=
  ((slices_Index_int_l0 F a0 a1 F a1 (a0.length : Int) 0) : Option (Sum Unit Int)).bind fun o => match o with
    | .inl () => some (-1)
    | .inr y => some y
theorem slices_Index_int_ok (F : Nat) {h : AH} {Z : Zn} {a0 : List Int} {a1 : Int} {v7036 : Value} (hI : Inv Z h) (q7035 : RS (α := Int) Z v7036 a0) {r : Int} (hm : slices_Index_int F a0 a1 = some r) :
    ∃ v h', callI Go.Proofs.Try.prog 38 [v7036, .int .i64 a1] h = some (v, h') ∧ St h [] Z (0, 0) Z h' [] ∧ v = .int .i64 r := by
  refine fn_plain (Q := fun v => v = .int .i64 r) Go.Proofs.Try.func38 rfl rfl hI ?_
  intro hs hS
  unfold slices_Index_int at hm
  refine W_seq (by kernel_rfl) ?_
  refine W_region (R := r38_0) (by kernel_rfl) ?_
  refine r_run 1 (l' := [(4, .int .i64 0), (0, v7036), (1, .int .i64 a1)]) (by kernel_rfl) ?_
  refine r_forget [0, 1] (l' := [(0, v7036), (1, .int .i64 a1)]) (by kernel_rfl) ?_
  refine r_end rfl ?_
  refine W_seq (by kernel_rfl) ?_
  refine W_seq (by kernel_rfl) ?_
  refine W_region (R := r38_1) (by kernel_rfl) ?_
  refine r_run 1 (l' := [(6, v7036), (0, v7036), (1, .int .i64 a1)]) (by kernel_rfl) ?_
  refine r_step rfl trivial (o_len rfl (RS.len q7035) ⟨_, Go.Proofs.Try.underlying44⟩) ?_
  refine r_run 1 (l' := [(8, .int .i64 0), (7, .int .i64 (a0.length : Int)), (6, v7036), (0, v7036), (1, .int .i64 a1)]) (by kernel_rfl) ?_
  refine r_forget [8, 7, 0, 1] (l' := [(8, .int .i64 0), (7, .int .i64 (a0.length : Int)), (0, v7036), (1, .int .i64 a1)]) (by kernel_rfl) ?_
  refine r_end rfl ?_
  obtain ⟨o7207, ho7206, hm⟩ := obind hm
  refine W_join [] (fun l h => ∃ Z7249 : Zn, .inl () = o7207 ∧ l = [] ∧ St hs [] Z (0, 0) Z7249 h []) ?_ ?_
  · rintro l h7250 ⟨Z7249, rfl, rfl, hS7251⟩
    try dsimp only at hm
    refine W_seq (by kernel_rfl) ?_
    refine W_region (R := r38_7) (by kernel_rfl) ?_
    refine r_run 1 (l' := [(4, .int .i64 (-1))]) (by kernel_rfl) ?_
    refine r_forget [4] (l' := [(4, .int .i64 (-1))]) (by kernel_rfl) ?_
    refine r_end rfl ?_
    refine W_ret (by kernel_rfl) ?_
    refine ⟨rfl, ?_⟩
    obtain rfl := Option.some.inj hm
    refine ⟨_, _, _, ResL.tmp rfl (ResL.nil), hS7251, ?_⟩
    exact rfl
  · refine W_block (i := 0) (by kernel_rfl) ?_
    refine W_loop [0, 1, 7, 8] (fun n l h => ∃ Z7208 : Zn, ∃ x7209 : Int, ∃ x7210 : Int, ∃ x7211 : Int, slices_Index_int_l0 F a0 a1 n x7209 x7210 x7211 = some o7207 ∧ l = [(0, v7036), (1, .int .i64 x7209), (7, .int .i64 x7210), (8, .int .i64 x7211)] ∧ St hs [] Z (0, 0) Z7208 h []) F (by kernel_rfl) ⟨_, a1, (a0.length : Int), 0, ho7206, rfl, hS⟩ ?_
    rintro n7214 l h7212 ⟨Z7208, x7209, x7210, x7211, ho7206, rfl, hS7213⟩
    cases n7214 with
    | zero => cases (show none = some o7207 from ho7206)
    | succ n7214 =>
      rw [slices_Index_int_l0] at ho7206
      refine W_seq (by kernel_rfl) ?_
      refine W_region (R := r38_2) (by kernel_rfl) ?_
      rcases ifs ho7206 with ⟨hp7216, ho7206⟩ | ⟨hp7216, ho7206⟩
      · refine r_step rfl trivial (o_cmp rfl rfl (c_lss_T hp7216)) ?_
        refine r_forget [9, 0, 1, 7, 8] (l' := [(9, .bool true), (0, v7036), (1, .int .i64 x7209), (7, .int .i64 x7210), (8, .int .i64 x7211)]) (by kernel_rfl) ?_
        refine r_end rfl ?_
        refine W_seq (by kernel_rfl) ?_
        refine W_condT (x := .tmp 9) (by kernel_rfl) rfl rfl ?_
        refine W_skip (by kernel_rfl) ?_
        refine W_seq (by kernel_rfl) ?_
        refine W_block (i := 1) (by kernel_rfl) ?_
        refine W_seq (by kernel_rfl) ?_
        refine W_region (R := r38_3) (by kernel_rfl) ?_
        refine r_run 2 (l' := [(5, .int .i64 x7211), (10, .int .i64 x7211), (9, .bool true), (0, v7036), (1, .int .i64 x7209), (7, .int .i64 x7210), (8, .int .i64 x7211)]) (by kernel_rfl) ?_
        refine r_forget [5, 0, 1, 7, 8] (l' := [(5, .int .i64 x7211), (0, v7036), (1, .int .i64 x7209), (7, .int .i64 x7210), (8, .int .i64 x7211)]) (by kernel_rfl) ?_
        refine r_end rfl ?_
        refine W_seq (by kernel_rfl) ?_
        refine W_region (R := r38_4) (by kernel_rfl) ?_
        refine r_run 3 (l' := [(13, .int .i64 x7211), (12, v7036), (11, .int .i64 x7209), (5, .int .i64 x7211), (0, v7036), (1, .int .i64 x7209), (7, .int .i64 x7210), (8, .int .i64 x7211)]) (by kernel_rfl) ?_
        obtain ⟨hc7241, ho7206⟩ := chk ho7206
        refine r_step rfl trivial (o_index rfl rfl (by kernel_rfl : slTy _ _ = some (csz Int)) (RS.based (q7035.mono hS7213.zle) (by omega)) hc7241.1 hc7241.2) ?_
        obtain ⟨x7242, hx7243, ho7206⟩ := obind ho7206
        obtain ⟨cs7244, hc7245, he7246⟩ := RS.el (q7035.mono hS7213.zle) hS7213.inv (i := x7211) hx7243
        obtain rfl := rc_Int hc7245
        refine r_step rfl trivial (o_lde (w := .int .i64 x7242) he7246 rfl (by kernel_rfl)) ?_
        rcases ifs ho7206 with ⟨hp7248, ho7206⟩ | ⟨hp7248, ho7206⟩
        · refine r_step rfl trivial (o_cmp rfl rfl (c_eql_T hp7248)) ?_
          refine r_forget [16, 5, 0, 1, 7, 8] (l' := [(16, .bool true), (5, .int .i64 x7211), (0, v7036), (1, .int .i64 x7209), (7, .int .i64 x7210), (8, .int .i64 x7211)]) (by kernel_rfl) ?_
          refine r_end rfl ?_
          refine W_condT (x := .tmp 16) (by kernel_rfl) rfl rfl ?_
          refine W_seq (by kernel_rfl) ?_
          refine W_region (R := r38_5) (by kernel_rfl) ?_
          refine r_run 2 (l' := [(4, .int .i64 x7211), (17, .int .i64 x7211), (16, .bool true), (5, .int .i64 x7211), (0, v7036), (1, .int .i64 x7209), (7, .int .i64 x7210), (8, .int .i64 x7211)]) (by kernel_rfl) ?_
          refine r_forget [4] (l' := [(4, .int .i64 x7211)]) (by kernel_rfl) ?_
          refine r_end rfl ?_
          refine W_ret (by kernel_rfl) ?_
          refine blkX_ret ?_
          refine blkX_ret ?_
          refine ⟨rfl, ?_⟩
          obtain rfl := Option.some.inj ho7206
          obtain rfl := Option.some.inj hm
          refine ⟨_, _, _, ResL.tmp rfl (ResL.nil), hS7213, ?_⟩
          exact rfl
        · refine r_step rfl trivial (o_cmp rfl rfl (c_eql_F hp7248)) ?_
          refine r_forget [16, 5, 0, 1, 7, 8] (l' := [(16, .bool false), (5, .int .i64 x7211), (0, v7036), (1, .int .i64 x7209), (7, .int .i64 x7210), (8, .int .i64 x7211)]) (by kernel_rfl) ?_
          refine r_end rfl ?_
          refine W_condF (x := .tmp 16) (by kernel_rfl) rfl rfl ?_
          refine W_skip (by kernel_rfl) ?_
          refine W_region (R := r38_6) (by kernel_rfl) ?_
          refine r_run 2 (l' := [(8, .int .i64 (w64 (x7211 + 1))), (18, .int .i64 (w64 (x7211 + 1))), (16, .bool false), (5, .int .i64 x7211), (0, v7036), (1, .int .i64 x7209), (7, .int .i64 x7210), (8, .int .i64 x7211)]) (by kernel_rfl) ?_
          refine r_forget [8, 0, 1, 7] (l' := [(8, .int .i64 (w64 (x7211 + 1))), (0, v7036), (1, .int .i64 x7209), (7, .int .i64 x7210)]) (by kernel_rfl) ?_
          refine r_end rfl ?_
          exact ⟨n7214, Nat.lt_succ_self _, ⟨_, x7209, x7210, w64 (x7211 + 1), ho7206, rfl, hS7213⟩⟩
      · refine r_step rfl trivial (o_cmp rfl rfl (c_lss_F hp7216)) ?_
        refine r_forget [9, 0, 1, 7, 8] (l' := [(9, .bool false), (0, v7036), (1, .int .i64 x7209), (7, .int .i64 x7210), (8, .int .i64 x7211)]) (by kernel_rfl) ?_
        refine r_end rfl ?_
        refine W_seq (by kernel_rfl) ?_
        refine W_condF (x := .tmp 9) (by kernel_rfl) rfl rfl ?_
        refine W_exit (i := 0) (by kernel_rfl) ?_
        refine blkX_hit ?_
        obtain rfl := Option.some.inj ho7206
        exact ⟨_, rfl, rfl, hS7213⟩

def r33_0 : List COp := [⟨none, some 4, (Go.Op.assign (Go.Operand.const (Go.Value.bool false)))⟩]
def r33_1 : List COp := [⟨none, some 5, (Go.Op.move (Go.Operand.tmp 0))⟩,
  ⟨none, some 6, (Go.Op.move (Go.Operand.tmp 1))⟩,
  ⟨none, some 7, (Go.Op.call { callee := (Go.Callee.value (Go.Operand.func 38)), args := #[(Go.Operand.tmp 5), (Go.Operand.tmp 6)], argTypes := #[44, 3] })⟩,
  ⟨none, some 8, (Go.Op.binOp Go.BinOp.geq 3 (Go.Operand.tmp 7) (Go.Operand.const (Go.Value.int Go.IntKind.i64 0)) 3)⟩,
  ⟨none, some 4, (Go.Op.assign (Go.Operand.tmp 8))⟩]
def slices_Contains_int (F : Nat) (a0 : List Int) (a1 : Int) : Option Bool :=
  (slices_Index_int F a0 a1).bind fun r7276 =>
  if (0 : Int) ≤ r7276 then
    some true
  else
    some false
theorem slices_Contains_int_ok (F : Nat) {h : AH} {Z : Zn} {a0 : List Int} {a1 : Int} {v7034 : Value} (hI : Inv Z h) (q7033 : RS (α := Int) Z v7034 a0) {r : Bool} (hm : slices_Contains_int F a0 a1 = some r) :
    ∃ v h', callI Go.Proofs.Try.prog 33 [v7034, .int .i64 a1] h = some (v, h') ∧ St h [] Z (0, 0) Z h' [] ∧ v = .bool r := by
  refine fn_plain (Q := fun v => v = .bool r) Go.Proofs.Try.func33 rfl rfl hI ?_
  intro hs hS
  unfold slices_Contains_int at hm
  refine W_seq (by kernel_rfl) ?_
  refine W_region (R := r33_0) (by kernel_rfl) ?_
  refine r_run 1 (l' := [(4, .bool false), (0, v7034), (1, .int .i64 a1)]) (by kernel_rfl) ?_
  refine r_forget [0, 1] (l' := [(0, v7034), (1, .int .i64 a1)]) (by kernel_rfl) ?_
  refine r_end rfl ?_
  refine W_seq (by kernel_rfl) ?_
  refine W_region (R := r33_1) (by kernel_rfl) ?_
  refine r_run 2 (l' := [(6, .int .i64 a1), (5, v7034), (0, v7034), (1, .int .i64 a1)]) (by kernel_rfl) ?_
  obtain ⟨r7276, hx7277, hm⟩ := obind hm
  obtain ⟨v7278, h7279, hcl7280, hSc7281, rfl⟩ := slices_Index_int_ok F hS.inv q7033 hx7277
  have hS7282 := St.call (A := []) (B := []) hS hSc7281
  replace hS7282 : St _ _ _ _ _ _ [] := hS7282
  refine r_step rfl trivial (o_call hcl7280 rfl rfl rfl) ?_
  rcases ifs hm with ⟨hp7283, hm⟩ | ⟨hp7283, hm⟩
  · refine r_step rfl trivial (o_cmp rfl rfl (c_geq_T hp7283)) ?_
    refine r_run 1 (l' := [(4, .bool true), (8, .bool true), (7, .int .i64 r7276), (6, .int .i64 a1), (5, v7034), (0, v7034), (1, .int .i64 a1)]) (by kernel_rfl) ?_
    refine r_forget [4] (l' := [(4, .bool true)]) (by kernel_rfl) ?_
    refine r_end rfl ?_
    refine W_ret (by kernel_rfl) ?_
    refine ⟨rfl, ?_⟩
    obtain rfl := Option.some.inj hm
    refine ⟨_, _, _, ResL.tmp rfl (ResL.nil), hS7282, ?_⟩
    exact rfl
  · refine r_step rfl trivial (o_cmp rfl rfl (c_geq_F hp7283)) ?_
    refine r_run 1 (l' := [(4, .bool false), (8, .bool false), (7, .int .i64 r7276), (6, .int .i64 a1), (5, v7034), (0, v7034), (1, .int .i64 a1)]) (by kernel_rfl) ?_
    refine r_forget [4] (l' := [(4, .bool false)]) (by kernel_rfl) ?_
    refine r_end rfl ?_
    refine W_ret (by kernel_rfl) ?_
    refine ⟨rfl, ?_⟩
    obtain rfl := Option.some.inj hm
    refine ⟨_, _, _, ResL.tmp rfl (ResL.nil), hS7282, ?_⟩
    exact rfl

def r20_0 : List COp := [⟨none, some 2, (Go.Op.box 27 (Go.Operand.tmp 0))⟩,
  ⟨none, some 4, (Go.Op.assign (Go.Operand.const (Go.Value.bool false)))⟩]
def r20_1 : List COp := [⟨none, some 12, (Go.Op.fieldAddr 27 (Go.Operand.tmp 2) 0)⟩,
  ⟨none, some 13, (Go.Op.load 25 (Go.Operand.tmp 12))⟩,
  ⟨none, some 14, (Go.Op.call { callee := (Go.Callee.builtin Go.Builtin.len), args := #[(Go.Operand.tmp 13)], argTypes := #[25] })⟩,
  ⟨none, some 15, (Go.Op.binOp Go.BinOp.eql 3 (Go.Operand.tmp 14) (Go.Operand.const (Go.Value.int Go.IntKind.i64 0)) 3)⟩]
def r20_2 : List COp := [⟨none, some 4, (Go.Op.assign (Go.Operand.const (Go.Value.bool false)))⟩]
def r20_3 : List COp := [⟨none, some 16, (Go.Op.load 27 (Go.Operand.tmp 2))⟩,
  ⟨none, some 17, (Go.Op.call { callee := (Go.Callee.value (Go.Operand.func 25)), args := #[(Go.Operand.tmp 16)], argTypes := #[27] })⟩,
  ⟨none, some 5, (Go.Op.assign (Go.Operand.tmp 17))⟩]
def r20_4 : List COp := [⟨none, some 18, (Go.Op.move (Go.Operand.tmp 5))⟩,
  ⟨none, some 19, (Go.Op.nilCheck (Go.Operand.tmp 18))⟩,
  ⟨none, some 20, (Go.Op.fieldAddr 58 (Go.Operand.tmp 19) 0)⟩,
  ⟨none, some 21, (Go.Op.fieldAddr 27 (Go.Operand.tmp 20) 0)⟩,
  ⟨none, some 22, (Go.Op.load 25 (Go.Operand.tmp 21))⟩,
  ⟨none, some 23, (Go.Op.indexAddr 25 (Go.Operand.tmp 22) (Go.Operand.const (Go.Value.int Go.IntKind.i64 0)))⟩,
  ⟨none, some 24, (Go.Op.load 46 (Go.Operand.tmp 23))⟩,
  ⟨none, some 6, (Go.Op.alloc 46)⟩,
  ⟨none, none, (Go.Op.store 46 (Go.Operand.tmp 6) (Go.Operand.tmp 24))⟩]
def r20_5 : List COp := [⟨none, some 25, (Go.Op.fieldAddr 46 (Go.Operand.tmp 6) 0)⟩,
  ⟨none, some 26, (Go.Op.load 3 (Go.Operand.tmp 25))⟩,
  ⟨none, some 27, (Go.Op.binOp Go.BinOp.neq 3 (Go.Operand.tmp 26) (Go.Operand.const (Go.Value.int Go.IntKind.i64 1)) 3)⟩,
  ⟨none, some 28, (Go.Op.move (Go.Operand.tmp 27))⟩,
  ⟨(some (some 28, false)), some 29, (Go.Op.fieldAddr 46 (Go.Operand.tmp 6) 1)⟩,
  ⟨(some (some 28, false)), some 30, (Go.Op.load 3 (Go.Operand.tmp 29))⟩,
  ⟨(some (some 28, false)), some 31, (Go.Op.binOp Go.BinOp.neq 3 (Go.Operand.tmp 30) (Go.Operand.const (Go.Value.int Go.IntKind.i64 0)) 3)⟩,
  ⟨none, some 32, (Go.Op.pick (Go.Operand.tmp 28) (Go.Operand.const (Go.Value.bool true)) (Go.Operand.tmp 31))⟩,
  ⟨none, some 33, (Go.Op.move (Go.Operand.tmp 32))⟩,
  ⟨(some (some 33, false)), some 34, (Go.Op.fieldAddr 46 (Go.Operand.tmp 6) 2)⟩,
  ⟨(some (some 33, false)), some 35, (Go.Op.load 3 (Go.Operand.tmp 34))⟩,
  ⟨(some (some 33, false)), some 36, (Go.Op.move (Go.Operand.tmp 1))⟩,
  ⟨(some (some 33, false)), some 37, (Go.Op.binOp Go.BinOp.neq 3 (Go.Operand.tmp 35) (Go.Operand.tmp 36) 3)⟩,
  ⟨none, some 38, (Go.Op.pick (Go.Operand.tmp 33) (Go.Operand.const (Go.Value.bool true)) (Go.Operand.tmp 37))⟩,
  ⟨none, some 39, (Go.Op.move (Go.Operand.tmp 38))⟩,
  ⟨(some (some 39, false)), some 40, (Go.Op.fieldAddr 46 (Go.Operand.tmp 6) 3)⟩,
  ⟨(some (some 39, false)), some 41, (Go.Op.load 3 (Go.Operand.tmp 40))⟩,
  ⟨(some (some 39, false)), some 42, (Go.Op.binOp Go.BinOp.neq 3 (Go.Operand.tmp 41) (Go.Operand.const (Go.Value.int Go.IntKind.i64 (-1))) 3)⟩,
  ⟨none, some 43, (Go.Op.pick (Go.Operand.tmp 39) (Go.Operand.const (Go.Value.bool true)) (Go.Operand.tmp 42))⟩]
def r20_6 : List COp := [⟨none, some 4, (Go.Op.assign (Go.Operand.const (Go.Value.bool false)))⟩]
def r20_7 : List COp := [⟨none, some 7, (Go.Op.assign (Go.Operand.const (Go.Value.int Go.IntKind.i64 0)))⟩]
def r20_8 : List COp := [⟨none, some 44, (Go.Op.move (Go.Operand.tmp 5))⟩,
  ⟨none, some 45, (Go.Op.nilCheck (Go.Operand.tmp 44))⟩,
  ⟨none, some 46, (Go.Op.fieldAddr 58 (Go.Operand.tmp 45) 0)⟩,
  ⟨none, some 47, (Go.Op.fieldAddr 27 (Go.Operand.tmp 46) 0)⟩,
  ⟨none, some 48, (Go.Op.load 25 (Go.Operand.tmp 47))⟩,
  ⟨none, some 49, (Go.Op.call { callee := (Go.Callee.builtin Go.Builtin.len), args := #[(Go.Operand.tmp 48)], argTypes := #[25] })⟩,
  ⟨none, some 50, (Go.Op.move (Go.Operand.const (Go.Value.int Go.IntKind.i64 0)))⟩]
def r20_9 : List COp := [⟨none, some 51, (Go.Op.binOp Go.BinOp.lss 3 (Go.Operand.tmp 50) (Go.Operand.tmp 49) 3)⟩]
def r20_10 : List COp := [⟨none, some 52, (Go.Op.move (Go.Operand.tmp 50))⟩,
  ⟨none, some 53, (Go.Op.indexAddr 25 (Go.Operand.tmp 48) (Go.Operand.tmp 50))⟩,
  ⟨none, some 54, (Go.Op.load 46 (Go.Operand.tmp 53))⟩,
  ⟨none, some 9, (Go.Op.alloc 46)⟩,
  ⟨none, some 8, (Go.Op.assign (Go.Operand.tmp 52))⟩,
  ⟨none, none, (Go.Op.store 46 (Go.Operand.tmp 9) (Go.Operand.tmp 54))⟩]
def r20_11 : List COp := [⟨none, some 55, (Go.Op.move (Go.Operand.tmp 5))⟩,
  ⟨none, some 56, (Go.Op.move (Go.Operand.tmp 8))⟩,
  ⟨none, some 57, (Go.Op.call { callee := (Go.Callee.value (Go.Operand.func 32)), args := #[(Go.Operand.tmp 55), (Go.Operand.tmp 56)], argTypes := #[54, 3] })⟩,
  ⟨none, some 58, (Go.Op.unOp Go.UnOp.not 4 (Go.Operand.tmp 57))⟩,
  ⟨none, some 59, (Go.Op.move (Go.Operand.tmp 58))⟩,
  ⟨(some (some 59, false)), some 60, (Go.Op.move (Go.Operand.tmp 8))⟩,
  ⟨(some (some 59, false)), some 61, (Go.Op.binOp Go.BinOp.gtr 3 (Go.Operand.tmp 60) (Go.Operand.const (Go.Value.int Go.IntKind.i64 0)) 3)⟩,
  ⟨(some (some 59, false)), some 62, (Go.Op.move (Go.Operand.tmp 61))⟩,
  ⟨(some (some 62, true)), some 63, (Go.Op.fieldAddr 46 (Go.Operand.tmp 9) 3)⟩,
  ⟨(some (some 62, true)), some 64, (Go.Op.load 3 (Go.Operand.tmp 63))⟩,
  ⟨(some (some 62, true)), some 65, (Go.Op.binOp Go.BinOp.lss 3 (Go.Operand.tmp 64) (Go.Operand.const (Go.Value.int Go.IntKind.i64 0)) 3)⟩,
  ⟨(some (some 62, true)), some 66, (Go.Op.move (Go.Operand.tmp 65))⟩,
  ⟨(some (some 66, false)), some 67, (Go.Op.fieldAddr 46 (Go.Operand.tmp 9) 3)⟩,
  ⟨(some (some 66, false)), some 68, (Go.Op.load 3 (Go.Operand.tmp 67))⟩,
  ⟨(some (some 66, false)), some 69, (Go.Op.move (Go.Operand.tmp 8))⟩,
  ⟨(some (some 66, false)), some 70, (Go.Op.binOp Go.BinOp.geq 3 (Go.Operand.tmp 68) (Go.Operand.tmp 69) 3)⟩,
  ⟨(some (some 62, true)), some 71, (Go.Op.pick (Go.Operand.tmp 66) (Go.Operand.const (Go.Value.bool true)) (Go.Operand.tmp 70))⟩,
  ⟨(some (some 59, false)), some 72, (Go.Op.pick (Go.Operand.tmp 62) (Go.Operand.tmp 71) (Go.Operand.const (Go.Value.bool false)))⟩,
  ⟨none, some 73, (Go.Op.pick (Go.Operand.tmp 59) (Go.Operand.const (Go.Value.bool true)) (Go.Operand.tmp 72))⟩]
def r20_12 : List COp := [⟨none, some 4, (Go.Op.assign (Go.Operand.const (Go.Value.bool false)))⟩]
def r20_13 : List COp := [⟨none, some 74, (Go.Op.move (Go.Operand.tmp 7))⟩,
  ⟨none, some 75, (Go.Op.fieldAddr 46 (Go.Operand.tmp 9) 4)⟩,
  ⟨none, some 76, (Go.Op.load 44 (Go.Operand.tmp 75))⟩,
  ⟨none, some 77, (Go.Op.call { callee := (Go.Callee.builtin Go.Builtin.len), args := #[(Go.Operand.tmp 76)], argTypes := #[44] })⟩,
  ⟨none, some 78, (Go.Op.binOp Go.BinOp.add 3 (Go.Operand.tmp 74) (Go.Operand.tmp 77) 3)⟩,
  ⟨none, some 7, (Go.Op.assign (Go.Operand.tmp 78))⟩]
def r20_14 : List COp := [⟨none, some 79, (Go.Op.fieldAddr 46 (Go.Operand.tmp 9) 4)⟩,
  ⟨none, some 80, (Go.Op.load 44 (Go.Operand.tmp 79))⟩,
  ⟨none, some 81, (Go.Op.call { callee := (Go.Callee.builtin Go.Builtin.len), args := #[(Go.Operand.tmp 80)], argTypes := #[44] })⟩,
  ⟨none, some 82, (Go.Op.move (Go.Operand.const (Go.Value.int Go.IntKind.i64 0)))⟩]
def r20_15 : List COp := [⟨none, some 83, (Go.Op.binOp Go.BinOp.lss 3 (Go.Operand.tmp 82) (Go.Operand.tmp 81) 3)⟩]
def r20_16 : List COp := [⟨none, some 84, (Go.Op.move (Go.Operand.tmp 82))⟩,
  ⟨none, some 85, (Go.Op.indexAddr 44 (Go.Operand.tmp 80) (Go.Operand.tmp 82))⟩,
  ⟨none, some 86, (Go.Op.load 3 (Go.Operand.tmp 85))⟩,
  ⟨none, some 10, (Go.Op.assign (Go.Operand.tmp 84))⟩,
  ⟨none, some 11, (Go.Op.assign (Go.Operand.tmp 86))⟩]
def r20_17 : List COp := [⟨none, some 87, (Go.Op.fieldAddr 46 (Go.Operand.tmp 9) 4)⟩,
  ⟨none, some 88, (Go.Op.load 44 (Go.Operand.tmp 87))⟩,
  ⟨none, some 89, (Go.Op.move (Go.Operand.tmp 10))⟩,
  ⟨none, some 90, (Go.Op.slice 44 (Go.Operand.tmp 88) none (some (Go.Operand.tmp 89)) none)⟩,
  ⟨none, some 91, (Go.Op.move (Go.Operand.tmp 11))⟩,
  ⟨none, some 92, (Go.Op.call { callee := (Go.Callee.value (Go.Operand.func 33)), args := #[(Go.Operand.tmp 90), (Go.Operand.tmp 91)], argTypes := #[44, 3] })⟩]
def r20_18 : List COp := [⟨none, some 4, (Go.Op.assign (Go.Operand.const (Go.Value.bool false)))⟩]
def r20_19 : List COp := [⟨none, some 93, (Go.Op.binOp Go.BinOp.add 3 (Go.Operand.tmp 82) (Go.Operand.const (Go.Value.int Go.IntKind.i64 1)) 3)⟩,
  ⟨none, some 82, (Go.Op.move (Go.Operand.tmp 93))⟩]
def r20_20 : List COp := [⟨none, some 94, (Go.Op.binOp Go.BinOp.add 3 (Go.Operand.tmp 50) (Go.Operand.const (Go.Value.int Go.IntKind.i64 1)) 3)⟩,
  ⟨none, some 50, (Go.Op.move (Go.Operand.tmp 94))⟩]
def r20_21 : List COp := [⟨none, some 95, (Go.Op.move (Go.Operand.tmp 7))⟩,
  ⟨none, some 96, (Go.Op.move (Go.Operand.tmp 5))⟩,
  ⟨none, some 97, (Go.Op.nilCheck (Go.Operand.tmp 96))⟩,
  ⟨none, some 98, (Go.Op.fieldAddr 58 (Go.Operand.tmp 97) 0)⟩,
  ⟨none, some 99, (Go.Op.fieldAddr 27 (Go.Operand.tmp 98) 0)⟩,
  ⟨none, some 100, (Go.Op.load 25 (Go.Operand.tmp 99))⟩,
  ⟨none, some 101, (Go.Op.call { callee := (Go.Callee.builtin Go.Builtin.len), args := #[(Go.Operand.tmp 100)], argTypes := #[25] })⟩,
  ⟨none, some 102, (Go.Op.binOp Go.BinOp.sub 3 (Go.Operand.tmp 101) (Go.Operand.const (Go.Value.int Go.IntKind.i64 1)) 3)⟩,
  ⟨none, some 103, (Go.Op.binOp Go.BinOp.eql 3 (Go.Operand.tmp 95) (Go.Operand.tmp 102) 3)⟩,
  ⟨none, some 4, (Go.Op.assign (Go.Operand.tmp 103))⟩]
def arena_Check_l1 (F : Nat) (a0 : arena_Tree) (a1 : Int) : Nat → (List api_Node) → Int → Int → Int → Int → Int → (List Int) → Bool → Int → Int → (List Int) → Int → Int → Option (Sum ((List api_Node) × Int × Int × Int) Bool)
  | 0, _, _, _, _, _, _, _, _, _, _, _, _, _ => none
  | n + 1, x8763, x8767, x8769, x8770, x8771, x8772, x8773, x8776, x8777, x8778, x8779, x8782, x8783 =>
    if x8783 < x8782 then
      if 0 ≤ x8783 ∧ x8783 < (x8779.length : Int) then
        (x8779[x8783.toNat]?).bind fun x8810 =>
        if 0 ≤ (0 : Int) ∧ (0 : Int) ≤ x8783 ∧ x8783 ≤ (x8773.length : Int) then
          (slices_Contains_int F ((x8773.take x8783.toNat).drop (0 : Int).toNat) x8810).bind fun r8820 =>
          if r8820 = true then
            some (.inr false)
          else
            arena_Check_l1 F a0 a1 n x8763 x8767 x8769 x8770 x8771 x8772 x8773 x8776 x8777 x8778 x8779 x8782 (w64 (x8783 + 1))
        else none
      else none
    else
      some (.inl (x8763, x8767, x8777, x8778))
def arena_Check_l0 (F : Nat) (a0 : arena_Tree) (a1 : Int) : Nat → (List api_Node) → Int → Int → Int → Option (Sum ((List api_Node) × Int) Bool)
  | 0, _, _, _, _ => none
  | n + 1, x8442, x8446, x8447, x8448 =>
    if x8448 < x8447 then
      if 0 ≤ x8448 ∧ x8448 < (x8442.length : Int) then
        (x8442[x8448.toNat]?).bind fun x8597 =>
        (((arena_forest_lies F (⟨(⟨x8442⟩ : arena_Tree)⟩ : arena_forest) x8448).bind fun r8657 =>
          if r8657 = true then
            if (0 : Int) < x8448 then
              if x8597.Up < (0 : Int) then
                some (.inr false)
              else
                if x8448 ≤ x8597.Up then
                  some (.inr false)
                else
                  some (.inl (x8442, x8446, x8597.Kind, x8597.From, x8597.To, x8597.Up, x8597.Kids, x8597.Key, x8447, x8448))
            else
              some (.inl (x8442, x8446, x8597.Kind, x8597.From, x8597.To, x8597.Up, x8597.Kids, x8597.Key, x8447, x8448))
          else
            some (.inr false)) : Option (Sum ((List api_Node) × Int × Int × Int × Int × Int × (List Int) × Bool × Int × Int) Bool)).bind fun o => match o with
          | .inl (x8674, x8678, x8680, x8681, x8682, x8683, x8684, x8687, x8688, x8689) => ((arena_Check_l1 F a0 a1 F x8674 (w64 (x8678 + (x8684.length : Int))) x8680 x8681 x8682 x8683 x8684 x8687 x8688 x8689 x8684 (x8684.length : Int) 0) : Option (Sum ((List api_Node) × Int × Int × Int) Bool)).bind fun o => match o with
            | .inl (x8839, x8843, x8844, x8845) => arena_Check_l0 F a0 a1 n x8839 x8843 x8844 (w64 (x8845 + 1))
            | .inr y => some (.inr y)
          | .inr y => some (.inr y)
      else none
    else
      some (.inl (x8442, x8446))
def arena_Check (F : Nat) (a0 : arena_Tree) (a1 : Int) : Option Bool :=
  if (a0.Nodes.length : Int) = (0 : Int) then
    some false
  else
    (arena_own F a0).bind fun r7790 =>
    if 0 ≤ (0 : Int) ∧ (0 : Int) < (r7790.Tree.Nodes.length : Int) then
      (r7790.Tree.Nodes[(0 : Int).toNat]?).bind fun x7806 =>
      if x7806.Kind = (1 : Int) then
        if x7806.From = (0 : Int) then
          if x7806.To = a1 then
            if x7806.Up = (-1 : Int) then
              ((arena_Check_l0 F a0 a1 F r7790.Tree.Nodes 0 (r7790.Tree.Nodes.length : Int) 0) : Option (Sum ((List api_Node) × Int) Bool)).bind fun o => match o with
                | .inl (x8881, x8885) => if x8885 = (w64 ((x8881.length : Int) - 1)) then
                  some true
                else
                  some false
                | .inr y => some y
            else
              some false
          else
            some false
        else
          some false
      else
        some false
    else none
theorem arena_Check_ok (F : Nat) {h : AH} {Z : Zn} {a0 : arena_Tree} {a1 : Int} {v4255 : Value} (hI : Inv Z h) (q4254 : RS (α := api_Node) Z v4255 a0.Nodes) {r : Bool} (hm : arena_Check F a0 a1 = some r) :
    ∃ v h', callI Go.Proofs.Try.prog 20 [.agg #[v4255], .int .i64 a1] h = some (v, h') ∧ St h [] Z (0, 0) Z h' [] ∧ v = .bool r := by
  refine fn_plain (Q := fun v => v = .bool r) Go.Proofs.Try.func20 rfl rfl hI ?_
  intro hs hS
  unfold arena_Check at hm
  refine W_seq (by kernel_rfl) ?_
  refine W_region (R := r20_0) (by kernel_rfl) ?_
  refine r_blk rfl trivial (o_box (cs := [v4255]) rfl rfl) hS ?_
  intro b7783 h7784 hS7785
  refine r_run 1 (l' := [(4, .bool false), (2, .pointer (some ⟨b7783, 0, none⟩)), (0, .agg #[v4255]), (1, .int .i64 a1)]) (by kernel_rfl) ?_
  refine r_forget [2, 1] (l' := [(2, .pointer (some ⟨b7783, 0, none⟩)), (1, .int .i64 a1)]) (by kernel_rfl) ?_
  refine r_end rfl ?_
  refine W_seq (by kernel_rfl) ?_
  refine W_seq (by kernel_rfl) ?_
  refine W_region (R := r20_1) (by kernel_rfl) ?_
  refine r_run 1 (l' := [(12, .pointer (some ⟨b7783, 0, none⟩)), (2, .pointer (some ⟨b7783, 0, none⟩)), (1, .int .i64 a1)]) (by kernel_rfl) ?_
  refine r_step rfl trivial (o_ldb (v := v4255) hS7785 (i := 0) rfl rfl (by kernel_rfl)) ?_
  refine r_step rfl trivial (o_len rfl (RS.len q4254) ⟨_, Go.Proofs.Try.underlying25⟩) ?_
  rcases ifs hm with ⟨hp7789, hm⟩ | ⟨hp7789, hm⟩
  · refine r_step rfl trivial (o_cmp rfl rfl (c_eql_T hp7789)) ?_
    refine r_forget [15, 2, 1] (l' := [(15, .bool true), (2, .pointer (some ⟨b7783, 0, none⟩)), (1, .int .i64 a1)]) (by kernel_rfl) ?_
    refine r_end rfl ?_
    refine W_condT (x := .tmp 15) (by kernel_rfl) rfl rfl ?_
    refine W_seq (by kernel_rfl) ?_
    refine W_region (R := r20_2) (by kernel_rfl) ?_
    refine r_run 1 (l' := [(4, .bool false), (15, .bool true), (2, .pointer (some ⟨b7783, 0, none⟩)), (1, .int .i64 a1)]) (by kernel_rfl) ?_
    refine r_forget [4] (l' := [(4, .bool false)]) (by kernel_rfl) ?_
    refine r_end rfl ?_
    refine W_ret (by kernel_rfl) ?_
    refine ⟨rfl, ?_⟩
    obtain rfl := Option.some.inj hm
    refine ⟨_, _, _, ResL.tmp rfl (ResL.nil), hS7785, ?_⟩
    exact rfl
  · refine r_step rfl trivial (o_cmp rfl rfl (c_eql_F hp7789)) ?_
    refine r_forget [15, 2, 1] (l' := [(15, .bool false), (2, .pointer (some ⟨b7783, 0, none⟩)), (1, .int .i64 a1)]) (by kernel_rfl) ?_
    refine r_end rfl ?_
    refine W_condF (x := .tmp 15) (by kernel_rfl) rfl rfl ?_
    refine W_skip (by kernel_rfl) ?_
    refine W_seq (by kernel_rfl) ?_
    refine W_region (R := r20_3) (by kernel_rfl) ?_
    refine r_step rfl trivial (o_ldb (v := .agg #[v4255]) hS7785 (i := 0) rfl rfl (by kernel_rfl)) ?_
    obtain ⟨r7790, hx7791, hm⟩ := obind hm
    have hSr7797 : St _ _ _ _ _ _ ([] ++ [.blk b7783 [v4255]]) := hS7785
    obtain ⟨v7792, h7793, Z7798, A7800, hcl7794, hSc7795, b7801, v7803, c7804, rfl, rfl, q7802⟩ := arena_own_ok F hSr7797.preL q4254 hx7791
    have hS7796 := hSr7797.call hSc7795
    have hZ7799 := hSc7795.zle
    replace hS7796 : St _ _ _ _ _ _ [.blk b7801 [v7803], .gs v7803 c7804 (csz api_Node), .blk b7783 [v4255]] := hS7796
    refine r_step rfl trivial (o_call hcl7794 rfl rfl rfl) ?_
    refine r_run 1 (l' := [(5, .pointer (some ⟨b7801, 0, none⟩)), (17, .pointer (some ⟨b7801, 0, none⟩)), (16, .agg #[v4255]), (15, .bool false), (2, .pointer (some ⟨b7783, 0, none⟩)), (1, .int .i64 a1)]) (by kernel_rfl) ?_
    refine r_forget [5, 1] (l' := [(5, .pointer (some ⟨b7801, 0, none⟩)), (1, .int .i64 a1)]) (by kernel_rfl) ?_
    refine r_end rfl ?_
    refine W_seq (by kernel_rfl) ?_
    refine W_region (R := r20_4) (by kernel_rfl) ?_
    refine r_run 4 (l' := [(21, .pointer (some ⟨b7801, 0, none⟩)), (20, .pointer (some ⟨b7801, 0, none⟩)), (19, .pointer (some ⟨b7801, 0, none⟩)), (18, .pointer (some ⟨b7801, 0, none⟩)), (5, .pointer (some ⟨b7801, 0, none⟩)), (1, .int .i64 a1)]) (by kernel_rfl) ?_
    refine r_step rfl trivial (o_ldb (v := v7803) hS7796 (i := 0) rfl rfl (by kernel_rfl)) ?_
    obtain ⟨hc7805, hm⟩ := chk hm
    refine r_step rfl trivial (o_index rfl rfl (by kernel_rfl : slTy _ _ = some (csz api_Node)) (hS7796.gbased (j := 1) rfl q7802 (by omega)) hc7805.1 hc7805.2) ?_
    obtain ⟨x7806, hx7807, hm⟩ := obind hm
    obtain ⟨cs7808, hc7809, he7810, ht7811⟩ := hS7796.gel (j := 1) rfl q7802 (i := 0) hx7807
    obtain ⟨v7812, q7813, rfl⟩ := rc_api_Node hc7809
    refine r_step rfl trivial (o_lde (w := .agg #[.int .i64 x7806.Kind, .int .i64 x7806.From, .int .i64 x7806.To, .int .i64 x7806.Up, v7812, .bool x7806.Key]) he7810 rfl (by kernel_rfl)) ?_
    refine r_blk rfl trivial (o_alloc (cs := [.int .i64 0, .int .i64 0, .int .i64 0, .int .i64 0, .slice none 0 0, .bool false]) (by kernel_rfl)) hS7796 ?_
    intro b7814 h7815 hS7816
    refine r_ex1 rfl trivial (o_stb (vs := [.int .i64 x7806.Kind, .int .i64 x7806.From, .int .i64 x7806.To, .int .i64 x7806.Up, v7812, .bool x7806.Key]) (cells' := [.int .i64 x7806.Kind, .int .i64 x7806.From, .int .i64 x7806.To, .int .i64 x7806.Up, v7812, .bool x7806.Key]) (L' := [.blk b7814 [.int .i64 x7806.Kind, .int .i64 x7806.From, .int .i64 x7806.To, .int .i64 x7806.Up, v7812, .bool x7806.Key], .blk b7801 [v7803], .gs v7803 c7804 (csz api_Node), .blk b7783 [v4255]]) hS7816 (i := 0) rfl rfl rfl rfl (by kernel_rfl) (one_cons rfl (one_cons rfl (one_cons rfl (one_cons rfl (one_cons (RS.one1 q7813) (one_cons rfl one_nil)))))) rfl rfl rfl) ?_
    intro h7817 hS7818
    refine r_forget [6, 5, 1] (l' := [(6, .pointer (some ⟨b7814, 0, none⟩)), (5, .pointer (some ⟨b7801, 0, none⟩)), (1, .int .i64 a1)]) (by kernel_rfl) ?_
    refine r_end rfl ?_
    refine W_seq (by kernel_rfl) ?_
    refine W_seq (by kernel_rfl) ?_
    refine W_region (R := r20_5) (by kernel_rfl) ?_
    refine r_run 1 (l' := [(25, .pointer (some ⟨b7814, 0, none⟩)), (6, .pointer (some ⟨b7814, 0, none⟩)), (5, .pointer (some ⟨b7801, 0, none⟩)), (1, .int .i64 a1)]) (by kernel_rfl) ?_
    refine r_step rfl trivial (o_ldb (v := .int .i64 x7806.Kind) hS7818 (i := 0) rfl rfl (by kernel_rfl)) ?_
    rcases ifs hm with ⟨hp7831, hm⟩ | ⟨hp7831, hm⟩
    · refine r_step rfl trivial (o_cmp rfl rfl (c_neq_F hp7831)) ?_
      refine r_run 2 (l' := [(29, .pointer (some ⟨b7814, 1, none⟩)), (28, .bool false), (27, .bool false), (26, .int .i64 x7806.Kind), (25, .pointer (some ⟨b7814, 0, none⟩)), (6, .pointer (some ⟨b7814, 0, none⟩)), (5, .pointer (some ⟨b7801, 0, none⟩)), (1, .int .i64 a1)]) (by kernel_rfl) ?_
      refine r_step rfl rfl (o_ldb (v := .int .i64 x7806.From) hS7818 (i := 0) rfl rfl (by kernel_rfl)) ?_
      rcases ifs hm with ⟨hp7832, hm⟩ | ⟨hp7832, hm⟩
      · refine r_step rfl rfl (o_cmp rfl rfl (c_neq_F hp7832)) ?_
        refine r_run 3 (l' := [(34, .pointer (some ⟨b7814, 2, none⟩)), (33, .bool false), (32, .bool false), (31, .bool false), (30, .int .i64 x7806.From), (29, .pointer (some ⟨b7814, 1, none⟩)), (28, .bool false), (27, .bool false), (26, .int .i64 x7806.Kind), (25, .pointer (some ⟨b7814, 0, none⟩)), (6, .pointer (some ⟨b7814, 0, none⟩)), (5, .pointer (some ⟨b7801, 0, none⟩)), (1, .int .i64 a1)]) (by kernel_rfl) ?_
        refine r_step rfl rfl (o_ldb (v := .int .i64 x7806.To) hS7818 (i := 0) rfl rfl (by kernel_rfl)) ?_
        refine r_run 1 (l' := [(36, .int .i64 a1), (35, .int .i64 x7806.To), (34, .pointer (some ⟨b7814, 2, none⟩)), (33, .bool false), (32, .bool false), (31, .bool false), (30, .int .i64 x7806.From), (29, .pointer (some ⟨b7814, 1, none⟩)), (28, .bool false), (27, .bool false), (26, .int .i64 x7806.Kind), (25, .pointer (some ⟨b7814, 0, none⟩)), (6, .pointer (some ⟨b7814, 0, none⟩)), (5, .pointer (some ⟨b7801, 0, none⟩)), (1, .int .i64 a1)]) (by kernel_rfl) ?_
        rcases ifs hm with ⟨hp7833, hm⟩ | ⟨hp7833, hm⟩
        · refine r_step rfl rfl (o_cmp rfl rfl (c_neq_F hp7833)) ?_
          refine r_run 3 (l' := [(40, .pointer (some ⟨b7814, 3, none⟩)), (39, .bool false), (38, .bool false), (37, .bool false), (36, .int .i64 a1), (35, .int .i64 x7806.To), (34, .pointer (some ⟨b7814, 2, none⟩)), (33, .bool false), (32, .bool false), (31, .bool false), (30, .int .i64 x7806.From), (29, .pointer (some ⟨b7814, 1, none⟩)), (28, .bool false), (27, .bool false), (26, .int .i64 x7806.Kind), (25, .pointer (some ⟨b7814, 0, none⟩)), (6, .pointer (some ⟨b7814, 0, none⟩)), (5, .pointer (some ⟨b7801, 0, none⟩)), (1, .int .i64 a1)]) (by kernel_rfl) ?_
          refine r_step rfl rfl (o_ldb (v := .int .i64 x7806.Up) hS7818 (i := 0) rfl rfl (by kernel_rfl)) ?_
          rcases ifs hm with ⟨hp7834, hm⟩ | ⟨hp7834, hm⟩
          · refine r_step rfl rfl (o_cmp rfl rfl (c_neq_F hp7834)) ?_
            refine r_run 1 (l' := [(43, .bool false), (42, .bool false), (41, .int .i64 x7806.Up), (40, .pointer (some ⟨b7814, 3, none⟩)), (39, .bool false), (38, .bool false), (37, .bool false), (36, .int .i64 a1), (35, .int .i64 x7806.To), (34, .pointer (some ⟨b7814, 2, none⟩)), (33, .bool false), (32, .bool false), (31, .bool false), (30, .int .i64 x7806.From), (29, .pointer (some ⟨b7814, 1, none⟩)), (28, .bool false), (27, .bool false), (26, .int .i64 x7806.Kind), (25, .pointer (some ⟨b7814, 0, none⟩)), (6, .pointer (some ⟨b7814, 0, none⟩)), (5, .pointer (some ⟨b7801, 0, none⟩)), (1, .int .i64 a1)]) (by kernel_rfl) ?_
            refine r_forget [43, 5] (l' := [(43, .bool false), (5, .pointer (some ⟨b7801, 0, none⟩))]) (by kernel_rfl) ?_
            refine r_end rfl ?_
            refine W_condF (x := .tmp 43) (by kernel_rfl) rfl rfl ?_
            refine W_skip (by kernel_rfl) ?_
            refine W_seq (by kernel_rfl) ?_
            refine W_region (R := r20_7) (by kernel_rfl) ?_
            refine r_run 1 (l' := [(7, .int .i64 0), (43, .bool false), (5, .pointer (some ⟨b7801, 0, none⟩))]) (by kernel_rfl) ?_
            refine r_forget [7, 5] (l' := [(7, .int .i64 0), (5, .pointer (some ⟨b7801, 0, none⟩))]) (by kernel_rfl) ?_
            refine r_end rfl ?_
            refine W_seq (by kernel_rfl) ?_
            refine W_seq (by kernel_rfl) ?_
            refine W_region (R := r20_8) (by kernel_rfl) ?_
            refine r_run 4 (l' := [(47, .pointer (some ⟨b7801, 0, none⟩)), (46, .pointer (some ⟨b7801, 0, none⟩)), (45, .pointer (some ⟨b7801, 0, none⟩)), (44, .pointer (some ⟨b7801, 0, none⟩)), (7, .int .i64 0), (5, .pointer (some ⟨b7801, 0, none⟩))]) (by kernel_rfl) ?_
            refine r_step rfl trivial (o_ldb (v := v7803) hS7818 (i := 1) rfl rfl (by kernel_rfl)) ?_
            refine r_step rfl trivial (o_len rfl (hS7818.glen (i := 2) rfl q7802) ⟨_, Go.Proofs.Try.underlying25⟩) ?_
            refine r_run 1 (l' := [(50, .int .i64 0), (49, .int .i64 (r7790.Tree.Nodes.length : Int)), (48, v7803), (47, .pointer (some ⟨b7801, 0, none⟩)), (46, .pointer (some ⟨b7801, 0, none⟩)), (45, .pointer (some ⟨b7801, 0, none⟩)), (44, .pointer (some ⟨b7801, 0, none⟩)), (7, .int .i64 0), (5, .pointer (some ⟨b7801, 0, none⟩))]) (by kernel_rfl) ?_
            refine r_forget [50, 49, 48, 7, 5] (l' := [(50, .int .i64 0), (49, .int .i64 (r7790.Tree.Nodes.length : Int)), (48, v7803), (7, .int .i64 0), (5, .pointer (some ⟨b7801, 0, none⟩))]) (by kernel_rfl) ?_
            refine r_end rfl ?_
            obtain ⟨o8439, ho8438, hm⟩ := obind hm
            refine W_join [5, 7] (fun l h => ∃ Z8879 : Zn, ∃ x8881 : List api_Node, ∃ x8885 : Int, ∃ b8880 : Nat, ∃ v8883 : Value, ∃ c8884 : List Value, .inl (x8881, x8885) = o8439 ∧ RCs (α := api_Node) Z8879 c8884 x8881 ∧ l = [(5, .pointer (some ⟨b8880, 0, none⟩)), (7, .int .i64 x8885)] ∧ St hs [] Z (0, 0) Z8879 h [.blk b8880 [v8883], .gs v8883 c8884 (csz api_Node)]) ?_ ?_
            · rintro l h8886 ⟨Z8879, x8881, x8885, b8880, v8883, c8884, rfl, q8882, rfl, hS8887⟩
              try dsimp only at hm
              refine W_seq (by kernel_rfl) ?_
              refine W_region (R := r20_21) (by kernel_rfl) ?_
              refine r_run 5 (l' := [(99, .pointer (some ⟨b8880, 0, none⟩)), (98, .pointer (some ⟨b8880, 0, none⟩)), (97, .pointer (some ⟨b8880, 0, none⟩)), (96, .pointer (some ⟨b8880, 0, none⟩)), (95, .int .i64 x8885), (5, .pointer (some ⟨b8880, 0, none⟩)), (7, .int .i64 x8885)]) (by kernel_rfl) ?_
              refine r_step rfl trivial (o_ldb (v := v8883) hS8887 (i := 0) rfl rfl (by kernel_rfl)) ?_
              refine r_step rfl trivial (o_len rfl (hS8887.glen (i := 1) rfl q8882) ⟨_, Go.Proofs.Try.underlying25⟩) ?_
              refine r_run 1 (l' := [(102, .int .i64 (w64 ((x8881.length : Int) - 1))), (101, .int .i64 (x8881.length : Int)), (100, v8883), (99, .pointer (some ⟨b8880, 0, none⟩)), (98, .pointer (some ⟨b8880, 0, none⟩)), (97, .pointer (some ⟨b8880, 0, none⟩)), (96, .pointer (some ⟨b8880, 0, none⟩)), (95, .int .i64 x8885), (5, .pointer (some ⟨b8880, 0, none⟩)), (7, .int .i64 x8885)]) (by kernel_rfl) ?_
              rcases ifs hm with ⟨hp8889, hm⟩ | ⟨hp8889, hm⟩
              · refine r_step rfl trivial (o_cmp rfl rfl (c_eql_T hp8889)) ?_
                refine r_run 1 (l' := [(4, .bool true), (103, .bool true), (102, .int .i64 (w64 ((x8881.length : Int) - 1))), (101, .int .i64 (x8881.length : Int)), (100, v8883), (99, .pointer (some ⟨b8880, 0, none⟩)), (98, .pointer (some ⟨b8880, 0, none⟩)), (97, .pointer (some ⟨b8880, 0, none⟩)), (96, .pointer (some ⟨b8880, 0, none⟩)), (95, .int .i64 x8885), (5, .pointer (some ⟨b8880, 0, none⟩)), (7, .int .i64 x8885)]) (by kernel_rfl) ?_
                refine r_forget [4] (l' := [(4, .bool true)]) (by kernel_rfl) ?_
                refine r_end rfl ?_
                refine W_ret (by kernel_rfl) ?_
                refine ⟨rfl, ?_⟩
                obtain rfl := Option.some.inj hm
                refine ⟨_, _, _, ResL.tmp rfl (ResL.nil), hS8887, ?_⟩
                exact rfl
              · refine r_step rfl trivial (o_cmp rfl rfl (c_eql_F hp8889)) ?_
                refine r_run 1 (l' := [(4, .bool false), (103, .bool false), (102, .int .i64 (w64 ((x8881.length : Int) - 1))), (101, .int .i64 (x8881.length : Int)), (100, v8883), (99, .pointer (some ⟨b8880, 0, none⟩)), (98, .pointer (some ⟨b8880, 0, none⟩)), (97, .pointer (some ⟨b8880, 0, none⟩)), (96, .pointer (some ⟨b8880, 0, none⟩)), (95, .int .i64 x8885), (5, .pointer (some ⟨b8880, 0, none⟩)), (7, .int .i64 x8885)]) (by kernel_rfl) ?_
                refine r_forget [4] (l' := [(4, .bool false)]) (by kernel_rfl) ?_
                refine r_end rfl ?_
                refine W_ret (by kernel_rfl) ?_
                refine ⟨rfl, ?_⟩
                obtain rfl := Option.some.inj hm
                refine ⟨_, _, _, ResL.tmp rfl (ResL.nil), hS8887, ?_⟩
                exact rfl
            · refine W_block (i := 0) (by kernel_rfl) ?_
              refine W_loop [5, 7, 48, 49, 50] (fun n l h => ∃ Z8440 : Zn, ∃ x8442 : List api_Node, ∃ x8446 : Int, ∃ x8447 : Int, ∃ x8448 : Int, ∃ b8441 : Nat, ∃ v8444 : Value, ∃ c8445 : List Value, arena_Check_l0 F a0 a1 n x8442 x8446 x8447 x8448 = some o8439 ∧ RCs (α := api_Node) Z8440 c8445 x8442 ∧ l = [(5, .pointer (some ⟨b8441, 0, none⟩)), (7, .int .i64 x8446), (48, v8444), (49, .int .i64 x8447), (50, .int .i64 x8448)] ∧ St hs [] Z (0, 0) Z8440 h [.blk b8441 [v8444], .gs v8444 c8445 (csz api_Node)]) F (by kernel_rfl) ⟨_, r7790.Tree.Nodes, 0, (r7790.Tree.Nodes.length : Int), 0, b7801, v7803, c7804, ho8438, q7802, rfl, (((hS7818.front 2 rfl).front 2 rfl).takeN 2)⟩ ?_
              rintro n8451 l h8449 ⟨Z8440, x8442, x8446, x8447, x8448, b8441, v8444, c8445, ho8438, q8443, rfl, hS8450⟩
              cases n8451 with
              | zero => cases (show none = some o8439 from ho8438)
              | succ n8451 =>
                rw [arena_Check_l0] at ho8438
                refine W_seq (by kernel_rfl) ?_
                refine W_region (R := r20_9) (by kernel_rfl) ?_
                rcases ifs ho8438 with ⟨hp8453, ho8438⟩ | ⟨hp8453, ho8438⟩
                · refine r_step rfl trivial (o_cmp rfl rfl (c_lss_T hp8453)) ?_
                  refine r_forget [51, 5, 7, 48, 49, 50] (l' := [(51, .bool true), (5, .pointer (some ⟨b8441, 0, none⟩)), (7, .int .i64 x8446), (48, v8444), (49, .int .i64 x8447), (50, .int .i64 x8448)]) (by kernel_rfl) ?_
                  refine r_end rfl ?_
                  refine W_seq (by kernel_rfl) ?_
                  refine W_condT (x := .tmp 51) (by kernel_rfl) rfl rfl ?_
                  refine W_skip (by kernel_rfl) ?_
                  refine W_seq (by kernel_rfl) ?_
                  refine W_block (i := 1) (by kernel_rfl) ?_
                  refine W_seq (by kernel_rfl) ?_
                  refine W_region (R := r20_10) (by kernel_rfl) ?_
                  refine r_run 1 (l' := [(52, .int .i64 x8448), (51, .bool true), (5, .pointer (some ⟨b8441, 0, none⟩)), (7, .int .i64 x8446), (48, v8444), (49, .int .i64 x8447), (50, .int .i64 x8448)]) (by kernel_rfl) ?_
                  obtain ⟨hc8596, ho8438⟩ := chk ho8438
                  refine r_step rfl trivial (o_index rfl rfl (by kernel_rfl : slTy _ _ = some (csz api_Node)) (hS8450.gbased (j := 1) rfl q8443 (by omega)) hc8596.1 hc8596.2) ?_
                  obtain ⟨x8597, hx8598, ho8438⟩ := obind ho8438
                  obtain ⟨cs8599, hc8600, he8601, ht8602⟩ := hS8450.gel (j := 1) rfl q8443 (i := x8448) hx8598
                  obtain ⟨v8603, q8604, rfl⟩ := rc_api_Node hc8600
                  refine r_step rfl trivial (o_lde (w := .agg #[.int .i64 x8597.Kind, .int .i64 x8597.From, .int .i64 x8597.To, .int .i64 x8597.Up, v8603, .bool x8597.Key]) he8601 rfl (by kernel_rfl)) ?_
                  refine r_blk rfl trivial (o_alloc (cs := [.int .i64 0, .int .i64 0, .int .i64 0, .int .i64 0, .slice none 0 0, .bool false]) (by kernel_rfl)) hS8450 ?_
                  intro b8605 h8606 hS8607
                  refine r_run 1 (l' := [(8, .int .i64 x8448), (9, .pointer (some ⟨b8605, 0, none⟩)), (54, .agg #[.int .i64 x8597.Kind, .int .i64 x8597.From, .int .i64 x8597.To, .int .i64 x8597.Up, v8603, .bool x8597.Key]), (53, .pointer (some (elemA v8444 x8448 (csz api_Node) 0))), (52, .int .i64 x8448), (51, .bool true), (5, .pointer (some ⟨b8441, 0, none⟩)), (7, .int .i64 x8446), (48, v8444), (49, .int .i64 x8447), (50, .int .i64 x8448)]) (by kernel_rfl) ?_
                  refine r_ex1 rfl trivial (o_stb (vs := [.int .i64 x8597.Kind, .int .i64 x8597.From, .int .i64 x8597.To, .int .i64 x8597.Up, v8603, .bool x8597.Key]) (cells' := [.int .i64 x8597.Kind, .int .i64 x8597.From, .int .i64 x8597.To, .int .i64 x8597.Up, v8603, .bool x8597.Key]) (L' := [.blk b8605 [.int .i64 x8597.Kind, .int .i64 x8597.From, .int .i64 x8597.To, .int .i64 x8597.Up, v8603, .bool x8597.Key], .blk b8441 [v8444], .gs v8444 c8445 (csz api_Node)]) hS8607 (i := 0) rfl rfl rfl rfl (by kernel_rfl) (one_cons rfl (one_cons rfl (one_cons rfl (one_cons rfl (one_cons (RS.one1 q8604) (one_cons rfl one_nil)))))) rfl rfl rfl) ?_
                  intro h8608 hS8609
                  refine r_forget [8, 9, 5, 7, 48, 49, 50] (l' := [(8, .int .i64 x8448), (9, .pointer (some ⟨b8605, 0, none⟩)), (5, .pointer (some ⟨b8441, 0, none⟩)), (7, .int .i64 x8446), (48, v8444), (49, .int .i64 x8447), (50, .int .i64 x8448)]) (by kernel_rfl) ?_
                  refine r_end rfl ?_
                  refine W_seq (by kernel_rfl) ?_
                  obtain ⟨o8641, ho8640, ho8438⟩ := obind ho8438
                  refine W_join [5, 7, 9, 48, 49, 50] (fun l h => ∃ Z8672 : Zn, ∃ x8674 : List api_Node, ∃ x8678 : Int, ∃ x8680 : Int, ∃ x8681 : Int, ∃ x8682 : Int, ∃ x8683 : Int, ∃ x8684 : List Int, ∃ x8687 : Bool, ∃ x8688 : Int, ∃ x8689 : Int, ∃ b8673 : Nat, ∃ v8676 : Value, ∃ c8677 : List Value, ∃ b8679 : Nat, ∃ v8686 : Value, .inl (x8674, x8678, x8680, x8681, x8682, x8683, x8684, x8687, x8688, x8689) = o8641 ∧ RCs (α := api_Node) Z8672 c8677 x8674 ∧ RS (α := Int) Z8672 v8686 x8684 ∧ l = [(5, .pointer (some ⟨b8673, 0, none⟩)), (7, .int .i64 x8678), (9, .pointer (some ⟨b8679, 0, none⟩)), (48, v8676), (49, .int .i64 x8688), (50, .int .i64 x8689)] ∧ St hs [] Z (0, 0) Z8672 h [.blk b8673 [v8676], .gs v8676 c8677 (csz api_Node), .blk b8679 [.int .i64 x8680, .int .i64 x8681, .int .i64 x8682, .int .i64 x8683, v8686, .bool x8687]]) ?_ ?_
                  · rintro l h8690 ⟨Z8672, x8674, x8678, x8680, x8681, x8682, x8683, x8684, x8687, x8688, x8689, b8673, v8676, c8677, b8679, v8686, rfl, q8675, q8685, rfl, hS8691⟩
                    try dsimp only at ho8438
                    refine W_seq (by kernel_rfl) ?_
                    refine W_region (R := r20_13) (by kernel_rfl) ?_
                    refine r_run 2 (l' := [(75, .pointer (some ⟨b8679, 4, none⟩)), (74, .int .i64 x8678), (5, .pointer (some ⟨b8673, 0, none⟩)), (7, .int .i64 x8678), (9, .pointer (some ⟨b8679, 0, none⟩)), (48, v8676), (49, .int .i64 x8688), (50, .int .i64 x8689)]) (by kernel_rfl) ?_
                    refine r_step rfl trivial (o_ldb (v := v8686) hS8691 (i := 2) rfl rfl (by kernel_rfl)) ?_
                    refine r_step rfl trivial (o_len rfl (RS.len q8685) ⟨_, Go.Proofs.Try.underlying44⟩) ?_
                    refine r_run 2 (l' := [(7, .int .i64 (w64 (x8678 + (x8684.length : Int)))), (78, .int .i64 (w64 (x8678 + (x8684.length : Int)))), (77, .int .i64 (x8684.length : Int)), (76, v8686), (75, .pointer (some ⟨b8679, 4, none⟩)), (74, .int .i64 x8678), (5, .pointer (some ⟨b8673, 0, none⟩)), (7, .int .i64 x8678), (9, .pointer (some ⟨b8679, 0, none⟩)), (48, v8676), (49, .int .i64 x8688), (50, .int .i64 x8689)]) (by kernel_rfl) ?_
                    refine r_forget [7, 5, 9, 48, 49, 50] (l' := [(7, .int .i64 (w64 (x8678 + (x8684.length : Int)))), (5, .pointer (some ⟨b8673, 0, none⟩)), (9, .pointer (some ⟨b8679, 0, none⟩)), (48, v8676), (49, .int .i64 x8688), (50, .int .i64 x8689)]) (by kernel_rfl) ?_
                    refine r_end rfl ?_
                    refine W_seq (by kernel_rfl) ?_
                    refine W_region (R := r20_14) (by kernel_rfl) ?_
                    refine r_run 1 (l' := [(79, .pointer (some ⟨b8679, 4, none⟩)), (7, .int .i64 (w64 (x8678 + (x8684.length : Int)))), (5, .pointer (some ⟨b8673, 0, none⟩)), (9, .pointer (some ⟨b8679, 0, none⟩)), (48, v8676), (49, .int .i64 x8688), (50, .int .i64 x8689)]) (by kernel_rfl) ?_
                    refine r_step rfl trivial (o_ldb (v := v8686) hS8691 (i := 2) rfl rfl (by kernel_rfl)) ?_
                    refine r_step rfl trivial (o_len rfl (RS.len q8685) ⟨_, Go.Proofs.Try.underlying44⟩) ?_
                    refine r_run 1 (l' := [(82, .int .i64 0), (81, .int .i64 (x8684.length : Int)), (80, v8686), (79, .pointer (some ⟨b8679, 4, none⟩)), (7, .int .i64 (w64 (x8678 + (x8684.length : Int)))), (5, .pointer (some ⟨b8673, 0, none⟩)), (9, .pointer (some ⟨b8679, 0, none⟩)), (48, v8676), (49, .int .i64 x8688), (50, .int .i64 x8689)]) (by kernel_rfl) ?_
                    refine r_forget [82, 81, 80, 7, 5, 9, 48, 49, 50] (l' := [(82, .int .i64 0), (81, .int .i64 (x8684.length : Int)), (80, v8686), (7, .int .i64 (w64 (x8678 + (x8684.length : Int)))), (5, .pointer (some ⟨b8673, 0, none⟩)), (9, .pointer (some ⟨b8679, 0, none⟩)), (48, v8676), (49, .int .i64 x8688), (50, .int .i64 x8689)]) (by kernel_rfl) ?_
                    refine r_end rfl ?_
                    obtain ⟨o8760, ho8759, ho8438⟩ := obind ho8438
                    refine W_join [5, 7, 48, 49, 50] (fun l h => ∃ Z8837 : Zn, ∃ x8839 : List api_Node, ∃ x8843 : Int, ∃ x8844 : Int, ∃ x8845 : Int, ∃ b8838 : Nat, ∃ v8841 : Value, ∃ c8842 : List Value, .inl (x8839, x8843, x8844, x8845) = o8760 ∧ RCs (α := api_Node) Z8837 c8842 x8839 ∧ l = [(5, .pointer (some ⟨b8838, 0, none⟩)), (7, .int .i64 x8843), (48, v8841), (49, .int .i64 x8844), (50, .int .i64 x8845)] ∧ St hs [] Z (0, 0) Z8837 h [.blk b8838 [v8841], .gs v8841 c8842 (csz api_Node)]) ?_ ?_
                    · rintro l h8846 ⟨Z8837, x8839, x8843, x8844, x8845, b8838, v8841, c8842, rfl, q8840, rfl, hS8847⟩
                      try dsimp only at ho8438
                      refine W_region (R := r20_20) (by kernel_rfl) ?_
                      refine r_run 2 (l' := [(50, .int .i64 (w64 (x8845 + 1))), (94, .int .i64 (w64 (x8845 + 1))), (5, .pointer (some ⟨b8838, 0, none⟩)), (7, .int .i64 x8843), (48, v8841), (49, .int .i64 x8844), (50, .int .i64 x8845)]) (by kernel_rfl) ?_
                      refine r_forget [50, 5, 7, 48, 49] (l' := [(50, .int .i64 (w64 (x8845 + 1))), (5, .pointer (some ⟨b8838, 0, none⟩)), (7, .int .i64 x8843), (48, v8841), (49, .int .i64 x8844)]) (by kernel_rfl) ?_
                      refine r_end rfl ?_
                      exact ⟨n8451, Nat.lt_succ_self _, ⟨_, x8839, x8843, x8844, w64 (x8845 + 1), b8838, v8841, c8842, ho8438, q8840, rfl, hS8847⟩⟩
                    · refine W_block (i := 2) (by kernel_rfl) ?_
                      refine W_loop [5, 7, 9, 48, 49, 50, 80, 81, 82] (fun n l h => ∃ Z8761 : Zn, ∃ x8763 : List api_Node, ∃ x8767 : Int, ∃ x8769 : Int, ∃ x8770 : Int, ∃ x8771 : Int, ∃ x8772 : Int, ∃ x8773 : List Int, ∃ x8776 : Bool, ∃ x8777 : Int, ∃ x8778 : Int, ∃ x8779 : List Int, ∃ x8782 : Int, ∃ x8783 : Int, ∃ b8762 : Nat, ∃ v8765 : Value, ∃ c8766 : List Value, ∃ b8768 : Nat, ∃ v8775 : Value, ∃ v8781 : Value, arena_Check_l1 F a0 a1 n x8763 x8767 x8769 x8770 x8771 x8772 x8773 x8776 x8777 x8778 x8779 x8782 x8783 = some o8760 ∧ RCs (α := api_Node) Z8761 c8766 x8763 ∧ RS (α := Int) Z8761 v8775 x8773 ∧ RS (α := Int) Z8761 v8781 x8779 ∧ l = [(5, .pointer (some ⟨b8762, 0, none⟩)), (7, .int .i64 x8767), (9, .pointer (some ⟨b8768, 0, none⟩)), (48, v8765), (49, .int .i64 x8777), (50, .int .i64 x8778), (80, v8781), (81, .int .i64 x8782), (82, .int .i64 x8783)] ∧ St hs [] Z (0, 0) Z8761 h [.blk b8762 [v8765], .gs v8765 c8766 (csz api_Node), .blk b8768 [.int .i64 x8769, .int .i64 x8770, .int .i64 x8771, .int .i64 x8772, v8775, .bool x8776]]) F (by kernel_rfl) ⟨_, x8674, w64 (x8678 + (x8684.length : Int)), x8680, x8681, x8682, x8683, x8684, x8687, x8688, x8689, x8684, (x8684.length : Int), 0, b8673, v8676, c8677, b8679, v8686, v8686, ho8759, q8675, q8685, q8685, rfl, hS8691⟩ ?_
                      rintro n8786 l h8784 ⟨Z8761, x8763, x8767, x8769, x8770, x8771, x8772, x8773, x8776, x8777, x8778, x8779, x8782, x8783, b8762, v8765, c8766, b8768, v8775, v8781, ho8759, q8764, q8774, q8780, rfl, hS8785⟩
                      cases n8786 with
                      | zero => cases (show none = some o8760 from ho8759)
                      | succ n8786 =>
                        rw [arena_Check_l1] at ho8759
                        refine W_seq (by kernel_rfl) ?_
                        refine W_region (R := r20_15) (by kernel_rfl) ?_
                        rcases ifs ho8759 with ⟨hp8788, ho8759⟩ | ⟨hp8788, ho8759⟩
                        · refine r_step rfl trivial (o_cmp rfl rfl (c_lss_T hp8788)) ?_
                          refine r_forget [83, 5, 7, 9, 48, 49, 50, 80, 81, 82] (l' := [(83, .bool true), (5, .pointer (some ⟨b8762, 0, none⟩)), (7, .int .i64 x8767), (9, .pointer (some ⟨b8768, 0, none⟩)), (48, v8765), (49, .int .i64 x8777), (50, .int .i64 x8778), (80, v8781), (81, .int .i64 x8782), (82, .int .i64 x8783)]) (by kernel_rfl) ?_
                          refine r_end rfl ?_
                          refine W_seq (by kernel_rfl) ?_
                          refine W_condT (x := .tmp 83) (by kernel_rfl) rfl rfl ?_
                          refine W_skip (by kernel_rfl) ?_
                          refine W_seq (by kernel_rfl) ?_
                          refine W_block (i := 3) (by kernel_rfl) ?_
                          refine W_seq (by kernel_rfl) ?_
                          refine W_region (R := r20_16) (by kernel_rfl) ?_
                          refine r_run 1 (l' := [(84, .int .i64 x8783), (83, .bool true), (5, .pointer (some ⟨b8762, 0, none⟩)), (7, .int .i64 x8767), (9, .pointer (some ⟨b8768, 0, none⟩)), (48, v8765), (49, .int .i64 x8777), (50, .int .i64 x8778), (80, v8781), (81, .int .i64 x8782), (82, .int .i64 x8783)]) (by kernel_rfl) ?_
                          obtain ⟨hc8809, ho8759⟩ := chk ho8759
                          refine r_step rfl trivial (o_index rfl rfl (by kernel_rfl : slTy _ _ = some (csz Int)) (RS.based q8780 (by omega)) hc8809.1 hc8809.2) ?_
                          obtain ⟨x8810, hx8811, ho8759⟩ := obind ho8759
                          obtain ⟨cs8812, hc8813, he8814⟩ := RS.el q8780 hS8785.inv (i := x8783) hx8811
                          obtain rfl := rc_Int hc8813
                          refine r_step rfl trivial (o_lde (w := .int .i64 x8810) he8814 rfl (by kernel_rfl)) ?_
                          refine r_run 2 (l' := [(11, .int .i64 x8810), (10, .int .i64 x8783), (86, .int .i64 x8810), (85, .pointer (some (elemA v8781 x8783 (csz Int) 0))), (84, .int .i64 x8783), (83, .bool true), (5, .pointer (some ⟨b8762, 0, none⟩)), (7, .int .i64 x8767), (9, .pointer (some ⟨b8768, 0, none⟩)), (48, v8765), (49, .int .i64 x8777), (50, .int .i64 x8778), (80, v8781), (81, .int .i64 x8782), (82, .int .i64 x8783)]) (by kernel_rfl) ?_
                          refine r_forget [11, 10, 5, 7, 9, 48, 49, 50, 80, 81, 82] (l' := [(11, .int .i64 x8810), (10, .int .i64 x8783), (5, .pointer (some ⟨b8762, 0, none⟩)), (7, .int .i64 x8767), (9, .pointer (some ⟨b8768, 0, none⟩)), (48, v8765), (49, .int .i64 x8777), (50, .int .i64 x8778), (80, v8781), (81, .int .i64 x8782), (82, .int .i64 x8783)]) (by kernel_rfl) ?_
                          refine r_end rfl ?_
                          refine W_seq (by kernel_rfl) ?_
                          refine W_region (R := r20_17) (by kernel_rfl) ?_
                          refine r_run 1 (l' := [(87, .pointer (some ⟨b8768, 4, none⟩)), (11, .int .i64 x8810), (10, .int .i64 x8783), (5, .pointer (some ⟨b8762, 0, none⟩)), (7, .int .i64 x8767), (9, .pointer (some ⟨b8768, 0, none⟩)), (48, v8765), (49, .int .i64 x8777), (50, .int .i64 x8778), (80, v8781), (81, .int .i64 x8782), (82, .int .i64 x8783)]) (by kernel_rfl) ?_
                          refine r_step rfl trivial (o_ldb (v := v8775) hS8785 (i := 2) rfl rfl (by kernel_rfl)) ?_
                          refine r_run 1 (l' := [(89, .int .i64 x8783), (88, v8775), (87, .pointer (some ⟨b8768, 4, none⟩)), (11, .int .i64 x8810), (10, .int .i64 x8783), (5, .pointer (some ⟨b8762, 0, none⟩)), (7, .int .i64 x8767), (9, .pointer (some ⟨b8768, 0, none⟩)), (48, v8765), (49, .int .i64 x8777), (50, .int .i64 x8778), (80, v8781), (81, .int .i64 x8782), (82, .int .i64 x8783)]) (by kernel_rfl) ?_
                          obtain ⟨hc8819, ho8759⟩ := chk ho8759
                          refine r_exv rfl trivial (o_slice (a := 0) (b := x8783) q8774 rfl (by kernel_rfl : slTy _ _ = some (csz Int)) rfl ⟨_, rfl⟩ hc8819.1 hc8819.2.1 hc8819.2.2) ?_
                          intro v8816 q8817
                          refine r_run 1 (l' := [(91, .int .i64 x8810), (90, v8816), (89, .int .i64 x8783), (88, v8775), (87, .pointer (some ⟨b8768, 4, none⟩)), (11, .int .i64 x8810), (10, .int .i64 x8783), (5, .pointer (some ⟨b8762, 0, none⟩)), (7, .int .i64 x8767), (9, .pointer (some ⟨b8768, 0, none⟩)), (48, v8765), (49, .int .i64 x8777), (50, .int .i64 x8778), (80, v8781), (81, .int .i64 x8782), (82, .int .i64 x8783)]) (by kernel_rfl) ?_
                          obtain ⟨r8820, hx8821, ho8759⟩ := obind ho8759
                          obtain ⟨v8822, h8823, hcl8824, hSc8825, rfl⟩ := slices_Contains_int_ok F hS8785.inv q8817 hx8821
                          have hS8826 := St.call (A := []) (B := [.blk b8762 [v8765], .gs v8765 c8766 (csz api_Node), .blk b8768 [.int .i64 x8769, .int .i64 x8770, .int .i64 x8771, .int .i64 x8772, v8775, .bool x8776]]) hS8785 hSc8825
                          replace hS8826 : St _ _ _ _ _ _ [.blk b8762 [v8765], .gs v8765 c8766 (csz api_Node), .blk b8768 [.int .i64 x8769, .int .i64 x8770, .int .i64 x8771, .int .i64 x8772, v8775, .bool x8776]] := hS8826
                          refine r_step rfl trivial (o_call hcl8824 rfl rfl rfl) ?_
                          refine r_forget [92, 5, 7, 9, 48, 49, 50, 80, 81, 82] (l' := [(92, .bool r8820), (5, .pointer (some ⟨b8762, 0, none⟩)), (7, .int .i64 x8767), (9, .pointer (some ⟨b8768, 0, none⟩)), (48, v8765), (49, .int .i64 x8777), (50, .int .i64 x8778), (80, v8781), (81, .int .i64 x8782), (82, .int .i64 x8783)]) (by kernel_rfl) ?_
                          refine r_end rfl ?_
                          rcases ifs ho8759 with ⟨hp8828, ho8759⟩ | ⟨hp8828, ho8759⟩
                          · refine W_condT (x := .tmp 92) (by kernel_rfl) rfl hp8828 ?_
                            refine W_seq (by kernel_rfl) ?_
                            refine W_region (R := r20_18) (by kernel_rfl) ?_
                            refine r_run 1 (l' := [(4, .bool false), (92, .bool r8820), (5, .pointer (some ⟨b8762, 0, none⟩)), (7, .int .i64 x8767), (9, .pointer (some ⟨b8768, 0, none⟩)), (48, v8765), (49, .int .i64 x8777), (50, .int .i64 x8778), (80, v8781), (81, .int .i64 x8782), (82, .int .i64 x8783)]) (by kernel_rfl) ?_
                            refine r_forget [4] (l' := [(4, .bool false)]) (by kernel_rfl) ?_
                            refine r_end rfl ?_
                            refine W_ret (by kernel_rfl) ?_
                            refine blkX_ret ?_
                            refine blkX_ret ?_
                            refine blkX_ret ?_
                            refine blkX_ret ?_
                            refine ⟨rfl, ?_⟩
                            obtain rfl := Option.some.inj ho8759
                            obtain rfl := Option.some.inj ho8438
                            obtain rfl := Option.some.inj hm
                            refine ⟨_, _, _, ResL.tmp rfl (ResL.nil), hS8826, ?_⟩
                            exact rfl
                          · refine W_condF (x := .tmp 92) (by kernel_rfl) rfl (Bool.eq_false_iff.2 hp8828) ?_
                            refine W_skip (by kernel_rfl) ?_
                            refine W_region (R := r20_19) (by kernel_rfl) ?_
                            refine r_run 2 (l' := [(82, .int .i64 (w64 (x8783 + 1))), (93, .int .i64 (w64 (x8783 + 1))), (92, .bool r8820), (5, .pointer (some ⟨b8762, 0, none⟩)), (7, .int .i64 x8767), (9, .pointer (some ⟨b8768, 0, none⟩)), (48, v8765), (49, .int .i64 x8777), (50, .int .i64 x8778), (80, v8781), (81, .int .i64 x8782), (82, .int .i64 x8783)]) (by kernel_rfl) ?_
                            refine r_forget [82, 5, 7, 9, 48, 49, 50, 80, 81] (l' := [(82, .int .i64 (w64 (x8783 + 1))), (5, .pointer (some ⟨b8762, 0, none⟩)), (7, .int .i64 x8767), (9, .pointer (some ⟨b8768, 0, none⟩)), (48, v8765), (49, .int .i64 x8777), (50, .int .i64 x8778), (80, v8781), (81, .int .i64 x8782)]) (by kernel_rfl) ?_
                            refine r_end rfl ?_
                            exact ⟨n8786, Nat.lt_succ_self _, ⟨_, x8763, x8767, x8769, x8770, x8771, x8772, x8773, x8776, x8777, x8778, x8779, x8782, w64 (x8783 + 1), b8762, v8765, c8766, b8768, v8775, v8781, ho8759, q8764, q8774, q8780, rfl, hS8826⟩⟩
                        · refine r_step rfl trivial (o_cmp rfl rfl (c_lss_F hp8788)) ?_
                          refine r_forget [83, 5, 7, 9, 48, 49, 50, 80, 81, 82] (l' := [(83, .bool false), (5, .pointer (some ⟨b8762, 0, none⟩)), (7, .int .i64 x8767), (9, .pointer (some ⟨b8768, 0, none⟩)), (48, v8765), (49, .int .i64 x8777), (50, .int .i64 x8778), (80, v8781), (81, .int .i64 x8782), (82, .int .i64 x8783)]) (by kernel_rfl) ?_
                          refine r_end rfl ?_
                          refine W_seq (by kernel_rfl) ?_
                          refine W_condF (x := .tmp 83) (by kernel_rfl) rfl rfl ?_
                          refine W_exit (i := 2) (by kernel_rfl) ?_
                          refine blkX_hit ?_
                          obtain rfl := Option.some.inj ho8759
                          exact ⟨_, x8763, x8767, x8777, x8778, b8762, v8765, c8766, rfl, q8764, rfl, (hS8785.takeN 2)⟩
                  · refine W_seq (by kernel_rfl) ?_
                    refine W_region (R := r20_11) (by kernel_rfl) ?_
                    refine r_run 2 (l' := [(56, .int .i64 x8448), (55, .pointer (some ⟨b8441, 0, none⟩)), (8, .int .i64 x8448), (9, .pointer (some ⟨b8605, 0, none⟩)), (5, .pointer (some ⟨b8441, 0, none⟩)), (7, .int .i64 x8446), (48, v8444), (49, .int .i64 x8447), (50, .int .i64 x8448)]) (by kernel_rfl) ?_
                    obtain ⟨r8657, hx8658, ho8640⟩ := obind ho8640
                    have hSr8664 : St _ _ _ _ _ _ ([.blk b8441 [v8444], .gs v8444 c8445 (csz api_Node)] ++ [.blk b8605 [.int .i64 x8597.Kind, .int .i64 x8597.From, .int .i64 x8597.To, .int .i64 x8597.Up, v8603, .bool x8597.Key]]) := ((hS8609.front 2 rfl).front 2 rfl)
                    obtain ⟨v8659, h8660, Z8665, A8667, hcl8661, hSc8662, rfl, rfl⟩ := arena_forest_lies_ok F hSr8664.preL q8443 hx8658
                    have hS8663 := hSr8664.call hSc8662
                    have hZ8666 := hSc8662.zle
                    replace hS8663 : St _ _ _ _ _ _ [.blk b8441 [v8444], .gs v8444 c8445 (csz api_Node), .blk b8605 [.int .i64 x8597.Kind, .int .i64 x8597.From, .int .i64 x8597.To, .int .i64 x8597.Up, v8603, .bool x8597.Key]] := hS8663
                    refine r_step rfl trivial (o_call hcl8661 rfl rfl rfl) ?_
                    rcases ifs ho8640 with ⟨hp8668, ho8640⟩ | ⟨hp8668, ho8640⟩
                    · refine r_setb (t := 57) rfl hp8668 ?_
                      refine r_run 3 (l' := [(60, .int .i64 x8448), (59, .bool false), (58, .bool false), (57, .bool true), (57, .bool r8657), (56, .int .i64 x8448), (55, .pointer (some ⟨b8441, 0, none⟩)), (8, .int .i64 x8448), (9, .pointer (some ⟨b8605, 0, none⟩)), (5, .pointer (some ⟨b8441, 0, none⟩)), (7, .int .i64 x8446), (48, v8444), (49, .int .i64 x8447), (50, .int .i64 x8448)]) (by kernel_rfl) ?_
                      rcases ifs ho8640 with ⟨hp8669, ho8640⟩ | ⟨hp8669, ho8640⟩
                      · refine r_step rfl rfl (o_cmp rfl rfl (c_gtr_T hp8669)) ?_
                        refine r_run 2 (l' := [(63, .pointer (some ⟨b8605, 3, none⟩)), (62, .bool true), (61, .bool true), (60, .int .i64 x8448), (59, .bool false), (58, .bool false), (57, .bool true), (57, .bool r8657), (56, .int .i64 x8448), (55, .pointer (some ⟨b8441, 0, none⟩)), (8, .int .i64 x8448), (9, .pointer (some ⟨b8605, 0, none⟩)), (5, .pointer (some ⟨b8441, 0, none⟩)), (7, .int .i64 x8446), (48, v8444), (49, .int .i64 x8447), (50, .int .i64 x8448)]) (by kernel_rfl) ?_
                        refine r_step rfl rfl (o_ldb (v := .int .i64 x8597.Up) hS8663 (i := 2) rfl rfl (by kernel_rfl)) ?_
                        rcases ifs ho8640 with ⟨hp8670, ho8640⟩ | ⟨hp8670, ho8640⟩
                        · refine r_step rfl rfl (o_cmp rfl rfl (c_lss_T hp8670)) ?_
                          refine r_run 8 (l' := [(73, .bool true), (72, .bool true), (71, .bool true), (70, undef), (69, undef), (68, undef), (67, undef), (66, .bool true), (65, .bool true), (64, .int .i64 x8597.Up), (63, .pointer (some ⟨b8605, 3, none⟩)), (62, .bool true), (61, .bool true), (60, .int .i64 x8448), (59, .bool false), (58, .bool false), (57, .bool true), (57, .bool r8657), (56, .int .i64 x8448), (55, .pointer (some ⟨b8441, 0, none⟩)), (8, .int .i64 x8448), (9, .pointer (some ⟨b8605, 0, none⟩)), (5, .pointer (some ⟨b8441, 0, none⟩)), (7, .int .i64 x8446), (48, v8444), (49, .int .i64 x8447), (50, .int .i64 x8448)]) (by kernel_rfl) ?_
                          refine r_forget [73, 9, 5, 7, 48, 49, 50] (l' := [(73, .bool true), (9, .pointer (some ⟨b8605, 0, none⟩)), (5, .pointer (some ⟨b8441, 0, none⟩)), (7, .int .i64 x8446), (48, v8444), (49, .int .i64 x8447), (50, .int .i64 x8448)]) (by kernel_rfl) ?_
                          refine r_end rfl ?_
                          refine W_condT (x := .tmp 73) (by kernel_rfl) rfl rfl ?_
                          refine W_seq (by kernel_rfl) ?_
                          refine W_region (R := r20_12) (by kernel_rfl) ?_
                          refine r_run 1 (l' := [(4, .bool false), (73, .bool true), (9, .pointer (some ⟨b8605, 0, none⟩)), (5, .pointer (some ⟨b8441, 0, none⟩)), (7, .int .i64 x8446), (48, v8444), (49, .int .i64 x8447), (50, .int .i64 x8448)]) (by kernel_rfl) ?_
                          refine r_forget [4] (l' := [(4, .bool false)]) (by kernel_rfl) ?_
                          refine r_end rfl ?_
                          refine W_ret (by kernel_rfl) ?_
                          refine blkX_ret ?_
                          refine blkX_ret ?_
                          refine ⟨rfl, ?_⟩
                          obtain rfl := Option.some.inj ho8640
                          obtain rfl := Option.some.inj ho8438
                          obtain rfl := Option.some.inj hm
                          refine ⟨_, _, _, ResL.tmp rfl (ResL.nil), hS8663, ?_⟩
                          exact rfl
                        · refine r_step rfl rfl (o_cmp rfl rfl (c_lss_F hp8670)) ?_
                          refine r_run 2 (l' := [(67, .pointer (some ⟨b8605, 3, none⟩)), (66, .bool false), (65, .bool false), (64, .int .i64 x8597.Up), (63, .pointer (some ⟨b8605, 3, none⟩)), (62, .bool true), (61, .bool true), (60, .int .i64 x8448), (59, .bool false), (58, .bool false), (57, .bool true), (57, .bool r8657), (56, .int .i64 x8448), (55, .pointer (some ⟨b8441, 0, none⟩)), (8, .int .i64 x8448), (9, .pointer (some ⟨b8605, 0, none⟩)), (5, .pointer (some ⟨b8441, 0, none⟩)), (7, .int .i64 x8446), (48, v8444), (49, .int .i64 x8447), (50, .int .i64 x8448)]) (by kernel_rfl) ?_
                          refine r_step rfl rfl (o_ldb (v := .int .i64 x8597.Up) hS8663 (i := 2) rfl rfl (by kernel_rfl)) ?_
                          refine r_run 1 (l' := [(69, .int .i64 x8448), (68, .int .i64 x8597.Up), (67, .pointer (some ⟨b8605, 3, none⟩)), (66, .bool false), (65, .bool false), (64, .int .i64 x8597.Up), (63, .pointer (some ⟨b8605, 3, none⟩)), (62, .bool true), (61, .bool true), (60, .int .i64 x8448), (59, .bool false), (58, .bool false), (57, .bool true), (57, .bool r8657), (56, .int .i64 x8448), (55, .pointer (some ⟨b8441, 0, none⟩)), (8, .int .i64 x8448), (9, .pointer (some ⟨b8605, 0, none⟩)), (5, .pointer (some ⟨b8441, 0, none⟩)), (7, .int .i64 x8446), (48, v8444), (49, .int .i64 x8447), (50, .int .i64 x8448)]) (by kernel_rfl) ?_
                          rcases ifs ho8640 with ⟨hp8671, ho8640⟩ | ⟨hp8671, ho8640⟩
                          · refine r_step rfl rfl (o_cmp rfl rfl (c_geq_T hp8671)) ?_
                            refine r_run 3 (l' := [(73, .bool true), (72, .bool true), (71, .bool true), (70, .bool true), (69, .int .i64 x8448), (68, .int .i64 x8597.Up), (67, .pointer (some ⟨b8605, 3, none⟩)), (66, .bool false), (65, .bool false), (64, .int .i64 x8597.Up), (63, .pointer (some ⟨b8605, 3, none⟩)), (62, .bool true), (61, .bool true), (60, .int .i64 x8448), (59, .bool false), (58, .bool false), (57, .bool true), (57, .bool r8657), (56, .int .i64 x8448), (55, .pointer (some ⟨b8441, 0, none⟩)), (8, .int .i64 x8448), (9, .pointer (some ⟨b8605, 0, none⟩)), (5, .pointer (some ⟨b8441, 0, none⟩)), (7, .int .i64 x8446), (48, v8444), (49, .int .i64 x8447), (50, .int .i64 x8448)]) (by kernel_rfl) ?_
                            refine r_forget [73, 9, 5, 7, 48, 49, 50] (l' := [(73, .bool true), (9, .pointer (some ⟨b8605, 0, none⟩)), (5, .pointer (some ⟨b8441, 0, none⟩)), (7, .int .i64 x8446), (48, v8444), (49, .int .i64 x8447), (50, .int .i64 x8448)]) (by kernel_rfl) ?_
                            refine r_end rfl ?_
                            refine W_condT (x := .tmp 73) (by kernel_rfl) rfl rfl ?_
                            refine W_seq (by kernel_rfl) ?_
                            refine W_region (R := r20_12) (by kernel_rfl) ?_
                            refine r_run 1 (l' := [(4, .bool false), (73, .bool true), (9, .pointer (some ⟨b8605, 0, none⟩)), (5, .pointer (some ⟨b8441, 0, none⟩)), (7, .int .i64 x8446), (48, v8444), (49, .int .i64 x8447), (50, .int .i64 x8448)]) (by kernel_rfl) ?_
                            refine r_forget [4] (l' := [(4, .bool false)]) (by kernel_rfl) ?_
                            refine r_end rfl ?_
                            refine W_ret (by kernel_rfl) ?_
                            refine blkX_ret ?_
                            refine blkX_ret ?_
                            refine ⟨rfl, ?_⟩
                            obtain rfl := Option.some.inj ho8640
                            obtain rfl := Option.some.inj ho8438
                            obtain rfl := Option.some.inj hm
                            refine ⟨_, _, _, ResL.tmp rfl (ResL.nil), hS8663, ?_⟩
                            exact rfl
                          · refine r_step rfl rfl (o_cmp rfl rfl (c_geq_F hp8671)) ?_
                            refine r_run 3 (l' := [(73, .bool false), (72, .bool false), (71, .bool false), (70, .bool false), (69, .int .i64 x8448), (68, .int .i64 x8597.Up), (67, .pointer (some ⟨b8605, 3, none⟩)), (66, .bool false), (65, .bool false), (64, .int .i64 x8597.Up), (63, .pointer (some ⟨b8605, 3, none⟩)), (62, .bool true), (61, .bool true), (60, .int .i64 x8448), (59, .bool false), (58, .bool false), (57, .bool true), (57, .bool r8657), (56, .int .i64 x8448), (55, .pointer (some ⟨b8441, 0, none⟩)), (8, .int .i64 x8448), (9, .pointer (some ⟨b8605, 0, none⟩)), (5, .pointer (some ⟨b8441, 0, none⟩)), (7, .int .i64 x8446), (48, v8444), (49, .int .i64 x8447), (50, .int .i64 x8448)]) (by kernel_rfl) ?_
                            refine r_forget [73, 9, 5, 7, 48, 49, 50] (l' := [(73, .bool false), (9, .pointer (some ⟨b8605, 0, none⟩)), (5, .pointer (some ⟨b8441, 0, none⟩)), (7, .int .i64 x8446), (48, v8444), (49, .int .i64 x8447), (50, .int .i64 x8448)]) (by kernel_rfl) ?_
                            refine r_end rfl ?_
                            refine W_condF (x := .tmp 73) (by kernel_rfl) rfl rfl ?_
                            refine W_skip (by kernel_rfl) ?_
                            obtain rfl := Option.some.inj ho8640
                            exact ⟨_, x8442, x8446, x8597.Kind, x8597.From, x8597.To, x8597.Up, x8597.Kids, x8597.Key, x8447, x8448, b8441, v8444, c8445, b8605, v8603, rfl, (q8443.mono hZ8666), (q8604.mono hZ8666), rfl, hS8663⟩
                      · refine r_step rfl rfl (o_cmp rfl rfl (c_gtr_F hp8669)) ?_
                        refine r_run 12 (l' := [(73, .bool false), (72, .bool false), (71, undef), (70, undef), (69, undef), (68, undef), (67, undef), (66, undef), (65, undef), (64, undef), (63, undef), (62, .bool false), (61, .bool false), (60, .int .i64 x8448), (59, .bool false), (58, .bool false), (57, .bool true), (57, .bool r8657), (56, .int .i64 x8448), (55, .pointer (some ⟨b8441, 0, none⟩)), (8, .int .i64 x8448), (9, .pointer (some ⟨b8605, 0, none⟩)), (5, .pointer (some ⟨b8441, 0, none⟩)), (7, .int .i64 x8446), (48, v8444), (49, .int .i64 x8447), (50, .int .i64 x8448)]) (by kernel_rfl) ?_
                        refine r_forget [73, 9, 5, 7, 48, 49, 50] (l' := [(73, .bool false), (9, .pointer (some ⟨b8605, 0, none⟩)), (5, .pointer (some ⟨b8441, 0, none⟩)), (7, .int .i64 x8446), (48, v8444), (49, .int .i64 x8447), (50, .int .i64 x8448)]) (by kernel_rfl) ?_
                        refine r_end rfl ?_
                        refine W_condF (x := .tmp 73) (by kernel_rfl) rfl rfl ?_
                        refine W_skip (by kernel_rfl) ?_
                        obtain rfl := Option.some.inj ho8640
                        exact ⟨_, x8442, x8446, x8597.Kind, x8597.From, x8597.To, x8597.Up, x8597.Kids, x8597.Key, x8447, x8448, b8441, v8444, c8445, b8605, v8603, rfl, (q8443.mono hZ8666), (q8604.mono hZ8666), rfl, hS8663⟩
                    · refine r_setb (t := 57) rfl (Bool.eq_false_iff.2 hp8668) ?_
                      refine r_run 16 (l' := [(73, .bool true), (72, undef), (71, undef), (70, undef), (69, undef), (68, undef), (67, undef), (66, undef), (65, undef), (64, undef), (63, undef), (62, undef), (61, undef), (60, undef), (59, .bool true), (58, .bool true), (57, .bool false), (57, .bool r8657), (56, .int .i64 x8448), (55, .pointer (some ⟨b8441, 0, none⟩)), (8, .int .i64 x8448), (9, .pointer (some ⟨b8605, 0, none⟩)), (5, .pointer (some ⟨b8441, 0, none⟩)), (7, .int .i64 x8446), (48, v8444), (49, .int .i64 x8447), (50, .int .i64 x8448)]) (by kernel_rfl) ?_
                      refine r_forget [73, 9, 5, 7, 48, 49, 50] (l' := [(73, .bool true), (9, .pointer (some ⟨b8605, 0, none⟩)), (5, .pointer (some ⟨b8441, 0, none⟩)), (7, .int .i64 x8446), (48, v8444), (49, .int .i64 x8447), (50, .int .i64 x8448)]) (by kernel_rfl) ?_
                      refine r_end rfl ?_
                      refine W_condT (x := .tmp 73) (by kernel_rfl) rfl rfl ?_
                      refine W_seq (by kernel_rfl) ?_
                      refine W_region (R := r20_12) (by kernel_rfl) ?_
                      refine r_run 1 (l' := [(4, .bool false), (73, .bool true), (9, .pointer (some ⟨b8605, 0, none⟩)), (5, .pointer (some ⟨b8441, 0, none⟩)), (7, .int .i64 x8446), (48, v8444), (49, .int .i64 x8447), (50, .int .i64 x8448)]) (by kernel_rfl) ?_
                      refine r_forget [4] (l' := [(4, .bool false)]) (by kernel_rfl) ?_
                      refine r_end rfl ?_
                      refine W_ret (by kernel_rfl) ?_
                      refine blkX_ret ?_
                      refine blkX_ret ?_
                      refine ⟨rfl, ?_⟩
                      obtain rfl := Option.some.inj ho8640
                      obtain rfl := Option.some.inj ho8438
                      obtain rfl := Option.some.inj hm
                      refine ⟨_, _, _, ResL.tmp rfl (ResL.nil), hS8663, ?_⟩
                      exact rfl
                · refine r_step rfl trivial (o_cmp rfl rfl (c_lss_F hp8453)) ?_
                  refine r_forget [51, 5, 7, 48, 49, 50] (l' := [(51, .bool false), (5, .pointer (some ⟨b8441, 0, none⟩)), (7, .int .i64 x8446), (48, v8444), (49, .int .i64 x8447), (50, .int .i64 x8448)]) (by kernel_rfl) ?_
                  refine r_end rfl ?_
                  refine W_seq (by kernel_rfl) ?_
                  refine W_condF (x := .tmp 51) (by kernel_rfl) rfl rfl ?_
                  refine W_exit (i := 0) (by kernel_rfl) ?_
                  refine blkX_hit ?_
                  obtain rfl := Option.some.inj ho8438
                  exact ⟨_, x8442, x8446, b8441, v8444, c8445, rfl, q8443, rfl, hS8450⟩
          · refine r_step rfl rfl (o_cmp rfl rfl (c_neq_T hp7834)) ?_
            refine r_run 1 (l' := [(43, .bool true), (42, .bool true), (41, .int .i64 x7806.Up), (40, .pointer (some ⟨b7814, 3, none⟩)), (39, .bool false), (38, .bool false), (37, .bool false), (36, .int .i64 a1), (35, .int .i64 x7806.To), (34, .pointer (some ⟨b7814, 2, none⟩)), (33, .bool false), (32, .bool false), (31, .bool false), (30, .int .i64 x7806.From), (29, .pointer (some ⟨b7814, 1, none⟩)), (28, .bool false), (27, .bool false), (26, .int .i64 x7806.Kind), (25, .pointer (some ⟨b7814, 0, none⟩)), (6, .pointer (some ⟨b7814, 0, none⟩)), (5, .pointer (some ⟨b7801, 0, none⟩)), (1, .int .i64 a1)]) (by kernel_rfl) ?_
            refine r_forget [43, 5] (l' := [(43, .bool true), (5, .pointer (some ⟨b7801, 0, none⟩))]) (by kernel_rfl) ?_
            refine r_end rfl ?_
            refine W_condT (x := .tmp 43) (by kernel_rfl) rfl rfl ?_
            refine W_seq (by kernel_rfl) ?_
            refine W_region (R := r20_6) (by kernel_rfl) ?_
            refine r_run 1 (l' := [(4, .bool false), (43, .bool true), (5, .pointer (some ⟨b7801, 0, none⟩))]) (by kernel_rfl) ?_
            refine r_forget [4] (l' := [(4, .bool false)]) (by kernel_rfl) ?_
            refine r_end rfl ?_
            refine W_ret (by kernel_rfl) ?_
            refine ⟨rfl, ?_⟩
            obtain rfl := Option.some.inj hm
            refine ⟨_, _, _, ResL.tmp rfl (ResL.nil), hS7818, ?_⟩
            exact rfl
        · refine r_step rfl rfl (o_cmp rfl rfl (c_neq_T hp7833)) ?_
          refine r_run 6 (l' := [(43, .bool true), (42, undef), (41, undef), (40, undef), (39, .bool true), (38, .bool true), (37, .bool true), (36, .int .i64 a1), (35, .int .i64 x7806.To), (34, .pointer (some ⟨b7814, 2, none⟩)), (33, .bool false), (32, .bool false), (31, .bool false), (30, .int .i64 x7806.From), (29, .pointer (some ⟨b7814, 1, none⟩)), (28, .bool false), (27, .bool false), (26, .int .i64 x7806.Kind), (25, .pointer (some ⟨b7814, 0, none⟩)), (6, .pointer (some ⟨b7814, 0, none⟩)), (5, .pointer (some ⟨b7801, 0, none⟩)), (1, .int .i64 a1)]) (by kernel_rfl) ?_
          refine r_forget [43, 5] (l' := [(43, .bool true), (5, .pointer (some ⟨b7801, 0, none⟩))]) (by kernel_rfl) ?_
          refine r_end rfl ?_
          refine W_condT (x := .tmp 43) (by kernel_rfl) rfl rfl ?_
          refine W_seq (by kernel_rfl) ?_
          refine W_region (R := r20_6) (by kernel_rfl) ?_
          refine r_run 1 (l' := [(4, .bool false), (43, .bool true), (5, .pointer (some ⟨b7801, 0, none⟩))]) (by kernel_rfl) ?_
          refine r_forget [4] (l' := [(4, .bool false)]) (by kernel_rfl) ?_
          refine r_end rfl ?_
          refine W_ret (by kernel_rfl) ?_
          refine ⟨rfl, ?_⟩
          obtain rfl := Option.some.inj hm
          refine ⟨_, _, _, ResL.tmp rfl (ResL.nil), hS7818, ?_⟩
          exact rfl
      · refine r_step rfl rfl (o_cmp rfl rfl (c_neq_T hp7832)) ?_
        refine r_run 12 (l' := [(43, .bool true), (42, undef), (41, undef), (40, undef), (39, .bool true), (38, .bool true), (37, undef), (36, undef), (35, undef), (34, undef), (33, .bool true), (32, .bool true), (31, .bool true), (30, .int .i64 x7806.From), (29, .pointer (some ⟨b7814, 1, none⟩)), (28, .bool false), (27, .bool false), (26, .int .i64 x7806.Kind), (25, .pointer (some ⟨b7814, 0, none⟩)), (6, .pointer (some ⟨b7814, 0, none⟩)), (5, .pointer (some ⟨b7801, 0, none⟩)), (1, .int .i64 a1)]) (by kernel_rfl) ?_
        refine r_forget [43, 5] (l' := [(43, .bool true), (5, .pointer (some ⟨b7801, 0, none⟩))]) (by kernel_rfl) ?_
        refine r_end rfl ?_
        refine W_condT (x := .tmp 43) (by kernel_rfl) rfl rfl ?_
        refine W_seq (by kernel_rfl) ?_
        refine W_region (R := r20_6) (by kernel_rfl) ?_
        refine r_run 1 (l' := [(4, .bool false), (43, .bool true), (5, .pointer (some ⟨b7801, 0, none⟩))]) (by kernel_rfl) ?_
        refine r_forget [4] (l' := [(4, .bool false)]) (by kernel_rfl) ?_
        refine r_end rfl ?_
        refine W_ret (by kernel_rfl) ?_
        refine ⟨rfl, ?_⟩
        obtain rfl := Option.some.inj hm
        refine ⟨_, _, _, ResL.tmp rfl (ResL.nil), hS7818, ?_⟩
        exact rfl
    · refine r_step rfl trivial (o_cmp rfl rfl (c_neq_T hp7831)) ?_
      refine r_run 16 (l' := [(43, .bool true), (42, undef), (41, undef), (40, undef), (39, .bool true), (38, .bool true), (37, undef), (36, undef), (35, undef), (34, undef), (33, .bool true), (32, .bool true), (31, undef), (30, undef), (29, undef), (28, .bool true), (27, .bool true), (26, .int .i64 x7806.Kind), (25, .pointer (some ⟨b7814, 0, none⟩)), (6, .pointer (some ⟨b7814, 0, none⟩)), (5, .pointer (some ⟨b7801, 0, none⟩)), (1, .int .i64 a1)]) (by kernel_rfl) ?_
      refine r_forget [43, 5] (l' := [(43, .bool true), (5, .pointer (some ⟨b7801, 0, none⟩))]) (by kernel_rfl) ?_
      refine r_end rfl ?_
      refine W_condT (x := .tmp 43) (by kernel_rfl) rfl rfl ?_
      refine W_seq (by kernel_rfl) ?_
      refine W_region (R := r20_6) (by kernel_rfl) ?_
      refine r_run 1 (l' := [(4, .bool false), (43, .bool true), (5, .pointer (some ⟨b7801, 0, none⟩))]) (by kernel_rfl) ?_
      refine r_forget [4] (l' := [(4, .bool false)]) (by kernel_rfl) ?_
      refine r_end rfl ?_
      refine W_ret (by kernel_rfl) ?_
      refine ⟨rfl, ?_⟩
      obtain rfl := Option.some.inj hm
      refine ⟨_, _, _, ResL.tmp rfl (ResL.nil), hS7818, ?_⟩
      exact rfl

end Go.Proofs.Ytpijjenaadkjdaa.M
