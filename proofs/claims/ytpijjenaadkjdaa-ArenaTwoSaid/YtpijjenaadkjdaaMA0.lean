/- Printed by a program of this session: Go functions as Lean functions over plain data, and that the calls come to them. -/
import Derived.Test.YtpijjenaadkjdaaSyF
import Derived.Test.YtpijjenaadkjdaaChecked
import Derived.KernelRfl
namespace Go.Proofs.Ytpijjenaadkjdaa.M
open Go Am Sy
open Sy.Cell (rc)
set_option linter.unusedVariables false
set_option linter.unusedSimpArgs false
set_option maxRecDepth 20000

structure api_Node where
  Kind : Int
  From : Int
  To : Int
  Up : Int
  Kids : List Int
  Key : Bool
  deriving DecidableEq, Inhabited
instance : Cell api_Node where
  size := 6
  rc Z cs x := ∃ v4, RS (α := Int) Z v4 x.Kids ∧ cs = [.int .i64 x.Kind, .int .i64 x.From, .int .i64 x.To, .int .i64 x.Up, v4, .bool x.Key]
  len h := by obtain ⟨v4, qv4, h⟩ := h; rw [h]; rfl
  mono hz h := by obtain ⟨v4, qv4, h⟩ := h; exact ⟨v4, qv4.mono hz, h⟩
  one h := by obtain ⟨v4, qv4, h⟩ := h; subst h; exact (one_cons rfl (one_cons rfl (one_cons rfl (one_cons rfl (one_cons qv4.one1 (one_cons rfl one_nil))))))
  pos := by decide
theorem rc_api_Node {Z : Zn} {cs : List Value} {x : api_Node} (h : rc Z cs x) : ∃ v4, RS (α := Int) Z v4 x.Kids ∧ cs = [.int .i64 x.Kind, .int .i64 x.From, .int .i64 x.To, .int .i64 x.Up, v4, .bool x.Key] := h
structure arena_Tree where
  Nodes : List api_Node
  deriving DecidableEq, Inhabited
instance : Cell arena_Tree where
  size := 1
  rc Z cs x := ∃ v0, RS (α := api_Node) Z v0 x.Nodes ∧ cs = [v0]
  len h := by obtain ⟨v0, qv0, h⟩ := h; rw [h]; rfl
  mono hz h := by obtain ⟨v0, qv0, h⟩ := h; exact ⟨v0, qv0.mono hz, h⟩
  one h := by obtain ⟨v0, qv0, h⟩ := h; subst h; exact (one_cons qv0.one1 one_nil)
  pos := by decide
theorem rc_arena_Tree {Z : Zn} {cs : List Value} {x : arena_Tree} (h : rc Z cs x) : ∃ v0, RS (α := api_Node) Z v0 x.Nodes ∧ cs = [v0] := h
structure arena_forest where
  Tree : arena_Tree
  deriving DecidableEq, Inhabited
instance : Cell arena_forest where
  size := 1
  rc Z cs x := ∃ v0, RS (α := api_Node) Z v0 x.Tree.Nodes ∧ cs = [v0]
  len h := by obtain ⟨v0, qv0, h⟩ := h; rw [h]; rfl
  mono hz h := by obtain ⟨v0, qv0, h⟩ := h; exact ⟨v0, qv0.mono hz, h⟩
  one h := by obtain ⟨v0, qv0, h⟩ := h; subst h; exact (one_cons qv0.one1 one_nil)
  pos := by decide
theorem rc_arena_forest {Z : Zn} {cs : List Value} {x : arena_forest} (h : rc Z cs x) : ∃ v0, RS (α := api_Node) Z v0 x.Tree.Nodes ∧ cs = [v0] := h

def r10_0 : List COp := [⟨none, some 2, (Go.Op.alloc 27)⟩]
def r10_1 : List COp := [⟨none, some 3, (Go.Op.move (Go.Operand.tmp 0))⟩,
  ⟨none, some 4, (Go.Op.binOp Go.BinOp.lss 3 (Go.Operand.tmp 3) (Go.Operand.const (Go.Value.int Go.IntKind.i64 0)) 3)⟩,
  ⟨none, some 5, (Go.Op.move (Go.Operand.tmp 4))⟩,
  ⟨(some (some 5, false)), some 6, (Go.Op.move (Go.Operand.tmp 0))⟩,
  ⟨(some (some 5, false)), some 7, (Go.Op.binOp Go.BinOp.gtr 3 (Go.Operand.tmp 6) (Go.Operand.const (Go.Value.int Go.IntKind.i64 32768)) 3)⟩,
  ⟨none, some 8, (Go.Op.pick (Go.Operand.tmp 5) (Go.Operand.const (Go.Value.bool true)) (Go.Operand.tmp 7))⟩]
def r10_2 : List COp := [⟨none, some 0, (Go.Op.assign (Go.Operand.const (Go.Value.int Go.IntKind.i64 0)))⟩]
def r10_3 : List COp := [⟨none, some 9, (Go.Op.move (Go.Operand.tmp 0))⟩,
  ⟨none, some 10, (Go.Op.build 46 #[(0, (Go.Operand.const (Go.Value.int Go.IntKind.i64 1))), (2, (Go.Operand.tmp 9)), (3, (Go.Operand.const (Go.Value.int Go.IntKind.i64 (-1))))])⟩,
  ⟨none, some 11, (Go.Op.buildSlice 25 1 #[(0, (Go.Operand.tmp 10))])⟩,
  ⟨none, some 12, (Go.Op.build 27 #[(0, (Go.Operand.tmp 11))])⟩,
  ⟨none, none, (Go.Op.store 27 (Go.Operand.tmp 2) (Go.Operand.tmp 12))⟩]
def arena_New (F : Nat) (a0 : Int) : Option arena_Tree :=
  ((if a0 < (0 : Int) then
      some 0
    else
      if (32768 : Int) < a0 then
        some 0
      else
        some a0) : Option Int).bind fun o => match o with
    | x38 => some (⟨[(⟨1, 0, x38, (-1), [], false⟩ : api_Node)]⟩ : arena_Tree)
theorem arena_New_ok (F : Nat) {h : AH} {Z : Zn} {a0 : Int} (hP : Pre Z h []) {r : arena_Tree} (hm : arena_New F a0 = some r) :
    ∃ v h' Z' A', callI Go.Proofs.Try.prog 10 [.int .i64 a0] h = some (v, h') ∧ St h (idsL []) Z (0, 0) Z' h' A' ∧ ∃ v22 : Value, ∃ c23 : List Value, .agg #[v22] = v ∧ A' = [.gs v22 c23 (csz api_Node)] ∧ RCs (α := api_Node) Z' c23 r.Nodes := by
  refine fn_intro (A := []) (Q := fun v Z' A' => ∃ v22 : Value, ∃ c23 : List Value, .agg #[v22] = v ∧ A' = [.gs v22 c23 (csz api_Node)] ∧ RCs (α := api_Node) Z' c23 r.Nodes) Go.Proofs.Try.func10 rfl rfl (by kernel_rfl) hP ?_
  intro hs hS
  unfold arena_New at hm
  replace hS : St hs [] Z (0, 0) Z hs [] := hS
  refine W_seq (by kernel_rfl) ?_
  refine W_region (R := r10_0) (by kernel_rfl) ?_
  refine r_blk rfl trivial (o_alloc (cs := [.slice none 0 0]) (by kernel_rfl)) hS ?_
  intro b24 h25 hS26
  refine r_forget [2, 0] (l' := [(2, .pointer (some ⟨b24, 0, none⟩)), (0, .int .i64 a0)]) (by kernel_rfl) ?_
  refine r_end rfl ?_
  refine W_seq (by kernel_rfl) ?_
  obtain ⟨o34, ho33, hm⟩ := obind hm
  refine W_seqJoin0 [0, 2] (fun l h => ∃ Z37 : Zn, ∃ x38 : Int, ∃ b39 : Nat, x38 = o34 ∧ l = [(0, .int .i64 x38), (2, .pointer (some ⟨b39, 0, none⟩))] ∧ St hs [] Z (0, 0) Z37 h [.blk b39 [.slice none 0 0]]) (by kernel_rfl) ?_ ?_
  · rintro l h40 ⟨Z37, x38, b39, rfl, rfl, hS41⟩
    try dsimp only at hm
    refine W_seq (by kernel_rfl) ?_
    refine W_region (R := r10_3) (by kernel_rfl) ?_
    refine r_run 2 (l' := [(10, .agg #[.int .i64 1, .int .i64 0, .int .i64 x38, .int .i64 (-1), .slice none 0 0, .bool false]), (9, .int .i64 x38), (0, .int .i64 x38), (2, .pointer (some ⟨b39, 0, none⟩))]) (by kernel_rfl) ?_
    have q45 : RCs (α := api_Node) Z37 [.int .i64 1, .int .i64 0, .int .i64 x38, .int .i64 (-1), .slice none 0 0, .bool false] [(⟨1, 0, x38, (-1), [], false⟩ : api_Node)] := RCs.cons (cs := [.int .i64 1, .int .i64 0, .int .i64 x38, .int .i64 (-1), .slice none 0 0, .bool false]) ⟨_, (RS.nil0 _), rfl⟩ (RCs.nil0 _)
    refine r_row rfl trivial (o_bs (cells := [.int .i64 1, .int .i64 0, .int .i64 x38, .int .i64 (-1), .slice none 0 0, .bool false]) (s := 6) (by kernel_rfl)) (by kernel_rfl) hS41 ?_
    intro v42 h43 hS44
    replace hS44 : St _ _ _ _ _ _ [.gs v42 [.int .i64 1, .int .i64 0, .int .i64 x38, .int .i64 (-1), .slice none 0 0, .bool false] (csz api_Node), .blk b39 [.slice none 0 0]] := hS44
    refine r_step rfl trivial (o_build (v := .agg #[v42]) rfl (CA.cons (cs := [v42]) (hS44.gcell1 (i := 0) rfl) (CA.nil0)) (by kernel_rfl)) ?_
    refine r_ex1 rfl trivial (o_stb (vs := [v42]) (cells' := [v42]) (L' := [.gs v42 [.int .i64 1, .int .i64 0, .int .i64 x38, .int .i64 (-1), .slice none 0 0, .bool false] (csz api_Node), .blk b39 [v42]]) hS44 (i := 1) rfl rfl rfl rfl (by kernel_rfl) (one_cons (hS44.gone1 (i := 0) rfl) one_nil) rfl rfl rfl) ?_
    intro h46 hS47
    refine r_forget [2] (l' := [(2, .pointer (some ⟨b39, 0, none⟩))]) (by kernel_rfl) ?_
    refine r_end rfl ?_
    refine W_ret (by kernel_rfl) ?_
    refine ⟨rfl, ?_⟩
    obtain rfl := Option.some.inj hm
    refine ⟨_, _, _, ResL.cell (v := .agg #[v42]) rfl hS47 (i := 1) rfl (by kernel_rfl) (ResL.nil), (hS47.takeN 1), ?_⟩
    exact ⟨v42, [.int .i64 1, .int .i64 0, .int .i64 x38, .int .i64 (-1), .slice none 0 0, .bool false], rfl, rfl, q45⟩
  · refine W_region (R := r10_1) (by kernel_rfl) ?_
    refine r_run 1 (l' := [(3, .int .i64 a0), (2, .pointer (some ⟨b24, 0, none⟩)), (0, .int .i64 a0)]) (by kernel_rfl) ?_
    rcases ifs ho33 with ⟨hp35, ho33⟩ | ⟨hp35, ho33⟩
    · refine r_step rfl trivial (o_cmp rfl rfl (c_lss_T hp35)) ?_
      refine r_run 4 (l' := [(8, .bool true), (7, undef), (6, undef), (5, .bool true), (4, .bool true), (3, .int .i64 a0), (2, .pointer (some ⟨b24, 0, none⟩)), (0, .int .i64 a0)]) (by kernel_rfl) ?_
      refine r_forget [8, 2, 0] (l' := [(8, .bool true), (2, .pointer (some ⟨b24, 0, none⟩)), (0, .int .i64 a0)]) (by kernel_rfl) ?_
      refine r_end rfl ?_
      refine W_condT (x := .tmp 8) (by kernel_rfl) rfl rfl ?_
      refine W_region (R := r10_2) (by kernel_rfl) ?_
      refine r_run 1 (l' := [(0, .int .i64 0), (8, .bool true), (2, .pointer (some ⟨b24, 0, none⟩)), (0, .int .i64 a0)]) (by kernel_rfl) ?_
      refine r_forget [0, 2] (l' := [(0, .int .i64 0), (2, .pointer (some ⟨b24, 0, none⟩))]) (by kernel_rfl) ?_
      refine r_end rfl ?_
      obtain rfl := Option.some.inj ho33
      exact ⟨_, 0, b24, rfl, rfl, hS26⟩
    · refine r_step rfl trivial (o_cmp rfl rfl (c_lss_F hp35)) ?_
      refine r_run 2 (l' := [(6, .int .i64 a0), (5, .bool false), (4, .bool false), (3, .int .i64 a0), (2, .pointer (some ⟨b24, 0, none⟩)), (0, .int .i64 a0)]) (by kernel_rfl) ?_
      rcases ifs ho33 with ⟨hp36, ho33⟩ | ⟨hp36, ho33⟩
      · refine r_step rfl rfl (o_cmp rfl rfl (c_gtr_T hp36)) ?_
        refine r_run 1 (l' := [(8, .bool true), (7, .bool true), (6, .int .i64 a0), (5, .bool false), (4, .bool false), (3, .int .i64 a0), (2, .pointer (some ⟨b24, 0, none⟩)), (0, .int .i64 a0)]) (by kernel_rfl) ?_
        refine r_forget [8, 2, 0] (l' := [(8, .bool true), (2, .pointer (some ⟨b24, 0, none⟩)), (0, .int .i64 a0)]) (by kernel_rfl) ?_
        refine r_end rfl ?_
        refine W_condT (x := .tmp 8) (by kernel_rfl) rfl rfl ?_
        refine W_region (R := r10_2) (by kernel_rfl) ?_
        refine r_run 1 (l' := [(0, .int .i64 0), (8, .bool true), (2, .pointer (some ⟨b24, 0, none⟩)), (0, .int .i64 a0)]) (by kernel_rfl) ?_
        refine r_forget [0, 2] (l' := [(0, .int .i64 0), (2, .pointer (some ⟨b24, 0, none⟩))]) (by kernel_rfl) ?_
        refine r_end rfl ?_
        obtain rfl := Option.some.inj ho33
        exact ⟨_, 0, b24, rfl, rfl, hS26⟩
      · refine r_step rfl rfl (o_cmp rfl rfl (c_gtr_F hp36)) ?_
        refine r_run 1 (l' := [(8, .bool false), (7, .bool false), (6, .int .i64 a0), (5, .bool false), (4, .bool false), (3, .int .i64 a0), (2, .pointer (some ⟨b24, 0, none⟩)), (0, .int .i64 a0)]) (by kernel_rfl) ?_
        refine r_forget [8, 2, 0] (l' := [(8, .bool false), (2, .pointer (some ⟨b24, 0, none⟩)), (0, .int .i64 a0)]) (by kernel_rfl) ?_
        refine r_end rfl ?_
        refine W_condF (x := .tmp 8) (by kernel_rfl) rfl rfl ?_
        refine W_skip (by kernel_rfl) ?_
        obtain rfl := Option.some.inj ho33
        exact ⟨_, a0, b24, rfl, rfl, hS26⟩

def r35_0 : List COp := [⟨none, some 2, (Go.Op.assign (Go.Operand.const (Go.Value.slice none 0 0)))⟩]
def r35_1 : List COp := [⟨none, some 3, (Go.Op.move (Go.Operand.tmp 0))⟩,
  ⟨none, some 4, (Go.Op.binOp Go.BinOp.eql 25 (Go.Operand.tmp 3) (Go.Operand.const (Go.Value.slice none 0 0)) 25)⟩]
def r35_2 : List COp := [⟨none, some 2, (Go.Op.assign (Go.Operand.const (Go.Value.slice none 0 0)))⟩]
def r35_3 : List COp := [⟨none, some 5, (Go.Op.buildSlice 25 0 #[])⟩,
  ⟨none, some 6, (Go.Op.move (Go.Operand.tmp 0))⟩,
  ⟨none, some 7, (Go.Op.call { callee := (Go.Callee.builtin Go.Builtin.append), args := #[(Go.Operand.tmp 5), (Go.Operand.tmp 6)], argTypes := #[25, 25] })⟩,
  ⟨none, some 2, (Go.Op.assign (Go.Operand.tmp 7))⟩]
def slices_Clone_api_Node (F : Nat) (a0 : List api_Node) : Option (List api_Node) :=
  if ([] : List api_Node).length + a0.length ≤ 2199023255552 then
    some (([] : List api_Node) ++ a0)
  else none
theorem slices_Clone_api_Node_ok (F : Nat) {h : AH} {Z : Zn} {a0 : List api_Node} {v64 : Value} (hP : Pre Z h []) (q63 : RS (α := api_Node) Z v64 a0) {r : (List api_Node)} (hm : slices_Clone_api_Node F a0 = some r) :
    ∃ v h' Z' A', callI Go.Proofs.Try.prog 35 [v64] h = some (v, h') ∧ St h (idsL []) Z (0, 0) Z' h' A' ∧ ∃ v86 : Value, ∃ c87 : List Value, v86 = v ∧ A' = [.gs v86 c87 (csz api_Node)] ∧ RCs (α := api_Node) Z' c87 r := by
  refine fn_intro (A := []) (Q := fun v Z' A' => ∃ v86 : Value, ∃ c87 : List Value, v86 = v ∧ A' = [.gs v86 c87 (csz api_Node)] ∧ RCs (α := api_Node) Z' c87 r) Go.Proofs.Try.func35 rfl rfl (by kernel_rfl) hP ?_
  intro hs hS
  unfold slices_Clone_api_Node at hm
  replace hS : St hs [] Z (0, 0) Z hs [] := hS
  refine W_seq (by kernel_rfl) ?_
  refine W_region (R := r35_0) (by kernel_rfl) ?_
  refine r_run 1 (l' := [(2, .slice none 0 0), (0, v64)]) (by kernel_rfl) ?_
  refine r_forget [0] (l' := [(0, v64)]) (by kernel_rfl) ?_
  refine r_end rfl ?_
  refine W_seq (by kernel_rfl) ?_
  refine W_seq (by kernel_rfl) ?_
  refine W_region (R := r35_1) (by kernel_rfl) ?_
  refine r_run 1 (l' := [(3, v64), (0, v64)]) (by kernel_rfl) ?_
  rcases nil_or q63 with ⟨hn94, hv95⟩ | hv95
  · replace hm : some [] = some r := by rw [hn94] at hm; simpa using hm
    refine r_step rfl trivial (o_cmp rfl rfl (c_nilT ⟨_, Go.Proofs.Try.underlying25⟩ hv95)) ?_
    refine r_forget [4, 0] (l' := [(4, .bool true), (0, v64)]) (by kernel_rfl) ?_
    refine r_end rfl ?_
    refine W_condT (x := .tmp 4) (by kernel_rfl) rfl rfl ?_
    refine W_seq (by kernel_rfl) ?_
    refine W_region (R := r35_2) (by kernel_rfl) ?_
    refine r_run 1 (l' := [(2, .slice none 0 0), (4, .bool true), (0, v64)]) (by kernel_rfl) ?_
    refine r_forget [2] (l' := [(2, .slice none 0 0)]) (by kernel_rfl) ?_
    refine r_end rfl ?_
    refine W_ret (by kernel_rfl) ?_
    refine ⟨rfl, ?_⟩
    have hS96 := hS.nilGs (csz api_Node)
    obtain rfl := Option.some.inj hm
    refine ⟨_, _, _, ResL.tmp rfl (ResL.nil), hS96, ?_⟩
    exact ⟨(.slice none 0 0), [], rfl, rfl, (RCs.nil0 _)⟩
  · refine r_step rfl trivial (o_cmp rfl rfl (c_nilF ⟨_, Go.Proofs.Try.underlying25⟩ hv95)) ?_
    refine r_forget [4, 0] (l' := [(4, .bool false), (0, v64)]) (by kernel_rfl) ?_
    refine r_end rfl ?_
    refine W_condF (x := .tmp 4) (by kernel_rfl) rfl rfl ?_
    refine W_skip (by kernel_rfl) ?_
    refine W_seq (by kernel_rfl) ?_
    refine W_region (R := r35_3) (by kernel_rfl) ?_
    have q101 : RCs (α := api_Node) Z [] [] := RCs.nil0 _
    refine r_row rfl trivial (o_bs (cells := []) (s := 6) (by kernel_rfl)) (by kernel_rfl) hS ?_
    intro v98 h99 hS100
    replace hS100 : St _ _ _ _ _ _ [.gs v98 [] (csz api_Node)] := hS100
    refine r_run 1 (l' := [(6, v64), (5, v98), (4, .bool false), (0, v64)]) (by kernel_rfl) ?_
    obtain ⟨c103, nw102⟩ := RS.news q63 (hS100).inv
    obtain ⟨hc109, hm⟩ := chk hm
    refine r_ex3 rfl trivial (o_app (ys := a0) (by_ := 64) hS100 (i := 0) rfl q101 nw102 rfl rfl (by kernel_rfl) (by omega) (by omega)) ?_
    rintro v104 c105 h106 ⟨q108, hS107⟩
    replace hS107 : St _ _ _ _ _ _ [.gs v104 c105 (csz api_Node)] := hS107
    refine r_run 1 (l' := [(2, v104), (7, v104), (6, v64), (5, v98), (4, .bool false), (0, v64)]) (by kernel_rfl) ?_
    refine r_forget [2] (l' := [(2, v104)]) (by kernel_rfl) ?_
    refine r_end rfl ?_
    refine W_ret (by kernel_rfl) ?_
    refine ⟨rfl, ?_⟩
    obtain rfl := Option.some.inj hm
    refine ⟨_, _, _, ResL.tmp rfl (ResL.nil), hS107, ?_⟩
    exact ⟨v104, c105, rfl, rfl, q108⟩

def r36_0 : List COp := [⟨none, some 2, (Go.Op.assign (Go.Operand.const (Go.Value.slice none 0 0)))⟩]
def r36_1 : List COp := [⟨none, some 3, (Go.Op.move (Go.Operand.tmp 0))⟩,
  ⟨none, some 4, (Go.Op.binOp Go.BinOp.eql 44 (Go.Operand.tmp 3) (Go.Operand.const (Go.Value.slice none 0 0)) 44)⟩]
def r36_2 : List COp := [⟨none, some 2, (Go.Op.assign (Go.Operand.const (Go.Value.slice none 0 0)))⟩]
def r36_3 : List COp := [⟨none, some 5, (Go.Op.buildSlice 44 0 #[])⟩,
  ⟨none, some 6, (Go.Op.move (Go.Operand.tmp 0))⟩,
  ⟨none, some 7, (Go.Op.call { callee := (Go.Callee.builtin Go.Builtin.append), args := #[(Go.Operand.tmp 5), (Go.Operand.tmp 6)], argTypes := #[44, 44] })⟩,
  ⟨none, some 2, (Go.Op.assign (Go.Operand.tmp 7))⟩]
def slices_Clone_int (F : Nat) (a0 : List Int) : Option (List Int) :=
  if ([] : List Int).length + a0.length ≤ 17592186044416 then
    some (([] : List Int) ++ a0)
  else none
theorem slices_Clone_int_ok (F : Nat) {h : AH} {Z : Zn} {a0 : List Int} {v159 : Value} (hP : Pre Z h []) (q158 : RS (α := Int) Z v159 a0) {r : (List Int)} (hm : slices_Clone_int F a0 = some r) :
    ∃ v h' Z' A', callI Go.Proofs.Try.prog 36 [v159] h = some (v, h') ∧ St h (idsL []) Z (0, 0) Z' h' A' ∧ ∃ v181 : Value, ∃ c182 : List Value, v181 = v ∧ A' = [.gs v181 c182 (csz Int)] ∧ RCs (α := Int) Z' c182 r := by
  refine fn_intro (A := []) (Q := fun v Z' A' => ∃ v181 : Value, ∃ c182 : List Value, v181 = v ∧ A' = [.gs v181 c182 (csz Int)] ∧ RCs (α := Int) Z' c182 r) Go.Proofs.Try.func36 rfl rfl (by kernel_rfl) hP ?_
  intro hs hS
  unfold slices_Clone_int at hm
  replace hS : St hs [] Z (0, 0) Z hs [] := hS
  refine W_seq (by kernel_rfl) ?_
  refine W_region (R := r36_0) (by kernel_rfl) ?_
  refine r_run 1 (l' := [(2, .slice none 0 0), (0, v159)]) (by kernel_rfl) ?_
  refine r_forget [0] (l' := [(0, v159)]) (by kernel_rfl) ?_
  refine r_end rfl ?_
  refine W_seq (by kernel_rfl) ?_
  refine W_seq (by kernel_rfl) ?_
  refine W_region (R := r36_1) (by kernel_rfl) ?_
  refine r_run 1 (l' := [(3, v159), (0, v159)]) (by kernel_rfl) ?_
  rcases nil_or q158 with ⟨hn189, hv190⟩ | hv190
  · replace hm : some [] = some r := by rw [hn189] at hm; simpa using hm
    refine r_step rfl trivial (o_cmp rfl rfl (c_nilT ⟨_, Go.Proofs.Try.underlying44⟩ hv190)) ?_
    refine r_forget [4, 0] (l' := [(4, .bool true), (0, v159)]) (by kernel_rfl) ?_
    refine r_end rfl ?_
    refine W_condT (x := .tmp 4) (by kernel_rfl) rfl rfl ?_
    refine W_seq (by kernel_rfl) ?_
    refine W_region (R := r36_2) (by kernel_rfl) ?_
    refine r_run 1 (l' := [(2, .slice none 0 0), (4, .bool true), (0, v159)]) (by kernel_rfl) ?_
    refine r_forget [2] (l' := [(2, .slice none 0 0)]) (by kernel_rfl) ?_
    refine r_end rfl ?_
    refine W_ret (by kernel_rfl) ?_
    refine ⟨rfl, ?_⟩
    have hS191 := hS.nilGs (csz Int)
    obtain rfl := Option.some.inj hm
    refine ⟨_, _, _, ResL.tmp rfl (ResL.nil), hS191, ?_⟩
    exact ⟨(.slice none 0 0), [], rfl, rfl, (RCs.nil0 _)⟩
  · refine r_step rfl trivial (o_cmp rfl rfl (c_nilF ⟨_, Go.Proofs.Try.underlying44⟩ hv190)) ?_
    refine r_forget [4, 0] (l' := [(4, .bool false), (0, v159)]) (by kernel_rfl) ?_
    refine r_end rfl ?_
    refine W_condF (x := .tmp 4) (by kernel_rfl) rfl rfl ?_
    refine W_skip (by kernel_rfl) ?_
    refine W_seq (by kernel_rfl) ?_
    refine W_region (R := r36_3) (by kernel_rfl) ?_
    have q196 : RCs (α := Int) Z [] [] := RCs.nil0 _
    refine r_row rfl trivial (o_bs (cells := []) (s := 1) (by kernel_rfl)) (by kernel_rfl) hS ?_
    intro v193 h194 hS195
    replace hS195 : St _ _ _ _ _ _ [.gs v193 [] (csz Int)] := hS195
    refine r_run 1 (l' := [(6, v159), (5, v193), (4, .bool false), (0, v159)]) (by kernel_rfl) ?_
    obtain ⟨c198, nw197⟩ := RS.news q158 (hS195).inv
    obtain ⟨hc204, hm⟩ := chk hm
    refine r_ex3 rfl trivial (o_app (ys := a0) (by_ := 8) hS195 (i := 0) rfl q196 nw197 rfl rfl (by kernel_rfl) (by omega) (by omega)) ?_
    rintro v199 c200 h201 ⟨q203, hS202⟩
    replace hS202 : St _ _ _ _ _ _ [.gs v199 c200 (csz Int)] := hS202
    refine r_run 1 (l' := [(2, v199), (7, v199), (6, v159), (5, v193), (4, .bool false), (0, v159)]) (by kernel_rfl) ?_
    refine r_forget [2] (l' := [(2, v199)]) (by kernel_rfl) ?_
    refine r_end rfl ?_
    refine W_ret (by kernel_rfl) ?_
    refine ⟨rfl, ?_⟩
    obtain rfl := Option.some.inj hm
    refine ⟨_, _, _, ResL.tmp rfl (ResL.nil), hS202, ?_⟩
    exact ⟨v199, c200, rfl, rfl, q203⟩

def r25_0 : List COp := [⟨none, some 1, (Go.Op.box 27 (Go.Operand.tmp 0))⟩,
  ⟨none, some 2, (Go.Op.assign (Go.Operand.const (Go.Value.pointer none)))⟩]
def r25_1 : List COp := [⟨none, some 6, (Go.Op.fieldAddr 27 (Go.Operand.tmp 1) 0)⟩,
  ⟨none, some 7, (Go.Op.load 25 (Go.Operand.tmp 6))⟩,
  ⟨none, some 8, (Go.Op.call { callee := (Go.Callee.value (Go.Operand.func 35)), args := #[(Go.Operand.tmp 7)], argTypes := #[25] })⟩,
  ⟨none, some 9, (Go.Op.build 27 #[(0, (Go.Operand.tmp 8))])⟩,
  ⟨none, some 10, (Go.Op.build 58 #[(0, (Go.Operand.tmp 9))])⟩,
  ⟨none, some 11, (Go.Op.box 58 (Go.Operand.tmp 10))⟩,
  ⟨none, some 3, (Go.Op.assign (Go.Operand.tmp 11))⟩]
def r25_2 : List COp := [⟨none, some 12, (Go.Op.move (Go.Operand.tmp 3))⟩,
  ⟨none, some 13, (Go.Op.nilCheck (Go.Operand.tmp 12))⟩,
  ⟨none, some 14, (Go.Op.fieldAddr 58 (Go.Operand.tmp 13) 0)⟩,
  ⟨none, some 15, (Go.Op.fieldAddr 27 (Go.Operand.tmp 14) 0)⟩,
  ⟨none, some 16, (Go.Op.load 25 (Go.Operand.tmp 15))⟩,
  ⟨none, some 17, (Go.Op.call { callee := (Go.Callee.builtin Go.Builtin.len), args := #[(Go.Operand.tmp 16)], argTypes := #[25] })⟩,
  ⟨none, some 18, (Go.Op.move (Go.Operand.const (Go.Value.int Go.IntKind.i64 0)))⟩]
def r25_3 : List COp := [⟨none, some 19, (Go.Op.binOp Go.BinOp.lss 3 (Go.Operand.tmp 18) (Go.Operand.tmp 17) 3)⟩]
def r25_4 : List COp := [⟨none, some 20, (Go.Op.move (Go.Operand.tmp 18))⟩,
  ⟨none, some 21, (Go.Op.indexAddr 25 (Go.Operand.tmp 16) (Go.Operand.tmp 18))⟩,
  ⟨none, some 22, (Go.Op.load 46 (Go.Operand.tmp 21))⟩,
  ⟨none, some 5, (Go.Op.alloc 46)⟩,
  ⟨none, some 4, (Go.Op.assign (Go.Operand.tmp 20))⟩,
  ⟨none, none, (Go.Op.store 46 (Go.Operand.tmp 5) (Go.Operand.tmp 22))⟩]
def r25_5 : List COpD := [⟨none, some 23, (Go.Op.move (Go.Operand.tmp 3)), .pure, false, false⟩,
  ⟨none, some 24, (Go.Op.nilCheck (Go.Operand.tmp 23)), .pure, false, false⟩,
  ⟨none, some 25, (Go.Op.fieldAddr 58 (Go.Operand.tmp 24) 0), .pure, false, false⟩,
  ⟨none, some 26, (Go.Op.fieldAddr 27 (Go.Operand.tmp 25) 0), .pure, false, false⟩,
  ⟨none, some 27, (Go.Op.load 25 (Go.Operand.tmp 26)), .look, false, false⟩,
  ⟨none, some 28, (Go.Op.move (Go.Operand.tmp 4)), .pure, false, false⟩,
  ⟨none, some 29, (Go.Op.fieldAddr 46 (Go.Operand.tmp 5) 4), .pure, false, true⟩,
  ⟨none, some 30, (Go.Op.load 44 (Go.Operand.tmp 29)), .look, false, true⟩,
  ⟨none, some 31, (Go.Op.call { callee := (Go.Callee.value (Go.Operand.func 36)), args := #[(Go.Operand.tmp 30)], argTypes := #[44] }), .make, false, false⟩,
  ⟨none, some 32, (Go.Op.indexAddr 25 (Go.Operand.tmp 27) (Go.Operand.tmp 28)), .pure, true, true⟩,
  ⟨none, some 33, (Go.Op.fieldAddr 46 (Go.Operand.tmp 32) 4), .pure, true, true⟩,
  ⟨none, none, (Go.Op.store 44 (Go.Operand.tmp 33) (Go.Operand.tmp 31)), .make, true, false⟩]
def r25_6 : List COp := [⟨none, some 34, (Go.Op.binOp Go.BinOp.add 3 (Go.Operand.tmp 18) (Go.Operand.const (Go.Value.int Go.IntKind.i64 1)) 3)⟩,
  ⟨none, some 18, (Go.Op.move (Go.Operand.tmp 34))⟩]
def r25_7 : List COp := [⟨none, some 35, (Go.Op.move (Go.Operand.tmp 3))⟩,
  ⟨none, some 2, (Go.Op.assign (Go.Operand.tmp 35))⟩]
def arena_own_l0 (F : Nat) (a0 : arena_Tree) : Nat → (List api_Node) → Int → Int → Option (List api_Node)
  | 0, _, _, _ => none
  | n + 1, x706, x710, x711 =>
    if x711 < x710 then
      if 0 ≤ x711 ∧ x711 < (x706.length : Int) then
        (x706[x711.toNat]?).bind fun x772 =>
        (slices_Clone_int F x772.Kids).bind fun r790 =>
        if 0 ≤ x711 ∧ x711 < (x706.length : Int) then
          (x706[x711.toNat]?).bind fun x812 =>
          arena_own_l0 F a0 n (x706.set x711.toNat (⟨x812.Kind, x812.From, x812.To, x812.Up, r790, x812.Key⟩ : api_Node)) x710 (w64 (x711 + 1))
        else none
      else none
    else
      some x706
def arena_own (F : Nat) (a0 : arena_Tree) : Option arena_forest :=
  (slices_Clone_api_Node F a0.Nodes).bind fun r437 =>
  ((arena_own_l0 F a0 F r437 (r437.length : Int) 0) : Option (List api_Node)).bind fun o => match o with
    | x832 => some (⟨(⟨x832⟩ : arena_Tree)⟩ : arena_forest)
theorem arena_own_ok (F : Nat) {h : AH} {Z : Zn} {a0 : arena_Tree} {v59 : Value} (hP : Pre Z h []) (q58 : RS (α := api_Node) Z v59 a0.Nodes) {r : arena_forest} (hm : arena_own F a0 = some r) :
    ∃ v h' Z' A', callI Go.Proofs.Try.prog 25 [.agg #[v59]] h = some (v, h') ∧ St h (idsL []) Z (0, 0) Z' h' A' ∧ ∃ b430 : Nat, ∃ v432 : Value, ∃ c433 : List Value, .pointer (some ⟨b430, 0, none⟩) = v ∧ A' = [.blk b430 [v432], .gs v432 c433 (csz api_Node)] ∧ RCs (α := api_Node) Z' c433 r.Tree.Nodes := by
  refine fn_intro (A := []) (Q := fun v Z' A' => ∃ b430 : Nat, ∃ v432 : Value, ∃ c433 : List Value, .pointer (some ⟨b430, 0, none⟩) = v ∧ A' = [.blk b430 [v432], .gs v432 c433 (csz api_Node)] ∧ RCs (α := api_Node) Z' c433 r.Tree.Nodes) Go.Proofs.Try.func25 rfl rfl (by kernel_rfl) hP ?_
  intro hs hS
  unfold arena_own at hm
  replace hS : St hs [] Z (0, 0) Z hs [] := hS
  refine W_seq (by kernel_rfl) ?_
  refine W_region (R := r25_0) (by kernel_rfl) ?_
  refine r_blk rfl trivial (o_box (cs := [v59]) rfl rfl) hS ?_
  intro b434 h435 hS436
  refine r_run 1 (l' := [(2, .pointer none), (1, .pointer (some ⟨b434, 0, none⟩)), (0, .agg #[v59])]) (by kernel_rfl) ?_
  refine r_forget [1] (l' := [(1, .pointer (some ⟨b434, 0, none⟩))]) (by kernel_rfl) ?_
  refine r_end rfl ?_
  refine W_seq (by kernel_rfl) ?_
  refine W_region (R := r25_1) (by kernel_rfl) ?_
  refine r_run 1 (l' := [(6, .pointer (some ⟨b434, 0, none⟩)), (1, .pointer (some ⟨b434, 0, none⟩))]) (by kernel_rfl) ?_
  refine r_step rfl trivial (o_ldb (v := v59) hS436 (i := 0) rfl rfl (by kernel_rfl)) ?_
  obtain ⟨r437, hx438, hm⟩ := obind hm
  have hSr444 : St _ _ _ _ _ _ ([] ++ [.blk b434 [v59]]) := hS436
  obtain ⟨v439, h440, Z445, A447, hcl441, hSc442, v449, c450, rfl, rfl, q448⟩ := slices_Clone_api_Node_ok F hSr444.preL q58 hx438
  have hS443 := hSr444.call hSc442
  have hZ446 := hSc442.zle
  replace hS443 : St _ _ _ _ _ _ [.gs v449 c450 (csz api_Node), .blk b434 [v59]] := hS443
  refine r_step rfl trivial (o_call hcl441 rfl rfl rfl) ?_
  refine r_step rfl trivial (o_build (v := .agg #[v449]) rfl (CA.cons (cs := [v449]) (hS443.gcell1 (i := 0) rfl) (CA.nil0)) (by kernel_rfl)) ?_
  refine r_run 1 (l' := [(10, .agg #[v449]), (9, .agg #[v449]), (8, v449), (7, v59), (6, .pointer (some ⟨b434, 0, none⟩)), (1, .pointer (some ⟨b434, 0, none⟩))]) (by kernel_rfl) ?_
  refine r_blk rfl trivial (o_box (cs := [v449]) rfl rfl) hS443 ?_
  intro b451 h452 hS453
  refine r_run 1 (l' := [(3, .pointer (some ⟨b451, 0, none⟩)), (11, .pointer (some ⟨b451, 0, none⟩)), (10, .agg #[v449]), (9, .agg #[v449]), (8, v449), (7, v59), (6, .pointer (some ⟨b434, 0, none⟩)), (1, .pointer (some ⟨b434, 0, none⟩))]) (by kernel_rfl) ?_
  refine r_forget [3] (l' := [(3, .pointer (some ⟨b451, 0, none⟩))]) (by kernel_rfl) ?_
  refine r_end rfl ?_
  refine W_seq (by kernel_rfl) ?_
  refine W_seq (by kernel_rfl) ?_
  refine W_region (R := r25_2) (by kernel_rfl) ?_
  refine r_run 4 (l' := [(15, .pointer (some ⟨b451, 0, none⟩)), (14, .pointer (some ⟨b451, 0, none⟩)), (13, .pointer (some ⟨b451, 0, none⟩)), (12, .pointer (some ⟨b451, 0, none⟩)), (3, .pointer (some ⟨b451, 0, none⟩))]) (by kernel_rfl) ?_
  refine r_step rfl trivial (o_ldb (v := v449) hS453 (i := 0) rfl rfl (by kernel_rfl)) ?_
  refine r_step rfl trivial (o_len rfl (hS453.glen (i := 1) rfl q448) ⟨_, Go.Proofs.Try.underlying25⟩) ?_
  refine r_run 1 (l' := [(18, .int .i64 0), (17, .int .i64 (r437.length : Int)), (16, v449), (15, .pointer (some ⟨b451, 0, none⟩)), (14, .pointer (some ⟨b451, 0, none⟩)), (13, .pointer (some ⟨b451, 0, none⟩)), (12, .pointer (some ⟨b451, 0, none⟩)), (3, .pointer (some ⟨b451, 0, none⟩))]) (by kernel_rfl) ?_
  refine r_forget [18, 17, 16, 3] (l' := [(18, .int .i64 0), (17, .int .i64 (r437.length : Int)), (16, v449), (3, .pointer (some ⟨b451, 0, none⟩))]) (by kernel_rfl) ?_
  refine r_end rfl ?_
  obtain ⟨o703, ho702, hm⟩ := obind hm
  refine W_join [3] (fun l h => ∃ Z830 : Zn, ∃ x832 : List api_Node, ∃ b831 : Nat, ∃ v834 : Value, ∃ c835 : List Value, x832 = o703 ∧ RCs (α := api_Node) Z830 c835 x832 ∧ l = [(3, .pointer (some ⟨b831, 0, none⟩))] ∧ St hs [] Z (0, 0) Z830 h [.blk b831 [v834], .gs v834 c835 (csz api_Node)]) ?_ ?_
  · rintro l h836 ⟨Z830, x832, b831, v834, c835, rfl, q833, rfl, hS837⟩
    try dsimp only at hm
    refine W_seq (by kernel_rfl) ?_
    refine W_region (R := r25_7) (by kernel_rfl) ?_
    refine r_run 2 (l' := [(2, .pointer (some ⟨b831, 0, none⟩)), (35, .pointer (some ⟨b831, 0, none⟩)), (3, .pointer (some ⟨b831, 0, none⟩))]) (by kernel_rfl) ?_
    refine r_forget [2] (l' := [(2, .pointer (some ⟨b831, 0, none⟩))]) (by kernel_rfl) ?_
    refine r_end rfl ?_
    refine W_ret (by kernel_rfl) ?_
    refine ⟨rfl, ?_⟩
    obtain rfl := Option.some.inj hm
    refine ⟨_, _, _, ResL.tmp rfl (ResL.nil), hS837, ?_⟩
    exact ⟨b831, v834, c835, rfl, rfl, q833⟩
  · refine W_block (i := 0) (by kernel_rfl) ?_
    refine W_loop [3, 16, 17, 18] (fun n l h => ∃ Z704 : Zn, ∃ x706 : List api_Node, ∃ x710 : Int, ∃ x711 : Int, ∃ b705 : Nat, ∃ v708 : Value, ∃ c709 : List Value, arena_own_l0 F a0 n x706 x710 x711 = some o703 ∧ RCs (α := api_Node) Z704 c709 x706 ∧ l = [(3, .pointer (some ⟨b705, 0, none⟩)), (16, v708), (17, .int .i64 x710), (18, .int .i64 x711)] ∧ St hs [] Z (0, 0) Z704 h [.blk b705 [v708], .gs v708 c709 (csz api_Node)]) F (by kernel_rfl) ⟨_, r437, (r437.length : Int), 0, b451, v449, c450, ho702, q448, rfl, (hS453.takeN 2)⟩ ?_
    rintro n714 l h712 ⟨Z704, x706, x710, x711, b705, v708, c709, ho702, q707, rfl, hS713⟩
    cases n714 with
    | zero => cases (show none = some o703 from ho702)
    | succ n714 =>
      rw [arena_own_l0] at ho702
      refine W_seq (by kernel_rfl) ?_
      refine W_region (R := r25_3) (by kernel_rfl) ?_
      rcases ifs ho702 with ⟨hp716, ho702⟩ | ⟨hp716, ho702⟩
      · refine r_step rfl trivial (o_cmp rfl rfl (c_lss_T hp716)) ?_
        refine r_forget [19, 3, 16, 17, 18] (l' := [(19, .bool true), (3, .pointer (some ⟨b705, 0, none⟩)), (16, v708), (17, .int .i64 x710), (18, .int .i64 x711)]) (by kernel_rfl) ?_
        refine r_end rfl ?_
        refine W_seq (by kernel_rfl) ?_
        refine W_condT (x := .tmp 19) (by kernel_rfl) rfl rfl ?_
        refine W_skip (by kernel_rfl) ?_
        refine W_seq (by kernel_rfl) ?_
        refine W_block (i := 1) (by kernel_rfl) ?_
        refine W_seq (by kernel_rfl) ?_
        refine W_region (R := r25_4) (by kernel_rfl) ?_
        refine r_run 1 (l' := [(20, .int .i64 x711), (19, .bool true), (3, .pointer (some ⟨b705, 0, none⟩)), (16, v708), (17, .int .i64 x710), (18, .int .i64 x711)]) (by kernel_rfl) ?_
        obtain ⟨hc771, ho702⟩ := chk ho702
        refine r_step rfl trivial (o_index rfl rfl (by kernel_rfl : slTy _ _ = some (csz api_Node)) (hS713.gbased (j := 1) rfl q707 (by omega)) hc771.1 hc771.2) ?_
        obtain ⟨x772, hx773, ho702⟩ := obind ho702
        obtain ⟨cs774, hc775, he776, ht777⟩ := hS713.gel (j := 1) rfl q707 (i := x711) hx773
        obtain ⟨v778, q779, rfl⟩ := rc_api_Node hc775
        refine r_step rfl trivial (o_lde (w := .agg #[.int .i64 x772.Kind, .int .i64 x772.From, .int .i64 x772.To, .int .i64 x772.Up, v778, .bool x772.Key]) he776 rfl (by kernel_rfl)) ?_
        refine r_blk rfl trivial (o_alloc (cs := [.int .i64 0, .int .i64 0, .int .i64 0, .int .i64 0, .slice none 0 0, .bool false]) (by kernel_rfl)) hS713 ?_
        intro b780 h781 hS782
        refine r_run 1 (l' := [(4, .int .i64 x711), (5, .pointer (some ⟨b780, 0, none⟩)), (22, .agg #[.int .i64 x772.Kind, .int .i64 x772.From, .int .i64 x772.To, .int .i64 x772.Up, v778, .bool x772.Key]), (21, .pointer (some (elemA v708 x711 (csz api_Node) 0))), (20, .int .i64 x711), (19, .bool true), (3, .pointer (some ⟨b705, 0, none⟩)), (16, v708), (17, .int .i64 x710), (18, .int .i64 x711)]) (by kernel_rfl) ?_
        refine r_ex1 rfl trivial (o_stb (vs := [.int .i64 x772.Kind, .int .i64 x772.From, .int .i64 x772.To, .int .i64 x772.Up, v778, .bool x772.Key]) (cells' := [.int .i64 x772.Kind, .int .i64 x772.From, .int .i64 x772.To, .int .i64 x772.Up, v778, .bool x772.Key]) (L' := [.blk b780 [.int .i64 x772.Kind, .int .i64 x772.From, .int .i64 x772.To, .int .i64 x772.Up, v778, .bool x772.Key], .blk b705 [v708], .gs v708 c709 (csz api_Node)]) hS782 (i := 0) rfl rfl rfl rfl (by kernel_rfl) (one_cons rfl (one_cons rfl (one_cons rfl (one_cons rfl (one_cons (RS.one1 q779) (one_cons rfl one_nil)))))) rfl rfl rfl) ?_
        intro h783 hS784
        refine r_forget [4, 5, 3, 16, 17, 18] (l' := [(4, .int .i64 x711), (5, .pointer (some ⟨b780, 0, none⟩)), (3, .pointer (some ⟨b705, 0, none⟩)), (16, v708), (17, .int .i64 x710), (18, .int .i64 x711)]) (by kernel_rfl) ?_
        refine r_end rfl ?_
        refine W_regionD (R := r25_5) (by kernel_rfl) hS784 ?_
        intro bs785 h786 hlv788 hS787
        refine d_run 4 (l' := [(26, .pointer (some ⟨b705, 0, none⟩)), (25, .pointer (some ⟨b705, 0, none⟩)), (24, .pointer (some ⟨b705, 0, none⟩)), (23, .pointer (some ⟨b705, 0, none⟩)), (4, .int .i64 x711), (5, .pointer (some ⟨b780, 0, none⟩)), (3, .pointer (some ⟨b705, 0, none⟩)), (16, v708), (17, .int .i64 x710), (18, .int .i64 x711)]) (by kernel_rfl) ?_
        have lt789 : b705 < bs785 := hlv788.1 _ (List.mem_of_getElem? (i := 1) rfl) _ (by simp [Itm.ids])
        refine d_lookS rfl trivial rfl lt789 (same1 (v := v708) (hS787.gsim1 (i := 2) rfl)) (o_ldb (v := v708) hS787 (i := 1) rfl rfl (by kernel_rfl)) ?_
        refine d_run 2 (l' := [(29, .pointer (some ⟨b780, 4, none⟩)), (28, .int .i64 x711), (27, v708), (26, .pointer (some ⟨b705, 0, none⟩)), (25, .pointer (some ⟨b705, 0, none⟩)), (24, .pointer (some ⟨b705, 0, none⟩)), (23, .pointer (some ⟨b705, 0, none⟩)), (4, .int .i64 x711), (5, .pointer (some ⟨b780, 0, none⟩)), (3, .pointer (some ⟨b705, 0, none⟩)), (16, v708), (17, .int .i64 x710), (18, .int .i64 x711)]) (by kernel_rfl) ?_
        refine d_lookL rfl rfl trivial (o_ldb (v := v778) hS787 (i := 0) rfl rfl (by kernel_rfl)) (fun _ _ => .inl rfl) ?_
        obtain ⟨r790, hx791, ho702⟩ := obind ho702
        have hSl797 := hS787.lown
        have hSr798 : St _ _ _ _ _ _ ([] ++ [.blk b780 [.int .i64 x772.Kind, .int .i64 x772.From, .int .i64 x772.To, .int .i64 x772.Up, v778, .bool x772.Key], .blk b705 [v708], .gs v708 c709 (csz api_Node)]) := hSl797
        obtain ⟨v792, h793, Z799, A801, hcl794, hSc795, v803, c804, rfl, rfl, q802⟩ := slices_Clone_int_ok F hSr798.preL q779 hx791
        have hS796 := hSr798.call hSc795
        have hZ800 := hSc795.zle
        replace hS796 : St _ _ _ _ _ _ [.gs v803 c804 (csz Int), .blk b780 [.int .i64 x772.Kind, .int .i64 x772.From, .int .i64 x772.To, .int .i64 x772.Up, v778, .bool x772.Key], .blk b705 [v708], .gs v708 c709 (csz api_Node)] := hS796
        refine d_make rfl trivial hS787 (o_call hcl794 rfl rfl rfl) hS796 (.still (St.lowk hSc795)) ?_
        intro h805 hS806
        obtain ⟨hc807, ho702⟩ := chk ho702
        refine d_val rfl trivial (o_index rfl rfl (by kernel_rfl : slTy _ _ = some (csz api_Node)) (hS806.gbased (j := 3) rfl (q707.mono hZ800) (by omega)) hc807.1 hc807.2) ?_
        refine d_run 1 (l' := [(33, .pointer (some (elemA v708 x711 (csz api_Node) 4))), (32, .pointer (some (elemA v708 x711 (csz api_Node) 0))), (31, v803), (30, v778), (29, .pointer (some ⟨b780, 4, none⟩)), (28, .int .i64 x711), (27, v708), (26, .pointer (some ⟨b705, 0, none⟩)), (25, .pointer (some ⟨b705, 0, none⟩)), (24, .pointer (some ⟨b705, 0, none⟩)), (23, .pointer (some ⟨b705, 0, none⟩)), (4, .int .i64 x711), (5, .pointer (some ⟨b780, 0, none⟩)), (3, .pointer (some ⟨b705, 0, none⟩)), (16, v708), (17, .int .i64 x710), (18, .int .i64 x711)]) (by kernel_rfl) ?_
        obtain ⟨x812, hx813, ho702⟩ := obind ho702
        obtain ⟨Z808, hZ809, q810, hS811⟩ := (hS806.front 0 rfl).freeze q802
        replace hS811 : St _ _ _ _ _ _ [.blk b780 [.int .i64 x772.Kind, .int .i64 x772.From, .int .i64 x772.To, .int .i64 x772.Up, v778, .bool x772.Key], .blk b705 [v708], .gs v708 c709 (csz api_Node)] := hS811
        obtain ⟨cs814, hc815, he816, ht817⟩ := hS811.gel (j := 2) rfl (q707.mono (hZ800.trans hZ809)) (i := x711) hx813
        obtain ⟨v818, q819, rfl⟩ := rc_api_Node hc815
        refine d_ex2 rfl trivial hS811 (o_ste (u' := (⟨x812.Kind, x812.From, x812.To, x812.Up, r790, x812.Key⟩ : api_Node)) (vs := [v803]) (cs' := [.int .i64 x812.Kind, .int .i64 x812.From, .int .i64 x812.To, .int .i64 x812.Up, v803, .bool x812.Key]) (hS811.lown) (m := 2) rfl (q707.mono (hZ800.trans hZ809)) hx813 ht817 rfl rfl (RS.cell1 q810) (by kernel_rfl) (one_cons (RS.one1 q810) one_nil) rfl rfl ⟨_, q810, rfl⟩) rfl ?_
        rintro h820 c821 ⟨q823, hS822⟩
        replace hS822 : St _ _ _ _ _ _ [.blk b780 [.int .i64 x772.Kind, .int .i64 x772.From, .int .i64 x772.To, .int .i64 x772.Up, v778, .bool x772.Key], .blk b705 [v708], .gs v708 c821 (csz api_Node)] := hS822
        refine d_forget [3, 16, 17, 18] (l' := [(3, .pointer (some ⟨b705, 0, none⟩)), (16, v708), (17, .int .i64 x710), (18, .int .i64 x711)]) (by kernel_rfl) ?_
        refine d_end rfl ?_
        have hS824 := hS822.unres
        refine W_region (R := r25_6) (by kernel_rfl) ?_
        refine r_run 2 (l' := [(18, .int .i64 (w64 (x711 + 1))), (34, .int .i64 (w64 (x711 + 1))), (3, .pointer (some ⟨b705, 0, none⟩)), (16, v708), (17, .int .i64 x710), (18, .int .i64 x711)]) (by kernel_rfl) ?_
        refine r_forget [18, 3, 16, 17] (l' := [(18, .int .i64 (w64 (x711 + 1))), (3, .pointer (some ⟨b705, 0, none⟩)), (16, v708), (17, .int .i64 x710)]) (by kernel_rfl) ?_
        refine r_end rfl ?_
        exact ⟨n714, Nat.lt_succ_self _, ⟨_, x706.set x711.toNat (⟨x812.Kind, x812.From, x812.To, x812.Up, r790, x812.Key⟩ : api_Node), x710, w64 (x711 + 1), b705, v708, c821, ho702, q823, rfl, (((hS824.front 2 rfl).front 2 rfl).takeN 2)⟩⟩
      · refine r_step rfl trivial (o_cmp rfl rfl (c_lss_F hp716)) ?_
        refine r_forget [19, 3, 16, 17, 18] (l' := [(19, .bool false), (3, .pointer (some ⟨b705, 0, none⟩)), (16, v708), (17, .int .i64 x710), (18, .int .i64 x711)]) (by kernel_rfl) ?_
        refine r_end rfl ?_
        refine W_seq (by kernel_rfl) ?_
        refine W_condF (x := .tmp 19) (by kernel_rfl) rfl rfl ?_
        refine W_exit (i := 0) (by kernel_rfl) ?_
        refine blkX_hit ?_
        obtain rfl := Option.some.inj ho702
        exact ⟨_, x706, b705, v708, c709, rfl, q707, rfl, hS713⟩

def r26_0 : List COp := [⟨none, some 4, (Go.Op.assign (Go.Operand.const (Go.Value.bool false)))⟩]
def r26_1 : List COp := [⟨none, some 5, (Go.Op.move (Go.Operand.tmp 1))⟩,
  ⟨none, some 6, (Go.Op.binOp Go.BinOp.geq 3 (Go.Operand.tmp 5) (Go.Operand.const (Go.Value.int Go.IntKind.i64 0)) 3)⟩,
  ⟨none, some 7, (Go.Op.move (Go.Operand.tmp 6))⟩,
  ⟨(some (some 7, true)), some 8, (Go.Op.move (Go.Operand.tmp 1))⟩,
  ⟨(some (some 7, true)), some 9, (Go.Op.move (Go.Operand.tmp 0))⟩,
  ⟨(some (some 7, true)), some 10, (Go.Op.nilCheck (Go.Operand.tmp 9))⟩,
  ⟨(some (some 7, true)), some 11, (Go.Op.fieldAddr 58 (Go.Operand.tmp 10) 0)⟩,
  ⟨(some (some 7, true)), some 12, (Go.Op.fieldAddr 27 (Go.Operand.tmp 11) 0)⟩,
  ⟨(some (some 7, true)), some 13, (Go.Op.load 25 (Go.Operand.tmp 12))⟩,
  ⟨(some (some 7, true)), some 14, (Go.Op.call { callee := (Go.Callee.builtin Go.Builtin.len), args := #[(Go.Operand.tmp 13)], argTypes := #[25] })⟩,
  ⟨(some (some 7, true)), some 15, (Go.Op.binOp Go.BinOp.lss 3 (Go.Operand.tmp 8) (Go.Operand.tmp 14) 3)⟩,
  ⟨none, some 16, (Go.Op.pick (Go.Operand.tmp 7) (Go.Operand.tmp 15) (Go.Operand.const (Go.Value.bool false)))⟩,
  ⟨none, some 4, (Go.Op.assign (Go.Operand.tmp 16))⟩]
def arena_forest_has (F : Nat) (a0 : arena_forest) (a1 : Int) : Option Bool :=
  if (0 : Int) ≤ a1 then
    if a1 < (a0.Tree.Nodes.length : Int) then
      some true
    else
      some false
  else
    some false
theorem arena_forest_has_ok (F : Nat) {h : AH} {Z : Zn} {a0 : arena_forest} {a1 : Int} {b858 : Nat} {v860 : Value} {c861 : List Value} (hP : Pre Z h [.blk b858 [v860], .gs v860 c861 (csz api_Node)]) (q859 : RCs (α := api_Node) Z c861 a0.Tree.Nodes) {r : Bool} (hm : arena_forest_has F a0 a1 = some r) :
    ∃ v h' Z' A', callI Go.Proofs.Try.prog 26 [.pointer (some ⟨b858, 0, none⟩), .int .i64 a1] h = some (v, h') ∧ St h (idsL [.blk b858 [v860], .gs v860 c861 (csz api_Node)]) Z (0, 0) Z' h' A' ∧ .bool r = v ∧ A' = [.blk b858 [v860], .gs v860 c861 (csz api_Node)] := by
  refine fn_intro (A := [.blk b858 [v860], .gs v860 c861 (csz api_Node)]) (Q := fun v Z' A' => .bool r = v ∧ A' = [.blk b858 [v860], .gs v860 c861 (csz api_Node)]) Go.Proofs.Try.func26 rfl rfl (by kernel_rfl) hP ?_
  intro hs hS
  unfold arena_forest_has at hm
  refine W_seq (by kernel_rfl) ?_
  refine W_region (R := r26_0) (by kernel_rfl) ?_
  refine r_run 1 (l' := [(4, .bool false), (0, .pointer (some ⟨b858, 0, none⟩)), (1, .int .i64 a1)]) (by kernel_rfl) ?_
  refine r_forget [0, 1] (l' := [(0, .pointer (some ⟨b858, 0, none⟩)), (1, .int .i64 a1)]) (by kernel_rfl) ?_
  refine r_end rfl ?_
  refine W_seq (by kernel_rfl) ?_
  refine W_region (R := r26_1) (by kernel_rfl) ?_
  refine r_run 1 (l' := [(5, .int .i64 a1), (0, .pointer (some ⟨b858, 0, none⟩)), (1, .int .i64 a1)]) (by kernel_rfl) ?_
  rcases ifs hm with ⟨hp868, hm⟩ | ⟨hp868, hm⟩
  · refine r_step rfl trivial (o_cmp rfl rfl (c_geq_T hp868)) ?_
    refine r_run 6 (l' := [(12, .pointer (some ⟨b858, 0, none⟩)), (11, .pointer (some ⟨b858, 0, none⟩)), (10, .pointer (some ⟨b858, 0, none⟩)), (9, .pointer (some ⟨b858, 0, none⟩)), (8, .int .i64 a1), (7, .bool true), (6, .bool true), (5, .int .i64 a1), (0, .pointer (some ⟨b858, 0, none⟩)), (1, .int .i64 a1)]) (by kernel_rfl) ?_
    refine r_step rfl rfl (o_ldb (v := v860) hS (i := 0) rfl rfl (by kernel_rfl)) ?_
    refine r_step rfl rfl (o_len rfl (hS.glen (i := 1) rfl q859) ⟨_, Go.Proofs.Try.underlying25⟩) ?_
    rcases ifs hm with ⟨hp869, hm⟩ | ⟨hp869, hm⟩
    · refine r_step rfl rfl (o_cmp rfl rfl (c_lss_T hp869)) ?_
      refine r_run 2 (l' := [(4, .bool true), (16, .bool true), (15, .bool true), (14, .int .i64 (a0.Tree.Nodes.length : Int)), (13, v860), (12, .pointer (some ⟨b858, 0, none⟩)), (11, .pointer (some ⟨b858, 0, none⟩)), (10, .pointer (some ⟨b858, 0, none⟩)), (9, .pointer (some ⟨b858, 0, none⟩)), (8, .int .i64 a1), (7, .bool true), (6, .bool true), (5, .int .i64 a1), (0, .pointer (some ⟨b858, 0, none⟩)), (1, .int .i64 a1)]) (by kernel_rfl) ?_
      refine r_forget [4] (l' := [(4, .bool true)]) (by kernel_rfl) ?_
      refine r_end rfl ?_
      refine W_ret (by kernel_rfl) ?_
      refine ⟨rfl, ?_⟩
      obtain rfl := Option.some.inj hm
      refine ⟨_, _, _, ResL.tmp rfl (ResL.nil), hS, ?_⟩
      exact ⟨rfl, rfl⟩
    · refine r_step rfl rfl (o_cmp rfl rfl (c_lss_F hp869)) ?_
      refine r_run 2 (l' := [(4, .bool false), (16, .bool false), (15, .bool false), (14, .int .i64 (a0.Tree.Nodes.length : Int)), (13, v860), (12, .pointer (some ⟨b858, 0, none⟩)), (11, .pointer (some ⟨b858, 0, none⟩)), (10, .pointer (some ⟨b858, 0, none⟩)), (9, .pointer (some ⟨b858, 0, none⟩)), (8, .int .i64 a1), (7, .bool true), (6, .bool true), (5, .int .i64 a1), (0, .pointer (some ⟨b858, 0, none⟩)), (1, .int .i64 a1)]) (by kernel_rfl) ?_
      refine r_forget [4] (l' := [(4, .bool false)]) (by kernel_rfl) ?_
      refine r_end rfl ?_
      refine W_ret (by kernel_rfl) ?_
      refine ⟨rfl, ?_⟩
      obtain rfl := Option.some.inj hm
      refine ⟨_, _, _, ResL.tmp rfl (ResL.nil), hS, ?_⟩
      exact ⟨rfl, rfl⟩
  · refine r_step rfl trivial (o_cmp rfl rfl (c_geq_F hp868)) ?_
    refine r_run 11 (l' := [(4, .bool false), (16, .bool false), (15, undef), (14, undef), (13, undef), (12, undef), (11, undef), (10, undef), (9, undef), (8, undef), (7, .bool false), (6, .bool false), (5, .int .i64 a1), (0, .pointer (some ⟨b858, 0, none⟩)), (1, .int .i64 a1)]) (by kernel_rfl) ?_
    refine r_forget [4] (l' := [(4, .bool false)]) (by kernel_rfl) ?_
    refine r_end rfl ?_
    refine W_ret (by kernel_rfl) ?_
    refine ⟨rfl, ?_⟩
    obtain rfl := Option.some.inj hm
    refine ⟨_, _, _, ResL.tmp rfl (ResL.nil), hS, ?_⟩
    exact ⟨rfl, rfl⟩

def r28_0 : List COp := [⟨none, some 7, (Go.Op.move (Go.Operand.tmp 0))⟩,
  ⟨none, some 8, (Go.Op.nilCheck (Go.Operand.tmp 7))⟩,
  ⟨none, some 9, (Go.Op.fieldAddr 58 (Go.Operand.tmp 8) 0)⟩,
  ⟨none, some 10, (Go.Op.fieldAddr 27 (Go.Operand.tmp 9) 0)⟩,
  ⟨none, some 11, (Go.Op.load 25 (Go.Operand.tmp 10))⟩,
  ⟨none, some 12, (Go.Op.call { callee := (Go.Callee.builtin Go.Builtin.len), args := #[(Go.Operand.tmp 11)], argTypes := #[25] })⟩,
  ⟨none, some 6, (Go.Op.assign (Go.Operand.tmp 12))⟩]
def r28_1 : List COp := [⟨none, some 13, (Go.Op.move (Go.Operand.tmp 0))⟩,
  ⟨none, some 14, (Go.Op.move (Go.Operand.tmp 1))⟩,
  ⟨none, some 15, (Go.Op.call { callee := (Go.Callee.value (Go.Operand.func 26)), args := #[(Go.Operand.tmp 13), (Go.Operand.tmp 14)], argTypes := #[54, 3] })⟩,
  ⟨none, some 16, (Go.Op.move (Go.Operand.tmp 15))⟩,
  ⟨(some (some 16, true)), some 17, (Go.Op.move (Go.Operand.tmp 6))⟩,
  ⟨(some (some 16, true)), some 18, (Go.Op.binOp Go.BinOp.gtr 3 (Go.Operand.tmp 17) (Go.Operand.const (Go.Value.int Go.IntKind.i64 0)) 3)⟩,
  ⟨none, some 19, (Go.Op.pick (Go.Operand.tmp 16) (Go.Operand.tmp 18) (Go.Operand.const (Go.Value.bool false)))⟩]
def r28_2 : List COp := [⟨none, some 20, (Go.Op.move (Go.Operand.tmp 6))⟩,
  ⟨none, some 21, (Go.Op.binOp Go.BinOp.sub 3 (Go.Operand.tmp 20) (Go.Operand.const (Go.Value.int Go.IntKind.i64 1)) 3)⟩,
  ⟨none, some 6, (Go.Op.assign (Go.Operand.tmp 21))⟩]
def r28_3 : List COpD := [⟨none, some 22, (Go.Op.move (Go.Operand.tmp 0)), .pure, false, true⟩,
  ⟨none, some 23, (Go.Op.nilCheck (Go.Operand.tmp 22)), .pure, false, true⟩,
  ⟨none, some 24, (Go.Op.fieldAddr 58 (Go.Operand.tmp 23) 0), .pure, false, true⟩,
  ⟨none, some 25, (Go.Op.fieldAddr 27 (Go.Operand.tmp 24) 0), .pure, false, true⟩,
  ⟨none, some 26, (Go.Op.load 25 (Go.Operand.tmp 25)), .look, false, true⟩,
  ⟨none, some 27, (Go.Op.move (Go.Operand.tmp 1)), .pure, false, true⟩,
  ⟨none, some 28, (Go.Op.move (Go.Operand.tmp 0)), .pure, false, true⟩,
  ⟨none, some 29, (Go.Op.nilCheck (Go.Operand.tmp 28)), .pure, false, true⟩,
  ⟨none, some 30, (Go.Op.fieldAddr 58 (Go.Operand.tmp 29) 0), .pure, false, true⟩,
  ⟨none, some 31, (Go.Op.fieldAddr 27 (Go.Operand.tmp 30) 0), .pure, false, true⟩,
  ⟨none, some 32, (Go.Op.load 25 (Go.Operand.tmp 31)), .look, false, true⟩,
  ⟨none, some 33, (Go.Op.move (Go.Operand.tmp 1)), .pure, false, true⟩,
  ⟨none, some 34, (Go.Op.indexAddr 25 (Go.Operand.tmp 32) (Go.Operand.tmp 33)), .pure, false, true⟩,
  ⟨none, some 35, (Go.Op.fieldAddr 46 (Go.Operand.tmp 34) 2), .pure, false, true⟩,
  ⟨none, some 36, (Go.Op.load 3 (Go.Operand.tmp 35)), .look, false, true⟩,
  ⟨none, some 37, (Go.Op.move (Go.Operand.tmp 2)), .pure, false, true⟩,
  ⟨none, some 38, (Go.Op.call { callee := (Go.Callee.builtin Go.Builtin.max), args := #[(Go.Operand.tmp 36), (Go.Operand.tmp 37)], argTypes := #[3, 3] }), .pure, false, true⟩,
  ⟨none, some 39, (Go.Op.indexAddr 25 (Go.Operand.tmp 26) (Go.Operand.tmp 27)), .pure, true, true⟩,
  ⟨none, some 40, (Go.Op.fieldAddr 46 (Go.Operand.tmp 39) 2), .pure, true, true⟩,
  ⟨none, none, (Go.Op.store 3 (Go.Operand.tmp 40) (Go.Operand.tmp 38)), .make, true, false⟩]
def r28_4 : List COp := [⟨none, some 41, (Go.Op.move (Go.Operand.tmp 0))⟩,
  ⟨none, some 42, (Go.Op.nilCheck (Go.Operand.tmp 41))⟩,
  ⟨none, some 43, (Go.Op.fieldAddr 58 (Go.Operand.tmp 42) 0)⟩,
  ⟨none, some 44, (Go.Op.fieldAddr 27 (Go.Operand.tmp 43) 0)⟩,
  ⟨none, some 45, (Go.Op.load 25 (Go.Operand.tmp 44))⟩,
  ⟨none, some 46, (Go.Op.move (Go.Operand.tmp 1))⟩,
  ⟨none, some 47, (Go.Op.indexAddr 25 (Go.Operand.tmp 45) (Go.Operand.tmp 46))⟩,
  ⟨none, some 48, (Go.Op.fieldAddr 46 (Go.Operand.tmp 47) 3)⟩,
  ⟨none, some 49, (Go.Op.load 3 (Go.Operand.tmp 48))⟩,
  ⟨none, some 1, (Go.Op.assign (Go.Operand.tmp 49))⟩]
def arena_forest_grow_l0 (F : Nat) (a0 : arena_forest) (a1 : Int) (a2 : Int) : Nat → (List api_Node) → Int → Int → Int → Option (List api_Node)
  | 0, _, _, _, _ => none
  | n + 1, x1433, x1436, x1437, x1438 =>
    (arena_forest_has F (⟨(⟨x1433⟩ : arena_Tree)⟩ : arena_forest) x1436).bind fun r1481 =>
    if r1481 = true then
      if (0 : Int) < x1438 then
        if 0 ≤ x1436 ∧ x1436 < (x1433.length : Int) then
          (x1433[x1436.toNat]?).bind fun x1535 =>
          if 0 ≤ x1436 ∧ x1436 < (x1433.length : Int) then
            (x1433[x1436.toNat]?).bind fun x1544 =>
            if 0 ≤ x1436 ∧ x1436 < ((x1433.set x1436.toNat (⟨x1544.Kind, x1544.From, imax x1535.To x1437, x1544.Up, x1544.Kids, x1544.Key⟩ : api_Node)).length : Int) then
              ((x1433.set x1436.toNat (⟨x1544.Kind, x1544.From, imax x1535.To x1437, x1544.Up, x1544.Kids, x1544.Key⟩ : api_Node))[x1436.toNat]?).bind fun x1558 =>
              arena_forest_grow_l0 F a0 a1 a2 n (x1433.set x1436.toNat (⟨x1544.Kind, x1544.From, imax x1535.To x1437, x1544.Up, x1544.Kids, x1544.Key⟩ : api_Node)) x1558.Up x1437 (w64 (x1438 - 1))
            else none
          else none
        else none
      else
        some x1433
    else
      some x1433
def arena_forest_grow (F : Nat) (a0 : arena_forest) (a1 : Int) (a2 : Int) : Option arena_forest :=
  ((arena_forest_grow_l0 F a0 a1 a2 F a0.Tree.Nodes a1 a2 (a0.Tree.Nodes.length : Int)) : Option (List api_Node)).bind fun o => match o with
    | x1570 => some (⟨(⟨x1570⟩ : arena_Tree)⟩ : arena_forest)
theorem arena_forest_grow_ok (F : Nat) {h : AH} {Z : Zn} {a0 : arena_forest} {a1 : Int} {a2 : Int} {b892 : Nat} {v894 : Value} {c895 : List Value} (hP : Pre Z h [.blk b892 [v894], .gs v894 c895 (csz api_Node)]) (q893 : RCs (α := api_Node) Z c895 a0.Tree.Nodes) {r : arena_forest} (hm : arena_forest_grow F a0 a1 a2 = some r) :
    ∃ v h' Z' A', callI Go.Proofs.Try.prog 28 [.pointer (some ⟨b892, 0, none⟩), .int .i64 a1, .int .i64 a2] h = some (v, h') ∧ St h (idsL [.blk b892 [v894], .gs v894 c895 (csz api_Node)]) Z (0, 0) Z' h' A' ∧ ∃ c1166 : List Value, .tuple #[] = v ∧ A' = [.blk b892 [v894], .gs v894 c1166 (csz api_Node)] ∧ RCs (α := api_Node) Z' c1166 r.Tree.Nodes := by
  refine fn_intro (A := [.blk b892 [v894], .gs v894 c895 (csz api_Node)]) (Q := fun v Z' A' => ∃ c1166 : List Value, .tuple #[] = v ∧ A' = [.blk b892 [v894], .gs v894 c1166 (csz api_Node)] ∧ RCs (α := api_Node) Z' c1166 r.Tree.Nodes) Go.Proofs.Try.func28 rfl rfl (by kernel_rfl) hP ?_
  intro hs hS
  unfold arena_forest_grow at hm
  refine W_seq (by kernel_rfl) ?_
  refine W_region (R := r28_0) (by kernel_rfl) ?_
  refine r_run 4 (l' := [(10, .pointer (some ⟨b892, 0, none⟩)), (9, .pointer (some ⟨b892, 0, none⟩)), (8, .pointer (some ⟨b892, 0, none⟩)), (7, .pointer (some ⟨b892, 0, none⟩)), (0, .pointer (some ⟨b892, 0, none⟩)), (1, .int .i64 a1), (2, .int .i64 a2)]) (by kernel_rfl) ?_
  refine r_step rfl trivial (o_ldb (v := v894) hS (i := 0) rfl rfl (by kernel_rfl)) ?_
  refine r_step rfl trivial (o_len rfl (hS.glen (i := 1) rfl q893) ⟨_, Go.Proofs.Try.underlying25⟩) ?_
  refine r_run 1 (l' := [(6, .int .i64 (a0.Tree.Nodes.length : Int)), (12, .int .i64 (a0.Tree.Nodes.length : Int)), (11, v894), (10, .pointer (some ⟨b892, 0, none⟩)), (9, .pointer (some ⟨b892, 0, none⟩)), (8, .pointer (some ⟨b892, 0, none⟩)), (7, .pointer (some ⟨b892, 0, none⟩)), (0, .pointer (some ⟨b892, 0, none⟩)), (1, .int .i64 a1), (2, .int .i64 a2)]) (by kernel_rfl) ?_
  refine r_forget [6, 0, 1, 2] (l' := [(6, .int .i64 (a0.Tree.Nodes.length : Int)), (0, .pointer (some ⟨b892, 0, none⟩)), (1, .int .i64 a1), (2, .int .i64 a2)]) (by kernel_rfl) ?_
  refine r_end rfl ?_
  obtain ⟨o1431, ho1430, hm⟩ := obind hm
  refine W_join [] (fun l h => ∃ Z1569 : Zn, ∃ x1570 : List api_Node, ∃ c1572 : List Value, x1570 = o1431 ∧ RCs (α := api_Node) Z1569 c1572 x1570 ∧ l = [] ∧ St hs (idsL [.blk b892 [v894], .gs v894 c895 (csz api_Node)]) Z (0, 0) Z1569 h [.blk b892 [v894], .gs v894 c1572 (csz api_Node)]) ?_ ?_
  · rintro l h1573 ⟨Z1569, x1570, c1572, rfl, q1571, rfl, hS1574⟩
    try dsimp only at hm
    obtain rfl := Option.some.inj hm
    refine ⟨_, _, _, ResL.nil, hS1574, ?_⟩
    exact ⟨c1572, rfl, rfl, q1571⟩
  · refine W_block (i := 0) (by kernel_rfl) ?_
    refine W_loop [0, 1, 2, 6] (fun n l h => ∃ Z1432 : Zn, ∃ x1433 : List api_Node, ∃ x1436 : Int, ∃ x1437 : Int, ∃ x1438 : Int, ∃ c1435 : List Value, arena_forest_grow_l0 F a0 a1 a2 n x1433 x1436 x1437 x1438 = some o1431 ∧ RCs (α := api_Node) Z1432 c1435 x1433 ∧ l = [(0, .pointer (some ⟨b892, 0, none⟩)), (1, .int .i64 x1436), (2, .int .i64 x1437), (6, .int .i64 x1438)] ∧ St hs (idsL [.blk b892 [v894], .gs v894 c895 (csz api_Node)]) Z (0, 0) Z1432 h [.blk b892 [v894], .gs v894 c1435 (csz api_Node)]) F (by kernel_rfl) ⟨_, a0.Tree.Nodes, a1, a2, (a0.Tree.Nodes.length : Int), c895, ho1430, q893, rfl, hS⟩ ?_
    rintro n1441 l h1439 ⟨Z1432, x1433, x1436, x1437, x1438, c1435, ho1430, q1434, rfl, hS1440⟩
    cases n1441 with
    | zero => cases (show none = some o1431 from ho1430)
    | succ n1441 =>
      rw [arena_forest_grow_l0] at ho1430
      refine W_seq (by kernel_rfl) ?_
      refine W_seq (by kernel_rfl) ?_
      refine W_region (R := r28_1) (by kernel_rfl) ?_
      refine r_run 2 (l' := [(14, .int .i64 x1436), (13, .pointer (some ⟨b892, 0, none⟩)), (0, .pointer (some ⟨b892, 0, none⟩)), (1, .int .i64 x1436), (2, .int .i64 x1437), (6, .int .i64 x1438)]) (by kernel_rfl) ?_
      obtain ⟨r1481, hx1482, ho1430⟩ := obind ho1430
      have hSr1488 : St _ _ _ _ _ _ ([.blk b892 [v894], .gs v894 c1435 (csz api_Node)] ++ []) := ((hS1440.front 1 rfl).front 1 rfl)
      obtain ⟨v1483, h1484, Z1489, A1491, hcl1485, hSc1486, rfl, rfl⟩ := arena_forest_has_ok F hSr1488.preL q1434 hx1482
      have hS1487 := hSr1488.call hSc1486
      have hZ1490 := hSc1486.zle
      replace hS1487 : St _ _ _ _ _ _ [.blk b892 [v894], .gs v894 c1435 (csz api_Node)] := hS1487
      refine r_step rfl trivial (o_call hcl1485 rfl rfl rfl) ?_
      refine r_run 1 (l' := [(16, .bool r1481), (15, .bool r1481), (14, .int .i64 x1436), (13, .pointer (some ⟨b892, 0, none⟩)), (0, .pointer (some ⟨b892, 0, none⟩)), (1, .int .i64 x1436), (2, .int .i64 x1437), (6, .int .i64 x1438)]) (by kernel_rfl) ?_
      rcases ifs ho1430 with ⟨hp1492, ho1430⟩ | ⟨hp1492, ho1430⟩
      · refine r_setb (t := 16) rfl hp1492 ?_
        refine r_run 1 (l' := [(17, .int .i64 x1438), (16, .bool true), (16, .bool r1481), (15, .bool r1481), (14, .int .i64 x1436), (13, .pointer (some ⟨b892, 0, none⟩)), (0, .pointer (some ⟨b892, 0, none⟩)), (1, .int .i64 x1436), (2, .int .i64 x1437), (6, .int .i64 x1438)]) (by kernel_rfl) ?_
        rcases ifs ho1430 with ⟨hp1493, ho1430⟩ | ⟨hp1493, ho1430⟩
        · refine r_step rfl rfl (o_cmp rfl rfl (c_gtr_T hp1493)) ?_
          refine r_run 1 (l' := [(19, .bool true), (18, .bool true), (17, .int .i64 x1438), (16, .bool true), (16, .bool r1481), (15, .bool r1481), (14, .int .i64 x1436), (13, .pointer (some ⟨b892, 0, none⟩)), (0, .pointer (some ⟨b892, 0, none⟩)), (1, .int .i64 x1436), (2, .int .i64 x1437), (6, .int .i64 x1438)]) (by kernel_rfl) ?_
          refine r_forget [19, 0, 1, 2, 6] (l' := [(19, .bool true), (0, .pointer (some ⟨b892, 0, none⟩)), (1, .int .i64 x1436), (2, .int .i64 x1437), (6, .int .i64 x1438)]) (by kernel_rfl) ?_
          refine r_end rfl ?_
          refine W_condT (x := .tmp 19) (by kernel_rfl) rfl rfl ?_
          refine W_skip (by kernel_rfl) ?_
          refine W_seq (by kernel_rfl) ?_
          refine W_block (i := 1) (by kernel_rfl) ?_
          refine W_seq (by kernel_rfl) ?_
          refine W_regionD (R := r28_3) (by kernel_rfl) hS1487 ?_
          intro bs1530 h1531 hlv1533 hS1532
          refine d_run 4 (l' := [(25, .pointer (some ⟨b892, 0, none⟩)), (24, .pointer (some ⟨b892, 0, none⟩)), (23, .pointer (some ⟨b892, 0, none⟩)), (22, .pointer (some ⟨b892, 0, none⟩)), (19, .bool true), (0, .pointer (some ⟨b892, 0, none⟩)), (1, .int .i64 x1436), (2, .int .i64 x1437), (6, .int .i64 x1438)]) (by kernel_rfl) ?_
          refine d_look rfl rfl trivial (o_ldb (v := v894) hS1532 (i := 0) rfl rfl (by kernel_rfl)) ?_
          refine d_run 5 (l' := [(31, .pointer (some ⟨b892, 0, none⟩)), (30, .pointer (some ⟨b892, 0, none⟩)), (29, .pointer (some ⟨b892, 0, none⟩)), (28, .pointer (some ⟨b892, 0, none⟩)), (27, .int .i64 x1436), (26, v894), (25, .pointer (some ⟨b892, 0, none⟩)), (24, .pointer (some ⟨b892, 0, none⟩)), (23, .pointer (some ⟨b892, 0, none⟩)), (22, .pointer (some ⟨b892, 0, none⟩)), (19, .bool true), (0, .pointer (some ⟨b892, 0, none⟩)), (1, .int .i64 x1436), (2, .int .i64 x1437), (6, .int .i64 x1438)]) (by kernel_rfl) ?_
          refine d_look rfl rfl trivial (o_ldb (v := v894) hS1532 (i := 0) rfl rfl (by kernel_rfl)) ?_
          refine d_run 1 (l' := [(33, .int .i64 x1436), (32, v894), (31, .pointer (some ⟨b892, 0, none⟩)), (30, .pointer (some ⟨b892, 0, none⟩)), (29, .pointer (some ⟨b892, 0, none⟩)), (28, .pointer (some ⟨b892, 0, none⟩)), (27, .int .i64 x1436), (26, v894), (25, .pointer (some ⟨b892, 0, none⟩)), (24, .pointer (some ⟨b892, 0, none⟩)), (23, .pointer (some ⟨b892, 0, none⟩)), (22, .pointer (some ⟨b892, 0, none⟩)), (19, .bool true), (0, .pointer (some ⟨b892, 0, none⟩)), (1, .int .i64 x1436), (2, .int .i64 x1437), (6, .int .i64 x1438)]) (by kernel_rfl) ?_
          obtain ⟨hc1534, ho1430⟩ := chk ho1430
          refine d_val rfl trivial (o_index rfl rfl (by kernel_rfl : slTy _ _ = some (csz api_Node)) (hS1532.gbased (j := 1) rfl (q1434.mono hZ1490) (by omega)) hc1534.1 hc1534.2) ?_
          refine d_run 1 (l' := [(35, .pointer (some (elemA v894 x1436 (csz api_Node) 2))), (34, .pointer (some (elemA v894 x1436 (csz api_Node) 0))), (33, .int .i64 x1436), (32, v894), (31, .pointer (some ⟨b892, 0, none⟩)), (30, .pointer (some ⟨b892, 0, none⟩)), (29, .pointer (some ⟨b892, 0, none⟩)), (28, .pointer (some ⟨b892, 0, none⟩)), (27, .int .i64 x1436), (26, v894), (25, .pointer (some ⟨b892, 0, none⟩)), (24, .pointer (some ⟨b892, 0, none⟩)), (23, .pointer (some ⟨b892, 0, none⟩)), (22, .pointer (some ⟨b892, 0, none⟩)), (19, .bool true), (0, .pointer (some ⟨b892, 0, none⟩)), (1, .int .i64 x1436), (2, .int .i64 x1437), (6, .int .i64 x1438)]) (by kernel_rfl) ?_
          obtain ⟨x1535, hx1536, ho1430⟩ := obind ho1430
          obtain ⟨cs1537, hc1538, he1539, ht1540⟩ := hS1532.gel (j := 1) rfl (q1434.mono hZ1490) (i := x1436) hx1536
          obtain ⟨v1541, q1542, rfl⟩ := rc_api_Node hc1538
          refine d_look rfl rfl trivial (o_lde (w := .int .i64 x1535.To) he1539 rfl (by kernel_rfl)) ?_
          refine d_run 2 (l' := [(38, .int .i64 (imax x1535.To x1437)), (37, .int .i64 x1437), (36, .int .i64 x1535.To), (35, .pointer (some (elemA v894 x1436 (csz api_Node) 2))), (34, .pointer (some (elemA v894 x1436 (csz api_Node) 0))), (33, .int .i64 x1436), (32, v894), (31, .pointer (some ⟨b892, 0, none⟩)), (30, .pointer (some ⟨b892, 0, none⟩)), (29, .pointer (some ⟨b892, 0, none⟩)), (28, .pointer (some ⟨b892, 0, none⟩)), (27, .int .i64 x1436), (26, v894), (25, .pointer (some ⟨b892, 0, none⟩)), (24, .pointer (some ⟨b892, 0, none⟩)), (23, .pointer (some ⟨b892, 0, none⟩)), (22, .pointer (some ⟨b892, 0, none⟩)), (19, .bool true), (0, .pointer (some ⟨b892, 0, none⟩)), (1, .int .i64 x1436), (2, .int .i64 x1437), (6, .int .i64 x1438)]) (by kernel_rfl) ?_
          obtain ⟨hc1543, ho1430⟩ := chk ho1430
          refine d_val rfl trivial (o_index rfl rfl (by kernel_rfl : slTy _ _ = some (csz api_Node)) (hS1532.gbased (j := 1) rfl (q1434.mono hZ1490) (by omega)) hc1543.1 hc1543.2) ?_
          refine d_run 1 (l' := [(40, .pointer (some (elemA v894 x1436 (csz api_Node) 2))), (39, .pointer (some (elemA v894 x1436 (csz api_Node) 0))), (38, .int .i64 (imax x1535.To x1437)), (37, .int .i64 x1437), (36, .int .i64 x1535.To), (35, .pointer (some (elemA v894 x1436 (csz api_Node) 2))), (34, .pointer (some (elemA v894 x1436 (csz api_Node) 0))), (33, .int .i64 x1436), (32, v894), (31, .pointer (some ⟨b892, 0, none⟩)), (30, .pointer (some ⟨b892, 0, none⟩)), (29, .pointer (some ⟨b892, 0, none⟩)), (28, .pointer (some ⟨b892, 0, none⟩)), (27, .int .i64 x1436), (26, v894), (25, .pointer (some ⟨b892, 0, none⟩)), (24, .pointer (some ⟨b892, 0, none⟩)), (23, .pointer (some ⟨b892, 0, none⟩)), (22, .pointer (some ⟨b892, 0, none⟩)), (19, .bool true), (0, .pointer (some ⟨b892, 0, none⟩)), (1, .int .i64 x1436), (2, .int .i64 x1437), (6, .int .i64 x1438)]) (by kernel_rfl) ?_
          obtain ⟨x1544, hx1545, ho1430⟩ := obind ho1430
          obtain ⟨cs1546, hc1547, he1548, ht1549⟩ := hS1532.gel (j := 1) rfl (q1434.mono hZ1490) (i := x1436) hx1545
          obtain ⟨v1550, q1551, rfl⟩ := rc_api_Node hc1547
          refine d_ex2 rfl trivial hS1532 (o_ste (u' := (⟨x1544.Kind, x1544.From, imax x1535.To x1437, x1544.Up, x1544.Kids, x1544.Key⟩ : api_Node)) (vs := [.int .i64 (imax x1535.To x1437)]) (cs' := [.int .i64 x1544.Kind, .int .i64 x1544.From, .int .i64 (imax x1535.To x1437), .int .i64 x1544.Up, v1550, .bool x1544.Key]) (hS1532.lown) (m := 1) rfl (q1434.mono hZ1490) hx1545 ht1549 rfl rfl rfl (by kernel_rfl) rfl rfl rfl ⟨_, q1551, rfl⟩) rfl ?_
          rintro h1552 c1553 ⟨q1555, hS1554⟩
          replace hS1554 : St _ _ _ _ _ _ [.blk b892 [v894], .gs v894 c1553 (csz api_Node)] := hS1554
          refine d_forget [0, 1, 2, 6] (l' := [(0, .pointer (some ⟨b892, 0, none⟩)), (1, .int .i64 x1436), (2, .int .i64 x1437), (6, .int .i64 x1438)]) (by kernel_rfl) ?_
          refine d_end rfl ?_
          have hS1556 := hS1554.unres
          refine W_region (R := r28_4) (by kernel_rfl) ?_
          refine r_run 4 (l' := [(44, .pointer (some ⟨b892, 0, none⟩)), (43, .pointer (some ⟨b892, 0, none⟩)), (42, .pointer (some ⟨b892, 0, none⟩)), (41, .pointer (some ⟨b892, 0, none⟩)), (0, .pointer (some ⟨b892, 0, none⟩)), (1, .int .i64 x1436), (2, .int .i64 x1437), (6, .int .i64 x1438)]) (by kernel_rfl) ?_
          refine r_step rfl trivial (o_ldb (v := v894) hS1556 (i := 0) rfl rfl (by kernel_rfl)) ?_
          refine r_run 1 (l' := [(46, .int .i64 x1436), (45, v894), (44, .pointer (some ⟨b892, 0, none⟩)), (43, .pointer (some ⟨b892, 0, none⟩)), (42, .pointer (some ⟨b892, 0, none⟩)), (41, .pointer (some ⟨b892, 0, none⟩)), (0, .pointer (some ⟨b892, 0, none⟩)), (1, .int .i64 x1436), (2, .int .i64 x1437), (6, .int .i64 x1438)]) (by kernel_rfl) ?_
          obtain ⟨hc1557, ho1430⟩ := chk ho1430
          refine r_step rfl trivial (o_index rfl rfl (by kernel_rfl : slTy _ _ = some (csz api_Node)) (hS1556.gbased (j := 1) rfl q1555 (by omega)) hc1557.1 hc1557.2) ?_
          refine r_run 1 (l' := [(48, .pointer (some (elemA v894 x1436 (csz api_Node) 3))), (47, .pointer (some (elemA v894 x1436 (csz api_Node) 0))), (46, .int .i64 x1436), (45, v894), (44, .pointer (some ⟨b892, 0, none⟩)), (43, .pointer (some ⟨b892, 0, none⟩)), (42, .pointer (some ⟨b892, 0, none⟩)), (41, .pointer (some ⟨b892, 0, none⟩)), (0, .pointer (some ⟨b892, 0, none⟩)), (1, .int .i64 x1436), (2, .int .i64 x1437), (6, .int .i64 x1438)]) (by kernel_rfl) ?_
          obtain ⟨x1558, hx1559, ho1430⟩ := obind ho1430
          obtain ⟨cs1560, hc1561, he1562, ht1563⟩ := hS1556.gel (j := 1) rfl q1555 (i := x1436) hx1559
          obtain ⟨v1564, q1565, rfl⟩ := rc_api_Node hc1561
          refine r_step rfl trivial (o_lde (w := .int .i64 x1558.Up) he1562 rfl (by kernel_rfl)) ?_
          refine r_run 1 (l' := [(1, .int .i64 x1558.Up), (49, .int .i64 x1558.Up), (48, .pointer (some (elemA v894 x1436 (csz api_Node) 3))), (47, .pointer (some (elemA v894 x1436 (csz api_Node) 0))), (46, .int .i64 x1436), (45, v894), (44, .pointer (some ⟨b892, 0, none⟩)), (43, .pointer (some ⟨b892, 0, none⟩)), (42, .pointer (some ⟨b892, 0, none⟩)), (41, .pointer (some ⟨b892, 0, none⟩)), (0, .pointer (some ⟨b892, 0, none⟩)), (1, .int .i64 x1436), (2, .int .i64 x1437), (6, .int .i64 x1438)]) (by kernel_rfl) ?_
          refine r_forget [1, 0, 2, 6] (l' := [(1, .int .i64 x1558.Up), (0, .pointer (some ⟨b892, 0, none⟩)), (2, .int .i64 x1437), (6, .int .i64 x1438)]) (by kernel_rfl) ?_
          refine r_end rfl ?_
          refine W_region (R := r28_2) (by kernel_rfl) ?_
          refine r_run 3 (l' := [(6, .int .i64 (w64 (x1438 - 1))), (21, .int .i64 (w64 (x1438 - 1))), (20, .int .i64 x1438), (1, .int .i64 x1558.Up), (0, .pointer (some ⟨b892, 0, none⟩)), (2, .int .i64 x1437), (6, .int .i64 x1438)]) (by kernel_rfl) ?_
          refine r_forget [6, 1, 0, 2] (l' := [(6, .int .i64 (w64 (x1438 - 1))), (1, .int .i64 x1558.Up), (0, .pointer (some ⟨b892, 0, none⟩)), (2, .int .i64 x1437)]) (by kernel_rfl) ?_
          refine r_end rfl ?_
          exact ⟨n1441, Nat.lt_succ_self _, ⟨_, x1433.set x1436.toNat (⟨x1544.Kind, x1544.From, imax x1535.To x1437, x1544.Up, x1544.Kids, x1544.Key⟩ : api_Node), x1558.Up, x1437, w64 (x1438 - 1), c1553, ho1430, q1555, rfl, hS1556⟩⟩
        · refine r_step rfl rfl (o_cmp rfl rfl (c_gtr_F hp1493)) ?_
          refine r_run 1 (l' := [(19, .bool false), (18, .bool false), (17, .int .i64 x1438), (16, .bool true), (16, .bool r1481), (15, .bool r1481), (14, .int .i64 x1436), (13, .pointer (some ⟨b892, 0, none⟩)), (0, .pointer (some ⟨b892, 0, none⟩)), (1, .int .i64 x1436), (2, .int .i64 x1437), (6, .int .i64 x1438)]) (by kernel_rfl) ?_
          refine r_forget [19, 0, 1, 2, 6] (l' := [(19, .bool false), (0, .pointer (some ⟨b892, 0, none⟩)), (1, .int .i64 x1436), (2, .int .i64 x1437), (6, .int .i64 x1438)]) (by kernel_rfl) ?_
          refine r_end rfl ?_
          refine W_condF (x := .tmp 19) (by kernel_rfl) rfl rfl ?_
          refine W_exit (i := 0) (by kernel_rfl) ?_
          refine blkX_hit ?_
          obtain rfl := Option.some.inj ho1430
          exact ⟨_, x1433, c1435, rfl, (q1434.mono hZ1490), rfl, hS1487⟩
      · refine r_setb (t := 16) rfl (Bool.eq_false_iff.2 hp1492) ?_
        refine r_run 3 (l' := [(19, .bool false), (18, undef), (17, undef), (16, .bool false), (16, .bool r1481), (15, .bool r1481), (14, .int .i64 x1436), (13, .pointer (some ⟨b892, 0, none⟩)), (0, .pointer (some ⟨b892, 0, none⟩)), (1, .int .i64 x1436), (2, .int .i64 x1437), (6, .int .i64 x1438)]) (by kernel_rfl) ?_
        refine r_forget [19, 0, 1, 2, 6] (l' := [(19, .bool false), (0, .pointer (some ⟨b892, 0, none⟩)), (1, .int .i64 x1436), (2, .int .i64 x1437), (6, .int .i64 x1438)]) (by kernel_rfl) ?_
        refine r_end rfl ?_
        refine W_condF (x := .tmp 19) (by kernel_rfl) rfl rfl ?_
        refine W_exit (i := 0) (by kernel_rfl) ?_
        refine blkX_hit ?_
        obtain rfl := Option.some.inj ho1430
        exact ⟨_, x1433, c1435, rfl, (q1434.mono hZ1490), rfl, hS1487⟩

def r16_0 : List COp := [⟨none, some 3, (Go.Op.box 27 (Go.Operand.tmp 0))⟩,
  ⟨none, some 6, (Go.Op.alloc 27)⟩]
def r16_1 : List COp := [⟨none, some 8, (Go.Op.load 27 (Go.Operand.tmp 3))⟩,
  ⟨none, some 9, (Go.Op.call { callee := (Go.Callee.value (Go.Operand.func 25)), args := #[(Go.Operand.tmp 8)], argTypes := #[27] })⟩,
  ⟨none, some 7, (Go.Op.assign (Go.Operand.tmp 9))⟩]
def r16_2 : List COp := [⟨none, some 10, (Go.Op.move (Go.Operand.tmp 7))⟩,
  ⟨none, some 11, (Go.Op.move (Go.Operand.tmp 1))⟩,
  ⟨none, some 12, (Go.Op.call { callee := (Go.Callee.value (Go.Operand.func 26)), args := #[(Go.Operand.tmp 10), (Go.Operand.tmp 11)], argTypes := #[54, 3] })⟩,
  ⟨none, some 13, (Go.Op.move (Go.Operand.tmp 12))⟩,
  ⟨(some (some 13, true)), some 14, (Go.Op.move (Go.Operand.tmp 2))⟩,
  ⟨(some (some 13, true)), some 15, (Go.Op.move (Go.Operand.tmp 7))⟩,
  ⟨(some (some 13, true)), some 16, (Go.Op.nilCheck (Go.Operand.tmp 15))⟩,
  ⟨(some (some 13, true)), some 17, (Go.Op.fieldAddr 58 (Go.Operand.tmp 16) 0)⟩,
  ⟨(some (some 13, true)), some 18, (Go.Op.fieldAddr 27 (Go.Operand.tmp 17) 0)⟩,
  ⟨(some (some 13, true)), some 19, (Go.Op.load 25 (Go.Operand.tmp 18))⟩,
  ⟨(some (some 13, true)), some 20, (Go.Op.indexAddr 25 (Go.Operand.tmp 19) (Go.Operand.const (Go.Value.int Go.IntKind.i64 0)))⟩,
  ⟨(some (some 13, true)), some 21, (Go.Op.fieldAddr 46 (Go.Operand.tmp 20) 2)⟩,
  ⟨(some (some 13, true)), some 22, (Go.Op.load 3 (Go.Operand.tmp 21))⟩,
  ⟨(some (some 13, true)), some 23, (Go.Op.binOp Go.BinOp.leq 3 (Go.Operand.tmp 14) (Go.Operand.tmp 22) 3)⟩,
  ⟨none, some 24, (Go.Op.pick (Go.Operand.tmp 13) (Go.Operand.tmp 23) (Go.Operand.const (Go.Value.bool false)))⟩]
def r16_3 : List COp := [⟨none, some 25, (Go.Op.move (Go.Operand.tmp 7))⟩,
  ⟨none, some 26, (Go.Op.move (Go.Operand.tmp 1))⟩,
  ⟨none, some 27, (Go.Op.move (Go.Operand.tmp 2))⟩,
  ⟨none, some 28, (Go.Op.call { callee := (Go.Callee.value (Go.Operand.func 28)), args := #[(Go.Operand.tmp 25), (Go.Operand.tmp 26), (Go.Operand.tmp 27)], argTypes := #[54, 3, 3] })⟩]
def r16_4 : List COp := [⟨none, some 29, (Go.Op.move (Go.Operand.tmp 7))⟩,
  ⟨none, some 30, (Go.Op.nilCheck (Go.Operand.tmp 29))⟩,
  ⟨none, some 31, (Go.Op.fieldAddr 58 (Go.Operand.tmp 30) 0)⟩,
  ⟨none, some 32, (Go.Op.load 27 (Go.Operand.tmp 31))⟩,
  ⟨none, none, (Go.Op.store 27 (Go.Operand.tmp 6) (Go.Operand.tmp 32))⟩]
def arena_Grow (F : Nat) (a0 : arena_Tree) (a1 : Int) (a2 : Int) : Option arena_Tree :=
  (arena_own F a0).bind fun r1694 =>
  (((arena_forest_has F r1694 a1).bind fun r1829 =>
    if r1829 = true then
      if 0 ≤ (0 : Int) ∧ (0 : Int) < (r1694.Tree.Nodes.length : Int) then
        (r1694.Tree.Nodes[(0 : Int).toNat]?).bind fun x1842 =>
        if a2 ≤ x1842.To then
          (arena_forest_grow F r1694 a1 a2).bind fun r1851 =>
          some r1851.Tree.Nodes
        else
          some r1694.Tree.Nodes
      else none
    else
      some r1694.Tree.Nodes) : Option (List api_Node)).bind fun o => match o with
    | x1867 => some (⟨x1867⟩ : arena_Tree)
theorem arena_Grow_ok (F : Nat) {h : AH} {Z : Zn} {a0 : arena_Tree} {a1 : Int} {a2 : Int} {v51 : Value} (hP : Pre Z h []) (q50 : RS (α := api_Node) Z v51 a0.Nodes) {r : arena_Tree} (hm : arena_Grow F a0 a1 a2 = some r) :
    ∃ v h' Z' A', callI Go.Proofs.Try.prog 16 [.agg #[v51], .int .i64 a1, .int .i64 a2] h = some (v, h') ∧ St h (idsL []) Z (0, 0) Z' h' A' ∧ ∃ v1686 : Value, ∃ c1687 : List Value, .agg #[v1686] = v ∧ A' = [.gs v1686 c1687 (csz api_Node)] ∧ RCs (α := api_Node) Z' c1687 r.Nodes := by
  refine fn_intro (A := []) (Q := fun v Z' A' => ∃ v1686 : Value, ∃ c1687 : List Value, .agg #[v1686] = v ∧ A' = [.gs v1686 c1687 (csz api_Node)] ∧ RCs (α := api_Node) Z' c1687 r.Nodes) Go.Proofs.Try.func16 rfl rfl (by kernel_rfl) hP ?_
  intro hs hS
  unfold arena_Grow at hm
  replace hS : St hs [] Z (0, 0) Z hs [] := hS
  refine W_seq (by kernel_rfl) ?_
  refine W_region (R := r16_0) (by kernel_rfl) ?_
  refine r_blk rfl trivial (o_box (cs := [v51]) rfl rfl) hS ?_
  intro b1688 h1689 hS1690
  refine r_blk rfl trivial (o_alloc (cs := [.slice none 0 0]) (by kernel_rfl)) hS1690 ?_
  intro b1691 h1692 hS1693
  refine r_forget [6, 3, 1, 2] (l' := [(6, .pointer (some ⟨b1691, 0, none⟩)), (3, .pointer (some ⟨b1688, 0, none⟩)), (1, .int .i64 a1), (2, .int .i64 a2)]) (by kernel_rfl) ?_
  refine r_end rfl ?_
  refine W_seq (by kernel_rfl) ?_
  refine W_region (R := r16_1) (by kernel_rfl) ?_
  refine r_step rfl trivial (o_ldb (v := .agg #[v51]) hS1693 (i := 1) rfl rfl (by kernel_rfl)) ?_
  obtain ⟨r1694, hx1695, hm⟩ := obind hm
  have hSr1701 : St _ _ _ _ _ _ ([] ++ [.blk b1691 [.slice none 0 0], .blk b1688 [v51]]) := hS1693
  obtain ⟨v1696, h1697, Z1702, A1704, hcl1698, hSc1699, b1705, v1707, c1708, rfl, rfl, q1706⟩ := arena_own_ok F hSr1701.preL q50 hx1695
  have hS1700 := hSr1701.call hSc1699
  have hZ1703 := hSc1699.zle
  replace hS1700 : St _ _ _ _ _ _ [.blk b1705 [v1707], .gs v1707 c1708 (csz api_Node), .blk b1691 [.slice none 0 0], .blk b1688 [v51]] := hS1700
  refine r_step rfl trivial (o_call hcl1698 rfl rfl rfl) ?_
  refine r_run 1 (l' := [(7, .pointer (some ⟨b1705, 0, none⟩)), (9, .pointer (some ⟨b1705, 0, none⟩)), (8, .agg #[v51]), (6, .pointer (some ⟨b1691, 0, none⟩)), (3, .pointer (some ⟨b1688, 0, none⟩)), (1, .int .i64 a1), (2, .int .i64 a2)]) (by kernel_rfl) ?_
  refine r_forget [7, 6, 1, 2] (l' := [(7, .pointer (some ⟨b1705, 0, none⟩)), (6, .pointer (some ⟨b1691, 0, none⟩)), (1, .int .i64 a1), (2, .int .i64 a2)]) (by kernel_rfl) ?_
  refine r_end rfl ?_
  refine W_seq (by kernel_rfl) ?_
  obtain ⟨o1828, ho1827, hm⟩ := obind hm
  refine W_seqJoin0 [6, 7] (fun l h => ∃ Z1864 : Zn, ∃ x1867 : List api_Node, ∃ b1865 : Nat, ∃ b1866 : Nat, ∃ v1869 : Value, ∃ c1870 : List Value, x1867 = o1828 ∧ RCs (α := api_Node) Z1864 c1870 x1867 ∧ l = [(6, .pointer (some ⟨b1865, 0, none⟩)), (7, .pointer (some ⟨b1866, 0, none⟩))] ∧ St hs [] Z (0, 0) Z1864 h [.blk b1865 [.slice none 0 0], .blk b1866 [v1869], .gs v1869 c1870 (csz api_Node)]) (by kernel_rfl) ?_ ?_
  · rintro l h1871 ⟨Z1864, x1867, b1865, b1866, v1869, c1870, rfl, q1868, rfl, hS1872⟩
    try dsimp only at hm
    refine W_seq (by kernel_rfl) ?_
    refine W_region (R := r16_4) (by kernel_rfl) ?_
    refine r_run 3 (l' := [(31, .pointer (some ⟨b1866, 0, none⟩)), (30, .pointer (some ⟨b1866, 0, none⟩)), (29, .pointer (some ⟨b1866, 0, none⟩)), (6, .pointer (some ⟨b1865, 0, none⟩)), (7, .pointer (some ⟨b1866, 0, none⟩))]) (by kernel_rfl) ?_
    refine r_step rfl trivial (o_ldb (v := .agg #[v1869]) hS1872 (i := 1) rfl rfl (by kernel_rfl)) ?_
    refine r_ex1 rfl trivial (o_stb (vs := [v1869]) (cells' := [v1869]) (L' := [.blk b1865 [v1869], .blk b1866 [v1869], .gs v1869 c1870 (csz api_Node)]) hS1872 (i := 0) rfl rfl rfl rfl (by kernel_rfl) (one_cons (hS1872.gone1 (i := 2) rfl) one_nil) rfl rfl rfl) ?_
    intro h1873 hS1874
    refine r_forget [6] (l' := [(6, .pointer (some ⟨b1865, 0, none⟩))]) (by kernel_rfl) ?_
    refine r_end rfl ?_
    refine W_ret (by kernel_rfl) ?_
    refine ⟨rfl, ?_⟩
    obtain rfl := Option.some.inj hm
    refine ⟨_, _, _, ResL.cell (v := .agg #[v1869]) rfl hS1874 (i := 0) rfl (by kernel_rfl) (ResL.nil), ((hS1874.front 2 rfl).takeN 1), ?_⟩
    exact ⟨v1869, c1870, rfl, rfl, q1868⟩
  · refine W_region (R := r16_2) (by kernel_rfl) ?_
    refine r_run 2 (l' := [(11, .int .i64 a1), (10, .pointer (some ⟨b1705, 0, none⟩)), (7, .pointer (some ⟨b1705, 0, none⟩)), (6, .pointer (some ⟨b1691, 0, none⟩)), (1, .int .i64 a1), (2, .int .i64 a2)]) (by kernel_rfl) ?_
    obtain ⟨r1829, hx1830, ho1827⟩ := obind ho1827
    have hSr1836 : St _ _ _ _ _ _ ([.blk b1705 [v1707], .gs v1707 c1708 (csz api_Node)] ++ [.blk b1691 [.slice none 0 0], .blk b1688 [v51]]) := ((hS1700.front 1 rfl).front 1 rfl)
    obtain ⟨v1831, h1832, Z1837, A1839, hcl1833, hSc1834, rfl, rfl⟩ := arena_forest_has_ok F hSr1836.preL q1706 hx1830
    have hS1835 := hSr1836.call hSc1834
    have hZ1838 := hSc1834.zle
    replace hS1835 : St _ _ _ _ _ _ [.blk b1705 [v1707], .gs v1707 c1708 (csz api_Node), .blk b1691 [.slice none 0 0], .blk b1688 [v51]] := hS1835
    refine r_step rfl trivial (o_call hcl1833 rfl rfl rfl) ?_
    refine r_run 1 (l' := [(13, .bool r1829), (12, .bool r1829), (11, .int .i64 a1), (10, .pointer (some ⟨b1705, 0, none⟩)), (7, .pointer (some ⟨b1705, 0, none⟩)), (6, .pointer (some ⟨b1691, 0, none⟩)), (1, .int .i64 a1), (2, .int .i64 a2)]) (by kernel_rfl) ?_
    rcases ifs ho1827 with ⟨hp1840, ho1827⟩ | ⟨hp1840, ho1827⟩
    · refine r_setb (t := 13) rfl hp1840 ?_
      refine r_run 5 (l' := [(18, .pointer (some ⟨b1705, 0, none⟩)), (17, .pointer (some ⟨b1705, 0, none⟩)), (16, .pointer (some ⟨b1705, 0, none⟩)), (15, .pointer (some ⟨b1705, 0, none⟩)), (14, .int .i64 a2), (13, .bool true), (13, .bool r1829), (12, .bool r1829), (11, .int .i64 a1), (10, .pointer (some ⟨b1705, 0, none⟩)), (7, .pointer (some ⟨b1705, 0, none⟩)), (6, .pointer (some ⟨b1691, 0, none⟩)), (1, .int .i64 a1), (2, .int .i64 a2)]) (by kernel_rfl) ?_
      refine r_step rfl rfl (o_ldb (v := v1707) hS1835 (i := 0) rfl rfl (by kernel_rfl)) ?_
      obtain ⟨hc1841, ho1827⟩ := chk ho1827
      refine r_step rfl rfl (o_index rfl rfl (by kernel_rfl : slTy _ _ = some (csz api_Node)) (hS1835.gbased (j := 1) rfl (q1706.mono hZ1838) (by omega)) hc1841.1 hc1841.2) ?_
      refine r_run 1 (l' := [(21, .pointer (some (elemA v1707 0 (csz api_Node) 2))), (20, .pointer (some (elemA v1707 0 (csz api_Node) 0))), (19, v1707), (18, .pointer (some ⟨b1705, 0, none⟩)), (17, .pointer (some ⟨b1705, 0, none⟩)), (16, .pointer (some ⟨b1705, 0, none⟩)), (15, .pointer (some ⟨b1705, 0, none⟩)), (14, .int .i64 a2), (13, .bool true), (13, .bool r1829), (12, .bool r1829), (11, .int .i64 a1), (10, .pointer (some ⟨b1705, 0, none⟩)), (7, .pointer (some ⟨b1705, 0, none⟩)), (6, .pointer (some ⟨b1691, 0, none⟩)), (1, .int .i64 a1), (2, .int .i64 a2)]) (by kernel_rfl) ?_
      obtain ⟨x1842, hx1843, ho1827⟩ := obind ho1827
      obtain ⟨cs1844, hc1845, he1846, ht1847⟩ := hS1835.gel (j := 1) rfl (q1706.mono hZ1838) (i := 0) hx1843
      obtain ⟨v1848, q1849, rfl⟩ := rc_api_Node hc1845
      refine r_step rfl rfl (o_lde (w := .int .i64 x1842.To) he1846 rfl (by kernel_rfl)) ?_
      rcases ifs ho1827 with ⟨hp1850, ho1827⟩ | ⟨hp1850, ho1827⟩
      · refine r_step rfl rfl (o_cmp rfl rfl (c_leq_T hp1850)) ?_
        refine r_run 1 (l' := [(24, .bool true), (23, .bool true), (22, .int .i64 x1842.To), (21, .pointer (some (elemA v1707 0 (csz api_Node) 2))), (20, .pointer (some (elemA v1707 0 (csz api_Node) 0))), (19, v1707), (18, .pointer (some ⟨b1705, 0, none⟩)), (17, .pointer (some ⟨b1705, 0, none⟩)), (16, .pointer (some ⟨b1705, 0, none⟩)), (15, .pointer (some ⟨b1705, 0, none⟩)), (14, .int .i64 a2), (13, .bool true), (13, .bool r1829), (12, .bool r1829), (11, .int .i64 a1), (10, .pointer (some ⟨b1705, 0, none⟩)), (7, .pointer (some ⟨b1705, 0, none⟩)), (6, .pointer (some ⟨b1691, 0, none⟩)), (1, .int .i64 a1), (2, .int .i64 a2)]) (by kernel_rfl) ?_
        refine r_forget [24, 7, 6, 1, 2] (l' := [(24, .bool true), (7, .pointer (some ⟨b1705, 0, none⟩)), (6, .pointer (some ⟨b1691, 0, none⟩)), (1, .int .i64 a1), (2, .int .i64 a2)]) (by kernel_rfl) ?_
        refine r_end rfl ?_
        refine W_condT (x := .tmp 24) (by kernel_rfl) rfl rfl ?_
        refine W_region (R := r16_3) (by kernel_rfl) ?_
        refine r_run 3 (l' := [(27, .int .i64 a2), (26, .int .i64 a1), (25, .pointer (some ⟨b1705, 0, none⟩)), (24, .bool true), (7, .pointer (some ⟨b1705, 0, none⟩)), (6, .pointer (some ⟨b1691, 0, none⟩)), (1, .int .i64 a1), (2, .int .i64 a2)]) (by kernel_rfl) ?_
        obtain ⟨r1851, hx1852, ho1827⟩ := obind ho1827
        have hSr1858 : St _ _ _ _ _ _ ([.blk b1705 [v1707], .gs v1707 c1708 (csz api_Node)] ++ [.blk b1691 [.slice none 0 0], .blk b1688 [v51]]) := ((hS1835.front 1 rfl).front 1 rfl)
        obtain ⟨v1853, h1854, Z1859, A1861, hcl1855, hSc1856, c1863, rfl, rfl, q1862⟩ := arena_forest_grow_ok F hSr1858.preL (q1706.mono hZ1838) hx1852
        have hS1857 := hSr1858.call hSc1856
        have hZ1860 := hSc1856.zle
        replace hS1857 : St _ _ _ _ _ _ [.blk b1705 [v1707], .gs v1707 c1863 (csz api_Node), .blk b1691 [.slice none 0 0], .blk b1688 [v51]] := hS1857
        refine r_step rfl trivial (o_call hcl1855 rfl rfl rfl) ?_
        refine r_forget [7, 6] (l' := [(7, .pointer (some ⟨b1705, 0, none⟩)), (6, .pointer (some ⟨b1691, 0, none⟩))]) (by kernel_rfl) ?_
        refine r_end rfl ?_
        obtain rfl := Option.some.inj ho1827
        exact ⟨_, r1851.Tree.Nodes, b1691, b1705, v1707, c1863, rfl, q1862, rfl, ((((hS1857.front 1 rfl).front 1 rfl).front 2 rfl).takeN 3)⟩
      · refine r_step rfl rfl (o_cmp rfl rfl (c_leq_F hp1850)) ?_
        refine r_run 1 (l' := [(24, .bool false), (23, .bool false), (22, .int .i64 x1842.To), (21, .pointer (some (elemA v1707 0 (csz api_Node) 2))), (20, .pointer (some (elemA v1707 0 (csz api_Node) 0))), (19, v1707), (18, .pointer (some ⟨b1705, 0, none⟩)), (17, .pointer (some ⟨b1705, 0, none⟩)), (16, .pointer (some ⟨b1705, 0, none⟩)), (15, .pointer (some ⟨b1705, 0, none⟩)), (14, .int .i64 a2), (13, .bool true), (13, .bool r1829), (12, .bool r1829), (11, .int .i64 a1), (10, .pointer (some ⟨b1705, 0, none⟩)), (7, .pointer (some ⟨b1705, 0, none⟩)), (6, .pointer (some ⟨b1691, 0, none⟩)), (1, .int .i64 a1), (2, .int .i64 a2)]) (by kernel_rfl) ?_
        refine r_forget [24, 7, 6, 1, 2] (l' := [(24, .bool false), (7, .pointer (some ⟨b1705, 0, none⟩)), (6, .pointer (some ⟨b1691, 0, none⟩)), (1, .int .i64 a1), (2, .int .i64 a2)]) (by kernel_rfl) ?_
        refine r_end rfl ?_
        refine W_condF (x := .tmp 24) (by kernel_rfl) rfl rfl ?_
        refine W_skip (by kernel_rfl) ?_
        obtain rfl := Option.some.inj ho1827
        exact ⟨_, r1694.Tree.Nodes, b1691, b1705, v1707, c1708, rfl, (q1706.mono hZ1838), rfl, ((((hS1835.front 1 rfl).front 1 rfl).front 2 rfl).takeN 3)⟩
    · refine r_setb (t := 13) rfl (Bool.eq_false_iff.2 hp1840) ?_
      refine r_run 11 (l' := [(24, .bool false), (23, undef), (22, undef), (21, undef), (20, undef), (19, undef), (18, undef), (17, undef), (16, undef), (15, undef), (14, undef), (13, .bool false), (13, .bool r1829), (12, .bool r1829), (11, .int .i64 a1), (10, .pointer (some ⟨b1705, 0, none⟩)), (7, .pointer (some ⟨b1705, 0, none⟩)), (6, .pointer (some ⟨b1691, 0, none⟩)), (1, .int .i64 a1), (2, .int .i64 a2)]) (by kernel_rfl) ?_
      refine r_forget [24, 7, 6, 1, 2] (l' := [(24, .bool false), (7, .pointer (some ⟨b1705, 0, none⟩)), (6, .pointer (some ⟨b1691, 0, none⟩)), (1, .int .i64 a1), (2, .int .i64 a2)]) (by kernel_rfl) ?_
      refine r_end rfl ?_
      refine W_condF (x := .tmp 24) (by kernel_rfl) rfl rfl ?_
      refine W_skip (by kernel_rfl) ?_
      obtain rfl := Option.some.inj ho1827
      exact ⟨_, r1694.Tree.Nodes, b1691, b1705, v1707, c1708, rfl, (q1706.mono hZ1838), rfl, ((((hS1835.front 1 rfl).front 1 rfl).front 2 rfl).takeN 3)⟩

def r27_0 : List COp := [⟨none, some 4, (Go.Op.assign (Go.Operand.const (Go.Value.int Go.IntKind.i64 0)))⟩]
def r27_1 : List COp := [⟨none, some 7, (Go.Op.move (Go.Operand.tmp 0))⟩,
  ⟨none, some 8, (Go.Op.nilCheck (Go.Operand.tmp 7))⟩,
  ⟨none, some 9, (Go.Op.fieldAddr 58 (Go.Operand.tmp 8) 0)⟩,
  ⟨none, some 10, (Go.Op.fieldAddr 27 (Go.Operand.tmp 9) 0)⟩,
  ⟨none, some 11, (Go.Op.load 25 (Go.Operand.tmp 10))⟩,
  ⟨none, some 12, (Go.Op.move (Go.Operand.tmp 1))⟩,
  ⟨none, some 13, (Go.Op.indexAddr 25 (Go.Operand.tmp 11) (Go.Operand.tmp 12))⟩,
  ⟨none, some 14, (Go.Op.load 46 (Go.Operand.tmp 13))⟩,
  ⟨none, some 5, (Go.Op.alloc 46)⟩,
  ⟨none, none, (Go.Op.store 46 (Go.Operand.tmp 5) (Go.Operand.tmp 14))⟩]
def r27_2 : List COp := [⟨none, some 15, (Go.Op.fieldAddr 46 (Go.Operand.tmp 5) 4)⟩,
  ⟨none, some 16, (Go.Op.load 44 (Go.Operand.tmp 15))⟩,
  ⟨none, some 17, (Go.Op.call { callee := (Go.Callee.builtin Go.Builtin.len), args := #[(Go.Operand.tmp 16)], argTypes := #[44] })⟩,
  ⟨none, some 6, (Go.Op.assign (Go.Operand.tmp 17))⟩]
def r27_3 : List COp := [⟨none, some 18, (Go.Op.move (Go.Operand.tmp 6))⟩,
  ⟨none, some 19, (Go.Op.binOp Go.BinOp.gtr 3 (Go.Operand.tmp 18) (Go.Operand.const (Go.Value.int Go.IntKind.i64 0)) 3)⟩,
  ⟨none, some 20, (Go.Op.move (Go.Operand.tmp 19))⟩,
  ⟨(some (some 20, true)), some 21, (Go.Op.move (Go.Operand.tmp 0))⟩,
  ⟨(some (some 20, true)), some 22, (Go.Op.fieldAddr 46 (Go.Operand.tmp 5) 4)⟩,
  ⟨(some (some 20, true)), some 23, (Go.Op.load 44 (Go.Operand.tmp 22))⟩,
  ⟨(some (some 20, true)), some 24, (Go.Op.move (Go.Operand.tmp 6))⟩,
  ⟨(some (some 20, true)), some 25, (Go.Op.binOp Go.BinOp.sub 3 (Go.Operand.tmp 24) (Go.Operand.const (Go.Value.int Go.IntKind.i64 1)) 3)⟩,
  ⟨(some (some 20, true)), some 26, (Go.Op.indexAddr 44 (Go.Operand.tmp 23) (Go.Operand.tmp 25))⟩,
  ⟨(some (some 20, true)), some 27, (Go.Op.load 3 (Go.Operand.tmp 26))⟩,
  ⟨(some (some 20, true)), some 28, (Go.Op.call { callee := (Go.Callee.value (Go.Operand.func 26)), args := #[(Go.Operand.tmp 21), (Go.Operand.tmp 27)], argTypes := #[54, 3] })⟩,
  ⟨none, some 29, (Go.Op.pick (Go.Operand.tmp 20) (Go.Operand.tmp 28) (Go.Operand.const (Go.Value.bool false)))⟩]
def r27_4 : List COpD := [⟨none, some 30, (Go.Op.fieldAddr 46 (Go.Operand.tmp 5) 1), .pure, false, true⟩,
  ⟨none, some 31, (Go.Op.load 3 (Go.Operand.tmp 30)), .look, false, true⟩,
  ⟨none, some 32, (Go.Op.move (Go.Operand.tmp 0)), .pure, false, true⟩,
  ⟨none, some 33, (Go.Op.nilCheck (Go.Operand.tmp 32)), .pure, false, true⟩,
  ⟨none, some 34, (Go.Op.fieldAddr 58 (Go.Operand.tmp 33) 0), .pure, false, true⟩,
  ⟨none, some 35, (Go.Op.fieldAddr 27 (Go.Operand.tmp 34) 0), .pure, false, true⟩,
  ⟨none, some 36, (Go.Op.load 25 (Go.Operand.tmp 35)), .look, false, true⟩,
  ⟨none, some 37, (Go.Op.fieldAddr 46 (Go.Operand.tmp 5) 4), .pure, false, true⟩,
  ⟨none, some 38, (Go.Op.load 44 (Go.Operand.tmp 37)), .look, false, true⟩,
  ⟨none, some 39, (Go.Op.move (Go.Operand.tmp 6)), .pure, false, true⟩,
  ⟨none, some 40, (Go.Op.binOp Go.BinOp.sub 3 (Go.Operand.tmp 39) (Go.Operand.const (Go.Value.int Go.IntKind.i64 1)) 3), .pure, false, true⟩,
  ⟨none, some 41, (Go.Op.indexAddr 44 (Go.Operand.tmp 38) (Go.Operand.tmp 40)), .pure, false, true⟩,
  ⟨none, some 42, (Go.Op.load 3 (Go.Operand.tmp 41)), .look, false, true⟩,
  ⟨none, some 43, (Go.Op.indexAddr 25 (Go.Operand.tmp 36) (Go.Operand.tmp 42)), .pure, false, true⟩,
  ⟨none, some 44, (Go.Op.fieldAddr 46 (Go.Operand.tmp 43) 2), .pure, false, true⟩,
  ⟨none, some 45, (Go.Op.load 3 (Go.Operand.tmp 44)), .look, false, true⟩,
  ⟨none, some 46, (Go.Op.call { callee := (Go.Callee.builtin Go.Builtin.max), args := #[(Go.Operand.tmp 31), (Go.Operand.tmp 45)], argTypes := #[3, 3] }), .pure, true, true⟩,
  ⟨none, some 4, (Go.Op.assign (Go.Operand.tmp 46)), .pure, true, true⟩]
def r27_5 : List COp := [⟨none, some 47, (Go.Op.fieldAddr 46 (Go.Operand.tmp 5) 1)⟩,
  ⟨none, some 48, (Go.Op.load 3 (Go.Operand.tmp 47))⟩,
  ⟨none, some 4, (Go.Op.assign (Go.Operand.tmp 48))⟩]
def arena_forest_end (F : Nat) (a0 : arena_forest) (a1 : Int) : Option Int :=
  if 0 ≤ a1 ∧ a1 < (a0.Tree.Nodes.length : Int) then
    (a0.Tree.Nodes[a1.toNat]?).bind fun x2113 =>
    ((if (0 : Int) < (x2113.Kids.length : Int) then
        if 0 ≤ (w64 ((x2113.Kids.length : Int) - 1)) ∧ (w64 ((x2113.Kids.length : Int) - 1)) < (x2113.Kids.length : Int) then
          (x2113.Kids[(w64 ((x2113.Kids.length : Int) - 1)).toNat]?).bind fun x2275 =>
          (arena_forest_has F a0 x2275).bind fun r2281 =>
          if r2281 = true then
            if 0 ≤ (w64 ((x2113.Kids.length : Int) - 1)) ∧ (w64 ((x2113.Kids.length : Int) - 1)) < (x2113.Kids.length : Int) then
              (x2113.Kids[(w64 ((x2113.Kids.length : Int) - 1)).toNat]?).bind fun x2298 =>
              if 0 ≤ x2298 ∧ x2298 < (a0.Tree.Nodes.length : Int) then
                (a0.Tree.Nodes[x2298.toNat]?).bind fun x2305 =>
                some (.inr (imax x2113.From x2305.To))
              else none
            else none
          else
            some (.inl (x2113.Kind, x2113.From, x2113.To, x2113.Up, x2113.Kids, x2113.Key))
        else none
      else
        some (.inl (x2113.Kind, x2113.From, x2113.To, x2113.Up, x2113.Kids, x2113.Key))) : Option (Sum (Int × Int × Int × Int × (List Int) × Bool) Int)).bind fun o => match o with
      | .inl (x2316, x2317, x2318, x2319, x2320, x2323) => some x2317
      | .inr y => some y
  else none
theorem arena_forest_end_ok (F : Nat) {h : AH} {Z : Zn} {a0 : arena_forest} {a1 : Int} {b1937 : Nat} {v1939 : Value} {c1940 : List Value} (hP : Pre Z h [.blk b1937 [v1939], .gs v1939 c1940 (csz api_Node)]) (q1938 : RCs (α := api_Node) Z c1940 a0.Tree.Nodes) {r : Int} (hm : arena_forest_end F a0 a1 = some r) :
    ∃ v h' Z' A', callI Go.Proofs.Try.prog 27 [.pointer (some ⟨b1937, 0, none⟩), .int .i64 a1] h = some (v, h') ∧ St h (idsL [.blk b1937 [v1939], .gs v1939 c1940 (csz api_Node)]) Z (0, 0) Z' h' A' ∧ .int .i64 r = v ∧ A' = [.blk b1937 [v1939], .gs v1939 c1940 (csz api_Node)] := by
  refine fn_intro (A := [.blk b1937 [v1939], .gs v1939 c1940 (csz api_Node)]) (Q := fun v Z' A' => .int .i64 r = v ∧ A' = [.blk b1937 [v1939], .gs v1939 c1940 (csz api_Node)]) Go.Proofs.Try.func27 rfl rfl (by kernel_rfl) hP ?_
  intro hs hS
  unfold arena_forest_end at hm
  refine W_seq (by kernel_rfl) ?_
  refine W_region (R := r27_0) (by kernel_rfl) ?_
  refine r_run 1 (l' := [(4, .int .i64 0), (0, .pointer (some ⟨b1937, 0, none⟩)), (1, .int .i64 a1)]) (by kernel_rfl) ?_
  refine r_forget [0, 1] (l' := [(0, .pointer (some ⟨b1937, 0, none⟩)), (1, .int .i64 a1)]) (by kernel_rfl) ?_
  refine r_end rfl ?_
  refine W_seq (by kernel_rfl) ?_
  refine W_region (R := r27_1) (by kernel_rfl) ?_
  refine r_run 4 (l' := [(10, .pointer (some ⟨b1937, 0, none⟩)), (9, .pointer (some ⟨b1937, 0, none⟩)), (8, .pointer (some ⟨b1937, 0, none⟩)), (7, .pointer (some ⟨b1937, 0, none⟩)), (0, .pointer (some ⟨b1937, 0, none⟩)), (1, .int .i64 a1)]) (by kernel_rfl) ?_
  refine r_step rfl trivial (o_ldb (v := v1939) hS (i := 0) rfl rfl (by kernel_rfl)) ?_
  refine r_run 1 (l' := [(12, .int .i64 a1), (11, v1939), (10, .pointer (some ⟨b1937, 0, none⟩)), (9, .pointer (some ⟨b1937, 0, none⟩)), (8, .pointer (some ⟨b1937, 0, none⟩)), (7, .pointer (some ⟨b1937, 0, none⟩)), (0, .pointer (some ⟨b1937, 0, none⟩)), (1, .int .i64 a1)]) (by kernel_rfl) ?_
  obtain ⟨hc2112, hm⟩ := chk hm
  refine r_step rfl trivial (o_index rfl rfl (by kernel_rfl : slTy _ _ = some (csz api_Node)) (hS.gbased (j := 1) rfl q1938 (by omega)) hc2112.1 hc2112.2) ?_
  obtain ⟨x2113, hx2114, hm⟩ := obind hm
  obtain ⟨cs2115, hc2116, he2117, ht2118⟩ := hS.gel (j := 1) rfl q1938 (i := a1) hx2114
  obtain ⟨v2119, q2120, rfl⟩ := rc_api_Node hc2116
  refine r_step rfl trivial (o_lde (w := .agg #[.int .i64 x2113.Kind, .int .i64 x2113.From, .int .i64 x2113.To, .int .i64 x2113.Up, v2119, .bool x2113.Key]) he2117 rfl (by kernel_rfl)) ?_
  refine r_blk rfl trivial (o_alloc (cs := [.int .i64 0, .int .i64 0, .int .i64 0, .int .i64 0, .slice none 0 0, .bool false]) (by kernel_rfl)) hS ?_
  intro b2121 h2122 hS2123
  refine r_ex1 rfl trivial (o_stb (vs := [.int .i64 x2113.Kind, .int .i64 x2113.From, .int .i64 x2113.To, .int .i64 x2113.Up, v2119, .bool x2113.Key]) (cells' := [.int .i64 x2113.Kind, .int .i64 x2113.From, .int .i64 x2113.To, .int .i64 x2113.Up, v2119, .bool x2113.Key]) (L' := [.blk b2121 [.int .i64 x2113.Kind, .int .i64 x2113.From, .int .i64 x2113.To, .int .i64 x2113.Up, v2119, .bool x2113.Key], .blk b1937 [v1939], .gs v1939 c1940 (csz api_Node)]) hS2123 (i := 0) rfl rfl rfl rfl (by kernel_rfl) (one_cons rfl (one_cons rfl (one_cons rfl (one_cons rfl (one_cons (RS.one1 q2120) (one_cons rfl one_nil)))))) rfl rfl rfl) ?_
  intro h2124 hS2125
  refine r_forget [5, 0] (l' := [(5, .pointer (some ⟨b2121, 0, none⟩)), (0, .pointer (some ⟨b1937, 0, none⟩))]) (by kernel_rfl) ?_
  refine r_end rfl ?_
  refine W_seq (by kernel_rfl) ?_
  refine W_seq (by kernel_rfl) ?_
  refine W_region (R := r27_2) (by kernel_rfl) ?_
  refine r_run 1 (l' := [(15, .pointer (some ⟨b2121, 4, none⟩)), (5, .pointer (some ⟨b2121, 0, none⟩)), (0, .pointer (some ⟨b1937, 0, none⟩))]) (by kernel_rfl) ?_
  refine r_step rfl trivial (o_ldb (v := v2119) hS2125 (i := 0) rfl rfl (by kernel_rfl)) ?_
  refine r_step rfl trivial (o_len rfl (RS.len q2120) ⟨_, Go.Proofs.Try.underlying44⟩) ?_
  refine r_run 1 (l' := [(6, .int .i64 (x2113.Kids.length : Int)), (17, .int .i64 (x2113.Kids.length : Int)), (16, v2119), (15, .pointer (some ⟨b2121, 4, none⟩)), (5, .pointer (some ⟨b2121, 0, none⟩)), (0, .pointer (some ⟨b1937, 0, none⟩))]) (by kernel_rfl) ?_
  refine r_forget [6, 5, 0] (l' := [(6, .int .i64 (x2113.Kids.length : Int)), (5, .pointer (some ⟨b2121, 0, none⟩)), (0, .pointer (some ⟨b1937, 0, none⟩))]) (by kernel_rfl) ?_
  refine r_end rfl ?_
  obtain ⟨o2272, ho2271, hm⟩ := obind hm
  refine W_seqJoin0 [5] (fun l h => ∃ Z2314 : Zn, ∃ x2316 : Int, ∃ x2317 : Int, ∃ x2318 : Int, ∃ x2319 : Int, ∃ x2320 : List Int, ∃ x2323 : Bool, ∃ b2315 : Nat, ∃ v2322 : Value, .inl (x2316, x2317, x2318, x2319, x2320, x2323) = o2272 ∧ RS (α := Int) Z2314 v2322 x2320 ∧ l = [(5, .pointer (some ⟨b2315, 0, none⟩))] ∧ St hs (idsL [.blk b1937 [v1939], .gs v1939 c1940 (csz api_Node)]) Z (0, 0) Z2314 h [.blk b1937 [v1939], .gs v1939 c1940 (csz api_Node), .blk b2315 [.int .i64 x2316, .int .i64 x2317, .int .i64 x2318, .int .i64 x2319, v2322, .bool x2323]]) (by kernel_rfl) ?_ ?_
  · rintro l h2324 ⟨Z2314, x2316, x2317, x2318, x2319, x2320, x2323, b2315, v2322, rfl, q2321, rfl, hS2325⟩
    try dsimp only at hm
    refine W_seq (by kernel_rfl) ?_
    refine W_region (R := r27_5) (by kernel_rfl) ?_
    refine r_run 1 (l' := [(47, .pointer (some ⟨b2315, 1, none⟩)), (5, .pointer (some ⟨b2315, 0, none⟩))]) (by kernel_rfl) ?_
    refine r_step rfl trivial (o_ldb (v := .int .i64 x2317) hS2325 (i := 2) rfl rfl (by kernel_rfl)) ?_
    refine r_run 1 (l' := [(4, .int .i64 x2317), (48, .int .i64 x2317), (47, .pointer (some ⟨b2315, 1, none⟩)), (5, .pointer (some ⟨b2315, 0, none⟩))]) (by kernel_rfl) ?_
    refine r_forget [4] (l' := [(4, .int .i64 x2317)]) (by kernel_rfl) ?_
    refine r_end rfl ?_
    refine W_ret (by kernel_rfl) ?_
    refine ⟨rfl, ?_⟩
    obtain rfl := Option.some.inj hm
    refine ⟨_, _, _, ResL.tmp rfl (ResL.nil), (hS2325.takeN 2), ?_⟩
    exact ⟨rfl, rfl⟩
  · refine W_region (R := r27_3) (by kernel_rfl) ?_
    refine r_run 1 (l' := [(18, .int .i64 (x2113.Kids.length : Int)), (6, .int .i64 (x2113.Kids.length : Int)), (5, .pointer (some ⟨b2121, 0, none⟩)), (0, .pointer (some ⟨b1937, 0, none⟩))]) (by kernel_rfl) ?_
    rcases ifs ho2271 with ⟨hp2273, ho2271⟩ | ⟨hp2273, ho2271⟩
    · refine r_step rfl trivial (o_cmp rfl rfl (c_gtr_T hp2273)) ?_
      refine r_run 3 (l' := [(22, .pointer (some ⟨b2121, 4, none⟩)), (21, .pointer (some ⟨b1937, 0, none⟩)), (20, .bool true), (19, .bool true), (18, .int .i64 (x2113.Kids.length : Int)), (6, .int .i64 (x2113.Kids.length : Int)), (5, .pointer (some ⟨b2121, 0, none⟩)), (0, .pointer (some ⟨b1937, 0, none⟩))]) (by kernel_rfl) ?_
      refine r_step rfl rfl (o_ldb (v := v2119) hS2125 (i := 0) rfl rfl (by kernel_rfl)) ?_
      refine r_run 2 (l' := [(25, .int .i64 (w64 ((x2113.Kids.length : Int) - 1))), (24, .int .i64 (x2113.Kids.length : Int)), (23, v2119), (22, .pointer (some ⟨b2121, 4, none⟩)), (21, .pointer (some ⟨b1937, 0, none⟩)), (20, .bool true), (19, .bool true), (18, .int .i64 (x2113.Kids.length : Int)), (6, .int .i64 (x2113.Kids.length : Int)), (5, .pointer (some ⟨b2121, 0, none⟩)), (0, .pointer (some ⟨b1937, 0, none⟩))]) (by kernel_rfl) ?_
      obtain ⟨hc2274, ho2271⟩ := chk ho2271
      refine r_step rfl rfl (o_index rfl rfl (by kernel_rfl : slTy _ _ = some (csz Int)) (RS.based q2120 (by omega)) hc2274.1 hc2274.2) ?_
      obtain ⟨x2275, hx2276, ho2271⟩ := obind ho2271
      obtain ⟨cs2277, hc2278, he2279⟩ := RS.el q2120 hS2125.inv (i := w64 ((x2113.Kids.length : Int) - 1)) hx2276
      obtain rfl := rc_Int hc2278
      refine r_step rfl rfl (o_lde (w := .int .i64 x2275) he2279 rfl (by kernel_rfl)) ?_
      obtain ⟨r2281, hx2282, ho2271⟩ := obind ho2271
      have hSr2288 : St _ _ _ _ _ _ ([.blk b1937 [v1939], .gs v1939 c1940 (csz api_Node)] ++ [.blk b2121 [.int .i64 x2113.Kind, .int .i64 x2113.From, .int .i64 x2113.To, .int .i64 x2113.Up, v2119, .bool x2113.Key]]) := ((hS2125.front 2 rfl).front 2 rfl)
      obtain ⟨v2283, h2284, Z2289, A2291, hcl2285, hSc2286, rfl, rfl⟩ := arena_forest_has_ok F hSr2288.preL q1938 hx2282
      have hS2287 := hSr2288.call hSc2286
      have hZ2290 := hSc2286.zle
      replace hS2287 : St _ _ _ _ _ _ [.blk b1937 [v1939], .gs v1939 c1940 (csz api_Node), .blk b2121 [.int .i64 x2113.Kind, .int .i64 x2113.From, .int .i64 x2113.To, .int .i64 x2113.Up, v2119, .bool x2113.Key]] := hS2287
      refine r_step rfl rfl (o_call hcl2285 rfl rfl rfl) ?_
      refine r_run 1 (l' := [(29, .bool r2281), (28, .bool r2281), (27, .int .i64 x2275), (26, .pointer (some (elemA v2119 (w64 ((x2113.Kids.length : Int) - 1)) (csz Int) 0))), (25, .int .i64 (w64 ((x2113.Kids.length : Int) - 1))), (24, .int .i64 (x2113.Kids.length : Int)), (23, v2119), (22, .pointer (some ⟨b2121, 4, none⟩)), (21, .pointer (some ⟨b1937, 0, none⟩)), (20, .bool true), (19, .bool true), (18, .int .i64 (x2113.Kids.length : Int)), (6, .int .i64 (x2113.Kids.length : Int)), (5, .pointer (some ⟨b2121, 0, none⟩)), (0, .pointer (some ⟨b1937, 0, none⟩))]) (by kernel_rfl) ?_
      refine r_forget [29, 6, 5, 0] (l' := [(29, .bool r2281), (6, .int .i64 (x2113.Kids.length : Int)), (5, .pointer (some ⟨b2121, 0, none⟩)), (0, .pointer (some ⟨b1937, 0, none⟩))]) (by kernel_rfl) ?_
      refine r_end rfl ?_
      rcases ifs ho2271 with ⟨hp2292, ho2271⟩ | ⟨hp2292, ho2271⟩
      · refine W_condT (x := .tmp 29) (by kernel_rfl) rfl hp2292 ?_
        refine W_seq (by kernel_rfl) ?_
        refine W_regionD (R := r27_4) (by kernel_rfl) hS2287 ?_
        intro bs2293 h2294 hlv2296 hS2295
        refine d_run 1 (l' := [(30, .pointer (some ⟨b2121, 1, none⟩)), (29, .bool r2281), (6, .int .i64 (x2113.Kids.length : Int)), (5, .pointer (some ⟨b2121, 0, none⟩)), (0, .pointer (some ⟨b1937, 0, none⟩))]) (by kernel_rfl) ?_
        refine d_look rfl rfl trivial (o_ldb (v := .int .i64 x2113.From) hS2295 (i := 2) rfl rfl (by kernel_rfl)) ?_
        refine d_run 4 (l' := [(35, .pointer (some ⟨b1937, 0, none⟩)), (34, .pointer (some ⟨b1937, 0, none⟩)), (33, .pointer (some ⟨b1937, 0, none⟩)), (32, .pointer (some ⟨b1937, 0, none⟩)), (31, .int .i64 x2113.From), (30, .pointer (some ⟨b2121, 1, none⟩)), (29, .bool r2281), (6, .int .i64 (x2113.Kids.length : Int)), (5, .pointer (some ⟨b2121, 0, none⟩)), (0, .pointer (some ⟨b1937, 0, none⟩))]) (by kernel_rfl) ?_
        refine d_look rfl rfl trivial (o_ldb (v := v1939) hS2295 (i := 0) rfl rfl (by kernel_rfl)) ?_
        refine d_run 1 (l' := [(37, .pointer (some ⟨b2121, 4, none⟩)), (36, v1939), (35, .pointer (some ⟨b1937, 0, none⟩)), (34, .pointer (some ⟨b1937, 0, none⟩)), (33, .pointer (some ⟨b1937, 0, none⟩)), (32, .pointer (some ⟨b1937, 0, none⟩)), (31, .int .i64 x2113.From), (30, .pointer (some ⟨b2121, 1, none⟩)), (29, .bool r2281), (6, .int .i64 (x2113.Kids.length : Int)), (5, .pointer (some ⟨b2121, 0, none⟩)), (0, .pointer (some ⟨b1937, 0, none⟩))]) (by kernel_rfl) ?_
        refine d_look rfl rfl trivial (o_ldb (v := v2119) hS2295 (i := 2) rfl rfl (by kernel_rfl)) ?_
        refine d_run 2 (l' := [(40, .int .i64 (w64 ((x2113.Kids.length : Int) - 1))), (39, .int .i64 (x2113.Kids.length : Int)), (38, v2119), (37, .pointer (some ⟨b2121, 4, none⟩)), (36, v1939), (35, .pointer (some ⟨b1937, 0, none⟩)), (34, .pointer (some ⟨b1937, 0, none⟩)), (33, .pointer (some ⟨b1937, 0, none⟩)), (32, .pointer (some ⟨b1937, 0, none⟩)), (31, .int .i64 x2113.From), (30, .pointer (some ⟨b2121, 1, none⟩)), (29, .bool r2281), (6, .int .i64 (x2113.Kids.length : Int)), (5, .pointer (some ⟨b2121, 0, none⟩)), (0, .pointer (some ⟨b1937, 0, none⟩))]) (by kernel_rfl) ?_
        obtain ⟨hc2297, ho2271⟩ := chk ho2271
        refine d_val rfl trivial (o_index rfl rfl (by kernel_rfl : slTy _ _ = some (csz Int)) (RS.based (q2120.mono hZ2290) (by omega)) hc2297.1 hc2297.2) ?_
        obtain ⟨x2298, hx2299, ho2271⟩ := obind ho2271
        obtain ⟨cs2300, hc2301, he2302⟩ := RS.el (q2120.mono hZ2290) hS2295.inv (i := w64 ((x2113.Kids.length : Int) - 1)) hx2299
        obtain rfl := rc_Int hc2301
        refine d_look rfl rfl trivial (o_lde (w := .int .i64 x2298) he2302 rfl (by kernel_rfl)) ?_
        obtain ⟨hc2304, ho2271⟩ := chk ho2271
        refine d_val rfl trivial (o_index rfl rfl (by kernel_rfl : slTy _ _ = some (csz api_Node)) (hS2295.gbased (j := 1) rfl (q1938.mono hZ2290) (by omega)) hc2304.1 hc2304.2) ?_
        refine d_run 1 (l' := [(44, .pointer (some (elemA v1939 x2298 (csz api_Node) 2))), (43, .pointer (some (elemA v1939 x2298 (csz api_Node) 0))), (42, .int .i64 x2298), (41, .pointer (some (elemA v2119 (w64 ((x2113.Kids.length : Int) - 1)) (csz Int) 0))), (40, .int .i64 (w64 ((x2113.Kids.length : Int) - 1))), (39, .int .i64 (x2113.Kids.length : Int)), (38, v2119), (37, .pointer (some ⟨b2121, 4, none⟩)), (36, v1939), (35, .pointer (some ⟨b1937, 0, none⟩)), (34, .pointer (some ⟨b1937, 0, none⟩)), (33, .pointer (some ⟨b1937, 0, none⟩)), (32, .pointer (some ⟨b1937, 0, none⟩)), (31, .int .i64 x2113.From), (30, .pointer (some ⟨b2121, 1, none⟩)), (29, .bool r2281), (6, .int .i64 (x2113.Kids.length : Int)), (5, .pointer (some ⟨b2121, 0, none⟩)), (0, .pointer (some ⟨b1937, 0, none⟩))]) (by kernel_rfl) ?_
        obtain ⟨x2305, hx2306, ho2271⟩ := obind ho2271
        obtain ⟨cs2307, hc2308, he2309, ht2310⟩ := hS2295.gel (j := 1) rfl (q1938.mono hZ2290) (i := x2298) hx2306
        obtain ⟨v2311, q2312, rfl⟩ := rc_api_Node hc2308
        refine d_look rfl rfl trivial (o_lde (w := .int .i64 x2305.To) he2309 rfl (by kernel_rfl)) ?_
        refine d_run 2 (l' := [(4, .int .i64 (imax x2113.From x2305.To)), (46, .int .i64 (imax x2113.From x2305.To)), (45, .int .i64 x2305.To), (44, .pointer (some (elemA v1939 x2298 (csz api_Node) 2))), (43, .pointer (some (elemA v1939 x2298 (csz api_Node) 0))), (42, .int .i64 x2298), (41, .pointer (some (elemA v2119 (w64 ((x2113.Kids.length : Int) - 1)) (csz Int) 0))), (40, .int .i64 (w64 ((x2113.Kids.length : Int) - 1))), (39, .int .i64 (x2113.Kids.length : Int)), (38, v2119), (37, .pointer (some ⟨b2121, 4, none⟩)), (36, v1939), (35, .pointer (some ⟨b1937, 0, none⟩)), (34, .pointer (some ⟨b1937, 0, none⟩)), (33, .pointer (some ⟨b1937, 0, none⟩)), (32, .pointer (some ⟨b1937, 0, none⟩)), (31, .int .i64 x2113.From), (30, .pointer (some ⟨b2121, 1, none⟩)), (29, .bool r2281), (6, .int .i64 (x2113.Kids.length : Int)), (5, .pointer (some ⟨b2121, 0, none⟩)), (0, .pointer (some ⟨b1937, 0, none⟩))]) (by kernel_rfl) ?_
        refine d_forget [4] (l' := [(4, .int .i64 (imax x2113.From x2305.To))]) (by kernel_rfl) ?_
        refine d_end rfl ?_
        have hS2313 := hS2295.unres
        refine W_ret (by kernel_rfl) ?_
        refine ⟨rfl, ?_⟩
        obtain rfl := Option.some.inj ho2271
        obtain rfl := Option.some.inj hm
        refine ⟨_, _, _, ResL.tmp rfl (ResL.nil), (hS2313.takeN 2), ?_⟩
        exact ⟨rfl, rfl⟩
      · refine W_condF (x := .tmp 29) (by kernel_rfl) rfl (Bool.eq_false_iff.2 hp2292) ?_
        refine W_skip (by kernel_rfl) ?_
        obtain rfl := Option.some.inj ho2271
        exact ⟨_, x2113.Kind, x2113.From, x2113.To, x2113.Up, x2113.Kids, x2113.Key, b2121, v2119, rfl, (q2120.mono hZ2290), rfl, hS2287⟩
    · refine r_step rfl trivial (o_cmp rfl rfl (c_gtr_F hp2273)) ?_
      refine r_run 10 (l' := [(29, .bool false), (28, undef), (27, undef), (26, undef), (25, undef), (24, undef), (23, undef), (22, undef), (21, undef), (20, .bool false), (19, .bool false), (18, .int .i64 (x2113.Kids.length : Int)), (6, .int .i64 (x2113.Kids.length : Int)), (5, .pointer (some ⟨b2121, 0, none⟩)), (0, .pointer (some ⟨b1937, 0, none⟩))]) (by kernel_rfl) ?_
      refine r_forget [29, 6, 5, 0] (l' := [(29, .bool false), (6, .int .i64 (x2113.Kids.length : Int)), (5, .pointer (some ⟨b2121, 0, none⟩)), (0, .pointer (some ⟨b1937, 0, none⟩))]) (by kernel_rfl) ?_
      refine r_end rfl ?_
      refine W_condF (x := .tmp 29) (by kernel_rfl) rfl rfl ?_
      refine W_skip (by kernel_rfl) ?_
      obtain rfl := Option.some.inj ho2271
      exact ⟨_, x2113.Kind, x2113.From, x2113.To, x2113.Up, x2113.Kids, x2113.Key, b2121, v2119, rfl, q2120, rfl, (((hS2125.front 0 rfl).front 2 rfl).front 2 rfl)⟩

def r14_0 : List COp := [⟨none, some 5, (Go.Op.box 27 (Go.Operand.tmp 0))⟩,
  ⟨none, some 10, (Go.Op.alloc 27)⟩,
  ⟨none, some 11, (Go.Op.assign (Go.Operand.const (Go.Value.int Go.IntKind.i64 0)))⟩]
def r14_1 : List COp := [⟨none, some 14, (Go.Op.load 27 (Go.Operand.tmp 5))⟩,
  ⟨none, some 15, (Go.Op.call { callee := (Go.Callee.value (Go.Operand.func 25)), args := #[(Go.Operand.tmp 14)], argTypes := #[27] })⟩,
  ⟨none, some 12, (Go.Op.assign (Go.Operand.tmp 15))⟩]
def r14_2 : List COp := [⟨none, some 16, (Go.Op.move (Go.Operand.tmp 12))⟩,
  ⟨none, some 17, (Go.Op.move (Go.Operand.tmp 1))⟩,
  ⟨none, some 18, (Go.Op.call { callee := (Go.Callee.value (Go.Operand.func 26)), args := #[(Go.Operand.tmp 16), (Go.Operand.tmp 17)], argTypes := #[54, 3] })⟩,
  ⟨none, some 19, (Go.Op.unOp Go.UnOp.not 4 (Go.Operand.tmp 18))⟩,
  ⟨none, some 20, (Go.Op.move (Go.Operand.tmp 19))⟩,
  ⟨(some (some 20, false)), some 21, (Go.Op.move (Go.Operand.tmp 2))⟩,
  ⟨(some (some 20, false)), some 22, (Go.Op.binOp Go.BinOp.lss 3 (Go.Operand.tmp 21) (Go.Operand.const (Go.Value.int Go.IntKind.i64 1)) 3)⟩,
  ⟨none, some 23, (Go.Op.pick (Go.Operand.tmp 20) (Go.Operand.const (Go.Value.bool true)) (Go.Operand.tmp 22))⟩,
  ⟨none, some 24, (Go.Op.move (Go.Operand.tmp 23))⟩,
  ⟨(some (some 24, false)), some 25, (Go.Op.move (Go.Operand.tmp 2))⟩,
  ⟨(some (some 24, false)), some 26, (Go.Op.binOp Go.BinOp.gtr 3 (Go.Operand.tmp 25) (Go.Operand.const (Go.Value.int Go.IntKind.i64 11)) 3)⟩,
  ⟨none, some 27, (Go.Op.pick (Go.Operand.tmp 24) (Go.Operand.const (Go.Value.bool true)) (Go.Operand.tmp 26))⟩,
  ⟨none, some 28, (Go.Op.move (Go.Operand.tmp 27))⟩,
  ⟨(some (some 28, false)), some 29, (Go.Op.move (Go.Operand.tmp 3))⟩,
  ⟨(some (some 28, false)), some 30, (Go.Op.move (Go.Operand.tmp 4))⟩,
  ⟨(some (some 28, false)), some 31, (Go.Op.binOp Go.BinOp.gtr 3 (Go.Operand.tmp 29) (Go.Operand.tmp 30) 3)⟩,
  ⟨none, some 32, (Go.Op.pick (Go.Operand.tmp 28) (Go.Operand.const (Go.Value.bool true)) (Go.Operand.tmp 31))⟩,
  ⟨none, some 33, (Go.Op.move (Go.Operand.tmp 32))⟩,
  ⟨(some (some 33, false)), some 34, (Go.Op.move (Go.Operand.tmp 4))⟩,
  ⟨(some (some 33, false)), some 35, (Go.Op.move (Go.Operand.tmp 12))⟩,
  ⟨(some (some 33, false)), some 36, (Go.Op.nilCheck (Go.Operand.tmp 35))⟩,
  ⟨(some (some 33, false)), some 37, (Go.Op.fieldAddr 58 (Go.Operand.tmp 36) 0)⟩,
  ⟨(some (some 33, false)), some 38, (Go.Op.fieldAddr 27 (Go.Operand.tmp 37) 0)⟩,
  ⟨(some (some 33, false)), some 39, (Go.Op.load 25 (Go.Operand.tmp 38))⟩,
  ⟨(some (some 33, false)), some 40, (Go.Op.indexAddr 25 (Go.Operand.tmp 39) (Go.Operand.const (Go.Value.int Go.IntKind.i64 0)))⟩,
  ⟨(some (some 33, false)), some 41, (Go.Op.fieldAddr 46 (Go.Operand.tmp 40) 2)⟩,
  ⟨(some (some 33, false)), some 42, (Go.Op.load 3 (Go.Operand.tmp 41))⟩,
  ⟨(some (some 33, false)), some 43, (Go.Op.binOp Go.BinOp.gtr 3 (Go.Operand.tmp 34) (Go.Operand.tmp 42) 3)⟩,
  ⟨none, some 44, (Go.Op.pick (Go.Operand.tmp 33) (Go.Operand.const (Go.Value.bool true)) (Go.Operand.tmp 43))⟩,
  ⟨none, some 45, (Go.Op.move (Go.Operand.tmp 44))⟩,
  ⟨(some (some 45, false)), some 46, (Go.Op.move (Go.Operand.tmp 3))⟩,
  ⟨(some (some 45, false)), some 47, (Go.Op.move (Go.Operand.tmp 12))⟩,
  ⟨(some (some 45, false)), some 48, (Go.Op.move (Go.Operand.tmp 1))⟩,
  ⟨(some (some 45, false)), some 49, (Go.Op.call { callee := (Go.Callee.value (Go.Operand.func 27)), args := #[(Go.Operand.tmp 47), (Go.Operand.tmp 48)], argTypes := #[54, 3] })⟩,
  ⟨(some (some 45, false)), some 50, (Go.Op.binOp Go.BinOp.lss 3 (Go.Operand.tmp 46) (Go.Operand.tmp 49) 3)⟩,
  ⟨none, some 51, (Go.Op.pick (Go.Operand.tmp 45) (Go.Operand.const (Go.Value.bool true)) (Go.Operand.tmp 50))⟩]
def r14_3 : List COp := [⟨none, some 52, (Go.Op.move (Go.Operand.tmp 12))⟩,
  ⟨none, some 53, (Go.Op.nilCheck (Go.Operand.tmp 52))⟩,
  ⟨none, some 54, (Go.Op.fieldAddr 58 (Go.Operand.tmp 53) 0)⟩,
  ⟨none, some 55, (Go.Op.load 27 (Go.Operand.tmp 54))⟩,
  ⟨none, none, (Go.Op.store 27 (Go.Operand.tmp 10) (Go.Operand.tmp 55))⟩,
  ⟨none, some 11, (Go.Op.assign (Go.Operand.const (Go.Value.int Go.IntKind.i64 (-1))))⟩]
def r14_4 : List COp := [⟨none, some 56, (Go.Op.move (Go.Operand.tmp 12))⟩,
  ⟨none, some 57, (Go.Op.nilCheck (Go.Operand.tmp 56))⟩,
  ⟨none, some 58, (Go.Op.fieldAddr 58 (Go.Operand.tmp 57) 0)⟩,
  ⟨none, some 59, (Go.Op.fieldAddr 27 (Go.Operand.tmp 58) 0)⟩,
  ⟨none, some 60, (Go.Op.load 25 (Go.Operand.tmp 59))⟩,
  ⟨none, some 61, (Go.Op.call { callee := (Go.Callee.builtin Go.Builtin.len), args := #[(Go.Operand.tmp 60)], argTypes := #[25] })⟩,
  ⟨none, some 11, (Go.Op.assign (Go.Operand.tmp 61))⟩]
def r14_5 : List COp := [⟨none, some 62, (Go.Op.move (Go.Operand.tmp 12))⟩,
  ⟨none, some 63, (Go.Op.move (Go.Operand.tmp 12))⟩,
  ⟨none, some 64, (Go.Op.nilCheck (Go.Operand.tmp 63))⟩,
  ⟨none, some 65, (Go.Op.fieldAddr 58 (Go.Operand.tmp 64) 0)⟩,
  ⟨none, some 66, (Go.Op.fieldAddr 27 (Go.Operand.tmp 65) 0)⟩,
  ⟨none, some 67, (Go.Op.load 25 (Go.Operand.tmp 66))⟩,
  ⟨none, some 68, (Go.Op.move (Go.Operand.tmp 2))⟩,
  ⟨none, some 69, (Go.Op.move (Go.Operand.tmp 3))⟩,
  ⟨none, some 70, (Go.Op.move (Go.Operand.tmp 4))⟩,
  ⟨none, some 71, (Go.Op.move (Go.Operand.tmp 1))⟩,
  ⟨none, some 72, (Go.Op.build 46 #[(0, (Go.Operand.tmp 68)), (1, (Go.Operand.tmp 69)), (2, (Go.Operand.tmp 70)), (3, (Go.Operand.tmp 71))])⟩,
  ⟨none, some 73, (Go.Op.buildSlice 25 1 #[(0, (Go.Operand.tmp 72))])⟩,
  ⟨none, some 74, (Go.Op.call { callee := (Go.Callee.builtin Go.Builtin.append), args := #[(Go.Operand.tmp 67), (Go.Operand.tmp 73)], argTypes := #[25, 25] })⟩,
  ⟨none, some 75, (Go.Op.nilCheck (Go.Operand.tmp 62))⟩,
  ⟨none, some 76, (Go.Op.fieldAddr 58 (Go.Operand.tmp 75) 0)⟩,
  ⟨none, some 77, (Go.Op.fieldAddr 27 (Go.Operand.tmp 76) 0)⟩,
  ⟨none, none, (Go.Op.store 25 (Go.Operand.tmp 77) (Go.Operand.tmp 74))⟩]
def r14_6 : List COp := [⟨none, some 78, (Go.Op.move (Go.Operand.tmp 12))⟩,
  ⟨none, some 79, (Go.Op.nilCheck (Go.Operand.tmp 78))⟩,
  ⟨none, some 80, (Go.Op.fieldAddr 58 (Go.Operand.tmp 79) 0)⟩,
  ⟨none, some 81, (Go.Op.fieldAddr 27 (Go.Operand.tmp 80) 0)⟩,
  ⟨none, some 82, (Go.Op.load 25 (Go.Operand.tmp 81))⟩,
  ⟨none, some 83, (Go.Op.move (Go.Operand.tmp 1))⟩,
  ⟨none, some 84, (Go.Op.indexAddr 25 (Go.Operand.tmp 82) (Go.Operand.tmp 83))⟩,
  ⟨none, some 85, (Go.Op.fieldAddr 46 (Go.Operand.tmp 84) 4)⟩,
  ⟨none, some 86, (Go.Op.load 44 (Go.Operand.tmp 85))⟩,
  ⟨none, some 13, (Go.Op.assign (Go.Operand.tmp 86))⟩]
def r14_7 : List COpD := [⟨none, some 87, (Go.Op.move (Go.Operand.tmp 12)), .pure, true, false⟩,
  ⟨none, some 88, (Go.Op.nilCheck (Go.Operand.tmp 87)), .pure, true, false⟩,
  ⟨none, some 89, (Go.Op.fieldAddr 58 (Go.Operand.tmp 88) 0), .pure, true, false⟩,
  ⟨none, some 90, (Go.Op.fieldAddr 27 (Go.Operand.tmp 89) 0), .pure, true, false⟩,
  ⟨none, some 91, (Go.Op.load 25 (Go.Operand.tmp 90)), .look, false, false⟩,
  ⟨none, some 92, (Go.Op.move (Go.Operand.tmp 1)), .pure, false, false⟩,
  ⟨none, some 93, (Go.Op.move (Go.Operand.tmp 13)), .pure, false, true⟩,
  ⟨none, some 94, (Go.Op.move (Go.Operand.tmp 13)), .pure, false, true⟩,
  ⟨none, some 95, (Go.Op.call { callee := (Go.Callee.builtin Go.Builtin.len), args := #[(Go.Operand.tmp 94)], argTypes := #[44] }), .pure, false, true⟩,
  ⟨none, some 96, (Go.Op.move (Go.Operand.tmp 13)), .pure, false, true⟩,
  ⟨none, some 97, (Go.Op.call { callee := (Go.Callee.builtin Go.Builtin.len), args := #[(Go.Operand.tmp 96)], argTypes := #[44] }), .pure, false, true⟩,
  ⟨none, some 98, (Go.Op.slice 44 (Go.Operand.tmp 93) none (some (Go.Operand.tmp 95)) (some (Go.Operand.tmp 97))), .pure, false, true⟩,
  ⟨none, some 99, (Go.Op.move (Go.Operand.tmp 11)), .pure, false, true⟩,
  ⟨none, some 100, (Go.Op.buildSlice 44 1 #[(0, (Go.Operand.tmp 99))]), .fresh, false, true⟩,
  ⟨none, some 101, (Go.Op.call { callee := (Go.Callee.builtin Go.Builtin.append), args := #[(Go.Operand.tmp 98), (Go.Operand.tmp 100)], argTypes := #[44, 44] }), .make, false, false⟩,
  ⟨none, some 102, (Go.Op.indexAddr 25 (Go.Operand.tmp 91) (Go.Operand.tmp 92)), .pure, true, true⟩,
  ⟨none, some 103, (Go.Op.fieldAddr 46 (Go.Operand.tmp 102) 4), .pure, true, true⟩,
  ⟨none, none, (Go.Op.store 44 (Go.Operand.tmp 103) (Go.Operand.tmp 101)), .make, true, false⟩]
def r14_8 : List COp := [⟨none, some 104, (Go.Op.move (Go.Operand.tmp 12))⟩,
  ⟨none, some 105, (Go.Op.move (Go.Operand.tmp 1))⟩,
  ⟨none, some 106, (Go.Op.move (Go.Operand.tmp 4))⟩,
  ⟨none, some 107, (Go.Op.call { callee := (Go.Callee.value (Go.Operand.func 28)), args := #[(Go.Operand.tmp 104), (Go.Operand.tmp 105), (Go.Operand.tmp 106)], argTypes := #[54, 3, 3] })⟩]
def r14_9 : List COp := [⟨none, some 108, (Go.Op.move (Go.Operand.tmp 12))⟩,
  ⟨none, some 109, (Go.Op.nilCheck (Go.Operand.tmp 108))⟩,
  ⟨none, some 110, (Go.Op.fieldAddr 58 (Go.Operand.tmp 109) 0)⟩,
  ⟨none, some 111, (Go.Op.load 27 (Go.Operand.tmp 110))⟩,
  ⟨none, some 112, (Go.Op.move (Go.Operand.tmp 11))⟩,
  ⟨none, none, (Go.Op.store 27 (Go.Operand.tmp 10) (Go.Operand.tmp 111))⟩,
  ⟨none, some 11, (Go.Op.assign (Go.Operand.tmp 112))⟩]
def arena_Add (F : Nat) (a0 : arena_Tree) (a1 : Int) (a2 : Int) (a3 : Int) (a4 : Int) : Option (arena_Tree × Int) :=
  (arena_own F a0).bind fun r2608 =>
  (arena_forest_has F r2608 a1).bind fun r2782 =>
  if r2782 = true then
    if a2 < (1 : Int) then
      some (r2608.Tree, (-1))
    else
      if (11 : Int) < a2 then
        some (r2608.Tree, (-1))
      else
        if a4 < a3 then
          some (r2608.Tree, (-1))
        else
          if 0 ≤ (0 : Int) ∧ (0 : Int) < (r2608.Tree.Nodes.length : Int) then
            (r2608.Tree.Nodes[(0 : Int).toNat]?).bind fun x2810 =>
            if x2810.To < a4 then
              some (r2608.Tree, (-1))
            else
              (arena_forest_end F r2608 a1).bind fun r2823 =>
              if a3 < r2823 then
                some (r2608.Tree, (-1))
              else
                if r2608.Tree.Nodes.length + [(⟨a2, a3, a4, a1, [], false⟩ : api_Node)].length ≤ 2199023255552 then
                  if 0 ≤ a1 ∧ a1 < ((r2608.Tree.Nodes ++ [(⟨a2, a3, a4, a1, [], false⟩ : api_Node)]).length : Int) then
                    ((r2608.Tree.Nodes ++ [(⟨a2, a3, a4, a1, [], false⟩ : api_Node)])[a1.toNat]?).bind fun x2853 =>
                    if 0 ≤ (0 : Int) ∧ (0 : Int) ≤ (x2853.Kids.length : Int) ∧ (x2853.Kids.length : Int) ≤ (x2853.Kids.length : Int) then
                      if ((x2853.Kids.take (x2853.Kids.length : Int).toNat).drop (0 : Int).toNat).length + [(r2608.Tree.Nodes.length : Int)].length ≤ 17592186044416 ∧ 0 < [(r2608.Tree.Nodes.length : Int)].length then
                        if 0 ≤ a1 ∧ a1 < ((r2608.Tree.Nodes ++ [(⟨a2, a3, a4, a1, [], false⟩ : api_Node)]).length : Int) then
                          ((r2608.Tree.Nodes ++ [(⟨a2, a3, a4, a1, [], false⟩ : api_Node)])[a1.toNat]?).bind fun x2888 =>
                          (arena_forest_grow F (⟨(⟨(r2608.Tree.Nodes ++ [(⟨a2, a3, a4, a1, [], false⟩ : api_Node)]).set a1.toNat (⟨x2888.Kind, x2888.From, x2888.To, x2888.Up, ((x2853.Kids.take (x2853.Kids.length : Int).toNat).drop (0 : Int).toNat) ++ [(r2608.Tree.Nodes.length : Int)], x2888.Key⟩ : api_Node)⟩ : arena_Tree)⟩ : arena_forest) a1 a4).bind fun r2901 =>
                          some (r2901.Tree, (r2608.Tree.Nodes.length : Int))
                        else none
                      else none
                    else none
                  else none
                else none
          else none
  else
    some (r2608.Tree, (-1))
theorem arena_Add_ok (F : Nat) {h : AH} {Z : Zn} {a0 : arena_Tree} {a1 : Int} {a2 : Int} {a3 : Int} {a4 : Int} {v1882 : Value} (hP : Pre Z h []) (q1881 : RS (α := api_Node) Z v1882 a0.Nodes) {r : arena_Tree × Int} (hm : arena_Add F a0 a1 a2 a3 a4 = some r) :
    ∃ v h' Z' A', callI Go.Proofs.Try.prog 14 [.agg #[v1882], .int .i64 a1, .int .i64 a2, .int .i64 a3, .int .i64 a4] h = some (v, h') ∧ St h (idsL []) Z (0, 0) Z' h' A' ∧ ∃ v2600 : Value, ∃ c2601 : List Value, .tuple #[.agg #[v2600], .int .i64 r.2] = v ∧ A' = [.gs v2600 c2601 (csz api_Node)] ∧ RCs (α := api_Node) Z' c2601 r.1.Nodes := by
  refine fn_intro (A := []) (Q := fun v Z' A' => ∃ v2600 : Value, ∃ c2601 : List Value, .tuple #[.agg #[v2600], .int .i64 r.2] = v ∧ A' = [.gs v2600 c2601 (csz api_Node)] ∧ RCs (α := api_Node) Z' c2601 r.1.Nodes) Go.Proofs.Try.func14 rfl rfl (by kernel_rfl) hP ?_
  intro hs hS
  unfold arena_Add at hm
  replace hS : St hs [] Z (0, 0) Z hs [] := hS
  refine W_seq (by kernel_rfl) ?_
  refine W_region (R := r14_0) (by kernel_rfl) ?_
  refine r_blk rfl trivial (o_box (cs := [v1882]) rfl rfl) hS ?_
  intro b2602 h2603 hS2604
  refine r_blk rfl trivial (o_alloc (cs := [.slice none 0 0]) (by kernel_rfl)) hS2604 ?_
  intro b2605 h2606 hS2607
  refine r_run 1 (l' := [(11, .int .i64 0), (10, .pointer (some ⟨b2605, 0, none⟩)), (5, .pointer (some ⟨b2602, 0, none⟩)), (0, .agg #[v1882]), (1, .int .i64 a1), (2, .int .i64 a2), (3, .int .i64 a3), (4, .int .i64 a4)]) (by kernel_rfl) ?_
  refine r_forget [10, 5, 1, 2, 3, 4] (l' := [(10, .pointer (some ⟨b2605, 0, none⟩)), (5, .pointer (some ⟨b2602, 0, none⟩)), (1, .int .i64 a1), (2, .int .i64 a2), (3, .int .i64 a3), (4, .int .i64 a4)]) (by kernel_rfl) ?_
  refine r_end rfl ?_
  refine W_seq (by kernel_rfl) ?_
  refine W_region (R := r14_1) (by kernel_rfl) ?_
  refine r_step rfl trivial (o_ldb (v := .agg #[v1882]) hS2607 (i := 1) rfl rfl (by kernel_rfl)) ?_
  obtain ⟨r2608, hx2609, hm⟩ := obind hm
  have hSr2615 : St _ _ _ _ _ _ ([] ++ [.blk b2605 [.slice none 0 0], .blk b2602 [v1882]]) := hS2607
  obtain ⟨v2610, h2611, Z2616, A2618, hcl2612, hSc2613, b2619, v2621, c2622, rfl, rfl, q2620⟩ := arena_own_ok F hSr2615.preL q1881 hx2609
  have hS2614 := hSr2615.call hSc2613
  have hZ2617 := hSc2613.zle
  replace hS2614 : St _ _ _ _ _ _ [.blk b2619 [v2621], .gs v2621 c2622 (csz api_Node), .blk b2605 [.slice none 0 0], .blk b2602 [v1882]] := hS2614
  refine r_step rfl trivial (o_call hcl2612 rfl rfl rfl) ?_
  refine r_run 1 (l' := [(12, .pointer (some ⟨b2619, 0, none⟩)), (15, .pointer (some ⟨b2619, 0, none⟩)), (14, .agg #[v1882]), (10, .pointer (some ⟨b2605, 0, none⟩)), (5, .pointer (some ⟨b2602, 0, none⟩)), (1, .int .i64 a1), (2, .int .i64 a2), (3, .int .i64 a3), (4, .int .i64 a4)]) (by kernel_rfl) ?_
  refine r_forget [12, 10, 1, 2, 3, 4] (l' := [(12, .pointer (some ⟨b2619, 0, none⟩)), (10, .pointer (some ⟨b2605, 0, none⟩)), (1, .int .i64 a1), (2, .int .i64 a2), (3, .int .i64 a3), (4, .int .i64 a4)]) (by kernel_rfl) ?_
  refine r_end rfl ?_
  refine W_seq (by kernel_rfl) ?_
  refine W_seq (by kernel_rfl) ?_
  refine W_region (R := r14_2) (by kernel_rfl) ?_
  refine r_run 2 (l' := [(17, .int .i64 a1), (16, .pointer (some ⟨b2619, 0, none⟩)), (12, .pointer (some ⟨b2619, 0, none⟩)), (10, .pointer (some ⟨b2605, 0, none⟩)), (1, .int .i64 a1), (2, .int .i64 a2), (3, .int .i64 a3), (4, .int .i64 a4)]) (by kernel_rfl) ?_
  obtain ⟨r2782, hx2783, hm⟩ := obind hm
  have hSr2789 : St _ _ _ _ _ _ ([.blk b2619 [v2621], .gs v2621 c2622 (csz api_Node)] ++ [.blk b2605 [.slice none 0 0], .blk b2602 [v1882]]) := ((hS2614.front 1 rfl).front 1 rfl)
  obtain ⟨v2784, h2785, Z2790, A2792, hcl2786, hSc2787, rfl, rfl⟩ := arena_forest_has_ok F hSr2789.preL q2620 hx2783
  have hS2788 := hSr2789.call hSc2787
  have hZ2791 := hSc2787.zle
  replace hS2788 : St _ _ _ _ _ _ [.blk b2619 [v2621], .gs v2621 c2622 (csz api_Node), .blk b2605 [.slice none 0 0], .blk b2602 [v1882]] := hS2788
  refine r_step rfl trivial (o_call hcl2786 rfl rfl rfl) ?_
  rcases ifs hm with ⟨hp2793, hm⟩ | ⟨hp2793, hm⟩
  · refine r_setb (t := 18) rfl hp2793 ?_
    refine r_run 3 (l' := [(21, .int .i64 a2), (20, .bool false), (19, .bool false), (18, .bool true), (18, .bool r2782), (17, .int .i64 a1), (16, .pointer (some ⟨b2619, 0, none⟩)), (12, .pointer (some ⟨b2619, 0, none⟩)), (10, .pointer (some ⟨b2605, 0, none⟩)), (1, .int .i64 a1), (2, .int .i64 a2), (3, .int .i64 a3), (4, .int .i64 a4)]) (by kernel_rfl) ?_
    rcases ifs hm with ⟨hp2794, hm⟩ | ⟨hp2794, hm⟩
    · refine r_step rfl rfl (o_cmp rfl rfl (c_lss_T hp2794)) ?_
      refine r_run 29 (l' := [(51, .bool true), (50, undef), (49, undef), (48, undef), (47, undef), (46, undef), (45, .bool true), (44, .bool true), (43, undef), (42, undef), (41, undef), (40, undef), (39, undef), (38, undef), (37, undef), (36, undef), (35, undef), (34, undef), (33, .bool true), (32, .bool true), (31, undef), (30, undef), (29, undef), (28, .bool true), (27, .bool true), (26, undef), (25, undef), (24, .bool true), (23, .bool true), (22, .bool true), (21, .int .i64 a2), (20, .bool false), (19, .bool false), (18, .bool true), (18, .bool r2782), (17, .int .i64 a1), (16, .pointer (some ⟨b2619, 0, none⟩)), (12, .pointer (some ⟨b2619, 0, none⟩)), (10, .pointer (some ⟨b2605, 0, none⟩)), (1, .int .i64 a1), (2, .int .i64 a2), (3, .int .i64 a3), (4, .int .i64 a4)]) (by kernel_rfl) ?_
      refine r_forget [51, 12, 10, 1, 2, 3, 4] (l' := [(51, .bool true), (12, .pointer (some ⟨b2619, 0, none⟩)), (10, .pointer (some ⟨b2605, 0, none⟩)), (1, .int .i64 a1), (2, .int .i64 a2), (3, .int .i64 a3), (4, .int .i64 a4)]) (by kernel_rfl) ?_
      refine r_end rfl ?_
      refine W_condT (x := .tmp 51) (by kernel_rfl) rfl rfl ?_
      refine W_seq (by kernel_rfl) ?_
      refine W_region (R := r14_3) (by kernel_rfl) ?_
      refine r_run 3 (l' := [(54, .pointer (some ⟨b2619, 0, none⟩)), (53, .pointer (some ⟨b2619, 0, none⟩)), (52, .pointer (some ⟨b2619, 0, none⟩)), (51, .bool true), (12, .pointer (some ⟨b2619, 0, none⟩)), (10, .pointer (some ⟨b2605, 0, none⟩)), (1, .int .i64 a1), (2, .int .i64 a2), (3, .int .i64 a3), (4, .int .i64 a4)]) (by kernel_rfl) ?_
      refine r_step rfl trivial (o_ldb (v := .agg #[v2621]) hS2788 (i := 0) rfl rfl (by kernel_rfl)) ?_
      refine r_ex1 rfl trivial (o_stb (vs := [v2621]) (cells' := [v2621]) (L' := [.blk b2619 [v2621], .gs v2621 c2622 (csz api_Node), .blk b2605 [v2621], .blk b2602 [v1882]]) hS2788 (i := 2) rfl rfl rfl rfl (by kernel_rfl) (one_cons (hS2788.gone1 (i := 1) rfl) one_nil) rfl rfl rfl) ?_
      intro h2797 hS2798
      refine r_run 1 (l' := [(11, .int .i64 (-1)), (55, .agg #[v2621]), (54, .pointer (some ⟨b2619, 0, none⟩)), (53, .pointer (some ⟨b2619, 0, none⟩)), (52, .pointer (some ⟨b2619, 0, none⟩)), (51, .bool true), (12, .pointer (some ⟨b2619, 0, none⟩)), (10, .pointer (some ⟨b2605, 0, none⟩)), (1, .int .i64 a1), (2, .int .i64 a2), (3, .int .i64 a3), (4, .int .i64 a4)]) (by kernel_rfl) ?_
      refine r_forget [11, 10] (l' := [(11, .int .i64 (-1)), (10, .pointer (some ⟨b2605, 0, none⟩))]) (by kernel_rfl) ?_
      refine r_end rfl ?_
      refine W_ret (by kernel_rfl) ?_
      refine ⟨rfl, ?_⟩
      obtain rfl := Option.some.inj hm
      refine ⟨_, _, _, ResL.cell (v := .agg #[v2621]) rfl hS2798 (i := 2) rfl (by kernel_rfl) (ResL.tmp rfl (ResL.nil)), ((hS2798.front 1 rfl).takeN 1), ?_⟩
      exact ⟨v2621, c2622, rfl, rfl, (q2620.mono hZ2791)⟩
    · refine r_step rfl rfl (o_cmp rfl rfl (c_lss_F hp2794)) ?_
      refine r_run 3 (l' := [(25, .int .i64 a2), (24, .bool false), (23, .bool false), (22, .bool false), (21, .int .i64 a2), (20, .bool false), (19, .bool false), (18, .bool true), (18, .bool r2782), (17, .int .i64 a1), (16, .pointer (some ⟨b2619, 0, none⟩)), (12, .pointer (some ⟨b2619, 0, none⟩)), (10, .pointer (some ⟨b2605, 0, none⟩)), (1, .int .i64 a1), (2, .int .i64 a2), (3, .int .i64 a3), (4, .int .i64 a4)]) (by kernel_rfl) ?_
      rcases ifs hm with ⟨hp2799, hm⟩ | ⟨hp2799, hm⟩
      · refine r_step rfl rfl (o_cmp rfl rfl (c_gtr_T hp2799)) ?_
        refine r_run 25 (l' := [(51, .bool true), (50, undef), (49, undef), (48, undef), (47, undef), (46, undef), (45, .bool true), (44, .bool true), (43, undef), (42, undef), (41, undef), (40, undef), (39, undef), (38, undef), (37, undef), (36, undef), (35, undef), (34, undef), (33, .bool true), (32, .bool true), (31, undef), (30, undef), (29, undef), (28, .bool true), (27, .bool true), (26, .bool true), (25, .int .i64 a2), (24, .bool false), (23, .bool false), (22, .bool false), (21, .int .i64 a2), (20, .bool false), (19, .bool false), (18, .bool true), (18, .bool r2782), (17, .int .i64 a1), (16, .pointer (some ⟨b2619, 0, none⟩)), (12, .pointer (some ⟨b2619, 0, none⟩)), (10, .pointer (some ⟨b2605, 0, none⟩)), (1, .int .i64 a1), (2, .int .i64 a2), (3, .int .i64 a3), (4, .int .i64 a4)]) (by kernel_rfl) ?_
        refine r_forget [51, 12, 10, 1, 2, 3, 4] (l' := [(51, .bool true), (12, .pointer (some ⟨b2619, 0, none⟩)), (10, .pointer (some ⟨b2605, 0, none⟩)), (1, .int .i64 a1), (2, .int .i64 a2), (3, .int .i64 a3), (4, .int .i64 a4)]) (by kernel_rfl) ?_
        refine r_end rfl ?_
        refine W_condT (x := .tmp 51) (by kernel_rfl) rfl rfl ?_
        refine W_seq (by kernel_rfl) ?_
        refine W_region (R := r14_3) (by kernel_rfl) ?_
        refine r_run 3 (l' := [(54, .pointer (some ⟨b2619, 0, none⟩)), (53, .pointer (some ⟨b2619, 0, none⟩)), (52, .pointer (some ⟨b2619, 0, none⟩)), (51, .bool true), (12, .pointer (some ⟨b2619, 0, none⟩)), (10, .pointer (some ⟨b2605, 0, none⟩)), (1, .int .i64 a1), (2, .int .i64 a2), (3, .int .i64 a3), (4, .int .i64 a4)]) (by kernel_rfl) ?_
        refine r_step rfl trivial (o_ldb (v := .agg #[v2621]) hS2788 (i := 0) rfl rfl (by kernel_rfl)) ?_
        refine r_ex1 rfl trivial (o_stb (vs := [v2621]) (cells' := [v2621]) (L' := [.blk b2619 [v2621], .gs v2621 c2622 (csz api_Node), .blk b2605 [v2621], .blk b2602 [v1882]]) hS2788 (i := 2) rfl rfl rfl rfl (by kernel_rfl) (one_cons (hS2788.gone1 (i := 1) rfl) one_nil) rfl rfl rfl) ?_
        intro h2802 hS2803
        refine r_run 1 (l' := [(11, .int .i64 (-1)), (55, .agg #[v2621]), (54, .pointer (some ⟨b2619, 0, none⟩)), (53, .pointer (some ⟨b2619, 0, none⟩)), (52, .pointer (some ⟨b2619, 0, none⟩)), (51, .bool true), (12, .pointer (some ⟨b2619, 0, none⟩)), (10, .pointer (some ⟨b2605, 0, none⟩)), (1, .int .i64 a1), (2, .int .i64 a2), (3, .int .i64 a3), (4, .int .i64 a4)]) (by kernel_rfl) ?_
        refine r_forget [11, 10] (l' := [(11, .int .i64 (-1)), (10, .pointer (some ⟨b2605, 0, none⟩))]) (by kernel_rfl) ?_
        refine r_end rfl ?_
        refine W_ret (by kernel_rfl) ?_
        refine ⟨rfl, ?_⟩
        obtain rfl := Option.some.inj hm
        refine ⟨_, _, _, ResL.cell (v := .agg #[v2621]) rfl hS2803 (i := 2) rfl (by kernel_rfl) (ResL.tmp rfl (ResL.nil)), ((hS2803.front 1 rfl).takeN 1), ?_⟩
        exact ⟨v2621, c2622, rfl, rfl, (q2620.mono hZ2791)⟩
      · refine r_step rfl rfl (o_cmp rfl rfl (c_gtr_F hp2799)) ?_
        refine r_run 4 (l' := [(30, .int .i64 a4), (29, .int .i64 a3), (28, .bool false), (27, .bool false), (26, .bool false), (25, .int .i64 a2), (24, .bool false), (23, .bool false), (22, .bool false), (21, .int .i64 a2), (20, .bool false), (19, .bool false), (18, .bool true), (18, .bool r2782), (17, .int .i64 a1), (16, .pointer (some ⟨b2619, 0, none⟩)), (12, .pointer (some ⟨b2619, 0, none⟩)), (10, .pointer (some ⟨b2605, 0, none⟩)), (1, .int .i64 a1), (2, .int .i64 a2), (3, .int .i64 a3), (4, .int .i64 a4)]) (by kernel_rfl) ?_
        rcases ifs hm with ⟨hp2804, hm⟩ | ⟨hp2804, hm⟩
        · refine r_step rfl rfl (o_cmp rfl rfl (c_gtr_T hp2804)) ?_
          refine r_run 20 (l' := [(51, .bool true), (50, undef), (49, undef), (48, undef), (47, undef), (46, undef), (45, .bool true), (44, .bool true), (43, undef), (42, undef), (41, undef), (40, undef), (39, undef), (38, undef), (37, undef), (36, undef), (35, undef), (34, undef), (33, .bool true), (32, .bool true), (31, .bool true), (30, .int .i64 a4), (29, .int .i64 a3), (28, .bool false), (27, .bool false), (26, .bool false), (25, .int .i64 a2), (24, .bool false), (23, .bool false), (22, .bool false), (21, .int .i64 a2), (20, .bool false), (19, .bool false), (18, .bool true), (18, .bool r2782), (17, .int .i64 a1), (16, .pointer (some ⟨b2619, 0, none⟩)), (12, .pointer (some ⟨b2619, 0, none⟩)), (10, .pointer (some ⟨b2605, 0, none⟩)), (1, .int .i64 a1), (2, .int .i64 a2), (3, .int .i64 a3), (4, .int .i64 a4)]) (by kernel_rfl) ?_
          refine r_forget [51, 12, 10, 1, 2, 3, 4] (l' := [(51, .bool true), (12, .pointer (some ⟨b2619, 0, none⟩)), (10, .pointer (some ⟨b2605, 0, none⟩)), (1, .int .i64 a1), (2, .int .i64 a2), (3, .int .i64 a3), (4, .int .i64 a4)]) (by kernel_rfl) ?_
          refine r_end rfl ?_
          refine W_condT (x := .tmp 51) (by kernel_rfl) rfl rfl ?_
          refine W_seq (by kernel_rfl) ?_
          refine W_region (R := r14_3) (by kernel_rfl) ?_
          refine r_run 3 (l' := [(54, .pointer (some ⟨b2619, 0, none⟩)), (53, .pointer (some ⟨b2619, 0, none⟩)), (52, .pointer (some ⟨b2619, 0, none⟩)), (51, .bool true), (12, .pointer (some ⟨b2619, 0, none⟩)), (10, .pointer (some ⟨b2605, 0, none⟩)), (1, .int .i64 a1), (2, .int .i64 a2), (3, .int .i64 a3), (4, .int .i64 a4)]) (by kernel_rfl) ?_
          refine r_step rfl trivial (o_ldb (v := .agg #[v2621]) hS2788 (i := 0) rfl rfl (by kernel_rfl)) ?_
          refine r_ex1 rfl trivial (o_stb (vs := [v2621]) (cells' := [v2621]) (L' := [.blk b2619 [v2621], .gs v2621 c2622 (csz api_Node), .blk b2605 [v2621], .blk b2602 [v1882]]) hS2788 (i := 2) rfl rfl rfl rfl (by kernel_rfl) (one_cons (hS2788.gone1 (i := 1) rfl) one_nil) rfl rfl rfl) ?_
          intro h2807 hS2808
          refine r_run 1 (l' := [(11, .int .i64 (-1)), (55, .agg #[v2621]), (54, .pointer (some ⟨b2619, 0, none⟩)), (53, .pointer (some ⟨b2619, 0, none⟩)), (52, .pointer (some ⟨b2619, 0, none⟩)), (51, .bool true), (12, .pointer (some ⟨b2619, 0, none⟩)), (10, .pointer (some ⟨b2605, 0, none⟩)), (1, .int .i64 a1), (2, .int .i64 a2), (3, .int .i64 a3), (4, .int .i64 a4)]) (by kernel_rfl) ?_
          refine r_forget [11, 10] (l' := [(11, .int .i64 (-1)), (10, .pointer (some ⟨b2605, 0, none⟩))]) (by kernel_rfl) ?_
          refine r_end rfl ?_
          refine W_ret (by kernel_rfl) ?_
          refine ⟨rfl, ?_⟩
          obtain rfl := Option.some.inj hm
          refine ⟨_, _, _, ResL.cell (v := .agg #[v2621]) rfl hS2808 (i := 2) rfl (by kernel_rfl) (ResL.tmp rfl (ResL.nil)), ((hS2808.front 1 rfl).takeN 1), ?_⟩
          exact ⟨v2621, c2622, rfl, rfl, (q2620.mono hZ2791)⟩
        · refine r_step rfl rfl (o_cmp rfl rfl (c_gtr_F hp2804)) ?_
          refine r_run 7 (l' := [(38, .pointer (some ⟨b2619, 0, none⟩)), (37, .pointer (some ⟨b2619, 0, none⟩)), (36, .pointer (some ⟨b2619, 0, none⟩)), (35, .pointer (some ⟨b2619, 0, none⟩)), (34, .int .i64 a4), (33, .bool false), (32, .bool false), (31, .bool false), (30, .int .i64 a4), (29, .int .i64 a3), (28, .bool false), (27, .bool false), (26, .bool false), (25, .int .i64 a2), (24, .bool false), (23, .bool false), (22, .bool false), (21, .int .i64 a2), (20, .bool false), (19, .bool false), (18, .bool true), (18, .bool r2782), (17, .int .i64 a1), (16, .pointer (some ⟨b2619, 0, none⟩)), (12, .pointer (some ⟨b2619, 0, none⟩)), (10, .pointer (some ⟨b2605, 0, none⟩)), (1, .int .i64 a1), (2, .int .i64 a2), (3, .int .i64 a3), (4, .int .i64 a4)]) (by kernel_rfl) ?_
          refine r_step rfl rfl (o_ldb (v := v2621) hS2788 (i := 0) rfl rfl (by kernel_rfl)) ?_
          obtain ⟨hc2809, hm⟩ := chk hm
          refine r_step rfl rfl (o_index rfl rfl (by kernel_rfl : slTy _ _ = some (csz api_Node)) (hS2788.gbased (j := 1) rfl (q2620.mono hZ2791) (by omega)) hc2809.1 hc2809.2) ?_
          refine r_run 1 (l' := [(41, .pointer (some (elemA v2621 0 (csz api_Node) 2))), (40, .pointer (some (elemA v2621 0 (csz api_Node) 0))), (39, v2621), (38, .pointer (some ⟨b2619, 0, none⟩)), (37, .pointer (some ⟨b2619, 0, none⟩)), (36, .pointer (some ⟨b2619, 0, none⟩)), (35, .pointer (some ⟨b2619, 0, none⟩)), (34, .int .i64 a4), (33, .bool false), (32, .bool false), (31, .bool false), (30, .int .i64 a4), (29, .int .i64 a3), (28, .bool false), (27, .bool false), (26, .bool false), (25, .int .i64 a2), (24, .bool false), (23, .bool false), (22, .bool false), (21, .int .i64 a2), (20, .bool false), (19, .bool false), (18, .bool true), (18, .bool r2782), (17, .int .i64 a1), (16, .pointer (some ⟨b2619, 0, none⟩)), (12, .pointer (some ⟨b2619, 0, none⟩)), (10, .pointer (some ⟨b2605, 0, none⟩)), (1, .int .i64 a1), (2, .int .i64 a2), (3, .int .i64 a3), (4, .int .i64 a4)]) (by kernel_rfl) ?_
          obtain ⟨x2810, hx2811, hm⟩ := obind hm
          obtain ⟨cs2812, hc2813, he2814, ht2815⟩ := hS2788.gel (j := 1) rfl (q2620.mono hZ2791) (i := 0) hx2811
          obtain ⟨v2816, q2817, rfl⟩ := rc_api_Node hc2813
          refine r_step rfl rfl (o_lde (w := .int .i64 x2810.To) he2814 rfl (by kernel_rfl)) ?_
          rcases ifs hm with ⟨hp2818, hm⟩ | ⟨hp2818, hm⟩
          · refine r_step rfl rfl (o_cmp rfl rfl (c_gtr_T hp2818)) ?_
            refine r_run 8 (l' := [(51, .bool true), (50, undef), (49, undef), (48, undef), (47, undef), (46, undef), (45, .bool true), (44, .bool true), (43, .bool true), (42, .int .i64 x2810.To), (41, .pointer (some (elemA v2621 0 (csz api_Node) 2))), (40, .pointer (some (elemA v2621 0 (csz api_Node) 0))), (39, v2621), (38, .pointer (some ⟨b2619, 0, none⟩)), (37, .pointer (some ⟨b2619, 0, none⟩)), (36, .pointer (some ⟨b2619, 0, none⟩)), (35, .pointer (some ⟨b2619, 0, none⟩)), (34, .int .i64 a4), (33, .bool false), (32, .bool false), (31, .bool false), (30, .int .i64 a4), (29, .int .i64 a3), (28, .bool false), (27, .bool false), (26, .bool false), (25, .int .i64 a2), (24, .bool false), (23, .bool false), (22, .bool false), (21, .int .i64 a2), (20, .bool false), (19, .bool false), (18, .bool true), (18, .bool r2782), (17, .int .i64 a1), (16, .pointer (some ⟨b2619, 0, none⟩)), (12, .pointer (some ⟨b2619, 0, none⟩)), (10, .pointer (some ⟨b2605, 0, none⟩)), (1, .int .i64 a1), (2, .int .i64 a2), (3, .int .i64 a3), (4, .int .i64 a4)]) (by kernel_rfl) ?_
            refine r_forget [51, 12, 10, 1, 2, 3, 4] (l' := [(51, .bool true), (12, .pointer (some ⟨b2619, 0, none⟩)), (10, .pointer (some ⟨b2605, 0, none⟩)), (1, .int .i64 a1), (2, .int .i64 a2), (3, .int .i64 a3), (4, .int .i64 a4)]) (by kernel_rfl) ?_
            refine r_end rfl ?_
            refine W_condT (x := .tmp 51) (by kernel_rfl) rfl rfl ?_
            refine W_seq (by kernel_rfl) ?_
            refine W_region (R := r14_3) (by kernel_rfl) ?_
            refine r_run 3 (l' := [(54, .pointer (some ⟨b2619, 0, none⟩)), (53, .pointer (some ⟨b2619, 0, none⟩)), (52, .pointer (some ⟨b2619, 0, none⟩)), (51, .bool true), (12, .pointer (some ⟨b2619, 0, none⟩)), (10, .pointer (some ⟨b2605, 0, none⟩)), (1, .int .i64 a1), (2, .int .i64 a2), (3, .int .i64 a3), (4, .int .i64 a4)]) (by kernel_rfl) ?_
            refine r_step rfl trivial (o_ldb (v := .agg #[v2621]) hS2788 (i := 0) rfl rfl (by kernel_rfl)) ?_
            refine r_ex1 rfl trivial (o_stb (vs := [v2621]) (cells' := [v2621]) (L' := [.blk b2619 [v2621], .gs v2621 c2622 (csz api_Node), .blk b2605 [v2621], .blk b2602 [v1882]]) hS2788 (i := 2) rfl rfl rfl rfl (by kernel_rfl) (one_cons (hS2788.gone1 (i := 1) rfl) one_nil) rfl rfl rfl) ?_
            intro h2821 hS2822
            refine r_run 1 (l' := [(11, .int .i64 (-1)), (55, .agg #[v2621]), (54, .pointer (some ⟨b2619, 0, none⟩)), (53, .pointer (some ⟨b2619, 0, none⟩)), (52, .pointer (some ⟨b2619, 0, none⟩)), (51, .bool true), (12, .pointer (some ⟨b2619, 0, none⟩)), (10, .pointer (some ⟨b2605, 0, none⟩)), (1, .int .i64 a1), (2, .int .i64 a2), (3, .int .i64 a3), (4, .int .i64 a4)]) (by kernel_rfl) ?_
            refine r_forget [11, 10] (l' := [(11, .int .i64 (-1)), (10, .pointer (some ⟨b2605, 0, none⟩))]) (by kernel_rfl) ?_
            refine r_end rfl ?_
            refine W_ret (by kernel_rfl) ?_
            refine ⟨rfl, ?_⟩
            obtain rfl := Option.some.inj hm
            refine ⟨_, _, _, ResL.cell (v := .agg #[v2621]) rfl hS2822 (i := 2) rfl (by kernel_rfl) (ResL.tmp rfl (ResL.nil)), ((hS2822.front 1 rfl).takeN 1), ?_⟩
            exact ⟨v2621, c2622, rfl, rfl, (q2620.mono hZ2791)⟩
          · refine r_step rfl rfl (o_cmp rfl rfl (c_gtr_F hp2818)) ?_
            refine r_run 5 (l' := [(48, .int .i64 a1), (47, .pointer (some ⟨b2619, 0, none⟩)), (46, .int .i64 a3), (45, .bool false), (44, .bool false), (43, .bool false), (42, .int .i64 x2810.To), (41, .pointer (some (elemA v2621 0 (csz api_Node) 2))), (40, .pointer (some (elemA v2621 0 (csz api_Node) 0))), (39, v2621), (38, .pointer (some ⟨b2619, 0, none⟩)), (37, .pointer (some ⟨b2619, 0, none⟩)), (36, .pointer (some ⟨b2619, 0, none⟩)), (35, .pointer (some ⟨b2619, 0, none⟩)), (34, .int .i64 a4), (33, .bool false), (32, .bool false), (31, .bool false), (30, .int .i64 a4), (29, .int .i64 a3), (28, .bool false), (27, .bool false), (26, .bool false), (25, .int .i64 a2), (24, .bool false), (23, .bool false), (22, .bool false), (21, .int .i64 a2), (20, .bool false), (19, .bool false), (18, .bool true), (18, .bool r2782), (17, .int .i64 a1), (16, .pointer (some ⟨b2619, 0, none⟩)), (12, .pointer (some ⟨b2619, 0, none⟩)), (10, .pointer (some ⟨b2605, 0, none⟩)), (1, .int .i64 a1), (2, .int .i64 a2), (3, .int .i64 a3), (4, .int .i64 a4)]) (by kernel_rfl) ?_
            obtain ⟨r2823, hx2824, hm⟩ := obind hm
            have hSr2830 : St _ _ _ _ _ _ ([.blk b2619 [v2621], .gs v2621 c2622 (csz api_Node)] ++ [.blk b2605 [.slice none 0 0], .blk b2602 [v1882]]) := ((hS2788.front 1 rfl).front 1 rfl)
            obtain ⟨v2825, h2826, Z2831, A2833, hcl2827, hSc2828, rfl, rfl⟩ := arena_forest_end_ok F hSr2830.preL (q2620.mono hZ2791) hx2824
            have hS2829 := hSr2830.call hSc2828
            have hZ2832 := hSc2828.zle
            replace hS2829 : St _ _ _ _ _ _ [.blk b2619 [v2621], .gs v2621 c2622 (csz api_Node), .blk b2605 [.slice none 0 0], .blk b2602 [v1882]] := hS2829
            refine r_step rfl rfl (o_call hcl2827 rfl rfl rfl) ?_
            rcases ifs hm with ⟨hp2834, hm⟩ | ⟨hp2834, hm⟩
            · refine r_step rfl rfl (o_cmp rfl rfl (c_lss_T hp2834)) ?_
              refine r_run 1 (l' := [(51, .bool true), (50, .bool true), (49, .int .i64 r2823), (48, .int .i64 a1), (47, .pointer (some ⟨b2619, 0, none⟩)), (46, .int .i64 a3), (45, .bool false), (44, .bool false), (43, .bool false), (42, .int .i64 x2810.To), (41, .pointer (some (elemA v2621 0 (csz api_Node) 2))), (40, .pointer (some (elemA v2621 0 (csz api_Node) 0))), (39, v2621), (38, .pointer (some ⟨b2619, 0, none⟩)), (37, .pointer (some ⟨b2619, 0, none⟩)), (36, .pointer (some ⟨b2619, 0, none⟩)), (35, .pointer (some ⟨b2619, 0, none⟩)), (34, .int .i64 a4), (33, .bool false), (32, .bool false), (31, .bool false), (30, .int .i64 a4), (29, .int .i64 a3), (28, .bool false), (27, .bool false), (26, .bool false), (25, .int .i64 a2), (24, .bool false), (23, .bool false), (22, .bool false), (21, .int .i64 a2), (20, .bool false), (19, .bool false), (18, .bool true), (18, .bool r2782), (17, .int .i64 a1), (16, .pointer (some ⟨b2619, 0, none⟩)), (12, .pointer (some ⟨b2619, 0, none⟩)), (10, .pointer (some ⟨b2605, 0, none⟩)), (1, .int .i64 a1), (2, .int .i64 a2), (3, .int .i64 a3), (4, .int .i64 a4)]) (by kernel_rfl) ?_
              refine r_forget [51, 12, 10, 1, 2, 3, 4] (l' := [(51, .bool true), (12, .pointer (some ⟨b2619, 0, none⟩)), (10, .pointer (some ⟨b2605, 0, none⟩)), (1, .int .i64 a1), (2, .int .i64 a2), (3, .int .i64 a3), (4, .int .i64 a4)]) (by kernel_rfl) ?_
              refine r_end rfl ?_
              refine W_condT (x := .tmp 51) (by kernel_rfl) rfl rfl ?_
              refine W_seq (by kernel_rfl) ?_
              refine W_region (R := r14_3) (by kernel_rfl) ?_
              refine r_run 3 (l' := [(54, .pointer (some ⟨b2619, 0, none⟩)), (53, .pointer (some ⟨b2619, 0, none⟩)), (52, .pointer (some ⟨b2619, 0, none⟩)), (51, .bool true), (12, .pointer (some ⟨b2619, 0, none⟩)), (10, .pointer (some ⟨b2605, 0, none⟩)), (1, .int .i64 a1), (2, .int .i64 a2), (3, .int .i64 a3), (4, .int .i64 a4)]) (by kernel_rfl) ?_
              refine r_step rfl trivial (o_ldb (v := .agg #[v2621]) hS2829 (i := 0) rfl rfl (by kernel_rfl)) ?_
              refine r_ex1 rfl trivial (o_stb (vs := [v2621]) (cells' := [v2621]) (L' := [.blk b2619 [v2621], .gs v2621 c2622 (csz api_Node), .blk b2605 [v2621], .blk b2602 [v1882]]) hS2829 (i := 2) rfl rfl rfl rfl (by kernel_rfl) (one_cons (hS2829.gone1 (i := 1) rfl) one_nil) rfl rfl rfl) ?_
              intro h2837 hS2838
              refine r_run 1 (l' := [(11, .int .i64 (-1)), (55, .agg #[v2621]), (54, .pointer (some ⟨b2619, 0, none⟩)), (53, .pointer (some ⟨b2619, 0, none⟩)), (52, .pointer (some ⟨b2619, 0, none⟩)), (51, .bool true), (12, .pointer (some ⟨b2619, 0, none⟩)), (10, .pointer (some ⟨b2605, 0, none⟩)), (1, .int .i64 a1), (2, .int .i64 a2), (3, .int .i64 a3), (4, .int .i64 a4)]) (by kernel_rfl) ?_
              refine r_forget [11, 10] (l' := [(11, .int .i64 (-1)), (10, .pointer (some ⟨b2605, 0, none⟩))]) (by kernel_rfl) ?_
              refine r_end rfl ?_
              refine W_ret (by kernel_rfl) ?_
              refine ⟨rfl, ?_⟩
              obtain rfl := Option.some.inj hm
              refine ⟨_, _, _, ResL.cell (v := .agg #[v2621]) rfl hS2838 (i := 2) rfl (by kernel_rfl) (ResL.tmp rfl (ResL.nil)), ((hS2838.front 1 rfl).takeN 1), ?_⟩
              exact ⟨v2621, c2622, rfl, rfl, (q2620.mono (hZ2791.trans hZ2832))⟩
            · refine r_step rfl rfl (o_cmp rfl rfl (c_lss_F hp2834)) ?_
              refine r_run 1 (l' := [(51, .bool false), (50, .bool false), (49, .int .i64 r2823), (48, .int .i64 a1), (47, .pointer (some ⟨b2619, 0, none⟩)), (46, .int .i64 a3), (45, .bool false), (44, .bool false), (43, .bool false), (42, .int .i64 x2810.To), (41, .pointer (some (elemA v2621 0 (csz api_Node) 2))), (40, .pointer (some (elemA v2621 0 (csz api_Node) 0))), (39, v2621), (38, .pointer (some ⟨b2619, 0, none⟩)), (37, .pointer (some ⟨b2619, 0, none⟩)), (36, .pointer (some ⟨b2619, 0, none⟩)), (35, .pointer (some ⟨b2619, 0, none⟩)), (34, .int .i64 a4), (33, .bool false), (32, .bool false), (31, .bool false), (30, .int .i64 a4), (29, .int .i64 a3), (28, .bool false), (27, .bool false), (26, .bool false), (25, .int .i64 a2), (24, .bool false), (23, .bool false), (22, .bool false), (21, .int .i64 a2), (20, .bool false), (19, .bool false), (18, .bool true), (18, .bool r2782), (17, .int .i64 a1), (16, .pointer (some ⟨b2619, 0, none⟩)), (12, .pointer (some ⟨b2619, 0, none⟩)), (10, .pointer (some ⟨b2605, 0, none⟩)), (1, .int .i64 a1), (2, .int .i64 a2), (3, .int .i64 a3), (4, .int .i64 a4)]) (by kernel_rfl) ?_
              refine r_forget [51, 12, 10, 1, 2, 3, 4] (l' := [(51, .bool false), (12, .pointer (some ⟨b2619, 0, none⟩)), (10, .pointer (some ⟨b2605, 0, none⟩)), (1, .int .i64 a1), (2, .int .i64 a2), (3, .int .i64 a3), (4, .int .i64 a4)]) (by kernel_rfl) ?_
              refine r_end rfl ?_
              refine W_condF (x := .tmp 51) (by kernel_rfl) rfl rfl ?_
              refine W_skip (by kernel_rfl) ?_
              refine W_seq (by kernel_rfl) ?_
              refine W_region (R := r14_4) (by kernel_rfl) ?_
              refine r_run 4 (l' := [(59, .pointer (some ⟨b2619, 0, none⟩)), (58, .pointer (some ⟨b2619, 0, none⟩)), (57, .pointer (some ⟨b2619, 0, none⟩)), (56, .pointer (some ⟨b2619, 0, none⟩)), (51, .bool false), (12, .pointer (some ⟨b2619, 0, none⟩)), (10, .pointer (some ⟨b2605, 0, none⟩)), (1, .int .i64 a1), (2, .int .i64 a2), (3, .int .i64 a3), (4, .int .i64 a4)]) (by kernel_rfl) ?_
              refine r_step rfl trivial (o_ldb (v := v2621) hS2829 (i := 0) rfl rfl (by kernel_rfl)) ?_
              refine r_step rfl trivial (o_len rfl (hS2829.glen (i := 1) rfl (q2620.mono (hZ2791.trans hZ2832))) ⟨_, Go.Proofs.Try.underlying25⟩) ?_
              refine r_run 1 (l' := [(11, .int .i64 (r2608.Tree.Nodes.length : Int)), (61, .int .i64 (r2608.Tree.Nodes.length : Int)), (60, v2621), (59, .pointer (some ⟨b2619, 0, none⟩)), (58, .pointer (some ⟨b2619, 0, none⟩)), (57, .pointer (some ⟨b2619, 0, none⟩)), (56, .pointer (some ⟨b2619, 0, none⟩)), (51, .bool false), (12, .pointer (some ⟨b2619, 0, none⟩)), (10, .pointer (some ⟨b2605, 0, none⟩)), (1, .int .i64 a1), (2, .int .i64 a2), (3, .int .i64 a3), (4, .int .i64 a4)]) (by kernel_rfl) ?_
              refine r_forget [11, 12, 10, 1, 2, 3, 4] (l' := [(11, .int .i64 (r2608.Tree.Nodes.length : Int)), (12, .pointer (some ⟨b2619, 0, none⟩)), (10, .pointer (some ⟨b2605, 0, none⟩)), (1, .int .i64 a1), (2, .int .i64 a2), (3, .int .i64 a3), (4, .int .i64 a4)]) (by kernel_rfl) ?_
              refine r_end rfl ?_
              refine W_seq (by kernel_rfl) ?_
              refine W_region (R := r14_5) (by kernel_rfl) ?_
              refine r_run 5 (l' := [(66, .pointer (some ⟨b2619, 0, none⟩)), (65, .pointer (some ⟨b2619, 0, none⟩)), (64, .pointer (some ⟨b2619, 0, none⟩)), (63, .pointer (some ⟨b2619, 0, none⟩)), (62, .pointer (some ⟨b2619, 0, none⟩)), (11, .int .i64 (r2608.Tree.Nodes.length : Int)), (12, .pointer (some ⟨b2619, 0, none⟩)), (10, .pointer (some ⟨b2605, 0, none⟩)), (1, .int .i64 a1), (2, .int .i64 a2), (3, .int .i64 a3), (4, .int .i64 a4)]) (by kernel_rfl) ?_
              refine r_step rfl trivial (o_ldb (v := v2621) hS2829 (i := 0) rfl rfl (by kernel_rfl)) ?_
              refine r_run 5 (l' := [(72, .agg #[.int .i64 a2, .int .i64 a3, .int .i64 a4, .int .i64 a1, .slice none 0 0, .bool false]), (71, .int .i64 a1), (70, .int .i64 a4), (69, .int .i64 a3), (68, .int .i64 a2), (67, v2621), (66, .pointer (some ⟨b2619, 0, none⟩)), (65, .pointer (some ⟨b2619, 0, none⟩)), (64, .pointer (some ⟨b2619, 0, none⟩)), (63, .pointer (some ⟨b2619, 0, none⟩)), (62, .pointer (some ⟨b2619, 0, none⟩)), (11, .int .i64 (r2608.Tree.Nodes.length : Int)), (12, .pointer (some ⟨b2619, 0, none⟩)), (10, .pointer (some ⟨b2605, 0, none⟩)), (1, .int .i64 a1), (2, .int .i64 a2), (3, .int .i64 a3), (4, .int .i64 a4)]) (by kernel_rfl) ?_
              have q2842 : RCs (α := api_Node) Z2831 [.int .i64 a2, .int .i64 a3, .int .i64 a4, .int .i64 a1, .slice none 0 0, .bool false] [(⟨a2, a3, a4, a1, [], false⟩ : api_Node)] := RCs.cons (cs := [.int .i64 a2, .int .i64 a3, .int .i64 a4, .int .i64 a1, .slice none 0 0, .bool false]) ⟨_, (RS.nil0 _), rfl⟩ (RCs.nil0 _)
              refine r_row rfl trivial (o_bs (cells := [.int .i64 a2, .int .i64 a3, .int .i64 a4, .int .i64 a1, .slice none 0 0, .bool false]) (s := 6) (by kernel_rfl)) (by kernel_rfl) hS2829 ?_
              intro v2839 h2840 hS2841
              replace hS2841 : St _ _ _ _ _ _ [.gs v2839 [.int .i64 a2, .int .i64 a3, .int .i64 a4, .int .i64 a1, .slice none 0 0, .bool false] (csz api_Node), .blk b2619 [v2621], .gs v2621 c2622 (csz api_Node), .blk b2605 [.slice none 0 0], .blk b2602 [v1882]] := hS2841
              obtain ⟨hc2849, hm⟩ := chk hm
              refine r_ex3 rfl trivial (o_app (ys := [(⟨a2, a3, a4, a1, [], false⟩ : api_Node)]) (by_ := 64) hS2841 (i := 2) rfl (q2620.mono (hZ2791.trans hZ2832)) ((hS2841).gnews (j := 0) rfl q2842) rfl rfl (by kernel_rfl) (by omega) (by omega)) ?_
              rintro v2844 c2845 h2846 ⟨q2848, hS2847⟩
              replace hS2847 : St _ _ _ _ _ _ [.gs v2839 [.int .i64 a2, .int .i64 a3, .int .i64 a4, .int .i64 a1, .slice none 0 0, .bool false] (csz api_Node), .blk b2619 [v2621], .gs v2844 c2845 (csz api_Node), .blk b2605 [.slice none 0 0], .blk b2602 [v1882]] := hS2847
              refine r_run 3 (l' := [(77, .pointer (some ⟨b2619, 0, none⟩)), (76, .pointer (some ⟨b2619, 0, none⟩)), (75, .pointer (some ⟨b2619, 0, none⟩)), (74, v2844), (73, v2839), (72, .agg #[.int .i64 a2, .int .i64 a3, .int .i64 a4, .int .i64 a1, .slice none 0 0, .bool false]), (71, .int .i64 a1), (70, .int .i64 a4), (69, .int .i64 a3), (68, .int .i64 a2), (67, v2621), (66, .pointer (some ⟨b2619, 0, none⟩)), (65, .pointer (some ⟨b2619, 0, none⟩)), (64, .pointer (some ⟨b2619, 0, none⟩)), (63, .pointer (some ⟨b2619, 0, none⟩)), (62, .pointer (some ⟨b2619, 0, none⟩)), (11, .int .i64 (r2608.Tree.Nodes.length : Int)), (12, .pointer (some ⟨b2619, 0, none⟩)), (10, .pointer (some ⟨b2605, 0, none⟩)), (1, .int .i64 a1), (2, .int .i64 a2), (3, .int .i64 a3), (4, .int .i64 a4)]) (by kernel_rfl) ?_
              refine r_ex1 rfl trivial (o_stb (vs := [v2844]) (cells' := [v2844]) (L' := [.gs v2839 [.int .i64 a2, .int .i64 a3, .int .i64 a4, .int .i64 a1, .slice none 0 0, .bool false] (csz api_Node), .blk b2619 [v2844], .gs v2844 c2845 (csz api_Node), .blk b2605 [.slice none 0 0], .blk b2602 [v1882]]) hS2847 (i := 1) rfl rfl rfl (hS2847.gcell1 (i := 2) rfl) (by kernel_rfl) (one_cons (hS2847.gone1 (i := 2) rfl) one_nil) rfl rfl rfl) ?_
              intro h2850 hS2851
              refine r_forget [11, 12, 10, 1, 4] (l' := [(11, .int .i64 (r2608.Tree.Nodes.length : Int)), (12, .pointer (some ⟨b2619, 0, none⟩)), (10, .pointer (some ⟨b2605, 0, none⟩)), (1, .int .i64 a1), (4, .int .i64 a4)]) (by kernel_rfl) ?_
              refine r_end rfl ?_
              refine W_seq (by kernel_rfl) ?_
              refine W_region (R := r14_6) (by kernel_rfl) ?_
              refine r_run 4 (l' := [(81, .pointer (some ⟨b2619, 0, none⟩)), (80, .pointer (some ⟨b2619, 0, none⟩)), (79, .pointer (some ⟨b2619, 0, none⟩)), (78, .pointer (some ⟨b2619, 0, none⟩)), (11, .int .i64 (r2608.Tree.Nodes.length : Int)), (12, .pointer (some ⟨b2619, 0, none⟩)), (10, .pointer (some ⟨b2605, 0, none⟩)), (1, .int .i64 a1), (4, .int .i64 a4)]) (by kernel_rfl) ?_
              refine r_step rfl trivial (o_ldb (v := v2844) hS2851 (i := 1) rfl rfl (by kernel_rfl)) ?_
              refine r_run 1 (l' := [(83, .int .i64 a1), (82, v2844), (81, .pointer (some ⟨b2619, 0, none⟩)), (80, .pointer (some ⟨b2619, 0, none⟩)), (79, .pointer (some ⟨b2619, 0, none⟩)), (78, .pointer (some ⟨b2619, 0, none⟩)), (11, .int .i64 (r2608.Tree.Nodes.length : Int)), (12, .pointer (some ⟨b2619, 0, none⟩)), (10, .pointer (some ⟨b2605, 0, none⟩)), (1, .int .i64 a1), (4, .int .i64 a4)]) (by kernel_rfl) ?_
              obtain ⟨hc2852, hm⟩ := chk hm
              refine r_step rfl trivial (o_index rfl rfl (by kernel_rfl : slTy _ _ = some (csz api_Node)) (hS2851.gbased (j := 2) rfl q2848 (by omega)) hc2852.1 hc2852.2) ?_
              refine r_run 1 (l' := [(85, .pointer (some (elemA v2844 a1 (csz api_Node) 4))), (84, .pointer (some (elemA v2844 a1 (csz api_Node) 0))), (83, .int .i64 a1), (82, v2844), (81, .pointer (some ⟨b2619, 0, none⟩)), (80, .pointer (some ⟨b2619, 0, none⟩)), (79, .pointer (some ⟨b2619, 0, none⟩)), (78, .pointer (some ⟨b2619, 0, none⟩)), (11, .int .i64 (r2608.Tree.Nodes.length : Int)), (12, .pointer (some ⟨b2619, 0, none⟩)), (10, .pointer (some ⟨b2605, 0, none⟩)), (1, .int .i64 a1), (4, .int .i64 a4)]) (by kernel_rfl) ?_
              obtain ⟨x2853, hx2854, hm⟩ := obind hm
              obtain ⟨cs2855, hc2856, he2857, ht2858⟩ := hS2851.gel (j := 2) rfl q2848 (i := a1) hx2854
              obtain ⟨v2859, q2860, rfl⟩ := rc_api_Node hc2856
              refine r_step rfl trivial (o_lde (w := v2859) he2857 rfl (by kernel_rfl)) ?_
              refine r_run 1 (l' := [(13, v2859), (86, v2859), (85, .pointer (some (elemA v2844 a1 (csz api_Node) 4))), (84, .pointer (some (elemA v2844 a1 (csz api_Node) 0))), (83, .int .i64 a1), (82, v2844), (81, .pointer (some ⟨b2619, 0, none⟩)), (80, .pointer (some ⟨b2619, 0, none⟩)), (79, .pointer (some ⟨b2619, 0, none⟩)), (78, .pointer (some ⟨b2619, 0, none⟩)), (11, .int .i64 (r2608.Tree.Nodes.length : Int)), (12, .pointer (some ⟨b2619, 0, none⟩)), (10, .pointer (some ⟨b2605, 0, none⟩)), (1, .int .i64 a1), (4, .int .i64 a4)]) (by kernel_rfl) ?_
              refine r_forget [13, 11, 12, 10, 1, 4] (l' := [(13, v2859), (11, .int .i64 (r2608.Tree.Nodes.length : Int)), (12, .pointer (some ⟨b2619, 0, none⟩)), (10, .pointer (some ⟨b2605, 0, none⟩)), (1, .int .i64 a1), (4, .int .i64 a4)]) (by kernel_rfl) ?_
              refine r_end rfl ?_
              refine W_seq (by kernel_rfl) ?_
              refine W_regionD (R := r14_7) (by kernel_rfl) hS2851 ?_
              intro bs2861 h2862 hlv2864 hS2863
              refine d_run 4 (l' := [(90, .pointer (some ⟨b2619, 0, none⟩)), (89, .pointer (some ⟨b2619, 0, none⟩)), (88, .pointer (some ⟨b2619, 0, none⟩)), (87, .pointer (some ⟨b2619, 0, none⟩)), (13, v2859), (11, .int .i64 (r2608.Tree.Nodes.length : Int)), (12, .pointer (some ⟨b2619, 0, none⟩)), (10, .pointer (some ⟨b2605, 0, none⟩)), (1, .int .i64 a1), (4, .int .i64 a4)]) (by kernel_rfl) ?_
              have lt2865 : b2619 < bs2861 := hlv2864.1 _ (List.mem_of_getElem? (i := 1) rfl) _ (by simp [Itm.ids])
              refine d_lookS rfl trivial rfl lt2865 (same1 (v := v2844) (hS2863.gsim1 (i := 2) rfl)) (o_ldb (v := v2844) hS2863 (i := 1) rfl rfl (by kernel_rfl)) ?_
              refine d_run 3 (l' := [(94, v2859), (93, v2859), (92, .int .i64 a1), (91, v2844), (90, .pointer (some ⟨b2619, 0, none⟩)), (89, .pointer (some ⟨b2619, 0, none⟩)), (88, .pointer (some ⟨b2619, 0, none⟩)), (87, .pointer (some ⟨b2619, 0, none⟩)), (13, v2859), (11, .int .i64 (r2608.Tree.Nodes.length : Int)), (12, .pointer (some ⟨b2619, 0, none⟩)), (10, .pointer (some ⟨b2605, 0, none⟩)), (1, .int .i64 a1), (4, .int .i64 a4)]) (by kernel_rfl) ?_
              refine d_val rfl trivial (o_len rfl (RS.len q2860) ⟨_, Go.Proofs.Try.underlying44⟩) ?_
              refine d_run 1 (l' := [(96, v2859), (95, .int .i64 (x2853.Kids.length : Int)), (94, v2859), (93, v2859), (92, .int .i64 a1), (91, v2844), (90, .pointer (some ⟨b2619, 0, none⟩)), (89, .pointer (some ⟨b2619, 0, none⟩)), (88, .pointer (some ⟨b2619, 0, none⟩)), (87, .pointer (some ⟨b2619, 0, none⟩)), (13, v2859), (11, .int .i64 (r2608.Tree.Nodes.length : Int)), (12, .pointer (some ⟨b2619, 0, none⟩)), (10, .pointer (some ⟨b2605, 0, none⟩)), (1, .int .i64 a1), (4, .int .i64 a4)]) (by kernel_rfl) ?_
              refine d_val rfl trivial (o_len rfl (RS.len q2860) ⟨_, Go.Proofs.Try.underlying44⟩) ?_
              obtain ⟨hc2869, hm⟩ := chk hm
              refine d_exv rfl trivial (o_slice3 (a := 0) (b := (x2853.Kids.length : Int)) q2860 rfl (by kernel_rfl : slTy _ _ = some (csz Int)) rfl rfl rfl hc2869.1 hc2869.2.1 hc2869.2.2) ?_
              rintro v2866 ⟨q2867, cp2868⟩
              refine d_run 1 (l' := [(99, .int .i64 (r2608.Tree.Nodes.length : Int)), (98, v2866), (97, .int .i64 (x2853.Kids.length : Int)), (96, v2859), (95, .int .i64 (x2853.Kids.length : Int)), (94, v2859), (93, v2859), (92, .int .i64 a1), (91, v2844), (90, .pointer (some ⟨b2619, 0, none⟩)), (89, .pointer (some ⟨b2619, 0, none⟩)), (88, .pointer (some ⟨b2619, 0, none⟩)), (87, .pointer (some ⟨b2619, 0, none⟩)), (13, v2859), (11, .int .i64 (r2608.Tree.Nodes.length : Int)), (12, .pointer (some ⟨b2619, 0, none⟩)), (10, .pointer (some ⟨b2605, 0, none⟩)), (1, .int .i64 a1), (4, .int .i64 a4)]) (by kernel_rfl) ?_
              have q2873 : RCs (α := Int) Z2831 [.int .i64 (r2608.Tree.Nodes.length : Int)] [(r2608.Tree.Nodes.length : Int)] := RCs.cons (cs := [.int .i64 (r2608.Tree.Nodes.length : Int)]) rfl (RCs.nil0 _)
              refine d_row rfl trivial (o_bs (cells := [.int .i64 (r2608.Tree.Nodes.length : Int)]) (s := 1) (by kernel_rfl)) (by kernel_rfl) hS2863 (by omega) (Nat.add_lt_add_left (by decide) _) ?_
              intro v2870 h2871 b2874 eb2875 hS2872
              replace hS2872 : St _ _ _ _ _ _ [.gs v2870 [.int .i64 (r2608.Tree.Nodes.length : Int)] (csz Int), .gs v2839 [.int .i64 a2, .int .i64 a3, .int .i64 a4, .int .i64 a1, .slice none 0 0, .bool false] (csz api_Node), .blk b2619 [v2844], .gs v2844 c2845 (csz api_Node), .blk b2605 [.slice none 0 0], .blk b2602 [v1882]] := hS2872
              obtain ⟨hc2882, hm⟩ := chk hm
              refine d_ex3c rfl trivial hS2872 (o_appCopy (ys := [(r2608.Tree.Nodes.length : Int)]) (by_ := 8) (hS2872.lown) q2867 cp2868 ((hS2872.lown).gnews (j := 0) rfl q2873) (by omega) rfl rfl (by kernel_rfl) (by omega) (by omega)) ?_
              rintro v2877 c2878 h2879 ⟨q2881, hS2880⟩
              replace hS2880 : St _ _ _ _ _ _ [.gs v2877 c2878 (csz Int), .gs v2870 [.int .i64 (r2608.Tree.Nodes.length : Int)] (csz Int), .gs v2839 [.int .i64 a2, .int .i64 a3, .int .i64 a4, .int .i64 a1, .slice none 0 0, .bool false] (csz api_Node), .blk b2619 [v2844], .gs v2844 c2845 (csz api_Node), .blk b2605 [.slice none 0 0], .blk b2602 [v1882]] := hS2880
              obtain ⟨hc2883, hm⟩ := chk hm
              refine d_val rfl trivial (o_index rfl rfl (by kernel_rfl : slTy _ _ = some (csz api_Node)) (hS2880.gbased (j := 4) rfl q2848 (by omega)) hc2883.1 hc2883.2) ?_
              refine d_run 1 (l' := [(103, .pointer (some (elemA v2844 a1 (csz api_Node) 4))), (102, .pointer (some (elemA v2844 a1 (csz api_Node) 0))), (101, v2877), (100, v2870), (99, .int .i64 (r2608.Tree.Nodes.length : Int)), (98, v2866), (97, .int .i64 (x2853.Kids.length : Int)), (96, v2859), (95, .int .i64 (x2853.Kids.length : Int)), (94, v2859), (93, v2859), (92, .int .i64 a1), (91, v2844), (90, .pointer (some ⟨b2619, 0, none⟩)), (89, .pointer (some ⟨b2619, 0, none⟩)), (88, .pointer (some ⟨b2619, 0, none⟩)), (87, .pointer (some ⟨b2619, 0, none⟩)), (13, v2859), (11, .int .i64 (r2608.Tree.Nodes.length : Int)), (12, .pointer (some ⟨b2619, 0, none⟩)), (10, .pointer (some ⟨b2605, 0, none⟩)), (1, .int .i64 a1), (4, .int .i64 a4)]) (by kernel_rfl) ?_
              obtain ⟨x2888, hx2889, hm⟩ := obind hm
              obtain ⟨Z2884, hZ2885, q2886, hS2887⟩ := (hS2880.front 0 rfl).freeze q2881
              replace hS2887 : St _ _ _ _ _ _ [.gs v2870 [.int .i64 (r2608.Tree.Nodes.length : Int)] (csz Int), .gs v2839 [.int .i64 a2, .int .i64 a3, .int .i64 a4, .int .i64 a1, .slice none 0 0, .bool false] (csz api_Node), .blk b2619 [v2844], .gs v2844 c2845 (csz api_Node), .blk b2605 [.slice none 0 0], .blk b2602 [v1882]] := hS2887
              obtain ⟨cs2890, hc2891, he2892, ht2893⟩ := hS2887.gel (j := 3) rfl (q2848.mono hZ2885) (i := a1) hx2889
              obtain ⟨v2894, q2895, rfl⟩ := rc_api_Node hc2891
              refine d_ex2 rfl trivial hS2887 (o_ste (u' := (⟨x2888.Kind, x2888.From, x2888.To, x2888.Up, ((x2853.Kids.take (x2853.Kids.length : Int).toNat).drop (0 : Int).toNat) ++ [(r2608.Tree.Nodes.length : Int)], x2888.Key⟩ : api_Node)) (vs := [v2877]) (cs' := [.int .i64 x2888.Kind, .int .i64 x2888.From, .int .i64 x2888.To, .int .i64 x2888.Up, v2877, .bool x2888.Key]) (hS2887.lown) (m := 3) rfl (q2848.mono hZ2885) hx2889 ht2893 rfl rfl (RS.cell1 q2886) (by kernel_rfl) (one_cons (RS.one1 q2886) one_nil) rfl rfl ⟨_, q2886, rfl⟩) rfl ?_
              rintro h2896 c2897 ⟨q2899, hS2898⟩
              replace hS2898 : St _ _ _ _ _ _ [.gs v2870 [.int .i64 (r2608.Tree.Nodes.length : Int)] (csz Int), .gs v2839 [.int .i64 a2, .int .i64 a3, .int .i64 a4, .int .i64 a1, .slice none 0 0, .bool false] (csz api_Node), .blk b2619 [v2844], .gs v2844 c2897 (csz api_Node), .blk b2605 [.slice none 0 0], .blk b2602 [v1882]] := hS2898
              refine d_forget [11, 12, 10, 1, 4] (l' := [(11, .int .i64 (r2608.Tree.Nodes.length : Int)), (12, .pointer (some ⟨b2619, 0, none⟩)), (10, .pointer (some ⟨b2605, 0, none⟩)), (1, .int .i64 a1), (4, .int .i64 a4)]) (by kernel_rfl) ?_
              refine d_end rfl ?_
              have hS2900 := hS2898.unres
              refine W_seq (by kernel_rfl) ?_
              refine W_region (R := r14_8) (by kernel_rfl) ?_
              refine r_run 3 (l' := [(106, .int .i64 a4), (105, .int .i64 a1), (104, .pointer (some ⟨b2619, 0, none⟩)), (11, .int .i64 (r2608.Tree.Nodes.length : Int)), (12, .pointer (some ⟨b2619, 0, none⟩)), (10, .pointer (some ⟨b2605, 0, none⟩)), (1, .int .i64 a1), (4, .int .i64 a4)]) (by kernel_rfl) ?_
              obtain ⟨r2901, hx2902, hm⟩ := obind hm
              have hSr2908 : St _ _ _ _ _ _ ([.blk b2619 [v2844], .gs v2844 c2897 (csz api_Node)] ++ [.gs v2870 [.int .i64 (r2608.Tree.Nodes.length : Int)] (csz Int), .gs v2839 [.int .i64 a2, .int .i64 a3, .int .i64 a4, .int .i64 a1, .slice none 0 0, .bool false] (csz api_Node), .blk b2605 [.slice none 0 0], .blk b2602 [v1882]]) := ((hS2900.front 3 rfl).front 3 rfl)
              obtain ⟨v2903, h2904, Z2909, A2911, hcl2905, hSc2906, c2913, rfl, rfl, q2912⟩ := arena_forest_grow_ok F hSr2908.preL q2899 hx2902
              have hS2907 := hSr2908.call hSc2906
              have hZ2910 := hSc2906.zle
              replace hS2907 : St _ _ _ _ _ _ [.blk b2619 [v2844], .gs v2844 c2913 (csz api_Node), .gs v2870 [.int .i64 (r2608.Tree.Nodes.length : Int)] (csz Int), .gs v2839 [.int .i64 a2, .int .i64 a3, .int .i64 a4, .int .i64 a1, .slice none 0 0, .bool false] (csz api_Node), .blk b2605 [.slice none 0 0], .blk b2602 [v1882]] := hS2907
              refine r_step rfl trivial (o_call hcl2905 rfl rfl rfl) ?_
              refine r_forget [11, 12, 10] (l' := [(11, .int .i64 (r2608.Tree.Nodes.length : Int)), (12, .pointer (some ⟨b2619, 0, none⟩)), (10, .pointer (some ⟨b2605, 0, none⟩))]) (by kernel_rfl) ?_
              refine r_end rfl ?_
              refine W_seq (by kernel_rfl) ?_
              refine W_region (R := r14_9) (by kernel_rfl) ?_
              refine r_run 3 (l' := [(110, .pointer (some ⟨b2619, 0, none⟩)), (109, .pointer (some ⟨b2619, 0, none⟩)), (108, .pointer (some ⟨b2619, 0, none⟩)), (11, .int .i64 (r2608.Tree.Nodes.length : Int)), (12, .pointer (some ⟨b2619, 0, none⟩)), (10, .pointer (some ⟨b2605, 0, none⟩))]) (by kernel_rfl) ?_
              refine r_step rfl trivial (o_ldb (v := .agg #[v2844]) hS2907 (i := 0) rfl rfl (by kernel_rfl)) ?_
              refine r_run 1 (l' := [(112, .int .i64 (r2608.Tree.Nodes.length : Int)), (111, .agg #[v2844]), (110, .pointer (some ⟨b2619, 0, none⟩)), (109, .pointer (some ⟨b2619, 0, none⟩)), (108, .pointer (some ⟨b2619, 0, none⟩)), (11, .int .i64 (r2608.Tree.Nodes.length : Int)), (12, .pointer (some ⟨b2619, 0, none⟩)), (10, .pointer (some ⟨b2605, 0, none⟩))]) (by kernel_rfl) ?_
              refine r_ex1 rfl trivial (o_stb (vs := [v2844]) (cells' := [v2844]) (L' := [.blk b2619 [v2844], .gs v2844 c2913 (csz api_Node), .gs v2870 [.int .i64 (r2608.Tree.Nodes.length : Int)] (csz Int), .gs v2839 [.int .i64 a2, .int .i64 a3, .int .i64 a4, .int .i64 a1, .slice none 0 0, .bool false] (csz api_Node), .blk b2605 [v2844], .blk b2602 [v1882]]) hS2907 (i := 4) rfl rfl rfl rfl (by kernel_rfl) (one_cons (hS2907.gone1 (i := 1) rfl) one_nil) rfl rfl rfl) ?_
              intro h2914 hS2915
              refine r_run 1 (l' := [(11, .int .i64 (r2608.Tree.Nodes.length : Int)), (112, .int .i64 (r2608.Tree.Nodes.length : Int)), (111, .agg #[v2844]), (110, .pointer (some ⟨b2619, 0, none⟩)), (109, .pointer (some ⟨b2619, 0, none⟩)), (108, .pointer (some ⟨b2619, 0, none⟩)), (11, .int .i64 (r2608.Tree.Nodes.length : Int)), (12, .pointer (some ⟨b2619, 0, none⟩)), (10, .pointer (some ⟨b2605, 0, none⟩))]) (by kernel_rfl) ?_
              refine r_forget [11, 10] (l' := [(11, .int .i64 (r2608.Tree.Nodes.length : Int)), (10, .pointer (some ⟨b2605, 0, none⟩))]) (by kernel_rfl) ?_
              refine r_end rfl ?_
              refine W_ret (by kernel_rfl) ?_
              refine ⟨rfl, ?_⟩
              obtain rfl := Option.some.inj hm
              refine ⟨_, _, _, ResL.cell (v := .agg #[v2844]) rfl hS2915 (i := 4) rfl (by kernel_rfl) (ResL.tmp rfl (ResL.nil)), ((hS2915.front 1 rfl).takeN 1), ?_⟩
              exact ⟨v2844, c2913, rfl, rfl, q2912⟩
  · refine r_setb (t := 18) rfl (Bool.eq_false_iff.2 hp2793) ?_
    refine r_run 33 (l' := [(51, .bool true), (50, undef), (49, undef), (48, undef), (47, undef), (46, undef), (45, .bool true), (44, .bool true), (43, undef), (42, undef), (41, undef), (40, undef), (39, undef), (38, undef), (37, undef), (36, undef), (35, undef), (34, undef), (33, .bool true), (32, .bool true), (31, undef), (30, undef), (29, undef), (28, .bool true), (27, .bool true), (26, undef), (25, undef), (24, .bool true), (23, .bool true), (22, undef), (21, undef), (20, .bool true), (19, .bool true), (18, .bool false), (18, .bool r2782), (17, .int .i64 a1), (16, .pointer (some ⟨b2619, 0, none⟩)), (12, .pointer (some ⟨b2619, 0, none⟩)), (10, .pointer (some ⟨b2605, 0, none⟩)), (1, .int .i64 a1), (2, .int .i64 a2), (3, .int .i64 a3), (4, .int .i64 a4)]) (by kernel_rfl) ?_
    refine r_forget [51, 12, 10, 1, 2, 3, 4] (l' := [(51, .bool true), (12, .pointer (some ⟨b2619, 0, none⟩)), (10, .pointer (some ⟨b2605, 0, none⟩)), (1, .int .i64 a1), (2, .int .i64 a2), (3, .int .i64 a3), (4, .int .i64 a4)]) (by kernel_rfl) ?_
    refine r_end rfl ?_
    refine W_condT (x := .tmp 51) (by kernel_rfl) rfl rfl ?_
    refine W_seq (by kernel_rfl) ?_
    refine W_region (R := r14_3) (by kernel_rfl) ?_
    refine r_run 3 (l' := [(54, .pointer (some ⟨b2619, 0, none⟩)), (53, .pointer (some ⟨b2619, 0, none⟩)), (52, .pointer (some ⟨b2619, 0, none⟩)), (51, .bool true), (12, .pointer (some ⟨b2619, 0, none⟩)), (10, .pointer (some ⟨b2605, 0, none⟩)), (1, .int .i64 a1), (2, .int .i64 a2), (3, .int .i64 a3), (4, .int .i64 a4)]) (by kernel_rfl) ?_
    refine r_step rfl trivial (o_ldb (v := .agg #[v2621]) hS2788 (i := 0) rfl rfl (by kernel_rfl)) ?_
    refine r_ex1 rfl trivial (o_stb (vs := [v2621]) (cells' := [v2621]) (L' := [.blk b2619 [v2621], .gs v2621 c2622 (csz api_Node), .blk b2605 [v2621], .blk b2602 [v1882]]) hS2788 (i := 2) rfl rfl rfl rfl (by kernel_rfl) (one_cons (hS2788.gone1 (i := 1) rfl) one_nil) rfl rfl rfl) ?_
    intro h2918 hS2919
    refine r_run 1 (l' := [(11, .int .i64 (-1)), (55, .agg #[v2621]), (54, .pointer (some ⟨b2619, 0, none⟩)), (53, .pointer (some ⟨b2619, 0, none⟩)), (52, .pointer (some ⟨b2619, 0, none⟩)), (51, .bool true), (12, .pointer (some ⟨b2619, 0, none⟩)), (10, .pointer (some ⟨b2605, 0, none⟩)), (1, .int .i64 a1), (2, .int .i64 a2), (3, .int .i64 a3), (4, .int .i64 a4)]) (by kernel_rfl) ?_
    refine r_forget [11, 10] (l' := [(11, .int .i64 (-1)), (10, .pointer (some ⟨b2605, 0, none⟩))]) (by kernel_rfl) ?_
    refine r_end rfl ?_
    refine W_ret (by kernel_rfl) ?_
    refine ⟨rfl, ?_⟩
    obtain rfl := Option.some.inj hm
    refine ⟨_, _, _, ResL.cell (v := .agg #[v2621]) rfl hS2919 (i := 2) rfl (by kernel_rfl) (ResL.tmp rfl (ResL.nil)), ((hS2919.front 1 rfl).takeN 1), ?_⟩
    exact ⟨v2621, c2622, rfl, rfl, (q2620.mono hZ2791)⟩

def r37_0 : List COp := [⟨none, some 4, (Go.Op.assign (Go.Operand.const (Go.Value.bool false)))⟩]
def r37_1 : List COp := [⟨none, some 6, (Go.Op.move (Go.Operand.tmp 0))⟩,
  ⟨none, some 7, (Go.Op.call { callee := (Go.Callee.builtin Go.Builtin.len), args := #[(Go.Operand.tmp 6)], argTypes := #[44] })⟩,
  ⟨none, some 8, (Go.Op.move (Go.Operand.tmp 1))⟩,
  ⟨none, some 9, (Go.Op.call { callee := (Go.Callee.builtin Go.Builtin.len), args := #[(Go.Operand.tmp 8)], argTypes := #[44] })⟩,
  ⟨none, some 10, (Go.Op.binOp Go.BinOp.neq 3 (Go.Operand.tmp 7) (Go.Operand.tmp 9) 3)⟩]
def r37_2 : List COp := [⟨none, some 4, (Go.Op.assign (Go.Operand.const (Go.Value.bool false)))⟩]
def r37_3 : List COp := [⟨none, some 11, (Go.Op.move (Go.Operand.tmp 0))⟩,
  ⟨none, some 12, (Go.Op.call { callee := (Go.Callee.builtin Go.Builtin.len), args := #[(Go.Operand.tmp 11)], argTypes := #[44] })⟩,
  ⟨none, some 13, (Go.Op.move (Go.Operand.const (Go.Value.int Go.IntKind.i64 0)))⟩]
def r37_4 : List COp := [⟨none, some 14, (Go.Op.binOp Go.BinOp.lss 3 (Go.Operand.tmp 13) (Go.Operand.tmp 12) 3)⟩]
def r37_5 : List COp := [⟨none, some 15, (Go.Op.move (Go.Operand.tmp 13))⟩,
  ⟨none, some 5, (Go.Op.assign (Go.Operand.tmp 15))⟩]
def r37_6 : List COpD := [⟨none, some 16, (Go.Op.move (Go.Operand.tmp 0)), .pure, false, true⟩,
  ⟨none, some 17, (Go.Op.move (Go.Operand.tmp 5)), .pure, false, true⟩,
  ⟨none, some 18, (Go.Op.indexAddr 44 (Go.Operand.tmp 16) (Go.Operand.tmp 17)), .pure, false, true⟩,
  ⟨none, some 19, (Go.Op.load 3 (Go.Operand.tmp 18)), .look, false, true⟩,
  ⟨none, some 20, (Go.Op.move (Go.Operand.tmp 1)), .pure, false, true⟩,
  ⟨none, some 21, (Go.Op.move (Go.Operand.tmp 5)), .pure, false, true⟩,
  ⟨none, some 22, (Go.Op.indexAddr 44 (Go.Operand.tmp 20) (Go.Operand.tmp 21)), .pure, false, true⟩,
  ⟨none, some 23, (Go.Op.load 3 (Go.Operand.tmp 22)), .look, false, true⟩,
  ⟨none, some 24, (Go.Op.binOp Go.BinOp.neq 3 (Go.Operand.tmp 19) (Go.Operand.tmp 23) 3), .pure, true, true⟩]
def r37_7 : List COp := [⟨none, some 4, (Go.Op.assign (Go.Operand.const (Go.Value.bool false)))⟩]
def r37_8 : List COp := [⟨none, some 25, (Go.Op.binOp Go.BinOp.add 3 (Go.Operand.tmp 13) (Go.Operand.const (Go.Value.int Go.IntKind.i64 1)) 3)⟩,
  ⟨none, some 13, (Go.Op.move (Go.Operand.tmp 25))⟩]
def r37_9 : List COp := [⟨none, some 4, (Go.Op.assign (Go.Operand.const (Go.Value.bool true)))⟩]
def slices_Equal_int_l0 (F : Nat) (a0 : List Int) (a1 : List Int) : Nat → Int → Int → Option (Sum Unit Bool)
  | 0, _, _ => none
  | n + 1, x3391, x3392 =>
    if x3392 < x3391 then
      if 0 ≤ x3392 ∧ x3392 < (a0.length : Int) then
        (a0[x3392.toNat]?).bind fun x3466 =>
        if 0 ≤ x3392 ∧ x3392 < (a1.length : Int) then
          (a1[x3392.toNat]?).bind fun x3473 =>
          if x3466 = x3473 then
            slices_Equal_int_l0 F a0 a1 n x3391 (w64 (x3392 + 1))
          else
            some (.inr false)
        else none
      else none
    else
      some (.inl ())
def slices_Equal_int (F : Nat) (a0 : List Int) (a1 : List Int) : Option Bool :=
  if (a0.length : Int) = (a1.length : Int) then
    ((slices_Equal_int_l0 F a0 a1 F (a0.length : Int) 0) : Option (Sum Unit Bool)).bind fun o => match o with
      | .inl () => some true
      | .inr y => some y
  else
    some false
theorem slices_Equal_int_ok (F : Nat) {h : AH} {Z : Zn} {a0 : List Int} {a1 : List Int} {v3004 : Value} {v3006 : Value} (hI : Inv Z h) (q3003 : RS (α := Int) Z v3004 a0) (q3005 : RS (α := Int) Z v3006 a1) {r : Bool} (hm : slices_Equal_int F a0 a1 = some r) :
    ∃ v h', callI Go.Proofs.Try.prog 37 [v3004, v3006] h = some (v, h') ∧ St h [] Z (0, 0) Z h' [] ∧ v = .bool r := by
  refine fn_plain (Q := fun v => v = .bool r) Go.Proofs.Try.func37 rfl rfl hI ?_
  intro hs hS
  unfold slices_Equal_int at hm
  refine W_seq (by kernel_rfl) ?_
  refine W_region (R := r37_0) (by kernel_rfl) ?_
  refine r_run 1 (l' := [(4, .bool false), (0, v3004), (1, v3006)]) (by kernel_rfl) ?_
  refine r_forget [0, 1] (l' := [(0, v3004), (1, v3006)]) (by kernel_rfl) ?_
  refine r_end rfl ?_
  refine W_seq (by kernel_rfl) ?_
  refine W_seq (by kernel_rfl) ?_
  refine W_region (R := r37_1) (by kernel_rfl) ?_
  refine r_run 1 (l' := [(6, v3004), (0, v3004), (1, v3006)]) (by kernel_rfl) ?_
  refine r_step rfl trivial (o_len rfl (RS.len q3003) ⟨_, Go.Proofs.Try.underlying44⟩) ?_
  refine r_run 1 (l' := [(8, v3006), (7, .int .i64 (a0.length : Int)), (6, v3004), (0, v3004), (1, v3006)]) (by kernel_rfl) ?_
  refine r_step rfl trivial (o_len rfl (RS.len q3005) ⟨_, Go.Proofs.Try.underlying44⟩) ?_
  rcases ifs hm with ⟨hp3202, hm⟩ | ⟨hp3202, hm⟩
  · refine r_step rfl trivial (o_cmp rfl rfl (c_neq_F hp3202)) ?_
    refine r_forget [10, 0, 1] (l' := [(10, .bool false), (0, v3004), (1, v3006)]) (by kernel_rfl) ?_
    refine r_end rfl ?_
    refine W_condF (x := .tmp 10) (by kernel_rfl) rfl rfl ?_
    refine W_skip (by kernel_rfl) ?_
    refine W_seq (by kernel_rfl) ?_
    refine W_seq (by kernel_rfl) ?_
    refine W_region (R := r37_3) (by kernel_rfl) ?_
    refine r_run 1 (l' := [(11, v3004), (10, .bool false), (0, v3004), (1, v3006)]) (by kernel_rfl) ?_
    refine r_step rfl trivial (o_len rfl (RS.len q3003) ⟨_, Go.Proofs.Try.underlying44⟩) ?_
    refine r_run 1 (l' := [(13, .int .i64 0), (12, .int .i64 (a0.length : Int)), (11, v3004), (10, .bool false), (0, v3004), (1, v3006)]) (by kernel_rfl) ?_
    refine r_forget [13, 12, 0, 1] (l' := [(13, .int .i64 0), (12, .int .i64 (a0.length : Int)), (0, v3004), (1, v3006)]) (by kernel_rfl) ?_
    refine r_end rfl ?_
    obtain ⟨o3389, ho3388, hm⟩ := obind hm
    refine W_join [] (fun l h => ∃ Z3482 : Zn, .inl () = o3389 ∧ l = [] ∧ St hs [] Z (0, 0) Z3482 h []) ?_ ?_
    · rintro l h3483 ⟨Z3482, rfl, rfl, hS3484⟩
      try dsimp only at hm
      refine W_seq (by kernel_rfl) ?_
      refine W_region (R := r37_9) (by kernel_rfl) ?_
      refine r_run 1 (l' := [(4, .bool true)]) (by kernel_rfl) ?_
      refine r_forget [4] (l' := [(4, .bool true)]) (by kernel_rfl) ?_
      refine r_end rfl ?_
      refine W_ret (by kernel_rfl) ?_
      refine ⟨rfl, ?_⟩
      obtain rfl := Option.some.inj hm
      refine ⟨_, _, _, ResL.tmp rfl (ResL.nil), hS3484, ?_⟩
      exact rfl
    · refine W_block (i := 0) (by kernel_rfl) ?_
      refine W_loop [0, 1, 12, 13] (fun n l h => ∃ Z3390 : Zn, ∃ x3391 : Int, ∃ x3392 : Int, slices_Equal_int_l0 F a0 a1 n x3391 x3392 = some o3389 ∧ l = [(0, v3004), (1, v3006), (12, .int .i64 x3391), (13, .int .i64 x3392)] ∧ St hs [] Z (0, 0) Z3390 h []) F (by kernel_rfl) ⟨_, (a0.length : Int), 0, ho3388, rfl, hS⟩ ?_
      rintro n3395 l h3393 ⟨Z3390, x3391, x3392, ho3388, rfl, hS3394⟩
      cases n3395 with
      | zero => cases (show none = some o3389 from ho3388)
      | succ n3395 =>
        rw [slices_Equal_int_l0] at ho3388
        refine W_seq (by kernel_rfl) ?_
        refine W_region (R := r37_4) (by kernel_rfl) ?_
        rcases ifs ho3388 with ⟨hp3397, ho3388⟩ | ⟨hp3397, ho3388⟩
        · refine r_step rfl trivial (o_cmp rfl rfl (c_lss_T hp3397)) ?_
          refine r_forget [14, 0, 1, 12, 13] (l' := [(14, .bool true), (0, v3004), (1, v3006), (12, .int .i64 x3391), (13, .int .i64 x3392)]) (by kernel_rfl) ?_
          refine r_end rfl ?_
          refine W_seq (by kernel_rfl) ?_
          refine W_condT (x := .tmp 14) (by kernel_rfl) rfl rfl ?_
          refine W_skip (by kernel_rfl) ?_
          refine W_seq (by kernel_rfl) ?_
          refine W_block (i := 1) (by kernel_rfl) ?_
          refine W_seq (by kernel_rfl) ?_
          refine W_region (R := r37_5) (by kernel_rfl) ?_
          refine r_run 2 (l' := [(5, .int .i64 x3392), (15, .int .i64 x3392), (14, .bool true), (0, v3004), (1, v3006), (12, .int .i64 x3391), (13, .int .i64 x3392)]) (by kernel_rfl) ?_
          refine r_forget [5, 0, 1, 12, 13] (l' := [(5, .int .i64 x3392), (0, v3004), (1, v3006), (12, .int .i64 x3391), (13, .int .i64 x3392)]) (by kernel_rfl) ?_
          refine r_end rfl ?_
          refine W_seq (by kernel_rfl) ?_
          refine W_regionD (R := r37_6) (by kernel_rfl) hS3394 ?_
          intro bs3461 h3462 hlv3464 hS3463
          refine d_run 2 (l' := [(17, .int .i64 x3392), (16, v3004), (5, .int .i64 x3392), (0, v3004), (1, v3006), (12, .int .i64 x3391), (13, .int .i64 x3392)]) (by kernel_rfl) ?_
          obtain ⟨hc3465, ho3388⟩ := chk ho3388
          refine d_val rfl trivial (o_index rfl rfl (by kernel_rfl : slTy _ _ = some (csz Int)) (RS.based (q3003.mono hS3394.zle) (by omega)) hc3465.1 hc3465.2) ?_
          obtain ⟨x3466, hx3467, ho3388⟩ := obind ho3388
          obtain ⟨cs3468, hc3469, he3470⟩ := RS.el (q3003.mono hS3394.zle) hS3463.inv (i := x3392) hx3467
          obtain rfl := rc_Int hc3469
          refine d_look rfl rfl trivial (o_lde (w := .int .i64 x3466) he3470 rfl (by kernel_rfl)) ?_
          refine d_run 2 (l' := [(21, .int .i64 x3392), (20, v3006), (19, .int .i64 x3466), (18, .pointer (some (elemA v3004 x3392 (csz Int) 0))), (17, .int .i64 x3392), (16, v3004), (5, .int .i64 x3392), (0, v3004), (1, v3006), (12, .int .i64 x3391), (13, .int .i64 x3392)]) (by kernel_rfl) ?_
          obtain ⟨hc3472, ho3388⟩ := chk ho3388
          refine d_val rfl trivial (o_index rfl rfl (by kernel_rfl : slTy _ _ = some (csz Int)) (RS.based (q3005.mono hS3394.zle) (by omega)) hc3472.1 hc3472.2) ?_
          obtain ⟨x3473, hx3474, ho3388⟩ := obind ho3388
          obtain ⟨cs3475, hc3476, he3477⟩ := RS.el (q3005.mono hS3394.zle) hS3463.inv (i := x3392) hx3474
          obtain rfl := rc_Int hc3476
          refine d_look rfl rfl trivial (o_lde (w := .int .i64 x3473) he3477 rfl (by kernel_rfl)) ?_
          rcases ifs ho3388 with ⟨hp3479, ho3388⟩ | ⟨hp3479, ho3388⟩
          · refine d_val rfl trivial (o_cmp rfl rfl (c_neq_F hp3479)) ?_
            refine d_forget [24, 0, 1, 12, 13] (l' := [(24, .bool false), (0, v3004), (1, v3006), (12, .int .i64 x3391), (13, .int .i64 x3392)]) (by kernel_rfl) ?_
            refine d_end rfl ?_
            have hS3480 := hS3463.unres
            refine W_condF (x := .tmp 24) (by kernel_rfl) rfl rfl ?_
            refine W_skip (by kernel_rfl) ?_
            refine W_region (R := r37_8) (by kernel_rfl) ?_
            refine r_run 2 (l' := [(13, .int .i64 (w64 (x3392 + 1))), (25, .int .i64 (w64 (x3392 + 1))), (24, .bool false), (0, v3004), (1, v3006), (12, .int .i64 x3391), (13, .int .i64 x3392)]) (by kernel_rfl) ?_
            refine r_forget [13, 0, 1, 12] (l' := [(13, .int .i64 (w64 (x3392 + 1))), (0, v3004), (1, v3006), (12, .int .i64 x3391)]) (by kernel_rfl) ?_
            refine r_end rfl ?_
            exact ⟨n3395, Nat.lt_succ_self _, ⟨_, x3391, w64 (x3392 + 1), ho3388, rfl, hS3480⟩⟩
          · refine d_val rfl trivial (o_cmp rfl rfl (c_neq_T hp3479)) ?_
            refine d_forget [24, 0, 1, 12, 13] (l' := [(24, .bool true), (0, v3004), (1, v3006), (12, .int .i64 x3391), (13, .int .i64 x3392)]) (by kernel_rfl) ?_
            refine d_end rfl ?_
            have hS3481 := hS3463.unres
            refine W_condT (x := .tmp 24) (by kernel_rfl) rfl rfl ?_
            refine W_seq (by kernel_rfl) ?_
            refine W_region (R := r37_7) (by kernel_rfl) ?_
            refine r_run 1 (l' := [(4, .bool false), (24, .bool true), (0, v3004), (1, v3006), (12, .int .i64 x3391), (13, .int .i64 x3392)]) (by kernel_rfl) ?_
            refine r_forget [4] (l' := [(4, .bool false)]) (by kernel_rfl) ?_
            refine r_end rfl ?_
            refine W_ret (by kernel_rfl) ?_
            refine blkX_ret ?_
            refine blkX_ret ?_
            refine ⟨rfl, ?_⟩
            obtain rfl := Option.some.inj ho3388
            obtain rfl := Option.some.inj hm
            refine ⟨_, _, _, ResL.tmp rfl (ResL.nil), hS3481, ?_⟩
            exact rfl
        · refine r_step rfl trivial (o_cmp rfl rfl (c_lss_F hp3397)) ?_
          refine r_forget [14, 0, 1, 12, 13] (l' := [(14, .bool false), (0, v3004), (1, v3006), (12, .int .i64 x3391), (13, .int .i64 x3392)]) (by kernel_rfl) ?_
          refine r_end rfl ?_
          refine W_seq (by kernel_rfl) ?_
          refine W_condF (x := .tmp 14) (by kernel_rfl) rfl rfl ?_
          refine W_exit (i := 0) (by kernel_rfl) ?_
          refine blkX_hit ?_
          obtain rfl := Option.some.inj ho3388
          exact ⟨_, rfl, rfl, hS3394⟩
  · refine r_step rfl trivial (o_cmp rfl rfl (c_neq_T hp3202)) ?_
    refine r_forget [10, 0, 1] (l' := [(10, .bool true), (0, v3004), (1, v3006)]) (by kernel_rfl) ?_
    refine r_end rfl ?_
    refine W_condT (x := .tmp 10) (by kernel_rfl) rfl rfl ?_
    refine W_seq (by kernel_rfl) ?_
    refine W_region (R := r37_2) (by kernel_rfl) ?_
    refine r_run 1 (l' := [(4, .bool false), (10, .bool true), (0, v3004), (1, v3006)]) (by kernel_rfl) ?_
    refine r_forget [4] (l' := [(4, .bool false)]) (by kernel_rfl) ?_
    refine r_end rfl ?_
    refine W_ret (by kernel_rfl) ?_
    refine ⟨rfl, ?_⟩
    obtain rfl := Option.some.inj hm
    refine ⟨_, _, _, ResL.tmp rfl (ResL.nil), hS, ?_⟩
    exact rfl

end Go.Proofs.Ytpijjenaadkjdaa.M
