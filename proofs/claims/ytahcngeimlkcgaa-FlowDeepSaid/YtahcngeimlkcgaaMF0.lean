/- Printed by a program of this session: Go functions as Lean functions over plain data, and that the calls come to them. -/
import Derived.Test.YtahcngeimlkcgaaSyJ
import Derived.Test.YtahcngeimlkcgaaChecked
import Derived.KernelRfl
import Derived.Test.YtahcngeimlkcgaaMS1
namespace Go.Proofs.Ytahcngeimlkcgaa.M
open Go Am Sy
open Sy.Cell (rc)
set_option linter.unusedVariables false
set_option linter.unusedSimpArgs false
set_option maxRecDepth 20000

structure api_Node where
  Kind : Int
  From : Int
  To : Int
  Up : Int
  Kids : List Int
  Key : Bool
  deriving DecidableEq, Inhabited
instance : Cell api_Node where
  size := 6
  rc Z cs x := ∃ v4, RS (α := Int) Z v4 x.Kids ∧ cs = [V x.Kind, V x.From, V x.To, V x.Up, v4, .bool x.Key]
  len h := by obtain ⟨v4, qv4, h⟩ := h; rw [h]; rfl
  mono hz h := by obtain ⟨v4, qv4, h⟩ := h; exact ⟨v4, qv4.mono hz, h⟩
  one h := by obtain ⟨v4, qv4, h⟩ := h; subst h; exact (one_cons rfl (one_cons rfl (one_cons rfl (one_cons rfl (one_cons qv4.one1 (one_cons rfl one_nil))))))
  pos := by decide
theorem rc_api_Node {Z : Zn} {cs : List Value} {x : api_Node} (h : rc Z cs x) : ∃ v4, RS (α := Int) Z v4 x.Kids ∧ cs = [V x.Kind, V x.From, V x.To, V x.Up, v4, .bool x.Key] := h
abbrev K42 (v0 : Value) (x : api_Node) : List Value := [V x.Kind, V x.From, V x.To, V x.Up, v0, .bool x.Key]
structure arena_Tree where
  Nodes : List api_Node
  deriving DecidableEq, Inhabited
instance : Cell arena_Tree where
  size := 1
  rc Z cs x := ∃ v0, RS (α := api_Node) Z v0 x.Nodes ∧ cs = [v0]
  len h := by obtain ⟨v0, qv0, h⟩ := h; rw [h]; rfl
  mono hz h := by obtain ⟨v0, qv0, h⟩ := h; exact ⟨v0, qv0.mono hz, h⟩
  one h := by obtain ⟨v0, qv0, h⟩ := h; subst h; exact (one_cons qv0.one1 one_nil)
  pos := by decide
theorem rc_arena_Tree {Z : Zn} {cs : List Value} {x : arena_Tree} (h : rc Z cs x) : ∃ v0, RS (α := api_Node) Z v0 x.Nodes ∧ cs = [v0] := h
abbrev K29 (v0 : Value) (x : arena_Tree) : List Value := [v0]
structure arena_forest where
  Tree : arena_Tree
  deriving DecidableEq, Inhabited
instance : Cell arena_forest where
  size := 1
  rc Z cs x := ∃ v0, RS (α := api_Node) Z v0 x.Tree.Nodes ∧ cs = [v0]
  len h := by obtain ⟨v0, qv0, h⟩ := h; rw [h]; rfl
  mono hz h := by obtain ⟨v0, qv0, h⟩ := h; exact ⟨v0, qv0.mono hz, h⟩
  one h := by obtain ⟨v0, qv0, h⟩ := h; subst h; exact (one_cons qv0.one1 one_nil)
  pos := by decide
theorem rc_arena_forest {Z : Zn} {cs : List Value} {x : arena_forest} (h : rc Z cs x) : ∃ v0, RS (α := api_Node) Z v0 x.Tree.Nodes ∧ cs = [v0] := h
abbrev K65 (v0 : Value) (x : arena_forest) : List Value := [v0]
structure api_Diag where
  Code : Int
  From : Int
  To : Int
  deriving DecidableEq, Inhabited
instance : Cell api_Diag where
  size := 3
  rc Z cs x := cs = [V x.Code, V x.From, V x.To]
  len h := by rw [h]; rfl
  mono _ h := h
  one h := by rw [h]; rfl
  pos := by decide
theorem rc_api_Diag {Z : Zn} {cs : List Value} {x : api_Diag} (h : rc Z cs x) : cs = [V x.Code, V x.From, V x.To] := h
abbrev K35 (x : api_Diag) : List Value := [V x.Code, V x.From, V x.To]
structure flow_reader where
  l_ : List api_Token
  end_ : Int
  t_ : arena_Tree
  d_ : List api_Diag
  deriving DecidableEq, Inhabited
instance : Cell flow_reader where
  size := 4
  rc Z cs x := ∃ v0, RS (α := api_Token) Z v0 x.l_ ∧ ∃ v2, RS (α := api_Node) Z v2 x.t_.Nodes ∧ ∃ v3, RS (α := api_Diag) Z v3 x.d_ ∧ cs = [v0, V x.end_, v2, v3]
  len h := by obtain ⟨v0, qv0, v2, qv2, v3, qv3, h⟩ := h; rw [h]; rfl
  mono hz h := by obtain ⟨v0, qv0, v2, qv2, v3, qv3, h⟩ := h; exact ⟨v0, qv0.mono hz, v2, qv2.mono hz, v3, qv3.mono hz, h⟩
  one h := by obtain ⟨v0, qv0, v2, qv2, v3, qv3, h⟩ := h; subst h; exact (one_cons qv0.one1 (one_cons rfl (one_cons qv2.one1 (one_cons qv3.one1 one_nil))))
  pos := by decide
theorem rc_flow_reader {Z : Zn} {cs : List Value} {x : flow_reader} (h : rc Z cs x) : ∃ v0, RS (α := api_Token) Z v0 x.l_ ∧ ∃ v2, RS (α := api_Node) Z v2 x.t_.Nodes ∧ ∃ v3, RS (α := api_Diag) Z v3 x.d_ ∧ cs = [v0, V x.end_, v2, v3] := h
abbrev K58 (v0 v1 v2 : Value) (x : flow_reader) : List Value := [v0, V x.end_, v1, v2]

theorem eqT_api_Diag_35 {x y : api_Diag} (h : x = y) : aBin Go.Proofs.Try.prog .eql 35 (.agg #[V x.Code, V x.From, V x.To]) (.agg #[V y.Code, V y.From, V y.To]) = some (.bool true) := by
  subst h
  refine eq_agg Go.Proofs.Try.underlying35 (by kernel_rfl) (by kernel_rfl) (w := true) ?_
  refine fld_T (by decide) rfl rfl ((eqf_int ⟨_, Go.Proofs.Try.underlying3⟩).trans (by simp )) ?_
  refine fld_T (by decide) rfl rfl ((eqf_int ⟨_, Go.Proofs.Try.underlying3⟩).trans (by simp )) ?_
  refine fld_T (by decide) rfl rfl ((eqf_int ⟨_, Go.Proofs.Try.underlying3⟩).trans (by simp )) ?_
  rfl
theorem eqF_api_Diag_35 {x y : api_Diag} (h : ¬ x = y) : aBin Go.Proofs.Try.prog .eql 35 (.agg #[V x.Code, V x.From, V x.To]) (.agg #[V y.Code, V y.From, V y.To]) = some (.bool false) := by
  refine eq_agg Go.Proofs.Try.underlying35 (by kernel_rfl) (by kernel_rfl) (w := false) ?_
  by_cases h0 : x.Code = y.Code
  case neg => exact fld_F (by decide) rfl rfl ((eqf_int ⟨_, Go.Proofs.Try.underlying3⟩).trans (by simp [h0]))
  refine fld_T (by decide) rfl rfl ((eqf_int ⟨_, Go.Proofs.Try.underlying3⟩).trans (by simp [h0])) ?_
  by_cases h1 : x.From = y.From
  case neg => exact fld_F (by decide) rfl rfl ((eqf_int ⟨_, Go.Proofs.Try.underlying3⟩).trans (by simp [h1]))
  refine fld_T (by decide) rfl rfl ((eqf_int ⟨_, Go.Proofs.Try.underlying3⟩).trans (by simp [h1])) ?_
  by_cases h2 : x.To = y.To
  case neg => exact fld_F (by decide) rfl rfl ((eqf_int ⟨_, Go.Proofs.Try.underlying3⟩).trans (by simp [h2]))
  refine fld_T (by decide) rfl rfl ((eqf_int ⟨_, Go.Proofs.Try.underlying3⟩).trans (by simp [h2])) ?_
  exact absurd (by cases x; cases y; simp_all) h
theorem neT_api_Diag_35 {x y : api_Diag} (h : ¬ x = y) : aBin Go.Proofs.Try.prog .neq 35 (.agg #[V x.Code, V x.From, V x.To]) (.agg #[V y.Code, V y.From, V y.To]) = some (.bool true) := by
  refine ne_agg Go.Proofs.Try.underlying35 (by kernel_rfl) (by kernel_rfl) (w := false) ?_
  by_cases h0 : x.Code = y.Code
  case neg => exact fld_F (by decide) rfl rfl ((eqf_int ⟨_, Go.Proofs.Try.underlying3⟩).trans (by simp [h0]))
  refine fld_T (by decide) rfl rfl ((eqf_int ⟨_, Go.Proofs.Try.underlying3⟩).trans (by simp [h0])) ?_
  by_cases h1 : x.From = y.From
  case neg => exact fld_F (by decide) rfl rfl ((eqf_int ⟨_, Go.Proofs.Try.underlying3⟩).trans (by simp [h1]))
  refine fld_T (by decide) rfl rfl ((eqf_int ⟨_, Go.Proofs.Try.underlying3⟩).trans (by simp [h1])) ?_
  by_cases h2 : x.To = y.To
  case neg => exact fld_F (by decide) rfl rfl ((eqf_int ⟨_, Go.Proofs.Try.underlying3⟩).trans (by simp [h2]))
  refine fld_T (by decide) rfl rfl ((eqf_int ⟨_, Go.Proofs.Try.underlying3⟩).trans (by simp [h2])) ?_
  exact absurd (by cases x; cases y; simp_all) h
theorem neF_api_Diag_35 {x y : api_Diag} (h : x = y) : aBin Go.Proofs.Try.prog .neq 35 (.agg #[V x.Code, V x.From, V x.To]) (.agg #[V y.Code, V y.From, V y.To]) = some (.bool false) := by
  subst h
  refine ne_agg Go.Proofs.Try.underlying35 (by kernel_rfl) (by kernel_rfl) (w := true) ?_
  refine fld_T (by decide) rfl rfl ((eqf_int ⟨_, Go.Proofs.Try.underlying3⟩).trans (by simp )) ?_
  refine fld_T (by decide) rfl rfl ((eqf_int ⟨_, Go.Proofs.Try.underlying3⟩).trans (by simp )) ?_
  refine fld_T (by decide) rfl rfl ((eqf_int ⟨_, Go.Proofs.Try.underlying3⟩).trans (by simp )) ?_
  rfl

def r12_0 : List COp := [u 2 (.alloc 29)]
def r12_1 : List COp := [u 3 (.move (t 0)), u 4 (.binOp .lss 3 (t 3) (ci 0) 3), u 5 (.move (t 4)), gN 5 (some 6) (.move (t 0)), gN 5 (some 7) (.binOp .gtr 3 (t 6) (ci 32768) 3), u 8 (.pick (t 5) (.const (.bool true)) (t 7))]
def r12_2 : List COp := [u 0 (.assign (ci 0))]
def r12_3 : List COp := [u 9 (.move (t 0)), u 10 (.build 42 #[(0, (ci 1)), (2, (t 9)), (3, (ci (-1)))]), u 11 (.buildSlice 27 1 #[(0, (t 10))]), u 12 (.build 29 #[(0, (t 11))]), o (.store 29 (t 2) (t 12))]
def arena_New (F : Nat) (a0 : Int) : Option arena_Tree :=
  ((if a0 < (0 : Int) then
      some 0
    else
      if (32768 : Int) < a0 then
        some 0
      else
        some a0) : Option Int).bind fun o => match o with
    | x9574 => some (⟨[(⟨1, 0, x9574, (-1), [], false⟩ : api_Node)]⟩ : arena_Tree)
theorem arena_New_ok (F : Nat) {h : AH} {Z : Zn} {a0 : Int} (hP : Pre Z h []) {r : arena_Tree} (hm : arena_New F a0 = some r) :
    ∃ v h' Z' A', callI Go.Proofs.Try.prog 12 [V a0] h = some (v, h') ∧ St h (idsL []) Z (0, 0) Z' h' A' ∧ ∃ v9562 : Value, ∃ c9563 : List Value, .agg #[v9562] = v ∧ A' = [.gs v9562 c9563 (csz api_Node)] ∧ RCs (α := api_Node) Z' c9563 r.Nodes := by
  refine fn_intro (A := []) (Q := fun v Z' A' => ∃ v9562 : Value, ∃ c9563 : List Value, .agg #[v9562] = v ∧ A' = [.gs v9562 c9563 (csz api_Node)] ∧ RCs (α := api_Node) Z' c9563 r.Nodes) Go.Proofs.Try.func12 rfl rfl (by kernel_rfl) hP ?_
  intro hs hS
  unfold arena_New at hm
  replace hS : St hs [] Z (0, 0) Z hs [] := hS
  refine sr r12_0 ?_
  refine r_blk rfl trivial (o_alloc (cs := [.slice none 0 0]) (by kernel_rfl)) hS ?_
  intro b9564 h9565 hS9566
  refine xf [(2, Pt b9564 0), (0, V a0)] ?_
  refine sq ?_
  obtain ⟨o9570, ho9569, hm⟩ := obind hm
  refine W_seqJoin0 [0, 2] (fun l h => ∃ Z9573 : Zn, ∃ x9574 : Int, ∃ b9575 : Nat, x9574 = o9570 ∧ l = [(0, V x9574), (2, Pt b9575 0)] ∧ St hs [] Z (0, 0) Z9573 h [.blk b9575 [.slice none 0 0]]) (by kernel_rfl) ?_ ?_
  rintro l h9576 ⟨Z9573, x9574, b9575, rfl, rfl, hS9577⟩
  try dsimp only at hm
  refine sr r12_3 ?_
  refine xq 2 [(10, .agg #[V 1, V 0, V x9574, V (-1), .slice none 0 0, .bool false]), (2, Pt b9575 0)] ?_
  have q9581 : RCs (α := api_Node) Z9573 [V 1, V 0, V x9574, V (-1), .slice none 0 0, .bool false] [(⟨1, 0, x9574, (-1), [], false⟩ : api_Node)] := RCs.cons (cs := [V 1, V 0, V x9574, V (-1), .slice none 0 0, .bool false]) ⟨_, (RS.nil0 _), rfl⟩ (RCs.nil0 _)
  refine r_row rfl trivial (o_bs (cells := [V 1, V 0, V x9574, V (-1), .slice none 0 0, .bool false]) (s := 6) (by kernel_rfl)) (by kernel_rfl) hS9577 ?_
  intro v9578 h9579 hS9580
  replace hS9580 : St _ _ _ _ _ _ [.gs v9578 [V 1, V 0, V x9574, V (-1), .slice none 0 0, .bool false] (csz api_Node), .blk b9575 [.slice none 0 0]] := hS9580
  refine r_step rfl trivial (o_build (v := .agg #[v9578]) rfl (CA.cons (cs := [v9578]) (hS9580.gcell1 (i := 0) rfl) (CA.nil0)) (by kernel_rfl)) ?_
  refine r_ex1 rfl trivial (o_stb (vs := [v9578]) (cells' := [v9578]) (L' := [.gs v9578 [V 1, V 0, V x9574, V (-1), .slice none 0 0, .bool false] (csz api_Node), .blk b9575 [v9578]]) hS9580 (i := 1) rfl rfl rfl rfl (by kernel_rfl) (one_cons (hS9580.gone1 (i := 0) rfl) one_nil) rfl rfl rfl) ?_
  intro h9583 hS9584
  refine xf [(2, Pt b9575 0)] ?_
  refine rt ?_
  refine ⟨rfl, ?_⟩
  obtain rfl := Option.some.inj hm
  refine ⟨_, _, _, ResL.cell (v := .agg #[v9578]) rfl hS9584 (i := 1) rfl (by kernel_rfl) (ResL.nil), (hS9584.takeN 1), ?_⟩
  exact ⟨v9578, [V 1, V 0, V x9574, V (-1), .slice none 0 0, .bool false], rfl, rfl, q9581⟩
  refine rg r12_1 ?_
  refine xq 1 [(3, V a0), (2, Pt b9564 0), (0, V a0)] ?_
  rcases ifs ho9569 with ⟨hp9571, ho9569⟩ | ⟨hp9571, ho9569⟩
  refine r_step rfl trivial (o_cmp rfl rfl (c_lss_T hp9571)) ?_
  refine xe 4 [(8, .bool true), (2, Pt b9564 0), (0, V a0)] ?_
  refine cT 8 rfl ?_
  refine rg r12_2 ?_
  refine xe 1 [(0, V 0), (2, Pt b9564 0)] ?_
  obtain rfl := Option.some.inj ho9569
  exact ⟨_, 0, b9564, rfl, rfl, hS9566⟩
  refine r_step rfl trivial (o_cmp rfl rfl (c_lss_F hp9571)) ?_
  refine xq 2 [(6, V a0), (5, .bool false), (2, Pt b9564 0), (0, V a0)] ?_
  rcases ifs ho9569 with ⟨hp9572, ho9569⟩ | ⟨hp9572, ho9569⟩
  refine r_step rfl rfl (o_cmp rfl rfl (c_gtr_T hp9572)) ?_
  refine xe 1 [(8, .bool true), (2, Pt b9564 0), (0, V a0)] ?_
  refine cT 8 rfl ?_
  refine rg r12_2 ?_
  refine xe 1 [(0, V 0), (2, Pt b9564 0)] ?_
  obtain rfl := Option.some.inj ho9569
  exact ⟨_, 0, b9564, rfl, rfl, hS9566⟩
  refine r_step rfl rfl (o_cmp rfl rfl (c_gtr_F hp9572)) ?_
  refine xe 1 [(8, .bool false), (2, Pt b9564 0), (0, V a0)] ?_
  refine kF 8 rfl ?_
  obtain rfl := Option.some.inj ho9569
  exact ⟨_, a0, b9564, rfl, rfl, hS9566⟩

def r53_0 : List COp := [u 2 (.assign (.const (.slice none 0 0)))]
def r53_1 : List COp := [u 3 (.move (t 0)), u 4 (.binOp .eql 27 (t 3) (.const (.slice none 0 0)) 27)]
def r53_2 : List COp := [u 2 (.assign (.const (.slice none 0 0)))]
def r53_3 : List COp := [u 5 (.buildSlice 27 0 #[]), u 6 (.move (t 0)), u 7 (cb .append #[(t 5), (t 6)] #[27, 27]), u 2 (.assign (t 7))]
def slices_Clone_api_Node (F : Nat) (a0 : List api_Node) : Option (List api_Node) :=
  if ([] : List api_Node).length + a0.length ≤ 2199023255552 then
    some (([] : List api_Node) ++ a0)
  else none
theorem slices_Clone_api_Node_ok (F : Nat) {h : AH} {Z : Zn} {a0 : List api_Node} {v9613 : Value} (hP : Pre Z h []) (q9612 : RS (α := api_Node) Z v9613 a0) {r : (List api_Node)} (hm : slices_Clone_api_Node F a0 = some r) :
    ∃ v h' Z' A', callI Go.Proofs.Try.prog 53 [v9613] h = some (v, h') ∧ St h (idsL []) Z (0, 0) Z' h' A' ∧ ∃ v9632 : Value, ∃ c9633 : List Value, v9632 = v ∧ A' = [.gs v9632 c9633 (csz api_Node)] ∧ RCs (α := api_Node) Z' c9633 r := by
  refine fn_intro (A := []) (Q := fun v Z' A' => ∃ v9632 : Value, ∃ c9633 : List Value, v9632 = v ∧ A' = [.gs v9632 c9633 (csz api_Node)] ∧ RCs (α := api_Node) Z' c9633 r) Go.Proofs.Try.func53 rfl rfl (by kernel_rfl) hP ?_
  intro hs hS
  unfold slices_Clone_api_Node at hm
  replace hS : St hs [] Z (0, 0) Z hs [] := hS
  refine sr r53_0 ?_
  refine xe 1 [(0, v9613)] ?_
  refine sq ?_
  refine sr r53_1 ?_
  refine xq 1 [(3, v9613), (0, v9613)] ?_
  rcases nil_or q9612 with ⟨hn9636, hv9637⟩ | hv9637
  replace hm : some [] = some r := by rw [hn9636] at hm; simpa using hm
  refine r_step rfl trivial (o_cmp rfl rfl (c_nilT ⟨_, Go.Proofs.Try.underlying27⟩ hv9637)) ?_
  refine xf [(4, .bool true), (0, v9613)] ?_
  refine cT 4 rfl ?_
  refine sr r53_2 ?_
  refine xe 1 [(2, .slice none 0 0)] ?_
  refine rt ?_
  refine ⟨rfl, ?_⟩
  have hS9638 := hS.nilGs (csz api_Node)
  obtain rfl := Option.some.inj hm
  refine ⟨_, _, _, ResL.tmp rfl (ResL.nil), hS9638, ?_⟩
  exact ⟨(.slice none 0 0), [], rfl, rfl, (RCs.nil0 _)⟩
  refine r_step rfl trivial (o_cmp rfl rfl (c_nilF ⟨_, Go.Proofs.Try.underlying27⟩ hv9637)) ?_
  refine xf [(4, .bool false), (0, v9613)] ?_
  refine kF 4 rfl ?_
  refine sr r53_3 ?_
  have q9643 : RCs (α := api_Node) Z [] [] := RCs.nil0 _
  refine r_row rfl trivial (o_bs (cells := []) (s := 6) (by kernel_rfl)) (by kernel_rfl) hS ?_
  intro v9640 h9641 hS9642
  replace hS9642 : St _ _ _ _ _ _ [.gs v9640 [] (csz api_Node)] := hS9642
  refine xq 1 [(6, v9613), (5, v9640)] ?_
  obtain ⟨c9646, nw9645⟩ := RS.news q9612 (hS9642).inv
  obtain ⟨hc9652, hm⟩ := chk hm
  refine r_ex3 rfl trivial (o_app (ys := a0) (by_ := 64) hS9642 (i := 0) rfl q9643 nw9645 rfl rfl (by kernel_rfl) (by omega) (by omega)) ?_
  rintro v9647 c9648 h9649 ⟨q9651, hS9650⟩
  replace hS9650 : St _ _ _ _ _ _ [.gs v9647 c9648 (csz api_Node)] := hS9650
  refine xe 1 [(2, v9647)] ?_
  refine rt ?_
  refine ⟨rfl, ?_⟩
  obtain rfl := Option.some.inj hm
  refine ⟨_, _, _, ResL.tmp rfl (ResL.nil), hS9650, ?_⟩
  exact ⟨v9647, c9648, rfl, rfl, q9651⟩

def r54_0 : List COp := [u 2 (.assign (.const (.slice none 0 0)))]
def r54_1 : List COp := [u 3 (.move (t 0)), u 4 (.binOp .eql 40 (t 3) (.const (.slice none 0 0)) 40)]
def r54_2 : List COp := [u 2 (.assign (.const (.slice none 0 0)))]
def r54_3 : List COp := [u 5 (.buildSlice 40 0 #[]), u 6 (.move (t 0)), u 7 (cb .append #[(t 5), (t 6)] #[40, 40]), u 2 (.assign (t 7))]
def slices_Clone_int (F : Nat) (a0 : List Int) : Option (List Int) :=
  if ([] : List Int).length + a0.length ≤ 17592186044416 then
    some (([] : List Int) ++ a0)
  else none
theorem slices_Clone_int_ok (F : Nat) {h : AH} {Z : Zn} {a0 : List Int} {v9702 : Value} (hP : Pre Z h []) (q9701 : RS (α := Int) Z v9702 a0) {r : (List Int)} (hm : slices_Clone_int F a0 = some r) :
    ∃ v h' Z' A', callI Go.Proofs.Try.prog 54 [v9702] h = some (v, h') ∧ St h (idsL []) Z (0, 0) Z' h' A' ∧ ∃ v9721 : Value, ∃ c9722 : List Value, v9721 = v ∧ A' = [.gs v9721 c9722 (csz Int)] ∧ RCs (α := Int) Z' c9722 r := by
  refine fn_intro (A := []) (Q := fun v Z' A' => ∃ v9721 : Value, ∃ c9722 : List Value, v9721 = v ∧ A' = [.gs v9721 c9722 (csz Int)] ∧ RCs (α := Int) Z' c9722 r) Go.Proofs.Try.func54 rfl rfl (by kernel_rfl) hP ?_
  intro hs hS
  unfold slices_Clone_int at hm
  replace hS : St hs [] Z (0, 0) Z hs [] := hS
  refine sr r54_0 ?_
  refine xe 1 [(0, v9702)] ?_
  refine sq ?_
  refine sr r54_1 ?_
  refine xq 1 [(3, v9702), (0, v9702)] ?_
  rcases nil_or q9701 with ⟨hn9725, hv9726⟩ | hv9726
  replace hm : some [] = some r := by rw [hn9725] at hm; simpa using hm
  refine r_step rfl trivial (o_cmp rfl rfl (c_nilT ⟨_, Go.Proofs.Try.underlying40⟩ hv9726)) ?_
  refine xf [(4, .bool true), (0, v9702)] ?_
  refine cT 4 rfl ?_
  refine sr r54_2 ?_
  refine xe 1 [(2, .slice none 0 0)] ?_
  refine rt ?_
  refine ⟨rfl, ?_⟩
  have hS9727 := hS.nilGs (csz Int)
  obtain rfl := Option.some.inj hm
  refine ⟨_, _, _, ResL.tmp rfl (ResL.nil), hS9727, ?_⟩
  exact ⟨(.slice none 0 0), [], rfl, rfl, (RCs.nil0 _)⟩
  refine r_step rfl trivial (o_cmp rfl rfl (c_nilF ⟨_, Go.Proofs.Try.underlying40⟩ hv9726)) ?_
  refine xf [(4, .bool false), (0, v9702)] ?_
  refine kF 4 rfl ?_
  refine sr r54_3 ?_
  have q9732 : RCs (α := Int) Z [] [] := RCs.nil0 _
  refine r_row rfl trivial (o_bs (cells := []) (s := 1) (by kernel_rfl)) (by kernel_rfl) hS ?_
  intro v9729 h9730 hS9731
  replace hS9731 : St _ _ _ _ _ _ [.gs v9729 [] (csz Int)] := hS9731
  refine xq 1 [(6, v9702), (5, v9729)] ?_
  obtain ⟨c9735, nw9734⟩ := RS.news q9701 (hS9731).inv
  obtain ⟨hc9741, hm⟩ := chk hm
  refine r_ex3 rfl trivial (o_app (ys := a0) (by_ := 8) hS9731 (i := 0) rfl q9732 nw9734 rfl rfl (by kernel_rfl) (by omega) (by omega)) ?_
  rintro v9736 c9737 h9738 ⟨q9740, hS9739⟩
  replace hS9739 : St _ _ _ _ _ _ [.gs v9736 c9737 (csz Int)] := hS9739
  refine xe 1 [(2, v9736)] ?_
  refine rt ?_
  refine ⟨rfl, ?_⟩
  obtain rfl := Option.some.inj hm
  refine ⟨_, _, _, ResL.tmp rfl (ResL.nil), hS9739, ?_⟩
  exact ⟨v9736, c9737, rfl, rfl, q9740⟩

def r25_0 : List COp := [u 1 (.box 29 (t 0)), u 2 (.assign (.const (.pointer none)))]
def r25_1 : List COp := [u 6 (.fieldAddr 29 (t 1) 0), u 7 (.load 27 (t 6)), u 8 (cf 53 #[(t 7)] #[27]), u 9 (.build 29 #[(0, (t 8))]), u 10 (.build 65 #[(0, (t 9))]), u 11 (.box 65 (t 10)), u 3 (.assign (t 11))]
def r25_2 : List COp := [u 12 (.move (t 3)), u 13 (.nilCheck (t 12)), u 14 (.fieldAddr 65 (t 13) 0), u 15 (.fieldAddr 29 (t 14) 0), u 16 (.load 27 (t 15)), u 17 (cb .len #[(t 16)] #[27]), u 18 (.move (ci 0))]
def r25_3 : List COp := [u 19 (.binOp .lss 3 (t 18) (t 17) 3)]
def r25_4 : List COp := [u 20 (.move (t 18)), u 21 (.indexAddr 27 (t 16) (t 18)), u 22 (.load 42 (t 21)), u 5 (.alloc 42), u 4 (.assign (t 20)), o (.store 42 (t 5) (t 22))]
def r25_5 : List COpF := [uF 23 (.move (t 3)) .pure [], uF 24 (.nilCheck (t 23)) .pure [], uF 25 (.fieldAddr 65 (t 24) 0) .pure [], uF 26 (.fieldAddr 29 (t 25) 0) .pure [], uF 27 (.load 27 (t 26)) .look [], uF 28 (.move (t 4)) .pure [], uF 29 (.fieldAddr 42 (t 5) 4) .pure [], uF 30 (.load 40 (t 29)) .look [], uF 31 (cf 54 #[(t 30)] #[40]) .make [7], uF 32 (.indexAddr 27 (t 27) (t 28)) .pure [], uF 33 (.fieldAddr 42 (t 32) 4) .pure [], oF (.store 40 (t 33) (t 31)) .make [4, 7]]
def r25_6 : List COp := [u 34 (.binOp .add 3 (t 18) (ci 1) 3), u 18 (.move (t 34))]
def r25_7 : List COp := [u 35 (.move (t 3)), u 2 (.assign (t 35))]
def arena_own_l0 (F : Nat) (a0 : arena_Tree) : Nat → (List api_Node) → Int → Int → Option (List api_Node)
  | 0, _, _, _ => none
  | n + 1, x10017, x10021, x10022 =>
    if x10022 < x10021 then
      if 0 ≤ x10022 ∧ x10022 < (x10017.length : Int) then
        (x10017[x10022.toNat]?).bind fun x10029 =>
        (slices_Clone_int F x10029.Kids).bind fun r10048 =>
        if 0 ≤ x10022 ∧ x10022 < (x10017.length : Int) then
          (x10017[x10022.toNat]?).bind fun x10070 =>
          arena_own_l0 F a0 n (x10017.set x10022.toNat (⟨x10070.Kind, x10070.From, x10070.To, x10070.Up, r10048, x10070.Key⟩ : api_Node)) x10021 (w64 (x10022 + 1))
        else none
      else none
    else
      some x10017
def arena_own (F : Nat) (a0 : arena_Tree) : Option arena_forest :=
  (slices_Clone_api_Node F a0.Nodes).bind fun r9861 =>
  ((arena_own_l0 F a0 F r9861 (r9861.length : Int) 0) : Option (List api_Node)).bind fun o => match o with
    | x10091 => some (⟨(⟨x10091⟩ : arena_Tree)⟩ : arena_forest)
theorem arena_own_ok (F : Nat) {h : AH} {Z : Zn} {a0 : arena_Tree} {v9608 : Value} (hP : Pre Z h []) (q9607 : RS (α := api_Node) Z v9608 a0.Nodes) {r : arena_forest} (hm : arena_own F a0 = some r) :
    ∃ v h' Z' A', callI Go.Proofs.Try.prog 25 [.agg #[v9608]] h = some (v, h') ∧ St h (idsL []) Z (0, 0) Z' h' A' ∧ ∃ b9854 : Nat, ∃ v9856 : Value, ∃ c9857 : List Value, Pt b9854 0 = v ∧ A' = [.blk b9854 [v9856], .gs v9856 c9857 (csz api_Node)] ∧ RCs (α := api_Node) Z' c9857 r.Tree.Nodes := by
  refine fn_intro (A := []) (Q := fun v Z' A' => ∃ b9854 : Nat, ∃ v9856 : Value, ∃ c9857 : List Value, Pt b9854 0 = v ∧ A' = [.blk b9854 [v9856], .gs v9856 c9857 (csz api_Node)] ∧ RCs (α := api_Node) Z' c9857 r.Tree.Nodes) Go.Proofs.Try.func25 rfl rfl (by kernel_rfl) hP ?_
  intro hs hS
  unfold arena_own at hm
  replace hS : St hs [] Z (0, 0) Z hs [] := hS
  refine sr r25_0 ?_
  refine r_blk rfl trivial (o_box (cs := [v9608]) rfl rfl) hS ?_
  intro b9858 h9859 hS9860
  refine xe 1 [(1, Pt b9858 0)] ?_
  refine sr r25_1 ?_
  refine xq 1 [(6, Pt b9858 0)] ?_
  refine r_step rfl trivial (o_ldb (v := v9608) hS9860 (i := 0) rfl rfl (by kernel_rfl)) ?_
  obtain ⟨r9861, hx9862, hm⟩ := obind hm
  have hSr9868 : St _ _ _ _ _ _ ([] ++ [.blk b9858 [v9608]]) := hS9860
  obtain ⟨v9863, h9864, Z9869, A9871, hcl9865, hSc9866, v9873, c9874, rfl, rfl, q9872⟩ := slices_Clone_api_Node_ok F hSr9868.preL q9607 hx9862
  have hS9867 := hSr9868.call hSc9866
  have hZ9870 := hSc9866.zle
  replace hS9867 : St _ _ _ _ _ _ [.gs v9873 c9874 (csz api_Node), .blk b9858 [v9608]] := hS9867
  refine r_step rfl trivial (o_call hcl9865 rfl rfl rfl) ?_
  refine r_step rfl trivial (o_build (v := .agg #[v9873]) rfl (CA.cons (cs := [v9873]) (hS9867.gcell1 (i := 0) rfl) (CA.nil0)) (by kernel_rfl)) ?_
  refine xq 1 [(10, .agg #[v9873])] ?_
  refine r_blk rfl trivial (o_box (cs := [v9873]) rfl rfl) hS9867 ?_
  intro b9875 h9876 hS9877
  refine xe 1 [(3, Pt b9875 0)] ?_
  refine sq ?_
  refine sr r25_2 ?_
  refine xq 4 [(15, Pt b9875 0), (3, Pt b9875 0)] ?_
  refine r_step rfl trivial (o_ldb (v := v9873) hS9877 (i := 0) rfl rfl (by kernel_rfl)) ?_
  refine r_step rfl trivial (o_len rfl (hS9877.glen (i := 1) rfl q9872) ⟨_, Go.Proofs.Try.underlying27⟩) ?_
  refine xe 1 [(18, V 0), (17, V (r9861.length : Int)), (16, v9873), (3, Pt b9875 0)] ?_
  obtain ⟨o10014, ho10013, hm⟩ := obind hm
  refine W_join [3] (fun l h => ∃ Z10089 : Zn, ∃ x10091 : List api_Node, ∃ b10090 : Nat, ∃ v10093 : Value, ∃ c10094 : List Value, x10091 = o10014 ∧ RCs (α := api_Node) Z10089 c10094 x10091 ∧ l = [(3, Pt b10090 0)] ∧ St hs [] Z (0, 0) Z10089 h [.blk b10090 [v10093], .gs v10093 c10094 (csz api_Node)]) ?_ ?_
  rintro l h10095 ⟨Z10089, x10091, b10090, v10093, c10094, rfl, q10092, rfl, hS10096⟩
  try dsimp only at hm
  refine sr r25_7 ?_
  refine xe 2 [(2, Pt b10090 0)] ?_
  refine rt ?_
  refine ⟨rfl, ?_⟩
  obtain rfl := Option.some.inj hm
  refine ⟨_, _, _, ResL.tmp rfl (ResL.nil), hS10096, ?_⟩
  exact ⟨b10090, v10093, c10094, rfl, rfl, q10092⟩
  refine bk 0 ?_
  refine lp [3, 16, 17, 18] (fun n l h => ∃ Z10015 : Zn, ∃ x10017 : List api_Node, ∃ x10021 : Int, ∃ x10022 : Int, ∃ b10016 : Nat, ∃ v10019 : Value, ∃ c10020 : List Value, arena_own_l0 F a0 n x10017 x10021 x10022 = some o10014 ∧ RCs (α := api_Node) Z10015 c10020 x10017 ∧ l = [(3, Pt b10016 0), (16, v10019), (17, V x10021), (18, V x10022)] ∧ St hs [] Z (0, 0) Z10015 h [.blk b10016 [v10019], .gs v10019 c10020 (csz api_Node)]) F ⟨_, r9861, (r9861.length : Int), 0, b9875, v9873, c9874, ho10013, q9872, rfl, (hS9877.takeN 2)⟩ ?_
  rintro n10025 l h10023 ⟨Z10015, x10017, x10021, x10022, b10016, v10019, c10020, ho10013, q10018, rfl, hS10024⟩
  rcases n10025 with _ | n10025
  cases (show none = some o10014 from ho10013)
  rw [arena_own_l0] at ho10013
  refine sr r25_3 ?_
  rcases ifs ho10013 with ⟨hp10027, ho10013⟩ | ⟨hp10027, ho10013⟩
  refine r_step rfl trivial (o_cmp rfl rfl (c_lss_T hp10027)) ?_
  refine xf [(19, .bool true), (3, Pt b10016 0), (16, v10019), (17, V x10021), (18, V x10022)] ?_
  refine sq ?_
  refine kT 19 rfl ?_
  refine sq ?_
  refine bk 1 ?_
  refine sr r25_4 ?_
  refine xq 1 [(20, V x10022), (3, Pt b10016 0), (16, v10019), (17, V x10021), (18, V x10022)] ?_
  obtain ⟨hc10028, ho10013⟩ := chk ho10013
  refine r_step rfl trivial (o_index rfl rfl (by kernel_rfl : slTy _ _ = some (csz api_Node)) (hS10024.gbased (j := 1) rfl q10018 (by omega)) hc10028.1 hc10028.2) ?_
  obtain ⟨x10029, hx10030, ho10013⟩ := obind ho10013
  obtain ⟨cs10031, hc10032, he10033, ht10034⟩ := hS10024.gel (j := 1) rfl q10018 (i := x10022) hx10030
  obtain ⟨v10035, q10036, rfl⟩ := rc_api_Node hc10032
  refine r_step rfl trivial (o_lde (w := .agg #[V x10029.Kind, V x10029.From, V x10029.To, V x10029.Up, v10035, .bool x10029.Key]) he10033 rfl (by kernel_rfl)) ?_
  refine r_blk rfl trivial (o_alloc (cs := [V 0, V 0, V 0, V 0, .slice none 0 0, .bool false]) (by kernel_rfl)) hS10024 ?_
  intro b10037 h10038 hS10039
  refine xq 1 [(4, V x10022), (5, Pt b10037 0), (22, .agg #[V x10029.Kind, V x10029.From, V x10029.To, V x10029.Up, v10035, .bool x10029.Key]), (3, Pt b10016 0), (16, v10019), (17, V x10021), (18, V x10022)] ?_
  refine r_ex1 rfl trivial (o_stb (vs := [V x10029.Kind, V x10029.From, V x10029.To, V x10029.Up, v10035, .bool x10029.Key]) (cells' := (K42 v10035 x10029)) (L' := [.blk b10037 (K42 v10035 x10029), .blk b10016 [v10019], .gs v10019 c10020 (csz api_Node)]) hS10039 (i := 0) rfl rfl rfl rfl (by kernel_rfl) (one_cons rfl (one_cons rfl (one_cons rfl (one_cons rfl (one_cons (RS.one1 q10036) (one_cons rfl one_nil)))))) rfl rfl rfl) ?_
  intro h10040 hS10041
  refine xf [(4, V x10022), (5, Pt b10037 0), (3, Pt b10016 0), (16, v10019), (17, V x10021), (18, V x10022)] ?_
  refine rgF r25_5 hS10041 ?_
  intro bs10042 h10043 hlv10045 hS10044
  refine yq 4 [(26, Pt b10016 0), (4, V x10022), (5, Pt b10037 0), (3, Pt b10016 0), (16, v10019), (17, V x10021), (18, V x10022)] ?_
  have lt10046 : b10016 < bs10042 := hlv10045.1 _ (List.mem_of_getElem? (i := 1) rfl) _ (by simp [Itm.ids])
  refine e_lookB rfl trivial rfl (by show b10016 < _; omega) (same1 (v := v10019) (hS10044.gsim1 (i := 2) rfl)) (o_ldb (v := v10019) hS10044 (i := 1) rfl rfl (by kernel_rfl)) trivial ?_
  refine yq 2 [(29, Pt b10037 4), (28, V x10022), (27, v10019), (3, Pt b10016 0), (16, v10019), (17, V x10021), (18, V x10022)] ?_
  have lt10047 : b10037 < bs10042 := hlv10045.1 _ (List.mem_of_getElem? (i := 0) rfl) _ (by simp [Itm.ids])
  refine e_lookB rfl trivial rfl (by show b10037 < _; omega) (same1 (v := v10035) (RS.sim1 q10036)) (o_ldb (v := v10035) hS10044 (i := 0) rfl rfl (by kernel_rfl)) trivial ?_
  obtain ⟨r10048, hx10049, ho10013⟩ := obind ho10013
  have hSl10055 := hS10044.lown
  have hSr10056 : St _ _ _ _ _ _ ([] ++ [.blk b10037 (K42 v10035 x10029), .blk b10016 [v10019], .gs v10019 c10020 (csz api_Node)]) := hSl10055
  obtain ⟨v10050, h10051, Z10057, A10059, hcl10052, hSc10053, v10061, c10062, rfl, rfl, q10060⟩ := slices_Clone_int_ok F hSr10056.preL q10036 hx10049
  have hS10054 := hSr10056.call hSc10053
  have hZ10058 := hSc10053.zle
  replace hS10054 : St _ _ _ _ _ _ [.gs v10061 c10062 (csz Int), .blk b10037 (K42 v10035 x10029), .blk b10016 [v10019], .gs v10019 c10020 (csz api_Node)] := hS10054
  refine e_still rfl trivial hS10044 (o_call hcl10052 rfl rfl rfl) hS10054 (St.lowk hSc10053) ?_
  intro h10063 hS10064
  obtain ⟨hc10065, ho10013⟩ := chk ho10013
  refine e_val rfl trivial (o_index rfl rfl (by kernel_rfl : slTy _ _ = some (csz api_Node)) (hS10064.gbased (j := 3) rfl (q10018.mono hZ10058) (by omega)) hc10065.1 hc10065.2) ?_
  refine yq 1 [(33, .pointer (some (elemA v10019 x10022 (csz api_Node) 4))), (31, v10061), (3, Pt b10016 0), (16, v10019), (17, V x10021), (18, V x10022)] ?_
  obtain ⟨x10070, hx10071, ho10013⟩ := obind ho10013
  obtain ⟨Z10066, hZ10067, q10068, hS10069⟩ := (hS10064.front 0 rfl).freeze q10060
  replace hS10069 : St _ _ _ _ _ _ [.blk b10037 (K42 v10035 x10029), .blk b10016 [v10019], .gs v10019 c10020 (csz api_Node)] := hS10069
  obtain ⟨cs10072, hc10073, he10074, ht10075⟩ := hS10069.gel (j := 2) rfl (q10018.mono (hZ10058.trans hZ10067)) (i := x10022) hx10071
  obtain ⟨v10076, q10077, rfl⟩ := rc_api_Node hc10073
  have hF10082 : St _ _ _ _ _ _ ([.gs v10019 c10020 (csz api_Node)] ++ [.blk b10037 (K42 v10035 x10029), .blk b10016 [v10019]]) := (hS10069.front 2 rfl)
  refine e_mk2 rfl trivial hF10082 (o_ste (u' := (⟨x10070.Kind, x10070.From, x10070.To, x10070.Up, r10048, x10070.Key⟩ : api_Node)) (vs := [v10061]) (cs' := [V x10070.Kind, V x10070.From, V x10070.To, V x10070.Up, v10061, .bool x10070.Key]) hF10082.sub (m := 0) rfl (q10018.mono (hZ10058.trans hZ10067)) hx10071 ht10075 rfl rfl (RS.cell1 q10068) (by kernel_rfl) (one_cons (RS.one1 q10068) one_nil) rfl rfl ⟨_, q10068, rfl⟩) (hZ10058.trans hZ10067) (.keep (hF10082.neB 0 rfl blk_mem) (.keep (hF10082.neB 1 rfl blk_mem) .nil)) ?_
  rintro h10078 c10079 ⟨q10081, hS10080⟩
  replace hS10080 : St _ _ _ _ _ _ [.gs v10019 c10079 (csz api_Node), .blk b10037 (K42 v10035 x10029), .blk b10016 [v10019]] := hS10080
  refine yf [(3, Pt b10016 0), (16, v10019), (17, V x10021), (18, V x10022)] ?_
  have hS10083 := hS10080.unres
  refine rg r25_6 ?_
  refine xe 2 [(18, V (w64 (x10022 + 1))), (3, Pt b10016 0), (16, v10019), (17, V x10021)] ?_
  exact ⟨n10025, Nat.lt_succ_self _, ⟨_, x10017.set x10022.toNat (⟨x10070.Kind, x10070.From, x10070.To, x10070.Up, r10048, x10070.Key⟩ : api_Node), x10021, w64 (x10022 + 1), b10016, v10019, c10079, ho10013, q10081, rfl, (((hS10083.front 0 rfl).front 2 rfl).takeN 2)⟩⟩
  refine r_step rfl trivial (o_cmp rfl rfl (c_lss_F hp10027)) ?_
  refine xf [(19, .bool false), (3, Pt b10016 0), (16, v10019), (17, V x10021), (18, V x10022)] ?_
  refine sq ?_
  refine cF 19 rfl ?_
  refine xt 0 ?_
  refine blkX_hit ?_
  obtain rfl := Option.some.inj ho10013
  exact ⟨_, x10017, b10016, v10019, c10020, rfl, q10018, rfl, hS10024⟩

def r42_0 : List COp := [u 4 (.assign (.const (.bool false)))]
def r42_1 : List COp := [u 5 (.move (t 1)), u 6 (.binOp .geq 3 (t 5) (ci 0) 3), u 7 (.move (t 6)), gT 7 (some 8) (.move (t 1)), gT 7 (some 9) (.move (t 0)), gT 7 (some 10) (.nilCheck (t 9)), gT 7 (some 11) (.fieldAddr 65 (t 10) 0), gT 7 (some 12) (.fieldAddr 29 (t 11) 0), gT 7 (some 13) (.load 27 (t 12)), gT 7 (some 14) (cb .len #[(t 13)] #[27]), gT 7 (some 15) (.binOp .lss 3 (t 8) (t 14) 3), u 16 (.pick (t 7) (t 15) (.const (.bool false))), u 4 (.assign (t 16))]
def arena_forest_has (F : Nat) (a0 : arena_forest) (a1 : Int) : Option Bool :=
  if (0 : Int) ≤ a1 then
    if a1 < (a0.Tree.Nodes.length : Int) then
      some true
    else
      some false
  else
    some false
theorem arena_forest_has_ok (F : Nat) {h : AH} {Z : Zn} {a0 : arena_forest} {a1 : Int} {b10117 : Nat} {v10119 : Value} {c10120 : List Value} (hP : Pre Z h [.blk b10117 [v10119], .gs v10119 c10120 (csz api_Node)]) (q10118 : RCs (α := api_Node) Z c10120 a0.Tree.Nodes) {r : Bool} (hm : arena_forest_has F a0 a1 = some r) :
    ∃ v h' Z' A', callI Go.Proofs.Try.prog 42 [Pt b10117 0, V a1] h = some (v, h') ∧ St h (idsL [.blk b10117 [v10119], .gs v10119 c10120 (csz api_Node)]) Z (0, 0) Z' h' A' ∧ .bool r = v ∧ A' = [.blk b10117 [v10119], .gs v10119 c10120 (csz api_Node)] := by
  refine fn_intro (A := [.blk b10117 [v10119], .gs v10119 c10120 (csz api_Node)]) (Q := fun v Z' A' => .bool r = v ∧ A' = [.blk b10117 [v10119], .gs v10119 c10120 (csz api_Node)]) Go.Proofs.Try.func42 rfl rfl (by kernel_rfl) hP ?_
  intro hs hS
  unfold arena_forest_has at hm
  refine sr r42_0 ?_
  refine xe 1 [(0, Pt b10117 0), (1, V a1)] ?_
  refine sr r42_1 ?_
  refine xq 1 [(5, V a1), (0, Pt b10117 0), (1, V a1)] ?_
  rcases ifs hm with ⟨hp10123, hm⟩ | ⟨hp10123, hm⟩
  refine r_step rfl trivial (o_cmp rfl rfl (c_geq_T hp10123)) ?_
  refine xq 6 [(12, Pt b10117 0), (8, V a1), (7, .bool true)] ?_
  refine r_step rfl rfl (o_ldb (v := v10119) hS (i := 0) rfl rfl (by kernel_rfl)) ?_
  refine r_step rfl rfl (o_len rfl (hS.glen (i := 1) rfl q10118) ⟨_, Go.Proofs.Try.underlying27⟩) ?_
  rcases ifs hm with ⟨hp10124, hm⟩ | ⟨hp10124, hm⟩
  refine r_step rfl rfl (o_cmp rfl rfl (c_lss_T hp10124)) ?_
  refine xe 2 [(4, .bool true)] ?_
  refine rt ?_
  refine ⟨rfl, ?_⟩
  obtain rfl := Option.some.inj hm
  refine ⟨_, _, _, ResL.tmp rfl (ResL.nil), hS, ?_⟩
  exact ⟨rfl, rfl⟩
  refine r_step rfl rfl (o_cmp rfl rfl (c_lss_F hp10124)) ?_
  refine xe 2 [(4, .bool false)] ?_
  refine rt ?_
  refine ⟨rfl, ?_⟩
  obtain rfl := Option.some.inj hm
  refine ⟨_, _, _, ResL.tmp rfl (ResL.nil), hS, ?_⟩
  exact ⟨rfl, rfl⟩
  refine r_step rfl trivial (o_cmp rfl rfl (c_geq_F hp10123)) ?_
  refine xe 11 [(4, .bool false)] ?_
  refine rt ?_
  refine ⟨rfl, ?_⟩
  obtain rfl := Option.some.inj hm
  refine ⟨_, _, _, ResL.tmp rfl (ResL.nil), hS, ?_⟩
  exact ⟨rfl, rfl⟩

def r43_0 : List COp := [u 7 (.move (t 0)), u 8 (.nilCheck (t 7)), u 9 (.fieldAddr 65 (t 8) 0), u 10 (.fieldAddr 29 (t 9) 0), u 11 (.load 27 (t 10)), u 12 (cb .len #[(t 11)] #[27]), u 6 (.assign (t 12))]
def r43_1 : List COp := [u 13 (.move (t 0)), u 14 (.move (t 1)), u 15 (cf 42 #[(t 13), (t 14)] #[62, 3]), u 16 (.move (t 15)), gT 16 (some 17) (.move (t 6)), gT 16 (some 18) (.binOp .gtr 3 (t 17) (ci 0) 3), u 19 (.pick (t 16) (t 18) (.const (.bool false)))]
def r43_2 : List COp := [u 20 (.move (t 6)), u 21 (.binOp .sub 3 (t 20) (ci 1) 3), u 6 (.assign (t 21))]
def r43_3 : List COpF := [uF 22 (.move (t 0)) .pure [], uF 23 (.nilCheck (t 22)) .pure [], uF 24 (.fieldAddr 65 (t 23) 0) .pure [], uF 25 (.fieldAddr 29 (t 24) 0) .pure [], uF 26 (.load 27 (t 25)) .look [], uF 27 (.move (t 1)) .pure [], uF 28 (.move (t 0)) .pure [], uF 29 (.nilCheck (t 28)) .pure [], uF 30 (.fieldAddr 65 (t 29) 0) .pure [], uF 31 (.fieldAddr 29 (t 30) 0) .pure [], uF 32 (.load 27 (t 31)) .look [], uF 33 (.move (t 1)) .pure [], uF 34 (.indexAddr 27 (t 32) (t 33)) .pure [], uF 35 (.fieldAddr 42 (t 34) 2) .pure [], uF 36 (.load 3 (t 35)) .look [], uF 37 (.move (t 2)) .pure [], uF 38 (cb .max #[(t 36), (t 37)] #[3, 3]) .pure [], uF 39 (.indexAddr 27 (t 26) (t 27)) .pure [], uF 40 (.fieldAddr 42 (t 39) 2) .pure [], oF (.store 3 (t 40) (t 38)) .make [4, 10, 14]]
def r43_4 : List COp := [u 41 (.move (t 0)), u 42 (.nilCheck (t 41)), u 43 (.fieldAddr 65 (t 42) 0), u 44 (.fieldAddr 29 (t 43) 0), u 45 (.load 27 (t 44)), u 46 (.move (t 1)), u 47 (.indexAddr 27 (t 45) (t 46)), u 48 (.fieldAddr 42 (t 47) 3), u 49 (.load 3 (t 48)), u 1 (.assign (t 49))]
def arena_forest_grow_l0 (F : Nat) (a0 : arena_forest) (a1 : Int) (a2 : Int) : Nat → (List api_Node) → Int → Int → Option (List api_Node)
  | 0, _, _, _ => none
  | n + 1, x10508, x10511, x10512 =>
    (arena_forest_has F (⟨(⟨x10508⟩ : arena_Tree)⟩ : arena_forest) x10511).bind fun r10542 =>
    if r10542 = true then
      if (0 : Int) < x10512 then
        if 0 ≤ x10511 ∧ x10511 < (x10508.length : Int) then
          (x10508[x10511.toNat]?).bind fun x10562 =>
          if 0 ≤ x10511 ∧ x10511 < (x10508.length : Int) then
            (x10508[x10511.toNat]?).bind fun x10574 =>
            if 0 ≤ x10511 ∧ x10511 < ((x10508.set x10511.toNat (⟨x10574.Kind, x10574.From, imax x10562.To a2, x10574.Up, x10574.Kids, x10574.Key⟩ : api_Node)).length : Int) then
              ((x10508.set x10511.toNat (⟨x10574.Kind, x10574.From, imax x10562.To a2, x10574.Up, x10574.Kids, x10574.Key⟩ : api_Node))[x10511.toNat]?).bind fun x10589 =>
              arena_forest_grow_l0 F a0 a1 a2 n (x10508.set x10511.toNat (⟨x10574.Kind, x10574.From, imax x10562.To a2, x10574.Up, x10574.Kids, x10574.Key⟩ : api_Node)) x10589.Up (w64 (x10512 - 1))
            else none
          else none
        else none
      else
        some x10508
    else
      some x10508
def arena_forest_grow (F : Nat) (a0 : arena_forest) (a1 : Int) (a2 : Int) : Option arena_forest :=
  ((arena_forest_grow_l0 F a0 a1 a2 F a0.Tree.Nodes a1 (a0.Tree.Nodes.length : Int)) : Option (List api_Node)).bind fun o => match o with
    | x10601 => some (⟨(⟨x10601⟩ : arena_Tree)⟩ : arena_forest)
theorem arena_forest_grow_ok (F : Nat) {h : AH} {Z : Zn} {a0 : arena_forest} {a1 : Int} {a2 : Int} {b10147 : Nat} {v10149 : Value} {c10150 : List Value} (hP : Pre Z h [.blk b10147 [v10149], .gs v10149 c10150 (csz api_Node)]) (q10148 : RCs (α := api_Node) Z c10150 a0.Tree.Nodes) {r : arena_forest} (hm : arena_forest_grow F a0 a1 a2 = some r) :
    ∃ v h' Z' A', callI Go.Proofs.Try.prog 43 [Pt b10147 0, V a1, V a2] h = some (v, h') ∧ St h (idsL [.blk b10147 [v10149], .gs v10149 c10150 (csz api_Node)]) Z (0, 0) Z' h' A' ∧ ∃ c10331 : List Value, .tuple #[] = v ∧ A' = [.blk b10147 [v10149], .gs v10149 c10331 (csz api_Node)] ∧ RCs (α := api_Node) Z' c10331 r.Tree.Nodes := by
  refine fn_intro (A := [.blk b10147 [v10149], .gs v10149 c10150 (csz api_Node)]) (Q := fun v Z' A' => ∃ c10331 : List Value, .tuple #[] = v ∧ A' = [.blk b10147 [v10149], .gs v10149 c10331 (csz api_Node)] ∧ RCs (α := api_Node) Z' c10331 r.Tree.Nodes) Go.Proofs.Try.func43 rfl rfl (by kernel_rfl) hP ?_
  intro hs hS
  unfold arena_forest_grow at hm
  refine sr r43_0 ?_
  refine xq 4 [(10, Pt b10147 0), (0, Pt b10147 0), (1, V a1), (2, V a2)] ?_
  refine r_step rfl trivial (o_ldb (v := v10149) hS (i := 0) rfl rfl (by kernel_rfl)) ?_
  refine r_step rfl trivial (o_len rfl (hS.glen (i := 1) rfl q10148) ⟨_, Go.Proofs.Try.underlying27⟩) ?_
  refine xe 1 [(6, V (a0.Tree.Nodes.length : Int)), (0, Pt b10147 0), (1, V a1), (2, V a2)] ?_
  obtain ⟨o10506, ho10505, hm⟩ := obind hm
  refine W_join [] (fun l h => ∃ Z10600 : Zn, ∃ x10601 : List api_Node, ∃ c10603 : List Value, x10601 = o10506 ∧ RCs (α := api_Node) Z10600 c10603 x10601 ∧ l = [] ∧ St hs (idsL [.blk b10147 [v10149], .gs v10149 c10150 (csz api_Node)]) Z (0, 0) Z10600 h [.blk b10147 [v10149], .gs v10149 c10603 (csz api_Node)]) ?_ ?_
  rintro l h10604 ⟨Z10600, x10601, c10603, rfl, q10602, rfl, hS10605⟩
  try dsimp only at hm
  obtain rfl := Option.some.inj hm
  refine ⟨_, _, _, ResL.nil, hS10605, ?_⟩
  exact ⟨c10603, rfl, rfl, q10602⟩
  refine bk 0 ?_
  refine lp [0, 1, 2, 6] (fun n l h => ∃ Z10507 : Zn, ∃ x10508 : List api_Node, ∃ x10511 : Int, ∃ x10512 : Int, ∃ c10510 : List Value, arena_forest_grow_l0 F a0 a1 a2 n x10508 x10511 x10512 = some o10506 ∧ RCs (α := api_Node) Z10507 c10510 x10508 ∧ l = [(0, Pt b10147 0), (1, V x10511), (2, V a2), (6, V x10512)] ∧ St hs (idsL [.blk b10147 [v10149], .gs v10149 c10150 (csz api_Node)]) Z (0, 0) Z10507 h [.blk b10147 [v10149], .gs v10149 c10510 (csz api_Node)]) F ⟨_, a0.Tree.Nodes, a1, (a0.Tree.Nodes.length : Int), c10150, ho10505, q10148, rfl, hS⟩ ?_
  rintro n10515 l h10513 ⟨Z10507, x10508, x10511, x10512, c10510, ho10505, q10509, rfl, hS10514⟩
  rcases n10515 with _ | n10515
  cases (show none = some o10506 from ho10505)
  rw [arena_forest_grow_l0] at ho10505
  refine sq ?_
  refine sr r43_1 ?_
  refine xq 2 [(14, V x10511), (13, Pt b10147 0), (0, Pt b10147 0), (1, V x10511), (2, V a2), (6, V x10512)] ?_
  obtain ⟨r10542, hx10543, ho10505⟩ := obind ho10505
  have hF10549 : St _ _ _ _ _ _ ([.blk b10147 [v10149], .gs v10149 c10510 (csz api_Node)] ++ []) := ((hS10514.front 1 rfl).front 1 rfl)
  obtain ⟨v10544, h10545, Z10550, A10552, hcl10546, hSc10547, rfl, rfl⟩ := arena_forest_has_ok F hF10549.preL q10509 hx10543
  have hZ10551 := hSc10547.zle
  have hS10548 := hF10549.call hSc10547
  replace hS10548 : St _ _ _ _ _ _ [.blk b10147 [v10149], .gs v10149 c10510 (csz api_Node)] := hS10548
  refine r_step rfl trivial (o_call hcl10546 rfl rfl rfl) ?_
  refine xq 1 [(16, .bool r10542), (0, Pt b10147 0), (1, V x10511), (2, V a2), (6, V x10512)] ?_
  rcases ifs ho10505 with ⟨hp10553, ho10505⟩ | ⟨hp10553, ho10505⟩
  refine r_setb (t := 16) rfl hp10553 ?_
  refine xq 1 [(17, V x10512), (16, .bool true), (0, Pt b10147 0), (1, V x10511), (2, V a2), (6, V x10512)] ?_
  rcases ifs ho10505 with ⟨hp10554, ho10505⟩ | ⟨hp10554, ho10505⟩
  refine r_step rfl rfl (o_cmp rfl rfl (c_gtr_T hp10554)) ?_
  refine xe 1 [(19, .bool true), (0, Pt b10147 0), (1, V x10511), (2, V a2), (6, V x10512)] ?_
  refine kT 19 rfl ?_
  refine sq ?_
  refine bk 1 ?_
  refine srF r43_3 hS10548 ?_
  intro bs10555 h10556 hlv10558 hS10557
  refine yq 4 [(25, Pt b10147 0), (0, Pt b10147 0), (1, V x10511), (2, V a2), (6, V x10512)] ?_
  have lt10559 : b10147 < bs10555 := hlv10558.1 _ (List.mem_of_getElem? (i := 0) rfl) _ (by simp [Itm.ids])
  refine e_lookB rfl trivial rfl (by show b10147 < _; omega) (same1 (v := v10149) (hS10557.gsim1 (i := 1) rfl)) (o_ldb (v := v10149) hS10557 (i := 0) rfl rfl (by kernel_rfl)) trivial ?_
  refine yq 5 [(31, Pt b10147 0), (27, V x10511), (26, v10149), (0, Pt b10147 0), (1, V x10511), (2, V a2), (6, V x10512)] ?_
  have lt10560 : b10147 < bs10555 := hlv10558.1 _ (List.mem_of_getElem? (i := 0) rfl) _ (by simp [Itm.ids])
  refine e_lookB rfl trivial rfl (by show b10147 < _; omega) (same1 (v := v10149) (hS10557.gsim1 (i := 1) rfl)) (o_ldb (v := v10149) hS10557 (i := 0) rfl rfl (by kernel_rfl)) trivial ?_
  refine yq 1 [(33, V x10511), (32, v10149), (27, V x10511), (26, v10149), (0, Pt b10147 0), (1, V x10511), (2, V a2), (6, V x10512)] ?_
  obtain ⟨hc10561, ho10505⟩ := chk ho10505
  refine e_val rfl trivial (o_index rfl rfl (by kernel_rfl : slTy _ _ = some (csz api_Node)) (hS10557.gbased (j := 1) rfl (q10509.mono hZ10551) (by omega)) hc10561.1 hc10561.2) ?_
  refine yq 1 [(35, .pointer (some (elemA v10149 x10511 (csz api_Node) 2))), (27, V x10511), (26, v10149), (0, Pt b10147 0), (1, V x10511), (2, V a2), (6, V x10512)] ?_
  obtain ⟨x10562, hx10563, ho10505⟩ := obind ho10505
  obtain ⟨cs10564, hc10565, he10566, ht10567⟩ := hS10557.gel (j := 1) rfl (q10509.mono hZ10551) (i := x10511) hx10563
  obtain ⟨v10568, q10569, rfl⟩ := rc_api_Node hc10565
  have ps10570 := pos_of hx10563
  have hB10571 := hS10557.gbased (j := 1) rfl (q10509.mono hZ10551) ps10570
  have lt10572 : (baseOf v10149).block < bs10555 := row_ltM (hlv10558.1 _ (List.mem_of_getElem? (i := 1) rfl)) hB10571
  refine e_lookB rfl trivial rfl (by show (baseOf v10149).block < _; omega) (same1 (v := V x10562.To) trivial) (o_lde (w := V x10562.To) he10566 rfl (by kernel_rfl)) trivial ?_
  refine yq 2 [(38, V (imax x10562.To a2)), (27, V x10511), (26, v10149), (0, Pt b10147 0), (1, V x10511), (2, V a2), (6, V x10512)] ?_
  obtain ⟨hc10573, ho10505⟩ := chk ho10505
  refine e_val rfl trivial (o_index rfl rfl (by kernel_rfl : slTy _ _ = some (csz api_Node)) (hS10557.gbased (j := 1) rfl (q10509.mono hZ10551) (by omega)) hc10573.1 hc10573.2) ?_
  refine yq 1 [(40, .pointer (some (elemA v10149 x10511 (csz api_Node) 2))), (38, V (imax x10562.To a2)), (0, Pt b10147 0), (1, V x10511), (2, V a2), (6, V x10512)] ?_
  obtain ⟨x10574, hx10575, ho10505⟩ := obind ho10505
  obtain ⟨cs10576, hc10577, he10578, ht10579⟩ := hS10557.gel (j := 1) rfl (q10509.mono hZ10551) (i := x10511) hx10575
  obtain ⟨v10580, q10581, rfl⟩ := rc_api_Node hc10577
  have hF10586 : St _ _ _ _ _ _ ([.gs v10149 c10510 (csz api_Node)] ++ [.blk b10147 [v10149]]) := (hS10557.front 1 rfl)
  refine e_mk2 rfl trivial hF10586 (o_ste (u' := (⟨x10574.Kind, x10574.From, imax x10562.To a2, x10574.Up, x10574.Kids, x10574.Key⟩ : api_Node)) (vs := [V (imax x10562.To a2)]) (cs' := [V x10574.Kind, V x10574.From, V (imax x10562.To a2), V x10574.Up, v10580, .bool x10574.Key]) hF10586.sub (m := 0) rfl (q10509.mono hZ10551) hx10575 ht10579 rfl rfl rfl (by kernel_rfl) rfl rfl rfl ⟨_, q10581, rfl⟩) (Zle.refl _) (.drop (by decide) (.keep (hF10586.neB 0 rfl blk_mem) (.keep (hF10586.neB 0 rfl blk_mem) .nil))) ?_
  rintro h10582 c10583 ⟨q10585, hS10584⟩
  replace hS10584 : St _ _ _ _ _ _ [.gs v10149 c10583 (csz api_Node), .blk b10147 [v10149]] := hS10584
  refine yf [(0, Pt b10147 0), (1, V x10511), (2, V a2), (6, V x10512)] ?_
  have hS10587 := hS10584.unres
  refine rg r43_4 ?_
  refine xq 4 [(44, Pt b10147 0), (0, Pt b10147 0), (1, V x10511), (2, V a2), (6, V x10512)] ?_
  refine r_step rfl trivial (o_ldb (v := v10149) hS10587 (i := 1) rfl rfl (by kernel_rfl)) ?_
  refine xq 1 [(46, V x10511), (45, v10149), (0, Pt b10147 0), (1, V x10511), (2, V a2), (6, V x10512)] ?_
  obtain ⟨hc10588, ho10505⟩ := chk ho10505
  refine r_step rfl trivial (o_index rfl rfl (by kernel_rfl : slTy _ _ = some (csz api_Node)) (hS10587.gbased (j := 0) rfl q10585 (by omega)) hc10588.1 hc10588.2) ?_
  refine xq 1 [(48, .pointer (some (elemA v10149 x10511 (csz api_Node) 3))), (0, Pt b10147 0), (1, V x10511), (2, V a2), (6, V x10512)] ?_
  obtain ⟨x10589, hx10590, ho10505⟩ := obind ho10505
  obtain ⟨cs10591, hc10592, he10593, ht10594⟩ := hS10587.gel (j := 0) rfl q10585 (i := x10511) hx10590
  obtain ⟨v10595, q10596, rfl⟩ := rc_api_Node hc10592
  refine r_step rfl trivial (o_lde (w := V x10589.Up) he10593 rfl (by kernel_rfl)) ?_
  refine xe 1 [(1, V x10589.Up), (0, Pt b10147 0), (2, V a2), (6, V x10512)] ?_
  refine rg r43_2 ?_
  refine xe 3 [(6, V (w64 (x10512 - 1))), (1, V x10589.Up), (0, Pt b10147 0), (2, V a2)] ?_
  exact ⟨n10515, Nat.lt_succ_self _, ⟨_, x10508.set x10511.toNat (⟨x10574.Kind, x10574.From, imax x10562.To a2, x10574.Up, x10574.Kids, x10574.Key⟩ : api_Node), x10589.Up, w64 (x10512 - 1), c10583, ho10505, q10585, rfl, ((hS10587.front 0 rfl).front 1 rfl)⟩⟩
  refine r_step rfl rfl (o_cmp rfl rfl (c_gtr_F hp10554)) ?_
  refine xe 1 [(19, .bool false), (0, Pt b10147 0), (1, V x10511), (2, V a2), (6, V x10512)] ?_
  refine cF 19 rfl ?_
  refine xt 0 ?_
  refine blkX_hit ?_
  obtain rfl := Option.some.inj ho10505
  exact ⟨_, x10508, c10510, rfl, (q10509.mono hZ10551), rfl, hS10548⟩
  refine r_setb (t := 16) rfl (Bool.eq_false_iff.2 hp10553) ?_
  refine xe 3 [(19, .bool false), (0, Pt b10147 0), (1, V x10511), (2, V a2), (6, V x10512)] ?_
  refine cF 19 rfl ?_
  refine xt 0 ?_
  refine blkX_hit ?_
  obtain rfl := Option.some.inj ho10505
  exact ⟨_, x10508, c10510, rfl, (q10509.mono hZ10551), rfl, hS10548⟩

def r22_0 : List COp := [u 3 (.box 29 (t 0)), u 6 (.alloc 29)]
def r22_1 : List COp := [u 8 (.load 29 (t 3)), u 9 (cf 25 #[(t 8)] #[29]), u 7 (.assign (t 9))]
def r22_2 : List COp := [u 10 (.move (t 7)), u 11 (.move (t 1)), u 12 (cf 42 #[(t 10), (t 11)] #[62, 3]), u 13 (.move (t 12)), gT 13 (some 14) (.move (t 2)), gT 13 (some 15) (.move (t 7)), gT 13 (some 16) (.nilCheck (t 15)), gT 13 (some 17) (.fieldAddr 65 (t 16) 0), gT 13 (some 18) (.fieldAddr 29 (t 17) 0), gT 13 (some 19) (.load 27 (t 18)), gT 13 (some 20) (.indexAddr 27 (t 19) (ci 0)), gT 13 (some 21) (.fieldAddr 42 (t 20) 2), gT 13 (some 22) (.load 3 (t 21)), gT 13 (some 23) (.binOp .leq 3 (t 14) (t 22) 3), u 24 (.pick (t 13) (t 23) (.const (.bool false)))]
def r22_3 : List COp := [u 25 (.move (t 7)), u 26 (.move (t 1)), u 27 (.move (t 2)), u 28 (cf 43 #[(t 25), (t 26), (t 27)] #[62, 3, 3])]
def r22_4 : List COp := [u 29 (.move (t 7)), u 30 (.nilCheck (t 29)), u 31 (.fieldAddr 65 (t 30) 0), u 32 (.load 29 (t 31)), o (.store 29 (t 6) (t 32))]
def arena_Grow (F : Nat) (a0 : arena_Tree) (a1 : Int) (a2 : Int) : Option arena_Tree :=
  (arena_own F a0).bind fun r10642 =>
  (((arena_forest_has F r10642 a1).bind fun r10694 =>
    if r10694 = true then
      if 0 ≤ (0 : Int) ∧ (0 : Int) < (r10642.Tree.Nodes.length : Int) then
        (r10642.Tree.Nodes[(0 : Int).toNat]?).bind fun x10707 =>
        if a2 ≤ x10707.To then
          (arena_forest_grow F r10642 a1 a2).bind fun r10716 =>
          some r10716.Tree.Nodes
        else
          some r10642.Tree.Nodes
      else none
    else
      some r10642.Tree.Nodes) : Option (List api_Node)).bind fun o => match o with
    | x10732 => some (⟨x10732⟩ : arena_Tree)
theorem arena_Grow_ok (F : Nat) {h : AH} {Z : Zn} {a0 : arena_Tree} {a1 : Int} {a2 : Int} {v9600 : Value} (hP : Pre Z h []) (q9599 : RS (α := api_Node) Z v9600 a0.Nodes) {r : arena_Tree} (hm : arena_Grow F a0 a1 a2 = some r) :
    ∃ v h' Z' A', callI Go.Proofs.Try.prog 22 [.agg #[v9600], V a1, V a2] h = some (v, h') ∧ St h (idsL []) Z (0, 0) Z' h' A' ∧ ∃ v10634 : Value, ∃ c10635 : List Value, .agg #[v10634] = v ∧ A' = [.gs v10634 c10635 (csz api_Node)] ∧ RCs (α := api_Node) Z' c10635 r.Nodes := by
  refine fn_intro (A := []) (Q := fun v Z' A' => ∃ v10634 : Value, ∃ c10635 : List Value, .agg #[v10634] = v ∧ A' = [.gs v10634 c10635 (csz api_Node)] ∧ RCs (α := api_Node) Z' c10635 r.Nodes) Go.Proofs.Try.func22 rfl rfl (by kernel_rfl) hP ?_
  intro hs hS
  unfold arena_Grow at hm
  replace hS : St hs [] Z (0, 0) Z hs [] := hS
  refine sr r22_0 ?_
  refine r_blk rfl trivial (o_box (cs := [v9600]) rfl rfl) hS ?_
  intro b10636 h10637 hS10638
  refine r_blk rfl trivial (o_alloc (cs := [.slice none 0 0]) (by kernel_rfl)) hS10638 ?_
  intro b10639 h10640 hS10641
  refine xf [(6, Pt b10639 0), (3, Pt b10636 0), (1, V a1), (2, V a2)] ?_
  refine sr r22_1 ?_
  refine r_step rfl trivial (o_ldb (v := .agg #[v9600]) hS10641 (i := 1) rfl rfl (by kernel_rfl)) ?_
  obtain ⟨r10642, hx10643, hm⟩ := obind hm
  have hSr10649 : St _ _ _ _ _ _ ([] ++ [.blk b10639 [.slice none 0 0], .blk b10636 [v9600]]) := hS10641
  obtain ⟨v10644, h10645, Z10650, A10652, hcl10646, hSc10647, b10653, v10655, c10656, rfl, rfl, q10654⟩ := arena_own_ok F hSr10649.preL q9599 hx10643
  have hS10648 := hSr10649.call hSc10647
  have hZ10651 := hSc10647.zle
  replace hS10648 : St _ _ _ _ _ _ [.blk b10653 [v10655], .gs v10655 c10656 (csz api_Node), .blk b10639 [.slice none 0 0], .blk b10636 [v9600]] := hS10648
  refine r_step rfl trivial (o_call hcl10646 rfl rfl rfl) ?_
  refine xe 1 [(7, Pt b10653 0), (6, Pt b10639 0), (1, V a1), (2, V a2)] ?_
  refine sq ?_
  obtain ⟨o10693, ho10692, hm⟩ := obind hm
  refine W_seqJoin0 [6, 7] (fun l h => ∃ Z10729 : Zn, ∃ x10732 : List api_Node, ∃ b10730 : Nat, ∃ b10731 : Nat, ∃ v10734 : Value, ∃ c10735 : List Value, x10732 = o10693 ∧ RCs (α := api_Node) Z10729 c10735 x10732 ∧ l = [(6, Pt b10730 0), (7, Pt b10731 0)] ∧ St hs [] Z (0, 0) Z10729 h [.blk b10730 [.slice none 0 0], .blk b10731 [v10734], .gs v10734 c10735 (csz api_Node)]) (by kernel_rfl) ?_ ?_
  rintro l h10736 ⟨Z10729, x10732, b10730, b10731, v10734, c10735, rfl, q10733, rfl, hS10737⟩
  try dsimp only at hm
  refine sr r22_4 ?_
  refine xq 3 [(31, Pt b10731 0), (6, Pt b10730 0)] ?_
  refine r_step rfl trivial (o_ldb (v := .agg #[v10734]) hS10737 (i := 1) rfl rfl (by kernel_rfl)) ?_
  refine r_ex1 rfl trivial (o_stb (vs := [v10734]) (cells' := [v10734]) (L' := [.blk b10730 [v10734], .blk b10731 [v10734], .gs v10734 c10735 (csz api_Node)]) hS10737 (i := 0) rfl rfl rfl rfl (by kernel_rfl) (one_cons (hS10737.gone1 (i := 2) rfl) one_nil) rfl rfl rfl) ?_
  intro h10738 hS10739
  refine xf [(6, Pt b10730 0)] ?_
  refine rt ?_
  refine ⟨rfl, ?_⟩
  obtain rfl := Option.some.inj hm
  refine ⟨_, _, _, ResL.cell (v := .agg #[v10734]) rfl hS10739 (i := 0) rfl (by kernel_rfl) (ResL.nil), ((hS10739.front 2 rfl).takeN 1), ?_⟩
  exact ⟨v10734, c10735, rfl, rfl, q10733⟩
  refine rg r22_2 ?_
  refine xq 2 [(11, V a1), (10, Pt b10653 0), (7, Pt b10653 0), (6, Pt b10639 0), (1, V a1), (2, V a2)] ?_
  obtain ⟨r10694, hx10695, ho10692⟩ := obind ho10692
  have hF10701 : St _ _ _ _ _ _ ([.blk b10653 [v10655], .gs v10655 c10656 (csz api_Node)] ++ [.blk b10639 [.slice none 0 0], .blk b10636 [v9600]]) := ((hS10648.front 1 rfl).front 1 rfl)
  obtain ⟨v10696, h10697, Z10702, A10704, hcl10698, hSc10699, rfl, rfl⟩ := arena_forest_has_ok F hF10701.preL q10654 hx10695
  have hZ10703 := hSc10699.zle
  have hS10700 := hF10701.call hSc10699
  replace hS10700 : St _ _ _ _ _ _ [.blk b10653 [v10655], .gs v10655 c10656 (csz api_Node), .blk b10639 [.slice none 0 0], .blk b10636 [v9600]] := hS10700
  refine r_step rfl trivial (o_call hcl10698 rfl rfl rfl) ?_
  refine xq 1 [(13, .bool r10694), (7, Pt b10653 0), (6, Pt b10639 0), (1, V a1), (2, V a2)] ?_
  rcases ifs ho10692 with ⟨hp10705, ho10692⟩ | ⟨hp10705, ho10692⟩
  refine r_setb (t := 13) rfl hp10705 ?_
  refine xq 5 [(18, Pt b10653 0), (14, V a2), (13, .bool true), (7, Pt b10653 0), (6, Pt b10639 0), (1, V a1), (2, V a2)] ?_
  refine r_step rfl rfl (o_ldb (v := v10655) hS10700 (i := 0) rfl rfl (by kernel_rfl)) ?_
  obtain ⟨hc10706, ho10692⟩ := chk ho10692
  refine r_step rfl rfl (o_index rfl rfl (by kernel_rfl : slTy _ _ = some (csz api_Node)) (hS10700.gbased (j := 1) rfl (q10654.mono hZ10703) (by omega)) hc10706.1 hc10706.2) ?_
  refine xq 1 [(21, .pointer (some (elemA v10655 0 (csz api_Node) 2))), (14, V a2), (13, .bool true), (7, Pt b10653 0), (6, Pt b10639 0), (1, V a1), (2, V a2)] ?_
  obtain ⟨x10707, hx10708, ho10692⟩ := obind ho10692
  obtain ⟨cs10709, hc10710, he10711, ht10712⟩ := hS10700.gel (j := 1) rfl (q10654.mono hZ10703) (i := 0) hx10708
  obtain ⟨v10713, q10714, rfl⟩ := rc_api_Node hc10710
  refine r_step rfl rfl (o_lde (w := V x10707.To) he10711 rfl (by kernel_rfl)) ?_
  rcases ifs ho10692 with ⟨hp10715, ho10692⟩ | ⟨hp10715, ho10692⟩
  refine r_step rfl rfl (o_cmp rfl rfl (c_leq_T hp10715)) ?_
  refine xe 1 [(24, .bool true), (7, Pt b10653 0), (6, Pt b10639 0), (1, V a1), (2, V a2)] ?_
  refine cT 24 rfl ?_
  refine rg r22_3 ?_
  refine xq 3 [(27, V a2), (26, V a1), (25, Pt b10653 0), (7, Pt b10653 0), (6, Pt b10639 0)] ?_
  obtain ⟨r10716, hx10717, ho10692⟩ := obind ho10692
  have hF10723 : St _ _ _ _ _ _ ([.blk b10653 [v10655], .gs v10655 c10656 (csz api_Node)] ++ [.blk b10639 [.slice none 0 0], .blk b10636 [v9600]]) := ((hS10700.front 1 rfl).front 1 rfl)
  obtain ⟨v10718, h10719, Z10724, A10726, hcl10720, hSc10721, c10728, rfl, rfl, q10727⟩ := arena_forest_grow_ok F hF10723.preL (q10654.mono hZ10703) hx10717
  have hZ10725 := hSc10721.zle
  have hS10722 := hF10723.call hSc10721
  replace hS10722 : St _ _ _ _ _ _ [.blk b10653 [v10655], .gs v10655 c10728 (csz api_Node), .blk b10639 [.slice none 0 0], .blk b10636 [v9600]] := hS10722
  refine r_step rfl trivial (o_call hcl10720 rfl rfl rfl) ?_
  refine xf [(7, Pt b10653 0), (6, Pt b10639 0)] ?_
  obtain rfl := Option.some.inj ho10692
  exact ⟨_, r10716.Tree.Nodes, b10639, b10653, v10655, c10728, rfl, q10727, rfl, ((((hS10722.front 1 rfl).front 1 rfl).front 2 rfl).takeN 3)⟩
  refine r_step rfl rfl (o_cmp rfl rfl (c_leq_F hp10715)) ?_
  refine xe 1 [(24, .bool false), (7, Pt b10653 0), (6, Pt b10639 0), (1, V a1), (2, V a2)] ?_
  refine kF 24 rfl ?_
  obtain rfl := Option.some.inj ho10692
  exact ⟨_, r10642.Tree.Nodes, b10639, b10653, v10655, c10656, rfl, (q10654.mono hZ10703), rfl, ((((hS10700.front 1 rfl).front 1 rfl).front 2 rfl).takeN 3)⟩
  refine r_setb (t := 13) rfl (Bool.eq_false_iff.2 hp10705) ?_
  refine xe 11 [(24, .bool false), (7, Pt b10653 0), (6, Pt b10639 0), (1, V a1), (2, V a2)] ?_
  refine kF 24 rfl ?_
  obtain rfl := Option.some.inj ho10692
  exact ⟨_, r10642.Tree.Nodes, b10639, b10653, v10655, c10656, rfl, (q10654.mono hZ10703), rfl, ((((hS10700.front 1 rfl).front 1 rfl).front 2 rfl).takeN 3)⟩

def r46_0 : List COp := [u 4 (.assign (ci 0))]
def r46_1 : List COp := [u 5 (.move (t 1)), u 6 (.binOp .lss 3 (t 5) (ci 0) 3), u 7 (.move (t 6)), gN 7 (some 8) (.move (t 1)), gN 7 (some 9) (.move (t 0)), gN 7 (some 10) (.nilCheck (t 9)), gN 7 (some 11) (.fieldAddr 58 (t 10) 1), gN 7 (some 12) (.load 3 (t 11)), gN 7 (some 13) (.binOp .geq 3 (t 8) (t 12) 3), u 14 (.pick (t 7) (.const (.bool true)) (t 13))]
def r46_2 : List COp := [u 4 (.assign (ci 0))]
def r46_3 : List COp := [u 15 (.move (t 0)), u 16 (.nilCheck (t 15)), u 17 (.fieldAddr 58 (t 16) 0), u 18 (.load 25 (t 17)), u 19 (.move (t 1)), u 20 (.indexAddr 25 (t 18) (t 19)), u 21 (.fieldAddr 70 (t 20) 0), u 22 (.load 3 (t 21)), u 4 (.assign (t 22))]
def flow_reader_kind (F : Nat) (a0 : flow_reader) (a1 : Int) : Option Int :=
  if a1 < (0 : Int) then
    some 0
  else
    if a0.end_ ≤ a1 then
      some 0
    else
      if 0 ≤ a1 ∧ a1 < (a0.l_.length : Int) then
        (a0.l_[a1.toNat]?).bind fun x10843 =>
        some x10843.Kind
      else none
theorem flow_reader_kind_ok (F : Nat) {h : AH} {Z : Zn} {a0 : flow_reader} {a1 : Int} {b10815 : Nat} {v10817 : Value} {v10819 : Value} {v10821 : Value} {c10822 : List Value} (hP : Pre Z h [.blk b10815 (K58 v10817 v10819 v10821 a0), .gs v10821 c10822 (csz api_Diag)]) (q10816 : RS (α := api_Token) Z v10817 a0.l_) (q10818 : RS (α := api_Node) Z v10819 a0.t_.Nodes) (q10820 : RCs (α := api_Diag) Z c10822 a0.d_) {r : Int} (hm : flow_reader_kind F a0 a1 = some r) :
    ∃ v h' Z' A', callI Go.Proofs.Try.prog 46 [Pt b10815 0, V a1] h = some (v, h') ∧ St h (idsL [.blk b10815 (K58 v10817 v10819 v10821 a0), .gs v10821 c10822 (csz api_Diag)]) Z (0, 0) Z' h' A' ∧ V r = v ∧ A' = [.blk b10815 (K58 v10817 v10819 v10821 a0), .gs v10821 c10822 (csz api_Diag)] := by
  refine fn_intro (A := [.blk b10815 (K58 v10817 v10819 v10821 a0), .gs v10821 c10822 (csz api_Diag)]) (Q := fun v Z' A' => V r = v ∧ A' = [.blk b10815 (K58 v10817 v10819 v10821 a0), .gs v10821 c10822 (csz api_Diag)]) Go.Proofs.Try.func46 rfl rfl (by kernel_rfl) hP ?_
  intro hs hS
  unfold flow_reader_kind at hm
  refine sr r46_0 ?_
  refine xe 1 [(0, Pt b10815 0), (1, V a1)] ?_
  refine sq ?_
  refine sr r46_1 ?_
  refine xq 1 [(5, V a1), (0, Pt b10815 0), (1, V a1)] ?_
  rcases ifs hm with ⟨hp10840, hm⟩ | ⟨hp10840, hm⟩
  refine r_step rfl trivial (o_cmp rfl rfl (c_lss_T hp10840)) ?_
  refine xe 8 [(14, .bool true), (0, Pt b10815 0), (1, V a1)] ?_
  refine cT 14 rfl ?_
  refine sr r46_2 ?_
  refine xe 1 [(4, V 0)] ?_
  refine rt ?_
  refine ⟨rfl, ?_⟩
  obtain rfl := Option.some.inj hm
  refine ⟨_, _, _, ResL.tmp rfl (ResL.nil), hS, ?_⟩
  exact ⟨rfl, rfl⟩
  refine r_step rfl trivial (o_cmp rfl rfl (c_lss_F hp10840)) ?_
  refine xq 5 [(11, Pt b10815 1), (8, V a1), (7, .bool false), (0, Pt b10815 0), (1, V a1)] ?_
  refine r_step rfl rfl (o_ldb (v := V a0.end_) hS (i := 0) rfl rfl (by kernel_rfl)) ?_
  rcases ifs hm with ⟨hp10841, hm⟩ | ⟨hp10841, hm⟩
  refine r_step rfl rfl (o_cmp rfl rfl (c_geq_T hp10841)) ?_
  refine xe 1 [(14, .bool true), (0, Pt b10815 0), (1, V a1)] ?_
  refine cT 14 rfl ?_
  refine sr r46_2 ?_
  refine xe 1 [(4, V 0)] ?_
  refine rt ?_
  refine ⟨rfl, ?_⟩
  obtain rfl := Option.some.inj hm
  refine ⟨_, _, _, ResL.tmp rfl (ResL.nil), hS, ?_⟩
  exact ⟨rfl, rfl⟩
  refine r_step rfl rfl (o_cmp rfl rfl (c_geq_F hp10841)) ?_
  refine xe 1 [(14, .bool false), (0, Pt b10815 0), (1, V a1)] ?_
  refine kF 14 rfl ?_
  refine sr r46_3 ?_
  refine xq 3 [(17, Pt b10815 0), (1, V a1)] ?_
  refine r_step rfl trivial (o_ldb (v := v10817) hS (i := 0) rfl rfl (by kernel_rfl)) ?_
  refine xq 1 [(19, V a1), (18, v10817)] ?_
  obtain ⟨hc10842, hm⟩ := chk hm
  refine r_step rfl trivial (o_index rfl rfl (by kernel_rfl : slTy _ _ = some (csz api_Token)) (RS.based q10816 (by omega)) hc10842.1 hc10842.2) ?_
  refine xq 1 [(21, .pointer (some (elemA v10817 a1 (csz api_Token) 0)))] ?_
  obtain ⟨x10843, hx10844, hm⟩ := obind hm
  obtain ⟨cs10845, hc10846, he10847⟩ := RS.elz q10816 (i := a1) hx10844
  obtain rfl := rc_api_Token hc10846
  refine r_step rfl trivial (o_lde (w := V x10843.Kind) (he10847 _ (hS.zin0 (Zle.refl _))) rfl (by kernel_rfl)) ?_
  refine xe 1 [(4, V x10843.Kind)] ?_
  refine rt ?_
  refine ⟨rfl, ?_⟩
  obtain rfl := Option.some.inj hm
  refine ⟨_, _, _, ResL.tmp rfl (ResL.nil), hS, ?_⟩
  exact ⟨rfl, rfl⟩

def r44_0 : List COp := [u 4 (.assign (ci 0))]
def r44_1 : List COp := [u 5 (.move (t 0)), u 6 (.move (t 1)), u 7 (cf 46 #[(t 5), (t 6)] #[55, 3]), u 8 (.binOp .eql 3 (t 7) (ci 3) 3)]
def r44_2 : List COp := [u 9 (.move (t 1)), u 10 (.binOp .add 3 (t 9) (ci 1) 3), u 1 (.assign (t 10))]
def r44_3 : List COp := [u 11 (.move (t 1)), u 4 (.assign (t 11))]
def flow_reader_blanks_l0 (F : Nat) (a0 : flow_reader) (a1 : Int) : Nat → Int → Option Int
  | 0, _ => none
  | n + 1, x11011 =>
    (flow_reader_kind F a0 x11011).bind fun r11039 =>
    if r11039 = (3 : Int) then
      flow_reader_blanks_l0 F a0 a1 n (w64 (x11011 + 1))
    else
      some x11011
def flow_reader_blanks (F : Nat) (a0 : flow_reader) (a1 : Int) : Option Int :=
  ((flow_reader_blanks_l0 F a0 a1 F a1) : Option Int).bind fun o => match o with
    | x11053 => some x11053
theorem flow_reader_blanks_ok (F : Nat) {h : AH} {Z : Zn} {a0 : flow_reader} {a1 : Int} {b10804 : Nat} {v10806 : Value} {v10808 : Value} {v10810 : Value} {c10811 : List Value} (hP : Pre Z h [.blk b10804 (K58 v10806 v10808 v10810 a0), .gs v10810 c10811 (csz api_Diag)]) (q10805 : RS (α := api_Token) Z v10806 a0.l_) (q10807 : RS (α := api_Node) Z v10808 a0.t_.Nodes) (q10809 : RCs (α := api_Diag) Z c10811 a0.d_) {r : Int} (hm : flow_reader_blanks F a0 a1 = some r) :
    ∃ v h' Z' A', callI Go.Proofs.Try.prog 44 [Pt b10804 0, V a1] h = some (v, h') ∧ St h (idsL [.blk b10804 (K58 v10806 v10808 v10810 a0), .gs v10810 c10811 (csz api_Diag)]) Z (0, 0) Z' h' A' ∧ V r = v ∧ A' = [.blk b10804 (K58 v10806 v10808 v10810 a0), .gs v10810 c10811 (csz api_Diag)] := by
  refine fn_intro (A := [.blk b10804 (K58 v10806 v10808 v10810 a0), .gs v10810 c10811 (csz api_Diag)]) (Q := fun v Z' A' => V r = v ∧ A' = [.blk b10804 (K58 v10806 v10808 v10810 a0), .gs v10810 c10811 (csz api_Diag)]) Go.Proofs.Try.func44 rfl rfl (by kernel_rfl) hP ?_
  intro hs hS
  unfold flow_reader_blanks at hm
  refine sr r44_0 ?_
  refine xe 1 [(0, Pt b10804 0), (1, V a1)] ?_
  refine sq ?_
  obtain ⟨o11009, ho11008, hm⟩ := obind hm
  refine W_join [1] (fun l h => ∃ Z11052 : Zn, ∃ x11053 : Int, x11053 = o11009 ∧ l = [(1, V x11053)] ∧ St hs (idsL [.blk b10804 (K58 v10806 v10808 v10810 a0), .gs v10810 c10811 (csz api_Diag)]) Z (0, 0) Z11052 h [.blk b10804 (K58 v10806 v10808 v10810 a0), .gs v10810 c10811 (csz api_Diag)]) ?_ ?_
  rintro l h11054 ⟨Z11052, x11053, rfl, rfl, hS11055⟩
  try dsimp only at hm
  refine sr r44_3 ?_
  refine xe 2 [(4, V x11053)] ?_
  refine rt ?_
  refine ⟨rfl, ?_⟩
  obtain rfl := Option.some.inj hm
  refine ⟨_, _, _, ResL.tmp rfl (ResL.nil), hS11055, ?_⟩
  exact ⟨rfl, rfl⟩
  refine bk 0 ?_
  refine lp [0, 1] (fun n l h => ∃ Z11010 : Zn, ∃ x11011 : Int, flow_reader_blanks_l0 F a0 a1 n x11011 = some o11009 ∧ l = [(0, Pt b10804 0), (1, V x11011)] ∧ St hs (idsL [.blk b10804 (K58 v10806 v10808 v10810 a0), .gs v10810 c10811 (csz api_Diag)]) Z (0, 0) Z11010 h [.blk b10804 (K58 v10806 v10808 v10810 a0), .gs v10810 c10811 (csz api_Diag)]) F ⟨_, a1, ho11008, rfl, hS⟩ ?_
  rintro n11014 l h11012 ⟨Z11010, x11011, ho11008, rfl, hS11013⟩
  rcases n11014 with _ | n11014
  cases (show none = some o11009 from ho11008)
  rw [flow_reader_blanks_l0] at ho11008
  refine sq ?_
  refine sr r44_1 ?_
  refine xq 2 [(6, V x11011), (5, Pt b10804 0), (0, Pt b10804 0), (1, V x11011)] ?_
  obtain ⟨r11039, hx11040, ho11008⟩ := obind ho11008
  have hF11046 : St _ _ _ _ _ _ ([.blk b10804 (K58 v10806 v10808 v10810 a0), .gs v10810 c10811 (csz api_Diag)] ++ []) := ((hS11013.front 1 rfl).front 1 rfl)
  obtain ⟨v11041, h11042, Z11047, A11049, hcl11043, hSc11044, rfl, rfl⟩ := flow_reader_kind_ok F hF11046.preL (q10805.mono hS11013.zle) (q10807.mono hS11013.zle) (q10809.mono hS11013.zle) hx11040
  have hZ11048 := hSc11044.zle
  have hS11045 := hF11046.call hSc11044
  replace hS11045 : St _ _ _ _ _ _ [.blk b10804 (K58 v10806 v10808 v10810 a0), .gs v10810 c10811 (csz api_Diag)] := hS11045
  refine r_step rfl trivial (o_call hcl11043 rfl rfl rfl) ?_
  rcases ifs ho11008 with ⟨hp11050, ho11008⟩ | ⟨hp11050, ho11008⟩
  refine r_step rfl trivial (o_cmp rfl rfl (c_eql_T hp11050)) ?_
  refine xf [(8, .bool true), (0, Pt b10804 0), (1, V x11011)] ?_
  refine kT 8 rfl ?_
  refine bk 1 ?_
  refine rg r44_2 ?_
  refine xe 3 [(1, V (w64 (x11011 + 1))), (0, Pt b10804 0)] ?_
  exact ⟨n11014, Nat.lt_succ_self _, ⟨_, w64 (x11011 + 1), ho11008, rfl, hS11045⟩⟩
  refine r_step rfl trivial (o_cmp rfl rfl (c_eql_F hp11050)) ?_
  refine xf [(8, .bool false), (0, Pt b10804 0), (1, V x11011)] ?_
  refine cF 8 rfl ?_
  refine xt 0 ?_
  refine blkX_hit ?_
  obtain rfl := Option.some.inj ho11008
  exact ⟨_, x11011, rfl, rfl, hS11045⟩

def r45_0 : List COp := [u 2 (.assign (.const (.bool false)))]
def r45_1 : List COp := [u 3 (.move (t 0)), u 4 (.binOp .eql 3 (t 3) (ci 12) 3), u 5 (.move (t 4)), gN 5 (some 6) (.move (t 0)), gN 5 (some 7) (.binOp .eql 3 (t 6) (ci 14) 3), u 8 (.pick (t 5) (.const (.bool true)) (t 7)), u 2 (.assign (t 8))]
def flow_property (F : Nat) (a0 : Int) : Option Bool :=
  if a0 = (12 : Int) then
    some true
  else
    if a0 = (14 : Int) then
      some true
    else
      some false
theorem flow_property_ok (F : Nat) {h : AH} {Z : Zn} {a0 : Int} (hI : Inv Z h) {r : Bool} (hm : flow_property F a0 = some r) :
    ∃ v h', callI Go.Proofs.Try.prog 45 [V a0] h = some (v, h') ∧ St h [] Z (0, 0) Z h' [] ∧ v = .bool r := by
  refine fn_plain (Q := fun v => v = .bool r) Go.Proofs.Try.func45 rfl rfl hI ?_
  intro hs hS
  unfold flow_property at hm
  refine sr r45_0 ?_
  refine xe 1 [(0, V a0)] ?_
  refine sr r45_1 ?_
  refine xq 1 [(3, V a0), (0, V a0)] ?_
  rcases ifs hm with ⟨hp11086, hm⟩ | ⟨hp11086, hm⟩
  refine r_step rfl trivial (o_cmp rfl rfl (c_eql_T hp11086)) ?_
  refine xe 5 [(2, .bool true)] ?_
  refine rt ?_
  refine ⟨rfl, ?_⟩
  obtain rfl := Option.some.inj hm
  refine ⟨_, _, _, ResL.tmp rfl (ResL.nil), hS, ?_⟩
  exact rfl
  refine r_step rfl trivial (o_cmp rfl rfl (c_eql_F hp11086)) ?_
  refine xq 2 [(6, V a0), (5, .bool false)] ?_
  rcases ifs hm with ⟨hp11087, hm⟩ | ⟨hp11087, hm⟩
  refine r_step rfl rfl (o_cmp rfl rfl (c_eql_T hp11087)) ?_
  refine xe 2 [(2, .bool true)] ?_
  refine rt ?_
  refine ⟨rfl, ?_⟩
  obtain rfl := Option.some.inj hm
  refine ⟨_, _, _, ResL.tmp rfl (ResL.nil), hS, ?_⟩
  exact rfl
  refine r_step rfl rfl (o_cmp rfl rfl (c_eql_F hp11087)) ?_
  refine xe 2 [(2, .bool false)] ?_
  refine rt ?_
  refine ⟨rfl, ?_⟩
  obtain rfl := Option.some.inj hm
  refine ⟨_, _, _, ResL.tmp rfl (ResL.nil), hS, ?_⟩
  exact rfl

def r70_0 : List COp := [u 4 (.assign (ci 0))]
def r70_1 : List COp := [u 7 (.move (t 0)), u 8 (.nilCheck (t 7)), u 9 (.fieldAddr 65 (t 8) 0), u 10 (.fieldAddr 29 (t 9) 0), u 11 (.load 27 (t 10)), u 12 (.move (t 1)), u 13 (.indexAddr 27 (t 11) (t 12)), u 14 (.load 42 (t 13)), u 5 (.alloc 42), o (.store 42 (t 5) (t 14))]
def r70_2 : List COp := [u 15 (.fieldAddr 42 (t 5) 4), u 16 (.load 40 (t 15)), u 17 (cb .len #[(t 16)] #[40]), u 6 (.assign (t 17))]
def r70_3 : List COp := [u 18 (.move (t 6)), u 19 (.binOp .gtr 3 (t 18) (ci 0) 3), u 20 (.move (t 19)), gT 20 (some 21) (.move (t 0)), gT 20 (some 22) (.fieldAddr 42 (t 5) 4), gT 20 (some 23) (.load 40 (t 22)), gT 20 (some 24) (.move (t 6)), gT 20 (some 25) (.binOp .sub 3 (t 24) (ci 1) 3), gT 20 (some 26) (.indexAddr 40 (t 23) (t 25)), gT 20 (some 27) (.load 3 (t 26)), gT 20 (some 28) (cf 42 #[(t 21), (t 27)] #[62, 3]), u 29 (.pick (t 20) (t 28) (.const (.bool false)))]
def r70_4 : List COpF := [uF 30 (.fieldAddr 42 (t 5) 1) .pure [], uF 31 (.load 3 (t 30)) .look [], uF 32 (.move (t 0)) .pure [], uF 33 (.nilCheck (t 32)) .pure [], uF 34 (.fieldAddr 65 (t 33) 0) .pure [], uF 35 (.fieldAddr 29 (t 34) 0) .pure [], uF 36 (.load 27 (t 35)) .look [], uF 37 (.fieldAddr 42 (t 5) 4) .pure [], uF 38 (.load 40 (t 37)) .look [], uF 39 (.move (t 6)) .pure [], uF 40 (.binOp .sub 3 (t 39) (ci 1) 3) .pure [], uF 41 (.indexAddr 40 (t 38) (t 40)) .pure [], uF 42 (.load 3 (t 41)) .look [], uF 43 (.indexAddr 27 (t 36) (t 42)) .pure [], uF 44 (.fieldAddr 42 (t 43) 2) .pure [], uF 45 (.load 3 (t 44)) .look [], uF 46 (cb .max #[(t 31), (t 45)] #[3, 3]) .pure [], uF 4 (.assign (t 46)) .pure []]
def r70_5 : List COp := [u 47 (.fieldAddr 42 (t 5) 1), u 48 (.load 3 (t 47)), u 4 (.assign (t 48))]
def arena_forest_end (F : Nat) (a0 : arena_forest) (a1 : Int) : Option Int :=
  if 0 ≤ a1 ∧ a1 < (a0.Tree.Nodes.length : Int) then
    (a0.Tree.Nodes[a1.toNat]?).bind fun x11367 =>
    ((if (0 : Int) < (x11367.Kids.length : Int) then
        if 0 ≤ (w64 ((x11367.Kids.length : Int) - 1)) ∧ (w64 ((x11367.Kids.length : Int) - 1)) < (x11367.Kids.length : Int) then
          (x11367.Kids[(w64 ((x11367.Kids.length : Int) - 1)).toNat]?).bind fun x11450 =>
          (arena_forest_has F a0 x11450).bind fun r11456 =>
          if r11456 = true then
            if 0 ≤ (w64 ((x11367.Kids.length : Int) - 1)) ∧ (w64 ((x11367.Kids.length : Int) - 1)) < (x11367.Kids.length : Int) then
              (x11367.Kids[(w64 ((x11367.Kids.length : Int) - 1)).toNat]?).bind fun x11476 =>
              if 0 ≤ x11476 ∧ x11476 < (a0.Tree.Nodes.length : Int) then
                (a0.Tree.Nodes[x11476.toNat]?).bind fun x11483 =>
                some (.inr (imax x11367.From x11483.To))
              else none
            else none
          else
            some (.inl x11367)
        else none
      else
        some (.inl x11367)) : Option (Sum api_Node Int)).bind fun o => match o with
      | .inl x11497 => some x11497.From
      | .inr y => some y
  else none
theorem arena_forest_end_ok (F : Nat) {h : AH} {Z : Zn} {a0 : arena_forest} {a1 : Int} {b11275 : Nat} {v11277 : Value} {c11278 : List Value} (hP : Pre Z h [.blk b11275 [v11277], .gs v11277 c11278 (csz api_Node)]) (q11276 : RCs (α := api_Node) Z c11278 a0.Tree.Nodes) {r : Int} (hm : arena_forest_end F a0 a1 = some r) :
    ∃ v h' Z' A', callI Go.Proofs.Try.prog 70 [Pt b11275 0, V a1] h = some (v, h') ∧ St h (idsL [.blk b11275 [v11277], .gs v11277 c11278 (csz api_Node)]) Z (0, 0) Z' h' A' ∧ V r = v ∧ A' = [.blk b11275 [v11277], .gs v11277 c11278 (csz api_Node)] := by
  refine fn_intro (A := [.blk b11275 [v11277], .gs v11277 c11278 (csz api_Node)]) (Q := fun v Z' A' => V r = v ∧ A' = [.blk b11275 [v11277], .gs v11277 c11278 (csz api_Node)]) Go.Proofs.Try.func70 rfl rfl (by kernel_rfl) hP ?_
  intro hs hS
  unfold arena_forest_end at hm
  refine sr r70_0 ?_
  refine xe 1 [(0, Pt b11275 0), (1, V a1)] ?_
  refine sr r70_1 ?_
  refine xq 4 [(10, Pt b11275 0), (0, Pt b11275 0), (1, V a1)] ?_
  refine r_step rfl trivial (o_ldb (v := v11277) hS (i := 0) rfl rfl (by kernel_rfl)) ?_
  refine xq 1 [(12, V a1), (11, v11277), (0, Pt b11275 0)] ?_
  obtain ⟨hc11366, hm⟩ := chk hm
  refine r_step rfl trivial (o_index rfl rfl (by kernel_rfl : slTy _ _ = some (csz api_Node)) (hS.gbased (j := 1) rfl q11276 (by omega)) hc11366.1 hc11366.2) ?_
  obtain ⟨x11367, hx11368, hm⟩ := obind hm
  obtain ⟨cs11369, hc11370, he11371, ht11372⟩ := hS.gel (j := 1) rfl q11276 (i := a1) hx11368
  obtain ⟨v11373, q11374, rfl⟩ := rc_api_Node hc11370
  refine r_step rfl trivial (o_lde (w := .agg #[V x11367.Kind, V x11367.From, V x11367.To, V x11367.Up, v11373, .bool x11367.Key]) he11371 rfl (by kernel_rfl)) ?_
  refine r_blk rfl trivial (o_alloc (cs := [V 0, V 0, V 0, V 0, .slice none 0 0, .bool false]) (by kernel_rfl)) hS ?_
  intro b11375 h11376 hS11377
  refine r_ex1 rfl trivial (o_stb (vs := [V x11367.Kind, V x11367.From, V x11367.To, V x11367.Up, v11373, .bool x11367.Key]) (cells' := (K42 v11373 x11367)) (L' := [.blk b11375 (K42 v11373 x11367), .blk b11275 [v11277], .gs v11277 c11278 (csz api_Node)]) hS11377 (i := 0) rfl rfl rfl rfl (by kernel_rfl) (one_cons rfl (one_cons rfl (one_cons rfl (one_cons rfl (one_cons (RS.one1 q11374) (one_cons rfl one_nil)))))) rfl rfl rfl) ?_
  intro h11378 hS11379
  refine xf [(5, Pt b11375 0), (0, Pt b11275 0)] ?_
  refine sq ?_
  refine sr r70_2 ?_
  refine xq 1 [(15, Pt b11375 4), (5, Pt b11375 0), (0, Pt b11275 0)] ?_
  refine r_step rfl trivial (o_ldb (v := v11373) hS11379 (i := 0) rfl rfl (by kernel_rfl)) ?_
  refine r_step rfl trivial (o_len rfl (RS.len q11374) ⟨_, Go.Proofs.Try.underlying40⟩) ?_
  refine xe 1 [(6, V (x11367.Kids.length : Int)), (5, Pt b11375 0), (0, Pt b11275 0)] ?_
  obtain ⟨o11447, ho11446, hm⟩ := obind hm
  refine W_seqJoin0 [5] (fun l h => ∃ Z11495 : Zn, ∃ x11497 : api_Node, ∃ b11496 : Nat, ∃ v11499 : Value, .inl x11497 = o11447 ∧ RS (α := Int) Z11495 v11499 x11497.Kids ∧ l = [(5, Pt b11496 0)] ∧ St hs (idsL [.blk b11275 [v11277], .gs v11277 c11278 (csz api_Node)]) Z (0, 0) Z11495 h [.blk b11275 [v11277], .gs v11277 c11278 (csz api_Node), .blk b11496 (K42 v11499 x11497)]) (by kernel_rfl) ?_ ?_
  rintro l h11500 ⟨Z11495, x11497, b11496, v11499, rfl, q11498, rfl, hS11501⟩
  try dsimp only at hm
  refine sr r70_5 ?_
  refine xq 1 [(47, Pt b11496 1)] ?_
  refine r_step rfl trivial (o_ldb (v := V x11497.From) hS11501 (i := 2) rfl rfl (by kernel_rfl)) ?_
  refine xe 1 [(4, V x11497.From)] ?_
  refine rt ?_
  refine ⟨rfl, ?_⟩
  obtain rfl := Option.some.inj hm
  refine ⟨_, _, _, ResL.tmp rfl (ResL.nil), (hS11501.takeN 2), ?_⟩
  exact ⟨rfl, rfl⟩
  refine rg r70_3 ?_
  refine xq 1 [(18, V (x11367.Kids.length : Int)), (6, V (x11367.Kids.length : Int)), (5, Pt b11375 0), (0, Pt b11275 0)] ?_
  rcases ifs ho11446 with ⟨hp11448, ho11446⟩ | ⟨hp11448, ho11446⟩
  refine r_step rfl trivial (o_cmp rfl rfl (c_gtr_T hp11448)) ?_
  refine xq 3 [(22, Pt b11375 4), (21, Pt b11275 0), (20, .bool true), (6, V (x11367.Kids.length : Int)), (5, Pt b11375 0), (0, Pt b11275 0)] ?_
  refine r_step rfl rfl (o_ldb (v := v11373) hS11379 (i := 0) rfl rfl (by kernel_rfl)) ?_
  refine xq 2 [(25, V (w64 ((x11367.Kids.length : Int) - 1))), (23, v11373), (21, Pt b11275 0), (20, .bool true), (6, V (x11367.Kids.length : Int)), (5, Pt b11375 0), (0, Pt b11275 0)] ?_
  obtain ⟨hc11449, ho11446⟩ := chk ho11446
  refine r_step rfl rfl (o_index rfl rfl (by kernel_rfl : slTy _ _ = some (csz Int)) (RS.based q11374 (by omega)) hc11449.1 hc11449.2) ?_
  obtain ⟨x11450, hx11451, ho11446⟩ := obind ho11446
  obtain ⟨cs11452, hc11453, he11454⟩ := RS.elz q11374 (i := w64 ((x11367.Kids.length : Int) - 1)) hx11451
  obtain rfl := rc_Int hc11453
  refine r_step rfl rfl (o_lde (w := V x11450) (he11454 _ (hS11379.zin0 (Zle.refl _))) rfl (by kernel_rfl)) ?_
  obtain ⟨r11456, hx11457, ho11446⟩ := obind ho11446
  have hF11463 : St _ _ _ _ _ _ ([.blk b11275 [v11277], .gs v11277 c11278 (csz api_Node)] ++ [.blk b11375 (K42 v11373 x11367)]) := ((hS11379.front 2 rfl).front 2 rfl)
  obtain ⟨v11458, h11459, Z11464, A11466, hcl11460, hSc11461, rfl, rfl⟩ := arena_forest_has_ok F hF11463.preL q11276 hx11457
  have hZ11465 := hSc11461.zle
  have hS11462 := hF11463.call hSc11461
  replace hS11462 : St _ _ _ _ _ _ [.blk b11275 [v11277], .gs v11277 c11278 (csz api_Node), .blk b11375 (K42 v11373 x11367)] := hS11462
  refine r_step rfl rfl (o_call hcl11460 rfl rfl rfl) ?_
  refine xe 1 [(29, .bool r11456), (6, V (x11367.Kids.length : Int)), (5, Pt b11375 0), (0, Pt b11275 0)] ?_
  rcases ifs ho11446 with ⟨hp11467, ho11446⟩ | ⟨hp11467, ho11446⟩
  refine W_condT (x := .tmp 29) (by kernel_rfl) rfl hp11467 ?_
  refine srF r70_4 hS11462 ?_
  intro bs11468 h11469 hlv11471 hS11470
  refine yq 1 [(30, Pt b11375 1), (6, V (x11367.Kids.length : Int)), (5, Pt b11375 0), (0, Pt b11275 0)] ?_
  have lt11472 : b11375 < bs11468 := hlv11471.1 _ (List.mem_of_getElem? (i := 2) rfl) _ (by simp [Itm.ids])
  refine e_lookB rfl trivial rfl (by show b11375 < _; omega) (same1 (v := V x11367.From) trivial) (o_ldb (v := V x11367.From) hS11470 (i := 2) rfl rfl (by kernel_rfl)) trivial ?_
  refine yq 4 [(35, Pt b11275 0), (31, V x11367.From), (6, V (x11367.Kids.length : Int)), (5, Pt b11375 0)] ?_
  have lt11473 : b11275 < bs11468 := hlv11471.1 _ (List.mem_of_getElem? (i := 0) rfl) _ (by simp [Itm.ids])
  refine e_lookB rfl trivial rfl (by show b11275 < _; omega) (same1 (v := v11277) (hS11470.gsim1 (i := 1) rfl)) (o_ldb (v := v11277) hS11470 (i := 0) rfl rfl (by kernel_rfl)) trivial ?_
  refine yq 1 [(37, Pt b11375 4), (36, v11277), (31, V x11367.From), (6, V (x11367.Kids.length : Int))] ?_
  have lt11474 : b11375 < bs11468 := hlv11471.1 _ (List.mem_of_getElem? (i := 2) rfl) _ (by simp [Itm.ids])
  refine e_lookB rfl trivial rfl (by show b11375 < _; omega) (same1 (v := v11373) (RS.sim1 (q11374.mono hZ11465))) (o_ldb (v := v11373) hS11470 (i := 2) rfl rfl (by kernel_rfl)) trivial ?_
  refine yq 2 [(40, V (w64 ((x11367.Kids.length : Int) - 1))), (38, v11373), (36, v11277), (31, V x11367.From)] ?_
  obtain ⟨hc11475, ho11446⟩ := chk ho11446
  refine e_val rfl trivial (o_index rfl rfl (by kernel_rfl : slTy _ _ = some (csz Int)) (RS.based (q11374.mono hZ11465) (by omega)) hc11475.1 hc11475.2) ?_
  obtain ⟨x11476, hx11477, ho11446⟩ := obind ho11446
  obtain ⟨cs11478, hc11479, he11480⟩ := RS.elz (q11374.mono hZ11465) (i := w64 ((x11367.Kids.length : Int) - 1)) hx11477
  obtain rfl := rc_Int hc11479
  refine e_lookZ rfl rfl trivial (fun h2 hz => o_lde (w := V x11476) (he11480 h2 hz) rfl (by kernel_rfl)) (hS11470.zin0 (Zle.refl _)) (same1 (v := V x11476) trivial) trivial ?_
  obtain ⟨hc11482, ho11446⟩ := chk ho11446
  refine e_val rfl trivial (o_index rfl rfl (by kernel_rfl : slTy _ _ = some (csz api_Node)) (hS11470.gbased (j := 1) rfl (q11276.mono hZ11465) (by omega)) hc11482.1 hc11482.2) ?_
  refine yq 1 [(44, .pointer (some (elemA v11277 x11476 (csz api_Node) 2))), (31, V x11367.From)] ?_
  obtain ⟨x11483, hx11484, ho11446⟩ := obind ho11446
  obtain ⟨cs11485, hc11486, he11487, ht11488⟩ := hS11470.gel (j := 1) rfl (q11276.mono hZ11465) (i := x11476) hx11484
  obtain ⟨v11489, q11490, rfl⟩ := rc_api_Node hc11486
  have ps11491 := pos_of hx11484
  have hB11492 := hS11470.gbased (j := 1) rfl (q11276.mono hZ11465) ps11491
  have lt11493 : (baseOf v11277).block < bs11468 := row_ltM (hlv11471.1 _ (List.mem_of_getElem? (i := 1) rfl)) hB11492
  refine e_lookB rfl trivial rfl (by show (baseOf v11277).block < _; omega) (same1 (v := V x11483.To) trivial) (o_lde (w := V x11483.To) he11487 rfl (by kernel_rfl)) trivial ?_
  refine ye 2 [(4, V (imax x11367.From x11483.To))] ?_
  have hS11494 := hS11470.unres
  refine rt ?_
  refine ⟨rfl, ?_⟩
  obtain rfl := Option.some.inj ho11446
  obtain rfl := Option.some.inj hm
  refine ⟨_, _, _, ResL.tmp rfl (ResL.nil), (hS11494.takeN 2), ?_⟩
  exact ⟨rfl, rfl⟩
  refine W_condF (x := .tmp 29) (by kernel_rfl) rfl (Bool.eq_false_iff.2 hp11467) ?_
  refine sk ?_
  obtain rfl := Option.some.inj ho11446
  exact ⟨_, x11367, b11375, v11373, rfl, (q11374.mono hZ11465), rfl, hS11462⟩
  refine r_step rfl trivial (o_cmp rfl rfl (c_gtr_F hp11448)) ?_
  refine xe 10 [(29, .bool false), (6, V (x11367.Kids.length : Int)), (5, Pt b11375 0), (0, Pt b11275 0)] ?_
  refine kF 29 rfl ?_
  obtain rfl := Option.some.inj ho11446
  exact ⟨_, x11367, b11375, v11373, rfl, q11374, rfl, (((hS11379.front 0 rfl).front 2 rfl).front 2 rfl)⟩

def r59_0 : List COp := [u 5 (.box 29 (t 0)), u 10 (.alloc 29), u 11 (.assign (ci 0))]
def r59_1 : List COp := [u 14 (.load 29 (t 5)), u 15 (cf 25 #[(t 14)] #[29]), u 12 (.assign (t 15))]
def r59_2 : List COp := [u 16 (.move (t 12)), u 17 (.move (t 1)), u 18 (cf 42 #[(t 16), (t 17)] #[62, 3]), u 19 (.unOp .not 4 (t 18)), u 20 (.move (t 19)), gN 20 (some 21) (.move (t 2)), gN 20 (some 22) (.binOp .lss 3 (t 21) (ci 1) 3), u 23 (.pick (t 20) (.const (.bool true)) (t 22)), u 24 (.move (t 23)), gN 24 (some 25) (.move (t 2)), gN 24 (some 26) (.binOp .gtr 3 (t 25) (ci 11) 3), u 27 (.pick (t 24) (.const (.bool true)) (t 26)), u 28 (.move (t 27)), gN 28 (some 29) (.move (t 3)), gN 28 (some 30) (.move (t 4)), gN 28 (some 31) (.binOp .gtr 3 (t 29) (t 30) 3), u 32 (.pick (t 28) (.const (.bool true)) (t 31)), u 33 (.move (t 32)), gN 33 (some 34) (.move (t 4)), gN 33 (some 35) (.move (t 12)), gN 33 (some 36) (.nilCheck (t 35)), gN 33 (some 37) (.fieldAddr 65 (t 36) 0), gN 33 (some 38) (.fieldAddr 29 (t 37) 0), gN 33 (some 39) (.load 27 (t 38)), gN 33 (some 40) (.indexAddr 27 (t 39) (ci 0)), gN 33 (some 41) (.fieldAddr 42 (t 40) 2), gN 33 (some 42) (.load 3 (t 41)), gN 33 (some 43) (.binOp .gtr 3 (t 34) (t 42) 3), u 44 (.pick (t 33) (.const (.bool true)) (t 43)), u 45 (.move (t 44)), gN 45 (some 46) (.move (t 3)), gN 45 (some 47) (.move (t 12)), gN 45 (some 48) (.move (t 1)), gN 45 (some 49) (cf 70 #[(t 47), (t 48)] #[62, 3]), gN 45 (some 50) (.binOp .lss 3 (t 46) (t 49) 3), u 51 (.pick (t 45) (.const (.bool true)) (t 50))]
def r59_3 : List COp := [u 52 (.move (t 12)), u 53 (.nilCheck (t 52)), u 54 (.fieldAddr 65 (t 53) 0), u 55 (.load 29 (t 54)), o (.store 29 (t 10) (t 55)), u 11 (.assign (ci (-1)))]
def r59_4 : List COp := [u 56 (.move (t 12)), u 57 (.nilCheck (t 56)), u 58 (.fieldAddr 65 (t 57) 0), u 59 (.fieldAddr 29 (t 58) 0), u 60 (.load 27 (t 59)), u 61 (cb .len #[(t 60)] #[27]), u 11 (.assign (t 61))]
def r59_5 : List COp := [u 62 (.move (t 12)), u 63 (.move (t 12)), u 64 (.nilCheck (t 63)), u 65 (.fieldAddr 65 (t 64) 0), u 66 (.fieldAddr 29 (t 65) 0), u 67 (.load 27 (t 66)), u 68 (.move (t 2)), u 69 (.move (t 3)), u 70 (.move (t 4)), u 71 (.move (t 1)), u 72 (.build 42 #[(0, (t 68)), (1, (t 69)), (2, (t 70)), (3, (t 71))]), u 73 (.buildSlice 27 1 #[(0, (t 72))]), u 74 (cb .append #[(t 67), (t 73)] #[27, 27]), u 75 (.nilCheck (t 62)), u 76 (.fieldAddr 65 (t 75) 0), u 77 (.fieldAddr 29 (t 76) 0), o (.store 27 (t 77) (t 74))]
def r59_6 : List COp := [u 78 (.move (t 12)), u 79 (.nilCheck (t 78)), u 80 (.fieldAddr 65 (t 79) 0), u 81 (.fieldAddr 29 (t 80) 0), u 82 (.load 27 (t 81)), u 83 (.move (t 1)), u 84 (.indexAddr 27 (t 82) (t 83)), u 85 (.fieldAddr 42 (t 84) 4), u 86 (.load 40 (t 85)), u 13 (.assign (t 86))]
def r59_7 : List COpF := [uF 87 (.move (t 12)) .pure [], uF 88 (.nilCheck (t 87)) .pure [], uF 89 (.fieldAddr 65 (t 88) 0) .pure [], uF 90 (.fieldAddr 29 (t 89) 0) .pure [], uF 91 (.load 27 (t 90)) .look [], uF 92 (.move (t 1)) .pure [], uF 93 (.move (t 13)) .pure [], uF 94 (.move (t 13)) .pure [], uF 95 (cb .len #[(t 94)] #[40]) .pure [], uF 96 (.move (t 13)) .pure [], uF 97 (cb .len #[(t 96)] #[40]) .pure [], uF 98 (.slice 40 (t 93) none (some (t 95)) (some (t 97))) .pure [], uF 99 (.move (t 11)) .pure [], uF 100 (.buildSlice 40 1 #[(0, (t 99))]) .fresh [], uF 101 (cb .append #[(t 98), (t 100)] #[40, 40]) .make [], uF 102 (.indexAddr 27 (t 91) (t 92)) .pure [], uF 103 (.fieldAddr 42 (t 102) 4) .pure [], oF (.store 40 (t 103) (t 101)) .make [4]]
def r59_8 : List COp := [u 104 (.move (t 12)), u 105 (.move (t 1)), u 106 (.move (t 4)), u 107 (cf 43 #[(t 104), (t 105), (t 106)] #[62, 3, 3])]
def r59_9 : List COp := [u 108 (.move (t 12)), u 109 (.nilCheck (t 108)), u 110 (.fieldAddr 65 (t 109) 0), u 111 (.load 29 (t 110)), u 112 (.move (t 11)), o (.store 29 (t 10) (t 111)), u 11 (.assign (t 112))]
def arena_Add (F : Nat) (a0 : arena_Tree) (a1 : Int) (a2 : Int) (a3 : Int) (a4 : Int) : Option (arena_Tree × Int) :=
  (arena_own F a0).bind fun r11721 =>
  (arena_forest_has F r11721 a1).bind fun r11834 =>
  if r11834 = true then
    if a2 < (1 : Int) then
      some (r11721.Tree, (-1))
    else
      if (11 : Int) < a2 then
        some (r11721.Tree, (-1))
      else
        if a4 < a3 then
          some (r11721.Tree, (-1))
        else
          if 0 ≤ (0 : Int) ∧ (0 : Int) < (r11721.Tree.Nodes.length : Int) then
            (r11721.Tree.Nodes[(0 : Int).toNat]?).bind fun x11862 =>
            if x11862.To < a4 then
              some (r11721.Tree, (-1))
            else
              (arena_forest_end F r11721 a1).bind fun r11875 =>
              if a3 < r11875 then
                some (r11721.Tree, (-1))
              else
                if r11721.Tree.Nodes.length + [(⟨a2, a3, a4, a1, [], false⟩ : api_Node)].length ≤ 2199023255552 then
                  if 0 ≤ a1 ∧ a1 < ((r11721.Tree.Nodes ++ [(⟨a2, a3, a4, a1, [], false⟩ : api_Node)]).length : Int) then
                    ((r11721.Tree.Nodes ++ [(⟨a2, a3, a4, a1, [], false⟩ : api_Node)])[a1.toNat]?).bind fun x11906 =>
                    if 0 ≤ (0 : Int) ∧ (0 : Int) ≤ (x11906.Kids.length : Int) ∧ (x11906.Kids.length : Int) ≤ (x11906.Kids.length : Int) then
                      if ((x11906.Kids.take (x11906.Kids.length : Int).toNat).drop (0 : Int).toNat).length + ([(r11721.Tree.Nodes.length : Int)] : List Int).length ≤ 17592186044416 ∧ 0 < ([(r11721.Tree.Nodes.length : Int)] : List Int).length then
                        if 0 ≤ a1 ∧ a1 < ((r11721.Tree.Nodes ++ [(⟨a2, a3, a4, a1, [], false⟩ : api_Node)]).length : Int) then
                          ((r11721.Tree.Nodes ++ [(⟨a2, a3, a4, a1, [], false⟩ : api_Node)])[a1.toNat]?).bind fun x11942 =>
                          (arena_forest_grow F (⟨(⟨(r11721.Tree.Nodes ++ [(⟨a2, a3, a4, a1, [], false⟩ : api_Node)]).set a1.toNat (⟨x11942.Kind, x11942.From, x11942.To, x11942.Up, ((x11906.Kids.take (x11906.Kids.length : Int).toNat).drop (0 : Int).toNat) ++ ([(r11721.Tree.Nodes.length : Int)] : List Int), x11942.Key⟩ : api_Node)⟩ : arena_Tree)⟩ : arena_forest) a1 a4).bind fun r11956 =>
                          some (r11956.Tree, (r11721.Tree.Nodes.length : Int))
                        else none
                      else none
                    else none
                  else none
                else none
          else none
  else
    some (r11721.Tree, (-1))
theorem arena_Add_ok (F : Nat) {h : AH} {Z : Zn} {a0 : arena_Tree} {a1 : Int} {a2 : Int} {a3 : Int} {a4 : Int} {v11220 : Value} (hP : Pre Z h []) (q11219 : RS (α := api_Node) Z v11220 a0.Nodes) {r : arena_Tree × Int} (hm : arena_Add F a0 a1 a2 a3 a4 = some r) :
    ∃ v h' Z' A', callI Go.Proofs.Try.prog 59 [.agg #[v11220], V a1, V a2, V a3, V a4] h = some (v, h') ∧ St h (idsL []) Z (0, 0) Z' h' A' ∧ ∃ v11713 : Value, ∃ c11714 : List Value, .tuple #[.agg #[v11713], V r.2] = v ∧ A' = [.gs v11713 c11714 (csz api_Node)] ∧ RCs (α := api_Node) Z' c11714 r.1.Nodes := by
  refine fn_intro (A := []) (Q := fun v Z' A' => ∃ v11713 : Value, ∃ c11714 : List Value, .tuple #[.agg #[v11713], V r.2] = v ∧ A' = [.gs v11713 c11714 (csz api_Node)] ∧ RCs (α := api_Node) Z' c11714 r.1.Nodes) Go.Proofs.Try.func59 rfl rfl (by kernel_rfl) hP ?_
  intro hs hS
  unfold arena_Add at hm
  replace hS : St hs [] Z (0, 0) Z hs [] := hS
  refine sr r59_0 ?_
  refine r_blk rfl trivial (o_box (cs := [v11220]) rfl rfl) hS ?_
  intro b11715 h11716 hS11717
  refine r_blk rfl trivial (o_alloc (cs := [.slice none 0 0]) (by kernel_rfl)) hS11717 ?_
  intro b11718 h11719 hS11720
  refine xe 1 [(10, Pt b11718 0), (5, Pt b11715 0), (1, V a1), (2, V a2), (3, V a3), (4, V a4)] ?_
  refine sr r59_1 ?_
  refine r_step rfl trivial (o_ldb (v := .agg #[v11220]) hS11720 (i := 1) rfl rfl (by kernel_rfl)) ?_
  obtain ⟨r11721, hx11722, hm⟩ := obind hm
  have hSr11728 : St _ _ _ _ _ _ ([] ++ [.blk b11718 [.slice none 0 0], .blk b11715 [v11220]]) := hS11720
  obtain ⟨v11723, h11724, Z11729, A11731, hcl11725, hSc11726, b11732, v11734, c11735, rfl, rfl, q11733⟩ := arena_own_ok F hSr11728.preL q11219 hx11722
  have hS11727 := hSr11728.call hSc11726
  have hZ11730 := hSc11726.zle
  replace hS11727 : St _ _ _ _ _ _ [.blk b11732 [v11734], .gs v11734 c11735 (csz api_Node), .blk b11718 [.slice none 0 0], .blk b11715 [v11220]] := hS11727
  refine r_step rfl trivial (o_call hcl11725 rfl rfl rfl) ?_
  refine xe 1 [(12, Pt b11732 0), (10, Pt b11718 0), (1, V a1), (2, V a2), (3, V a3), (4, V a4)] ?_
  refine sq ?_
  refine sr r59_2 ?_
  refine xq 2 [(17, V a1), (16, Pt b11732 0), (12, Pt b11732 0), (10, Pt b11718 0), (1, V a1), (2, V a2), (3, V a3), (4, V a4)] ?_
  obtain ⟨r11834, hx11835, hm⟩ := obind hm
  have hF11841 : St _ _ _ _ _ _ ([.blk b11732 [v11734], .gs v11734 c11735 (csz api_Node)] ++ [.blk b11718 [.slice none 0 0], .blk b11715 [v11220]]) := ((hS11727.front 1 rfl).front 1 rfl)
  obtain ⟨v11836, h11837, Z11842, A11844, hcl11838, hSc11839, rfl, rfl⟩ := arena_forest_has_ok F hF11841.preL q11733 hx11835
  have hZ11843 := hSc11839.zle
  have hS11840 := hF11841.call hSc11839
  replace hS11840 : St _ _ _ _ _ _ [.blk b11732 [v11734], .gs v11734 c11735 (csz api_Node), .blk b11718 [.slice none 0 0], .blk b11715 [v11220]] := hS11840
  refine r_step rfl trivial (o_call hcl11838 rfl rfl rfl) ?_
  rcases ifs hm with ⟨hp11845, hm⟩ | ⟨hp11845, hm⟩
  refine r_setb (t := 18) rfl hp11845 ?_
  refine xq 3 [(21, V a2), (20, .bool false), (12, Pt b11732 0), (10, Pt b11718 0), (1, V a1), (2, V a2), (3, V a3), (4, V a4)] ?_
  rcases ifs hm with ⟨hp11846, hm⟩ | ⟨hp11846, hm⟩
  refine r_step rfl rfl (o_cmp rfl rfl (c_lss_T hp11846)) ?_
  refine xe 29 [(51, .bool true), (12, Pt b11732 0), (10, Pt b11718 0), (1, V a1), (2, V a2), (3, V a3), (4, V a4)] ?_
  refine cT 51 rfl ?_
  refine sr r59_3 ?_
  refine xq 3 [(54, Pt b11732 0), (10, Pt b11718 0)] ?_
  refine r_step rfl trivial (o_ldb (v := .agg #[v11734]) hS11840 (i := 0) rfl rfl (by kernel_rfl)) ?_
  refine r_ex1 rfl trivial (o_stb (vs := [v11734]) (cells' := [v11734]) (L' := [.blk b11732 [v11734], .gs v11734 c11735 (csz api_Node), .blk b11718 [v11734], .blk b11715 [v11220]]) hS11840 (i := 2) rfl rfl rfl rfl (by kernel_rfl) (one_cons (hS11840.gone1 (i := 1) rfl) one_nil) rfl rfl rfl) ?_
  intro h11849 hS11850
  refine xe 1 [(11, V (-1)), (10, Pt b11718 0)] ?_
  refine rt ?_
  refine ⟨rfl, ?_⟩
  obtain rfl := Option.some.inj hm
  refine ⟨_, _, _, ResL.cell (v := .agg #[v11734]) rfl hS11850 (i := 2) rfl (by kernel_rfl) (ResL.tmp rfl (ResL.nil)), ((hS11850.front 1 rfl).takeN 1), ?_⟩
  exact ⟨v11734, c11735, rfl, rfl, (q11733.mono hZ11843)⟩
  refine r_step rfl rfl (o_cmp rfl rfl (c_lss_F hp11846)) ?_
  refine xq 3 [(25, V a2), (24, .bool false), (12, Pt b11732 0), (10, Pt b11718 0), (1, V a1), (2, V a2), (3, V a3), (4, V a4)] ?_
  rcases ifs hm with ⟨hp11851, hm⟩ | ⟨hp11851, hm⟩
  refine r_step rfl rfl (o_cmp rfl rfl (c_gtr_T hp11851)) ?_
  refine xe 25 [(51, .bool true), (12, Pt b11732 0), (10, Pt b11718 0), (1, V a1), (2, V a2), (3, V a3), (4, V a4)] ?_
  refine cT 51 rfl ?_
  refine sr r59_3 ?_
  refine xq 3 [(54, Pt b11732 0), (10, Pt b11718 0)] ?_
  refine r_step rfl trivial (o_ldb (v := .agg #[v11734]) hS11840 (i := 0) rfl rfl (by kernel_rfl)) ?_
  refine r_ex1 rfl trivial (o_stb (vs := [v11734]) (cells' := [v11734]) (L' := [.blk b11732 [v11734], .gs v11734 c11735 (csz api_Node), .blk b11718 [v11734], .blk b11715 [v11220]]) hS11840 (i := 2) rfl rfl rfl rfl (by kernel_rfl) (one_cons (hS11840.gone1 (i := 1) rfl) one_nil) rfl rfl rfl) ?_
  intro h11854 hS11855
  refine xe 1 [(11, V (-1)), (10, Pt b11718 0)] ?_
  refine rt ?_
  refine ⟨rfl, ?_⟩
  obtain rfl := Option.some.inj hm
  refine ⟨_, _, _, ResL.cell (v := .agg #[v11734]) rfl hS11855 (i := 2) rfl (by kernel_rfl) (ResL.tmp rfl (ResL.nil)), ((hS11855.front 1 rfl).takeN 1), ?_⟩
  exact ⟨v11734, c11735, rfl, rfl, (q11733.mono hZ11843)⟩
  refine r_step rfl rfl (o_cmp rfl rfl (c_gtr_F hp11851)) ?_
  refine xq 4 [(30, V a4), (29, V a3), (28, .bool false), (12, Pt b11732 0), (10, Pt b11718 0), (1, V a1), (2, V a2), (3, V a3), (4, V a4)] ?_
  rcases ifs hm with ⟨hp11856, hm⟩ | ⟨hp11856, hm⟩
  refine r_step rfl rfl (o_cmp rfl rfl (c_gtr_T hp11856)) ?_
  refine xe 20 [(51, .bool true), (12, Pt b11732 0), (10, Pt b11718 0), (1, V a1), (2, V a2), (3, V a3), (4, V a4)] ?_
  refine cT 51 rfl ?_
  refine sr r59_3 ?_
  refine xq 3 [(54, Pt b11732 0), (10, Pt b11718 0)] ?_
  refine r_step rfl trivial (o_ldb (v := .agg #[v11734]) hS11840 (i := 0) rfl rfl (by kernel_rfl)) ?_
  refine r_ex1 rfl trivial (o_stb (vs := [v11734]) (cells' := [v11734]) (L' := [.blk b11732 [v11734], .gs v11734 c11735 (csz api_Node), .blk b11718 [v11734], .blk b11715 [v11220]]) hS11840 (i := 2) rfl rfl rfl rfl (by kernel_rfl) (one_cons (hS11840.gone1 (i := 1) rfl) one_nil) rfl rfl rfl) ?_
  intro h11859 hS11860
  refine xe 1 [(11, V (-1)), (10, Pt b11718 0)] ?_
  refine rt ?_
  refine ⟨rfl, ?_⟩
  obtain rfl := Option.some.inj hm
  refine ⟨_, _, _, ResL.cell (v := .agg #[v11734]) rfl hS11860 (i := 2) rfl (by kernel_rfl) (ResL.tmp rfl (ResL.nil)), ((hS11860.front 1 rfl).takeN 1), ?_⟩
  exact ⟨v11734, c11735, rfl, rfl, (q11733.mono hZ11843)⟩
  refine r_step rfl rfl (o_cmp rfl rfl (c_gtr_F hp11856)) ?_
  refine xq 7 [(38, Pt b11732 0), (34, V a4), (33, .bool false), (12, Pt b11732 0), (10, Pt b11718 0), (1, V a1), (2, V a2), (3, V a3), (4, V a4)] ?_
  refine r_step rfl rfl (o_ldb (v := v11734) hS11840 (i := 0) rfl rfl (by kernel_rfl)) ?_
  obtain ⟨hc11861, hm⟩ := chk hm
  refine r_step rfl rfl (o_index rfl rfl (by kernel_rfl : slTy _ _ = some (csz api_Node)) (hS11840.gbased (j := 1) rfl (q11733.mono hZ11843) (by omega)) hc11861.1 hc11861.2) ?_
  refine xq 1 [(41, .pointer (some (elemA v11734 0 (csz api_Node) 2))), (34, V a4), (33, .bool false), (12, Pt b11732 0), (10, Pt b11718 0), (1, V a1), (2, V a2), (3, V a3), (4, V a4)] ?_
  obtain ⟨x11862, hx11863, hm⟩ := obind hm
  obtain ⟨cs11864, hc11865, he11866, ht11867⟩ := hS11840.gel (j := 1) rfl (q11733.mono hZ11843) (i := 0) hx11863
  obtain ⟨v11868, q11869, rfl⟩ := rc_api_Node hc11865
  refine r_step rfl rfl (o_lde (w := V x11862.To) he11866 rfl (by kernel_rfl)) ?_
  rcases ifs hm with ⟨hp11870, hm⟩ | ⟨hp11870, hm⟩
  refine r_step rfl rfl (o_cmp rfl rfl (c_gtr_T hp11870)) ?_
  refine xe 8 [(51, .bool true), (12, Pt b11732 0), (10, Pt b11718 0), (1, V a1), (2, V a2), (3, V a3), (4, V a4)] ?_
  refine cT 51 rfl ?_
  refine sr r59_3 ?_
  refine xq 3 [(54, Pt b11732 0), (10, Pt b11718 0)] ?_
  refine r_step rfl trivial (o_ldb (v := .agg #[v11734]) hS11840 (i := 0) rfl rfl (by kernel_rfl)) ?_
  refine r_ex1 rfl trivial (o_stb (vs := [v11734]) (cells' := [v11734]) (L' := [.blk b11732 [v11734], .gs v11734 c11735 (csz api_Node), .blk b11718 [v11734], .blk b11715 [v11220]]) hS11840 (i := 2) rfl rfl rfl rfl (by kernel_rfl) (one_cons (hS11840.gone1 (i := 1) rfl) one_nil) rfl rfl rfl) ?_
  intro h11873 hS11874
  refine xe 1 [(11, V (-1)), (10, Pt b11718 0)] ?_
  refine rt ?_
  refine ⟨rfl, ?_⟩
  obtain rfl := Option.some.inj hm
  refine ⟨_, _, _, ResL.cell (v := .agg #[v11734]) rfl hS11874 (i := 2) rfl (by kernel_rfl) (ResL.tmp rfl (ResL.nil)), ((hS11874.front 1 rfl).takeN 1), ?_⟩
  exact ⟨v11734, c11735, rfl, rfl, (q11733.mono hZ11843)⟩
  refine r_step rfl rfl (o_cmp rfl rfl (c_gtr_F hp11870)) ?_
  refine xq 5 [(48, V a1), (47, Pt b11732 0), (46, V a3), (45, .bool false), (12, Pt b11732 0), (10, Pt b11718 0), (1, V a1), (2, V a2), (3, V a3), (4, V a4)] ?_
  obtain ⟨r11875, hx11876, hm⟩ := obind hm
  have hF11882 : St _ _ _ _ _ _ ([.blk b11732 [v11734], .gs v11734 c11735 (csz api_Node)] ++ [.blk b11718 [.slice none 0 0], .blk b11715 [v11220]]) := ((hS11840.front 1 rfl).front 1 rfl)
  obtain ⟨v11877, h11878, Z11883, A11885, hcl11879, hSc11880, rfl, rfl⟩ := arena_forest_end_ok F hF11882.preL (q11733.mono hZ11843) hx11876
  have hZ11884 := hSc11880.zle
  have hS11881 := hF11882.call hSc11880
  replace hS11881 : St _ _ _ _ _ _ [.blk b11732 [v11734], .gs v11734 c11735 (csz api_Node), .blk b11718 [.slice none 0 0], .blk b11715 [v11220]] := hS11881
  refine r_step rfl rfl (o_call hcl11879 rfl rfl rfl) ?_
  rcases ifs hm with ⟨hp11886, hm⟩ | ⟨hp11886, hm⟩
  refine r_step rfl rfl (o_cmp rfl rfl (c_lss_T hp11886)) ?_
  refine xe 1 [(51, .bool true), (12, Pt b11732 0), (10, Pt b11718 0), (1, V a1), (2, V a2), (3, V a3), (4, V a4)] ?_
  refine cT 51 rfl ?_
  refine sr r59_3 ?_
  refine xq 3 [(54, Pt b11732 0), (10, Pt b11718 0)] ?_
  refine r_step rfl trivial (o_ldb (v := .agg #[v11734]) hS11881 (i := 0) rfl rfl (by kernel_rfl)) ?_
  refine r_ex1 rfl trivial (o_stb (vs := [v11734]) (cells' := [v11734]) (L' := [.blk b11732 [v11734], .gs v11734 c11735 (csz api_Node), .blk b11718 [v11734], .blk b11715 [v11220]]) hS11881 (i := 2) rfl rfl rfl rfl (by kernel_rfl) (one_cons (hS11881.gone1 (i := 1) rfl) one_nil) rfl rfl rfl) ?_
  intro h11889 hS11890
  refine xe 1 [(11, V (-1)), (10, Pt b11718 0)] ?_
  refine rt ?_
  refine ⟨rfl, ?_⟩
  obtain rfl := Option.some.inj hm
  refine ⟨_, _, _, ResL.cell (v := .agg #[v11734]) rfl hS11890 (i := 2) rfl (by kernel_rfl) (ResL.tmp rfl (ResL.nil)), ((hS11890.front 1 rfl).takeN 1), ?_⟩
  exact ⟨v11734, c11735, rfl, rfl, (q11733.mono (hZ11843.trans hZ11884))⟩
  refine r_step rfl rfl (o_cmp rfl rfl (c_lss_F hp11886)) ?_
  refine xe 1 [(51, .bool false), (12, Pt b11732 0), (10, Pt b11718 0), (1, V a1), (2, V a2), (3, V a3), (4, V a4)] ?_
  refine kF 51 rfl ?_
  refine sr r59_4 ?_
  refine xq 4 [(59, Pt b11732 0), (12, Pt b11732 0), (10, Pt b11718 0), (1, V a1), (2, V a2), (3, V a3), (4, V a4)] ?_
  refine r_step rfl trivial (o_ldb (v := v11734) hS11881 (i := 0) rfl rfl (by kernel_rfl)) ?_
  refine r_step rfl trivial (o_len rfl (hS11881.glen (i := 1) rfl (q11733.mono (hZ11843.trans hZ11884))) ⟨_, Go.Proofs.Try.underlying27⟩) ?_
  refine xe 1 [(11, V (r11721.Tree.Nodes.length : Int)), (12, Pt b11732 0), (10, Pt b11718 0), (1, V a1), (2, V a2), (3, V a3), (4, V a4)] ?_
  refine sr r59_5 ?_
  refine xq 5 [(66, Pt b11732 0), (62, Pt b11732 0), (11, V (r11721.Tree.Nodes.length : Int)), (12, Pt b11732 0), (10, Pt b11718 0), (1, V a1), (2, V a2), (3, V a3), (4, V a4)] ?_
  refine r_step rfl trivial (o_ldb (v := v11734) hS11881 (i := 0) rfl rfl (by kernel_rfl)) ?_
  refine xq 5 [(72, .agg #[V a2, V a3, V a4, V a1, .slice none 0 0, .bool false]), (67, v11734), (62, Pt b11732 0), (11, V (r11721.Tree.Nodes.length : Int)), (12, Pt b11732 0), (10, Pt b11718 0), (1, V a1), (4, V a4)] ?_
  have q11894 : RCs (α := api_Node) Z11883 [V a2, V a3, V a4, V a1, .slice none 0 0, .bool false] [(⟨a2, a3, a4, a1, [], false⟩ : api_Node)] := RCs.cons (cs := [V a2, V a3, V a4, V a1, .slice none 0 0, .bool false]) ⟨_, (RS.nil0 _), rfl⟩ (RCs.nil0 _)
  refine r_row rfl trivial (o_bs (cells := [V a2, V a3, V a4, V a1, .slice none 0 0, .bool false]) (s := 6) (by kernel_rfl)) (by kernel_rfl) hS11881 ?_
  intro v11891 h11892 hS11893
  replace hS11893 : St _ _ _ _ _ _ [.gs v11891 [V a2, V a3, V a4, V a1, .slice none 0 0, .bool false] (csz api_Node), .blk b11732 [v11734], .gs v11734 c11735 (csz api_Node), .blk b11718 [.slice none 0 0], .blk b11715 [v11220]] := hS11893
  obtain ⟨hc11902, hm⟩ := chk hm
  refine r_ex3 rfl trivial (o_app (ys := [(⟨a2, a3, a4, a1, [], false⟩ : api_Node)]) (by_ := 64) hS11893 (i := 2) rfl (q11733.mono (hZ11843.trans hZ11884)) ((hS11893).gnews (j := 0) rfl q11894) rfl rfl (by kernel_rfl) (by omega) (by omega)) ?_
  rintro v11897 c11898 h11899 ⟨q11901, hS11900⟩
  replace hS11900 : St _ _ _ _ _ _ [.gs v11891 [V a2, V a3, V a4, V a1, .slice none 0 0, .bool false] (csz api_Node), .blk b11732 [v11734], .gs v11897 c11898 (csz api_Node), .blk b11718 [.slice none 0 0], .blk b11715 [v11220]] := hS11900
  refine xq 3 [(77, Pt b11732 0), (74, v11897), (11, V (r11721.Tree.Nodes.length : Int)), (12, Pt b11732 0), (10, Pt b11718 0), (1, V a1), (4, V a4)] ?_
  refine r_ex1 rfl trivial (o_stb (vs := [v11897]) (cells' := [v11897]) (L' := [.gs v11891 [V a2, V a3, V a4, V a1, .slice none 0 0, .bool false] (csz api_Node), .blk b11732 [v11897], .gs v11897 c11898 (csz api_Node), .blk b11718 [.slice none 0 0], .blk b11715 [v11220]]) hS11900 (i := 1) rfl rfl rfl (hS11900.gcell1 (i := 2) rfl) (by kernel_rfl) (one_cons (hS11900.gone1 (i := 2) rfl) one_nil) rfl rfl rfl) ?_
  intro h11903 hS11904
  refine xf [(11, V (r11721.Tree.Nodes.length : Int)), (12, Pt b11732 0), (10, Pt b11718 0), (1, V a1), (4, V a4)] ?_
  refine sr r59_6 ?_
  refine xq 4 [(81, Pt b11732 0), (11, V (r11721.Tree.Nodes.length : Int)), (12, Pt b11732 0), (10, Pt b11718 0), (1, V a1), (4, V a4)] ?_
  refine r_step rfl trivial (o_ldb (v := v11897) hS11904 (i := 1) rfl rfl (by kernel_rfl)) ?_
  refine xq 1 [(83, V a1), (82, v11897), (11, V (r11721.Tree.Nodes.length : Int)), (12, Pt b11732 0), (10, Pt b11718 0), (1, V a1), (4, V a4)] ?_
  obtain ⟨hc11905, hm⟩ := chk hm
  refine r_step rfl trivial (o_index rfl rfl (by kernel_rfl : slTy _ _ = some (csz api_Node)) (hS11904.gbased (j := 2) rfl q11901 (by omega)) hc11905.1 hc11905.2) ?_
  refine xq 1 [(85, .pointer (some (elemA v11897 a1 (csz api_Node) 4))), (11, V (r11721.Tree.Nodes.length : Int)), (12, Pt b11732 0), (10, Pt b11718 0), (1, V a1), (4, V a4)] ?_
  obtain ⟨x11906, hx11907, hm⟩ := obind hm
  obtain ⟨cs11908, hc11909, he11910, ht11911⟩ := hS11904.gel (j := 2) rfl q11901 (i := a1) hx11907
  obtain ⟨v11912, q11913, rfl⟩ := rc_api_Node hc11909
  refine r_step rfl trivial (o_lde (w := v11912) he11910 rfl (by kernel_rfl)) ?_
  refine xe 1 [(13, v11912), (11, V (r11721.Tree.Nodes.length : Int)), (12, Pt b11732 0), (10, Pt b11718 0), (1, V a1), (4, V a4)] ?_
  refine srF r59_7 hS11904 ?_
  intro bs11914 h11915 hlv11917 hS11916
  refine yq 4 [(90, Pt b11732 0), (13, v11912), (11, V (r11721.Tree.Nodes.length : Int)), (12, Pt b11732 0), (10, Pt b11718 0), (1, V a1), (4, V a4)] ?_
  have lt11918 : b11732 < bs11914 := hlv11917.1 _ (List.mem_of_getElem? (i := 1) rfl) _ (by simp [Itm.ids])
  refine e_lookB rfl trivial rfl (by show b11732 < _; omega) (same1 (v := v11897) (hS11916.gsim1 (i := 2) rfl)) (o_ldb (v := v11897) hS11916 (i := 1) rfl rfl (by kernel_rfl)) trivial ?_
  refine yq 3 [(94, v11912), (93, v11912), (92, V a1), (91, v11897), (13, v11912), (11, V (r11721.Tree.Nodes.length : Int)), (12, Pt b11732 0), (10, Pt b11718 0), (1, V a1), (4, V a4)] ?_
  refine e_val rfl trivial (o_len rfl (RS.len q11913) ⟨_, Go.Proofs.Try.underlying40⟩) ?_
  refine yq 1 [(96, v11912), (95, V (x11906.Kids.length : Int)), (93, v11912), (92, V a1), (91, v11897), (11, V (r11721.Tree.Nodes.length : Int)), (12, Pt b11732 0), (10, Pt b11718 0), (1, V a1), (4, V a4)] ?_
  refine e_val rfl trivial (o_len rfl (RS.len q11913) ⟨_, Go.Proofs.Try.underlying40⟩) ?_
  obtain ⟨hc11922, hm⟩ := chk hm
  refine e_exv rfl trivial (o_slice3 (a := 0) (b := (x11906.Kids.length : Int)) q11913 rfl (by kernel_rfl : slTy _ _ = some (csz Int)) rfl rfl rfl hc11922.1 hc11922.2.1 hc11922.2.2) ?_
  rintro v11919 ⟨q11920, cp11921⟩
  refine yq 1 [(99, V (r11721.Tree.Nodes.length : Int)), (98, v11919), (92, V a1), (91, v11897), (11, V (r11721.Tree.Nodes.length : Int)), (12, Pt b11732 0), (10, Pt b11718 0), (1, V a1), (4, V a4)] ?_
  have q11926 : RCs (α := Int) Z11883 [V (r11721.Tree.Nodes.length : Int)] ([(r11721.Tree.Nodes.length : Int)] : List Int) := RCs.cons (cs := [V (r11721.Tree.Nodes.length : Int)]) rfl (RCs.nil0 _)
  refine e_row rfl trivial (o_bs (cells := [V (r11721.Tree.Nodes.length : Int)]) (s := 1) (by kernel_rfl)) (by kernel_rfl) hS11916 (by omega) (Nat.add_lt_add_left (by decide) _) ?_
  intro v11923 h11924 b11927 eb11928 ec11929 hS11925
  replace hS11925 : St _ _ _ _ _ _ [.gs v11923 [V (r11721.Tree.Nodes.length : Int)] (csz Int), .gs v11891 [V a2, V a3, V a4, V a1, .slice none 0 0, .bool false] (csz api_Node), .blk b11732 [v11897], .gs v11897 c11898 (csz api_Node), .blk b11718 [.slice none 0 0], .blk b11715 [v11220]] := hS11925
  obtain ⟨hc11936, hm⟩ := chk hm
  refine e_ex3c rfl trivial hS11925 (o_appCopy (ys := ([(r11721.Tree.Nodes.length : Int)] : List Int)) (by_ := 8) (hS11925.lown) q11920 cp11921 ((hS11925.lown).gnews (j := 0) rfl q11926) (by omega) rfl rfl (by kernel_rfl) (by omega) (by omega)) ?_
  rintro v11931 c11932 h11933 ⟨q11935, hS11934⟩
  replace hS11934 : St _ _ _ _ _ _ [.gs v11931 c11932 (csz Int), .gs v11923 [V (r11721.Tree.Nodes.length : Int)] (csz Int), .gs v11891 [V a2, V a3, V a4, V a1, .slice none 0 0, .bool false] (csz api_Node), .blk b11732 [v11897], .gs v11897 c11898 (csz api_Node), .blk b11718 [.slice none 0 0], .blk b11715 [v11220]] := hS11934
  obtain ⟨hc11937, hm⟩ := chk hm
  refine e_val rfl trivial (o_index rfl rfl (by kernel_rfl : slTy _ _ = some (csz api_Node)) (hS11934.gbased (j := 4) rfl q11901 (by omega)) hc11937.1 hc11937.2) ?_
  refine yq 1 [(103, .pointer (some (elemA v11897 a1 (csz api_Node) 4))), (101, v11931), (11, V (r11721.Tree.Nodes.length : Int)), (12, Pt b11732 0), (10, Pt b11718 0), (1, V a1), (4, V a4)] ?_
  obtain ⟨x11942, hx11943, hm⟩ := obind hm
  obtain ⟨Z11938, hZ11939, q11940, hS11941⟩ := (hS11934.front 0 rfl).freeze q11935
  replace hS11941 : St _ _ _ _ _ _ [.gs v11923 [V (r11721.Tree.Nodes.length : Int)] (csz Int), .gs v11891 [V a2, V a3, V a4, V a1, .slice none 0 0, .bool false] (csz api_Node), .blk b11732 [v11897], .gs v11897 c11898 (csz api_Node), .blk b11718 [.slice none 0 0], .blk b11715 [v11220]] := hS11941
  obtain ⟨cs11944, hc11945, he11946, ht11947⟩ := hS11941.gel (j := 3) rfl (q11901.mono hZ11939) (i := a1) hx11943
  obtain ⟨v11948, q11949, rfl⟩ := rc_api_Node hc11945
  have hF11954 : St _ _ _ _ _ _ ([.gs v11897 c11898 (csz api_Node)] ++ [.gs v11923 [V (r11721.Tree.Nodes.length : Int)] (csz Int), .gs v11891 [V a2, V a3, V a4, V a1, .slice none 0 0, .bool false] (csz api_Node), .blk b11732 [v11897], .blk b11718 [.slice none 0 0], .blk b11715 [v11220]]) := (hS11941.front 3 rfl)
  refine e_mk2 rfl trivial hF11954 (o_ste (u' := (⟨x11942.Kind, x11942.From, x11942.To, x11942.Up, ((x11906.Kids.take (x11906.Kids.length : Int).toNat).drop (0 : Int).toNat) ++ ([(r11721.Tree.Nodes.length : Int)] : List Int), x11942.Key⟩ : api_Node)) (vs := [v11931]) (cs' := [V x11942.Kind, V x11942.From, V x11942.To, V x11942.Up, v11931, .bool x11942.Key]) hF11954.sub (m := 0) rfl (q11901.mono hZ11939) hx11943 ht11947 rfl rfl (RS.cell1 q11940) (by kernel_rfl) (one_cons (RS.one1 q11940) one_nil) rfl rfl ⟨_, q11940, rfl⟩) hZ11939 (.keep (hF11954.neB 2 rfl blk_mem) .nil) ?_
  rintro h11950 c11951 ⟨q11953, hS11952⟩
  replace hS11952 : St _ _ _ _ _ _ [.gs v11897 c11951 (csz api_Node), .gs v11923 [V (r11721.Tree.Nodes.length : Int)] (csz Int), .gs v11891 [V a2, V a3, V a4, V a1, .slice none 0 0, .bool false] (csz api_Node), .blk b11732 [v11897], .blk b11718 [.slice none 0 0], .blk b11715 [v11220]] := hS11952
  refine yf [(11, V (r11721.Tree.Nodes.length : Int)), (12, Pt b11732 0), (10, Pt b11718 0), (1, V a1), (4, V a4)] ?_
  have hS11955 := hS11952.unres
  refine sr r59_8 ?_
  refine xq 3 [(106, V a4), (105, V a1), (104, Pt b11732 0), (11, V (r11721.Tree.Nodes.length : Int)), (12, Pt b11732 0), (10, Pt b11718 0)] ?_
  obtain ⟨r11956, hx11957, hm⟩ := obind hm
  have hF11963 : St _ _ _ _ _ _ ([.blk b11732 [v11897], .gs v11897 c11951 (csz api_Node)] ++ [.gs v11923 [V (r11721.Tree.Nodes.length : Int)] (csz Int), .gs v11891 [V a2, V a3, V a4, V a1, .slice none 0 0, .bool false] (csz api_Node), .blk b11718 [.slice none 0 0], .blk b11715 [v11220]]) := ((hS11955.front 0 rfl).front 3 rfl)
  obtain ⟨v11958, h11959, Z11964, A11966, hcl11960, hSc11961, c11968, rfl, rfl, q11967⟩ := arena_forest_grow_ok F hF11963.preL q11953 hx11957
  have hZ11965 := hSc11961.zle
  have hS11962 := hF11963.call hSc11961
  replace hS11962 : St _ _ _ _ _ _ [.blk b11732 [v11897], .gs v11897 c11968 (csz api_Node), .gs v11923 [V (r11721.Tree.Nodes.length : Int)] (csz Int), .gs v11891 [V a2, V a3, V a4, V a1, .slice none 0 0, .bool false] (csz api_Node), .blk b11718 [.slice none 0 0], .blk b11715 [v11220]] := hS11962
  refine r_step rfl trivial (o_call hcl11960 rfl rfl rfl) ?_
  refine xf [(11, V (r11721.Tree.Nodes.length : Int)), (12, Pt b11732 0), (10, Pt b11718 0)] ?_
  refine sr r59_9 ?_
  refine xq 3 [(110, Pt b11732 0), (11, V (r11721.Tree.Nodes.length : Int)), (10, Pt b11718 0)] ?_
  refine r_step rfl trivial (o_ldb (v := .agg #[v11897]) hS11962 (i := 0) rfl rfl (by kernel_rfl)) ?_
  refine xq 1 [(112, V (r11721.Tree.Nodes.length : Int)), (111, .agg #[v11897]), (11, V (r11721.Tree.Nodes.length : Int)), (10, Pt b11718 0)] ?_
  refine r_ex1 rfl trivial (o_stb (vs := [v11897]) (cells' := [v11897]) (L' := [.blk b11732 [v11897], .gs v11897 c11968 (csz api_Node), .gs v11923 [V (r11721.Tree.Nodes.length : Int)] (csz Int), .gs v11891 [V a2, V a3, V a4, V a1, .slice none 0 0, .bool false] (csz api_Node), .blk b11718 [v11897], .blk b11715 [v11220]]) hS11962 (i := 4) rfl rfl rfl rfl (by kernel_rfl) (one_cons (hS11962.gone1 (i := 1) rfl) one_nil) rfl rfl rfl) ?_
  intro h11969 hS11970
  refine xe 1 [(11, V (r11721.Tree.Nodes.length : Int)), (10, Pt b11718 0)] ?_
  refine rt ?_
  refine ⟨rfl, ?_⟩
  obtain rfl := Option.some.inj hm
  refine ⟨_, _, _, ResL.cell (v := .agg #[v11897]) rfl hS11970 (i := 4) rfl (by kernel_rfl) (ResL.tmp rfl (ResL.nil)), ((hS11970.front 1 rfl).takeN 1), ?_⟩
  exact ⟨v11897, c11968, rfl, rfl, q11967⟩
  refine r_setb (t := 18) rfl (Bool.eq_false_iff.2 hp11845) ?_
  refine xe 33 [(51, .bool true), (12, Pt b11732 0), (10, Pt b11718 0), (1, V a1), (2, V a2), (3, V a3), (4, V a4)] ?_
  refine cT 51 rfl ?_
  refine sr r59_3 ?_
  refine xq 3 [(54, Pt b11732 0), (10, Pt b11718 0)] ?_
  refine r_step rfl trivial (o_ldb (v := .agg #[v11734]) hS11840 (i := 0) rfl rfl (by kernel_rfl)) ?_
  refine r_ex1 rfl trivial (o_stb (vs := [v11734]) (cells' := [v11734]) (L' := [.blk b11732 [v11734], .gs v11734 c11735 (csz api_Node), .blk b11718 [v11734], .blk b11715 [v11220]]) hS11840 (i := 2) rfl rfl rfl rfl (by kernel_rfl) (one_cons (hS11840.gone1 (i := 1) rfl) one_nil) rfl rfl rfl) ?_
  intro h11973 hS11974
  refine xe 1 [(11, V (-1)), (10, Pt b11718 0)] ?_
  refine rt ?_
  refine ⟨rfl, ?_⟩
  obtain rfl := Option.some.inj hm
  refine ⟨_, _, _, ResL.cell (v := .agg #[v11734]) rfl hS11974 (i := 2) rfl (by kernel_rfl) (ResL.tmp rfl (ResL.nil)), ((hS11974.front 1 rfl).takeN 1), ?_⟩
  exact ⟨v11734, c11735, rfl, rfl, (q11733.mono hZ11843)⟩

def r47_0 : List COp := [u 10 (.assign (ci 0))]
def r47_1 : List COp := [u 14 (.move (t 0)), u 15 (.nilCheck (t 14)), u 16 (.fieldAddr 58 (t 15) 2), u 17 (.load 29 (t 16)), u 18 (.move (t 1)), u 19 (.move (t 2)), u 20 (.move (t 3)), u 21 (.move (t 4)), u 22 (cf 59 #[(t 17), (t 18), (t 19), (t 20), (t 21)] #[29, 3, 3, 3, 3]), u 13 (.move (t 22)), u 23 (.extract (t 13) 0), u 24 (.extract (t 13) 1), u 11 (.alloc 29), o (.store 29 (t 11) (t 23)), u 12 (.assign (t 24))]
def r47_2 : List COp := [u 25 (.move (t 0)), u 26 (.load 29 (t 11)), u 27 (.nilCheck (t 25)), u 28 (.fieldAddr 58 (t 27) 2), o (.store 29 (t 28) (t 26))]
def r47_3 : List COp := [u 29 (.move (t 12)), u 10 (.assign (t 29))]
def flow_reader_add (F : Nat) (a0 : flow_reader) (a1 : Int) (a2 : Int) (a3 : Int) (a4 : Int) : Option (Int × flow_reader) :=
  (arena_Add F a0.t_ a1 a2 a3 a4).bind fun r12003 =>
  some (r12003.2, (⟨a0.l_, a0.end_, r12003.1, a0.d_⟩ : flow_reader))
theorem flow_reader_add_ok (F : Nat) {h : AH} {Z : Zn} {a0 : flow_reader} {a1 : Int} {a2 : Int} {a3 : Int} {a4 : Int} {b11211 : Nat} {v11213 : Value} {v11215 : Value} {v11217 : Value} {c11218 : List Value} (hP : Pre Z h [.blk b11211 (K58 v11213 v11215 v11217 a0), .gs v11217 c11218 (csz api_Diag)]) (q11212 : RS (α := api_Token) Z v11213 a0.l_) (q11214 : RS (α := api_Node) Z v11215 a0.t_.Nodes) (q11216 : RCs (α := api_Diag) Z c11218 a0.d_) {r : Int × flow_reader} (hm : flow_reader_add F a0 a1 a2 a3 a4 = some r) :
    ∃ v h' Z' A', callI Go.Proofs.Try.prog 47 [Pt b11211 0, V a1, V a2, V a3, V a4] h = some (v, h') ∧ St h (idsL [.blk b11211 (K58 v11213 v11215 v11217 a0), .gs v11217 c11218 (csz api_Diag)]) Z (0, 0) Z' h' A' ∧ ∃ v11997 : Value, ∃ v11999 : Value, ∃ c12000 : List Value, ∃ c12002 : List Value, V r.1 = v ∧ A' = [.blk b11211 (K58 v11997 v11999 v11217 r.2), .gs v11999 c12000 (csz api_Node), .gs v11217 c12002 (csz api_Diag)] ∧ RS (α := api_Token) Z' v11997 r.2.l_ ∧ RCs (α := api_Node) Z' c12000 r.2.t_.Nodes ∧ RCs (α := api_Diag) Z' c12002 r.2.d_ := by
  refine fn_intro (A := [.blk b11211 (K58 v11213 v11215 v11217 a0), .gs v11217 c11218 (csz api_Diag)]) (Q := fun v Z' A' => ∃ v11997 : Value, ∃ v11999 : Value, ∃ c12000 : List Value, ∃ c12002 : List Value, V r.1 = v ∧ A' = [.blk b11211 (K58 v11997 v11999 v11217 r.2), .gs v11999 c12000 (csz api_Node), .gs v11217 c12002 (csz api_Diag)] ∧ RS (α := api_Token) Z' v11997 r.2.l_ ∧ RCs (α := api_Node) Z' c12000 r.2.t_.Nodes ∧ RCs (α := api_Diag) Z' c12002 r.2.d_) Go.Proofs.Try.func47 rfl rfl (by kernel_rfl) hP ?_
  intro hs hS
  unfold flow_reader_add at hm
  refine sr r47_0 ?_
  refine xe 1 [(0, Pt b11211 0), (1, V a1), (2, V a2), (3, V a3), (4, V a4)] ?_
  refine sr r47_1 ?_
  refine xq 3 [(16, Pt b11211 2), (0, Pt b11211 0), (1, V a1), (2, V a2), (3, V a3), (4, V a4)] ?_
  refine r_step rfl trivial (o_ldb (v := .agg #[v11215]) hS (i := 0) rfl rfl (by kernel_rfl)) ?_
  refine xq 4 [(21, V a4), (20, V a3), (19, V a2), (18, V a1), (17, .agg #[v11215]), (0, Pt b11211 0)] ?_
  obtain ⟨r12003, hx12004, hm⟩ := obind hm
  have hSr12010 : St _ _ _ _ _ _ ([] ++ [.blk b11211 (K58 v11213 v11215 v11217 a0), .gs v11217 c11218 (csz api_Diag)]) := hS
  obtain ⟨v12005, h12006, Z12011, A12013, hcl12007, hSc12008, v12015, c12016, rfl, rfl, q12014⟩ := arena_Add_ok F hSr12010.preL q11214 hx12004
  have hS12009 := hSr12010.call hSc12008
  have hZ12012 := hSc12008.zle
  replace hS12009 : St _ _ _ _ _ _ [.gs v12015 c12016 (csz api_Node), .blk b11211 (K58 v11213 v11215 v11217 a0), .gs v11217 c11218 (csz api_Diag)] := hS12009
  refine r_step rfl trivial (o_call hcl12007 rfl rfl rfl) ?_
  refine xq 3 [(24, V r12003.2), (23, .agg #[v12015]), (0, Pt b11211 0)] ?_
  refine r_blk rfl trivial (o_alloc (cs := [.slice none 0 0]) (by kernel_rfl)) hS12009 ?_
  intro b12017 h12018 hS12019
  refine r_ex1 rfl trivial (o_stb (vs := [v12015]) (cells' := [v12015]) (L' := [.blk b12017 [v12015], .gs v12015 c12016 (csz api_Node), .blk b11211 (K58 v11213 v11215 v11217 a0), .gs v11217 c11218 (csz api_Diag)]) hS12019 (i := 0) rfl rfl rfl rfl (by kernel_rfl) (one_cons (hS12019.gone1 (i := 1) rfl) one_nil) rfl rfl rfl) ?_
  intro h12020 hS12021
  refine xe 1 [(12, V r12003.2), (11, Pt b12017 0), (0, Pt b11211 0)] ?_
  refine sr r47_2 ?_
  refine xq 1 [(25, Pt b11211 0), (12, V r12003.2), (11, Pt b12017 0)] ?_
  refine r_step rfl trivial (o_ldb (v := .agg #[v12015]) hS12021 (i := 0) rfl rfl (by kernel_rfl)) ?_
  refine xq 2 [(28, Pt b11211 2), (26, .agg #[v12015]), (12, V r12003.2)] ?_
  refine r_ex1 rfl trivial (o_stb (vs := [v12015]) (cells' := (K58 v11213 v12015 v11217 a0)) (L' := [.blk b12017 [v12015], .gs v12015 c12016 (csz api_Node), .blk b11211 (K58 v11213 v12015 v11217 a0), .gs v11217 c11218 (csz api_Diag)]) hS12021 (i := 2) rfl rfl rfl rfl (by kernel_rfl) (one_cons (hS12021.gone1 (i := 1) rfl) one_nil) rfl rfl rfl) ?_
  intro h12022 hS12023
  refine xf [(12, V r12003.2)] ?_
  refine sr r47_3 ?_
  refine xe 2 [(10, V r12003.2)] ?_
  refine rt ?_
  refine ⟨rfl, ?_⟩
  obtain rfl := Option.some.inj hm
  refine ⟨_, _, _, ResL.tmp rfl (ResL.nil), ((((hS12023.front 3 rfl).front 2 rfl).front 3 rfl).takeN 3), ?_⟩
  exact ⟨v11213, v12015, c12016, c11218, rfl, rfl, (q11212.mono hZ12012), q12014, (q11216.mono hZ12012)⟩

def r60_0 : List COp := [u 2 (.assign (.const (.bool false)))]
def r60_1 : List COp := [u 3 (.move (t 0))]
def r60_2 : List COp := [u 5 (.binOp .eql 3 (t 3) (ci 1) 3), u 4 (.assign (t 5))]
def r60_3 : List COp := [u 6 (.binOp .eql 3 (t 3) (ci 2) 3), u 4 (.assign (t 6))]
def r60_4 : List COp := [u 7 (.binOp .eql 3 (t 3) (ci 3) 3), u 4 (.assign (t 7))]
def r60_5 : List COp := [u 8 (.binOp .eql 3 (t 3) (ci 4) 3), u 4 (.assign (t 8))]
def r60_6 : List COp := [u 2 (.assign (.const (.bool false)))]
def r60_7 : List COp := [u 2 (.assign (.const (.bool true)))]
def flow_counts (F : Nat) (a0 : Int) : Option Bool :=
  ((if a0 = (1 : Int) then
      some true
    else
      if a0 = (2 : Int) then
        some true
      else
        if a0 = (3 : Int) then
          some true
        else
          if a0 = (4 : Int) then
            some true
          else
            some false) : Option Bool).bind fun o => match o with
    | x12127 => if x12127 = true then
      some false
    else
      some true
theorem flow_counts_ok (F : Nat) {h : AH} {Z : Zn} {a0 : Int} (hI : Inv Z h) {r : Bool} (hm : flow_counts F a0 = some r) :
    ∃ v h', callI Go.Proofs.Try.prog 60 [V a0] h = some (v, h') ∧ St h [] Z (0, 0) Z h' [] ∧ v = .bool r := by
  refine fn_plain (Q := fun v => v = .bool r) Go.Proofs.Try.func60 rfl rfl hI ?_
  intro hs hS
  unfold flow_counts at hm
  refine sr r60_0 ?_
  refine xe 1 [(0, V a0)] ?_
  refine sq ?_
  refine sr r60_1 ?_
  refine xe 1 [(3, V a0)] ?_
  refine bk 0 ?_
  refine sq ?_
  obtain ⟨o12121, ho12120, hm⟩ := obind hm
  refine W_join [4] (fun l h => ∃ Z12126 : Zn, ∃ x12127 : Bool, x12127 = o12121 ∧ l = [(4, .bool x12127)] ∧ St hs [] Z (0, 0) Z12126 h []) ?_ ?_
  rintro l h12128 ⟨Z12126, x12127, rfl, rfl, hS12129⟩
  try dsimp only at hm
  rcases ifs hm with ⟨hp12131, hm⟩ | ⟨hp12131, hm⟩
  refine W_condT (x := .tmp 4) (by kernel_rfl) rfl hp12131 ?_
  refine sr r60_6 ?_
  refine xe 1 [(2, .bool false)] ?_
  refine rt ?_
  refine blkX_ret ?_
  refine ⟨rfl, ?_⟩
  obtain rfl := Option.some.inj hm
  refine ⟨_, _, _, ResL.tmp rfl (ResL.nil), hS12129, ?_⟩
  exact rfl
  refine W_condF (x := .tmp 4) (by kernel_rfl) rfl (Bool.eq_false_iff.2 hp12131) ?_
  refine sk ?_
  refine sr r60_7 ?_
  refine xe 1 [(2, .bool true)] ?_
  refine rt ?_
  refine ⟨rfl, ?_⟩
  obtain rfl := Option.some.inj hm
  refine ⟨_, _, _, ResL.tmp rfl (ResL.nil), hS12129, ?_⟩
  exact rfl
  refine sr r60_2 ?_
  rcases ifs ho12120 with ⟨hp12122, ho12120⟩ | ⟨hp12122, ho12120⟩
  refine r_step rfl trivial (o_cmp rfl rfl (c_eql_T hp12122)) ?_
  refine xe 1 [(4, .bool true), (3, V a0)] ?_
  refine kT 4 rfl ?_
  obtain rfl := Option.some.inj ho12120
  exact ⟨_, true, rfl, rfl, hS⟩
  refine r_step rfl trivial (o_cmp rfl rfl (c_eql_F hp12122)) ?_
  refine xe 1 [(4, .bool false), (3, V a0)] ?_
  refine cF 4 rfl ?_
  refine sr r60_3 ?_
  rcases ifs ho12120 with ⟨hp12123, ho12120⟩ | ⟨hp12123, ho12120⟩
  refine r_step rfl trivial (o_cmp rfl rfl (c_eql_T hp12123)) ?_
  refine xe 1 [(4, .bool true), (3, V a0)] ?_
  refine kT 4 rfl ?_
  obtain rfl := Option.some.inj ho12120
  exact ⟨_, true, rfl, rfl, hS⟩
  refine r_step rfl trivial (o_cmp rfl rfl (c_eql_F hp12123)) ?_
  refine xe 1 [(4, .bool false), (3, V a0)] ?_
  refine cF 4 rfl ?_
  refine sr r60_4 ?_
  rcases ifs ho12120 with ⟨hp12124, ho12120⟩ | ⟨hp12124, ho12120⟩
  refine r_step rfl trivial (o_cmp rfl rfl (c_eql_T hp12124)) ?_
  refine xe 1 [(4, .bool true), (3, V a0)] ?_
  refine kT 4 rfl ?_
  obtain rfl := Option.some.inj ho12120
  exact ⟨_, true, rfl, rfl, hS⟩
  refine r_step rfl trivial (o_cmp rfl rfl (c_eql_F hp12124)) ?_
  refine xe 1 [(4, .bool false), (3, V a0)] ?_
  refine cF 4 rfl ?_
  refine rg r60_5 ?_
  rcases ifs ho12120 with ⟨hp12125, ho12120⟩ | ⟨hp12125, ho12120⟩
  refine r_step rfl trivial (o_cmp rfl rfl (c_eql_T hp12125)) ?_
  refine xe 1 [(4, .bool true)] ?_
  obtain rfl := Option.some.inj ho12120
  exact ⟨_, true, rfl, rfl, hS⟩
  refine r_step rfl trivial (o_cmp rfl rfl (c_eql_F hp12125)) ?_
  refine xe 1 [(4, .bool false)] ?_
  obtain rfl := Option.some.inj ho12120
  exact ⟨_, false, rfl, rfl, hS⟩

def r48_0 : List COp := [u 4 (.assign (ci 0))]
def r48_1 : List COp := [u 7 (.move (t 1)), u 8 (.binOp .add 3 (t 7) (ci 1) 3), u 5 (.assign (t 8))]
def r48_2 : List COp := [u 9 (.move (t 0)), u 10 (.move (t 5)), u 11 (cf 46 #[(t 9), (t 10)] #[55, 3]), u 6 (.assign (t 11))]
def r48_3 : List COp := [u 12 (.move (t 6)), u 13 (.binOp .neq 3 (t 12) (ci 0) 3), u 14 (.move (t 13)), gT 14 (some 15) (.move (t 6)), gT 14 (some 16) (cf 60 #[(t 15)] #[3]), gT 14 (some 17) (.unOp .not 4 (t 16)), u 18 (.pick (t 14) (t 17) (.const (.bool false)))]
def r48_4 : List COp := [u 19 (.move (t 0)), u 20 (.move (t 5)), u 21 (cf 46 #[(t 19), (t 20)] #[55, 3]), u 6 (.assign (t 21))]
def r48_5 : List COp := [u 22 (.move (t 5)), u 23 (.binOp .add 3 (t 22) (ci 1) 3), u 5 (.assign (t 23))]
def r48_6 : List COp := [u 24 (.move (t 6)), u 25 (.binOp .eql 3 (t 24) (ci 1) 3)]
def r48_7 : List COp := [u 26 (.move (t 0)), u 27 (.move (t 5)), u 28 (cf 46 #[(t 26), (t 27)] #[55, 3]), u 29 (.binOp .neq 3 (t 28) (ci 19) 3)]
def r48_8 : List COp := [u 30 (.move (t 1)), u 31 (.binOp .add 3 (t 30) (ci 1) 3), u 4 (.assign (t 31))]
def r48_9 : List COp := [u 32 (.move (t 0)), u 33 (.move (t 5)), u 34 (cf 46 #[(t 32), (t 33)] #[55, 3]), u 35 (.binOp .eql 3 (t 34) (ci 19) 3)]
def r48_10 : List COp := [u 36 (.move (t 5)), u 37 (.binOp .add 3 (t 36) (ci 1) 3), u 5 (.assign (t 37))]
def r48_11 : List COp := [u 38 (.move (t 5)), u 4 (.assign (t 38))]
def flow_reader_texts_l0 (F : Nat) (a0 : flow_reader) (a1 : Int) : Nat → Int → Int → Option Int
  | 0, _, _ => none
  | n + 1, x12612, x12613 =>
    if x12613 = (0 : Int) then
      some x12612
    else
      (flow_counts F x12613).bind fun r12636 =>
      if r12636 = true then
        some x12612
      else
        if x12613 = (1 : Int) then
          some (w64 (x12612 + 1))
        else
          (flow_reader_kind F a0 (w64 (x12612 + 1))).bind fun r12646 =>
          flow_reader_texts_l0 F a0 a1 n (w64 (x12612 + 1)) r12646
def flow_reader_texts_l1 (F : Nat) (a0 : flow_reader) (a1 : Int) : Nat → Int → Option Int
  | 0, _ => none
  | n + 1, x12741 =>
    (flow_reader_kind F a0 x12741).bind fun r12769 =>
    if r12769 = (19 : Int) then
      flow_reader_texts_l1 F a0 a1 n (w64 (x12741 + 1))
    else
      some x12741
def flow_reader_texts (F : Nat) (a0 : flow_reader) (a1 : Int) : Option Int :=
  (flow_reader_kind F a0 (w64 (a1 + 1))).bind fun r12509 =>
  ((flow_reader_texts_l0 F a0 a1 F (w64 (a1 + 1)) r12509) : Option Int).bind fun o => match o with
    | x12659 => (flow_reader_kind F a0 x12659).bind fun r12686 =>
    if r12686 = (19 : Int) then
      ((flow_reader_texts_l1 F a0 a1 F x12659) : Option Int).bind fun o => match o with
        | x12783 => some x12783
    else
      some (w64 (a1 + 1))
theorem flow_reader_texts_ok (F : Nat) {h : AH} {Z : Zn} {a0 : flow_reader} {a1 : Int} {b12064 : Nat} {v12066 : Value} {v12068 : Value} {v12070 : Value} {c12071 : List Value} (hP : Pre Z h [.blk b12064 (K58 v12066 v12068 v12070 a0), .gs v12070 c12071 (csz api_Diag)]) (q12065 : RS (α := api_Token) Z v12066 a0.l_) (q12067 : RS (α := api_Node) Z v12068 a0.t_.Nodes) (q12069 : RCs (α := api_Diag) Z c12071 a0.d_) {r : Int} (hm : flow_reader_texts F a0 a1 = some r) :
    ∃ v h' Z' A', callI Go.Proofs.Try.prog 48 [Pt b12064 0, V a1] h = some (v, h') ∧ St h (idsL [.blk b12064 (K58 v12066 v12068 v12070 a0), .gs v12070 c12071 (csz api_Diag)]) Z (0, 0) Z' h' A' ∧ V r = v ∧ A' = [.blk b12064 (K58 v12066 v12068 v12070 a0), .gs v12070 c12071 (csz api_Diag)] := by
  refine fn_intro (A := [.blk b12064 (K58 v12066 v12068 v12070 a0), .gs v12070 c12071 (csz api_Diag)]) (Q := fun v Z' A' => V r = v ∧ A' = [.blk b12064 (K58 v12066 v12068 v12070 a0), .gs v12070 c12071 (csz api_Diag)]) Go.Proofs.Try.func48 rfl rfl (by kernel_rfl) hP ?_
  intro hs hS
  unfold flow_reader_texts at hm
  refine sr r48_0 ?_
  refine xe 1 [(0, Pt b12064 0), (1, V a1)] ?_
  refine sr r48_1 ?_
  refine xe 3 [(5, V (w64 (a1 + 1))), (0, Pt b12064 0), (1, V a1)] ?_
  refine sq ?_
  refine sr r48_2 ?_
  refine xq 2 [(10, V (w64 (a1 + 1))), (9, Pt b12064 0), (5, V (w64 (a1 + 1))), (0, Pt b12064 0), (1, V a1)] ?_
  obtain ⟨r12509, hx12510, hm⟩ := obind hm
  have hF12516 : St _ _ _ _ _ _ ([.blk b12064 (K58 v12066 v12068 v12070 a0), .gs v12070 c12071 (csz api_Diag)] ++ []) := ((hS.front 1 rfl).front 1 rfl)
  obtain ⟨v12511, h12512, Z12517, A12519, hcl12513, hSc12514, rfl, rfl⟩ := flow_reader_kind_ok F hF12516.preL q12065 q12067 q12069 hx12510
  have hZ12518 := hSc12514.zle
  have hS12515 := hF12516.call hSc12514
  replace hS12515 : St _ _ _ _ _ _ [.blk b12064 (K58 v12066 v12068 v12070 a0), .gs v12070 c12071 (csz api_Diag)] := hS12515
  refine r_step rfl trivial (o_call hcl12513 rfl rfl rfl) ?_
  refine xe 1 [(6, V r12509), (5, V (w64 (a1 + 1))), (0, Pt b12064 0), (1, V a1)] ?_
  obtain ⟨o12610, ho12609, hm⟩ := obind hm
  refine W_join [0, 1, 5] (fun l h => ∃ Z12658 : Zn, ∃ x12659 : Int, x12659 = o12610 ∧ l = [(0, Pt b12064 0), (1, V a1), (5, V x12659)] ∧ St hs (idsL [.blk b12064 (K58 v12066 v12068 v12070 a0), .gs v12070 c12071 (csz api_Diag)]) Z (0, 0) Z12658 h [.blk b12064 (K58 v12066 v12068 v12070 a0), .gs v12070 c12071 (csz api_Diag)]) ?_ ?_
  rintro l h12660 ⟨Z12658, x12659, rfl, rfl, hS12661⟩
  try dsimp only at hm
  refine sq ?_
  refine sr r48_7 ?_
  refine xq 2 [(27, V x12659), (26, Pt b12064 0), (0, Pt b12064 0), (1, V a1), (5, V x12659)] ?_
  obtain ⟨r12686, hx12687, hm⟩ := obind hm
  have hF12693 : St _ _ _ _ _ _ ([.blk b12064 (K58 v12066 v12068 v12070 a0), .gs v12070 c12071 (csz api_Diag)] ++ []) := ((hS12661.front 1 rfl).front 1 rfl)
  obtain ⟨v12688, h12689, Z12694, A12696, hcl12690, hSc12691, rfl, rfl⟩ := flow_reader_kind_ok F hF12693.preL (q12065.mono hS12661.zle) (q12067.mono hS12661.zle) (q12069.mono hS12661.zle) hx12687
  have hZ12695 := hSc12691.zle
  have hS12692 := hF12693.call hSc12691
  replace hS12692 : St _ _ _ _ _ _ [.blk b12064 (K58 v12066 v12068 v12070 a0), .gs v12070 c12071 (csz api_Diag)] := hS12692
  refine r_step rfl trivial (o_call hcl12690 rfl rfl rfl) ?_
  rcases ifs hm with ⟨hp12697, hm⟩ | ⟨hp12697, hm⟩
  refine r_step rfl trivial (o_cmp rfl rfl (c_neq_F hp12697)) ?_
  refine xf [(29, .bool false), (0, Pt b12064 0), (1, V a1), (5, V x12659)] ?_
  refine kF 29 rfl ?_
  refine sq ?_
  obtain ⟨o12739, ho12738, hm⟩ := obind hm
  refine W_join [5] (fun l h => ∃ Z12782 : Zn, ∃ x12783 : Int, x12783 = o12739 ∧ l = [(5, V x12783)] ∧ St hs (idsL [.blk b12064 (K58 v12066 v12068 v12070 a0), .gs v12070 c12071 (csz api_Diag)]) Z (0, 0) Z12782 h [.blk b12064 (K58 v12066 v12068 v12070 a0), .gs v12070 c12071 (csz api_Diag)]) ?_ ?_
  rintro l h12784 ⟨Z12782, x12783, rfl, rfl, hS12785⟩
  try dsimp only at hm
  refine sr r48_11 ?_
  refine xe 2 [(4, V x12783)] ?_
  refine rt ?_
  refine ⟨rfl, ?_⟩
  obtain rfl := Option.some.inj hm
  refine ⟨_, _, _, ResL.tmp rfl (ResL.nil), hS12785, ?_⟩
  exact ⟨rfl, rfl⟩
  refine bk 2 ?_
  refine lp [0, 5] (fun n l h => ∃ Z12740 : Zn, ∃ x12741 : Int, flow_reader_texts_l1 F a0 a1 n x12741 = some o12739 ∧ l = [(0, Pt b12064 0), (5, V x12741)] ∧ St hs (idsL [.blk b12064 (K58 v12066 v12068 v12070 a0), .gs v12070 c12071 (csz api_Diag)]) Z (0, 0) Z12740 h [.blk b12064 (K58 v12066 v12068 v12070 a0), .gs v12070 c12071 (csz api_Diag)]) F ⟨_, x12659, ho12738, rfl, hS12692⟩ ?_
  rintro n12744 l h12742 ⟨Z12740, x12741, ho12738, rfl, hS12743⟩
  rcases n12744 with _ | n12744
  cases (show none = some o12739 from ho12738)
  rw [flow_reader_texts_l1] at ho12738
  refine sq ?_
  refine sr r48_9 ?_
  refine xq 2 [(33, V x12741), (32, Pt b12064 0), (0, Pt b12064 0), (5, V x12741)] ?_
  obtain ⟨r12769, hx12770, ho12738⟩ := obind ho12738
  have hF12776 : St _ _ _ _ _ _ ([.blk b12064 (K58 v12066 v12068 v12070 a0), .gs v12070 c12071 (csz api_Diag)] ++ []) := ((hS12743.front 1 rfl).front 1 rfl)
  obtain ⟨v12771, h12772, Z12777, A12779, hcl12773, hSc12774, rfl, rfl⟩ := flow_reader_kind_ok F hF12776.preL (q12065.mono hS12743.zle) (q12067.mono hS12743.zle) (q12069.mono hS12743.zle) hx12770
  have hZ12778 := hSc12774.zle
  have hS12775 := hF12776.call hSc12774
  replace hS12775 : St _ _ _ _ _ _ [.blk b12064 (K58 v12066 v12068 v12070 a0), .gs v12070 c12071 (csz api_Diag)] := hS12775
  refine r_step rfl trivial (o_call hcl12773 rfl rfl rfl) ?_
  rcases ifs ho12738 with ⟨hp12780, ho12738⟩ | ⟨hp12780, ho12738⟩
  refine r_step rfl trivial (o_cmp rfl rfl (c_eql_T hp12780)) ?_
  refine xf [(35, .bool true), (0, Pt b12064 0), (5, V x12741)] ?_
  refine kT 35 rfl ?_
  refine bk 3 ?_
  refine rg r48_10 ?_
  refine xe 3 [(5, V (w64 (x12741 + 1))), (0, Pt b12064 0)] ?_
  exact ⟨n12744, Nat.lt_succ_self _, ⟨_, w64 (x12741 + 1), ho12738, rfl, hS12775⟩⟩
  refine r_step rfl trivial (o_cmp rfl rfl (c_eql_F hp12780)) ?_
  refine xf [(35, .bool false), (0, Pt b12064 0), (5, V x12741)] ?_
  refine cF 35 rfl ?_
  refine xt 2 ?_
  refine blkX_hit ?_
  obtain rfl := Option.some.inj ho12738
  exact ⟨_, x12741, rfl, rfl, hS12775⟩
  refine r_step rfl trivial (o_cmp rfl rfl (c_neq_T hp12697)) ?_
  refine xf [(29, .bool true), (0, Pt b12064 0), (1, V a1), (5, V x12659)] ?_
  refine cT 29 rfl ?_
  refine sr r48_8 ?_
  refine xe 3 [(4, V (w64 (a1 + 1)))] ?_
  refine rt ?_
  refine ⟨rfl, ?_⟩
  obtain rfl := Option.some.inj hm
  refine ⟨_, _, _, ResL.tmp rfl (ResL.nil), hS12692, ?_⟩
  exact ⟨rfl, rfl⟩
  refine bk 0 ?_
  refine lp [0, 1, 5, 6] (fun n l h => ∃ Z12611 : Zn, ∃ x12612 : Int, ∃ x12613 : Int, flow_reader_texts_l0 F a0 a1 n x12612 x12613 = some o12610 ∧ l = [(0, Pt b12064 0), (1, V a1), (5, V x12612), (6, V x12613)] ∧ St hs (idsL [.blk b12064 (K58 v12066 v12068 v12070 a0), .gs v12070 c12071 (csz api_Diag)]) Z (0, 0) Z12611 h [.blk b12064 (K58 v12066 v12068 v12070 a0), .gs v12070 c12071 (csz api_Diag)]) F ⟨_, w64 (a1 + 1), r12509, ho12609, rfl, hS12515⟩ ?_
  rintro n12616 l h12614 ⟨Z12611, x12612, x12613, ho12609, rfl, hS12615⟩
  rcases n12616 with _ | n12616
  cases (show none = some o12610 from ho12609)
  rw [flow_reader_texts_l0] at ho12609
  refine sq ?_
  refine sr r48_3 ?_
  refine xq 1 [(12, V x12613), (0, Pt b12064 0), (1, V a1), (5, V x12612), (6, V x12613)] ?_
  rcases ifs ho12609 with ⟨hp12635, ho12609⟩ | ⟨hp12635, ho12609⟩
  refine r_step rfl trivial (o_cmp rfl rfl (c_neq_F hp12635)) ?_
  refine xe 5 [(18, .bool false), (0, Pt b12064 0), (1, V a1), (5, V x12612), (6, V x12613)] ?_
  refine cF 18 rfl ?_
  refine xt 0 ?_
  refine blkX_hit ?_
  obtain rfl := Option.some.inj ho12609
  exact ⟨_, x12612, rfl, rfl, hS12615⟩
  refine r_step rfl trivial (o_cmp rfl rfl (c_neq_T hp12635)) ?_
  refine xq 2 [(15, V x12613), (14, .bool true), (0, Pt b12064 0), (1, V a1), (5, V x12612), (6, V x12613)] ?_
  obtain ⟨r12636, hx12637, ho12609⟩ := obind ho12609
  obtain ⟨v12638, h12639, hcl12640, hSc12641, rfl⟩ := flow_counts_ok F hS12615.inv  hx12637
  have hS12642 := St.call (A := []) (B := [.blk b12064 (K58 v12066 v12068 v12070 a0), .gs v12070 c12071 (csz api_Diag)]) hS12615 hSc12641
  replace hS12642 : St _ _ _ _ _ _ [.blk b12064 (K58 v12066 v12068 v12070 a0), .gs v12070 c12071 (csz api_Diag)] := hS12642
  refine r_step rfl rfl (o_call hcl12640 rfl rfl rfl) ?_
  rcases ifs ho12609 with ⟨hp12643, ho12609⟩ | ⟨hp12643, ho12609⟩
  refine r_setb (t := 16) rfl hp12643 ?_
  refine xe 2 [(18, .bool false), (0, Pt b12064 0), (1, V a1), (5, V x12612), (6, V x12613)] ?_
  refine cF 18 rfl ?_
  refine xt 0 ?_
  refine blkX_hit ?_
  obtain rfl := Option.some.inj ho12609
  exact ⟨_, x12612, rfl, rfl, hS12642⟩
  refine r_setb (t := 16) rfl (Bool.eq_false_iff.2 hp12643) ?_
  refine xe 2 [(18, .bool true), (0, Pt b12064 0), (1, V a1), (5, V x12612), (6, V x12613)] ?_
  refine kT 18 rfl ?_
  refine sq ?_
  refine bk 1 ?_
  refine sr r48_5 ?_
  refine xe 3 [(5, V (w64 (x12612 + 1))), (0, Pt b12064 0), (1, V a1), (6, V x12613)] ?_
  refine sr r48_6 ?_
  refine xq 1 [(24, V x12613), (5, V (w64 (x12612 + 1))), (0, Pt b12064 0), (1, V a1)] ?_
  rcases ifs ho12609 with ⟨hp12645, ho12609⟩ | ⟨hp12645, ho12609⟩
  refine r_step rfl trivial (o_cmp rfl rfl (c_eql_T hp12645)) ?_
  refine xf [(25, .bool true), (5, V (w64 (x12612 + 1))), (0, Pt b12064 0), (1, V a1)] ?_
  refine cT 25 rfl ?_
  refine xt 0 ?_
  refine blkX_miss rfl ?_
  refine blkX_hit ?_
  obtain rfl := Option.some.inj ho12609
  exact ⟨_, w64 (x12612 + 1), rfl, rfl, hS12642⟩
  refine r_step rfl trivial (o_cmp rfl rfl (c_eql_F hp12645)) ?_
  refine xf [(25, .bool false), (5, V (w64 (x12612 + 1))), (0, Pt b12064 0), (1, V a1)] ?_
  refine kF 25 rfl ?_
  refine rg r48_4 ?_
  refine xq 2 [(20, V (w64 (x12612 + 1))), (19, Pt b12064 0), (5, V (w64 (x12612 + 1))), (0, Pt b12064 0), (1, V a1)] ?_
  obtain ⟨r12646, hx12647, ho12609⟩ := obind ho12609
  have hF12653 : St _ _ _ _ _ _ ([.blk b12064 (K58 v12066 v12068 v12070 a0), .gs v12070 c12071 (csz api_Diag)] ++ []) := ((hS12642.front 1 rfl).front 1 rfl)
  obtain ⟨v12648, h12649, Z12654, A12656, hcl12650, hSc12651, rfl, rfl⟩ := flow_reader_kind_ok F hF12653.preL (q12065.mono hS12615.zle) (q12067.mono hS12615.zle) (q12069.mono hS12615.zle) hx12647
  have hZ12655 := hSc12651.zle
  have hS12652 := hF12653.call hSc12651
  replace hS12652 : St _ _ _ _ _ _ [.blk b12064 (K58 v12066 v12068 v12070 a0), .gs v12070 c12071 (csz api_Diag)] := hS12652
  refine r_step rfl trivial (o_call hcl12650 rfl rfl rfl) ?_
  refine xe 1 [(6, V r12646), (5, V (w64 (x12612 + 1))), (0, Pt b12064 0), (1, V a1)] ?_
  exact ⟨n12616, Nat.lt_succ_self _, ⟨_, w64 (x12612 + 1), r12646, ho12609, rfl, hS12652⟩⟩

def r49_0 : List COp := [u 2 (.assign (.const (.bool false)))]
def r49_1 : List COp := [u 3 (.move (t 0)), u 4 (.binOp .eql 3 (t 3) (ci 8) 3), u 5 (.move (t 4)), gN 5 (some 6) (.move (t 0)), gN 5 (some 7) (.binOp .eql 3 (t 6) (ci 9) 3), u 8 (.pick (t 5) (.const (.bool true)) (t 7)), u 2 (.assign (t 8))]
def flow_opens (F : Nat) (a0 : Int) : Option Bool :=
  if a0 = (8 : Int) then
    some true
  else
    if a0 = (9 : Int) then
      some true
    else
      some false
theorem flow_opens_ok (F : Nat) {h : AH} {Z : Zn} {a0 : Int} (hI : Inv Z h) {r : Bool} (hm : flow_opens F a0 = some r) :
    ∃ v h', callI Go.Proofs.Try.prog 49 [V a0] h = some (v, h') ∧ St h [] Z (0, 0) Z h' [] ∧ v = .bool r := by
  refine fn_plain (Q := fun v => v = .bool r) Go.Proofs.Try.func49 rfl rfl hI ?_
  intro hs hS
  unfold flow_opens at hm
  refine sr r49_0 ?_
  refine xe 1 [(0, V a0)] ?_
  refine sr r49_1 ?_
  refine xq 1 [(3, V a0), (0, V a0)] ?_
  rcases ifs hm with ⟨hp12819, hm⟩ | ⟨hp12819, hm⟩
  refine r_step rfl trivial (o_cmp rfl rfl (c_eql_T hp12819)) ?_
  refine xe 5 [(2, .bool true)] ?_
  refine rt ?_
  refine ⟨rfl, ?_⟩
  obtain rfl := Option.some.inj hm
  refine ⟨_, _, _, ResL.tmp rfl (ResL.nil), hS, ?_⟩
  exact rfl
  refine r_step rfl trivial (o_cmp rfl rfl (c_eql_F hp12819)) ?_
  refine xq 2 [(6, V a0), (5, .bool false)] ?_
  rcases ifs hm with ⟨hp12820, hm⟩ | ⟨hp12820, hm⟩
  refine r_step rfl rfl (o_cmp rfl rfl (c_eql_T hp12820)) ?_
  refine xe 2 [(2, .bool true)] ?_
  refine rt ?_
  refine ⟨rfl, ?_⟩
  obtain rfl := Option.some.inj hm
  refine ⟨_, _, _, ResL.tmp rfl (ResL.nil), hS, ?_⟩
  exact rfl
  refine r_step rfl rfl (o_cmp rfl rfl (c_eql_F hp12820)) ?_
  refine xe 2 [(2, .bool false)] ?_
  refine rt ?_
  refine ⟨rfl, ?_⟩
  obtain rfl := Option.some.inj hm
  refine ⟨_, _, _, ResL.tmp rfl (ResL.nil), hS, ?_⟩
  exact rfl

def r61_0 : List COp := [u 2 (.assign (.const (.bool false)))]
def r61_1 : List COp := [u 3 (.move (t 0)), u 4 (.binOp .eql 3 (t 3) (ci 10) 3), u 5 (.move (t 4)), gN 5 (some 6) (.move (t 0)), gN 5 (some 7) (.binOp .eql 3 (t 6) (ci 11) 3), u 8 (.pick (t 5) (.const (.bool true)) (t 7)), u 2 (.assign (t 8))]
def flow_ends (F : Nat) (a0 : Int) : Option Bool :=
  if a0 = (10 : Int) then
    some true
  else
    if a0 = (11 : Int) then
      some true
    else
      some false
theorem flow_ends_ok (F : Nat) {h : AH} {Z : Zn} {a0 : Int} (hI : Inv Z h) {r : Bool} (hm : flow_ends F a0 = some r) :
    ∃ v h', callI Go.Proofs.Try.prog 61 [V a0] h = some (v, h') ∧ St h [] Z (0, 0) Z h' [] ∧ v = .bool r := by
  refine fn_plain (Q := fun v => v = .bool r) Go.Proofs.Try.func61 rfl rfl hI ?_
  intro hs hS
  unfold flow_ends at hm
  refine sr r61_0 ?_
  refine xe 1 [(0, V a0)] ?_
  refine sr r61_1 ?_
  refine xq 1 [(3, V a0), (0, V a0)] ?_
  rcases ifs hm with ⟨hp12879, hm⟩ | ⟨hp12879, hm⟩
  refine r_step rfl trivial (o_cmp rfl rfl (c_eql_T hp12879)) ?_
  refine xe 5 [(2, .bool true)] ?_
  refine rt ?_
  refine ⟨rfl, ?_⟩
  obtain rfl := Option.some.inj hm
  refine ⟨_, _, _, ResL.tmp rfl (ResL.nil), hS, ?_⟩
  exact rfl
  refine r_step rfl trivial (o_cmp rfl rfl (c_eql_F hp12879)) ?_
  refine xq 2 [(6, V a0), (5, .bool false)] ?_
  rcases ifs hm with ⟨hp12880, hm⟩ | ⟨hp12880, hm⟩
  refine r_step rfl rfl (o_cmp rfl rfl (c_eql_T hp12880)) ?_
  refine xe 2 [(2, .bool true)] ?_
  refine rt ?_
  refine ⟨rfl, ?_⟩
  obtain rfl := Option.some.inj hm
  refine ⟨_, _, _, ResL.tmp rfl (ResL.nil), hS, ?_⟩
  exact rfl
  refine r_step rfl rfl (o_cmp rfl rfl (c_eql_F hp12880)) ?_
  refine xe 2 [(2, .bool false)] ?_
  refine rt ?_
  refine ⟨rfl, ?_⟩
  obtain rfl := Option.some.inj hm
  refine ⟨_, _, _, ResL.tmp rfl (ResL.nil), hS, ?_⟩
  exact rfl

def r62_0 : List COp := [u 2 (.assign (.const (.bool false)))]
def r62_1 : List COp := [u 3 (.move (t 0)), u 4 (.binOp .eql 3 (t 3) (ci 20) 3), u 5 (.move (t 4)), gN 5 (some 6) (.move (t 0)), gN 5 (some 7) (.binOp .eql 3 (t 6) (ci 21) 3), u 8 (.pick (t 5) (.const (.bool true)) (t 7)), u 2 (.assign (t 8))]
def flow_mark (F : Nat) (a0 : Int) : Option Bool :=
  if a0 = (20 : Int) then
    some true
  else
    if a0 = (21 : Int) then
      some true
    else
      some false
theorem flow_mark_ok (F : Nat) {h : AH} {Z : Zn} {a0 : Int} (hI : Inv Z h) {r : Bool} (hm : flow_mark F a0 = some r) :
    ∃ v h', callI Go.Proofs.Try.prog 62 [V a0] h = some (v, h') ∧ St h [] Z (0, 0) Z h' [] ∧ v = .bool r := by
  refine fn_plain (Q := fun v => v = .bool r) Go.Proofs.Try.func62 rfl rfl hI ?_
  intro hs hS
  unfold flow_mark at hm
  refine sr r62_0 ?_
  refine xe 1 [(0, V a0)] ?_
  refine sr r62_1 ?_
  refine xq 1 [(3, V a0), (0, V a0)] ?_
  rcases ifs hm with ⟨hp12891, hm⟩ | ⟨hp12891, hm⟩
  refine r_step rfl trivial (o_cmp rfl rfl (c_eql_T hp12891)) ?_
  refine xe 5 [(2, .bool true)] ?_
  refine rt ?_
  refine ⟨rfl, ?_⟩
  obtain rfl := Option.some.inj hm
  refine ⟨_, _, _, ResL.tmp rfl (ResL.nil), hS, ?_⟩
  exact rfl
  refine r_step rfl trivial (o_cmp rfl rfl (c_eql_F hp12891)) ?_
  refine xq 2 [(6, V a0), (5, .bool false)] ?_
  rcases ifs hm with ⟨hp12892, hm⟩ | ⟨hp12892, hm⟩
  refine r_step rfl rfl (o_cmp rfl rfl (c_eql_T hp12892)) ?_
  refine xe 2 [(2, .bool true)] ?_
  refine rt ?_
  refine ⟨rfl, ?_⟩
  obtain rfl := Option.some.inj hm
  refine ⟨_, _, _, ResL.tmp rfl (ResL.nil), hS, ?_⟩
  exact rfl
  refine r_step rfl rfl (o_cmp rfl rfl (c_eql_F hp12892)) ?_
  refine xe 2 [(2, .bool false)] ?_
  refine rt ?_
  refine ⟨rfl, ?_⟩
  obtain rfl := Option.some.inj hm
  refine ⟨_, _, _, ResL.tmp rfl (ResL.nil), hS, ?_⟩
  exact rfl

def r63_0 : List COp := [u 6 (.assign (ci 0))]
def r63_1 : List COp := [u 7 (.move (t 2)), u 8 (.move (t 1)), u 9 (.binOp .gtr 3 (t 7) (t 8) 3), u 10 (.move (t 9)), gT 10 (some 11) (.move (t 0)), gT 10 (some 12) (.nilCheck (t 11)), gT 10 (some 13) (.fieldAddr 58 (t 12) 0), gT 10 (some 14) (.load 25 (t 13)), gT 10 (some 15) (.move (t 2)), gT 10 (some 16) (.binOp .sub 3 (t 15) (ci 1) 3), gT 10 (some 17) (.indexAddr 25 (t 14) (t 16)), gT 10 (some 18) (.fieldAddr 70 (t 17) 0), gT 10 (some 19) (.load 3 (t 18)), gT 10 (some 20) (cf 60 #[(t 19)] #[3]), gT 10 (some 21) (.unOp .not 4 (t 20)), u 22 (.pick (t 10) (t 21) (.const (.bool false)))]
def r63_2 : List COp := [u 23 (.move (t 2)), u 24 (.binOp .sub 3 (t 23) (ci 1) 3), u 2 (.assign (t 24))]
def r63_3 : List COp := [u 25 (.move (t 2)), u 6 (.assign (t 25))]
def flow_reader_over_l0 (F : Nat) (a0 : flow_reader) (a1 : Int) (a2 : Int) : Nat → Int → Option Int
  | 0, _ => none
  | n + 1, x13122 =>
    if a1 < x13122 then
      if 0 ≤ (w64 (x13122 - 1)) ∧ (w64 (x13122 - 1)) < (a0.l_.length : Int) then
        (a0.l_[(w64 (x13122 - 1)).toNat]?).bind fun x13160 =>
        (flow_counts F x13160.Kind).bind fun r13166 =>
        if r13166 = true then
          some x13122
        else
          flow_reader_over_l0 F a0 a1 a2 n (w64 (x13122 - 1))
      else none
    else
      some x13122
def flow_reader_over (F : Nat) (a0 : flow_reader) (a1 : Int) (a2 : Int) : Option Int :=
  ((flow_reader_over_l0 F a0 a1 a2 F a2) : Option Int).bind fun o => match o with
    | x13176 => some x13176
theorem flow_reader_over_ok (F : Nat) {h : AH} {Z : Zn} {a0 : flow_reader} {a1 : Int} {a2 : Int} {b12901 : Nat} {v12903 : Value} {v12905 : Value} {v12907 : Value} {c12908 : List Value} (hP : Pre Z h [.blk b12901 (K58 v12903 v12905 v12907 a0), .gs v12907 c12908 (csz api_Diag)]) (q12902 : RS (α := api_Token) Z v12903 a0.l_) (q12904 : RS (α := api_Node) Z v12905 a0.t_.Nodes) (q12906 : RCs (α := api_Diag) Z c12908 a0.d_) {r : Int} (hm : flow_reader_over F a0 a1 a2 = some r) :
    ∃ v h' Z' A', callI Go.Proofs.Try.prog 63 [Pt b12901 0, V a1, V a2] h = some (v, h') ∧ St h (idsL [.blk b12901 (K58 v12903 v12905 v12907 a0), .gs v12907 c12908 (csz api_Diag)]) Z (0, 0) Z' h' A' ∧ V r = v ∧ A' = [.blk b12901 (K58 v12903 v12905 v12907 a0), .gs v12907 c12908 (csz api_Diag)] := by
  refine fn_intro (A := [.blk b12901 (K58 v12903 v12905 v12907 a0), .gs v12907 c12908 (csz api_Diag)]) (Q := fun v Z' A' => V r = v ∧ A' = [.blk b12901 (K58 v12903 v12905 v12907 a0), .gs v12907 c12908 (csz api_Diag)]) Go.Proofs.Try.func63 rfl rfl (by kernel_rfl) hP ?_
  intro hs hS
  unfold flow_reader_over at hm
  refine sr r63_0 ?_
  refine xe 1 [(0, Pt b12901 0), (1, V a1), (2, V a2)] ?_
  refine sq ?_
  obtain ⟨o13120, ho13119, hm⟩ := obind hm
  refine W_join [2] (fun l h => ∃ Z13175 : Zn, ∃ x13176 : Int, x13176 = o13120 ∧ l = [(2, V x13176)] ∧ St hs (idsL [.blk b12901 (K58 v12903 v12905 v12907 a0), .gs v12907 c12908 (csz api_Diag)]) Z (0, 0) Z13175 h [.blk b12901 (K58 v12903 v12905 v12907 a0), .gs v12907 c12908 (csz api_Diag)]) ?_ ?_
  rintro l h13177 ⟨Z13175, x13176, rfl, rfl, hS13178⟩
  try dsimp only at hm
  refine sr r63_3 ?_
  refine xe 2 [(6, V x13176)] ?_
  refine rt ?_
  refine ⟨rfl, ?_⟩
  obtain rfl := Option.some.inj hm
  refine ⟨_, _, _, ResL.tmp rfl (ResL.nil), hS13178, ?_⟩
  exact ⟨rfl, rfl⟩
  refine bk 0 ?_
  refine lp [0, 1, 2] (fun n l h => ∃ Z13121 : Zn, ∃ x13122 : Int, flow_reader_over_l0 F a0 a1 a2 n x13122 = some o13120 ∧ l = [(0, Pt b12901 0), (1, V a1), (2, V x13122)] ∧ St hs (idsL [.blk b12901 (K58 v12903 v12905 v12907 a0), .gs v12907 c12908 (csz api_Diag)]) Z (0, 0) Z13121 h [.blk b12901 (K58 v12903 v12905 v12907 a0), .gs v12907 c12908 (csz api_Diag)]) F ⟨_, a2, ho13119, rfl, hS⟩ ?_
  rintro n13125 l h13123 ⟨Z13121, x13122, ho13119, rfl, hS13124⟩
  rcases n13125 with _ | n13125
  cases (show none = some o13120 from ho13119)
  rw [flow_reader_over_l0] at ho13119
  refine sq ?_
  refine sr r63_1 ?_
  refine xq 2 [(8, V a1), (7, V x13122), (0, Pt b12901 0), (1, V a1), (2, V x13122)] ?_
  rcases ifs ho13119 with ⟨hp13158, ho13119⟩ | ⟨hp13158, ho13119⟩
  refine r_step rfl trivial (o_cmp rfl rfl (c_gtr_T hp13158)) ?_
  refine xq 4 [(13, Pt b12901 0), (10, .bool true), (0, Pt b12901 0), (1, V a1), (2, V x13122)] ?_
  refine r_step rfl rfl (o_ldb (v := v12903) hS13124 (i := 0) rfl rfl (by kernel_rfl)) ?_
  refine xq 2 [(16, V (w64 (x13122 - 1))), (14, v12903), (10, .bool true), (0, Pt b12901 0), (1, V a1), (2, V x13122)] ?_
  obtain ⟨hc13159, ho13119⟩ := chk ho13119
  refine r_step rfl rfl (o_index rfl rfl (by kernel_rfl : slTy _ _ = some (csz api_Token)) (RS.based (q12902.mono hS13124.zle) (by omega)) hc13159.1 hc13159.2) ?_
  refine xq 1 [(18, .pointer (some (elemA v12903 (w64 (x13122 - 1)) (csz api_Token) 0))), (10, .bool true), (0, Pt b12901 0), (1, V a1), (2, V x13122)] ?_
  obtain ⟨x13160, hx13161, ho13119⟩ := obind ho13119
  obtain ⟨cs13162, hc13163, he13164⟩ := RS.elz (q12902.mono hS13124.zle) (i := w64 (x13122 - 1)) hx13161
  obtain rfl := rc_api_Token hc13163
  refine r_step rfl rfl (o_lde (w := V x13160.Kind) (he13164 _ (hS13124.zin0 (Zle.refl _))) rfl (by kernel_rfl)) ?_
  obtain ⟨r13166, hx13167, ho13119⟩ := obind ho13119
  obtain ⟨v13168, h13169, hcl13170, hSc13171, rfl⟩ := flow_counts_ok F hS13124.inv  hx13167
  have hS13172 := St.call (A := []) (B := [.blk b12901 (K58 v12903 v12905 v12907 a0), .gs v12907 c12908 (csz api_Diag)]) hS13124 hSc13171
  replace hS13172 : St _ _ _ _ _ _ [.blk b12901 (K58 v12903 v12905 v12907 a0), .gs v12907 c12908 (csz api_Diag)] := hS13172
  refine r_step rfl rfl (o_call hcl13170 rfl rfl rfl) ?_
  rcases ifs ho13119 with ⟨hp13173, ho13119⟩ | ⟨hp13173, ho13119⟩
  refine r_setb (t := 20) rfl hp13173 ?_
  refine xe 2 [(22, .bool false), (0, Pt b12901 0), (1, V a1), (2, V x13122)] ?_
  refine cF 22 rfl ?_
  refine xt 0 ?_
  refine blkX_hit ?_
  obtain rfl := Option.some.inj ho13119
  exact ⟨_, x13122, rfl, rfl, hS13172⟩
  refine r_setb (t := 20) rfl (Bool.eq_false_iff.2 hp13173) ?_
  refine xe 2 [(22, .bool true), (0, Pt b12901 0), (1, V a1), (2, V x13122)] ?_
  refine kT 22 rfl ?_
  refine bk 1 ?_
  refine rg r63_2 ?_
  refine xe 3 [(2, V (w64 (x13122 - 1))), (0, Pt b12901 0), (1, V a1)] ?_
  exact ⟨n13125, Nat.lt_succ_self _, ⟨_, w64 (x13122 - 1), ho13119, rfl, hS13172⟩⟩
  refine r_step rfl trivial (o_cmp rfl rfl (c_gtr_F hp13158)) ?_
  refine xe 13 [(22, .bool false), (0, Pt b12901 0), (1, V a1), (2, V x13122)] ?_
  refine cF 22 rfl ?_
  refine xt 0 ?_
  refine blkX_hit ?_
  obtain rfl := Option.some.inj ho13119
  exact ⟨_, x13122, rfl, rfl, hS13124⟩

def r50_0 : List COp := [u 4 (.assign (ci 0))]
def r50_1 : List COp := [u 5 (.assign (ci 0))]
def r50_2 : List COp := [u 8 (.move (t 1)), u 6 (.assign (t 8))]
def r50_3 : List COp := [u 9 (.move (t 6)), u 10 (.move (t 0)), u 11 (.nilCheck (t 10)), u 12 (.fieldAddr 58 (t 11) 1), u 13 (.load 3 (t 12)), u 14 (.binOp .lss 3 (t 9) (t 13) 3)]
def r50_4 : List COp := [u 15 (.move (t 6)), u 16 (.binOp .add 3 (t 15) (ci 1) 3), u 6 (.assign (t 16))]
def r50_5 : List COp := [u 17 (.move (t 0)), u 18 (.move (t 6)), u 19 (cf 46 #[(t 17), (t 18)] #[55, 3]), u 7 (.assign (t 19))]
def r50_6 : List COp := [u 21 (.move (t 7)), u 22 (cf 49 #[(t 21)] #[3]), u 20 (.assign (t 22))]
def r50_7 : List COp := [u 23 (.move (t 5)), u 24 (.binOp .add 3 (t 23) (ci 1) 3), u 5 (.assign (t 24))]
def r50_8 : List COp := [u 26 (.move (t 7)), u 27 (cf 61 #[(t 26)] #[3]), u 25 (.assign (t 27))]
def r50_9 : List COp := [u 28 (.move (t 5)), u 29 (.binOp .sub 3 (t 28) (ci 1) 3), u 5 (.assign (t 29))]
def r50_10 : List COp := [u 31 (.move (t 7)), u 32 (cf 62 #[(t 31)] #[3]), u 30 (.assign (t 32))]
def r50_11 : List COp := [u 33 (.move (t 0)), u 34 (.move (t 1)), u 35 (.move (t 6)), u 36 (cf 63 #[(t 33), (t 34), (t 35)] #[55, 3, 3]), u 4 (.assign (t 36))]
def r50_12 : List COp := [u 37 (.move (t 5)), u 38 (.binOp .eql 3 (t 37) (ci 0) 3)]
def r50_13 : List COp := [u 39 (.move (t 6)), u 40 (.binOp .add 3 (t 39) (ci 1) 3), u 4 (.assign (t 40))]
def r50_14 : List COp := [u 41 (.move (t 0)), u 42 (.move (t 1)), u 43 (.move (t 0)), u 44 (.nilCheck (t 43)), u 45 (.fieldAddr 58 (t 44) 1), u 46 (.load 3 (t 45)), u 47 (cf 63 #[(t 41), (t 42), (t 46)] #[55, 3, 3]), u 4 (.assign (t 47))]
def flow_reader_closed_l0 (F : Nat) (a0 : flow_reader) (a1 : Int) : Nat → Int → Int → Option (Sum Unit Int)
  | 0, _, _ => none
  | n + 1, x13392, x13393 =>
    if x13393 < a0.end_ then
      (((flow_reader_kind F a0 x13393).bind fun r13448 =>
        (flow_opens F r13448).bind fun r13459 =>
        if r13459 = true then
          some (.inl (w64 (x13392 + 1)))
        else
          (flow_ends F r13448).bind fun r13467 =>
          if r13467 = true then
            some (.inl (w64 (x13392 - 1)))
          else
            (flow_mark F r13448).bind fun r13475 =>
            if r13475 = true then
              (flow_reader_over F a0 a1 x13393).bind fun r13483 =>
              some (.inr r13483)
            else
              some (.inl x13392)) : Option (Sum Int Int)).bind fun o => match o with
        | .inl x13495 => if x13495 = (0 : Int) then
          some (.inr (w64 (x13393 + 1)))
        else
          flow_reader_closed_l0 F a0 a1 n x13495 (w64 (x13393 + 1))
        | .inr y => some (.inr y)
    else
      some (.inl ())
def flow_reader_closed (F : Nat) (a0 : flow_reader) (a1 : Int) : Option Int :=
  ((flow_reader_closed_l0 F a0 a1 F 0 a1) : Option (Sum Unit Int)).bind fun o => match o with
    | .inl () => (flow_reader_over F a0 a1 a0.end_).bind fun r13504 =>
    some r13504
    | .inr y => some y
theorem flow_reader_closed_ok (F : Nat) {h : AH} {Z : Zn} {a0 : flow_reader} {a1 : Int} {b12844 : Nat} {v12846 : Value} {v12848 : Value} {v12850 : Value} {c12851 : List Value} (hP : Pre Z h [.blk b12844 (K58 v12846 v12848 v12850 a0), .gs v12850 c12851 (csz api_Diag)]) (q12845 : RS (α := api_Token) Z v12846 a0.l_) (q12847 : RS (α := api_Node) Z v12848 a0.t_.Nodes) (q12849 : RCs (α := api_Diag) Z c12851 a0.d_) {r : Int} (hm : flow_reader_closed F a0 a1 = some r) :
    ∃ v h' Z' A', callI Go.Proofs.Try.prog 50 [Pt b12844 0, V a1] h = some (v, h') ∧ St h (idsL [.blk b12844 (K58 v12846 v12848 v12850 a0), .gs v12850 c12851 (csz api_Diag)]) Z (0, 0) Z' h' A' ∧ V r = v ∧ A' = [.blk b12844 (K58 v12846 v12848 v12850 a0), .gs v12850 c12851 (csz api_Diag)] := by
  refine fn_intro (A := [.blk b12844 (K58 v12846 v12848 v12850 a0), .gs v12850 c12851 (csz api_Diag)]) (Q := fun v Z' A' => V r = v ∧ A' = [.blk b12844 (K58 v12846 v12848 v12850 a0), .gs v12850 c12851 (csz api_Diag)]) Go.Proofs.Try.func50 rfl rfl (by kernel_rfl) hP ?_
  intro hs hS
  unfold flow_reader_closed at hm
  refine sr r50_0 ?_
  refine xe 1 [(0, Pt b12844 0), (1, V a1)] ?_
  refine sr r50_1 ?_
  refine xe 1 [(5, V 0), (0, Pt b12844 0), (1, V a1)] ?_
  refine sq ?_
  refine sr r50_2 ?_
  refine xe 2 [(6, V a1), (5, V 0), (0, Pt b12844 0), (1, V a1)] ?_
  obtain ⟨o13390, ho13389, hm⟩ := obind hm
  refine W_join [0, 1] (fun l h => ∃ Z13501 : Zn, .inl () = o13390 ∧ l = [(0, Pt b12844 0), (1, V a1)] ∧ St hs (idsL [.blk b12844 (K58 v12846 v12848 v12850 a0), .gs v12850 c12851 (csz api_Diag)]) Z (0, 0) Z13501 h [.blk b12844 (K58 v12846 v12848 v12850 a0), .gs v12850 c12851 (csz api_Diag)]) ?_ ?_
  rintro l h13502 ⟨Z13501, rfl, rfl, hS13503⟩
  try dsimp only at hm
  refine sr r50_14 ?_
  refine xq 5 [(45, Pt b12844 1), (42, V a1), (41, Pt b12844 0)] ?_
  refine r_step rfl trivial (o_ldb (v := V a0.end_) hS13503 (i := 0) rfl rfl (by kernel_rfl)) ?_
  obtain ⟨r13504, hx13505, hm⟩ := obind hm
  have hF13511 : St _ _ _ _ _ _ ([.blk b12844 (K58 v12846 v12848 v12850 a0), .gs v12850 c12851 (csz api_Diag)] ++ []) := ((hS13503.front 1 rfl).front 1 rfl)
  obtain ⟨v13506, h13507, Z13512, A13514, hcl13508, hSc13509, rfl, rfl⟩ := flow_reader_over_ok F hF13511.preL (q12845.mono hS13503.zle) (q12847.mono hS13503.zle) (q12849.mono hS13503.zle) hx13505
  have hZ13513 := hSc13509.zle
  have hS13510 := hF13511.call hSc13509
  replace hS13510 : St _ _ _ _ _ _ [.blk b12844 (K58 v12846 v12848 v12850 a0), .gs v12850 c12851 (csz api_Diag)] := hS13510
  refine r_step rfl trivial (o_call hcl13508 rfl rfl rfl) ?_
  refine xe 1 [(4, V r13504)] ?_
  refine rt ?_
  refine ⟨rfl, ?_⟩
  obtain rfl := Option.some.inj hm
  refine ⟨_, _, _, ResL.tmp rfl (ResL.nil), hS13510, ?_⟩
  exact ⟨rfl, rfl⟩
  refine bk 0 ?_
  refine lp [0, 1, 5, 6] (fun n l h => ∃ Z13391 : Zn, ∃ x13392 : Int, ∃ x13393 : Int, flow_reader_closed_l0 F a0 a1 n x13392 x13393 = some o13390 ∧ l = [(0, Pt b12844 0), (1, V a1), (5, V x13392), (6, V x13393)] ∧ St hs (idsL [.blk b12844 (K58 v12846 v12848 v12850 a0), .gs v12850 c12851 (csz api_Diag)]) Z (0, 0) Z13391 h [.blk b12844 (K58 v12846 v12848 v12850 a0), .gs v12850 c12851 (csz api_Diag)]) F ⟨_, 0, a1, ho13389, rfl, hS⟩ ?_
  rintro n13396 l h13394 ⟨Z13391, x13392, x13393, ho13389, rfl, hS13395⟩
  rcases n13396 with _ | n13396
  cases (show none = some o13390 from ho13389)
  rw [flow_reader_closed_l0] at ho13389
  refine sq ?_
  refine sr r50_3 ?_
  refine xq 4 [(12, Pt b12844 1), (9, V x13393), (0, Pt b12844 0), (1, V a1), (5, V x13392), (6, V x13393)] ?_
  refine r_step rfl trivial (o_ldb (v := V a0.end_) hS13395 (i := 0) rfl rfl (by kernel_rfl)) ?_
  rcases ifs ho13389 with ⟨hp13399, ho13389⟩ | ⟨hp13399, ho13389⟩
  refine r_step rfl trivial (o_cmp rfl rfl (c_lss_T hp13399)) ?_
  refine xf [(14, .bool true), (0, Pt b12844 0), (1, V a1), (5, V x13392), (6, V x13393)] ?_
  refine kT 14 rfl ?_
  refine sq ?_
  refine bk 1 ?_
  refine sq ?_
  obtain ⟨o13447, ho13446, ho13389⟩ := obind ho13389
  refine W_join [0, 1, 5, 6] (fun l h => ∃ Z13494 : Zn, ∃ x13495 : Int, .inl x13495 = o13447 ∧ l = [(0, Pt b12844 0), (1, V a1), (5, V x13495), (6, V x13393)] ∧ St hs (idsL [.blk b12844 (K58 v12846 v12848 v12850 a0), .gs v12850 c12851 (csz api_Diag)]) Z (0, 0) Z13494 h [.blk b12844 (K58 v12846 v12848 v12850 a0), .gs v12850 c12851 (csz api_Diag)]) ?_ ?_
  rintro l h13496 ⟨Z13494, x13495, rfl, rfl, hS13497⟩
  try dsimp only at ho13389
  refine sr r50_12 ?_
  refine xq 1 [(37, V x13495), (0, Pt b12844 0), (1, V a1), (5, V x13495), (6, V x13393)] ?_
  rcases ifs ho13389 with ⟨hp13499, ho13389⟩ | ⟨hp13499, ho13389⟩
  refine r_step rfl trivial (o_cmp rfl rfl (c_eql_T hp13499)) ?_
  refine xf [(38, .bool true), (0, Pt b12844 0), (1, V a1), (5, V x13495), (6, V x13393)] ?_
  refine cT 38 rfl ?_
  refine sr r50_13 ?_
  refine xe 3 [(4, V (w64 (x13393 + 1)))] ?_
  refine rt ?_
  refine blkX_ret ?_
  refine blkX_ret ?_
  refine ⟨rfl, ?_⟩
  obtain rfl := Option.some.inj ho13389
  obtain rfl := Option.some.inj hm
  refine ⟨_, _, _, ResL.tmp rfl (ResL.nil), hS13497, ?_⟩
  exact ⟨rfl, rfl⟩
  refine r_step rfl trivial (o_cmp rfl rfl (c_eql_F hp13499)) ?_
  refine xf [(38, .bool false), (0, Pt b12844 0), (1, V a1), (5, V x13495), (6, V x13393)] ?_
  refine kF 38 rfl ?_
  refine rg r50_4 ?_
  refine xe 3 [(6, V (w64 (x13393 + 1))), (0, Pt b12844 0), (1, V a1), (5, V x13495)] ?_
  exact ⟨n13396, Nat.lt_succ_self _, ⟨_, x13495, w64 (x13393 + 1), ho13389, rfl, hS13497⟩⟩
  refine sr r50_5 ?_
  refine xq 2 [(18, V x13393), (17, Pt b12844 0), (0, Pt b12844 0), (1, V a1), (5, V x13392), (6, V x13393)] ?_
  obtain ⟨r13448, hx13449, ho13446⟩ := obind ho13446
  have hF13455 : St _ _ _ _ _ _ ([.blk b12844 (K58 v12846 v12848 v12850 a0), .gs v12850 c12851 (csz api_Diag)] ++ []) := ((hS13395.front 1 rfl).front 1 rfl)
  obtain ⟨v13450, h13451, Z13456, A13458, hcl13452, hSc13453, rfl, rfl⟩ := flow_reader_kind_ok F hF13455.preL (q12845.mono hS13395.zle) (q12847.mono hS13395.zle) (q12849.mono hS13395.zle) hx13449
  have hZ13457 := hSc13453.zle
  have hS13454 := hF13455.call hSc13453
  replace hS13454 : St _ _ _ _ _ _ [.blk b12844 (K58 v12846 v12848 v12850 a0), .gs v12850 c12851 (csz api_Diag)] := hS13454
  refine r_step rfl trivial (o_call hcl13452 rfl rfl rfl) ?_
  refine xe 1 [(7, V r13448), (0, Pt b12844 0), (1, V a1), (5, V x13392), (6, V x13393)] ?_
  refine bk 2 ?_
  refine sr r50_6 ?_
  refine xq 1 [(21, V r13448), (7, V r13448), (0, Pt b12844 0), (1, V a1), (5, V x13392), (6, V x13393)] ?_
  obtain ⟨r13459, hx13460, ho13446⟩ := obind ho13446
  obtain ⟨v13461, h13462, hcl13463, hSc13464, rfl⟩ := flow_opens_ok F hS13454.inv  hx13460
  have hS13465 := St.call (A := []) (B := [.blk b12844 (K58 v12846 v12848 v12850 a0), .gs v12850 c12851 (csz api_Diag)]) hS13454 hSc13464
  replace hS13465 : St _ _ _ _ _ _ [.blk b12844 (K58 v12846 v12848 v12850 a0), .gs v12850 c12851 (csz api_Diag)] := hS13465
  refine r_step rfl trivial (o_call hcl13463 rfl rfl rfl) ?_
  refine xe 1 [(20, .bool r13459), (7, V r13448), (0, Pt b12844 0), (1, V a1), (5, V x13392), (6, V x13393)] ?_
  rcases ifs ho13446 with ⟨hp13466, ho13446⟩ | ⟨hp13466, ho13446⟩
  refine W_condT (x := .tmp 20) (by kernel_rfl) rfl hp13466 ?_
  refine rg r50_7 ?_
  refine xe 3 [(5, V (w64 (x13392 + 1))), (0, Pt b12844 0), (1, V a1), (6, V x13393)] ?_
  obtain rfl := Option.some.inj ho13446
  exact ⟨_, w64 (x13392 + 1), rfl, rfl, hS13465⟩
  refine W_condF (x := .tmp 20) (by kernel_rfl) rfl (Bool.eq_false_iff.2 hp13466) ?_
  refine sr r50_8 ?_
  refine xq 1 [(26, V r13448), (7, V r13448), (0, Pt b12844 0), (1, V a1), (5, V x13392), (6, V x13393)] ?_
  obtain ⟨r13467, hx13468, ho13446⟩ := obind ho13446
  obtain ⟨v13469, h13470, hcl13471, hSc13472, rfl⟩ := flow_ends_ok F hS13465.inv  hx13468
  have hS13473 := St.call (A := []) (B := [.blk b12844 (K58 v12846 v12848 v12850 a0), .gs v12850 c12851 (csz api_Diag)]) hS13465 hSc13472
  replace hS13473 : St _ _ _ _ _ _ [.blk b12844 (K58 v12846 v12848 v12850 a0), .gs v12850 c12851 (csz api_Diag)] := hS13473
  refine r_step rfl trivial (o_call hcl13471 rfl rfl rfl) ?_
  refine xe 1 [(25, .bool r13467), (7, V r13448), (0, Pt b12844 0), (1, V a1), (5, V x13392), (6, V x13393)] ?_
  rcases ifs ho13446 with ⟨hp13474, ho13446⟩ | ⟨hp13474, ho13446⟩
  refine W_condT (x := .tmp 25) (by kernel_rfl) rfl hp13474 ?_
  refine rg r50_9 ?_
  refine xe 3 [(5, V (w64 (x13392 - 1))), (0, Pt b12844 0), (1, V a1), (6, V x13393)] ?_
  obtain rfl := Option.some.inj ho13446
  exact ⟨_, w64 (x13392 - 1), rfl, rfl, hS13473⟩
  refine W_condF (x := .tmp 25) (by kernel_rfl) rfl (Bool.eq_false_iff.2 hp13474) ?_
  refine sr r50_10 ?_
  refine xq 1 [(31, V r13448), (0, Pt b12844 0), (1, V a1), (5, V x13392), (6, V x13393)] ?_
  obtain ⟨r13475, hx13476, ho13446⟩ := obind ho13446
  obtain ⟨v13477, h13478, hcl13479, hSc13480, rfl⟩ := flow_mark_ok F hS13473.inv  hx13476
  have hS13481 := St.call (A := []) (B := [.blk b12844 (K58 v12846 v12848 v12850 a0), .gs v12850 c12851 (csz api_Diag)]) hS13473 hSc13480
  replace hS13481 : St _ _ _ _ _ _ [.blk b12844 (K58 v12846 v12848 v12850 a0), .gs v12850 c12851 (csz api_Diag)] := hS13481
  refine r_step rfl trivial (o_call hcl13479 rfl rfl rfl) ?_
  refine xe 1 [(30, .bool r13475), (0, Pt b12844 0), (1, V a1), (5, V x13392), (6, V x13393)] ?_
  rcases ifs ho13446 with ⟨hp13482, ho13446⟩ | ⟨hp13482, ho13446⟩
  refine W_condT (x := .tmp 30) (by kernel_rfl) rfl hp13482 ?_
  refine sr r50_11 ?_
  refine xq 3 [(35, V x13393), (34, V a1), (33, Pt b12844 0)] ?_
  obtain ⟨r13483, hx13484, ho13446⟩ := obind ho13446
  have hF13490 : St _ _ _ _ _ _ ([.blk b12844 (K58 v12846 v12848 v12850 a0), .gs v12850 c12851 (csz api_Diag)] ++ []) := ((hS13481.front 1 rfl).front 1 rfl)
  obtain ⟨v13485, h13486, Z13491, A13493, hcl13487, hSc13488, rfl, rfl⟩ := flow_reader_over_ok F hF13490.preL (q12845.mono (hS13395.zle.trans hZ13457)) (q12847.mono (hS13395.zle.trans hZ13457)) (q12849.mono (hS13395.zle.trans hZ13457)) hx13484
  have hZ13492 := hSc13488.zle
  have hS13489 := hF13490.call hSc13488
  replace hS13489 : St _ _ _ _ _ _ [.blk b12844 (K58 v12846 v12848 v12850 a0), .gs v12850 c12851 (csz api_Diag)] := hS13489
  refine r_step rfl trivial (o_call hcl13487 rfl rfl rfl) ?_
  refine xe 1 [(4, V r13483)] ?_
  refine rt ?_
  refine blkX_ret ?_
  refine blkX_ret ?_
  refine blkX_ret ?_
  refine ⟨rfl, ?_⟩
  obtain rfl := Option.some.inj ho13446
  obtain rfl := Option.some.inj ho13389
  obtain rfl := Option.some.inj hm
  refine ⟨_, _, _, ResL.tmp rfl (ResL.nil), hS13489, ?_⟩
  exact ⟨rfl, rfl⟩
  refine W_condF (x := .tmp 30) (by kernel_rfl) rfl (Bool.eq_false_iff.2 hp13482) ?_
  refine sk ?_
  obtain rfl := Option.some.inj ho13446
  exact ⟨_, x13392, rfl, rfl, hS13481⟩
  refine r_step rfl trivial (o_cmp rfl rfl (c_lss_F hp13399)) ?_
  refine xf [(14, .bool false), (0, Pt b12844 0), (1, V a1), (5, V x13392), (6, V x13393)] ?_
  refine cF 14 rfl ?_
  refine xt 0 ?_
  refine blkX_hit ?_
  obtain rfl := Option.some.inj ho13389
  exact ⟨_, rfl, rfl, hS13395⟩

def r64_0 : List COpF := [uF 8 (.move (t 0)) .pure [], uF 9 (.move (t 0)) .pure [], uF 10 (.nilCheck (t 9)) .pure [], uF 11 (.fieldAddr 58 (t 10) 3) .pure [], uF 12 (.load 30 (t 11)) .look [], uF 13 (.move (t 1)) .pure [], uF 14 (.move (t 0)) .pure [], uF 15 (.nilCheck (t 14)) .pure [], uF 16 (.fieldAddr 58 (t 15) 0) .pure [], uF 17 (.load 25 (t 16)) .look [], uF 18 (.move (t 2)) .pure [], uF 19 (.indexAddr 25 (t 17) (t 18)) .pure [], uF 20 (.fieldAddr 70 (t 19) 1) .pure [], uF 21 (.load 3 (t 20)) .look [], uF 22 (.move (t 0)) .pure [], uF 23 (.nilCheck (t 22)) .pure [], uF 24 (.fieldAddr 58 (t 23) 0) .pure [], uF 25 (.load 25 (t 24)) .look [], uF 26 (.move (t 3)) .pure [], uF 27 (.binOp .sub 3 (t 26) (ci 1) 3) .pure [], uF 28 (.indexAddr 25 (t 25) (t 27)) .pure [], uF 29 (.fieldAddr 70 (t 28) 2) .pure [], uF 30 (.load 3 (t 29)) .look [], uF 31 (.build 35 #[(0, (t 13)), (1, (t 21)), (2, (t 30))]) .pure [], uF 32 (.buildSlice 30 1 #[(0, (t 31))]) .fresh [], uF 33 (cb .append #[(t 12), (t 32)] #[30, 30]) .make [4, 9, 13, 17, 22], uF 34 (.nilCheck (t 8)) .pure [], uF 35 (.fieldAddr 58 (t 34) 3) .pure [], oF (.store 30 (t 35) (t 33)) .make [4, 9, 13, 17, 22]]
def flow_reader_tell (F : Nat) (a0 : flow_reader) (a1 : Int) (a2 : Int) (a3 : Int) : Option flow_reader :=
  if 0 ≤ a2 ∧ a2 < (a0.l_.length : Int) then
    (a0.l_[a2.toNat]?).bind fun x13596 =>
    if 0 ≤ (w64 (a3 - 1)) ∧ (w64 (a3 - 1)) < (a0.l_.length : Int) then
      (a0.l_[(w64 (a3 - 1)).toNat]?).bind fun x13604 =>
      if a0.d_.length + [(⟨a1, x13596.From, x13604.To⟩ : api_Diag)].length ≤ 5864062014805 then
        some (⟨a0.l_, a0.end_, a0.t_, a0.d_ ++ [(⟨a1, x13596.From, x13604.To⟩ : api_Diag)]⟩ : flow_reader)
      else none
    else none
  else none
theorem flow_reader_tell_ok (F : Nat) {h : AH} {Z : Zn} {a0 : flow_reader} {a1 : Int} {a2 : Int} {a3 : Int} {b13534 : Nat} {v13536 : Value} {v13538 : Value} {v13540 : Value} {c13541 : List Value} (hP : Pre Z h [.blk b13534 (K58 v13536 v13538 v13540 a0), .gs v13540 c13541 (csz api_Diag)]) (q13535 : RS (α := api_Token) Z v13536 a0.l_) (q13537 : RS (α := api_Node) Z v13538 a0.t_.Nodes) (q13539 : RCs (α := api_Diag) Z c13541 a0.d_) {r : flow_reader} (hm : flow_reader_tell F a0 a1 a2 a3 = some r) :
    ∃ v h' Z' A', callI Go.Proofs.Try.prog 64 [Pt b13534 0, V a1, V a2, V a3] h = some (v, h') ∧ St h (idsL [.blk b13534 (K58 v13536 v13538 v13540 a0), .gs v13540 c13541 (csz api_Diag)]) Z (0, 0) Z' h' A' ∧ ∃ v13583 : Value, ∃ v13585 : Value, ∃ v13587 : Value, ∃ c13588 : List Value, .tuple #[] = v ∧ A' = [.blk b13534 (K58 v13583 v13585 v13587 r), .gs v13587 c13588 (csz api_Diag)] ∧ RS (α := api_Token) Z' v13583 r.l_ ∧ RS (α := api_Node) Z' v13585 r.t_.Nodes ∧ RCs (α := api_Diag) Z' c13588 r.d_ := by
  refine fn_intro (A := [.blk b13534 (K58 v13536 v13538 v13540 a0), .gs v13540 c13541 (csz api_Diag)]) (Q := fun v Z' A' => ∃ v13583 : Value, ∃ v13585 : Value, ∃ v13587 : Value, ∃ c13588 : List Value, .tuple #[] = v ∧ A' = [.blk b13534 (K58 v13583 v13585 v13587 r), .gs v13587 c13588 (csz api_Diag)] ∧ RS (α := api_Token) Z' v13583 r.l_ ∧ RS (α := api_Node) Z' v13585 r.t_.Nodes ∧ RCs (α := api_Diag) Z' c13588 r.d_) Go.Proofs.Try.func64 rfl rfl (by kernel_rfl) hP ?_
  intro hs hS
  unfold flow_reader_tell at hm
  refine rgF r64_0 hS ?_
  intro bs13589 h13590 hlv13592 hS13591
  refine yq 4 [(11, Pt b13534 3), (8, Pt b13534 0), (0, Pt b13534 0), (1, V a1), (2, V a2), (3, V a3)] ?_
  have lt13593 : b13534 < bs13589 := hlv13592.1 _ (List.mem_of_getElem? (i := 0) rfl) _ (by simp [Itm.ids])
  refine e_lookB rfl trivial rfl (by show b13534 < _; omega) (same1 (v := v13540) (hS13591.gsim1 (i := 1) rfl)) (o_ldb (v := v13540) hS13591 (i := 0) rfl rfl (by kernel_rfl)) trivial ?_
  refine yq 4 [(16, Pt b13534 0), (13, V a1), (12, v13540), (8, Pt b13534 0), (0, Pt b13534 0), (2, V a2), (3, V a3)] ?_
  have lt13594 : b13534 < bs13589 := hlv13592.1 _ (List.mem_of_getElem? (i := 0) rfl) _ (by simp [Itm.ids])
  refine e_lookB rfl trivial rfl (by show b13534 < _; omega) (same1 (v := v13536) (RS.sim1 q13535)) (o_ldb (v := v13536) hS13591 (i := 0) rfl rfl (by kernel_rfl)) trivial ?_
  refine yq 1 [(18, V a2), (17, v13536), (13, V a1), (12, v13540), (8, Pt b13534 0), (0, Pt b13534 0), (3, V a3)] ?_
  obtain ⟨hc13595, hm⟩ := chk hm
  refine e_val rfl trivial (o_index rfl rfl (by kernel_rfl : slTy _ _ = some (csz api_Token)) (RS.based q13535 (by omega)) hc13595.1 hc13595.2) ?_
  refine yq 1 [(20, .pointer (some (elemA v13536 a2 (csz api_Token) 1))), (13, V a1), (12, v13540), (8, Pt b13534 0), (0, Pt b13534 0), (3, V a3)] ?_
  obtain ⟨x13596, hx13597, hm⟩ := obind hm
  obtain ⟨cs13598, hc13599, he13600⟩ := RS.elz q13535 (i := a2) hx13597
  obtain rfl := rc_api_Token hc13599
  refine e_lookZ rfl rfl trivial (fun h2 hz => o_lde (w := V x13596.From) (he13600 h2 hz) rfl (by kernel_rfl)) (hS13591.zin0 (Zle.refl _)) (same1 (v := V x13596.From) trivial) trivial ?_
  refine yq 3 [(24, Pt b13534 0), (21, V x13596.From), (13, V a1), (12, v13540), (8, Pt b13534 0), (3, V a3)] ?_
  have lt13602 : b13534 < bs13589 := hlv13592.1 _ (List.mem_of_getElem? (i := 0) rfl) _ (by simp [Itm.ids])
  refine e_lookB rfl trivial rfl (by show b13534 < _; omega) (same1 (v := v13536) (RS.sim1 q13535)) (o_ldb (v := v13536) hS13591 (i := 0) rfl rfl (by kernel_rfl)) trivial ?_
  refine yq 2 [(27, V (w64 (a3 - 1))), (25, v13536), (21, V x13596.From), (13, V a1), (12, v13540), (8, Pt b13534 0)] ?_
  obtain ⟨hc13603, hm⟩ := chk hm
  refine e_val rfl trivial (o_index rfl rfl (by kernel_rfl : slTy _ _ = some (csz api_Token)) (RS.based q13535 (by omega)) hc13603.1 hc13603.2) ?_
  refine yq 1 [(29, .pointer (some (elemA v13536 (w64 (a3 - 1)) (csz api_Token) 2))), (21, V x13596.From), (13, V a1), (12, v13540), (8, Pt b13534 0)] ?_
  obtain ⟨x13604, hx13605, hm⟩ := obind hm
  obtain ⟨cs13606, hc13607, he13608⟩ := RS.elz q13535 (i := w64 (a3 - 1)) hx13605
  obtain rfl := rc_api_Token hc13607
  refine e_lookZ rfl rfl trivial (fun h2 hz => o_lde (w := V x13604.To) (he13608 h2 hz) rfl (by kernel_rfl)) (hS13591.zin0 (Zle.refl _)) (same1 (v := V x13604.To) trivial) trivial ?_
  refine yq 1 [(31, .agg #[V a1, V x13596.From, V x13604.To]), (12, v13540), (8, Pt b13534 0)] ?_
  have q13613 : RCs (α := api_Diag) Z [V a1, V x13596.From, V x13604.To] [(⟨a1, x13596.From, x13604.To⟩ : api_Diag)] := RCs.cons (cs := [V a1, V x13596.From, V x13604.To]) rfl (RCs.nil0 _)
  refine e_row rfl trivial (o_bs (cells := [V a1, V x13596.From, V x13604.To]) (s := 3) (by kernel_rfl)) (by kernel_rfl) hS13591 (by omega) (Nat.add_lt_add_left (by decide) _) ?_
  intro v13610 h13611 b13614 eb13615 ec13616 hS13612
  replace hS13612 : St _ _ _ _ _ _ [.gs v13610 [V a1, V x13596.From, V x13604.To] (csz api_Diag), .blk b13534 (K58 v13536 v13538 v13540 a0), .gs v13540 c13541 (csz api_Diag)] := hS13612
  obtain ⟨hc13623, hm⟩ := chk hm
  have hF13624 : St _ _ _ _ _ _ ([.gs v13540 c13541 (csz api_Diag)] ++ [.gs v13610 [V a1, V x13596.From, V x13604.To] (csz api_Diag), .blk b13534 (K58 v13536 v13538 v13540 a0)]) := (hS13612.front 2 rfl)
  refine e_mk3 rfl trivial hF13624 (o_app (ys := [(⟨a1, x13596.From, x13604.To⟩ : api_Diag)]) (by_ := 24) hF13624.sub (i := 0) rfl q13539 ((hS13612.lown).gnews (j := 0) rfl q13613) rfl rfl (by kernel_rfl) (by omega) (by omega)) (Zle.refl _) (.keep trivial (.keep (hF13624.neB 1 rfl blk_mem) (.keep trivial (.keep (hF13624.neB 1 rfl blk_mem) (.keep (hF13624.neB 1 rfl blk_mem) .nil))))) ?_
  rintro v13618 c13619 h13620 ⟨q13622, hS13621⟩
  replace hS13621 : St _ _ _ _ _ _ [.gs v13618 c13619 (csz api_Diag), .gs v13610 [V a1, V x13596.From, V x13604.To] (csz api_Diag), .blk b13534 (K58 v13536 v13538 v13540 a0)] := hS13621
  refine yq 2 [(35, Pt b13534 3), (33, v13618)] ?_
  have hF13627 : St _ _ _ _ _ _ ([.blk b13534 (K58 v13536 v13538 v13540 a0)] ++ [.gs v13618 c13619 (csz api_Diag), .gs v13610 [V a1, V x13596.From, V x13604.To] (csz api_Diag)]) := (hS13621.front 2 rfl)
  refine e_mk1 rfl trivial hF13627 (o_stb (vs := [v13618]) (cells' := (K58 v13536 v13538 v13618 a0)) (L' := [.blk b13534 (K58 v13536 v13538 v13618 a0)]) hF13627.sub (i := 0) rfl rfl rfl (hS13621.gcell1 (i := 0) rfl) (by kernel_rfl) (one_cons (hS13621.gone1 (i := 0) rfl) one_nil) rfl rfl rfl) (Zle.refl _) (.keep trivial (.drop (by decide) (.keep trivial (.drop (by decide) (.drop (by decide) .nil))))) ?_
  intro h13625 hS13626
  refine yf [] ?_
  have hS13628 := hS13626.unres
  obtain rfl := Option.some.inj hm
  refine ⟨_, _, _, ResL.nil, (hS13628.takeN 2), ?_⟩
  exact ⟨v13536, v13538, v13618, c13619, rfl, rfl, q13535, q13537, q13622⟩

def r51_0 : List COp := [u 10 (.assign (ci 0))]
def r51_1 : List COp := [u 11 (.move (t 0)), u 12 (.move (t 1)), u 13 (.move (t 3)), u 14 (.move (t 4)), u 15 (cf 64 #[(t 11), (t 12), (t 13), (t 14)] #[55, 3, 3, 3])]
def r51_2 : List COp := [u 16 (.move (t 0)), u 17 (.move (t 2)), u 18 (.move (t 3)), u 19 (.move (t 4)), u 20 (cf 47 #[(t 16), (t 17), (ci 11), (t 18), (t 19)] #[55, 3, 3, 3, 3]), u 10 (.assign (t 20))]
def flow_reader_wrong (F : Nat) (a0 : flow_reader) (a1 : Int) (a2 : Int) (a3 : Int) (a4 : Int) : Option (Int × flow_reader) :=
  (flow_reader_tell F a0 a1 a3 a4).bind fun r13673 =>
  (flow_reader_add F r13673 a2 11 a3 a4).bind fun r13691 =>
  some (r13691.1, r13691.2)
theorem flow_reader_wrong_ok (F : Nat) {h : AH} {Z : Zn} {a0 : flow_reader} {a1 : Int} {a2 : Int} {a3 : Int} {a4 : Int} {b13526 : Nat} {v13528 : Value} {v13530 : Value} {v13532 : Value} {c13533 : List Value} (hP : Pre Z h [.blk b13526 (K58 v13528 v13530 v13532 a0), .gs v13532 c13533 (csz api_Diag)]) (q13527 : RS (α := api_Token) Z v13528 a0.l_) (q13529 : RS (α := api_Node) Z v13530 a0.t_.Nodes) (q13531 : RCs (α := api_Diag) Z c13533 a0.d_) {r : Int × flow_reader} (hm : flow_reader_wrong F a0 a1 a2 a3 a4 = some r) :
    ∃ v h' Z' A', callI Go.Proofs.Try.prog 51 [Pt b13526 0, V a1, V a2, V a3, V a4] h = some (v, h') ∧ St h (idsL [.blk b13526 (K58 v13528 v13530 v13532 a0), .gs v13532 c13533 (csz api_Diag)]) Z (0, 0) Z' h' A' ∧ ∃ v13666 : Value, ∃ v13668 : Value, ∃ c13669 : List Value, ∃ v13671 : Value, ∃ c13672 : List Value, V r.1 = v ∧ A' = [.blk b13526 (K58 v13666 v13668 v13671 r.2), .gs v13668 c13669 (csz api_Node), .gs v13671 c13672 (csz api_Diag)] ∧ RS (α := api_Token) Z' v13666 r.2.l_ ∧ RCs (α := api_Node) Z' c13669 r.2.t_.Nodes ∧ RCs (α := api_Diag) Z' c13672 r.2.d_ := by
  refine fn_intro (A := [.blk b13526 (K58 v13528 v13530 v13532 a0), .gs v13532 c13533 (csz api_Diag)]) (Q := fun v Z' A' => ∃ v13666 : Value, ∃ v13668 : Value, ∃ c13669 : List Value, ∃ v13671 : Value, ∃ c13672 : List Value, V r.1 = v ∧ A' = [.blk b13526 (K58 v13666 v13668 v13671 r.2), .gs v13668 c13669 (csz api_Node), .gs v13671 c13672 (csz api_Diag)] ∧ RS (α := api_Token) Z' v13666 r.2.l_ ∧ RCs (α := api_Node) Z' c13669 r.2.t_.Nodes ∧ RCs (α := api_Diag) Z' c13672 r.2.d_) Go.Proofs.Try.func51 rfl rfl (by kernel_rfl) hP ?_
  intro hs hS
  unfold flow_reader_wrong at hm
  refine sr r51_0 ?_
  refine xe 1 [(0, Pt b13526 0), (1, V a1), (2, V a2), (3, V a3), (4, V a4)] ?_
  refine sr r51_1 ?_
  refine xq 4 [(14, V a4), (13, V a3), (12, V a1), (11, Pt b13526 0), (0, Pt b13526 0), (2, V a2), (3, V a3), (4, V a4)] ?_
  obtain ⟨r13673, hx13674, hm⟩ := obind hm
  have hF13680 : St _ _ _ _ _ _ ([.blk b13526 (K58 v13528 v13530 v13532 a0), .gs v13532 c13533 (csz api_Diag)] ++ []) := ((hS.front 1 rfl).front 1 rfl)
  obtain ⟨v13675, h13676, Z13681, A13683, hcl13677, hSc13678, v13685, v13687, v13689, c13690, rfl, rfl, q13684, q13686, q13688⟩ := flow_reader_tell_ok F hF13680.preL q13527 q13529 q13531 hx13674
  have hZ13682 := hSc13678.zle
  have hS13679 := hF13680.call hSc13678
  replace hS13679 : St _ _ _ _ _ _ [.blk b13526 (K58 v13685 v13687 v13689 r13673), .gs v13689 c13690 (csz api_Diag)] := hS13679
  refine r_step rfl trivial (o_call hcl13677 rfl rfl rfl) ?_
  refine xf [(0, Pt b13526 0), (2, V a2), (3, V a3), (4, V a4)] ?_
  refine sr r51_2 ?_
  refine xq 4 [(19, V a4), (18, V a3), (17, V a2), (16, Pt b13526 0)] ?_
  obtain ⟨r13691, hx13692, hm⟩ := obind hm
  have hF13698 : St _ _ _ _ _ _ ([.blk b13526 (K58 v13685 v13687 v13689 r13673), .gs v13689 c13690 (csz api_Diag)] ++ []) := ((hS13679.front 1 rfl).front 1 rfl)
  obtain ⟨v13693, h13694, Z13699, A13701, hcl13695, hSc13696, v13703, v13705, c13706, c13708, rfl, rfl, q13702, q13704, q13707⟩ := flow_reader_add_ok F hF13698.preL q13684 q13686 q13688 hx13692
  have hZ13700 := hSc13696.zle
  have hS13697 := hF13698.call hSc13696
  replace hS13697 : St _ _ _ _ _ _ [.blk b13526 (K58 v13703 v13705 v13689 r13691.2), .gs v13705 c13706 (csz api_Node), .gs v13689 c13708 (csz api_Diag)] := hS13697
  refine r_step rfl trivial (o_call hcl13695 rfl rfl rfl) ?_
  refine xe 1 [(10, V r13691.1)] ?_
  refine rt ?_
  refine ⟨rfl, ?_⟩
  obtain rfl := Option.some.inj hm
  refine ⟨_, _, _, ResL.tmp rfl (ResL.nil), hS13697, ?_⟩
  exact ⟨v13703, v13705, c13706, v13689, c13708, rfl, rfl, q13702, q13704, q13707⟩

def r65_0 : List COp := [u 4 (.assign (ci 0))]
def r65_1 : List COp := [u 6 (.move (t 0)), u 7 (.move (t 1)), u 8 (cf 46 #[(t 6), (t 7)] #[55, 3]), u 5 (.assign (t 8))]
def r65_2 : List COp := [u 9 (.move (t 5)), u 10 (.binOp .neq 3 (t 9) (ci 0) 3), u 11 (.move (t 10)), gT 11 (some 12) (.move (t 5)), gT 11 (some 13) (cf 60 #[(t 12)] #[3]), gT 11 (some 14) (.unOp .not 4 (t 13)), u 15 (.pick (t 11) (t 14) (.const (.bool false)))]
def r65_3 : List COp := [u 16 (.move (t 0)), u 17 (.move (t 1)), u 18 (cf 46 #[(t 16), (t 17)] #[55, 3]), u 5 (.assign (t 18))]
def r65_4 : List COp := [u 19 (.move (t 1)), u 20 (.binOp .add 3 (t 19) (ci 1) 3), u 1 (.assign (t 20))]
def r65_5 : List COp := [u 21 (.move (t 1)), u 4 (.assign (t 21))]
def flow_reader_past_l0 (F : Nat) (a0 : flow_reader) (a1 : Int) : Nat → Int → Int → Option Int
  | 0, _, _ => none
  | n + 1, x14000, x14001 =>
    if x14001 = (0 : Int) then
      some x14000
    else
      (flow_counts F x14001).bind fun r14024 =>
      if r14024 = true then
        some x14000
      else
        (flow_reader_kind F a0 (w64 (x14000 + 1))).bind fun r14032 =>
        flow_reader_past_l0 F a0 a1 n (w64 (x14000 + 1)) r14032
def flow_reader_past (F : Nat) (a0 : flow_reader) (a1 : Int) : Option Int :=
  (flow_reader_kind F a0 a1).bind fun r13901 =>
  ((flow_reader_past_l0 F a0 a1 F a1 r13901) : Option Int).bind fun o => match o with
    | x14045 => some x14045
theorem flow_reader_past_ok (F : Nat) {h : AH} {Z : Zn} {a0 : flow_reader} {a1 : Int} {b13793 : Nat} {v13795 : Value} {v13797 : Value} {v13799 : Value} {c13800 : List Value} (hP : Pre Z h [.blk b13793 (K58 v13795 v13797 v13799 a0), .gs v13799 c13800 (csz api_Diag)]) (q13794 : RS (α := api_Token) Z v13795 a0.l_) (q13796 : RS (α := api_Node) Z v13797 a0.t_.Nodes) (q13798 : RCs (α := api_Diag) Z c13800 a0.d_) {r : Int} (hm : flow_reader_past F a0 a1 = some r) :
    ∃ v h' Z' A', callI Go.Proofs.Try.prog 65 [Pt b13793 0, V a1] h = some (v, h') ∧ St h (idsL [.blk b13793 (K58 v13795 v13797 v13799 a0), .gs v13799 c13800 (csz api_Diag)]) Z (0, 0) Z' h' A' ∧ V r = v ∧ A' = [.blk b13793 (K58 v13795 v13797 v13799 a0), .gs v13799 c13800 (csz api_Diag)] := by
  refine fn_intro (A := [.blk b13793 (K58 v13795 v13797 v13799 a0), .gs v13799 c13800 (csz api_Diag)]) (Q := fun v Z' A' => V r = v ∧ A' = [.blk b13793 (K58 v13795 v13797 v13799 a0), .gs v13799 c13800 (csz api_Diag)]) Go.Proofs.Try.func65 rfl rfl (by kernel_rfl) hP ?_
  intro hs hS
  unfold flow_reader_past at hm
  refine sr r65_0 ?_
  refine xe 1 [(0, Pt b13793 0), (1, V a1)] ?_
  refine sq ?_
  refine sr r65_1 ?_
  refine xq 2 [(7, V a1), (6, Pt b13793 0), (0, Pt b13793 0), (1, V a1)] ?_
  obtain ⟨r13901, hx13902, hm⟩ := obind hm
  have hF13908 : St _ _ _ _ _ _ ([.blk b13793 (K58 v13795 v13797 v13799 a0), .gs v13799 c13800 (csz api_Diag)] ++ []) := ((hS.front 1 rfl).front 1 rfl)
  obtain ⟨v13903, h13904, Z13909, A13911, hcl13905, hSc13906, rfl, rfl⟩ := flow_reader_kind_ok F hF13908.preL q13794 q13796 q13798 hx13902
  have hZ13910 := hSc13906.zle
  have hS13907 := hF13908.call hSc13906
  replace hS13907 : St _ _ _ _ _ _ [.blk b13793 (K58 v13795 v13797 v13799 a0), .gs v13799 c13800 (csz api_Diag)] := hS13907
  refine r_step rfl trivial (o_call hcl13905 rfl rfl rfl) ?_
  refine xe 1 [(5, V r13901), (0, Pt b13793 0), (1, V a1)] ?_
  obtain ⟨o13998, ho13997, hm⟩ := obind hm
  refine W_join [1] (fun l h => ∃ Z14044 : Zn, ∃ x14045 : Int, x14045 = o13998 ∧ l = [(1, V x14045)] ∧ St hs (idsL [.blk b13793 (K58 v13795 v13797 v13799 a0), .gs v13799 c13800 (csz api_Diag)]) Z (0, 0) Z14044 h [.blk b13793 (K58 v13795 v13797 v13799 a0), .gs v13799 c13800 (csz api_Diag)]) ?_ ?_
  rintro l h14046 ⟨Z14044, x14045, rfl, rfl, hS14047⟩
  try dsimp only at hm
  refine sr r65_5 ?_
  refine xe 2 [(4, V x14045)] ?_
  refine rt ?_
  refine ⟨rfl, ?_⟩
  obtain rfl := Option.some.inj hm
  refine ⟨_, _, _, ResL.tmp rfl (ResL.nil), hS14047, ?_⟩
  exact ⟨rfl, rfl⟩
  refine bk 0 ?_
  refine lp [0, 1, 5] (fun n l h => ∃ Z13999 : Zn, ∃ x14000 : Int, ∃ x14001 : Int, flow_reader_past_l0 F a0 a1 n x14000 x14001 = some o13998 ∧ l = [(0, Pt b13793 0), (1, V x14000), (5, V x14001)] ∧ St hs (idsL [.blk b13793 (K58 v13795 v13797 v13799 a0), .gs v13799 c13800 (csz api_Diag)]) Z (0, 0) Z13999 h [.blk b13793 (K58 v13795 v13797 v13799 a0), .gs v13799 c13800 (csz api_Diag)]) F ⟨_, a1, r13901, ho13997, rfl, hS13907⟩ ?_
  rintro n14004 l h14002 ⟨Z13999, x14000, x14001, ho13997, rfl, hS14003⟩
  rcases n14004 with _ | n14004
  cases (show none = some o13998 from ho13997)
  rw [flow_reader_past_l0] at ho13997
  refine sq ?_
  refine sr r65_2 ?_
  refine xq 1 [(9, V x14001), (0, Pt b13793 0), (1, V x14000), (5, V x14001)] ?_
  rcases ifs ho13997 with ⟨hp14023, ho13997⟩ | ⟨hp14023, ho13997⟩
  refine r_step rfl trivial (o_cmp rfl rfl (c_neq_F hp14023)) ?_
  refine xe 5 [(15, .bool false), (0, Pt b13793 0), (1, V x14000)] ?_
  refine cF 15 rfl ?_
  refine xt 0 ?_
  refine blkX_hit ?_
  obtain rfl := Option.some.inj ho13997
  exact ⟨_, x14000, rfl, rfl, hS14003⟩
  refine r_step rfl trivial (o_cmp rfl rfl (c_neq_T hp14023)) ?_
  refine xq 2 [(12, V x14001), (11, .bool true), (0, Pt b13793 0), (1, V x14000)] ?_
  obtain ⟨r14024, hx14025, ho13997⟩ := obind ho13997
  obtain ⟨v14026, h14027, hcl14028, hSc14029, rfl⟩ := flow_counts_ok F hS14003.inv  hx14025
  have hS14030 := St.call (A := []) (B := [.blk b13793 (K58 v13795 v13797 v13799 a0), .gs v13799 c13800 (csz api_Diag)]) hS14003 hSc14029
  replace hS14030 : St _ _ _ _ _ _ [.blk b13793 (K58 v13795 v13797 v13799 a0), .gs v13799 c13800 (csz api_Diag)] := hS14030
  refine r_step rfl rfl (o_call hcl14028 rfl rfl rfl) ?_
  rcases ifs ho13997 with ⟨hp14031, ho13997⟩ | ⟨hp14031, ho13997⟩
  refine r_setb (t := 13) rfl hp14031 ?_
  refine xe 2 [(15, .bool false), (0, Pt b13793 0), (1, V x14000)] ?_
  refine cF 15 rfl ?_
  refine xt 0 ?_
  refine blkX_hit ?_
  obtain rfl := Option.some.inj ho13997
  exact ⟨_, x14000, rfl, rfl, hS14030⟩
  refine r_setb (t := 13) rfl (Bool.eq_false_iff.2 hp14031) ?_
  refine xe 2 [(15, .bool true), (0, Pt b13793 0), (1, V x14000)] ?_
  refine kT 15 rfl ?_
  refine sq ?_
  refine bk 1 ?_
  refine rg r65_4 ?_
  refine xe 3 [(1, V (w64 (x14000 + 1))), (0, Pt b13793 0)] ?_
  refine rg r65_3 ?_
  refine xq 2 [(17, V (w64 (x14000 + 1))), (16, Pt b13793 0), (1, V (w64 (x14000 + 1))), (0, Pt b13793 0)] ?_
  obtain ⟨r14032, hx14033, ho13997⟩ := obind ho13997
  have hF14039 : St _ _ _ _ _ _ ([.blk b13793 (K58 v13795 v13797 v13799 a0), .gs v13799 c13800 (csz api_Diag)] ++ []) := ((hS14030.front 1 rfl).front 1 rfl)
  obtain ⟨v14034, h14035, Z14040, A14042, hcl14036, hSc14037, rfl, rfl⟩ := flow_reader_kind_ok F hF14039.preL (q13794.mono hS14003.zle) (q13796.mono hS14003.zle) (q13798.mono hS14003.zle) hx14033
  have hZ14041 := hSc14037.zle
  have hS14038 := hF14039.call hSc14037
  replace hS14038 : St _ _ _ _ _ _ [.blk b13793 (K58 v13795 v13797 v13799 a0), .gs v13799 c13800 (csz api_Diag)] := hS14038
  refine r_step rfl trivial (o_call hcl14036 rfl rfl rfl) ?_
  refine xe 1 [(5, V r14032), (1, V (w64 (x14000 + 1))), (0, Pt b13793 0)] ?_
  exact ⟨n14004, Nat.lt_succ_self _, ⟨_, w64 (x14000 + 1), r14032, ho13997, rfl, hS14038⟩⟩

def r71_0 : List COp := [u 2 (.assign (.const (.bool false)))]
def r71_1 : List COp := [u 3 (.move (t 0))]
def r71_2 : List COp := [u 5 (.binOp .eql 3 (t 3) (ci 15) 3), u 4 (.assign (t 5))]
def r71_3 : List COp := [u 6 (.binOp .eql 3 (t 3) (ci 16) 3), u 4 (.assign (t 6))]
def r71_4 : List COp := [u 7 (.binOp .eql 3 (t 3) (ci 17) 3), u 4 (.assign (t 7))]
def r71_5 : List COp := [u 8 (.binOp .eql 3 (t 3) (ci 13) 3), u 4 (.assign (t 8))]
def r71_6 : List COp := [u 2 (.assign (.const (.bool true)))]
def r71_7 : List COp := [u 2 (.assign (.const (.bool false)))]
def flow_name (F : Nat) (a0 : Int) : Option Bool :=
  ((if a0 = (15 : Int) then
      some true
    else
      if a0 = (16 : Int) then
        some true
      else
        if a0 = (17 : Int) then
          some true
        else
          if a0 = (13 : Int) then
            some true
          else
            some false) : Option Bool).bind fun o => match o with
    | x14244 => if x14244 = true then
      some true
    else
      some false
theorem flow_name_ok (F : Nat) {h : AH} {Z : Zn} {a0 : Int} (hI : Inv Z h) {r : Bool} (hm : flow_name F a0 = some r) :
    ∃ v h', callI Go.Proofs.Try.prog 71 [V a0] h = some (v, h') ∧ St h [] Z (0, 0) Z h' [] ∧ v = .bool r := by
  refine fn_plain (Q := fun v => v = .bool r) Go.Proofs.Try.func71 rfl rfl hI ?_
  intro hs hS
  unfold flow_name at hm
  refine sr r71_0 ?_
  refine xe 1 [(0, V a0)] ?_
  refine sq ?_
  refine sr r71_1 ?_
  refine xe 1 [(3, V a0)] ?_
  refine bk 0 ?_
  refine sq ?_
  obtain ⟨o14238, ho14237, hm⟩ := obind hm
  refine W_join [4] (fun l h => ∃ Z14243 : Zn, ∃ x14244 : Bool, x14244 = o14238 ∧ l = [(4, .bool x14244)] ∧ St hs [] Z (0, 0) Z14243 h []) ?_ ?_
  rintro l h14245 ⟨Z14243, x14244, rfl, rfl, hS14246⟩
  try dsimp only at hm
  rcases ifs hm with ⟨hp14248, hm⟩ | ⟨hp14248, hm⟩
  refine W_condT (x := .tmp 4) (by kernel_rfl) rfl hp14248 ?_
  refine sr r71_6 ?_
  refine xe 1 [(2, .bool true)] ?_
  refine rt ?_
  refine blkX_ret ?_
  refine ⟨rfl, ?_⟩
  obtain rfl := Option.some.inj hm
  refine ⟨_, _, _, ResL.tmp rfl (ResL.nil), hS14246, ?_⟩
  exact rfl
  refine W_condF (x := .tmp 4) (by kernel_rfl) rfl (Bool.eq_false_iff.2 hp14248) ?_
  refine sk ?_
  refine sr r71_7 ?_
  refine xe 1 [(2, .bool false)] ?_
  refine rt ?_
  refine ⟨rfl, ?_⟩
  obtain rfl := Option.some.inj hm
  refine ⟨_, _, _, ResL.tmp rfl (ResL.nil), hS14246, ?_⟩
  exact rfl
  refine sr r71_2 ?_
  rcases ifs ho14237 with ⟨hp14239, ho14237⟩ | ⟨hp14239, ho14237⟩
  refine r_step rfl trivial (o_cmp rfl rfl (c_eql_T hp14239)) ?_
  refine xe 1 [(4, .bool true), (3, V a0)] ?_
  refine kT 4 rfl ?_
  obtain rfl := Option.some.inj ho14237
  exact ⟨_, true, rfl, rfl, hS⟩
  refine r_step rfl trivial (o_cmp rfl rfl (c_eql_F hp14239)) ?_
  refine xe 1 [(4, .bool false), (3, V a0)] ?_
  refine cF 4 rfl ?_
  refine sr r71_3 ?_
  rcases ifs ho14237 with ⟨hp14240, ho14237⟩ | ⟨hp14240, ho14237⟩
  refine r_step rfl trivial (o_cmp rfl rfl (c_eql_T hp14240)) ?_
  refine xe 1 [(4, .bool true), (3, V a0)] ?_
  refine kT 4 rfl ?_
  obtain rfl := Option.some.inj ho14237
  exact ⟨_, true, rfl, rfl, hS⟩
  refine r_step rfl trivial (o_cmp rfl rfl (c_eql_F hp14240)) ?_
  refine xe 1 [(4, .bool false), (3, V a0)] ?_
  refine cF 4 rfl ?_
  refine sr r71_4 ?_
  rcases ifs ho14237 with ⟨hp14241, ho14237⟩ | ⟨hp14241, ho14237⟩
  refine r_step rfl trivial (o_cmp rfl rfl (c_eql_T hp14241)) ?_
  refine xe 1 [(4, .bool true), (3, V a0)] ?_
  refine kT 4 rfl ?_
  obtain rfl := Option.some.inj ho14237
  exact ⟨_, true, rfl, rfl, hS⟩
  refine r_step rfl trivial (o_cmp rfl rfl (c_eql_F hp14241)) ?_
  refine xe 1 [(4, .bool false), (3, V a0)] ?_
  refine cF 4 rfl ?_
  refine rg r71_5 ?_
  rcases ifs ho14237 with ⟨hp14242, ho14237⟩ | ⟨hp14242, ho14237⟩
  refine r_step rfl trivial (o_cmp rfl rfl (c_eql_T hp14242)) ?_
  refine xe 1 [(4, .bool true)] ?_
  obtain rfl := Option.some.inj ho14237
  exact ⟨_, true, rfl, rfl, hS⟩
  refine r_step rfl trivial (o_cmp rfl rfl (c_eql_F hp14242)) ?_
  refine xe 1 [(4, .bool false)] ?_
  obtain rfl := Option.some.inj ho14237
  exact ⟨_, false, rfl, rfl, hS⟩

def r66_0 : List COp := [u 4 (.assign (ci 0))]
def r66_1 : List COp := [u 6 (.move (t 1)), u 5 (.assign (t 6))]
def r66_2 : List COp := [u 7 (.move (t 0)), u 8 (.move (t 5)), u 9 (cf 46 #[(t 7), (t 8)] #[55, 3]), u 10 (cf 45 #[(t 9)] #[3])]
def r66_3 : List COp := [u 11 (.move (t 0)), u 12 (.move (t 5)), u 13 (.binOp .add 3 (t 12) (ci 1) 3), u 14 (cf 65 #[(t 11), (t 13)] #[55, 3]), u 5 (.assign (t 14))]
def r66_4 : List COp := [u 15 (.move (t 0)), u 16 (.move (t 5)), u 17 (cf 46 #[(t 15), (t 16)] #[55, 3]), u 18 (cf 71 #[(t 17)] #[3])]
def r66_5 : List COp := [u 19 (.move (t 0)), u 20 (.move (t 5)), u 21 (.binOp .add 3 (t 20) (ci 1) 3), u 22 (cf 65 #[(t 19), (t 21)] #[55, 3]), u 5 (.assign (t 22))]
def r66_6 : List COp := [u 23 (.move (t 0)), u 24 (.move (t 5)), u 25 (cf 46 #[(t 23), (t 24)] #[55, 3]), u 26 (.binOp .eql 3 (t 25) (ci 6) 3)]
def r66_7 : List COp := [u 27 (.move (t 5)), u 4 (.assign (t 27))]
def r66_8 : List COp := [u 4 (.assign (ci (-1)))]
def flow_reader_key_l0 (F : Nat) (a0 : flow_reader) (a1 : Int) : Nat → Int → Option Int
  | 0, _ => none
  | n + 1, x14407 =>
    (flow_reader_kind F a0 x14407).bind fun r14430 =>
    (flow_property F r14430).bind fun r14441 =>
    if r14441 = true then
      (flow_reader_past F a0 (w64 (x14407 + 1))).bind fun r14450 =>
      flow_reader_key_l0 F a0 a1 n r14450
    else
      some x14407
def flow_reader_key (F : Nat) (a0 : flow_reader) (a1 : Int) : Option Int :=
  ((flow_reader_key_l0 F a0 a1 F a1) : Option Int).bind fun o => match o with
    | x14463 => (((flow_reader_kind F a0 x14463).bind fun r14498 =>
      (flow_name F r14498).bind fun r14509 =>
      if r14509 = true then
        (flow_reader_past F a0 (w64 (x14463 + 1))).bind fun r14517 =>
        some r14517
      else
        some x14463) : Option Int).bind fun o => match o with
      | x14529 => (flow_reader_kind F a0 x14529).bind fun r14544 =>
      if r14544 = (6 : Int) then
        some x14529
      else
        some (-1)
theorem flow_reader_key_ok (F : Nat) {h : AH} {Z : Zn} {a0 : flow_reader} {a1 : Int} {b14075 : Nat} {v14077 : Value} {v14079 : Value} {v14081 : Value} {c14082 : List Value} (hP : Pre Z h [.blk b14075 (K58 v14077 v14079 v14081 a0), .gs v14081 c14082 (csz api_Diag)]) (q14076 : RS (α := api_Token) Z v14077 a0.l_) (q14078 : RS (α := api_Node) Z v14079 a0.t_.Nodes) (q14080 : RCs (α := api_Diag) Z c14082 a0.d_) {r : Int} (hm : flow_reader_key F a0 a1 = some r) :
    ∃ v h' Z' A', callI Go.Proofs.Try.prog 66 [Pt b14075 0, V a1] h = some (v, h') ∧ St h (idsL [.blk b14075 (K58 v14077 v14079 v14081 a0), .gs v14081 c14082 (csz api_Diag)]) Z (0, 0) Z' h' A' ∧ V r = v ∧ A' = [.blk b14075 (K58 v14077 v14079 v14081 a0), .gs v14081 c14082 (csz api_Diag)] := by
  refine fn_intro (A := [.blk b14075 (K58 v14077 v14079 v14081 a0), .gs v14081 c14082 (csz api_Diag)]) (Q := fun v Z' A' => V r = v ∧ A' = [.blk b14075 (K58 v14077 v14079 v14081 a0), .gs v14081 c14082 (csz api_Diag)]) Go.Proofs.Try.func66 rfl rfl (by kernel_rfl) hP ?_
  intro hs hS
  unfold flow_reader_key at hm
  refine sr r66_0 ?_
  refine xe 1 [(0, Pt b14075 0), (1, V a1)] ?_
  refine sr r66_1 ?_
  refine xe 2 [(5, V a1), (0, Pt b14075 0)] ?_
  refine sq ?_
  obtain ⟨o14405, ho14404, hm⟩ := obind hm
  refine W_join [0, 5] (fun l h => ∃ Z14462 : Zn, ∃ x14463 : Int, x14463 = o14405 ∧ l = [(0, Pt b14075 0), (5, V x14463)] ∧ St hs (idsL [.blk b14075 (K58 v14077 v14079 v14081 a0), .gs v14081 c14082 (csz api_Diag)]) Z (0, 0) Z14462 h [.blk b14075 (K58 v14077 v14079 v14081 a0), .gs v14081 c14082 (csz api_Diag)]) ?_ ?_
  rintro l h14464 ⟨Z14462, x14463, rfl, rfl, hS14465⟩
  try dsimp only at hm
  refine sq ?_
  obtain ⟨o14497, ho14496, hm⟩ := obind hm
  refine W_join [0, 5] (fun l h => ∃ Z14528 : Zn, ∃ x14529 : Int, x14529 = o14497 ∧ l = [(0, Pt b14075 0), (5, V x14529)] ∧ St hs (idsL [.blk b14075 (K58 v14077 v14079 v14081 a0), .gs v14081 c14082 (csz api_Diag)]) Z (0, 0) Z14528 h [.blk b14075 (K58 v14077 v14079 v14081 a0), .gs v14081 c14082 (csz api_Diag)]) ?_ ?_
  rintro l h14530 ⟨Z14528, x14529, rfl, rfl, hS14531⟩
  try dsimp only at hm
  refine sq ?_
  refine sr r66_6 ?_
  refine xq 2 [(24, V x14529), (23, Pt b14075 0), (5, V x14529)] ?_
  obtain ⟨r14544, hx14545, hm⟩ := obind hm
  have hF14551 : St _ _ _ _ _ _ ([.blk b14075 (K58 v14077 v14079 v14081 a0), .gs v14081 c14082 (csz api_Diag)] ++ []) := ((hS14531.front 1 rfl).front 1 rfl)
  obtain ⟨v14546, h14547, Z14552, A14554, hcl14548, hSc14549, rfl, rfl⟩ := flow_reader_kind_ok F hF14551.preL (q14076.mono hS14531.zle) (q14078.mono hS14531.zle) (q14080.mono hS14531.zle) hx14545
  have hZ14553 := hSc14549.zle
  have hS14550 := hF14551.call hSc14549
  replace hS14550 : St _ _ _ _ _ _ [.blk b14075 (K58 v14077 v14079 v14081 a0), .gs v14081 c14082 (csz api_Diag)] := hS14550
  refine r_step rfl trivial (o_call hcl14548 rfl rfl rfl) ?_
  rcases ifs hm with ⟨hp14555, hm⟩ | ⟨hp14555, hm⟩
  refine r_step rfl trivial (o_cmp rfl rfl (c_eql_T hp14555)) ?_
  refine xf [(26, .bool true), (5, V x14529)] ?_
  refine cT 26 rfl ?_
  refine sr r66_7 ?_
  refine xe 2 [(4, V x14529)] ?_
  refine rt ?_
  refine ⟨rfl, ?_⟩
  obtain rfl := Option.some.inj hm
  refine ⟨_, _, _, ResL.tmp rfl (ResL.nil), hS14550, ?_⟩
  exact ⟨rfl, rfl⟩
  refine r_step rfl trivial (o_cmp rfl rfl (c_eql_F hp14555)) ?_
  refine xf [(26, .bool false), (5, V x14529)] ?_
  refine kF 26 rfl ?_
  refine sr r66_8 ?_
  refine xe 1 [(4, V (-1))] ?_
  refine rt ?_
  refine ⟨rfl, ?_⟩
  obtain rfl := Option.some.inj hm
  refine ⟨_, _, _, ResL.tmp rfl (ResL.nil), hS14550, ?_⟩
  exact ⟨rfl, rfl⟩
  refine sr r66_4 ?_
  refine xq 2 [(16, V x14463), (15, Pt b14075 0), (0, Pt b14075 0), (5, V x14463)] ?_
  obtain ⟨r14498, hx14499, ho14496⟩ := obind ho14496
  have hF14505 : St _ _ _ _ _ _ ([.blk b14075 (K58 v14077 v14079 v14081 a0), .gs v14081 c14082 (csz api_Diag)] ++ []) := ((hS14465.front 1 rfl).front 1 rfl)
  obtain ⟨v14500, h14501, Z14506, A14508, hcl14502, hSc14503, rfl, rfl⟩ := flow_reader_kind_ok F hF14505.preL (q14076.mono hS14465.zle) (q14078.mono hS14465.zle) (q14080.mono hS14465.zle) hx14499
  have hZ14507 := hSc14503.zle
  have hS14504 := hF14505.call hSc14503
  replace hS14504 : St _ _ _ _ _ _ [.blk b14075 (K58 v14077 v14079 v14081 a0), .gs v14081 c14082 (csz api_Diag)] := hS14504
  refine r_step rfl trivial (o_call hcl14502 rfl rfl rfl) ?_
  obtain ⟨r14509, hx14510, ho14496⟩ := obind ho14496
  obtain ⟨v14511, h14512, hcl14513, hSc14514, rfl⟩ := flow_name_ok F hS14504.inv  hx14510
  have hS14515 := St.call (A := []) (B := [.blk b14075 (K58 v14077 v14079 v14081 a0), .gs v14081 c14082 (csz api_Diag)]) hS14504 hSc14514
  replace hS14515 : St _ _ _ _ _ _ [.blk b14075 (K58 v14077 v14079 v14081 a0), .gs v14081 c14082 (csz api_Diag)] := hS14515
  refine r_step rfl trivial (o_call hcl14513 rfl rfl rfl) ?_
  refine xf [(18, .bool r14509), (0, Pt b14075 0), (5, V x14463)] ?_
  rcases ifs ho14496 with ⟨hp14516, ho14496⟩ | ⟨hp14516, ho14496⟩
  refine W_condT (x := .tmp 18) (by kernel_rfl) rfl hp14516 ?_
  refine rg r66_5 ?_
  refine xq 3 [(21, V (w64 (x14463 + 1))), (19, Pt b14075 0), (0, Pt b14075 0), (5, V x14463)] ?_
  obtain ⟨r14517, hx14518, ho14496⟩ := obind ho14496
  have hF14524 : St _ _ _ _ _ _ ([.blk b14075 (K58 v14077 v14079 v14081 a0), .gs v14081 c14082 (csz api_Diag)] ++ []) := ((hS14515.front 1 rfl).front 1 rfl)
  obtain ⟨v14519, h14520, Z14525, A14527, hcl14521, hSc14522, rfl, rfl⟩ := flow_reader_past_ok F hF14524.preL (q14076.mono (hS14465.zle.trans hZ14507)) (q14078.mono (hS14465.zle.trans hZ14507)) (q14080.mono (hS14465.zle.trans hZ14507)) hx14518
  have hZ14526 := hSc14522.zle
  have hS14523 := hF14524.call hSc14522
  replace hS14523 : St _ _ _ _ _ _ [.blk b14075 (K58 v14077 v14079 v14081 a0), .gs v14081 c14082 (csz api_Diag)] := hS14523
  refine r_step rfl trivial (o_call hcl14521 rfl rfl rfl) ?_
  refine xe 1 [(5, V r14517), (0, Pt b14075 0)] ?_
  obtain rfl := Option.some.inj ho14496
  exact ⟨_, r14517, rfl, rfl, hS14523⟩
  refine W_condF (x := .tmp 18) (by kernel_rfl) rfl (Bool.eq_false_iff.2 hp14516) ?_
  refine sk ?_
  obtain rfl := Option.some.inj ho14496
  exact ⟨_, x14463, rfl, rfl, hS14515⟩
  refine bk 0 ?_
  refine lp [0, 5] (fun n l h => ∃ Z14406 : Zn, ∃ x14407 : Int, flow_reader_key_l0 F a0 a1 n x14407 = some o14405 ∧ l = [(0, Pt b14075 0), (5, V x14407)] ∧ St hs (idsL [.blk b14075 (K58 v14077 v14079 v14081 a0), .gs v14081 c14082 (csz api_Diag)]) Z (0, 0) Z14406 h [.blk b14075 (K58 v14077 v14079 v14081 a0), .gs v14081 c14082 (csz api_Diag)]) F ⟨_, a1, ho14404, rfl, hS⟩ ?_
  rintro n14410 l h14408 ⟨Z14406, x14407, ho14404, rfl, hS14409⟩
  rcases n14410 with _ | n14410
  cases (show none = some o14405 from ho14404)
  rw [flow_reader_key_l0] at ho14404
  refine sq ?_
  refine sr r66_2 ?_
  refine xq 2 [(8, V x14407), (7, Pt b14075 0), (0, Pt b14075 0), (5, V x14407)] ?_
  obtain ⟨r14430, hx14431, ho14404⟩ := obind ho14404
  have hF14437 : St _ _ _ _ _ _ ([.blk b14075 (K58 v14077 v14079 v14081 a0), .gs v14081 c14082 (csz api_Diag)] ++ []) := ((hS14409.front 1 rfl).front 1 rfl)
  obtain ⟨v14432, h14433, Z14438, A14440, hcl14434, hSc14435, rfl, rfl⟩ := flow_reader_kind_ok F hF14437.preL (q14076.mono hS14409.zle) (q14078.mono hS14409.zle) (q14080.mono hS14409.zle) hx14431
  have hZ14439 := hSc14435.zle
  have hS14436 := hF14437.call hSc14435
  replace hS14436 : St _ _ _ _ _ _ [.blk b14075 (K58 v14077 v14079 v14081 a0), .gs v14081 c14082 (csz api_Diag)] := hS14436
  refine r_step rfl trivial (o_call hcl14434 rfl rfl rfl) ?_
  obtain ⟨r14441, hx14442, ho14404⟩ := obind ho14404
  obtain ⟨v14443, h14444, hcl14445, hSc14446, rfl⟩ := flow_property_ok F hS14436.inv  hx14442
  have hS14447 := St.call (A := []) (B := [.blk b14075 (K58 v14077 v14079 v14081 a0), .gs v14081 c14082 (csz api_Diag)]) hS14436 hSc14446
  replace hS14447 : St _ _ _ _ _ _ [.blk b14075 (K58 v14077 v14079 v14081 a0), .gs v14081 c14082 (csz api_Diag)] := hS14447
  refine r_step rfl trivial (o_call hcl14445 rfl rfl rfl) ?_
  refine xf [(10, .bool r14441), (0, Pt b14075 0), (5, V x14407)] ?_
  rcases ifs ho14404 with ⟨hp14449, ho14404⟩ | ⟨hp14449, ho14404⟩
  refine W_condT (x := .tmp 10) (by kernel_rfl) rfl hp14449 ?_
  refine sk ?_
  refine bk 1 ?_
  refine rg r66_3 ?_
  refine xq 3 [(13, V (w64 (x14407 + 1))), (11, Pt b14075 0), (0, Pt b14075 0), (5, V x14407)] ?_
  obtain ⟨r14450, hx14451, ho14404⟩ := obind ho14404
  have hF14457 : St _ _ _ _ _ _ ([.blk b14075 (K58 v14077 v14079 v14081 a0), .gs v14081 c14082 (csz api_Diag)] ++ []) := ((hS14447.front 1 rfl).front 1 rfl)
  obtain ⟨v14452, h14453, Z14458, A14460, hcl14454, hSc14455, rfl, rfl⟩ := flow_reader_past_ok F hF14457.preL (q14076.mono (hS14409.zle.trans hZ14439)) (q14078.mono (hS14409.zle.trans hZ14439)) (q14080.mono (hS14409.zle.trans hZ14439)) hx14451
  have hZ14459 := hSc14455.zle
  have hS14456 := hF14457.call hSc14455
  replace hS14456 : St _ _ _ _ _ _ [.blk b14075 (K58 v14077 v14079 v14081 a0), .gs v14081 c14082 (csz api_Diag)] := hS14456
  refine r_step rfl trivial (o_call hcl14454 rfl rfl rfl) ?_
  refine xe 1 [(5, V r14450), (0, Pt b14075 0)] ?_
  exact ⟨n14410, Nat.lt_succ_self _, ⟨_, r14450, ho14404, rfl, hS14456⟩⟩
  refine W_condF (x := .tmp 10) (by kernel_rfl) rfl (Bool.eq_false_iff.2 hp14449) ?_
  refine xt 0 ?_
  refine blkX_hit ?_
  obtain rfl := Option.some.inj ho14404
  exact ⟨_, x14407, rfl, rfl, hS14447⟩

def r74_0 : List COp := [u 1 (.box 70 (t 0)), u 2 (.assign (.const (.bool false)))]
def r74_1 : List COp := [u 3 (.fieldAddr 70 (t 1) 0), u 4 (.load 3 (t 3)), u 5 (.binOp .eql 3 (t 4) (ci 13) 3), u 2 (.assign (t 5))]
def flow_reader_scalar_1 (F : Nat) (a0 : api_Token) : Option Bool :=
  if a0.Kind = (13 : Int) then
    some true
  else
    some false
theorem flow_reader_scalar_1_ok (F : Nat) {h : AH} {Z : Zn} {a0 : api_Token} (hI : Inv Z h) {r : Bool} (hm : flow_reader_scalar_1 F a0 = some r) :
    ∃ v h', callI Go.Proofs.Try.prog 74 [.agg #[V a0.Kind, V a0.From, V a0.To]] h = some (v, h') ∧ St h [] Z (0, 0) Z h' [] ∧ v = .bool r := by
  refine fn_plain (Q := fun v => v = .bool r) Go.Proofs.Try.func74 rfl rfl hI ?_
  intro hs hS
  unfold flow_reader_scalar_1 at hm
  refine sr r74_0 ?_
  refine r_blk rfl trivial (o_box (cs := [V a0.Kind, V a0.From, V a0.To]) rfl rfl) hS ?_
  intro b14796 h14797 hS14798
  refine xe 1 [(1, Pt b14796 0)] ?_
  refine sr r74_1 ?_
  refine xq 1 [(3, Pt b14796 0)] ?_
  refine r_step rfl trivial (o_ldb (v := V a0.Kind) hS14798 (i := 0) rfl rfl (by kernel_rfl)) ?_
  rcases ifs hm with ⟨hp14799, hm⟩ | ⟨hp14799, hm⟩
  refine r_step rfl trivial (o_cmp rfl rfl (c_eql_T hp14799)) ?_
  refine xe 1 [(2, .bool true)] ?_
  refine rt ?_
  refine ⟨rfl, ?_⟩
  obtain rfl := Option.some.inj hm
  refine ⟨_, _, _, ResL.tmp rfl (ResL.nil), hS14798, ?_⟩
  exact rfl
  refine r_step rfl trivial (o_cmp rfl rfl (c_eql_F hp14799)) ?_
  refine xe 1 [(2, .bool false)] ?_
  refine rt ?_
  refine ⟨rfl, ?_⟩
  obtain rfl := Option.some.inj hm
  refine ⟨_, _, _, ResL.tmp rfl (ResL.nil), hS14798, ?_⟩
  exact rfl

def r75_0 : List COp := [u 4 (.assign (ci 0))]
def r75_1 : List COp := [u 6 (.move (t 0)), u 7 (cb .len #[(t 6)] #[25]), u 8 (.move (ci 0))]
def r75_2 : List COp := [u 9 (.binOp .lss 3 (t 8) (t 7) 3)]
def r75_3 : List COp := [u 10 (.move (t 8)), u 5 (.assign (t 10))]
def r75_4 : List COp := [u 11 (.move (t 1)), u 12 (.move (t 0)), u 13 (.move (t 5)), u 14 (.indexAddr 25 (t 12) (t 13)), u 15 (.load 70 (t 14)), u 16 (.call { callee := (.value (t 11)), args := #[(t 15)], argTypes := #[70] })]
def r75_5 : List COp := [u 17 (.move (t 5)), u 4 (.assign (t 17))]
def r75_6 : List COp := [u 18 (.binOp .add 3 (t 8) (ci 1) 3), u 8 (.move (t 18))]
def r75_7 : List COp := [u 4 (.assign (ci (-1)))]
def slices_IndexFunc_api_Token_l0 (F : Nat) (a0 : List api_Token) : Nat → Int → Option (Sum Unit Int)
  | 0, _ => none
  | n + 1, x14880 =>
    if x14880 < (a0.length : Int) then
      if 0 ≤ x14880 ∧ x14880 < (a0.length : Int) then
        (a0[x14880.toNat]?).bind fun x14887 =>
        (flow_reader_scalar_1 F x14887).bind fun r14893 =>
        if r14893 = true then
          some (.inr x14880)
        else
          slices_IndexFunc_api_Token_l0 F a0 n (w64 (x14880 + 1))
      else none
    else
      some (.inl ())
def slices_IndexFunc_api_Token (F : Nat) (a0 : List api_Token) : Option Int :=
  ((slices_IndexFunc_api_Token_l0 F a0 F 0) : Option (Sum Unit Int)).bind fun o => match o with
    | .inl () => some (-1)
    | .inr y => some y
theorem slices_IndexFunc_api_Token_ok (F : Nat) {h : AH} {Z : Zn} {a0 : List api_Token} {v14779 : Value} (hI : Inv Z h) (q14778 : RS (α := api_Token) Z v14779 a0) {r : Int} (hm : slices_IndexFunc_api_Token F a0 = some r) :
    ∃ v h', callI Go.Proofs.Try.prog 75 [v14779, .func (.func 74) #[] #[]] h = some (v, h') ∧ St h [] Z (0, 0) Z h' [] ∧ v = V r := by
  refine fn_plain (Q := fun v => v = V r) Go.Proofs.Try.func75 rfl rfl hI ?_
  intro hs hS
  unfold slices_IndexFunc_api_Token at hm
  refine sr r75_0 ?_
  refine xe 1 [(0, v14779), (1, .func (.func 74) #[] #[])] ?_
  refine sq ?_
  refine sr r75_1 ?_
  refine xq 1 [(6, v14779), (0, v14779), (1, .func (.func 74) #[] #[])] ?_
  refine r_step rfl trivial (o_len rfl (RS.len q14778) ⟨_, Go.Proofs.Try.underlying25⟩) ?_
  refine xe 1 [(8, V 0), (7, V (a0.length : Int)), (0, v14779), (1, .func (.func 74) #[] #[])] ?_
  obtain ⟨o14878, ho14877, hm⟩ := obind hm
  refine W_join [] (fun l h => ∃ Z14902 : Zn, .inl () = o14878 ∧ l = [] ∧ St hs [] Z (0, 0) Z14902 h []) ?_ ?_
  rintro l h14903 ⟨Z14902, rfl, rfl, hS14904⟩
  try dsimp only at hm
  refine sr r75_7 ?_
  refine xe 1 [(4, V (-1))] ?_
  refine rt ?_
  refine ⟨rfl, ?_⟩
  obtain rfl := Option.some.inj hm
  refine ⟨_, _, _, ResL.tmp rfl (ResL.nil), hS14904, ?_⟩
  exact rfl
  refine bk 0 ?_
  refine lp [0, 1, 7, 8] (fun n l h => ∃ Z14879 : Zn, ∃ x14880 : Int, slices_IndexFunc_api_Token_l0 F a0 n x14880 = some o14878 ∧ l = [(0, v14779), (1, .func (.func 74) #[] #[]), (7, V (a0.length : Int)), (8, V x14880)] ∧ St hs [] Z (0, 0) Z14879 h []) F ⟨_, 0, ho14877, rfl, hS⟩ ?_
  rintro n14883 l h14881 ⟨Z14879, x14880, ho14877, rfl, hS14882⟩
  rcases n14883 with _ | n14883
  cases (show none = some o14878 from ho14877)
  rw [slices_IndexFunc_api_Token_l0] at ho14877
  refine sr r75_2 ?_
  rcases ifs ho14877 with ⟨hp14885, ho14877⟩ | ⟨hp14885, ho14877⟩
  refine r_step rfl trivial (o_cmp rfl rfl (c_lss_T hp14885)) ?_
  refine xf [(9, .bool true), (0, v14779), (1, .func (.func 74) #[] #[]), (7, V (a0.length : Int)), (8, V x14880)] ?_
  refine sq ?_
  refine kT 9 rfl ?_
  refine sq ?_
  refine bk 1 ?_
  refine sr r75_3 ?_
  refine xe 2 [(5, V x14880), (0, v14779), (1, .func (.func 74) #[] #[]), (7, V (a0.length : Int)), (8, V x14880)] ?_
  refine sr r75_4 ?_
  refine xq 3 [(13, V x14880), (12, v14779), (11, .func (.func 74) #[] #[]), (5, V x14880), (0, v14779), (1, .func (.func 74) #[] #[]), (7, V (a0.length : Int)), (8, V x14880)] ?_
  obtain ⟨hc14886, ho14877⟩ := chk ho14877
  refine r_step rfl trivial (o_index rfl rfl (by kernel_rfl : slTy _ _ = some (csz api_Token)) (RS.based (q14778.mono hS14882.zle) (by omega)) hc14886.1 hc14886.2) ?_
  obtain ⟨x14887, hx14888, ho14877⟩ := obind ho14877
  obtain ⟨cs14889, hc14890, he14891⟩ := RS.elz (q14778.mono hS14882.zle) (i := x14880) hx14888
  obtain rfl := rc_api_Token hc14890
  refine r_step rfl trivial (o_lde (w := .agg #[V x14887.Kind, V x14887.From, V x14887.To]) (he14891 _ (hS14882.zin0 (Zle.refl _))) rfl (by kernel_rfl)) ?_
  obtain ⟨r14893, hx14894, ho14877⟩ := obind ho14877
  obtain ⟨v14895, h14896, hcl14897, hSc14898, rfl⟩ := flow_reader_scalar_1_ok F hS14882.inv  hx14894
  have hS14899 := St.call (A := []) (B := []) hS14882 hSc14898
  replace hS14899 : St _ _ _ _ _ _ [] := hS14899
  refine r_step rfl trivial (o_call hcl14897 rfl rfl rfl) ?_
  refine xf [(16, .bool r14893), (5, V x14880), (0, v14779), (1, .func (.func 74) #[] #[]), (7, V (a0.length : Int)), (8, V x14880)] ?_
  rcases ifs ho14877 with ⟨hp14901, ho14877⟩ | ⟨hp14901, ho14877⟩
  refine W_condT (x := .tmp 16) (by kernel_rfl) rfl hp14901 ?_
  refine sr r75_5 ?_
  refine xe 2 [(4, V x14880)] ?_
  refine rt ?_
  refine blkX_ret ?_
  refine blkX_ret ?_
  refine ⟨rfl, ?_⟩
  obtain rfl := Option.some.inj ho14877
  obtain rfl := Option.some.inj hm
  refine ⟨_, _, _, ResL.tmp rfl (ResL.nil), hS14899, ?_⟩
  exact rfl
  refine W_condF (x := .tmp 16) (by kernel_rfl) rfl (Bool.eq_false_iff.2 hp14901) ?_
  refine sk ?_
  refine rg r75_6 ?_
  refine xe 2 [(8, V (w64 (x14880 + 1))), (0, v14779), (1, .func (.func 74) #[] #[]), (7, V (a0.length : Int))] ?_
  exact ⟨n14883, Nat.lt_succ_self _, ⟨_, w64 (x14880 + 1), ho14877, rfl, hS14899⟩⟩
  refine r_step rfl trivial (o_cmp rfl rfl (c_lss_F hp14885)) ?_
  refine xf [(9, .bool false), (0, v14779), (1, .func (.func 74) #[] #[]), (7, V (a0.length : Int)), (8, V x14880)] ?_
  refine sq ?_
  refine cF 9 rfl ?_
  refine xt 0 ?_
  refine blkX_hit ?_
  obtain rfl := Option.some.inj ho14877
  exact ⟨_, rfl, rfl, hS14882⟩

def r73_0 : List COp := [u 4 (.assign (.const (.bool false)))]
def r73_1 : List COp := [u 5 (.move (t 0)), u 6 (.move (t 1)), u 7 (cf 75 #[(t 5), (t 6)] #[25, 90]), u 8 (.binOp .geq 3 (t 7) (ci 0) 3), u 4 (.assign (t 8))]
def slices_ContainsFunc_api_Token (F : Nat) (a0 : List api_Token) : Option Bool :=
  (slices_IndexFunc_api_Token F a0).bind fun r14913 =>
  if (0 : Int) ≤ r14913 then
    some true
  else
    some false
theorem slices_ContainsFunc_api_Token_ok (F : Nat) {h : AH} {Z : Zn} {a0 : List api_Token} {v14777 : Value} (hI : Inv Z h) (q14776 : RS (α := api_Token) Z v14777 a0) {r : Bool} (hm : slices_ContainsFunc_api_Token F a0 = some r) :
    ∃ v h', callI Go.Proofs.Try.prog 73 [v14777, .func (.func 74) #[] #[]] h = some (v, h') ∧ St h [] Z (0, 0) Z h' [] ∧ v = .bool r := by
  refine fn_plain (Q := fun v => v = .bool r) Go.Proofs.Try.func73 rfl rfl hI ?_
  intro hs hS
  unfold slices_ContainsFunc_api_Token at hm
  refine sr r73_0 ?_
  refine xe 1 [(0, v14777), (1, .func (.func 74) #[] #[])] ?_
  refine sr r73_1 ?_
  refine xq 2 [(6, .func (.func 74) #[] #[]), (5, v14777)] ?_
  obtain ⟨r14913, hx14914, hm⟩ := obind hm
  obtain ⟨v14915, h14916, hcl14917, hSc14918, rfl⟩ := slices_IndexFunc_api_Token_ok F hS.inv q14776 hx14914
  have hS14919 := St.call (A := []) (B := []) hS hSc14918
  replace hS14919 : St _ _ _ _ _ _ [] := hS14919
  refine r_step rfl trivial (o_call hcl14917 rfl rfl rfl) ?_
  rcases ifs hm with ⟨hp14920, hm⟩ | ⟨hp14920, hm⟩
  refine r_step rfl trivial (o_cmp rfl rfl (c_geq_T hp14920)) ?_
  refine xe 1 [(4, .bool true)] ?_
  refine rt ?_
  refine ⟨rfl, ?_⟩
  obtain rfl := Option.some.inj hm
  refine ⟨_, _, _, ResL.tmp rfl (ResL.nil), hS14919, ?_⟩
  exact rfl
  refine r_step rfl trivial (o_cmp rfl rfl (c_geq_F hp14920)) ?_
  refine xe 1 [(4, .bool false)] ?_
  refine rt ?_
  refine ⟨rfl, ?_⟩
  obtain rfl := Option.some.inj hm
  refine ⟨_, _, _, ResL.tmp rfl (ResL.nil), hS14919, ?_⟩
  exact rfl

def r72_0 : List COp := [u 10 (.move (t 0)), u 11 (.move (t 2)), u 12 (.move (t 3)), u 13 (cf 63 #[(t 10), (t 11), (t 12)] #[55, 3, 3]), u 8 (.assign (t 13))]
def r72_1 : List COp := [u 14 (.move (t 8)), u 15 (.move (t 2)), u 16 (.binOp .eql 3 (t 14) (t 15) 3)]
def r72_2 : List COp := [u 9 (.assign (ci 7))]
def r72_3 : List COp := [u 17 (.move (t 0)), u 18 (.nilCheck (t 17)), u 19 (.fieldAddr 58 (t 18) 0), u 20 (.load 25 (t 19)), u 21 (.move (t 2)), u 22 (.move (t 8)), u 23 (.slice 25 (t 20) (some (t 21)) (some (t 22)) none), u 24 (cf 73 #[(t 23), (.func 74)] #[25, 90])]
def r72_4 : List COp := [u 9 (.assign (ci 8))]
def r72_5 : List COp := [u 25 (.move (t 0)), u 26 (.move (t 1)), u 27 (.move (t 9)), u 28 (.move (t 2)), u 29 (.move (t 8)), u 30 (cf 47 #[(t 25), (t 26), (t 27), (t 28), (t 29)] #[55, 3, 3, 3, 3])]
def r72_6 : List COp := [u 31 (.move (t 0)), u 32 (.nilCheck (t 31)), u 33 (.fieldAddr 58 (t 32) 2), u 34 (.fieldAddr 29 (t 33) 0), u 35 (.load 27 (t 34)), u 36 (.move (t 1)), u 37 (.indexAddr 27 (t 35) (t 36)), u 38 (.fieldAddr 42 (t 37) 5), o (.store 4 (t 38) (.const (.bool true)))]
def flow_reader_scalar (F : Nat) (a0 : flow_reader) (a1 : Int) (a2 : Int) (a3 : Int) : Option flow_reader :=
  (flow_reader_over F a0 a2 a3).bind fun r14970 =>
  if r14970 = a2 then
    some a0
  else
    ((if 0 ≤ a2 ∧ a2 ≤ r14970 ∧ r14970 ≤ (a0.l_.length : Int) then
        (slices_ContainsFunc_api_Token F ((a0.l_.take r14970.toNat).drop a2.toNat)).bind fun r15002 =>
        if r15002 = true then
          some 8
        else
          some 7
      else none) : Option Int).bind fun o => match o with
      | x15011 => (flow_reader_add F a0 a1 x15011 a2 r14970).bind fun r15014 =>
      if 0 ≤ a1 ∧ a1 < (r15014.2.t_.Nodes.length : Int) then
        (r15014.2.t_.Nodes[a1.toNat]?).bind fun x15033 =>
        some (⟨r15014.2.l_, r15014.2.end_, (⟨r15014.2.t_.Nodes.set a1.toNat (⟨x15033.Kind, x15033.From, x15033.To, x15033.Up, x15033.Kids, true⟩ : api_Node)⟩ : arena_Tree), r15014.2.d_⟩ : flow_reader)
      else none
theorem flow_reader_scalar_ok (F : Nat) {h : AH} {Z : Zn} {a0 : flow_reader} {a1 : Int} {a2 : Int} {a3 : Int} {b14750 : Nat} {v14752 : Value} {v14754 : Value} {v14756 : Value} {c14757 : List Value} (hP : Pre Z h [.blk b14750 (K58 v14752 v14754 v14756 a0), .gs v14756 c14757 (csz api_Diag)]) (q14751 : RS (α := api_Token) Z v14752 a0.l_) (q14753 : RS (α := api_Node) Z v14754 a0.t_.Nodes) (q14755 : RCs (α := api_Diag) Z c14757 a0.d_) {r : flow_reader} (hm : flow_reader_scalar F a0 a1 a2 a3 = some r) :
    ∃ v h' Z' A', callI Go.Proofs.Try.prog 72 [Pt b14750 0, V a1, V a2, V a3] h = some (v, h') ∧ St h (idsL [.blk b14750 (K58 v14752 v14754 v14756 a0), .gs v14756 c14757 (csz api_Diag)]) Z (0, 0) Z' h' A' ∧ ∃ v14965 : Value, ∃ v14967 : Value, ∃ c14969 : List Value, .tuple #[] = v ∧ A' = [.blk b14750 (K58 v14965 v14967 v14756 r), .gs v14756 c14969 (csz api_Diag)] ∧ RS (α := api_Token) Z' v14965 r.l_ ∧ RS (α := api_Node) Z' v14967 r.t_.Nodes ∧ RCs (α := api_Diag) Z' c14969 r.d_ := by
  refine fn_intro (A := [.blk b14750 (K58 v14752 v14754 v14756 a0), .gs v14756 c14757 (csz api_Diag)]) (Q := fun v Z' A' => ∃ v14965 : Value, ∃ v14967 : Value, ∃ c14969 : List Value, .tuple #[] = v ∧ A' = [.blk b14750 (K58 v14965 v14967 v14756 r), .gs v14756 c14969 (csz api_Diag)] ∧ RS (α := api_Token) Z' v14965 r.l_ ∧ RS (α := api_Node) Z' v14967 r.t_.Nodes ∧ RCs (α := api_Diag) Z' c14969 r.d_) Go.Proofs.Try.func72 rfl rfl (by kernel_rfl) hP ?_
  intro hs hS
  unfold flow_reader_scalar at hm
  refine sr r72_0 ?_
  refine xq 3 [(12, V a3), (11, V a2), (10, Pt b14750 0), (0, Pt b14750 0), (1, V a1), (2, V a2)] ?_
  obtain ⟨r14970, hx14971, hm⟩ := obind hm
  have hF14977 : St _ _ _ _ _ _ ([.blk b14750 (K58 v14752 v14754 v14756 a0), .gs v14756 c14757 (csz api_Diag)] ++ []) := ((hS.front 1 rfl).front 1 rfl)
  obtain ⟨v14972, h14973, Z14978, A14980, hcl14974, hSc14975, rfl, rfl⟩ := flow_reader_over_ok F hF14977.preL q14751 q14753 q14755 hx14971
  have hZ14979 := hSc14975.zle
  have hS14976 := hF14977.call hSc14975
  replace hS14976 : St _ _ _ _ _ _ [.blk b14750 (K58 v14752 v14754 v14756 a0), .gs v14756 c14757 (csz api_Diag)] := hS14976
  refine r_step rfl trivial (o_call hcl14974 rfl rfl rfl) ?_
  refine xe 1 [(8, V r14970), (0, Pt b14750 0), (1, V a1), (2, V a2)] ?_
  refine sq ?_
  refine sr r72_1 ?_
  refine xq 2 [(15, V a2), (14, V r14970), (8, V r14970), (0, Pt b14750 0), (1, V a1), (2, V a2)] ?_
  rcases ifs hm with ⟨hp14983, hm⟩ | ⟨hp14983, hm⟩
  refine r_step rfl trivial (o_cmp rfl rfl (c_eql_T hp14983)) ?_
  refine xf [(16, .bool true), (8, V r14970), (0, Pt b14750 0), (1, V a1), (2, V a2)] ?_
  refine cT 16 rfl ?_
  refine rt ?_
  refine ⟨rfl, ?_⟩
  obtain rfl := Option.some.inj hm
  refine ⟨_, _, _, ResL.nil, hS14976, ?_⟩
  exact ⟨v14752, v14754, c14757, rfl, rfl, (q14751.mono hZ14979), (q14753.mono hZ14979), (q14755.mono hZ14979)⟩
  refine r_step rfl trivial (o_cmp rfl rfl (c_eql_F hp14983)) ?_
  refine xf [(16, .bool false), (8, V r14970), (0, Pt b14750 0), (1, V a1), (2, V a2)] ?_
  refine kF 16 rfl ?_
  refine sr r72_2 ?_
  refine xe 1 [(9, V 7), (8, V r14970), (0, Pt b14750 0), (1, V a1), (2, V a2)] ?_
  refine sq ?_
  obtain ⟨o14997, ho14996, hm⟩ := obind hm
  refine W_join [0, 1, 2, 8, 9] (fun l h => ∃ Z15010 : Zn, ∃ x15011 : Int, x15011 = o14997 ∧ l = [(0, Pt b14750 0), (1, V a1), (2, V a2), (8, V r14970), (9, V x15011)] ∧ St hs (idsL [.blk b14750 (K58 v14752 v14754 v14756 a0), .gs v14756 c14757 (csz api_Diag)]) Z (0, 0) Z15010 h [.blk b14750 (K58 v14752 v14754 v14756 a0), .gs v14756 c14757 (csz api_Diag)]) ?_ ?_
  rintro l h15012 ⟨Z15010, x15011, rfl, rfl, hS15013⟩
  try dsimp only at hm
  refine sr r72_5 ?_
  refine xq 5 [(29, V r14970), (28, V a2), (27, V x15011), (26, V a1), (25, Pt b14750 0), (0, Pt b14750 0), (1, V a1)] ?_
  obtain ⟨r15014, hx15015, hm⟩ := obind hm
  have hF15021 : St _ _ _ _ _ _ ([.blk b14750 (K58 v14752 v14754 v14756 a0), .gs v14756 c14757 (csz api_Diag)] ++ []) := ((hS15013.front 1 rfl).front 1 rfl)
  obtain ⟨v15016, h15017, Z15022, A15024, hcl15018, hSc15019, v15026, v15028, c15029, c15031, rfl, rfl, q15025, q15027, q15030⟩ := flow_reader_add_ok F hF15021.preL (q14751.mono hS15013.zle) (q14753.mono hS15013.zle) (q14755.mono hS15013.zle) hx15015
  have hZ15023 := hSc15019.zle
  have hS15020 := hF15021.call hSc15019
  replace hS15020 : St _ _ _ _ _ _ [.blk b14750 (K58 v15026 v15028 v14756 r15014.2), .gs v15028 c15029 (csz api_Node), .gs v14756 c15031 (csz api_Diag)] := hS15020
  refine r_step rfl trivial (o_call hcl15018 rfl rfl rfl) ?_
  refine xf [(0, Pt b14750 0), (1, V a1)] ?_
  refine rg r72_6 ?_
  refine xq 4 [(34, Pt b14750 2), (1, V a1)] ?_
  refine r_step rfl trivial (o_ldb (v := v15028) hS15020 (i := 0) rfl rfl (by kernel_rfl)) ?_
  refine xq 1 [(36, V a1), (35, v15028)] ?_
  obtain ⟨hc15032, hm⟩ := chk hm
  refine r_step rfl trivial (o_index rfl rfl (by kernel_rfl : slTy _ _ = some (csz api_Node)) (hS15020.gbased (j := 1) rfl q15027 (by omega)) hc15032.1 hc15032.2) ?_
  refine xq 1 [(38, .pointer (some (elemA v15028 a1 (csz api_Node) 5)))] ?_
  obtain ⟨x15033, hx15034, hm⟩ := obind hm
  obtain ⟨cs15035, hc15036, he15037, ht15038⟩ := hS15020.gel (j := 1) rfl q15027 (i := a1) hx15034
  obtain ⟨v15039, q15040, rfl⟩ := rc_api_Node hc15036
  refine r_ex2 rfl trivial (o_ste (u' := (⟨x15033.Kind, x15033.From, x15033.To, x15033.Up, x15033.Kids, true⟩ : api_Node)) (vs := [.bool true]) (cs' := [V x15033.Kind, V x15033.From, V x15033.To, V x15033.Up, v15039, .bool true]) hS15020 (m := 1) rfl q15027 hx15034 ht15038 rfl rfl rfl (by kernel_rfl) rfl rfl rfl ⟨_, q15040, rfl⟩) ?_
  rintro h15041 c15042 ⟨q15044, hS15043⟩
  replace hS15043 : St _ _ _ _ _ _ [.blk b14750 (K58 v15026 v15028 v14756 r15014.2), .gs v15028 c15042 (csz api_Node), .gs v14756 c15031 (csz api_Diag)] := hS15043
  refine xf [] ?_
  obtain ⟨Z15045, hZ15046, q15047, hS15048⟩ := (hS15043.front 1 rfl).freeze q15044
  replace hS15048 : St _ _ _ _ _ _ [.blk b14750 (K58 v15026 v15028 v14756 r15014.2), .gs v14756 c15031 (csz api_Diag)] := hS15048
  obtain rfl := Option.some.inj hm
  refine ⟨_, _, _, ResL.nil, hS15048, ?_⟩
  exact ⟨v15026, v15028, c15031, rfl, rfl, (q15025.mono hZ15046), q15047, (q15030.mono hZ15046)⟩
  refine sr r72_3 ?_
  refine xq 3 [(19, Pt b14750 0), (9, V 7), (8, V r14970), (0, Pt b14750 0), (1, V a1), (2, V a2)] ?_
  refine r_step rfl trivial (o_ldb (v := v14752) hS14976 (i := 0) rfl rfl (by kernel_rfl)) ?_
  refine xq 2 [(22, V r14970), (21, V a2), (20, v14752), (9, V 7), (8, V r14970), (0, Pt b14750 0), (1, V a1), (2, V a2)] ?_
  obtain ⟨hc15001, ho14996⟩ := chk ho14996
  refine r_exv rfl trivial (o_slice (a := a2) (b := r14970) (q14751.mono hZ14979) rfl (by kernel_rfl : slTy _ _ = some (csz api_Token)) ⟨_, rfl⟩ ⟨_, rfl⟩ hc15001.1 hc15001.2.1 hc15001.2.2) ?_
  intro v14998 q14999
  obtain ⟨r15002, hx15003, ho14996⟩ := obind ho14996
  obtain ⟨v15004, h15005, hcl15006, hSc15007, rfl⟩ := slices_ContainsFunc_api_Token_ok F hS14976.inv q14999 hx15003
  have hS15008 := St.call (A := []) (B := [.blk b14750 (K58 v14752 v14754 v14756 a0), .gs v14756 c14757 (csz api_Diag)]) hS14976 hSc15007
  replace hS15008 : St _ _ _ _ _ _ [.blk b14750 (K58 v14752 v14754 v14756 a0), .gs v14756 c14757 (csz api_Diag)] := hS15008
  refine r_step rfl trivial (o_call hcl15006 rfl rfl rfl) ?_
  refine xf [(24, .bool r15002), (9, V 7), (8, V r14970), (0, Pt b14750 0), (1, V a1), (2, V a2)] ?_
  rcases ifs ho14996 with ⟨hp15009, ho14996⟩ | ⟨hp15009, ho14996⟩
  refine W_condT (x := .tmp 24) (by kernel_rfl) rfl hp15009 ?_
  refine rg r72_4 ?_
  refine xe 1 [(9, V 8), (8, V r14970), (0, Pt b14750 0), (1, V a1), (2, V a2)] ?_
  obtain rfl := Option.some.inj ho14996
  exact ⟨_, 8, rfl, rfl, hS15008⟩
  refine W_condF (x := .tmp 24) (by kernel_rfl) rfl (Bool.eq_false_iff.2 hp15009) ?_
  refine sk ?_
  obtain rfl := Option.some.inj ho14996
  exact ⟨_, 7, rfl, rfl, hS15008⟩

end Go.Proofs.Ytahcngeimlkcgaa.M
