/- Printed by a program of this session: Go functions as Lean functions over plain data, and that the calls come to them. -/
import Derived.Test.YtahcngeimlkcgaaSyJ
import Derived.Test.YtahcngeimlkcgaaChecked
import Derived.KernelRfl
import Derived.Test.YtahcngeimlkcgaaMS1
namespace Go.Proofs.Ytahcngeimlkcgaa.M
open Go Am Sy
open Sy.Cell (rc)
set_option linter.unusedVariables false
set_option linter.unusedSimpArgs false
set_option maxRecDepth 20000

structure api_Node where
 Kind : Int
 From : Int
 To : Int
 Up : Int
 Kids : List Int
 Key : Bool
 deriving DecidableEq, Inhabited
instance : Cell api_Node where
 size := 6
 rc Z cs x := ∃ v4, RS (α := Int) Z v4 x.Kids ∧ cs = [V x.Kind, V x.From, V x.To, V x.Up, v4, .bool x.Key]
 len h := by obtain ⟨v4, qv4, h⟩ := h; rw [h]; rfl
 mono hz h := by obtain ⟨v4, qv4, h⟩ := h; exact ⟨v4, qv4.mono hz, h⟩
 one h := by obtain ⟨v4, qv4, h⟩ := h; subst h; exact (one_cons rfl (one_cons rfl (one_cons rfl (one_cons rfl (one_cons qv4.one1 (one_cons rfl one_nil))))))
 pos := by decide
theorem rc_api_Node {Z : Zn} {cs : List Value} {x : api_Node} (h : rc Z cs x) : ∃ v4, RS (α := Int) Z v4 x.Kids ∧ cs = [V x.Kind, V x.From, V x.To, V x.Up, v4, .bool x.Key] := h
abbrev K42 (v0 : Value) (x : api_Node) : List Value := [V x.Kind, V x.From, V x.To, V x.Up, v0, .bool x.Key]
structure arena_Tree where
 Nodes : List api_Node
 deriving DecidableEq, Inhabited
instance : Cell arena_Tree where
 size := 1
 rc Z cs x := ∃ v0, RS (α := api_Node) Z v0 x.Nodes ∧ cs = [v0]
 len h := by obtain ⟨v0, qv0, h⟩ := h; rw [h]; rfl
 mono hz h := by obtain ⟨v0, qv0, h⟩ := h; exact ⟨v0, qv0.mono hz, h⟩
 one h := by obtain ⟨v0, qv0, h⟩ := h; subst h; exact (one_cons qv0.one1 one_nil)
 pos := by decide
theorem rc_arena_Tree {Z : Zn} {cs : List Value} {x : arena_Tree} (h : rc Z cs x) : ∃ v0, RS (α := api_Node) Z v0 x.Nodes ∧ cs = [v0] := h
abbrev K29 (v0 : Value) (x : arena_Tree) : List Value := [v0]
structure arena_forest where
 Tree : arena_Tree
 deriving DecidableEq, Inhabited
instance : Cell arena_forest where
 size := 1
 rc Z cs x := ∃ v0, RS (α := api_Node) Z v0 x.Tree.Nodes ∧ cs = [v0]
 len h := by obtain ⟨v0, qv0, h⟩ := h; rw [h]; rfl
 mono hz h := by obtain ⟨v0, qv0, h⟩ := h; exact ⟨v0, qv0.mono hz, h⟩
 one h := by obtain ⟨v0, qv0, h⟩ := h; subst h; exact (one_cons qv0.one1 one_nil)
 pos := by decide
theorem rc_arena_forest {Z : Zn} {cs : List Value} {x : arena_forest} (h : rc Z cs x) : ∃ v0, RS (α := api_Node) Z v0 x.Tree.Nodes ∧ cs = [v0] := h
abbrev K65 (v0 : Value) (x : arena_forest) : List Value := [v0]
structure api_Diag where
 Code : Int
 From : Int
 To : Int
 deriving DecidableEq, Inhabited
instance : Cell api_Diag where
 size := 3
 rc Z cs x := cs = [V x.Code, V x.From, V x.To]
 len h := by rw [h]; rfl
 mono _ h := h
 one h := by rw [h]; rfl
 pos := by decide
theorem rc_api_Diag {Z : Zn} {cs : List Value} {x : api_Diag} (h : rc Z cs x) : cs = [V x.Code, V x.From, V x.To] := h
abbrev K35 (x : api_Diag) : List Value := [V x.Code, V x.From, V x.To]
structure flow_reader where
 l_ : List api_Token
 end_ : Int
 t_ : arena_Tree
 d_ : List api_Diag
 deriving DecidableEq, Inhabited
instance : Cell flow_reader where
 size := 4
 rc Z cs x := ∃ v0, RS (α := api_Token) Z v0 x.l_ ∧ ∃ v2, RS (α := api_Node) Z v2 x.t_.Nodes ∧ ∃ v3, RS (α := api_Diag) Z v3 x.d_ ∧ cs = [v0, V x.end_, v2, v3]
 len h := by obtain ⟨v0, qv0, v2, qv2, v3, qv3, h⟩ := h; rw [h]; rfl
 mono hz h := by obtain ⟨v0, qv0, v2, qv2, v3, qv3, h⟩ := h; exact ⟨v0, qv0.mono hz, v2, qv2.mono hz, v3, qv3.mono hz, h⟩
 one h := by obtain ⟨v0, qv0, v2, qv2, v3, qv3, h⟩ := h; subst h; exact (one_cons qv0.one1 (one_cons rfl (one_cons qv2.one1 (one_cons qv3.one1 one_nil))))
 pos := by decide
theorem rc_flow_reader {Z : Zn} {cs : List Value} {x : flow_reader} (h : rc Z cs x) : ∃ v0, RS (α := api_Token) Z v0 x.l_ ∧ ∃ v2, RS (α := api_Node) Z v2 x.t_.Nodes ∧ ∃ v3, RS (α := api_Diag) Z v3 x.d_ ∧ cs = [v0, V x.end_, v2, v3] := h
abbrev K58 (v0 v1 v2 : Value) (x : flow_reader) : List Value := [v0, V x.end_, v1, v2]

theorem eqT_api_Diag_35 {x y : api_Diag} (h : x = y) : aBin Try.prog .eql 35 (.agg #[V x.Code, V x.From, V x.To]) (.agg #[V y.Code, V y.From, V y.To]) = some (.bool true) := by
 subst h
 refine eq_agg Try.underlying35 (by kernel_rfl) (by kernel_rfl) (w := true) ?_
 refine fld_T (by decide) rfl rfl ((eqf_int ⟨_, Try.underlying3⟩).trans (by simp )) ?_
 refine fld_T (by decide) rfl rfl ((eqf_int ⟨_, Try.underlying3⟩).trans (by simp )) ?_
 refine fld_T (by decide) rfl rfl ((eqf_int ⟨_, Try.underlying3⟩).trans (by simp )) ?_
 rfl
theorem eqF_api_Diag_35 {x y : api_Diag} (h : ¬ x = y) : aBin Try.prog .eql 35 (.agg #[V x.Code, V x.From, V x.To]) (.agg #[V y.Code, V y.From, V y.To]) = some (.bool false) := by
 refine eq_agg Try.underlying35 (by kernel_rfl) (by kernel_rfl) (w := false) ?_
 by_cases h0 : x.Code = y.Code
 case neg => exact fld_F (by decide) rfl rfl ((eqf_int ⟨_, Try.underlying3⟩).trans (by simp [h0]))
 refine fld_T (by decide) rfl rfl ((eqf_int ⟨_, Try.underlying3⟩).trans (by simp [h0])) ?_
 by_cases h1 : x.From = y.From
 case neg => exact fld_F (by decide) rfl rfl ((eqf_int ⟨_, Try.underlying3⟩).trans (by simp [h1]))
 refine fld_T (by decide) rfl rfl ((eqf_int ⟨_, Try.underlying3⟩).trans (by simp [h1])) ?_
 by_cases h2 : x.To = y.To
 case neg => exact fld_F (by decide) rfl rfl ((eqf_int ⟨_, Try.underlying3⟩).trans (by simp [h2]))
 refine fld_T (by decide) rfl rfl ((eqf_int ⟨_, Try.underlying3⟩).trans (by simp [h2])) ?_
 exact absurd (by cases x; cases y; simp_all) h
theorem neT_api_Diag_35 {x y : api_Diag} (h : ¬ x = y) : aBin Try.prog .neq 35 (.agg #[V x.Code, V x.From, V x.To]) (.agg #[V y.Code, V y.From, V y.To]) = some (.bool true) := by
 refine ne_agg Try.underlying35 (by kernel_rfl) (by kernel_rfl) (w := false) ?_
 by_cases h0 : x.Code = y.Code
 case neg => exact fld_F (by decide) rfl rfl ((eqf_int ⟨_, Try.underlying3⟩).trans (by simp [h0]))
 refine fld_T (by decide) rfl rfl ((eqf_int ⟨_, Try.underlying3⟩).trans (by simp [h0])) ?_
 by_cases h1 : x.From = y.From
 case neg => exact fld_F (by decide) rfl rfl ((eqf_int ⟨_, Try.underlying3⟩).trans (by simp [h1]))
 refine fld_T (by decide) rfl rfl ((eqf_int ⟨_, Try.underlying3⟩).trans (by simp [h1])) ?_
 by_cases h2 : x.To = y.To
 case neg => exact fld_F (by decide) rfl rfl ((eqf_int ⟨_, Try.underlying3⟩).trans (by simp [h2]))
 refine fld_T (by decide) rfl rfl ((eqf_int ⟨_, Try.underlying3⟩).trans (by simp [h2])) ?_
 exact absurd (by cases x; cases y; simp_all) h
theorem neF_api_Diag_35 {x y : api_Diag} (h : x = y) : aBin Try.prog .neq 35 (.agg #[V x.Code, V x.From, V x.To]) (.agg #[V y.Code, V y.From, V y.To]) = some (.bool false) := by
 subst h
 refine ne_agg Try.underlying35 (by kernel_rfl) (by kernel_rfl) (w := true) ?_
 refine fld_T (by decide) rfl rfl ((eqf_int ⟨_, Try.underlying3⟩).trans (by simp )) ?_
 refine fld_T (by decide) rfl rfl ((eqf_int ⟨_, Try.underlying3⟩).trans (by simp )) ?_
 refine fld_T (by decide) rfl rfl ((eqf_int ⟨_, Try.underlying3⟩).trans (by simp )) ?_
 rfl

def r12_0 : List COp := [u 2 (.alloc 29)]
def r12_1 : List COp := [u 3 (mv 0), u 4 (bc .lss 3 3 0 3), u 5 (mv 4), gn 5 6 (mv 0), gn 5 7 (bc .gtr 3 6 32768 3), u 8 (pt 5 7)]
def r12_2 : List COp := [u 0 (.assign (ci 0))]
def r12_3 : List COp := [u 9 (mv 0), u 10 (.build 42 #[(0, (ci 1)), (2, (t 9)), (3, (ci (-1)))]), u 11 (.buildSlice 27 1 #[(0, (t 10))]), u 12 (.build 29 #[(0, (t 11))]), o (.store 29 (t 2) (t 12))]
def arena_New (F : Nat) (a0 : Int) : Option arena_Tree :=
 ((if a0 < (0 : Int) then
   some 0
  else
   if (32768 : Int) < a0 then
    some 0
   else
    some a0) : Option Int).bind fun o => match o with
  | x14 => some (⟨[(⟨1, 0, x14, (-1), [], false⟩ : api_Node)]⟩ : arena_Tree)
theorem arena_New_ok (F : Nat) {h : AH} {Z : Zn} {a0 : Int} (hP : Pre Z h []) {r : arena_Tree} (hm : arena_New F a0 = some r) :
  ∃ v h' Z' A', callI Try.prog 12 [V a0] h = some (v, h') ∧ St h (idsL []) Z (0, 0) Z' h' A' ∧ ∃ v2 : Value, ∃ c3 : List Value, .agg #[v2] = v ∧ A' = [.gs v2 c3 (csz api_Node)] ∧ RCs (α := api_Node) Z' c3 r.Nodes := by
 refine fn_intro (A := []) (Q := fun v Z' A' => ∃ v2 : Value, ∃ c3 : List Value, .agg #[v2] = v ∧ A' = [.gs v2 c3 (csz api_Node)] ∧ RCs (α := api_Node) Z' c3 r.Nodes) Try.func12 rfl rfl (by kernel_rfl) hP ?_
 intro hs hS
 unfold arena_New at hm
 replace hS : St hs [] Z (0, 0) Z hs [] := hS
 refine sr r12_0 ?_
 refine r_blk rfl trivial (o_alloc (cs := [.slice none 0 0]) (by kernel_rfl)) hS ?_
 intro b4 h5 hS6
 refine xf [(2, Pt b4 0), (0, V a0)] ?_
 refine sq ?_
 obtain ⟨o10, ho9, hm⟩ := obind hm
 refine W_seqJoin0 [0, 2] (fun l h => ∃ Z13 : Zn, ∃ x14 : Int, ∃ b15 : Nat, x14 = o10 ∧ l = [(0, V x14), (2, Pt b15 0)] ∧ St hs [] Z (0, 0) Z13 h [.blk b15 [.slice none 0 0]]) (by kernel_rfl) ?_ ?_
 rintro l h16 ⟨Z13, x14, b15, rfl, rfl, hS17⟩
 try dsimp only at hm
 refine sr r12_3 ?_
 refine xq 2 [(10, .agg #[V 1, V 0, V x14, V (-1), .slice none 0 0, .bool false]), (2, Pt b15 0)] ?_
 have q21 : RCs (α := api_Node) Z13 [V 1, V 0, V x14, V (-1), .slice none 0 0, .bool false] [(⟨1, 0, x14, (-1), [], false⟩ : api_Node)] := RCs.cons (cs := [V 1, V 0, V x14, V (-1), .slice none 0 0, .bool false]) ⟨_, (RS.nil0 _), rfl⟩ (RCs.nil0 _)
 refine r_row rfl trivial (o_bs (cells := [V 1, V 0, V x14, V (-1), .slice none 0 0, .bool false]) (s := 6) (by kernel_rfl)) (by kernel_rfl) hS17 ?_
 intro v18 h19 hS20
 replace hS20 : St _ _ _ _ _ _ [.gs v18 [V 1, V 0, V x14, V (-1), .slice none 0 0, .bool false] (csz api_Node), .blk b15 [.slice none 0 0]] := hS20
 refine r_step rfl trivial (o_build (v := .agg #[v18]) rfl (CA.cons (cs := [v18]) (hS20.gcell1 (i := 0) rfl) (CA.nil0)) (by kernel_rfl)) ?_
 refine r_ex1 rfl trivial (o_stb (vs := [v18]) (cells' := [v18]) (L' := [.gs v18 [V 1, V 0, V x14, V (-1), .slice none 0 0, .bool false] (csz api_Node), .blk b15 [v18]]) hS20 (i := 1) rfl rfl rfl rfl (by kernel_rfl) (one_cons (hS20.gone1 (i := 0) rfl) one_nil) rfl rfl rfl) ?_
 intro h23 hS24
 refine xf [(2, Pt b15 0)] ?_
 refine rt ?_
 refine ⟨rfl, ?_⟩
 obtain rfl := si hm
 refine ⟨_, _, _, ResL.cell (v := .agg #[v18]) rfl hS24 (i := 1) rfl (by kernel_rfl) (ResL.nil), (hS24.takeN 1), ?_⟩
 exact ⟨v18, [V 1, V 0, V x14, V (-1), .slice none 0 0, .bool false], rfl, rfl, q21⟩
 refine rg r12_1 ?_
 refine xq 1 [(3, V a0), (2, Pt b4 0), (0, V a0)] ?_
 rcases ifs ho9 with ⟨hp11, ho9⟩ | ⟨hp11, ho9⟩
 refine r_step rfl trivial (o_cmp rfl rfl (c_lss_T hp11)) ?_
 refine xe 4 [(8, .bool true), (2, Pt b4 0), (0, V a0)] ?_
 refine cT 8 rfl ?_
 refine rg r12_2 ?_
 refine xe 1 [(0, V 0), (2, Pt b4 0)] ?_
 obtain rfl := si ho9
 exact ⟨_, 0, b4, rfl, rfl, hS6⟩
 refine r_step rfl trivial (o_cmp rfl rfl (c_lss_F hp11)) ?_
 refine xq 2 [(6, V a0), (5, .bool false), (2, Pt b4 0), (0, V a0)] ?_
 rcases ifs ho9 with ⟨hp12, ho9⟩ | ⟨hp12, ho9⟩
 refine r_step rfl rfl (o_cmp rfl rfl (c_gtr_T hp12)) ?_
 refine xe 1 [(8, .bool true), (2, Pt b4 0), (0, V a0)] ?_
 refine cT 8 rfl ?_
 refine rg r12_2 ?_
 refine xe 1 [(0, V 0), (2, Pt b4 0)] ?_
 obtain rfl := si ho9
 exact ⟨_, 0, b4, rfl, rfl, hS6⟩
 refine r_step rfl rfl (o_cmp rfl rfl (c_gtr_F hp12)) ?_
 refine xe 1 [(8, .bool false), (2, Pt b4 0), (0, V a0)] ?_
 refine kF 8 rfl ?_
 obtain rfl := si ho9
 exact ⟨_, a0, b4, rfl, rfl, hS6⟩

def r53_0 : List COp := [u 2 (.assign (.const (.slice none 0 0)))]
def r53_1 : List COp := [u 3 (mv 0), u 4 (.binOp .eql 27 (t 3) (.const (.slice none 0 0)) 27)]
def r53_2 : List COp := [u 2 (.assign (.const (.slice none 0 0)))]
def r53_3 : List COp := [u 5 (.buildSlice 27 0 #[]), u 6 (mv 0), u 7 (cb .append #[(t 5), (t 6)] #[27, 27]), u 2 (sg 7)]
def slices_Clone_api_Node (F : Nat) (a0 : List api_Node) : Option (List api_Node) :=
 if ([] : List api_Node).length + a0.length ≤ 2199023255552 then
  some (([] : List api_Node) ++ a0)
 else none
theorem slices_Clone_api_Node_ok (F : Nat) {h : AH} {Z : Zn} {a0 : List api_Node} {v2 : Value} (hP : Pre Z h []) (q1 : RS (α := api_Node) Z v2 a0) {r : (List api_Node)} (hm : slices_Clone_api_Node F a0 = some r) :
  ∃ v h' Z' A', callI Try.prog 53 [v2] h = some (v, h') ∧ St h (idsL []) Z (0, 0) Z' h' A' ∧ ∃ v4 : Value, ∃ c5 : List Value, v4 = v ∧ A' = [.gs v4 c5 (csz api_Node)] ∧ RCs (α := api_Node) Z' c5 r := by
 refine fn_intro (A := []) (Q := fun v Z' A' => ∃ v4 : Value, ∃ c5 : List Value, v4 = v ∧ A' = [.gs v4 c5 (csz api_Node)] ∧ RCs (α := api_Node) Z' c5 r) Try.func53 rfl rfl (by kernel_rfl) hP ?_
 intro hs hS
 unfold slices_Clone_api_Node at hm
 replace hS : St hs [] Z (0, 0) Z hs [] := hS
 refine sr r53_0 ?_
 refine xe 1 [(0, v2)] ?_
 refine sq ?_
 refine sr r53_1 ?_
 refine xq 1 [(3, v2), (0, v2)] ?_
 rcases nil_or q1 with ⟨hn8, hv9⟩ | hv9
 replace hm : some [] = some r := by rw [hn8] at hm; simpa using hm
 refine r_step rfl trivial (o_cmp rfl rfl (c_nilT ⟨_, Try.underlying27⟩ hv9)) ?_
 refine xf [(4, .bool true), (0, v2)] ?_
 refine cT 4 rfl ?_
 refine sr r53_2 ?_
 refine xe 1 [(2, .slice none 0 0)] ?_
 refine rt ?_
 refine ⟨rfl, ?_⟩
 have hS10 := hS.nilGs (csz api_Node)
 obtain rfl := si hm
 refine ⟨_, _, _, ResL.tmp rfl (ResL.nil), hS10, ?_⟩
 exact ⟨(.slice none 0 0), [], rfl, rfl, (RCs.nil0 _)⟩
 refine r_step rfl trivial (o_cmp rfl rfl (c_nilF ⟨_, Try.underlying27⟩ hv9)) ?_
 refine xf [(4, .bool false), (0, v2)] ?_
 refine kF 4 rfl ?_
 refine sr r53_3 ?_
 have q15 : RCs (α := api_Node) Z [] [] := RCs.nil0 _
 refine r_row rfl trivial (o_bs (cells := []) (s := 6) (by kernel_rfl)) (by kernel_rfl) hS ?_
 intro v12 h13 hS14
 replace hS14 : St _ _ _ _ _ _ [.gs v12 [] (csz api_Node)] := hS14
 refine xq 1 [(6, v2), (5, v12)] ?_
 obtain ⟨c18, nw17⟩ := RS.news q1 (hS14).inv
 obtain ⟨hc24, hm⟩ := chk hm
 refine r_ex3 rfl trivial (o_app (ys := a0) (by_ := 64) hS14 (i := 0) rfl q15 nw17 rfl rfl (by kernel_rfl) (by omega) (by omega)) ?_
 rintro v19 c20 h21 ⟨q23, hS22⟩
 replace hS22 : St _ _ _ _ _ _ [.gs v19 c20 (csz api_Node)] := hS22
 refine xe 1 [(2, v19)] ?_
 refine rt ?_
 refine ⟨rfl, ?_⟩
 obtain rfl := si hm
 refine ⟨_, _, _, ResL.tmp rfl (ResL.nil), hS22, ?_⟩
 exact ⟨v19, c20, rfl, rfl, q23⟩

def r54_0 : List COp := [u 2 (.assign (.const (.slice none 0 0)))]
def r54_1 : List COp := [u 3 (mv 0), u 4 (.binOp .eql 40 (t 3) (.const (.slice none 0 0)) 40)]
def r54_2 : List COp := [u 2 (.assign (.const (.slice none 0 0)))]
def r54_3 : List COp := [u 5 (.buildSlice 40 0 #[]), u 6 (mv 0), u 7 (cb .append #[(t 5), (t 6)] #[40, 40]), u 2 (sg 7)]
def slices_Clone_int (F : Nat) (a0 : List Int) : Option (List Int) :=
 if ([] : List Int).length + a0.length ≤ 17592186044416 then
  some (([] : List Int) ++ a0)
 else none
theorem slices_Clone_int_ok (F : Nat) {h : AH} {Z : Zn} {a0 : List Int} {v2 : Value} (hP : Pre Z h []) (q1 : RS (α := Int) Z v2 a0) {r : (List Int)} (hm : slices_Clone_int F a0 = some r) :
  ∃ v h' Z' A', callI Try.prog 54 [v2] h = some (v, h') ∧ St h (idsL []) Z (0, 0) Z' h' A' ∧ ∃ v4 : Value, ∃ c5 : List Value, v4 = v ∧ A' = [.gs v4 c5 (csz Int)] ∧ RCs (α := Int) Z' c5 r := by
 refine fn_intro (A := []) (Q := fun v Z' A' => ∃ v4 : Value, ∃ c5 : List Value, v4 = v ∧ A' = [.gs v4 c5 (csz Int)] ∧ RCs (α := Int) Z' c5 r) Try.func54 rfl rfl (by kernel_rfl) hP ?_
 intro hs hS
 unfold slices_Clone_int at hm
 replace hS : St hs [] Z (0, 0) Z hs [] := hS
 refine sr r54_0 ?_
 refine xe 1 [(0, v2)] ?_
 refine sq ?_
 refine sr r54_1 ?_
 refine xq 1 [(3, v2), (0, v2)] ?_
 rcases nil_or q1 with ⟨hn8, hv9⟩ | hv9
 replace hm : some [] = some r := by rw [hn8] at hm; simpa using hm
 refine r_step rfl trivial (o_cmp rfl rfl (c_nilT ⟨_, Try.underlying40⟩ hv9)) ?_
 refine xf [(4, .bool true), (0, v2)] ?_
 refine cT 4 rfl ?_
 refine sr r54_2 ?_
 refine xe 1 [(2, .slice none 0 0)] ?_
 refine rt ?_
 refine ⟨rfl, ?_⟩
 have hS10 := hS.nilGs (csz Int)
 obtain rfl := si hm
 refine ⟨_, _, _, ResL.tmp rfl (ResL.nil), hS10, ?_⟩
 exact ⟨(.slice none 0 0), [], rfl, rfl, (RCs.nil0 _)⟩
 refine r_step rfl trivial (o_cmp rfl rfl (c_nilF ⟨_, Try.underlying40⟩ hv9)) ?_
 refine xf [(4, .bool false), (0, v2)] ?_
 refine kF 4 rfl ?_
 refine sr r54_3 ?_
 have q15 : RCs (α := Int) Z [] [] := RCs.nil0 _
 refine r_row rfl trivial (o_bs (cells := []) (s := 1) (by kernel_rfl)) (by kernel_rfl) hS ?_
 intro v12 h13 hS14
 replace hS14 : St _ _ _ _ _ _ [.gs v12 [] (csz Int)] := hS14
 refine xq 1 [(6, v2), (5, v12)] ?_
 obtain ⟨c18, nw17⟩ := RS.news q1 (hS14).inv
 obtain ⟨hc24, hm⟩ := chk hm
 refine r_ex3 rfl trivial (o_app (ys := a0) (by_ := 8) hS14 (i := 0) rfl q15 nw17 rfl rfl (by kernel_rfl) (by omega) (by omega)) ?_
 rintro v19 c20 h21 ⟨q23, hS22⟩
 replace hS22 : St _ _ _ _ _ _ [.gs v19 c20 (csz Int)] := hS22
 refine xe 1 [(2, v19)] ?_
 refine rt ?_
 refine ⟨rfl, ?_⟩
 obtain rfl := si hm
 refine ⟨_, _, _, ResL.tmp rfl (ResL.nil), hS22, ?_⟩
 exact ⟨v19, c20, rfl, rfl, q23⟩

def r25_0 : List COp := [u 1 (.box 29 (t 0)), u 2 (.assign (.const (.pointer none)))]
def r25_1 : List COp := [u 6 (fa 29 1 0), u 7 (ld 27 6), u 8 (cf 53 #[(t 7)] #[27]), u 9 (.build 29 #[(0, (t 8))]), u 10 (.build 65 #[(0, (t 9))]), u 11 (.box 65 (t 10)), u 3 (sg 11)]
def r25_2 : List COp := [u 12 (mv 3), u 13 (nk 12), u 14 (fa 65 13 0), u 15 (fa 29 14 0), u 16 (ld 27 15), u 17 (cb .len #[(t 16)] #[27]), u 18 (.move (ci 0))]
def r25_3 : List COp := [u 19 (bo .lss 3 18 17 3)]
def r25_4 : List COp := [u 20 (mv 18), u 21 (ia 27 16 18), u 22 (ld 42 21), u 5 (.alloc 42), u 4 (sg 20), o (.store 42 (t 5) (t 22))]
def r25_5 : List COpF := [uP 23 (mv 3), uP 24 (nk 23), uP 25 (fa 65 24 0), uP 26 (fa 29 25 0), uL 27 (ld 27 26), uP 28 (mv 4), uP 29 (fa 42 5 4), uL 30 (ld 40 29), uF 31 (cf 54 #[(t 30)] #[40]) .make [7], uP 32 (ia 27 27 28), uP 33 (fa 42 32 4), oF (.store 40 (t 33) (t 31)) .make [4, 7]]
def r25_6 : List COp := [u 34 (bc .add 3 18 1 3), u 18 (mv 34)]
def r25_7 : List COp := [u 35 (mv 3), u 2 (sg 35)]
def arena_own_l0 (F : Nat) (a0 : arena_Tree) : Nat → (List api_Node) → Int → Int → Option (List api_Node)
 | 0, _, _, _ => none
 | n + 1, x166, x170, x171 =>
  if x171 < x170 then
   if 0 ≤ x171 ∧ x171 < (x166.length : Int) then
    (x166[x171.toNat]?).bind fun x178 =>
    (slices_Clone_int F x178.Kids).bind fun r197 =>
    if 0 ≤ x171 ∧ x171 < (x166.length : Int) then
     (x166[x171.toNat]?).bind fun x219 =>
     arena_own_l0 F a0 n (x166.set x171.toNat (⟨x219.Kind, x219.From, x219.To, x219.Up, r197, x219.Key⟩ : api_Node)) x170 (w64 (x171 + 1))
    else none
   else none
  else
   some x166
def arena_own (F : Nat) (a0 : arena_Tree) : Option arena_forest :=
 (slices_Clone_api_Node F a0.Nodes).bind fun r10 =>
 ((arena_own_l0 F a0 F r10 (r10.length : Int) 0) : Option (List api_Node)).bind fun o => match o with
  | x240 => some (⟨(⟨x240⟩ : arena_Tree)⟩ : arena_forest)
theorem arena_own_ok (F : Nat) {h : AH} {Z : Zn} {a0 : arena_Tree} {v2 : Value} (hP : Pre Z h []) (q1 : RS (α := api_Node) Z v2 a0.Nodes) {r : arena_forest} (hm : arena_own F a0 = some r) :
  ∃ v h' Z' A', callI Try.prog 25 [.agg #[v2]] h = some (v, h') ∧ St h (idsL []) Z (0, 0) Z' h' A' ∧ ∃ b3 : Nat, ∃ v5 : Value, ∃ c6 : List Value, Pt b3 0 = v ∧ A' = [.blk b3 [v5], .gs v5 c6 (csz api_Node)] ∧ RCs (α := api_Node) Z' c6 r.Tree.Nodes := by
 refine fn_intro (A := []) (Q := fun v Z' A' => ∃ b3 : Nat, ∃ v5 : Value, ∃ c6 : List Value, Pt b3 0 = v ∧ A' = [.blk b3 [v5], .gs v5 c6 (csz api_Node)] ∧ RCs (α := api_Node) Z' c6 r.Tree.Nodes) Try.func25 rfl rfl (by kernel_rfl) hP ?_
 intro hs hS
 unfold arena_own at hm
 replace hS : St hs [] Z (0, 0) Z hs [] := hS
 refine sr r25_0 ?_
 refine r_blk rfl trivial (o_box (cs := [v2]) rfl rfl) hS ?_
 intro b7 h8 hS9
 refine xe 1 [(1, Pt b7 0)] ?_
 refine sr r25_1 ?_
 refine xq 1 [(6, Pt b7 0)] ?_
 refine r_step rfl trivial (o_ldb (v := v2) hS9 (i := 0) rfl rfl (by kernel_rfl)) ?_
 obtain ⟨r10, hx11, hm⟩ := obind hm
 have hSr17 : St _ _ _ _ _ _ ([] ++ [.blk b7 [v2]]) := hS9
 obtain ⟨v12, h13, Z18, A20, hcl14, hSc15, v22, c23, rfl, rfl, q21⟩ := slices_Clone_api_Node_ok F hSr17.preL q1 hx11
 have hS16 := hSr17.call hSc15
 have hZ19 := hSc15.zle
 replace hS16 : St _ _ _ _ _ _ [.gs v22 c23 (csz api_Node), .blk b7 [v2]] := hS16
 refine r_step rfl trivial (o_call hcl14 rfl rfl rfl) ?_
 refine r_step rfl trivial (o_build (v := .agg #[v22]) rfl (CA.cons (cs := [v22]) (hS16.gcell1 (i := 0) rfl) (CA.nil0)) (by kernel_rfl)) ?_
 refine xq 1 [(10, .agg #[v22])] ?_
 refine r_blk rfl trivial (o_box (cs := [v22]) rfl rfl) hS16 ?_
 intro b24 h25 hS26
 refine xe 1 [(3, Pt b24 0)] ?_
 refine sq ?_
 refine sr r25_2 ?_
 refine xq 4 [(15, Pt b24 0), (3, Pt b24 0)] ?_
 refine r_step rfl trivial (o_ldb (v := v22) hS26 (i := 0) rfl rfl (by kernel_rfl)) ?_
 refine r_step rfl trivial (o_len rfl (hS26.glen (i := 1) rfl q21) ⟨_, Try.underlying27⟩) ?_
 refine xe 1 [(18, V 0), (17, V (r10.length : Int)), (16, v22), (3, Pt b24 0)] ?_
 obtain ⟨o163, ho162, hm⟩ := obind hm
 refine W_join [3] (fun l h => ∃ Z238 : Zn, ∃ x240 : List api_Node, ∃ b239 : Nat, ∃ v242 : Value, ∃ c243 : List Value, x240 = o163 ∧ RCs (α := api_Node) Z238 c243 x240 ∧ l = [(3, Pt b239 0)] ∧ St hs [] Z (0, 0) Z238 h [.blk b239 [v242], .gs v242 c243 (csz api_Node)]) ?_ ?_
 rintro l h244 ⟨Z238, x240, b239, v242, c243, rfl, q241, rfl, hS245⟩
 try dsimp only at hm
 refine sr r25_7 ?_
 refine xe 2 [(2, Pt b239 0)] ?_
 refine rt ?_
 refine ⟨rfl, ?_⟩
 obtain rfl := si hm
 refine ⟨_, _, _, ResL.tmp rfl (ResL.nil), hS245, ?_⟩
 exact ⟨b239, v242, c243, rfl, rfl, q241⟩
 refine bk 0 ?_
 refine lp [3, 16, 17, 18] (fun n l h => ∃ Z164 : Zn, ∃ x166 : List api_Node, ∃ x170 : Int, ∃ x171 : Int, ∃ b165 : Nat, ∃ v168 : Value, ∃ c169 : List Value, arena_own_l0 F a0 n x166 x170 x171 = some o163 ∧ RCs (α := api_Node) Z164 c169 x166 ∧ l = [(3, Pt b165 0), (16, v168), (17, V x170), (18, V x171)] ∧ St hs [] Z (0, 0) Z164 h [.blk b165 [v168], .gs v168 c169 (csz api_Node)]) F ⟨_, r10, (r10.length : Int), 0, b24, v22, c23, ho162, q21, rfl, (hS26.takeN 2)⟩ ?_
 rintro n174 l h172 ⟨Z164, x166, x170, x171, b165, v168, c169, ho162, q167, rfl, hS173⟩
 rcases n174 with _ | n174
 cases (show none = some o163 from ho162)
 rw [arena_own_l0] at ho162
 refine sr r25_3 ?_
 rcases ifs ho162 with ⟨hp176, ho162⟩ | ⟨hp176, ho162⟩
 refine r_step rfl trivial (o_cmp rfl rfl (c_lss_T hp176)) ?_
 refine xf [(19, .bool true), (3, Pt b165 0), (16, v168), (17, V x170), (18, V x171)] ?_
 refine sq ?_
 refine kT 19 rfl ?_
 refine sq ?_
 refine bk 1 ?_
 refine sr r25_4 ?_
 refine xq 1 [(20, V x171), (3, Pt b165 0), (16, v168), (17, V x170), (18, V x171)] ?_
 obtain ⟨hc177, ho162⟩ := chk ho162
 refine r_step rfl trivial (o_index rfl rfl (by kernel_rfl : slTy _ _ = some (csz api_Node)) (hS173.gbased (j := 1) rfl q167 (by omega)) hc177.1 hc177.2) ?_
 obtain ⟨x178, hx179, ho162⟩ := obind ho162
 obtain ⟨cs180, hc181, he182, ht183⟩ := hS173.gel (j := 1) rfl q167 (i := x171) hx179
 obtain ⟨v184, q185, rfl⟩ := rc_api_Node hc181
 refine r_step rfl trivial (o_lde (w := .agg #[V x178.Kind, V x178.From, V x178.To, V x178.Up, v184, .bool x178.Key]) he182 rfl (by kernel_rfl)) ?_
 refine r_blk rfl trivial (o_alloc (cs := [V 0, V 0, V 0, V 0, .slice none 0 0, .bool false]) (by kernel_rfl)) hS173 ?_
 intro b186 h187 hS188
 refine xq 1 [(4, V x171), (5, Pt b186 0), (22, .agg #[V x178.Kind, V x178.From, V x178.To, V x178.Up, v184, .bool x178.Key]), (3, Pt b165 0), (16, v168), (17, V x170), (18, V x171)] ?_
 refine r_ex1 rfl trivial (o_stb (vs := [V x178.Kind, V x178.From, V x178.To, V x178.Up, v184, .bool x178.Key]) (cells' := (K42 v184 x178)) (L' := [.blk b186 (K42 v184 x178), .blk b165 [v168], .gs v168 c169 (csz api_Node)]) hS188 (i := 0) rfl rfl rfl rfl (by kernel_rfl) (one_cons rfl (one_cons rfl (one_cons rfl (one_cons rfl (one_cons (RS.one1 q185) (one_cons rfl one_nil)))))) rfl rfl rfl) ?_
 intro h189 hS190
 refine xf [(4, V x171), (5, Pt b186 0), (3, Pt b165 0), (16, v168), (17, V x170), (18, V x171)] ?_
 refine rgF r25_5 hS190 ?_
 intro bs191 h192 hlv194 hS193
 refine yq 4 [(26, Pt b165 0), (4, V x171), (5, Pt b186 0), (3, Pt b165 0), (16, v168), (17, V x170), (18, V x171)] ?_
 have lt195 : b165 < bs191 := hlv194.1 _ (List.mem_of_getElem? (i := 1) rfl) _ (by simp [Itm.ids])
 refine e_lookO (v := v168) rfl trivial rfl (by show b165 < _; omega) (same1 (v := v168) (hS193.gsim1 (i := 2) rfl)) (hS193.ldAt (i := 1) rfl (by kernel_rfl)) trivial ?_
 refine yq 2 [(29, Pt b186 4), (28, V x171), (27, v168), (3, Pt b165 0), (16, v168), (17, V x170), (18, V x171)] ?_
 have lt196 : b186 < bs191 := hlv194.1 _ (List.mem_of_getElem? (i := 0) rfl) _ (by simp [Itm.ids])
 refine e_lookO (v := v184) rfl trivial rfl (by show b186 < _; omega) (same1 (v := v184) (RS.sim1 q185)) (hS193.ldAt (i := 0) rfl (by kernel_rfl)) trivial ?_
 obtain ⟨r197, hx198, ho162⟩ := obind ho162
 have hSl204 := hS193.lown
 have hSr205 : St _ _ _ _ _ _ ([] ++ [.blk b186 (K42 v184 x178), .blk b165 [v168], .gs v168 c169 (csz api_Node)]) := hSl204
 obtain ⟨v199, h200, Z206, A208, hcl201, hSc202, v210, c211, rfl, rfl, q209⟩ := slices_Clone_int_ok F hSr205.preL q185 hx198
 have hS203 := hSr205.call hSc202
 have hZ207 := hSc202.zle
 replace hS203 : St _ _ _ _ _ _ [.gs v210 c211 (csz Int), .blk b186 (K42 v184 x178), .blk b165 [v168], .gs v168 c169 (csz api_Node)] := hS203
 refine e_still rfl trivial hS193 (o_call hcl201 rfl rfl rfl) hS203 (St.lowk hSc202) ?_
 intro h212 hS213
 obtain ⟨hc214, ho162⟩ := chk ho162
 refine e_val rfl trivial (o_index rfl rfl (by kernel_rfl : slTy _ _ = some (csz api_Node)) (hS213.gbased (j := 3) rfl (q167.mono hZ207) (by omega)) hc214.1 hc214.2) ?_
 refine yq 1 [(33, .pointer (some (elemA v168 x171 (csz api_Node) 4))), (31, v210), (3, Pt b165 0), (16, v168), (17, V x170), (18, V x171)] ?_
 obtain ⟨x219, hx220, ho162⟩ := obind ho162
 obtain ⟨Z215, hZ216, q217, hS218⟩ := (hS213.front 0 rfl).freeze q209
 replace hS218 : St _ _ _ _ _ _ [.blk b186 (K42 v184 x178), .blk b165 [v168], .gs v168 c169 (csz api_Node)] := hS218
 obtain ⟨cs221, hc222, he223, ht224⟩ := hS218.gel (j := 2) rfl (q167.mono (hZ207.trans hZ216)) (i := x171) hx220
 obtain ⟨v225, q226, rfl⟩ := rc_api_Node hc222
 have hF231 : St _ _ _ _ _ _ ([.gs v168 c169 (csz api_Node)] ++ [.blk b186 (K42 v184 x178), .blk b165 [v168]]) := (hS218.front 2 rfl)
 refine e_mk2 rfl trivial hF231 (o_ste (u' := (⟨x219.Kind, x219.From, x219.To, x219.Up, r197, x219.Key⟩ : api_Node)) (vs := [v210]) (cs' := [V x219.Kind, V x219.From, V x219.To, V x219.Up, v210, .bool x219.Key]) hF231.sub (m := 0) rfl (q167.mono (hZ207.trans hZ216)) hx220 ht224 rfl rfl (RS.cell1 q217) (by kernel_rfl) (one_cons (RS.one1 q217) one_nil) rfl rfl ⟨_, q217, rfl⟩) (hZ207.trans hZ216) (.keep (hF231.neB 0 rfl blk_mem) (.keep (hF231.neB 1 rfl blk_mem) .nil)) ?_
 rintro h227 c228 ⟨q230, hS229⟩
 replace hS229 : St _ _ _ _ _ _ [.gs v168 c228 (csz api_Node), .blk b186 (K42 v184 x178), .blk b165 [v168]] := hS229
 refine yf [(3, Pt b165 0), (16, v168), (17, V x170), (18, V x171)] ?_
 have hS232 := hS229.unres
 refine rg r25_6 ?_
 refine xe 2 [(18, V (w64 (x171 + 1))), (3, Pt b165 0), (16, v168), (17, V x170)] ?_
 exact ⟨n174, Nat.lt_succ_self _, ⟨_, x166.set x171.toNat (⟨x219.Kind, x219.From, x219.To, x219.Up, r197, x219.Key⟩ : api_Node), x170, w64 (x171 + 1), b165, v168, c228, ho162, q230, rfl, (((hS232.front 0 rfl).front 2 rfl).takeN 2)⟩⟩
 refine r_step rfl trivial (o_cmp rfl rfl (c_lss_F hp176)) ?_
 refine xf [(19, .bool false), (3, Pt b165 0), (16, v168), (17, V x170), (18, V x171)] ?_
 refine sq ?_
 refine cF 19 rfl ?_
 refine xt 0 ?_
 refine blkX_hit ?_
 obtain rfl := si ho162
 exact ⟨_, x166, b165, v168, c169, rfl, q167, rfl, hS173⟩

def r42_0 : List COp := [u 4 (.assign (.const (.bool false)))]
def r42_1 : List COp := [u 5 (mv 1), u 6 (bc .geq 3 5 0 3), u 7 (mv 6), gt 7 8 (mv 1), gt 7 9 (mv 0), gt 7 10 (nk 9), gt 7 11 (fa 65 10 0), gt 7 12 (fa 29 11 0), gt 7 13 (ld 27 12), gt 7 14 (cb .len #[(t 13)] #[27]), gt 7 15 (bo .lss 3 8 14 3), u 16 (pf 7 15), u 4 (sg 16)]
def arena_forest_has (F : Nat) (a0 : arena_forest) (a1 : Int) : Option Bool :=
 if (0 : Int) ≤ a1 then
  if a1 < (a0.Tree.Nodes.length : Int) then
   some true
  else
   some false
 else
  some false
theorem arena_forest_has_ok (F : Nat) {h : AH} {Z : Zn} {a0 : arena_forest} {a1 : Int} {b1 : Nat} {v3 : Value} {c4 : List Value} (hP : Pre Z h [.blk b1 [v3], .gs v3 c4 (csz api_Node)]) (q2 : RCs (α := api_Node) Z c4 a0.Tree.Nodes) {r : Bool} (hm : arena_forest_has F a0 a1 = some r) :
  ∃ v h' Z' A', callI Try.prog 42 [Pt b1 0, V a1] h = some (v, h') ∧ St h (idsL [.blk b1 [v3], .gs v3 c4 (csz api_Node)]) Z (0, 0) Z' h' A' ∧ .bool r = v ∧ A' = [.blk b1 [v3], .gs v3 c4 (csz api_Node)] := by
 refine fn_intro (A := [.blk b1 [v3], .gs v3 c4 (csz api_Node)]) (Q := fun v Z' A' => .bool r = v ∧ A' = [.blk b1 [v3], .gs v3 c4 (csz api_Node)]) Try.func42 rfl rfl (by kernel_rfl) hP ?_
 intro hs hS
 unfold arena_forest_has at hm
 refine sr r42_0 ?_
 refine xe 1 [(0, Pt b1 0), (1, V a1)] ?_
 refine sr r42_1 ?_
 refine xq 1 [(5, V a1), (0, Pt b1 0), (1, V a1)] ?_
 rcases ifs hm with ⟨hp5, hm⟩ | ⟨hp5, hm⟩
 refine r_step rfl trivial (o_cmp rfl rfl (c_geq_T hp5)) ?_
 refine xq 6 [(12, Pt b1 0), (8, V a1), (7, .bool true)] ?_
 refine r_step rfl rfl (o_ldb (v := v3) hS (i := 0) rfl rfl (by kernel_rfl)) ?_
 refine r_step rfl rfl (o_len rfl (hS.glen (i := 1) rfl q2) ⟨_, Try.underlying27⟩) ?_
 rcases ifs hm with ⟨hp6, hm⟩ | ⟨hp6, hm⟩
 refine r_step rfl rfl (o_cmp rfl rfl (c_lss_T hp6)) ?_
 refine xe 2 [(4, .bool true)] ?_
 refine rt ?_
 refine ⟨rfl, ?_⟩
 obtain rfl := si hm
 refine ⟨_, _, _, ResL.tmp rfl (ResL.nil), hS, ?_⟩
 exact ⟨rfl, rfl⟩
 refine r_step rfl rfl (o_cmp rfl rfl (c_lss_F hp6)) ?_
 refine xe 2 [(4, .bool false)] ?_
 refine rt ?_
 refine ⟨rfl, ?_⟩
 obtain rfl := si hm
 refine ⟨_, _, _, ResL.tmp rfl (ResL.nil), hS, ?_⟩
 exact ⟨rfl, rfl⟩
 refine r_step rfl trivial (o_cmp rfl rfl (c_geq_F hp5)) ?_
 refine xe 11 [(4, .bool false)] ?_
 refine rt ?_
 refine ⟨rfl, ?_⟩
 obtain rfl := si hm
 refine ⟨_, _, _, ResL.tmp rfl (ResL.nil), hS, ?_⟩
 exact ⟨rfl, rfl⟩

def r43_0 : List COp := [u 7 (mv 0), u 8 (nk 7), u 9 (fa 65 8 0), u 10 (fa 29 9 0), u 11 (ld 27 10), u 12 (cb .len #[(t 11)] #[27]), u 6 (sg 12)]
def r43_1 : List COp := [u 13 (mv 0), u 14 (mv 1), u 15 (cf 42 #[(t 13), (t 14)] #[62, 3]), u 16 (mv 15), gt 16 17 (mv 6), gt 16 18 (bc .gtr 3 17 0 3), u 19 (pf 16 18)]
def r43_2 : List COp := [u 20 (mv 6), u 21 (bc .sub 3 20 1 3), u 6 (sg 21)]
def r43_3 : List COpF := [uP 22 (mv 0), uP 23 (nk 22), uP 24 (fa 65 23 0), uP 25 (fa 29 24 0), uL 26 (ld 27 25), uP 27 (mv 1), uP 28 (mv 0), uP 29 (nk 28), uP 30 (fa 65 29 0), uP 31 (fa 29 30 0), uL 32 (ld 27 31), uP 33 (mv 1), uP 34 (ia 27 32 33), uP 35 (fa 42 34 2), uL 36 (ld 3 35), uP 37 (mv 2), uP 38 (cb .max #[(t 36), (t 37)] #[3, 3]), uP 39 (ia 27 26 27), uP 40 (fa 42 39 2), oF (.store 3 (t 40) (t 38)) .make [4, 10, 14]]
def r43_4 : List COp := [u 41 (mv 0), u 42 (nk 41), u 43 (fa 65 42 0), u 44 (fa 29 43 0), u 45 (ld 27 44), u 46 (mv 1), u 47 (ia 27 45 46), u 48 (fa 42 47 3), u 49 (ld 3 48), u 1 (sg 49)]
def arena_forest_grow_l0 (F : Nat) (a0 : arena_forest) (a1 : Int) (a2 : Int) : Nat → (List api_Node) → Int → Int → Option (List api_Node)
 | 0, _, _, _ => none
 | n + 1, x183, x186, x187 =>
  (arena_forest_has F (⟨(⟨x183⟩ : arena_Tree)⟩ : arena_forest) x186).bind fun r217 =>
  if r217 = true then
   if (0 : Int) < x187 then
    if 0 ≤ x186 ∧ x186 < (x183.length : Int) then
     (x183[x186.toNat]?).bind fun x237 =>
     if 0 ≤ x186 ∧ x186 < (x183.length : Int) then
      (x183[x186.toNat]?).bind fun x249 =>
      if 0 ≤ x186 ∧ x186 < ((x183.set x186.toNat (⟨x249.Kind, x249.From, imax x237.To a2, x249.Up, x249.Kids, x249.Key⟩ : api_Node)).length : Int) then
       ((x183.set x186.toNat (⟨x249.Kind, x249.From, imax x237.To a2, x249.Up, x249.Kids, x249.Key⟩ : api_Node))[x186.toNat]?).bind fun x264 =>
       arena_forest_grow_l0 F a0 a1 a2 n (x183.set x186.toNat (⟨x249.Kind, x249.From, imax x237.To a2, x249.Up, x249.Kids, x249.Key⟩ : api_Node)) x264.Up (w64 (x187 - 1))
      else none
     else none
    else none
   else
    some x183
  else
   some x183
def arena_forest_grow (F : Nat) (a0 : arena_forest) (a1 : Int) (a2 : Int) : Option arena_forest :=
 ((arena_forest_grow_l0 F a0 a1 a2 F a0.Tree.Nodes a1 (a0.Tree.Nodes.length : Int)) : Option (List api_Node)).bind fun o => match o with
  | x276 => some (⟨(⟨x276⟩ : arena_Tree)⟩ : arena_forest)
theorem arena_forest_grow_ok (F : Nat) {h : AH} {Z : Zn} {a0 : arena_forest} {a1 : Int} {a2 : Int} {b1 : Nat} {v3 : Value} {c4 : List Value} (hP : Pre Z h [.blk b1 [v3], .gs v3 c4 (csz api_Node)]) (q2 : RCs (α := api_Node) Z c4 a0.Tree.Nodes) {r : arena_forest} (hm : arena_forest_grow F a0 a1 a2 = some r) :
  ∃ v h' Z' A', callI Try.prog 43 [Pt b1 0, V a1, V a2] h = some (v, h') ∧ St h (idsL [.blk b1 [v3], .gs v3 c4 (csz api_Node)]) Z (0, 0) Z' h' A' ∧ ∃ c6 : List Value, .tuple #[] = v ∧ A' = [.blk b1 [v3], .gs v3 c6 (csz api_Node)] ∧ RCs (α := api_Node) Z' c6 r.Tree.Nodes := by
 refine fn_intro (A := [.blk b1 [v3], .gs v3 c4 (csz api_Node)]) (Q := fun v Z' A' => ∃ c6 : List Value, .tuple #[] = v ∧ A' = [.blk b1 [v3], .gs v3 c6 (csz api_Node)] ∧ RCs (α := api_Node) Z' c6 r.Tree.Nodes) Try.func43 rfl rfl (by kernel_rfl) hP ?_
 intro hs hS
 unfold arena_forest_grow at hm
 refine sr r43_0 ?_
 refine xq 4 [(10, Pt b1 0), (0, Pt b1 0), (1, V a1), (2, V a2)] ?_
 refine r_step rfl trivial (o_ldb (v := v3) hS (i := 0) rfl rfl (by kernel_rfl)) ?_
 refine r_step rfl trivial (o_len rfl (hS.glen (i := 1) rfl q2) ⟨_, Try.underlying27⟩) ?_
 refine xe 1 [(6, V (a0.Tree.Nodes.length : Int)), (0, Pt b1 0), (1, V a1), (2, V a2)] ?_
 obtain ⟨o181, ho180, hm⟩ := obind hm
 refine W_join [] (fun l h => ∃ Z275 : Zn, ∃ x276 : List api_Node, ∃ c278 : List Value, x276 = o181 ∧ RCs (α := api_Node) Z275 c278 x276 ∧ l = [] ∧ St hs (idsL [.blk b1 [v3], .gs v3 c4 (csz api_Node)]) Z (0, 0) Z275 h [.blk b1 [v3], .gs v3 c278 (csz api_Node)]) ?_ ?_
 rintro l h279 ⟨Z275, x276, c278, rfl, q277, rfl, hS280⟩
 try dsimp only at hm
 obtain rfl := si hm
 refine ⟨_, _, _, ResL.nil, hS280, ?_⟩
 exact ⟨c278, rfl, rfl, q277⟩
 refine bk 0 ?_
 refine lp [0, 1, 2, 6] (fun n l h => ∃ Z182 : Zn, ∃ x183 : List api_Node, ∃ x186 : Int, ∃ x187 : Int, ∃ c185 : List Value, arena_forest_grow_l0 F a0 a1 a2 n x183 x186 x187 = some o181 ∧ RCs (α := api_Node) Z182 c185 x183 ∧ l = [(0, Pt b1 0), (1, V x186), (2, V a2), (6, V x187)] ∧ St hs (idsL [.blk b1 [v3], .gs v3 c4 (csz api_Node)]) Z (0, 0) Z182 h [.blk b1 [v3], .gs v3 c185 (csz api_Node)]) F ⟨_, a0.Tree.Nodes, a1, (a0.Tree.Nodes.length : Int), c4, ho180, q2, rfl, hS⟩ ?_
 rintro n190 l h188 ⟨Z182, x183, x186, x187, c185, ho180, q184, rfl, hS189⟩
 rcases n190 with _ | n190
 cases (show none = some o181 from ho180)
 rw [arena_forest_grow_l0] at ho180
 refine sq ?_
 refine sr r43_1 ?_
 refine xq 2 [(14, V x186), (13, Pt b1 0), (0, Pt b1 0), (1, V x186), (2, V a2), (6, V x187)] ?_
 obtain ⟨r217, hx218, ho180⟩ := obind ho180
 have hF224 : St _ _ _ _ _ _ ([.blk b1 [v3], .gs v3 c185 (csz api_Node)] ++ []) := ((hS189.front 1 rfl).front 1 rfl)
 obtain ⟨v219, h220, Z225, A227, hcl221, hSc222, rfl, rfl⟩ := arena_forest_has_ok F hF224.preL q184 hx218
 have hZ226 := hSc222.zle
 have hS223 := hF224.call hSc222
 replace hS223 : St _ _ _ _ _ _ [.blk b1 [v3], .gs v3 c185 (csz api_Node)] := hS223
 refine r_step rfl trivial (o_call hcl221 rfl rfl rfl) ?_
 refine xq 1 [(16, .bool r217), (0, Pt b1 0), (1, V x186), (2, V a2), (6, V x187)] ?_
 rcases ifs ho180 with ⟨hp228, ho180⟩ | ⟨hp228, ho180⟩
 refine r_setb (t := 16) rfl hp228 ?_
 refine xq 1 [(17, V x187), (16, .bool true), (0, Pt b1 0), (1, V x186), (2, V a2), (6, V x187)] ?_
 rcases ifs ho180 with ⟨hp229, ho180⟩ | ⟨hp229, ho180⟩
 refine r_step rfl rfl (o_cmp rfl rfl (c_gtr_T hp229)) ?_
 refine xe 1 [(19, .bool true), (0, Pt b1 0), (1, V x186), (2, V a2), (6, V x187)] ?_
 refine kT 19 rfl ?_
 refine sq ?_
 refine bk 1 ?_
 refine srF r43_3 hS223 ?_
 intro bs230 h231 hlv233 hS232
 refine yq 4 [(25, Pt b1 0), (0, Pt b1 0), (1, V x186), (2, V a2), (6, V x187)] ?_
 have lt234 : b1 < bs230 := hlv233.1 _ (List.mem_of_getElem? (i := 0) rfl) _ (by simp [Itm.ids])
 refine e_lookO (v := v3) rfl trivial rfl (by show b1 < _; omega) (same1 (v := v3) (hS232.gsim1 (i := 1) rfl)) (hS232.ldAt (i := 0) rfl (by kernel_rfl)) trivial ?_
 refine yq 5 [(31, Pt b1 0), (27, V x186), (26, v3), (0, Pt b1 0), (1, V x186), (2, V a2), (6, V x187)] ?_
 have lt235 : b1 < bs230 := hlv233.1 _ (List.mem_of_getElem? (i := 0) rfl) _ (by simp [Itm.ids])
 refine e_lookO (v := v3) rfl trivial rfl (by show b1 < _; omega) (same1 (v := v3) (hS232.gsim1 (i := 1) rfl)) (hS232.ldAt (i := 0) rfl (by kernel_rfl)) trivial ?_
 refine yq 1 [(33, V x186), (32, v3), (27, V x186), (26, v3), (0, Pt b1 0), (1, V x186), (2, V a2), (6, V x187)] ?_
 obtain ⟨hc236, ho180⟩ := chk ho180
 refine e_val rfl trivial (o_index rfl rfl (by kernel_rfl : slTy _ _ = some (csz api_Node)) (hS232.gbased (j := 1) rfl (q184.mono hZ226) (by omega)) hc236.1 hc236.2) ?_
 refine yq 1 [(35, .pointer (some (elemA v3 x186 (csz api_Node) 2))), (27, V x186), (26, v3), (0, Pt b1 0), (1, V x186), (2, V a2), (6, V x187)] ?_
 obtain ⟨x237, hx238, ho180⟩ := obind ho180
 obtain ⟨cs239, hc240, he241, ht242⟩ := hS232.gel (j := 1) rfl (q184.mono hZ226) (i := x186) hx238
 obtain ⟨v243, q244, rfl⟩ := rc_api_Node hc240
 have ps245 := pos_of hx238
 have hB246 := hS232.gbased (j := 1) rfl (q184.mono hZ226) ps245
 have lt247 : (baseOf v3).block < bs230 := row_ltM (hlv233.1 _ (List.mem_of_getElem? (i := 1) rfl)) hB246
 refine e_lookB rfl trivial rfl (by show (baseOf v3).block < _; omega) (same1 (v := V x237.To) trivial) (o_lde (w := V x237.To) he241 rfl (by kernel_rfl)) trivial ?_
 refine yq 2 [(38, V (imax x237.To a2)), (27, V x186), (26, v3), (0, Pt b1 0), (1, V x186), (2, V a2), (6, V x187)] ?_
 obtain ⟨hc248, ho180⟩ := chk ho180
 refine e_val rfl trivial (o_index rfl rfl (by kernel_rfl : slTy _ _ = some (csz api_Node)) (hS232.gbased (j := 1) rfl (q184.mono hZ226) (by omega)) hc248.1 hc248.2) ?_
 refine yq 1 [(40, .pointer (some (elemA v3 x186 (csz api_Node) 2))), (38, V (imax x237.To a2)), (0, Pt b1 0), (1, V x186), (2, V a2), (6, V x187)] ?_
 obtain ⟨x249, hx250, ho180⟩ := obind ho180
 obtain ⟨cs251, hc252, he253, ht254⟩ := hS232.gel (j := 1) rfl (q184.mono hZ226) (i := x186) hx250
 obtain ⟨v255, q256, rfl⟩ := rc_api_Node hc252
 have hF261 : St _ _ _ _ _ _ ([.gs v3 c185 (csz api_Node)] ++ [.blk b1 [v3]]) := (hS232.front 1 rfl)
 refine e_mk2 rfl trivial hF261 (o_ste (u' := (⟨x249.Kind, x249.From, imax x237.To a2, x249.Up, x249.Kids, x249.Key⟩ : api_Node)) (vs := [V (imax x237.To a2)]) (cs' := [V x249.Kind, V x249.From, V (imax x237.To a2), V x249.Up, v255, .bool x249.Key]) hF261.sub (m := 0) rfl (q184.mono hZ226) hx250 ht254 rfl rfl rfl (by kernel_rfl) rfl rfl rfl ⟨_, q256, rfl⟩) (Zle.refl _) (.drop (by decide) (.keep (hF261.neB 0 rfl blk_mem) (.keep (hF261.neB 0 rfl blk_mem) .nil))) ?_
 rintro h257 c258 ⟨q260, hS259⟩
 replace hS259 : St _ _ _ _ _ _ [.gs v3 c258 (csz api_Node), .blk b1 [v3]] := hS259
 refine yf [(0, Pt b1 0), (1, V x186), (2, V a2), (6, V x187)] ?_
 have hS262 := hS259.unres
 refine rg r43_4 ?_
 refine xq 4 [(44, Pt b1 0), (0, Pt b1 0), (1, V x186), (2, V a2), (6, V x187)] ?_
 refine r_step rfl trivial (o_ldb (v := v3) hS262 (i := 1) rfl rfl (by kernel_rfl)) ?_
 refine xq 1 [(46, V x186), (45, v3), (0, Pt b1 0), (1, V x186), (2, V a2), (6, V x187)] ?_
 obtain ⟨hc263, ho180⟩ := chk ho180
 refine r_step rfl trivial (o_index rfl rfl (by kernel_rfl : slTy _ _ = some (csz api_Node)) (hS262.gbased (j := 0) rfl q260 (by omega)) hc263.1 hc263.2) ?_
 refine xq 1 [(48, .pointer (some (elemA v3 x186 (csz api_Node) 3))), (0, Pt b1 0), (1, V x186), (2, V a2), (6, V x187)] ?_
 obtain ⟨x264, hx265, ho180⟩ := obind ho180
 obtain ⟨cs266, hc267, he268, ht269⟩ := hS262.gel (j := 0) rfl q260 (i := x186) hx265
 obtain ⟨v270, q271, rfl⟩ := rc_api_Node hc267
 refine r_step rfl trivial (o_lde (w := V x264.Up) he268 rfl (by kernel_rfl)) ?_
 refine xe 1 [(1, V x264.Up), (0, Pt b1 0), (2, V a2), (6, V x187)] ?_
 refine rg r43_2 ?_
 refine xe 3 [(6, V (w64 (x187 - 1))), (1, V x264.Up), (0, Pt b1 0), (2, V a2)] ?_
 exact ⟨n190, Nat.lt_succ_self _, ⟨_, x183.set x186.toNat (⟨x249.Kind, x249.From, imax x237.To a2, x249.Up, x249.Kids, x249.Key⟩ : api_Node), x264.Up, w64 (x187 - 1), c258, ho180, q260, rfl, ((hS262.front 0 rfl).front 1 rfl)⟩⟩
 refine r_step rfl rfl (o_cmp rfl rfl (c_gtr_F hp229)) ?_
 refine xe 1 [(19, .bool false), (0, Pt b1 0), (1, V x186), (2, V a2), (6, V x187)] ?_
 refine cF 19 rfl ?_
 refine xt 0 ?_
 refine blkX_hit ?_
 obtain rfl := si ho180
 exact ⟨_, x183, c185, rfl, (q184.mono hZ226), rfl, hS223⟩
 refine r_setb (t := 16) rfl (Bool.eq_false_iff.2 hp228) ?_
 refine xe 3 [(19, .bool false), (0, Pt b1 0), (1, V x186), (2, V a2), (6, V x187)] ?_
 refine cF 19 rfl ?_
 refine xt 0 ?_
 refine blkX_hit ?_
 obtain rfl := si ho180
 exact ⟨_, x183, c185, rfl, (q184.mono hZ226), rfl, hS223⟩

def r22_0 : List COp := [u 3 (.box 29 (t 0)), u 6 (.alloc 29)]
def r22_1 : List COp := [u 8 (ld 29 3), u 9 (cf 25 #[(t 8)] #[29]), u 7 (sg 9)]
def r22_2 : List COp := [u 10 (mv 7), u 11 (mv 1), u 12 (cf 42 #[(t 10), (t 11)] #[62, 3]), u 13 (mv 12), gt 13 14 (mv 2), gt 13 15 (mv 7), gt 13 16 (nk 15), gt 13 17 (fa 65 16 0), gt 13 18 (fa 29 17 0), gt 13 19 (ld 27 18), gt 13 20 (.indexAddr 27 (t 19) (ci 0)), gt 13 21 (fa 42 20 2), gt 13 22 (ld 3 21), gt 13 23 (bo .leq 3 14 22 3), u 24 (pf 13 23)]
def r22_3 : List COp := [u 25 (mv 7), u 26 (mv 1), u 27 (mv 2), u 28 (cf 43 #[(t 25), (t 26), (t 27)] #[62, 3, 3])]
def r22_4 : List COp := [u 29 (mv 7), u 30 (nk 29), u 31 (fa 65 30 0), u 32 (ld 29 31), o (.store 29 (t 6) (t 32))]
def arena_Grow (F : Nat) (a0 : arena_Tree) (a1 : Int) (a2 : Int) : Option arena_Tree :=
 (arena_own F a0).bind fun r12 =>
 (((arena_forest_has F r12 a1).bind fun r64 =>
  if r64 = true then
   if 0 ≤ (0 : Int) ∧ (0 : Int) < (r12.Tree.Nodes.length : Int) then
    (r12.Tree.Nodes[(0 : Int).toNat]?).bind fun x77 =>
    if a2 ≤ x77.To then
     (arena_forest_grow F r12 a1 a2).bind fun r86 =>
     some r86.Tree.Nodes
    else
     some r12.Tree.Nodes
   else none
  else
   some r12.Tree.Nodes) : Option (List api_Node)).bind fun o => match o with
  | x102 => some (⟨x102⟩ : arena_Tree)
theorem arena_Grow_ok (F : Nat) {h : AH} {Z : Zn} {a0 : arena_Tree} {a1 : Int} {a2 : Int} {v2 : Value} (hP : Pre Z h []) (q1 : RS (α := api_Node) Z v2 a0.Nodes) {r : arena_Tree} (hm : arena_Grow F a0 a1 a2 = some r) :
  ∃ v h' Z' A', callI Try.prog 22 [.agg #[v2], V a1, V a2] h = some (v, h') ∧ St h (idsL []) Z (0, 0) Z' h' A' ∧ ∃ v4 : Value, ∃ c5 : List Value, .agg #[v4] = v ∧ A' = [.gs v4 c5 (csz api_Node)] ∧ RCs (α := api_Node) Z' c5 r.Nodes := by
 refine fn_intro (A := []) (Q := fun v Z' A' => ∃ v4 : Value, ∃ c5 : List Value, .agg #[v4] = v ∧ A' = [.gs v4 c5 (csz api_Node)] ∧ RCs (α := api_Node) Z' c5 r.Nodes) Try.func22 rfl rfl (by kernel_rfl) hP ?_
 intro hs hS
 unfold arena_Grow at hm
 replace hS : St hs [] Z (0, 0) Z hs [] := hS
 refine sr r22_0 ?_
 refine r_blk rfl trivial (o_box (cs := [v2]) rfl rfl) hS ?_
 intro b6 h7 hS8
 refine r_blk rfl trivial (o_alloc (cs := [.slice none 0 0]) (by kernel_rfl)) hS8 ?_
 intro b9 h10 hS11
 refine xf [(6, Pt b9 0), (3, Pt b6 0), (1, V a1), (2, V a2)] ?_
 refine sr r22_1 ?_
 refine r_step rfl trivial (o_ldb (v := .agg #[v2]) hS11 (i := 1) rfl rfl (by kernel_rfl)) ?_
 obtain ⟨r12, hx13, hm⟩ := obind hm
 have hSr19 : St _ _ _ _ _ _ ([] ++ [.blk b9 [.slice none 0 0], .blk b6 [v2]]) := hS11
 obtain ⟨v14, h15, Z20, A22, hcl16, hSc17, b23, v25, c26, rfl, rfl, q24⟩ := arena_own_ok F hSr19.preL q1 hx13
 have hS18 := hSr19.call hSc17
 have hZ21 := hSc17.zle
 replace hS18 : St _ _ _ _ _ _ [.blk b23 [v25], .gs v25 c26 (csz api_Node), .blk b9 [.slice none 0 0], .blk b6 [v2]] := hS18
 refine r_step rfl trivial (o_call hcl16 rfl rfl rfl) ?_
 refine xe 1 [(7, Pt b23 0), (6, Pt b9 0), (1, V a1), (2, V a2)] ?_
 refine sq ?_
 obtain ⟨o63, ho62, hm⟩ := obind hm
 refine W_seqJoin0 [6, 7] (fun l h => ∃ Z99 : Zn, ∃ x102 : List api_Node, ∃ b100 : Nat, ∃ b101 : Nat, ∃ v104 : Value, ∃ c105 : List Value, x102 = o63 ∧ RCs (α := api_Node) Z99 c105 x102 ∧ l = [(6, Pt b100 0), (7, Pt b101 0)] ∧ St hs [] Z (0, 0) Z99 h [.blk b100 [.slice none 0 0], .blk b101 [v104], .gs v104 c105 (csz api_Node)]) (by kernel_rfl) ?_ ?_
 rintro l h106 ⟨Z99, x102, b100, b101, v104, c105, rfl, q103, rfl, hS107⟩
 try dsimp only at hm
 refine sr r22_4 ?_
 refine xq 3 [(31, Pt b101 0), (6, Pt b100 0)] ?_
 refine r_step rfl trivial (o_ldb (v := .agg #[v104]) hS107 (i := 1) rfl rfl (by kernel_rfl)) ?_
 refine r_ex1 rfl trivial (o_stb (vs := [v104]) (cells' := [v104]) (L' := [.blk b100 [v104], .blk b101 [v104], .gs v104 c105 (csz api_Node)]) hS107 (i := 0) rfl rfl rfl rfl (by kernel_rfl) (one_cons (hS107.gone1 (i := 2) rfl) one_nil) rfl rfl rfl) ?_
 intro h108 hS109
 refine xf [(6, Pt b100 0)] ?_
 refine rt ?_
 refine ⟨rfl, ?_⟩
 obtain rfl := si hm
 refine ⟨_, _, _, ResL.cell (v := .agg #[v104]) rfl hS109 (i := 0) rfl (by kernel_rfl) (ResL.nil), ((hS109.front 2 rfl).takeN 1), ?_⟩
 exact ⟨v104, c105, rfl, rfl, q103⟩
 refine rg r22_2 ?_
 refine xq 2 [(11, V a1), (10, Pt b23 0), (7, Pt b23 0), (6, Pt b9 0), (1, V a1), (2, V a2)] ?_
 obtain ⟨r64, hx65, ho62⟩ := obind ho62
 have hF71 : St _ _ _ _ _ _ ([.blk b23 [v25], .gs v25 c26 (csz api_Node)] ++ [.blk b9 [.slice none 0 0], .blk b6 [v2]]) := ((hS18.front 1 rfl).front 1 rfl)
 obtain ⟨v66, h67, Z72, A74, hcl68, hSc69, rfl, rfl⟩ := arena_forest_has_ok F hF71.preL q24 hx65
 have hZ73 := hSc69.zle
 have hS70 := hF71.call hSc69
 replace hS70 : St _ _ _ _ _ _ [.blk b23 [v25], .gs v25 c26 (csz api_Node), .blk b9 [.slice none 0 0], .blk b6 [v2]] := hS70
 refine r_step rfl trivial (o_call hcl68 rfl rfl rfl) ?_
 refine xq 1 [(13, .bool r64), (7, Pt b23 0), (6, Pt b9 0), (1, V a1), (2, V a2)] ?_
 rcases ifs ho62 with ⟨hp75, ho62⟩ | ⟨hp75, ho62⟩
 refine r_setb (t := 13) rfl hp75 ?_
 refine xq 5 [(18, Pt b23 0), (14, V a2), (13, .bool true), (7, Pt b23 0), (6, Pt b9 0), (1, V a1), (2, V a2)] ?_
 refine r_step rfl rfl (o_ldb (v := v25) hS70 (i := 0) rfl rfl (by kernel_rfl)) ?_
 obtain ⟨hc76, ho62⟩ := chk ho62
 refine r_step rfl rfl (o_index rfl rfl (by kernel_rfl : slTy _ _ = some (csz api_Node)) (hS70.gbased (j := 1) rfl (q24.mono hZ73) (by omega)) hc76.1 hc76.2) ?_
 refine xq 1 [(21, .pointer (some (elemA v25 0 (csz api_Node) 2))), (14, V a2), (13, .bool true), (7, Pt b23 0), (6, Pt b9 0), (1, V a1), (2, V a2)] ?_
 obtain ⟨x77, hx78, ho62⟩ := obind ho62
 obtain ⟨cs79, hc80, he81, ht82⟩ := hS70.gel (j := 1) rfl (q24.mono hZ73) (i := 0) hx78
 obtain ⟨v83, q84, rfl⟩ := rc_api_Node hc80
 refine r_step rfl rfl (o_lde (w := V x77.To) he81 rfl (by kernel_rfl)) ?_
 rcases ifs ho62 with ⟨hp85, ho62⟩ | ⟨hp85, ho62⟩
 refine r_step rfl rfl (o_cmp rfl rfl (c_leq_T hp85)) ?_
 refine xe 1 [(24, .bool true), (7, Pt b23 0), (6, Pt b9 0), (1, V a1), (2, V a2)] ?_
 refine cT 24 rfl ?_
 refine rg r22_3 ?_
 refine xq 3 [(27, V a2), (26, V a1), (25, Pt b23 0), (7, Pt b23 0), (6, Pt b9 0)] ?_
 obtain ⟨r86, hx87, ho62⟩ := obind ho62
 have hF93 : St _ _ _ _ _ _ ([.blk b23 [v25], .gs v25 c26 (csz api_Node)] ++ [.blk b9 [.slice none 0 0], .blk b6 [v2]]) := ((hS70.front 1 rfl).front 1 rfl)
 obtain ⟨v88, h89, Z94, A96, hcl90, hSc91, c98, rfl, rfl, q97⟩ := arena_forest_grow_ok F hF93.preL (q24.mono hZ73) hx87
 have hZ95 := hSc91.zle
 have hS92 := hF93.call hSc91
 replace hS92 : St _ _ _ _ _ _ [.blk b23 [v25], .gs v25 c98 (csz api_Node), .blk b9 [.slice none 0 0], .blk b6 [v2]] := hS92
 refine r_step rfl trivial (o_call hcl90 rfl rfl rfl) ?_
 refine xf [(7, Pt b23 0), (6, Pt b9 0)] ?_
 obtain rfl := si ho62
 exact ⟨_, r86.Tree.Nodes, b9, b23, v25, c98, rfl, q97, rfl, ((((hS92.front 1 rfl).front 1 rfl).front 2 rfl).takeN 3)⟩
 refine r_step rfl rfl (o_cmp rfl rfl (c_leq_F hp85)) ?_
 refine xe 1 [(24, .bool false), (7, Pt b23 0), (6, Pt b9 0), (1, V a1), (2, V a2)] ?_
 refine kF 24 rfl ?_
 obtain rfl := si ho62
 exact ⟨_, r12.Tree.Nodes, b9, b23, v25, c26, rfl, (q24.mono hZ73), rfl, ((((hS70.front 1 rfl).front 1 rfl).front 2 rfl).takeN 3)⟩
 refine r_setb (t := 13) rfl (Bool.eq_false_iff.2 hp75) ?_
 refine xe 11 [(24, .bool false), (7, Pt b23 0), (6, Pt b9 0), (1, V a1), (2, V a2)] ?_
 refine kF 24 rfl ?_
 obtain rfl := si ho62
 exact ⟨_, r12.Tree.Nodes, b9, b23, v25, c26, rfl, (q24.mono hZ73), rfl, ((((hS70.front 1 rfl).front 1 rfl).front 2 rfl).takeN 3)⟩

def r46_0 : List COp := [u 4 (.assign (ci 0))]
def r46_1 : List COp := [u 5 (mv 1), u 6 (bc .lss 3 5 0 3), u 7 (mv 6), gn 7 8 (mv 1), gn 7 9 (mv 0), gn 7 10 (nk 9), gn 7 11 (fa 58 10 1), gn 7 12 (ld 3 11), gn 7 13 (bo .geq 3 8 12 3), u 14 (pt 7 13)]
def r46_2 : List COp := [u 4 (.assign (ci 0))]
def r46_3 : List COp := [u 15 (mv 0), u 16 (nk 15), u 17 (fa 58 16 0), u 18 (ld 25 17), u 19 (mv 1), u 20 (ia 25 18 19), u 21 (fa 70 20 0), u 22 (ld 3 21), u 4 (sg 22)]
def flow_reader_kind (F : Nat) (a0 : flow_reader) (a1 : Int) : Option Int :=
 if a1 < (0 : Int) then
  some 0
 else
  if a0.end_ ≤ a1 then
   some 0
  else
   if 0 ≤ a1 ∧ a1 < (a0.l_.length : Int) then
    (a0.l_[a1.toNat]?).bind fun x16 =>
    some x16.Kind
   else none
theorem flow_reader_kind_ok (F : Nat) {h : AH} {Z : Zn} {a0 : flow_reader} {a1 : Int} {b1 : Nat} {v3 : Value} {v5 : Value} {v7 : Value} {c8 : List Value} (hP : Pre Z h [.blk b1 (K58 v3 v5 v7 a0), .gs v7 c8 (csz api_Diag)]) (q2 : RS (α := api_Token) Z v3 a0.l_) (q4 : RS (α := api_Node) Z v5 a0.t_.Nodes) (q6 : RCs (α := api_Diag) Z c8 a0.d_) {r : Int} (hm : flow_reader_kind F a0 a1 = some r) :
  ∃ v h' Z' A', callI Try.prog 46 [Pt b1 0, V a1] h = some (v, h') ∧ St h (idsL [.blk b1 (K58 v3 v5 v7 a0), .gs v7 c8 (csz api_Diag)]) Z (0, 0) Z' h' A' ∧ V r = v ∧ A' = [.blk b1 (K58 v3 v5 v7 a0), .gs v7 c8 (csz api_Diag)] := by
 refine fn_intro (A := [.blk b1 (K58 v3 v5 v7 a0), .gs v7 c8 (csz api_Diag)]) (Q := fun v Z' A' => V r = v ∧ A' = [.blk b1 (K58 v3 v5 v7 a0), .gs v7 c8 (csz api_Diag)]) Try.func46 rfl rfl (by kernel_rfl) hP ?_
 intro hs hS
 unfold flow_reader_kind at hm
 refine sr r46_0 ?_
 refine xe 1 [(0, Pt b1 0), (1, V a1)] ?_
 refine sq ?_
 refine sr r46_1 ?_
 refine xq 1 [(5, V a1), (0, Pt b1 0), (1, V a1)] ?_
 rcases ifs hm with ⟨hp13, hm⟩ | ⟨hp13, hm⟩
 refine r_step rfl trivial (o_cmp rfl rfl (c_lss_T hp13)) ?_
 refine xe 8 [(14, .bool true), (0, Pt b1 0), (1, V a1)] ?_
 refine cT 14 rfl ?_
 refine sr r46_2 ?_
 refine xe 1 [(4, V 0)] ?_
 refine rt ?_
 refine ⟨rfl, ?_⟩
 obtain rfl := si hm
 refine ⟨_, _, _, ResL.tmp rfl (ResL.nil), hS, ?_⟩
 exact ⟨rfl, rfl⟩
 refine r_step rfl trivial (o_cmp rfl rfl (c_lss_F hp13)) ?_
 refine xq 5 [(11, Pt b1 1), (8, V a1), (7, .bool false), (0, Pt b1 0), (1, V a1)] ?_
 refine r_step rfl rfl (o_ldb (v := V a0.end_) hS (i := 0) rfl rfl (by kernel_rfl)) ?_
 rcases ifs hm with ⟨hp14, hm⟩ | ⟨hp14, hm⟩
 refine r_step rfl rfl (o_cmp rfl rfl (c_geq_T hp14)) ?_
 refine xe 1 [(14, .bool true), (0, Pt b1 0), (1, V a1)] ?_
 refine cT 14 rfl ?_
 refine sr r46_2 ?_
 refine xe 1 [(4, V 0)] ?_
 refine rt ?_
 refine ⟨rfl, ?_⟩
 obtain rfl := si hm
 refine ⟨_, _, _, ResL.tmp rfl (ResL.nil), hS, ?_⟩
 exact ⟨rfl, rfl⟩
 refine r_step rfl rfl (o_cmp rfl rfl (c_geq_F hp14)) ?_
 refine xe 1 [(14, .bool false), (0, Pt b1 0), (1, V a1)] ?_
 refine kF 14 rfl ?_
 refine sr r46_3 ?_
 refine xq 3 [(17, Pt b1 0), (1, V a1)] ?_
 refine r_step rfl trivial (o_ldb (v := v3) hS (i := 0) rfl rfl (by kernel_rfl)) ?_
 refine xq 1 [(19, V a1), (18, v3)] ?_
 obtain ⟨hc15, hm⟩ := chk hm
 refine r_step rfl trivial (o_index rfl rfl (by kernel_rfl : slTy _ _ = some (csz api_Token)) (RS.based q2 (by omega)) hc15.1 hc15.2) ?_
 refine xq 1 [(21, .pointer (some (elemA v3 a1 (csz api_Token) 0)))] ?_
 obtain ⟨x16, hx17, hm⟩ := obind hm
 obtain ⟨cs18, hc19, he20⟩ := RS.elz q2 (i := a1) hx17
 obtain rfl := rc_api_Token hc19
 refine r_step rfl trivial (o_lde (w := V x16.Kind) (he20 _ (hS.zin0 (Zle.refl _))) rfl (by kernel_rfl)) ?_
 refine xe 1 [(4, V x16.Kind)] ?_
 refine rt ?_
 refine ⟨rfl, ?_⟩
 obtain rfl := si hm
 refine ⟨_, _, _, ResL.tmp rfl (ResL.nil), hS, ?_⟩
 exact ⟨rfl, rfl⟩

def r44_0 : List COp := [u 4 (.assign (ci 0))]
def r44_1 : List COp := [u 5 (mv 0), u 6 (mv 1), u 7 (cf 46 #[(t 5), (t 6)] #[55, 3]), u 8 (bc .eql 3 7 3 3)]
def r44_2 : List COp := [u 9 (mv 1), u 10 (bc .add 3 9 1 3), u 1 (sg 10)]
def r44_3 : List COp := [u 11 (mv 1), u 4 (sg 11)]
def flow_reader_blanks_l0 (F : Nat) (a0 : flow_reader) (a1 : Int) : Nat → Int → Option Int
 | 0, _ => none
 | n + 1, x91 =>
  (flow_reader_kind F a0 x91).bind fun r119 =>
  if r119 = (3 : Int) then
   flow_reader_blanks_l0 F a0 a1 n (w64 (x91 + 1))
  else
   some x91
def flow_reader_blanks (F : Nat) (a0 : flow_reader) (a1 : Int) : Option Int :=
 ((flow_reader_blanks_l0 F a0 a1 F a1) : Option Int).bind fun o => match o with
  | x133 => some x133
theorem flow_reader_blanks_ok (F : Nat) {h : AH} {Z : Zn} {a0 : flow_reader} {a1 : Int} {b1 : Nat} {v3 : Value} {v5 : Value} {v7 : Value} {c8 : List Value} (hP : Pre Z h [.blk b1 (K58 v3 v5 v7 a0), .gs v7 c8 (csz api_Diag)]) (q2 : RS (α := api_Token) Z v3 a0.l_) (q4 : RS (α := api_Node) Z v5 a0.t_.Nodes) (q6 : RCs (α := api_Diag) Z c8 a0.d_) {r : Int} (hm : flow_reader_blanks F a0 a1 = some r) :
  ∃ v h' Z' A', callI Try.prog 44 [Pt b1 0, V a1] h = some (v, h') ∧ St h (idsL [.blk b1 (K58 v3 v5 v7 a0), .gs v7 c8 (csz api_Diag)]) Z (0, 0) Z' h' A' ∧ V r = v ∧ A' = [.blk b1 (K58 v3 v5 v7 a0), .gs v7 c8 (csz api_Diag)] := by
 refine fn_intro (A := [.blk b1 (K58 v3 v5 v7 a0), .gs v7 c8 (csz api_Diag)]) (Q := fun v Z' A' => V r = v ∧ A' = [.blk b1 (K58 v3 v5 v7 a0), .gs v7 c8 (csz api_Diag)]) Try.func44 rfl rfl (by kernel_rfl) hP ?_
 intro hs hS
 unfold flow_reader_blanks at hm
 refine sr r44_0 ?_
 refine xe 1 [(0, Pt b1 0), (1, V a1)] ?_
 refine sq ?_
 obtain ⟨o89, ho88, hm⟩ := obind hm
 refine W_join [1] (fun l h => ∃ Z132 : Zn, ∃ x133 : Int, x133 = o89 ∧ l = [(1, V x133)] ∧ St hs (idsL [.blk b1 (K58 v3 v5 v7 a0), .gs v7 c8 (csz api_Diag)]) Z (0, 0) Z132 h [.blk b1 (K58 v3 v5 v7 a0), .gs v7 c8 (csz api_Diag)]) ?_ ?_
 rintro l h134 ⟨Z132, x133, rfl, rfl, hS135⟩
 try dsimp only at hm
 refine sr r44_3 ?_
 refine xe 2 [(4, V x133)] ?_
 refine rt ?_
 refine ⟨rfl, ?_⟩
 obtain rfl := si hm
 refine ⟨_, _, _, ResL.tmp rfl (ResL.nil), hS135, ?_⟩
 exact ⟨rfl, rfl⟩
 refine bk 0 ?_
 refine lp [0, 1] (fun n l h => ∃ Z90 : Zn, ∃ x91 : Int, flow_reader_blanks_l0 F a0 a1 n x91 = some o89 ∧ l = [(0, Pt b1 0), (1, V x91)] ∧ St hs (idsL [.blk b1 (K58 v3 v5 v7 a0), .gs v7 c8 (csz api_Diag)]) Z (0, 0) Z90 h [.blk b1 (K58 v3 v5 v7 a0), .gs v7 c8 (csz api_Diag)]) F ⟨_, a1, ho88, rfl, hS⟩ ?_
 rintro n94 l h92 ⟨Z90, x91, ho88, rfl, hS93⟩
 rcases n94 with _ | n94
 cases (show none = some o89 from ho88)
 rw [flow_reader_blanks_l0] at ho88
 refine sq ?_
 refine sr r44_1 ?_
 refine xq 2 [(6, V x91), (5, Pt b1 0), (0, Pt b1 0), (1, V x91)] ?_
 obtain ⟨r119, hx120, ho88⟩ := obind ho88
 have hF126 : St _ _ _ _ _ _ ([.blk b1 (K58 v3 v5 v7 a0), .gs v7 c8 (csz api_Diag)] ++ []) := ((hS93.front 1 rfl).front 1 rfl)
 obtain ⟨v121, h122, Z127, A129, hcl123, hSc124, rfl, rfl⟩ := flow_reader_kind_ok F hF126.preL (q2.mono hS93.zle) (q4.mono hS93.zle) (q6.mono hS93.zle) hx120
 have hZ128 := hSc124.zle
 have hS125 := hF126.call hSc124
 replace hS125 : St _ _ _ _ _ _ [.blk b1 (K58 v3 v5 v7 a0), .gs v7 c8 (csz api_Diag)] := hS125
 refine r_step rfl trivial (o_call hcl123 rfl rfl rfl) ?_
 rcases ifs ho88 with ⟨hp130, ho88⟩ | ⟨hp130, ho88⟩
 refine r_step rfl trivial (o_cmp rfl rfl (c_eql_T hp130)) ?_
 refine xf [(8, .bool true), (0, Pt b1 0), (1, V x91)] ?_
 refine kT 8 rfl ?_
 refine bk 1 ?_
 refine rg r44_2 ?_
 refine xe 3 [(1, V (w64 (x91 + 1))), (0, Pt b1 0)] ?_
 exact ⟨n94, Nat.lt_succ_self _, ⟨_, w64 (x91 + 1), ho88, rfl, hS125⟩⟩
 refine r_step rfl trivial (o_cmp rfl rfl (c_eql_F hp130)) ?_
 refine xf [(8, .bool false), (0, Pt b1 0), (1, V x91)] ?_
 refine cF 8 rfl ?_
 refine xt 0 ?_
 refine blkX_hit ?_
 obtain rfl := si ho88
 exact ⟨_, x91, rfl, rfl, hS125⟩

def r45_0 : List COp := [u 2 (.assign (.const (.bool false)))]
def r45_1 : List COp := [u 3 (mv 0), u 4 (bc .eql 3 3 12 3), u 5 (mv 4), gn 5 6 (mv 0), gn 5 7 (bc .eql 3 6 14 3), u 8 (pt 5 7), u 2 (sg 8)]
def flow_property (F : Nat) (a0 : Int) : Option Bool :=
 if a0 = (12 : Int) then
  some true
 else
  if a0 = (14 : Int) then
   some true
  else
   some false
theorem flow_property_ok (F : Nat) {h : AH} {Z : Zn} {a0 : Int} (hI : Inv Z h) {r : Bool} (hm : flow_property F a0 = some r) :
  ∃ v h', callI Try.prog 45 [V a0] h = some (v, h') ∧ St h [] Z (0, 0) Z h' [] ∧ v = .bool r := by
 refine fn_plain (Q := fun v => v = .bool r) Try.func45 rfl rfl hI ?_
 intro hs hS
 unfold flow_property at hm
 refine sr r45_0 ?_
 refine xe 1 [(0, V a0)] ?_
 refine sr r45_1 ?_
 refine xq 1 [(3, V a0), (0, V a0)] ?_
 rcases ifs hm with ⟨hp1, hm⟩ | ⟨hp1, hm⟩
 refine r_step rfl trivial (o_cmp rfl rfl (c_eql_T hp1)) ?_
 refine xe 5 [(2, .bool true)] ?_
 refine rt ?_
 refine ⟨rfl, ?_⟩
 obtain rfl := si hm
 refine ⟨_, _, _, ResL.tmp rfl (ResL.nil), hS, ?_⟩
 exact rfl
 refine r_step rfl trivial (o_cmp rfl rfl (c_eql_F hp1)) ?_
 refine xq 2 [(6, V a0), (5, .bool false)] ?_
 rcases ifs hm with ⟨hp2, hm⟩ | ⟨hp2, hm⟩
 refine r_step rfl rfl (o_cmp rfl rfl (c_eql_T hp2)) ?_
 refine xe 2 [(2, .bool true)] ?_
 refine rt ?_
 refine ⟨rfl, ?_⟩
 obtain rfl := si hm
 refine ⟨_, _, _, ResL.tmp rfl (ResL.nil), hS, ?_⟩
 exact rfl
 refine r_step rfl rfl (o_cmp rfl rfl (c_eql_F hp2)) ?_
 refine xe 2 [(2, .bool false)] ?_
 refine rt ?_
 refine ⟨rfl, ?_⟩
 obtain rfl := si hm
 refine ⟨_, _, _, ResL.tmp rfl (ResL.nil), hS, ?_⟩
 exact rfl

def r70_0 : List COp := [u 4 (.assign (ci 0))]
def r70_1 : List COp := [u 7 (mv 0), u 8 (nk 7), u 9 (fa 65 8 0), u 10 (fa 29 9 0), u 11 (ld 27 10), u 12 (mv 1), u 13 (ia 27 11 12), u 14 (ld 42 13), u 5 (.alloc 42), o (.store 42 (t 5) (t 14))]
def r70_2 : List COp := [u 15 (fa 42 5 4), u 16 (ld 40 15), u 17 (cb .len #[(t 16)] #[40]), u 6 (sg 17)]
def r70_3 : List COp := [u 18 (mv 6), u 19 (bc .gtr 3 18 0 3), u 20 (mv 19), gt 20 21 (mv 0), gt 20 22 (fa 42 5 4), gt 20 23 (ld 40 22), gt 20 24 (mv 6), gt 20 25 (bc .sub 3 24 1 3), gt 20 26 (ia 40 23 25), gt 20 27 (ld 3 26), gt 20 28 (cf 42 #[(t 21), (t 27)] #[62, 3]), u 29 (pf 20 28)]
def r70_4 : List COpF := [uP 30 (fa 42 5 1), uL 31 (ld 3 30), uP 32 (mv 0), uP 33 (nk 32), uP 34 (fa 65 33 0), uP 35 (fa 29 34 0), uL 36 (ld 27 35), uP 37 (fa 42 5 4), uL 38 (ld 40 37), uP 39 (mv 6), uP 40 (bc .sub 3 39 1 3), uP 41 (ia 40 38 40), uL 42 (ld 3 41), uP 43 (ia 27 36 42), uP 44 (fa 42 43 2), uL 45 (ld 3 44), uP 46 (cb .max #[(t 31), (t 45)] #[3, 3]), uP 4 (sg 46)]
def r70_5 : List COp := [u 47 (fa 42 5 1), u 48 (ld 3 47), u 4 (sg 48)]
def arena_forest_end (F : Nat) (a0 : arena_forest) (a1 : Int) : Option Int :=
 if 0 ≤ a1 ∧ a1 < (a0.Tree.Nodes.length : Int) then
  (a0.Tree.Nodes[a1.toNat]?).bind fun x6 =>
  ((if (0 : Int) < (x6.Kids.length : Int) then
    if 0 ≤ (w64 ((x6.Kids.length : Int) - 1)) ∧ (w64 ((x6.Kids.length : Int) - 1)) < (x6.Kids.length : Int) then
     (x6.Kids[(w64 ((x6.Kids.length : Int) - 1)).toNat]?).bind fun x89 =>
     (arena_forest_has F a0 x89).bind fun r95 =>
     if r95 = true then
      if 0 ≤ (w64 ((x6.Kids.length : Int) - 1)) ∧ (w64 ((x6.Kids.length : Int) - 1)) < (x6.Kids.length : Int) then
       (x6.Kids[(w64 ((x6.Kids.length : Int) - 1)).toNat]?).bind fun x115 =>
       if 0 ≤ x115 ∧ x115 < (a0.Tree.Nodes.length : Int) then
        (a0.Tree.Nodes[x115.toNat]?).bind fun x122 =>
        some (.inr (imax x6.From x122.To))
       else none
      else none
     else
      some (.inl x6)
    else none
   else
    some (.inl x6)) : Option (Sum api_Node Int)).bind fun o => match o with
   | .inl x136 => some x136.From
   | .inr y => some y
 else none
theorem arena_forest_end_ok (F : Nat) {h : AH} {Z : Zn} {a0 : arena_forest} {a1 : Int} {b1 : Nat} {v3 : Value} {c4 : List Value} (hP : Pre Z h [.blk b1 [v3], .gs v3 c4 (csz api_Node)]) (q2 : RCs (α := api_Node) Z c4 a0.Tree.Nodes) {r : Int} (hm : arena_forest_end F a0 a1 = some r) :
  ∃ v h' Z' A', callI Try.prog 70 [Pt b1 0, V a1] h = some (v, h') ∧ St h (idsL [.blk b1 [v3], .gs v3 c4 (csz api_Node)]) Z (0, 0) Z' h' A' ∧ V r = v ∧ A' = [.blk b1 [v3], .gs v3 c4 (csz api_Node)] := by
 refine fn_intro (A := [.blk b1 [v3], .gs v3 c4 (csz api_Node)]) (Q := fun v Z' A' => V r = v ∧ A' = [.blk b1 [v3], .gs v3 c4 (csz api_Node)]) Try.func70 rfl rfl (by kernel_rfl) hP ?_
 intro hs hS
 unfold arena_forest_end at hm
 refine sr r70_0 ?_
 refine xe 1 [(0, Pt b1 0), (1, V a1)] ?_
 refine sr r70_1 ?_
 refine xq 4 [(10, Pt b1 0), (0, Pt b1 0), (1, V a1)] ?_
 refine r_step rfl trivial (o_ldb (v := v3) hS (i := 0) rfl rfl (by kernel_rfl)) ?_
 refine xq 1 [(12, V a1), (11, v3), (0, Pt b1 0)] ?_
 obtain ⟨hc5, hm⟩ := chk hm
 refine r_step rfl trivial (o_index rfl rfl (by kernel_rfl : slTy _ _ = some (csz api_Node)) (hS.gbased (j := 1) rfl q2 (by omega)) hc5.1 hc5.2) ?_
 obtain ⟨x6, hx7, hm⟩ := obind hm
 obtain ⟨cs8, hc9, he10, ht11⟩ := hS.gel (j := 1) rfl q2 (i := a1) hx7
 obtain ⟨v12, q13, rfl⟩ := rc_api_Node hc9
 refine r_step rfl trivial (o_lde (w := .agg #[V x6.Kind, V x6.From, V x6.To, V x6.Up, v12, .bool x6.Key]) he10 rfl (by kernel_rfl)) ?_
 refine r_blk rfl trivial (o_alloc (cs := [V 0, V 0, V 0, V 0, .slice none 0 0, .bool false]) (by kernel_rfl)) hS ?_
 intro b14 h15 hS16
 refine r_ex1 rfl trivial (o_stb (vs := [V x6.Kind, V x6.From, V x6.To, V x6.Up, v12, .bool x6.Key]) (cells' := (K42 v12 x6)) (L' := [.blk b14 (K42 v12 x6), .blk b1 [v3], .gs v3 c4 (csz api_Node)]) hS16 (i := 0) rfl rfl rfl rfl (by kernel_rfl) (one_cons rfl (one_cons rfl (one_cons rfl (one_cons rfl (one_cons (RS.one1 q13) (one_cons rfl one_nil)))))) rfl rfl rfl) ?_
 intro h17 hS18
 refine xf [(5, Pt b14 0), (0, Pt b1 0)] ?_
 refine sq ?_
 refine sr r70_2 ?_
 refine xq 1 [(15, Pt b14 4), (5, Pt b14 0), (0, Pt b1 0)] ?_
 refine r_step rfl trivial (o_ldb (v := v12) hS18 (i := 0) rfl rfl (by kernel_rfl)) ?_
 refine r_step rfl trivial (o_len rfl (RS.len q13) ⟨_, Try.underlying40⟩) ?_
 refine xe 1 [(6, V (x6.Kids.length : Int)), (5, Pt b14 0), (0, Pt b1 0)] ?_
 obtain ⟨o86, ho85, hm⟩ := obind hm
 refine W_seqJoin0 [5] (fun l h => ∃ Z134 : Zn, ∃ x136 : api_Node, ∃ b135 : Nat, ∃ v138 : Value, .inl x136 = o86 ∧ RS (α := Int) Z134 v138 x136.Kids ∧ l = [(5, Pt b135 0)] ∧ St hs (idsL [.blk b1 [v3], .gs v3 c4 (csz api_Node)]) Z (0, 0) Z134 h [.blk b1 [v3], .gs v3 c4 (csz api_Node), .blk b135 (K42 v138 x136)]) (by kernel_rfl) ?_ ?_
 rintro l h139 ⟨Z134, x136, b135, v138, rfl, q137, rfl, hS140⟩
 try dsimp only at hm
 refine sr r70_5 ?_
 refine xq 1 [(47, Pt b135 1)] ?_
 refine r_step rfl trivial (o_ldb (v := V x136.From) hS140 (i := 2) rfl rfl (by kernel_rfl)) ?_
 refine xe 1 [(4, V x136.From)] ?_
 refine rt ?_
 refine ⟨rfl, ?_⟩
 obtain rfl := si hm
 refine ⟨_, _, _, ResL.tmp rfl (ResL.nil), (hS140.takeN 2), ?_⟩
 exact ⟨rfl, rfl⟩
 refine rg r70_3 ?_
 refine xq 1 [(18, V (x6.Kids.length : Int)), (6, V (x6.Kids.length : Int)), (5, Pt b14 0), (0, Pt b1 0)] ?_
 rcases ifs ho85 with ⟨hp87, ho85⟩ | ⟨hp87, ho85⟩
 refine r_step rfl trivial (o_cmp rfl rfl (c_gtr_T hp87)) ?_
 refine xq 3 [(22, Pt b14 4), (21, Pt b1 0), (20, .bool true), (6, V (x6.Kids.length : Int)), (5, Pt b14 0), (0, Pt b1 0)] ?_
 refine r_step rfl rfl (o_ldb (v := v12) hS18 (i := 0) rfl rfl (by kernel_rfl)) ?_
 refine xq 2 [(25, V (w64 ((x6.Kids.length : Int) - 1))), (23, v12), (21, Pt b1 0), (20, .bool true), (6, V (x6.Kids.length : Int)), (5, Pt b14 0), (0, Pt b1 0)] ?_
 obtain ⟨hc88, ho85⟩ := chk ho85
 refine r_step rfl rfl (o_index rfl rfl (by kernel_rfl : slTy _ _ = some (csz Int)) (RS.based q13 (by omega)) hc88.1 hc88.2) ?_
 obtain ⟨x89, hx90, ho85⟩ := obind ho85
 obtain ⟨cs91, hc92, he93⟩ := RS.elz q13 (i := w64 ((x6.Kids.length : Int) - 1)) hx90
 obtain rfl := rc_Int hc92
 refine r_step rfl rfl (o_lde (w := V x89) (he93 _ (hS18.zin0 (Zle.refl _))) rfl (by kernel_rfl)) ?_
 obtain ⟨r95, hx96, ho85⟩ := obind ho85
 have hF102 : St _ _ _ _ _ _ ([.blk b1 [v3], .gs v3 c4 (csz api_Node)] ++ [.blk b14 (K42 v12 x6)]) := ((hS18.front 2 rfl).front 2 rfl)
 obtain ⟨v97, h98, Z103, A105, hcl99, hSc100, rfl, rfl⟩ := arena_forest_has_ok F hF102.preL q2 hx96
 have hZ104 := hSc100.zle
 have hS101 := hF102.call hSc100
 replace hS101 : St _ _ _ _ _ _ [.blk b1 [v3], .gs v3 c4 (csz api_Node), .blk b14 (K42 v12 x6)] := hS101
 refine r_step rfl rfl (o_call hcl99 rfl rfl rfl) ?_
 refine xe 1 [(29, .bool r95), (6, V (x6.Kids.length : Int)), (5, Pt b14 0), (0, Pt b1 0)] ?_
 rcases ifs ho85 with ⟨hp106, ho85⟩ | ⟨hp106, ho85⟩
 refine W_condT (x := .tmp 29) (by kernel_rfl) rfl hp106 ?_
 refine srF r70_4 hS101 ?_
 intro bs107 h108 hlv110 hS109
 refine yq 1 [(30, Pt b14 1), (6, V (x6.Kids.length : Int)), (5, Pt b14 0), (0, Pt b1 0)] ?_
 have lt111 : b14 < bs107 := hlv110.1 _ (List.mem_of_getElem? (i := 2) rfl) _ (by simp [Itm.ids])
 refine e_lookO (v := V x6.From) rfl trivial rfl (by show b14 < _; omega) (same1 (v := V x6.From) trivial) (hS109.ldAt (i := 2) rfl (by kernel_rfl)) trivial ?_
 refine yq 4 [(35, Pt b1 0), (31, V x6.From), (6, V (x6.Kids.length : Int)), (5, Pt b14 0)] ?_
 have lt112 : b1 < bs107 := hlv110.1 _ (List.mem_of_getElem? (i := 0) rfl) _ (by simp [Itm.ids])
 refine e_lookO (v := v3) rfl trivial rfl (by show b1 < _; omega) (same1 (v := v3) (hS109.gsim1 (i := 1) rfl)) (hS109.ldAt (i := 0) rfl (by kernel_rfl)) trivial ?_
 refine yq 1 [(37, Pt b14 4), (36, v3), (31, V x6.From), (6, V (x6.Kids.length : Int))] ?_
 have lt113 : b14 < bs107 := hlv110.1 _ (List.mem_of_getElem? (i := 2) rfl) _ (by simp [Itm.ids])
 refine e_lookO (v := v12) rfl trivial rfl (by show b14 < _; omega) (same1 (v := v12) (RS.sim1 (q13.mono hZ104))) (hS109.ldAt (i := 2) rfl (by kernel_rfl)) trivial ?_
 refine yq 2 [(40, V (w64 ((x6.Kids.length : Int) - 1))), (38, v12), (36, v3), (31, V x6.From)] ?_
 obtain ⟨hc114, ho85⟩ := chk ho85
 refine e_val rfl trivial (o_index rfl rfl (by kernel_rfl : slTy _ _ = some (csz Int)) (RS.based (q13.mono hZ104) (by omega)) hc114.1 hc114.2) ?_
 obtain ⟨x115, hx116, ho85⟩ := obind ho85
 obtain ⟨cs117, hc118, he119⟩ := RS.elz (q13.mono hZ104) (i := w64 ((x6.Kids.length : Int) - 1)) hx116
 obtain rfl := rc_Int hc118
 refine e_lookZ rfl rfl trivial (fun h2 hz => o_lde (w := V x115) (he119 h2 hz) rfl (by kernel_rfl)) (hS109.zin0 (Zle.refl _)) (same1 (v := V x115) trivial) trivial ?_
 obtain ⟨hc121, ho85⟩ := chk ho85
 refine e_val rfl trivial (o_index rfl rfl (by kernel_rfl : slTy _ _ = some (csz api_Node)) (hS109.gbased (j := 1) rfl (q2.mono hZ104) (by omega)) hc121.1 hc121.2) ?_
 refine yq 1 [(44, .pointer (some (elemA v3 x115 (csz api_Node) 2))), (31, V x6.From)] ?_
 obtain ⟨x122, hx123, ho85⟩ := obind ho85
 obtain ⟨cs124, hc125, he126, ht127⟩ := hS109.gel (j := 1) rfl (q2.mono hZ104) (i := x115) hx123
 obtain ⟨v128, q129, rfl⟩ := rc_api_Node hc125
 have ps130 := pos_of hx123
 have hB131 := hS109.gbased (j := 1) rfl (q2.mono hZ104) ps130
 have lt132 : (baseOf v3).block < bs107 := row_ltM (hlv110.1 _ (List.mem_of_getElem? (i := 1) rfl)) hB131
 refine e_lookB rfl trivial rfl (by show (baseOf v3).block < _; omega) (same1 (v := V x122.To) trivial) (o_lde (w := V x122.To) he126 rfl (by kernel_rfl)) trivial ?_
 refine ye 2 [(4, V (imax x6.From x122.To))] ?_
 have hS133 := hS109.unres
 refine rt ?_
 refine ⟨rfl, ?_⟩
 obtain rfl := si ho85
 obtain rfl := si hm
 refine ⟨_, _, _, ResL.tmp rfl (ResL.nil), (hS133.takeN 2), ?_⟩
 exact ⟨rfl, rfl⟩
 refine W_condF (x := .tmp 29) (by kernel_rfl) rfl (Bool.eq_false_iff.2 hp106) ?_
 refine sk ?_
 obtain rfl := si ho85
 exact ⟨_, x6, b14, v12, rfl, (q13.mono hZ104), rfl, hS101⟩
 refine r_step rfl trivial (o_cmp rfl rfl (c_gtr_F hp87)) ?_
 refine xe 10 [(29, .bool false), (6, V (x6.Kids.length : Int)), (5, Pt b14 0), (0, Pt b1 0)] ?_
 refine kF 29 rfl ?_
 obtain rfl := si ho85
 exact ⟨_, x6, b14, v12, rfl, q13, rfl, (((hS18.front 0 rfl).front 2 rfl).front 2 rfl)⟩

def r59_0 : List COp := [u 5 (.box 29 (t 0)), u 10 (.alloc 29), u 11 (.assign (ci 0))]
def r59_1 : List COp := [u 14 (ld 29 5), u 15 (cf 25 #[(t 14)] #[29]), u 12 (sg 15)]
def r59_2 : List COp := [u 16 (mv 12), u 17 (mv 1), u 18 (cf 42 #[(t 16), (t 17)] #[62, 3]), u 19 (.unOp .not 4 (t 18)), u 20 (mv 19), gn 20 21 (mv 2), gn 20 22 (bc .lss 3 21 1 3), u 23 (pt 20 22), u 24 (mv 23), gn 24 25 (mv 2), gn 24 26 (bc .gtr 3 25 11 3), u 27 (pt 24 26), u 28 (mv 27), gn 28 29 (mv 3), gn 28 30 (mv 4), gn 28 31 (bo .gtr 3 29 30 3), u 32 (pt 28 31), u 33 (mv 32), gn 33 34 (mv 4), gn 33 35 (mv 12), gn 33 36 (nk 35), gn 33 37 (fa 65 36 0), gn 33 38 (fa 29 37 0), gn 33 39 (ld 27 38), gn 33 40 (.indexAddr 27 (t 39) (ci 0)), gn 33 41 (fa 42 40 2), gn 33 42 (ld 3 41), gn 33 43 (bo .gtr 3 34 42 3), u 44 (pt 33 43), u 45 (mv 44), gn 45 46 (mv 3), gn 45 47 (mv 12), gn 45 48 (mv 1), gn 45 49 (cf 70 #[(t 47), (t 48)] #[62, 3]), gn 45 50 (bo .lss 3 46 49 3), u 51 (pt 45 50)]
def r59_3 : List COp := [u 52 (mv 12), u 53 (nk 52), u 54 (fa 65 53 0), u 55 (ld 29 54), o (.store 29 (t 10) (t 55)), u 11 (.assign (ci (-1)))]
def r59_4 : List COp := [u 56 (mv 12), u 57 (nk 56), u 58 (fa 65 57 0), u 59 (fa 29 58 0), u 60 (ld 27 59), u 61 (cb .len #[(t 60)] #[27]), u 11 (sg 61)]
def r59_5 : List COp := [u 62 (mv 12), u 63 (mv 12), u 64 (nk 63), u 65 (fa 65 64 0), u 66 (fa 29 65 0), u 67 (ld 27 66), u 68 (mv 2), u 69 (mv 3), u 70 (mv 4), u 71 (mv 1), u 72 (.build 42 #[(0, (t 68)), (1, (t 69)), (2, (t 70)), (3, (t 71))]), u 73 (.buildSlice 27 1 #[(0, (t 72))]), u 74 (cb .append #[(t 67), (t 73)] #[27, 27]), u 75 (nk 62), u 76 (fa 65 75 0), u 77 (fa 29 76 0), o (.store 27 (t 77) (t 74))]
def r59_6 : List COp := [u 78 (mv 12), u 79 (nk 78), u 80 (fa 65 79 0), u 81 (fa 29 80 0), u 82 (ld 27 81), u 83 (mv 1), u 84 (ia 27 82 83), u 85 (fa 42 84 4), u 86 (ld 40 85), u 13 (sg 86)]
def r59_7 : List COpF := [uP 87 (mv 12), uP 88 (nk 87), uP 89 (fa 65 88 0), uP 90 (fa 29 89 0), uL 91 (ld 27 90), uP 92 (mv 1), uP 93 (mv 13), uP 94 (mv 13), uP 95 (cb .len #[(t 94)] #[40]), uP 96 (mv 13), uP 97 (cb .len #[(t 96)] #[40]), uP 98 (.slice 40 (t 93) none (some (t 95)) (some (t 97))), uP 99 (mv 11), uF 100 (.buildSlice 40 1 #[(0, (t 99))]) .fresh [], uF 101 (cb .append #[(t 98), (t 100)] #[40, 40]) .make [], uP 102 (ia 27 91 92), uP 103 (fa 42 102 4), oF (.store 40 (t 103) (t 101)) .make [4]]
def r59_8 : List COp := [u 104 (mv 12), u 105 (mv 1), u 106 (mv 4), u 107 (cf 43 #[(t 104), (t 105), (t 106)] #[62, 3, 3])]
def r59_9 : List COp := [u 108 (mv 12), u 109 (nk 108), u 110 (fa 65 109 0), u 111 (ld 29 110), u 112 (mv 11), o (.store 29 (t 10) (t 111)), u 11 (sg 112)]
def arena_Add (F : Nat) (a0 : arena_Tree) (a1 : Int) (a2 : Int) (a3 : Int) (a4 : Int) : Option (arena_Tree × Int) :=
 (arena_own F a0).bind fun r12 =>
 (arena_forest_has F r12 a1).bind fun r125 =>
 if r125 = true then
  if a2 < (1 : Int) then
   some (r12.Tree, (-1))
  else
   if (11 : Int) < a2 then
    some (r12.Tree, (-1))
   else
    if a4 < a3 then
     some (r12.Tree, (-1))
    else
     if 0 ≤ (0 : Int) ∧ (0 : Int) < (r12.Tree.Nodes.length : Int) then
      (r12.Tree.Nodes[(0 : Int).toNat]?).bind fun x153 =>
      if x153.To < a4 then
       some (r12.Tree, (-1))
      else
       (arena_forest_end F r12 a1).bind fun r166 =>
       if a3 < r166 then
        some (r12.Tree, (-1))
       else
        if r12.Tree.Nodes.length + [(⟨a2, a3, a4, a1, [], false⟩ : api_Node)].length ≤ 2199023255552 then
         if 0 ≤ a1 ∧ a1 < ((r12.Tree.Nodes ++ [(⟨a2, a3, a4, a1, [], false⟩ : api_Node)]).length : Int) then
          ((r12.Tree.Nodes ++ [(⟨a2, a3, a4, a1, [], false⟩ : api_Node)])[a1.toNat]?).bind fun x197 =>
          if 0 ≤ (0 : Int) ∧ (0 : Int) ≤ (x197.Kids.length : Int) ∧ (x197.Kids.length : Int) ≤ (x197.Kids.length : Int) then
           if ((x197.Kids.take (x197.Kids.length : Int).toNat).drop (0 : Int).toNat).length + ([(r12.Tree.Nodes.length : Int)] : List Int).length ≤ 17592186044416 ∧ 0 < ([(r12.Tree.Nodes.length : Int)] : List Int).length then
            if 0 ≤ a1 ∧ a1 < ((r12.Tree.Nodes ++ [(⟨a2, a3, a4, a1, [], false⟩ : api_Node)]).length : Int) then
             ((r12.Tree.Nodes ++ [(⟨a2, a3, a4, a1, [], false⟩ : api_Node)])[a1.toNat]?).bind fun x233 =>
             (arena_forest_grow F (⟨(⟨(r12.Tree.Nodes ++ [(⟨a2, a3, a4, a1, [], false⟩ : api_Node)]).set a1.toNat (⟨x233.Kind, x233.From, x233.To, x233.Up, ((x197.Kids.take (x197.Kids.length : Int).toNat).drop (0 : Int).toNat) ++ ([(r12.Tree.Nodes.length : Int)] : List Int), x233.Key⟩ : api_Node)⟩ : arena_Tree)⟩ : arena_forest) a1 a4).bind fun r247 =>
             some (r247.Tree, (r12.Tree.Nodes.length : Int))
            else none
           else none
          else none
         else none
        else none
     else none
 else
  some (r12.Tree, (-1))
theorem arena_Add_ok (F : Nat) {h : AH} {Z : Zn} {a0 : arena_Tree} {a1 : Int} {a2 : Int} {a3 : Int} {a4 : Int} {v2 : Value} (hP : Pre Z h []) (q1 : RS (α := api_Node) Z v2 a0.Nodes) {r : arena_Tree × Int} (hm : arena_Add F a0 a1 a2 a3 a4 = some r) :
  ∃ v h' Z' A', callI Try.prog 59 [.agg #[v2], V a1, V a2, V a3, V a4] h = some (v, h') ∧ St h (idsL []) Z (0, 0) Z' h' A' ∧ ∃ v4 : Value, ∃ c5 : List Value, .tuple #[.agg #[v4], V r.2] = v ∧ A' = [.gs v4 c5 (csz api_Node)] ∧ RCs (α := api_Node) Z' c5 r.1.Nodes := by
 refine fn_intro (A := []) (Q := fun v Z' A' => ∃ v4 : Value, ∃ c5 : List Value, .tuple #[.agg #[v4], V r.2] = v ∧ A' = [.gs v4 c5 (csz api_Node)] ∧ RCs (α := api_Node) Z' c5 r.1.Nodes) Try.func59 rfl rfl (by kernel_rfl) hP ?_
 intro hs hS
 unfold arena_Add at hm
 replace hS : St hs [] Z (0, 0) Z hs [] := hS
 refine sr r59_0 ?_
 refine r_blk rfl trivial (o_box (cs := [v2]) rfl rfl) hS ?_
 intro b6 h7 hS8
 refine r_blk rfl trivial (o_alloc (cs := [.slice none 0 0]) (by kernel_rfl)) hS8 ?_
 intro b9 h10 hS11
 refine xe 1 [(10, Pt b9 0), (5, Pt b6 0), (1, V a1), (2, V a2), (3, V a3), (4, V a4)] ?_
 refine sr r59_1 ?_
 refine r_step rfl trivial (o_ldb (v := .agg #[v2]) hS11 (i := 1) rfl rfl (by kernel_rfl)) ?_
 obtain ⟨r12, hx13, hm⟩ := obind hm
 have hSr19 : St _ _ _ _ _ _ ([] ++ [.blk b9 [.slice none 0 0], .blk b6 [v2]]) := hS11
 obtain ⟨v14, h15, Z20, A22, hcl16, hSc17, b23, v25, c26, rfl, rfl, q24⟩ := arena_own_ok F hSr19.preL q1 hx13
 have hS18 := hSr19.call hSc17
 have hZ21 := hSc17.zle
 replace hS18 : St _ _ _ _ _ _ [.blk b23 [v25], .gs v25 c26 (csz api_Node), .blk b9 [.slice none 0 0], .blk b6 [v2]] := hS18
 refine r_step rfl trivial (o_call hcl16 rfl rfl rfl) ?_
 refine xe 1 [(12, Pt b23 0), (10, Pt b9 0), (1, V a1), (2, V a2), (3, V a3), (4, V a4)] ?_
 refine sq ?_
 refine sr r59_2 ?_
 refine xq 2 [(17, V a1), (16, Pt b23 0), (12, Pt b23 0), (10, Pt b9 0), (1, V a1), (2, V a2), (3, V a3), (4, V a4)] ?_
 obtain ⟨r125, hx126, hm⟩ := obind hm
 have hF132 : St _ _ _ _ _ _ ([.blk b23 [v25], .gs v25 c26 (csz api_Node)] ++ [.blk b9 [.slice none 0 0], .blk b6 [v2]]) := ((hS18.front 1 rfl).front 1 rfl)
 obtain ⟨v127, h128, Z133, A135, hcl129, hSc130, rfl, rfl⟩ := arena_forest_has_ok F hF132.preL q24 hx126
 have hZ134 := hSc130.zle
 have hS131 := hF132.call hSc130
 replace hS131 : St _ _ _ _ _ _ [.blk b23 [v25], .gs v25 c26 (csz api_Node), .blk b9 [.slice none 0 0], .blk b6 [v2]] := hS131
 refine r_step rfl trivial (o_call hcl129 rfl rfl rfl) ?_
 rcases ifs hm with ⟨hp136, hm⟩ | ⟨hp136, hm⟩
 refine r_setb (t := 18) rfl hp136 ?_
 refine xq 3 [(21, V a2), (20, .bool false), (12, Pt b23 0), (10, Pt b9 0), (1, V a1), (2, V a2), (3, V a3), (4, V a4)] ?_
 rcases ifs hm with ⟨hp137, hm⟩ | ⟨hp137, hm⟩
 refine r_step rfl rfl (o_cmp rfl rfl (c_lss_T hp137)) ?_
 refine xe 29 [(51, .bool true), (12, Pt b23 0), (10, Pt b9 0), (1, V a1), (2, V a2), (3, V a3), (4, V a4)] ?_
 refine cT 51 rfl ?_
 refine sr r59_3 ?_
 refine xq 3 [(54, Pt b23 0), (10, Pt b9 0)] ?_
 refine r_step rfl trivial (o_ldb (v := .agg #[v25]) hS131 (i := 0) rfl rfl (by kernel_rfl)) ?_
 refine r_ex1 rfl trivial (o_stb (vs := [v25]) (cells' := [v25]) (L' := [.blk b23 [v25], .gs v25 c26 (csz api_Node), .blk b9 [v25], .blk b6 [v2]]) hS131 (i := 2) rfl rfl rfl rfl (by kernel_rfl) (one_cons (hS131.gone1 (i := 1) rfl) one_nil) rfl rfl rfl) ?_
 intro h140 hS141
 refine xe 1 [(11, V (-1)), (10, Pt b9 0)] ?_
 refine rt ?_
 refine ⟨rfl, ?_⟩
 obtain rfl := si hm
 refine ⟨_, _, _, ResL.cell (v := .agg #[v25]) rfl hS141 (i := 2) rfl (by kernel_rfl) (ResL.tmp rfl (ResL.nil)), ((hS141.front 1 rfl).takeN 1), ?_⟩
 exact ⟨v25, c26, rfl, rfl, (q24.mono hZ134)⟩
 refine r_step rfl rfl (o_cmp rfl rfl (c_lss_F hp137)) ?_
 refine xq 3 [(25, V a2), (24, .bool false), (12, Pt b23 0), (10, Pt b9 0), (1, V a1), (2, V a2), (3, V a3), (4, V a4)] ?_
 rcases ifs hm with ⟨hp142, hm⟩ | ⟨hp142, hm⟩
 refine r_step rfl rfl (o_cmp rfl rfl (c_gtr_T hp142)) ?_
 refine xe 25 [(51, .bool true), (12, Pt b23 0), (10, Pt b9 0), (1, V a1), (2, V a2), (3, V a3), (4, V a4)] ?_
 refine cT 51 rfl ?_
 refine sr r59_3 ?_
 refine xq 3 [(54, Pt b23 0), (10, Pt b9 0)] ?_
 refine r_step rfl trivial (o_ldb (v := .agg #[v25]) hS131 (i := 0) rfl rfl (by kernel_rfl)) ?_
 refine r_ex1 rfl trivial (o_stb (vs := [v25]) (cells' := [v25]) (L' := [.blk b23 [v25], .gs v25 c26 (csz api_Node), .blk b9 [v25], .blk b6 [v2]]) hS131 (i := 2) rfl rfl rfl rfl (by kernel_rfl) (one_cons (hS131.gone1 (i := 1) rfl) one_nil) rfl rfl rfl) ?_
 intro h145 hS146
 refine xe 1 [(11, V (-1)), (10, Pt b9 0)] ?_
 refine rt ?_
 refine ⟨rfl, ?_⟩
 obtain rfl := si hm
 refine ⟨_, _, _, ResL.cell (v := .agg #[v25]) rfl hS146 (i := 2) rfl (by kernel_rfl) (ResL.tmp rfl (ResL.nil)), ((hS146.front 1 rfl).takeN 1), ?_⟩
 exact ⟨v25, c26, rfl, rfl, (q24.mono hZ134)⟩
 refine r_step rfl rfl (o_cmp rfl rfl (c_gtr_F hp142)) ?_
 refine xq 4 [(30, V a4), (29, V a3), (28, .bool false), (12, Pt b23 0), (10, Pt b9 0), (1, V a1), (2, V a2), (3, V a3), (4, V a4)] ?_
 rcases ifs hm with ⟨hp147, hm⟩ | ⟨hp147, hm⟩
 refine r_step rfl rfl (o_cmp rfl rfl (c_gtr_T hp147)) ?_
 refine xe 20 [(51, .bool true), (12, Pt b23 0), (10, Pt b9 0), (1, V a1), (2, V a2), (3, V a3), (4, V a4)] ?_
 refine cT 51 rfl ?_
 refine sr r59_3 ?_
 refine xq 3 [(54, Pt b23 0), (10, Pt b9 0)] ?_
 refine r_step rfl trivial (o_ldb (v := .agg #[v25]) hS131 (i := 0) rfl rfl (by kernel_rfl)) ?_
 refine r_ex1 rfl trivial (o_stb (vs := [v25]) (cells' := [v25]) (L' := [.blk b23 [v25], .gs v25 c26 (csz api_Node), .blk b9 [v25], .blk b6 [v2]]) hS131 (i := 2) rfl rfl rfl rfl (by kernel_rfl) (one_cons (hS131.gone1 (i := 1) rfl) one_nil) rfl rfl rfl) ?_
 intro h150 hS151
 refine xe 1 [(11, V (-1)), (10, Pt b9 0)] ?_
 refine rt ?_
 refine ⟨rfl, ?_⟩
 obtain rfl := si hm
 refine ⟨_, _, _, ResL.cell (v := .agg #[v25]) rfl hS151 (i := 2) rfl (by kernel_rfl) (ResL.tmp rfl (ResL.nil)), ((hS151.front 1 rfl).takeN 1), ?_⟩
 exact ⟨v25, c26, rfl, rfl, (q24.mono hZ134)⟩
 refine r_step rfl rfl (o_cmp rfl rfl (c_gtr_F hp147)) ?_
 refine xq 7 [(38, Pt b23 0), (34, V a4), (33, .bool false), (12, Pt b23 0), (10, Pt b9 0), (1, V a1), (2, V a2), (3, V a3), (4, V a4)] ?_
 refine r_step rfl rfl (o_ldb (v := v25) hS131 (i := 0) rfl rfl (by kernel_rfl)) ?_
 obtain ⟨hc152, hm⟩ := chk hm
 refine r_step rfl rfl (o_index rfl rfl (by kernel_rfl : slTy _ _ = some (csz api_Node)) (hS131.gbased (j := 1) rfl (q24.mono hZ134) (by omega)) hc152.1 hc152.2) ?_
 refine xq 1 [(41, .pointer (some (elemA v25 0 (csz api_Node) 2))), (34, V a4), (33, .bool false), (12, Pt b23 0), (10, Pt b9 0), (1, V a1), (2, V a2), (3, V a3), (4, V a4)] ?_
 obtain ⟨x153, hx154, hm⟩ := obind hm
 obtain ⟨cs155, hc156, he157, ht158⟩ := hS131.gel (j := 1) rfl (q24.mono hZ134) (i := 0) hx154
 obtain ⟨v159, q160, rfl⟩ := rc_api_Node hc156
 refine r_step rfl rfl (o_lde (w := V x153.To) he157 rfl (by kernel_rfl)) ?_
 rcases ifs hm with ⟨hp161, hm⟩ | ⟨hp161, hm⟩
 refine r_step rfl rfl (o_cmp rfl rfl (c_gtr_T hp161)) ?_
 refine xe 8 [(51, .bool true), (12, Pt b23 0), (10, Pt b9 0), (1, V a1), (2, V a2), (3, V a3), (4, V a4)] ?_
 refine cT 51 rfl ?_
 refine sr r59_3 ?_
 refine xq 3 [(54, Pt b23 0), (10, Pt b9 0)] ?_
 refine r_step rfl trivial (o_ldb (v := .agg #[v25]) hS131 (i := 0) rfl rfl (by kernel_rfl)) ?_
 refine r_ex1 rfl trivial (o_stb (vs := [v25]) (cells' := [v25]) (L' := [.blk b23 [v25], .gs v25 c26 (csz api_Node), .blk b9 [v25], .blk b6 [v2]]) hS131 (i := 2) rfl rfl rfl rfl (by kernel_rfl) (one_cons (hS131.gone1 (i := 1) rfl) one_nil) rfl rfl rfl) ?_
 intro h164 hS165
 refine xe 1 [(11, V (-1)), (10, Pt b9 0)] ?_
 refine rt ?_
 refine ⟨rfl, ?_⟩
 obtain rfl := si hm
 refine ⟨_, _, _, ResL.cell (v := .agg #[v25]) rfl hS165 (i := 2) rfl (by kernel_rfl) (ResL.tmp rfl (ResL.nil)), ((hS165.front 1 rfl).takeN 1), ?_⟩
 exact ⟨v25, c26, rfl, rfl, (q24.mono hZ134)⟩
 refine r_step rfl rfl (o_cmp rfl rfl (c_gtr_F hp161)) ?_
 refine xq 5 [(48, V a1), (47, Pt b23 0), (46, V a3), (45, .bool false), (12, Pt b23 0), (10, Pt b9 0), (1, V a1), (2, V a2), (3, V a3), (4, V a4)] ?_
 obtain ⟨r166, hx167, hm⟩ := obind hm
 have hF173 : St _ _ _ _ _ _ ([.blk b23 [v25], .gs v25 c26 (csz api_Node)] ++ [.blk b9 [.slice none 0 0], .blk b6 [v2]]) := ((hS131.front 1 rfl).front 1 rfl)
 obtain ⟨v168, h169, Z174, A176, hcl170, hSc171, rfl, rfl⟩ := arena_forest_end_ok F hF173.preL (q24.mono hZ134) hx167
 have hZ175 := hSc171.zle
 have hS172 := hF173.call hSc171
 replace hS172 : St _ _ _ _ _ _ [.blk b23 [v25], .gs v25 c26 (csz api_Node), .blk b9 [.slice none 0 0], .blk b6 [v2]] := hS172
 refine r_step rfl rfl (o_call hcl170 rfl rfl rfl) ?_
 rcases ifs hm with ⟨hp177, hm⟩ | ⟨hp177, hm⟩
 refine r_step rfl rfl (o_cmp rfl rfl (c_lss_T hp177)) ?_
 refine xe 1 [(51, .bool true), (12, Pt b23 0), (10, Pt b9 0), (1, V a1), (2, V a2), (3, V a3), (4, V a4)] ?_
 refine cT 51 rfl ?_
 refine sr r59_3 ?_
 refine xq 3 [(54, Pt b23 0), (10, Pt b9 0)] ?_
 refine r_step rfl trivial (o_ldb (v := .agg #[v25]) hS172 (i := 0) rfl rfl (by kernel_rfl)) ?_
 refine r_ex1 rfl trivial (o_stb (vs := [v25]) (cells' := [v25]) (L' := [.blk b23 [v25], .gs v25 c26 (csz api_Node), .blk b9 [v25], .blk b6 [v2]]) hS172 (i := 2) rfl rfl rfl rfl (by kernel_rfl) (one_cons (hS172.gone1 (i := 1) rfl) one_nil) rfl rfl rfl) ?_
 intro h180 hS181
 refine xe 1 [(11, V (-1)), (10, Pt b9 0)] ?_
 refine rt ?_
 refine ⟨rfl, ?_⟩
 obtain rfl := si hm
 refine ⟨_, _, _, ResL.cell (v := .agg #[v25]) rfl hS181 (i := 2) rfl (by kernel_rfl) (ResL.tmp rfl (ResL.nil)), ((hS181.front 1 rfl).takeN 1), ?_⟩
 exact ⟨v25, c26, rfl, rfl, (q24.mono (hZ134.trans hZ175))⟩
 refine r_step rfl rfl (o_cmp rfl rfl (c_lss_F hp177)) ?_
 refine xe 1 [(51, .bool false), (12, Pt b23 0), (10, Pt b9 0), (1, V a1), (2, V a2), (3, V a3), (4, V a4)] ?_
 refine kF 51 rfl ?_
 refine sr r59_4 ?_
 refine xq 4 [(59, Pt b23 0), (12, Pt b23 0), (10, Pt b9 0), (1, V a1), (2, V a2), (3, V a3), (4, V a4)] ?_
 refine r_step rfl trivial (o_ldb (v := v25) hS172 (i := 0) rfl rfl (by kernel_rfl)) ?_
 refine r_step rfl trivial (o_len rfl (hS172.glen (i := 1) rfl (q24.mono (hZ134.trans hZ175))) ⟨_, Try.underlying27⟩) ?_
 refine xe 1 [(11, V (r12.Tree.Nodes.length : Int)), (12, Pt b23 0), (10, Pt b9 0), (1, V a1), (2, V a2), (3, V a3), (4, V a4)] ?_
 refine sr r59_5 ?_
 refine xq 5 [(66, Pt b23 0), (62, Pt b23 0), (11, V (r12.Tree.Nodes.length : Int)), (12, Pt b23 0), (10, Pt b9 0), (1, V a1), (2, V a2), (3, V a3), (4, V a4)] ?_
 refine r_step rfl trivial (o_ldb (v := v25) hS172 (i := 0) rfl rfl (by kernel_rfl)) ?_
 refine xq 5 [(72, .agg #[V a2, V a3, V a4, V a1, .slice none 0 0, .bool false]), (67, v25), (62, Pt b23 0), (11, V (r12.Tree.Nodes.length : Int)), (12, Pt b23 0), (10, Pt b9 0), (1, V a1), (4, V a4)] ?_
 have q185 : RCs (α := api_Node) Z174 [V a2, V a3, V a4, V a1, .slice none 0 0, .bool false] [(⟨a2, a3, a4, a1, [], false⟩ : api_Node)] := RCs.cons (cs := [V a2, V a3, V a4, V a1, .slice none 0 0, .bool false]) ⟨_, (RS.nil0 _), rfl⟩ (RCs.nil0 _)
 refine r_row rfl trivial (o_bs (cells := [V a2, V a3, V a4, V a1, .slice none 0 0, .bool false]) (s := 6) (by kernel_rfl)) (by kernel_rfl) hS172 ?_
 intro v182 h183 hS184
 replace hS184 : St _ _ _ _ _ _ [.gs v182 [V a2, V a3, V a4, V a1, .slice none 0 0, .bool false] (csz api_Node), .blk b23 [v25], .gs v25 c26 (csz api_Node), .blk b9 [.slice none 0 0], .blk b6 [v2]] := hS184
 obtain ⟨hc193, hm⟩ := chk hm
 refine r_ex3 rfl trivial (o_app (ys := [(⟨a2, a3, a4, a1, [], false⟩ : api_Node)]) (by_ := 64) hS184 (i := 2) rfl (q24.mono (hZ134.trans hZ175)) ((hS184).gnews (j := 0) rfl q185) rfl rfl (by kernel_rfl) (by omega) (by omega)) ?_
 rintro v188 c189 h190 ⟨q192, hS191⟩
 replace hS191 : St _ _ _ _ _ _ [.gs v182 [V a2, V a3, V a4, V a1, .slice none 0 0, .bool false] (csz api_Node), .blk b23 [v25], .gs v188 c189 (csz api_Node), .blk b9 [.slice none 0 0], .blk b6 [v2]] := hS191
 refine xq 3 [(77, Pt b23 0), (74, v188), (11, V (r12.Tree.Nodes.length : Int)), (12, Pt b23 0), (10, Pt b9 0), (1, V a1), (4, V a4)] ?_
 refine r_ex1 rfl trivial (o_stb (vs := [v188]) (cells' := [v188]) (L' := [.gs v182 [V a2, V a3, V a4, V a1, .slice none 0 0, .bool false] (csz api_Node), .blk b23 [v188], .gs v188 c189 (csz api_Node), .blk b9 [.slice none 0 0], .blk b6 [v2]]) hS191 (i := 1) rfl rfl rfl (hS191.gcell1 (i := 2) rfl) (by kernel_rfl) (one_cons (hS191.gone1 (i := 2) rfl) one_nil) rfl rfl rfl) ?_
 intro h194 hS195
 refine xf [(11, V (r12.Tree.Nodes.length : Int)), (12, Pt b23 0), (10, Pt b9 0), (1, V a1), (4, V a4)] ?_
 refine sr r59_6 ?_
 refine xq 4 [(81, Pt b23 0), (11, V (r12.Tree.Nodes.length : Int)), (12, Pt b23 0), (10, Pt b9 0), (1, V a1), (4, V a4)] ?_
 refine r_step rfl trivial (o_ldb (v := v188) hS195 (i := 1) rfl rfl (by kernel_rfl)) ?_
 refine xq 1 [(83, V a1), (82, v188), (11, V (r12.Tree.Nodes.length : Int)), (12, Pt b23 0), (10, Pt b9 0), (1, V a1), (4, V a4)] ?_
 obtain ⟨hc196, hm⟩ := chk hm
 refine r_step rfl trivial (o_index rfl rfl (by kernel_rfl : slTy _ _ = some (csz api_Node)) (hS195.gbased (j := 2) rfl q192 (by omega)) hc196.1 hc196.2) ?_
 refine xq 1 [(85, .pointer (some (elemA v188 a1 (csz api_Node) 4))), (11, V (r12.Tree.Nodes.length : Int)), (12, Pt b23 0), (10, Pt b9 0), (1, V a1), (4, V a4)] ?_
 obtain ⟨x197, hx198, hm⟩ := obind hm
 obtain ⟨cs199, hc200, he201, ht202⟩ := hS195.gel (j := 2) rfl q192 (i := a1) hx198
 obtain ⟨v203, q204, rfl⟩ := rc_api_Node hc200
 refine r_step rfl trivial (o_lde (w := v203) he201 rfl (by kernel_rfl)) ?_
 refine xe 1 [(13, v203), (11, V (r12.Tree.Nodes.length : Int)), (12, Pt b23 0), (10, Pt b9 0), (1, V a1), (4, V a4)] ?_
 refine srF r59_7 hS195 ?_
 intro bs205 h206 hlv208 hS207
 refine yq 4 [(90, Pt b23 0), (13, v203), (11, V (r12.Tree.Nodes.length : Int)), (12, Pt b23 0), (10, Pt b9 0), (1, V a1), (4, V a4)] ?_
 have lt209 : b23 < bs205 := hlv208.1 _ (List.mem_of_getElem? (i := 1) rfl) _ (by simp [Itm.ids])
 refine e_lookO (v := v188) rfl trivial rfl (by show b23 < _; omega) (same1 (v := v188) (hS207.gsim1 (i := 2) rfl)) (hS207.ldAt (i := 1) rfl (by kernel_rfl)) trivial ?_
 refine yq 3 [(94, v203), (93, v203), (92, V a1), (91, v188), (13, v203), (11, V (r12.Tree.Nodes.length : Int)), (12, Pt b23 0), (10, Pt b9 0), (1, V a1), (4, V a4)] ?_
 refine e_val rfl trivial (o_len rfl (RS.len q204) ⟨_, Try.underlying40⟩) ?_
 refine yq 1 [(96, v203), (95, V (x197.Kids.length : Int)), (93, v203), (92, V a1), (91, v188), (11, V (r12.Tree.Nodes.length : Int)), (12, Pt b23 0), (10, Pt b9 0), (1, V a1), (4, V a4)] ?_
 refine e_val rfl trivial (o_len rfl (RS.len q204) ⟨_, Try.underlying40⟩) ?_
 obtain ⟨hc213, hm⟩ := chk hm
 refine e_exv rfl trivial (o_slice3 (a := 0) (b := (x197.Kids.length : Int)) q204 rfl (by kernel_rfl : slTy _ _ = some (csz Int)) rfl rfl rfl hc213.1 hc213.2.1 hc213.2.2) ?_
 rintro v210 ⟨q211, cp212⟩
 refine yq 1 [(99, V (r12.Tree.Nodes.length : Int)), (98, v210), (92, V a1), (91, v188), (11, V (r12.Tree.Nodes.length : Int)), (12, Pt b23 0), (10, Pt b9 0), (1, V a1), (4, V a4)] ?_
 have q217 : RCs (α := Int) Z174 [V (r12.Tree.Nodes.length : Int)] ([(r12.Tree.Nodes.length : Int)] : List Int) := RCs.cons (cs := [V (r12.Tree.Nodes.length : Int)]) rfl (RCs.nil0 _)
 refine e_row rfl trivial (o_bs (cells := [V (r12.Tree.Nodes.length : Int)]) (s := 1) (by kernel_rfl)) (by kernel_rfl) hS207 (by omega) (Nat.add_lt_add_left (by decide) _) ?_
 intro v214 h215 b218 eb219 ec220 hS216
 replace hS216 : St _ _ _ _ _ _ [.gs v214 [V (r12.Tree.Nodes.length : Int)] (csz Int), .gs v182 [V a2, V a3, V a4, V a1, .slice none 0 0, .bool false] (csz api_Node), .blk b23 [v188], .gs v188 c189 (csz api_Node), .blk b9 [.slice none 0 0], .blk b6 [v2]] := hS216
 obtain ⟨hc227, hm⟩ := chk hm
 refine e_ex3c rfl trivial hS216 (o_appCopy (ys := ([(r12.Tree.Nodes.length : Int)] : List Int)) (by_ := 8) (hS216.lown) q211 cp212 ((hS216.lown).gnews (j := 0) rfl q217) (by omega) rfl rfl (by kernel_rfl) (by omega) (by omega)) ?_
 rintro v222 c223 h224 ⟨q226, hS225⟩
 replace hS225 : St _ _ _ _ _ _ [.gs v222 c223 (csz Int), .gs v214 [V (r12.Tree.Nodes.length : Int)] (csz Int), .gs v182 [V a2, V a3, V a4, V a1, .slice none 0 0, .bool false] (csz api_Node), .blk b23 [v188], .gs v188 c189 (csz api_Node), .blk b9 [.slice none 0 0], .blk b6 [v2]] := hS225
 obtain ⟨hc228, hm⟩ := chk hm
 refine e_val rfl trivial (o_index rfl rfl (by kernel_rfl : slTy _ _ = some (csz api_Node)) (hS225.gbased (j := 4) rfl q192 (by omega)) hc228.1 hc228.2) ?_
 refine yq 1 [(103, .pointer (some (elemA v188 a1 (csz api_Node) 4))), (101, v222), (11, V (r12.Tree.Nodes.length : Int)), (12, Pt b23 0), (10, Pt b9 0), (1, V a1), (4, V a4)] ?_
 obtain ⟨x233, hx234, hm⟩ := obind hm
 obtain ⟨Z229, hZ230, q231, hS232⟩ := (hS225.front 0 rfl).freeze q226
 replace hS232 : St _ _ _ _ _ _ [.gs v214 [V (r12.Tree.Nodes.length : Int)] (csz Int), .gs v182 [V a2, V a3, V a4, V a1, .slice none 0 0, .bool false] (csz api_Node), .blk b23 [v188], .gs v188 c189 (csz api_Node), .blk b9 [.slice none 0 0], .blk b6 [v2]] := hS232
 obtain ⟨cs235, hc236, he237, ht238⟩ := hS232.gel (j := 3) rfl (q192.mono hZ230) (i := a1) hx234
 obtain ⟨v239, q240, rfl⟩ := rc_api_Node hc236
 have hF245 : St _ _ _ _ _ _ ([.gs v188 c189 (csz api_Node)] ++ [.gs v214 [V (r12.Tree.Nodes.length : Int)] (csz Int), .gs v182 [V a2, V a3, V a4, V a1, .slice none 0 0, .bool false] (csz api_Node), .blk b23 [v188], .blk b9 [.slice none 0 0], .blk b6 [v2]]) := (hS232.front 3 rfl)
 refine e_mk2 rfl trivial hF245 (o_ste (u' := (⟨x233.Kind, x233.From, x233.To, x233.Up, ((x197.Kids.take (x197.Kids.length : Int).toNat).drop (0 : Int).toNat) ++ ([(r12.Tree.Nodes.length : Int)] : List Int), x233.Key⟩ : api_Node)) (vs := [v222]) (cs' := [V x233.Kind, V x233.From, V x233.To, V x233.Up, v222, .bool x233.Key]) hF245.sub (m := 0) rfl (q192.mono hZ230) hx234 ht238 rfl rfl (RS.cell1 q231) (by kernel_rfl) (one_cons (RS.one1 q231) one_nil) rfl rfl ⟨_, q231, rfl⟩) hZ230 (.keep (hF245.neB 2 rfl blk_mem) .nil) ?_
 rintro h241 c242 ⟨q244, hS243⟩
 replace hS243 : St _ _ _ _ _ _ [.gs v188 c242 (csz api_Node), .gs v214 [V (r12.Tree.Nodes.length : Int)] (csz Int), .gs v182 [V a2, V a3, V a4, V a1, .slice none 0 0, .bool false] (csz api_Node), .blk b23 [v188], .blk b9 [.slice none 0 0], .blk b6 [v2]] := hS243
 refine yf [(11, V (r12.Tree.Nodes.length : Int)), (12, Pt b23 0), (10, Pt b9 0), (1, V a1), (4, V a4)] ?_
 have hS246 := hS243.unres
 refine sr r59_8 ?_
 refine xq 3 [(106, V a4), (105, V a1), (104, Pt b23 0), (11, V (r12.Tree.Nodes.length : Int)), (12, Pt b23 0), (10, Pt b9 0)] ?_
 obtain ⟨r247, hx248, hm⟩ := obind hm
 have hF254 : St _ _ _ _ _ _ ([.blk b23 [v188], .gs v188 c242 (csz api_Node)] ++ [.gs v214 [V (r12.Tree.Nodes.length : Int)] (csz Int), .gs v182 [V a2, V a3, V a4, V a1, .slice none 0 0, .bool false] (csz api_Node), .blk b9 [.slice none 0 0], .blk b6 [v2]]) := ((hS246.front 0 rfl).front 3 rfl)
 obtain ⟨v249, h250, Z255, A257, hcl251, hSc252, c259, rfl, rfl, q258⟩ := arena_forest_grow_ok F hF254.preL q244 hx248
 have hZ256 := hSc252.zle
 have hS253 := hF254.call hSc252
 replace hS253 : St _ _ _ _ _ _ [.blk b23 [v188], .gs v188 c259 (csz api_Node), .gs v214 [V (r12.Tree.Nodes.length : Int)] (csz Int), .gs v182 [V a2, V a3, V a4, V a1, .slice none 0 0, .bool false] (csz api_Node), .blk b9 [.slice none 0 0], .blk b6 [v2]] := hS253
 refine r_step rfl trivial (o_call hcl251 rfl rfl rfl) ?_
 refine xf [(11, V (r12.Tree.Nodes.length : Int)), (12, Pt b23 0), (10, Pt b9 0)] ?_
 refine sr r59_9 ?_
 refine xq 3 [(110, Pt b23 0), (11, V (r12.Tree.Nodes.length : Int)), (10, Pt b9 0)] ?_
 refine r_step rfl trivial (o_ldb (v := .agg #[v188]) hS253 (i := 0) rfl rfl (by kernel_rfl)) ?_
 refine xq 1 [(112, V (r12.Tree.Nodes.length : Int)), (111, .agg #[v188]), (11, V (r12.Tree.Nodes.length : Int)), (10, Pt b9 0)] ?_
 refine r_ex1 rfl trivial (o_stb (vs := [v188]) (cells' := [v188]) (L' := [.blk b23 [v188], .gs v188 c259 (csz api_Node), .gs v214 [V (r12.Tree.Nodes.length : Int)] (csz Int), .gs v182 [V a2, V a3, V a4, V a1, .slice none 0 0, .bool false] (csz api_Node), .blk b9 [v188], .blk b6 [v2]]) hS253 (i := 4) rfl rfl rfl rfl (by kernel_rfl) (one_cons (hS253.gone1 (i := 1) rfl) one_nil) rfl rfl rfl) ?_
 intro h260 hS261
 refine xe 1 [(11, V (r12.Tree.Nodes.length : Int)), (10, Pt b9 0)] ?_
 refine rt ?_
 refine ⟨rfl, ?_⟩
 obtain rfl := si hm
 refine ⟨_, _, _, ResL.cell (v := .agg #[v188]) rfl hS261 (i := 4) rfl (by kernel_rfl) (ResL.tmp rfl (ResL.nil)), ((hS261.front 1 rfl).takeN 1), ?_⟩
 exact ⟨v188, c259, rfl, rfl, q258⟩
 refine r_setb (t := 18) rfl (Bool.eq_false_iff.2 hp136) ?_
 refine xe 33 [(51, .bool true), (12, Pt b23 0), (10, Pt b9 0), (1, V a1), (2, V a2), (3, V a3), (4, V a4)] ?_
 refine cT 51 rfl ?_
 refine sr r59_3 ?_
 refine xq 3 [(54, Pt b23 0), (10, Pt b9 0)] ?_
 refine r_step rfl trivial (o_ldb (v := .agg #[v25]) hS131 (i := 0) rfl rfl (by kernel_rfl)) ?_
 refine r_ex1 rfl trivial (o_stb (vs := [v25]) (cells' := [v25]) (L' := [.blk b23 [v25], .gs v25 c26 (csz api_Node), .blk b9 [v25], .blk b6 [v2]]) hS131 (i := 2) rfl rfl rfl rfl (by kernel_rfl) (one_cons (hS131.gone1 (i := 1) rfl) one_nil) rfl rfl rfl) ?_
 intro h264 hS265
 refine xe 1 [(11, V (-1)), (10, Pt b9 0)] ?_
 refine rt ?_
 refine ⟨rfl, ?_⟩
 obtain rfl := si hm
 refine ⟨_, _, _, ResL.cell (v := .agg #[v25]) rfl hS265 (i := 2) rfl (by kernel_rfl) (ResL.tmp rfl (ResL.nil)), ((hS265.front 1 rfl).takeN 1), ?_⟩
 exact ⟨v25, c26, rfl, rfl, (q24.mono hZ134)⟩

def r47_0 : List COp := [u 10 (.assign (ci 0))]
def r47_1 : List COp := [u 14 (mv 0), u 15 (nk 14), u 16 (fa 58 15 2), u 17 (ld 29 16), u 18 (mv 1), u 19 (mv 2), u 20 (mv 3), u 21 (mv 4), u 22 (cf 59 #[(t 17), (t 18), (t 19), (t 20), (t 21)] #[29, 3, 3, 3, 3]), u 13 (mv 22), u 23 (.extract (t 13) 0), u 24 (.extract (t 13) 1), u 11 (.alloc 29), o (.store 29 (t 11) (t 23)), u 12 (sg 24)]
def r47_2 : List COp := [u 25 (mv 0), u 26 (ld 29 11), u 27 (nk 25), u 28 (fa 58 27 2), o (.store 29 (t 28) (t 26))]
def r47_3 : List COp := [u 29 (mv 12), u 10 (sg 29)]
def flow_reader_add (F : Nat) (a0 : flow_reader) (a1 : Int) (a2 : Int) (a3 : Int) (a4 : Int) : Option (Int × flow_reader) :=
 (arena_Add F a0.t_ a1 a2 a3 a4).bind fun r16 =>
 some (r16.2, (⟨a0.l_, a0.end_, r16.1, a0.d_⟩ : flow_reader))
theorem flow_reader_add_ok (F : Nat) {h : AH} {Z : Zn} {a0 : flow_reader} {a1 : Int} {a2 : Int} {a3 : Int} {a4 : Int} {b1 : Nat} {v3 : Value} {v5 : Value} {v7 : Value} {c8 : List Value} (hP : Pre Z h [.blk b1 (K58 v3 v5 v7 a0), .gs v7 c8 (csz api_Diag)]) (q2 : RS (α := api_Token) Z v3 a0.l_) (q4 : RS (α := api_Node) Z v5 a0.t_.Nodes) (q6 : RCs (α := api_Diag) Z c8 a0.d_) {r : Int × flow_reader} (hm : flow_reader_add F a0 a1 a2 a3 a4 = some r) :
  ∃ v h' Z' A', callI Try.prog 47 [Pt b1 0, V a1, V a2, V a3, V a4] h = some (v, h') ∧ St h (idsL [.blk b1 (K58 v3 v5 v7 a0), .gs v7 c8 (csz api_Diag)]) Z (0, 0) Z' h' A' ∧ ∃ v10 : Value, ∃ v12 : Value, ∃ c13 : List Value, ∃ c15 : List Value, V r.1 = v ∧ A' = [.blk b1 (K58 v10 v12 v7 r.2), .gs v12 c13 (csz api_Node), .gs v7 c15 (csz api_Diag)] ∧ RS (α := api_Token) Z' v10 r.2.l_ ∧ RCs (α := api_Node) Z' c13 r.2.t_.Nodes ∧ RCs (α := api_Diag) Z' c15 r.2.d_ := by
 refine fn_intro (A := [.blk b1 (K58 v3 v5 v7 a0), .gs v7 c8 (csz api_Diag)]) (Q := fun v Z' A' => ∃ v10 : Value, ∃ v12 : Value, ∃ c13 : List Value, ∃ c15 : List Value, V r.1 = v ∧ A' = [.blk b1 (K58 v10 v12 v7 r.2), .gs v12 c13 (csz api_Node), .gs v7 c15 (csz api_Diag)] ∧ RS (α := api_Token) Z' v10 r.2.l_ ∧ RCs (α := api_Node) Z' c13 r.2.t_.Nodes ∧ RCs (α := api_Diag) Z' c15 r.2.d_) Try.func47 rfl rfl (by kernel_rfl) hP ?_
 intro hs hS
 unfold flow_reader_add at hm
 refine sr r47_0 ?_
 refine xe 1 [(0, Pt b1 0), (1, V a1), (2, V a2), (3, V a3), (4, V a4)] ?_
 refine sr r47_1 ?_
 refine xq 3 [(16, Pt b1 2), (0, Pt b1 0), (1, V a1), (2, V a2), (3, V a3), (4, V a4)] ?_
 refine r_step rfl trivial (o_ldb (v := .agg #[v5]) hS (i := 0) rfl rfl (by kernel_rfl)) ?_
 refine xq 4 [(21, V a4), (20, V a3), (19, V a2), (18, V a1), (17, .agg #[v5]), (0, Pt b1 0)] ?_
 obtain ⟨r16, hx17, hm⟩ := obind hm
 have hSr23 : St _ _ _ _ _ _ ([] ++ [.blk b1 (K58 v3 v5 v7 a0), .gs v7 c8 (csz api_Diag)]) := hS
 obtain ⟨v18, h19, Z24, A26, hcl20, hSc21, v28, c29, rfl, rfl, q27⟩ := arena_Add_ok F hSr23.preL q4 hx17
 have hS22 := hSr23.call hSc21
 have hZ25 := hSc21.zle
 replace hS22 : St _ _ _ _ _ _ [.gs v28 c29 (csz api_Node), .blk b1 (K58 v3 v5 v7 a0), .gs v7 c8 (csz api_Diag)] := hS22
 refine r_step rfl trivial (o_call hcl20 rfl rfl rfl) ?_
 refine xq 3 [(24, V r16.2), (23, .agg #[v28]), (0, Pt b1 0)] ?_
 refine r_blk rfl trivial (o_alloc (cs := [.slice none 0 0]) (by kernel_rfl)) hS22 ?_
 intro b30 h31 hS32
 refine r_ex1 rfl trivial (o_stb (vs := [v28]) (cells' := [v28]) (L' := [.blk b30 [v28], .gs v28 c29 (csz api_Node), .blk b1 (K58 v3 v5 v7 a0), .gs v7 c8 (csz api_Diag)]) hS32 (i := 0) rfl rfl rfl rfl (by kernel_rfl) (one_cons (hS32.gone1 (i := 1) rfl) one_nil) rfl rfl rfl) ?_
 intro h33 hS34
 refine xe 1 [(12, V r16.2), (11, Pt b30 0), (0, Pt b1 0)] ?_
 refine sr r47_2 ?_
 refine xq 1 [(25, Pt b1 0), (12, V r16.2), (11, Pt b30 0)] ?_
 refine r_step rfl trivial (o_ldb (v := .agg #[v28]) hS34 (i := 0) rfl rfl (by kernel_rfl)) ?_
 refine xq 2 [(28, Pt b1 2), (26, .agg #[v28]), (12, V r16.2)] ?_
 refine r_ex1 rfl trivial (o_stb (vs := [v28]) (cells' := (K58 v3 v28 v7 a0)) (L' := [.blk b30 [v28], .gs v28 c29 (csz api_Node), .blk b1 (K58 v3 v28 v7 a0), .gs v7 c8 (csz api_Diag)]) hS34 (i := 2) rfl rfl rfl rfl (by kernel_rfl) (one_cons (hS34.gone1 (i := 1) rfl) one_nil) rfl rfl rfl) ?_
 intro h35 hS36
 refine xf [(12, V r16.2)] ?_
 refine sr r47_3 ?_
 refine xe 2 [(10, V r16.2)] ?_
 refine rt ?_
 refine ⟨rfl, ?_⟩
 obtain rfl := si hm
 refine ⟨_, _, _, ResL.tmp rfl (ResL.nil), ((((hS36.front 3 rfl).front 2 rfl).front 3 rfl).takeN 3), ?_⟩
 exact ⟨v3, v28, c29, c8, rfl, rfl, (q2.mono hZ25), q27, (q6.mono hZ25)⟩

def r60_0 : List COp := [u 2 (.assign (.const (.bool false)))]
def r60_1 : List COp := [u 3 (mv 0)]
def r60_2 : List COp := [u 5 (bc .eql 3 3 1 3), u 4 (sg 5)]
def r60_3 : List COp := [u 6 (bc .eql 3 3 2 3), u 4 (sg 6)]
def r60_4 : List COp := [u 7 (bc .eql 3 3 3 3), u 4 (sg 7)]
def r60_5 : List COp := [u 8 (bc .eql 3 3 4 3), u 4 (sg 8)]
def r60_6 : List COp := [u 2 (.assign (.const (.bool false)))]
def r60_7 : List COp := [u 2 (.assign (.const (.bool true)))]
def flow_counts (F : Nat) (a0 : Int) : Option Bool :=
 ((if a0 = (1 : Int) then
   some true
  else
   if a0 = (2 : Int) then
    some true
   else
    if a0 = (3 : Int) then
     some true
    else
     if a0 = (4 : Int) then
      some true
     else
      some false) : Option Bool).bind fun o => match o with
  | x21 => if x21 = true then
   some false
  else
   some true
theorem flow_counts_ok (F : Nat) {h : AH} {Z : Zn} {a0 : Int} (hI : Inv Z h) {r : Bool} (hm : flow_counts F a0 = some r) :
  ∃ v h', callI Try.prog 60 [V a0] h = some (v, h') ∧ St h [] Z (0, 0) Z h' [] ∧ v = .bool r := by
 refine fn_plain (Q := fun v => v = .bool r) Try.func60 rfl rfl hI ?_
 intro hs hS
 unfold flow_counts at hm
 refine sr r60_0 ?_
 refine xe 1 [(0, V a0)] ?_
 refine sq ?_
 refine sr r60_1 ?_
 refine xe 1 [(3, V a0)] ?_
 refine bk 0 ?_
 refine sq ?_
 obtain ⟨o15, ho14, hm⟩ := obind hm
 refine W_join [4] (fun l h => ∃ Z20 : Zn, ∃ x21 : Bool, x21 = o15 ∧ l = [(4, .bool x21)] ∧ St hs [] Z (0, 0) Z20 h []) ?_ ?_
 rintro l h22 ⟨Z20, x21, rfl, rfl, hS23⟩
 try dsimp only at hm
 rcases ifs hm with ⟨hp25, hm⟩ | ⟨hp25, hm⟩
 refine W_condT (x := .tmp 4) (by kernel_rfl) rfl hp25 ?_
 refine sr r60_6 ?_
 refine xe 1 [(2, .bool false)] ?_
 refine rt ?_
 refine blkX_ret ?_
 refine ⟨rfl, ?_⟩
 obtain rfl := si hm
 refine ⟨_, _, _, ResL.tmp rfl (ResL.nil), hS23, ?_⟩
 exact rfl
 refine W_condF (x := .tmp 4) (by kernel_rfl) rfl (Bool.eq_false_iff.2 hp25) ?_
 refine sk ?_
 refine sr r60_7 ?_
 refine xe 1 [(2, .bool true)] ?_
 refine rt ?_
 refine ⟨rfl, ?_⟩
 obtain rfl := si hm
 refine ⟨_, _, _, ResL.tmp rfl (ResL.nil), hS23, ?_⟩
 exact rfl
 refine sr r60_2 ?_
 rcases ifs ho14 with ⟨hp16, ho14⟩ | ⟨hp16, ho14⟩
 refine r_step rfl trivial (o_cmp rfl rfl (c_eql_T hp16)) ?_
 refine xe 1 [(4, .bool true), (3, V a0)] ?_
 refine kT 4 rfl ?_
 obtain rfl := si ho14
 exact ⟨_, true, rfl, rfl, hS⟩
 refine r_step rfl trivial (o_cmp rfl rfl (c_eql_F hp16)) ?_
 refine xe 1 [(4, .bool false), (3, V a0)] ?_
 refine cF 4 rfl ?_
 refine sr r60_3 ?_
 rcases ifs ho14 with ⟨hp17, ho14⟩ | ⟨hp17, ho14⟩
 refine r_step rfl trivial (o_cmp rfl rfl (c_eql_T hp17)) ?_
 refine xe 1 [(4, .bool true), (3, V a0)] ?_
 refine kT 4 rfl ?_
 obtain rfl := si ho14
 exact ⟨_, true, rfl, rfl, hS⟩
 refine r_step rfl trivial (o_cmp rfl rfl (c_eql_F hp17)) ?_
 refine xe 1 [(4, .bool false), (3, V a0)] ?_
 refine cF 4 rfl ?_
 refine sr r60_4 ?_
 rcases ifs ho14 with ⟨hp18, ho14⟩ | ⟨hp18, ho14⟩
 refine r_step rfl trivial (o_cmp rfl rfl (c_eql_T hp18)) ?_
 refine xe 1 [(4, .bool true), (3, V a0)] ?_
 refine kT 4 rfl ?_
 obtain rfl := si ho14
 exact ⟨_, true, rfl, rfl, hS⟩
 refine r_step rfl trivial (o_cmp rfl rfl (c_eql_F hp18)) ?_
 refine xe 1 [(4, .bool false), (3, V a0)] ?_
 refine cF 4 rfl ?_
 refine rg r60_5 ?_
 rcases ifs ho14 with ⟨hp19, ho14⟩ | ⟨hp19, ho14⟩
 refine r_step rfl trivial (o_cmp rfl rfl (c_eql_T hp19)) ?_
 refine xe 1 [(4, .bool true)] ?_
 obtain rfl := si ho14
 exact ⟨_, true, rfl, rfl, hS⟩
 refine r_step rfl trivial (o_cmp rfl rfl (c_eql_F hp19)) ?_
 refine xe 1 [(4, .bool false)] ?_
 obtain rfl := si ho14
 exact ⟨_, false, rfl, rfl, hS⟩

def r48_0 : List COp := [u 4 (.assign (ci 0))]
def r48_1 : List COp := [u 7 (mv 1), u 8 (bc .add 3 7 1 3), u 5 (sg 8)]
def r48_2 : List COp := [u 9 (mv 0), u 10 (mv 5), u 11 (cf 46 #[(t 9), (t 10)] #[55, 3]), u 6 (sg 11)]
def r48_3 : List COp := [u 12 (mv 6), u 13 (bc .neq 3 12 0 3), u 14 (mv 13), gt 14 15 (mv 6), gt 14 16 (cf 60 #[(t 15)] #[3]), gt 14 17 (.unOp .not 4 (t 16)), u 18 (pf 14 17)]
def r48_4 : List COp := [u 19 (mv 0), u 20 (mv 5), u 21 (cf 46 #[(t 19), (t 20)] #[55, 3]), u 6 (sg 21)]
def r48_5 : List COp := [u 22 (mv 5), u 23 (bc .add 3 22 1 3), u 5 (sg 23)]
def r48_6 : List COp := [u 24 (mv 6), u 25 (bc .eql 3 24 1 3)]
def r48_7 : List COp := [u 26 (mv 0), u 27 (mv 5), u 28 (cf 46 #[(t 26), (t 27)] #[55, 3]), u 29 (bc .neq 3 28 19 3)]
def r48_8 : List COp := [u 30 (mv 1), u 31 (bc .add 3 30 1 3), u 4 (sg 31)]
def r48_9 : List COp := [u 32 (mv 0), u 33 (mv 5), u 34 (cf 46 #[(t 32), (t 33)] #[55, 3]), u 35 (bc .eql 3 34 19 3)]
def r48_10 : List COp := [u 36 (mv 5), u 37 (bc .add 3 36 1 3), u 5 (sg 37)]
def r48_11 : List COp := [u 38 (mv 5), u 4 (sg 38)]
def flow_reader_texts_l0 (F : Nat) (a0 : flow_reader) (a1 : Int) : Nat → Int → Int → Option Int
 | 0, _, _ => none
 | n + 1, x216, x217 =>
  if x217 = (0 : Int) then
   some x216
  else
   (flow_counts F x217).bind fun r240 =>
   if r240 = true then
    some x216
   else
    if x217 = (1 : Int) then
     some (w64 (x216 + 1))
    else
     (flow_reader_kind F a0 (w64 (x216 + 1))).bind fun r250 =>
     flow_reader_texts_l0 F a0 a1 n (w64 (x216 + 1)) r250
def flow_reader_texts_l1 (F : Nat) (a0 : flow_reader) (a1 : Int) : Nat → Int → Option Int
 | 0, _ => none
 | n + 1, x345 =>
  (flow_reader_kind F a0 x345).bind fun r373 =>
  if r373 = (19 : Int) then
   flow_reader_texts_l1 F a0 a1 n (w64 (x345 + 1))
  else
   some x345
def flow_reader_texts (F : Nat) (a0 : flow_reader) (a1 : Int) : Option Int :=
 (flow_reader_kind F a0 (w64 (a1 + 1))).bind fun r113 =>
 ((flow_reader_texts_l0 F a0 a1 F (w64 (a1 + 1)) r113) : Option Int).bind fun o => match o with
  | x263 => (flow_reader_kind F a0 x263).bind fun r290 =>
  if r290 = (19 : Int) then
   ((flow_reader_texts_l1 F a0 a1 F x263) : Option Int).bind fun o => match o with
    | x387 => some x387
  else
   some (w64 (a1 + 1))
theorem flow_reader_texts_ok (F : Nat) {h : AH} {Z : Zn} {a0 : flow_reader} {a1 : Int} {b1 : Nat} {v3 : Value} {v5 : Value} {v7 : Value} {c8 : List Value} (hP : Pre Z h [.blk b1 (K58 v3 v5 v7 a0), .gs v7 c8 (csz api_Diag)]) (q2 : RS (α := api_Token) Z v3 a0.l_) (q4 : RS (α := api_Node) Z v5 a0.t_.Nodes) (q6 : RCs (α := api_Diag) Z c8 a0.d_) {r : Int} (hm : flow_reader_texts F a0 a1 = some r) :
  ∃ v h' Z' A', callI Try.prog 48 [Pt b1 0, V a1] h = some (v, h') ∧ St h (idsL [.blk b1 (K58 v3 v5 v7 a0), .gs v7 c8 (csz api_Diag)]) Z (0, 0) Z' h' A' ∧ V r = v ∧ A' = [.blk b1 (K58 v3 v5 v7 a0), .gs v7 c8 (csz api_Diag)] := by
 refine fn_intro (A := [.blk b1 (K58 v3 v5 v7 a0), .gs v7 c8 (csz api_Diag)]) (Q := fun v Z' A' => V r = v ∧ A' = [.blk b1 (K58 v3 v5 v7 a0), .gs v7 c8 (csz api_Diag)]) Try.func48 rfl rfl (by kernel_rfl) hP ?_
 intro hs hS
 unfold flow_reader_texts at hm
 refine sr r48_0 ?_
 refine xe 1 [(0, Pt b1 0), (1, V a1)] ?_
 refine sr r48_1 ?_
 refine xe 3 [(5, V (w64 (a1 + 1))), (0, Pt b1 0), (1, V a1)] ?_
 refine sq ?_
 refine sr r48_2 ?_
 refine xq 2 [(10, V (w64 (a1 + 1))), (9, Pt b1 0), (5, V (w64 (a1 + 1))), (0, Pt b1 0), (1, V a1)] ?_
 obtain ⟨r113, hx114, hm⟩ := obind hm
 have hF120 : St _ _ _ _ _ _ ([.blk b1 (K58 v3 v5 v7 a0), .gs v7 c8 (csz api_Diag)] ++ []) := ((hS.front 1 rfl).front 1 rfl)
 obtain ⟨v115, h116, Z121, A123, hcl117, hSc118, rfl, rfl⟩ := flow_reader_kind_ok F hF120.preL q2 q4 q6 hx114
 have hZ122 := hSc118.zle
 have hS119 := hF120.call hSc118
 replace hS119 : St _ _ _ _ _ _ [.blk b1 (K58 v3 v5 v7 a0), .gs v7 c8 (csz api_Diag)] := hS119
 refine r_step rfl trivial (o_call hcl117 rfl rfl rfl) ?_
 refine xe 1 [(6, V r113), (5, V (w64 (a1 + 1))), (0, Pt b1 0), (1, V a1)] ?_
 obtain ⟨o214, ho213, hm⟩ := obind hm
 refine W_join [0, 1, 5] (fun l h => ∃ Z262 : Zn, ∃ x263 : Int, x263 = o214 ∧ l = [(0, Pt b1 0), (1, V a1), (5, V x263)] ∧ St hs (idsL [.blk b1 (K58 v3 v5 v7 a0), .gs v7 c8 (csz api_Diag)]) Z (0, 0) Z262 h [.blk b1 (K58 v3 v5 v7 a0), .gs v7 c8 (csz api_Diag)]) ?_ ?_
 rintro l h264 ⟨Z262, x263, rfl, rfl, hS265⟩
 try dsimp only at hm
 refine sq ?_
 refine sr r48_7 ?_
 refine xq 2 [(27, V x263), (26, Pt b1 0), (0, Pt b1 0), (1, V a1), (5, V x263)] ?_
 obtain ⟨r290, hx291, hm⟩ := obind hm
 have hF297 : St _ _ _ _ _ _ ([.blk b1 (K58 v3 v5 v7 a0), .gs v7 c8 (csz api_Diag)] ++ []) := ((hS265.front 1 rfl).front 1 rfl)
 obtain ⟨v292, h293, Z298, A300, hcl294, hSc295, rfl, rfl⟩ := flow_reader_kind_ok F hF297.preL (q2.mono hS265.zle) (q4.mono hS265.zle) (q6.mono hS265.zle) hx291
 have hZ299 := hSc295.zle
 have hS296 := hF297.call hSc295
 replace hS296 : St _ _ _ _ _ _ [.blk b1 (K58 v3 v5 v7 a0), .gs v7 c8 (csz api_Diag)] := hS296
 refine r_step rfl trivial (o_call hcl294 rfl rfl rfl) ?_
 rcases ifs hm with ⟨hp301, hm⟩ | ⟨hp301, hm⟩
 refine r_step rfl trivial (o_cmp rfl rfl (c_neq_F hp301)) ?_
 refine xf [(29, .bool false), (0, Pt b1 0), (1, V a1), (5, V x263)] ?_
 refine kF 29 rfl ?_
 refine sq ?_
 obtain ⟨o343, ho342, hm⟩ := obind hm
 refine W_join [5] (fun l h => ∃ Z386 : Zn, ∃ x387 : Int, x387 = o343 ∧ l = [(5, V x387)] ∧ St hs (idsL [.blk b1 (K58 v3 v5 v7 a0), .gs v7 c8 (csz api_Diag)]) Z (0, 0) Z386 h [.blk b1 (K58 v3 v5 v7 a0), .gs v7 c8 (csz api_Diag)]) ?_ ?_
 rintro l h388 ⟨Z386, x387, rfl, rfl, hS389⟩
 try dsimp only at hm
 refine sr r48_11 ?_
 refine xe 2 [(4, V x387)] ?_
 refine rt ?_
 refine ⟨rfl, ?_⟩
 obtain rfl := si hm
 refine ⟨_, _, _, ResL.tmp rfl (ResL.nil), hS389, ?_⟩
 exact ⟨rfl, rfl⟩
 refine bk 2 ?_
 refine lp [0, 5] (fun n l h => ∃ Z344 : Zn, ∃ x345 : Int, flow_reader_texts_l1 F a0 a1 n x345 = some o343 ∧ l = [(0, Pt b1 0), (5, V x345)] ∧ St hs (idsL [.blk b1 (K58 v3 v5 v7 a0), .gs v7 c8 (csz api_Diag)]) Z (0, 0) Z344 h [.blk b1 (K58 v3 v5 v7 a0), .gs v7 c8 (csz api_Diag)]) F ⟨_, x263, ho342, rfl, hS296⟩ ?_
 rintro n348 l h346 ⟨Z344, x345, ho342, rfl, hS347⟩
 rcases n348 with _ | n348
 cases (show none = some o343 from ho342)
 rw [flow_reader_texts_l1] at ho342
 refine sq ?_
 refine sr r48_9 ?_
 refine xq 2 [(33, V x345), (32, Pt b1 0), (0, Pt b1 0), (5, V x345)] ?_
 obtain ⟨r373, hx374, ho342⟩ := obind ho342
 have hF380 : St _ _ _ _ _ _ ([.blk b1 (K58 v3 v5 v7 a0), .gs v7 c8 (csz api_Diag)] ++ []) := ((hS347.front 1 rfl).front 1 rfl)
 obtain ⟨v375, h376, Z381, A383, hcl377, hSc378, rfl, rfl⟩ := flow_reader_kind_ok F hF380.preL (q2.mono hS347.zle) (q4.mono hS347.zle) (q6.mono hS347.zle) hx374
 have hZ382 := hSc378.zle
 have hS379 := hF380.call hSc378
 replace hS379 : St _ _ _ _ _ _ [.blk b1 (K58 v3 v5 v7 a0), .gs v7 c8 (csz api_Diag)] := hS379
 refine r_step rfl trivial (o_call hcl377 rfl rfl rfl) ?_
 rcases ifs ho342 with ⟨hp384, ho342⟩ | ⟨hp384, ho342⟩
 refine r_step rfl trivial (o_cmp rfl rfl (c_eql_T hp384)) ?_
 refine xf [(35, .bool true), (0, Pt b1 0), (5, V x345)] ?_
 refine kT 35 rfl ?_
 refine bk 3 ?_
 refine rg r48_10 ?_
 refine xe 3 [(5, V (w64 (x345 + 1))), (0, Pt b1 0)] ?_
 exact ⟨n348, Nat.lt_succ_self _, ⟨_, w64 (x345 + 1), ho342, rfl, hS379⟩⟩
 refine r_step rfl trivial (o_cmp rfl rfl (c_eql_F hp384)) ?_
 refine xf [(35, .bool false), (0, Pt b1 0), (5, V x345)] ?_
 refine cF 35 rfl ?_
 refine xt 2 ?_
 refine blkX_hit ?_
 obtain rfl := si ho342
 exact ⟨_, x345, rfl, rfl, hS379⟩
 refine r_step rfl trivial (o_cmp rfl rfl (c_neq_T hp301)) ?_
 refine xf [(29, .bool true), (0, Pt b1 0), (1, V a1), (5, V x263)] ?_
 refine cT 29 rfl ?_
 refine sr r48_8 ?_
 refine xe 3 [(4, V (w64 (a1 + 1)))] ?_
 refine rt ?_
 refine ⟨rfl, ?_⟩
 obtain rfl := si hm
 refine ⟨_, _, _, ResL.tmp rfl (ResL.nil), hS296, ?_⟩
 exact ⟨rfl, rfl⟩
 refine bk 0 ?_
 refine lp [0, 1, 5, 6] (fun n l h => ∃ Z215 : Zn, ∃ x216 : Int, ∃ x217 : Int, flow_reader_texts_l0 F a0 a1 n x216 x217 = some o214 ∧ l = [(0, Pt b1 0), (1, V a1), (5, V x216), (6, V x217)] ∧ St hs (idsL [.blk b1 (K58 v3 v5 v7 a0), .gs v7 c8 (csz api_Diag)]) Z (0, 0) Z215 h [.blk b1 (K58 v3 v5 v7 a0), .gs v7 c8 (csz api_Diag)]) F ⟨_, w64 (a1 + 1), r113, ho213, rfl, hS119⟩ ?_
 rintro n220 l h218 ⟨Z215, x216, x217, ho213, rfl, hS219⟩
 rcases n220 with _ | n220
 cases (show none = some o214 from ho213)
 rw [flow_reader_texts_l0] at ho213
 refine sq ?_
 refine sr r48_3 ?_
 refine xq 1 [(12, V x217), (0, Pt b1 0), (1, V a1), (5, V x216), (6, V x217)] ?_
 rcases ifs ho213 with ⟨hp239, ho213⟩ | ⟨hp239, ho213⟩
 refine r_step rfl trivial (o_cmp rfl rfl (c_neq_F hp239)) ?_
 refine xe 5 [(18, .bool false), (0, Pt b1 0), (1, V a1), (5, V x216), (6, V x217)] ?_
 refine cF 18 rfl ?_
 refine xt 0 ?_
 refine blkX_hit ?_
 obtain rfl := si ho213
 exact ⟨_, x216, rfl, rfl, hS219⟩
 refine r_step rfl trivial (o_cmp rfl rfl (c_neq_T hp239)) ?_
 refine xq 2 [(15, V x217), (14, .bool true), (0, Pt b1 0), (1, V a1), (5, V x216), (6, V x217)] ?_
 obtain ⟨r240, hx241, ho213⟩ := obind ho213
 obtain ⟨v242, h243, hcl244, hSc245, rfl⟩ := flow_counts_ok F hS219.inv  hx241
 have hS246 := St.call (A := []) (B := [.blk b1 (K58 v3 v5 v7 a0), .gs v7 c8 (csz api_Diag)]) hS219 hSc245
 replace hS246 : St _ _ _ _ _ _ [.blk b1 (K58 v3 v5 v7 a0), .gs v7 c8 (csz api_Diag)] := hS246
 refine r_step rfl rfl (o_call hcl244 rfl rfl rfl) ?_
 rcases ifs ho213 with ⟨hp247, ho213⟩ | ⟨hp247, ho213⟩
 refine r_setb (t := 16) rfl hp247 ?_
 refine xe 2 [(18, .bool false), (0, Pt b1 0), (1, V a1), (5, V x216), (6, V x217)] ?_
 refine cF 18 rfl ?_
 refine xt 0 ?_
 refine blkX_hit ?_
 obtain rfl := si ho213
 exact ⟨_, x216, rfl, rfl, hS246⟩
 refine r_setb (t := 16) rfl (Bool.eq_false_iff.2 hp247) ?_
 refine xe 2 [(18, .bool true), (0, Pt b1 0), (1, V a1), (5, V x216), (6, V x217)] ?_
 refine kT 18 rfl ?_
 refine sq ?_
 refine bk 1 ?_
 refine sr r48_5 ?_
 refine xe 3 [(5, V (w64 (x216 + 1))), (0, Pt b1 0), (1, V a1), (6, V x217)] ?_
 refine sr r48_6 ?_
 refine xq 1 [(24, V x217), (5, V (w64 (x216 + 1))), (0, Pt b1 0), (1, V a1)] ?_
 rcases ifs ho213 with ⟨hp249, ho213⟩ | ⟨hp249, ho213⟩
 refine r_step rfl trivial (o_cmp rfl rfl (c_eql_T hp249)) ?_
 refine xf [(25, .bool true), (5, V (w64 (x216 + 1))), (0, Pt b1 0), (1, V a1)] ?_
 refine cT 25 rfl ?_
 refine xt 0 ?_
 refine blkX_miss rfl ?_
 refine blkX_hit ?_
 obtain rfl := si ho213
 exact ⟨_, w64 (x216 + 1), rfl, rfl, hS246⟩
 refine r_step rfl trivial (o_cmp rfl rfl (c_eql_F hp249)) ?_
 refine xf [(25, .bool false), (5, V (w64 (x216 + 1))), (0, Pt b1 0), (1, V a1)] ?_
 refine kF 25 rfl ?_
 refine rg r48_4 ?_
 refine xq 2 [(20, V (w64 (x216 + 1))), (19, Pt b1 0), (5, V (w64 (x216 + 1))), (0, Pt b1 0), (1, V a1)] ?_
 obtain ⟨r250, hx251, ho213⟩ := obind ho213
 have hF257 : St _ _ _ _ _ _ ([.blk b1 (K58 v3 v5 v7 a0), .gs v7 c8 (csz api_Diag)] ++ []) := ((hS246.front 1 rfl).front 1 rfl)
 obtain ⟨v252, h253, Z258, A260, hcl254, hSc255, rfl, rfl⟩ := flow_reader_kind_ok F hF257.preL (q2.mono hS219.zle) (q4.mono hS219.zle) (q6.mono hS219.zle) hx251
 have hZ259 := hSc255.zle
 have hS256 := hF257.call hSc255
 replace hS256 : St _ _ _ _ _ _ [.blk b1 (K58 v3 v5 v7 a0), .gs v7 c8 (csz api_Diag)] := hS256
 refine r_step rfl trivial (o_call hcl254 rfl rfl rfl) ?_
 refine xe 1 [(6, V r250), (5, V (w64 (x216 + 1))), (0, Pt b1 0), (1, V a1)] ?_
 exact ⟨n220, Nat.lt_succ_self _, ⟨_, w64 (x216 + 1), r250, ho213, rfl, hS256⟩⟩

def r49_0 : List COp := [u 2 (.assign (.const (.bool false)))]
def r49_1 : List COp := [u 3 (mv 0), u 4 (bc .eql 3 3 8 3), u 5 (mv 4), gn 5 6 (mv 0), gn 5 7 (bc .eql 3 6 9 3), u 8 (pt 5 7), u 2 (sg 8)]
def flow_opens (F : Nat) (a0 : Int) : Option Bool :=
 if a0 = (8 : Int) then
  some true
 else
  if a0 = (9 : Int) then
   some true
  else
   some false
theorem flow_opens_ok (F : Nat) {h : AH} {Z : Zn} {a0 : Int} (hI : Inv Z h) {r : Bool} (hm : flow_opens F a0 = some r) :
  ∃ v h', callI Try.prog 49 [V a0] h = some (v, h') ∧ St h [] Z (0, 0) Z h' [] ∧ v = .bool r := by
 refine fn_plain (Q := fun v => v = .bool r) Try.func49 rfl rfl hI ?_
 intro hs hS
 unfold flow_opens at hm
 refine sr r49_0 ?_
 refine xe 1 [(0, V a0)] ?_
 refine sr r49_1 ?_
 refine xq 1 [(3, V a0), (0, V a0)] ?_
 rcases ifs hm with ⟨hp1, hm⟩ | ⟨hp1, hm⟩
 refine r_step rfl trivial (o_cmp rfl rfl (c_eql_T hp1)) ?_
 refine xe 5 [(2, .bool true)] ?_
 refine rt ?_
 refine ⟨rfl, ?_⟩
 obtain rfl := si hm
 refine ⟨_, _, _, ResL.tmp rfl (ResL.nil), hS, ?_⟩
 exact rfl
 refine r_step rfl trivial (o_cmp rfl rfl (c_eql_F hp1)) ?_
 refine xq 2 [(6, V a0), (5, .bool false)] ?_
 rcases ifs hm with ⟨hp2, hm⟩ | ⟨hp2, hm⟩
 refine r_step rfl rfl (o_cmp rfl rfl (c_eql_T hp2)) ?_
 refine xe 2 [(2, .bool true)] ?_
 refine rt ?_
 refine ⟨rfl, ?_⟩
 obtain rfl := si hm
 refine ⟨_, _, _, ResL.tmp rfl (ResL.nil), hS, ?_⟩
 exact rfl
 refine r_step rfl rfl (o_cmp rfl rfl (c_eql_F hp2)) ?_
 refine xe 2 [(2, .bool false)] ?_
 refine rt ?_
 refine ⟨rfl, ?_⟩
 obtain rfl := si hm
 refine ⟨_, _, _, ResL.tmp rfl (ResL.nil), hS, ?_⟩
 exact rfl

def r61_0 : List COp := [u 2 (.assign (.const (.bool false)))]
def r61_1 : List COp := [u 3 (mv 0), u 4 (bc .eql 3 3 10 3), u 5 (mv 4), gn 5 6 (mv 0), gn 5 7 (bc .eql 3 6 11 3), u 8 (pt 5 7), u 2 (sg 8)]
def flow_ends (F : Nat) (a0 : Int) : Option Bool :=
 if a0 = (10 : Int) then
  some true
 else
  if a0 = (11 : Int) then
   some true
  else
   some false
theorem flow_ends_ok (F : Nat) {h : AH} {Z : Zn} {a0 : Int} (hI : Inv Z h) {r : Bool} (hm : flow_ends F a0 = some r) :
  ∃ v h', callI Try.prog 61 [V a0] h = some (v, h') ∧ St h [] Z (0, 0) Z h' [] ∧ v = .bool r := by
 refine fn_plain (Q := fun v => v = .bool r) Try.func61 rfl rfl hI ?_
 intro hs hS
 unfold flow_ends at hm
 refine sr r61_0 ?_
 refine xe 1 [(0, V a0)] ?_
 refine sr r61_1 ?_
 refine xq 1 [(3, V a0), (0, V a0)] ?_
 rcases ifs hm with ⟨hp1, hm⟩ | ⟨hp1, hm⟩
 refine r_step rfl trivial (o_cmp rfl rfl (c_eql_T hp1)) ?_
 refine xe 5 [(2, .bool true)] ?_
 refine rt ?_
 refine ⟨rfl, ?_⟩
 obtain rfl := si hm
 refine ⟨_, _, _, ResL.tmp rfl (ResL.nil), hS, ?_⟩
 exact rfl
 refine r_step rfl trivial (o_cmp rfl rfl (c_eql_F hp1)) ?_
 refine xq 2 [(6, V a0), (5, .bool false)] ?_
 rcases ifs hm with ⟨hp2, hm⟩ | ⟨hp2, hm⟩
 refine r_step rfl rfl (o_cmp rfl rfl (c_eql_T hp2)) ?_
 refine xe 2 [(2, .bool true)] ?_
 refine rt ?_
 refine ⟨rfl, ?_⟩
 obtain rfl := si hm
 refine ⟨_, _, _, ResL.tmp rfl (ResL.nil), hS, ?_⟩
 exact rfl
 refine r_step rfl rfl (o_cmp rfl rfl (c_eql_F hp2)) ?_
 refine xe 2 [(2, .bool false)] ?_
 refine rt ?_
 refine ⟨rfl, ?_⟩
 obtain rfl := si hm
 refine ⟨_, _, _, ResL.tmp rfl (ResL.nil), hS, ?_⟩
 exact rfl

def r62_0 : List COp := [u 2 (.assign (.const (.bool false)))]
def r62_1 : List COp := [u 3 (mv 0), u 4 (bc .eql 3 3 20 3), u 5 (mv 4), gn 5 6 (mv 0), gn 5 7 (bc .eql 3 6 21 3), u 8 (pt 5 7), u 2 (sg 8)]
def flow_mark (F : Nat) (a0 : Int) : Option Bool :=
 if a0 = (20 : Int) then
  some true
 else
  if a0 = (21 : Int) then
   some true
  else
   some false
theorem flow_mark_ok (F : Nat) {h : AH} {Z : Zn} {a0 : Int} (hI : Inv Z h) {r : Bool} (hm : flow_mark F a0 = some r) :
  ∃ v h', callI Try.prog 62 [V a0] h = some (v, h') ∧ St h [] Z (0, 0) Z h' [] ∧ v = .bool r := by
 refine fn_plain (Q := fun v => v = .bool r) Try.func62 rfl rfl hI ?_
 intro hs hS
 unfold flow_mark at hm
 refine sr r62_0 ?_
 refine xe 1 [(0, V a0)] ?_
 refine sr r62_1 ?_
 refine xq 1 [(3, V a0), (0, V a0)] ?_
 rcases ifs hm with ⟨hp1, hm⟩ | ⟨hp1, hm⟩
 refine r_step rfl trivial (o_cmp rfl rfl (c_eql_T hp1)) ?_
 refine xe 5 [(2, .bool true)] ?_
 refine rt ?_
 refine ⟨rfl, ?_⟩
 obtain rfl := si hm
 refine ⟨_, _, _, ResL.tmp rfl (ResL.nil), hS, ?_⟩
 exact rfl
 refine r_step rfl trivial (o_cmp rfl rfl (c_eql_F hp1)) ?_
 refine xq 2 [(6, V a0), (5, .bool false)] ?_
 rcases ifs hm with ⟨hp2, hm⟩ | ⟨hp2, hm⟩
 refine r_step rfl rfl (o_cmp rfl rfl (c_eql_T hp2)) ?_
 refine xe 2 [(2, .bool true)] ?_
 refine rt ?_
 refine ⟨rfl, ?_⟩
 obtain rfl := si hm
 refine ⟨_, _, _, ResL.tmp rfl (ResL.nil), hS, ?_⟩
 exact rfl
 refine r_step rfl rfl (o_cmp rfl rfl (c_eql_F hp2)) ?_
 refine xe 2 [(2, .bool false)] ?_
 refine rt ?_
 refine ⟨rfl, ?_⟩
 obtain rfl := si hm
 refine ⟨_, _, _, ResL.tmp rfl (ResL.nil), hS, ?_⟩
 exact rfl

def r63_0 : List COp := [u 6 (.assign (ci 0))]
def r63_1 : List COp := [u 7 (mv 2), u 8 (mv 1), u 9 (bo .gtr 3 7 8 3), u 10 (mv 9), gt 10 11 (mv 0), gt 10 12 (nk 11), gt 10 13 (fa 58 12 0), gt 10 14 (ld 25 13), gt 10 15 (mv 2), gt 10 16 (bc .sub 3 15 1 3), gt 10 17 (ia 25 14 16), gt 10 18 (fa 70 17 0), gt 10 19 (ld 3 18), gt 10 20 (cf 60 #[(t 19)] #[3]), gt 10 21 (.unOp .not 4 (t 20)), u 22 (pf 10 21)]
def r63_2 : List COp := [u 23 (mv 2), u 24 (bc .sub 3 23 1 3), u 2 (sg 24)]
def r63_3 : List COp := [u 25 (mv 2), u 6 (sg 25)]
def flow_reader_over_l0 (F : Nat) (a0 : flow_reader) (a1 : Int) (a2 : Int) : Nat → Int → Option Int
 | 0, _ => none
 | n + 1, x115 =>
  if a1 < x115 then
   if 0 ≤ (w64 (x115 - 1)) ∧ (w64 (x115 - 1)) < (a0.l_.length : Int) then
    (a0.l_[(w64 (x115 - 1)).toNat]?).bind fun x153 =>
    (flow_counts F x153.Kind).bind fun r159 =>
    if r159 = true then
     some x115
    else
     flow_reader_over_l0 F a0 a1 a2 n (w64 (x115 - 1))
   else none
  else
   some x115
def flow_reader_over (F : Nat) (a0 : flow_reader) (a1 : Int) (a2 : Int) : Option Int :=
 ((flow_reader_over_l0 F a0 a1 a2 F a2) : Option Int).bind fun o => match o with
  | x169 => some x169
theorem flow_reader_over_ok (F : Nat) {h : AH} {Z : Zn} {a0 : flow_reader} {a1 : Int} {a2 : Int} {b1 : Nat} {v3 : Value} {v5 : Value} {v7 : Value} {c8 : List Value} (hP : Pre Z h [.blk b1 (K58 v3 v5 v7 a0), .gs v7 c8 (csz api_Diag)]) (q2 : RS (α := api_Token) Z v3 a0.l_) (q4 : RS (α := api_Node) Z v5 a0.t_.Nodes) (q6 : RCs (α := api_Diag) Z c8 a0.d_) {r : Int} (hm : flow_reader_over F a0 a1 a2 = some r) :
  ∃ v h' Z' A', callI Try.prog 63 [Pt b1 0, V a1, V a2] h = some (v, h') ∧ St h (idsL [.blk b1 (K58 v3 v5 v7 a0), .gs v7 c8 (csz api_Diag)]) Z (0, 0) Z' h' A' ∧ V r = v ∧ A' = [.blk b1 (K58 v3 v5 v7 a0), .gs v7 c8 (csz api_Diag)] := by
 refine fn_intro (A := [.blk b1 (K58 v3 v5 v7 a0), .gs v7 c8 (csz api_Diag)]) (Q := fun v Z' A' => V r = v ∧ A' = [.blk b1 (K58 v3 v5 v7 a0), .gs v7 c8 (csz api_Diag)]) Try.func63 rfl rfl (by kernel_rfl) hP ?_
 intro hs hS
 unfold flow_reader_over at hm
 refine sr r63_0 ?_
 refine xe 1 [(0, Pt b1 0), (1, V a1), (2, V a2)] ?_
 refine sq ?_
 obtain ⟨o113, ho112, hm⟩ := obind hm
 refine W_join [2] (fun l h => ∃ Z168 : Zn, ∃ x169 : Int, x169 = o113 ∧ l = [(2, V x169)] ∧ St hs (idsL [.blk b1 (K58 v3 v5 v7 a0), .gs v7 c8 (csz api_Diag)]) Z (0, 0) Z168 h [.blk b1 (K58 v3 v5 v7 a0), .gs v7 c8 (csz api_Diag)]) ?_ ?_
 rintro l h170 ⟨Z168, x169, rfl, rfl, hS171⟩
 try dsimp only at hm
 refine sr r63_3 ?_
 refine xe 2 [(6, V x169)] ?_
 refine rt ?_
 refine ⟨rfl, ?_⟩
 obtain rfl := si hm
 refine ⟨_, _, _, ResL.tmp rfl (ResL.nil), hS171, ?_⟩
 exact ⟨rfl, rfl⟩
 refine bk 0 ?_
 refine lp [0, 1, 2] (fun n l h => ∃ Z114 : Zn, ∃ x115 : Int, flow_reader_over_l0 F a0 a1 a2 n x115 = some o113 ∧ l = [(0, Pt b1 0), (1, V a1), (2, V x115)] ∧ St hs (idsL [.blk b1 (K58 v3 v5 v7 a0), .gs v7 c8 (csz api_Diag)]) Z (0, 0) Z114 h [.blk b1 (K58 v3 v5 v7 a0), .gs v7 c8 (csz api_Diag)]) F ⟨_, a2, ho112, rfl, hS⟩ ?_
 rintro n118 l h116 ⟨Z114, x115, ho112, rfl, hS117⟩
 rcases n118 with _ | n118
 cases (show none = some o113 from ho112)
 rw [flow_reader_over_l0] at ho112
 refine sq ?_
 refine sr r63_1 ?_
 refine xq 2 [(8, V a1), (7, V x115), (0, Pt b1 0), (1, V a1), (2, V x115)] ?_
 rcases ifs ho112 with ⟨hp151, ho112⟩ | ⟨hp151, ho112⟩
 refine r_step rfl trivial (o_cmp rfl rfl (c_gtr_T hp151)) ?_
 refine xq 4 [(13, Pt b1 0), (10, .bool true), (0, Pt b1 0), (1, V a1), (2, V x115)] ?_
 refine r_step rfl rfl (o_ldb (v := v3) hS117 (i := 0) rfl rfl (by kernel_rfl)) ?_
 refine xq 2 [(16, V (w64 (x115 - 1))), (14, v3), (10, .bool true), (0, Pt b1 0), (1, V a1), (2, V x115)] ?_
 obtain ⟨hc152, ho112⟩ := chk ho112
 refine r_step rfl rfl (o_index rfl rfl (by kernel_rfl : slTy _ _ = some (csz api_Token)) (RS.based (q2.mono hS117.zle) (by omega)) hc152.1 hc152.2) ?_
 refine xq 1 [(18, .pointer (some (elemA v3 (w64 (x115 - 1)) (csz api_Token) 0))), (10, .bool true), (0, Pt b1 0), (1, V a1), (2, V x115)] ?_
 obtain ⟨x153, hx154, ho112⟩ := obind ho112
 obtain ⟨cs155, hc156, he157⟩ := RS.elz (q2.mono hS117.zle) (i := w64 (x115 - 1)) hx154
 obtain rfl := rc_api_Token hc156
 refine r_step rfl rfl (o_lde (w := V x153.Kind) (he157 _ (hS117.zin0 (Zle.refl _))) rfl (by kernel_rfl)) ?_
 obtain ⟨r159, hx160, ho112⟩ := obind ho112
 obtain ⟨v161, h162, hcl163, hSc164, rfl⟩ := flow_counts_ok F hS117.inv  hx160
 have hS165 := St.call (A := []) (B := [.blk b1 (K58 v3 v5 v7 a0), .gs v7 c8 (csz api_Diag)]) hS117 hSc164
 replace hS165 : St _ _ _ _ _ _ [.blk b1 (K58 v3 v5 v7 a0), .gs v7 c8 (csz api_Diag)] := hS165
 refine r_step rfl rfl (o_call hcl163 rfl rfl rfl) ?_
 rcases ifs ho112 with ⟨hp166, ho112⟩ | ⟨hp166, ho112⟩
 refine r_setb (t := 20) rfl hp166 ?_
 refine xe 2 [(22, .bool false), (0, Pt b1 0), (1, V a1), (2, V x115)] ?_
 refine cF 22 rfl ?_
 refine xt 0 ?_
 refine blkX_hit ?_
 obtain rfl := si ho112
 exact ⟨_, x115, rfl, rfl, hS165⟩
 refine r_setb (t := 20) rfl (Bool.eq_false_iff.2 hp166) ?_
 refine xe 2 [(22, .bool true), (0, Pt b1 0), (1, V a1), (2, V x115)] ?_
 refine kT 22 rfl ?_
 refine bk 1 ?_
 refine rg r63_2 ?_
 refine xe 3 [(2, V (w64 (x115 - 1))), (0, Pt b1 0), (1, V a1)] ?_
 exact ⟨n118, Nat.lt_succ_self _, ⟨_, w64 (x115 - 1), ho112, rfl, hS165⟩⟩
 refine r_step rfl trivial (o_cmp rfl rfl (c_gtr_F hp151)) ?_
 refine xe 13 [(22, .bool false), (0, Pt b1 0), (1, V a1), (2, V x115)] ?_
 refine cF 22 rfl ?_
 refine xt 0 ?_
 refine blkX_hit ?_
 obtain rfl := si ho112
 exact ⟨_, x115, rfl, rfl, hS117⟩

def r50_0 : List COp := [u 4 (.assign (ci 0))]
def r50_1 : List COp := [u 5 (.assign (ci 0))]
def r50_2 : List COp := [u 8 (mv 1), u 6 (sg 8)]
def r50_3 : List COp := [u 9 (mv 6), u 10 (mv 0), u 11 (nk 10), u 12 (fa 58 11 1), u 13 (ld 3 12), u 14 (bo .lss 3 9 13 3)]
def r50_4 : List COp := [u 15 (mv 6), u 16 (bc .add 3 15 1 3), u 6 (sg 16)]
def r50_5 : List COp := [u 17 (mv 0), u 18 (mv 6), u 19 (cf 46 #[(t 17), (t 18)] #[55, 3]), u 7 (sg 19)]
def r50_6 : List COp := [u 21 (mv 7), u 22 (cf 49 #[(t 21)] #[3]), u 20 (sg 22)]
def r50_7 : List COp := [u 23 (mv 5), u 24 (bc .add 3 23 1 3), u 5 (sg 24)]
def r50_8 : List COp := [u 26 (mv 7), u 27 (cf 61 #[(t 26)] #[3]), u 25 (sg 27)]
def r50_9 : List COp := [u 28 (mv 5), u 29 (bc .sub 3 28 1 3), u 5 (sg 29)]
def r50_10 : List COp := [u 31 (mv 7), u 32 (cf 62 #[(t 31)] #[3]), u 30 (sg 32)]
def r50_11 : List COp := [u 33 (mv 0), u 34 (mv 1), u 35 (mv 6), u 36 (cf 63 #[(t 33), (t 34), (t 35)] #[55, 3, 3]), u 4 (sg 36)]
def r50_12 : List COp := [u 37 (mv 5), u 38 (bc .eql 3 37 0 3)]
def r50_13 : List COp := [u 39 (mv 6), u 40 (bc .add 3 39 1 3), u 4 (sg 40)]
def r50_14 : List COp := [u 41 (mv 0), u 42 (mv 1), u 43 (mv 0), u 44 (nk 43), u 45 (fa 58 44 1), u 46 (ld 3 45), u 47 (cf 63 #[(t 41), (t 42), (t 46)] #[55, 3, 3]), u 4 (sg 47)]
def flow_reader_closed_l0 (F : Nat) (a0 : flow_reader) (a1 : Int) : Nat → Int → Int → Option (Sum Unit Int)
 | 0, _, _ => none
 | n + 1, x130, x131 =>
  if x131 < a0.end_ then
   (((flow_reader_kind F a0 x131).bind fun r186 =>
    (flow_opens F r186).bind fun r197 =>
    if r197 = true then
     some (.inl (w64 (x130 + 1)))
    else
     (flow_ends F r186).bind fun r205 =>
     if r205 = true then
      some (.inl (w64 (x130 - 1)))
     else
      (flow_mark F r186).bind fun r213 =>
      if r213 = true then
       (flow_reader_over F a0 a1 x131).bind fun r221 =>
       some (.inr r221)
      else
       some (.inl x130)) : Option (Sum Int Int)).bind fun o => match o with
    | .inl x233 => if x233 = (0 : Int) then
     some (.inr (w64 (x131 + 1)))
    else
     flow_reader_closed_l0 F a0 a1 n x233 (w64 (x131 + 1))
    | .inr y => some (.inr y)
  else
   some (.inl ())
def flow_reader_closed (F : Nat) (a0 : flow_reader) (a1 : Int) : Option Int :=
 ((flow_reader_closed_l0 F a0 a1 F 0 a1) : Option (Sum Unit Int)).bind fun o => match o with
  | .inl () => (flow_reader_over F a0 a1 a0.end_).bind fun r242 =>
  some r242
  | .inr y => some y
theorem flow_reader_closed_ok (F : Nat) {h : AH} {Z : Zn} {a0 : flow_reader} {a1 : Int} {b1 : Nat} {v3 : Value} {v5 : Value} {v7 : Value} {c8 : List Value} (hP : Pre Z h [.blk b1 (K58 v3 v5 v7 a0), .gs v7 c8 (csz api_Diag)]) (q2 : RS (α := api_Token) Z v3 a0.l_) (q4 : RS (α := api_Node) Z v5 a0.t_.Nodes) (q6 : RCs (α := api_Diag) Z c8 a0.d_) {r : Int} (hm : flow_reader_closed F a0 a1 = some r) :
  ∃ v h' Z' A', callI Try.prog 50 [Pt b1 0, V a1] h = some (v, h') ∧ St h (idsL [.blk b1 (K58 v3 v5 v7 a0), .gs v7 c8 (csz api_Diag)]) Z (0, 0) Z' h' A' ∧ V r = v ∧ A' = [.blk b1 (K58 v3 v5 v7 a0), .gs v7 c8 (csz api_Diag)] := by
 refine fn_intro (A := [.blk b1 (K58 v3 v5 v7 a0), .gs v7 c8 (csz api_Diag)]) (Q := fun v Z' A' => V r = v ∧ A' = [.blk b1 (K58 v3 v5 v7 a0), .gs v7 c8 (csz api_Diag)]) Try.func50 rfl rfl (by kernel_rfl) hP ?_
 intro hs hS
 unfold flow_reader_closed at hm
 refine sr r50_0 ?_
 refine xe 1 [(0, Pt b1 0), (1, V a1)] ?_
 refine sr r50_1 ?_
 refine xe 1 [(5, V 0), (0, Pt b1 0), (1, V a1)] ?_
 refine sq ?_
 refine sr r50_2 ?_
 refine xe 2 [(6, V a1), (5, V 0), (0, Pt b1 0), (1, V a1)] ?_
 obtain ⟨o128, ho127, hm⟩ := obind hm
 refine W_join [0, 1] (fun l h => ∃ Z239 : Zn, .inl () = o128 ∧ l = [(0, Pt b1 0), (1, V a1)] ∧ St hs (idsL [.blk b1 (K58 v3 v5 v7 a0), .gs v7 c8 (csz api_Diag)]) Z (0, 0) Z239 h [.blk b1 (K58 v3 v5 v7 a0), .gs v7 c8 (csz api_Diag)]) ?_ ?_
 rintro l h240 ⟨Z239, rfl, rfl, hS241⟩
 try dsimp only at hm
 refine sr r50_14 ?_
 refine xq 5 [(45, Pt b1 1), (42, V a1), (41, Pt b1 0)] ?_
 refine r_step rfl trivial (o_ldb (v := V a0.end_) hS241 (i := 0) rfl rfl (by kernel_rfl)) ?_
 obtain ⟨r242, hx243, hm⟩ := obind hm
 have hF249 : St _ _ _ _ _ _ ([.blk b1 (K58 v3 v5 v7 a0), .gs v7 c8 (csz api_Diag)] ++ []) := ((hS241.front 1 rfl).front 1 rfl)
 obtain ⟨v244, h245, Z250, A252, hcl246, hSc247, rfl, rfl⟩ := flow_reader_over_ok F hF249.preL (q2.mono hS241.zle) (q4.mono hS241.zle) (q6.mono hS241.zle) hx243
 have hZ251 := hSc247.zle
 have hS248 := hF249.call hSc247
 replace hS248 : St _ _ _ _ _ _ [.blk b1 (K58 v3 v5 v7 a0), .gs v7 c8 (csz api_Diag)] := hS248
 refine r_step rfl trivial (o_call hcl246 rfl rfl rfl) ?_
 refine xe 1 [(4, V r242)] ?_
 refine rt ?_
 refine ⟨rfl, ?_⟩
 obtain rfl := si hm
 refine ⟨_, _, _, ResL.tmp rfl (ResL.nil), hS248, ?_⟩
 exact ⟨rfl, rfl⟩
 refine bk 0 ?_
 refine lp [0, 1, 5, 6] (fun n l h => ∃ Z129 : Zn, ∃ x130 : Int, ∃ x131 : Int, flow_reader_closed_l0 F a0 a1 n x130 x131 = some o128 ∧ l = [(0, Pt b1 0), (1, V a1), (5, V x130), (6, V x131)] ∧ St hs (idsL [.blk b1 (K58 v3 v5 v7 a0), .gs v7 c8 (csz api_Diag)]) Z (0, 0) Z129 h [.blk b1 (K58 v3 v5 v7 a0), .gs v7 c8 (csz api_Diag)]) F ⟨_, 0, a1, ho127, rfl, hS⟩ ?_
 rintro n134 l h132 ⟨Z129, x130, x131, ho127, rfl, hS133⟩
 rcases n134 with _ | n134
 cases (show none = some o128 from ho127)
 rw [flow_reader_closed_l0] at ho127
 refine sq ?_
 refine sr r50_3 ?_
 refine xq 4 [(12, Pt b1 1), (9, V x131), (0, Pt b1 0), (1, V a1), (5, V x130), (6, V x131)] ?_
 refine r_step rfl trivial (o_ldb (v := V a0.end_) hS133 (i := 0) rfl rfl (by kernel_rfl)) ?_
 rcases ifs ho127 with ⟨hp137, ho127⟩ | ⟨hp137, ho127⟩
 refine r_step rfl trivial (o_cmp rfl rfl (c_lss_T hp137)) ?_
 refine xf [(14, .bool true), (0, Pt b1 0), (1, V a1), (5, V x130), (6, V x131)] ?_
 refine kT 14 rfl ?_
 refine sq ?_
 refine bk 1 ?_
 refine sq ?_
 obtain ⟨o185, ho184, ho127⟩ := obind ho127
 refine W_join [0, 1, 5, 6] (fun l h => ∃ Z232 : Zn, ∃ x233 : Int, .inl x233 = o185 ∧ l = [(0, Pt b1 0), (1, V a1), (5, V x233), (6, V x131)] ∧ St hs (idsL [.blk b1 (K58 v3 v5 v7 a0), .gs v7 c8 (csz api_Diag)]) Z (0, 0) Z232 h [.blk b1 (K58 v3 v5 v7 a0), .gs v7 c8 (csz api_Diag)]) ?_ ?_
 rintro l h234 ⟨Z232, x233, rfl, rfl, hS235⟩
 try dsimp only at ho127
 refine sr r50_12 ?_
 refine xq 1 [(37, V x233), (0, Pt b1 0), (1, V a1), (5, V x233), (6, V x131)] ?_
 rcases ifs ho127 with ⟨hp237, ho127⟩ | ⟨hp237, ho127⟩
 refine r_step rfl trivial (o_cmp rfl rfl (c_eql_T hp237)) ?_
 refine xf [(38, .bool true), (0, Pt b1 0), (1, V a1), (5, V x233), (6, V x131)] ?_
 refine cT 38 rfl ?_
 refine sr r50_13 ?_
 refine xe 3 [(4, V (w64 (x131 + 1)))] ?_
 refine rt ?_
 refine blkX_ret ?_
 refine blkX_ret ?_
 refine ⟨rfl, ?_⟩
 obtain rfl := si ho127
 obtain rfl := si hm
 refine ⟨_, _, _, ResL.tmp rfl (ResL.nil), hS235, ?_⟩
 exact ⟨rfl, rfl⟩
 refine r_step rfl trivial (o_cmp rfl rfl (c_eql_F hp237)) ?_
 refine xf [(38, .bool false), (0, Pt b1 0), (1, V a1), (5, V x233), (6, V x131)] ?_
 refine kF 38 rfl ?_
 refine rg r50_4 ?_
 refine xe 3 [(6, V (w64 (x131 + 1))), (0, Pt b1 0), (1, V a1), (5, V x233)] ?_
 exact ⟨n134, Nat.lt_succ_self _, ⟨_, x233, w64 (x131 + 1), ho127, rfl, hS235⟩⟩
 refine sr r50_5 ?_
 refine xq 2 [(18, V x131), (17, Pt b1 0), (0, Pt b1 0), (1, V a1), (5, V x130), (6, V x131)] ?_
 obtain ⟨r186, hx187, ho184⟩ := obind ho184
 have hF193 : St _ _ _ _ _ _ ([.blk b1 (K58 v3 v5 v7 a0), .gs v7 c8 (csz api_Diag)] ++ []) := ((hS133.front 1 rfl).front 1 rfl)
 obtain ⟨v188, h189, Z194, A196, hcl190, hSc191, rfl, rfl⟩ := flow_reader_kind_ok F hF193.preL (q2.mono hS133.zle) (q4.mono hS133.zle) (q6.mono hS133.zle) hx187
 have hZ195 := hSc191.zle
 have hS192 := hF193.call hSc191
 replace hS192 : St _ _ _ _ _ _ [.blk b1 (K58 v3 v5 v7 a0), .gs v7 c8 (csz api_Diag)] := hS192
 refine r_step rfl trivial (o_call hcl190 rfl rfl rfl) ?_
 refine xe 1 [(7, V r186), (0, Pt b1 0), (1, V a1), (5, V x130), (6, V x131)] ?_
 refine bk 2 ?_
 refine sr r50_6 ?_
 refine xq 1 [(21, V r186), (7, V r186), (0, Pt b1 0), (1, V a1), (5, V x130), (6, V x131)] ?_
 obtain ⟨r197, hx198, ho184⟩ := obind ho184
 obtain ⟨v199, h200, hcl201, hSc202, rfl⟩ := flow_opens_ok F hS192.inv  hx198
 have hS203 := St.call (A := []) (B := [.blk b1 (K58 v3 v5 v7 a0), .gs v7 c8 (csz api_Diag)]) hS192 hSc202
 replace hS203 : St _ _ _ _ _ _ [.blk b1 (K58 v3 v5 v7 a0), .gs v7 c8 (csz api_Diag)] := hS203
 refine r_step rfl trivial (o_call hcl201 rfl rfl rfl) ?_
 refine xe 1 [(20, .bool r197), (7, V r186), (0, Pt b1 0), (1, V a1), (5, V x130), (6, V x131)] ?_
 rcases ifs ho184 with ⟨hp204, ho184⟩ | ⟨hp204, ho184⟩
 refine W_condT (x := .tmp 20) (by kernel_rfl) rfl hp204 ?_
 refine rg r50_7 ?_
 refine xe 3 [(5, V (w64 (x130 + 1))), (0, Pt b1 0), (1, V a1), (6, V x131)] ?_
 obtain rfl := si ho184
 exact ⟨_, w64 (x130 + 1), rfl, rfl, hS203⟩
 refine W_condF (x := .tmp 20) (by kernel_rfl) rfl (Bool.eq_false_iff.2 hp204) ?_
 refine sr r50_8 ?_
 refine xq 1 [(26, V r186), (7, V r186), (0, Pt b1 0), (1, V a1), (5, V x130), (6, V x131)] ?_
 obtain ⟨r205, hx206, ho184⟩ := obind ho184
 obtain ⟨v207, h208, hcl209, hSc210, rfl⟩ := flow_ends_ok F hS203.inv  hx206
 have hS211 := St.call (A := []) (B := [.blk b1 (K58 v3 v5 v7 a0), .gs v7 c8 (csz api_Diag)]) hS203 hSc210
 replace hS211 : St _ _ _ _ _ _ [.blk b1 (K58 v3 v5 v7 a0), .gs v7 c8 (csz api_Diag)] := hS211
 refine r_step rfl trivial (o_call hcl209 rfl rfl rfl) ?_
 refine xe 1 [(25, .bool r205), (7, V r186), (0, Pt b1 0), (1, V a1), (5, V x130), (6, V x131)] ?_
 rcases ifs ho184 with ⟨hp212, ho184⟩ | ⟨hp212, ho184⟩
 refine W_condT (x := .tmp 25) (by kernel_rfl) rfl hp212 ?_
 refine rg r50_9 ?_
 refine xe 3 [(5, V (w64 (x130 - 1))), (0, Pt b1 0), (1, V a1), (6, V x131)] ?_
 obtain rfl := si ho184
 exact ⟨_, w64 (x130 - 1), rfl, rfl, hS211⟩
 refine W_condF (x := .tmp 25) (by kernel_rfl) rfl (Bool.eq_false_iff.2 hp212) ?_
 refine sr r50_10 ?_
 refine xq 1 [(31, V r186), (0, Pt b1 0), (1, V a1), (5, V x130), (6, V x131)] ?_
 obtain ⟨r213, hx214, ho184⟩ := obind ho184
 obtain ⟨v215, h216, hcl217, hSc218, rfl⟩ := flow_mark_ok F hS211.inv  hx214
 have hS219 := St.call (A := []) (B := [.blk b1 (K58 v3 v5 v7 a0), .gs v7 c8 (csz api_Diag)]) hS211 hSc218
 replace hS219 : St _ _ _ _ _ _ [.blk b1 (K58 v3 v5 v7 a0), .gs v7 c8 (csz api_Diag)] := hS219
 refine r_step rfl trivial (o_call hcl217 rfl rfl rfl) ?_
 refine xe 1 [(30, .bool r213), (0, Pt b1 0), (1, V a1), (5, V x130), (6, V x131)] ?_
 rcases ifs ho184 with ⟨hp220, ho184⟩ | ⟨hp220, ho184⟩
 refine W_condT (x := .tmp 30) (by kernel_rfl) rfl hp220 ?_
 refine sr r50_11 ?_
 refine xq 3 [(35, V x131), (34, V a1), (33, Pt b1 0)] ?_
 obtain ⟨r221, hx222, ho184⟩ := obind ho184
 have hF228 : St _ _ _ _ _ _ ([.blk b1 (K58 v3 v5 v7 a0), .gs v7 c8 (csz api_Diag)] ++ []) := ((hS219.front 1 rfl).front 1 rfl)
 obtain ⟨v223, h224, Z229, A231, hcl225, hSc226, rfl, rfl⟩ := flow_reader_over_ok F hF228.preL (q2.mono (hS133.zle.trans hZ195)) (q4.mono (hS133.zle.trans hZ195)) (q6.mono (hS133.zle.trans hZ195)) hx222
 have hZ230 := hSc226.zle
 have hS227 := hF228.call hSc226
 replace hS227 : St _ _ _ _ _ _ [.blk b1 (K58 v3 v5 v7 a0), .gs v7 c8 (csz api_Diag)] := hS227
 refine r_step rfl trivial (o_call hcl225 rfl rfl rfl) ?_
 refine xe 1 [(4, V r221)] ?_
 refine rt ?_
 refine blkX_ret ?_
 refine blkX_ret ?_
 refine blkX_ret ?_
 refine ⟨rfl, ?_⟩
 obtain rfl := si ho184
 obtain rfl := si ho127
 obtain rfl := si hm
 refine ⟨_, _, _, ResL.tmp rfl (ResL.nil), hS227, ?_⟩
 exact ⟨rfl, rfl⟩
 refine W_condF (x := .tmp 30) (by kernel_rfl) rfl (Bool.eq_false_iff.2 hp220) ?_
 refine sk ?_
 obtain rfl := si ho184
 exact ⟨_, x130, rfl, rfl, hS219⟩
 refine r_step rfl trivial (o_cmp rfl rfl (c_lss_F hp137)) ?_
 refine xf [(14, .bool false), (0, Pt b1 0), (1, V a1), (5, V x130), (6, V x131)] ?_
 refine cF 14 rfl ?_
 refine xt 0 ?_
 refine blkX_hit ?_
 obtain rfl := si ho127
 exact ⟨_, rfl, rfl, hS133⟩

def r64_0 : List COpF := [uP 8 (mv 0), uP 9 (mv 0), uP 10 (nk 9), uP 11 (fa 58 10 3), uL 12 (ld 30 11), uP 13 (mv 1), uP 14 (mv 0), uP 15 (nk 14), uP 16 (fa 58 15 0), uL 17 (ld 25 16), uP 18 (mv 2), uP 19 (ia 25 17 18), uP 20 (fa 70 19 1), uL 21 (ld 3 20), uP 22 (mv 0), uP 23 (nk 22), uP 24 (fa 58 23 0), uL 25 (ld 25 24), uP 26 (mv 3), uP 27 (bc .sub 3 26 1 3), uP 28 (ia 25 25 27), uP 29 (fa 70 28 2), uL 30 (ld 3 29), uP 31 (.build 35 #[(0, (t 13)), (1, (t 21)), (2, (t 30))]), uF 32 (.buildSlice 30 1 #[(0, (t 31))]) .fresh [], uF 33 (cb .append #[(t 12), (t 32)] #[30, 30]) .make [4, 9, 13, 17, 22], uP 34 (nk 8), uP 35 (fa 58 34 3), oF (.store 30 (t 35) (t 33)) .make [4, 9, 13, 17, 22]]
def flow_reader_tell (F : Nat) (a0 : flow_reader) (a1 : Int) (a2 : Int) (a3 : Int) : Option flow_reader :=
 if 0 ≤ a2 ∧ a2 < (a0.l_.length : Int) then
  (a0.l_[a2.toNat]?).bind fun x23 =>
  if 0 ≤ (w64 (a3 - 1)) ∧ (w64 (a3 - 1)) < (a0.l_.length : Int) then
   (a0.l_[(w64 (a3 - 1)).toNat]?).bind fun x31 =>
   if a0.d_.length + [(⟨a1, x23.From, x31.To⟩ : api_Diag)].length ≤ 5864062014805 then
    some (⟨a0.l_, a0.end_, a0.t_, a0.d_ ++ [(⟨a1, x23.From, x31.To⟩ : api_Diag)]⟩ : flow_reader)
   else none
  else none
 else none
theorem flow_reader_tell_ok (F : Nat) {h : AH} {Z : Zn} {a0 : flow_reader} {a1 : Int} {a2 : Int} {a3 : Int} {b1 : Nat} {v3 : Value} {v5 : Value} {v7 : Value} {c8 : List Value} (hP : Pre Z h [.blk b1 (K58 v3 v5 v7 a0), .gs v7 c8 (csz api_Diag)]) (q2 : RS (α := api_Token) Z v3 a0.l_) (q4 : RS (α := api_Node) Z v5 a0.t_.Nodes) (q6 : RCs (α := api_Diag) Z c8 a0.d_) {r : flow_reader} (hm : flow_reader_tell F a0 a1 a2 a3 = some r) :
  ∃ v h' Z' A', callI Try.prog 64 [Pt b1 0, V a1, V a2, V a3] h = some (v, h') ∧ St h (idsL [.blk b1 (K58 v3 v5 v7 a0), .gs v7 c8 (csz api_Diag)]) Z (0, 0) Z' h' A' ∧ ∃ v10 : Value, ∃ v12 : Value, ∃ v14 : Value, ∃ c15 : List Value, .tuple #[] = v ∧ A' = [.blk b1 (K58 v10 v12 v14 r), .gs v14 c15 (csz api_Diag)] ∧ RS (α := api_Token) Z' v10 r.l_ ∧ RS (α := api_Node) Z' v12 r.t_.Nodes ∧ RCs (α := api_Diag) Z' c15 r.d_ := by
 refine fn_intro (A := [.blk b1 (K58 v3 v5 v7 a0), .gs v7 c8 (csz api_Diag)]) (Q := fun v Z' A' => ∃ v10 : Value, ∃ v12 : Value, ∃ v14 : Value, ∃ c15 : List Value, .tuple #[] = v ∧ A' = [.blk b1 (K58 v10 v12 v14 r), .gs v14 c15 (csz api_Diag)] ∧ RS (α := api_Token) Z' v10 r.l_ ∧ RS (α := api_Node) Z' v12 r.t_.Nodes ∧ RCs (α := api_Diag) Z' c15 r.d_) Try.func64 rfl rfl (by kernel_rfl) hP ?_
 intro hs hS
 unfold flow_reader_tell at hm
 refine rgF r64_0 hS ?_
 intro bs16 h17 hlv19 hS18
 refine yq 4 [(11, Pt b1 3), (8, Pt b1 0), (0, Pt b1 0), (1, V a1), (2, V a2), (3, V a3)] ?_
 have lt20 : b1 < bs16 := hlv19.1 _ (List.mem_of_getElem? (i := 0) rfl) _ (by simp [Itm.ids])
 refine e_lookO (v := v7) rfl trivial rfl (by show b1 < _; omega) (same1 (v := v7) (hS18.gsim1 (i := 1) rfl)) (hS18.ldAt (i := 0) rfl (by kernel_rfl)) trivial ?_
 refine yq 4 [(16, Pt b1 0), (13, V a1), (12, v7), (8, Pt b1 0), (0, Pt b1 0), (2, V a2), (3, V a3)] ?_
 have lt21 : b1 < bs16 := hlv19.1 _ (List.mem_of_getElem? (i := 0) rfl) _ (by simp [Itm.ids])
 refine e_lookO (v := v3) rfl trivial rfl (by show b1 < _; omega) (same1 (v := v3) (RS.sim1 q2)) (hS18.ldAt (i := 0) rfl (by kernel_rfl)) trivial ?_
 refine yq 1 [(18, V a2), (17, v3), (13, V a1), (12, v7), (8, Pt b1 0), (0, Pt b1 0), (3, V a3)] ?_
 obtain ⟨hc22, hm⟩ := chk hm
 refine e_val rfl trivial (o_index rfl rfl (by kernel_rfl : slTy _ _ = some (csz api_Token)) (RS.based q2 (by omega)) hc22.1 hc22.2) ?_
 refine yq 1 [(20, .pointer (some (elemA v3 a2 (csz api_Token) 1))), (13, V a1), (12, v7), (8, Pt b1 0), (0, Pt b1 0), (3, V a3)] ?_
 obtain ⟨x23, hx24, hm⟩ := obind hm
 obtain ⟨cs25, hc26, he27⟩ := RS.elz q2 (i := a2) hx24
 obtain rfl := rc_api_Token hc26
 refine e_lookZ rfl rfl trivial (fun h2 hz => o_lde (w := V x23.From) (he27 h2 hz) rfl (by kernel_rfl)) (hS18.zin0 (Zle.refl _)) (same1 (v := V x23.From) trivial) trivial ?_
 refine yq 3 [(24, Pt b1 0), (21, V x23.From), (13, V a1), (12, v7), (8, Pt b1 0), (3, V a3)] ?_
 have lt29 : b1 < bs16 := hlv19.1 _ (List.mem_of_getElem? (i := 0) rfl) _ (by simp [Itm.ids])
 refine e_lookO (v := v3) rfl trivial rfl (by show b1 < _; omega) (same1 (v := v3) (RS.sim1 q2)) (hS18.ldAt (i := 0) rfl (by kernel_rfl)) trivial ?_
 refine yq 2 [(27, V (w64 (a3 - 1))), (25, v3), (21, V x23.From), (13, V a1), (12, v7), (8, Pt b1 0)] ?_
 obtain ⟨hc30, hm⟩ := chk hm
 refine e_val rfl trivial (o_index rfl rfl (by kernel_rfl : slTy _ _ = some (csz api_Token)) (RS.based q2 (by omega)) hc30.1 hc30.2) ?_
 refine yq 1 [(29, .pointer (some (elemA v3 (w64 (a3 - 1)) (csz api_Token) 2))), (21, V x23.From), (13, V a1), (12, v7), (8, Pt b1 0)] ?_
 obtain ⟨x31, hx32, hm⟩ := obind hm
 obtain ⟨cs33, hc34, he35⟩ := RS.elz q2 (i := w64 (a3 - 1)) hx32
 obtain rfl := rc_api_Token hc34
 refine e_lookZ rfl rfl trivial (fun h2 hz => o_lde (w := V x31.To) (he35 h2 hz) rfl (by kernel_rfl)) (hS18.zin0 (Zle.refl _)) (same1 (v := V x31.To) trivial) trivial ?_
 refine yq 1 [(31, .agg #[V a1, V x23.From, V x31.To]), (12, v7), (8, Pt b1 0)] ?_
 have q40 : RCs (α := api_Diag) Z [V a1, V x23.From, V x31.To] [(⟨a1, x23.From, x31.To⟩ : api_Diag)] := RCs.cons (cs := [V a1, V x23.From, V x31.To]) rfl (RCs.nil0 _)
 refine e_row rfl trivial (o_bs (cells := [V a1, V x23.From, V x31.To]) (s := 3) (by kernel_rfl)) (by kernel_rfl) hS18 (by omega) (Nat.add_lt_add_left (by decide) _) ?_
 intro v37 h38 b41 eb42 ec43 hS39
 replace hS39 : St _ _ _ _ _ _ [.gs v37 [V a1, V x23.From, V x31.To] (csz api_Diag), .blk b1 (K58 v3 v5 v7 a0), .gs v7 c8 (csz api_Diag)] := hS39
 obtain ⟨hc50, hm⟩ := chk hm
 have hF51 : St _ _ _ _ _ _ ([.gs v7 c8 (csz api_Diag)] ++ [.gs v37 [V a1, V x23.From, V x31.To] (csz api_Diag), .blk b1 (K58 v3 v5 v7 a0)]) := (hS39.front 2 rfl)
 refine e_mk3 rfl trivial hF51 (o_app (ys := [(⟨a1, x23.From, x31.To⟩ : api_Diag)]) (by_ := 24) hF51.sub (i := 0) rfl q6 ((hS39.lown).gnews (j := 0) rfl q40) rfl rfl (by kernel_rfl) (by omega) (by omega)) (Zle.refl _) (.keep trivial (.keep (hF51.neB 1 rfl blk_mem) (.keep trivial (.keep (hF51.neB 1 rfl blk_mem) (.keep (hF51.neB 1 rfl blk_mem) .nil))))) ?_
 rintro v45 c46 h47 ⟨q49, hS48⟩
 replace hS48 : St _ _ _ _ _ _ [.gs v45 c46 (csz api_Diag), .gs v37 [V a1, V x23.From, V x31.To] (csz api_Diag), .blk b1 (K58 v3 v5 v7 a0)] := hS48
 refine yq 2 [(35, Pt b1 3), (33, v45)] ?_
 have hF54 : St _ _ _ _ _ _ ([.blk b1 (K58 v3 v5 v7 a0)] ++ [.gs v45 c46 (csz api_Diag), .gs v37 [V a1, V x23.From, V x31.To] (csz api_Diag)]) := (hS48.front 2 rfl)
 refine e_mk1 rfl trivial hF54 (o_stb (vs := [v45]) (cells' := (K58 v3 v5 v45 a0)) (L' := [.blk b1 (K58 v3 v5 v45 a0)]) hF54.sub (i := 0) rfl rfl rfl (hS48.gcell1 (i := 0) rfl) (by kernel_rfl) (one_cons (hS48.gone1 (i := 0) rfl) one_nil) rfl rfl rfl) (Zle.refl _) (.keep trivial (.drop (by decide) (.keep trivial (.drop (by decide) (.drop (by decide) .nil))))) ?_
 intro h52 hS53
 refine yf [] ?_
 have hS55 := hS53.unres
 obtain rfl := si hm
 refine ⟨_, _, _, ResL.nil, (hS55.takeN 2), ?_⟩
 exact ⟨v3, v5, v45, c46, rfl, rfl, q2, q4, q49⟩

def r51_0 : List COp := [u 10 (.assign (ci 0))]
def r51_1 : List COp := [u 11 (mv 0), u 12 (mv 1), u 13 (mv 3), u 14 (mv 4), u 15 (cf 64 #[(t 11), (t 12), (t 13), (t 14)] #[55, 3, 3, 3])]
def r51_2 : List COp := [u 16 (mv 0), u 17 (mv 2), u 18 (mv 3), u 19 (mv 4), u 20 (cf 47 #[(t 16), (t 17), (ci 11), (t 18), (t 19)] #[55, 3, 3, 3, 3]), u 10 (sg 20)]
def flow_reader_wrong (F : Nat) (a0 : flow_reader) (a1 : Int) (a2 : Int) (a3 : Int) (a4 : Int) : Option (Int × flow_reader) :=
 (flow_reader_tell F a0 a1 a3 a4).bind fun r17 =>
 (flow_reader_add F r17 a2 11 a3 a4).bind fun r35 =>
 some (r35.1, r35.2)
theorem flow_reader_wrong_ok (F : Nat) {h : AH} {Z : Zn} {a0 : flow_reader} {a1 : Int} {a2 : Int} {a3 : Int} {a4 : Int} {b1 : Nat} {v3 : Value} {v5 : Value} {v7 : Value} {c8 : List Value} (hP : Pre Z h [.blk b1 (K58 v3 v5 v7 a0), .gs v7 c8 (csz api_Diag)]) (q2 : RS (α := api_Token) Z v3 a0.l_) (q4 : RS (α := api_Node) Z v5 a0.t_.Nodes) (q6 : RCs (α := api_Diag) Z c8 a0.d_) {r : Int × flow_reader} (hm : flow_reader_wrong F a0 a1 a2 a3 a4 = some r) :
  ∃ v h' Z' A', callI Try.prog 51 [Pt b1 0, V a1, V a2, V a3, V a4] h = some (v, h') ∧ St h (idsL [.blk b1 (K58 v3 v5 v7 a0), .gs v7 c8 (csz api_Diag)]) Z (0, 0) Z' h' A' ∧ ∃ v10 : Value, ∃ v12 : Value, ∃ c13 : List Value, ∃ v15 : Value, ∃ c16 : List Value, V r.1 = v ∧ A' = [.blk b1 (K58 v10 v12 v15 r.2), .gs v12 c13 (csz api_Node), .gs v15 c16 (csz api_Diag)] ∧ RS (α := api_Token) Z' v10 r.2.l_ ∧ RCs (α := api_Node) Z' c13 r.2.t_.Nodes ∧ RCs (α := api_Diag) Z' c16 r.2.d_ := by
 refine fn_intro (A := [.blk b1 (K58 v3 v5 v7 a0), .gs v7 c8 (csz api_Diag)]) (Q := fun v Z' A' => ∃ v10 : Value, ∃ v12 : Value, ∃ c13 : List Value, ∃ v15 : Value, ∃ c16 : List Value, V r.1 = v ∧ A' = [.blk b1 (K58 v10 v12 v15 r.2), .gs v12 c13 (csz api_Node), .gs v15 c16 (csz api_Diag)] ∧ RS (α := api_Token) Z' v10 r.2.l_ ∧ RCs (α := api_Node) Z' c13 r.2.t_.Nodes ∧ RCs (α := api_Diag) Z' c16 r.2.d_) Try.func51 rfl rfl (by kernel_rfl) hP ?_
 intro hs hS
 unfold flow_reader_wrong at hm
 refine sr r51_0 ?_
 refine xe 1 [(0, Pt b1 0), (1, V a1), (2, V a2), (3, V a3), (4, V a4)] ?_
 refine sr r51_1 ?_
 refine xq 4 [(14, V a4), (13, V a3), (12, V a1), (11, Pt b1 0), (0, Pt b1 0), (2, V a2), (3, V a3), (4, V a4)] ?_
 obtain ⟨r17, hx18, hm⟩ := obind hm
 have hF24 : St _ _ _ _ _ _ ([.blk b1 (K58 v3 v5 v7 a0), .gs v7 c8 (csz api_Diag)] ++ []) := ((hS.front 1 rfl).front 1 rfl)
 obtain ⟨v19, h20, Z25, A27, hcl21, hSc22, v29, v31, v33, c34, rfl, rfl, q28, q30, q32⟩ := flow_reader_tell_ok F hF24.preL q2 q4 q6 hx18
 have hZ26 := hSc22.zle
 have hS23 := hF24.call hSc22
 replace hS23 : St _ _ _ _ _ _ [.blk b1 (K58 v29 v31 v33 r17), .gs v33 c34 (csz api_Diag)] := hS23
 refine r_step rfl trivial (o_call hcl21 rfl rfl rfl) ?_
 refine xf [(0, Pt b1 0), (2, V a2), (3, V a3), (4, V a4)] ?_
 refine sr r51_2 ?_
 refine xq 4 [(19, V a4), (18, V a3), (17, V a2), (16, Pt b1 0)] ?_
 obtain ⟨r35, hx36, hm⟩ := obind hm
 have hF42 : St _ _ _ _ _ _ ([.blk b1 (K58 v29 v31 v33 r17), .gs v33 c34 (csz api_Diag)] ++ []) := ((hS23.front 1 rfl).front 1 rfl)
 obtain ⟨v37, h38, Z43, A45, hcl39, hSc40, v47, v49, c50, c52, rfl, rfl, q46, q48, q51⟩ := flow_reader_add_ok F hF42.preL q28 q30 q32 hx36
 have hZ44 := hSc40.zle
 have hS41 := hF42.call hSc40
 replace hS41 : St _ _ _ _ _ _ [.blk b1 (K58 v47 v49 v33 r35.2), .gs v49 c50 (csz api_Node), .gs v33 c52 (csz api_Diag)] := hS41
 refine r_step rfl trivial (o_call hcl39 rfl rfl rfl) ?_
 refine xe 1 [(10, V r35.1)] ?_
 refine rt ?_
 refine ⟨rfl, ?_⟩
 obtain rfl := si hm
 refine ⟨_, _, _, ResL.tmp rfl (ResL.nil), hS41, ?_⟩
 exact ⟨v47, v49, c50, v33, c52, rfl, rfl, q46, q48, q51⟩

def r65_0 : List COp := [u 4 (.assign (ci 0))]
def r65_1 : List COp := [u 6 (mv 0), u 7 (mv 1), u 8 (cf 46 #[(t 6), (t 7)] #[55, 3]), u 5 (sg 8)]
def r65_2 : List COp := [u 9 (mv 5), u 10 (bc .neq 3 9 0 3), u 11 (mv 10), gt 11 12 (mv 5), gt 11 13 (cf 60 #[(t 12)] #[3]), gt 11 14 (.unOp .not 4 (t 13)), u 15 (pf 11 14)]
def r65_3 : List COp := [u 16 (mv 0), u 17 (mv 1), u 18 (cf 46 #[(t 16), (t 17)] #[55, 3]), u 5 (sg 18)]
def r65_4 : List COp := [u 19 (mv 1), u 20 (bc .add 3 19 1 3), u 1 (sg 20)]
def r65_5 : List COp := [u 21 (mv 1), u 4 (sg 21)]
def flow_reader_past_l0 (F : Nat) (a0 : flow_reader) (a1 : Int) : Nat → Int → Int → Option Int
 | 0, _, _ => none
 | n + 1, x108, x109 =>
  if x109 = (0 : Int) then
   some x108
  else
   (flow_counts F x109).bind fun r132 =>
   if r132 = true then
    some x108
   else
    (flow_reader_kind F a0 (w64 (x108 + 1))).bind fun r140 =>
    flow_reader_past_l0 F a0 a1 n (w64 (x108 + 1)) r140
def flow_reader_past (F : Nat) (a0 : flow_reader) (a1 : Int) : Option Int :=
 (flow_reader_kind F a0 a1).bind fun r9 =>
 ((flow_reader_past_l0 F a0 a1 F a1 r9) : Option Int).bind fun o => match o with
  | x153 => some x153
theorem flow_reader_past_ok (F : Nat) {h : AH} {Z : Zn} {a0 : flow_reader} {a1 : Int} {b1 : Nat} {v3 : Value} {v5 : Value} {v7 : Value} {c8 : List Value} (hP : Pre Z h [.blk b1 (K58 v3 v5 v7 a0), .gs v7 c8 (csz api_Diag)]) (q2 : RS (α := api_Token) Z v3 a0.l_) (q4 : RS (α := api_Node) Z v5 a0.t_.Nodes) (q6 : RCs (α := api_Diag) Z c8 a0.d_) {r : Int} (hm : flow_reader_past F a0 a1 = some r) :
  ∃ v h' Z' A', callI Try.prog 65 [Pt b1 0, V a1] h = some (v, h') ∧ St h (idsL [.blk b1 (K58 v3 v5 v7 a0), .gs v7 c8 (csz api_Diag)]) Z (0, 0) Z' h' A' ∧ V r = v ∧ A' = [.blk b1 (K58 v3 v5 v7 a0), .gs v7 c8 (csz api_Diag)] := by
 refine fn_intro (A := [.blk b1 (K58 v3 v5 v7 a0), .gs v7 c8 (csz api_Diag)]) (Q := fun v Z' A' => V r = v ∧ A' = [.blk b1 (K58 v3 v5 v7 a0), .gs v7 c8 (csz api_Diag)]) Try.func65 rfl rfl (by kernel_rfl) hP ?_
 intro hs hS
 unfold flow_reader_past at hm
 refine sr r65_0 ?_
 refine xe 1 [(0, Pt b1 0), (1, V a1)] ?_
 refine sq ?_
 refine sr r65_1 ?_
 refine xq 2 [(7, V a1), (6, Pt b1 0), (0, Pt b1 0), (1, V a1)] ?_
 obtain ⟨r9, hx10, hm⟩ := obind hm
 have hF16 : St _ _ _ _ _ _ ([.blk b1 (K58 v3 v5 v7 a0), .gs v7 c8 (csz api_Diag)] ++ []) := ((hS.front 1 rfl).front 1 rfl)
 obtain ⟨v11, h12, Z17, A19, hcl13, hSc14, rfl, rfl⟩ := flow_reader_kind_ok F hF16.preL q2 q4 q6 hx10
 have hZ18 := hSc14.zle
 have hS15 := hF16.call hSc14
 replace hS15 : St _ _ _ _ _ _ [.blk b1 (K58 v3 v5 v7 a0), .gs v7 c8 (csz api_Diag)] := hS15
 refine r_step rfl trivial (o_call hcl13 rfl rfl rfl) ?_
 refine xe 1 [(5, V r9), (0, Pt b1 0), (1, V a1)] ?_
 obtain ⟨o106, ho105, hm⟩ := obind hm
 refine W_join [1] (fun l h => ∃ Z152 : Zn, ∃ x153 : Int, x153 = o106 ∧ l = [(1, V x153)] ∧ St hs (idsL [.blk b1 (K58 v3 v5 v7 a0), .gs v7 c8 (csz api_Diag)]) Z (0, 0) Z152 h [.blk b1 (K58 v3 v5 v7 a0), .gs v7 c8 (csz api_Diag)]) ?_ ?_
 rintro l h154 ⟨Z152, x153, rfl, rfl, hS155⟩
 try dsimp only at hm
 refine sr r65_5 ?_
 refine xe 2 [(4, V x153)] ?_
 refine rt ?_
 refine ⟨rfl, ?_⟩
 obtain rfl := si hm
 refine ⟨_, _, _, ResL.tmp rfl (ResL.nil), hS155, ?_⟩
 exact ⟨rfl, rfl⟩
 refine bk 0 ?_
 refine lp [0, 1, 5] (fun n l h => ∃ Z107 : Zn, ∃ x108 : Int, ∃ x109 : Int, flow_reader_past_l0 F a0 a1 n x108 x109 = some o106 ∧ l = [(0, Pt b1 0), (1, V x108), (5, V x109)] ∧ St hs (idsL [.blk b1 (K58 v3 v5 v7 a0), .gs v7 c8 (csz api_Diag)]) Z (0, 0) Z107 h [.blk b1 (K58 v3 v5 v7 a0), .gs v7 c8 (csz api_Diag)]) F ⟨_, a1, r9, ho105, rfl, hS15⟩ ?_
 rintro n112 l h110 ⟨Z107, x108, x109, ho105, rfl, hS111⟩
 rcases n112 with _ | n112
 cases (show none = some o106 from ho105)
 rw [flow_reader_past_l0] at ho105
 refine sq ?_
 refine sr r65_2 ?_
 refine xq 1 [(9, V x109), (0, Pt b1 0), (1, V x108), (5, V x109)] ?_
 rcases ifs ho105 with ⟨hp131, ho105⟩ | ⟨hp131, ho105⟩
 refine r_step rfl trivial (o_cmp rfl rfl (c_neq_F hp131)) ?_
 refine xe 5 [(15, .bool false), (0, Pt b1 0), (1, V x108)] ?_
 refine cF 15 rfl ?_
 refine xt 0 ?_
 refine blkX_hit ?_
 obtain rfl := si ho105
 exact ⟨_, x108, rfl, rfl, hS111⟩
 refine r_step rfl trivial (o_cmp rfl rfl (c_neq_T hp131)) ?_
 refine xq 2 [(12, V x109), (11, .bool true), (0, Pt b1 0), (1, V x108)] ?_
 obtain ⟨r132, hx133, ho105⟩ := obind ho105
 obtain ⟨v134, h135, hcl136, hSc137, rfl⟩ := flow_counts_ok F hS111.inv  hx133
 have hS138 := St.call (A := []) (B := [.blk b1 (K58 v3 v5 v7 a0), .gs v7 c8 (csz api_Diag)]) hS111 hSc137
 replace hS138 : St _ _ _ _ _ _ [.blk b1 (K58 v3 v5 v7 a0), .gs v7 c8 (csz api_Diag)] := hS138
 refine r_step rfl rfl (o_call hcl136 rfl rfl rfl) ?_
 rcases ifs ho105 with ⟨hp139, ho105⟩ | ⟨hp139, ho105⟩
 refine r_setb (t := 13) rfl hp139 ?_
 refine xe 2 [(15, .bool false), (0, Pt b1 0), (1, V x108)] ?_
 refine cF 15 rfl ?_
 refine xt 0 ?_
 refine blkX_hit ?_
 obtain rfl := si ho105
 exact ⟨_, x108, rfl, rfl, hS138⟩
 refine r_setb (t := 13) rfl (Bool.eq_false_iff.2 hp139) ?_
 refine xe 2 [(15, .bool true), (0, Pt b1 0), (1, V x108)] ?_
 refine kT 15 rfl ?_
 refine sq ?_
 refine bk 1 ?_
 refine rg r65_4 ?_
 refine xe 3 [(1, V (w64 (x108 + 1))), (0, Pt b1 0)] ?_
 refine rg r65_3 ?_
 refine xq 2 [(17, V (w64 (x108 + 1))), (16, Pt b1 0), (1, V (w64 (x108 + 1))), (0, Pt b1 0)] ?_
 obtain ⟨r140, hx141, ho105⟩ := obind ho105
 have hF147 : St _ _ _ _ _ _ ([.blk b1 (K58 v3 v5 v7 a0), .gs v7 c8 (csz api_Diag)] ++ []) := ((hS138.front 1 rfl).front 1 rfl)
 obtain ⟨v142, h143, Z148, A150, hcl144, hSc145, rfl, rfl⟩ := flow_reader_kind_ok F hF147.preL (q2.mono hS111.zle) (q4.mono hS111.zle) (q6.mono hS111.zle) hx141
 have hZ149 := hSc145.zle
 have hS146 := hF147.call hSc145
 replace hS146 : St _ _ _ _ _ _ [.blk b1 (K58 v3 v5 v7 a0), .gs v7 c8 (csz api_Diag)] := hS146
 refine r_step rfl trivial (o_call hcl144 rfl rfl rfl) ?_
 refine xe 1 [(5, V r140), (1, V (w64 (x108 + 1))), (0, Pt b1 0)] ?_
 exact ⟨n112, Nat.lt_succ_self _, ⟨_, w64 (x108 + 1), r140, ho105, rfl, hS146⟩⟩

def r71_0 : List COp := [u 2 (.assign (.const (.bool false)))]
def r71_1 : List COp := [u 3 (mv 0)]
def r71_2 : List COp := [u 5 (bc .eql 3 3 15 3), u 4 (sg 5)]
def r71_3 : List COp := [u 6 (bc .eql 3 3 16 3), u 4 (sg 6)]
def r71_4 : List COp := [u 7 (bc .eql 3 3 17 3), u 4 (sg 7)]
def r71_5 : List COp := [u 8 (bc .eql 3 3 13 3), u 4 (sg 8)]
def r71_6 : List COp := [u 2 (.assign (.const (.bool true)))]
def r71_7 : List COp := [u 2 (.assign (.const (.bool false)))]
def flow_name (F : Nat) (a0 : Int) : Option Bool :=
 ((if a0 = (15 : Int) then
   some true
  else
   if a0 = (16 : Int) then
    some true
   else
    if a0 = (17 : Int) then
     some true
    else
     if a0 = (13 : Int) then
      some true
     else
      some false) : Option Bool).bind fun o => match o with
  | x21 => if x21 = true then
   some true
  else
   some false
theorem flow_name_ok (F : Nat) {h : AH} {Z : Zn} {a0 : Int} (hI : Inv Z h) {r : Bool} (hm : flow_name F a0 = some r) :
  ∃ v h', callI Try.prog 71 [V a0] h = some (v, h') ∧ St h [] Z (0, 0) Z h' [] ∧ v = .bool r := by
 refine fn_plain (Q := fun v => v = .bool r) Try.func71 rfl rfl hI ?_
 intro hs hS
 unfold flow_name at hm
 refine sr r71_0 ?_
 refine xe 1 [(0, V a0)] ?_
 refine sq ?_
 refine sr r71_1 ?_
 refine xe 1 [(3, V a0)] ?_
 refine bk 0 ?_
 refine sq ?_
 obtain ⟨o15, ho14, hm⟩ := obind hm
 refine W_join [4] (fun l h => ∃ Z20 : Zn, ∃ x21 : Bool, x21 = o15 ∧ l = [(4, .bool x21)] ∧ St hs [] Z (0, 0) Z20 h []) ?_ ?_
 rintro l h22 ⟨Z20, x21, rfl, rfl, hS23⟩
 try dsimp only at hm
 rcases ifs hm with ⟨hp25, hm⟩ | ⟨hp25, hm⟩
 refine W_condT (x := .tmp 4) (by kernel_rfl) rfl hp25 ?_
 refine sr r71_6 ?_
 refine xe 1 [(2, .bool true)] ?_
 refine rt ?_
 refine blkX_ret ?_
 refine ⟨rfl, ?_⟩
 obtain rfl := si hm
 refine ⟨_, _, _, ResL.tmp rfl (ResL.nil), hS23, ?_⟩
 exact rfl
 refine W_condF (x := .tmp 4) (by kernel_rfl) rfl (Bool.eq_false_iff.2 hp25) ?_
 refine sk ?_
 refine sr r71_7 ?_
 refine xe 1 [(2, .bool false)] ?_
 refine rt ?_
 refine ⟨rfl, ?_⟩
 obtain rfl := si hm
 refine ⟨_, _, _, ResL.tmp rfl (ResL.nil), hS23, ?_⟩
 exact rfl
 refine sr r71_2 ?_
 rcases ifs ho14 with ⟨hp16, ho14⟩ | ⟨hp16, ho14⟩
 refine r_step rfl trivial (o_cmp rfl rfl (c_eql_T hp16)) ?_
 refine xe 1 [(4, .bool true), (3, V a0)] ?_
 refine kT 4 rfl ?_
 obtain rfl := si ho14
 exact ⟨_, true, rfl, rfl, hS⟩
 refine r_step rfl trivial (o_cmp rfl rfl (c_eql_F hp16)) ?_
 refine xe 1 [(4, .bool false), (3, V a0)] ?_
 refine cF 4 rfl ?_
 refine sr r71_3 ?_
 rcases ifs ho14 with ⟨hp17, ho14⟩ | ⟨hp17, ho14⟩
 refine r_step rfl trivial (o_cmp rfl rfl (c_eql_T hp17)) ?_
 refine xe 1 [(4, .bool true), (3, V a0)] ?_
 refine kT 4 rfl ?_
 obtain rfl := si ho14
 exact ⟨_, true, rfl, rfl, hS⟩
 refine r_step rfl trivial (o_cmp rfl rfl (c_eql_F hp17)) ?_
 refine xe 1 [(4, .bool false), (3, V a0)] ?_
 refine cF 4 rfl ?_
 refine sr r71_4 ?_
 rcases ifs ho14 with ⟨hp18, ho14⟩ | ⟨hp18, ho14⟩
 refine r_step rfl trivial (o_cmp rfl rfl (c_eql_T hp18)) ?_
 refine xe 1 [(4, .bool true), (3, V a0)] ?_
 refine kT 4 rfl ?_
 obtain rfl := si ho14
 exact ⟨_, true, rfl, rfl, hS⟩
 refine r_step rfl trivial (o_cmp rfl rfl (c_eql_F hp18)) ?_
 refine xe 1 [(4, .bool false), (3, V a0)] ?_
 refine cF 4 rfl ?_
 refine rg r71_5 ?_
 rcases ifs ho14 with ⟨hp19, ho14⟩ | ⟨hp19, ho14⟩
 refine r_step rfl trivial (o_cmp rfl rfl (c_eql_T hp19)) ?_
 refine xe 1 [(4, .bool true)] ?_
 obtain rfl := si ho14
 exact ⟨_, true, rfl, rfl, hS⟩
 refine r_step rfl trivial (o_cmp rfl rfl (c_eql_F hp19)) ?_
 refine xe 1 [(4, .bool false)] ?_
 obtain rfl := si ho14
 exact ⟨_, false, rfl, rfl, hS⟩

def r66_0 : List COp := [u 4 (.assign (ci 0))]
def r66_1 : List COp := [u 6 (mv 1), u 5 (sg 6)]
def r66_2 : List COp := [u 7 (mv 0), u 8 (mv 5), u 9 (cf 46 #[(t 7), (t 8)] #[55, 3]), u 10 (cf 45 #[(t 9)] #[3])]
def r66_3 : List COp := [u 11 (mv 0), u 12 (mv 5), u 13 (bc .add 3 12 1 3), u 14 (cf 65 #[(t 11), (t 13)] #[55, 3]), u 5 (sg 14)]
def r66_4 : List COp := [u 15 (mv 0), u 16 (mv 5), u 17 (cf 46 #[(t 15), (t 16)] #[55, 3]), u 18 (cf 71 #[(t 17)] #[3])]
def r66_5 : List COp := [u 19 (mv 0), u 20 (mv 5), u 21 (bc .add 3 20 1 3), u 22 (cf 65 #[(t 19), (t 21)] #[55, 3]), u 5 (sg 22)]
def r66_6 : List COp := [u 23 (mv 0), u 24 (mv 5), u 25 (cf 46 #[(t 23), (t 24)] #[55, 3]), u 26 (bc .eql 3 25 6 3)]
def r66_7 : List COp := [u 27 (mv 5), u 4 (sg 27)]
def r66_8 : List COp := [u 4 (.assign (ci (-1)))]
def flow_reader_key_l0 (F : Nat) (a0 : flow_reader) (a1 : Int) : Nat → Int → Option Int
 | 0, _ => none
 | n + 1, x119 =>
  (flow_reader_kind F a0 x119).bind fun r142 =>
  (flow_property F r142).bind fun r153 =>
  if r153 = true then
   (flow_reader_past F a0 (w64 (x119 + 1))).bind fun r162 =>
   flow_reader_key_l0 F a0 a1 n r162
  else
   some x119
def flow_reader_key (F : Nat) (a0 : flow_reader) (a1 : Int) : Option Int :=
 ((flow_reader_key_l0 F a0 a1 F a1) : Option Int).bind fun o => match o with
  | x175 => (((flow_reader_kind F a0 x175).bind fun r210 =>
   (flow_name F r210).bind fun r221 =>
   if r221 = true then
    (flow_reader_past F a0 (w64 (x175 + 1))).bind fun r229 =>
    some r229
   else
    some x175) : Option Int).bind fun o => match o with
   | x241 => (flow_reader_kind F a0 x241).bind fun r256 =>
   if r256 = (6 : Int) then
    some x241
   else
    some (-1)
theorem flow_reader_key_ok (F : Nat) {h : AH} {Z : Zn} {a0 : flow_reader} {a1 : Int} {b1 : Nat} {v3 : Value} {v5 : Value} {v7 : Value} {c8 : List Value} (hP : Pre Z h [.blk b1 (K58 v3 v5 v7 a0), .gs v7 c8 (csz api_Diag)]) (q2 : RS (α := api_Token) Z v3 a0.l_) (q4 : RS (α := api_Node) Z v5 a0.t_.Nodes) (q6 : RCs (α := api_Diag) Z c8 a0.d_) {r : Int} (hm : flow_reader_key F a0 a1 = some r) :
  ∃ v h' Z' A', callI Try.prog 66 [Pt b1 0, V a1] h = some (v, h') ∧ St h (idsL [.blk b1 (K58 v3 v5 v7 a0), .gs v7 c8 (csz api_Diag)]) Z (0, 0) Z' h' A' ∧ V r = v ∧ A' = [.blk b1 (K58 v3 v5 v7 a0), .gs v7 c8 (csz api_Diag)] := by
 refine fn_intro (A := [.blk b1 (K58 v3 v5 v7 a0), .gs v7 c8 (csz api_Diag)]) (Q := fun v Z' A' => V r = v ∧ A' = [.blk b1 (K58 v3 v5 v7 a0), .gs v7 c8 (csz api_Diag)]) Try.func66 rfl rfl (by kernel_rfl) hP ?_
 intro hs hS
 unfold flow_reader_key at hm
 refine sr r66_0 ?_
 refine xe 1 [(0, Pt b1 0), (1, V a1)] ?_
 refine sr r66_1 ?_
 refine xe 2 [(5, V a1), (0, Pt b1 0)] ?_
 refine sq ?_
 obtain ⟨o117, ho116, hm⟩ := obind hm
 refine W_join [0, 5] (fun l h => ∃ Z174 : Zn, ∃ x175 : Int, x175 = o117 ∧ l = [(0, Pt b1 0), (5, V x175)] ∧ St hs (idsL [.blk b1 (K58 v3 v5 v7 a0), .gs v7 c8 (csz api_Diag)]) Z (0, 0) Z174 h [.blk b1 (K58 v3 v5 v7 a0), .gs v7 c8 (csz api_Diag)]) ?_ ?_
 rintro l h176 ⟨Z174, x175, rfl, rfl, hS177⟩
 try dsimp only at hm
 refine sq ?_
 obtain ⟨o209, ho208, hm⟩ := obind hm
 refine W_join [0, 5] (fun l h => ∃ Z240 : Zn, ∃ x241 : Int, x241 = o209 ∧ l = [(0, Pt b1 0), (5, V x241)] ∧ St hs (idsL [.blk b1 (K58 v3 v5 v7 a0), .gs v7 c8 (csz api_Diag)]) Z (0, 0) Z240 h [.blk b1 (K58 v3 v5 v7 a0), .gs v7 c8 (csz api_Diag)]) ?_ ?_
 rintro l h242 ⟨Z240, x241, rfl, rfl, hS243⟩
 try dsimp only at hm
 refine sq ?_
 refine sr r66_6 ?_
 refine xq 2 [(24, V x241), (23, Pt b1 0), (5, V x241)] ?_
 obtain ⟨r256, hx257, hm⟩ := obind hm
 have hF263 : St _ _ _ _ _ _ ([.blk b1 (K58 v3 v5 v7 a0), .gs v7 c8 (csz api_Diag)] ++ []) := ((hS243.front 1 rfl).front 1 rfl)
 obtain ⟨v258, h259, Z264, A266, hcl260, hSc261, rfl, rfl⟩ := flow_reader_kind_ok F hF263.preL (q2.mono hS243.zle) (q4.mono hS243.zle) (q6.mono hS243.zle) hx257
 have hZ265 := hSc261.zle
 have hS262 := hF263.call hSc261
 replace hS262 : St _ _ _ _ _ _ [.blk b1 (K58 v3 v5 v7 a0), .gs v7 c8 (csz api_Diag)] := hS262
 refine r_step rfl trivial (o_call hcl260 rfl rfl rfl) ?_
 rcases ifs hm with ⟨hp267, hm⟩ | ⟨hp267, hm⟩
 refine r_step rfl trivial (o_cmp rfl rfl (c_eql_T hp267)) ?_
 refine xf [(26, .bool true), (5, V x241)] ?_
 refine cT 26 rfl ?_
 refine sr r66_7 ?_
 refine xe 2 [(4, V x241)] ?_
 refine rt ?_
 refine ⟨rfl, ?_⟩
 obtain rfl := si hm
 refine ⟨_, _, _, ResL.tmp rfl (ResL.nil), hS262, ?_⟩
 exact ⟨rfl, rfl⟩
 refine r_step rfl trivial (o_cmp rfl rfl (c_eql_F hp267)) ?_
 refine xf [(26, .bool false), (5, V x241)] ?_
 refine kF 26 rfl ?_
 refine sr r66_8 ?_
 refine xe 1 [(4, V (-1))] ?_
 refine rt ?_
 refine ⟨rfl, ?_⟩
 obtain rfl := si hm
 refine ⟨_, _, _, ResL.tmp rfl (ResL.nil), hS262, ?_⟩
 exact ⟨rfl, rfl⟩
 refine sr r66_4 ?_
 refine xq 2 [(16, V x175), (15, Pt b1 0), (0, Pt b1 0), (5, V x175)] ?_
 obtain ⟨r210, hx211, ho208⟩ := obind ho208
 have hF217 : St _ _ _ _ _ _ ([.blk b1 (K58 v3 v5 v7 a0), .gs v7 c8 (csz api_Diag)] ++ []) := ((hS177.front 1 rfl).front 1 rfl)
 obtain ⟨v212, h213, Z218, A220, hcl214, hSc215, rfl, rfl⟩ := flow_reader_kind_ok F hF217.preL (q2.mono hS177.zle) (q4.mono hS177.zle) (q6.mono hS177.zle) hx211
 have hZ219 := hSc215.zle
 have hS216 := hF217.call hSc215
 replace hS216 : St _ _ _ _ _ _ [.blk b1 (K58 v3 v5 v7 a0), .gs v7 c8 (csz api_Diag)] := hS216
 refine r_step rfl trivial (o_call hcl214 rfl rfl rfl) ?_
 obtain ⟨r221, hx222, ho208⟩ := obind ho208
 obtain ⟨v223, h224, hcl225, hSc226, rfl⟩ := flow_name_ok F hS216.inv  hx222
 have hS227 := St.call (A := []) (B := [.blk b1 (K58 v3 v5 v7 a0), .gs v7 c8 (csz api_Diag)]) hS216 hSc226
 replace hS227 : St _ _ _ _ _ _ [.blk b1 (K58 v3 v5 v7 a0), .gs v7 c8 (csz api_Diag)] := hS227
 refine r_step rfl trivial (o_call hcl225 rfl rfl rfl) ?_
 refine xf [(18, .bool r221), (0, Pt b1 0), (5, V x175)] ?_
 rcases ifs ho208 with ⟨hp228, ho208⟩ | ⟨hp228, ho208⟩
 refine W_condT (x := .tmp 18) (by kernel_rfl) rfl hp228 ?_
 refine rg r66_5 ?_
 refine xq 3 [(21, V (w64 (x175 + 1))), (19, Pt b1 0), (0, Pt b1 0), (5, V x175)] ?_
 obtain ⟨r229, hx230, ho208⟩ := obind ho208
 have hF236 : St _ _ _ _ _ _ ([.blk b1 (K58 v3 v5 v7 a0), .gs v7 c8 (csz api_Diag)] ++ []) := ((hS227.front 1 rfl).front 1 rfl)
 obtain ⟨v231, h232, Z237, A239, hcl233, hSc234, rfl, rfl⟩ := flow_reader_past_ok F hF236.preL (q2.mono (hS177.zle.trans hZ219)) (q4.mono (hS177.zle.trans hZ219)) (q6.mono (hS177.zle.trans hZ219)) hx230
 have hZ238 := hSc234.zle
 have hS235 := hF236.call hSc234
 replace hS235 : St _ _ _ _ _ _ [.blk b1 (K58 v3 v5 v7 a0), .gs v7 c8 (csz api_Diag)] := hS235
 refine r_step rfl trivial (o_call hcl233 rfl rfl rfl) ?_
 refine xe 1 [(5, V r229), (0, Pt b1 0)] ?_
 obtain rfl := si ho208
 exact ⟨_, r229, rfl, rfl, hS235⟩
 refine W_condF (x := .tmp 18) (by kernel_rfl) rfl (Bool.eq_false_iff.2 hp228) ?_
 refine sk ?_
 obtain rfl := si ho208
 exact ⟨_, x175, rfl, rfl, hS227⟩
 refine bk 0 ?_
 refine lp [0, 5] (fun n l h => ∃ Z118 : Zn, ∃ x119 : Int, flow_reader_key_l0 F a0 a1 n x119 = some o117 ∧ l = [(0, Pt b1 0), (5, V x119)] ∧ St hs (idsL [.blk b1 (K58 v3 v5 v7 a0), .gs v7 c8 (csz api_Diag)]) Z (0, 0) Z118 h [.blk b1 (K58 v3 v5 v7 a0), .gs v7 c8 (csz api_Diag)]) F ⟨_, a1, ho116, rfl, hS⟩ ?_
 rintro n122 l h120 ⟨Z118, x119, ho116, rfl, hS121⟩
 rcases n122 with _ | n122
 cases (show none = some o117 from ho116)
 rw [flow_reader_key_l0] at ho116
 refine sq ?_
 refine sr r66_2 ?_
 refine xq 2 [(8, V x119), (7, Pt b1 0), (0, Pt b1 0), (5, V x119)] ?_
 obtain ⟨r142, hx143, ho116⟩ := obind ho116
 have hF149 : St _ _ _ _ _ _ ([.blk b1 (K58 v3 v5 v7 a0), .gs v7 c8 (csz api_Diag)] ++ []) := ((hS121.front 1 rfl).front 1 rfl)
 obtain ⟨v144, h145, Z150, A152, hcl146, hSc147, rfl, rfl⟩ := flow_reader_kind_ok F hF149.preL (q2.mono hS121.zle) (q4.mono hS121.zle) (q6.mono hS121.zle) hx143
 have hZ151 := hSc147.zle
 have hS148 := hF149.call hSc147
 replace hS148 : St _ _ _ _ _ _ [.blk b1 (K58 v3 v5 v7 a0), .gs v7 c8 (csz api_Diag)] := hS148
 refine r_step rfl trivial (o_call hcl146 rfl rfl rfl) ?_
 obtain ⟨r153, hx154, ho116⟩ := obind ho116
 obtain ⟨v155, h156, hcl157, hSc158, rfl⟩ := flow_property_ok F hS148.inv  hx154
 have hS159 := St.call (A := []) (B := [.blk b1 (K58 v3 v5 v7 a0), .gs v7 c8 (csz api_Diag)]) hS148 hSc158
 replace hS159 : St _ _ _ _ _ _ [.blk b1 (K58 v3 v5 v7 a0), .gs v7 c8 (csz api_Diag)] := hS159
 refine r_step rfl trivial (o_call hcl157 rfl rfl rfl) ?_
 refine xf [(10, .bool r153), (0, Pt b1 0), (5, V x119)] ?_
 rcases ifs ho116 with ⟨hp161, ho116⟩ | ⟨hp161, ho116⟩
 refine W_condT (x := .tmp 10) (by kernel_rfl) rfl hp161 ?_
 refine sk ?_
 refine bk 1 ?_
 refine rg r66_3 ?_
 refine xq 3 [(13, V (w64 (x119 + 1))), (11, Pt b1 0), (0, Pt b1 0), (5, V x119)] ?_
 obtain ⟨r162, hx163, ho116⟩ := obind ho116
 have hF169 : St _ _ _ _ _ _ ([.blk b1 (K58 v3 v5 v7 a0), .gs v7 c8 (csz api_Diag)] ++ []) := ((hS159.front 1 rfl).front 1 rfl)
 obtain ⟨v164, h165, Z170, A172, hcl166, hSc167, rfl, rfl⟩ := flow_reader_past_ok F hF169.preL (q2.mono (hS121.zle.trans hZ151)) (q4.mono (hS121.zle.trans hZ151)) (q6.mono (hS121.zle.trans hZ151)) hx163
 have hZ171 := hSc167.zle
 have hS168 := hF169.call hSc167
 replace hS168 : St _ _ _ _ _ _ [.blk b1 (K58 v3 v5 v7 a0), .gs v7 c8 (csz api_Diag)] := hS168
 refine r_step rfl trivial (o_call hcl166 rfl rfl rfl) ?_
 refine xe 1 [(5, V r162), (0, Pt b1 0)] ?_
 exact ⟨n122, Nat.lt_succ_self _, ⟨_, r162, ho116, rfl, hS168⟩⟩
 refine W_condF (x := .tmp 10) (by kernel_rfl) rfl (Bool.eq_false_iff.2 hp161) ?_
 refine xt 0 ?_
 refine blkX_hit ?_
 obtain rfl := si ho116
 exact ⟨_, x119, rfl, rfl, hS159⟩

def r74_0 : List COp := [u 1 (.box 70 (t 0)), u 2 (.assign (.const (.bool false)))]
def r74_1 : List COp := [u 3 (fa 70 1 0), u 4 (ld 3 3), u 5 (bc .eql 3 4 13 3), u 2 (sg 5)]
def flow_reader_scalar_1 (F : Nat) (a0 : api_Token) : Option Bool :=
 if a0.Kind = (13 : Int) then
  some true
 else
  some false
theorem flow_reader_scalar_1_ok (F : Nat) {h : AH} {Z : Zn} {a0 : api_Token} (hI : Inv Z h) {r : Bool} (hm : flow_reader_scalar_1 F a0 = some r) :
  ∃ v h', callI Try.prog 74 [.agg #[V a0.Kind, V a0.From, V a0.To]] h = some (v, h') ∧ St h [] Z (0, 0) Z h' [] ∧ v = .bool r := by
 refine fn_plain (Q := fun v => v = .bool r) Try.func74 rfl rfl hI ?_
 intro hs hS
 unfold flow_reader_scalar_1 at hm
 refine sr r74_0 ?_
 refine r_blk rfl trivial (o_box (cs := [V a0.Kind, V a0.From, V a0.To]) rfl rfl) hS ?_
 intro b1 h2 hS3
 refine xe 1 [(1, Pt b1 0)] ?_
 refine sr r74_1 ?_
 refine xq 1 [(3, Pt b1 0)] ?_
 refine r_step rfl trivial (o_ldb (v := V a0.Kind) hS3 (i := 0) rfl rfl (by kernel_rfl)) ?_
 rcases ifs hm with ⟨hp4, hm⟩ | ⟨hp4, hm⟩
 refine r_step rfl trivial (o_cmp rfl rfl (c_eql_T hp4)) ?_
 refine xe 1 [(2, .bool true)] ?_
 refine rt ?_
 refine ⟨rfl, ?_⟩
 obtain rfl := si hm
 refine ⟨_, _, _, ResL.tmp rfl (ResL.nil), hS3, ?_⟩
 exact rfl
 refine r_step rfl trivial (o_cmp rfl rfl (c_eql_F hp4)) ?_
 refine xe 1 [(2, .bool false)] ?_
 refine rt ?_
 refine ⟨rfl, ?_⟩
 obtain rfl := si hm
 refine ⟨_, _, _, ResL.tmp rfl (ResL.nil), hS3, ?_⟩
 exact rfl

def r75_0 : List COp := [u 4 (.assign (ci 0))]
def r75_1 : List COp := [u 6 (mv 0), u 7 (cb .len #[(t 6)] #[25]), u 8 (.move (ci 0))]
def r75_2 : List COp := [u 9 (bo .lss 3 8 7 3)]
def r75_3 : List COp := [u 10 (mv 8), u 5 (sg 10)]
def r75_4 : List COp := [u 11 (mv 1), u 12 (mv 0), u 13 (mv 5), u 14 (ia 25 12 13), u 15 (ld 70 14), u 16 (.call { callee := (.value (t 11)), args := #[(t 15)], argTypes := #[70] })]
def r75_5 : List COp := [u 17 (mv 5), u 4 (sg 17)]
def r75_6 : List COp := [u 18 (bc .add 3 8 1 3), u 8 (mv 18)]
def r75_7 : List COp := [u 4 (.assign (ci (-1)))]
def slices_IndexFunc_api_Token_l0 (F : Nat) (a0 : List api_Token) : Nat → Int → Option (Sum Unit Int)
 | 0, _ => none
 | n + 1, x49 =>
  if x49 < (a0.length : Int) then
   if 0 ≤ x49 ∧ x49 < (a0.length : Int) then
    (a0[x49.toNat]?).bind fun x56 =>
    (flow_reader_scalar_1 F x56).bind fun r62 =>
    if r62 = true then
     some (.inr x49)
    else
     slices_IndexFunc_api_Token_l0 F a0 n (w64 (x49 + 1))
   else none
  else
   some (.inl ())
def slices_IndexFunc_api_Token (F : Nat) (a0 : List api_Token) : Option Int :=
 ((slices_IndexFunc_api_Token_l0 F a0 F 0) : Option (Sum Unit Int)).bind fun o => match o with
  | .inl () => some (-1)
  | .inr y => some y
theorem slices_IndexFunc_api_Token_ok (F : Nat) {h : AH} {Z : Zn} {a0 : List api_Token} {v2 : Value} (hI : Inv Z h) (q1 : RS (α := api_Token) Z v2 a0) {r : Int} (hm : slices_IndexFunc_api_Token F a0 = some r) :
  ∃ v h', callI Try.prog 75 [v2, .func (.func 74) #[] #[]] h = some (v, h') ∧ St h [] Z (0, 0) Z h' [] ∧ v = V r := by
 refine fn_plain (Q := fun v => v = V r) Try.func75 rfl rfl hI ?_
 intro hs hS
 unfold slices_IndexFunc_api_Token at hm
 refine sr r75_0 ?_
 refine xe 1 [(0, v2), (1, .func (.func 74) #[] #[])] ?_
 refine sq ?_
 refine sr r75_1 ?_
 refine xq 1 [(6, v2), (0, v2), (1, .func (.func 74) #[] #[])] ?_
 refine r_step rfl trivial (o_len rfl (RS.len q1) ⟨_, Try.underlying25⟩) ?_
 refine xe 1 [(8, V 0), (7, V (a0.length : Int)), (0, v2), (1, .func (.func 74) #[] #[])] ?_
 obtain ⟨o47, ho46, hm⟩ := obind hm
 refine W_join [] (fun l h => ∃ Z71 : Zn, .inl () = o47 ∧ l = [] ∧ St hs [] Z (0, 0) Z71 h []) ?_ ?_
 rintro l h72 ⟨Z71, rfl, rfl, hS73⟩
 try dsimp only at hm
 refine sr r75_7 ?_
 refine xe 1 [(4, V (-1))] ?_
 refine rt ?_
 refine ⟨rfl, ?_⟩
 obtain rfl := si hm
 refine ⟨_, _, _, ResL.tmp rfl (ResL.nil), hS73, ?_⟩
 exact rfl
 refine bk 0 ?_
 refine lp [0, 1, 7, 8] (fun n l h => ∃ Z48 : Zn, ∃ x49 : Int, slices_IndexFunc_api_Token_l0 F a0 n x49 = some o47 ∧ l = [(0, v2), (1, .func (.func 74) #[] #[]), (7, V (a0.length : Int)), (8, V x49)] ∧ St hs [] Z (0, 0) Z48 h []) F ⟨_, 0, ho46, rfl, hS⟩ ?_
 rintro n52 l h50 ⟨Z48, x49, ho46, rfl, hS51⟩
 rcases n52 with _ | n52
 cases (show none = some o47 from ho46)
 rw [slices_IndexFunc_api_Token_l0] at ho46
 refine sr r75_2 ?_
 rcases ifs ho46 with ⟨hp54, ho46⟩ | ⟨hp54, ho46⟩
 refine r_step rfl trivial (o_cmp rfl rfl (c_lss_T hp54)) ?_
 refine xf [(9, .bool true), (0, v2), (1, .func (.func 74) #[] #[]), (7, V (a0.length : Int)), (8, V x49)] ?_
 refine sq ?_
 refine kT 9 rfl ?_
 refine sq ?_
 refine bk 1 ?_
 refine sr r75_3 ?_
 refine xe 2 [(5, V x49), (0, v2), (1, .func (.func 74) #[] #[]), (7, V (a0.length : Int)), (8, V x49)] ?_
 refine sr r75_4 ?_
 refine xq 3 [(13, V x49), (12, v2), (11, .func (.func 74) #[] #[]), (5, V x49), (0, v2), (1, .func (.func 74) #[] #[]), (7, V (a0.length : Int)), (8, V x49)] ?_
 obtain ⟨hc55, ho46⟩ := chk ho46
 refine r_step rfl trivial (o_index rfl rfl (by kernel_rfl : slTy _ _ = some (csz api_Token)) (RS.based (q1.mono hS51.zle) (by omega)) hc55.1 hc55.2) ?_
 obtain ⟨x56, hx57, ho46⟩ := obind ho46
 obtain ⟨cs58, hc59, he60⟩ := RS.elz (q1.mono hS51.zle) (i := x49) hx57
 obtain rfl := rc_api_Token hc59
 refine r_step rfl trivial (o_lde (w := .agg #[V x56.Kind, V x56.From, V x56.To]) (he60 _ (hS51.zin0 (Zle.refl _))) rfl (by kernel_rfl)) ?_
 obtain ⟨r62, hx63, ho46⟩ := obind ho46
 obtain ⟨v64, h65, hcl66, hSc67, rfl⟩ := flow_reader_scalar_1_ok F hS51.inv  hx63
 have hS68 := St.call (A := []) (B := []) hS51 hSc67
 replace hS68 : St _ _ _ _ _ _ [] := hS68
 refine r_step rfl trivial (o_call hcl66 rfl rfl rfl) ?_
 refine xf [(16, .bool r62), (5, V x49), (0, v2), (1, .func (.func 74) #[] #[]), (7, V (a0.length : Int)), (8, V x49)] ?_
 rcases ifs ho46 with ⟨hp70, ho46⟩ | ⟨hp70, ho46⟩
 refine W_condT (x := .tmp 16) (by kernel_rfl) rfl hp70 ?_
 refine sr r75_5 ?_
 refine xe 2 [(4, V x49)] ?_
 refine rt ?_
 refine blkX_ret ?_
 refine blkX_ret ?_
 refine ⟨rfl, ?_⟩
 obtain rfl := si ho46
 obtain rfl := si hm
 refine ⟨_, _, _, ResL.tmp rfl (ResL.nil), hS68, ?_⟩
 exact rfl
 refine W_condF (x := .tmp 16) (by kernel_rfl) rfl (Bool.eq_false_iff.2 hp70) ?_
 refine sk ?_
 refine rg r75_6 ?_
 refine xe 2 [(8, V (w64 (x49 + 1))), (0, v2), (1, .func (.func 74) #[] #[]), (7, V (a0.length : Int))] ?_
 exact ⟨n52, Nat.lt_succ_self _, ⟨_, w64 (x49 + 1), ho46, rfl, hS68⟩⟩
 refine r_step rfl trivial (o_cmp rfl rfl (c_lss_F hp54)) ?_
 refine xf [(9, .bool false), (0, v2), (1, .func (.func 74) #[] #[]), (7, V (a0.length : Int)), (8, V x49)] ?_
 refine sq ?_
 refine cF 9 rfl ?_
 refine xt 0 ?_
 refine blkX_hit ?_
 obtain rfl := si ho46
 exact ⟨_, rfl, rfl, hS51⟩

def r73_0 : List COp := [u 4 (.assign (.const (.bool false)))]
def r73_1 : List COp := [u 5 (mv 0), u 6 (mv 1), u 7 (cf 75 #[(t 5), (t 6)] #[25, 90]), u 8 (bc .geq 3 7 0 3), u 4 (sg 8)]
def slices_ContainsFunc_api_Token (F : Nat) (a0 : List api_Token) : Option Bool :=
 (slices_IndexFunc_api_Token F a0).bind fun r3 =>
 if (0 : Int) ≤ r3 then
  some true
 else
  some false
theorem slices_ContainsFunc_api_Token_ok (F : Nat) {h : AH} {Z : Zn} {a0 : List api_Token} {v2 : Value} (hI : Inv Z h) (q1 : RS (α := api_Token) Z v2 a0) {r : Bool} (hm : slices_ContainsFunc_api_Token F a0 = some r) :
  ∃ v h', callI Try.prog 73 [v2, .func (.func 74) #[] #[]] h = some (v, h') ∧ St h [] Z (0, 0) Z h' [] ∧ v = .bool r := by
 refine fn_plain (Q := fun v => v = .bool r) Try.func73 rfl rfl hI ?_
 intro hs hS
 unfold slices_ContainsFunc_api_Token at hm
 refine sr r73_0 ?_
 refine xe 1 [(0, v2), (1, .func (.func 74) #[] #[])] ?_
 refine sr r73_1 ?_
 refine xq 2 [(6, .func (.func 74) #[] #[]), (5, v2)] ?_
 obtain ⟨r3, hx4, hm⟩ := obind hm
 obtain ⟨v5, h6, hcl7, hSc8, rfl⟩ := slices_IndexFunc_api_Token_ok F hS.inv q1 hx4
 have hS9 := St.call (A := []) (B := []) hS hSc8
 replace hS9 : St _ _ _ _ _ _ [] := hS9
 refine r_step rfl trivial (o_call hcl7 rfl rfl rfl) ?_
 rcases ifs hm with ⟨hp10, hm⟩ | ⟨hp10, hm⟩
 refine r_step rfl trivial (o_cmp rfl rfl (c_geq_T hp10)) ?_
 refine xe 1 [(4, .bool true)] ?_
 refine rt ?_
 refine ⟨rfl, ?_⟩
 obtain rfl := si hm
 refine ⟨_, _, _, ResL.tmp rfl (ResL.nil), hS9, ?_⟩
 exact rfl
 refine r_step rfl trivial (o_cmp rfl rfl (c_geq_F hp10)) ?_
 refine xe 1 [(4, .bool false)] ?_
 refine rt ?_
 refine ⟨rfl, ?_⟩
 obtain rfl := si hm
 refine ⟨_, _, _, ResL.tmp rfl (ResL.nil), hS9, ?_⟩
 exact rfl

def r72_0 : List COp := [u 10 (mv 0), u 11 (mv 2), u 12 (mv 3), u 13 (cf 63 #[(t 10), (t 11), (t 12)] #[55, 3, 3]), u 8 (sg 13)]
def r72_1 : List COp := [u 14 (mv 8), u 15 (mv 2), u 16 (bo .eql 3 14 15 3)]
def r72_2 : List COp := [u 9 (.assign (ci 7))]
def r72_3 : List COp := [u 17 (mv 0), u 18 (nk 17), u 19 (fa 58 18 0), u 20 (ld 25 19), u 21 (mv 2), u 22 (mv 8), u 23 (.slice 25 (t 20) (some (t 21)) (some (t 22)) none), u 24 (cf 73 #[(t 23), (.func 74)] #[25, 90])]
def r72_4 : List COp := [u 9 (.assign (ci 8))]
def r72_5 : List COp := [u 25 (mv 0), u 26 (mv 1), u 27 (mv 9), u 28 (mv 2), u 29 (mv 8), u 30 (cf 47 #[(t 25), (t 26), (t 27), (t 28), (t 29)] #[55, 3, 3, 3, 3])]
def r72_6 : List COp := [u 31 (mv 0), u 32 (nk 31), u 33 (fa 58 32 2), u 34 (fa 29 33 0), u 35 (ld 27 34), u 36 (mv 1), u 37 (ia 27 35 36), u 38 (fa 42 37 5), o (.store 4 (t 38) (.const (.bool true)))]
def flow_reader_scalar (F : Nat) (a0 : flow_reader) (a1 : Int) (a2 : Int) (a3 : Int) : Option flow_reader :=
 (flow_reader_over F a0 a2 a3).bind fun r15 =>
 if r15 = a2 then
  some a0
 else
  ((if 0 ≤ a2 ∧ a2 ≤ r15 ∧ r15 ≤ (a0.l_.length : Int) then
    (slices_ContainsFunc_api_Token F ((a0.l_.take r15.toNat).drop a2.toNat)).bind fun r47 =>
    if r47 = true then
     some 8
    else
     some 7
   else none) : Option Int).bind fun o => match o with
   | x56 => (flow_reader_add F a0 a1 x56 a2 r15).bind fun r59 =>
   if 0 ≤ a1 ∧ a1 < (r59.2.t_.Nodes.length : Int) then
    (r59.2.t_.Nodes[a1.toNat]?).bind fun x78 =>
    some (⟨r59.2.l_, r59.2.end_, (⟨r59.2.t_.Nodes.set a1.toNat (⟨x78.Kind, x78.From, x78.To, x78.Up, x78.Kids, true⟩ : api_Node)⟩ : arena_Tree), r59.2.d_⟩ : flow_reader)
   else none
theorem flow_reader_scalar_ok (F : Nat) {h : AH} {Z : Zn} {a0 : flow_reader} {a1 : Int} {a2 : Int} {a3 : Int} {b1 : Nat} {v3 : Value} {v5 : Value} {v7 : Value} {c8 : List Value} (hP : Pre Z h [.blk b1 (K58 v3 v5 v7 a0), .gs v7 c8 (csz api_Diag)]) (q2 : RS (α := api_Token) Z v3 a0.l_) (q4 : RS (α := api_Node) Z v5 a0.t_.Nodes) (q6 : RCs (α := api_Diag) Z c8 a0.d_) {r : flow_reader} (hm : flow_reader_scalar F a0 a1 a2 a3 = some r) :
  ∃ v h' Z' A', callI Try.prog 72 [Pt b1 0, V a1, V a2, V a3] h = some (v, h') ∧ St h (idsL [.blk b1 (K58 v3 v5 v7 a0), .gs v7 c8 (csz api_Diag)]) Z (0, 0) Z' h' A' ∧ ∃ v10 : Value, ∃ v12 : Value, ∃ c14 : List Value, .tuple #[] = v ∧ A' = [.blk b1 (K58 v10 v12 v7 r), .gs v7 c14 (csz api_Diag)] ∧ RS (α := api_Token) Z' v10 r.l_ ∧ RS (α := api_Node) Z' v12 r.t_.Nodes ∧ RCs (α := api_Diag) Z' c14 r.d_ := by
 refine fn_intro (A := [.blk b1 (K58 v3 v5 v7 a0), .gs v7 c8 (csz api_Diag)]) (Q := fun v Z' A' => ∃ v10 : Value, ∃ v12 : Value, ∃ c14 : List Value, .tuple #[] = v ∧ A' = [.blk b1 (K58 v10 v12 v7 r), .gs v7 c14 (csz api_Diag)] ∧ RS (α := api_Token) Z' v10 r.l_ ∧ RS (α := api_Node) Z' v12 r.t_.Nodes ∧ RCs (α := api_Diag) Z' c14 r.d_) Try.func72 rfl rfl (by kernel_rfl) hP ?_
 intro hs hS
 unfold flow_reader_scalar at hm
 refine sr r72_0 ?_
 refine xq 3 [(12, V a3), (11, V a2), (10, Pt b1 0), (0, Pt b1 0), (1, V a1), (2, V a2)] ?_
 obtain ⟨r15, hx16, hm⟩ := obind hm
 have hF22 : St _ _ _ _ _ _ ([.blk b1 (K58 v3 v5 v7 a0), .gs v7 c8 (csz api_Diag)] ++ []) := ((hS.front 1 rfl).front 1 rfl)
 obtain ⟨v17, h18, Z23, A25, hcl19, hSc20, rfl, rfl⟩ := flow_reader_over_ok F hF22.preL q2 q4 q6 hx16
 have hZ24 := hSc20.zle
 have hS21 := hF22.call hSc20
 replace hS21 : St _ _ _ _ _ _ [.blk b1 (K58 v3 v5 v7 a0), .gs v7 c8 (csz api_Diag)] := hS21
 refine r_step rfl trivial (o_call hcl19 rfl rfl rfl) ?_
 refine xe 1 [(8, V r15), (0, Pt b1 0), (1, V a1), (2, V a2)] ?_
 refine sq ?_
 refine sr r72_1 ?_
 refine xq 2 [(15, V a2), (14, V r15), (8, V r15), (0, Pt b1 0), (1, V a1), (2, V a2)] ?_
 rcases ifs hm with ⟨hp28, hm⟩ | ⟨hp28, hm⟩
 refine r_step rfl trivial (o_cmp rfl rfl (c_eql_T hp28)) ?_
 refine xf [(16, .bool true), (8, V r15), (0, Pt b1 0), (1, V a1), (2, V a2)] ?_
 refine cT 16 rfl ?_
 refine rt ?_
 refine ⟨rfl, ?_⟩
 obtain rfl := si hm
 refine ⟨_, _, _, ResL.nil, hS21, ?_⟩
 exact ⟨v3, v5, c8, rfl, rfl, (q2.mono hZ24), (q4.mono hZ24), (q6.mono hZ24)⟩
 refine r_step rfl trivial (o_cmp rfl rfl (c_eql_F hp28)) ?_
 refine xf [(16, .bool false), (8, V r15), (0, Pt b1 0), (1, V a1), (2, V a2)] ?_
 refine kF 16 rfl ?_
 refine sr r72_2 ?_
 refine xe 1 [(9, V 7), (8, V r15), (0, Pt b1 0), (1, V a1), (2, V a2)] ?_
 refine sq ?_
 obtain ⟨o42, ho41, hm⟩ := obind hm
 refine W_join [0, 1, 2, 8, 9] (fun l h => ∃ Z55 : Zn, ∃ x56 : Int, x56 = o42 ∧ l = [(0, Pt b1 0), (1, V a1), (2, V a2), (8, V r15), (9, V x56)] ∧ St hs (idsL [.blk b1 (K58 v3 v5 v7 a0), .gs v7 c8 (csz api_Diag)]) Z (0, 0) Z55 h [.blk b1 (K58 v3 v5 v7 a0), .gs v7 c8 (csz api_Diag)]) ?_ ?_
 rintro l h57 ⟨Z55, x56, rfl, rfl, hS58⟩
 try dsimp only at hm
 refine sr r72_5 ?_
 refine xq 5 [(29, V r15), (28, V a2), (27, V x56), (26, V a1), (25, Pt b1 0), (0, Pt b1 0), (1, V a1)] ?_
 obtain ⟨r59, hx60, hm⟩ := obind hm
 have hF66 : St _ _ _ _ _ _ ([.blk b1 (K58 v3 v5 v7 a0), .gs v7 c8 (csz api_Diag)] ++ []) := ((hS58.front 1 rfl).front 1 rfl)
 obtain ⟨v61, h62, Z67, A69, hcl63, hSc64, v71, v73, c74, c76, rfl, rfl, q70, q72, q75⟩ := flow_reader_add_ok F hF66.preL (q2.mono hS58.zle) (q4.mono hS58.zle) (q6.mono hS58.zle) hx60
 have hZ68 := hSc64.zle
 have hS65 := hF66.call hSc64
 replace hS65 : St _ _ _ _ _ _ [.blk b1 (K58 v71 v73 v7 r59.2), .gs v73 c74 (csz api_Node), .gs v7 c76 (csz api_Diag)] := hS65
 refine r_step rfl trivial (o_call hcl63 rfl rfl rfl) ?_
 refine xf [(0, Pt b1 0), (1, V a1)] ?_
 refine rg r72_6 ?_
 refine xq 4 [(34, Pt b1 2), (1, V a1)] ?_
 refine r_step rfl trivial (o_ldb (v := v73) hS65 (i := 0) rfl rfl (by kernel_rfl)) ?_
 refine xq 1 [(36, V a1), (35, v73)] ?_
 obtain ⟨hc77, hm⟩ := chk hm
 refine r_step rfl trivial (o_index rfl rfl (by kernel_rfl : slTy _ _ = some (csz api_Node)) (hS65.gbased (j := 1) rfl q72 (by omega)) hc77.1 hc77.2) ?_
 refine xq 1 [(38, .pointer (some (elemA v73 a1 (csz api_Node) 5)))] ?_
 obtain ⟨x78, hx79, hm⟩ := obind hm
 obtain ⟨cs80, hc81, he82, ht83⟩ := hS65.gel (j := 1) rfl q72 (i := a1) hx79
 obtain ⟨v84, q85, rfl⟩ := rc_api_Node hc81
 refine r_ex2 rfl trivial (o_ste (u' := (⟨x78.Kind, x78.From, x78.To, x78.Up, x78.Kids, true⟩ : api_Node)) (vs := [.bool true]) (cs' := [V x78.Kind, V x78.From, V x78.To, V x78.Up, v84, .bool true]) hS65 (m := 1) rfl q72 hx79 ht83 rfl rfl rfl (by kernel_rfl) rfl rfl rfl ⟨_, q85, rfl⟩) ?_
 rintro h86 c87 ⟨q89, hS88⟩
 replace hS88 : St _ _ _ _ _ _ [.blk b1 (K58 v71 v73 v7 r59.2), .gs v73 c87 (csz api_Node), .gs v7 c76 (csz api_Diag)] := hS88
 refine xf [] ?_
 obtain ⟨Z90, hZ91, q92, hS93⟩ := (hS88.front 1 rfl).freeze q89
 replace hS93 : St _ _ _ _ _ _ [.blk b1 (K58 v71 v73 v7 r59.2), .gs v7 c76 (csz api_Diag)] := hS93
 obtain rfl := si hm
 refine ⟨_, _, _, ResL.nil, hS93, ?_⟩
 exact ⟨v71, v73, c76, rfl, rfl, (q70.mono hZ91), q92, (q75.mono hZ91)⟩
 refine sr r72_3 ?_
 refine xq 3 [(19, Pt b1 0), (9, V 7), (8, V r15), (0, Pt b1 0), (1, V a1), (2, V a2)] ?_
 refine r_step rfl trivial (o_ldb (v := v3) hS21 (i := 0) rfl rfl (by kernel_rfl)) ?_
 refine xq 2 [(22, V r15), (21, V a2), (20, v3), (9, V 7), (8, V r15), (0, Pt b1 0), (1, V a1), (2, V a2)] ?_
 obtain ⟨hc46, ho41⟩ := chk ho41
 refine r_exv rfl trivial (o_slice (a := a2) (b := r15) (q2.mono hZ24) rfl (by kernel_rfl : slTy _ _ = some (csz api_Token)) ⟨_, rfl⟩ ⟨_, rfl⟩ hc46.1 hc46.2.1 hc46.2.2) ?_
 intro v43 q44
 obtain ⟨r47, hx48, ho41⟩ := obind ho41
 obtain ⟨v49, h50, hcl51, hSc52, rfl⟩ := slices_ContainsFunc_api_Token_ok F hS21.inv q44 hx48
 have hS53 := St.call (A := []) (B := [.blk b1 (K58 v3 v5 v7 a0), .gs v7 c8 (csz api_Diag)]) hS21 hSc52
 replace hS53 : St _ _ _ _ _ _ [.blk b1 (K58 v3 v5 v7 a0), .gs v7 c8 (csz api_Diag)] := hS53
 refine r_step rfl trivial (o_call hcl51 rfl rfl rfl) ?_
 refine xf [(24, .bool r47), (9, V 7), (8, V r15), (0, Pt b1 0), (1, V a1), (2, V a2)] ?_
 rcases ifs ho41 with ⟨hp54, ho41⟩ | ⟨hp54, ho41⟩
 refine W_condT (x := .tmp 24) (by kernel_rfl) rfl hp54 ?_
 refine rg r72_4 ?_
 refine xe 1 [(9, V 8), (8, V r15), (0, Pt b1 0), (1, V a1), (2, V a2)] ?_
 obtain rfl := si ho41
 exact ⟨_, 8, rfl, rfl, hS53⟩
 refine W_condF (x := .tmp 24) (by kernel_rfl) rfl (Bool.eq_false_iff.2 hp54) ?_
 refine sk ?_
 obtain rfl := si ho41
 exact ⟨_, 7, rfl, rfl, hS53⟩

def r67_0 : List COp := [u 4 (.assign (ci 0))]
def r67_1 : List COp := [u 5 (.assign (ci 0))]
def r67_2 : List COp := [u 8 (mv 1), u 6 (sg 8)]
def r67_3 : List COp := [u 9 (mv 6), u 10 (mv 0), u 11 (nk 10), u 12 (fa 58 11 1), u 13 (ld 3 12), u 14 (bo .lss 3 9 13 3), u 15 (mv 14), gt 15 16 (mv 0), gt 15 17 (mv 6), gt 15 18 (cf 46 #[(t 16), (t 17)] #[55, 3]), gt 15 19 (cf 62 #[(t 18)] #[3]), gt 15 20 (.unOp .not 4 (t 19)), u 21 (pf 15 20)]
def r67_4 : List COp := [u 22 (mv 6), u 23 (bc .add 3 22 1 3), u 6 (sg 23)]
def r67_5 : List COp := [u 24 (mv 0), u 25 (mv 6), u 26 (cf 46 #[(t 24), (t 25)] #[55, 3]), u 7 (sg 26)]
def r67_6 : List COp := [u 27 (mv 5), u 28 (bc .eql 3 27 0 3), u 29 (mv 28), gt 29 30 (mv 7), gt 29 31 (bc .eql 3 30 7 3), gt 29 32 (mv 31), gn 32 33 (mv 7), gn 32 34 (cf 61 #[(t 33)] #[3]), gt 29 35 (pt 32 34), u 36 (pf 29 35)]
def r67_7 : List COp := [u 37 (mv 7), u 38 (cf 49 #[(t 37)] #[3])]
def r67_8 : List COp := [u 39 (mv 5), u 40 (bc .add 3 39 1 3), u 5 (sg 40)]
def r67_9 : List COp := [u 41 (mv 7), u 42 (cf 61 #[(t 41)] #[3])]
def r67_10 : List COp := [u 43 (mv 5), u 44 (bc .sub 3 43 1 3), u 5 (sg 44)]
def r67_11 : List COp := [u 45 (mv 0), u 46 (mv 1), u 47 (mv 6), u 48 (cf 63 #[(t 45), (t 46), (t 47)] #[55, 3, 3]), u 4 (sg 48)]
def flow_reader_stray_l0 (F : Nat) (a0 : flow_reader) (a1 : Int) : Nat → Int → Int → Option Int
 | 0, _, _ => none
 | n + 1, x251, x252 =>
  if x252 < a0.end_ then
   (flow_reader_kind F a0 x252).bind fun r297 =>
   (flow_mark F r297).bind fun r308 =>
   if r308 = true then
    some x252
   else
    (flow_reader_kind F a0 x252).bind fun r316 =>
    ((if x251 = (0 : Int) then
      if r316 = (7 : Int) then
       some (.inr x252)
      else
       (flow_ends F r316).bind fun r341 =>
       if r341 = true then
        some (.inr x252)
       else
        some (.inl ())
     else
      some (.inl ())) : Option (Sum Unit Int)).bind fun o => match o with
     | .inl () => (((flow_opens F r316).bind fun r362 =>
      if r362 = true then
       some (w64 (x251 + 1))
      else
       some x251) : Option Int).bind fun o => match o with
      | x371 => (flow_ends F r316).bind fun r374 =>
      ((if r374 = true then
        some (w64 (x371 - 1))
       else
        some x371) : Option Int).bind fun o => match o with
       | x386 => flow_reader_stray_l0 F a0 a1 n x386 (w64 (x252 + 1))
     | .inr y => some y
  else
   some x252
def flow_reader_stray (F : Nat) (a0 : flow_reader) (a1 : Int) : Option Int :=
 ((flow_reader_stray_l0 F a0 a1 F 0 a1) : Option Int).bind fun o => match o with
  | x394 => (flow_reader_over F a0 a1 x394).bind fun r397 =>
  some r397
theorem flow_reader_stray_ok (F : Nat) {h : AH} {Z : Zn} {a0 : flow_reader} {a1 : Int} {b1 : Nat} {v3 : Value} {v5 : Value} {v7 : Value} {c8 : List Value} (hP : Pre Z h [.blk b1 (K58 v3 v5 v7 a0), .gs v7 c8 (csz api_Diag)]) (q2 : RS (α := api_Token) Z v3 a0.l_) (q4 : RS (α := api_Node) Z v5 a0.t_.Nodes) (q6 : RCs (α := api_Diag) Z c8 a0.d_) {r : Int} (hm : flow_reader_stray F a0 a1 = some r) :
  ∃ v h' Z' A', callI Try.prog 67 [Pt b1 0, V a1] h = some (v, h') ∧ St h (idsL [.blk b1 (K58 v3 v5 v7 a0), .gs v7 c8 (csz api_Diag)]) Z (0, 0) Z' h' A' ∧ V r = v ∧ A' = [.blk b1 (K58 v3 v5 v7 a0), .gs v7 c8 (csz api_Diag)] := by
 refine fn_intro (A := [.blk b1 (K58 v3 v5 v7 a0), .gs v7 c8 (csz api_Diag)]) (Q := fun v Z' A' => V r = v ∧ A' = [.blk b1 (K58 v3 v5 v7 a0), .gs v7 c8 (csz api_Diag)]) Try.func67 rfl rfl (by kernel_rfl) hP ?_
 intro hs hS
 unfold flow_reader_stray at hm
 refine sr r67_0 ?_
 refine xe 1 [(0, Pt b1 0), (1, V a1)] ?_
 refine sr r67_1 ?_
 refine xe 1 [(5, V 0), (0, Pt b1 0), (1, V a1)] ?_
 refine sr r67_2 ?_
 refine xe 2 [(6, V a1), (5, V 0), (0, Pt b1 0), (1, V a1)] ?_
 refine sq ?_
 obtain ⟨o249, ho248, hm⟩ := obind hm
 refine W_join [0, 1, 6] (fun l h => ∃ Z393 : Zn, ∃ x394 : Int, x394 = o249 ∧ l = [(0, Pt b1 0), (1, V a1), (6, V x394)] ∧ St hs (idsL [.blk b1 (K58 v3 v5 v7 a0), .gs v7 c8 (csz api_Diag)]) Z (0, 0) Z393 h [.blk b1 (K58 v3 v5 v7 a0), .gs v7 c8 (csz api_Diag)]) ?_ ?_
 rintro l h395 ⟨Z393, x394, rfl, rfl, hS396⟩
 try dsimp only at hm
 refine sr r67_11 ?_
 refine xq 3 [(47, V x394), (46, V a1), (45, Pt b1 0)] ?_
 obtain ⟨r397, hx398, hm⟩ := obind hm
 have hF404 : St _ _ _ _ _ _ ([.blk b1 (K58 v3 v5 v7 a0), .gs v7 c8 (csz api_Diag)] ++ []) := ((hS396.front 1 rfl).front 1 rfl)
 obtain ⟨v399, h400, Z405, A407, hcl401, hSc402, rfl, rfl⟩ := flow_reader_over_ok F hF404.preL (q2.mono hS396.zle) (q4.mono hS396.zle) (q6.mono hS396.zle) hx398
 have hZ406 := hSc402.zle
 have hS403 := hF404.call hSc402
 replace hS403 : St _ _ _ _ _ _ [.blk b1 (K58 v3 v5 v7 a0), .gs v7 c8 (csz api_Diag)] := hS403
 refine r_step rfl trivial (o_call hcl401 rfl rfl rfl) ?_
 refine xe 1 [(4, V r397)] ?_
 refine rt ?_
 refine ⟨rfl, ?_⟩
 obtain rfl := si hm
 refine ⟨_, _, _, ResL.tmp rfl (ResL.nil), hS403, ?_⟩
 exact ⟨rfl, rfl⟩
 refine bk 0 ?_
 refine lp [0, 1, 5, 6] (fun n l h => ∃ Z250 : Zn, ∃ x251 : Int, ∃ x252 : Int, flow_reader_stray_l0 F a0 a1 n x251 x252 = some o249 ∧ l = [(0, Pt b1 0), (1, V a1), (5, V x251), (6, V x252)] ∧ St hs (idsL [.blk b1 (K58 v3 v5 v7 a0), .gs v7 c8 (csz api_Diag)]) Z (0, 0) Z250 h [.blk b1 (K58 v3 v5 v7 a0), .gs v7 c8 (csz api_Diag)]) F ⟨_, 0, a1, ho248, rfl, hS⟩ ?_
 rintro n255 l h253 ⟨Z250, x251, x252, ho248, rfl, hS254⟩
 rcases n255 with _ | n255
 cases (show none = some o249 from ho248)
 rw [flow_reader_stray_l0] at ho248
 refine sq ?_
 refine sr r67_3 ?_
 refine xq 4 [(12, Pt b1 1), (9, V x252), (0, Pt b1 0), (1, V a1), (5, V x251), (6, V x252)] ?_
 refine r_step rfl trivial (o_ldb (v := V a0.end_) hS254 (i := 0) rfl rfl (by kernel_rfl)) ?_
 rcases ifs ho248 with ⟨hp296, ho248⟩ | ⟨hp296, ho248⟩
 refine r_step rfl trivial (o_cmp rfl rfl (c_lss_T hp296)) ?_
 refine xq 3 [(17, V x252), (16, Pt b1 0), (15, .bool true), (0, Pt b1 0), (1, V a1), (5, V x251), (6, V x252)] ?_
 obtain ⟨r297, hx298, ho248⟩ := obind ho248
 have hF304 : St _ _ _ _ _ _ ([.blk b1 (K58 v3 v5 v7 a0), .gs v7 c8 (csz api_Diag)] ++ []) := ((hS254.front 1 rfl).front 1 rfl)
 obtain ⟨v299, h300, Z305, A307, hcl301, hSc302, rfl, rfl⟩ := flow_reader_kind_ok F hF304.preL (q2.mono hS254.zle) (q4.mono hS254.zle) (q6.mono hS254.zle) hx298
 have hZ306 := hSc302.zle
 have hS303 := hF304.call hSc302
 replace hS303 : St _ _ _ _ _ _ [.blk b1 (K58 v3 v5 v7 a0), .gs v7 c8 (csz api_Diag)] := hS303
 refine r_step rfl rfl (o_call hcl301 rfl rfl rfl) ?_
 obtain ⟨r308, hx309, ho248⟩ := obind ho248
 obtain ⟨v310, h311, hcl312, hSc313, rfl⟩ := flow_mark_ok F hS303.inv  hx309
 have hS314 := St.call (A := []) (B := [.blk b1 (K58 v3 v5 v7 a0), .gs v7 c8 (csz api_Diag)]) hS303 hSc313
 replace hS314 : St _ _ _ _ _ _ [.blk b1 (K58 v3 v5 v7 a0), .gs v7 c8 (csz api_Diag)] := hS314
 refine r_step rfl rfl (o_call hcl312 rfl rfl rfl) ?_
 rcases ifs ho248 with ⟨hp315, ho248⟩ | ⟨hp315, ho248⟩
 refine r_setb (t := 19) rfl hp315 ?_
 refine xe 2 [(21, .bool false), (0, Pt b1 0), (1, V a1), (5, V x251), (6, V x252)] ?_
 refine cF 21 rfl ?_
 refine xt 0 ?_
 refine blkX_hit ?_
 obtain rfl := si ho248
 exact ⟨_, x252, rfl, rfl, hS314⟩
 refine r_setb (t := 19) rfl (Bool.eq_false_iff.2 hp315) ?_
 refine xe 2 [(21, .bool true), (0, Pt b1 0), (1, V a1), (5, V x251), (6, V x252)] ?_
 refine kT 21 rfl ?_
 refine sq ?_
 refine bk 1 ?_
 refine sr r67_5 ?_
 refine xq 2 [(25, V x252), (24, Pt b1 0), (0, Pt b1 0), (1, V a1), (5, V x251), (6, V x252)] ?_
 obtain ⟨r316, hx317, ho248⟩ := obind ho248
 have hF323 : St _ _ _ _ _ _ ([.blk b1 (K58 v3 v5 v7 a0), .gs v7 c8 (csz api_Diag)] ++ []) := ((hS314.front 1 rfl).front 1 rfl)
 obtain ⟨v318, h319, Z324, A326, hcl320, hSc321, rfl, rfl⟩ := flow_reader_kind_ok F hF323.preL (q2.mono (hS254.zle.trans hZ306)) (q4.mono (hS254.zle.trans hZ306)) (q6.mono (hS254.zle.trans hZ306)) hx317
 have hZ325 := hSc321.zle
 have hS322 := hF323.call hSc321
 replace hS322 : St _ _ _ _ _ _ [.blk b1 (K58 v3 v5 v7 a0), .gs v7 c8 (csz api_Diag)] := hS322
 refine r_step rfl trivial (o_call hcl320 rfl rfl rfl) ?_
 refine xe 1 [(7, V r316), (0, Pt b1 0), (1, V a1), (5, V x251), (6, V x252)] ?_
 refine sq ?_
 obtain ⟨o338, ho337, ho248⟩ := obind ho248
 refine W_join [0, 1, 5, 6, 7] (fun l h => ∃ Z349 : Zn, .inl () = o338 ∧ l = [(0, Pt b1 0), (1, V a1), (5, V x251), (6, V x252), (7, V r316)] ∧ St hs (idsL [.blk b1 (K58 v3 v5 v7 a0), .gs v7 c8 (csz api_Diag)]) Z (0, 0) Z349 h [.blk b1 (K58 v3 v5 v7 a0), .gs v7 c8 (csz api_Diag)]) ?_ ?_
 rintro l h350 ⟨Z349, rfl, rfl, hS351⟩
 try dsimp only at ho248
 refine sq ?_
 obtain ⟨o361, ho360, ho248⟩ := obind ho248
 refine W_join [0, 1, 5, 6, 7] (fun l h => ∃ Z370 : Zn, ∃ x371 : Int, x371 = o361 ∧ l = [(0, Pt b1 0), (1, V a1), (5, V x371), (6, V x252), (7, V r316)] ∧ St hs (idsL [.blk b1 (K58 v3 v5 v7 a0), .gs v7 c8 (csz api_Diag)]) Z (0, 0) Z370 h [.blk b1 (K58 v3 v5 v7 a0), .gs v7 c8 (csz api_Diag)]) ?_ ?_
 rintro l h372 ⟨Z370, x371, rfl, rfl, hS373⟩
 try dsimp only at ho248
 refine sr r67_9 ?_
 refine xq 1 [(41, V r316), (0, Pt b1 0), (1, V a1), (5, V x371), (6, V x252)] ?_
 obtain ⟨r374, hx375, ho248⟩ := obind ho248
 obtain ⟨v376, h377, hcl378, hSc379, rfl⟩ := flow_ends_ok F hS373.inv  hx375
 have hS380 := St.call (A := []) (B := [.blk b1 (K58 v3 v5 v7 a0), .gs v7 c8 (csz api_Diag)]) hS373 hSc379
 replace hS380 : St _ _ _ _ _ _ [.blk b1 (K58 v3 v5 v7 a0), .gs v7 c8 (csz api_Diag)] := hS380
 refine r_step rfl trivial (o_call hcl378 rfl rfl rfl) ?_
 refine xf [(42, .bool r374), (0, Pt b1 0), (1, V a1), (5, V x371), (6, V x252)] ?_
 obtain ⟨o383, ho382, ho248⟩ := obind ho248
 refine W_join [0, 1, 5, 6] (fun l h => ∃ Z385 : Zn, ∃ x386 : Int, x386 = o383 ∧ l = [(0, Pt b1 0), (1, V a1), (5, V x386), (6, V x252)] ∧ St hs (idsL [.blk b1 (K58 v3 v5 v7 a0), .gs v7 c8 (csz api_Diag)]) Z (0, 0) Z385 h [.blk b1 (K58 v3 v5 v7 a0), .gs v7 c8 (csz api_Diag)]) ?_ ?_
 rintro l h387 ⟨Z385, x386, rfl, rfl, hS388⟩
 try dsimp only at ho248
 refine rg r67_4 ?_
 refine xe 3 [(6, V (w64 (x252 + 1))), (0, Pt b1 0), (1, V a1), (5, V x386)] ?_
 exact ⟨n255, Nat.lt_succ_self _, ⟨_, x386, w64 (x252 + 1), ho248, rfl, hS388⟩⟩
 rcases ifs ho382 with ⟨hp384, ho382⟩ | ⟨hp384, ho382⟩
 refine W_condT (x := .tmp 42) (by kernel_rfl) rfl hp384 ?_
 refine rg r67_10 ?_
 refine xe 3 [(5, V (w64 (x371 - 1))), (0, Pt b1 0), (1, V a1), (6, V x252)] ?_
 obtain rfl := si ho382
 exact ⟨_, w64 (x371 - 1), rfl, rfl, hS380⟩
 refine W_condF (x := .tmp 42) (by kernel_rfl) rfl (Bool.eq_false_iff.2 hp384) ?_
 refine sk ?_
 obtain rfl := si ho382
 exact ⟨_, x371, rfl, rfl, hS380⟩
 refine sr r67_7 ?_
 refine xq 1 [(37, V r316), (0, Pt b1 0), (1, V a1), (5, V x251), (6, V x252), (7, V r316)] ?_
 obtain ⟨r362, hx363, ho360⟩ := obind ho360
 obtain ⟨v364, h365, hcl366, hSc367, rfl⟩ := flow_opens_ok F hS351.inv  hx363
 have hS368 := St.call (A := []) (B := [.blk b1 (K58 v3 v5 v7 a0), .gs v7 c8 (csz api_Diag)]) hS351 hSc367
 replace hS368 : St _ _ _ _ _ _ [.blk b1 (K58 v3 v5 v7 a0), .gs v7 c8 (csz api_Diag)] := hS368
 refine r_step rfl trivial (o_call hcl366 rfl rfl rfl) ?_
 refine xf [(38, .bool r362), (0, Pt b1 0), (1, V a1), (5, V x251), (6, V x252), (7, V r316)] ?_
 rcases ifs ho360 with ⟨hp369, ho360⟩ | ⟨hp369, ho360⟩
 refine W_condT (x := .tmp 38) (by kernel_rfl) rfl hp369 ?_
 refine rg r67_8 ?_
 refine xe 3 [(5, V (w64 (x251 + 1))), (0, Pt b1 0), (1, V a1), (6, V x252), (7, V r316)] ?_
 obtain rfl := si ho360
 exact ⟨_, w64 (x251 + 1), rfl, rfl, hS368⟩
 refine W_condF (x := .tmp 38) (by kernel_rfl) rfl (Bool.eq_false_iff.2 hp369) ?_
 refine sk ?_
 obtain rfl := si ho360
 exact ⟨_, x251, rfl, rfl, hS368⟩
 refine sr r67_6 ?_
 refine xq 1 [(27, V x251), (7, V r316), (0, Pt b1 0), (1, V a1), (5, V x251), (6, V x252)] ?_
 rcases ifs ho337 with ⟨hp339, ho337⟩ | ⟨hp339, ho337⟩
 refine r_step rfl trivial (o_cmp rfl rfl (c_eql_T hp339)) ?_
 refine xq 2 [(30, V r316), (29, .bool true), (7, V r316), (0, Pt b1 0), (1, V a1), (5, V x251), (6, V x252)] ?_
 rcases ifs ho337 with ⟨hp340, ho337⟩ | ⟨hp340, ho337⟩
 refine r_step rfl rfl (o_cmp rfl rfl (c_eql_T hp340)) ?_
 refine xe 5 [(36, .bool true), (7, V r316), (0, Pt b1 0), (1, V a1), (5, V x251), (6, V x252)] ?_
 refine cT 36 rfl ?_
 refine xt 0 ?_
 refine blkX_miss rfl ?_
 refine blkX_hit ?_
 obtain rfl := si ho337
 obtain rfl := si ho248
 exact ⟨_, x252, rfl, rfl, hS322⟩
 refine r_step rfl rfl (o_cmp rfl rfl (c_eql_F hp340)) ?_
 refine xq 2 [(33, V r316), (32, .bool false), (29, .bool true), (7, V r316), (0, Pt b1 0), (1, V a1), (5, V x251), (6, V x252)] ?_
 obtain ⟨r341, hx342, ho337⟩ := obind ho337
 obtain ⟨v343, h344, hcl345, hSc346, rfl⟩ := flow_ends_ok F hS322.inv  hx342
 have hS347 := St.call (A := []) (B := [.blk b1 (K58 v3 v5 v7 a0), .gs v7 c8 (csz api_Diag)]) hS322 hSc346
 replace hS347 : St _ _ _ _ _ _ [.blk b1 (K58 v3 v5 v7 a0), .gs v7 c8 (csz api_Diag)] := hS347
 refine r_step rfl rfl (o_call hcl345 rfl rfl rfl) ?_
 refine xe 2 [(36, .bool r341), (7, V r316), (0, Pt b1 0), (1, V a1), (5, V x251), (6, V x252)] ?_
 rcases ifs ho337 with ⟨hp348, ho337⟩ | ⟨hp348, ho337⟩
 refine W_condT (x := .tmp 36) (by kernel_rfl) rfl hp348 ?_
 refine xt 0 ?_
 refine blkX_miss rfl ?_
 refine blkX_hit ?_
 obtain rfl := si ho337
 obtain rfl := si ho248
 exact ⟨_, x252, rfl, rfl, hS347⟩
 refine W_condF (x := .tmp 36) (by kernel_rfl) rfl (Bool.eq_false_iff.2 hp348) ?_
 refine sk ?_
 obtain rfl := si ho337
 exact ⟨_, rfl, rfl, hS347⟩
 refine r_step rfl trivial (o_cmp rfl rfl (c_eql_F hp339)) ?_
 refine xe 8 [(36, .bool false), (7, V r316), (0, Pt b1 0), (1, V a1), (5, V x251), (6, V x252)] ?_
 refine kF 36 rfl ?_
 obtain rfl := si ho337
 exact ⟨_, rfl, rfl, hS322⟩
 refine r_step rfl trivial (o_cmp rfl rfl (c_lss_F hp296)) ?_
 refine xe 7 [(21, .bool false), (0, Pt b1 0), (1, V a1), (5, V x251), (6, V x252)] ?_
 refine cF 21 rfl ?_
 refine xt 0 ?_
 refine blkX_hit ?_
 obtain rfl := si ho248
 exact ⟨_, x252, rfl, rfl, hS254⟩

def flow_reader_value_C (rec_flow_reader_value : flow_reader → Int → Int → Int → Option (Int × Int × flow_reader)) : Prop := ∀ {h : AH} {Z : Zn} {a0 : flow_reader} {a1 : Int} {a2 : Int} {a3 : Int} {b1 : Nat} {v3 : Value} {v5 : Value} {v7 : Value} {c8 : List Value} (hP : Pre Z h [.blk b1 (K58 v3 v5 v7 a0), .gs v7 c8 (csz api_Diag)]) (q2 : RS (α := api_Token) Z v3 a0.l_) (q4 : RS (α := api_Node) Z v5 a0.t_.Nodes) (q6 : RCs (α := api_Diag) Z c8 a0.d_) {r : Int × Int × flow_reader} (hm : rec_flow_reader_value a0 a1 a2 a3 = some r), ∃ v h' Z' A', callI Try.prog 23 [Pt b1 0, V a1, V a2, V a3] h = some (v, h') ∧ St h (idsL [.blk b1 (K58 v3 v5 v7 a0), .gs v7 c8 (csz api_Diag)]) Z (0, 0) Z' h' A' ∧ ∃ v10 : Value, ∃ v12 : Value, ∃ v14 : Value, ∃ c15 : List Value, .tuple #[V r.1, V r.2.1] = v ∧ A' = [.blk b1 (K58 v10 v12 v14 r.2.2), .gs v14 c15 (csz api_Diag)] ∧ RS (α := api_Token) Z' v10 r.2.2.l_ ∧ RS (α := api_Node) Z' v12 r.2.2.t_.Nodes ∧ RCs (α := api_Diag) Z' c15 r.2.2.d_


def r68_0 : List COp := [u 10 (.assign (ci 0))]
def r68_1 : List COp := [u 15 (mv 0), u 16 (mv 1), u 17 (mv 2), u 18 (mv 3), u 19 (bc .add 3 18 1 3), u 20 (cf 47 #[(t 15), (t 16), (ci 6), (t 17), (t 19)] #[55, 3, 3, 3, 3]), u 11 (sg 20)]
def r68_2 : List COp := [u 21 (mv 0), u 22 (mv 11), u 23 (mv 2), u 24 (mv 3), u 25 (cf 72 #[(t 21), (t 22), (t 23), (t 24)] #[55, 3, 3, 3])]
def r68_3 : List COp := [u 26 (mv 0), u 27 (mv 3), u 28 (bc .add 3 27 1 3), u 29 (cf 65 #[(t 26), (t 28)] #[55, 3]), u 12 (sg 29)]
def r68_4 : List COp := [u 31 (mv 0), u 32 (mv 11), u 33 (mv 12), u 34 (mv 4), u 35 (cf 23 #[(t 31), (t 32), (t 33), (t 34)] #[55, 3, 3, 3]), u 30 (mv 35), u 36 (.extract (t 30) 0), u 37 (.extract (t 30) 1), u 13 (sg 36), u 14 (sg 37)]
def r68_5 : List COp := [u 38 (mv 13), u 39 (bc .geq 3 38 0 3)]
def r68_6 : List COp := [u 40 (mv 14), u 10 (sg 40)]
def r68_7 : List COp := [u 41 (mv 3), u 42 (bc .add 3 41 1 3), u 10 (sg 42)]
def flow_reader_pair (F : Nat) (rec_flow_reader_value : flow_reader → Int → Int → Int → Option (Int × Int × flow_reader)) (a0 : flow_reader) (a1 : Int) (a2 : Int) (a3 : Int) (a4 : Int) : Option (Int × flow_reader) :=
 (flow_reader_add F a0 a1 6 a2 (w64 (a3 + 1))).bind fun r16 =>
 (flow_reader_scalar F r16.2 r16.1 a2 a3).bind fun r38 =>
 (flow_reader_past F r38 (w64 (a3 + 1))).bind fun r55 =>
 (rec_flow_reader_value r38 r16.1 r55 a4).bind fun r66 =>
 if (0 : Int) ≤ r66.1 then
  some (r66.2.1, r66.2.2)
 else
  some (w64 (a3 + 1), r66.2.2)
theorem flow_reader_pair_ok (F : Nat) (rec_flow_reader_value : flow_reader → Int → Int → Int → Option (Int × Int × flow_reader)) (hrec_flow_reader_value : flow_reader_value_C rec_flow_reader_value) {h : AH} {Z : Zn} {a0 : flow_reader} {a1 : Int} {a2 : Int} {a3 : Int} {a4 : Int} {b1 : Nat} {v3 : Value} {v5 : Value} {v7 : Value} {c8 : List Value} (hP : Pre Z h [.blk b1 (K58 v3 v5 v7 a0), .gs v7 c8 (csz api_Diag)]) (q2 : RS (α := api_Token) Z v3 a0.l_) (q4 : RS (α := api_Node) Z v5 a0.t_.Nodes) (q6 : RCs (α := api_Diag) Z c8 a0.d_) {r : Int × flow_reader} (hm : flow_reader_pair F rec_flow_reader_value a0 a1 a2 a3 a4 = some r) :
  ∃ v h' Z' A', callI Try.prog 68 [Pt b1 0, V a1, V a2, V a3, V a4] h = some (v, h') ∧ St h (idsL [.blk b1 (K58 v3 v5 v7 a0), .gs v7 c8 (csz api_Diag)]) Z (0, 0) Z' h' A' ∧ ∃ v10 : Value, ∃ v12 : Value, ∃ v14 : Value, ∃ c15 : List Value, V r.1 = v ∧ A' = [.blk b1 (K58 v10 v12 v14 r.2), .gs v14 c15 (csz api_Diag)] ∧ RS (α := api_Token) Z' v10 r.2.l_ ∧ RS (α := api_Node) Z' v12 r.2.t_.Nodes ∧ RCs (α := api_Diag) Z' c15 r.2.d_ := by
 refine fn_intro (A := [.blk b1 (K58 v3 v5 v7 a0), .gs v7 c8 (csz api_Diag)]) (Q := fun v Z' A' => ∃ v10 : Value, ∃ v12 : Value, ∃ v14 : Value, ∃ c15 : List Value, V r.1 = v ∧ A' = [.blk b1 (K58 v10 v12 v14 r.2), .gs v14 c15 (csz api_Diag)] ∧ RS (α := api_Token) Z' v10 r.2.l_ ∧ RS (α := api_Node) Z' v12 r.2.t_.Nodes ∧ RCs (α := api_Diag) Z' c15 r.2.d_) Try.func68 rfl rfl (by kernel_rfl) hP ?_
 intro hs hS
 unfold flow_reader_pair at hm
 refine sr r68_0 ?_
 refine xe 1 [(0, Pt b1 0), (1, V a1), (2, V a2), (3, V a3), (4, V a4)] ?_
 refine sr r68_1 ?_
 refine xq 5 [(19, V (w64 (a3 + 1))), (17, V a2), (16, V a1), (15, Pt b1 0), (0, Pt b1 0), (2, V a2), (3, V a3), (4, V a4)] ?_
 obtain ⟨r16, hx17, hm⟩ := obind hm
 have hF23 : St _ _ _ _ _ _ ([.blk b1 (K58 v3 v5 v7 a0), .gs v7 c8 (csz api_Diag)] ++ []) := ((hS.front 1 rfl).front 1 rfl)
 obtain ⟨v18, h19, Z24, A26, hcl20, hSc21, v28, v30, c31, c33, rfl, rfl, q27, q29, q32⟩ := flow_reader_add_ok F hF23.preL q2 q4 q6 hx17
 have hZ25 := hSc21.zle
 have hS22 := hF23.call hSc21
 replace hS22 : St _ _ _ _ _ _ [.blk b1 (K58 v28 v30 v7 r16.2), .gs v30 c31 (csz api_Node), .gs v7 c33 (csz api_Diag)] := hS22
 refine r_step rfl trivial (o_call hcl20 rfl rfl rfl) ?_
 refine xe 1 [(11, V r16.1), (0, Pt b1 0), (2, V a2), (3, V a3), (4, V a4)] ?_
 refine sr r68_2 ?_
 refine xq 4 [(24, V a3), (23, V a2), (22, V r16.1), (21, Pt b1 0), (11, V r16.1), (0, Pt b1 0), (3, V a3), (4, V a4)] ?_
 obtain ⟨Z34, hZ35, q36, hS37⟩ := (hS22.front 1 rfl).freeze q29
 replace hS37 : St _ _ _ _ _ _ [.blk b1 (K58 v28 v30 v7 r16.2), .gs v7 c33 (csz api_Diag)] := hS37
 obtain ⟨r38, hx39, hm⟩ := obind hm
 have hF45 : St _ _ _ _ _ _ ([.blk b1 (K58 v28 v30 v7 r16.2), .gs v7 c33 (csz api_Diag)] ++ []) := ((hS37.front 1 rfl).front 1 rfl)
 obtain ⟨v40, h41, Z46, A48, hcl42, hSc43, v50, v52, c54, rfl, rfl, q49, q51, q53⟩ := flow_reader_scalar_ok F hF45.preL (q27.mono hZ35) q36 (q32.mono hZ35) hx39
 have hZ47 := hSc43.zle
 have hS44 := hF45.call hSc43
 replace hS44 : St _ _ _ _ _ _ [.blk b1 (K58 v50 v52 v7 r38), .gs v7 c54 (csz api_Diag)] := hS44
 refine r_step rfl trivial (o_call hcl42 rfl rfl rfl) ?_
 refine xf [(11, V r16.1), (0, Pt b1 0), (3, V a3), (4, V a4)] ?_
 refine sr r68_3 ?_
 refine xq 3 [(28, V (w64 (a3 + 1))), (26, Pt b1 0), (11, V r16.1), (0, Pt b1 0), (3, V a3), (4, V a4)] ?_
 obtain ⟨r55, hx56, hm⟩ := obind hm
 have hF62 : St _ _ _ _ _ _ ([.blk b1 (K58 v50 v52 v7 r38), .gs v7 c54 (csz api_Diag)] ++ []) := ((hS44.front 1 rfl).front 1 rfl)
 obtain ⟨v57, h58, Z63, A65, hcl59, hSc60, rfl, rfl⟩ := flow_reader_past_ok F hF62.preL q49 q51 q53 hx56
 have hZ64 := hSc60.zle
 have hS61 := hF62.call hSc60
 replace hS61 : St _ _ _ _ _ _ [.blk b1 (K58 v50 v52 v7 r38), .gs v7 c54 (csz api_Diag)] := hS61
 refine r_step rfl trivial (o_call hcl59 rfl rfl rfl) ?_
 refine xe 1 [(12, V r55), (11, V r16.1), (0, Pt b1 0), (3, V a3), (4, V a4)] ?_
 refine sq ?_
 refine sr r68_4 ?_
 refine xq 4 [(34, V a4), (33, V r55), (32, V r16.1), (31, Pt b1 0), (3, V a3)] ?_
 obtain ⟨r66, hx67, hm⟩ := obind hm
 have hF73 : St _ _ _ _ _ _ ([.blk b1 (K58 v50 v52 v7 r38), .gs v7 c54 (csz api_Diag)] ++ []) := ((hS61.front 1 rfl).front 1 rfl)
 obtain ⟨v68, h69, Z74, A76, hcl70, hSc71, v78, v80, v82, c83, rfl, rfl, q77, q79, q81⟩ := hrec_flow_reader_value hF73.preL (q49.mono hZ64) (q51.mono hZ64) (q53.mono hZ64) hx67
 have hZ75 := hSc71.zle
 have hS72 := hF73.call hSc71
 replace hS72 : St _ _ _ _ _ _ [.blk b1 (K58 v78 v80 v82 r66.2.2), .gs v82 c83 (csz api_Diag)] := hS72
 refine r_step rfl trivial (o_call hcl70 rfl rfl rfl) ?_
 refine xe 5 [(14, V r66.2.1), (13, V r66.1), (3, V a3)] ?_
 refine sr r68_5 ?_
 refine xq 1 [(38, V r66.1), (14, V r66.2.1), (3, V a3)] ?_
 rcases ifs hm with ⟨hp85, hm⟩ | ⟨hp85, hm⟩
 refine r_step rfl trivial (o_cmp rfl rfl (c_geq_T hp85)) ?_
 refine xf [(39, .bool true), (14, V r66.2.1), (3, V a3)] ?_
 refine cT 39 rfl ?_
 refine sr r68_6 ?_
 refine xe 2 [(10, V r66.2.1)] ?_
 refine rt ?_
 refine ⟨rfl, ?_⟩
 obtain rfl := si hm
 refine ⟨_, _, _, ResL.tmp rfl (ResL.nil), hS72, ?_⟩
 exact ⟨v78, v80, v82, c83, rfl, rfl, q77, q79, q81⟩
 refine r_step rfl trivial (o_cmp rfl rfl (c_geq_F hp85)) ?_
 refine xf [(39, .bool false), (14, V r66.2.1), (3, V a3)] ?_
 refine kF 39 rfl ?_
 refine sr r68_7 ?_
 refine xe 3 [(10, V (w64 (a3 + 1)))] ?_
 refine rt ?_
 refine ⟨rfl, ?_⟩
 obtain rfl := si hm
 refine ⟨_, _, _, ResL.tmp rfl (ResL.nil), hS72, ?_⟩
 exact ⟨v78, v80, v82, c83, rfl, rfl, q77, q79, q81⟩

end Go.Proofs.Ytahcngeimlkcgaa.M
