/- Printed by a program of this session: Go functions as Lean functions over plain data, and that the calls come to them. -/
import Derived.Test.YtahcngeimlkcgaaSyJ
import Derived.Test.YtahcngeimlkcgaaChecked
import Derived.KernelRfl
import Derived.Test.YtahcngeimlkcgaaMF0
namespace Go.Proofs.Ytahcngeimlkcgaa.M
open Go Am Sy
open Sy.Cell (rc)
set_option linter.unusedVariables false
set_option linter.unusedSimpArgs false
set_option maxRecDepth 20000

def r69_0 : List COp := [u 10 (.assign (ci 0)), u 11 (.assign (.const (.bool false)))]
def r69_1 : List COp := [u 15 (mv 0), u 16 (nk 15), u 17 (fa 58 16 2), u 18 (ld 29 17), u 19 (mv 1), u 12 (.alloc 29), o (.store 29 (t 12) (t 18)), u 13 (sg 19)]
def r69_2 : List COp := [u 20 (mv 2), u 21 (bc .eql 3 20 10 3)]
def r69_3 : List COp := [u 22 (mv 0), u 23 (mv 1), u 24 (mv 3), u 25 (mv 3), u 26 (cf 47 #[(t 22), (t 23), (ci 6), (t 24), (t 25)] #[55, 3, 3, 3, 3]), u 13 (sg 26)]
def r69_4 : List COp := [u 27 (mv 0), u 28 (nk 27), u 29 (fa 58 28 2), u 30 (fa 29 29 0), u 31 (ld 27 30), u 32 (mv 13), u 33 (ia 27 31 32), u 34 (fa 42 33 5), o (.store 4 (t 34) (.const (.bool true)))]
def r69_5 : List COp := [u 36 (mv 0), u 37 (mv 13), u 38 (mv 3), u 39 (mv 4), u 40 (cf 23 #[(t 36), (t 37), (t 38), (t 39)] #[55, 3, 3, 3]), u 35 (mv 40), u 41 (.extract (t 35) 0), u 42 (.extract (t 35) 1), u 14 (sg 41), u 10 (sg 42)]
def r69_6 : List COp := [u 43 (mv 14), u 44 (bc .geq 3 43 0 3)]
def r69_7 : List COp := [u 45 (mv 10), u 10 (sg 45), u 11 (.assign (.const (.bool true)))]
def r69_8 : List COp := [u 46 (mv 0), u 47 (ld 29 12), u 48 (nk 46), u 49 (fa 58 48 2), o (.store 29 (t 49) (t 47))]
def r69_9 : List COp := [u 50 (mv 0), u 51 (mv 1), u 52 (mv 3), u 53 (mv 3), u 54 (bc .add 3 53 1 3), u 55 (cf 51 #[(t 50), (ci 8), (t 51), (t 52), (t 54)] #[55, 3, 3, 3, 3])]
def r69_10 : List COp := [u 56 (mv 3), u 57 (bc .add 3 56 1 3), u 10 (sg 57), u 11 (.assign (.const (.bool false)))]
def flow_reader_one (F : Nat) (rec_flow_reader_value : flow_reader → Int → Int → Int → Option (Int × Int × flow_reader)) (a0 : flow_reader) (a1 : Int) (a2 : Int) (a3 : Int) (a4 : Int) : Option (Int × Bool × flow_reader) :=
 ((if a2 = (10 : Int) then
   (flow_reader_add F a0 a1 6 a3 a3).bind fun r58 =>
   if 0 ≤ r58.1 ∧ r58.1 < (r58.2.t_.Nodes.length : Int) then
    (r58.2.t_.Nodes[r58.1.toNat]?).bind fun x77 =>
    some ((⟨r58.2.l_, r58.2.end_, (⟨r58.2.t_.Nodes.set r58.1.toNat (⟨x77.Kind, x77.From, x77.To, x77.Up, x77.Kids, true⟩ : api_Node)⟩ : arena_Tree), r58.2.d_⟩ : flow_reader), r58.1)
   else none
  else
   some (a0, a1)) : Option (flow_reader × Int)).bind fun o => match o with
  | (x94, x102) => (rec_flow_reader_value x94 x102 a3 a4).bind fun r105 =>
  if (0 : Int) ≤ r105.1 then
   some (r105.2.1, true, r105.2.2)
  else
   (flow_reader_wrong F (⟨r105.2.2.l_, r105.2.2.end_, a0.t_, r105.2.2.d_⟩ : flow_reader) 8 a1 a3 (w64 (a3 + 1))).bind fun r128 =>
   some (w64 (a3 + 1), false, r128.2)
theorem flow_reader_one_ok (F : Nat) (rec_flow_reader_value : flow_reader → Int → Int → Int → Option (Int × Int × flow_reader)) (hrec_flow_reader_value : flow_reader_value_C rec_flow_reader_value) {h : AH} {Z : Zn} {a0 : flow_reader} {a1 : Int} {a2 : Int} {a3 : Int} {a4 : Int} {b1 : Nat} {v3 : Value} {v5 : Value} {v7 : Value} {c8 : List Value} (hP : Pre Z h [.blk b1 (K58 v3 v5 v7 a0), .gs v7 c8 (csz api_Diag)]) (q2 : RS (α := api_Token) Z v3 a0.l_) (q4 : RS (α := api_Node) Z v5 a0.t_.Nodes) (q6 : RCs (α := api_Diag) Z c8 a0.d_) {r : Int × Bool × flow_reader} (hm : flow_reader_one F rec_flow_reader_value a0 a1 a2 a3 a4 = some r) :
  ∃ v h' Z' A', callI Try.prog 69 [Pt b1 0, V a1, V a2, V a3, V a4] h = some (v, h') ∧ St h (idsL [.blk b1 (K58 v3 v5 v7 a0), .gs v7 c8 (csz api_Diag)]) Z (0, 0) Z' h' A' ∧ ∃ v10 : Value, ∃ v12 : Value, ∃ v14 : Value, ∃ c15 : List Value, .tuple #[V r.1, .bool r.2.1] = v ∧ A' = [.blk b1 (K58 v10 v12 v14 r.2.2), .gs v14 c15 (csz api_Diag)] ∧ RS (α := api_Token) Z' v10 r.2.2.l_ ∧ RS (α := api_Node) Z' v12 r.2.2.t_.Nodes ∧ RCs (α := api_Diag) Z' c15 r.2.2.d_ := by
 refine fn_intro (A := [.blk b1 (K58 v3 v5 v7 a0), .gs v7 c8 (csz api_Diag)]) (Q := fun v Z' A' => ∃ v10 : Value, ∃ v12 : Value, ∃ v14 : Value, ∃ c15 : List Value, .tuple #[V r.1, .bool r.2.1] = v ∧ A' = [.blk b1 (K58 v10 v12 v14 r.2.2), .gs v14 c15 (csz api_Diag)] ∧ RS (α := api_Token) Z' v10 r.2.2.l_ ∧ RS (α := api_Node) Z' v12 r.2.2.t_.Nodes ∧ RCs (α := api_Diag) Z' c15 r.2.2.d_) Try.func69 rfl rfl (by kernel_rfl) hP ?_
 intro hs hS
 unfold flow_reader_one at hm
 refine sr r69_0 ?_
 refine xe 2 [(0, Pt b1 0), (1, V a1), (2, V a2), (3, V a3), (4, V a4)] ?_
 refine sr r69_1 ?_
 refine xq 3 [(17, Pt b1 2), (0, Pt b1 0), (1, V a1), (2, V a2), (3, V a3), (4, V a4)] ?_
 refine r_step rfl trivial (o_ldb (v := .agg #[v5]) hS (i := 0) rfl rfl (by kernel_rfl)) ?_
 refine xq 1 [(19, V a1), (18, .agg #[v5]), (0, Pt b1 0), (1, V a1), (2, V a2), (3, V a3), (4, V a4)] ?_
 refine r_blk rfl trivial (o_alloc (cs := [.slice none 0 0]) (by kernel_rfl)) hS ?_
 intro b16 h17 hS18
 refine r_ex1 rfl trivial (o_stb (vs := [v5]) (cells' := [v5]) (L' := [.blk b16 [v5], .blk b1 (K58 v3 v5 v7 a0), .gs v7 c8 (csz api_Diag)]) hS18 (i := 0) rfl rfl rfl rfl (by kernel_rfl) (one_cons (RS.one1 q4) one_nil) rfl rfl rfl) ?_
 intro h19 hS20
 refine xe 1 [(13, V a1), (12, Pt b16 0), (0, Pt b1 0), (1, V a1), (2, V a2), (3, V a3), (4, V a4)] ?_
 refine sq ?_
 obtain ⟨o55, ho54, hm⟩ := obind hm
 refine W_join [0, 1, 3, 4, 12, 13] (fun l h => ∃ Z93 : Zn, ∃ x94 : flow_reader, ∃ x102 : Int, ∃ v96 : Value, ∃ v98 : Value, ∃ c100 : List Value, ∃ b101 : Nat, (x94, x102) = o55 ∧ RS (α := api_Token) Z93 v96 x94.l_ ∧ RS (α := api_Node) Z93 v98 x94.t_.Nodes ∧ RCs (α := api_Diag) Z93 c100 x94.d_ ∧ l = [(0, Pt b1 0), (1, V a1), (3, V a3), (4, V a4), (12, Pt b101 0), (13, V x102)] ∧ St hs (idsL [.blk b1 (K58 v3 v5 v7 a0), .gs v7 c8 (csz api_Diag)]) Z (0, 0) Z93 h [.blk b1 (K58 v96 v98 v7 x94), .gs v7 c100 (csz api_Diag), .blk b101 [v5]]) ?_ ?_
 rintro l h103 ⟨Z93, x94, x102, v96, v98, c100, b101, rfl, q95, q97, q99, rfl, hS104⟩
 try dsimp only at hm
 refine sr r69_5 ?_
 refine xq 4 [(39, V a4), (38, V a3), (37, V x102), (36, Pt b1 0), (0, Pt b1 0), (1, V a1), (3, V a3), (12, Pt b101 0)] ?_
 obtain ⟨r105, hx106, hm⟩ := obind hm
 have hF112 : St _ _ _ _ _ _ ([.blk b1 (K58 v96 v98 v7 x94), .gs v7 c100 (csz api_Diag)] ++ [.blk b101 [v5]]) := ((hS104.front 1 rfl).front 1 rfl)
 obtain ⟨v107, h108, Z113, A115, hcl109, hSc110, v117, v119, v121, c122, rfl, rfl, q116, q118, q120⟩ := hrec_flow_reader_value hF112.preL q95 q97 q99 hx106
 have hZ114 := hSc110.zle
 have hS111 := hF112.call hSc110
 replace hS111 : St _ _ _ _ _ _ [.blk b1 (K58 v117 v119 v121 r105.2.2), .gs v121 c122 (csz api_Diag), .blk b101 [v5]] := hS111
 refine r_step rfl trivial (o_call hcl109 rfl rfl rfl) ?_
 refine xe 5 [(10, V r105.2.1), (14, V r105.1), (0, Pt b1 0), (1, V a1), (3, V a3), (12, Pt b101 0)] ?_
 refine sq ?_
 refine sr r69_6 ?_
 refine xq 1 [(43, V r105.1), (10, V r105.2.1), (0, Pt b1 0), (1, V a1), (3, V a3), (12, Pt b101 0)] ?_
 rcases ifs hm with ⟨hp125, hm⟩ | ⟨hp125, hm⟩
 refine r_step rfl trivial (o_cmp rfl rfl (c_geq_T hp125)) ?_
 refine xf [(44, .bool true), (10, V r105.2.1), (0, Pt b1 0), (1, V a1), (3, V a3), (12, Pt b101 0)] ?_
 refine cT 44 rfl ?_
 refine sr r69_7 ?_
 refine xe 3 [(11, .bool true), (10, V r105.2.1)] ?_
 refine rt ?_
 refine ⟨rfl, ?_⟩
 obtain rfl := si hm
 refine ⟨_, _, _, ResL.tmp rfl (ResL.tmp rfl (ResL.nil)), (hS111.takeN 2), ?_⟩
 exact ⟨v117, v119, v121, c122, rfl, rfl, q116, q118, q120⟩
 refine r_step rfl trivial (o_cmp rfl rfl (c_geq_F hp125)) ?_
 refine xf [(44, .bool false), (10, V r105.2.1), (0, Pt b1 0), (1, V a1), (3, V a3), (12, Pt b101 0)] ?_
 refine kF 44 rfl ?_
 refine sr r69_8 ?_
 refine xq 1 [(46, Pt b1 0), (0, Pt b1 0), (1, V a1), (3, V a3), (12, Pt b101 0)] ?_
 refine r_step rfl trivial (o_ldb (v := .agg #[v5]) hS111 (i := 2) rfl rfl (by kernel_rfl)) ?_
 refine xq 2 [(49, Pt b1 2), (47, .agg #[v5]), (0, Pt b1 0), (1, V a1), (3, V a3)] ?_
 refine r_ex1 rfl trivial (o_stb (vs := [v5]) (cells' := (K58 v117 v5 v121 r105.2.2)) (L' := [.blk b1 (K58 v117 v5 v121 r105.2.2), .gs v121 c122 (csz api_Diag), .blk b101 [v5]]) hS111 (i := 0) rfl rfl rfl rfl (by kernel_rfl) (one_cons (RS.one1 (q4.mono (hS104.zle.trans hZ114))) one_nil) rfl rfl rfl) ?_
 intro h126 hS127
 refine xf [(0, Pt b1 0), (1, V a1), (3, V a3)] ?_
 refine sr r69_9 ?_
 refine xq 5 [(54, V (w64 (a3 + 1))), (52, V a3), (51, V a1), (50, Pt b1 0), (3, V a3)] ?_
 obtain ⟨r128, hx129, hm⟩ := obind hm
 have hF135 : St _ _ _ _ _ _ ([.blk b1 (K58 v117 v5 v121 r105.2.2), .gs v121 c122 (csz api_Diag)] ++ [.blk b101 [v5]]) := ((hS127.front 1 rfl).front 1 rfl)
 obtain ⟨v130, h131, Z136, A138, hcl132, hSc133, v140, v142, c143, v145, c146, rfl, rfl, q139, q141, q144⟩ := flow_reader_wrong_ok F (a0 := (⟨r105.2.2.l_, r105.2.2.end_, a0.t_, r105.2.2.d_⟩ : flow_reader)) hF135.preL q116 (q4.mono (hS104.zle.trans hZ114)) q120 hx129
 have hZ137 := hSc133.zle
 have hS134 := hF135.call hSc133
 replace hS134 : St _ _ _ _ _ _ [.blk b1 (K58 v140 v142 v145 r128.2), .gs v142 c143 (csz api_Node), .gs v145 c146 (csz api_Diag), .blk b101 [v5]] := hS134
 refine r_step rfl trivial (o_call hcl132 rfl rfl rfl) ?_
 refine xf [(3, V a3)] ?_
 refine sr r69_10 ?_
 refine xe 4 [(11, .bool false), (10, V (w64 (a3 + 1)))] ?_
 refine rt ?_
 refine ⟨rfl, ?_⟩
 obtain ⟨Z147, hZ148, q149, hS150⟩ := (hS134.front 1 rfl).freeze q141
 replace hS150 : St _ _ _ _ _ _ [.blk b1 (K58 v140 v142 v145 r128.2), .gs v145 c146 (csz api_Diag), .blk b101 [v5]] := hS150
 obtain rfl := si hm
 refine ⟨_, _, _, ResL.tmp rfl (ResL.tmp rfl (ResL.nil)), (hS150.takeN 2), ?_⟩
 exact ⟨v140, v142, v145, c146, rfl, rfl, (q139.mono hZ148), q149, (q144.mono hZ148)⟩
 refine sr r69_2 ?_
 refine xq 1 [(20, V a2), (13, V a1), (12, Pt b16 0), (0, Pt b1 0), (1, V a1), (3, V a3), (4, V a4)] ?_
 rcases ifs ho54 with ⟨hp57, ho54⟩ | ⟨hp57, ho54⟩
 refine r_step rfl trivial (o_cmp rfl rfl (c_eql_T hp57)) ?_
 refine xf [(21, .bool true), (13, V a1), (12, Pt b16 0), (0, Pt b1 0), (1, V a1), (3, V a3), (4, V a4)] ?_
 refine cT 21 rfl ?_
 refine sr r69_3 ?_
 refine xq 4 [(25, V a3), (24, V a3), (23, V a1), (22, Pt b1 0), (13, V a1), (12, Pt b16 0), (0, Pt b1 0), (1, V a1), (3, V a3), (4, V a4)] ?_
 obtain ⟨r58, hx59, ho54⟩ := obind ho54
 have hF65 : St _ _ _ _ _ _ ([.blk b1 (K58 v3 v5 v7 a0), .gs v7 c8 (csz api_Diag)] ++ [.blk b16 [v5]]) := ((hS20.front 2 rfl).front 2 rfl)
 obtain ⟨v60, h61, Z66, A68, hcl62, hSc63, v70, v72, c73, c75, rfl, rfl, q69, q71, q74⟩ := flow_reader_add_ok F hF65.preL q2 q4 q6 hx59
 have hZ67 := hSc63.zle
 have hS64 := hF65.call hSc63
 replace hS64 : St _ _ _ _ _ _ [.blk b1 (K58 v70 v72 v7 r58.2), .gs v72 c73 (csz api_Node), .gs v7 c75 (csz api_Diag), .blk b16 [v5]] := hS64
 refine r_step rfl trivial (o_call hcl62 rfl rfl rfl) ?_
 refine xe 1 [(13, V r58.1), (12, Pt b16 0), (0, Pt b1 0), (1, V a1), (3, V a3), (4, V a4)] ?_
 refine rg r69_4 ?_
 refine xq 4 [(30, Pt b1 2), (13, V r58.1), (12, Pt b16 0), (0, Pt b1 0), (1, V a1), (3, V a3), (4, V a4)] ?_
 refine r_step rfl trivial (o_ldb (v := v72) hS64 (i := 0) rfl rfl (by kernel_rfl)) ?_
 refine xq 1 [(32, V r58.1), (31, v72), (13, V r58.1), (12, Pt b16 0), (0, Pt b1 0), (1, V a1), (3, V a3), (4, V a4)] ?_
 obtain ⟨hc76, ho54⟩ := chk ho54
 refine r_step rfl trivial (o_index rfl rfl (by kernel_rfl : slTy _ _ = some (csz api_Node)) (hS64.gbased (j := 1) rfl q71 (by omega)) hc76.1 hc76.2) ?_
 refine xq 1 [(34, .pointer (some (elemA v72 r58.1 (csz api_Node) 5))), (13, V r58.1), (12, Pt b16 0), (0, Pt b1 0), (1, V a1), (3, V a3), (4, V a4)] ?_
 obtain ⟨x77, hx78, ho54⟩ := obind ho54
 obtain ⟨cs79, hc80, he81, ht82⟩ := hS64.gel (j := 1) rfl q71 (i := r58.1) hx78
 obtain ⟨v83, q84, rfl⟩ := rc_api_Node hc80
 refine r_ex2 rfl trivial (o_ste (u' := (⟨x77.Kind, x77.From, x77.To, x77.Up, x77.Kids, true⟩ : api_Node)) (vs := [.bool true]) (cs' := [V x77.Kind, V x77.From, V x77.To, V x77.Up, v83, .bool true]) hS64 (m := 1) rfl q71 hx78 ht82 rfl rfl rfl (by kernel_rfl) rfl rfl rfl ⟨_, q84, rfl⟩) ?_
 rintro h85 c86 ⟨q88, hS87⟩
 replace hS87 : St _ _ _ _ _ _ [.blk b1 (K58 v70 v72 v7 r58.2), .gs v72 c86 (csz api_Node), .gs v7 c75 (csz api_Diag), .blk b16 [v5]] := hS87
 refine xf [(13, V r58.1), (12, Pt b16 0), (0, Pt b1 0), (1, V a1), (3, V a3), (4, V a4)] ?_
 obtain ⟨Z89, hZ90, q91, hS92⟩ := (hS87.front 1 rfl).freeze q88
 replace hS92 : St _ _ _ _ _ _ [.blk b1 (K58 v70 v72 v7 r58.2), .gs v7 c75 (csz api_Diag), .blk b16 [v5]] := hS92
 obtain rfl := si ho54
 exact ⟨_, (⟨r58.2.l_, r58.2.end_, (⟨r58.2.t_.Nodes.set r58.1.toNat (⟨x77.Kind, x77.From, x77.To, x77.Up, x77.Kids, true⟩ : api_Node)⟩ : arena_Tree), r58.2.d_⟩ : flow_reader), r58.1, v70, v72, c75, b16, rfl, (q69.mono hZ90), q91, (q74.mono hZ90), rfl, hS92⟩
 refine r_step rfl trivial (o_cmp rfl rfl (c_eql_F hp57)) ?_
 refine xf [(21, .bool false), (13, V a1), (12, Pt b16 0), (0, Pt b1 0), (1, V a1), (3, V a3), (4, V a4)] ?_
 refine kF 21 rfl ?_
 obtain rfl := si ho54
 exact ⟨_, a0, a1, v3, v5, c8, b16, rfl, q2, q4, q6, rfl, (((hS20.front 0 rfl).front 2 rfl).front 2 rfl)⟩

def r52_0 : List COp := [u 10 (.assign (ci 0)), u 11 (.assign (ci 0))]
def r52_1 : List COp := [u 12 (.assign (ci 9)), u 13 (.assign (ci 10))]
def r52_2 : List COp := [u 18 (mv 0), u 19 (mv 3), u 20 (cf 46 #[(t 18), (t 19)] #[55, 3]), u 21 (bc .eql 3 20 9 3)]
def r52_3 : List COp := [u 12 (.assign (ci 10)), u 13 (.assign (ci 11))]
def r52_4 : List COp := [u 22 (mv 0), u 23 (mv 1), u 24 (mv 12), u 25 (mv 2), u 26 (mv 3), u 27 (bc .add 3 26 1 3), u 28 (cf 47 #[(t 22), (t 23), (t 24), (t 25), (t 27)] #[55, 3, 3, 3, 3]), u 10 (sg 28)]
def r52_5 : List COp := [u 29 (mv 3), u 30 (bc .add 3 29 1 3), u 11 (sg 30)]
def r52_6 : List COp := [u 14 (.assign (.const (.bool false)))]
def r52_7 : List COp := [u 31 (mv 0), u 32 (mv 11), u 33 (cf 65 #[(t 31), (t 32)] #[55, 3]), u 15 (sg 33)]
def r52_8 : List COp := [u 34 (mv 0), u 35 (mv 15), u 36 (cf 46 #[(t 34), (t 35)] #[55, 3]), u 16 (sg 36)]
def r52_9 : List COp := [u 37 (mv 0), u 38 (mv 15), u 39 (cf 66 #[(t 37), (t 38)] #[55, 3]), u 17 (sg 39)]
def r52_10 : List COp := [u 41 (mv 0), u 42 (mv 10), u 43 (mv 12), u 44 (mv 15), u 45 (mv 4), u 46 (bc .sub 3 45 1 3), u 47 (cf 69 #[(t 41), (t 42), (t 43), (t 44), (t 46)] #[55, 3, 3, 3, 3]), u 40 (mv 47), u 48 (.extract (t 40) 0), u 49 (.extract (t 40) 1), u 11 (sg 48), u 14 (sg 49)]
def r52_11 : List COp := [u 51 (mv 16), u 52 (mv 13), u 53 (bo .eql 3 51 52 3), u 50 (sg 53)]
def r52_12 : List COp := [u 54 (mv 0), u 55 (mv 0), u 56 (nk 55), u 57 (fa 58 56 2), u 58 (ld 29 57), u 59 (mv 10), u 60 (mv 15), u 61 (bc .add 3 60 1 3), u 62 (cf 22 #[(t 58), (t 59), (t 61)] #[29, 3, 3]), u 63 (nk 54), u 64 (fa 58 63 2), o (.store 29 (t 64) (t 62))]
def r52_13 : List COp := [u 65 (mv 10), u 66 (mv 15), u 67 (bc .add 3 66 1 3), u 10 (sg 65), u 11 (sg 67)]
def r52_14 : List COp := [u 69 (mv 16), u 70 (bc .eql 3 69 0 3), u 71 (mv 70), gn 71 72 (mv 16), gn 71 73 (cf 62 #[(t 72)] #[3]), u 74 (pt 71 73), u 68 (sg 74)]
def r52_15 : List COp := [u 75 (mv 0), u 76 (mv 3), u 77 (mv 3), u 78 (bc .add 3 77 1 3), u 79 (cf 64 #[(t 75), (ci 9), (t 76), (t 78)] #[55, 3, 3, 3])]
def r52_16 : List COp := [u 80 (mv 0), u 81 (mv 0), u 82 (nk 81), u 83 (fa 58 82 2), u 84 (ld 29 83), u 85 (mv 10), u 86 (mv 11), u 87 (cf 22 #[(t 84), (t 85), (t 86)] #[29, 3, 3]), u 88 (nk 80), u 89 (fa 58 88 2), o (.store 29 (t 89) (t 87))]
def r52_17 : List COp := [u 90 (mv 10), u 91 (mv 11), u 10 (sg 90), u 11 (sg 91)]
def r52_18 : List COp := [u 93 (mv 16), u 94 (cf 61 #[(t 93)] #[3]), u 92 (sg 94)]
def r52_19 : List COp := [u 95 (mv 15), u 96 (bc .add 3 95 1 3), u 11 (sg 96)]
def r52_20 : List COp := [u 97 (mv 0), u 98 (mv 10), u 99 (mv 15), u 100 (mv 11), u 101 (cf 51 #[(t 97), (ci 8), (t 98), (t 99), (t 100)] #[55, 3, 3, 3, 3])]
def r52_21 : List COp := [u 103 (mv 16), u 104 (bc .eql 3 103 7 3), u 105 (mv 104), gt 105 106 (mv 14), u 107 (pf 105 106), u 102 (sg 107)]
def r52_22 : List COp := [u 108 (mv 15), u 109 (bc .add 3 108 1 3), u 11 (sg 109), u 14 (.assign (.const (.bool false)))]
def r52_23 : List COp := [u 111 (mv 16), u 112 (bc .eql 3 111 7 3), u 110 (sg 112)]
def r52_24 : List COp := [u 113 (mv 15), u 114 (bc .add 3 113 1 3), u 11 (sg 114)]
def r52_25 : List COp := [u 115 (mv 0), u 116 (mv 10), u 117 (mv 15), u 118 (mv 11), u 119 (cf 51 #[(t 115), (ci 8), (t 116), (t 117), (t 118)] #[55, 3, 3, 3, 3])]
def r52_26 : List COp := [u 121 (mv 14), u 120 (sg 121)]
def r52_27 : List COp := [u 122 (mv 0), u 123 (mv 15), u 124 (cf 67 #[(t 122), (t 123)] #[55, 3]), u 11 (sg 124)]
def r52_28 : List COp := [u 125 (mv 0), u 126 (mv 10), u 127 (mv 15), u 128 (mv 11), u 129 (cf 51 #[(t 125), (ci 8), (t 126), (t 127), (t 128)] #[55, 3, 3, 3, 3])]
def r52_29 : List COp := [u 131 (mv 17), u 132 (bc .geq 3 131 0 3), u 130 (sg 132)]
def r52_30 : List COp := [u 133 (mv 0), u 134 (mv 10), u 135 (mv 15), u 136 (mv 17), u 137 (mv 4), u 138 (bc .sub 3 137 1 3), u 139 (cf 68 #[(t 133), (t 134), (t 135), (t 136), (t 138)] #[55, 3, 3, 3, 3]), u 11 (sg 139), u 14 (.assign (.const (.bool true)))]
def flow_reader_collection_l0 (F : Nat) (rec_flow_reader_value : flow_reader → Int → Int → Int → Option (Int × Int × flow_reader)) (a0 : flow_reader) (a1 : Int) (a2 : Int) (a3 : Int) (a4 : Int) : Nat → flow_reader → Int → Int → Int → Int → Bool → Option (Int × Int × flow_reader)
 | 0, _, _, _, _, _, _ => none
 | n + 1, x762, x770, x771, x772, x773, x774 =>
  (flow_reader_past F x762 x771).bind fun r778 =>
  (flow_reader_kind F x762 r778).bind fun r789 =>
  (flow_reader_key F x762 r778).bind fun r800 =>
  ((if r789 = x773 then
    (arena_Grow F x762.t_ x770 (w64 (r778 + 1))).bind fun r1127 =>
    some (.inr (x770, w64 (r778 + 1), (⟨x762.l_, x762.end_, r1127, x762.d_⟩ : flow_reader)))
   else
    if r789 = (0 : Int) then
     (flow_reader_tell F x762 9 a3 (w64 (a3 + 1))).bind fun r1152 =>
     (arena_Grow F r1152.t_ x770 x771).bind fun r1170 =>
     some (.inr (x770, x771, (⟨r1152.l_, r1152.end_, r1170, r1152.d_⟩ : flow_reader)))
    else
     (flow_mark F r789).bind fun r1186 =>
     if r1186 = true then
      (flow_reader_tell F x762 9 a3 (w64 (a3 + 1))).bind fun r1194 =>
      (arena_Grow F r1194.t_ x770 x771).bind fun r1212 =>
      some (.inr (x770, x771, (⟨r1194.l_, r1194.end_, r1212, r1194.d_⟩ : flow_reader)))
     else
      (flow_ends F r789).bind fun r1228 =>
      if r1228 = true then
       (flow_reader_wrong F x762 8 x770 r778 (w64 (r778 + 1))).bind fun r1236 =>
       some (.inl (r1236.2, w64 (r778 + 1), x774))
      else
       if r789 = (7 : Int) then
        if x774 = true then
         some (.inl (x762, w64 (r778 + 1), false))
        else
         if r789 = (7 : Int) then
          (flow_reader_wrong F x762 8 x770 r778 (w64 (r778 + 1))).bind fun r1264 =>
          some (.inl (r1264.2, w64 (r778 + 1), x774))
         else
          if x774 = true then
           (flow_reader_stray F x762 r778).bind fun r1288 =>
           (flow_reader_wrong F x762 8 x770 r778 r1288).bind fun r1299 =>
           some (.inl (r1299.2, r1288, x774))
          else
           if (0 : Int) ≤ r800 then
            (flow_reader_pair F rec_flow_reader_value x762 x770 r778 r800 (w64 (a4 - 1))).bind fun r1324 =>
            some (.inl (r1324.2, r1324.1, true))
           else
            (flow_reader_one F rec_flow_reader_value x762 x770 x772 r778 (w64 (a4 - 1))).bind fun r1342 =>
            some (.inl (r1342.2.2, r1342.1, r1342.2.1))
       else
        if r789 = (7 : Int) then
         (flow_reader_wrong F x762 8 x770 r778 (w64 (r778 + 1))).bind fun r1362 =>
         some (.inl (r1362.2, w64 (r778 + 1), x774))
        else
         if x774 = true then
          (flow_reader_stray F x762 r778).bind fun r1386 =>
          (flow_reader_wrong F x762 8 x770 r778 r1386).bind fun r1397 =>
          some (.inl (r1397.2, r1386, x774))
         else
          if (0 : Int) ≤ r800 then
           (flow_reader_pair F rec_flow_reader_value x762 x770 r778 r800 (w64 (a4 - 1))).bind fun r1422 =>
           some (.inl (r1422.2, r1422.1, true))
          else
           (flow_reader_one F rec_flow_reader_value x762 x770 x772 r778 (w64 (a4 - 1))).bind fun r1440 =>
           some (.inl (r1440.2.2, r1440.1, r1440.2.1))) : Option (Sum (flow_reader × Int × Bool) (Int × Int × flow_reader))).bind fun o => match o with
   | .inl (x1459, x1467, x1468) => flow_reader_collection_l0 F rec_flow_reader_value a0 a1 a2 a3 a4 n x1459 x770 x1467 x772 x773 x1468
   | .inr y => some y
def flow_reader_collection (F : Nat) (rec_flow_reader_value : flow_reader → Int → Int → Int → Option (Int × Int × flow_reader)) (a0 : flow_reader) (a1 : Int) (a2 : Int) (a3 : Int) (a4 : Int) : Option (Int × Int × flow_reader) :=
 (((flow_reader_kind F a0 a3).bind fun r31 =>
  if r31 = (9 : Int) then
   some (10, 11)
  else
   some (9, 10)) : Option (Int × Int)).bind fun o => match o with
  | (x44, x45) => (flow_reader_add F a0 a1 x44 a2 (w64 (a3 + 1))).bind fun r48 =>
  ((flow_reader_collection_l0 F rec_flow_reader_value a0 a1 a2 a3 a4 F r48.2 r48.1 (w64 (a3 + 1)) x44 x45 false) : Option (Int × Int × flow_reader)).bind fun o => match o with
   | y => some y
theorem flow_reader_collection_ok (F : Nat) (rec_flow_reader_value : flow_reader → Int → Int → Int → Option (Int × Int × flow_reader)) (hrec_flow_reader_value : flow_reader_value_C rec_flow_reader_value) {h : AH} {Z : Zn} {a0 : flow_reader} {a1 : Int} {a2 : Int} {a3 : Int} {a4 : Int} {b1 : Nat} {v3 : Value} {v5 : Value} {v7 : Value} {c8 : List Value} (hP : Pre Z h [.blk b1 (K58 v3 v5 v7 a0), .gs v7 c8 (csz api_Diag)]) (q2 : RS (α := api_Token) Z v3 a0.l_) (q4 : RS (α := api_Node) Z v5 a0.t_.Nodes) (q6 : RCs (α := api_Diag) Z c8 a0.d_) {r : Int × Int × flow_reader} (hm : flow_reader_collection F rec_flow_reader_value a0 a1 a2 a3 a4 = some r) :
  ∃ v h' Z' A', callI Try.prog 52 [Pt b1 0, V a1, V a2, V a3, V a4] h = some (v, h') ∧ St h (idsL [.blk b1 (K58 v3 v5 v7 a0), .gs v7 c8 (csz api_Diag)]) Z (0, 0) Z' h' A' ∧ ∃ v10 : Value, ∃ v12 : Value, ∃ c13 : List Value, ∃ v15 : Value, ∃ c16 : List Value, .tuple #[V r.1, V r.2.1] = v ∧ A' = [.blk b1 (K58 v10 v12 v15 r.2.2), .gs v12 c13 (csz api_Node), .gs v15 c16 (csz api_Diag)] ∧ RS (α := api_Token) Z' v10 r.2.2.l_ ∧ RCs (α := api_Node) Z' c13 r.2.2.t_.Nodes ∧ RCs (α := api_Diag) Z' c16 r.2.2.d_ := by
 refine fn_intro (A := [.blk b1 (K58 v3 v5 v7 a0), .gs v7 c8 (csz api_Diag)]) (Q := fun v Z' A' => ∃ v10 : Value, ∃ v12 : Value, ∃ c13 : List Value, ∃ v15 : Value, ∃ c16 : List Value, .tuple #[V r.1, V r.2.1] = v ∧ A' = [.blk b1 (K58 v10 v12 v15 r.2.2), .gs v12 c13 (csz api_Node), .gs v15 c16 (csz api_Diag)] ∧ RS (α := api_Token) Z' v10 r.2.2.l_ ∧ RCs (α := api_Node) Z' c13 r.2.2.t_.Nodes ∧ RCs (α := api_Diag) Z' c16 r.2.2.d_) Try.func52 rfl rfl (by kernel_rfl) hP ?_
 intro hs hS
 unfold flow_reader_collection at hm
 refine sr r52_0 ?_
 refine xe 2 [(0, Pt b1 0), (1, V a1), (2, V a2), (3, V a3), (4, V a4)] ?_
 refine W_scopeJ (by kernel_rfl) ?_
 refine sr r52_1 ?_
 refine xe 2 [(13, V 10), (12, V 9), (0, Pt b1 0), (1, V a1), (2, V a2), (3, V a3), (4, V a4)] ?_
 refine sq ?_
 obtain ⟨o30, ho29, hm⟩ := obind hm
 refine W_join [0, 1, 2, 3, 4, 12, 13] (fun l h => ∃ Z43 : Zn, ∃ x44 : Int, ∃ x45 : Int, (x44, x45) = o30 ∧ l = [(0, Pt b1 0), (1, V a1), (2, V a2), (3, V a3), (4, V a4), (12, V x44), (13, V x45)] ∧ St hs (idsL [.blk b1 (K58 v3 v5 v7 a0), .gs v7 c8 (csz api_Diag)]) Z (0, 0) Z43 h [.blk b1 (K58 v3 v5 v7 a0), .gs v7 c8 (csz api_Diag)]) ?_ ?_
 rintro l h46 ⟨Z43, x44, x45, rfl, rfl, hS47⟩
 try dsimp only at hm
 refine sr r52_4 ?_
 refine xq 6 [(27, V (w64 (a3 + 1))), (25, V a2), (24, V x44), (23, V a1), (22, Pt b1 0), (0, Pt b1 0), (3, V a3), (4, V a4), (12, V x44), (13, V x45)] ?_
 obtain ⟨r48, hx49, hm⟩ := obind hm
 have hF55 : St _ _ _ _ _ _ ([.blk b1 (K58 v3 v5 v7 a0), .gs v7 c8 (csz api_Diag)] ++ []) := ((hS47.front 1 rfl).front 1 rfl)
 obtain ⟨v50, h51, Z56, A58, hcl52, hSc53, v60, v62, c63, c65, rfl, rfl, q59, q61, q64⟩ := flow_reader_add_ok F hF55.preL (q2.mono hS47.zle) (q4.mono hS47.zle) (q6.mono hS47.zle) hx49
 have hZ57 := hSc53.zle
 have hS54 := hF55.call hSc53
 replace hS54 : St _ _ _ _ _ _ [.blk b1 (K58 v60 v62 v7 r48.2), .gs v62 c63 (csz api_Node), .gs v7 c65 (csz api_Diag)] := hS54
 refine r_step rfl trivial (o_call hcl52 rfl rfl rfl) ?_
 refine xe 1 [(10, V r48.1), (0, Pt b1 0), (3, V a3), (4, V a4), (12, V x44), (13, V x45)] ?_
 refine sr r52_5 ?_
 refine xe 3 [(11, V (w64 (a3 + 1))), (10, V r48.1), (0, Pt b1 0), (3, V a3), (4, V a4), (12, V x44), (13, V x45)] ?_
 refine sr r52_6 ?_
 refine xe 1 [(14, .bool false), (11, V (w64 (a3 + 1))), (10, V r48.1), (0, Pt b1 0), (3, V a3), (4, V a4), (12, V x44), (13, V x45)] ?_
 obtain ⟨o756, ho755, hm⟩ := obind hm
 obtain ⟨Z757, hZ758, q759, hS760⟩ := (hS54.front 1 rfl).freeze q61
 replace hS760 : St _ _ _ _ _ _ [.blk b1 (K58 v60 v62 v7 r48.2), .gs v7 c65 (csz api_Diag)] := hS760
 refine W_labelLoop (i := 0) [0, 3, 4, 10, 11, 12, 13, 14] (fun n l h => ∃ Z761 : Zn, ∃ x762 : flow_reader, ∃ x770 : Int, ∃ x771 : Int, ∃ x772 : Int, ∃ x773 : Int, ∃ x774 : Bool, ∃ v764 : Value, ∃ v766 : Value, ∃ v768 : Value, ∃ c769 : List Value, flow_reader_collection_l0 F rec_flow_reader_value a0 a1 a2 a3 a4 n x762 x770 x771 x772 x773 x774 = some o756 ∧ RS (α := api_Token) Z761 v764 x762.l_ ∧ RS (α := api_Node) Z761 v766 x762.t_.Nodes ∧ RCs (α := api_Diag) Z761 c769 x762.d_ ∧ l = [(0, Pt b1 0), (3, V a3), (4, V a4), (10, V x770), (11, V x771), (12, V x772), (13, V x773), (14, .bool x774)] ∧ St hs (idsL [.blk b1 (K58 v3 v5 v7 a0), .gs v7 c8 (csz api_Diag)]) Z (0, 0) Z761 h [.blk b1 (K58 v764 v766 v768 x762), .gs v768 c769 (csz api_Diag)]) (m := F) (by kernel_rfl) (by kernel_rfl) ⟨_, r48.2, r48.1, w64 (a3 + 1), x44, x45, false, v60, v62, v7, c65, ho755, (q59.mono hZ758), q759, (q64.mono hZ758), rfl, hS760⟩ ?_
 rintro n777 l h775 ⟨Z761, x762, x770, x771, x772, x773, x774, v764, v766, v768, c769, ho755, q763, q765, q767, rfl, hS776⟩
 rcases n777 with _ | n777
 cases (show none = some o756 from ho755)
 rw [flow_reader_collection_l0] at ho755
 refine sr r52_7 ?_
 refine xq 2 [(32, V x771), (31, Pt b1 0), (0, Pt b1 0), (3, V a3), (4, V a4), (10, V x770), (11, V x771), (12, V x772), (13, V x773), (14, .bool x774)] ?_
 obtain ⟨r778, hx779, ho755⟩ := obind ho755
 have hF785 : St _ _ _ _ _ _ ([.blk b1 (K58 v764 v766 v768 x762), .gs v768 c769 (csz api_Diag)] ++ []) := ((hS776.front 1 rfl).front 1 rfl)
 obtain ⟨v780, h781, Z786, A788, hcl782, hSc783, rfl, rfl⟩ := flow_reader_past_ok F hF785.preL q763 q765 q767 hx779
 have hZ787 := hSc783.zle
 have hS784 := hF785.call hSc783
 replace hS784 : St _ _ _ _ _ _ [.blk b1 (K58 v764 v766 v768 x762), .gs v768 c769 (csz api_Diag)] := hS784
 refine r_step rfl trivial (o_call hcl782 rfl rfl rfl) ?_
 refine xe 1 [(15, V r778), (0, Pt b1 0), (3, V a3), (4, V a4), (10, V x770), (11, V x771), (12, V x772), (13, V x773), (14, .bool x774)] ?_
 refine sr r52_8 ?_
 refine xq 2 [(35, V r778), (34, Pt b1 0), (15, V r778), (0, Pt b1 0), (3, V a3), (4, V a4), (10, V x770), (11, V x771), (12, V x772), (13, V x773), (14, .bool x774)] ?_
 obtain ⟨r789, hx790, ho755⟩ := obind ho755
 have hF796 : St _ _ _ _ _ _ ([.blk b1 (K58 v764 v766 v768 x762), .gs v768 c769 (csz api_Diag)] ++ []) := ((hS784.front 1 rfl).front 1 rfl)
 obtain ⟨v791, h792, Z797, A799, hcl793, hSc794, rfl, rfl⟩ := flow_reader_kind_ok F hF796.preL (q763.mono hZ787) (q765.mono hZ787) (q767.mono hZ787) hx790
 have hZ798 := hSc794.zle
 have hS795 := hF796.call hSc794
 replace hS795 : St _ _ _ _ _ _ [.blk b1 (K58 v764 v766 v768 x762), .gs v768 c769 (csz api_Diag)] := hS795
 refine r_step rfl trivial (o_call hcl793 rfl rfl rfl) ?_
 refine xe 1 [(16, V r789), (15, V r778), (0, Pt b1 0), (3, V a3), (4, V a4), (10, V x770), (11, V x771), (12, V x772), (13, V x773), (14, .bool x774)] ?_
 refine sr r52_9 ?_
 refine xq 2 [(38, V r778), (37, Pt b1 0), (16, V r789), (15, V r778), (0, Pt b1 0), (3, V a3), (4, V a4), (10, V x770), (11, V x771), (12, V x772), (13, V x773), (14, .bool x774)] ?_
 obtain ⟨r800, hx801, ho755⟩ := obind ho755
 have hF807 : St _ _ _ _ _ _ ([.blk b1 (K58 v764 v766 v768 x762), .gs v768 c769 (csz api_Diag)] ++ []) := ((hS795.front 1 rfl).front 1 rfl)
 obtain ⟨v802, h803, Z808, A810, hcl804, hSc805, rfl, rfl⟩ := flow_reader_key_ok F hF807.preL (q763.mono (hZ787.trans hZ798)) (q765.mono (hZ787.trans hZ798)) (q767.mono (hZ787.trans hZ798)) hx801
 have hZ809 := hSc805.zle
 have hS806 := hF807.call hSc805
 replace hS806 : St _ _ _ _ _ _ [.blk b1 (K58 v764 v766 v768 x762), .gs v768 c769 (csz api_Diag)] := hS806
 refine r_step rfl trivial (o_call hcl804 rfl rfl rfl) ?_
 refine xe 1 [(17, V r800), (16, V r789), (15, V r778), (0, Pt b1 0), (3, V a3), (4, V a4), (10, V x770), (11, V x771), (12, V x772), (13, V x773), (14, .bool x774)] ?_
 refine sq ?_
 refine bk 0 ?_
 obtain ⟨o1125, ho1124, ho755⟩ := obind ho755
 refine W_seqJoin0 [0, 3, 4, 10, 11, 12, 13, 14] (fun l h => ∃ Z1458 : Zn, ∃ x1459 : flow_reader, ∃ x1467 : Int, ∃ x1468 : Bool, ∃ v1461 : Value, ∃ v1463 : Value, ∃ v1465 : Value, ∃ c1466 : List Value, .inl (x1459, x1467, x1468) = o1125 ∧ RS (α := api_Token) Z1458 v1461 x1459.l_ ∧ RS (α := api_Node) Z1458 v1463 x1459.t_.Nodes ∧ RCs (α := api_Diag) Z1458 c1466 x1459.d_ ∧ l = [(0, Pt b1 0), (3, V a3), (4, V a4), (10, V x770), (11, V x1467), (12, V x772), (13, V x773), (14, .bool x1468)] ∧ St hs (idsL [.blk b1 (K58 v3 v5 v7 a0), .gs v7 c8 (csz api_Diag)]) Z (0, 0) Z1458 h [.blk b1 (K58 v1461 v1463 v1465 x1459), .gs v1465 c1466 (csz api_Diag)]) (by kernel_rfl) ?_ ?_
 rintro l h1469 ⟨Z1458, x1459, x1467, x1468, v1461, v1463, v1465, c1466, rfl, q1460, q1462, q1464, rfl, hS1470⟩
 try dsimp only at ho755
 refine W_goto (i := 0) (by kernel_rfl) ?_
 refine scX_hit ?_
 exact ⟨n777, Nat.lt_succ_self _, ⟨_, x1459, x770, x1467, x772, x773, x1468, v1461, v1463, v1465, c1466, ho755, q1460, q1462, q1464, rfl, hS1470⟩⟩
 refine rg r52_11 ?_
 refine xq 2 [(52, V x773), (51, V r789), (17, V r800), (16, V r789), (15, V r778), (0, Pt b1 0), (3, V a3), (4, V a4), (10, V x770), (11, V x771), (12, V x772), (13, V x773), (14, .bool x774)] ?_
 rcases ifs ho1124 with ⟨hp1126, ho1124⟩ | ⟨hp1126, ho1124⟩
 refine r_step rfl trivial (o_cmp rfl rfl (c_eql_T hp1126)) ?_
 refine xe 1 [(50, .bool true), (17, V r800), (16, V r789), (15, V r778), (0, Pt b1 0), (3, V a3), (4, V a4), (10, V x770), (11, V x771), (12, V x772), (13, V x773), (14, .bool x774)] ?_
 refine cT 50 rfl ?_
 refine sr r52_12 ?_
 refine xq 4 [(57, Pt b1 2), (54, Pt b1 0), (15, V r778), (10, V x770)] ?_
 refine r_step rfl trivial (o_ldb (v := .agg #[v766]) hS806 (i := 0) rfl rfl (by kernel_rfl)) ?_
 refine xq 3 [(61, V (w64 (r778 + 1))), (59, V x770), (58, .agg #[v766]), (54, Pt b1 0), (15, V r778), (10, V x770)] ?_
 obtain ⟨r1127, hx1128, ho1124⟩ := obind ho1124
 have hSr1134 : St _ _ _ _ _ _ ([] ++ [.blk b1 (K58 v764 v766 v768 x762), .gs v768 c769 (csz api_Diag)]) := hS806
 obtain ⟨v1129, h1130, Z1135, A1137, hcl1131, hSc1132, v1139, c1140, rfl, rfl, q1138⟩ := arena_Grow_ok F hSr1134.preL (q765.mono (hZ787.trans (hZ798.trans hZ809))) hx1128
 have hS1133 := hSr1134.call hSc1132
 have hZ1136 := hSc1132.zle
 replace hS1133 : St _ _ _ _ _ _ [.gs v1139 c1140 (csz api_Node), .blk b1 (K58 v764 v766 v768 x762), .gs v768 c769 (csz api_Diag)] := hS1133
 refine r_step rfl trivial (o_call hcl1131 rfl rfl rfl) ?_
 refine xq 2 [(64, Pt b1 2), (62, .agg #[v1139]), (15, V r778), (10, V x770)] ?_
 refine r_ex1 rfl trivial (o_stb (vs := [v1139]) (cells' := (K58 v764 v1139 v768 x762)) (L' := [.gs v1139 c1140 (csz api_Node), .blk b1 (K58 v764 v1139 v768 x762), .gs v768 c769 (csz api_Diag)]) hS1133 (i := 1) rfl rfl rfl rfl (by kernel_rfl) (one_cons (hS1133.gone1 (i := 0) rfl) one_nil) rfl rfl rfl) ?_
 intro h1141 hS1142
 refine xf [(15, V r778), (10, V x770)] ?_
 refine sr r52_13 ?_
 refine xe 5 [(11, V (w64 (r778 + 1))), (10, V x770)] ?_
 refine rt ?_
 refine blkX_ret ?_
 refine scX_ret ?_
 refine ⟨rfl, ?_⟩
 obtain rfl := si ho1124
 obtain rfl := si ho755
 obtain rfl := si hm
 refine ⟨_, _, _, ResL.tmp rfl (ResL.tmp rfl (ResL.nil)), (((hS1142.front 2 rfl).front 1 rfl).front 2 rfl), ?_⟩
 exact ⟨v764, v1139, c1140, v768, c769, rfl, rfl, (q763.mono (hZ787.trans (hZ798.trans (hZ809.trans hZ1136)))), q1138, (q767.mono (hZ787.trans (hZ798.trans (hZ809.trans hZ1136))))⟩
 refine r_step rfl trivial (o_cmp rfl rfl (c_eql_F hp1126)) ?_
 refine xe 1 [(50, .bool false), (17, V r800), (16, V r789), (15, V r778), (0, Pt b1 0), (3, V a3), (4, V a4), (10, V x770), (11, V x771), (12, V x772), (13, V x773), (14, .bool x774)] ?_
 refine cF 50 rfl ?_
 refine sr r52_14 ?_
 refine xq 1 [(69, V r789), (17, V r800), (16, V r789), (15, V r778), (0, Pt b1 0), (3, V a3), (4, V a4), (10, V x770), (11, V x771), (12, V x772), (13, V x773), (14, .bool x774)] ?_
 rcases ifs ho1124 with ⟨hp1151, ho1124⟩ | ⟨hp1151, ho1124⟩
 refine r_step rfl trivial (o_cmp rfl rfl (c_eql_T hp1151)) ?_
 refine xe 5 [(68, .bool true), (17, V r800), (16, V r789), (15, V r778), (0, Pt b1 0), (3, V a3), (4, V a4), (10, V x770), (11, V x771), (12, V x772), (13, V x773), (14, .bool x774)] ?_
 refine cT 68 rfl ?_
 refine sr r52_15 ?_
 refine xq 4 [(78, V (w64 (a3 + 1))), (76, V a3), (75, Pt b1 0), (0, Pt b1 0), (10, V x770), (11, V x771)] ?_
 obtain ⟨r1152, hx1153, ho1124⟩ := obind ho1124
 have hF1159 : St _ _ _ _ _ _ ([.blk b1 (K58 v764 v766 v768 x762), .gs v768 c769 (csz api_Diag)] ++ []) := ((hS806.front 1 rfl).front 1 rfl)
 obtain ⟨v1154, h1155, Z1160, A1162, hcl1156, hSc1157, v1164, v1166, v1168, c1169, rfl, rfl, q1163, q1165, q1167⟩ := flow_reader_tell_ok F hF1159.preL (q763.mono (hZ787.trans (hZ798.trans hZ809))) (q765.mono (hZ787.trans (hZ798.trans hZ809))) (q767.mono (hZ787.trans (hZ798.trans hZ809))) hx1153
 have hZ1161 := hSc1157.zle
 have hS1158 := hF1159.call hSc1157
 replace hS1158 : St _ _ _ _ _ _ [.blk b1 (K58 v1164 v1166 v1168 r1152), .gs v1168 c1169 (csz api_Diag)] := hS1158
 refine r_step rfl trivial (o_call hcl1156 rfl rfl rfl) ?_
 refine xf [(0, Pt b1 0), (10, V x770), (11, V x771)] ?_
 refine sr r52_16 ?_
 refine xq 4 [(83, Pt b1 2), (80, Pt b1 0), (10, V x770), (11, V x771)] ?_
 refine r_step rfl trivial (o_ldb (v := .agg #[v1166]) hS1158 (i := 0) rfl rfl (by kernel_rfl)) ?_
 refine xq 2 [(86, V x771), (85, V x770), (84, .agg #[v1166]), (80, Pt b1 0), (10, V x770), (11, V x771)] ?_
 obtain ⟨r1170, hx1171, ho1124⟩ := obind ho1124
 have hSr1177 : St _ _ _ _ _ _ ([] ++ [.blk b1 (K58 v1164 v1166 v1168 r1152), .gs v1168 c1169 (csz api_Diag)]) := hS1158
 obtain ⟨v1172, h1173, Z1178, A1180, hcl1174, hSc1175, v1182, c1183, rfl, rfl, q1181⟩ := arena_Grow_ok F hSr1177.preL q1165 hx1171
 have hS1176 := hSr1177.call hSc1175
 have hZ1179 := hSc1175.zle
 replace hS1176 : St _ _ _ _ _ _ [.gs v1182 c1183 (csz api_Node), .blk b1 (K58 v1164 v1166 v1168 r1152), .gs v1168 c1169 (csz api_Diag)] := hS1176
 refine r_step rfl trivial (o_call hcl1174 rfl rfl rfl) ?_
 refine xq 2 [(89, Pt b1 2), (87, .agg #[v1182]), (10, V x770), (11, V x771)] ?_
 refine r_ex1 rfl trivial (o_stb (vs := [v1182]) (cells' := (K58 v1164 v1182 v1168 r1152)) (L' := [.gs v1182 c1183 (csz api_Node), .blk b1 (K58 v1164 v1182 v1168 r1152), .gs v1168 c1169 (csz api_Diag)]) hS1176 (i := 1) rfl rfl rfl rfl (by kernel_rfl) (one_cons (hS1176.gone1 (i := 0) rfl) one_nil) rfl rfl rfl) ?_
 intro h1184 hS1185
 refine xf [(10, V x770), (11, V x771)] ?_
 refine sr r52_17 ?_
 refine xe 4 [(11, V x771), (10, V x770)] ?_
 refine rt ?_
 refine blkX_ret ?_
 refine scX_ret ?_
 refine ⟨rfl, ?_⟩
 obtain rfl := si ho1124
 obtain rfl := si ho755
 obtain rfl := si hm
 refine ⟨_, _, _, ResL.tmp rfl (ResL.tmp rfl (ResL.nil)), (((hS1185.front 2 rfl).front 1 rfl).front 2 rfl), ?_⟩
 exact ⟨v1164, v1182, c1183, v1168, c1169, rfl, rfl, (q1163.mono hZ1179), q1181, (q1167.mono hZ1179)⟩
 refine r_step rfl trivial (o_cmp rfl rfl (c_eql_F hp1151)) ?_
 refine xq 2 [(72, V r789), (71, .bool false), (17, V r800), (16, V r789), (15, V r778), (0, Pt b1 0), (3, V a3), (4, V a4), (10, V x770), (11, V x771), (12, V x772), (13, V x773), (14, .bool x774)] ?_
 obtain ⟨r1186, hx1187, ho1124⟩ := obind ho1124
 obtain ⟨v1188, h1189, hcl1190, hSc1191, rfl⟩ := flow_mark_ok F hS806.inv  hx1187
 have hS1192 := St.call (A := []) (B := [.blk b1 (K58 v764 v766 v768 x762), .gs v768 c769 (csz api_Diag)]) hS806 hSc1191
 replace hS1192 : St _ _ _ _ _ _ [.blk b1 (K58 v764 v766 v768 x762), .gs v768 c769 (csz api_Diag)] := hS1192
 refine r_step rfl rfl (o_call hcl1190 rfl rfl rfl) ?_
 refine xe 2 [(68, .bool r1186), (17, V r800), (16, V r789), (15, V r778), (0, Pt b1 0), (3, V a3), (4, V a4), (10, V x770), (11, V x771), (12, V x772), (13, V x773), (14, .bool x774)] ?_
 rcases ifs ho1124 with ⟨hp1193, ho1124⟩ | ⟨hp1193, ho1124⟩
 refine W_condT (x := .tmp 68) (by kernel_rfl) rfl hp1193 ?_
 refine sr r52_15 ?_
 refine xq 4 [(78, V (w64 (a3 + 1))), (76, V a3), (75, Pt b1 0), (0, Pt b1 0), (10, V x770), (11, V x771)] ?_
 obtain ⟨r1194, hx1195, ho1124⟩ := obind ho1124
 have hF1201 : St _ _ _ _ _ _ ([.blk b1 (K58 v764 v766 v768 x762), .gs v768 c769 (csz api_Diag)] ++ []) := ((hS1192.front 1 rfl).front 1 rfl)
 obtain ⟨v1196, h1197, Z1202, A1204, hcl1198, hSc1199, v1206, v1208, v1210, c1211, rfl, rfl, q1205, q1207, q1209⟩ := flow_reader_tell_ok F hF1201.preL (q763.mono (hZ787.trans (hZ798.trans hZ809))) (q765.mono (hZ787.trans (hZ798.trans hZ809))) (q767.mono (hZ787.trans (hZ798.trans hZ809))) hx1195
 have hZ1203 := hSc1199.zle
 have hS1200 := hF1201.call hSc1199
 replace hS1200 : St _ _ _ _ _ _ [.blk b1 (K58 v1206 v1208 v1210 r1194), .gs v1210 c1211 (csz api_Diag)] := hS1200
 refine r_step rfl trivial (o_call hcl1198 rfl rfl rfl) ?_
 refine xf [(0, Pt b1 0), (10, V x770), (11, V x771)] ?_
 refine sr r52_16 ?_
 refine xq 4 [(83, Pt b1 2), (80, Pt b1 0), (10, V x770), (11, V x771)] ?_
 refine r_step rfl trivial (o_ldb (v := .agg #[v1208]) hS1200 (i := 0) rfl rfl (by kernel_rfl)) ?_
 refine xq 2 [(86, V x771), (85, V x770), (84, .agg #[v1208]), (80, Pt b1 0), (10, V x770), (11, V x771)] ?_
 obtain ⟨r1212, hx1213, ho1124⟩ := obind ho1124
 have hSr1219 : St _ _ _ _ _ _ ([] ++ [.blk b1 (K58 v1206 v1208 v1210 r1194), .gs v1210 c1211 (csz api_Diag)]) := hS1200
 obtain ⟨v1214, h1215, Z1220, A1222, hcl1216, hSc1217, v1224, c1225, rfl, rfl, q1223⟩ := arena_Grow_ok F hSr1219.preL q1207 hx1213
 have hS1218 := hSr1219.call hSc1217
 have hZ1221 := hSc1217.zle
 replace hS1218 : St _ _ _ _ _ _ [.gs v1224 c1225 (csz api_Node), .blk b1 (K58 v1206 v1208 v1210 r1194), .gs v1210 c1211 (csz api_Diag)] := hS1218
 refine r_step rfl trivial (o_call hcl1216 rfl rfl rfl) ?_
 refine xq 2 [(89, Pt b1 2), (87, .agg #[v1224]), (10, V x770), (11, V x771)] ?_
 refine r_ex1 rfl trivial (o_stb (vs := [v1224]) (cells' := (K58 v1206 v1224 v1210 r1194)) (L' := [.gs v1224 c1225 (csz api_Node), .blk b1 (K58 v1206 v1224 v1210 r1194), .gs v1210 c1211 (csz api_Diag)]) hS1218 (i := 1) rfl rfl rfl rfl (by kernel_rfl) (one_cons (hS1218.gone1 (i := 0) rfl) one_nil) rfl rfl rfl) ?_
 intro h1226 hS1227
 refine xf [(10, V x770), (11, V x771)] ?_
 refine sr r52_17 ?_
 refine xe 4 [(11, V x771), (10, V x770)] ?_
 refine rt ?_
 refine blkX_ret ?_
 refine scX_ret ?_
 refine ⟨rfl, ?_⟩
 obtain rfl := si ho1124
 obtain rfl := si ho755
 obtain rfl := si hm
 refine ⟨_, _, _, ResL.tmp rfl (ResL.tmp rfl (ResL.nil)), (((hS1227.front 2 rfl).front 1 rfl).front 2 rfl), ?_⟩
 exact ⟨v1206, v1224, c1225, v1210, c1211, rfl, rfl, (q1205.mono hZ1221), q1223, (q1209.mono hZ1221)⟩
 refine W_condF (x := .tmp 68) (by kernel_rfl) rfl (Bool.eq_false_iff.2 hp1193) ?_
 refine sr r52_18 ?_
 refine xq 1 [(93, V r789), (17, V r800), (16, V r789), (15, V r778), (0, Pt b1 0), (3, V a3), (4, V a4), (10, V x770), (12, V x772), (13, V x773), (14, .bool x774)] ?_
 obtain ⟨r1228, hx1229, ho1124⟩ := obind ho1124
 obtain ⟨v1230, h1231, hcl1232, hSc1233, rfl⟩ := flow_ends_ok F hS1192.inv  hx1229
 have hS1234 := St.call (A := []) (B := [.blk b1 (K58 v764 v766 v768 x762), .gs v768 c769 (csz api_Diag)]) hS1192 hSc1233
 replace hS1234 : St _ _ _ _ _ _ [.blk b1 (K58 v764 v766 v768 x762), .gs v768 c769 (csz api_Diag)] := hS1234
 refine r_step rfl trivial (o_call hcl1232 rfl rfl rfl) ?_
 refine xe 1 [(92, .bool r1228), (17, V r800), (16, V r789), (15, V r778), (0, Pt b1 0), (3, V a3), (4, V a4), (10, V x770), (12, V x772), (13, V x773), (14, .bool x774)] ?_
 rcases ifs ho1124 with ⟨hp1235, ho1124⟩ | ⟨hp1235, ho1124⟩
 refine W_condT (x := .tmp 92) (by kernel_rfl) rfl hp1235 ?_
 refine sr r52_19 ?_
 refine xe 3 [(11, V (w64 (r778 + 1))), (15, V r778), (0, Pt b1 0), (3, V a3), (4, V a4), (10, V x770), (12, V x772), (13, V x773), (14, .bool x774)] ?_
 refine rg r52_20 ?_
 refine xq 4 [(100, V (w64 (r778 + 1))), (99, V r778), (98, V x770), (97, Pt b1 0), (11, V (w64 (r778 + 1))), (0, Pt b1 0), (3, V a3), (4, V a4), (10, V x770), (12, V x772), (13, V x773), (14, .bool x774)] ?_
 obtain ⟨r1236, hx1237, ho1124⟩ := obind ho1124
 have hF1243 : St _ _ _ _ _ _ ([.blk b1 (K58 v764 v766 v768 x762), .gs v768 c769 (csz api_Diag)] ++ []) := ((hS1234.front 1 rfl).front 1 rfl)
 obtain ⟨v1238, h1239, Z1244, A1246, hcl1240, hSc1241, v1248, v1250, c1251, v1253, c1254, rfl, rfl, q1247, q1249, q1252⟩ := flow_reader_wrong_ok F hF1243.preL (q763.mono (hZ787.trans (hZ798.trans hZ809))) (q765.mono (hZ787.trans (hZ798.trans hZ809))) (q767.mono (hZ787.trans (hZ798.trans hZ809))) hx1237
 have hZ1245 := hSc1241.zle
 have hS1242 := hF1243.call hSc1241
 replace hS1242 : St _ _ _ _ _ _ [.blk b1 (K58 v1248 v1250 v1253 r1236.2), .gs v1250 c1251 (csz api_Node), .gs v1253 c1254 (csz api_Diag)] := hS1242
 refine r_step rfl trivial (o_call hcl1240 rfl rfl rfl) ?_
 refine xf [(11, V (w64 (r778 + 1))), (0, Pt b1 0), (3, V a3), (4, V a4), (10, V x770), (12, V x772), (13, V x773), (14, .bool x774)] ?_
 obtain ⟨Z1255, hZ1256, q1257, hS1258⟩ := (hS1242.front 1 rfl).freeze q1249
 replace hS1258 : St _ _ _ _ _ _ [.blk b1 (K58 v1248 v1250 v1253 r1236.2), .gs v1253 c1254 (csz api_Diag)] := hS1258
 obtain rfl := si ho1124
 exact ⟨_, r1236.2, w64 (r778 + 1), x774, v1248, v1250, v1253, c1254, rfl, (q1247.mono hZ1256), q1257, (q1252.mono hZ1256), rfl, hS1258⟩
 refine W_condF (x := .tmp 92) (by kernel_rfl) rfl (Bool.eq_false_iff.2 hp1235) ?_
 refine sr r52_21 ?_
 refine xq 1 [(103, V r789), (17, V r800), (16, V r789), (15, V r778), (0, Pt b1 0), (3, V a3), (4, V a4), (10, V x770), (12, V x772), (13, V x773), (14, .bool x774)] ?_
 rcases ifs ho1124 with ⟨hp1260, ho1124⟩ | ⟨hp1260, ho1124⟩
 refine r_step rfl trivial (o_cmp rfl rfl (c_eql_T hp1260)) ?_
 refine xe 4 [(102, .bool x774), (17, V r800), (16, V r789), (15, V r778), (0, Pt b1 0), (3, V a3), (4, V a4), (10, V x770), (12, V x772), (13, V x773), (14, .bool x774)] ?_
 rcases ifs ho1124 with ⟨hp1261, ho1124⟩ | ⟨hp1261, ho1124⟩
 refine W_condT (x := .tmp 102) (by kernel_rfl) rfl hp1261 ?_
 refine rg r52_22 ?_
 refine xe 4 [(14, .bool false), (11, V (w64 (r778 + 1))), (0, Pt b1 0), (3, V a3), (4, V a4), (10, V x770), (12, V x772), (13, V x773)] ?_
 obtain rfl := si ho1124
 exact ⟨_, x762, w64 (r778 + 1), false, v764, v766, v768, c769, rfl, (q763.mono (hZ787.trans (hZ798.trans hZ809))), (q765.mono (hZ787.trans (hZ798.trans hZ809))), (q767.mono (hZ787.trans (hZ798.trans hZ809))), rfl, hS1234⟩
 refine W_condF (x := .tmp 102) (by kernel_rfl) rfl (Bool.eq_false_iff.2 hp1261) ?_
 refine sr r52_23 ?_
 refine xq 1 [(111, V r789), (17, V r800), (15, V r778), (0, Pt b1 0), (3, V a3), (4, V a4), (10, V x770), (12, V x772), (13, V x773), (14, .bool x774)] ?_
 rcases ifs ho1124 with ⟨hp1263, ho1124⟩ | ⟨hp1263, ho1124⟩
 refine r_step rfl trivial (o_cmp rfl rfl (c_eql_T hp1263)) ?_
 refine xe 1 [(110, .bool true), (17, V r800), (15, V r778), (0, Pt b1 0), (3, V a3), (4, V a4), (10, V x770), (12, V x772), (13, V x773), (14, .bool x774)] ?_
 refine cT 110 rfl ?_
 refine sr r52_24 ?_
 refine xe 3 [(11, V (w64 (r778 + 1))), (15, V r778), (0, Pt b1 0), (3, V a3), (4, V a4), (10, V x770), (12, V x772), (13, V x773), (14, .bool x774)] ?_
 refine rg r52_25 ?_
 refine xq 4 [(118, V (w64 (r778 + 1))), (117, V r778), (116, V x770), (115, Pt b1 0), (11, V (w64 (r778 + 1))), (0, Pt b1 0), (3, V a3), (4, V a4), (10, V x770), (12, V x772), (13, V x773), (14, .bool x774)] ?_
 obtain ⟨r1264, hx1265, ho1124⟩ := obind ho1124
 have hF1271 : St _ _ _ _ _ _ ([.blk b1 (K58 v764 v766 v768 x762), .gs v768 c769 (csz api_Diag)] ++ []) := ((hS1234.front 1 rfl).front 1 rfl)
 obtain ⟨v1266, h1267, Z1272, A1274, hcl1268, hSc1269, v1276, v1278, c1279, v1281, c1282, rfl, rfl, q1275, q1277, q1280⟩ := flow_reader_wrong_ok F hF1271.preL (q763.mono (hZ787.trans (hZ798.trans hZ809))) (q765.mono (hZ787.trans (hZ798.trans hZ809))) (q767.mono (hZ787.trans (hZ798.trans hZ809))) hx1265
 have hZ1273 := hSc1269.zle
 have hS1270 := hF1271.call hSc1269
 replace hS1270 : St _ _ _ _ _ _ [.blk b1 (K58 v1276 v1278 v1281 r1264.2), .gs v1278 c1279 (csz api_Node), .gs v1281 c1282 (csz api_Diag)] := hS1270
 refine r_step rfl trivial (o_call hcl1268 rfl rfl rfl) ?_
 refine xf [(11, V (w64 (r778 + 1))), (0, Pt b1 0), (3, V a3), (4, V a4), (10, V x770), (12, V x772), (13, V x773), (14, .bool x774)] ?_
 obtain ⟨Z1283, hZ1284, q1285, hS1286⟩ := (hS1270.front 1 rfl).freeze q1277
 replace hS1286 : St _ _ _ _ _ _ [.blk b1 (K58 v1276 v1278 v1281 r1264.2), .gs v1281 c1282 (csz api_Diag)] := hS1286
 obtain rfl := si ho1124
 exact ⟨_, r1264.2, w64 (r778 + 1), x774, v1276, v1278, v1281, c1282, rfl, (q1275.mono hZ1284), q1285, (q1280.mono hZ1284), rfl, hS1286⟩
 refine r_step rfl trivial (o_cmp rfl rfl (c_eql_F hp1263)) ?_
 refine xe 1 [(110, .bool false), (17, V r800), (15, V r778), (0, Pt b1 0), (3, V a3), (4, V a4), (10, V x770), (12, V x772), (13, V x773), (14, .bool x774)] ?_
 refine cF 110 rfl ?_
 refine sr r52_26 ?_
 refine xe 2 [(120, .bool x774), (17, V r800), (15, V r778), (0, Pt b1 0), (3, V a3), (4, V a4), (10, V x770), (12, V x772), (13, V x773), (14, .bool x774)] ?_
 rcases ifs ho1124 with ⟨hp1287, ho1124⟩ | ⟨hp1287, ho1124⟩
 refine W_condT (x := .tmp 120) (by kernel_rfl) rfl hp1287 ?_
 refine sr r52_27 ?_
 refine xq 2 [(123, V r778), (122, Pt b1 0), (15, V r778), (0, Pt b1 0), (3, V a3), (4, V a4), (10, V x770), (12, V x772), (13, V x773), (14, .bool x774)] ?_
 obtain ⟨r1288, hx1289, ho1124⟩ := obind ho1124
 have hF1295 : St _ _ _ _ _ _ ([.blk b1 (K58 v764 v766 v768 x762), .gs v768 c769 (csz api_Diag)] ++ []) := ((hS1234.front 1 rfl).front 1 rfl)
 obtain ⟨v1290, h1291, Z1296, A1298, hcl1292, hSc1293, rfl, rfl⟩ := flow_reader_stray_ok F hF1295.preL (q763.mono (hZ787.trans (hZ798.trans hZ809))) (q765.mono (hZ787.trans (hZ798.trans hZ809))) (q767.mono (hZ787.trans (hZ798.trans hZ809))) hx1289
 have hZ1297 := hSc1293.zle
 have hS1294 := hF1295.call hSc1293
 replace hS1294 : St _ _ _ _ _ _ [.blk b1 (K58 v764 v766 v768 x762), .gs v768 c769 (csz api_Diag)] := hS1294
 refine r_step rfl trivial (o_call hcl1292 rfl rfl rfl) ?_
 refine xe 1 [(11, V r1288), (15, V r778), (0, Pt b1 0), (3, V a3), (4, V a4), (10, V x770), (12, V x772), (13, V x773), (14, .bool x774)] ?_
 refine rg r52_28 ?_
 refine xq 4 [(128, V r1288), (127, V r778), (126, V x770), (125, Pt b1 0), (11, V r1288), (0, Pt b1 0), (3, V a3), (4, V a4), (10, V x770), (12, V x772), (13, V x773), (14, .bool x774)] ?_
 obtain ⟨r1299, hx1300, ho1124⟩ := obind ho1124
 have hF1306 : St _ _ _ _ _ _ ([.blk b1 (K58 v764 v766 v768 x762), .gs v768 c769 (csz api_Diag)] ++ []) := ((hS1294.front 1 rfl).front 1 rfl)
 obtain ⟨v1301, h1302, Z1307, A1309, hcl1303, hSc1304, v1311, v1313, c1314, v1316, c1317, rfl, rfl, q1310, q1312, q1315⟩ := flow_reader_wrong_ok F hF1306.preL (q763.mono (hZ787.trans (hZ798.trans (hZ809.trans hZ1297)))) (q765.mono (hZ787.trans (hZ798.trans (hZ809.trans hZ1297)))) (q767.mono (hZ787.trans (hZ798.trans (hZ809.trans hZ1297)))) hx1300
 have hZ1308 := hSc1304.zle
 have hS1305 := hF1306.call hSc1304
 replace hS1305 : St _ _ _ _ _ _ [.blk b1 (K58 v1311 v1313 v1316 r1299.2), .gs v1313 c1314 (csz api_Node), .gs v1316 c1317 (csz api_Diag)] := hS1305
 refine r_step rfl trivial (o_call hcl1303 rfl rfl rfl) ?_
 refine xf [(11, V r1288), (0, Pt b1 0), (3, V a3), (4, V a4), (10, V x770), (12, V x772), (13, V x773), (14, .bool x774)] ?_
 obtain ⟨Z1318, hZ1319, q1320, hS1321⟩ := (hS1305.front 1 rfl).freeze q1312
 replace hS1321 : St _ _ _ _ _ _ [.blk b1 (K58 v1311 v1313 v1316 r1299.2), .gs v1316 c1317 (csz api_Diag)] := hS1321
 obtain rfl := si ho1124
 exact ⟨_, r1299.2, r1288, x774, v1311, v1313, v1316, c1317, rfl, (q1310.mono hZ1319), q1320, (q1315.mono hZ1319), rfl, hS1321⟩
 refine W_condF (x := .tmp 120) (by kernel_rfl) rfl (Bool.eq_false_iff.2 hp1287) ?_
 refine sr r52_29 ?_
 refine xq 1 [(131, V r800), (17, V r800), (15, V r778), (0, Pt b1 0), (3, V a3), (4, V a4), (10, V x770), (12, V x772), (13, V x773)] ?_
 rcases ifs ho1124 with ⟨hp1323, ho1124⟩ | ⟨hp1323, ho1124⟩
 refine r_step rfl trivial (o_cmp rfl rfl (c_geq_T hp1323)) ?_
 refine xe 1 [(130, .bool true), (17, V r800), (15, V r778), (0, Pt b1 0), (3, V a3), (4, V a4), (10, V x770), (12, V x772), (13, V x773)] ?_
 refine cT 130 rfl ?_
 refine rg r52_30 ?_
 refine xq 6 [(138, V (w64 (a4 - 1))), (136, V r800), (135, V r778), (134, V x770), (133, Pt b1 0), (0, Pt b1 0), (3, V a3), (4, V a4), (10, V x770), (12, V x772), (13, V x773)] ?_
 obtain ⟨r1324, hx1325, ho1124⟩ := obind ho1124
 have hF1331 : St _ _ _ _ _ _ ([.blk b1 (K58 v764 v766 v768 x762), .gs v768 c769 (csz api_Diag)] ++ []) := ((hS1234.front 1 rfl).front 1 rfl)
 obtain ⟨v1326, h1327, Z1332, A1334, hcl1328, hSc1329, v1336, v1338, v1340, c1341, rfl, rfl, q1335, q1337, q1339⟩ := flow_reader_pair_ok F rec_flow_reader_value hrec_flow_reader_value hF1331.preL (q763.mono (hZ787.trans (hZ798.trans hZ809))) (q765.mono (hZ787.trans (hZ798.trans hZ809))) (q767.mono (hZ787.trans (hZ798.trans hZ809))) hx1325
 have hZ1333 := hSc1329.zle
 have hS1330 := hF1331.call hSc1329
 replace hS1330 : St _ _ _ _ _ _ [.blk b1 (K58 v1336 v1338 v1340 r1324.2), .gs v1340 c1341 (csz api_Diag)] := hS1330
 refine r_step rfl trivial (o_call hcl1328 rfl rfl rfl) ?_
 refine xe 2 [(14, .bool true), (11, V r1324.1), (0, Pt b1 0), (3, V a3), (4, V a4), (10, V x770), (12, V x772), (13, V x773)] ?_
 obtain rfl := si ho1124
 exact ⟨_, r1324.2, r1324.1, true, v1336, v1338, v1340, c1341, rfl, q1335, q1337, q1339, rfl, hS1330⟩
 refine r_step rfl trivial (o_cmp rfl rfl (c_geq_F hp1323)) ?_
 refine xe 1 [(130, .bool false), (17, V r800), (15, V r778), (0, Pt b1 0), (3, V a3), (4, V a4), (10, V x770), (12, V x772), (13, V x773)] ?_
 refine cF 130 rfl ?_
 refine rg r52_10 ?_
 refine xq 6 [(46, V (w64 (a4 - 1))), (44, V r778), (43, V x772), (42, V x770), (41, Pt b1 0), (0, Pt b1 0), (3, V a3), (4, V a4), (10, V x770), (12, V x772), (13, V x773)] ?_
 obtain ⟨r1342, hx1343, ho1124⟩ := obind ho1124
 have hF1349 : St _ _ _ _ _ _ ([.blk b1 (K58 v764 v766 v768 x762), .gs v768 c769 (csz api_Diag)] ++ []) := ((hS1234.front 1 rfl).front 1 rfl)
 obtain ⟨v1344, h1345, Z1350, A1352, hcl1346, hSc1347, v1354, v1356, v1358, c1359, rfl, rfl, q1353, q1355, q1357⟩ := flow_reader_one_ok F rec_flow_reader_value hrec_flow_reader_value hF1349.preL (q763.mono (hZ787.trans (hZ798.trans hZ809))) (q765.mono (hZ787.trans (hZ798.trans hZ809))) (q767.mono (hZ787.trans (hZ798.trans hZ809))) hx1343
 have hZ1351 := hSc1347.zle
 have hS1348 := hF1349.call hSc1347
 replace hS1348 : St _ _ _ _ _ _ [.blk b1 (K58 v1354 v1356 v1358 r1342.2.2), .gs v1358 c1359 (csz api_Diag)] := hS1348
 refine r_step rfl trivial (o_call hcl1346 rfl rfl rfl) ?_
 refine xe 5 [(14, .bool r1342.2.1), (11, V r1342.1), (0, Pt b1 0), (3, V a3), (4, V a4), (10, V x770), (12, V x772), (13, V x773)] ?_
 obtain rfl := si ho1124
 exact ⟨_, r1342.2.2, r1342.1, r1342.2.1, v1354, v1356, v1358, c1359, rfl, q1353, q1355, q1357, rfl, hS1348⟩
 refine r_step rfl trivial (o_cmp rfl rfl (c_eql_F hp1260)) ?_
 refine xe 4 [(102, .bool false), (17, V r800), (16, V r789), (15, V r778), (0, Pt b1 0), (3, V a3), (4, V a4), (10, V x770), (12, V x772), (13, V x773), (14, .bool x774)] ?_
 refine cF 102 rfl ?_
 refine sr r52_23 ?_
 refine xq 1 [(111, V r789), (17, V r800), (15, V r778), (0, Pt b1 0), (3, V a3), (4, V a4), (10, V x770), (12, V x772), (13, V x773), (14, .bool x774)] ?_
 rcases ifs ho1124 with ⟨hp1361, ho1124⟩ | ⟨hp1361, ho1124⟩
 refine r_step rfl trivial (o_cmp rfl rfl (c_eql_T hp1361)) ?_
 refine xe 1 [(110, .bool true), (17, V r800), (15, V r778), (0, Pt b1 0), (3, V a3), (4, V a4), (10, V x770), (12, V x772), (13, V x773), (14, .bool x774)] ?_
 refine cT 110 rfl ?_
 refine sr r52_24 ?_
 refine xe 3 [(11, V (w64 (r778 + 1))), (15, V r778), (0, Pt b1 0), (3, V a3), (4, V a4), (10, V x770), (12, V x772), (13, V x773), (14, .bool x774)] ?_
 refine rg r52_25 ?_
 refine xq 4 [(118, V (w64 (r778 + 1))), (117, V r778), (116, V x770), (115, Pt b1 0), (11, V (w64 (r778 + 1))), (0, Pt b1 0), (3, V a3), (4, V a4), (10, V x770), (12, V x772), (13, V x773), (14, .bool x774)] ?_
 obtain ⟨r1362, hx1363, ho1124⟩ := obind ho1124
 have hF1369 : St _ _ _ _ _ _ ([.blk b1 (K58 v764 v766 v768 x762), .gs v768 c769 (csz api_Diag)] ++ []) := ((hS1234.front 1 rfl).front 1 rfl)
 obtain ⟨v1364, h1365, Z1370, A1372, hcl1366, hSc1367, v1374, v1376, c1377, v1379, c1380, rfl, rfl, q1373, q1375, q1378⟩ := flow_reader_wrong_ok F hF1369.preL (q763.mono (hZ787.trans (hZ798.trans hZ809))) (q765.mono (hZ787.trans (hZ798.trans hZ809))) (q767.mono (hZ787.trans (hZ798.trans hZ809))) hx1363
 have hZ1371 := hSc1367.zle
 have hS1368 := hF1369.call hSc1367
 replace hS1368 : St _ _ _ _ _ _ [.blk b1 (K58 v1374 v1376 v1379 r1362.2), .gs v1376 c1377 (csz api_Node), .gs v1379 c1380 (csz api_Diag)] := hS1368
 refine r_step rfl trivial (o_call hcl1366 rfl rfl rfl) ?_
 refine xf [(11, V (w64 (r778 + 1))), (0, Pt b1 0), (3, V a3), (4, V a4), (10, V x770), (12, V x772), (13, V x773), (14, .bool x774)] ?_
 obtain ⟨Z1381, hZ1382, q1383, hS1384⟩ := (hS1368.front 1 rfl).freeze q1375
 replace hS1384 : St _ _ _ _ _ _ [.blk b1 (K58 v1374 v1376 v1379 r1362.2), .gs v1379 c1380 (csz api_Diag)] := hS1384
 obtain rfl := si ho1124
 exact ⟨_, r1362.2, w64 (r778 + 1), x774, v1374, v1376, v1379, c1380, rfl, (q1373.mono hZ1382), q1383, (q1378.mono hZ1382), rfl, hS1384⟩
 refine r_step rfl trivial (o_cmp rfl rfl (c_eql_F hp1361)) ?_
 refine xe 1 [(110, .bool false), (17, V r800), (15, V r778), (0, Pt b1 0), (3, V a3), (4, V a4), (10, V x770), (12, V x772), (13, V x773), (14, .bool x774)] ?_
 refine cF 110 rfl ?_
 refine sr r52_26 ?_
 refine xe 2 [(120, .bool x774), (17, V r800), (15, V r778), (0, Pt b1 0), (3, V a3), (4, V a4), (10, V x770), (12, V x772), (13, V x773), (14, .bool x774)] ?_
 rcases ifs ho1124 with ⟨hp1385, ho1124⟩ | ⟨hp1385, ho1124⟩
 refine W_condT (x := .tmp 120) (by kernel_rfl) rfl hp1385 ?_
 refine sr r52_27 ?_
 refine xq 2 [(123, V r778), (122, Pt b1 0), (15, V r778), (0, Pt b1 0), (3, V a3), (4, V a4), (10, V x770), (12, V x772), (13, V x773), (14, .bool x774)] ?_
 obtain ⟨r1386, hx1387, ho1124⟩ := obind ho1124
 have hF1393 : St _ _ _ _ _ _ ([.blk b1 (K58 v764 v766 v768 x762), .gs v768 c769 (csz api_Diag)] ++ []) := ((hS1234.front 1 rfl).front 1 rfl)
 obtain ⟨v1388, h1389, Z1394, A1396, hcl1390, hSc1391, rfl, rfl⟩ := flow_reader_stray_ok F hF1393.preL (q763.mono (hZ787.trans (hZ798.trans hZ809))) (q765.mono (hZ787.trans (hZ798.trans hZ809))) (q767.mono (hZ787.trans (hZ798.trans hZ809))) hx1387
 have hZ1395 := hSc1391.zle
 have hS1392 := hF1393.call hSc1391
 replace hS1392 : St _ _ _ _ _ _ [.blk b1 (K58 v764 v766 v768 x762), .gs v768 c769 (csz api_Diag)] := hS1392
 refine r_step rfl trivial (o_call hcl1390 rfl rfl rfl) ?_
 refine xe 1 [(11, V r1386), (15, V r778), (0, Pt b1 0), (3, V a3), (4, V a4), (10, V x770), (12, V x772), (13, V x773), (14, .bool x774)] ?_
 refine rg r52_28 ?_
 refine xq 4 [(128, V r1386), (127, V r778), (126, V x770), (125, Pt b1 0), (11, V r1386), (0, Pt b1 0), (3, V a3), (4, V a4), (10, V x770), (12, V x772), (13, V x773), (14, .bool x774)] ?_
 obtain ⟨r1397, hx1398, ho1124⟩ := obind ho1124
 have hF1404 : St _ _ _ _ _ _ ([.blk b1 (K58 v764 v766 v768 x762), .gs v768 c769 (csz api_Diag)] ++ []) := ((hS1392.front 1 rfl).front 1 rfl)
 obtain ⟨v1399, h1400, Z1405, A1407, hcl1401, hSc1402, v1409, v1411, c1412, v1414, c1415, rfl, rfl, q1408, q1410, q1413⟩ := flow_reader_wrong_ok F hF1404.preL (q763.mono (hZ787.trans (hZ798.trans (hZ809.trans hZ1395)))) (q765.mono (hZ787.trans (hZ798.trans (hZ809.trans hZ1395)))) (q767.mono (hZ787.trans (hZ798.trans (hZ809.trans hZ1395)))) hx1398
 have hZ1406 := hSc1402.zle
 have hS1403 := hF1404.call hSc1402
 replace hS1403 : St _ _ _ _ _ _ [.blk b1 (K58 v1409 v1411 v1414 r1397.2), .gs v1411 c1412 (csz api_Node), .gs v1414 c1415 (csz api_Diag)] := hS1403
 refine r_step rfl trivial (o_call hcl1401 rfl rfl rfl) ?_
 refine xf [(11, V r1386), (0, Pt b1 0), (3, V a3), (4, V a4), (10, V x770), (12, V x772), (13, V x773), (14, .bool x774)] ?_
 obtain ⟨Z1416, hZ1417, q1418, hS1419⟩ := (hS1403.front 1 rfl).freeze q1410
 replace hS1419 : St _ _ _ _ _ _ [.blk b1 (K58 v1409 v1411 v1414 r1397.2), .gs v1414 c1415 (csz api_Diag)] := hS1419
 obtain rfl := si ho1124
 exact ⟨_, r1397.2, r1386, x774, v1409, v1411, v1414, c1415, rfl, (q1408.mono hZ1417), q1418, (q1413.mono hZ1417), rfl, hS1419⟩
 refine W_condF (x := .tmp 120) (by kernel_rfl) rfl (Bool.eq_false_iff.2 hp1385) ?_
 refine sr r52_29 ?_
 refine xq 1 [(131, V r800), (17, V r800), (15, V r778), (0, Pt b1 0), (3, V a3), (4, V a4), (10, V x770), (12, V x772), (13, V x773)] ?_
 rcases ifs ho1124 with ⟨hp1421, ho1124⟩ | ⟨hp1421, ho1124⟩
 refine r_step rfl trivial (o_cmp rfl rfl (c_geq_T hp1421)) ?_
 refine xe 1 [(130, .bool true), (17, V r800), (15, V r778), (0, Pt b1 0), (3, V a3), (4, V a4), (10, V x770), (12, V x772), (13, V x773)] ?_
 refine cT 130 rfl ?_
 refine rg r52_30 ?_
 refine xq 6 [(138, V (w64 (a4 - 1))), (136, V r800), (135, V r778), (134, V x770), (133, Pt b1 0), (0, Pt b1 0), (3, V a3), (4, V a4), (10, V x770), (12, V x772), (13, V x773)] ?_
 obtain ⟨r1422, hx1423, ho1124⟩ := obind ho1124
 have hF1429 : St _ _ _ _ _ _ ([.blk b1 (K58 v764 v766 v768 x762), .gs v768 c769 (csz api_Diag)] ++ []) := ((hS1234.front 1 rfl).front 1 rfl)
 obtain ⟨v1424, h1425, Z1430, A1432, hcl1426, hSc1427, v1434, v1436, v1438, c1439, rfl, rfl, q1433, q1435, q1437⟩ := flow_reader_pair_ok F rec_flow_reader_value hrec_flow_reader_value hF1429.preL (q763.mono (hZ787.trans (hZ798.trans hZ809))) (q765.mono (hZ787.trans (hZ798.trans hZ809))) (q767.mono (hZ787.trans (hZ798.trans hZ809))) hx1423
 have hZ1431 := hSc1427.zle
 have hS1428 := hF1429.call hSc1427
 replace hS1428 : St _ _ _ _ _ _ [.blk b1 (K58 v1434 v1436 v1438 r1422.2), .gs v1438 c1439 (csz api_Diag)] := hS1428
 refine r_step rfl trivial (o_call hcl1426 rfl rfl rfl) ?_
 refine xe 2 [(14, .bool true), (11, V r1422.1), (0, Pt b1 0), (3, V a3), (4, V a4), (10, V x770), (12, V x772), (13, V x773)] ?_
 obtain rfl := si ho1124
 exact ⟨_, r1422.2, r1422.1, true, v1434, v1436, v1438, c1439, rfl, q1433, q1435, q1437, rfl, hS1428⟩
 refine r_step rfl trivial (o_cmp rfl rfl (c_geq_F hp1421)) ?_
 refine xe 1 [(130, .bool false), (17, V r800), (15, V r778), (0, Pt b1 0), (3, V a3), (4, V a4), (10, V x770), (12, V x772), (13, V x773)] ?_
 refine cF 130 rfl ?_
 refine rg r52_10 ?_
 refine xq 6 [(46, V (w64 (a4 - 1))), (44, V r778), (43, V x772), (42, V x770), (41, Pt b1 0), (0, Pt b1 0), (3, V a3), (4, V a4), (10, V x770), (12, V x772), (13, V x773)] ?_
 obtain ⟨r1440, hx1441, ho1124⟩ := obind ho1124
 have hF1447 : St _ _ _ _ _ _ ([.blk b1 (K58 v764 v766 v768 x762), .gs v768 c769 (csz api_Diag)] ++ []) := ((hS1234.front 1 rfl).front 1 rfl)
 obtain ⟨v1442, h1443, Z1448, A1450, hcl1444, hSc1445, v1452, v1454, v1456, c1457, rfl, rfl, q1451, q1453, q1455⟩ := flow_reader_one_ok F rec_flow_reader_value hrec_flow_reader_value hF1447.preL (q763.mono (hZ787.trans (hZ798.trans hZ809))) (q765.mono (hZ787.trans (hZ798.trans hZ809))) (q767.mono (hZ787.trans (hZ798.trans hZ809))) hx1441
 have hZ1449 := hSc1445.zle
 have hS1446 := hF1447.call hSc1445
 replace hS1446 : St _ _ _ _ _ _ [.blk b1 (K58 v1452 v1454 v1456 r1440.2.2), .gs v1456 c1457 (csz api_Diag)] := hS1446
 refine r_step rfl trivial (o_call hcl1444 rfl rfl rfl) ?_
 refine xe 5 [(14, .bool r1440.2.1), (11, V r1440.1), (0, Pt b1 0), (3, V a3), (4, V a4), (10, V x770), (12, V x772), (13, V x773)] ?_
 obtain rfl := si ho1124
 exact ⟨_, r1440.2.2, r1440.1, r1440.2.1, v1452, v1454, v1456, c1457, rfl, q1451, q1453, q1455, rfl, hS1446⟩
 refine sr r52_2 ?_
 refine xq 2 [(19, V a3), (18, Pt b1 0), (13, V 10), (12, V 9), (0, Pt b1 0), (1, V a1), (2, V a2), (3, V a3), (4, V a4)] ?_
 obtain ⟨r31, hx32, ho29⟩ := obind ho29
 have hF38 : St _ _ _ _ _ _ ([.blk b1 (K58 v3 v5 v7 a0), .gs v7 c8 (csz api_Diag)] ++ []) := ((hS.front 1 rfl).front 1 rfl)
 obtain ⟨v33, h34, Z39, A41, hcl35, hSc36, rfl, rfl⟩ := flow_reader_kind_ok F hF38.preL q2 q4 q6 hx32
 have hZ40 := hSc36.zle
 have hS37 := hF38.call hSc36
 replace hS37 : St _ _ _ _ _ _ [.blk b1 (K58 v3 v5 v7 a0), .gs v7 c8 (csz api_Diag)] := hS37
 refine r_step rfl trivial (o_call hcl35 rfl rfl rfl) ?_
 rcases ifs ho29 with ⟨hp42, ho29⟩ | ⟨hp42, ho29⟩
 refine r_step rfl trivial (o_cmp rfl rfl (c_eql_T hp42)) ?_
 refine xf [(21, .bool true), (13, V 10), (12, V 9), (0, Pt b1 0), (1, V a1), (2, V a2), (3, V a3), (4, V a4)] ?_
 refine cT 21 rfl ?_
 refine rg r52_3 ?_
 refine xe 2 [(13, V 11), (12, V 10), (0, Pt b1 0), (1, V a1), (2, V a2), (3, V a3), (4, V a4)] ?_
 obtain rfl := si ho29
 exact ⟨_, 10, 11, rfl, rfl, hS37⟩
 refine r_step rfl trivial (o_cmp rfl rfl (c_eql_F hp42)) ?_
 refine xf [(21, .bool false), (13, V 10), (12, V 9), (0, Pt b1 0), (1, V a1), (2, V a2), (3, V a3), (4, V a4)] ?_
 refine kF 21 rfl ?_
 obtain rfl := si ho29
 exact ⟨_, 9, 10, rfl, rfl, hS37⟩

def r23_0 : List COp := [u 8 (.assign (ci 0)), u 9 (.assign (ci 0))]
def r23_1 : List COp := [u 14 (mv 0), u 15 (mv 2), u 16 (cf 44 #[(t 14), (t 15)] #[55, 3]), u 10 (sg 16)]
def r23_2 : List COp := [u 17 (mv 10), u 11 (sg 17), u 12 (.assign (ci (-1)))]
def r23_3 : List COp := [u 18 (mv 0), u 19 (mv 10), u 20 (cf 46 #[(t 18), (t 19)] #[55, 3]), u 21 (cf 45 #[(t 20)] #[3])]
def r23_4 : List COp := [u 22 (mv 10), u 12 (sg 22)]
def r23_5 : List COp := [u 23 (mv 0), u 24 (mv 10), u 25 (bc .add 3 24 1 3), u 26 (cf 44 #[(t 23), (t 25)] #[55, 3]), u 10 (sg 26)]
def r23_6 : List COp := [u 27 (mv 0), u 28 (mv 10), u 29 (cf 46 #[(t 27), (t 28)] #[55, 3]), u 13 (sg 29)]
def r23_7 : List COp := [u 31 (mv 13), u 32 (bc .eql 3 31 15 3), u 33 (mv 32), gn 33 34 (mv 13), gn 33 35 (bc .eql 3 34 16 3), u 36 (pt 33 35), u 37 (mv 36), gn 37 38 (mv 13), gn 37 39 (bc .eql 3 38 17 3), u 40 (pt 37 39), u 30 (sg 40)]
def r23_8 : List COp := [u 41 (mv 0), u 42 (mv 1), u 43 (mv 11), u 44 (mv 10), u 45 (bc .add 3 44 1 3), u 46 (cf 47 #[(t 41), (t 42), (ci 7), (t 43), (t 45)] #[55, 3, 3, 3, 3]), u 47 (mv 10), u 48 (bc .add 3 47 1 3), u 8 (sg 46), u 9 (sg 48)]
def r23_9 : List COp := [u 50 (mv 13), u 51 (bc .eql 3 50 13 3), u 49 (sg 51)]
def r23_10 : List COp := [u 52 (mv 0), u 53 (mv 1), u 54 (mv 11), u 55 (mv 10), u 56 (bc .add 3 55 1 3), u 57 (cf 47 #[(t 52), (t 53), (ci 8), (t 54), (t 56)] #[55, 3, 3, 3, 3]), u 58 (mv 10), u 59 (bc .add 3 58 1 3), u 8 (sg 57), u 9 (sg 59)]
def r23_11 : List COp := [u 61 (mv 13), u 62 (bc .eql 3 61 18 3), u 60 (sg 62)]
def r23_12 : List COp := [u 63 (mv 0), u 64 (mv 10), u 65 (cf 48 #[(t 63), (t 64)] #[55, 3]), u 9 (sg 65)]
def r23_13 : List COp := [u 66 (mv 0), u 67 (mv 1), u 68 (mv 11), u 69 (mv 9), u 70 (cf 47 #[(t 66), (t 67), (ci 7), (t 68), (t 69)] #[55, 3, 3, 3, 3]), u 71 (mv 9), u 8 (sg 70), u 9 (sg 71)]
def r23_14 : List COp := [u 73 (mv 13), u 74 (cf 49 #[(t 73)] #[3]), u 75 (mv 74), gt 75 76 (mv 3), gt 75 77 (bc .leq 3 76 0 3), u 78 (pf 75 77), u 72 (sg 78)]
def r23_15 : List COp := [u 79 (mv 0), u 80 (mv 10), u 81 (cf 50 #[(t 79), (t 80)] #[55, 3]), u 9 (sg 81)]
def r23_16 : List COp := [u 82 (mv 0), u 83 (mv 1), u 84 (mv 11), u 85 (mv 9), u 86 (cf 51 #[(t 82), (ci 10), (t 83), (t 84), (t 85)] #[55, 3, 3, 3, 3]), u 87 (mv 9), u 8 (sg 86), u 9 (sg 87)]
def r23_17 : List COp := [u 89 (mv 13), u 90 (cf 49 #[(t 89)] #[3]), u 88 (sg 90)]
def r23_18 : List COp := [u 91 (mv 0), u 92 (mv 1), u 93 (mv 11), u 94 (mv 10), u 95 (mv 3), u 96 (cf 52 #[(t 91), (t 92), (t 93), (t 94), (t 95)] #[55, 3, 3, 3, 3]), u 97 (.extract (t 96) 0), u 98 (.extract (t 96) 1), u 8 (sg 97), u 9 (sg 98)]
def r23_19 : List COp := [u 100 (mv 12), u 101 (bc .geq 3 100 0 3), u 99 (sg 101)]
def r23_20 : List COp := [u 102 (mv 0), u 103 (mv 1), u 104 (mv 11), u 105 (mv 12), u 106 (bc .add 3 105 1 3), u 107 (cf 47 #[(t 102), (t 103), (ci 7), (t 104), (t 106)] #[55, 3, 3, 3, 3]), u 108 (mv 12), u 109 (bc .add 3 108 1 3), u 8 (sg 107), u 9 (sg 109)]
def r23_21 : List COp := [u 110 (mv 2), u 8 (.assign (ci (-1))), u 9 (sg 110)]
def flow_reader_value_l0 (F : Nat) (rec_flow_reader_value : flow_reader → Int → Int → Int → Option (Int × Int × flow_reader)) (a0 : flow_reader) (a1 : Int) (a2 : Int) (a3 : Int) : Nat → Int → Int → Int → Option (Int × Int × Int)
 | 0, _, _, _ => none
 | n + 1, x141, x142, x143 =>
  (flow_reader_kind F a0 x141).bind fun r166 =>
  (flow_property F r166).bind fun r177 =>
  if r177 = true then
   (flow_reader_blanks F a0 (w64 (x141 + 1))).bind fun r186 =>
   flow_reader_value_l0 F rec_flow_reader_value a0 a1 a2 a3 n r186 x142 x141
  else
   some (x141, x142, x143)
def flow_reader_value_b (F : Nat) (rec_flow_reader_value : flow_reader → Int → Int → Int → Option (Int × Int × flow_reader)) (a0 : flow_reader) (a1 : Int) (a2 : Int) (a3 : Int) : Option (Int × Int × flow_reader) :=
 (flow_reader_blanks F a0 a2).bind fun r16 =>
 ((flow_reader_value_l0 F rec_flow_reader_value a0 a1 a2 a3 F r16 r16 (-1)) : Option (Int × Int × Int)).bind fun o => match o with
  | (x201, x202, x203) => (flow_reader_kind F a0 x201).bind fun r206 =>
  ((if r206 = (15 : Int) then
    some true
   else
    if r206 = (16 : Int) then
     some true
    else
     if r206 = (17 : Int) then
      some true
     else
      some false) : Option Bool).bind fun o => match o with
   | x408 => if x408 = true then
    (flow_reader_add F a0 a1 7 x202 (w64 (x201 + 1))).bind fun r581 =>
    some (r581.1, w64 (x201 + 1), r581.2)
   else
    if r206 = (13 : Int) then
     (flow_reader_add F a0 a1 8 x202 (w64 (x201 + 1))).bind fun r772 =>
     some (r772.1, w64 (x201 + 1), r772.2)
    else
     if r206 = (18 : Int) then
      (flow_reader_texts F a0 x201).bind fun r1084 =>
      (flow_reader_add F a0 a1 7 x202 r1084).bind fun r1095 =>
      some (r1095.1, r1084, r1095.2)
     else
      (((flow_opens F r206).bind fun r1236 =>
       if r1236 = true then
        if a3 ≤ (0 : Int) then
         some true
        else
         some false
       else
        some false) : Option Bool).bind fun o => match o with
       | x1246 => if x1246 = true then
        (flow_reader_closed F a0 x201).bind fun r1327 =>
        (flow_reader_wrong F a0 10 a1 x202 r1327).bind fun r1338 =>
        some (r1338.1, r1327, r1338.2)
       else
        (flow_opens F r206).bind fun r1361 =>
        if r1361 = true then
         (flow_reader_collection F rec_flow_reader_value a0 a1 x202 x201 a3).bind fun r1408 =>
         some (r1408.1, r1408.2.1, r1408.2.2)
        else
         if (0 : Int) ≤ x203 then
          (flow_reader_add F a0 a1 7 x202 (w64 (x203 + 1))).bind fun r1469 =>
          some (r1469.1, w64 (x203 + 1), r1469.2)
         else
          some ((-1), a2, a0)
theorem flow_reader_value_b_ok (F : Nat) (rec_flow_reader_value : flow_reader → Int → Int → Int → Option (Int × Int × flow_reader)) (hrec_flow_reader_value : flow_reader_value_C rec_flow_reader_value) {h : AH} {Z : Zn} {a0 : flow_reader} {a1 : Int} {a2 : Int} {a3 : Int} {b1 : Nat} {v3 : Value} {v5 : Value} {v7 : Value} {c8 : List Value} (hP : Pre Z h [.blk b1 (K58 v3 v5 v7 a0), .gs v7 c8 (csz api_Diag)]) (q2 : RS (α := api_Token) Z v3 a0.l_) (q4 : RS (α := api_Node) Z v5 a0.t_.Nodes) (q6 : RCs (α := api_Diag) Z c8 a0.d_) {r : Int × Int × flow_reader} (hm : flow_reader_value_b F rec_flow_reader_value a0 a1 a2 a3 = some r) :
  ∃ v h' Z' A', callI Try.prog 23 [Pt b1 0, V a1, V a2, V a3] h = some (v, h') ∧ St h (idsL [.blk b1 (K58 v3 v5 v7 a0), .gs v7 c8 (csz api_Diag)]) Z (0, 0) Z' h' A' ∧ ∃ v10 : Value, ∃ v12 : Value, ∃ v14 : Value, ∃ c15 : List Value, .tuple #[V r.1, V r.2.1] = v ∧ A' = [.blk b1 (K58 v10 v12 v14 r.2.2), .gs v14 c15 (csz api_Diag)] ∧ RS (α := api_Token) Z' v10 r.2.2.l_ ∧ RS (α := api_Node) Z' v12 r.2.2.t_.Nodes ∧ RCs (α := api_Diag) Z' c15 r.2.2.d_ := by
 refine fn_intro (A := [.blk b1 (K58 v3 v5 v7 a0), .gs v7 c8 (csz api_Diag)]) (Q := fun v Z' A' => ∃ v10 : Value, ∃ v12 : Value, ∃ v14 : Value, ∃ c15 : List Value, .tuple #[V r.1, V r.2.1] = v ∧ A' = [.blk b1 (K58 v10 v12 v14 r.2.2), .gs v14 c15 (csz api_Diag)] ∧ RS (α := api_Token) Z' v10 r.2.2.l_ ∧ RS (α := api_Node) Z' v12 r.2.2.t_.Nodes ∧ RCs (α := api_Diag) Z' c15 r.2.2.d_) Try.func23 rfl rfl (by kernel_rfl) hP ?_
 intro hs hS
 unfold flow_reader_value_b at hm
 refine sr r23_0 ?_
 refine xe 2 [(0, Pt b1 0), (1, V a1), (2, V a2), (3, V a3)] ?_
 refine sr r23_1 ?_
 refine xq 2 [(15, V a2), (14, Pt b1 0), (0, Pt b1 0), (1, V a1), (2, V a2), (3, V a3)] ?_
 obtain ⟨r16, hx17, hm⟩ := obind hm
 have hF23 : St _ _ _ _ _ _ ([.blk b1 (K58 v3 v5 v7 a0), .gs v7 c8 (csz api_Diag)] ++ []) := ((hS.front 1 rfl).front 1 rfl)
 obtain ⟨v18, h19, Z24, A26, hcl20, hSc21, rfl, rfl⟩ := flow_reader_blanks_ok F hF23.preL q2 q4 q6 hx17
 have hZ25 := hSc21.zle
 have hS22 := hF23.call hSc21
 replace hS22 : St _ _ _ _ _ _ [.blk b1 (K58 v3 v5 v7 a0), .gs v7 c8 (csz api_Diag)] := hS22
 refine r_step rfl trivial (o_call hcl20 rfl rfl rfl) ?_
 refine xe 1 [(10, V r16), (0, Pt b1 0), (1, V a1), (2, V a2), (3, V a3)] ?_
 refine sr r23_2 ?_
 refine xe 3 [(12, V (-1)), (11, V r16), (10, V r16), (0, Pt b1 0), (1, V a1), (2, V a2), (3, V a3)] ?_
 refine sq ?_
 obtain ⟨o139, ho138, hm⟩ := obind hm
 refine W_join [0, 1, 2, 3, 10, 11, 12] (fun l h => ∃ Z200 : Zn, ∃ x201 : Int, ∃ x202 : Int, ∃ x203 : Int, (x201, x202, x203) = o139 ∧ l = [(0, Pt b1 0), (1, V a1), (2, V a2), (3, V a3), (10, V x201), (11, V x202), (12, V x203)] ∧ St hs (idsL [.blk b1 (K58 v3 v5 v7 a0), .gs v7 c8 (csz api_Diag)]) Z (0, 0) Z200 h [.blk b1 (K58 v3 v5 v7 a0), .gs v7 c8 (csz api_Diag)]) ?_ ?_
 rintro l h204 ⟨Z200, x201, x202, x203, rfl, rfl, hS205⟩
 try dsimp only at hm
 refine sq ?_
 refine sr r23_6 ?_
 refine xq 2 [(28, V x201), (27, Pt b1 0), (0, Pt b1 0), (1, V a1), (2, V a2), (3, V a3), (10, V x201), (11, V x202), (12, V x203)] ?_
 obtain ⟨r206, hx207, hm⟩ := obind hm
 have hF213 : St _ _ _ _ _ _ ([.blk b1 (K58 v3 v5 v7 a0), .gs v7 c8 (csz api_Diag)] ++ []) := ((hS205.front 1 rfl).front 1 rfl)
 obtain ⟨v208, h209, Z214, A216, hcl210, hSc211, rfl, rfl⟩ := flow_reader_kind_ok F hF213.preL (q2.mono hS205.zle) (q4.mono hS205.zle) (q6.mono hS205.zle) hx207
 have hZ215 := hSc211.zle
 have hS212 := hF213.call hSc211
 replace hS212 : St _ _ _ _ _ _ [.blk b1 (K58 v3 v5 v7 a0), .gs v7 c8 (csz api_Diag)] := hS212
 refine r_step rfl trivial (o_call hcl210 rfl rfl rfl) ?_
 refine xe 1 [(13, V r206), (0, Pt b1 0), (1, V a1), (2, V a2), (3, V a3), (10, V x201), (11, V x202), (12, V x203)] ?_
 refine bk 2 ?_
 refine sq ?_
 obtain ⟨o403, ho402, hm⟩ := obind hm
 refine W_join [0, 1, 2, 3, 10, 11, 12, 13, 30] (fun l h => ∃ Z407 : Zn, ∃ x408 : Bool, x408 = o403 ∧ l = [(0, Pt b1 0), (1, V a1), (2, V a2), (3, V a3), (10, V x201), (11, V x202), (12, V x203), (13, V r206), (30, .bool x408)] ∧ St hs (idsL [.blk b1 (K58 v3 v5 v7 a0), .gs v7 c8 (csz api_Diag)]) Z (0, 0) Z407 h [.blk b1 (K58 v3 v5 v7 a0), .gs v7 c8 (csz api_Diag)]) ?_ ?_
 rintro l h409 ⟨Z407, x408, rfl, rfl, hS410⟩
 try dsimp only at hm
 rcases ifs hm with ⟨hp580, hm⟩ | ⟨hp580, hm⟩
 refine W_condT (x := .tmp 30) (by kernel_rfl) rfl hp580 ?_
 refine sr r23_8 ?_
 refine xq 5 [(45, V (w64 (x201 + 1))), (43, V x202), (42, V a1), (41, Pt b1 0), (10, V x201)] ?_
 obtain ⟨r581, hx582, hm⟩ := obind hm
 have hF588 : St _ _ _ _ _ _ ([.blk b1 (K58 v3 v5 v7 a0), .gs v7 c8 (csz api_Diag)] ++ []) := ((hS410.front 1 rfl).front 1 rfl)
 obtain ⟨v583, h584, Z589, A591, hcl585, hSc586, v593, v595, c596, c598, rfl, rfl, q592, q594, q597⟩ := flow_reader_add_ok F hF588.preL (q2.mono hS410.zle) (q4.mono hS410.zle) (q6.mono hS410.zle) hx582
 have hZ590 := hSc586.zle
 have hS587 := hF588.call hSc586
 replace hS587 : St _ _ _ _ _ _ [.blk b1 (K58 v593 v595 v7 r581.2), .gs v595 c596 (csz api_Node), .gs v7 c598 (csz api_Diag)] := hS587
 refine r_step rfl trivial (o_call hcl585 rfl rfl rfl) ?_
 refine xe 4 [(9, V (w64 (x201 + 1))), (8, V r581.1)] ?_
 refine rt ?_
 refine blkX_ret ?_
 refine ⟨rfl, ?_⟩
 obtain ⟨Z599, hZ600, q601, hS602⟩ := (hS587.front 1 rfl).freeze q594
 replace hS602 : St _ _ _ _ _ _ [.blk b1 (K58 v593 v595 v7 r581.2), .gs v7 c598 (csz api_Diag)] := hS602
 obtain rfl := si hm
 refine ⟨_, _, _, ResL.tmp rfl (ResL.tmp rfl (ResL.nil)), hS602, ?_⟩
 exact ⟨v593, v595, v7, c598, rfl, rfl, (q592.mono hZ600), q601, (q597.mono hZ600)⟩
 refine W_condF (x := .tmp 30) (by kernel_rfl) rfl (Bool.eq_false_iff.2 hp580) ?_
 refine sr r23_9 ?_
 refine xq 1 [(50, V r206), (0, Pt b1 0), (1, V a1), (2, V a2), (3, V a3), (10, V x201), (11, V x202), (12, V x203), (13, V r206)] ?_
 rcases ifs hm with ⟨hp753, hm⟩ | ⟨hp753, hm⟩
 refine r_step rfl trivial (o_cmp rfl rfl (c_eql_T hp753)) ?_
 refine xe 1 [(49, .bool true), (0, Pt b1 0), (1, V a1), (2, V a2), (3, V a3), (10, V x201), (11, V x202), (12, V x203), (13, V r206)] ?_
 refine cT 49 rfl ?_
 refine sr r23_10 ?_
 refine xq 5 [(56, V (w64 (x201 + 1))), (54, V x202), (53, V a1), (52, Pt b1 0), (10, V x201)] ?_
 obtain ⟨r772, hx773, hm⟩ := obind hm
 have hF779 : St _ _ _ _ _ _ ([.blk b1 (K58 v3 v5 v7 a0), .gs v7 c8 (csz api_Diag)] ++ []) := ((hS410.front 1 rfl).front 1 rfl)
 obtain ⟨v774, h775, Z780, A782, hcl776, hSc777, v784, v786, c787, c789, rfl, rfl, q783, q785, q788⟩ := flow_reader_add_ok F hF779.preL (q2.mono hS410.zle) (q4.mono hS410.zle) (q6.mono hS410.zle) hx773
 have hZ781 := hSc777.zle
 have hS778 := hF779.call hSc777
 replace hS778 : St _ _ _ _ _ _ [.blk b1 (K58 v784 v786 v7 r772.2), .gs v786 c787 (csz api_Node), .gs v7 c789 (csz api_Diag)] := hS778
 refine r_step rfl trivial (o_call hcl776 rfl rfl rfl) ?_
 refine xe 4 [(9, V (w64 (x201 + 1))), (8, V r772.1)] ?_
 refine rt ?_
 refine blkX_ret ?_
 refine ⟨rfl, ?_⟩
 obtain ⟨Z790, hZ791, q792, hS793⟩ := (hS778.front 1 rfl).freeze q785
 replace hS793 : St _ _ _ _ _ _ [.blk b1 (K58 v784 v786 v7 r772.2), .gs v7 c789 (csz api_Diag)] := hS793
 obtain rfl := si hm
 refine ⟨_, _, _, ResL.tmp rfl (ResL.tmp rfl (ResL.nil)), hS793, ?_⟩
 exact ⟨v784, v786, v7, c789, rfl, rfl, (q783.mono hZ791), q792, (q788.mono hZ791)⟩
 refine r_step rfl trivial (o_cmp rfl rfl (c_eql_F hp753)) ?_
 refine xe 1 [(49, .bool false), (0, Pt b1 0), (1, V a1), (2, V a2), (3, V a3), (10, V x201), (11, V x202), (12, V x203), (13, V r206)] ?_
 refine cF 49 rfl ?_
 refine sr r23_11 ?_
 refine xq 1 [(61, V r206), (0, Pt b1 0), (1, V a1), (2, V a2), (3, V a3), (10, V x201), (11, V x202), (12, V x203), (13, V r206)] ?_
 rcases ifs hm with ⟨hp1054, hm⟩ | ⟨hp1054, hm⟩
 refine r_step rfl trivial (o_cmp rfl rfl (c_eql_T hp1054)) ?_
 refine xe 1 [(60, .bool true), (0, Pt b1 0), (1, V a1), (2, V a2), (3, V a3), (10, V x201), (11, V x202), (12, V x203), (13, V r206)] ?_
 refine cT 60 rfl ?_
 refine sr r23_12 ?_
 refine xq 2 [(64, V x201), (63, Pt b1 0), (0, Pt b1 0), (1, V a1), (11, V x202)] ?_
 obtain ⟨r1084, hx1085, hm⟩ := obind hm
 have hF1091 : St _ _ _ _ _ _ ([.blk b1 (K58 v3 v5 v7 a0), .gs v7 c8 (csz api_Diag)] ++ []) := ((hS410.front 1 rfl).front 1 rfl)
 obtain ⟨v1086, h1087, Z1092, A1094, hcl1088, hSc1089, rfl, rfl⟩ := flow_reader_texts_ok F hF1091.preL (q2.mono hS410.zle) (q4.mono hS410.zle) (q6.mono hS410.zle) hx1085
 have hZ1093 := hSc1089.zle
 have hS1090 := hF1091.call hSc1089
 replace hS1090 : St _ _ _ _ _ _ [.blk b1 (K58 v3 v5 v7 a0), .gs v7 c8 (csz api_Diag)] := hS1090
 refine r_step rfl trivial (o_call hcl1088 rfl rfl rfl) ?_
 refine xe 1 [(9, V r1084), (0, Pt b1 0), (1, V a1), (11, V x202)] ?_
 refine sr r23_13 ?_
 refine xq 4 [(69, V r1084), (68, V x202), (67, V a1), (66, Pt b1 0), (9, V r1084)] ?_
 obtain ⟨r1095, hx1096, hm⟩ := obind hm
 have hF1102 : St _ _ _ _ _ _ ([.blk b1 (K58 v3 v5 v7 a0), .gs v7 c8 (csz api_Diag)] ++ []) := ((hS1090.front 1 rfl).front 1 rfl)
 obtain ⟨v1097, h1098, Z1103, A1105, hcl1099, hSc1100, v1107, v1109, c1110, c1112, rfl, rfl, q1106, q1108, q1111⟩ := flow_reader_add_ok F hF1102.preL (q2.mono (hS410.zle.trans hZ1093)) (q4.mono (hS410.zle.trans hZ1093)) (q6.mono (hS410.zle.trans hZ1093)) hx1096
 have hZ1104 := hSc1100.zle
 have hS1101 := hF1102.call hSc1100
 replace hS1101 : St _ _ _ _ _ _ [.blk b1 (K58 v1107 v1109 v7 r1095.2), .gs v1109 c1110 (csz api_Node), .gs v7 c1112 (csz api_Diag)] := hS1101
 refine r_step rfl trivial (o_call hcl1099 rfl rfl rfl) ?_
 refine xe 3 [(9, V r1084), (8, V r1095.1)] ?_
 refine rt ?_
 refine blkX_ret ?_
 refine ⟨rfl, ?_⟩
 obtain ⟨Z1113, hZ1114, q1115, hS1116⟩ := (hS1101.front 1 rfl).freeze q1108
 replace hS1116 : St _ _ _ _ _ _ [.blk b1 (K58 v1107 v1109 v7 r1095.2), .gs v7 c1112 (csz api_Diag)] := hS1116
 obtain rfl := si hm
 refine ⟨_, _, _, ResL.tmp rfl (ResL.tmp rfl (ResL.nil)), hS1116, ?_⟩
 exact ⟨v1107, v1109, v7, c1112, rfl, rfl, (q1106.mono hZ1114), q1115, (q1111.mono hZ1114)⟩
 refine r_step rfl trivial (o_cmp rfl rfl (c_eql_F hp1054)) ?_
 refine xe 1 [(60, .bool false), (0, Pt b1 0), (1, V a1), (2, V a2), (3, V a3), (10, V x201), (11, V x202), (12, V x203), (13, V r206)] ?_
 refine cF 60 rfl ?_
 refine sq ?_
 obtain ⟨o1235, ho1234, hm⟩ := obind hm
 refine W_join [0, 1, 2, 3, 10, 11, 12, 13, 72] (fun l h => ∃ Z1245 : Zn, ∃ x1246 : Bool, x1246 = o1235 ∧ l = [(0, Pt b1 0), (1, V a1), (2, V a2), (3, V a3), (10, V x201), (11, V x202), (12, V x203), (13, V r206), (72, .bool x1246)] ∧ St hs (idsL [.blk b1 (K58 v3 v5 v7 a0), .gs v7 c8 (csz api_Diag)]) Z (0, 0) Z1245 h [.blk b1 (K58 v3 v5 v7 a0), .gs v7 c8 (csz api_Diag)]) ?_ ?_
 rintro l h1247 ⟨Z1245, x1246, rfl, rfl, hS1248⟩
 try dsimp only at hm
 rcases ifs hm with ⟨hp1326, hm⟩ | ⟨hp1326, hm⟩
 refine W_condT (x := .tmp 72) (by kernel_rfl) rfl hp1326 ?_
 refine sr r23_15 ?_
 refine xq 2 [(80, V x201), (79, Pt b1 0), (0, Pt b1 0), (1, V a1), (11, V x202)] ?_
 obtain ⟨r1327, hx1328, hm⟩ := obind hm
 have hF1334 : St _ _ _ _ _ _ ([.blk b1 (K58 v3 v5 v7 a0), .gs v7 c8 (csz api_Diag)] ++ []) := ((hS1248.front 1 rfl).front 1 rfl)
 obtain ⟨v1329, h1330, Z1335, A1337, hcl1331, hSc1332, rfl, rfl⟩ := flow_reader_closed_ok F hF1334.preL (q2.mono hS1248.zle) (q4.mono hS1248.zle) (q6.mono hS1248.zle) hx1328
 have hZ1336 := hSc1332.zle
 have hS1333 := hF1334.call hSc1332
 replace hS1333 : St _ _ _ _ _ _ [.blk b1 (K58 v3 v5 v7 a0), .gs v7 c8 (csz api_Diag)] := hS1333
 refine r_step rfl trivial (o_call hcl1331 rfl rfl rfl) ?_
 refine xe 1 [(9, V r1327), (0, Pt b1 0), (1, V a1), (11, V x202)] ?_
 refine sr r23_16 ?_
 refine xq 4 [(85, V r1327), (84, V x202), (83, V a1), (82, Pt b1 0), (9, V r1327)] ?_
 obtain ⟨r1338, hx1339, hm⟩ := obind hm
 have hF1345 : St _ _ _ _ _ _ ([.blk b1 (K58 v3 v5 v7 a0), .gs v7 c8 (csz api_Diag)] ++ []) := ((hS1333.front 1 rfl).front 1 rfl)
 obtain ⟨v1340, h1341, Z1346, A1348, hcl1342, hSc1343, v1350, v1352, c1353, v1355, c1356, rfl, rfl, q1349, q1351, q1354⟩ := flow_reader_wrong_ok F hF1345.preL (q2.mono (hS1248.zle.trans hZ1336)) (q4.mono (hS1248.zle.trans hZ1336)) (q6.mono (hS1248.zle.trans hZ1336)) hx1339
 have hZ1347 := hSc1343.zle
 have hS1344 := hF1345.call hSc1343
 replace hS1344 : St _ _ _ _ _ _ [.blk b1 (K58 v1350 v1352 v1355 r1338.2), .gs v1352 c1353 (csz api_Node), .gs v1355 c1356 (csz api_Diag)] := hS1344
 refine r_step rfl trivial (o_call hcl1342 rfl rfl rfl) ?_
 refine xe 3 [(9, V r1327), (8, V r1338.1)] ?_
 refine rt ?_
 refine blkX_ret ?_
 refine ⟨rfl, ?_⟩
 obtain ⟨Z1357, hZ1358, q1359, hS1360⟩ := (hS1344.front 1 rfl).freeze q1351
 replace hS1360 : St _ _ _ _ _ _ [.blk b1 (K58 v1350 v1352 v1355 r1338.2), .gs v1355 c1356 (csz api_Diag)] := hS1360
 obtain rfl := si hm
 refine ⟨_, _, _, ResL.tmp rfl (ResL.tmp rfl (ResL.nil)), hS1360, ?_⟩
 exact ⟨v1350, v1352, v1355, c1356, rfl, rfl, (q1349.mono hZ1358), q1359, (q1354.mono hZ1358)⟩
 refine W_condF (x := .tmp 72) (by kernel_rfl) rfl (Bool.eq_false_iff.2 hp1326) ?_
 refine sr r23_17 ?_
 refine xq 1 [(89, V r206), (0, Pt b1 0), (1, V a1), (2, V a2), (3, V a3), (10, V x201), (11, V x202), (12, V x203)] ?_
 obtain ⟨r1361, hx1362, hm⟩ := obind hm
 obtain ⟨v1363, h1364, hcl1365, hSc1366, rfl⟩ := flow_opens_ok F hS1248.inv  hx1362
 have hS1367 := St.call (A := []) (B := [.blk b1 (K58 v3 v5 v7 a0), .gs v7 c8 (csz api_Diag)]) hS1248 hSc1366
 replace hS1367 : St _ _ _ _ _ _ [.blk b1 (K58 v3 v5 v7 a0), .gs v7 c8 (csz api_Diag)] := hS1367
 refine r_step rfl trivial (o_call hcl1365 rfl rfl rfl) ?_
 refine xe 1 [(88, .bool r1361), (0, Pt b1 0), (1, V a1), (2, V a2), (3, V a3), (10, V x201), (11, V x202), (12, V x203)] ?_
 rcases ifs hm with ⟨hp1407, hm⟩ | ⟨hp1407, hm⟩
 refine W_condT (x := .tmp 88) (by kernel_rfl) rfl hp1407 ?_
 refine sr r23_18 ?_
 refine xq 5 [(95, V a3), (94, V x201), (93, V x202), (92, V a1), (91, Pt b1 0)] ?_
 obtain ⟨r1408, hx1409, hm⟩ := obind hm
 have hF1415 : St _ _ _ _ _ _ ([.blk b1 (K58 v3 v5 v7 a0), .gs v7 c8 (csz api_Diag)] ++ []) := ((hS1367.front 1 rfl).front 1 rfl)
 obtain ⟨v1410, h1411, Z1416, A1418, hcl1412, hSc1413, v1420, v1422, c1423, v1425, c1426, rfl, rfl, q1419, q1421, q1424⟩ := flow_reader_collection_ok F rec_flow_reader_value hrec_flow_reader_value hF1415.preL (q2.mono hS1248.zle) (q4.mono hS1248.zle) (q6.mono hS1248.zle) hx1409
 have hZ1417 := hSc1413.zle
 have hS1414 := hF1415.call hSc1413
 replace hS1414 : St _ _ _ _ _ _ [.blk b1 (K58 v1420 v1422 v1425 r1408.2.2), .gs v1422 c1423 (csz api_Node), .gs v1425 c1426 (csz api_Diag)] := hS1414
 refine r_step rfl trivial (o_call hcl1412 rfl rfl rfl) ?_
 refine xe 4 [(9, V r1408.2.1), (8, V r1408.1)] ?_
 refine rt ?_
 refine blkX_ret ?_
 refine ⟨rfl, ?_⟩
 obtain ⟨Z1427, hZ1428, q1429, hS1430⟩ := (hS1414.front 1 rfl).freeze q1421
 replace hS1430 : St _ _ _ _ _ _ [.blk b1 (K58 v1420 v1422 v1425 r1408.2.2), .gs v1425 c1426 (csz api_Diag)] := hS1430
 obtain rfl := si hm
 refine ⟨_, _, _, ResL.tmp rfl (ResL.tmp rfl (ResL.nil)), hS1430, ?_⟩
 exact ⟨v1420, v1422, v1425, c1426, rfl, rfl, (q1419.mono hZ1428), q1429, (q1424.mono hZ1428)⟩
 refine W_condF (x := .tmp 88) (by kernel_rfl) rfl (Bool.eq_false_iff.2 hp1407) ?_
 refine sr r23_19 ?_
 refine xq 1 [(100, V x203), (0, Pt b1 0), (1, V a1), (2, V a2), (11, V x202), (12, V x203)] ?_
 rcases ifs hm with ⟨hp1450, hm⟩ | ⟨hp1450, hm⟩
 refine r_step rfl trivial (o_cmp rfl rfl (c_geq_T hp1450)) ?_
 refine xe 1 [(99, .bool true), (0, Pt b1 0), (1, V a1), (2, V a2), (11, V x202), (12, V x203)] ?_
 refine cT 99 rfl ?_
 refine sr r23_20 ?_
 refine xq 5 [(106, V (w64 (x203 + 1))), (104, V x202), (103, V a1), (102, Pt b1 0), (12, V x203)] ?_
 obtain ⟨r1469, hx1470, hm⟩ := obind hm
 have hF1476 : St _ _ _ _ _ _ ([.blk b1 (K58 v3 v5 v7 a0), .gs v7 c8 (csz api_Diag)] ++ []) := ((hS1367.front 1 rfl).front 1 rfl)
 obtain ⟨v1471, h1472, Z1477, A1479, hcl1473, hSc1474, v1481, v1483, c1484, c1486, rfl, rfl, q1480, q1482, q1485⟩ := flow_reader_add_ok F hF1476.preL (q2.mono hS1248.zle) (q4.mono hS1248.zle) (q6.mono hS1248.zle) hx1470
 have hZ1478 := hSc1474.zle
 have hS1475 := hF1476.call hSc1474
 replace hS1475 : St _ _ _ _ _ _ [.blk b1 (K58 v1481 v1483 v7 r1469.2), .gs v1483 c1484 (csz api_Node), .gs v7 c1486 (csz api_Diag)] := hS1475
 refine r_step rfl trivial (o_call hcl1473 rfl rfl rfl) ?_
 refine xe 4 [(9, V (w64 (x203 + 1))), (8, V r1469.1)] ?_
 refine rt ?_
 refine blkX_ret ?_
 refine ⟨rfl, ?_⟩
 obtain ⟨Z1487, hZ1488, q1489, hS1490⟩ := (hS1475.front 1 rfl).freeze q1482
 replace hS1490 : St _ _ _ _ _ _ [.blk b1 (K58 v1481 v1483 v7 r1469.2), .gs v7 c1486 (csz api_Diag)] := hS1490
 obtain rfl := si hm
 refine ⟨_, _, _, ResL.tmp rfl (ResL.tmp rfl (ResL.nil)), hS1490, ?_⟩
 exact ⟨v1481, v1483, v7, c1486, rfl, rfl, (q1480.mono hZ1488), q1489, (q1485.mono hZ1488)⟩
 refine r_step rfl trivial (o_cmp rfl rfl (c_geq_F hp1450)) ?_
 refine xe 1 [(99, .bool false), (0, Pt b1 0), (1, V a1), (2, V a2), (11, V x202), (12, V x203)] ?_
 refine kF 99 rfl ?_
 refine sr r23_21 ?_
 refine xe 3 [(9, V a2), (8, V (-1))] ?_
 refine rt ?_
 refine ⟨rfl, ?_⟩
 obtain rfl := si hm
 refine ⟨_, _, _, ResL.tmp rfl (ResL.tmp rfl (ResL.nil)), hS1367, ?_⟩
 exact ⟨v3, v5, v7, c8, rfl, rfl, (q2.mono hS1248.zle), (q4.mono hS1248.zle), (q6.mono hS1248.zle)⟩
 refine rg r23_14 ?_
 refine xq 1 [(73, V r206), (0, Pt b1 0), (1, V a1), (2, V a2), (3, V a3), (10, V x201), (11, V x202), (12, V x203), (13, V r206)] ?_
 obtain ⟨r1236, hx1237, ho1234⟩ := obind ho1234
 obtain ⟨v1238, h1239, hcl1240, hSc1241, rfl⟩ := flow_opens_ok F hS410.inv  hx1237
 have hS1242 := St.call (A := []) (B := [.blk b1 (K58 v3 v5 v7 a0), .gs v7 c8 (csz api_Diag)]) hS410 hSc1241
 replace hS1242 : St _ _ _ _ _ _ [.blk b1 (K58 v3 v5 v7 a0), .gs v7 c8 (csz api_Diag)] := hS1242
 refine r_step rfl trivial (o_call hcl1240 rfl rfl rfl) ?_
 refine xq 1 [(75, .bool r1236), (0, Pt b1 0), (1, V a1), (2, V a2), (3, V a3), (10, V x201), (11, V x202), (12, V x203), (13, V r206)] ?_
 rcases ifs ho1234 with ⟨hp1243, ho1234⟩ | ⟨hp1243, ho1234⟩
 refine r_setb (t := 75) rfl hp1243 ?_
 refine xq 1 [(76, V a3), (75, .bool true), (0, Pt b1 0), (1, V a1), (2, V a2), (3, V a3), (10, V x201), (11, V x202), (12, V x203), (13, V r206)] ?_
 rcases ifs ho1234 with ⟨hp1244, ho1234⟩ | ⟨hp1244, ho1234⟩
 refine r_step rfl rfl (o_cmp rfl rfl (c_leq_T hp1244)) ?_
 refine xe 2 [(72, .bool true), (0, Pt b1 0), (1, V a1), (2, V a2), (3, V a3), (10, V x201), (11, V x202), (12, V x203), (13, V r206)] ?_
 obtain rfl := si ho1234
 exact ⟨_, true, rfl, rfl, hS1242⟩
 refine r_step rfl rfl (o_cmp rfl rfl (c_leq_F hp1244)) ?_
 refine xe 2 [(72, .bool false), (0, Pt b1 0), (1, V a1), (2, V a2), (3, V a3), (10, V x201), (11, V x202), (12, V x203), (13, V r206)] ?_
 obtain rfl := si ho1234
 exact ⟨_, false, rfl, rfl, hS1242⟩
 refine r_setb (t := 75) rfl (Bool.eq_false_iff.2 hp1243) ?_
 refine xe 4 [(72, .bool false), (0, Pt b1 0), (1, V a1), (2, V a2), (3, V a3), (10, V x201), (11, V x202), (12, V x203), (13, V r206)] ?_
 obtain rfl := si ho1234
 exact ⟨_, false, rfl, rfl, hS1242⟩
 refine rg r23_7 ?_
 refine xq 1 [(31, V r206), (13, V r206), (0, Pt b1 0), (1, V a1), (2, V a2), (3, V a3), (10, V x201), (11, V x202), (12, V x203)] ?_
 rcases ifs ho402 with ⟨hp404, ho402⟩ | ⟨hp404, ho402⟩
 refine r_step rfl trivial (o_cmp rfl rfl (c_eql_T hp404)) ?_
 refine xe 9 [(30, .bool true), (13, V r206), (0, Pt b1 0), (1, V a1), (2, V a2), (3, V a3), (10, V x201), (11, V x202), (12, V x203)] ?_
 obtain rfl := si ho402
 exact ⟨_, true, rfl, rfl, hS212⟩
 refine r_step rfl trivial (o_cmp rfl rfl (c_eql_F hp404)) ?_
 refine xq 2 [(34, V r206), (33, .bool false), (13, V r206), (0, Pt b1 0), (1, V a1), (2, V a2), (3, V a3), (10, V x201), (11, V x202), (12, V x203)] ?_
 rcases ifs ho402 with ⟨hp405, ho402⟩ | ⟨hp405, ho402⟩
 refine r_step rfl rfl (o_cmp rfl rfl (c_eql_T hp405)) ?_
 refine xe 6 [(30, .bool true), (13, V r206), (0, Pt b1 0), (1, V a1), (2, V a2), (3, V a3), (10, V x201), (11, V x202), (12, V x203)] ?_
 obtain rfl := si ho402
 exact ⟨_, true, rfl, rfl, hS212⟩
 refine r_step rfl rfl (o_cmp rfl rfl (c_eql_F hp405)) ?_
 refine xq 3 [(38, V r206), (37, .bool false), (13, V r206), (0, Pt b1 0), (1, V a1), (2, V a2), (3, V a3), (10, V x201), (11, V x202), (12, V x203)] ?_
 rcases ifs ho402 with ⟨hp406, ho402⟩ | ⟨hp406, ho402⟩
 refine r_step rfl rfl (o_cmp rfl rfl (c_eql_T hp406)) ?_
 refine xe 2 [(30, .bool true), (13, V r206), (0, Pt b1 0), (1, V a1), (2, V a2), (3, V a3), (10, V x201), (11, V x202), (12, V x203)] ?_
 obtain rfl := si ho402
 exact ⟨_, true, rfl, rfl, hS212⟩
 refine r_step rfl rfl (o_cmp rfl rfl (c_eql_F hp406)) ?_
 refine xe 2 [(30, .bool false), (13, V r206), (0, Pt b1 0), (1, V a1), (2, V a2), (3, V a3), (10, V x201), (11, V x202), (12, V x203)] ?_
 obtain rfl := si ho402
 exact ⟨_, false, rfl, rfl, hS212⟩
 refine bk 0 ?_
 refine lp [0, 1, 2, 3, 10, 11, 12] (fun n l h => ∃ Z140 : Zn, ∃ x141 : Int, ∃ x142 : Int, ∃ x143 : Int, flow_reader_value_l0 F rec_flow_reader_value a0 a1 a2 a3 n x141 x142 x143 = some o139 ∧ l = [(0, Pt b1 0), (1, V a1), (2, V a2), (3, V a3), (10, V x141), (11, V x142), (12, V x143)] ∧ St hs (idsL [.blk b1 (K58 v3 v5 v7 a0), .gs v7 c8 (csz api_Diag)]) Z (0, 0) Z140 h [.blk b1 (K58 v3 v5 v7 a0), .gs v7 c8 (csz api_Diag)]) F ⟨_, r16, r16, (-1), ho138, rfl, hS22⟩ ?_
 rintro n146 l h144 ⟨Z140, x141, x142, x143, ho138, rfl, hS145⟩
 rcases n146 with _ | n146
 cases (show none = some o139 from ho138)
 rw [flow_reader_value_l0] at ho138
 refine sq ?_
 refine sr r23_3 ?_
 refine xq 2 [(19, V x141), (18, Pt b1 0), (0, Pt b1 0), (1, V a1), (2, V a2), (3, V a3), (10, V x141), (11, V x142), (12, V x143)] ?_
 obtain ⟨r166, hx167, ho138⟩ := obind ho138
 have hF173 : St _ _ _ _ _ _ ([.blk b1 (K58 v3 v5 v7 a0), .gs v7 c8 (csz api_Diag)] ++ []) := ((hS145.front 1 rfl).front 1 rfl)
 obtain ⟨v168, h169, Z174, A176, hcl170, hSc171, rfl, rfl⟩ := flow_reader_kind_ok F hF173.preL (q2.mono hS145.zle) (q4.mono hS145.zle) (q6.mono hS145.zle) hx167
 have hZ175 := hSc171.zle
 have hS172 := hF173.call hSc171
 replace hS172 : St _ _ _ _ _ _ [.blk b1 (K58 v3 v5 v7 a0), .gs v7 c8 (csz api_Diag)] := hS172
 refine r_step rfl trivial (o_call hcl170 rfl rfl rfl) ?_
 obtain ⟨r177, hx178, ho138⟩ := obind ho138
 obtain ⟨v179, h180, hcl181, hSc182, rfl⟩ := flow_property_ok F hS172.inv  hx178
 have hS183 := St.call (A := []) (B := [.blk b1 (K58 v3 v5 v7 a0), .gs v7 c8 (csz api_Diag)]) hS172 hSc182
 replace hS183 : St _ _ _ _ _ _ [.blk b1 (K58 v3 v5 v7 a0), .gs v7 c8 (csz api_Diag)] := hS183
 refine r_step rfl trivial (o_call hcl181 rfl rfl rfl) ?_
 refine xf [(21, .bool r177), (0, Pt b1 0), (1, V a1), (2, V a2), (3, V a3), (10, V x141), (11, V x142), (12, V x143)] ?_
 rcases ifs ho138 with ⟨hp185, ho138⟩ | ⟨hp185, ho138⟩
 refine W_condT (x := .tmp 21) (by kernel_rfl) rfl hp185 ?_
 refine sk ?_
 refine bk 1 ?_
 refine sr r23_4 ?_
 refine xe 2 [(12, V x141), (0, Pt b1 0), (1, V a1), (2, V a2), (3, V a3), (10, V x141), (11, V x142)] ?_
 refine rg r23_5 ?_
 refine xq 3 [(25, V (w64 (x141 + 1))), (23, Pt b1 0), (12, V x141), (0, Pt b1 0), (1, V a1), (2, V a2), (3, V a3), (10, V x141), (11, V x142)] ?_
 obtain ⟨r186, hx187, ho138⟩ := obind ho138
 have hF193 : St _ _ _ _ _ _ ([.blk b1 (K58 v3 v5 v7 a0), .gs v7 c8 (csz api_Diag)] ++ []) := ((hS183.front 1 rfl).front 1 rfl)
 obtain ⟨v188, h189, Z194, A196, hcl190, hSc191, rfl, rfl⟩ := flow_reader_blanks_ok F hF193.preL (q2.mono (hS145.zle.trans hZ175)) (q4.mono (hS145.zle.trans hZ175)) (q6.mono (hS145.zle.trans hZ175)) hx187
 have hZ195 := hSc191.zle
 have hS192 := hF193.call hSc191
 replace hS192 : St _ _ _ _ _ _ [.blk b1 (K58 v3 v5 v7 a0), .gs v7 c8 (csz api_Diag)] := hS192
 refine r_step rfl trivial (o_call hcl190 rfl rfl rfl) ?_
 refine xe 1 [(10, V r186), (12, V x141), (0, Pt b1 0), (1, V a1), (2, V a2), (3, V a3), (11, V x142)] ?_
 exact ⟨n146, Nat.lt_succ_self _, ⟨_, r186, x142, x141, ho138, rfl, hS192⟩⟩
 refine W_condF (x := .tmp 21) (by kernel_rfl) rfl (Bool.eq_false_iff.2 hp185) ?_
 refine xt 0 ?_
 refine blkX_hit ?_
 obtain rfl := si ho138
 exact ⟨_, x141, x142, x143, rfl, rfl, hS183⟩
def flow_reader_value_r (F : Nat) : Nat → flow_reader → Int → Int → Int → Option (Int × Int × flow_reader)
 | 0 => fun _ _ _ _ => none
 | n + 1 => flow_reader_value_b F (flow_reader_value_r F n)
theorem flow_reader_value_rC (F : Nat) : ∀ n, flow_reader_value_C (flow_reader_value_r F n)
 | 0 => by intro hP q2 q4 q6 r hm; cases hm
 | n + 1 => by intro hP q2 q4 q6 r hm; exact flow_reader_value_b_ok F _ (flow_reader_value_rC F n) hP q2 q4 q6 hm
def flow_reader_value (F : Nat) (a0 : flow_reader) (a1 : Int) (a2 : Int) (a3 : Int) : Option (Int × Int × flow_reader) := flow_reader_value_r F F a0 a1 a2 a3
theorem flow_reader_value_ok (F : Nat) {h : AH} {Z : Zn} {a0 : flow_reader} {a1 : Int} {a2 : Int} {a3 : Int} {b1 : Nat} {v3 : Value} {v5 : Value} {v7 : Value} {c8 : List Value} (hP : Pre Z h [.blk b1 (K58 v3 v5 v7 a0), .gs v7 c8 (csz api_Diag)]) (q2 : RS (α := api_Token) Z v3 a0.l_) (q4 : RS (α := api_Node) Z v5 a0.t_.Nodes) (q6 : RCs (α := api_Diag) Z c8 a0.d_) {r : Int × Int × flow_reader} (hm : flow_reader_value F a0 a1 a2 a3 = some r) :
  ∃ v h' Z' A', callI Try.prog 23 [Pt b1 0, V a1, V a2, V a3] h = some (v, h') ∧ St h (idsL [.blk b1 (K58 v3 v5 v7 a0), .gs v7 c8 (csz api_Diag)]) Z (0, 0) Z' h' A' ∧ ∃ v10 : Value, ∃ v12 : Value, ∃ v14 : Value, ∃ c15 : List Value, .tuple #[V r.1, V r.2.1] = v ∧ A' = [.blk b1 (K58 v10 v12 v14 r.2.2), .gs v14 c15 (csz api_Diag)] ∧ RS (α := api_Token) Z' v10 r.2.2.l_ ∧ RS (α := api_Node) Z' v12 r.2.2.t_.Nodes ∧ RCs (α := api_Diag) Z' c15 r.2.2.d_ := flow_reader_value_rC F F hP q2 q4 q6 hm


def r24_0 : List COp := [u 2 (.assign (.const (.slice none 0 0)))]
def r24_1 : List COp := [u 3 (mv 0), u 4 (.binOp .eql 30 (t 3) (.const (.slice none 0 0)) 30)]
def r24_2 : List COp := [u 2 (.assign (.const (.slice none 0 0)))]
def r24_3 : List COp := [u 5 (.buildSlice 30 0 #[]), u 6 (mv 0), u 7 (cb .append #[(t 5), (t 6)] #[30, 30]), u 2 (sg 7)]
def slices_Clone_api_Diag (F : Nat) (a0 : List api_Diag) : Option (List api_Diag) :=
 if ([] : List api_Diag).length + a0.length ≤ 5864062014805 then
  some (([] : List api_Diag) ++ a0)
 else none
theorem slices_Clone_api_Diag_ok (F : Nat) {h : AH} {Z : Zn} {a0 : List api_Diag} {v2 : Value} (hP : Pre Z h []) (q1 : RS (α := api_Diag) Z v2 a0) {r : (List api_Diag)} (hm : slices_Clone_api_Diag F a0 = some r) :
  ∃ v h' Z' A', callI Try.prog 24 [v2] h = some (v, h') ∧ St h (idsL []) Z (0, 0) Z' h' A' ∧ ∃ v4 : Value, ∃ c5 : List Value, v4 = v ∧ A' = [.gs v4 c5 (csz api_Diag)] ∧ RCs (α := api_Diag) Z' c5 r := by
 refine fn_intro (A := []) (Q := fun v Z' A' => ∃ v4 : Value, ∃ c5 : List Value, v4 = v ∧ A' = [.gs v4 c5 (csz api_Diag)] ∧ RCs (α := api_Diag) Z' c5 r) Try.func24 rfl rfl (by kernel_rfl) hP ?_
 intro hs hS
 unfold slices_Clone_api_Diag at hm
 replace hS : St hs [] Z (0, 0) Z hs [] := hS
 refine sr r24_0 ?_
 refine xe 1 [(0, v2)] ?_
 refine sq ?_
 refine sr r24_1 ?_
 refine xq 1 [(3, v2), (0, v2)] ?_
 rcases nil_or q1 with ⟨hn8, hv9⟩ | hv9
 replace hm : some [] = some r := by rw [hn8] at hm; simpa using hm
 refine r_step rfl trivial (o_cmp rfl rfl (c_nilT ⟨_, Try.underlying30⟩ hv9)) ?_
 refine xf [(4, .bool true), (0, v2)] ?_
 refine cT 4 rfl ?_
 refine sr r24_2 ?_
 refine xe 1 [(2, .slice none 0 0)] ?_
 refine rt ?_
 refine ⟨rfl, ?_⟩
 have hS10 := hS.nilGs (csz api_Diag)
 obtain rfl := si hm
 refine ⟨_, _, _, ResL.tmp rfl (ResL.nil), hS10, ?_⟩
 exact ⟨(.slice none 0 0), [], rfl, rfl, (RCs.nil0 _)⟩
 refine r_step rfl trivial (o_cmp rfl rfl (c_nilF ⟨_, Try.underlying30⟩ hv9)) ?_
 refine xf [(4, .bool false), (0, v2)] ?_
 refine kF 4 rfl ?_
 refine sr r24_3 ?_
 have q15 : RCs (α := api_Diag) Z [] [] := RCs.nil0 _
 refine r_row rfl trivial (o_bs (cells := []) (s := 3) (by kernel_rfl)) (by kernel_rfl) hS ?_
 intro v12 h13 hS14
 replace hS14 : St _ _ _ _ _ _ [.gs v12 [] (csz api_Diag)] := hS14
 refine xq 1 [(6, v2), (5, v12)] ?_
 obtain ⟨c18, nw17⟩ := RS.news q1 (hS14).inv
 obtain ⟨hc24, hm⟩ := chk hm
 refine r_ex3 rfl trivial (o_app (ys := a0) (by_ := 24) hS14 (i := 0) rfl q15 nw17 rfl rfl (by kernel_rfl) (by omega) (by omega)) ?_
 rintro v19 c20 h21 ⟨q23, hS22⟩
 replace hS22 : St _ _ _ _ _ _ [.gs v19 c20 (csz api_Diag)] := hS22
 refine xe 1 [(2, v19)] ?_
 refine rt ?_
 refine ⟨rfl, ?_⟩
 obtain rfl := si hm
 refine ⟨_, _, _, ResL.tmp rfl (ResL.nil), hS22, ?_⟩
 exact ⟨v19, c20, rfl, rfl, q23⟩

def r11_0 : List COp := [u 9 (.box 29 (t 2)), u 14 (.alloc 29), u 15 (.assign (ci 0)), u 16 (.assign (ci 0)), u 17 (.assign (.const (.slice none 0 0)))]
def r11_1 : List COp := [u 19 (mv 1), u 20 (mv 5), u 21 (mv 1), u 22 (cb .len #[(t 21)] #[25]), u 23 (cb .min #[(t 20), (t 22)] #[3, 3]), u 24 (ld 29 9), u 25 (cf 22 #[(t 24), (ci (-1)), (ci 0)] #[29, 3, 3]), u 26 (.build 58 #[(0, (t 19)), (1, (t 23)), (2, (t 25))]), u 27 (.box 58 (t 26)), u 18 (sg 27)]
def r11_2 : List COp := [u 28 (mv 4), u 29 (bc .lss 3 28 0 3), u 30 (mv 29), gn 30 31 (mv 3), gn 30 32 (bc .lss 3 31 0 3), u 33 (pt 30 32), u 34 (mv 33), gn 34 35 (mv 3), gn 34 36 (fa 29 9 0), gn 34 37 (ld 27 36), gn 34 38 (cb .len #[(t 37)] #[27]), gn 34 39 (bo .geq 3 35 38 3), u 40 (pt 34 39)]
def r11_3 : List COp := [u 41 (mv 18), u 42 (nk 41), u 43 (fa 58 42 2), u 44 (ld 29 43), u 45 (mv 4), o (.store 29 (t 14) (t 44)), u 15 (.assign (ci (-1))), u 16 (sg 45), u 17 (.assign (.const (.slice none 0 0)))]
def r11_4 : List COp := [u 47 (mv 18), u 48 (mv 3), u 49 (mv 4), u 50 (mv 6), u 51 (cf 23 #[(t 47), (t 48), (t 49), (t 50)] #[55, 3, 3, 3]), u 46 (mv 51), u 52 (.extract (t 46) 0), u 53 (.extract (t 46) 1), u 15 (sg 52), u 16 (sg 53)]
def r11_5 : List COpF := [uP 54 (mv 18), uP 55 (nk 54), uP 56 (fa 58 55 2), uL 57 (ld 29 56), uP 58 (mv 15), uP 59 (mv 16), uP 60 (mv 18), uP 61 (nk 60), uP 62 (fa 58 61 3), uL 63 (ld 30 62), uF 64 (cf 24 #[(t 63)] #[30]) .make [9], oF (.store 29 (t 14) (t 57)) .make [3, 9], uP 15 (sg 58), uP 16 (sg 59), uP 17 (sg 64)]
def flow_Value (F : Nat) (a0 : List UInt8) (a1 : List api_Token) (a2 : arena_Tree) (a3 : Int) (a4 : Int) (a5 : Int) (a6 : Int) : Option (arena_Tree × Int × Int × (List api_Diag)) :=
 (arena_Grow F a2 (-1) 0).bind fun r18 =>
 if a4 < (0 : Int) then
  some (r18, (-1), a4, [])
 else
  if a3 < (0 : Int) then
   some (r18, (-1), a4, [])
  else
   if (a2.Nodes.length : Int) ≤ a3 then
    some (r18, (-1), a4, [])
   else
    (flow_reader_value F (⟨a1, imin a5 (a1.length : Int), r18, []⟩ : flow_reader) a3 a4 a6).bind fun r92 =>
    (slices_Clone_api_Diag F r92.2.2.d_).bind fun r120 =>
    some (r92.2.2.t_, r92.1, r92.2.1, r120)
theorem flow_Value_ok (F : Nat) {h : AH} {Z : Zn} {a0 : List UInt8} {a1 : List api_Token} {a2 : arena_Tree} {a3 : Int} {a4 : Int} {a5 : Int} {a6 : Int} {v2 : Value} {v4 : Value} {v6 : Value} (hP : Pre Z h []) (q1 : RS (α := UInt8) Z v2 a0) (q3 : RS (α := api_Token) Z v4 a1) (q5 : RS (α := api_Node) Z v6 a2.Nodes) {r : arena_Tree × Int × Int × (List api_Diag)} (hm : flow_Value F a0 a1 a2 a3 a4 a5 a6 = some r) :
  ∃ v h' Z' A', callI Try.prog 11 [v2, v4, .agg #[v6], V a3, V a4, V a5, V a6] h = some (v, h') ∧ St h (idsL []) Z (0, 0) Z' h' A' ∧ ∃ v8 : Value, ∃ v10 : Value, ∃ c11 : List Value, .tuple #[.agg #[v8], V r.2.1, V r.2.2.1, v10] = v ∧ A' = [.gs v10 c11 (csz api_Diag)] ∧ RS (α := api_Node) Z' v8 r.1.Nodes ∧ RCs (α := api_Diag) Z' c11 r.2.2.2 := by
 refine fn_intro (A := []) (Q := fun v Z' A' => ∃ v8 : Value, ∃ v10 : Value, ∃ c11 : List Value, .tuple #[.agg #[v8], V r.2.1, V r.2.2.1, v10] = v ∧ A' = [.gs v10 c11 (csz api_Diag)] ∧ RS (α := api_Node) Z' v8 r.1.Nodes ∧ RCs (α := api_Diag) Z' c11 r.2.2.2) Try.func11 rfl rfl (by kernel_rfl) hP ?_
 intro hs hS
 unfold flow_Value at hm
 replace hS : St hs [] Z (0, 0) Z hs [] := hS
 refine sr r11_0 ?_
 refine r_blk rfl trivial (o_box (cs := [v6]) rfl rfl) hS ?_
 intro b12 h13 hS14
 refine r_blk rfl trivial (o_alloc (cs := [.slice none 0 0]) (by kernel_rfl)) hS14 ?_
 intro b15 h16 hS17
 refine xe 3 [(14, Pt b15 0), (9, Pt b12 0), (1, v4), (3, V a3), (4, V a4), (5, V a5), (6, V a6)] ?_
 refine sr r11_1 ?_
 refine xq 3 [(21, v4), (20, V a5), (19, v4), (14, Pt b15 0), (9, Pt b12 0), (3, V a3), (4, V a4), (6, V a6)] ?_
 refine r_step rfl trivial (o_len rfl (RS.len q3) ⟨_, Try.underlying25⟩) ?_
 refine xq 1 [(23, V (imin a5 (a1.length : Int))), (19, v4), (14, Pt b15 0), (9, Pt b12 0), (3, V a3), (4, V a4), (6, V a6)] ?_
 refine r_step rfl trivial (o_ldb (v := .agg #[v6]) hS17 (i := 1) rfl rfl (by kernel_rfl)) ?_
 obtain ⟨r18, hx19, hm⟩ := obind hm
 have hSr25 : St _ _ _ _ _ _ ([] ++ [.blk b15 [.slice none 0 0], .blk b12 [v6]]) := hS17
 obtain ⟨v20, h21, Z26, A28, hcl22, hSc23, v30, c31, rfl, rfl, q29⟩ := arena_Grow_ok F hSr25.preL q5 hx19
 have hS24 := hSr25.call hSc23
 have hZ27 := hSc23.zle
 replace hS24 : St _ _ _ _ _ _ [.gs v30 c31 (csz api_Node), .blk b15 [.slice none 0 0], .blk b12 [v6]] := hS24
 refine r_step rfl trivial (o_call hcl22 rfl rfl rfl) ?_
 refine r_step rfl trivial (o_build (v := .agg #[v4, V (imin a5 (a1.length : Int)), v30, .slice none 0 0]) rfl (CA.cons (cs := [v4]) (RS.cell1 (q3.mono hZ27)) (CA.cons (cs := [V (imin a5 (a1.length : Int))]) rfl (CA.cons (cs := [v30]) rfl (CA.nil0)))) (by kernel_rfl)) ?_
 refine r_blk rfl trivial (o_box (cs := [v4, V (imin a5 (a1.length : Int)), v30, .slice none 0 0]) rfl rfl) hS24 ?_
 intro b32 h33 hS34
 refine xe 1 [(18, Pt b32 0), (14, Pt b15 0), (9, Pt b12 0), (3, V a3), (4, V a4), (6, V a6)] ?_
 refine sq ?_
 refine sr r11_2 ?_
 refine xq 1 [(28, V a4), (18, Pt b32 0), (14, Pt b15 0), (9, Pt b12 0), (3, V a3), (4, V a4), (6, V a6)] ?_
 rcases ifs hm with ⟨hp53, hm⟩ | ⟨hp53, hm⟩
 refine r_step rfl trivial (o_cmp rfl rfl (c_lss_T hp53)) ?_
 refine xe 11 [(40, .bool true), (18, Pt b32 0), (14, Pt b15 0), (3, V a3), (4, V a4), (6, V a6)] ?_
 refine cT 40 rfl ?_
 refine sr r11_3 ?_
 refine xq 3 [(43, Pt b32 2), (14, Pt b15 0), (4, V a4)] ?_
 refine r_step rfl trivial (o_ldb (v := .agg #[v30]) hS34 (i := 0) rfl rfl (by kernel_rfl)) ?_
 refine xq 1 [(45, V a4), (44, .agg #[v30]), (14, Pt b15 0)] ?_
 refine r_ex1 rfl trivial (o_stb (vs := [v30]) (cells' := [v30]) (L' := [.blk b32 [v4, V (imin a5 (a1.length : Int)), v30, .slice none 0 0], .gs v30 c31 (csz api_Node), .blk b15 [v30], .blk b12 [v6]]) hS34 (i := 2) rfl rfl rfl rfl (by kernel_rfl) (one_cons (hS34.gone1 (i := 1) rfl) one_nil) rfl rfl rfl) ?_
 intro h56 hS57
 refine xe 3 [(17, .slice none 0 0), (16, V a4), (15, V (-1)), (14, Pt b15 0)] ?_
 refine rt ?_
 refine ⟨rfl, ?_⟩
 obtain ⟨Z58, hZ59, q60, hS61⟩ := (hS57.front 1 rfl).freeze q29
 replace hS61 : St _ _ _ _ _ _ [.blk b32 [v4, V (imin a5 (a1.length : Int)), v30, .slice none 0 0], .blk b15 [v30], .blk b12 [v6]] := hS61
 have hS62 := hS61.nilGs (csz api_Diag)
 obtain rfl := si hm
 refine ⟨_, _, _, ResL.cell (v := .agg #[v30]) rfl hS62 (i := 2) rfl (by kernel_rfl) (ResL.tmp rfl (ResL.tmp rfl (ResL.tmp rfl (ResL.nil)))), (hS62.takeN 1), ?_⟩
 exact ⟨v30, (.slice none 0 0), [], rfl, rfl, q60, (RCs.nil0 _)⟩
 refine r_step rfl trivial (o_cmp rfl rfl (c_lss_F hp53)) ?_
 refine xq 2 [(31, V a3), (30, .bool false), (18, Pt b32 0), (14, Pt b15 0), (9, Pt b12 0), (3, V a3), (4, V a4), (6, V a6)] ?_
 rcases ifs hm with ⟨hp64, hm⟩ | ⟨hp64, hm⟩
 refine r_step rfl rfl (o_cmp rfl rfl (c_lss_T hp64)) ?_
 refine xe 8 [(40, .bool true), (18, Pt b32 0), (14, Pt b15 0), (3, V a3), (4, V a4), (6, V a6)] ?_
 refine cT 40 rfl ?_
 refine sr r11_3 ?_
 refine xq 3 [(43, Pt b32 2), (14, Pt b15 0), (4, V a4)] ?_
 refine r_step rfl trivial (o_ldb (v := .agg #[v30]) hS34 (i := 0) rfl rfl (by kernel_rfl)) ?_
 refine xq 1 [(45, V a4), (44, .agg #[v30]), (14, Pt b15 0)] ?_
 refine r_ex1 rfl trivial (o_stb (vs := [v30]) (cells' := [v30]) (L' := [.blk b32 [v4, V (imin a5 (a1.length : Int)), v30, .slice none 0 0], .gs v30 c31 (csz api_Node), .blk b15 [v30], .blk b12 [v6]]) hS34 (i := 2) rfl rfl rfl rfl (by kernel_rfl) (one_cons (hS34.gone1 (i := 1) rfl) one_nil) rfl rfl rfl) ?_
 intro h67 hS68
 refine xe 3 [(17, .slice none 0 0), (16, V a4), (15, V (-1)), (14, Pt b15 0)] ?_
 refine rt ?_
 refine ⟨rfl, ?_⟩
 obtain ⟨Z69, hZ70, q71, hS72⟩ := (hS68.front 1 rfl).freeze q29
 replace hS72 : St _ _ _ _ _ _ [.blk b32 [v4, V (imin a5 (a1.length : Int)), v30, .slice none 0 0], .blk b15 [v30], .blk b12 [v6]] := hS72
 have hS73 := hS72.nilGs (csz api_Diag)
 obtain rfl := si hm
 refine ⟨_, _, _, ResL.cell (v := .agg #[v30]) rfl hS73 (i := 2) rfl (by kernel_rfl) (ResL.tmp rfl (ResL.tmp rfl (ResL.tmp rfl (ResL.nil)))), (hS73.takeN 1), ?_⟩
 exact ⟨v30, (.slice none 0 0), [], rfl, rfl, q71, (RCs.nil0 _)⟩
 refine r_step rfl rfl (o_cmp rfl rfl (c_lss_F hp64)) ?_
 refine xq 4 [(36, Pt b12 0), (35, V a3), (34, .bool false), (18, Pt b32 0), (14, Pt b15 0), (3, V a3), (4, V a4), (6, V a6)] ?_
 refine r_step rfl rfl (o_ldb (v := v6) hS34 (i := 3) rfl rfl (by kernel_rfl)) ?_
 refine r_step rfl rfl (o_len rfl (RS.len (q5.mono hZ27)) ⟨_, Try.underlying27⟩) ?_
 rcases ifs hm with ⟨hp75, hm⟩ | ⟨hp75, hm⟩
 refine r_step rfl rfl (o_cmp rfl rfl (c_geq_T hp75)) ?_
 refine xe 1 [(40, .bool true), (18, Pt b32 0), (14, Pt b15 0), (3, V a3), (4, V a4), (6, V a6)] ?_
 refine cT 40 rfl ?_
 refine sr r11_3 ?_
 refine xq 3 [(43, Pt b32 2), (14, Pt b15 0), (4, V a4)] ?_
 refine r_step rfl trivial (o_ldb (v := .agg #[v30]) hS34 (i := 0) rfl rfl (by kernel_rfl)) ?_
 refine xq 1 [(45, V a4), (44, .agg #[v30]), (14, Pt b15 0)] ?_
 refine r_ex1 rfl trivial (o_stb (vs := [v30]) (cells' := [v30]) (L' := [.blk b32 [v4, V (imin a5 (a1.length : Int)), v30, .slice none 0 0], .gs v30 c31 (csz api_Node), .blk b15 [v30], .blk b12 [v6]]) hS34 (i := 2) rfl rfl rfl rfl (by kernel_rfl) (one_cons (hS34.gone1 (i := 1) rfl) one_nil) rfl rfl rfl) ?_
 intro h78 hS79
 refine xe 3 [(17, .slice none 0 0), (16, V a4), (15, V (-1)), (14, Pt b15 0)] ?_
 refine rt ?_
 refine ⟨rfl, ?_⟩
 obtain ⟨Z80, hZ81, q82, hS83⟩ := (hS79.front 1 rfl).freeze q29
 replace hS83 : St _ _ _ _ _ _ [.blk b32 [v4, V (imin a5 (a1.length : Int)), v30, .slice none 0 0], .blk b15 [v30], .blk b12 [v6]] := hS83
 have hS84 := hS83.nilGs (csz api_Diag)
 obtain rfl := si hm
 refine ⟨_, _, _, ResL.cell (v := .agg #[v30]) rfl hS84 (i := 2) rfl (by kernel_rfl) (ResL.tmp rfl (ResL.tmp rfl (ResL.tmp rfl (ResL.nil)))), (hS84.takeN 1), ?_⟩
 exact ⟨v30, (.slice none 0 0), [], rfl, rfl, q82, (RCs.nil0 _)⟩
 refine r_step rfl rfl (o_cmp rfl rfl (c_geq_F hp75)) ?_
 refine xe 1 [(40, .bool false), (18, Pt b32 0), (14, Pt b15 0), (3, V a3), (4, V a4), (6, V a6)] ?_
 refine kF 40 rfl ?_
 refine sr r11_4 ?_
 refine xq 4 [(50, V a6), (49, V a4), (48, V a3), (47, Pt b32 0), (18, Pt b32 0), (14, Pt b15 0)] ?_
 obtain ⟨Z86, hZ87, q88, hS89⟩ := (hS34.front 1 rfl).freeze q29
 replace hS89 : St _ _ _ _ _ _ [.blk b32 [v4, V (imin a5 (a1.length : Int)), v30, .slice none 0 0], .blk b15 [.slice none 0 0], .blk b12 [v6]] := hS89
 have hS90 := hS89.nilGs (csz api_Diag)
 obtain ⟨r92, hx93, hm⟩ := obind hm
 have hF99 : St _ _ _ _ _ _ ([.blk b32 [v4, V (imin a5 (a1.length : Int)), v30, .slice none 0 0], .gs (.slice none 0 0) [] (csz api_Diag)] ++ [.blk b15 [.slice none 0 0], .blk b12 [v6]]) := ((hS90.front 0 rfl).front 1 rfl)
 obtain ⟨v94, h95, Z100, A102, hcl96, hSc97, v104, v106, v108, c109, rfl, rfl, q103, q105, q107⟩ := flow_reader_value_ok F hF99.preL (q3.mono (hZ27.trans hZ87)) q88 (RCs.nil0 _) hx93
 have hZ101 := hSc97.zle
 have hS98 := hF99.call hSc97
 replace hS98 : St _ _ _ _ _ _ [.blk b32 (K58 v104 v106 v108 r92.2.2), .gs v108 c109 (csz api_Diag), .blk b15 [.slice none 0 0], .blk b12 [v6]] := hS98
 refine r_step rfl trivial (o_call hcl96 rfl rfl rfl) ?_
 refine xe 5 [(16, V r92.2.1), (15, V r92.1), (18, Pt b32 0), (14, Pt b15 0)] ?_
 refine srF r11_5 hS98 ?_
 intro bs110 h111 hlv113 hS112
 refine yq 3 [(56, Pt b32 2), (16, V r92.2.1), (15, V r92.1), (18, Pt b32 0), (14, Pt b15 0)] ?_
 have lt114 : b32 < bs110 := hlv113.1 _ (List.mem_of_getElem? (i := 0) rfl) _ (by simp [Itm.ids])
 refine e_lookO (v := .agg #[v106]) rfl trivial rfl (by show b32 < _; omega) (same_agg (cs := [v106]) (.cons (RS.sim1 q105) .nil)) (hS112.ldAt (i := 0) rfl (by kernel_rfl)) trivial ?_
 refine yq 5 [(62, Pt b32 3), (59, V r92.2.1), (58, V r92.1), (57, .agg #[v106]), (16, V r92.2.1), (15, V r92.1), (14, Pt b15 0)] ?_
 have lt115 : b32 < bs110 := hlv113.1 _ (List.mem_of_getElem? (i := 0) rfl) _ (by simp [Itm.ids])
 refine e_lookO (v := v108) rfl trivial rfl (by show b32 < _; omega) (same1 (v := v108) (hS112.gsim1 (i := 1) rfl)) (hS112.ldAt (i := 0) rfl (by kernel_rfl)) trivial ?_
 obtain ⟨Z116, hZ117, q118, hS119⟩ := (hS112.front 1 rfl).freeze q107
 replace hS119 : St _ _ _ _ _ _ [.blk b32 (K58 v104 v106 v108 r92.2.2), .blk b15 [.slice none 0 0], .blk b12 [v6]] := hS119
 obtain ⟨r120, hx121, hm⟩ := obind hm
 have hSl127 := hS119.lown
 have hSr128 : St _ _ _ _ _ _ ([] ++ [.blk b32 (K58 v104 v106 v108 r92.2.2), .blk b15 [.slice none 0 0], .blk b12 [v6]]) := hSl127
 obtain ⟨v122, h123, Z129, A131, hcl124, hSc125, v133, c134, rfl, rfl, q132⟩ := slices_Clone_api_Diag_ok F hSr128.preL q118 hx121
 have hS126 := hSr128.call hSc125
 have hZ130 := hSc125.zle
 replace hS126 : St _ _ _ _ _ _ [.gs v133 c134 (csz api_Diag), .blk b32 (K58 v104 v106 v108 r92.2.2), .blk b15 [.slice none 0 0], .blk b12 [v6]] := hS126
 refine e_still rfl trivial hS119 (o_call hcl124 rfl rfl rfl) hS126 (St.lowk hSc125) ?_
 intro h135 hS136
 have hF139 : St _ _ _ _ _ _ ([.blk b15 [.slice none 0 0]] ++ [.gs v133 c134 (csz api_Diag), .blk b32 (K58 v104 v106 v108 r92.2.2), .blk b12 [v6]]) := (hS136.front 2 rfl)
 refine e_mk1 rfl trivial hF139 (o_stb (vs := [v106]) (cells' := [v106]) (L' := [.blk b15 [v106]]) hF139.sub (i := 0) rfl rfl rfl rfl (by kernel_rfl) (one_cons (RS.one1 (q105.mono (hZ117.trans hZ130))) one_nil) rfl rfl rfl) (hZ117.trans hZ130) (.keep (hF139.neB 1 rfl blk_mem) (.keep (hF139.neB 1 rfl blk_mem) .nil)) ?_
 intro h137 hS138
 refine ye 3 [(17, v133), (16, V r92.2.1), (15, V r92.1), (14, Pt b15 0)] ?_
 have hS140 := hS138.unres
 refine rt ?_
 refine ⟨rfl, ?_⟩
 obtain rfl := si hm
 refine ⟨_, _, _, ResL.cell (v := .agg #[v106]) rfl hS140 (i := 0) rfl (by kernel_rfl) (ResL.tmp rfl (ResL.tmp rfl (ResL.tmp rfl (ResL.nil)))), ((hS140.front 1 rfl).takeN 1), ?_⟩
 exact ⟨v106, v133, c134, rfl, rfl, (q105.mono (hZ117.trans hZ130)), q132⟩

def r8_0 : List COp := [u 0 (.assign (.const (.bool false)))]
def r8_1 : List COp := [u 7 (.buildSlice 24 9 #[(0, (.const (.int .u8 91))), (1, (.const (.int .u8 97))), (2, (.const (.int .u8 44))), (3, (.const (.int .u8 32))), (4, (.const (.int .u8 98))), (5, (.const (.int .u8 58))), (6, (.const (.int .u8 32))), (7, (.const (.int .u8 99))), (8, (.const (.int .u8 93)))]), u 8 (.convert 24 24 (t 7)), u 1 (sg 8)]
def r8_2 : List COp := [u 9 (mv 1), u 10 (cf 10 #[(t 9)] #[24]), u 2 (sg 10)]
def r8_3 : List COp := [u 12 (mv 1), u 13 (mv 2), u 14 (mv 2), u 15 (cb .len #[(t 14)] #[25]), u 16 (cf 12 #[(t 15)] #[3]), u 17 (mv 2), u 18 (cb .len #[(t 17)] #[25]), u 19 (cf 11 #[(t 12), (t 13), (t 16), (ci 0), (ci 0), (t 18), (ci 5)] #[24, 25, 29, 3, 3, 3, 3]), u 11 (mv 19), u 20 (.extract (t 11) 0), u 21 (.extract (t 11) 1), u 22 (.extract (t 11) 2), u 23 (.extract (t 11) 3), u 3 (.alloc 29), o (.store 29 (t 3) (t 20)), u 4 (sg 21), u 5 (sg 22), u 6 (sg 23)]
def r8_4 : List COp := [u 24 (mv 4), u 25 (bc .eql 3 24 1 3), u 26 (mv 25), gt 26 27 (mv 5), gt 26 28 (mv 2), gt 26 29 (cb .len #[(t 28)] #[25]), gt 26 30 (bo .eql 3 27 29 3), u 31 (pf 26 30), u 32 (mv 31), gt 32 33 (mv 6), gt 32 34 (cb .len #[(t 33)] #[30]), gt 32 35 (bc .eql 3 34 0 3), u 36 (pf 32 35), u 37 (mv 36), gt 37 38 (fa 29 3 0), gt 37 39 (ld 27 38), gt 37 40 (cb .len #[(t 39)] #[27]), gt 37 41 (bc .eql 3 40 6 3), u 42 (pf 37 41), u 43 (mv 42), gt 43 44 (fa 29 3 0), gt 43 45 (ld 27 44), gt 43 46 (.indexAddr 27 (t 45) (ci 1)), gt 43 47 (fa 42 46 0), gt 43 48 (ld 3 47), gt 43 49 (bc .eql 3 48 9 3), u 50 (pf 43 49), u 51 (mv 50), gt 51 52 (fa 29 3 0), gt 51 53 (ld 27 52), gt 51 54 (.indexAddr 27 (t 53) (ci 3)), gt 51 55 (fa 42 54 0), gt 51 56 (ld 3 55), gt 51 57 (bc .eql 3 56 6 3), u 58 (pf 51 57), u 0 (sg 58)]
def correctorlaw11_known (F : Nat) : Option Bool :=
 if 0 < ([91, 97, 44, 32, 98, 58, 32, 99, 93] : List UInt8).length then
  (correctorref6_Tokens F ([91, 97, 44, 32, 98, 58, 32, 99, 93] : List UInt8)).bind fun r11 =>
  (arena_New F (r11.length : Int)).bind fun r25 =>
  (flow_Value F ([91, 97, 44, 32, 98, 58, 32, 99, 93] : List UInt8) r11 r25 0 0 (r11.length : Int) 5).bind fun r47 =>
  if r47.2.1 = (1 : Int) then
   if r47.2.2.1 = (r11.length : Int) then
    if (r47.2.2.2.length : Int) = (0 : Int) then
     if (r47.1.Nodes.length : Int) = (6 : Int) then
      if 0 ≤ (1 : Int) ∧ (1 : Int) < (r47.1.Nodes.length : Int) then
       (r47.1.Nodes[(1 : Int).toNat]?).bind fun x73 =>
       if x73.Kind = (9 : Int) then
        if 0 ≤ (3 : Int) ∧ (3 : Int) < (r47.1.Nodes.length : Int) then
         (r47.1.Nodes[(3 : Int).toNat]?).bind fun x83 =>
         if x83.Kind = (6 : Int) then
          some true
         else
          some false
        else none
       else
        some false
      else none
     else
      some false
    else
     some false
   else
    some false
  else
   some false
 else none
theorem correctorlaw11_known_ok (F : Nat) {h : AH} {Z : Zn} (hI : Inv Z h) {r : Bool} (hm : correctorlaw11_known F = some r) :
  ∃ v h', callI Try.prog 8 [] h = some (v, h') ∧ St h [] Z (0, 0) Z h' [] ∧ v = .bool r := by
 refine fn_plain (Q := fun v => v = .bool r) Try.func8 rfl rfl hI ?_
 intro hs hS
 unfold correctorlaw11_known at hm
 refine sr r8_0 ?_
 refine xe 1 [] ?_
 refine sr r8_1 ?_
 have q4 : RCs (α := UInt8) Z [.int .u8 91, .int .u8 97, .int .u8 44, .int .u8 32, .int .u8 98, .int .u8 58, .int .u8 32, .int .u8 99, .int .u8 93] ([91, 97, 44, 32, 98, 58, 32, 99, 93] : List UInt8) := RCs.cons (cs := [.int .u8 91]) rfl (RCs.cons (cs := [.int .u8 97]) rfl (RCs.cons (cs := [.int .u8 44]) rfl (RCs.cons (cs := [.int .u8 32]) rfl (RCs.cons (cs := [.int .u8 98]) rfl (RCs.cons (cs := [.int .u8 58]) rfl (RCs.cons (cs := [.int .u8 32]) rfl (RCs.cons (cs := [.int .u8 99]) rfl (RCs.cons (cs := [.int .u8 93]) rfl (RCs.nil0 _)))))))))
 refine r_row rfl trivial (o_bs (cells := [.int .u8 91, .int .u8 97, .int .u8 44, .int .u8 32, .int .u8 98, .int .u8 58, .int .u8 32, .int .u8 99, .int .u8 93]) (s := 1) (by kernel_rfl)) (by kernel_rfl) hS ?_
 intro v1 h2 hS3
 replace hS3 : St _ _ _ _ _ _ [.gs v1 [.int .u8 91, .int .u8 97, .int .u8 44, .int .u8 32, .int .u8 98, .int .u8 58, .int .u8 32, .int .u8 99, .int .u8 93] (csz UInt8)] := hS3
 obtain ⟨hc6, hm⟩ := chk hm
 refine r_step rfl trivial (o_convid hS3 (j := 0) rfl q4 hc6 rfl (by kernel_rfl)) ?_
 refine xe 1 [(1, v1)] ?_
 refine sr r8_2 ?_
 refine xq 1 [(9, v1), (1, v1)] ?_
 obtain ⟨Z7, hZ8, q9, hS10⟩ := (hS3.front 0 rfl).freeze q4
 replace hS10 : St _ _ _ _ _ _ [] := hS10
 obtain ⟨r11, hx12, hm⟩ := obind hm
 have hSr18 : St _ _ _ _ _ _ ([] ++ []) := hS10
 obtain ⟨v13, h14, Z19, A21, hcl15, hSc16, v23, c24, rfl, rfl, q22⟩ := correctorref6_Tokens_ok F hSr18.preL q9 hx12
 have hS17 := hSr18.call hSc16
 have hZ20 := hSc16.zle
 replace hS17 : St _ _ _ _ _ _ [.gs v23 c24 (csz api_Token)] := hS17
 refine r_step rfl trivial (o_call hcl15 rfl rfl rfl) ?_
 refine xe 1 [(2, v23), (1, v1)] ?_
 refine sr r8_3 ?_
 refine xq 3 [(14, v23), (13, v23), (12, v1), (2, v23)] ?_
 refine r_step rfl trivial (o_len rfl (hS17.glen (i := 0) rfl q22) ⟨_, Try.underlying25⟩) ?_
 obtain ⟨r25, hx26, hm⟩ := obind hm
 have hSr32 : St _ _ _ _ _ _ ([] ++ [.gs v23 c24 (csz api_Token)]) := hS17
 obtain ⟨v27, h28, Z33, A35, hcl29, hSc30, v37, c38, rfl, rfl, q36⟩ := arena_New_ok F hSr32.preL  hx26
 have hS31 := hSr32.call hSc30
 have hZ34 := hSc30.zle
 replace hS31 : St _ _ _ _ _ _ [.gs v37 c38 (csz api_Node), .gs v23 c24 (csz api_Token)] := hS31
 refine r_step rfl trivial (o_call hcl29 rfl rfl rfl) ?_
 refine xq 1 [(17, v23), (16, .agg #[v37]), (13, v23), (12, v1), (2, v23)] ?_
 refine r_step rfl trivial (o_len rfl (hS31.glen (i := 1) rfl (q22.mono hZ34)) ⟨_, Try.underlying25⟩) ?_
 obtain ⟨Z39, hZ40, q41, hS42⟩ := (hS31.front 1 rfl).freeze (q22.mono hZ34)
 replace hS42 : St _ _ _ _ _ _ [.gs v37 c38 (csz api_Node)] := hS42
 obtain ⟨Z43, hZ44, q45, hS46⟩ := (hS42.front 0 rfl).freeze (q36.mono hZ40)
 replace hS46 : St _ _ _ _ _ _ [] := hS46
 obtain ⟨r47, hx48, hm⟩ := obind hm
 have hSr54 : St _ _ _ _ _ _ ([] ++ []) := hS46
 obtain ⟨v49, h50, Z55, A57, hcl51, hSc52, v59, v61, c62, rfl, rfl, q58, q60⟩ := flow_Value_ok F hSr54.preL (q9.mono (hZ20.trans (hZ34.trans (hZ40.trans hZ44)))) (q41.mono hZ44) q45 hx48
 have hS53 := hSr54.call hSc52
 have hZ56 := hSc52.zle
 replace hS53 : St _ _ _ _ _ _ [.gs v61 c62 (csz api_Diag)] := hS53
 refine r_step rfl trivial (o_call hcl51 rfl rfl rfl) ?_
 refine xq 5 [(23, v61), (22, V r47.2.2.1), (21, V r47.2.1), (20, .agg #[v59]), (2, v23)] ?_
 refine r_blk rfl trivial (o_alloc (cs := [.slice none 0 0]) (by kernel_rfl)) hS53 ?_
 intro b63 h64 hS65
 refine r_ex1 rfl trivial (o_stb (vs := [v59]) (cells' := [v59]) (L' := [.blk b63 [v59], .gs v61 c62 (csz api_Diag)]) hS65 (i := 0) rfl rfl rfl rfl (by kernel_rfl) (one_cons (RS.one1 q58) one_nil) rfl rfl rfl) ?_
 intro h66 hS67
 refine xe 3 [(6, v61), (5, V r47.2.2.1), (4, V r47.2.1), (3, Pt b63 0), (2, v23)] ?_
 refine sr r8_4 ?_
 refine xq 1 [(24, V r47.2.1), (6, v61), (5, V r47.2.2.1), (3, Pt b63 0), (2, v23)] ?_
 rcases ifs hm with ⟨hp68, hm⟩ | ⟨hp68, hm⟩
 refine r_step rfl trivial (o_cmp rfl rfl (c_eql_T hp68)) ?_
 refine xq 3 [(28, v23), (27, V r47.2.2.1), (26, .bool true), (6, v61), (3, Pt b63 0)] ?_
 refine r_step rfl rfl (o_len rfl (RS.len (q41.mono (hZ44.trans hZ56))) ⟨_, Try.underlying25⟩) ?_
 rcases ifs hm with ⟨hp69, hm⟩ | ⟨hp69, hm⟩
 refine r_step rfl rfl (o_cmp rfl rfl (c_eql_T hp69)) ?_
 refine xq 3 [(33, v61), (32, .bool true), (3, Pt b63 0)] ?_
 refine r_step rfl rfl (o_len rfl (hS67.glen (i := 1) rfl q60) ⟨_, Try.underlying30⟩) ?_
 rcases ifs hm with ⟨hp70, hm⟩ | ⟨hp70, hm⟩
 refine r_step rfl rfl (o_cmp rfl rfl (c_eql_T hp70)) ?_
 refine xq 3 [(38, Pt b63 0), (37, .bool true), (3, Pt b63 0)] ?_
 refine r_step rfl rfl (o_ldb (v := v59) hS67 (i := 0) rfl rfl (by kernel_rfl)) ?_
 refine r_step rfl rfl (o_len rfl (RS.len q58) ⟨_, Try.underlying27⟩) ?_
 rcases ifs hm with ⟨hp71, hm⟩ | ⟨hp71, hm⟩
 refine r_step rfl rfl (o_cmp rfl rfl (c_eql_T hp71)) ?_
 refine xq 3 [(44, Pt b63 0), (43, .bool true), (3, Pt b63 0)] ?_
 refine r_step rfl rfl (o_ldb (v := v59) hS67 (i := 0) rfl rfl (by kernel_rfl)) ?_
 obtain ⟨hc72, hm⟩ := chk hm
 refine r_step rfl rfl (o_index rfl rfl (by kernel_rfl : slTy _ _ = some (csz api_Node)) (RS.based q58 (by omega)) hc72.1 hc72.2) ?_
 refine xq 1 [(47, .pointer (some (elemA v59 1 (csz api_Node) 0))), (43, .bool true), (3, Pt b63 0)] ?_
 obtain ⟨x73, hx74, hm⟩ := obind hm
 obtain ⟨cs75, hc76, he77⟩ := RS.elz q58 (i := 1) hx74
 obtain ⟨v79, q80, rfl⟩ := rc_api_Node hc76
 refine r_step rfl rfl (o_lde (w := V x73.Kind) (he77 _ (hS67.zin0 (Zle.refl _))) rfl (by kernel_rfl)) ?_
 rcases ifs hm with ⟨hp81, hm⟩ | ⟨hp81, hm⟩
 refine r_step rfl rfl (o_cmp rfl rfl (c_eql_T hp81)) ?_
 refine xq 3 [(52, Pt b63 0), (51, .bool true)] ?_
 refine r_step rfl rfl (o_ldb (v := v59) hS67 (i := 0) rfl rfl (by kernel_rfl)) ?_
 obtain ⟨hc82, hm⟩ := chk hm
 refine r_step rfl rfl (o_index rfl rfl (by kernel_rfl : slTy _ _ = some (csz api_Node)) (RS.based q58 (by omega)) hc82.1 hc82.2) ?_
 refine xq 1 [(55, .pointer (some (elemA v59 3 (csz api_Node) 0))), (51, .bool true)] ?_
 obtain ⟨x83, hx84, hm⟩ := obind hm
 obtain ⟨cs85, hc86, he87⟩ := RS.elz q58 (i := 3) hx84
 obtain ⟨v89, q90, rfl⟩ := rc_api_Node hc86
 refine r_step rfl rfl (o_lde (w := V x83.Kind) (he87 _ (hS67.zin0 (Zle.refl _))) rfl (by kernel_rfl)) ?_
 rcases ifs hm with ⟨hp91, hm⟩ | ⟨hp91, hm⟩
 refine r_step rfl rfl (o_cmp rfl rfl (c_eql_T hp91)) ?_
 refine xe 2 [(0, .bool true)] ?_
 refine rt ?_
 refine ⟨rfl, ?_⟩
 obtain rfl := si hm
 refine ⟨_, _, _, ResL.tmp rfl (ResL.nil), hS67, ?_⟩
 exact rfl
 refine r_step rfl rfl (o_cmp rfl rfl (c_eql_F hp91)) ?_
 refine xe 2 [(0, .bool false)] ?_
 refine rt ?_
 refine ⟨rfl, ?_⟩
 obtain rfl := si hm
 refine ⟨_, _, _, ResL.tmp rfl (ResL.nil), hS67, ?_⟩
 exact rfl
 refine r_step rfl rfl (o_cmp rfl rfl (c_eql_F hp81)) ?_
 refine xe 10 [(0, .bool false)] ?_
 refine rt ?_
 refine ⟨rfl, ?_⟩
 obtain rfl := si hm
 refine ⟨_, _, _, ResL.tmp rfl (ResL.nil), hS67, ?_⟩
 exact rfl
 refine r_step rfl rfl (o_cmp rfl rfl (c_eql_F hp71)) ?_
 refine xe 18 [(0, .bool false)] ?_
 refine rt ?_
 refine ⟨rfl, ?_⟩
 obtain rfl := si hm
 refine ⟨_, _, _, ResL.tmp rfl (ResL.nil), hS67, ?_⟩
 exact rfl
 refine r_step rfl rfl (o_cmp rfl rfl (c_eql_F hp70)) ?_
 refine xe 24 [(0, .bool false)] ?_
 refine rt ?_
 refine ⟨rfl, ?_⟩
 obtain rfl := si hm
 refine ⟨_, _, _, ResL.tmp rfl (ResL.nil), hS67, ?_⟩
 exact rfl
 refine r_step rfl rfl (o_cmp rfl rfl (c_eql_F hp69)) ?_
 refine xe 29 [(0, .bool false)] ?_
 refine rt ?_
 refine ⟨rfl, ?_⟩
 obtain rfl := si hm
 refine ⟨_, _, _, ResL.tmp rfl (ResL.nil), hS67, ?_⟩
 exact rfl
 refine r_step rfl trivial (o_cmp rfl rfl (c_eql_F hp68)) ?_
 refine xe 34 [(0, .bool false)] ?_
 refine rt ?_
 refine ⟨rfl, ?_⟩
 obtain rfl := si hm
 refine ⟨_, _, _, ResL.tmp rfl (ResL.nil), hS67, ?_⟩
 exact rfl

def r9_0 : List COp := [u 4 (.assign (ci 0))]
def r9_1 : List COp := [u 6 (mv 0), u 7 (mv 1), u 8 (bo .rem 3 6 7 3), u 5 (sg 8)]
def r9_2 : List COp := [u 9 (mv 5), u 10 (bc .lss 3 9 0 3)]
def r9_3 : List COp := [u 11 (mv 5), u 12 (mv 1), u 13 (bo .add 3 11 12 3), u 5 (sg 13)]
def r9_4 : List COp := [u 14 (mv 5), u 4 (sg 14)]
def correctorlaw11_within (F : Nat) (a0 : Int) (a1 : Int) : Option Int :=
 if ¬ a1 = (0 : Int) then
  ((if (a0.tmod a1) < (0 : Int) then
    some (w64 ((a0.tmod a1) + a1))
   else
    some (a0.tmod a1)) : Option Int).bind fun o => match o with
   | x7 => some x7
 else none
theorem correctorlaw11_within_ok (F : Nat) {h : AH} {Z : Zn} {a0 : Int} {a1 : Int} (hI : Inv Z h) {r : Int} (hm : correctorlaw11_within F a0 a1 = some r) :
  ∃ v h', callI Try.prog 9 [V a0, V a1] h = some (v, h') ∧ St h [] Z (0, 0) Z h' [] ∧ v = V r := by
 refine fn_plain (Q := fun v => v = V r) Try.func9 rfl rfl hI ?_
 intro hs hS
 unfold correctorlaw11_within at hm
 refine sr r9_0 ?_
 refine xe 1 [(0, V a0), (1, V a1)] ?_
 refine sr r9_1 ?_
 refine xq 2 [(7, V a1), (6, V a0), (1, V a1)] ?_
 obtain ⟨hc1, hm⟩ := chk hm
 refine r_step rfl trivial (o_rem hc1 rfl rfl) ?_
 refine xe 1 [(5, V (a0.tmod a1)), (1, V a1)] ?_
 refine sq ?_
 obtain ⟨o4, ho3, hm⟩ := obind hm
 refine W_seqJoin0 [5] (fun l h => ∃ Z6 : Zn, ∃ x7 : Int, x7 = o4 ∧ l = [(5, V x7)] ∧ St hs [] Z (0, 0) Z6 h []) (by kernel_rfl) ?_ ?_
 rintro l h8 ⟨Z6, x7, rfl, rfl, hS9⟩
 try dsimp only at hm
 refine sr r9_4 ?_
 refine xe 2 [(4, V x7)] ?_
 refine rt ?_
 refine ⟨rfl, ?_⟩
 obtain rfl := si hm
 refine ⟨_, _, _, ResL.tmp rfl (ResL.nil), hS9, ?_⟩
 exact rfl
 refine rg r9_2 ?_
 refine xq 1 [(9, V (a0.tmod a1)), (5, V (a0.tmod a1)), (1, V a1)] ?_
 rcases ifs ho3 with ⟨hp5, ho3⟩ | ⟨hp5, ho3⟩
 refine r_step rfl trivial (o_cmp rfl rfl (c_lss_T hp5)) ?_
 refine xf [(10, .bool true), (5, V (a0.tmod a1)), (1, V a1)] ?_
 refine cT 10 rfl ?_
 refine rg r9_3 ?_
 refine xe 4 [(5, V (w64 ((a0.tmod a1) + a1)))] ?_
 obtain rfl := si ho3
 exact ⟨_, w64 ((a0.tmod a1) + a1), rfl, rfl, hS⟩
 refine r_step rfl trivial (o_cmp rfl rfl (c_lss_F hp5)) ?_
 refine xf [(10, .bool false), (5, V (a0.tmod a1)), (1, V a1)] ?_
 refine kF 10 rfl ?_
 obtain rfl := si ho3
 exact ⟨_, a0.tmod a1, rfl, rfl, hS⟩

end Go.Proofs.Ytahcngeimlkcgaa.M
