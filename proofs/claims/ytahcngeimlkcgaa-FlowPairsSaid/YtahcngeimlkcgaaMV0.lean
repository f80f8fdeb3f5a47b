/- Printed by a program of this session: Go functions as Lean functions over plain data, and that the calls come to them. -/
import Derived.Test.YtahcngeimlkcgaaSyJ
import Derived.Test.YtahcngeimlkcgaaChecked
import Derived.KernelRfl
import Derived.Test.YtahcngeimlkcgaaMF1
namespace Go.Proofs.Ytahcngeimlkcgaa.M
open Go Am Sy
open Sy.Cell (rc)
set_option linter.unusedVariables false
set_option linter.unusedSimpArgs false
set_option maxRecDepth 20000

def r13_0 : List COp := [u 2 (.alloc 29), u 3 (.assign (ci 0)), u 4 (.assign (ci 0)), u 5 (.assign (.const (.slice none 0 0))), u 6 (.assign (ci 0))]
def r13_1 : List COp := [u 13 (mv 0), u 14 (.convert 9 24 (t 13)), u 7 (sg 14)]
def r13_2 : List COp := [u 15 (mv 7), u 16 (cf 10 #[(t 15)] #[24]), u 8 (sg 16)]
def r13_3 : List COp := [u 18 (mv 7), u 19 (mv 8), u 20 (mv 8), u 21 (cb .len #[(t 20)] #[25]), u 22 (cf 12 #[(t 21)] #[3]), u 23 (mv 8), u 24 (cb .len #[(t 23)] #[25]), u 25 (cf 11 #[(t 18), (t 19), (t 22), (ci 0), (ci 0), (t 24), (ci 9)] #[24, 25, 29, 3, 3, 3, 3]), u 17 (mv 25), u 26 (.extract (t 17) 0), u 27 (.extract (t 17) 1), u 28 (.extract (t 17) 2), u 29 (.extract (t 17) 3), u 9 (.alloc 29), o (.store 29 (t 9) (t 26)), u 10 (sg 27), u 11 (sg 28), u 12 (sg 29)]
def r13_4 : List COp := [u 30 (ld 29 9), u 31 (mv 10), u 32 (mv 11), u 33 (mv 12), u 34 (mv 8), u 35 (cb .len #[(t 34)] #[25]), o (.store 29 (t 2) (t 30)), u 3 (sg 31), u 4 (sg 32), u 5 (sg 33), u 6 (sg 35)]
def correctorlaw11_value (F : Nat) (a0 : Str) : Option (arena_Tree × Int × Int × (List api_Diag) × Int) :=
 (correctorref6_Tokens F a0.b).bind fun r17 =>
 (arena_New F (r17.length : Int)).bind fun r31 =>
 (flow_Value F a0.b r17 r31 0 0 (r17.length : Int) 9).bind fun r53 =>
 some (r53.1, r53.2.1, r53.2.2.1, r53.2.2.2, (r17.length : Int))
theorem correctorlaw11_value_ok (F : Nat) {h : AH} {Z : Zn} {a0 : Str} (hP : Pre Z h []) {r : arena_Tree × Int × Int × (List api_Diag) × Int} (hm : correctorlaw11_value F a0 = some r) :
  ∃ v h' Z' A', callI Try.prog 13 [.string ⟨⟨a0.b⟩⟩] h = some (v, h') ∧ St h (idsL []) Z (0, 0) Z' h' A' ∧ ∃ v2 : Value, ∃ v4 : Value, ∃ c5 : List Value, .tuple #[.agg #[v2], V r.2.1, V r.2.2.1, v4, V r.2.2.2.2] = v ∧ A' = [.gs v4 c5 (csz api_Diag)] ∧ RS (α := api_Node) Z' v2 r.1.Nodes ∧ RCs (α := api_Diag) Z' c5 r.2.2.2.1 := by
 refine fn_intro (A := []) (Q := fun v Z' A' => ∃ v2 : Value, ∃ v4 : Value, ∃ c5 : List Value, .tuple #[.agg #[v2], V r.2.1, V r.2.2.1, v4, V r.2.2.2.2] = v ∧ A' = [.gs v4 c5 (csz api_Diag)] ∧ RS (α := api_Node) Z' v2 r.1.Nodes ∧ RCs (α := api_Diag) Z' c5 r.2.2.2.1) Try.func13 rfl rfl (by kernel_rfl) hP ?_
 intro hs hS
 unfold correctorlaw11_value at hm
 replace hS : St hs [] Z (0, 0) Z hs [] := hS
 refine sr r13_0 ?_
 refine r_blk rfl trivial (o_alloc (cs := [.slice none 0 0]) (by kernel_rfl)) hS ?_
 intro b6 h7 hS8
 refine xe 4 [(2, Pt b6 0), (0, .string ⟨⟨a0.b⟩⟩)] ?_
 refine sr r13_1 ?_
 refine xq 1 [(13, .string ⟨⟨a0.b⟩⟩), (2, Pt b6 0)] ?_
 obtain ⟨v9, h10, Z12, ho15, hZ13, q14, hS11, lw16⟩ := o_tobytes (P := Try.prog) (l := [(13, .string ⟨⟨a0.b⟩⟩), (2, Pt b6 0)]) (s := 9) (d := 24) (x := .tmp 13) (bs := a0.b) hS8 rfl (by kernel_rfl)
 refine r_step rfl trivial ho15 ?_
 refine xe 1 [(7, v9), (2, Pt b6 0)] ?_
 refine sr r13_2 ?_
 refine xq 1 [(15, v9), (7, v9), (2, Pt b6 0)] ?_
 obtain ⟨r17, hx18, hm⟩ := obind hm
 have hSr24 : St _ _ _ _ _ _ ([] ++ [.blk b6 [.slice none 0 0]]) := hS11
 obtain ⟨v19, h20, Z25, A27, hcl21, hSc22, v29, c30, rfl, rfl, q28⟩ := correctorref6_Tokens_ok F hSr24.preL q14 hx18
 have hS23 := hSr24.call hSc22
 have hZ26 := hSc22.zle
 replace hS23 : St _ _ _ _ _ _ [.gs v29 c30 (csz api_Token), .blk b6 [.slice none 0 0]] := hS23
 refine r_step rfl trivial (o_call hcl21 rfl rfl rfl) ?_
 refine xe 1 [(8, v29), (7, v9), (2, Pt b6 0)] ?_
 refine sr r13_3 ?_
 refine xq 3 [(20, v29), (19, v29), (18, v9), (8, v29), (2, Pt b6 0)] ?_
 refine r_step rfl trivial (o_len rfl (hS23.glen (i := 0) rfl q28) ⟨_, Try.underlying25⟩) ?_
 obtain ⟨r31, hx32, hm⟩ := obind hm
 have hSr38 : St _ _ _ _ _ _ ([] ++ [.gs v29 c30 (csz api_Token), .blk b6 [.slice none 0 0]]) := hS23
 obtain ⟨v33, h34, Z39, A41, hcl35, hSc36, v43, c44, rfl, rfl, q42⟩ := arena_New_ok F hSr38.preL  hx32
 have hS37 := hSr38.call hSc36
 have hZ40 := hSc36.zle
 replace hS37 : St _ _ _ _ _ _ [.gs v43 c44 (csz api_Node), .gs v29 c30 (csz api_Token), .blk b6 [.slice none 0 0]] := hS37
 refine r_step rfl trivial (o_call hcl35 rfl rfl rfl) ?_
 refine xq 1 [(23, v29), (22, .agg #[v43]), (19, v29), (18, v9), (8, v29), (2, Pt b6 0)] ?_
 refine r_step rfl trivial (o_len rfl (hS37.glen (i := 1) rfl (q28.mono hZ40)) ⟨_, Try.underlying25⟩) ?_
 obtain ⟨Z45, hZ46, q47, hS48⟩ := (hS37.front 1 rfl).freeze (q28.mono hZ40)
 replace hS48 : St _ _ _ _ _ _ [.gs v43 c44 (csz api_Node), .blk b6 [.slice none 0 0]] := hS48
 obtain ⟨Z49, hZ50, q51, hS52⟩ := (hS48.front 0 rfl).freeze (q42.mono hZ46)
 replace hS52 : St _ _ _ _ _ _ [.blk b6 [.slice none 0 0]] := hS52
 obtain ⟨r53, hx54, hm⟩ := obind hm
 have hSr60 : St _ _ _ _ _ _ ([] ++ [.blk b6 [.slice none 0 0]]) := hS52
 obtain ⟨v55, h56, Z61, A63, hcl57, hSc58, v65, v67, c68, rfl, rfl, q64, q66⟩ := flow_Value_ok F hSr60.preL (q14.mono (hZ26.trans (hZ40.trans (hZ46.trans hZ50)))) (q47.mono hZ50) q51 hx54
 have hS59 := hSr60.call hSc58
 have hZ62 := hSc58.zle
 replace hS59 : St _ _ _ _ _ _ [.gs v67 c68 (csz api_Diag), .blk b6 [.slice none 0 0]] := hS59
 refine r_step rfl trivial (o_call hcl57 rfl rfl rfl) ?_
 refine xq 5 [(29, v67), (28, V r53.2.2.1), (27, V r53.2.1), (26, .agg #[v65]), (8, v29), (2, Pt b6 0)] ?_
 refine r_blk rfl trivial (o_alloc (cs := [.slice none 0 0]) (by kernel_rfl)) hS59 ?_
 intro b69 h70 hS71
 refine r_ex1 rfl trivial (o_stb (vs := [v65]) (cells' := [v65]) (L' := [.blk b69 [v65], .gs v67 c68 (csz api_Diag), .blk b6 [.slice none 0 0]]) hS71 (i := 0) rfl rfl rfl rfl (by kernel_rfl) (one_cons (RS.one1 q64) one_nil) rfl rfl rfl) ?_
 intro h72 hS73
 refine xe 3 [(12, v67), (11, V r53.2.2.1), (10, V r53.2.1), (9, Pt b69 0), (8, v29), (2, Pt b6 0)] ?_
 refine sr r13_4 ?_
 refine r_step rfl trivial (o_ldb (v := .agg #[v65]) hS73 (i := 0) rfl rfl (by kernel_rfl)) ?_
 refine xq 4 [(34, v29), (33, v67), (32, V r53.2.2.1), (31, V r53.2.1), (30, .agg #[v65]), (2, Pt b6 0)] ?_
 refine r_step rfl trivial (o_len rfl (RS.len (q47.mono (hZ50.trans hZ62))) ⟨_, Try.underlying25⟩) ?_
 refine r_ex1 rfl trivial (o_stb (vs := [v65]) (cells' := [v65]) (L' := [.blk b69 [v65], .gs v67 c68 (csz api_Diag), .blk b6 [v65]]) hS73 (i := 2) rfl rfl rfl rfl (by kernel_rfl) (one_cons (RS.one1 q64) one_nil) rfl rfl rfl) ?_
 intro h74 hS75
 refine xe 4 [(6, V (r17.length : Int)), (5, v67), (4, V r53.2.2.1), (3, V r53.2.1), (2, Pt b6 0)] ?_
 refine rt ?_
 refine ⟨rfl, ?_⟩
 obtain rfl := si hm
 refine ⟨_, _, _, ResL.cell (v := .agg #[v65]) rfl hS75 (i := 2) rfl (by kernel_rfl) (ResL.tmp rfl (ResL.tmp rfl (ResL.tmp rfl (ResL.tmp rfl (ResL.nil))))), ((hS75.front 1 rfl).takeN 1), ?_⟩
 exact ⟨v65, v67, c68, rfl, rfl, q64, q66⟩

end Go.Proofs.Ytahcngeimlkcgaa.M
