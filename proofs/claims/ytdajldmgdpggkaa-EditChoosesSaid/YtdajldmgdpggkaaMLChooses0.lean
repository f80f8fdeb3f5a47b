/- Printed by a program of this session: Go functions as Lean functions over plain data, and that the calls come to them. -/
import Derived.Test.YtdajldmgdpggkaaSyJ
import Derived.Test.YtdajldmgdpggkaaChecked
import Derived.KernelRfl
import Derived.Test.YtdajldmgdpggkaaMF0
namespace Go.Proofs.Ytdajldmgdpggkaa.M
open Go Am Sy
open Sy.Cell (rc)
set_option linter.unusedVariables false
set_option linter.unusedSimpArgs false
set_option maxRecDepth 20000

def r4_0 : List COp := [u 6 (.assign (.const (.bool false)))]
def r4_1 : List COp := [u 9 (cf 12 #[] #[]), u 10 (.unOp .not 4 (t 9))]
def r4_2 : List COp := [u 6 (.assign (.const (.bool false)))]
def r4_3 : List COp := [u 11 (.move (t 1)), u 12 (cf 13 #[(t 11)] #[22]), u 13 (.unOp .not 4 (t 12))]
def r4_4 : List COp := [u 6 (.assign (.const (.bool true)))]
def r4_5 : List COp := [u 14 (.move (t 0)), u 15 (cf 14 #[(t 14), (ci 100)] #[3, 3]), u 0 (.assign (t 15))]
def r4_6 : List COp := [u 16 (.move (t 0)), u 17 (.move (t 1)), u 18 (cf 15 #[(t 16), (t 17)] #[3, 22]), u 7 (.assign (t 18))]
def r4_7 : List COp := [u 19 (.move (t 0)), u 20 (.buildSlice 22 0 #[]), u 21 (.move (t 7)), u 22 (cb .append #[(t 20), (t 21)] #[22, 22]), u 23 (cf 16 #[(t 19), (t 22)] #[3, 22]), u 8 (.assign (t 23))]
def r4_8 : List COp := [u 24 (.move (t 8)), u 25 (.move (t 0)), u 26 (.move (t 7)), u 27 (cf 19 #[(t 25), (t 26)] #[3, 22]), u 28 (cf 18 #[(t 24), (t 27)] #[22, 22]), u 29 (.move (t 28)), gT 29 (some 30) (.move (t 0)), gT 29 (some 31) (.move (t 8)), gT 29 (some 32) (cf 20 #[(t 30), (t 31)] #[3, 22]), gT 29 (some 33) (.binOp .eql 32 (t 32) (ci 0) 32), u 34 (.pick (t 29) (t 33) (.const (.bool false))), u 35 (.move (t 34)), gT 35 (some 36) (.move (t 0)), gT 35 (some 37) (.move (t 1)), gT 35 (some 38) (cf 16 #[(t 36), (t 37)] #[3, 22]), gT 35 (some 39) (.move (t 0)), gT 35 (some 40) (.move (t 1)), gT 35 (some 41) (cf 19 #[(t 39), (t 40)] #[3, 22]), gT 35 (some 42) (cf 18 #[(t 38), (t 41)] #[22, 22]), u 43 (.pick (t 35) (t 42) (.const (.bool false))), u 44 (.move (t 43)), gT 44 (some 45) (.move (t 2)), gT 44 (some 46) (.move (t 1)), gT 44 (some 47) (cf 16 #[(t 45), (t 46)] #[3, 22]), gT 44 (some 48) (.move (t 2)), gT 44 (some 49) (.move (t 1)), gT 44 (some 50) (cf 19 #[(t 48), (t 49)] #[3, 22]), gT 44 (some 51) (cf 18 #[(t 47), (t 50)] #[22, 22]), u 52 (.pick (t 44) (t 51) (.const (.bool false))), u 53 (.move (t 52)), gT 53 (some 54) (.move (t 0)), gT 53 (some 55) (.move (t 8)), gT 53 (some 56) (cf 16 #[(t 54), (t 55)] #[3, 22]), gT 53 (some 57) (.move (t 8)), gT 53 (some 58) (cf 18 #[(t 56), (t 57)] #[22, 22]), u 59 (.pick (t 53) (t 58) (.const (.bool false))), u 6 (.assign (t 59))]
def correctorlaw4_EditChooses (F : Nat) (a0 : Int) (a1 : List api_Edit) (a2 : Int) : Option Bool :=
  (correctorlaw4_known F).bind fun r21101 =>
  if r21101 = true then
    (correctorlaw4_Few F a1).bind fun r21125 =>
    if r21125 = true then
      (correctorlaw4_within F a0 100).bind fun r21133 =>
      (correctorlaw4_Good F r21133 a1).bind fun r21140 =>
      if ([] : List api_Edit).length + r21140.length ≤ 4398046511104 then
        (edit_Choose F r21133 (([] : List api_Edit) ++ r21140)).bind fun r21170 =>
        (correctorref4_Choose F r21133 r21140).bind fun r21188 =>
        (correctorlaw4_same F r21170 r21188).bind fun r21210 =>
        if r21210 = true then
          (edit_Check F r21133 r21170).bind fun r21218 =>
          if r21218 = (0 : Int) then
            (edit_Choose F r21133 a1).bind fun r21226 =>
            (correctorref4_Choose F r21133 a1).bind fun r21240 =>
            (correctorlaw4_same F r21226 r21240).bind fun r21262 =>
            if r21262 = true then
              (edit_Choose F a2 a1).bind fun r21270 =>
              (correctorref4_Choose F a2 a1).bind fun r21284 =>
              (correctorlaw4_same F r21270 r21284).bind fun r21306 =>
              if r21306 = true then
                (edit_Choose F r21133 r21170).bind fun r21314 =>
                (correctorlaw4_same F r21314 r21170).bind fun r21332 =>
                some r21332
              else
                some false
            else
              some false
          else
            some false
        else
          some false
      else none
    else
      some true
  else
    some false
theorem correctorlaw4_EditChooses_ok (F : Nat) {h : AH} {Z : Zn} {a0 : Int} {a1 : List api_Edit} {a2 : Int} {v20830 : Value} (hI : Inv Z h) (q20829 : RS (α := api_Edit) Z v20830 a1) {r : Bool} (hm : correctorlaw4_EditChooses F a0 a1 a2 = some r) :
    ∃ v h', callI Go.Proofs.Try.prog 4 [.int .i64 a0, v20830, .int .i64 a2] h = some (v, h') ∧ St h [] Z (0, 0) Z h' [] ∧ v = .bool r := by
  refine fn_plain (Q := fun v => v = .bool r) Go.Proofs.Try.func4 rfl rfl hI ?_
  intro hs hS
  unfold correctorlaw4_EditChooses at hm
  refine sr r4_0 ?_
  refine xe 1 [(0, .int .i64 a0), (1, v20830), (2, .int .i64 a2)] ?_
  refine sq ?_
  refine sr r4_1 ?_
  obtain ⟨r21101, hx21102, hm⟩ := obind hm
  obtain ⟨v21103, h21104, hcl21105, hSc21106, rfl⟩ := correctorlaw4_known_ok F hS.inv  hx21102
  have hS21107 := St.call (A := []) (B := []) hS hSc21106
  replace hS21107 : St _ _ _ _ _ _ [] := hS21107
  refine r_step rfl trivial (o_call hcl21105 rfl rfl rfl) ?_
  rcases ifs hm with ⟨hp21108, hm⟩ | ⟨hp21108, hm⟩
  refine r_setb (t := 9) rfl hp21108 ?_
  refine xe 1 [(10, .bool false), (0, .int .i64 a0), (1, v20830), (2, .int .i64 a2)] ?_
  refine kF 10 rfl ?_
  refine sq ?_
  refine sr r4_3 ?_
  refine xq 1 [(11, v20830), (0, .int .i64 a0), (1, v20830), (2, .int .i64 a2)] ?_
  obtain ⟨r21125, hx21126, hm⟩ := obind hm
  obtain ⟨v21127, h21128, hcl21129, hSc21130, rfl⟩ := correctorlaw4_Few_ok F hS21107.inv q20829 hx21126
  have hS21131 := St.call (A := []) (B := []) hS21107 hSc21130
  replace hS21131 : St _ _ _ _ _ _ [] := hS21131
  refine r_step rfl trivial (o_call hcl21129 rfl rfl rfl) ?_
  rcases ifs hm with ⟨hp21132, hm⟩ | ⟨hp21132, hm⟩
  refine r_setb (t := 12) rfl hp21132 ?_
  refine xe 1 [(13, .bool false), (0, .int .i64 a0), (1, v20830), (2, .int .i64 a2)] ?_
  refine kF 13 rfl ?_
  refine sr r4_5 ?_
  refine xq 1 [(14, .int .i64 a0), (0, .int .i64 a0), (1, v20830), (2, .int .i64 a2)] ?_
  obtain ⟨r21133, hx21134, hm⟩ := obind hm
  obtain ⟨v21135, h21136, hcl21137, hSc21138, rfl⟩ := correctorlaw4_within_ok F hS21131.inv  hx21134
  have hS21139 := St.call (A := []) (B := []) hS21131 hSc21138
  replace hS21139 : St _ _ _ _ _ _ [] := hS21139
  refine r_step rfl trivial (o_call hcl21137 rfl rfl rfl) ?_
  refine xe 1 [(0, .int .i64 r21133), (1, v20830), (2, .int .i64 a2)] ?_
  refine sr r4_6 ?_
  refine xq 2 [(17, v20830), (16, .int .i64 r21133), (0, .int .i64 r21133), (1, v20830), (2, .int .i64 a2)] ?_
  obtain ⟨r21140, hx21141, hm⟩ := obind hm
  have hSr21147 : St _ _ _ _ _ _ ([] ++ []) := hS21139
  obtain ⟨v21142, h21143, Z21148, A21150, hcl21144, hSc21145, v21152, c21153, rfl, rfl, q21151⟩ := correctorlaw4_Good_ok F hSr21147.preL q20829 hx21141
  have hS21146 := hSr21147.call hSc21145
  have hZ21149 := hSc21145.zle
  replace hS21146 : St _ _ _ _ _ _ [.gs v21152 c21153 (csz api_Edit)] := hS21146
  refine r_step rfl trivial (o_call hcl21144 rfl rfl rfl) ?_
  refine xe 1 [(7, v21152), (0, .int .i64 r21133), (1, v20830), (2, .int .i64 a2)] ?_
  refine sr r4_7 ?_
  refine xq 1 [(19, .int .i64 r21133), (7, v21152), (0, .int .i64 r21133), (1, v20830), (2, .int .i64 a2)] ?_
  have q21157 : RCs (α := api_Edit) Z21148 [] [] := RCs.nil0 _
  refine r_row rfl trivial (o_bs (cells := []) (s := 3) (by kernel_rfl)) (by kernel_rfl) hS21146 ?_
  intro v21154 h21155 hS21156
  replace hS21156 : St _ _ _ _ _ _ [.gs v21154 [] (csz api_Edit), .gs v21152 c21153 (csz api_Edit)] := hS21156
  refine xq 1 [(21, v21152), (20, v21154), (19, .int .i64 r21133), (7, v21152), (0, .int .i64 r21133), (1, v20830), (2, .int .i64 a2)] ?_
  obtain ⟨hc21165, hm⟩ := chk hm
  refine r_ex3 rfl trivial (o_app (ys := r21140) (by_ := 32) hS21156 (i := 0) rfl q21157 ((hS21156).gnews (j := 1) rfl q21151) rfl rfl (by kernel_rfl) (by omega) (by omega)) ?_
  rintro v21160 c21161 h21162 ⟨q21164, hS21163⟩
  replace hS21163 : St _ _ _ _ _ _ [.gs v21160 c21161 (csz api_Edit), .gs v21152 c21153 (csz api_Edit)] := hS21163
  obtain ⟨Z21166, hZ21167, q21168, hS21169⟩ := (hS21163.front 0 rfl).freeze q21164
  replace hS21169 : St _ _ _ _ _ _ [.gs v21152 c21153 (csz api_Edit)] := hS21169
  obtain ⟨r21170, hx21171, hm⟩ := obind hm
  have hSr21177 : St _ _ _ _ _ _ ([] ++ [.gs v21152 c21153 (csz api_Edit)]) := hS21169
  obtain ⟨v21172, h21173, Z21178, A21180, hcl21174, hSc21175, v21182, c21183, rfl, rfl, q21181⟩ := edit_Choose_ok F hSr21177.preL q21168 hx21171
  have hS21176 := hSr21177.call hSc21175
  have hZ21179 := hSc21175.zle
  replace hS21176 : St _ _ _ _ _ _ [.gs v21182 c21183 (csz api_Edit), .gs v21152 c21153 (csz api_Edit)] := hS21176
  refine r_step rfl trivial (o_call hcl21174 rfl rfl rfl) ?_
  refine xe 1 [(8, v21182), (7, v21152), (0, .int .i64 r21133), (1, v20830), (2, .int .i64 a2)] ?_
  refine sr r4_8 ?_
  refine xq 3 [(26, v21152), (25, .int .i64 r21133), (24, v21182), (8, v21182), (0, .int .i64 r21133), (1, v20830), (2, .int .i64 a2)] ?_
  obtain ⟨Z21184, hZ21185, q21186, hS21187⟩ := (hS21176.front 1 rfl).freeze (q21151.mono (hZ21167.trans hZ21179))
  replace hS21187 : St _ _ _ _ _ _ [.gs v21182 c21183 (csz api_Edit)] := hS21187
  obtain ⟨r21188, hx21189, hm⟩ := obind hm
  have hSr21195 : St _ _ _ _ _ _ ([] ++ [.gs v21182 c21183 (csz api_Edit)]) := hS21187
  obtain ⟨v21190, h21191, Z21196, A21198, hcl21192, hSc21193, v21200, c21201, rfl, rfl, q21199⟩ := correctorref4_Choose_ok F hSr21195.preL q21186 hx21189
  have hS21194 := hSr21195.call hSc21193
  have hZ21197 := hSc21193.zle
  replace hS21194 : St _ _ _ _ _ _ [.gs v21200 c21201 (csz api_Edit), .gs v21182 c21183 (csz api_Edit)] := hS21194
  refine r_step rfl trivial (o_call hcl21192 rfl rfl rfl) ?_
  obtain ⟨Z21202, hZ21203, q21204, hS21205⟩ := (hS21194.front 1 rfl).freeze (q21181.mono (hZ21185.trans hZ21197))
  replace hS21205 : St _ _ _ _ _ _ [.gs v21200 c21201 (csz api_Edit)] := hS21205
  obtain ⟨Z21206, hZ21207, q21208, hS21209⟩ := (hS21205.front 0 rfl).freeze (q21199.mono hZ21203)
  replace hS21209 : St _ _ _ _ _ _ [] := hS21209
  obtain ⟨r21210, hx21211, hm⟩ := obind hm
  obtain ⟨v21212, h21213, hcl21214, hSc21215, rfl⟩ := correctorlaw4_same_ok F hS21209.inv (q21204.mono hZ21207) q21208 hx21211
  have hS21216 := St.call (A := []) (B := []) hS21209 hSc21215
  replace hS21216 : St _ _ _ _ _ _ [] := hS21216
  refine r_step rfl trivial (o_call hcl21214 rfl rfl rfl) ?_
  refine xq 1 [(29, .bool r21210), (8, v21182), (0, .int .i64 r21133), (1, v20830), (2, .int .i64 a2)] ?_
  rcases ifs hm with ⟨hp21217, hm⟩ | ⟨hp21217, hm⟩
  refine r_setb (t := 29) rfl hp21217 ?_
  refine xq 2 [(31, v21182), (30, .int .i64 r21133), (29, .bool true), (8, v21182), (0, .int .i64 r21133), (1, v20830), (2, .int .i64 a2)] ?_
  obtain ⟨r21218, hx21219, hm⟩ := obind hm
  obtain ⟨v21220, h21221, hcl21222, hSc21223, rfl⟩ := edit_Check_ok F hS21216.inv (q21204.mono hZ21207) hx21219
  have hS21224 := St.call (A := []) (B := []) hS21216 hSc21223
  replace hS21224 : St _ _ _ _ _ _ [] := hS21224
  refine r_step rfl rfl (o_call hcl21222 rfl rfl rfl) ?_
  rcases ifs hm with ⟨hp21225, hm⟩ | ⟨hp21225, hm⟩
  refine r_step rfl rfl (o_cmp rfl rfl (c_eql_T hp21225)) ?_
  refine xq 4 [(37, v20830), (36, .int .i64 r21133), (35, .bool true), (8, v21182), (0, .int .i64 r21133), (1, v20830), (2, .int .i64 a2)] ?_
  obtain ⟨r21226, hx21227, hm⟩ := obind hm
  have hSr21233 : St _ _ _ _ _ _ ([] ++ []) := hS21224
  obtain ⟨v21228, h21229, Z21234, A21236, hcl21230, hSc21231, v21238, c21239, rfl, rfl, q21237⟩ := edit_Choose_ok F hSr21233.preL (q20829.mono (hZ21149.trans (hZ21167.trans (hZ21179.trans (hZ21185.trans (hZ21197.trans (hZ21203.trans hZ21207))))))) hx21227
  have hS21232 := hSr21233.call hSc21231
  have hZ21235 := hSc21231.zle
  replace hS21232 : St _ _ _ _ _ _ [.gs v21238 c21239 (csz api_Edit)] := hS21232
  refine r_step rfl rfl (o_call hcl21230 rfl rfl rfl) ?_
  refine xq 2 [(40, v20830), (39, .int .i64 r21133), (38, v21238), (35, .bool true), (8, v21182), (0, .int .i64 r21133), (1, v20830), (2, .int .i64 a2)] ?_
  obtain ⟨r21240, hx21241, hm⟩ := obind hm
  have hSr21247 : St _ _ _ _ _ _ ([] ++ [.gs v21238 c21239 (csz api_Edit)]) := hS21232
  obtain ⟨v21242, h21243, Z21248, A21250, hcl21244, hSc21245, v21252, c21253, rfl, rfl, q21251⟩ := correctorref4_Choose_ok F hSr21247.preL (q20829.mono (hZ21149.trans (hZ21167.trans (hZ21179.trans (hZ21185.trans (hZ21197.trans (hZ21203.trans (hZ21207.trans hZ21235)))))))) hx21241
  have hS21246 := hSr21247.call hSc21245
  have hZ21249 := hSc21245.zle
  replace hS21246 : St _ _ _ _ _ _ [.gs v21252 c21253 (csz api_Edit), .gs v21238 c21239 (csz api_Edit)] := hS21246
  refine r_step rfl rfl (o_call hcl21244 rfl rfl rfl) ?_
  obtain ⟨Z21254, hZ21255, q21256, hS21257⟩ := (hS21246.front 1 rfl).freeze (q21237.mono hZ21249)
  replace hS21257 : St _ _ _ _ _ _ [.gs v21252 c21253 (csz api_Edit)] := hS21257
  obtain ⟨Z21258, hZ21259, q21260, hS21261⟩ := (hS21257.front 0 rfl).freeze (q21251.mono hZ21255)
  replace hS21261 : St _ _ _ _ _ _ [] := hS21261
  obtain ⟨r21262, hx21263, hm⟩ := obind hm
  obtain ⟨v21264, h21265, hcl21266, hSc21267, rfl⟩ := correctorlaw4_same_ok F hS21261.inv (q21256.mono hZ21259) q21260 hx21263
  have hS21268 := St.call (A := []) (B := []) hS21261 hSc21267
  replace hS21268 : St _ _ _ _ _ _ [] := hS21268
  refine r_step rfl rfl (o_call hcl21266 rfl rfl rfl) ?_
  refine xq 2 [(44, .bool r21262), (8, v21182), (0, .int .i64 r21133), (1, v20830), (2, .int .i64 a2)] ?_
  rcases ifs hm with ⟨hp21269, hm⟩ | ⟨hp21269, hm⟩
  refine r_setb (t := 44) rfl hp21269 ?_
  refine xq 2 [(46, v20830), (45, .int .i64 a2), (44, .bool true), (8, v21182), (0, .int .i64 r21133), (1, v20830), (2, .int .i64 a2)] ?_
  obtain ⟨r21270, hx21271, hm⟩ := obind hm
  have hSr21277 : St _ _ _ _ _ _ ([] ++ []) := hS21268
  obtain ⟨v21272, h21273, Z21278, A21280, hcl21274, hSc21275, v21282, c21283, rfl, rfl, q21281⟩ := edit_Choose_ok F hSr21277.preL (q20829.mono (hZ21149.trans (hZ21167.trans (hZ21179.trans (hZ21185.trans (hZ21197.trans (hZ21203.trans (hZ21207.trans (hZ21235.trans (hZ21249.trans (hZ21255.trans hZ21259))))))))))) hx21271
  have hS21276 := hSr21277.call hSc21275
  have hZ21279 := hSc21275.zle
  replace hS21276 : St _ _ _ _ _ _ [.gs v21282 c21283 (csz api_Edit)] := hS21276
  refine r_step rfl rfl (o_call hcl21274 rfl rfl rfl) ?_
  refine xq 2 [(49, v20830), (48, .int .i64 a2), (47, v21282), (44, .bool true), (8, v21182), (0, .int .i64 r21133)] ?_
  obtain ⟨r21284, hx21285, hm⟩ := obind hm
  have hSr21291 : St _ _ _ _ _ _ ([] ++ [.gs v21282 c21283 (csz api_Edit)]) := hS21276
  obtain ⟨v21286, h21287, Z21292, A21294, hcl21288, hSc21289, v21296, c21297, rfl, rfl, q21295⟩ := correctorref4_Choose_ok F hSr21291.preL (q20829.mono (hZ21149.trans (hZ21167.trans (hZ21179.trans (hZ21185.trans (hZ21197.trans (hZ21203.trans (hZ21207.trans (hZ21235.trans (hZ21249.trans (hZ21255.trans (hZ21259.trans hZ21279)))))))))))) hx21285
  have hS21290 := hSr21291.call hSc21289
  have hZ21293 := hSc21289.zle
  replace hS21290 : St _ _ _ _ _ _ [.gs v21296 c21297 (csz api_Edit), .gs v21282 c21283 (csz api_Edit)] := hS21290
  refine r_step rfl rfl (o_call hcl21288 rfl rfl rfl) ?_
  obtain ⟨Z21298, hZ21299, q21300, hS21301⟩ := (hS21290.front 1 rfl).freeze (q21281.mono hZ21293)
  replace hS21301 : St _ _ _ _ _ _ [.gs v21296 c21297 (csz api_Edit)] := hS21301
  obtain ⟨Z21302, hZ21303, q21304, hS21305⟩ := (hS21301.front 0 rfl).freeze (q21295.mono hZ21299)
  replace hS21305 : St _ _ _ _ _ _ [] := hS21305
  obtain ⟨r21306, hx21307, hm⟩ := obind hm
  obtain ⟨v21308, h21309, hcl21310, hSc21311, rfl⟩ := correctorlaw4_same_ok F hS21305.inv (q21300.mono hZ21303) q21304 hx21307
  have hS21312 := St.call (A := []) (B := []) hS21305 hSc21311
  replace hS21312 : St _ _ _ _ _ _ [] := hS21312
  refine r_step rfl rfl (o_call hcl21310 rfl rfl rfl) ?_
  refine xq 2 [(53, .bool r21306), (8, v21182), (0, .int .i64 r21133)] ?_
  rcases ifs hm with ⟨hp21313, hm⟩ | ⟨hp21313, hm⟩
  refine r_setb (t := 53) rfl hp21313 ?_
  refine xq 2 [(55, v21182), (54, .int .i64 r21133), (53, .bool true), (8, v21182)] ?_
  obtain ⟨r21314, hx21315, hm⟩ := obind hm
  have hSr21321 : St _ _ _ _ _ _ ([] ++ []) := hS21312
  obtain ⟨v21316, h21317, Z21322, A21324, hcl21318, hSc21319, v21326, c21327, rfl, rfl, q21325⟩ := edit_Choose_ok F hSr21321.preL (q21204.mono (hZ21207.trans (hZ21235.trans (hZ21249.trans (hZ21255.trans (hZ21259.trans (hZ21279.trans (hZ21293.trans (hZ21299.trans hZ21303))))))))) hx21315
  have hS21320 := hSr21321.call hSc21319
  have hZ21323 := hSc21319.zle
  replace hS21320 : St _ _ _ _ _ _ [.gs v21326 c21327 (csz api_Edit)] := hS21320
  refine r_step rfl rfl (o_call hcl21318 rfl rfl rfl) ?_
  refine xq 1 [(57, v21182), (56, v21326), (53, .bool true)] ?_
  obtain ⟨Z21328, hZ21329, q21330, hS21331⟩ := (hS21320.front 0 rfl).freeze q21325
  replace hS21331 : St _ _ _ _ _ _ [] := hS21331
  obtain ⟨r21332, hx21333, hm⟩ := obind hm
  obtain ⟨v21334, h21335, hcl21336, hSc21337, rfl⟩ := correctorlaw4_same_ok F hS21331.inv q21330 (q21204.mono (hZ21207.trans (hZ21235.trans (hZ21249.trans (hZ21255.trans (hZ21259.trans (hZ21279.trans (hZ21293.trans (hZ21299.trans (hZ21303.trans (hZ21323.trans hZ21329))))))))))) hx21333
  have hS21338 := St.call (A := []) (B := []) hS21331 hSc21337
  replace hS21338 : St _ _ _ _ _ _ [] := hS21338
  refine r_step rfl rfl (o_call hcl21336 rfl rfl rfl) ?_
  refine xe 2 [(6, .bool r21332)] ?_
  refine rt ?_
  refine ⟨rfl, ?_⟩
  obtain rfl := Option.some.inj hm
  refine ⟨_, _, _, ResL.tmp rfl (ResL.nil), hS21338, ?_⟩
  exact rfl
  refine r_setb (t := 53) rfl (Bool.eq_false_iff.2 hp21313) ?_
  refine xe 7 [(6, .bool false)] ?_
  refine rt ?_
  refine ⟨rfl, ?_⟩
  obtain rfl := Option.some.inj hm
  refine ⟨_, _, _, ResL.tmp rfl (ResL.nil), hS21312, ?_⟩
  exact rfl
  refine r_setb (t := 44) rfl (Bool.eq_false_iff.2 hp21269) ?_
  refine xe 16 [(6, .bool false)] ?_
  refine rt ?_
  refine ⟨rfl, ?_⟩
  obtain rfl := Option.some.inj hm
  refine ⟨_, _, _, ResL.tmp rfl (ResL.nil), hS21268, ?_⟩
  exact rfl
  refine r_step rfl rfl (o_cmp rfl rfl (c_eql_F hp21225)) ?_
  refine xe 27 [(6, .bool false)] ?_
  refine rt ?_
  refine ⟨rfl, ?_⟩
  obtain rfl := Option.some.inj hm
  refine ⟨_, _, _, ResL.tmp rfl (ResL.nil), hS21224, ?_⟩
  exact rfl
  refine r_setb (t := 29) rfl (Bool.eq_false_iff.2 hp21217) ?_
  refine xe 31 [(6, .bool false)] ?_
  refine rt ?_
  refine ⟨rfl, ?_⟩
  obtain rfl := Option.some.inj hm
  refine ⟨_, _, _, ResL.tmp rfl (ResL.nil), hS21216, ?_⟩
  exact rfl
  refine r_setb (t := 12) rfl (Bool.eq_false_iff.2 hp21132) ?_
  refine xe 1 [(13, .bool true), (0, .int .i64 a0), (1, v20830), (2, .int .i64 a2)] ?_
  refine cT 13 rfl ?_
  refine sr r4_4 ?_
  refine xe 1 [(6, .bool true)] ?_
  refine rt ?_
  refine ⟨rfl, ?_⟩
  obtain rfl := Option.some.inj hm
  refine ⟨_, _, _, ResL.tmp rfl (ResL.nil), hS21131, ?_⟩
  exact rfl
  refine r_setb (t := 9) rfl (Bool.eq_false_iff.2 hp21108) ?_
  refine xe 1 [(10, .bool true), (0, .int .i64 a0), (1, v20830), (2, .int .i64 a2)] ?_
  refine cT 10 rfl ?_
  refine sr r4_2 ?_
  refine xe 1 [(6, .bool false)] ?_
  refine rt ?_
  refine ⟨rfl, ?_⟩
  obtain rfl := Option.some.inj hm
  refine ⟨_, _, _, ResL.tmp rfl (ResL.nil), hS21107, ?_⟩
  exact rfl

end Go.Proofs.Ytdajldmgdpggkaa.M
