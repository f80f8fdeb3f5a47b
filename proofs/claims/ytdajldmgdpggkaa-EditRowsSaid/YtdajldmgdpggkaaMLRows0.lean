/- Printed by a program of this session: Go functions as Lean functions over plain data, and that the calls come to them. -/
import Derived.Test.YtdajldmgdpggkaaSyJ
import Derived.Test.YtdajldmgdpggkaaChecked
import Derived.KernelRfl
import Derived.Test.YtdajldmgdpggkaaMC0
namespace Go.Proofs.Ytdajldmgdpggkaa.M
open Go Am Sy
open Sy.Cell (rc)
set_option linter.unusedVariables false
set_option linter.unusedSimpArgs false
set_option maxRecDepth 20000

def r5_0 : List COp := [u 6 (.assign (.const (.bool false)))]
def r5_1 : List COp := [u 9 (cf 12 #[] #[]), u 10 (.unOp .not 4 (t 9))]
def r5_2 : List COp := [u 6 (.assign (.const (.bool false)))]
def r5_3 : List COp := [u 11 (.move (t 0)), u 12 (cf 14 #[(t 11), (ci 50)] #[3, 3]), u 13 (.binOp .add 3 (ci 5) (t 12) 3), u 14 (.move (t 2)), u 15 (cf 14 #[(t 14), (ci 9)] #[3, 3]), u 16 (.binOp .add 3 (ci 1) (t 15) 3), u 0 (.assign (t 13)), u 2 (.assign (t 16))]
def r5_4 : List COp := [u 17 (.build 29 #[(0, (ci 1)), (1, (ci 3)), (2, (.const (.string { data := #[120] })))]), u 18 (.build 29 #[(0, (ci 3)), (1, (ci 4))]), u 19 (.buildSlice 22 2 #[(0, (t 17)), (1, (t 18))]), u 7 (.assign (t 19))]
def r5_5 : List COp := [u 8 (.assign (ci 1))]
def r5_6 : List COp := [u 20 (.move (t 1)), u 21 (cf 14 #[(t 20), (ci 7)] #[3, 3])]
def r5_7 : List COp := [u 23 (.binOp .eql 3 (t 21) (ci 0) 3), u 22 (.assign (t 23))]
def r5_8 : List COp := [u 24 (.move (t 7)), u 25 (.move (t 2)), u 26 (.binOp .sub 3 (ci 0) (t 25) 3), u 27 (.indexAddr 22 (t 24) (ci 0)), u 28 (.fieldAddr 29 (t 27) 0), o (.store 3 (t 28) (t 26))]
def r5_9 : List COp := [u 30 (.binOp .eql 3 (t 21) (ci 1) 3), u 29 (.assign (t 30))]
def r5_10 : List COp := [u 31 (.move (t 7)), u 32 (.move (t 0)), u 33 (.move (t 2)), u 34 (.binOp .add 3 (t 32) (t 33) 3), u 35 (.indexAddr 22 (t 31) (ci 1)), u 36 (.fieldAddr 29 (t 35) 1), o (.store 3 (t 36) (t 34))]
def r5_11 : List COp := [u 38 (.binOp .eql 3 (t 21) (ci 2) 3), u 37 (.assign (t 38))]
def r5_12 : List COp := [u 39 (.move (t 7)), u 40 (.indexAddr 22 (t 39) (ci 1)), u 41 (.fieldAddr 29 (t 40) 1), o (.store 3 (t 41) (ci 2))]
def r5_13 : List COp := [u 43 (.binOp .eql 3 (t 21) (ci 3) 3), u 42 (.assign (t 43))]
def r5_14 : List COp := [u 44 (.move (t 7)), u 45 (.move (t 2)), u 46 (.binOp .add 3 (ci 1000) (t 45) 3), u 47 (.makeSlice 35 (t 46) (t 46)), u 48 (.convert 35 9 (t 47)), u 49 (.indexAddr 22 (t 44) (ci 1)), u 50 (.fieldAddr 29 (t 49) 2), o (.store 9 (t 50) (t 48)), u 8 (.assign (ci 4))]
def r5_15 : List COp := [u 52 (.binOp .eql 3 (t 21) (ci 4) 3), u 51 (.assign (t 52))]
def r5_16 : List COp := [u 53 (.move (t 7)), u 54 (.indexAddr 22 (t 53) (ci 1)), u 55 (.fieldAddr 29 (t 54) 0), o (.store 3 (t 55) (ci 2)), u 8 (.assign (ci 6))]
def r5_17 : List COp := [u 57 (.binOp .eql 3 (t 21) (ci 5) 3), u 56 (.assign (t 57))]
def r5_18 : List COp := [u 58 (.move (t 2)), u 59 (.binOp .add 3 (ci 200) (t 58) 3), u 60 (.makeSlice 22 (t 59) (t 59)), u 7 (.assign (t 60)), u 8 (.assign (ci 3))]
def r5_19 : List COp := [u 62 (.binOp .eql 3 (t 21) (ci 6) 3), u 61 (.assign (t 62))]
def r5_20 : List COp := [u 8 (.assign (ci 0))]
def r5_21 : List COp := [u 63 (.move (t 0)), u 64 (.move (t 7)), u 65 (cf 20 #[(t 63), (t 64)] #[3, 22]), u 66 (.move (t 8)), u 67 (.binOp .eql 32 (t 65) (t 66) 32), u 6 (.assign (t 67))]
def correctorlaw4_EditRows (F : Nat) (a0 : Int) (a1 : Int) (a2 : Int) : Option Bool :=
  (correctorlaw4_known F).bind fun r15058 =>
  if r15058 = true then
    (correctorlaw4_within F a0 50).bind fun r15066 =>
    (correctorlaw4_within F a2 9).bind fun r15073 =>
    (((correctorlaw4_within F a1 7).bind fun r15177 =>
      if r15177 = (0 : Int) then
        if 0 ≤ (0 : Int) ∧ (0 : Int) < ([(⟨1, 3, (⟨[120]⟩ : Str)⟩ : api_Edit), (⟨3, 4, (⟨[]⟩ : Str)⟩ : api_Edit)].length : Int) then
          ([(⟨1, 3, (⟨[120]⟩ : Str)⟩ : api_Edit), (⟨3, 4, (⟨[]⟩ : Str)⟩ : api_Edit)][(0 : Int).toNat]?).bind fun x15187 =>
          some ([(⟨1, 3, (⟨[120]⟩ : Str)⟩ : api_Edit), (⟨3, 4, (⟨[]⟩ : Str)⟩ : api_Edit)].set (0 : Int).toNat (⟨w64 (0 - (w64 (1 + r15073))), x15187.To, x15187.Put⟩ : api_Edit), 1)
        else none
      else
        if r15177 = (1 : Int) then
          if 0 ≤ (1 : Int) ∧ (1 : Int) < ([(⟨1, 3, (⟨[120]⟩ : Str)⟩ : api_Edit), (⟨3, 4, (⟨[]⟩ : Str)⟩ : api_Edit)].length : Int) then
            ([(⟨1, 3, (⟨[120]⟩ : Str)⟩ : api_Edit), (⟨3, 4, (⟨[]⟩ : Str)⟩ : api_Edit)][(1 : Int).toNat]?).bind fun x15200 =>
            some ([(⟨1, 3, (⟨[120]⟩ : Str)⟩ : api_Edit), (⟨3, 4, (⟨[]⟩ : Str)⟩ : api_Edit)].set (1 : Int).toNat (⟨x15200.From, w64 ((w64 (5 + r15066)) + (w64 (1 + r15073))), x15200.Put⟩ : api_Edit), 1)
          else none
        else
          if r15177 = (2 : Int) then
            if 0 ≤ (1 : Int) ∧ (1 : Int) < ([(⟨1, 3, (⟨[120]⟩ : Str)⟩ : api_Edit), (⟨3, 4, (⟨[]⟩ : Str)⟩ : api_Edit)].length : Int) then
              ([(⟨1, 3, (⟨[120]⟩ : Str)⟩ : api_Edit), (⟨3, 4, (⟨[]⟩ : Str)⟩ : api_Edit)][(1 : Int).toNat]?).bind fun x15213 =>
              some ([(⟨1, 3, (⟨[120]⟩ : Str)⟩ : api_Edit), (⟨3, 4, (⟨[]⟩ : Str)⟩ : api_Edit)].set (1 : Int).toNat (⟨x15213.From, 2, x15213.Put⟩ : api_Edit), 1)
            else none
          else
            if r15177 = (3 : Int) then
              if 0 ≤ (w64 (1000 + (w64 (1 + r15073)))) ∧ (w64 (1000 + (w64 (1 + r15073)))) ≤ 140737488355328 then
                if 0 ≤ (1 : Int) ∧ (1 : Int) < ([(⟨1, 3, (⟨[120]⟩ : Str)⟩ : api_Edit), (⟨3, 4, (⟨[]⟩ : Str)⟩ : api_Edit)].length : Int) then
                  ([(⟨1, 3, (⟨[120]⟩ : Str)⟩ : api_Edit), (⟨3, 4, (⟨[]⟩ : Str)⟩ : api_Edit)][(1 : Int).toNat]?).bind fun x15234 =>
                  some ([(⟨1, 3, (⟨[120]⟩ : Str)⟩ : api_Edit), (⟨3, 4, (⟨[]⟩ : Str)⟩ : api_Edit)].set (1 : Int).toNat (⟨x15234.From, x15234.To, (⟨List.replicate (w64 (1000 + (w64 (1 + r15073)))).toNat 0⟩ : Str)⟩ : api_Edit), 4)
                else none
              else none
            else
              if r15177 = (4 : Int) then
                if 0 ≤ (1 : Int) ∧ (1 : Int) < ([(⟨1, 3, (⟨[120]⟩ : Str)⟩ : api_Edit), (⟨3, 4, (⟨[]⟩ : Str)⟩ : api_Edit)].length : Int) then
                  ([(⟨1, 3, (⟨[120]⟩ : Str)⟩ : api_Edit), (⟨3, 4, (⟨[]⟩ : Str)⟩ : api_Edit)][(1 : Int).toNat]?).bind fun x15247 =>
                  some ([(⟨1, 3, (⟨[120]⟩ : Str)⟩ : api_Edit), (⟨3, 4, (⟨[]⟩ : Str)⟩ : api_Edit)].set (1 : Int).toNat (⟨2, x15247.To, x15247.Put⟩ : api_Edit), 6)
                else none
              else
                if r15177 = (5 : Int) then
                  if 0 ≤ (w64 (200 + (w64 (1 + r15073)))) ∧ (w64 (200 + (w64 (1 + r15073)))) ≤ 4398046511104 then
                    some (List.replicate (w64 (200 + (w64 (1 + r15073)))).toNat (⟨0, 0, (⟨[]⟩ : Str)⟩ : api_Edit), 3)
                  else none
                else
                  if r15177 = (6 : Int) then
                    some ([(⟨1, 3, (⟨[120]⟩ : Str)⟩ : api_Edit), (⟨3, 4, (⟨[]⟩ : Str)⟩ : api_Edit)], 0)
                  else
                    some ([(⟨1, 3, (⟨[120]⟩ : Str)⟩ : api_Edit), (⟨3, 4, (⟨[]⟩ : Str)⟩ : api_Edit)], 1)) : Option ((List api_Edit) × Int)).bind fun o => match o with
      | (x15268, x15272) => (edit_Check F (w64 (5 + r15066)) x15268).bind fun r15279 =>
      if r15279 = x15272 then
        some true
      else
        some false
  else
    some false
theorem correctorlaw4_EditRows_ok (F : Nat) {h : AH} {Z : Zn} {a0 : Int} {a1 : Int} {a2 : Int} (hI : Inv Z h) {r : Bool} (hm : correctorlaw4_EditRows F a0 a1 a2 = some r) :
    ∃ v h', callI Go.Proofs.Try.prog 5 [.int .i64 a0, .int .i64 a1, .int .i64 a2] h = some (v, h') ∧ St h [] Z (0, 0) Z h' [] ∧ v = .bool r := by
  refine fn_plain (Q := fun v => v = .bool r) Go.Proofs.Try.func5 rfl rfl hI ?_
  intro hs hS
  unfold correctorlaw4_EditRows at hm
  refine sr r5_0 ?_
  refine xe 1 [(0, .int .i64 a0), (1, .int .i64 a1), (2, .int .i64 a2)] ?_
  refine sq ?_
  refine sr r5_1 ?_
  obtain ⟨r15058, hx15059, hm⟩ := obind hm
  obtain ⟨v15060, h15061, hcl15062, hSc15063, rfl⟩ := correctorlaw4_known_ok F hS.inv  hx15059
  have hS15064 := St.call (A := []) (B := []) hS hSc15063
  replace hS15064 : St _ _ _ _ _ _ [] := hS15064
  refine r_step rfl trivial (o_call hcl15062 rfl rfl rfl) ?_
  rcases ifs hm with ⟨hp15065, hm⟩ | ⟨hp15065, hm⟩
  refine r_setb (t := 9) rfl hp15065 ?_
  refine xe 1 [(10, .bool false), (0, .int .i64 a0), (1, .int .i64 a1), (2, .int .i64 a2)] ?_
  refine kF 10 rfl ?_
  refine sr r5_3 ?_
  refine xq 1 [(11, .int .i64 a0), (0, .int .i64 a0), (1, .int .i64 a1), (2, .int .i64 a2)] ?_
  obtain ⟨r15066, hx15067, hm⟩ := obind hm
  obtain ⟨v15068, h15069, hcl15070, hSc15071, rfl⟩ := correctorlaw4_within_ok F hS15064.inv  hx15067
  have hS15072 := St.call (A := []) (B := []) hS15064 hSc15071
  replace hS15072 : St _ _ _ _ _ _ [] := hS15072
  refine r_step rfl trivial (o_call hcl15070 rfl rfl rfl) ?_
  refine xq 2 [(14, .int .i64 a2), (13, .int .i64 (w64 (5 + r15066))), (0, .int .i64 a0), (1, .int .i64 a1), (2, .int .i64 a2)] ?_
  obtain ⟨r15073, hx15074, hm⟩ := obind hm
  obtain ⟨v15075, h15076, hcl15077, hSc15078, rfl⟩ := correctorlaw4_within_ok F hS15072.inv  hx15074
  have hS15079 := St.call (A := []) (B := []) hS15072 hSc15078
  replace hS15079 : St _ _ _ _ _ _ [] := hS15079
  refine r_step rfl trivial (o_call hcl15077 rfl rfl rfl) ?_
  refine xe 3 [(2, .int .i64 (w64 (1 + r15073))), (0, .int .i64 (w64 (5 + r15066))), (1, .int .i64 a1)] ?_
  refine sr r5_4 ?_
  refine xq 2 [(18, .agg #[.int .i64 3, .int .i64 4, .string ⟨⟨[]⟩⟩]), (17, .agg #[.int .i64 1, .int .i64 3, .string ⟨⟨[120]⟩⟩]), (2, .int .i64 (w64 (1 + r15073))), (0, .int .i64 (w64 (5 + r15066))), (1, .int .i64 a1)] ?_
  have q15083 : RCs (α := api_Edit) Z [.int .i64 1, .int .i64 3, .string ⟨⟨[120]⟩⟩, .int .i64 3, .int .i64 4, .string ⟨⟨[]⟩⟩] [(⟨1, 3, (⟨[120]⟩ : Str)⟩ : api_Edit), (⟨3, 4, (⟨[]⟩ : Str)⟩ : api_Edit)] := RCs.cons (cs := [.int .i64 1, .int .i64 3, .string ⟨⟨[120]⟩⟩]) rfl (RCs.cons (cs := [.int .i64 3, .int .i64 4, .string ⟨⟨[]⟩⟩]) rfl (RCs.nil0 _))
  refine r_row rfl trivial (o_bs (cells := [.int .i64 1, .int .i64 3, .string ⟨⟨[120]⟩⟩, .int .i64 3, .int .i64 4, .string ⟨⟨[]⟩⟩]) (s := 3) (by kernel_rfl)) (by kernel_rfl) hS15079 ?_
  intro v15080 h15081 hS15082
  replace hS15082 : St _ _ _ _ _ _ [.gs v15080 [.int .i64 1, .int .i64 3, .string ⟨⟨[120]⟩⟩, .int .i64 3, .int .i64 4, .string ⟨⟨[]⟩⟩] (csz api_Edit)] := hS15082
  refine xe 1 [(7, v15080), (2, .int .i64 (w64 (1 + r15073))), (0, .int .i64 (w64 (5 + r15066))), (1, .int .i64 a1)] ?_
  refine sr r5_5 ?_
  refine xe 1 [(8, .int .i64 1), (7, v15080), (2, .int .i64 (w64 (1 + r15073))), (0, .int .i64 (w64 (5 + r15066))), (1, .int .i64 a1)] ?_
  refine sq ?_
  obtain ⟨o15176, ho15175, hm⟩ := obind hm
  refine W_join [0, 7, 8] (fun l h => ∃ Z15267 : Zn, ∃ x15268 : List api_Edit, ∃ x15272 : Int, ∃ v15270 : Value, ∃ c15271 : List Value, (x15268, x15272) = o15176 ∧ RCs (α := api_Edit) Z15267 c15271 x15268 ∧ l = [(0, .int .i64 (w64 (5 + r15066))), (7, v15270), (8, .int .i64 x15272)] ∧ St hs [] Z (0, 0) Z15267 h [.gs v15270 c15271 (csz api_Edit)]) ?_ ?_
  rintro l h15273 ⟨Z15267, x15268, x15272, v15270, c15271, rfl, q15269, rfl, hS15274⟩
  try dsimp only at hm
  refine sr r5_21 ?_
  refine xq 2 [(64, v15270), (63, .int .i64 (w64 (5 + r15066))), (8, .int .i64 x15272)] ?_
  obtain ⟨Z15275, hZ15276, q15277, hS15278⟩ := (hS15274.front 0 rfl).freeze q15269
  replace hS15278 : St _ _ _ _ _ _ [] := hS15278
  obtain ⟨r15279, hx15280, hm⟩ := obind hm
  obtain ⟨v15281, h15282, hcl15283, hSc15284, rfl⟩ := edit_Check_ok F hS15278.inv q15277 hx15280
  have hS15285 := St.call (A := []) (B := []) hS15278 hSc15284
  replace hS15285 : St _ _ _ _ _ _ [] := hS15285
  refine r_step rfl trivial (o_call hcl15283 rfl rfl rfl) ?_
  refine xq 1 [(66, .int .i64 x15272), (65, .int .i64 r15279)] ?_
  rcases ifs hm with ⟨hp15286, hm⟩ | ⟨hp15286, hm⟩
  refine r_step rfl trivial (o_cmp rfl rfl (c_eql_T hp15286)) ?_
  refine xe 1 [(6, .bool true)] ?_
  refine rt ?_
  refine ⟨rfl, ?_⟩
  obtain rfl := Option.some.inj hm
  refine ⟨_, _, _, ResL.tmp rfl (ResL.nil), hS15285, ?_⟩
  exact rfl
  refine r_step rfl trivial (o_cmp rfl rfl (c_eql_F hp15286)) ?_
  refine xe 1 [(6, .bool false)] ?_
  refine rt ?_
  refine ⟨rfl, ?_⟩
  obtain rfl := Option.some.inj hm
  refine ⟨_, _, _, ResL.tmp rfl (ResL.nil), hS15285, ?_⟩
  exact rfl
  refine sr r5_6 ?_
  refine xq 1 [(20, .int .i64 a1), (8, .int .i64 1), (7, v15080), (2, .int .i64 (w64 (1 + r15073))), (0, .int .i64 (w64 (5 + r15066)))] ?_
  obtain ⟨r15177, hx15178, ho15175⟩ := obind ho15175
  obtain ⟨v15179, h15180, hcl15181, hSc15182, rfl⟩ := correctorlaw4_within_ok F hS15082.inv  hx15178
  have hS15183 := St.call (A := []) (B := [.gs v15080 [.int .i64 1, .int .i64 3, .string ⟨⟨[120]⟩⟩, .int .i64 3, .int .i64 4, .string ⟨⟨[]⟩⟩] (csz api_Edit)]) hS15082 hSc15182
  replace hS15183 : St _ _ _ _ _ _ [.gs v15080 [.int .i64 1, .int .i64 3, .string ⟨⟨[120]⟩⟩, .int .i64 3, .int .i64 4, .string ⟨⟨[]⟩⟩] (csz api_Edit)] := hS15183
  refine r_step rfl trivial (o_call hcl15181 rfl rfl rfl) ?_
  refine xf [(21, .int .i64 r15177), (8, .int .i64 1), (7, v15080), (2, .int .i64 (w64 (1 + r15073))), (0, .int .i64 (w64 (5 + r15066)))] ?_
  refine bk 0 ?_
  refine sr r5_7 ?_
  rcases ifs ho15175 with ⟨hp15185, ho15175⟩ | ⟨hp15185, ho15175⟩
  refine r_step rfl trivial (o_cmp rfl rfl (c_eql_T hp15185)) ?_
  refine xe 1 [(22, .bool true), (21, .int .i64 r15177), (8, .int .i64 1), (7, v15080), (2, .int .i64 (w64 (1 + r15073))), (0, .int .i64 (w64 (5 + r15066)))] ?_
  refine cT 22 rfl ?_
  refine rg r5_8 ?_
  refine xq 3 [(26, .int .i64 (w64 (0 - (w64 (1 + r15073))))), (24, v15080), (8, .int .i64 1), (7, v15080), (0, .int .i64 (w64 (5 + r15066)))] ?_
  obtain ⟨hc15186, ho15175⟩ := chk ho15175
  refine r_step rfl trivial (o_index rfl rfl (by kernel_rfl : slTy _ _ = some (csz api_Edit)) (hS15183.gbased (j := 0) rfl q15083 (by omega)) hc15186.1 hc15186.2) ?_
  refine xq 1 [(28, .pointer (some (elemA v15080 0 (csz api_Edit) 0))), (26, .int .i64 (w64 (0 - (w64 (1 + r15073))))), (8, .int .i64 1), (7, v15080), (0, .int .i64 (w64 (5 + r15066)))] ?_
  obtain ⟨x15187, hx15188, ho15175⟩ := obind ho15175
  obtain ⟨cs15189, hc15190, he15191, ht15192⟩ := hS15183.gel (j := 0) rfl q15083 (i := 0) hx15188
  obtain rfl := rc_api_Edit hc15190
  refine r_ex2 rfl trivial (o_ste (u' := (⟨w64 (0 - (w64 (1 + r15073))), x15187.To, x15187.Put⟩ : api_Edit)) (vs := [.int .i64 (w64 (0 - (w64 (1 + r15073))))]) (cs' := [.int .i64 (w64 (0 - (w64 (1 + r15073)))), .int .i64 x15187.To, .string ⟨⟨x15187.Put.b⟩⟩]) hS15183 (m := 0) rfl q15083 hx15188 ht15192 rfl rfl rfl (by kernel_rfl) rfl rfl rfl rfl) ?_
  rintro h15193 c15194 ⟨q15196, hS15195⟩
  replace hS15195 : St _ _ _ _ _ _ [.gs v15080 c15194 (csz api_Edit)] := hS15195
  refine xf [(8, .int .i64 1), (7, v15080), (0, .int .i64 (w64 (5 + r15066)))] ?_
  obtain rfl := Option.some.inj ho15175
  exact ⟨_, [(⟨1, 3, (⟨[120]⟩ : Str)⟩ : api_Edit), (⟨3, 4, (⟨[]⟩ : Str)⟩ : api_Edit)].set (0 : Int).toNat (⟨w64 (0 - (w64 (1 + r15073))), x15187.To, x15187.Put⟩ : api_Edit), 1, v15080, c15194, rfl, q15196, rfl, hS15195⟩
  refine r_step rfl trivial (o_cmp rfl rfl (c_eql_F hp15185)) ?_
  refine xe 1 [(22, .bool false), (21, .int .i64 r15177), (8, .int .i64 1), (7, v15080), (2, .int .i64 (w64 (1 + r15073))), (0, .int .i64 (w64 (5 + r15066)))] ?_
  refine cF 22 rfl ?_
  refine sr r5_9 ?_
  rcases ifs ho15175 with ⟨hp15198, ho15175⟩ | ⟨hp15198, ho15175⟩
  refine r_step rfl trivial (o_cmp rfl rfl (c_eql_T hp15198)) ?_
  refine xe 1 [(29, .bool true), (21, .int .i64 r15177), (8, .int .i64 1), (7, v15080), (2, .int .i64 (w64 (1 + r15073))), (0, .int .i64 (w64 (5 + r15066)))] ?_
  refine cT 29 rfl ?_
  refine rg r5_10 ?_
  refine xq 4 [(34, .int .i64 (w64 ((w64 (5 + r15066)) + (w64 (1 + r15073))))), (31, v15080), (8, .int .i64 1), (7, v15080), (0, .int .i64 (w64 (5 + r15066)))] ?_
  obtain ⟨hc15199, ho15175⟩ := chk ho15175
  refine r_step rfl trivial (o_index rfl rfl (by kernel_rfl : slTy _ _ = some (csz api_Edit)) (hS15183.gbased (j := 0) rfl q15083 (by omega)) hc15199.1 hc15199.2) ?_
  refine xq 1 [(36, .pointer (some (elemA v15080 1 (csz api_Edit) 1))), (34, .int .i64 (w64 ((w64 (5 + r15066)) + (w64 (1 + r15073))))), (8, .int .i64 1), (7, v15080), (0, .int .i64 (w64 (5 + r15066)))] ?_
  obtain ⟨x15200, hx15201, ho15175⟩ := obind ho15175
  obtain ⟨cs15202, hc15203, he15204, ht15205⟩ := hS15183.gel (j := 0) rfl q15083 (i := 1) hx15201
  obtain rfl := rc_api_Edit hc15203
  refine r_ex2 rfl trivial (o_ste (u' := (⟨x15200.From, w64 ((w64 (5 + r15066)) + (w64 (1 + r15073))), x15200.Put⟩ : api_Edit)) (vs := [.int .i64 (w64 ((w64 (5 + r15066)) + (w64 (1 + r15073))))]) (cs' := [.int .i64 x15200.From, .int .i64 (w64 ((w64 (5 + r15066)) + (w64 (1 + r15073)))), .string ⟨⟨x15200.Put.b⟩⟩]) hS15183 (m := 0) rfl q15083 hx15201 ht15205 rfl rfl rfl (by kernel_rfl) rfl rfl rfl rfl) ?_
  rintro h15206 c15207 ⟨q15209, hS15208⟩
  replace hS15208 : St _ _ _ _ _ _ [.gs v15080 c15207 (csz api_Edit)] := hS15208
  refine xf [(8, .int .i64 1), (7, v15080), (0, .int .i64 (w64 (5 + r15066)))] ?_
  obtain rfl := Option.some.inj ho15175
  exact ⟨_, [(⟨1, 3, (⟨[120]⟩ : Str)⟩ : api_Edit), (⟨3, 4, (⟨[]⟩ : Str)⟩ : api_Edit)].set (1 : Int).toNat (⟨x15200.From, w64 ((w64 (5 + r15066)) + (w64 (1 + r15073))), x15200.Put⟩ : api_Edit), 1, v15080, c15207, rfl, q15209, rfl, hS15208⟩
  refine r_step rfl trivial (o_cmp rfl rfl (c_eql_F hp15198)) ?_
  refine xe 1 [(29, .bool false), (21, .int .i64 r15177), (8, .int .i64 1), (7, v15080), (2, .int .i64 (w64 (1 + r15073))), (0, .int .i64 (w64 (5 + r15066)))] ?_
  refine cF 29 rfl ?_
  refine sr r5_11 ?_
  rcases ifs ho15175 with ⟨hp15211, ho15175⟩ | ⟨hp15211, ho15175⟩
  refine r_step rfl trivial (o_cmp rfl rfl (c_eql_T hp15211)) ?_
  refine xe 1 [(37, .bool true), (21, .int .i64 r15177), (8, .int .i64 1), (7, v15080), (2, .int .i64 (w64 (1 + r15073))), (0, .int .i64 (w64 (5 + r15066)))] ?_
  refine cT 37 rfl ?_
  refine rg r5_12 ?_
  refine xq 1 [(39, v15080), (8, .int .i64 1), (7, v15080), (0, .int .i64 (w64 (5 + r15066)))] ?_
  obtain ⟨hc15212, ho15175⟩ := chk ho15175
  refine r_step rfl trivial (o_index rfl rfl (by kernel_rfl : slTy _ _ = some (csz api_Edit)) (hS15183.gbased (j := 0) rfl q15083 (by omega)) hc15212.1 hc15212.2) ?_
  refine xq 1 [(41, .pointer (some (elemA v15080 1 (csz api_Edit) 1))), (8, .int .i64 1), (7, v15080), (0, .int .i64 (w64 (5 + r15066)))] ?_
  obtain ⟨x15213, hx15214, ho15175⟩ := obind ho15175
  obtain ⟨cs15215, hc15216, he15217, ht15218⟩ := hS15183.gel (j := 0) rfl q15083 (i := 1) hx15214
  obtain rfl := rc_api_Edit hc15216
  refine r_ex2 rfl trivial (o_ste (u' := (⟨x15213.From, 2, x15213.Put⟩ : api_Edit)) (vs := [.int .i64 2]) (cs' := [.int .i64 x15213.From, .int .i64 2, .string ⟨⟨x15213.Put.b⟩⟩]) hS15183 (m := 0) rfl q15083 hx15214 ht15218 rfl rfl rfl (by kernel_rfl) rfl rfl rfl rfl) ?_
  rintro h15219 c15220 ⟨q15222, hS15221⟩
  replace hS15221 : St _ _ _ _ _ _ [.gs v15080 c15220 (csz api_Edit)] := hS15221
  refine xf [(8, .int .i64 1), (7, v15080), (0, .int .i64 (w64 (5 + r15066)))] ?_
  obtain rfl := Option.some.inj ho15175
  exact ⟨_, [(⟨1, 3, (⟨[120]⟩ : Str)⟩ : api_Edit), (⟨3, 4, (⟨[]⟩ : Str)⟩ : api_Edit)].set (1 : Int).toNat (⟨x15213.From, 2, x15213.Put⟩ : api_Edit), 1, v15080, c15220, rfl, q15222, rfl, hS15221⟩
  refine r_step rfl trivial (o_cmp rfl rfl (c_eql_F hp15211)) ?_
  refine xe 1 [(37, .bool false), (21, .int .i64 r15177), (8, .int .i64 1), (7, v15080), (2, .int .i64 (w64 (1 + r15073))), (0, .int .i64 (w64 (5 + r15066)))] ?_
  refine cF 37 rfl ?_
  refine sr r5_13 ?_
  rcases ifs ho15175 with ⟨hp15224, ho15175⟩ | ⟨hp15224, ho15175⟩
  refine r_step rfl trivial (o_cmp rfl rfl (c_eql_T hp15224)) ?_
  refine xe 1 [(42, .bool true), (21, .int .i64 r15177), (8, .int .i64 1), (7, v15080), (2, .int .i64 (w64 (1 + r15073))), (0, .int .i64 (w64 (5 + r15066)))] ?_
  refine cT 42 rfl ?_
  refine rg r5_14 ?_
  refine xq 3 [(46, .int .i64 (w64 (1000 + (w64 (1 + r15073))))), (44, v15080), (8, .int .i64 1), (7, v15080), (0, .int .i64 (w64 (5 + r15066)))] ?_
  obtain ⟨hc15232, ho15175⟩ := chk ho15175
  refine r_mk rfl trivial (o_ms (α := UInt8) (Z := Z) (x0 := 0) (n := w64 (1000 + (w64 (1 + r15073)))) (by_ := 1) rfl rfl (by kernel_rfl) rfl hc15232.1 (by omega) (by omega)) hS15183 ?_
  intro v15225 c15226 h15227 q15229 hS15228
  refine r_step rfl trivial (o_tostrG hS15228 (j := 0) rfl q15229 rfl (by kernel_rfl)) ?_
  obtain ⟨hc15233, ho15175⟩ := chk ho15175
  refine r_step rfl trivial (o_index rfl rfl (by kernel_rfl : slTy _ _ = some (csz api_Edit)) (hS15228.gbased (j := 1) rfl q15083 (by omega)) hc15233.1 hc15233.2) ?_
  refine xq 1 [(50, .pointer (some (elemA v15080 1 (csz api_Edit) 2))), (48, .string ⟨⟨List.replicate (w64 (1000 + (w64 (1 + r15073)))).toNat 0⟩⟩), (8, .int .i64 1), (7, v15080), (0, .int .i64 (w64 (5 + r15066)))] ?_
  obtain ⟨x15234, hx15235, ho15175⟩ := obind ho15175
  obtain ⟨cs15236, hc15237, he15238, ht15239⟩ := hS15228.gel (j := 1) rfl q15083 (i := 1) hx15235
  obtain rfl := rc_api_Edit hc15237
  refine r_ex2 rfl trivial (o_ste (u' := (⟨x15234.From, x15234.To, (⟨List.replicate (w64 (1000 + (w64 (1 + r15073)))).toNat 0⟩ : Str)⟩ : api_Edit)) (vs := [.string ⟨⟨List.replicate (w64 (1000 + (w64 (1 + r15073)))).toNat 0⟩⟩]) (cs' := [.int .i64 x15234.From, .int .i64 x15234.To, .string ⟨⟨List.replicate (w64 (1000 + (w64 (1 + r15073)))).toNat 0⟩⟩]) hS15228 (m := 1) rfl q15083 hx15235 ht15239 rfl rfl rfl (by kernel_rfl) rfl rfl rfl rfl) ?_
  rintro h15240 c15241 ⟨q15243, hS15242⟩
  replace hS15242 : St _ _ _ _ _ _ [.gs v15225 c15226 (csz UInt8), .gs v15080 c15241 (csz api_Edit)] := hS15242
  refine xe 1 [(8, .int .i64 4), (7, v15080), (0, .int .i64 (w64 (5 + r15066)))] ?_
  obtain rfl := Option.some.inj ho15175
  exact ⟨_, [(⟨1, 3, (⟨[120]⟩ : Str)⟩ : api_Edit), (⟨3, 4, (⟨[]⟩ : Str)⟩ : api_Edit)].set (1 : Int).toNat (⟨x15234.From, x15234.To, (⟨List.replicate (w64 (1000 + (w64 (1 + r15073)))).toNat 0⟩ : Str)⟩ : api_Edit), 4, v15080, c15241, rfl, q15243, rfl, ((hS15242.front 1 rfl).takeN 1)⟩
  refine r_step rfl trivial (o_cmp rfl rfl (c_eql_F hp15224)) ?_
  refine xe 1 [(42, .bool false), (21, .int .i64 r15177), (8, .int .i64 1), (7, v15080), (2, .int .i64 (w64 (1 + r15073))), (0, .int .i64 (w64 (5 + r15066)))] ?_
  refine cF 42 rfl ?_
  refine sr r5_15 ?_
  rcases ifs ho15175 with ⟨hp15245, ho15175⟩ | ⟨hp15245, ho15175⟩
  refine r_step rfl trivial (o_cmp rfl rfl (c_eql_T hp15245)) ?_
  refine xe 1 [(51, .bool true), (21, .int .i64 r15177), (8, .int .i64 1), (7, v15080), (2, .int .i64 (w64 (1 + r15073))), (0, .int .i64 (w64 (5 + r15066)))] ?_
  refine cT 51 rfl ?_
  refine rg r5_16 ?_
  refine xq 1 [(53, v15080), (8, .int .i64 1), (7, v15080), (0, .int .i64 (w64 (5 + r15066)))] ?_
  obtain ⟨hc15246, ho15175⟩ := chk ho15175
  refine r_step rfl trivial (o_index rfl rfl (by kernel_rfl : slTy _ _ = some (csz api_Edit)) (hS15183.gbased (j := 0) rfl q15083 (by omega)) hc15246.1 hc15246.2) ?_
  refine xq 1 [(55, .pointer (some (elemA v15080 1 (csz api_Edit) 0))), (8, .int .i64 1), (7, v15080), (0, .int .i64 (w64 (5 + r15066)))] ?_
  obtain ⟨x15247, hx15248, ho15175⟩ := obind ho15175
  obtain ⟨cs15249, hc15250, he15251, ht15252⟩ := hS15183.gel (j := 0) rfl q15083 (i := 1) hx15248
  obtain rfl := rc_api_Edit hc15250
  refine r_ex2 rfl trivial (o_ste (u' := (⟨2, x15247.To, x15247.Put⟩ : api_Edit)) (vs := [.int .i64 2]) (cs' := [.int .i64 2, .int .i64 x15247.To, .string ⟨⟨x15247.Put.b⟩⟩]) hS15183 (m := 0) rfl q15083 hx15248 ht15252 rfl rfl rfl (by kernel_rfl) rfl rfl rfl rfl) ?_
  rintro h15253 c15254 ⟨q15256, hS15255⟩
  replace hS15255 : St _ _ _ _ _ _ [.gs v15080 c15254 (csz api_Edit)] := hS15255
  refine xe 1 [(8, .int .i64 6), (7, v15080), (0, .int .i64 (w64 (5 + r15066)))] ?_
  obtain rfl := Option.some.inj ho15175
  exact ⟨_, [(⟨1, 3, (⟨[120]⟩ : Str)⟩ : api_Edit), (⟨3, 4, (⟨[]⟩ : Str)⟩ : api_Edit)].set (1 : Int).toNat (⟨2, x15247.To, x15247.Put⟩ : api_Edit), 6, v15080, c15254, rfl, q15256, rfl, hS15255⟩
  refine r_step rfl trivial (o_cmp rfl rfl (c_eql_F hp15245)) ?_
  refine xe 1 [(51, .bool false), (21, .int .i64 r15177), (8, .int .i64 1), (7, v15080), (2, .int .i64 (w64 (1 + r15073))), (0, .int .i64 (w64 (5 + r15066)))] ?_
  refine cF 51 rfl ?_
  refine sr r5_17 ?_
  rcases ifs ho15175 with ⟨hp15257, ho15175⟩ | ⟨hp15257, ho15175⟩
  refine r_step rfl trivial (o_cmp rfl rfl (c_eql_T hp15257)) ?_
  refine xe 1 [(56, .bool true), (21, .int .i64 r15177), (8, .int .i64 1), (7, v15080), (2, .int .i64 (w64 (1 + r15073))), (0, .int .i64 (w64 (5 + r15066)))] ?_
  refine cT 56 rfl ?_
  refine rg r5_18 ?_
  refine xq 2 [(59, .int .i64 (w64 (200 + (w64 (1 + r15073))))), (8, .int .i64 1), (7, v15080), (0, .int .i64 (w64 (5 + r15066)))] ?_
  obtain ⟨hc15265, ho15175⟩ := chk ho15175
  refine r_mk rfl trivial (o_ms (α := api_Edit) (Z := Z) (x0 := (⟨0, 0, (⟨[]⟩ : Str)⟩ : api_Edit)) (n := w64 (200 + (w64 (1 + r15073)))) (by_ := 32) rfl rfl (by kernel_rfl) rfl hc15265.1 (by omega) (by omega)) hS15183 ?_
  intro v15258 c15259 h15260 q15262 hS15261
  refine xe 2 [(8, .int .i64 3), (7, v15258), (0, .int .i64 (w64 (5 + r15066)))] ?_
  obtain rfl := Option.some.inj ho15175
  exact ⟨_, List.replicate (w64 (200 + (w64 (1 + r15073)))).toNat (⟨0, 0, (⟨[]⟩ : Str)⟩ : api_Edit), 3, v15258, c15259, rfl, q15262, rfl, (hS15261.takeN 1)⟩
  refine r_step rfl trivial (o_cmp rfl rfl (c_eql_F hp15257)) ?_
  refine xe 1 [(56, .bool false), (21, .int .i64 r15177), (8, .int .i64 1), (7, v15080), (2, .int .i64 (w64 (1 + r15073))), (0, .int .i64 (w64 (5 + r15066)))] ?_
  refine cF 56 rfl ?_
  refine sr r5_19 ?_
  rcases ifs ho15175 with ⟨hp15266, ho15175⟩ | ⟨hp15266, ho15175⟩
  refine r_step rfl trivial (o_cmp rfl rfl (c_eql_T hp15266)) ?_
  refine xe 1 [(61, .bool true), (8, .int .i64 1), (7, v15080), (0, .int .i64 (w64 (5 + r15066)))] ?_
  refine cT 61 rfl ?_
  refine rg r5_20 ?_
  refine xe 1 [(8, .int .i64 0), (7, v15080), (0, .int .i64 (w64 (5 + r15066)))] ?_
  obtain rfl := Option.some.inj ho15175
  exact ⟨_, [(⟨1, 3, (⟨[120]⟩ : Str)⟩ : api_Edit), (⟨3, 4, (⟨[]⟩ : Str)⟩ : api_Edit)], 0, v15080, [.int .i64 1, .int .i64 3, .string ⟨⟨[120]⟩⟩, .int .i64 3, .int .i64 4, .string ⟨⟨[]⟩⟩], rfl, q15083, rfl, hS15183⟩
  refine r_step rfl trivial (o_cmp rfl rfl (c_eql_F hp15266)) ?_
  refine xe 1 [(61, .bool false), (8, .int .i64 1), (7, v15080), (0, .int .i64 (w64 (5 + r15066)))] ?_
  refine kF 61 rfl ?_
  obtain rfl := Option.some.inj ho15175
  exact ⟨_, [(⟨1, 3, (⟨[120]⟩ : Str)⟩ : api_Edit), (⟨3, 4, (⟨[]⟩ : Str)⟩ : api_Edit)], 1, v15080, [.int .i64 1, .int .i64 3, .string ⟨⟨[120]⟩⟩, .int .i64 3, .int .i64 4, .string ⟨⟨[]⟩⟩], rfl, q15083, rfl, hS15183⟩
  refine r_setb (t := 9) rfl (Bool.eq_false_iff.2 hp15065) ?_
  refine xe 1 [(10, .bool true), (0, .int .i64 a0), (1, .int .i64 a1), (2, .int .i64 a2)] ?_
  refine cT 10 rfl ?_
  refine sr r5_2 ?_
  refine xe 1 [(6, .bool false)] ?_
  refine rt ?_
  refine ⟨rfl, ?_⟩
  obtain rfl := Option.some.inj hm
  refine ⟨_, _, _, ResL.tmp rfl (ResL.nil), hS15064, ?_⟩
  exact rfl

end Go.Proofs.Ytdajldmgdpggkaa.M
