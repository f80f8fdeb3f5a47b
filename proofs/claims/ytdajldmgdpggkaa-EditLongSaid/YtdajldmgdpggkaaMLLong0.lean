/- Printed by a program of this session: Go functions as Lean functions over plain data, and that the calls come to them. -/
import Derived.Test.YtdajldmgdpggkaaSyJ
import Derived.Test.YtdajldmgdpggkaaChecked
import Derived.KernelRfl
import Derived.Test.YtdajldmgdpggkaaMC0
namespace Go.Proofs.Ytdajldmgdpggkaa.M
open Go Am Sy
open Sy.Cell (rc)
set_option linter.unusedVariables false
set_option linter.unusedSimpArgs false
set_option maxRecDepth 20000

def r8_0 : List COp := [u 4 (.assign (.const (.bool false)))]
def r8_1 : List COp := [u 7 (cf 12 #[] #[]), u 8 (.unOp .not 4 (t 7))]
def r8_2 : List COp := [u 4 (.assign (.const (.bool false)))]
def r8_3 : List COp := [u 9 (.move (t 0)), u 10 (cf 14 #[(t 9), (ci 20)] #[3, 3]), u 11 (.binOp .sub 3 (ci 16384) (t 10) 3), u 12 (.move (t 1)), u 13 (cf 14 #[(t 12), (ci 30)] #[3, 3]), u 0 (.assign (t 11)), u 1 (.assign (t 13))]
def r8_4 : List COpF := [uF 15 (.move (t 0)) .pure [], uF 16 (.makeSlice 35 (t 15) (t 15)) .fresh [], uF 17 (.move (t 0)) .pure [], uF 18 (.move (t 0)) .pure [], uF 19 (.move (t 1)) .pure [], uF 20 (.makeSlice 35 (t 19) (t 19)) .fresh [], uF 21 (.convert 35 9 (t 20)) .look [], uF 22 (.build 29 #[(0, (t 17)), (1, (t 18)), (2, (t 21))]) .pure [], uF 23 (.buildSlice 22 1 #[(0, (t 22))]) .fresh [], uF 24 (cf 21 #[(t 16), (t 23)] #[35, 22]) .make [6], uF 14 (.move (t 24)) .pure [], uF 25 (.extract (t 14) 0) .pure [], uF 26 (.extract (t 14) 1) .pure [], uF 5 (.assign (t 25)) .pure [], uF 6 (.assign (t 26)) .pure []]
def r8_5 : List COp := [u 27 (.move (t 0)), u 28 (.move (t 1)), u 29 (.binOp .add 3 (t 27) (t 28) 3), u 30 (.binOp .gtr 3 (t 29) (ci 16384) 3)]
def r8_6 : List COp := [u 31 (.move (t 6)), u 32 (.binOp .eql 32 (t 31) (ci 4) 32), u 33 (.move (t 32)), gT 33 (some 34) (.move (t 5)), gT 33 (some 35) (cb .len #[(t 34)] #[35]), gT 33 (some 36) (.binOp .eql 3 (t 35) (ci 0) 3), u 37 (.pick (t 33) (t 36) (.const (.bool false))), u 4 (.assign (t 37))]
def r8_7 : List COp := [u 38 (.move (t 6)), u 39 (.binOp .eql 32 (t 38) (ci 0) 32), u 40 (.move (t 39)), gT 40 (some 41) (.move (t 5)), gT 40 (some 42) (cb .len #[(t 41)] #[35]), gT 40 (some 43) (.move (t 0)), gT 40 (some 44) (.move (t 1)), gT 40 (some 45) (.binOp .add 3 (t 43) (t 44) 3), gT 40 (some 46) (.binOp .eql 3 (t 42) (t 45) 3), u 47 (.pick (t 40) (t 46) (.const (.bool false))), u 4 (.assign (t 47))]
def correctorlaw4_EditLong (F : Nat) (a0 : Int) (a1 : Int) : Option Bool :=
  (correctorlaw4_known F).bind fun r25268 =>
  if r25268 = true then
    (correctorlaw4_within F a0 20).bind fun r25276 =>
    (correctorlaw4_within F a1 30).bind fun r25283 =>
    if 0 ≤ (w64 (16384 - r25276)) ∧ (w64 (16384 - r25276)) ≤ 140737488355328 then
      if 0 ≤ r25283 ∧ r25283 ≤ 140737488355328 then
        (edit_Apply F (List.replicate (w64 (16384 - r25276)).toNat 0) [(⟨w64 (16384 - r25276), w64 (16384 - r25276), (⟨List.replicate r25283.toNat 0⟩ : Str)⟩ : api_Edit)]).bind fun r25331 =>
        if (16384 : Int) < (w64 ((w64 (16384 - r25276)) + r25283)) then
          if r25331.2 = (4 : Int) then
            if (r25331.1.length : Int) = (0 : Int) then
              some true
            else
              some false
          else
            some false
        else
          if r25331.2 = (0 : Int) then
            if (r25331.1.length : Int) = (w64 ((w64 (16384 - r25276)) + r25283)) then
              some true
            else
              some false
          else
            some false
      else none
    else none
  else
    some false
theorem correctorlaw4_EditLong_ok (F : Nat) {h : AH} {Z : Zn} {a0 : Int} {a1 : Int} (hI : Inv Z h) {r : Bool} (hm : correctorlaw4_EditLong F a0 a1 = some r) :
    ∃ v h', callI Go.Proofs.Try.prog 8 [.int .i64 a0, .int .i64 a1] h = some (v, h') ∧ St h [] Z (0, 0) Z h' [] ∧ v = .bool r := by
  refine fn_plain (Q := fun v => v = .bool r) Go.Proofs.Try.func8 rfl rfl hI ?_
  intro hs hS
  unfold correctorlaw4_EditLong at hm
  refine sr r8_0 ?_
  refine xe 1 [(0, .int .i64 a0), (1, .int .i64 a1)] ?_
  refine sq ?_
  refine sr r8_1 ?_
  obtain ⟨r25268, hx25269, hm⟩ := obind hm
  obtain ⟨v25270, h25271, hcl25272, hSc25273, rfl⟩ := correctorlaw4_known_ok F hS.inv  hx25269
  have hS25274 := St.call (A := []) (B := []) hS hSc25273
  replace hS25274 : St _ _ _ _ _ _ [] := hS25274
  refine r_step rfl trivial (o_call hcl25272 rfl rfl rfl) ?_
  rcases ifs hm with ⟨hp25275, hm⟩ | ⟨hp25275, hm⟩
  refine r_setb (t := 7) rfl hp25275 ?_
  refine xe 1 [(8, .bool false), (0, .int .i64 a0), (1, .int .i64 a1)] ?_
  refine kF 8 rfl ?_
  refine sr r8_3 ?_
  refine xq 1 [(9, .int .i64 a0), (0, .int .i64 a0), (1, .int .i64 a1)] ?_
  obtain ⟨r25276, hx25277, hm⟩ := obind hm
  obtain ⟨v25278, h25279, hcl25280, hSc25281, rfl⟩ := correctorlaw4_within_ok F hS25274.inv  hx25277
  have hS25282 := St.call (A := []) (B := []) hS25274 hSc25281
  replace hS25282 : St _ _ _ _ _ _ [] := hS25282
  refine r_step rfl trivial (o_call hcl25280 rfl rfl rfl) ?_
  refine xq 2 [(12, .int .i64 a1), (11, .int .i64 (w64 (16384 - r25276))), (0, .int .i64 a0), (1, .int .i64 a1)] ?_
  obtain ⟨r25283, hx25284, hm⟩ := obind hm
  obtain ⟨v25285, h25286, hcl25287, hSc25288, rfl⟩ := correctorlaw4_within_ok F hS25282.inv  hx25284
  have hS25289 := St.call (A := []) (B := []) hS25282 hSc25288
  replace hS25289 : St _ _ _ _ _ _ [] := hS25289
  refine r_step rfl trivial (o_call hcl25287 rfl rfl rfl) ?_
  refine xe 2 [(1, .int .i64 r25283), (0, .int .i64 (w64 (16384 - r25276)))] ?_
  refine srF r8_4 hS25289 ?_
  intro bs25290 h25291 hlv25293 hS25292
  refine yq 1 [(15, .int .i64 (w64 (16384 - r25276))), (1, .int .i64 r25283), (0, .int .i64 (w64 (16384 - r25276)))] ?_
  obtain ⟨hc25301, hm⟩ := chk hm
  refine e_mks rfl trivial (o_ms (α := UInt8) (Z := Z) (x0 := 0) (n := w64 (16384 - r25276)) (by_ := 1) rfl rfl (by kernel_rfl) rfl hc25301.1 (by omega) (by omega)) hS25292 (by omega) (Nat.add_lt_add_left (by decide) _) ?_
  intro v25294 c25295 h25296 b25302 eb25303 ec25304 q25298 hS25297
  refine yq 3 [(19, .int .i64 r25283), (18, .int .i64 (w64 (16384 - r25276))), (17, .int .i64 (w64 (16384 - r25276))), (16, v25294), (1, .int .i64 r25283), (0, .int .i64 (w64 (16384 - r25276)))] ?_
  obtain ⟨hc25312, hm⟩ := chk hm
  refine e_mks rfl trivial (o_ms (α := UInt8) (Z := Z) (x0 := 0) (n := r25283) (by_ := 1) rfl rfl (by kernel_rfl) rfl hc25312.1 (by omega) (by omega)) hS25297 (by omega) (Nat.add_lt_add_left (by decide) _) ?_
  intro v25305 c25306 h25307 b25313 eb25314 ec25315 q25309 hS25308
  refine e_lookN rfl rfl trivial (o_tostrG hS25308 (j := 0) rfl q25309 rfl (by kernel_rfl)) trivial ?_
  refine yq 1 [(22, .agg #[.int .i64 (w64 (16384 - r25276)), .int .i64 (w64 (16384 - r25276)), .string ⟨⟨List.replicate r25283.toNat 0⟩⟩]), (16, v25294), (1, .int .i64 r25283), (0, .int .i64 (w64 (16384 - r25276)))] ?_
  have q25319 : RCs (α := api_Edit) Z [.int .i64 (w64 (16384 - r25276)), .int .i64 (w64 (16384 - r25276)), .string ⟨⟨List.replicate r25283.toNat 0⟩⟩] [(⟨w64 (16384 - r25276), w64 (16384 - r25276), (⟨List.replicate r25283.toNat 0⟩ : Str)⟩ : api_Edit)] := RCs.cons (cs := [.int .i64 (w64 (16384 - r25276)), .int .i64 (w64 (16384 - r25276)), .string ⟨⟨List.replicate r25283.toNat 0⟩⟩]) rfl (RCs.nil0 _)
  refine e_row rfl trivial (o_bs (cells := [.int .i64 (w64 (16384 - r25276)), .int .i64 (w64 (16384 - r25276)), .string ⟨⟨List.replicate r25283.toNat 0⟩⟩]) (s := 3) (by kernel_rfl)) (by kernel_rfl) hS25308 (by omega) (Nat.add_lt_add_left (by decide) _) ?_
  intro v25316 h25317 b25320 eb25321 ec25322 hS25318
  replace hS25318 : St _ _ _ _ _ _ [.gs v25316 [.int .i64 (w64 (16384 - r25276)), .int .i64 (w64 (16384 - r25276)), .string ⟨⟨List.replicate r25283.toNat 0⟩⟩] (csz api_Edit), .gs v25305 c25306 (csz UInt8), .gs v25294 c25295 (csz UInt8)] := hS25318
  obtain ⟨Z25323, hZ25324, q25325, hS25326⟩ := (hS25318.front 2 rfl).freeze q25298
  replace hS25326 : St _ _ _ _ _ _ [.gs v25316 [.int .i64 (w64 (16384 - r25276)), .int .i64 (w64 (16384 - r25276)), .string ⟨⟨List.replicate r25283.toNat 0⟩⟩] (csz api_Edit), .gs v25305 c25306 (csz UInt8)] := hS25326
  obtain ⟨Z25327, hZ25328, q25329, hS25330⟩ := (hS25326.front 0 rfl).freeze (q25319.mono hZ25324)
  replace hS25330 : St _ _ _ _ _ _ [.gs v25305 c25306 (csz UInt8)] := hS25330
  obtain ⟨r25331, hx25332, hm⟩ := obind hm
  have hSl25338 := hS25330.lown
  have hSr25339 : St _ _ _ _ _ _ ([] ++ [.gs v25305 c25306 (csz UInt8)]) := hSl25338
  obtain ⟨v25333, h25334, Z25340, A25342, hcl25335, hSc25336, v25344, c25345, rfl, rfl, q25343⟩ := edit_Apply_ok F hSr25339.preL (q25325.mono hZ25328) q25329 hx25332
  have hS25337 := hSr25339.call hSc25336
  have hZ25341 := hSc25336.zle
  replace hS25337 : St _ _ _ _ _ _ [.gs v25344 c25345 (csz UInt8), .gs v25305 c25306 (csz UInt8)] := hS25337
  refine e_still rfl trivial hS25330 (o_call hcl25335 rfl rfl rfl) hS25337 (St.lowk hSc25336) ?_
  intro h25346 hS25347
  refine ye 5 [(6, .int .i64 r25331.2), (5, v25344), (1, .int .i64 r25283), (0, .int .i64 (w64 (16384 - r25276)))] ?_
  have hS25348 := hS25347.unres
  refine sq ?_
  refine sr r8_5 ?_
  refine xq 3 [(29, .int .i64 (w64 ((w64 (16384 - r25276)) + r25283))), (6, .int .i64 r25331.2), (5, v25344), (1, .int .i64 r25283), (0, .int .i64 (w64 (16384 - r25276)))] ?_
  rcases ifs hm with ⟨hp25355, hm⟩ | ⟨hp25355, hm⟩
  refine r_step rfl trivial (o_cmp rfl rfl (c_gtr_T hp25355)) ?_
  refine xf [(30, .bool true), (6, .int .i64 r25331.2), (5, v25344), (1, .int .i64 r25283), (0, .int .i64 (w64 (16384 - r25276)))] ?_
  refine cT 30 rfl ?_
  refine sr r8_6 ?_
  refine xq 1 [(31, .int .i64 r25331.2), (5, v25344)] ?_
  rcases ifs hm with ⟨hp25358, hm⟩ | ⟨hp25358, hm⟩
  refine r_step rfl trivial (o_cmp rfl rfl (c_eql_T hp25358)) ?_
  refine xq 2 [(34, v25344), (33, .bool true)] ?_
  refine r_step rfl rfl (o_len rfl (hS25348.glen (i := 0) rfl q25343) ⟨_, Go.Proofs.Try.underlying35⟩) ?_
  rcases ifs hm with ⟨hp25359, hm⟩ | ⟨hp25359, hm⟩
  refine r_step rfl rfl (o_cmp rfl rfl (c_eql_T hp25359)) ?_
  refine xe 2 [(4, .bool true)] ?_
  refine rt ?_
  refine ⟨rfl, ?_⟩
  obtain rfl := Option.some.inj hm
  refine ⟨_, _, _, ResL.tmp rfl (ResL.nil), hS25348, ?_⟩
  exact rfl
  refine r_step rfl rfl (o_cmp rfl rfl (c_eql_F hp25359)) ?_
  refine xe 2 [(4, .bool false)] ?_
  refine rt ?_
  refine ⟨rfl, ?_⟩
  obtain rfl := Option.some.inj hm
  refine ⟨_, _, _, ResL.tmp rfl (ResL.nil), hS25348, ?_⟩
  exact rfl
  refine r_step rfl trivial (o_cmp rfl rfl (c_eql_F hp25358)) ?_
  refine xe 6 [(4, .bool false)] ?_
  refine rt ?_
  refine ⟨rfl, ?_⟩
  obtain rfl := Option.some.inj hm
  refine ⟨_, _, _, ResL.tmp rfl (ResL.nil), hS25348, ?_⟩
  exact rfl
  refine r_step rfl trivial (o_cmp rfl rfl (c_gtr_F hp25355)) ?_
  refine xf [(30, .bool false), (6, .int .i64 r25331.2), (5, v25344), (1, .int .i64 r25283), (0, .int .i64 (w64 (16384 - r25276)))] ?_
  refine kF 30 rfl ?_
  refine sr r8_7 ?_
  refine xq 1 [(38, .int .i64 r25331.2), (5, v25344), (1, .int .i64 r25283), (0, .int .i64 (w64 (16384 - r25276)))] ?_
  rcases ifs hm with ⟨hp25360, hm⟩ | ⟨hp25360, hm⟩
  refine r_step rfl trivial (o_cmp rfl rfl (c_eql_T hp25360)) ?_
  refine xq 2 [(41, v25344), (40, .bool true), (1, .int .i64 r25283), (0, .int .i64 (w64 (16384 - r25276)))] ?_
  refine r_step rfl rfl (o_len rfl (hS25348.glen (i := 0) rfl q25343) ⟨_, Go.Proofs.Try.underlying35⟩) ?_
  refine xq 3 [(45, .int .i64 (w64 ((w64 (16384 - r25276)) + r25283))), (42, .int .i64 (r25331.1.length : Int)), (40, .bool true)] ?_
  rcases ifs hm with ⟨hp25361, hm⟩ | ⟨hp25361, hm⟩
  refine r_step rfl rfl (o_cmp rfl rfl (c_eql_T hp25361)) ?_
  refine xe 2 [(4, .bool true)] ?_
  refine rt ?_
  refine ⟨rfl, ?_⟩
  obtain rfl := Option.some.inj hm
  refine ⟨_, _, _, ResL.tmp rfl (ResL.nil), hS25348, ?_⟩
  exact rfl
  refine r_step rfl rfl (o_cmp rfl rfl (c_eql_F hp25361)) ?_
  refine xe 2 [(4, .bool false)] ?_
  refine rt ?_
  refine ⟨rfl, ?_⟩
  obtain rfl := Option.some.inj hm
  refine ⟨_, _, _, ResL.tmp rfl (ResL.nil), hS25348, ?_⟩
  exact rfl
  refine r_step rfl trivial (o_cmp rfl rfl (c_eql_F hp25360)) ?_
  refine xe 9 [(4, .bool false)] ?_
  refine rt ?_
  refine ⟨rfl, ?_⟩
  obtain rfl := Option.some.inj hm
  refine ⟨_, _, _, ResL.tmp rfl (ResL.nil), hS25348, ?_⟩
  exact rfl
  refine r_setb (t := 7) rfl (Bool.eq_false_iff.2 hp25275) ?_
  refine xe 1 [(8, .bool true), (0, .int .i64 a0), (1, .int .i64 a1)] ?_
  refine cT 8 rfl ?_
  refine sr r8_2 ?_
  refine xe 1 [(4, .bool false)] ?_
  refine rt ?_
  refine ⟨rfl, ?_⟩
  obtain rfl := Option.some.inj hm
  refine ⟨_, _, _, ResL.tmp rfl (ResL.nil), hS25274, ?_⟩
  exact rfl

end Go.Proofs.Ytdajldmgdpggkaa.M
