/- Printed by a program of this session: Go functions as Lean functions over plain data, and that the calls come to them. -/
import Derived.Test.YtdajldmgdpggkaaSyJ
import Derived.Test.YtdajldmgdpggkaaChecked
import Derived.KernelRfl
import Derived.Test.YtdajldmgdpggkaaMF0
namespace Go.Proofs.Ytdajldmgdpggkaa.M
open Go Am Sy
open Sy.Cell (rc)
set_option linter.unusedVariables false
set_option linter.unusedSimpArgs false
set_option maxRecDepth 20000

def r11_0 : List COp := [u 4 (.assign (.const (.bool false)))]
def r11_1 : List COp := [u 11 (cf 12 #[] #[]), u 12 (.unOp .not 4 (t 11))]
def r11_2 : List COp := [u 4 (.assign (.const (.bool false)))]
def r11_3 : List COp := [u 13 (.move (t 0)), u 14 (cb .len #[(t 13)] #[35]), u 15 (.binOp .gtr 3 (t 14) (ci 60) 3), u 16 (.move (t 15)), gN 16 (some 17) (.move (t 1)), gN 16 (some 18) (cf 13 #[(t 17)] #[22]), gN 16 (some 19) (.unOp .not 4 (t 18)), u 20 (.pick (t 16) (.const (.bool true)) (t 19))]
def r11_4 : List COp := [u 4 (.assign (.const (.bool true)))]
def r11_5 : List COp := [u 21 (.move (t 0)), u 22 (cb .len #[(t 21)] #[35]), u 23 (.move (t 0)), u 24 (cb .len #[(t 23)] #[35]), u 25 (.move (t 1)), u 26 (cf 15 #[(t 24), (t 25)] #[3, 22]), u 27 (cf 19 #[(t 22), (t 26)] #[3, 22]), u 5 (.assign (t 27))]
def r11_6 : List COp := [u 29 (.move (t 0)), u 30 (.move (t 5)), u 31 (cf 21 #[(t 29), (t 30)] #[35, 22]), u 28 (.move (t 31)), u 32 (.extract (t 28) 0), u 33 (.extract (t 28) 1), u 6 (.assign (t 32)), u 7 (.assign (t 33))]
def r11_7 : List COp := [u 8 (.assign (ci 0))]
def r11_8 : List COp := [u 9 (.assign (ci 0))]
def r11_9 : List COp := [u 34 (.move (t 9)), u 35 (.move (t 0)), u 36 (cb .len #[(t 35)] #[35]), u 37 (.binOp .leq 3 (t 34) (t 36) 3)]
def r11_10 : List COp := [u 38 (.move (t 9)), u 39 (.binOp .add 3 (t 38) (ci 1) 3), u 9 (.assign (t 39))]
def r11_11 : List COp := [u 40 (.move (t 5)), u 41 (.move (t 9)), u 42 (cf 24 #[(t 40), (t 41)] #[22, 3]), u 10 (.assign (t 42))]
def r11_12 : List COp := [u 43 (.move (t 10)), u 44 (.move (t 8)), u 45 (.binOp .lss 3 (t 43) (t 44) 3)]
def r11_13 : List COp := [u 4 (.assign (.const (.bool false)))]
def r11_14 : List COp := [u 46 (.move (t 10)), u 8 (.assign (t 46))]
def r11_15 : List COp := [u 47 (.move (t 7)), u 48 (.binOp .eql 32 (t 47) (ci 0) 32), u 49 (.move (t 48)), gT 49 (some 50) (.move (t 5)), gT 49 (some 51) (.move (t 0)), gT 49 (some 52) (cb .len #[(t 51)] #[35]), gT 49 (some 53) (cf 24 #[(t 50), (t 52)] #[22, 3]), gT 49 (some 54) (.move (t 6)), gT 49 (some 55) (cb .len #[(t 54)] #[35]), gT 49 (some 56) (.binOp .eql 3 (t 53) (t 55) 3), u 57 (.pick (t 49) (t 56) (.const (.bool false))), u 58 (.move (t 57)), gT 58 (some 59) (.move (t 5)), gT 58 (some 60) (.move (t 0)), gT 58 (some 61) (cb .len #[(t 60)] #[35]), gT 58 (some 62) (.binOp .add 3 (t 61) (ci 7) 3), gT 58 (some 63) (cf 24 #[(t 59), (t 62)] #[22, 3]), gT 58 (some 64) (.move (t 6)), gT 58 (some 65) (cb .len #[(t 64)] #[35]), gT 58 (some 66) (.binOp .add 3 (t 65) (ci 7) 3), gT 58 (some 67) (.binOp .eql 3 (t 63) (t 66) 3), u 68 (.pick (t 58) (t 67) (.const (.bool false))), u 4 (.assign (t 68))]
def correctorlaw4_EditMapsOrder_l0 (F : Nat) (a0 : List UInt8) (a1 : List api_Edit) : Nat → (List api_Edit) → (List UInt8) → Int → Int → Int → Option (Sum ((List api_Edit) × (List UInt8) × Int) Bool)
  | 0, _, _, _, _, _ => none
  | n + 1, x25073, x25076, x25080, x25081, x25082 =>
    if x25082 ≤ (a0.length : Int) then
      (edit_Map F x25073 x25082).bind fun r25089 =>
      if r25089 < x25081 then
        some (.inr false)
      else
        correctorlaw4_EditMapsOrder_l0 F a0 a1 n x25073 x25076 x25080 r25089 (w64 (x25082 + 1))
    else
      some (.inl (x25073, x25076, x25080))
def correctorlaw4_EditMapsOrder (F : Nat) (a0 : List UInt8) (a1 : List api_Edit) : Option Bool :=
  (correctorlaw4_known F).bind fun r24878 =>
  if r24878 = true then
    if (60 : Int) < (a0.length : Int) then
      some true
    else
      (correctorlaw4_Few F a1).bind fun r24905 =>
      if r24905 = true then
        (correctorlaw4_Good F (a0.length : Int) a1).bind fun r24913 =>
        (correctorref4_Choose F (a0.length : Int) r24913).bind fun r24931 =>
        (edit_Apply F a0 r24931).bind fun r24949 =>
        ((correctorlaw4_EditMapsOrder_l0 F a0 a1 F r24931 r24949.1 r24949.2 0 0) : Option (Sum ((List api_Edit) × (List UInt8) × Int) Bool)).bind fun o => match o with
          | .inl (x25107, x25110, x25114) => if x25114 = (0 : Int) then
            (edit_Map F x25107 (a0.length : Int)).bind fun r25118 =>
            if r25118 = (x25110.length : Int) then
              (edit_Map F x25107 (w64 ((a0.length : Int) + 7))).bind fun r25126 =>
              if r25126 = (w64 ((x25110.length : Int) + 7)) then
                some true
              else
                some false
            else
              some false
          else
            some false
          | .inr y => some y
      else
        some true
  else
    some false
theorem correctorlaw4_EditMapsOrder_ok (F : Nat) {h : AH} {Z : Zn} {a0 : List UInt8} {a1 : List api_Edit} {v24623 : Value} {v24625 : Value} (hI : Inv Z h) (q24622 : RS (α := UInt8) Z v24623 a0) (q24624 : RS (α := api_Edit) Z v24625 a1) {r : Bool} (hm : correctorlaw4_EditMapsOrder F a0 a1 = some r) :
    ∃ v h', callI Go.Proofs.Try.prog 11 [v24623, v24625] h = some (v, h') ∧ St h [] Z (0, 0) Z h' [] ∧ v = .bool r := by
  refine fn_plain (Q := fun v => v = .bool r) Go.Proofs.Try.func11 rfl rfl hI ?_
  intro hs hS
  unfold correctorlaw4_EditMapsOrder at hm
  refine sr r11_0 ?_
  refine xe 1 [(0, v24623), (1, v24625)] ?_
  refine sq ?_
  refine sr r11_1 ?_
  obtain ⟨r24878, hx24879, hm⟩ := obind hm
  obtain ⟨v24880, h24881, hcl24882, hSc24883, rfl⟩ := correctorlaw4_known_ok F hS.inv  hx24879
  have hS24884 := St.call (A := []) (B := []) hS hSc24883
  replace hS24884 : St _ _ _ _ _ _ [] := hS24884
  refine r_step rfl trivial (o_call hcl24882 rfl rfl rfl) ?_
  rcases ifs hm with ⟨hp24885, hm⟩ | ⟨hp24885, hm⟩
  refine r_setb (t := 11) rfl hp24885 ?_
  refine xe 1 [(12, .bool false), (0, v24623), (1, v24625)] ?_
  refine kF 12 rfl ?_
  refine sq ?_
  refine sr r11_3 ?_
  refine xq 1 [(13, v24623), (0, v24623), (1, v24625)] ?_
  refine r_step rfl trivial (o_len rfl (RS.len q24622) ⟨_, Go.Proofs.Try.underlying35⟩) ?_
  rcases ifs hm with ⟨hp24904, hm⟩ | ⟨hp24904, hm⟩
  refine r_step rfl trivial (o_cmp rfl rfl (c_gtr_T hp24904)) ?_
  refine xe 5 [(20, .bool true), (0, v24623), (1, v24625)] ?_
  refine cT 20 rfl ?_
  refine sr r11_4 ?_
  refine xe 1 [(4, .bool true)] ?_
  refine rt ?_
  refine ⟨rfl, ?_⟩
  obtain rfl := Option.some.inj hm
  refine ⟨_, _, _, ResL.tmp rfl (ResL.nil), hS24884, ?_⟩
  exact rfl
  refine r_step rfl trivial (o_cmp rfl rfl (c_gtr_F hp24904)) ?_
  refine xq 2 [(17, v24625), (16, .bool false), (0, v24623), (1, v24625)] ?_
  obtain ⟨r24905, hx24906, hm⟩ := obind hm
  obtain ⟨v24907, h24908, hcl24909, hSc24910, rfl⟩ := correctorlaw4_Few_ok F hS24884.inv q24624 hx24906
  have hS24911 := St.call (A := []) (B := []) hS24884 hSc24910
  replace hS24911 : St _ _ _ _ _ _ [] := hS24911
  refine r_step rfl rfl (o_call hcl24909 rfl rfl rfl) ?_
  rcases ifs hm with ⟨hp24912, hm⟩ | ⟨hp24912, hm⟩
  refine r_setb (t := 18) rfl hp24912 ?_
  refine xe 2 [(20, .bool false), (0, v24623), (1, v24625)] ?_
  refine kF 20 rfl ?_
  refine sr r11_5 ?_
  refine xq 1 [(21, v24623), (0, v24623), (1, v24625)] ?_
  refine r_step rfl trivial (o_len rfl (RS.len q24622) ⟨_, Go.Proofs.Try.underlying35⟩) ?_
  refine xq 1 [(23, v24623), (22, .int .i64 (a0.length : Int)), (0, v24623), (1, v24625)] ?_
  refine r_step rfl trivial (o_len rfl (RS.len q24622) ⟨_, Go.Proofs.Try.underlying35⟩) ?_
  refine xq 1 [(25, v24625), (24, .int .i64 (a0.length : Int)), (22, .int .i64 (a0.length : Int)), (0, v24623)] ?_
  obtain ⟨r24913, hx24914, hm⟩ := obind hm
  have hSr24920 : St _ _ _ _ _ _ ([] ++ []) := hS24911
  obtain ⟨v24915, h24916, Z24921, A24923, hcl24917, hSc24918, v24925, c24926, rfl, rfl, q24924⟩ := correctorlaw4_Good_ok F hSr24920.preL q24624 hx24914
  have hS24919 := hSr24920.call hSc24918
  have hZ24922 := hSc24918.zle
  replace hS24919 : St _ _ _ _ _ _ [.gs v24925 c24926 (csz api_Edit)] := hS24919
  refine r_step rfl trivial (o_call hcl24917 rfl rfl rfl) ?_
  obtain ⟨Z24927, hZ24928, q24929, hS24930⟩ := (hS24919.front 0 rfl).freeze q24924
  replace hS24930 : St _ _ _ _ _ _ [] := hS24930
  obtain ⟨r24931, hx24932, hm⟩ := obind hm
  have hSr24938 : St _ _ _ _ _ _ ([] ++ []) := hS24930
  obtain ⟨v24933, h24934, Z24939, A24941, hcl24935, hSc24936, v24943, c24944, rfl, rfl, q24942⟩ := correctorref4_Choose_ok F hSr24938.preL q24929 hx24932
  have hS24937 := hSr24938.call hSc24936
  have hZ24940 := hSc24936.zle
  replace hS24937 : St _ _ _ _ _ _ [.gs v24943 c24944 (csz api_Edit)] := hS24937
  refine r_step rfl trivial (o_call hcl24935 rfl rfl rfl) ?_
  refine xe 1 [(5, v24943), (0, v24623)] ?_
  refine sr r11_6 ?_
  refine xq 2 [(30, v24943), (29, v24623), (5, v24943), (0, v24623)] ?_
  obtain ⟨Z24945, hZ24946, q24947, hS24948⟩ := (hS24937.front 0 rfl).freeze q24942
  replace hS24948 : St _ _ _ _ _ _ [] := hS24948
  obtain ⟨r24949, hx24950, hm⟩ := obind hm
  have hSr24956 : St _ _ _ _ _ _ ([] ++ []) := hS24948
  obtain ⟨v24951, h24952, Z24957, A24959, hcl24953, hSc24954, v24961, c24962, rfl, rfl, q24960⟩ := edit_Apply_ok F hSr24956.preL (q24622.mono (hZ24922.trans (hZ24928.trans (hZ24940.trans hZ24946)))) q24947 hx24950
  have hS24955 := hSr24956.call hSc24954
  have hZ24958 := hSc24954.zle
  replace hS24955 : St _ _ _ _ _ _ [.gs v24961 c24962 (csz UInt8)] := hS24955
  refine r_step rfl trivial (o_call hcl24953 rfl rfl rfl) ?_
  refine xe 5 [(7, .int .i64 r24949.2), (6, v24961), (5, v24943), (0, v24623)] ?_
  refine sr r11_7 ?_
  refine xe 1 [(8, .int .i64 0), (7, .int .i64 r24949.2), (6, v24961), (5, v24943), (0, v24623)] ?_
  refine sq ?_
  refine sr r11_8 ?_
  refine xe 1 [(9, .int .i64 0), (8, .int .i64 0), (7, .int .i64 r24949.2), (6, v24961), (5, v24943), (0, v24623)] ?_
  obtain ⟨o25071, ho25070, hm⟩ := obind hm
  refine W_join [0, 5, 6, 7] (fun l h => ∃ Z25106 : Zn, ∃ x25107 : List api_Edit, ∃ x25110 : List UInt8, ∃ x25114 : Int, ∃ v25109 : Value, ∃ v25112 : Value, ∃ c25113 : List Value, .inl (x25107, x25110, x25114) = o25071 ∧ RS (α := api_Edit) Z25106 v25109 x25107 ∧ RCs (α := UInt8) Z25106 c25113 x25110 ∧ l = [(0, v24623), (5, v25109), (6, v25112), (7, .int .i64 x25114)] ∧ St hs [] Z (0, 0) Z25106 h [.gs v25112 c25113 (csz UInt8)]) ?_ ?_
  rintro l h25115 ⟨Z25106, x25107, x25110, x25114, v25109, v25112, c25113, rfl, q25108, q25111, rfl, hS25116⟩
  try dsimp only at hm
  refine sr r11_15 ?_
  refine xq 1 [(47, .int .i64 x25114), (0, v24623), (5, v25109), (6, v25112)] ?_
  rcases ifs hm with ⟨hp25117, hm⟩ | ⟨hp25117, hm⟩
  refine r_step rfl trivial (o_cmp rfl rfl (c_eql_T hp25117)) ?_
  refine xq 3 [(51, v24623), (50, v25109), (49, .bool true), (0, v24623), (5, v25109), (6, v25112)] ?_
  refine r_step rfl rfl (o_len rfl (RS.len (q24622.mono hS25116.zle)) ⟨_, Go.Proofs.Try.underlying35⟩) ?_
  obtain ⟨r25118, hx25119, hm⟩ := obind hm
  obtain ⟨v25120, h25121, hcl25122, hSc25123, rfl⟩ := edit_Map_ok F hS25116.inv q25108 hx25119
  have hS25124 := St.call (A := []) (B := [.gs v25112 c25113 (csz UInt8)]) hS25116 hSc25123
  replace hS25124 : St _ _ _ _ _ _ [.gs v25112 c25113 (csz UInt8)] := hS25124
  refine r_step rfl rfl (o_call hcl25122 rfl rfl rfl) ?_
  refine xq 1 [(54, v25112), (53, .int .i64 r25118), (49, .bool true), (0, v24623), (5, v25109), (6, v25112)] ?_
  refine r_step rfl rfl (o_len rfl (hS25124.glen (i := 0) rfl q25111) ⟨_, Go.Proofs.Try.underlying35⟩) ?_
  rcases ifs hm with ⟨hp25125, hm⟩ | ⟨hp25125, hm⟩
  refine r_step rfl rfl (o_cmp rfl rfl (c_eql_T hp25125)) ?_
  refine xq 4 [(60, v24623), (59, v25109), (58, .bool true), (6, v25112)] ?_
  refine r_step rfl rfl (o_len rfl (RS.len (q24622.mono hS25116.zle)) ⟨_, Go.Proofs.Try.underlying35⟩) ?_
  refine xq 1 [(62, .int .i64 (w64 ((a0.length : Int) + 7))), (59, v25109), (58, .bool true), (6, v25112)] ?_
  obtain ⟨r25126, hx25127, hm⟩ := obind hm
  obtain ⟨v25128, h25129, hcl25130, hSc25131, rfl⟩ := edit_Map_ok F hS25124.inv q25108 hx25127
  have hS25132 := St.call (A := []) (B := [.gs v25112 c25113 (csz UInt8)]) hS25124 hSc25131
  replace hS25132 : St _ _ _ _ _ _ [.gs v25112 c25113 (csz UInt8)] := hS25132
  refine r_step rfl rfl (o_call hcl25130 rfl rfl rfl) ?_
  refine xq 1 [(64, v25112), (63, .int .i64 r25126), (58, .bool true)] ?_
  refine r_step rfl rfl (o_len rfl (hS25132.glen (i := 0) rfl q25111) ⟨_, Go.Proofs.Try.underlying35⟩) ?_
  refine xq 1 [(66, .int .i64 (w64 ((x25110.length : Int) + 7))), (63, .int .i64 r25126), (58, .bool true)] ?_
  rcases ifs hm with ⟨hp25133, hm⟩ | ⟨hp25133, hm⟩
  refine r_step rfl rfl (o_cmp rfl rfl (c_eql_T hp25133)) ?_
  refine xe 2 [(4, .bool true)] ?_
  refine rt ?_
  refine ⟨rfl, ?_⟩
  obtain rfl := Option.some.inj hm
  refine ⟨_, _, _, ResL.tmp rfl (ResL.nil), hS25132, ?_⟩
  exact rfl
  refine r_step rfl rfl (o_cmp rfl rfl (c_eql_F hp25133)) ?_
  refine xe 2 [(4, .bool false)] ?_
  refine rt ?_
  refine ⟨rfl, ?_⟩
  obtain rfl := Option.some.inj hm
  refine ⟨_, _, _, ResL.tmp rfl (ResL.nil), hS25132, ?_⟩
  exact rfl
  refine r_step rfl rfl (o_cmp rfl rfl (c_eql_F hp25125)) ?_
  refine xe 13 [(4, .bool false)] ?_
  refine rt ?_
  refine ⟨rfl, ?_⟩
  obtain rfl := Option.some.inj hm
  refine ⟨_, _, _, ResL.tmp rfl (ResL.nil), hS25124, ?_⟩
  exact rfl
  refine r_step rfl trivial (o_cmp rfl rfl (c_eql_F hp25117)) ?_
  refine xe 21 [(4, .bool false)] ?_
  refine rt ?_
  refine ⟨rfl, ?_⟩
  obtain rfl := Option.some.inj hm
  refine ⟨_, _, _, ResL.tmp rfl (ResL.nil), hS25116, ?_⟩
  exact rfl
  refine bk 0 ?_
  refine lp [0, 5, 6, 7, 8, 9] (fun n l h => ∃ Z25072 : Zn, ∃ x25073 : List api_Edit, ∃ x25076 : List UInt8, ∃ x25080 : Int, ∃ x25081 : Int, ∃ x25082 : Int, ∃ v25075 : Value, ∃ v25078 : Value, ∃ c25079 : List Value, correctorlaw4_EditMapsOrder_l0 F a0 a1 n x25073 x25076 x25080 x25081 x25082 = some o25071 ∧ RS (α := api_Edit) Z25072 v25075 x25073 ∧ RCs (α := UInt8) Z25072 c25079 x25076 ∧ l = [(0, v24623), (5, v25075), (6, v25078), (7, .int .i64 x25080), (8, .int .i64 x25081), (9, .int .i64 x25082)] ∧ St hs [] Z (0, 0) Z25072 h [.gs v25078 c25079 (csz UInt8)]) F ⟨_, r24931, r24949.1, r24949.2, 0, 0, v24943, v24961, c24962, ho25070, (q24947.mono hZ24958), q24960, rfl, hS24955⟩ ?_
  rintro n25085 l h25083 ⟨Z25072, x25073, x25076, x25080, x25081, x25082, v25075, v25078, c25079, ho25070, q25074, q25077, rfl, hS25084⟩
  rcases n25085 with _ | n25085
  cases (show none = some o25071 from ho25070)
  rw [correctorlaw4_EditMapsOrder_l0] at ho25070
  refine sq ?_
  refine sr r11_9 ?_
  refine xq 2 [(35, v24623), (34, .int .i64 x25082), (0, v24623), (5, v25075), (6, v25078), (7, .int .i64 x25080), (8, .int .i64 x25081), (9, .int .i64 x25082)] ?_
  refine r_step rfl trivial (o_len rfl (RS.len (q24622.mono hS25084.zle)) ⟨_, Go.Proofs.Try.underlying35⟩) ?_
  rcases ifs ho25070 with ⟨hp25088, ho25070⟩ | ⟨hp25088, ho25070⟩
  refine r_step rfl trivial (o_cmp rfl rfl (c_leq_T hp25088)) ?_
  refine xf [(37, .bool true), (0, v24623), (5, v25075), (6, v25078), (7, .int .i64 x25080), (8, .int .i64 x25081), (9, .int .i64 x25082)] ?_
  refine kT 37 rfl ?_
  refine sq ?_
  refine bk 1 ?_
  refine sr r11_11 ?_
  refine xq 2 [(41, .int .i64 x25082), (40, v25075), (0, v24623), (5, v25075), (6, v25078), (7, .int .i64 x25080), (8, .int .i64 x25081), (9, .int .i64 x25082)] ?_
  obtain ⟨r25089, hx25090, ho25070⟩ := obind ho25070
  obtain ⟨v25091, h25092, hcl25093, hSc25094, rfl⟩ := edit_Map_ok F hS25084.inv q25074 hx25090
  have hS25095 := St.call (A := []) (B := [.gs v25078 c25079 (csz UInt8)]) hS25084 hSc25094
  replace hS25095 : St _ _ _ _ _ _ [.gs v25078 c25079 (csz UInt8)] := hS25095
  refine r_step rfl trivial (o_call hcl25093 rfl rfl rfl) ?_
  refine xe 1 [(10, .int .i64 r25089), (0, v24623), (5, v25075), (6, v25078), (7, .int .i64 x25080), (8, .int .i64 x25081), (9, .int .i64 x25082)] ?_
  refine sq ?_
  refine sr r11_12 ?_
  refine xq 2 [(44, .int .i64 x25081), (43, .int .i64 r25089), (10, .int .i64 r25089), (0, v24623), (5, v25075), (6, v25078), (7, .int .i64 x25080), (9, .int .i64 x25082)] ?_
  rcases ifs ho25070 with ⟨hp25097, ho25070⟩ | ⟨hp25097, ho25070⟩
  refine r_step rfl trivial (o_cmp rfl rfl (c_lss_T hp25097)) ?_
  refine xf [(45, .bool true), (10, .int .i64 r25089), (0, v24623), (5, v25075), (6, v25078), (7, .int .i64 x25080), (9, .int .i64 x25082)] ?_
  refine cT 45 rfl ?_
  refine sr r11_13 ?_
  refine xe 1 [(4, .bool false)] ?_
  refine rt ?_
  refine blkX_ret ?_
  refine blkX_ret ?_
  refine ⟨rfl, ?_⟩
  obtain rfl := Option.some.inj ho25070
  obtain rfl := Option.some.inj hm
  refine ⟨_, _, _, ResL.tmp rfl (ResL.nil), hS25095, ?_⟩
  exact rfl
  refine r_step rfl trivial (o_cmp rfl rfl (c_lss_F hp25097)) ?_
  refine xf [(45, .bool false), (10, .int .i64 r25089), (0, v24623), (5, v25075), (6, v25078), (7, .int .i64 x25080), (9, .int .i64 x25082)] ?_
  refine kF 45 rfl ?_
  refine rg r11_14 ?_
  refine xe 2 [(8, .int .i64 r25089), (0, v24623), (5, v25075), (6, v25078), (7, .int .i64 x25080), (9, .int .i64 x25082)] ?_
  refine rg r11_10 ?_
  refine xe 3 [(9, .int .i64 (w64 (x25082 + 1))), (8, .int .i64 r25089), (0, v24623), (5, v25075), (6, v25078), (7, .int .i64 x25080)] ?_
  exact ⟨n25085, Nat.lt_succ_self _, ⟨_, x25073, x25076, x25080, r25089, w64 (x25082 + 1), v25075, v25078, c25079, ho25070, q25074, q25077, rfl, hS25095⟩⟩
  refine r_step rfl trivial (o_cmp rfl rfl (c_leq_F hp25088)) ?_
  refine xf [(37, .bool false), (0, v24623), (5, v25075), (6, v25078), (7, .int .i64 x25080), (8, .int .i64 x25081), (9, .int .i64 x25082)] ?_
  refine cF 37 rfl ?_
  refine xt 0 ?_
  refine blkX_hit ?_
  obtain rfl := Option.some.inj ho25070
  exact ⟨_, x25073, x25076, x25080, v25075, v25078, c25079, rfl, q25074, q25077, rfl, hS25084⟩
  refine r_setb (t := 18) rfl (Bool.eq_false_iff.2 hp24912) ?_
  refine xe 2 [(20, .bool true), (0, v24623), (1, v24625)] ?_
  refine cT 20 rfl ?_
  refine sr r11_4 ?_
  refine xe 1 [(4, .bool true)] ?_
  refine rt ?_
  refine ⟨rfl, ?_⟩
  obtain rfl := Option.some.inj hm
  refine ⟨_, _, _, ResL.tmp rfl (ResL.nil), hS24911, ?_⟩
  exact rfl
  refine r_setb (t := 11) rfl (Bool.eq_false_iff.2 hp24885) ?_
  refine xe 1 [(12, .bool true), (0, v24623), (1, v24625)] ?_
  refine cT 12 rfl ?_
  refine sr r11_2 ?_
  refine xe 1 [(4, .bool false)] ?_
  refine rt ?_
  refine ⟨rfl, ?_⟩
  obtain rfl := Option.some.inj hm
  refine ⟨_, _, _, ResL.tmp rfl (ResL.nil), hS24884, ?_⟩
  exact rfl

end Go.Proofs.Ytdajldmgdpggkaa.M
