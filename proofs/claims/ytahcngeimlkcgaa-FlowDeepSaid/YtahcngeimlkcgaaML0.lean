/- Printed by a program of this session: Go functions as Lean functions over plain data, and that the calls come to them. -/
import Derived.Test.YtahcngeimlkcgaaSyJ
import Derived.Test.YtahcngeimlkcgaaChecked
import Derived.KernelRfl
import Derived.Test.YtahcngeimlkcgaaMF1
namespace Go.Proofs.Ytahcngeimlkcgaa.M
open Go Am Sy
open Sy.Cell (rc)
set_option linter.unusedVariables false
set_option linter.unusedSimpArgs false
set_option maxRecDepth 20000

def r3_0 : List COp := [u 4 (.assign (.const (.bool false)))]
def r3_1 : List COp := [u 14 (cf 8 #[] #[]), u 15 (.unOp .not 4 (t 14))]
def r3_2 : List COp := [u 4 (.assign (.const (.bool false)))]
def r3_3 : List COp := [u 16 (.move (t 0)), u 17 (cf 9 #[(t 16), (ci 20)] #[3, 3]), u 18 (.binOp .add 3 (ci 1) (t 17) 3), u 19 (.move (t 1)), u 20 (cf 9 #[(t 19), (ci 20)] #[3, 3]), u 0 (.assign (t 18)), u 1 (.assign (t 20))]
def r3_4 : List COp := [u 5 (.assign (.const (.string { data := #[] })))]
def r3_5 : List COp := [u 6 (.assign (ci 0))]
def r3_6 : List COp := [u 21 (.move (t 6)), u 22 (.move (t 0)), u 23 (.binOp .lss 3 (t 21) (t 22) 3)]
def r3_7 : List COp := [u 24 (.move (t 6)), u 25 (.binOp .add 3 (t 24) (ci 1) 3), u 6 (.assign (t 25))]
def r3_8 : List COp := [u 26 (.move (t 5)), u 27 (.binOp .add 9 (t 26) (.const (.string { data := #[91] })) 9), u 5 (.assign (t 27))]
def r3_9 : List COp := [u 28 (.move (t 5)), u 29 (.binOp .add 9 (t 28) (.const (.string { data := #[97] })) 9), u 5 (.assign (t 29))]
def r3_10 : List COp := [u 7 (.assign (ci 0))]
def r3_11 : List COp := [u 30 (.move (t 7)), u 31 (.move (t 0)), u 32 (.binOp .lss 3 (t 30) (t 31) 3)]
def r3_12 : List COp := [u 33 (.move (t 7)), u 34 (.binOp .add 3 (t 33) (ci 1) 3), u 7 (.assign (t 34))]
def r3_13 : List COp := [u 35 (.move (t 5)), u 36 (.binOp .add 9 (t 35) (.const (.string { data := #[93] })) 9), u 5 (.assign (t 36))]
def r3_14 : List COp := [u 37 (.move (t 5)), u 38 (.convert 9 24 (t 37)), u 8 (.assign (t 38))]
def r3_15 : List COp := [u 39 (.move (t 8)), u 40 (cf 10 #[(t 39)] #[24]), u 9 (.assign (t 40))]
def r3_16 : List COp := [u 42 (.move (t 8)), u 43 (.move (t 9)), u 44 (.move (t 9)), u 45 (cb .len #[(t 44)] #[25]), u 46 (cf 12 #[(t 45)] #[3]), u 47 (.move (t 9)), u 48 (cb .len #[(t 47)] #[25]), u 49 (.move (t 1)), u 50 (cf 11 #[(t 42), (t 43), (t 46), (ci 0), (ci 0), (t 48), (t 49)] #[24, 25, 29, 3, 3, 3, 3]), u 41 (.move (t 50)), u 51 (.extract (t 41) 0), u 52 (.extract (t 41) 1), u 53 (.extract (t 41) 2), u 54 (.extract (t 41) 3), u 10 (.alloc 29), o (.store 29 (t 10) (t 51)), u 11 (.assign (t 52)), u 12 (.assign (t 53)), u 13 (.assign (t 54))]
def r3_17 : List COp := [u 55 (.move (t 0)), u 56 (.move (t 1)), u 57 (.binOp .leq 3 (t 55) (t 56) 3)]
def r3_18 : List COp := [u 58 (.move (t 11)), u 59 (.binOp .eql 3 (t 58) (ci 1) 3), u 60 (.move (t 59)), gT 60 (some 61) (.move (t 12)), gT 60 (some 62) (.move (t 9)), gT 60 (some 63) (cb .len #[(t 62)] #[25]), gT 60 (some 64) (.binOp .eql 3 (t 61) (t 63) 3), u 65 (.pick (t 60) (t 64) (.const (.bool false))), u 66 (.move (t 65)), gT 66 (some 67) (.move (t 13)), gT 66 (some 68) (cb .len #[(t 67)] #[30]), gT 66 (some 69) (.binOp .eql 3 (t 68) (ci 0) 3), u 70 (.pick (t 66) (t 69) (.const (.bool false))), u 71 (.move (t 70)), gT 71 (some 72) (.fieldAddr 29 (t 10) 0), gT 71 (some 73) (.load 27 (t 72)), gT 71 (some 74) (cb .len #[(t 73)] #[27]), gT 71 (some 75) (.move (t 0)), gT 71 (some 76) (.binOp .add 3 (t 75) (ci 2) 3), gT 71 (some 77) (.binOp .eql 3 (t 74) (t 76) 3), u 78 (.pick (t 71) (t 77) (.const (.bool false))), u 4 (.assign (t 78))]
def r3_19 : List COp := [u 79 (.move (t 11)), u 80 (.binOp .eql 3 (t 79) (ci 1) 3), u 81 (.move (t 80)), gT 81 (some 82) (.move (t 12)), gT 81 (some 83) (.move (t 9)), gT 81 (some 84) (cb .len #[(t 83)] #[25]), gT 81 (some 85) (.binOp .eql 3 (t 82) (t 84) 3), u 86 (.pick (t 81) (t 85) (.const (.bool false))), u 87 (.move (t 86)), gT 87 (some 88) (.move (t 13)), gT 87 (some 89) (cb .len #[(t 88)] #[30]), gT 87 (some 90) (.binOp .eql 3 (t 89) (ci 1) 3), u 91 (.pick (t 87) (t 90) (.const (.bool false))), u 92 (.move (t 91)), gT 92 (some 93) (.move (t 13)), gT 92 (some 94) (.indexAddr 30 (t 93) (ci 0)), gT 92 (some 95) (.load 35 (t 94)), gT 92 (some 96) (.move (t 1)), gT 92 (some 97) (.move (t 0)), gT 92 (some 98) (.binOp .mul 3 (ci 2) (t 97) 3), gT 92 (some 99) (.binOp .add 3 (t 98) (ci 1) 3), gT 92 (some 100) (.move (t 1)), gT 92 (some 101) (.binOp .sub 3 (t 99) (t 100) 3), gT 92 (some 102) (.build 35 #[(0, (ci 10)), (1, (t 96)), (2, (t 101))]), gT 92 (some 103) (.binOp .eql 35 (t 95) (t 102) 35), u 104 (.pick (t 92) (t 103) (.const (.bool false))), u 105 (.move (t 104)), gT 105 (some 106) (.fieldAddr 29 (t 10) 0), gT 105 (some 107) (.load 27 (t 106)), gT 105 (some 108) (cb .len #[(t 107)] #[27]), gT 105 (some 109) (.move (t 1)), gT 105 (some 110) (.binOp .add 3 (t 109) (ci 2) 3), gT 105 (some 111) (.binOp .eql 3 (t 108) (t 110) 3), u 112 (.pick (t 105) (t 111) (.const (.bool false))), u 4 (.assign (t 112))]
def correctorlaw11_FlowDeep_l0 (F : Nat) (a0 : Int) (a1 : Int) : Nat → Int → Int → Str → Int → Option (Int × Int × Str)
  | 0, _, _, _, _ => none
  | n + 1, x24456, x24457, x24458, x24459 =>
    if x24459 < x24456 then
      if x24458.b.length + ([91] : List UInt8).length ≤ 4611686018427387904 then
        correctorlaw11_FlowDeep_l0 F a0 a1 n x24456 x24457 (⟨x24458.b ++ [91]⟩ : Str) (w64 (x24459 + 1))
      else none
    else
      some (x24456, x24457, x24458)
def correctorlaw11_FlowDeep_l1 (F : Nat) (a0 : Int) (a1 : Int) : Nat → Int → Int → Str → Int → Option (Int × Int × Str)
  | 0, _, _, _, _ => none
  | n + 1, x24528, x24529, x24530, x24531 =>
    if x24531 < x24528 then
      if x24530.b.length + ([93] : List UInt8).length ≤ 4611686018427387904 then
        correctorlaw11_FlowDeep_l1 F a0 a1 n x24528 x24529 (⟨x24530.b ++ [93]⟩ : Str) (w64 (x24531 + 1))
      else none
    else
      some (x24528, x24529, x24530)
def correctorlaw11_FlowDeep (F : Nat) (a0 : Int) (a1 : Int) : Option Bool :=
  (correctorlaw11_known F).bind fun r24387 =>
  if r24387 = true then
    (correctorlaw11_within F a0 20).bind fun r24395 =>
    (correctorlaw11_within F a1 20).bind fun r24402 =>
    ((correctorlaw11_FlowDeep_l0 F a0 a1 F (w64 (1 + r24395)) r24402 (⟨[]⟩ : Str) 0) : Option (Int × Int × Str)).bind fun o => match o with
      | (x24471, x24472, x24473) => if x24473.b.length + ([97] : List UInt8).length ≤ 4611686018427387904 then
        ((correctorlaw11_FlowDeep_l1 F a0 a1 F x24471 x24472 (⟨x24473.b ++ [97]⟩ : Str) 0) : Option (Int × Int × Str)).bind fun o => match o with
          | (x24543, x24544, x24545) => (correctorref6_Tokens F x24545.b).bind fun r24556 =>
          (arena_New F (r24556.length : Int)).bind fun r24570 =>
          (flow_Value F x24545.b r24556 r24570 0 0 (r24556.length : Int) x24544).bind fun r24592 =>
          if x24543 ≤ x24544 then
            if r24592.2.1 = (1 : Int) then
              if r24592.2.2.1 = (r24556.length : Int) then
                if (r24592.2.2.2.length : Int) = (0 : Int) then
                  if (r24592.1.Nodes.length : Int) = (w64 (x24543 + 2)) then
                    some true
                  else
                    some false
                else
                  some false
              else
                some false
            else
              some false
          else
            if r24592.2.1 = (1 : Int) then
              if r24592.2.2.1 = (r24556.length : Int) then
                if (r24592.2.2.2.length : Int) = (1 : Int) then
                  if 0 ≤ (0 : Int) ∧ (0 : Int) < (r24592.2.2.2.length : Int) then
                    (r24592.2.2.2[(0 : Int).toNat]?).bind fun x24638 =>
                    if x24638 = (⟨10, x24544, w64 ((w64 ((w64 (2 * x24543)) + 1)) - x24544)⟩ : api_Diag) then
                      if (r24592.1.Nodes.length : Int) = (w64 (x24544 + 2)) then
                        some true
                      else
                        some false
                    else
                      some false
                  else none
                else
                  some false
              else
                some false
            else
              some false
      else none
  else
    some false
theorem correctorlaw11_FlowDeep_ok (F : Nat) {h : AH} {Z : Zn} {a0 : Int} {a1 : Int} (hI : Inv Z h) {r : Bool} (hm : correctorlaw11_FlowDeep F a0 a1 = some r) :
    ∃ v h', callI Go.Proofs.Try.prog 3 [V a0, V a1] h = some (v, h') ∧ St h [] Z (0, 0) Z h' [] ∧ v = .bool r := by
  refine fn_plain (Q := fun v => v = .bool r) Go.Proofs.Try.func3 rfl rfl hI ?_
  intro hs hS
  unfold correctorlaw11_FlowDeep at hm
  refine sr r3_0 ?_
  refine xe 1 [(0, V a0), (1, V a1)] ?_
  refine sq ?_
  refine sr r3_1 ?_
  obtain ⟨r24387, hx24388, hm⟩ := obind hm
  obtain ⟨v24389, h24390, hcl24391, hSc24392, rfl⟩ := correctorlaw11_known_ok F hS.inv  hx24388
  have hS24393 := St.call (A := []) (B := []) hS hSc24392
  replace hS24393 : St _ _ _ _ _ _ [] := hS24393
  refine r_step rfl trivial (o_call hcl24391 rfl rfl rfl) ?_
  rcases ifs hm with ⟨hp24394, hm⟩ | ⟨hp24394, hm⟩
  refine r_setb (t := 14) rfl hp24394 ?_
  refine xe 1 [(15, .bool false), (0, V a0), (1, V a1)] ?_
  refine kF 15 rfl ?_
  refine sr r3_3 ?_
  refine xq 1 [(16, V a0), (0, V a0), (1, V a1)] ?_
  obtain ⟨r24395, hx24396, hm⟩ := obind hm
  obtain ⟨v24397, h24398, hcl24399, hSc24400, rfl⟩ := correctorlaw11_within_ok F hS24393.inv  hx24396
  have hS24401 := St.call (A := []) (B := []) hS24393 hSc24400
  replace hS24401 : St _ _ _ _ _ _ [] := hS24401
  refine r_step rfl trivial (o_call hcl24399 rfl rfl rfl) ?_
  refine xq 2 [(19, V a1), (18, V (w64 (1 + r24395))), (0, V a0), (1, V a1)] ?_
  obtain ⟨r24402, hx24403, hm⟩ := obind hm
  obtain ⟨v24404, h24405, hcl24406, hSc24407, rfl⟩ := correctorlaw11_within_ok F hS24401.inv  hx24403
  have hS24408 := St.call (A := []) (B := []) hS24401 hSc24407
  replace hS24408 : St _ _ _ _ _ _ [] := hS24408
  refine r_step rfl trivial (o_call hcl24406 rfl rfl rfl) ?_
  refine xe 2 [(1, V r24402), (0, V (w64 (1 + r24395)))] ?_
  refine sr r3_4 ?_
  refine xe 1 [(5, .string ⟨⟨[]⟩⟩), (1, V r24402), (0, V (w64 (1 + r24395)))] ?_
  refine sq ?_
  refine sr r3_5 ?_
  refine xe 1 [(6, V 0), (5, .string ⟨⟨[]⟩⟩), (1, V r24402), (0, V (w64 (1 + r24395)))] ?_
  obtain ⟨o24454, ho24453, hm⟩ := obind hm
  refine W_join [0, 1, 5] (fun l h => ∃ Z24470 : Zn, ∃ x24471 : Int, ∃ x24472 : Int, ∃ x24473 : Str, (x24471, x24472, x24473) = o24454 ∧ l = [(0, V x24471), (1, V x24472), (5, .string ⟨⟨x24473.b⟩⟩)] ∧ St hs [] Z (0, 0) Z24470 h []) ?_ ?_
  rintro l h24474 ⟨Z24470, x24471, x24472, x24473, rfl, rfl, hS24475⟩
  try dsimp only at hm
  refine sr r3_9 ?_
  refine xq 1 [(28, .string ⟨⟨x24473.b⟩⟩), (0, V x24471), (1, V x24472), (5, .string ⟨⟨x24473.b⟩⟩)] ?_
  obtain ⟨hc24476, hm⟩ := chk hm
  refine r_step rfl trivial (o_sadd rfl rfl (by simpa using hc24476)) ?_
  refine xe 1 [(5, .string ⟨⟨x24473.b ++ [97]⟩⟩), (0, V x24471), (1, V x24472)] ?_
  refine sq ?_
  refine sr r3_10 ?_
  refine xe 1 [(7, V 0), (5, .string ⟨⟨x24473.b ++ [97]⟩⟩), (0, V x24471), (1, V x24472)] ?_
  obtain ⟨o24526, ho24525, hm⟩ := obind hm
  refine W_join [0, 1, 5] (fun l h => ∃ Z24542 : Zn, ∃ x24543 : Int, ∃ x24544 : Int, ∃ x24545 : Str, (x24543, x24544, x24545) = o24526 ∧ l = [(0, V x24543), (1, V x24544), (5, .string ⟨⟨x24545.b⟩⟩)] ∧ St hs [] Z (0, 0) Z24542 h []) ?_ ?_
  rintro l h24546 ⟨Z24542, x24543, x24544, x24545, rfl, rfl, hS24547⟩
  try dsimp only at hm
  refine sr r3_14 ?_
  refine xq 1 [(37, .string ⟨⟨x24545.b⟩⟩), (0, V x24543), (1, V x24544)] ?_
  obtain ⟨v24548, h24549, Z24551, ho24554, hZ24552, q24553, hS24550, lw24555⟩ := o_tobytes (P := Go.Proofs.Try.prog) (l := [(37, .string ⟨⟨x24545.b⟩⟩), (0, V x24543), (1, V x24544)]) (s := 9) (d := 24) (x := .tmp 37) (bs := x24545.b) hS24547 rfl (by kernel_rfl)
  refine r_step rfl trivial ho24554 ?_
  refine xe 1 [(8, v24548), (0, V x24543), (1, V x24544)] ?_
  refine sr r3_15 ?_
  refine xq 1 [(39, v24548), (8, v24548), (0, V x24543), (1, V x24544)] ?_
  obtain ⟨r24556, hx24557, hm⟩ := obind hm
  have hSr24563 : St _ _ _ _ _ _ ([] ++ []) := hS24550
  obtain ⟨v24558, h24559, Z24564, A24566, hcl24560, hSc24561, v24568, c24569, rfl, rfl, q24567⟩ := correctorref6_Tokens_ok F hSr24563.preL q24553 hx24557
  have hS24562 := hSr24563.call hSc24561
  have hZ24565 := hSc24561.zle
  replace hS24562 : St _ _ _ _ _ _ [.gs v24568 c24569 (csz api_Token)] := hS24562
  refine r_step rfl trivial (o_call hcl24560 rfl rfl rfl) ?_
  refine xe 1 [(9, v24568), (8, v24548), (0, V x24543), (1, V x24544)] ?_
  refine sr r3_16 ?_
  refine xq 3 [(44, v24568), (43, v24568), (42, v24548), (9, v24568), (0, V x24543), (1, V x24544)] ?_
  refine r_step rfl trivial (o_len rfl (hS24562.glen (i := 0) rfl q24567) ⟨_, Go.Proofs.Try.underlying25⟩) ?_
  obtain ⟨r24570, hx24571, hm⟩ := obind hm
  have hSr24577 : St _ _ _ _ _ _ ([] ++ [.gs v24568 c24569 (csz api_Token)]) := hS24562
  obtain ⟨v24572, h24573, Z24578, A24580, hcl24574, hSc24575, v24582, c24583, rfl, rfl, q24581⟩ := arena_New_ok F hSr24577.preL  hx24571
  have hS24576 := hSr24577.call hSc24575
  have hZ24579 := hSc24575.zle
  replace hS24576 : St _ _ _ _ _ _ [.gs v24582 c24583 (csz api_Node), .gs v24568 c24569 (csz api_Token)] := hS24576
  refine r_step rfl trivial (o_call hcl24574 rfl rfl rfl) ?_
  refine xq 1 [(47, v24568), (46, .agg #[v24582]), (43, v24568), (42, v24548), (9, v24568), (0, V x24543), (1, V x24544)] ?_
  refine r_step rfl trivial (o_len rfl (hS24576.glen (i := 1) rfl (q24567.mono hZ24579)) ⟨_, Go.Proofs.Try.underlying25⟩) ?_
  refine xq 1 [(49, V x24544), (48, V (r24556.length : Int)), (46, .agg #[v24582]), (43, v24568), (42, v24548), (9, v24568), (0, V x24543), (1, V x24544)] ?_
  obtain ⟨Z24584, hZ24585, q24586, hS24587⟩ := (hS24576.front 1 rfl).freeze (q24567.mono hZ24579)
  replace hS24587 : St _ _ _ _ _ _ [.gs v24582 c24583 (csz api_Node)] := hS24587
  obtain ⟨Z24588, hZ24589, q24590, hS24591⟩ := (hS24587.front 0 rfl).freeze (q24581.mono hZ24585)
  replace hS24591 : St _ _ _ _ _ _ [] := hS24591
  obtain ⟨r24592, hx24593, hm⟩ := obind hm
  have hSr24599 : St _ _ _ _ _ _ ([] ++ []) := hS24591
  obtain ⟨v24594, h24595, Z24600, A24602, hcl24596, hSc24597, v24604, v24606, c24607, rfl, rfl, q24603, q24605⟩ := flow_Value_ok F hSr24599.preL (q24553.mono (hZ24565.trans (hZ24579.trans (hZ24585.trans hZ24589)))) (q24586.mono hZ24589) q24590 hx24593
  have hS24598 := hSr24599.call hSc24597
  have hZ24601 := hSc24597.zle
  replace hS24598 : St _ _ _ _ _ _ [.gs v24606 c24607 (csz api_Diag)] := hS24598
  refine r_step rfl trivial (o_call hcl24596 rfl rfl rfl) ?_
  refine xq 5 [(54, v24606), (53, V r24592.2.2.1), (52, V r24592.2.1), (51, .agg #[v24604]), (9, v24568), (0, V x24543), (1, V x24544)] ?_
  refine r_blk rfl trivial (o_alloc (cs := [.slice none 0 0]) (by kernel_rfl)) hS24598 ?_
  intro b24608 h24609 hS24610
  refine r_ex1 rfl trivial (o_stb (vs := [v24604]) (cells' := [v24604]) (L' := [.blk b24608 [v24604], .gs v24606 c24607 (csz api_Diag)]) hS24610 (i := 0) rfl rfl rfl rfl (by kernel_rfl) (one_cons (RS.one1 q24603) one_nil) rfl rfl rfl) ?_
  intro h24611 hS24612
  refine xe 3 [(13, v24606), (12, V r24592.2.2.1), (11, V r24592.2.1), (10, Pt b24608 0), (9, v24568), (0, V x24543), (1, V x24544)] ?_
  refine sq ?_
  refine sr r3_17 ?_
  refine xq 2 [(56, V x24544), (55, V x24543), (13, v24606), (12, V r24592.2.2.1), (11, V r24592.2.1), (10, Pt b24608 0), (9, v24568), (0, V x24543), (1, V x24544)] ?_
  rcases ifs hm with ⟨hp24625, hm⟩ | ⟨hp24625, hm⟩
  refine r_step rfl trivial (o_cmp rfl rfl (c_leq_T hp24625)) ?_
  refine xf [(57, .bool true), (13, v24606), (12, V r24592.2.2.1), (11, V r24592.2.1), (10, Pt b24608 0), (9, v24568), (0, V x24543), (1, V x24544)] ?_
  refine cT 57 rfl ?_
  refine sr r3_18 ?_
  refine xq 1 [(58, V r24592.2.1), (13, v24606), (12, V r24592.2.2.1), (10, Pt b24608 0), (9, v24568), (0, V x24543)] ?_
  rcases ifs hm with ⟨hp24630, hm⟩ | ⟨hp24630, hm⟩
  refine r_step rfl trivial (o_cmp rfl rfl (c_eql_T hp24630)) ?_
  refine xq 3 [(62, v24568), (61, V r24592.2.2.1), (60, .bool true), (13, v24606), (10, Pt b24608 0), (0, V x24543)] ?_
  refine r_step rfl rfl (o_len rfl (RS.len (q24586.mono (hZ24589.trans hZ24601))) ⟨_, Go.Proofs.Try.underlying25⟩) ?_
  rcases ifs hm with ⟨hp24631, hm⟩ | ⟨hp24631, hm⟩
  refine r_step rfl rfl (o_cmp rfl rfl (c_eql_T hp24631)) ?_
  refine xq 3 [(67, v24606), (66, .bool true), (10, Pt b24608 0), (0, V x24543)] ?_
  refine r_step rfl rfl (o_len rfl (hS24612.glen (i := 1) rfl q24605) ⟨_, Go.Proofs.Try.underlying30⟩) ?_
  rcases ifs hm with ⟨hp24632, hm⟩ | ⟨hp24632, hm⟩
  refine r_step rfl rfl (o_cmp rfl rfl (c_eql_T hp24632)) ?_
  refine xq 3 [(72, Pt b24608 0), (71, .bool true), (0, V x24543)] ?_
  refine r_step rfl rfl (o_ldb (v := v24604) hS24612 (i := 0) rfl rfl (by kernel_rfl)) ?_
  refine r_step rfl rfl (o_len rfl (RS.len q24603) ⟨_, Go.Proofs.Try.underlying27⟩) ?_
  refine xq 2 [(76, V (w64 (x24543 + 2))), (74, V (r24592.1.Nodes.length : Int)), (71, .bool true)] ?_
  rcases ifs hm with ⟨hp24633, hm⟩ | ⟨hp24633, hm⟩
  refine r_step rfl rfl (o_cmp rfl rfl (c_eql_T hp24633)) ?_
  refine xe 2 [(4, .bool true)] ?_
  refine rt ?_
  refine ⟨rfl, ?_⟩
  obtain rfl := Option.some.inj hm
  refine ⟨_, _, _, ResL.tmp rfl (ResL.nil), hS24612, ?_⟩
  exact rfl
  refine r_step rfl rfl (o_cmp rfl rfl (c_eql_F hp24633)) ?_
  refine xe 2 [(4, .bool false)] ?_
  refine rt ?_
  refine ⟨rfl, ?_⟩
  obtain rfl := Option.some.inj hm
  refine ⟨_, _, _, ResL.tmp rfl (ResL.nil), hS24612, ?_⟩
  exact rfl
  refine r_step rfl rfl (o_cmp rfl rfl (c_eql_F hp24632)) ?_
  refine xe 10 [(4, .bool false)] ?_
  refine rt ?_
  refine ⟨rfl, ?_⟩
  obtain rfl := Option.some.inj hm
  refine ⟨_, _, _, ResL.tmp rfl (ResL.nil), hS24612, ?_⟩
  exact rfl
  refine r_step rfl rfl (o_cmp rfl rfl (c_eql_F hp24631)) ?_
  refine xe 15 [(4, .bool false)] ?_
  refine rt ?_
  refine ⟨rfl, ?_⟩
  obtain rfl := Option.some.inj hm
  refine ⟨_, _, _, ResL.tmp rfl (ResL.nil), hS24612, ?_⟩
  exact rfl
  refine r_step rfl trivial (o_cmp rfl rfl (c_eql_F hp24630)) ?_
  refine xe 20 [(4, .bool false)] ?_
  refine rt ?_
  refine ⟨rfl, ?_⟩
  obtain rfl := Option.some.inj hm
  refine ⟨_, _, _, ResL.tmp rfl (ResL.nil), hS24612, ?_⟩
  exact rfl
  refine r_step rfl trivial (o_cmp rfl rfl (c_leq_F hp24625)) ?_
  refine xf [(57, .bool false), (13, v24606), (12, V r24592.2.2.1), (11, V r24592.2.1), (10, Pt b24608 0), (9, v24568), (0, V x24543), (1, V x24544)] ?_
  refine kF 57 rfl ?_
  refine sr r3_19 ?_
  refine xq 1 [(79, V r24592.2.1), (13, v24606), (12, V r24592.2.2.1), (10, Pt b24608 0), (9, v24568), (0, V x24543), (1, V x24544)] ?_
  rcases ifs hm with ⟨hp24634, hm⟩ | ⟨hp24634, hm⟩
  refine r_step rfl trivial (o_cmp rfl rfl (c_eql_T hp24634)) ?_
  refine xq 3 [(83, v24568), (82, V r24592.2.2.1), (81, .bool true), (13, v24606), (10, Pt b24608 0), (0, V x24543), (1, V x24544)] ?_
  refine r_step rfl rfl (o_len rfl (RS.len (q24586.mono (hZ24589.trans hZ24601))) ⟨_, Go.Proofs.Try.underlying25⟩) ?_
  rcases ifs hm with ⟨hp24635, hm⟩ | ⟨hp24635, hm⟩
  refine r_step rfl rfl (o_cmp rfl rfl (c_eql_T hp24635)) ?_
  refine xq 3 [(88, v24606), (87, .bool true), (13, v24606), (10, Pt b24608 0), (0, V x24543), (1, V x24544)] ?_
  refine r_step rfl rfl (o_len rfl (hS24612.glen (i := 1) rfl q24605) ⟨_, Go.Proofs.Try.underlying30⟩) ?_
  rcases ifs hm with ⟨hp24636, hm⟩ | ⟨hp24636, hm⟩
  refine r_step rfl rfl (o_cmp rfl rfl (c_eql_T hp24636)) ?_
  refine xq 3 [(93, v24606), (92, .bool true), (10, Pt b24608 0), (0, V x24543), (1, V x24544)] ?_
  obtain ⟨hc24637, hm⟩ := chk hm
  refine r_step rfl rfl (o_index rfl rfl (by kernel_rfl : slTy _ _ = some (csz api_Diag)) (hS24612.gbased (j := 1) rfl q24605 (by omega)) hc24637.1 hc24637.2) ?_
  obtain ⟨x24638, hx24639, hm⟩ := obind hm
  obtain ⟨cs24640, hc24641, he24642, ht24643⟩ := hS24612.gel (j := 1) rfl q24605 (i := 0) hx24639
  obtain rfl := rc_api_Diag hc24641
  refine r_step rfl rfl (o_lde (w := .agg #[V x24638.Code, V x24638.From, V x24638.To]) he24642 rfl (by kernel_rfl)) ?_
  refine xq 7 [(102, .agg #[V 10, V x24544, V (w64 ((w64 ((w64 (2 * x24543)) + 1)) - x24544))]), (95, .agg #[V x24638.Code, V x24638.From, V x24638.To]), (92, .bool true), (10, Pt b24608 0), (1, V x24544)] ?_
  rcases ifs hm with ⟨hp24644, hm⟩ | ⟨hp24644, hm⟩
  refine r_step rfl rfl (o_cmp rfl rfl (eqT_api_Diag_35 (x := x24638) (y := (⟨10, x24544, w64 ((w64 ((w64 (2 * x24543)) + 1)) - x24544)⟩ : api_Diag)) hp24644)) ?_
  refine xq 3 [(106, Pt b24608 0), (105, .bool true), (1, V x24544)] ?_
  refine r_step rfl rfl (o_ldb (v := v24604) hS24612 (i := 0) rfl rfl (by kernel_rfl)) ?_
  refine r_step rfl rfl (o_len rfl (RS.len q24603) ⟨_, Go.Proofs.Try.underlying27⟩) ?_
  refine xq 2 [(110, V (w64 (x24544 + 2))), (108, V (r24592.1.Nodes.length : Int)), (105, .bool true)] ?_
  rcases ifs hm with ⟨hp24645, hm⟩ | ⟨hp24645, hm⟩
  refine r_step rfl rfl (o_cmp rfl rfl (c_eql_T hp24645)) ?_
  refine xe 2 [(4, .bool true)] ?_
  refine rt ?_
  refine ⟨rfl, ?_⟩
  obtain rfl := Option.some.inj hm
  refine ⟨_, _, _, ResL.tmp rfl (ResL.nil), hS24612, ?_⟩
  exact rfl
  refine r_step rfl rfl (o_cmp rfl rfl (c_eql_F hp24645)) ?_
  refine xe 2 [(4, .bool false)] ?_
  refine rt ?_
  refine ⟨rfl, ?_⟩
  obtain rfl := Option.some.inj hm
  refine ⟨_, _, _, ResL.tmp rfl (ResL.nil), hS24612, ?_⟩
  exact rfl
  refine r_step rfl rfl (o_cmp rfl rfl (eqF_api_Diag_35 (x := x24638) (y := (⟨10, x24544, w64 ((w64 ((w64 (2 * x24543)) + 1)) - x24544)⟩ : api_Diag)) hp24644)) ?_
  refine xe 10 [(4, .bool false)] ?_
  refine rt ?_
  refine ⟨rfl, ?_⟩
  obtain rfl := Option.some.inj hm
  refine ⟨_, _, _, ResL.tmp rfl (ResL.nil), hS24612, ?_⟩
  exact rfl
  refine r_step rfl rfl (o_cmp rfl rfl (c_eql_F hp24636)) ?_
  refine xe 23 [(4, .bool false)] ?_
  refine rt ?_
  refine ⟨rfl, ?_⟩
  obtain rfl := Option.some.inj hm
  refine ⟨_, _, _, ResL.tmp rfl (ResL.nil), hS24612, ?_⟩
  exact rfl
  refine r_step rfl rfl (o_cmp rfl rfl (c_eql_F hp24635)) ?_
  refine xe 28 [(4, .bool false)] ?_
  refine rt ?_
  refine ⟨rfl, ?_⟩
  obtain rfl := Option.some.inj hm
  refine ⟨_, _, _, ResL.tmp rfl (ResL.nil), hS24612, ?_⟩
  exact rfl
  refine r_step rfl trivial (o_cmp rfl rfl (c_eql_F hp24634)) ?_
  refine xe 33 [(4, .bool false)] ?_
  refine rt ?_
  refine ⟨rfl, ?_⟩
  obtain rfl := Option.some.inj hm
  refine ⟨_, _, _, ResL.tmp rfl (ResL.nil), hS24612, ?_⟩
  exact rfl
  refine bk 2 ?_
  refine lp [0, 1, 5, 7] (fun n l h => ∃ Z24527 : Zn, ∃ x24528 : Int, ∃ x24529 : Int, ∃ x24530 : Str, ∃ x24531 : Int, correctorlaw11_FlowDeep_l1 F a0 a1 n x24528 x24529 x24530 x24531 = some o24526 ∧ l = [(0, V x24528), (1, V x24529), (5, .string ⟨⟨x24530.b⟩⟩), (7, V x24531)] ∧ St hs [] Z (0, 0) Z24527 h []) F ⟨_, x24471, x24472, (⟨x24473.b ++ [97]⟩ : Str), 0, ho24525, rfl, hS24475⟩ ?_
  rintro n24534 l h24532 ⟨Z24527, x24528, x24529, x24530, x24531, ho24525, rfl, hS24533⟩
  rcases n24534 with _ | n24534
  cases (show none = some o24526 from ho24525)
  rw [correctorlaw11_FlowDeep_l1] at ho24525
  refine sq ?_
  refine sr r3_11 ?_
  refine xq 2 [(31, V x24528), (30, V x24531), (0, V x24528), (1, V x24529), (5, .string ⟨⟨x24530.b⟩⟩), (7, V x24531)] ?_
  rcases ifs ho24525 with ⟨hp24537, ho24525⟩ | ⟨hp24537, ho24525⟩
  refine r_step rfl trivial (o_cmp rfl rfl (c_lss_T hp24537)) ?_
  refine xf [(32, .bool true), (0, V x24528), (1, V x24529), (5, .string ⟨⟨x24530.b⟩⟩), (7, V x24531)] ?_
  refine kT 32 rfl ?_
  refine sq ?_
  refine bk 3 ?_
  refine rg r3_13 ?_
  refine xq 1 [(35, .string ⟨⟨x24530.b⟩⟩), (0, V x24528), (1, V x24529), (5, .string ⟨⟨x24530.b⟩⟩), (7, V x24531)] ?_
  obtain ⟨hc24538, ho24525⟩ := chk ho24525
  refine r_step rfl trivial (o_sadd rfl rfl (by simpa using hc24538)) ?_
  refine xe 1 [(5, .string ⟨⟨x24530.b ++ [93]⟩⟩), (0, V x24528), (1, V x24529), (7, V x24531)] ?_
  refine rg r3_12 ?_
  refine xe 3 [(7, V (w64 (x24531 + 1))), (5, .string ⟨⟨x24530.b ++ [93]⟩⟩), (0, V x24528), (1, V x24529)] ?_
  exact ⟨n24534, Nat.lt_succ_self _, ⟨_, x24528, x24529, (⟨x24530.b ++ [93]⟩ : Str), w64 (x24531 + 1), ho24525, rfl, hS24533⟩⟩
  refine r_step rfl trivial (o_cmp rfl rfl (c_lss_F hp24537)) ?_
  refine xf [(32, .bool false), (0, V x24528), (1, V x24529), (5, .string ⟨⟨x24530.b⟩⟩), (7, V x24531)] ?_
  refine cF 32 rfl ?_
  refine xt 2 ?_
  refine blkX_hit ?_
  obtain rfl := Option.some.inj ho24525
  exact ⟨_, x24528, x24529, x24530, rfl, rfl, hS24533⟩
  refine bk 0 ?_
  refine lp [0, 1, 5, 6] (fun n l h => ∃ Z24455 : Zn, ∃ x24456 : Int, ∃ x24457 : Int, ∃ x24458 : Str, ∃ x24459 : Int, correctorlaw11_FlowDeep_l0 F a0 a1 n x24456 x24457 x24458 x24459 = some o24454 ∧ l = [(0, V x24456), (1, V x24457), (5, .string ⟨⟨x24458.b⟩⟩), (6, V x24459)] ∧ St hs [] Z (0, 0) Z24455 h []) F ⟨_, w64 (1 + r24395), r24402, (⟨[]⟩ : Str), 0, ho24453, rfl, hS24408⟩ ?_
  rintro n24462 l h24460 ⟨Z24455, x24456, x24457, x24458, x24459, ho24453, rfl, hS24461⟩
  rcases n24462 with _ | n24462
  cases (show none = some o24454 from ho24453)
  rw [correctorlaw11_FlowDeep_l0] at ho24453
  refine sq ?_
  refine sr r3_6 ?_
  refine xq 2 [(22, V x24456), (21, V x24459), (0, V x24456), (1, V x24457), (5, .string ⟨⟨x24458.b⟩⟩), (6, V x24459)] ?_
  rcases ifs ho24453 with ⟨hp24465, ho24453⟩ | ⟨hp24465, ho24453⟩
  refine r_step rfl trivial (o_cmp rfl rfl (c_lss_T hp24465)) ?_
  refine xf [(23, .bool true), (0, V x24456), (1, V x24457), (5, .string ⟨⟨x24458.b⟩⟩), (6, V x24459)] ?_
  refine kT 23 rfl ?_
  refine sq ?_
  refine bk 1 ?_
  refine rg r3_8 ?_
  refine xq 1 [(26, .string ⟨⟨x24458.b⟩⟩), (0, V x24456), (1, V x24457), (5, .string ⟨⟨x24458.b⟩⟩), (6, V x24459)] ?_
  obtain ⟨hc24466, ho24453⟩ := chk ho24453
  refine r_step rfl trivial (o_sadd rfl rfl (by simpa using hc24466)) ?_
  refine xe 1 [(5, .string ⟨⟨x24458.b ++ [91]⟩⟩), (0, V x24456), (1, V x24457), (6, V x24459)] ?_
  refine rg r3_7 ?_
  refine xe 3 [(6, V (w64 (x24459 + 1))), (5, .string ⟨⟨x24458.b ++ [91]⟩⟩), (0, V x24456), (1, V x24457)] ?_
  exact ⟨n24462, Nat.lt_succ_self _, ⟨_, x24456, x24457, (⟨x24458.b ++ [91]⟩ : Str), w64 (x24459 + 1), ho24453, rfl, hS24461⟩⟩
  refine r_step rfl trivial (o_cmp rfl rfl (c_lss_F hp24465)) ?_
  refine xf [(23, .bool false), (0, V x24456), (1, V x24457), (5, .string ⟨⟨x24458.b⟩⟩), (6, V x24459)] ?_
  refine cF 23 rfl ?_
  refine xt 0 ?_
  refine blkX_hit ?_
  obtain rfl := Option.some.inj ho24453
  exact ⟨_, x24456, x24457, x24458, rfl, rfl, hS24461⟩
  refine r_setb (t := 14) rfl (Bool.eq_false_iff.2 hp24394) ?_
  refine xe 1 [(15, .bool true), (0, V a0), (1, V a1)] ?_
  refine cT 15 rfl ?_
  refine sr r3_2 ?_
  refine xe 1 [(4, .bool false)] ?_
  refine rt ?_
  refine ⟨rfl, ?_⟩
  obtain rfl := Option.some.inj hm
  refine ⟨_, _, _, ResL.tmp rfl (ResL.nil), hS24393, ?_⟩
  exact rfl

def r5_0 : List COp := [u 4 (.assign (.const (.bool false)))]
def r5_1 : List COp := [u 15 (cf 8 #[] #[]), u 16 (.unOp .not 4 (t 15))]
def r5_2 : List COp := [u 4 (.assign (.const (.bool false)))]
def r5_3 : List COp := [u 17 (.move (t 0)), u 18 (cf 9 #[(t 17), (ci 8)] #[3, 3]), u 19 (.binOp .add 3 (ci 1) (t 18) 3), u 0 (.assign (t 19))]
def r5_4 : List COp := [u 5 (.assign (.const (.string { data := #[] })))]
def r5_5 : List COp := [u 6 (.assign (ci 0))]
def r5_6 : List COp := [u 20 (.move (t 6)), u 21 (.move (t 0)), u 22 (.binOp .lss 3 (t 20) (t 21) 3)]
def r5_7 : List COp := [u 23 (.move (t 6)), u 24 (.binOp .add 3 (t 23) (ci 1) 3), u 6 (.assign (t 24))]
def r5_8 : List COp := [u 25 (.move (t 5)), u 26 (.binOp .add 9 (t 25) (.const (.string { data := #[91, 97, 44, 32] })) 9), u 5 (.assign (t 26))]
def r5_9 : List COp := [u 27 (.move (t 1))]
def r5_10 : List COp := [u 28 (.move (t 5)), u 29 (.binOp .add 9 (t 28) (.const (.string { data := #[10, 45, 45, 45, 10, 93, 93, 93] })) 9), u 5 (.assign (t 29))]
def r5_11 : List COp := [u 31 (.move (t 5)), u 32 (cf 13 #[(t 31)] #[9]), u 30 (.move (t 32)), u 33 (.extract (t 30) 0), u 34 (.extract (t 30) 1), u 35 (.extract (t 30) 2), u 36 (.extract (t 30) 3), u 37 (.extract (t 30) 4), u 7 (.alloc 29), o (.store 29 (t 7) (t 33)), u 8 (.assign (t 34)), u 9 (.assign (t 35)), u 10 (.assign (t 36)), u 11 (.assign (t 37))]
def r5_12 : List COp := [u 38 (.move (t 8)), u 39 (.binOp .neq 3 (t 38) (ci 1) 3), u 40 (.move (t 39)), gN 40 (some 41) (.move (t 10)), gN 40 (some 42) (cb .len #[(t 41)] #[30]), gN 40 (some 43) (.move (t 0)), gN 40 (some 44) (.binOp .neq 3 (t 42) (t 43) 3), u 45 (.pick (t 40) (.const (.bool true)) (t 44))]
def r5_13 : List COp := [u 4 (.assign (.const (.bool false)))]
def r5_14 : List COp := [u 12 (.assign (ci 0))]
def r5_15 : List COp := [u 13 (.assign (ci 0))]
def r5_16 : List COp := [u 46 (.move (t 13)), u 47 (.fieldAddr 29 (t 7) 0), u 48 (.load 27 (t 47)), u 49 (cb .len #[(t 48)] #[27]), u 50 (.binOp .lss 3 (t 46) (t 49) 3)]
def r5_17 : List COp := [u 51 (.move (t 13)), u 52 (.binOp .add 3 (t 51) (ci 1) 3), u 13 (.assign (t 52))]
def r5_18 : List COp := [u 53 (.fieldAddr 29 (t 7) 0), u 54 (.load 27 (t 53)), u 55 (.move (t 13)), u 56 (.indexAddr 27 (t 54) (t 55)), u 57 (.fieldAddr 42 (t 56) 0), u 58 (.load 3 (t 57)), u 59 (.binOp .eql 3 (t 58) (ci 7) 3)]
def r5_19 : List COp := [u 60 (.move (t 12)), u 61 (.binOp .add 3 (t 60) (ci 1) 3), u 12 (.assign (t 61))]
def r5_20 : List COp := [u 14 (.assign (ci 0))]
def r5_21 : List COp := [u 62 (.move (t 14)), u 63 (.move (t 10)), u 64 (cb .len #[(t 63)] #[30]), u 65 (.binOp .lss 3 (t 62) (t 64) 3)]
def r5_22 : List COp := [u 66 (.move (t 14)), u 67 (.binOp .add 3 (t 66) (ci 1) 3), u 14 (.assign (t 67))]
def r5_23 : List COpF := [uF 68 (.move (t 10)) .pure [], uF 69 (.move (t 14)) .pure [], uF 70 (.indexAddr 30 (t 68) (t 69)) .pure [], uF 71 (.fieldAddr 35 (t 70) 0) .pure [], uF 72 (.load 3 (t 71)) .look [], uF 73 (.binOp .neq 3 (t 72) (ci 9) 3) .pure [], uF 74 (.move (t 73)) .pure [], gNF 74 (some 75) (.move (t 10)) .pure [], gNF 74 (some 76) (.move (t 14)) .pure [], gNF 74 (some 77) (.indexAddr 30 (t 75) (t 76)) .pure [], gNF 74 (some 78) (.fieldAddr 35 (t 77) 2) .pure [], gNF 74 (some 79) (.load 3 (t 78)) .look [], gNF 74 (some 80) (.move (t 10)) .pure [], gNF 74 (some 81) (.move (t 14)) .pure [], gNF 74 (some 82) (.indexAddr 30 (t 80) (t 81)) .pure [], gNF 74 (some 83) (.fieldAddr 35 (t 82) 1) .pure [], gNF 74 (some 84) (.load 3 (t 83)) .look [], gNF 74 (some 85) (.binOp .add 3 (t 84) (ci 1) 3) .pure [], gNF 74 (some 86) (.binOp .neq 3 (t 79) (t 85) 3) .pure [], uF 87 (.pick (t 74) (.const (.bool true)) (t 86)) .pure []]
def r5_24 : List COp := [u 4 (.assign (.const (.bool false)))]
def r5_25 : List COp := [u 88 (.move (t 12)), u 89 (.move (t 0)), u 90 (.binOp .eql 3 (t 88) (t 89) 3), u 4 (.assign (t 90))]
def correctorlaw11_FlowOpen_l0 (F : Nat) (a0 : Int) (a1 : Bool) : Nat → Int → Str → Int → Option (Int × Str)
  | 0, _, _, _ => none
  | n + 1, x25376, x25377, x25378 =>
    if x25378 < x25376 then
      if x25377.b.length + ([91, 97, 44, 32] : List UInt8).length ≤ 4611686018427387904 then
        correctorlaw11_FlowOpen_l0 F a0 a1 n x25376 (⟨x25377.b ++ [91, 97, 44, 32]⟩ : Str) (w64 (x25378 + 1))
      else none
    else
      some (x25376, x25377)
def correctorlaw11_FlowOpen_l1 (F : Nat) (a0 : Int) (a1 : Bool) : Nat → Int → (List api_Node) → (List api_Diag) → Int → Int → Option (Int × (List api_Diag) × Int)
  | 0, _, _, _, _, _ => none
  | n + 1, x25594, x25596, x25599, x25603, x25604 =>
    if x25604 < (x25596.length : Int) then
      ((if 0 ≤ x25604 ∧ x25604 < (x25596.length : Int) then
          (x25596[x25604.toNat]?).bind fun x25624 =>
          if x25624.Kind = (7 : Int) then
            some (x25596, x25599, w64 (x25603 + 1))
          else
            some (x25596, x25599, x25603)
        else none) : Option ((List api_Node) × (List api_Diag) × Int)).bind fun o => match o with
        | (x25635, x25638, x25642) => correctorlaw11_FlowOpen_l1 F a0 a1 n x25594 x25635 x25638 x25642 (w64 (x25604 + 1))
    else
      some (x25594, x25599, x25603)
def correctorlaw11_FlowOpen_l2 (F : Nat) (a0 : Int) (a1 : Bool) : Nat → Int → (List api_Diag) → Int → Int → Option (Sum (Int × Int) Bool)
  | 0, _, _, _, _ => none
  | n + 1, x26039, x26040, x26044, x26045 =>
    if x26045 < (x26040.length : Int) then
      if 0 ≤ x26045 ∧ x26045 < (x26040.length : Int) then
        (x26040[x26045.toNat]?).bind fun x26096 =>
        if x26096.Code = (9 : Int) then
          if 0 ≤ x26045 ∧ x26045 < (x26040.length : Int) then
            (x26040[x26045.toNat]?).bind fun x26107 =>
            if 0 ≤ x26045 ∧ x26045 < (x26040.length : Int) then
              (x26040[x26045.toNat]?).bind fun x26117 =>
              if x26107.To = (w64 (x26117.From + 1)) then
                correctorlaw11_FlowOpen_l2 F a0 a1 n x26039 x26040 x26044 (w64 (x26045 + 1))
              else
                some (.inr false)
            else none
          else none
        else
          some (.inr false)
      else none
    else
      some (.inl (x26039, x26044))
def correctorlaw11_FlowOpen (F : Nat) (a0 : Int) (a1 : Bool) : Option Bool :=
  (correctorlaw11_known F).bind fun r25319 =>
  if r25319 = true then
    (correctorlaw11_within F a0 8).bind fun r25327 =>
    ((correctorlaw11_FlowOpen_l0 F a0 a1 F (w64 (1 + r25327)) (⟨[]⟩ : Str) 0) : Option (Int × Str)).bind fun o => match o with
      | (x25389, x25390) => ((if a1 = true then
          if x25390.b.length + ([10, 45, 45, 45, 10, 93, 93, 93] : List UInt8).length ≤ 4611686018427387904 then
            some (⟨x25390.b ++ [10, 45, 45, 45, 10, 93, 93, 93]⟩ : Str)
          else none
        else
          some x25390) : Option Str).bind fun o => match o with
        | x25400 => (correctorlaw11_value F x25400).bind fun r25403 =>
        if r25403.2.1 = (1 : Int) then
          if (r25403.2.2.2.1.length : Int) = x25389 then
            ((correctorlaw11_FlowOpen_l1 F a0 a1 F x25389 r25403.1.Nodes r25403.2.2.2.1 0 0) : Option (Int × (List api_Diag) × Int)).bind fun o => match o with
              | (x25661, x25662, x25666) => ((correctorlaw11_FlowOpen_l2 F a0 a1 F x25661 x25662 x25666 0) : Option (Sum (Int × Int) Bool)).bind fun o => match o with
                | .inl (x26133, x26134) => if x26134 = x26133 then
                  some true
                else
                  some false
                | .inr y => some y
          else
            some false
        else
          some false
  else
    some false
theorem correctorlaw11_FlowOpen_ok (F : Nat) {h : AH} {Z : Zn} {a0 : Int} {a1 : Bool} (hI : Inv Z h) {r : Bool} (hm : correctorlaw11_FlowOpen F a0 a1 = some r) :
    ∃ v h', callI Go.Proofs.Try.prog 5 [V a0, .bool a1] h = some (v, h') ∧ St h [] Z (0, 0) Z h' [] ∧ v = .bool r := by
  refine fn_plain (Q := fun v => v = .bool r) Go.Proofs.Try.func5 rfl rfl hI ?_
  intro hs hS
  unfold correctorlaw11_FlowOpen at hm
  refine sr r5_0 ?_
  refine xe 1 [(0, V a0), (1, .bool a1)] ?_
  refine sq ?_
  refine sr r5_1 ?_
  obtain ⟨r25319, hx25320, hm⟩ := obind hm
  obtain ⟨v25321, h25322, hcl25323, hSc25324, rfl⟩ := correctorlaw11_known_ok F hS.inv  hx25320
  have hS25325 := St.call (A := []) (B := []) hS hSc25324
  replace hS25325 : St _ _ _ _ _ _ [] := hS25325
  refine r_step rfl trivial (o_call hcl25323 rfl rfl rfl) ?_
  rcases ifs hm with ⟨hp25326, hm⟩ | ⟨hp25326, hm⟩
  refine r_setb (t := 15) rfl hp25326 ?_
  refine xe 1 [(16, .bool false), (0, V a0), (1, .bool a1)] ?_
  refine kF 16 rfl ?_
  refine sr r5_3 ?_
  refine xq 1 [(17, V a0), (0, V a0), (1, .bool a1)] ?_
  obtain ⟨r25327, hx25328, hm⟩ := obind hm
  obtain ⟨v25329, h25330, hcl25331, hSc25332, rfl⟩ := correctorlaw11_within_ok F hS25325.inv  hx25328
  have hS25333 := St.call (A := []) (B := []) hS25325 hSc25332
  replace hS25333 : St _ _ _ _ _ _ [] := hS25333
  refine r_step rfl trivial (o_call hcl25331 rfl rfl rfl) ?_
  refine xe 2 [(0, V (w64 (1 + r25327))), (1, .bool a1)] ?_
  refine sr r5_4 ?_
  refine xe 1 [(5, .string ⟨⟨[]⟩⟩), (0, V (w64 (1 + r25327))), (1, .bool a1)] ?_
  refine sq ?_
  refine sr r5_5 ?_
  refine xe 1 [(6, V 0), (5, .string ⟨⟨[]⟩⟩), (0, V (w64 (1 + r25327))), (1, .bool a1)] ?_
  obtain ⟨o25374, ho25373, hm⟩ := obind hm
  refine W_join [0, 1, 5] (fun l h => ∃ Z25388 : Zn, ∃ x25389 : Int, ∃ x25390 : Str, (x25389, x25390) = o25374 ∧ l = [(0, V x25389), (1, .bool a1), (5, .string ⟨⟨x25390.b⟩⟩)] ∧ St hs [] Z (0, 0) Z25388 h []) ?_ ?_
  rintro l h25391 ⟨Z25388, x25389, x25390, rfl, rfl, hS25392⟩
  try dsimp only at hm
  refine sq ?_
  obtain ⟨o25396, ho25395, hm⟩ := obind hm
  refine W_join [0, 5] (fun l h => ∃ Z25399 : Zn, ∃ x25400 : Str, x25400 = o25396 ∧ l = [(0, V x25389), (5, .string ⟨⟨x25400.b⟩⟩)] ∧ St hs [] Z (0, 0) Z25399 h []) ?_ ?_
  rintro l h25401 ⟨Z25399, x25400, rfl, rfl, hS25402⟩
  try dsimp only at hm
  refine sr r5_11 ?_
  refine xq 1 [(31, .string ⟨⟨x25400.b⟩⟩), (0, V x25389)] ?_
  obtain ⟨r25403, hx25404, hm⟩ := obind hm
  have hSr25410 : St _ _ _ _ _ _ ([] ++ []) := hS25402
  obtain ⟨v25405, h25406, Z25411, A25413, hcl25407, hSc25408, v25415, v25417, c25418, rfl, rfl, q25414, q25416⟩ := correctorlaw11_value_ok F hSr25410.preL  hx25404
  have hS25409 := hSr25410.call hSc25408
  have hZ25412 := hSc25408.zle
  replace hS25409 : St _ _ _ _ _ _ [.gs v25417 c25418 (csz api_Diag)] := hS25409
  refine r_step rfl trivial (o_call hcl25407 rfl rfl rfl) ?_
  refine xq 6 [(37, V r25403.2.2.2.2), (36, v25417), (35, V r25403.2.2.1), (34, V r25403.2.1), (33, .agg #[v25415]), (0, V x25389)] ?_
  refine r_blk rfl trivial (o_alloc (cs := [.slice none 0 0]) (by kernel_rfl)) hS25409 ?_
  intro b25419 h25420 hS25421
  refine r_ex1 rfl trivial (o_stb (vs := [v25415]) (cells' := [v25415]) (L' := [.blk b25419 [v25415], .gs v25417 c25418 (csz api_Diag)]) hS25421 (i := 0) rfl rfl rfl rfl (by kernel_rfl) (one_cons (RS.one1 q25414) one_nil) rfl rfl rfl) ?_
  intro h25422 hS25423
  refine xe 4 [(10, v25417), (8, V r25403.2.1), (7, Pt b25419 0), (0, V x25389)] ?_
  refine sq ?_
  refine sr r5_12 ?_
  refine xq 1 [(38, V r25403.2.1), (10, v25417), (7, Pt b25419 0), (0, V x25389)] ?_
  rcases ifs hm with ⟨hp25428, hm⟩ | ⟨hp25428, hm⟩
  refine r_step rfl trivial (o_cmp rfl rfl (c_neq_F hp25428)) ?_
  refine xq 2 [(41, v25417), (40, .bool false), (10, v25417), (7, Pt b25419 0), (0, V x25389)] ?_
  refine r_step rfl rfl (o_len rfl (hS25423.glen (i := 1) rfl q25416) ⟨_, Go.Proofs.Try.underlying30⟩) ?_
  refine xq 1 [(43, V x25389), (42, V (r25403.2.2.2.1.length : Int)), (40, .bool false), (10, v25417), (7, Pt b25419 0), (0, V x25389)] ?_
  rcases ifs hm with ⟨hp25429, hm⟩ | ⟨hp25429, hm⟩
  refine r_step rfl rfl (o_cmp rfl rfl (c_neq_F hp25429)) ?_
  refine xe 1 [(45, .bool false), (10, v25417), (7, Pt b25419 0), (0, V x25389)] ?_
  refine kF 45 rfl ?_
  refine sr r5_14 ?_
  refine xe 1 [(12, V 0), (10, v25417), (7, Pt b25419 0), (0, V x25389)] ?_
  refine sq ?_
  refine sr r5_15 ?_
  refine xe 1 [(13, V 0), (12, V 0), (10, v25417), (7, Pt b25419 0), (0, V x25389)] ?_
  obtain ⟨o25592, ho25591, hm⟩ := obind hm
  refine W_join [0, 10, 12] (fun l h => ∃ Z25660 : Zn, ∃ x25661 : Int, ∃ x25662 : List api_Diag, ∃ x25666 : Int, ∃ v25664 : Value, ∃ c25665 : List Value, (x25661, x25662, x25666) = o25592 ∧ RCs (α := api_Diag) Z25660 c25665 x25662 ∧ l = [(0, V x25661), (10, v25664), (12, V x25666)] ∧ St hs [] Z (0, 0) Z25660 h [.gs v25664 c25665 (csz api_Diag)]) ?_ ?_
  rintro l h25667 ⟨Z25660, x25661, x25662, x25666, v25664, c25665, rfl, q25663, rfl, hS25668⟩
  try dsimp only at hm
  refine sq ?_
  refine sr r5_20 ?_
  refine xe 1 [(14, V 0), (0, V x25661), (10, v25664), (12, V x25666)] ?_
  obtain ⟨o26037, ho26036, hm⟩ := obind hm
  refine W_join [0, 12] (fun l h => ∃ Z26132 : Zn, ∃ x26133 : Int, ∃ x26134 : Int, .inl (x26133, x26134) = o26037 ∧ l = [(0, V x26133), (12, V x26134)] ∧ St hs [] Z (0, 0) Z26132 h []) ?_ ?_
  rintro l h26135 ⟨Z26132, x26133, x26134, rfl, rfl, hS26136⟩
  try dsimp only at hm
  refine sr r5_25 ?_
  refine xq 2 [(89, V x26133), (88, V x26134)] ?_
  rcases ifs hm with ⟨hp26137, hm⟩ | ⟨hp26137, hm⟩
  refine r_step rfl trivial (o_cmp rfl rfl (c_eql_T hp26137)) ?_
  refine xe 1 [(4, .bool true)] ?_
  refine rt ?_
  refine ⟨rfl, ?_⟩
  obtain rfl := Option.some.inj hm
  refine ⟨_, _, _, ResL.tmp rfl (ResL.nil), hS26136, ?_⟩
  exact rfl
  refine r_step rfl trivial (o_cmp rfl rfl (c_eql_F hp26137)) ?_
  refine xe 1 [(4, .bool false)] ?_
  refine rt ?_
  refine ⟨rfl, ?_⟩
  obtain rfl := Option.some.inj hm
  refine ⟨_, _, _, ResL.tmp rfl (ResL.nil), hS26136, ?_⟩
  exact rfl
  refine bk 4 ?_
  refine lp [0, 10, 12, 14] (fun n l h => ∃ Z26038 : Zn, ∃ x26039 : Int, ∃ x26040 : List api_Diag, ∃ x26044 : Int, ∃ x26045 : Int, ∃ v26042 : Value, ∃ c26043 : List Value, correctorlaw11_FlowOpen_l2 F a0 a1 n x26039 x26040 x26044 x26045 = some o26037 ∧ RCs (α := api_Diag) Z26038 c26043 x26040 ∧ l = [(0, V x26039), (10, v26042), (12, V x26044), (14, V x26045)] ∧ St hs [] Z (0, 0) Z26038 h [.gs v26042 c26043 (csz api_Diag)]) F ⟨_, x25661, x25662, x25666, 0, v25664, c25665, ho26036, q25663, rfl, hS25668⟩ ?_
  rintro n26048 l h26046 ⟨Z26038, x26039, x26040, x26044, x26045, v26042, c26043, ho26036, q26041, rfl, hS26047⟩
  rcases n26048 with _ | n26048
  cases (show none = some o26037 from ho26036)
  rw [correctorlaw11_FlowOpen_l2] at ho26036
  refine sq ?_
  refine sr r5_21 ?_
  refine xq 2 [(63, v26042), (62, V x26045), (0, V x26039), (10, v26042), (12, V x26044), (14, V x26045)] ?_
  refine r_step rfl trivial (o_len rfl (hS26047.glen (i := 0) rfl q26041) ⟨_, Go.Proofs.Try.underlying30⟩) ?_
  rcases ifs ho26036 with ⟨hp26051, ho26036⟩ | ⟨hp26051, ho26036⟩
  refine r_step rfl trivial (o_cmp rfl rfl (c_lss_T hp26051)) ?_
  refine xf [(65, .bool true), (0, V x26039), (10, v26042), (12, V x26044), (14, V x26045)] ?_
  refine kT 65 rfl ?_
  refine sq ?_
  refine bk 5 ?_
  refine srF r5_23 hS26047 ?_
  intro bs26091 h26092 hlv26094 hS26093
  refine yq 2 [(69, V x26045), (68, v26042), (0, V x26039), (10, v26042), (12, V x26044), (14, V x26045)] ?_
  obtain ⟨hc26095, ho26036⟩ := chk ho26036
  refine e_val rfl trivial (o_index rfl rfl (by kernel_rfl : slTy _ _ = some (csz api_Diag)) (hS26093.gbased (j := 0) rfl q26041 (by omega)) hc26095.1 hc26095.2) ?_
  refine yq 1 [(71, .pointer (some (elemA v26042 x26045 (csz api_Diag) 0))), (0, V x26039), (10, v26042), (12, V x26044), (14, V x26045)] ?_
  obtain ⟨x26096, hx26097, ho26036⟩ := obind ho26036
  obtain ⟨cs26098, hc26099, he26100, ht26101⟩ := hS26093.gel (j := 0) rfl q26041 (i := x26045) hx26097
  obtain rfl := rc_api_Diag hc26099
  have ps26102 := pos_of hx26097
  have hB26103 := hS26093.gbased (j := 0) rfl q26041 ps26102
  have lt26104 : (baseOf v26042).block < bs26091 := row_ltM (hlv26094.1 _ (List.mem_of_getElem? (i := 0) rfl)) hB26103
  refine e_lookB rfl trivial rfl (by show (baseOf v26042).block < _; omega) (same1 (v := V x26096.Code) trivial) (o_lde (w := V x26096.Code) he26100 rfl (by kernel_rfl)) trivial ?_
  rcases ifs ho26036 with ⟨hp26105, ho26036⟩ | ⟨hp26105, ho26036⟩
  refine e_val rfl trivial (o_cmp rfl rfl (c_neq_F hp26105)) ?_
  refine yq 3 [(76, V x26045), (75, v26042), (74, .bool false), (0, V x26039), (10, v26042), (12, V x26044), (14, V x26045)] ?_
  obtain ⟨hc26106, ho26036⟩ := chk ho26036
  refine e_val rfl rfl (o_index rfl rfl (by kernel_rfl : slTy _ _ = some (csz api_Diag)) (hS26093.gbased (j := 0) rfl q26041 (by omega)) hc26106.1 hc26106.2) ?_
  refine yq 1 [(78, .pointer (some (elemA v26042 x26045 (csz api_Diag) 2))), (74, .bool false), (0, V x26039), (10, v26042), (12, V x26044), (14, V x26045)] ?_
  obtain ⟨x26107, hx26108, ho26036⟩ := obind ho26036
  obtain ⟨cs26109, hc26110, he26111, ht26112⟩ := hS26093.gel (j := 0) rfl q26041 (i := x26045) hx26108
  obtain rfl := rc_api_Diag hc26110
  have ps26113 := pos_of hx26108
  have hB26114 := hS26093.gbased (j := 0) rfl q26041 ps26113
  have lt26115 : (baseOf v26042).block < bs26091 := row_ltM (hlv26094.1 _ (List.mem_of_getElem? (i := 0) rfl)) hB26114
  refine e_lookB rfl rfl rfl (by show (baseOf v26042).block < _; omega) (same1 (v := V x26107.To) trivial) (o_lde (w := V x26107.To) he26111 rfl (by kernel_rfl)) trivial ?_
  refine yq 2 [(81, V x26045), (80, v26042), (79, V x26107.To), (74, .bool false), (0, V x26039), (10, v26042), (12, V x26044), (14, V x26045)] ?_
  obtain ⟨hc26116, ho26036⟩ := chk ho26036
  refine e_val rfl rfl (o_index rfl rfl (by kernel_rfl : slTy _ _ = some (csz api_Diag)) (hS26093.gbased (j := 0) rfl q26041 (by omega)) hc26116.1 hc26116.2) ?_
  refine yq 1 [(83, .pointer (some (elemA v26042 x26045 (csz api_Diag) 1))), (79, V x26107.To), (74, .bool false), (0, V x26039), (10, v26042), (12, V x26044), (14, V x26045)] ?_
  obtain ⟨x26117, hx26118, ho26036⟩ := obind ho26036
  obtain ⟨cs26119, hc26120, he26121, ht26122⟩ := hS26093.gel (j := 0) rfl q26041 (i := x26045) hx26118
  obtain rfl := rc_api_Diag hc26120
  have ps26123 := pos_of hx26118
  have hB26124 := hS26093.gbased (j := 0) rfl q26041 ps26123
  have lt26125 : (baseOf v26042).block < bs26091 := row_ltM (hlv26094.1 _ (List.mem_of_getElem? (i := 0) rfl)) hB26124
  refine e_lookB rfl rfl rfl (by show (baseOf v26042).block < _; omega) (same1 (v := V x26117.From) trivial) (o_lde (w := V x26117.From) he26121 rfl (by kernel_rfl)) trivial ?_
  refine yq 1 [(85, V (w64 (x26117.From + 1))), (79, V x26107.To), (74, .bool false), (0, V x26039), (10, v26042), (12, V x26044), (14, V x26045)] ?_
  rcases ifs ho26036 with ⟨hp26126, ho26036⟩ | ⟨hp26126, ho26036⟩
  refine e_val rfl rfl (o_cmp rfl rfl (c_neq_F hp26126)) ?_
  refine ye 1 [(87, .bool false), (0, V x26039), (10, v26042), (12, V x26044), (14, V x26045)] ?_
  have hS26127 := hS26093.unres
  refine kF 87 rfl ?_
  refine rg r5_22 ?_
  refine xe 3 [(14, V (w64 (x26045 + 1))), (0, V x26039), (10, v26042), (12, V x26044)] ?_
  exact ⟨n26048, Nat.lt_succ_self _, ⟨_, x26039, x26040, x26044, w64 (x26045 + 1), v26042, c26043, ho26036, q26041, rfl, hS26127⟩⟩
  refine e_val rfl rfl (o_cmp rfl rfl (c_neq_T hp26126)) ?_
  refine ye 1 [(87, .bool true), (0, V x26039), (10, v26042), (12, V x26044), (14, V x26045)] ?_
  have hS26128 := hS26093.unres
  refine cT 87 rfl ?_
  refine sr r5_24 ?_
  refine xe 1 [(4, .bool false)] ?_
  refine rt ?_
  refine blkX_ret ?_
  refine blkX_ret ?_
  refine ⟨rfl, ?_⟩
  obtain rfl := Option.some.inj ho26036
  obtain rfl := Option.some.inj hm
  refine ⟨_, _, _, ResL.tmp rfl (ResL.nil), hS26128, ?_⟩
  exact rfl
  refine e_val rfl trivial (o_cmp rfl rfl (c_neq_T hp26105)) ?_
  refine ye 14 [(87, .bool true), (0, V x26039), (10, v26042), (12, V x26044), (14, V x26045)] ?_
  have hS26129 := hS26093.unres
  refine cT 87 rfl ?_
  refine sr r5_24 ?_
  refine xe 1 [(4, .bool false)] ?_
  refine rt ?_
  refine blkX_ret ?_
  refine blkX_ret ?_
  refine ⟨rfl, ?_⟩
  obtain rfl := Option.some.inj ho26036
  obtain rfl := Option.some.inj hm
  refine ⟨_, _, _, ResL.tmp rfl (ResL.nil), hS26129, ?_⟩
  exact rfl
  refine r_step rfl trivial (o_cmp rfl rfl (c_lss_F hp26051)) ?_
  refine xf [(65, .bool false), (0, V x26039), (10, v26042), (12, V x26044), (14, V x26045)] ?_
  refine cF 65 rfl ?_
  refine xt 4 ?_
  refine blkX_hit ?_
  obtain rfl := Option.some.inj ho26036
  exact ⟨_, x26039, x26044, rfl, rfl, (hS26047.takeN 0)⟩
  refine bk 2 ?_
  refine lp [0, 7, 10, 12, 13] (fun n l h => ∃ Z25593 : Zn, ∃ x25594 : Int, ∃ x25596 : List api_Node, ∃ x25599 : List api_Diag, ∃ x25603 : Int, ∃ x25604 : Int, ∃ b25595 : Nat, ∃ v25598 : Value, ∃ v25601 : Value, ∃ c25602 : List Value, correctorlaw11_FlowOpen_l1 F a0 a1 n x25594 x25596 x25599 x25603 x25604 = some o25592 ∧ RS (α := api_Node) Z25593 v25598 x25596 ∧ RCs (α := api_Diag) Z25593 c25602 x25599 ∧ l = [(0, V x25594), (7, Pt b25595 0), (10, v25601), (12, V x25603), (13, V x25604)] ∧ St hs [] Z (0, 0) Z25593 h [.blk b25595 [v25598], .gs v25601 c25602 (csz api_Diag)]) F ⟨_, x25389, r25403.1.Nodes, r25403.2.2.2.1, 0, 0, b25419, v25415, v25417, c25418, ho25591, q25414, q25416, rfl, hS25423⟩ ?_
  rintro n25607 l h25605 ⟨Z25593, x25594, x25596, x25599, x25603, x25604, b25595, v25598, v25601, c25602, ho25591, q25597, q25600, rfl, hS25606⟩
  rcases n25607 with _ | n25607
  cases (show none = some o25592 from ho25591)
  rw [correctorlaw11_FlowOpen_l1] at ho25591
  refine sq ?_
  refine sr r5_16 ?_
  refine xq 2 [(47, Pt b25595 0), (46, V x25604), (0, V x25594), (7, Pt b25595 0), (10, v25601), (12, V x25603), (13, V x25604)] ?_
  refine r_step rfl trivial (o_ldb (v := v25598) hS25606 (i := 0) rfl rfl (by kernel_rfl)) ?_
  refine r_step rfl trivial (o_len rfl (RS.len q25597) ⟨_, Go.Proofs.Try.underlying27⟩) ?_
  rcases ifs ho25591 with ⟨hp25610, ho25591⟩ | ⟨hp25610, ho25591⟩
  refine r_step rfl trivial (o_cmp rfl rfl (c_lss_T hp25610)) ?_
  refine xf [(50, .bool true), (0, V x25594), (7, Pt b25595 0), (10, v25601), (12, V x25603), (13, V x25604)] ?_
  refine kT 50 rfl ?_
  refine sq ?_
  refine bk 3 ?_
  obtain ⟨o25622, ho25621, ho25591⟩ := obind ho25591
  refine W_seqJoin0 [0, 7, 10, 12, 13] (fun l h => ∃ Z25633 : Zn, ∃ x25635 : List api_Node, ∃ x25638 : List api_Diag, ∃ x25642 : Int, ∃ b25634 : Nat, ∃ v25637 : Value, ∃ v25640 : Value, ∃ c25641 : List Value, (x25635, x25638, x25642) = o25622 ∧ RS (α := api_Node) Z25633 v25637 x25635 ∧ RCs (α := api_Diag) Z25633 c25641 x25638 ∧ l = [(0, V x25594), (7, Pt b25634 0), (10, v25640), (12, V x25642), (13, V x25604)] ∧ St hs [] Z (0, 0) Z25633 h [.blk b25634 [v25637], .gs v25640 c25641 (csz api_Diag)]) (by kernel_rfl) ?_ ?_
  rintro l h25643 ⟨Z25633, x25635, x25638, x25642, b25634, v25637, v25640, c25641, rfl, q25636, q25639, rfl, hS25644⟩
  try dsimp only at ho25591
  refine rg r5_17 ?_
  refine xe 3 [(13, V (w64 (x25604 + 1))), (0, V x25594), (7, Pt b25634 0), (10, v25640), (12, V x25642)] ?_
  exact ⟨n25607, Nat.lt_succ_self _, ⟨_, x25594, x25635, x25638, x25642, w64 (x25604 + 1), b25634, v25637, v25640, c25641, ho25591, q25636, q25639, rfl, hS25644⟩⟩
  refine rg r5_18 ?_
  refine xq 1 [(53, Pt b25595 0), (0, V x25594), (7, Pt b25595 0), (10, v25601), (12, V x25603), (13, V x25604)] ?_
  refine r_step rfl trivial (o_ldb (v := v25598) hS25606 (i := 0) rfl rfl (by kernel_rfl)) ?_
  refine xq 1 [(55, V x25604), (54, v25598), (0, V x25594), (7, Pt b25595 0), (10, v25601), (12, V x25603), (13, V x25604)] ?_
  obtain ⟨hc25623, ho25621⟩ := chk ho25621
  refine r_step rfl trivial (o_index rfl rfl (by kernel_rfl : slTy _ _ = some (csz api_Node)) (RS.based q25597 (by omega)) hc25623.1 hc25623.2) ?_
  refine xq 1 [(57, .pointer (some (elemA v25598 x25604 (csz api_Node) 0))), (0, V x25594), (7, Pt b25595 0), (10, v25601), (12, V x25603), (13, V x25604)] ?_
  obtain ⟨x25624, hx25625, ho25621⟩ := obind ho25621
  obtain ⟨cs25626, hc25627, he25628⟩ := RS.elz q25597 (i := x25604) hx25625
  obtain ⟨v25630, q25631, rfl⟩ := rc_api_Node hc25627
  refine r_step rfl trivial (o_lde (w := V x25624.Kind) (he25628 _ (hS25606.zin0 (Zle.refl _))) rfl (by kernel_rfl)) ?_
  rcases ifs ho25621 with ⟨hp25632, ho25621⟩ | ⟨hp25632, ho25621⟩
  refine r_step rfl trivial (o_cmp rfl rfl (c_eql_T hp25632)) ?_
  refine xf [(59, .bool true), (0, V x25594), (7, Pt b25595 0), (10, v25601), (12, V x25603), (13, V x25604)] ?_
  refine cT 59 rfl ?_
  refine rg r5_19 ?_
  refine xe 3 [(12, V (w64 (x25603 + 1))), (0, V x25594), (7, Pt b25595 0), (10, v25601), (13, V x25604)] ?_
  obtain rfl := Option.some.inj ho25621
  exact ⟨_, x25596, x25599, w64 (x25603 + 1), b25595, v25598, v25601, c25602, rfl, q25597, q25600, rfl, hS25606⟩
  refine r_step rfl trivial (o_cmp rfl rfl (c_eql_F hp25632)) ?_
  refine xf [(59, .bool false), (0, V x25594), (7, Pt b25595 0), (10, v25601), (12, V x25603), (13, V x25604)] ?_
  refine kF 59 rfl ?_
  obtain rfl := Option.some.inj ho25621
  exact ⟨_, x25596, x25599, x25603, b25595, v25598, v25601, c25602, rfl, q25597, q25600, rfl, hS25606⟩
  refine r_step rfl trivial (o_cmp rfl rfl (c_lss_F hp25610)) ?_
  refine xf [(50, .bool false), (0, V x25594), (7, Pt b25595 0), (10, v25601), (12, V x25603), (13, V x25604)] ?_
  refine cF 50 rfl ?_
  refine xt 2 ?_
  refine blkX_hit ?_
  obtain rfl := Option.some.inj ho25591
  exact ⟨_, x25594, x25599, x25603, v25601, c25602, rfl, q25600, rfl, ((hS25606.front 1 rfl).takeN 1)⟩
  refine r_step rfl rfl (o_cmp rfl rfl (c_neq_T hp25429)) ?_
  refine xe 1 [(45, .bool true), (10, v25417), (7, Pt b25419 0), (0, V x25389)] ?_
  refine cT 45 rfl ?_
  refine sr r5_13 ?_
  refine xe 1 [(4, .bool false)] ?_
  refine rt ?_
  refine ⟨rfl, ?_⟩
  obtain rfl := Option.some.inj hm
  refine ⟨_, _, _, ResL.tmp rfl (ResL.nil), hS25423, ?_⟩
  exact rfl
  refine r_step rfl trivial (o_cmp rfl rfl (c_neq_T hp25428)) ?_
  refine xe 6 [(45, .bool true), (10, v25417), (7, Pt b25419 0), (0, V x25389)] ?_
  refine cT 45 rfl ?_
  refine sr r5_13 ?_
  refine xe 1 [(4, .bool false)] ?_
  refine rt ?_
  refine ⟨rfl, ?_⟩
  obtain rfl := Option.some.inj hm
  refine ⟨_, _, _, ResL.tmp rfl (ResL.nil), hS25423, ?_⟩
  exact rfl
  refine sr r5_9 ?_
  refine xe 1 [(27, .bool a1), (0, V x25389), (5, .string ⟨⟨x25390.b⟩⟩)] ?_
  rcases ifs ho25395 with ⟨hp25397, ho25395⟩ | ⟨hp25397, ho25395⟩
  refine W_condT (x := .tmp 27) (by kernel_rfl) rfl hp25397 ?_
  refine rg r5_10 ?_
  refine xq 1 [(28, .string ⟨⟨x25390.b⟩⟩), (0, V x25389), (5, .string ⟨⟨x25390.b⟩⟩)] ?_
  obtain ⟨hc25398, ho25395⟩ := chk ho25395
  refine r_step rfl trivial (o_sadd rfl rfl (by simpa using hc25398)) ?_
  refine xe 1 [(5, .string ⟨⟨x25390.b ++ [10, 45, 45, 45, 10, 93, 93, 93]⟩⟩), (0, V x25389)] ?_
  obtain rfl := Option.some.inj ho25395
  exact ⟨_, (⟨x25390.b ++ [10, 45, 45, 45, 10, 93, 93, 93]⟩ : Str), rfl, rfl, hS25392⟩
  refine W_condF (x := .tmp 27) (by kernel_rfl) rfl (Bool.eq_false_iff.2 hp25397) ?_
  refine sk ?_
  obtain rfl := Option.some.inj ho25395
  exact ⟨_, x25390, rfl, rfl, hS25392⟩
  refine bk 0 ?_
  refine lp [0, 1, 5, 6] (fun n l h => ∃ Z25375 : Zn, ∃ x25376 : Int, ∃ x25377 : Str, ∃ x25378 : Int, correctorlaw11_FlowOpen_l0 F a0 a1 n x25376 x25377 x25378 = some o25374 ∧ l = [(0, V x25376), (1, .bool a1), (5, .string ⟨⟨x25377.b⟩⟩), (6, V x25378)] ∧ St hs [] Z (0, 0) Z25375 h []) F ⟨_, w64 (1 + r25327), (⟨[]⟩ : Str), 0, ho25373, rfl, hS25333⟩ ?_
  rintro n25381 l h25379 ⟨Z25375, x25376, x25377, x25378, ho25373, rfl, hS25380⟩
  rcases n25381 with _ | n25381
  cases (show none = some o25374 from ho25373)
  rw [correctorlaw11_FlowOpen_l0] at ho25373
  refine sq ?_
  refine sr r5_6 ?_
  refine xq 2 [(21, V x25376), (20, V x25378), (0, V x25376), (1, .bool a1), (5, .string ⟨⟨x25377.b⟩⟩), (6, V x25378)] ?_
  rcases ifs ho25373 with ⟨hp25384, ho25373⟩ | ⟨hp25384, ho25373⟩
  refine r_step rfl trivial (o_cmp rfl rfl (c_lss_T hp25384)) ?_
  refine xf [(22, .bool true), (0, V x25376), (1, .bool a1), (5, .string ⟨⟨x25377.b⟩⟩), (6, V x25378)] ?_
  refine kT 22 rfl ?_
  refine sq ?_
  refine bk 1 ?_
  refine rg r5_8 ?_
  refine xq 1 [(25, .string ⟨⟨x25377.b⟩⟩), (0, V x25376), (1, .bool a1), (5, .string ⟨⟨x25377.b⟩⟩), (6, V x25378)] ?_
  obtain ⟨hc25385, ho25373⟩ := chk ho25373
  refine r_step rfl trivial (o_sadd rfl rfl (by simpa using hc25385)) ?_
  refine xe 1 [(5, .string ⟨⟨x25377.b ++ [91, 97, 44, 32]⟩⟩), (0, V x25376), (1, .bool a1), (6, V x25378)] ?_
  refine rg r5_7 ?_
  refine xe 3 [(6, V (w64 (x25378 + 1))), (5, .string ⟨⟨x25377.b ++ [91, 97, 44, 32]⟩⟩), (0, V x25376), (1, .bool a1)] ?_
  exact ⟨n25381, Nat.lt_succ_self _, ⟨_, x25376, (⟨x25377.b ++ [91, 97, 44, 32]⟩ : Str), w64 (x25378 + 1), ho25373, rfl, hS25380⟩⟩
  refine r_step rfl trivial (o_cmp rfl rfl (c_lss_F hp25384)) ?_
  refine xf [(22, .bool false), (0, V x25376), (1, .bool a1), (5, .string ⟨⟨x25377.b⟩⟩), (6, V x25378)] ?_
  refine cF 22 rfl ?_
  refine xt 0 ?_
  refine blkX_hit ?_
  obtain rfl := Option.some.inj ho25373
  exact ⟨_, x25376, x25377, rfl, rfl, hS25380⟩
  refine r_setb (t := 15) rfl (Bool.eq_false_iff.2 hp25326) ?_
  refine xe 1 [(16, .bool true), (0, V a0), (1, .bool a1)] ?_
  refine cT 16 rfl ?_
  refine sr r5_2 ?_
  refine xe 1 [(4, .bool false)] ?_
  refine rt ?_
  refine ⟨rfl, ?_⟩
  obtain rfl := Option.some.inj hm
  refine ⟨_, _, _, ResL.tmp rfl (ResL.nil), hS25325, ?_⟩
  exact rfl

end Go.Proofs.Ytahcngeimlkcgaa.M
