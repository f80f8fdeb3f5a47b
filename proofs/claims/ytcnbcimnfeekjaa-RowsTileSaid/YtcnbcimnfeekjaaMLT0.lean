/- Printed by a program of this session: Go functions as Lean functions over plain data, and that the calls come to them. -/
import Derived.Test.YtcnbcimnfeekjaaSyJ
import Derived.Test.YtcnbcimnfeekjaaChecked
import Derived.KernelRfl
import Derived.Test.YtcnbcimnfeekjaaMN0
namespace Go.Proofs.Ytcnbcimnfeekjaa.M
open Go Am Sy
open Sy.Cell (rc)
set_option linter.unusedVariables false
set_option linter.unusedSimpArgs false
set_option maxRecDepth 20000

def r5_0 : List COp := [u 4 (.assign (.const (.bool false)))]
def r5_1 : List COp := [u 13 (cf 9 #[] #[]), u 14 (.unOp .not 4 (t 13))]
def r5_2 : List COp := [u 4 (.assign (.const (.bool false)))]
def r5_3 : List COp := [u 15 (.move (t 0)), u 16 (.move (t 1)), u 17 (cf 10 #[(t 15), (t 16)] #[22, 23]), u 5 (.assign (t 17))]
def r5_4 : List COp := [u 18 (.move (t 5)), u 19 (cf 11 #[(t 18)] #[23]), u 6 (.assign (t 19))]
def r5_5 : List COp := [u 20 (.move (t 5)), u 21 (.move (t 6)), u 22 (cf 12 #[(t 20), (t 21)] #[23, 27]), u 7 (.assign (t 22))]
def r5_6 : List COp := [u 8 (.assign (ci 0))]
def r5_7 : List COp := [u 9 (.assign (ci 0))]
def r5_8 : List COp := [u 23 (.move (t 9)), u 24 (.move (t 7)), u 25 (cb .len #[(t 24)] #[29]), u 26 (.binOp .lss 3 (t 23) (t 25) 3)]
def r5_9 : List COp := [u 27 (.move (t 9)), u 28 (.binOp .add 3 (t 27) (ci 1) 3), u 9 (.assign (t 28))]
def r5_10 : List COp := [u 29 (.move (t 7)), u 30 (.move (t 9)), u 31 (.indexAddr 29 (t 29) (t 30)), u 32 (.fieldAddr 33 (t 31) 1), u 33 (.load 3 (t 32)), u 34 (.move (t 8)), u 35 (.binOp .neq 3 (t 33) (t 34) 3), u 36 (.move (t 35)), gN 36 (some 37) (.move (t 7)), gN 36 (some 38) (.move (t 9)), gN 36 (some 39) (.indexAddr 29 (t 37) (t 38)), gN 36 (some 40) (.fieldAddr 33 (t 39) 2), gN 36 (some 41) (.load 3 (t 40)), gN 36 (some 42) (.move (t 8)), gN 36 (some 43) (.binOp .leq 3 (t 41) (t 42) 3), u 44 (.pick (t 36) (.const (.bool true)) (t 43)), u 45 (.move (t 44)), gN 45 (some 46) (.move (t 7)), gN 45 (some 47) (.move (t 9)), gN 45 (some 48) (.indexAddr 29 (t 46) (t 47)), gN 45 (some 49) (.fieldAddr 33 (t 48) 2), gN 45 (some 50) (.load 3 (t 49)), gN 45 (some 51) (.move (t 6)), gN 45 (some 52) (cb .len #[(t 51)] #[27]), gN 45 (some 53) (.binOp .gtr 3 (t 50) (t 52) 3), u 54 (.pick (t 45) (.const (.bool true)) (t 53))]
def r5_11 : List COp := [u 4 (.assign (.const (.bool false)))]
def r5_12 : List COp := [u 55 (.move (t 6)), u 56 (.move (t 7)), u 57 (.move (t 9)), u 58 (.indexAddr 29 (t 56) (t 57)), u 59 (.fieldAddr 33 (t 58) 2), u 60 (.load 3 (t 59)), u 61 (.binOp .sub 3 (t 60) (ci 1) 3), u 62 (.indexAddr 27 (t 55) (t 61)), u 63 (.fieldAddr 45 (t 62) 0), u 64 (.load 3 (t 63)), u 10 (.assign (t 64))]
def r5_13 : List COp := [u 65 (.move (t 9)), u 66 (.binOp .add 3 (t 65) (ci 1) 3), u 67 (.move (t 7)), u 68 (cb .len #[(t 67)] #[29]), u 69 (.binOp .lss 3 (t 66) (t 68) 3), u 70 (.move (t 69)), gT 70 (some 71) (.move (t 10)), gT 70 (some 72) (.binOp .neq 3 (t 71) (ci 1) 3), u 73 (.pick (t 70) (t 72) (.const (.bool false))), u 74 (.move (t 73)), gT 74 (some 75) (.move (t 10)), gT 74 (some 76) (.binOp .neq 3 (t 75) (ci 19) 3), u 77 (.pick (t 74) (t 76) (.const (.bool false)))]
def r5_14 : List COp := [u 4 (.assign (.const (.bool false)))]
def r5_15 : List COp := [u 11 (.assign (.const (.bool false)))]
def r5_16 : List COp := [u 78 (.move (t 7)), u 79 (.move (t 9)), u 80 (.indexAddr 29 (t 78) (t 79)), u 81 (.fieldAddr 33 (t 80) 1), u 82 (.load 3 (t 81)), u 12 (.assign (t 82))]
def r5_17 : List COp := [u 83 (.move (t 12)), u 84 (.move (t 7)), u 85 (.move (t 9)), u 86 (.indexAddr 29 (t 84) (t 85)), u 87 (.fieldAddr 33 (t 86) 2), u 88 (.load 3 (t 87)), u 89 (.binOp .lss 3 (t 83) (t 88) 3)]
def r5_18 : List COp := [u 90 (.move (t 12)), u 91 (.binOp .add 3 (t 90) (ci 1) 3), u 12 (.assign (t 91))]
def r5_19 : List COp := [u 92 (.move (t 11)), u 93 (.move (t 92)), gN 93 (some 94) (.move (t 6)), gN 93 (some 95) (.move (t 12)), gN 93 (some 96) (.indexAddr 27 (t 94) (t 95)), gN 93 (some 97) (.fieldAddr 45 (t 96) 0), gN 93 (some 98) (.load 3 (t 97)), gN 93 (some 99) (cf 16 #[(t 98)] #[3]), u 100 (.pick (t 93) (.const (.bool true)) (t 99)), u 11 (.assign (t 100))]
def r5_20 : List COp := [u 101 (.move (t 11)), u 102 (.move (t 7)), u 103 (.move (t 9)), u 104 (.indexAddr 29 (t 102) (t 103)), u 105 (.fieldAddr 33 (t 104) 3), u 106 (.load 3 (t 105)), u 107 (.binOp .geq 3 (t 106) (ci 0) 3), u 108 (.binOp .neq 4 (t 101) (t 107) 4), u 109 (.move (t 108)), gN 109 (some 110) (.move (t 7)), gN 109 (some 111) (.move (t 9)), gN 109 (some 112) (.indexAddr 29 (t 110) (t 111)), gN 109 (some 113) (.fieldAddr 33 (t 112) 0), gN 109 (some 114) (.load 3 (t 113)), gN 109 (some 115) (.binOp .eql 3 (t 114) (ci 1) 3), gN 109 (some 116) (.move (t 115)), gT 116 (some 117) (.move (t 11)), gN 109 (some 118) (.pick (t 116) (t 117) (.const (.bool false))), u 119 (.pick (t 109) (.const (.bool true)) (t 118))]
def r5_21 : List COp := [u 4 (.assign (.const (.bool false)))]
def r5_22 : List COp := [u 120 (.move (t 7)), u 121 (.move (t 9)), u 122 (.indexAddr 29 (t 120) (t 121)), u 123 (.fieldAddr 33 (t 122) 2), u 124 (.load 3 (t 123)), u 8 (.assign (t 124))]
def r5_23 : List COp := [u 125 (.move (t 8)), u 126 (.move (t 6)), u 127 (cb .len #[(t 126)] #[27]), u 128 (.binOp .eql 3 (t 125) (t 127) 3), u 4 (.assign (t 128))]
def correctorlaw9_RowsTile_l1 (F : Nat) (a0 : List Int) (a1 : List UInt8) : Nat → (List api_Token) → (List api_Row) → Int → Bool → Int → Option ((List api_Token) × (List api_Row) × Int × Bool)
  | 0, _, _, _, _, _ => none
  | n + 1, x28594, x28597, x28601, x28602, x28603 =>
    if 0 ≤ x28601 ∧ x28601 < (x28597.length : Int) then
      (x28597[x28601.toNat]?).bind fun x28624 =>
      if x28603 < x28624.To then
        ((if x28602 = true then
            some (x28594, x28597, true)
          else
            if 0 ≤ x28603 ∧ x28603 < (x28594.length : Int) then
              (x28594[x28603.toNat]?).bind fun x28650 =>
              (correctorref6_Counts F x28650.Kind).bind fun r28656 =>
              some (x28594, x28597, r28656)
            else none) : Option ((List api_Token) × (List api_Row) × Bool)).bind fun o => match o with
          | (x28664, x28667, x28671) => correctorlaw9_RowsTile_l1 F a0 a1 n x28664 x28667 x28601 x28671 (w64 (x28603 + 1))
      else
        some (x28594, x28597, x28601, x28602)
    else none
def correctorlaw9_RowsTile_l0 (F : Nat) (a0 : List Int) (a1 : List UInt8) : Nat → (List api_Token) → (List api_Row) → Int → Int → Option (Sum ((List api_Token) × Int) Bool)
  | 0, _, _, _, _ => none
  | n + 1, x28192, x28195, x28199, x28200 =>
    if x28200 < (x28195.length : Int) then
      if 0 ≤ x28200 ∧ x28200 < (x28195.length : Int) then
        (x28195[x28200.toNat]?).bind fun x28256 =>
        if x28256.From = x28199 then
          if 0 ≤ x28200 ∧ x28200 < (x28195.length : Int) then
            (x28195[x28200.toNat]?).bind fun x28264 =>
            if x28264.To ≤ x28199 then
              some (.inr false)
            else
              if 0 ≤ x28200 ∧ x28200 < (x28195.length : Int) then
                (x28195[x28200.toNat]?).bind fun x28272 =>
                if (x28192.length : Int) < x28272.To then
                  some (.inr false)
                else
                  if 0 ≤ x28200 ∧ x28200 < (x28195.length : Int) then
                    (x28195[x28200.toNat]?).bind fun x28280 =>
                    if 0 ≤ (w64 (x28280.To - 1)) ∧ (w64 (x28280.To - 1)) < (x28192.length : Int) then
                      (x28192[(w64 (x28280.To - 1)).toNat]?).bind fun x28287 =>
                      ((if (w64 (x28200 + 1)) < (x28195.length : Int) then
                          if x28287.Kind = (1 : Int) then
                            some (.inl (x28192, x28195))
                          else
                            if x28287.Kind = (19 : Int) then
                              some (.inl (x28192, x28195))
                            else
                              some (.inr false)
                        else
                          some (.inl (x28192, x28195))) : Option (Sum ((List api_Token) × (List api_Row)) Bool)).bind fun o => match o with
                        | .inl (x28302, x28305) => if 0 ≤ x28200 ∧ x28200 < (x28305.length : Int) then
                          (x28305[x28200.toNat]?).bind fun x28458 =>
                          ((correctorlaw9_RowsTile_l1 F a0 a1 F x28302 x28305 x28200 false x28458.From) : Option ((List api_Token) × (List api_Row) × Int × Bool)).bind fun o => match o with
                            | (x28692, x28695, x28699, x28700) => ((if 0 ≤ x28699 ∧ x28699 < (x28695.length : Int) then
                                (x28695[x28699.toNat]?).bind fun x28734 =>
                                if (0 : Int) ≤ x28734.Col then
                                  if x28700 = true then
                                    if 0 ≤ x28699 ∧ x28699 < (x28695.length : Int) then
                                      (x28695[x28699.toNat]?).bind fun x28743 =>
                                      if x28743.Kind = (1 : Int) then
                                        if x28700 = true then
                                          some (.inr false)
                                        else
                                          some (.inl (x28692, x28695))
                                      else
                                        some (.inl (x28692, x28695))
                                    else none
                                  else
                                    some (.inr false)
                                else
                                  if x28700 = true then
                                    some (.inr false)
                                  else
                                    if 0 ≤ x28699 ∧ x28699 < (x28695.length : Int) then
                                      (x28695[x28699.toNat]?).bind fun x28753 =>
                                      if x28753.Kind = (1 : Int) then
                                        if x28700 = true then
                                          some (.inr false)
                                        else
                                          some (.inl (x28692, x28695))
                                      else
                                        some (.inl (x28692, x28695))
                                    else none
                              else none) : Option (Sum ((List api_Token) × (List api_Row)) Bool)).bind fun o => match o with
                              | .inl (x28762, x28765) => if 0 ≤ x28699 ∧ x28699 < (x28765.length : Int) then
                                (x28765[x28699.toNat]?).bind fun x28772 =>
                                correctorlaw9_RowsTile_l0 F a0 a1 n x28762 x28765 x28772.To (w64 (x28699 + 1))
                              else none
                              | .inr y => some (.inr y)
                        else none
                        | .inr y => some (.inr y)
                    else none
                  else none
              else none
          else none
        else
          some (.inr false)
      else none
    else
      some (.inl (x28192, x28199))
def correctorlaw9_RowsTile (F : Nat) (a0 : List Int) (a1 : List UInt8) : Option Bool :=
  (correctorlaw9_known F).bind fun r26341 =>
  if r26341 = true then
    (correctorlaw6_Text F a0 a1).bind fun r26349 =>
    (correctorref6_Tokens F r26349).bind fun r26362 =>
    (rows_Rows F r26349 r26362).bind fun r26380 =>
    ((correctorlaw9_RowsTile_l0 F a0 a1 F r26362 r26380 0 0) : Option (Sum ((List api_Token) × Int) Bool)).bind fun o => match o with
      | .inl (x28806, x28809) => if x28809 = (x28806.length : Int) then
        some true
      else
        some false
      | .inr y => some y
  else
    some false
theorem correctorlaw9_RowsTile_ok (F : Nat) {h : AH} {Z : Zn} {a0 : List Int} {a1 : List UInt8} {v24450 : Value} {v24452 : Value} (hI : Inv Z h) (q24449 : RS (α := Int) Z v24450 a0) (q24451 : RS (α := UInt8) Z v24452 a1) {r : Bool} (hm : correctorlaw9_RowsTile F a0 a1 = some r) :
    ∃ v h', callI Go.Proofs.Try.prog 5 [v24450, v24452] h = some (v, h') ∧ St h [] Z (0, 0) Z h' [] ∧ v = .bool r := by
  refine fn_plain (Q := fun v => v = .bool r) Go.Proofs.Try.func5 rfl rfl hI ?_
  intro hs hS
  unfold correctorlaw9_RowsTile at hm
  refine sr r5_0 ?_
  refine xe 1 [(0, v24450), (1, v24452)] ?_
  refine sq ?_
  refine sr r5_1 ?_
  obtain ⟨r26341, hx26342, hm⟩ := obind hm
  obtain ⟨v26343, h26344, hcl26345, hSc26346, rfl⟩ := correctorlaw9_known_ok F hS.inv  hx26342
  have hS26347 := St.call (A := []) (B := []) hS hSc26346
  replace hS26347 : St _ _ _ _ _ _ [] := hS26347
  refine r_step rfl trivial (o_call hcl26345 rfl rfl rfl) ?_
  rcases ifs hm with ⟨hp26348, hm⟩ | ⟨hp26348, hm⟩
  refine r_setb (t := 13) rfl hp26348 ?_
  refine xe 1 [(14, .bool false), (0, v24450), (1, v24452)] ?_
  refine kF 14 rfl ?_
  refine sr r5_3 ?_
  refine xq 2 [(16, v24452), (15, v24450)] ?_
  obtain ⟨r26349, hx26350, hm⟩ := obind hm
  have hSr26356 : St _ _ _ _ _ _ ([] ++ []) := hS26347
  obtain ⟨v26351, h26352, Z26357, A26359, hcl26353, hSc26354, v26361, rfl, rfl, q26360⟩ := correctorlaw6_Text_ok F hSr26356.preL q24449 q24451 hx26350
  have hS26355 := hSr26356.call hSc26354
  have hZ26358 := hSc26354.zle
  replace hS26355 : St _ _ _ _ _ _ [] := hS26355
  refine r_step rfl trivial (o_call hcl26353 rfl rfl rfl) ?_
  refine xe 1 [(5, v26361)] ?_
  refine sr r5_4 ?_
  refine xq 1 [(18, v26361), (5, v26361)] ?_
  obtain ⟨r26362, hx26363, hm⟩ := obind hm
  have hSr26369 : St _ _ _ _ _ _ ([] ++ []) := hS26355
  obtain ⟨v26364, h26365, Z26370, A26372, hcl26366, hSc26367, v26374, c26375, rfl, rfl, q26373⟩ := correctorref6_Tokens_ok F hSr26369.preL q26360 hx26363
  have hS26368 := hSr26369.call hSc26367
  have hZ26371 := hSc26367.zle
  replace hS26368 : St _ _ _ _ _ _ [.gs v26374 c26375 (csz api_Token)] := hS26368
  refine r_step rfl trivial (o_call hcl26366 rfl rfl rfl) ?_
  refine xe 1 [(6, v26374), (5, v26361)] ?_
  refine sr r5_5 ?_
  refine xq 2 [(21, v26374), (20, v26361), (6, v26374)] ?_
  obtain ⟨Z26376, hZ26377, q26378, hS26379⟩ := (hS26368.front 0 rfl).freeze q26373
  replace hS26379 : St _ _ _ _ _ _ [] := hS26379
  obtain ⟨r26380, hx26381, hm⟩ := obind hm
  have hSr26387 : St _ _ _ _ _ _ ([] ++ []) := hS26379
  obtain ⟨v26382, h26383, Z26388, A26390, hcl26384, hSc26385, v26392, c26393, rfl, rfl, q26391⟩ := rows_Rows_ok F hSr26387.preL (q26360.mono (hZ26371.trans hZ26377)) q26378 hx26381
  have hS26386 := hSr26387.call hSc26385
  have hZ26389 := hSc26385.zle
  replace hS26386 : St _ _ _ _ _ _ [.gs v26392 c26393 (csz api_Row)] := hS26386
  refine r_step rfl trivial (o_call hcl26384 rfl rfl rfl) ?_
  refine xe 1 [(7, v26392), (6, v26374)] ?_
  refine sr r5_6 ?_
  refine xe 1 [(8, V 0), (7, v26392), (6, v26374)] ?_
  refine sq ?_
  refine sr r5_7 ?_
  refine xe 1 [(9, V 0), (8, V 0), (7, v26392), (6, v26374)] ?_
  obtain ⟨o28190, ho28189, hm⟩ := obind hm
  refine W_join [6, 8] (fun l h => ∃ Z28805 : Zn, ∃ x28806 : List api_Token, ∃ x28809 : Int, ∃ v28808 : Value, .inl (x28806, x28809) = o28190 ∧ RS (α := api_Token) Z28805 v28808 x28806 ∧ l = [(6, v28808), (8, V x28809)] ∧ St hs [] Z (0, 0) Z28805 h []) ?_ ?_
  rintro l h28810 ⟨Z28805, x28806, x28809, v28808, rfl, q28807, rfl, hS28811⟩
  try dsimp only at hm
  refine sr r5_23 ?_
  refine xq 2 [(126, v28808), (125, V x28809)] ?_
  refine r_step rfl trivial (o_len rfl (RS.len q28807) ⟨_, Go.Proofs.Try.underlying27⟩) ?_
  rcases ifs hm with ⟨hp28812, hm⟩ | ⟨hp28812, hm⟩
  refine r_step rfl trivial (o_cmp rfl rfl (c_eql_T hp28812)) ?_
  refine xe 1 [(4, .bool true)] ?_
  refine rt ?_
  refine ⟨rfl, ?_⟩
  obtain rfl := Option.some.inj hm
  refine ⟨_, _, _, ResL.tmp rfl (ResL.nil), hS28811, ?_⟩
  exact rfl
  refine r_step rfl trivial (o_cmp rfl rfl (c_eql_F hp28812)) ?_
  refine xe 1 [(4, .bool false)] ?_
  refine rt ?_
  refine ⟨rfl, ?_⟩
  obtain rfl := Option.some.inj hm
  refine ⟨_, _, _, ResL.tmp rfl (ResL.nil), hS28811, ?_⟩
  exact rfl
  refine bk 0 ?_
  refine lp [6, 7, 8, 9] (fun n l h => ∃ Z28191 : Zn, ∃ x28192 : List api_Token, ∃ x28195 : List api_Row, ∃ x28199 : Int, ∃ x28200 : Int, ∃ v28194 : Value, ∃ v28197 : Value, ∃ c28198 : List Value, correctorlaw9_RowsTile_l0 F a0 a1 n x28192 x28195 x28199 x28200 = some o28190 ∧ RS (α := api_Token) Z28191 v28194 x28192 ∧ RCs (α := api_Row) Z28191 c28198 x28195 ∧ l = [(6, v28194), (7, v28197), (8, V x28199), (9, V x28200)] ∧ St hs [] Z (0, 0) Z28191 h [.gs v28197 c28198 (csz api_Row)]) F ⟨_, r26362, r26380, 0, 0, v26374, v26392, c26393, ho28189, (q26378.mono hZ26389), q26391, rfl, hS26386⟩ ?_
  rintro n28203 l h28201 ⟨Z28191, x28192, x28195, x28199, x28200, v28194, v28197, c28198, ho28189, q28193, q28196, rfl, hS28202⟩
  rcases n28203 with _ | n28203
  cases (show none = some o28190 from ho28189)
  rw [correctorlaw9_RowsTile_l0] at ho28189
  refine sq ?_
  refine sr r5_8 ?_
  refine xq 2 [(24, v28197), (23, V x28200), (6, v28194), (7, v28197), (8, V x28199), (9, V x28200)] ?_
  refine r_step rfl trivial (o_len rfl (hS28202.glen (i := 0) rfl q28196) ⟨_, Go.Proofs.Try.underlying29⟩) ?_
  rcases ifs ho28189 with ⟨hp28206, ho28189⟩ | ⟨hp28206, ho28189⟩
  refine r_step rfl trivial (o_cmp rfl rfl (c_lss_T hp28206)) ?_
  refine xf [(26, .bool true), (6, v28194), (7, v28197), (8, V x28199), (9, V x28200)] ?_
  refine kT 26 rfl ?_
  refine sq ?_
  refine bk 1 ?_
  refine sq ?_
  refine sr r5_10 ?_
  refine xq 2 [(30, V x28200), (29, v28197), (6, v28194), (7, v28197), (8, V x28199), (9, V x28200)] ?_
  obtain ⟨hc28255, ho28189⟩ := chk ho28189
  refine r_step rfl trivial (o_index rfl rfl (by kernel_rfl : slTy _ _ = some (csz api_Row)) (hS28202.gbased (j := 0) rfl q28196 (by omega)) hc28255.1 hc28255.2) ?_
  refine xq 1 [(32, .pointer (some (elemA v28197 x28200 (csz api_Row) 1))), (6, v28194), (7, v28197), (8, V x28199), (9, V x28200)] ?_
  obtain ⟨x28256, hx28257, ho28189⟩ := obind ho28189
  obtain ⟨cs28258, hc28259, he28260, ht28261⟩ := hS28202.gel (j := 0) rfl q28196 (i := x28200) hx28257
  obtain rfl := rc_api_Row hc28259
  refine r_step rfl trivial (o_lde (w := V x28256.From) he28260 rfl (by kernel_rfl)) ?_
  refine xq 1 [(34, V x28199), (33, V x28256.From), (6, v28194), (7, v28197), (8, V x28199), (9, V x28200)] ?_
  rcases ifs ho28189 with ⟨hp28262, ho28189⟩ | ⟨hp28262, ho28189⟩
  refine r_step rfl trivial (o_cmp rfl rfl (c_neq_F hp28262)) ?_
  refine xq 3 [(38, V x28200), (37, v28197), (36, .bool false), (6, v28194), (7, v28197), (8, V x28199), (9, V x28200)] ?_
  obtain ⟨hc28263, ho28189⟩ := chk ho28189
  refine r_step rfl rfl (o_index rfl rfl (by kernel_rfl : slTy _ _ = some (csz api_Row)) (hS28202.gbased (j := 0) rfl q28196 (by omega)) hc28263.1 hc28263.2) ?_
  refine xq 1 [(40, .pointer (some (elemA v28197 x28200 (csz api_Row) 2))), (36, .bool false), (6, v28194), (7, v28197), (8, V x28199), (9, V x28200)] ?_
  obtain ⟨x28264, hx28265, ho28189⟩ := obind ho28189
  obtain ⟨cs28266, hc28267, he28268, ht28269⟩ := hS28202.gel (j := 0) rfl q28196 (i := x28200) hx28265
  obtain rfl := rc_api_Row hc28267
  refine r_step rfl rfl (o_lde (w := V x28264.To) he28268 rfl (by kernel_rfl)) ?_
  refine xq 1 [(42, V x28199), (41, V x28264.To), (36, .bool false), (6, v28194), (7, v28197), (9, V x28200)] ?_
  rcases ifs ho28189 with ⟨hp28270, ho28189⟩ | ⟨hp28270, ho28189⟩
  refine r_step rfl rfl (o_cmp rfl rfl (c_leq_T hp28270)) ?_
  refine xe 11 [(54, .bool true), (6, v28194), (7, v28197), (9, V x28200)] ?_
  refine cT 54 rfl ?_
  refine sr r5_11 ?_
  refine xe 1 [(4, .bool false)] ?_
  refine rt ?_
  refine blkX_ret ?_
  refine blkX_ret ?_
  refine ⟨rfl, ?_⟩
  obtain rfl := Option.some.inj ho28189
  obtain rfl := Option.some.inj hm
  refine ⟨_, _, _, ResL.tmp rfl (ResL.nil), hS28202, ?_⟩
  exact rfl
  refine r_step rfl rfl (o_cmp rfl rfl (c_leq_F hp28270)) ?_
  refine xq 4 [(47, V x28200), (46, v28197), (45, .bool false), (6, v28194), (7, v28197), (9, V x28200)] ?_
  obtain ⟨hc28271, ho28189⟩ := chk ho28189
  refine r_step rfl rfl (o_index rfl rfl (by kernel_rfl : slTy _ _ = some (csz api_Row)) (hS28202.gbased (j := 0) rfl q28196 (by omega)) hc28271.1 hc28271.2) ?_
  refine xq 1 [(49, .pointer (some (elemA v28197 x28200 (csz api_Row) 2))), (45, .bool false), (6, v28194), (7, v28197), (9, V x28200)] ?_
  obtain ⟨x28272, hx28273, ho28189⟩ := obind ho28189
  obtain ⟨cs28274, hc28275, he28276, ht28277⟩ := hS28202.gel (j := 0) rfl q28196 (i := x28200) hx28273
  obtain rfl := rc_api_Row hc28275
  refine r_step rfl rfl (o_lde (w := V x28272.To) he28276 rfl (by kernel_rfl)) ?_
  refine xq 1 [(51, v28194), (50, V x28272.To), (45, .bool false), (6, v28194), (7, v28197), (9, V x28200)] ?_
  refine r_step rfl rfl (o_len rfl (RS.len q28193) ⟨_, Go.Proofs.Try.underlying27⟩) ?_
  rcases ifs ho28189 with ⟨hp28278, ho28189⟩ | ⟨hp28278, ho28189⟩
  refine r_step rfl rfl (o_cmp rfl rfl (c_gtr_T hp28278)) ?_
  refine xe 1 [(54, .bool true), (6, v28194), (7, v28197), (9, V x28200)] ?_
  refine cT 54 rfl ?_
  refine sr r5_11 ?_
  refine xe 1 [(4, .bool false)] ?_
  refine rt ?_
  refine blkX_ret ?_
  refine blkX_ret ?_
  refine ⟨rfl, ?_⟩
  obtain rfl := Option.some.inj ho28189
  obtain rfl := Option.some.inj hm
  refine ⟨_, _, _, ResL.tmp rfl (ResL.nil), hS28202, ?_⟩
  exact rfl
  refine r_step rfl rfl (o_cmp rfl rfl (c_gtr_F hp28278)) ?_
  refine xe 1 [(54, .bool false), (6, v28194), (7, v28197), (9, V x28200)] ?_
  refine kF 54 rfl ?_
  refine sr r5_12 ?_
  refine xq 3 [(57, V x28200), (56, v28197), (55, v28194), (6, v28194), (7, v28197), (9, V x28200)] ?_
  obtain ⟨hc28279, ho28189⟩ := chk ho28189
  refine r_step rfl trivial (o_index rfl rfl (by kernel_rfl : slTy _ _ = some (csz api_Row)) (hS28202.gbased (j := 0) rfl q28196 (by omega)) hc28279.1 hc28279.2) ?_
  refine xq 1 [(59, .pointer (some (elemA v28197 x28200 (csz api_Row) 2))), (55, v28194), (6, v28194), (7, v28197), (9, V x28200)] ?_
  obtain ⟨x28280, hx28281, ho28189⟩ := obind ho28189
  obtain ⟨cs28282, hc28283, he28284, ht28285⟩ := hS28202.gel (j := 0) rfl q28196 (i := x28200) hx28281
  obtain rfl := rc_api_Row hc28283
  refine r_step rfl trivial (o_lde (w := V x28280.To) he28284 rfl (by kernel_rfl)) ?_
  refine xq 1 [(61, V (w64 (x28280.To - 1))), (55, v28194), (6, v28194), (7, v28197), (9, V x28200)] ?_
  obtain ⟨hc28286, ho28189⟩ := chk ho28189
  refine r_step rfl trivial (o_index rfl rfl (by kernel_rfl : slTy _ _ = some (csz api_Token)) (RS.based q28193 (by omega)) hc28286.1 hc28286.2) ?_
  refine xq 1 [(63, .pointer (some (elemA v28194 (w64 (x28280.To - 1)) (csz api_Token) 0))), (6, v28194), (7, v28197), (9, V x28200)] ?_
  obtain ⟨x28287, hx28288, ho28189⟩ := obind ho28189
  obtain ⟨cs28289, hc28290, he28291⟩ := RS.elz q28193 (i := w64 (x28280.To - 1)) hx28288
  obtain rfl := rc_api_Token hc28290
  refine r_step rfl trivial (o_lde (w := V x28287.Kind) (he28291 _ (hS28202.zin0 (Zle.refl _))) rfl (by kernel_rfl)) ?_
  refine xe 1 [(10, V x28287.Kind), (6, v28194), (7, v28197), (9, V x28200)] ?_
  refine sq ?_
  obtain ⟨o28297, ho28296, ho28189⟩ := obind ho28189
  refine W_join [6, 7, 9] (fun l h => ∃ Z28301 : Zn, ∃ x28302 : List api_Token, ∃ x28305 : List api_Row, ∃ v28304 : Value, ∃ v28307 : Value, ∃ c28308 : List Value, .inl (x28302, x28305) = o28297 ∧ RS (α := api_Token) Z28301 v28304 x28302 ∧ RCs (α := api_Row) Z28301 c28308 x28305 ∧ l = [(6, v28304), (7, v28307), (9, V x28200)] ∧ St hs [] Z (0, 0) Z28301 h [.gs v28307 c28308 (csz api_Row)]) ?_ ?_
  rintro l h28309 ⟨Z28301, x28302, x28305, v28304, v28307, c28308, rfl, q28303, q28306, rfl, hS28310⟩
  try dsimp only at ho28189
  refine sr r5_15 ?_
  refine xe 1 [(11, .bool false), (6, v28304), (7, v28307), (9, V x28200)] ?_
  refine sq ?_
  refine sr r5_16 ?_
  refine xq 2 [(79, V x28200), (78, v28307), (11, .bool false), (6, v28304), (7, v28307), (9, V x28200)] ?_
  obtain ⟨hc28457, ho28189⟩ := chk ho28189
  refine r_step rfl trivial (o_index rfl rfl (by kernel_rfl : slTy _ _ = some (csz api_Row)) (hS28310.gbased (j := 0) rfl q28306 (by omega)) hc28457.1 hc28457.2) ?_
  refine xq 1 [(81, .pointer (some (elemA v28307 x28200 (csz api_Row) 1))), (11, .bool false), (6, v28304), (7, v28307), (9, V x28200)] ?_
  obtain ⟨x28458, hx28459, ho28189⟩ := obind ho28189
  obtain ⟨cs28460, hc28461, he28462, ht28463⟩ := hS28310.gel (j := 0) rfl q28306 (i := x28200) hx28459
  obtain rfl := rc_api_Row hc28461
  refine r_step rfl trivial (o_lde (w := V x28458.From) he28462 rfl (by kernel_rfl)) ?_
  refine xe 1 [(12, V x28458.From), (11, .bool false), (6, v28304), (7, v28307), (9, V x28200)] ?_
  obtain ⟨o28592, ho28591, ho28189⟩ := obind ho28189
  refine W_join [6, 7, 9, 11] (fun l h => ∃ Z28691 : Zn, ∃ x28692 : List api_Token, ∃ x28695 : List api_Row, ∃ x28699 : Int, ∃ x28700 : Bool, ∃ v28694 : Value, ∃ v28697 : Value, ∃ c28698 : List Value, (x28692, x28695, x28699, x28700) = o28592 ∧ RS (α := api_Token) Z28691 v28694 x28692 ∧ RCs (α := api_Row) Z28691 c28698 x28695 ∧ l = [(6, v28694), (7, v28697), (9, V x28699), (11, .bool x28700)] ∧ St hs [] Z (0, 0) Z28691 h [.gs v28697 c28698 (csz api_Row)]) ?_ ?_
  rintro l h28701 ⟨Z28691, x28692, x28695, x28699, x28700, v28694, v28697, c28698, rfl, q28693, q28696, rfl, hS28702⟩
  try dsimp only at ho28189
  refine sq ?_
  obtain ⟨o28732, ho28731, ho28189⟩ := obind ho28189
  refine W_seqJoin0 [6, 7, 9] (fun l h => ∃ Z28761 : Zn, ∃ x28762 : List api_Token, ∃ x28765 : List api_Row, ∃ v28764 : Value, ∃ v28767 : Value, ∃ c28768 : List Value, .inl (x28762, x28765) = o28732 ∧ RS (α := api_Token) Z28761 v28764 x28762 ∧ RCs (α := api_Row) Z28761 c28768 x28765 ∧ l = [(6, v28764), (7, v28767), (9, V x28699)] ∧ St hs [] Z (0, 0) Z28761 h [.gs v28767 c28768 (csz api_Row)]) (by kernel_rfl) ?_ ?_
  rintro l h28769 ⟨Z28761, x28762, x28765, v28764, v28767, c28768, rfl, q28763, q28766, rfl, hS28770⟩
  try dsimp only at ho28189
  refine rg r5_22 ?_
  refine xq 2 [(121, V x28699), (120, v28767), (6, v28764), (7, v28767), (9, V x28699)] ?_
  obtain ⟨hc28771, ho28189⟩ := chk ho28189
  refine r_step rfl trivial (o_index rfl rfl (by kernel_rfl : slTy _ _ = some (csz api_Row)) (hS28770.gbased (j := 0) rfl q28766 (by omega)) hc28771.1 hc28771.2) ?_
  refine xq 1 [(123, .pointer (some (elemA v28767 x28699 (csz api_Row) 2))), (6, v28764), (7, v28767), (9, V x28699)] ?_
  obtain ⟨x28772, hx28773, ho28189⟩ := obind ho28189
  obtain ⟨cs28774, hc28775, he28776, ht28777⟩ := hS28770.gel (j := 0) rfl q28766 (i := x28699) hx28773
  obtain rfl := rc_api_Row hc28775
  refine r_step rfl trivial (o_lde (w := V x28772.To) he28776 rfl (by kernel_rfl)) ?_
  refine xe 1 [(8, V x28772.To), (6, v28764), (7, v28767), (9, V x28699)] ?_
  refine rg r5_9 ?_
  refine xe 3 [(9, V (w64 (x28699 + 1))), (8, V x28772.To), (6, v28764), (7, v28767)] ?_
  exact ⟨n28203, Nat.lt_succ_self _, ⟨_, x28762, x28765, x28772.To, w64 (x28699 + 1), v28764, v28767, c28768, ho28189, q28763, q28766, rfl, hS28770⟩⟩
  refine rg r5_20 ?_
  refine xq 3 [(103, V x28699), (102, v28697), (101, .bool x28700), (6, v28694), (7, v28697), (9, V x28699), (11, .bool x28700)] ?_
  obtain ⟨hc28733, ho28731⟩ := chk ho28731
  refine r_step rfl trivial (o_index rfl rfl (by kernel_rfl : slTy _ _ = some (csz api_Row)) (hS28702.gbased (j := 0) rfl q28696 (by omega)) hc28733.1 hc28733.2) ?_
  refine xq 1 [(105, .pointer (some (elemA v28697 x28699 (csz api_Row) 3))), (101, .bool x28700), (6, v28694), (7, v28697), (9, V x28699), (11, .bool x28700)] ?_
  obtain ⟨x28734, hx28735, ho28731⟩ := obind ho28731
  obtain ⟨cs28736, hc28737, he28738, ht28739⟩ := hS28702.gel (j := 0) rfl q28696 (i := x28699) hx28735
  obtain rfl := rc_api_Row hc28737
  refine r_step rfl trivial (o_lde (w := V x28734.Col) he28738 rfl (by kernel_rfl)) ?_
  rcases ifs ho28731 with ⟨hp28740, ho28731⟩ | ⟨hp28740, ho28731⟩
  refine r_step rfl trivial (o_cmp rfl rfl (c_geq_T hp28740)) ?_
  rcases ifs ho28731 with ⟨hp28741, ho28731⟩ | ⟨hp28741, ho28731⟩
  refine r_setb (t := 101) rfl hp28741 ?_
  refine r_step rfl trivial (o_cmp (w := false) rfl rfl (by kernel_rfl)) ?_
  refine xq 3 [(111, V x28699), (110, v28697), (109, .bool false), (6, v28694), (7, v28697), (9, V x28699), (11, .bool x28700)] ?_
  obtain ⟨hc28742, ho28731⟩ := chk ho28731
  refine r_step rfl rfl (o_index rfl rfl (by kernel_rfl : slTy _ _ = some (csz api_Row)) (hS28702.gbased (j := 0) rfl q28696 (by omega)) hc28742.1 hc28742.2) ?_
  refine xq 1 [(113, .pointer (some (elemA v28697 x28699 (csz api_Row) 0))), (109, .bool false), (6, v28694), (7, v28697), (9, V x28699), (11, .bool x28700)] ?_
  obtain ⟨x28743, hx28744, ho28731⟩ := obind ho28731
  obtain ⟨cs28745, hc28746, he28747, ht28748⟩ := hS28702.gel (j := 0) rfl q28696 (i := x28699) hx28744
  obtain rfl := rc_api_Row hc28746
  refine r_step rfl rfl (o_lde (w := V x28743.Kind) he28747 rfl (by kernel_rfl)) ?_
  rcases ifs ho28731 with ⟨hp28749, ho28731⟩ | ⟨hp28749, ho28731⟩
  refine r_step rfl rfl (o_cmp rfl rfl (c_eql_T hp28749)) ?_
  refine xe 4 [(119, .bool x28700), (6, v28694), (7, v28697), (9, V x28699)] ?_
  rcases ifs ho28731 with ⟨hp28750, ho28731⟩ | ⟨hp28750, ho28731⟩
  refine W_condT (x := .tmp 119) (by kernel_rfl) rfl hp28750 ?_
  refine sr r5_21 ?_
  refine xe 1 [(4, .bool false)] ?_
  refine rt ?_
  refine blkX_ret ?_
  refine blkX_ret ?_
  refine ⟨rfl, ?_⟩
  obtain rfl := Option.some.inj ho28731
  obtain rfl := Option.some.inj ho28189
  obtain rfl := Option.some.inj hm
  refine ⟨_, _, _, ResL.tmp rfl (ResL.nil), hS28702, ?_⟩
  exact rfl
  refine W_condF (x := .tmp 119) (by kernel_rfl) rfl (Bool.eq_false_iff.2 hp28750) ?_
  refine sk ?_
  obtain rfl := Option.some.inj ho28731
  exact ⟨_, x28692, x28695, v28694, v28697, c28698, rfl, q28693, q28696, rfl, hS28702⟩
  refine r_step rfl rfl (o_cmp rfl rfl (c_eql_F hp28749)) ?_
  refine xe 4 [(119, .bool false), (6, v28694), (7, v28697), (9, V x28699)] ?_
  refine kF 119 rfl ?_
  obtain rfl := Option.some.inj ho28731
  exact ⟨_, x28692, x28695, v28694, v28697, c28698, rfl, q28693, q28696, rfl, hS28702⟩
  refine r_setb (t := 101) rfl (Bool.eq_false_iff.2 hp28741) ?_
  refine r_step rfl trivial (o_cmp (w := true) rfl rfl (by kernel_rfl)) ?_
  refine xe 11 [(119, .bool true), (6, v28694), (7, v28697), (9, V x28699)] ?_
  refine cT 119 rfl ?_
  refine sr r5_21 ?_
  refine xe 1 [(4, .bool false)] ?_
  refine rt ?_
  refine blkX_ret ?_
  refine blkX_ret ?_
  refine ⟨rfl, ?_⟩
  obtain rfl := Option.some.inj ho28731
  obtain rfl := Option.some.inj ho28189
  obtain rfl := Option.some.inj hm
  refine ⟨_, _, _, ResL.tmp rfl (ResL.nil), hS28702, ?_⟩
  exact rfl
  refine r_step rfl trivial (o_cmp rfl rfl (c_geq_F hp28740)) ?_
  rcases ifs ho28731 with ⟨hp28751, ho28731⟩ | ⟨hp28751, ho28731⟩
  refine r_setb (t := 101) rfl hp28751 ?_
  refine r_step rfl trivial (o_cmp (w := true) rfl rfl (by kernel_rfl)) ?_
  refine xe 11 [(119, .bool true), (6, v28694), (7, v28697), (9, V x28699)] ?_
  refine cT 119 rfl ?_
  refine sr r5_21 ?_
  refine xe 1 [(4, .bool false)] ?_
  refine rt ?_
  refine blkX_ret ?_
  refine blkX_ret ?_
  refine ⟨rfl, ?_⟩
  obtain rfl := Option.some.inj ho28731
  obtain rfl := Option.some.inj ho28189
  obtain rfl := Option.some.inj hm
  refine ⟨_, _, _, ResL.tmp rfl (ResL.nil), hS28702, ?_⟩
  exact rfl
  refine r_setb (t := 101) rfl (Bool.eq_false_iff.2 hp28751) ?_
  refine r_step rfl trivial (o_cmp (w := false) rfl rfl (by kernel_rfl)) ?_
  refine xq 3 [(111, V x28699), (110, v28697), (109, .bool false), (6, v28694), (7, v28697), (9, V x28699), (11, .bool x28700)] ?_
  obtain ⟨hc28752, ho28731⟩ := chk ho28731
  refine r_step rfl rfl (o_index rfl rfl (by kernel_rfl : slTy _ _ = some (csz api_Row)) (hS28702.gbased (j := 0) rfl q28696 (by omega)) hc28752.1 hc28752.2) ?_
  refine xq 1 [(113, .pointer (some (elemA v28697 x28699 (csz api_Row) 0))), (109, .bool false), (6, v28694), (7, v28697), (9, V x28699), (11, .bool x28700)] ?_
  obtain ⟨x28753, hx28754, ho28731⟩ := obind ho28731
  obtain ⟨cs28755, hc28756, he28757, ht28758⟩ := hS28702.gel (j := 0) rfl q28696 (i := x28699) hx28754
  obtain rfl := rc_api_Row hc28756
  refine r_step rfl rfl (o_lde (w := V x28753.Kind) he28757 rfl (by kernel_rfl)) ?_
  rcases ifs ho28731 with ⟨hp28759, ho28731⟩ | ⟨hp28759, ho28731⟩
  refine r_step rfl rfl (o_cmp rfl rfl (c_eql_T hp28759)) ?_
  refine xe 4 [(119, .bool x28700), (6, v28694), (7, v28697), (9, V x28699)] ?_
  rcases ifs ho28731 with ⟨hp28760, ho28731⟩ | ⟨hp28760, ho28731⟩
  refine W_condT (x := .tmp 119) (by kernel_rfl) rfl hp28760 ?_
  refine sr r5_21 ?_
  refine xe 1 [(4, .bool false)] ?_
  refine rt ?_
  refine blkX_ret ?_
  refine blkX_ret ?_
  refine ⟨rfl, ?_⟩
  obtain rfl := Option.some.inj ho28731
  obtain rfl := Option.some.inj ho28189
  obtain rfl := Option.some.inj hm
  refine ⟨_, _, _, ResL.tmp rfl (ResL.nil), hS28702, ?_⟩
  exact rfl
  refine W_condF (x := .tmp 119) (by kernel_rfl) rfl (Bool.eq_false_iff.2 hp28760) ?_
  refine sk ?_
  obtain rfl := Option.some.inj ho28731
  exact ⟨_, x28692, x28695, v28694, v28697, c28698, rfl, q28693, q28696, rfl, hS28702⟩
  refine r_step rfl rfl (o_cmp rfl rfl (c_eql_F hp28759)) ?_
  refine xe 4 [(119, .bool false), (6, v28694), (7, v28697), (9, V x28699)] ?_
  refine kF 119 rfl ?_
  obtain rfl := Option.some.inj ho28731
  exact ⟨_, x28692, x28695, v28694, v28697, c28698, rfl, q28693, q28696, rfl, hS28702⟩
  refine bk 2 ?_
  refine lp [6, 7, 9, 11, 12] (fun n l h => ∃ Z28593 : Zn, ∃ x28594 : List api_Token, ∃ x28597 : List api_Row, ∃ x28601 : Int, ∃ x28602 : Bool, ∃ x28603 : Int, ∃ v28596 : Value, ∃ v28599 : Value, ∃ c28600 : List Value, correctorlaw9_RowsTile_l1 F a0 a1 n x28594 x28597 x28601 x28602 x28603 = some o28592 ∧ RS (α := api_Token) Z28593 v28596 x28594 ∧ RCs (α := api_Row) Z28593 c28600 x28597 ∧ l = [(6, v28596), (7, v28599), (9, V x28601), (11, .bool x28602), (12, V x28603)] ∧ St hs [] Z (0, 0) Z28593 h [.gs v28599 c28600 (csz api_Row)]) F ⟨_, x28302, x28305, x28200, false, x28458.From, v28304, v28307, c28308, ho28591, q28303, q28306, rfl, hS28310⟩ ?_
  rintro n28606 l h28604 ⟨Z28593, x28594, x28597, x28601, x28602, x28603, v28596, v28599, c28600, ho28591, q28595, q28598, rfl, hS28605⟩
  rcases n28606 with _ | n28606
  cases (show none = some o28592 from ho28591)
  rw [correctorlaw9_RowsTile_l1] at ho28591
  refine sq ?_
  refine sr r5_17 ?_
  refine xq 3 [(85, V x28601), (84, v28599), (83, V x28603), (6, v28596), (7, v28599), (9, V x28601), (11, .bool x28602), (12, V x28603)] ?_
  obtain ⟨hc28623, ho28591⟩ := chk ho28591
  refine r_step rfl trivial (o_index rfl rfl (by kernel_rfl : slTy _ _ = some (csz api_Row)) (hS28605.gbased (j := 0) rfl q28598 (by omega)) hc28623.1 hc28623.2) ?_
  refine xq 1 [(87, .pointer (some (elemA v28599 x28601 (csz api_Row) 2))), (83, V x28603), (6, v28596), (7, v28599), (9, V x28601), (11, .bool x28602), (12, V x28603)] ?_
  obtain ⟨x28624, hx28625, ho28591⟩ := obind ho28591
  obtain ⟨cs28626, hc28627, he28628, ht28629⟩ := hS28605.gel (j := 0) rfl q28598 (i := x28601) hx28625
  obtain rfl := rc_api_Row hc28627
  refine r_step rfl trivial (o_lde (w := V x28624.To) he28628 rfl (by kernel_rfl)) ?_
  rcases ifs ho28591 with ⟨hp28630, ho28591⟩ | ⟨hp28630, ho28591⟩
  refine r_step rfl trivial (o_cmp rfl rfl (c_lss_T hp28630)) ?_
  refine xf [(89, .bool true), (6, v28596), (7, v28599), (9, V x28601), (11, .bool x28602), (12, V x28603)] ?_
  refine kT 89 rfl ?_
  refine sq ?_
  refine bk 3 ?_
  obtain ⟨o28647, ho28646, ho28591⟩ := obind ho28591
  refine W_join [6, 7, 9, 11, 12] (fun l h => ∃ Z28663 : Zn, ∃ x28664 : List api_Token, ∃ x28667 : List api_Row, ∃ x28671 : Bool, ∃ v28666 : Value, ∃ v28669 : Value, ∃ c28670 : List Value, (x28664, x28667, x28671) = o28647 ∧ RS (α := api_Token) Z28663 v28666 x28664 ∧ RCs (α := api_Row) Z28663 c28670 x28667 ∧ l = [(6, v28666), (7, v28669), (9, V x28601), (11, .bool x28671), (12, V x28603)] ∧ St hs [] Z (0, 0) Z28663 h [.gs v28669 c28670 (csz api_Row)]) ?_ ?_
  rintro l h28672 ⟨Z28663, x28664, x28667, x28671, v28666, v28669, c28670, rfl, q28665, q28668, rfl, hS28673⟩
  try dsimp only at ho28591
  refine rg r5_18 ?_
  refine xe 3 [(12, V (w64 (x28603 + 1))), (6, v28666), (7, v28669), (9, V x28601), (11, .bool x28671)] ?_
  exact ⟨n28606, Nat.lt_succ_self _, ⟨_, x28664, x28667, x28601, x28671, w64 (x28603 + 1), v28666, v28669, c28670, ho28591, q28665, q28668, rfl, hS28673⟩⟩
  refine rg r5_19 ?_
  refine xq 2 [(93, .bool x28602), (6, v28596), (7, v28599), (9, V x28601), (11, .bool x28602), (12, V x28603)] ?_
  rcases ifs ho28646 with ⟨hp28648, ho28646⟩ | ⟨hp28648, ho28646⟩
  refine r_setb (t := 93) rfl hp28648 ?_
  refine xe 8 [(11, .bool true), (6, v28596), (7, v28599), (9, V x28601), (12, V x28603)] ?_
  obtain rfl := Option.some.inj ho28646
  exact ⟨_, x28594, x28597, true, v28596, v28599, c28600, rfl, q28595, q28598, rfl, hS28605⟩
  refine r_setb (t := 93) rfl (Bool.eq_false_iff.2 hp28648) ?_
  refine xq 2 [(95, V x28603), (94, v28596), (93, .bool false), (6, v28596), (7, v28599), (9, V x28601), (11, .bool x28602), (12, V x28603)] ?_
  obtain ⟨hc28649, ho28646⟩ := chk ho28646
  refine r_step rfl rfl (o_index rfl rfl (by kernel_rfl : slTy _ _ = some (csz api_Token)) (RS.based q28595 (by omega)) hc28649.1 hc28649.2) ?_
  refine xq 1 [(97, .pointer (some (elemA v28596 x28603 (csz api_Token) 0))), (93, .bool false), (6, v28596), (7, v28599), (9, V x28601), (11, .bool x28602), (12, V x28603)] ?_
  obtain ⟨x28650, hx28651, ho28646⟩ := obind ho28646
  obtain ⟨cs28652, hc28653, he28654⟩ := RS.elz q28595 (i := x28603) hx28651
  obtain rfl := rc_api_Token hc28653
  refine r_step rfl rfl (o_lde (w := V x28650.Kind) (he28654 _ (hS28605.zin0 (Zle.refl _))) rfl (by kernel_rfl)) ?_
  obtain ⟨r28656, hx28657, ho28646⟩ := obind ho28646
  obtain ⟨v28658, h28659, hcl28660, hSc28661, rfl⟩ := correctorref6_Counts_ok F hS28605.inv  hx28657
  have hS28662 := St.call (A := []) (B := [.gs v28599 c28600 (csz api_Row)]) hS28605 hSc28661
  replace hS28662 : St _ _ _ _ _ _ [.gs v28599 c28600 (csz api_Row)] := hS28662
  refine r_step rfl rfl (o_call hcl28660 rfl rfl rfl) ?_
  refine xe 2 [(11, .bool r28656), (6, v28596), (7, v28599), (9, V x28601), (12, V x28603)] ?_
  obtain rfl := Option.some.inj ho28646
  exact ⟨_, x28594, x28597, r28656, v28596, v28599, c28600, rfl, q28595, q28598, rfl, hS28662⟩
  refine r_step rfl trivial (o_cmp rfl rfl (c_lss_F hp28630)) ?_
  refine xf [(89, .bool false), (6, v28596), (7, v28599), (9, V x28601), (11, .bool x28602), (12, V x28603)] ?_
  refine cF 89 rfl ?_
  refine xt 2 ?_
  refine blkX_hit ?_
  obtain rfl := Option.some.inj ho28591
  exact ⟨_, x28594, x28597, x28601, x28602, v28596, v28599, c28600, rfl, q28595, q28598, rfl, hS28605⟩
  refine sr r5_13 ?_
  refine xq 3 [(67, v28197), (66, V (w64 (x28200 + 1))), (10, V x28287.Kind), (6, v28194), (7, v28197), (9, V x28200)] ?_
  refine r_step rfl trivial (o_len rfl (hS28202.glen (i := 0) rfl q28196) ⟨_, Go.Proofs.Try.underlying29⟩) ?_
  rcases ifs ho28296 with ⟨hp28298, ho28296⟩ | ⟨hp28298, ho28296⟩
  refine r_step rfl trivial (o_cmp rfl rfl (c_lss_T hp28298)) ?_
  refine xq 2 [(71, V x28287.Kind), (70, .bool true), (10, V x28287.Kind), (6, v28194), (7, v28197), (9, V x28200)] ?_
  rcases ifs ho28296 with ⟨hp28299, ho28296⟩ | ⟨hp28299, ho28296⟩
  refine r_step rfl rfl (o_cmp rfl rfl (c_neq_F hp28299)) ?_
  refine xe 5 [(77, .bool false), (6, v28194), (7, v28197), (9, V x28200)] ?_
  refine kF 77 rfl ?_
  obtain rfl := Option.some.inj ho28296
  exact ⟨_, x28192, x28195, v28194, v28197, c28198, rfl, q28193, q28196, rfl, hS28202⟩
  refine r_step rfl rfl (o_cmp rfl rfl (c_neq_T hp28299)) ?_
  refine xq 3 [(75, V x28287.Kind), (74, .bool true), (6, v28194), (7, v28197), (9, V x28200)] ?_
  rcases ifs ho28296 with ⟨hp28300, ho28296⟩ | ⟨hp28300, ho28296⟩
  refine r_step rfl rfl (o_cmp rfl rfl (c_neq_F hp28300)) ?_
  refine xe 1 [(77, .bool false), (6, v28194), (7, v28197), (9, V x28200)] ?_
  refine kF 77 rfl ?_
  obtain rfl := Option.some.inj ho28296
  exact ⟨_, x28192, x28195, v28194, v28197, c28198, rfl, q28193, q28196, rfl, hS28202⟩
  refine r_step rfl rfl (o_cmp rfl rfl (c_neq_T hp28300)) ?_
  refine xe 1 [(77, .bool true), (6, v28194), (7, v28197), (9, V x28200)] ?_
  refine cT 77 rfl ?_
  refine sr r5_14 ?_
  refine xe 1 [(4, .bool false)] ?_
  refine rt ?_
  refine blkX_ret ?_
  refine blkX_ret ?_
  refine ⟨rfl, ?_⟩
  obtain rfl := Option.some.inj ho28296
  obtain rfl := Option.some.inj ho28189
  obtain rfl := Option.some.inj hm
  refine ⟨_, _, _, ResL.tmp rfl (ResL.nil), hS28202, ?_⟩
  exact rfl
  refine r_step rfl trivial (o_cmp rfl rfl (c_lss_F hp28298)) ?_
  refine xe 8 [(77, .bool false), (6, v28194), (7, v28197), (9, V x28200)] ?_
  refine kF 77 rfl ?_
  obtain rfl := Option.some.inj ho28296
  exact ⟨_, x28192, x28195, v28194, v28197, c28198, rfl, q28193, q28196, rfl, hS28202⟩
  refine r_step rfl trivial (o_cmp rfl rfl (c_neq_T hp28262)) ?_
  refine xe 19 [(54, .bool true), (6, v28194), (7, v28197), (9, V x28200)] ?_
  refine cT 54 rfl ?_
  refine sr r5_11 ?_
  refine xe 1 [(4, .bool false)] ?_
  refine rt ?_
  refine blkX_ret ?_
  refine blkX_ret ?_
  refine ⟨rfl, ?_⟩
  obtain rfl := Option.some.inj ho28189
  obtain rfl := Option.some.inj hm
  refine ⟨_, _, _, ResL.tmp rfl (ResL.nil), hS28202, ?_⟩
  exact rfl
  refine r_step rfl trivial (o_cmp rfl rfl (c_lss_F hp28206)) ?_
  refine xf [(26, .bool false), (6, v28194), (7, v28197), (8, V x28199), (9, V x28200)] ?_
  refine cF 26 rfl ?_
  refine xt 0 ?_
  refine blkX_hit ?_
  obtain rfl := Option.some.inj ho28189
  exact ⟨_, x28192, x28199, v28194, rfl, q28193, rfl, (hS28202.takeN 0)⟩
  refine r_setb (t := 13) rfl (Bool.eq_false_iff.2 hp26348) ?_
  refine xe 1 [(14, .bool true), (0, v24450), (1, v24452)] ?_
  refine cT 14 rfl ?_
  refine sr r5_2 ?_
  refine xe 1 [(4, .bool false)] ?_
  refine rt ?_
  refine ⟨rfl, ?_⟩
  obtain rfl := Option.some.inj hm
  refine ⟨_, _, _, ResL.tmp rfl (ResL.nil), hS26347, ?_⟩
  exact rfl

end Go.Proofs.Ytcnbcimnfeekjaa.M
