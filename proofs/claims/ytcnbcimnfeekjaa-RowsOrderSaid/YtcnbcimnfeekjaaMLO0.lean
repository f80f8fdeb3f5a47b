/- Printed by a program of this session: Go functions as Lean functions over plain data, and that the calls come to them. -/
import Derived.Test.YtcnbcimnfeekjaaSyJ
import Derived.Test.YtcnbcimnfeekjaaChecked
import Derived.KernelRfl
import Derived.Test.YtcnbcimnfeekjaaMN0
namespace Go.Proofs.Ytcnbcimnfeekjaa.M
open Go Am Sy
open Sy.Cell (rc)
set_option linter.unusedVariables false
set_option linter.unusedSimpArgs false
set_option maxRecDepth 20000

def r6_0 : List COp := [u 4 (.assign (.const (.bool false)))]
def r6_1 : List COp := [u 14 (cf 9 #[] #[]), u 15 (.unOp .not 4 (t 14))]
def r6_2 : List COp := [u 4 (.assign (.const (.bool false)))]
def r6_3 : List COp := [u 16 (.move (t 0)), u 17 (.move (t 1)), u 18 (cf 10 #[(t 16), (t 17)] #[22, 23]), u 5 (.assign (t 18))]
def r6_4 : List COp := [u 19 (.move (t 5)), u 20 (cf 11 #[(t 19)] #[23]), u 6 (.assign (t 20))]
def r6_5 : List COp := [u 21 (.move (t 6)), u 22 (cf 13 #[(t 21)] #[27]), u 7 (.assign (t 22))]
def r6_6 : List COp := [u 8 (.assign (ci 0))]
def r6_7 : List COp := [u 23 (.move (t 8)), u 24 (.move (t 7)), u 25 (cb .len #[(t 24)] #[29]), u 26 (.binOp .lss 3 (t 23) (t 25) 3)]
def r6_8 : List COp := [u 27 (.move (t 8)), u 28 (.binOp .add 3 (t 27) (ci 1) 3), u 8 (.assign (t 28))]
def r6_9 : List COp := [u 30 (.move (t 5)), u 31 (.move (t 6)), u 32 (.move (t 7)), u 33 (.move (t 8)), u 34 (.indexAddr 29 (t 32) (t 33)), u 35 (.load 33 (t 34)), u 36 (cf 14 #[(t 30), (t 31), (t 35)] #[23, 27, 33]), u 29 (.move (t 36)), u 37 (.extract (t 29) 0), u 38 (.extract (t 29) 1), u 9 (.assign (t 37)), u 10 (.assign (t 38))]
def r6_10 : List COp := [u 39 (.move (t 7)), u 40 (.move (t 8)), u 41 (.indexAddr 29 (t 39) (t 40)), u 42 (.fieldAddr 33 (t 41) 1), u 43 (.load 3 (t 42)), u 11 (.assign (t 43)), u 12 (.assign (ci (-1)))]
def r6_11 : List COp := [u 13 (.assign (ci 0))]
def r6_12 : List COp := [u 44 (.move (t 13)), u 45 (.move (t 9)), u 46 (cb .len #[(t 45)] #[35]), u 47 (.binOp .lss 3 (t 44) (t 46) 3)]
def r6_13 : List COp := [u 48 (.move (t 13)), u 49 (.binOp .add 3 (t 48) (ci 1) 3), u 13 (.assign (t 49))]
def r6_14 : List COpF := [uF 50 (.move (t 9)) .pure [], uF 51 (.move (t 13)) .pure [], uF 52 (.indexAddr 35 (t 50) (t 51)) .pure [], uF 53 (.fieldAddr 42 (t 52) 2) .pure [], uF 54 (.load 3 (t 53)) .look [], uF 55 (.move (t 11)) .pure [], uF 56 (.binOp .lss 3 (t 54) (t 55) 3) .pure [], uF 57 (.move (t 56)) .pure [], gNF 57 (some 58) (.move (t 9)) .pure [], gNF 57 (some 59) (.move (t 13)) .pure [], gNF 57 (some 60) (.indexAddr 35 (t 58) (t 59)) .pure [], gNF 57 (some 61) (.fieldAddr 42 (t 60) 3) .pure [], gNF 57 (some 62) (.load 3 (t 61)) .look [], gNF 57 (some 63) (.move (t 9)) .pure [], gNF 57 (some 64) (.move (t 13)) .pure [], gNF 57 (some 65) (.indexAddr 35 (t 63) (t 64)) .pure [], gNF 57 (some 66) (.fieldAddr 42 (t 65) 2) .pure [], gNF 57 (some 67) (.load 3 (t 66)) .look [], gNF 57 (some 68) (.binOp .leq 3 (t 62) (t 67) 3) .pure [], uF 69 (.pick (t 57) (.const (.bool true)) (t 68)) .pure [], uF 70 (.move (t 69)) .pure [], gNF 70 (some 71) (.move (t 9)) .pure [], gNF 70 (some 72) (.move (t 13)) .pure [], gNF 70 (some 73) (.indexAddr 35 (t 71) (t 72)) .pure [], gNF 70 (some 74) (.fieldAddr 42 (t 73) 1) .pure [], gNF 70 (some 75) (.load 3 (t 74)) .look [], gNF 70 (some 76) (.move (t 12)) .pure [], gNF 70 (some 77) (.binOp .leq 3 (t 75) (t 76) 3) .pure [], uF 78 (.pick (t 70) (.const (.bool true)) (t 77)) .pure [], uF 79 (.move (t 78)) .pure [], gNF 79 (some 80) (.move (t 9)) .pure [], gNF 79 (some 81) (.move (t 13)) .pure [], gNF 79 (some 82) (.indexAddr 35 (t 80) (t 81)) .pure [], gNF 79 (some 83) (.fieldAddr 42 (t 82) 0) .pure [], gNF 79 (some 84) (.load 4 (t 83)) .look [], gNF 79 (some 85) (.unOp .not 4 (t 84)) .pure [], gNF 79 (some 86) (.move (t 85)) .pure [], gTF 86 (some 87) (.move (t 13)) .pure [], gTF 86 (some 88) (.binOp .add 3 (t 87) (ci 1) 3) .pure [], gTF 86 (some 89) (.move (t 9)) .pure [], gTF 86 (some 90) (cb .len #[(t 89)] #[35]) .pure [], gTF 86 (some 91) (.binOp .lss 3 (t 88) (t 90) 3) .pure [], gNF 79 (some 92) (.pick (t 86) (t 91) (.const (.bool false))) .pure [], uF 93 (.pick (t 79) (.const (.bool true)) (t 92)) .pure []]
def r6_15 : List COp := [u 4 (.assign (.const (.bool false)))]
def r6_16 : List COpF := [uF 94 (.move (t 9)) .pure [], uF 95 (.move (t 13)) .pure [], uF 96 (.indexAddr 35 (t 94) (t 95)) .pure [], uF 97 (.fieldAddr 42 (t 96) 3) .pure [], uF 98 (.load 3 (t 97)) .look [], uF 99 (.move (t 9)) .pure [], uF 100 (.move (t 13)) .pure [], uF 101 (.indexAddr 35 (t 99) (t 100)) .pure [], uF 102 (.fieldAddr 42 (t 101) 1) .pure [], uF 103 (.load 3 (t 102)) .look [], uF 11 (.assign (t 98)) .pure [], uF 12 (.assign (t 103)) .pure []]
def r6_17 : List COp := [u 104 (.move (t 10)), u 105 (.move (t 11)), u 106 (.binOp .lss 3 (t 104) (t 105) 3), u 107 (.move (t 106)), gN 107 (some 108) (.move (t 10)), gN 107 (some 109) (.move (t 7)), gN 107 (some 110) (.move (t 8)), gN 107 (some 111) (.indexAddr 29 (t 109) (t 110)), gN 107 (some 112) (.fieldAddr 33 (t 111) 2), gN 107 (some 113) (.load 3 (t 112)), gN 107 (some 114) (.binOp .gtr 3 (t 108) (t 113) 3), u 115 (.pick (t 107) (.const (.bool true)) (t 114)), u 116 (.move (t 115)), gN 116 (some 117) (.move (t 9)), gN 116 (some 118) (cb .len #[(t 117)] #[35]), gN 116 (some 119) (.binOp .gtr 3 (t 118) (ci 0) 3), gN 116 (some 120) (.move (t 119)), gT 120 (some 121) (.move (t 10)), gT 120 (some 122) (.move (t 11)), gT 120 (some 123) (.binOp .neq 3 (t 121) (t 122) 3), gN 116 (some 124) (.pick (t 120) (t 123) (.const (.bool false))), u 125 (.pick (t 116) (.const (.bool true)) (t 124))]
def r6_18 : List COp := [u 4 (.assign (.const (.bool false)))]
def r6_19 : List COp := [u 4 (.assign (.const (.bool true)))]
def correctorlaw9_RowsOrder_l1 (F : Nat) (a0 : List Int) (a1 : List UInt8) : Nat → (List UInt8) → (List api_Token) → (List api_Row) → Int → (List rows_Entry) → Int → Int → Int → Int → Option (Sum ((List UInt8) × (List api_Token) × (List api_Row) × Int × (List rows_Entry) × Int × Int) Bool)
  | 0, _, _, _, _, _, _, _, _, _ => none
  | n + 1, x32075, x32078, x32081, x32085, x32086, x32090, x32091, x32092, x32093 =>
    if x32093 < (x32086.length : Int) then
      ((if 0 ≤ x32093 ∧ x32093 < (x32086.length : Int) then
          (x32086[x32093.toNat]?).bind fun x32172 =>
          if x32172.From < x32091 then
            some (.inr false)
          else
            if 0 ≤ x32093 ∧ x32093 < (x32086.length : Int) then
              (x32086[x32093.toNat]?).bind fun x32184 =>
              if 0 ≤ x32093 ∧ x32093 < (x32086.length : Int) then
                (x32086[x32093.toNat]?).bind fun x32194 =>
                if x32184.To ≤ x32194.From then
                  some (.inr false)
                else
                  if 0 ≤ x32093 ∧ x32093 < (x32086.length : Int) then
                    (x32086[x32093.toNat]?).bind fun x32206 =>
                    if x32206.Col ≤ x32092 then
                      some (.inr false)
                    else
                      if 0 ≤ x32093 ∧ x32093 < (x32086.length : Int) then
                        (x32086[x32093.toNat]?).bind fun x32218 =>
                        if x32218.Dash = true then
                          some (.inl (x32075, x32078, x32081, x32086))
                        else
                          if (w64 (x32093 + 1)) < (x32086.length : Int) then
                            some (.inr false)
                          else
                            some (.inl (x32075, x32078, x32081, x32086))
                      else none
                  else none
              else none
            else none
        else none) : Option (Sum ((List UInt8) × (List api_Token) × (List api_Row) × (List rows_Entry)) Bool)).bind fun o => match o with
        | .inl (x32233, x32236, x32239, x32243) => if 0 ≤ x32093 ∧ x32093 < (x32243.length : Int) then
          (x32243[x32093.toNat]?).bind fun x32254 =>
          if 0 ≤ x32093 ∧ x32093 < (x32243.length : Int) then
            (x32243[x32093.toNat]?).bind fun x32264 =>
            correctorlaw9_RowsOrder_l1 F a0 a1 n x32233 x32236 x32239 x32085 x32243 x32090 x32254.To x32264.Col (w64 (x32093 + 1))
          else none
        else none
        | .inr y => some (.inr y)
    else
      some (.inl (x32075, x32078, x32081, x32085, x32086, x32090, x32091))
def correctorlaw9_RowsOrder_l0 (F : Nat) (a0 : List Int) (a1 : List UInt8) : Nat → (List UInt8) → (List api_Token) → (List api_Row) → Int → Option (Sum Unit Bool)
  | 0, _, _, _, _ => none
  | n + 1, x31483, x31486, x31489, x31493 =>
    if x31493 < (x31489.length : Int) then
      if 0 ≤ x31493 ∧ x31493 < (x31489.length : Int) then
        (x31489[x31493.toNat]?).bind fun x31501 =>
        (rows_Entries F x31483 x31486 x31501).bind fun r31507 =>
        if 0 ≤ x31493 ∧ x31493 < (x31489.length : Int) then
          (x31489[x31493.toNat]?).bind fun x31522 =>
          ((correctorlaw9_RowsOrder_l1 F a0 a1 F x31483 x31486 x31489 x31493 r31507.1 r31507.2 x31522.From (-1) 0) : Option (Sum ((List UInt8) × (List api_Token) × (List api_Row) × Int × (List rows_Entry) × Int × Int) Bool)).bind fun o => match o with
            | .inl (x32306, x32309, x32312, x32316, x32317, x32321, x32322) => ((if x32321 < x32322 then
                some (.inr false)
              else
                if 0 ≤ x32316 ∧ x32316 < (x32312.length : Int) then
                  (x32312[x32316.toNat]?).bind fun x32340 =>
                  if x32340.To < x32321 then
                    some (.inr false)
                  else
                    if (0 : Int) < (x32317.length : Int) then
                      if x32321 = x32322 then
                        some (.inl (x32306, x32309, x32312))
                      else
                        some (.inr false)
                    else
                      some (.inl (x32306, x32309, x32312))
                else none) : Option (Sum ((List UInt8) × (List api_Token) × (List api_Row)) Bool)).bind fun o => match o with
              | .inl (x32350, x32353, x32356) => correctorlaw9_RowsOrder_l0 F a0 a1 n x32350 x32353 x32356 (w64 (x32316 + 1))
              | .inr y => some (.inr y)
            | .inr y => some (.inr y)
        else none
      else none
    else
      some (.inl ())
def correctorlaw9_RowsOrder (F : Nat) (a0 : List Int) (a1 : List UInt8) : Option Bool :=
  (correctorlaw9_known F).bind fun r30168 =>
  if r30168 = true then
    (correctorlaw6_Text F a0 a1).bind fun r30176 =>
    (correctorref6_Tokens F r30176).bind fun r30189 =>
    (correctorref9_Rows F r30189).bind fun r30207 =>
    ((correctorlaw9_RowsOrder_l0 F a0 a1 F r30176 r30189 r30207 0) : Option (Sum Unit Bool)).bind fun o => match o with
      | .inl () => some true
      | .inr y => some y
  else
    some false
theorem correctorlaw9_RowsOrder_ok (F : Nat) {h : AH} {Z : Zn} {a0 : List Int} {a1 : List UInt8} {v28818 : Value} {v28820 : Value} (hI : Inv Z h) (q28817 : RS (α := Int) Z v28818 a0) (q28819 : RS (α := UInt8) Z v28820 a1) {r : Bool} (hm : correctorlaw9_RowsOrder F a0 a1 = some r) :
    ∃ v h', callI Go.Proofs.Try.prog 6 [v28818, v28820] h = some (v, h') ∧ St h [] Z (0, 0) Z h' [] ∧ v = .bool r := by
  refine fn_plain (Q := fun v => v = .bool r) Go.Proofs.Try.func6 rfl rfl hI ?_
  intro hs hS
  unfold correctorlaw9_RowsOrder at hm
  refine sr r6_0 ?_
  refine xe 1 [(0, v28818), (1, v28820)] ?_
  refine sq ?_
  refine sr r6_1 ?_
  obtain ⟨r30168, hx30169, hm⟩ := obind hm
  obtain ⟨v30170, h30171, hcl30172, hSc30173, rfl⟩ := correctorlaw9_known_ok F hS.inv  hx30169
  have hS30174 := St.call (A := []) (B := []) hS hSc30173
  replace hS30174 : St _ _ _ _ _ _ [] := hS30174
  refine r_step rfl trivial (o_call hcl30172 rfl rfl rfl) ?_
  rcases ifs hm with ⟨hp30175, hm⟩ | ⟨hp30175, hm⟩
  refine r_setb (t := 14) rfl hp30175 ?_
  refine xe 1 [(15, .bool false), (0, v28818), (1, v28820)] ?_
  refine kF 15 rfl ?_
  refine sr r6_3 ?_
  refine xq 2 [(17, v28820), (16, v28818)] ?_
  obtain ⟨r30176, hx30177, hm⟩ := obind hm
  have hSr30183 : St _ _ _ _ _ _ ([] ++ []) := hS30174
  obtain ⟨v30178, h30179, Z30184, A30186, hcl30180, hSc30181, v30188, rfl, rfl, q30187⟩ := correctorlaw6_Text_ok F hSr30183.preL q28817 q28819 hx30177
  have hS30182 := hSr30183.call hSc30181
  have hZ30185 := hSc30181.zle
  replace hS30182 : St _ _ _ _ _ _ [] := hS30182
  refine r_step rfl trivial (o_call hcl30180 rfl rfl rfl) ?_
  refine xe 1 [(5, v30188)] ?_
  refine sr r6_4 ?_
  refine xq 1 [(19, v30188), (5, v30188)] ?_
  obtain ⟨r30189, hx30190, hm⟩ := obind hm
  have hSr30196 : St _ _ _ _ _ _ ([] ++ []) := hS30182
  obtain ⟨v30191, h30192, Z30197, A30199, hcl30193, hSc30194, v30201, c30202, rfl, rfl, q30200⟩ := correctorref6_Tokens_ok F hSr30196.preL q30187 hx30190
  have hS30195 := hSr30196.call hSc30194
  have hZ30198 := hSc30194.zle
  replace hS30195 : St _ _ _ _ _ _ [.gs v30201 c30202 (csz api_Token)] := hS30195
  refine r_step rfl trivial (o_call hcl30193 rfl rfl rfl) ?_
  refine xe 1 [(6, v30201), (5, v30188)] ?_
  refine sr r6_5 ?_
  refine xq 1 [(21, v30201), (6, v30201), (5, v30188)] ?_
  obtain ⟨Z30203, hZ30204, q30205, hS30206⟩ := (hS30195.front 0 rfl).freeze q30200
  replace hS30206 : St _ _ _ _ _ _ [] := hS30206
  obtain ⟨r30207, hx30208, hm⟩ := obind hm
  have hSr30214 : St _ _ _ _ _ _ ([] ++ []) := hS30206
  obtain ⟨v30209, h30210, Z30215, A30217, hcl30211, hSc30212, v30219, c30220, rfl, rfl, q30218⟩ := correctorref9_Rows_ok F hSr30214.preL q30205 hx30208
  have hS30213 := hSr30214.call hSc30212
  have hZ30216 := hSc30212.zle
  replace hS30213 : St _ _ _ _ _ _ [.gs v30219 c30220 (csz api_Row)] := hS30213
  refine r_step rfl trivial (o_call hcl30211 rfl rfl rfl) ?_
  refine xe 1 [(7, v30219), (6, v30201), (5, v30188)] ?_
  refine sq ?_
  refine sr r6_6 ?_
  refine xe 1 [(8, V 0), (7, v30219), (6, v30201), (5, v30188)] ?_
  obtain ⟨o31481, ho31480, hm⟩ := obind hm
  refine W_join [] (fun l h => ∃ Z32389 : Zn, .inl () = o31481 ∧ l = [] ∧ St hs [] Z (0, 0) Z32389 h []) ?_ ?_
  rintro l h32390 ⟨Z32389, rfl, rfl, hS32391⟩
  try dsimp only at hm
  refine sr r6_19 ?_
  refine xe 1 [(4, .bool true)] ?_
  refine rt ?_
  refine ⟨rfl, ?_⟩
  obtain rfl := Option.some.inj hm
  refine ⟨_, _, _, ResL.tmp rfl (ResL.nil), hS32391, ?_⟩
  exact rfl
  refine bk 0 ?_
  refine lp [5, 6, 7, 8] (fun n l h => ∃ Z31482 : Zn, ∃ x31483 : List UInt8, ∃ x31486 : List api_Token, ∃ x31489 : List api_Row, ∃ x31493 : Int, ∃ v31485 : Value, ∃ v31488 : Value, ∃ v31491 : Value, ∃ c31492 : List Value, correctorlaw9_RowsOrder_l0 F a0 a1 n x31483 x31486 x31489 x31493 = some o31481 ∧ RS (α := UInt8) Z31482 v31485 x31483 ∧ RS (α := api_Token) Z31482 v31488 x31486 ∧ RCs (α := api_Row) Z31482 c31492 x31489 ∧ l = [(5, v31485), (6, v31488), (7, v31491), (8, V x31493)] ∧ St hs [] Z (0, 0) Z31482 h [.gs v31491 c31492 (csz api_Row)]) F ⟨_, r30176, r30189, r30207, 0, v30188, v30201, v30219, c30220, ho31480, (q30187.mono (hZ30198.trans (hZ30204.trans hZ30216))), (q30205.mono hZ30216), q30218, rfl, hS30213⟩ ?_
  rintro n31496 l h31494 ⟨Z31482, x31483, x31486, x31489, x31493, v31485, v31488, v31491, c31492, ho31480, q31484, q31487, q31490, rfl, hS31495⟩
  rcases n31496 with _ | n31496
  cases (show none = some o31481 from ho31480)
  rw [correctorlaw9_RowsOrder_l0] at ho31480
  refine sq ?_
  refine sr r6_7 ?_
  refine xq 2 [(24, v31491), (23, V x31493), (5, v31485), (6, v31488), (7, v31491), (8, V x31493)] ?_
  refine r_step rfl trivial (o_len rfl (hS31495.glen (i := 0) rfl q31490) ⟨_, Go.Proofs.Try.underlying29⟩) ?_
  rcases ifs ho31480 with ⟨hp31499, ho31480⟩ | ⟨hp31499, ho31480⟩
  refine r_step rfl trivial (o_cmp rfl rfl (c_lss_T hp31499)) ?_
  refine xf [(26, .bool true), (5, v31485), (6, v31488), (7, v31491), (8, V x31493)] ?_
  refine kT 26 rfl ?_
  refine sq ?_
  refine bk 1 ?_
  refine sr r6_9 ?_
  refine xq 4 [(33, V x31493), (32, v31491), (31, v31488), (30, v31485), (5, v31485), (6, v31488), (7, v31491), (8, V x31493)] ?_
  obtain ⟨hc31500, ho31480⟩ := chk ho31480
  refine r_step rfl trivial (o_index rfl rfl (by kernel_rfl : slTy _ _ = some (csz api_Row)) (hS31495.gbased (j := 0) rfl q31490 (by omega)) hc31500.1 hc31500.2) ?_
  obtain ⟨x31501, hx31502, ho31480⟩ := obind ho31480
  obtain ⟨cs31503, hc31504, he31505, ht31506⟩ := hS31495.gel (j := 0) rfl q31490 (i := x31493) hx31502
  obtain rfl := rc_api_Row hc31504
  refine r_step rfl trivial (o_lde (w := .agg #[V x31501.Kind, V x31501.From, V x31501.To, V x31501.Col]) he31505 rfl (by kernel_rfl)) ?_
  obtain ⟨r31507, hx31508, ho31480⟩ := obind ho31480
  have hSr31514 : St _ _ _ _ _ _ ([] ++ [.gs v31491 c31492 (csz api_Row)]) := hS31495
  obtain ⟨v31509, h31510, Z31515, A31517, hcl31511, hSc31512, v31519, c31520, rfl, rfl, q31518⟩ := rows_Entries_ok F hSr31514.preL q31484 q31487 hx31508
  have hS31513 := hSr31514.call hSc31512
  have hZ31516 := hSc31512.zle
  replace hS31513 : St _ _ _ _ _ _ [.gs v31519 c31520 (csz rows_Entry), .gs v31491 c31492 (csz api_Row)] := hS31513
  refine r_step rfl trivial (o_call hcl31511 rfl rfl rfl) ?_
  refine xe 5 [(10, V r31507.2), (9, v31519), (5, v31485), (6, v31488), (7, v31491), (8, V x31493)] ?_
  refine sr r6_10 ?_
  refine xq 2 [(40, V x31493), (39, v31491), (10, V r31507.2), (9, v31519), (5, v31485), (6, v31488), (7, v31491), (8, V x31493)] ?_
  obtain ⟨hc31521, ho31480⟩ := chk ho31480
  refine r_step rfl trivial (o_index rfl rfl (by kernel_rfl : slTy _ _ = some (csz api_Row)) (hS31513.gbased (j := 1) rfl (q31490.mono hZ31516) (by omega)) hc31521.1 hc31521.2) ?_
  refine xq 1 [(42, .pointer (some (elemA v31491 x31493 (csz api_Row) 1))), (10, V r31507.2), (9, v31519), (5, v31485), (6, v31488), (7, v31491), (8, V x31493)] ?_
  obtain ⟨x31522, hx31523, ho31480⟩ := obind ho31480
  obtain ⟨cs31524, hc31525, he31526, ht31527⟩ := hS31513.gel (j := 1) rfl (q31490.mono hZ31516) (i := x31493) hx31523
  obtain rfl := rc_api_Row hc31525
  refine r_step rfl trivial (o_lde (w := V x31522.From) he31526 rfl (by kernel_rfl)) ?_
  refine xe 2 [(12, V (-1)), (11, V x31522.From), (10, V r31507.2), (9, v31519), (5, v31485), (6, v31488), (7, v31491), (8, V x31493)] ?_
  refine sq ?_
  refine sr r6_11 ?_
  refine xe 1 [(13, V 0), (12, V (-1)), (11, V x31522.From), (10, V r31507.2), (9, v31519), (5, v31485), (6, v31488), (7, v31491), (8, V x31493)] ?_
  obtain ⟨o32073, ho32072, ho31480⟩ := obind ho31480
  refine W_join [5, 6, 7, 8, 9, 10, 11] (fun l h => ∃ Z32305 : Zn, ∃ x32306 : List UInt8, ∃ x32309 : List api_Token, ∃ x32312 : List api_Row, ∃ x32316 : Int, ∃ x32317 : List rows_Entry, ∃ x32321 : Int, ∃ x32322 : Int, ∃ v32308 : Value, ∃ v32311 : Value, ∃ v32314 : Value, ∃ c32315 : List Value, ∃ v32319 : Value, ∃ c32320 : List Value, .inl (x32306, x32309, x32312, x32316, x32317, x32321, x32322) = o32073 ∧ RS (α := UInt8) Z32305 v32308 x32306 ∧ RS (α := api_Token) Z32305 v32311 x32309 ∧ RCs (α := api_Row) Z32305 c32315 x32312 ∧ RCs (α := rows_Entry) Z32305 c32320 x32317 ∧ l = [(5, v32308), (6, v32311), (7, v32314), (8, V x32316), (9, v32319), (10, V x32321), (11, V x32322)] ∧ St hs [] Z (0, 0) Z32305 h [.gs v32314 c32315 (csz api_Row), .gs v32319 c32320 (csz rows_Entry)]) ?_ ?_
  rintro l h32323 ⟨Z32305, x32306, x32309, x32312, x32316, x32317, x32321, x32322, v32308, v32311, v32314, c32315, v32319, c32320, rfl, q32307, q32310, q32313, q32318, rfl, hS32324⟩
  try dsimp only at ho31480
  obtain ⟨o32337, ho32336, ho31480⟩ := obind ho31480
  refine W_seqJoin0 [5, 6, 7, 8] (fun l h => ∃ Z32349 : Zn, ∃ x32350 : List UInt8, ∃ x32353 : List api_Token, ∃ x32356 : List api_Row, ∃ v32352 : Value, ∃ v32355 : Value, ∃ v32358 : Value, ∃ c32359 : List Value, .inl (x32350, x32353, x32356) = o32337 ∧ RS (α := UInt8) Z32349 v32352 x32350 ∧ RS (α := api_Token) Z32349 v32355 x32353 ∧ RCs (α := api_Row) Z32349 c32359 x32356 ∧ l = [(5, v32352), (6, v32355), (7, v32358), (8, V x32316)] ∧ St hs [] Z (0, 0) Z32349 h [.gs v32358 c32359 (csz api_Row)]) (by kernel_rfl) ?_ ?_
  rintro l h32360 ⟨Z32349, x32350, x32353, x32356, v32352, v32355, v32358, c32359, rfl, q32351, q32354, q32357, rfl, hS32361⟩
  try dsimp only at ho31480
  refine rg r6_8 ?_
  refine xe 3 [(8, V (w64 (x32316 + 1))), (5, v32352), (6, v32355), (7, v32358)] ?_
  exact ⟨n31496, Nat.lt_succ_self _, ⟨_, x32350, x32353, x32356, w64 (x32316 + 1), v32352, v32355, v32358, c32359, ho31480, q32351, q32354, q32357, rfl, hS32361⟩⟩
  refine rg r6_17 ?_
  refine xq 2 [(105, V x32322), (104, V x32321), (5, v32308), (6, v32311), (7, v32314), (8, V x32316), (9, v32319), (10, V x32321), (11, V x32322)] ?_
  rcases ifs ho32336 with ⟨hp32338, ho32336⟩ | ⟨hp32338, ho32336⟩
  refine r_step rfl trivial (o_cmp rfl rfl (c_lss_T hp32338)) ?_
  refine xe 19 [(125, .bool true), (5, v32308), (6, v32311), (7, v32314), (8, V x32316)] ?_
  refine cT 125 rfl ?_
  refine sr r6_18 ?_
  refine xe 1 [(4, .bool false)] ?_
  refine rt ?_
  refine blkX_ret ?_
  refine blkX_ret ?_
  refine ⟨rfl, ?_⟩
  obtain rfl := Option.some.inj ho32336
  obtain rfl := Option.some.inj ho31480
  obtain rfl := Option.some.inj hm
  refine ⟨_, _, _, ResL.tmp rfl (ResL.nil), hS32324, ?_⟩
  exact rfl
  refine r_step rfl trivial (o_cmp rfl rfl (c_lss_F hp32338)) ?_
  refine xq 4 [(110, V x32316), (109, v32314), (108, V x32321), (107, .bool false), (5, v32308), (6, v32311), (7, v32314), (8, V x32316), (9, v32319), (10, V x32321), (11, V x32322)] ?_
  obtain ⟨hc32339, ho32336⟩ := chk ho32336
  refine r_step rfl rfl (o_index rfl rfl (by kernel_rfl : slTy _ _ = some (csz api_Row)) (hS32324.gbased (j := 0) rfl q32313 (by omega)) hc32339.1 hc32339.2) ?_
  refine xq 1 [(112, .pointer (some (elemA v32314 x32316 (csz api_Row) 2))), (108, V x32321), (107, .bool false), (5, v32308), (6, v32311), (7, v32314), (8, V x32316), (9, v32319), (10, V x32321), (11, V x32322)] ?_
  obtain ⟨x32340, hx32341, ho32336⟩ := obind ho32336
  obtain ⟨cs32342, hc32343, he32344, ht32345⟩ := hS32324.gel (j := 0) rfl q32313 (i := x32316) hx32341
  obtain rfl := rc_api_Row hc32343
  refine r_step rfl rfl (o_lde (w := V x32340.To) he32344 rfl (by kernel_rfl)) ?_
  rcases ifs ho32336 with ⟨hp32346, ho32336⟩ | ⟨hp32346, ho32336⟩
  refine r_step rfl rfl (o_cmp rfl rfl (c_gtr_T hp32346)) ?_
  refine xe 11 [(125, .bool true), (5, v32308), (6, v32311), (7, v32314), (8, V x32316)] ?_
  refine cT 125 rfl ?_
  refine sr r6_18 ?_
  refine xe 1 [(4, .bool false)] ?_
  refine rt ?_
  refine blkX_ret ?_
  refine blkX_ret ?_
  refine ⟨rfl, ?_⟩
  obtain rfl := Option.some.inj ho32336
  obtain rfl := Option.some.inj ho31480
  obtain rfl := Option.some.inj hm
  refine ⟨_, _, _, ResL.tmp rfl (ResL.nil), hS32324, ?_⟩
  exact rfl
  refine r_step rfl rfl (o_cmp rfl rfl (c_gtr_F hp32346)) ?_
  refine xq 3 [(117, v32319), (116, .bool false), (5, v32308), (6, v32311), (7, v32314), (8, V x32316), (10, V x32321), (11, V x32322)] ?_
  refine r_step rfl rfl (o_len rfl (hS32324.glen (i := 1) rfl q32318) ⟨_, Go.Proofs.Try.underlying35⟩) ?_
  rcases ifs ho32336 with ⟨hp32347, ho32336⟩ | ⟨hp32347, ho32336⟩
  refine r_step rfl rfl (o_cmp rfl rfl (c_gtr_T hp32347)) ?_
  refine xq 3 [(122, V x32322), (121, V x32321), (120, .bool true), (116, .bool false), (5, v32308), (6, v32311), (7, v32314), (8, V x32316)] ?_
  rcases ifs ho32336 with ⟨hp32348, ho32336⟩ | ⟨hp32348, ho32336⟩
  refine r_step rfl rfl (o_cmp rfl rfl (c_neq_F hp32348)) ?_
  refine xe 2 [(125, .bool false), (5, v32308), (6, v32311), (7, v32314), (8, V x32316)] ?_
  refine kF 125 rfl ?_
  obtain rfl := Option.some.inj ho32336
  exact ⟨_, x32306, x32309, x32312, v32308, v32311, v32314, c32315, rfl, q32307, q32310, q32313, rfl, (hS32324.takeN 1)⟩
  refine r_step rfl rfl (o_cmp rfl rfl (c_neq_T hp32348)) ?_
  refine xe 2 [(125, .bool true), (5, v32308), (6, v32311), (7, v32314), (8, V x32316)] ?_
  refine cT 125 rfl ?_
  refine sr r6_18 ?_
  refine xe 1 [(4, .bool false)] ?_
  refine rt ?_
  refine blkX_ret ?_
  refine blkX_ret ?_
  refine ⟨rfl, ?_⟩
  obtain rfl := Option.some.inj ho32336
  obtain rfl := Option.some.inj ho31480
  obtain rfl := Option.some.inj hm
  refine ⟨_, _, _, ResL.tmp rfl (ResL.nil), hS32324, ?_⟩
  exact rfl
  refine r_step rfl rfl (o_cmp rfl rfl (c_gtr_F hp32347)) ?_
  refine xe 6 [(125, .bool false), (5, v32308), (6, v32311), (7, v32314), (8, V x32316)] ?_
  refine kF 125 rfl ?_
  obtain rfl := Option.some.inj ho32336
  exact ⟨_, x32306, x32309, x32312, v32308, v32311, v32314, c32315, rfl, q32307, q32310, q32313, rfl, (hS32324.takeN 1)⟩
  refine bk 2 ?_
  refine lp [5, 6, 7, 8, 9, 10, 11, 12, 13] (fun n l h => ∃ Z32074 : Zn, ∃ x32075 : List UInt8, ∃ x32078 : List api_Token, ∃ x32081 : List api_Row, ∃ x32085 : Int, ∃ x32086 : List rows_Entry, ∃ x32090 : Int, ∃ x32091 : Int, ∃ x32092 : Int, ∃ x32093 : Int, ∃ v32077 : Value, ∃ v32080 : Value, ∃ v32083 : Value, ∃ c32084 : List Value, ∃ v32088 : Value, ∃ c32089 : List Value, correctorlaw9_RowsOrder_l1 F a0 a1 n x32075 x32078 x32081 x32085 x32086 x32090 x32091 x32092 x32093 = some o32073 ∧ RS (α := UInt8) Z32074 v32077 x32075 ∧ RS (α := api_Token) Z32074 v32080 x32078 ∧ RCs (α := api_Row) Z32074 c32084 x32081 ∧ RCs (α := rows_Entry) Z32074 c32089 x32086 ∧ l = [(5, v32077), (6, v32080), (7, v32083), (8, V x32085), (9, v32088), (10, V x32090), (11, V x32091), (12, V x32092), (13, V x32093)] ∧ St hs [] Z (0, 0) Z32074 h [.gs v32083 c32084 (csz api_Row), .gs v32088 c32089 (csz rows_Entry)]) F ⟨_, x31483, x31486, x31489, x31493, r31507.1, r31507.2, x31522.From, (-1), 0, v31485, v31488, v31491, c31492, v31519, c31520, ho32072, (q31484.mono hZ31516), (q31487.mono hZ31516), (q31490.mono hZ31516), q31518, rfl, ((hS31513.front 0 rfl).front 1 rfl)⟩ ?_
  rintro n32096 l h32094 ⟨Z32074, x32075, x32078, x32081, x32085, x32086, x32090, x32091, x32092, x32093, v32077, v32080, v32083, c32084, v32088, c32089, ho32072, q32076, q32079, q32082, q32087, rfl, hS32095⟩
  rcases n32096 with _ | n32096
  cases (show none = some o32073 from ho32072)
  rw [correctorlaw9_RowsOrder_l1] at ho32072
  refine sq ?_
  refine sr r6_12 ?_
  refine xq 2 [(45, v32088), (44, V x32093), (5, v32077), (6, v32080), (7, v32083), (8, V x32085), (9, v32088), (10, V x32090), (11, V x32091), (12, V x32092), (13, V x32093)] ?_
  refine r_step rfl trivial (o_len rfl (hS32095.glen (i := 1) rfl q32087) ⟨_, Go.Proofs.Try.underlying35⟩) ?_
  rcases ifs ho32072 with ⟨hp32099, ho32072⟩ | ⟨hp32099, ho32072⟩
  refine r_step rfl trivial (o_cmp rfl rfl (c_lss_T hp32099)) ?_
  refine xf [(47, .bool true), (5, v32077), (6, v32080), (7, v32083), (8, V x32085), (9, v32088), (10, V x32090), (11, V x32091), (12, V x32092), (13, V x32093)] ?_
  refine kT 47 rfl ?_
  refine sq ?_
  refine bk 3 ?_
  refine sq ?_
  obtain ⟨o32166, ho32165, ho32072⟩ := obind ho32072
  refine W_join [5, 6, 7, 8, 9, 10, 13] (fun l h => ∃ Z32232 : Zn, ∃ x32233 : List UInt8, ∃ x32236 : List api_Token, ∃ x32239 : List api_Row, ∃ x32243 : List rows_Entry, ∃ v32235 : Value, ∃ v32238 : Value, ∃ v32241 : Value, ∃ c32242 : List Value, ∃ v32245 : Value, ∃ c32246 : List Value, .inl (x32233, x32236, x32239, x32243) = o32166 ∧ RS (α := UInt8) Z32232 v32235 x32233 ∧ RS (α := api_Token) Z32232 v32238 x32236 ∧ RCs (α := api_Row) Z32232 c32242 x32239 ∧ RCs (α := rows_Entry) Z32232 c32246 x32243 ∧ l = [(5, v32235), (6, v32238), (7, v32241), (8, V x32085), (9, v32245), (10, V x32090), (13, V x32093)] ∧ St hs [] Z (0, 0) Z32232 h [.gs v32241 c32242 (csz api_Row), .gs v32245 c32246 (csz rows_Entry)]) ?_ ?_
  rintro l h32247 ⟨Z32232, x32233, x32236, x32239, x32243, v32235, v32238, v32241, c32242, v32245, c32246, rfl, q32234, q32237, q32240, q32244, rfl, hS32248⟩
  try dsimp only at ho32072
  refine rgF r6_16 hS32248 ?_
  intro bs32249 h32250 hlv32252 hS32251
  refine yq 2 [(95, V x32093), (94, v32245), (5, v32235), (6, v32238), (7, v32241), (8, V x32085), (9, v32245), (10, V x32090), (13, V x32093)] ?_
  obtain ⟨hc32253, ho32072⟩ := chk ho32072
  refine e_val rfl trivial (o_index rfl rfl (by kernel_rfl : slTy _ _ = some (csz rows_Entry)) (hS32251.gbased (j := 1) rfl q32244 (by omega)) hc32253.1 hc32253.2) ?_
  refine yq 1 [(97, .pointer (some (elemA v32245 x32093 (csz rows_Entry) 3))), (5, v32235), (6, v32238), (7, v32241), (8, V x32085), (9, v32245), (10, V x32090), (13, V x32093)] ?_
  obtain ⟨x32254, hx32255, ho32072⟩ := obind ho32072
  obtain ⟨cs32256, hc32257, he32258, ht32259⟩ := hS32251.gel (j := 1) rfl q32244 (i := x32093) hx32255
  obtain rfl := rc_rows_Entry hc32257
  have ps32260 := pos_of hx32255
  have hB32261 := hS32251.gbased (j := 1) rfl q32244 ps32260
  have lt32262 : (baseOf v32245).block < bs32249 := row_ltM (hlv32252.1 _ (List.mem_of_getElem? (i := 1) rfl)) hB32261
  refine e_lookB rfl trivial rfl (by show (baseOf v32245).block < _; omega) (same1 (v := V x32254.To) trivial) (o_lde (w := V x32254.To) he32258 rfl (by kernel_rfl)) trivial ?_
  refine yq 2 [(100, V x32093), (99, v32245), (98, V x32254.To), (5, v32235), (6, v32238), (7, v32241), (8, V x32085), (9, v32245), (10, V x32090), (13, V x32093)] ?_
  obtain ⟨hc32263, ho32072⟩ := chk ho32072
  refine e_val rfl trivial (o_index rfl rfl (by kernel_rfl : slTy _ _ = some (csz rows_Entry)) (hS32251.gbased (j := 1) rfl q32244 (by omega)) hc32263.1 hc32263.2) ?_
  refine yq 1 [(102, .pointer (some (elemA v32245 x32093 (csz rows_Entry) 1))), (98, V x32254.To), (5, v32235), (6, v32238), (7, v32241), (8, V x32085), (9, v32245), (10, V x32090), (13, V x32093)] ?_
  obtain ⟨x32264, hx32265, ho32072⟩ := obind ho32072
  obtain ⟨cs32266, hc32267, he32268, ht32269⟩ := hS32251.gel (j := 1) rfl q32244 (i := x32093) hx32265
  obtain rfl := rc_rows_Entry hc32267
  have ps32270 := pos_of hx32265
  have hB32271 := hS32251.gbased (j := 1) rfl q32244 ps32270
  have lt32272 : (baseOf v32245).block < bs32249 := row_ltM (hlv32252.1 _ (List.mem_of_getElem? (i := 1) rfl)) hB32271
  refine e_lookB rfl trivial rfl (by show (baseOf v32245).block < _; omega) (same1 (v := V x32264.Col) trivial) (o_lde (w := V x32264.Col) he32268 rfl (by kernel_rfl)) trivial ?_
  refine ye 2 [(12, V x32264.Col), (11, V x32254.To), (5, v32235), (6, v32238), (7, v32241), (8, V x32085), (9, v32245), (10, V x32090), (13, V x32093)] ?_
  have hS32273 := hS32251.unres
  refine rg r6_13 ?_
  refine xe 3 [(13, V (w64 (x32093 + 1))), (12, V x32264.Col), (11, V x32254.To), (5, v32235), (6, v32238), (7, v32241), (8, V x32085), (9, v32245), (10, V x32090)] ?_
  exact ⟨n32096, Nat.lt_succ_self _, ⟨_, x32233, x32236, x32239, x32085, x32243, x32090, x32254.To, x32264.Col, w64 (x32093 + 1), v32235, v32238, v32241, c32242, v32245, c32246, ho32072, q32234, q32237, q32240, q32244, rfl, hS32273⟩⟩
  refine srF r6_14 hS32095 ?_
  intro bs32167 h32168 hlv32170 hS32169
  refine yq 2 [(51, V x32093), (50, v32088), (5, v32077), (6, v32080), (7, v32083), (8, V x32085), (9, v32088), (10, V x32090), (11, V x32091), (12, V x32092), (13, V x32093)] ?_
  obtain ⟨hc32171, ho32165⟩ := chk ho32165
  refine e_val rfl trivial (o_index rfl rfl (by kernel_rfl : slTy _ _ = some (csz rows_Entry)) (hS32169.gbased (j := 1) rfl q32087 (by omega)) hc32171.1 hc32171.2) ?_
  refine yq 1 [(53, .pointer (some (elemA v32088 x32093 (csz rows_Entry) 2))), (5, v32077), (6, v32080), (7, v32083), (8, V x32085), (9, v32088), (10, V x32090), (11, V x32091), (12, V x32092), (13, V x32093)] ?_
  obtain ⟨x32172, hx32173, ho32165⟩ := obind ho32165
  obtain ⟨cs32174, hc32175, he32176, ht32177⟩ := hS32169.gel (j := 1) rfl q32087 (i := x32093) hx32173
  obtain rfl := rc_rows_Entry hc32175
  have ps32178 := pos_of hx32173
  have hB32179 := hS32169.gbased (j := 1) rfl q32087 ps32178
  have lt32180 : (baseOf v32088).block < bs32167 := row_ltM (hlv32170.1 _ (List.mem_of_getElem? (i := 1) rfl)) hB32179
  refine e_lookB rfl trivial rfl (by show (baseOf v32088).block < _; omega) (same1 (v := V x32172.From) trivial) (o_lde (w := V x32172.From) he32176 rfl (by kernel_rfl)) trivial ?_
  refine yq 1 [(55, V x32091), (54, V x32172.From), (5, v32077), (6, v32080), (7, v32083), (8, V x32085), (9, v32088), (10, V x32090), (12, V x32092), (13, V x32093)] ?_
  rcases ifs ho32165 with ⟨hp32181, ho32165⟩ | ⟨hp32181, ho32165⟩
  refine e_val rfl trivial (o_cmp rfl rfl (c_lss_T hp32181)) ?_
  refine ye 37 [(93, .bool true), (5, v32077), (6, v32080), (7, v32083), (8, V x32085), (9, v32088), (10, V x32090), (13, V x32093)] ?_
  have hS32182 := hS32169.unres
  refine cT 93 rfl ?_
  refine sr r6_15 ?_
  refine xe 1 [(4, .bool false)] ?_
  refine rt ?_
  refine blkX_ret ?_
  refine blkX_ret ?_
  refine blkX_ret ?_
  refine blkX_ret ?_
  refine ⟨rfl, ?_⟩
  obtain rfl := Option.some.inj ho32165
  obtain rfl := Option.some.inj ho32072
  obtain rfl := Option.some.inj ho31480
  obtain rfl := Option.some.inj hm
  refine ⟨_, _, _, ResL.tmp rfl (ResL.nil), hS32182, ?_⟩
  exact rfl
  refine e_val rfl trivial (o_cmp rfl rfl (c_lss_F hp32181)) ?_
  refine yq 3 [(59, V x32093), (58, v32088), (57, .bool false), (5, v32077), (6, v32080), (7, v32083), (8, V x32085), (9, v32088), (10, V x32090), (12, V x32092), (13, V x32093)] ?_
  obtain ⟨hc32183, ho32165⟩ := chk ho32165
  refine e_val rfl rfl (o_index rfl rfl (by kernel_rfl : slTy _ _ = some (csz rows_Entry)) (hS32169.gbased (j := 1) rfl q32087 (by omega)) hc32183.1 hc32183.2) ?_
  refine yq 1 [(61, .pointer (some (elemA v32088 x32093 (csz rows_Entry) 3))), (57, .bool false), (5, v32077), (6, v32080), (7, v32083), (8, V x32085), (9, v32088), (10, V x32090), (12, V x32092), (13, V x32093)] ?_
  obtain ⟨x32184, hx32185, ho32165⟩ := obind ho32165
  obtain ⟨cs32186, hc32187, he32188, ht32189⟩ := hS32169.gel (j := 1) rfl q32087 (i := x32093) hx32185
  obtain rfl := rc_rows_Entry hc32187
  have ps32190 := pos_of hx32185
  have hB32191 := hS32169.gbased (j := 1) rfl q32087 ps32190
  have lt32192 : (baseOf v32088).block < bs32167 := row_ltM (hlv32170.1 _ (List.mem_of_getElem? (i := 1) rfl)) hB32191
  refine e_lookB rfl rfl rfl (by show (baseOf v32088).block < _; omega) (same1 (v := V x32184.To) trivial) (o_lde (w := V x32184.To) he32188 rfl (by kernel_rfl)) trivial ?_
  refine yq 2 [(64, V x32093), (63, v32088), (62, V x32184.To), (57, .bool false), (5, v32077), (6, v32080), (7, v32083), (8, V x32085), (9, v32088), (10, V x32090), (12, V x32092), (13, V x32093)] ?_
  obtain ⟨hc32193, ho32165⟩ := chk ho32165
  refine e_val rfl rfl (o_index rfl rfl (by kernel_rfl : slTy _ _ = some (csz rows_Entry)) (hS32169.gbased (j := 1) rfl q32087 (by omega)) hc32193.1 hc32193.2) ?_
  refine yq 1 [(66, .pointer (some (elemA v32088 x32093 (csz rows_Entry) 2))), (62, V x32184.To), (57, .bool false), (5, v32077), (6, v32080), (7, v32083), (8, V x32085), (9, v32088), (10, V x32090), (12, V x32092), (13, V x32093)] ?_
  obtain ⟨x32194, hx32195, ho32165⟩ := obind ho32165
  obtain ⟨cs32196, hc32197, he32198, ht32199⟩ := hS32169.gel (j := 1) rfl q32087 (i := x32093) hx32195
  obtain rfl := rc_rows_Entry hc32197
  have ps32200 := pos_of hx32195
  have hB32201 := hS32169.gbased (j := 1) rfl q32087 ps32200
  have lt32202 : (baseOf v32088).block < bs32167 := row_ltM (hlv32170.1 _ (List.mem_of_getElem? (i := 1) rfl)) hB32201
  refine e_lookB rfl rfl rfl (by show (baseOf v32088).block < _; omega) (same1 (v := V x32194.From) trivial) (o_lde (w := V x32194.From) he32198 rfl (by kernel_rfl)) trivial ?_
  rcases ifs ho32165 with ⟨hp32203, ho32165⟩ | ⟨hp32203, ho32165⟩
  refine e_val rfl rfl (o_cmp rfl rfl (c_leq_T hp32203)) ?_
  refine ye 25 [(93, .bool true), (5, v32077), (6, v32080), (7, v32083), (8, V x32085), (9, v32088), (10, V x32090), (13, V x32093)] ?_
  have hS32204 := hS32169.unres
  refine cT 93 rfl ?_
  refine sr r6_15 ?_
  refine xe 1 [(4, .bool false)] ?_
  refine rt ?_
  refine blkX_ret ?_
  refine blkX_ret ?_
  refine blkX_ret ?_
  refine blkX_ret ?_
  refine ⟨rfl, ?_⟩
  obtain rfl := Option.some.inj ho32165
  obtain rfl := Option.some.inj ho32072
  obtain rfl := Option.some.inj ho31480
  obtain rfl := Option.some.inj hm
  refine ⟨_, _, _, ResL.tmp rfl (ResL.nil), hS32204, ?_⟩
  exact rfl
  refine e_val rfl rfl (o_cmp rfl rfl (c_leq_F hp32203)) ?_
  refine yq 4 [(72, V x32093), (71, v32088), (70, .bool false), (5, v32077), (6, v32080), (7, v32083), (8, V x32085), (9, v32088), (10, V x32090), (12, V x32092), (13, V x32093)] ?_
  obtain ⟨hc32205, ho32165⟩ := chk ho32165
  refine e_val rfl rfl (o_index rfl rfl (by kernel_rfl : slTy _ _ = some (csz rows_Entry)) (hS32169.gbased (j := 1) rfl q32087 (by omega)) hc32205.1 hc32205.2) ?_
  refine yq 1 [(74, .pointer (some (elemA v32088 x32093 (csz rows_Entry) 1))), (70, .bool false), (5, v32077), (6, v32080), (7, v32083), (8, V x32085), (9, v32088), (10, V x32090), (12, V x32092), (13, V x32093)] ?_
  obtain ⟨x32206, hx32207, ho32165⟩ := obind ho32165
  obtain ⟨cs32208, hc32209, he32210, ht32211⟩ := hS32169.gel (j := 1) rfl q32087 (i := x32093) hx32207
  obtain rfl := rc_rows_Entry hc32209
  have ps32212 := pos_of hx32207
  have hB32213 := hS32169.gbased (j := 1) rfl q32087 ps32212
  have lt32214 : (baseOf v32088).block < bs32167 := row_ltM (hlv32170.1 _ (List.mem_of_getElem? (i := 1) rfl)) hB32213
  refine e_lookB rfl rfl rfl (by show (baseOf v32088).block < _; omega) (same1 (v := V x32206.Col) trivial) (o_lde (w := V x32206.Col) he32210 rfl (by kernel_rfl)) trivial ?_
  refine yq 1 [(76, V x32092), (75, V x32206.Col), (70, .bool false), (5, v32077), (6, v32080), (7, v32083), (8, V x32085), (9, v32088), (10, V x32090), (13, V x32093)] ?_
  rcases ifs ho32165 with ⟨hp32215, ho32165⟩ | ⟨hp32215, ho32165⟩
  refine e_val rfl rfl (o_cmp rfl rfl (c_leq_T hp32215)) ?_
  refine ye 16 [(93, .bool true), (5, v32077), (6, v32080), (7, v32083), (8, V x32085), (9, v32088), (10, V x32090), (13, V x32093)] ?_
  have hS32216 := hS32169.unres
  refine cT 93 rfl ?_
  refine sr r6_15 ?_
  refine xe 1 [(4, .bool false)] ?_
  refine rt ?_
  refine blkX_ret ?_
  refine blkX_ret ?_
  refine blkX_ret ?_
  refine blkX_ret ?_
  refine ⟨rfl, ?_⟩
  obtain rfl := Option.some.inj ho32165
  obtain rfl := Option.some.inj ho32072
  obtain rfl := Option.some.inj ho31480
  obtain rfl := Option.some.inj hm
  refine ⟨_, _, _, ResL.tmp rfl (ResL.nil), hS32216, ?_⟩
  exact rfl
  refine e_val rfl rfl (o_cmp rfl rfl (c_leq_F hp32215)) ?_
  refine yq 4 [(81, V x32093), (80, v32088), (79, .bool false), (5, v32077), (6, v32080), (7, v32083), (8, V x32085), (9, v32088), (10, V x32090), (13, V x32093)] ?_
  obtain ⟨hc32217, ho32165⟩ := chk ho32165
  refine e_val rfl rfl (o_index rfl rfl (by kernel_rfl : slTy _ _ = some (csz rows_Entry)) (hS32169.gbased (j := 1) rfl q32087 (by omega)) hc32217.1 hc32217.2) ?_
  refine yq 1 [(83, .pointer (some (elemA v32088 x32093 (csz rows_Entry) 0))), (79, .bool false), (5, v32077), (6, v32080), (7, v32083), (8, V x32085), (9, v32088), (10, V x32090), (13, V x32093)] ?_
  obtain ⟨x32218, hx32219, ho32165⟩ := obind ho32165
  obtain ⟨cs32220, hc32221, he32222, ht32223⟩ := hS32169.gel (j := 1) rfl q32087 (i := x32093) hx32219
  obtain rfl := rc_rows_Entry hc32221
  have ps32224 := pos_of hx32219
  have hB32225 := hS32169.gbased (j := 1) rfl q32087 ps32224
  have lt32226 : (baseOf v32088).block < bs32167 := row_ltM (hlv32170.1 _ (List.mem_of_getElem? (i := 1) rfl)) hB32225
  refine e_lookB rfl rfl rfl (by show (baseOf v32088).block < _; omega) (same1 (v := .bool x32218.Dash) trivial) (o_lde (w := .bool x32218.Dash) he32222 rfl (by kernel_rfl)) trivial ?_
  rcases ifs ho32165 with ⟨hp32227, ho32165⟩ | ⟨hp32227, ho32165⟩
  refine e_setb (t := 84) rfl hp32227 ?_
  refine ye 9 [(93, .bool false), (5, v32077), (6, v32080), (7, v32083), (8, V x32085), (9, v32088), (10, V x32090), (13, V x32093)] ?_
  have hS32228 := hS32169.unres
  refine kF 93 rfl ?_
  obtain rfl := Option.some.inj ho32165
  exact ⟨_, x32075, x32078, x32081, x32086, v32077, v32080, v32083, c32084, v32088, c32089, rfl, q32076, q32079, q32082, q32087, rfl, hS32228⟩
  refine e_setb (t := 84) rfl (Bool.eq_false_iff.2 hp32227) ?_
  refine yq 5 [(89, v32088), (88, V (w64 (x32093 + 1))), (86, .bool true), (79, .bool false), (5, v32077), (6, v32080), (7, v32083), (8, V x32085), (9, v32088), (10, V x32090), (13, V x32093)] ?_
  refine e_val rfl rfl (o_len rfl (hS32169.glen (i := 1) rfl q32087) ⟨_, Go.Proofs.Try.underlying35⟩) ?_
  rcases ifs ho32165 with ⟨hp32229, ho32165⟩ | ⟨hp32229, ho32165⟩
  refine e_val rfl rfl (o_cmp rfl rfl (c_lss_T hp32229)) ?_
  refine ye 2 [(93, .bool true), (5, v32077), (6, v32080), (7, v32083), (8, V x32085), (9, v32088), (10, V x32090), (13, V x32093)] ?_
  have hS32230 := hS32169.unres
  refine cT 93 rfl ?_
  refine sr r6_15 ?_
  refine xe 1 [(4, .bool false)] ?_
  refine rt ?_
  refine blkX_ret ?_
  refine blkX_ret ?_
  refine blkX_ret ?_
  refine blkX_ret ?_
  refine ⟨rfl, ?_⟩
  obtain rfl := Option.some.inj ho32165
  obtain rfl := Option.some.inj ho32072
  obtain rfl := Option.some.inj ho31480
  obtain rfl := Option.some.inj hm
  refine ⟨_, _, _, ResL.tmp rfl (ResL.nil), hS32230, ?_⟩
  exact rfl
  refine e_val rfl rfl (o_cmp rfl rfl (c_lss_F hp32229)) ?_
  refine ye 2 [(93, .bool false), (5, v32077), (6, v32080), (7, v32083), (8, V x32085), (9, v32088), (10, V x32090), (13, V x32093)] ?_
  have hS32231 := hS32169.unres
  refine kF 93 rfl ?_
  obtain rfl := Option.some.inj ho32165
  exact ⟨_, x32075, x32078, x32081, x32086, v32077, v32080, v32083, c32084, v32088, c32089, rfl, q32076, q32079, q32082, q32087, rfl, hS32231⟩
  refine r_step rfl trivial (o_cmp rfl rfl (c_lss_F hp32099)) ?_
  refine xf [(47, .bool false), (5, v32077), (6, v32080), (7, v32083), (8, V x32085), (9, v32088), (10, V x32090), (11, V x32091), (12, V x32092), (13, V x32093)] ?_
  refine cF 47 rfl ?_
  refine xt 2 ?_
  refine blkX_hit ?_
  obtain rfl := Option.some.inj ho32072
  exact ⟨_, x32075, x32078, x32081, x32085, x32086, x32090, x32091, v32077, v32080, v32083, c32084, v32088, c32089, rfl, q32076, q32079, q32082, q32087, rfl, hS32095⟩
  refine r_step rfl trivial (o_cmp rfl rfl (c_lss_F hp31499)) ?_
  refine xf [(26, .bool false), (5, v31485), (6, v31488), (7, v31491), (8, V x31493)] ?_
  refine cF 26 rfl ?_
  refine xt 0 ?_
  refine blkX_hit ?_
  obtain rfl := Option.some.inj ho31480
  exact ⟨_, rfl, rfl, (hS31495.takeN 0)⟩
  refine r_setb (t := 14) rfl (Bool.eq_false_iff.2 hp30175) ?_
  refine xe 1 [(15, .bool true), (0, v28818), (1, v28820)] ?_
  refine cT 15 rfl ?_
  refine sr r6_2 ?_
  refine xe 1 [(4, .bool false)] ?_
  refine rt ?_
  refine ⟨rfl, ?_⟩
  obtain rfl := Option.some.inj hm
  refine ⟨_, _, _, ResL.tmp rfl (ResL.nil), hS30174, ?_⟩
  exact rfl

end Go.Proofs.Ytcnbcimnfeekjaa.M
