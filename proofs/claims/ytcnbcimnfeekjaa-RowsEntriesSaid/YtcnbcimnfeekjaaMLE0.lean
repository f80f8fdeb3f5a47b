/- Printed by a program of this session: Go functions as Lean functions over plain data, and that the calls come to them. -/
import Derived.Test.YtcnbcimnfeekjaaSyJ
import Derived.Test.YtcnbcimnfeekjaaChecked
import Derived.KernelRfl
import Derived.Test.YtcnbcimnfeekjaaMN0
namespace Go.Proofs.Ytcnbcimnfeekjaa.M
open Go Am Sy
open Sy.Cell (rc)
set_option linter.unusedVariables false
set_option linter.unusedSimpArgs false
set_option maxRecDepth 20000

def r4_0 : List COp := [u 4 (.assign (.const (.bool false)))]
def r4_1 : List COp := [u 14 (cf 9 #[] #[]), u 15 (.unOp .not 4 (t 14))]
def r4_2 : List COp := [u 4 (.assign (.const (.bool false)))]
def r4_3 : List COp := [u 16 (.move (t 0)), u 17 (.move (t 1)), u 18 (cf 10 #[(t 16), (t 17)] #[22, 23]), u 5 (.assign (t 18))]
def r4_4 : List COp := [u 19 (.move (t 5)), u 20 (cf 11 #[(t 19)] #[23]), u 6 (.assign (t 20))]
def r4_5 : List COp := [u 21 (.move (t 6)), u 22 (cf 13 #[(t 21)] #[27]), u 7 (.assign (t 22))]
def r4_6 : List COp := [u 8 (.assign (ci 0))]
def r4_7 : List COp := [u 23 (.move (t 8)), u 24 (.move (t 7)), u 25 (cb .len #[(t 24)] #[29]), u 26 (.binOp .lss 3 (t 23) (t 25) 3)]
def r4_8 : List COp := [u 27 (.move (t 8)), u 28 (.binOp .add 3 (t 27) (ci 1) 3), u 8 (.assign (t 28))]
def r4_9 : List COp := [u 30 (.move (t 5)), u 31 (.move (t 6)), u 32 (.move (t 7)), u 33 (.move (t 8)), u 34 (.indexAddr 29 (t 32) (t 33)), u 35 (.load 33 (t 34)), u 36 (cf 14 #[(t 30), (t 31), (t 35)] #[23, 27, 33]), u 29 (.move (t 36)), u 37 (.extract (t 29) 0), u 38 (.extract (t 29) 1), u 9 (.assign (t 37)), u 10 (.assign (t 38))]
def r4_10 : List COp := [u 40 (.move (t 6)), u 41 (.move (t 7)), u 42 (.move (t 8)), u 43 (.indexAddr 29 (t 41) (t 42)), u 44 (.load 33 (t 43)), u 45 (cf 15 #[(t 40), (t 44)] #[27, 33]), u 39 (.move (t 45)), u 46 (.extract (t 39) 0), u 47 (.extract (t 39) 1), u 11 (.assign (t 46)), u 12 (.assign (t 47))]
def r4_11 : List COp := [u 48 (.move (t 9)), u 49 (cb .len #[(t 48)] #[35]), u 50 (.move (t 11)), u 51 (cb .len #[(t 50)] #[38]), u 52 (.binOp .neq 3 (t 49) (t 51) 3), u 53 (.move (t 52)), gN 53 (some 54) (.move (t 10)), gN 53 (some 55) (.move (t 12)), gN 53 (some 56) (.binOp .neq 3 (t 54) (t 55) 3), u 57 (.pick (t 53) (.const (.bool true)) (t 56))]
def r4_12 : List COp := [u 4 (.assign (.const (.bool false)))]
def r4_13 : List COp := [u 13 (.assign (ci 0))]
def r4_14 : List COp := [u 58 (.move (t 13)), u 59 (.move (t 9)), u 60 (cb .len #[(t 59)] #[35]), u 61 (.binOp .lss 3 (t 58) (t 60) 3)]
def r4_15 : List COp := [u 62 (.move (t 13)), u 63 (.binOp .add 3 (t 62) (ci 1) 3), u 13 (.assign (t 63))]
def r4_16 : List COpF := [uF 64 (.move (t 9)) .pure [], uF 65 (.move (t 13)) .pure [], uF 66 (.indexAddr 35 (t 64) (t 65)) .pure [], uF 67 (.fieldAddr 42 (t 66) 0) .pure [], uF 68 (.load 4 (t 67)) .look [], uF 69 (.move (t 11)) .pure [], uF 70 (.move (t 13)) .pure [], uF 71 (.indexAddr 38 (t 69) (t 70)) .pure [], uF 72 (.fieldAddr 43 (t 71) 0) .pure [], uF 73 (.load 4 (t 72)) .look [], uF 74 (.binOp .neq 4 (t 68) (t 73) 4) .pure [], uF 75 (.move (t 74)) .pure [], gNF 75 (some 76) (.move (t 9)) .pure [], gNF 75 (some 77) (.move (t 13)) .pure [], gNF 75 (some 78) (.indexAddr 35 (t 76) (t 77)) .pure [], gNF 75 (some 79) (.fieldAddr 42 (t 78) 1) .pure [], gNF 75 (some 80) (.load 3 (t 79)) .look [], gNF 75 (some 81) (.move (t 11)) .pure [], gNF 75 (some 82) (.move (t 13)) .pure [], gNF 75 (some 83) (.indexAddr 38 (t 81) (t 82)) .pure [], gNF 75 (some 84) (.fieldAddr 43 (t 83) 1) .pure [], gNF 75 (some 85) (.load 3 (t 84)) .look [], gNF 75 (some 86) (.binOp .neq 3 (t 80) (t 85) 3) .pure [], uF 87 (.pick (t 75) (.const (.bool true)) (t 86)) .pure [], uF 88 (.move (t 87)) .pure [], gNF 88 (some 89) (.move (t 9)) .pure [], gNF 88 (some 90) (.move (t 13)) .pure [], gNF 88 (some 91) (.indexAddr 35 (t 89) (t 90)) .pure [], gNF 88 (some 92) (.fieldAddr 42 (t 91) 2) .pure [], gNF 88 (some 93) (.load 3 (t 92)) .look [], gNF 88 (some 94) (.move (t 11)) .pure [], gNF 88 (some 95) (.move (t 13)) .pure [], gNF 88 (some 96) (.indexAddr 38 (t 94) (t 95)) .pure [], gNF 88 (some 97) (.fieldAddr 43 (t 96) 2) .pure [], gNF 88 (some 98) (.load 3 (t 97)) .look [], gNF 88 (some 99) (.binOp .neq 3 (t 93) (t 98) 3) .pure [], uF 100 (.pick (t 88) (.const (.bool true)) (t 99)) .pure [], uF 101 (.move (t 100)) .pure [], gNF 101 (some 102) (.move (t 9)) .pure [], gNF 101 (some 103) (.move (t 13)) .pure [], gNF 101 (some 104) (.indexAddr 35 (t 102) (t 103)) .pure [], gNF 101 (some 105) (.fieldAddr 42 (t 104) 3) .pure [], gNF 101 (some 106) (.load 3 (t 105)) .look [], gNF 101 (some 107) (.move (t 11)) .pure [], gNF 101 (some 108) (.move (t 13)) .pure [], gNF 101 (some 109) (.indexAddr 38 (t 107) (t 108)) .pure [], gNF 101 (some 110) (.fieldAddr 43 (t 109) 3) .pure [], gNF 101 (some 111) (.load 3 (t 110)) .look [], gNF 101 (some 112) (.binOp .neq 3 (t 106) (t 111) 3) .pure [], uF 113 (.pick (t 101) (.const (.bool true)) (t 112)) .pure []]
def r4_17 : List COp := [u 4 (.assign (.const (.bool false)))]
def r4_18 : List COp := [u 4 (.assign (.const (.bool true)))]
def correctorlaw9_RowsEntries_l1 (F : Nat) (a0 : List Int) (a1 : List UInt8) : Nat → (List UInt8) → (List api_Token) → (List api_Row) → Int → (List rows_Entry) → (List correctorref9_Entry) → Int → Option (Sum ((List UInt8) × (List api_Token) × (List api_Row) × Int) Bool)
 | 0, _, _, _, _, _, _, _ => none
 | n + 1, x24017, x24020, x24023, x24027, x24028, x24032, x24036 =>
  if x24036 < (x24028.length : Int) then
   ((if 0 ≤ x24036 ∧ x24036 < (x24028.length : Int) then
     (x24028[x24036.toNat]?).bind fun x24213 =>
     if 0 ≤ x24036 ∧ x24036 < (x24032.length : Int) then
      (x24032[x24036.toNat]?).bind fun x24223 =>
      if x24213.Dash = true then
       if x24223.Dash = true then
        if 0 ≤ x24036 ∧ x24036 < (x24028.length : Int) then
         (x24028[x24036.toNat]?).bind fun x24235 =>
         if 0 ≤ x24036 ∧ x24036 < (x24032.length : Int) then
          (x24032[x24036.toNat]?).bind fun x24245 =>
          if x24235.Col = x24245.Col then
           if 0 ≤ x24036 ∧ x24036 < (x24028.length : Int) then
            (x24028[x24036.toNat]?).bind fun x24256 =>
            if 0 ≤ x24036 ∧ x24036 < (x24032.length : Int) then
             (x24032[x24036.toNat]?).bind fun x24266 =>
             if x24256.From = x24266.From then
              if 0 ≤ x24036 ∧ x24036 < (x24028.length : Int) then
               (x24028[x24036.toNat]?).bind fun x24277 =>
               if 0 ≤ x24036 ∧ x24036 < (x24032.length : Int) then
                (x24032[x24036.toNat]?).bind fun x24287 =>
                if x24277.To = x24287.To then
                 some (.inl (x24017, x24020, x24023, x24028, x24032))
                else
                 some (.inr false)
               else none
              else none
             else
              some (.inr false)
            else none
           else none
          else
           some (.inr false)
         else none
        else none
       else
        some (.inr false)
      else
       if x24223.Dash = true then
        some (.inr false)
       else
        if 0 ≤ x24036 ∧ x24036 < (x24028.length : Int) then
         (x24028[x24036.toNat]?).bind fun x24305 =>
         if 0 ≤ x24036 ∧ x24036 < (x24032.length : Int) then
          (x24032[x24036.toNat]?).bind fun x24315 =>
          if x24305.Col = x24315.Col then
           if 0 ≤ x24036 ∧ x24036 < (x24028.length : Int) then
            (x24028[x24036.toNat]?).bind fun x24326 =>
            if 0 ≤ x24036 ∧ x24036 < (x24032.length : Int) then
             (x24032[x24036.toNat]?).bind fun x24336 =>
             if x24326.From = x24336.From then
              if 0 ≤ x24036 ∧ x24036 < (x24028.length : Int) then
               (x24028[x24036.toNat]?).bind fun x24347 =>
               if 0 ≤ x24036 ∧ x24036 < (x24032.length : Int) then
                (x24032[x24036.toNat]?).bind fun x24357 =>
                if x24347.To = x24357.To then
                 some (.inl (x24017, x24020, x24023, x24028, x24032))
                else
                 some (.inr false)
               else none
              else none
             else
              some (.inr false)
            else none
           else none
          else
           some (.inr false)
         else none
        else none
     else none
    else none) : Option (Sum ((List UInt8) × (List api_Token) × (List api_Row) × (List rows_Entry) × (List correctorref9_Entry)) Bool)).bind fun o => match o with
    | .inl (x24372, x24375, x24378, x24382, x24386) => correctorlaw9_RowsEntries_l1 F a0 a1 n x24372 x24375 x24378 x24027 x24382 x24386 (w64 (x24036 + 1))
    | .inr y => some (.inr y)
  else
   some (.inl (x24017, x24020, x24023, x24027))
def correctorlaw9_RowsEntries_l0 (F : Nat) (a0 : List Int) (a1 : List UInt8) : Nat → (List UInt8) → (List api_Token) → (List api_Row) → Int → Option (Sum Unit Bool)
 | 0, _, _, _, _ => none
 | n + 1, x23530, x23533, x23536, x23540 =>
  if x23540 < (x23536.length : Int) then
   if 0 ≤ x23540 ∧ x23540 < (x23536.length : Int) then
    (x23536[x23540.toNat]?).bind fun x23548 =>
    (rows_Entries F x23530 x23533 x23548).bind fun r23554 =>
    if 0 ≤ x23540 ∧ x23540 < (x23536.length : Int) then
     (x23536[x23540.toNat]?).bind fun x23569 =>
     (correctorref9_Entries F x23533 x23569).bind fun r23575 =>
     if (r23554.1.length : Int) = (r23575.1.length : Int) then
      if r23554.2 = r23575.2 then
       ((correctorlaw9_RowsEntries_l1 F a0 a1 F x23530 x23533 x23536 x23540 r23554.1 r23575.1 0) : Option (Sum ((List UInt8) × (List api_Token) × (List api_Row) × Int) Bool)).bind fun o => match o with
        | .inl (x24422, x24425, x24428, x24432) => correctorlaw9_RowsEntries_l0 F a0 a1 n x24422 x24425 x24428 (w64 (x24432 + 1))
        | .inr y => some (.inr y)
      else
       some (.inr false)
     else
      some (.inr false)
    else none
   else none
  else
   some (.inl ())
def correctorlaw9_RowsEntries (F : Nat) (a0 : List Int) (a1 : List UInt8) : Option Bool :=
 (correctorlaw9_known F).bind fun r22482 =>
 if r22482 = true then
  (correctorlaw6_Text F a0 a1).bind fun r22490 =>
  (correctorref6_Tokens F r22490).bind fun r22503 =>
  (correctorref9_Rows F r22503).bind fun r22521 =>
  ((correctorlaw9_RowsEntries_l0 F a0 a1 F r22490 r22503 r22521 0) : Option (Sum Unit Bool)).bind fun o => match o with
   | .inl () => some true
   | .inr y => some y
 else
  some false
theorem correctorlaw9_RowsEntries_ok (F : Nat) {h : AH} {Z : Zn} {a0 : List Int} {a1 : List UInt8} {v21399 : Value} {v21401 : Value} (hI : Inv Z h) (q21398 : RS (α := Int) Z v21399 a0) (q21400 : RS (α := UInt8) Z v21401 a1) {r : Bool} (hm : correctorlaw9_RowsEntries F a0 a1 = some r) :
  ∃ v h', callI Go.Proofs.Try.prog 4 [v21399, v21401] h = some (v, h') ∧ St h [] Z (0, 0) Z h' [] ∧ v = .bool r := by
 refine fn_plain (Q := fun v => v = .bool r) Go.Proofs.Try.func4 rfl rfl hI ?_
 intro hs hS
 unfold correctorlaw9_RowsEntries at hm
 refine sr r4_0 ?_
 refine xe 1 [(0, v21399), (1, v21401)] ?_
 refine sq ?_
 refine sr r4_1 ?_
 obtain ⟨r22482, hx22483, hm⟩ := obind hm
 obtain ⟨v22484, h22485, hcl22486, hSc22487, rfl⟩ := correctorlaw9_known_ok F hS.inv  hx22483
 have hS22488 := St.call (A := []) (B := []) hS hSc22487
 replace hS22488 : St _ _ _ _ _ _ [] := hS22488
 refine r_step rfl trivial (o_call hcl22486 rfl rfl rfl) ?_
 rcases ifs hm with ⟨hp22489, hm⟩ | ⟨hp22489, hm⟩
 refine r_setb (t := 14) rfl hp22489 ?_
 refine xe 1 [(15, .bool false), (0, v21399), (1, v21401)] ?_
 refine kF 15 rfl ?_
 refine sr r4_3 ?_
 refine xq 2 [(17, v21401), (16, v21399)] ?_
 obtain ⟨r22490, hx22491, hm⟩ := obind hm
 have hSr22497 : St _ _ _ _ _ _ ([] ++ []) := hS22488
 obtain ⟨v22492, h22493, Z22498, A22500, hcl22494, hSc22495, v22502, rfl, rfl, q22501⟩ := correctorlaw6_Text_ok F hSr22497.preL q21398 q21400 hx22491
 have hS22496 := hSr22497.call hSc22495
 have hZ22499 := hSc22495.zle
 replace hS22496 : St _ _ _ _ _ _ [] := hS22496
 refine r_step rfl trivial (o_call hcl22494 rfl rfl rfl) ?_
 refine xe 1 [(5, v22502)] ?_
 refine sr r4_4 ?_
 refine xq 1 [(19, v22502), (5, v22502)] ?_
 obtain ⟨r22503, hx22504, hm⟩ := obind hm
 have hSr22510 : St _ _ _ _ _ _ ([] ++ []) := hS22496
 obtain ⟨v22505, h22506, Z22511, A22513, hcl22507, hSc22508, v22515, c22516, rfl, rfl, q22514⟩ := correctorref6_Tokens_ok F hSr22510.preL q22501 hx22504
 have hS22509 := hSr22510.call hSc22508
 have hZ22512 := hSc22508.zle
 replace hS22509 : St _ _ _ _ _ _ [.gs v22515 c22516 (csz api_Token)] := hS22509
 refine r_step rfl trivial (o_call hcl22507 rfl rfl rfl) ?_
 refine xe 1 [(6, v22515), (5, v22502)] ?_
 refine sr r4_5 ?_
 refine xq 1 [(21, v22515), (6, v22515), (5, v22502)] ?_
 obtain ⟨Z22517, hZ22518, q22519, hS22520⟩ := (hS22509.front 0 rfl).freeze q22514
 replace hS22520 : St _ _ _ _ _ _ [] := hS22520
 obtain ⟨r22521, hx22522, hm⟩ := obind hm
 have hSr22528 : St _ _ _ _ _ _ ([] ++ []) := hS22520
 obtain ⟨v22523, h22524, Z22529, A22531, hcl22525, hSc22526, v22533, c22534, rfl, rfl, q22532⟩ := correctorref9_Rows_ok F hSr22528.preL q22519 hx22522
 have hS22527 := hSr22528.call hSc22526
 have hZ22530 := hSc22526.zle
 replace hS22527 : St _ _ _ _ _ _ [.gs v22533 c22534 (csz api_Row)] := hS22527
 refine r_step rfl trivial (o_call hcl22525 rfl rfl rfl) ?_
 refine xe 1 [(7, v22533), (6, v22515), (5, v22502)] ?_
 refine sq ?_
 refine sr r4_6 ?_
 refine xe 1 [(8, V 0), (7, v22533), (6, v22515), (5, v22502)] ?_
 obtain ⟨o23528, ho23527, hm⟩ := obind hm
 refine W_join [] (fun l h => ∃ Z24446 : Zn, .inl () = o23528 ∧ l = [] ∧ St hs [] Z (0, 0) Z24446 h []) ?_ ?_
 rintro l h24447 ⟨Z24446, rfl, rfl, hS24448⟩
 try dsimp only at hm
 refine sr r4_18 ?_
 refine xe 1 [(4, .bool true)] ?_
 refine rt ?_
 refine ⟨rfl, ?_⟩
 obtain rfl := Option.some.inj hm
 refine ⟨_, _, _, ResL.tmp rfl (ResL.nil), hS24448, ?_⟩
 exact rfl
 refine bk 0 ?_
 refine lp [5, 6, 7, 8] (fun n l h => ∃ Z23529 : Zn, ∃ x23530 : List UInt8, ∃ x23533 : List api_Token, ∃ x23536 : List api_Row, ∃ x23540 : Int, ∃ v23532 : Value, ∃ v23535 : Value, ∃ v23538 : Value, ∃ c23539 : List Value, correctorlaw9_RowsEntries_l0 F a0 a1 n x23530 x23533 x23536 x23540 = some o23528 ∧ RS (α := UInt8) Z23529 v23532 x23530 ∧ RS (α := api_Token) Z23529 v23535 x23533 ∧ RCs (α := api_Row) Z23529 c23539 x23536 ∧ l = [(5, v23532), (6, v23535), (7, v23538), (8, V x23540)] ∧ St hs [] Z (0, 0) Z23529 h [.gs v23538 c23539 (csz api_Row)]) F ⟨_, r22490, r22503, r22521, 0, v22502, v22515, v22533, c22534, ho23527, (q22501.mono (hZ22512.trans (hZ22518.trans hZ22530))), (q22519.mono hZ22530), q22532, rfl, hS22527⟩ ?_
 rintro n23543 l h23541 ⟨Z23529, x23530, x23533, x23536, x23540, v23532, v23535, v23538, c23539, ho23527, q23531, q23534, q23537, rfl, hS23542⟩
 rcases n23543 with _ | n23543
 cases (show none = some o23528 from ho23527)
 rw [correctorlaw9_RowsEntries_l0] at ho23527
 refine sq ?_
 refine sr r4_7 ?_
 refine xq 2 [(24, v23538), (23, V x23540), (5, v23532), (6, v23535), (7, v23538), (8, V x23540)] ?_
 refine r_step rfl trivial (o_len rfl (hS23542.glen (i := 0) rfl q23537) ⟨_, Go.Proofs.Try.underlying29⟩) ?_
 rcases ifs ho23527 with ⟨hp23546, ho23527⟩ | ⟨hp23546, ho23527⟩
 refine r_step rfl trivial (o_cmp rfl rfl (c_lss_T hp23546)) ?_
 refine xf [(26, .bool true), (5, v23532), (6, v23535), (7, v23538), (8, V x23540)] ?_
 refine kT 26 rfl ?_
 refine sq ?_
 refine bk 1 ?_
 refine sr r4_9 ?_
 refine xq 4 [(33, V x23540), (32, v23538), (31, v23535), (30, v23532), (5, v23532), (6, v23535), (7, v23538), (8, V x23540)] ?_
 obtain ⟨hc23547, ho23527⟩ := chk ho23527
 refine r_step rfl trivial (o_index rfl rfl (by kernel_rfl : slTy _ _ = some (csz api_Row)) (hS23542.gbased (j := 0) rfl q23537 (by omega)) hc23547.1 hc23547.2) ?_
 obtain ⟨x23548, hx23549, ho23527⟩ := obind ho23527
 obtain ⟨cs23550, hc23551, he23552, ht23553⟩ := hS23542.gel (j := 0) rfl q23537 (i := x23540) hx23549
 obtain rfl := rc_api_Row hc23551
 refine r_step rfl trivial (o_lde (w := .agg #[V x23548.Kind, V x23548.From, V x23548.To, V x23548.Col]) he23552 rfl (by kernel_rfl)) ?_
 obtain ⟨r23554, hx23555, ho23527⟩ := obind ho23527
 have hSr23561 : St _ _ _ _ _ _ ([] ++ [.gs v23538 c23539 (csz api_Row)]) := hS23542
 obtain ⟨v23556, h23557, Z23562, A23564, hcl23558, hSc23559, v23566, c23567, rfl, rfl, q23565⟩ := rows_Entries_ok F hSr23561.preL q23531 q23534 hx23555
 have hS23560 := hSr23561.call hSc23559
 have hZ23563 := hSc23559.zle
 replace hS23560 : St _ _ _ _ _ _ [.gs v23566 c23567 (csz rows_Entry), .gs v23538 c23539 (csz api_Row)] := hS23560
 refine r_step rfl trivial (o_call hcl23558 rfl rfl rfl) ?_
 refine xe 5 [(10, V r23554.2), (9, v23566), (5, v23532), (6, v23535), (7, v23538), (8, V x23540)] ?_
 refine sr r4_10 ?_
 refine xq 3 [(42, V x23540), (41, v23538), (40, v23535), (10, V r23554.2), (9, v23566), (5, v23532), (6, v23535), (7, v23538), (8, V x23540)] ?_
 obtain ⟨hc23568, ho23527⟩ := chk ho23527
 refine r_step rfl trivial (o_index rfl rfl (by kernel_rfl : slTy _ _ = some (csz api_Row)) (hS23560.gbased (j := 1) rfl (q23537.mono hZ23563) (by omega)) hc23568.1 hc23568.2) ?_
 obtain ⟨x23569, hx23570, ho23527⟩ := obind ho23527
 obtain ⟨cs23571, hc23572, he23573, ht23574⟩ := hS23560.gel (j := 1) rfl (q23537.mono hZ23563) (i := x23540) hx23570
 obtain rfl := rc_api_Row hc23572
 refine r_step rfl trivial (o_lde (w := .agg #[V x23569.Kind, V x23569.From, V x23569.To, V x23569.Col]) he23573 rfl (by kernel_rfl)) ?_
 obtain ⟨r23575, hx23576, ho23527⟩ := obind ho23527
 have hSr23582 : St _ _ _ _ _ _ ([] ++ [.gs v23566 c23567 (csz rows_Entry), .gs v23538 c23539 (csz api_Row)]) := hS23560
 obtain ⟨v23577, h23578, Z23583, A23585, hcl23579, hSc23580, v23587, c23588, rfl, rfl, q23586⟩ := correctorref9_Entries_ok F hSr23582.preL (q23534.mono hZ23563) hx23576
 have hS23581 := hSr23582.call hSc23580
 have hZ23584 := hSc23580.zle
 replace hS23581 : St _ _ _ _ _ _ [.gs v23587 c23588 (csz correctorref9_Entry), .gs v23566 c23567 (csz rows_Entry), .gs v23538 c23539 (csz api_Row)] := hS23581
 refine r_step rfl trivial (o_call hcl23579 rfl rfl rfl) ?_
 refine xe 5 [(12, V r23575.2), (11, v23587), (10, V r23554.2), (9, v23566), (5, v23532), (6, v23535), (7, v23538), (8, V x23540)] ?_
 refine sq ?_
 refine sr r4_11 ?_
 refine xq 1 [(48, v23566), (12, V r23575.2), (11, v23587), (10, V r23554.2), (9, v23566), (5, v23532), (6, v23535), (7, v23538), (8, V x23540)] ?_
 refine r_step rfl trivial (o_len rfl (hS23581.glen (i := 1) rfl (q23565.mono hZ23584)) ⟨_, Go.Proofs.Try.underlying35⟩) ?_
 refine xq 1 [(50, v23587), (49, V (r23554.1.length : Int)), (12, V r23575.2), (11, v23587), (10, V r23554.2), (9, v23566), (5, v23532), (6, v23535), (7, v23538), (8, V x23540)] ?_
 refine r_step rfl trivial (o_len rfl (hS23581.glen (i := 0) rfl q23586) ⟨_, Go.Proofs.Try.underlying38⟩) ?_
 rcases ifs ho23527 with ⟨hp23593, ho23527⟩ | ⟨hp23593, ho23527⟩
 refine r_step rfl trivial (o_cmp rfl rfl (c_neq_F hp23593)) ?_
 refine xq 3 [(55, V r23575.2), (54, V r23554.2), (53, .bool false), (11, v23587), (9, v23566), (5, v23532), (6, v23535), (7, v23538), (8, V x23540)] ?_
 rcases ifs ho23527 with ⟨hp23594, ho23527⟩ | ⟨hp23594, ho23527⟩
 refine r_step rfl rfl (o_cmp rfl rfl (c_neq_F hp23594)) ?_
 refine xe 1 [(57, .bool false), (11, v23587), (9, v23566), (5, v23532), (6, v23535), (7, v23538), (8, V x23540)] ?_
 refine kF 57 rfl ?_
 refine sr r4_13 ?_
 refine xe 1 [(13, V 0), (11, v23587), (9, v23566), (5, v23532), (6, v23535), (7, v23538), (8, V x23540)] ?_
 obtain ⟨o24015, ho24014, ho23527⟩ := obind ho23527
 refine W_join [5, 6, 7, 8] (fun l h => ∃ Z24421 : Zn, ∃ x24422 : List UInt8, ∃ x24425 : List api_Token, ∃ x24428 : List api_Row, ∃ x24432 : Int, ∃ v24424 : Value, ∃ v24427 : Value, ∃ v24430 : Value, ∃ c24431 : List Value, .inl (x24422, x24425, x24428, x24432) = o24015 ∧ RS (α := UInt8) Z24421 v24424 x24422 ∧ RS (α := api_Token) Z24421 v24427 x24425 ∧ RCs (α := api_Row) Z24421 c24431 x24428 ∧ l = [(5, v24424), (6, v24427), (7, v24430), (8, V x24432)] ∧ St hs [] Z (0, 0) Z24421 h [.gs v24430 c24431 (csz api_Row)]) ?_ ?_
 rintro l h24433 ⟨Z24421, x24422, x24425, x24428, x24432, v24424, v24427, v24430, c24431, rfl, q24423, q24426, q24429, rfl, hS24434⟩
 try dsimp only at ho23527
 refine rg r4_8 ?_
 refine xe 3 [(8, V (w64 (x24432 + 1))), (5, v24424), (6, v24427), (7, v24430)] ?_
 exact ⟨n23543, Nat.lt_succ_self _, ⟨_, x24422, x24425, x24428, w64 (x24432 + 1), v24424, v24427, v24430, c24431, ho23527, q24423, q24426, q24429, rfl, hS24434⟩⟩
 refine bk 2 ?_
 refine lp [5, 6, 7, 8, 9, 11, 13] (fun n l h => ∃ Z24016 : Zn, ∃ x24017 : List UInt8, ∃ x24020 : List api_Token, ∃ x24023 : List api_Row, ∃ x24027 : Int, ∃ x24028 : List rows_Entry, ∃ x24032 : List correctorref9_Entry, ∃ x24036 : Int, ∃ v24019 : Value, ∃ v24022 : Value, ∃ v24025 : Value, ∃ c24026 : List Value, ∃ v24030 : Value, ∃ c24031 : List Value, ∃ v24034 : Value, ∃ c24035 : List Value, correctorlaw9_RowsEntries_l1 F a0 a1 n x24017 x24020 x24023 x24027 x24028 x24032 x24036 = some o24015 ∧ RS (α := UInt8) Z24016 v24019 x24017 ∧ RS (α := api_Token) Z24016 v24022 x24020 ∧ RCs (α := api_Row) Z24016 c24026 x24023 ∧ RCs (α := rows_Entry) Z24016 c24031 x24028 ∧ RCs (α := correctorref9_Entry) Z24016 c24035 x24032 ∧ l = [(5, v24019), (6, v24022), (7, v24025), (8, V x24027), (9, v24030), (11, v24034), (13, V x24036)] ∧ St hs [] Z (0, 0) Z24016 h [.gs v24025 c24026 (csz api_Row), .gs v24030 c24031 (csz rows_Entry), .gs v24034 c24035 (csz correctorref9_Entry)]) F ⟨_, x23530, x23533, x23536, x23540, r23554.1, r23575.1, 0, v23532, v23535, v23538, c23539, v23566, c23567, v23587, c23588, ho24014, (q23531.mono (hZ23563.trans hZ23584)), (q23534.mono (hZ23563.trans hZ23584)), (q23537.mono (hZ23563.trans hZ23584)), (q23565.mono hZ23584), q23586, rfl, (((hS23581.front 0 rfl).front 1 rfl).front 2 rfl)⟩ ?_
 rintro n24039 l h24037 ⟨Z24016, x24017, x24020, x24023, x24027, x24028, x24032, x24036, v24019, v24022, v24025, c24026, v24030, c24031, v24034, c24035, ho24014, q24018, q24021, q24024, q24029, q24033, rfl, hS24038⟩
 rcases n24039 with _ | n24039
 cases (show none = some o24015 from ho24014)
 rw [correctorlaw9_RowsEntries_l1] at ho24014
 refine sq ?_
 refine sr r4_14 ?_
 refine xq 2 [(59, v24030), (58, V x24036), (5, v24019), (6, v24022), (7, v24025), (8, V x24027), (9, v24030), (11, v24034), (13, V x24036)] ?_
 refine r_step rfl trivial (o_len rfl (hS24038.glen (i := 1) rfl q24029) ⟨_, Go.Proofs.Try.underlying35⟩) ?_
 rcases ifs ho24014 with ⟨hp24042, ho24014⟩ | ⟨hp24042, ho24014⟩
 refine r_step rfl trivial (o_cmp rfl rfl (c_lss_T hp24042)) ?_
 refine xf [(61, .bool true), (5, v24019), (6, v24022), (7, v24025), (8, V x24027), (9, v24030), (11, v24034), (13, V x24036)] ?_
 refine kT 61 rfl ?_
 refine sq ?_
 refine bk 3 ?_
 obtain ⟨o24207, ho24206, ho24014⟩ := obind ho24014
 refine W_seqJoin0 [5, 6, 7, 8, 9, 11, 13] (fun l h => ∃ Z24371 : Zn, ∃ x24372 : List UInt8, ∃ x24375 : List api_Token, ∃ x24378 : List api_Row, ∃ x24382 : List rows_Entry, ∃ x24386 : List correctorref9_Entry, ∃ v24374 : Value, ∃ v24377 : Value, ∃ v24380 : Value, ∃ c24381 : List Value, ∃ v24384 : Value, ∃ c24385 : List Value, ∃ v24388 : Value, ∃ c24389 : List Value, .inl (x24372, x24375, x24378, x24382, x24386) = o24207 ∧ RS (α := UInt8) Z24371 v24374 x24372 ∧ RS (α := api_Token) Z24371 v24377 x24375 ∧ RCs (α := api_Row) Z24371 c24381 x24378 ∧ RCs (α := rows_Entry) Z24371 c24385 x24382 ∧ RCs (α := correctorref9_Entry) Z24371 c24389 x24386 ∧ l = [(5, v24374), (6, v24377), (7, v24380), (8, V x24027), (9, v24384), (11, v24388), (13, V x24036)] ∧ St hs [] Z (0, 0) Z24371 h [.gs v24380 c24381 (csz api_Row), .gs v24384 c24385 (csz rows_Entry), .gs v24388 c24389 (csz correctorref9_Entry)]) (by kernel_rfl) ?_ ?_
 rintro l h24390 ⟨Z24371, x24372, x24375, x24378, x24382, x24386, v24374, v24377, v24380, c24381, v24384, c24385, v24388, c24389, rfl, q24373, q24376, q24379, q24383, q24387, rfl, hS24391⟩
 try dsimp only at ho24014
 refine rg r4_15 ?_
 refine xe 3 [(13, V (w64 (x24036 + 1))), (5, v24374), (6, v24377), (7, v24380), (8, V x24027), (9, v24384), (11, v24388)] ?_
 exact ⟨n24039, Nat.lt_succ_self _, ⟨_, x24372, x24375, x24378, x24027, x24382, x24386, w64 (x24036 + 1), v24374, v24377, v24380, c24381, v24384, c24385, v24388, c24389, ho24014, q24373, q24376, q24379, q24383, q24387, rfl, hS24391⟩⟩
 refine rgF r4_16 hS24038 ?_
 intro bs24208 h24209 hlv24211 hS24210
 refine yq 2 [(65, V x24036), (64, v24030), (5, v24019), (6, v24022), (7, v24025), (8, V x24027), (9, v24030), (11, v24034), (13, V x24036)] ?_
 obtain ⟨hc24212, ho24206⟩ := chk ho24206
 refine e_val rfl trivial (o_index rfl rfl (by kernel_rfl : slTy _ _ = some (csz rows_Entry)) (hS24210.gbased (j := 1) rfl q24029 (by omega)) hc24212.1 hc24212.2) ?_
 refine yq 1 [(67, .pointer (some (elemA v24030 x24036 (csz rows_Entry) 0))), (5, v24019), (6, v24022), (7, v24025), (8, V x24027), (9, v24030), (11, v24034), (13, V x24036)] ?_
 obtain ⟨x24213, hx24214, ho24206⟩ := obind ho24206
 obtain ⟨cs24215, hc24216, he24217, ht24218⟩ := hS24210.gel (j := 1) rfl q24029 (i := x24036) hx24214
 obtain rfl := rc_rows_Entry hc24216
 have ps24219 := pos_of hx24214
 have hB24220 := hS24210.gbased (j := 1) rfl q24029 ps24219
 have lt24221 : (baseOf v24030).block < bs24208 := row_ltM (hlv24211.1 _ (List.mem_of_getElem? (i := 1) rfl)) hB24220
 refine e_lookB rfl trivial rfl (by show (baseOf v24030).block < _; omega) (same1 (v := .bool x24213.Dash) trivial) (o_lde (w := .bool x24213.Dash) he24217 rfl (by kernel_rfl)) trivial ?_
 refine yq 2 [(70, V x24036), (69, v24034), (68, .bool x24213.Dash), (5, v24019), (6, v24022), (7, v24025), (8, V x24027), (9, v24030), (11, v24034), (13, V x24036)] ?_
 obtain ⟨hc24222, ho24206⟩ := chk ho24206
 refine e_val rfl trivial (o_index rfl rfl (by kernel_rfl : slTy _ _ = some (csz correctorref9_Entry)) (hS24210.gbased (j := 2) rfl q24033 (by omega)) hc24222.1 hc24222.2) ?_
 refine yq 1 [(72, .pointer (some (elemA v24034 x24036 (csz correctorref9_Entry) 0))), (68, .bool x24213.Dash), (5, v24019), (6, v24022), (7, v24025), (8, V x24027), (9, v24030), (11, v24034), (13, V x24036)] ?_
 obtain ⟨x24223, hx24224, ho24206⟩ := obind ho24206
 obtain ⟨cs24225, hc24226, he24227, ht24228⟩ := hS24210.gel (j := 2) rfl q24033 (i := x24036) hx24224
 obtain rfl := rc_correctorref9_Entry hc24226
 have ps24229 := pos_of hx24224
 have hB24230 := hS24210.gbased (j := 2) rfl q24033 ps24229
 have lt24231 : (baseOf v24034).block < bs24208 := row_ltM (hlv24211.1 _ (List.mem_of_getElem? (i := 2) rfl)) hB24230
 refine e_lookB rfl trivial rfl (by show (baseOf v24034).block < _; omega) (same1 (v := .bool x24223.Dash) trivial) (o_lde (w := .bool x24223.Dash) he24227 rfl (by kernel_rfl)) trivial ?_
 rcases ifs ho24206 with ⟨hp24232, ho24206⟩ | ⟨hp24232, ho24206⟩
 refine e_setb (t := 68) rfl hp24232 ?_
 rcases ifs ho24206 with ⟨hp24233, ho24206⟩ | ⟨hp24233, ho24206⟩
 refine e_setb (t := 73) rfl hp24233 ?_
 refine e_val rfl trivial (o_cmp (w := false) rfl rfl (by kernel_rfl)) ?_
 refine yq 3 [(77, V x24036), (76, v24030), (75, .bool false), (5, v24019), (6, v24022), (7, v24025), (8, V x24027), (9, v24030), (11, v24034), (13, V x24036)] ?_
 obtain ⟨hc24234, ho24206⟩ := chk ho24206
 refine e_val rfl rfl (o_index rfl rfl (by kernel_rfl : slTy _ _ = some (csz rows_Entry)) (hS24210.gbased (j := 1) rfl q24029 (by omega)) hc24234.1 hc24234.2) ?_
 refine yq 1 [(79, .pointer (some (elemA v24030 x24036 (csz rows_Entry) 1))), (75, .bool false), (5, v24019), (6, v24022), (7, v24025), (8, V x24027), (9, v24030), (11, v24034), (13, V x24036)] ?_
 obtain ⟨x24235, hx24236, ho24206⟩ := obind ho24206
 obtain ⟨cs24237, hc24238, he24239, ht24240⟩ := hS24210.gel (j := 1) rfl q24029 (i := x24036) hx24236
 obtain rfl := rc_rows_Entry hc24238
 have ps24241 := pos_of hx24236
 have hB24242 := hS24210.gbased (j := 1) rfl q24029 ps24241
 have lt24243 : (baseOf v24030).block < bs24208 := row_ltM (hlv24211.1 _ (List.mem_of_getElem? (i := 1) rfl)) hB24242
 refine e_lookB rfl rfl rfl (by show (baseOf v24030).block < _; omega) (same1 (v := V x24235.Col) trivial) (o_lde (w := V x24235.Col) he24239 rfl (by kernel_rfl)) trivial ?_
 refine yq 2 [(82, V x24036), (81, v24034), (80, V x24235.Col), (75, .bool false), (5, v24019), (6, v24022), (7, v24025), (8, V x24027), (9, v24030), (11, v24034), (13, V x24036)] ?_
 obtain ⟨hc24244, ho24206⟩ := chk ho24206
 refine e_val rfl rfl (o_index rfl rfl (by kernel_rfl : slTy _ _ = some (csz correctorref9_Entry)) (hS24210.gbased (j := 2) rfl q24033 (by omega)) hc24244.1 hc24244.2) ?_
 refine yq 1 [(84, .pointer (some (elemA v24034 x24036 (csz correctorref9_Entry) 1))), (80, V x24235.Col), (75, .bool false), (5, v24019), (6, v24022), (7, v24025), (8, V x24027), (9, v24030), (11, v24034), (13, V x24036)] ?_
 obtain ⟨x24245, hx24246, ho24206⟩ := obind ho24206
 obtain ⟨cs24247, hc24248, he24249, ht24250⟩ := hS24210.gel (j := 2) rfl q24033 (i := x24036) hx24246
 obtain rfl := rc_correctorref9_Entry hc24248
 have ps24251 := pos_of hx24246
 have hB24252 := hS24210.gbased (j := 2) rfl q24033 ps24251
 have lt24253 : (baseOf v24034).block < bs24208 := row_ltM (hlv24211.1 _ (List.mem_of_getElem? (i := 2) rfl)) hB24252
 refine e_lookB rfl rfl rfl (by show (baseOf v24034).block < _; omega) (same1 (v := V x24245.Col) trivial) (o_lde (w := V x24245.Col) he24249 rfl (by kernel_rfl)) trivial ?_
 rcases ifs ho24206 with ⟨hp24254, ho24206⟩ | ⟨hp24254, ho24206⟩
 refine e_val rfl rfl (o_cmp rfl rfl (c_neq_F hp24254)) ?_
 refine yq 4 [(90, V x24036), (89, v24030), (88, .bool false), (5, v24019), (6, v24022), (7, v24025), (8, V x24027), (9, v24030), (11, v24034), (13, V x24036)] ?_
 obtain ⟨hc24255, ho24206⟩ := chk ho24206
 refine e_val rfl rfl (o_index rfl rfl (by kernel_rfl : slTy _ _ = some (csz rows_Entry)) (hS24210.gbased (j := 1) rfl q24029 (by omega)) hc24255.1 hc24255.2) ?_
 refine yq 1 [(92, .pointer (some (elemA v24030 x24036 (csz rows_Entry) 2))), (88, .bool false), (5, v24019), (6, v24022), (7, v24025), (8, V x24027), (9, v24030), (11, v24034), (13, V x24036)] ?_
 obtain ⟨x24256, hx24257, ho24206⟩ := obind ho24206
 obtain ⟨cs24258, hc24259, he24260, ht24261⟩ := hS24210.gel (j := 1) rfl q24029 (i := x24036) hx24257
 obtain rfl := rc_rows_Entry hc24259
 have ps24262 := pos_of hx24257
 have hB24263 := hS24210.gbased (j := 1) rfl q24029 ps24262
 have lt24264 : (baseOf v24030).block < bs24208 := row_ltM (hlv24211.1 _ (List.mem_of_getElem? (i := 1) rfl)) hB24263
 refine e_lookB rfl rfl rfl (by show (baseOf v24030).block < _; omega) (same1 (v := V x24256.From) trivial) (o_lde (w := V x24256.From) he24260 rfl (by kernel_rfl)) trivial ?_
 refine yq 2 [(95, V x24036), (94, v24034), (93, V x24256.From), (88, .bool false), (5, v24019), (6, v24022), (7, v24025), (8, V x24027), (9, v24030), (11, v24034), (13, V x24036)] ?_
 obtain ⟨hc24265, ho24206⟩ := chk ho24206
 refine e_val rfl rfl (o_index rfl rfl (by kernel_rfl : slTy _ _ = some (csz correctorref9_Entry)) (hS24210.gbased (j := 2) rfl q24033 (by omega)) hc24265.1 hc24265.2) ?_
 refine yq 1 [(97, .pointer (some (elemA v24034 x24036 (csz correctorref9_Entry) 2))), (93, V x24256.From), (88, .bool false), (5, v24019), (6, v24022), (7, v24025), (8, V x24027), (9, v24030), (11, v24034), (13, V x24036)] ?_
 obtain ⟨x24266, hx24267, ho24206⟩ := obind ho24206
 obtain ⟨cs24268, hc24269, he24270, ht24271⟩ := hS24210.gel (j := 2) rfl q24033 (i := x24036) hx24267
 obtain rfl := rc_correctorref9_Entry hc24269
 have ps24272 := pos_of hx24267
 have hB24273 := hS24210.gbased (j := 2) rfl q24033 ps24272
 have lt24274 : (baseOf v24034).block < bs24208 := row_ltM (hlv24211.1 _ (List.mem_of_getElem? (i := 2) rfl)) hB24273
 refine e_lookB rfl rfl rfl (by show (baseOf v24034).block < _; omega) (same1 (v := V x24266.From) trivial) (o_lde (w := V x24266.From) he24270 rfl (by kernel_rfl)) trivial ?_
 rcases ifs ho24206 with ⟨hp24275, ho24206⟩ | ⟨hp24275, ho24206⟩
 refine e_val rfl rfl (o_cmp rfl rfl (c_neq_F hp24275)) ?_
 refine yq 4 [(103, V x24036), (102, v24030), (101, .bool false), (5, v24019), (6, v24022), (7, v24025), (8, V x24027), (9, v24030), (11, v24034), (13, V x24036)] ?_
 obtain ⟨hc24276, ho24206⟩ := chk ho24206
 refine e_val rfl rfl (o_index rfl rfl (by kernel_rfl : slTy _ _ = some (csz rows_Entry)) (hS24210.gbased (j := 1) rfl q24029 (by omega)) hc24276.1 hc24276.2) ?_
 refine yq 1 [(105, .pointer (some (elemA v24030 x24036 (csz rows_Entry) 3))), (101, .bool false), (5, v24019), (6, v24022), (7, v24025), (8, V x24027), (9, v24030), (11, v24034), (13, V x24036)] ?_
 obtain ⟨x24277, hx24278, ho24206⟩ := obind ho24206
 obtain ⟨cs24279, hc24280, he24281, ht24282⟩ := hS24210.gel (j := 1) rfl q24029 (i := x24036) hx24278
 obtain rfl := rc_rows_Entry hc24280
 have ps24283 := pos_of hx24278
 have hB24284 := hS24210.gbased (j := 1) rfl q24029 ps24283
 have lt24285 : (baseOf v24030).block < bs24208 := row_ltM (hlv24211.1 _ (List.mem_of_getElem? (i := 1) rfl)) hB24284
 refine e_lookB rfl rfl rfl (by show (baseOf v24030).block < _; omega) (same1 (v := V x24277.To) trivial) (o_lde (w := V x24277.To) he24281 rfl (by kernel_rfl)) trivial ?_
 refine yq 2 [(108, V x24036), (107, v24034), (106, V x24277.To), (101, .bool false), (5, v24019), (6, v24022), (7, v24025), (8, V x24027), (9, v24030), (11, v24034), (13, V x24036)] ?_
 obtain ⟨hc24286, ho24206⟩ := chk ho24206
 refine e_val rfl rfl (o_index rfl rfl (by kernel_rfl : slTy _ _ = some (csz correctorref9_Entry)) (hS24210.gbased (j := 2) rfl q24033 (by omega)) hc24286.1 hc24286.2) ?_
 refine yq 1 [(110, .pointer (some (elemA v24034 x24036 (csz correctorref9_Entry) 3))), (106, V x24277.To), (101, .bool false), (5, v24019), (6, v24022), (7, v24025), (8, V x24027), (9, v24030), (11, v24034), (13, V x24036)] ?_
 obtain ⟨x24287, hx24288, ho24206⟩ := obind ho24206
 obtain ⟨cs24289, hc24290, he24291, ht24292⟩ := hS24210.gel (j := 2) rfl q24033 (i := x24036) hx24288
 obtain rfl := rc_correctorref9_Entry hc24290
 have ps24293 := pos_of hx24288
 have hB24294 := hS24210.gbased (j := 2) rfl q24033 ps24293
 have lt24295 : (baseOf v24034).block < bs24208 := row_ltM (hlv24211.1 _ (List.mem_of_getElem? (i := 2) rfl)) hB24294
 refine e_lookB rfl rfl rfl (by show (baseOf v24034).block < _; omega) (same1 (v := V x24287.To) trivial) (o_lde (w := V x24287.To) he24291 rfl (by kernel_rfl)) trivial ?_
 rcases ifs ho24206 with ⟨hp24296, ho24206⟩ | ⟨hp24296, ho24206⟩
 refine e_val rfl rfl (o_cmp rfl rfl (c_neq_F hp24296)) ?_
 refine ye 1 [(113, .bool false), (5, v24019), (6, v24022), (7, v24025), (8, V x24027), (9, v24030), (11, v24034), (13, V x24036)] ?_
 have hS24297 := hS24210.unres
 refine kF 113 rfl ?_
 obtain rfl := Option.some.inj ho24206
 exact ⟨_, x24017, x24020, x24023, x24028, x24032, v24019, v24022, v24025, c24026, v24030, c24031, v24034, c24035, rfl, q24018, q24021, q24024, q24029, q24033, rfl, hS24297⟩
 refine e_val rfl rfl (o_cmp rfl rfl (c_neq_T hp24296)) ?_
 refine ye 1 [(113, .bool true), (5, v24019), (6, v24022), (7, v24025), (8, V x24027), (9, v24030), (11, v24034), (13, V x24036)] ?_
 have hS24298 := hS24210.unres
 refine cT 113 rfl ?_
 refine sr r4_17 ?_
 refine xe 1 [(4, .bool false)] ?_
 refine rt ?_
 refine blkX_ret ?_
 refine blkX_ret ?_
 refine blkX_ret ?_
 refine blkX_ret ?_
 refine ⟨rfl, ?_⟩
 obtain rfl := Option.some.inj ho24206
 obtain rfl := Option.some.inj ho24014
 obtain rfl := Option.some.inj ho23527
 obtain rfl := Option.some.inj hm
 refine ⟨_, _, _, ResL.tmp rfl (ResL.nil), hS24298, ?_⟩
 exact rfl
 refine e_val rfl rfl (o_cmp rfl rfl (c_neq_T hp24275)) ?_
 refine ye 14 [(113, .bool true), (5, v24019), (6, v24022), (7, v24025), (8, V x24027), (9, v24030), (11, v24034), (13, V x24036)] ?_
 have hS24299 := hS24210.unres
 refine cT 113 rfl ?_
 refine sr r4_17 ?_
 refine xe 1 [(4, .bool false)] ?_
 refine rt ?_
 refine blkX_ret ?_
 refine blkX_ret ?_
 refine blkX_ret ?_
 refine blkX_ret ?_
 refine ⟨rfl, ?_⟩
 obtain rfl := Option.some.inj ho24206
 obtain rfl := Option.some.inj ho24014
 obtain rfl := Option.some.inj ho23527
 obtain rfl := Option.some.inj hm
 refine ⟨_, _, _, ResL.tmp rfl (ResL.nil), hS24299, ?_⟩
 exact rfl
 refine e_val rfl rfl (o_cmp rfl rfl (c_neq_T hp24254)) ?_
 refine ye 27 [(113, .bool true), (5, v24019), (6, v24022), (7, v24025), (8, V x24027), (9, v24030), (11, v24034), (13, V x24036)] ?_
 have hS24300 := hS24210.unres
 refine cT 113 rfl ?_
 refine sr r4_17 ?_
 refine xe 1 [(4, .bool false)] ?_
 refine rt ?_
 refine blkX_ret ?_
 refine blkX_ret ?_
 refine blkX_ret ?_
 refine blkX_ret ?_
 refine ⟨rfl, ?_⟩
 obtain rfl := Option.some.inj ho24206
 obtain rfl := Option.some.inj ho24014
 obtain rfl := Option.some.inj ho23527
 obtain rfl := Option.some.inj hm
 refine ⟨_, _, _, ResL.tmp rfl (ResL.nil), hS24300, ?_⟩
 exact rfl
 refine e_setb (t := 73) rfl (Bool.eq_false_iff.2 hp24233) ?_
 refine e_val rfl trivial (o_cmp (w := true) rfl rfl (by kernel_rfl)) ?_
 refine ye 39 [(113, .bool true), (5, v24019), (6, v24022), (7, v24025), (8, V x24027), (9, v24030), (11, v24034), (13, V x24036)] ?_
 have hS24301 := hS24210.unres
 refine cT 113 rfl ?_
 refine sr r4_17 ?_
 refine xe 1 [(4, .bool false)] ?_
 refine rt ?_
 refine blkX_ret ?_
 refine blkX_ret ?_
 refine blkX_ret ?_
 refine blkX_ret ?_
 refine ⟨rfl, ?_⟩
 obtain rfl := Option.some.inj ho24206
 obtain rfl := Option.some.inj ho24014
 obtain rfl := Option.some.inj ho23527
 obtain rfl := Option.some.inj hm
 refine ⟨_, _, _, ResL.tmp rfl (ResL.nil), hS24301, ?_⟩
 exact rfl
 refine e_setb (t := 68) rfl (Bool.eq_false_iff.2 hp24232) ?_
 rcases ifs ho24206 with ⟨hp24302, ho24206⟩ | ⟨hp24302, ho24206⟩
 refine e_setb (t := 73) rfl hp24302 ?_
 refine e_val rfl trivial (o_cmp (w := true) rfl rfl (by kernel_rfl)) ?_
 refine ye 39 [(113, .bool true), (5, v24019), (6, v24022), (7, v24025), (8, V x24027), (9, v24030), (11, v24034), (13, V x24036)] ?_
 have hS24303 := hS24210.unres
 refine cT 113 rfl ?_
 refine sr r4_17 ?_
 refine xe 1 [(4, .bool false)] ?_
 refine rt ?_
 refine blkX_ret ?_
 refine blkX_ret ?_
 refine blkX_ret ?_
 refine blkX_ret ?_
 refine ⟨rfl, ?_⟩
 obtain rfl := Option.some.inj ho24206
 obtain rfl := Option.some.inj ho24014
 obtain rfl := Option.some.inj ho23527
 obtain rfl := Option.some.inj hm
 refine ⟨_, _, _, ResL.tmp rfl (ResL.nil), hS24303, ?_⟩
 exact rfl
 refine e_setb (t := 73) rfl (Bool.eq_false_iff.2 hp24302) ?_
 refine e_val rfl trivial (o_cmp (w := false) rfl rfl (by kernel_rfl)) ?_
 refine yq 3 [(77, V x24036), (76, v24030), (75, .bool false), (5, v24019), (6, v24022), (7, v24025), (8, V x24027), (9, v24030), (11, v24034), (13, V x24036)] ?_
 obtain ⟨hc24304, ho24206⟩ := chk ho24206
 refine e_val rfl rfl (o_index rfl rfl (by kernel_rfl : slTy _ _ = some (csz rows_Entry)) (hS24210.gbased (j := 1) rfl q24029 (by omega)) hc24304.1 hc24304.2) ?_
 refine yq 1 [(79, .pointer (some (elemA v24030 x24036 (csz rows_Entry) 1))), (75, .bool false), (5, v24019), (6, v24022), (7, v24025), (8, V x24027), (9, v24030), (11, v24034), (13, V x24036)] ?_
 obtain ⟨x24305, hx24306, ho24206⟩ := obind ho24206
 obtain ⟨cs24307, hc24308, he24309, ht24310⟩ := hS24210.gel (j := 1) rfl q24029 (i := x24036) hx24306
 obtain rfl := rc_rows_Entry hc24308
 have ps24311 := pos_of hx24306
 have hB24312 := hS24210.gbased (j := 1) rfl q24029 ps24311
 have lt24313 : (baseOf v24030).block < bs24208 := row_ltM (hlv24211.1 _ (List.mem_of_getElem? (i := 1) rfl)) hB24312
 refine e_lookB rfl rfl rfl (by show (baseOf v24030).block < _; omega) (same1 (v := V x24305.Col) trivial) (o_lde (w := V x24305.Col) he24309 rfl (by kernel_rfl)) trivial ?_
 refine yq 2 [(82, V x24036), (81, v24034), (80, V x24305.Col), (75, .bool false), (5, v24019), (6, v24022), (7, v24025), (8, V x24027), (9, v24030), (11, v24034), (13, V x24036)] ?_
 obtain ⟨hc24314, ho24206⟩ := chk ho24206
 refine e_val rfl rfl (o_index rfl rfl (by kernel_rfl : slTy _ _ = some (csz correctorref9_Entry)) (hS24210.gbased (j := 2) rfl q24033 (by omega)) hc24314.1 hc24314.2) ?_
 refine yq 1 [(84, .pointer (some (elemA v24034 x24036 (csz correctorref9_Entry) 1))), (80, V x24305.Col), (75, .bool false), (5, v24019), (6, v24022), (7, v24025), (8, V x24027), (9, v24030), (11, v24034), (13, V x24036)] ?_
 obtain ⟨x24315, hx24316, ho24206⟩ := obind ho24206
 obtain ⟨cs24317, hc24318, he24319, ht24320⟩ := hS24210.gel (j := 2) rfl q24033 (i := x24036) hx24316
 obtain rfl := rc_correctorref9_Entry hc24318
 have ps24321 := pos_of hx24316
 have hB24322 := hS24210.gbased (j := 2) rfl q24033 ps24321
 have lt24323 : (baseOf v24034).block < bs24208 := row_ltM (hlv24211.1 _ (List.mem_of_getElem? (i := 2) rfl)) hB24322
 refine e_lookB rfl rfl rfl (by show (baseOf v24034).block < _; omega) (same1 (v := V x24315.Col) trivial) (o_lde (w := V x24315.Col) he24319 rfl (by kernel_rfl)) trivial ?_
 rcases ifs ho24206 with ⟨hp24324, ho24206⟩ | ⟨hp24324, ho24206⟩
 refine e_val rfl rfl (o_cmp rfl rfl (c_neq_F hp24324)) ?_
 refine yq 4 [(90, V x24036), (89, v24030), (88, .bool false), (5, v24019), (6, v24022), (7, v24025), (8, V x24027), (9, v24030), (11, v24034), (13, V x24036)] ?_
 obtain ⟨hc24325, ho24206⟩ := chk ho24206
 refine e_val rfl rfl (o_index rfl rfl (by kernel_rfl : slTy _ _ = some (csz rows_Entry)) (hS24210.gbased (j := 1) rfl q24029 (by omega)) hc24325.1 hc24325.2) ?_
 refine yq 1 [(92, .pointer (some (elemA v24030 x24036 (csz rows_Entry) 2))), (88, .bool false), (5, v24019), (6, v24022), (7, v24025), (8, V x24027), (9, v24030), (11, v24034), (13, V x24036)] ?_
 obtain ⟨x24326, hx24327, ho24206⟩ := obind ho24206
 obtain ⟨cs24328, hc24329, he24330, ht24331⟩ := hS24210.gel (j := 1) rfl q24029 (i := x24036) hx24327
 obtain rfl := rc_rows_Entry hc24329
 have ps24332 := pos_of hx24327
 have hB24333 := hS24210.gbased (j := 1) rfl q24029 ps24332
 have lt24334 : (baseOf v24030).block < bs24208 := row_ltM (hlv24211.1 _ (List.mem_of_getElem? (i := 1) rfl)) hB24333
 refine e_lookB rfl rfl rfl (by show (baseOf v24030).block < _; omega) (same1 (v := V x24326.From) trivial) (o_lde (w := V x24326.From) he24330 rfl (by kernel_rfl)) trivial ?_
 refine yq 2 [(95, V x24036), (94, v24034), (93, V x24326.From), (88, .bool false), (5, v24019), (6, v24022), (7, v24025), (8, V x24027), (9, v24030), (11, v24034), (13, V x24036)] ?_
 obtain ⟨hc24335, ho24206⟩ := chk ho24206
 refine e_val rfl rfl (o_index rfl rfl (by kernel_rfl : slTy _ _ = some (csz correctorref9_Entry)) (hS24210.gbased (j := 2) rfl q24033 (by omega)) hc24335.1 hc24335.2) ?_
 refine yq 1 [(97, .pointer (some (elemA v24034 x24036 (csz correctorref9_Entry) 2))), (93, V x24326.From), (88, .bool false), (5, v24019), (6, v24022), (7, v24025), (8, V x24027), (9, v24030), (11, v24034), (13, V x24036)] ?_
 obtain ⟨x24336, hx24337, ho24206⟩ := obind ho24206
 obtain ⟨cs24338, hc24339, he24340, ht24341⟩ := hS24210.gel (j := 2) rfl q24033 (i := x24036) hx24337
 obtain rfl := rc_correctorref9_Entry hc24339
 have ps24342 := pos_of hx24337
 have hB24343 := hS24210.gbased (j := 2) rfl q24033 ps24342
 have lt24344 : (baseOf v24034).block < bs24208 := row_ltM (hlv24211.1 _ (List.mem_of_getElem? (i := 2) rfl)) hB24343
 refine e_lookB rfl rfl rfl (by show (baseOf v24034).block < _; omega) (same1 (v := V x24336.From) trivial) (o_lde (w := V x24336.From) he24340 rfl (by kernel_rfl)) trivial ?_
 rcases ifs ho24206 with ⟨hp24345, ho24206⟩ | ⟨hp24345, ho24206⟩
 refine e_val rfl rfl (o_cmp rfl rfl (c_neq_F hp24345)) ?_
 refine yq 4 [(103, V x24036), (102, v24030), (101, .bool false), (5, v24019), (6, v24022), (7, v24025), (8, V x24027), (9, v24030), (11, v24034), (13, V x24036)] ?_
 obtain ⟨hc24346, ho24206⟩ := chk ho24206
 refine e_val rfl rfl (o_index rfl rfl (by kernel_rfl : slTy _ _ = some (csz rows_Entry)) (hS24210.gbased (j := 1) rfl q24029 (by omega)) hc24346.1 hc24346.2) ?_
 refine yq 1 [(105, .pointer (some (elemA v24030 x24036 (csz rows_Entry) 3))), (101, .bool false), (5, v24019), (6, v24022), (7, v24025), (8, V x24027), (9, v24030), (11, v24034), (13, V x24036)] ?_
 obtain ⟨x24347, hx24348, ho24206⟩ := obind ho24206
 obtain ⟨cs24349, hc24350, he24351, ht24352⟩ := hS24210.gel (j := 1) rfl q24029 (i := x24036) hx24348
 obtain rfl := rc_rows_Entry hc24350
 have ps24353 := pos_of hx24348
 have hB24354 := hS24210.gbased (j := 1) rfl q24029 ps24353
 have lt24355 : (baseOf v24030).block < bs24208 := row_ltM (hlv24211.1 _ (List.mem_of_getElem? (i := 1) rfl)) hB24354
 refine e_lookB rfl rfl rfl (by show (baseOf v24030).block < _; omega) (same1 (v := V x24347.To) trivial) (o_lde (w := V x24347.To) he24351 rfl (by kernel_rfl)) trivial ?_
 refine yq 2 [(108, V x24036), (107, v24034), (106, V x24347.To), (101, .bool false), (5, v24019), (6, v24022), (7, v24025), (8, V x24027), (9, v24030), (11, v24034), (13, V x24036)] ?_
 obtain ⟨hc24356, ho24206⟩ := chk ho24206
 refine e_val rfl rfl (o_index rfl rfl (by kernel_rfl : slTy _ _ = some (csz correctorref9_Entry)) (hS24210.gbased (j := 2) rfl q24033 (by omega)) hc24356.1 hc24356.2) ?_
 refine yq 1 [(110, .pointer (some (elemA v24034 x24036 (csz correctorref9_Entry) 3))), (106, V x24347.To), (101, .bool false), (5, v24019), (6, v24022), (7, v24025), (8, V x24027), (9, v24030), (11, v24034), (13, V x24036)] ?_
 obtain ⟨x24357, hx24358, ho24206⟩ := obind ho24206
 obtain ⟨cs24359, hc24360, he24361, ht24362⟩ := hS24210.gel (j := 2) rfl q24033 (i := x24036) hx24358
 obtain rfl := rc_correctorref9_Entry hc24360
 have ps24363 := pos_of hx24358
 have hB24364 := hS24210.gbased (j := 2) rfl q24033 ps24363
 have lt24365 : (baseOf v24034).block < bs24208 := row_ltM (hlv24211.1 _ (List.mem_of_getElem? (i := 2) rfl)) hB24364
 refine e_lookB rfl rfl rfl (by show (baseOf v24034).block < _; omega) (same1 (v := V x24357.To) trivial) (o_lde (w := V x24357.To) he24361 rfl (by kernel_rfl)) trivial ?_
 rcases ifs ho24206 with ⟨hp24366, ho24206⟩ | ⟨hp24366, ho24206⟩
 refine e_val rfl rfl (o_cmp rfl rfl (c_neq_F hp24366)) ?_
 refine ye 1 [(113, .bool false), (5, v24019), (6, v24022), (7, v24025), (8, V x24027), (9, v24030), (11, v24034), (13, V x24036)] ?_
 have hS24367 := hS24210.unres
 refine kF 113 rfl ?_
 obtain rfl := Option.some.inj ho24206
 exact ⟨_, x24017, x24020, x24023, x24028, x24032, v24019, v24022, v24025, c24026, v24030, c24031, v24034, c24035, rfl, q24018, q24021, q24024, q24029, q24033, rfl, hS24367⟩
 refine e_val rfl rfl (o_cmp rfl rfl (c_neq_T hp24366)) ?_
 refine ye 1 [(113, .bool true), (5, v24019), (6, v24022), (7, v24025), (8, V x24027), (9, v24030), (11, v24034), (13, V x24036)] ?_
 have hS24368 := hS24210.unres
 refine cT 113 rfl ?_
 refine sr r4_17 ?_
 refine xe 1 [(4, .bool false)] ?_
 refine rt ?_
 refine blkX_ret ?_
 refine blkX_ret ?_
 refine blkX_ret ?_
 refine blkX_ret ?_
 refine ⟨rfl, ?_⟩
 obtain rfl := Option.some.inj ho24206
 obtain rfl := Option.some.inj ho24014
 obtain rfl := Option.some.inj ho23527
 obtain rfl := Option.some.inj hm
 refine ⟨_, _, _, ResL.tmp rfl (ResL.nil), hS24368, ?_⟩
 exact rfl
 refine e_val rfl rfl (o_cmp rfl rfl (c_neq_T hp24345)) ?_
 refine ye 14 [(113, .bool true), (5, v24019), (6, v24022), (7, v24025), (8, V x24027), (9, v24030), (11, v24034), (13, V x24036)] ?_
 have hS24369 := hS24210.unres
 refine cT 113 rfl ?_
 refine sr r4_17 ?_
 refine xe 1 [(4, .bool false)] ?_
 refine rt ?_
 refine blkX_ret ?_
 refine blkX_ret ?_
 refine blkX_ret ?_
 refine blkX_ret ?_
 refine ⟨rfl, ?_⟩
 obtain rfl := Option.some.inj ho24206
 obtain rfl := Option.some.inj ho24014
 obtain rfl := Option.some.inj ho23527
 obtain rfl := Option.some.inj hm
 refine ⟨_, _, _, ResL.tmp rfl (ResL.nil), hS24369, ?_⟩
 exact rfl
 refine e_val rfl rfl (o_cmp rfl rfl (c_neq_T hp24324)) ?_
 refine ye 27 [(113, .bool true), (5, v24019), (6, v24022), (7, v24025), (8, V x24027), (9, v24030), (11, v24034), (13, V x24036)] ?_
 have hS24370 := hS24210.unres
 refine cT 113 rfl ?_
 refine sr r4_17 ?_
 refine xe 1 [(4, .bool false)] ?_
 refine rt ?_
 refine blkX_ret ?_
 refine blkX_ret ?_
 refine blkX_ret ?_
 refine blkX_ret ?_
 refine ⟨rfl, ?_⟩
 obtain rfl := Option.some.inj ho24206
 obtain rfl := Option.some.inj ho24014
 obtain rfl := Option.some.inj ho23527
 obtain rfl := Option.some.inj hm
 refine ⟨_, _, _, ResL.tmp rfl (ResL.nil), hS24370, ?_⟩
 exact rfl
 refine r_step rfl trivial (o_cmp rfl rfl (c_lss_F hp24042)) ?_
 refine xf [(61, .bool false), (5, v24019), (6, v24022), (7, v24025), (8, V x24027), (9, v24030), (11, v24034), (13, V x24036)] ?_
 refine cF 61 rfl ?_
 refine xt 2 ?_
 refine blkX_hit ?_
 obtain rfl := Option.some.inj ho24014
 exact ⟨_, x24017, x24020, x24023, x24027, v24019, v24022, v24025, c24026, rfl, q24018, q24021, q24024, rfl, (hS24038.takeN 1)⟩
 refine r_step rfl rfl (o_cmp rfl rfl (c_neq_T hp23594)) ?_
 refine xe 1 [(57, .bool true), (11, v23587), (9, v23566), (5, v23532), (6, v23535), (7, v23538), (8, V x23540)] ?_
 refine cT 57 rfl ?_
 refine sr r4_12 ?_
 refine xe 1 [(4, .bool false)] ?_
 refine rt ?_
 refine blkX_ret ?_
 refine blkX_ret ?_
 refine ⟨rfl, ?_⟩
 obtain rfl := Option.some.inj ho23527
 obtain rfl := Option.some.inj hm
 refine ⟨_, _, _, ResL.tmp rfl (ResL.nil), hS23581, ?_⟩
 exact rfl
 refine r_step rfl trivial (o_cmp rfl rfl (c_neq_T hp23593)) ?_
 refine xe 5 [(57, .bool true), (11, v23587), (9, v23566), (5, v23532), (6, v23535), (7, v23538), (8, V x23540)] ?_
 refine cT 57 rfl ?_
 refine sr r4_12 ?_
 refine xe 1 [(4, .bool false)] ?_
 refine rt ?_
 refine blkX_ret ?_
 refine blkX_ret ?_
 refine ⟨rfl, ?_⟩
 obtain rfl := Option.some.inj ho23527
 obtain rfl := Option.some.inj hm
 refine ⟨_, _, _, ResL.tmp rfl (ResL.nil), hS23581, ?_⟩
 exact rfl
 refine r_step rfl trivial (o_cmp rfl rfl (c_lss_F hp23546)) ?_
 refine xf [(26, .bool false), (5, v23532), (6, v23535), (7, v23538), (8, V x23540)] ?_
 refine cF 26 rfl ?_
 refine xt 0 ?_
 refine blkX_hit ?_
 obtain rfl := Option.some.inj ho23527
 exact ⟨_, rfl, rfl, (hS23542.takeN 0)⟩
 refine r_setb (t := 14) rfl (Bool.eq_false_iff.2 hp22489) ?_
 refine xe 1 [(15, .bool true), (0, v21399), (1, v21401)] ?_
 refine cT 15 rfl ?_
 refine sr r4_2 ?_
 refine xe 1 [(4, .bool false)] ?_
 refine rt ?_
 refine ⟨rfl, ?_⟩
 obtain rfl := Option.some.inj hm
 refine ⟨_, _, _, ResL.tmp rfl (ResL.nil), hS22488, ?_⟩
 exact rfl

end Go.Proofs.Ytcnbcimnfeekjaa.M
