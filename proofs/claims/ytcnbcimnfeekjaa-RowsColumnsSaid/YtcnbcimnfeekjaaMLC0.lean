/- Printed by a program of this session: Go functions as Lean functions over plain data, and that the calls come to them. -/
import Derived.Test.YtcnbcimnfeekjaaSyJ
import Derived.Test.YtcnbcimnfeekjaaChecked
import Derived.KernelRfl
import Derived.Test.YtcnbcimnfeekjaaMN0
namespace Go.Proofs.Ytcnbcimnfeekjaa.M
open Go Am Sy
open Sy.Cell (rc)
set_option linter.unusedVariables false
set_option linter.unusedSimpArgs false
set_option maxRecDepth 20000

def r8_0 : List COp := [u 6 (.assign (.const (.bool false)))]
def r8_1 : List COp := [u 11 (cf 9 #[] #[]), u 12 (.unOp .not 4 (t 11))]
def r8_2 : List COp := [u 6 (.assign (.const (.bool false)))]
def r8_3 : List COp := [u 13 (.move (t 0)), u 14 (cf 17 #[(t 13), (ci 9)] #[3, 3]), u 15 (.move (t 1)), u 16 (cf 17 #[(t 15), (ci 4)] #[3, 3]), u 0 (.assign (t 14)), u 1 (.assign (t 16))]
def r8_4 : List COpF := [uF 17 (.move (t 0)) .pure [], uF 18 (.slice 9 (.const (.string { data := #[32, 32, 32, 32, 32, 32, 32, 32, 32] })) none (some (t 17)) none) .pure [], uF 19 (.move (t 1)) .pure [], uF 20 (.slice 9 (.const (.string { data := #[9, 9, 9, 9] })) none (some (t 19)) none) .pure [], uF 21 (.binOp .add 9 (t 18) (t 20) 9) .pure [], uF 7 (.assign (t 21)) .pure []]
def r8_5 : List COp := [u 22 (.move (t 2)), u 23 (.binOp .eql 9 (t 22) (.const (.string { data := #[] })) 9), u 24 (.move (t 23)), gN 24 (some 25) (.move (t 2)), gN 24 (some 26) (cb .len #[(t 25)] #[9]), gN 24 (some 27) (.binOp .gtr 3 (t 26) (ci 20) 3), u 28 (.pick (t 24) (.const (.bool true)) (t 27))]
def r8_6 : List COp := [u 6 (.assign (.const (.bool true)))]
def r8_7 : List COp := [u 8 (.assign (ci 0))]
def r8_8 : List COp := [u 29 (.move (t 8)), u 30 (.move (t 2)), u 31 (cb .len #[(t 30)] #[9]), u 32 (.binOp .lss 3 (t 29) (t 31) 3)]
def r8_9 : List COp := [u 33 (.move (t 8)), u 34 (.binOp .add 3 (t 33) (ci 1) 3), u 8 (.assign (t 34))]
def r8_10 : List COp := [u 35 (.move (t 2)), u 36 (.move (t 8)), u 37 (.index 9 (t 35) (t 36)), u 38 (.binOp .lss 5 (t 37) (.const (.int .u8 97)) 5), u 39 (.move (t 38)), gN 39 (some 40) (.move (t 2)), gN 39 (some 41) (.move (t 8)), gN 39 (some 42) (.index 9 (t 40) (t 41)), gN 39 (some 43) (.binOp .gtr 5 (t 42) (.const (.int .u8 122)) 5), u 44 (.pick (t 39) (.const (.bool true)) (t 43))]
def r8_11 : List COp := [u 6 (.assign (.const (.bool true)))]
def r8_12 : List COp := [u 45 (.move (t 7)), u 46 (.binOp .add 9 (.const (.string { data := #[120, 58, 32, 49, 10] })) (t 45) 9), u 47 (.move (t 2)), u 48 (.binOp .add 9 (t 46) (t 47) 9), u 49 (.convert 9 23 (t 48)), u 9 (.assign (t 49))]
def r8_13 : List COp := [u 50 (.move (t 9)), u 51 (.move (t 9)), u 52 (cf 11 #[(t 51)] #[23]), u 53 (cf 12 #[(t 50), (t 52)] #[23, 27]), u 10 (.assign (t 53))]
def r8_14 : List COp := [u 54 (.move (t 10)), u 55 (cb .len #[(t 54)] #[29]), u 56 (.binOp .eql 3 (t 55) (ci 2) 3), u 57 (.move (t 56)), gT 57 (some 58) (.move (t 10)), gT 57 (some 59) (.indexAddr 29 (t 58) (ci 1)), gT 57 (some 60) (.fieldAddr 33 (t 59) 3), gT 57 (some 61) (.load 3 (t 60)), gT 57 (some 62) (.move (t 0)), gT 57 (some 63) (.move (t 1)), gT 57 (some 64) (.binOp .add 3 (t 62) (t 63) 3), gT 57 (some 65) (.binOp .eql 3 (t 61) (t 64) 3), u 66 (.pick (t 57) (t 65) (.const (.bool false))), u 67 (.move (t 66)), gT 67 (some 68) (.move (t 10)), gT 67 (some 69) (.indexAddr 29 (t 68) (ci 1)), gT 67 (some 70) (.fieldAddr 33 (t 69) 0), gT 67 (some 71) (.load 3 (t 70)), gT 67 (some 72) (.binOp .eql 3 (t 71) (ci 5) 3), u 73 (.pick (t 67) (t 72) (.const (.bool false))), u 6 (.assign (t 73))]
def correctorlaw9_RowsColumns_l0 (F : Nat) (a0 : Int) (a1 : Int) (a2 : Str) : Nat → Int → Int → Str → Int → Option (Sum (Int × Int × Str) Bool)
  | 0, _, _, _, _ => none
  | n + 1, x33625, x33626, x33627, x33628 =>
    if x33628 < (a2.b.length : Int) then
      if 0 ≤ x33628 then
        (a2.b[x33628.toNat]?).bind fun x33643 =>
        if (x33643.toNat : Int) < (97 : Int) then
          some (.inr true)
        else
          if 0 ≤ x33628 then
            (a2.b[x33628.toNat]?).bind fun x33647 =>
            if (122 : Int) < (x33647.toNat : Int) then
              some (.inr true)
            else
              correctorlaw9_RowsColumns_l0 F a0 a1 a2 n x33625 x33626 x33627 (w64 (x33628 + 1))
          else none
      else none
    else
      some (.inl (x33625, x33626, x33627))
def correctorlaw9_RowsColumns (F : Nat) (a0 : Int) (a1 : Int) (a2 : Str) : Option Bool :=
  (correctorlaw9_known F).bind fun r33478 =>
  if r33478 = true then
    (correctorlaw9_within F a0 9).bind fun r33486 =>
    (correctorlaw9_within F a1 4).bind fun r33493 =>
    if 0 ≤ (0 : Int) ∧ (0 : Int) ≤ r33486 ∧ r33486 ≤ (([32, 32, 32, 32, 32, 32, 32, 32, 32] : List UInt8).length : Int) then
      if 0 ≤ (0 : Int) ∧ (0 : Int) ≤ r33493 ∧ r33493 ≤ (([9, 9, 9, 9] : List UInt8).length : Int) then
        if ((([32, 32, 32, 32, 32, 32, 32, 32, 32] : List UInt8).take r33486.toNat).drop (0 : Int).toNat).length + ((([9, 9, 9, 9] : List UInt8).take r33493.toNat).drop (0 : Int).toNat).length ≤ 4611686018427387904 then
          if a2 = (⟨[]⟩ : Str) then
            some true
          else
            if (20 : Int) < (a2.b.length : Int) then
              some true
            else
              ((correctorlaw9_RowsColumns_l0 F a0 a1 a2 F r33486 r33493 (⟨((([32, 32, 32, 32, 32, 32, 32, 32, 32] : List UInt8).take r33486.toNat).drop (0 : Int).toNat) ++ ((([9, 9, 9, 9] : List UInt8).take r33493.toNat).drop (0 : Int).toNat)⟩ : Str) 0) : Option (Sum (Int × Int × Str) Bool)).bind fun o => match o with
                | .inl (x33655, x33656, x33657) => if ([120, 58, 32, 49, 10] : List UInt8).length + x33657.b.length ≤ 4611686018427387904 then
                  if ([120, 58, 32, 49, 10] ++ x33657.b : List UInt8).length + a2.b.length ≤ 4611686018427387904 then
                    (correctorref6_Tokens F (([120, 58, 32, 49, 10] ++ x33657.b) ++ a2.b)).bind fun r33670 =>
                    (rows_Rows F (([120, 58, 32, 49, 10] ++ x33657.b) ++ a2.b) r33670).bind fun r33688 =>
                    if (r33688.length : Int) = (2 : Int) then
                      if 0 ≤ (1 : Int) ∧ (1 : Int) < (r33688.length : Int) then
                        (r33688[(1 : Int).toNat]?).bind fun x33704 =>
                        if x33704.Col = (w64 (x33655 + x33656)) then
                          if 0 ≤ (1 : Int) ∧ (1 : Int) < (r33688.length : Int) then
                            (r33688[(1 : Int).toNat]?).bind fun x33712 =>
                            if x33712.Kind = (5 : Int) then
                              some true
                            else
                              some false
                          else none
                        else
                          some false
                      else none
                    else
                      some false
                  else none
                else none
                | .inr y => some y
        else none
      else none
    else none
  else
    some false
theorem correctorlaw9_RowsColumns_ok (F : Nat) {h : AH} {Z : Zn} {a0 : Int} {a1 : Int} {a2 : Str} (hI : Inv Z h) {r : Bool} (hm : correctorlaw9_RowsColumns F a0 a1 a2 = some r) :
    ∃ v h', callI Go.Proofs.Try.prog 8 [V a0, V a1, .string ⟨⟨a2.b⟩⟩] h = some (v, h') ∧ St h [] Z (0, 0) Z h' [] ∧ v = .bool r := by
  refine fn_plain (Q := fun v => v = .bool r) Go.Proofs.Try.func8 rfl rfl hI ?_
  intro hs hS
  unfold correctorlaw9_RowsColumns at hm
  refine sr r8_0 ?_
  refine xe 1 [(0, V a0), (1, V a1), (2, .string ⟨⟨a2.b⟩⟩)] ?_
  refine sq ?_
  refine sr r8_1 ?_
  obtain ⟨r33478, hx33479, hm⟩ := obind hm
  obtain ⟨v33480, h33481, hcl33482, hSc33483, rfl⟩ := correctorlaw9_known_ok F hS.inv  hx33479
  have hS33484 := St.call (A := []) (B := []) hS hSc33483
  replace hS33484 : St _ _ _ _ _ _ [] := hS33484
  refine r_step rfl trivial (o_call hcl33482 rfl rfl rfl) ?_
  rcases ifs hm with ⟨hp33485, hm⟩ | ⟨hp33485, hm⟩
  refine r_setb (t := 11) rfl hp33485 ?_
  refine xe 1 [(12, .bool false), (0, V a0), (1, V a1), (2, .string ⟨⟨a2.b⟩⟩)] ?_
  refine kF 12 rfl ?_
  refine sr r8_3 ?_
  refine xq 1 [(13, V a0), (0, V a0), (1, V a1), (2, .string ⟨⟨a2.b⟩⟩)] ?_
  obtain ⟨r33486, hx33487, hm⟩ := obind hm
  obtain ⟨v33488, h33489, hcl33490, hSc33491, rfl⟩ := correctorlaw9_within_ok F hS33484.inv  hx33487
  have hS33492 := St.call (A := []) (B := []) hS33484 hSc33491
  replace hS33492 : St _ _ _ _ _ _ [] := hS33492
  refine r_step rfl trivial (o_call hcl33490 rfl rfl rfl) ?_
  refine xq 1 [(15, V a1), (14, V r33486), (0, V a0), (1, V a1), (2, .string ⟨⟨a2.b⟩⟩)] ?_
  obtain ⟨r33493, hx33494, hm⟩ := obind hm
  obtain ⟨v33495, h33496, hcl33497, hSc33498, rfl⟩ := correctorlaw9_within_ok F hS33492.inv  hx33494
  have hS33499 := St.call (A := []) (B := []) hS33492 hSc33498
  replace hS33499 : St _ _ _ _ _ _ [] := hS33499
  refine r_step rfl trivial (o_call hcl33497 rfl rfl rfl) ?_
  refine xe 2 [(1, V r33493), (0, V r33486), (2, .string ⟨⟨a2.b⟩⟩)] ?_
  refine srF r8_4 hS33499 ?_
  intro bs33500 h33501 hlv33503 hS33502
  refine yq 1 [(17, V r33486), (1, V r33493), (0, V r33486), (2, .string ⟨⟨a2.b⟩⟩)] ?_
  obtain ⟨hc33504, hm⟩ := chk hm
  refine e_val rfl trivial (o_sslice (bs := [32, 32, 32, 32, 32, 32, 32, 32, 32]) (a := 0) (b := r33486) rfl (by kernel_rfl) rfl ⟨_, rfl⟩ hc33504.1 hc33504.2.1 hc33504.2.2) ?_
  refine yq 1 [(19, V r33493), (18, .string ⟨⟨(([32, 32, 32, 32, 32, 32, 32, 32, 32] : List UInt8).take r33486.toNat).drop (0 : Int).toNat⟩⟩), (1, V r33493), (0, V r33486), (2, .string ⟨⟨a2.b⟩⟩)] ?_
  obtain ⟨hc33505, hm⟩ := chk hm
  refine e_val rfl trivial (o_sslice (bs := [9, 9, 9, 9]) (a := 0) (b := r33493) rfl (by kernel_rfl) rfl ⟨_, rfl⟩ hc33505.1 hc33505.2.1 hc33505.2.2) ?_
  obtain ⟨hc33506, hm⟩ := chk hm
  refine e_val rfl trivial (o_sadd rfl rfl (by simpa using hc33506)) ?_
  refine ye 1 [(7, .string ⟨⟨((([32, 32, 32, 32, 32, 32, 32, 32, 32] : List UInt8).take r33486.toNat).drop (0 : Int).toNat) ++ ((([9, 9, 9, 9] : List UInt8).take r33493.toNat).drop (0 : Int).toNat)⟩⟩), (1, V r33493), (0, V r33486), (2, .string ⟨⟨a2.b⟩⟩)] ?_
  have hS33507 := hS33502.unres
  refine sq ?_
  refine sr r8_5 ?_
  refine xq 1 [(22, .string ⟨⟨a2.b⟩⟩), (7, .string ⟨⟨((([32, 32, 32, 32, 32, 32, 32, 32, 32] : List UInt8).take r33486.toNat).drop (0 : Int).toNat) ++ ((([9, 9, 9, 9] : List UInt8).take r33493.toNat).drop (0 : Int).toNat)⟩⟩), (1, V r33493), (0, V r33486), (2, .string ⟨⟨a2.b⟩⟩)] ?_
  rcases ifs hm with ⟨hp33512, hm⟩ | ⟨hp33512, hm⟩
  refine r_step rfl trivial (o_cmp rfl rfl (c_seql_T (a := a2) (b := (⟨[]⟩ : Str)) hp33512)) ?_
  refine xe 5 [(28, .bool true), (7, .string ⟨⟨((([32, 32, 32, 32, 32, 32, 32, 32, 32] : List UInt8).take r33486.toNat).drop (0 : Int).toNat) ++ ((([9, 9, 9, 9] : List UInt8).take r33493.toNat).drop (0 : Int).toNat)⟩⟩), (1, V r33493), (0, V r33486), (2, .string ⟨⟨a2.b⟩⟩)] ?_
  refine cT 28 rfl ?_
  refine sr r8_6 ?_
  refine xe 1 [(6, .bool true)] ?_
  refine rt ?_
  refine ⟨rfl, ?_⟩
  obtain rfl := Option.some.inj hm
  refine ⟨_, _, _, ResL.tmp rfl (ResL.nil), hS33507, ?_⟩
  exact rfl
  refine r_step rfl trivial (o_cmp rfl rfl (c_seql_F (a := a2) (b := (⟨[]⟩ : Str)) hp33512)) ?_
  refine xq 3 [(26, V (a2.b.length : Int)), (24, .bool false), (7, .string ⟨⟨((([32, 32, 32, 32, 32, 32, 32, 32, 32] : List UInt8).take r33486.toNat).drop (0 : Int).toNat) ++ ((([9, 9, 9, 9] : List UInt8).take r33493.toNat).drop (0 : Int).toNat)⟩⟩), (1, V r33493), (0, V r33486), (2, .string ⟨⟨a2.b⟩⟩)] ?_
  rcases ifs hm with ⟨hp33513, hm⟩ | ⟨hp33513, hm⟩
  refine r_step rfl rfl (o_cmp rfl rfl (c_gtr_T hp33513)) ?_
  refine xe 1 [(28, .bool true), (7, .string ⟨⟨((([32, 32, 32, 32, 32, 32, 32, 32, 32] : List UInt8).take r33486.toNat).drop (0 : Int).toNat) ++ ((([9, 9, 9, 9] : List UInt8).take r33493.toNat).drop (0 : Int).toNat)⟩⟩), (1, V r33493), (0, V r33486), (2, .string ⟨⟨a2.b⟩⟩)] ?_
  refine cT 28 rfl ?_
  refine sr r8_6 ?_
  refine xe 1 [(6, .bool true)] ?_
  refine rt ?_
  refine ⟨rfl, ?_⟩
  obtain rfl := Option.some.inj hm
  refine ⟨_, _, _, ResL.tmp rfl (ResL.nil), hS33507, ?_⟩
  exact rfl
  refine r_step rfl rfl (o_cmp rfl rfl (c_gtr_F hp33513)) ?_
  refine xe 1 [(28, .bool false), (7, .string ⟨⟨((([32, 32, 32, 32, 32, 32, 32, 32, 32] : List UInt8).take r33486.toNat).drop (0 : Int).toNat) ++ ((([9, 9, 9, 9] : List UInt8).take r33493.toNat).drop (0 : Int).toNat)⟩⟩), (1, V r33493), (0, V r33486), (2, .string ⟨⟨a2.b⟩⟩)] ?_
  refine kF 28 rfl ?_
  refine sq ?_
  refine sr r8_7 ?_
  refine xe 1 [(8, V 0), (7, .string ⟨⟨((([32, 32, 32, 32, 32, 32, 32, 32, 32] : List UInt8).take r33486.toNat).drop (0 : Int).toNat) ++ ((([9, 9, 9, 9] : List UInt8).take r33493.toNat).drop (0 : Int).toNat)⟩⟩), (1, V r33493), (0, V r33486), (2, .string ⟨⟨a2.b⟩⟩)] ?_
  obtain ⟨o33623, ho33622, hm⟩ := obind hm
  refine W_join [0, 1, 2, 7] (fun l h => ∃ Z33654 : Zn, ∃ x33655 : Int, ∃ x33656 : Int, ∃ x33657 : Str, .inl (x33655, x33656, x33657) = o33623 ∧ l = [(0, V x33655), (1, V x33656), (2, .string ⟨⟨a2.b⟩⟩), (7, .string ⟨⟨x33657.b⟩⟩)] ∧ St hs [] Z (0, 0) Z33654 h []) ?_ ?_
  rintro l h33658 ⟨Z33654, x33655, x33656, x33657, rfl, rfl, hS33659⟩
  try dsimp only at hm
  refine sr r8_12 ?_
  refine xq 1 [(45, .string ⟨⟨x33657.b⟩⟩), (0, V x33655), (1, V x33656), (2, .string ⟨⟨a2.b⟩⟩)] ?_
  obtain ⟨hc33660, hm⟩ := chk hm
  refine r_step rfl trivial (o_sadd rfl rfl (by simpa using hc33660)) ?_
  refine xq 1 [(47, .string ⟨⟨a2.b⟩⟩), (46, .string ⟨⟨[120, 58, 32, 49, 10] ++ x33657.b⟩⟩), (0, V x33655), (1, V x33656)] ?_
  obtain ⟨hc33661, hm⟩ := chk hm
  refine r_step rfl trivial (o_sadd rfl rfl (by simpa using hc33661)) ?_
  obtain ⟨v33662, h33663, Z33665, ho33668, hZ33666, q33667, hS33664, lw33669⟩ := o_tobytes (P := Go.Proofs.Try.prog) (l := [(48, .string ⟨⟨([120, 58, 32, 49, 10] ++ x33657.b) ++ a2.b⟩⟩), (47, .string ⟨⟨a2.b⟩⟩), (46, .string ⟨⟨[120, 58, 32, 49, 10] ++ x33657.b⟩⟩), (0, V x33655), (1, V x33656)]) (s := 9) (d := 23) (x := .tmp 48) (bs := ([120, 58, 32, 49, 10] ++ x33657.b) ++ a2.b) hS33659 rfl (by kernel_rfl)
  refine r_step rfl trivial ho33668 ?_
  refine xe 1 [(9, v33662), (0, V x33655), (1, V x33656)] ?_
  refine sr r8_13 ?_
  refine xq 2 [(51, v33662), (50, v33662), (0, V x33655), (1, V x33656)] ?_
  obtain ⟨r33670, hx33671, hm⟩ := obind hm
  have hSr33677 : St _ _ _ _ _ _ ([] ++ []) := hS33664
  obtain ⟨v33672, h33673, Z33678, A33680, hcl33674, hSc33675, v33682, c33683, rfl, rfl, q33681⟩ := correctorref6_Tokens_ok F hSr33677.preL q33667 hx33671
  have hS33676 := hSr33677.call hSc33675
  have hZ33679 := hSc33675.zle
  replace hS33676 : St _ _ _ _ _ _ [.gs v33682 c33683 (csz api_Token)] := hS33676
  refine r_step rfl trivial (o_call hcl33674 rfl rfl rfl) ?_
  obtain ⟨Z33684, hZ33685, q33686, hS33687⟩ := (hS33676.front 0 rfl).freeze q33681
  replace hS33687 : St _ _ _ _ _ _ [] := hS33687
  obtain ⟨r33688, hx33689, hm⟩ := obind hm
  have hSr33695 : St _ _ _ _ _ _ ([] ++ []) := hS33687
  obtain ⟨v33690, h33691, Z33696, A33698, hcl33692, hSc33693, v33700, c33701, rfl, rfl, q33699⟩ := rows_Rows_ok F hSr33695.preL (q33667.mono (hZ33679.trans hZ33685)) q33686 hx33689
  have hS33694 := hSr33695.call hSc33693
  have hZ33697 := hSc33693.zle
  replace hS33694 : St _ _ _ _ _ _ [.gs v33700 c33701 (csz api_Row)] := hS33694
  refine r_step rfl trivial (o_call hcl33692 rfl rfl rfl) ?_
  refine xe 1 [(10, v33700), (0, V x33655), (1, V x33656)] ?_
  refine sr r8_14 ?_
  refine xq 1 [(54, v33700), (10, v33700), (0, V x33655), (1, V x33656)] ?_
  refine r_step rfl trivial (o_len rfl (hS33694.glen (i := 0) rfl q33699) ⟨_, Go.Proofs.Try.underlying29⟩) ?_
  rcases ifs hm with ⟨hp33702, hm⟩ | ⟨hp33702, hm⟩
  refine r_step rfl trivial (o_cmp rfl rfl (c_eql_T hp33702)) ?_
  refine xq 2 [(58, v33700), (57, .bool true), (10, v33700), (0, V x33655), (1, V x33656)] ?_
  obtain ⟨hc33703, hm⟩ := chk hm
  refine r_step rfl rfl (o_index rfl rfl (by kernel_rfl : slTy _ _ = some (csz api_Row)) (hS33694.gbased (j := 0) rfl q33699 (by omega)) hc33703.1 hc33703.2) ?_
  refine xq 1 [(60, .pointer (some (elemA v33700 1 (csz api_Row) 3))), (57, .bool true), (10, v33700), (0, V x33655), (1, V x33656)] ?_
  obtain ⟨x33704, hx33705, hm⟩ := obind hm
  obtain ⟨cs33706, hc33707, he33708, ht33709⟩ := hS33694.gel (j := 0) rfl q33699 (i := 1) hx33705
  obtain rfl := rc_api_Row hc33707
  refine r_step rfl rfl (o_lde (w := V x33704.Col) he33708 rfl (by kernel_rfl)) ?_
  refine xq 3 [(64, V (w64 (x33655 + x33656))), (61, V x33704.Col), (57, .bool true), (10, v33700)] ?_
  rcases ifs hm with ⟨hp33710, hm⟩ | ⟨hp33710, hm⟩
  refine r_step rfl rfl (o_cmp rfl rfl (c_eql_T hp33710)) ?_
  refine xq 3 [(68, v33700), (67, .bool true)] ?_
  obtain ⟨hc33711, hm⟩ := chk hm
  refine r_step rfl rfl (o_index rfl rfl (by kernel_rfl : slTy _ _ = some (csz api_Row)) (hS33694.gbased (j := 0) rfl q33699 (by omega)) hc33711.1 hc33711.2) ?_
  refine xq 1 [(70, .pointer (some (elemA v33700 1 (csz api_Row) 0))), (67, .bool true)] ?_
  obtain ⟨x33712, hx33713, hm⟩ := obind hm
  obtain ⟨cs33714, hc33715, he33716, ht33717⟩ := hS33694.gel (j := 0) rfl q33699 (i := 1) hx33713
  obtain rfl := rc_api_Row hc33715
  refine r_step rfl rfl (o_lde (w := V x33712.Kind) he33716 rfl (by kernel_rfl)) ?_
  rcases ifs hm with ⟨hp33718, hm⟩ | ⟨hp33718, hm⟩
  refine r_step rfl rfl (o_cmp rfl rfl (c_eql_T hp33718)) ?_
  refine xe 2 [(6, .bool true)] ?_
  refine rt ?_
  refine ⟨rfl, ?_⟩
  obtain rfl := Option.some.inj hm
  refine ⟨_, _, _, ResL.tmp rfl (ResL.nil), hS33694, ?_⟩
  exact rfl
  refine r_step rfl rfl (o_cmp rfl rfl (c_eql_F hp33718)) ?_
  refine xe 2 [(6, .bool false)] ?_
  refine rt ?_
  refine ⟨rfl, ?_⟩
  obtain rfl := Option.some.inj hm
  refine ⟨_, _, _, ResL.tmp rfl (ResL.nil), hS33694, ?_⟩
  exact rfl
  refine r_step rfl rfl (o_cmp rfl rfl (c_eql_F hp33710)) ?_
  refine xe 9 [(6, .bool false)] ?_
  refine rt ?_
  refine ⟨rfl, ?_⟩
  obtain rfl := Option.some.inj hm
  refine ⟨_, _, _, ResL.tmp rfl (ResL.nil), hS33694, ?_⟩
  exact rfl
  refine r_step rfl trivial (o_cmp rfl rfl (c_eql_F hp33702)) ?_
  refine xe 18 [(6, .bool false)] ?_
  refine rt ?_
  refine ⟨rfl, ?_⟩
  obtain rfl := Option.some.inj hm
  refine ⟨_, _, _, ResL.tmp rfl (ResL.nil), hS33694, ?_⟩
  exact rfl
  refine bk 0 ?_
  refine lp [0, 1, 2, 7, 8] (fun n l h => ∃ Z33624 : Zn, ∃ x33625 : Int, ∃ x33626 : Int, ∃ x33627 : Str, ∃ x33628 : Int, correctorlaw9_RowsColumns_l0 F a0 a1 a2 n x33625 x33626 x33627 x33628 = some o33623 ∧ l = [(0, V x33625), (1, V x33626), (2, .string ⟨⟨a2.b⟩⟩), (7, .string ⟨⟨x33627.b⟩⟩), (8, V x33628)] ∧ St hs [] Z (0, 0) Z33624 h []) F ⟨_, r33486, r33493, (⟨((([32, 32, 32, 32, 32, 32, 32, 32, 32] : List UInt8).take r33486.toNat).drop (0 : Int).toNat) ++ ((([9, 9, 9, 9] : List UInt8).take r33493.toNat).drop (0 : Int).toNat)⟩ : Str), 0, ho33622, rfl, hS33507⟩ ?_
  rintro n33631 l h33629 ⟨Z33624, x33625, x33626, x33627, x33628, ho33622, rfl, hS33630⟩
  rcases n33631 with _ | n33631
  cases (show none = some o33623 from ho33622)
  rw [correctorlaw9_RowsColumns_l0] at ho33622
  refine sq ?_
  refine sr r8_8 ?_
  refine xq 3 [(31, V (a2.b.length : Int)), (29, V x33628), (0, V x33625), (1, V x33626), (2, .string ⟨⟨a2.b⟩⟩), (7, .string ⟨⟨x33627.b⟩⟩), (8, V x33628)] ?_
  rcases ifs ho33622 with ⟨hp33634, ho33622⟩ | ⟨hp33634, ho33622⟩
  refine r_step rfl trivial (o_cmp rfl rfl (c_lss_T hp33634)) ?_
  refine xf [(32, .bool true), (0, V x33625), (1, V x33626), (2, .string ⟨⟨a2.b⟩⟩), (7, .string ⟨⟨x33627.b⟩⟩), (8, V x33628)] ?_
  refine kT 32 rfl ?_
  refine sq ?_
  refine bk 1 ?_
  refine sr r8_10 ?_
  refine xq 2 [(36, V x33628), (35, .string ⟨⟨a2.b⟩⟩), (0, V x33625), (1, V x33626), (2, .string ⟨⟨a2.b⟩⟩), (7, .string ⟨⟨x33627.b⟩⟩), (8, V x33628)] ?_
  obtain ⟨hc33644, ho33622⟩ := chk ho33622
  obtain ⟨x33643, hx33645, ho33622⟩ := obind ho33622
  refine r_step rfl trivial (o_sindex (bs := a2.b) (i := x33628) rfl rfl (by kernel_rfl) hc33644 hx33645) ?_
  rcases ifs ho33622 with ⟨hp33646, ho33622⟩ | ⟨hp33646, ho33622⟩
  refine r_step rfl trivial (o_cmp rfl rfl (c_lss_T hp33646)) ?_
  refine xe 6 [(44, .bool true), (0, V x33625), (1, V x33626), (2, .string ⟨⟨a2.b⟩⟩), (7, .string ⟨⟨x33627.b⟩⟩), (8, V x33628)] ?_
  refine cT 44 rfl ?_
  refine sr r8_11 ?_
  refine xe 1 [(6, .bool true)] ?_
  refine rt ?_
  refine blkX_ret ?_
  refine blkX_ret ?_
  refine ⟨rfl, ?_⟩
  obtain rfl := Option.some.inj ho33622
  obtain rfl := Option.some.inj hm
  refine ⟨_, _, _, ResL.tmp rfl (ResL.nil), hS33630, ?_⟩
  exact rfl
  refine r_step rfl trivial (o_cmp rfl rfl (c_lss_F hp33646)) ?_
  refine xq 3 [(41, V x33628), (40, .string ⟨⟨a2.b⟩⟩), (39, .bool false), (0, V x33625), (1, V x33626), (2, .string ⟨⟨a2.b⟩⟩), (7, .string ⟨⟨x33627.b⟩⟩), (8, V x33628)] ?_
  obtain ⟨hc33648, ho33622⟩ := chk ho33622
  obtain ⟨x33647, hx33649, ho33622⟩ := obind ho33622
  refine r_step rfl rfl (o_sindex (bs := a2.b) (i := x33628) rfl rfl (by kernel_rfl) hc33648 hx33649) ?_
  rcases ifs ho33622 with ⟨hp33650, ho33622⟩ | ⟨hp33650, ho33622⟩
  refine r_step rfl rfl (o_cmp rfl rfl (c_gtr_T hp33650)) ?_
  refine xe 1 [(44, .bool true), (0, V x33625), (1, V x33626), (2, .string ⟨⟨a2.b⟩⟩), (7, .string ⟨⟨x33627.b⟩⟩), (8, V x33628)] ?_
  refine cT 44 rfl ?_
  refine sr r8_11 ?_
  refine xe 1 [(6, .bool true)] ?_
  refine rt ?_
  refine blkX_ret ?_
  refine blkX_ret ?_
  refine ⟨rfl, ?_⟩
  obtain rfl := Option.some.inj ho33622
  obtain rfl := Option.some.inj hm
  refine ⟨_, _, _, ResL.tmp rfl (ResL.nil), hS33630, ?_⟩
  exact rfl
  refine r_step rfl rfl (o_cmp rfl rfl (c_gtr_F hp33650)) ?_
  refine xe 1 [(44, .bool false), (0, V x33625), (1, V x33626), (2, .string ⟨⟨a2.b⟩⟩), (7, .string ⟨⟨x33627.b⟩⟩), (8, V x33628)] ?_
  refine kF 44 rfl ?_
  refine rg r8_9 ?_
  refine xe 3 [(8, V (w64 (x33628 + 1))), (0, V x33625), (1, V x33626), (2, .string ⟨⟨a2.b⟩⟩), (7, .string ⟨⟨x33627.b⟩⟩)] ?_
  exact ⟨n33631, Nat.lt_succ_self _, ⟨_, x33625, x33626, x33627, w64 (x33628 + 1), ho33622, rfl, hS33630⟩⟩
  refine r_step rfl trivial (o_cmp rfl rfl (c_lss_F hp33634)) ?_
  refine xf [(32, .bool false), (0, V x33625), (1, V x33626), (2, .string ⟨⟨a2.b⟩⟩), (7, .string ⟨⟨x33627.b⟩⟩), (8, V x33628)] ?_
  refine cF 32 rfl ?_
  refine xt 0 ?_
  refine blkX_hit ?_
  obtain rfl := Option.some.inj ho33622
  exact ⟨_, x33625, x33626, x33627, rfl, rfl, hS33630⟩
  refine r_setb (t := 11) rfl (Bool.eq_false_iff.2 hp33485) ?_
  refine xe 1 [(12, .bool true), (0, V a0), (1, V a1), (2, .string ⟨⟨a2.b⟩⟩)] ?_
  refine cT 12 rfl ?_
  refine sr r8_2 ?_
  refine xe 1 [(6, .bool false)] ?_
  refine rt ?_
  refine ⟨rfl, ?_⟩
  obtain rfl := Option.some.inj hm
  refine ⟨_, _, _, ResL.tmp rfl (ResL.nil), hS33484, ?_⟩
  exact rfl

end Go.Proofs.Ytcnbcimnfeekjaa.M
