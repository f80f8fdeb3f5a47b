/- Printed by a program of this session: Go functions as Lean functions over plain data, and that the calls come to them. -/
import Derived.Test.YtcnbcimnfeekjaaSyJ
import Derived.Test.YtcnbcimnfeekjaaChecked
import Derived.KernelRfl
import Derived.Test.YtcnbcimnfeekjaaMN0
namespace Go.Proofs.Ytcnbcimnfeekjaa.M
open Go Am Sy
open Sy.Cell (rc)
set_option linter.unusedVariables false
set_option linter.unusedSimpArgs false
set_option maxRecDepth 20000

def r7_0 : List COp := [u 2 (.assign (.const (.bool false)))]
def r7_1 : List COp := [u 9 (cf 9 #[] #[]), u 10 (.unOp .not 4 (t 9))]
def r7_2 : List COp := [u 2 (.assign (.const (.bool false)))]
def r7_3 : List COp := [u 11 (.buildSlice 47 10 #[(0, (.const (.string { data := #[97, 10] }))), (1, (.const (.string { data := #[10, 10] }))), (2, (.const (.string { data := #[35, 32, 99, 10, 45, 32, 98] }))), (3, (.const (.string { data := #[45, 45, 45, 10, 97] }))), (4, (.const (.string { data := #[91, 10, 49, 10, 93, 10, 98] }))), (5, (.const (.string { data := #[97, 58, 32, 124, 10, 32, 32, 120, 10, 32, 32, 121, 10, 122] }))), (6, (.const (.string { data := #[46, 46, 46] }))), (7, (.const (.string { data := #[32, 32, 9, 10] }))), (8, (.const (.string { data := #[91, 10, 45, 45, 45, 10, 93] }))), (9, (.const (.string { data := #[] })))]), u 3 (.assign (t 11))]
def r7_4 : List COp := [u 12 (.buildSlice 22 1 #[(0, (ci 5))]), u 13 (.buildSlice 22 2 #[(0, (ci 1)), (1, (ci 1))]), u 14 (.buildSlice 22 2 #[(0, (ci 1)), (1, (ci 5))]), u 15 (.buildSlice 22 2 #[(0, (ci 4)), (1, (ci 5))]), u 16 (.buildSlice 22 4 #[(0, (ci 5)), (1, (ci 3)), (2, (ci 3)), (3, (ci 5))]), u 17 (.buildSlice 22 4 #[(0, (ci 5)), (1, (ci 2)), (2, (ci 2)), (3, (ci 5))]), u 18 (.buildSlice 22 1 #[(0, (ci 4))]), u 19 (.buildSlice 22 1 #[(0, (ci 1))]), u 20 (.buildSlice 22 3 #[(0, (ci 5)), (1, (ci 4)), (2, (ci 5))]), u 21 (.buildSlice 48 10 #[(0, (t 12)), (1, (t 13)), (2, (t 14)), (3, (t 15)), (4, (t 16)), (5, (t 17)), (6, (t 18)), (7, (t 19)), (8, (t 20)), (9, (.const (.slice none 0 0)))]), u 4 (.assign (t 21))]
def r7_5 : List COp := [u 22 (.move (t 0)), u 23 (.move (t 3)), u 24 (cb .len #[(t 23)] #[47]), u 25 (cf 17 #[(t 22), (t 24)] #[3, 3]), u 5 (.assign (t 25))]
def r7_6 : List COp := [u 26 (.move (t 3)), u 27 (.move (t 5)), u 28 (.indexAddr 47 (t 26) (t 27)), u 29 (.load 9 (t 28)), u 30 (.convert 9 23 (t 29)), u 6 (.assign (t 30))]
def r7_7 : List COp := [u 31 (.move (t 6)), u 32 (.move (t 6)), u 33 (cf 11 #[(t 32)] #[23]), u 34 (cf 12 #[(t 31), (t 33)] #[23, 27]), u 7 (.assign (t 34))]
def r7_8 : List COp := [u 35 (.move (t 7)), u 36 (cb .len #[(t 35)] #[29]), u 37 (.move (t 4)), u 38 (.move (t 5)), u 39 (.indexAddr 48 (t 37) (t 38)), u 40 (.load 22 (t 39)), u 41 (cb .len #[(t 40)] #[22]), u 42 (.binOp .neq 3 (t 36) (t 41) 3)]
def r7_9 : List COp := [u 2 (.assign (.const (.bool false)))]
def r7_10 : List COp := [u 8 (.assign (ci 0))]
def r7_11 : List COp := [u 43 (.move (t 8)), u 44 (.move (t 7)), u 45 (cb .len #[(t 44)] #[29]), u 46 (.binOp .lss 3 (t 43) (t 45) 3)]
def r7_12 : List COp := [u 47 (.move (t 8)), u 48 (.binOp .add 3 (t 47) (ci 1) 3), u 8 (.assign (t 48))]
def r7_13 : List COpF := [uF 49 (.move (t 7)) .pure [], uF 50 (.move (t 8)) .pure [], uF 51 (.indexAddr 29 (t 49) (t 50)) .pure [], uF 52 (.fieldAddr 33 (t 51) 0) .pure [], uF 53 (.load 3 (t 52)) .look [], uF 54 (.move (t 4)) .pure [], uF 55 (.move (t 5)) .pure [], uF 56 (.indexAddr 48 (t 54) (t 55)) .pure [], uF 57 (.load 22 (t 56)) .look [], uF 58 (.move (t 8)) .pure [], uF 59 (.indexAddr 22 (t 57) (t 58)) .pure [], uF 60 (.load 3 (t 59)) .look [], uF 61 (.binOp .neq 3 (t 53) (t 60) 3) .pure []]
def r7_14 : List COp := [u 2 (.assign (.const (.bool false)))]
def r7_15 : List COp := [u 2 (.assign (.const (.bool true)))]
def correctorlaw9_RowsKinds_l0 (F : Nat) (a0 : Int) : Nat → (List (List Int)) → Int → (List api_Row) → Int → Option (Sum Unit Bool)
  | 0, _, _, _, _ => none
  | n + 1, x33146, x33150, x33151, x33155 =>
    if x33155 < (x33151.length : Int) then
      if 0 ≤ x33155 ∧ x33155 < (x33151.length : Int) then
        (x33151[x33155.toNat]?).bind fun x33203 =>
        if 0 ≤ x33150 ∧ x33150 < (x33146.length : Int) then
          (x33146[x33150.toNat]?).bind fun x33213 =>
          if 0 ≤ x33155 ∧ x33155 < (x33213.length : Int) then
            (x33213[x33155.toNat]?).bind fun x33225 =>
            if x33203.Kind = x33225 then
              correctorlaw9_RowsKinds_l0 F a0 n x33146 x33150 x33151 (w64 (x33155 + 1))
            else
              some (.inr false)
          else none
        else none
      else none
    else
      some (.inl ())
def correctorlaw9_RowsKinds (F : Nat) (a0 : Int) : Option Bool :=
  (correctorlaw9_known F).bind fun r32785 =>
  if r32785 = true then
    (correctorlaw9_within F a0 ([(⟨[97, 10]⟩ : Str), (⟨[10, 10]⟩ : Str), (⟨[35, 32, 99, 10, 45, 32, 98]⟩ : Str), (⟨[45, 45, 45, 10, 97]⟩ : Str), (⟨[91, 10, 49, 10, 93, 10, 98]⟩ : Str), (⟨[97, 58, 32, 124, 10, 32, 32, 120, 10, 32, 32, 121, 10, 122]⟩ : Str), (⟨[46, 46, 46]⟩ : Str), (⟨[32, 32, 9, 10]⟩ : Str), (⟨[91, 10, 45, 45, 45, 10, 93]⟩ : Str), (⟨[]⟩ : Str)].length : Int)).bind fun r32884 =>
    if 0 ≤ r32884 ∧ r32884 < ([(⟨[97, 10]⟩ : Str), (⟨[10, 10]⟩ : Str), (⟨[35, 32, 99, 10, 45, 32, 98]⟩ : Str), (⟨[45, 45, 45, 10, 97]⟩ : Str), (⟨[91, 10, 49, 10, 93, 10, 98]⟩ : Str), (⟨[97, 58, 32, 124, 10, 32, 32, 120, 10, 32, 32, 121, 10, 122]⟩ : Str), (⟨[46, 46, 46]⟩ : Str), (⟨[32, 32, 9, 10]⟩ : Str), (⟨[91, 10, 45, 45, 45, 10, 93]⟩ : Str), (⟨[]⟩ : Str)].length : Int) then
      ([(⟨[97, 10]⟩ : Str), (⟨[10, 10]⟩ : Str), (⟨[35, 32, 99, 10, 45, 32, 98]⟩ : Str), (⟨[45, 45, 45, 10, 97]⟩ : Str), (⟨[91, 10, 49, 10, 93, 10, 98]⟩ : Str), (⟨[97, 58, 32, 124, 10, 32, 32, 120, 10, 32, 32, 121, 10, 122]⟩ : Str), (⟨[46, 46, 46]⟩ : Str), (⟨[32, 32, 9, 10]⟩ : Str), (⟨[91, 10, 45, 45, 45, 10, 93]⟩ : Str), (⟨[]⟩ : Str)][r32884.toNat]?).bind fun x32892 =>
      (correctorref6_Tokens F x32892.b).bind fun r32906 =>
      (rows_Rows F x32892.b r32906).bind fun r32924 =>
      if 0 ≤ r32884 ∧ r32884 < (([([5] : List Int), ([1, 1] : List Int), ([1, 5] : List Int), ([4, 5] : List Int), ([5, 3, 3, 5] : List Int), ([5, 2, 2, 5] : List Int), ([4] : List Int), ([1] : List Int), ([5, 4, 5] : List Int), []] : List (List Int)).length : Int) then
        (([([5] : List Int), ([1, 1] : List Int), ([1, 5] : List Int), ([4, 5] : List Int), ([5, 3, 3, 5] : List Int), ([5, 2, 2, 5] : List Int), ([4] : List Int), ([1] : List Int), ([5, 4, 5] : List Int), []] : List (List Int))[r32884.toNat]?).bind fun x32959 =>
        if (r32924.length : Int) = (x32959.length : Int) then
          ((correctorlaw9_RowsKinds_l0 F a0 F ([([5] : List Int), ([1, 1] : List Int), ([1, 5] : List Int), ([4, 5] : List Int), ([5, 3, 3, 5] : List Int), ([5, 2, 2, 5] : List Int), ([4] : List Int), ([1] : List Int), ([5, 4, 5] : List Int), []] : List (List Int)) r32884 r32924 0) : Option (Sum Unit Bool)).bind fun o => match o with
            | .inl () => some true
            | .inr y => some y
        else
          some false
      else none
    else none
  else
    some false
theorem correctorlaw9_RowsKinds_ok (F : Nat) {h : AH} {Z : Zn} {a0 : Int} (hI : Inv Z h) {r : Bool} (hm : correctorlaw9_RowsKinds F a0 = some r) :
    ∃ v h', callI Go.Proofs.Try.prog 7 [V a0] h = some (v, h') ∧ St h [] Z (0, 0) Z h' [] ∧ v = .bool r := by
  refine fn_plain (Q := fun v => v = .bool r) Go.Proofs.Try.func7 rfl rfl hI ?_
  intro hs hS
  unfold correctorlaw9_RowsKinds at hm
  refine sr r7_0 ?_
  refine xe 1 [(0, V a0)] ?_
  refine sq ?_
  refine sr r7_1 ?_
  obtain ⟨r32785, hx32786, hm⟩ := obind hm
  obtain ⟨v32787, h32788, hcl32789, hSc32790, rfl⟩ := correctorlaw9_known_ok F hS.inv  hx32786
  have hS32791 := St.call (A := []) (B := []) hS hSc32790
  replace hS32791 : St _ _ _ _ _ _ [] := hS32791
  refine r_step rfl trivial (o_call hcl32789 rfl rfl rfl) ?_
  rcases ifs hm with ⟨hp32792, hm⟩ | ⟨hp32792, hm⟩
  refine r_setb (t := 9) rfl hp32792 ?_
  refine xe 1 [(10, .bool false), (0, V a0)] ?_
  refine kF 10 rfl ?_
  refine sr r7_3 ?_
  have q32796 : RCs (α := Str) Z [.string ⟨⟨[97, 10]⟩⟩, .string ⟨⟨[10, 10]⟩⟩, .string ⟨⟨[35, 32, 99, 10, 45, 32, 98]⟩⟩, .string ⟨⟨[45, 45, 45, 10, 97]⟩⟩, .string ⟨⟨[91, 10, 49, 10, 93, 10, 98]⟩⟩, .string ⟨⟨[97, 58, 32, 124, 10, 32, 32, 120, 10, 32, 32, 121, 10, 122]⟩⟩, .string ⟨⟨[46, 46, 46]⟩⟩, .string ⟨⟨[32, 32, 9, 10]⟩⟩, .string ⟨⟨[91, 10, 45, 45, 45, 10, 93]⟩⟩, .string ⟨⟨[]⟩⟩] [(⟨[97, 10]⟩ : Str), (⟨[10, 10]⟩ : Str), (⟨[35, 32, 99, 10, 45, 32, 98]⟩ : Str), (⟨[45, 45, 45, 10, 97]⟩ : Str), (⟨[91, 10, 49, 10, 93, 10, 98]⟩ : Str), (⟨[97, 58, 32, 124, 10, 32, 32, 120, 10, 32, 32, 121, 10, 122]⟩ : Str), (⟨[46, 46, 46]⟩ : Str), (⟨[32, 32, 9, 10]⟩ : Str), (⟨[91, 10, 45, 45, 45, 10, 93]⟩ : Str), (⟨[]⟩ : Str)] := RCs.cons (cs := [.string ⟨⟨[97, 10]⟩⟩]) rfl (RCs.cons (cs := [.string ⟨⟨[10, 10]⟩⟩]) rfl (RCs.cons (cs := [.string ⟨⟨[35, 32, 99, 10, 45, 32, 98]⟩⟩]) rfl (RCs.cons (cs := [.string ⟨⟨[45, 45, 45, 10, 97]⟩⟩]) rfl (RCs.cons (cs := [.string ⟨⟨[91, 10, 49, 10, 93, 10, 98]⟩⟩]) rfl (RCs.cons (cs := [.string ⟨⟨[97, 58, 32, 124, 10, 32, 32, 120, 10, 32, 32, 121, 10, 122]⟩⟩]) rfl (RCs.cons (cs := [.string ⟨⟨[46, 46, 46]⟩⟩]) rfl (RCs.cons (cs := [.string ⟨⟨[32, 32, 9, 10]⟩⟩]) rfl (RCs.cons (cs := [.string ⟨⟨[91, 10, 45, 45, 45, 10, 93]⟩⟩]) rfl (RCs.cons (cs := [.string ⟨⟨[]⟩⟩]) rfl (RCs.nil0 _))))))))))
  refine r_row rfl trivial (o_bs (cells := [.string ⟨⟨[97, 10]⟩⟩, .string ⟨⟨[10, 10]⟩⟩, .string ⟨⟨[35, 32, 99, 10, 45, 32, 98]⟩⟩, .string ⟨⟨[45, 45, 45, 10, 97]⟩⟩, .string ⟨⟨[91, 10, 49, 10, 93, 10, 98]⟩⟩, .string ⟨⟨[97, 58, 32, 124, 10, 32, 32, 120, 10, 32, 32, 121, 10, 122]⟩⟩, .string ⟨⟨[46, 46, 46]⟩⟩, .string ⟨⟨[32, 32, 9, 10]⟩⟩, .string ⟨⟨[91, 10, 45, 45, 45, 10, 93]⟩⟩, .string ⟨⟨[]⟩⟩]) (s := 1) (by kernel_rfl)) (by kernel_rfl) hS32791 ?_
  intro v32793 h32794 hS32795
  replace hS32795 : St _ _ _ _ _ _ [.gs v32793 [.string ⟨⟨[97, 10]⟩⟩, .string ⟨⟨[10, 10]⟩⟩, .string ⟨⟨[35, 32, 99, 10, 45, 32, 98]⟩⟩, .string ⟨⟨[45, 45, 45, 10, 97]⟩⟩, .string ⟨⟨[91, 10, 49, 10, 93, 10, 98]⟩⟩, .string ⟨⟨[97, 58, 32, 124, 10, 32, 32, 120, 10, 32, 32, 121, 10, 122]⟩⟩, .string ⟨⟨[46, 46, 46]⟩⟩, .string ⟨⟨[32, 32, 9, 10]⟩⟩, .string ⟨⟨[91, 10, 45, 45, 45, 10, 93]⟩⟩, .string ⟨⟨[]⟩⟩] (csz Str)] := hS32795
  refine xe 1 [(3, v32793), (0, V a0)] ?_
  refine sr r7_4 ?_
  have q32801 : RCs (α := Int) Z [V 5] ([5] : List Int) := RCs.cons (cs := [V 5]) rfl (RCs.nil0 _)
  refine r_row rfl trivial (o_bs (cells := [V 5]) (s := 1) (by kernel_rfl)) (by kernel_rfl) hS32795 ?_
  intro v32798 h32799 hS32800
  replace hS32800 : St _ _ _ _ _ _ [.gs v32798 [V 5] (csz Int), .gs v32793 [.string ⟨⟨[97, 10]⟩⟩, .string ⟨⟨[10, 10]⟩⟩, .string ⟨⟨[35, 32, 99, 10, 45, 32, 98]⟩⟩, .string ⟨⟨[45, 45, 45, 10, 97]⟩⟩, .string ⟨⟨[91, 10, 49, 10, 93, 10, 98]⟩⟩, .string ⟨⟨[97, 58, 32, 124, 10, 32, 32, 120, 10, 32, 32, 121, 10, 122]⟩⟩, .string ⟨⟨[46, 46, 46]⟩⟩, .string ⟨⟨[32, 32, 9, 10]⟩⟩, .string ⟨⟨[91, 10, 45, 45, 45, 10, 93]⟩⟩, .string ⟨⟨[]⟩⟩] (csz Str)] := hS32800
  have q32806 : RCs (α := Int) Z [V 1, V 1] ([1, 1] : List Int) := RCs.cons (cs := [V 1]) rfl (RCs.cons (cs := [V 1]) rfl (RCs.nil0 _))
  refine r_row rfl trivial (o_bs (cells := [V 1, V 1]) (s := 1) (by kernel_rfl)) (by kernel_rfl) hS32800 ?_
  intro v32803 h32804 hS32805
  replace hS32805 : St _ _ _ _ _ _ [.gs v32803 [V 1, V 1] (csz Int), .gs v32798 [V 5] (csz Int), .gs v32793 [.string ⟨⟨[97, 10]⟩⟩, .string ⟨⟨[10, 10]⟩⟩, .string ⟨⟨[35, 32, 99, 10, 45, 32, 98]⟩⟩, .string ⟨⟨[45, 45, 45, 10, 97]⟩⟩, .string ⟨⟨[91, 10, 49, 10, 93, 10, 98]⟩⟩, .string ⟨⟨[97, 58, 32, 124, 10, 32, 32, 120, 10, 32, 32, 121, 10, 122]⟩⟩, .string ⟨⟨[46, 46, 46]⟩⟩, .string ⟨⟨[32, 32, 9, 10]⟩⟩, .string ⟨⟨[91, 10, 45, 45, 45, 10, 93]⟩⟩, .string ⟨⟨[]⟩⟩] (csz Str)] := hS32805
  have q32811 : RCs (α := Int) Z [V 1, V 5] ([1, 5] : List Int) := RCs.cons (cs := [V 1]) rfl (RCs.cons (cs := [V 5]) rfl (RCs.nil0 _))
  refine r_row rfl trivial (o_bs (cells := [V 1, V 5]) (s := 1) (by kernel_rfl)) (by kernel_rfl) hS32805 ?_
  intro v32808 h32809 hS32810
  replace hS32810 : St _ _ _ _ _ _ [.gs v32808 [V 1, V 5] (csz Int), .gs v32803 [V 1, V 1] (csz Int), .gs v32798 [V 5] (csz Int), .gs v32793 [.string ⟨⟨[97, 10]⟩⟩, .string ⟨⟨[10, 10]⟩⟩, .string ⟨⟨[35, 32, 99, 10, 45, 32, 98]⟩⟩, .string ⟨⟨[45, 45, 45, 10, 97]⟩⟩, .string ⟨⟨[91, 10, 49, 10, 93, 10, 98]⟩⟩, .string ⟨⟨[97, 58, 32, 124, 10, 32, 32, 120, 10, 32, 32, 121, 10, 122]⟩⟩, .string ⟨⟨[46, 46, 46]⟩⟩, .string ⟨⟨[32, 32, 9, 10]⟩⟩, .string ⟨⟨[91, 10, 45, 45, 45, 10, 93]⟩⟩, .string ⟨⟨[]⟩⟩] (csz Str)] := hS32810
  have q32816 : RCs (α := Int) Z [V 4, V 5] ([4, 5] : List Int) := RCs.cons (cs := [V 4]) rfl (RCs.cons (cs := [V 5]) rfl (RCs.nil0 _))
  refine r_row rfl trivial (o_bs (cells := [V 4, V 5]) (s := 1) (by kernel_rfl)) (by kernel_rfl) hS32810 ?_
  intro v32813 h32814 hS32815
  replace hS32815 : St _ _ _ _ _ _ [.gs v32813 [V 4, V 5] (csz Int), .gs v32808 [V 1, V 5] (csz Int), .gs v32803 [V 1, V 1] (csz Int), .gs v32798 [V 5] (csz Int), .gs v32793 [.string ⟨⟨[97, 10]⟩⟩, .string ⟨⟨[10, 10]⟩⟩, .string ⟨⟨[35, 32, 99, 10, 45, 32, 98]⟩⟩, .string ⟨⟨[45, 45, 45, 10, 97]⟩⟩, .string ⟨⟨[91, 10, 49, 10, 93, 10, 98]⟩⟩, .string ⟨⟨[97, 58, 32, 124, 10, 32, 32, 120, 10, 32, 32, 121, 10, 122]⟩⟩, .string ⟨⟨[46, 46, 46]⟩⟩, .string ⟨⟨[32, 32, 9, 10]⟩⟩, .string ⟨⟨[91, 10, 45, 45, 45, 10, 93]⟩⟩, .string ⟨⟨[]⟩⟩] (csz Str)] := hS32815
  have q32821 : RCs (α := Int) Z [V 5, V 3, V 3, V 5] ([5, 3, 3, 5] : List Int) := RCs.cons (cs := [V 5]) rfl (RCs.cons (cs := [V 3]) rfl (RCs.cons (cs := [V 3]) rfl (RCs.cons (cs := [V 5]) rfl (RCs.nil0 _))))
  refine r_row rfl trivial (o_bs (cells := [V 5, V 3, V 3, V 5]) (s := 1) (by kernel_rfl)) (by kernel_rfl) hS32815 ?_
  intro v32818 h32819 hS32820
  replace hS32820 : St _ _ _ _ _ _ [.gs v32818 [V 5, V 3, V 3, V 5] (csz Int), .gs v32813 [V 4, V 5] (csz Int), .gs v32808 [V 1, V 5] (csz Int), .gs v32803 [V 1, V 1] (csz Int), .gs v32798 [V 5] (csz Int), .gs v32793 [.string ⟨⟨[97, 10]⟩⟩, .string ⟨⟨[10, 10]⟩⟩, .string ⟨⟨[35, 32, 99, 10, 45, 32, 98]⟩⟩, .string ⟨⟨[45, 45, 45, 10, 97]⟩⟩, .string ⟨⟨[91, 10, 49, 10, 93, 10, 98]⟩⟩, .string ⟨⟨[97, 58, 32, 124, 10, 32, 32, 120, 10, 32, 32, 121, 10, 122]⟩⟩, .string ⟨⟨[46, 46, 46]⟩⟩, .string ⟨⟨[32, 32, 9, 10]⟩⟩, .string ⟨⟨[91, 10, 45, 45, 45, 10, 93]⟩⟩, .string ⟨⟨[]⟩⟩] (csz Str)] := hS32820
  have q32826 : RCs (α := Int) Z [V 5, V 2, V 2, V 5] ([5, 2, 2, 5] : List Int) := RCs.cons (cs := [V 5]) rfl (RCs.cons (cs := [V 2]) rfl (RCs.cons (cs := [V 2]) rfl (RCs.cons (cs := [V 5]) rfl (RCs.nil0 _))))
  refine r_row rfl trivial (o_bs (cells := [V 5, V 2, V 2, V 5]) (s := 1) (by kernel_rfl)) (by kernel_rfl) hS32820 ?_
  intro v32823 h32824 hS32825
  replace hS32825 : St _ _ _ _ _ _ [.gs v32823 [V 5, V 2, V 2, V 5] (csz Int), .gs v32818 [V 5, V 3, V 3, V 5] (csz Int), .gs v32813 [V 4, V 5] (csz Int), .gs v32808 [V 1, V 5] (csz Int), .gs v32803 [V 1, V 1] (csz Int), .gs v32798 [V 5] (csz Int), .gs v32793 [.string ⟨⟨[97, 10]⟩⟩, .string ⟨⟨[10, 10]⟩⟩, .string ⟨⟨[35, 32, 99, 10, 45, 32, 98]⟩⟩, .string ⟨⟨[45, 45, 45, 10, 97]⟩⟩, .string ⟨⟨[91, 10, 49, 10, 93, 10, 98]⟩⟩, .string ⟨⟨[97, 58, 32, 124, 10, 32, 32, 120, 10, 32, 32, 121, 10, 122]⟩⟩, .string ⟨⟨[46, 46, 46]⟩⟩, .string ⟨⟨[32, 32, 9, 10]⟩⟩, .string ⟨⟨[91, 10, 45, 45, 45, 10, 93]⟩⟩, .string ⟨⟨[]⟩⟩] (csz Str)] := hS32825
  have q32831 : RCs (α := Int) Z [V 4] ([4] : List Int) := RCs.cons (cs := [V 4]) rfl (RCs.nil0 _)
  refine r_row rfl trivial (o_bs (cells := [V 4]) (s := 1) (by kernel_rfl)) (by kernel_rfl) hS32825 ?_
  intro v32828 h32829 hS32830
  replace hS32830 : St _ _ _ _ _ _ [.gs v32828 [V 4] (csz Int), .gs v32823 [V 5, V 2, V 2, V 5] (csz Int), .gs v32818 [V 5, V 3, V 3, V 5] (csz Int), .gs v32813 [V 4, V 5] (csz Int), .gs v32808 [V 1, V 5] (csz Int), .gs v32803 [V 1, V 1] (csz Int), .gs v32798 [V 5] (csz Int), .gs v32793 [.string ⟨⟨[97, 10]⟩⟩, .string ⟨⟨[10, 10]⟩⟩, .string ⟨⟨[35, 32, 99, 10, 45, 32, 98]⟩⟩, .string ⟨⟨[45, 45, 45, 10, 97]⟩⟩, .string ⟨⟨[91, 10, 49, 10, 93, 10, 98]⟩⟩, .string ⟨⟨[97, 58, 32, 124, 10, 32, 32, 120, 10, 32, 32, 121, 10, 122]⟩⟩, .string ⟨⟨[46, 46, 46]⟩⟩, .string ⟨⟨[32, 32, 9, 10]⟩⟩, .string ⟨⟨[91, 10, 45, 45, 45, 10, 93]⟩⟩, .string ⟨⟨[]⟩⟩] (csz Str)] := hS32830
  have q32836 : RCs (α := Int) Z [V 1] ([1] : List Int) := RCs.cons (cs := [V 1]) rfl (RCs.nil0 _)
  refine r_row rfl trivial (o_bs (cells := [V 1]) (s := 1) (by kernel_rfl)) (by kernel_rfl) hS32830 ?_
  intro v32833 h32834 hS32835
  replace hS32835 : St _ _ _ _ _ _ [.gs v32833 [V 1] (csz Int), .gs v32828 [V 4] (csz Int), .gs v32823 [V 5, V 2, V 2, V 5] (csz Int), .gs v32818 [V 5, V 3, V 3, V 5] (csz Int), .gs v32813 [V 4, V 5] (csz Int), .gs v32808 [V 1, V 5] (csz Int), .gs v32803 [V 1, V 1] (csz Int), .gs v32798 [V 5] (csz Int), .gs v32793 [.string ⟨⟨[97, 10]⟩⟩, .string ⟨⟨[10, 10]⟩⟩, .string ⟨⟨[35, 32, 99, 10, 45, 32, 98]⟩⟩, .string ⟨⟨[45, 45, 45, 10, 97]⟩⟩, .string ⟨⟨[91, 10, 49, 10, 93, 10, 98]⟩⟩, .string ⟨⟨[97, 58, 32, 124, 10, 32, 32, 120, 10, 32, 32, 121, 10, 122]⟩⟩, .string ⟨⟨[46, 46, 46]⟩⟩, .string ⟨⟨[32, 32, 9, 10]⟩⟩, .string ⟨⟨[91, 10, 45, 45, 45, 10, 93]⟩⟩, .string ⟨⟨[]⟩⟩] (csz Str)] := hS32835
  have q32841 : RCs (α := Int) Z [V 5, V 4, V 5] ([5, 4, 5] : List Int) := RCs.cons (cs := [V 5]) rfl (RCs.cons (cs := [V 4]) rfl (RCs.cons (cs := [V 5]) rfl (RCs.nil0 _)))
  refine r_row rfl trivial (o_bs (cells := [V 5, V 4, V 5]) (s := 1) (by kernel_rfl)) (by kernel_rfl) hS32835 ?_
  intro v32838 h32839 hS32840
  replace hS32840 : St _ _ _ _ _ _ [.gs v32838 [V 5, V 4, V 5] (csz Int), .gs v32833 [V 1] (csz Int), .gs v32828 [V 4] (csz Int), .gs v32823 [V 5, V 2, V 2, V 5] (csz Int), .gs v32818 [V 5, V 3, V 3, V 5] (csz Int), .gs v32813 [V 4, V 5] (csz Int), .gs v32808 [V 1, V 5] (csz Int), .gs v32803 [V 1, V 1] (csz Int), .gs v32798 [V 5] (csz Int), .gs v32793 [.string ⟨⟨[97, 10]⟩⟩, .string ⟨⟨[10, 10]⟩⟩, .string ⟨⟨[35, 32, 99, 10, 45, 32, 98]⟩⟩, .string ⟨⟨[45, 45, 45, 10, 97]⟩⟩, .string ⟨⟨[91, 10, 49, 10, 93, 10, 98]⟩⟩, .string ⟨⟨[97, 58, 32, 124, 10, 32, 32, 120, 10, 32, 32, 121, 10, 122]⟩⟩, .string ⟨⟨[46, 46, 46]⟩⟩, .string ⟨⟨[32, 32, 9, 10]⟩⟩, .string ⟨⟨[91, 10, 45, 45, 45, 10, 93]⟩⟩, .string ⟨⟨[]⟩⟩] (csz Str)] := hS32840
  obtain ⟨Z32843, hZ32844, q32845, hS32846⟩ := (hS32840.front 8 rfl).freeze q32801
  replace hS32846 : St _ _ _ _ _ _ [.gs v32838 [V 5, V 4, V 5] (csz Int), .gs v32833 [V 1] (csz Int), .gs v32828 [V 4] (csz Int), .gs v32823 [V 5, V 2, V 2, V 5] (csz Int), .gs v32818 [V 5, V 3, V 3, V 5] (csz Int), .gs v32813 [V 4, V 5] (csz Int), .gs v32808 [V 1, V 5] (csz Int), .gs v32803 [V 1, V 1] (csz Int), .gs v32793 [.string ⟨⟨[97, 10]⟩⟩, .string ⟨⟨[10, 10]⟩⟩, .string ⟨⟨[35, 32, 99, 10, 45, 32, 98]⟩⟩, .string ⟨⟨[45, 45, 45, 10, 97]⟩⟩, .string ⟨⟨[91, 10, 49, 10, 93, 10, 98]⟩⟩, .string ⟨⟨[97, 58, 32, 124, 10, 32, 32, 120, 10, 32, 32, 121, 10, 122]⟩⟩, .string ⟨⟨[46, 46, 46]⟩⟩, .string ⟨⟨[32, 32, 9, 10]⟩⟩, .string ⟨⟨[91, 10, 45, 45, 45, 10, 93]⟩⟩, .string ⟨⟨[]⟩⟩] (csz Str)] := hS32846
  obtain ⟨Z32847, hZ32848, q32849, hS32850⟩ := (hS32846.front 7 rfl).freeze (q32806.mono hZ32844)
  replace hS32850 : St _ _ _ _ _ _ [.gs v32838 [V 5, V 4, V 5] (csz Int), .gs v32833 [V 1] (csz Int), .gs v32828 [V 4] (csz Int), .gs v32823 [V 5, V 2, V 2, V 5] (csz Int), .gs v32818 [V 5, V 3, V 3, V 5] (csz Int), .gs v32813 [V 4, V 5] (csz Int), .gs v32808 [V 1, V 5] (csz Int), .gs v32793 [.string ⟨⟨[97, 10]⟩⟩, .string ⟨⟨[10, 10]⟩⟩, .string ⟨⟨[35, 32, 99, 10, 45, 32, 98]⟩⟩, .string ⟨⟨[45, 45, 45, 10, 97]⟩⟩, .string ⟨⟨[91, 10, 49, 10, 93, 10, 98]⟩⟩, .string ⟨⟨[97, 58, 32, 124, 10, 32, 32, 120, 10, 32, 32, 121, 10, 122]⟩⟩, .string ⟨⟨[46, 46, 46]⟩⟩, .string ⟨⟨[32, 32, 9, 10]⟩⟩, .string ⟨⟨[91, 10, 45, 45, 45, 10, 93]⟩⟩, .string ⟨⟨[]⟩⟩] (csz Str)] := hS32850
  obtain ⟨Z32851, hZ32852, q32853, hS32854⟩ := (hS32850.front 6 rfl).freeze (q32811.mono (hZ32844.trans hZ32848))
  replace hS32854 : St _ _ _ _ _ _ [.gs v32838 [V 5, V 4, V 5] (csz Int), .gs v32833 [V 1] (csz Int), .gs v32828 [V 4] (csz Int), .gs v32823 [V 5, V 2, V 2, V 5] (csz Int), .gs v32818 [V 5, V 3, V 3, V 5] (csz Int), .gs v32813 [V 4, V 5] (csz Int), .gs v32793 [.string ⟨⟨[97, 10]⟩⟩, .string ⟨⟨[10, 10]⟩⟩, .string ⟨⟨[35, 32, 99, 10, 45, 32, 98]⟩⟩, .string ⟨⟨[45, 45, 45, 10, 97]⟩⟩, .string ⟨⟨[91, 10, 49, 10, 93, 10, 98]⟩⟩, .string ⟨⟨[97, 58, 32, 124, 10, 32, 32, 120, 10, 32, 32, 121, 10, 122]⟩⟩, .string ⟨⟨[46, 46, 46]⟩⟩, .string ⟨⟨[32, 32, 9, 10]⟩⟩, .string ⟨⟨[91, 10, 45, 45, 45, 10, 93]⟩⟩, .string ⟨⟨[]⟩⟩] (csz Str)] := hS32854
  obtain ⟨Z32855, hZ32856, q32857, hS32858⟩ := (hS32854.front 5 rfl).freeze (q32816.mono (hZ32844.trans (hZ32848.trans hZ32852)))
  replace hS32858 : St _ _ _ _ _ _ [.gs v32838 [V 5, V 4, V 5] (csz Int), .gs v32833 [V 1] (csz Int), .gs v32828 [V 4] (csz Int), .gs v32823 [V 5, V 2, V 2, V 5] (csz Int), .gs v32818 [V 5, V 3, V 3, V 5] (csz Int), .gs v32793 [.string ⟨⟨[97, 10]⟩⟩, .string ⟨⟨[10, 10]⟩⟩, .string ⟨⟨[35, 32, 99, 10, 45, 32, 98]⟩⟩, .string ⟨⟨[45, 45, 45, 10, 97]⟩⟩, .string ⟨⟨[91, 10, 49, 10, 93, 10, 98]⟩⟩, .string ⟨⟨[97, 58, 32, 124, 10, 32, 32, 120, 10, 32, 32, 121, 10, 122]⟩⟩, .string ⟨⟨[46, 46, 46]⟩⟩, .string ⟨⟨[32, 32, 9, 10]⟩⟩, .string ⟨⟨[91, 10, 45, 45, 45, 10, 93]⟩⟩, .string ⟨⟨[]⟩⟩] (csz Str)] := hS32858
  obtain ⟨Z32859, hZ32860, q32861, hS32862⟩ := (hS32858.front 4 rfl).freeze (q32821.mono (hZ32844.trans (hZ32848.trans (hZ32852.trans hZ32856))))
  replace hS32862 : St _ _ _ _ _ _ [.gs v32838 [V 5, V 4, V 5] (csz Int), .gs v32833 [V 1] (csz Int), .gs v32828 [V 4] (csz Int), .gs v32823 [V 5, V 2, V 2, V 5] (csz Int), .gs v32793 [.string ⟨⟨[97, 10]⟩⟩, .string ⟨⟨[10, 10]⟩⟩, .string ⟨⟨[35, 32, 99, 10, 45, 32, 98]⟩⟩, .string ⟨⟨[45, 45, 45, 10, 97]⟩⟩, .string ⟨⟨[91, 10, 49, 10, 93, 10, 98]⟩⟩, .string ⟨⟨[97, 58, 32, 124, 10, 32, 32, 120, 10, 32, 32, 121, 10, 122]⟩⟩, .string ⟨⟨[46, 46, 46]⟩⟩, .string ⟨⟨[32, 32, 9, 10]⟩⟩, .string ⟨⟨[91, 10, 45, 45, 45, 10, 93]⟩⟩, .string ⟨⟨[]⟩⟩] (csz Str)] := hS32862
  obtain ⟨Z32863, hZ32864, q32865, hS32866⟩ := (hS32862.front 3 rfl).freeze (q32826.mono (hZ32844.trans (hZ32848.trans (hZ32852.trans (hZ32856.trans hZ32860)))))
  replace hS32866 : St _ _ _ _ _ _ [.gs v32838 [V 5, V 4, V 5] (csz Int), .gs v32833 [V 1] (csz Int), .gs v32828 [V 4] (csz Int), .gs v32793 [.string ⟨⟨[97, 10]⟩⟩, .string ⟨⟨[10, 10]⟩⟩, .string ⟨⟨[35, 32, 99, 10, 45, 32, 98]⟩⟩, .string ⟨⟨[45, 45, 45, 10, 97]⟩⟩, .string ⟨⟨[91, 10, 49, 10, 93, 10, 98]⟩⟩, .string ⟨⟨[97, 58, 32, 124, 10, 32, 32, 120, 10, 32, 32, 121, 10, 122]⟩⟩, .string ⟨⟨[46, 46, 46]⟩⟩, .string ⟨⟨[32, 32, 9, 10]⟩⟩, .string ⟨⟨[91, 10, 45, 45, 45, 10, 93]⟩⟩, .string ⟨⟨[]⟩⟩] (csz Str)] := hS32866
  obtain ⟨Z32867, hZ32868, q32869, hS32870⟩ := (hS32866.front 2 rfl).freeze (q32831.mono (hZ32844.trans (hZ32848.trans (hZ32852.trans (hZ32856.trans (hZ32860.trans hZ32864))))))
  replace hS32870 : St _ _ _ _ _ _ [.gs v32838 [V 5, V 4, V 5] (csz Int), .gs v32833 [V 1] (csz Int), .gs v32793 [.string ⟨⟨[97, 10]⟩⟩, .string ⟨⟨[10, 10]⟩⟩, .string ⟨⟨[35, 32, 99, 10, 45, 32, 98]⟩⟩, .string ⟨⟨[45, 45, 45, 10, 97]⟩⟩, .string ⟨⟨[91, 10, 49, 10, 93, 10, 98]⟩⟩, .string ⟨⟨[97, 58, 32, 124, 10, 32, 32, 120, 10, 32, 32, 121, 10, 122]⟩⟩, .string ⟨⟨[46, 46, 46]⟩⟩, .string ⟨⟨[32, 32, 9, 10]⟩⟩, .string ⟨⟨[91, 10, 45, 45, 45, 10, 93]⟩⟩, .string ⟨⟨[]⟩⟩] (csz Str)] := hS32870
  obtain ⟨Z32871, hZ32872, q32873, hS32874⟩ := (hS32870.front 1 rfl).freeze (q32836.mono (hZ32844.trans (hZ32848.trans (hZ32852.trans (hZ32856.trans (hZ32860.trans (hZ32864.trans hZ32868)))))))
  replace hS32874 : St _ _ _ _ _ _ [.gs v32838 [V 5, V 4, V 5] (csz Int), .gs v32793 [.string ⟨⟨[97, 10]⟩⟩, .string ⟨⟨[10, 10]⟩⟩, .string ⟨⟨[35, 32, 99, 10, 45, 32, 98]⟩⟩, .string ⟨⟨[45, 45, 45, 10, 97]⟩⟩, .string ⟨⟨[91, 10, 49, 10, 93, 10, 98]⟩⟩, .string ⟨⟨[97, 58, 32, 124, 10, 32, 32, 120, 10, 32, 32, 121, 10, 122]⟩⟩, .string ⟨⟨[46, 46, 46]⟩⟩, .string ⟨⟨[32, 32, 9, 10]⟩⟩, .string ⟨⟨[91, 10, 45, 45, 45, 10, 93]⟩⟩, .string ⟨⟨[]⟩⟩] (csz Str)] := hS32874
  obtain ⟨Z32875, hZ32876, q32877, hS32878⟩ := (hS32874.front 0 rfl).freeze (q32841.mono (hZ32844.trans (hZ32848.trans (hZ32852.trans (hZ32856.trans (hZ32860.trans (hZ32864.trans (hZ32868.trans hZ32872))))))))
  replace hS32878 : St _ _ _ _ _ _ [.gs v32793 [.string ⟨⟨[97, 10]⟩⟩, .string ⟨⟨[10, 10]⟩⟩, .string ⟨⟨[35, 32, 99, 10, 45, 32, 98]⟩⟩, .string ⟨⟨[45, 45, 45, 10, 97]⟩⟩, .string ⟨⟨[91, 10, 49, 10, 93, 10, 98]⟩⟩, .string ⟨⟨[97, 58, 32, 124, 10, 32, 32, 120, 10, 32, 32, 121, 10, 122]⟩⟩, .string ⟨⟨[46, 46, 46]⟩⟩, .string ⟨⟨[32, 32, 9, 10]⟩⟩, .string ⟨⟨[91, 10, 45, 45, 45, 10, 93]⟩⟩, .string ⟨⟨[]⟩⟩] (csz Str)] := hS32878
  have q32882 : RCs (α := List Int) Z32875 [v32798, v32803, v32808, v32813, v32818, v32823, v32828, v32833, v32838, .slice none 0 0] ([([5] : List Int), ([1, 1] : List Int), ([1, 5] : List Int), ([4, 5] : List Int), ([5, 3, 3, 5] : List Int), ([5, 2, 2, 5] : List Int), ([4] : List Int), ([1] : List Int), ([5, 4, 5] : List Int), []] : List (List Int)) := RCs.cons (cs := [v32798]) ⟨_, (q32845.mono (hZ32848.trans (hZ32852.trans (hZ32856.trans (hZ32860.trans (hZ32864.trans (hZ32868.trans (hZ32872.trans hZ32876)))))))), rfl⟩ (RCs.cons (cs := [v32803]) ⟨_, (q32849.mono (hZ32852.trans (hZ32856.trans (hZ32860.trans (hZ32864.trans (hZ32868.trans (hZ32872.trans hZ32876))))))), rfl⟩ (RCs.cons (cs := [v32808]) ⟨_, (q32853.mono (hZ32856.trans (hZ32860.trans (hZ32864.trans (hZ32868.trans (hZ32872.trans hZ32876)))))), rfl⟩ (RCs.cons (cs := [v32813]) ⟨_, (q32857.mono (hZ32860.trans (hZ32864.trans (hZ32868.trans (hZ32872.trans hZ32876))))), rfl⟩ (RCs.cons (cs := [v32818]) ⟨_, (q32861.mono (hZ32864.trans (hZ32868.trans (hZ32872.trans hZ32876)))), rfl⟩ (RCs.cons (cs := [v32823]) ⟨_, (q32865.mono (hZ32868.trans (hZ32872.trans hZ32876))), rfl⟩ (RCs.cons (cs := [v32828]) ⟨_, (q32869.mono (hZ32872.trans hZ32876)), rfl⟩ (RCs.cons (cs := [v32833]) ⟨_, (q32873.mono hZ32876), rfl⟩ (RCs.cons (cs := [v32838]) ⟨_, q32877, rfl⟩ (RCs.cons (cs := [.slice none 0 0]) ⟨_, (RS.nil0 _), rfl⟩ (RCs.nil0 _))))))))))
  refine r_row rfl trivial (o_bs1 (cells := [v32798, v32803, v32808, v32813, v32818, v32823, v32828, v32833, v32838, .slice none 0 0]) (s := 1) rfl (CA.cons (cs := [v32798]) (RS.cell1 (q32845.mono (hZ32848.trans (hZ32852.trans (hZ32856.trans (hZ32860.trans (hZ32864.trans (hZ32868.trans (hZ32872.trans hZ32876))))))))) (CA.cons (cs := [v32803]) (RS.cell1 (q32849.mono (hZ32852.trans (hZ32856.trans (hZ32860.trans (hZ32864.trans (hZ32868.trans (hZ32872.trans hZ32876)))))))) (CA.cons (cs := [v32808]) (RS.cell1 (q32853.mono (hZ32856.trans (hZ32860.trans (hZ32864.trans (hZ32868.trans (hZ32872.trans hZ32876))))))) (CA.cons (cs := [v32813]) (RS.cell1 (q32857.mono (hZ32860.trans (hZ32864.trans (hZ32868.trans (hZ32872.trans hZ32876)))))) (CA.cons (cs := [v32818]) (RS.cell1 (q32861.mono (hZ32864.trans (hZ32868.trans (hZ32872.trans hZ32876))))) (CA.cons (cs := [v32823]) (RS.cell1 (q32865.mono (hZ32868.trans (hZ32872.trans hZ32876)))) (CA.cons (cs := [v32828]) (RS.cell1 (q32869.mono (hZ32872.trans hZ32876))) (CA.cons (cs := [v32833]) (RS.cell1 (q32873.mono hZ32876)) (CA.cons (cs := [v32838]) (RS.cell1 q32877) (CA.cons (cs := [.slice none 0 0]) rfl (CA.nil0))))))))))) (by kernel_rfl)) (by kernel_rfl) hS32878 ?_
  intro v32879 h32880 hS32881
  replace hS32881 : St _ _ _ _ _ _ [.gs v32879 [v32798, v32803, v32808, v32813, v32818, v32823, v32828, v32833, v32838, .slice none 0 0] (csz (List Int)), .gs v32793 [.string ⟨⟨[97, 10]⟩⟩, .string ⟨⟨[10, 10]⟩⟩, .string ⟨⟨[35, 32, 99, 10, 45, 32, 98]⟩⟩, .string ⟨⟨[45, 45, 45, 10, 97]⟩⟩, .string ⟨⟨[91, 10, 49, 10, 93, 10, 98]⟩⟩, .string ⟨⟨[97, 58, 32, 124, 10, 32, 32, 120, 10, 32, 32, 121, 10, 122]⟩⟩, .string ⟨⟨[46, 46, 46]⟩⟩, .string ⟨⟨[32, 32, 9, 10]⟩⟩, .string ⟨⟨[91, 10, 45, 45, 45, 10, 93]⟩⟩, .string ⟨⟨[]⟩⟩] (csz Str)] := hS32881
  refine xe 1 [(4, v32879), (3, v32793), (0, V a0)] ?_
  refine sr r7_5 ?_
  refine xq 2 [(23, v32793), (22, V a0), (4, v32879), (3, v32793)] ?_
  refine r_step rfl trivial (o_len rfl (hS32881.glen (i := 1) rfl (q32796.mono (hZ32844.trans (hZ32848.trans (hZ32852.trans (hZ32856.trans (hZ32860.trans (hZ32864.trans (hZ32868.trans (hZ32872.trans hZ32876)))))))))) ⟨_, Go.Proofs.Try.underlying47⟩) ?_
  obtain ⟨r32884, hx32885, hm⟩ := obind hm
  obtain ⟨v32886, h32887, hcl32888, hSc32889, rfl⟩ := correctorlaw9_within_ok F hS32881.inv  hx32885
  have hS32890 := St.call (A := []) (B := [.gs v32879 [v32798, v32803, v32808, v32813, v32818, v32823, v32828, v32833, v32838, .slice none 0 0] (csz (List Int)), .gs v32793 [.string ⟨⟨[97, 10]⟩⟩, .string ⟨⟨[10, 10]⟩⟩, .string ⟨⟨[35, 32, 99, 10, 45, 32, 98]⟩⟩, .string ⟨⟨[45, 45, 45, 10, 97]⟩⟩, .string ⟨⟨[91, 10, 49, 10, 93, 10, 98]⟩⟩, .string ⟨⟨[97, 58, 32, 124, 10, 32, 32, 120, 10, 32, 32, 121, 10, 122]⟩⟩, .string ⟨⟨[46, 46, 46]⟩⟩, .string ⟨⟨[32, 32, 9, 10]⟩⟩, .string ⟨⟨[91, 10, 45, 45, 45, 10, 93]⟩⟩, .string ⟨⟨[]⟩⟩] (csz Str)]) hS32881 hSc32889
  replace hS32890 : St _ _ _ _ _ _ [.gs v32879 [v32798, v32803, v32808, v32813, v32818, v32823, v32828, v32833, v32838, .slice none 0 0] (csz (List Int)), .gs v32793 [.string ⟨⟨[97, 10]⟩⟩, .string ⟨⟨[10, 10]⟩⟩, .string ⟨⟨[35, 32, 99, 10, 45, 32, 98]⟩⟩, .string ⟨⟨[45, 45, 45, 10, 97]⟩⟩, .string ⟨⟨[91, 10, 49, 10, 93, 10, 98]⟩⟩, .string ⟨⟨[97, 58, 32, 124, 10, 32, 32, 120, 10, 32, 32, 121, 10, 122]⟩⟩, .string ⟨⟨[46, 46, 46]⟩⟩, .string ⟨⟨[32, 32, 9, 10]⟩⟩, .string ⟨⟨[91, 10, 45, 45, 45, 10, 93]⟩⟩, .string ⟨⟨[]⟩⟩] (csz Str)] := hS32890
  refine r_step rfl trivial (o_call hcl32888 rfl rfl rfl) ?_
  refine xe 1 [(5, V r32884), (4, v32879), (3, v32793)] ?_
  refine sr r7_6 ?_
  refine xq 2 [(27, V r32884), (26, v32793), (5, V r32884), (4, v32879)] ?_
  obtain ⟨hc32891, hm⟩ := chk hm
  refine r_step rfl trivial (o_index rfl rfl (by kernel_rfl : slTy _ _ = some (csz Str)) (hS32890.gbased (j := 1) rfl (q32796.mono (hZ32844.trans (hZ32848.trans (hZ32852.trans (hZ32856.trans (hZ32860.trans (hZ32864.trans (hZ32868.trans (hZ32872.trans hZ32876))))))))) (by omega)) hc32891.1 hc32891.2) ?_
  obtain ⟨x32892, hx32893, hm⟩ := obind hm
  obtain ⟨cs32894, hc32895, he32896, ht32897⟩ := hS32890.gel (j := 1) rfl (q32796.mono (hZ32844.trans (hZ32848.trans (hZ32852.trans (hZ32856.trans (hZ32860.trans (hZ32864.trans (hZ32868.trans (hZ32872.trans hZ32876))))))))) (i := r32884) hx32893
  obtain rfl := rc_Str hc32895
  refine r_step rfl trivial (o_lde (w := .string ⟨⟨x32892.b⟩⟩) he32896 rfl (by kernel_rfl)) ?_
  obtain ⟨v32898, h32899, Z32901, ho32904, hZ32902, q32903, hS32900, lw32905⟩ := o_tobytes (P := Go.Proofs.Try.prog) (l := [(29, .string ⟨⟨x32892.b⟩⟩), (28, .pointer (some (elemA v32793 r32884 (csz Str) 0))), (27, V r32884), (26, v32793), (5, V r32884), (4, v32879)]) (s := 9) (d := 23) (x := .tmp 29) (bs := x32892.b) hS32890 rfl (by kernel_rfl)
  refine r_step rfl trivial ho32904 ?_
  refine xe 1 [(6, v32898), (5, V r32884), (4, v32879)] ?_
  refine sr r7_7 ?_
  refine xq 2 [(32, v32898), (31, v32898), (5, V r32884), (4, v32879)] ?_
  obtain ⟨r32906, hx32907, hm⟩ := obind hm
  have hSr32913 : St _ _ _ _ _ _ ([] ++ [.gs v32879 [v32798, v32803, v32808, v32813, v32818, v32823, v32828, v32833, v32838, .slice none 0 0] (csz (List Int)), .gs v32793 [.string ⟨⟨[97, 10]⟩⟩, .string ⟨⟨[10, 10]⟩⟩, .string ⟨⟨[35, 32, 99, 10, 45, 32, 98]⟩⟩, .string ⟨⟨[45, 45, 45, 10, 97]⟩⟩, .string ⟨⟨[91, 10, 49, 10, 93, 10, 98]⟩⟩, .string ⟨⟨[97, 58, 32, 124, 10, 32, 32, 120, 10, 32, 32, 121, 10, 122]⟩⟩, .string ⟨⟨[46, 46, 46]⟩⟩, .string ⟨⟨[32, 32, 9, 10]⟩⟩, .string ⟨⟨[91, 10, 45, 45, 45, 10, 93]⟩⟩, .string ⟨⟨[]⟩⟩] (csz Str)]) := hS32900
  obtain ⟨v32908, h32909, Z32914, A32916, hcl32910, hSc32911, v32918, c32919, rfl, rfl, q32917⟩ := correctorref6_Tokens_ok F hSr32913.preL q32903 hx32907
  have hS32912 := hSr32913.call hSc32911
  have hZ32915 := hSc32911.zle
  replace hS32912 : St _ _ _ _ _ _ [.gs v32918 c32919 (csz api_Token), .gs v32879 [v32798, v32803, v32808, v32813, v32818, v32823, v32828, v32833, v32838, .slice none 0 0] (csz (List Int)), .gs v32793 [.string ⟨⟨[97, 10]⟩⟩, .string ⟨⟨[10, 10]⟩⟩, .string ⟨⟨[35, 32, 99, 10, 45, 32, 98]⟩⟩, .string ⟨⟨[45, 45, 45, 10, 97]⟩⟩, .string ⟨⟨[91, 10, 49, 10, 93, 10, 98]⟩⟩, .string ⟨⟨[97, 58, 32, 124, 10, 32, 32, 120, 10, 32, 32, 121, 10, 122]⟩⟩, .string ⟨⟨[46, 46, 46]⟩⟩, .string ⟨⟨[32, 32, 9, 10]⟩⟩, .string ⟨⟨[91, 10, 45, 45, 45, 10, 93]⟩⟩, .string ⟨⟨[]⟩⟩] (csz Str)] := hS32912
  refine r_step rfl trivial (o_call hcl32910 rfl rfl rfl) ?_
  obtain ⟨Z32920, hZ32921, q32922, hS32923⟩ := (hS32912.front 0 rfl).freeze q32917
  replace hS32923 : St _ _ _ _ _ _ [.gs v32879 [v32798, v32803, v32808, v32813, v32818, v32823, v32828, v32833, v32838, .slice none 0 0] (csz (List Int)), .gs v32793 [.string ⟨⟨[97, 10]⟩⟩, .string ⟨⟨[10, 10]⟩⟩, .string ⟨⟨[35, 32, 99, 10, 45, 32, 98]⟩⟩, .string ⟨⟨[45, 45, 45, 10, 97]⟩⟩, .string ⟨⟨[91, 10, 49, 10, 93, 10, 98]⟩⟩, .string ⟨⟨[97, 58, 32, 124, 10, 32, 32, 120, 10, 32, 32, 121, 10, 122]⟩⟩, .string ⟨⟨[46, 46, 46]⟩⟩, .string ⟨⟨[32, 32, 9, 10]⟩⟩, .string ⟨⟨[91, 10, 45, 45, 45, 10, 93]⟩⟩, .string ⟨⟨[]⟩⟩] (csz Str)] := hS32923
  obtain ⟨r32924, hx32925, hm⟩ := obind hm
  have hSr32931 : St _ _ _ _ _ _ ([] ++ [.gs v32879 [v32798, v32803, v32808, v32813, v32818, v32823, v32828, v32833, v32838, .slice none 0 0] (csz (List Int)), .gs v32793 [.string ⟨⟨[97, 10]⟩⟩, .string ⟨⟨[10, 10]⟩⟩, .string ⟨⟨[35, 32, 99, 10, 45, 32, 98]⟩⟩, .string ⟨⟨[45, 45, 45, 10, 97]⟩⟩, .string ⟨⟨[91, 10, 49, 10, 93, 10, 98]⟩⟩, .string ⟨⟨[97, 58, 32, 124, 10, 32, 32, 120, 10, 32, 32, 121, 10, 122]⟩⟩, .string ⟨⟨[46, 46, 46]⟩⟩, .string ⟨⟨[32, 32, 9, 10]⟩⟩, .string ⟨⟨[91, 10, 45, 45, 45, 10, 93]⟩⟩, .string ⟨⟨[]⟩⟩] (csz Str)]) := hS32923
  obtain ⟨v32926, h32927, Z32932, A32934, hcl32928, hSc32929, v32936, c32937, rfl, rfl, q32935⟩ := rows_Rows_ok F hSr32931.preL (q32903.mono (hZ32915.trans hZ32921)) q32922 hx32925
  have hS32930 := hSr32931.call hSc32929
  have hZ32933 := hSc32929.zle
  replace hS32930 : St _ _ _ _ _ _ [.gs v32936 c32937 (csz api_Row), .gs v32879 [v32798, v32803, v32808, v32813, v32818, v32823, v32828, v32833, v32838, .slice none 0 0] (csz (List Int)), .gs v32793 [.string ⟨⟨[97, 10]⟩⟩, .string ⟨⟨[10, 10]⟩⟩, .string ⟨⟨[35, 32, 99, 10, 45, 32, 98]⟩⟩, .string ⟨⟨[45, 45, 45, 10, 97]⟩⟩, .string ⟨⟨[91, 10, 49, 10, 93, 10, 98]⟩⟩, .string ⟨⟨[97, 58, 32, 124, 10, 32, 32, 120, 10, 32, 32, 121, 10, 122]⟩⟩, .string ⟨⟨[46, 46, 46]⟩⟩, .string ⟨⟨[32, 32, 9, 10]⟩⟩, .string ⟨⟨[91, 10, 45, 45, 45, 10, 93]⟩⟩, .string ⟨⟨[]⟩⟩] (csz Str)] := hS32930
  refine r_step rfl trivial (o_call hcl32928 rfl rfl rfl) ?_
  refine xe 1 [(7, v32936), (5, V r32884), (4, v32879)] ?_
  refine sq ?_
  refine sr r7_8 ?_
  refine xq 1 [(35, v32936), (7, v32936), (5, V r32884), (4, v32879)] ?_
  refine r_step rfl trivial (o_len rfl (hS32930.glen (i := 0) rfl q32935) ⟨_, Go.Proofs.Try.underlying29⟩) ?_
  refine xq 2 [(38, V r32884), (37, v32879), (36, V (r32924.length : Int)), (7, v32936), (5, V r32884), (4, v32879)] ?_
  obtain ⟨hc32958, hm⟩ := chk hm
  refine r_step rfl trivial (o_index rfl rfl (by kernel_rfl : slTy _ _ = some (csz (List Int))) (hS32930.gbased (j := 1) rfl (q32882.mono (hZ32902.trans (hZ32915.trans (hZ32921.trans hZ32933)))) (by omega)) hc32958.1 hc32958.2) ?_
  obtain ⟨x32959, hx32960, hm⟩ := obind hm
  obtain ⟨cs32961, hc32962, he32963, ht32964⟩ := hS32930.gel (j := 1) rfl (q32882.mono (hZ32902.trans (hZ32915.trans (hZ32921.trans hZ32933)))) (i := r32884) hx32960
  obtain ⟨v32965, q32966, rfl⟩ := rc_List hc32962
  refine r_step rfl trivial (o_lde (w := v32965) he32963 rfl (by kernel_rfl)) ?_
  refine r_step rfl trivial (o_len rfl (RS.len q32966) ⟨_, Go.Proofs.Try.underlying22⟩) ?_
  rcases ifs hm with ⟨hp32967, hm⟩ | ⟨hp32967, hm⟩
  refine r_step rfl trivial (o_cmp rfl rfl (c_neq_F hp32967)) ?_
  refine xf [(42, .bool false), (7, v32936), (5, V r32884), (4, v32879)] ?_
  refine kF 42 rfl ?_
  refine sq ?_
  refine sr r7_10 ?_
  refine xe 1 [(8, V 0), (7, v32936), (5, V r32884), (4, v32879)] ?_
  obtain ⟨o33144, ho33143, hm⟩ := obind hm
  refine W_join [] (fun l h => ∃ Z33234 : Zn, .inl () = o33144 ∧ l = [] ∧ St hs [] Z (0, 0) Z33234 h []) ?_ ?_
  rintro l h33235 ⟨Z33234, rfl, rfl, hS33236⟩
  try dsimp only at hm
  refine sr r7_15 ?_
  refine xe 1 [(2, .bool true)] ?_
  refine rt ?_
  refine ⟨rfl, ?_⟩
  obtain rfl := Option.some.inj hm
  refine ⟨_, _, _, ResL.tmp rfl (ResL.nil), hS33236, ?_⟩
  exact rfl
  refine bk 0 ?_
  refine lp [4, 5, 7, 8] (fun n l h => ∃ Z33145 : Zn, ∃ x33146 : List (List Int), ∃ x33150 : Int, ∃ x33151 : List api_Row, ∃ x33155 : Int, ∃ v33148 : Value, ∃ c33149 : List Value, ∃ v33153 : Value, ∃ c33154 : List Value, correctorlaw9_RowsKinds_l0 F a0 n x33146 x33150 x33151 x33155 = some o33144 ∧ RCs (α := List Int) Z33145 c33149 x33146 ∧ RCs (α := api_Row) Z33145 c33154 x33151 ∧ l = [(4, v33148), (5, V x33150), (7, v33153), (8, V x33155)] ∧ St hs [] Z (0, 0) Z33145 h [.gs v33148 c33149 (csz (List Int)), .gs v33153 c33154 (csz api_Row)]) F ⟨_, ([([5] : List Int), ([1, 1] : List Int), ([1, 5] : List Int), ([4, 5] : List Int), ([5, 3, 3, 5] : List Int), ([5, 2, 2, 5] : List Int), ([4] : List Int), ([1] : List Int), ([5, 4, 5] : List Int), []] : List (List Int)), r32884, r32924, 0, v32879, [v32798, v32803, v32808, v32813, v32818, v32823, v32828, v32833, v32838, .slice none 0 0], v32936, c32937, ho33143, (q32882.mono (hZ32902.trans (hZ32915.trans (hZ32921.trans hZ32933)))), q32935, rfl, (((hS32930.front 0 rfl).front 1 rfl).takeN 2)⟩ ?_
  rintro n33158 l h33156 ⟨Z33145, x33146, x33150, x33151, x33155, v33148, c33149, v33153, c33154, ho33143, q33147, q33152, rfl, hS33157⟩
  rcases n33158 with _ | n33158
  cases (show none = some o33144 from ho33143)
  rw [correctorlaw9_RowsKinds_l0] at ho33143
  refine sq ?_
  refine sr r7_11 ?_
  refine xq 2 [(44, v33153), (43, V x33155), (4, v33148), (5, V x33150), (7, v33153), (8, V x33155)] ?_
  refine r_step rfl trivial (o_len rfl (hS33157.glen (i := 1) rfl q33152) ⟨_, Go.Proofs.Try.underlying29⟩) ?_
  rcases ifs ho33143 with ⟨hp33161, ho33143⟩ | ⟨hp33161, ho33143⟩
  refine r_step rfl trivial (o_cmp rfl rfl (c_lss_T hp33161)) ?_
  refine xf [(46, .bool true), (4, v33148), (5, V x33150), (7, v33153), (8, V x33155)] ?_
  refine kT 46 rfl ?_
  refine sq ?_
  refine bk 1 ?_
  refine srF r7_13 hS33157 ?_
  intro bs33198 h33199 hlv33201 hS33200
  refine yq 2 [(50, V x33155), (49, v33153), (4, v33148), (5, V x33150), (7, v33153), (8, V x33155)] ?_
  obtain ⟨hc33202, ho33143⟩ := chk ho33143
  refine e_val rfl trivial (o_index rfl rfl (by kernel_rfl : slTy _ _ = some (csz api_Row)) (hS33200.gbased (j := 1) rfl q33152 (by omega)) hc33202.1 hc33202.2) ?_
  refine yq 1 [(52, .pointer (some (elemA v33153 x33155 (csz api_Row) 0))), (4, v33148), (5, V x33150), (7, v33153), (8, V x33155)] ?_
  obtain ⟨x33203, hx33204, ho33143⟩ := obind ho33143
  obtain ⟨cs33205, hc33206, he33207, ht33208⟩ := hS33200.gel (j := 1) rfl q33152 (i := x33155) hx33204
  obtain rfl := rc_api_Row hc33206
  have ps33209 := pos_of hx33204
  have hB33210 := hS33200.gbased (j := 1) rfl q33152 ps33209
  have lt33211 : (baseOf v33153).block < bs33198 := row_ltM (hlv33201.1 _ (List.mem_of_getElem? (i := 1) rfl)) hB33210
  refine e_lookB rfl trivial rfl (by show (baseOf v33153).block < _; omega) (same1 (v := V x33203.Kind) trivial) (o_lde (w := V x33203.Kind) he33207 rfl (by kernel_rfl)) trivial ?_
  refine yq 2 [(55, V x33150), (54, v33148), (53, V x33203.Kind), (4, v33148), (5, V x33150), (7, v33153), (8, V x33155)] ?_
  obtain ⟨hc33212, ho33143⟩ := chk ho33143
  refine e_val rfl trivial (o_index rfl rfl (by kernel_rfl : slTy _ _ = some (csz (List Int))) (hS33200.gbased (j := 0) rfl q33147 (by omega)) hc33212.1 hc33212.2) ?_
  obtain ⟨x33213, hx33214, ho33143⟩ := obind ho33143
  obtain ⟨cs33215, hc33216, he33217, ht33218⟩ := hS33200.gel (j := 0) rfl q33147 (i := x33150) hx33214
  obtain ⟨v33219, q33220, rfl⟩ := rc_List hc33216
  have ps33221 := pos_of hx33214
  have hB33222 := hS33200.gbased (j := 0) rfl q33147 ps33221
  have lt33223 : (baseOf v33148).block < bs33198 := row_ltM (hlv33201.1 _ (List.mem_of_getElem? (i := 0) rfl)) hB33222
  refine e_lookB rfl trivial rfl (by show (baseOf v33148).block < _; omega) (same1 (v := v33219) (RS.sim1 q33220)) (o_lde (w := v33219) he33217 rfl (by kernel_rfl)) trivial ?_
  refine yq 1 [(58, V x33155), (57, v33219), (53, V x33203.Kind), (4, v33148), (5, V x33150), (7, v33153), (8, V x33155)] ?_
  obtain ⟨hc33224, ho33143⟩ := chk ho33143
  refine e_val rfl trivial (o_index rfl rfl (by kernel_rfl : slTy _ _ = some (csz Int)) (RS.based q33220 (by omega)) hc33224.1 hc33224.2) ?_
  obtain ⟨x33225, hx33226, ho33143⟩ := obind ho33143
  obtain ⟨cs33227, hc33228, he33229⟩ := RS.elz q33220 (i := x33155) hx33226
  obtain rfl := rc_Int hc33228
  refine e_lookZ rfl rfl trivial (fun h2 hz => o_lde (w := V x33225) (he33229 h2 hz) rfl (by kernel_rfl)) (hS33200.zin0 (Zle.refl _)) (same1 (v := V x33225) trivial) trivial ?_
  rcases ifs ho33143 with ⟨hp33231, ho33143⟩ | ⟨hp33231, ho33143⟩
  refine e_val rfl trivial (o_cmp rfl rfl (c_neq_F hp33231)) ?_
  refine yf [(61, .bool false), (4, v33148), (5, V x33150), (7, v33153), (8, V x33155)] ?_
  have hS33232 := hS33200.unres
  refine kF 61 rfl ?_
  refine rg r7_12 ?_
  refine xe 3 [(8, V (w64 (x33155 + 1))), (4, v33148), (5, V x33150), (7, v33153)] ?_
  exact ⟨n33158, Nat.lt_succ_self _, ⟨_, x33146, x33150, x33151, w64 (x33155 + 1), v33148, c33149, v33153, c33154, ho33143, q33147, q33152, rfl, hS33232⟩⟩
  refine e_val rfl trivial (o_cmp rfl rfl (c_neq_T hp33231)) ?_
  refine yf [(61, .bool true), (4, v33148), (5, V x33150), (7, v33153), (8, V x33155)] ?_
  have hS33233 := hS33200.unres
  refine cT 61 rfl ?_
  refine sr r7_14 ?_
  refine xe 1 [(2, .bool false)] ?_
  refine rt ?_
  refine blkX_ret ?_
  refine blkX_ret ?_
  refine ⟨rfl, ?_⟩
  obtain rfl := Option.some.inj ho33143
  obtain rfl := Option.some.inj hm
  refine ⟨_, _, _, ResL.tmp rfl (ResL.nil), hS33233, ?_⟩
  exact rfl
  refine r_step rfl trivial (o_cmp rfl rfl (c_lss_F hp33161)) ?_
  refine xf [(46, .bool false), (4, v33148), (5, V x33150), (7, v33153), (8, V x33155)] ?_
  refine cF 46 rfl ?_
  refine xt 0 ?_
  refine blkX_hit ?_
  obtain rfl := Option.some.inj ho33143
  exact ⟨_, rfl, rfl, (hS33157.takeN 0)⟩
  refine r_step rfl trivial (o_cmp rfl rfl (c_neq_T hp32967)) ?_
  refine xf [(42, .bool true), (7, v32936), (5, V r32884), (4, v32879)] ?_
  refine cT 42 rfl ?_
  refine sr r7_9 ?_
  refine xe 1 [(2, .bool false)] ?_
  refine rt ?_
  refine ⟨rfl, ?_⟩
  obtain rfl := Option.some.inj hm
  refine ⟨_, _, _, ResL.tmp rfl (ResL.nil), hS32930, ?_⟩
  exact rfl
  refine r_setb (t := 9) rfl (Bool.eq_false_iff.2 hp32792) ?_
  refine xe 1 [(10, .bool true), (0, V a0)] ?_
  refine cT 10 rfl ?_
  refine sr r7_2 ?_
  refine xe 1 [(2, .bool false)] ?_
  refine rt ?_
  refine ⟨rfl, ?_⟩
  obtain rfl := Option.some.inj hm
  refine ⟨_, _, _, ResL.tmp rfl (ResL.nil), hS32791, ?_⟩
  exact rfl

end Go.Proofs.Ytcnbcimnfeekjaa.M
