/- Printed by a program of this session: Go functions as Lean functions over plain data, and that the calls come to them. -/
import Derived.Test.YtdajldmgdpggkaaSyJ
import Derived.Test.YtdajldmgdpggkaaChecked
import Derived.KernelRfl
import Derived.Test.YtdajldmgdpggkaaMF0
namespace Go.Proofs.Ytdajldmgdpggkaa.M
open Go Am Sy
open Sy.Cell (rc)
set_option linter.unusedVariables false
set_option linter.unusedSimpArgs false
set_option maxRecDepth 20000

def r7_0 : List COp := [u 4 (.assign (.const (.bool false)))]
def r7_1 : List COp := [u 14 (cf 12 #[] #[]), u 15 (.unOp .not 4 (t 14))]
def r7_2 : List COp := [u 4 (.assign (.const (.bool false)))]
def r7_3 : List COp := [u 16 (.move (t 0)), u 17 (cb .len #[(t 16)] #[35]), u 18 (.binOp .gtr 3 (t 17) (ci 60) 3), u 19 (.move (t 18)), gN 19 (some 20) (.move (t 1)), gN 19 (some 21) (cf 13 #[(t 20)] #[22]), gN 19 (some 22) (.unOp .not 4 (t 21)), u 23 (.pick (t 19) (.const (.bool true)) (t 22))]
def r7_4 : List COp := [u 4 (.assign (.const (.bool true)))]
def r7_5 : List COp := [u 24 (.move (t 0)), u 25 (cb .len #[(t 24)] #[35]), u 26 (.move (t 0)), u 27 (cb .len #[(t 26)] #[35]), u 28 (.move (t 1)), u 29 (cf 15 #[(t 27), (t 28)] #[3, 22]), u 30 (cf 19 #[(t 25), (t 29)] #[3, 22]), u 5 (.assign (t 30))]
def r7_6 : List COp := [u 32 (.move (t 0)), u 33 (.move (t 5)), u 34 (cf 21 #[(t 32), (t 33)] #[35, 22]), u 31 (.move (t 34)), u 35 (.extract (t 31) 0), u 36 (.extract (t 31) 1), u 6 (.assign (t 35)), u 7 (.assign (t 36))]
def r7_7 : List COp := [u 37 (.move (t 7)), u 38 (.binOp .neq 32 (t 37) (ci 0) 32)]
def r7_8 : List COp := [u 4 (.assign (.const (.bool false)))]
def r7_9 : List COp := [u 39 (.move (t 0)), u 40 (cb .len #[(t 39)] #[35]), u 8 (.assign (ci 0)), u 9 (.assign (ci 0)), u 10 (.assign (t 40))]
def r7_10 : List COp := [u 11 (.assign (ci 0))]
def r7_11 : List COp := [u 41 (.move (t 11)), u 42 (.move (t 5)), u 43 (cb .len #[(t 42)] #[22]), u 44 (.binOp .lss 3 (t 41) (t 43) 3)]
def r7_12 : List COp := [u 45 (.move (t 11)), u 46 (.binOp .add 3 (t 45) (ci 1) 3), u 11 (.assign (t 46))]
def r7_13 : List COp := [u 47 (.move (t 5)), u 48 (.move (t 11)), u 49 (.indexAddr 22 (t 47) (t 48)), u 50 (.load 29 (t 49)), u 12 (.alloc 29), o (.store 29 (t 12) (t 50))]
def r7_14 : List COp := [u 51 (.fieldAddr 29 (t 12) 0), u 52 (.load 3 (t 51)), u 53 (.move (t 8)), u 54 (.binOp .sub 3 (t 52) (t 53) 3), u 13 (.assign (t 54))]
def r7_15 : List COpF := [uF 55 (.move (t 9)) .pure [], uF 56 (.move (t 13)) .pure [], uF 57 (.binOp .add 3 (t 55) (t 56) 3) .pure [], uF 58 (.fieldAddr 29 (t 12) 2) .pure [], uF 59 (.load 9 (t 58)) .look [], uF 60 (cb .len #[(t 59)] #[9]) .pure [], uF 61 (.binOp .add 3 (t 57) (t 60) 3) .pure [], uF 62 (.move (t 6)) .pure [], uF 63 (cb .len #[(t 62)] #[35]) .pure [], uF 64 (.binOp .gtr 3 (t 61) (t 63) 3) .pure [], uF 65 (.move (t 64)) .pure [], gNF 65 (some 66) (.move (t 6)) .pure [], gNF 65 (some 67) (.move (t 9)) .pure [], gNF 65 (some 68) (.move (t 9)) .pure [], gNF 65 (some 69) (.move (t 13)) .pure [], gNF 65 (some 70) (.binOp .add 3 (t 68) (t 69) 3) .pure [], gNF 65 (some 71) (.slice 35 (t 66) (some (t 67)) (some (t 70)) none) .pure [], gNF 65 (some 72) (.convert 35 9 (t 71)) .look [], gNF 65 (some 73) (.move (t 0)) .pure [], gNF 65 (some 74) (.move (t 8)) .pure [], gNF 65 (some 75) (.fieldAddr 29 (t 12) 0) .pure [], gNF 65 (some 76) (.load 3 (t 75)) .look [], gNF 65 (some 77) (.slice 35 (t 73) (some (t 74)) (some (t 76)) none) .pure [], gNF 65 (some 78) (.convert 35 9 (t 77)) .look [], gNF 65 (some 79) (.binOp .neq 9 (t 72) (t 78) 9) .pure [], uF 80 (.pick (t 65) (.const (.bool true)) (t 79)) .pure [], uF 81 (.move (t 80)) .pure [], gNF 81 (some 82) (.move (t 6)) .pure [], gNF 81 (some 83) (.move (t 9)) .pure [], gNF 81 (some 84) (.move (t 13)) .pure [], gNF 81 (some 85) (.binOp .add 3 (t 83) (t 84) 3) .pure [], gNF 81 (some 86) (.move (t 9)) .pure [], gNF 81 (some 87) (.move (t 13)) .pure [], gNF 81 (some 88) (.binOp .add 3 (t 86) (t 87) 3) .pure [], gNF 81 (some 89) (.fieldAddr 29 (t 12) 2) .pure [], gNF 81 (some 90) (.load 9 (t 89)) .look [], gNF 81 (some 91) (cb .len #[(t 90)] #[9]) .pure [], gNF 81 (some 92) (.binOp .add 3 (t 88) (t 91) 3) .pure [], gNF 81 (some 93) (.slice 35 (t 82) (some (t 85)) (some (t 92)) none) .pure [], gNF 81 (some 94) (.convert 35 9 (t 93)) .look [], gNF 81 (some 95) (.fieldAddr 29 (t 12) 2) .pure [], gNF 81 (some 96) (.load 9 (t 95)) .look [], gNF 81 (some 97) (.binOp .neq 9 (t 94) (t 96) 9) .pure [], uF 98 (.pick (t 81) (.const (.bool true)) (t 97)) .pure []]
def r7_16 : List COp := [u 4 (.assign (.const (.bool false)))]
def r7_17 : List COpF := [uF 99 (.move (t 9)) .pure [], uF 100 (.move (t 13)) .pure [], uF 101 (.binOp .add 3 (t 99) (t 100) 3) .pure [], uF 102 (.fieldAddr 29 (t 12) 2) .pure [], uF 103 (.load 9 (t 102)) .look [], uF 104 (cb .len #[(t 103)] #[9]) .pure [], uF 105 (.binOp .add 3 (t 101) (t 104) 3) .pure [], uF 106 (.fieldAddr 29 (t 12) 1) .pure [], uF 107 (.load 3 (t 106)) .look [], uF 108 (.move (t 10)) .pure [], uF 109 (.fieldAddr 29 (t 12) 2) .pure [], uF 110 (.load 9 (t 109)) .look [], uF 111 (cb .len #[(t 110)] #[9]) .pure [], uF 112 (.binOp .add 3 (t 108) (t 111) 3) .pure [], uF 113 (.fieldAddr 29 (t 12) 1) .pure [], uF 114 (.load 3 (t 113)) .look [], uF 115 (.fieldAddr 29 (t 12) 0) .pure [], uF 116 (.load 3 (t 115)) .look [], uF 117 (.binOp .sub 3 (t 114) (t 116) 3) .pure [], uF 118 (.binOp .sub 3 (t 112) (t 117) 3) .pure [], uF 9 (.assign (t 105)) .pure [], uF 8 (.assign (t 107)) .pure [], uF 10 (.assign (t 118)) .pure []]
def r7_18 : List COpF := [uF 119 (.move (t 6)) .pure [], uF 120 (.move (t 9)) .pure [], uF 121 (.slice 35 (t 119) (some (t 120)) none none) .pure [], uF 122 (.convert 35 9 (t 121)) .look [], uF 123 (.move (t 0)) .pure [], uF 124 (.move (t 8)) .pure [], uF 125 (.slice 35 (t 123) (some (t 124)) none none) .pure [], uF 126 (.convert 35 9 (t 125)) .look [], uF 127 (.binOp .eql 9 (t 122) (t 126) 9) .pure [], uF 128 (.move (t 127)) .pure [], gTF 128 (some 129) (.move (t 6)) .pure [], gTF 128 (some 130) (cb .len #[(t 129)] #[35]) .pure [], gTF 128 (some 131) (.move (t 10)) .pure [], gTF 128 (some 132) (.binOp .eql 3 (t 130) (t 131) 3) .pure [], uF 133 (.pick (t 128) (t 132) (.const (.bool false))) .pure [], uF 4 (.assign (t 133)) .pure []]
def correctorlaw4_EditSurvives_l0 (F : Nat) (a0 : List UInt8) (a1 : List api_Edit) : Nat → (List api_Edit) → (List UInt8) → Int → Int → Int → Int → Option (Sum ((List UInt8) × Int × Int × Int) Bool)
  | 0, _, _, _, _, _, _ => none
  | n + 1, x24465, x24468, x24471, x24472, x24473, x24474 =>
    if x24474 < (x24465.length : Int) then
      if 0 ≤ x24474 ∧ x24474 < (x24465.length : Int) then
        (x24465[x24474.toNat]?).bind fun x24482 =>
        if (x24468.length : Int) < (w64 ((w64 (x24472 + (w64 (x24482.From - x24471)))) + (x24482.Put.b.length : Int))) then
          some (.inr false)
        else
          if 0 ≤ x24472 ∧ x24472 ≤ (w64 (x24472 + (w64 (x24482.From - x24471)))) ∧ (w64 (x24472 + (w64 (x24482.From - x24471)))) ≤ (x24468.length : Int) then
            if 0 ≤ x24471 ∧ x24471 ≤ x24482.From ∧ x24482.From ≤ (a0.length : Int) then
              if (⟨(x24468.take (w64 (x24472 + (w64 (x24482.From - x24471)))).toNat).drop x24472.toNat⟩ : Str) = (⟨(a0.take x24482.From.toNat).drop x24471.toNat⟩ : Str) then
                if 0 ≤ (w64 (x24472 + (w64 (x24482.From - x24471)))) ∧ (w64 (x24472 + (w64 (x24482.From - x24471)))) ≤ (w64 ((w64 (x24472 + (w64 (x24482.From - x24471)))) + (x24482.Put.b.length : Int))) ∧ (w64 ((w64 (x24472 + (w64 (x24482.From - x24471)))) + (x24482.Put.b.length : Int))) ≤ (x24468.length : Int) then
                  if (⟨(x24468.take (w64 ((w64 (x24472 + (w64 (x24482.From - x24471)))) + (x24482.Put.b.length : Int))).toNat).drop (w64 (x24472 + (w64 (x24482.From - x24471)))).toNat⟩ : Str) = x24482.Put then
                    correctorlaw4_EditSurvives_l0 F a0 a1 n x24465 x24468 x24482.To (w64 ((w64 (x24472 + (w64 (x24482.From - x24471)))) + (x24482.Put.b.length : Int))) (w64 ((w64 (x24473 + (x24482.Put.b.length : Int))) - (w64 (x24482.To - x24482.From)))) (w64 (x24474 + 1))
                  else
                    some (.inr false)
                else none
              else
                some (.inr false)
            else none
          else none
      else none
    else
      some (.inl (x24468, x24471, x24472, x24473))
def correctorlaw4_EditSurvives (F : Nat) (a0 : List UInt8) (a1 : List api_Edit) : Option Bool :=
  (correctorlaw4_known F).bind fun r23867 =>
  if r23867 = true then
    if (60 : Int) < (a0.length : Int) then
      some true
    else
      (correctorlaw4_Few F a1).bind fun r23894 =>
      if r23894 = true then
        (correctorlaw4_Good F (a0.length : Int) a1).bind fun r23902 =>
        (correctorref4_Choose F (a0.length : Int) r23902).bind fun r23920 =>
        (edit_Apply F a0 r23920).bind fun r23938 =>
        if r23938.2 = (0 : Int) then
          ((correctorlaw4_EditSurvives_l0 F a0 a1 F r23920 r23938.1 0 0 (a0.length : Int) 0) : Option (Sum ((List UInt8) × Int × Int × Int) Bool)).bind fun o => match o with
            | .inl (x24591, x24594, x24595, x24596) => if 0 ≤ x24595 ∧ x24595 ≤ (x24591.length : Int) ∧ (x24591.length : Int) ≤ (x24591.length : Int) then
              if 0 ≤ x24594 ∧ x24594 ≤ (a0.length : Int) ∧ (a0.length : Int) ≤ (a0.length : Int) then
                if (⟨(x24591.take (x24591.length : Int).toNat).drop x24595.toNat⟩ : Str) = (⟨(a0.take (a0.length : Int).toNat).drop x24594.toNat⟩ : Str) then
                  if (x24591.length : Int) = x24596 then
                    some true
                  else
                    some false
                else
                  some false
              else none
            else none
            | .inr y => some y
        else
          some false
      else
        some true
  else
    some false
theorem correctorlaw4_EditSurvives_ok (F : Nat) {h : AH} {Z : Zn} {a0 : List UInt8} {a1 : List api_Edit} {v23215 : Value} {v23217 : Value} (hI : Inv Z h) (q23214 : RS (α := UInt8) Z v23215 a0) (q23216 : RS (α := api_Edit) Z v23217 a1) {r : Bool} (hm : correctorlaw4_EditSurvives F a0 a1 = some r) :
    ∃ v h', callI Go.Proofs.Try.prog 7 [v23215, v23217] h = some (v, h') ∧ St h [] Z (0, 0) Z h' [] ∧ v = .bool r := by
  refine fn_plain (Q := fun v => v = .bool r) Go.Proofs.Try.func7 rfl rfl hI ?_
  intro hs hS
  unfold correctorlaw4_EditSurvives at hm
  refine sr r7_0 ?_
  refine xe 1 [(0, v23215), (1, v23217)] ?_
  refine sq ?_
  refine sr r7_1 ?_
  obtain ⟨r23867, hx23868, hm⟩ := obind hm
  obtain ⟨v23869, h23870, hcl23871, hSc23872, rfl⟩ := correctorlaw4_known_ok F hS.inv  hx23868
  have hS23873 := St.call (A := []) (B := []) hS hSc23872
  replace hS23873 : St _ _ _ _ _ _ [] := hS23873
  refine r_step rfl trivial (o_call hcl23871 rfl rfl rfl) ?_
  rcases ifs hm with ⟨hp23874, hm⟩ | ⟨hp23874, hm⟩
  refine r_setb (t := 14) rfl hp23874 ?_
  refine xe 1 [(15, .bool false), (0, v23215), (1, v23217)] ?_
  refine kF 15 rfl ?_
  refine sq ?_
  refine sr r7_3 ?_
  refine xq 1 [(16, v23215), (0, v23215), (1, v23217)] ?_
  refine r_step rfl trivial (o_len rfl (RS.len q23214) ⟨_, Go.Proofs.Try.underlying35⟩) ?_
  rcases ifs hm with ⟨hp23893, hm⟩ | ⟨hp23893, hm⟩
  refine r_step rfl trivial (o_cmp rfl rfl (c_gtr_T hp23893)) ?_
  refine xe 5 [(23, .bool true), (0, v23215), (1, v23217)] ?_
  refine cT 23 rfl ?_
  refine sr r7_4 ?_
  refine xe 1 [(4, .bool true)] ?_
  refine rt ?_
  refine ⟨rfl, ?_⟩
  obtain rfl := Option.some.inj hm
  refine ⟨_, _, _, ResL.tmp rfl (ResL.nil), hS23873, ?_⟩
  exact rfl
  refine r_step rfl trivial (o_cmp rfl rfl (c_gtr_F hp23893)) ?_
  refine xq 2 [(20, v23217), (19, .bool false), (0, v23215), (1, v23217)] ?_
  obtain ⟨r23894, hx23895, hm⟩ := obind hm
  obtain ⟨v23896, h23897, hcl23898, hSc23899, rfl⟩ := correctorlaw4_Few_ok F hS23873.inv q23216 hx23895
  have hS23900 := St.call (A := []) (B := []) hS23873 hSc23899
  replace hS23900 : St _ _ _ _ _ _ [] := hS23900
  refine r_step rfl rfl (o_call hcl23898 rfl rfl rfl) ?_
  rcases ifs hm with ⟨hp23901, hm⟩ | ⟨hp23901, hm⟩
  refine r_setb (t := 21) rfl hp23901 ?_
  refine xe 2 [(23, .bool false), (0, v23215), (1, v23217)] ?_
  refine kF 23 rfl ?_
  refine sr r7_5 ?_
  refine xq 1 [(24, v23215), (0, v23215), (1, v23217)] ?_
  refine r_step rfl trivial (o_len rfl (RS.len q23214) ⟨_, Go.Proofs.Try.underlying35⟩) ?_
  refine xq 1 [(26, v23215), (25, .int .i64 (a0.length : Int)), (0, v23215), (1, v23217)] ?_
  refine r_step rfl trivial (o_len rfl (RS.len q23214) ⟨_, Go.Proofs.Try.underlying35⟩) ?_
  refine xq 1 [(28, v23217), (27, .int .i64 (a0.length : Int)), (25, .int .i64 (a0.length : Int)), (0, v23215)] ?_
  obtain ⟨r23902, hx23903, hm⟩ := obind hm
  have hSr23909 : St _ _ _ _ _ _ ([] ++ []) := hS23900
  obtain ⟨v23904, h23905, Z23910, A23912, hcl23906, hSc23907, v23914, c23915, rfl, rfl, q23913⟩ := correctorlaw4_Good_ok F hSr23909.preL q23216 hx23903
  have hS23908 := hSr23909.call hSc23907
  have hZ23911 := hSc23907.zle
  replace hS23908 : St _ _ _ _ _ _ [.gs v23914 c23915 (csz api_Edit)] := hS23908
  refine r_step rfl trivial (o_call hcl23906 rfl rfl rfl) ?_
  obtain ⟨Z23916, hZ23917, q23918, hS23919⟩ := (hS23908.front 0 rfl).freeze q23913
  replace hS23919 : St _ _ _ _ _ _ [] := hS23919
  obtain ⟨r23920, hx23921, hm⟩ := obind hm
  have hSr23927 : St _ _ _ _ _ _ ([] ++ []) := hS23919
  obtain ⟨v23922, h23923, Z23928, A23930, hcl23924, hSc23925, v23932, c23933, rfl, rfl, q23931⟩ := correctorref4_Choose_ok F hSr23927.preL q23918 hx23921
  have hS23926 := hSr23927.call hSc23925
  have hZ23929 := hSc23925.zle
  replace hS23926 : St _ _ _ _ _ _ [.gs v23932 c23933 (csz api_Edit)] := hS23926
  refine r_step rfl trivial (o_call hcl23924 rfl rfl rfl) ?_
  refine xe 1 [(5, v23932), (0, v23215)] ?_
  refine sr r7_6 ?_
  refine xq 2 [(33, v23932), (32, v23215), (5, v23932), (0, v23215)] ?_
  obtain ⟨Z23934, hZ23935, q23936, hS23937⟩ := (hS23926.front 0 rfl).freeze q23931
  replace hS23937 : St _ _ _ _ _ _ [] := hS23937
  obtain ⟨r23938, hx23939, hm⟩ := obind hm
  have hSr23945 : St _ _ _ _ _ _ ([] ++ []) := hS23937
  obtain ⟨v23940, h23941, Z23946, A23948, hcl23942, hSc23943, v23950, c23951, rfl, rfl, q23949⟩ := edit_Apply_ok F hSr23945.preL (q23214.mono (hZ23911.trans (hZ23917.trans (hZ23929.trans hZ23935)))) q23936 hx23939
  have hS23944 := hSr23945.call hSc23943
  have hZ23947 := hSc23943.zle
  replace hS23944 : St _ _ _ _ _ _ [.gs v23950 c23951 (csz UInt8)] := hS23944
  refine r_step rfl trivial (o_call hcl23942 rfl rfl rfl) ?_
  refine xe 5 [(7, .int .i64 r23938.2), (6, v23950), (5, v23932), (0, v23215)] ?_
  refine sq ?_
  refine sr r7_7 ?_
  refine xq 1 [(37, .int .i64 r23938.2), (6, v23950), (5, v23932), (0, v23215)] ?_
  rcases ifs hm with ⟨hp23954, hm⟩ | ⟨hp23954, hm⟩
  refine r_step rfl trivial (o_cmp rfl rfl (c_neq_F hp23954)) ?_
  refine xf [(38, .bool false), (6, v23950), (5, v23932), (0, v23215)] ?_
  refine kF 38 rfl ?_
  refine sr r7_9 ?_
  refine xq 1 [(39, v23215), (6, v23950), (5, v23932), (0, v23215)] ?_
  refine r_step rfl trivial (o_len rfl (RS.len (q23214.mono (hZ23911.trans (hZ23917.trans (hZ23929.trans (hZ23935.trans hZ23947)))))) ⟨_, Go.Proofs.Try.underlying35⟩) ?_
  refine xe 3 [(10, .int .i64 (a0.length : Int)), (9, .int .i64 0), (8, .int .i64 0), (6, v23950), (5, v23932), (0, v23215)] ?_
  refine sq ?_
  refine sr r7_10 ?_
  refine xe 1 [(11, .int .i64 0), (10, .int .i64 (a0.length : Int)), (9, .int .i64 0), (8, .int .i64 0), (6, v23950), (5, v23932), (0, v23215)] ?_
  obtain ⟨o24459, ho24458, hm⟩ := obind hm
  refine W_join [0, 6, 8, 9, 10] (fun l h => ∃ Z24590 : Zn, ∃ x24591 : List UInt8, ∃ x24594 : Int, ∃ x24595 : Int, ∃ x24596 : Int, ∃ v24593 : Value, .inl (x24591, x24594, x24595, x24596) = o24459 ∧ RS (α := UInt8) Z24590 v24593 x24591 ∧ l = [(0, v23215), (6, v24593), (8, .int .i64 x24594), (9, .int .i64 x24595), (10, .int .i64 x24596)] ∧ St hs [] Z (0, 0) Z24590 h []) ?_ ?_
  rintro l h24597 ⟨Z24590, x24591, x24594, x24595, x24596, v24593, rfl, q24592, rfl, hS24598⟩
  try dsimp only at hm
  refine srF r7_18 hS24598 ?_
  intro bs24599 h24600 hlv24602 hS24601
  refine yq 2 [(120, .int .i64 x24595), (119, v24593), (0, v23215), (6, v24593), (8, .int .i64 x24594), (10, .int .i64 x24596)] ?_
  obtain ⟨hc24606, hm⟩ := chk hm
  refine e_exv rfl trivial (o_slice (a := x24595) (b := (x24591.length : Int)) q24592 rfl (by kernel_rfl : slTy _ _ = some (csz UInt8)) ⟨_, rfl⟩ rfl hc24606.1 hc24606.2.1 hc24606.2.2) ?_
  intro v24603 q24604
  refine e_lookZ rfl rfl trivial (o_tostrz q24604 rfl (by kernel_rfl)) (hS24601.zin0 (Zle.refl _)) (same1 (by trivial)) trivial ?_
  refine yq 2 [(124, .int .i64 x24594), (123, v23215), (122, .string ⟨⟨(x24591.take (x24591.length : Int).toNat).drop x24595.toNat⟩⟩), (6, v24593), (10, .int .i64 x24596)] ?_
  obtain ⟨hc24610, hm⟩ := chk hm
  refine e_exv rfl trivial (o_slice (a := x24594) (b := (a0.length : Int)) (q23214.mono hS24598.zle) rfl (by kernel_rfl : slTy _ _ = some (csz UInt8)) ⟨_, rfl⟩ rfl hc24610.1 hc24610.2.1 hc24610.2.2) ?_
  intro v24607 q24608
  refine e_lookZ rfl rfl trivial (o_tostrz q24608 rfl (by kernel_rfl)) (hS24601.zin0 (Zle.refl _)) (same1 (by trivial)) trivial ?_
  rcases ifs hm with ⟨hp24611, hm⟩ | ⟨hp24611, hm⟩
  refine e_val rfl trivial (o_cmp rfl rfl (c_seql_T (a := (⟨(x24591.take (x24591.length : Int).toNat).drop x24595.toNat⟩ : Str)) (b := (⟨(a0.take (a0.length : Int).toNat).drop x24594.toNat⟩ : Str)) hp24611)) ?_
  refine yq 2 [(129, v24593), (128, .bool true), (10, .int .i64 x24596)] ?_
  refine e_val rfl rfl (o_len rfl (RS.len q24592) ⟨_, Go.Proofs.Try.underlying35⟩) ?_
  refine yq 1 [(131, .int .i64 x24596), (130, .int .i64 (x24591.length : Int)), (128, .bool true)] ?_
  rcases ifs hm with ⟨hp24612, hm⟩ | ⟨hp24612, hm⟩
  refine e_val rfl rfl (o_cmp rfl rfl (c_eql_T hp24612)) ?_
  refine ye 2 [(4, .bool true)] ?_
  have hS24613 := hS24601.unres
  refine rt ?_
  refine ⟨rfl, ?_⟩
  obtain rfl := Option.some.inj hm
  refine ⟨_, _, _, ResL.tmp rfl (ResL.nil), hS24613, ?_⟩
  exact rfl
  refine e_val rfl rfl (o_cmp rfl rfl (c_eql_F hp24612)) ?_
  refine ye 2 [(4, .bool false)] ?_
  have hS24614 := hS24601.unres
  refine rt ?_
  refine ⟨rfl, ?_⟩
  obtain rfl := Option.some.inj hm
  refine ⟨_, _, _, ResL.tmp rfl (ResL.nil), hS24614, ?_⟩
  exact rfl
  refine e_val rfl trivial (o_cmp rfl rfl (c_seql_F (a := (⟨(x24591.take (x24591.length : Int).toNat).drop x24595.toNat⟩ : Str)) (b := (⟨(a0.take (a0.length : Int).toNat).drop x24594.toNat⟩ : Str)) hp24611)) ?_
  refine ye 7 [(4, .bool false)] ?_
  have hS24615 := hS24601.unres
  refine rt ?_
  refine ⟨rfl, ?_⟩
  obtain rfl := Option.some.inj hm
  refine ⟨_, _, _, ResL.tmp rfl (ResL.nil), hS24615, ?_⟩
  exact rfl
  refine bk 0 ?_
  obtain ⟨Z24460, hZ24461, q24462, hS24463⟩ := (hS23944.front 0 rfl).freeze q23949
  replace hS24463 : St _ _ _ _ _ _ [] := hS24463
  refine lp [0, 5, 6, 8, 9, 10, 11] (fun n l h => ∃ Z24464 : Zn, ∃ x24465 : List api_Edit, ∃ x24468 : List UInt8, ∃ x24471 : Int, ∃ x24472 : Int, ∃ x24473 : Int, ∃ x24474 : Int, ∃ v24467 : Value, ∃ v24470 : Value, correctorlaw4_EditSurvives_l0 F a0 a1 n x24465 x24468 x24471 x24472 x24473 x24474 = some o24459 ∧ RS (α := api_Edit) Z24464 v24467 x24465 ∧ RS (α := UInt8) Z24464 v24470 x24468 ∧ l = [(0, v23215), (5, v24467), (6, v24470), (8, .int .i64 x24471), (9, .int .i64 x24472), (10, .int .i64 x24473), (11, .int .i64 x24474)] ∧ St hs [] Z (0, 0) Z24464 h []) F ⟨_, r23920, r23938.1, 0, 0, (a0.length : Int), 0, v23932, v23950, ho24458, (q23936.mono (hZ23947.trans hZ24461)), q24462, rfl, hS24463⟩ ?_
  rintro n24477 l h24475 ⟨Z24464, x24465, x24468, x24471, x24472, x24473, x24474, v24467, v24470, ho24458, q24466, q24469, rfl, hS24476⟩
  rcases n24477 with _ | n24477
  cases (show none = some o24459 from ho24458)
  rw [correctorlaw4_EditSurvives_l0] at ho24458
  refine sq ?_
  refine sr r7_11 ?_
  refine xq 2 [(42, v24467), (41, .int .i64 x24474), (0, v23215), (5, v24467), (6, v24470), (8, .int .i64 x24471), (9, .int .i64 x24472), (10, .int .i64 x24473), (11, .int .i64 x24474)] ?_
  refine r_step rfl trivial (o_len rfl (RS.len q24466) ⟨_, Go.Proofs.Try.underlying22⟩) ?_
  rcases ifs ho24458 with ⟨hp24480, ho24458⟩ | ⟨hp24480, ho24458⟩
  refine r_step rfl trivial (o_cmp rfl rfl (c_lss_T hp24480)) ?_
  refine xf [(44, .bool true), (0, v23215), (5, v24467), (6, v24470), (8, .int .i64 x24471), (9, .int .i64 x24472), (10, .int .i64 x24473), (11, .int .i64 x24474)] ?_
  refine kT 44 rfl ?_
  refine sq ?_
  refine bk 1 ?_
  refine sr r7_13 ?_
  refine xq 2 [(48, .int .i64 x24474), (47, v24467), (0, v23215), (5, v24467), (6, v24470), (8, .int .i64 x24471), (9, .int .i64 x24472), (10, .int .i64 x24473), (11, .int .i64 x24474)] ?_
  obtain ⟨hc24481, ho24458⟩ := chk ho24458
  refine r_step rfl trivial (o_index rfl rfl (by kernel_rfl : slTy _ _ = some (csz api_Edit)) (RS.based q24466 (by omega)) hc24481.1 hc24481.2) ?_
  obtain ⟨x24482, hx24483, ho24458⟩ := obind ho24458
  obtain ⟨cs24484, hc24485, he24486⟩ := RS.elz q24466 (i := x24474) hx24483
  obtain rfl := rc_api_Edit hc24485
  refine r_step rfl trivial (o_lde (w := .agg #[.int .i64 x24482.From, .int .i64 x24482.To, .string ⟨⟨x24482.Put.b⟩⟩]) (he24486 _ (hS24476.zin0 (Zle.refl _))) rfl (by kernel_rfl)) ?_
  refine r_blk rfl trivial (o_alloc (cs := [.int .i64 0, .int .i64 0, .string ⟨⟨[]⟩⟩]) (by kernel_rfl)) hS24476 ?_
  intro b24488 h24489 hS24490
  refine r_ex1 rfl trivial (o_stb (vs := [.int .i64 x24482.From, .int .i64 x24482.To, .string ⟨⟨x24482.Put.b⟩⟩]) (cells' := [.int .i64 x24482.From, .int .i64 x24482.To, .string ⟨⟨x24482.Put.b⟩⟩]) (L' := [.blk b24488 [.int .i64 x24482.From, .int .i64 x24482.To, .string ⟨⟨x24482.Put.b⟩⟩]]) hS24490 (i := 0) rfl rfl rfl rfl (by kernel_rfl) rfl rfl rfl rfl) ?_
  intro h24491 hS24492
  refine xf [(12, .pointer (some ⟨b24488, 0, none⟩)), (0, v23215), (5, v24467), (6, v24470), (8, .int .i64 x24471), (9, .int .i64 x24472), (10, .int .i64 x24473), (11, .int .i64 x24474)] ?_
  refine sr r7_14 ?_
  refine xq 1 [(51, .pointer (some ⟨b24488, 0, none⟩)), (12, .pointer (some ⟨b24488, 0, none⟩)), (0, v23215), (5, v24467), (6, v24470), (8, .int .i64 x24471), (9, .int .i64 x24472), (10, .int .i64 x24473), (11, .int .i64 x24474)] ?_
  refine r_step rfl trivial (o_ldb (v := .int .i64 x24482.From) hS24492 (i := 0) rfl rfl (by kernel_rfl)) ?_
  refine xe 3 [(13, .int .i64 (w64 (x24482.From - x24471))), (12, .pointer (some ⟨b24488, 0, none⟩)), (0, v23215), (5, v24467), (6, v24470), (8, .int .i64 x24471), (9, .int .i64 x24472), (10, .int .i64 x24473), (11, .int .i64 x24474)] ?_
  refine sq ?_
  refine srF r7_15 hS24492 ?_
  intro bs24547 h24548 hlv24550 hS24549
  refine yq 4 [(58, .pointer (some ⟨b24488, 2, none⟩)), (57, .int .i64 (w64 (x24472 + (w64 (x24482.From - x24471))))), (13, .int .i64 (w64 (x24482.From - x24471))), (12, .pointer (some ⟨b24488, 0, none⟩)), (0, v23215), (5, v24467), (6, v24470), (8, .int .i64 x24471), (9, .int .i64 x24472), (10, .int .i64 x24473), (11, .int .i64 x24474)] ?_
  have lt24551 : b24488 < bs24547 := hlv24550.1 _ (List.mem_of_getElem? (i := 0) rfl) _ (by simp [Itm.ids])
  refine e_lookB rfl trivial rfl (by show b24488 < _; omega) (same1 (v := .string ⟨⟨x24482.Put.b⟩⟩) trivial) (o_ldb (v := .string ⟨⟨x24482.Put.b⟩⟩) hS24549 (i := 0) rfl rfl (by kernel_rfl)) trivial ?_
  refine yq 3 [(62, v24470), (61, .int .i64 (w64 ((w64 (x24472 + (w64 (x24482.From - x24471)))) + (x24482.Put.b.length : Int)))), (13, .int .i64 (w64 (x24482.From - x24471))), (12, .pointer (some ⟨b24488, 0, none⟩)), (0, v23215), (5, v24467), (6, v24470), (8, .int .i64 x24471), (9, .int .i64 x24472), (10, .int .i64 x24473), (11, .int .i64 x24474)] ?_
  refine e_val rfl trivial (o_len rfl (RS.len q24469) ⟨_, Go.Proofs.Try.underlying35⟩) ?_
  rcases ifs ho24458 with ⟨hp24552, ho24458⟩ | ⟨hp24552, ho24458⟩
  refine e_val rfl trivial (o_cmp rfl rfl (c_gtr_T hp24552)) ?_
  refine ye 34 [(98, .bool true), (13, .int .i64 (w64 (x24482.From - x24471))), (12, .pointer (some ⟨b24488, 0, none⟩)), (0, v23215), (5, v24467), (6, v24470), (9, .int .i64 x24472), (10, .int .i64 x24473), (11, .int .i64 x24474)] ?_
  have hS24553 := hS24549.unres
  refine cT 98 rfl ?_
  refine sr r7_16 ?_
  refine xe 1 [(4, .bool false)] ?_
  refine rt ?_
  refine blkX_ret ?_
  refine blkX_ret ?_
  refine ⟨rfl, ?_⟩
  obtain rfl := Option.some.inj ho24458
  obtain rfl := Option.some.inj hm
  refine ⟨_, _, _, ResL.tmp rfl (ResL.nil), hS24553, ?_⟩
  exact rfl
  refine e_val rfl trivial (o_cmp rfl rfl (c_gtr_F hp24552)) ?_
  refine yq 6 [(70, .int .i64 (w64 (x24472 + (w64 (x24482.From - x24471))))), (67, .int .i64 x24472), (66, v24470), (65, .bool false), (13, .int .i64 (w64 (x24482.From - x24471))), (12, .pointer (some ⟨b24488, 0, none⟩)), (0, v23215), (5, v24467), (6, v24470), (8, .int .i64 x24471), (9, .int .i64 x24472), (10, .int .i64 x24473), (11, .int .i64 x24474)] ?_
  obtain ⟨hc24557, ho24458⟩ := chk ho24458
  refine e_exv rfl rfl (o_slice (a := x24472) (b := w64 (x24472 + (w64 (x24482.From - x24471)))) q24469 rfl (by kernel_rfl : slTy _ _ = some (csz UInt8)) ⟨_, rfl⟩ ⟨_, rfl⟩ hc24557.1 hc24557.2.1 hc24557.2.2) ?_
  intro v24554 q24555
  refine e_lookZ rfl rfl rfl (o_tostrz q24555 rfl (by kernel_rfl)) (hS24549.zin0 (Zle.refl _)) (same1 (by trivial)) trivial ?_
  refine yq 3 [(75, .pointer (some ⟨b24488, 0, none⟩)), (74, .int .i64 x24471), (73, v23215), (72, .string ⟨⟨(x24468.take (w64 (x24472 + (w64 (x24482.From - x24471)))).toNat).drop x24472.toNat⟩⟩), (65, .bool false), (13, .int .i64 (w64 (x24482.From - x24471))), (12, .pointer (some ⟨b24488, 0, none⟩)), (0, v23215), (5, v24467), (6, v24470), (9, .int .i64 x24472), (10, .int .i64 x24473), (11, .int .i64 x24474)] ?_
  have lt24558 : b24488 < bs24547 := hlv24550.1 _ (List.mem_of_getElem? (i := 0) rfl) _ (by simp [Itm.ids])
  refine e_lookB rfl rfl rfl (by show b24488 < _; omega) (same1 (v := .int .i64 x24482.From) trivial) (o_ldb (v := .int .i64 x24482.From) hS24549 (i := 0) rfl rfl (by kernel_rfl)) trivial ?_
  obtain ⟨hc24562, ho24458⟩ := chk ho24458
  refine e_exv rfl rfl (o_slice (a := x24471) (b := x24482.From) (q23214.mono hS24476.zle) rfl (by kernel_rfl : slTy _ _ = some (csz UInt8)) ⟨_, rfl⟩ ⟨_, rfl⟩ hc24562.1 hc24562.2.1 hc24562.2.2) ?_
  intro v24559 q24560
  refine e_lookZ rfl rfl rfl (o_tostrz q24560 rfl (by kernel_rfl)) (hS24549.zin0 (Zle.refl _)) (same1 (by trivial)) trivial ?_
  rcases ifs ho24458 with ⟨hp24563, ho24458⟩ | ⟨hp24563, ho24458⟩
  refine e_val rfl rfl (o_cmp rfl rfl (c_sneq_F (a := (⟨(x24468.take (w64 (x24472 + (w64 (x24482.From - x24471)))).toNat).drop x24472.toNat⟩ : Str)) (b := (⟨(a0.take x24482.From.toNat).drop x24471.toNat⟩ : Str)) hp24563)) ?_
  refine yq 10 [(89, .pointer (some ⟨b24488, 2, none⟩)), (88, .int .i64 (w64 (x24472 + (w64 (x24482.From - x24471))))), (85, .int .i64 (w64 (x24472 + (w64 (x24482.From - x24471))))), (82, v24470), (81, .bool false), (13, .int .i64 (w64 (x24482.From - x24471))), (12, .pointer (some ⟨b24488, 0, none⟩)), (0, v23215), (5, v24467), (6, v24470), (9, .int .i64 x24472), (10, .int .i64 x24473), (11, .int .i64 x24474)] ?_
  have lt24564 : b24488 < bs24547 := hlv24550.1 _ (List.mem_of_getElem? (i := 0) rfl) _ (by simp [Itm.ids])
  refine e_lookB rfl rfl rfl (by show b24488 < _; omega) (same1 (v := .string ⟨⟨x24482.Put.b⟩⟩) trivial) (o_ldb (v := .string ⟨⟨x24482.Put.b⟩⟩) hS24549 (i := 0) rfl rfl (by kernel_rfl)) trivial ?_
  refine yq 2 [(92, .int .i64 (w64 ((w64 (x24472 + (w64 (x24482.From - x24471)))) + (x24482.Put.b.length : Int)))), (85, .int .i64 (w64 (x24472 + (w64 (x24482.From - x24471))))), (82, v24470), (81, .bool false), (13, .int .i64 (w64 (x24482.From - x24471))), (12, .pointer (some ⟨b24488, 0, none⟩)), (0, v23215), (5, v24467), (6, v24470), (9, .int .i64 x24472), (10, .int .i64 x24473), (11, .int .i64 x24474)] ?_
  obtain ⟨hc24568, ho24458⟩ := chk ho24458
  refine e_exv rfl rfl (o_slice (a := w64 (x24472 + (w64 (x24482.From - x24471)))) (b := w64 ((w64 (x24472 + (w64 (x24482.From - x24471)))) + (x24482.Put.b.length : Int))) q24469 rfl (by kernel_rfl : slTy _ _ = some (csz UInt8)) ⟨_, rfl⟩ ⟨_, rfl⟩ hc24568.1 hc24568.2.1 hc24568.2.2) ?_
  intro v24565 q24566
  refine e_lookZ rfl rfl rfl (o_tostrz q24566 rfl (by kernel_rfl)) (hS24549.zin0 (Zle.refl _)) (same1 (by trivial)) trivial ?_
  refine yq 1 [(95, .pointer (some ⟨b24488, 2, none⟩)), (94, .string ⟨⟨(x24468.take (w64 ((w64 (x24472 + (w64 (x24482.From - x24471)))) + (x24482.Put.b.length : Int))).toNat).drop (w64 (x24472 + (w64 (x24482.From - x24471)))).toNat⟩⟩), (81, .bool false), (13, .int .i64 (w64 (x24482.From - x24471))), (12, .pointer (some ⟨b24488, 0, none⟩)), (0, v23215), (5, v24467), (6, v24470), (9, .int .i64 x24472), (10, .int .i64 x24473), (11, .int .i64 x24474)] ?_
  have lt24569 : b24488 < bs24547 := hlv24550.1 _ (List.mem_of_getElem? (i := 0) rfl) _ (by simp [Itm.ids])
  refine e_lookB rfl rfl rfl (by show b24488 < _; omega) (same1 (v := .string ⟨⟨x24482.Put.b⟩⟩) trivial) (o_ldb (v := .string ⟨⟨x24482.Put.b⟩⟩) hS24549 (i := 0) rfl rfl (by kernel_rfl)) trivial ?_
  rcases ifs ho24458 with ⟨hp24570, ho24458⟩ | ⟨hp24570, ho24458⟩
  refine e_val rfl rfl (o_cmp rfl rfl (c_sneq_F (a := (⟨(x24468.take (w64 ((w64 (x24472 + (w64 (x24482.From - x24471)))) + (x24482.Put.b.length : Int))).toNat).drop (w64 (x24472 + (w64 (x24482.From - x24471)))).toNat⟩ : Str)) (b := x24482.Put) hp24570)) ?_
  refine ye 1 [(98, .bool false), (13, .int .i64 (w64 (x24482.From - x24471))), (12, .pointer (some ⟨b24488, 0, none⟩)), (0, v23215), (5, v24467), (6, v24470), (9, .int .i64 x24472), (10, .int .i64 x24473), (11, .int .i64 x24474)] ?_
  have hS24571 := hS24549.unres
  refine kF 98 rfl ?_
  refine rgF r7_17 hS24571 ?_
  intro bs24572 h24573 hlv24575 hS24574
  refine yq 4 [(102, .pointer (some ⟨b24488, 2, none⟩)), (101, .int .i64 (w64 (x24472 + (w64 (x24482.From - x24471))))), (12, .pointer (some ⟨b24488, 0, none⟩)), (0, v23215), (5, v24467), (6, v24470), (9, .int .i64 x24472), (10, .int .i64 x24473), (11, .int .i64 x24474)] ?_
  have lt24576 : b24488 < bs24572 := hlv24575.1 _ (List.mem_of_getElem? (i := 0) rfl) _ (by simp [Itm.ids])
  refine e_lookB rfl trivial rfl (by show b24488 < _; omega) (same1 (v := .string ⟨⟨x24482.Put.b⟩⟩) trivial) (o_ldb (v := .string ⟨⟨x24482.Put.b⟩⟩) hS24574 (i := 0) rfl rfl (by kernel_rfl)) trivial ?_
  refine yq 3 [(106, .pointer (some ⟨b24488, 1, none⟩)), (105, .int .i64 (w64 ((w64 (x24472 + (w64 (x24482.From - x24471)))) + (x24482.Put.b.length : Int)))), (12, .pointer (some ⟨b24488, 0, none⟩)), (0, v23215), (5, v24467), (6, v24470), (9, .int .i64 x24472), (10, .int .i64 x24473), (11, .int .i64 x24474)] ?_
  have lt24577 : b24488 < bs24572 := hlv24575.1 _ (List.mem_of_getElem? (i := 0) rfl) _ (by simp [Itm.ids])
  refine e_lookB rfl trivial rfl (by show b24488 < _; omega) (same1 (v := .int .i64 x24482.To) trivial) (o_ldb (v := .int .i64 x24482.To) hS24574 (i := 0) rfl rfl (by kernel_rfl)) trivial ?_
  refine yq 2 [(109, .pointer (some ⟨b24488, 2, none⟩)), (108, .int .i64 x24473), (107, .int .i64 x24482.To), (105, .int .i64 (w64 ((w64 (x24472 + (w64 (x24482.From - x24471)))) + (x24482.Put.b.length : Int)))), (12, .pointer (some ⟨b24488, 0, none⟩)), (0, v23215), (5, v24467), (6, v24470), (9, .int .i64 x24472), (10, .int .i64 x24473), (11, .int .i64 x24474)] ?_
  have lt24578 : b24488 < bs24572 := hlv24575.1 _ (List.mem_of_getElem? (i := 0) rfl) _ (by simp [Itm.ids])
  refine e_lookB rfl trivial rfl (by show b24488 < _; omega) (same1 (v := .string ⟨⟨x24482.Put.b⟩⟩) trivial) (o_ldb (v := .string ⟨⟨x24482.Put.b⟩⟩) hS24574 (i := 0) rfl rfl (by kernel_rfl)) trivial ?_
  refine yq 3 [(113, .pointer (some ⟨b24488, 1, none⟩)), (112, .int .i64 (w64 (x24473 + (x24482.Put.b.length : Int)))), (107, .int .i64 x24482.To), (105, .int .i64 (w64 ((w64 (x24472 + (w64 (x24482.From - x24471)))) + (x24482.Put.b.length : Int)))), (12, .pointer (some ⟨b24488, 0, none⟩)), (0, v23215), (5, v24467), (6, v24470), (9, .int .i64 x24472), (10, .int .i64 x24473), (11, .int .i64 x24474)] ?_
  have lt24579 : b24488 < bs24572 := hlv24575.1 _ (List.mem_of_getElem? (i := 0) rfl) _ (by simp [Itm.ids])
  refine e_lookB rfl trivial rfl (by show b24488 < _; omega) (same1 (v := .int .i64 x24482.To) trivial) (o_ldb (v := .int .i64 x24482.To) hS24574 (i := 0) rfl rfl (by kernel_rfl)) trivial ?_
  refine yq 1 [(115, .pointer (some ⟨b24488, 0, none⟩)), (114, .int .i64 x24482.To), (112, .int .i64 (w64 (x24473 + (x24482.Put.b.length : Int)))), (107, .int .i64 x24482.To), (105, .int .i64 (w64 ((w64 (x24472 + (w64 (x24482.From - x24471)))) + (x24482.Put.b.length : Int)))), (0, v23215), (5, v24467), (6, v24470), (9, .int .i64 x24472), (10, .int .i64 x24473), (11, .int .i64 x24474)] ?_
  have lt24580 : b24488 < bs24572 := hlv24575.1 _ (List.mem_of_getElem? (i := 0) rfl) _ (by simp [Itm.ids])
  refine e_lookB rfl trivial rfl (by show b24488 < _; omega) (same1 (v := .int .i64 x24482.From) trivial) (o_ldb (v := .int .i64 x24482.From) hS24574 (i := 0) rfl rfl (by kernel_rfl)) trivial ?_
  refine ye 5 [(10, .int .i64 (w64 ((w64 (x24473 + (x24482.Put.b.length : Int))) - (w64 (x24482.To - x24482.From))))), (8, .int .i64 x24482.To), (9, .int .i64 (w64 ((w64 (x24472 + (w64 (x24482.From - x24471)))) + (x24482.Put.b.length : Int)))), (0, v23215), (5, v24467), (6, v24470), (11, .int .i64 x24474)] ?_
  have hS24581 := hS24574.unres
  refine rg r7_12 ?_
  refine xe 3 [(11, .int .i64 (w64 (x24474 + 1))), (10, .int .i64 (w64 ((w64 (x24473 + (x24482.Put.b.length : Int))) - (w64 (x24482.To - x24482.From))))), (8, .int .i64 x24482.To), (9, .int .i64 (w64 ((w64 (x24472 + (w64 (x24482.From - x24471)))) + (x24482.Put.b.length : Int)))), (0, v23215), (5, v24467), (6, v24470)] ?_
  exact ⟨n24477, Nat.lt_succ_self _, ⟨_, x24465, x24468, x24482.To, w64 ((w64 (x24472 + (w64 (x24482.From - x24471)))) + (x24482.Put.b.length : Int)), w64 ((w64 (x24473 + (x24482.Put.b.length : Int))) - (w64 (x24482.To - x24482.From))), w64 (x24474 + 1), v24467, v24470, ho24458, q24466, q24469, rfl, (hS24581.takeN 0)⟩⟩
  refine e_val rfl rfl (o_cmp rfl rfl (c_sneq_T (a := (⟨(x24468.take (w64 ((w64 (x24472 + (w64 (x24482.From - x24471)))) + (x24482.Put.b.length : Int))).toNat).drop (w64 (x24472 + (w64 (x24482.From - x24471)))).toNat⟩ : Str)) (b := x24482.Put) hp24570)) ?_
  refine ye 1 [(98, .bool true), (13, .int .i64 (w64 (x24482.From - x24471))), (12, .pointer (some ⟨b24488, 0, none⟩)), (0, v23215), (5, v24467), (6, v24470), (9, .int .i64 x24472), (10, .int .i64 x24473), (11, .int .i64 x24474)] ?_
  have hS24582 := hS24549.unres
  refine cT 98 rfl ?_
  refine sr r7_16 ?_
  refine xe 1 [(4, .bool false)] ?_
  refine rt ?_
  refine blkX_ret ?_
  refine blkX_ret ?_
  refine ⟨rfl, ?_⟩
  obtain rfl := Option.some.inj ho24458
  obtain rfl := Option.some.inj hm
  refine ⟨_, _, _, ResL.tmp rfl (ResL.nil), hS24582, ?_⟩
  exact rfl
  refine e_val rfl rfl (o_cmp rfl rfl (c_sneq_T (a := (⟨(x24468.take (w64 (x24472 + (w64 (x24482.From - x24471)))).toNat).drop x24472.toNat⟩ : Str)) (b := (⟨(a0.take x24482.From.toNat).drop x24471.toNat⟩ : Str)) hp24563)) ?_
  refine ye 19 [(98, .bool true), (13, .int .i64 (w64 (x24482.From - x24471))), (12, .pointer (some ⟨b24488, 0, none⟩)), (0, v23215), (5, v24467), (6, v24470), (9, .int .i64 x24472), (10, .int .i64 x24473), (11, .int .i64 x24474)] ?_
  have hS24583 := hS24549.unres
  refine cT 98 rfl ?_
  refine sr r7_16 ?_
  refine xe 1 [(4, .bool false)] ?_
  refine rt ?_
  refine blkX_ret ?_
  refine blkX_ret ?_
  refine ⟨rfl, ?_⟩
  obtain rfl := Option.some.inj ho24458
  obtain rfl := Option.some.inj hm
  refine ⟨_, _, _, ResL.tmp rfl (ResL.nil), hS24583, ?_⟩
  exact rfl
  refine r_step rfl trivial (o_cmp rfl rfl (c_lss_F hp24480)) ?_
  refine xf [(44, .bool false), (0, v23215), (5, v24467), (6, v24470), (8, .int .i64 x24471), (9, .int .i64 x24472), (10, .int .i64 x24473), (11, .int .i64 x24474)] ?_
  refine cF 44 rfl ?_
  refine xt 0 ?_
  refine blkX_hit ?_
  obtain rfl := Option.some.inj ho24458
  exact ⟨_, x24468, x24471, x24472, x24473, v24470, rfl, q24469, rfl, hS24476⟩
  refine r_step rfl trivial (o_cmp rfl rfl (c_neq_T hp23954)) ?_
  refine xf [(38, .bool true), (6, v23950), (5, v23932), (0, v23215)] ?_
  refine cT 38 rfl ?_
  refine sr r7_8 ?_
  refine xe 1 [(4, .bool false)] ?_
  refine rt ?_
  refine ⟨rfl, ?_⟩
  obtain rfl := Option.some.inj hm
  refine ⟨_, _, _, ResL.tmp rfl (ResL.nil), hS23944, ?_⟩
  exact rfl
  refine r_setb (t := 21) rfl (Bool.eq_false_iff.2 hp23901) ?_
  refine xe 2 [(23, .bool true), (0, v23215), (1, v23217)] ?_
  refine cT 23 rfl ?_
  refine sr r7_4 ?_
  refine xe 1 [(4, .bool true)] ?_
  refine rt ?_
  refine ⟨rfl, ?_⟩
  obtain rfl := Option.some.inj hm
  refine ⟨_, _, _, ResL.tmp rfl (ResL.nil), hS23900, ?_⟩
  exact rfl
  refine r_setb (t := 14) rfl (Bool.eq_false_iff.2 hp23874) ?_
  refine xe 1 [(15, .bool true), (0, v23215), (1, v23217)] ?_
  refine cT 15 rfl ?_
  refine sr r7_2 ?_
  refine xe 1 [(4, .bool false)] ?_
  refine rt ?_
  refine ⟨rfl, ?_⟩
  obtain rfl := Option.some.inj hm
  refine ⟨_, _, _, ResL.tmp rfl (ResL.nil), hS23873, ?_⟩
  exact rfl

end Go.Proofs.Ytdajldmgdpggkaa.M
