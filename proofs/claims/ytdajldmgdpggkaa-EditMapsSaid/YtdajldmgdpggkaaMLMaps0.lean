/- Printed by a program of this session: Go functions as Lean functions over plain data, and that the calls come to them. -/
import Derived.Test.YtdajldmgdpggkaaSyJ
import Derived.Test.YtdajldmgdpggkaaChecked
import Derived.KernelRfl
import Derived.Test.YtdajldmgdpggkaaMF0
namespace Go.Proofs.Ytdajldmgdpggkaa.M
open Go Am Sy
open Sy.Cell (rc)
set_option linter.unusedVariables false
set_option linter.unusedSimpArgs false
set_option maxRecDepth 20000

def r9_0 : List COp := [u 4 (.assign (.const (.bool false)))]
def r9_1 : List COp := [u 12 (cf 12 #[] #[]), u 13 (.unOp .not 4 (t 12))]
def r9_2 : List COp := [u 4 (.assign (.const (.bool false)))]
def r9_3 : List COp := [u 14 (.move (t 0)), u 15 (cb .len #[(t 14)] #[35]), u 16 (.binOp .gtr 3 (t 15) (ci 60) 3), u 17 (.move (t 16)), gN 17 (some 18) (.move (t 1)), gN 17 (some 19) (cf 13 #[(t 18)] #[22]), gN 17 (some 20) (.unOp .not 4 (t 19)), u 21 (.pick (t 17) (.const (.bool true)) (t 20))]
def r9_4 : List COp := [u 4 (.assign (.const (.bool true)))]
def r9_5 : List COp := [u 22 (.move (t 0)), u 23 (cb .len #[(t 22)] #[35]), u 24 (.move (t 0)), u 25 (cb .len #[(t 24)] #[35]), u 26 (.move (t 1)), u 27 (cf 15 #[(t 25), (t 26)] #[3, 22]), u 28 (cf 19 #[(t 23), (t 27)] #[3, 22]), u 5 (.assign (t 28))]
def r9_6 : List COp := [u 30 (.move (t 0)), u 31 (.move (t 5)), u 32 (cf 21 #[(t 30), (t 31)] #[35, 22]), u 29 (.move (t 32)), u 33 (.extract (t 29) 0), u 34 (.extract (t 29) 1), u 6 (.assign (t 33)), u 7 (.assign (t 34))]
def r9_7 : List COp := [u 35 (.move (t 7)), u 36 (.binOp .neq 32 (t 35) (ci 0) 32)]
def r9_8 : List COp := [u 4 (.assign (.const (.bool false)))]
def r9_9 : List COp := [u 8 (.assign (ci 0))]
def r9_10 : List COp := [u 37 (.move (t 8)), u 38 (.move (t 0)), u 39 (cb .len #[(t 38)] #[35]), u 40 (.binOp .leq 3 (t 37) (t 39) 3)]
def r9_11 : List COp := [u 41 (.move (t 8)), u 42 (.binOp .add 3 (t 41) (ci 1) 3), u 8 (.assign (t 42))]
def r9_12 : List COp := [u 43 (.move (t 5)), u 44 (.move (t 8)), u 45 (cf 24 #[(t 43), (t 44)] #[22, 3]), u 9 (.assign (t 45))]
def r9_13 : List COp := [u 46 (.move (t 9)), u 47 (.move (t 5)), u 48 (.move (t 8)), u 49 (cf 25 #[(t 47), (t 48)] #[22, 3]), u 50 (.binOp .neq 3 (t 46) (t 49) 3), u 51 (.move (t 50)), gN 51 (some 52) (.move (t 9)), gN 51 (some 53) (.binOp .lss 3 (t 52) (ci 0) 3), u 54 (.pick (t 51) (.const (.bool true)) (t 53)), u 55 (.move (t 54)), gN 55 (some 56) (.move (t 9)), gN 55 (some 57) (.move (t 6)), gN 55 (some 58) (cb .len #[(t 57)] #[35]), gN 55 (some 59) (.binOp .gtr 3 (t 56) (t 58) 3), u 60 (.pick (t 55) (.const (.bool true)) (t 59))]
def r9_14 : List COp := [u 4 (.assign (.const (.bool false)))]
def r9_15 : List COp := [u 61 (.move (t 8)), u 62 (.move (t 0)), u 63 (cb .len #[(t 62)] #[35]), u 64 (.binOp .lss 3 (t 61) (t 63) 3), u 10 (.assign (t 64))]
def r9_16 : List COp := [u 11 (.assign (ci 0))]
def r9_17 : List COp := [u 65 (.move (t 11)), u 66 (.move (t 5)), u 67 (cb .len #[(t 66)] #[22]), u 68 (.binOp .lss 3 (t 65) (t 67) 3)]
def r9_18 : List COp := [u 69 (.move (t 11)), u 70 (.binOp .add 3 (t 69) (ci 1) 3), u 11 (.assign (t 70))]
def r9_19 : List COp := [u 71 (.move (t 10)), u 72 (.move (t 71)), gT 72 (some 73) (.move (t 5)), gT 72 (some 74) (.move (t 11)), gT 72 (some 75) (.indexAddr 22 (t 73) (t 74)), gT 72 (some 76) (.fieldAddr 29 (t 75) 0), gT 72 (some 77) (.load 3 (t 76)), gT 72 (some 78) (.move (t 8)), gT 72 (some 79) (.binOp .leq 3 (t 77) (t 78) 3), gT 72 (some 80) (.move (t 79)), gT 80 (some 81) (.move (t 8)), gT 80 (some 82) (.move (t 5)), gT 80 (some 83) (.move (t 11)), gT 80 (some 84) (.indexAddr 22 (t 82) (t 83)), gT 80 (some 85) (.fieldAddr 29 (t 84) 1), gT 80 (some 86) (.load 3 (t 85)), gT 80 (some 87) (.binOp .lss 3 (t 81) (t 86) 3), gT 72 (some 88) (.pick (t 80) (t 87) (.const (.bool false))), gT 72 (some 89) (.unOp .not 4 (t 88)), u 90 (.pick (t 72) (t 89) (.const (.bool false))), u 10 (.assign (t 90))]
def r9_20 : List COpF := [uF 91 (.move (t 10)) .pure [], uF 92 (.move (t 91)) .pure [], gTF 92 (some 93) (.move (t 9)) .pure [], gTF 92 (some 94) (.move (t 6)) .pure [], gTF 92 (some 95) (cb .len #[(t 94)] #[35]) .pure [], gTF 92 (some 96) (.binOp .geq 3 (t 93) (t 95) 3) .pure [], gTF 92 (some 97) (.move (t 96)) .pure [], gNF 97 (some 98) (.move (t 6)) .pure [], gNF 97 (some 99) (.move (t 9)) .pure [], gNF 97 (some 100) (.indexAddr 35 (t 98) (t 99)) .pure [], gNF 97 (some 101) (.load 5 (t 100)) .look [], gNF 97 (some 102) (.move (t 0)) .pure [], gNF 97 (some 103) (.move (t 8)) .pure [], gNF 97 (some 104) (.indexAddr 35 (t 102) (t 103)) .pure [], gNF 97 (some 105) (.load 5 (t 104)) .look [], gNF 97 (some 106) (.binOp .neq 5 (t 101) (t 105) 5) .pure [], gTF 92 (some 107) (.pick (t 97) (.const (.bool true)) (t 106)) .pure [], uF 108 (.pick (t 92) (t 107) (.const (.bool false))) .pure []]
def r9_21 : List COp := [u 4 (.assign (.const (.bool false)))]
def r9_22 : List COp := [u 4 (.assign (.const (.bool true)))]
def correctorlaw4_EditMaps_l1 (F : Nat) (a0 : List UInt8) (a1 : List api_Edit) : Nat → (List api_Edit) → (List UInt8) → Int → Int → Bool → Int → Option ((List api_Edit) × (List UInt8) × Int × Int × Bool)
  | 0, _, _, _, _, _, _ => none
  | n + 1, x23023, x23026, x23030, x23031, x23032, x23033 =>
    if x23033 < (x23023.length : Int) then
      ((if x23032 = true then
          if 0 ≤ x23033 ∧ x23033 < (x23023.length : Int) then
            (x23023[x23033.toNat]?).bind fun x23061 =>
            if x23061.From ≤ x23030 then
              if 0 ≤ x23033 ∧ x23033 < (x23023.length : Int) then
                (x23023[x23033.toNat]?).bind fun x23069 =>
                if x23030 < x23069.To then
                  some (x23023, x23026, false)
                else
                  some (x23023, x23026, true)
              else none
            else
              some (x23023, x23026, true)
          else none
        else
          some (x23023, x23026, false)) : Option ((List api_Edit) × (List UInt8) × Bool)).bind fun o => match o with
        | (x23077, x23080, x23084) => correctorlaw4_EditMaps_l1 F a0 a1 n x23077 x23080 x23030 x23031 x23084 (w64 (x23033 + 1))
    else
      some (x23023, x23026, x23030, x23031, x23032)
def correctorlaw4_EditMaps_l0 (F : Nat) (a0 : List UInt8) (a1 : List api_Edit) : Nat → (List api_Edit) → (List UInt8) → Int → Option (Sum Unit Bool)
  | 0, _, _, _ => none
  | n + 1, x22763, x22766, x22770 =>
    if x22770 ≤ (a0.length : Int) then
      (edit_Map F x22763 x22770).bind fun r22777 =>
      (correctorref4_Map F x22763 x22770).bind fun r22804 =>
      if r22777 = r22804 then
        if r22777 < (0 : Int) then
          some (.inr false)
        else
          if (x22766.length : Int) < r22777 then
            some (.inr false)
          else
            ((if x22770 < (a0.length : Int) then
                some (x22763, x22766, true)
              else
                some (x22763, x22766, false)) : Option ((List api_Edit) × (List UInt8) × Bool)).bind fun o => match o with
              | (x22819, x22822, x22826) => ((correctorlaw4_EditMaps_l1 F a0 a1 F x22819 x22822 x22770 r22777 x22826 0) : Option ((List api_Edit) × (List UInt8) × Int × Int × Bool)).bind fun o => match o with
                | (x23106, x23109, x23113, x23114, x23115) => ((if x23115 = true then
                    if (x23109.length : Int) ≤ x23114 then
                      some (.inr false)
                    else
                      if 0 ≤ x23114 ∧ x23114 < (x23109.length : Int) then
                        (x23109[x23114.toNat]?).bind fun x23156 =>
                        if 0 ≤ x23113 ∧ x23113 < (a0.length : Int) then
                          (a0[x23113.toNat]?).bind fun x23166 =>
                          if (x23156.toNat : Int) = (x23166.toNat : Int) then
                            some (.inl (x23106, x23109))
                          else
                            some (.inr false)
                        else none
                      else none
                  else
                    some (.inl (x23106, x23109))) : Option (Sum ((List api_Edit) × (List UInt8)) Bool)).bind fun o => match o with
                  | .inl (x23177, x23180) => correctorlaw4_EditMaps_l0 F a0 a1 n x23177 x23180 (w64 (x23113 + 1))
                  | .inr y => some (.inr y)
      else
        some (.inr false)
    else
      some (.inl ())
def correctorlaw4_EditMaps (F : Nat) (a0 : List UInt8) (a1 : List api_Edit) : Option Bool :=
  (correctorlaw4_known F).bind fun r22069 =>
  if r22069 = true then
    if (60 : Int) < (a0.length : Int) then
      some true
    else
      (correctorlaw4_Few F a1).bind fun r22096 =>
      if r22096 = true then
        (correctorlaw4_Good F (a0.length : Int) a1).bind fun r22104 =>
        (correctorref4_Choose F (a0.length : Int) r22104).bind fun r22122 =>
        (edit_Apply F a0 r22122).bind fun r22140 =>
        if r22140.2 = (0 : Int) then
          ((correctorlaw4_EditMaps_l0 F a0 a1 F r22122 r22140.1 0) : Option (Sum Unit Bool)).bind fun o => match o with
            | .inl () => some true
            | .inr y => some y
        else
          some false
      else
        some true
  else
    some false
theorem correctorlaw4_EditMaps_ok (F : Nat) {h : AH} {Z : Zn} {a0 : List UInt8} {a1 : List api_Edit} {v21340 : Value} {v21342 : Value} (hI : Inv Z h) (q21339 : RS (α := UInt8) Z v21340 a0) (q21341 : RS (α := api_Edit) Z v21342 a1) {r : Bool} (hm : correctorlaw4_EditMaps F a0 a1 = some r) :
    ∃ v h', callI Go.Proofs.Try.prog 9 [v21340, v21342] h = some (v, h') ∧ St h [] Z (0, 0) Z h' [] ∧ v = .bool r := by
  refine fn_plain (Q := fun v => v = .bool r) Go.Proofs.Try.func9 rfl rfl hI ?_
  intro hs hS
  unfold correctorlaw4_EditMaps at hm
  refine sr r9_0 ?_
  refine xe 1 [(0, v21340), (1, v21342)] ?_
  refine sq ?_
  refine sr r9_1 ?_
  obtain ⟨r22069, hx22070, hm⟩ := obind hm
  obtain ⟨v22071, h22072, hcl22073, hSc22074, rfl⟩ := correctorlaw4_known_ok F hS.inv  hx22070
  have hS22075 := St.call (A := []) (B := []) hS hSc22074
  replace hS22075 : St _ _ _ _ _ _ [] := hS22075
  refine r_step rfl trivial (o_call hcl22073 rfl rfl rfl) ?_
  rcases ifs hm with ⟨hp22076, hm⟩ | ⟨hp22076, hm⟩
  refine r_setb (t := 12) rfl hp22076 ?_
  refine xe 1 [(13, .bool false), (0, v21340), (1, v21342)] ?_
  refine kF 13 rfl ?_
  refine sq ?_
  refine sr r9_3 ?_
  refine xq 1 [(14, v21340), (0, v21340), (1, v21342)] ?_
  refine r_step rfl trivial (o_len rfl (RS.len q21339) ⟨_, Go.Proofs.Try.underlying35⟩) ?_
  rcases ifs hm with ⟨hp22095, hm⟩ | ⟨hp22095, hm⟩
  refine r_step rfl trivial (o_cmp rfl rfl (c_gtr_T hp22095)) ?_
  refine xe 5 [(21, .bool true), (0, v21340), (1, v21342)] ?_
  refine cT 21 rfl ?_
  refine sr r9_4 ?_
  refine xe 1 [(4, .bool true)] ?_
  refine rt ?_
  refine ⟨rfl, ?_⟩
  obtain rfl := Option.some.inj hm
  refine ⟨_, _, _, ResL.tmp rfl (ResL.nil), hS22075, ?_⟩
  exact rfl
  refine r_step rfl trivial (o_cmp rfl rfl (c_gtr_F hp22095)) ?_
  refine xq 2 [(18, v21342), (17, .bool false), (0, v21340), (1, v21342)] ?_
  obtain ⟨r22096, hx22097, hm⟩ := obind hm
  obtain ⟨v22098, h22099, hcl22100, hSc22101, rfl⟩ := correctorlaw4_Few_ok F hS22075.inv q21341 hx22097
  have hS22102 := St.call (A := []) (B := []) hS22075 hSc22101
  replace hS22102 : St _ _ _ _ _ _ [] := hS22102
  refine r_step rfl rfl (o_call hcl22100 rfl rfl rfl) ?_
  rcases ifs hm with ⟨hp22103, hm⟩ | ⟨hp22103, hm⟩
  refine r_setb (t := 19) rfl hp22103 ?_
  refine xe 2 [(21, .bool false), (0, v21340), (1, v21342)] ?_
  refine kF 21 rfl ?_
  refine sr r9_5 ?_
  refine xq 1 [(22, v21340), (0, v21340), (1, v21342)] ?_
  refine r_step rfl trivial (o_len rfl (RS.len q21339) ⟨_, Go.Proofs.Try.underlying35⟩) ?_
  refine xq 1 [(24, v21340), (23, .int .i64 (a0.length : Int)), (0, v21340), (1, v21342)] ?_
  refine r_step rfl trivial (o_len rfl (RS.len q21339) ⟨_, Go.Proofs.Try.underlying35⟩) ?_
  refine xq 1 [(26, v21342), (25, .int .i64 (a0.length : Int)), (23, .int .i64 (a0.length : Int)), (0, v21340)] ?_
  obtain ⟨r22104, hx22105, hm⟩ := obind hm
  have hSr22111 : St _ _ _ _ _ _ ([] ++ []) := hS22102
  obtain ⟨v22106, h22107, Z22112, A22114, hcl22108, hSc22109, v22116, c22117, rfl, rfl, q22115⟩ := correctorlaw4_Good_ok F hSr22111.preL q21341 hx22105
  have hS22110 := hSr22111.call hSc22109
  have hZ22113 := hSc22109.zle
  replace hS22110 : St _ _ _ _ _ _ [.gs v22116 c22117 (csz api_Edit)] := hS22110
  refine r_step rfl trivial (o_call hcl22108 rfl rfl rfl) ?_
  obtain ⟨Z22118, hZ22119, q22120, hS22121⟩ := (hS22110.front 0 rfl).freeze q22115
  replace hS22121 : St _ _ _ _ _ _ [] := hS22121
  obtain ⟨r22122, hx22123, hm⟩ := obind hm
  have hSr22129 : St _ _ _ _ _ _ ([] ++ []) := hS22121
  obtain ⟨v22124, h22125, Z22130, A22132, hcl22126, hSc22127, v22134, c22135, rfl, rfl, q22133⟩ := correctorref4_Choose_ok F hSr22129.preL q22120 hx22123
  have hS22128 := hSr22129.call hSc22127
  have hZ22131 := hSc22127.zle
  replace hS22128 : St _ _ _ _ _ _ [.gs v22134 c22135 (csz api_Edit)] := hS22128
  refine r_step rfl trivial (o_call hcl22126 rfl rfl rfl) ?_
  refine xe 1 [(5, v22134), (0, v21340)] ?_
  refine sr r9_6 ?_
  refine xq 2 [(31, v22134), (30, v21340), (5, v22134), (0, v21340)] ?_
  obtain ⟨Z22136, hZ22137, q22138, hS22139⟩ := (hS22128.front 0 rfl).freeze q22133
  replace hS22139 : St _ _ _ _ _ _ [] := hS22139
  obtain ⟨r22140, hx22141, hm⟩ := obind hm
  have hSr22147 : St _ _ _ _ _ _ ([] ++ []) := hS22139
  obtain ⟨v22142, h22143, Z22148, A22150, hcl22144, hSc22145, v22152, c22153, rfl, rfl, q22151⟩ := edit_Apply_ok F hSr22147.preL (q21339.mono (hZ22113.trans (hZ22119.trans (hZ22131.trans hZ22137)))) q22138 hx22141
  have hS22146 := hSr22147.call hSc22145
  have hZ22149 := hSc22145.zle
  replace hS22146 : St _ _ _ _ _ _ [.gs v22152 c22153 (csz UInt8)] := hS22146
  refine r_step rfl trivial (o_call hcl22144 rfl rfl rfl) ?_
  refine xe 5 [(7, .int .i64 r22140.2), (6, v22152), (5, v22134), (0, v21340)] ?_
  refine sq ?_
  refine sr r9_7 ?_
  refine xq 1 [(35, .int .i64 r22140.2), (6, v22152), (5, v22134), (0, v21340)] ?_
  rcases ifs hm with ⟨hp22156, hm⟩ | ⟨hp22156, hm⟩
  refine r_step rfl trivial (o_cmp rfl rfl (c_neq_F hp22156)) ?_
  refine xf [(36, .bool false), (6, v22152), (5, v22134), (0, v21340)] ?_
  refine kF 36 rfl ?_
  refine sq ?_
  refine sr r9_9 ?_
  refine xe 1 [(8, .int .i64 0), (6, v22152), (5, v22134), (0, v21340)] ?_
  obtain ⟨o22761, ho22760, hm⟩ := obind hm
  refine W_join [] (fun l h => ∃ Z23211 : Zn, .inl () = o22761 ∧ l = [] ∧ St hs [] Z (0, 0) Z23211 h []) ?_ ?_
  rintro l h23212 ⟨Z23211, rfl, rfl, hS23213⟩
  try dsimp only at hm
  refine sr r9_22 ?_
  refine xe 1 [(4, .bool true)] ?_
  refine rt ?_
  refine ⟨rfl, ?_⟩
  obtain rfl := Option.some.inj hm
  refine ⟨_, _, _, ResL.tmp rfl (ResL.nil), hS23213, ?_⟩
  exact rfl
  refine bk 0 ?_
  refine lp [0, 5, 6, 8] (fun n l h => ∃ Z22762 : Zn, ∃ x22763 : List api_Edit, ∃ x22766 : List UInt8, ∃ x22770 : Int, ∃ v22765 : Value, ∃ v22768 : Value, ∃ c22769 : List Value, correctorlaw4_EditMaps_l0 F a0 a1 n x22763 x22766 x22770 = some o22761 ∧ RS (α := api_Edit) Z22762 v22765 x22763 ∧ RCs (α := UInt8) Z22762 c22769 x22766 ∧ l = [(0, v21340), (5, v22765), (6, v22768), (8, .int .i64 x22770)] ∧ St hs [] Z (0, 0) Z22762 h [.gs v22768 c22769 (csz UInt8)]) F ⟨_, r22122, r22140.1, 0, v22134, v22152, c22153, ho22760, (q22138.mono hZ22149), q22151, rfl, hS22146⟩ ?_
  rintro n22773 l h22771 ⟨Z22762, x22763, x22766, x22770, v22765, v22768, c22769, ho22760, q22764, q22767, rfl, hS22772⟩
  rcases n22773 with _ | n22773
  cases (show none = some o22761 from ho22760)
  rw [correctorlaw4_EditMaps_l0] at ho22760
  refine sq ?_
  refine sr r9_10 ?_
  refine xq 2 [(38, v21340), (37, .int .i64 x22770), (0, v21340), (5, v22765), (6, v22768), (8, .int .i64 x22770)] ?_
  refine r_step rfl trivial (o_len rfl (RS.len (q21339.mono hS22772.zle)) ⟨_, Go.Proofs.Try.underlying35⟩) ?_
  rcases ifs ho22760 with ⟨hp22776, ho22760⟩ | ⟨hp22776, ho22760⟩
  refine r_step rfl trivial (o_cmp rfl rfl (c_leq_T hp22776)) ?_
  refine xf [(40, .bool true), (0, v21340), (5, v22765), (6, v22768), (8, .int .i64 x22770)] ?_
  refine kT 40 rfl ?_
  refine sq ?_
  refine bk 1 ?_
  refine sr r9_12 ?_
  refine xq 2 [(44, .int .i64 x22770), (43, v22765), (0, v21340), (5, v22765), (6, v22768), (8, .int .i64 x22770)] ?_
  obtain ⟨r22777, hx22778, ho22760⟩ := obind ho22760
  obtain ⟨v22779, h22780, hcl22781, hSc22782, rfl⟩ := edit_Map_ok F hS22772.inv q22764 hx22778
  have hS22783 := St.call (A := []) (B := [.gs v22768 c22769 (csz UInt8)]) hS22772 hSc22782
  replace hS22783 : St _ _ _ _ _ _ [.gs v22768 c22769 (csz UInt8)] := hS22783
  refine r_step rfl trivial (o_call hcl22781 rfl rfl rfl) ?_
  refine xe 1 [(9, .int .i64 r22777), (0, v21340), (5, v22765), (6, v22768), (8, .int .i64 x22770)] ?_
  refine sq ?_
  refine sr r9_13 ?_
  refine xq 3 [(48, .int .i64 x22770), (47, v22765), (46, .int .i64 r22777), (9, .int .i64 r22777), (0, v21340), (5, v22765), (6, v22768), (8, .int .i64 x22770)] ?_
  obtain ⟨r22804, hx22805, ho22760⟩ := obind ho22760
  obtain ⟨v22806, h22807, hcl22808, hSc22809, rfl⟩ := correctorref4_Map_ok F hS22783.inv q22764 hx22805
  have hS22810 := St.call (A := []) (B := [.gs v22768 c22769 (csz UInt8)]) hS22783 hSc22809
  replace hS22810 : St _ _ _ _ _ _ [.gs v22768 c22769 (csz UInt8)] := hS22810
  refine r_step rfl trivial (o_call hcl22808 rfl rfl rfl) ?_
  rcases ifs ho22760 with ⟨hp22811, ho22760⟩ | ⟨hp22811, ho22760⟩
  refine r_step rfl trivial (o_cmp rfl rfl (c_neq_F hp22811)) ?_
  refine xq 2 [(52, .int .i64 r22777), (51, .bool false), (9, .int .i64 r22777), (0, v21340), (5, v22765), (6, v22768), (8, .int .i64 x22770)] ?_
  rcases ifs ho22760 with ⟨hp22812, ho22760⟩ | ⟨hp22812, ho22760⟩
  refine r_step rfl rfl (o_cmp rfl rfl (c_lss_T hp22812)) ?_
  refine xe 7 [(60, .bool true), (9, .int .i64 r22777), (0, v21340), (5, v22765), (6, v22768), (8, .int .i64 x22770)] ?_
  refine cT 60 rfl ?_
  refine sr r9_14 ?_
  refine xe 1 [(4, .bool false)] ?_
  refine rt ?_
  refine blkX_ret ?_
  refine blkX_ret ?_
  refine ⟨rfl, ?_⟩
  obtain rfl := Option.some.inj ho22760
  obtain rfl := Option.some.inj hm
  refine ⟨_, _, _, ResL.tmp rfl (ResL.nil), hS22810, ?_⟩
  exact rfl
  refine r_step rfl rfl (o_cmp rfl rfl (c_lss_F hp22812)) ?_
  refine xq 4 [(57, v22768), (56, .int .i64 r22777), (55, .bool false), (9, .int .i64 r22777), (0, v21340), (5, v22765), (6, v22768), (8, .int .i64 x22770)] ?_
  refine r_step rfl rfl (o_len rfl (hS22810.glen (i := 0) rfl q22767) ⟨_, Go.Proofs.Try.underlying35⟩) ?_
  rcases ifs ho22760 with ⟨hp22813, ho22760⟩ | ⟨hp22813, ho22760⟩
  refine r_step rfl rfl (o_cmp rfl rfl (c_gtr_T hp22813)) ?_
  refine xe 1 [(60, .bool true), (9, .int .i64 r22777), (0, v21340), (5, v22765), (6, v22768), (8, .int .i64 x22770)] ?_
  refine cT 60 rfl ?_
  refine sr r9_14 ?_
  refine xe 1 [(4, .bool false)] ?_
  refine rt ?_
  refine blkX_ret ?_
  refine blkX_ret ?_
  refine ⟨rfl, ?_⟩
  obtain rfl := Option.some.inj ho22760
  obtain rfl := Option.some.inj hm
  refine ⟨_, _, _, ResL.tmp rfl (ResL.nil), hS22810, ?_⟩
  exact rfl
  refine r_step rfl rfl (o_cmp rfl rfl (c_gtr_F hp22813)) ?_
  refine xe 1 [(60, .bool false), (9, .int .i64 r22777), (0, v21340), (5, v22765), (6, v22768), (8, .int .i64 x22770)] ?_
  refine kF 60 rfl ?_
  refine sq ?_
  obtain ⟨o22816, ho22815, ho22760⟩ := obind ho22760
  refine W_join [0, 5, 6, 8, 9, 10] (fun l h => ∃ Z22818 : Zn, ∃ x22819 : List api_Edit, ∃ x22822 : List UInt8, ∃ x22826 : Bool, ∃ v22821 : Value, ∃ v22824 : Value, ∃ c22825 : List Value, (x22819, x22822, x22826) = o22816 ∧ RS (α := api_Edit) Z22818 v22821 x22819 ∧ RCs (α := UInt8) Z22818 c22825 x22822 ∧ l = [(0, v21340), (5, v22821), (6, v22824), (8, .int .i64 x22770), (9, .int .i64 r22777), (10, .bool x22826)] ∧ St hs [] Z (0, 0) Z22818 h [.gs v22824 c22825 (csz UInt8)]) ?_ ?_
  rintro l h22827 ⟨Z22818, x22819, x22822, x22826, v22821, v22824, c22825, rfl, q22820, q22823, rfl, hS22828⟩
  try dsimp only at ho22760
  refine sq ?_
  refine sr r9_16 ?_
  refine xe 1 [(11, .int .i64 0), (0, v21340), (5, v22821), (6, v22824), (8, .int .i64 x22770), (9, .int .i64 r22777), (10, .bool x22826)] ?_
  obtain ⟨o23021, ho23020, ho22760⟩ := obind ho22760
  refine W_join [0, 5, 6, 8, 9, 10] (fun l h => ∃ Z23105 : Zn, ∃ x23106 : List api_Edit, ∃ x23109 : List UInt8, ∃ x23113 : Int, ∃ x23114 : Int, ∃ x23115 : Bool, ∃ v23108 : Value, ∃ v23111 : Value, ∃ c23112 : List Value, (x23106, x23109, x23113, x23114, x23115) = o23021 ∧ RS (α := api_Edit) Z23105 v23108 x23106 ∧ RCs (α := UInt8) Z23105 c23112 x23109 ∧ l = [(0, v21340), (5, v23108), (6, v23111), (8, .int .i64 x23113), (9, .int .i64 x23114), (10, .bool x23115)] ∧ St hs [] Z (0, 0) Z23105 h [.gs v23111 c23112 (csz UInt8)]) ?_ ?_
  rintro l h23116 ⟨Z23105, x23106, x23109, x23113, x23114, x23115, v23108, v23111, c23112, rfl, q23107, q23110, rfl, hS23117⟩
  try dsimp only at ho22760
  obtain ⟨o23147, ho23146, ho22760⟩ := obind ho22760
  refine W_seqJoin0 [0, 5, 6, 8] (fun l h => ∃ Z23176 : Zn, ∃ x23177 : List api_Edit, ∃ x23180 : List UInt8, ∃ v23179 : Value, ∃ v23182 : Value, ∃ c23183 : List Value, .inl (x23177, x23180) = o23147 ∧ RS (α := api_Edit) Z23176 v23179 x23177 ∧ RCs (α := UInt8) Z23176 c23183 x23180 ∧ l = [(0, v21340), (5, v23179), (6, v23182), (8, .int .i64 x23113)] ∧ St hs [] Z (0, 0) Z23176 h [.gs v23182 c23183 (csz UInt8)]) (by kernel_rfl) ?_ ?_
  rintro l h23184 ⟨Z23176, x23177, x23180, v23179, v23182, c23183, rfl, q23178, q23181, rfl, hS23185⟩
  try dsimp only at ho22760
  refine rg r9_11 ?_
  refine xe 3 [(8, .int .i64 (w64 (x23113 + 1))), (0, v21340), (5, v23179), (6, v23182)] ?_
  exact ⟨n22773, Nat.lt_succ_self _, ⟨_, x23177, x23180, w64 (x23113 + 1), v23179, v23182, c23183, ho22760, q23178, q23181, rfl, hS23185⟩⟩
  refine rgF r9_20 hS23117 ?_
  intro bs23148 h23149 hlv23151 hS23150
  refine yq 2 [(92, .bool x23115), (0, v21340), (5, v23108), (6, v23111), (8, .int .i64 x23113), (9, .int .i64 x23114)] ?_
  rcases ifs ho23146 with ⟨hp23152, ho23146⟩ | ⟨hp23152, ho23146⟩
  refine e_setb (t := 92) rfl hp23152 ?_
  refine yq 2 [(94, v23111), (93, .int .i64 x23114), (92, .bool true), (0, v21340), (5, v23108), (6, v23111), (8, .int .i64 x23113), (9, .int .i64 x23114)] ?_
  refine e_val rfl rfl (o_len rfl (hS23150.glen (i := 0) rfl q23110) ⟨_, Go.Proofs.Try.underlying35⟩) ?_
  rcases ifs ho23146 with ⟨hp23153, ho23146⟩ | ⟨hp23153, ho23146⟩
  refine e_val rfl rfl (o_cmp rfl rfl (c_geq_T hp23153)) ?_
  refine ye 12 [(108, .bool true), (0, v21340), (5, v23108), (6, v23111), (8, .int .i64 x23113)] ?_
  have hS23154 := hS23150.unres
  refine cT 108 rfl ?_
  refine sr r9_21 ?_
  refine xe 1 [(4, .bool false)] ?_
  refine rt ?_
  refine blkX_ret ?_
  refine blkX_ret ?_
  refine ⟨rfl, ?_⟩
  obtain rfl := Option.some.inj ho23146
  obtain rfl := Option.some.inj ho22760
  obtain rfl := Option.some.inj hm
  refine ⟨_, _, _, ResL.tmp rfl (ResL.nil), hS23154, ?_⟩
  exact rfl
  refine e_val rfl rfl (o_cmp rfl rfl (c_geq_F hp23153)) ?_
  refine yq 3 [(99, .int .i64 x23114), (98, v23111), (97, .bool false), (92, .bool true), (0, v21340), (5, v23108), (6, v23111), (8, .int .i64 x23113)] ?_
  obtain ⟨hc23155, ho23146⟩ := chk ho23146
  refine e_val rfl rfl (o_index rfl rfl (by kernel_rfl : slTy _ _ = some (csz UInt8)) (hS23150.gbased (j := 0) rfl q23110 (by omega)) hc23155.1 hc23155.2) ?_
  obtain ⟨x23156, hx23157, ho23146⟩ := obind ho23146
  obtain ⟨cs23158, hc23159, he23160, ht23161⟩ := hS23150.gel (j := 0) rfl q23110 (i := x23114) hx23157
  obtain rfl := rc_UInt8 hc23159
  have ps23162 := pos_of hx23157
  have hB23163 := hS23150.gbased (j := 0) rfl q23110 ps23162
  have lt23164 : (baseOf v23111).block < bs23148 := row_ltM (hlv23151.1 _ (List.mem_of_getElem? (i := 0) rfl)) hB23163
  refine e_lookB rfl rfl rfl (by show (baseOf v23111).block < _; omega) (same1 (v := .int .u8 (x23156.toNat : Int)) trivial) (o_lde (w := .int .u8 (x23156.toNat : Int)) he23160 rfl (by kernel_rfl)) trivial ?_
  refine yq 2 [(103, .int .i64 x23113), (102, v21340), (101, .int .u8 (x23156.toNat : Int)), (97, .bool false), (92, .bool true), (0, v21340), (5, v23108), (6, v23111), (8, .int .i64 x23113)] ?_
  obtain ⟨hc23165, ho23146⟩ := chk ho23146
  refine e_val rfl rfl (o_index rfl rfl (by kernel_rfl : slTy _ _ = some (csz UInt8)) (RS.based (q21339.mono hS23117.zle) (by omega)) hc23165.1 hc23165.2) ?_
  obtain ⟨x23166, hx23167, ho23146⟩ := obind ho23146
  obtain ⟨cs23168, hc23169, he23170⟩ := RS.elz (q21339.mono hS23117.zle) (i := x23113) hx23167
  obtain rfl := rc_UInt8 hc23169
  refine e_lookZ rfl rfl rfl (fun h2 hz => o_lde (w := .int .u8 (x23166.toNat : Int)) (he23170 h2 hz) rfl (by kernel_rfl)) (hS23150.zin0 (Zle.refl _)) (same1 (v := .int .u8 (x23166.toNat : Int)) trivial) trivial ?_
  rcases ifs ho23146 with ⟨hp23172, ho23146⟩ | ⟨hp23172, ho23146⟩
  refine e_val rfl rfl (o_cmp rfl rfl (c_neq_F hp23172)) ?_
  refine ye 2 [(108, .bool false), (0, v21340), (5, v23108), (6, v23111), (8, .int .i64 x23113)] ?_
  have hS23173 := hS23150.unres
  refine kF 108 rfl ?_
  obtain rfl := Option.some.inj ho23146
  exact ⟨_, x23106, x23109, v23108, v23111, c23112, rfl, q23107, q23110, rfl, hS23173⟩
  refine e_val rfl rfl (o_cmp rfl rfl (c_neq_T hp23172)) ?_
  refine ye 2 [(108, .bool true), (0, v21340), (5, v23108), (6, v23111), (8, .int .i64 x23113)] ?_
  have hS23174 := hS23150.unres
  refine cT 108 rfl ?_
  refine sr r9_21 ?_
  refine xe 1 [(4, .bool false)] ?_
  refine rt ?_
  refine blkX_ret ?_
  refine blkX_ret ?_
  refine ⟨rfl, ?_⟩
  obtain rfl := Option.some.inj ho23146
  obtain rfl := Option.some.inj ho22760
  obtain rfl := Option.some.inj hm
  refine ⟨_, _, _, ResL.tmp rfl (ResL.nil), hS23174, ?_⟩
  exact rfl
  refine e_setb (t := 92) rfl (Bool.eq_false_iff.2 hp23152) ?_
  refine ye 16 [(108, .bool false), (0, v21340), (5, v23108), (6, v23111), (8, .int .i64 x23113)] ?_
  have hS23175 := hS23150.unres
  refine kF 108 rfl ?_
  obtain rfl := Option.some.inj ho23146
  exact ⟨_, x23106, x23109, v23108, v23111, c23112, rfl, q23107, q23110, rfl, hS23175⟩
  refine bk 2 ?_
  refine lp [0, 5, 6, 8, 9, 10, 11] (fun n l h => ∃ Z23022 : Zn, ∃ x23023 : List api_Edit, ∃ x23026 : List UInt8, ∃ x23030 : Int, ∃ x23031 : Int, ∃ x23032 : Bool, ∃ x23033 : Int, ∃ v23025 : Value, ∃ v23028 : Value, ∃ c23029 : List Value, correctorlaw4_EditMaps_l1 F a0 a1 n x23023 x23026 x23030 x23031 x23032 x23033 = some o23021 ∧ RS (α := api_Edit) Z23022 v23025 x23023 ∧ RCs (α := UInt8) Z23022 c23029 x23026 ∧ l = [(0, v21340), (5, v23025), (6, v23028), (8, .int .i64 x23030), (9, .int .i64 x23031), (10, .bool x23032), (11, .int .i64 x23033)] ∧ St hs [] Z (0, 0) Z23022 h [.gs v23028 c23029 (csz UInt8)]) F ⟨_, x22819, x22822, x22770, r22777, x22826, 0, v22821, v22824, c22825, ho23020, q22820, q22823, rfl, hS22828⟩ ?_
  rintro n23036 l h23034 ⟨Z23022, x23023, x23026, x23030, x23031, x23032, x23033, v23025, v23028, c23029, ho23020, q23024, q23027, rfl, hS23035⟩
  rcases n23036 with _ | n23036
  cases (show none = some o23021 from ho23020)
  rw [correctorlaw4_EditMaps_l1] at ho23020
  refine sq ?_
  refine sr r9_17 ?_
  refine xq 2 [(66, v23025), (65, .int .i64 x23033), (0, v21340), (5, v23025), (6, v23028), (8, .int .i64 x23030), (9, .int .i64 x23031), (10, .bool x23032), (11, .int .i64 x23033)] ?_
  refine r_step rfl trivial (o_len rfl (RS.len q23024) ⟨_, Go.Proofs.Try.underlying22⟩) ?_
  rcases ifs ho23020 with ⟨hp23039, ho23020⟩ | ⟨hp23039, ho23020⟩
  refine r_step rfl trivial (o_cmp rfl rfl (c_lss_T hp23039)) ?_
  refine xf [(68, .bool true), (0, v21340), (5, v23025), (6, v23028), (8, .int .i64 x23030), (9, .int .i64 x23031), (10, .bool x23032), (11, .int .i64 x23033)] ?_
  refine kT 68 rfl ?_
  refine sq ?_
  refine bk 3 ?_
  obtain ⟨o23058, ho23057, ho23020⟩ := obind ho23020
  refine W_join [0, 5, 6, 8, 9, 10, 11] (fun l h => ∃ Z23076 : Zn, ∃ x23077 : List api_Edit, ∃ x23080 : List UInt8, ∃ x23084 : Bool, ∃ v23079 : Value, ∃ v23082 : Value, ∃ c23083 : List Value, (x23077, x23080, x23084) = o23058 ∧ RS (α := api_Edit) Z23076 v23079 x23077 ∧ RCs (α := UInt8) Z23076 c23083 x23080 ∧ l = [(0, v21340), (5, v23079), (6, v23082), (8, .int .i64 x23030), (9, .int .i64 x23031), (10, .bool x23084), (11, .int .i64 x23033)] ∧ St hs [] Z (0, 0) Z23076 h [.gs v23082 c23083 (csz UInt8)]) ?_ ?_
  rintro l h23085 ⟨Z23076, x23077, x23080, x23084, v23079, v23082, c23083, rfl, q23078, q23081, rfl, hS23086⟩
  try dsimp only at ho23020
  refine rg r9_18 ?_
  refine xe 3 [(11, .int .i64 (w64 (x23033 + 1))), (0, v21340), (5, v23079), (6, v23082), (8, .int .i64 x23030), (9, .int .i64 x23031), (10, .bool x23084)] ?_
  exact ⟨n23036, Nat.lt_succ_self _, ⟨_, x23077, x23080, x23030, x23031, x23084, w64 (x23033 + 1), v23079, v23082, c23083, ho23020, q23078, q23081, rfl, hS23086⟩⟩
  refine rg r9_19 ?_
  refine xq 2 [(72, .bool x23032), (0, v21340), (5, v23025), (6, v23028), (8, .int .i64 x23030), (9, .int .i64 x23031), (10, .bool x23032), (11, .int .i64 x23033)] ?_
  rcases ifs ho23057 with ⟨hp23059, ho23057⟩ | ⟨hp23059, ho23057⟩
  refine r_setb (t := 72) rfl hp23059 ?_
  refine xq 2 [(74, .int .i64 x23033), (73, v23025), (72, .bool true), (0, v21340), (5, v23025), (6, v23028), (8, .int .i64 x23030), (9, .int .i64 x23031), (10, .bool x23032), (11, .int .i64 x23033)] ?_
  obtain ⟨hc23060, ho23057⟩ := chk ho23057
  refine r_step rfl rfl (o_index rfl rfl (by kernel_rfl : slTy _ _ = some (csz api_Edit)) (RS.based q23024 (by omega)) hc23060.1 hc23060.2) ?_
  refine xq 1 [(76, .pointer (some (elemA v23025 x23033 (csz api_Edit) 0))), (72, .bool true), (0, v21340), (5, v23025), (6, v23028), (8, .int .i64 x23030), (9, .int .i64 x23031), (10, .bool x23032), (11, .int .i64 x23033)] ?_
  obtain ⟨x23061, hx23062, ho23057⟩ := obind ho23057
  obtain ⟨cs23063, hc23064, he23065⟩ := RS.elz q23024 (i := x23033) hx23062
  obtain rfl := rc_api_Edit hc23064
  refine r_step rfl rfl (o_lde (w := .int .i64 x23061.From) (he23065 _ (hS23035.zin0 (Zle.refl _))) rfl (by kernel_rfl)) ?_
  refine xq 1 [(78, .int .i64 x23030), (77, .int .i64 x23061.From), (72, .bool true), (0, v21340), (5, v23025), (6, v23028), (8, .int .i64 x23030), (9, .int .i64 x23031), (10, .bool x23032), (11, .int .i64 x23033)] ?_
  rcases ifs ho23057 with ⟨hp23067, ho23057⟩ | ⟨hp23067, ho23057⟩
  refine r_step rfl rfl (o_cmp rfl rfl (c_leq_T hp23067)) ?_
  refine xq 4 [(83, .int .i64 x23033), (82, v23025), (81, .int .i64 x23030), (80, .bool true), (72, .bool true), (0, v21340), (5, v23025), (6, v23028), (8, .int .i64 x23030), (9, .int .i64 x23031), (10, .bool x23032), (11, .int .i64 x23033)] ?_
  obtain ⟨hc23068, ho23057⟩ := chk ho23057
  refine r_step rfl rfl (o_index rfl rfl (by kernel_rfl : slTy _ _ = some (csz api_Edit)) (RS.based q23024 (by omega)) hc23068.1 hc23068.2) ?_
  refine xq 1 [(85, .pointer (some (elemA v23025 x23033 (csz api_Edit) 1))), (81, .int .i64 x23030), (80, .bool true), (72, .bool true), (0, v21340), (5, v23025), (6, v23028), (8, .int .i64 x23030), (9, .int .i64 x23031), (10, .bool x23032), (11, .int .i64 x23033)] ?_
  obtain ⟨x23069, hx23070, ho23057⟩ := obind ho23057
  obtain ⟨cs23071, hc23072, he23073⟩ := RS.elz q23024 (i := x23033) hx23070
  obtain rfl := rc_api_Edit hc23072
  refine r_step rfl rfl (o_lde (w := .int .i64 x23069.To) (he23073 _ (hS23035.zin0 (Zle.refl _))) rfl (by kernel_rfl)) ?_
  rcases ifs ho23057 with ⟨hp23075, ho23057⟩ | ⟨hp23075, ho23057⟩
  refine r_step rfl rfl (o_cmp rfl rfl (c_lss_T hp23075)) ?_
  refine xe 4 [(10, .bool false), (0, v21340), (5, v23025), (6, v23028), (8, .int .i64 x23030), (9, .int .i64 x23031), (11, .int .i64 x23033)] ?_
  obtain rfl := Option.some.inj ho23057
  exact ⟨_, x23023, x23026, false, v23025, v23028, c23029, rfl, q23024, q23027, rfl, hS23035⟩
  refine r_step rfl rfl (o_cmp rfl rfl (c_lss_F hp23075)) ?_
  refine xe 4 [(10, .bool true), (0, v21340), (5, v23025), (6, v23028), (8, .int .i64 x23030), (9, .int .i64 x23031), (11, .int .i64 x23033)] ?_
  obtain rfl := Option.some.inj ho23057
  exact ⟨_, x23023, x23026, true, v23025, v23028, c23029, rfl, q23024, q23027, rfl, hS23035⟩
  refine r_step rfl rfl (o_cmp rfl rfl (c_leq_F hp23067)) ?_
  refine xe 12 [(10, .bool true), (0, v21340), (5, v23025), (6, v23028), (8, .int .i64 x23030), (9, .int .i64 x23031), (11, .int .i64 x23033)] ?_
  obtain rfl := Option.some.inj ho23057
  exact ⟨_, x23023, x23026, true, v23025, v23028, c23029, rfl, q23024, q23027, rfl, hS23035⟩
  refine r_setb (t := 72) rfl (Bool.eq_false_iff.2 hp23059) ?_
  refine xe 19 [(10, .bool false), (0, v21340), (5, v23025), (6, v23028), (8, .int .i64 x23030), (9, .int .i64 x23031), (11, .int .i64 x23033)] ?_
  obtain rfl := Option.some.inj ho23057
  exact ⟨_, x23023, x23026, false, v23025, v23028, c23029, rfl, q23024, q23027, rfl, hS23035⟩
  refine r_step rfl trivial (o_cmp rfl rfl (c_lss_F hp23039)) ?_
  refine xf [(68, .bool false), (0, v21340), (5, v23025), (6, v23028), (8, .int .i64 x23030), (9, .int .i64 x23031), (10, .bool x23032), (11, .int .i64 x23033)] ?_
  refine cF 68 rfl ?_
  refine xt 2 ?_
  refine blkX_hit ?_
  obtain rfl := Option.some.inj ho23020
  exact ⟨_, x23023, x23026, x23030, x23031, x23032, v23025, v23028, c23029, rfl, q23024, q23027, rfl, hS23035⟩
  refine rg r9_15 ?_
  refine xq 2 [(62, v21340), (61, .int .i64 x22770), (9, .int .i64 r22777), (0, v21340), (5, v22765), (6, v22768), (8, .int .i64 x22770)] ?_
  refine r_step rfl trivial (o_len rfl (RS.len (q21339.mono hS22772.zle)) ⟨_, Go.Proofs.Try.underlying35⟩) ?_
  rcases ifs ho22815 with ⟨hp22817, ho22815⟩ | ⟨hp22817, ho22815⟩
  refine r_step rfl trivial (o_cmp rfl rfl (c_lss_T hp22817)) ?_
  refine xe 1 [(10, .bool true), (9, .int .i64 r22777), (0, v21340), (5, v22765), (6, v22768), (8, .int .i64 x22770)] ?_
  obtain rfl := Option.some.inj ho22815
  exact ⟨_, x22763, x22766, true, v22765, v22768, c22769, rfl, q22764, q22767, rfl, hS22810⟩
  refine r_step rfl trivial (o_cmp rfl rfl (c_lss_F hp22817)) ?_
  refine xe 1 [(10, .bool false), (9, .int .i64 r22777), (0, v21340), (5, v22765), (6, v22768), (8, .int .i64 x22770)] ?_
  obtain rfl := Option.some.inj ho22815
  exact ⟨_, x22763, x22766, false, v22765, v22768, c22769, rfl, q22764, q22767, rfl, hS22810⟩
  refine r_step rfl trivial (o_cmp rfl rfl (c_neq_T hp22811)) ?_
  refine xe 10 [(60, .bool true), (9, .int .i64 r22777), (0, v21340), (5, v22765), (6, v22768), (8, .int .i64 x22770)] ?_
  refine cT 60 rfl ?_
  refine sr r9_14 ?_
  refine xe 1 [(4, .bool false)] ?_
  refine rt ?_
  refine blkX_ret ?_
  refine blkX_ret ?_
  refine ⟨rfl, ?_⟩
  obtain rfl := Option.some.inj ho22760
  obtain rfl := Option.some.inj hm
  refine ⟨_, _, _, ResL.tmp rfl (ResL.nil), hS22810, ?_⟩
  exact rfl
  refine r_step rfl trivial (o_cmp rfl rfl (c_leq_F hp22776)) ?_
  refine xf [(40, .bool false), (0, v21340), (5, v22765), (6, v22768), (8, .int .i64 x22770)] ?_
  refine cF 40 rfl ?_
  refine xt 0 ?_
  refine blkX_hit ?_
  obtain rfl := Option.some.inj ho22760
  exact ⟨_, rfl, rfl, (hS22772.takeN 0)⟩
  refine r_step rfl trivial (o_cmp rfl rfl (c_neq_T hp22156)) ?_
  refine xf [(36, .bool true), (6, v22152), (5, v22134), (0, v21340)] ?_
  refine cT 36 rfl ?_
  refine sr r9_8 ?_
  refine xe 1 [(4, .bool false)] ?_
  refine rt ?_
  refine ⟨rfl, ?_⟩
  obtain rfl := Option.some.inj hm
  refine ⟨_, _, _, ResL.tmp rfl (ResL.nil), hS22146, ?_⟩
  exact rfl
  refine r_setb (t := 19) rfl (Bool.eq_false_iff.2 hp22103) ?_
  refine xe 2 [(21, .bool true), (0, v21340), (1, v21342)] ?_
  refine cT 21 rfl ?_
  refine sr r9_4 ?_
  refine xe 1 [(4, .bool true)] ?_
  refine rt ?_
  refine ⟨rfl, ?_⟩
  obtain rfl := Option.some.inj hm
  refine ⟨_, _, _, ResL.tmp rfl (ResL.nil), hS22102, ?_⟩
  exact rfl
  refine r_setb (t := 12) rfl (Bool.eq_false_iff.2 hp22076) ?_
  refine xe 1 [(13, .bool true), (0, v21340), (1, v21342)] ?_
  refine cT 13 rfl ?_
  refine sr r9_2 ?_
  refine xe 1 [(4, .bool false)] ?_
  refine rt ?_
  refine ⟨rfl, ?_⟩
  obtain rfl := Option.some.inj hm
  refine ⟨_, _, _, ResL.tmp rfl (ResL.nil), hS22075, ?_⟩
  exact rfl

end Go.Proofs.Ytdajldmgdpggkaa.M
