/- Printed by a program of this session: Go functions as Lean functions over plain data, and that the calls come to them. -/
import Derived.Test.YtdajldmgdpggkaaSyJ
import Derived.Test.YtdajldmgdpggkaaChecked
import Derived.KernelRfl
import Derived.Test.YtdajldmgdpggkaaMF0
namespace Go.Proofs.Ytdajldmgdpggkaa.M
open Go Am Sy
open Sy.Cell (rc)
set_option linter.unusedVariables false
set_option linter.unusedSimpArgs false
set_option maxRecDepth 20000

def r6_0 : List COp := [u 6 (.assign (.const (.bool false)))]
def r6_1 : List COp := [u 14 (cf 12 #[] #[]), u 15 (.unOp .not 4 (t 14))]
def r6_2 : List COp := [u 6 (.assign (.const (.bool false)))]
def r6_3 : List COp := [u 16 (.move (t 0)), u 17 (cb .len #[(t 16)] #[35]), u 18 (.binOp .gtr 3 (t 17) (ci 100) 3), u 19 (.move (t 18)), gN 19 (some 20) (.move (t 1)), gN 19 (some 21) (cf 13 #[(t 20)] #[22]), gN 19 (some 22) (.unOp .not 4 (t 21)), u 23 (.pick (t 19) (.const (.bool true)) (t 22))]
def r6_4 : List COp := [u 6 (.assign (.const (.bool true)))]
def r6_5 : List COp := [u 24 (.move (t 0)), u 25 (cb .len #[(t 24)] #[35]), u 26 (.move (t 1)), u 27 (cf 15 #[(t 25), (t 26)] #[3, 22]), u 7 (.assign (t 27))]
def r6_6 : List COp := [u 28 (.move (t 1)), u 29 (.move (t 7)), u 30 (.move (t 0)), u 31 (cb .len #[(t 30)] #[35]), u 32 (.move (t 7)), u 33 (cf 19 #[(t 31), (t 32)] #[3, 22]), u 34 (.buildSlice 37 3 #[(0, (t 28)), (1, (t 29)), (2, (t 33))]), u 8 (.assign (t 34))]
def r6_7 : List COp := [u 9 (.assign (ci 0))]
def r6_8 : List COp := [u 35 (.move (t 9)), u 36 (.binOp .lss 3 (t 35) (ci 3) 3)]
def r6_9 : List COp := [u 37 (.move (t 9)), u 38 (.binOp .add 3 (t 37) (ci 1) 3), u 9 (.assign (t 38))]
def r6_10 : List COpF := [uF 40 (.buildSlice 35 0 #[]) .fresh [], uF 41 (.move (t 0)) .pure [], uF 42 (cb .append #[(t 40), (t 41)] #[35, 35]) .make [], uF 43 (.move (t 8)) .pure [], uF 44 (.move (t 9)) .pure [], uF 45 (.indexAddr 37 (t 43) (t 44)) .pure [], uF 46 (.load 22 (t 45)) .look [], uF 47 (cf 21 #[(t 42), (t 46)] #[35, 22]) .make [6], uF 39 (.move (t 47)) .pure [], uF 48 (.extract (t 39) 0) .pure [], uF 49 (.extract (t 39) 1) .pure [], uF 10 (.assign (t 48)) .pure [], uF 11 (.assign (t 49)) .pure []]
def r6_11 : List COp := [u 51 (.move (t 0)), u 52 (.move (t 8)), u 53 (.move (t 9)), u 54 (.indexAddr 37 (t 52) (t 53)), u 55 (.load 22 (t 54)), u 56 (cf 22 #[(t 51), (t 55)] #[35, 22]), u 50 (.move (t 56)), u 57 (.extract (t 50) 0), u 58 (.extract (t 50) 1), u 12 (.assign (t 57)), u 13 (.assign (t 58))]
def r6_12 : List COpF := [uF 59 (.move (t 10)) .pure [], uF 60 (.convert 35 9 (t 59)) .look [], uF 61 (.move (t 12)) .pure [], uF 62 (.convert 35 9 (t 61)) .look [], uF 63 (.binOp .neq 9 (t 60) (t 62) 9) .pure [], uF 64 (.move (t 63)) .pure [], gNF 64 (some 65) (.move (t 11)) .pure [], gNF 64 (some 66) (.move (t 13)) .pure [], gNF 64 (some 67) (.binOp .neq 3 (t 65) (t 66) 3) .pure [], uF 68 (.pick (t 64) (.const (.bool true)) (t 67)) .pure [], uF 69 (.move (t 68)) .pure [], gNF 69 (some 70) (.move (t 0)) .pure [], gNF 69 (some 71) (cb .len #[(t 70)] #[35]) .pure [], gNF 69 (some 72) (.move (t 8)) .pure [], gNF 69 (some 73) (.move (t 9)) .pure [], gNF 69 (some 74) (.indexAddr 37 (t 72) (t 73)) .pure [], gNF 69 (some 75) (.load 22 (t 74)) .look [], gNF 69 (some 76) (cf 20 #[(t 71), (t 75)] #[3, 22]) .make [1, 3, 16], gNF 69 (some 77) (.move (t 0)) .pure [], gNF 69 (some 78) (cb .len #[(t 77)] #[35]) .pure [], gNF 69 (some 79) (.move (t 8)) .pure [], gNF 69 (some 80) (.move (t 9)) .pure [], gNF 69 (some 81) (.indexAddr 37 (t 79) (t 80)) .pure [], gNF 69 (some 82) (.load 22 (t 81)) .look [], gNF 69 (some 83) (cf 23 #[(t 78), (t 82)] #[3, 22]) .make [1, 3, 16, 23], gNF 69 (some 84) (.binOp .neq 3 (t 76) (t 83) 3) .pure [], uF 85 (.pick (t 69) (.const (.bool true)) (t 84)) .pure []]
def r6_13 : List COp := [u 6 (.assign (.const (.bool false)))]
def r6_14 : List COp := [u 86 (.move (t 2)), u 87 (.move (t 1)), u 88 (cf 20 #[(t 86), (t 87)] #[3, 22]), u 89 (.move (t 2)), u 90 (.move (t 1)), u 91 (cf 23 #[(t 89), (t 90)] #[3, 22]), u 92 (.binOp .eql 3 (t 88) (t 91) 3), u 6 (.assign (t 92))]
def correctorlaw4_EditChecks_l0 (F : Nat) (a0 : List UInt8) (a1 : List api_Edit) (a2 : Int) : Nat → (List (List api_Edit)) → Int → Option (Sum Unit Bool)
  | 0, _, _ => none
  | n + 1, x20613, x20617 =>
    if x20617 < (3 : Int) then
      if ([] : List UInt8).length + a0.length ≤ 140737488355328 then
        if 0 ≤ x20617 ∧ x20617 < (x20613.length : Int) then
          (x20613[x20617.toNat]?).bind fun x20645 =>
          (edit_Apply F (([] : List UInt8) ++ a0) x20645).bind fun r20660 =>
          if 0 ≤ x20617 ∧ x20617 < (x20613.length : Int) then
            (x20613[x20617.toNat]?).bind fun x20679 =>
            (correctorref4_Apply F a0 x20679).bind fun r20687 =>
            if (⟨r20660.1⟩ : Str) = (⟨r20687.1⟩ : Str) then
              if r20660.2 = r20687.2 then
                if 0 ≤ x20617 ∧ x20617 < (x20613.length : Int) then
                  (x20613[x20617.toNat]?).bind fun x20763 =>
                  (edit_Check F (a0.length : Int) x20763).bind fun r20774 =>
                  if 0 ≤ x20617 ∧ x20617 < (x20613.length : Int) then
                    (x20613[x20617.toNat]?).bind fun x20785 =>
                    (correctorref4_Check F (a0.length : Int) x20785).bind fun r20796 =>
                    if r20774 = r20796 then
                      correctorlaw4_EditChecks_l0 F a0 a1 a2 n x20613 (w64 (x20617 + 1))
                    else
                      some (.inr false)
                  else none
                else none
              else
                some (.inr false)
            else
              some (.inr false)
          else none
        else none
      else none
    else
      some (.inl ())
def correctorlaw4_EditChecks (F : Nat) (a0 : List UInt8) (a1 : List api_Edit) (a2 : Int) : Option Bool :=
  (correctorlaw4_known F).bind fun r19747 =>
  if r19747 = true then
    if (100 : Int) < (a0.length : Int) then
      some true
    else
      (correctorlaw4_Few F a1).bind fun r19774 =>
      if r19774 = true then
        (correctorlaw4_Good F (a0.length : Int) a1).bind fun r19782 =>
        (correctorref4_Choose F (a0.length : Int) r19782).bind fun r19800 =>
        ((correctorlaw4_EditChecks_l0 F a0 a1 a2 F ([a1, r19782, r19800] : List (List api_Edit)) 0) : Option (Sum Unit Bool)).bind fun o => match o with
          | .inl () => (edit_Check F a2 a1).bind fun r20814 =>
          (correctorref4_Check F a2 a1).bind fun r20821 =>
          if r20814 = r20821 then
            some true
          else
            some false
          | .inr y => some y
      else
        some true
  else
    some false
theorem correctorlaw4_EditChecks_ok (F : Nat) {h : AH} {Z : Zn} {a0 : List UInt8} {a1 : List api_Edit} {a2 : Int} {v18831 : Value} {v18833 : Value} (hI : Inv Z h) (q18830 : RS (α := UInt8) Z v18831 a0) (q18832 : RS (α := api_Edit) Z v18833 a1) {r : Bool} (hm : correctorlaw4_EditChecks F a0 a1 a2 = some r) :
    ∃ v h', callI Go.Proofs.Try.prog 6 [v18831, v18833, .int .i64 a2] h = some (v, h') ∧ St h [] Z (0, 0) Z h' [] ∧ v = .bool r := by
  refine fn_plain (Q := fun v => v = .bool r) Go.Proofs.Try.func6 rfl rfl hI ?_
  intro hs hS
  unfold correctorlaw4_EditChecks at hm
  refine sr r6_0 ?_
  refine xe 1 [(0, v18831), (1, v18833), (2, .int .i64 a2)] ?_
  refine sq ?_
  refine sr r6_1 ?_
  obtain ⟨r19747, hx19748, hm⟩ := obind hm
  obtain ⟨v19749, h19750, hcl19751, hSc19752, rfl⟩ := correctorlaw4_known_ok F hS.inv  hx19748
  have hS19753 := St.call (A := []) (B := []) hS hSc19752
  replace hS19753 : St _ _ _ _ _ _ [] := hS19753
  refine r_step rfl trivial (o_call hcl19751 rfl rfl rfl) ?_
  rcases ifs hm with ⟨hp19754, hm⟩ | ⟨hp19754, hm⟩
  refine r_setb (t := 14) rfl hp19754 ?_
  refine xe 1 [(15, .bool false), (0, v18831), (1, v18833), (2, .int .i64 a2)] ?_
  refine kF 15 rfl ?_
  refine sq ?_
  refine sr r6_3 ?_
  refine xq 1 [(16, v18831), (0, v18831), (1, v18833), (2, .int .i64 a2)] ?_
  refine r_step rfl trivial (o_len rfl (RS.len q18830) ⟨_, Go.Proofs.Try.underlying35⟩) ?_
  rcases ifs hm with ⟨hp19773, hm⟩ | ⟨hp19773, hm⟩
  refine r_step rfl trivial (o_cmp rfl rfl (c_gtr_T hp19773)) ?_
  refine xe 5 [(23, .bool true), (0, v18831), (1, v18833), (2, .int .i64 a2)] ?_
  refine cT 23 rfl ?_
  refine sr r6_4 ?_
  refine xe 1 [(6, .bool true)] ?_
  refine rt ?_
  refine ⟨rfl, ?_⟩
  obtain rfl := Option.some.inj hm
  refine ⟨_, _, _, ResL.tmp rfl (ResL.nil), hS19753, ?_⟩
  exact rfl
  refine r_step rfl trivial (o_cmp rfl rfl (c_gtr_F hp19773)) ?_
  refine xq 2 [(20, v18833), (19, .bool false), (0, v18831), (1, v18833), (2, .int .i64 a2)] ?_
  obtain ⟨r19774, hx19775, hm⟩ := obind hm
  obtain ⟨v19776, h19777, hcl19778, hSc19779, rfl⟩ := correctorlaw4_Few_ok F hS19753.inv q18832 hx19775
  have hS19780 := St.call (A := []) (B := []) hS19753 hSc19779
  replace hS19780 : St _ _ _ _ _ _ [] := hS19780
  refine r_step rfl rfl (o_call hcl19778 rfl rfl rfl) ?_
  rcases ifs hm with ⟨hp19781, hm⟩ | ⟨hp19781, hm⟩
  refine r_setb (t := 21) rfl hp19781 ?_
  refine xe 2 [(23, .bool false), (0, v18831), (1, v18833), (2, .int .i64 a2)] ?_
  refine kF 23 rfl ?_
  refine sr r6_5 ?_
  refine xq 1 [(24, v18831), (0, v18831), (1, v18833), (2, .int .i64 a2)] ?_
  refine r_step rfl trivial (o_len rfl (RS.len q18830) ⟨_, Go.Proofs.Try.underlying35⟩) ?_
  refine xq 1 [(26, v18833), (25, .int .i64 (a0.length : Int)), (0, v18831), (1, v18833), (2, .int .i64 a2)] ?_
  obtain ⟨r19782, hx19783, hm⟩ := obind hm
  have hSr19789 : St _ _ _ _ _ _ ([] ++ []) := hS19780
  obtain ⟨v19784, h19785, Z19790, A19792, hcl19786, hSc19787, v19794, c19795, rfl, rfl, q19793⟩ := correctorlaw4_Good_ok F hSr19789.preL q18832 hx19783
  have hS19788 := hSr19789.call hSc19787
  have hZ19791 := hSc19787.zle
  replace hS19788 : St _ _ _ _ _ _ [.gs v19794 c19795 (csz api_Edit)] := hS19788
  refine r_step rfl trivial (o_call hcl19786 rfl rfl rfl) ?_
  refine xe 1 [(7, v19794), (0, v18831), (1, v18833), (2, .int .i64 a2)] ?_
  refine sr r6_6 ?_
  refine xq 3 [(30, v18831), (29, v19794), (28, v18833), (7, v19794), (0, v18831), (1, v18833), (2, .int .i64 a2)] ?_
  refine r_step rfl trivial (o_len rfl (RS.len (q18830.mono hZ19791)) ⟨_, Go.Proofs.Try.underlying35⟩) ?_
  refine xq 1 [(32, v19794), (31, .int .i64 (a0.length : Int)), (29, v19794), (28, v18833), (0, v18831), (1, v18833), (2, .int .i64 a2)] ?_
  obtain ⟨Z19796, hZ19797, q19798, hS19799⟩ := (hS19788.front 0 rfl).freeze q19793
  replace hS19799 : St _ _ _ _ _ _ [] := hS19799
  obtain ⟨r19800, hx19801, hm⟩ := obind hm
  have hSr19807 : St _ _ _ _ _ _ ([] ++ []) := hS19799
  obtain ⟨v19802, h19803, Z19808, A19810, hcl19804, hSc19805, v19812, c19813, rfl, rfl, q19811⟩ := correctorref4_Choose_ok F hSr19807.preL q19798 hx19801
  have hS19806 := hSr19807.call hSc19805
  have hZ19809 := hSc19805.zle
  replace hS19806 : St _ _ _ _ _ _ [.gs v19812 c19813 (csz api_Edit)] := hS19806
  refine r_step rfl trivial (o_call hcl19804 rfl rfl rfl) ?_
  obtain ⟨Z19814, hZ19815, q19816, hS19817⟩ := (hS19806.front 0 rfl).freeze q19811
  replace hS19817 : St _ _ _ _ _ _ [] := hS19817
  have q19821 : RCs (α := List api_Edit) Z19814 [v18833, v19794, v19812] ([a1, r19782, r19800] : List (List api_Edit)) := RCs.cons (cs := [v18833]) ⟨_, (q18832.mono (hZ19791.trans (hZ19797.trans (hZ19809.trans hZ19815)))), rfl⟩ (RCs.cons (cs := [v19794]) ⟨_, (q19798.mono (hZ19809.trans hZ19815)), rfl⟩ (RCs.cons (cs := [v19812]) ⟨_, q19816, rfl⟩ (RCs.nil0 _)))
  refine r_row rfl trivial (o_bs1 (cells := [v18833, v19794, v19812]) (s := 1) rfl (CA.cons (cs := [v18833]) (RS.cell1 (q18832.mono (hZ19791.trans (hZ19797.trans (hZ19809.trans hZ19815))))) (CA.cons (cs := [v19794]) (RS.cell1 (q19798.mono (hZ19809.trans hZ19815))) (CA.cons (cs := [v19812]) (RS.cell1 q19816) (CA.nil0)))) (by kernel_rfl)) (by kernel_rfl) hS19817 ?_
  intro v19818 h19819 hS19820
  replace hS19820 : St _ _ _ _ _ _ [.gs v19818 [v18833, v19794, v19812] (csz (List api_Edit))] := hS19820
  refine xe 1 [(8, v19818), (0, v18831), (1, v18833), (2, .int .i64 a2)] ?_
  refine sq ?_
  refine sr r6_7 ?_
  refine xe 1 [(9, .int .i64 0), (8, v19818), (0, v18831), (1, v18833), (2, .int .i64 a2)] ?_
  obtain ⟨o20611, ho20610, hm⟩ := obind hm
  refine W_join [1, 2] (fun l h => ∃ Z20811 : Zn, .inl () = o20611 ∧ l = [(1, v18833), (2, .int .i64 a2)] ∧ St hs [] Z (0, 0) Z20811 h []) ?_ ?_
  rintro l h20812 ⟨Z20811, rfl, rfl, hS20813⟩
  try dsimp only at hm
  refine sr r6_14 ?_
  refine xq 2 [(87, v18833), (86, .int .i64 a2), (1, v18833), (2, .int .i64 a2)] ?_
  obtain ⟨r20814, hx20815, hm⟩ := obind hm
  obtain ⟨v20816, h20817, hcl20818, hSc20819, rfl⟩ := edit_Check_ok F hS20813.inv (q18832.mono hS20813.zle) hx20815
  have hS20820 := St.call (A := []) (B := []) hS20813 hSc20819
  replace hS20820 : St _ _ _ _ _ _ [] := hS20820
  refine r_step rfl trivial (o_call hcl20818 rfl rfl rfl) ?_
  refine xq 2 [(90, v18833), (89, .int .i64 a2), (88, .int .i64 r20814)] ?_
  obtain ⟨r20821, hx20822, hm⟩ := obind hm
  obtain ⟨v20823, h20824, hcl20825, hSc20826, rfl⟩ := correctorref4_Check_ok F hS20820.inv (q18832.mono hS20813.zle) hx20822
  have hS20827 := St.call (A := []) (B := []) hS20820 hSc20826
  replace hS20827 : St _ _ _ _ _ _ [] := hS20827
  refine r_step rfl trivial (o_call hcl20825 rfl rfl rfl) ?_
  rcases ifs hm with ⟨hp20828, hm⟩ | ⟨hp20828, hm⟩
  refine r_step rfl trivial (o_cmp rfl rfl (c_eql_T hp20828)) ?_
  refine xe 1 [(6, .bool true)] ?_
  refine rt ?_
  refine ⟨rfl, ?_⟩
  obtain rfl := Option.some.inj hm
  refine ⟨_, _, _, ResL.tmp rfl (ResL.nil), hS20827, ?_⟩
  exact rfl
  refine r_step rfl trivial (o_cmp rfl rfl (c_eql_F hp20828)) ?_
  refine xe 1 [(6, .bool false)] ?_
  refine rt ?_
  refine ⟨rfl, ?_⟩
  obtain rfl := Option.some.inj hm
  refine ⟨_, _, _, ResL.tmp rfl (ResL.nil), hS20827, ?_⟩
  exact rfl
  refine bk 0 ?_
  refine lp [0, 1, 2, 8, 9] (fun n l h => ∃ Z20612 : Zn, ∃ x20613 : List (List api_Edit), ∃ x20617 : Int, ∃ v20615 : Value, ∃ c20616 : List Value, correctorlaw4_EditChecks_l0 F a0 a1 a2 n x20613 x20617 = some o20611 ∧ RCs (α := List api_Edit) Z20612 c20616 x20613 ∧ l = [(0, v18831), (1, v18833), (2, .int .i64 a2), (8, v20615), (9, .int .i64 x20617)] ∧ St hs [] Z (0, 0) Z20612 h [.gs v20615 c20616 (csz (List api_Edit))]) F ⟨_, ([a1, r19782, r19800] : List (List api_Edit)), 0, v19818, [v18833, v19794, v19812], ho20610, q19821, rfl, hS19820⟩ ?_
  rintro n20620 l h20618 ⟨Z20612, x20613, x20617, v20615, c20616, ho20610, q20614, rfl, hS20619⟩
  rcases n20620 with _ | n20620
  cases (show none = some o20611 from ho20610)
  rw [correctorlaw4_EditChecks_l0] at ho20610
  refine sq ?_
  refine sr r6_8 ?_
  refine xq 1 [(35, .int .i64 x20617), (0, v18831), (1, v18833), (2, .int .i64 a2), (8, v20615), (9, .int .i64 x20617)] ?_
  rcases ifs ho20610 with ⟨hp20623, ho20610⟩ | ⟨hp20623, ho20610⟩
  refine r_step rfl trivial (o_cmp rfl rfl (c_lss_T hp20623)) ?_
  refine xf [(36, .bool true), (0, v18831), (1, v18833), (2, .int .i64 a2), (8, v20615), (9, .int .i64 x20617)] ?_
  refine kT 36 rfl ?_
  refine sq ?_
  refine bk 1 ?_
  refine srF r6_10 hS20619 ?_
  intro bs20624 h20625 hlv20627 hS20626
  have q20631 : RCs (α := UInt8) Z20612 [] [] := RCs.nil0 _
  refine e_row rfl trivial (o_bs (cells := []) (s := 1) (by kernel_rfl)) (by kernel_rfl) hS20626 (by omega) (Nat.add_lt_add_left (by decide) _) ?_
  intro v20628 h20629 b20632 eb20633 ec20634 hS20630
  replace hS20630 : St _ _ _ _ _ _ [.gs v20628 [] (csz UInt8), .gs v20615 c20616 (csz (List api_Edit))] := hS20630
  refine yq 1 [(41, v18831), (40, v20628), (0, v18831), (1, v18833), (2, .int .i64 a2), (8, v20615), (9, .int .i64 x20617)] ?_
  obtain ⟨c20636, nw20635⟩ := RS.news (q18830.mono hS20619.zle) (hS20630.lown).inv
  obtain ⟨hc20642, ho20610⟩ := chk ho20610
  have hF20643 : St _ _ _ _ _ _ ([.gs v20628 [] (csz UInt8)] ++ [.gs v20615 c20616 (csz (List api_Edit))]) := (hS20630.front 0 rfl)
  refine e_mk3 rfl trivial hF20643 (o_app (ys := a0) (by_ := 1) hF20643.sub (i := 0) rfl q20631 nw20635 rfl rfl (by kernel_rfl) (by omega) (by omega)) (Zle.refl _) .nil ?_
  rintro v20637 c20638 h20639 ⟨q20641, hS20640⟩
  replace hS20640 : St _ _ _ _ _ _ [.gs v20637 c20638 (csz UInt8), .gs v20615 c20616 (csz (List api_Edit))] := hS20640
  refine yq 2 [(44, .int .i64 x20617), (43, v20615), (42, v20637), (0, v18831), (1, v18833), (2, .int .i64 a2), (8, v20615), (9, .int .i64 x20617)] ?_
  obtain ⟨hc20644, ho20610⟩ := chk ho20610
  refine e_val rfl trivial (o_index rfl rfl (by kernel_rfl : slTy _ _ = some (csz (List api_Edit))) (hS20640.gbased (j := 1) rfl q20614 (by omega)) hc20644.1 hc20644.2) ?_
  obtain ⟨x20645, hx20646, ho20610⟩ := obind ho20610
  obtain ⟨cs20647, hc20648, he20649, ht20650⟩ := hS20640.gel (j := 1) rfl q20614 (i := x20617) hx20646
  obtain ⟨v20651, q20652, rfl⟩ := rc_List hc20648
  have ps20653 := pos_of hx20646
  have hB20654 := hS20640.gbased (j := 1) rfl q20614 ps20653
  have lt20655 : (baseOf v20615).block < bs20624 := row_ltM (hlv20627.1 _ (List.mem_of_getElem? (i := 0) rfl)) hB20654
  refine e_lookB rfl trivial rfl (by show (baseOf v20615).block < _; omega) (same1 (v := v20651) (RS.sim1 q20652)) (o_lde (w := v20651) he20649 rfl (by kernel_rfl)) (.inl ⟨⟨by show (baseOf v20615).block < _; omega, hF20643.neB 0 rfl (gs_mem hB20654)⟩, trivial⟩) ?_
  obtain ⟨Z20656, hZ20657, q20658, hS20659⟩ := (hS20640.front 0 rfl).freeze q20641
  replace hS20659 : St _ _ _ _ _ _ [.gs v20615 c20616 (csz (List api_Edit))] := hS20659
  obtain ⟨r20660, hx20661, ho20610⟩ := obind ho20610
  have hSl20667 := hS20659.lown
  have hSr20668 : St _ _ _ _ _ _ ([] ++ [.gs v20615 c20616 (csz (List api_Edit))]) := hSl20667
  obtain ⟨v20662, h20663, Z20669, A20671, hcl20664, hSc20665, v20673, c20674, rfl, rfl, q20672⟩ := edit_Apply_ok F hSr20668.preL q20658 (q20652.mono hZ20657) hx20661
  have hS20666 := hSr20668.call hSc20665
  have hZ20670 := hSc20665.zle
  replace hS20666 : St _ _ _ _ _ _ [.gs v20673 c20674 (csz UInt8), .gs v20615 c20616 (csz (List api_Edit))] := hS20666
  refine e_still rfl trivial hS20659 (o_call hcl20664 rfl rfl rfl) hS20666 (St.lowk hSc20665) ?_
  intro h20675 hS20676
  refine ye 5 [(11, .int .i64 r20660.2), (10, v20673), (0, v18831), (1, v18833), (2, .int .i64 a2), (8, v20615), (9, .int .i64 x20617)] ?_
  have hS20677 := hS20676.unres
  refine sr r6_11 ?_
  refine xq 3 [(53, .int .i64 x20617), (52, v20615), (51, v18831), (11, .int .i64 r20660.2), (10, v20673), (0, v18831), (1, v18833), (2, .int .i64 a2), (8, v20615), (9, .int .i64 x20617)] ?_
  obtain ⟨hc20678, ho20610⟩ := chk ho20610
  refine r_step rfl trivial (o_index rfl rfl (by kernel_rfl : slTy _ _ = some (csz (List api_Edit))) (hS20677.gbased (j := 1) rfl (q20614.mono (hZ20657.trans hZ20670)) (by omega)) hc20678.1 hc20678.2) ?_
  obtain ⟨x20679, hx20680, ho20610⟩ := obind ho20610
  obtain ⟨cs20681, hc20682, he20683, ht20684⟩ := hS20677.gel (j := 1) rfl (q20614.mono (hZ20657.trans hZ20670)) (i := x20617) hx20680
  obtain ⟨v20685, q20686, rfl⟩ := rc_List hc20682
  refine r_step rfl trivial (o_lde (w := v20685) he20683 rfl (by kernel_rfl)) ?_
  obtain ⟨r20687, hx20688, ho20610⟩ := obind ho20610
  have hSr20694 : St _ _ _ _ _ _ ([] ++ [.gs v20673 c20674 (csz UInt8), .gs v20615 c20616 (csz (List api_Edit))]) := hS20677
  obtain ⟨v20689, h20690, Z20695, A20697, hcl20691, hSc20692, v20699, c20700, rfl, rfl, q20698⟩ := correctorref4_Apply_ok F hSr20694.preL (q18830.mono (hS20619.zle.trans (hZ20657.trans hZ20670))) q20686 hx20688
  have hS20693 := hSr20694.call hSc20692
  have hZ20696 := hSc20692.zle
  replace hS20693 : St _ _ _ _ _ _ [.gs v20699 c20700 (csz UInt8), .gs v20673 c20674 (csz UInt8), .gs v20615 c20616 (csz (List api_Edit))] := hS20693
  refine r_step rfl trivial (o_call hcl20691 rfl rfl rfl) ?_
  refine xe 5 [(13, .int .i64 r20687.2), (12, v20699), (11, .int .i64 r20660.2), (10, v20673), (0, v18831), (1, v18833), (2, .int .i64 a2), (8, v20615), (9, .int .i64 x20617)] ?_
  refine srF r6_12 hS20693 ?_
  intro bs20756 h20757 hlv20759 hS20758
  refine yq 1 [(59, v20673), (13, .int .i64 r20687.2), (12, v20699), (11, .int .i64 r20660.2), (0, v18831), (1, v18833), (2, .int .i64 a2), (8, v20615), (9, .int .i64 x20617)] ?_
  refine e_lookN rfl rfl trivial (o_tostrG hS20758 (j := 1) rfl (q20672.mono hZ20696) rfl (by kernel_rfl)) trivial ?_
  refine yq 1 [(61, v20699), (60, .string ⟨⟨r20660.1⟩⟩), (13, .int .i64 r20687.2), (11, .int .i64 r20660.2), (0, v18831), (1, v18833), (2, .int .i64 a2), (8, v20615), (9, .int .i64 x20617)] ?_
  refine e_lookN rfl rfl trivial (o_tostrG hS20758 (j := 0) rfl q20698 rfl (by kernel_rfl)) trivial ?_
  rcases ifs ho20610 with ⟨hp20760, ho20610⟩ | ⟨hp20760, ho20610⟩
  refine e_val rfl trivial (o_cmp rfl rfl (c_sneq_F (a := (⟨r20660.1⟩ : Str)) (b := (⟨r20687.1⟩ : Str)) hp20760)) ?_
  refine yq 3 [(66, .int .i64 r20687.2), (65, .int .i64 r20660.2), (64, .bool false), (0, v18831), (1, v18833), (2, .int .i64 a2), (8, v20615), (9, .int .i64 x20617)] ?_
  rcases ifs ho20610 with ⟨hp20761, ho20610⟩ | ⟨hp20761, ho20610⟩
  refine e_val rfl rfl (o_cmp rfl rfl (c_neq_F hp20761)) ?_
  refine yq 3 [(70, v18831), (69, .bool false), (0, v18831), (1, v18833), (2, .int .i64 a2), (8, v20615), (9, .int .i64 x20617)] ?_
  refine e_val rfl rfl (o_len rfl (RS.len (q18830.mono (hS20619.zle.trans (hZ20657.trans (hZ20670.trans hZ20696))))) ⟨_, Go.Proofs.Try.underlying35⟩) ?_
  refine yq 2 [(73, .int .i64 x20617), (72, v20615), (71, .int .i64 (a0.length : Int)), (69, .bool false), (0, v18831), (1, v18833), (2, .int .i64 a2), (8, v20615), (9, .int .i64 x20617)] ?_
  obtain ⟨hc20762, ho20610⟩ := chk ho20610
  refine e_val rfl rfl (o_index rfl rfl (by kernel_rfl : slTy _ _ = some (csz (List api_Edit))) (hS20758.gbased (j := 2) rfl (q20614.mono (hZ20657.trans (hZ20670.trans hZ20696))) (by omega)) hc20762.1 hc20762.2) ?_
  obtain ⟨x20763, hx20764, ho20610⟩ := obind ho20610
  obtain ⟨cs20765, hc20766, he20767, ht20768⟩ := hS20758.gel (j := 2) rfl (q20614.mono (hZ20657.trans (hZ20670.trans hZ20696))) (i := x20617) hx20764
  obtain ⟨v20769, q20770, rfl⟩ := rc_List hc20766
  have ps20771 := pos_of hx20764
  have hB20772 := hS20758.gbased (j := 2) rfl (q20614.mono (hZ20657.trans (hZ20670.trans hZ20696))) ps20771
  have lt20773 : (baseOf v20615).block < bs20756 := row_ltM (hlv20759.1 _ (List.mem_of_getElem? (i := 2) rfl)) hB20772
  refine e_lookB rfl rfl rfl (by show (baseOf v20615).block < _; omega) (same1 (v := v20769) (RS.sim1 q20770)) (o_lde (w := v20769) he20767 rfl (by kernel_rfl)) trivial ?_
  obtain ⟨r20774, hx20775, ho20610⟩ := obind ho20610
  have hSl20781 := hS20758.lown
  obtain ⟨v20776, h20777, hcl20778, hSc20779, rfl⟩ := edit_Check_ok F hSl20781.inv q20770 hx20775
  have hS20780 := St.call (A := []) (B := [.gs v20699 c20700 (csz UInt8), .gs v20673 c20674 (csz UInt8), .gs v20615 c20616 (csz (List api_Edit))]) hSl20781 hSc20779
  replace hS20780 : St _ _ _ _ _ _ [.gs v20699 c20700 (csz UInt8), .gs v20673 c20674 (csz UInt8), .gs v20615 c20616 (csz (List api_Edit))] := hS20780
  refine e_still rfl rfl hS20758 (o_call hcl20778 rfl rfl rfl) hS20780 (St.lowk hSc20779) ?_
  intro h20782 hS20783
  refine yq 1 [(77, v18831), (76, .int .i64 r20774), (69, .bool false), (0, v18831), (1, v18833), (2, .int .i64 a2), (8, v20615), (9, .int .i64 x20617)] ?_
  refine e_val rfl rfl (o_len rfl (RS.len (q18830.mono (hS20619.zle.trans (hZ20657.trans (hZ20670.trans hZ20696))))) ⟨_, Go.Proofs.Try.underlying35⟩) ?_
  refine yq 2 [(80, .int .i64 x20617), (79, v20615), (78, .int .i64 (a0.length : Int)), (76, .int .i64 r20774), (69, .bool false), (0, v18831), (1, v18833), (2, .int .i64 a2), (8, v20615), (9, .int .i64 x20617)] ?_
  obtain ⟨hc20784, ho20610⟩ := chk ho20610
  refine e_val rfl rfl (o_index rfl rfl (by kernel_rfl : slTy _ _ = some (csz (List api_Edit))) (hS20783.gbased (j := 2) rfl (q20614.mono (hZ20657.trans (hZ20670.trans hZ20696))) (by omega)) hc20784.1 hc20784.2) ?_
  obtain ⟨x20785, hx20786, ho20610⟩ := obind ho20610
  obtain ⟨cs20787, hc20788, he20789, ht20790⟩ := hS20783.gel (j := 2) rfl (q20614.mono (hZ20657.trans (hZ20670.trans hZ20696))) (i := x20617) hx20786
  obtain ⟨v20791, q20792, rfl⟩ := rc_List hc20788
  have ps20793 := pos_of hx20786
  have hB20794 := hS20783.gbased (j := 2) rfl (q20614.mono (hZ20657.trans (hZ20670.trans hZ20696))) ps20793
  have lt20795 : (baseOf v20615).block < bs20756 := row_ltM (hlv20759.1 _ (List.mem_of_getElem? (i := 2) rfl)) hB20794
  refine e_lookB rfl rfl rfl (by show (baseOf v20615).block < _; omega) (same1 (v := v20791) (RS.sim1 q20792)) (o_lde (w := v20791) he20789 rfl (by kernel_rfl)) trivial ?_
  obtain ⟨r20796, hx20797, ho20610⟩ := obind ho20610
  have hSl20803 := hS20783.lown
  obtain ⟨v20798, h20799, hcl20800, hSc20801, rfl⟩ := correctorref4_Check_ok F hSl20803.inv q20792 hx20797
  have hS20802 := St.call (A := []) (B := [.gs v20699 c20700 (csz UInt8), .gs v20673 c20674 (csz UInt8), .gs v20615 c20616 (csz (List api_Edit))]) hSl20803 hSc20801
  replace hS20802 : St _ _ _ _ _ _ [.gs v20699 c20700 (csz UInt8), .gs v20673 c20674 (csz UInt8), .gs v20615 c20616 (csz (List api_Edit))] := hS20802
  refine e_still rfl rfl hS20783 (o_call hcl20800 rfl rfl rfl) hS20802 (St.lowk hSc20801) ?_
  intro h20804 hS20805
  rcases ifs ho20610 with ⟨hp20806, ho20610⟩ | ⟨hp20806, ho20610⟩
  refine e_val rfl rfl (o_cmp rfl rfl (c_neq_F hp20806)) ?_
  refine ye 1 [(85, .bool false), (0, v18831), (1, v18833), (2, .int .i64 a2), (8, v20615), (9, .int .i64 x20617)] ?_
  have hS20807 := hS20805.unres
  refine kF 85 rfl ?_
  refine rg r6_9 ?_
  refine xe 3 [(9, .int .i64 (w64 (x20617 + 1))), (0, v18831), (1, v18833), (2, .int .i64 a2), (8, v20615)] ?_
  exact ⟨n20620, Nat.lt_succ_self _, ⟨_, x20613, w64 (x20617 + 1), v20615, c20616, ho20610, (q20614.mono (hZ20657.trans (hZ20670.trans hZ20696))), rfl, ((hS20807.front 2 rfl).takeN 1)⟩⟩
  refine e_val rfl rfl (o_cmp rfl rfl (c_neq_T hp20806)) ?_
  refine ye 1 [(85, .bool true), (0, v18831), (1, v18833), (2, .int .i64 a2), (8, v20615), (9, .int .i64 x20617)] ?_
  have hS20808 := hS20805.unres
  refine cT 85 rfl ?_
  refine sr r6_13 ?_
  refine xe 1 [(6, .bool false)] ?_
  refine rt ?_
  refine blkX_ret ?_
  refine blkX_ret ?_
  refine ⟨rfl, ?_⟩
  obtain rfl := Option.some.inj ho20610
  obtain rfl := Option.some.inj hm
  refine ⟨_, _, _, ResL.tmp rfl (ResL.nil), hS20808, ?_⟩
  exact rfl
  refine e_val rfl rfl (o_cmp rfl rfl (c_neq_T hp20761)) ?_
  refine ye 18 [(85, .bool true), (0, v18831), (1, v18833), (2, .int .i64 a2), (8, v20615), (9, .int .i64 x20617)] ?_
  have hS20809 := hS20758.unres
  refine cT 85 rfl ?_
  refine sr r6_13 ?_
  refine xe 1 [(6, .bool false)] ?_
  refine rt ?_
  refine blkX_ret ?_
  refine blkX_ret ?_
  refine ⟨rfl, ?_⟩
  obtain rfl := Option.some.inj ho20610
  obtain rfl := Option.some.inj hm
  refine ⟨_, _, _, ResL.tmp rfl (ResL.nil), hS20809, ?_⟩
  exact rfl
  refine e_val rfl trivial (o_cmp rfl rfl (c_sneq_T (a := (⟨r20660.1⟩ : Str)) (b := (⟨r20687.1⟩ : Str)) hp20760)) ?_
  refine ye 22 [(85, .bool true), (0, v18831), (1, v18833), (2, .int .i64 a2), (8, v20615), (9, .int .i64 x20617)] ?_
  have hS20810 := hS20758.unres
  refine cT 85 rfl ?_
  refine sr r6_13 ?_
  refine xe 1 [(6, .bool false)] ?_
  refine rt ?_
  refine blkX_ret ?_
  refine blkX_ret ?_
  refine ⟨rfl, ?_⟩
  obtain rfl := Option.some.inj ho20610
  obtain rfl := Option.some.inj hm
  refine ⟨_, _, _, ResL.tmp rfl (ResL.nil), hS20810, ?_⟩
  exact rfl
  refine r_step rfl trivial (o_cmp rfl rfl (c_lss_F hp20623)) ?_
  refine xf [(36, .bool false), (0, v18831), (1, v18833), (2, .int .i64 a2), (8, v20615), (9, .int .i64 x20617)] ?_
  refine cF 36 rfl ?_
  refine xt 0 ?_
  refine blkX_hit ?_
  obtain rfl := Option.some.inj ho20610
  exact ⟨_, rfl, rfl, (hS20619.takeN 0)⟩
  refine r_setb (t := 21) rfl (Bool.eq_false_iff.2 hp19781) ?_
  refine xe 2 [(23, .bool true), (0, v18831), (1, v18833), (2, .int .i64 a2)] ?_
  refine cT 23 rfl ?_
  refine sr r6_4 ?_
  refine xe 1 [(6, .bool true)] ?_
  refine rt ?_
  refine ⟨rfl, ?_⟩
  obtain rfl := Option.some.inj hm
  refine ⟨_, _, _, ResL.tmp rfl (ResL.nil), hS19780, ?_⟩
  exact rfl
  refine r_setb (t := 14) rfl (Bool.eq_false_iff.2 hp19754) ?_
  refine xe 1 [(15, .bool true), (0, v18831), (1, v18833), (2, .int .i64 a2)] ?_
  refine cT 15 rfl ?_
  refine sr r6_2 ?_
  refine xe 1 [(6, .bool false)] ?_
  refine rt ?_
  refine ⟨rfl, ?_⟩
  obtain rfl := Option.some.inj hm
  refine ⟨_, _, _, ResL.tmp rfl (ResL.nil), hS19753, ?_⟩
  exact rfl

end Go.Proofs.Ytdajldmgdpggkaa.M
