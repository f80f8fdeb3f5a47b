/- Printed by a program of this session: Go functions as Lean functions over plain data, and that the calls come to them. -/
import Derived.Test.YtdajldmgdpggkaaSyJ
import Derived.Test.YtdajldmgdpggkaaChecked
import Derived.KernelRfl
import Derived.Test.YtdajldmgdpggkaaMC0
namespace Go.Proofs.Ytdajldmgdpggkaa.M
open Go Am Sy
open Sy.Cell (rc)
set_option linter.unusedVariables false
set_option linter.unusedSimpArgs false
set_option maxRecDepth 20000

def r17_0 : List COp := [u 3 (.box 29 (t 1)), u 4 (.assign (.const (.bool false)))]
def r17_1 : List COp := [u 5 (.assign (ci 0))]
def r17_2 : List COp := [u 6 (.move (t 5)), u 7 (.move (t 0)), u 8 (cb .len #[(t 7)] #[22]), u 9 (.binOp .lss 3 (t 6) (t 8) 3)]
def r17_3 : List COp := [u 10 (.move (t 5)), u 11 (.binOp .add 3 (t 10) (ci 1) 3), u 5 (.assign (t 11))]
def r17_4 : List COpF := [uF 12 (.move (t 0)) .pure [], uF 13 (.move (t 5)) .pure [], uF 14 (.indexAddr 22 (t 12) (t 13)) .pure [], uF 15 (.load 29 (t 14)) .look [], uF 16 (.load 29 (t 3)) .look [], uF 17 (.binOp .eql 29 (t 15) (t 16) 29) .pure []]
def r17_5 : List COp := [u 4 (.assign (.const (.bool true)))]
def r17_6 : List COp := [u 4 (.assign (.const (.bool false)))]
def correctorlaw4_has_l0 (F : Nat) (a0 : List api_Edit) (a1 : api_Edit) : Nat → api_Edit → Int → Option (Sum Unit Bool)
  | 0, _, _ => none
  | n + 1, x15559, x15560 =>
    if x15560 < (a0.length : Int) then
      if 0 ≤ x15560 ∧ x15560 < (a0.length : Int) then
        (a0[x15560.toNat]?).bind fun x15587 =>
        if x15587 = x15559 then
          some (.inr true)
        else
          correctorlaw4_has_l0 F a0 a1 n x15559 (w64 (x15560 + 1))
      else none
    else
      some (.inl ())
def correctorlaw4_has (F : Nat) (a0 : List api_Edit) (a1 : api_Edit) : Option Bool :=
  ((correctorlaw4_has_l0 F a0 a1 F a1 0) : Option (Sum Unit Bool)).bind fun o => match o with
    | .inl () => some false
    | .inr y => some y
theorem correctorlaw4_has_ok (F : Nat) {h : AH} {Z : Zn} {a0 : List api_Edit} {a1 : api_Edit} {v15391 : Value} (hI : Inv Z h) (q15390 : RS (α := api_Edit) Z v15391 a0) {r : Bool} (hm : correctorlaw4_has F a0 a1 = some r) :
    ∃ v h', callI Go.Proofs.Try.prog 17 [v15391, .agg #[.int .i64 a1.From, .int .i64 a1.To, .string ⟨⟨a1.Put.b⟩⟩]] h = some (v, h') ∧ St h [] Z (0, 0) Z h' [] ∧ v = .bool r := by
  refine fn_plain (Q := fun v => v = .bool r) Go.Proofs.Try.func17 rfl rfl hI ?_
  intro hs hS
  unfold correctorlaw4_has at hm
  refine sr r17_0 ?_
  refine r_blk rfl trivial (o_box (cs := [.int .i64 a1.From, .int .i64 a1.To, .string ⟨⟨a1.Put.b⟩⟩]) rfl rfl) hS ?_
  intro b15475 h15476 hS15477
  refine xe 1 [(3, .pointer (some ⟨b15475, 0, none⟩)), (0, v15391)] ?_
  refine sq ?_
  refine sr r17_1 ?_
  refine xe 1 [(5, .int .i64 0), (3, .pointer (some ⟨b15475, 0, none⟩)), (0, v15391)] ?_
  obtain ⟨o15556, ho15555, hm⟩ := obind hm
  refine W_join [] (fun l h => ∃ Z15597 : Zn, .inl () = o15556 ∧ l = [] ∧ St hs [] Z (0, 0) Z15597 h []) ?_ ?_
  rintro l h15598 ⟨Z15597, rfl, rfl, hS15599⟩
  try dsimp only at hm
  refine sr r17_6 ?_
  refine xe 1 [(4, .bool false)] ?_
  refine rt ?_
  refine ⟨rfl, ?_⟩
  obtain rfl := Option.some.inj hm
  refine ⟨_, _, _, ResL.tmp rfl (ResL.nil), hS15599, ?_⟩
  exact rfl
  refine bk 0 ?_
  refine lp [0, 3, 5] (fun n l h => ∃ Z15557 : Zn, ∃ x15559 : api_Edit, ∃ x15560 : Int, ∃ b15558 : Nat, correctorlaw4_has_l0 F a0 a1 n x15559 x15560 = some o15556 ∧ l = [(0, v15391), (3, .pointer (some ⟨b15558, 0, none⟩)), (5, .int .i64 x15560)] ∧ St hs [] Z (0, 0) Z15557 h [.blk b15558 [.int .i64 x15559.From, .int .i64 x15559.To, .string ⟨⟨x15559.Put.b⟩⟩]]) F ⟨_, a1, 0, b15475, ho15555, rfl, hS15477⟩ ?_
  rintro n15563 l h15561 ⟨Z15557, x15559, x15560, b15558, ho15555, rfl, hS15562⟩
  rcases n15563 with _ | n15563
  cases (show none = some o15556 from ho15555)
  rw [correctorlaw4_has_l0] at ho15555
  refine sq ?_
  refine sr r17_2 ?_
  refine xq 2 [(7, v15391), (6, .int .i64 x15560), (0, v15391), (3, .pointer (some ⟨b15558, 0, none⟩)), (5, .int .i64 x15560)] ?_
  refine r_step rfl trivial (o_len rfl (RS.len (q15390.mono hS15562.zle)) ⟨_, Go.Proofs.Try.underlying22⟩) ?_
  rcases ifs ho15555 with ⟨hp15566, ho15555⟩ | ⟨hp15566, ho15555⟩
  refine r_step rfl trivial (o_cmp rfl rfl (c_lss_T hp15566)) ?_
  refine xf [(9, .bool true), (0, v15391), (3, .pointer (some ⟨b15558, 0, none⟩)), (5, .int .i64 x15560)] ?_
  refine kT 9 rfl ?_
  refine sq ?_
  refine bk 1 ?_
  refine srF r17_4 hS15562 ?_
  intro bs15582 h15583 hlv15585 hS15584
  refine yq 2 [(13, .int .i64 x15560), (12, v15391), (0, v15391), (3, .pointer (some ⟨b15558, 0, none⟩)), (5, .int .i64 x15560)] ?_
  obtain ⟨hc15586, ho15555⟩ := chk ho15555
  refine e_val rfl trivial (o_index rfl rfl (by kernel_rfl : slTy _ _ = some (csz api_Edit)) (RS.based (q15390.mono hS15562.zle) (by omega)) hc15586.1 hc15586.2) ?_
  obtain ⟨x15587, hx15588, ho15555⟩ := obind ho15555
  obtain ⟨cs15589, hc15590, he15591⟩ := RS.elz (q15390.mono hS15562.zle) (i := x15560) hx15588
  obtain rfl := rc_api_Edit hc15590
  refine e_lookZ rfl rfl trivial (fun h2 hz => o_lde (w := .agg #[.int .i64 x15587.From, .int .i64 x15587.To, .string ⟨⟨x15587.Put.b⟩⟩]) (he15591 h2 hz) rfl (by kernel_rfl)) (hS15584.zin0 (Zle.refl _)) (same_agg (cs := [.int .i64 x15587.From, .int .i64 x15587.To, .string ⟨⟨x15587.Put.b⟩⟩]) (.cons trivial (.cons trivial (.cons trivial .nil)))) trivial ?_
  have lt15593 : b15558 < bs15582 := hlv15585.1 _ (List.mem_of_getElem? (i := 0) rfl) _ (by simp [Itm.ids])
  refine e_lookB rfl trivial rfl (by show b15558 < _; omega) (same_agg (cs := [.int .i64 x15559.From, .int .i64 x15559.To, .string ⟨⟨x15559.Put.b⟩⟩]) (.cons trivial (.cons trivial (.cons trivial .nil)))) (o_ldb (v := .agg #[.int .i64 x15559.From, .int .i64 x15559.To, .string ⟨⟨x15559.Put.b⟩⟩]) hS15584 (i := 0) rfl rfl (by kernel_rfl)) trivial ?_
  rcases ifs ho15555 with ⟨hp15594, ho15555⟩ | ⟨hp15594, ho15555⟩
  refine e_val rfl trivial (o_cmp rfl rfl (eqT_api_Edit_29 (x := x15587) (y := x15559) hp15594)) ?_
  refine yf [(17, .bool true), (0, v15391), (3, .pointer (some ⟨b15558, 0, none⟩)), (5, .int .i64 x15560)] ?_
  have hS15595 := hS15584.unres
  refine cT 17 rfl ?_
  refine sr r17_5 ?_
  refine xe 1 [(4, .bool true)] ?_
  refine rt ?_
  refine blkX_ret ?_
  refine blkX_ret ?_
  refine ⟨rfl, ?_⟩
  obtain rfl := Option.some.inj ho15555
  obtain rfl := Option.some.inj hm
  refine ⟨_, _, _, ResL.tmp rfl (ResL.nil), hS15595, ?_⟩
  exact rfl
  refine e_val rfl trivial (o_cmp rfl rfl (eqF_api_Edit_29 (x := x15587) (y := x15559) hp15594)) ?_
  refine yf [(17, .bool false), (0, v15391), (3, .pointer (some ⟨b15558, 0, none⟩)), (5, .int .i64 x15560)] ?_
  have hS15596 := hS15584.unres
  refine kF 17 rfl ?_
  refine rg r17_3 ?_
  refine xe 3 [(5, .int .i64 (w64 (x15560 + 1))), (0, v15391), (3, .pointer (some ⟨b15558, 0, none⟩))] ?_
  exact ⟨n15563, Nat.lt_succ_self _, ⟨_, x15559, w64 (x15560 + 1), b15558, ho15555, rfl, hS15596⟩⟩
  refine r_step rfl trivial (o_cmp rfl rfl (c_lss_F hp15566)) ?_
  refine xf [(9, .bool false), (0, v15391), (3, .pointer (some ⟨b15558, 0, none⟩)), (5, .int .i64 x15560)] ?_
  refine cF 9 rfl ?_
  refine xt 0 ?_
  refine blkX_hit ?_
  obtain rfl := Option.some.inj ho15555
  exact ⟨_, rfl, rfl, (hS15562.takeN 0)⟩

def r3_0 : List COp := [u 4 (.assign (.const (.bool false)))]
def r3_1 : List COp := [u 10 (cf 12 #[] #[]), u 11 (.unOp .not 4 (t 10))]
def r3_2 : List COp := [u 4 (.assign (.const (.bool false)))]
def r3_3 : List COp := [u 12 (.move (t 1)), u 13 (cf 13 #[(t 12)] #[22]), u 14 (.unOp .not 4 (t 13))]
def r3_4 : List COp := [u 4 (.assign (.const (.bool true)))]
def r3_5 : List COp := [u 15 (.move (t 0)), u 16 (cf 14 #[(t 15), (ci 60)] #[3, 3]), u 0 (.assign (t 16))]
def r3_6 : List COp := [u 17 (.move (t 0)), u 18 (.move (t 1)), u 19 (cf 15 #[(t 17), (t 18)] #[3, 22]), u 5 (.assign (t 19))]
def r3_7 : List COp := [u 20 (.move (t 0)), u 21 (.move (t 5)), u 22 (cf 16 #[(t 20), (t 21)] #[3, 22]), u 6 (.assign (t 22))]
def r3_8 : List COp := [u 23 (.move (t 5)), u 24 (cb .len #[(t 23)] #[22]), u 25 (.binOp .gtr 3 (t 24) (ci 0) 3), u 26 (.move (t 25)), gT 26 (some 27) (.move (t 6)), gT 26 (some 28) (cb .len #[(t 27)] #[22]), gT 26 (some 29) (.binOp .eql 3 (t 28) (ci 0) 3), gT 26 (some 30) (.move (t 29)), gN 30 (some 31) (.move (t 6)), gN 30 (some 32) (.move (t 5)), gN 30 (some 33) (.indexAddr 22 (t 32) (ci 0)), gN 30 (some 34) (.load 29 (t 33)), gN 30 (some 35) (cf 17 #[(t 31), (t 34)] #[22, 29]), gN 30 (some 36) (.unOp .not 4 (t 35)), gT 26 (some 37) (.pick (t 30) (.const (.bool true)) (t 36)), u 38 (.pick (t 26) (t 37) (.const (.bool false)))]
def r3_9 : List COp := [u 4 (.assign (.const (.bool false)))]
def r3_10 : List COp := [u 7 (.assign (ci 0))]
def r3_11 : List COp := [u 39 (.move (t 7)), u 40 (.move (t 5)), u 41 (cb .len #[(t 40)] #[22]), u 42 (.binOp .lss 3 (t 39) (t 41) 3)]
def r3_12 : List COp := [u 43 (.move (t 7)), u 44 (.binOp .add 3 (t 43) (ci 1) 3), u 7 (.assign (t 44))]
def r3_13 : List COp := [u 45 (.move (t 6)), u 46 (.move (t 5)), u 47 (.move (t 7)), u 48 (.indexAddr 22 (t 46) (t 47)), u 49 (.load 29 (t 48)), u 50 (cf 17 #[(t 45), (t 49)] #[22, 29]), u 8 (.assign (t 50))]
def r3_14 : List COp := [u 9 (.assign (ci 0))]
def r3_15 : List COp := [u 51 (.move (t 9)), u 52 (.move (t 6)), u 53 (cb .len #[(t 52)] #[22]), u 54 (.binOp .lss 3 (t 51) (t 53) 3)]
def r3_16 : List COp := [u 55 (.move (t 9)), u 56 (.binOp .add 3 (t 55) (ci 1) 3), u 9 (.assign (t 56))]
def r3_17 : List COpF := [uF 57 (.move (t 8)) .pure [], uF 58 (.move (t 57)) .pure [], gNF 58 (some 59) (.move (t 5)) .pure [], gNF 58 (some 60) (.move (t 7)) .pure [], gNF 58 (some 61) (.indexAddr 22 (t 59) (t 60)) .pure [], gNF 58 (some 62) (.fieldAddr 29 (t 61) 0) .pure [], gNF 58 (some 63) (.load 3 (t 62)) .look [], gNF 58 (some 64) (.move (t 6)) .pure [], gNF 58 (some 65) (.move (t 9)) .pure [], gNF 58 (some 66) (.indexAddr 22 (t 64) (t 65)) .pure [], gNF 58 (some 67) (.fieldAddr 29 (t 66) 1) .pure [], gNF 58 (some 68) (.load 3 (t 67)) .look [], gNF 58 (some 69) (.binOp .lss 3 (t 63) (t 68) 3) .pure [], gNF 58 (some 70) (.move (t 69)) .pure [], gTF 70 (some 71) (.move (t 6)) .pure [], gTF 70 (some 72) (.move (t 9)) .pure [], gTF 70 (some 73) (.indexAddr 22 (t 71) (t 72)) .pure [], gTF 70 (some 74) (.fieldAddr 29 (t 73) 0) .pure [], gTF 70 (some 75) (.load 3 (t 74)) .look [], gTF 70 (some 76) (.move (t 5)) .pure [], gTF 70 (some 77) (.move (t 7)) .pure [], gTF 70 (some 78) (.indexAddr 22 (t 76) (t 77)) .pure [], gTF 70 (some 79) (.fieldAddr 29 (t 78) 1) .pure [], gTF 70 (some 80) (.load 3 (t 79)) .look [], gTF 70 (some 81) (.binOp .lss 3 (t 75) (t 80) 3) .pure [], gNF 58 (some 82) (.pick (t 70) (t 81) (.const (.bool false))) .pure [], uF 83 (.pick (t 58) (.const (.bool true)) (t 82)) .pure [], uF 84 (.move (t 83)) .pure [], gNF 84 (some 85) (.move (t 5)) .pure [], gNF 84 (some 86) (.move (t 7)) .pure [], gNF 84 (some 87) (.indexAddr 22 (t 85) (t 86)) .pure [], gNF 84 (some 88) (.fieldAddr 29 (t 87) 0) .pure [], gNF 84 (some 89) (.load 3 (t 88)) .look [], gNF 84 (some 90) (.move (t 6)) .pure [], gNF 84 (some 91) (.move (t 9)) .pure [], gNF 84 (some 92) (.indexAddr 22 (t 90) (t 91)) .pure [], gNF 84 (some 93) (.fieldAddr 29 (t 92) 0) .pure [], gNF 84 (some 94) (.load 3 (t 93)) .look [], gNF 84 (some 95) (.binOp .eql 3 (t 89) (t 94) 3) .pure [], gNF 84 (some 96) (.move (t 95)) .pure [], gTF 96 (some 97) (.move (t 5)) .pure [], gTF 96 (some 98) (.move (t 7)) .pure [], gTF 96 (some 99) (.indexAddr 22 (t 97) (t 98)) .pure [], gTF 96 (some 100) (.fieldAddr 29 (t 99) 1) .pure [], gTF 96 (some 101) (.load 3 (t 100)) .look [], gTF 96 (some 102) (.move (t 6)) .pure [], gTF 96 (some 103) (.move (t 9)) .pure [], gTF 96 (some 104) (.indexAddr 22 (t 102) (t 103)) .pure [], gTF 96 (some 105) (.fieldAddr 29 (t 104) 1) .pure [], gTF 96 (some 106) (.load 3 (t 105)) .look [], gTF 96 (some 107) (.binOp .eql 3 (t 101) (t 106) 3) .pure [], gNF 84 (some 108) (.pick (t 96) (t 107) (.const (.bool false))) .pure [], uF 109 (.pick (t 84) (.const (.bool true)) (t 108)) .pure [], uF 8 (.assign (t 109)) .pure []]
def r3_18 : List COp := [u 110 (.move (t 8)), u 111 (.unOp .not 4 (t 110))]
def r3_19 : List COp := [u 4 (.assign (.const (.bool false)))]
def r3_20 : List COp := [u 4 (.assign (.const (.bool true)))]
def correctorlaw4_EditFirst_l1 (F : Nat) (a0 : Int) (a1 : List api_Edit) : Nat → (List api_Edit) → (List api_Edit) → Int → Bool → Int → Option ((List api_Edit) × (List api_Edit) × Int × Bool)
  | 0, _, _, _, _, _ => none
  | n + 1, x18552, x18555, x18558, x18559, x18560 =>
    if x18560 < (x18555.length : Int) then
      ((if x18559 = true then
          some (x18552, x18555, true)
        else
          if 0 ≤ x18558 ∧ x18558 < (x18552.length : Int) then
            (x18552[x18558.toNat]?).bind fun x18679 =>
            if 0 ≤ x18560 ∧ x18560 < (x18555.length : Int) then
              (x18555[x18560.toNat]?).bind fun x18686 =>
              if x18679.From < x18686.To then
                if 0 ≤ x18560 ∧ x18560 < (x18555.length : Int) then
                  (x18555[x18560.toNat]?).bind fun x18694 =>
                  if 0 ≤ x18558 ∧ x18558 < (x18552.length : Int) then
                    (x18552[x18558.toNat]?).bind fun x18701 =>
                    if x18694.From < x18701.To then
                      some (x18552, x18555, true)
                    else
                      if 0 ≤ x18558 ∧ x18558 < (x18552.length : Int) then
                        (x18552[x18558.toNat]?).bind fun x18710 =>
                        if 0 ≤ x18560 ∧ x18560 < (x18555.length : Int) then
                          (x18555[x18560.toNat]?).bind fun x18717 =>
                          if x18710.From = x18717.From then
                            if 0 ≤ x18558 ∧ x18558 < (x18552.length : Int) then
                              (x18552[x18558.toNat]?).bind fun x18725 =>
                              if 0 ≤ x18560 ∧ x18560 < (x18555.length : Int) then
                                (x18555[x18560.toNat]?).bind fun x18732 =>
                                if x18725.To = x18732.To then
                                  some (x18552, x18555, true)
                                else
                                  some (x18552, x18555, false)
                              else none
                            else none
                          else
                            some (x18552, x18555, false)
                        else none
                      else none
                  else none
                else none
              else
                if 0 ≤ x18558 ∧ x18558 < (x18552.length : Int) then
                  (x18552[x18558.toNat]?).bind fun x18743 =>
                  if 0 ≤ x18560 ∧ x18560 < (x18555.length : Int) then
                    (x18555[x18560.toNat]?).bind fun x18750 =>
                    if x18743.From = x18750.From then
                      if 0 ≤ x18558 ∧ x18558 < (x18552.length : Int) then
                        (x18552[x18558.toNat]?).bind fun x18758 =>
                        if 0 ≤ x18560 ∧ x18560 < (x18555.length : Int) then
                          (x18555[x18560.toNat]?).bind fun x18765 =>
                          if x18758.To = x18765.To then
                            some (x18552, x18555, true)
                          else
                            some (x18552, x18555, false)
                        else none
                      else none
                    else
                      some (x18552, x18555, false)
                  else none
                else none
            else none
          else none) : Option ((List api_Edit) × (List api_Edit) × Bool)).bind fun o => match o with
        | (x18776, x18779, x18782) => correctorlaw4_EditFirst_l1 F a0 a1 n x18776 x18779 x18558 x18782 (w64 (x18560 + 1))
    else
      some (x18552, x18555, x18558, x18559)
def correctorlaw4_EditFirst_l0 (F : Nat) (a0 : Int) (a1 : List api_Edit) : Nat → (List api_Edit) → (List api_Edit) → Int → Option (Sum Unit Bool)
  | 0, _, _, _ => none
  | n + 1, x18001, x18004, x18007 =>
    if x18007 < (x18001.length : Int) then
      if 0 ≤ x18007 ∧ x18007 < (x18001.length : Int) then
        (x18001[x18007.toNat]?).bind fun x18015 =>
        (correctorlaw4_has F x18004 x18015).bind fun r18021 =>
        ((correctorlaw4_EditFirst_l1 F a0 a1 F x18001 x18004 x18007 r18021 0) : Option ((List api_Edit) × (List api_Edit) × Int × Bool)).bind fun o => match o with
          | (x18801, x18804, x18807, x18808) => if x18808 = true then
            correctorlaw4_EditFirst_l0 F a0 a1 n x18801 x18804 (w64 (x18807 + 1))
          else
            some (.inr false)
      else none
    else
      some (.inl ())
def correctorlaw4_EditFirst (F : Nat) (a0 : Int) (a1 : List api_Edit) : Option Bool :=
  (correctorlaw4_known F).bind fun r16755 =>
  if r16755 = true then
    (correctorlaw4_Few F a1).bind fun r16779 =>
    if r16779 = true then
      (correctorlaw4_within F a0 60).bind fun r16787 =>
      (correctorlaw4_Good F r16787 a1).bind fun r16794 =>
      (edit_Choose F r16787 r16794).bind fun r16812 =>
      ((if (0 : Int) < (r16794.length : Int) then
          if (r16812.length : Int) = (0 : Int) then
            some (.inr false)
          else
            if 0 ≤ (0 : Int) ∧ (0 : Int) < (r16794.length : Int) then
              (r16794[(0 : Int).toNat]?).bind fun x16852 =>
              (correctorlaw4_has F r16812 x16852).bind fun r16862 =>
              if r16862 = true then
                some (.inl (r16794, r16812))
              else
                some (.inr false)
            else none
        else
          some (.inl (r16794, r16812))) : Option (Sum ((List api_Edit) × (List api_Edit)) Bool)).bind fun o => match o with
        | .inl (x16875, x16878) => ((correctorlaw4_EditFirst_l0 F a0 a1 F x16875 x16878 0) : Option (Sum Unit Bool)).bind fun o => match o with
          | .inl () => some true
          | .inr y => some y
        | .inr y => some y
    else
      some true
  else
    some false
theorem correctorlaw4_EditFirst_ok (F : Nat) {h : AH} {Z : Zn} {a0 : Int} {a1 : List api_Edit} {v15293 : Value} (hI : Inv Z h) (q15292 : RS (α := api_Edit) Z v15293 a1) {r : Bool} (hm : correctorlaw4_EditFirst F a0 a1 = some r) :
    ∃ v h', callI Go.Proofs.Try.prog 3 [.int .i64 a0, v15293] h = some (v, h') ∧ St h [] Z (0, 0) Z h' [] ∧ v = .bool r := by
  refine fn_plain (Q := fun v => v = .bool r) Go.Proofs.Try.func3 rfl rfl hI ?_
  intro hs hS
  unfold correctorlaw4_EditFirst at hm
  refine sr r3_0 ?_
  refine xe 1 [(0, .int .i64 a0), (1, v15293)] ?_
  refine sq ?_
  refine sr r3_1 ?_
  obtain ⟨r16755, hx16756, hm⟩ := obind hm
  obtain ⟨v16757, h16758, hcl16759, hSc16760, rfl⟩ := correctorlaw4_known_ok F hS.inv  hx16756
  have hS16761 := St.call (A := []) (B := []) hS hSc16760
  replace hS16761 : St _ _ _ _ _ _ [] := hS16761
  refine r_step rfl trivial (o_call hcl16759 rfl rfl rfl) ?_
  rcases ifs hm with ⟨hp16762, hm⟩ | ⟨hp16762, hm⟩
  refine r_setb (t := 10) rfl hp16762 ?_
  refine xe 1 [(11, .bool false), (0, .int .i64 a0), (1, v15293)] ?_
  refine kF 11 rfl ?_
  refine sq ?_
  refine sr r3_3 ?_
  refine xq 1 [(12, v15293), (0, .int .i64 a0), (1, v15293)] ?_
  obtain ⟨r16779, hx16780, hm⟩ := obind hm
  obtain ⟨v16781, h16782, hcl16783, hSc16784, rfl⟩ := correctorlaw4_Few_ok F hS16761.inv q15292 hx16780
  have hS16785 := St.call (A := []) (B := []) hS16761 hSc16784
  replace hS16785 : St _ _ _ _ _ _ [] := hS16785
  refine r_step rfl trivial (o_call hcl16783 rfl rfl rfl) ?_
  rcases ifs hm with ⟨hp16786, hm⟩ | ⟨hp16786, hm⟩
  refine r_setb (t := 13) rfl hp16786 ?_
  refine xe 1 [(14, .bool false), (0, .int .i64 a0), (1, v15293)] ?_
  refine kF 14 rfl ?_
  refine sr r3_5 ?_
  refine xq 1 [(15, .int .i64 a0), (0, .int .i64 a0), (1, v15293)] ?_
  obtain ⟨r16787, hx16788, hm⟩ := obind hm
  obtain ⟨v16789, h16790, hcl16791, hSc16792, rfl⟩ := correctorlaw4_within_ok F hS16785.inv  hx16788
  have hS16793 := St.call (A := []) (B := []) hS16785 hSc16792
  replace hS16793 : St _ _ _ _ _ _ [] := hS16793
  refine r_step rfl trivial (o_call hcl16791 rfl rfl rfl) ?_
  refine xe 1 [(0, .int .i64 r16787), (1, v15293)] ?_
  refine sr r3_6 ?_
  refine xq 2 [(18, v15293), (17, .int .i64 r16787), (0, .int .i64 r16787)] ?_
  obtain ⟨r16794, hx16795, hm⟩ := obind hm
  have hSr16801 : St _ _ _ _ _ _ ([] ++ []) := hS16793
  obtain ⟨v16796, h16797, Z16802, A16804, hcl16798, hSc16799, v16806, c16807, rfl, rfl, q16805⟩ := correctorlaw4_Good_ok F hSr16801.preL q15292 hx16795
  have hS16800 := hSr16801.call hSc16799
  have hZ16803 := hSc16799.zle
  replace hS16800 : St _ _ _ _ _ _ [.gs v16806 c16807 (csz api_Edit)] := hS16800
  refine r_step rfl trivial (o_call hcl16798 rfl rfl rfl) ?_
  refine xe 1 [(5, v16806), (0, .int .i64 r16787)] ?_
  refine sr r3_7 ?_
  refine xq 2 [(21, v16806), (20, .int .i64 r16787), (5, v16806)] ?_
  obtain ⟨Z16808, hZ16809, q16810, hS16811⟩ := (hS16800.front 0 rfl).freeze q16805
  replace hS16811 : St _ _ _ _ _ _ [] := hS16811
  obtain ⟨r16812, hx16813, hm⟩ := obind hm
  have hSr16819 : St _ _ _ _ _ _ ([] ++ []) := hS16811
  obtain ⟨v16814, h16815, Z16820, A16822, hcl16816, hSc16817, v16824, c16825, rfl, rfl, q16823⟩ := edit_Choose_ok F hSr16819.preL q16810 hx16813
  have hS16818 := hSr16819.call hSc16817
  have hZ16821 := hSc16817.zle
  replace hS16818 : St _ _ _ _ _ _ [.gs v16824 c16825 (csz api_Edit)] := hS16818
  refine r_step rfl trivial (o_call hcl16816 rfl rfl rfl) ?_
  refine xe 1 [(6, v16824), (5, v16806)] ?_
  refine sq ?_
  obtain ⟨o16848, ho16847, hm⟩ := obind hm
  refine W_join [5, 6] (fun l h => ∃ Z16874 : Zn, ∃ x16875 : List api_Edit, ∃ x16878 : List api_Edit, ∃ v16877 : Value, ∃ v16880 : Value, .inl (x16875, x16878) = o16848 ∧ RS (α := api_Edit) Z16874 v16877 x16875 ∧ RS (α := api_Edit) Z16874 v16880 x16878 ∧ l = [(5, v16877), (6, v16880)] ∧ St hs [] Z (0, 0) Z16874 h []) ?_ ?_
  rintro l h16881 ⟨Z16874, x16875, x16878, v16877, v16880, rfl, q16876, q16879, rfl, hS16882⟩
  try dsimp only at hm
  refine sq ?_
  refine sr r3_10 ?_
  refine xe 1 [(7, .int .i64 0), (5, v16877), (6, v16880)] ?_
  obtain ⟨o17999, ho17998, hm⟩ := obind hm
  refine W_join [] (fun l h => ∃ Z18821 : Zn, .inl () = o17999 ∧ l = [] ∧ St hs [] Z (0, 0) Z18821 h []) ?_ ?_
  rintro l h18822 ⟨Z18821, rfl, rfl, hS18823⟩
  try dsimp only at hm
  refine sr r3_20 ?_
  refine xe 1 [(4, .bool true)] ?_
  refine rt ?_
  refine ⟨rfl, ?_⟩
  obtain rfl := Option.some.inj hm
  refine ⟨_, _, _, ResL.tmp rfl (ResL.nil), hS18823, ?_⟩
  exact rfl
  refine bk 0 ?_
  refine lp [5, 6, 7] (fun n l h => ∃ Z18000 : Zn, ∃ x18001 : List api_Edit, ∃ x18004 : List api_Edit, ∃ x18007 : Int, ∃ v18003 : Value, ∃ v18006 : Value, correctorlaw4_EditFirst_l0 F a0 a1 n x18001 x18004 x18007 = some o17999 ∧ RS (α := api_Edit) Z18000 v18003 x18001 ∧ RS (α := api_Edit) Z18000 v18006 x18004 ∧ l = [(5, v18003), (6, v18006), (7, .int .i64 x18007)] ∧ St hs [] Z (0, 0) Z18000 h []) F ⟨_, x16875, x16878, 0, v16877, v16880, ho17998, q16876, q16879, rfl, hS16882⟩ ?_
  rintro n18010 l h18008 ⟨Z18000, x18001, x18004, x18007, v18003, v18006, ho17998, q18002, q18005, rfl, hS18009⟩
  rcases n18010 with _ | n18010
  cases (show none = some o17999 from ho17998)
  rw [correctorlaw4_EditFirst_l0] at ho17998
  refine sq ?_
  refine sr r3_11 ?_
  refine xq 2 [(40, v18003), (39, .int .i64 x18007), (5, v18003), (6, v18006), (7, .int .i64 x18007)] ?_
  refine r_step rfl trivial (o_len rfl (RS.len q18002) ⟨_, Go.Proofs.Try.underlying22⟩) ?_
  rcases ifs ho17998 with ⟨hp18013, ho17998⟩ | ⟨hp18013, ho17998⟩
  refine r_step rfl trivial (o_cmp rfl rfl (c_lss_T hp18013)) ?_
  refine xf [(42, .bool true), (5, v18003), (6, v18006), (7, .int .i64 x18007)] ?_
  refine kT 42 rfl ?_
  refine sq ?_
  refine bk 1 ?_
  refine sr r3_13 ?_
  refine xq 3 [(47, .int .i64 x18007), (46, v18003), (45, v18006), (5, v18003), (6, v18006), (7, .int .i64 x18007)] ?_
  obtain ⟨hc18014, ho17998⟩ := chk ho17998
  refine r_step rfl trivial (o_index rfl rfl (by kernel_rfl : slTy _ _ = some (csz api_Edit)) (RS.based q18002 (by omega)) hc18014.1 hc18014.2) ?_
  obtain ⟨x18015, hx18016, ho17998⟩ := obind ho17998
  obtain ⟨cs18017, hc18018, he18019⟩ := RS.elz q18002 (i := x18007) hx18016
  obtain rfl := rc_api_Edit hc18018
  refine r_step rfl trivial (o_lde (w := .agg #[.int .i64 x18015.From, .int .i64 x18015.To, .string ⟨⟨x18015.Put.b⟩⟩]) (he18019 _ (hS18009.zin0 (Zle.refl _))) rfl (by kernel_rfl)) ?_
  obtain ⟨r18021, hx18022, ho17998⟩ := obind ho17998
  obtain ⟨v18023, h18024, hcl18025, hSc18026, rfl⟩ := correctorlaw4_has_ok F hS18009.inv q18005 hx18022
  have hS18027 := St.call (A := []) (B := []) hS18009 hSc18026
  replace hS18027 : St _ _ _ _ _ _ [] := hS18027
  refine r_step rfl trivial (o_call hcl18025 rfl rfl rfl) ?_
  refine xe 1 [(8, .bool r18021), (5, v18003), (6, v18006), (7, .int .i64 x18007)] ?_
  refine sq ?_
  refine sr r3_14 ?_
  refine xe 1 [(9, .int .i64 0), (8, .bool r18021), (5, v18003), (6, v18006), (7, .int .i64 x18007)] ?_
  obtain ⟨o18550, ho18549, ho17998⟩ := obind ho17998
  refine W_join [5, 6, 7, 8] (fun l h => ∃ Z18800 : Zn, ∃ x18801 : List api_Edit, ∃ x18804 : List api_Edit, ∃ x18807 : Int, ∃ x18808 : Bool, ∃ v18803 : Value, ∃ v18806 : Value, (x18801, x18804, x18807, x18808) = o18550 ∧ RS (α := api_Edit) Z18800 v18803 x18801 ∧ RS (α := api_Edit) Z18800 v18806 x18804 ∧ l = [(5, v18803), (6, v18806), (7, .int .i64 x18807), (8, .bool x18808)] ∧ St hs [] Z (0, 0) Z18800 h []) ?_ ?_
  rintro l h18809 ⟨Z18800, x18801, x18804, x18807, x18808, v18803, v18806, rfl, q18802, q18805, rfl, hS18810⟩
  try dsimp only at ho17998
  refine sr r3_18 ?_
  refine xq 1 [(110, .bool x18808), (5, v18803), (6, v18806), (7, .int .i64 x18807)] ?_
  rcases ifs ho17998 with ⟨hp18812, ho17998⟩ | ⟨hp18812, ho17998⟩
  refine r_setb (t := 110) rfl hp18812 ?_
  refine xe 1 [(111, .bool false), (5, v18803), (6, v18806), (7, .int .i64 x18807)] ?_
  refine kF 111 rfl ?_
  refine rg r3_12 ?_
  refine xe 3 [(7, .int .i64 (w64 (x18807 + 1))), (5, v18803), (6, v18806)] ?_
  exact ⟨n18010, Nat.lt_succ_self _, ⟨_, x18801, x18804, w64 (x18807 + 1), v18803, v18806, ho17998, q18802, q18805, rfl, hS18810⟩⟩
  refine r_setb (t := 110) rfl (Bool.eq_false_iff.2 hp18812) ?_
  refine xe 1 [(111, .bool true), (5, v18803), (6, v18806), (7, .int .i64 x18807)] ?_
  refine cT 111 rfl ?_
  refine sr r3_19 ?_
  refine xe 1 [(4, .bool false)] ?_
  refine rt ?_
  refine blkX_ret ?_
  refine blkX_ret ?_
  refine ⟨rfl, ?_⟩
  obtain rfl := Option.some.inj ho17998
  obtain rfl := Option.some.inj hm
  refine ⟨_, _, _, ResL.tmp rfl (ResL.nil), hS18810, ?_⟩
  exact rfl
  refine bk 2 ?_
  refine lp [5, 6, 7, 8, 9] (fun n l h => ∃ Z18551 : Zn, ∃ x18552 : List api_Edit, ∃ x18555 : List api_Edit, ∃ x18558 : Int, ∃ x18559 : Bool, ∃ x18560 : Int, ∃ v18554 : Value, ∃ v18557 : Value, correctorlaw4_EditFirst_l1 F a0 a1 n x18552 x18555 x18558 x18559 x18560 = some o18550 ∧ RS (α := api_Edit) Z18551 v18554 x18552 ∧ RS (α := api_Edit) Z18551 v18557 x18555 ∧ l = [(5, v18554), (6, v18557), (7, .int .i64 x18558), (8, .bool x18559), (9, .int .i64 x18560)] ∧ St hs [] Z (0, 0) Z18551 h []) F ⟨_, x18001, x18004, x18007, r18021, 0, v18003, v18006, ho18549, q18002, q18005, rfl, hS18027⟩ ?_
  rintro n18563 l h18561 ⟨Z18551, x18552, x18555, x18558, x18559, x18560, v18554, v18557, ho18549, q18553, q18556, rfl, hS18562⟩
  rcases n18563 with _ | n18563
  cases (show none = some o18550 from ho18549)
  rw [correctorlaw4_EditFirst_l1] at ho18549
  refine sq ?_
  refine sr r3_15 ?_
  refine xq 2 [(52, v18557), (51, .int .i64 x18560), (5, v18554), (6, v18557), (7, .int .i64 x18558), (8, .bool x18559), (9, .int .i64 x18560)] ?_
  refine r_step rfl trivial (o_len rfl (RS.len q18556) ⟨_, Go.Proofs.Try.underlying22⟩) ?_
  rcases ifs ho18549 with ⟨hp18566, ho18549⟩ | ⟨hp18566, ho18549⟩
  refine r_step rfl trivial (o_cmp rfl rfl (c_lss_T hp18566)) ?_
  refine xf [(54, .bool true), (5, v18554), (6, v18557), (7, .int .i64 x18558), (8, .bool x18559), (9, .int .i64 x18560)] ?_
  refine kT 54 rfl ?_
  refine sq ?_
  refine bk 3 ?_
  obtain ⟨o18671, ho18670, ho18549⟩ := obind ho18549
  refine W_join [5, 6, 7, 8, 9] (fun l h => ∃ Z18775 : Zn, ∃ x18776 : List api_Edit, ∃ x18779 : List api_Edit, ∃ x18782 : Bool, ∃ v18778 : Value, ∃ v18781 : Value, (x18776, x18779, x18782) = o18671 ∧ RS (α := api_Edit) Z18775 v18778 x18776 ∧ RS (α := api_Edit) Z18775 v18781 x18779 ∧ l = [(5, v18778), (6, v18781), (7, .int .i64 x18558), (8, .bool x18782), (9, .int .i64 x18560)] ∧ St hs [] Z (0, 0) Z18775 h []) ?_ ?_
  rintro l h18783 ⟨Z18775, x18776, x18779, x18782, v18778, v18781, rfl, q18777, q18780, rfl, hS18784⟩
  try dsimp only at ho18549
  refine rg r3_16 ?_
  refine xe 3 [(9, .int .i64 (w64 (x18560 + 1))), (5, v18778), (6, v18781), (7, .int .i64 x18558), (8, .bool x18782)] ?_
  exact ⟨n18563, Nat.lt_succ_self _, ⟨_, x18776, x18779, x18558, x18782, w64 (x18560 + 1), v18778, v18781, ho18549, q18777, q18780, rfl, hS18784⟩⟩
  refine rgF r3_17 hS18562 ?_
  intro bs18672 h18673 hlv18675 hS18674
  refine yq 2 [(58, .bool x18559), (5, v18554), (6, v18557), (7, .int .i64 x18558), (8, .bool x18559), (9, .int .i64 x18560)] ?_
  rcases ifs ho18670 with ⟨hp18676, ho18670⟩ | ⟨hp18676, ho18670⟩
  refine e_setb (t := 58) rfl hp18676 ?_
  refine ye 52 [(8, .bool true), (5, v18554), (6, v18557), (7, .int .i64 x18558), (9, .int .i64 x18560)] ?_
  have hS18677 := hS18674.unres
  obtain rfl := Option.some.inj ho18670
  exact ⟨_, x18552, x18555, true, v18554, v18557, rfl, q18553, q18556, rfl, hS18677⟩
  refine e_setb (t := 58) rfl (Bool.eq_false_iff.2 hp18676) ?_
  refine yq 2 [(60, .int .i64 x18558), (59, v18554), (58, .bool false), (5, v18554), (6, v18557), (7, .int .i64 x18558), (8, .bool x18559), (9, .int .i64 x18560)] ?_
  obtain ⟨hc18678, ho18670⟩ := chk ho18670
  refine e_val rfl rfl (o_index rfl rfl (by kernel_rfl : slTy _ _ = some (csz api_Edit)) (RS.based q18553 (by omega)) hc18678.1 hc18678.2) ?_
  refine yq 1 [(62, .pointer (some (elemA v18554 x18558 (csz api_Edit) 0))), (58, .bool false), (5, v18554), (6, v18557), (7, .int .i64 x18558), (8, .bool x18559), (9, .int .i64 x18560)] ?_
  obtain ⟨x18679, hx18680, ho18670⟩ := obind ho18670
  obtain ⟨cs18681, hc18682, he18683⟩ := RS.elz q18553 (i := x18558) hx18680
  obtain rfl := rc_api_Edit hc18682
  refine e_lookZ rfl rfl rfl (fun h2 hz => o_lde (w := .int .i64 x18679.From) (he18683 h2 hz) rfl (by kernel_rfl)) (hS18674.zin0 (Zle.refl _)) (same1 (v := .int .i64 x18679.From) trivial) trivial ?_
  refine yq 2 [(65, .int .i64 x18560), (64, v18557), (63, .int .i64 x18679.From), (58, .bool false), (5, v18554), (6, v18557), (7, .int .i64 x18558), (8, .bool x18559), (9, .int .i64 x18560)] ?_
  obtain ⟨hc18685, ho18670⟩ := chk ho18670
  refine e_val rfl rfl (o_index rfl rfl (by kernel_rfl : slTy _ _ = some (csz api_Edit)) (RS.based q18556 (by omega)) hc18685.1 hc18685.2) ?_
  refine yq 1 [(67, .pointer (some (elemA v18557 x18560 (csz api_Edit) 1))), (63, .int .i64 x18679.From), (58, .bool false), (5, v18554), (6, v18557), (7, .int .i64 x18558), (8, .bool x18559), (9, .int .i64 x18560)] ?_
  obtain ⟨x18686, hx18687, ho18670⟩ := obind ho18670
  obtain ⟨cs18688, hc18689, he18690⟩ := RS.elz q18556 (i := x18560) hx18687
  obtain rfl := rc_api_Edit hc18689
  refine e_lookZ rfl rfl rfl (fun h2 hz => o_lde (w := .int .i64 x18686.To) (he18690 h2 hz) rfl (by kernel_rfl)) (hS18674.zin0 (Zle.refl _)) (same1 (v := .int .i64 x18686.To) trivial) trivial ?_
  rcases ifs ho18670 with ⟨hp18692, ho18670⟩ | ⟨hp18692, ho18670⟩
  refine e_val rfl rfl (o_cmp rfl rfl (c_lss_T hp18692)) ?_
  refine yq 3 [(72, .int .i64 x18560), (71, v18557), (70, .bool true), (58, .bool false), (5, v18554), (6, v18557), (7, .int .i64 x18558), (8, .bool x18559), (9, .int .i64 x18560)] ?_
  obtain ⟨hc18693, ho18670⟩ := chk ho18670
  refine e_val rfl rfl (o_index rfl rfl (by kernel_rfl : slTy _ _ = some (csz api_Edit)) (RS.based q18556 (by omega)) hc18693.1 hc18693.2) ?_
  refine yq 1 [(74, .pointer (some (elemA v18557 x18560 (csz api_Edit) 0))), (70, .bool true), (58, .bool false), (5, v18554), (6, v18557), (7, .int .i64 x18558), (8, .bool x18559), (9, .int .i64 x18560)] ?_
  obtain ⟨x18694, hx18695, ho18670⟩ := obind ho18670
  obtain ⟨cs18696, hc18697, he18698⟩ := RS.elz q18556 (i := x18560) hx18695
  obtain rfl := rc_api_Edit hc18697
  refine e_lookZ rfl rfl rfl (fun h2 hz => o_lde (w := .int .i64 x18694.From) (he18698 h2 hz) rfl (by kernel_rfl)) (hS18674.zin0 (Zle.refl _)) (same1 (v := .int .i64 x18694.From) trivial) trivial ?_
  refine yq 2 [(77, .int .i64 x18558), (76, v18554), (75, .int .i64 x18694.From), (70, .bool true), (58, .bool false), (5, v18554), (6, v18557), (7, .int .i64 x18558), (8, .bool x18559), (9, .int .i64 x18560)] ?_
  obtain ⟨hc18700, ho18670⟩ := chk ho18670
  refine e_val rfl rfl (o_index rfl rfl (by kernel_rfl : slTy _ _ = some (csz api_Edit)) (RS.based q18553 (by omega)) hc18700.1 hc18700.2) ?_
  refine yq 1 [(79, .pointer (some (elemA v18554 x18558 (csz api_Edit) 1))), (75, .int .i64 x18694.From), (70, .bool true), (58, .bool false), (5, v18554), (6, v18557), (7, .int .i64 x18558), (8, .bool x18559), (9, .int .i64 x18560)] ?_
  obtain ⟨x18701, hx18702, ho18670⟩ := obind ho18670
  obtain ⟨cs18703, hc18704, he18705⟩ := RS.elz q18553 (i := x18558) hx18702
  obtain rfl := rc_api_Edit hc18704
  refine e_lookZ rfl rfl rfl (fun h2 hz => o_lde (w := .int .i64 x18701.To) (he18705 h2 hz) rfl (by kernel_rfl)) (hS18674.zin0 (Zle.refl _)) (same1 (v := .int .i64 x18701.To) trivial) trivial ?_
  rcases ifs ho18670 with ⟨hp18707, ho18670⟩ | ⟨hp18707, ho18670⟩
  refine e_val rfl rfl (o_cmp rfl rfl (c_lss_T hp18707)) ?_
  refine ye 29 [(8, .bool true), (5, v18554), (6, v18557), (7, .int .i64 x18558), (9, .int .i64 x18560)] ?_
  have hS18708 := hS18674.unres
  obtain rfl := Option.some.inj ho18670
  exact ⟨_, x18552, x18555, true, v18554, v18557, rfl, q18553, q18556, rfl, hS18708⟩
  refine e_val rfl rfl (o_cmp rfl rfl (c_lss_F hp18707)) ?_
  refine yq 5 [(86, .int .i64 x18558), (85, v18554), (84, .bool false), (5, v18554), (6, v18557), (7, .int .i64 x18558), (8, .bool x18559), (9, .int .i64 x18560)] ?_
  obtain ⟨hc18709, ho18670⟩ := chk ho18670
  refine e_val rfl rfl (o_index rfl rfl (by kernel_rfl : slTy _ _ = some (csz api_Edit)) (RS.based q18553 (by omega)) hc18709.1 hc18709.2) ?_
  refine yq 1 [(88, .pointer (some (elemA v18554 x18558 (csz api_Edit) 0))), (84, .bool false), (5, v18554), (6, v18557), (7, .int .i64 x18558), (8, .bool x18559), (9, .int .i64 x18560)] ?_
  obtain ⟨x18710, hx18711, ho18670⟩ := obind ho18670
  obtain ⟨cs18712, hc18713, he18714⟩ := RS.elz q18553 (i := x18558) hx18711
  obtain rfl := rc_api_Edit hc18713
  refine e_lookZ rfl rfl rfl (fun h2 hz => o_lde (w := .int .i64 x18710.From) (he18714 h2 hz) rfl (by kernel_rfl)) (hS18674.zin0 (Zle.refl _)) (same1 (v := .int .i64 x18710.From) trivial) trivial ?_
  refine yq 2 [(91, .int .i64 x18560), (90, v18557), (89, .int .i64 x18710.From), (84, .bool false), (5, v18554), (6, v18557), (7, .int .i64 x18558), (8, .bool x18559), (9, .int .i64 x18560)] ?_
  obtain ⟨hc18716, ho18670⟩ := chk ho18670
  refine e_val rfl rfl (o_index rfl rfl (by kernel_rfl : slTy _ _ = some (csz api_Edit)) (RS.based q18556 (by omega)) hc18716.1 hc18716.2) ?_
  refine yq 1 [(93, .pointer (some (elemA v18557 x18560 (csz api_Edit) 0))), (89, .int .i64 x18710.From), (84, .bool false), (5, v18554), (6, v18557), (7, .int .i64 x18558), (8, .bool x18559), (9, .int .i64 x18560)] ?_
  obtain ⟨x18717, hx18718, ho18670⟩ := obind ho18670
  obtain ⟨cs18719, hc18720, he18721⟩ := RS.elz q18556 (i := x18560) hx18718
  obtain rfl := rc_api_Edit hc18720
  refine e_lookZ rfl rfl rfl (fun h2 hz => o_lde (w := .int .i64 x18717.From) (he18721 h2 hz) rfl (by kernel_rfl)) (hS18674.zin0 (Zle.refl _)) (same1 (v := .int .i64 x18717.From) trivial) trivial ?_
  rcases ifs ho18670 with ⟨hp18723, ho18670⟩ | ⟨hp18723, ho18670⟩
  refine e_val rfl rfl (o_cmp rfl rfl (c_eql_T hp18723)) ?_
  refine yq 3 [(98, .int .i64 x18558), (97, v18554), (96, .bool true), (84, .bool false), (5, v18554), (6, v18557), (7, .int .i64 x18558), (8, .bool x18559), (9, .int .i64 x18560)] ?_
  obtain ⟨hc18724, ho18670⟩ := chk ho18670
  refine e_val rfl rfl (o_index rfl rfl (by kernel_rfl : slTy _ _ = some (csz api_Edit)) (RS.based q18553 (by omega)) hc18724.1 hc18724.2) ?_
  refine yq 1 [(100, .pointer (some (elemA v18554 x18558 (csz api_Edit) 1))), (96, .bool true), (84, .bool false), (5, v18554), (6, v18557), (7, .int .i64 x18558), (8, .bool x18559), (9, .int .i64 x18560)] ?_
  obtain ⟨x18725, hx18726, ho18670⟩ := obind ho18670
  obtain ⟨cs18727, hc18728, he18729⟩ := RS.elz q18553 (i := x18558) hx18726
  obtain rfl := rc_api_Edit hc18728
  refine e_lookZ rfl rfl rfl (fun h2 hz => o_lde (w := .int .i64 x18725.To) (he18729 h2 hz) rfl (by kernel_rfl)) (hS18674.zin0 (Zle.refl _)) (same1 (v := .int .i64 x18725.To) trivial) trivial ?_
  refine yq 2 [(103, .int .i64 x18560), (102, v18557), (101, .int .i64 x18725.To), (96, .bool true), (84, .bool false), (5, v18554), (6, v18557), (7, .int .i64 x18558), (8, .bool x18559), (9, .int .i64 x18560)] ?_
  obtain ⟨hc18731, ho18670⟩ := chk ho18670
  refine e_val rfl rfl (o_index rfl rfl (by kernel_rfl : slTy _ _ = some (csz api_Edit)) (RS.based q18556 (by omega)) hc18731.1 hc18731.2) ?_
  refine yq 1 [(105, .pointer (some (elemA v18557 x18560 (csz api_Edit) 1))), (101, .int .i64 x18725.To), (96, .bool true), (84, .bool false), (5, v18554), (6, v18557), (7, .int .i64 x18558), (8, .bool x18559), (9, .int .i64 x18560)] ?_
  obtain ⟨x18732, hx18733, ho18670⟩ := obind ho18670
  obtain ⟨cs18734, hc18735, he18736⟩ := RS.elz q18556 (i := x18560) hx18733
  obtain rfl := rc_api_Edit hc18735
  refine e_lookZ rfl rfl rfl (fun h2 hz => o_lde (w := .int .i64 x18732.To) (he18736 h2 hz) rfl (by kernel_rfl)) (hS18674.zin0 (Zle.refl _)) (same1 (v := .int .i64 x18732.To) trivial) trivial ?_
  rcases ifs ho18670 with ⟨hp18738, ho18670⟩ | ⟨hp18738, ho18670⟩
  refine e_val rfl rfl (o_cmp rfl rfl (c_eql_T hp18738)) ?_
  refine ye 3 [(8, .bool true), (5, v18554), (6, v18557), (7, .int .i64 x18558), (9, .int .i64 x18560)] ?_
  have hS18739 := hS18674.unres
  obtain rfl := Option.some.inj ho18670
  exact ⟨_, x18552, x18555, true, v18554, v18557, rfl, q18553, q18556, rfl, hS18739⟩
  refine e_val rfl rfl (o_cmp rfl rfl (c_eql_F hp18738)) ?_
  refine ye 3 [(8, .bool false), (5, v18554), (6, v18557), (7, .int .i64 x18558), (9, .int .i64 x18560)] ?_
  have hS18740 := hS18674.unres
  obtain rfl := Option.some.inj ho18670
  exact ⟨_, x18552, x18555, false, v18554, v18557, rfl, q18553, q18556, rfl, hS18740⟩
  refine e_val rfl rfl (o_cmp rfl rfl (c_eql_F hp18723)) ?_
  refine ye 15 [(8, .bool false), (5, v18554), (6, v18557), (7, .int .i64 x18558), (9, .int .i64 x18560)] ?_
  have hS18741 := hS18674.unres
  obtain rfl := Option.some.inj ho18670
  exact ⟨_, x18552, x18555, false, v18554, v18557, rfl, q18553, q18556, rfl, hS18741⟩
  refine e_val rfl rfl (o_cmp rfl rfl (c_lss_F hp18692)) ?_
  refine yq 17 [(86, .int .i64 x18558), (85, v18554), (84, .bool false), (5, v18554), (6, v18557), (7, .int .i64 x18558), (8, .bool x18559), (9, .int .i64 x18560)] ?_
  obtain ⟨hc18742, ho18670⟩ := chk ho18670
  refine e_val rfl rfl (o_index rfl rfl (by kernel_rfl : slTy _ _ = some (csz api_Edit)) (RS.based q18553 (by omega)) hc18742.1 hc18742.2) ?_
  refine yq 1 [(88, .pointer (some (elemA v18554 x18558 (csz api_Edit) 0))), (84, .bool false), (5, v18554), (6, v18557), (7, .int .i64 x18558), (8, .bool x18559), (9, .int .i64 x18560)] ?_
  obtain ⟨x18743, hx18744, ho18670⟩ := obind ho18670
  obtain ⟨cs18745, hc18746, he18747⟩ := RS.elz q18553 (i := x18558) hx18744
  obtain rfl := rc_api_Edit hc18746
  refine e_lookZ rfl rfl rfl (fun h2 hz => o_lde (w := .int .i64 x18743.From) (he18747 h2 hz) rfl (by kernel_rfl)) (hS18674.zin0 (Zle.refl _)) (same1 (v := .int .i64 x18743.From) trivial) trivial ?_
  refine yq 2 [(91, .int .i64 x18560), (90, v18557), (89, .int .i64 x18743.From), (84, .bool false), (5, v18554), (6, v18557), (7, .int .i64 x18558), (8, .bool x18559), (9, .int .i64 x18560)] ?_
  obtain ⟨hc18749, ho18670⟩ := chk ho18670
  refine e_val rfl rfl (o_index rfl rfl (by kernel_rfl : slTy _ _ = some (csz api_Edit)) (RS.based q18556 (by omega)) hc18749.1 hc18749.2) ?_
  refine yq 1 [(93, .pointer (some (elemA v18557 x18560 (csz api_Edit) 0))), (89, .int .i64 x18743.From), (84, .bool false), (5, v18554), (6, v18557), (7, .int .i64 x18558), (8, .bool x18559), (9, .int .i64 x18560)] ?_
  obtain ⟨x18750, hx18751, ho18670⟩ := obind ho18670
  obtain ⟨cs18752, hc18753, he18754⟩ := RS.elz q18556 (i := x18560) hx18751
  obtain rfl := rc_api_Edit hc18753
  refine e_lookZ rfl rfl rfl (fun h2 hz => o_lde (w := .int .i64 x18750.From) (he18754 h2 hz) rfl (by kernel_rfl)) (hS18674.zin0 (Zle.refl _)) (same1 (v := .int .i64 x18750.From) trivial) trivial ?_
  rcases ifs ho18670 with ⟨hp18756, ho18670⟩ | ⟨hp18756, ho18670⟩
  refine e_val rfl rfl (o_cmp rfl rfl (c_eql_T hp18756)) ?_
  refine yq 3 [(98, .int .i64 x18558), (97, v18554), (96, .bool true), (84, .bool false), (5, v18554), (6, v18557), (7, .int .i64 x18558), (8, .bool x18559), (9, .int .i64 x18560)] ?_
  obtain ⟨hc18757, ho18670⟩ := chk ho18670
  refine e_val rfl rfl (o_index rfl rfl (by kernel_rfl : slTy _ _ = some (csz api_Edit)) (RS.based q18553 (by omega)) hc18757.1 hc18757.2) ?_
  refine yq 1 [(100, .pointer (some (elemA v18554 x18558 (csz api_Edit) 1))), (96, .bool true), (84, .bool false), (5, v18554), (6, v18557), (7, .int .i64 x18558), (8, .bool x18559), (9, .int .i64 x18560)] ?_
  obtain ⟨x18758, hx18759, ho18670⟩ := obind ho18670
  obtain ⟨cs18760, hc18761, he18762⟩ := RS.elz q18553 (i := x18558) hx18759
  obtain rfl := rc_api_Edit hc18761
  refine e_lookZ rfl rfl rfl (fun h2 hz => o_lde (w := .int .i64 x18758.To) (he18762 h2 hz) rfl (by kernel_rfl)) (hS18674.zin0 (Zle.refl _)) (same1 (v := .int .i64 x18758.To) trivial) trivial ?_
  refine yq 2 [(103, .int .i64 x18560), (102, v18557), (101, .int .i64 x18758.To), (96, .bool true), (84, .bool false), (5, v18554), (6, v18557), (7, .int .i64 x18558), (8, .bool x18559), (9, .int .i64 x18560)] ?_
  obtain ⟨hc18764, ho18670⟩ := chk ho18670
  refine e_val rfl rfl (o_index rfl rfl (by kernel_rfl : slTy _ _ = some (csz api_Edit)) (RS.based q18556 (by omega)) hc18764.1 hc18764.2) ?_
  refine yq 1 [(105, .pointer (some (elemA v18557 x18560 (csz api_Edit) 1))), (101, .int .i64 x18758.To), (96, .bool true), (84, .bool false), (5, v18554), (6, v18557), (7, .int .i64 x18558), (8, .bool x18559), (9, .int .i64 x18560)] ?_
  obtain ⟨x18765, hx18766, ho18670⟩ := obind ho18670
  obtain ⟨cs18767, hc18768, he18769⟩ := RS.elz q18556 (i := x18560) hx18766
  obtain rfl := rc_api_Edit hc18768
  refine e_lookZ rfl rfl rfl (fun h2 hz => o_lde (w := .int .i64 x18765.To) (he18769 h2 hz) rfl (by kernel_rfl)) (hS18674.zin0 (Zle.refl _)) (same1 (v := .int .i64 x18765.To) trivial) trivial ?_
  rcases ifs ho18670 with ⟨hp18771, ho18670⟩ | ⟨hp18771, ho18670⟩
  refine e_val rfl rfl (o_cmp rfl rfl (c_eql_T hp18771)) ?_
  refine ye 3 [(8, .bool true), (5, v18554), (6, v18557), (7, .int .i64 x18558), (9, .int .i64 x18560)] ?_
  have hS18772 := hS18674.unres
  obtain rfl := Option.some.inj ho18670
  exact ⟨_, x18552, x18555, true, v18554, v18557, rfl, q18553, q18556, rfl, hS18772⟩
  refine e_val rfl rfl (o_cmp rfl rfl (c_eql_F hp18771)) ?_
  refine ye 3 [(8, .bool false), (5, v18554), (6, v18557), (7, .int .i64 x18558), (9, .int .i64 x18560)] ?_
  have hS18773 := hS18674.unres
  obtain rfl := Option.some.inj ho18670
  exact ⟨_, x18552, x18555, false, v18554, v18557, rfl, q18553, q18556, rfl, hS18773⟩
  refine e_val rfl rfl (o_cmp rfl rfl (c_eql_F hp18756)) ?_
  refine ye 15 [(8, .bool false), (5, v18554), (6, v18557), (7, .int .i64 x18558), (9, .int .i64 x18560)] ?_
  have hS18774 := hS18674.unres
  obtain rfl := Option.some.inj ho18670
  exact ⟨_, x18552, x18555, false, v18554, v18557, rfl, q18553, q18556, rfl, hS18774⟩
  refine r_step rfl trivial (o_cmp rfl rfl (c_lss_F hp18566)) ?_
  refine xf [(54, .bool false), (5, v18554), (6, v18557), (7, .int .i64 x18558), (8, .bool x18559), (9, .int .i64 x18560)] ?_
  refine cF 54 rfl ?_
  refine xt 2 ?_
  refine blkX_hit ?_
  obtain rfl := Option.some.inj ho18549
  exact ⟨_, x18552, x18555, x18558, x18559, v18554, v18557, rfl, q18553, q18556, rfl, hS18562⟩
  refine r_step rfl trivial (o_cmp rfl rfl (c_lss_F hp18013)) ?_
  refine xf [(42, .bool false), (5, v18003), (6, v18006), (7, .int .i64 x18007)] ?_
  refine cF 42 rfl ?_
  refine xt 0 ?_
  refine blkX_hit ?_
  obtain rfl := Option.some.inj ho17998
  exact ⟨_, rfl, rfl, hS18009⟩
  refine sr r3_8 ?_
  refine xq 1 [(23, v16806), (6, v16824), (5, v16806)] ?_
  refine r_step rfl trivial (o_len rfl (RS.len (q16810.mono hZ16821)) ⟨_, Go.Proofs.Try.underlying22⟩) ?_
  rcases ifs ho16847 with ⟨hp16849, ho16847⟩ | ⟨hp16849, ho16847⟩
  refine r_step rfl trivial (o_cmp rfl rfl (c_gtr_T hp16849)) ?_
  refine xq 2 [(27, v16824), (26, .bool true), (6, v16824), (5, v16806)] ?_
  refine r_step rfl rfl (o_len rfl (hS16818.glen (i := 0) rfl q16823) ⟨_, Go.Proofs.Try.underlying22⟩) ?_
  rcases ifs ho16847 with ⟨hp16850, ho16847⟩ | ⟨hp16850, ho16847⟩
  refine r_step rfl rfl (o_cmp rfl rfl (c_eql_T hp16850)) ?_
  refine xe 9 [(38, .bool true), (6, v16824), (5, v16806)] ?_
  refine cT 38 rfl ?_
  refine sr r3_9 ?_
  refine xe 1 [(4, .bool false)] ?_
  refine rt ?_
  refine ⟨rfl, ?_⟩
  obtain rfl := Option.some.inj ho16847
  obtain rfl := Option.some.inj hm
  refine ⟨_, _, _, ResL.tmp rfl (ResL.nil), hS16818, ?_⟩
  exact rfl
  refine r_step rfl rfl (o_cmp rfl rfl (c_eql_F hp16850)) ?_
  refine xq 3 [(32, v16806), (31, v16824), (30, .bool false), (26, .bool true), (6, v16824), (5, v16806)] ?_
  obtain ⟨hc16851, ho16847⟩ := chk ho16847
  refine r_step rfl rfl (o_index rfl rfl (by kernel_rfl : slTy _ _ = some (csz api_Edit)) (RS.based (q16810.mono hZ16821) (by omega)) hc16851.1 hc16851.2) ?_
  obtain ⟨x16852, hx16853, ho16847⟩ := obind ho16847
  obtain ⟨cs16854, hc16855, he16856⟩ := RS.elz (q16810.mono hZ16821) (i := 0) hx16853
  obtain rfl := rc_api_Edit hc16855
  refine r_step rfl rfl (o_lde (w := .agg #[.int .i64 x16852.From, .int .i64 x16852.To, .string ⟨⟨x16852.Put.b⟩⟩]) (he16856 _ (hS16818.zin0 (Zle.refl _))) rfl (by kernel_rfl)) ?_
  obtain ⟨Z16858, hZ16859, q16860, hS16861⟩ := (hS16818.front 0 rfl).freeze q16823
  replace hS16861 : St _ _ _ _ _ _ [] := hS16861
  obtain ⟨r16862, hx16863, ho16847⟩ := obind ho16847
  obtain ⟨v16864, h16865, hcl16866, hSc16867, rfl⟩ := correctorlaw4_has_ok F hS16861.inv q16860 hx16863
  have hS16868 := St.call (A := []) (B := []) hS16861 hSc16867
  replace hS16868 : St _ _ _ _ _ _ [] := hS16868
  refine r_step rfl rfl (o_call hcl16866 rfl rfl rfl) ?_
  rcases ifs ho16847 with ⟨hp16869, ho16847⟩ | ⟨hp16869, ho16847⟩
  refine r_setb (t := 35) rfl hp16869 ?_
  refine xe 3 [(38, .bool false), (6, v16824), (5, v16806)] ?_
  refine kF 38 rfl ?_
  obtain rfl := Option.some.inj ho16847
  exact ⟨_, r16794, r16812, v16806, v16824, rfl, (q16810.mono (hZ16821.trans hZ16859)), q16860, rfl, hS16868⟩
  refine r_setb (t := 35) rfl (Bool.eq_false_iff.2 hp16869) ?_
  refine xe 3 [(38, .bool true), (6, v16824), (5, v16806)] ?_
  refine cT 38 rfl ?_
  refine sr r3_9 ?_
  refine xe 1 [(4, .bool false)] ?_
  refine rt ?_
  refine ⟨rfl, ?_⟩
  obtain rfl := Option.some.inj ho16847
  obtain rfl := Option.some.inj hm
  refine ⟨_, _, _, ResL.tmp rfl (ResL.nil), hS16868, ?_⟩
  exact rfl
  refine r_step rfl trivial (o_cmp rfl rfl (c_gtr_F hp16849)) ?_
  refine xe 13 [(38, .bool false), (6, v16824), (5, v16806)] ?_
  refine kF 38 rfl ?_
  obtain ⟨Z16870, hZ16871, q16872, hS16873⟩ := (hS16818.front 0 rfl).freeze q16823
  replace hS16873 : St _ _ _ _ _ _ [] := hS16873
  obtain rfl := Option.some.inj ho16847
  exact ⟨_, r16794, r16812, v16806, v16824, rfl, (q16810.mono (hZ16821.trans hZ16871)), q16872, rfl, hS16873⟩
  refine r_setb (t := 13) rfl (Bool.eq_false_iff.2 hp16786) ?_
  refine xe 1 [(14, .bool true), (0, .int .i64 a0), (1, v15293)] ?_
  refine cT 14 rfl ?_
  refine sr r3_4 ?_
  refine xe 1 [(4, .bool true)] ?_
  refine rt ?_
  refine ⟨rfl, ?_⟩
  obtain rfl := Option.some.inj hm
  refine ⟨_, _, _, ResL.tmp rfl (ResL.nil), hS16785, ?_⟩
  exact rfl
  refine r_setb (t := 10) rfl (Bool.eq_false_iff.2 hp16762) ?_
  refine xe 1 [(11, .bool true), (0, .int .i64 a0), (1, v15293)] ?_
  refine cT 11 rfl ?_
  refine sr r3_2 ?_
  refine xe 1 [(4, .bool false)] ?_
  refine rt ?_
  refine ⟨rfl, ?_⟩
  obtain rfl := Option.some.inj hm
  refine ⟨_, _, _, ResL.tmp rfl (ResL.nil), hS16761, ?_⟩
  exact rfl

end Go.Proofs.Ytdajldmgdpggkaa.M
