/- Printed by a program of this session: Go functions as Lean functions over plain data, and that the calls come to them. -/
import Derived.Test.YtcnbcimnfeekjaaSyJ
import Derived.Test.YtcnbcimnfeekjaaChecked
import Derived.KernelRfl
import Derived.Test.YtcnbcimnfeekjaaMN0
namespace Go.Proofs.Ytcnbcimnfeekjaa.M
open Go Am Sy
open Sy.Cell (rc)
set_option linter.unusedVariables false
set_option linter.unusedSimpArgs false
set_option maxRecDepth 20000

def r3_0 : List COp := [u 4 (.assign (.const (.bool false)))]
def r3_1 : List COp := [u 11 (cf 9 #[] #[]), u 12 (.unOp .not 4 (t 11))]
def r3_2 : List COp := [u 4 (.assign (.const (.bool false)))]
def r3_3 : List COp := [u 13 (.move (t 1)), u 14 (cb .len #[(t 13)] #[23]), u 15 (.binOp .gtr 3 (t 14) (ci 200) 3)]
def r3_4 : List COp := [u 4 (.assign (.const (.bool true)))]
def r3_5 : List COp := [u 16 (.move (t 0)), u 17 (.move (t 1)), u 18 (cf 10 #[(t 16), (t 17)] #[22, 23]), u 19 (.move (t 1)), u 20 (.buildSlice 26 2 #[(0, (t 18)), (1, (t 19))]), u 5 (.assign (t 20))]
def r3_6 : List COp := [u 6 (.assign (ci 0))]
def r3_7 : List COp := [u 21 (.move (t 6)), u 22 (.binOp .lss 3 (t 21) (ci 2) 3)]
def r3_8 : List COp := [u 23 (.move (t 6)), u 24 (.binOp .add 3 (t 23) (ci 1) 3), u 6 (.assign (t 24))]
def r3_9 : List COp := [u 25 (.move (t 5)), u 26 (.move (t 6)), u 27 (.indexAddr 26 (t 25) (t 26)), u 28 (.load 23 (t 27)), u 29 (cf 11 #[(t 28)] #[23]), u 7 (.assign (t 29))]
def r3_10 : List COp := [u 30 (.move (t 5)), u 31 (.move (t 6)), u 32 (.indexAddr 26 (t 30) (t 31)), u 33 (.load 23 (t 32)), u 34 (.move (t 7)), u 35 (cf 12 #[(t 33), (t 34)] #[23, 27]), u 36 (.move (t 7)), u 37 (cf 13 #[(t 36)] #[27]), u 8 (.assign (t 35)), u 9 (.assign (t 37))]
def r3_11 : List COp := [u 38 (.move (t 8)), u 39 (cb .len #[(t 38)] #[29]), u 40 (.move (t 9)), u 41 (cb .len #[(t 40)] #[29]), u 42 (.binOp .neq 3 (t 39) (t 41) 3)]
def r3_12 : List COp := [u 4 (.assign (.const (.bool false)))]
def r3_13 : List COp := [u 10 (.assign (ci 0))]
def r3_14 : List COp := [u 43 (.move (t 10)), u 44 (.move (t 8)), u 45 (cb .len #[(t 44)] #[29]), u 46 (.binOp .lss 3 (t 43) (t 45) 3)]
def r3_15 : List COp := [u 47 (.move (t 10)), u 48 (.binOp .add 3 (t 47) (ci 1) 3), u 10 (.assign (t 48))]
def r3_16 : List COpF := [uF 49 (.move (t 8)) .pure [], uF 50 (.move (t 10)) .pure [], uF 51 (.indexAddr 29 (t 49) (t 50)) .pure [], uF 52 (.load 33 (t 51)) .look [], uF 53 (.move (t 9)) .pure [], uF 54 (.move (t 10)) .pure [], uF 55 (.indexAddr 29 (t 53) (t 54)) .pure [], uF 56 (.load 33 (t 55)) .look [], uF 57 (.binOp .neq 33 (t 52) (t 56) 33) .pure []]
def r3_17 : List COp := [u 4 (.assign (.const (.bool false)))]
def r3_18 : List COp := [u 4 (.assign (.const (.bool true)))]
def correctorlaw9_RowsAll_l1 (F : Nat) (a0 : List Int) (a1 : List UInt8) : Nat → (List (List UInt8)) → Int → (List api_Row) → (List api_Row) → Int → Option (Sum ((List (List UInt8)) × Int) Bool)
  | 0, _, _, _, _, _ => none
  | n + 1, x21303, x21307, x21308, x21312, x21316 =>
    if x21316 < (x21308.length : Int) then
      if 0 ≤ x21316 ∧ x21316 < (x21308.length : Int) then
        (x21308[x21316.toNat]?).bind fun x21355 =>
        if 0 ≤ x21316 ∧ x21316 < (x21312.length : Int) then
          (x21312[x21316.toNat]?).bind fun x21365 =>
          if x21355 = x21365 then
            correctorlaw9_RowsAll_l1 F a0 a1 n x21303 x21307 x21308 x21312 (w64 (x21316 + 1))
          else
            some (.inr false)
        else none
      else none
    else
      some (.inl (x21303, x21307))
def correctorlaw9_RowsAll_l0 (F : Nat) (a0 : List Int) (a1 : List UInt8) : Nat → (List (List UInt8)) → Int → Option (Sum Unit Bool)
  | 0, _, _ => none
  | n + 1, x21075, x21079 =>
    if x21079 < (2 : Int) then
      if 0 ≤ x21079 ∧ x21079 < (x21075.length : Int) then
        (x21075[x21079.toNat]?).bind fun x21087 =>
        (correctorref6_Tokens F x21087).bind fun r21095 =>
        if 0 ≤ x21079 ∧ x21079 < (x21075.length : Int) then
          (x21075[x21079.toNat]?).bind fun x21110 =>
          (rows_Rows F x21110 r21095).bind fun r21122 =>
          (correctorref9_Rows F r21095).bind fun r21136 =>
          if (r21122.length : Int) = (r21136.length : Int) then
            ((correctorlaw9_RowsAll_l1 F a0 a1 F x21075 x21079 r21122 r21136 0) : Option (Sum ((List (List UInt8)) × Int) Bool)).bind fun o => match o with
              | .inl (x21383, x21387) => correctorlaw9_RowsAll_l0 F a0 a1 n x21383 (w64 (x21387 + 1))
              | .inr y => some (.inr y)
          else
            some (.inr false)
        else none
      else none
    else
      some (.inl ())
def correctorlaw9_RowsAll (F : Nat) (a0 : List Int) (a1 : List UInt8) : Option Bool :=
  (correctorlaw9_known F).bind fun r20584 =>
  if r20584 = true then
    if (200 : Int) < (a1.length : Int) then
      some true
    else
      (correctorlaw6_Text F a0 a1).bind fun r20595 =>
      ((correctorlaw9_RowsAll_l0 F a0 a1 F ([r20595, a1] : List (List UInt8)) 0) : Option (Sum Unit Bool)).bind fun o => match o with
        | .inl () => some true
        | .inr y => some y
  else
    some false
theorem correctorlaw9_RowsAll_ok (F : Nat) {h : AH} {Z : Zn} {a0 : List Int} {a1 : List UInt8} {v20058 : Value} {v20060 : Value} (hI : Inv Z h) (q20057 : RS (α := Int) Z v20058 a0) (q20059 : RS (α := UInt8) Z v20060 a1) {r : Bool} (hm : correctorlaw9_RowsAll F a0 a1 = some r) :
    ∃ v h', callI Go.Proofs.Try.prog 3 [v20058, v20060] h = some (v, h') ∧ St h [] Z (0, 0) Z h' [] ∧ v = .bool r := by
  refine fn_plain (Q := fun v => v = .bool r) Go.Proofs.Try.func3 rfl rfl hI ?_
  intro hs hS
  unfold correctorlaw9_RowsAll at hm
  refine sr r3_0 ?_
  refine xe 1 [(0, v20058), (1, v20060)] ?_
  refine sq ?_
  refine sr r3_1 ?_
  obtain ⟨r20584, hx20585, hm⟩ := obind hm
  obtain ⟨v20586, h20587, hcl20588, hSc20589, rfl⟩ := correctorlaw9_known_ok F hS.inv  hx20585
  have hS20590 := St.call (A := []) (B := []) hS hSc20589
  replace hS20590 : St _ _ _ _ _ _ [] := hS20590
  refine r_step rfl trivial (o_call hcl20588 rfl rfl rfl) ?_
  rcases ifs hm with ⟨hp20591, hm⟩ | ⟨hp20591, hm⟩
  refine r_setb (t := 11) rfl hp20591 ?_
  refine xe 1 [(12, .bool false), (0, v20058), (1, v20060)] ?_
  refine kF 12 rfl ?_
  refine sq ?_
  refine sr r3_3 ?_
  refine xq 1 [(13, v20060), (0, v20058), (1, v20060)] ?_
  refine r_step rfl trivial (o_len rfl (RS.len q20059) ⟨_, Go.Proofs.Try.underlying23⟩) ?_
  rcases ifs hm with ⟨hp20594, hm⟩ | ⟨hp20594, hm⟩
  refine r_step rfl trivial (o_cmp rfl rfl (c_gtr_T hp20594)) ?_
  refine xf [(15, .bool true), (0, v20058), (1, v20060)] ?_
  refine cT 15 rfl ?_
  refine sr r3_4 ?_
  refine xe 1 [(4, .bool true)] ?_
  refine rt ?_
  refine ⟨rfl, ?_⟩
  obtain rfl := Option.some.inj hm
  refine ⟨_, _, _, ResL.tmp rfl (ResL.nil), hS20590, ?_⟩
  exact rfl
  refine r_step rfl trivial (o_cmp rfl rfl (c_gtr_F hp20594)) ?_
  refine xf [(15, .bool false), (0, v20058), (1, v20060)] ?_
  refine kF 15 rfl ?_
  refine sr r3_5 ?_
  refine xq 2 [(17, v20060), (16, v20058), (1, v20060)] ?_
  obtain ⟨r20595, hx20596, hm⟩ := obind hm
  have hSr20602 : St _ _ _ _ _ _ ([] ++ []) := hS20590
  obtain ⟨v20597, h20598, Z20603, A20605, hcl20599, hSc20600, v20607, rfl, rfl, q20606⟩ := correctorlaw6_Text_ok F hSr20602.preL q20057 q20059 hx20596
  have hS20601 := hSr20602.call hSc20600
  have hZ20604 := hSc20600.zle
  replace hS20601 : St _ _ _ _ _ _ [] := hS20601
  refine r_step rfl trivial (o_call hcl20599 rfl rfl rfl) ?_
  refine xq 1 [(19, v20060), (18, v20607)] ?_
  have q20611 : RCs (α := List UInt8) Z20603 [v20607, v20060] ([r20595, a1] : List (List UInt8)) := RCs.cons (cs := [v20607]) ⟨_, q20606, rfl⟩ (RCs.cons (cs := [v20060]) ⟨_, (q20059.mono hZ20604), rfl⟩ (RCs.nil0 _))
  refine r_row rfl trivial (o_bs1 (cells := [v20607, v20060]) (s := 1) rfl (CA.cons (cs := [v20607]) (RS.cell1 q20606) (CA.cons (cs := [v20060]) (RS.cell1 (q20059.mono hZ20604)) (CA.nil0))) (by kernel_rfl)) (by kernel_rfl) hS20601 ?_
  intro v20608 h20609 hS20610
  replace hS20610 : St _ _ _ _ _ _ [.gs v20608 [v20607, v20060] (csz (List UInt8))] := hS20610
  refine xe 1 [(5, v20608)] ?_
  refine sq ?_
  refine sr r3_6 ?_
  refine xe 1 [(6, V 0), (5, v20608)] ?_
  obtain ⟨o21073, ho21072, hm⟩ := obind hm
  refine W_join [] (fun l h => ∃ Z21395 : Zn, .inl () = o21073 ∧ l = [] ∧ St hs [] Z (0, 0) Z21395 h []) ?_ ?_
  rintro l h21396 ⟨Z21395, rfl, rfl, hS21397⟩
  try dsimp only at hm
  refine sr r3_18 ?_
  refine xe 1 [(4, .bool true)] ?_
  refine rt ?_
  refine ⟨rfl, ?_⟩
  obtain rfl := Option.some.inj hm
  refine ⟨_, _, _, ResL.tmp rfl (ResL.nil), hS21397, ?_⟩
  exact rfl
  refine bk 0 ?_
  refine lp [5, 6] (fun n l h => ∃ Z21074 : Zn, ∃ x21075 : List (List UInt8), ∃ x21079 : Int, ∃ v21077 : Value, ∃ c21078 : List Value, correctorlaw9_RowsAll_l0 F a0 a1 n x21075 x21079 = some o21073 ∧ RCs (α := List UInt8) Z21074 c21078 x21075 ∧ l = [(5, v21077), (6, V x21079)] ∧ St hs [] Z (0, 0) Z21074 h [.gs v21077 c21078 (csz (List UInt8))]) F ⟨_, ([r20595, a1] : List (List UInt8)), 0, v20608, [v20607, v20060], ho21072, q20611, rfl, hS20610⟩ ?_
  rintro n21082 l h21080 ⟨Z21074, x21075, x21079, v21077, c21078, ho21072, q21076, rfl, hS21081⟩
  rcases n21082 with _ | n21082
  cases (show none = some o21073 from ho21072)
  rw [correctorlaw9_RowsAll_l0] at ho21072
  refine sq ?_
  refine sr r3_7 ?_
  refine xq 1 [(21, V x21079), (5, v21077), (6, V x21079)] ?_
  rcases ifs ho21072 with ⟨hp21085, ho21072⟩ | ⟨hp21085, ho21072⟩
  refine r_step rfl trivial (o_cmp rfl rfl (c_lss_T hp21085)) ?_
  refine xf [(22, .bool true), (5, v21077), (6, V x21079)] ?_
  refine kT 22 rfl ?_
  refine sq ?_
  refine bk 1 ?_
  refine sr r3_9 ?_
  refine xq 2 [(26, V x21079), (25, v21077), (5, v21077), (6, V x21079)] ?_
  obtain ⟨hc21086, ho21072⟩ := chk ho21072
  refine r_step rfl trivial (o_index rfl rfl (by kernel_rfl : slTy _ _ = some (csz (List UInt8))) (hS21081.gbased (j := 0) rfl q21076 (by omega)) hc21086.1 hc21086.2) ?_
  obtain ⟨x21087, hx21088, ho21072⟩ := obind ho21072
  obtain ⟨cs21089, hc21090, he21091, ht21092⟩ := hS21081.gel (j := 0) rfl q21076 (i := x21079) hx21088
  obtain ⟨v21093, q21094, rfl⟩ := rc_List hc21090
  refine r_step rfl trivial (o_lde (w := v21093) he21091 rfl (by kernel_rfl)) ?_
  obtain ⟨r21095, hx21096, ho21072⟩ := obind ho21072
  have hSr21102 : St _ _ _ _ _ _ ([] ++ [.gs v21077 c21078 (csz (List UInt8))]) := hS21081
  obtain ⟨v21097, h21098, Z21103, A21105, hcl21099, hSc21100, v21107, c21108, rfl, rfl, q21106⟩ := correctorref6_Tokens_ok F hSr21102.preL q21094 hx21096
  have hS21101 := hSr21102.call hSc21100
  have hZ21104 := hSc21100.zle
  replace hS21101 : St _ _ _ _ _ _ [.gs v21107 c21108 (csz api_Token), .gs v21077 c21078 (csz (List UInt8))] := hS21101
  refine r_step rfl trivial (o_call hcl21099 rfl rfl rfl) ?_
  refine xe 1 [(7, v21107), (5, v21077), (6, V x21079)] ?_
  refine sr r3_10 ?_
  refine xq 2 [(31, V x21079), (30, v21077), (7, v21107), (5, v21077), (6, V x21079)] ?_
  obtain ⟨hc21109, ho21072⟩ := chk ho21072
  refine r_step rfl trivial (o_index rfl rfl (by kernel_rfl : slTy _ _ = some (csz (List UInt8))) (hS21101.gbased (j := 1) rfl (q21076.mono hZ21104) (by omega)) hc21109.1 hc21109.2) ?_
  obtain ⟨x21110, hx21111, ho21072⟩ := obind ho21072
  obtain ⟨cs21112, hc21113, he21114, ht21115⟩ := hS21101.gel (j := 1) rfl (q21076.mono hZ21104) (i := x21079) hx21111
  obtain ⟨v21116, q21117, rfl⟩ := rc_List hc21113
  refine r_step rfl trivial (o_lde (w := v21116) he21114 rfl (by kernel_rfl)) ?_
  refine xq 1 [(34, v21107), (33, v21116), (7, v21107), (5, v21077), (6, V x21079)] ?_
  obtain ⟨Z21118, hZ21119, q21120, hS21121⟩ := (hS21101.front 0 rfl).freeze q21106
  replace hS21121 : St _ _ _ _ _ _ [.gs v21077 c21078 (csz (List UInt8))] := hS21121
  obtain ⟨r21122, hx21123, ho21072⟩ := obind ho21072
  have hSr21129 : St _ _ _ _ _ _ ([] ++ [.gs v21077 c21078 (csz (List UInt8))]) := hS21121
  obtain ⟨v21124, h21125, Z21130, A21132, hcl21126, hSc21127, v21134, c21135, rfl, rfl, q21133⟩ := rows_Rows_ok F hSr21129.preL (q21117.mono hZ21119) q21120 hx21123
  have hS21128 := hSr21129.call hSc21127
  have hZ21131 := hSc21127.zle
  replace hS21128 : St _ _ _ _ _ _ [.gs v21134 c21135 (csz api_Row), .gs v21077 c21078 (csz (List UInt8))] := hS21128
  refine r_step rfl trivial (o_call hcl21126 rfl rfl rfl) ?_
  refine xq 1 [(36, v21107), (35, v21134), (5, v21077), (6, V x21079)] ?_
  obtain ⟨r21136, hx21137, ho21072⟩ := obind ho21072
  have hSr21143 : St _ _ _ _ _ _ ([] ++ [.gs v21134 c21135 (csz api_Row), .gs v21077 c21078 (csz (List UInt8))]) := hS21128
  obtain ⟨v21138, h21139, Z21144, A21146, hcl21140, hSc21141, v21148, c21149, rfl, rfl, q21147⟩ := correctorref9_Rows_ok F hSr21143.preL (q21120.mono hZ21131) hx21137
  have hS21142 := hSr21143.call hSc21141
  have hZ21145 := hSc21141.zle
  replace hS21142 : St _ _ _ _ _ _ [.gs v21148 c21149 (csz api_Row), .gs v21134 c21135 (csz api_Row), .gs v21077 c21078 (csz (List UInt8))] := hS21142
  refine r_step rfl trivial (o_call hcl21140 rfl rfl rfl) ?_
  refine xe 2 [(9, v21148), (8, v21134), (5, v21077), (6, V x21079)] ?_
  refine sq ?_
  refine sr r3_11 ?_
  refine xq 1 [(38, v21134), (9, v21148), (8, v21134), (5, v21077), (6, V x21079)] ?_
  refine r_step rfl trivial (o_len rfl (hS21142.glen (i := 1) rfl (q21133.mono hZ21145)) ⟨_, Go.Proofs.Try.underlying29⟩) ?_
  refine xq 1 [(40, v21148), (39, V (r21122.length : Int)), (9, v21148), (8, v21134), (5, v21077), (6, V x21079)] ?_
  refine r_step rfl trivial (o_len rfl (hS21142.glen (i := 0) rfl q21147) ⟨_, Go.Proofs.Try.underlying29⟩) ?_
  rcases ifs ho21072 with ⟨hp21152, ho21072⟩ | ⟨hp21152, ho21072⟩
  refine r_step rfl trivial (o_cmp rfl rfl (c_neq_F hp21152)) ?_
  refine xf [(42, .bool false), (9, v21148), (8, v21134), (5, v21077), (6, V x21079)] ?_
  refine kF 42 rfl ?_
  refine sr r3_13 ?_
  refine xe 1 [(10, V 0), (9, v21148), (8, v21134), (5, v21077), (6, V x21079)] ?_
  obtain ⟨o21301, ho21300, ho21072⟩ := obind ho21072
  refine W_join [5, 6] (fun l h => ∃ Z21382 : Zn, ∃ x21383 : List (List UInt8), ∃ x21387 : Int, ∃ v21385 : Value, ∃ c21386 : List Value, .inl (x21383, x21387) = o21301 ∧ RCs (α := List UInt8) Z21382 c21386 x21383 ∧ l = [(5, v21385), (6, V x21387)] ∧ St hs [] Z (0, 0) Z21382 h [.gs v21385 c21386 (csz (List UInt8))]) ?_ ?_
  rintro l h21388 ⟨Z21382, x21383, x21387, v21385, c21386, rfl, q21384, rfl, hS21389⟩
  try dsimp only at ho21072
  refine rg r3_8 ?_
  refine xe 3 [(6, V (w64 (x21387 + 1))), (5, v21385)] ?_
  exact ⟨n21082, Nat.lt_succ_self _, ⟨_, x21383, w64 (x21387 + 1), v21385, c21386, ho21072, q21384, rfl, hS21389⟩⟩
  refine bk 2 ?_
  refine lp [5, 6, 8, 9, 10] (fun n l h => ∃ Z21302 : Zn, ∃ x21303 : List (List UInt8), ∃ x21307 : Int, ∃ x21308 : List api_Row, ∃ x21312 : List api_Row, ∃ x21316 : Int, ∃ v21305 : Value, ∃ c21306 : List Value, ∃ v21310 : Value, ∃ c21311 : List Value, ∃ v21314 : Value, ∃ c21315 : List Value, correctorlaw9_RowsAll_l1 F a0 a1 n x21303 x21307 x21308 x21312 x21316 = some o21301 ∧ RCs (α := List UInt8) Z21302 c21306 x21303 ∧ RCs (α := api_Row) Z21302 c21311 x21308 ∧ RCs (α := api_Row) Z21302 c21315 x21312 ∧ l = [(5, v21305), (6, V x21307), (8, v21310), (9, v21314), (10, V x21316)] ∧ St hs [] Z (0, 0) Z21302 h [.gs v21305 c21306 (csz (List UInt8)), .gs v21310 c21311 (csz api_Row), .gs v21314 c21315 (csz api_Row)]) F ⟨_, x21075, x21079, r21122, r21136, 0, v21077, c21078, v21134, c21135, v21148, c21149, ho21300, (q21076.mono (hZ21104.trans (hZ21119.trans (hZ21131.trans hZ21145)))), (q21133.mono hZ21145), q21147, rfl, (((hS21142.front 0 rfl).front 1 rfl).front 2 rfl)⟩ ?_
  rintro n21319 l h21317 ⟨Z21302, x21303, x21307, x21308, x21312, x21316, v21305, c21306, v21310, c21311, v21314, c21315, ho21300, q21304, q21309, q21313, rfl, hS21318⟩
  rcases n21319 with _ | n21319
  cases (show none = some o21301 from ho21300)
  rw [correctorlaw9_RowsAll_l1] at ho21300
  refine sq ?_
  refine sr r3_14 ?_
  refine xq 2 [(44, v21310), (43, V x21316), (5, v21305), (6, V x21307), (8, v21310), (9, v21314), (10, V x21316)] ?_
  refine r_step rfl trivial (o_len rfl (hS21318.glen (i := 1) rfl q21309) ⟨_, Go.Proofs.Try.underlying29⟩) ?_
  rcases ifs ho21300 with ⟨hp21322, ho21300⟩ | ⟨hp21322, ho21300⟩
  refine r_step rfl trivial (o_cmp rfl rfl (c_lss_T hp21322)) ?_
  refine xf [(46, .bool true), (5, v21305), (6, V x21307), (8, v21310), (9, v21314), (10, V x21316)] ?_
  refine kT 46 rfl ?_
  refine sq ?_
  refine bk 3 ?_
  refine srF r3_16 hS21318 ?_
  intro bs21350 h21351 hlv21353 hS21352
  refine yq 2 [(50, V x21316), (49, v21310), (5, v21305), (6, V x21307), (8, v21310), (9, v21314), (10, V x21316)] ?_
  obtain ⟨hc21354, ho21300⟩ := chk ho21300
  refine e_val rfl trivial (o_index rfl rfl (by kernel_rfl : slTy _ _ = some (csz api_Row)) (hS21352.gbased (j := 1) rfl q21309 (by omega)) hc21354.1 hc21354.2) ?_
  obtain ⟨x21355, hx21356, ho21300⟩ := obind ho21300
  obtain ⟨cs21357, hc21358, he21359, ht21360⟩ := hS21352.gel (j := 1) rfl q21309 (i := x21316) hx21356
  obtain rfl := rc_api_Row hc21358
  have ps21361 := pos_of hx21356
  have hB21362 := hS21352.gbased (j := 1) rfl q21309 ps21361
  have lt21363 : (baseOf v21310).block < bs21350 := row_ltM (hlv21353.1 _ (List.mem_of_getElem? (i := 1) rfl)) hB21362
  refine e_lookB rfl trivial rfl (by show (baseOf v21310).block < _; omega) (same_agg (cs := [V x21355.Kind, V x21355.From, V x21355.To, V x21355.Col]) (.cons trivial (.cons trivial (.cons trivial (.cons trivial .nil))))) (o_lde (w := .agg #[V x21355.Kind, V x21355.From, V x21355.To, V x21355.Col]) he21359 rfl (by kernel_rfl)) trivial ?_
  refine yq 2 [(54, V x21316), (53, v21314), (52, .agg #[V x21355.Kind, V x21355.From, V x21355.To, V x21355.Col]), (5, v21305), (6, V x21307), (8, v21310), (9, v21314), (10, V x21316)] ?_
  obtain ⟨hc21364, ho21300⟩ := chk ho21300
  refine e_val rfl trivial (o_index rfl rfl (by kernel_rfl : slTy _ _ = some (csz api_Row)) (hS21352.gbased (j := 2) rfl q21313 (by omega)) hc21364.1 hc21364.2) ?_
  obtain ⟨x21365, hx21366, ho21300⟩ := obind ho21300
  obtain ⟨cs21367, hc21368, he21369, ht21370⟩ := hS21352.gel (j := 2) rfl q21313 (i := x21316) hx21366
  obtain rfl := rc_api_Row hc21368
  have ps21371 := pos_of hx21366
  have hB21372 := hS21352.gbased (j := 2) rfl q21313 ps21371
  have lt21373 : (baseOf v21314).block < bs21350 := row_ltM (hlv21353.1 _ (List.mem_of_getElem? (i := 2) rfl)) hB21372
  refine e_lookB rfl trivial rfl (by show (baseOf v21314).block < _; omega) (same_agg (cs := [V x21365.Kind, V x21365.From, V x21365.To, V x21365.Col]) (.cons trivial (.cons trivial (.cons trivial (.cons trivial .nil))))) (o_lde (w := .agg #[V x21365.Kind, V x21365.From, V x21365.To, V x21365.Col]) he21369 rfl (by kernel_rfl)) trivial ?_
  rcases ifs ho21300 with ⟨hp21374, ho21300⟩ | ⟨hp21374, ho21300⟩
  refine e_val rfl trivial (o_cmp rfl rfl (neF_api_Row_33 (x := x21355) (y := x21365) hp21374)) ?_
  refine yf [(57, .bool false), (5, v21305), (6, V x21307), (8, v21310), (9, v21314), (10, V x21316)] ?_
  have hS21375 := hS21352.unres
  refine kF 57 rfl ?_
  refine rg r3_15 ?_
  refine xe 3 [(10, V (w64 (x21316 + 1))), (5, v21305), (6, V x21307), (8, v21310), (9, v21314)] ?_
  exact ⟨n21319, Nat.lt_succ_self _, ⟨_, x21303, x21307, x21308, x21312, w64 (x21316 + 1), v21305, c21306, v21310, c21311, v21314, c21315, ho21300, q21304, q21309, q21313, rfl, hS21375⟩⟩
  refine e_val rfl trivial (o_cmp rfl rfl (neT_api_Row_33 (x := x21355) (y := x21365) hp21374)) ?_
  refine yf [(57, .bool true), (5, v21305), (6, V x21307), (8, v21310), (9, v21314), (10, V x21316)] ?_
  have hS21376 := hS21352.unres
  refine cT 57 rfl ?_
  refine sr r3_17 ?_
  refine xe 1 [(4, .bool false)] ?_
  refine rt ?_
  refine blkX_ret ?_
  refine blkX_ret ?_
  refine blkX_ret ?_
  refine blkX_ret ?_
  refine ⟨rfl, ?_⟩
  obtain rfl := Option.some.inj ho21300
  obtain rfl := Option.some.inj ho21072
  obtain rfl := Option.some.inj hm
  refine ⟨_, _, _, ResL.tmp rfl (ResL.nil), hS21376, ?_⟩
  exact rfl
  refine r_step rfl trivial (o_cmp rfl rfl (c_lss_F hp21322)) ?_
  refine xf [(46, .bool false), (5, v21305), (6, V x21307), (8, v21310), (9, v21314), (10, V x21316)] ?_
  refine cF 46 rfl ?_
  refine xt 2 ?_
  refine blkX_hit ?_
  obtain rfl := Option.some.inj ho21300
  exact ⟨_, x21303, x21307, v21305, c21306, rfl, q21304, rfl, (hS21318.takeN 1)⟩
  refine r_step rfl trivial (o_cmp rfl rfl (c_neq_T hp21152)) ?_
  refine xf [(42, .bool true), (9, v21148), (8, v21134), (5, v21077), (6, V x21079)] ?_
  refine cT 42 rfl ?_
  refine sr r3_12 ?_
  refine xe 1 [(4, .bool false)] ?_
  refine rt ?_
  refine blkX_ret ?_
  refine blkX_ret ?_
  refine ⟨rfl, ?_⟩
  obtain rfl := Option.some.inj ho21072
  obtain rfl := Option.some.inj hm
  refine ⟨_, _, _, ResL.tmp rfl (ResL.nil), hS21142, ?_⟩
  exact rfl
  refine r_step rfl trivial (o_cmp rfl rfl (c_lss_F hp21085)) ?_
  refine xf [(22, .bool false), (5, v21077), (6, V x21079)] ?_
  refine cF 22 rfl ?_
  refine xt 0 ?_
  refine blkX_hit ?_
  obtain rfl := Option.some.inj ho21072
  exact ⟨_, rfl, rfl, (hS21081.takeN 0)⟩
  refine r_setb (t := 11) rfl (Bool.eq_false_iff.2 hp20591) ?_
  refine xe 1 [(12, .bool true), (0, v20058), (1, v20060)] ?_
  refine cT 12 rfl ?_
  refine sr r3_2 ?_
  refine xe 1 [(4, .bool false)] ?_
  refine rt ?_
  refine ⟨rfl, ?_⟩
  obtain rfl := Option.some.inj hm
  refine ⟨_, _, _, ResL.tmp rfl (ResL.nil), hS20590, ?_⟩
  exact rfl

end Go.Proofs.Ytcnbcimnfeekjaa.M
