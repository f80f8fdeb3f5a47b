/- Printed by a program of this session: Go functions as Lean functions over plain data, and that the calls come to them. -/
import Derived.Test.YtahcngeimlkcgaaSyJ
import Derived.Test.YtahcngeimlkcgaaChecked
import Derived.KernelRfl
import Derived.Test.YtahcngeimlkcgaaMS0
namespace Go.Proofs.Ytahcngeimlkcgaa.M
open Go Am Sy
open Sy.Cell (rc)
set_option linter.unusedVariables false
set_option linter.unusedSimpArgs false
set_option maxRecDepth 20000

def r37_0 : List COp := [u 4 (.assign (.const (.bool false)))]
def r37_1 : List COp := [u 5 (.move (t 0)), u 6 (.move (t 1)), u 7 (cf 28 #[(t 5), (t 6)] #[50, 3]), u 8 (.binOp .eql 5 (t 7) (.const (.int .u8 58)) 5), u 9 (.move (t 8)), gT 9 (some 10) (.move (t 1)), gT 9 (some 11) (.move (t 0)), gT 9 (some 12) (.nilCheck (t 11)), gT 9 (some 13) (.fieldAddr 52 (t 12) 0), gT 9 (some 14) (.load 24 (t 13)), gT 9 (some 15) (cb .len #[(t 14)] #[24]), gT 9 (some 16) (.binOp .lss 3 (t 10) (t 15) 3), u 17 (.pick (t 9) (t 16) (.const (.bool false))), u 18 (.move (t 17)), gT 18 (some 19) (.move (t 0)), gT 18 (some 20) (.move (t 1)), gT 18 (some 21) (.binOp .add 3 (t 20) (ci 1) 3), gT 18 (some 22) (cf 29 #[(t 19), (t 21)] #[50, 3]), gT 18 (some 23) (.move (t 22)), gN 23 (some 24) (.move (t 0)), gN 23 (some 25) (.nilCheck (t 24)), gN 23 (some 26) (.fieldAddr 52 (t 25) 3), gN 23 (some 27) (.load 3 (t 26)), gN 23 (some 28) (.binOp .gtr 3 (t 27) (ci 0) 3), gN 23 (some 29) (.move (t 28)), gT 29 (some 30) (.move (t 0)), gT 29 (some 31) (.move (t 1)), gT 29 (some 32) (.binOp .add 3 (t 31) (ci 1) 3), gT 29 (some 33) (cf 28 #[(t 30), (t 32)] #[50, 3]), gT 29 (some 34) (cf 58 #[(t 33)] #[5]), gN 23 (some 35) (.pick (t 29) (t 34) (.const (.bool false))), gT 18 (some 36) (.pick (t 23) (.const (.bool true)) (t 35)), u 37 (.pick (t 18) (t 36) (.const (.bool false))), u 4 (.assign (t 37))]
def correctorref6_scanner_colon (F : Nat) (a0 : correctorref6_scanner) (a1 : Int) : Option Bool :=
  (correctorref6_scanner_byteAt F a0 a1).bind fun r6554 =>
  if (r6554.toNat : Int) = (58 : Int) then
    if a1 < (a0.B.length : Int) then
      (correctorref6_scanner_ended F a0 (w64 (a1 + 1))).bind fun r6567 =>
      if r6567 = true then
        some true
      else
        if (0 : Int) < a0.Open then
          (correctorref6_scanner_byteAt F a0 (w64 (a1 + 1))).bind fun r6580 =>
          (correctorref5_Flow F (r6580.toNat : Int)).bind fun r6591 =>
          some r6591
        else
          some false
    else
      some false
  else
    some false
theorem correctorref6_scanner_colon_ok (F : Nat) {h : AH} {Z : Zn} {a0 : correctorref6_scanner} {a1 : Int} {b6494 : Nat} {v6496 : Value} {v6498 : Value} {c6499 : List Value} (hP : Pre Z h [.blk b6494 (K52 v6496 v6498 a0), .gs v6498 c6499 (csz api_Token)]) (q6495 : RS (α := UInt8) Z v6496 a0.B) (q6497 : RCs (α := api_Token) Z c6499 a0.L) {r : Bool} (hm : correctorref6_scanner_colon F a0 a1 = some r) :
    ∃ v h' Z' A', callI Go.Proofs.Try.prog 37 [Pt b6494 0, V a1] h = some (v, h') ∧ St h (idsL [.blk b6494 (K52 v6496 v6498 a0), .gs v6498 c6499 (csz api_Token)]) Z (0, 0) Z' h' A' ∧ .bool r = v ∧ A' = [.blk b6494 (K52 v6496 v6498 a0), .gs v6498 c6499 (csz api_Token)] := by
  refine fn_intro (A := [.blk b6494 (K52 v6496 v6498 a0), .gs v6498 c6499 (csz api_Token)]) (Q := fun v Z' A' => .bool r = v ∧ A' = [.blk b6494 (K52 v6496 v6498 a0), .gs v6498 c6499 (csz api_Token)]) Go.Proofs.Try.func37 rfl rfl (by kernel_rfl) hP ?_
  intro hs hS
  unfold correctorref6_scanner_colon at hm
  refine sr r37_0 ?_
  refine xe 1 [(0, Pt b6494 0), (1, V a1)] ?_
  refine sr r37_1 ?_
  refine xq 2 [(6, V a1), (5, Pt b6494 0), (0, Pt b6494 0), (1, V a1)] ?_
  obtain ⟨r6554, hx6555, hm⟩ := obind hm
  have hF6561 : St _ _ _ _ _ _ ([.blk b6494 (K52 v6496 v6498 a0), .gs v6498 c6499 (csz api_Token)] ++ []) := ((hS.front 1 rfl).front 1 rfl)
  obtain ⟨v6556, h6557, Z6562, A6564, hcl6558, hSc6559, rfl, rfl⟩ := correctorref6_scanner_byteAt_ok F hF6561.preL q6495 q6497 hx6555
  have hZ6563 := hSc6559.zle
  have hS6560 := hF6561.call hSc6559
  replace hS6560 : St _ _ _ _ _ _ [.blk b6494 (K52 v6496 v6498 a0), .gs v6498 c6499 (csz api_Token)] := hS6560
  refine r_step rfl trivial (o_call hcl6558 rfl rfl rfl) ?_
  rcases ifs hm with ⟨hp6565, hm⟩ | ⟨hp6565, hm⟩
  refine r_step rfl trivial (o_cmp rfl rfl (c_eql_T hp6565)) ?_
  refine xq 5 [(13, Pt b6494 0), (10, V a1), (9, .bool true), (0, Pt b6494 0), (1, V a1)] ?_
  refine r_step rfl rfl (o_ldb (v := v6496) hS6560 (i := 0) rfl rfl (by kernel_rfl)) ?_
  refine r_step rfl rfl (o_len rfl (RS.len (q6495.mono hZ6563)) ⟨_, Go.Proofs.Try.underlying24⟩) ?_
  rcases ifs hm with ⟨hp6566, hm⟩ | ⟨hp6566, hm⟩
  refine r_step rfl rfl (o_cmp rfl rfl (c_lss_T hp6566)) ?_
  refine xq 5 [(21, V (w64 (a1 + 1))), (19, Pt b6494 0), (18, .bool true), (0, Pt b6494 0), (1, V a1)] ?_
  obtain ⟨r6567, hx6568, hm⟩ := obind hm
  have hF6574 : St _ _ _ _ _ _ ([.blk b6494 (K52 v6496 v6498 a0), .gs v6498 c6499 (csz api_Token)] ++ []) := ((hS6560.front 1 rfl).front 1 rfl)
  obtain ⟨v6569, h6570, Z6575, A6577, hcl6571, hSc6572, rfl, rfl⟩ := correctorref6_scanner_ended_ok F hF6574.preL (q6495.mono hZ6563) (q6497.mono hZ6563) hx6568
  have hZ6576 := hSc6572.zle
  have hS6573 := hF6574.call hSc6572
  replace hS6573 : St _ _ _ _ _ _ [.blk b6494 (K52 v6496 v6498 a0), .gs v6498 c6499 (csz api_Token)] := hS6573
  refine r_step rfl rfl (o_call hcl6571 rfl rfl rfl) ?_
  refine xq 1 [(23, .bool r6567), (18, .bool true), (0, Pt b6494 0), (1, V a1)] ?_
  rcases ifs hm with ⟨hp6578, hm⟩ | ⟨hp6578, hm⟩
  refine r_setb (t := 23) rfl hp6578 ?_
  refine xe 15 [(4, .bool true)] ?_
  refine rt ?_
  refine ⟨rfl, ?_⟩
  obtain rfl := Option.some.inj hm
  refine ⟨_, _, _, ResL.tmp rfl (ResL.nil), hS6573, ?_⟩
  exact ⟨rfl, rfl⟩
  refine r_setb (t := 23) rfl (Bool.eq_false_iff.2 hp6578) ?_
  refine xq 3 [(26, Pt b6494 3), (23, .bool false), (18, .bool true), (0, Pt b6494 0), (1, V a1)] ?_
  refine r_step rfl rfl (o_ldb (v := V a0.Open) hS6573 (i := 0) rfl rfl (by kernel_rfl)) ?_
  rcases ifs hm with ⟨hp6579, hm⟩ | ⟨hp6579, hm⟩
  refine r_step rfl rfl (o_cmp rfl rfl (c_gtr_T hp6579)) ?_
  refine xq 4 [(32, V (w64 (a1 + 1))), (30, Pt b6494 0), (29, .bool true), (23, .bool false), (18, .bool true)] ?_
  obtain ⟨r6580, hx6581, hm⟩ := obind hm
  have hF6587 : St _ _ _ _ _ _ ([.blk b6494 (K52 v6496 v6498 a0), .gs v6498 c6499 (csz api_Token)] ++ []) := ((hS6573.front 1 rfl).front 1 rfl)
  obtain ⟨v6582, h6583, Z6588, A6590, hcl6584, hSc6585, rfl, rfl⟩ := correctorref6_scanner_byteAt_ok F hF6587.preL (q6495.mono (hZ6563.trans hZ6576)) (q6497.mono (hZ6563.trans hZ6576)) hx6581
  have hZ6589 := hSc6585.zle
  have hS6586 := hF6587.call hSc6585
  replace hS6586 : St _ _ _ _ _ _ [.blk b6494 (K52 v6496 v6498 a0), .gs v6498 c6499 (csz api_Token)] := hS6586
  refine r_step rfl rfl (o_call hcl6584 rfl rfl rfl) ?_
  obtain ⟨r6591, hx6592, hm⟩ := obind hm
  obtain ⟨v6593, h6594, hcl6595, hSc6596, rfl⟩ := correctorref5_Flow_ok F hS6586.inv  hx6592
  have hS6597 := St.call (A := []) (B := [.blk b6494 (K52 v6496 v6498 a0), .gs v6498 c6499 (csz api_Token)]) hS6586 hSc6596
  replace hS6597 : St _ _ _ _ _ _ [.blk b6494 (K52 v6496 v6498 a0), .gs v6498 c6499 (csz api_Token)] := hS6597
  refine r_step rfl rfl (o_call hcl6595 rfl rfl rfl) ?_
  refine xe 4 [(4, .bool r6591)] ?_
  refine rt ?_
  refine ⟨rfl, ?_⟩
  obtain rfl := Option.some.inj hm
  refine ⟨_, _, _, ResL.tmp rfl (ResL.nil), hS6597, ?_⟩
  exact ⟨rfl, rfl⟩
  refine r_step rfl rfl (o_cmp rfl rfl (c_gtr_F hp6579)) ?_
  refine xe 10 [(4, .bool false)] ?_
  refine rt ?_
  refine ⟨rfl, ?_⟩
  obtain rfl := Option.some.inj hm
  refine ⟨_, _, _, ResL.tmp rfl (ResL.nil), hS6573, ?_⟩
  exact ⟨rfl, rfl⟩
  refine r_step rfl rfl (o_cmp rfl rfl (c_lss_F hp6566)) ?_
  refine xe 22 [(4, .bool false)] ?_
  refine rt ?_
  refine ⟨rfl, ?_⟩
  obtain rfl := Option.some.inj hm
  refine ⟨_, _, _, ResL.tmp rfl (ResL.nil), hS6560, ?_⟩
  exact ⟨rfl, rfl⟩
  refine r_step rfl trivial (o_cmp rfl rfl (c_eql_F hp6565)) ?_
  refine xe 30 [(4, .bool false)] ?_
  refine rt ?_
  refine ⟨rfl, ?_⟩
  obtain rfl := Option.some.inj hm
  refine ⟨_, _, _, ResL.tmp rfl (ResL.nil), hS6560, ?_⟩
  exact ⟨rfl, rfl⟩

def r38_0 : List COp := [u 6 (.assign (ci 0))]
def r38_1 : List COp := [u 7 (.move (t 1)), u 8 (.move (t 2)), u 9 (.binOp .lss 3 (t 7) (t 8) 3)]
def r38_2 : List COp := [u 10 (.move (t 0)), u 11 (.nilCheck (t 10)), u 12 (.fieldAddr 52 (t 11) 0), u 13 (.load 24 (t 12)), u 14 (.move (t 1)), u 15 (.indexAddr 24 (t 13) (t 14)), u 16 (.load 5 (t 15)), u 17 (.binOp .neq 5 (t 16) (.const (.int .u8 39)) 5)]
def r38_3 : List COp := [u 18 (.move (t 1)), u 19 (.binOp .add 3 (t 18) (ci 1) 3), u 1 (.assign (t 19))]
def r38_4 : List COp := [u 20 (.move (t 1)), u 21 (.binOp .add 3 (t 20) (ci 1) 3), u 22 (.move (t 2)), u 23 (.binOp .lss 3 (t 21) (t 22) 3), u 24 (.move (t 23)), gT 24 (some 25) (.move (t 0)), gT 24 (some 26) (.nilCheck (t 25)), gT 24 (some 27) (.fieldAddr 52 (t 26) 0), gT 24 (some 28) (.load 24 (t 27)), gT 24 (some 29) (.move (t 1)), gT 24 (some 30) (.binOp .add 3 (t 29) (ci 1) 3), gT 24 (some 31) (.indexAddr 24 (t 28) (t 30)), gT 24 (some 32) (.load 5 (t 31)), gT 24 (some 33) (.binOp .eql 5 (t 32) (.const (.int .u8 39)) 5), u 34 (.pick (t 24) (t 33) (.const (.bool false)))]
def r38_5 : List COp := [u 35 (.move (t 1)), u 36 (.binOp .add 3 (t 35) (ci 2) 3), u 1 (.assign (t 36))]
def r38_6 : List COp := [u 37 (.move (t 1)), u 38 (.binOp .add 3 (t 37) (ci 1) 3), u 6 (.assign (t 38))]
def r38_7 : List COp := [u 39 (.move (t 2)), u 6 (.assign (t 39))]
def correctorref6_scanner_single_l0 (F : Nat) (a0 : correctorref6_scanner) (a1 : Int) (a2 : Int) : Nat → Int → Option (Sum Unit Int)
  | 0, _ => none
  | n + 1, x7149 =>
    if x7149 < a2 then
      ((if 0 ≤ x7149 ∧ x7149 < (a0.B.length : Int) then
          (a0.B[x7149.toNat]?).bind fun x7211 =>
          if (x7211.toNat : Int) = (39 : Int) then
            ((if (w64 (x7149 + 1)) < a2 then
                if 0 ≤ (w64 (x7149 + 1)) ∧ (w64 (x7149 + 1)) < (a0.B.length : Int) then
                  (a0.B[(w64 (x7149 + 1)).toNat]?).bind fun x7231 =>
                  if (x7231.toNat : Int) = (39 : Int) then
                    some (.inr (w64 (x7149 + 2)))
                  else
                    some (.inl ())
                else none
              else
                some (.inl ())) : Option (Sum Unit Int)).bind fun o => match o with
              | .inl () => some (.inr (w64 (x7149 + 1)))
              | .inr y => some (.inl y)
          else
            some (.inl (w64 (x7149 + 1)))
        else none) : Option (Sum Int Int)).bind fun o => match o with
        | .inl x7243 => correctorref6_scanner_single_l0 F a0 a1 a2 n x7243
        | .inr y => some (.inr y)
    else
      some (.inl ())
def correctorref6_scanner_single (F : Nat) (a0 : correctorref6_scanner) (a1 : Int) (a2 : Int) : Option Int :=
  ((correctorref6_scanner_single_l0 F a0 a1 a2 F a1) : Option (Sum Unit Int)).bind fun o => match o with
    | .inl () => some a2
    | .inr y => some y
theorem correctorref6_scanner_single_ok (F : Nat) {h : AH} {Z : Zn} {a0 : correctorref6_scanner} {a1 : Int} {a2 : Int} {b6951 : Nat} {v6953 : Value} {v6955 : Value} {c6956 : List Value} (hP : Pre Z h [.blk b6951 (K52 v6953 v6955 a0), .gs v6955 c6956 (csz api_Token)]) (q6952 : RS (α := UInt8) Z v6953 a0.B) (q6954 : RCs (α := api_Token) Z c6956 a0.L) {r : Int} (hm : correctorref6_scanner_single F a0 a1 a2 = some r) :
    ∃ v h' Z' A', callI Go.Proofs.Try.prog 38 [Pt b6951 0, V a1, V a2] h = some (v, h') ∧ St h (idsL [.blk b6951 (K52 v6953 v6955 a0), .gs v6955 c6956 (csz api_Token)]) Z (0, 0) Z' h' A' ∧ V r = v ∧ A' = [.blk b6951 (K52 v6953 v6955 a0), .gs v6955 c6956 (csz api_Token)] := by
  refine fn_intro (A := [.blk b6951 (K52 v6953 v6955 a0), .gs v6955 c6956 (csz api_Token)]) (Q := fun v Z' A' => V r = v ∧ A' = [.blk b6951 (K52 v6953 v6955 a0), .gs v6955 c6956 (csz api_Token)]) Go.Proofs.Try.func38 rfl rfl (by kernel_rfl) hP ?_
  intro hs hS
  unfold correctorref6_scanner_single at hm
  refine sr r38_0 ?_
  refine xe 1 [(0, Pt b6951 0), (1, V a1), (2, V a2)] ?_
  refine sq ?_
  obtain ⟨o7147, ho7146, hm⟩ := obind hm
  refine W_join [2] (fun l h => ∃ Z7247 : Zn, .inl () = o7147 ∧ l = [(2, V a2)] ∧ St hs (idsL [.blk b6951 (K52 v6953 v6955 a0), .gs v6955 c6956 (csz api_Token)]) Z (0, 0) Z7247 h [.blk b6951 (K52 v6953 v6955 a0), .gs v6955 c6956 (csz api_Token)]) ?_ ?_
  rintro l h7248 ⟨Z7247, rfl, rfl, hS7249⟩
  try dsimp only at hm
  refine sr r38_7 ?_
  refine xe 2 [(6, V a2)] ?_
  refine rt ?_
  refine ⟨rfl, ?_⟩
  obtain rfl := Option.some.inj hm
  refine ⟨_, _, _, ResL.tmp rfl (ResL.nil), hS7249, ?_⟩
  exact ⟨rfl, rfl⟩
  refine bk 0 ?_
  refine lp [0, 1, 2] (fun n l h => ∃ Z7148 : Zn, ∃ x7149 : Int, correctorref6_scanner_single_l0 F a0 a1 a2 n x7149 = some o7147 ∧ l = [(0, Pt b6951 0), (1, V x7149), (2, V a2)] ∧ St hs (idsL [.blk b6951 (K52 v6953 v6955 a0), .gs v6955 c6956 (csz api_Token)]) Z (0, 0) Z7148 h [.blk b6951 (K52 v6953 v6955 a0), .gs v6955 c6956 (csz api_Token)]) F ⟨_, a1, ho7146, rfl, hS⟩ ?_
  rintro n7152 l h7150 ⟨Z7148, x7149, ho7146, rfl, hS7151⟩
  rcases n7152 with _ | n7152
  cases (show none = some o7147 from ho7146)
  rw [correctorref6_scanner_single_l0] at ho7146
  refine sq ?_
  refine sr r38_1 ?_
  refine xq 2 [(8, V a2), (7, V x7149), (0, Pt b6951 0), (1, V x7149), (2, V a2)] ?_
  rcases ifs ho7146 with ⟨hp7155, ho7146⟩ | ⟨hp7155, ho7146⟩
  refine r_step rfl trivial (o_cmp rfl rfl (c_lss_T hp7155)) ?_
  refine xf [(9, .bool true), (0, Pt b6951 0), (1, V x7149), (2, V a2)] ?_
  refine kT 9 rfl ?_
  obtain ⟨o7193, ho7192, ho7146⟩ := obind ho7146
  refine W_join [0, 1, 2] (fun l h => ∃ Z7242 : Zn, ∃ x7243 : Int, .inl x7243 = o7193 ∧ l = [(0, Pt b6951 0), (1, V x7243), (2, V a2)] ∧ St hs (idsL [.blk b6951 (K52 v6953 v6955 a0), .gs v6955 c6956 (csz api_Token)]) Z (0, 0) Z7242 h [.blk b6951 (K52 v6953 v6955 a0), .gs v6955 c6956 (csz api_Token)]) ?_ ?_
  rintro l h7244 ⟨Z7242, x7243, rfl, rfl, hS7245⟩
  try dsimp only at ho7146
  exact ⟨n7152, Nat.lt_succ_self _, ⟨_, x7243, ho7146, rfl, hS7245⟩⟩
  refine bk 1 ?_
  refine sq ?_
  refine sr r38_2 ?_
  refine xq 3 [(12, Pt b6951 0), (0, Pt b6951 0), (1, V x7149), (2, V a2)] ?_
  refine r_step rfl trivial (o_ldb (v := v6953) hS7151 (i := 0) rfl rfl (by kernel_rfl)) ?_
  refine xq 1 [(14, V x7149), (13, v6953), (0, Pt b6951 0), (1, V x7149), (2, V a2)] ?_
  obtain ⟨hc7210, ho7192⟩ := chk ho7192
  refine r_step rfl trivial (o_index rfl rfl (by kernel_rfl : slTy _ _ = some (csz UInt8)) (RS.based (q6952.mono hS7151.zle) (by omega)) hc7210.1 hc7210.2) ?_
  obtain ⟨x7211, hx7212, ho7192⟩ := obind ho7192
  obtain ⟨cs7213, hc7214, he7215⟩ := RS.elz (q6952.mono hS7151.zle) (i := x7149) hx7212
  obtain rfl := rc_UInt8 hc7214
  refine r_step rfl trivial (o_lde (w := .int .u8 (x7211.toNat : Int)) (he7215 _ (hS7151.zin0 (Zle.refl _))) rfl (by kernel_rfl)) ?_
  rcases ifs ho7192 with ⟨hp7217, ho7192⟩ | ⟨hp7217, ho7192⟩
  refine r_step rfl trivial (o_cmp rfl rfl (c_neq_F hp7217)) ?_
  refine xf [(17, .bool false), (0, Pt b6951 0), (1, V x7149), (2, V a2)] ?_
  refine kF 17 rfl ?_
  refine sq ?_
  obtain ⟨o7228, ho7227, ho7192⟩ := obind ho7192
  refine W_seqJoin0 [1] (fun l h => ∃ Z7238 : Zn, .inl () = o7228 ∧ l = [(1, V x7149)] ∧ St hs (idsL [.blk b6951 (K52 v6953 v6955 a0), .gs v6955 c6956 (csz api_Token)]) Z (0, 0) Z7238 h [.blk b6951 (K52 v6953 v6955 a0), .gs v6955 c6956 (csz api_Token)]) (by kernel_rfl) ?_ ?_
  rintro l h7239 ⟨Z7238, rfl, rfl, hS7240⟩
  try dsimp only at ho7192
  refine sr r38_6 ?_
  refine xe 3 [(6, V (w64 (x7149 + 1)))] ?_
  refine rt ?_
  refine blkX_ret ?_
  refine blkX_ret ?_
  refine ⟨rfl, ?_⟩
  obtain rfl := Option.some.inj ho7192
  obtain rfl := Option.some.inj ho7146
  obtain rfl := Option.some.inj hm
  refine ⟨_, _, _, ResL.tmp rfl (ResL.nil), hS7240, ?_⟩
  exact ⟨rfl, rfl⟩
  refine rg r38_4 ?_
  refine xq 3 [(22, V a2), (21, V (w64 (x7149 + 1))), (0, Pt b6951 0), (1, V x7149), (2, V a2)] ?_
  rcases ifs ho7227 with ⟨hp7229, ho7227⟩ | ⟨hp7229, ho7227⟩
  refine r_step rfl trivial (o_cmp rfl rfl (c_lss_T hp7229)) ?_
  refine xq 4 [(27, Pt b6951 0), (24, .bool true), (0, Pt b6951 0), (1, V x7149), (2, V a2)] ?_
  refine r_step rfl rfl (o_ldb (v := v6953) hS7151 (i := 0) rfl rfl (by kernel_rfl)) ?_
  refine xq 2 [(30, V (w64 (x7149 + 1))), (28, v6953), (24, .bool true), (0, Pt b6951 0), (1, V x7149), (2, V a2)] ?_
  obtain ⟨hc7230, ho7227⟩ := chk ho7227
  refine r_step rfl rfl (o_index rfl rfl (by kernel_rfl : slTy _ _ = some (csz UInt8)) (RS.based (q6952.mono hS7151.zle) (by omega)) hc7230.1 hc7230.2) ?_
  obtain ⟨x7231, hx7232, ho7227⟩ := obind ho7227
  obtain ⟨cs7233, hc7234, he7235⟩ := RS.elz (q6952.mono hS7151.zle) (i := w64 (x7149 + 1)) hx7232
  obtain rfl := rc_UInt8 hc7234
  refine r_step rfl rfl (o_lde (w := .int .u8 (x7231.toNat : Int)) (he7235 _ (hS7151.zin0 (Zle.refl _))) rfl (by kernel_rfl)) ?_
  rcases ifs ho7227 with ⟨hp7237, ho7227⟩ | ⟨hp7237, ho7227⟩
  refine r_step rfl rfl (o_cmp rfl rfl (c_eql_T hp7237)) ?_
  refine xe 1 [(34, .bool true), (0, Pt b6951 0), (1, V x7149), (2, V a2)] ?_
  refine cT 34 rfl ?_
  refine sr r38_5 ?_
  refine xe 3 [(1, V (w64 (x7149 + 2))), (0, Pt b6951 0), (2, V a2)] ?_
  refine xt 1 ?_
  refine blkX_hit ?_
  obtain rfl := Option.some.inj ho7227
  obtain rfl := Option.some.inj ho7192
  exact ⟨_, w64 (x7149 + 2), rfl, rfl, hS7151⟩
  refine r_step rfl rfl (o_cmp rfl rfl (c_eql_F hp7237)) ?_
  refine xe 1 [(34, .bool false), (0, Pt b6951 0), (1, V x7149), (2, V a2)] ?_
  refine kF 34 rfl ?_
  obtain rfl := Option.some.inj ho7227
  exact ⟨_, rfl, rfl, hS7151⟩
  refine r_step rfl trivial (o_cmp rfl rfl (c_lss_F hp7229)) ?_
  refine xe 11 [(34, .bool false), (0, Pt b6951 0), (1, V x7149), (2, V a2)] ?_
  refine kF 34 rfl ?_
  obtain rfl := Option.some.inj ho7227
  exact ⟨_, rfl, rfl, hS7151⟩
  refine r_step rfl trivial (o_cmp rfl rfl (c_neq_T hp7217)) ?_
  refine xf [(17, .bool true), (0, Pt b6951 0), (1, V x7149), (2, V a2)] ?_
  refine cT 17 rfl ?_
  refine sr r38_3 ?_
  refine xe 3 [(1, V (w64 (x7149 + 1))), (0, Pt b6951 0), (2, V a2)] ?_
  refine xt 1 ?_
  refine blkX_hit ?_
  obtain rfl := Option.some.inj ho7192
  exact ⟨_, w64 (x7149 + 1), rfl, rfl, hS7151⟩
  refine r_step rfl trivial (o_cmp rfl rfl (c_lss_F hp7155)) ?_
  refine xf [(9, .bool false), (0, Pt b6951 0), (1, V x7149), (2, V a2)] ?_
  refine cF 9 rfl ?_
  refine xt 0 ?_
  refine blkX_hit ?_
  obtain rfl := Option.some.inj ho7146
  exact ⟨_, rfl, rfl, hS7151⟩

def r39_0 : List COp := [u 6 (.assign (ci 0))]
def r39_1 : List COp := [u 7 (.move (t 1)), u 8 (.move (t 2)), u 9 (.binOp .lss 3 (t 7) (t 8) 3)]
def r39_2 : List COp := [u 10 (.move (t 0)), u 11 (.nilCheck (t 10)), u 12 (.fieldAddr 52 (t 11) 0), u 13 (.load 24 (t 12)), u 14 (.move (t 1)), u 15 (.indexAddr 24 (t 13) (t 14)), u 16 (.load 5 (t 15)), u 17 (.binOp .eql 5 (t 16) (.const (.int .u8 34)) 5)]
def r39_3 : List COp := [u 18 (.move (t 1)), u 19 (.binOp .add 3 (t 18) (ci 1) 3), u 6 (.assign (t 19))]
def r39_4 : List COp := [u 20 (.move (t 0)), u 21 (.nilCheck (t 20)), u 22 (.fieldAddr 52 (t 21) 0), u 23 (.load 24 (t 22)), u 24 (.move (t 1)), u 25 (.indexAddr 24 (t 23) (t 24)), u 26 (.load 5 (t 25)), u 27 (.binOp .eql 5 (t 26) (.const (.int .u8 92)) 5)]
def r39_5 : List COp := [u 28 (.move (t 1)), u 29 (.binOp .add 3 (t 28) (ci 1) 3), u 1 (.assign (t 29))]
def r39_6 : List COp := [u 30 (.move (t 1)), u 31 (.binOp .add 3 (t 30) (ci 1) 3), u 1 (.assign (t 31))]
def r39_7 : List COp := [u 32 (.move (t 2)), u 6 (.assign (t 32))]
def correctorref6_scanner_double_l0 (F : Nat) (a0 : correctorref6_scanner) (a1 : Int) (a2 : Int) : Nat → Int → Option (Sum Unit Int)
  | 0, _ => none
  | n + 1, x7472 =>
    if x7472 < a2 then
      if 0 ≤ x7472 ∧ x7472 < (a0.B.length : Int) then
        (a0.B[x7472.toNat]?).bind fun x7496 =>
        if (x7496.toNat : Int) = (34 : Int) then
          some (.inr (w64 (x7472 + 1)))
        else
          ((if 0 ≤ x7472 ∧ x7472 < (a0.B.length : Int) then
              (a0.B[x7472.toNat]?).bind fun x7514 =>
              if (x7514.toNat : Int) = (92 : Int) then
                some (w64 (x7472 + 1))
              else
                some x7472
            else none) : Option Int).bind fun o => match o with
            | x7522 => correctorref6_scanner_double_l0 F a0 a1 a2 n (w64 (x7522 + 1))
      else none
    else
      some (.inl ())
def correctorref6_scanner_double (F : Nat) (a0 : correctorref6_scanner) (a1 : Int) (a2 : Int) : Option Int :=
  ((correctorref6_scanner_double_l0 F a0 a1 a2 F a1) : Option (Sum Unit Int)).bind fun o => match o with
    | .inl () => some a2
    | .inr y => some y
theorem correctorref6_scanner_double_ok (F : Nat) {h : AH} {Z : Zn} {a0 : correctorref6_scanner} {a1 : Int} {a2 : Int} {b7290 : Nat} {v7292 : Value} {v7294 : Value} {c7295 : List Value} (hP : Pre Z h [.blk b7290 (K52 v7292 v7294 a0), .gs v7294 c7295 (csz api_Token)]) (q7291 : RS (α := UInt8) Z v7292 a0.B) (q7293 : RCs (α := api_Token) Z c7295 a0.L) {r : Int} (hm : correctorref6_scanner_double F a0 a1 a2 = some r) :
    ∃ v h' Z' A', callI Go.Proofs.Try.prog 39 [Pt b7290 0, V a1, V a2] h = some (v, h') ∧ St h (idsL [.blk b7290 (K52 v7292 v7294 a0), .gs v7294 c7295 (csz api_Token)]) Z (0, 0) Z' h' A' ∧ V r = v ∧ A' = [.blk b7290 (K52 v7292 v7294 a0), .gs v7294 c7295 (csz api_Token)] := by
  refine fn_intro (A := [.blk b7290 (K52 v7292 v7294 a0), .gs v7294 c7295 (csz api_Token)]) (Q := fun v Z' A' => V r = v ∧ A' = [.blk b7290 (K52 v7292 v7294 a0), .gs v7294 c7295 (csz api_Token)]) Go.Proofs.Try.func39 rfl rfl (by kernel_rfl) hP ?_
  intro hs hS
  unfold correctorref6_scanner_double at hm
  refine sr r39_0 ?_
  refine xe 1 [(0, Pt b7290 0), (1, V a1), (2, V a2)] ?_
  refine sq ?_
  obtain ⟨o7470, ho7469, hm⟩ := obind hm
  refine W_join [2] (fun l h => ∃ Z7526 : Zn, .inl () = o7470 ∧ l = [(2, V a2)] ∧ St hs (idsL [.blk b7290 (K52 v7292 v7294 a0), .gs v7294 c7295 (csz api_Token)]) Z (0, 0) Z7526 h [.blk b7290 (K52 v7292 v7294 a0), .gs v7294 c7295 (csz api_Token)]) ?_ ?_
  rintro l h7527 ⟨Z7526, rfl, rfl, hS7528⟩
  try dsimp only at hm
  refine sr r39_7 ?_
  refine xe 2 [(6, V a2)] ?_
  refine rt ?_
  refine ⟨rfl, ?_⟩
  obtain rfl := Option.some.inj hm
  refine ⟨_, _, _, ResL.tmp rfl (ResL.nil), hS7528, ?_⟩
  exact ⟨rfl, rfl⟩
  refine bk 0 ?_
  refine lp [0, 1, 2] (fun n l h => ∃ Z7471 : Zn, ∃ x7472 : Int, correctorref6_scanner_double_l0 F a0 a1 a2 n x7472 = some o7470 ∧ l = [(0, Pt b7290 0), (1, V x7472), (2, V a2)] ∧ St hs (idsL [.blk b7290 (K52 v7292 v7294 a0), .gs v7294 c7295 (csz api_Token)]) Z (0, 0) Z7471 h [.blk b7290 (K52 v7292 v7294 a0), .gs v7294 c7295 (csz api_Token)]) F ⟨_, a1, ho7469, rfl, hS⟩ ?_
  rintro n7475 l h7473 ⟨Z7471, x7472, ho7469, rfl, hS7474⟩
  rcases n7475 with _ | n7475
  cases (show none = some o7470 from ho7469)
  rw [correctorref6_scanner_double_l0] at ho7469
  refine sq ?_
  refine sr r39_1 ?_
  refine xq 2 [(8, V a2), (7, V x7472), (0, Pt b7290 0), (1, V x7472), (2, V a2)] ?_
  rcases ifs ho7469 with ⟨hp7478, ho7469⟩ | ⟨hp7478, ho7469⟩
  refine r_step rfl trivial (o_cmp rfl rfl (c_lss_T hp7478)) ?_
  refine xf [(9, .bool true), (0, Pt b7290 0), (1, V x7472), (2, V a2)] ?_
  refine kT 9 rfl ?_
  refine bk 1 ?_
  refine sq ?_
  refine sr r39_2 ?_
  refine xq 3 [(12, Pt b7290 0), (0, Pt b7290 0), (1, V x7472), (2, V a2)] ?_
  refine r_step rfl trivial (o_ldb (v := v7292) hS7474 (i := 0) rfl rfl (by kernel_rfl)) ?_
  refine xq 1 [(14, V x7472), (13, v7292), (0, Pt b7290 0), (1, V x7472), (2, V a2)] ?_
  obtain ⟨hc7495, ho7469⟩ := chk ho7469
  refine r_step rfl trivial (o_index rfl rfl (by kernel_rfl : slTy _ _ = some (csz UInt8)) (RS.based (q7291.mono hS7474.zle) (by omega)) hc7495.1 hc7495.2) ?_
  obtain ⟨x7496, hx7497, ho7469⟩ := obind ho7469
  obtain ⟨cs7498, hc7499, he7500⟩ := RS.elz (q7291.mono hS7474.zle) (i := x7472) hx7497
  obtain rfl := rc_UInt8 hc7499
  refine r_step rfl trivial (o_lde (w := .int .u8 (x7496.toNat : Int)) (he7500 _ (hS7474.zin0 (Zle.refl _))) rfl (by kernel_rfl)) ?_
  rcases ifs ho7469 with ⟨hp7502, ho7469⟩ | ⟨hp7502, ho7469⟩
  refine r_step rfl trivial (o_cmp rfl rfl (c_eql_T hp7502)) ?_
  refine xf [(17, .bool true), (0, Pt b7290 0), (1, V x7472), (2, V a2)] ?_
  refine cT 17 rfl ?_
  refine sr r39_3 ?_
  refine xe 3 [(6, V (w64 (x7472 + 1)))] ?_
  refine rt ?_
  refine blkX_ret ?_
  refine blkX_ret ?_
  refine ⟨rfl, ?_⟩
  obtain rfl := Option.some.inj ho7469
  obtain rfl := Option.some.inj hm
  refine ⟨_, _, _, ResL.tmp rfl (ResL.nil), hS7474, ?_⟩
  exact ⟨rfl, rfl⟩
  refine r_step rfl trivial (o_cmp rfl rfl (c_eql_F hp7502)) ?_
  refine xf [(17, .bool false), (0, Pt b7290 0), (1, V x7472), (2, V a2)] ?_
  refine kF 17 rfl ?_
  refine sq ?_
  obtain ⟨o7512, ho7511, ho7469⟩ := obind ho7469
  refine W_seqJoin0 [0, 1, 2] (fun l h => ∃ Z7521 : Zn, ∃ x7522 : Int, x7522 = o7512 ∧ l = [(0, Pt b7290 0), (1, V x7522), (2, V a2)] ∧ St hs (idsL [.blk b7290 (K52 v7292 v7294 a0), .gs v7294 c7295 (csz api_Token)]) Z (0, 0) Z7521 h [.blk b7290 (K52 v7292 v7294 a0), .gs v7294 c7295 (csz api_Token)]) (by kernel_rfl) ?_ ?_
  rintro l h7523 ⟨Z7521, x7522, rfl, rfl, hS7524⟩
  try dsimp only at ho7469
  refine rg r39_6 ?_
  refine xe 3 [(1, V (w64 (x7522 + 1))), (0, Pt b7290 0), (2, V a2)] ?_
  exact ⟨n7475, Nat.lt_succ_self _, ⟨_, w64 (x7522 + 1), ho7469, rfl, hS7524⟩⟩
  refine rg r39_4 ?_
  refine xq 3 [(22, Pt b7290 0), (0, Pt b7290 0), (1, V x7472), (2, V a2)] ?_
  refine r_step rfl trivial (o_ldb (v := v7292) hS7474 (i := 0) rfl rfl (by kernel_rfl)) ?_
  refine xq 1 [(24, V x7472), (23, v7292), (0, Pt b7290 0), (1, V x7472), (2, V a2)] ?_
  obtain ⟨hc7513, ho7511⟩ := chk ho7511
  refine r_step rfl trivial (o_index rfl rfl (by kernel_rfl : slTy _ _ = some (csz UInt8)) (RS.based (q7291.mono hS7474.zle) (by omega)) hc7513.1 hc7513.2) ?_
  obtain ⟨x7514, hx7515, ho7511⟩ := obind ho7511
  obtain ⟨cs7516, hc7517, he7518⟩ := RS.elz (q7291.mono hS7474.zle) (i := x7472) hx7515
  obtain rfl := rc_UInt8 hc7517
  refine r_step rfl trivial (o_lde (w := .int .u8 (x7514.toNat : Int)) (he7518 _ (hS7474.zin0 (Zle.refl _))) rfl (by kernel_rfl)) ?_
  rcases ifs ho7511 with ⟨hp7520, ho7511⟩ | ⟨hp7520, ho7511⟩
  refine r_step rfl trivial (o_cmp rfl rfl (c_eql_T hp7520)) ?_
  refine xf [(27, .bool true), (0, Pt b7290 0), (1, V x7472), (2, V a2)] ?_
  refine cT 27 rfl ?_
  refine rg r39_5 ?_
  refine xe 3 [(1, V (w64 (x7472 + 1))), (0, Pt b7290 0), (2, V a2)] ?_
  obtain rfl := Option.some.inj ho7511
  exact ⟨_, w64 (x7472 + 1), rfl, rfl, hS7474⟩
  refine r_step rfl trivial (o_cmp rfl rfl (c_eql_F hp7520)) ?_
  refine xf [(27, .bool false), (0, Pt b7290 0), (1, V x7472), (2, V a2)] ?_
  refine kF 27 rfl ?_
  obtain rfl := Option.some.inj ho7511
  exact ⟨_, x7472, rfl, rfl, hS7474⟩
  refine r_step rfl trivial (o_cmp rfl rfl (c_lss_F hp7478)) ?_
  refine xf [(9, .bool false), (0, Pt b7290 0), (1, V x7472), (2, V a2)] ?_
  refine cF 9 rfl ?_
  refine xt 0 ?_
  refine blkX_hit ?_
  obtain rfl := Option.some.inj ho7469
  exact ⟨_, rfl, rfl, hS7474⟩

def r40_0 : List COp := [u 2 (.assign (ci 0))]
def r40_1 : List COpF := [uF 6 (.move (t 0)) .pure [], uF 7 (.nilCheck (t 6)) .pure [], uF 8 (.fieldAddr 52 (t 7) 0) .pure [], uF 9 (.load 24 (t 8)) .look [], uF 10 (.move (t 0)) .pure [], uF 11 (.nilCheck (t 10)) .pure [], uF 12 (.fieldAddr 52 (t 11) 1) .pure [], uF 13 (.load 3 (t 12)) .look [], uF 14 (.indexAddr 24 (t 9) (t 13)) .pure [], uF 15 (.load 5 (t 14)) .look [], uF 3 (.assign (t 15)) .pure []]
def r40_2 : List COp := [u 16 (.move (t 3)), u 17 (.binOp .neq 5 (t 16) (.const (.int .u8 124)) 5), u 18 (.move (t 17)), gT 18 (some 19) (.move (t 3)), gT 18 (some 20) (.binOp .neq 5 (t 19) (.const (.int .u8 62)) 5), u 21 (.pick (t 18) (t 20) (.const (.bool false))), u 22 (.move (t 21)), gN 22 (some 23) (.move (t 0)), gN 22 (some 24) (.nilCheck (t 23)), gN 22 (some 25) (.fieldAddr 52 (t 24) 3), gN 22 (some 26) (.load 3 (t 25)), gN 22 (some 27) (.binOp .gtr 3 (t 26) (ci 0) 3), u 28 (.pick (t 22) (.const (.bool true)) (t 27))]
def r40_3 : List COp := [u 2 (.assign (ci 0))]
def r40_4 : List COp := [u 29 (.move (t 0)), u 30 (.nilCheck (t 29)), u 31 (.fieldAddr 52 (t 30) 1), u 32 (.load 3 (t 31)), u 33 (.binOp .add 3 (t 32) (ci 1) 3), u 4 (.assign (t 33))]
def r40_5 : List COp := [u 34 (.move (t 0)), u 35 (.move (t 4)), u 36 (cf 28 #[(t 34), (t 35)] #[50, 3]), u 37 (.binOp .eql 5 (t 36) (.const (.int .u8 43)) 5), u 38 (.move (t 37)), gN 38 (some 39) (.move (t 0)), gN 38 (some 40) (.move (t 4)), gN 38 (some 41) (cf 28 #[(t 39), (t 40)] #[50, 3]), gN 38 (some 42) (.binOp .eql 5 (t 41) (.const (.int .u8 45)) 5), u 43 (.pick (t 38) (.const (.bool true)) (t 42))]
def r40_6 : List COp := [u 44 (.move (t 4)), u 45 (.binOp .add 3 (t 44) (ci 1) 3), u 4 (.assign (t 45))]
def r40_7 : List COp := [u 46 (.move (t 4)), u 5 (.assign (t 46))]
def r40_8 : List COp := [u 47 (.move (t 5)), u 48 (.move (t 0)), u 49 (.nilCheck (t 48)), u 50 (.fieldAddr 52 (t 49) 0), u 51 (.load 24 (t 50)), u 52 (cb .len #[(t 51)] #[24]), u 53 (.binOp .lss 3 (t 47) (t 52) 3), u 54 (.move (t 53)), gT 54 (some 55) (.move (t 0)), gT 54 (some 56) (.nilCheck (t 55)), gT 54 (some 57) (.fieldAddr 52 (t 56) 0), gT 54 (some 58) (.load 24 (t 57)), gT 54 (some 59) (.move (t 5)), gT 54 (some 60) (.indexAddr 24 (t 58) (t 59)), gT 54 (some 61) (.load 5 (t 60)), gT 54 (some 62) (cf 33 #[(t 61)] #[5]), u 63 (.pick (t 54) (t 62) (.const (.bool false)))]
def r40_9 : List COp := [u 64 (.move (t 5)), u 65 (.binOp .add 3 (t 64) (ci 1) 3), u 5 (.assign (t 65))]
def r40_10 : List COp := [u 66 (.move (t 5)), u 67 (.move (t 0)), u 68 (.nilCheck (t 67)), u 69 (.fieldAddr 52 (t 68) 0), u 70 (.load 24 (t 69)), u 71 (cb .len #[(t 70)] #[24]), u 72 (.binOp .lss 3 (t 66) (t 71) 3), u 73 (.move (t 72)), gT 73 (some 74) (.move (t 0)), gT 73 (some 75) (.nilCheck (t 74)), gT 73 (some 76) (.fieldAddr 52 (t 75) 0), gT 73 (some 77) (.load 24 (t 76)), gT 73 (some 78) (.move (t 5)), gT 73 (some 79) (cf 31 #[(t 77), (t 78)] #[24, 3]), gT 73 (some 80) (.binOp .eql 3 (t 79) (ci 0) 3), u 81 (.pick (t 73) (t 80) (.const (.bool false))), u 82 (.move (t 81)), gT 82 (some 83) (.move (t 0)), gT 82 (some 84) (.nilCheck (t 83)), gT 82 (some 85) (.fieldAddr 52 (t 84) 0), gT 82 (some 86) (.load 24 (t 85)), gT 82 (some 87) (.move (t 5)), gT 82 (some 88) (.indexAddr 24 (t 86) (t 87)), gT 82 (some 89) (.load 5 (t 88)), gT 82 (some 90) (.binOp .eql 5 (t 89) (.const (.int .u8 35)) 5), gT 82 (some 91) (.move (t 90)), gT 91 (some 92) (.move (t 5)), gT 91 (some 93) (.move (t 4)), gT 91 (some 94) (.binOp .gtr 3 (t 92) (t 93) 3), gT 82 (some 95) (.pick (t 91) (t 94) (.const (.bool false))), gT 82 (some 96) (.unOp .not 4 (t 95)), u 97 (.pick (t 82) (t 96) (.const (.bool false)))]
def r40_11 : List COp := [u 2 (.assign (ci 0))]
def r40_12 : List COp := [u 98 (.move (t 4)), u 99 (.move (t 0)), u 100 (.nilCheck (t 99)), u 101 (.fieldAddr 52 (t 100) 1), u 102 (.load 3 (t 101)), u 103 (.binOp .sub 3 (t 98) (t 102) 3), u 2 (.assign (t 103))]
def correctorref6_scanner_head_l0 (F : Nat) (a0 : correctorref6_scanner) : Nat → Int → Int → Option (Int × Int)
  | 0, _, _ => none
  | n + 1, x7840, x7841 =>
    if x7841 < (a0.B.length : Int) then
      if 0 ≤ x7841 ∧ x7841 < (a0.B.length : Int) then
        (a0.B[x7841.toNat]?).bind fun x7879 =>
        (correctorref5_Blank F (x7879.toNat : Int)).bind fun r7885 =>
        if r7885 = true then
          correctorref6_scanner_head_l0 F a0 n x7840 (w64 (x7841 + 1))
        else
          some (x7840, x7841)
      else none
    else
      some (x7840, x7841)
def correctorref6_scanner_head (F : Nat) (a0 : correctorref6_scanner) : Option Int :=
  if 0 ≤ a0.At ∧ a0.At < (a0.B.length : Int) then
    (a0.B[a0.At.toNat]?).bind fun x7709 =>
    ((if (x7709.toNat : Int) = (124 : Int) then
        if (0 : Int) < a0.Open then
          some (.inr 0)
        else
          some (.inl ())
      else
        if (x7709.toNat : Int) = (62 : Int) then
          if (0 : Int) < a0.Open then
            some (.inr 0)
          else
            some (.inl ())
        else
          some (.inr 0)) : Option (Sum Unit Int)).bind fun o => match o with
      | .inl () => (((correctorref6_scanner_byteAt F a0 (w64 (a0.At + 1))).bind fun r7755 =>
        if (r7755.toNat : Int) = (43 : Int) then
          some (w64 ((w64 (a0.At + 1)) + 1))
        else
          (correctorref6_scanner_byteAt F a0 (w64 (a0.At + 1))).bind fun r7767 =>
          if (r7767.toNat : Int) = (45 : Int) then
            some (w64 ((w64 (a0.At + 1)) + 1))
          else
            some (w64 (a0.At + 1))) : Option Int).bind fun o => match o with
        | x7780 => ((correctorref6_scanner_head_l0 F a0 F x7780 x7780) : Option (Int × Int)).bind fun o => match o with
          | (x7897, x7898) => ((if x7898 < (a0.B.length : Int) then
              (correctorref2_Break F a0.B x7898).bind fun r7922 =>
              if r7922 = (0 : Int) then
                if 0 ≤ x7898 ∧ x7898 < (a0.B.length : Int) then
                  (a0.B[x7898.toNat]?).bind fun x7931 =>
                  if (x7931.toNat : Int) = (35 : Int) then
                    if x7897 < x7898 then
                      some (.inl ())
                    else
                      some (.inr 0)
                  else
                    some (.inr 0)
                else none
              else
                some (.inl ())
            else
              some (.inl ())) : Option (Sum Unit Int)).bind fun o => match o with
            | .inl () => some (w64 (x7897 - a0.At))
            | .inr y => some y
      | .inr y => some y
  else none
theorem correctorref6_scanner_head_ok (F : Nat) {h : AH} {Z : Zn} {a0 : correctorref6_scanner} {b7567 : Nat} {v7569 : Value} {v7571 : Value} {c7572 : List Value} (hP : Pre Z h [.blk b7567 (K52 v7569 v7571 a0), .gs v7571 c7572 (csz api_Token)]) (q7568 : RS (α := UInt8) Z v7569 a0.B) (q7570 : RCs (α := api_Token) Z c7572 a0.L) {r : Int} (hm : correctorref6_scanner_head F a0 = some r) :
    ∃ v h' Z' A', callI Go.Proofs.Try.prog 40 [Pt b7567 0] h = some (v, h') ∧ St h (idsL [.blk b7567 (K52 v7569 v7571 a0), .gs v7571 c7572 (csz api_Token)]) Z (0, 0) Z' h' A' ∧ V r = v ∧ A' = [.blk b7567 (K52 v7569 v7571 a0), .gs v7571 c7572 (csz api_Token)] := by
  refine fn_intro (A := [.blk b7567 (K52 v7569 v7571 a0), .gs v7571 c7572 (csz api_Token)]) (Q := fun v Z' A' => V r = v ∧ A' = [.blk b7567 (K52 v7569 v7571 a0), .gs v7571 c7572 (csz api_Token)]) Go.Proofs.Try.func40 rfl rfl (by kernel_rfl) hP ?_
  intro hs hS
  unfold correctorref6_scanner_head at hm
  refine sr r40_0 ?_
  refine xe 1 [(0, Pt b7567 0)] ?_
  refine srF r40_1 hS ?_
  intro bs7702 h7703 hlv7705 hS7704
  refine yq 3 [(8, Pt b7567 0), (0, Pt b7567 0)] ?_
  have lt7706 : b7567 < bs7702 := hlv7705.1 _ (List.mem_of_getElem? (i := 0) rfl) _ (by simp [Itm.ids])
  refine e_lookB rfl trivial rfl (by show b7567 < _; omega) (same1 (v := v7569) (RS.sim1 q7568)) (o_ldb (v := v7569) hS7704 (i := 0) rfl rfl (by kernel_rfl)) trivial ?_
  refine yq 3 [(12, Pt b7567 1), (9, v7569), (0, Pt b7567 0)] ?_
  have lt7707 : b7567 < bs7702 := hlv7705.1 _ (List.mem_of_getElem? (i := 0) rfl) _ (by simp [Itm.ids])
  refine e_lookB rfl trivial rfl (by show b7567 < _; omega) (same1 (v := V a0.At) trivial) (o_ldb (v := V a0.At) hS7704 (i := 0) rfl rfl (by kernel_rfl)) trivial ?_
  obtain ⟨hc7708, hm⟩ := chk hm
  refine e_val rfl trivial (o_index rfl rfl (by kernel_rfl : slTy _ _ = some (csz UInt8)) (RS.based q7568 (by omega)) hc7708.1 hc7708.2) ?_
  obtain ⟨x7709, hx7710, hm⟩ := obind hm
  obtain ⟨cs7711, hc7712, he7713⟩ := RS.elz q7568 (i := a0.At) hx7710
  obtain rfl := rc_UInt8 hc7712
  refine e_lookZ rfl rfl trivial (fun h2 hz => o_lde (w := .int .u8 (x7709.toNat : Int)) (he7713 h2 hz) rfl (by kernel_rfl)) (hS7704.zin0 (Zle.refl _)) (same1 (v := .int .u8 (x7709.toNat : Int)) trivial) trivial ?_
  refine ye 1 [(3, .int .u8 (x7709.toNat : Int)), (0, Pt b7567 0)] ?_
  have hS7715 := hS7704.unres
  refine sq ?_
  obtain ⟨o7721, ho7720, hm⟩ := obind hm
  refine W_join [0] (fun l h => ∃ Z7726 : Zn, .inl () = o7721 ∧ l = [(0, Pt b7567 0)] ∧ St hs (idsL [.blk b7567 (K52 v7569 v7571 a0), .gs v7571 c7572 (csz api_Token)]) Z (0, 0) Z7726 h [.blk b7567 (K52 v7569 v7571 a0), .gs v7571 c7572 (csz api_Token)]) ?_ ?_
  rintro l h7727 ⟨Z7726, rfl, rfl, hS7728⟩
  try dsimp only at hm
  refine sr r40_4 ?_
  refine xq 3 [(31, Pt b7567 1), (0, Pt b7567 0)] ?_
  refine r_step rfl trivial (o_ldb (v := V a0.At) hS7728 (i := 0) rfl rfl (by kernel_rfl)) ?_
  refine xe 2 [(4, V (w64 (a0.At + 1))), (0, Pt b7567 0)] ?_
  refine sq ?_
  obtain ⟨o7754, ho7753, hm⟩ := obind hm
  refine W_join [0, 4] (fun l h => ∃ Z7779 : Zn, ∃ x7780 : Int, x7780 = o7754 ∧ l = [(0, Pt b7567 0), (4, V x7780)] ∧ St hs (idsL [.blk b7567 (K52 v7569 v7571 a0), .gs v7571 c7572 (csz api_Token)]) Z (0, 0) Z7779 h [.blk b7567 (K52 v7569 v7571 a0), .gs v7571 c7572 (csz api_Token)]) ?_ ?_
  rintro l h7781 ⟨Z7779, x7780, rfl, rfl, hS7782⟩
  try dsimp only at hm
  refine sr r40_7 ?_
  refine xe 2 [(5, V x7780), (0, Pt b7567 0), (4, V x7780)] ?_
  refine sq ?_
  obtain ⟨o7838, ho7837, hm⟩ := obind hm
  refine W_join [0, 4, 5] (fun l h => ∃ Z7896 : Zn, ∃ x7897 : Int, ∃ x7898 : Int, (x7897, x7898) = o7838 ∧ l = [(0, Pt b7567 0), (4, V x7897), (5, V x7898)] ∧ St hs (idsL [.blk b7567 (K52 v7569 v7571 a0), .gs v7571 c7572 (csz api_Token)]) Z (0, 0) Z7896 h [.blk b7567 (K52 v7569 v7571 a0), .gs v7571 c7572 (csz api_Token)]) ?_ ?_
  rintro l h7899 ⟨Z7896, x7897, x7898, rfl, rfl, hS7900⟩
  try dsimp only at hm
  refine sq ?_
  obtain ⟨o7920, ho7919, hm⟩ := obind hm
  refine W_seqJoin0 [0, 4] (fun l h => ∃ Z7939 : Zn, .inl () = o7920 ∧ l = [(0, Pt b7567 0), (4, V x7897)] ∧ St hs (idsL [.blk b7567 (K52 v7569 v7571 a0), .gs v7571 c7572 (csz api_Token)]) Z (0, 0) Z7939 h [.blk b7567 (K52 v7569 v7571 a0), .gs v7571 c7572 (csz api_Token)]) (by kernel_rfl) ?_ ?_
  rintro l h7940 ⟨Z7939, rfl, rfl, hS7941⟩
  try dsimp only at hm
  refine sr r40_12 ?_
  refine xq 4 [(101, Pt b7567 1), (98, V x7897)] ?_
  refine r_step rfl trivial (o_ldb (v := V a0.At) hS7941 (i := 0) rfl rfl (by kernel_rfl)) ?_
  refine xe 2 [(2, V (w64 (x7897 - a0.At)))] ?_
  refine rt ?_
  refine ⟨rfl, ?_⟩
  obtain rfl := Option.some.inj hm
  refine ⟨_, _, _, ResL.tmp rfl (ResL.nil), hS7941, ?_⟩
  exact ⟨rfl, rfl⟩
  refine rg r40_10 ?_
  refine xq 4 [(69, Pt b7567 0), (66, V x7898), (0, Pt b7567 0), (4, V x7897), (5, V x7898)] ?_
  refine r_step rfl trivial (o_ldb (v := v7569) hS7900 (i := 0) rfl rfl (by kernel_rfl)) ?_
  refine r_step rfl trivial (o_len rfl (RS.len (q7568.mono hS7900.zle)) ⟨_, Go.Proofs.Try.underlying24⟩) ?_
  rcases ifs ho7919 with ⟨hp7921, ho7919⟩ | ⟨hp7921, ho7919⟩
  refine r_step rfl trivial (o_cmp rfl rfl (c_lss_T hp7921)) ?_
  refine xq 4 [(76, Pt b7567 0), (73, .bool true), (0, Pt b7567 0), (4, V x7897), (5, V x7898)] ?_
  refine r_step rfl rfl (o_ldb (v := v7569) hS7900 (i := 0) rfl rfl (by kernel_rfl)) ?_
  refine xq 1 [(78, V x7898), (77, v7569), (73, .bool true), (0, Pt b7567 0), (4, V x7897), (5, V x7898)] ?_
  obtain ⟨r7922, hx7923, ho7919⟩ := obind ho7919
  obtain ⟨v7924, h7925, hcl7926, hSc7927, rfl⟩ := correctorref2_Break_ok F hS7900.inv (q7568.mono hS7900.zle) hx7923
  have hS7928 := St.call (A := []) (B := [.blk b7567 (K52 v7569 v7571 a0), .gs v7571 c7572 (csz api_Token)]) hS7900 hSc7927
  replace hS7928 : St _ _ _ _ _ _ [.blk b7567 (K52 v7569 v7571 a0), .gs v7571 c7572 (csz api_Token)] := hS7928
  refine r_step rfl rfl (o_call hcl7926 rfl rfl rfl) ?_
  rcases ifs ho7919 with ⟨hp7929, ho7919⟩ | ⟨hp7929, ho7919⟩
  refine r_step rfl rfl (o_cmp rfl rfl (c_eql_T hp7929)) ?_
  refine xq 5 [(85, Pt b7567 0), (82, .bool true), (0, Pt b7567 0), (4, V x7897), (5, V x7898)] ?_
  refine r_step rfl rfl (o_ldb (v := v7569) hS7928 (i := 0) rfl rfl (by kernel_rfl)) ?_
  refine xq 1 [(87, V x7898), (86, v7569), (82, .bool true), (0, Pt b7567 0), (4, V x7897), (5, V x7898)] ?_
  obtain ⟨hc7930, ho7919⟩ := chk ho7919
  refine r_step rfl rfl (o_index rfl rfl (by kernel_rfl : slTy _ _ = some (csz UInt8)) (RS.based (q7568.mono hS7900.zle) (by omega)) hc7930.1 hc7930.2) ?_
  obtain ⟨x7931, hx7932, ho7919⟩ := obind ho7919
  obtain ⟨cs7933, hc7934, he7935⟩ := RS.elz (q7568.mono hS7900.zle) (i := x7898) hx7932
  obtain rfl := rc_UInt8 hc7934
  refine r_step rfl rfl (o_lde (w := .int .u8 (x7931.toNat : Int)) (he7935 _ (hS7928.zin0 (Zle.refl _))) rfl (by kernel_rfl)) ?_
  rcases ifs ho7919 with ⟨hp7937, ho7919⟩ | ⟨hp7937, ho7919⟩
  refine r_step rfl rfl (o_cmp rfl rfl (c_eql_T hp7937)) ?_
  refine xq 3 [(93, V x7897), (92, V x7898), (91, .bool true), (82, .bool true), (0, Pt b7567 0), (4, V x7897)] ?_
  rcases ifs ho7919 with ⟨hp7938, ho7919⟩ | ⟨hp7938, ho7919⟩
  refine r_step rfl rfl (o_cmp rfl rfl (c_gtr_T hp7938)) ?_
  refine xe 3 [(97, .bool false), (0, Pt b7567 0), (4, V x7897)] ?_
  refine kF 97 rfl ?_
  obtain rfl := Option.some.inj ho7919
  exact ⟨_, rfl, rfl, hS7928⟩
  refine r_step rfl rfl (o_cmp rfl rfl (c_gtr_F hp7938)) ?_
  refine xe 3 [(97, .bool true), (0, Pt b7567 0), (4, V x7897)] ?_
  refine cT 97 rfl ?_
  refine sr r40_11 ?_
  refine xe 1 [(2, V 0)] ?_
  refine rt ?_
  refine ⟨rfl, ?_⟩
  obtain rfl := Option.some.inj ho7919
  obtain rfl := Option.some.inj hm
  refine ⟨_, _, _, ResL.tmp rfl (ResL.nil), hS7928, ?_⟩
  exact ⟨rfl, rfl⟩
  refine r_step rfl rfl (o_cmp rfl rfl (c_eql_F hp7937)) ?_
  refine xe 7 [(97, .bool true), (0, Pt b7567 0), (4, V x7897)] ?_
  refine cT 97 rfl ?_
  refine sr r40_11 ?_
  refine xe 1 [(2, V 0)] ?_
  refine rt ?_
  refine ⟨rfl, ?_⟩
  obtain rfl := Option.some.inj ho7919
  obtain rfl := Option.some.inj hm
  refine ⟨_, _, _, ResL.tmp rfl (ResL.nil), hS7928, ?_⟩
  exact ⟨rfl, rfl⟩
  refine r_step rfl rfl (o_cmp rfl rfl (c_eql_F hp7929)) ?_
  refine xe 17 [(97, .bool false), (0, Pt b7567 0), (4, V x7897)] ?_
  refine kF 97 rfl ?_
  obtain rfl := Option.some.inj ho7919
  exact ⟨_, rfl, rfl, hS7928⟩
  refine r_step rfl trivial (o_cmp rfl rfl (c_lss_F hp7921)) ?_
  refine xe 25 [(97, .bool false), (0, Pt b7567 0), (4, V x7897)] ?_
  refine kF 97 rfl ?_
  obtain rfl := Option.some.inj ho7919
  exact ⟨_, rfl, rfl, hS7900⟩
  refine bk 0 ?_
  refine lp [0, 4, 5] (fun n l h => ∃ Z7839 : Zn, ∃ x7840 : Int, ∃ x7841 : Int, correctorref6_scanner_head_l0 F a0 n x7840 x7841 = some o7838 ∧ l = [(0, Pt b7567 0), (4, V x7840), (5, V x7841)] ∧ St hs (idsL [.blk b7567 (K52 v7569 v7571 a0), .gs v7571 c7572 (csz api_Token)]) Z (0, 0) Z7839 h [.blk b7567 (K52 v7569 v7571 a0), .gs v7571 c7572 (csz api_Token)]) F ⟨_, x7780, x7780, ho7837, rfl, hS7782⟩ ?_
  rintro n7844 l h7842 ⟨Z7839, x7840, x7841, ho7837, rfl, hS7843⟩
  rcases n7844 with _ | n7844
  cases (show none = some o7838 from ho7837)
  rw [correctorref6_scanner_head_l0] at ho7837
  refine sq ?_
  refine sr r40_8 ?_
  refine xq 4 [(50, Pt b7567 0), (47, V x7841), (0, Pt b7567 0), (4, V x7840), (5, V x7841)] ?_
  refine r_step rfl trivial (o_ldb (v := v7569) hS7843 (i := 0) rfl rfl (by kernel_rfl)) ?_
  refine r_step rfl trivial (o_len rfl (RS.len (q7568.mono hS7843.zle)) ⟨_, Go.Proofs.Try.underlying24⟩) ?_
  rcases ifs ho7837 with ⟨hp7877, ho7837⟩ | ⟨hp7877, ho7837⟩
  refine r_step rfl trivial (o_cmp rfl rfl (c_lss_T hp7877)) ?_
  refine xq 4 [(57, Pt b7567 0), (54, .bool true), (0, Pt b7567 0), (4, V x7840), (5, V x7841)] ?_
  refine r_step rfl rfl (o_ldb (v := v7569) hS7843 (i := 0) rfl rfl (by kernel_rfl)) ?_
  refine xq 1 [(59, V x7841), (58, v7569), (54, .bool true), (0, Pt b7567 0), (4, V x7840), (5, V x7841)] ?_
  obtain ⟨hc7878, ho7837⟩ := chk ho7837
  refine r_step rfl rfl (o_index rfl rfl (by kernel_rfl : slTy _ _ = some (csz UInt8)) (RS.based (q7568.mono hS7843.zle) (by omega)) hc7878.1 hc7878.2) ?_
  obtain ⟨x7879, hx7880, ho7837⟩ := obind ho7837
  obtain ⟨cs7881, hc7882, he7883⟩ := RS.elz (q7568.mono hS7843.zle) (i := x7841) hx7880
  obtain rfl := rc_UInt8 hc7882
  refine r_step rfl rfl (o_lde (w := .int .u8 (x7879.toNat : Int)) (he7883 _ (hS7843.zin0 (Zle.refl _))) rfl (by kernel_rfl)) ?_
  obtain ⟨r7885, hx7886, ho7837⟩ := obind ho7837
  obtain ⟨v7887, h7888, hcl7889, hSc7890, rfl⟩ := correctorref5_Blank_ok F hS7843.inv  hx7886
  have hS7891 := St.call (A := []) (B := [.blk b7567 (K52 v7569 v7571 a0), .gs v7571 c7572 (csz api_Token)]) hS7843 hSc7890
  replace hS7891 : St _ _ _ _ _ _ [.blk b7567 (K52 v7569 v7571 a0), .gs v7571 c7572 (csz api_Token)] := hS7891
  refine r_step rfl rfl (o_call hcl7889 rfl rfl rfl) ?_
  refine xe 1 [(63, .bool r7885), (0, Pt b7567 0), (4, V x7840), (5, V x7841)] ?_
  rcases ifs ho7837 with ⟨hp7893, ho7837⟩ | ⟨hp7893, ho7837⟩
  refine W_condT (x := .tmp 63) (by kernel_rfl) rfl hp7893 ?_
  refine sk ?_
  refine bk 1 ?_
  refine rg r40_9 ?_
  refine xe 3 [(5, V (w64 (x7841 + 1))), (0, Pt b7567 0), (4, V x7840)] ?_
  exact ⟨n7844, Nat.lt_succ_self _, ⟨_, x7840, w64 (x7841 + 1), ho7837, rfl, hS7891⟩⟩
  refine W_condF (x := .tmp 63) (by kernel_rfl) rfl (Bool.eq_false_iff.2 hp7893) ?_
  refine xt 0 ?_
  refine blkX_hit ?_
  obtain rfl := Option.some.inj ho7837
  exact ⟨_, x7840, x7841, rfl, rfl, hS7891⟩
  refine r_step rfl trivial (o_cmp rfl rfl (c_lss_F hp7877)) ?_
  refine xe 10 [(63, .bool false), (0, Pt b7567 0), (4, V x7840), (5, V x7841)] ?_
  refine cF 63 rfl ?_
  refine xt 0 ?_
  refine blkX_hit ?_
  obtain rfl := Option.some.inj ho7837
  exact ⟨_, x7840, x7841, rfl, rfl, hS7843⟩
  refine sr r40_5 ?_
  refine xq 2 [(35, V (w64 (a0.At + 1))), (34, Pt b7567 0), (4, V (w64 (a0.At + 1))), (0, Pt b7567 0)] ?_
  obtain ⟨r7755, hx7756, ho7753⟩ := obind ho7753
  have hF7762 : St _ _ _ _ _ _ ([.blk b7567 (K52 v7569 v7571 a0), .gs v7571 c7572 (csz api_Token)] ++ []) := ((hS7728.front 1 rfl).front 1 rfl)
  obtain ⟨v7757, h7758, Z7763, A7765, hcl7759, hSc7760, rfl, rfl⟩ := correctorref6_scanner_byteAt_ok F hF7762.preL (q7568.mono hS7728.zle) (q7570.mono hS7728.zle) hx7756
  have hZ7764 := hSc7760.zle
  have hS7761 := hF7762.call hSc7760
  replace hS7761 : St _ _ _ _ _ _ [.blk b7567 (K52 v7569 v7571 a0), .gs v7571 c7572 (csz api_Token)] := hS7761
  refine r_step rfl trivial (o_call hcl7759 rfl rfl rfl) ?_
  rcases ifs ho7753 with ⟨hp7766, ho7753⟩ | ⟨hp7766, ho7753⟩
  refine r_step rfl trivial (o_cmp rfl rfl (c_eql_T hp7766)) ?_
  refine xe 6 [(43, .bool true), (4, V (w64 (a0.At + 1))), (0, Pt b7567 0)] ?_
  refine cT 43 rfl ?_
  refine rg r40_6 ?_
  refine xe 3 [(4, V (w64 ((w64 (a0.At + 1)) + 1))), (0, Pt b7567 0)] ?_
  obtain rfl := Option.some.inj ho7753
  exact ⟨_, w64 ((w64 (a0.At + 1)) + 1), rfl, rfl, hS7761⟩
  refine r_step rfl trivial (o_cmp rfl rfl (c_eql_F hp7766)) ?_
  refine xq 3 [(40, V (w64 (a0.At + 1))), (39, Pt b7567 0), (38, .bool false), (4, V (w64 (a0.At + 1))), (0, Pt b7567 0)] ?_
  obtain ⟨r7767, hx7768, ho7753⟩ := obind ho7753
  have hF7774 : St _ _ _ _ _ _ ([.blk b7567 (K52 v7569 v7571 a0), .gs v7571 c7572 (csz api_Token)] ++ []) := ((hS7761.front 1 rfl).front 1 rfl)
  obtain ⟨v7769, h7770, Z7775, A7777, hcl7771, hSc7772, rfl, rfl⟩ := correctorref6_scanner_byteAt_ok F hF7774.preL (q7568.mono (hS7728.zle.trans hZ7764)) (q7570.mono (hS7728.zle.trans hZ7764)) hx7768
  have hZ7776 := hSc7772.zle
  have hS7773 := hF7774.call hSc7772
  replace hS7773 : St _ _ _ _ _ _ [.blk b7567 (K52 v7569 v7571 a0), .gs v7571 c7572 (csz api_Token)] := hS7773
  refine r_step rfl rfl (o_call hcl7771 rfl rfl rfl) ?_
  rcases ifs ho7753 with ⟨hp7778, ho7753⟩ | ⟨hp7778, ho7753⟩
  refine r_step rfl rfl (o_cmp rfl rfl (c_eql_T hp7778)) ?_
  refine xe 1 [(43, .bool true), (4, V (w64 (a0.At + 1))), (0, Pt b7567 0)] ?_
  refine cT 43 rfl ?_
  refine rg r40_6 ?_
  refine xe 3 [(4, V (w64 ((w64 (a0.At + 1)) + 1))), (0, Pt b7567 0)] ?_
  obtain rfl := Option.some.inj ho7753
  exact ⟨_, w64 ((w64 (a0.At + 1)) + 1), rfl, rfl, hS7773⟩
  refine r_step rfl rfl (o_cmp rfl rfl (c_eql_F hp7778)) ?_
  refine xe 1 [(43, .bool false), (4, V (w64 (a0.At + 1))), (0, Pt b7567 0)] ?_
  refine kF 43 rfl ?_
  obtain rfl := Option.some.inj ho7753
  exact ⟨_, w64 (a0.At + 1), rfl, rfl, hS7773⟩
  refine sr r40_2 ?_
  refine xq 1 [(16, .int .u8 (x7709.toNat : Int)), (3, .int .u8 (x7709.toNat : Int)), (0, Pt b7567 0)] ?_
  rcases ifs ho7720 with ⟨hp7722, ho7720⟩ | ⟨hp7722, ho7720⟩
  refine r_step rfl trivial (o_cmp rfl rfl (c_neq_F hp7722)) ?_
  refine xq 8 [(25, Pt b7567 3), (22, .bool false), (0, Pt b7567 0)] ?_
  refine r_step rfl rfl (o_ldb (v := V a0.Open) hS7715 (i := 0) rfl rfl (by kernel_rfl)) ?_
  rcases ifs ho7720 with ⟨hp7723, ho7720⟩ | ⟨hp7723, ho7720⟩
  refine r_step rfl rfl (o_cmp rfl rfl (c_gtr_T hp7723)) ?_
  refine xe 1 [(28, .bool true), (0, Pt b7567 0)] ?_
  refine cT 28 rfl ?_
  refine sr r40_3 ?_
  refine xe 1 [(2, V 0)] ?_
  refine rt ?_
  refine ⟨rfl, ?_⟩
  obtain rfl := Option.some.inj ho7720
  obtain rfl := Option.some.inj hm
  refine ⟨_, _, _, ResL.tmp rfl (ResL.nil), hS7715, ?_⟩
  exact ⟨rfl, rfl⟩
  refine r_step rfl rfl (o_cmp rfl rfl (c_gtr_F hp7723)) ?_
  refine xe 1 [(28, .bool false), (0, Pt b7567 0)] ?_
  refine kF 28 rfl ?_
  obtain rfl := Option.some.inj ho7720
  exact ⟨_, rfl, rfl, hS7715⟩
  refine r_step rfl trivial (o_cmp rfl rfl (c_neq_T hp7722)) ?_
  refine xq 2 [(19, .int .u8 (x7709.toNat : Int)), (18, .bool true), (0, Pt b7567 0)] ?_
  rcases ifs ho7720 with ⟨hp7724, ho7720⟩ | ⟨hp7724, ho7720⟩
  refine r_step rfl rfl (o_cmp rfl rfl (c_neq_F hp7724)) ?_
  refine xq 5 [(25, Pt b7567 3), (22, .bool false), (0, Pt b7567 0)] ?_
  refine r_step rfl rfl (o_ldb (v := V a0.Open) hS7715 (i := 0) rfl rfl (by kernel_rfl)) ?_
  rcases ifs ho7720 with ⟨hp7725, ho7720⟩ | ⟨hp7725, ho7720⟩
  refine r_step rfl rfl (o_cmp rfl rfl (c_gtr_T hp7725)) ?_
  refine xe 1 [(28, .bool true), (0, Pt b7567 0)] ?_
  refine cT 28 rfl ?_
  refine sr r40_3 ?_
  refine xe 1 [(2, V 0)] ?_
  refine rt ?_
  refine ⟨rfl, ?_⟩
  obtain rfl := Option.some.inj ho7720
  obtain rfl := Option.some.inj hm
  refine ⟨_, _, _, ResL.tmp rfl (ResL.nil), hS7715, ?_⟩
  exact ⟨rfl, rfl⟩
  refine r_step rfl rfl (o_cmp rfl rfl (c_gtr_F hp7725)) ?_
  refine xe 1 [(28, .bool false), (0, Pt b7567 0)] ?_
  refine kF 28 rfl ?_
  obtain rfl := Option.some.inj ho7720
  exact ⟨_, rfl, rfl, hS7715⟩
  refine r_step rfl rfl (o_cmp rfl rfl (c_neq_T hp7724)) ?_
  refine xe 8 [(28, .bool true), (0, Pt b7567 0)] ?_
  refine cT 28 rfl ?_
  refine sr r40_3 ?_
  refine xe 1 [(2, V 0)] ?_
  refine rt ?_
  refine ⟨rfl, ?_⟩
  obtain rfl := Option.some.inj ho7720
  obtain rfl := Option.some.inj hm
  refine ⟨_, _, _, ResL.tmp rfl (ResL.nil), hS7715, ?_⟩
  exact ⟨rfl, rfl⟩

def r41_0 : List COp := [u 2 (.assign (ci 0))]
def r41_1 : List COpF := [uF 9 (.move (t 0)) .pure [], uF 10 (.nilCheck (t 9)) .pure [], uF 11 (.fieldAddr 52 (t 10) 0) .pure [], uF 12 (.load 24 (t 11)) .look [], uF 13 (.move (t 0)) .pure [], uF 14 (.nilCheck (t 13)) .pure [], uF 15 (.fieldAddr 52 (t 14) 1) .pure [], uF 16 (.load 3 (t 15)) .look [], uF 17 (.slice 24 (t 12) (some (t 16)) none none) .pure [], uF 18 (cf 35 #[(t 17)] #[24]) .make [3, 7], uF 8 (.move (t 18)) .pure [], uF 19 (.extract (t 8) 0) .pure [], uF 20 (.extract (t 8) 1) .pure [], uF 3 (.assign (t 19)) .pure [], uF 4 (.assign (t 20)) .pure []]
def r41_2 : List COp := [u 21 (.move (t 0)), u 22 (.nilCheck (t 21)), u 23 (.fieldAddr 52 (t 22) 1), u 24 (.load 3 (t 23)), u 25 (.move (t 4)), u 26 (.binOp .add 3 (t 24) (t 25) 3), u 5 (.assign (t 26))]
def r41_3 : List COp := [u 27 (.move (t 5)), u 28 (.move (t 0)), u 29 (.nilCheck (t 28)), u 30 (.fieldAddr 52 (t 29) 0), u 31 (.load 24 (t 30)), u 32 (cb .len #[(t 31)] #[24]), u 33 (.binOp .lss 3 (t 27) (t 32) 3)]
def r41_4 : List COp := [u 35 (.move (t 0)), u 36 (.nilCheck (t 35)), u 37 (.fieldAddr 52 (t 36) 0), u 38 (.load 24 (t 37)), u 39 (.move (t 5)), u 40 (.slice 24 (t 38) (some (t 39)) none none), u 41 (cf 35 #[(t 40)] #[24]), u 34 (.move (t 41)), u 42 (.extract (t 34) 0), u 43 (.extract (t 34) 1), u 6 (.assign (t 42)), u 7 (.assign (t 43))]
def r41_5 : List COp := [u 44 (.move (t 6)), u 45 (.binOp .lss 21 (t 44) (.const (.int .i32 0)) 21), u 46 (.move (t 45)), gN 46 (some 47) (.move (t 0)), gN 46 (some 48) (.nilCheck (t 47)), gN 46 (some 49) (.fieldAddr 52 (t 48) 0), gN 46 (some 50) (.load 24 (t 49)), gN 46 (some 51) (.move (t 5)), gN 46 (some 52) (cf 31 #[(t 50), (t 51)] #[24, 3]), gN 46 (some 53) (.binOp .gtr 3 (t 52) (ci 0) 3), u 54 (.pick (t 46) (.const (.bool true)) (t 53)), u 55 (.move (t 54)), gN 55 (some 56) (.move (t 0)), gN 55 (some 57) (.move (t 5)), gN 55 (some 58) (cf 37 #[(t 56), (t 57)] #[50, 3]), u 59 (.pick (t 55) (.const (.bool true)) (t 58)), u 60 (.move (t 59)), gN 60 (some 61) (.move (t 0)), gN 60 (some 62) (.nilCheck (t 61)), gN 60 (some 63) (.fieldAddr 52 (t 62) 0), gN 60 (some 64) (.load 24 (t 63)), gN 60 (some 65) (.move (t 5)), gN 60 (some 66) (.indexAddr 24 (t 64) (t 65)), gN 60 (some 67) (.load 5 (t 66)), gN 60 (some 68) (.binOp .eql 5 (t 67) (.const (.int .u8 35)) 5), gN 60 (some 69) (.move (t 68)), gT 69 (some 70) (.move (t 0)), gT 69 (some 71) (.nilCheck (t 70)), gT 69 (some 72) (.fieldAddr 52 (t 71) 0), gT 69 (some 73) (.load 24 (t 72)), gT 69 (some 74) (.move (t 5)), gT 69 (some 75) (.binOp .sub 3 (t 74) (ci 1) 3), gT 69 (some 76) (.indexAddr 24 (t 73) (t 75)), gT 69 (some 77) (.load 5 (t 76)), gT 69 (some 78) (cf 33 #[(t 77)] #[5]), gN 60 (some 79) (.pick (t 69) (t 78) (.const (.bool false))), u 80 (.pick (t 60) (.const (.bool true)) (t 79)), u 81 (.move (t 80)), gN 81 (some 82) (.move (t 0)), gN 81 (some 83) (.nilCheck (t 82)), gN 81 (some 84) (.fieldAddr 52 (t 83) 3), gN 81 (some 85) (.load 3 (t 84)), gN 81 (some 86) (.binOp .gtr 3 (t 85) (ci 0) 3), gN 81 (some 87) (.move (t 86)), gT 87 (some 88) (.move (t 0)), gT 87 (some 89) (.nilCheck (t 88)), gT 87 (some 90) (.fieldAddr 52 (t 89) 0), gT 87 (some 91) (.load 24 (t 90)), gT 87 (some 92) (.move (t 5)), gT 87 (some 93) (.indexAddr 24 (t 91) (t 92)), gT 87 (some 94) (.load 5 (t 93)), gT 87 (some 95) (cf 58 #[(t 94)] #[5]), gN 81 (some 96) (.pick (t 87) (t 95) (.const (.bool false))), u 97 (.pick (t 81) (.const (.bool true)) (t 96))]
def r41_6 : List COp := [u 98 (.move (t 5)), u 99 (.move (t 7)), u 100 (.binOp .add 3 (t 98) (t 99) 3), u 5 (.assign (t 100))]
def r41_7 : List COp := [u 101 (.move (t 5)), u 102 (.move (t 0)), u 103 (.nilCheck (t 102)), u 104 (.fieldAddr 52 (t 103) 1), u 105 (.load 3 (t 104)), u 106 (.binOp .add 3 (t 105) (ci 1) 3), u 107 (.binOp .gtr 3 (t 101) (t 106) 3), u 108 (.move (t 107)), gT 108 (some 109) (.move (t 0)), gT 108 (some 110) (.nilCheck (t 109)), gT 108 (some 111) (.fieldAddr 52 (t 110) 0), gT 108 (some 112) (.load 24 (t 111)), gT 108 (some 113) (.move (t 5)), gT 108 (some 114) (.binOp .sub 3 (t 113) (ci 1) 3), gT 108 (some 115) (.indexAddr 24 (t 112) (t 114)), gT 108 (some 116) (.load 5 (t 115)), gT 108 (some 117) (cf 33 #[(t 116)] #[5]), u 118 (.pick (t 108) (t 117) (.const (.bool false)))]
def r41_8 : List COp := [u 119 (.move (t 5)), u 120 (.binOp .sub 3 (t 119) (ci 1) 3), u 5 (.assign (t 120))]
def r41_9 : List COp := [u 121 (.move (t 5)), u 2 (.assign (t 121))]
def correctorref6_scanner_plain_l0 (F : Nat) (a0 : correctorref6_scanner) : Nat → Int → Option Int
  | 0, _ => none
  | n + 1, x8333 =>
    if x8333 < (a0.B.length : Int) then
      if 0 ≤ x8333 ∧ x8333 ≤ (a0.B.length : Int) ∧ (a0.B.length : Int) ≤ (a0.B.length : Int) then
        (correctorref1_Next F ((a0.B.take (a0.B.length : Int).toNat).drop x8333.toNat)).bind fun r8344 =>
        ((if r8344.1 < (0 : Int) then
            some (.inr x8333)
          else
            (correctorref2_Break F a0.B x8333).bind fun r8430 =>
            if (0 : Int) < r8430 then
              some (.inr x8333)
            else
              (correctorref6_scanner_colon F a0 x8333).bind fun r8438 =>
              if r8438 = true then
                some (.inr x8333)
              else
                if 0 ≤ x8333 ∧ x8333 < (a0.B.length : Int) then
                  (a0.B[x8333.toNat]?).bind fun x8451 =>
                  if (x8451.toNat : Int) = (35 : Int) then
                    if 0 ≤ (w64 (x8333 - 1)) ∧ (w64 (x8333 - 1)) < (a0.B.length : Int) then
                      (a0.B[(w64 (x8333 - 1)).toNat]?).bind fun x8459 =>
                      (correctorref5_Blank F (x8459.toNat : Int)).bind fun r8465 =>
                      if r8465 = true then
                        some (.inr x8333)
                      else
                        if (0 : Int) < a0.Open then
                          if 0 ≤ x8333 ∧ x8333 < (a0.B.length : Int) then
                            (a0.B[x8333.toNat]?).bind fun x8475 =>
                            (correctorref5_Flow F (x8475.toNat : Int)).bind fun r8481 =>
                            if r8481 = true then
                              some (.inr x8333)
                            else
                              some (.inl ())
                          else none
                        else
                          some (.inl ())
                    else none
                  else
                    if (0 : Int) < a0.Open then
                      if 0 ≤ x8333 ∧ x8333 < (a0.B.length : Int) then
                        (a0.B[x8333.toNat]?).bind fun x8491 =>
                        (correctorref5_Flow F (x8491.toNat : Int)).bind fun r8497 =>
                        if r8497 = true then
                          some (.inr x8333)
                        else
                          some (.inl ())
                      else none
                    else
                      some (.inl ())
                else none) : Option (Sum Unit Int)).bind fun o => match o with
          | .inl () => correctorref6_scanner_plain_l0 F a0 n (w64 (x8333 + r8344.2))
          | .inr y => some y
      else none
    else
      some x8333
def correctorref6_scanner_plain_l1 (F : Nat) (a0 : correctorref6_scanner) : Nat → Int → Option Int
  | 0, _ => none
  | n + 1, x8570 =>
    if (w64 (a0.At + 1)) < x8570 then
      if 0 ≤ (w64 (x8570 - 1)) ∧ (w64 (x8570 - 1)) < (a0.B.length : Int) then
        (a0.B[(w64 (x8570 - 1)).toNat]?).bind fun x8608 =>
        (correctorref5_Blank F (x8608.toNat : Int)).bind fun r8614 =>
        if r8614 = true then
          correctorref6_scanner_plain_l1 F a0 n (w64 (x8570 - 1))
        else
          some x8570
      else none
    else
      some x8570
def correctorref6_scanner_plain (F : Nat) (a0 : correctorref6_scanner) : Option Int :=
  if 0 ≤ a0.At ∧ a0.At ≤ (a0.B.length : Int) ∧ (a0.B.length : Int) ≤ (a0.B.length : Int) then
    (correctorref1_Next F ((a0.B.take (a0.B.length : Int).toNat).drop a0.At.toNat)).bind fun r8222 =>
    ((correctorref6_scanner_plain_l0 F a0 F (w64 (a0.At + r8222.2))) : Option Int).bind fun o => match o with
      | x8511 => ((correctorref6_scanner_plain_l1 F a0 F x8511) : Option Int).bind fun o => match o with
        | x8625 => some x8625
  else none
theorem correctorref6_scanner_plain_ok (F : Nat) {h : AH} {Z : Zn} {a0 : correctorref6_scanner} {b8027 : Nat} {v8029 : Value} {v8031 : Value} {c8032 : List Value} (hP : Pre Z h [.blk b8027 (K52 v8029 v8031 a0), .gs v8031 c8032 (csz api_Token)]) (q8028 : RS (α := UInt8) Z v8029 a0.B) (q8030 : RCs (α := api_Token) Z c8032 a0.L) {r : Int} (hm : correctorref6_scanner_plain F a0 = some r) :
    ∃ v h' Z' A', callI Go.Proofs.Try.prog 41 [Pt b8027 0] h = some (v, h') ∧ St h (idsL [.blk b8027 (K52 v8029 v8031 a0), .gs v8031 c8032 (csz api_Token)]) Z (0, 0) Z' h' A' ∧ V r = v ∧ A' = [.blk b8027 (K52 v8029 v8031 a0), .gs v8031 c8032 (csz api_Token)] := by
  refine fn_intro (A := [.blk b8027 (K52 v8029 v8031 a0), .gs v8031 c8032 (csz api_Token)]) (Q := fun v Z' A' => V r = v ∧ A' = [.blk b8027 (K52 v8029 v8031 a0), .gs v8031 c8032 (csz api_Token)]) Go.Proofs.Try.func41 rfl rfl (by kernel_rfl) hP ?_
  intro hs hS
  unfold correctorref6_scanner_plain at hm
  refine sr r41_0 ?_
  refine xe 1 [(0, Pt b8027 0)] ?_
  refine srF r41_1 hS ?_
  intro bs8212 h8213 hlv8215 hS8214
  refine yq 3 [(11, Pt b8027 0), (0, Pt b8027 0)] ?_
  have lt8216 : b8027 < bs8212 := hlv8215.1 _ (List.mem_of_getElem? (i := 0) rfl) _ (by simp [Itm.ids])
  refine e_lookB rfl trivial rfl (by show b8027 < _; omega) (same1 (v := v8029) (RS.sim1 q8028)) (o_ldb (v := v8029) hS8214 (i := 0) rfl rfl (by kernel_rfl)) trivial ?_
  refine yq 3 [(15, Pt b8027 1), (12, v8029), (0, Pt b8027 0)] ?_
  have lt8217 : b8027 < bs8212 := hlv8215.1 _ (List.mem_of_getElem? (i := 0) rfl) _ (by simp [Itm.ids])
  refine e_lookB rfl trivial rfl (by show b8027 < _; omega) (same1 (v := V a0.At) trivial) (o_ldb (v := V a0.At) hS8214 (i := 0) rfl rfl (by kernel_rfl)) trivial ?_
  obtain ⟨hc8221, hm⟩ := chk hm
  refine e_exv rfl trivial (o_slice (a := a0.At) (b := (a0.B.length : Int)) q8028 rfl (by kernel_rfl : slTy _ _ = some (csz UInt8)) ⟨_, rfl⟩ rfl hc8221.1 hc8221.2.1 hc8221.2.2) ?_
  intro v8218 q8219
  obtain ⟨r8222, hx8223, hm⟩ := obind hm
  have hSl8229 := hS8214.lown
  obtain ⟨v8224, h8225, hcl8226, hSc8227, rfl⟩ := correctorref1_Next_ok F hSl8229.inv q8219 hx8223
  have hS8228 := St.call (A := []) (B := [.blk b8027 (K52 v8029 v8031 a0), .gs v8031 c8032 (csz api_Token)]) hSl8229 hSc8227
  replace hS8228 : St _ _ _ _ _ _ [.blk b8027 (K52 v8029 v8031 a0), .gs v8031 c8032 (csz api_Token)] := hS8228
  refine e_still rfl trivial hS8214 (o_call hcl8226 rfl rfl rfl) hS8228 (St.lowk hSc8227) ?_
  intro h8230 hS8231
  refine ye 5 [(4, V r8222.2), (0, Pt b8027 0)] ?_
  have hS8232 := hS8231.unres
  refine sr r41_2 ?_
  refine xq 3 [(23, Pt b8027 1), (4, V r8222.2), (0, Pt b8027 0)] ?_
  refine r_step rfl trivial (o_ldb (v := V a0.At) hS8232 (i := 0) rfl rfl (by kernel_rfl)) ?_
  refine xe 3 [(5, V (w64 (a0.At + r8222.2))), (0, Pt b8027 0)] ?_
  refine sq ?_
  obtain ⟨o8331, ho8330, hm⟩ := obind hm
  refine W_join [0, 5] (fun l h => ∃ Z8510 : Zn, ∃ x8511 : Int, x8511 = o8331 ∧ l = [(0, Pt b8027 0), (5, V x8511)] ∧ St hs (idsL [.blk b8027 (K52 v8029 v8031 a0), .gs v8031 c8032 (csz api_Token)]) Z (0, 0) Z8510 h [.blk b8027 (K52 v8029 v8031 a0), .gs v8031 c8032 (csz api_Token)]) ?_ ?_
  rintro l h8512 ⟨Z8510, x8511, rfl, rfl, hS8513⟩
  try dsimp only at hm
  refine sq ?_
  obtain ⟨o8568, ho8567, hm⟩ := obind hm
  refine W_join [5] (fun l h => ∃ Z8624 : Zn, ∃ x8625 : Int, x8625 = o8568 ∧ l = [(5, V x8625)] ∧ St hs (idsL [.blk b8027 (K52 v8029 v8031 a0), .gs v8031 c8032 (csz api_Token)]) Z (0, 0) Z8624 h [.blk b8027 (K52 v8029 v8031 a0), .gs v8031 c8032 (csz api_Token)]) ?_ ?_
  rintro l h8626 ⟨Z8624, x8625, rfl, rfl, hS8627⟩
  try dsimp only at hm
  refine sr r41_9 ?_
  refine xe 2 [(2, V x8625)] ?_
  refine rt ?_
  refine ⟨rfl, ?_⟩
  obtain rfl := Option.some.inj hm
  refine ⟨_, _, _, ResL.tmp rfl (ResL.nil), hS8627, ?_⟩
  exact ⟨rfl, rfl⟩
  refine bk 2 ?_
  refine lp [0, 5] (fun n l h => ∃ Z8569 : Zn, ∃ x8570 : Int, correctorref6_scanner_plain_l1 F a0 n x8570 = some o8568 ∧ l = [(0, Pt b8027 0), (5, V x8570)] ∧ St hs (idsL [.blk b8027 (K52 v8029 v8031 a0), .gs v8031 c8032 (csz api_Token)]) Z (0, 0) Z8569 h [.blk b8027 (K52 v8029 v8031 a0), .gs v8031 c8032 (csz api_Token)]) F ⟨_, x8511, ho8567, rfl, hS8513⟩ ?_
  rintro n8573 l h8571 ⟨Z8569, x8570, ho8567, rfl, hS8572⟩
  rcases n8573 with _ | n8573
  cases (show none = some o8568 from ho8567)
  rw [correctorref6_scanner_plain_l1] at ho8567
  refine sq ?_
  refine sr r41_7 ?_
  refine xq 4 [(104, Pt b8027 1), (101, V x8570), (0, Pt b8027 0), (5, V x8570)] ?_
  refine r_step rfl trivial (o_ldb (v := V a0.At) hS8572 (i := 0) rfl rfl (by kernel_rfl)) ?_
  refine xq 1 [(106, V (w64 (a0.At + 1))), (101, V x8570), (0, Pt b8027 0), (5, V x8570)] ?_
  rcases ifs ho8567 with ⟨hp8606, ho8567⟩ | ⟨hp8606, ho8567⟩
  refine r_step rfl trivial (o_cmp rfl rfl (c_gtr_T hp8606)) ?_
  refine xq 4 [(111, Pt b8027 0), (108, .bool true), (0, Pt b8027 0), (5, V x8570)] ?_
  refine r_step rfl rfl (o_ldb (v := v8029) hS8572 (i := 0) rfl rfl (by kernel_rfl)) ?_
  refine xq 2 [(114, V (w64 (x8570 - 1))), (112, v8029), (108, .bool true), (0, Pt b8027 0), (5, V x8570)] ?_
  obtain ⟨hc8607, ho8567⟩ := chk ho8567
  refine r_step rfl rfl (o_index rfl rfl (by kernel_rfl : slTy _ _ = some (csz UInt8)) (RS.based (q8028.mono hS8572.zle) (by omega)) hc8607.1 hc8607.2) ?_
  obtain ⟨x8608, hx8609, ho8567⟩ := obind ho8567
  obtain ⟨cs8610, hc8611, he8612⟩ := RS.elz (q8028.mono hS8572.zle) (i := w64 (x8570 - 1)) hx8609
  obtain rfl := rc_UInt8 hc8611
  refine r_step rfl rfl (o_lde (w := .int .u8 (x8608.toNat : Int)) (he8612 _ (hS8572.zin0 (Zle.refl _))) rfl (by kernel_rfl)) ?_
  obtain ⟨r8614, hx8615, ho8567⟩ := obind ho8567
  obtain ⟨v8616, h8617, hcl8618, hSc8619, rfl⟩ := correctorref5_Blank_ok F hS8572.inv  hx8615
  have hS8620 := St.call (A := []) (B := [.blk b8027 (K52 v8029 v8031 a0), .gs v8031 c8032 (csz api_Token)]) hS8572 hSc8619
  replace hS8620 : St _ _ _ _ _ _ [.blk b8027 (K52 v8029 v8031 a0), .gs v8031 c8032 (csz api_Token)] := hS8620
  refine r_step rfl rfl (o_call hcl8618 rfl rfl rfl) ?_
  refine xe 1 [(118, .bool r8614), (0, Pt b8027 0), (5, V x8570)] ?_
  rcases ifs ho8567 with ⟨hp8622, ho8567⟩ | ⟨hp8622, ho8567⟩
  refine W_condT (x := .tmp 118) (by kernel_rfl) rfl hp8622 ?_
  refine sk ?_
  refine bk 3 ?_
  refine rg r41_8 ?_
  refine xe 3 [(5, V (w64 (x8570 - 1))), (0, Pt b8027 0)] ?_
  exact ⟨n8573, Nat.lt_succ_self _, ⟨_, w64 (x8570 - 1), ho8567, rfl, hS8620⟩⟩
  refine W_condF (x := .tmp 118) (by kernel_rfl) rfl (Bool.eq_false_iff.2 hp8622) ?_
  refine xt 2 ?_
  refine blkX_hit ?_
  obtain rfl := Option.some.inj ho8567
  exact ⟨_, x8570, rfl, rfl, hS8620⟩
  refine r_step rfl trivial (o_cmp rfl rfl (c_gtr_F hp8606)) ?_
  refine xe 11 [(118, .bool false), (0, Pt b8027 0), (5, V x8570)] ?_
  refine cF 118 rfl ?_
  refine xt 2 ?_
  refine blkX_hit ?_
  obtain rfl := Option.some.inj ho8567
  exact ⟨_, x8570, rfl, rfl, hS8572⟩
  refine bk 0 ?_
  refine lp [0, 5] (fun n l h => ∃ Z8332 : Zn, ∃ x8333 : Int, correctorref6_scanner_plain_l0 F a0 n x8333 = some o8331 ∧ l = [(0, Pt b8027 0), (5, V x8333)] ∧ St hs (idsL [.blk b8027 (K52 v8029 v8031 a0), .gs v8031 c8032 (csz api_Token)]) Z (0, 0) Z8332 h [.blk b8027 (K52 v8029 v8031 a0), .gs v8031 c8032 (csz api_Token)]) F ⟨_, w64 (a0.At + r8222.2), ho8330, rfl, hS8232⟩ ?_
  rintro n8336 l h8334 ⟨Z8332, x8333, ho8330, rfl, hS8335⟩
  rcases n8336 with _ | n8336
  cases (show none = some o8331 from ho8330)
  rw [correctorref6_scanner_plain_l0] at ho8330
  refine sq ?_
  refine sr r41_3 ?_
  refine xq 4 [(30, Pt b8027 0), (27, V x8333), (0, Pt b8027 0), (5, V x8333)] ?_
  refine r_step rfl trivial (o_ldb (v := v8029) hS8335 (i := 0) rfl rfl (by kernel_rfl)) ?_
  refine r_step rfl trivial (o_len rfl (RS.len (q8028.mono hS8335.zle)) ⟨_, Go.Proofs.Try.underlying24⟩) ?_
  rcases ifs ho8330 with ⟨hp8339, ho8330⟩ | ⟨hp8339, ho8330⟩
  refine r_step rfl trivial (o_cmp rfl rfl (c_lss_T hp8339)) ?_
  refine xf [(33, .bool true), (0, Pt b8027 0), (5, V x8333)] ?_
  refine kT 33 rfl ?_
  refine bk 1 ?_
  refine sr r41_4 ?_
  refine xq 3 [(37, Pt b8027 0), (0, Pt b8027 0), (5, V x8333)] ?_
  refine r_step rfl trivial (o_ldb (v := v8029) hS8335 (i := 0) rfl rfl (by kernel_rfl)) ?_
  refine xq 1 [(39, V x8333), (38, v8029), (0, Pt b8027 0), (5, V x8333)] ?_
  obtain ⟨hc8343, ho8330⟩ := chk ho8330
  refine r_exv rfl trivial (o_slice (a := x8333) (b := (a0.B.length : Int)) (q8028.mono hS8335.zle) rfl (by kernel_rfl : slTy _ _ = some (csz UInt8)) ⟨_, rfl⟩ rfl hc8343.1 hc8343.2.1 hc8343.2.2) ?_
  intro v8340 q8341
  obtain ⟨r8344, hx8345, ho8330⟩ := obind ho8330
  obtain ⟨v8346, h8347, hcl8348, hSc8349, rfl⟩ := correctorref1_Next_ok F hS8335.inv q8341 hx8345
  have hS8350 := St.call (A := []) (B := [.blk b8027 (K52 v8029 v8031 a0), .gs v8031 c8032 (csz api_Token)]) hS8335 hSc8349
  replace hS8350 : St _ _ _ _ _ _ [.blk b8027 (K52 v8029 v8031 a0), .gs v8031 c8032 (csz api_Token)] := hS8350
  refine r_step rfl trivial (o_call hcl8348 rfl rfl rfl) ?_
  refine xe 5 [(7, V r8344.2), (6, .int .i32 r8344.1), (0, Pt b8027 0), (5, V x8333)] ?_
  refine sq ?_
  obtain ⟨o8428, ho8427, ho8330⟩ := obind ho8330
  refine W_seqJoin0 [0, 5, 7] (fun l h => ∃ Z8505 : Zn, .inl () = o8428 ∧ l = [(0, Pt b8027 0), (5, V x8333), (7, V r8344.2)] ∧ St hs (idsL [.blk b8027 (K52 v8029 v8031 a0), .gs v8031 c8032 (csz api_Token)]) Z (0, 0) Z8505 h [.blk b8027 (K52 v8029 v8031 a0), .gs v8031 c8032 (csz api_Token)]) (by kernel_rfl) ?_ ?_
  rintro l h8506 ⟨Z8505, rfl, rfl, hS8507⟩
  try dsimp only at ho8330
  refine rg r41_6 ?_
  refine xe 4 [(5, V (w64 (x8333 + r8344.2))), (0, Pt b8027 0)] ?_
  exact ⟨n8336, Nat.lt_succ_self _, ⟨_, w64 (x8333 + r8344.2), ho8330, rfl, hS8507⟩⟩
  refine rg r41_5 ?_
  refine xq 1 [(44, .int .i32 r8344.1), (7, V r8344.2), (0, Pt b8027 0), (5, V x8333)] ?_
  rcases ifs ho8427 with ⟨hp8429, ho8427⟩ | ⟨hp8429, ho8427⟩
  refine r_step rfl trivial (o_cmp rfl rfl (c_lss_T hp8429)) ?_
  refine xe 52 [(97, .bool true), (7, V r8344.2), (0, Pt b8027 0), (5, V x8333)] ?_
  refine cT 97 rfl ?_
  refine xt 0 ?_
  refine blkX_miss rfl ?_
  refine blkX_hit ?_
  obtain rfl := Option.some.inj ho8427
  obtain rfl := Option.some.inj ho8330
  exact ⟨_, x8333, rfl, rfl, hS8350⟩
  refine r_step rfl trivial (o_cmp rfl rfl (c_lss_F hp8429)) ?_
  refine xq 4 [(49, Pt b8027 0), (46, .bool false), (7, V r8344.2), (0, Pt b8027 0), (5, V x8333)] ?_
  refine r_step rfl rfl (o_ldb (v := v8029) hS8350 (i := 0) rfl rfl (by kernel_rfl)) ?_
  refine xq 1 [(51, V x8333), (50, v8029), (46, .bool false), (7, V r8344.2), (0, Pt b8027 0), (5, V x8333)] ?_
  obtain ⟨r8430, hx8431, ho8427⟩ := obind ho8427
  obtain ⟨v8432, h8433, hcl8434, hSc8435, rfl⟩ := correctorref2_Break_ok F hS8350.inv (q8028.mono hS8335.zle) hx8431
  have hS8436 := St.call (A := []) (B := [.blk b8027 (K52 v8029 v8031 a0), .gs v8031 c8032 (csz api_Token)]) hS8350 hSc8435
  replace hS8436 : St _ _ _ _ _ _ [.blk b8027 (K52 v8029 v8031 a0), .gs v8031 c8032 (csz api_Token)] := hS8436
  refine r_step rfl rfl (o_call hcl8434 rfl rfl rfl) ?_
  rcases ifs ho8427 with ⟨hp8437, ho8427⟩ | ⟨hp8437, ho8427⟩
  refine r_step rfl rfl (o_cmp rfl rfl (c_gtr_T hp8437)) ?_
  refine xe 44 [(97, .bool true), (7, V r8344.2), (0, Pt b8027 0), (5, V x8333)] ?_
  refine cT 97 rfl ?_
  refine xt 0 ?_
  refine blkX_miss rfl ?_
  refine blkX_hit ?_
  obtain rfl := Option.some.inj ho8427
  obtain rfl := Option.some.inj ho8330
  exact ⟨_, x8333, rfl, rfl, hS8436⟩
  refine r_step rfl rfl (o_cmp rfl rfl (c_gtr_F hp8437)) ?_
  refine xq 4 [(57, V x8333), (56, Pt b8027 0), (55, .bool false), (7, V r8344.2), (0, Pt b8027 0), (5, V x8333)] ?_
  obtain ⟨r8438, hx8439, ho8427⟩ := obind ho8427
  have hF8445 : St _ _ _ _ _ _ ([.blk b8027 (K52 v8029 v8031 a0), .gs v8031 c8032 (csz api_Token)] ++ []) := ((hS8436.front 1 rfl).front 1 rfl)
  obtain ⟨v8440, h8441, Z8446, A8448, hcl8442, hSc8443, rfl, rfl⟩ := correctorref6_scanner_colon_ok F hF8445.preL (q8028.mono hS8335.zle) (q8030.mono hS8335.zle) hx8439
  have hZ8447 := hSc8443.zle
  have hS8444 := hF8445.call hSc8443
  replace hS8444 : St _ _ _ _ _ _ [.blk b8027 (K52 v8029 v8031 a0), .gs v8031 c8032 (csz api_Token)] := hS8444
  refine r_step rfl rfl (o_call hcl8442 rfl rfl rfl) ?_
  refine xq 2 [(60, .bool r8438), (7, V r8344.2), (0, Pt b8027 0), (5, V x8333)] ?_
  rcases ifs ho8427 with ⟨hp8449, ho8427⟩ | ⟨hp8449, ho8427⟩
  refine r_setb (t := 60) rfl hp8449 ?_
  refine xe 37 [(97, .bool true), (7, V r8344.2), (0, Pt b8027 0), (5, V x8333)] ?_
  refine cT 97 rfl ?_
  refine xt 0 ?_
  refine blkX_miss rfl ?_
  refine blkX_hit ?_
  obtain rfl := Option.some.inj ho8427
  obtain rfl := Option.some.inj ho8330
  exact ⟨_, x8333, rfl, rfl, hS8444⟩
  refine r_setb (t := 60) rfl (Bool.eq_false_iff.2 hp8449) ?_
  refine xq 3 [(63, Pt b8027 0), (60, .bool false), (7, V r8344.2), (0, Pt b8027 0), (5, V x8333)] ?_
  refine r_step rfl rfl (o_ldb (v := v8029) hS8444 (i := 0) rfl rfl (by kernel_rfl)) ?_
  refine xq 1 [(65, V x8333), (64, v8029), (60, .bool false), (7, V r8344.2), (0, Pt b8027 0), (5, V x8333)] ?_
  obtain ⟨hc8450, ho8427⟩ := chk ho8427
  refine r_step rfl rfl (o_index rfl rfl (by kernel_rfl : slTy _ _ = some (csz UInt8)) (RS.based (q8028.mono (hS8335.zle.trans hZ8447)) (by omega)) hc8450.1 hc8450.2) ?_
  obtain ⟨x8451, hx8452, ho8427⟩ := obind ho8427
  obtain ⟨cs8453, hc8454, he8455⟩ := RS.elz (q8028.mono (hS8335.zle.trans hZ8447)) (i := x8333) hx8452
  obtain rfl := rc_UInt8 hc8454
  refine r_step rfl rfl (o_lde (w := .int .u8 (x8451.toNat : Int)) (he8455 _ (hS8444.zin0 (Zle.refl _))) rfl (by kernel_rfl)) ?_
  rcases ifs ho8427 with ⟨hp8457, ho8427⟩ | ⟨hp8457, ho8427⟩
  refine r_step rfl rfl (o_cmp rfl rfl (c_eql_T hp8457)) ?_
  refine xq 4 [(72, Pt b8027 0), (69, .bool true), (60, .bool false), (7, V r8344.2), (0, Pt b8027 0), (5, V x8333)] ?_
  refine r_step rfl rfl (o_ldb (v := v8029) hS8444 (i := 0) rfl rfl (by kernel_rfl)) ?_
  refine xq 2 [(75, V (w64 (x8333 - 1))), (73, v8029), (69, .bool true), (60, .bool false), (7, V r8344.2), (0, Pt b8027 0), (5, V x8333)] ?_
  obtain ⟨hc8458, ho8427⟩ := chk ho8427
  refine r_step rfl rfl (o_index rfl rfl (by kernel_rfl : slTy _ _ = some (csz UInt8)) (RS.based (q8028.mono (hS8335.zle.trans hZ8447)) (by omega)) hc8458.1 hc8458.2) ?_
  obtain ⟨x8459, hx8460, ho8427⟩ := obind ho8427
  obtain ⟨cs8461, hc8462, he8463⟩ := RS.elz (q8028.mono (hS8335.zle.trans hZ8447)) (i := w64 (x8333 - 1)) hx8460
  obtain rfl := rc_UInt8 hc8462
  refine r_step rfl rfl (o_lde (w := .int .u8 (x8459.toNat : Int)) (he8463 _ (hS8444.zin0 (Zle.refl _))) rfl (by kernel_rfl)) ?_
  obtain ⟨r8465, hx8466, ho8427⟩ := obind ho8427
  obtain ⟨v8467, h8468, hcl8469, hSc8470, rfl⟩ := correctorref5_Blank_ok F hS8444.inv  hx8466
  have hS8471 := St.call (A := []) (B := [.blk b8027 (K52 v8029 v8031 a0), .gs v8031 c8032 (csz api_Token)]) hS8444 hSc8470
  replace hS8471 : St _ _ _ _ _ _ [.blk b8027 (K52 v8029 v8031 a0), .gs v8031 c8032 (csz api_Token)] := hS8471
  refine r_step rfl rfl (o_call hcl8469 rfl rfl rfl) ?_
  refine xq 3 [(81, .bool r8465), (7, V r8344.2), (0, Pt b8027 0), (5, V x8333)] ?_
  rcases ifs ho8427 with ⟨hp8472, ho8427⟩ | ⟨hp8472, ho8427⟩
  refine r_setb (t := 81) rfl hp8472 ?_
  refine xe 16 [(97, .bool true), (7, V r8344.2), (0, Pt b8027 0), (5, V x8333)] ?_
  refine cT 97 rfl ?_
  refine xt 0 ?_
  refine blkX_miss rfl ?_
  refine blkX_hit ?_
  obtain rfl := Option.some.inj ho8427
  obtain rfl := Option.some.inj ho8330
  exact ⟨_, x8333, rfl, rfl, hS8471⟩
  refine r_setb (t := 81) rfl (Bool.eq_false_iff.2 hp8472) ?_
  refine xq 3 [(84, Pt b8027 3), (81, .bool false), (7, V r8344.2), (0, Pt b8027 0), (5, V x8333)] ?_
  refine r_step rfl rfl (o_ldb (v := V a0.Open) hS8471 (i := 0) rfl rfl (by kernel_rfl)) ?_
  rcases ifs ho8427 with ⟨hp8473, ho8427⟩ | ⟨hp8473, ho8427⟩
  refine r_step rfl rfl (o_cmp rfl rfl (c_gtr_T hp8473)) ?_
  refine xq 4 [(90, Pt b8027 0), (87, .bool true), (81, .bool false), (7, V r8344.2), (0, Pt b8027 0), (5, V x8333)] ?_
  refine r_step rfl rfl (o_ldb (v := v8029) hS8471 (i := 0) rfl rfl (by kernel_rfl)) ?_
  refine xq 1 [(92, V x8333), (91, v8029), (87, .bool true), (81, .bool false), (7, V r8344.2), (0, Pt b8027 0), (5, V x8333)] ?_
  obtain ⟨hc8474, ho8427⟩ := chk ho8427
  refine r_step rfl rfl (o_index rfl rfl (by kernel_rfl : slTy _ _ = some (csz UInt8)) (RS.based (q8028.mono (hS8335.zle.trans hZ8447)) (by omega)) hc8474.1 hc8474.2) ?_
  obtain ⟨x8475, hx8476, ho8427⟩ := obind ho8427
  obtain ⟨cs8477, hc8478, he8479⟩ := RS.elz (q8028.mono (hS8335.zle.trans hZ8447)) (i := x8333) hx8476
  obtain rfl := rc_UInt8 hc8478
  refine r_step rfl rfl (o_lde (w := .int .u8 (x8475.toNat : Int)) (he8479 _ (hS8471.zin0 (Zle.refl _))) rfl (by kernel_rfl)) ?_
  obtain ⟨r8481, hx8482, ho8427⟩ := obind ho8427
  obtain ⟨v8483, h8484, hcl8485, hSc8486, rfl⟩ := correctorref5_Flow_ok F hS8471.inv  hx8482
  have hS8487 := St.call (A := []) (B := [.blk b8027 (K52 v8029 v8031 a0), .gs v8031 c8032 (csz api_Token)]) hS8471 hSc8486
  replace hS8487 : St _ _ _ _ _ _ [.blk b8027 (K52 v8029 v8031 a0), .gs v8031 c8032 (csz api_Token)] := hS8487
  refine r_step rfl rfl (o_call hcl8485 rfl rfl rfl) ?_
  refine xe 2 [(97, .bool r8481), (7, V r8344.2), (0, Pt b8027 0), (5, V x8333)] ?_
  rcases ifs ho8427 with ⟨hp8488, ho8427⟩ | ⟨hp8488, ho8427⟩
  refine W_condT (x := .tmp 97) (by kernel_rfl) rfl hp8488 ?_
  refine xt 0 ?_
  refine blkX_miss rfl ?_
  refine blkX_hit ?_
  obtain rfl := Option.some.inj ho8427
  obtain rfl := Option.some.inj ho8330
  exact ⟨_, x8333, rfl, rfl, hS8487⟩
  refine W_condF (x := .tmp 97) (by kernel_rfl) rfl (Bool.eq_false_iff.2 hp8488) ?_
  refine sk ?_
  obtain rfl := Option.some.inj ho8427
  exact ⟨_, rfl, rfl, hS8487⟩
  refine r_step rfl rfl (o_cmp rfl rfl (c_gtr_F hp8473)) ?_
  refine xe 11 [(97, .bool false), (7, V r8344.2), (0, Pt b8027 0), (5, V x8333)] ?_
  refine kF 97 rfl ?_
  obtain rfl := Option.some.inj ho8427
  exact ⟨_, rfl, rfl, hS8471⟩
  refine r_step rfl rfl (o_cmp rfl rfl (c_eql_F hp8457)) ?_
  refine xq 16 [(84, Pt b8027 3), (81, .bool false), (7, V r8344.2), (0, Pt b8027 0), (5, V x8333)] ?_
  refine r_step rfl rfl (o_ldb (v := V a0.Open) hS8444 (i := 0) rfl rfl (by kernel_rfl)) ?_
  rcases ifs ho8427 with ⟨hp8489, ho8427⟩ | ⟨hp8489, ho8427⟩
  refine r_step rfl rfl (o_cmp rfl rfl (c_gtr_T hp8489)) ?_
  refine xq 4 [(90, Pt b8027 0), (87, .bool true), (81, .bool false), (7, V r8344.2), (0, Pt b8027 0), (5, V x8333)] ?_
  refine r_step rfl rfl (o_ldb (v := v8029) hS8444 (i := 0) rfl rfl (by kernel_rfl)) ?_
  refine xq 1 [(92, V x8333), (91, v8029), (87, .bool true), (81, .bool false), (7, V r8344.2), (0, Pt b8027 0), (5, V x8333)] ?_
  obtain ⟨hc8490, ho8427⟩ := chk ho8427
  refine r_step rfl rfl (o_index rfl rfl (by kernel_rfl : slTy _ _ = some (csz UInt8)) (RS.based (q8028.mono (hS8335.zle.trans hZ8447)) (by omega)) hc8490.1 hc8490.2) ?_
  obtain ⟨x8491, hx8492, ho8427⟩ := obind ho8427
  obtain ⟨cs8493, hc8494, he8495⟩ := RS.elz (q8028.mono (hS8335.zle.trans hZ8447)) (i := x8333) hx8492
  obtain rfl := rc_UInt8 hc8494
  refine r_step rfl rfl (o_lde (w := .int .u8 (x8491.toNat : Int)) (he8495 _ (hS8444.zin0 (Zle.refl _))) rfl (by kernel_rfl)) ?_
  obtain ⟨r8497, hx8498, ho8427⟩ := obind ho8427
  obtain ⟨v8499, h8500, hcl8501, hSc8502, rfl⟩ := correctorref5_Flow_ok F hS8444.inv  hx8498
  have hS8503 := St.call (A := []) (B := [.blk b8027 (K52 v8029 v8031 a0), .gs v8031 c8032 (csz api_Token)]) hS8444 hSc8502
  replace hS8503 : St _ _ _ _ _ _ [.blk b8027 (K52 v8029 v8031 a0), .gs v8031 c8032 (csz api_Token)] := hS8503
  refine r_step rfl rfl (o_call hcl8501 rfl rfl rfl) ?_
  refine xe 2 [(97, .bool r8497), (7, V r8344.2), (0, Pt b8027 0), (5, V x8333)] ?_
  rcases ifs ho8427 with ⟨hp8504, ho8427⟩ | ⟨hp8504, ho8427⟩
  refine W_condT (x := .tmp 97) (by kernel_rfl) rfl hp8504 ?_
  refine xt 0 ?_
  refine blkX_miss rfl ?_
  refine blkX_hit ?_
  obtain rfl := Option.some.inj ho8427
  obtain rfl := Option.some.inj ho8330
  exact ⟨_, x8333, rfl, rfl, hS8503⟩
  refine W_condF (x := .tmp 97) (by kernel_rfl) rfl (Bool.eq_false_iff.2 hp8504) ?_
  refine sk ?_
  obtain rfl := Option.some.inj ho8427
  exact ⟨_, rfl, rfl, hS8503⟩
  refine r_step rfl rfl (o_cmp rfl rfl (c_gtr_F hp8489)) ?_
  refine xe 11 [(97, .bool false), (7, V r8344.2), (0, Pt b8027 0), (5, V x8333)] ?_
  refine kF 97 rfl ?_
  obtain rfl := Option.some.inj ho8427
  exact ⟨_, rfl, rfl, hS8444⟩
  refine r_step rfl trivial (o_cmp rfl rfl (c_lss_F hp8339)) ?_
  refine xf [(33, .bool false), (0, Pt b8027 0), (5, V x8333)] ?_
  refine cF 33 rfl ?_
  refine xt 0 ?_
  refine blkX_hit ?_
  obtain rfl := Option.some.inj ho8330
  exact ⟨_, x8333, rfl, rfl, hS8335⟩

def r21_0 : List COpF := [uF 7 (.move (t 0)) .pure [], uF 8 (.nilCheck (t 7)) .pure [], uF 9 (.fieldAddr 52 (t 8) 0) .pure [], uF 10 (.load 24 (t 9)) .look [], uF 11 (.move (t 0)) .pure [], uF 12 (.nilCheck (t 11)) .pure [], uF 13 (.fieldAddr 52 (t 12) 1) .pure [], uF 14 (.load 3 (t 13)) .look [], uF 15 (.indexAddr 24 (t 10) (t 14)) .pure [], uF 16 (.load 5 (t 15)) .look [], uF 2 (.assign (t 16)) .pure []]
def r21_1 : List COp := [u 17 (.move (t 0)), u 18 (.nilCheck (t 17)), u 19 (.fieldAddr 52 (t 18) 1), u 20 (.load 3 (t 19)), u 3 (.assign (t 20))]
def r21_2 : List COp := [u 22 (.move (t 0)), u 23 (.nilCheck (t 22)), u 24 (.fieldAddr 52 (t 23) 0), u 25 (.load 24 (t 24)), u 26 (.move (t 3)), u 27 (.slice 24 (t 25) (some (t 26)) none none), u 28 (cf 35 #[(t 27)] #[24]), u 21 (.move (t 28)), u 29 (.extract (t 21) 0), u 30 (.extract (t 21) 1), u 4 (.assign (t 29)), u 5 (.assign (t 30))]
def r21_3 : List COp := [u 31 (.move (t 0)), u 32 (.move (t 3)), u 33 (.binOp .add 3 (t 32) (ci 1) 3), u 34 (cf 36 #[(t 31), (t 33), (.const (.bool false))] #[50, 3, 4]), u 6 (.assign (t 34))]
def r21_4 : List COp := [u 35 (.move (t 0)), u 36 (.move (t 0)), u 37 (cf 41 #[(t 36)] #[50]), u 38 (cf 18 #[(t 35), (ci 15), (t 37)] #[50, 3, 3])]
def r21_5 : List COp := [u 40 (.move (t 2)), u 41 (.binOp .eql 5 (t 40) (.const (.int .u8 45)) 5), u 42 (.move (t 41)), gT 42 (some 43) (.move (t 0)), gT 42 (some 44) (.nilCheck (t 43)), gT 42 (some 45) (.fieldAddr 52 (t 44) 3), gT 42 (some 46) (.load 3 (t 45)), gT 42 (some 47) (.binOp .eql 3 (t 46) (ci 0) 3), u 48 (.pick (t 42) (t 47) (.const (.bool false))), u 49 (.move (t 48)), gT 49 (some 50) (.move (t 0)), gT 49 (some 51) (.nilCheck (t 50)), gT 49 (some 52) (.fieldAddr 52 (t 51) 5), gT 49 (some 53) (.load 4 (t 52)), u 54 (.pick (t 49) (t 53) (.const (.bool false))), u 55 (.move (t 54)), gT 55 (some 56) (.move (t 0)), gT 55 (some 57) (.move (t 3)), gT 55 (some 58) (.binOp .add 3 (t 57) (ci 1) 3), gT 55 (some 59) (cf 29 #[(t 56), (t 58)] #[50, 3]), u 60 (.pick (t 55) (t 59) (.const (.bool false))), u 39 (.assign (t 60))]
def r21_6 : List COp := [u 61 (.move (t 0)), u 62 (.move (t 3)), u 63 (.binOp .add 3 (t 62) (ci 1) 3), u 64 (cf 18 #[(t 61), (ci 5), (t 63)] #[50, 3, 3])]
def r21_7 : List COp := [u 66 (.move (t 0)), u 67 (.move (t 3)), u 68 (cf 37 #[(t 66), (t 67)] #[50, 3]), u 65 (.assign (t 68))]
def r21_8 : List COp := [u 69 (.move (t 0)), u 70 (.move (t 3)), u 71 (.binOp .add 3 (t 70) (ci 1) 3), u 72 (cf 18 #[(t 69), (ci 6), (t 71)] #[50, 3, 3])]
def r21_9 : List COp := [u 74 (.move (t 2)), u 75 (.binOp .eql 5 (t 74) (.const (.int .u8 38)) 5), u 76 (.move (t 75)), gT 76 (some 77) (.move (t 6)), gT 76 (some 78) (.move (t 3)), gT 76 (some 79) (.binOp .add 3 (t 78) (ci 1) 3), gT 76 (some 80) (.binOp .gtr 3 (t 77) (t 79) 3), u 81 (.pick (t 76) (t 80) (.const (.bool false))), u 73 (.assign (t 81))]
def r21_10 : List COp := [u 82 (.move (t 0)), u 83 (.move (t 6)), u 84 (cf 18 #[(t 82), (ci 12), (t 83)] #[50, 3, 3])]
def r21_11 : List COp := [u 86 (.move (t 2)), u 87 (.binOp .eql 5 (t 86) (.const (.int .u8 42)) 5), u 88 (.move (t 87)), gT 88 (some 89) (.move (t 6)), gT 88 (some 90) (.move (t 3)), gT 88 (some 91) (.binOp .add 3 (t 90) (ci 1) 3), gT 88 (some 92) (.binOp .gtr 3 (t 89) (t 91) 3), u 93 (.pick (t 88) (t 92) (.const (.bool false))), u 85 (.assign (t 93))]
def r21_12 : List COp := [u 94 (.move (t 0)), u 95 (.move (t 6)), u 96 (cf 18 #[(t 94), (ci 13), (t 95)] #[50, 3, 3])]
def r21_13 : List COp := [u 98 (.move (t 2)), u 99 (.binOp .eql 5 (t 98) (.const (.int .u8 33)) 5), u 97 (.assign (t 99))]
def r21_14 : List COp := [u 100 (.move (t 0)), u 101 (.move (t 0)), u 102 (.move (t 3)), u 103 (.binOp .add 3 (t 102) (ci 1) 3), u 104 (cf 36 #[(t 101), (t 103), (.const (.bool true))] #[50, 3, 4]), u 105 (cf 18 #[(t 100), (ci 14), (t 104)] #[50, 3, 3])]
def r21_15 : List COp := [u 107 (.move (t 2)), u 108 (.binOp .eql 5 (t 107) (.const (.int .u8 39)) 5), u 106 (.assign (t 108))]
def r21_16 : List COp := [u 109 (.move (t 0)), u 110 (.move (t 0)), u 111 (.move (t 3)), u 112 (.binOp .add 3 (t 111) (ci 1) 3), u 113 (.move (t 0)), u 114 (.move (t 3)), u 115 (cf 34 #[(t 113), (t 114)] #[50, 3]), u 116 (cf 38 #[(t 110), (t 112), (t 115)] #[50, 3, 3]), u 117 (cf 18 #[(t 109), (ci 16), (t 116)] #[50, 3, 3])]
def r21_17 : List COp := [u 119 (.move (t 2)), u 120 (.binOp .eql 5 (t 119) (.const (.int .u8 34)) 5), u 118 (.assign (t 120))]
def r21_18 : List COp := [u 121 (.move (t 0)), u 122 (.move (t 0)), u 123 (.move (t 3)), u 124 (.binOp .add 3 (t 123) (ci 1) 3), u 125 (.move (t 0)), u 126 (.move (t 3)), u 127 (cf 34 #[(t 125), (t 126)] #[50, 3]), u 128 (cf 39 #[(t 122), (t 124), (t 127)] #[50, 3, 3]), u 129 (.move (t 0)), u 130 (.move (t 3)), u 131 (cf 34 #[(t 129), (t 130)] #[50, 3]), u 132 (cb .min #[(t 128), (t 131)] #[3, 3]), u 133 (cf 18 #[(t 121), (ci 17), (t 132)] #[50, 3, 3])]
def r21_19 : List COp := [u 135 (.move (t 0)), u 136 (cf 40 #[(t 135)] #[50]), u 137 (.binOp .gtr 3 (t 136) (ci 0) 3), u 134 (.assign (t 137))]
def r21_20 : List COp := [u 138 (.move (t 0)), u 139 (.move (t 0)), u 140 (.nilCheck (t 139)), u 141 (.fieldAddr 52 (t 140) 4), u 142 (.load 3 (t 141)), u 143 (.nilCheck (t 138)), u 144 (.fieldAddr 52 (t 143) 6), o (.store 3 (t 144) (t 142))]
def r21_21 : List COp := [u 145 (.move (t 0)), u 146 (.nilCheck (t 145)), u 147 (.fieldAddr 52 (t 146) 4), u 148 (.load 3 (t 147)), u 149 (.binOp .lss 3 (t 148) (ci 0) 3)]
def r21_22 : List COp := [u 150 (.move (t 0)), u 151 (.move (t 3)), u 152 (.move (t 0)), u 153 (.nilCheck (t 152)), u 154 (.fieldAddr 52 (t 153) 2), u 155 (.load 3 (t 154)), u 156 (.binOp .sub 3 (t 151) (t 155) 3), u 157 (.binOp .sub 3 (t 156) (ci 1) 3), u 158 (.nilCheck (t 150)), u 159 (.fieldAddr 52 (t 158) 6), o (.store 3 (t 159) (t 157))]
def r21_23 : List COp := [u 160 (.move (t 0)), u 161 (.move (t 3)), u 162 (.move (t 0)), u 163 (cf 40 #[(t 162)] #[50]), u 164 (.binOp .add 3 (t 161) (t 163) 3), u 165 (cf 18 #[(t 160), (ci 18), (t 164)] #[50, 3, 3])]
def r21_24 : List COp := [u 167 (.move (t 4)), u 168 (.binOp .lss 21 (t 167) (.const (.int .i32 0)) 21), u 166 (.assign (t 168))]
def r21_25 : List COp := [u 169 (.move (t 0)), u 170 (.move (t 3)), u 171 (.binOp .add 3 (t 170) (ci 1) 3), u 172 (cf 18 #[(t 169), (ci 22), (t 171)] #[50, 3, 3])]
def correctorref6_scanner_word (F : Nat) (a0 : correctorref6_scanner) : Option correctorref6_scanner :=
  if 0 ≤ a0.At ∧ a0.At < (a0.B.length : Int) then
    (a0.B[a0.At.toNat]?).bind fun x8669 =>
    if 0 ≤ a0.At ∧ a0.At ≤ (a0.B.length : Int) ∧ (a0.B.length : Int) ≤ (a0.B.length : Int) then
      (correctorref1_Next F ((a0.B.take (a0.B.length : Int).toNat).drop a0.At.toNat)).bind fun r8680 =>
      (correctorref6_scanner_names F a0 (w64 (a0.At + 1)) false).bind fun r8687 =>
      ((if (x8669.toNat : Int) = (45 : Int) then
          if a0.Open = (0 : Int) then
            if a0.Only = true then
              (correctorref6_scanner_ended F a0 (w64 (a0.At + 1))).bind fun r8731 =>
              some r8731
            else
              some false
          else
            some false
        else
          some false) : Option Bool).bind fun o => match o with
        | x8743 => if x8743 = true then
          (correctorref6_scanner_add F a0 5 (w64 (a0.At + 1))).bind fun r8747 =>
          some r8747
        else
          (correctorref6_scanner_colon F a0 a0.At).bind fun r8763 =>
          if r8763 = true then
            (correctorref6_scanner_add F a0 6 (w64 (a0.At + 1))).bind fun r8775 =>
            some r8775
          else
            ((if (x8669.toNat : Int) = (38 : Int) then
                if (w64 (a0.At + 1)) < r8687 then
                  some true
                else
                  some false
              else
                some false) : Option Bool).bind fun o => match o with
              | x8800 => if x8800 = true then
                (correctorref6_scanner_add F a0 12 r8687).bind fun r8804 =>
                some r8804
              else
                ((if (x8669.toNat : Int) = (42 : Int) then
                    if (w64 (a0.At + 1)) < r8687 then
                      some true
                    else
                      some false
                  else
                    some false) : Option Bool).bind fun o => match o with
                  | x8829 => if x8829 = true then
                    (correctorref6_scanner_add F a0 13 r8687).bind fun r8833 =>
                    some r8833
                  else
                    if (x8669.toNat : Int) = (33 : Int) then
                      (correctorref6_scanner_names F a0 (w64 (a0.At + 1)) true).bind fun r8851 =>
                      (correctorref6_scanner_add F a0 14 r8851).bind fun r8862 =>
                      some r8862
                    else
                      if (x8669.toNat : Int) = (39 : Int) then
                        (correctorref6_scanner_rowEnd F a0 a0.At).bind fun r8880 =>
                        (correctorref6_scanner_single F a0 (w64 (a0.At + 1)) r8880).bind fun r8891 =>
                        (correctorref6_scanner_add F a0 16 r8891).bind fun r8902 =>
                        some r8902
                      else
                        if (x8669.toNat : Int) = (34 : Int) then
                          (correctorref6_scanner_rowEnd F a0 a0.At).bind fun r8920 =>
                          (correctorref6_scanner_double F a0 (w64 (a0.At + 1)) r8920).bind fun r8931 =>
                          (correctorref6_scanner_rowEnd F a0 a0.At).bind fun r8942 =>
                          (correctorref6_scanner_add F a0 17 (imin r8931 r8942)).bind fun r8953 =>
                          some r8953
                        else
                          (correctorref6_scanner_head F a0).bind fun r8981 =>
                          if (0 : Int) < r8981 then
                            ((if a0.Base < (0 : Int) then
                                some (⟨a0.B, a0.At, a0.Row, a0.Open, a0.Base, a0.Only, w64 ((w64 (a0.At - a0.Row)) - 1), a0.L⟩ : correctorref6_scanner)
                              else
                                some (⟨a0.B, a0.At, a0.Row, a0.Open, a0.Base, a0.Only, a0.Base, a0.L⟩ : correctorref6_scanner)) : Option correctorref6_scanner).bind fun o => match o with
                              | x9005 => (correctorref6_scanner_head F x9005).bind fun r9012 =>
                              (correctorref6_scanner_add F x9005 18 (w64 (a0.At + r9012))).bind fun r9023 =>
                              some r9023
                          else
                            if r8680.1 < (0 : Int) then
                              (correctorref6_scanner_add F a0 22 (w64 (a0.At + 1))).bind fun r9045 =>
                              some r9045
                            else
                              (correctorref6_scanner_plain F a0).bind fun r9061 =>
                              (correctorref6_scanner_add F a0 15 r9061).bind fun r9072 =>
                              some r9072
    else none
  else none
theorem correctorref6_scanner_word_ok (F : Nat) {h : AH} {Z : Zn} {a0 : correctorref6_scanner} {b5362 : Nat} {v5364 : Value} {v5366 : Value} {c5367 : List Value} (hP : Pre Z h [.blk b5362 (K52 v5364 v5366 a0), .gs v5366 c5367 (csz api_Token)]) (q5363 : RS (α := UInt8) Z v5364 a0.B) (q5365 : RCs (α := api_Token) Z c5367 a0.L) {r : correctorref6_scanner} (hm : correctorref6_scanner_word F a0 = some r) :
    ∃ v h' Z' A', callI Go.Proofs.Try.prog 21 [Pt b5362 0] h = some (v, h') ∧ St h (idsL [.blk b5362 (K52 v5364 v5366 a0), .gs v5366 c5367 (csz api_Token)]) Z (0, 0) Z' h' A' ∧ ∃ v8658 : Value, ∃ v8660 : Value, ∃ c8661 : List Value, .tuple #[] = v ∧ A' = [.blk b5362 (K52 v8658 v8660 r), .gs v8660 c8661 (csz api_Token)] ∧ RS (α := UInt8) Z' v8658 r.B ∧ RCs (α := api_Token) Z' c8661 r.L := by
  refine fn_intro (A := [.blk b5362 (K52 v5364 v5366 a0), .gs v5366 c5367 (csz api_Token)]) (Q := fun v Z' A' => ∃ v8658 : Value, ∃ v8660 : Value, ∃ c8661 : List Value, .tuple #[] = v ∧ A' = [.blk b5362 (K52 v8658 v8660 r), .gs v8660 c8661 (csz api_Token)] ∧ RS (α := UInt8) Z' v8658 r.B ∧ RCs (α := api_Token) Z' c8661 r.L) Go.Proofs.Try.func21 rfl rfl (by kernel_rfl) hP ?_
  intro hs hS
  unfold correctorref6_scanner_word at hm
  refine srF r21_0 hS ?_
  intro bs8662 h8663 hlv8665 hS8664
  refine yq 3 [(9, Pt b5362 0), (0, Pt b5362 0)] ?_
  have lt8666 : b5362 < bs8662 := hlv8665.1 _ (List.mem_of_getElem? (i := 0) rfl) _ (by simp [Itm.ids])
  refine e_lookB rfl trivial rfl (by show b5362 < _; omega) (same1 (v := v5364) (RS.sim1 q5363)) (o_ldb (v := v5364) hS8664 (i := 0) rfl rfl (by kernel_rfl)) trivial ?_
  refine yq 3 [(13, Pt b5362 1), (10, v5364), (0, Pt b5362 0)] ?_
  have lt8667 : b5362 < bs8662 := hlv8665.1 _ (List.mem_of_getElem? (i := 0) rfl) _ (by simp [Itm.ids])
  refine e_lookB rfl trivial rfl (by show b5362 < _; omega) (same1 (v := V a0.At) trivial) (o_ldb (v := V a0.At) hS8664 (i := 0) rfl rfl (by kernel_rfl)) trivial ?_
  obtain ⟨hc8668, hm⟩ := chk hm
  refine e_val rfl trivial (o_index rfl rfl (by kernel_rfl : slTy _ _ = some (csz UInt8)) (RS.based q5363 (by omega)) hc8668.1 hc8668.2) ?_
  obtain ⟨x8669, hx8670, hm⟩ := obind hm
  obtain ⟨cs8671, hc8672, he8673⟩ := RS.elz q5363 (i := a0.At) hx8670
  obtain rfl := rc_UInt8 hc8672
  refine e_lookZ rfl rfl trivial (fun h2 hz => o_lde (w := .int .u8 (x8669.toNat : Int)) (he8673 h2 hz) rfl (by kernel_rfl)) (hS8664.zin0 (Zle.refl _)) (same1 (v := .int .u8 (x8669.toNat : Int)) trivial) trivial ?_
  refine ye 1 [(2, .int .u8 (x8669.toNat : Int)), (0, Pt b5362 0)] ?_
  have hS8675 := hS8664.unres
  refine sr r21_1 ?_
  refine xq 3 [(19, Pt b5362 1), (2, .int .u8 (x8669.toNat : Int)), (0, Pt b5362 0)] ?_
  refine r_step rfl trivial (o_ldb (v := V a0.At) hS8675 (i := 0) rfl rfl (by kernel_rfl)) ?_
  refine xe 1 [(3, V a0.At), (2, .int .u8 (x8669.toNat : Int)), (0, Pt b5362 0)] ?_
  refine sr r21_2 ?_
  refine xq 3 [(24, Pt b5362 0), (3, V a0.At), (2, .int .u8 (x8669.toNat : Int)), (0, Pt b5362 0)] ?_
  refine r_step rfl trivial (o_ldb (v := v5364) hS8675 (i := 0) rfl rfl (by kernel_rfl)) ?_
  refine xq 1 [(26, V a0.At), (25, v5364), (3, V a0.At), (2, .int .u8 (x8669.toNat : Int)), (0, Pt b5362 0)] ?_
  obtain ⟨hc8679, hm⟩ := chk hm
  refine r_exv rfl trivial (o_slice (a := a0.At) (b := (a0.B.length : Int)) q5363 rfl (by kernel_rfl : slTy _ _ = some (csz UInt8)) ⟨_, rfl⟩ rfl hc8679.1 hc8679.2.1 hc8679.2.2) ?_
  intro v8676 q8677
  obtain ⟨r8680, hx8681, hm⟩ := obind hm
  obtain ⟨v8682, h8683, hcl8684, hSc8685, rfl⟩ := correctorref1_Next_ok F hS8675.inv q8677 hx8681
  have hS8686 := St.call (A := []) (B := [.blk b5362 (K52 v5364 v5366 a0), .gs v5366 c5367 (csz api_Token)]) hS8675 hSc8685
  replace hS8686 : St _ _ _ _ _ _ [.blk b5362 (K52 v5364 v5366 a0), .gs v5366 c5367 (csz api_Token)] := hS8686
  refine r_step rfl trivial (o_call hcl8684 rfl rfl rfl) ?_
  refine xe 5 [(4, .int .i32 r8680.1), (3, V a0.At), (2, .int .u8 (x8669.toNat : Int)), (0, Pt b5362 0)] ?_
  refine sr r21_3 ?_
  refine xq 3 [(33, V (w64 (a0.At + 1))), (31, Pt b5362 0), (4, .int .i32 r8680.1), (3, V a0.At), (2, .int .u8 (x8669.toNat : Int)), (0, Pt b5362 0)] ?_
  obtain ⟨r8687, hx8688, hm⟩ := obind hm
  have hF8694 : St _ _ _ _ _ _ ([.blk b5362 (K52 v5364 v5366 a0), .gs v5366 c5367 (csz api_Token)] ++ []) := ((hS8686.front 1 rfl).front 1 rfl)
  obtain ⟨v8689, h8690, Z8695, A8697, hcl8691, hSc8692, rfl, rfl⟩ := correctorref6_scanner_names_ok F hF8694.preL q5363 q5365 hx8688
  have hZ8696 := hSc8692.zle
  have hS8693 := hF8694.call hSc8692
  replace hS8693 : St _ _ _ _ _ _ [.blk b5362 (K52 v5364 v5366 a0), .gs v5366 c5367 (csz api_Token)] := hS8693
  refine r_step rfl trivial (o_call hcl8691 rfl rfl rfl) ?_
  refine xe 1 [(6, V r8687), (4, .int .i32 r8680.1), (3, V a0.At), (2, .int .u8 (x8669.toNat : Int)), (0, Pt b5362 0)] ?_
  refine bk 0 ?_
  refine sq ?_
  obtain ⟨o8727, ho8726, hm⟩ := obind hm
  refine W_join [0, 2, 3, 4, 6, 39] (fun l h => ∃ Z8742 : Zn, ∃ x8743 : Bool, x8743 = o8727 ∧ l = [(0, Pt b5362 0), (2, .int .u8 (x8669.toNat : Int)), (3, V a0.At), (4, .int .i32 r8680.1), (6, V r8687), (39, .bool x8743)] ∧ St hs (idsL [.blk b5362 (K52 v5364 v5366 a0), .gs v5366 c5367 (csz api_Token)]) Z (0, 0) Z8742 h [.blk b5362 (K52 v5364 v5366 a0), .gs v5366 c5367 (csz api_Token)]) ?_ ?_
  rintro l h8744 ⟨Z8742, x8743, rfl, rfl, hS8745⟩
  try dsimp only at hm
  rcases ifs hm with ⟨hp8746, hm⟩ | ⟨hp8746, hm⟩
  refine W_condT (x := .tmp 39) (by kernel_rfl) rfl hp8746 ?_
  refine rg r21_6 ?_
  refine xq 3 [(63, V (w64 (a0.At + 1))), (61, Pt b5362 0)] ?_
  obtain ⟨r8747, hx8748, hm⟩ := obind hm
  have hF8754 : St _ _ _ _ _ _ ([.blk b5362 (K52 v5364 v5366 a0), .gs v5366 c5367 (csz api_Token)] ++ []) := ((hS8745.front 1 rfl).front 1 rfl)
  obtain ⟨v8749, h8750, Z8755, A8757, hcl8751, hSc8752, v8759, v8761, c8762, rfl, rfl, q8758, q8760⟩ := correctorref6_scanner_add_ok F hF8754.preL (q5363.mono hS8745.zle) (q5365.mono hS8745.zle) hx8748
  have hZ8756 := hSc8752.zle
  have hS8753 := hF8754.call hSc8752
  replace hS8753 : St _ _ _ _ _ _ [.blk b5362 (K52 v8759 v8761 r8747), .gs v8761 c8762 (csz api_Token)] := hS8753
  refine r_step rfl trivial (o_call hcl8751 rfl rfl rfl) ?_
  refine xf [] ?_
  obtain rfl := Option.some.inj hm
  refine ⟨_, _, _, ResL.nil, hS8753, ?_⟩
  exact ⟨v8759, v8761, c8762, rfl, rfl, q8758, q8760⟩
  refine W_condF (x := .tmp 39) (by kernel_rfl) rfl (Bool.eq_false_iff.2 hp8746) ?_
  refine sr r21_7 ?_
  refine xq 2 [(67, V a0.At), (66, Pt b5362 0), (0, Pt b5362 0), (2, .int .u8 (x8669.toNat : Int)), (3, V a0.At), (4, .int .i32 r8680.1), (6, V r8687)] ?_
  obtain ⟨r8763, hx8764, hm⟩ := obind hm
  have hF8770 : St _ _ _ _ _ _ ([.blk b5362 (K52 v5364 v5366 a0), .gs v5366 c5367 (csz api_Token)] ++ []) := ((hS8745.front 1 rfl).front 1 rfl)
  obtain ⟨v8765, h8766, Z8771, A8773, hcl8767, hSc8768, rfl, rfl⟩ := correctorref6_scanner_colon_ok F hF8770.preL (q5363.mono hS8745.zle) (q5365.mono hS8745.zle) hx8764
  have hZ8772 := hSc8768.zle
  have hS8769 := hF8770.call hSc8768
  replace hS8769 : St _ _ _ _ _ _ [.blk b5362 (K52 v5364 v5366 a0), .gs v5366 c5367 (csz api_Token)] := hS8769
  refine r_step rfl trivial (o_call hcl8767 rfl rfl rfl) ?_
  refine xe 1 [(65, .bool r8763), (0, Pt b5362 0), (2, .int .u8 (x8669.toNat : Int)), (3, V a0.At), (4, .int .i32 r8680.1), (6, V r8687)] ?_
  rcases ifs hm with ⟨hp8774, hm⟩ | ⟨hp8774, hm⟩
  refine W_condT (x := .tmp 65) (by kernel_rfl) rfl hp8774 ?_
  refine rg r21_8 ?_
  refine xq 3 [(71, V (w64 (a0.At + 1))), (69, Pt b5362 0)] ?_
  obtain ⟨r8775, hx8776, hm⟩ := obind hm
  have hF8782 : St _ _ _ _ _ _ ([.blk b5362 (K52 v5364 v5366 a0), .gs v5366 c5367 (csz api_Token)] ++ []) := ((hS8769.front 1 rfl).front 1 rfl)
  obtain ⟨v8777, h8778, Z8783, A8785, hcl8779, hSc8780, v8787, v8789, c8790, rfl, rfl, q8786, q8788⟩ := correctorref6_scanner_add_ok F hF8782.preL (q5363.mono (hS8745.zle.trans hZ8772)) (q5365.mono (hS8745.zle.trans hZ8772)) hx8776
  have hZ8784 := hSc8780.zle
  have hS8781 := hF8782.call hSc8780
  replace hS8781 : St _ _ _ _ _ _ [.blk b5362 (K52 v8787 v8789 r8775), .gs v8789 c8790 (csz api_Token)] := hS8781
  refine r_step rfl trivial (o_call hcl8779 rfl rfl rfl) ?_
  refine xf [] ?_
  obtain rfl := Option.some.inj hm
  refine ⟨_, _, _, ResL.nil, hS8781, ?_⟩
  exact ⟨v8787, v8789, c8790, rfl, rfl, q8786, q8788⟩
  refine W_condF (x := .tmp 65) (by kernel_rfl) rfl (Bool.eq_false_iff.2 hp8774) ?_
  refine sq ?_
  obtain ⟨o8796, ho8795, hm⟩ := obind hm
  refine W_join [0, 2, 3, 4, 6, 73] (fun l h => ∃ Z8799 : Zn, ∃ x8800 : Bool, x8800 = o8796 ∧ l = [(0, Pt b5362 0), (2, .int .u8 (x8669.toNat : Int)), (3, V a0.At), (4, .int .i32 r8680.1), (6, V r8687), (73, .bool x8800)] ∧ St hs (idsL [.blk b5362 (K52 v5364 v5366 a0), .gs v5366 c5367 (csz api_Token)]) Z (0, 0) Z8799 h [.blk b5362 (K52 v5364 v5366 a0), .gs v5366 c5367 (csz api_Token)]) ?_ ?_
  rintro l h8801 ⟨Z8799, x8800, rfl, rfl, hS8802⟩
  try dsimp only at hm
  rcases ifs hm with ⟨hp8803, hm⟩ | ⟨hp8803, hm⟩
  refine W_condT (x := .tmp 73) (by kernel_rfl) rfl hp8803 ?_
  refine rg r21_10 ?_
  refine xq 2 [(83, V r8687), (82, Pt b5362 0)] ?_
  obtain ⟨r8804, hx8805, hm⟩ := obind hm
  have hF8811 : St _ _ _ _ _ _ ([.blk b5362 (K52 v5364 v5366 a0), .gs v5366 c5367 (csz api_Token)] ++ []) := ((hS8802.front 1 rfl).front 1 rfl)
  obtain ⟨v8806, h8807, Z8812, A8814, hcl8808, hSc8809, v8816, v8818, c8819, rfl, rfl, q8815, q8817⟩ := correctorref6_scanner_add_ok F hF8811.preL (q5363.mono hS8802.zle) (q5365.mono hS8802.zle) hx8805
  have hZ8813 := hSc8809.zle
  have hS8810 := hF8811.call hSc8809
  replace hS8810 : St _ _ _ _ _ _ [.blk b5362 (K52 v8816 v8818 r8804), .gs v8818 c8819 (csz api_Token)] := hS8810
  refine r_step rfl trivial (o_call hcl8808 rfl rfl rfl) ?_
  refine xf [] ?_
  obtain rfl := Option.some.inj hm
  refine ⟨_, _, _, ResL.nil, hS8810, ?_⟩
  exact ⟨v8816, v8818, c8819, rfl, rfl, q8815, q8817⟩
  refine W_condF (x := .tmp 73) (by kernel_rfl) rfl (Bool.eq_false_iff.2 hp8803) ?_
  refine sq ?_
  obtain ⟨o8825, ho8824, hm⟩ := obind hm
  refine W_join [0, 2, 3, 4, 6, 85] (fun l h => ∃ Z8828 : Zn, ∃ x8829 : Bool, x8829 = o8825 ∧ l = [(0, Pt b5362 0), (2, .int .u8 (x8669.toNat : Int)), (3, V a0.At), (4, .int .i32 r8680.1), (6, V r8687), (85, .bool x8829)] ∧ St hs (idsL [.blk b5362 (K52 v5364 v5366 a0), .gs v5366 c5367 (csz api_Token)]) Z (0, 0) Z8828 h [.blk b5362 (K52 v5364 v5366 a0), .gs v5366 c5367 (csz api_Token)]) ?_ ?_
  rintro l h8830 ⟨Z8828, x8829, rfl, rfl, hS8831⟩
  try dsimp only at hm
  rcases ifs hm with ⟨hp8832, hm⟩ | ⟨hp8832, hm⟩
  refine W_condT (x := .tmp 85) (by kernel_rfl) rfl hp8832 ?_
  refine rg r21_12 ?_
  refine xq 2 [(95, V r8687), (94, Pt b5362 0)] ?_
  obtain ⟨r8833, hx8834, hm⟩ := obind hm
  have hF8840 : St _ _ _ _ _ _ ([.blk b5362 (K52 v5364 v5366 a0), .gs v5366 c5367 (csz api_Token)] ++ []) := ((hS8831.front 1 rfl).front 1 rfl)
  obtain ⟨v8835, h8836, Z8841, A8843, hcl8837, hSc8838, v8845, v8847, c8848, rfl, rfl, q8844, q8846⟩ := correctorref6_scanner_add_ok F hF8840.preL (q5363.mono hS8831.zle) (q5365.mono hS8831.zle) hx8834
  have hZ8842 := hSc8838.zle
  have hS8839 := hF8840.call hSc8838
  replace hS8839 : St _ _ _ _ _ _ [.blk b5362 (K52 v8845 v8847 r8833), .gs v8847 c8848 (csz api_Token)] := hS8839
  refine r_step rfl trivial (o_call hcl8837 rfl rfl rfl) ?_
  refine xf [] ?_
  obtain rfl := Option.some.inj hm
  refine ⟨_, _, _, ResL.nil, hS8839, ?_⟩
  exact ⟨v8845, v8847, c8848, rfl, rfl, q8844, q8846⟩
  refine W_condF (x := .tmp 85) (by kernel_rfl) rfl (Bool.eq_false_iff.2 hp8832) ?_
  refine sr r21_13 ?_
  refine xq 1 [(98, .int .u8 (x8669.toNat : Int)), (0, Pt b5362 0), (2, .int .u8 (x8669.toNat : Int)), (3, V a0.At), (4, .int .i32 r8680.1)] ?_
  rcases ifs hm with ⟨hp8850, hm⟩ | ⟨hp8850, hm⟩
  refine r_step rfl trivial (o_cmp rfl rfl (c_eql_T hp8850)) ?_
  refine xe 1 [(97, .bool true), (0, Pt b5362 0), (2, .int .u8 (x8669.toNat : Int)), (3, V a0.At), (4, .int .i32 r8680.1)] ?_
  refine cT 97 rfl ?_
  refine rg r21_14 ?_
  refine xq 4 [(103, V (w64 (a0.At + 1))), (101, Pt b5362 0), (100, Pt b5362 0)] ?_
  obtain ⟨r8851, hx8852, hm⟩ := obind hm
  have hF8858 : St _ _ _ _ _ _ ([.blk b5362 (K52 v5364 v5366 a0), .gs v5366 c5367 (csz api_Token)] ++ []) := ((hS8831.front 1 rfl).front 1 rfl)
  obtain ⟨v8853, h8854, Z8859, A8861, hcl8855, hSc8856, rfl, rfl⟩ := correctorref6_scanner_names_ok F hF8858.preL (q5363.mono hS8831.zle) (q5365.mono hS8831.zle) hx8852
  have hZ8860 := hSc8856.zle
  have hS8857 := hF8858.call hSc8856
  replace hS8857 : St _ _ _ _ _ _ [.blk b5362 (K52 v5364 v5366 a0), .gs v5366 c5367 (csz api_Token)] := hS8857
  refine r_step rfl trivial (o_call hcl8855 rfl rfl rfl) ?_
  obtain ⟨r8862, hx8863, hm⟩ := obind hm
  have hF8869 : St _ _ _ _ _ _ ([.blk b5362 (K52 v5364 v5366 a0), .gs v5366 c5367 (csz api_Token)] ++ []) := ((hS8857.front 1 rfl).front 1 rfl)
  obtain ⟨v8864, h8865, Z8870, A8872, hcl8866, hSc8867, v8874, v8876, c8877, rfl, rfl, q8873, q8875⟩ := correctorref6_scanner_add_ok F hF8869.preL (q5363.mono (hS8831.zle.trans hZ8860)) (q5365.mono (hS8831.zle.trans hZ8860)) hx8863
  have hZ8871 := hSc8867.zle
  have hS8868 := hF8869.call hSc8867
  replace hS8868 : St _ _ _ _ _ _ [.blk b5362 (K52 v8874 v8876 r8862), .gs v8876 c8877 (csz api_Token)] := hS8868
  refine r_step rfl trivial (o_call hcl8866 rfl rfl rfl) ?_
  refine xf [] ?_
  obtain rfl := Option.some.inj hm
  refine ⟨_, _, _, ResL.nil, hS8868, ?_⟩
  exact ⟨v8874, v8876, c8877, rfl, rfl, q8873, q8875⟩
  refine r_step rfl trivial (o_cmp rfl rfl (c_eql_F hp8850)) ?_
  refine xe 1 [(97, .bool false), (0, Pt b5362 0), (2, .int .u8 (x8669.toNat : Int)), (3, V a0.At), (4, .int .i32 r8680.1)] ?_
  refine cF 97 rfl ?_
  refine sr r21_15 ?_
  refine xq 1 [(107, .int .u8 (x8669.toNat : Int)), (0, Pt b5362 0), (2, .int .u8 (x8669.toNat : Int)), (3, V a0.At), (4, .int .i32 r8680.1)] ?_
  rcases ifs hm with ⟨hp8879, hm⟩ | ⟨hp8879, hm⟩
  refine r_step rfl trivial (o_cmp rfl rfl (c_eql_T hp8879)) ?_
  refine xe 1 [(106, .bool true), (0, Pt b5362 0), (2, .int .u8 (x8669.toNat : Int)), (3, V a0.At), (4, .int .i32 r8680.1)] ?_
  refine cT 106 rfl ?_
  refine rg r21_16 ?_
  refine xq 6 [(114, V a0.At), (113, Pt b5362 0), (112, V (w64 (a0.At + 1))), (110, Pt b5362 0), (109, Pt b5362 0)] ?_
  obtain ⟨r8880, hx8881, hm⟩ := obind hm
  have hF8887 : St _ _ _ _ _ _ ([.blk b5362 (K52 v5364 v5366 a0), .gs v5366 c5367 (csz api_Token)] ++ []) := ((hS8831.front 1 rfl).front 1 rfl)
  obtain ⟨v8882, h8883, Z8888, A8890, hcl8884, hSc8885, rfl, rfl⟩ := correctorref6_scanner_rowEnd_ok F hF8887.preL (q5363.mono hS8831.zle) (q5365.mono hS8831.zle) hx8881
  have hZ8889 := hSc8885.zle
  have hS8886 := hF8887.call hSc8885
  replace hS8886 : St _ _ _ _ _ _ [.blk b5362 (K52 v5364 v5366 a0), .gs v5366 c5367 (csz api_Token)] := hS8886
  refine r_step rfl trivial (o_call hcl8884 rfl rfl rfl) ?_
  obtain ⟨r8891, hx8892, hm⟩ := obind hm
  have hF8898 : St _ _ _ _ _ _ ([.blk b5362 (K52 v5364 v5366 a0), .gs v5366 c5367 (csz api_Token)] ++ []) := ((hS8886.front 1 rfl).front 1 rfl)
  obtain ⟨v8893, h8894, Z8899, A8901, hcl8895, hSc8896, rfl, rfl⟩ := correctorref6_scanner_single_ok F hF8898.preL (q5363.mono (hS8831.zle.trans hZ8889)) (q5365.mono (hS8831.zle.trans hZ8889)) hx8892
  have hZ8900 := hSc8896.zle
  have hS8897 := hF8898.call hSc8896
  replace hS8897 : St _ _ _ _ _ _ [.blk b5362 (K52 v5364 v5366 a0), .gs v5366 c5367 (csz api_Token)] := hS8897
  refine r_step rfl trivial (o_call hcl8895 rfl rfl rfl) ?_
  obtain ⟨r8902, hx8903, hm⟩ := obind hm
  have hF8909 : St _ _ _ _ _ _ ([.blk b5362 (K52 v5364 v5366 a0), .gs v5366 c5367 (csz api_Token)] ++ []) := ((hS8897.front 1 rfl).front 1 rfl)
  obtain ⟨v8904, h8905, Z8910, A8912, hcl8906, hSc8907, v8914, v8916, c8917, rfl, rfl, q8913, q8915⟩ := correctorref6_scanner_add_ok F hF8909.preL (q5363.mono (hS8831.zle.trans (hZ8889.trans hZ8900))) (q5365.mono (hS8831.zle.trans (hZ8889.trans hZ8900))) hx8903
  have hZ8911 := hSc8907.zle
  have hS8908 := hF8909.call hSc8907
  replace hS8908 : St _ _ _ _ _ _ [.blk b5362 (K52 v8914 v8916 r8902), .gs v8916 c8917 (csz api_Token)] := hS8908
  refine r_step rfl trivial (o_call hcl8906 rfl rfl rfl) ?_
  refine xf [] ?_
  obtain rfl := Option.some.inj hm
  refine ⟨_, _, _, ResL.nil, hS8908, ?_⟩
  exact ⟨v8914, v8916, c8917, rfl, rfl, q8913, q8915⟩
  refine r_step rfl trivial (o_cmp rfl rfl (c_eql_F hp8879)) ?_
  refine xe 1 [(106, .bool false), (0, Pt b5362 0), (2, .int .u8 (x8669.toNat : Int)), (3, V a0.At), (4, .int .i32 r8680.1)] ?_
  refine cF 106 rfl ?_
  refine sr r21_17 ?_
  refine xq 1 [(119, .int .u8 (x8669.toNat : Int)), (0, Pt b5362 0), (3, V a0.At), (4, .int .i32 r8680.1)] ?_
  rcases ifs hm with ⟨hp8919, hm⟩ | ⟨hp8919, hm⟩
  refine r_step rfl trivial (o_cmp rfl rfl (c_eql_T hp8919)) ?_
  refine xe 1 [(118, .bool true), (0, Pt b5362 0), (3, V a0.At), (4, .int .i32 r8680.1)] ?_
  refine cT 118 rfl ?_
  refine rg r21_18 ?_
  refine xq 6 [(126, V a0.At), (125, Pt b5362 0), (124, V (w64 (a0.At + 1))), (122, Pt b5362 0), (121, Pt b5362 0), (0, Pt b5362 0), (3, V a0.At)] ?_
  obtain ⟨r8920, hx8921, hm⟩ := obind hm
  have hF8927 : St _ _ _ _ _ _ ([.blk b5362 (K52 v5364 v5366 a0), .gs v5366 c5367 (csz api_Token)] ++ []) := ((hS8831.front 1 rfl).front 1 rfl)
  obtain ⟨v8922, h8923, Z8928, A8930, hcl8924, hSc8925, rfl, rfl⟩ := correctorref6_scanner_rowEnd_ok F hF8927.preL (q5363.mono hS8831.zle) (q5365.mono hS8831.zle) hx8921
  have hZ8929 := hSc8925.zle
  have hS8926 := hF8927.call hSc8925
  replace hS8926 : St _ _ _ _ _ _ [.blk b5362 (K52 v5364 v5366 a0), .gs v5366 c5367 (csz api_Token)] := hS8926
  refine r_step rfl trivial (o_call hcl8924 rfl rfl rfl) ?_
  obtain ⟨r8931, hx8932, hm⟩ := obind hm
  have hF8938 : St _ _ _ _ _ _ ([.blk b5362 (K52 v5364 v5366 a0), .gs v5366 c5367 (csz api_Token)] ++ []) := ((hS8926.front 1 rfl).front 1 rfl)
  obtain ⟨v8933, h8934, Z8939, A8941, hcl8935, hSc8936, rfl, rfl⟩ := correctorref6_scanner_double_ok F hF8938.preL (q5363.mono (hS8831.zle.trans hZ8929)) (q5365.mono (hS8831.zle.trans hZ8929)) hx8932
  have hZ8940 := hSc8936.zle
  have hS8937 := hF8938.call hSc8936
  replace hS8937 : St _ _ _ _ _ _ [.blk b5362 (K52 v5364 v5366 a0), .gs v5366 c5367 (csz api_Token)] := hS8937
  refine r_step rfl trivial (o_call hcl8935 rfl rfl rfl) ?_
  refine xq 2 [(130, V a0.At), (129, Pt b5362 0), (128, V r8931), (121, Pt b5362 0)] ?_
  obtain ⟨r8942, hx8943, hm⟩ := obind hm
  have hF8949 : St _ _ _ _ _ _ ([.blk b5362 (K52 v5364 v5366 a0), .gs v5366 c5367 (csz api_Token)] ++ []) := ((hS8937.front 1 rfl).front 1 rfl)
  obtain ⟨v8944, h8945, Z8950, A8952, hcl8946, hSc8947, rfl, rfl⟩ := correctorref6_scanner_rowEnd_ok F hF8949.preL (q5363.mono (hS8831.zle.trans (hZ8929.trans hZ8940))) (q5365.mono (hS8831.zle.trans (hZ8929.trans hZ8940))) hx8943
  have hZ8951 := hSc8947.zle
  have hS8948 := hF8949.call hSc8947
  replace hS8948 : St _ _ _ _ _ _ [.blk b5362 (K52 v5364 v5366 a0), .gs v5366 c5367 (csz api_Token)] := hS8948
  refine r_step rfl trivial (o_call hcl8946 rfl rfl rfl) ?_
  refine xq 1 [(132, V (imin r8931 r8942)), (121, Pt b5362 0)] ?_
  obtain ⟨r8953, hx8954, hm⟩ := obind hm
  have hF8960 : St _ _ _ _ _ _ ([.blk b5362 (K52 v5364 v5366 a0), .gs v5366 c5367 (csz api_Token)] ++ []) := ((hS8948.front 1 rfl).front 1 rfl)
  obtain ⟨v8955, h8956, Z8961, A8963, hcl8957, hSc8958, v8965, v8967, c8968, rfl, rfl, q8964, q8966⟩ := correctorref6_scanner_add_ok F hF8960.preL (q5363.mono (hS8831.zle.trans (hZ8929.trans (hZ8940.trans hZ8951)))) (q5365.mono (hS8831.zle.trans (hZ8929.trans (hZ8940.trans hZ8951)))) hx8954
  have hZ8962 := hSc8958.zle
  have hS8959 := hF8960.call hSc8958
  replace hS8959 : St _ _ _ _ _ _ [.blk b5362 (K52 v8965 v8967 r8953), .gs v8967 c8968 (csz api_Token)] := hS8959
  refine r_step rfl trivial (o_call hcl8957 rfl rfl rfl) ?_
  refine xf [] ?_
  obtain rfl := Option.some.inj hm
  refine ⟨_, _, _, ResL.nil, hS8959, ?_⟩
  exact ⟨v8965, v8967, c8968, rfl, rfl, q8964, q8966⟩
  refine r_step rfl trivial (o_cmp rfl rfl (c_eql_F hp8919)) ?_
  refine xe 1 [(118, .bool false), (0, Pt b5362 0), (3, V a0.At), (4, .int .i32 r8680.1)] ?_
  refine cF 118 rfl ?_
  refine sr r21_19 ?_
  refine xq 1 [(135, Pt b5362 0), (0, Pt b5362 0), (3, V a0.At), (4, .int .i32 r8680.1)] ?_
  obtain ⟨r8981, hx8982, hm⟩ := obind hm
  have hF8988 : St _ _ _ _ _ _ ([.blk b5362 (K52 v5364 v5366 a0), .gs v5366 c5367 (csz api_Token)] ++ []) := ((hS8831.front 1 rfl).front 1 rfl)
  obtain ⟨v8983, h8984, Z8989, A8991, hcl8985, hSc8986, rfl, rfl⟩ := correctorref6_scanner_head_ok F hF8988.preL (q5363.mono hS8831.zle) (q5365.mono hS8831.zle) hx8982
  have hZ8990 := hSc8986.zle
  have hS8987 := hF8988.call hSc8986
  replace hS8987 : St _ _ _ _ _ _ [.blk b5362 (K52 v5364 v5366 a0), .gs v5366 c5367 (csz api_Token)] := hS8987
  refine r_step rfl trivial (o_call hcl8985 rfl rfl rfl) ?_
  rcases ifs hm with ⟨hp8992, hm⟩ | ⟨hp8992, hm⟩
  refine r_step rfl trivial (o_cmp rfl rfl (c_gtr_T hp8992)) ?_
  refine xe 1 [(134, .bool true), (0, Pt b5362 0), (3, V a0.At), (4, .int .i32 r8680.1)] ?_
  refine cT 134 rfl ?_
  refine sr r21_20 ?_
  refine xq 4 [(141, Pt b5362 4), (138, Pt b5362 0), (0, Pt b5362 0), (3, V a0.At)] ?_
  refine r_step rfl trivial (o_ldb (v := V a0.Base) hS8987 (i := 0) rfl rfl (by kernel_rfl)) ?_
  refine xq 2 [(144, Pt b5362 6), (142, V a0.Base), (0, Pt b5362 0), (3, V a0.At)] ?_
  refine r_ex1 rfl trivial (o_stb (vs := [V a0.Base]) (cells' := [v5364, V a0.At, V a0.Row, V a0.Open, V a0.Base, .bool a0.Only, V a0.Base, v5366]) (L' := [.blk b5362 [v5364, V a0.At, V a0.Row, V a0.Open, V a0.Base, .bool a0.Only, V a0.Base, v5366], .gs v5366 c5367 (csz api_Token)]) hS8987 (i := 0) rfl rfl rfl rfl (by kernel_rfl) rfl rfl rfl rfl) ?_
  intro h8993 hS8994
  refine xf [(0, Pt b5362 0), (3, V a0.At)] ?_
  refine sq ?_
  obtain ⟨o9000, ho8999, hm⟩ := obind hm
  refine W_seqJoin0 [0, 3] (fun l h => ∃ Z9004 : Zn, ∃ x9005 : correctorref6_scanner, ∃ v9007 : Value, ∃ c9009 : List Value, x9005 = o9000 ∧ RS (α := UInt8) Z9004 v9007 x9005.B ∧ RCs (α := api_Token) Z9004 c9009 x9005.L ∧ l = [(0, Pt b5362 0), (3, V a0.At)] ∧ St hs (idsL [.blk b5362 (K52 v5364 v5366 a0), .gs v5366 c5367 (csz api_Token)]) Z (0, 0) Z9004 h [.blk b5362 (K52 v9007 v5366 x9005), .gs v5366 c9009 (csz api_Token)]) (by kernel_rfl) ?_ ?_
  rintro l h9010 ⟨Z9004, x9005, v9007, c9009, rfl, q9006, q9008, rfl, hS9011⟩
  try dsimp only at hm
  refine rg r21_23 ?_
  refine xq 3 [(162, Pt b5362 0), (161, V a0.At), (160, Pt b5362 0)] ?_
  obtain ⟨r9012, hx9013, hm⟩ := obind hm
  have hF9019 : St _ _ _ _ _ _ ([.blk b5362 (K52 v9007 v5366 x9005), .gs v5366 c9009 (csz api_Token)] ++ []) := ((hS9011.front 1 rfl).front 1 rfl)
  obtain ⟨v9014, h9015, Z9020, A9022, hcl9016, hSc9017, rfl, rfl⟩ := correctorref6_scanner_head_ok F hF9019.preL q9006 q9008 hx9013
  have hZ9021 := hSc9017.zle
  have hS9018 := hF9019.call hSc9017
  replace hS9018 : St _ _ _ _ _ _ [.blk b5362 (K52 v9007 v5366 x9005), .gs v5366 c9009 (csz api_Token)] := hS9018
  refine r_step rfl trivial (o_call hcl9016 rfl rfl rfl) ?_
  refine xq 1 [(164, V (w64 (a0.At + r9012))), (160, Pt b5362 0)] ?_
  obtain ⟨r9023, hx9024, hm⟩ := obind hm
  have hF9030 : St _ _ _ _ _ _ ([.blk b5362 (K52 v9007 v5366 x9005), .gs v5366 c9009 (csz api_Token)] ++ []) := ((hS9018.front 1 rfl).front 1 rfl)
  obtain ⟨v9025, h9026, Z9031, A9033, hcl9027, hSc9028, v9035, v9037, c9038, rfl, rfl, q9034, q9036⟩ := correctorref6_scanner_add_ok F hF9030.preL (q9006.mono hZ9021) (q9008.mono hZ9021) hx9024
  have hZ9032 := hSc9028.zle
  have hS9029 := hF9030.call hSc9028
  replace hS9029 : St _ _ _ _ _ _ [.blk b5362 (K52 v9035 v9037 r9023), .gs v9037 c9038 (csz api_Token)] := hS9029
  refine r_step rfl trivial (o_call hcl9027 rfl rfl rfl) ?_
  refine xf [] ?_
  obtain rfl := Option.some.inj hm
  refine ⟨_, _, _, ResL.nil, hS9029, ?_⟩
  exact ⟨v9035, v9037, c9038, rfl, rfl, q9034, q9036⟩
  refine rg r21_21 ?_
  refine xq 3 [(147, Pt b5362 4), (0, Pt b5362 0), (3, V a0.At)] ?_
  refine r_step rfl trivial (o_ldb (v := V a0.Base) hS8994 (i := 0) rfl rfl (by kernel_rfl)) ?_
  rcases ifs ho8999 with ⟨hp9001, ho8999⟩ | ⟨hp9001, ho8999⟩
  refine r_step rfl trivial (o_cmp rfl rfl (c_lss_T hp9001)) ?_
  refine xf [(149, .bool true), (0, Pt b5362 0), (3, V a0.At)] ?_
  refine cT 149 rfl ?_
  refine rg r21_22 ?_
  refine xq 5 [(154, Pt b5362 2), (151, V a0.At), (150, Pt b5362 0), (0, Pt b5362 0), (3, V a0.At)] ?_
  refine r_step rfl trivial (o_ldb (v := V a0.Row) hS8994 (i := 0) rfl rfl (by kernel_rfl)) ?_
  refine xq 4 [(159, Pt b5362 6), (157, V (w64 ((w64 (a0.At - a0.Row)) - 1))), (0, Pt b5362 0), (3, V a0.At)] ?_
  refine r_ex1 rfl trivial (o_stb (vs := [V (w64 ((w64 (a0.At - a0.Row)) - 1))]) (cells' := [v5364, V a0.At, V a0.Row, V a0.Open, V a0.Base, .bool a0.Only, V (w64 ((w64 (a0.At - a0.Row)) - 1)), v5366]) (L' := [.blk b5362 [v5364, V a0.At, V a0.Row, V a0.Open, V a0.Base, .bool a0.Only, V (w64 ((w64 (a0.At - a0.Row)) - 1)), v5366], .gs v5366 c5367 (csz api_Token)]) hS8994 (i := 0) rfl rfl rfl rfl (by kernel_rfl) rfl rfl rfl rfl) ?_
  intro h9002 hS9003
  refine xf [(0, Pt b5362 0), (3, V a0.At)] ?_
  obtain rfl := Option.some.inj ho8999
  exact ⟨_, (⟨a0.B, a0.At, a0.Row, a0.Open, a0.Base, a0.Only, w64 ((w64 (a0.At - a0.Row)) - 1), a0.L⟩ : correctorref6_scanner), v5364, c5367, rfl, (q5363.mono (hS8831.zle.trans hZ8990)), (q5365.mono (hS8831.zle.trans hZ8990)), rfl, hS9003⟩
  refine r_step rfl trivial (o_cmp rfl rfl (c_lss_F hp9001)) ?_
  refine xf [(149, .bool false), (0, Pt b5362 0), (3, V a0.At)] ?_
  refine kF 149 rfl ?_
  obtain rfl := Option.some.inj ho8999
  exact ⟨_, (⟨a0.B, a0.At, a0.Row, a0.Open, a0.Base, a0.Only, a0.Base, a0.L⟩ : correctorref6_scanner), v5364, c5367, rfl, (q5363.mono (hS8831.zle.trans hZ8990)), (q5365.mono (hS8831.zle.trans hZ8990)), rfl, hS8994⟩
  refine r_step rfl trivial (o_cmp rfl rfl (c_gtr_F hp8992)) ?_
  refine xe 1 [(134, .bool false), (0, Pt b5362 0), (3, V a0.At), (4, .int .i32 r8680.1)] ?_
  refine cF 134 rfl ?_
  refine sr r21_24 ?_
  refine xq 1 [(167, .int .i32 r8680.1), (0, Pt b5362 0), (3, V a0.At)] ?_
  rcases ifs hm with ⟨hp9044, hm⟩ | ⟨hp9044, hm⟩
  refine r_step rfl trivial (o_cmp rfl rfl (c_lss_T hp9044)) ?_
  refine xe 1 [(166, .bool true), (0, Pt b5362 0), (3, V a0.At)] ?_
  refine cT 166 rfl ?_
  refine rg r21_25 ?_
  refine xq 3 [(171, V (w64 (a0.At + 1))), (169, Pt b5362 0)] ?_
  obtain ⟨r9045, hx9046, hm⟩ := obind hm
  have hF9052 : St _ _ _ _ _ _ ([.blk b5362 (K52 v5364 v5366 a0), .gs v5366 c5367 (csz api_Token)] ++ []) := ((hS8987.front 1 rfl).front 1 rfl)
  obtain ⟨v9047, h9048, Z9053, A9055, hcl9049, hSc9050, v9057, v9059, c9060, rfl, rfl, q9056, q9058⟩ := correctorref6_scanner_add_ok F hF9052.preL (q5363.mono (hS8831.zle.trans hZ8990)) (q5365.mono (hS8831.zle.trans hZ8990)) hx9046
  have hZ9054 := hSc9050.zle
  have hS9051 := hF9052.call hSc9050
  replace hS9051 : St _ _ _ _ _ _ [.blk b5362 (K52 v9057 v9059 r9045), .gs v9059 c9060 (csz api_Token)] := hS9051
  refine r_step rfl trivial (o_call hcl9049 rfl rfl rfl) ?_
  refine xf [] ?_
  obtain rfl := Option.some.inj hm
  refine ⟨_, _, _, ResL.nil, hS9051, ?_⟩
  exact ⟨v9057, v9059, c9060, rfl, rfl, q9056, q9058⟩
  refine r_step rfl trivial (o_cmp rfl rfl (c_lss_F hp9044)) ?_
  refine xe 1 [(166, .bool false), (0, Pt b5362 0), (3, V a0.At)] ?_
  refine cF 166 rfl ?_
  refine rg r21_4 ?_
  refine xq 2 [(36, Pt b5362 0), (35, Pt b5362 0)] ?_
  obtain ⟨r9061, hx9062, hm⟩ := obind hm
  have hF9068 : St _ _ _ _ _ _ ([.blk b5362 (K52 v5364 v5366 a0), .gs v5366 c5367 (csz api_Token)] ++ []) := ((hS8987.front 1 rfl).front 1 rfl)
  obtain ⟨v9063, h9064, Z9069, A9071, hcl9065, hSc9066, rfl, rfl⟩ := correctorref6_scanner_plain_ok F hF9068.preL (q5363.mono (hS8831.zle.trans hZ8990)) (q5365.mono (hS8831.zle.trans hZ8990)) hx9062
  have hZ9070 := hSc9066.zle
  have hS9067 := hF9068.call hSc9066
  replace hS9067 : St _ _ _ _ _ _ [.blk b5362 (K52 v5364 v5366 a0), .gs v5366 c5367 (csz api_Token)] := hS9067
  refine r_step rfl trivial (o_call hcl9065 rfl rfl rfl) ?_
  obtain ⟨r9072, hx9073, hm⟩ := obind hm
  have hF9079 : St _ _ _ _ _ _ ([.blk b5362 (K52 v5364 v5366 a0), .gs v5366 c5367 (csz api_Token)] ++ []) := ((hS9067.front 1 rfl).front 1 rfl)
  obtain ⟨v9074, h9075, Z9080, A9082, hcl9076, hSc9077, v9084, v9086, c9087, rfl, rfl, q9083, q9085⟩ := correctorref6_scanner_add_ok F hF9079.preL (q5363.mono (hS8831.zle.trans (hZ8990.trans hZ9070))) (q5365.mono (hS8831.zle.trans (hZ8990.trans hZ9070))) hx9073
  have hZ9081 := hSc9077.zle
  have hS9078 := hF9079.call hSc9077
  replace hS9078 : St _ _ _ _ _ _ [.blk b5362 (K52 v9084 v9086 r9072), .gs v9086 c9087 (csz api_Token)] := hS9078
  refine r_step rfl trivial (o_call hcl9076 rfl rfl rfl) ?_
  refine xf [] ?_
  obtain rfl := Option.some.inj hm
  refine ⟨_, _, _, ResL.nil, hS9078, ?_⟩
  exact ⟨v9084, v9086, c9087, rfl, rfl, q9083, q9085⟩
  refine rg r21_11 ?_
  refine xq 1 [(86, .int .u8 (x8669.toNat : Int)), (0, Pt b5362 0), (2, .int .u8 (x8669.toNat : Int)), (3, V a0.At), (4, .int .i32 r8680.1), (6, V r8687)] ?_
  rcases ifs ho8824 with ⟨hp8826, ho8824⟩ | ⟨hp8826, ho8824⟩
  refine r_step rfl trivial (o_cmp rfl rfl (c_eql_T hp8826)) ?_
  refine xq 4 [(91, V (w64 (a0.At + 1))), (89, V r8687), (88, .bool true), (0, Pt b5362 0), (2, .int .u8 (x8669.toNat : Int)), (3, V a0.At), (4, .int .i32 r8680.1), (6, V r8687)] ?_
  rcases ifs ho8824 with ⟨hp8827, ho8824⟩ | ⟨hp8827, ho8824⟩
  refine r_step rfl rfl (o_cmp rfl rfl (c_gtr_T hp8827)) ?_
  refine xe 2 [(85, .bool true), (0, Pt b5362 0), (2, .int .u8 (x8669.toNat : Int)), (3, V a0.At), (4, .int .i32 r8680.1), (6, V r8687)] ?_
  obtain rfl := Option.some.inj ho8824
  exact ⟨_, true, rfl, rfl, hS8802⟩
  refine r_step rfl rfl (o_cmp rfl rfl (c_gtr_F hp8827)) ?_
  refine xe 2 [(85, .bool false), (0, Pt b5362 0), (2, .int .u8 (x8669.toNat : Int)), (3, V a0.At), (4, .int .i32 r8680.1), (6, V r8687)] ?_
  obtain rfl := Option.some.inj ho8824
  exact ⟨_, false, rfl, rfl, hS8802⟩
  refine r_step rfl trivial (o_cmp rfl rfl (c_eql_F hp8826)) ?_
  refine xe 7 [(85, .bool false), (0, Pt b5362 0), (2, .int .u8 (x8669.toNat : Int)), (3, V a0.At), (4, .int .i32 r8680.1), (6, V r8687)] ?_
  obtain rfl := Option.some.inj ho8824
  exact ⟨_, false, rfl, rfl, hS8802⟩
  refine rg r21_9 ?_
  refine xq 1 [(74, .int .u8 (x8669.toNat : Int)), (0, Pt b5362 0), (2, .int .u8 (x8669.toNat : Int)), (3, V a0.At), (4, .int .i32 r8680.1), (6, V r8687)] ?_
  rcases ifs ho8795 with ⟨hp8797, ho8795⟩ | ⟨hp8797, ho8795⟩
  refine r_step rfl trivial (o_cmp rfl rfl (c_eql_T hp8797)) ?_
  refine xq 4 [(79, V (w64 (a0.At + 1))), (77, V r8687), (76, .bool true), (0, Pt b5362 0), (2, .int .u8 (x8669.toNat : Int)), (3, V a0.At), (4, .int .i32 r8680.1), (6, V r8687)] ?_
  rcases ifs ho8795 with ⟨hp8798, ho8795⟩ | ⟨hp8798, ho8795⟩
  refine r_step rfl rfl (o_cmp rfl rfl (c_gtr_T hp8798)) ?_
  refine xe 2 [(73, .bool true), (0, Pt b5362 0), (2, .int .u8 (x8669.toNat : Int)), (3, V a0.At), (4, .int .i32 r8680.1), (6, V r8687)] ?_
  obtain rfl := Option.some.inj ho8795
  exact ⟨_, true, rfl, rfl, hS8769⟩
  refine r_step rfl rfl (o_cmp rfl rfl (c_gtr_F hp8798)) ?_
  refine xe 2 [(73, .bool false), (0, Pt b5362 0), (2, .int .u8 (x8669.toNat : Int)), (3, V a0.At), (4, .int .i32 r8680.1), (6, V r8687)] ?_
  obtain rfl := Option.some.inj ho8795
  exact ⟨_, false, rfl, rfl, hS8769⟩
  refine r_step rfl trivial (o_cmp rfl rfl (c_eql_F hp8797)) ?_
  refine xe 7 [(73, .bool false), (0, Pt b5362 0), (2, .int .u8 (x8669.toNat : Int)), (3, V a0.At), (4, .int .i32 r8680.1), (6, V r8687)] ?_
  obtain rfl := Option.some.inj ho8795
  exact ⟨_, false, rfl, rfl, hS8769⟩
  refine rg r21_5 ?_
  refine xq 1 [(40, .int .u8 (x8669.toNat : Int)), (6, V r8687), (4, .int .i32 r8680.1), (3, V a0.At), (2, .int .u8 (x8669.toNat : Int)), (0, Pt b5362 0)] ?_
  rcases ifs ho8726 with ⟨hp8728, ho8726⟩ | ⟨hp8728, ho8726⟩
  refine r_step rfl trivial (o_cmp rfl rfl (c_eql_T hp8728)) ?_
  refine xq 4 [(45, Pt b5362 3), (42, .bool true), (6, V r8687), (4, .int .i32 r8680.1), (3, V a0.At), (2, .int .u8 (x8669.toNat : Int)), (0, Pt b5362 0)] ?_
  refine r_step rfl rfl (o_ldb (v := V a0.Open) hS8693 (i := 0) rfl rfl (by kernel_rfl)) ?_
  rcases ifs ho8726 with ⟨hp8729, ho8726⟩ | ⟨hp8729, ho8726⟩
  refine r_step rfl rfl (o_cmp rfl rfl (c_eql_T hp8729)) ?_
  refine xq 5 [(52, Pt b5362 5), (49, .bool true), (6, V r8687), (4, .int .i32 r8680.1), (3, V a0.At), (2, .int .u8 (x8669.toNat : Int)), (0, Pt b5362 0)] ?_
  refine r_step rfl rfl (o_ldb (v := .bool a0.Only) hS8693 (i := 0) rfl rfl (by kernel_rfl)) ?_
  refine xq 2 [(55, .bool a0.Only), (6, V r8687), (4, .int .i32 r8680.1), (3, V a0.At), (2, .int .u8 (x8669.toNat : Int)), (0, Pt b5362 0)] ?_
  rcases ifs ho8726 with ⟨hp8730, ho8726⟩ | ⟨hp8730, ho8726⟩
  refine r_setb (t := 55) rfl hp8730 ?_
  refine xq 3 [(58, V (w64 (a0.At + 1))), (56, Pt b5362 0), (55, .bool true), (6, V r8687), (4, .int .i32 r8680.1), (3, V a0.At), (2, .int .u8 (x8669.toNat : Int)), (0, Pt b5362 0)] ?_
  obtain ⟨r8731, hx8732, ho8726⟩ := obind ho8726
  have hF8738 : St _ _ _ _ _ _ ([.blk b5362 (K52 v5364 v5366 a0), .gs v5366 c5367 (csz api_Token)] ++ []) := ((hS8693.front 1 rfl).front 1 rfl)
  obtain ⟨v8733, h8734, Z8739, A8741, hcl8735, hSc8736, rfl, rfl⟩ := correctorref6_scanner_ended_ok F hF8738.preL (q5363.mono hZ8696) (q5365.mono hZ8696) hx8732
  have hZ8740 := hSc8736.zle
  have hS8737 := hF8738.call hSc8736
  replace hS8737 : St _ _ _ _ _ _ [.blk b5362 (K52 v5364 v5366 a0), .gs v5366 c5367 (csz api_Token)] := hS8737
  refine r_step rfl rfl (o_call hcl8735 rfl rfl rfl) ?_
  refine xe 2 [(39, .bool r8731), (6, V r8687), (4, .int .i32 r8680.1), (3, V a0.At), (2, .int .u8 (x8669.toNat : Int)), (0, Pt b5362 0)] ?_
  obtain rfl := Option.some.inj ho8726
  exact ⟨_, r8731, rfl, rfl, hS8737⟩
  refine r_setb (t := 55) rfl (Bool.eq_false_iff.2 hp8730) ?_
  refine xe 6 [(39, .bool false), (6, V r8687), (4, .int .i32 r8680.1), (3, V a0.At), (2, .int .u8 (x8669.toNat : Int)), (0, Pt b5362 0)] ?_
  obtain rfl := Option.some.inj ho8726
  exact ⟨_, false, rfl, rfl, hS8693⟩
  refine r_step rfl rfl (o_cmp rfl rfl (c_eql_F hp8729)) ?_
  refine xe 14 [(39, .bool false), (6, V r8687), (4, .int .i32 r8680.1), (3, V a0.At), (2, .int .u8 (x8669.toNat : Int)), (0, Pt b5362 0)] ?_
  obtain rfl := Option.some.inj ho8726
  exact ⟨_, false, rfl, rfl, hS8693⟩
  refine r_step rfl trivial (o_cmp rfl rfl (c_eql_F hp8728)) ?_
  refine xe 20 [(39, .bool false), (6, V r8687), (4, .int .i32 r8680.1), (3, V a0.At), (2, .int .u8 (x8669.toNat : Int)), (0, Pt b5362 0)] ?_
  obtain rfl := Option.some.inj ho8726
  exact ⟨_, false, rfl, rfl, hS8693⟩

def r10_0 : List COp := [u 2 (.assign (.const (.slice none 0 0)))]
def r10_1 : List COp := [u 5 (.move (t 0)), u 6 (cb .len #[(t 5)] #[24]), u 7 (.binOp .gtr 3 (t 6) (ci 16384) 3)]
def r10_2 : List COp := [u 2 (.assign (.const (.slice none 0 0)))]
def r10_3 : List COp := [u 8 (.move (t 0)), u 9 (.build 52 #[(0, (t 8)), (6, (ci (-2)))]), u 10 (.box 52 (t 9)), u 3 (.assign (t 10))]
def r10_4 : List COp := [u 11 (.move (t 3)), u 12 (cf 16 #[(t 11)] #[50])]
def r10_5 : List COp := [u 13 (.move (t 3)), u 14 (.nilCheck (t 13)), u 15 (.fieldAddr 52 (t 14) 1), u 16 (.load 3 (t 15)), u 17 (.move (t 0)), u 18 (cb .len #[(t 17)] #[24]), u 19 (.binOp .lss 3 (t 16) (t 18) 3)]
def r10_6 : List COp := [u 4 (.assign (ci 0))]
def r10_7 : List COpF := [uF 20 (.move (t 3)) .pure [], uF 21 (.nilCheck (t 20)) .pure [], uF 22 (.fieldAddr 52 (t 21) 1) .pure [], uF 23 (.load 3 (t 22)) .look [], uF 24 (.move (t 3)) .pure [], uF 25 (.nilCheck (t 24)) .pure [], uF 26 (.fieldAddr 52 (t 25) 2) .pure [], uF 27 (.load 3 (t 26)) .look [], uF 28 (.binOp .eql 3 (t 23) (t 27) 3) .pure []]
def r10_8 : List COp := [u 29 (.move (t 3)), u 30 (.move (t 3)), u 31 (.nilCheck (t 30)), u 32 (.fieldAddr 52 (t 31) 1), u 33 (.load 3 (t 32)), u 34 (cf 17 #[(t 29), (t 33)] #[50, 3]), u 4 (.assign (t 34))]
def r10_9 : List COp := [u 35 (.move (t 4)), u 36 (.binOp .gtr 3 (t 35) (ci 0) 3)]
def r10_10 : List COp := [u 37 (.move (t 3)), u 38 (.move (t 4)), u 39 (.move (t 3)), u 40 (.nilCheck (t 39)), u 41 (.fieldAddr 52 (t 40) 1), u 42 (.load 3 (t 41)), u 43 (.binOp .add 3 (t 42) (ci 3) 3), u 44 (cf 18 #[(t 37), (t 38), (t 43)] #[50, 3, 3])]
def r10_11 : List COp := [u 45 (.move (t 3)), u 46 (.nilCheck (t 45)), u 47 (.fieldAddr 52 (t 46) 3), o (.store 3 (t 47) (ci 0))]
def r10_12 : List COp := [u 48 (.move (t 3)), u 49 (cf 19 #[(t 48)] #[50]), u 50 (.unOp .not 4 (t 49)), u 51 (.move (t 50)), gT 51 (some 52) (.move (t 3)), gT 51 (some 53) (cf 20 #[(t 52)] #[50]), gT 51 (some 54) (.unOp .not 4 (t 53)), u 55 (.pick (t 51) (t 54) (.const (.bool false)))]
def r10_13 : List COp := [u 56 (.move (t 3)), u 57 (cf 21 #[(t 56)] #[50])]
def r10_14 : List COp := [u 58 (.move (t 3)), u 59 (.nilCheck (t 58)), u 60 (.fieldAddr 52 (t 59) 7), u 61 (.load 25 (t 60)), u 2 (.assign (t 61))]
def correctorref6_Tokens_l0 (F : Nat) (a0 : List UInt8) : Nat → correctorref6_scanner → Option correctorref6_scanner
  | 0, _ => none
  | n + 1, x9320 =>
    if x9320.At < (a0.length : Int) then
      ((if x9320.At = x9320.Row then
          (correctorref6_scanner_mark F x9320 x9320.At).bind fun r9362 =>
          some (x9320, r9362)
        else
          some (x9320, 0)) : Option (correctorref6_scanner × Int)).bind fun o => match o with
        | (x9376, x9382) => if (0 : Int) < x9382 then
          (correctorref6_scanner_add F x9376 x9382 (w64 (x9376.At + 3))).bind fun r9444 =>
          correctorref6_Tokens_l0 F a0 n (⟨r9444.B, r9444.At, r9444.Row, 0, r9444.Base, r9444.Only, r9444.Text, r9444.L⟩ : correctorref6_scanner)
        else
          (correctorref6_scanner_space F x9376).bind fun r9462 =>
          if r9462.1 = true then
            correctorref6_Tokens_l0 F a0 n r9462.2
          else
            (correctorref6_scanner_bracket F r9462.2).bind fun r9479 =>
            if r9479.1 = true then
              correctorref6_Tokens_l0 F a0 n r9479.2
            else
              (correctorref6_scanner_word F r9479.2).bind fun r9496 =>
              correctorref6_Tokens_l0 F a0 n r9496
    else
      some x9320
def correctorref6_Tokens (F : Nat) (a0 : List UInt8) : Option (List api_Token) :=
  if (16384 : Int) < (a0.length : Int) then
    some []
  else
    (correctorref6_scanner_next F (⟨a0, 0, 0, 0, 0, false, (-2), []⟩ : correctorref6_scanner)).bind fun r9130 =>
    ((correctorref6_Tokens_l0 F a0 F r9130) : Option correctorref6_scanner).bind fun o => match o with
      | x9529 => some x9529.L
theorem correctorref6_Tokens_ok (F : Nat) {h : AH} {Z : Zn} {a0 : List UInt8} {v2 : Value} (hP : Pre Z h []) (q1 : RS (α := UInt8) Z v2 a0) {r : (List api_Token)} (hm : correctorref6_Tokens F a0 = some r) :
    ∃ v h' Z' A', callI Go.Proofs.Try.prog 10 [v2] h = some (v, h') ∧ St h (idsL []) Z (0, 0) Z' h' A' ∧ ∃ v9118 : Value, ∃ c9119 : List Value, v9118 = v ∧ A' = [.gs v9118 c9119 (csz api_Token)] ∧ RCs (α := api_Token) Z' c9119 r := by
  refine fn_intro (A := []) (Q := fun v Z' A' => ∃ v9118 : Value, ∃ c9119 : List Value, v9118 = v ∧ A' = [.gs v9118 c9119 (csz api_Token)] ∧ RCs (α := api_Token) Z' c9119 r) Go.Proofs.Try.func10 rfl rfl (by kernel_rfl) hP ?_
  intro hs hS
  unfold correctorref6_Tokens at hm
  replace hS : St hs [] Z (0, 0) Z hs [] := hS
  refine sr r10_0 ?_
  refine xe 1 [(0, v2)] ?_
  refine sq ?_
  refine sr r10_1 ?_
  refine xq 1 [(5, v2), (0, v2)] ?_
  refine r_step rfl trivial (o_len rfl (RS.len q1) ⟨_, Go.Proofs.Try.underlying24⟩) ?_
  rcases ifs hm with ⟨hp9122, hm⟩ | ⟨hp9122, hm⟩
  refine r_step rfl trivial (o_cmp rfl rfl (c_gtr_T hp9122)) ?_
  refine xf [(7, .bool true), (0, v2)] ?_
  refine cT 7 rfl ?_
  refine sr r10_2 ?_
  refine xe 1 [(2, .slice none 0 0)] ?_
  refine rt ?_
  refine ⟨rfl, ?_⟩
  have hS9123 := hS.nilGs (csz api_Token)
  obtain rfl := Option.some.inj hm
  refine ⟨_, _, _, ResL.tmp rfl (ResL.nil), hS9123, ?_⟩
  exact ⟨(.slice none 0 0), [], rfl, rfl, (RCs.nil0 _)⟩
  refine r_step rfl trivial (o_cmp rfl rfl (c_gtr_F hp9122)) ?_
  refine xf [(7, .bool false), (0, v2)] ?_
  refine kF 7 rfl ?_
  refine sr r10_3 ?_
  refine xq 1 [(8, v2), (0, v2)] ?_
  refine r_step rfl trivial (o_build (v := .agg #[v2, V 0, V 0, V 0, V 0, .bool false, V (-2), .slice none 0 0]) rfl (CA.cons (cs := [v2]) (RS.cell1 q1) (CA.cons (cs := [V (-2)]) rfl (CA.nil0))) (by kernel_rfl)) ?_
  refine r_blk rfl trivial (o_box (cs := [v2, V 0, V 0, V 0, V 0, .bool false, V (-2), .slice none 0 0]) rfl rfl) hS ?_
  intro b9125 h9126 hS9127
  refine xe 1 [(3, Pt b9125 0), (0, v2)] ?_
  refine sr r10_4 ?_
  refine xq 1 [(11, Pt b9125 0), (3, Pt b9125 0), (0, v2)] ?_
  have hS9128 := hS9127.nilGs (csz api_Token)
  obtain ⟨r9130, hx9131, hm⟩ := obind hm
  have hF9137 : St _ _ _ _ _ _ ([.blk b9125 [v2, V 0, V 0, V 0, V 0, .bool false, V (-2), .slice none 0 0], .gs (.slice none 0 0) [] (csz api_Token)] ++ []) := ((hS9128.front 0 rfl).front 1 rfl)
  obtain ⟨v9132, h9133, Z9138, A9140, hcl9134, hSc9135, v9142, c9144, rfl, rfl, q9141, q9143⟩ := correctorref6_scanner_next_ok F hF9137.preL q1 (RCs.nil0 _) hx9131
  have hZ9139 := hSc9135.zle
  have hS9136 := hF9137.call hSc9135
  replace hS9136 : St _ _ _ _ _ _ [.blk b9125 (K52 v9142 (.slice none 0 0) r9130), .gs (.slice none 0 0) c9144 (csz api_Token)] := hS9136
  refine r_step rfl trivial (o_call hcl9134 rfl rfl rfl) ?_
  refine xf [(3, Pt b9125 0), (0, v2)] ?_
  refine sq ?_
  obtain ⟨o9317, ho9316, hm⟩ := obind hm
  refine W_join [3] (fun l h => ∃ Z9527 : Zn, ∃ x9529 : correctorref6_scanner, ∃ b9528 : Nat, ∃ v9531 : Value, ∃ v9533 : Value, ∃ c9534 : List Value, x9529 = o9317 ∧ RS (α := UInt8) Z9527 v9531 x9529.B ∧ RCs (α := api_Token) Z9527 c9534 x9529.L ∧ l = [(3, Pt b9528 0)] ∧ St hs [] Z (0, 0) Z9527 h [.blk b9528 (K52 v9531 v9533 x9529), .gs v9533 c9534 (csz api_Token)]) ?_ ?_
  rintro l h9535 ⟨Z9527, x9529, b9528, v9531, v9533, c9534, rfl, q9530, q9532, rfl, hS9536⟩
  try dsimp only at hm
  refine sr r10_14 ?_
  refine xq 3 [(60, Pt b9528 7)] ?_
  refine r_step rfl trivial (o_ldb (v := v9533) hS9536 (i := 0) rfl rfl (by kernel_rfl)) ?_
  refine xe 1 [(2, v9533)] ?_
  refine rt ?_
  refine ⟨rfl, ?_⟩
  obtain rfl := Option.some.inj hm
  refine ⟨_, _, _, ResL.tmp rfl (ResL.nil), ((hS9536.front 1 rfl).takeN 1), ?_⟩
  exact ⟨v9533, c9534, rfl, rfl, q9532⟩
  refine bk 0 ?_
  refine lp [0, 3] (fun n l h => ∃ Z9318 : Zn, ∃ x9320 : correctorref6_scanner, ∃ b9319 : Nat, ∃ v9322 : Value, ∃ v9324 : Value, ∃ c9325 : List Value, correctorref6_Tokens_l0 F a0 n x9320 = some o9317 ∧ RS (α := UInt8) Z9318 v9322 x9320.B ∧ RCs (α := api_Token) Z9318 c9325 x9320.L ∧ l = [(0, v2), (3, Pt b9319 0)] ∧ St hs [] Z (0, 0) Z9318 h [.blk b9319 (K52 v9322 v9324 x9320), .gs v9324 c9325 (csz api_Token)]) F ⟨_, r9130, b9125, v9142, (.slice none 0 0), c9144, ho9316, q9141, q9143, rfl, hS9136⟩ ?_
  rintro n9328 l h9326 ⟨Z9318, x9320, b9319, v9322, v9324, c9325, ho9316, q9321, q9323, rfl, hS9327⟩
  rcases n9328 with _ | n9328
  cases (show none = some o9317 from ho9316)
  rw [correctorref6_Tokens_l0] at ho9316
  refine sq ?_
  refine sr r10_5 ?_
  refine xq 3 [(15, Pt b9319 1), (0, v2), (3, Pt b9319 0)] ?_
  refine r_step rfl trivial (o_ldb (v := V x9320.At) hS9327 (i := 0) rfl rfl (by kernel_rfl)) ?_
  refine xq 1 [(17, v2), (16, V x9320.At), (0, v2), (3, Pt b9319 0)] ?_
  refine r_step rfl trivial (o_len rfl (RS.len (q1.mono hS9327.zle)) ⟨_, Go.Proofs.Try.underlying24⟩) ?_
  rcases ifs ho9316 with ⟨hp9331, ho9316⟩ | ⟨hp9331, ho9316⟩
  refine r_step rfl trivial (o_cmp rfl rfl (c_lss_T hp9331)) ?_
  refine xf [(19, .bool true), (0, v2), (3, Pt b9319 0)] ?_
  refine kT 19 rfl ?_
  refine bk 1 ?_
  refine sr r10_6 ?_
  refine xe 1 [(4, V 0), (0, v2), (3, Pt b9319 0)] ?_
  refine sq ?_
  obtain ⟨o9353, ho9352, ho9316⟩ := obind ho9316
  refine W_join [0, 3, 4] (fun l h => ∃ Z9374 : Zn, ∃ x9376 : correctorref6_scanner, ∃ x9382 : Int, ∃ b9375 : Nat, ∃ v9378 : Value, ∃ v9380 : Value, ∃ c9381 : List Value, (x9376, x9382) = o9353 ∧ RS (α := UInt8) Z9374 v9378 x9376.B ∧ RCs (α := api_Token) Z9374 c9381 x9376.L ∧ l = [(0, v2), (3, Pt b9375 0), (4, V x9382)] ∧ St hs [] Z (0, 0) Z9374 h [.blk b9375 (K52 v9378 v9380 x9376), .gs v9380 c9381 (csz api_Token)]) ?_ ?_
  rintro l h9383 ⟨Z9374, x9376, x9382, b9375, v9378, v9380, c9381, rfl, q9377, q9379, rfl, hS9384⟩
  try dsimp only at ho9316
  refine sq ?_
  refine sr r10_9 ?_
  refine xq 1 [(35, V x9382), (0, v2), (3, Pt b9375 0), (4, V x9382)] ?_
  rcases ifs ho9316 with ⟨hp9425, ho9316⟩ | ⟨hp9425, ho9316⟩
  refine r_step rfl trivial (o_cmp rfl rfl (c_gtr_T hp9425)) ?_
  refine xf [(36, .bool true), (0, v2), (3, Pt b9375 0), (4, V x9382)] ?_
  refine cT 36 rfl ?_
  refine sr r10_10 ?_
  refine xq 5 [(41, Pt b9375 1), (38, V x9382), (37, Pt b9375 0), (0, v2), (3, Pt b9375 0)] ?_
  refine r_step rfl trivial (o_ldb (v := V x9376.At) hS9384 (i := 0) rfl rfl (by kernel_rfl)) ?_
  refine xq 1 [(43, V (w64 (x9376.At + 3))), (38, V x9382), (37, Pt b9375 0), (0, v2), (3, Pt b9375 0)] ?_
  obtain ⟨r9444, hx9445, ho9316⟩ := obind ho9316
  have hF9451 : St _ _ _ _ _ _ ([.blk b9375 (K52 v9378 v9380 x9376), .gs v9380 c9381 (csz api_Token)] ++ []) := ((hS9384.front 1 rfl).front 1 rfl)
  obtain ⟨v9446, h9447, Z9452, A9454, hcl9448, hSc9449, v9456, v9458, c9459, rfl, rfl, q9455, q9457⟩ := correctorref6_scanner_add_ok F hF9451.preL q9377 q9379 hx9445
  have hZ9453 := hSc9449.zle
  have hS9450 := hF9451.call hSc9449
  replace hS9450 : St _ _ _ _ _ _ [.blk b9375 (K52 v9456 v9458 r9444), .gs v9458 c9459 (csz api_Token)] := hS9450
  refine r_step rfl trivial (o_call hcl9448 rfl rfl rfl) ?_
  refine xf [(0, v2), (3, Pt b9375 0)] ?_
  refine sr r10_11 ?_
  refine xq 3 [(47, Pt b9375 3), (0, v2), (3, Pt b9375 0)] ?_
  refine r_ex1 rfl trivial (o_stb (vs := [V 0]) (cells' := [v9456, V r9444.At, V r9444.Row, V 0, V r9444.Base, .bool r9444.Only, V r9444.Text, v9458]) (L' := [.blk b9375 [v9456, V r9444.At, V r9444.Row, V 0, V r9444.Base, .bool r9444.Only, V r9444.Text, v9458], .gs v9458 c9459 (csz api_Token)]) hS9450 (i := 0) rfl rfl rfl rfl (by kernel_rfl) rfl rfl rfl rfl) ?_
  intro h9460 hS9461
  refine xf [(0, v2), (3, Pt b9375 0)] ?_
  refine xt 1 ?_
  refine blkX_hit ?_
  exact ⟨n9328, Nat.lt_succ_self _, ⟨_, (⟨r9444.B, r9444.At, r9444.Row, 0, r9444.Base, r9444.Only, r9444.Text, r9444.L⟩ : correctorref6_scanner), b9375, v9456, v9458, c9459, ho9316, q9455, q9457, rfl, hS9461⟩⟩
  refine r_step rfl trivial (o_cmp rfl rfl (c_gtr_F hp9425)) ?_
  refine xf [(36, .bool false), (0, v2), (3, Pt b9375 0), (4, V x9382)] ?_
  refine kF 36 rfl ?_
  refine sr r10_12 ?_
  refine xq 1 [(48, Pt b9375 0), (0, v2), (3, Pt b9375 0)] ?_
  obtain ⟨r9462, hx9463, ho9316⟩ := obind ho9316
  have hF9469 : St _ _ _ _ _ _ ([.blk b9375 (K52 v9378 v9380 x9376), .gs v9380 c9381 (csz api_Token)] ++ []) := ((hS9384.front 1 rfl).front 1 rfl)
  obtain ⟨v9464, h9465, Z9470, A9472, hcl9466, hSc9467, v9474, v9476, c9477, rfl, rfl, q9473, q9475⟩ := correctorref6_scanner_space_ok F hF9469.preL q9377 q9379 hx9463
  have hZ9471 := hSc9467.zle
  have hS9468 := hF9469.call hSc9467
  replace hS9468 : St _ _ _ _ _ _ [.blk b9375 (K52 v9474 v9476 r9462.2), .gs v9476 c9477 (csz api_Token)] := hS9468
  refine r_step rfl trivial (o_call hcl9466 rfl rfl rfl) ?_
  rcases ifs ho9316 with ⟨hp9478, ho9316⟩ | ⟨hp9478, ho9316⟩
  refine r_setb (t := 49) rfl hp9478 ?_
  refine xe 6 [(55, .bool false), (0, v2), (3, Pt b9375 0)] ?_
  refine kF 55 rfl ?_
  exact ⟨n9328, Nat.lt_succ_self _, ⟨_, r9462.2, b9375, v9474, v9476, c9477, ho9316, q9473, q9475, rfl, hS9468⟩⟩
  refine r_setb (t := 49) rfl (Bool.eq_false_iff.2 hp9478) ?_
  refine xq 3 [(52, Pt b9375 0), (51, .bool true), (0, v2), (3, Pt b9375 0)] ?_
  obtain ⟨r9479, hx9480, ho9316⟩ := obind ho9316
  have hF9486 : St _ _ _ _ _ _ ([.blk b9375 (K52 v9474 v9476 r9462.2), .gs v9476 c9477 (csz api_Token)] ++ []) := ((hS9468.front 1 rfl).front 1 rfl)
  obtain ⟨v9481, h9482, Z9487, A9489, hcl9483, hSc9484, v9491, v9493, c9494, rfl, rfl, q9490, q9492⟩ := correctorref6_scanner_bracket_ok F hF9486.preL q9473 q9475 hx9480
  have hZ9488 := hSc9484.zle
  have hS9485 := hF9486.call hSc9484
  replace hS9485 : St _ _ _ _ _ _ [.blk b9375 (K52 v9491 v9493 r9479.2), .gs v9493 c9494 (csz api_Token)] := hS9485
  refine r_step rfl rfl (o_call hcl9483 rfl rfl rfl) ?_
  rcases ifs ho9316 with ⟨hp9495, ho9316⟩ | ⟨hp9495, ho9316⟩
  refine r_setb (t := 53) rfl hp9495 ?_
  refine xe 2 [(55, .bool false), (0, v2), (3, Pt b9375 0)] ?_
  refine kF 55 rfl ?_
  exact ⟨n9328, Nat.lt_succ_self _, ⟨_, r9479.2, b9375, v9491, v9493, c9494, ho9316, q9490, q9492, rfl, hS9485⟩⟩
  refine r_setb (t := 53) rfl (Bool.eq_false_iff.2 hp9495) ?_
  refine xe 2 [(55, .bool true), (0, v2), (3, Pt b9375 0)] ?_
  refine cT 55 rfl ?_
  refine rg r10_13 ?_
  refine xq 1 [(56, Pt b9375 0), (0, v2), (3, Pt b9375 0)] ?_
  obtain ⟨r9496, hx9497, ho9316⟩ := obind ho9316
  have hF9503 : St _ _ _ _ _ _ ([.blk b9375 (K52 v9491 v9493 r9479.2), .gs v9493 c9494 (csz api_Token)] ++ []) := ((hS9485.front 1 rfl).front 1 rfl)
  obtain ⟨v9498, h9499, Z9504, A9506, hcl9500, hSc9501, v9508, v9510, c9511, rfl, rfl, q9507, q9509⟩ := correctorref6_scanner_word_ok F hF9503.preL q9490 q9492 hx9497
  have hZ9505 := hSc9501.zle
  have hS9502 := hF9503.call hSc9501
  replace hS9502 : St _ _ _ _ _ _ [.blk b9375 (K52 v9508 v9510 r9496), .gs v9510 c9511 (csz api_Token)] := hS9502
  refine r_step rfl trivial (o_call hcl9500 rfl rfl rfl) ?_
  refine xf [(0, v2), (3, Pt b9375 0)] ?_
  exact ⟨n9328, Nat.lt_succ_self _, ⟨_, r9496, b9375, v9508, v9510, c9511, ho9316, q9507, q9509, rfl, hS9502⟩⟩
  refine srF r10_7 hS9327 ?_
  intro bs9354 h9355 hlv9357 hS9356
  refine yq 3 [(22, Pt b9319 1), (4, V 0), (0, v2), (3, Pt b9319 0)] ?_
  have lt9358 : b9319 < bs9354 := hlv9357.1 _ (List.mem_of_getElem? (i := 0) rfl) _ (by simp [Itm.ids])
  refine e_lookB rfl trivial rfl (by show b9319 < _; omega) (same1 (v := V x9320.At) trivial) (o_ldb (v := V x9320.At) hS9356 (i := 0) rfl rfl (by kernel_rfl)) trivial ?_
  refine yq 3 [(26, Pt b9319 2), (23, V x9320.At), (4, V 0), (0, v2), (3, Pt b9319 0)] ?_
  have lt9359 : b9319 < bs9354 := hlv9357.1 _ (List.mem_of_getElem? (i := 0) rfl) _ (by simp [Itm.ids])
  refine e_lookB rfl trivial rfl (by show b9319 < _; omega) (same1 (v := V x9320.Row) trivial) (o_ldb (v := V x9320.Row) hS9356 (i := 0) rfl rfl (by kernel_rfl)) trivial ?_
  rcases ifs ho9352 with ⟨hp9360, ho9352⟩ | ⟨hp9360, ho9352⟩
  refine e_val rfl trivial (o_cmp rfl rfl (c_eql_T hp9360)) ?_
  refine yf [(28, .bool true), (4, V 0), (0, v2), (3, Pt b9319 0)] ?_
  have hS9361 := hS9356.unres
  refine cT 28 rfl ?_
  refine rg r10_8 ?_
  refine xq 4 [(32, Pt b9319 1), (29, Pt b9319 0), (4, V 0), (0, v2), (3, Pt b9319 0)] ?_
  refine r_step rfl trivial (o_ldb (v := V x9320.At) hS9361 (i := 0) rfl rfl (by kernel_rfl)) ?_
  obtain ⟨r9362, hx9363, ho9352⟩ := obind ho9352
  have hF9369 : St _ _ _ _ _ _ ([.blk b9319 (K52 v9322 v9324 x9320), .gs v9324 c9325 (csz api_Token)] ++ []) := ((hS9361.front 1 rfl).front 1 rfl)
  obtain ⟨v9364, h9365, Z9370, A9372, hcl9366, hSc9367, rfl, rfl⟩ := correctorref6_scanner_mark_ok F hF9369.preL q9321 q9323 hx9363
  have hZ9371 := hSc9367.zle
  have hS9368 := hF9369.call hSc9367
  replace hS9368 : St _ _ _ _ _ _ [.blk b9319 (K52 v9322 v9324 x9320), .gs v9324 c9325 (csz api_Token)] := hS9368
  refine r_step rfl trivial (o_call hcl9366 rfl rfl rfl) ?_
  refine xe 1 [(4, V r9362), (0, v2), (3, Pt b9319 0)] ?_
  obtain rfl := Option.some.inj ho9352
  exact ⟨_, x9320, r9362, b9319, v9322, v9324, c9325, rfl, (q9321.mono hZ9371), (q9323.mono hZ9371), rfl, hS9368⟩
  refine e_val rfl trivial (o_cmp rfl rfl (c_eql_F hp9360)) ?_
  refine yf [(28, .bool false), (4, V 0), (0, v2), (3, Pt b9319 0)] ?_
  have hS9373 := hS9356.unres
  refine kF 28 rfl ?_
  obtain rfl := Option.some.inj ho9352
  exact ⟨_, x9320, 0, b9319, v9322, v9324, c9325, rfl, q9321, q9323, rfl, hS9373⟩
  refine r_step rfl trivial (o_cmp rfl rfl (c_lss_F hp9331)) ?_
  refine xf [(19, .bool false), (0, v2), (3, Pt b9319 0)] ?_
  refine cF 19 rfl ?_
  refine xt 0 ?_
  refine blkX_hit ?_
  obtain rfl := Option.some.inj ho9316
  exact ⟨_, x9320, b9319, v9322, v9324, c9325, rfl, q9321, q9323, rfl, hS9327⟩

end Go.Proofs.Ytahcngeimlkcgaa.M
