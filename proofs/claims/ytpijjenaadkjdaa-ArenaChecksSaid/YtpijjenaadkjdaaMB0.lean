/- Printed by a program of this session: Go functions as Lean functions over plain data, and that the calls come to them. -/
import Derived.Test.YtpijjenaadkjdaaSyK
import Derived.Test.YtpijjenaadkjdaaChecked
import Derived.KernelRfl
import Derived.Test.YtpijjenaadkjdaaMA0
namespace Go.Proofs.Ytpijjenaadkjdaa.M
open Go Am Sy
open Sy.Cell (rc)
set_option linter.unusedVariables false
set_option linter.unusedSimpArgs false
set_option maxRecDepth 20000

def r32_0 : List COp := [u 4 (.assign (.const (.bool false)))]
def r32_1 : List COp := [u 9 (.move (t 0)), u 10 (.nilCheck (t 9)), u 11 (.fieldAddr 58 (t 10) 0), u 12 (.fieldAddr 27 (t 11) 0), u 13 (.load 25 (t 12)), u 14 (.move (t 1)), u 15 (.indexAddr 25 (t 13) (t 14)), u 16 (.load 46 (t 15)), u 5 (.alloc 46), o (.store 46 (t 5) (t 16))]
def r32_2 : List COp := [u 17 (.fieldAddr 46 (t 5) 1), u 18 (.load 3 (t 17)), u 6 (.assign (t 18))]
def r32_3 : List COp := [u 19 (.fieldAddr 46 (t 5) 4), u 20 (.load 44 (t 19)), u 21 (cb .len #[(t 20)] #[44]), u 22 (.move (ci 0))]
def r32_4 : List COp := [u 23 (.binOp .lss 3 (t 22) (t 21) 3)]
def r32_5 : List COp := [u 24 (.indexAddr 44 (t 20) (t 22)), u 25 (.load 3 (t 24)), u 8 (.assign (t 25))]
def r32_6 : List COpF := [uF 26 (.move (t 8)) .pure [], uF 27 (.move (t 1)) .pure [], uF 28 (.binOp .leq 3 (t 26) (t 27) 3) .pure [], uF 29 (.move (t 28)) .pure [], gNF 29 (some 30) (.move (t 0)) .pure [], gNF 29 (some 31) (.move (t 8)) .pure [], gNF 29 (some 32) (cf 26 #[(t 30), (t 31)] #[54, 3]) .make [], gNF 29 (some 33) (.unOp .not 4 (t 32)) .pure [], uF 34 (.pick (t 29) (.const (.bool true)) (t 33)) .pure [], uF 35 (.move (t 34)) .pure [], gNF 35 (some 36) (.move (t 0)) .pure [], gNF 35 (some 37) (.nilCheck (t 36)) .pure [], gNF 35 (some 38) (.fieldAddr 58 (t 37) 0) .pure [], gNF 35 (some 39) (.fieldAddr 27 (t 38) 0) .pure [], gNF 35 (some 40) (.load 25 (t 39)) .look [6], gNF 35 (some 41) (.move (t 8)) .pure [], gNF 35 (some 42) (.indexAddr 25 (t 40) (t 41)) .pure [], gNF 35 (some 43) (.fieldAddr 46 (t 42) 3) .pure [], gNF 35 (some 44) (.load 3 (t 43)) .look [6], gNF 35 (some 45) (.move (t 1)) .pure [], gNF 35 (some 46) (.binOp .neq 3 (t 44) (t 45) 3) .pure [], uF 47 (.pick (t 35) (.const (.bool true)) (t 46)) .pure [], uF 48 (.move (t 47)) .pure [], gNF 48 (some 49) (.move (t 0)) .pure [], gNF 48 (some 50) (.nilCheck (t 49)) .pure [], gNF 48 (some 51) (.fieldAddr 58 (t 50) 0) .pure [], gNF 48 (some 52) (.fieldAddr 27 (t 51) 0) .pure [], gNF 48 (some 53) (.load 25 (t 52)) .look [6], gNF 48 (some 54) (.move (t 8)) .pure [], gNF 48 (some 55) (.indexAddr 25 (t 53) (t 54)) .pure [], gNF 48 (some 56) (.fieldAddr 46 (t 55) 1) .pure [], gNF 48 (some 57) (.load 3 (t 56)) .look [6], gNF 48 (some 58) (.move (t 6)) .pure [], gNF 48 (some 59) (.binOp .lss 3 (t 57) (t 58) 3) .pure [], uF 60 (.pick (t 48) (.const (.bool true)) (t 59)) .pure [], uF 61 (.move (t 60)) .pure [], gNF 61 (some 62) (.move (t 0)) .pure [], gNF 61 (some 63) (.nilCheck (t 62)) .pure [], gNF 61 (some 64) (.fieldAddr 58 (t 63) 0) .pure [], gNF 61 (some 65) (.fieldAddr 27 (t 64) 0) .pure [], gNF 61 (some 66) (.load 25 (t 65)) .look [6], gNF 61 (some 67) (.move (t 8)) .pure [], gNF 61 (some 68) (.indexAddr 25 (t 66) (t 67)) .pure [], gNF 61 (some 69) (.fieldAddr 46 (t 68) 2) .pure [], gNF 61 (some 70) (.load 3 (t 69)) .look [6], gNF 61 (some 71) (.fieldAddr 46 (t 5) 2) .pure [], gNF 61 (some 72) (.load 3 (t 71)) .look [6], gNF 61 (some 73) (.binOp .gtr 3 (t 70) (t 72) 3) .pure [], uF 74 (.pick (t 61) (.const (.bool true)) (t 73)) .pure []]
def r32_7 : List COp := [u 4 (.assign (.const (.bool false)))]
def r32_8 : List COp := [u 75 (.move (t 0)), u 76 (.nilCheck (t 75)), u 77 (.fieldAddr 58 (t 76) 0), u 78 (.fieldAddr 27 (t 77) 0), u 79 (.load 25 (t 78)), u 80 (.move (t 8)), u 81 (.indexAddr 25 (t 79) (t 80)), u 82 (.fieldAddr 46 (t 81) 2), u 83 (.load 3 (t 82)), u 6 (.assign (t 83))]
def r32_9 : List COp := [u 84 (.binOp .add 3 (t 22) (ci 1) 3), u 22 (.move (t 84))]
def r32_10 : List COp := [u 85 (.fieldAddr 46 (t 5) 1), u 86 (.load 3 (t 85)), u 87 (.fieldAddr 46 (t 5) 2), u 88 (.load 3 (t 87)), u 89 (.binOp .leq 3 (t 86) (t 88) 3), u 4 (.assign (t 89))]
def arena_forest_lies_l0 (F : Nat) (a0 : arena_forest) (a1 : Int) : Nat → api_Node → Int → (List Int) → Int → Int → Option (Sum api_Node Bool)
  | 0, _, _, _, _, _ => none
  | n + 1, x4745, x4748, x4749, x4752, x4753 =>
    if x4753 < x4752 then
      if 0 ≤ x4753 ∧ x4753 < (x4749.length : Int) then
        (x4749[x4753.toNat]?).bind fun x4760 =>
        if x4760 ≤ a1 then
          some (.inr false)
        else
          (arena_forest_has F a0 x4760).bind fun r4910 =>
          if r4910 = true then
            if 0 ≤ x4760 ∧ x4760 < (a0.Tree.Nodes.length : Int) then
              (a0.Tree.Nodes[x4760.toNat]?).bind fun x4927 =>
              if x4927.Up = a1 then
                if 0 ≤ x4760 ∧ x4760 < (a0.Tree.Nodes.length : Int) then
                  (a0.Tree.Nodes[x4760.toNat]?).bind fun x4941 =>
                  if x4941.From < x4748 then
                    some (.inr false)
                  else
                    if 0 ≤ x4760 ∧ x4760 < (a0.Tree.Nodes.length : Int) then
                      (a0.Tree.Nodes[x4760.toNat]?).bind fun x4956 =>
                      if x4745.To < x4956.To then
                        some (.inr false)
                      else
                        if 0 ≤ x4760 ∧ x4760 < (a0.Tree.Nodes.length : Int) then
                          (a0.Tree.Nodes[x4760.toNat]?).bind fun x4972 =>
                          arena_forest_lies_l0 F a0 a1 n x4745 x4972.To x4749 x4752 (w64 (x4753 + 1))
                        else none
                    else none
                else none
              else
                some (.inr false)
            else none
          else
            some (.inr false)
      else none
    else
      some (.inl x4745)
def arena_forest_lies (F : Nat) (a0 : arena_forest) (a1 : Int) : Option Bool :=
  if 0 ≤ a1 ∧ a1 < (a0.Tree.Nodes.length : Int) then
    (a0.Tree.Nodes[a1.toNat]?).bind fun x3771 =>
    ((arena_forest_lies_l0 F a0 a1 F x3771 x3771.From x3771.Kids (x3771.Kids.length : Int) 0) : Option (Sum api_Node Bool)).bind fun o => match o with
      | .inl x4988 => if x4988.From ≤ x4988.To then
        some true
      else
        some false
      | .inr y => some y
  else none
theorem arena_forest_lies_ok (F : Nat) {h : AH} {Z : Zn} {a0 : arena_forest} {a1 : Int} {b2787 : Nat} {v2789 : Value} {c2790 : List Value} (hP : Pre Z h [.blk b2787 [v2789], .gs v2789 c2790 (csz api_Node)]) (q2788 : RCs (α := api_Node) Z c2790 a0.Tree.Nodes) {r : Bool} (hm : arena_forest_lies F a0 a1 = some r) :
    ∃ v h' Z' A', callI Go.Proofs.Try.prog 32 [Pt b2787 0, V a1] h = some (v, h') ∧ St h (idsL [.blk b2787 [v2789], .gs v2789 c2790 (csz api_Node)]) Z (0, 0) Z' h' A' ∧ .bool r = v ∧ A' = [.blk b2787 [v2789], .gs v2789 c2790 (csz api_Node)] := by
  refine fn_intro (A := [.blk b2787 [v2789], .gs v2789 c2790 (csz api_Node)]) (Q := fun v Z' A' => .bool r = v ∧ A' = [.blk b2787 [v2789], .gs v2789 c2790 (csz api_Node)]) Go.Proofs.Try.func32 rfl rfl (by kernel_rfl) hP ?_
  intro hs hS
  unfold arena_forest_lies at hm
  refine sr r32_0 ?_
  refine xe 1 [(0, Pt b2787 0), (1, V a1)] ?_
  refine sr r32_1 ?_
  refine xq 4 [(12, Pt b2787 0), (0, Pt b2787 0), (1, V a1)] ?_
  refine r_step rfl trivial (o_ldb (v := v2789) hS (i := 0) rfl rfl (by kernel_rfl)) ?_
  refine xq 1 [(14, V a1), (13, v2789), (0, Pt b2787 0), (1, V a1)] ?_
  obtain ⟨hc3770, hm⟩ := chk hm
  refine r_step rfl trivial (o_index rfl rfl (by kernel_rfl : slTy _ _ = some (csz api_Node)) (hS.gbased (j := 1) rfl q2788 (by omega)) hc3770.1 hc3770.2) ?_
  obtain ⟨x3771, hx3772, hm⟩ := obind hm
  obtain ⟨cs3773, hc3774, he3775, ht3776⟩ := hS.gel (j := 1) rfl q2788 (i := a1) hx3772
  obtain ⟨v3777, q3778, rfl⟩ := rc_api_Node hc3774
  refine r_step rfl trivial (o_lde (w := .agg #[V x3771.Kind, V x3771.From, V x3771.To, V x3771.Up, v3777, .bool x3771.Key]) he3775 rfl (by kernel_rfl)) ?_
  refine r_blk rfl trivial (o_alloc (cs := [V 0, V 0, V 0, V 0, .slice none 0 0, .bool false]) (by kernel_rfl)) hS ?_
  intro b3779 h3780 hS3781
  refine r_ex1 rfl trivial (o_stb (vs := [V x3771.Kind, V x3771.From, V x3771.To, V x3771.Up, v3777, .bool x3771.Key]) (cells' := (K46 v3777 x3771)) (L' := [.blk b3779 (K46 v3777 x3771), .blk b2787 [v2789], .gs v2789 c2790 (csz api_Node)]) hS3781 (i := 0) rfl rfl rfl rfl (by kernel_rfl) (one_cons rfl (one_cons rfl (one_cons rfl (one_cons rfl (one_cons (RS.one1 q3778) (one_cons rfl one_nil)))))) rfl rfl rfl) ?_
  intro h3782 hS3783
  refine xf [(5, Pt b3779 0), (0, Pt b2787 0), (1, V a1)] ?_
  refine sr r32_2 ?_
  refine xq 1 [(17, Pt b3779 1), (5, Pt b3779 0), (0, Pt b2787 0), (1, V a1)] ?_
  refine r_step rfl trivial (o_ldb (v := V x3771.From) hS3783 (i := 0) rfl rfl (by kernel_rfl)) ?_
  refine xe 1 [(6, V x3771.From), (5, Pt b3779 0), (0, Pt b2787 0), (1, V a1)] ?_
  refine sq ?_
  refine sr r32_3 ?_
  refine xq 1 [(19, Pt b3779 4), (6, V x3771.From), (5, Pt b3779 0), (0, Pt b2787 0), (1, V a1)] ?_
  refine r_step rfl trivial (o_ldb (v := v3777) hS3783 (i := 0) rfl rfl (by kernel_rfl)) ?_
  refine r_step rfl trivial (o_len rfl (RS.len q3778) ⟨_, Go.Proofs.Try.underlying44⟩) ?_
  refine xe 1 [(22, V 0), (21, V (x3771.Kids.length : Int)), (20, v3777), (6, V x3771.From), (5, Pt b3779 0), (0, Pt b2787 0), (1, V a1)] ?_
  obtain ⟨o4742, ho4741, hm⟩ := obind hm
  refine W_join [5] (fun l h => ∃ Z4986 : Zn, ∃ x4988 : api_Node, ∃ b4987 : Nat, ∃ v4990 : Value, .inl x4988 = o4742 ∧ RS (α := Int) Z4986 v4990 x4988.Kids ∧ l = [(5, Pt b4987 0)] ∧ St hs (idsL [.blk b2787 [v2789], .gs v2789 c2790 (csz api_Node)]) Z (0, 0) Z4986 h [.blk b2787 [v2789], .gs v2789 c2790 (csz api_Node), .blk b4987 (K46 v4990 x4988)]) ?_ ?_
  rintro l h4991 ⟨Z4986, x4988, b4987, v4990, rfl, q4989, rfl, hS4992⟩
  try dsimp only at hm
  refine sr r32_10 ?_
  refine xq 1 [(85, Pt b4987 1), (5, Pt b4987 0)] ?_
  refine r_step rfl trivial (o_ldb (v := V x4988.From) hS4992 (i := 2) rfl rfl (by kernel_rfl)) ?_
  refine xq 1 [(87, Pt b4987 2), (86, V x4988.From)] ?_
  refine r_step rfl trivial (o_ldb (v := V x4988.To) hS4992 (i := 2) rfl rfl (by kernel_rfl)) ?_
  rcases ifs hm with ⟨hp4993, hm⟩ | ⟨hp4993, hm⟩
  refine r_step rfl trivial (o_cmp rfl rfl (c_leq_T hp4993)) ?_
  refine xe 1 [(4, .bool true)] ?_
  refine rt ?_
  refine ⟨rfl, ?_⟩
  obtain rfl := Option.some.inj hm
  refine ⟨_, _, _, ResL.tmp rfl (ResL.nil), (hS4992.takeN 2), ?_⟩
  exact ⟨rfl, rfl⟩
  refine r_step rfl trivial (o_cmp rfl rfl (c_leq_F hp4993)) ?_
  refine xe 1 [(4, .bool false)] ?_
  refine rt ?_
  refine ⟨rfl, ?_⟩
  obtain rfl := Option.some.inj hm
  refine ⟨_, _, _, ResL.tmp rfl (ResL.nil), (hS4992.takeN 2), ?_⟩
  exact ⟨rfl, rfl⟩
  refine bk 0 ?_
  refine lp [0, 1, 5, 6, 20, 21, 22] (fun n l h => ∃ Z4743 : Zn, ∃ x4745 : api_Node, ∃ x4748 : Int, ∃ x4749 : List Int, ∃ x4752 : Int, ∃ x4753 : Int, ∃ b4744 : Nat, ∃ v4747 : Value, ∃ v4751 : Value, arena_forest_lies_l0 F a0 a1 n x4745 x4748 x4749 x4752 x4753 = some o4742 ∧ RS (α := Int) Z4743 v4747 x4745.Kids ∧ RS (α := Int) Z4743 v4751 x4749 ∧ l = [(0, Pt b2787 0), (1, V a1), (5, Pt b4744 0), (6, V x4748), (20, v4751), (21, V x4752), (22, V x4753)] ∧ St hs (idsL [.blk b2787 [v2789], .gs v2789 c2790 (csz api_Node)]) Z (0, 0) Z4743 h [.blk b2787 [v2789], .gs v2789 c2790 (csz api_Node), .blk b4744 (K46 v4747 x4745)]) F ⟨_, x3771, x3771.From, x3771.Kids, (x3771.Kids.length : Int), 0, b3779, v3777, v3777, ho4741, q3778, q3778, rfl, (((hS3783.front 0 rfl).front 2 rfl).front 2 rfl)⟩ ?_
  rintro n4756 l h4754 ⟨Z4743, x4745, x4748, x4749, x4752, x4753, b4744, v4747, v4751, ho4741, q4746, q4750, rfl, hS4755⟩
  rcases n4756 with _ | n4756
  cases (show none = some o4742 from ho4741)
  rw [arena_forest_lies_l0] at ho4741
  refine sr r32_4 ?_
  rcases ifs ho4741 with ⟨hp4758, ho4741⟩ | ⟨hp4758, ho4741⟩
  refine r_step rfl trivial (o_cmp rfl rfl (c_lss_T hp4758)) ?_
  refine xf [(23, .bool true), (0, Pt b2787 0), (1, V a1), (5, Pt b4744 0), (6, V x4748), (20, v4751), (21, V x4752), (22, V x4753)] ?_
  refine sq ?_
  refine kT 23 rfl ?_
  refine sq ?_
  refine bk 1 ?_
  refine sr r32_5 ?_
  obtain ⟨hc4759, ho4741⟩ := chk ho4741
  refine r_step rfl trivial (o_index rfl rfl (by kernel_rfl : slTy _ _ = some (csz Int)) (RS.based q4750 (by omega)) hc4759.1 hc4759.2) ?_
  obtain ⟨x4760, hx4761, ho4741⟩ := obind ho4741
  obtain ⟨cs4762, hc4763, he4764⟩ := RS.elz q4750 (i := x4753) hx4761
  obtain rfl := rc_Int hc4763
  refine r_step rfl trivial (o_lde (w := V x4760) (he4764 _ (hS4755.zin0 (Zle.refl _))) rfl (by kernel_rfl)) ?_
  refine xe 1 [(8, V x4760), (0, Pt b2787 0), (1, V a1), (5, Pt b4744 0), (6, V x4748), (20, v4751), (21, V x4752), (22, V x4753)] ?_
  refine sq ?_
  refine srF r32_6 hS4755 ?_
  intro bs4904 h4905 hlv4907 hS4906
  refine yq 2 [(27, V a1), (26, V x4760), (8, V x4760), (0, Pt b2787 0), (1, V a1), (5, Pt b4744 0), (6, V x4748), (20, v4751), (21, V x4752), (22, V x4753)] ?_
  rcases ifs ho4741 with ⟨hp4908, ho4741⟩ | ⟨hp4908, ho4741⟩
  refine e_val rfl trivial (o_cmp rfl rfl (c_leq_T hp4908)) ?_
  refine ye 46 [(74, .bool true), (8, V x4760), (0, Pt b2787 0), (1, V a1), (5, Pt b4744 0), (20, v4751), (21, V x4752), (22, V x4753)] ?_
  have hS4909 := hS4906.unres
  refine cT 74 rfl ?_
  refine sr r32_7 ?_
  refine xe 1 [(4, .bool false)] ?_
  refine rt ?_
  refine blkX_ret ?_
  refine blkX_ret ?_
  refine ⟨rfl, ?_⟩
  obtain rfl := Option.some.inj ho4741
  obtain rfl := Option.some.inj hm
  refine ⟨_, _, _, ResL.tmp rfl (ResL.nil), (hS4909.takeN 2), ?_⟩
  exact ⟨rfl, rfl⟩
  refine e_val rfl trivial (o_cmp rfl rfl (c_leq_F hp4908)) ?_
  refine yq 3 [(31, V x4760), (30, Pt b2787 0), (29, .bool false), (8, V x4760), (0, Pt b2787 0), (1, V a1), (5, Pt b4744 0), (6, V x4748), (20, v4751), (21, V x4752), (22, V x4753)] ?_
  obtain ⟨r4910, hx4911, ho4741⟩ := obind ho4741
  have hF4918 : St _ _ _ _ _ _ ([.blk b2787 [v2789], .gs v2789 c2790 (csz api_Node)] ++ [.blk b4744 (K46 v4747 x4745)]) := ((hS4906.front 1 rfl).front 1 rfl)
  obtain ⟨v4912, h4913, Z4919, A4921, hcl4914, hSc4915, rfl, rfl⟩ := arena_forest_has_ok F hF4918.lown.preL (q2788.mono hS4755.zle) hx4911
  have hZ4920 := hSc4915.zle
  refine e_make rfl rfl hF4918 (o_call hcl4914 rfl rfl rfl) hSc4915 hZ4920 .nil ?_
  intro h4922 hS4923
  replace hS4923 : St _ _ _ _ _ _ [.blk b2787 [v2789], .gs v2789 c2790 (csz api_Node), .blk b4744 (K46 v4747 x4745)] := hS4923
  rcases ifs ho4741 with ⟨hp4924, ho4741⟩ | ⟨hp4924, ho4741⟩
  refine e_setb (t := 32) rfl hp4924 ?_
  refine yq 7 [(39, Pt b2787 0), (35, .bool false), (8, V x4760), (0, Pt b2787 0), (1, V a1), (5, Pt b4744 0), (6, V x4748), (20, v4751), (21, V x4752), (22, V x4753)] ?_
  have lt4925 : b2787 < bs4904 := hlv4907.1 _ (List.mem_of_getElem? (i := 0) rfl) _ (by simp [Itm.ids])
  refine e_lookB rfl rfl rfl (by show b2787 < _; omega) (same1 (v := v2789) (hS4923.gsim1 (i := 1) rfl)) (o_ldb (v := v2789) hS4923 (i := 0) rfl rfl (by kernel_rfl)) (.inr (by simp)) ?_
  refine yq 1 [(41, V x4760), (40, v2789), (35, .bool false), (8, V x4760), (0, Pt b2787 0), (1, V a1), (5, Pt b4744 0), (6, V x4748), (20, v4751), (21, V x4752), (22, V x4753)] ?_
  obtain ⟨hc4926, ho4741⟩ := chk ho4741
  refine e_val rfl rfl (o_index rfl rfl (by kernel_rfl : slTy _ _ = some (csz api_Node)) (hS4923.gbased (j := 1) rfl (q2788.mono (hS4755.zle.trans hZ4920)) (by omega)) hc4926.1 hc4926.2) ?_
  refine yq 1 [(43, .pointer (some (elemA v2789 x4760 (csz api_Node) 3))), (35, .bool false), (8, V x4760), (0, Pt b2787 0), (1, V a1), (5, Pt b4744 0), (6, V x4748), (20, v4751), (21, V x4752), (22, V x4753)] ?_
  obtain ⟨x4927, hx4928, ho4741⟩ := obind ho4741
  obtain ⟨cs4929, hc4930, he4931, ht4932⟩ := hS4923.gel (j := 1) rfl (q2788.mono (hS4755.zle.trans hZ4920)) (i := x4760) hx4928
  obtain ⟨v4933, q4934, rfl⟩ := rc_api_Node hc4930
  have ps4935 := pos_of hx4928
  have hB4936 := hS4923.gbased (j := 1) rfl (q2788.mono (hS4755.zle.trans hZ4920)) ps4935
  have lt4937 : (baseOf v2789).block < bs4904 := row_ltM (hlv4907.1 _ (List.mem_of_getElem? (i := 1) rfl)) hB4936
  refine e_lookB rfl rfl rfl (by show (baseOf v2789).block < _; omega) (same1 (v := V x4927.Up) trivial) (o_lde (w := V x4927.Up) he4931 rfl (by kernel_rfl)) (.inr (by simp)) ?_
  refine yq 1 [(45, V a1), (44, V x4927.Up), (35, .bool false), (8, V x4760), (0, Pt b2787 0), (1, V a1), (5, Pt b4744 0), (6, V x4748), (20, v4751), (21, V x4752), (22, V x4753)] ?_
  rcases ifs ho4741 with ⟨hp4938, ho4741⟩ | ⟨hp4938, ho4741⟩
  refine e_val rfl rfl (o_cmp rfl rfl (c_neq_F hp4938)) ?_
  refine yq 6 [(52, Pt b2787 0), (48, .bool false), (8, V x4760), (0, Pt b2787 0), (1, V a1), (5, Pt b4744 0), (6, V x4748), (20, v4751), (21, V x4752), (22, V x4753)] ?_
  have lt4939 : b2787 < bs4904 := hlv4907.1 _ (List.mem_of_getElem? (i := 0) rfl) _ (by simp [Itm.ids])
  refine e_lookB rfl rfl rfl (by show b2787 < _; omega) (same1 (v := v2789) (hS4923.gsim1 (i := 1) rfl)) (o_ldb (v := v2789) hS4923 (i := 0) rfl rfl (by kernel_rfl)) (.inr (by simp)) ?_
  refine yq 1 [(54, V x4760), (53, v2789), (48, .bool false), (8, V x4760), (0, Pt b2787 0), (1, V a1), (5, Pt b4744 0), (6, V x4748), (20, v4751), (21, V x4752), (22, V x4753)] ?_
  obtain ⟨hc4940, ho4741⟩ := chk ho4741
  refine e_val rfl rfl (o_index rfl rfl (by kernel_rfl : slTy _ _ = some (csz api_Node)) (hS4923.gbased (j := 1) rfl (q2788.mono (hS4755.zle.trans hZ4920)) (by omega)) hc4940.1 hc4940.2) ?_
  refine yq 1 [(56, .pointer (some (elemA v2789 x4760 (csz api_Node) 1))), (48, .bool false), (8, V x4760), (0, Pt b2787 0), (1, V a1), (5, Pt b4744 0), (6, V x4748), (20, v4751), (21, V x4752), (22, V x4753)] ?_
  obtain ⟨x4941, hx4942, ho4741⟩ := obind ho4741
  obtain ⟨cs4943, hc4944, he4945, ht4946⟩ := hS4923.gel (j := 1) rfl (q2788.mono (hS4755.zle.trans hZ4920)) (i := x4760) hx4942
  obtain ⟨v4947, q4948, rfl⟩ := rc_api_Node hc4944
  have ps4949 := pos_of hx4942
  have hB4950 := hS4923.gbased (j := 1) rfl (q2788.mono (hS4755.zle.trans hZ4920)) ps4949
  have lt4951 : (baseOf v2789).block < bs4904 := row_ltM (hlv4907.1 _ (List.mem_of_getElem? (i := 1) rfl)) hB4950
  refine e_lookB rfl rfl rfl (by show (baseOf v2789).block < _; omega) (same1 (v := V x4941.From) trivial) (o_lde (w := V x4941.From) he4945 rfl (by kernel_rfl)) (.inr (by simp)) ?_
  refine yq 1 [(58, V x4748), (57, V x4941.From), (48, .bool false), (8, V x4760), (0, Pt b2787 0), (1, V a1), (5, Pt b4744 0), (20, v4751), (21, V x4752), (22, V x4753)] ?_
  rcases ifs ho4741 with ⟨hp4952, ho4741⟩ | ⟨hp4952, ho4741⟩
  refine e_val rfl rfl (o_cmp rfl rfl (c_lss_T hp4952)) ?_
  refine ye 15 [(74, .bool true), (8, V x4760), (0, Pt b2787 0), (1, V a1), (5, Pt b4744 0), (20, v4751), (21, V x4752), (22, V x4753)] ?_
  have hS4953 := hS4923.unres
  refine cT 74 rfl ?_
  refine sr r32_7 ?_
  refine xe 1 [(4, .bool false)] ?_
  refine rt ?_
  refine blkX_ret ?_
  refine blkX_ret ?_
  refine ⟨rfl, ?_⟩
  obtain rfl := Option.some.inj ho4741
  obtain rfl := Option.some.inj hm
  refine ⟨_, _, _, ResL.tmp rfl (ResL.nil), (hS4953.takeN 2), ?_⟩
  exact ⟨rfl, rfl⟩
  refine e_val rfl rfl (o_cmp rfl rfl (c_lss_F hp4952)) ?_
  refine yq 6 [(65, Pt b2787 0), (61, .bool false), (8, V x4760), (0, Pt b2787 0), (1, V a1), (5, Pt b4744 0), (20, v4751), (21, V x4752), (22, V x4753)] ?_
  have lt4954 : b2787 < bs4904 := hlv4907.1 _ (List.mem_of_getElem? (i := 0) rfl) _ (by simp [Itm.ids])
  refine e_lookB rfl rfl rfl (by show b2787 < _; omega) (same1 (v := v2789) (hS4923.gsim1 (i := 1) rfl)) (o_ldb (v := v2789) hS4923 (i := 0) rfl rfl (by kernel_rfl)) (.inr (by simp)) ?_
  refine yq 1 [(67, V x4760), (66, v2789), (61, .bool false), (8, V x4760), (0, Pt b2787 0), (1, V a1), (5, Pt b4744 0), (20, v4751), (21, V x4752), (22, V x4753)] ?_
  obtain ⟨hc4955, ho4741⟩ := chk ho4741
  refine e_val rfl rfl (o_index rfl rfl (by kernel_rfl : slTy _ _ = some (csz api_Node)) (hS4923.gbased (j := 1) rfl (q2788.mono (hS4755.zle.trans hZ4920)) (by omega)) hc4955.1 hc4955.2) ?_
  refine yq 1 [(69, .pointer (some (elemA v2789 x4760 (csz api_Node) 2))), (61, .bool false), (8, V x4760), (0, Pt b2787 0), (1, V a1), (5, Pt b4744 0), (20, v4751), (21, V x4752), (22, V x4753)] ?_
  obtain ⟨x4956, hx4957, ho4741⟩ := obind ho4741
  obtain ⟨cs4958, hc4959, he4960, ht4961⟩ := hS4923.gel (j := 1) rfl (q2788.mono (hS4755.zle.trans hZ4920)) (i := x4760) hx4957
  obtain ⟨v4962, q4963, rfl⟩ := rc_api_Node hc4959
  have ps4964 := pos_of hx4957
  have hB4965 := hS4923.gbased (j := 1) rfl (q2788.mono (hS4755.zle.trans hZ4920)) ps4964
  have lt4966 : (baseOf v2789).block < bs4904 := row_ltM (hlv4907.1 _ (List.mem_of_getElem? (i := 1) rfl)) hB4965
  refine e_lookB rfl rfl rfl (by show (baseOf v2789).block < _; omega) (same1 (v := V x4956.To) trivial) (o_lde (w := V x4956.To) he4960 rfl (by kernel_rfl)) (.inr (by simp)) ?_
  refine yq 1 [(71, Pt b4744 2), (70, V x4956.To), (61, .bool false), (8, V x4760), (0, Pt b2787 0), (1, V a1), (5, Pt b4744 0), (20, v4751), (21, V x4752), (22, V x4753)] ?_
  have lt4967 : b4744 < bs4904 := hlv4907.1 _ (List.mem_of_getElem? (i := 2) rfl) _ (by simp [Itm.ids])
  refine e_lookB rfl rfl rfl (by show b4744 < _; omega) (same1 (v := V x4745.To) trivial) (o_ldb (v := V x4745.To) hS4923 (i := 2) rfl rfl (by kernel_rfl)) (.inr (by simp)) ?_
  rcases ifs ho4741 with ⟨hp4968, ho4741⟩ | ⟨hp4968, ho4741⟩
  refine e_val rfl rfl (o_cmp rfl rfl (c_gtr_T hp4968)) ?_
  refine ye 1 [(74, .bool true), (8, V x4760), (0, Pt b2787 0), (1, V a1), (5, Pt b4744 0), (20, v4751), (21, V x4752), (22, V x4753)] ?_
  have hS4969 := hS4923.unres
  refine cT 74 rfl ?_
  refine sr r32_7 ?_
  refine xe 1 [(4, .bool false)] ?_
  refine rt ?_
  refine blkX_ret ?_
  refine blkX_ret ?_
  refine ⟨rfl, ?_⟩
  obtain rfl := Option.some.inj ho4741
  obtain rfl := Option.some.inj hm
  refine ⟨_, _, _, ResL.tmp rfl (ResL.nil), (hS4969.takeN 2), ?_⟩
  exact ⟨rfl, rfl⟩
  refine e_val rfl rfl (o_cmp rfl rfl (c_gtr_F hp4968)) ?_
  refine ye 1 [(74, .bool false), (8, V x4760), (0, Pt b2787 0), (1, V a1), (5, Pt b4744 0), (20, v4751), (21, V x4752), (22, V x4753)] ?_
  have hS4970 := hS4923.unres
  refine kF 74 rfl ?_
  refine rg r32_8 ?_
  refine xq 4 [(78, Pt b2787 0), (8, V x4760), (0, Pt b2787 0), (1, V a1), (5, Pt b4744 0), (20, v4751), (21, V x4752), (22, V x4753)] ?_
  refine r_step rfl trivial (o_ldb (v := v2789) hS4970 (i := 0) rfl rfl (by kernel_rfl)) ?_
  refine xq 1 [(80, V x4760), (79, v2789), (0, Pt b2787 0), (1, V a1), (5, Pt b4744 0), (20, v4751), (21, V x4752), (22, V x4753)] ?_
  obtain ⟨hc4971, ho4741⟩ := chk ho4741
  refine r_step rfl trivial (o_index rfl rfl (by kernel_rfl : slTy _ _ = some (csz api_Node)) (hS4970.gbased (j := 1) rfl (q2788.mono (hS4755.zle.trans hZ4920)) (by omega)) hc4971.1 hc4971.2) ?_
  refine xq 1 [(82, .pointer (some (elemA v2789 x4760 (csz api_Node) 2))), (0, Pt b2787 0), (1, V a1), (5, Pt b4744 0), (20, v4751), (21, V x4752), (22, V x4753)] ?_
  obtain ⟨x4972, hx4973, ho4741⟩ := obind ho4741
  obtain ⟨cs4974, hc4975, he4976, ht4977⟩ := hS4970.gel (j := 1) rfl (q2788.mono (hS4755.zle.trans hZ4920)) (i := x4760) hx4973
  obtain ⟨v4978, q4979, rfl⟩ := rc_api_Node hc4975
  refine r_step rfl trivial (o_lde (w := V x4972.To) he4976 rfl (by kernel_rfl)) ?_
  refine xe 1 [(6, V x4972.To), (0, Pt b2787 0), (1, V a1), (5, Pt b4744 0), (20, v4751), (21, V x4752), (22, V x4753)] ?_
  refine rg r32_9 ?_
  refine xe 2 [(22, V (w64 (x4753 + 1))), (6, V x4972.To), (0, Pt b2787 0), (1, V a1), (5, Pt b4744 0), (20, v4751), (21, V x4752)] ?_
  exact ⟨n4756, Nat.lt_succ_self _, ⟨_, x4745, x4972.To, x4749, x4752, w64 (x4753 + 1), b4744, v4747, v4751, ho4741, (q4746.mono hZ4920), (q4750.mono hZ4920), rfl, hS4970⟩⟩
  refine e_val rfl rfl (o_cmp rfl rfl (c_neq_T hp4938)) ?_
  refine ye 28 [(74, .bool true), (8, V x4760), (0, Pt b2787 0), (1, V a1), (5, Pt b4744 0), (20, v4751), (21, V x4752), (22, V x4753)] ?_
  have hS4980 := hS4923.unres
  refine cT 74 rfl ?_
  refine sr r32_7 ?_
  refine xe 1 [(4, .bool false)] ?_
  refine rt ?_
  refine blkX_ret ?_
  refine blkX_ret ?_
  refine ⟨rfl, ?_⟩
  obtain rfl := Option.some.inj ho4741
  obtain rfl := Option.some.inj hm
  refine ⟨_, _, _, ResL.tmp rfl (ResL.nil), (hS4980.takeN 2), ?_⟩
  exact ⟨rfl, rfl⟩
  refine e_setb (t := 32) rfl (Bool.eq_false_iff.2 hp4924) ?_
  refine ye 42 [(74, .bool true), (8, V x4760), (0, Pt b2787 0), (1, V a1), (5, Pt b4744 0), (20, v4751), (21, V x4752), (22, V x4753)] ?_
  have hS4981 := hS4923.unres
  refine cT 74 rfl ?_
  refine sr r32_7 ?_
  refine xe 1 [(4, .bool false)] ?_
  refine rt ?_
  refine blkX_ret ?_
  refine blkX_ret ?_
  refine ⟨rfl, ?_⟩
  obtain rfl := Option.some.inj ho4741
  obtain rfl := Option.some.inj hm
  refine ⟨_, _, _, ResL.tmp rfl (ResL.nil), (hS4981.takeN 2), ?_⟩
  exact ⟨rfl, rfl⟩
  refine r_step rfl trivial (o_cmp rfl rfl (c_lss_F hp4758)) ?_
  refine xf [(23, .bool false), (0, Pt b2787 0), (1, V a1), (5, Pt b4744 0), (6, V x4748), (20, v4751), (21, V x4752), (22, V x4753)] ?_
  refine sq ?_
  refine cF 23 rfl ?_
  refine xt 0 ?_
  refine blkX_hit ?_
  obtain rfl := Option.some.inj ho4741
  exact ⟨_, x4745, b4744, v4747, rfl, q4746, rfl, hS4755⟩

def r38_0 : List COp := [u 4 (.assign (ci 0))]
def r38_1 : List COp := [u 6 (.move (t 0)), u 7 (cb .len #[(t 6)] #[44]), u 8 (.move (ci 0))]
def r38_2 : List COp := [u 9 (.binOp .lss 3 (t 8) (t 7) 3)]
def r38_3 : List COp := [u 10 (.move (t 8)), u 5 (.assign (t 10))]
def r38_4 : List COp := [u 11 (.move (t 1)), u 12 (.move (t 0)), u 13 (.move (t 5)), u 14 (.indexAddr 44 (t 12) (t 13)), u 15 (.load 3 (t 14)), u 16 (.binOp .eql 3 (t 11) (t 15) 3)]
def r38_5 : List COp := [u 17 (.move (t 5)), u 4 (.assign (t 17))]
def r38_6 : List COp := [u 18 (.binOp .add 3 (t 8) (ci 1) 3), u 8 (.move (t 18))]
def r38_7 : List COp := [u 4 (.assign (ci (-1)))]
def slices_Index_int_l0 (F : Nat) (a0 : List Int) (a1 : Int) : Nat → Int → Option (Sum Unit Int)
  | 0, _ => none
  | n + 1, x5161 =>
    if x5161 < (a0.length : Int) then
      if 0 ≤ x5161 ∧ x5161 < (a0.length : Int) then
        (a0[x5161.toNat]?).bind fun x5176 =>
        if a1 = x5176 then
          some (.inr x5161)
        else
          slices_Index_int_l0 F a0 a1 n (w64 (x5161 + 1))
      else none
    else
      some (.inl ())
def slices_Index_int (F : Nat) (a0 : List Int) (a1 : Int) : Option Int :=
  ((slices_Index_int_l0 F a0 a1 F 0) : Option (Sum Unit Int)).bind fun o => match o with
    | .inl () => some (-1)
    | .inr y => some y
theorem slices_Index_int_ok (F : Nat) {h : AH} {Z : Zn} {a0 : List Int} {a1 : Int} {v5068 : Value} (hI : Inv Z h) (q5067 : RS (α := Int) Z v5068 a0) {r : Int} (hm : slices_Index_int F a0 a1 = some r) :
    ∃ v h', callI Go.Proofs.Try.prog 38 [v5068, V a1] h = some (v, h') ∧ St h [] Z (0, 0) Z h' [] ∧ v = V r := by
  refine fn_plain (Q := fun v => v = V r) Go.Proofs.Try.func38 rfl rfl hI ?_
  intro hs hS
  unfold slices_Index_int at hm
  refine sr r38_0 ?_
  refine xe 1 [(0, v5068), (1, V a1)] ?_
  refine sq ?_
  refine sr r38_1 ?_
  refine xq 1 [(6, v5068), (0, v5068), (1, V a1)] ?_
  refine r_step rfl trivial (o_len rfl (RS.len q5067) ⟨_, Go.Proofs.Try.underlying44⟩) ?_
  refine xe 1 [(8, V 0), (7, V (a0.length : Int)), (0, v5068), (1, V a1)] ?_
  obtain ⟨o5159, ho5158, hm⟩ := obind hm
  refine W_join [] (fun l h => ∃ Z5183 : Zn, .inl () = o5159 ∧ l = [] ∧ St hs [] Z (0, 0) Z5183 h []) ?_ ?_
  rintro l h5184 ⟨Z5183, rfl, rfl, hS5185⟩
  try dsimp only at hm
  refine sr r38_7 ?_
  refine xe 1 [(4, V (-1))] ?_
  refine rt ?_
  refine ⟨rfl, ?_⟩
  obtain rfl := Option.some.inj hm
  refine ⟨_, _, _, ResL.tmp rfl (ResL.nil), hS5185, ?_⟩
  exact rfl
  refine bk 0 ?_
  refine lp [0, 1, 7, 8] (fun n l h => ∃ Z5160 : Zn, ∃ x5161 : Int, slices_Index_int_l0 F a0 a1 n x5161 = some o5159 ∧ l = [(0, v5068), (1, V a1), (7, V (a0.length : Int)), (8, V x5161)] ∧ St hs [] Z (0, 0) Z5160 h []) F ⟨_, 0, ho5158, rfl, hS⟩ ?_
  rintro n5164 l h5162 ⟨Z5160, x5161, ho5158, rfl, hS5163⟩
  rcases n5164 with _ | n5164
  cases (show none = some o5159 from ho5158)
  rw [slices_Index_int_l0] at ho5158
  refine sr r38_2 ?_
  rcases ifs ho5158 with ⟨hp5166, ho5158⟩ | ⟨hp5166, ho5158⟩
  refine r_step rfl trivial (o_cmp rfl rfl (c_lss_T hp5166)) ?_
  refine xf [(9, .bool true), (0, v5068), (1, V a1), (7, V (a0.length : Int)), (8, V x5161)] ?_
  refine sq ?_
  refine kT 9 rfl ?_
  refine sq ?_
  refine bk 1 ?_
  refine sr r38_3 ?_
  refine xe 2 [(5, V x5161), (0, v5068), (1, V a1), (7, V (a0.length : Int)), (8, V x5161)] ?_
  refine sr r38_4 ?_
  refine xq 3 [(13, V x5161), (12, v5068), (11, V a1), (5, V x5161), (0, v5068), (1, V a1), (7, V (a0.length : Int)), (8, V x5161)] ?_
  obtain ⟨hc5175, ho5158⟩ := chk ho5158
  refine r_step rfl trivial (o_index rfl rfl (by kernel_rfl : slTy _ _ = some (csz Int)) (RS.based (q5067.mono hS5163.zle) (by omega)) hc5175.1 hc5175.2) ?_
  obtain ⟨x5176, hx5177, ho5158⟩ := obind ho5158
  obtain ⟨cs5178, hc5179, he5180⟩ := RS.elz (q5067.mono hS5163.zle) (i := x5161) hx5177
  obtain rfl := rc_Int hc5179
  refine r_step rfl trivial (o_lde (w := V x5176) (he5180 _ (hS5163.zin0 (Zle.refl _))) rfl (by kernel_rfl)) ?_
  rcases ifs ho5158 with ⟨hp5182, ho5158⟩ | ⟨hp5182, ho5158⟩
  refine r_step rfl trivial (o_cmp rfl rfl (c_eql_T hp5182)) ?_
  refine xf [(16, .bool true), (5, V x5161), (0, v5068), (1, V a1), (7, V (a0.length : Int)), (8, V x5161)] ?_
  refine cT 16 rfl ?_
  refine sr r38_5 ?_
  refine xe 2 [(4, V x5161)] ?_
  refine rt ?_
  refine blkX_ret ?_
  refine blkX_ret ?_
  refine ⟨rfl, ?_⟩
  obtain rfl := Option.some.inj ho5158
  obtain rfl := Option.some.inj hm
  refine ⟨_, _, _, ResL.tmp rfl (ResL.nil), hS5163, ?_⟩
  exact rfl
  refine r_step rfl trivial (o_cmp rfl rfl (c_eql_F hp5182)) ?_
  refine xf [(16, .bool false), (5, V x5161), (0, v5068), (1, V a1), (7, V (a0.length : Int)), (8, V x5161)] ?_
  refine kF 16 rfl ?_
  refine rg r38_6 ?_
  refine xe 2 [(8, V (w64 (x5161 + 1))), (0, v5068), (1, V a1), (7, V (a0.length : Int))] ?_
  exact ⟨n5164, Nat.lt_succ_self _, ⟨_, w64 (x5161 + 1), ho5158, rfl, hS5163⟩⟩
  refine r_step rfl trivial (o_cmp rfl rfl (c_lss_F hp5166)) ?_
  refine xf [(9, .bool false), (0, v5068), (1, V a1), (7, V (a0.length : Int)), (8, V x5161)] ?_
  refine sq ?_
  refine cF 9 rfl ?_
  refine xt 0 ?_
  refine blkX_hit ?_
  obtain rfl := Option.some.inj ho5158
  exact ⟨_, rfl, rfl, hS5163⟩

def r33_0 : List COp := [u 4 (.assign (.const (.bool false)))]
def r33_1 : List COp := [u 5 (.move (t 0)), u 6 (.move (t 1)), u 7 (cf 38 #[(t 5), (t 6)] #[44, 3]), u 8 (.binOp .geq 3 (t 7) (ci 0) 3), u 4 (.assign (t 8))]
def slices_Contains_int (F : Nat) (a0 : List Int) (a1 : Int) : Option Bool :=
  (slices_Index_int F a0 a1).bind fun r5194 =>
  if (0 : Int) ≤ r5194 then
    some true
  else
    some false
theorem slices_Contains_int_ok (F : Nat) {h : AH} {Z : Zn} {a0 : List Int} {a1 : Int} {v5066 : Value} (hI : Inv Z h) (q5065 : RS (α := Int) Z v5066 a0) {r : Bool} (hm : slices_Contains_int F a0 a1 = some r) :
    ∃ v h', callI Go.Proofs.Try.prog 33 [v5066, V a1] h = some (v, h') ∧ St h [] Z (0, 0) Z h' [] ∧ v = .bool r := by
  refine fn_plain (Q := fun v => v = .bool r) Go.Proofs.Try.func33 rfl rfl hI ?_
  intro hs hS
  unfold slices_Contains_int at hm
  refine sr r33_0 ?_
  refine xe 1 [(0, v5066), (1, V a1)] ?_
  refine sr r33_1 ?_
  refine xq 2 [(6, V a1), (5, v5066)] ?_
  obtain ⟨r5194, hx5195, hm⟩ := obind hm
  obtain ⟨v5196, h5197, hcl5198, hSc5199, rfl⟩ := slices_Index_int_ok F hS.inv q5065 hx5195
  have hS5200 := St.call (A := []) (B := []) hS hSc5199
  replace hS5200 : St _ _ _ _ _ _ [] := hS5200
  refine r_step rfl trivial (o_call hcl5198 rfl rfl rfl) ?_
  rcases ifs hm with ⟨hp5201, hm⟩ | ⟨hp5201, hm⟩
  refine r_step rfl trivial (o_cmp rfl rfl (c_geq_T hp5201)) ?_
  refine xe 1 [(4, .bool true)] ?_
  refine rt ?_
  refine ⟨rfl, ?_⟩
  obtain rfl := Option.some.inj hm
  refine ⟨_, _, _, ResL.tmp rfl (ResL.nil), hS5200, ?_⟩
  exact rfl
  refine r_step rfl trivial (o_cmp rfl rfl (c_geq_F hp5201)) ?_
  refine xe 1 [(4, .bool false)] ?_
  refine rt ?_
  refine ⟨rfl, ?_⟩
  obtain rfl := Option.some.inj hm
  refine ⟨_, _, _, ResL.tmp rfl (ResL.nil), hS5200, ?_⟩
  exact rfl

def r20_0 : List COp := [u 2 (.box 27 (t 0)), u 4 (.assign (.const (.bool false)))]
def r20_1 : List COp := [u 12 (.fieldAddr 27 (t 2) 0), u 13 (.load 25 (t 12)), u 14 (cb .len #[(t 13)] #[25]), u 15 (.binOp .eql 3 (t 14) (ci 0) 3)]
def r20_2 : List COp := [u 4 (.assign (.const (.bool false)))]
def r20_3 : List COp := [u 16 (.load 27 (t 2)), u 17 (cf 25 #[(t 16)] #[27]), u 5 (.assign (t 17))]
def r20_4 : List COp := [u 18 (.move (t 5)), u 19 (.nilCheck (t 18)), u 20 (.fieldAddr 58 (t 19) 0), u 21 (.fieldAddr 27 (t 20) 0), u 22 (.load 25 (t 21)), u 23 (.indexAddr 25 (t 22) (ci 0)), u 24 (.load 46 (t 23)), u 6 (.alloc 46), o (.store 46 (t 6) (t 24))]
def r20_5 : List COp := [u 25 (.fieldAddr 46 (t 6) 0), u 26 (.load 3 (t 25)), u 27 (.binOp .neq 3 (t 26) (ci 1) 3), u 28 (.move (t 27)), gN 28 (some 29) (.fieldAddr 46 (t 6) 1), gN 28 (some 30) (.load 3 (t 29)), gN 28 (some 31) (.binOp .neq 3 (t 30) (ci 0) 3), u 32 (.pick (t 28) (.const (.bool true)) (t 31)), u 33 (.move (t 32)), gN 33 (some 34) (.fieldAddr 46 (t 6) 2), gN 33 (some 35) (.load 3 (t 34)), gN 33 (some 36) (.move (t 1)), gN 33 (some 37) (.binOp .neq 3 (t 35) (t 36) 3), u 38 (.pick (t 33) (.const (.bool true)) (t 37)), u 39 (.move (t 38)), gN 39 (some 40) (.fieldAddr 46 (t 6) 3), gN 39 (some 41) (.load 3 (t 40)), gN 39 (some 42) (.binOp .neq 3 (t 41) (ci (-1)) 3), u 43 (.pick (t 39) (.const (.bool true)) (t 42))]
def r20_6 : List COp := [u 4 (.assign (.const (.bool false)))]
def r20_7 : List COp := [u 7 (.assign (ci 0))]
def r20_8 : List COp := [u 44 (.move (t 5)), u 45 (.nilCheck (t 44)), u 46 (.fieldAddr 58 (t 45) 0), u 47 (.fieldAddr 27 (t 46) 0), u 48 (.load 25 (t 47)), u 49 (cb .len #[(t 48)] #[25]), u 50 (.move (ci 0))]
def r20_9 : List COp := [u 51 (.binOp .lss 3 (t 50) (t 49) 3)]
def r20_10 : List COp := [u 52 (.move (t 50)), u 53 (.indexAddr 25 (t 48) (t 50)), u 54 (.load 46 (t 53)), u 9 (.alloc 46), u 8 (.assign (t 52)), o (.store 46 (t 9) (t 54))]
def r20_11 : List COp := [u 55 (.move (t 5)), u 56 (.move (t 8)), u 57 (cf 32 #[(t 55), (t 56)] #[54, 3]), u 58 (.unOp .not 4 (t 57)), u 59 (.move (t 58)), gN 59 (some 60) (.move (t 8)), gN 59 (some 61) (.binOp .gtr 3 (t 60) (ci 0) 3), gN 59 (some 62) (.move (t 61)), gT 62 (some 63) (.fieldAddr 46 (t 9) 3), gT 62 (some 64) (.load 3 (t 63)), gT 62 (some 65) (.binOp .lss 3 (t 64) (ci 0) 3), gT 62 (some 66) (.move (t 65)), gN 66 (some 67) (.fieldAddr 46 (t 9) 3), gN 66 (some 68) (.load 3 (t 67)), gN 66 (some 69) (.move (t 8)), gN 66 (some 70) (.binOp .geq 3 (t 68) (t 69) 3), gT 62 (some 71) (.pick (t 66) (.const (.bool true)) (t 70)), gN 59 (some 72) (.pick (t 62) (t 71) (.const (.bool false))), u 73 (.pick (t 59) (.const (.bool true)) (t 72))]
def r20_12 : List COp := [u 4 (.assign (.const (.bool false)))]
def r20_13 : List COp := [u 74 (.move (t 7)), u 75 (.fieldAddr 46 (t 9) 4), u 76 (.load 44 (t 75)), u 77 (cb .len #[(t 76)] #[44]), u 78 (.binOp .add 3 (t 74) (t 77) 3), u 7 (.assign (t 78))]
def r20_14 : List COp := [u 79 (.fieldAddr 46 (t 9) 4), u 80 (.load 44 (t 79)), u 81 (cb .len #[(t 80)] #[44]), u 82 (.move (ci 0))]
def r20_15 : List COp := [u 83 (.binOp .lss 3 (t 82) (t 81) 3)]
def r20_16 : List COp := [u 84 (.move (t 82)), u 85 (.indexAddr 44 (t 80) (t 82)), u 86 (.load 3 (t 85)), u 10 (.assign (t 84)), u 11 (.assign (t 86))]
def r20_17 : List COp := [u 87 (.fieldAddr 46 (t 9) 4), u 88 (.load 44 (t 87)), u 89 (.move (t 10)), u 90 (.slice 44 (t 88) none (some (t 89)) none), u 91 (.move (t 11)), u 92 (cf 33 #[(t 90), (t 91)] #[44, 3])]
def r20_18 : List COp := [u 4 (.assign (.const (.bool false)))]
def r20_19 : List COp := [u 93 (.binOp .add 3 (t 82) (ci 1) 3), u 82 (.move (t 93))]
def r20_20 : List COp := [u 94 (.binOp .add 3 (t 50) (ci 1) 3), u 50 (.move (t 94))]
def r20_21 : List COp := [u 95 (.move (t 7)), u 96 (.move (t 5)), u 97 (.nilCheck (t 96)), u 98 (.fieldAddr 58 (t 97) 0), u 99 (.fieldAddr 27 (t 98) 0), u 100 (.load 25 (t 99)), u 101 (cb .len #[(t 100)] #[25]), u 102 (.binOp .sub 3 (t 101) (ci 1) 3), u 103 (.binOp .eql 3 (t 95) (t 102) 3), u 4 (.assign (t 103))]
def arena_Check_l1 (F : Nat) (a0 : arena_Tree) (a1 : Int) : Nat → (List api_Node) → Int → api_Node → Int → Int → (List Int) → Int → Int → Option (Sum ((List api_Node) × Int × Int × Int) Bool)
  | 0, _, _, _, _, _, _, _, _ => none
  | n + 1, x6546, x6550, x6552, x6555, x6556, x6557, x6560, x6561 =>
    if x6561 < x6560 then
      if 0 ≤ x6561 ∧ x6561 < (x6557.length : Int) then
        (x6557[x6561.toNat]?).bind fun x6568 =>
        if 0 ≤ (0 : Int) ∧ (0 : Int) ≤ x6561 ∧ x6561 ≤ (x6552.Kids.length : Int) then
          (slices_Contains_int F ((x6552.Kids.take x6561.toNat).drop (0 : Int).toNat) x6568).bind fun r6578 =>
          if r6578 = true then
            some (.inr false)
          else
            arena_Check_l1 F a0 a1 n x6546 x6550 x6552 x6555 x6556 x6557 x6560 (w64 (x6561 + 1))
        else none
      else none
    else
      some (.inl (x6546, x6550, x6555, x6556))
def arena_Check_l0 (F : Nat) (a0 : arena_Tree) (a1 : Int) : Nat → (List api_Node) → Int → Int → Int → Option (Sum ((List api_Node) × Int) Bool)
  | 0, _, _, _, _ => none
  | n + 1, x6389, x6393, x6394, x6395 =>
    if x6395 < x6394 then
      if 0 ≤ x6395 ∧ x6395 < (x6389.length : Int) then
        (x6389[x6395.toNat]?).bind fun x6402 =>
        (((arena_forest_lies F (⟨(⟨x6389⟩ : arena_Tree)⟩ : arena_forest) x6395).bind fun r6432 =>
          if r6432 = true then
            if (0 : Int) < x6395 then
              if x6402.Up < (0 : Int) then
                some (.inr false)
              else
                if x6395 ≤ x6402.Up then
                  some (.inr false)
                else
                  some (.inl (x6389, x6402))
            else
              some (.inl (x6389, x6402))
          else
            some (.inr false)) : Option (Sum ((List api_Node) × api_Node) Bool)).bind fun o => match o with
          | .inl (x6449, x6454) => ((arena_Check_l1 F a0 a1 F x6449 (w64 (x6393 + (x6454.Kids.length : Int))) x6454 x6394 x6395 x6454.Kids (x6454.Kids.length : Int) 0) : Option (Sum ((List api_Node) × Int × Int × Int) Bool)).bind fun o => match o with
            | .inl (x6597, x6601, x6602, x6603) => arena_Check_l0 F a0 a1 n x6597 x6601 x6602 (w64 (x6603 + 1))
            | .inr y => some (.inr y)
          | .inr y => some (.inr y)
      else none
    else
      some (.inl (x6389, x6393))
def arena_Check (F : Nat) (a0 : arena_Tree) (a1 : Int) : Option Bool :=
  if (a0.Nodes.length : Int) = (0 : Int) then
    some false
  else
    (arena_own F a0).bind fun r5735 =>
    if 0 ≤ (0 : Int) ∧ (0 : Int) < (r5735.Tree.Nodes.length : Int) then
      (r5735.Tree.Nodes[(0 : Int).toNat]?).bind fun x5751 =>
      if x5751.Kind = (1 : Int) then
        if x5751.From = (0 : Int) then
          if x5751.To = a1 then
            if x5751.Up = (-1 : Int) then
              ((arena_Check_l0 F a0 a1 F r5735.Tree.Nodes 0 (r5735.Tree.Nodes.length : Int) 0) : Option (Sum ((List api_Node) × Int) Bool)).bind fun o => match o with
                | .inl (x6631, x6635) => if x6635 = (w64 ((x6631.length : Int) - 1)) then
                  some true
                else
                  some false
                | .inr y => some y
            else
              some false
          else
            some false
        else
          some false
      else
        some false
    else none
theorem arena_Check_ok (F : Nat) {h : AH} {Z : Zn} {a0 : arena_Tree} {a1 : Int} {v2714 : Value} (hI : Inv Z h) (q2713 : RS (α := api_Node) Z v2714 a0.Nodes) {r : Bool} (hm : arena_Check F a0 a1 = some r) :
    ∃ v h', callI Go.Proofs.Try.prog 20 [.agg #[v2714], V a1] h = some (v, h') ∧ St h [] Z (0, 0) Z h' [] ∧ v = .bool r := by
  refine fn_plain (Q := fun v => v = .bool r) Go.Proofs.Try.func20 rfl rfl hI ?_
  intro hs hS
  unfold arena_Check at hm
  refine sr r20_0 ?_
  refine r_blk rfl trivial (o_box (cs := [v2714]) rfl rfl) hS ?_
  intro b5729 h5730 hS5731
  refine xe 1 [(2, Pt b5729 0), (1, V a1)] ?_
  refine sq ?_
  refine sr r20_1 ?_
  refine xq 1 [(12, Pt b5729 0), (2, Pt b5729 0), (1, V a1)] ?_
  refine r_step rfl trivial (o_ldb (v := v2714) hS5731 (i := 0) rfl rfl (by kernel_rfl)) ?_
  refine r_step rfl trivial (o_len rfl (RS.len q2713) ⟨_, Go.Proofs.Try.underlying25⟩) ?_
  rcases ifs hm with ⟨hp5734, hm⟩ | ⟨hp5734, hm⟩
  refine r_step rfl trivial (o_cmp rfl rfl (c_eql_T hp5734)) ?_
  refine xf [(15, .bool true), (2, Pt b5729 0), (1, V a1)] ?_
  refine cT 15 rfl ?_
  refine sr r20_2 ?_
  refine xe 1 [(4, .bool false)] ?_
  refine rt ?_
  refine ⟨rfl, ?_⟩
  obtain rfl := Option.some.inj hm
  refine ⟨_, _, _, ResL.tmp rfl (ResL.nil), hS5731, ?_⟩
  exact rfl
  refine r_step rfl trivial (o_cmp rfl rfl (c_eql_F hp5734)) ?_
  refine xf [(15, .bool false), (2, Pt b5729 0), (1, V a1)] ?_
  refine kF 15 rfl ?_
  refine sr r20_3 ?_
  refine r_step rfl trivial (o_ldb (v := .agg #[v2714]) hS5731 (i := 0) rfl rfl (by kernel_rfl)) ?_
  obtain ⟨r5735, hx5736, hm⟩ := obind hm
  have hSr5742 : St _ _ _ _ _ _ ([] ++ [.blk b5729 [v2714]]) := hS5731
  obtain ⟨v5737, h5738, Z5743, A5745, hcl5739, hSc5740, b5746, v5748, c5749, rfl, rfl, q5747⟩ := arena_own_ok F hSr5742.preL q2713 hx5736
  have hS5741 := hSr5742.call hSc5740
  have hZ5744 := hSc5740.zle
  replace hS5741 : St _ _ _ _ _ _ [.blk b5746 [v5748], .gs v5748 c5749 (csz api_Node), .blk b5729 [v2714]] := hS5741
  refine r_step rfl trivial (o_call hcl5739 rfl rfl rfl) ?_
  refine xe 1 [(5, Pt b5746 0), (1, V a1)] ?_
  refine sr r20_4 ?_
  refine xq 4 [(21, Pt b5746 0), (5, Pt b5746 0), (1, V a1)] ?_
  refine r_step rfl trivial (o_ldb (v := v5748) hS5741 (i := 0) rfl rfl (by kernel_rfl)) ?_
  obtain ⟨hc5750, hm⟩ := chk hm
  refine r_step rfl trivial (o_index rfl rfl (by kernel_rfl : slTy _ _ = some (csz api_Node)) (hS5741.gbased (j := 1) rfl q5747 (by omega)) hc5750.1 hc5750.2) ?_
  obtain ⟨x5751, hx5752, hm⟩ := obind hm
  obtain ⟨cs5753, hc5754, he5755, ht5756⟩ := hS5741.gel (j := 1) rfl q5747 (i := 0) hx5752
  obtain ⟨v5757, q5758, rfl⟩ := rc_api_Node hc5754
  refine r_step rfl trivial (o_lde (w := .agg #[V x5751.Kind, V x5751.From, V x5751.To, V x5751.Up, v5757, .bool x5751.Key]) he5755 rfl (by kernel_rfl)) ?_
  refine r_blk rfl trivial (o_alloc (cs := [V 0, V 0, V 0, V 0, .slice none 0 0, .bool false]) (by kernel_rfl)) hS5741 ?_
  intro b5759 h5760 hS5761
  refine r_ex1 rfl trivial (o_stb (vs := [V x5751.Kind, V x5751.From, V x5751.To, V x5751.Up, v5757, .bool x5751.Key]) (cells' := (K46 v5757 x5751)) (L' := [.blk b5759 (K46 v5757 x5751), .blk b5746 [v5748], .gs v5748 c5749 (csz api_Node), .blk b5729 [v2714]]) hS5761 (i := 0) rfl rfl rfl rfl (by kernel_rfl) (one_cons rfl (one_cons rfl (one_cons rfl (one_cons rfl (one_cons (RS.one1 q5758) (one_cons rfl one_nil)))))) rfl rfl rfl) ?_
  intro h5762 hS5763
  refine xf [(6, Pt b5759 0), (5, Pt b5746 0), (1, V a1)] ?_
  refine sq ?_
  refine sr r20_5 ?_
  refine xq 1 [(25, Pt b5759 0), (6, Pt b5759 0), (5, Pt b5746 0), (1, V a1)] ?_
  refine r_step rfl trivial (o_ldb (v := V x5751.Kind) hS5763 (i := 0) rfl rfl (by kernel_rfl)) ?_
  rcases ifs hm with ⟨hp5772, hm⟩ | ⟨hp5772, hm⟩
  refine r_step rfl trivial (o_cmp rfl rfl (c_neq_F hp5772)) ?_
  refine xq 2 [(29, Pt b5759 1), (28, .bool false), (6, Pt b5759 0), (5, Pt b5746 0), (1, V a1)] ?_
  refine r_step rfl rfl (o_ldb (v := V x5751.From) hS5763 (i := 0) rfl rfl (by kernel_rfl)) ?_
  rcases ifs hm with ⟨hp5773, hm⟩ | ⟨hp5773, hm⟩
  refine r_step rfl rfl (o_cmp rfl rfl (c_neq_F hp5773)) ?_
  refine xq 3 [(34, Pt b5759 2), (33, .bool false), (6, Pt b5759 0), (5, Pt b5746 0), (1, V a1)] ?_
  refine r_step rfl rfl (o_ldb (v := V x5751.To) hS5763 (i := 0) rfl rfl (by kernel_rfl)) ?_
  refine xq 1 [(36, V a1), (35, V x5751.To), (33, .bool false), (6, Pt b5759 0), (5, Pt b5746 0)] ?_
  rcases ifs hm with ⟨hp5774, hm⟩ | ⟨hp5774, hm⟩
  refine r_step rfl rfl (o_cmp rfl rfl (c_neq_F hp5774)) ?_
  refine xq 3 [(40, Pt b5759 3), (39, .bool false), (5, Pt b5746 0)] ?_
  refine r_step rfl rfl (o_ldb (v := V x5751.Up) hS5763 (i := 0) rfl rfl (by kernel_rfl)) ?_
  rcases ifs hm with ⟨hp5775, hm⟩ | ⟨hp5775, hm⟩
  refine r_step rfl rfl (o_cmp rfl rfl (c_neq_F hp5775)) ?_
  refine xe 1 [(43, .bool false), (5, Pt b5746 0)] ?_
  refine kF 43 rfl ?_
  refine sr r20_7 ?_
  refine xe 1 [(7, V 0), (5, Pt b5746 0)] ?_
  refine sq ?_
  refine sr r20_8 ?_
  refine xq 4 [(47, Pt b5746 0), (7, V 0), (5, Pt b5746 0)] ?_
  refine r_step rfl trivial (o_ldb (v := v5748) hS5763 (i := 1) rfl rfl (by kernel_rfl)) ?_
  refine r_step rfl trivial (o_len rfl (hS5763.glen (i := 2) rfl q5747) ⟨_, Go.Proofs.Try.underlying25⟩) ?_
  refine xe 1 [(50, V 0), (49, V (r5735.Tree.Nodes.length : Int)), (48, v5748), (7, V 0), (5, Pt b5746 0)] ?_
  obtain ⟨o6386, ho6385, hm⟩ := obind hm
  refine W_join [5, 7] (fun l h => ∃ Z6629 : Zn, ∃ x6631 : List api_Node, ∃ x6635 : Int, ∃ b6630 : Nat, ∃ v6633 : Value, ∃ c6634 : List Value, .inl (x6631, x6635) = o6386 ∧ RCs (α := api_Node) Z6629 c6634 x6631 ∧ l = [(5, Pt b6630 0), (7, V x6635)] ∧ St hs [] Z (0, 0) Z6629 h [.blk b6630 [v6633], .gs v6633 c6634 (csz api_Node)]) ?_ ?_
  rintro l h6636 ⟨Z6629, x6631, x6635, b6630, v6633, c6634, rfl, q6632, rfl, hS6637⟩
  try dsimp only at hm
  refine sr r20_21 ?_
  refine xq 5 [(99, Pt b6630 0), (95, V x6635)] ?_
  refine r_step rfl trivial (o_ldb (v := v6633) hS6637 (i := 0) rfl rfl (by kernel_rfl)) ?_
  refine r_step rfl trivial (o_len rfl (hS6637.glen (i := 1) rfl q6632) ⟨_, Go.Proofs.Try.underlying25⟩) ?_
  refine xq 1 [(102, V (w64 ((x6631.length : Int) - 1))), (95, V x6635)] ?_
  rcases ifs hm with ⟨hp6638, hm⟩ | ⟨hp6638, hm⟩
  refine r_step rfl trivial (o_cmp rfl rfl (c_eql_T hp6638)) ?_
  refine xe 1 [(4, .bool true)] ?_
  refine rt ?_
  refine ⟨rfl, ?_⟩
  obtain rfl := Option.some.inj hm
  refine ⟨_, _, _, ResL.tmp rfl (ResL.nil), hS6637, ?_⟩
  exact rfl
  refine r_step rfl trivial (o_cmp rfl rfl (c_eql_F hp6638)) ?_
  refine xe 1 [(4, .bool false)] ?_
  refine rt ?_
  refine ⟨rfl, ?_⟩
  obtain rfl := Option.some.inj hm
  refine ⟨_, _, _, ResL.tmp rfl (ResL.nil), hS6637, ?_⟩
  exact rfl
  refine bk 0 ?_
  refine lp [5, 7, 48, 49, 50] (fun n l h => ∃ Z6387 : Zn, ∃ x6389 : List api_Node, ∃ x6393 : Int, ∃ x6394 : Int, ∃ x6395 : Int, ∃ b6388 : Nat, ∃ v6391 : Value, ∃ c6392 : List Value, arena_Check_l0 F a0 a1 n x6389 x6393 x6394 x6395 = some o6386 ∧ RCs (α := api_Node) Z6387 c6392 x6389 ∧ l = [(5, Pt b6388 0), (7, V x6393), (48, v6391), (49, V x6394), (50, V x6395)] ∧ St hs [] Z (0, 0) Z6387 h [.blk b6388 [v6391], .gs v6391 c6392 (csz api_Node)]) F ⟨_, r5735.Tree.Nodes, 0, (r5735.Tree.Nodes.length : Int), 0, b5746, v5748, c5749, ho6385, q5747, rfl, (((hS5763.front 2 rfl).front 2 rfl).takeN 2)⟩ ?_
  rintro n6398 l h6396 ⟨Z6387, x6389, x6393, x6394, x6395, b6388, v6391, c6392, ho6385, q6390, rfl, hS6397⟩
  rcases n6398 with _ | n6398
  cases (show none = some o6386 from ho6385)
  rw [arena_Check_l0] at ho6385
  refine sr r20_9 ?_
  rcases ifs ho6385 with ⟨hp6400, ho6385⟩ | ⟨hp6400, ho6385⟩
  refine r_step rfl trivial (o_cmp rfl rfl (c_lss_T hp6400)) ?_
  refine xf [(51, .bool true), (5, Pt b6388 0), (7, V x6393), (48, v6391), (49, V x6394), (50, V x6395)] ?_
  refine sq ?_
  refine kT 51 rfl ?_
  refine sq ?_
  refine bk 1 ?_
  refine sr r20_10 ?_
  refine xq 1 [(52, V x6395), (5, Pt b6388 0), (7, V x6393), (48, v6391), (49, V x6394), (50, V x6395)] ?_
  obtain ⟨hc6401, ho6385⟩ := chk ho6385
  refine r_step rfl trivial (o_index rfl rfl (by kernel_rfl : slTy _ _ = some (csz api_Node)) (hS6397.gbased (j := 1) rfl q6390 (by omega)) hc6401.1 hc6401.2) ?_
  obtain ⟨x6402, hx6403, ho6385⟩ := obind ho6385
  obtain ⟨cs6404, hc6405, he6406, ht6407⟩ := hS6397.gel (j := 1) rfl q6390 (i := x6395) hx6403
  obtain ⟨v6408, q6409, rfl⟩ := rc_api_Node hc6405
  refine r_step rfl trivial (o_lde (w := .agg #[V x6402.Kind, V x6402.From, V x6402.To, V x6402.Up, v6408, .bool x6402.Key]) he6406 rfl (by kernel_rfl)) ?_
  refine r_blk rfl trivial (o_alloc (cs := [V 0, V 0, V 0, V 0, .slice none 0 0, .bool false]) (by kernel_rfl)) hS6397 ?_
  intro b6410 h6411 hS6412
  refine xq 1 [(8, V x6395), (9, Pt b6410 0), (54, .agg #[V x6402.Kind, V x6402.From, V x6402.To, V x6402.Up, v6408, .bool x6402.Key]), (5, Pt b6388 0), (7, V x6393), (48, v6391), (49, V x6394), (50, V x6395)] ?_
  refine r_ex1 rfl trivial (o_stb (vs := [V x6402.Kind, V x6402.From, V x6402.To, V x6402.Up, v6408, .bool x6402.Key]) (cells' := (K46 v6408 x6402)) (L' := [.blk b6410 (K46 v6408 x6402), .blk b6388 [v6391], .gs v6391 c6392 (csz api_Node)]) hS6412 (i := 0) rfl rfl rfl rfl (by kernel_rfl) (one_cons rfl (one_cons rfl (one_cons rfl (one_cons rfl (one_cons (RS.one1 q6409) (one_cons rfl one_nil)))))) rfl rfl rfl) ?_
  intro h6413 hS6414
  refine xf [(8, V x6395), (9, Pt b6410 0), (5, Pt b6388 0), (7, V x6393), (48, v6391), (49, V x6394), (50, V x6395)] ?_
  refine sq ?_
  obtain ⟨o6431, ho6430, ho6385⟩ := obind ho6385
  refine W_join [5, 7, 9, 48, 49, 50] (fun l h => ∃ Z6447 : Zn, ∃ x6449 : List api_Node, ∃ x6454 : api_Node, ∃ b6448 : Nat, ∃ v6451 : Value, ∃ c6452 : List Value, ∃ b6453 : Nat, ∃ v6456 : Value, .inl (x6449, x6454) = o6431 ∧ RCs (α := api_Node) Z6447 c6452 x6449 ∧ RS (α := Int) Z6447 v6456 x6454.Kids ∧ l = [(5, Pt b6448 0), (7, V x6393), (9, Pt b6453 0), (48, v6451), (49, V x6394), (50, V x6395)] ∧ St hs [] Z (0, 0) Z6447 h [.blk b6448 [v6451], .gs v6451 c6452 (csz api_Node), .blk b6453 (K46 v6456 x6454)]) ?_ ?_
  rintro l h6457 ⟨Z6447, x6449, x6454, b6448, v6451, c6452, b6453, v6456, rfl, q6450, q6455, rfl, hS6458⟩
  try dsimp only at ho6385
  refine sr r20_13 ?_
  refine xq 2 [(75, Pt b6453 4), (74, V x6393), (5, Pt b6448 0), (7, V x6393), (9, Pt b6453 0), (48, v6451), (49, V x6394), (50, V x6395)] ?_
  refine r_step rfl trivial (o_ldb (v := v6456) hS6458 (i := 2) rfl rfl (by kernel_rfl)) ?_
  refine r_step rfl trivial (o_len rfl (RS.len q6455) ⟨_, Go.Proofs.Try.underlying44⟩) ?_
  refine xe 2 [(7, V (w64 (x6393 + (x6454.Kids.length : Int)))), (5, Pt b6448 0), (9, Pt b6453 0), (48, v6451), (49, V x6394), (50, V x6395)] ?_
  refine sr r20_14 ?_
  refine xq 1 [(79, Pt b6453 4), (7, V (w64 (x6393 + (x6454.Kids.length : Int)))), (5, Pt b6448 0), (9, Pt b6453 0), (48, v6451), (49, V x6394), (50, V x6395)] ?_
  refine r_step rfl trivial (o_ldb (v := v6456) hS6458 (i := 2) rfl rfl (by kernel_rfl)) ?_
  refine r_step rfl trivial (o_len rfl (RS.len q6455) ⟨_, Go.Proofs.Try.underlying44⟩) ?_
  refine xe 1 [(82, V 0), (81, V (x6454.Kids.length : Int)), (80, v6456), (7, V (w64 (x6393 + (x6454.Kids.length : Int)))), (5, Pt b6448 0), (9, Pt b6453 0), (48, v6451), (49, V x6394), (50, V x6395)] ?_
  obtain ⟨o6543, ho6542, ho6385⟩ := obind ho6385
  refine W_join [5, 7, 48, 49, 50] (fun l h => ∃ Z6595 : Zn, ∃ x6597 : List api_Node, ∃ x6601 : Int, ∃ x6602 : Int, ∃ x6603 : Int, ∃ b6596 : Nat, ∃ v6599 : Value, ∃ c6600 : List Value, .inl (x6597, x6601, x6602, x6603) = o6543 ∧ RCs (α := api_Node) Z6595 c6600 x6597 ∧ l = [(5, Pt b6596 0), (7, V x6601), (48, v6599), (49, V x6602), (50, V x6603)] ∧ St hs [] Z (0, 0) Z6595 h [.blk b6596 [v6599], .gs v6599 c6600 (csz api_Node)]) ?_ ?_
  rintro l h6604 ⟨Z6595, x6597, x6601, x6602, x6603, b6596, v6599, c6600, rfl, q6598, rfl, hS6605⟩
  try dsimp only at ho6385
  refine rg r20_20 ?_
  refine xe 2 [(50, V (w64 (x6603 + 1))), (5, Pt b6596 0), (7, V x6601), (48, v6599), (49, V x6602)] ?_
  exact ⟨n6398, Nat.lt_succ_self _, ⟨_, x6597, x6601, x6602, w64 (x6603 + 1), b6596, v6599, c6600, ho6385, q6598, rfl, hS6605⟩⟩
  refine bk 2 ?_
  refine lp [5, 7, 9, 48, 49, 50, 80, 81, 82] (fun n l h => ∃ Z6544 : Zn, ∃ x6546 : List api_Node, ∃ x6550 : Int, ∃ x6552 : api_Node, ∃ x6555 : Int, ∃ x6556 : Int, ∃ x6557 : List Int, ∃ x6560 : Int, ∃ x6561 : Int, ∃ b6545 : Nat, ∃ v6548 : Value, ∃ c6549 : List Value, ∃ b6551 : Nat, ∃ v6554 : Value, ∃ v6559 : Value, arena_Check_l1 F a0 a1 n x6546 x6550 x6552 x6555 x6556 x6557 x6560 x6561 = some o6543 ∧ RCs (α := api_Node) Z6544 c6549 x6546 ∧ RS (α := Int) Z6544 v6554 x6552.Kids ∧ RS (α := Int) Z6544 v6559 x6557 ∧ l = [(5, Pt b6545 0), (7, V x6550), (9, Pt b6551 0), (48, v6548), (49, V x6555), (50, V x6556), (80, v6559), (81, V x6560), (82, V x6561)] ∧ St hs [] Z (0, 0) Z6544 h [.blk b6545 [v6548], .gs v6548 c6549 (csz api_Node), .blk b6551 (K46 v6554 x6552)]) F ⟨_, x6449, w64 (x6393 + (x6454.Kids.length : Int)), x6454, x6394, x6395, x6454.Kids, (x6454.Kids.length : Int), 0, b6448, v6451, c6452, b6453, v6456, v6456, ho6542, q6450, q6455, q6455, rfl, hS6458⟩ ?_
  rintro n6564 l h6562 ⟨Z6544, x6546, x6550, x6552, x6555, x6556, x6557, x6560, x6561, b6545, v6548, c6549, b6551, v6554, v6559, ho6542, q6547, q6553, q6558, rfl, hS6563⟩
  rcases n6564 with _ | n6564
  cases (show none = some o6543 from ho6542)
  rw [arena_Check_l1] at ho6542
  refine sr r20_15 ?_
  rcases ifs ho6542 with ⟨hp6566, ho6542⟩ | ⟨hp6566, ho6542⟩
  refine r_step rfl trivial (o_cmp rfl rfl (c_lss_T hp6566)) ?_
  refine xf [(83, .bool true), (5, Pt b6545 0), (7, V x6550), (9, Pt b6551 0), (48, v6548), (49, V x6555), (50, V x6556), (80, v6559), (81, V x6560), (82, V x6561)] ?_
  refine sq ?_
  refine kT 83 rfl ?_
  refine sq ?_
  refine bk 3 ?_
  refine sr r20_16 ?_
  refine xq 1 [(84, V x6561), (5, Pt b6545 0), (7, V x6550), (9, Pt b6551 0), (48, v6548), (49, V x6555), (50, V x6556), (80, v6559), (81, V x6560), (82, V x6561)] ?_
  obtain ⟨hc6567, ho6542⟩ := chk ho6542
  refine r_step rfl trivial (o_index rfl rfl (by kernel_rfl : slTy _ _ = some (csz Int)) (RS.based q6558 (by omega)) hc6567.1 hc6567.2) ?_
  obtain ⟨x6568, hx6569, ho6542⟩ := obind ho6542
  obtain ⟨cs6570, hc6571, he6572⟩ := RS.elz q6558 (i := x6561) hx6569
  obtain rfl := rc_Int hc6571
  refine r_step rfl trivial (o_lde (w := V x6568) (he6572 _ (hS6563.zin0 (Zle.refl _))) rfl (by kernel_rfl)) ?_
  refine xe 2 [(11, V x6568), (10, V x6561), (5, Pt b6545 0), (7, V x6550), (9, Pt b6551 0), (48, v6548), (49, V x6555), (50, V x6556), (80, v6559), (81, V x6560), (82, V x6561)] ?_
  refine sr r20_17 ?_
  refine xq 1 [(87, Pt b6551 4), (11, V x6568), (10, V x6561), (5, Pt b6545 0), (7, V x6550), (9, Pt b6551 0), (48, v6548), (49, V x6555), (50, V x6556), (80, v6559), (81, V x6560), (82, V x6561)] ?_
  refine r_step rfl trivial (o_ldb (v := v6554) hS6563 (i := 2) rfl rfl (by kernel_rfl)) ?_
  refine xq 1 [(89, V x6561), (88, v6554), (11, V x6568), (5, Pt b6545 0), (7, V x6550), (9, Pt b6551 0), (48, v6548), (49, V x6555), (50, V x6556), (80, v6559), (81, V x6560), (82, V x6561)] ?_
  obtain ⟨hc6577, ho6542⟩ := chk ho6542
  refine r_exv rfl trivial (o_slice (a := 0) (b := x6561) q6553 rfl (by kernel_rfl : slTy _ _ = some (csz Int)) rfl ⟨_, rfl⟩ hc6577.1 hc6577.2.1 hc6577.2.2) ?_
  intro v6574 q6575
  refine xq 1 [(91, V x6568), (90, v6574), (5, Pt b6545 0), (7, V x6550), (9, Pt b6551 0), (48, v6548), (49, V x6555), (50, V x6556), (80, v6559), (81, V x6560), (82, V x6561)] ?_
  obtain ⟨r6578, hx6579, ho6542⟩ := obind ho6542
  obtain ⟨v6580, h6581, hcl6582, hSc6583, rfl⟩ := slices_Contains_int_ok F hS6563.inv q6575 hx6579
  have hS6584 := St.call (A := []) (B := [.blk b6545 [v6548], .gs v6548 c6549 (csz api_Node), .blk b6551 (K46 v6554 x6552)]) hS6563 hSc6583
  replace hS6584 : St _ _ _ _ _ _ [.blk b6545 [v6548], .gs v6548 c6549 (csz api_Node), .blk b6551 (K46 v6554 x6552)] := hS6584
  refine r_step rfl trivial (o_call hcl6582 rfl rfl rfl) ?_
  refine xf [(92, .bool r6578), (5, Pt b6545 0), (7, V x6550), (9, Pt b6551 0), (48, v6548), (49, V x6555), (50, V x6556), (80, v6559), (81, V x6560), (82, V x6561)] ?_
  rcases ifs ho6542 with ⟨hp6586, ho6542⟩ | ⟨hp6586, ho6542⟩
  refine W_condT (x := .tmp 92) (by kernel_rfl) rfl hp6586 ?_
  refine sr r20_18 ?_
  refine xe 1 [(4, .bool false)] ?_
  refine rt ?_
  refine blkX_ret ?_
  refine blkX_ret ?_
  refine blkX_ret ?_
  refine blkX_ret ?_
  refine ⟨rfl, ?_⟩
  obtain rfl := Option.some.inj ho6542
  obtain rfl := Option.some.inj ho6385
  obtain rfl := Option.some.inj hm
  refine ⟨_, _, _, ResL.tmp rfl (ResL.nil), hS6584, ?_⟩
  exact rfl
  refine W_condF (x := .tmp 92) (by kernel_rfl) rfl (Bool.eq_false_iff.2 hp6586) ?_
  refine sk ?_
  refine rg r20_19 ?_
  refine xe 2 [(82, V (w64 (x6561 + 1))), (5, Pt b6545 0), (7, V x6550), (9, Pt b6551 0), (48, v6548), (49, V x6555), (50, V x6556), (80, v6559), (81, V x6560)] ?_
  exact ⟨n6564, Nat.lt_succ_self _, ⟨_, x6546, x6550, x6552, x6555, x6556, x6557, x6560, w64 (x6561 + 1), b6545, v6548, c6549, b6551, v6554, v6559, ho6542, q6547, q6553, q6558, rfl, hS6584⟩⟩
  refine r_step rfl trivial (o_cmp rfl rfl (c_lss_F hp6566)) ?_
  refine xf [(83, .bool false), (5, Pt b6545 0), (7, V x6550), (9, Pt b6551 0), (48, v6548), (49, V x6555), (50, V x6556), (80, v6559), (81, V x6560), (82, V x6561)] ?_
  refine sq ?_
  refine cF 83 rfl ?_
  refine xt 2 ?_
  refine blkX_hit ?_
  obtain rfl := Option.some.inj ho6542
  exact ⟨_, x6546, x6550, x6555, x6556, b6545, v6548, c6549, rfl, q6547, rfl, (hS6563.takeN 2)⟩
  refine sr r20_11 ?_
  refine xq 2 [(56, V x6395), (55, Pt b6388 0), (8, V x6395), (9, Pt b6410 0), (5, Pt b6388 0), (7, V x6393), (48, v6391), (49, V x6394), (50, V x6395)] ?_
  obtain ⟨r6432, hx6433, ho6430⟩ := obind ho6430
  have hF6439 : St _ _ _ _ _ _ ([.blk b6388 [v6391], .gs v6391 c6392 (csz api_Node)] ++ [.blk b6410 (K46 v6408 x6402)]) := ((hS6414.front 2 rfl).front 2 rfl)
  obtain ⟨v6434, h6435, Z6440, A6442, hcl6436, hSc6437, rfl, rfl⟩ := arena_forest_lies_ok F hF6439.preL q6390 hx6433
  have hZ6441 := hSc6437.zle
  have hS6438 := hF6439.call hSc6437
  replace hS6438 : St _ _ _ _ _ _ [.blk b6388 [v6391], .gs v6391 c6392 (csz api_Node), .blk b6410 (K46 v6408 x6402)] := hS6438
  refine r_step rfl trivial (o_call hcl6436 rfl rfl rfl) ?_
  rcases ifs ho6430 with ⟨hp6443, ho6430⟩ | ⟨hp6443, ho6430⟩
  refine r_setb (t := 57) rfl hp6443 ?_
  refine xq 3 [(60, V x6395), (59, .bool false), (8, V x6395), (9, Pt b6410 0), (5, Pt b6388 0), (7, V x6393), (48, v6391), (49, V x6394), (50, V x6395)] ?_
  rcases ifs ho6430 with ⟨hp6444, ho6430⟩ | ⟨hp6444, ho6430⟩
  refine r_step rfl rfl (o_cmp rfl rfl (c_gtr_T hp6444)) ?_
  refine xq 2 [(63, Pt b6410 3), (62, .bool true), (59, .bool false), (8, V x6395), (9, Pt b6410 0), (5, Pt b6388 0), (7, V x6393), (48, v6391), (49, V x6394), (50, V x6395)] ?_
  refine r_step rfl rfl (o_ldb (v := V x6402.Up) hS6438 (i := 2) rfl rfl (by kernel_rfl)) ?_
  rcases ifs ho6430 with ⟨hp6445, ho6430⟩ | ⟨hp6445, ho6430⟩
  refine r_step rfl rfl (o_cmp rfl rfl (c_lss_T hp6445)) ?_
  refine xe 8 [(73, .bool true), (9, Pt b6410 0), (5, Pt b6388 0), (7, V x6393), (48, v6391), (49, V x6394), (50, V x6395)] ?_
  refine cT 73 rfl ?_
  refine sr r20_12 ?_
  refine xe 1 [(4, .bool false)] ?_
  refine rt ?_
  refine blkX_ret ?_
  refine blkX_ret ?_
  refine ⟨rfl, ?_⟩
  obtain rfl := Option.some.inj ho6430
  obtain rfl := Option.some.inj ho6385
  obtain rfl := Option.some.inj hm
  refine ⟨_, _, _, ResL.tmp rfl (ResL.nil), hS6438, ?_⟩
  exact rfl
  refine r_step rfl rfl (o_cmp rfl rfl (c_lss_F hp6445)) ?_
  refine xq 2 [(67, Pt b6410 3), (66, .bool false), (62, .bool true), (59, .bool false), (8, V x6395), (9, Pt b6410 0), (5, Pt b6388 0), (7, V x6393), (48, v6391), (49, V x6394), (50, V x6395)] ?_
  refine r_step rfl rfl (o_ldb (v := V x6402.Up) hS6438 (i := 2) rfl rfl (by kernel_rfl)) ?_
  refine xq 1 [(69, V x6395), (68, V x6402.Up), (66, .bool false), (62, .bool true), (59, .bool false), (9, Pt b6410 0), (5, Pt b6388 0), (7, V x6393), (48, v6391), (49, V x6394), (50, V x6395)] ?_
  rcases ifs ho6430 with ⟨hp6446, ho6430⟩ | ⟨hp6446, ho6430⟩
  refine r_step rfl rfl (o_cmp rfl rfl (c_geq_T hp6446)) ?_
  refine xe 3 [(73, .bool true), (9, Pt b6410 0), (5, Pt b6388 0), (7, V x6393), (48, v6391), (49, V x6394), (50, V x6395)] ?_
  refine cT 73 rfl ?_
  refine sr r20_12 ?_
  refine xe 1 [(4, .bool false)] ?_
  refine rt ?_
  refine blkX_ret ?_
  refine blkX_ret ?_
  refine ⟨rfl, ?_⟩
  obtain rfl := Option.some.inj ho6430
  obtain rfl := Option.some.inj ho6385
  obtain rfl := Option.some.inj hm
  refine ⟨_, _, _, ResL.tmp rfl (ResL.nil), hS6438, ?_⟩
  exact rfl
  refine r_step rfl rfl (o_cmp rfl rfl (c_geq_F hp6446)) ?_
  refine xe 3 [(73, .bool false), (9, Pt b6410 0), (5, Pt b6388 0), (7, V x6393), (48, v6391), (49, V x6394), (50, V x6395)] ?_
  refine kF 73 rfl ?_
  obtain rfl := Option.some.inj ho6430
  exact ⟨_, x6389, x6402, b6388, v6391, c6392, b6410, v6408, rfl, (q6390.mono hZ6441), (q6409.mono hZ6441), rfl, hS6438⟩
  refine r_step rfl rfl (o_cmp rfl rfl (c_gtr_F hp6444)) ?_
  refine xe 12 [(73, .bool false), (9, Pt b6410 0), (5, Pt b6388 0), (7, V x6393), (48, v6391), (49, V x6394), (50, V x6395)] ?_
  refine kF 73 rfl ?_
  obtain rfl := Option.some.inj ho6430
  exact ⟨_, x6389, x6402, b6388, v6391, c6392, b6410, v6408, rfl, (q6390.mono hZ6441), (q6409.mono hZ6441), rfl, hS6438⟩
  refine r_setb (t := 57) rfl (Bool.eq_false_iff.2 hp6443) ?_
  refine xe 16 [(73, .bool true), (9, Pt b6410 0), (5, Pt b6388 0), (7, V x6393), (48, v6391), (49, V x6394), (50, V x6395)] ?_
  refine cT 73 rfl ?_
  refine sr r20_12 ?_
  refine xe 1 [(4, .bool false)] ?_
  refine rt ?_
  refine blkX_ret ?_
  refine blkX_ret ?_
  refine ⟨rfl, ?_⟩
  obtain rfl := Option.some.inj ho6430
  obtain rfl := Option.some.inj ho6385
  obtain rfl := Option.some.inj hm
  refine ⟨_, _, _, ResL.tmp rfl (ResL.nil), hS6438, ?_⟩
  exact rfl
  refine r_step rfl trivial (o_cmp rfl rfl (c_lss_F hp6400)) ?_
  refine xf [(51, .bool false), (5, Pt b6388 0), (7, V x6393), (48, v6391), (49, V x6394), (50, V x6395)] ?_
  refine sq ?_
  refine cF 51 rfl ?_
  refine xt 0 ?_
  refine blkX_hit ?_
  obtain rfl := Option.some.inj ho6385
  exact ⟨_, x6389, x6393, b6388, v6391, c6392, rfl, q6390, rfl, hS6397⟩
  refine r_step rfl rfl (o_cmp rfl rfl (c_neq_T hp5775)) ?_
  refine xe 1 [(43, .bool true), (5, Pt b5746 0)] ?_
  refine cT 43 rfl ?_
  refine sr r20_6 ?_
  refine xe 1 [(4, .bool false)] ?_
  refine rt ?_
  refine ⟨rfl, ?_⟩
  obtain rfl := Option.some.inj hm
  refine ⟨_, _, _, ResL.tmp rfl (ResL.nil), hS5763, ?_⟩
  exact rfl
  refine r_step rfl rfl (o_cmp rfl rfl (c_neq_T hp5774)) ?_
  refine xe 6 [(43, .bool true), (5, Pt b5746 0)] ?_
  refine cT 43 rfl ?_
  refine sr r20_6 ?_
  refine xe 1 [(4, .bool false)] ?_
  refine rt ?_
  refine ⟨rfl, ?_⟩
  obtain rfl := Option.some.inj hm
  refine ⟨_, _, _, ResL.tmp rfl (ResL.nil), hS5763, ?_⟩
  exact rfl
  refine r_step rfl rfl (o_cmp rfl rfl (c_neq_T hp5773)) ?_
  refine xe 12 [(43, .bool true), (5, Pt b5746 0)] ?_
  refine cT 43 rfl ?_
  refine sr r20_6 ?_
  refine xe 1 [(4, .bool false)] ?_
  refine rt ?_
  refine ⟨rfl, ?_⟩
  obtain rfl := Option.some.inj hm
  refine ⟨_, _, _, ResL.tmp rfl (ResL.nil), hS5763, ?_⟩
  exact rfl
  refine r_step rfl trivial (o_cmp rfl rfl (c_neq_T hp5772)) ?_
  refine xe 16 [(43, .bool true), (5, Pt b5746 0)] ?_
  refine cT 43 rfl ?_
  refine sr r20_6 ?_
  refine xe 1 [(4, .bool false)] ?_
  refine rt ?_
  refine ⟨rfl, ?_⟩
  obtain rfl := Option.some.inj hm
  refine ⟨_, _, _, ResL.tmp rfl (ResL.nil), hS5763, ?_⟩
  exact rfl

end Go.Proofs.Ytpijjenaadkjdaa.M
