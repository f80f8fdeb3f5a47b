/- Printed by a program of this session: Go functions as Lean functions over plain data, and that the calls come to them. -/
import Derived.Test.YtcnbcimnfeekjaaSyJ
import Derived.Test.YtcnbcimnfeekjaaChecked
import Derived.KernelRfl
import Derived.Test.YtcnbcimnfeekjaaMS1
namespace Go.Proofs.Ytcnbcimnfeekjaa.M
open Go Am Sy
open Sy.Cell (rc)
set_option linter.unusedVariables false
set_option linter.unusedSimpArgs false
set_option maxRecDepth 20000

structure api_Row where
  Kind : Int
  From : Int
  To : Int
  Col : Int
  deriving DecidableEq, Inhabited
instance : Cell api_Row where
  size := 4
  rc Z cs x := cs = [V x.Kind, V x.From, V x.To, V x.Col]
  len h := by rw [h]; rfl
  mono _ h := h
  one h := by rw [h]; rfl
  pos := by decide
theorem rc_api_Row {Z : Zn} {cs : List Value} {x : api_Row} (h : rc Z cs x) : cs = [V x.Kind, V x.From, V x.To, V x.Col] := h
abbrev K33 (x : api_Row) : List Value := [V x.Kind, V x.From, V x.To, V x.Col]

theorem eqT_api_Row_33 {x y : api_Row} (h : x = y) : aBin Go.Proofs.Try.prog .eql 33 (.agg #[V x.Kind, V x.From, V x.To, V x.Col]) (.agg #[V y.Kind, V y.From, V y.To, V y.Col]) = some (.bool true) := by
  subst h
  refine eq_agg Go.Proofs.Try.underlying33 (by kernel_rfl) (by kernel_rfl) (w := true) ?_
  refine fld_T (by decide) rfl rfl ((eqf_int ⟨_, Go.Proofs.Try.underlying3⟩).trans (by simp )) ?_
  refine fld_T (by decide) rfl rfl ((eqf_int ⟨_, Go.Proofs.Try.underlying3⟩).trans (by simp )) ?_
  refine fld_T (by decide) rfl rfl ((eqf_int ⟨_, Go.Proofs.Try.underlying3⟩).trans (by simp )) ?_
  refine fld_T (by decide) rfl rfl ((eqf_int ⟨_, Go.Proofs.Try.underlying3⟩).trans (by simp )) ?_
  rfl
theorem eqF_api_Row_33 {x y : api_Row} (h : ¬ x = y) : aBin Go.Proofs.Try.prog .eql 33 (.agg #[V x.Kind, V x.From, V x.To, V x.Col]) (.agg #[V y.Kind, V y.From, V y.To, V y.Col]) = some (.bool false) := by
  refine eq_agg Go.Proofs.Try.underlying33 (by kernel_rfl) (by kernel_rfl) (w := false) ?_
  by_cases h0 : x.Kind = y.Kind
  case neg => exact fld_F (by decide) rfl rfl ((eqf_int ⟨_, Go.Proofs.Try.underlying3⟩).trans (by simp [h0]))
  refine fld_T (by decide) rfl rfl ((eqf_int ⟨_, Go.Proofs.Try.underlying3⟩).trans (by simp [h0])) ?_
  by_cases h1 : x.From = y.From
  case neg => exact fld_F (by decide) rfl rfl ((eqf_int ⟨_, Go.Proofs.Try.underlying3⟩).trans (by simp [h1]))
  refine fld_T (by decide) rfl rfl ((eqf_int ⟨_, Go.Proofs.Try.underlying3⟩).trans (by simp [h1])) ?_
  by_cases h2 : x.To = y.To
  case neg => exact fld_F (by decide) rfl rfl ((eqf_int ⟨_, Go.Proofs.Try.underlying3⟩).trans (by simp [h2]))
  refine fld_T (by decide) rfl rfl ((eqf_int ⟨_, Go.Proofs.Try.underlying3⟩).trans (by simp [h2])) ?_
  by_cases h3 : x.Col = y.Col
  case neg => exact fld_F (by decide) rfl rfl ((eqf_int ⟨_, Go.Proofs.Try.underlying3⟩).trans (by simp [h3]))
  refine fld_T (by decide) rfl rfl ((eqf_int ⟨_, Go.Proofs.Try.underlying3⟩).trans (by simp [h3])) ?_
  exact absurd (by cases x; cases y; simp_all) h
theorem neT_api_Row_33 {x y : api_Row} (h : ¬ x = y) : aBin Go.Proofs.Try.prog .neq 33 (.agg #[V x.Kind, V x.From, V x.To, V x.Col]) (.agg #[V y.Kind, V y.From, V y.To, V y.Col]) = some (.bool true) := by
  refine ne_agg Go.Proofs.Try.underlying33 (by kernel_rfl) (by kernel_rfl) (w := false) ?_
  by_cases h0 : x.Kind = y.Kind
  case neg => exact fld_F (by decide) rfl rfl ((eqf_int ⟨_, Go.Proofs.Try.underlying3⟩).trans (by simp [h0]))
  refine fld_T (by decide) rfl rfl ((eqf_int ⟨_, Go.Proofs.Try.underlying3⟩).trans (by simp [h0])) ?_
  by_cases h1 : x.From = y.From
  case neg => exact fld_F (by decide) rfl rfl ((eqf_int ⟨_, Go.Proofs.Try.underlying3⟩).trans (by simp [h1]))
  refine fld_T (by decide) rfl rfl ((eqf_int ⟨_, Go.Proofs.Try.underlying3⟩).trans (by simp [h1])) ?_
  by_cases h2 : x.To = y.To
  case neg => exact fld_F (by decide) rfl rfl ((eqf_int ⟨_, Go.Proofs.Try.underlying3⟩).trans (by simp [h2]))
  refine fld_T (by decide) rfl rfl ((eqf_int ⟨_, Go.Proofs.Try.underlying3⟩).trans (by simp [h2])) ?_
  by_cases h3 : x.Col = y.Col
  case neg => exact fld_F (by decide) rfl rfl ((eqf_int ⟨_, Go.Proofs.Try.underlying3⟩).trans (by simp [h3]))
  refine fld_T (by decide) rfl rfl ((eqf_int ⟨_, Go.Proofs.Try.underlying3⟩).trans (by simp [h3])) ?_
  exact absurd (by cases x; cases y; simp_all) h
theorem neF_api_Row_33 {x y : api_Row} (h : x = y) : aBin Go.Proofs.Try.prog .neq 33 (.agg #[V x.Kind, V x.From, V x.To, V x.Col]) (.agg #[V y.Kind, V y.From, V y.To, V y.Col]) = some (.bool false) := by
  subst h
  refine ne_agg Go.Proofs.Try.underlying33 (by kernel_rfl) (by kernel_rfl) (w := true) ?_
  refine fld_T (by decide) rfl rfl ((eqf_int ⟨_, Go.Proofs.Try.underlying3⟩).trans (by simp )) ?_
  refine fld_T (by decide) rfl rfl ((eqf_int ⟨_, Go.Proofs.Try.underlying3⟩).trans (by simp )) ?_
  refine fld_T (by decide) rfl rfl ((eqf_int ⟨_, Go.Proofs.Try.underlying3⟩).trans (by simp )) ?_
  refine fld_T (by decide) rfl rfl ((eqf_int ⟨_, Go.Proofs.Try.underlying3⟩).trans (by simp )) ?_
  rfl

def r27_0 : List COp := [u 2 (.box 45 (t 0)), u 4 (.assign (ci 0))]
def r27_1 : List COp := [u 5 (.fieldAddr 45 (t 2) 0), u 6 (.load 3 (t 5))]
def r27_2 : List COp := [u 8 (.binOp .eql 3 (t 6) (ci 8) 3), u 7 (.assign (t 8))]
def r27_3 : List COp := [u 9 (.binOp .eql 3 (t 6) (ci 9) 3), u 7 (.assign (t 9))]
def r27_4 : List COp := [u 10 (.move (t 1)), u 11 (.binOp .add 3 (t 10) (ci 1) 3), u 4 (.assign (t 11))]
def r27_5 : List COp := [u 13 (.binOp .eql 3 (t 6) (ci 10) 3), u 12 (.assign (t 13))]
def r27_6 : List COp := [u 14 (.binOp .eql 3 (t 6) (ci 11) 3), u 12 (.assign (t 14))]
def r27_7 : List COp := [u 15 (.move (t 1)), u 16 (.binOp .sub 3 (t 15) (ci 1) 3), u 17 (cb .max #[(t 16), (ci 0)] #[3, 3]), u 4 (.assign (t 17))]
def r27_8 : List COp := [u 19 (.binOp .eql 3 (t 6) (ci 20) 3), u 18 (.assign (t 19))]
def r27_9 : List COp := [u 20 (.binOp .eql 3 (t 6) (ci 21) 3), u 18 (.assign (t 20))]
def r27_10 : List COp := [u 4 (.assign (ci 0))]
def r27_11 : List COp := [u 21 (.move (t 1)), u 4 (.assign (t 21))]
def rows_brackets (F : Nat) (a0 : api_Token) (a1 : Int) : Option Int :=
  ((if a0.Kind = (8 : Int) then
      some true
    else
      if a0.Kind = (9 : Int) then
        some true
      else
        some false) : Option Bool).bind fun o => match o with
    | x10080 => if x10080 = true then
      some (w64 (a1 + 1))
    else
      ((if a0.Kind = (10 : Int) then
          some true
        else
          if a0.Kind = (11 : Int) then
            some true
          else
            some false) : Option Bool).bind fun o => match o with
        | x10106 => if x10106 = true then
          some (imax (w64 (a1 - 1)) 0)
        else
          ((if a0.Kind = (20 : Int) then
              some true
            else
              if a0.Kind = (21 : Int) then
                some true
              else
                some false) : Option Bool).bind fun o => match o with
            | x10125 => if x10125 = true then
              some 0
            else
              some a1
theorem rows_brackets_ok (F : Nat) {h : AH} {Z : Zn} {a0 : api_Token} {a1 : Int} (hI : Inv Z h) {r : Int} (hm : rows_brackets F a0 a1 = some r) :
    ∃ v h', callI Go.Proofs.Try.prog 27 [.agg #[V a0.Kind, V a0.From, V a0.To], V a1] h = some (v, h') ∧ St h [] Z (0, 0) Z h' [] ∧ v = V r := by
  refine fn_plain (Q := fun v => v = V r) Go.Proofs.Try.func27 rfl rfl hI ?_
  intro hs hS
  unfold rows_brackets at hm
  refine sr r27_0 ?_
  refine r_blk rfl trivial (o_box (cs := [V a0.Kind, V a0.From, V a0.To]) rfl rfl) hS ?_
  intro b10049 h10050 hS10051
  refine xe 1 [(2, Pt b10049 0), (1, V a1)] ?_
  refine sq ?_
  refine sr r27_1 ?_
  refine xq 1 [(5, Pt b10049 0), (1, V a1)] ?_
  refine r_step rfl trivial (o_ldb (v := V a0.Kind) hS10051 (i := 0) rfl rfl (by kernel_rfl)) ?_
  refine xf [(6, V a0.Kind), (1, V a1)] ?_
  refine bk 0 ?_
  refine sq ?_
  obtain ⟨o10076, ho10075, hm⟩ := obind hm
  refine W_join [1, 6, 7] (fun l h => ∃ Z10079 : Zn, ∃ x10080 : Bool, x10080 = o10076 ∧ l = [(1, V a1), (6, V a0.Kind), (7, .bool x10080)] ∧ St hs [] Z (0, 0) Z10079 h []) ?_ ?_
  rintro l h10081 ⟨Z10079, x10080, rfl, rfl, hS10082⟩
  try dsimp only at hm
  rcases ifs hm with ⟨hp10098, hm⟩ | ⟨hp10098, hm⟩
  refine W_condT (x := .tmp 7) (by kernel_rfl) rfl hp10098 ?_
  refine sr r27_4 ?_
  refine xe 3 [(4, V (w64 (a1 + 1)))] ?_
  refine rt ?_
  refine blkX_ret ?_
  refine ⟨rfl, ?_⟩
  obtain rfl := Option.some.inj hm
  refine ⟨_, _, _, ResL.tmp rfl (ResL.nil), hS10082, ?_⟩
  exact rfl
  refine W_condF (x := .tmp 7) (by kernel_rfl) rfl (Bool.eq_false_iff.2 hp10098) ?_
  refine sq ?_
  obtain ⟨o10102, ho10101, hm⟩ := obind hm
  refine W_join [1, 6, 12] (fun l h => ∃ Z10105 : Zn, ∃ x10106 : Bool, x10106 = o10102 ∧ l = [(1, V a1), (6, V a0.Kind), (12, .bool x10106)] ∧ St hs [] Z (0, 0) Z10105 h []) ?_ ?_
  rintro l h10107 ⟨Z10105, x10106, rfl, rfl, hS10108⟩
  try dsimp only at hm
  rcases ifs hm with ⟨hp10117, hm⟩ | ⟨hp10117, hm⟩
  refine W_condT (x := .tmp 12) (by kernel_rfl) rfl hp10117 ?_
  refine sr r27_7 ?_
  refine xe 4 [(4, V (imax (w64 (a1 - 1)) 0))] ?_
  refine rt ?_
  refine blkX_ret ?_
  refine ⟨rfl, ?_⟩
  obtain rfl := Option.some.inj hm
  refine ⟨_, _, _, ResL.tmp rfl (ResL.nil), hS10108, ?_⟩
  exact rfl
  refine W_condF (x := .tmp 12) (by kernel_rfl) rfl (Bool.eq_false_iff.2 hp10117) ?_
  refine sq ?_
  obtain ⟨o10121, ho10120, hm⟩ := obind hm
  refine W_join [1, 18] (fun l h => ∃ Z10124 : Zn, ∃ x10125 : Bool, x10125 = o10121 ∧ l = [(1, V a1), (18, .bool x10125)] ∧ St hs [] Z (0, 0) Z10124 h []) ?_ ?_
  rintro l h10126 ⟨Z10124, x10125, rfl, rfl, hS10127⟩
  try dsimp only at hm
  rcases ifs hm with ⟨hp10129, hm⟩ | ⟨hp10129, hm⟩
  refine W_condT (x := .tmp 18) (by kernel_rfl) rfl hp10129 ?_
  refine sr r27_10 ?_
  refine xe 1 [(4, V 0)] ?_
  refine rt ?_
  refine blkX_ret ?_
  refine ⟨rfl, ?_⟩
  obtain rfl := Option.some.inj hm
  refine ⟨_, _, _, ResL.tmp rfl (ResL.nil), hS10127, ?_⟩
  exact rfl
  refine W_condF (x := .tmp 18) (by kernel_rfl) rfl (Bool.eq_false_iff.2 hp10129) ?_
  refine sk ?_
  refine sr r27_11 ?_
  refine xe 2 [(4, V a1)] ?_
  refine rt ?_
  refine ⟨rfl, ?_⟩
  obtain rfl := Option.some.inj hm
  refine ⟨_, _, _, ResL.tmp rfl (ResL.nil), hS10127, ?_⟩
  exact rfl
  refine sr r27_8 ?_
  rcases ifs ho10120 with ⟨hp10122, ho10120⟩ | ⟨hp10122, ho10120⟩
  refine r_step rfl trivial (o_cmp rfl rfl (c_eql_T hp10122)) ?_
  refine xe 1 [(18, .bool true), (1, V a1), (6, V a0.Kind)] ?_
  refine kT 18 rfl ?_
  obtain rfl := Option.some.inj ho10120
  exact ⟨_, true, rfl, rfl, hS10108⟩
  refine r_step rfl trivial (o_cmp rfl rfl (c_eql_F hp10122)) ?_
  refine xe 1 [(18, .bool false), (1, V a1), (6, V a0.Kind)] ?_
  refine cF 18 rfl ?_
  refine rg r27_9 ?_
  rcases ifs ho10120 with ⟨hp10123, ho10120⟩ | ⟨hp10123, ho10120⟩
  refine r_step rfl trivial (o_cmp rfl rfl (c_eql_T hp10123)) ?_
  refine xe 1 [(18, .bool true), (1, V a1)] ?_
  obtain rfl := Option.some.inj ho10120
  exact ⟨_, true, rfl, rfl, hS10108⟩
  refine r_step rfl trivial (o_cmp rfl rfl (c_eql_F hp10123)) ?_
  refine xe 1 [(18, .bool false), (1, V a1)] ?_
  obtain rfl := Option.some.inj ho10120
  exact ⟨_, false, rfl, rfl, hS10108⟩
  refine sr r27_5 ?_
  rcases ifs ho10101 with ⟨hp10103, ho10101⟩ | ⟨hp10103, ho10101⟩
  refine r_step rfl trivial (o_cmp rfl rfl (c_eql_T hp10103)) ?_
  refine xe 1 [(12, .bool true), (1, V a1), (6, V a0.Kind)] ?_
  refine kT 12 rfl ?_
  obtain rfl := Option.some.inj ho10101
  exact ⟨_, true, rfl, rfl, hS10082⟩
  refine r_step rfl trivial (o_cmp rfl rfl (c_eql_F hp10103)) ?_
  refine xe 1 [(12, .bool false), (1, V a1), (6, V a0.Kind)] ?_
  refine cF 12 rfl ?_
  refine rg r27_6 ?_
  rcases ifs ho10101 with ⟨hp10104, ho10101⟩ | ⟨hp10104, ho10101⟩
  refine r_step rfl trivial (o_cmp rfl rfl (c_eql_T hp10104)) ?_
  refine xe 1 [(12, .bool true), (1, V a1), (6, V a0.Kind)] ?_
  obtain rfl := Option.some.inj ho10101
  exact ⟨_, true, rfl, rfl, hS10082⟩
  refine r_step rfl trivial (o_cmp rfl rfl (c_eql_F hp10104)) ?_
  refine xe 1 [(12, .bool false), (1, V a1), (6, V a0.Kind)] ?_
  obtain rfl := Option.some.inj ho10101
  exact ⟨_, false, rfl, rfl, hS10082⟩
  refine sr r27_2 ?_
  rcases ifs ho10075 with ⟨hp10077, ho10075⟩ | ⟨hp10077, ho10075⟩
  refine r_step rfl trivial (o_cmp rfl rfl (c_eql_T hp10077)) ?_
  refine xe 1 [(7, .bool true), (6, V a0.Kind), (1, V a1)] ?_
  refine kT 7 rfl ?_
  obtain rfl := Option.some.inj ho10075
  exact ⟨_, true, rfl, rfl, (hS10051.takeN 0)⟩
  refine r_step rfl trivial (o_cmp rfl rfl (c_eql_F hp10077)) ?_
  refine xe 1 [(7, .bool false), (6, V a0.Kind), (1, V a1)] ?_
  refine cF 7 rfl ?_
  refine rg r27_3 ?_
  rcases ifs ho10075 with ⟨hp10078, ho10075⟩ | ⟨hp10078, ho10075⟩
  refine r_step rfl trivial (o_cmp rfl rfl (c_eql_T hp10078)) ?_
  refine xe 1 [(7, .bool true), (6, V a0.Kind), (1, V a1)] ?_
  obtain rfl := Option.some.inj ho10075
  exact ⟨_, true, rfl, rfl, (hS10051.takeN 0)⟩
  refine r_step rfl trivial (o_cmp rfl rfl (c_eql_F hp10078)) ?_
  refine xe 1 [(7, .bool false), (6, V a0.Kind), (1, V a1)] ?_
  obtain rfl := Option.some.inj ho10075
  exact ⟨_, false, rfl, rfl, (hS10051.takeN 0)⟩

def r30_0 : List COp := [u 1 (.box 45 (t 0)), u 2 (.assign (.const (.bool false)))]
def r30_1 : List COp := [u 3 (.fieldAddr 45 (t 1) 0), u 4 (.load 3 (t 3))]
def r30_2 : List COp := [u 6 (.binOp .eql 3 (t 4) (ci 1) 3), u 5 (.assign (t 6))]
def r30_3 : List COp := [u 7 (.binOp .eql 3 (t 4) (ci 2) 3), u 5 (.assign (t 7))]
def r30_4 : List COp := [u 8 (.binOp .eql 3 (t 4) (ci 3) 3), u 5 (.assign (t 8))]
def r30_5 : List COp := [u 9 (.binOp .eql 3 (t 4) (ci 4) 3), u 5 (.assign (t 9))]
def r30_6 : List COp := [u 2 (.assign (.const (.bool false)))]
def r30_7 : List COp := [u 2 (.assign (.const (.bool true)))]
def rows_counts (F : Nat) (a0 : api_Token) : Option Bool :=
  ((if a0.Kind = (1 : Int) then
      some true
    else
      if a0.Kind = (2 : Int) then
        some true
      else
        if a0.Kind = (3 : Int) then
          some true
        else
          if a0.Kind = (4 : Int) then
            some true
          else
            some false) : Option Bool).bind fun o => match o with
    | x10246 => if x10246 = true then
      some false
    else
      some true
theorem rows_counts_ok (F : Nat) {h : AH} {Z : Zn} {a0 : api_Token} (hI : Inv Z h) {r : Bool} (hm : rows_counts F a0 = some r) :
    ∃ v h', callI Go.Proofs.Try.prog 30 [.agg #[V a0.Kind, V a0.From, V a0.To]] h = some (v, h') ∧ St h [] Z (0, 0) Z h' [] ∧ v = .bool r := by
  refine fn_plain (Q := fun v => v = .bool r) Go.Proofs.Try.func30 rfl rfl hI ?_
  intro hs hS
  unfold rows_counts at hm
  refine sr r30_0 ?_
  refine r_blk rfl trivial (o_box (cs := [V a0.Kind, V a0.From, V a0.To]) rfl rfl) hS ?_
  intro b10223 h10224 hS10225
  refine xe 1 [(1, Pt b10223 0)] ?_
  refine sq ?_
  refine sr r30_1 ?_
  refine xq 1 [(3, Pt b10223 0)] ?_
  refine r_step rfl trivial (o_ldb (v := V a0.Kind) hS10225 (i := 0) rfl rfl (by kernel_rfl)) ?_
  refine xf [(4, V a0.Kind)] ?_
  refine bk 0 ?_
  refine sq ?_
  obtain ⟨o10240, ho10239, hm⟩ := obind hm
  refine W_join [5] (fun l h => ∃ Z10245 : Zn, ∃ x10246 : Bool, x10246 = o10240 ∧ l = [(5, .bool x10246)] ∧ St hs [] Z (0, 0) Z10245 h []) ?_ ?_
  rintro l h10247 ⟨Z10245, x10246, rfl, rfl, hS10248⟩
  try dsimp only at hm
  rcases ifs hm with ⟨hp10250, hm⟩ | ⟨hp10250, hm⟩
  refine W_condT (x := .tmp 5) (by kernel_rfl) rfl hp10250 ?_
  refine sr r30_6 ?_
  refine xe 1 [(2, .bool false)] ?_
  refine rt ?_
  refine blkX_ret ?_
  refine ⟨rfl, ?_⟩
  obtain rfl := Option.some.inj hm
  refine ⟨_, _, _, ResL.tmp rfl (ResL.nil), hS10248, ?_⟩
  exact rfl
  refine W_condF (x := .tmp 5) (by kernel_rfl) rfl (Bool.eq_false_iff.2 hp10250) ?_
  refine sk ?_
  refine sr r30_7 ?_
  refine xe 1 [(2, .bool true)] ?_
  refine rt ?_
  refine ⟨rfl, ?_⟩
  obtain rfl := Option.some.inj hm
  refine ⟨_, _, _, ResL.tmp rfl (ResL.nil), hS10248, ?_⟩
  exact rfl
  refine sr r30_2 ?_
  rcases ifs ho10239 with ⟨hp10241, ho10239⟩ | ⟨hp10241, ho10239⟩
  refine r_step rfl trivial (o_cmp rfl rfl (c_eql_T hp10241)) ?_
  refine xe 1 [(5, .bool true), (4, V a0.Kind)] ?_
  refine kT 5 rfl ?_
  obtain rfl := Option.some.inj ho10239
  exact ⟨_, true, rfl, rfl, (hS10225.takeN 0)⟩
  refine r_step rfl trivial (o_cmp rfl rfl (c_eql_F hp10241)) ?_
  refine xe 1 [(5, .bool false), (4, V a0.Kind)] ?_
  refine cF 5 rfl ?_
  refine sr r30_3 ?_
  rcases ifs ho10239 with ⟨hp10242, ho10239⟩ | ⟨hp10242, ho10239⟩
  refine r_step rfl trivial (o_cmp rfl rfl (c_eql_T hp10242)) ?_
  refine xe 1 [(5, .bool true), (4, V a0.Kind)] ?_
  refine kT 5 rfl ?_
  obtain rfl := Option.some.inj ho10239
  exact ⟨_, true, rfl, rfl, (hS10225.takeN 0)⟩
  refine r_step rfl trivial (o_cmp rfl rfl (c_eql_F hp10242)) ?_
  refine xe 1 [(5, .bool false), (4, V a0.Kind)] ?_
  refine cF 5 rfl ?_
  refine sr r30_4 ?_
  rcases ifs ho10239 with ⟨hp10243, ho10239⟩ | ⟨hp10243, ho10239⟩
  refine r_step rfl trivial (o_cmp rfl rfl (c_eql_T hp10243)) ?_
  refine xe 1 [(5, .bool true), (4, V a0.Kind)] ?_
  refine kT 5 rfl ?_
  obtain rfl := Option.some.inj ho10239
  exact ⟨_, true, rfl, rfl, (hS10225.takeN 0)⟩
  refine r_step rfl trivial (o_cmp rfl rfl (c_eql_F hp10243)) ?_
  refine xe 1 [(5, .bool false), (4, V a0.Kind)] ?_
  refine cF 5 rfl ?_
  refine rg r30_5 ?_
  rcases ifs ho10239 with ⟨hp10244, ho10239⟩ | ⟨hp10244, ho10239⟩
  refine r_step rfl trivial (o_cmp rfl rfl (c_eql_T hp10244)) ?_
  refine xe 1 [(5, .bool true)] ?_
  obtain rfl := Option.some.inj ho10239
  exact ⟨_, true, rfl, rfl, (hS10225.takeN 0)⟩
  refine r_step rfl trivial (o_cmp rfl rfl (c_eql_F hp10244)) ?_
  refine xe 1 [(5, .bool false)] ?_
  obtain rfl := Option.some.inj ho10239
  exact ⟨_, false, rfl, rfl, (hS10225.takeN 0)⟩

def r31_0 : List COp := [u 3 (.box 33 (t 1)), u 4 (.assign (ci 0))]
def r31_1 : List COp := [u 5 (.move (t 0)), u 6 (.fieldAddr 33 (t 3) 1), u 7 (.load 3 (t 6)), u 8 (.indexAddr 27 (t 5) (t 7)), u 9 (.fieldAddr 45 (t 8) 1), u 10 (.load 3 (t 9)), u 4 (.assign (t 10))]
def rows_begin (F : Nat) (a0 : List api_Token) (a1 : api_Row) : Option Int :=
  if 0 ≤ a1.From ∧ a1.From < (a0.length : Int) then
    (a0[a1.From.toNat]?).bind fun x10298 =>
    some x10298.From
  else none
theorem rows_begin_ok (F : Nat) {h : AH} {Z : Zn} {a0 : List api_Token} {a1 : api_Row} {v10283 : Value} (hI : Inv Z h) (q10282 : RS (α := api_Token) Z v10283 a0) {r : Int} (hm : rows_begin F a0 a1 = some r) :
    ∃ v h', callI Go.Proofs.Try.prog 31 [v10283, .agg #[V a1.Kind, V a1.From, V a1.To, V a1.Col]] h = some (v, h') ∧ St h [] Z (0, 0) Z h' [] ∧ v = V r := by
  refine fn_plain (Q := fun v => v = V r) Go.Proofs.Try.func31 rfl rfl hI ?_
  intro hs hS
  unfold rows_begin at hm
  refine sr r31_0 ?_
  refine r_blk rfl trivial (o_box (cs := [V a1.Kind, V a1.From, V a1.To, V a1.Col]) rfl rfl) hS ?_
  intro b10294 h10295 hS10296
  refine xe 1 [(3, Pt b10294 0), (0, v10283)] ?_
  refine sr r31_1 ?_
  refine xq 2 [(6, Pt b10294 1), (5, v10283)] ?_
  refine r_step rfl trivial (o_ldb (v := V a1.From) hS10296 (i := 0) rfl rfl (by kernel_rfl)) ?_
  obtain ⟨hc10297, hm⟩ := chk hm
  refine r_step rfl trivial (o_index rfl rfl (by kernel_rfl : slTy _ _ = some (csz api_Token)) (RS.based q10282 (by omega)) hc10297.1 hc10297.2) ?_
  refine xq 1 [(9, .pointer (some (elemA v10283 a1.From (csz api_Token) 1)))] ?_
  obtain ⟨x10298, hx10299, hm⟩ := obind hm
  obtain ⟨cs10300, hc10301, he10302⟩ := RS.elz q10282 (i := a1.From) hx10299
  obtain rfl := rc_api_Token hc10301
  refine r_step rfl trivial (o_lde (w := V x10298.From) (he10302 _ (hS10296.zin0 (Zle.refl _))) rfl (by kernel_rfl)) ?_
  refine xe 1 [(4, V x10298.From)] ?_
  refine rt ?_
  refine ⟨rfl, ?_⟩
  obtain rfl := Option.some.inj hm
  refine ⟨_, _, _, ResL.tmp rfl (ResL.nil), hS10296, ?_⟩
  exact rfl

def r26_0 : List COp := [u 4 (.box 33 (t 1)), u 6 (.assign (ci 0)), u 7 (.assign (ci 0))]
def r26_1 : List COp := [u 6 (.assign (ci 1)), u 7 (.assign (ci (-1)))]
def r26_2 : List COp := [u 11 (.move (t 0)), u 12 (.fieldAddr 33 (t 4) 1), u 13 (.load 3 (t 12)), u 14 (.fieldAddr 33 (t 4) 2), u 15 (.load 3 (t 14)), u 16 (.slice 27 (t 11) (some (t 13)) (some (t 15)) none), u 17 (cb .len #[(t 16)] #[27]), u 18 (.move (ci 0))]
def r26_3 : List COp := [u 19 (.binOp .lss 3 (t 18) (t 17) 3)]
def r26_4 : List COp := [u 20 (.indexAddr 27 (t 16) (t 18)), u 21 (.load 45 (t 20)), u 9 (.alloc 45), o (.store 45 (t 9) (t 21))]
def r26_5 : List COp := [u 22 (.load 45 (t 9)), u 23 (cf 30 #[(t 22)] #[45]), u 24 (.unOp .not 4 (t 23))]
def r26_6 : List COpF := [uF 25 (.fieldAddr 45 (t 9) 1) .pure [], uF 26 (.load 3 (t 25)) .look [], uF 27 (.move (t 0)) .pure [], uF 28 (.load 33 (t 4)) .look [], uF 29 (cf 31 #[(t 27), (t 28)] #[27, 33]) .make [3], uF 30 (.binOp .sub 3 (t 26) (t 29) 3) .pure [], uF 7 (.assign (t 30)) .pure []]
def r26_7 : List COp := [u 6 (.assign (ci 5))]
def r26_8 : List COp := [u 31 (.fieldAddr 45 (t 9) 0), u 32 (.load 3 (t 31)), u 33 (.binOp .eql 3 (t 32) (ci 20) 3), u 34 (.move (t 33)), gN 34 (some 35) (.fieldAddr 45 (t 9) 0), gN 34 (some 36) (.load 3 (t 35)), gN 34 (some 37) (.binOp .eql 3 (t 36) (ci 21) 3), u 38 (.pick (t 34) (.const (.bool true)) (t 37))]
def r26_9 : List COp := [u 6 (.assign (ci 4))]
def r26_10 : List COp := [u 39 (.binOp .add 3 (t 18) (ci 1) 3), u 18 (.move (t 39))]
def r26_11 : List COp := [u 40 (.move (t 0)), u 41 (.fieldAddr 33 (t 4) 1), u 42 (.load 3 (t 41)), u 43 (.indexAddr 27 (t 40) (t 42)), u 44 (.fieldAddr 45 (t 43) 0), u 45 (.load 3 (t 44)), u 10 (.assign (t 45))]
def r26_12 : List COp := [u 47 (.move (t 10)), u 48 (.binOp .eql 3 (t 47) (ci 19) 3), u 46 (.assign (t 48))]
def r26_13 : List COp := [u 6 (.assign (ci 2))]
def r26_14 : List COp := [u 50 (.move (t 2)), u 51 (.binOp .gtr 3 (t 50) (ci 0) 3), u 52 (.move (t 51)), gT 52 (some 53) (.move (t 10)), gT 52 (some 54) (.binOp .neq 3 (t 53) (ci 20) 3), u 55 (.pick (t 52) (t 54) (.const (.bool false))), u 56 (.move (t 55)), gT 56 (some 57) (.move (t 10)), gT 56 (some 58) (.binOp .neq 3 (t 57) (ci 21) 3), u 59 (.pick (t 56) (t 58) (.const (.bool false))), u 49 (.assign (t 59))]
def r26_15 : List COp := [u 6 (.assign (ci 3))]
def r26_16 : List COp := [u 60 (.move (t 6)), u 61 (.move (t 7)), u 6 (.assign (t 60)), u 7 (.assign (t 61))]
def rows_kind_l0 (F : Nat) (a0 : List api_Token) (a1 : api_Row) (a2 : Int) : Nat → api_Row → (List api_Token) → Int → Option (api_Row × Int × Int)
  | 0, _, _, _ => none
  | n + 1, x10880, x10881, x10884 =>
    if x10884 < (((a0.take a1.To.toNat).drop a1.From.toNat).length : Int) then
      if 0 ≤ x10884 ∧ x10884 < (x10881.length : Int) then
        (x10881[x10884.toNat]?).bind fun x10891 =>
        (rows_counts F x10891).bind fun r10918 =>
        if r10918 = true then
          (rows_begin F a0 x10880).bind fun r10932 =>
          ((if x10891.Kind = (20 : Int) then
              some (x10880, 4)
            else
              if x10891.Kind = (21 : Int) then
                some (x10880, 4)
              else
                some (x10880, 5)) : Option (api_Row × Int)).bind fun o => match o with
            | (x10951, x10952) => some (x10951, x10952, w64 (x10891.From - r10932))
        else
          rows_kind_l0 F a0 a1 a2 n x10880 x10881 (w64 (x10884 + 1))
      else none
    else
      some (x10880, 1, (-1))
def rows_kind (F : Nat) (a0 : List api_Token) (a1 : api_Row) (a2 : Int) : Option (Int × Int) :=
  if 0 ≤ a1.From ∧ a1.From ≤ a1.To ∧ a1.To ≤ (a0.length : Int) then
    ((rows_kind_l0 F a0 a1 a2 F a1 ((a0.take a1.To.toNat).drop a1.From.toNat) 0) : Option (api_Row × Int × Int)).bind fun o => match o with
      | (x10964, x10965, x10966) => if 0 ≤ x10964.From ∧ x10964.From < (a0.length : Int) then
        (a0[x10964.From.toNat]?).bind fun x10970 =>
        ((if x10970.Kind = (19 : Int) then
            some 2
          else
            if (0 : Int) < a2 then
              if x10970.Kind = (20 : Int) then
                some x10965
              else
                if x10970.Kind = (21 : Int) then
                  some x10965
                else
                  some 3
            else
              some x10965) : Option Int).bind fun o => match o with
          | x10989 => some (x10989, x10966)
      else none
  else none
theorem rows_kind_ok (F : Nat) {h : AH} {Z : Zn} {a0 : List api_Token} {a1 : api_Row} {a2 : Int} {v10171 : Value} (hI : Inv Z h) (q10170 : RS (α := api_Token) Z v10171 a0) {r : Int × Int} (hm : rows_kind F a0 a1 a2 = some r) :
    ∃ v h', callI Go.Proofs.Try.prog 26 [v10171, .agg #[V a1.Kind, V a1.From, V a1.To, V a1.Col], V a2] h = some (v, h') ∧ St h [] Z (0, 0) Z h' [] ∧ v = .tuple #[V r.1, V r.2] := by
  refine fn_plain (Q := fun v => v = .tuple #[V r.1, V r.2]) Go.Proofs.Try.func26 rfl rfl hI ?_
  intro hs hS
  unfold rows_kind at hm
  refine sr r26_0 ?_
  refine r_blk rfl trivial (o_box (cs := [V a1.Kind, V a1.From, V a1.To, V a1.Col]) rfl rfl) hS ?_
  intro b10572 h10573 hS10574
  refine xe 2 [(4, Pt b10572 0), (0, v10171), (2, V a2)] ?_
  refine sr r26_1 ?_
  refine xe 2 [(7, V (-1)), (6, V 1), (4, Pt b10572 0), (0, v10171), (2, V a2)] ?_
  refine sq ?_
  refine sr r26_2 ?_
  refine xq 2 [(12, Pt b10572 1), (11, v10171), (7, V (-1)), (6, V 1), (4, Pt b10572 0), (0, v10171), (2, V a2)] ?_
  refine r_step rfl trivial (o_ldb (v := V a1.From) hS10574 (i := 0) rfl rfl (by kernel_rfl)) ?_
  refine xq 1 [(14, Pt b10572 2), (13, V a1.From), (11, v10171), (7, V (-1)), (6, V 1), (4, Pt b10572 0), (0, v10171), (2, V a2)] ?_
  refine r_step rfl trivial (o_ldb (v := V a1.To) hS10574 (i := 0) rfl rfl (by kernel_rfl)) ?_
  obtain ⟨hc10732, hm⟩ := chk hm
  refine r_exv rfl trivial (o_slice (a := a1.From) (b := a1.To) q10170 rfl (by kernel_rfl : slTy _ _ = some (csz api_Token)) ⟨_, rfl⟩ ⟨_, rfl⟩ hc10732.1 hc10732.2.1 hc10732.2.2) ?_
  intro v10729 q10730
  refine r_step rfl trivial (o_len rfl (RS.len q10730) ⟨_, Go.Proofs.Try.underlying27⟩) ?_
  refine xe 1 [(18, V 0), (17, V (((a0.take a1.To.toNat).drop a1.From.toNat).length : Int)), (16, v10729), (7, V (-1)), (6, V 1), (4, Pt b10572 0), (0, v10171), (2, V a2)] ?_
  obtain ⟨o10877, ho10876, hm⟩ := obind hm
  refine W_join [0, 2, 4, 6, 7] (fun l h => ∃ Z10962 : Zn, ∃ x10964 : api_Row, ∃ x10965 : Int, ∃ x10966 : Int, ∃ b10963 : Nat, (x10964, x10965, x10966) = o10877 ∧ l = [(0, v10171), (2, V a2), (4, Pt b10963 0), (6, V x10965), (7, V x10966)] ∧ St hs [] Z (0, 0) Z10962 h [.blk b10963 (K33 x10964)]) ?_ ?_
  rintro l h10967 ⟨Z10962, x10964, x10965, x10966, b10963, rfl, rfl, hS10968⟩
  try dsimp only at hm
  refine sq ?_
  refine sr r26_11 ?_
  refine xq 2 [(41, Pt b10963 1), (40, v10171), (2, V a2), (6, V x10965), (7, V x10966)] ?_
  refine r_step rfl trivial (o_ldb (v := V x10964.From) hS10968 (i := 0) rfl rfl (by kernel_rfl)) ?_
  obtain ⟨hc10969, hm⟩ := chk hm
  refine r_step rfl trivial (o_index rfl rfl (by kernel_rfl : slTy _ _ = some (csz api_Token)) (RS.based (q10170.mono hS10968.zle) (by omega)) hc10969.1 hc10969.2) ?_
  refine xq 1 [(44, .pointer (some (elemA v10171 x10964.From (csz api_Token) 0))), (2, V a2), (6, V x10965), (7, V x10966)] ?_
  obtain ⟨x10970, hx10971, hm⟩ := obind hm
  obtain ⟨cs10972, hc10973, he10974⟩ := RS.elz (q10170.mono hS10968.zle) (i := x10964.From) hx10971
  obtain rfl := rc_api_Token hc10973
  refine r_step rfl trivial (o_lde (w := V x10970.Kind) (he10974 _ (hS10968.zin0 (Zle.refl _))) rfl (by kernel_rfl)) ?_
  refine xe 1 [(10, V x10970.Kind), (2, V a2), (6, V x10965), (7, V x10966)] ?_
  obtain ⟨o10982, ho10981, hm⟩ := obind hm
  refine W_join [6, 7] (fun l h => ∃ Z10988 : Zn, ∃ x10989 : Int, x10989 = o10982 ∧ l = [(6, V x10989), (7, V x10966)] ∧ St hs [] Z (0, 0) Z10988 h []) ?_ ?_
  rintro l h10990 ⟨Z10988, x10989, rfl, rfl, hS10991⟩
  try dsimp only at hm
  refine sr r26_16 ?_
  refine xe 4 [(7, V x10966), (6, V x10989)] ?_
  refine rt ?_
  refine ⟨rfl, ?_⟩
  obtain rfl := Option.some.inj hm
  refine ⟨_, _, _, ResL.tmp rfl (ResL.tmp rfl (ResL.nil)), hS10991, ?_⟩
  exact rfl
  refine bk 2 ?_
  refine sr r26_12 ?_
  refine xq 1 [(47, V x10970.Kind), (10, V x10970.Kind), (2, V a2), (6, V x10965), (7, V x10966)] ?_
  rcases ifs ho10981 with ⟨hp10984, ho10981⟩ | ⟨hp10984, ho10981⟩
  refine r_step rfl trivial (o_cmp rfl rfl (c_eql_T hp10984)) ?_
  refine xe 1 [(46, .bool true), (10, V x10970.Kind), (2, V a2), (6, V x10965), (7, V x10966)] ?_
  refine cT 46 rfl ?_
  refine rg r26_13 ?_
  refine xe 1 [(6, V 2), (7, V x10966)] ?_
  obtain rfl := Option.some.inj ho10981
  exact ⟨_, 2, rfl, rfl, (hS10968.takeN 0)⟩
  refine r_step rfl trivial (o_cmp rfl rfl (c_eql_F hp10984)) ?_
  refine xe 1 [(46, .bool false), (10, V x10970.Kind), (2, V a2), (6, V x10965), (7, V x10966)] ?_
  refine cF 46 rfl ?_
  refine sr r26_14 ?_
  refine xq 1 [(50, V a2), (10, V x10970.Kind), (6, V x10965), (7, V x10966)] ?_
  rcases ifs ho10981 with ⟨hp10985, ho10981⟩ | ⟨hp10985, ho10981⟩
  refine r_step rfl trivial (o_cmp rfl rfl (c_gtr_T hp10985)) ?_
  refine xq 2 [(53, V x10970.Kind), (52, .bool true), (10, V x10970.Kind), (6, V x10965), (7, V x10966)] ?_
  rcases ifs ho10981 with ⟨hp10986, ho10981⟩ | ⟨hp10986, ho10981⟩
  refine r_step rfl rfl (o_cmp rfl rfl (c_neq_F hp10986)) ?_
  refine xe 6 [(49, .bool false), (6, V x10965), (7, V x10966)] ?_
  refine kF 49 rfl ?_
  obtain rfl := Option.some.inj ho10981
  exact ⟨_, x10965, rfl, rfl, (hS10968.takeN 0)⟩
  refine r_step rfl rfl (o_cmp rfl rfl (c_neq_T hp10986)) ?_
  refine xq 3 [(57, V x10970.Kind), (56, .bool true), (6, V x10965), (7, V x10966)] ?_
  rcases ifs ho10981 with ⟨hp10987, ho10981⟩ | ⟨hp10987, ho10981⟩
  refine r_step rfl rfl (o_cmp rfl rfl (c_neq_F hp10987)) ?_
  refine xe 2 [(49, .bool false), (6, V x10965), (7, V x10966)] ?_
  refine kF 49 rfl ?_
  obtain rfl := Option.some.inj ho10981
  exact ⟨_, x10965, rfl, rfl, (hS10968.takeN 0)⟩
  refine r_step rfl rfl (o_cmp rfl rfl (c_neq_T hp10987)) ?_
  refine xe 2 [(49, .bool true), (6, V x10965), (7, V x10966)] ?_
  refine cT 49 rfl ?_
  refine rg r26_15 ?_
  refine xe 1 [(6, V 3), (7, V x10966)] ?_
  obtain rfl := Option.some.inj ho10981
  exact ⟨_, 3, rfl, rfl, (hS10968.takeN 0)⟩
  refine r_step rfl trivial (o_cmp rfl rfl (c_gtr_F hp10985)) ?_
  refine xe 9 [(49, .bool false), (6, V x10965), (7, V x10966)] ?_
  refine kF 49 rfl ?_
  obtain rfl := Option.some.inj ho10981
  exact ⟨_, x10965, rfl, rfl, (hS10968.takeN 0)⟩
  refine bk 0 ?_
  refine lp [0, 2, 4, 6, 7, 16, 17, 18] (fun n l h => ∃ Z10878 : Zn, ∃ x10880 : api_Row, ∃ x10881 : List api_Token, ∃ x10884 : Int, ∃ b10879 : Nat, ∃ v10883 : Value, rows_kind_l0 F a0 a1 a2 n x10880 x10881 x10884 = some o10877 ∧ RS (α := api_Token) Z10878 v10883 x10881 ∧ l = [(0, v10171), (2, V a2), (4, Pt b10879 0), (6, V 1), (7, V (-1)), (16, v10883), (17, V (((a0.take a1.To.toNat).drop a1.From.toNat).length : Int)), (18, V x10884)] ∧ St hs [] Z (0, 0) Z10878 h [.blk b10879 (K33 x10880)]) F ⟨_, a1, (a0.take a1.To.toNat).drop a1.From.toNat, 0, b10572, v10729, ho10876, q10730, rfl, hS10574⟩ ?_
  rintro n10887 l h10885 ⟨Z10878, x10880, x10881, x10884, b10879, v10883, ho10876, q10882, rfl, hS10886⟩
  rcases n10887 with _ | n10887
  cases (show none = some o10877 from ho10876)
  rw [rows_kind_l0] at ho10876
  refine sr r26_3 ?_
  rcases ifs ho10876 with ⟨hp10889, ho10876⟩ | ⟨hp10889, ho10876⟩
  refine r_step rfl trivial (o_cmp rfl rfl (c_lss_T hp10889)) ?_
  refine xf [(19, .bool true), (0, v10171), (2, V a2), (4, Pt b10879 0), (6, V 1), (7, V (-1)), (16, v10883), (17, V (((a0.take a1.To.toNat).drop a1.From.toNat).length : Int)), (18, V x10884)] ?_
  refine sq ?_
  refine kT 19 rfl ?_
  refine sq ?_
  refine bk 1 ?_
  refine sr r26_4 ?_
  obtain ⟨hc10890, ho10876⟩ := chk ho10876
  refine r_step rfl trivial (o_index rfl rfl (by kernel_rfl : slTy _ _ = some (csz api_Token)) (RS.based q10882 (by omega)) hc10890.1 hc10890.2) ?_
  obtain ⟨x10891, hx10892, ho10876⟩ := obind ho10876
  obtain ⟨cs10893, hc10894, he10895⟩ := RS.elz q10882 (i := x10884) hx10892
  obtain rfl := rc_api_Token hc10894
  refine r_step rfl trivial (o_lde (w := .agg #[V x10891.Kind, V x10891.From, V x10891.To]) (he10895 _ (hS10886.zin0 (Zle.refl _))) rfl (by kernel_rfl)) ?_
  refine r_blk rfl trivial (o_alloc (cs := [V 0, V 0, V 0]) (by kernel_rfl)) hS10886 ?_
  intro b10897 h10898 hS10899
  refine r_ex1 rfl trivial (o_stb (vs := [V x10891.Kind, V x10891.From, V x10891.To]) (cells' := (K45 x10891)) (L' := [.blk b10897 (K45 x10891), .blk b10879 (K33 x10880)]) hS10899 (i := 0) rfl rfl rfl rfl (by kernel_rfl) rfl rfl rfl rfl) ?_
  intro h10900 hS10901
  refine xf [(9, Pt b10897 0), (0, v10171), (2, V a2), (4, Pt b10879 0), (6, V 1), (7, V (-1)), (16, v10883), (17, V (((a0.take a1.To.toNat).drop a1.From.toNat).length : Int)), (18, V x10884)] ?_
  refine sq ?_
  refine sr r26_5 ?_
  refine r_step rfl trivial (o_ldb (v := .agg #[V x10891.Kind, V x10891.From, V x10891.To]) hS10901 (i := 0) rfl rfl (by kernel_rfl)) ?_
  obtain ⟨r10918, hx10919, ho10876⟩ := obind ho10876
  obtain ⟨v10920, h10921, hcl10922, hSc10923, rfl⟩ := rows_counts_ok F hS10901.inv  hx10919
  have hS10924 := St.call (A := []) (B := [.blk b10897 (K45 x10891), .blk b10879 (K33 x10880)]) hS10901 hSc10923
  replace hS10924 : St _ _ _ _ _ _ [.blk b10897 (K45 x10891), .blk b10879 (K33 x10880)] := hS10924
  refine r_step rfl trivial (o_call hcl10922 rfl rfl rfl) ?_
  rcases ifs ho10876 with ⟨hp10925, ho10876⟩ | ⟨hp10925, ho10876⟩
  refine r_setb (t := 23) rfl hp10925 ?_
  refine xe 1 [(24, .bool false), (9, Pt b10897 0), (0, v10171), (2, V a2), (4, Pt b10879 0), (6, V 1), (7, V (-1)), (16, v10883), (17, V (((a0.take a1.To.toNat).drop a1.From.toNat).length : Int)), (18, V x10884)] ?_
  refine kF 24 rfl ?_
  refine srF r26_6 hS10924 ?_
  intro bs10926 h10927 hlv10929 hS10928
  refine yq 1 [(25, Pt b10897 1), (9, Pt b10897 0), (0, v10171), (2, V a2), (4, Pt b10879 0), (7, V (-1))] ?_
  have lt10930 : b10897 < bs10926 := hlv10929.1 _ (List.mem_of_getElem? (i := 0) rfl) _ (by simp [Itm.ids])
  refine e_lookB rfl trivial rfl (by show b10897 < _; omega) (same1 (v := V x10891.From) trivial) (o_ldb (v := V x10891.From) hS10928 (i := 0) rfl rfl (by kernel_rfl)) trivial ?_
  refine yq 1 [(27, v10171), (26, V x10891.From), (9, Pt b10897 0), (0, v10171), (2, V a2), (4, Pt b10879 0), (7, V (-1))] ?_
  have lt10931 : b10879 < bs10926 := hlv10929.1 _ (List.mem_of_getElem? (i := 1) rfl) _ (by simp [Itm.ids])
  refine e_lookB rfl trivial rfl (by show b10879 < _; omega) (same_agg (cs := [V x10880.Kind, V x10880.From, V x10880.To, V x10880.Col]) (.cons trivial (.cons trivial (.cons trivial (.cons trivial .nil))))) (o_ldb (v := .agg #[V x10880.Kind, V x10880.From, V x10880.To, V x10880.Col]) hS10928 (i := 1) rfl rfl (by kernel_rfl)) trivial ?_
  obtain ⟨r10932, hx10933, ho10876⟩ := obind ho10876
  have hSl10939 := hS10928.lown
  obtain ⟨v10934, h10935, hcl10936, hSc10937, rfl⟩ := rows_begin_ok F hSl10939.inv (q10170.mono hS10886.zle) hx10933
  have hS10938 := St.call (A := []) (B := [.blk b10897 (K45 x10891), .blk b10879 (K33 x10880)]) hSl10939 hSc10937
  replace hS10938 : St _ _ _ _ _ _ [.blk b10897 (K45 x10891), .blk b10879 (K33 x10880)] := hS10938
  refine e_still rfl trivial hS10928 (o_call hcl10936 rfl rfl rfl) hS10938 (St.lowk hSc10937) ?_
  intro h10940 hS10941
  refine ye 2 [(7, V (w64 (x10891.From - r10932))), (9, Pt b10897 0), (0, v10171), (2, V a2), (4, Pt b10879 0)] ?_
  have hS10942 := hS10941.unres
  refine sr r26_7 ?_
  refine xe 1 [(6, V 5), (7, V (w64 (x10891.From - r10932))), (9, Pt b10897 0), (0, v10171), (2, V a2), (4, Pt b10879 0)] ?_
  refine sq ?_
  obtain ⟨o10946, ho10945, ho10876⟩ := obind ho10876
  refine W_seqJoin0 [0, 2, 4, 6, 7] (fun l h => ∃ Z10949 : Zn, ∃ x10951 : api_Row, ∃ x10952 : Int, ∃ b10950 : Nat, (x10951, x10952) = o10946 ∧ l = [(0, v10171), (2, V a2), (4, Pt b10950 0), (6, V x10952), (7, V (w64 (x10891.From - r10932)))] ∧ St hs [] Z (0, 0) Z10949 h [.blk b10950 (K33 x10951)]) (by kernel_rfl) ?_ ?_
  rintro l h10953 ⟨Z10949, x10951, x10952, b10950, rfl, rfl, hS10954⟩
  try dsimp only at ho10876
  refine xt 0 ?_
  refine blkX_miss rfl ?_
  refine blkX_hit ?_
  obtain rfl := Option.some.inj ho10876
  exact ⟨_, x10951, x10952, w64 (x10891.From - r10932), b10950, rfl, rfl, hS10954⟩
  refine rg r26_8 ?_
  refine xq 1 [(31, Pt b10897 0), (6, V 5), (7, V (w64 (x10891.From - r10932))), (9, Pt b10897 0), (0, v10171), (2, V a2), (4, Pt b10879 0)] ?_
  refine r_step rfl trivial (o_ldb (v := V x10891.Kind) hS10942 (i := 0) rfl rfl (by kernel_rfl)) ?_
  rcases ifs ho10945 with ⟨hp10947, ho10945⟩ | ⟨hp10947, ho10945⟩
  refine r_step rfl trivial (o_cmp rfl rfl (c_eql_T hp10947)) ?_
  refine xe 5 [(38, .bool true), (6, V 5), (7, V (w64 (x10891.From - r10932))), (0, v10171), (2, V a2), (4, Pt b10879 0)] ?_
  refine cT 38 rfl ?_
  refine rg r26_9 ?_
  refine xe 1 [(6, V 4), (7, V (w64 (x10891.From - r10932))), (0, v10171), (2, V a2), (4, Pt b10879 0)] ?_
  obtain rfl := Option.some.inj ho10945
  exact ⟨_, x10880, 4, b10879, rfl, rfl, ((hS10942.front 1 rfl).takeN 1)⟩
  refine r_step rfl trivial (o_cmp rfl rfl (c_eql_F hp10947)) ?_
  refine xq 2 [(35, Pt b10897 0), (34, .bool false), (6, V 5), (7, V (w64 (x10891.From - r10932))), (0, v10171), (2, V a2), (4, Pt b10879 0)] ?_
  refine r_step rfl rfl (o_ldb (v := V x10891.Kind) hS10942 (i := 0) rfl rfl (by kernel_rfl)) ?_
  rcases ifs ho10945 with ⟨hp10948, ho10945⟩ | ⟨hp10948, ho10945⟩
  refine r_step rfl rfl (o_cmp rfl rfl (c_eql_T hp10948)) ?_
  refine xe 1 [(38, .bool true), (6, V 5), (7, V (w64 (x10891.From - r10932))), (0, v10171), (2, V a2), (4, Pt b10879 0)] ?_
  refine cT 38 rfl ?_
  refine rg r26_9 ?_
  refine xe 1 [(6, V 4), (7, V (w64 (x10891.From - r10932))), (0, v10171), (2, V a2), (4, Pt b10879 0)] ?_
  obtain rfl := Option.some.inj ho10945
  exact ⟨_, x10880, 4, b10879, rfl, rfl, ((hS10942.front 1 rfl).takeN 1)⟩
  refine r_step rfl rfl (o_cmp rfl rfl (c_eql_F hp10948)) ?_
  refine xe 1 [(38, .bool false), (6, V 5), (7, V (w64 (x10891.From - r10932))), (0, v10171), (2, V a2), (4, Pt b10879 0)] ?_
  refine kF 38 rfl ?_
  obtain rfl := Option.some.inj ho10945
  exact ⟨_, x10880, 5, b10879, rfl, rfl, ((hS10942.front 1 rfl).takeN 1)⟩
  refine r_setb (t := 23) rfl (Bool.eq_false_iff.2 hp10925) ?_
  refine xe 1 [(24, .bool true), (9, Pt b10897 0), (0, v10171), (2, V a2), (4, Pt b10879 0), (6, V 1), (7, V (-1)), (16, v10883), (17, V (((a0.take a1.To.toNat).drop a1.From.toNat).length : Int)), (18, V x10884)] ?_
  refine cT 24 rfl ?_
  refine xt 1 ?_
  refine blkX_hit ?_
  refine rg r26_10 ?_
  refine xe 2 [(18, V (w64 (x10884 + 1))), (0, v10171), (2, V a2), (4, Pt b10879 0), (6, V 1), (7, V (-1)), (16, v10883), (17, V (((a0.take a1.To.toNat).drop a1.From.toNat).length : Int))] ?_
  exact ⟨n10887, Nat.lt_succ_self _, ⟨_, x10880, x10881, w64 (x10884 + 1), b10879, v10883, ho10876, q10882, rfl, ((hS10924.front 1 rfl).takeN 1)⟩⟩
  refine r_step rfl trivial (o_cmp rfl rfl (c_lss_F hp10889)) ?_
  refine xf [(19, .bool false), (0, v10171), (2, V a2), (4, Pt b10879 0), (6, V 1), (7, V (-1)), (16, v10883), (17, V (((a0.take a1.To.toNat).drop a1.From.toNat).length : Int)), (18, V x10884)] ?_
  refine sq ?_
  refine cF 19 rfl ?_
  refine xt 0 ?_
  refine blkX_hit ?_
  obtain rfl := Option.some.inj ho10876
  exact ⟨_, x10880, 1, (-1), b10879, rfl, rfl, hS10886⟩

def r25_0 : List COp := [u 8 (.load 3 (t 1)), u 9 (.move (t 0)), u 10 (.build 33 #[(1, (t 8)), (2, (t 9))]), u 7 (.alloc 33), o (.store 33 (t 7) (t 10))]
def r25_1 : List COp := [u 12 (.load 27 (t 2)), u 13 (.load 33 (t 7)), u 14 (.load 3 (t 3)), u 15 (cf 26 #[(t 12), (t 13), (t 14)] #[27, 33, 3]), u 11 (.move (t 15)), u 16 (.extract (t 11) 0), u 17 (.extract (t 11) 1), u 18 (.fieldAddr 33 (t 7) 0), o (.store 3 (t 18) (t 16)), u 19 (.fieldAddr 33 (t 7) 3), o (.store 3 (t 19) (t 17))]
def r25_2 : List COp := [u 20 (.load 29 (t 4)), u 21 (.load 33 (t 7)), u 22 (.buildSlice 29 1 #[(0, (t 21))]), u 23 (cb .append #[(t 20), (t 22)] #[29, 29]), o (.store 29 (t 4) (t 23))]
def r25_3 : List COpF := [uF 24 (.move (t 0)) .pure [], uF 25 (.load 3 (t 5)) .look [], oF (.store 3 (t 1) (t 24)) .make [], oF (.store 3 (t 3) (t 25)) .make [1]]
def rows_Rows_1 (F : Nat) (a0 : Int) (a1 : Int) (a2 : List api_Token) (a3 : Int) (a4 : List api_Row) (a5 : Int) : Option (Int × Int × (List api_Row)) :=
  (rows_kind F a2 (⟨0, a1, a0, 0⟩ : api_Row) a3).bind fun r11042 =>
  if a4.length + [(⟨r11042.1, a1, a0, r11042.2⟩ : api_Row)].length ≤ 4398046511104 then
    some (a0, a5, a4 ++ [(⟨r11042.1, a1, a0, r11042.2⟩ : api_Row)])
  else none
theorem rows_Rows_1_ok (F : Nat) {h : AH} {Z : Zn} {a0 : Int} {a1 : Int} {a2 : List api_Token} {a3 : Int} {a4 : List api_Row} {a5 : Int} {b10155 : Nat} {b10156 : Nat} {v10158 : Value} {b10159 : Nat} {b10160 : Nat} {v10162 : Value} {c10163 : List Value} {b10164 : Nat} (hP : Pre Z h [.blk b10155 [V a1], .blk b10156 [v10158], .blk b10159 [V a3], .blk b10160 [v10162], .gs v10162 c10163 (csz api_Row), .blk b10164 [V a5]]) (q10157 : RS (α := api_Token) Z v10158 a2) (q10161 : RCs (α := api_Row) Z c10163 a4) {r : Int × Int × (List api_Row)} (hm : rows_Rows_1 F a0 a1 a2 a3 a4 a5 = some r) :
    ∃ v h' Z' A', callI Go.Proofs.Try.prog 25 [V a0, Pt b10155 0, Pt b10156 0, Pt b10159 0, Pt b10160 0, Pt b10164 0] h = some (v, h') ∧ St h (idsL [.blk b10155 [V a1], .blk b10156 [v10158], .blk b10159 [V a3], .blk b10160 [v10162], .gs v10162 c10163 (csz api_Row), .blk b10164 [V a5]]) Z (0, 0) Z' h' A' ∧ ∃ v11035 : Value, ∃ c11036 : List Value, .tuple #[] = v ∧ A' = [.blk b10155 [V r.1], .blk b10156 [v10158], .blk b10159 [V r.2.1], .blk b10160 [v11035], .gs v11035 c11036 (csz api_Row), .blk b10164 [V a5]] ∧ RCs (α := api_Row) Z' c11036 r.2.2 := by
  refine fn_intro (A := [.blk b10155 [V a1], .blk b10156 [v10158], .blk b10159 [V a3], .blk b10160 [v10162], .gs v10162 c10163 (csz api_Row), .blk b10164 [V a5]]) (Q := fun v Z' A' => ∃ v11035 : Value, ∃ c11036 : List Value, .tuple #[] = v ∧ A' = [.blk b10155 [V r.1], .blk b10156 [v10158], .blk b10159 [V r.2.1], .blk b10160 [v11035], .gs v11035 c11036 (csz api_Row), .blk b10164 [V a5]] ∧ RCs (α := api_Row) Z' c11036 r.2.2) Go.Proofs.Try.func25 rfl rfl (by kernel_rfl) hP ?_
  intro hs hS
  unfold rows_Rows_1 at hm
  refine sr r25_0 ?_
  refine r_step rfl trivial (o_ldb (v := V a1) hS (i := 0) rfl rfl (by kernel_rfl)) ?_
  refine xq 2 [(10, .agg #[V 0, V a1, V a0, V 0]), (0, V a0), (1, Pt b10155 0), (2, Pt b10156 0), (3, Pt b10159 0), (4, Pt b10160 0), (5, Pt b10164 0)] ?_
  refine r_blk rfl trivial (o_alloc (cs := [V 0, V 0, V 0, V 0]) (by kernel_rfl)) hS ?_
  intro b11037 h11038 hS11039
  refine r_ex1 rfl trivial (o_stb (vs := [V 0, V a1, V a0, V 0]) (cells' := [V 0, V a1, V a0, V 0]) (L' := [.blk b11037 [V 0, V a1, V a0, V 0], .blk b10155 [V a1], .blk b10156 [v10158], .blk b10159 [V a3], .blk b10160 [v10162], .gs v10162 c10163 (csz api_Row), .blk b10164 [V a5]]) hS11039 (i := 0) rfl rfl rfl rfl (by kernel_rfl) rfl rfl rfl rfl) ?_
  intro h11040 hS11041
  refine xf [(7, Pt b11037 0), (0, V a0), (1, Pt b10155 0), (2, Pt b10156 0), (3, Pt b10159 0), (4, Pt b10160 0), (5, Pt b10164 0)] ?_
  refine sr r25_1 ?_
  refine r_step rfl trivial (o_ldb (v := v10158) hS11041 (i := 2) rfl rfl (by kernel_rfl)) ?_
  refine r_step rfl trivial (o_ldb (v := .agg #[V 0, V a1, V a0, V 0]) hS11041 (i := 0) rfl rfl (by kernel_rfl)) ?_
  refine r_step rfl trivial (o_ldb (v := V a3) hS11041 (i := 3) rfl rfl (by kernel_rfl)) ?_
  obtain ⟨r11042, hx11043, hm⟩ := obind hm
  obtain ⟨v11044, h11045, hcl11046, hSc11047, rfl⟩ := rows_kind_ok F hS11041.inv q10157 hx11043
  have hS11048 := St.call (A := []) (B := [.blk b11037 [V 0, V a1, V a0, V 0], .blk b10155 [V a1], .blk b10156 [v10158], .blk b10159 [V a3], .blk b10160 [v10162], .gs v10162 c10163 (csz api_Row), .blk b10164 [V a5]]) hS11041 hSc11047
  replace hS11048 : St _ _ _ _ _ _ [.blk b11037 [V 0, V a1, V a0, V 0], .blk b10155 [V a1], .blk b10156 [v10158], .blk b10159 [V a3], .blk b10160 [v10162], .gs v10162 c10163 (csz api_Row), .blk b10164 [V a5]] := hS11048
  refine r_step rfl trivial (o_call hcl11046 rfl rfl rfl) ?_
  refine xq 4 [(18, Pt b11037 0), (17, V r11042.2), (16, V r11042.1), (7, Pt b11037 0), (0, V a0), (1, Pt b10155 0), (3, Pt b10159 0), (4, Pt b10160 0), (5, Pt b10164 0)] ?_
  refine r_ex1 rfl trivial (o_stb (vs := [V r11042.1]) (cells' := [V r11042.1, V a1, V a0, V 0]) (L' := [.blk b11037 [V r11042.1, V a1, V a0, V 0], .blk b10155 [V a1], .blk b10156 [v10158], .blk b10159 [V a3], .blk b10160 [v10162], .gs v10162 c10163 (csz api_Row), .blk b10164 [V a5]]) hS11048 (i := 0) rfl rfl rfl rfl (by kernel_rfl) rfl rfl rfl rfl) ?_
  intro h11049 hS11050
  refine xq 1 [(19, Pt b11037 3), (17, V r11042.2), (7, Pt b11037 0), (0, V a0), (1, Pt b10155 0), (3, Pt b10159 0), (4, Pt b10160 0), (5, Pt b10164 0)] ?_
  refine r_ex1 rfl trivial (o_stb (vs := [V r11042.2]) (cells' := [V r11042.1, V a1, V a0, V r11042.2]) (L' := [.blk b11037 [V r11042.1, V a1, V a0, V r11042.2], .blk b10155 [V a1], .blk b10156 [v10158], .blk b10159 [V a3], .blk b10160 [v10162], .gs v10162 c10163 (csz api_Row), .blk b10164 [V a5]]) hS11050 (i := 0) rfl rfl rfl rfl (by kernel_rfl) rfl rfl rfl rfl) ?_
  intro h11051 hS11052
  refine xf [(7, Pt b11037 0), (0, V a0), (1, Pt b10155 0), (3, Pt b10159 0), (4, Pt b10160 0), (5, Pt b10164 0)] ?_
  refine sr r25_2 ?_
  refine r_step rfl trivial (o_ldb (v := v10162) hS11052 (i := 4) rfl rfl (by kernel_rfl)) ?_
  refine r_step rfl trivial (o_ldb (v := .agg #[V r11042.1, V a1, V a0, V r11042.2]) hS11052 (i := 0) rfl rfl (by kernel_rfl)) ?_
  have q11056 : RCs (α := api_Row) Z [V r11042.1, V a1, V a0, V r11042.2] [(⟨r11042.1, a1, a0, r11042.2⟩ : api_Row)] := RCs.cons (cs := [V r11042.1, V a1, V a0, V r11042.2]) rfl (RCs.nil0 _)
  refine r_row rfl trivial (o_bs (cells := [V r11042.1, V a1, V a0, V r11042.2]) (s := 4) (by kernel_rfl)) (by kernel_rfl) hS11052 ?_
  intro v11053 h11054 hS11055
  replace hS11055 : St _ _ _ _ _ _ [.gs v11053 [V r11042.1, V a1, V a0, V r11042.2] (csz api_Row), .blk b11037 [V r11042.1, V a1, V a0, V r11042.2], .blk b10155 [V a1], .blk b10156 [v10158], .blk b10159 [V a3], .blk b10160 [v10162], .gs v10162 c10163 (csz api_Row), .blk b10164 [V a5]] := hS11055
  obtain ⟨hc11064, hm⟩ := chk hm
  refine r_ex3 rfl trivial (o_app (ys := [(⟨r11042.1, a1, a0, r11042.2⟩ : api_Row)]) (by_ := 32) hS11055 (i := 6) rfl q10161 ((hS11055).gnews (j := 0) rfl q11056) rfl rfl (by kernel_rfl) (by omega) (by omega)) ?_
  rintro v11059 c11060 h11061 ⟨q11063, hS11062⟩
  replace hS11062 : St _ _ _ _ _ _ [.gs v11053 [V r11042.1, V a1, V a0, V r11042.2] (csz api_Row), .blk b11037 [V r11042.1, V a1, V a0, V r11042.2], .blk b10155 [V a1], .blk b10156 [v10158], .blk b10159 [V a3], .blk b10160 [v10162], .gs v11059 c11060 (csz api_Row), .blk b10164 [V a5]] := hS11062
  refine r_ex1 rfl trivial (o_stb (vs := [v11059]) (cells' := [v11059]) (L' := [.gs v11053 [V r11042.1, V a1, V a0, V r11042.2] (csz api_Row), .blk b11037 [V r11042.1, V a1, V a0, V r11042.2], .blk b10155 [V a1], .blk b10156 [v10158], .blk b10159 [V a3], .blk b10160 [v11059], .gs v11059 c11060 (csz api_Row), .blk b10164 [V a5]]) hS11062 (i := 5) rfl rfl rfl (hS11062.gcell1 (i := 6) rfl) (by kernel_rfl) (one_cons (hS11062.gone1 (i := 6) rfl) one_nil) rfl rfl rfl) ?_
  intro h11065 hS11066
  refine xf [(0, V a0), (1, Pt b10155 0), (3, Pt b10159 0), (5, Pt b10164 0)] ?_
  refine rgF r25_3 hS11066 ?_
  intro bs11067 h11068 hlv11070 hS11069
  refine yq 1 [(24, V a0), (1, Pt b10155 0), (3, Pt b10159 0), (5, Pt b10164 0)] ?_
  have lt11071 : b10164 < bs11067 := hlv11070.1 _ (List.mem_of_getElem? (i := 7) rfl) _ (by simp [Itm.ids])
  refine e_lookB rfl trivial rfl (by show b10164 < _; omega) (same1 (v := V a5) trivial) (o_ldb (v := V a5) hS11069 (i := 7) rfl rfl (by kernel_rfl)) trivial ?_
  have hF11074 : St _ _ _ _ _ _ ([.blk b10155 [V a1]] ++ [.gs v11053 [V r11042.1, V a1, V a0, V r11042.2] (csz api_Row), .blk b11037 [V r11042.1, V a1, V a0, V r11042.2], .blk b10156 [v10158], .blk b10159 [V a3], .blk b10160 [v11059], .gs v11059 c11060 (csz api_Row), .blk b10164 [V a5]]) := (hS11069.front 2 rfl)
  refine e_mk1 rfl trivial hF11074 (o_stb (vs := [V a0]) (cells' := [V a0]) (L' := [.blk b10155 [V a0]]) hF11074.sub (i := 0) rfl rfl rfl rfl (by kernel_rfl) rfl rfl rfl rfl) (Zle.refl _) (.keep (hF11074.neB 6 rfl blk_mem) .nil) ?_
  intro h11072 hS11073
  have hF11077 : St _ _ _ _ _ _ ([.blk b10159 [V a3]] ++ [.blk b10155 [V a0], .gs v11053 [V r11042.1, V a1, V a0, V r11042.2] (csz api_Row), .blk b11037 [V r11042.1, V a1, V a0, V r11042.2], .blk b10156 [v10158], .blk b10160 [v11059], .gs v11059 c11060 (csz api_Row), .blk b10164 [V a5]]) := (hS11073.front 4 rfl)
  refine e_mk1 rfl trivial hF11077 (o_stb (vs := [V a5]) (cells' := [V a5]) (L' := [.blk b10159 [V a5]]) hF11077.sub (i := 0) rfl rfl rfl rfl (by kernel_rfl) rfl rfl rfl rfl) (Zle.refl _) (.keep (hF11077.neB 6 rfl blk_mem) .nil) ?_
  intro h11075 hS11076
  refine yf [] ?_
  have hS11078 := hS11076.unres
  obtain rfl := Option.some.inj hm
  refine ⟨_, _, _, ResL.nil, (((((((hS11078.front 7 rfl).front 7 rfl).front 7 rfl).front 3 rfl).front 7 rfl).front 5 rfl).takeN 6), ?_⟩
  exact ⟨v11059, c11060, rfl, rfl, q11063⟩

def r28_0 : List COp := [u 2 (.assign (.const (.slice none 0 0)))]
def r28_1 : List COp := [u 3 (.move (t 0)), u 4 (.binOp .eql 29 (t 3) (.const (.slice none 0 0)) 29)]
def r28_2 : List COp := [u 2 (.assign (.const (.slice none 0 0)))]
def r28_3 : List COp := [u 5 (.buildSlice 29 0 #[]), u 6 (.move (t 0)), u 7 (cb .append #[(t 5), (t 6)] #[29, 29]), u 2 (.assign (t 7))]
def slices_Clone_api_Row (F : Nat) (a0 : List api_Row) : Option (List api_Row) :=
  if ([] : List api_Row).length + a0.length ≤ 4398046511104 then
    some (([] : List api_Row) ++ a0)
  else none
theorem slices_Clone_api_Row_ok (F : Nat) {h : AH} {Z : Zn} {a0 : List api_Row} {v11433 : Value} (hP : Pre Z h []) (q11432 : RS (α := api_Row) Z v11433 a0) {r : (List api_Row)} (hm : slices_Clone_api_Row F a0 = some r) :
    ∃ v h' Z' A', callI Go.Proofs.Try.prog 28 [v11433] h = some (v, h') ∧ St h (idsL []) Z (0, 0) Z' h' A' ∧ ∃ v11452 : Value, ∃ c11453 : List Value, v11452 = v ∧ A' = [.gs v11452 c11453 (csz api_Row)] ∧ RCs (α := api_Row) Z' c11453 r := by
  refine fn_intro (A := []) (Q := fun v Z' A' => ∃ v11452 : Value, ∃ c11453 : List Value, v11452 = v ∧ A' = [.gs v11452 c11453 (csz api_Row)] ∧ RCs (α := api_Row) Z' c11453 r) Go.Proofs.Try.func28 rfl rfl (by kernel_rfl) hP ?_
  intro hs hS
  unfold slices_Clone_api_Row at hm
  replace hS : St hs [] Z (0, 0) Z hs [] := hS
  refine sr r28_0 ?_
  refine xe 1 [(0, v11433)] ?_
  refine sq ?_
  refine sr r28_1 ?_
  refine xq 1 [(3, v11433), (0, v11433)] ?_
  rcases nil_or q11432 with ⟨hn11456, hv11457⟩ | hv11457
  replace hm : some [] = some r := by rw [hn11456] at hm; simpa using hm
  refine r_step rfl trivial (o_cmp rfl rfl (c_nilT ⟨_, Go.Proofs.Try.underlying29⟩ hv11457)) ?_
  refine xf [(4, .bool true), (0, v11433)] ?_
  refine cT 4 rfl ?_
  refine sr r28_2 ?_
  refine xe 1 [(2, .slice none 0 0)] ?_
  refine rt ?_
  refine ⟨rfl, ?_⟩
  have hS11458 := hS.nilGs (csz api_Row)
  obtain rfl := Option.some.inj hm
  refine ⟨_, _, _, ResL.tmp rfl (ResL.nil), hS11458, ?_⟩
  exact ⟨(.slice none 0 0), [], rfl, rfl, (RCs.nil0 _)⟩
  refine r_step rfl trivial (o_cmp rfl rfl (c_nilF ⟨_, Go.Proofs.Try.underlying29⟩ hv11457)) ?_
  refine xf [(4, .bool false), (0, v11433)] ?_
  refine kF 4 rfl ?_
  refine sr r28_3 ?_
  have q11463 : RCs (α := api_Row) Z [] [] := RCs.nil0 _
  refine r_row rfl trivial (o_bs (cells := []) (s := 4) (by kernel_rfl)) (by kernel_rfl) hS ?_
  intro v11460 h11461 hS11462
  replace hS11462 : St _ _ _ _ _ _ [.gs v11460 [] (csz api_Row)] := hS11462
  refine xq 1 [(6, v11433), (5, v11460)] ?_
  obtain ⟨c11466, nw11465⟩ := RS.news q11432 (hS11462).inv
  obtain ⟨hc11472, hm⟩ := chk hm
  refine r_ex3 rfl trivial (o_app (ys := a0) (by_ := 32) hS11462 (i := 0) rfl q11463 nw11465 rfl rfl (by kernel_rfl) (by omega) (by omega)) ?_
  rintro v11467 c11468 h11469 ⟨q11471, hS11470⟩
  replace hS11470 : St _ _ _ _ _ _ [.gs v11467 c11468 (csz api_Row)] := hS11470
  refine xe 1 [(2, v11467)] ?_
  refine rt ?_
  refine ⟨rfl, ?_⟩
  obtain rfl := Option.some.inj hm
  refine ⟨_, _, _, ResL.tmp rfl (ResL.nil), hS11470, ?_⟩
  exact ⟨v11467, c11468, rfl, rfl, q11471⟩

def r12_0 : List COp := [u 3 (.box 27 (t 1)), u 4 (.assign (.const (.slice none 0 0)))]
def r12_1 : List COp := [u 5 (.alloc 29)]
def r12_2 : List COp := [u 6 (.alloc 3), u 7 (.alloc 3), u 8 (.alloc 3), o (.store 3 (t 6) (ci 0)), o (.store 3 (t 7) (ci 0)), o (.store 3 (t 8) (ci 0))]
def r12_3 : List COp := [u 11 (.makeFunc (.func 25) #[] #[(t 6), (t 3), (t 7), (t 5), (t 8)]), u 9 (.assign (t 11))]
def r12_4 : List COp := [u 10 (.assign (ci 0))]
def r12_5 : List COp := [u 12 (.move (t 10)), u 13 (.load 27 (t 3)), u 14 (cb .len #[(t 13)] #[27]), u 15 (.binOp .lss 3 (t 12) (t 14) 3)]
def r12_6 : List COpF := [uF 16 (.load 27 (t 3)) .look [], uF 17 (.move (t 10)) .pure [], uF 18 (.indexAddr 27 (t 16) (t 17)) .pure [], uF 19 (.load 45 (t 18)) .look [], uF 20 (.load 3 (t 8)) .look [], uF 21 (cf 27 #[(t 19), (t 20)] #[45, 3]) .make [0, 3, 4], oF (.store 3 (t 8) (t 21)) .make [0, 3, 4]]
def r12_7 : List COp := [u 22 (.load 27 (t 3)), u 23 (.move (t 10)), u 24 (.indexAddr 27 (t 22) (t 23)), u 25 (.fieldAddr 45 (t 24) 0), u 26 (.load 3 (t 25)), u 27 (.binOp .eql 3 (t 26) (ci 1) 3), u 28 (.move (t 27)), gN 28 (some 29) (.load 27 (t 3)), gN 28 (some 30) (.move (t 10)), gN 28 (some 31) (.indexAddr 27 (t 29) (t 30)), gN 28 (some 32) (.fieldAddr 45 (t 31) 0), gN 28 (some 33) (.load 3 (t 32)), gN 28 (some 34) (.binOp .eql 3 (t 33) (ci 19) 3), u 35 (.pick (t 28) (.const (.bool true)) (t 34))]
def r12_8 : List COp := [u 36 (.move (t 9)), u 37 (.move (t 10)), u 38 (.binOp .add 3 (t 37) (ci 1) 3), u 39 (.call { callee := (.value (t 36)), args := #[(t 38)], argTypes := #[3] })]
def r12_9 : List COp := [u 40 (.move (t 10)), u 41 (.binOp .add 3 (t 40) (ci 1) 3), u 10 (.assign (t 41))]
def r12_10 : List COp := [u 42 (.load 3 (t 6)), u 43 (.load 27 (t 3)), u 44 (cb .len #[(t 43)] #[27]), u 45 (.binOp .lss 3 (t 42) (t 44) 3)]
def r12_11 : List COp := [u 46 (.move (t 9)), u 47 (.load 27 (t 3)), u 48 (cb .len #[(t 47)] #[27]), u 49 (.call { callee := (.value (t 46)), args := #[(t 48)], argTypes := #[3] })]
def r12_12 : List COp := [u 50 (.load 29 (t 5)), u 51 (cf 28 #[(t 50)] #[29]), u 4 (.assign (t 51))]
def rows_Rows_l0 (F : Nat) (a0 : List UInt8) (a1 : List api_Token) : Nat → (List api_Row) → Int → Int → Int → Int → Option (List api_Row)
  | 0, _, _, _, _, _ => none
  | n + 1, x12753, x12758, x12760, x12762, x12763 =>
    if x12763 < (a1.length : Int) then
      if 0 ≤ x12763 ∧ x12763 < (a1.length : Int) then
        (a1[x12763.toNat]?).bind fun x13036 =>
        (rows_brackets F x13036 x12760).bind fun r13043 =>
        ((if 0 ≤ x12763 ∧ x12763 < (a1.length : Int) then
            (a1[x12763.toNat]?).bind fun x13104 =>
            if x13104.Kind = (1 : Int) then
              (rows_Rows_1 F (w64 (x12763 + 1)) x12758 a1 x12762 x12753 r13043).bind fun r13111 =>
              some (r13111.2.2, r13111.1, r13043, r13111.2.1)
            else
              if 0 ≤ x12763 ∧ x12763 < (a1.length : Int) then
                (a1[x12763.toNat]?).bind fun x13126 =>
                if x13126.Kind = (19 : Int) then
                  (rows_Rows_1 F (w64 (x12763 + 1)) x12758 a1 x12762 x12753 r13043).bind fun r13133 =>
                  some (r13133.2.2, r13133.1, r13043, r13133.2.1)
                else
                  some (x12753, x12758, r13043, x12762)
              else none
          else none) : Option ((List api_Row) × Int × Int × Int)).bind fun o => match o with
          | (x13150, x13155, x13157, x13159) => rows_Rows_l0 F a0 a1 n x13150 x13155 x13157 x13159 (w64 (x12763 + 1))
      else none
    else
      ((if x12758 < (a1.length : Int) then
          (rows_Rows_1 F (a1.length : Int) x12758 a1 x12762 x12753 x12760).bind fun r13192 =>
          some r13192.2.2
        else
          some x12753) : Option (List api_Row)).bind fun o => match o with
        | x13208 => (slices_Clone_api_Row F x13208).bind fun r13218 =>
        some r13218
def rows_Rows (F : Nat) (a0 : List UInt8) (a1 : List api_Token) : Option (List api_Row) :=
  ((rows_Rows_l0 F a0 a1 F [] 0 0 0 0) : Option (List api_Row)).bind fun o => match o with
    | y => some y
theorem rows_Rows_ok (F : Nat) {h : AH} {Z : Zn} {a0 : List UInt8} {a1 : List api_Token} {v9930 : Value} {v9932 : Value} (hP : Pre Z h []) (q9929 : RS (α := UInt8) Z v9930 a0) (q9931 : RS (α := api_Token) Z v9932 a1) {r : (List api_Row)} (hm : rows_Rows F a0 a1 = some r) :
    ∃ v h' Z' A', callI Go.Proofs.Try.prog 12 [v9930, v9932] h = some (v, h') ∧ St h (idsL []) Z (0, 0) Z' h' A' ∧ ∃ v11898 : Value, ∃ c11899 : List Value, v11898 = v ∧ A' = [.gs v11898 c11899 (csz api_Row)] ∧ RCs (α := api_Row) Z' c11899 r := by
  refine fn_intro (A := []) (Q := fun v Z' A' => ∃ v11898 : Value, ∃ c11899 : List Value, v11898 = v ∧ A' = [.gs v11898 c11899 (csz api_Row)] ∧ RCs (α := api_Row) Z' c11899 r) Go.Proofs.Try.func12 rfl rfl (by kernel_rfl) hP ?_
  intro hs hS
  unfold rows_Rows at hm
  replace hS : St hs [] Z (0, 0) Z hs [] := hS
  refine sr r12_0 ?_
  refine r_blk rfl trivial (o_box1 rfl (RS.cell1 q9931)) hS ?_
  intro b11900 h11901 hS11902
  refine xe 1 [(3, Pt b11900 0)] ?_
  refine W_scopeJ (by kernel_rfl) ?_
  refine sr r12_1 ?_
  refine r_blk rfl trivial (o_alloc (cs := [.slice none 0 0]) (by kernel_rfl)) hS11902 ?_
  intro b11903 h11904 hS11905
  refine xf [(5, Pt b11903 0), (3, Pt b11900 0)] ?_
  refine sr r12_2 ?_
  refine r_blk rfl trivial (o_alloc (cs := [V 0]) (by kernel_rfl)) hS11905 ?_
  intro b11906 h11907 hS11908
  refine r_blk rfl trivial (o_alloc (cs := [V 0]) (by kernel_rfl)) hS11908 ?_
  intro b11909 h11910 hS11911
  refine r_blk rfl trivial (o_alloc (cs := [V 0]) (by kernel_rfl)) hS11911 ?_
  intro b11912 h11913 hS11914
  refine r_ex1 rfl trivial (o_stb (vs := [V 0]) (cells' := [V 0]) (L' := [.blk b11912 [V 0], .blk b11909 [V 0], .blk b11906 [V 0], .blk b11903 [.slice none 0 0], .blk b11900 [v9932]]) hS11914 (i := 2) rfl rfl rfl rfl (by kernel_rfl) rfl rfl rfl rfl) ?_
  intro h11915 hS11916
  refine r_ex1 rfl trivial (o_stb (vs := [V 0]) (cells' := [V 0]) (L' := [.blk b11912 [V 0], .blk b11909 [V 0], .blk b11906 [V 0], .blk b11903 [.slice none 0 0], .blk b11900 [v9932]]) hS11916 (i := 1) rfl rfl rfl rfl (by kernel_rfl) rfl rfl rfl rfl) ?_
  intro h11917 hS11918
  refine r_ex1 rfl trivial (o_stb (vs := [V 0]) (cells' := [V 0]) (L' := [.blk b11912 [V 0], .blk b11909 [V 0], .blk b11906 [V 0], .blk b11903 [.slice none 0 0], .blk b11900 [v9932]]) hS11918 (i := 0) rfl rfl rfl rfl (by kernel_rfl) rfl rfl rfl rfl) ?_
  intro h11919 hS11920
  refine xf [(8, Pt b11912 0), (7, Pt b11909 0), (6, Pt b11906 0), (5, Pt b11903 0), (3, Pt b11900 0)] ?_
  refine sr r12_3 ?_
  refine xe 2 [(9, .func (.func 25) #[] #[Pt b11906 0, Pt b11900 0, Pt b11909 0, Pt b11903 0, Pt b11912 0]), (8, Pt b11912 0), (6, Pt b11906 0), (5, Pt b11903 0), (3, Pt b11900 0)] ?_
  refine sr r12_4 ?_
  refine xe 1 [(10, V 0), (9, .func (.func 25) #[] #[Pt b11906 0, Pt b11900 0, Pt b11909 0, Pt b11903 0, Pt b11912 0]), (8, Pt b11912 0), (6, Pt b11906 0), (5, Pt b11903 0), (3, Pt b11900 0)] ?_
  obtain ⟨o12747, ho12746, hm⟩ := obind hm
  have hS12748 := hS11920.nilGs (csz api_Row)
  refine W_labelLoop (i := 0) [3, 5, 6, 8, 9, 10] (fun n l h => ∃ Z12750 : Zn, ∃ x12753 : List api_Row, ∃ x12758 : Int, ∃ x12760 : Int, ∃ x12762 : Int, ∃ x12763 : Int, ∃ b12751 : Nat, ∃ b12752 : Nat, ∃ v12755 : Value, ∃ c12756 : List Value, ∃ b12757 : Nat, ∃ b12759 : Nat, ∃ b12761 : Nat, rows_Rows_l0 F a0 a1 n x12753 x12758 x12760 x12762 x12763 = some o12747 ∧ RCs (α := api_Row) Z12750 c12756 x12753 ∧ l = [(3, Pt b12751 0), (5, Pt b12752 0), (6, Pt b12757 0), (8, Pt b12759 0), (9, .func (.func 25) #[] #[Pt b12757 0, Pt b12751 0, Pt b12761 0, Pt b12752 0, Pt b12759 0]), (10, V x12763)] ∧ St hs [] Z (0, 0) Z12750 h [.blk b12751 [v9932], .blk b12752 [v12755], .gs v12755 c12756 (csz api_Row), .blk b12757 [V x12758], .blk b12759 [V x12760], .blk b12761 [V x12762]]) (m := F) (by kernel_rfl) (by kernel_rfl) ⟨_, [], 0, 0, 0, 0, b11900, b11903, (.slice none 0 0), [], b11906, b11912, b11909, ho12746, (RCs.nil0 _), rfl, ((((((hS12748.front 2 rfl).front 2 rfl).front 3 rfl).front 3 rfl).front 4 rfl).front 5 rfl)⟩ ?_
  rintro n12766 l h12764 ⟨Z12750, x12753, x12758, x12760, x12762, x12763, b12751, b12752, v12755, c12756, b12757, b12759, b12761, ho12746, q12754, rfl, hS12765⟩
  rcases n12766 with _ | n12766
  cases (show none = some o12747 from ho12746)
  rw [rows_Rows_l0] at ho12746
  refine sq ?_
  refine sr r12_5 ?_
  refine xq 1 [(12, V x12763), (3, Pt b12751 0), (5, Pt b12752 0), (6, Pt b12757 0), (8, Pt b12759 0), (9, .func (.func 25) #[] #[Pt b12757 0, Pt b12751 0, Pt b12761 0, Pt b12752 0, Pt b12759 0]), (10, V x12763)] ?_
  refine r_step rfl trivial (o_ldb (v := v9932) hS12765 (i := 0) rfl rfl (by kernel_rfl)) ?_
  refine r_step rfl trivial (o_len rfl (RS.len (q9931.mono hS12765.zle)) ⟨_, Go.Proofs.Try.underlying27⟩) ?_
  rcases ifs ho12746 with ⟨hp12943, ho12746⟩ | ⟨hp12943, ho12746⟩
  refine r_step rfl trivial (o_cmp rfl rfl (c_lss_T hp12943)) ?_
  refine xf [(15, .bool true), (3, Pt b12751 0), (5, Pt b12752 0), (6, Pt b12757 0), (8, Pt b12759 0), (9, .func (.func 25) #[] #[Pt b12757 0, Pt b12751 0, Pt b12761 0, Pt b12752 0, Pt b12759 0]), (10, V x12763)] ?_
  refine cT 15 rfl ?_
  refine srF r12_6 hS12765 ?_
  intro bs13030 h13031 hlv13033 hS13032
  have lt13034 : b12751 < bs13030 := hlv13033.1 _ (List.mem_of_getElem? (i := 0) rfl) _ (by simp [Itm.ids])
  refine e_lookB rfl trivial rfl (by show b12751 < _; omega) (same1 (v := v9932) (RS.sim1 (q9931.mono hS12765.zle))) (o_ldb (v := v9932) hS13032 (i := 0) rfl rfl (by kernel_rfl)) trivial ?_
  refine yq 1 [(17, V x12763), (16, v9932), (3, Pt b12751 0), (5, Pt b12752 0), (6, Pt b12757 0), (8, Pt b12759 0), (9, .func (.func 25) #[] #[Pt b12757 0, Pt b12751 0, Pt b12761 0, Pt b12752 0, Pt b12759 0]), (10, V x12763)] ?_
  obtain ⟨hc13035, ho12746⟩ := chk ho12746
  refine e_val rfl trivial (o_index rfl rfl (by kernel_rfl : slTy _ _ = some (csz api_Token)) (RS.based (q9931.mono hS12765.zle) (by omega)) hc13035.1 hc13035.2) ?_
  obtain ⟨x13036, hx13037, ho12746⟩ := obind ho12746
  obtain ⟨cs13038, hc13039, he13040⟩ := RS.elz (q9931.mono hS12765.zle) (i := x12763) hx13037
  obtain rfl := rc_api_Token hc13039
  refine e_lookZ rfl rfl trivial (fun h2 hz => o_lde (w := .agg #[V x13036.Kind, V x13036.From, V x13036.To]) (he13040 h2 hz) rfl (by kernel_rfl)) (hS13032.zin0 (Zle.refl _)) (same_agg (cs := [V x13036.Kind, V x13036.From, V x13036.To]) (.cons trivial (.cons trivial (.cons trivial .nil)))) trivial ?_
  have lt13042 : b12759 < bs13030 := hlv13033.1 _ (List.mem_of_getElem? (i := 4) rfl) _ (by simp [Itm.ids])
  refine e_lookB rfl trivial rfl (by show b12759 < _; omega) (same1 (v := V x12760) trivial) (o_ldb (v := V x12760) hS13032 (i := 4) rfl rfl (by kernel_rfl)) trivial ?_
  obtain ⟨r13043, hx13044, ho12746⟩ := obind ho12746
  have hSl13050 := hS13032.lown
  obtain ⟨v13045, h13046, hcl13047, hSc13048, rfl⟩ := rows_brackets_ok F hSl13050.inv  hx13044
  have hS13049 := St.call (A := []) (B := [.blk b12751 [v9932], .blk b12752 [v12755], .gs v12755 c12756 (csz api_Row), .blk b12757 [V x12758], .blk b12759 [V x12760], .blk b12761 [V x12762]]) hSl13050 hSc13048
  replace hS13049 : St _ _ _ _ _ _ [.blk b12751 [v9932], .blk b12752 [v12755], .gs v12755 c12756 (csz api_Row), .blk b12757 [V x12758], .blk b12759 [V x12760], .blk b12761 [V x12762]] := hS13049
  refine e_still rfl trivial hS13032 (o_call hcl13047 rfl rfl rfl) hS13049 (St.lowk hSc13048) ?_
  intro h13051 hS13052
  have hF13055 : St _ _ _ _ _ _ ([.blk b12759 [V x12760]] ++ [.blk b12751 [v9932], .blk b12752 [v12755], .gs v12755 c12756 (csz api_Row), .blk b12757 [V x12758], .blk b12761 [V x12762]]) := (hS13052.front 4 rfl)
  refine e_mk1 rfl trivial hF13055 (o_stb (vs := [V r13043]) (cells' := [V r13043]) (L' := [.blk b12759 [V r13043]]) hF13055.sub (i := 0) rfl rfl rfl rfl (by kernel_rfl) rfl rfl rfl rfl) (Zle.refl _) (.drop (by decide) (.keep trivial (.keep (hF13055.neB 0 rfl blk_mem) .nil))) ?_
  intro h13053 hS13054
  refine yf [(3, Pt b12751 0), (5, Pt b12752 0), (6, Pt b12757 0), (8, Pt b12759 0), (9, .func (.func 25) #[] #[Pt b12757 0, Pt b12751 0, Pt b12761 0, Pt b12752 0, Pt b12759 0]), (10, V x12763)] ?_
  have hS13056 := hS13054.unres
  refine sq ?_
  obtain ⟨o13102, ho13101, ho12746⟩ := obind ho12746
  refine W_seqJoin0 [3, 5, 6, 8, 9, 10] (fun l h => ∃ Z13147 : Zn, ∃ x13150 : List api_Row, ∃ x13155 : Int, ∃ x13157 : Int, ∃ x13159 : Int, ∃ b13148 : Nat, ∃ b13149 : Nat, ∃ v13152 : Value, ∃ c13153 : List Value, ∃ b13154 : Nat, ∃ b13156 : Nat, ∃ b13158 : Nat, (x13150, x13155, x13157, x13159) = o13102 ∧ RCs (α := api_Row) Z13147 c13153 x13150 ∧ l = [(3, Pt b13148 0), (5, Pt b13149 0), (6, Pt b13154 0), (8, Pt b13156 0), (9, .func (.func 25) #[] #[Pt b13154 0, Pt b13148 0, Pt b13158 0, Pt b13149 0, Pt b13156 0]), (10, V x12763)] ∧ St hs [] Z (0, 0) Z13147 h [.blk b13148 [v9932], .blk b13149 [v13152], .gs v13152 c13153 (csz api_Row), .blk b13154 [V x13155], .blk b13156 [V x13157], .blk b13158 [V x13159]]) (by kernel_rfl) ?_ ?_
  rintro l h13160 ⟨Z13147, x13150, x13155, x13157, x13159, b13148, b13149, v13152, c13153, b13154, b13156, b13158, rfl, q13151, rfl, hS13161⟩
  try dsimp only at ho12746
  refine sr r12_9 ?_
  refine xe 3 [(10, V (w64 (x12763 + 1))), (3, Pt b13148 0), (5, Pt b13149 0), (6, Pt b13154 0), (8, Pt b13156 0), (9, .func (.func 25) #[] #[Pt b13154 0, Pt b13148 0, Pt b13158 0, Pt b13149 0, Pt b13156 0])] ?_
  refine W_goto (i := 0) (by kernel_rfl) ?_
  refine scX_hit ?_
  exact ⟨n12766, Nat.lt_succ_self _, ⟨_, x13150, x13155, x13157, x13159, w64 (x12763 + 1), b13148, b13149, v13152, c13153, b13154, b13156, b13158, ho12746, q13151, rfl, hS13161⟩⟩
  refine rg r12_7 ?_
  refine r_step rfl trivial (o_ldb (v := v9932) hS13056 (i := 1) rfl rfl (by kernel_rfl)) ?_
  refine xq 1 [(23, V x12763), (22, v9932), (3, Pt b12751 0), (5, Pt b12752 0), (6, Pt b12757 0), (8, Pt b12759 0), (9, .func (.func 25) #[] #[Pt b12757 0, Pt b12751 0, Pt b12761 0, Pt b12752 0, Pt b12759 0]), (10, V x12763)] ?_
  obtain ⟨hc13103, ho13101⟩ := chk ho13101
  refine r_step rfl trivial (o_index rfl rfl (by kernel_rfl : slTy _ _ = some (csz api_Token)) (RS.based (q9931.mono hS12765.zle) (by omega)) hc13103.1 hc13103.2) ?_
  refine xq 1 [(25, .pointer (some (elemA v9932 x12763 (csz api_Token) 0))), (3, Pt b12751 0), (5, Pt b12752 0), (6, Pt b12757 0), (8, Pt b12759 0), (9, .func (.func 25) #[] #[Pt b12757 0, Pt b12751 0, Pt b12761 0, Pt b12752 0, Pt b12759 0]), (10, V x12763)] ?_
  obtain ⟨x13104, hx13105, ho13101⟩ := obind ho13101
  obtain ⟨cs13106, hc13107, he13108⟩ := RS.elz (q9931.mono hS12765.zle) (i := x12763) hx13105
  obtain rfl := rc_api_Token hc13107
  refine r_step rfl trivial (o_lde (w := V x13104.Kind) (he13108 _ (hS13056.zin0 (Zle.refl _))) rfl (by kernel_rfl)) ?_
  rcases ifs ho13101 with ⟨hp13110, ho13101⟩ | ⟨hp13110, ho13101⟩
  refine r_step rfl trivial (o_cmp rfl rfl (c_eql_T hp13110)) ?_
  refine xe 8 [(35, .bool true), (3, Pt b12751 0), (5, Pt b12752 0), (6, Pt b12757 0), (8, Pt b12759 0), (9, .func (.func 25) #[] #[Pt b12757 0, Pt b12751 0, Pt b12761 0, Pt b12752 0, Pt b12759 0]), (10, V x12763)] ?_
  refine cT 35 rfl ?_
  refine rg r12_8 ?_
  refine xq 3 [(38, V (w64 (x12763 + 1))), (36, .func (.func 25) #[] #[Pt b12757 0, Pt b12751 0, Pt b12761 0, Pt b12752 0, Pt b12759 0]), (3, Pt b12751 0), (5, Pt b12752 0), (6, Pt b12757 0), (8, Pt b12759 0), (9, .func (.func 25) #[] #[Pt b12757 0, Pt b12751 0, Pt b12761 0, Pt b12752 0, Pt b12759 0]), (10, V x12763)] ?_
  obtain ⟨r13111, hx13112, ho13101⟩ := obind ho13101
  have hF13118 : St _ _ _ _ _ _ ([.blk b12757 [V x12758], .blk b12751 [v9932], .blk b12761 [V x12762], .blk b12752 [v12755], .gs v12755 c12756 (csz api_Row), .blk b12759 [V r13043]] ++ []) := ((((((hS13056.front 0 rfl).front 3 rfl).front 3 rfl).front 5 rfl).front 4 rfl).front 5 rfl)
  obtain ⟨v13113, h13114, Z13119, A13121, hcl13115, hSc13116, v13123, c13124, rfl, rfl, q13122⟩ := rows_Rows_1_ok F hF13118.preL (q9931.mono hS12765.zle) q12754 hx13112
  have hZ13120 := hSc13116.zle
  have hS13117 := hF13118.call hSc13116
  replace hS13117 : St _ _ _ _ _ _ [.blk b12757 [V r13111.1], .blk b12751 [v9932], .blk b12761 [V r13111.2.1], .blk b12752 [v13123], .gs v13123 c13124 (csz api_Row), .blk b12759 [V r13043]] := hS13117
  refine r_step rfl trivial (o_call hcl13115 rfl rfl rfl) ?_
  refine xf [(3, Pt b12751 0), (5, Pt b12752 0), (6, Pt b12757 0), (8, Pt b12759 0), (9, .func (.func 25) #[] #[Pt b12757 0, Pt b12751 0, Pt b12761 0, Pt b12752 0, Pt b12759 0]), (10, V x12763)] ?_
  obtain rfl := Option.some.inj ho13101
  exact ⟨_, r13111.2.2, r13111.1, r13043, r13111.2.1, b12751, b12752, v13123, c13124, b12757, b12759, b12761, rfl, q13122, rfl, ((((((hS13117.front 2 rfl).front 5 rfl).front 2 rfl).front 5 rfl).front 5 rfl).front 5 rfl)⟩
  refine r_step rfl trivial (o_cmp rfl rfl (c_eql_F hp13110)) ?_
  refine xq 1 [(28, .bool false), (3, Pt b12751 0), (5, Pt b12752 0), (6, Pt b12757 0), (8, Pt b12759 0), (9, .func (.func 25) #[] #[Pt b12757 0, Pt b12751 0, Pt b12761 0, Pt b12752 0, Pt b12759 0]), (10, V x12763)] ?_
  refine r_step rfl rfl (o_ldb (v := v9932) hS13056 (i := 1) rfl rfl (by kernel_rfl)) ?_
  refine xq 1 [(30, V x12763), (29, v9932), (28, .bool false), (3, Pt b12751 0), (5, Pt b12752 0), (6, Pt b12757 0), (8, Pt b12759 0), (9, .func (.func 25) #[] #[Pt b12757 0, Pt b12751 0, Pt b12761 0, Pt b12752 0, Pt b12759 0]), (10, V x12763)] ?_
  obtain ⟨hc13125, ho13101⟩ := chk ho13101
  refine r_step rfl rfl (o_index rfl rfl (by kernel_rfl : slTy _ _ = some (csz api_Token)) (RS.based (q9931.mono hS12765.zle) (by omega)) hc13125.1 hc13125.2) ?_
  refine xq 1 [(32, .pointer (some (elemA v9932 x12763 (csz api_Token) 0))), (28, .bool false), (3, Pt b12751 0), (5, Pt b12752 0), (6, Pt b12757 0), (8, Pt b12759 0), (9, .func (.func 25) #[] #[Pt b12757 0, Pt b12751 0, Pt b12761 0, Pt b12752 0, Pt b12759 0]), (10, V x12763)] ?_
  obtain ⟨x13126, hx13127, ho13101⟩ := obind ho13101
  obtain ⟨cs13128, hc13129, he13130⟩ := RS.elz (q9931.mono hS12765.zle) (i := x12763) hx13127
  obtain rfl := rc_api_Token hc13129
  refine r_step rfl rfl (o_lde (w := V x13126.Kind) (he13130 _ (hS13056.zin0 (Zle.refl _))) rfl (by kernel_rfl)) ?_
  rcases ifs ho13101 with ⟨hp13132, ho13101⟩ | ⟨hp13132, ho13101⟩
  refine r_step rfl rfl (o_cmp rfl rfl (c_eql_T hp13132)) ?_
  refine xe 1 [(35, .bool true), (3, Pt b12751 0), (5, Pt b12752 0), (6, Pt b12757 0), (8, Pt b12759 0), (9, .func (.func 25) #[] #[Pt b12757 0, Pt b12751 0, Pt b12761 0, Pt b12752 0, Pt b12759 0]), (10, V x12763)] ?_
  refine cT 35 rfl ?_
  refine rg r12_8 ?_
  refine xq 3 [(38, V (w64 (x12763 + 1))), (36, .func (.func 25) #[] #[Pt b12757 0, Pt b12751 0, Pt b12761 0, Pt b12752 0, Pt b12759 0]), (3, Pt b12751 0), (5, Pt b12752 0), (6, Pt b12757 0), (8, Pt b12759 0), (9, .func (.func 25) #[] #[Pt b12757 0, Pt b12751 0, Pt b12761 0, Pt b12752 0, Pt b12759 0]), (10, V x12763)] ?_
  obtain ⟨r13133, hx13134, ho13101⟩ := obind ho13101
  have hF13140 : St _ _ _ _ _ _ ([.blk b12757 [V x12758], .blk b12751 [v9932], .blk b12761 [V x12762], .blk b12752 [v12755], .gs v12755 c12756 (csz api_Row), .blk b12759 [V r13043]] ++ []) := ((((((hS13056.front 0 rfl).front 3 rfl).front 3 rfl).front 5 rfl).front 4 rfl).front 5 rfl)
  obtain ⟨v13135, h13136, Z13141, A13143, hcl13137, hSc13138, v13145, c13146, rfl, rfl, q13144⟩ := rows_Rows_1_ok F hF13140.preL (q9931.mono hS12765.zle) q12754 hx13134
  have hZ13142 := hSc13138.zle
  have hS13139 := hF13140.call hSc13138
  replace hS13139 : St _ _ _ _ _ _ [.blk b12757 [V r13133.1], .blk b12751 [v9932], .blk b12761 [V r13133.2.1], .blk b12752 [v13145], .gs v13145 c13146 (csz api_Row), .blk b12759 [V r13043]] := hS13139
  refine r_step rfl trivial (o_call hcl13137 rfl rfl rfl) ?_
  refine xf [(3, Pt b12751 0), (5, Pt b12752 0), (6, Pt b12757 0), (8, Pt b12759 0), (9, .func (.func 25) #[] #[Pt b12757 0, Pt b12751 0, Pt b12761 0, Pt b12752 0, Pt b12759 0]), (10, V x12763)] ?_
  obtain rfl := Option.some.inj ho13101
  exact ⟨_, r13133.2.2, r13133.1, r13043, r13133.2.1, b12751, b12752, v13145, c13146, b12757, b12759, b12761, rfl, q13144, rfl, ((((((hS13139.front 2 rfl).front 5 rfl).front 2 rfl).front 5 rfl).front 5 rfl).front 5 rfl)⟩
  refine r_step rfl rfl (o_cmp rfl rfl (c_eql_F hp13132)) ?_
  refine xe 1 [(35, .bool false), (3, Pt b12751 0), (5, Pt b12752 0), (6, Pt b12757 0), (8, Pt b12759 0), (9, .func (.func 25) #[] #[Pt b12757 0, Pt b12751 0, Pt b12761 0, Pt b12752 0, Pt b12759 0]), (10, V x12763)] ?_
  refine kF 35 rfl ?_
  obtain rfl := Option.some.inj ho13101
  exact ⟨_, x12753, x12758, r13043, x12762, b12751, b12752, v12755, c12756, b12757, b12759, b12761, rfl, q12754, rfl, ((((((hS13056.front 5 rfl).front 1 rfl).front 5 rfl).front 5 rfl).front 5 rfl).front 5 rfl)⟩
  refine r_step rfl trivial (o_cmp rfl rfl (c_lss_F hp12943)) ?_
  refine xf [(15, .bool false), (3, Pt b12751 0), (5, Pt b12752 0), (6, Pt b12757 0), (8, Pt b12759 0), (9, .func (.func 25) #[] #[Pt b12757 0, Pt b12751 0, Pt b12761 0, Pt b12752 0, Pt b12759 0]), (10, V x12763)] ?_
  refine kF 15 rfl ?_
  refine sq ?_
  obtain ⟨o13190, ho13189, ho12746⟩ := obind ho12746
  refine W_seqJoin0 [5] (fun l h => ∃ Z13206 : Zn, ∃ x13208 : List api_Row, ∃ b13207 : Nat, ∃ v13210 : Value, ∃ c13211 : List Value, x13208 = o13190 ∧ RCs (α := api_Row) Z13206 c13211 x13208 ∧ l = [(5, Pt b13207 0)] ∧ St hs [] Z (0, 0) Z13206 h [.blk b13207 [v13210], .gs v13210 c13211 (csz api_Row)]) (by kernel_rfl) ?_ ?_
  rintro l h13212 ⟨Z13206, x13208, b13207, v13210, c13211, rfl, q13209, rfl, hS13213⟩
  try dsimp only at ho12746
  refine sr r12_12 ?_
  refine r_step rfl trivial (o_ldb (v := v13210) hS13213 (i := 0) rfl rfl (by kernel_rfl)) ?_
  obtain ⟨Z13214, hZ13215, q13216, hS13217⟩ := (hS13213.front 1 rfl).freeze q13209
  replace hS13217 : St _ _ _ _ _ _ [.blk b13207 [v13210]] := hS13217
  obtain ⟨r13218, hx13219, ho12746⟩ := obind ho12746
  have hSr13225 : St _ _ _ _ _ _ ([] ++ [.blk b13207 [v13210]]) := hS13217
  obtain ⟨v13220, h13221, Z13226, A13228, hcl13222, hSc13223, v13230, c13231, rfl, rfl, q13229⟩ := slices_Clone_api_Row_ok F hSr13225.preL q13216 hx13219
  have hS13224 := hSr13225.call hSc13223
  have hZ13227 := hSc13223.zle
  replace hS13224 : St _ _ _ _ _ _ [.gs v13230 c13231 (csz api_Row), .blk b13207 [v13210]] := hS13224
  refine r_step rfl trivial (o_call hcl13222 rfl rfl rfl) ?_
  refine xe 1 [(4, v13230)] ?_
  refine rt ?_
  refine scX_ret ?_
  refine ⟨rfl, ?_⟩
  obtain rfl := Option.some.inj ho12746
  obtain rfl := Option.some.inj hm
  refine ⟨_, _, _, ResL.tmp rfl (ResL.nil), (hS13224.takeN 1), ?_⟩
  exact ⟨v13230, c13231, rfl, rfl, q13229⟩
  refine rg r12_10 ?_
  refine r_step rfl trivial (o_ldb (v := V x12758) hS12765 (i := 3) rfl rfl (by kernel_rfl)) ?_
  refine r_step rfl trivial (o_ldb (v := v9932) hS12765 (i := 0) rfl rfl (by kernel_rfl)) ?_
  refine r_step rfl trivial (o_len rfl (RS.len (q9931.mono hS12765.zle)) ⟨_, Go.Proofs.Try.underlying27⟩) ?_
  rcases ifs ho13189 with ⟨hp13191, ho13189⟩ | ⟨hp13191, ho13189⟩
  refine r_step rfl trivial (o_cmp rfl rfl (c_lss_T hp13191)) ?_
  refine xf [(45, .bool true), (3, Pt b12751 0), (5, Pt b12752 0), (9, .func (.func 25) #[] #[Pt b12757 0, Pt b12751 0, Pt b12761 0, Pt b12752 0, Pt b12759 0])] ?_
  refine cT 45 rfl ?_
  refine rg r12_11 ?_
  refine xq 1 [(46, .func (.func 25) #[] #[Pt b12757 0, Pt b12751 0, Pt b12761 0, Pt b12752 0, Pt b12759 0]), (3, Pt b12751 0), (5, Pt b12752 0)] ?_
  refine r_step rfl trivial (o_ldb (v := v9932) hS12765 (i := 0) rfl rfl (by kernel_rfl)) ?_
  refine r_step rfl trivial (o_len rfl (RS.len (q9931.mono hS12765.zle)) ⟨_, Go.Proofs.Try.underlying27⟩) ?_
  obtain ⟨r13192, hx13193, ho13189⟩ := obind ho13189
  have hF13199 : St _ _ _ _ _ _ ([.blk b12757 [V x12758], .blk b12751 [v9932], .blk b12761 [V x12762], .blk b12752 [v12755], .gs v12755 c12756 (csz api_Row), .blk b12759 [V x12760]] ++ []) := ((((((hS12765.front 4 rfl).front 3 rfl).front 3 rfl).front 5 rfl).front 4 rfl).front 5 rfl)
  obtain ⟨v13194, h13195, Z13200, A13202, hcl13196, hSc13197, v13204, c13205, rfl, rfl, q13203⟩ := rows_Rows_1_ok F hF13199.preL (q9931.mono hS12765.zle) q12754 hx13193
  have hZ13201 := hSc13197.zle
  have hS13198 := hF13199.call hSc13197
  replace hS13198 : St _ _ _ _ _ _ [.blk b12757 [V r13192.1], .blk b12751 [v9932], .blk b12761 [V r13192.2.1], .blk b12752 [v13204], .gs v13204 c13205 (csz api_Row), .blk b12759 [V x12760]] := hS13198
  refine r_step rfl trivial (o_call hcl13196 rfl rfl rfl) ?_
  refine xf [(5, Pt b12752 0)] ?_
  obtain rfl := Option.some.inj ho13189
  exact ⟨_, r13192.2.2, b12752, v13204, c13205, rfl, q13203, rfl, (((hS13198.front 4 rfl).front 4 rfl).takeN 2)⟩
  refine r_step rfl trivial (o_cmp rfl rfl (c_lss_F hp13191)) ?_
  refine xf [(45, .bool false), (3, Pt b12751 0), (5, Pt b12752 0), (9, .func (.func 25) #[] #[Pt b12757 0, Pt b12751 0, Pt b12761 0, Pt b12752 0, Pt b12759 0])] ?_
  refine kF 45 rfl ?_
  obtain rfl := Option.some.inj ho13189
  exact ⟨_, x12753, b12752, v12755, c12756, rfl, q12754, rfl, (((hS12765.front 2 rfl).front 2 rfl).takeN 2)⟩

def r13_0 : List COp := [u 2 (.assign (.const (.slice none 0 0)))]
def r13_1 : List COp := [u 3 (.assign (.const (.slice none 0 0)))]
def r13_2 : List COp := [u 4 (.assign (ci 0))]
def r13_3 : List COp := [u 5 (.assign (ci 0))]
def r13_4 : List COp := [u 9 (.move (t 5)), u 10 (.move (t 0)), u 11 (cb .len #[(t 10)] #[27]), u 12 (.binOp .lss 3 (t 9) (t 11) 3)]
def r13_5 : List COp := [u 13 (.move (t 5)), u 14 (.build 33 #[(0, (ci 1)), (1, (t 13)), (3, (ci (-1)))]), u 6 (.alloc 33), o (.store 33 (t 6) (t 14))]
def r13_6 : List COp := [u 15 (.move (t 4)), u 16 (.binOp .gtr 3 (t 15) (ci 0) 3), u 7 (.assign (t 16))]
def r13_7 : List COp := [u 17 (.move (t 5)), u 18 (.move (t 0)), u 19 (cb .len #[(t 18)] #[27]), u 20 (.binOp .lss 3 (t 17) (t 19) 3)]
def r13_8 : List COp := [u 21 (.move (t 0)), u 22 (.move (t 5)), u 23 (.indexAddr 27 (t 21) (t 22)), u 24 (.fieldAddr 45 (t 23) 0), u 25 (.load 3 (t 24)), u 8 (.assign (t 25))]
def r13_9 : List COp := [u 26 (.fieldAddr 33 (t 6) 3), u 27 (.load 3 (t 26)), u 28 (.binOp .lss 3 (t 27) (ci 0) 3), u 29 (.move (t 28)), gT 29 (some 30) (.move (t 8)), gT 29 (some 31) (cf 16 #[(t 30)] #[3]), u 32 (.pick (t 29) (t 31) (.const (.bool false)))]
def r13_10 : List COpF := [uF 33 (.move (t 0)) .pure [], uF 34 (.move (t 5)) .pure [], uF 35 (.indexAddr 27 (t 33) (t 34)) .pure [], uF 36 (.fieldAddr 45 (t 35) 1) .pure [], uF 37 (.load 3 (t 36)) .look [], uF 38 (.move (t 0)) .pure [], uF 39 (.fieldAddr 33 (t 6) 1) .pure [], uF 40 (.load 3 (t 39)) .look [], uF 41 (.indexAddr 27 (t 38) (t 40)) .pure [], uF 42 (.fieldAddr 45 (t 41) 1) .pure [], uF 43 (.load 3 (t 42)) .look [], uF 44 (.binOp .sub 3 (t 37) (t 43) 3) .pure [], uF 45 (.fieldAddr 33 (t 6) 3) .pure [], oF (.store 3 (t 45) (t 44)) .make [4, 7, 10], uF 46 (.fieldAddr 33 (t 6) 0) .pure [], oF (.store 3 (t 46) (ci 5)) .make [4, 7, 10]]
def r13_11 : List COp := [u 47 (.move (t 8)), u 48 (.binOp .eql 3 (t 47) (ci 20) 3), u 49 (.move (t 48)), gN 49 (some 50) (.move (t 8)), gN 49 (some 51) (.binOp .eql 3 (t 50) (ci 21) 3), u 52 (.pick (t 49) (.const (.bool true)) (t 51))]
def r13_12 : List COp := [u 53 (.fieldAddr 33 (t 6) 0), o (.store 3 (t 53) (ci 4))]
def r13_13 : List COp := [u 54 (.move (t 8))]
def r13_14 : List COp := [u 56 (.binOp .eql 3 (t 54) (ci 8) 3), u 55 (.assign (t 56))]
def r13_15 : List COp := [u 57 (.binOp .eql 3 (t 54) (ci 9) 3), u 55 (.assign (t 57))]
def r13_16 : List COp := [u 58 (.move (t 4)), u 59 (.binOp .add 3 (t 58) (ci 1) 3), u 4 (.assign (t 59))]
def r13_17 : List COp := [u 61 (.binOp .eql 3 (t 54) (ci 10) 3), u 60 (.assign (t 61))]
def r13_18 : List COp := [u 62 (.binOp .eql 3 (t 54) (ci 11) 3), u 60 (.assign (t 62))]
def r13_19 : List COp := [u 63 (.move (t 4)), u 64 (.binOp .sub 3 (t 63) (ci 1) 3), u 65 (cb .max #[(t 64), (ci 0)] #[3, 3]), u 4 (.assign (t 65))]
def r13_20 : List COp := [u 67 (.binOp .eql 3 (t 54) (ci 20) 3), u 66 (.assign (t 67))]
def r13_21 : List COp := [u 68 (.binOp .eql 3 (t 54) (ci 21) 3), u 66 (.assign (t 68))]
def r13_22 : List COp := [u 4 (.assign (ci 0))]
def r13_23 : List COp := [u 69 (.move (t 5)), u 70 (.binOp .add 3 (t 69) (ci 1) 3), u 5 (.assign (t 70))]
def r13_24 : List COp := [u 71 (.move (t 8)), u 72 (.binOp .eql 3 (t 71) (ci 1) 3), u 73 (.move (t 72)), gN 73 (some 74) (.move (t 8)), gN 73 (some 75) (.binOp .eql 3 (t 74) (ci 19) 3), u 76 (.pick (t 73) (.const (.bool true)) (t 75))]
def r13_25 : List COp := [u 77 (.move (t 5)), u 78 (.fieldAddr 33 (t 6) 2), o (.store 3 (t 78) (t 77))]
def r13_26 : List COp := [u 79 (.move (t 0)), u 80 (.fieldAddr 33 (t 6) 1), u 81 (.load 3 (t 80)), u 82 (.indexAddr 27 (t 79) (t 81)), u 83 (.fieldAddr 45 (t 82) 0), u 84 (.load 3 (t 83)), u 85 (.binOp .eql 3 (t 84) (ci 19) 3)]
def r13_27 : List COp := [u 86 (.fieldAddr 33 (t 6) 0), o (.store 3 (t 86) (ci 2))]
def r13_28 : List COp := [u 87 (.move (t 7)), u 88 (.move (t 87)), gT 88 (some 89) (.fieldAddr 33 (t 6) 0), gT 88 (some 90) (.load 3 (t 89)), gT 88 (some 91) (.binOp .neq 3 (t 90) (ci 4) 3), u 92 (.pick (t 88) (t 91) (.const (.bool false)))]
def r13_29 : List COp := [u 93 (.fieldAddr 33 (t 6) 0), o (.store 3 (t 93) (ci 3))]
def r13_30 : List COp := [u 94 (.move (t 3)), u 95 (.load 33 (t 6)), u 96 (.buildSlice 29 1 #[(0, (t 95))]), u 97 (cb .append #[(t 94), (t 96)] #[29, 29]), u 3 (.assign (t 97))]
def r13_31 : List COp := [u 98 (.move (t 3)), u 2 (.assign (t 98))]
def correctorref9_Rows_l1 (F : Nat) (a0 : List api_Token) : Nat → (List api_Row) → Int → Int → api_Row → Bool → Option ((List api_Row) × Int × Int × api_Row × Bool)
  | 0, _, _, _, _, _ => none
  | n + 1, x14353, x14357, x14358, x14360, x14361 =>
    if x14358 < (a0.length : Int) then
      if 0 ≤ x14358 ∧ x14358 < (a0.length : Int) then
        (a0[x14358.toNat]?).bind fun x14369 =>
        ((if x14360.Col < (0 : Int) then
            (correctorref6_Counts F x14369.Kind).bind fun r14435 =>
            if r14435 = true then
              if 0 ≤ x14358 ∧ x14358 < (a0.length : Int) then
                (a0[x14358.toNat]?).bind fun x14448 =>
                if 0 ≤ x14360.From ∧ x14360.From < (a0.length : Int) then
                  (a0[x14360.From.toNat]?).bind fun x14456 =>
                  if x14369.Kind = (20 : Int) then
                    some (x14353, (⟨4, x14360.From, x14360.To, w64 (x14448.From - x14456.From)⟩ : api_Row))
                  else
                    if x14369.Kind = (21 : Int) then
                      some (x14353, (⟨4, x14360.From, x14360.To, w64 (x14448.From - x14456.From)⟩ : api_Row))
                    else
                      some (x14353, (⟨5, x14360.From, x14360.To, w64 (x14448.From - x14456.From)⟩ : api_Row))
                else none
              else none
            else
              some (x14353, x14360)
          else
            some (x14353, x14360)) : Option ((List api_Row) × api_Row)).bind fun o => match o with
          | (x14476, x14481) => ((((if x14369.Kind = (8 : Int) then
                some (x14476, x14481, true)
              else
                if x14369.Kind = (9 : Int) then
                  some (x14476, x14481, true)
                else
                  some (x14476, x14481, false)) : Option ((List api_Row) × api_Row × Bool)).bind fun o => match o with
              | (x14532, x14537, x14538) => if x14538 = true then
                some (x14532, w64 (x14357 + 1), x14537)
              else
                ((if x14369.Kind = (10 : Int) then
                    some (x14532, x14537, true)
                  else
                    if x14369.Kind = (11 : Int) then
                      some (x14532, x14537, true)
                    else
                      some (x14532, x14537, false)) : Option ((List api_Row) × api_Row × Bool)).bind fun o => match o with
                  | (x14549, x14554, x14555) => if x14555 = true then
                    some (x14549, imax (w64 (x14357 - 1)) 0, x14554)
                  else
                    ((if x14369.Kind = (20 : Int) then
                        some (x14549, x14554, true)
                      else
                        if x14369.Kind = (21 : Int) then
                          some (x14549, x14554, true)
                        else
                          some (x14549, x14554, false)) : Option ((List api_Row) × api_Row × Bool)).bind fun o => match o with
                      | (x14566, x14571, x14572) => if x14572 = true then
                        some (x14566, 0, x14571)
                      else
                        some (x14566, x14357, x14571)) : Option ((List api_Row) × Int × api_Row)).bind fun o => match o with
            | (x14598, x14602, x14604) => if x14369.Kind = (1 : Int) then
              some (x14598, x14602, w64 (x14358 + 1), x14604, x14361)
            else
              if x14369.Kind = (19 : Int) then
                some (x14598, x14602, w64 (x14358 + 1), x14604, x14361)
              else
                correctorref9_Rows_l1 F a0 n x14598 x14602 (w64 (x14358 + 1)) x14604 x14361
      else none
    else
      some (x14353, x14357, x14358, x14360, x14361)
def correctorref9_Rows_l0 (F : Nat) (a0 : List api_Token) : Nat → (List api_Row) → Int → Int → Option (List api_Row)
  | 0, _, _, _ => none
  | n + 1, x14188, x14192, x14193 =>
    if x14193 < (a0.length : Int) then
      ((if (0 : Int) < x14192 then
          some (x14188, (⟨1, x14193, 0, (-1)⟩ : api_Row), true)
        else
          some (x14188, (⟨1, x14193, 0, (-1)⟩ : api_Row), false)) : Option ((List api_Row) × api_Row × Bool)).bind fun o => match o with
        | (x14210, x14215, x14216) => ((correctorref9_Rows_l1 F a0 F x14210 x14192 x14193 x14215 x14216) : Option ((List api_Row) × Int × Int × api_Row × Bool)).bind fun o => match o with
          | (x14632, x14636, x14637, x14639, x14640) => ((if 0 ≤ x14639.From ∧ x14639.From < (a0.length : Int) then
              (a0[x14639.From.toNat]?).bind fun x14662 =>
              if x14662.Kind = (19 : Int) then
                some (x14632, (⟨2, x14639.From, x14637, x14639.Col⟩ : api_Row))
              else
                if x14640 = true then
                  if x14639.Kind = (4 : Int) then
                    some (x14632, (⟨x14639.Kind, x14639.From, x14637, x14639.Col⟩ : api_Row))
                  else
                    some (x14632, (⟨3, x14639.From, x14637, x14639.Col⟩ : api_Row))
                else
                  some (x14632, (⟨x14639.Kind, x14639.From, x14637, x14639.Col⟩ : api_Row))
            else none) : Option ((List api_Row) × api_Row)).bind fun o => match o with
            | (x14676, x14681) => if x14676.length + [x14681].length ≤ 4398046511104 then
              correctorref9_Rows_l0 F a0 n (x14676 ++ [x14681]) x14636 x14637
            else none
    else
      some x14188
def correctorref9_Rows (F : Nat) (a0 : List api_Token) : Option (List api_Row) :=
  ((correctorref9_Rows_l0 F a0 F [] 0 0) : Option (List api_Row)).bind fun o => match o with
    | x14723 => some x14723
theorem correctorref9_Rows_ok (F : Nat) {h : AH} {Z : Zn} {a0 : List api_Token} {v13238 : Value} (hP : Pre Z h []) (q13237 : RS (α := api_Token) Z v13238 a0) {r : (List api_Row)} (hm : correctorref9_Rows F a0 = some r) :
    ∃ v h' Z' A', callI Go.Proofs.Try.prog 13 [v13238] h = some (v, h') ∧ St h (idsL []) Z (0, 0) Z' h' A' ∧ ∃ v13714 : Value, ∃ c13715 : List Value, v13714 = v ∧ A' = [.gs v13714 c13715 (csz api_Row)] ∧ RCs (α := api_Row) Z' c13715 r := by
  refine fn_intro (A := []) (Q := fun v Z' A' => ∃ v13714 : Value, ∃ c13715 : List Value, v13714 = v ∧ A' = [.gs v13714 c13715 (csz api_Row)] ∧ RCs (α := api_Row) Z' c13715 r) Go.Proofs.Try.func13 rfl rfl (by kernel_rfl) hP ?_
  intro hs hS
  unfold correctorref9_Rows at hm
  replace hS : St hs [] Z (0, 0) Z hs [] := hS
  refine sr r13_0 ?_
  refine xe 1 [(0, v13238)] ?_
  refine sr r13_1 ?_
  refine xe 1 [(3, .slice none 0 0), (0, v13238)] ?_
  refine sr r13_2 ?_
  refine xe 1 [(4, V 0), (3, .slice none 0 0), (0, v13238)] ?_
  refine sq ?_
  refine sr r13_3 ?_
  refine xe 1 [(5, V 0), (4, V 0), (3, .slice none 0 0), (0, v13238)] ?_
  obtain ⟨o14184, ho14183, hm⟩ := obind hm
  refine W_join [3] (fun l h => ∃ Z14722 : Zn, ∃ x14723 : List api_Row, ∃ v14725 : Value, ∃ c14726 : List Value, x14723 = o14184 ∧ RCs (α := api_Row) Z14722 c14726 x14723 ∧ l = [(3, v14725)] ∧ St hs [] Z (0, 0) Z14722 h [.gs v14725 c14726 (csz api_Row)]) ?_ ?_
  rintro l h14727 ⟨Z14722, x14723, v14725, c14726, rfl, q14724, rfl, hS14728⟩
  try dsimp only at hm
  refine sr r13_31 ?_
  refine xe 2 [(2, v14725)] ?_
  refine rt ?_
  refine ⟨rfl, ?_⟩
  obtain rfl := Option.some.inj hm
  refine ⟨_, _, _, ResL.tmp rfl (ResL.nil), hS14728, ?_⟩
  exact ⟨v14725, c14726, rfl, rfl, q14724⟩
  refine bk 0 ?_
  have hS14185 := hS.nilGs (csz api_Row)
  refine lp [0, 3, 4, 5] (fun n l h => ∃ Z14187 : Zn, ∃ x14188 : List api_Row, ∃ x14192 : Int, ∃ x14193 : Int, ∃ v14190 : Value, ∃ c14191 : List Value, correctorref9_Rows_l0 F a0 n x14188 x14192 x14193 = some o14184 ∧ RCs (α := api_Row) Z14187 c14191 x14188 ∧ l = [(0, v13238), (3, v14190), (4, V x14192), (5, V x14193)] ∧ St hs [] Z (0, 0) Z14187 h [.gs v14190 c14191 (csz api_Row)]) F ⟨_, [], 0, 0, (.slice none 0 0), [], ho14183, (RCs.nil0 _), rfl, hS14185⟩ ?_
  rintro n14196 l h14194 ⟨Z14187, x14188, x14192, x14193, v14190, c14191, ho14183, q14189, rfl, hS14195⟩
  rcases n14196 with _ | n14196
  cases (show none = some o14184 from ho14183)
  rw [correctorref9_Rows_l0] at ho14183
  refine sq ?_
  refine sr r13_4 ?_
  refine xq 2 [(10, v13238), (9, V x14193), (0, v13238), (3, v14190), (4, V x14192), (5, V x14193)] ?_
  refine r_step rfl trivial (o_len rfl (RS.len (q13237.mono hS14195.zle)) ⟨_, Go.Proofs.Try.underlying27⟩) ?_
  rcases ifs ho14183 with ⟨hp14199, ho14183⟩ | ⟨hp14199, ho14183⟩
  refine r_step rfl trivial (o_cmp rfl rfl (c_lss_T hp14199)) ?_
  refine xf [(12, .bool true), (0, v13238), (3, v14190), (4, V x14192), (5, V x14193)] ?_
  refine kT 12 rfl ?_
  refine bk 1 ?_
  refine sr r13_5 ?_
  refine xq 2 [(14, .agg #[V 1, V x14193, V 0, V (-1)]), (0, v13238), (3, v14190), (4, V x14192), (5, V x14193)] ?_
  refine r_blk rfl trivial (o_alloc (cs := [V 0, V 0, V 0, V 0]) (by kernel_rfl)) hS14195 ?_
  intro b14200 h14201 hS14202
  refine r_ex1 rfl trivial (o_stb (vs := [V 1, V x14193, V 0, V (-1)]) (cells' := [V 1, V x14193, V 0, V (-1)]) (L' := [.blk b14200 [V 1, V x14193, V 0, V (-1)], .gs v14190 c14191 (csz api_Row)]) hS14202 (i := 0) rfl rfl rfl rfl (by kernel_rfl) rfl rfl rfl rfl) ?_
  intro h14203 hS14204
  refine xf [(6, Pt b14200 0), (0, v13238), (3, v14190), (4, V x14192), (5, V x14193)] ?_
  refine sq ?_
  obtain ⟨o14207, ho14206, ho14183⟩ := obind ho14183
  refine W_join [0, 3, 4, 5, 6, 7] (fun l h => ∃ Z14209 : Zn, ∃ x14210 : List api_Row, ∃ x14215 : api_Row, ∃ x14216 : Bool, ∃ v14212 : Value, ∃ c14213 : List Value, ∃ b14214 : Nat, (x14210, x14215, x14216) = o14207 ∧ RCs (α := api_Row) Z14209 c14213 x14210 ∧ l = [(0, v13238), (3, v14212), (4, V x14192), (5, V x14193), (6, Pt b14214 0), (7, .bool x14216)] ∧ St hs [] Z (0, 0) Z14209 h [.gs v14212 c14213 (csz api_Row), .blk b14214 (K33 x14215)]) ?_ ?_
  rintro l h14217 ⟨Z14209, x14210, x14215, x14216, v14212, c14213, b14214, rfl, q14211, rfl, hS14218⟩
  try dsimp only at ho14183
  refine sq ?_
  obtain ⟨o14351, ho14350, ho14183⟩ := obind ho14183
  refine W_join [0, 3, 4, 5, 6, 7] (fun l h => ∃ Z14631 : Zn, ∃ x14632 : List api_Row, ∃ x14636 : Int, ∃ x14637 : Int, ∃ x14639 : api_Row, ∃ x14640 : Bool, ∃ v14634 : Value, ∃ c14635 : List Value, ∃ b14638 : Nat, (x14632, x14636, x14637, x14639, x14640) = o14351 ∧ RCs (α := api_Row) Z14631 c14635 x14632 ∧ l = [(0, v13238), (3, v14634), (4, V x14636), (5, V x14637), (6, Pt b14638 0), (7, .bool x14640)] ∧ St hs [] Z (0, 0) Z14631 h [.gs v14634 c14635 (csz api_Row), .blk b14638 (K33 x14639)]) ?_ ?_
  rintro l h14641 ⟨Z14631, x14632, x14636, x14637, x14639, x14640, v14634, c14635, b14638, rfl, q14633, rfl, hS14642⟩
  try dsimp only at ho14183
  refine sr r13_25 ?_
  refine xq 2 [(78, Pt b14638 2), (77, V x14637), (0, v13238), (3, v14634), (4, V x14636), (5, V x14637), (6, Pt b14638 0), (7, .bool x14640)] ?_
  refine r_ex1 rfl trivial (o_stb (vs := [V x14637]) (cells' := [V x14639.Kind, V x14639.From, V x14637, V x14639.Col]) (L' := [.gs v14634 c14635 (csz api_Row), .blk b14638 [V x14639.Kind, V x14639.From, V x14637, V x14639.Col]]) hS14642 (i := 1) rfl rfl rfl rfl (by kernel_rfl) rfl rfl rfl rfl) ?_
  intro h14643 hS14644
  refine xf [(0, v13238), (3, v14634), (4, V x14636), (5, V x14637), (6, Pt b14638 0), (7, .bool x14640)] ?_
  refine sq ?_
  obtain ⟨o14660, ho14659, ho14183⟩ := obind ho14183
  refine W_seqJoin0 [0, 3, 4, 5, 6] (fun l h => ∃ Z14675 : Zn, ∃ x14676 : List api_Row, ∃ x14681 : api_Row, ∃ v14678 : Value, ∃ c14679 : List Value, ∃ b14680 : Nat, (x14676, x14681) = o14660 ∧ RCs (α := api_Row) Z14675 c14679 x14676 ∧ l = [(0, v13238), (3, v14678), (4, V x14636), (5, V x14637), (6, Pt b14680 0)] ∧ St hs [] Z (0, 0) Z14675 h [.gs v14678 c14679 (csz api_Row), .blk b14680 (K33 x14681)]) (by kernel_rfl) ?_ ?_
  rintro l h14682 ⟨Z14675, x14676, x14681, v14678, c14679, b14680, rfl, q14677, rfl, hS14683⟩
  try dsimp only at ho14183
  refine rg r13_30 ?_
  refine xq 1 [(94, v14678), (0, v13238), (3, v14678), (4, V x14636), (5, V x14637), (6, Pt b14680 0)] ?_
  refine r_step rfl trivial (o_ldb (v := .agg #[V x14681.Kind, V x14681.From, V x14681.To, V x14681.Col]) hS14683 (i := 1) rfl rfl (by kernel_rfl)) ?_
  have q14687 : RCs (α := api_Row) Z14675 [V x14681.Kind, V x14681.From, V x14681.To, V x14681.Col] [x14681] := RCs.cons (cs := [V x14681.Kind, V x14681.From, V x14681.To, V x14681.Col]) rfl (RCs.nil0 _)
  refine r_row rfl trivial (o_bs (cells := [V x14681.Kind, V x14681.From, V x14681.To, V x14681.Col]) (s := 4) (by kernel_rfl)) (by kernel_rfl) hS14683 ?_
  intro v14684 h14685 hS14686
  replace hS14686 : St _ _ _ _ _ _ [.gs v14684 [V x14681.Kind, V x14681.From, V x14681.To, V x14681.Col] (csz api_Row), .gs v14678 c14679 (csz api_Row), .blk b14680 (K33 x14681)] := hS14686
  obtain ⟨hc14695, ho14183⟩ := chk ho14183
  refine r_ex3 rfl trivial (o_app (ys := [x14681]) (by_ := 32) hS14686 (i := 1) rfl q14677 ((hS14686).gnews (j := 0) rfl q14687) rfl rfl (by kernel_rfl) (by omega) (by omega)) ?_
  rintro v14690 c14691 h14692 ⟨q14694, hS14693⟩
  replace hS14693 : St _ _ _ _ _ _ [.gs v14684 [V x14681.Kind, V x14681.From, V x14681.To, V x14681.Col] (csz api_Row), .gs v14690 c14691 (csz api_Row), .blk b14680 (K33 x14681)] := hS14693
  refine xe 1 [(3, v14690), (0, v13238), (4, V x14636), (5, V x14637)] ?_
  exact ⟨n14196, Nat.lt_succ_self _, ⟨_, x14676 ++ [x14681], x14636, x14637, v14690, c14691, ho14183, q14694, rfl, ((hS14693.front 1 rfl).takeN 1)⟩⟩
  refine rg r13_26 ?_
  refine xq 2 [(80, Pt b14638 1), (79, v13238), (0, v13238), (3, v14634), (4, V x14636), (5, V x14637), (6, Pt b14638 0), (7, .bool x14640)] ?_
  refine r_step rfl trivial (o_ldb (v := V x14639.From) hS14644 (i := 1) rfl rfl (by kernel_rfl)) ?_
  obtain ⟨hc14661, ho14659⟩ := chk ho14659
  refine r_step rfl trivial (o_index rfl rfl (by kernel_rfl : slTy _ _ = some (csz api_Token)) (RS.based (q13237.mono hS14642.zle) (by omega)) hc14661.1 hc14661.2) ?_
  refine xq 1 [(83, .pointer (some (elemA v13238 x14639.From (csz api_Token) 0))), (0, v13238), (3, v14634), (4, V x14636), (5, V x14637), (6, Pt b14638 0), (7, .bool x14640)] ?_
  obtain ⟨x14662, hx14663, ho14659⟩ := obind ho14659
  obtain ⟨cs14664, hc14665, he14666⟩ := RS.elz (q13237.mono hS14642.zle) (i := x14639.From) hx14663
  obtain rfl := rc_api_Token hc14665
  refine r_step rfl trivial (o_lde (w := V x14662.Kind) (he14666 _ (hS14644.zin0 (Zle.refl _))) rfl (by kernel_rfl)) ?_
  rcases ifs ho14659 with ⟨hp14668, ho14659⟩ | ⟨hp14668, ho14659⟩
  refine r_step rfl trivial (o_cmp rfl rfl (c_eql_T hp14668)) ?_
  refine xf [(85, .bool true), (0, v13238), (3, v14634), (4, V x14636), (5, V x14637), (6, Pt b14638 0), (7, .bool x14640)] ?_
  refine cT 85 rfl ?_
  refine rg r13_27 ?_
  refine xq 1 [(86, Pt b14638 0), (0, v13238), (3, v14634), (4, V x14636), (5, V x14637), (6, Pt b14638 0)] ?_
  refine r_ex1 rfl trivial (o_stb (vs := [V 2]) (cells' := [V 2, V x14639.From, V x14637, V x14639.Col]) (L' := [.gs v14634 c14635 (csz api_Row), .blk b14638 [V 2, V x14639.From, V x14637, V x14639.Col]]) hS14644 (i := 1) rfl rfl rfl rfl (by kernel_rfl) rfl rfl rfl rfl) ?_
  intro h14669 hS14670
  refine xf [(0, v13238), (3, v14634), (4, V x14636), (5, V x14637), (6, Pt b14638 0)] ?_
  obtain rfl := Option.some.inj ho14659
  exact ⟨_, x14632, (⟨2, x14639.From, x14637, x14639.Col⟩ : api_Row), v14634, c14635, b14638, rfl, q14633, rfl, hS14670⟩
  refine r_step rfl trivial (o_cmp rfl rfl (c_eql_F hp14668)) ?_
  refine xf [(85, .bool false), (0, v13238), (3, v14634), (4, V x14636), (5, V x14637), (6, Pt b14638 0), (7, .bool x14640)] ?_
  refine cF 85 rfl ?_
  refine sr r13_28 ?_
  refine xq 2 [(88, .bool x14640), (0, v13238), (3, v14634), (4, V x14636), (5, V x14637), (6, Pt b14638 0)] ?_
  rcases ifs ho14659 with ⟨hp14671, ho14659⟩ | ⟨hp14671, ho14659⟩
  refine r_setb (t := 88) rfl hp14671 ?_
  refine xq 1 [(89, Pt b14638 0), (88, .bool true), (0, v13238), (3, v14634), (4, V x14636), (5, V x14637), (6, Pt b14638 0)] ?_
  refine r_step rfl rfl (o_ldb (v := V x14639.Kind) hS14644 (i := 1) rfl rfl (by kernel_rfl)) ?_
  rcases ifs ho14659 with ⟨hp14672, ho14659⟩ | ⟨hp14672, ho14659⟩
  refine r_step rfl rfl (o_cmp rfl rfl (c_neq_F hp14672)) ?_
  refine xe 1 [(92, .bool false), (0, v13238), (3, v14634), (4, V x14636), (5, V x14637), (6, Pt b14638 0)] ?_
  refine kF 92 rfl ?_
  obtain rfl := Option.some.inj ho14659
  exact ⟨_, x14632, (⟨x14639.Kind, x14639.From, x14637, x14639.Col⟩ : api_Row), v14634, c14635, b14638, rfl, q14633, rfl, hS14644⟩
  refine r_step rfl rfl (o_cmp rfl rfl (c_neq_T hp14672)) ?_
  refine xe 1 [(92, .bool true), (0, v13238), (3, v14634), (4, V x14636), (5, V x14637), (6, Pt b14638 0)] ?_
  refine cT 92 rfl ?_
  refine rg r13_29 ?_
  refine xq 1 [(93, Pt b14638 0), (0, v13238), (3, v14634), (4, V x14636), (5, V x14637), (6, Pt b14638 0)] ?_
  refine r_ex1 rfl trivial (o_stb (vs := [V 3]) (cells' := [V 3, V x14639.From, V x14637, V x14639.Col]) (L' := [.gs v14634 c14635 (csz api_Row), .blk b14638 [V 3, V x14639.From, V x14637, V x14639.Col]]) hS14644 (i := 1) rfl rfl rfl rfl (by kernel_rfl) rfl rfl rfl rfl) ?_
  intro h14673 hS14674
  refine xf [(0, v13238), (3, v14634), (4, V x14636), (5, V x14637), (6, Pt b14638 0)] ?_
  obtain rfl := Option.some.inj ho14659
  exact ⟨_, x14632, (⟨3, x14639.From, x14637, x14639.Col⟩ : api_Row), v14634, c14635, b14638, rfl, q14633, rfl, hS14674⟩
  refine r_setb (t := 88) rfl (Bool.eq_false_iff.2 hp14671) ?_
  refine xe 4 [(92, .bool false), (0, v13238), (3, v14634), (4, V x14636), (5, V x14637), (6, Pt b14638 0)] ?_
  refine kF 92 rfl ?_
  obtain rfl := Option.some.inj ho14659
  exact ⟨_, x14632, (⟨x14639.Kind, x14639.From, x14637, x14639.Col⟩ : api_Row), v14634, c14635, b14638, rfl, q14633, rfl, hS14644⟩
  refine bk 2 ?_
  refine lp [0, 3, 4, 5, 6, 7] (fun n l h => ∃ Z14352 : Zn, ∃ x14353 : List api_Row, ∃ x14357 : Int, ∃ x14358 : Int, ∃ x14360 : api_Row, ∃ x14361 : Bool, ∃ v14355 : Value, ∃ c14356 : List Value, ∃ b14359 : Nat, correctorref9_Rows_l1 F a0 n x14353 x14357 x14358 x14360 x14361 = some o14351 ∧ RCs (α := api_Row) Z14352 c14356 x14353 ∧ l = [(0, v13238), (3, v14355), (4, V x14357), (5, V x14358), (6, Pt b14359 0), (7, .bool x14361)] ∧ St hs [] Z (0, 0) Z14352 h [.gs v14355 c14356 (csz api_Row), .blk b14359 (K33 x14360)]) F ⟨_, x14210, x14192, x14193, x14215, x14216, v14212, c14213, b14214, ho14350, q14211, rfl, hS14218⟩ ?_
  rintro n14364 l h14362 ⟨Z14352, x14353, x14357, x14358, x14360, x14361, v14355, c14356, b14359, ho14350, q14354, rfl, hS14363⟩
  rcases n14364 with _ | n14364
  cases (show none = some o14351 from ho14350)
  rw [correctorref9_Rows_l1] at ho14350
  refine sq ?_
  refine sr r13_7 ?_
  refine xq 2 [(18, v13238), (17, V x14358), (0, v13238), (3, v14355), (4, V x14357), (5, V x14358), (6, Pt b14359 0), (7, .bool x14361)] ?_
  refine r_step rfl trivial (o_len rfl (RS.len (q13237.mono hS14363.zle)) ⟨_, Go.Proofs.Try.underlying27⟩) ?_
  rcases ifs ho14350 with ⟨hp14367, ho14350⟩ | ⟨hp14367, ho14350⟩
  refine r_step rfl trivial (o_cmp rfl rfl (c_lss_T hp14367)) ?_
  refine xf [(20, .bool true), (0, v13238), (3, v14355), (4, V x14357), (5, V x14358), (6, Pt b14359 0), (7, .bool x14361)] ?_
  refine kT 20 rfl ?_
  refine bk 3 ?_
  refine sr r13_8 ?_
  refine xq 2 [(22, V x14358), (21, v13238), (0, v13238), (3, v14355), (4, V x14357), (5, V x14358), (6, Pt b14359 0), (7, .bool x14361)] ?_
  obtain ⟨hc14368, ho14350⟩ := chk ho14350
  refine r_step rfl trivial (o_index rfl rfl (by kernel_rfl : slTy _ _ = some (csz api_Token)) (RS.based (q13237.mono hS14363.zle) (by omega)) hc14368.1 hc14368.2) ?_
  refine xq 1 [(24, .pointer (some (elemA v13238 x14358 (csz api_Token) 0))), (0, v13238), (3, v14355), (4, V x14357), (5, V x14358), (6, Pt b14359 0), (7, .bool x14361)] ?_
  obtain ⟨x14369, hx14370, ho14350⟩ := obind ho14350
  obtain ⟨cs14371, hc14372, he14373⟩ := RS.elz (q13237.mono hS14363.zle) (i := x14358) hx14370
  obtain rfl := rc_api_Token hc14372
  refine r_step rfl trivial (o_lde (w := V x14369.Kind) (he14373 _ (hS14363.zin0 (Zle.refl _))) rfl (by kernel_rfl)) ?_
  refine xe 1 [(8, V x14369.Kind), (0, v13238), (3, v14355), (4, V x14357), (5, V x14358), (6, Pt b14359 0), (7, .bool x14361)] ?_
  refine sq ?_
  obtain ⟨o14425, ho14424, ho14350⟩ := obind ho14350
  refine W_join [0, 3, 4, 5, 6, 7, 8] (fun l h => ∃ Z14475 : Zn, ∃ x14476 : List api_Row, ∃ x14481 : api_Row, ∃ v14478 : Value, ∃ c14479 : List Value, ∃ b14480 : Nat, (x14476, x14481) = o14425 ∧ RCs (α := api_Row) Z14475 c14479 x14476 ∧ l = [(0, v13238), (3, v14478), (4, V x14357), (5, V x14358), (6, Pt b14480 0), (7, .bool x14361), (8, V x14369.Kind)] ∧ St hs [] Z (0, 0) Z14475 h [.gs v14478 c14479 (csz api_Row), .blk b14480 (K33 x14481)]) ?_ ?_
  rintro l h14482 ⟨Z14475, x14476, x14481, v14478, c14479, b14480, rfl, q14477, rfl, hS14483⟩
  try dsimp only at ho14350
  refine sq ?_
  obtain ⟨o14524, ho14523, ho14350⟩ := obind ho14350
  refine W_join [0, 3, 4, 5, 6, 7, 8] (fun l h => ∃ Z14597 : Zn, ∃ x14598 : List api_Row, ∃ x14602 : Int, ∃ x14604 : api_Row, ∃ v14600 : Value, ∃ c14601 : List Value, ∃ b14603 : Nat, (x14598, x14602, x14604) = o14524 ∧ RCs (α := api_Row) Z14597 c14601 x14598 ∧ l = [(0, v13238), (3, v14600), (4, V x14602), (5, V x14358), (6, Pt b14603 0), (7, .bool x14361), (8, V x14369.Kind)] ∧ St hs [] Z (0, 0) Z14597 h [.gs v14600 c14601 (csz api_Row), .blk b14603 (K33 x14604)]) ?_ ?_
  rintro l h14605 ⟨Z14597, x14598, x14602, x14604, v14600, c14601, b14603, rfl, q14599, rfl, hS14606⟩
  try dsimp only at ho14350
  refine sr r13_23 ?_
  refine xe 3 [(5, V (w64 (x14358 + 1))), (0, v13238), (3, v14600), (4, V x14602), (6, Pt b14603 0), (7, .bool x14361), (8, V x14369.Kind)] ?_
  refine sr r13_24 ?_
  refine xq 1 [(71, V x14369.Kind), (5, V (w64 (x14358 + 1))), (0, v13238), (3, v14600), (4, V x14602), (6, Pt b14603 0), (7, .bool x14361), (8, V x14369.Kind)] ?_
  rcases ifs ho14350 with ⟨hp14607, ho14350⟩ | ⟨hp14607, ho14350⟩
  refine r_step rfl trivial (o_cmp rfl rfl (c_eql_T hp14607)) ?_
  refine xe 4 [(76, .bool true), (5, V (w64 (x14358 + 1))), (0, v13238), (3, v14600), (4, V x14602), (6, Pt b14603 0), (7, .bool x14361)] ?_
  refine cT 76 rfl ?_
  refine xt 2 ?_
  refine blkX_miss rfl ?_
  refine blkX_hit ?_
  obtain rfl := Option.some.inj ho14350
  exact ⟨_, x14598, x14602, w64 (x14358 + 1), x14604, x14361, v14600, c14601, b14603, rfl, q14599, rfl, hS14606⟩
  refine r_step rfl trivial (o_cmp rfl rfl (c_eql_F hp14607)) ?_
  refine xq 2 [(74, V x14369.Kind), (73, .bool false), (5, V (w64 (x14358 + 1))), (0, v13238), (3, v14600), (4, V x14602), (6, Pt b14603 0), (7, .bool x14361)] ?_
  rcases ifs ho14350 with ⟨hp14608, ho14350⟩ | ⟨hp14608, ho14350⟩
  refine r_step rfl rfl (o_cmp rfl rfl (c_eql_T hp14608)) ?_
  refine xe 1 [(76, .bool true), (5, V (w64 (x14358 + 1))), (0, v13238), (3, v14600), (4, V x14602), (6, Pt b14603 0), (7, .bool x14361)] ?_
  refine cT 76 rfl ?_
  refine xt 2 ?_
  refine blkX_miss rfl ?_
  refine blkX_hit ?_
  obtain rfl := Option.some.inj ho14350
  exact ⟨_, x14598, x14602, w64 (x14358 + 1), x14604, x14361, v14600, c14601, b14603, rfl, q14599, rfl, hS14606⟩
  refine r_step rfl rfl (o_cmp rfl rfl (c_eql_F hp14608)) ?_
  refine xe 1 [(76, .bool false), (5, V (w64 (x14358 + 1))), (0, v13238), (3, v14600), (4, V x14602), (6, Pt b14603 0), (7, .bool x14361)] ?_
  refine kF 76 rfl ?_
  exact ⟨n14364, Nat.lt_succ_self _, ⟨_, x14598, x14602, w64 (x14358 + 1), x14604, x14361, v14600, c14601, b14603, ho14350, q14599, rfl, hS14606⟩⟩
  refine sr r13_13 ?_
  refine xe 1 [(54, V x14369.Kind), (0, v13238), (3, v14478), (4, V x14357), (5, V x14358), (6, Pt b14480 0), (7, .bool x14361), (8, V x14369.Kind)] ?_
  refine bk 4 ?_
  refine sq ?_
  obtain ⟨o14528, ho14527, ho14523⟩ := obind ho14523
  refine W_join [0, 3, 4, 5, 6, 7, 8, 54, 55] (fun l h => ∃ Z14531 : Zn, ∃ x14532 : List api_Row, ∃ x14537 : api_Row, ∃ x14538 : Bool, ∃ v14534 : Value, ∃ c14535 : List Value, ∃ b14536 : Nat, (x14532, x14537, x14538) = o14528 ∧ RCs (α := api_Row) Z14531 c14535 x14532 ∧ l = [(0, v13238), (3, v14534), (4, V x14357), (5, V x14358), (6, Pt b14536 0), (7, .bool x14361), (8, V x14369.Kind), (54, V x14369.Kind), (55, .bool x14538)] ∧ St hs [] Z (0, 0) Z14531 h [.gs v14534 c14535 (csz api_Row), .blk b14536 (K33 x14537)]) ?_ ?_
  rintro l h14539 ⟨Z14531, x14532, x14537, x14538, v14534, c14535, b14536, rfl, q14533, rfl, hS14540⟩
  try dsimp only at ho14523
  rcases ifs ho14523 with ⟨hp14541, ho14523⟩ | ⟨hp14541, ho14523⟩
  refine W_condT (x := .tmp 55) (by kernel_rfl) rfl hp14541 ?_
  refine rg r13_16 ?_
  refine xe 3 [(4, V (w64 (x14357 + 1))), (0, v13238), (3, v14534), (5, V x14358), (6, Pt b14536 0), (7, .bool x14361), (8, V x14369.Kind)] ?_
  obtain rfl := Option.some.inj ho14523
  exact ⟨_, x14532, w64 (x14357 + 1), x14537, v14534, c14535, b14536, rfl, q14533, rfl, hS14540⟩
  refine W_condF (x := .tmp 55) (by kernel_rfl) rfl (Bool.eq_false_iff.2 hp14541) ?_
  refine sq ?_
  obtain ⟨o14545, ho14544, ho14523⟩ := obind ho14523
  refine W_join [0, 3, 4, 5, 6, 7, 8, 54, 60] (fun l h => ∃ Z14548 : Zn, ∃ x14549 : List api_Row, ∃ x14554 : api_Row, ∃ x14555 : Bool, ∃ v14551 : Value, ∃ c14552 : List Value, ∃ b14553 : Nat, (x14549, x14554, x14555) = o14545 ∧ RCs (α := api_Row) Z14548 c14552 x14549 ∧ l = [(0, v13238), (3, v14551), (4, V x14357), (5, V x14358), (6, Pt b14553 0), (7, .bool x14361), (8, V x14369.Kind), (54, V x14369.Kind), (60, .bool x14555)] ∧ St hs [] Z (0, 0) Z14548 h [.gs v14551 c14552 (csz api_Row), .blk b14553 (K33 x14554)]) ?_ ?_
  rintro l h14556 ⟨Z14548, x14549, x14554, x14555, v14551, c14552, b14553, rfl, q14550, rfl, hS14557⟩
  try dsimp only at ho14523
  rcases ifs ho14523 with ⟨hp14558, ho14523⟩ | ⟨hp14558, ho14523⟩
  refine W_condT (x := .tmp 60) (by kernel_rfl) rfl hp14558 ?_
  refine rg r13_19 ?_
  refine xe 4 [(4, V (imax (w64 (x14357 - 1)) 0)), (0, v13238), (3, v14551), (5, V x14358), (6, Pt b14553 0), (7, .bool x14361), (8, V x14369.Kind)] ?_
  obtain rfl := Option.some.inj ho14523
  exact ⟨_, x14549, imax (w64 (x14357 - 1)) 0, x14554, v14551, c14552, b14553, rfl, q14550, rfl, hS14557⟩
  refine W_condF (x := .tmp 60) (by kernel_rfl) rfl (Bool.eq_false_iff.2 hp14558) ?_
  refine sq ?_
  obtain ⟨o14562, ho14561, ho14523⟩ := obind ho14523
  refine W_join [0, 3, 4, 5, 6, 7, 8, 66] (fun l h => ∃ Z14565 : Zn, ∃ x14566 : List api_Row, ∃ x14571 : api_Row, ∃ x14572 : Bool, ∃ v14568 : Value, ∃ c14569 : List Value, ∃ b14570 : Nat, (x14566, x14571, x14572) = o14562 ∧ RCs (α := api_Row) Z14565 c14569 x14566 ∧ l = [(0, v13238), (3, v14568), (4, V x14357), (5, V x14358), (6, Pt b14570 0), (7, .bool x14361), (8, V x14369.Kind), (66, .bool x14572)] ∧ St hs [] Z (0, 0) Z14565 h [.gs v14568 c14569 (csz api_Row), .blk b14570 (K33 x14571)]) ?_ ?_
  rintro l h14573 ⟨Z14565, x14566, x14571, x14572, v14568, c14569, b14570, rfl, q14567, rfl, hS14574⟩
  try dsimp only at ho14523
  rcases ifs ho14523 with ⟨hp14575, ho14523⟩ | ⟨hp14575, ho14523⟩
  refine W_condT (x := .tmp 66) (by kernel_rfl) rfl hp14575 ?_
  refine rg r13_22 ?_
  refine xe 1 [(4, V 0), (0, v13238), (3, v14568), (5, V x14358), (6, Pt b14570 0), (7, .bool x14361), (8, V x14369.Kind)] ?_
  obtain rfl := Option.some.inj ho14523
  exact ⟨_, x14566, 0, x14571, v14568, c14569, b14570, rfl, q14567, rfl, hS14574⟩
  refine W_condF (x := .tmp 66) (by kernel_rfl) rfl (Bool.eq_false_iff.2 hp14575) ?_
  refine sk ?_
  obtain rfl := Option.some.inj ho14523
  exact ⟨_, x14566, x14357, x14571, v14568, c14569, b14570, rfl, q14567, rfl, hS14574⟩
  refine sr r13_20 ?_
  rcases ifs ho14561 with ⟨hp14563, ho14561⟩ | ⟨hp14563, ho14561⟩
  refine r_step rfl trivial (o_cmp rfl rfl (c_eql_T hp14563)) ?_
  refine xe 1 [(66, .bool true), (0, v13238), (3, v14551), (4, V x14357), (5, V x14358), (6, Pt b14553 0), (7, .bool x14361), (8, V x14369.Kind), (54, V x14369.Kind)] ?_
  refine kT 66 rfl ?_
  obtain rfl := Option.some.inj ho14561
  exact ⟨_, x14549, x14554, true, v14551, c14552, b14553, rfl, q14550, rfl, hS14557⟩
  refine r_step rfl trivial (o_cmp rfl rfl (c_eql_F hp14563)) ?_
  refine xe 1 [(66, .bool false), (0, v13238), (3, v14551), (4, V x14357), (5, V x14358), (6, Pt b14553 0), (7, .bool x14361), (8, V x14369.Kind), (54, V x14369.Kind)] ?_
  refine cF 66 rfl ?_
  refine rg r13_21 ?_
  rcases ifs ho14561 with ⟨hp14564, ho14561⟩ | ⟨hp14564, ho14561⟩
  refine r_step rfl trivial (o_cmp rfl rfl (c_eql_T hp14564)) ?_
  refine xe 1 [(66, .bool true), (0, v13238), (3, v14551), (4, V x14357), (5, V x14358), (6, Pt b14553 0), (7, .bool x14361), (8, V x14369.Kind)] ?_
  obtain rfl := Option.some.inj ho14561
  exact ⟨_, x14549, x14554, true, v14551, c14552, b14553, rfl, q14550, rfl, hS14557⟩
  refine r_step rfl trivial (o_cmp rfl rfl (c_eql_F hp14564)) ?_
  refine xe 1 [(66, .bool false), (0, v13238), (3, v14551), (4, V x14357), (5, V x14358), (6, Pt b14553 0), (7, .bool x14361), (8, V x14369.Kind)] ?_
  obtain rfl := Option.some.inj ho14561
  exact ⟨_, x14549, x14554, false, v14551, c14552, b14553, rfl, q14550, rfl, hS14557⟩
  refine sr r13_17 ?_
  rcases ifs ho14544 with ⟨hp14546, ho14544⟩ | ⟨hp14546, ho14544⟩
  refine r_step rfl trivial (o_cmp rfl rfl (c_eql_T hp14546)) ?_
  refine xe 1 [(60, .bool true), (0, v13238), (3, v14534), (4, V x14357), (5, V x14358), (6, Pt b14536 0), (7, .bool x14361), (8, V x14369.Kind), (54, V x14369.Kind)] ?_
  refine kT 60 rfl ?_
  obtain rfl := Option.some.inj ho14544
  exact ⟨_, x14532, x14537, true, v14534, c14535, b14536, rfl, q14533, rfl, hS14540⟩
  refine r_step rfl trivial (o_cmp rfl rfl (c_eql_F hp14546)) ?_
  refine xe 1 [(60, .bool false), (0, v13238), (3, v14534), (4, V x14357), (5, V x14358), (6, Pt b14536 0), (7, .bool x14361), (8, V x14369.Kind), (54, V x14369.Kind)] ?_
  refine cF 60 rfl ?_
  refine rg r13_18 ?_
  rcases ifs ho14544 with ⟨hp14547, ho14544⟩ | ⟨hp14547, ho14544⟩
  refine r_step rfl trivial (o_cmp rfl rfl (c_eql_T hp14547)) ?_
  refine xe 1 [(60, .bool true), (0, v13238), (3, v14534), (4, V x14357), (5, V x14358), (6, Pt b14536 0), (7, .bool x14361), (8, V x14369.Kind), (54, V x14369.Kind)] ?_
  obtain rfl := Option.some.inj ho14544
  exact ⟨_, x14532, x14537, true, v14534, c14535, b14536, rfl, q14533, rfl, hS14540⟩
  refine r_step rfl trivial (o_cmp rfl rfl (c_eql_F hp14547)) ?_
  refine xe 1 [(60, .bool false), (0, v13238), (3, v14534), (4, V x14357), (5, V x14358), (6, Pt b14536 0), (7, .bool x14361), (8, V x14369.Kind), (54, V x14369.Kind)] ?_
  obtain rfl := Option.some.inj ho14544
  exact ⟨_, x14532, x14537, false, v14534, c14535, b14536, rfl, q14533, rfl, hS14540⟩
  refine sr r13_14 ?_
  rcases ifs ho14527 with ⟨hp14529, ho14527⟩ | ⟨hp14529, ho14527⟩
  refine r_step rfl trivial (o_cmp rfl rfl (c_eql_T hp14529)) ?_
  refine xe 1 [(55, .bool true), (54, V x14369.Kind), (0, v13238), (3, v14478), (4, V x14357), (5, V x14358), (6, Pt b14480 0), (7, .bool x14361), (8, V x14369.Kind)] ?_
  refine kT 55 rfl ?_
  obtain rfl := Option.some.inj ho14527
  exact ⟨_, x14476, x14481, true, v14478, c14479, b14480, rfl, q14477, rfl, hS14483⟩
  refine r_step rfl trivial (o_cmp rfl rfl (c_eql_F hp14529)) ?_
  refine xe 1 [(55, .bool false), (54, V x14369.Kind), (0, v13238), (3, v14478), (4, V x14357), (5, V x14358), (6, Pt b14480 0), (7, .bool x14361), (8, V x14369.Kind)] ?_
  refine cF 55 rfl ?_
  refine rg r13_15 ?_
  rcases ifs ho14527 with ⟨hp14530, ho14527⟩ | ⟨hp14530, ho14527⟩
  refine r_step rfl trivial (o_cmp rfl rfl (c_eql_T hp14530)) ?_
  refine xe 1 [(55, .bool true), (54, V x14369.Kind), (0, v13238), (3, v14478), (4, V x14357), (5, V x14358), (6, Pt b14480 0), (7, .bool x14361), (8, V x14369.Kind)] ?_
  obtain rfl := Option.some.inj ho14527
  exact ⟨_, x14476, x14481, true, v14478, c14479, b14480, rfl, q14477, rfl, hS14483⟩
  refine r_step rfl trivial (o_cmp rfl rfl (c_eql_F hp14530)) ?_
  refine xe 1 [(55, .bool false), (54, V x14369.Kind), (0, v13238), (3, v14478), (4, V x14357), (5, V x14358), (6, Pt b14480 0), (7, .bool x14361), (8, V x14369.Kind)] ?_
  obtain rfl := Option.some.inj ho14527
  exact ⟨_, x14476, x14481, false, v14478, c14479, b14480, rfl, q14477, rfl, hS14483⟩
  refine sr r13_9 ?_
  refine xq 1 [(26, Pt b14359 3), (8, V x14369.Kind), (0, v13238), (3, v14355), (4, V x14357), (5, V x14358), (6, Pt b14359 0), (7, .bool x14361)] ?_
  refine r_step rfl trivial (o_ldb (v := V x14360.Col) hS14363 (i := 1) rfl rfl (by kernel_rfl)) ?_
  rcases ifs ho14424 with ⟨hp14434, ho14424⟩ | ⟨hp14434, ho14424⟩
  refine r_step rfl trivial (o_cmp rfl rfl (c_lss_T hp14434)) ?_
  refine xq 2 [(30, V x14369.Kind), (29, .bool true), (8, V x14369.Kind), (0, v13238), (3, v14355), (4, V x14357), (5, V x14358), (6, Pt b14359 0), (7, .bool x14361)] ?_
  obtain ⟨r14435, hx14436, ho14424⟩ := obind ho14424
  obtain ⟨v14437, h14438, hcl14439, hSc14440, rfl⟩ := correctorref6_Counts_ok F hS14363.inv  hx14436
  have hS14441 := St.call (A := []) (B := [.gs v14355 c14356 (csz api_Row), .blk b14359 (K33 x14360)]) hS14363 hSc14440
  replace hS14441 : St _ _ _ _ _ _ [.gs v14355 c14356 (csz api_Row), .blk b14359 (K33 x14360)] := hS14441
  refine r_step rfl rfl (o_call hcl14439 rfl rfl rfl) ?_
  refine xe 1 [(32, .bool r14435), (8, V x14369.Kind), (0, v13238), (3, v14355), (4, V x14357), (5, V x14358), (6, Pt b14359 0), (7, .bool x14361)] ?_
  rcases ifs ho14424 with ⟨hp14442, ho14424⟩ | ⟨hp14442, ho14424⟩
  refine W_condT (x := .tmp 32) (by kernel_rfl) rfl hp14442 ?_
  refine srF r13_10 hS14441 ?_
  intro bs14443 h14444 hlv14446 hS14445
  refine yq 2 [(34, V x14358), (33, v13238), (8, V x14369.Kind), (0, v13238), (3, v14355), (4, V x14357), (5, V x14358), (6, Pt b14359 0), (7, .bool x14361)] ?_
  obtain ⟨hc14447, ho14424⟩ := chk ho14424
  refine e_val rfl trivial (o_index rfl rfl (by kernel_rfl : slTy _ _ = some (csz api_Token)) (RS.based (q13237.mono hS14363.zle) (by omega)) hc14447.1 hc14447.2) ?_
  refine yq 1 [(36, .pointer (some (elemA v13238 x14358 (csz api_Token) 1))), (8, V x14369.Kind), (0, v13238), (3, v14355), (4, V x14357), (5, V x14358), (6, Pt b14359 0), (7, .bool x14361)] ?_
  obtain ⟨x14448, hx14449, ho14424⟩ := obind ho14424
  obtain ⟨cs14450, hc14451, he14452⟩ := RS.elz (q13237.mono hS14363.zle) (i := x14358) hx14449
  obtain rfl := rc_api_Token hc14451
  refine e_lookZ rfl rfl trivial (fun h2 hz => o_lde (w := V x14448.From) (he14452 h2 hz) rfl (by kernel_rfl)) (hS14445.zin0 (Zle.refl _)) (same1 (v := V x14448.From) trivial) trivial ?_
  refine yq 2 [(39, Pt b14359 1), (38, v13238), (37, V x14448.From), (8, V x14369.Kind), (0, v13238), (3, v14355), (4, V x14357), (5, V x14358), (6, Pt b14359 0), (7, .bool x14361)] ?_
  have lt14454 : b14359 < bs14443 := hlv14446.1 _ (List.mem_of_getElem? (i := 1) rfl) _ (by simp [Itm.ids])
  refine e_lookB rfl trivial rfl (by show b14359 < _; omega) (same1 (v := V x14360.From) trivial) (o_ldb (v := V x14360.From) hS14445 (i := 1) rfl rfl (by kernel_rfl)) trivial ?_
  obtain ⟨hc14455, ho14424⟩ := chk ho14424
  refine e_val rfl trivial (o_index rfl rfl (by kernel_rfl : slTy _ _ = some (csz api_Token)) (RS.based (q13237.mono hS14363.zle) (by omega)) hc14455.1 hc14455.2) ?_
  refine yq 1 [(42, .pointer (some (elemA v13238 x14360.From (csz api_Token) 1))), (37, V x14448.From), (8, V x14369.Kind), (0, v13238), (3, v14355), (4, V x14357), (5, V x14358), (6, Pt b14359 0), (7, .bool x14361)] ?_
  obtain ⟨x14456, hx14457, ho14424⟩ := obind ho14424
  obtain ⟨cs14458, hc14459, he14460⟩ := RS.elz (q13237.mono hS14363.zle) (i := x14360.From) hx14457
  obtain rfl := rc_api_Token hc14459
  refine e_lookZ rfl rfl trivial (fun h2 hz => o_lde (w := V x14456.From) (he14460 h2 hz) rfl (by kernel_rfl)) (hS14445.zin0 (Zle.refl _)) (same1 (v := V x14456.From) trivial) trivial ?_
  refine yq 2 [(45, Pt b14359 3), (44, V (w64 (x14448.From - x14456.From))), (8, V x14369.Kind), (0, v13238), (3, v14355), (4, V x14357), (5, V x14358), (6, Pt b14359 0), (7, .bool x14361)] ?_
  have hF14464 : St _ _ _ _ _ _ ([.blk b14359 (K33 x14360)] ++ [.gs v14355 c14356 (csz api_Row)]) := (hS14445.front 1 rfl)
  refine e_mk1 rfl trivial hF14464 (o_stb (vs := [V (w64 (x14448.From - x14456.From))]) (cells' := [V x14360.Kind, V x14360.From, V x14360.To, V (w64 (x14448.From - x14456.From))]) (L' := [.blk b14359 [V x14360.Kind, V x14360.From, V x14360.To, V (w64 (x14448.From - x14456.From))]]) hF14464.sub (i := 0) rfl rfl rfl rfl (by kernel_rfl) rfl rfl rfl rfl) (Zle.refl _) (.keep trivial (.drop (by decide) (.keep trivial .nil))) ?_
  intro h14462 hS14463
  refine yq 1 [(46, Pt b14359 0), (8, V x14369.Kind), (0, v13238), (3, v14355), (4, V x14357), (5, V x14358), (6, Pt b14359 0), (7, .bool x14361)] ?_
  have hF14467 : St _ _ _ _ _ _ ([.blk b14359 [V x14360.Kind, V x14360.From, V x14360.To, V (w64 (x14448.From - x14456.From))]] ++ [.gs v14355 c14356 (csz api_Row)]) := (hS14463.front 0 rfl)
  refine e_mk1 rfl trivial hF14467 (o_stb (vs := [V 5]) (cells' := [V 5, V x14360.From, V x14360.To, V (w64 (x14448.From - x14456.From))]) (L' := [.blk b14359 [V 5, V x14360.From, V x14360.To, V (w64 (x14448.From - x14456.From))]]) hF14467.sub (i := 0) rfl rfl rfl rfl (by kernel_rfl) rfl rfl rfl rfl) (Zle.refl _) (.keep trivial (.drop (by decide) (.keep trivial .nil))) ?_
  intro h14465 hS14466
  refine yf [(8, V x14369.Kind), (0, v13238), (3, v14355), (4, V x14357), (5, V x14358), (6, Pt b14359 0), (7, .bool x14361)] ?_
  have hS14468 := hS14466.unres
  refine sr r13_11 ?_
  refine xq 1 [(47, V x14369.Kind), (8, V x14369.Kind), (0, v13238), (3, v14355), (4, V x14357), (5, V x14358), (6, Pt b14359 0), (7, .bool x14361)] ?_
  rcases ifs ho14424 with ⟨hp14469, ho14424⟩ | ⟨hp14469, ho14424⟩
  refine r_step rfl trivial (o_cmp rfl rfl (c_eql_T hp14469)) ?_
  refine xe 4 [(52, .bool true), (8, V x14369.Kind), (0, v13238), (3, v14355), (4, V x14357), (5, V x14358), (6, Pt b14359 0), (7, .bool x14361)] ?_
  refine cT 52 rfl ?_
  refine rg r13_12 ?_
  refine xq 1 [(53, Pt b14359 0), (8, V x14369.Kind), (0, v13238), (3, v14355), (4, V x14357), (5, V x14358), (6, Pt b14359 0), (7, .bool x14361)] ?_
  refine r_ex1 rfl trivial (o_stb (vs := [V 4]) (cells' := [V 4, V x14360.From, V x14360.To, V (w64 (x14448.From - x14456.From))]) (L' := [.blk b14359 [V 4, V x14360.From, V x14360.To, V (w64 (x14448.From - x14456.From))], .gs v14355 c14356 (csz api_Row)]) hS14468 (i := 0) rfl rfl rfl rfl (by kernel_rfl) rfl rfl rfl rfl) ?_
  intro h14470 hS14471
  refine xf [(8, V x14369.Kind), (0, v13238), (3, v14355), (4, V x14357), (5, V x14358), (6, Pt b14359 0), (7, .bool x14361)] ?_
  obtain rfl := Option.some.inj ho14424
  exact ⟨_, x14353, (⟨4, x14360.From, x14360.To, w64 (x14448.From - x14456.From)⟩ : api_Row), v14355, c14356, b14359, rfl, q14354, rfl, ((hS14471.front 0 rfl).front 1 rfl)⟩
  refine r_step rfl trivial (o_cmp rfl rfl (c_eql_F hp14469)) ?_
  refine xq 2 [(50, V x14369.Kind), (49, .bool false), (8, V x14369.Kind), (0, v13238), (3, v14355), (4, V x14357), (5, V x14358), (6, Pt b14359 0), (7, .bool x14361)] ?_
  rcases ifs ho14424 with ⟨hp14472, ho14424⟩ | ⟨hp14472, ho14424⟩
  refine r_step rfl rfl (o_cmp rfl rfl (c_eql_T hp14472)) ?_
  refine xe 1 [(52, .bool true), (8, V x14369.Kind), (0, v13238), (3, v14355), (4, V x14357), (5, V x14358), (6, Pt b14359 0), (7, .bool x14361)] ?_
  refine cT 52 rfl ?_
  refine rg r13_12 ?_
  refine xq 1 [(53, Pt b14359 0), (8, V x14369.Kind), (0, v13238), (3, v14355), (4, V x14357), (5, V x14358), (6, Pt b14359 0), (7, .bool x14361)] ?_
  refine r_ex1 rfl trivial (o_stb (vs := [V 4]) (cells' := [V 4, V x14360.From, V x14360.To, V (w64 (x14448.From - x14456.From))]) (L' := [.blk b14359 [V 4, V x14360.From, V x14360.To, V (w64 (x14448.From - x14456.From))], .gs v14355 c14356 (csz api_Row)]) hS14468 (i := 0) rfl rfl rfl rfl (by kernel_rfl) rfl rfl rfl rfl) ?_
  intro h14473 hS14474
  refine xf [(8, V x14369.Kind), (0, v13238), (3, v14355), (4, V x14357), (5, V x14358), (6, Pt b14359 0), (7, .bool x14361)] ?_
  obtain rfl := Option.some.inj ho14424
  exact ⟨_, x14353, (⟨4, x14360.From, x14360.To, w64 (x14448.From - x14456.From)⟩ : api_Row), v14355, c14356, b14359, rfl, q14354, rfl, ((hS14474.front 0 rfl).front 1 rfl)⟩
  refine r_step rfl rfl (o_cmp rfl rfl (c_eql_F hp14472)) ?_
  refine xe 1 [(52, .bool false), (8, V x14369.Kind), (0, v13238), (3, v14355), (4, V x14357), (5, V x14358), (6, Pt b14359 0), (7, .bool x14361)] ?_
  refine kF 52 rfl ?_
  obtain rfl := Option.some.inj ho14424
  exact ⟨_, x14353, (⟨5, x14360.From, x14360.To, w64 (x14448.From - x14456.From)⟩ : api_Row), v14355, c14356, b14359, rfl, q14354, rfl, ((hS14468.front 0 rfl).front 1 rfl)⟩
  refine W_condF (x := .tmp 32) (by kernel_rfl) rfl (Bool.eq_false_iff.2 hp14442) ?_
  refine sk ?_
  obtain rfl := Option.some.inj ho14424
  exact ⟨_, x14353, x14360, v14355, c14356, b14359, rfl, q14354, rfl, hS14441⟩
  refine r_step rfl trivial (o_cmp rfl rfl (c_lss_F hp14434)) ?_
  refine xe 4 [(32, .bool false), (8, V x14369.Kind), (0, v13238), (3, v14355), (4, V x14357), (5, V x14358), (6, Pt b14359 0), (7, .bool x14361)] ?_
  refine kF 32 rfl ?_
  obtain rfl := Option.some.inj ho14424
  exact ⟨_, x14353, x14360, v14355, c14356, b14359, rfl, q14354, rfl, hS14363⟩
  refine r_step rfl trivial (o_cmp rfl rfl (c_lss_F hp14367)) ?_
  refine xf [(20, .bool false), (0, v13238), (3, v14355), (4, V x14357), (5, V x14358), (6, Pt b14359 0), (7, .bool x14361)] ?_
  refine cF 20 rfl ?_
  refine xt 2 ?_
  refine blkX_hit ?_
  obtain rfl := Option.some.inj ho14350
  exact ⟨_, x14353, x14357, x14358, x14360, x14361, v14355, c14356, b14359, rfl, q14354, rfl, hS14363⟩
  refine rg r13_6 ?_
  refine xq 1 [(15, V x14192), (6, Pt b14200 0), (0, v13238), (3, v14190), (4, V x14192), (5, V x14193)] ?_
  rcases ifs ho14206 with ⟨hp14208, ho14206⟩ | ⟨hp14208, ho14206⟩
  refine r_step rfl trivial (o_cmp rfl rfl (c_gtr_T hp14208)) ?_
  refine xe 1 [(7, .bool true), (6, Pt b14200 0), (0, v13238), (3, v14190), (4, V x14192), (5, V x14193)] ?_
  obtain rfl := Option.some.inj ho14206
  exact ⟨_, x14188, (⟨1, x14193, 0, (-1)⟩ : api_Row), true, v14190, c14191, b14200, rfl, q14189, rfl, ((hS14204.front 0 rfl).front 1 rfl)⟩
  refine r_step rfl trivial (o_cmp rfl rfl (c_gtr_F hp14208)) ?_
  refine xe 1 [(7, .bool false), (6, Pt b14200 0), (0, v13238), (3, v14190), (4, V x14192), (5, V x14193)] ?_
  obtain rfl := Option.some.inj ho14206
  exact ⟨_, x14188, (⟨1, x14193, 0, (-1)⟩ : api_Row), false, v14190, c14191, b14200, rfl, q14189, rfl, ((hS14204.front 0 rfl).front 1 rfl)⟩
  refine r_step rfl trivial (o_cmp rfl rfl (c_lss_F hp14199)) ?_
  refine xf [(12, .bool false), (0, v13238), (3, v14190), (4, V x14192), (5, V x14193)] ?_
  refine cF 12 rfl ?_
  refine xt 0 ?_
  refine blkX_hit ?_
  obtain rfl := Option.some.inj ho14183
  exact ⟨_, x14188, v14190, c14191, rfl, q14189, rfl, hS14195⟩

end Go.Proofs.Ytcnbcimnfeekjaa.M
