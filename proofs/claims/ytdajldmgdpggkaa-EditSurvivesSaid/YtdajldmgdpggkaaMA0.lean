/- Printed by a program of this session: Go functions as Lean functions over plain data, and that the calls come to them. -/
import Derived.Test.YtdajldmgdpggkaaSyJ
import Derived.Test.YtdajldmgdpggkaaChecked
import Derived.KernelRfl
namespace Go.Proofs.Ytdajldmgdpggkaa.M
open Go Am Sy
open Sy.Cell (rc)
set_option linter.unusedVariables false
set_option linter.unusedSimpArgs false
set_option maxRecDepth 20000

structure api_Edit where
  From : Int
  To : Int
  Put : Str
  deriving DecidableEq, Inhabited
instance : Cell api_Edit where
  size := 3
  rc Z cs x := cs = [.int .i64 x.From, .int .i64 x.To, .string ⟨⟨x.Put.b⟩⟩]
  len h := by rw [h]; rfl
  mono _ h := h
  one h := by rw [h]; rfl
  pos := by decide
theorem rc_api_Edit {Z : Zn} {cs : List Value} {x : api_Edit} (h : rc Z cs x) : cs = [.int .i64 x.From, .int .i64 x.To, .string ⟨⟨x.Put.b⟩⟩] := h

theorem eqT_api_Edit_29 {x y : api_Edit} (h : x = y) : aBin Go.Proofs.Try.prog .eql 29 (.agg #[.int .i64 x.From, .int .i64 x.To, .string ⟨⟨x.Put.b⟩⟩]) (.agg #[.int .i64 y.From, .int .i64 y.To, .string ⟨⟨y.Put.b⟩⟩]) = some (.bool true) := by
  subst h
  refine eq_agg Go.Proofs.Try.underlying29 (by kernel_rfl) (by kernel_rfl) (w := true) ?_
  refine fld_T (by decide) rfl rfl ((eqf_int ⟨_, Go.Proofs.Try.underlying3⟩).trans (by simp )) ?_
  refine fld_T (by decide) rfl rfl ((eqf_int ⟨_, Go.Proofs.Try.underlying3⟩).trans (by simp )) ?_
  refine fld_T (by decide) rfl rfl ((eqf_str Go.Proofs.Try.underlying9).trans (by simp )) ?_
  rfl
theorem eqF_api_Edit_29 {x y : api_Edit} (h : ¬ x = y) : aBin Go.Proofs.Try.prog .eql 29 (.agg #[.int .i64 x.From, .int .i64 x.To, .string ⟨⟨x.Put.b⟩⟩]) (.agg #[.int .i64 y.From, .int .i64 y.To, .string ⟨⟨y.Put.b⟩⟩]) = some (.bool false) := by
  refine eq_agg Go.Proofs.Try.underlying29 (by kernel_rfl) (by kernel_rfl) (w := false) ?_
  by_cases h0 : x.From = y.From
  case neg => exact fld_F (by decide) rfl rfl ((eqf_int ⟨_, Go.Proofs.Try.underlying3⟩).trans (by simp [h0]))
  refine fld_T (by decide) rfl rfl ((eqf_int ⟨_, Go.Proofs.Try.underlying3⟩).trans (by simp [h0])) ?_
  by_cases h1 : x.To = y.To
  case neg => exact fld_F (by decide) rfl rfl ((eqf_int ⟨_, Go.Proofs.Try.underlying3⟩).trans (by simp [h1]))
  refine fld_T (by decide) rfl rfl ((eqf_int ⟨_, Go.Proofs.Try.underlying3⟩).trans (by simp [h1])) ?_
  by_cases h2 : x.Put = y.Put
  case neg => exact fld_F (by decide) rfl rfl ((eqf_str Go.Proofs.Try.underlying9).trans (by simp [h2]))
  refine fld_T (by decide) rfl rfl ((eqf_str Go.Proofs.Try.underlying9).trans (by simp [h2])) ?_
  exact absurd (by cases x; cases y; simp_all) h
theorem neT_api_Edit_29 {x y : api_Edit} (h : ¬ x = y) : aBin Go.Proofs.Try.prog .neq 29 (.agg #[.int .i64 x.From, .int .i64 x.To, .string ⟨⟨x.Put.b⟩⟩]) (.agg #[.int .i64 y.From, .int .i64 y.To, .string ⟨⟨y.Put.b⟩⟩]) = some (.bool true) := by
  refine ne_agg Go.Proofs.Try.underlying29 (by kernel_rfl) (by kernel_rfl) (w := false) ?_
  by_cases h0 : x.From = y.From
  case neg => exact fld_F (by decide) rfl rfl ((eqf_int ⟨_, Go.Proofs.Try.underlying3⟩).trans (by simp [h0]))
  refine fld_T (by decide) rfl rfl ((eqf_int ⟨_, Go.Proofs.Try.underlying3⟩).trans (by simp [h0])) ?_
  by_cases h1 : x.To = y.To
  case neg => exact fld_F (by decide) rfl rfl ((eqf_int ⟨_, Go.Proofs.Try.underlying3⟩).trans (by simp [h1]))
  refine fld_T (by decide) rfl rfl ((eqf_int ⟨_, Go.Proofs.Try.underlying3⟩).trans (by simp [h1])) ?_
  by_cases h2 : x.Put = y.Put
  case neg => exact fld_F (by decide) rfl rfl ((eqf_str Go.Proofs.Try.underlying9).trans (by simp [h2]))
  refine fld_T (by decide) rfl rfl ((eqf_str Go.Proofs.Try.underlying9).trans (by simp [h2])) ?_
  exact absurd (by cases x; cases y; simp_all) h
theorem neF_api_Edit_29 {x y : api_Edit} (h : x = y) : aBin Go.Proofs.Try.prog .neq 29 (.agg #[.int .i64 x.From, .int .i64 x.To, .string ⟨⟨x.Put.b⟩⟩]) (.agg #[.int .i64 y.From, .int .i64 y.To, .string ⟨⟨y.Put.b⟩⟩]) = some (.bool false) := by
  subst h
  refine ne_agg Go.Proofs.Try.underlying29 (by kernel_rfl) (by kernel_rfl) (w := true) ?_
  refine fld_T (by decide) rfl rfl ((eqf_int ⟨_, Go.Proofs.Try.underlying3⟩).trans (by simp )) ?_
  refine fld_T (by decide) rfl rfl ((eqf_int ⟨_, Go.Proofs.Try.underlying3⟩).trans (by simp )) ?_
  refine fld_T (by decide) rfl rfl ((eqf_str Go.Proofs.Try.underlying9).trans (by simp )) ?_
  rfl

def r26_0 : List COp := [u 3 (.box 29 (t 1)), u 4 (.assign (ci 0))]
def r26_1 : List COp := [u 6 (.fieldAddr 29 (t 3) 0), u 7 (.load 3 (t 6)), u 8 (.binOp .lss 3 (t 7) (ci 0) 3), u 9 (.move (t 8)), gN 9 (some 10) (.fieldAddr 29 (t 3) 0), gN 9 (some 11) (.load 3 (t 10)), gN 9 (some 12) (.fieldAddr 29 (t 3) 1), gN 9 (some 13) (.load 3 (t 12)), gN 9 (some 14) (.binOp .gtr 3 (t 11) (t 13) 3), u 15 (.pick (t 9) (.const (.bool true)) (t 14)), u 16 (.move (t 15)), gN 16 (some 17) (.fieldAddr 29 (t 3) 1), gN 16 (some 18) (.load 3 (t 17)), gN 16 (some 19) (.move (t 0)), gN 16 (some 20) (.binOp .gtr 3 (t 18) (t 19) 3), u 21 (.pick (t 16) (.const (.bool true)) (t 20)), u 5 (.assign (t 21))]
def r26_2 : List COp := [u 4 (.assign (ci 1))]
def r26_3 : List COp := [u 23 (.fieldAddr 29 (t 3) 2), u 24 (.load 9 (t 23)), u 25 (cb .len #[(t 24)] #[9]), u 26 (.binOp .gtr 3 (t 25) (ci 1000) 3), u 22 (.assign (t 26))]
def r26_4 : List COp := [u 4 (.assign (ci 4))]
def r26_5 : List COp := [u 4 (.assign (ci 0))]
def edit_one (F : Nat) (a0 : Int) (a1 : api_Edit) : Option Int :=
  if a1.From < (0 : Int) then
    some 1
  else
    if a1.To < a1.From then
      some 1
    else
      if a0 < a1.To then
        some 1
      else
        if (1000 : Int) < (a1.Put.b.length : Int) then
          some 4
        else
          some 0
theorem edit_one_ok (F : Nat) {h : AH} {Z : Zn} {a0 : Int} {a1 : api_Edit} (hI : Inv Z h) {r : Int} (hm : edit_one F a0 a1 = some r) :
    ∃ v h', callI Go.Proofs.Try.prog 26 [.int .i64 a0, .agg #[.int .i64 a1.From, .int .i64 a1.To, .string ⟨⟨a1.Put.b⟩⟩]] h = some (v, h') ∧ St h [] Z (0, 0) Z h' [] ∧ v = .int .i64 r := by
  refine fn_plain (Q := fun v => v = .int .i64 r) Go.Proofs.Try.func26 rfl rfl hI ?_
  intro hs hS
  unfold edit_one at hm
  refine sr r26_0 ?_
  refine r_blk rfl trivial (o_box (cs := [.int .i64 a1.From, .int .i64 a1.To, .string ⟨⟨a1.Put.b⟩⟩]) rfl rfl) hS ?_
  intro b36 h37 hS38
  refine xe 1 [(3, .pointer (some ⟨b36, 0, none⟩)), (0, .int .i64 a0)] ?_
  refine sq ?_
  refine bk 0 ?_
  refine sr r26_1 ?_
  refine xq 1 [(6, .pointer (some ⟨b36, 0, none⟩)), (3, .pointer (some ⟨b36, 0, none⟩)), (0, .int .i64 a0)] ?_
  refine r_step rfl trivial (o_ldb (v := .int .i64 a1.From) hS38 (i := 0) rfl rfl (by kernel_rfl)) ?_
  rcases ifs hm with ⟨hp43, hm⟩ | ⟨hp43, hm⟩
  refine r_step rfl trivial (o_cmp rfl rfl (c_lss_T hp43)) ?_
  refine xe 14 [(5, .bool true), (3, .pointer (some ⟨b36, 0, none⟩))] ?_
  refine cT 5 rfl ?_
  refine sr r26_2 ?_
  refine xe 1 [(4, .int .i64 1)] ?_
  refine rt ?_
  refine blkX_ret ?_
  refine ⟨rfl, ?_⟩
  obtain rfl := Option.some.inj hm
  refine ⟨_, _, _, ResL.tmp rfl (ResL.nil), hS38, ?_⟩
  exact rfl
  refine r_step rfl trivial (o_cmp rfl rfl (c_lss_F hp43)) ?_
  refine xq 2 [(10, .pointer (some ⟨b36, 0, none⟩)), (9, .bool false), (3, .pointer (some ⟨b36, 0, none⟩)), (0, .int .i64 a0)] ?_
  refine r_step rfl rfl (o_ldb (v := .int .i64 a1.From) hS38 (i := 0) rfl rfl (by kernel_rfl)) ?_
  refine xq 1 [(12, .pointer (some ⟨b36, 1, none⟩)), (11, .int .i64 a1.From), (9, .bool false), (3, .pointer (some ⟨b36, 0, none⟩)), (0, .int .i64 a0)] ?_
  refine r_step rfl rfl (o_ldb (v := .int .i64 a1.To) hS38 (i := 0) rfl rfl (by kernel_rfl)) ?_
  rcases ifs hm with ⟨hp44, hm⟩ | ⟨hp44, hm⟩
  refine r_step rfl rfl (o_cmp rfl rfl (c_gtr_T hp44)) ?_
  refine xe 8 [(5, .bool true), (3, .pointer (some ⟨b36, 0, none⟩))] ?_
  refine cT 5 rfl ?_
  refine sr r26_2 ?_
  refine xe 1 [(4, .int .i64 1)] ?_
  refine rt ?_
  refine blkX_ret ?_
  refine ⟨rfl, ?_⟩
  obtain rfl := Option.some.inj hm
  refine ⟨_, _, _, ResL.tmp rfl (ResL.nil), hS38, ?_⟩
  exact rfl
  refine r_step rfl rfl (o_cmp rfl rfl (c_gtr_F hp44)) ?_
  refine xq 3 [(17, .pointer (some ⟨b36, 1, none⟩)), (16, .bool false), (3, .pointer (some ⟨b36, 0, none⟩)), (0, .int .i64 a0)] ?_
  refine r_step rfl rfl (o_ldb (v := .int .i64 a1.To) hS38 (i := 0) rfl rfl (by kernel_rfl)) ?_
  refine xq 1 [(19, .int .i64 a0), (18, .int .i64 a1.To), (16, .bool false), (3, .pointer (some ⟨b36, 0, none⟩))] ?_
  rcases ifs hm with ⟨hp45, hm⟩ | ⟨hp45, hm⟩
  refine r_step rfl rfl (o_cmp rfl rfl (c_gtr_T hp45)) ?_
  refine xe 2 [(5, .bool true), (3, .pointer (some ⟨b36, 0, none⟩))] ?_
  refine cT 5 rfl ?_
  refine sr r26_2 ?_
  refine xe 1 [(4, .int .i64 1)] ?_
  refine rt ?_
  refine blkX_ret ?_
  refine ⟨rfl, ?_⟩
  obtain rfl := Option.some.inj hm
  refine ⟨_, _, _, ResL.tmp rfl (ResL.nil), hS38, ?_⟩
  exact rfl
  refine r_step rfl rfl (o_cmp rfl rfl (c_gtr_F hp45)) ?_
  refine xe 2 [(5, .bool false), (3, .pointer (some ⟨b36, 0, none⟩))] ?_
  refine cF 5 rfl ?_
  refine sr r26_3 ?_
  refine xq 1 [(23, .pointer (some ⟨b36, 2, none⟩))] ?_
  refine r_step rfl trivial (o_ldb (v := .string ⟨⟨a1.Put.b⟩⟩) hS38 (i := 0) rfl rfl (by kernel_rfl)) ?_
  refine xq 1 [(25, .int .i64 (a1.Put.b.length : Int))] ?_
  rcases ifs hm with ⟨hp48, hm⟩ | ⟨hp48, hm⟩
  refine r_step rfl trivial (o_cmp rfl rfl (c_gtr_T hp48)) ?_
  refine xe 1 [(22, .bool true)] ?_
  refine cT 22 rfl ?_
  refine sr r26_4 ?_
  refine xe 1 [(4, .int .i64 4)] ?_
  refine rt ?_
  refine blkX_ret ?_
  refine ⟨rfl, ?_⟩
  obtain rfl := Option.some.inj hm
  refine ⟨_, _, _, ResL.tmp rfl (ResL.nil), hS38, ?_⟩
  exact rfl
  refine r_step rfl trivial (o_cmp rfl rfl (c_gtr_F hp48)) ?_
  refine xe 1 [(22, .bool false)] ?_
  refine kF 22 rfl ?_
  refine sr r26_5 ?_
  refine xe 1 [(4, .int .i64 0)] ?_
  refine rt ?_
  refine ⟨rfl, ?_⟩
  obtain rfl := Option.some.inj hm
  refine ⟨_, _, _, ResL.tmp rfl (ResL.nil), hS38, ?_⟩
  exact rfl

def r20_0 : List COp := [u 4 (.assign (ci 0))]
def r20_1 : List COp := [u 8 (.move (t 1)), u 9 (cb .len #[(t 8)] #[22]), u 10 (.binOp .gtr 3 (t 9) (ci 200) 3)]
def r20_2 : List COp := [u 4 (.assign (ci 3))]
def r20_3 : List COp := [u 11 (.move (t 1)), u 12 (cb .len #[(t 11)] #[22]), u 13 (.move (ci 0))]
def r20_4 : List COp := [u 14 (.binOp .lss 3 (t 13) (t 12) 3)]
def r20_5 : List COp := [u 15 (.move (t 13)), u 16 (.indexAddr 22 (t 11) (t 13)), u 17 (.load 29 (t 16)), u 6 (.alloc 29), u 5 (.assign (t 15)), o (.store 29 (t 6) (t 17))]
def r20_6 : List COp := [u 18 (.move (t 0)), u 19 (.load 29 (t 6)), u 20 (cf 26 #[(t 18), (t 19)] #[3, 29]), u 7 (.assign (t 20))]
def r20_7 : List COp := [u 21 (.move (t 7)), u 22 (.binOp .neq 32 (t 21) (ci 0) 32)]
def r20_8 : List COp := [u 23 (.move (t 7)), u 4 (.assign (t 23))]
def r20_9 : List COpF := [uF 24 (.move (t 5)) .pure [], uF 25 (.binOp .gtr 3 (t 24) (ci 0) 3) .pure [], uF 26 (.move (t 25)) .pure [], gTF 26 (some 27) (.fieldAddr 29 (t 6) 0) .pure [], gTF 26 (some 28) (.load 3 (t 27)) .look [], gTF 26 (some 29) (.move (t 1)) .pure [], gTF 26 (some 30) (.move (t 5)) .pure [], gTF 26 (some 31) (.binOp .sub 3 (t 30) (ci 1) 3) .pure [], gTF 26 (some 32) (.indexAddr 22 (t 29) (t 31)) .pure [], gTF 26 (some 33) (.fieldAddr 29 (t 32) 1) .pure [], gTF 26 (some 34) (.load 3 (t 33)) .look [], gTF 26 (some 35) (.binOp .lss 3 (t 28) (t 34) 3) .pure [], uF 36 (.pick (t 26) (t 35) (.const (.bool false))) .pure []]
def r20_10 : List COp := [u 4 (.assign (ci 6))]
def r20_11 : List COp := [u 37 (.binOp .add 3 (t 13) (ci 1) 3), u 13 (.move (t 37))]
def r20_12 : List COp := [u 4 (.assign (ci 0))]
def edit_Check_l0 (F : Nat) (a0 : Int) (a1 : List api_Edit) : Nat → Int → Option (Sum Unit Int)
  | 0, _ => none
  | n + 1, x239 =>
    if x239 < (a1.length : Int) then
      if 0 ≤ x239 ∧ x239 < (a1.length : Int) then
        (a1[x239.toNat]?).bind fun x246 =>
        (edit_one F a0 x246).bind fun r265 =>
        if r265 = (0 : Int) then
          ((if (0 : Int) < x239 then
              if 0 ≤ (w64 (x239 - 1)) ∧ (w64 (x239 - 1)) < (a1.length : Int) then
                (a1[(w64 (x239 - 1)).toNat]?).bind fun x300 =>
                if x246.From < x300.To then
                  some (.inr 6)
                else
                  some (.inl ())
              else none
            else
              some (.inl ())) : Option (Sum Unit Int)).bind fun o => match o with
            | .inl () => edit_Check_l0 F a0 a1 n (w64 (x239 + 1))
            | .inr y => some (.inr y)
        else
          some (.inr r265)
      else none
    else
      some (.inl ())
def edit_Check (F : Nat) (a0 : Int) (a1 : List api_Edit) : Option Int :=
  if (200 : Int) < (a1.length : Int) then
    some 3
  else
    ((edit_Check_l0 F a0 a1 F 0) : Option (Sum Unit Int)).bind fun o => match o with
      | .inl () => some 0
      | .inr y => some y
theorem edit_Check_ok (F : Nat) {h : AH} {Z : Zn} {a0 : Int} {a1 : List api_Edit} {v2 : Value} (hI : Inv Z h) (q1 : RS (α := api_Edit) Z v2 a1) {r : Int} (hm : edit_Check F a0 a1 = some r) :
    ∃ v h', callI Go.Proofs.Try.prog 20 [.int .i64 a0, v2] h = some (v, h') ∧ St h [] Z (0, 0) Z h' [] ∧ v = .int .i64 r := by
  refine fn_plain (Q := fun v => v = .int .i64 r) Go.Proofs.Try.func20 rfl rfl hI ?_
  intro hs hS
  unfold edit_Check at hm
  refine sr r20_0 ?_
  refine xe 1 [(0, .int .i64 a0), (1, v2)] ?_
  refine sq ?_
  refine sr r20_1 ?_
  refine xq 1 [(8, v2), (0, .int .i64 a0), (1, v2)] ?_
  refine r_step rfl trivial (o_len rfl (RS.len q1) ⟨_, Go.Proofs.Try.underlying22⟩) ?_
  rcases ifs hm with ⟨hp136, hm⟩ | ⟨hp136, hm⟩
  refine r_step rfl trivial (o_cmp rfl rfl (c_gtr_T hp136)) ?_
  refine xf [(10, .bool true), (0, .int .i64 a0), (1, v2)] ?_
  refine cT 10 rfl ?_
  refine sr r20_2 ?_
  refine xe 1 [(4, .int .i64 3)] ?_
  refine rt ?_
  refine ⟨rfl, ?_⟩
  obtain rfl := Option.some.inj hm
  refine ⟨_, _, _, ResL.tmp rfl (ResL.nil), hS, ?_⟩
  exact rfl
  refine r_step rfl trivial (o_cmp rfl rfl (c_gtr_F hp136)) ?_
  refine xf [(10, .bool false), (0, .int .i64 a0), (1, v2)] ?_
  refine kF 10 rfl ?_
  refine sq ?_
  refine sr r20_3 ?_
  refine xq 1 [(11, v2), (0, .int .i64 a0), (1, v2)] ?_
  refine r_step rfl trivial (o_len rfl (RS.len q1) ⟨_, Go.Proofs.Try.underlying22⟩) ?_
  refine xe 1 [(13, .int .i64 0), (12, .int .i64 (a1.length : Int)), (11, v2), (0, .int .i64 a0), (1, v2)] ?_
  obtain ⟨o237, ho236, hm⟩ := obind hm
  refine W_join [] (fun l h => ∃ Z313 : Zn, .inl () = o237 ∧ l = [] ∧ St hs [] Z (0, 0) Z313 h []) ?_ ?_
  rintro l h314 ⟨Z313, rfl, rfl, hS315⟩
  try dsimp only at hm
  refine sr r20_12 ?_
  refine xe 1 [(4, .int .i64 0)] ?_
  refine rt ?_
  refine ⟨rfl, ?_⟩
  obtain rfl := Option.some.inj hm
  refine ⟨_, _, _, ResL.tmp rfl (ResL.nil), hS315, ?_⟩
  exact rfl
  refine bk 0 ?_
  refine lp [0, 1, 11, 12, 13] (fun n l h => ∃ Z238 : Zn, ∃ x239 : Int, edit_Check_l0 F a0 a1 n x239 = some o237 ∧ l = [(0, .int .i64 a0), (1, v2), (11, v2), (12, .int .i64 (a1.length : Int)), (13, .int .i64 x239)] ∧ St hs [] Z (0, 0) Z238 h []) F ⟨_, 0, ho236, rfl, hS⟩ ?_
  rintro n242 l h240 ⟨Z238, x239, ho236, rfl, hS241⟩
  rcases n242 with _ | n242
  cases (show none = some o237 from ho236)
  rw [edit_Check_l0] at ho236
  refine sr r20_4 ?_
  rcases ifs ho236 with ⟨hp244, ho236⟩ | ⟨hp244, ho236⟩
  refine r_step rfl trivial (o_cmp rfl rfl (c_lss_T hp244)) ?_
  refine xf [(14, .bool true), (0, .int .i64 a0), (1, v2), (11, v2), (12, .int .i64 (a1.length : Int)), (13, .int .i64 x239)] ?_
  refine sq ?_
  refine kT 14 rfl ?_
  refine sq ?_
  refine bk 1 ?_
  refine sr r20_5 ?_
  refine xq 1 [(15, .int .i64 x239), (0, .int .i64 a0), (1, v2), (11, v2), (12, .int .i64 (a1.length : Int)), (13, .int .i64 x239)] ?_
  obtain ⟨hc245, ho236⟩ := chk ho236
  refine r_step rfl trivial (o_index rfl rfl (by kernel_rfl : slTy _ _ = some (csz api_Edit)) (RS.based (q1.mono hS241.zle) (by omega)) hc245.1 hc245.2) ?_
  obtain ⟨x246, hx247, ho236⟩ := obind ho236
  obtain ⟨cs248, hc249, he250⟩ := RS.elz (q1.mono hS241.zle) (i := x239) hx247
  obtain rfl := rc_api_Edit hc249
  refine r_step rfl trivial (o_lde (w := .agg #[.int .i64 x246.From, .int .i64 x246.To, .string ⟨⟨x246.Put.b⟩⟩]) (he250 _ (hS241.zin0 (Zle.refl _))) rfl (by kernel_rfl)) ?_
  refine r_blk rfl trivial (o_alloc (cs := [.int .i64 0, .int .i64 0, .string ⟨⟨[]⟩⟩]) (by kernel_rfl)) hS241 ?_
  intro b252 h253 hS254
  refine xq 1 [(5, .int .i64 x239), (6, .pointer (some ⟨b252, 0, none⟩)), (17, .agg #[.int .i64 x246.From, .int .i64 x246.To, .string ⟨⟨x246.Put.b⟩⟩]), (0, .int .i64 a0), (1, v2), (11, v2), (12, .int .i64 (a1.length : Int)), (13, .int .i64 x239)] ?_
  refine r_ex1 rfl trivial (o_stb (vs := [.int .i64 x246.From, .int .i64 x246.To, .string ⟨⟨x246.Put.b⟩⟩]) (cells' := [.int .i64 x246.From, .int .i64 x246.To, .string ⟨⟨x246.Put.b⟩⟩]) (L' := [.blk b252 [.int .i64 x246.From, .int .i64 x246.To, .string ⟨⟨x246.Put.b⟩⟩]]) hS254 (i := 0) rfl rfl rfl rfl (by kernel_rfl) rfl rfl rfl rfl) ?_
  intro h255 hS256
  refine xf [(5, .int .i64 x239), (6, .pointer (some ⟨b252, 0, none⟩)), (0, .int .i64 a0), (1, v2), (11, v2), (12, .int .i64 (a1.length : Int)), (13, .int .i64 x239)] ?_
  refine sq ?_
  refine sr r20_6 ?_
  refine xq 1 [(18, .int .i64 a0), (5, .int .i64 x239), (6, .pointer (some ⟨b252, 0, none⟩)), (0, .int .i64 a0), (1, v2), (11, v2), (12, .int .i64 (a1.length : Int)), (13, .int .i64 x239)] ?_
  refine r_step rfl trivial (o_ldb (v := .agg #[.int .i64 x246.From, .int .i64 x246.To, .string ⟨⟨x246.Put.b⟩⟩]) hS256 (i := 0) rfl rfl (by kernel_rfl)) ?_
  obtain ⟨r265, hx266, ho236⟩ := obind ho236
  obtain ⟨v267, h268, hcl269, hSc270, rfl⟩ := edit_one_ok F hS256.inv  hx266
  have hS271 := St.call (A := []) (B := [.blk b252 [.int .i64 x246.From, .int .i64 x246.To, .string ⟨⟨x246.Put.b⟩⟩]]) hS256 hSc270
  replace hS271 : St _ _ _ _ _ _ [.blk b252 [.int .i64 x246.From, .int .i64 x246.To, .string ⟨⟨x246.Put.b⟩⟩]] := hS271
  refine r_step rfl trivial (o_call hcl269 rfl rfl rfl) ?_
  refine xe 1 [(7, .int .i64 r265), (5, .int .i64 x239), (6, .pointer (some ⟨b252, 0, none⟩)), (0, .int .i64 a0), (1, v2), (11, v2), (12, .int .i64 (a1.length : Int)), (13, .int .i64 x239)] ?_
  refine sr r20_7 ?_
  refine xq 1 [(21, .int .i64 r265), (7, .int .i64 r265), (5, .int .i64 x239), (6, .pointer (some ⟨b252, 0, none⟩)), (0, .int .i64 a0), (1, v2), (11, v2), (12, .int .i64 (a1.length : Int)), (13, .int .i64 x239)] ?_
  rcases ifs ho236 with ⟨hp273, ho236⟩ | ⟨hp273, ho236⟩
  refine r_step rfl trivial (o_cmp rfl rfl (c_neq_F hp273)) ?_
  refine xf [(22, .bool false), (7, .int .i64 r265), (5, .int .i64 x239), (6, .pointer (some ⟨b252, 0, none⟩)), (0, .int .i64 a0), (1, v2), (11, v2), (12, .int .i64 (a1.length : Int)), (13, .int .i64 x239)] ?_
  refine kF 22 rfl ?_
  obtain ⟨o292, ho291, ho236⟩ := obind ho236
  refine W_seqJoin0 [0, 1, 11, 12, 13] (fun l h => ∃ Z310 : Zn, .inl () = o292 ∧ l = [(0, .int .i64 a0), (1, v2), (11, v2), (12, .int .i64 (a1.length : Int)), (13, .int .i64 x239)] ∧ St hs [] Z (0, 0) Z310 h []) (by kernel_rfl) ?_ ?_
  rintro l h311 ⟨Z310, rfl, rfl, hS312⟩
  try dsimp only at ho236
  refine rg r20_11 ?_
  refine xe 2 [(13, .int .i64 (w64 (x239 + 1))), (0, .int .i64 a0), (1, v2), (11, v2), (12, .int .i64 (a1.length : Int))] ?_
  exact ⟨n242, Nat.lt_succ_self _, ⟨_, w64 (x239 + 1), ho236, rfl, hS312⟩⟩
  refine rgF r20_9 hS271 ?_
  intro bs293 h294 hlv296 hS295
  refine yq 1 [(24, .int .i64 x239), (5, .int .i64 x239), (6, .pointer (some ⟨b252, 0, none⟩)), (0, .int .i64 a0), (1, v2), (11, v2), (12, .int .i64 (a1.length : Int)), (13, .int .i64 x239)] ?_
  rcases ifs ho291 with ⟨hp297, ho291⟩ | ⟨hp297, ho291⟩
  refine e_val rfl trivial (o_cmp rfl rfl (c_gtr_T hp297)) ?_
  refine yq 2 [(27, .pointer (some ⟨b252, 0, none⟩)), (26, .bool true), (5, .int .i64 x239), (0, .int .i64 a0), (1, v2), (11, v2), (12, .int .i64 (a1.length : Int)), (13, .int .i64 x239)] ?_
  have lt298 : b252 < bs293 := hlv296.1 _ (List.mem_of_getElem? (i := 0) rfl) _ (by simp [Itm.ids])
  refine e_lookB rfl rfl rfl (by show b252 < _; omega) (same1 (v := .int .i64 x246.From) trivial) (o_ldb (v := .int .i64 x246.From) hS295 (i := 0) rfl rfl (by kernel_rfl)) trivial ?_
  refine yq 3 [(31, .int .i64 (w64 (x239 - 1))), (29, v2), (28, .int .i64 x246.From), (26, .bool true), (0, .int .i64 a0), (1, v2), (11, v2), (12, .int .i64 (a1.length : Int)), (13, .int .i64 x239)] ?_
  obtain ⟨hc299, ho291⟩ := chk ho291
  refine e_val rfl rfl (o_index rfl rfl (by kernel_rfl : slTy _ _ = some (csz api_Edit)) (RS.based (q1.mono hS241.zle) (by omega)) hc299.1 hc299.2) ?_
  refine yq 1 [(33, .pointer (some (elemA v2 (w64 (x239 - 1)) (csz api_Edit) 1))), (28, .int .i64 x246.From), (26, .bool true), (0, .int .i64 a0), (1, v2), (11, v2), (12, .int .i64 (a1.length : Int)), (13, .int .i64 x239)] ?_
  obtain ⟨x300, hx301, ho291⟩ := obind ho291
  obtain ⟨cs302, hc303, he304⟩ := RS.elz (q1.mono hS241.zle) (i := w64 (x239 - 1)) hx301
  obtain rfl := rc_api_Edit hc303
  refine e_lookZ rfl rfl rfl (fun h2 hz => o_lde (w := .int .i64 x300.To) (he304 h2 hz) rfl (by kernel_rfl)) (hS295.zin0 (Zle.refl _)) (same1 (v := .int .i64 x300.To) trivial) trivial ?_
  rcases ifs ho291 with ⟨hp306, ho291⟩ | ⟨hp306, ho291⟩
  refine e_val rfl rfl (o_cmp rfl rfl (c_lss_T hp306)) ?_
  refine ye 1 [(36, .bool true), (0, .int .i64 a0), (1, v2), (11, v2), (12, .int .i64 (a1.length : Int)), (13, .int .i64 x239)] ?_
  have hS307 := hS295.unres
  refine cT 36 rfl ?_
  refine sr r20_10 ?_
  refine xe 1 [(4, .int .i64 6)] ?_
  refine rt ?_
  refine blkX_ret ?_
  refine blkX_ret ?_
  refine ⟨rfl, ?_⟩
  obtain rfl := Option.some.inj ho291
  obtain rfl := Option.some.inj ho236
  obtain rfl := Option.some.inj hm
  refine ⟨_, _, _, ResL.tmp rfl (ResL.nil), hS307, ?_⟩
  exact rfl
  refine e_val rfl rfl (o_cmp rfl rfl (c_lss_F hp306)) ?_
  refine ye 1 [(36, .bool false), (0, .int .i64 a0), (1, v2), (11, v2), (12, .int .i64 (a1.length : Int)), (13, .int .i64 x239)] ?_
  have hS308 := hS295.unres
  refine kF 36 rfl ?_
  obtain rfl := Option.some.inj ho291
  exact ⟨_, rfl, rfl, (hS308.takeN 0)⟩
  refine e_val rfl trivial (o_cmp rfl rfl (c_gtr_F hp297)) ?_
  refine ye 11 [(36, .bool false), (0, .int .i64 a0), (1, v2), (11, v2), (12, .int .i64 (a1.length : Int)), (13, .int .i64 x239)] ?_
  have hS309 := hS295.unres
  refine kF 36 rfl ?_
  obtain rfl := Option.some.inj ho291
  exact ⟨_, rfl, rfl, (hS309.takeN 0)⟩
  refine r_step rfl trivial (o_cmp rfl rfl (c_neq_T hp273)) ?_
  refine xf [(22, .bool true), (7, .int .i64 r265), (5, .int .i64 x239), (6, .pointer (some ⟨b252, 0, none⟩)), (0, .int .i64 a0), (1, v2), (11, v2), (12, .int .i64 (a1.length : Int)), (13, .int .i64 x239)] ?_
  refine cT 22 rfl ?_
  refine sr r20_8 ?_
  refine xe 2 [(4, .int .i64 r265)] ?_
  refine rt ?_
  refine blkX_ret ?_
  refine blkX_ret ?_
  refine ⟨rfl, ?_⟩
  obtain rfl := Option.some.inj ho236
  obtain rfl := Option.some.inj hm
  refine ⟨_, _, _, ResL.tmp rfl (ResL.nil), hS271, ?_⟩
  exact rfl
  refine r_step rfl trivial (o_cmp rfl rfl (c_lss_F hp244)) ?_
  refine xf [(14, .bool false), (0, .int .i64 a0), (1, v2), (11, v2), (12, .int .i64 (a1.length : Int)), (13, .int .i64 x239)] ?_
  refine sq ?_
  refine cF 14 rfl ?_
  refine xt 0 ?_
  refine blkX_hit ?_
  obtain rfl := Option.some.inj ho236
  exact ⟨_, rfl, rfl, hS241⟩

def r24_0 : List COp := [u 4 (.assign (ci 0))]
def r24_1 : List COp := [u 8 (.move (t 1)), u 5 (.assign (t 8))]
def r24_2 : List COp := [u 9 (.move (t 0)), u 10 (cb .len #[(t 9)] #[22]), u 11 (.move (ci 0))]
def r24_3 : List COp := [u 12 (.binOp .lss 3 (t 11) (t 10) 3)]
def r24_4 : List COp := [u 13 (.indexAddr 22 (t 9) (t 11)), u 14 (.load 29 (t 13)), u 7 (.alloc 29), o (.store 29 (t 7) (t 14))]
def r24_5 : List COp := [u 16 (.fieldAddr 29 (t 7) 1), u 17 (.load 3 (t 16)), u 18 (.move (t 1)), u 19 (.binOp .leq 3 (t 17) (t 18) 3), u 15 (.assign (t 19))]
def r24_6 : List COp := [u 20 (.move (t 5)), u 21 (.fieldAddr 29 (t 7) 2), u 22 (.load 9 (t 21)), u 23 (cb .len #[(t 22)] #[9]), u 24 (.fieldAddr 29 (t 7) 1), u 25 (.load 3 (t 24)), u 26 (.fieldAddr 29 (t 7) 0), u 27 (.load 3 (t 26)), u 28 (.binOp .sub 3 (t 25) (t 27) 3), u 29 (.binOp .sub 3 (t 23) (t 28) 3), u 30 (.binOp .add 3 (t 20) (t 29) 3), u 5 (.assign (t 30))]
def r24_7 : List COp := [u 32 (.fieldAddr 29 (t 7) 0), u 33 (.load 3 (t 32)), u 34 (.move (t 1)), u 35 (.binOp .lss 3 (t 33) (t 34) 3), u 31 (.assign (t 35))]
def r24_8 : List COp := [u 36 (.move (t 5)), u 37 (.move (t 1)), u 38 (.binOp .sub 3 (t 36) (t 37) 3), u 39 (.fieldAddr 29 (t 7) 0), u 40 (.load 3 (t 39)), u 41 (.binOp .add 3 (t 38) (t 40) 3), u 42 (.fieldAddr 29 (t 7) 2), u 43 (.load 9 (t 42)), u 44 (cb .len #[(t 43)] #[9]), u 45 (.binOp .add 3 (t 41) (t 44) 3), u 4 (.assign (t 45))]
def r24_9 : List COp := [u 46 (.binOp .add 3 (t 11) (ci 1) 3), u 11 (.move (t 46))]
def r24_10 : List COp := [u 47 (.move (t 5)), u 4 (.assign (t 47))]
def edit_Map_l0 (F : Nat) (a0 : List api_Edit) (a1 : Int) : Nat → Int → Int → Option (Sum Int Int)
  | 0, _, _ => none
  | n + 1, x429, x430 =>
    if x430 < (a0.length : Int) then
      if 0 ≤ x430 ∧ x430 < (a0.length : Int) then
        (a0[x430.toNat]?).bind fun x437 =>
        ((if x437.To ≤ a1 then
            some (.inl (w64 (x429 + (w64 ((x437.Put.b.length : Int) - (w64 (x437.To - x437.From)))))))
          else
            if x437.From < a1 then
              some (.inr (w64 ((w64 ((w64 (x429 - a1)) + x437.From)) + (x437.Put.b.length : Int))))
            else
              some (.inl x429)) : Option (Sum Int Int)).bind fun o => match o with
          | .inl x459 => edit_Map_l0 F a0 a1 n x459 (w64 (x430 + 1))
          | .inr y => some (.inr y)
      else none
    else
      some (.inl x429)
def edit_Map (F : Nat) (a0 : List api_Edit) (a1 : Int) : Option Int :=
  ((edit_Map_l0 F a0 a1 F a1 0) : Option (Sum Int Int)).bind fun o => match o with
    | .inl x465 => some x465
    | .inr y => some y
theorem edit_Map_ok (F : Nat) {h : AH} {Z : Zn} {a0 : List api_Edit} {a1 : Int} {v317 : Value} (hI : Inv Z h) (q316 : RS (α := api_Edit) Z v317 a0) {r : Int} (hm : edit_Map F a0 a1 = some r) :
    ∃ v h', callI Go.Proofs.Try.prog 24 [v317, .int .i64 a1] h = some (v, h') ∧ St h [] Z (0, 0) Z h' [] ∧ v = .int .i64 r := by
  refine fn_plain (Q := fun v => v = .int .i64 r) Go.Proofs.Try.func24 rfl rfl hI ?_
  intro hs hS
  unfold edit_Map at hm
  refine sr r24_0 ?_
  refine xe 1 [(0, v317), (1, .int .i64 a1)] ?_
  refine sr r24_1 ?_
  refine xe 2 [(5, .int .i64 a1), (0, v317), (1, .int .i64 a1)] ?_
  refine sq ?_
  refine sr r24_2 ?_
  refine xq 1 [(9, v317), (5, .int .i64 a1), (1, .int .i64 a1)] ?_
  refine r_step rfl trivial (o_len rfl (RS.len q316) ⟨_, Go.Proofs.Try.underlying22⟩) ?_
  refine xe 1 [(11, .int .i64 0), (10, .int .i64 (a0.length : Int)), (9, v317), (5, .int .i64 a1), (1, .int .i64 a1)] ?_
  obtain ⟨o427, ho426, hm⟩ := obind hm
  refine W_join [5] (fun l h => ∃ Z464 : Zn, ∃ x465 : Int, .inl x465 = o427 ∧ l = [(5, .int .i64 x465)] ∧ St hs [] Z (0, 0) Z464 h []) ?_ ?_
  rintro l h466 ⟨Z464, x465, rfl, rfl, hS467⟩
  try dsimp only at hm
  refine sr r24_10 ?_
  refine xe 2 [(4, .int .i64 x465)] ?_
  refine rt ?_
  refine ⟨rfl, ?_⟩
  obtain rfl := Option.some.inj hm
  refine ⟨_, _, _, ResL.tmp rfl (ResL.nil), hS467, ?_⟩
  exact rfl
  refine bk 0 ?_
  refine lp [1, 5, 9, 10, 11] (fun n l h => ∃ Z428 : Zn, ∃ x429 : Int, ∃ x430 : Int, edit_Map_l0 F a0 a1 n x429 x430 = some o427 ∧ l = [(1, .int .i64 a1), (5, .int .i64 x429), (9, v317), (10, .int .i64 (a0.length : Int)), (11, .int .i64 x430)] ∧ St hs [] Z (0, 0) Z428 h []) F ⟨_, a1, 0, ho426, rfl, hS⟩ ?_
  rintro n433 l h431 ⟨Z428, x429, x430, ho426, rfl, hS432⟩
  rcases n433 with _ | n433
  cases (show none = some o427 from ho426)
  rw [edit_Map_l0] at ho426
  refine sr r24_3 ?_
  rcases ifs ho426 with ⟨hp435, ho426⟩ | ⟨hp435, ho426⟩
  refine r_step rfl trivial (o_cmp rfl rfl (c_lss_T hp435)) ?_
  refine xf [(12, .bool true), (1, .int .i64 a1), (5, .int .i64 x429), (9, v317), (10, .int .i64 (a0.length : Int)), (11, .int .i64 x430)] ?_
  refine sq ?_
  refine kT 12 rfl ?_
  refine sq ?_
  refine bk 1 ?_
  refine sr r24_4 ?_
  obtain ⟨hc436, ho426⟩ := chk ho426
  refine r_step rfl trivial (o_index rfl rfl (by kernel_rfl : slTy _ _ = some (csz api_Edit)) (RS.based (q316.mono hS432.zle) (by omega)) hc436.1 hc436.2) ?_
  obtain ⟨x437, hx438, ho426⟩ := obind ho426
  obtain ⟨cs439, hc440, he441⟩ := RS.elz (q316.mono hS432.zle) (i := x430) hx438
  obtain rfl := rc_api_Edit hc440
  refine r_step rfl trivial (o_lde (w := .agg #[.int .i64 x437.From, .int .i64 x437.To, .string ⟨⟨x437.Put.b⟩⟩]) (he441 _ (hS432.zin0 (Zle.refl _))) rfl (by kernel_rfl)) ?_
  refine r_blk rfl trivial (o_alloc (cs := [.int .i64 0, .int .i64 0, .string ⟨⟨[]⟩⟩]) (by kernel_rfl)) hS432 ?_
  intro b443 h444 hS445
  refine r_ex1 rfl trivial (o_stb (vs := [.int .i64 x437.From, .int .i64 x437.To, .string ⟨⟨x437.Put.b⟩⟩]) (cells' := [.int .i64 x437.From, .int .i64 x437.To, .string ⟨⟨x437.Put.b⟩⟩]) (L' := [.blk b443 [.int .i64 x437.From, .int .i64 x437.To, .string ⟨⟨x437.Put.b⟩⟩]]) hS445 (i := 0) rfl rfl rfl rfl (by kernel_rfl) rfl rfl rfl rfl) ?_
  intro h446 hS447
  refine xf [(7, .pointer (some ⟨b443, 0, none⟩)), (1, .int .i64 a1), (5, .int .i64 x429), (9, v317), (10, .int .i64 (a0.length : Int)), (11, .int .i64 x430)] ?_
  obtain ⟨o453, ho452, ho426⟩ := obind ho426
  refine W_join [1, 5, 9, 10, 11] (fun l h => ∃ Z458 : Zn, ∃ x459 : Int, .inl x459 = o453 ∧ l = [(1, .int .i64 a1), (5, .int .i64 x459), (9, v317), (10, .int .i64 (a0.length : Int)), (11, .int .i64 x430)] ∧ St hs [] Z (0, 0) Z458 h []) ?_ ?_
  rintro l h460 ⟨Z458, x459, rfl, rfl, hS461⟩
  try dsimp only at ho426
  refine rg r24_9 ?_
  refine xe 2 [(11, .int .i64 (w64 (x430 + 1))), (1, .int .i64 a1), (5, .int .i64 x459), (9, v317), (10, .int .i64 (a0.length : Int))] ?_
  exact ⟨n433, Nat.lt_succ_self _, ⟨_, x459, w64 (x430 + 1), ho426, rfl, hS461⟩⟩
  refine bk 2 ?_
  refine sr r24_5 ?_
  refine xq 1 [(16, .pointer (some ⟨b443, 1, none⟩)), (7, .pointer (some ⟨b443, 0, none⟩)), (1, .int .i64 a1), (5, .int .i64 x429), (9, v317), (10, .int .i64 (a0.length : Int)), (11, .int .i64 x430)] ?_
  refine r_step rfl trivial (o_ldb (v := .int .i64 x437.To) hS447 (i := 0) rfl rfl (by kernel_rfl)) ?_
  refine xq 1 [(18, .int .i64 a1), (17, .int .i64 x437.To), (7, .pointer (some ⟨b443, 0, none⟩)), (1, .int .i64 a1), (5, .int .i64 x429), (9, v317), (10, .int .i64 (a0.length : Int)), (11, .int .i64 x430)] ?_
  rcases ifs ho452 with ⟨hp455, ho452⟩ | ⟨hp455, ho452⟩
  refine r_step rfl trivial (o_cmp rfl rfl (c_leq_T hp455)) ?_
  refine xe 1 [(15, .bool true), (7, .pointer (some ⟨b443, 0, none⟩)), (1, .int .i64 a1), (5, .int .i64 x429), (9, v317), (10, .int .i64 (a0.length : Int)), (11, .int .i64 x430)] ?_
  refine cT 15 rfl ?_
  refine rg r24_6 ?_
  refine xq 2 [(21, .pointer (some ⟨b443, 2, none⟩)), (20, .int .i64 x429), (7, .pointer (some ⟨b443, 0, none⟩)), (1, .int .i64 a1), (5, .int .i64 x429), (9, v317), (10, .int .i64 (a0.length : Int)), (11, .int .i64 x430)] ?_
  refine r_step rfl trivial (o_ldb (v := .string ⟨⟨x437.Put.b⟩⟩) hS447 (i := 0) rfl rfl (by kernel_rfl)) ?_
  refine xq 2 [(24, .pointer (some ⟨b443, 1, none⟩)), (23, .int .i64 (x437.Put.b.length : Int)), (20, .int .i64 x429), (7, .pointer (some ⟨b443, 0, none⟩)), (1, .int .i64 a1), (5, .int .i64 x429), (9, v317), (10, .int .i64 (a0.length : Int)), (11, .int .i64 x430)] ?_
  refine r_step rfl trivial (o_ldb (v := .int .i64 x437.To) hS447 (i := 0) rfl rfl (by kernel_rfl)) ?_
  refine xq 1 [(26, .pointer (some ⟨b443, 0, none⟩)), (25, .int .i64 x437.To), (23, .int .i64 (x437.Put.b.length : Int)), (20, .int .i64 x429), (1, .int .i64 a1), (5, .int .i64 x429), (9, v317), (10, .int .i64 (a0.length : Int)), (11, .int .i64 x430)] ?_
  refine r_step rfl trivial (o_ldb (v := .int .i64 x437.From) hS447 (i := 0) rfl rfl (by kernel_rfl)) ?_
  refine xe 4 [(5, .int .i64 (w64 (x429 + (w64 ((x437.Put.b.length : Int) - (w64 (x437.To - x437.From))))))), (1, .int .i64 a1), (9, v317), (10, .int .i64 (a0.length : Int)), (11, .int .i64 x430)] ?_
  obtain rfl := Option.some.inj ho452
  exact ⟨_, w64 (x429 + (w64 ((x437.Put.b.length : Int) - (w64 (x437.To - x437.From))))), rfl, rfl, (hS447.takeN 0)⟩
  refine r_step rfl trivial (o_cmp rfl rfl (c_leq_F hp455)) ?_
  refine xe 1 [(15, .bool false), (7, .pointer (some ⟨b443, 0, none⟩)), (1, .int .i64 a1), (5, .int .i64 x429), (9, v317), (10, .int .i64 (a0.length : Int)), (11, .int .i64 x430)] ?_
  refine cF 15 rfl ?_
  refine sr r24_7 ?_
  refine xq 1 [(32, .pointer (some ⟨b443, 0, none⟩)), (7, .pointer (some ⟨b443, 0, none⟩)), (1, .int .i64 a1), (5, .int .i64 x429), (9, v317), (10, .int .i64 (a0.length : Int)), (11, .int .i64 x430)] ?_
  refine r_step rfl trivial (o_ldb (v := .int .i64 x437.From) hS447 (i := 0) rfl rfl (by kernel_rfl)) ?_
  refine xq 1 [(34, .int .i64 a1), (33, .int .i64 x437.From), (7, .pointer (some ⟨b443, 0, none⟩)), (1, .int .i64 a1), (5, .int .i64 x429), (9, v317), (10, .int .i64 (a0.length : Int)), (11, .int .i64 x430)] ?_
  rcases ifs ho452 with ⟨hp457, ho452⟩ | ⟨hp457, ho452⟩
  refine r_step rfl trivial (o_cmp rfl rfl (c_lss_T hp457)) ?_
  refine xe 1 [(31, .bool true), (7, .pointer (some ⟨b443, 0, none⟩)), (1, .int .i64 a1), (5, .int .i64 x429), (9, v317), (10, .int .i64 (a0.length : Int)), (11, .int .i64 x430)] ?_
  refine cT 31 rfl ?_
  refine sr r24_8 ?_
  refine xq 4 [(39, .pointer (some ⟨b443, 0, none⟩)), (38, .int .i64 (w64 (x429 - a1))), (7, .pointer (some ⟨b443, 0, none⟩))] ?_
  refine r_step rfl trivial (o_ldb (v := .int .i64 x437.From) hS447 (i := 0) rfl rfl (by kernel_rfl)) ?_
  refine xq 2 [(42, .pointer (some ⟨b443, 2, none⟩)), (41, .int .i64 (w64 ((w64 (x429 - a1)) + x437.From)))] ?_
  refine r_step rfl trivial (o_ldb (v := .string ⟨⟨x437.Put.b⟩⟩) hS447 (i := 0) rfl rfl (by kernel_rfl)) ?_
  refine xe 3 [(4, .int .i64 (w64 ((w64 ((w64 (x429 - a1)) + x437.From)) + (x437.Put.b.length : Int))))] ?_
  refine rt ?_
  refine blkX_ret ?_
  refine blkX_ret ?_
  refine blkX_ret ?_
  refine ⟨rfl, ?_⟩
  obtain rfl := Option.some.inj ho452
  obtain rfl := Option.some.inj ho426
  obtain rfl := Option.some.inj hm
  refine ⟨_, _, _, ResL.tmp rfl (ResL.nil), hS447, ?_⟩
  exact rfl
  refine r_step rfl trivial (o_cmp rfl rfl (c_lss_F hp457)) ?_
  refine xe 1 [(31, .bool false), (7, .pointer (some ⟨b443, 0, none⟩)), (1, .int .i64 a1), (5, .int .i64 x429), (9, v317), (10, .int .i64 (a0.length : Int)), (11, .int .i64 x430)] ?_
  refine kF 31 rfl ?_
  obtain rfl := Option.some.inj ho452
  exact ⟨_, x429, rfl, rfl, (hS447.takeN 0)⟩
  refine r_step rfl trivial (o_cmp rfl rfl (c_lss_F hp435)) ?_
  refine xf [(12, .bool false), (1, .int .i64 a1), (5, .int .i64 x429), (9, v317), (10, .int .i64 (a0.length : Int)), (11, .int .i64 x430)] ?_
  refine sq ?_
  refine cF 12 rfl ?_
  refine xt 0 ?_
  refine blkX_hit ?_
  obtain rfl := Option.some.inj ho426
  exact ⟨_, x429, rfl, rfl, hS432⟩

def r21_0 : List COp := [u 4 (.assign (.const (.slice none 0 0))), u 5 (.assign (ci 0))]
def r21_1 : List COp := [u 11 (.move (t 0)), u 12 (cb .len #[(t 11)] #[35]), u 13 (.move (t 1)), u 14 (cf 20 #[(t 12), (t 13)] #[3, 22]), u 6 (.assign (t 14))]
def r21_2 : List COp := [u 15 (.move (t 6)), u 16 (.binOp .neq 32 (t 15) (ci 0) 32)]
def r21_3 : List COp := [u 17 (.move (t 6)), u 4 (.assign (.const (.slice none 0 0))), u 5 (.assign (t 17))]
def r21_4 : List COp := [u 7 (.assign (.const (.slice none 0 0)))]
def r21_5 : List COp := [u 8 (.assign (ci 0))]
def r21_6 : List COp := [u 18 (.move (t 1)), u 19 (cb .len #[(t 18)] #[22]), u 20 (.move (ci 0))]
def r21_7 : List COp := [u 21 (.binOp .lss 3 (t 20) (t 19) 3)]
def r21_8 : List COp := [u 22 (.indexAddr 22 (t 18) (t 20)), u 23 (.load 29 (t 22)), u 10 (.alloc 29), o (.store 29 (t 10) (t 23))]
def r21_9 : List COp := [u 24 (.move (t 7)), u 25 (.move (t 0)), u 26 (.move (t 8)), u 27 (.fieldAddr 29 (t 10) 0), u 28 (.load 3 (t 27)), u 29 (.fieldAddr 29 (t 10) 0), u 30 (.load 3 (t 29)), u 31 (.slice 35 (t 25) (some (t 26)) (some (t 28)) (some (t 30))), u 32 (cb .append #[(t 24), (t 31)] #[35, 35]), u 7 (.assign (t 32))]
def r21_10 : List COp := [u 33 (.move (t 7)), u 34 (.fieldAddr 29 (t 10) 2), u 35 (.load 9 (t 34)), u 36 (cb .append #[(t 33), (t 35)] #[35, 9]), u 7 (.assign (t 36))]
def r21_11 : List COp := [u 37 (.fieldAddr 29 (t 10) 1), u 38 (.load 3 (t 37)), u 8 (.assign (t 38))]
def r21_12 : List COp := [u 39 (.binOp .add 3 (t 20) (ci 1) 3), u 20 (.move (t 39))]
def r21_13 : List COp := [u 40 (.move (t 7)), u 41 (.move (t 0)), u 42 (.move (t 8)), u 43 (.slice 35 (t 41) (some (t 42)) none none), u 44 (cb .append #[(t 40), (t 43)] #[35, 35]), u 7 (.assign (t 44))]
def r21_14 : List COp := [u 45 (.move (t 7)), u 46 (cb .len #[(t 45)] #[35]), u 47 (.binOp .gtr 3 (t 46) (ci 16384) 3)]
def r21_15 : List COp := [u 4 (.assign (.const (.slice none 0 0))), u 5 (.assign (ci 4))]
def r21_16 : List COp := [u 48 (.move (t 7)), u 49 (cb .append #[(.const (.slice none 0 0)), (t 48)] #[35, 35]), u 4 (.assign (t 49)), u 5 (.assign (ci 0))]
def edit_Apply_l0 (F : Nat) (a0 : List UInt8) (a1 : List api_Edit) : Nat → (List UInt8) → Int → Int → Option ((List UInt8) × Int)
  | 0, _, _, _ => none
  | n + 1, x882, x886, x887 =>
    if x887 < (a1.length : Int) then
      if 0 ≤ x887 ∧ x887 < (a1.length : Int) then
        (a1[x887.toNat]?).bind fun x894 =>
        if 0 ≤ x886 ∧ x886 ≤ x894.From ∧ x894.From ≤ (a0.length : Int) then
          if x882.length + ((a0.take x894.From.toNat).drop x886.toNat).length ≤ 140737488355328 then
            if (x882 ++ ((a0.take x894.From.toNat).drop x886.toNat)).length + x894.Put.b.length ≤ 140737488355328 then
              edit_Apply_l0 F a0 a1 n ((x882 ++ ((a0.take x894.From.toNat).drop x886.toNat)) ++ x894.Put.b) x894.To (w64 (x887 + 1))
            else none
          else none
        else none
      else none
    else
      some (x882, x886)
def edit_Apply (F : Nat) (a0 : List UInt8) (a1 : List api_Edit) : Option ((List UInt8) × Int) :=
  (edit_Check F (a0.length : Int) a1).bind fun r700 =>
  if r700 = (0 : Int) then
    ((edit_Apply_l0 F a0 a1 F [] 0 0) : Option ((List UInt8) × Int)).bind fun o => match o with
      | (x930, x934) => if 0 ≤ x934 ∧ x934 ≤ (a0.length : Int) ∧ (a0.length : Int) ≤ (a0.length : Int) then
        if x930.length + ((a0.take (a0.length : Int).toNat).drop x934.toNat).length ≤ 140737488355328 then
          if (16384 : Int) < ((x930 ++ ((a0.take (a0.length : Int).toNat).drop x934.toNat)).length : Int) then
            some ([], 4)
          else
            if ([] : List UInt8).length + (x930 ++ ((a0.take (a0.length : Int).toNat).drop x934.toNat)).length ≤ 140737488355328 then
              some (([] : List UInt8) ++ (x930 ++ ((a0.take (a0.length : Int).toNat).drop x934.toNat)), 0)
            else none
        else none
      else none
  else
    some ([], r700)
theorem edit_Apply_ok (F : Nat) {h : AH} {Z : Zn} {a0 : List UInt8} {a1 : List api_Edit} {v470 : Value} {v472 : Value} (hP : Pre Z h []) (q469 : RS (α := UInt8) Z v470 a0) (q471 : RS (α := api_Edit) Z v472 a1) {r : (List UInt8) × Int} (hm : edit_Apply F a0 a1 = some r) :
    ∃ v h' Z' A', callI Go.Proofs.Try.prog 21 [v470, v472] h = some (v, h') ∧ St h (idsL []) Z (0, 0) Z' h' A' ∧ ∃ v690 : Value, ∃ c691 : List Value, .tuple #[v690, .int .i64 r.2] = v ∧ A' = [.gs v690 c691 (csz UInt8)] ∧ RCs (α := UInt8) Z' c691 r.1 := by
  refine fn_intro (A := []) (Q := fun v Z' A' => ∃ v690 : Value, ∃ c691 : List Value, .tuple #[v690, .int .i64 r.2] = v ∧ A' = [.gs v690 c691 (csz UInt8)] ∧ RCs (α := UInt8) Z' c691 r.1) Go.Proofs.Try.func21 rfl rfl (by kernel_rfl) hP ?_
  intro hs hS
  unfold edit_Apply at hm
  replace hS : St hs [] Z (0, 0) Z hs [] := hS
  refine sr r21_0 ?_
  refine xe 2 [(0, v470), (1, v472)] ?_
  refine sq ?_
  refine sr r21_1 ?_
  refine xq 1 [(11, v470), (0, v470), (1, v472)] ?_
  refine r_step rfl trivial (o_len rfl (RS.len q469) ⟨_, Go.Proofs.Try.underlying35⟩) ?_
  refine xq 1 [(13, v472), (12, .int .i64 (a0.length : Int)), (0, v470), (1, v472)] ?_
  obtain ⟨r700, hx701, hm⟩ := obind hm
  obtain ⟨v702, h703, hcl704, hSc705, rfl⟩ := edit_Check_ok F hS.inv q471 hx701
  have hS706 := St.call (A := []) (B := []) hS hSc705
  replace hS706 : St _ _ _ _ _ _ [] := hS706
  refine r_step rfl trivial (o_call hcl704 rfl rfl rfl) ?_
  refine xe 1 [(6, .int .i64 r700), (0, v470), (1, v472)] ?_
  refine sr r21_2 ?_
  refine xq 1 [(15, .int .i64 r700), (6, .int .i64 r700), (0, v470), (1, v472)] ?_
  rcases ifs hm with ⟨hp708, hm⟩ | ⟨hp708, hm⟩
  refine r_step rfl trivial (o_cmp rfl rfl (c_neq_F hp708)) ?_
  refine xf [(16, .bool false), (6, .int .i64 r700), (0, v470), (1, v472)] ?_
  refine kF 16 rfl ?_
  refine sr r21_4 ?_
  refine xe 1 [(7, .slice none 0 0), (0, v470), (1, v472)] ?_
  refine sr r21_5 ?_
  refine xe 1 [(8, .int .i64 0), (7, .slice none 0 0), (0, v470), (1, v472)] ?_
  refine sq ?_
  refine sr r21_6 ?_
  refine xq 1 [(18, v472), (8, .int .i64 0), (7, .slice none 0 0), (0, v470)] ?_
  refine r_step rfl trivial (o_len rfl (RS.len q471) ⟨_, Go.Proofs.Try.underlying22⟩) ?_
  refine xe 1 [(20, .int .i64 0), (19, .int .i64 (a1.length : Int)), (18, v472), (8, .int .i64 0), (7, .slice none 0 0), (0, v470)] ?_
  obtain ⟨o878, ho877, hm⟩ := obind hm
  refine W_join [0, 7, 8] (fun l h => ∃ Z929 : Zn, ∃ x930 : List UInt8, ∃ x934 : Int, ∃ v932 : Value, ∃ c933 : List Value, (x930, x934) = o878 ∧ RCs (α := UInt8) Z929 c933 x930 ∧ l = [(0, v470), (7, v932), (8, .int .i64 x934)] ∧ St hs [] Z (0, 0) Z929 h [.gs v932 c933 (csz UInt8)]) ?_ ?_
  rintro l h935 ⟨Z929, x930, x934, v932, c933, rfl, q931, rfl, hS936⟩
  try dsimp only at hm
  refine sr r21_13 ?_
  refine xq 3 [(42, .int .i64 x934), (41, v470), (40, v932), (7, v932)] ?_
  obtain ⟨hc940, hm⟩ := chk hm
  refine r_exv rfl trivial (o_slice (a := x934) (b := (a0.length : Int)) (q469.mono hS936.zle) rfl (by kernel_rfl : slTy _ _ = some (csz UInt8)) ⟨_, rfl⟩ rfl hc940.1 hc940.2.1 hc940.2.2) ?_
  intro v937 q938
  obtain ⟨c942, nw941⟩ := RS.news q938 (hS936).inv
  obtain ⟨hc948, hm⟩ := chk hm
  refine r_ex3 rfl trivial (o_app (ys := (a0.take (a0.length : Int).toNat).drop x934.toNat) (by_ := 1) hS936 (i := 0) rfl q931 nw941 rfl rfl (by kernel_rfl) (by omega) (by omega)) ?_
  rintro v943 c944 h945 ⟨q947, hS946⟩
  replace hS946 : St _ _ _ _ _ _ [.gs v943 c944 (csz UInt8)] := hS946
  refine xe 1 [(7, v943)] ?_
  refine sq ?_
  refine sr r21_14 ?_
  refine xq 1 [(45, v943), (7, v943)] ?_
  refine r_step rfl trivial (o_len rfl (hS946.glen (i := 0) rfl q947) ⟨_, Go.Proofs.Try.underlying35⟩) ?_
  rcases ifs hm with ⟨hp950, hm⟩ | ⟨hp950, hm⟩
  refine r_step rfl trivial (o_cmp rfl rfl (c_gtr_T hp950)) ?_
  refine xf [(47, .bool true), (7, v943)] ?_
  refine cT 47 rfl ?_
  refine sr r21_15 ?_
  refine xe 2 [(5, .int .i64 4), (4, .slice none 0 0)] ?_
  refine rt ?_
  refine ⟨rfl, ?_⟩
  have hS951 := hS946.nilGs (csz UInt8)
  obtain rfl := Option.some.inj hm
  refine ⟨_, _, _, ResL.tmp rfl (ResL.tmp rfl (ResL.nil)), (hS951.takeN 1), ?_⟩
  exact ⟨(.slice none 0 0), [], rfl, rfl, (RCs.nil0 _)⟩
  refine r_step rfl trivial (o_cmp rfl rfl (c_gtr_F hp950)) ?_
  refine xf [(47, .bool false), (7, v943)] ?_
  refine kF 47 rfl ?_
  refine sr r21_16 ?_
  refine xq 1 [(48, v943)] ?_
  have hS953 := hS946.nilGs (csz UInt8)
  obtain ⟨hc961, hm⟩ := chk hm
  refine r_ex3 rfl trivial (o_app (ys := x930 ++ ((a0.take (a0.length : Int).toNat).drop x934.toNat)) (by_ := 1) hS953 (i := 0) rfl (RCs.nil0 _) ((hS953).gnews (j := 1) rfl q947) rfl rfl (by kernel_rfl) (by omega) (by omega)) ?_
  rintro v956 c957 h958 ⟨q960, hS959⟩
  replace hS959 : St _ _ _ _ _ _ [.gs v956 c957 (csz UInt8), .gs v943 c944 (csz UInt8)] := hS959
  refine xe 2 [(5, .int .i64 0), (4, v956)] ?_
  refine rt ?_
  refine ⟨rfl, ?_⟩
  obtain rfl := Option.some.inj hm
  refine ⟨_, _, _, ResL.tmp rfl (ResL.tmp rfl (ResL.nil)), (hS959.takeN 1), ?_⟩
  exact ⟨v956, c957, rfl, rfl, q960⟩
  refine bk 0 ?_
  have hS879 := hS706.nilGs (csz UInt8)
  refine lp [0, 7, 8, 18, 19, 20] (fun n l h => ∃ Z881 : Zn, ∃ x882 : List UInt8, ∃ x886 : Int, ∃ x887 : Int, ∃ v884 : Value, ∃ c885 : List Value, edit_Apply_l0 F a0 a1 n x882 x886 x887 = some o878 ∧ RCs (α := UInt8) Z881 c885 x882 ∧ l = [(0, v470), (7, v884), (8, .int .i64 x886), (18, v472), (19, .int .i64 (a1.length : Int)), (20, .int .i64 x887)] ∧ St hs [] Z (0, 0) Z881 h [.gs v884 c885 (csz UInt8)]) F ⟨_, [], 0, 0, (.slice none 0 0), [], ho877, (RCs.nil0 _), rfl, hS879⟩ ?_
  rintro n890 l h888 ⟨Z881, x882, x886, x887, v884, c885, ho877, q883, rfl, hS889⟩
  rcases n890 with _ | n890
  cases (show none = some o878 from ho877)
  rw [edit_Apply_l0] at ho877
  refine sr r21_7 ?_
  rcases ifs ho877 with ⟨hp892, ho877⟩ | ⟨hp892, ho877⟩
  refine r_step rfl trivial (o_cmp rfl rfl (c_lss_T hp892)) ?_
  refine xf [(21, .bool true), (0, v470), (7, v884), (8, .int .i64 x886), (18, v472), (19, .int .i64 (a1.length : Int)), (20, .int .i64 x887)] ?_
  refine sq ?_
  refine kT 21 rfl ?_
  refine sq ?_
  refine bk 1 ?_
  refine sr r21_8 ?_
  obtain ⟨hc893, ho877⟩ := chk ho877
  refine r_step rfl trivial (o_index rfl rfl (by kernel_rfl : slTy _ _ = some (csz api_Edit)) (RS.based (q471.mono hS889.zle) (by omega)) hc893.1 hc893.2) ?_
  obtain ⟨x894, hx895, ho877⟩ := obind ho877
  obtain ⟨cs896, hc897, he898⟩ := RS.elz (q471.mono hS889.zle) (i := x887) hx895
  obtain rfl := rc_api_Edit hc897
  refine r_step rfl trivial (o_lde (w := .agg #[.int .i64 x894.From, .int .i64 x894.To, .string ⟨⟨x894.Put.b⟩⟩]) (he898 _ (hS889.zin0 (Zle.refl _))) rfl (by kernel_rfl)) ?_
  refine r_blk rfl trivial (o_alloc (cs := [.int .i64 0, .int .i64 0, .string ⟨⟨[]⟩⟩]) (by kernel_rfl)) hS889 ?_
  intro b900 h901 hS902
  refine r_ex1 rfl trivial (o_stb (vs := [.int .i64 x894.From, .int .i64 x894.To, .string ⟨⟨x894.Put.b⟩⟩]) (cells' := [.int .i64 x894.From, .int .i64 x894.To, .string ⟨⟨x894.Put.b⟩⟩]) (L' := [.blk b900 [.int .i64 x894.From, .int .i64 x894.To, .string ⟨⟨x894.Put.b⟩⟩], .gs v884 c885 (csz UInt8)]) hS902 (i := 0) rfl rfl rfl rfl (by kernel_rfl) rfl rfl rfl rfl) ?_
  intro h903 hS904
  refine xf [(10, .pointer (some ⟨b900, 0, none⟩)), (0, v470), (7, v884), (8, .int .i64 x886), (18, v472), (19, .int .i64 (a1.length : Int)), (20, .int .i64 x887)] ?_
  refine sr r21_9 ?_
  refine xq 4 [(27, .pointer (some ⟨b900, 0, none⟩)), (26, .int .i64 x886), (25, v470), (24, v884), (10, .pointer (some ⟨b900, 0, none⟩)), (0, v470), (7, v884), (18, v472), (19, .int .i64 (a1.length : Int)), (20, .int .i64 x887)] ?_
  refine r_step rfl trivial (o_ldb (v := .int .i64 x894.From) hS904 (i := 0) rfl rfl (by kernel_rfl)) ?_
  refine xq 1 [(29, .pointer (some ⟨b900, 0, none⟩)), (28, .int .i64 x894.From), (26, .int .i64 x886), (25, v470), (24, v884), (10, .pointer (some ⟨b900, 0, none⟩)), (0, v470), (7, v884), (18, v472), (19, .int .i64 (a1.length : Int)), (20, .int .i64 x887)] ?_
  refine r_step rfl trivial (o_ldb (v := .int .i64 x894.From) hS904 (i := 0) rfl rfl (by kernel_rfl)) ?_
  obtain ⟨hc908, ho877⟩ := chk ho877
  refine r_exv rfl trivial (o_slice3 (a := x886) (b := x894.From) (q469.mono hS889.zle) rfl (by kernel_rfl : slTy _ _ = some (csz UInt8)) ⟨_, rfl⟩ rfl rfl hc908.1 hc908.2.1 hc908.2.2) ?_
  rintro v905 ⟨q906, cp907⟩
  obtain ⟨c910, nw909⟩ := RS.news q906 (hS904).inv
  obtain ⟨hc916, ho877⟩ := chk ho877
  refine r_ex3 rfl trivial (o_app (ys := (a0.take x894.From.toNat).drop x886.toNat) (by_ := 1) hS904 (i := 1) rfl q883 nw909 rfl rfl (by kernel_rfl) (by omega) (by omega)) ?_
  rintro v911 c912 h913 ⟨q915, hS914⟩
  replace hS914 : St _ _ _ _ _ _ [.blk b900 [.int .i64 x894.From, .int .i64 x894.To, .string ⟨⟨x894.Put.b⟩⟩], .gs v911 c912 (csz UInt8)] := hS914
  refine xe 1 [(7, v911), (10, .pointer (some ⟨b900, 0, none⟩)), (0, v470), (18, v472), (19, .int .i64 (a1.length : Int)), (20, .int .i64 x887)] ?_
  refine sr r21_10 ?_
  refine xq 2 [(34, .pointer (some ⟨b900, 2, none⟩)), (33, v911), (7, v911), (10, .pointer (some ⟨b900, 0, none⟩)), (0, v470), (18, v472), (19, .int .i64 (a1.length : Int)), (20, .int .i64 x887)] ?_
  refine r_step rfl trivial (o_ldb (v := .string ⟨⟨x894.Put.b⟩⟩) hS914 (i := 0) rfl rfl (by kernel_rfl)) ?_
  obtain ⟨hc923, ho877⟩ := chk ho877
  refine r_ex3 rfl trivial (o_app (ys := x894.Put.b) (by_ := 1) hS914 (i := 1) rfl q915 (str_news _ _) rfl rfl (by kernel_rfl) (by omega) (by omega)) ?_
  rintro v918 c919 h920 ⟨q922, hS921⟩
  replace hS921 : St _ _ _ _ _ _ [.blk b900 [.int .i64 x894.From, .int .i64 x894.To, .string ⟨⟨x894.Put.b⟩⟩], .gs v918 c919 (csz UInt8)] := hS921
  refine xe 1 [(7, v918), (10, .pointer (some ⟨b900, 0, none⟩)), (0, v470), (18, v472), (19, .int .i64 (a1.length : Int)), (20, .int .i64 x887)] ?_
  refine rg r21_11 ?_
  refine xq 1 [(37, .pointer (some ⟨b900, 1, none⟩)), (7, v918), (0, v470), (18, v472), (19, .int .i64 (a1.length : Int)), (20, .int .i64 x887)] ?_
  refine r_step rfl trivial (o_ldb (v := .int .i64 x894.To) hS921 (i := 0) rfl rfl (by kernel_rfl)) ?_
  refine xe 1 [(8, .int .i64 x894.To), (7, v918), (0, v470), (18, v472), (19, .int .i64 (a1.length : Int)), (20, .int .i64 x887)] ?_
  refine rg r21_12 ?_
  refine xe 2 [(20, .int .i64 (w64 (x887 + 1))), (8, .int .i64 x894.To), (7, v918), (0, v470), (18, v472), (19, .int .i64 (a1.length : Int))] ?_
  exact ⟨n890, Nat.lt_succ_self _, ⟨_, (x882 ++ ((a0.take x894.From.toNat).drop x886.toNat)) ++ x894.Put.b, x894.To, w64 (x887 + 1), v918, c919, ho877, q922, rfl, ((hS921.front 1 rfl).takeN 1)⟩⟩
  refine r_step rfl trivial (o_cmp rfl rfl (c_lss_F hp892)) ?_
  refine xf [(21, .bool false), (0, v470), (7, v884), (8, .int .i64 x886), (18, v472), (19, .int .i64 (a1.length : Int)), (20, .int .i64 x887)] ?_
  refine sq ?_
  refine cF 21 rfl ?_
  refine xt 0 ?_
  refine blkX_hit ?_
  obtain rfl := Option.some.inj ho877
  exact ⟨_, x882, x886, v884, c885, rfl, q883, rfl, hS889⟩
  refine r_step rfl trivial (o_cmp rfl rfl (c_neq_T hp708)) ?_
  refine xf [(16, .bool true), (6, .int .i64 r700), (0, v470), (1, v472)] ?_
  refine cT 16 rfl ?_
  refine sr r21_3 ?_
  refine xe 3 [(5, .int .i64 r700), (4, .slice none 0 0)] ?_
  refine rt ?_
  refine ⟨rfl, ?_⟩
  have hS967 := hS706.nilGs (csz UInt8)
  obtain rfl := Option.some.inj hm
  refine ⟨_, _, _, ResL.tmp rfl (ResL.tmp rfl (ResL.nil)), hS967, ?_⟩
  exact ⟨(.slice none 0 0), [], rfl, rfl, (RCs.nil0 _)⟩

def r14_0 : List COp := [u 4 (.assign (ci 0))]
def r14_1 : List COp := [u 6 (.move (t 0)), u 7 (.move (t 1)), u 8 (.binOp .rem 3 (t 6) (t 7) 3), u 5 (.assign (t 8))]
def r14_2 : List COp := [u 9 (.move (t 5)), u 10 (.binOp .lss 3 (t 9) (ci 0) 3)]
def r14_3 : List COp := [u 11 (.move (t 5)), u 12 (.move (t 1)), u 13 (.binOp .add 3 (t 11) (t 12) 3), u 5 (.assign (t 13))]
def r14_4 : List COp := [u 14 (.move (t 5)), u 4 (.assign (t 14))]
def correctorlaw4_within (F : Nat) (a0 : Int) (a1 : Int) : Option Int :=
  if ¬ a1 = (0 : Int) then
    ((if (a0.tmod a1) < (0 : Int) then
        some (w64 ((a0.tmod a1) + a1))
      else
        some (a0.tmod a1)) : Option Int).bind fun o => match o with
      | x981 => some x981
  else none
theorem correctorlaw4_within_ok (F : Nat) {h : AH} {Z : Zn} {a0 : Int} {a1 : Int} (hI : Inv Z h) {r : Int} (hm : correctorlaw4_within F a0 a1 = some r) :
    ∃ v h', callI Go.Proofs.Try.prog 14 [.int .i64 a0, .int .i64 a1] h = some (v, h') ∧ St h [] Z (0, 0) Z h' [] ∧ v = .int .i64 r := by
  refine fn_plain (Q := fun v => v = .int .i64 r) Go.Proofs.Try.func14 rfl rfl hI ?_
  intro hs hS
  unfold correctorlaw4_within at hm
  refine sr r14_0 ?_
  refine xe 1 [(0, .int .i64 a0), (1, .int .i64 a1)] ?_
  refine sr r14_1 ?_
  refine xq 2 [(7, .int .i64 a1), (6, .int .i64 a0), (1, .int .i64 a1)] ?_
  obtain ⟨hc975, hm⟩ := chk hm
  refine r_step rfl trivial (o_rem hc975 rfl rfl) ?_
  refine xe 1 [(5, .int .i64 (a0.tmod a1)), (1, .int .i64 a1)] ?_
  refine sq ?_
  obtain ⟨o978, ho977, hm⟩ := obind hm
  refine W_seqJoin0 [5] (fun l h => ∃ Z980 : Zn, ∃ x981 : Int, x981 = o978 ∧ l = [(5, .int .i64 x981)] ∧ St hs [] Z (0, 0) Z980 h []) (by kernel_rfl) ?_ ?_
  rintro l h982 ⟨Z980, x981, rfl, rfl, hS983⟩
  try dsimp only at hm
  refine sr r14_4 ?_
  refine xe 2 [(4, .int .i64 x981)] ?_
  refine rt ?_
  refine ⟨rfl, ?_⟩
  obtain rfl := Option.some.inj hm
  refine ⟨_, _, _, ResL.tmp rfl (ResL.nil), hS983, ?_⟩
  exact rfl
  refine rg r14_2 ?_
  refine xq 1 [(9, .int .i64 (a0.tmod a1)), (5, .int .i64 (a0.tmod a1)), (1, .int .i64 a1)] ?_
  rcases ifs ho977 with ⟨hp979, ho977⟩ | ⟨hp979, ho977⟩
  refine r_step rfl trivial (o_cmp rfl rfl (c_lss_T hp979)) ?_
  refine xf [(10, .bool true), (5, .int .i64 (a0.tmod a1)), (1, .int .i64 a1)] ?_
  refine cT 10 rfl ?_
  refine rg r14_3 ?_
  refine xe 4 [(5, .int .i64 (w64 ((a0.tmod a1) + a1)))] ?_
  obtain rfl := Option.some.inj ho977
  exact ⟨_, w64 ((a0.tmod a1) + a1), rfl, rfl, hS⟩
  refine r_step rfl trivial (o_cmp rfl rfl (c_lss_F hp979)) ?_
  refine xf [(10, .bool false), (5, .int .i64 (a0.tmod a1)), (1, .int .i64 a1)] ?_
  refine kF 10 rfl ?_
  obtain rfl := Option.some.inj ho977
  exact ⟨_, a0.tmod a1, rfl, rfl, hS⟩

def r13_0 : List COp := [u 2 (.assign (.const (.bool false)))]
def r13_1 : List COp := [u 3 (.assign (ci 0))]
def r13_2 : List COp := [u 4 (.assign (ci 0))]
def r13_3 : List COp := [u 5 (.move (t 4)), u 6 (.move (t 0)), u 7 (cb .len #[(t 6)] #[22]), u 8 (.binOp .lss 3 (t 5) (t 7) 3)]
def r13_4 : List COp := [u 9 (.move (t 4)), u 10 (.binOp .add 3 (t 9) (ci 1) 3), u 4 (.assign (t 10))]
def r13_5 : List COp := [u 11 (.move (t 3)), u 12 (.move (t 0)), u 13 (.move (t 4)), u 14 (.indexAddr 22 (t 12) (t 13)), u 15 (.fieldAddr 29 (t 14) 2), u 16 (.load 9 (t 15)), u 17 (cb .len #[(t 16)] #[9]), u 18 (.binOp .add 3 (t 11) (t 17) 3), u 3 (.assign (t 18))]
def r13_6 : List COp := [u 19 (.move (t 0)), u 20 (cb .len #[(t 19)] #[22]), u 21 (.binOp .leq 3 (t 20) (ci 210) 3), u 22 (.move (t 21)), gT 22 (some 23) (.move (t 3)), gT 22 (some 24) (.binOp .leq 3 (t 23) (ci 3000) 3), u 25 (.pick (t 22) (t 24) (.const (.bool false))), u 2 (.assign (t 25))]
def correctorlaw4_Few_l0 (F : Nat) (a0 : List api_Edit) : Nat → Int → Int → Option Int
  | 0, _, _ => none
  | n + 1, x1116, x1117 =>
    if x1117 < (a0.length : Int) then
      if 0 ≤ x1117 ∧ x1117 < (a0.length : Int) then
        (a0[x1117.toNat]?).bind fun x1125 =>
        correctorlaw4_Few_l0 F a0 n (w64 (x1116 + (x1125.Put.b.length : Int))) (w64 (x1117 + 1))
      else none
    else
      some x1116
def correctorlaw4_Few (F : Nat) (a0 : List api_Edit) : Option Bool :=
  ((correctorlaw4_Few_l0 F a0 F 0 0) : Option Int).bind fun o => match o with
    | x1133 => if (a0.length : Int) ≤ (210 : Int) then
      if x1133 ≤ (3000 : Int) then
        some true
      else
        some false
    else
      some false
theorem correctorlaw4_Few_ok (F : Nat) {h : AH} {Z : Zn} {a0 : List api_Edit} {v986 : Value} (hI : Inv Z h) (q985 : RS (α := api_Edit) Z v986 a0) {r : Bool} (hm : correctorlaw4_Few F a0 = some r) :
    ∃ v h', callI Go.Proofs.Try.prog 13 [v986] h = some (v, h') ∧ St h [] Z (0, 0) Z h' [] ∧ v = .bool r := by
  refine fn_plain (Q := fun v => v = .bool r) Go.Proofs.Try.func13 rfl rfl hI ?_
  intro hs hS
  unfold correctorlaw4_Few at hm
  refine sr r13_0 ?_
  refine xe 1 [(0, v986)] ?_
  refine sr r13_1 ?_
  refine xe 1 [(3, .int .i64 0), (0, v986)] ?_
  refine sq ?_
  refine sr r13_2 ?_
  refine xe 1 [(4, .int .i64 0), (3, .int .i64 0), (0, v986)] ?_
  obtain ⟨o1114, ho1113, hm⟩ := obind hm
  refine W_join [0, 3] (fun l h => ∃ Z1132 : Zn, ∃ x1133 : Int, x1133 = o1114 ∧ l = [(0, v986), (3, .int .i64 x1133)] ∧ St hs [] Z (0, 0) Z1132 h []) ?_ ?_
  rintro l h1134 ⟨Z1132, x1133, rfl, rfl, hS1135⟩
  try dsimp only at hm
  refine sr r13_6 ?_
  refine xq 1 [(19, v986), (3, .int .i64 x1133)] ?_
  refine r_step rfl trivial (o_len rfl (RS.len (q985.mono hS1135.zle)) ⟨_, Go.Proofs.Try.underlying22⟩) ?_
  rcases ifs hm with ⟨hp1136, hm⟩ | ⟨hp1136, hm⟩
  refine r_step rfl trivial (o_cmp rfl rfl (c_leq_T hp1136)) ?_
  refine xq 2 [(23, .int .i64 x1133), (22, .bool true)] ?_
  rcases ifs hm with ⟨hp1137, hm⟩ | ⟨hp1137, hm⟩
  refine r_step rfl rfl (o_cmp rfl rfl (c_leq_T hp1137)) ?_
  refine xe 2 [(2, .bool true)] ?_
  refine rt ?_
  refine ⟨rfl, ?_⟩
  obtain rfl := Option.some.inj hm
  refine ⟨_, _, _, ResL.tmp rfl (ResL.nil), hS1135, ?_⟩
  exact rfl
  refine r_step rfl rfl (o_cmp rfl rfl (c_leq_F hp1137)) ?_
  refine xe 2 [(2, .bool false)] ?_
  refine rt ?_
  refine ⟨rfl, ?_⟩
  obtain rfl := Option.some.inj hm
  refine ⟨_, _, _, ResL.tmp rfl (ResL.nil), hS1135, ?_⟩
  exact rfl
  refine r_step rfl trivial (o_cmp rfl rfl (c_leq_F hp1136)) ?_
  refine xe 5 [(2, .bool false)] ?_
  refine rt ?_
  refine ⟨rfl, ?_⟩
  obtain rfl := Option.some.inj hm
  refine ⟨_, _, _, ResL.tmp rfl (ResL.nil), hS1135, ?_⟩
  exact rfl
  refine bk 0 ?_
  refine lp [0, 3, 4] (fun n l h => ∃ Z1115 : Zn, ∃ x1116 : Int, ∃ x1117 : Int, correctorlaw4_Few_l0 F a0 n x1116 x1117 = some o1114 ∧ l = [(0, v986), (3, .int .i64 x1116), (4, .int .i64 x1117)] ∧ St hs [] Z (0, 0) Z1115 h []) F ⟨_, 0, 0, ho1113, rfl, hS⟩ ?_
  rintro n1120 l h1118 ⟨Z1115, x1116, x1117, ho1113, rfl, hS1119⟩
  rcases n1120 with _ | n1120
  cases (show none = some o1114 from ho1113)
  rw [correctorlaw4_Few_l0] at ho1113
  refine sq ?_
  refine sr r13_3 ?_
  refine xq 2 [(6, v986), (5, .int .i64 x1117), (0, v986), (3, .int .i64 x1116), (4, .int .i64 x1117)] ?_
  refine r_step rfl trivial (o_len rfl (RS.len (q985.mono hS1119.zle)) ⟨_, Go.Proofs.Try.underlying22⟩) ?_
  rcases ifs ho1113 with ⟨hp1123, ho1113⟩ | ⟨hp1123, ho1113⟩
  refine r_step rfl trivial (o_cmp rfl rfl (c_lss_T hp1123)) ?_
  refine xf [(8, .bool true), (0, v986), (3, .int .i64 x1116), (4, .int .i64 x1117)] ?_
  refine kT 8 rfl ?_
  refine sq ?_
  refine bk 1 ?_
  refine rg r13_5 ?_
  refine xq 3 [(13, .int .i64 x1117), (12, v986), (11, .int .i64 x1116), (0, v986), (3, .int .i64 x1116), (4, .int .i64 x1117)] ?_
  obtain ⟨hc1124, ho1113⟩ := chk ho1113
  refine r_step rfl trivial (o_index rfl rfl (by kernel_rfl : slTy _ _ = some (csz api_Edit)) (RS.based (q985.mono hS1119.zle) (by omega)) hc1124.1 hc1124.2) ?_
  refine xq 1 [(15, .pointer (some (elemA v986 x1117 (csz api_Edit) 2))), (11, .int .i64 x1116), (0, v986), (3, .int .i64 x1116), (4, .int .i64 x1117)] ?_
  obtain ⟨x1125, hx1126, ho1113⟩ := obind ho1113
  obtain ⟨cs1127, hc1128, he1129⟩ := RS.elz (q985.mono hS1119.zle) (i := x1117) hx1126
  obtain rfl := rc_api_Edit hc1128
  refine r_step rfl trivial (o_lde (w := .string ⟨⟨x1125.Put.b⟩⟩) (he1129 _ (hS1119.zin0 (Zle.refl _))) rfl (by kernel_rfl)) ?_
  refine xe 3 [(3, .int .i64 (w64 (x1116 + (x1125.Put.b.length : Int)))), (0, v986), (4, .int .i64 x1117)] ?_
  refine rg r13_4 ?_
  refine xe 3 [(4, .int .i64 (w64 (x1117 + 1))), (3, .int .i64 (w64 (x1116 + (x1125.Put.b.length : Int)))), (0, v986)] ?_
  exact ⟨n1120, Nat.lt_succ_self _, ⟨_, w64 (x1116 + (x1125.Put.b.length : Int)), w64 (x1117 + 1), ho1113, rfl, hS1119⟩⟩
  refine r_step rfl trivial (o_cmp rfl rfl (c_lss_F hp1123)) ?_
  refine xf [(8, .bool false), (0, v986), (3, .int .i64 x1116), (4, .int .i64 x1117)] ?_
  refine cF 8 rfl ?_
  refine xt 0 ?_
  refine blkX_hit ?_
  obtain rfl := Option.some.inj ho1113
  exact ⟨_, x1116, rfl, rfl, hS1119⟩

def r15_0 : List COp := [u 4 (.assign (.const (.slice none 0 0)))]
def r15_1 : List COp := [u 5 (.assign (.const (.slice none 0 0)))]
def r15_2 : List COp := [u 6 (.assign (ci 0))]
def r15_3 : List COp := [u 9 (.move (t 6)), u 10 (.move (t 1)), u 11 (cb .len #[(t 10)] #[22]), u 12 (.binOp .lss 3 (t 9) (t 11) 3), u 13 (.move (t 12)), gT 13 (some 14) (.move (t 6)), gT 13 (some 15) (.binOp .lss 3 (t 14) (ci 30) 3), u 16 (.pick (t 13) (t 15) (.const (.bool false)))]
def r15_4 : List COp := [u 17 (.move (t 6)), u 18 (.binOp .add 3 (t 17) (ci 1) 3), u 6 (.assign (t 18))]
def r15_5 : List COp := [u 19 (.move (t 1)), u 20 (.move (t 6)), u 21 (.indexAddr 22 (t 19) (t 20)), u 22 (.fieldAddr 29 (t 21) 0), u 23 (.load 3 (t 22)), u 24 (.move (t 0)), u 25 (.binOp .add 3 (t 24) (ci 1) 3), u 26 (cf 14 #[(t 23), (t 25)] #[3, 3]), u 7 (.assign (t 26))]
def r15_6 : List COp := [u 27 (.move (t 7)), u 28 (.move (t 1)), u 29 (.move (t 6)), u 30 (.indexAddr 22 (t 28) (t 29)), u 31 (.fieldAddr 29 (t 30) 1), u 32 (.load 3 (t 31)), u 33 (.move (t 0)), u 34 (.move (t 7)), u 35 (.binOp .sub 3 (t 33) (t 34) 3), u 36 (cb .min #[(t 35), (ci 6)] #[3, 3]), u 37 (.binOp .add 3 (t 36) (ci 1) 3), u 38 (cf 14 #[(t 32), (t 37)] #[3, 3]), u 39 (.binOp .add 3 (t 27) (t 38) 3), u 8 (.assign (t 39))]
def r15_7 : List COpF := [uF 40 (.move (t 5)) .pure [], uF 41 (.move (t 7)) .pure [], uF 42 (.move (t 8)) .pure [], uF 43 (.move (t 1)) .pure [], uF 44 (.move (t 6)) .pure [], uF 45 (.indexAddr 22 (t 43) (t 44)) .pure [], uF 46 (.fieldAddr 29 (t 45) 2) .pure [], uF 47 (.load 9 (t 46)) .look [], uF 48 (.move (t 1)) .pure [], uF 49 (.move (t 6)) .pure [], uF 50 (.indexAddr 22 (t 48) (t 49)) .pure [], uF 51 (.fieldAddr 29 (t 50) 2) .pure [], uF 52 (.load 9 (t 51)) .look [], uF 53 (cb .len #[(t 52)] #[9]) .pure [], uF 54 (cb .min #[(t 53), (ci 20)] #[3, 3]) .pure [], uF 55 (.slice 9 (t 47) none (some (t 54)) none) .pure [], uF 56 (.build 29 #[(0, (t 41)), (1, (t 42)), (2, (t 55))]) .pure [], uF 57 (.buildSlice 22 1 #[(0, (t 56))]) .fresh [], uF 58 (cb .append #[(t 40), (t 57)] #[22, 22]) .make [7, 12], uF 5 (.assign (t 58)) .pure []]
def r15_8 : List COp := [u 59 (.move (t 5)), u 4 (.assign (t 59))]
def correctorlaw4_Good_l0 (F : Nat) (a0 : Int) (a1 : List api_Edit) : Nat → (List api_Edit) → Int → Option (List api_Edit)
  | 0, _, _ => none
  | n + 1, x1452, x1456 =>
    if x1456 < (a1.length : Int) then
      if x1456 < (30 : Int) then
        if 0 ≤ x1456 ∧ x1456 < (a1.length : Int) then
          (a1[x1456.toNat]?).bind fun x1467 =>
          (correctorlaw4_within F x1467.From (w64 (a0 + 1))).bind fun r1473 =>
          if 0 ≤ x1456 ∧ x1456 < (a1.length : Int) then
            (a1[x1456.toNat]?).bind fun x1481 =>
            (correctorlaw4_within F x1481.To (w64 ((imin (w64 (a0 - r1473)) 6) + 1))).bind fun r1487 =>
            if 0 ≤ x1456 ∧ x1456 < (a1.length : Int) then
              (a1[x1456.toNat]?).bind fun x1499 =>
              if 0 ≤ x1456 ∧ x1456 < (a1.length : Int) then
                (a1[x1456.toNat]?).bind fun x1506 =>
                if 0 ≤ (0 : Int) ∧ (0 : Int) ≤ (imin (x1506.Put.b.length : Int) 20) ∧ (imin (x1506.Put.b.length : Int) 20) ≤ (x1499.Put.b.length : Int) then
                  if x1452.length + [(⟨r1473, w64 (r1473 + r1487), (⟨(x1499.Put.b.take (imin (x1506.Put.b.length : Int) 20).toNat).drop (0 : Int).toNat⟩ : Str)⟩ : api_Edit)].length ≤ 4398046511104 then
                    correctorlaw4_Good_l0 F a0 a1 n (x1452 ++ [(⟨r1473, w64 (r1473 + r1487), (⟨(x1499.Put.b.take (imin (x1506.Put.b.length : Int) 20).toNat).drop (0 : Int).toNat⟩ : Str)⟩ : api_Edit)]) (w64 (x1456 + 1))
                  else none
                else none
              else none
            else none
          else none
        else none
      else
        some x1452
    else
      some x1452
def correctorlaw4_Good (F : Nat) (a0 : Int) (a1 : List api_Edit) : Option (List api_Edit) :=
  ((correctorlaw4_Good_l0 F a0 a1 F [] 0) : Option (List api_Edit)).bind fun o => match o with
    | x1534 => some x1534
theorem correctorlaw4_Good_ok (F : Nat) {h : AH} {Z : Zn} {a0 : Int} {a1 : List api_Edit} {v1140 : Value} (hP : Pre Z h []) (q1139 : RS (α := api_Edit) Z v1140 a1) {r : (List api_Edit)} (hm : correctorlaw4_Good F a0 a1 = some r) :
    ∃ v h' Z' A', callI Go.Proofs.Try.prog 15 [.int .i64 a0, v1140] h = some (v, h') ∧ St h (idsL []) Z (0, 0) Z' h' A' ∧ ∃ v1297 : Value, ∃ c1298 : List Value, v1297 = v ∧ A' = [.gs v1297 c1298 (csz api_Edit)] ∧ RCs (α := api_Edit) Z' c1298 r := by
  refine fn_intro (A := []) (Q := fun v Z' A' => ∃ v1297 : Value, ∃ c1298 : List Value, v1297 = v ∧ A' = [.gs v1297 c1298 (csz api_Edit)] ∧ RCs (α := api_Edit) Z' c1298 r) Go.Proofs.Try.func15 rfl rfl (by kernel_rfl) hP ?_
  intro hs hS
  unfold correctorlaw4_Good at hm
  replace hS : St hs [] Z (0, 0) Z hs [] := hS
  refine sr r15_0 ?_
  refine xe 1 [(0, .int .i64 a0), (1, v1140)] ?_
  refine sr r15_1 ?_
  refine xe 1 [(5, .slice none 0 0), (0, .int .i64 a0), (1, v1140)] ?_
  refine sq ?_
  refine sr r15_2 ?_
  refine xe 1 [(6, .int .i64 0), (5, .slice none 0 0), (0, .int .i64 a0), (1, v1140)] ?_
  obtain ⟨o1448, ho1447, hm⟩ := obind hm
  refine W_join [5] (fun l h => ∃ Z1533 : Zn, ∃ x1534 : List api_Edit, ∃ v1536 : Value, ∃ c1537 : List Value, x1534 = o1448 ∧ RCs (α := api_Edit) Z1533 c1537 x1534 ∧ l = [(5, v1536)] ∧ St hs [] Z (0, 0) Z1533 h [.gs v1536 c1537 (csz api_Edit)]) ?_ ?_
  rintro l h1538 ⟨Z1533, x1534, v1536, c1537, rfl, q1535, rfl, hS1539⟩
  try dsimp only at hm
  refine sr r15_8 ?_
  refine xe 2 [(4, v1536)] ?_
  refine rt ?_
  refine ⟨rfl, ?_⟩
  obtain rfl := Option.some.inj hm
  refine ⟨_, _, _, ResL.tmp rfl (ResL.nil), hS1539, ?_⟩
  exact ⟨v1536, c1537, rfl, rfl, q1535⟩
  refine bk 0 ?_
  have hS1449 := hS.nilGs (csz api_Edit)
  refine lp [0, 1, 5, 6] (fun n l h => ∃ Z1451 : Zn, ∃ x1452 : List api_Edit, ∃ x1456 : Int, ∃ v1454 : Value, ∃ c1455 : List Value, correctorlaw4_Good_l0 F a0 a1 n x1452 x1456 = some o1448 ∧ RCs (α := api_Edit) Z1451 c1455 x1452 ∧ l = [(0, .int .i64 a0), (1, v1140), (5, v1454), (6, .int .i64 x1456)] ∧ St hs [] Z (0, 0) Z1451 h [.gs v1454 c1455 (csz api_Edit)]) F ⟨_, [], 0, (.slice none 0 0), [], ho1447, (RCs.nil0 _), rfl, hS1449⟩ ?_
  rintro n1459 l h1457 ⟨Z1451, x1452, x1456, v1454, c1455, ho1447, q1453, rfl, hS1458⟩
  rcases n1459 with _ | n1459
  cases (show none = some o1448 from ho1447)
  rw [correctorlaw4_Good_l0] at ho1447
  refine sq ?_
  refine sr r15_3 ?_
  refine xq 2 [(10, v1140), (9, .int .i64 x1456), (0, .int .i64 a0), (1, v1140), (5, v1454), (6, .int .i64 x1456)] ?_
  refine r_step rfl trivial (o_len rfl (RS.len (q1139.mono hS1458.zle)) ⟨_, Go.Proofs.Try.underlying22⟩) ?_
  rcases ifs ho1447 with ⟨hp1464, ho1447⟩ | ⟨hp1464, ho1447⟩
  refine r_step rfl trivial (o_cmp rfl rfl (c_lss_T hp1464)) ?_
  refine xq 2 [(14, .int .i64 x1456), (13, .bool true), (0, .int .i64 a0), (1, v1140), (5, v1454), (6, .int .i64 x1456)] ?_
  rcases ifs ho1447 with ⟨hp1465, ho1447⟩ | ⟨hp1465, ho1447⟩
  refine r_step rfl rfl (o_cmp rfl rfl (c_lss_T hp1465)) ?_
  refine xe 1 [(16, .bool true), (0, .int .i64 a0), (1, v1140), (5, v1454), (6, .int .i64 x1456)] ?_
  refine kT 16 rfl ?_
  refine sq ?_
  refine bk 1 ?_
  refine sr r15_5 ?_
  refine xq 2 [(20, .int .i64 x1456), (19, v1140), (0, .int .i64 a0), (1, v1140), (5, v1454), (6, .int .i64 x1456)] ?_
  obtain ⟨hc1466, ho1447⟩ := chk ho1447
  refine r_step rfl trivial (o_index rfl rfl (by kernel_rfl : slTy _ _ = some (csz api_Edit)) (RS.based (q1139.mono hS1458.zle) (by omega)) hc1466.1 hc1466.2) ?_
  refine xq 1 [(22, .pointer (some (elemA v1140 x1456 (csz api_Edit) 0))), (0, .int .i64 a0), (1, v1140), (5, v1454), (6, .int .i64 x1456)] ?_
  obtain ⟨x1467, hx1468, ho1447⟩ := obind ho1447
  obtain ⟨cs1469, hc1470, he1471⟩ := RS.elz (q1139.mono hS1458.zle) (i := x1456) hx1468
  obtain rfl := rc_api_Edit hc1470
  refine r_step rfl trivial (o_lde (w := .int .i64 x1467.From) (he1471 _ (hS1458.zin0 (Zle.refl _))) rfl (by kernel_rfl)) ?_
  refine xq 2 [(25, .int .i64 (w64 (a0 + 1))), (23, .int .i64 x1467.From), (0, .int .i64 a0), (1, v1140), (5, v1454), (6, .int .i64 x1456)] ?_
  obtain ⟨r1473, hx1474, ho1447⟩ := obind ho1447
  obtain ⟨v1475, h1476, hcl1477, hSc1478, rfl⟩ := correctorlaw4_within_ok F hS1458.inv  hx1474
  have hS1479 := St.call (A := []) (B := [.gs v1454 c1455 (csz api_Edit)]) hS1458 hSc1478
  replace hS1479 : St _ _ _ _ _ _ [.gs v1454 c1455 (csz api_Edit)] := hS1479
  refine r_step rfl trivial (o_call hcl1477 rfl rfl rfl) ?_
  refine xe 1 [(7, .int .i64 r1473), (0, .int .i64 a0), (1, v1140), (5, v1454), (6, .int .i64 x1456)] ?_
  refine sr r15_6 ?_
  refine xq 3 [(29, .int .i64 x1456), (28, v1140), (27, .int .i64 r1473), (7, .int .i64 r1473), (0, .int .i64 a0), (1, v1140), (5, v1454), (6, .int .i64 x1456)] ?_
  obtain ⟨hc1480, ho1447⟩ := chk ho1447
  refine r_step rfl trivial (o_index rfl rfl (by kernel_rfl : slTy _ _ = some (csz api_Edit)) (RS.based (q1139.mono hS1458.zle) (by omega)) hc1480.1 hc1480.2) ?_
  refine xq 1 [(31, .pointer (some (elemA v1140 x1456 (csz api_Edit) 1))), (27, .int .i64 r1473), (7, .int .i64 r1473), (0, .int .i64 a0), (1, v1140), (5, v1454), (6, .int .i64 x1456)] ?_
  obtain ⟨x1481, hx1482, ho1447⟩ := obind ho1447
  obtain ⟨cs1483, hc1484, he1485⟩ := RS.elz (q1139.mono hS1458.zle) (i := x1456) hx1482
  obtain rfl := rc_api_Edit hc1484
  refine r_step rfl trivial (o_lde (w := .int .i64 x1481.To) (he1485 _ (hS1479.zin0 (Zle.refl _))) rfl (by kernel_rfl)) ?_
  refine xq 5 [(37, .int .i64 (w64 ((imin (w64 (a0 - r1473)) 6) + 1))), (32, .int .i64 x1481.To), (27, .int .i64 r1473), (7, .int .i64 r1473), (0, .int .i64 a0), (1, v1140), (5, v1454), (6, .int .i64 x1456)] ?_
  obtain ⟨r1487, hx1488, ho1447⟩ := obind ho1447
  obtain ⟨v1489, h1490, hcl1491, hSc1492, rfl⟩ := correctorlaw4_within_ok F hS1479.inv  hx1488
  have hS1493 := St.call (A := []) (B := [.gs v1454 c1455 (csz api_Edit)]) hS1479 hSc1492
  replace hS1493 : St _ _ _ _ _ _ [.gs v1454 c1455 (csz api_Edit)] := hS1493
  refine r_step rfl trivial (o_call hcl1491 rfl rfl rfl) ?_
  refine xe 2 [(8, .int .i64 (w64 (r1473 + r1487))), (7, .int .i64 r1473), (0, .int .i64 a0), (1, v1140), (5, v1454), (6, .int .i64 x1456)] ?_
  refine rgF r15_7 hS1493 ?_
  intro bs1494 h1495 hlv1497 hS1496
  refine yq 5 [(44, .int .i64 x1456), (43, v1140), (42, .int .i64 (w64 (r1473 + r1487))), (41, .int .i64 r1473), (40, v1454), (0, .int .i64 a0), (1, v1140), (5, v1454), (6, .int .i64 x1456)] ?_
  obtain ⟨hc1498, ho1447⟩ := chk ho1447
  refine e_val rfl trivial (o_index rfl rfl (by kernel_rfl : slTy _ _ = some (csz api_Edit)) (RS.based (q1139.mono hS1458.zle) (by omega)) hc1498.1 hc1498.2) ?_
  refine yq 1 [(46, .pointer (some (elemA v1140 x1456 (csz api_Edit) 2))), (42, .int .i64 (w64 (r1473 + r1487))), (41, .int .i64 r1473), (40, v1454), (0, .int .i64 a0), (1, v1140), (5, v1454), (6, .int .i64 x1456)] ?_
  obtain ⟨x1499, hx1500, ho1447⟩ := obind ho1447
  obtain ⟨cs1501, hc1502, he1503⟩ := RS.elz (q1139.mono hS1458.zle) (i := x1456) hx1500
  obtain rfl := rc_api_Edit hc1502
  refine e_lookZ rfl rfl trivial (fun h2 hz => o_lde (w := .string ⟨⟨x1499.Put.b⟩⟩) (he1503 h2 hz) rfl (by kernel_rfl)) (hS1496.zin0 (Zle.refl _)) (same1 (v := .string ⟨⟨x1499.Put.b⟩⟩) trivial) trivial ?_
  refine yq 2 [(49, .int .i64 x1456), (48, v1140), (47, .string ⟨⟨x1499.Put.b⟩⟩), (42, .int .i64 (w64 (r1473 + r1487))), (41, .int .i64 r1473), (40, v1454), (0, .int .i64 a0), (1, v1140), (5, v1454), (6, .int .i64 x1456)] ?_
  obtain ⟨hc1505, ho1447⟩ := chk ho1447
  refine e_val rfl trivial (o_index rfl rfl (by kernel_rfl : slTy _ _ = some (csz api_Edit)) (RS.based (q1139.mono hS1458.zle) (by omega)) hc1505.1 hc1505.2) ?_
  refine yq 1 [(51, .pointer (some (elemA v1140 x1456 (csz api_Edit) 2))), (47, .string ⟨⟨x1499.Put.b⟩⟩), (42, .int .i64 (w64 (r1473 + r1487))), (41, .int .i64 r1473), (40, v1454), (0, .int .i64 a0), (1, v1140), (5, v1454), (6, .int .i64 x1456)] ?_
  obtain ⟨x1506, hx1507, ho1447⟩ := obind ho1447
  obtain ⟨cs1508, hc1509, he1510⟩ := RS.elz (q1139.mono hS1458.zle) (i := x1456) hx1507
  obtain rfl := rc_api_Edit hc1509
  refine e_lookZ rfl rfl trivial (fun h2 hz => o_lde (w := .string ⟨⟨x1506.Put.b⟩⟩) (he1510 h2 hz) rfl (by kernel_rfl)) (hS1496.zin0 (Zle.refl _)) (same1 (v := .string ⟨⟨x1506.Put.b⟩⟩) trivial) trivial ?_
  refine yq 2 [(54, .int .i64 (imin (x1506.Put.b.length : Int) 20)), (47, .string ⟨⟨x1499.Put.b⟩⟩), (42, .int .i64 (w64 (r1473 + r1487))), (41, .int .i64 r1473), (40, v1454), (0, .int .i64 a0), (1, v1140), (5, v1454), (6, .int .i64 x1456)] ?_
  obtain ⟨hc1512, ho1447⟩ := chk ho1447
  refine e_val rfl trivial (o_sslice (bs := x1499.Put.b) (a := 0) (b := imin (x1506.Put.b.length : Int) 20) rfl (by kernel_rfl) rfl ⟨_, rfl⟩ hc1512.1 hc1512.2.1 hc1512.2.2) ?_
  refine yq 1 [(56, .agg #[.int .i64 r1473, .int .i64 (w64 (r1473 + r1487)), .string ⟨⟨(x1499.Put.b.take (imin (x1506.Put.b.length : Int) 20).toNat).drop (0 : Int).toNat⟩⟩]), (40, v1454), (0, .int .i64 a0), (1, v1140), (5, v1454), (6, .int .i64 x1456)] ?_
  have q1516 : RCs (α := api_Edit) Z1451 [.int .i64 r1473, .int .i64 (w64 (r1473 + r1487)), .string ⟨⟨(x1499.Put.b.take (imin (x1506.Put.b.length : Int) 20).toNat).drop (0 : Int).toNat⟩⟩] [(⟨r1473, w64 (r1473 + r1487), (⟨(x1499.Put.b.take (imin (x1506.Put.b.length : Int) 20).toNat).drop (0 : Int).toNat⟩ : Str)⟩ : api_Edit)] := RCs.cons (cs := [.int .i64 r1473, .int .i64 (w64 (r1473 + r1487)), .string ⟨⟨(x1499.Put.b.take (imin (x1506.Put.b.length : Int) 20).toNat).drop (0 : Int).toNat⟩⟩]) rfl (RCs.nil0 _)
  refine e_row rfl trivial (o_bs (cells := [.int .i64 r1473, .int .i64 (w64 (r1473 + r1487)), .string ⟨⟨(x1499.Put.b.take (imin (x1506.Put.b.length : Int) 20).toNat).drop (0 : Int).toNat⟩⟩]) (s := 3) (by kernel_rfl)) (by kernel_rfl) hS1496 (by omega) (Nat.add_lt_add_left (by decide) _) ?_
  intro v1513 h1514 b1517 eb1518 ec1519 hS1515
  replace hS1515 : St _ _ _ _ _ _ [.gs v1513 [.int .i64 r1473, .int .i64 (w64 (r1473 + r1487)), .string ⟨⟨(x1499.Put.b.take (imin (x1506.Put.b.length : Int) 20).toNat).drop (0 : Int).toNat⟩⟩] (csz api_Edit), .gs v1454 c1455 (csz api_Edit)] := hS1515
  obtain ⟨hc1526, ho1447⟩ := chk ho1447
  have hF1527 : St _ _ _ _ _ _ ([.gs v1454 c1455 (csz api_Edit)] ++ [.gs v1513 [.int .i64 r1473, .int .i64 (w64 (r1473 + r1487)), .string ⟨⟨(x1499.Put.b.take (imin (x1506.Put.b.length : Int) 20).toNat).drop (0 : Int).toNat⟩⟩] (csz api_Edit)]) := (hS1515.front 1 rfl)
  refine e_mk3 rfl trivial hF1527 (o_app (ys := [(⟨r1473, w64 (r1473 + r1487), (⟨(x1499.Put.b.take (imin (x1506.Put.b.length : Int) 20).toNat).drop (0 : Int).toNat⟩ : Str)⟩ : api_Edit)]) (by_ := 32) hF1527.sub (i := 0) rfl q1453 ((hS1515.lown).gnews (j := 0) rfl q1516) rfl rfl (by kernel_rfl) (by omega) (by omega)) (Zle.refl _) (.keep trivial (.keep trivial .nil)) ?_
  rintro v1521 c1522 h1523 ⟨q1525, hS1524⟩
  replace hS1524 : St _ _ _ _ _ _ [.gs v1521 c1522 (csz api_Edit), .gs v1513 [.int .i64 r1473, .int .i64 (w64 (r1473 + r1487)), .string ⟨⟨(x1499.Put.b.take (imin (x1506.Put.b.length : Int) 20).toNat).drop (0 : Int).toNat⟩⟩] (csz api_Edit)] := hS1524
  refine ye 1 [(5, v1521), (0, .int .i64 a0), (1, v1140), (6, .int .i64 x1456)] ?_
  have hS1528 := hS1524.unres
  refine rg r15_4 ?_
  refine xe 3 [(6, .int .i64 (w64 (x1456 + 1))), (5, v1521), (0, .int .i64 a0), (1, v1140)] ?_
  exact ⟨n1459, Nat.lt_succ_self _, ⟨_, x1452 ++ [(⟨r1473, w64 (r1473 + r1487), (⟨(x1499.Put.b.take (imin (x1506.Put.b.length : Int) 20).toNat).drop (0 : Int).toNat⟩ : Str)⟩ : api_Edit)], w64 (x1456 + 1), v1521, c1522, ho1447, q1525, rfl, (hS1528.takeN 1)⟩⟩
  refine r_step rfl rfl (o_cmp rfl rfl (c_lss_F hp1465)) ?_
  refine xe 1 [(16, .bool false), (0, .int .i64 a0), (1, v1140), (5, v1454), (6, .int .i64 x1456)] ?_
  refine cF 16 rfl ?_
  refine xt 0 ?_
  refine blkX_hit ?_
  obtain rfl := Option.some.inj ho1447
  exact ⟨_, x1452, v1454, c1455, rfl, q1453, rfl, hS1458⟩
  refine r_step rfl trivial (o_cmp rfl rfl (c_lss_F hp1464)) ?_
  refine xe 4 [(16, .bool false), (0, .int .i64 a0), (1, v1140), (5, v1454), (6, .int .i64 x1456)] ?_
  refine cF 16 rfl ?_
  refine xt 0 ?_
  refine blkX_hit ?_
  obtain rfl := Option.some.inj ho1447
  exact ⟨_, x1452, v1454, c1455, rfl, q1453, rfl, hS1458⟩

def r18_0 : List COp := [u 4 (.assign (.const (.bool false)))]
def r18_1 : List COp := [u 6 (.move (t 0)), u 7 (cb .len #[(t 6)] #[22]), u 8 (.move (t 1)), u 9 (cb .len #[(t 8)] #[22]), u 10 (.binOp .neq 3 (t 7) (t 9) 3)]
def r18_2 : List COp := [u 4 (.assign (.const (.bool false)))]
def r18_3 : List COp := [u 5 (.assign (ci 0))]
def r18_4 : List COp := [u 11 (.move (t 5)), u 12 (.move (t 0)), u 13 (cb .len #[(t 12)] #[22]), u 14 (.binOp .lss 3 (t 11) (t 13) 3)]
def r18_5 : List COp := [u 15 (.move (t 5)), u 16 (.binOp .add 3 (t 15) (ci 1) 3), u 5 (.assign (t 16))]
def r18_6 : List COpF := [uF 17 (.move (t 0)) .pure [], uF 18 (.move (t 5)) .pure [], uF 19 (.indexAddr 22 (t 17) (t 18)) .pure [], uF 20 (.load 29 (t 19)) .look [], uF 21 (.move (t 1)) .pure [], uF 22 (.move (t 5)) .pure [], uF 23 (.indexAddr 22 (t 21) (t 22)) .pure [], uF 24 (.load 29 (t 23)) .look [], uF 25 (.binOp .neq 29 (t 20) (t 24) 29) .pure []]
def r18_7 : List COp := [u 4 (.assign (.const (.bool false)))]
def r18_8 : List COp := [u 4 (.assign (.const (.bool true)))]
def correctorlaw4_same_l0 (F : Nat) (a0 : List api_Edit) (a1 : List api_Edit) : Nat → Int → Option (Sum Unit Bool)
  | 0, _ => none
  | n + 1, x1754 =>
    if x1754 < (a0.length : Int) then
      if 0 ≤ x1754 ∧ x1754 < (a0.length : Int) then
        (a0[x1754.toNat]?).bind fun x1787 =>
        if 0 ≤ x1754 ∧ x1754 < (a1.length : Int) then
          (a1[x1754.toNat]?).bind fun x1794 =>
          if x1787 = x1794 then
            correctorlaw4_same_l0 F a0 a1 n (w64 (x1754 + 1))
          else
            some (.inr false)
        else none
      else none
    else
      some (.inl ())
def correctorlaw4_same (F : Nat) (a0 : List api_Edit) (a1 : List api_Edit) : Option Bool :=
  if (a0.length : Int) = (a1.length : Int) then
    ((correctorlaw4_same_l0 F a0 a1 F 0) : Option (Sum Unit Bool)).bind fun o => match o with
      | .inl () => some true
      | .inr y => some y
  else
    some false
theorem correctorlaw4_same_ok (F : Nat) {h : AH} {Z : Zn} {a0 : List api_Edit} {a1 : List api_Edit} {v1545 : Value} {v1547 : Value} (hI : Inv Z h) (q1544 : RS (α := api_Edit) Z v1545 a0) (q1546 : RS (α := api_Edit) Z v1547 a1) {r : Bool} (hm : correctorlaw4_same F a0 a1 = some r) :
    ∃ v h', callI Go.Proofs.Try.prog 18 [v1545, v1547] h = some (v, h') ∧ St h [] Z (0, 0) Z h' [] ∧ v = .bool r := by
  refine fn_plain (Q := fun v => v = .bool r) Go.Proofs.Try.func18 rfl rfl hI ?_
  intro hs hS
  unfold correctorlaw4_same at hm
  refine sr r18_0 ?_
  refine xe 1 [(0, v1545), (1, v1547)] ?_
  refine sq ?_
  refine sr r18_1 ?_
  refine xq 1 [(6, v1545), (0, v1545), (1, v1547)] ?_
  refine r_step rfl trivial (o_len rfl (RS.len q1544) ⟨_, Go.Proofs.Try.underlying22⟩) ?_
  refine xq 1 [(8, v1547), (7, .int .i64 (a0.length : Int)), (0, v1545), (1, v1547)] ?_
  refine r_step rfl trivial (o_len rfl (RS.len q1546) ⟨_, Go.Proofs.Try.underlying22⟩) ?_
  rcases ifs hm with ⟨hp1653, hm⟩ | ⟨hp1653, hm⟩
  refine r_step rfl trivial (o_cmp rfl rfl (c_neq_F hp1653)) ?_
  refine xf [(10, .bool false), (0, v1545), (1, v1547)] ?_
  refine kF 10 rfl ?_
  refine sq ?_
  refine sr r18_3 ?_
  refine xe 1 [(5, .int .i64 0), (0, v1545), (1, v1547)] ?_
  obtain ⟨o1752, ho1751, hm⟩ := obind hm
  refine W_join [] (fun l h => ∃ Z1803 : Zn, .inl () = o1752 ∧ l = [] ∧ St hs [] Z (0, 0) Z1803 h []) ?_ ?_
  rintro l h1804 ⟨Z1803, rfl, rfl, hS1805⟩
  try dsimp only at hm
  refine sr r18_8 ?_
  refine xe 1 [(4, .bool true)] ?_
  refine rt ?_
  refine ⟨rfl, ?_⟩
  obtain rfl := Option.some.inj hm
  refine ⟨_, _, _, ResL.tmp rfl (ResL.nil), hS1805, ?_⟩
  exact rfl
  refine bk 0 ?_
  refine lp [0, 1, 5] (fun n l h => ∃ Z1753 : Zn, ∃ x1754 : Int, correctorlaw4_same_l0 F a0 a1 n x1754 = some o1752 ∧ l = [(0, v1545), (1, v1547), (5, .int .i64 x1754)] ∧ St hs [] Z (0, 0) Z1753 h []) F ⟨_, 0, ho1751, rfl, hS⟩ ?_
  rintro n1757 l h1755 ⟨Z1753, x1754, ho1751, rfl, hS1756⟩
  rcases n1757 with _ | n1757
  cases (show none = some o1752 from ho1751)
  rw [correctorlaw4_same_l0] at ho1751
  refine sq ?_
  refine sr r18_4 ?_
  refine xq 2 [(12, v1545), (11, .int .i64 x1754), (0, v1545), (1, v1547), (5, .int .i64 x1754)] ?_
  refine r_step rfl trivial (o_len rfl (RS.len (q1544.mono hS1756.zle)) ⟨_, Go.Proofs.Try.underlying22⟩) ?_
  rcases ifs ho1751 with ⟨hp1760, ho1751⟩ | ⟨hp1760, ho1751⟩
  refine r_step rfl trivial (o_cmp rfl rfl (c_lss_T hp1760)) ?_
  refine xf [(14, .bool true), (0, v1545), (1, v1547), (5, .int .i64 x1754)] ?_
  refine kT 14 rfl ?_
  refine sq ?_
  refine bk 1 ?_
  refine srF r18_6 hS1756 ?_
  intro bs1782 h1783 hlv1785 hS1784
  refine yq 2 [(18, .int .i64 x1754), (17, v1545), (0, v1545), (1, v1547), (5, .int .i64 x1754)] ?_
  obtain ⟨hc1786, ho1751⟩ := chk ho1751
  refine e_val rfl trivial (o_index rfl rfl (by kernel_rfl : slTy _ _ = some (csz api_Edit)) (RS.based (q1544.mono hS1756.zle) (by omega)) hc1786.1 hc1786.2) ?_
  obtain ⟨x1787, hx1788, ho1751⟩ := obind ho1751
  obtain ⟨cs1789, hc1790, he1791⟩ := RS.elz (q1544.mono hS1756.zle) (i := x1754) hx1788
  obtain rfl := rc_api_Edit hc1790
  refine e_lookZ rfl rfl trivial (fun h2 hz => o_lde (w := .agg #[.int .i64 x1787.From, .int .i64 x1787.To, .string ⟨⟨x1787.Put.b⟩⟩]) (he1791 h2 hz) rfl (by kernel_rfl)) (hS1784.zin0 (Zle.refl _)) (same_agg (cs := [.int .i64 x1787.From, .int .i64 x1787.To, .string ⟨⟨x1787.Put.b⟩⟩]) (.cons trivial (.cons trivial (.cons trivial .nil)))) trivial ?_
  refine yq 2 [(22, .int .i64 x1754), (21, v1547), (20, .agg #[.int .i64 x1787.From, .int .i64 x1787.To, .string ⟨⟨x1787.Put.b⟩⟩]), (0, v1545), (1, v1547), (5, .int .i64 x1754)] ?_
  obtain ⟨hc1793, ho1751⟩ := chk ho1751
  refine e_val rfl trivial (o_index rfl rfl (by kernel_rfl : slTy _ _ = some (csz api_Edit)) (RS.based (q1546.mono hS1756.zle) (by omega)) hc1793.1 hc1793.2) ?_
  obtain ⟨x1794, hx1795, ho1751⟩ := obind ho1751
  obtain ⟨cs1796, hc1797, he1798⟩ := RS.elz (q1546.mono hS1756.zle) (i := x1754) hx1795
  obtain rfl := rc_api_Edit hc1797
  refine e_lookZ rfl rfl trivial (fun h2 hz => o_lde (w := .agg #[.int .i64 x1794.From, .int .i64 x1794.To, .string ⟨⟨x1794.Put.b⟩⟩]) (he1798 h2 hz) rfl (by kernel_rfl)) (hS1784.zin0 (Zle.refl _)) (same_agg (cs := [.int .i64 x1794.From, .int .i64 x1794.To, .string ⟨⟨x1794.Put.b⟩⟩]) (.cons trivial (.cons trivial (.cons trivial .nil)))) trivial ?_
  rcases ifs ho1751 with ⟨hp1800, ho1751⟩ | ⟨hp1800, ho1751⟩
  refine e_val rfl trivial (o_cmp rfl rfl (neF_api_Edit_29 (x := x1787) (y := x1794) hp1800)) ?_
  refine yf [(25, .bool false), (0, v1545), (1, v1547), (5, .int .i64 x1754)] ?_
  have hS1801 := hS1784.unres
  refine kF 25 rfl ?_
  refine rg r18_5 ?_
  refine xe 3 [(5, .int .i64 (w64 (x1754 + 1))), (0, v1545), (1, v1547)] ?_
  exact ⟨n1757, Nat.lt_succ_self _, ⟨_, w64 (x1754 + 1), ho1751, rfl, hS1801⟩⟩
  refine e_val rfl trivial (o_cmp rfl rfl (neT_api_Edit_29 (x := x1787) (y := x1794) hp1800)) ?_
  refine yf [(25, .bool true), (0, v1545), (1, v1547), (5, .int .i64 x1754)] ?_
  have hS1802 := hS1784.unres
  refine cT 25 rfl ?_
  refine sr r18_7 ?_
  refine xe 1 [(4, .bool false)] ?_
  refine rt ?_
  refine blkX_ret ?_
  refine blkX_ret ?_
  refine ⟨rfl, ?_⟩
  obtain rfl := Option.some.inj ho1751
  obtain rfl := Option.some.inj hm
  refine ⟨_, _, _, ResL.tmp rfl (ResL.nil), hS1802, ?_⟩
  exact rfl
  refine r_step rfl trivial (o_cmp rfl rfl (c_lss_F hp1760)) ?_
  refine xf [(14, .bool false), (0, v1545), (1, v1547), (5, .int .i64 x1754)] ?_
  refine cF 14 rfl ?_
  refine xt 0 ?_
  refine blkX_hit ?_
  obtain rfl := Option.some.inj ho1751
  exact ⟨_, rfl, rfl, hS1756⟩
  refine r_step rfl trivial (o_cmp rfl rfl (c_neq_T hp1653)) ?_
  refine xf [(10, .bool true), (0, v1545), (1, v1547)] ?_
  refine cT 10 rfl ?_
  refine sr r18_2 ?_
  refine xe 1 [(4, .bool false)] ?_
  refine rt ?_
  refine ⟨rfl, ?_⟩
  obtain rfl := Option.some.inj hm
  refine ⟨_, _, _, ResL.tmp rfl (ResL.nil), hS, ?_⟩
  exact rfl

end Go.Proofs.Ytdajldmgdpggkaa.M
