/- Printed by a program of this session: Go functions as Lean functions over plain data, and that the calls come to them. -/
import Derived.Test.YtdajldmgdpggkaaSyJ
import Derived.Test.YtdajldmgdpggkaaChecked
import Derived.KernelRfl
import Derived.Test.YtdajldmgdpggkaaMC0
namespace Go.Proofs.Ytdajldmgdpggkaa.M
open Go Am Sy
open Sy.Cell (rc)
set_option linter.unusedVariables false
set_option linter.unusedSimpArgs false
set_option maxRecDepth 20000

def r34_0 : List COp := [u 3 (.box 29 (t 1)), u 4 (.assign (ci 0))]
def r34_1 : List COp := [u 5 (.fieldAddr 29 (t 3) 0), u 6 (.load 3 (t 5)), u 7 (.binOp .lss 3 (t 6) (ci 0) 3), u 8 (.move (t 7)), gN 8 (some 9) (.fieldAddr 29 (t 3) 0), gN 8 (some 10) (.load 3 (t 9)), gN 8 (some 11) (.fieldAddr 29 (t 3) 1), gN 8 (some 12) (.load 3 (t 11)), gN 8 (some 13) (.binOp .gtr 3 (t 10) (t 12) 3), u 14 (.pick (t 8) (.const (.bool true)) (t 13)), u 15 (.move (t 14)), gN 15 (some 16) (.fieldAddr 29 (t 3) 1), gN 15 (some 17) (.load 3 (t 16)), gN 15 (some 18) (.move (t 0)), gN 15 (some 19) (.binOp .gtr 3 (t 17) (t 18) 3), u 20 (.pick (t 15) (.const (.bool true)) (t 19))]
def r34_2 : List COp := [u 4 (.assign (ci 1))]
def r34_3 : List COp := [u 21 (.fieldAddr 29 (t 3) 2), u 22 (.load 9 (t 21)), u 23 (cb .len #[(t 22)] #[9]), u 24 (.binOp .gtr 3 (t 23) (ci 1000) 3)]
def r34_4 : List COp := [u 4 (.assign (ci 4))]
def r34_5 : List COp := [u 4 (.assign (ci 0))]
def correctorref4_one (F : Nat) (a0 : Int) (a1 : api_Edit) : Option Int :=
  if a1.From < (0 : Int) then
    some 1
  else
    if a1.To < a1.From then
      some 1
    else
      if a0 < a1.To then
        some 1
      else
        if (1000 : Int) < (a1.Put.b.length : Int) then
          some 4
        else
          some 0
theorem correctorref4_one_ok (F : Nat) {h : AH} {Z : Zn} {a0 : Int} {a1 : api_Edit} (hI : Inv Z h) {r : Int} (hm : correctorref4_one F a0 a1 = some r) :
    ∃ v h', callI Go.Proofs.Try.prog 34 [.int .i64 a0, .agg #[.int .i64 a1.From, .int .i64 a1.To, .string ⟨⟨a1.Put.b⟩⟩]] h = some (v, h') ∧ St h [] Z (0, 0) Z h' [] ∧ v = .int .i64 r := by
  refine fn_plain (Q := fun v => v = .int .i64 r) Go.Proofs.Try.func34 rfl rfl hI ?_
  intro hs hS
  unfold correctorref4_one at hm
  refine sr r34_0 ?_
  refine r_blk rfl trivial (o_box (cs := [.int .i64 a1.From, .int .i64 a1.To, .string ⟨⟨a1.Put.b⟩⟩]) rfl rfl) hS ?_
  intro b11573 h11574 hS11575
  refine xe 1 [(3, .pointer (some ⟨b11573, 0, none⟩)), (0, .int .i64 a0)] ?_
  refine sq ?_
  refine sr r34_1 ?_
  refine xq 1 [(5, .pointer (some ⟨b11573, 0, none⟩)), (3, .pointer (some ⟨b11573, 0, none⟩)), (0, .int .i64 a0)] ?_
  refine r_step rfl trivial (o_ldb (v := .int .i64 a1.From) hS11575 (i := 0) rfl rfl (by kernel_rfl)) ?_
  rcases ifs hm with ⟨hp11582, hm⟩ | ⟨hp11582, hm⟩
  refine r_step rfl trivial (o_cmp rfl rfl (c_lss_T hp11582)) ?_
  refine xe 13 [(20, .bool true), (3, .pointer (some ⟨b11573, 0, none⟩))] ?_
  refine cT 20 rfl ?_
  refine sr r34_2 ?_
  refine xe 1 [(4, .int .i64 1)] ?_
  refine rt ?_
  refine ⟨rfl, ?_⟩
  obtain rfl := Option.some.inj hm
  refine ⟨_, _, _, ResL.tmp rfl (ResL.nil), hS11575, ?_⟩
  exact rfl
  refine r_step rfl trivial (o_cmp rfl rfl (c_lss_F hp11582)) ?_
  refine xq 2 [(9, .pointer (some ⟨b11573, 0, none⟩)), (8, .bool false), (3, .pointer (some ⟨b11573, 0, none⟩)), (0, .int .i64 a0)] ?_
  refine r_step rfl rfl (o_ldb (v := .int .i64 a1.From) hS11575 (i := 0) rfl rfl (by kernel_rfl)) ?_
  refine xq 1 [(11, .pointer (some ⟨b11573, 1, none⟩)), (10, .int .i64 a1.From), (8, .bool false), (3, .pointer (some ⟨b11573, 0, none⟩)), (0, .int .i64 a0)] ?_
  refine r_step rfl rfl (o_ldb (v := .int .i64 a1.To) hS11575 (i := 0) rfl rfl (by kernel_rfl)) ?_
  rcases ifs hm with ⟨hp11583, hm⟩ | ⟨hp11583, hm⟩
  refine r_step rfl rfl (o_cmp rfl rfl (c_gtr_T hp11583)) ?_
  refine xe 7 [(20, .bool true), (3, .pointer (some ⟨b11573, 0, none⟩))] ?_
  refine cT 20 rfl ?_
  refine sr r34_2 ?_
  refine xe 1 [(4, .int .i64 1)] ?_
  refine rt ?_
  refine ⟨rfl, ?_⟩
  obtain rfl := Option.some.inj hm
  refine ⟨_, _, _, ResL.tmp rfl (ResL.nil), hS11575, ?_⟩
  exact rfl
  refine r_step rfl rfl (o_cmp rfl rfl (c_gtr_F hp11583)) ?_
  refine xq 3 [(16, .pointer (some ⟨b11573, 1, none⟩)), (15, .bool false), (3, .pointer (some ⟨b11573, 0, none⟩)), (0, .int .i64 a0)] ?_
  refine r_step rfl rfl (o_ldb (v := .int .i64 a1.To) hS11575 (i := 0) rfl rfl (by kernel_rfl)) ?_
  refine xq 1 [(18, .int .i64 a0), (17, .int .i64 a1.To), (15, .bool false), (3, .pointer (some ⟨b11573, 0, none⟩))] ?_
  rcases ifs hm with ⟨hp11584, hm⟩ | ⟨hp11584, hm⟩
  refine r_step rfl rfl (o_cmp rfl rfl (c_gtr_T hp11584)) ?_
  refine xe 1 [(20, .bool true), (3, .pointer (some ⟨b11573, 0, none⟩))] ?_
  refine cT 20 rfl ?_
  refine sr r34_2 ?_
  refine xe 1 [(4, .int .i64 1)] ?_
  refine rt ?_
  refine ⟨rfl, ?_⟩
  obtain rfl := Option.some.inj hm
  refine ⟨_, _, _, ResL.tmp rfl (ResL.nil), hS11575, ?_⟩
  exact rfl
  refine r_step rfl rfl (o_cmp rfl rfl (c_gtr_F hp11584)) ?_
  refine xe 1 [(20, .bool false), (3, .pointer (some ⟨b11573, 0, none⟩))] ?_
  refine kF 20 rfl ?_
  refine sq ?_
  refine sr r34_3 ?_
  refine xq 1 [(21, .pointer (some ⟨b11573, 2, none⟩))] ?_
  refine r_step rfl trivial (o_ldb (v := .string ⟨⟨a1.Put.b⟩⟩) hS11575 (i := 0) rfl rfl (by kernel_rfl)) ?_
  refine xq 1 [(23, .int .i64 (a1.Put.b.length : Int))] ?_
  rcases ifs hm with ⟨hp11586, hm⟩ | ⟨hp11586, hm⟩
  refine r_step rfl trivial (o_cmp rfl rfl (c_gtr_T hp11586)) ?_
  refine xf [(24, .bool true)] ?_
  refine cT 24 rfl ?_
  refine sr r34_4 ?_
  refine xe 1 [(4, .int .i64 4)] ?_
  refine rt ?_
  refine ⟨rfl, ?_⟩
  obtain rfl := Option.some.inj hm
  refine ⟨_, _, _, ResL.tmp rfl (ResL.nil), hS11575, ?_⟩
  exact rfl
  refine r_step rfl trivial (o_cmp rfl rfl (c_gtr_F hp11586)) ?_
  refine xf [(24, .bool false)] ?_
  refine kF 24 rfl ?_
  refine sr r34_5 ?_
  refine xe 1 [(4, .int .i64 0)] ?_
  refine rt ?_
  refine ⟨rfl, ?_⟩
  obtain rfl := Option.some.inj hm
  refine ⟨_, _, _, ResL.tmp rfl (ResL.nil), hS11575, ?_⟩
  exact rfl

def r35_0 : List COp := [u 2 (.box 29 (t 0)), u 3 (.box 29 (t 1)), u 4 (.assign (.const (.bool false)))]
def r35_1 : List COp := [u 5 (.fieldAddr 29 (t 2) 0), u 6 (.load 3 (t 5)), u 7 (.fieldAddr 29 (t 3) 1), u 8 (.load 3 (t 7)), u 9 (.binOp .lss 3 (t 6) (t 8) 3), u 10 (.move (t 9)), gT 10 (some 11) (.fieldAddr 29 (t 3) 0), gT 10 (some 12) (.load 3 (t 11)), gT 10 (some 13) (.fieldAddr 29 (t 2) 1), gT 10 (some 14) (.load 3 (t 13)), gT 10 (some 15) (.binOp .lss 3 (t 12) (t 14) 3), u 16 (.pick (t 10) (t 15) (.const (.bool false))), u 17 (.move (t 16)), gN 17 (some 18) (.fieldAddr 29 (t 2) 0), gN 17 (some 19) (.load 3 (t 18)), gN 17 (some 20) (.fieldAddr 29 (t 3) 0), gN 17 (some 21) (.load 3 (t 20)), gN 17 (some 22) (.binOp .eql 3 (t 19) (t 21) 3), gN 17 (some 23) (.move (t 22)), gT 23 (some 24) (.fieldAddr 29 (t 2) 1), gT 23 (some 25) (.load 3 (t 24)), gT 23 (some 26) (.fieldAddr 29 (t 3) 1), gT 23 (some 27) (.load 3 (t 26)), gT 23 (some 28) (.binOp .eql 3 (t 25) (t 27) 3), gN 17 (some 29) (.pick (t 23) (t 28) (.const (.bool false))), u 30 (.pick (t 17) (.const (.bool true)) (t 29)), u 4 (.assign (t 30))]
def correctorref4_upon (F : Nat) (a0 : api_Edit) (a1 : api_Edit) : Option Bool :=
  if a0.From < a1.To then
    if a1.From < a0.To then
      some true
    else
      if a0.From = a1.From then
        if a0.To = a1.To then
          some true
        else
          some false
      else
        some false
  else
    if a0.From = a1.From then
      if a0.To = a1.To then
        some true
      else
        some false
    else
      some false
theorem correctorref4_upon_ok (F : Nat) {h : AH} {Z : Zn} {a0 : api_Edit} {a1 : api_Edit} (hI : Inv Z h) {r : Bool} (hm : correctorref4_upon F a0 a1 = some r) :
    ∃ v h', callI Go.Proofs.Try.prog 35 [.agg #[.int .i64 a0.From, .int .i64 a0.To, .string ⟨⟨a0.Put.b⟩⟩], .agg #[.int .i64 a1.From, .int .i64 a1.To, .string ⟨⟨a1.Put.b⟩⟩]] h = some (v, h') ∧ St h [] Z (0, 0) Z h' [] ∧ v = .bool r := by
  refine fn_plain (Q := fun v => v = .bool r) Go.Proofs.Try.func35 rfl rfl hI ?_
  intro hs hS
  unfold correctorref4_upon at hm
  refine sr r35_0 ?_
  refine r_blk rfl trivial (o_box (cs := [.int .i64 a0.From, .int .i64 a0.To, .string ⟨⟨a0.Put.b⟩⟩]) rfl rfl) hS ?_
  intro b11770 h11771 hS11772
  refine r_blk rfl trivial (o_box (cs := [.int .i64 a1.From, .int .i64 a1.To, .string ⟨⟨a1.Put.b⟩⟩]) rfl rfl) hS11772 ?_
  intro b11773 h11774 hS11775
  refine xe 1 [(3, .pointer (some ⟨b11773, 0, none⟩)), (2, .pointer (some ⟨b11770, 0, none⟩))] ?_
  refine sr r35_1 ?_
  refine xq 1 [(5, .pointer (some ⟨b11770, 0, none⟩)), (3, .pointer (some ⟨b11773, 0, none⟩)), (2, .pointer (some ⟨b11770, 0, none⟩))] ?_
  refine r_step rfl trivial (o_ldb (v := .int .i64 a0.From) hS11775 (i := 1) rfl rfl (by kernel_rfl)) ?_
  refine xq 1 [(7, .pointer (some ⟨b11773, 1, none⟩)), (6, .int .i64 a0.From), (3, .pointer (some ⟨b11773, 0, none⟩)), (2, .pointer (some ⟨b11770, 0, none⟩))] ?_
  refine r_step rfl trivial (o_ldb (v := .int .i64 a1.To) hS11775 (i := 0) rfl rfl (by kernel_rfl)) ?_
  rcases ifs hm with ⟨hp11776, hm⟩ | ⟨hp11776, hm⟩
  refine r_step rfl trivial (o_cmp rfl rfl (c_lss_T hp11776)) ?_
  refine xq 2 [(11, .pointer (some ⟨b11773, 0, none⟩)), (10, .bool true), (3, .pointer (some ⟨b11773, 0, none⟩)), (2, .pointer (some ⟨b11770, 0, none⟩))] ?_
  refine r_step rfl rfl (o_ldb (v := .int .i64 a1.From) hS11775 (i := 0) rfl rfl (by kernel_rfl)) ?_
  refine xq 1 [(13, .pointer (some ⟨b11770, 1, none⟩)), (12, .int .i64 a1.From), (10, .bool true), (3, .pointer (some ⟨b11773, 0, none⟩)), (2, .pointer (some ⟨b11770, 0, none⟩))] ?_
  refine r_step rfl rfl (o_ldb (v := .int .i64 a0.To) hS11775 (i := 1) rfl rfl (by kernel_rfl)) ?_
  rcases ifs hm with ⟨hp11777, hm⟩ | ⟨hp11777, hm⟩
  refine r_step rfl rfl (o_cmp rfl rfl (c_lss_T hp11777)) ?_
  refine xe 16 [(4, .bool true)] ?_
  refine rt ?_
  refine ⟨rfl, ?_⟩
  obtain rfl := Option.some.inj hm
  refine ⟨_, _, _, ResL.tmp rfl (ResL.nil), hS11775, ?_⟩
  exact rfl
  refine r_step rfl rfl (o_cmp rfl rfl (c_lss_F hp11777)) ?_
  refine xq 3 [(18, .pointer (some ⟨b11770, 0, none⟩)), (17, .bool false), (3, .pointer (some ⟨b11773, 0, none⟩)), (2, .pointer (some ⟨b11770, 0, none⟩))] ?_
  refine r_step rfl rfl (o_ldb (v := .int .i64 a0.From) hS11775 (i := 1) rfl rfl (by kernel_rfl)) ?_
  refine xq 1 [(20, .pointer (some ⟨b11773, 0, none⟩)), (19, .int .i64 a0.From), (17, .bool false), (3, .pointer (some ⟨b11773, 0, none⟩)), (2, .pointer (some ⟨b11770, 0, none⟩))] ?_
  refine r_step rfl rfl (o_ldb (v := .int .i64 a1.From) hS11775 (i := 0) rfl rfl (by kernel_rfl)) ?_
  rcases ifs hm with ⟨hp11778, hm⟩ | ⟨hp11778, hm⟩
  refine r_step rfl rfl (o_cmp rfl rfl (c_eql_T hp11778)) ?_
  refine xq 2 [(24, .pointer (some ⟨b11770, 1, none⟩)), (23, .bool true), (17, .bool false), (3, .pointer (some ⟨b11773, 0, none⟩))] ?_
  refine r_step rfl rfl (o_ldb (v := .int .i64 a0.To) hS11775 (i := 1) rfl rfl (by kernel_rfl)) ?_
  refine xq 1 [(26, .pointer (some ⟨b11773, 1, none⟩)), (25, .int .i64 a0.To), (23, .bool true), (17, .bool false)] ?_
  refine r_step rfl rfl (o_ldb (v := .int .i64 a1.To) hS11775 (i := 0) rfl rfl (by kernel_rfl)) ?_
  rcases ifs hm with ⟨hp11779, hm⟩ | ⟨hp11779, hm⟩
  refine r_step rfl rfl (o_cmp rfl rfl (c_eql_T hp11779)) ?_
  refine xe 3 [(4, .bool true)] ?_
  refine rt ?_
  refine ⟨rfl, ?_⟩
  obtain rfl := Option.some.inj hm
  refine ⟨_, _, _, ResL.tmp rfl (ResL.nil), hS11775, ?_⟩
  exact rfl
  refine r_step rfl rfl (o_cmp rfl rfl (c_eql_F hp11779)) ?_
  refine xe 3 [(4, .bool false)] ?_
  refine rt ?_
  refine ⟨rfl, ?_⟩
  obtain rfl := Option.some.inj hm
  refine ⟨_, _, _, ResL.tmp rfl (ResL.nil), hS11775, ?_⟩
  exact rfl
  refine r_step rfl rfl (o_cmp rfl rfl (c_eql_F hp11778)) ?_
  refine xe 9 [(4, .bool false)] ?_
  refine rt ?_
  refine ⟨rfl, ?_⟩
  obtain rfl := Option.some.inj hm
  refine ⟨_, _, _, ResL.tmp rfl (ResL.nil), hS11775, ?_⟩
  exact rfl
  refine r_step rfl trivial (o_cmp rfl rfl (c_lss_F hp11776)) ?_
  refine xq 9 [(18, .pointer (some ⟨b11770, 0, none⟩)), (17, .bool false), (3, .pointer (some ⟨b11773, 0, none⟩)), (2, .pointer (some ⟨b11770, 0, none⟩))] ?_
  refine r_step rfl rfl (o_ldb (v := .int .i64 a0.From) hS11775 (i := 1) rfl rfl (by kernel_rfl)) ?_
  refine xq 1 [(20, .pointer (some ⟨b11773, 0, none⟩)), (19, .int .i64 a0.From), (17, .bool false), (3, .pointer (some ⟨b11773, 0, none⟩)), (2, .pointer (some ⟨b11770, 0, none⟩))] ?_
  refine r_step rfl rfl (o_ldb (v := .int .i64 a1.From) hS11775 (i := 0) rfl rfl (by kernel_rfl)) ?_
  rcases ifs hm with ⟨hp11780, hm⟩ | ⟨hp11780, hm⟩
  refine r_step rfl rfl (o_cmp rfl rfl (c_eql_T hp11780)) ?_
  refine xq 2 [(24, .pointer (some ⟨b11770, 1, none⟩)), (23, .bool true), (17, .bool false), (3, .pointer (some ⟨b11773, 0, none⟩))] ?_
  refine r_step rfl rfl (o_ldb (v := .int .i64 a0.To) hS11775 (i := 1) rfl rfl (by kernel_rfl)) ?_
  refine xq 1 [(26, .pointer (some ⟨b11773, 1, none⟩)), (25, .int .i64 a0.To), (23, .bool true), (17, .bool false)] ?_
  refine r_step rfl rfl (o_ldb (v := .int .i64 a1.To) hS11775 (i := 0) rfl rfl (by kernel_rfl)) ?_
  rcases ifs hm with ⟨hp11781, hm⟩ | ⟨hp11781, hm⟩
  refine r_step rfl rfl (o_cmp rfl rfl (c_eql_T hp11781)) ?_
  refine xe 3 [(4, .bool true)] ?_
  refine rt ?_
  refine ⟨rfl, ?_⟩
  obtain rfl := Option.some.inj hm
  refine ⟨_, _, _, ResL.tmp rfl (ResL.nil), hS11775, ?_⟩
  exact rfl
  refine r_step rfl rfl (o_cmp rfl rfl (c_eql_F hp11781)) ?_
  refine xe 3 [(4, .bool false)] ?_
  refine rt ?_
  refine ⟨rfl, ?_⟩
  obtain rfl := Option.some.inj hm
  refine ⟨_, _, _, ResL.tmp rfl (ResL.nil), hS11775, ?_⟩
  exact rfl
  refine r_step rfl rfl (o_cmp rfl rfl (c_eql_F hp11780)) ?_
  refine xe 9 [(4, .bool false)] ?_
  refine rt ?_
  refine ⟨rfl, ?_⟩
  obtain rfl := Option.some.inj hm
  refine ⟨_, _, _, ResL.tmp rfl (ResL.nil), hS11775, ?_⟩
  exact rfl

def r19_0 : List COp := [u 4 (.assign (.const (.slice none 0 0)))]
def r19_1 : List COp := [u 5 (.assign (.const (.slice none 0 0)))]
def r19_2 : List COp := [u 6 (.assign (ci 0))]
def r19_3 : List COp := [u 11 (.move (t 6)), u 12 (.move (t 1)), u 13 (cb .len #[(t 12)] #[22]), u 14 (.binOp .lss 3 (t 11) (t 13) 3), u 15 (.move (t 14)), gT 15 (some 16) (.move (t 5)), gT 15 (some 17) (cb .len #[(t 16)] #[22]), gT 15 (some 18) (.binOp .lss 3 (t 17) (ci 200) 3), u 19 (.pick (t 15) (t 18) (.const (.bool false)))]
def r19_4 : List COp := [u 20 (.move (t 6)), u 21 (.binOp .add 3 (t 20) (ci 1) 3), u 6 (.assign (t 21))]
def r19_5 : List COp := [u 22 (.move (t 0)), u 23 (.move (t 1)), u 24 (.move (t 6)), u 25 (.indexAddr 22 (t 23) (t 24)), u 26 (.load 29 (t 25)), u 27 (cf 34 #[(t 22), (t 26)] #[3, 29]), u 28 (.binOp .eql 3 (t 27) (ci 0) 3), u 7 (.assign (t 28))]
def r19_6 : List COp := [u 8 (.assign (ci 0))]
def r19_7 : List COp := [u 29 (.move (t 8)), u 30 (.move (t 5)), u 31 (cb .len #[(t 30)] #[22]), u 32 (.binOp .lss 3 (t 29) (t 31) 3)]
def r19_8 : List COp := [u 33 (.move (t 8)), u 34 (.binOp .add 3 (t 33) (ci 1) 3), u 8 (.assign (t 34))]
def r19_9 : List COpF := [uF 35 (.move (t 7)) .pure [], uF 36 (.move (t 35)) .pure [], gTF 36 (some 37) (.move (t 1)) .pure [], gTF 36 (some 38) (.move (t 6)) .pure [], gTF 36 (some 39) (.indexAddr 22 (t 37) (t 38)) .pure [], gTF 36 (some 40) (.load 29 (t 39)) .look [], gTF 36 (some 41) (.move (t 5)) .pure [], gTF 36 (some 42) (.move (t 8)) .pure [], gTF 36 (some 43) (.indexAddr 22 (t 41) (t 42)) .pure [], gTF 36 (some 44) (.load 29 (t 43)) .look [], gTF 36 (some 45) (cf 35 #[(t 40), (t 44)] #[29, 29]) .make [5, 9], gTF 36 (some 46) (.unOp .not 4 (t 45)) .pure [], uF 47 (.pick (t 36) (t 46) (.const (.bool false))) .pure [], uF 7 (.assign (t 47)) .pure []]
def r19_10 : List COp := [u 48 (.move (t 7)), u 49 (.unOp .not 4 (t 48))]
def r19_11 : List COp := [u 9 (.assign (ci 0))]
def r19_12 : List COpF := [uF 50 (.move (t 9)) .pure [], uF 51 (.move (t 5)) .pure [], uF 52 (cb .len #[(t 51)] #[22]) .pure [], uF 53 (.binOp .lss 3 (t 50) (t 52) 3) .pure [], uF 54 (.move (t 53)) .pure [], gTF 54 (some 55) (.move (t 5)) .pure [], gTF 54 (some 56) (.move (t 9)) .pure [], gTF 54 (some 57) (.indexAddr 22 (t 55) (t 56)) .pure [], gTF 54 (some 58) (.fieldAddr 29 (t 57) 0) .pure [], gTF 54 (some 59) (.load 3 (t 58)) .look [], gTF 54 (some 60) (.move (t 1)) .pure [], gTF 54 (some 61) (.move (t 6)) .pure [], gTF 54 (some 62) (.indexAddr 22 (t 60) (t 61)) .pure [], gTF 54 (some 63) (.fieldAddr 29 (t 62) 0) .pure [], gTF 54 (some 64) (.load 3 (t 63)) .look [], gTF 54 (some 65) (.binOp .lss 3 (t 59) (t 64) 3) .pure [], gTF 54 (some 66) (.move (t 65)) .pure [], gNF 66 (some 67) (.move (t 5)) .pure [], gNF 66 (some 68) (.move (t 9)) .pure [], gNF 66 (some 69) (.indexAddr 22 (t 67) (t 68)) .pure [], gNF 66 (some 70) (.fieldAddr 29 (t 69) 0) .pure [], gNF 66 (some 71) (.load 3 (t 70)) .look [], gNF 66 (some 72) (.move (t 1)) .pure [], gNF 66 (some 73) (.move (t 6)) .pure [], gNF 66 (some 74) (.indexAddr 22 (t 72) (t 73)) .pure [], gNF 66 (some 75) (.fieldAddr 29 (t 74) 0) .pure [], gNF 66 (some 76) (.load 3 (t 75)) .look [], gNF 66 (some 77) (.binOp .eql 3 (t 71) (t 76) 3) .pure [], gNF 66 (some 78) (.move (t 77)) .pure [], gTF 78 (some 79) (.move (t 5)) .pure [], gTF 78 (some 80) (.move (t 9)) .pure [], gTF 78 (some 81) (.indexAddr 22 (t 79) (t 80)) .pure [], gTF 78 (some 82) (.fieldAddr 29 (t 81) 1) .pure [], gTF 78 (some 83) (.load 3 (t 82)) .look [], gTF 78 (some 84) (.move (t 1)) .pure [], gTF 78 (some 85) (.move (t 6)) .pure [], gTF 78 (some 86) (.indexAddr 22 (t 84) (t 85)) .pure [], gTF 78 (some 87) (.fieldAddr 29 (t 86) 1) .pure [], gTF 78 (some 88) (.load 3 (t 87)) .look [], gTF 78 (some 89) (.binOp .lss 3 (t 83) (t 88) 3) .pure [], gNF 66 (some 90) (.pick (t 78) (t 89) (.const (.bool false))) .pure [], gTF 54 (some 91) (.pick (t 66) (.const (.bool true)) (t 90)) .pure [], uF 92 (.pick (t 54) (t 91) (.const (.bool false))) .pure []]
def r19_13 : List COp := [u 93 (.move (t 9)), u 94 (.binOp .add 3 (t 93) (ci 1) 3), u 9 (.assign (t 94))]
def r19_14 : List COp := [u 95 (.buildSlice 22 0 #[]), u 96 (.move (t 5)), u 97 (.move (t 9)), u 98 (.slice 22 (t 96) none (some (t 97)) none), u 99 (cb .append #[(t 95), (t 98)] #[22, 22]), u 10 (.assign (t 99))]
def r19_15 : List COp := [u 100 (.move (t 10)), u 101 (.move (t 1)), u 102 (.move (t 6)), u 103 (.indexAddr 22 (t 101) (t 102)), u 104 (.load 29 (t 103)), u 105 (.buildSlice 22 1 #[(0, (t 104))]), u 106 (cb .append #[(t 100), (t 105)] #[22, 22]), u 10 (.assign (t 106))]
def r19_16 : List COp := [u 107 (.move (t 10)), u 108 (.move (t 5)), u 109 (.move (t 9)), u 110 (.slice 22 (t 108) (some (t 109)) none none), u 111 (cb .append #[(t 107), (t 110)] #[22, 22]), u 5 (.assign (t 111))]
def r19_17 : List COp := [u 112 (.move (t 5)), u 4 (.assign (t 112))]
def correctorref4_Choose_l1 (F : Nat) (a0 : Int) (a1 : List api_Edit) : Nat → (List api_Edit) → Int → Bool → Int → Option ((List api_Edit) × Int × Bool)
  | 0, _, _, _, _ => none
  | n + 1, x13139, x13143, x13144, x13145 =>
    if x13145 < (x13139.length : Int) then
      ((if x13144 = true then
          if 0 ≤ x13143 ∧ x13143 < (a1.length : Int) then
            (a1[x13143.toNat]?).bind fun x13196 =>
            if 0 ≤ x13145 ∧ x13145 < (x13139.length : Int) then
              (x13139[x13145.toNat]?).bind fun x13203 =>
              (correctorref4_upon F x13196 x13203).bind fun r13212 =>
              if r13212 = true then
                some (x13139, false)
              else
                some (x13139, true)
            else none
          else none
        else
          some (x13139, false)) : Option ((List api_Edit) × Bool)).bind fun o => match o with
        | (x13227, x13231) => correctorref4_Choose_l1 F a0 a1 n x13227 x13143 x13231 (w64 (x13145 + 1))
    else
      some (x13139, x13143, x13144)
def correctorref4_Choose_l2 (F : Nat) (a0 : Int) (a1 : List api_Edit) : Nat → (List api_Edit) → Int → Int → Option ((List api_Edit) × Int × Int)
  | 0, _, _, _ => none
  | n + 1, x13419, x13423, x13424 =>
    ((if x13424 < (x13419.length : Int) then
        if 0 ≤ x13424 ∧ x13424 < (x13419.length : Int) then
          (x13419[x13424.toNat]?).bind fun x13500 =>
          if 0 ≤ x13423 ∧ x13423 < (a1.length : Int) then
            (a1[x13423.toNat]?).bind fun x13510 =>
            if x13500.From < x13510.From then
              some (.inl x13419)
            else
              if 0 ≤ x13424 ∧ x13424 < (x13419.length : Int) then
                (x13419[x13424.toNat]?).bind fun x13519 =>
                if 0 ≤ x13423 ∧ x13423 < (a1.length : Int) then
                  (a1[x13423.toNat]?).bind fun x13529 =>
                  if x13519.From = x13529.From then
                    if 0 ≤ x13424 ∧ x13424 < (x13419.length : Int) then
                      (x13419[x13424.toNat]?).bind fun x13537 =>
                      if 0 ≤ x13423 ∧ x13423 < (a1.length : Int) then
                        (a1[x13423.toNat]?).bind fun x13547 =>
                        if x13537.To < x13547.To then
                          some (.inl x13419)
                        else
                          some (.inr (x13419, x13423, x13424))
                      else none
                    else none
                  else
                    some (.inr (x13419, x13423, x13424))
                else none
              else none
          else none
        else none
      else
        some (.inr (x13419, x13423, x13424))) : Option (Sum (List api_Edit) ((List api_Edit) × Int × Int))).bind fun o => match o with
      | .inl x13559 => correctorref4_Choose_l2 F a0 a1 n x13559 x13423 (w64 (x13424 + 1))
      | .inr y => some y
def correctorref4_Choose_l0 (F : Nat) (a0 : Int) (a1 : List api_Edit) : Nat → (List api_Edit) → Int → Option (List api_Edit)
  | 0, _, _ => none
  | n + 1, x12847, x12851 =>
    if x12851 < (a1.length : Int) then
      if (x12847.length : Int) < (200 : Int) then
        ((if 0 ≤ x12851 ∧ x12851 < (a1.length : Int) then
            (a1[x12851.toNat]?).bind fun x12879 =>
            (correctorref4_one F a0 x12879).bind fun r12885 =>
            if r12885 = (0 : Int) then
              some (x12847, true)
            else
              some (x12847, false)
          else none) : Option ((List api_Edit) × Bool)).bind fun o => match o with
          | (x12894, x12898) => ((correctorref4_Choose_l1 F a0 a1 F x12894 x12851 x12898 0) : Option ((List api_Edit) × Int × Bool)).bind fun o => match o with
            | (x13246, x13250, x13251) => if x13251 = true then
              ((correctorref4_Choose_l2 F a0 a1 F x13246 x13250 0) : Option ((List api_Edit) × Int × Int)).bind fun o => match o with
                | (x13582, x13586, x13587) => if 0 ≤ (0 : Int) ∧ (0 : Int) ≤ x13587 ∧ x13587 ≤ (x13582.length : Int) then
                  if ([] : List api_Edit).length + ((x13582.take x13587.toNat).drop (0 : Int).toNat).length ≤ 4398046511104 then
                    if 0 ≤ x13586 ∧ x13586 < (a1.length : Int) then
                      (a1[x13586.toNat]?).bind fun x13612 =>
                      if (([] : List api_Edit) ++ ((x13582.take x13587.toNat).drop (0 : Int).toNat)).length + [x13612].length ≤ 4398046511104 then
                        if 0 ≤ x13587 ∧ x13587 ≤ (x13582.length : Int) ∧ (x13582.length : Int) ≤ (x13582.length : Int) then
                          if ((([] : List api_Edit) ++ ((x13582.take x13587.toNat).drop (0 : Int).toNat)) ++ [x13612]).length + ((x13582.take (x13582.length : Int).toNat).drop x13587.toNat).length ≤ 4398046511104 then
                            correctorref4_Choose_l0 F a0 a1 n (((([] : List api_Edit) ++ ((x13582.take x13587.toNat).drop (0 : Int).toNat)) ++ [x13612]) ++ ((x13582.take (x13582.length : Int).toNat).drop x13587.toNat)) (w64 (x13586 + 1))
                          else none
                        else none
                      else none
                    else none
                  else none
                else none
            else
              correctorref4_Choose_l0 F a0 a1 n x13246 (w64 (x13250 + 1))
      else
        some x12847
    else
      some x12847
def correctorref4_Choose (F : Nat) (a0 : Int) (a1 : List api_Edit) : Option (List api_Edit) :=
  ((correctorref4_Choose_l0 F a0 a1 F [] 0) : Option (List api_Edit)).bind fun o => match o with
    | x13664 => some x13664
theorem correctorref4_Choose_ok (F : Nat) {h : AH} {Z : Zn} {a0 : Int} {a1 : List api_Edit} {v11545 : Value} (hP : Pre Z h []) (q11544 : RS (α := api_Edit) Z v11545 a1) {r : (List api_Edit)} (hm : correctorref4_Choose F a0 a1 = some r) :
    ∃ v h' Z' A', callI Go.Proofs.Try.prog 19 [.int .i64 a0, v11545] h = some (v, h') ∧ St h (idsL []) Z (0, 0) Z' h' A' ∧ ∃ v12223 : Value, ∃ c12224 : List Value, v12223 = v ∧ A' = [.gs v12223 c12224 (csz api_Edit)] ∧ RCs (α := api_Edit) Z' c12224 r := by
  refine fn_intro (A := []) (Q := fun v Z' A' => ∃ v12223 : Value, ∃ c12224 : List Value, v12223 = v ∧ A' = [.gs v12223 c12224 (csz api_Edit)] ∧ RCs (α := api_Edit) Z' c12224 r) Go.Proofs.Try.func19 rfl rfl (by kernel_rfl) hP ?_
  intro hs hS
  unfold correctorref4_Choose at hm
  replace hS : St hs [] Z (0, 0) Z hs [] := hS
  refine sr r19_0 ?_
  refine xe 1 [(0, .int .i64 a0), (1, v11545)] ?_
  refine sr r19_1 ?_
  refine xe 1 [(5, .slice none 0 0), (0, .int .i64 a0), (1, v11545)] ?_
  refine sq ?_
  refine sr r19_2 ?_
  refine xe 1 [(6, .int .i64 0), (5, .slice none 0 0), (0, .int .i64 a0), (1, v11545)] ?_
  obtain ⟨o12843, ho12842, hm⟩ := obind hm
  refine W_join [5] (fun l h => ∃ Z13663 : Zn, ∃ x13664 : List api_Edit, ∃ v13666 : Value, ∃ c13667 : List Value, x13664 = o12843 ∧ RCs (α := api_Edit) Z13663 c13667 x13664 ∧ l = [(5, v13666)] ∧ St hs [] Z (0, 0) Z13663 h [.gs v13666 c13667 (csz api_Edit)]) ?_ ?_
  rintro l h13668 ⟨Z13663, x13664, v13666, c13667, rfl, q13665, rfl, hS13669⟩
  try dsimp only at hm
  refine sr r19_17 ?_
  refine xe 2 [(4, v13666)] ?_
  refine rt ?_
  refine ⟨rfl, ?_⟩
  obtain rfl := Option.some.inj hm
  refine ⟨_, _, _, ResL.tmp rfl (ResL.nil), hS13669, ?_⟩
  exact ⟨v13666, c13667, rfl, rfl, q13665⟩
  refine bk 0 ?_
  have hS12844 := hS.nilGs (csz api_Edit)
  refine lp [0, 1, 5, 6] (fun n l h => ∃ Z12846 : Zn, ∃ x12847 : List api_Edit, ∃ x12851 : Int, ∃ v12849 : Value, ∃ c12850 : List Value, correctorref4_Choose_l0 F a0 a1 n x12847 x12851 = some o12843 ∧ RCs (α := api_Edit) Z12846 c12850 x12847 ∧ l = [(0, .int .i64 a0), (1, v11545), (5, v12849), (6, .int .i64 x12851)] ∧ St hs [] Z (0, 0) Z12846 h [.gs v12849 c12850 (csz api_Edit)]) F ⟨_, [], 0, (.slice none 0 0), [], ho12842, (RCs.nil0 _), rfl, hS12844⟩ ?_
  rintro n12854 l h12852 ⟨Z12846, x12847, x12851, v12849, c12850, ho12842, q12848, rfl, hS12853⟩
  rcases n12854 with _ | n12854
  cases (show none = some o12843 from ho12842)
  rw [correctorref4_Choose_l0] at ho12842
  refine sq ?_
  refine sr r19_3 ?_
  refine xq 2 [(12, v11545), (11, .int .i64 x12851), (0, .int .i64 a0), (1, v11545), (5, v12849), (6, .int .i64 x12851)] ?_
  refine r_step rfl trivial (o_len rfl (RS.len (q11544.mono hS12853.zle)) ⟨_, Go.Proofs.Try.underlying22⟩) ?_
  rcases ifs ho12842 with ⟨hp12859, ho12842⟩ | ⟨hp12859, ho12842⟩
  refine r_step rfl trivial (o_cmp rfl rfl (c_lss_T hp12859)) ?_
  refine xq 2 [(16, v12849), (15, .bool true), (0, .int .i64 a0), (1, v11545), (5, v12849), (6, .int .i64 x12851)] ?_
  refine r_step rfl rfl (o_len rfl (hS12853.glen (i := 0) rfl q12848) ⟨_, Go.Proofs.Try.underlying22⟩) ?_
  rcases ifs ho12842 with ⟨hp12860, ho12842⟩ | ⟨hp12860, ho12842⟩
  refine r_step rfl rfl (o_cmp rfl rfl (c_lss_T hp12860)) ?_
  refine xe 1 [(19, .bool true), (0, .int .i64 a0), (1, v11545), (5, v12849), (6, .int .i64 x12851)] ?_
  refine kT 19 rfl ?_
  refine sq ?_
  refine bk 1 ?_
  refine sq ?_
  obtain ⟨o12877, ho12876, ho12842⟩ := obind ho12842
  refine W_join [0, 1, 5, 6, 7] (fun l h => ∃ Z12893 : Zn, ∃ x12894 : List api_Edit, ∃ x12898 : Bool, ∃ v12896 : Value, ∃ c12897 : List Value, (x12894, x12898) = o12877 ∧ RCs (α := api_Edit) Z12893 c12897 x12894 ∧ l = [(0, .int .i64 a0), (1, v11545), (5, v12896), (6, .int .i64 x12851), (7, .bool x12898)] ∧ St hs [] Z (0, 0) Z12893 h [.gs v12896 c12897 (csz api_Edit)]) ?_ ?_
  rintro l h12899 ⟨Z12893, x12894, x12898, v12896, c12897, rfl, q12895, rfl, hS12900⟩
  try dsimp only at ho12842
  refine sq ?_
  refine sr r19_6 ?_
  refine xe 1 [(8, .int .i64 0), (0, .int .i64 a0), (1, v11545), (5, v12896), (6, .int .i64 x12851), (7, .bool x12898)] ?_
  obtain ⟨o13137, ho13136, ho12842⟩ := obind ho12842
  refine W_join [0, 1, 5, 6, 7] (fun l h => ∃ Z13245 : Zn, ∃ x13246 : List api_Edit, ∃ x13250 : Int, ∃ x13251 : Bool, ∃ v13248 : Value, ∃ c13249 : List Value, (x13246, x13250, x13251) = o13137 ∧ RCs (α := api_Edit) Z13245 c13249 x13246 ∧ l = [(0, .int .i64 a0), (1, v11545), (5, v13248), (6, .int .i64 x13250), (7, .bool x13251)] ∧ St hs [] Z (0, 0) Z13245 h [.gs v13248 c13249 (csz api_Edit)]) ?_ ?_
  rintro l h13252 ⟨Z13245, x13246, x13250, x13251, v13248, c13249, rfl, q13247, rfl, hS13253⟩
  try dsimp only at ho12842
  refine sq ?_
  refine sr r19_10 ?_
  refine xq 1 [(48, .bool x13251), (0, .int .i64 a0), (1, v11545), (5, v13248), (6, .int .i64 x13250)] ?_
  rcases ifs ho12842 with ⟨hp13256, ho12842⟩ | ⟨hp13256, ho12842⟩
  refine r_setb (t := 48) rfl hp13256 ?_
  refine xe 1 [(49, .bool false), (0, .int .i64 a0), (1, v11545), (5, v13248), (6, .int .i64 x13250)] ?_
  refine kF 49 rfl ?_
  refine sr r19_11 ?_
  refine xe 1 [(9, .int .i64 0), (0, .int .i64 a0), (1, v11545), (5, v13248), (6, .int .i64 x13250)] ?_
  refine sq ?_
  obtain ⟨o13417, ho13416, ho12842⟩ := obind ho12842
  refine W_join [0, 1, 5, 6, 9] (fun l h => ∃ Z13581 : Zn, ∃ x13582 : List api_Edit, ∃ x13586 : Int, ∃ x13587 : Int, ∃ v13584 : Value, ∃ c13585 : List Value, (x13582, x13586, x13587) = o13417 ∧ RCs (α := api_Edit) Z13581 c13585 x13582 ∧ l = [(0, .int .i64 a0), (1, v11545), (5, v13584), (6, .int .i64 x13586), (9, .int .i64 x13587)] ∧ St hs [] Z (0, 0) Z13581 h [.gs v13584 c13585 (csz api_Edit)]) ?_ ?_
  rintro l h13588 ⟨Z13581, x13582, x13586, x13587, v13584, c13585, rfl, q13583, rfl, hS13589⟩
  try dsimp only at ho12842
  refine sr r19_14 ?_
  have q13593 : RCs (α := api_Edit) Z13581 [] [] := RCs.nil0 _
  refine r_row rfl trivial (o_bs (cells := []) (s := 3) (by kernel_rfl)) (by kernel_rfl) hS13589 ?_
  intro v13590 h13591 hS13592
  replace hS13592 : St _ _ _ _ _ _ [.gs v13590 [] (csz api_Edit), .gs v13584 c13585 (csz api_Edit)] := hS13592
  refine xq 2 [(97, .int .i64 x13587), (96, v13584), (95, v13590), (0, .int .i64 a0), (1, v11545), (5, v13584), (6, .int .i64 x13586), (9, .int .i64 x13587)] ?_
  obtain ⟨Z13595, hZ13596, q13597, hS13598⟩ := (hS13592.front 1 rfl).freeze q13583
  replace hS13598 : St _ _ _ _ _ _ [.gs v13590 [] (csz api_Edit)] := hS13598
  obtain ⟨hc13602, ho12842⟩ := chk ho12842
  refine r_exv rfl trivial (o_slice (a := 0) (b := x13587) q13597 rfl (by kernel_rfl : slTy _ _ = some (csz api_Edit)) rfl ⟨_, rfl⟩ hc13602.1 hc13602.2.1 hc13602.2.2) ?_
  intro v13599 q13600
  obtain ⟨c13604, nw13603⟩ := RS.news q13600 (hS13598).inv
  obtain ⟨hc13610, ho12842⟩ := chk ho12842
  refine r_ex3 rfl trivial (o_app (ys := (x13582.take x13587.toNat).drop (0 : Int).toNat) (by_ := 32) hS13598 (i := 0) rfl (q13593.mono hZ13596) nw13603 rfl rfl (by kernel_rfl) (by omega) (by omega)) ?_
  rintro v13605 c13606 h13607 ⟨q13609, hS13608⟩
  replace hS13608 : St _ _ _ _ _ _ [.gs v13605 c13606 (csz api_Edit)] := hS13608
  refine xe 1 [(10, v13605), (0, .int .i64 a0), (1, v11545), (5, v13584), (6, .int .i64 x13586), (9, .int .i64 x13587)] ?_
  refine sr r19_15 ?_
  refine xq 3 [(102, .int .i64 x13586), (101, v11545), (100, v13605), (10, v13605), (0, .int .i64 a0), (1, v11545), (5, v13584), (6, .int .i64 x13586), (9, .int .i64 x13587)] ?_
  obtain ⟨hc13611, ho12842⟩ := chk ho12842
  refine r_step rfl trivial (o_index rfl rfl (by kernel_rfl : slTy _ _ = some (csz api_Edit)) (RS.based (q11544.mono (hS13589.zle.trans hZ13596)) (by omega)) hc13611.1 hc13611.2) ?_
  obtain ⟨x13612, hx13613, ho12842⟩ := obind ho12842
  obtain ⟨cs13614, hc13615, he13616⟩ := RS.elz (q11544.mono (hS13589.zle.trans hZ13596)) (i := x13586) hx13613
  obtain rfl := rc_api_Edit hc13615
  refine r_step rfl trivial (o_lde (w := .agg #[.int .i64 x13612.From, .int .i64 x13612.To, .string ⟨⟨x13612.Put.b⟩⟩]) (he13616 _ (hS13608.zin0 (Zle.refl _))) rfl (by kernel_rfl)) ?_
  have q13621 : RCs (α := api_Edit) Z13595 [.int .i64 x13612.From, .int .i64 x13612.To, .string ⟨⟨x13612.Put.b⟩⟩] [x13612] := RCs.cons (cs := [.int .i64 x13612.From, .int .i64 x13612.To, .string ⟨⟨x13612.Put.b⟩⟩]) rfl (RCs.nil0 _)
  refine r_row rfl trivial (o_bs (cells := [.int .i64 x13612.From, .int .i64 x13612.To, .string ⟨⟨x13612.Put.b⟩⟩]) (s := 3) (by kernel_rfl)) (by kernel_rfl) hS13608 ?_
  intro v13618 h13619 hS13620
  replace hS13620 : St _ _ _ _ _ _ [.gs v13618 [.int .i64 x13612.From, .int .i64 x13612.To, .string ⟨⟨x13612.Put.b⟩⟩] (csz api_Edit), .gs v13605 c13606 (csz api_Edit)] := hS13620
  obtain ⟨hc13629, ho12842⟩ := chk ho12842
  refine r_ex3 rfl trivial (o_app (ys := [x13612]) (by_ := 32) hS13620 (i := 1) rfl q13609 ((hS13620).gnews (j := 0) rfl q13621) rfl rfl (by kernel_rfl) (by omega) (by omega)) ?_
  rintro v13624 c13625 h13626 ⟨q13628, hS13627⟩
  replace hS13627 : St _ _ _ _ _ _ [.gs v13618 [.int .i64 x13612.From, .int .i64 x13612.To, .string ⟨⟨x13612.Put.b⟩⟩] (csz api_Edit), .gs v13624 c13625 (csz api_Edit)] := hS13627
  refine xe 1 [(10, v13624), (0, .int .i64 a0), (1, v11545), (5, v13584), (6, .int .i64 x13586), (9, .int .i64 x13587)] ?_
  refine rg r19_16 ?_
  refine xq 3 [(109, .int .i64 x13587), (108, v13584), (107, v13624), (0, .int .i64 a0), (1, v11545), (5, v13584), (6, .int .i64 x13586)] ?_
  obtain ⟨hc13633, ho12842⟩ := chk ho12842
  refine r_exv rfl trivial (o_slice (a := x13587) (b := (x13582.length : Int)) q13597 rfl (by kernel_rfl : slTy _ _ = some (csz api_Edit)) ⟨_, rfl⟩ rfl hc13633.1 hc13633.2.1 hc13633.2.2) ?_
  intro v13630 q13631
  obtain ⟨c13635, nw13634⟩ := RS.news q13631 (hS13627).inv
  obtain ⟨hc13641, ho12842⟩ := chk ho12842
  refine r_ex3 rfl trivial (o_app (ys := (x13582.take (x13582.length : Int).toNat).drop x13587.toNat) (by_ := 32) hS13627 (i := 1) rfl q13628 nw13634 rfl rfl (by kernel_rfl) (by omega) (by omega)) ?_
  rintro v13636 c13637 h13638 ⟨q13640, hS13639⟩
  replace hS13639 : St _ _ _ _ _ _ [.gs v13618 [.int .i64 x13612.From, .int .i64 x13612.To, .string ⟨⟨x13612.Put.b⟩⟩] (csz api_Edit), .gs v13636 c13637 (csz api_Edit)] := hS13639
  refine xe 1 [(5, v13636), (0, .int .i64 a0), (1, v11545), (6, .int .i64 x13586)] ?_
  refine rg r19_4 ?_
  refine xe 3 [(6, .int .i64 (w64 (x13586 + 1))), (5, v13636), (0, .int .i64 a0), (1, v11545)] ?_
  exact ⟨n12854, Nat.lt_succ_self _, ⟨_, ((([] : List api_Edit) ++ ((x13582.take x13587.toNat).drop (0 : Int).toNat)) ++ [x13612]) ++ ((x13582.take (x13582.length : Int).toNat).drop x13587.toNat), w64 (x13586 + 1), v13636, c13637, ho12842, q13640, rfl, ((hS13639.front 1 rfl).takeN 1)⟩⟩
  refine bk 4 ?_
  refine lp [0, 1, 5, 6, 9] (fun n l h => ∃ Z13418 : Zn, ∃ x13419 : List api_Edit, ∃ x13423 : Int, ∃ x13424 : Int, ∃ v13421 : Value, ∃ c13422 : List Value, correctorref4_Choose_l2 F a0 a1 n x13419 x13423 x13424 = some o13417 ∧ RCs (α := api_Edit) Z13418 c13422 x13419 ∧ l = [(0, .int .i64 a0), (1, v11545), (5, v13421), (6, .int .i64 x13423), (9, .int .i64 x13424)] ∧ St hs [] Z (0, 0) Z13418 h [.gs v13421 c13422 (csz api_Edit)]) F ⟨_, x13246, x13250, 0, v13248, c13249, ho13416, q13247, rfl, hS13253⟩ ?_
  rintro n13427 l h13425 ⟨Z13418, x13419, x13423, x13424, v13421, c13422, ho13416, q13420, rfl, hS13426⟩
  rcases n13427 with _ | n13427
  cases (show none = some o13417 from ho13416)
  rw [correctorref4_Choose_l2] at ho13416
  refine sq ?_
  obtain ⟨o13493, ho13492, ho13416⟩ := obind ho13416
  refine W_join [0, 1, 5, 6, 9] (fun l h => ∃ Z13558 : Zn, ∃ x13559 : List api_Edit, ∃ v13561 : Value, ∃ c13562 : List Value, .inl x13559 = o13493 ∧ RCs (α := api_Edit) Z13558 c13562 x13559 ∧ l = [(0, .int .i64 a0), (1, v11545), (5, v13561), (6, .int .i64 x13423), (9, .int .i64 x13424)] ∧ St hs [] Z (0, 0) Z13558 h [.gs v13561 c13562 (csz api_Edit)]) ?_ ?_
  rintro l h13563 ⟨Z13558, x13559, v13561, c13562, rfl, q13560, rfl, hS13564⟩
  try dsimp only at ho13416
  refine bk 5 ?_
  refine rg r19_13 ?_
  refine xe 3 [(9, .int .i64 (w64 (x13424 + 1))), (0, .int .i64 a0), (1, v11545), (5, v13561), (6, .int .i64 x13423)] ?_
  exact ⟨n13427, Nat.lt_succ_self _, ⟨_, x13559, x13423, w64 (x13424 + 1), v13561, c13562, ho13416, q13560, rfl, hS13564⟩⟩
  refine srF r19_12 hS13426 ?_
  intro bs13494 h13495 hlv13497 hS13496
  refine yq 2 [(51, v13421), (50, .int .i64 x13424), (0, .int .i64 a0), (1, v11545), (5, v13421), (6, .int .i64 x13423), (9, .int .i64 x13424)] ?_
  refine e_val rfl trivial (o_len rfl (hS13496.glen (i := 0) rfl q13420) ⟨_, Go.Proofs.Try.underlying22⟩) ?_
  rcases ifs ho13492 with ⟨hp13498, ho13492⟩ | ⟨hp13498, ho13492⟩
  refine e_val rfl trivial (o_cmp rfl rfl (c_lss_T hp13498)) ?_
  refine yq 3 [(56, .int .i64 x13424), (55, v13421), (54, .bool true), (0, .int .i64 a0), (1, v11545), (5, v13421), (6, .int .i64 x13423), (9, .int .i64 x13424)] ?_
  obtain ⟨hc13499, ho13492⟩ := chk ho13492
  refine e_val rfl rfl (o_index rfl rfl (by kernel_rfl : slTy _ _ = some (csz api_Edit)) (hS13496.gbased (j := 0) rfl q13420 (by omega)) hc13499.1 hc13499.2) ?_
  refine yq 1 [(58, .pointer (some (elemA v13421 x13424 (csz api_Edit) 0))), (54, .bool true), (0, .int .i64 a0), (1, v11545), (5, v13421), (6, .int .i64 x13423), (9, .int .i64 x13424)] ?_
  obtain ⟨x13500, hx13501, ho13492⟩ := obind ho13492
  obtain ⟨cs13502, hc13503, he13504, ht13505⟩ := hS13496.gel (j := 0) rfl q13420 (i := x13424) hx13501
  obtain rfl := rc_api_Edit hc13503
  have ps13506 := pos_of hx13501
  have hB13507 := hS13496.gbased (j := 0) rfl q13420 ps13506
  have lt13508 : (baseOf v13421).block < bs13494 := row_ltM (hlv13497.1 _ (List.mem_of_getElem? (i := 0) rfl)) hB13507
  refine e_lookB rfl rfl rfl (by show (baseOf v13421).block < _; omega) (same1 (v := .int .i64 x13500.From) trivial) (o_lde (w := .int .i64 x13500.From) he13504 rfl (by kernel_rfl)) trivial ?_
  refine yq 2 [(61, .int .i64 x13423), (60, v11545), (59, .int .i64 x13500.From), (54, .bool true), (0, .int .i64 a0), (1, v11545), (5, v13421), (6, .int .i64 x13423), (9, .int .i64 x13424)] ?_
  obtain ⟨hc13509, ho13492⟩ := chk ho13492
  refine e_val rfl rfl (o_index rfl rfl (by kernel_rfl : slTy _ _ = some (csz api_Edit)) (RS.based (q11544.mono hS13426.zle) (by omega)) hc13509.1 hc13509.2) ?_
  refine yq 1 [(63, .pointer (some (elemA v11545 x13423 (csz api_Edit) 0))), (59, .int .i64 x13500.From), (54, .bool true), (0, .int .i64 a0), (1, v11545), (5, v13421), (6, .int .i64 x13423), (9, .int .i64 x13424)] ?_
  obtain ⟨x13510, hx13511, ho13492⟩ := obind ho13492
  obtain ⟨cs13512, hc13513, he13514⟩ := RS.elz (q11544.mono hS13426.zle) (i := x13423) hx13511
  obtain rfl := rc_api_Edit hc13513
  refine e_lookZ rfl rfl rfl (fun h2 hz => o_lde (w := .int .i64 x13510.From) (he13514 h2 hz) rfl (by kernel_rfl)) (hS13496.zin0 (Zle.refl _)) (same1 (v := .int .i64 x13510.From) trivial) trivial ?_
  rcases ifs ho13492 with ⟨hp13516, ho13492⟩ | ⟨hp13516, ho13492⟩
  refine e_val rfl rfl (o_cmp rfl rfl (c_lss_T hp13516)) ?_
  refine ye 27 [(92, .bool true), (0, .int .i64 a0), (1, v11545), (5, v13421), (6, .int .i64 x13423), (9, .int .i64 x13424)] ?_
  have hS13517 := hS13496.unres
  refine kT 92 rfl ?_
  obtain rfl := Option.some.inj ho13492
  exact ⟨_, x13419, v13421, c13422, rfl, q13420, rfl, hS13517⟩
  refine e_val rfl rfl (o_cmp rfl rfl (c_lss_F hp13516)) ?_
  refine yq 3 [(68, .int .i64 x13424), (67, v13421), (66, .bool false), (54, .bool true), (0, .int .i64 a0), (1, v11545), (5, v13421), (6, .int .i64 x13423), (9, .int .i64 x13424)] ?_
  obtain ⟨hc13518, ho13492⟩ := chk ho13492
  refine e_val rfl rfl (o_index rfl rfl (by kernel_rfl : slTy _ _ = some (csz api_Edit)) (hS13496.gbased (j := 0) rfl q13420 (by omega)) hc13518.1 hc13518.2) ?_
  refine yq 1 [(70, .pointer (some (elemA v13421 x13424 (csz api_Edit) 0))), (66, .bool false), (54, .bool true), (0, .int .i64 a0), (1, v11545), (5, v13421), (6, .int .i64 x13423), (9, .int .i64 x13424)] ?_
  obtain ⟨x13519, hx13520, ho13492⟩ := obind ho13492
  obtain ⟨cs13521, hc13522, he13523, ht13524⟩ := hS13496.gel (j := 0) rfl q13420 (i := x13424) hx13520
  obtain rfl := rc_api_Edit hc13522
  have ps13525 := pos_of hx13520
  have hB13526 := hS13496.gbased (j := 0) rfl q13420 ps13525
  have lt13527 : (baseOf v13421).block < bs13494 := row_ltM (hlv13497.1 _ (List.mem_of_getElem? (i := 0) rfl)) hB13526
  refine e_lookB rfl rfl rfl (by show (baseOf v13421).block < _; omega) (same1 (v := .int .i64 x13519.From) trivial) (o_lde (w := .int .i64 x13519.From) he13523 rfl (by kernel_rfl)) trivial ?_
  refine yq 2 [(73, .int .i64 x13423), (72, v11545), (71, .int .i64 x13519.From), (66, .bool false), (54, .bool true), (0, .int .i64 a0), (1, v11545), (5, v13421), (6, .int .i64 x13423), (9, .int .i64 x13424)] ?_
  obtain ⟨hc13528, ho13492⟩ := chk ho13492
  refine e_val rfl rfl (o_index rfl rfl (by kernel_rfl : slTy _ _ = some (csz api_Edit)) (RS.based (q11544.mono hS13426.zle) (by omega)) hc13528.1 hc13528.2) ?_
  refine yq 1 [(75, .pointer (some (elemA v11545 x13423 (csz api_Edit) 0))), (71, .int .i64 x13519.From), (66, .bool false), (54, .bool true), (0, .int .i64 a0), (1, v11545), (5, v13421), (6, .int .i64 x13423), (9, .int .i64 x13424)] ?_
  obtain ⟨x13529, hx13530, ho13492⟩ := obind ho13492
  obtain ⟨cs13531, hc13532, he13533⟩ := RS.elz (q11544.mono hS13426.zle) (i := x13423) hx13530
  obtain rfl := rc_api_Edit hc13532
  refine e_lookZ rfl rfl rfl (fun h2 hz => o_lde (w := .int .i64 x13529.From) (he13533 h2 hz) rfl (by kernel_rfl)) (hS13496.zin0 (Zle.refl _)) (same1 (v := .int .i64 x13529.From) trivial) trivial ?_
  rcases ifs ho13492 with ⟨hp13535, ho13492⟩ | ⟨hp13535, ho13492⟩
  refine e_val rfl rfl (o_cmp rfl rfl (c_eql_T hp13535)) ?_
  refine yq 3 [(80, .int .i64 x13424), (79, v13421), (78, .bool true), (66, .bool false), (54, .bool true), (0, .int .i64 a0), (1, v11545), (5, v13421), (6, .int .i64 x13423), (9, .int .i64 x13424)] ?_
  obtain ⟨hc13536, ho13492⟩ := chk ho13492
  refine e_val rfl rfl (o_index rfl rfl (by kernel_rfl : slTy _ _ = some (csz api_Edit)) (hS13496.gbased (j := 0) rfl q13420 (by omega)) hc13536.1 hc13536.2) ?_
  refine yq 1 [(82, .pointer (some (elemA v13421 x13424 (csz api_Edit) 1))), (78, .bool true), (66, .bool false), (54, .bool true), (0, .int .i64 a0), (1, v11545), (5, v13421), (6, .int .i64 x13423), (9, .int .i64 x13424)] ?_
  obtain ⟨x13537, hx13538, ho13492⟩ := obind ho13492
  obtain ⟨cs13539, hc13540, he13541, ht13542⟩ := hS13496.gel (j := 0) rfl q13420 (i := x13424) hx13538
  obtain rfl := rc_api_Edit hc13540
  have ps13543 := pos_of hx13538
  have hB13544 := hS13496.gbased (j := 0) rfl q13420 ps13543
  have lt13545 : (baseOf v13421).block < bs13494 := row_ltM (hlv13497.1 _ (List.mem_of_getElem? (i := 0) rfl)) hB13544
  refine e_lookB rfl rfl rfl (by show (baseOf v13421).block < _; omega) (same1 (v := .int .i64 x13537.To) trivial) (o_lde (w := .int .i64 x13537.To) he13541 rfl (by kernel_rfl)) trivial ?_
  refine yq 2 [(85, .int .i64 x13423), (84, v11545), (83, .int .i64 x13537.To), (78, .bool true), (66, .bool false), (54, .bool true), (0, .int .i64 a0), (1, v11545), (5, v13421), (6, .int .i64 x13423), (9, .int .i64 x13424)] ?_
  obtain ⟨hc13546, ho13492⟩ := chk ho13492
  refine e_val rfl rfl (o_index rfl rfl (by kernel_rfl : slTy _ _ = some (csz api_Edit)) (RS.based (q11544.mono hS13426.zle) (by omega)) hc13546.1 hc13546.2) ?_
  refine yq 1 [(87, .pointer (some (elemA v11545 x13423 (csz api_Edit) 1))), (83, .int .i64 x13537.To), (78, .bool true), (66, .bool false), (54, .bool true), (0, .int .i64 a0), (1, v11545), (5, v13421), (6, .int .i64 x13423), (9, .int .i64 x13424)] ?_
  obtain ⟨x13547, hx13548, ho13492⟩ := obind ho13492
  obtain ⟨cs13549, hc13550, he13551⟩ := RS.elz (q11544.mono hS13426.zle) (i := x13423) hx13548
  obtain rfl := rc_api_Edit hc13550
  refine e_lookZ rfl rfl rfl (fun h2 hz => o_lde (w := .int .i64 x13547.To) (he13551 h2 hz) rfl (by kernel_rfl)) (hS13496.zin0 (Zle.refl _)) (same1 (v := .int .i64 x13547.To) trivial) trivial ?_
  rcases ifs ho13492 with ⟨hp13553, ho13492⟩ | ⟨hp13553, ho13492⟩
  refine e_val rfl rfl (o_cmp rfl rfl (c_lss_T hp13553)) ?_
  refine ye 3 [(92, .bool true), (0, .int .i64 a0), (1, v11545), (5, v13421), (6, .int .i64 x13423), (9, .int .i64 x13424)] ?_
  have hS13554 := hS13496.unres
  refine kT 92 rfl ?_
  obtain rfl := Option.some.inj ho13492
  exact ⟨_, x13419, v13421, c13422, rfl, q13420, rfl, hS13554⟩
  refine e_val rfl rfl (o_cmp rfl rfl (c_lss_F hp13553)) ?_
  refine ye 3 [(92, .bool false), (0, .int .i64 a0), (1, v11545), (5, v13421), (6, .int .i64 x13423), (9, .int .i64 x13424)] ?_
  have hS13555 := hS13496.unres
  refine cF 92 rfl ?_
  refine xt 4 ?_
  refine blkX_hit ?_
  obtain rfl := Option.some.inj ho13492
  obtain rfl := Option.some.inj ho13416
  exact ⟨_, x13419, x13423, x13424, v13421, c13422, rfl, q13420, rfl, hS13555⟩
  refine e_val rfl rfl (o_cmp rfl rfl (c_eql_F hp13535)) ?_
  refine ye 15 [(92, .bool false), (0, .int .i64 a0), (1, v11545), (5, v13421), (6, .int .i64 x13423), (9, .int .i64 x13424)] ?_
  have hS13556 := hS13496.unres
  refine cF 92 rfl ?_
  refine xt 4 ?_
  refine blkX_hit ?_
  obtain rfl := Option.some.inj ho13492
  obtain rfl := Option.some.inj ho13416
  exact ⟨_, x13419, x13423, x13424, v13421, c13422, rfl, q13420, rfl, hS13556⟩
  refine e_val rfl trivial (o_cmp rfl rfl (c_lss_F hp13498)) ?_
  refine ye 39 [(92, .bool false), (0, .int .i64 a0), (1, v11545), (5, v13421), (6, .int .i64 x13423), (9, .int .i64 x13424)] ?_
  have hS13557 := hS13496.unres
  refine cF 92 rfl ?_
  refine xt 4 ?_
  refine blkX_hit ?_
  obtain rfl := Option.some.inj ho13492
  obtain rfl := Option.some.inj ho13416
  exact ⟨_, x13419, x13423, x13424, v13421, c13422, rfl, q13420, rfl, hS13557⟩
  refine r_setb (t := 48) rfl (Bool.eq_false_iff.2 hp13256) ?_
  refine xe 1 [(49, .bool true), (0, .int .i64 a0), (1, v11545), (5, v13248), (6, .int .i64 x13250)] ?_
  refine cT 49 rfl ?_
  refine xt 1 ?_
  refine blkX_hit ?_
  refine rg r19_4 ?_
  refine xe 3 [(6, .int .i64 (w64 (x13250 + 1))), (0, .int .i64 a0), (1, v11545), (5, v13248)] ?_
  exact ⟨n12854, Nat.lt_succ_self _, ⟨_, x13246, w64 (x13250 + 1), v13248, c13249, ho12842, q13247, rfl, hS13253⟩⟩
  refine bk 2 ?_
  refine lp [0, 1, 5, 6, 7, 8] (fun n l h => ∃ Z13138 : Zn, ∃ x13139 : List api_Edit, ∃ x13143 : Int, ∃ x13144 : Bool, ∃ x13145 : Int, ∃ v13141 : Value, ∃ c13142 : List Value, correctorref4_Choose_l1 F a0 a1 n x13139 x13143 x13144 x13145 = some o13137 ∧ RCs (α := api_Edit) Z13138 c13142 x13139 ∧ l = [(0, .int .i64 a0), (1, v11545), (5, v13141), (6, .int .i64 x13143), (7, .bool x13144), (8, .int .i64 x13145)] ∧ St hs [] Z (0, 0) Z13138 h [.gs v13141 c13142 (csz api_Edit)]) F ⟨_, x12894, x12851, x12898, 0, v12896, c12897, ho13136, q12895, rfl, hS12900⟩ ?_
  rintro n13148 l h13146 ⟨Z13138, x13139, x13143, x13144, x13145, v13141, c13142, ho13136, q13140, rfl, hS13147⟩
  rcases n13148 with _ | n13148
  cases (show none = some o13137 from ho13136)
  rw [correctorref4_Choose_l1] at ho13136
  refine sq ?_
  refine sr r19_7 ?_
  refine xq 2 [(30, v13141), (29, .int .i64 x13145), (0, .int .i64 a0), (1, v11545), (5, v13141), (6, .int .i64 x13143), (7, .bool x13144), (8, .int .i64 x13145)] ?_
  refine r_step rfl trivial (o_len rfl (hS13147.glen (i := 0) rfl q13140) ⟨_, Go.Proofs.Try.underlying22⟩) ?_
  rcases ifs ho13136 with ⟨hp13151, ho13136⟩ | ⟨hp13151, ho13136⟩
  refine r_step rfl trivial (o_cmp rfl rfl (c_lss_T hp13151)) ?_
  refine xf [(32, .bool true), (0, .int .i64 a0), (1, v11545), (5, v13141), (6, .int .i64 x13143), (7, .bool x13144), (8, .int .i64 x13145)] ?_
  refine kT 32 rfl ?_
  refine sq ?_
  refine bk 3 ?_
  obtain ⟨o13189, ho13188, ho13136⟩ := obind ho13136
  refine W_join [0, 1, 5, 6, 7, 8] (fun l h => ∃ Z13226 : Zn, ∃ x13227 : List api_Edit, ∃ x13231 : Bool, ∃ v13229 : Value, ∃ c13230 : List Value, (x13227, x13231) = o13189 ∧ RCs (α := api_Edit) Z13226 c13230 x13227 ∧ l = [(0, .int .i64 a0), (1, v11545), (5, v13229), (6, .int .i64 x13143), (7, .bool x13231), (8, .int .i64 x13145)] ∧ St hs [] Z (0, 0) Z13226 h [.gs v13229 c13230 (csz api_Edit)]) ?_ ?_
  rintro l h13232 ⟨Z13226, x13227, x13231, v13229, c13230, rfl, q13228, rfl, hS13233⟩
  try dsimp only at ho13136
  refine rg r19_8 ?_
  refine xe 3 [(8, .int .i64 (w64 (x13145 + 1))), (0, .int .i64 a0), (1, v11545), (5, v13229), (6, .int .i64 x13143), (7, .bool x13231)] ?_
  exact ⟨n13148, Nat.lt_succ_self _, ⟨_, x13227, x13143, x13231, w64 (x13145 + 1), v13229, c13230, ho13136, q13228, rfl, hS13233⟩⟩
  refine rgF r19_9 hS13147 ?_
  intro bs13190 h13191 hlv13193 hS13192
  refine yq 2 [(36, .bool x13144), (0, .int .i64 a0), (1, v11545), (5, v13141), (6, .int .i64 x13143), (7, .bool x13144), (8, .int .i64 x13145)] ?_
  rcases ifs ho13188 with ⟨hp13194, ho13188⟩ | ⟨hp13194, ho13188⟩
  refine e_setb (t := 36) rfl hp13194 ?_
  refine yq 2 [(38, .int .i64 x13143), (37, v11545), (36, .bool true), (0, .int .i64 a0), (1, v11545), (5, v13141), (6, .int .i64 x13143), (7, .bool x13144), (8, .int .i64 x13145)] ?_
  obtain ⟨hc13195, ho13188⟩ := chk ho13188
  refine e_val rfl rfl (o_index rfl rfl (by kernel_rfl : slTy _ _ = some (csz api_Edit)) (RS.based (q11544.mono hS13147.zle) (by omega)) hc13195.1 hc13195.2) ?_
  obtain ⟨x13196, hx13197, ho13188⟩ := obind ho13188
  obtain ⟨cs13198, hc13199, he13200⟩ := RS.elz (q11544.mono hS13147.zle) (i := x13143) hx13197
  obtain rfl := rc_api_Edit hc13199
  refine e_lookZ rfl rfl rfl (fun h2 hz => o_lde (w := .agg #[.int .i64 x13196.From, .int .i64 x13196.To, .string ⟨⟨x13196.Put.b⟩⟩]) (he13200 h2 hz) rfl (by kernel_rfl)) (hS13192.zin0 (Zle.refl _)) (same_agg (cs := [.int .i64 x13196.From, .int .i64 x13196.To, .string ⟨⟨x13196.Put.b⟩⟩]) (.cons trivial (.cons trivial (.cons trivial .nil)))) trivial ?_
  refine yq 2 [(42, .int .i64 x13145), (41, v13141), (40, .agg #[.int .i64 x13196.From, .int .i64 x13196.To, .string ⟨⟨x13196.Put.b⟩⟩]), (36, .bool true), (0, .int .i64 a0), (1, v11545), (5, v13141), (6, .int .i64 x13143), (7, .bool x13144), (8, .int .i64 x13145)] ?_
  obtain ⟨hc13202, ho13188⟩ := chk ho13188
  refine e_val rfl rfl (o_index rfl rfl (by kernel_rfl : slTy _ _ = some (csz api_Edit)) (hS13192.gbased (j := 0) rfl q13140 (by omega)) hc13202.1 hc13202.2) ?_
  obtain ⟨x13203, hx13204, ho13188⟩ := obind ho13188
  obtain ⟨cs13205, hc13206, he13207, ht13208⟩ := hS13192.gel (j := 0) rfl q13140 (i := x13145) hx13204
  obtain rfl := rc_api_Edit hc13206
  have ps13209 := pos_of hx13204
  have hB13210 := hS13192.gbased (j := 0) rfl q13140 ps13209
  have lt13211 : (baseOf v13141).block < bs13190 := row_ltM (hlv13193.1 _ (List.mem_of_getElem? (i := 0) rfl)) hB13210
  refine e_lookB rfl rfl rfl (by show (baseOf v13141).block < _; omega) (same_agg (cs := [.int .i64 x13203.From, .int .i64 x13203.To, .string ⟨⟨x13203.Put.b⟩⟩]) (.cons trivial (.cons trivial (.cons trivial .nil)))) (o_lde (w := .agg #[.int .i64 x13203.From, .int .i64 x13203.To, .string ⟨⟨x13203.Put.b⟩⟩]) he13207 rfl (by kernel_rfl)) trivial ?_
  obtain ⟨r13212, hx13213, ho13188⟩ := obind ho13188
  have hSl13219 := hS13192.lown
  obtain ⟨v13214, h13215, hcl13216, hSc13217, rfl⟩ := correctorref4_upon_ok F hSl13219.inv  hx13213
  have hS13218 := St.call (A := []) (B := [.gs v13141 c13142 (csz api_Edit)]) hSl13219 hSc13217
  replace hS13218 : St _ _ _ _ _ _ [.gs v13141 c13142 (csz api_Edit)] := hS13218
  refine e_still rfl rfl hS13192 (o_call hcl13216 rfl rfl rfl) hS13218 (St.lowk hSc13217) ?_
  intro h13220 hS13221
  rcases ifs ho13188 with ⟨hp13222, ho13188⟩ | ⟨hp13222, ho13188⟩
  refine e_setb (t := 45) rfl hp13222 ?_
  refine ye 3 [(7, .bool false), (0, .int .i64 a0), (1, v11545), (5, v13141), (6, .int .i64 x13143), (8, .int .i64 x13145)] ?_
  have hS13223 := hS13221.unres
  obtain rfl := Option.some.inj ho13188
  exact ⟨_, x13139, false, v13141, c13142, rfl, q13140, rfl, hS13223⟩
  refine e_setb (t := 45) rfl (Bool.eq_false_iff.2 hp13222) ?_
  refine ye 3 [(7, .bool true), (0, .int .i64 a0), (1, v11545), (5, v13141), (6, .int .i64 x13143), (8, .int .i64 x13145)] ?_
  have hS13224 := hS13221.unres
  obtain rfl := Option.some.inj ho13188
  exact ⟨_, x13139, true, v13141, c13142, rfl, q13140, rfl, hS13224⟩
  refine e_setb (t := 36) rfl (Bool.eq_false_iff.2 hp13194) ?_
  refine ye 12 [(7, .bool false), (0, .int .i64 a0), (1, v11545), (5, v13141), (6, .int .i64 x13143), (8, .int .i64 x13145)] ?_
  have hS13225 := hS13192.unres
  obtain rfl := Option.some.inj ho13188
  exact ⟨_, x13139, false, v13141, c13142, rfl, q13140, rfl, hS13225⟩
  refine r_step rfl trivial (o_cmp rfl rfl (c_lss_F hp13151)) ?_
  refine xf [(32, .bool false), (0, .int .i64 a0), (1, v11545), (5, v13141), (6, .int .i64 x13143), (7, .bool x13144), (8, .int .i64 x13145)] ?_
  refine cF 32 rfl ?_
  refine xt 2 ?_
  refine blkX_hit ?_
  obtain rfl := Option.some.inj ho13136
  exact ⟨_, x13139, x13143, x13144, v13141, c13142, rfl, q13140, rfl, hS13147⟩
  refine rg r19_5 ?_
  refine xq 3 [(24, .int .i64 x12851), (23, v11545), (22, .int .i64 a0), (0, .int .i64 a0), (1, v11545), (5, v12849), (6, .int .i64 x12851)] ?_
  obtain ⟨hc12878, ho12876⟩ := chk ho12876
  refine r_step rfl trivial (o_index rfl rfl (by kernel_rfl : slTy _ _ = some (csz api_Edit)) (RS.based (q11544.mono hS12853.zle) (by omega)) hc12878.1 hc12878.2) ?_
  obtain ⟨x12879, hx12880, ho12876⟩ := obind ho12876
  obtain ⟨cs12881, hc12882, he12883⟩ := RS.elz (q11544.mono hS12853.zle) (i := x12851) hx12880
  obtain rfl := rc_api_Edit hc12882
  refine r_step rfl trivial (o_lde (w := .agg #[.int .i64 x12879.From, .int .i64 x12879.To, .string ⟨⟨x12879.Put.b⟩⟩]) (he12883 _ (hS12853.zin0 (Zle.refl _))) rfl (by kernel_rfl)) ?_
  obtain ⟨r12885, hx12886, ho12876⟩ := obind ho12876
  obtain ⟨v12887, h12888, hcl12889, hSc12890, rfl⟩ := correctorref4_one_ok F hS12853.inv  hx12886
  have hS12891 := St.call (A := []) (B := [.gs v12849 c12850 (csz api_Edit)]) hS12853 hSc12890
  replace hS12891 : St _ _ _ _ _ _ [.gs v12849 c12850 (csz api_Edit)] := hS12891
  refine r_step rfl trivial (o_call hcl12889 rfl rfl rfl) ?_
  rcases ifs ho12876 with ⟨hp12892, ho12876⟩ | ⟨hp12892, ho12876⟩
  refine r_step rfl trivial (o_cmp rfl rfl (c_eql_T hp12892)) ?_
  refine xe 1 [(7, .bool true), (0, .int .i64 a0), (1, v11545), (5, v12849), (6, .int .i64 x12851)] ?_
  obtain rfl := Option.some.inj ho12876
  exact ⟨_, x12847, true, v12849, c12850, rfl, q12848, rfl, hS12891⟩
  refine r_step rfl trivial (o_cmp rfl rfl (c_eql_F hp12892)) ?_
  refine xe 1 [(7, .bool false), (0, .int .i64 a0), (1, v11545), (5, v12849), (6, .int .i64 x12851)] ?_
  obtain rfl := Option.some.inj ho12876
  exact ⟨_, x12847, false, v12849, c12850, rfl, q12848, rfl, hS12891⟩
  refine r_step rfl rfl (o_cmp rfl rfl (c_lss_F hp12860)) ?_
  refine xe 1 [(19, .bool false), (0, .int .i64 a0), (1, v11545), (5, v12849), (6, .int .i64 x12851)] ?_
  refine cF 19 rfl ?_
  refine xt 0 ?_
  refine blkX_hit ?_
  obtain rfl := Option.some.inj ho12842
  exact ⟨_, x12847, v12849, c12850, rfl, q12848, rfl, hS12853⟩
  refine r_step rfl trivial (o_cmp rfl rfl (c_lss_F hp12859)) ?_
  refine xe 5 [(19, .bool false), (0, .int .i64 a0), (1, v11545), (5, v12849), (6, .int .i64 x12851)] ?_
  refine cF 19 rfl ?_
  refine xt 0 ?_
  refine blkX_hit ?_
  obtain rfl := Option.some.inj ho12842
  exact ⟨_, x12847, v12849, c12850, rfl, q12848, rfl, hS12853⟩

def r23_0 : List COp := [u 4 (.assign (ci 0))]
def r23_1 : List COp := [u 7 (.move (t 1)), u 8 (cb .len #[(t 7)] #[22]), u 9 (.binOp .gtr 3 (t 8) (ci 200) 3)]
def r23_2 : List COp := [u 4 (.assign (ci 3))]
def r23_3 : List COp := [u 5 (.assign (ci 0))]
def r23_4 : List COp := [u 10 (.move (t 5)), u 11 (.move (t 1)), u 12 (cb .len #[(t 11)] #[22]), u 13 (.binOp .lss 3 (t 10) (t 12) 3)]
def r23_5 : List COp := [u 14 (.move (t 5)), u 15 (.binOp .add 3 (t 14) (ci 1) 3), u 5 (.assign (t 15))]
def r23_6 : List COp := [u 16 (.move (t 0)), u 17 (.move (t 1)), u 18 (.move (t 5)), u 19 (.indexAddr 22 (t 17) (t 18)), u 20 (.load 29 (t 19)), u 21 (cf 34 #[(t 16), (t 20)] #[3, 29]), u 6 (.assign (t 21))]
def r23_7 : List COp := [u 22 (.move (t 6)), u 23 (.binOp .neq 3 (t 22) (ci 0) 3)]
def r23_8 : List COp := [u 24 (.move (t 6)), u 4 (.assign (t 24))]
def r23_9 : List COpF := [uF 25 (.move (t 5)) .pure [], uF 26 (.binOp .gtr 3 (t 25) (ci 0) 3) .pure [], uF 27 (.move (t 26)) .pure [], gTF 27 (some 28) (.move (t 1)) .pure [], gTF 27 (some 29) (.move (t 5)) .pure [], gTF 27 (some 30) (.indexAddr 22 (t 28) (t 29)) .pure [], gTF 27 (some 31) (.fieldAddr 29 (t 30) 0) .pure [], gTF 27 (some 32) (.load 3 (t 31)) .look [], gTF 27 (some 33) (.move (t 1)) .pure [], gTF 27 (some 34) (.move (t 5)) .pure [], gTF 27 (some 35) (.binOp .sub 3 (t 34) (ci 1) 3) .pure [], gTF 27 (some 36) (.indexAddr 22 (t 33) (t 35)) .pure [], gTF 27 (some 37) (.fieldAddr 29 (t 36) 1) .pure [], gTF 27 (some 38) (.load 3 (t 37)) .look [], gTF 27 (some 39) (.binOp .lss 3 (t 32) (t 38) 3) .pure [], uF 40 (.pick (t 27) (t 39) (.const (.bool false))) .pure []]
def r23_10 : List COp := [u 4 (.assign (ci 6))]
def r23_11 : List COp := [u 4 (.assign (ci 0))]
def correctorref4_Check_l0 (F : Nat) (a0 : Int) (a1 : List api_Edit) : Nat → Int → Option (Sum Unit Int)
  | 0, _ => none
  | n + 1, x13854 =>
    if x13854 < (a1.length : Int) then
      if 0 ≤ x13854 ∧ x13854 < (a1.length : Int) then
        (a1[x13854.toNat]?).bind fun x13862 =>
        (correctorref4_one F a0 x13862).bind fun r13868 =>
        if r13868 = (0 : Int) then
          ((if (0 : Int) < x13854 then
              if 0 ≤ x13854 ∧ x13854 < (a1.length : Int) then
                (a1[x13854.toNat]?).bind fun x13909 =>
                if 0 ≤ (w64 (x13854 - 1)) ∧ (w64 (x13854 - 1)) < (a1.length : Int) then
                  (a1[(w64 (x13854 - 1)).toNat]?).bind fun x13916 =>
                  if x13909.From < x13916.To then
                    some (.inr 6)
                  else
                    some (.inl ())
                else none
              else none
            else
              some (.inl ())) : Option (Sum Unit Int)).bind fun o => match o with
            | .inl () => correctorref4_Check_l0 F a0 a1 n (w64 (x13854 + 1))
            | .inr y => some (.inr y)
        else
          some (.inr r13868)
      else none
    else
      some (.inl ())
def correctorref4_Check (F : Nat) (a0 : Int) (a1 : List api_Edit) : Option Int :=
  if (200 : Int) < (a1.length : Int) then
    some 3
  else
    ((correctorref4_Check_l0 F a0 a1 F 0) : Option (Sum Unit Int)).bind fun o => match o with
      | .inl () => some 0
      | .inr y => some y
theorem correctorref4_Check_ok (F : Nat) {h : AH} {Z : Zn} {a0 : Int} {a1 : List api_Edit} {v13675 : Value} (hI : Inv Z h) (q13674 : RS (α := api_Edit) Z v13675 a1) {r : Int} (hm : correctorref4_Check F a0 a1 = some r) :
    ∃ v h', callI Go.Proofs.Try.prog 23 [.int .i64 a0, v13675] h = some (v, h') ∧ St h [] Z (0, 0) Z h' [] ∧ v = .int .i64 r := by
  refine fn_plain (Q := fun v => v = .int .i64 r) Go.Proofs.Try.func23 rfl rfl hI ?_
  intro hs hS
  unfold correctorref4_Check at hm
  refine sr r23_0 ?_
  refine xe 1 [(0, .int .i64 a0), (1, v13675)] ?_
  refine sq ?_
  refine sr r23_1 ?_
  refine xq 1 [(7, v13675), (0, .int .i64 a0), (1, v13675)] ?_
  refine r_step rfl trivial (o_len rfl (RS.len q13674) ⟨_, Go.Proofs.Try.underlying22⟩) ?_
  rcases ifs hm with ⟨hp13767, hm⟩ | ⟨hp13767, hm⟩
  refine r_step rfl trivial (o_cmp rfl rfl (c_gtr_T hp13767)) ?_
  refine xf [(9, .bool true), (0, .int .i64 a0), (1, v13675)] ?_
  refine cT 9 rfl ?_
  refine sr r23_2 ?_
  refine xe 1 [(4, .int .i64 3)] ?_
  refine rt ?_
  refine ⟨rfl, ?_⟩
  obtain rfl := Option.some.inj hm
  refine ⟨_, _, _, ResL.tmp rfl (ResL.nil), hS, ?_⟩
  exact rfl
  refine r_step rfl trivial (o_cmp rfl rfl (c_gtr_F hp13767)) ?_
  refine xf [(9, .bool false), (0, .int .i64 a0), (1, v13675)] ?_
  refine kF 9 rfl ?_
  refine sq ?_
  refine sr r23_3 ?_
  refine xe 1 [(5, .int .i64 0), (0, .int .i64 a0), (1, v13675)] ?_
  obtain ⟨o13852, ho13851, hm⟩ := obind hm
  refine W_join [] (fun l h => ∃ Z13929 : Zn, .inl () = o13852 ∧ l = [] ∧ St hs [] Z (0, 0) Z13929 h []) ?_ ?_
  rintro l h13930 ⟨Z13929, rfl, rfl, hS13931⟩
  try dsimp only at hm
  refine sr r23_11 ?_
  refine xe 1 [(4, .int .i64 0)] ?_
  refine rt ?_
  refine ⟨rfl, ?_⟩
  obtain rfl := Option.some.inj hm
  refine ⟨_, _, _, ResL.tmp rfl (ResL.nil), hS13931, ?_⟩
  exact rfl
  refine bk 0 ?_
  refine lp [0, 1, 5] (fun n l h => ∃ Z13853 : Zn, ∃ x13854 : Int, correctorref4_Check_l0 F a0 a1 n x13854 = some o13852 ∧ l = [(0, .int .i64 a0), (1, v13675), (5, .int .i64 x13854)] ∧ St hs [] Z (0, 0) Z13853 h []) F ⟨_, 0, ho13851, rfl, hS⟩ ?_
  rintro n13857 l h13855 ⟨Z13853, x13854, ho13851, rfl, hS13856⟩
  rcases n13857 with _ | n13857
  cases (show none = some o13852 from ho13851)
  rw [correctorref4_Check_l0] at ho13851
  refine sq ?_
  refine sr r23_4 ?_
  refine xq 2 [(11, v13675), (10, .int .i64 x13854), (0, .int .i64 a0), (1, v13675), (5, .int .i64 x13854)] ?_
  refine r_step rfl trivial (o_len rfl (RS.len (q13674.mono hS13856.zle)) ⟨_, Go.Proofs.Try.underlying22⟩) ?_
  rcases ifs ho13851 with ⟨hp13860, ho13851⟩ | ⟨hp13860, ho13851⟩
  refine r_step rfl trivial (o_cmp rfl rfl (c_lss_T hp13860)) ?_
  refine xf [(13, .bool true), (0, .int .i64 a0), (1, v13675), (5, .int .i64 x13854)] ?_
  refine kT 13 rfl ?_
  refine sq ?_
  refine bk 1 ?_
  refine sr r23_6 ?_
  refine xq 3 [(18, .int .i64 x13854), (17, v13675), (16, .int .i64 a0), (0, .int .i64 a0), (1, v13675), (5, .int .i64 x13854)] ?_
  obtain ⟨hc13861, ho13851⟩ := chk ho13851
  refine r_step rfl trivial (o_index rfl rfl (by kernel_rfl : slTy _ _ = some (csz api_Edit)) (RS.based (q13674.mono hS13856.zle) (by omega)) hc13861.1 hc13861.2) ?_
  obtain ⟨x13862, hx13863, ho13851⟩ := obind ho13851
  obtain ⟨cs13864, hc13865, he13866⟩ := RS.elz (q13674.mono hS13856.zle) (i := x13854) hx13863
  obtain rfl := rc_api_Edit hc13865
  refine r_step rfl trivial (o_lde (w := .agg #[.int .i64 x13862.From, .int .i64 x13862.To, .string ⟨⟨x13862.Put.b⟩⟩]) (he13866 _ (hS13856.zin0 (Zle.refl _))) rfl (by kernel_rfl)) ?_
  obtain ⟨r13868, hx13869, ho13851⟩ := obind ho13851
  obtain ⟨v13870, h13871, hcl13872, hSc13873, rfl⟩ := correctorref4_one_ok F hS13856.inv  hx13869
  have hS13874 := St.call (A := []) (B := []) hS13856 hSc13873
  replace hS13874 : St _ _ _ _ _ _ [] := hS13874
  refine r_step rfl trivial (o_call hcl13872 rfl rfl rfl) ?_
  refine xe 1 [(6, .int .i64 r13868), (0, .int .i64 a0), (1, v13675), (5, .int .i64 x13854)] ?_
  refine sq ?_
  refine sr r23_7 ?_
  refine xq 1 [(22, .int .i64 r13868), (6, .int .i64 r13868), (0, .int .i64 a0), (1, v13675), (5, .int .i64 x13854)] ?_
  rcases ifs ho13851 with ⟨hp13877, ho13851⟩ | ⟨hp13877, ho13851⟩
  refine r_step rfl trivial (o_cmp rfl rfl (c_neq_F hp13877)) ?_
  refine xf [(23, .bool false), (6, .int .i64 r13868), (0, .int .i64 a0), (1, v13675), (5, .int .i64 x13854)] ?_
  refine kF 23 rfl ?_
  obtain ⟨o13902, ho13901, ho13851⟩ := obind ho13851
  refine W_seqJoin0 [0, 1, 5] (fun l h => ∃ Z13926 : Zn, .inl () = o13902 ∧ l = [(0, .int .i64 a0), (1, v13675), (5, .int .i64 x13854)] ∧ St hs [] Z (0, 0) Z13926 h []) (by kernel_rfl) ?_ ?_
  rintro l h13927 ⟨Z13926, rfl, rfl, hS13928⟩
  try dsimp only at ho13851
  refine rg r23_5 ?_
  refine xe 3 [(5, .int .i64 (w64 (x13854 + 1))), (0, .int .i64 a0), (1, v13675)] ?_
  exact ⟨n13857, Nat.lt_succ_self _, ⟨_, w64 (x13854 + 1), ho13851, rfl, hS13928⟩⟩
  refine rgF r23_9 hS13874 ?_
  intro bs13903 h13904 hlv13906 hS13905
  refine yq 1 [(25, .int .i64 x13854), (0, .int .i64 a0), (1, v13675), (5, .int .i64 x13854)] ?_
  rcases ifs ho13901 with ⟨hp13907, ho13901⟩ | ⟨hp13907, ho13901⟩
  refine e_val rfl trivial (o_cmp rfl rfl (c_gtr_T hp13907)) ?_
  refine yq 3 [(29, .int .i64 x13854), (28, v13675), (27, .bool true), (0, .int .i64 a0), (1, v13675), (5, .int .i64 x13854)] ?_
  obtain ⟨hc13908, ho13901⟩ := chk ho13901
  refine e_val rfl rfl (o_index rfl rfl (by kernel_rfl : slTy _ _ = some (csz api_Edit)) (RS.based (q13674.mono hS13856.zle) (by omega)) hc13908.1 hc13908.2) ?_
  refine yq 1 [(31, .pointer (some (elemA v13675 x13854 (csz api_Edit) 0))), (27, .bool true), (0, .int .i64 a0), (1, v13675), (5, .int .i64 x13854)] ?_
  obtain ⟨x13909, hx13910, ho13901⟩ := obind ho13901
  obtain ⟨cs13911, hc13912, he13913⟩ := RS.elz (q13674.mono hS13856.zle) (i := x13854) hx13910
  obtain rfl := rc_api_Edit hc13912
  refine e_lookZ rfl rfl rfl (fun h2 hz => o_lde (w := .int .i64 x13909.From) (he13913 h2 hz) rfl (by kernel_rfl)) (hS13905.zin0 (Zle.refl _)) (same1 (v := .int .i64 x13909.From) trivial) trivial ?_
  refine yq 3 [(35, .int .i64 (w64 (x13854 - 1))), (33, v13675), (32, .int .i64 x13909.From), (27, .bool true), (0, .int .i64 a0), (1, v13675), (5, .int .i64 x13854)] ?_
  obtain ⟨hc13915, ho13901⟩ := chk ho13901
  refine e_val rfl rfl (o_index rfl rfl (by kernel_rfl : slTy _ _ = some (csz api_Edit)) (RS.based (q13674.mono hS13856.zle) (by omega)) hc13915.1 hc13915.2) ?_
  refine yq 1 [(37, .pointer (some (elemA v13675 (w64 (x13854 - 1)) (csz api_Edit) 1))), (32, .int .i64 x13909.From), (27, .bool true), (0, .int .i64 a0), (1, v13675), (5, .int .i64 x13854)] ?_
  obtain ⟨x13916, hx13917, ho13901⟩ := obind ho13901
  obtain ⟨cs13918, hc13919, he13920⟩ := RS.elz (q13674.mono hS13856.zle) (i := w64 (x13854 - 1)) hx13917
  obtain rfl := rc_api_Edit hc13919
  refine e_lookZ rfl rfl rfl (fun h2 hz => o_lde (w := .int .i64 x13916.To) (he13920 h2 hz) rfl (by kernel_rfl)) (hS13905.zin0 (Zle.refl _)) (same1 (v := .int .i64 x13916.To) trivial) trivial ?_
  rcases ifs ho13901 with ⟨hp13922, ho13901⟩ | ⟨hp13922, ho13901⟩
  refine e_val rfl rfl (o_cmp rfl rfl (c_lss_T hp13922)) ?_
  refine ye 1 [(40, .bool true), (0, .int .i64 a0), (1, v13675), (5, .int .i64 x13854)] ?_
  have hS13923 := hS13905.unres
  refine cT 40 rfl ?_
  refine sr r23_10 ?_
  refine xe 1 [(4, .int .i64 6)] ?_
  refine rt ?_
  refine blkX_ret ?_
  refine blkX_ret ?_
  refine ⟨rfl, ?_⟩
  obtain rfl := Option.some.inj ho13901
  obtain rfl := Option.some.inj ho13851
  obtain rfl := Option.some.inj hm
  refine ⟨_, _, _, ResL.tmp rfl (ResL.nil), hS13923, ?_⟩
  exact rfl
  refine e_val rfl rfl (o_cmp rfl rfl (c_lss_F hp13922)) ?_
  refine ye 1 [(40, .bool false), (0, .int .i64 a0), (1, v13675), (5, .int .i64 x13854)] ?_
  have hS13924 := hS13905.unres
  refine kF 40 rfl ?_
  obtain rfl := Option.some.inj ho13901
  exact ⟨_, rfl, rfl, hS13924⟩
  refine e_val rfl trivial (o_cmp rfl rfl (c_gtr_F hp13907)) ?_
  refine ye 14 [(40, .bool false), (0, .int .i64 a0), (1, v13675), (5, .int .i64 x13854)] ?_
  have hS13925 := hS13905.unres
  refine kF 40 rfl ?_
  obtain rfl := Option.some.inj ho13901
  exact ⟨_, rfl, rfl, hS13925⟩
  refine r_step rfl trivial (o_cmp rfl rfl (c_neq_T hp13877)) ?_
  refine xf [(23, .bool true), (6, .int .i64 r13868), (0, .int .i64 a0), (1, v13675), (5, .int .i64 x13854)] ?_
  refine cT 23 rfl ?_
  refine sr r23_8 ?_
  refine xe 2 [(4, .int .i64 r13868)] ?_
  refine rt ?_
  refine blkX_ret ?_
  refine blkX_ret ?_
  refine ⟨rfl, ?_⟩
  obtain rfl := Option.some.inj ho13851
  obtain rfl := Option.some.inj hm
  refine ⟨_, _, _, ResL.tmp rfl (ResL.nil), hS13874, ?_⟩
  exact rfl
  refine r_step rfl trivial (o_cmp rfl rfl (c_lss_F hp13860)) ?_
  refine xf [(13, .bool false), (0, .int .i64 a0), (1, v13675), (5, .int .i64 x13854)] ?_
  refine cF 13 rfl ?_
  refine xt 0 ?_
  refine blkX_hit ?_
  obtain rfl := Option.some.inj ho13851
  exact ⟨_, rfl, rfl, hS13856⟩

def r25_0 : List COp := [u 4 (.assign (ci 0))]
def r25_1 : List COp := [u 5 (.assign (ci 0))]
def r25_2 : List COp := [u 6 (.assign (ci 0))]
def r25_3 : List COp := [u 8 (.move (t 6)), u 9 (.move (t 0)), u 10 (cb .len #[(t 9)] #[22]), u 11 (.binOp .lss 3 (t 8) (t 10) 3)]
def r25_4 : List COp := [u 12 (.move (t 6)), u 13 (.binOp .add 3 (t 12) (ci 1) 3), u 6 (.assign (t 13))]
def r25_5 : List COp := [u 14 (.move (t 0)), u 15 (.move (t 6)), u 16 (.indexAddr 22 (t 14) (t 15)), u 17 (.load 29 (t 16)), u 7 (.alloc 29), o (.store 29 (t 7) (t 17))]
def r25_6 : List COp := [u 18 (.fieldAddr 29 (t 7) 1), u 19 (.load 3 (t 18)), u 20 (.move (t 1)), u 21 (.binOp .leq 3 (t 19) (t 20) 3)]
def r25_7 : List COp := [u 22 (.move (t 5)), u 23 (.fieldAddr 29 (t 7) 2), u 24 (.load 9 (t 23)), u 25 (cb .len #[(t 24)] #[9]), u 26 (.binOp .add 3 (t 22) (t 25) 3), u 27 (.fieldAddr 29 (t 7) 1), u 28 (.load 3 (t 27)), u 29 (.fieldAddr 29 (t 7) 0), u 30 (.load 3 (t 29)), u 31 (.binOp .sub 3 (t 28) (t 30) 3), u 32 (.binOp .sub 3 (t 26) (t 31) 3), u 5 (.assign (t 32))]
def r25_8 : List COp := [u 33 (.fieldAddr 29 (t 7) 0), u 34 (.load 3 (t 33)), u 35 (.move (t 1)), u 36 (.binOp .lss 3 (t 34) (t 35) 3)]
def r25_9 : List COp := [u 37 (.fieldAddr 29 (t 7) 0), u 38 (.load 3 (t 37)), u 39 (.move (t 5)), u 40 (.binOp .add 3 (t 38) (t 39) 3), u 41 (.fieldAddr 29 (t 7) 2), u 42 (.load 9 (t 41)), u 43 (cb .len #[(t 42)] #[9]), u 44 (.binOp .add 3 (t 40) (t 43) 3), u 4 (.assign (t 44))]
def r25_10 : List COp := [u 45 (.move (t 1)), u 46 (.move (t 5)), u 47 (.binOp .add 3 (t 45) (t 46) 3), u 4 (.assign (t 47))]
def correctorref4_Map_l0 (F : Nat) (a0 : List api_Edit) (a1 : Int) : Nat → Int → Int → Option (Sum Int Int)
  | 0, _, _ => none
  | n + 1, x14045, x14046 =>
    if x14046 < (a0.length : Int) then
      if 0 ≤ x14046 ∧ x14046 < (a0.length : Int) then
        (a0[x14046.toNat]?).bind fun x14054 =>
        if x14054.To ≤ a1 then
          correctorref4_Map_l0 F a0 a1 n (w64 ((w64 (x14045 + (x14054.Put.b.length : Int))) - (w64 (x14054.To - x14054.From)))) (w64 (x14046 + 1))
        else
          if x14054.From < a1 then
            some (.inr (w64 ((w64 (x14054.From + x14045)) + (x14054.Put.b.length : Int))))
          else
            correctorref4_Map_l0 F a0 a1 n x14045 (w64 (x14046 + 1))
      else none
    else
      some (.inl x14045)
def correctorref4_Map (F : Nat) (a0 : List api_Edit) (a1 : Int) : Option Int :=
  ((correctorref4_Map_l0 F a0 a1 F 0 0) : Option (Sum Int Int)).bind fun o => match o with
    | .inl x14074 => some (w64 (a1 + x14074))
    | .inr y => some y
theorem correctorref4_Map_ok (F : Nat) {h : AH} {Z : Zn} {a0 : List api_Edit} {a1 : Int} {v13933 : Value} (hI : Inv Z h) (q13932 : RS (α := api_Edit) Z v13933 a0) {r : Int} (hm : correctorref4_Map F a0 a1 = some r) :
    ∃ v h', callI Go.Proofs.Try.prog 25 [v13933, .int .i64 a1] h = some (v, h') ∧ St h [] Z (0, 0) Z h' [] ∧ v = .int .i64 r := by
  refine fn_plain (Q := fun v => v = .int .i64 r) Go.Proofs.Try.func25 rfl rfl hI ?_
  intro hs hS
  unfold correctorref4_Map at hm
  refine sr r25_0 ?_
  refine xe 1 [(0, v13933), (1, .int .i64 a1)] ?_
  refine sr r25_1 ?_
  refine xe 1 [(5, .int .i64 0), (0, v13933), (1, .int .i64 a1)] ?_
  refine sq ?_
  refine sr r25_2 ?_
  refine xe 1 [(6, .int .i64 0), (5, .int .i64 0), (0, v13933), (1, .int .i64 a1)] ?_
  obtain ⟨o14043, ho14042, hm⟩ := obind hm
  refine W_join [1, 5] (fun l h => ∃ Z14073 : Zn, ∃ x14074 : Int, .inl x14074 = o14043 ∧ l = [(1, .int .i64 a1), (5, .int .i64 x14074)] ∧ St hs [] Z (0, 0) Z14073 h []) ?_ ?_
  rintro l h14075 ⟨Z14073, x14074, rfl, rfl, hS14076⟩
  try dsimp only at hm
  refine sr r25_10 ?_
  refine xe 4 [(4, .int .i64 (w64 (a1 + x14074)))] ?_
  refine rt ?_
  refine ⟨rfl, ?_⟩
  obtain rfl := Option.some.inj hm
  refine ⟨_, _, _, ResL.tmp rfl (ResL.nil), hS14076, ?_⟩
  exact rfl
  refine bk 0 ?_
  refine lp [0, 1, 5, 6] (fun n l h => ∃ Z14044 : Zn, ∃ x14045 : Int, ∃ x14046 : Int, correctorref4_Map_l0 F a0 a1 n x14045 x14046 = some o14043 ∧ l = [(0, v13933), (1, .int .i64 a1), (5, .int .i64 x14045), (6, .int .i64 x14046)] ∧ St hs [] Z (0, 0) Z14044 h []) F ⟨_, 0, 0, ho14042, rfl, hS⟩ ?_
  rintro n14049 l h14047 ⟨Z14044, x14045, x14046, ho14042, rfl, hS14048⟩
  rcases n14049 with _ | n14049
  cases (show none = some o14043 from ho14042)
  rw [correctorref4_Map_l0] at ho14042
  refine sq ?_
  refine sr r25_3 ?_
  refine xq 2 [(9, v13933), (8, .int .i64 x14046), (0, v13933), (1, .int .i64 a1), (5, .int .i64 x14045), (6, .int .i64 x14046)] ?_
  refine r_step rfl trivial (o_len rfl (RS.len (q13932.mono hS14048.zle)) ⟨_, Go.Proofs.Try.underlying22⟩) ?_
  rcases ifs ho14042 with ⟨hp14052, ho14042⟩ | ⟨hp14052, ho14042⟩
  refine r_step rfl trivial (o_cmp rfl rfl (c_lss_T hp14052)) ?_
  refine xf [(11, .bool true), (0, v13933), (1, .int .i64 a1), (5, .int .i64 x14045), (6, .int .i64 x14046)] ?_
  refine kT 11 rfl ?_
  refine sq ?_
  refine bk 1 ?_
  refine sr r25_5 ?_
  refine xq 2 [(15, .int .i64 x14046), (14, v13933), (0, v13933), (1, .int .i64 a1), (5, .int .i64 x14045), (6, .int .i64 x14046)] ?_
  obtain ⟨hc14053, ho14042⟩ := chk ho14042
  refine r_step rfl trivial (o_index rfl rfl (by kernel_rfl : slTy _ _ = some (csz api_Edit)) (RS.based (q13932.mono hS14048.zle) (by omega)) hc14053.1 hc14053.2) ?_
  obtain ⟨x14054, hx14055, ho14042⟩ := obind ho14042
  obtain ⟨cs14056, hc14057, he14058⟩ := RS.elz (q13932.mono hS14048.zle) (i := x14046) hx14055
  obtain rfl := rc_api_Edit hc14057
  refine r_step rfl trivial (o_lde (w := .agg #[.int .i64 x14054.From, .int .i64 x14054.To, .string ⟨⟨x14054.Put.b⟩⟩]) (he14058 _ (hS14048.zin0 (Zle.refl _))) rfl (by kernel_rfl)) ?_
  refine r_blk rfl trivial (o_alloc (cs := [.int .i64 0, .int .i64 0, .string ⟨⟨[]⟩⟩]) (by kernel_rfl)) hS14048 ?_
  intro b14060 h14061 hS14062
  refine r_ex1 rfl trivial (o_stb (vs := [.int .i64 x14054.From, .int .i64 x14054.To, .string ⟨⟨x14054.Put.b⟩⟩]) (cells' := [.int .i64 x14054.From, .int .i64 x14054.To, .string ⟨⟨x14054.Put.b⟩⟩]) (L' := [.blk b14060 [.int .i64 x14054.From, .int .i64 x14054.To, .string ⟨⟨x14054.Put.b⟩⟩]]) hS14062 (i := 0) rfl rfl rfl rfl (by kernel_rfl) rfl rfl rfl rfl) ?_
  intro h14063 hS14064
  refine xf [(7, .pointer (some ⟨b14060, 0, none⟩)), (0, v13933), (1, .int .i64 a1), (5, .int .i64 x14045), (6, .int .i64 x14046)] ?_
  refine sq ?_
  refine sr r25_6 ?_
  refine xq 1 [(18, .pointer (some ⟨b14060, 1, none⟩)), (7, .pointer (some ⟨b14060, 0, none⟩)), (0, v13933), (1, .int .i64 a1), (5, .int .i64 x14045), (6, .int .i64 x14046)] ?_
  refine r_step rfl trivial (o_ldb (v := .int .i64 x14054.To) hS14064 (i := 0) rfl rfl (by kernel_rfl)) ?_
  refine xq 1 [(20, .int .i64 a1), (19, .int .i64 x14054.To), (7, .pointer (some ⟨b14060, 0, none⟩)), (0, v13933), (1, .int .i64 a1), (5, .int .i64 x14045), (6, .int .i64 x14046)] ?_
  rcases ifs ho14042 with ⟨hp14069, ho14042⟩ | ⟨hp14069, ho14042⟩
  refine r_step rfl trivial (o_cmp rfl rfl (c_leq_T hp14069)) ?_
  refine xf [(21, .bool true), (7, .pointer (some ⟨b14060, 0, none⟩)), (0, v13933), (1, .int .i64 a1), (5, .int .i64 x14045), (6, .int .i64 x14046)] ?_
  refine cT 21 rfl ?_
  refine sr r25_7 ?_
  refine xq 2 [(23, .pointer (some ⟨b14060, 2, none⟩)), (22, .int .i64 x14045), (7, .pointer (some ⟨b14060, 0, none⟩)), (0, v13933), (1, .int .i64 a1), (5, .int .i64 x14045), (6, .int .i64 x14046)] ?_
  refine r_step rfl trivial (o_ldb (v := .string ⟨⟨x14054.Put.b⟩⟩) hS14064 (i := 0) rfl rfl (by kernel_rfl)) ?_
  refine xq 3 [(27, .pointer (some ⟨b14060, 1, none⟩)), (26, .int .i64 (w64 (x14045 + (x14054.Put.b.length : Int)))), (7, .pointer (some ⟨b14060, 0, none⟩)), (0, v13933), (1, .int .i64 a1), (5, .int .i64 x14045), (6, .int .i64 x14046)] ?_
  refine r_step rfl trivial (o_ldb (v := .int .i64 x14054.To) hS14064 (i := 0) rfl rfl (by kernel_rfl)) ?_
  refine xq 1 [(29, .pointer (some ⟨b14060, 0, none⟩)), (28, .int .i64 x14054.To), (26, .int .i64 (w64 (x14045 + (x14054.Put.b.length : Int)))), (0, v13933), (1, .int .i64 a1), (5, .int .i64 x14045), (6, .int .i64 x14046)] ?_
  refine r_step rfl trivial (o_ldb (v := .int .i64 x14054.From) hS14064 (i := 0) rfl rfl (by kernel_rfl)) ?_
  refine xe 3 [(5, .int .i64 (w64 ((w64 (x14045 + (x14054.Put.b.length : Int))) - (w64 (x14054.To - x14054.From))))), (0, v13933), (1, .int .i64 a1), (6, .int .i64 x14046)] ?_
  refine xt 1 ?_
  refine blkX_hit ?_
  refine rg r25_4 ?_
  refine xe 3 [(6, .int .i64 (w64 (x14046 + 1))), (5, .int .i64 (w64 ((w64 (x14045 + (x14054.Put.b.length : Int))) - (w64 (x14054.To - x14054.From))))), (0, v13933), (1, .int .i64 a1)] ?_
  exact ⟨n14049, Nat.lt_succ_self _, ⟨_, w64 ((w64 (x14045 + (x14054.Put.b.length : Int))) - (w64 (x14054.To - x14054.From))), w64 (x14046 + 1), ho14042, rfl, (hS14064.takeN 0)⟩⟩
  refine r_step rfl trivial (o_cmp rfl rfl (c_leq_F hp14069)) ?_
  refine xf [(21, .bool false), (7, .pointer (some ⟨b14060, 0, none⟩)), (0, v13933), (1, .int .i64 a1), (5, .int .i64 x14045), (6, .int .i64 x14046)] ?_
  refine kF 21 rfl ?_
  refine sr r25_8 ?_
  refine xq 1 [(33, .pointer (some ⟨b14060, 0, none⟩)), (7, .pointer (some ⟨b14060, 0, none⟩)), (0, v13933), (1, .int .i64 a1), (5, .int .i64 x14045), (6, .int .i64 x14046)] ?_
  refine r_step rfl trivial (o_ldb (v := .int .i64 x14054.From) hS14064 (i := 0) rfl rfl (by kernel_rfl)) ?_
  refine xq 1 [(35, .int .i64 a1), (34, .int .i64 x14054.From), (7, .pointer (some ⟨b14060, 0, none⟩)), (0, v13933), (1, .int .i64 a1), (5, .int .i64 x14045), (6, .int .i64 x14046)] ?_
  rcases ifs ho14042 with ⟨hp14071, ho14042⟩ | ⟨hp14071, ho14042⟩
  refine r_step rfl trivial (o_cmp rfl rfl (c_lss_T hp14071)) ?_
  refine xf [(36, .bool true), (7, .pointer (some ⟨b14060, 0, none⟩)), (0, v13933), (1, .int .i64 a1), (5, .int .i64 x14045), (6, .int .i64 x14046)] ?_
  refine cT 36 rfl ?_
  refine sr r25_9 ?_
  refine xq 1 [(37, .pointer (some ⟨b14060, 0, none⟩)), (7, .pointer (some ⟨b14060, 0, none⟩)), (5, .int .i64 x14045)] ?_
  refine r_step rfl trivial (o_ldb (v := .int .i64 x14054.From) hS14064 (i := 0) rfl rfl (by kernel_rfl)) ?_
  refine xq 3 [(41, .pointer (some ⟨b14060, 2, none⟩)), (40, .int .i64 (w64 (x14054.From + x14045)))] ?_
  refine r_step rfl trivial (o_ldb (v := .string ⟨⟨x14054.Put.b⟩⟩) hS14064 (i := 0) rfl rfl (by kernel_rfl)) ?_
  refine xe 3 [(4, .int .i64 (w64 ((w64 (x14054.From + x14045)) + (x14054.Put.b.length : Int))))] ?_
  refine rt ?_
  refine blkX_ret ?_
  refine blkX_ret ?_
  refine ⟨rfl, ?_⟩
  obtain rfl := Option.some.inj ho14042
  obtain rfl := Option.some.inj hm
  refine ⟨_, _, _, ResL.tmp rfl (ResL.nil), hS14064, ?_⟩
  exact rfl
  refine r_step rfl trivial (o_cmp rfl rfl (c_lss_F hp14071)) ?_
  refine xf [(36, .bool false), (7, .pointer (some ⟨b14060, 0, none⟩)), (0, v13933), (1, .int .i64 a1), (5, .int .i64 x14045), (6, .int .i64 x14046)] ?_
  refine kF 36 rfl ?_
  refine rg r25_4 ?_
  refine xe 3 [(6, .int .i64 (w64 (x14046 + 1))), (0, v13933), (1, .int .i64 a1), (5, .int .i64 x14045)] ?_
  exact ⟨n14049, Nat.lt_succ_self _, ⟨_, x14045, w64 (x14046 + 1), ho14042, rfl, (hS14064.takeN 0)⟩⟩
  refine r_step rfl trivial (o_cmp rfl rfl (c_lss_F hp14052)) ?_
  refine xf [(11, .bool false), (0, v13933), (1, .int .i64 a1), (5, .int .i64 x14045), (6, .int .i64 x14046)] ?_
  refine cF 11 rfl ?_
  refine xt 0 ?_
  refine blkX_hit ?_
  obtain rfl := Option.some.inj ho14042
  exact ⟨_, x14045, rfl, rfl, hS14048⟩

def r22_0 : List COp := [u 4 (.assign (.const (.slice none 0 0))), u 5 (.assign (ci 0))]
def r22_1 : List COp := [u 10 (.move (t 0)), u 11 (cb .len #[(t 10)] #[35]), u 12 (.move (t 1)), u 13 (cf 23 #[(t 11), (t 12)] #[3, 22]), u 6 (.assign (t 13))]
def r22_2 : List COp := [u 14 (.move (t 6)), u 15 (.binOp .neq 3 (t 14) (ci 0) 3)]
def r22_3 : List COp := [u 16 (.move (t 6)), u 4 (.assign (.const (.slice none 0 0))), u 5 (.assign (t 16))]
def r22_4 : List COp := [u 7 (.assign (.const (.slice none 0 0)))]
def r22_5 : List COp := [u 8 (.assign (ci 0))]
def r22_6 : List COp := [u 9 (.assign (ci 0))]
def r22_7 : List COp := [u 17 (.move (t 9)), u 18 (.move (t 1)), u 19 (cb .len #[(t 18)] #[22]), u 20 (.binOp .lss 3 (t 17) (t 19) 3)]
def r22_8 : List COp := [u 21 (.move (t 9)), u 22 (.binOp .add 3 (t 21) (ci 1) 3), u 9 (.assign (t 22))]
def r22_9 : List COpF := [uF 23 (.move (t 7)) .pure [], uF 24 (.move (t 0)) .pure [], uF 25 (.move (t 8)) .pure [], uF 26 (.move (t 1)) .pure [], uF 27 (.move (t 9)) .pure [], uF 28 (.indexAddr 22 (t 26) (t 27)) .pure [], uF 29 (.fieldAddr 29 (t 28) 0) .pure [], uF 30 (.load 3 (t 29)) .look [], uF 31 (.slice 35 (t 24) (some (t 25)) (some (t 30)) none) .pure [], uF 32 (cb .append #[(t 23), (t 31)] #[35, 35]) .make [7], uF 33 (.move (t 1)) .pure [], uF 34 (.move (t 9)) .pure [], uF 35 (.indexAddr 22 (t 33) (t 34)) .pure [], uF 36 (.fieldAddr 29 (t 35) 2) .pure [], uF 37 (.load 9 (t 36)) .look [], uF 38 (cb .append #[(t 32), (t 37)] #[35, 9]) .make [7, 14], uF 7 (.assign (t 38)) .pure []]
def r22_10 : List COp := [u 39 (.move (t 1)), u 40 (.move (t 9)), u 41 (.indexAddr 22 (t 39) (t 40)), u 42 (.fieldAddr 29 (t 41) 1), u 43 (.load 3 (t 42)), u 8 (.assign (t 43))]
def r22_11 : List COp := [u 44 (.move (t 7)), u 45 (.move (t 0)), u 46 (.move (t 8)), u 47 (.slice 35 (t 45) (some (t 46)) none none), u 48 (cb .append #[(t 44), (t 47)] #[35, 35]), u 7 (.assign (t 48))]
def r22_12 : List COp := [u 49 (.move (t 7)), u 50 (cb .len #[(t 49)] #[35]), u 51 (.binOp .gtr 3 (t 50) (ci 16384) 3)]
def r22_13 : List COp := [u 4 (.assign (.const (.slice none 0 0))), u 5 (.assign (ci 4))]
def r22_14 : List COp := [u 52 (.move (t 7)), u 4 (.assign (t 52)), u 5 (.assign (ci 0))]
def correctorref4_Apply_l0 (F : Nat) (a0 : List UInt8) (a1 : List api_Edit) : Nat → (List UInt8) → Int → Int → Option ((List UInt8) × Int)
  | 0, _, _, _ => none
  | n + 1, x14604, x14608, x14609 =>
    if x14609 < (a1.length : Int) then
      if 0 ≤ x14609 ∧ x14609 < (a1.length : Int) then
        (a1[x14609.toNat]?).bind fun x14621 =>
        if 0 ≤ x14608 ∧ x14608 ≤ x14621.From ∧ x14621.From ≤ (a0.length : Int) then
          if x14604.length + ((a0.take x14621.From.toNat).drop x14608.toNat).length ≤ 140737488355328 then
            if 0 ≤ x14609 ∧ x14609 < (a1.length : Int) then
              (a1[x14609.toNat]?).bind fun x14641 =>
              if (x14604 ++ ((a0.take x14621.From.toNat).drop x14608.toNat)).length + x14641.Put.b.length ≤ 140737488355328 then
                if 0 ≤ x14609 ∧ x14609 < (a1.length : Int) then
                  (a1[x14609.toNat]?).bind fun x14657 =>
                  correctorref4_Apply_l0 F a0 a1 n ((x14604 ++ ((a0.take x14621.From.toNat).drop x14608.toNat)) ++ x14641.Put.b) x14657.To (w64 (x14609 + 1))
                else none
              else none
            else none
          else none
        else none
      else none
    else
      some (x14604, x14608)
def correctorref4_Apply (F : Nat) (a0 : List UInt8) (a1 : List api_Edit) : Option ((List UInt8) × Int) :=
  (correctorref4_Check F (a0.length : Int) a1).bind fun r14353 =>
  if r14353 = (0 : Int) then
    ((correctorref4_Apply_l0 F a0 a1 F [] 0 0) : Option ((List UInt8) × Int)).bind fun o => match o with
      | (x14669, x14673) => if 0 ≤ x14673 ∧ x14673 ≤ (a0.length : Int) ∧ (a0.length : Int) ≤ (a0.length : Int) then
        if x14669.length + ((a0.take (a0.length : Int).toNat).drop x14673.toNat).length ≤ 140737488355328 then
          if (16384 : Int) < ((x14669 ++ ((a0.take (a0.length : Int).toNat).drop x14673.toNat)).length : Int) then
            some ([], 4)
          else
            some (x14669 ++ ((a0.take (a0.length : Int).toNat).drop x14673.toNat), 0)
        else none
      else none
  else
    some ([], r14353)
theorem correctorref4_Apply_ok (F : Nat) {h : AH} {Z : Zn} {a0 : List UInt8} {a1 : List api_Edit} {v14079 : Value} {v14081 : Value} (hP : Pre Z h []) (q14078 : RS (α := UInt8) Z v14079 a0) (q14080 : RS (α := api_Edit) Z v14081 a1) {r : (List UInt8) × Int} (hm : correctorref4_Apply F a0 a1 = some r) :
    ∃ v h' Z' A', callI Go.Proofs.Try.prog 22 [v14079, v14081] h = some (v, h') ∧ St h (idsL []) Z (0, 0) Z' h' A' ∧ ∃ v14351 : Value, ∃ c14352 : List Value, .tuple #[v14351, .int .i64 r.2] = v ∧ A' = [.gs v14351 c14352 (csz UInt8)] ∧ RCs (α := UInt8) Z' c14352 r.1 := by
  refine fn_intro (A := []) (Q := fun v Z' A' => ∃ v14351 : Value, ∃ c14352 : List Value, .tuple #[v14351, .int .i64 r.2] = v ∧ A' = [.gs v14351 c14352 (csz UInt8)] ∧ RCs (α := UInt8) Z' c14352 r.1) Go.Proofs.Try.func22 rfl rfl (by kernel_rfl) hP ?_
  intro hs hS
  unfold correctorref4_Apply at hm
  replace hS : St hs [] Z (0, 0) Z hs [] := hS
  refine sr r22_0 ?_
  refine xe 2 [(0, v14079), (1, v14081)] ?_
  refine sr r22_1 ?_
  refine xq 1 [(10, v14079), (0, v14079), (1, v14081)] ?_
  refine r_step rfl trivial (o_len rfl (RS.len q14078) ⟨_, Go.Proofs.Try.underlying35⟩) ?_
  refine xq 1 [(12, v14081), (11, .int .i64 (a0.length : Int)), (0, v14079), (1, v14081)] ?_
  obtain ⟨r14353, hx14354, hm⟩ := obind hm
  obtain ⟨v14355, h14356, hcl14357, hSc14358, rfl⟩ := correctorref4_Check_ok F hS.inv q14080 hx14354
  have hS14359 := St.call (A := []) (B := []) hS hSc14358
  replace hS14359 : St _ _ _ _ _ _ [] := hS14359
  refine r_step rfl trivial (o_call hcl14357 rfl rfl rfl) ?_
  refine xe 1 [(6, .int .i64 r14353), (0, v14079), (1, v14081)] ?_
  refine sq ?_
  refine sr r22_2 ?_
  refine xq 1 [(14, .int .i64 r14353), (6, .int .i64 r14353), (0, v14079), (1, v14081)] ?_
  rcases ifs hm with ⟨hp14362, hm⟩ | ⟨hp14362, hm⟩
  refine r_step rfl trivial (o_cmp rfl rfl (c_neq_F hp14362)) ?_
  refine xf [(15, .bool false), (6, .int .i64 r14353), (0, v14079), (1, v14081)] ?_
  refine kF 15 rfl ?_
  refine sr r22_4 ?_
  refine xe 1 [(7, .slice none 0 0), (0, v14079), (1, v14081)] ?_
  refine sr r22_5 ?_
  refine xe 1 [(8, .int .i64 0), (7, .slice none 0 0), (0, v14079), (1, v14081)] ?_
  refine sq ?_
  refine sr r22_6 ?_
  refine xe 1 [(9, .int .i64 0), (8, .int .i64 0), (7, .slice none 0 0), (0, v14079), (1, v14081)] ?_
  obtain ⟨o14600, ho14599, hm⟩ := obind hm
  refine W_join [0, 7, 8] (fun l h => ∃ Z14668 : Zn, ∃ x14669 : List UInt8, ∃ x14673 : Int, ∃ v14671 : Value, ∃ c14672 : List Value, (x14669, x14673) = o14600 ∧ RCs (α := UInt8) Z14668 c14672 x14669 ∧ l = [(0, v14079), (7, v14671), (8, .int .i64 x14673)] ∧ St hs [] Z (0, 0) Z14668 h [.gs v14671 c14672 (csz UInt8)]) ?_ ?_
  rintro l h14674 ⟨Z14668, x14669, x14673, v14671, c14672, rfl, q14670, rfl, hS14675⟩
  try dsimp only at hm
  refine sr r22_11 ?_
  refine xq 3 [(46, .int .i64 x14673), (45, v14079), (44, v14671), (7, v14671)] ?_
  obtain ⟨hc14679, hm⟩ := chk hm
  refine r_exv rfl trivial (o_slice (a := x14673) (b := (a0.length : Int)) (q14078.mono hS14675.zle) rfl (by kernel_rfl : slTy _ _ = some (csz UInt8)) ⟨_, rfl⟩ rfl hc14679.1 hc14679.2.1 hc14679.2.2) ?_
  intro v14676 q14677
  obtain ⟨c14681, nw14680⟩ := RS.news q14677 (hS14675).inv
  obtain ⟨hc14687, hm⟩ := chk hm
  refine r_ex3 rfl trivial (o_app (ys := (a0.take (a0.length : Int).toNat).drop x14673.toNat) (by_ := 1) hS14675 (i := 0) rfl q14670 nw14680 rfl rfl (by kernel_rfl) (by omega) (by omega)) ?_
  rintro v14682 c14683 h14684 ⟨q14686, hS14685⟩
  replace hS14685 : St _ _ _ _ _ _ [.gs v14682 c14683 (csz UInt8)] := hS14685
  refine xe 1 [(7, v14682)] ?_
  refine sq ?_
  refine sr r22_12 ?_
  refine xq 1 [(49, v14682), (7, v14682)] ?_
  refine r_step rfl trivial (o_len rfl (hS14685.glen (i := 0) rfl q14686) ⟨_, Go.Proofs.Try.underlying35⟩) ?_
  rcases ifs hm with ⟨hp14689, hm⟩ | ⟨hp14689, hm⟩
  refine r_step rfl trivial (o_cmp rfl rfl (c_gtr_T hp14689)) ?_
  refine xf [(51, .bool true), (7, v14682)] ?_
  refine cT 51 rfl ?_
  refine sr r22_13 ?_
  refine xe 2 [(5, .int .i64 4), (4, .slice none 0 0)] ?_
  refine rt ?_
  refine ⟨rfl, ?_⟩
  have hS14690 := hS14685.nilGs (csz UInt8)
  obtain rfl := Option.some.inj hm
  refine ⟨_, _, _, ResL.tmp rfl (ResL.tmp rfl (ResL.nil)), (hS14690.takeN 1), ?_⟩
  exact ⟨(.slice none 0 0), [], rfl, rfl, (RCs.nil0 _)⟩
  refine r_step rfl trivial (o_cmp rfl rfl (c_gtr_F hp14689)) ?_
  refine xf [(51, .bool false), (7, v14682)] ?_
  refine kF 51 rfl ?_
  refine sr r22_14 ?_
  refine xe 3 [(5, .int .i64 0), (4, v14682)] ?_
  refine rt ?_
  refine ⟨rfl, ?_⟩
  obtain rfl := Option.some.inj hm
  refine ⟨_, _, _, ResL.tmp rfl (ResL.tmp rfl (ResL.nil)), hS14685, ?_⟩
  exact ⟨v14682, c14683, rfl, rfl, q14686⟩
  refine bk 0 ?_
  have hS14601 := hS14359.nilGs (csz UInt8)
  refine lp [0, 1, 7, 8, 9] (fun n l h => ∃ Z14603 : Zn, ∃ x14604 : List UInt8, ∃ x14608 : Int, ∃ x14609 : Int, ∃ v14606 : Value, ∃ c14607 : List Value, correctorref4_Apply_l0 F a0 a1 n x14604 x14608 x14609 = some o14600 ∧ RCs (α := UInt8) Z14603 c14607 x14604 ∧ l = [(0, v14079), (1, v14081), (7, v14606), (8, .int .i64 x14608), (9, .int .i64 x14609)] ∧ St hs [] Z (0, 0) Z14603 h [.gs v14606 c14607 (csz UInt8)]) F ⟨_, [], 0, 0, (.slice none 0 0), [], ho14599, (RCs.nil0 _), rfl, hS14601⟩ ?_
  rintro n14612 l h14610 ⟨Z14603, x14604, x14608, x14609, v14606, c14607, ho14599, q14605, rfl, hS14611⟩
  rcases n14612 with _ | n14612
  cases (show none = some o14600 from ho14599)
  rw [correctorref4_Apply_l0] at ho14599
  refine sq ?_
  refine sr r22_7 ?_
  refine xq 2 [(18, v14081), (17, .int .i64 x14609), (0, v14079), (1, v14081), (7, v14606), (8, .int .i64 x14608), (9, .int .i64 x14609)] ?_
  refine r_step rfl trivial (o_len rfl (RS.len (q14080.mono hS14611.zle)) ⟨_, Go.Proofs.Try.underlying22⟩) ?_
  rcases ifs ho14599 with ⟨hp14615, ho14599⟩ | ⟨hp14615, ho14599⟩
  refine r_step rfl trivial (o_cmp rfl rfl (c_lss_T hp14615)) ?_
  refine xf [(20, .bool true), (0, v14079), (1, v14081), (7, v14606), (8, .int .i64 x14608), (9, .int .i64 x14609)] ?_
  refine kT 20 rfl ?_
  refine sq ?_
  refine bk 1 ?_
  refine srF r22_9 hS14611 ?_
  intro bs14616 h14617 hlv14619 hS14618
  refine yq 5 [(27, .int .i64 x14609), (26, v14081), (25, .int .i64 x14608), (24, v14079), (23, v14606), (0, v14079), (1, v14081), (7, v14606), (9, .int .i64 x14609)] ?_
  obtain ⟨hc14620, ho14599⟩ := chk ho14599
  refine e_val rfl trivial (o_index rfl rfl (by kernel_rfl : slTy _ _ = some (csz api_Edit)) (RS.based (q14080.mono hS14611.zle) (by omega)) hc14620.1 hc14620.2) ?_
  refine yq 1 [(29, .pointer (some (elemA v14081 x14609 (csz api_Edit) 0))), (25, .int .i64 x14608), (24, v14079), (23, v14606), (0, v14079), (1, v14081), (7, v14606), (9, .int .i64 x14609)] ?_
  obtain ⟨x14621, hx14622, ho14599⟩ := obind ho14599
  obtain ⟨cs14623, hc14624, he14625⟩ := RS.elz (q14080.mono hS14611.zle) (i := x14609) hx14622
  obtain rfl := rc_api_Edit hc14624
  refine e_lookZ rfl rfl trivial (fun h2 hz => o_lde (w := .int .i64 x14621.From) (he14625 h2 hz) rfl (by kernel_rfl)) (hS14618.zin0 (Zle.refl _)) (same1 (v := .int .i64 x14621.From) trivial) trivial ?_
  obtain ⟨hc14630, ho14599⟩ := chk ho14599
  refine e_exv rfl trivial (o_slice (a := x14608) (b := x14621.From) (q14078.mono hS14611.zle) rfl (by kernel_rfl : slTy _ _ = some (csz UInt8)) ⟨_, rfl⟩ ⟨_, rfl⟩ hc14630.1 hc14630.2.1 hc14630.2.2) ?_
  intro v14627 q14628
  obtain ⟨c14632, nw14631⟩ := RS.news q14628 (hS14618.lown).inv
  obtain ⟨hc14638, ho14599⟩ := chk ho14599
  have hF14639 : St _ _ _ _ _ _ ([.gs v14606 c14607 (csz UInt8)] ++ []) := (hS14618.front 0 rfl)
  refine e_mk3 rfl trivial hF14639 (o_app (ys := (a0.take x14621.From.toNat).drop x14608.toNat) (by_ := 1) hF14639.sub (i := 0) rfl q14605 nw14631 rfl rfl (by kernel_rfl) (by omega) (by omega)) (Zle.refl _) (.keep trivial .nil) ?_
  rintro v14633 c14634 h14635 ⟨q14637, hS14636⟩
  replace hS14636 : St _ _ _ _ _ _ [.gs v14633 c14634 (csz UInt8)] := hS14636
  refine yq 2 [(34, .int .i64 x14609), (33, v14081), (32, v14633), (0, v14079), (1, v14081), (7, v14606), (9, .int .i64 x14609)] ?_
  obtain ⟨hc14640, ho14599⟩ := chk ho14599
  refine e_val rfl trivial (o_index rfl rfl (by kernel_rfl : slTy _ _ = some (csz api_Edit)) (RS.based (q14080.mono hS14611.zle) (by omega)) hc14640.1 hc14640.2) ?_
  refine yq 1 [(36, .pointer (some (elemA v14081 x14609 (csz api_Edit) 2))), (32, v14633), (0, v14079), (1, v14081), (7, v14606), (9, .int .i64 x14609)] ?_
  obtain ⟨x14641, hx14642, ho14599⟩ := obind ho14599
  obtain ⟨cs14643, hc14644, he14645⟩ := RS.elz (q14080.mono hS14611.zle) (i := x14609) hx14642
  obtain rfl := rc_api_Edit hc14644
  refine e_lookZ rfl rfl trivial (fun h2 hz => o_lde (w := .string ⟨⟨x14641.Put.b⟩⟩) (he14645 h2 hz) rfl (by kernel_rfl)) (hS14636.zin0 (Zle.refl _)) (same1 (v := .string ⟨⟨x14641.Put.b⟩⟩) trivial) (.inl ⟨trivial, trivial⟩) ?_
  obtain ⟨hc14653, ho14599⟩ := chk ho14599
  have hF14654 : St _ _ _ _ _ _ ([.gs v14633 c14634 (csz UInt8)] ++ []) := (hS14636.front 0 rfl)
  refine e_mk3 rfl trivial hF14654 (o_app (ys := x14641.Put.b) (by_ := 1) hF14654.sub (i := 0) rfl q14637 (str_news _ _) rfl rfl (by kernel_rfl) (by omega) (by omega)) (Zle.refl _) (.keep trivial (.keep trivial .nil)) ?_
  rintro v14648 c14649 h14650 ⟨q14652, hS14651⟩
  replace hS14651 : St _ _ _ _ _ _ [.gs v14648 c14649 (csz UInt8)] := hS14651
  refine ye 1 [(7, v14648), (0, v14079), (1, v14081), (9, .int .i64 x14609)] ?_
  have hS14655 := hS14651.unres
  refine rg r22_10 ?_
  refine xq 2 [(40, .int .i64 x14609), (39, v14081), (7, v14648), (0, v14079), (1, v14081), (9, .int .i64 x14609)] ?_
  obtain ⟨hc14656, ho14599⟩ := chk ho14599
  refine r_step rfl trivial (o_index rfl rfl (by kernel_rfl : slTy _ _ = some (csz api_Edit)) (RS.based (q14080.mono hS14611.zle) (by omega)) hc14656.1 hc14656.2) ?_
  refine xq 1 [(42, .pointer (some (elemA v14081 x14609 (csz api_Edit) 1))), (7, v14648), (0, v14079), (1, v14081), (9, .int .i64 x14609)] ?_
  obtain ⟨x14657, hx14658, ho14599⟩ := obind ho14599
  obtain ⟨cs14659, hc14660, he14661⟩ := RS.elz (q14080.mono hS14611.zle) (i := x14609) hx14658
  obtain rfl := rc_api_Edit hc14660
  refine r_step rfl trivial (o_lde (w := .int .i64 x14657.To) (he14661 _ (hS14655.zin0 (Zle.refl _))) rfl (by kernel_rfl)) ?_
  refine xe 1 [(8, .int .i64 x14657.To), (7, v14648), (0, v14079), (1, v14081), (9, .int .i64 x14609)] ?_
  refine rg r22_8 ?_
  refine xe 3 [(9, .int .i64 (w64 (x14609 + 1))), (8, .int .i64 x14657.To), (7, v14648), (0, v14079), (1, v14081)] ?_
  exact ⟨n14612, Nat.lt_succ_self _, ⟨_, (x14604 ++ ((a0.take x14621.From.toNat).drop x14608.toNat)) ++ x14641.Put.b, x14657.To, w64 (x14609 + 1), v14648, c14649, ho14599, q14652, rfl, hS14655⟩⟩
  refine r_step rfl trivial (o_cmp rfl rfl (c_lss_F hp14615)) ?_
  refine xf [(20, .bool false), (0, v14079), (1, v14081), (7, v14606), (8, .int .i64 x14608), (9, .int .i64 x14609)] ?_
  refine cF 20 rfl ?_
  refine xt 0 ?_
  refine blkX_hit ?_
  obtain rfl := Option.some.inj ho14599
  exact ⟨_, x14604, x14608, v14606, c14607, rfl, q14605, rfl, hS14611⟩
  refine r_step rfl trivial (o_cmp rfl rfl (c_neq_T hp14362)) ?_
  refine xf [(15, .bool true), (6, .int .i64 r14353), (0, v14079), (1, v14081)] ?_
  refine cT 15 rfl ?_
  refine sr r22_3 ?_
  refine xe 3 [(5, .int .i64 r14353), (4, .slice none 0 0)] ?_
  refine rt ?_
  refine ⟨rfl, ?_⟩
  have hS14697 := hS14359.nilGs (csz UInt8)
  obtain rfl := Option.some.inj hm
  refine ⟨_, _, _, ResL.tmp rfl (ResL.tmp rfl (ResL.nil)), hS14697, ?_⟩
  exact ⟨(.slice none 0 0), [], rfl, rfl, (RCs.nil0 _)⟩

end Go.Proofs.Ytdajldmgdpggkaa.M
