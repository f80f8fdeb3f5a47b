/- Printed by a program of this session: Go functions as Lean functions over plain data, and that the calls come to them. -/
import Derived.Test.YtcnbcimnfeekjaaSyJ
import Derived.Test.YtcnbcimnfeekjaaChecked
import Derived.KernelRfl
import Derived.Test.YtcnbcimnfeekjaaMR0
namespace Go.Proofs.Ytcnbcimnfeekjaa.M
open Go Am Sy
open Sy.Cell (rc)
set_option linter.unusedVariables false
set_option linter.unusedSimpArgs false
set_option maxRecDepth 20000

structure rows_Entry where
  Dash : Bool
  Col : Int
  From : Int
  To : Int
  deriving DecidableEq, Inhabited
instance : Cell rows_Entry where
  size := 4
  rc Z cs x := cs = [.bool x.Dash, V x.Col, V x.From, V x.To]
  len h := by rw [h]; rfl
  mono _ h := h
  one h := by rw [h]; rfl
  pos := by decide
theorem rc_rows_Entry {Z : Zn} {cs : List Value} {x : rows_Entry} (h : rc Z cs x) : cs = [.bool x.Dash, V x.Col, V x.From, V x.To] := h
abbrev K42 (x : rows_Entry) : List Value := [.bool x.Dash, V x.Col, V x.From, V x.To]
structure correctorref9_Entry where
  Dash : Bool
  Col : Int
  From : Int
  To : Int
  deriving DecidableEq, Inhabited
instance : Cell correctorref9_Entry where
  size := 4
  rc Z cs x := cs = [.bool x.Dash, V x.Col, V x.From, V x.To]
  len h := by rw [h]; rfl
  mono _ h := h
  one h := by rw [h]; rfl
  pos := by decide
theorem rc_correctorref9_Entry {Z : Zn} {cs : List Value} {x : correctorref9_Entry} (h : rc Z cs x) : cs = [.bool x.Dash, V x.Col, V x.From, V x.To] := h
abbrev K43 (x : correctorref9_Entry) : List Value := [.bool x.Dash, V x.Col, V x.From, V x.To]

def r29_0 : List COp := [u 3 (.load 3 (t 0)), u 4 (.fieldAddr 33 (t 1) 2), u 5 (.load 3 (t 4)), u 6 (.binOp .lss 3 (t 3) (t 5) 3), u 7 (.move (t 6)), gT 7 (some 8) (.load 27 (t 2)), gT 7 (some 9) (.load 3 (t 0)), gT 7 (some 10) (.indexAddr 27 (t 8) (t 9)), gT 7 (some 11) (.load 45 (t 10)), gT 7 (some 12) (cf 30 #[(t 11)] #[45]), gT 7 (some 13) (.unOp .not 4 (t 12)), u 14 (.pick (t 7) (t 13) (.const (.bool false)))]
def r29_1 : List COp := [u 15 (.load 3 (t 0)), u 16 (.binOp .add 3 (t 15) (ci 1) 3), o (.store 3 (t 0) (t 16))]
def rows_Entries_1_l0 (F : Nat) (a0 : Int) (a1 : api_Row) (a2 : List api_Token) : Nat → Int → Option Int
  | 0, _ => none
  | n + 1, x15070 =>
    if x15070 < a1.To then
      if 0 ≤ x15070 ∧ x15070 < (a2.length : Int) then
        (a2[x15070.toNat]?).bind fun x15108 =>
        (rows_counts F x15108).bind fun r15114 =>
        if r15114 = true then
          some x15070
        else
          rows_Entries_1_l0 F a0 a1 a2 n (w64 (x15070 + 1))
      else none
    else
      some x15070
def rows_Entries_1 (F : Nat) (a0 : Int) (a1 : api_Row) (a2 : List api_Token) : Option Int :=
  ((rows_Entries_1_l0 F a0 a1 a2 F a0) : Option Int).bind fun o => match o with
    | x15126 => some x15126
theorem rows_Entries_1_ok (F : Nat) {h : AH} {Z : Zn} {a0 : Int} {a1 : api_Row} {a2 : List api_Token} {b14844 : Nat} {b14845 : Nat} {b14846 : Nat} {v14848 : Value} (hP : Pre Z h [.blk b14844 [V a0], .blk b14845 (K33 a1), .blk b14846 [v14848]]) (q14847 : RS (α := api_Token) Z v14848 a2) {r : Int} (hm : rows_Entries_1 F a0 a1 a2 = some r) :
    ∃ v h' Z' A', callI Go.Proofs.Try.prog 29 [Pt b14844 0, Pt b14845 0, Pt b14846 0] h = some (v, h') ∧ St h (idsL [.blk b14844 [V a0], .blk b14845 (K33 a1), .blk b14846 [v14848]]) Z (0, 0) Z' h' A' ∧ .tuple #[] = v ∧ A' = [.blk b14844 [V r], .blk b14845 (K33 a1), .blk b14846 [v14848]] := by
  refine fn_intro (A := [.blk b14844 [V a0], .blk b14845 (K33 a1), .blk b14846 [v14848]]) (Q := fun v Z' A' => .tuple #[] = v ∧ A' = [.blk b14844 [V r], .blk b14845 (K33 a1), .blk b14846 [v14848]]) Go.Proofs.Try.func29 rfl rfl (by kernel_rfl) hP ?_
  intro hs hS
  unfold rows_Entries_1 at hm
  obtain ⟨o15068, ho15067, hm⟩ := obind hm
  refine W_join [] (fun l h => ∃ Z15125 : Zn, ∃ x15126 : Int, x15126 = o15068 ∧ l = [] ∧ St hs (idsL [.blk b14844 [V a0], .blk b14845 (K33 a1), .blk b14846 [v14848]]) Z (0, 0) Z15125 h [.blk b14845 (K33 a1), .blk b14846 [v14848], .blk b14844 [V x15126]]) ?_ ?_
  rintro l h15127 ⟨Z15125, x15126, rfl, rfl, hS15128⟩
  try dsimp only at hm
  obtain rfl := Option.some.inj hm
  refine ⟨_, _, _, ResL.nil, (((hS15128.front 1 rfl).front 1 rfl).front 2 rfl), ?_⟩
  exact ⟨rfl, rfl⟩
  refine bk 0 ?_
  refine lp [0, 1, 2] (fun n l h => ∃ Z15069 : Zn, ∃ x15070 : Int, rows_Entries_1_l0 F a0 a1 a2 n x15070 = some o15068 ∧ l = [(0, Pt b14844 0), (1, Pt b14845 0), (2, Pt b14846 0)] ∧ St hs (idsL [.blk b14844 [V a0], .blk b14845 (K33 a1), .blk b14846 [v14848]]) Z (0, 0) Z15069 h [.blk b14845 (K33 a1), .blk b14846 [v14848], .blk b14844 [V x15070]]) F ⟨_, a0, ho15067, rfl, (((hS.front 0 rfl).front 2 rfl).front 2 rfl)⟩ ?_
  rintro n15073 l h15071 ⟨Z15069, x15070, ho15067, rfl, hS15072⟩
  rcases n15073 with _ | n15073
  cases (show none = some o15068 from ho15067)
  rw [rows_Entries_1_l0] at ho15067
  refine sq ?_
  refine sr r29_0 ?_
  refine r_step rfl trivial (o_ldb (v := V x15070) hS15072 (i := 2) rfl rfl (by kernel_rfl)) ?_
  refine xq 1 [(4, Pt b14845 2), (3, V x15070), (0, Pt b14844 0), (1, Pt b14845 0), (2, Pt b14846 0)] ?_
  refine r_step rfl trivial (o_ldb (v := V a1.To) hS15072 (i := 0) rfl rfl (by kernel_rfl)) ?_
  rcases ifs ho15067 with ⟨hp15106, ho15067⟩ | ⟨hp15106, ho15067⟩
  refine r_step rfl trivial (o_cmp rfl rfl (c_lss_T hp15106)) ?_
  refine xq 1 [(7, .bool true), (0, Pt b14844 0), (1, Pt b14845 0), (2, Pt b14846 0)] ?_
  refine r_step rfl rfl (o_ldb (v := v14848) hS15072 (i := 1) rfl rfl (by kernel_rfl)) ?_
  refine r_step rfl rfl (o_ldb (v := V x15070) hS15072 (i := 2) rfl rfl (by kernel_rfl)) ?_
  obtain ⟨hc15107, ho15067⟩ := chk ho15067
  refine r_step rfl rfl (o_index rfl rfl (by kernel_rfl : slTy _ _ = some (csz api_Token)) (RS.based (q14847.mono hS15072.zle) (by omega)) hc15107.1 hc15107.2) ?_
  obtain ⟨x15108, hx15109, ho15067⟩ := obind ho15067
  obtain ⟨cs15110, hc15111, he15112⟩ := RS.elz (q14847.mono hS15072.zle) (i := x15070) hx15109
  obtain rfl := rc_api_Token hc15111
  refine r_step rfl rfl (o_lde (w := .agg #[V x15108.Kind, V x15108.From, V x15108.To]) (he15112 _ (hS15072.zin0 (Zle.refl _))) rfl (by kernel_rfl)) ?_
  obtain ⟨r15114, hx15115, ho15067⟩ := obind ho15067
  obtain ⟨v15116, h15117, hcl15118, hSc15119, rfl⟩ := rows_counts_ok F hS15072.inv  hx15115
  have hS15120 := St.call (A := []) (B := [.blk b14845 (K33 a1), .blk b14846 [v14848], .blk b14844 [V x15070]]) hS15072 hSc15119
  replace hS15120 : St _ _ _ _ _ _ [.blk b14845 (K33 a1), .blk b14846 [v14848], .blk b14844 [V x15070]] := hS15120
  refine r_step rfl rfl (o_call hcl15118 rfl rfl rfl) ?_
  rcases ifs ho15067 with ⟨hp15121, ho15067⟩ | ⟨hp15121, ho15067⟩
  refine r_setb (t := 12) rfl hp15121 ?_
  refine xe 2 [(14, .bool false), (0, Pt b14844 0), (1, Pt b14845 0), (2, Pt b14846 0)] ?_
  refine cF 14 rfl ?_
  refine xt 0 ?_
  refine blkX_hit ?_
  obtain rfl := Option.some.inj ho15067
  exact ⟨_, x15070, rfl, rfl, hS15120⟩
  refine r_setb (t := 12) rfl (Bool.eq_false_iff.2 hp15121) ?_
  refine xe 2 [(14, .bool true), (0, Pt b14844 0), (1, Pt b14845 0), (2, Pt b14846 0)] ?_
  refine kT 14 rfl ?_
  refine bk 1 ?_
  refine rg r29_1 ?_
  refine r_step rfl trivial (o_ldb (v := V x15070) hS15120 (i := 2) rfl rfl (by kernel_rfl)) ?_
  refine xq 1 [(16, V (w64 (x15070 + 1))), (0, Pt b14844 0), (1, Pt b14845 0), (2, Pt b14846 0)] ?_
  refine r_ex1 rfl trivial (o_stb (vs := [V (w64 (x15070 + 1))]) (cells' := [V (w64 (x15070 + 1))]) (L' := [.blk b14845 (K33 a1), .blk b14846 [v14848], .blk b14844 [V (w64 (x15070 + 1))]]) hS15120 (i := 2) rfl rfl rfl rfl (by kernel_rfl) rfl rfl rfl rfl) ?_
  intro h15122 hS15123
  refine xf [(0, Pt b14844 0), (1, Pt b14845 0), (2, Pt b14846 0)] ?_
  exact ⟨n15073, Nat.lt_succ_self _, ⟨_, w64 (x15070 + 1), ho15067, rfl, hS15123⟩⟩
  refine r_step rfl trivial (o_cmp rfl rfl (c_lss_F hp15106)) ?_
  refine xe 8 [(14, .bool false), (0, Pt b14844 0), (1, Pt b14845 0), (2, Pt b14846 0)] ?_
  refine cF 14 rfl ?_
  refine xt 0 ?_
  refine blkX_hit ?_
  obtain rfl := Option.some.inj ho15067
  exact ⟨_, x15070, rfl, rfl, hS15072⟩

def r32_0 : List COp := [u 1 (.box 45 (t 0)), u 2 (.assign (.const (.bool false)))]
def r32_1 : List COp := [u 3 (.fieldAddr 45 (t 1) 0), u 4 (.load 3 (t 3)), u 5 (.binOp .eql 3 (t 4) (ci 12) 3), u 6 (.move (t 5)), gN 6 (some 7) (.fieldAddr 45 (t 1) 0), gN 6 (some 8) (.load 3 (t 7)), gN 6 (some 9) (.binOp .eql 3 (t 8) (ci 14) 3), u 10 (.pick (t 6) (.const (.bool true)) (t 9)), u 2 (.assign (t 10))]
def rows_property (F : Nat) (a0 : api_Token) : Option Bool :=
  if a0.Kind = (12 : Int) then
    some true
  else
    if a0.Kind = (14 : Int) then
      some true
    else
      some false
theorem rows_property_ok (F : Nat) {h : AH} {Z : Zn} {a0 : api_Token} (hI : Inv Z h) {r : Bool} (hm : rows_property F a0 = some r) :
    ∃ v h', callI Go.Proofs.Try.prog 32 [.agg #[V a0.Kind, V a0.From, V a0.To]] h = some (v, h') ∧ St h [] Z (0, 0) Z h' [] ∧ v = .bool r := by
  refine fn_plain (Q := fun v => v = .bool r) Go.Proofs.Try.func32 rfl rfl hI ?_
  intro hs hS
  unfold rows_property at hm
  refine sr r32_0 ?_
  refine r_blk rfl trivial (o_box (cs := [V a0.Kind, V a0.From, V a0.To]) rfl rfl) hS ?_
  intro b15404 h15405 hS15406
  refine xe 1 [(1, Pt b15404 0)] ?_
  refine sr r32_1 ?_
  refine xq 1 [(3, Pt b15404 0), (1, Pt b15404 0)] ?_
  refine r_step rfl trivial (o_ldb (v := V a0.Kind) hS15406 (i := 0) rfl rfl (by kernel_rfl)) ?_
  rcases ifs hm with ⟨hp15407, hm⟩ | ⟨hp15407, hm⟩
  refine r_step rfl trivial (o_cmp rfl rfl (c_eql_T hp15407)) ?_
  refine xe 6 [(2, .bool true)] ?_
  refine rt ?_
  refine ⟨rfl, ?_⟩
  obtain rfl := Option.some.inj hm
  refine ⟨_, _, _, ResL.tmp rfl (ResL.nil), hS15406, ?_⟩
  exact rfl
  refine r_step rfl trivial (o_cmp rfl rfl (c_eql_F hp15407)) ?_
  refine xq 2 [(7, Pt b15404 0), (6, .bool false)] ?_
  refine r_step rfl rfl (o_ldb (v := V a0.Kind) hS15406 (i := 0) rfl rfl (by kernel_rfl)) ?_
  rcases ifs hm with ⟨hp15408, hm⟩ | ⟨hp15408, hm⟩
  refine r_step rfl rfl (o_cmp rfl rfl (c_eql_T hp15408)) ?_
  refine xe 2 [(2, .bool true)] ?_
  refine rt ?_
  refine ⟨rfl, ?_⟩
  obtain rfl := Option.some.inj hm
  refine ⟨_, _, _, ResL.tmp rfl (ResL.nil), hS15406, ?_⟩
  exact rfl
  refine r_step rfl rfl (o_cmp rfl rfl (c_eql_F hp15408)) ?_
  refine xe 2 [(2, .bool false)] ?_
  refine rt ?_
  refine ⟨rfl, ?_⟩
  obtain rfl := Option.some.inj hm
  refine ⟨_, _, _, ResL.tmp rfl (ResL.nil), hS15406, ?_⟩
  exact rfl

def r33_0 : List COp := [u 1 (.box 45 (t 0)), u 2 (.assign (.const (.bool false)))]
def r33_1 : List COp := [u 3 (.fieldAddr 45 (t 1) 0), u 4 (.load 3 (t 3))]
def r33_2 : List COp := [u 6 (.binOp .eql 3 (t 4) (ci 15) 3), u 5 (.assign (t 6))]
def r33_3 : List COp := [u 7 (.binOp .eql 3 (t 4) (ci 16) 3), u 5 (.assign (t 7))]
def r33_4 : List COp := [u 8 (.binOp .eql 3 (t 4) (ci 17) 3), u 5 (.assign (t 8))]
def r33_5 : List COp := [u 9 (.binOp .eql 3 (t 4) (ci 13) 3), u 5 (.assign (t 9))]
def r33_6 : List COp := [u 2 (.assign (.const (.bool true)))]
def r33_7 : List COp := [u 2 (.assign (.const (.bool false)))]
def rows_name (F : Nat) (a0 : api_Token) : Option Bool :=
  ((if a0.Kind = (15 : Int) then
      some true
    else
      if a0.Kind = (16 : Int) then
        some true
      else
        if a0.Kind = (17 : Int) then
          some true
        else
          if a0.Kind = (13 : Int) then
            some true
          else
            some false) : Option Bool).bind fun o => match o with
    | x15469 => if x15469 = true then
      some true
    else
      some false
theorem rows_name_ok (F : Nat) {h : AH} {Z : Zn} {a0 : api_Token} (hI : Inv Z h) {r : Bool} (hm : rows_name F a0 = some r) :
    ∃ v h', callI Go.Proofs.Try.prog 33 [.agg #[V a0.Kind, V a0.From, V a0.To]] h = some (v, h') ∧ St h [] Z (0, 0) Z h' [] ∧ v = .bool r := by
  refine fn_plain (Q := fun v => v = .bool r) Go.Proofs.Try.func33 rfl rfl hI ?_
  intro hs hS
  unfold rows_name at hm
  refine sr r33_0 ?_
  refine r_blk rfl trivial (o_box (cs := [V a0.Kind, V a0.From, V a0.To]) rfl rfl) hS ?_
  intro b15446 h15447 hS15448
  refine xe 1 [(1, Pt b15446 0)] ?_
  refine sq ?_
  refine sr r33_1 ?_
  refine xq 1 [(3, Pt b15446 0)] ?_
  refine r_step rfl trivial (o_ldb (v := V a0.Kind) hS15448 (i := 0) rfl rfl (by kernel_rfl)) ?_
  refine xf [(4, V a0.Kind)] ?_
  refine bk 0 ?_
  refine sq ?_
  obtain ⟨o15463, ho15462, hm⟩ := obind hm
  refine W_join [5] (fun l h => ∃ Z15468 : Zn, ∃ x15469 : Bool, x15469 = o15463 ∧ l = [(5, .bool x15469)] ∧ St hs [] Z (0, 0) Z15468 h []) ?_ ?_
  rintro l h15470 ⟨Z15468, x15469, rfl, rfl, hS15471⟩
  try dsimp only at hm
  rcases ifs hm with ⟨hp15473, hm⟩ | ⟨hp15473, hm⟩
  refine W_condT (x := .tmp 5) (by kernel_rfl) rfl hp15473 ?_
  refine sr r33_6 ?_
  refine xe 1 [(2, .bool true)] ?_
  refine rt ?_
  refine blkX_ret ?_
  refine ⟨rfl, ?_⟩
  obtain rfl := Option.some.inj hm
  refine ⟨_, _, _, ResL.tmp rfl (ResL.nil), hS15471, ?_⟩
  exact rfl
  refine W_condF (x := .tmp 5) (by kernel_rfl) rfl (Bool.eq_false_iff.2 hp15473) ?_
  refine sk ?_
  refine sr r33_7 ?_
  refine xe 1 [(2, .bool false)] ?_
  refine rt ?_
  refine ⟨rfl, ?_⟩
  obtain rfl := Option.some.inj hm
  refine ⟨_, _, _, ResL.tmp rfl (ResL.nil), hS15471, ?_⟩
  exact rfl
  refine sr r33_2 ?_
  rcases ifs ho15462 with ⟨hp15464, ho15462⟩ | ⟨hp15464, ho15462⟩
  refine r_step rfl trivial (o_cmp rfl rfl (c_eql_T hp15464)) ?_
  refine xe 1 [(5, .bool true), (4, V a0.Kind)] ?_
  refine kT 5 rfl ?_
  obtain rfl := Option.some.inj ho15462
  exact ⟨_, true, rfl, rfl, (hS15448.takeN 0)⟩
  refine r_step rfl trivial (o_cmp rfl rfl (c_eql_F hp15464)) ?_
  refine xe 1 [(5, .bool false), (4, V a0.Kind)] ?_
  refine cF 5 rfl ?_
  refine sr r33_3 ?_
  rcases ifs ho15462 with ⟨hp15465, ho15462⟩ | ⟨hp15465, ho15462⟩
  refine r_step rfl trivial (o_cmp rfl rfl (c_eql_T hp15465)) ?_
  refine xe 1 [(5, .bool true), (4, V a0.Kind)] ?_
  refine kT 5 rfl ?_
  obtain rfl := Option.some.inj ho15462
  exact ⟨_, true, rfl, rfl, (hS15448.takeN 0)⟩
  refine r_step rfl trivial (o_cmp rfl rfl (c_eql_F hp15465)) ?_
  refine xe 1 [(5, .bool false), (4, V a0.Kind)] ?_
  refine cF 5 rfl ?_
  refine sr r33_4 ?_
  rcases ifs ho15462 with ⟨hp15466, ho15462⟩ | ⟨hp15466, ho15462⟩
  refine r_step rfl trivial (o_cmp rfl rfl (c_eql_T hp15466)) ?_
  refine xe 1 [(5, .bool true), (4, V a0.Kind)] ?_
  refine kT 5 rfl ?_
  obtain rfl := Option.some.inj ho15462
  exact ⟨_, true, rfl, rfl, (hS15448.takeN 0)⟩
  refine r_step rfl trivial (o_cmp rfl rfl (c_eql_F hp15466)) ?_
  refine xe 1 [(5, .bool false), (4, V a0.Kind)] ?_
  refine cF 5 rfl ?_
  refine rg r33_5 ?_
  rcases ifs ho15462 with ⟨hp15467, ho15462⟩ | ⟨hp15467, ho15462⟩
  refine r_step rfl trivial (o_cmp rfl rfl (c_eql_T hp15467)) ?_
  refine xe 1 [(5, .bool true)] ?_
  obtain rfl := Option.some.inj ho15462
  exact ⟨_, true, rfl, rfl, (hS15448.takeN 0)⟩
  refine r_step rfl trivial (o_cmp rfl rfl (c_eql_F hp15467)) ?_
  refine xe 1 [(5, .bool false)] ?_
  obtain rfl := Option.some.inj ho15462
  exact ⟨_, false, rfl, rfl, (hS15448.takeN 0)⟩

def r34_0 : List COp := [u 2 (.assign (.const (.slice none 0 0)))]
def r34_1 : List COp := [u 3 (.move (t 0)), u 4 (.binOp .eql 35 (t 3) (.const (.slice none 0 0)) 35)]
def r34_2 : List COp := [u 2 (.assign (.const (.slice none 0 0)))]
def r34_3 : List COp := [u 5 (.buildSlice 35 0 #[]), u 6 (.move (t 0)), u 7 (cb .append #[(t 5), (t 6)] #[35, 35]), u 2 (.assign (t 7))]
def slices_Clone_rows_Entry (F : Nat) (a0 : List rows_Entry) : Option (List rows_Entry) :=
  if ([] : List rows_Entry).length + a0.length ≤ 4398046511104 then
    some (([] : List rows_Entry) ++ a0)
  else none
theorem slices_Clone_rows_Entry_ok (F : Nat) {h : AH} {Z : Zn} {a0 : List rows_Entry} {v15703 : Value} (hP : Pre Z h []) (q15702 : RS (α := rows_Entry) Z v15703 a0) {r : (List rows_Entry)} (hm : slices_Clone_rows_Entry F a0 = some r) :
    ∃ v h' Z' A', callI Go.Proofs.Try.prog 34 [v15703] h = some (v, h') ∧ St h (idsL []) Z (0, 0) Z' h' A' ∧ ∃ v15722 : Value, ∃ c15723 : List Value, v15722 = v ∧ A' = [.gs v15722 c15723 (csz rows_Entry)] ∧ RCs (α := rows_Entry) Z' c15723 r := by
  refine fn_intro (A := []) (Q := fun v Z' A' => ∃ v15722 : Value, ∃ c15723 : List Value, v15722 = v ∧ A' = [.gs v15722 c15723 (csz rows_Entry)] ∧ RCs (α := rows_Entry) Z' c15723 r) Go.Proofs.Try.func34 rfl rfl (by kernel_rfl) hP ?_
  intro hs hS
  unfold slices_Clone_rows_Entry at hm
  replace hS : St hs [] Z (0, 0) Z hs [] := hS
  refine sr r34_0 ?_
  refine xe 1 [(0, v15703)] ?_
  refine sq ?_
  refine sr r34_1 ?_
  refine xq 1 [(3, v15703), (0, v15703)] ?_
  rcases nil_or q15702 with ⟨hn15726, hv15727⟩ | hv15727
  replace hm : some [] = some r := by rw [hn15726] at hm; simpa using hm
  refine r_step rfl trivial (o_cmp rfl rfl (c_nilT ⟨_, Go.Proofs.Try.underlying35⟩ hv15727)) ?_
  refine xf [(4, .bool true), (0, v15703)] ?_
  refine cT 4 rfl ?_
  refine sr r34_2 ?_
  refine xe 1 [(2, .slice none 0 0)] ?_
  refine rt ?_
  refine ⟨rfl, ?_⟩
  have hS15728 := hS.nilGs (csz rows_Entry)
  obtain rfl := Option.some.inj hm
  refine ⟨_, _, _, ResL.tmp rfl (ResL.nil), hS15728, ?_⟩
  exact ⟨(.slice none 0 0), [], rfl, rfl, (RCs.nil0 _)⟩
  refine r_step rfl trivial (o_cmp rfl rfl (c_nilF ⟨_, Go.Proofs.Try.underlying35⟩ hv15727)) ?_
  refine xf [(4, .bool false), (0, v15703)] ?_
  refine kF 4 rfl ?_
  refine sr r34_3 ?_
  have q15733 : RCs (α := rows_Entry) Z [] [] := RCs.nil0 _
  refine r_row rfl trivial (o_bs (cells := []) (s := 4) (by kernel_rfl)) (by kernel_rfl) hS ?_
  intro v15730 h15731 hS15732
  replace hS15732 : St _ _ _ _ _ _ [.gs v15730 [] (csz rows_Entry)] := hS15732
  refine xq 1 [(6, v15703), (5, v15730)] ?_
  obtain ⟨c15736, nw15735⟩ := RS.news q15702 (hS15732).inv
  obtain ⟨hc15742, hm⟩ := chk hm
  refine r_ex3 rfl trivial (o_app (ys := a0) (by_ := 32) hS15732 (i := 0) rfl q15733 nw15735 rfl rfl (by kernel_rfl) (by omega) (by omega)) ?_
  rintro v15737 c15738 h15739 ⟨q15741, hS15740⟩
  replace hS15740 : St _ _ _ _ _ _ [.gs v15737 c15738 (csz rows_Entry)] := hS15740
  refine xe 1 [(2, v15737)] ?_
  refine rt ?_
  refine ⟨rfl, ?_⟩
  obtain rfl := Option.some.inj hm
  refine ⟨_, _, _, ResL.tmp rfl (ResL.nil), hS15740, ?_⟩
  exact ⟨v15737, c15738, rfl, rfl, q15741⟩

def r14_0 : List COp := [u 4 (.box 27 (t 1)), u 5 (.box 33 (t 2)), u 6 (.assign (.const (.slice none 0 0))), u 7 (.assign (ci 0))]
def r14_1 : List COp := [u 12 (.fieldAddr 33 (t 5) 0), u 13 (.load 3 (t 12)), u 14 (.binOp .neq 3 (t 13) (ci 5) 3), u 15 (.move (t 14)), gN 15 (some 16) (.fieldAddr 33 (t 5) 1), gN 15 (some 17) (.load 3 (t 16)), gN 15 (some 18) (.binOp .lss 3 (t 17) (ci 0) 3), u 19 (.pick (t 15) (.const (.bool true)) (t 18)), u 20 (.move (t 19)), gN 20 (some 21) (.fieldAddr 33 (t 5) 2), gN 20 (some 22) (.load 3 (t 21)), gN 20 (some 23) (.load 27 (t 4)), gN 20 (some 24) (cb .len #[(t 23)] #[27]), gN 20 (some 25) (.binOp .gtr 3 (t 22) (t 24) 3), u 26 (.pick (t 20) (.const (.bool true)) (t 25)), u 27 (.move (t 26)), gN 27 (some 28) (.fieldAddr 33 (t 5) 1), gN 27 (some 29) (.load 3 (t 28)), gN 27 (some 30) (.fieldAddr 33 (t 5) 2), gN 27 (some 31) (.load 3 (t 30)), gN 27 (some 32) (.binOp .geq 3 (t 29) (t 31) 3), u 33 (.pick (t 27) (.const (.bool true)) (t 32))]
def r14_2 : List COpF := [uF 34 (.fieldAddr 33 (t 5) 1) .pure [], uF 35 (.load 3 (t 34)) .look [], uF 6 (.assign (.const (.slice none 0 0))) .pure [], uF 7 (.assign (t 35)) .pure []]
def r14_3 : List COp := [u 36 (.fieldAddr 33 (t 5) 1), u 37 (.load 3 (t 36)), u 8 (.alloc 3), o (.store 3 (t 8) (t 37))]
def r14_4 : List COp := [u 38 (.makeFunc (.func 29) #[] #[(t 8), (t 5), (t 4)]), u 9 (.assign (t 38))]
def r14_5 : List COp := [u 39 (.move (t 9)), u 40 (.call { callee := (.value (t 39)), args := #[], argTypes := #[] })]
def r14_6 : List COp := [u 41 (.load 3 (t 8)), u 7 (.assign (t 41))]
def r14_7 : List COp := [u 42 (.load 3 (t 8)), u 43 (.fieldAddr 33 (t 5) 2), u 44 (.load 3 (t 43)), u 45 (.binOp .lss 3 (t 42) (t 44) 3), u 46 (.move (t 45)), gT 46 (some 47) (.load 27 (t 4)), gT 46 (some 48) (.load 3 (t 8)), gT 46 (some 49) (.indexAddr 27 (t 47) (t 48)), gT 46 (some 50) (.fieldAddr 45 (t 49) 0), gT 46 (some 51) (.load 3 (t 50)), gT 46 (some 52) (.binOp .eql 3 (t 51) (ci 5) 3), u 53 (.pick (t 46) (t 52) (.const (.bool false)))]
def r14_8 : List COpF := [uF 54 (.move (t 6)) .pure [], uF 55 (.load 27 (t 4)) .look [], uF 56 (.load 3 (t 8)) .look [], uF 57 (.indexAddr 27 (t 55) (t 56)) .pure [], uF 58 (.fieldAddr 45 (t 57) 1) .pure [], uF 59 (.load 3 (t 58)) .look [], uF 60 (.load 27 (t 4)) .look [], uF 61 (.load 33 (t 5)) .look [], uF 62 (cf 31 #[(t 60), (t 61)] #[27, 33]) .make [6, 7], uF 63 (.binOp .sub 3 (t 59) (t 62) 3) .pure [], uF 64 (.load 3 (t 8)) .look [], uF 65 (.load 3 (t 8)) .look [], uF 66 (.binOp .add 3 (t 65) (ci 1) 3) .pure [], uF 67 (.build 42 #[(0, (.const (.bool true))), (1, (t 63)), (2, (t 64)), (3, (t 66))]) .pure [], uF 68 (.buildSlice 35 1 #[(0, (t 67))]) .fresh [], uF 69 (cb .append #[(t 54), (t 68)] #[35, 35]) .make [1, 2, 5, 6, 7, 10, 11], uF 6 (.assign (t 69)) .pure []]
def r14_9 : List COp := [u 70 (.load 3 (t 8)), u 71 (.binOp .add 3 (t 70) (ci 1) 3), o (.store 3 (t 8) (t 71))]
def r14_10 : List COp := [u 72 (.load 3 (t 8)), u 7 (.assign (t 72))]
def r14_11 : List COp := [u 73 (.move (t 9)), u 74 (.call { callee := (.value (t 73)), args := #[], argTypes := #[] })]
def r14_12 : List COp := [u 75 (.load 3 (t 8)), u 10 (.assign (t 75)), u 11 (.assign (.const (.bool false)))]
def r14_13 : List COp := [u 76 (.load 3 (t 8)), u 77 (.fieldAddr 33 (t 5) 2), u 78 (.load 3 (t 77)), u 79 (.binOp .lss 3 (t 76) (t 78) 3), u 80 (.move (t 79)), gT 80 (some 81) (.load 27 (t 4)), gT 80 (some 82) (.load 3 (t 8)), gT 80 (some 83) (.indexAddr 27 (t 81) (t 82)), gT 80 (some 84) (.load 45 (t 83)), gT 80 (some 85) (cf 32 #[(t 84)] #[45]), gT 80 (some 86) (.move (t 85)), gT 86 (some 87) (.move (t 11)), gT 86 (some 88) (.unOp .not 4 (t 87)), gT 80 (some 89) (.pick (t 86) (t 88) (.const (.bool false))), gT 80 (some 90) (.move (t 89)), gN 90 (some 91) (.load 27 (t 4)), gN 90 (some 92) (.load 3 (t 8)), gN 90 (some 93) (.indexAddr 27 (t 91) (t 92)), gN 90 (some 94) (.load 45 (t 93)), gN 90 (some 95) (cf 33 #[(t 94)] #[45]), gN 90 (some 96) (.move (t 95)), gT 96 (some 97) (.move (t 11)), gT 96 (some 98) (.unOp .not 4 (t 97)), gN 90 (some 99) (.pick (t 96) (t 98) (.const (.bool false))), gT 80 (some 100) (.pick (t 90) (.const (.bool true)) (t 99)), u 101 (.pick (t 80) (t 100) (.const (.bool false)))]
def r14_14 : List COp := [u 102 (.load 27 (t 4)), u 103 (.load 3 (t 8)), u 104 (.indexAddr 27 (t 102) (t 103)), u 105 (.load 45 (t 104)), u 106 (cf 33 #[(t 105)] #[45]), u 11 (.assign (t 106))]
def r14_15 : List COp := [u 107 (.load 3 (t 8)), u 108 (.binOp .add 3 (t 107) (ci 1) 3), o (.store 3 (t 8) (t 108))]
def r14_16 : List COp := [u 109 (.move (t 9)), u 110 (.call { callee := (.value (t 109)), args := #[], argTypes := #[] })]
def r14_17 : List COp := [u 111 (.load 3 (t 8)), u 112 (.fieldAddr 33 (t 5) 2), u 113 (.load 3 (t 112)), u 114 (.binOp .lss 3 (t 111) (t 113) 3), u 115 (.move (t 114)), gT 115 (some 116) (.load 27 (t 4)), gT 115 (some 117) (.load 3 (t 8)), gT 115 (some 118) (.indexAddr 27 (t 116) (t 117)), gT 115 (some 119) (.fieldAddr 45 (t 118) 0), gT 115 (some 120) (.load 3 (t 119)), gT 115 (some 121) (.binOp .eql 3 (t 120) (ci 6) 3), u 122 (.pick (t 115) (t 121) (.const (.bool false)))]
def r14_18 : List COpF := [uF 123 (.move (t 6)) .pure [], uF 124 (.load 27 (t 4)) .look [], uF 125 (.move (t 10)) .pure [], uF 126 (.indexAddr 27 (t 124) (t 125)) .pure [], uF 127 (.fieldAddr 45 (t 126) 1) .pure [], uF 128 (.load 3 (t 127)) .look [], uF 129 (.load 27 (t 4)) .look [], uF 130 (.load 33 (t 5)) .look [], uF 131 (cf 31 #[(t 129), (t 130)] #[27, 33]) .make [6, 7], uF 132 (.binOp .sub 3 (t 128) (t 131) 3) .pure [], uF 133 (.move (t 10)) .pure [], uF 134 (.load 3 (t 8)) .look [], uF 135 (.binOp .add 3 (t 134) (ci 1) 3) .pure [], uF 136 (.build 42 #[(0, (.const (.bool false))), (1, (t 132)), (2, (t 133)), (3, (t 135))]) .pure [], uF 137 (.buildSlice 35 1 #[(0, (t 136))]) .fresh [], uF 138 (cb .append #[(t 123), (t 137)] #[35, 35]) .make [1, 5, 6, 7, 11], uF 6 (.assign (t 138)) .pure []]
def r14_19 : List COp := [u 139 (.load 3 (t 8)), u 140 (.binOp .add 3 (t 139) (ci 1) 3), u 7 (.assign (t 140))]
def r14_20 : List COp := [u 141 (.move (t 6)), u 142 (cf 34 #[(t 141)] #[35]), u 143 (.move (t 7)), u 6 (.assign (t 142)), u 7 (.assign (t 143))]
def rows_Entries_l1 (F : Nat) (a0 : List UInt8) (a1 : List api_Token) (a2 : api_Row) : Nat → api_Row → (List rows_Entry) → Int → Int → Int → Bool → Option (api_Row × (List rows_Entry) × Int × Int × Int)
  | 0, _, _, _, _, _, _ => none
  | n + 1, x17964, x17965, x17969, x17971, x17972, x17973 =>
    ((if x17971 < x17964.To then
        if 0 ≤ x17971 ∧ x17971 < (a1.length : Int) then
          (a1[x17971.toNat]?).bind fun x18030 =>
          (rows_property F x18030).bind fun r18036 =>
          if r18036 = true then
            if x17973 = true then
              if 0 ≤ x17971 ∧ x17971 < (a1.length : Int) then
                (a1[x17971.toNat]?).bind fun x18046 =>
                (rows_name F x18046).bind fun r18052 =>
                if r18052 = true then
                  if x17973 = true then
                    some (.inr (x17964, x17965, x17969, x17971, x17972))
                  else
                    some (.inl (x17964, x17965, x17971))
                else
                  some (.inr (x17964, x17965, x17969, x17971, x17972))
              else none
            else
              some (.inl (x17964, x17965, x17971))
          else
            if 0 ≤ x17971 ∧ x17971 < (a1.length : Int) then
              (a1[x17971.toNat]?).bind fun x18062 =>
              (rows_name F x18062).bind fun r18068 =>
              if r18068 = true then
                if x17973 = true then
                  some (.inr (x17964, x17965, x17969, x17971, x17972))
                else
                  some (.inl (x17964, x17965, x17971))
              else
                some (.inr (x17964, x17965, x17969, x17971, x17972))
            else none
        else none
      else
        some (.inr (x17964, x17965, x17969, x17971, x17972))) : Option (Sum (api_Row × (List rows_Entry) × Int) (api_Row × (List rows_Entry) × Int × Int × Int))).bind fun o => match o with
      | .inl (x18080, x18081, x18086) => if 0 ≤ x18086 ∧ x18086 < (a1.length : Int) then
        (a1[x18086.toNat]?).bind fun x18090 =>
        (rows_name F x18090).bind fun r18096 =>
        (rows_Entries_1 F (w64 (x18086 + 1)) x18080 a1).bind fun r18105 =>
        rows_Entries_l1 F a0 a1 a2 n x18080 x18081 x17969 r18105 x17972 r18096
      else none
      | .inr y => some y
def rows_Entries_l0 (F : Nat) (a0 : List UInt8) (a1 : List api_Token) (a2 : api_Row) : Nat → api_Row → (List rows_Entry) → Int → Int → Option ((List rows_Entry) × Int)
  | 0, _, _, _, _ => none
  | n + 1, x17517, x17518, x17522, x17524 =>
    ((if x17524 < x17517.To then
        if 0 ≤ x17524 ∧ x17524 < (a1.length : Int) then
          (a1[x17524.toNat]?).bind fun x17638 =>
          if x17638.Kind = (5 : Int) then
            some (x17517, x17518, x17524, true)
          else
            some (x17517, x17518, x17524, false)
        else none
      else
        some (x17517, x17518, x17524, false)) : Option (api_Row × (List rows_Entry) × Int × Bool)).bind fun o => match o with
      | (x17648, x17649, x17654, x17655) => if x17655 = true then
        if 0 ≤ x17654 ∧ x17654 < (a1.length : Int) then
          (a1[x17654.toNat]?).bind fun x17723 =>
          (rows_begin F a1 x17648).bind fun r17731 =>
          if x17649.length + [(⟨true, w64 (x17723.From - r17731), x17654, w64 (x17654 + 1)⟩ : rows_Entry)].length ≤ 4398046511104 then
            (rows_Entries_1 F (w64 (x17654 + 1)) x17648 a1).bind fun r17761 =>
            rows_Entries_l0 F a0 a1 a2 n x17648 (x17649 ++ [(⟨true, w64 (x17723.From - r17731), x17654, w64 (x17654 + 1)⟩ : rows_Entry)]) (w64 (x17654 + 1)) r17761
          else none
        else none
      else
        ((rows_Entries_l1 F a0 a1 a2 F x17648 x17649 x17522 x17654 x17654 false) : Option (api_Row × (List rows_Entry) × Int × Int × Int)).bind fun o => match o with
          | (x18150, x18151, x18155, x18157, x18158) => ((if x18157 < x18150.To then
              if 0 ≤ x18157 ∧ x18157 < (a1.length : Int) then
                (a1[x18157.toNat]?).bind fun x18183 =>
                if x18183.Kind = (6 : Int) then
                  some (x18150, x18151, x18157, true)
                else
                  some (x18150, x18151, x18157, false)
              else none
            else
              some (x18150, x18151, x18157, false)) : Option (api_Row × (List rows_Entry) × Int × Bool)).bind fun o => match o with
            | (x18193, x18194, x18199, x18200) => ((if x18200 = true then
                if 0 ≤ x18158 ∧ x18158 < (a1.length : Int) then
                  (a1[x18158.toNat]?).bind fun x18254 =>
                  (rows_begin F a1 x18193).bind fun r18262 =>
                  if x18194.length + [(⟨false, w64 (x18254.From - r18262), x18158, w64 (x18199 + 1)⟩ : rows_Entry)].length ≤ 4398046511104 then
                    some (x18194 ++ [(⟨false, w64 (x18254.From - r18262), x18158, w64 (x18199 + 1)⟩ : rows_Entry)], w64 (x18199 + 1))
                  else none
                else none
              else
                some (x18194, x18155)) : Option ((List rows_Entry) × Int)).bind fun o => match o with
              | (x18290, x18294) => (slices_Clone_rows_Entry F x18290).bind fun r18301 =>
              some (r18301, x18294)
def rows_Entries (F : Nat) (a0 : List UInt8) (a1 : List api_Token) (a2 : api_Row) : Option ((List rows_Entry) × Int) :=
  if a2.Kind = (5 : Int) then
    if a2.From < (0 : Int) then
      some ([], a2.From)
    else
      if (a1.length : Int) < a2.To then
        some ([], a2.From)
      else
        if a2.To ≤ a2.From then
          some ([], a2.From)
        else
          (rows_Entries_1 F a2.From a2 a1).bind fun r16435 =>
          ((rows_Entries_l0 F a0 a1 a2 F a2 [] r16435 r16435) : Option ((List rows_Entry) × Int)).bind fun o => match o with
            | y => some y
  else
    some ([], a2.From)
theorem rows_Entries_ok (F : Nat) {h : AH} {Z : Zn} {a0 : List UInt8} {a1 : List api_Token} {a2 : api_Row} {v14734 : Value} {v14736 : Value} (hP : Pre Z h []) (q14733 : RS (α := UInt8) Z v14734 a0) (q14735 : RS (α := api_Token) Z v14736 a1) {r : (List rows_Entry) × Int} (hm : rows_Entries F a0 a1 a2 = some r) :
    ∃ v h' Z' A', callI Go.Proofs.Try.prog 14 [v14734, v14736, .agg #[V a2.Kind, V a2.From, V a2.To, V a2.Col]] h = some (v, h') ∧ St h (idsL []) Z (0, 0) Z' h' A' ∧ ∃ v16320 : Value, ∃ c16321 : List Value, .tuple #[v16320, V r.2] = v ∧ A' = [.gs v16320 c16321 (csz rows_Entry)] ∧ RCs (α := rows_Entry) Z' c16321 r.1 := by
  refine fn_intro (A := []) (Q := fun v Z' A' => ∃ v16320 : Value, ∃ c16321 : List Value, .tuple #[v16320, V r.2] = v ∧ A' = [.gs v16320 c16321 (csz rows_Entry)] ∧ RCs (α := rows_Entry) Z' c16321 r.1) Go.Proofs.Try.func14 rfl rfl (by kernel_rfl) hP ?_
  intro hs hS
  unfold rows_Entries at hm
  replace hS : St hs [] Z (0, 0) Z hs [] := hS
  refine sr r14_0 ?_
  refine r_blk rfl trivial (o_box1 rfl (RS.cell1 q14735)) hS ?_
  intro b16322 h16323 hS16324
  refine r_blk rfl trivial (o_box (cs := [V a2.Kind, V a2.From, V a2.To, V a2.Col]) rfl rfl) hS16324 ?_
  intro b16325 h16326 hS16327
  refine xe 2 [(6, .slice none 0 0), (5, Pt b16325 0), (4, Pt b16322 0)] ?_
  refine W_scopeJ (by kernel_rfl) ?_
  refine sq ?_
  refine sr r14_1 ?_
  refine xq 1 [(12, Pt b16325 0), (6, .slice none 0 0), (5, Pt b16325 0), (4, Pt b16322 0)] ?_
  refine r_step rfl trivial (o_ldb (v := V a2.Kind) hS16327 (i := 0) rfl rfl (by kernel_rfl)) ?_
  rcases ifs hm with ⟨hp16384, hm⟩ | ⟨hp16384, hm⟩
  refine r_step rfl trivial (o_cmp rfl rfl (c_neq_F hp16384)) ?_
  refine xq 2 [(16, Pt b16325 1), (15, .bool false), (6, .slice none 0 0), (5, Pt b16325 0), (4, Pt b16322 0)] ?_
  refine r_step rfl rfl (o_ldb (v := V a2.From) hS16327 (i := 0) rfl rfl (by kernel_rfl)) ?_
  rcases ifs hm with ⟨hp16385, hm⟩ | ⟨hp16385, hm⟩
  refine r_step rfl rfl (o_cmp rfl rfl (c_lss_T hp16385)) ?_
  refine xe 15 [(33, .bool true), (6, .slice none 0 0), (5, Pt b16325 0), (4, Pt b16322 0)] ?_
  refine cT 33 rfl ?_
  refine srF r14_2 hS16327 ?_
  intro bs16392 h16393 hlv16395 hS16394
  refine yq 1 [(34, Pt b16325 1), (6, .slice none 0 0)] ?_
  have lt16396 : b16325 < bs16392 := hlv16395.1 _ (List.mem_of_getElem? (i := 0) rfl) _ (by simp [Itm.ids])
  refine e_lookB rfl trivial rfl (by show b16325 < _; omega) (same1 (v := V a2.From) trivial) (o_ldb (v := V a2.From) hS16394 (i := 0) rfl rfl (by kernel_rfl)) trivial ?_
  refine ye 2 [(7, V a2.From), (6, .slice none 0 0)] ?_
  have hS16397 := hS16394.unres
  refine rt ?_
  refine jmpX_ret ?_
  refine ⟨rfl, ?_⟩
  have hS16398 := hS16397.nilGs (csz rows_Entry)
  obtain rfl := Option.some.inj hm
  refine ⟨_, _, _, ResL.tmp rfl (ResL.tmp rfl (ResL.nil)), (hS16398.takeN 1), ?_⟩
  exact ⟨(.slice none 0 0), [], rfl, rfl, (RCs.nil0 _)⟩
  refine r_step rfl rfl (o_cmp rfl rfl (c_lss_F hp16385)) ?_
  refine xq 3 [(21, Pt b16325 2), (20, .bool false), (6, .slice none 0 0), (5, Pt b16325 0), (4, Pt b16322 0)] ?_
  refine r_step rfl rfl (o_ldb (v := V a2.To) hS16327 (i := 0) rfl rfl (by kernel_rfl)) ?_
  refine r_step rfl rfl (o_ldb (v := v14736) hS16327 (i := 1) rfl rfl (by kernel_rfl)) ?_
  refine r_step rfl rfl (o_len rfl (RS.len q14735) ⟨_, Go.Proofs.Try.underlying27⟩) ?_
  rcases ifs hm with ⟨hp16400, hm⟩ | ⟨hp16400, hm⟩
  refine r_step rfl rfl (o_cmp rfl rfl (c_gtr_T hp16400)) ?_
  refine xe 8 [(33, .bool true), (6, .slice none 0 0), (5, Pt b16325 0), (4, Pt b16322 0)] ?_
  refine cT 33 rfl ?_
  refine srF r14_2 hS16327 ?_
  intro bs16407 h16408 hlv16410 hS16409
  refine yq 1 [(34, Pt b16325 1), (6, .slice none 0 0)] ?_
  have lt16411 : b16325 < bs16407 := hlv16410.1 _ (List.mem_of_getElem? (i := 0) rfl) _ (by simp [Itm.ids])
  refine e_lookB rfl trivial rfl (by show b16325 < _; omega) (same1 (v := V a2.From) trivial) (o_ldb (v := V a2.From) hS16409 (i := 0) rfl rfl (by kernel_rfl)) trivial ?_
  refine ye 2 [(7, V a2.From), (6, .slice none 0 0)] ?_
  have hS16412 := hS16409.unres
  refine rt ?_
  refine jmpX_ret ?_
  refine ⟨rfl, ?_⟩
  have hS16413 := hS16412.nilGs (csz rows_Entry)
  obtain rfl := Option.some.inj hm
  refine ⟨_, _, _, ResL.tmp rfl (ResL.tmp rfl (ResL.nil)), (hS16413.takeN 1), ?_⟩
  exact ⟨(.slice none 0 0), [], rfl, rfl, (RCs.nil0 _)⟩
  refine r_step rfl rfl (o_cmp rfl rfl (c_gtr_F hp16400)) ?_
  refine xq 3 [(28, Pt b16325 1), (27, .bool false), (6, .slice none 0 0), (5, Pt b16325 0), (4, Pt b16322 0)] ?_
  refine r_step rfl rfl (o_ldb (v := V a2.From) hS16327 (i := 0) rfl rfl (by kernel_rfl)) ?_
  refine xq 1 [(30, Pt b16325 2), (29, V a2.From), (27, .bool false), (6, .slice none 0 0), (5, Pt b16325 0), (4, Pt b16322 0)] ?_
  refine r_step rfl rfl (o_ldb (v := V a2.To) hS16327 (i := 0) rfl rfl (by kernel_rfl)) ?_
  rcases ifs hm with ⟨hp16415, hm⟩ | ⟨hp16415, hm⟩
  refine r_step rfl rfl (o_cmp rfl rfl (c_geq_T hp16415)) ?_
  refine xe 1 [(33, .bool true), (6, .slice none 0 0), (5, Pt b16325 0), (4, Pt b16322 0)] ?_
  refine cT 33 rfl ?_
  refine srF r14_2 hS16327 ?_
  intro bs16422 h16423 hlv16425 hS16424
  refine yq 1 [(34, Pt b16325 1), (6, .slice none 0 0)] ?_
  have lt16426 : b16325 < bs16422 := hlv16425.1 _ (List.mem_of_getElem? (i := 0) rfl) _ (by simp [Itm.ids])
  refine e_lookB rfl trivial rfl (by show b16325 < _; omega) (same1 (v := V a2.From) trivial) (o_ldb (v := V a2.From) hS16424 (i := 0) rfl rfl (by kernel_rfl)) trivial ?_
  refine ye 2 [(7, V a2.From), (6, .slice none 0 0)] ?_
  have hS16427 := hS16424.unres
  refine rt ?_
  refine jmpX_ret ?_
  refine ⟨rfl, ?_⟩
  have hS16428 := hS16427.nilGs (csz rows_Entry)
  obtain rfl := Option.some.inj hm
  refine ⟨_, _, _, ResL.tmp rfl (ResL.tmp rfl (ResL.nil)), (hS16428.takeN 1), ?_⟩
  exact ⟨(.slice none 0 0), [], rfl, rfl, (RCs.nil0 _)⟩
  refine r_step rfl rfl (o_cmp rfl rfl (c_geq_F hp16415)) ?_
  refine xe 1 [(33, .bool false), (6, .slice none 0 0), (5, Pt b16325 0), (4, Pt b16322 0)] ?_
  refine kF 33 rfl ?_
  refine sr r14_3 ?_
  refine xq 1 [(36, Pt b16325 1), (6, .slice none 0 0), (5, Pt b16325 0), (4, Pt b16322 0)] ?_
  refine r_step rfl trivial (o_ldb (v := V a2.From) hS16327 (i := 0) rfl rfl (by kernel_rfl)) ?_
  refine r_blk rfl trivial (o_alloc (cs := [V 0]) (by kernel_rfl)) hS16327 ?_
  intro b16430 h16431 hS16432
  refine r_ex1 rfl trivial (o_stb (vs := [V a2.From]) (cells' := [V a2.From]) (L' := [.blk b16430 [V a2.From], .blk b16325 (K33 a2), .blk b16322 [v14736]]) hS16432 (i := 0) rfl rfl rfl rfl (by kernel_rfl) rfl rfl rfl rfl) ?_
  intro h16433 hS16434
  refine xf [(8, Pt b16430 0), (6, .slice none 0 0), (5, Pt b16325 0), (4, Pt b16322 0)] ?_
  refine sr r14_4 ?_
  refine xe 2 [(9, .func (.func 29) #[] #[Pt b16430 0, Pt b16325 0, Pt b16322 0]), (8, Pt b16430 0), (6, .slice none 0 0), (5, Pt b16325 0), (4, Pt b16322 0)] ?_
  refine sr r14_5 ?_
  refine xq 1 [(39, .func (.func 29) #[] #[Pt b16430 0, Pt b16325 0, Pt b16322 0]), (9, .func (.func 29) #[] #[Pt b16430 0, Pt b16325 0, Pt b16322 0]), (8, Pt b16430 0), (6, .slice none 0 0), (5, Pt b16325 0), (4, Pt b16322 0)] ?_
  obtain ⟨r16435, hx16436, hm⟩ := obind hm
  have hF16442 : St _ _ _ _ _ _ ([.blk b16430 [V a2.From], .blk b16325 (K33 a2), .blk b16322 [v14736]] ++ []) := (((hS16434.front 2 rfl).front 2 rfl).front 2 rfl)
  obtain ⟨v16437, h16438, Z16443, A16445, hcl16439, hSc16440, rfl, rfl⟩ := rows_Entries_1_ok F hF16442.preL q14735 hx16436
  have hZ16444 := hSc16440.zle
  have hS16441 := hF16442.call hSc16440
  replace hS16441 : St _ _ _ _ _ _ [.blk b16430 [V r16435], .blk b16325 (K33 a2), .blk b16322 [v14736]] := hS16441
  refine r_step rfl trivial (o_call hcl16439 rfl rfl rfl) ?_
  refine xf [(9, .func (.func 29) #[] #[Pt b16430 0, Pt b16325 0, Pt b16322 0]), (8, Pt b16430 0), (6, .slice none 0 0), (5, Pt b16325 0), (4, Pt b16322 0)] ?_
  refine sr r14_6 ?_
  refine r_step rfl trivial (o_ldb (v := V r16435) hS16441 (i := 0) rfl rfl (by kernel_rfl)) ?_
  refine xe 1 [(7, V r16435), (9, .func (.func 29) #[] #[Pt b16430 0, Pt b16325 0, Pt b16322 0]), (8, Pt b16430 0), (6, .slice none 0 0), (5, Pt b16325 0), (4, Pt b16322 0)] ?_
  obtain ⟨o17511, ho17510, hm⟩ := obind hm
  have hS17512 := hS16441.nilGs (csz rows_Entry)
  refine W_labelLoop (i := 0) [4, 5, 6, 7, 8, 9] (fun n l h => ∃ Z17514 : Zn, ∃ x17517 : api_Row, ∃ x17518 : List rows_Entry, ∃ x17522 : Int, ∃ x17524 : Int, ∃ b17515 : Nat, ∃ b17516 : Nat, ∃ v17520 : Value, ∃ c17521 : List Value, ∃ b17523 : Nat, rows_Entries_l0 F a0 a1 a2 n x17517 x17518 x17522 x17524 = some o17511 ∧ RCs (α := rows_Entry) Z17514 c17521 x17518 ∧ l = [(4, Pt b17515 0), (5, Pt b17516 0), (6, v17520), (7, V x17522), (8, Pt b17523 0), (9, .func (.func 29) #[] #[Pt b17523 0, Pt b17516 0, Pt b17515 0])] ∧ St hs [] Z (0, 0) Z17514 h [.blk b17515 [v14736], .blk b17516 (K33 x17517), .gs v17520 c17521 (csz rows_Entry), .blk b17523 [V x17524]]) (m := F) (by kernel_rfl) (by kernel_rfl) ⟨_, a2, [], r16435, r16435, b16322, b16325, (.slice none 0 0), [], b16430, ho17510, (RCs.nil0 _), rfl, ((((hS17512.front 1 rfl).front 1 rfl).front 2 rfl).front 3 rfl)⟩ ?_
  rintro n17527 l h17525 ⟨Z17514, x17517, x17518, x17522, x17524, b17515, b17516, v17520, c17521, b17523, ho17510, q17519, rfl, hS17526⟩
  rcases n17527 with _ | n17527
  cases (show none = some o17511 from ho17510)
  rw [rows_Entries_l0] at ho17510
  refine sq ?_
  refine sq ?_
  obtain ⟨o17635, ho17634, ho17510⟩ := obind ho17510
  refine W_join [4, 5, 6, 7, 8, 9, 53] (fun l h => ∃ Z17645 : Zn, ∃ x17648 : api_Row, ∃ x17649 : List rows_Entry, ∃ x17654 : Int, ∃ x17655 : Bool, ∃ b17646 : Nat, ∃ b17647 : Nat, ∃ v17651 : Value, ∃ c17652 : List Value, ∃ b17653 : Nat, (x17648, x17649, x17654, x17655) = o17635 ∧ RCs (α := rows_Entry) Z17645 c17652 x17649 ∧ l = [(4, Pt b17646 0), (5, Pt b17647 0), (6, v17651), (7, V x17522), (8, Pt b17653 0), (9, .func (.func 29) #[] #[Pt b17653 0, Pt b17647 0, Pt b17646 0]), (53, .bool x17655)] ∧ St hs [] Z (0, 0) Z17645 h [.blk b17646 [v14736], .blk b17647 (K33 x17648), .gs v17651 c17652 (csz rows_Entry), .blk b17653 [V x17654]]) ?_ ?_
  rintro l h17656 ⟨Z17645, x17648, x17649, x17654, x17655, b17646, b17647, v17651, c17652, b17653, rfl, q17650, rfl, hS17657⟩
  try dsimp only at ho17510
  rcases ifs ho17510 with ⟨hp17715, ho17510⟩ | ⟨hp17715, ho17510⟩
  refine W_condT (x := .tmp 53) (by kernel_rfl) rfl hp17715 ?_
  refine srF r14_8 hS17657 ?_
  intro bs17716 h17717 hlv17719 hS17718
  refine yq 1 [(54, v17651), (4, Pt b17646 0), (5, Pt b17647 0), (6, v17651), (8, Pt b17653 0), (9, .func (.func 29) #[] #[Pt b17653 0, Pt b17647 0, Pt b17646 0])] ?_
  have lt17720 : b17646 < bs17716 := hlv17719.1 _ (List.mem_of_getElem? (i := 0) rfl) _ (by simp [Itm.ids])
  refine e_lookB rfl trivial rfl (by show b17646 < _; omega) (same1 (v := v14736) (RS.sim1 (q14735.mono hS17657.zle))) (o_ldb (v := v14736) hS17718 (i := 0) rfl rfl (by kernel_rfl)) trivial ?_
  have lt17721 : b17653 < bs17716 := hlv17719.1 _ (List.mem_of_getElem? (i := 3) rfl) _ (by simp [Itm.ids])
  refine e_lookB rfl trivial rfl (by show b17653 < _; omega) (same1 (v := V x17654) trivial) (o_ldb (v := V x17654) hS17718 (i := 3) rfl rfl (by kernel_rfl)) trivial ?_
  obtain ⟨hc17722, ho17510⟩ := chk ho17510
  refine e_val rfl trivial (o_index rfl rfl (by kernel_rfl : slTy _ _ = some (csz api_Token)) (RS.based (q14735.mono hS17657.zle) (by omega)) hc17722.1 hc17722.2) ?_
  refine yq 1 [(58, .pointer (some (elemA v14736 x17654 (csz api_Token) 1))), (54, v17651), (4, Pt b17646 0), (5, Pt b17647 0), (6, v17651), (8, Pt b17653 0), (9, .func (.func 29) #[] #[Pt b17653 0, Pt b17647 0, Pt b17646 0])] ?_
  obtain ⟨x17723, hx17724, ho17510⟩ := obind ho17510
  obtain ⟨cs17725, hc17726, he17727⟩ := RS.elz (q14735.mono hS17657.zle) (i := x17654) hx17724
  obtain rfl := rc_api_Token hc17726
  refine e_lookZ rfl rfl trivial (fun h2 hz => o_lde (w := V x17723.From) (he17727 h2 hz) rfl (by kernel_rfl)) (hS17718.zin0 (Zle.refl _)) (same1 (v := V x17723.From) trivial) trivial ?_
  have lt17729 : b17646 < bs17716 := hlv17719.1 _ (List.mem_of_getElem? (i := 0) rfl) _ (by simp [Itm.ids])
  refine e_lookB rfl trivial rfl (by show b17646 < _; omega) (same1 (v := v14736) (RS.sim1 (q14735.mono hS17657.zle))) (o_ldb (v := v14736) hS17718 (i := 0) rfl rfl (by kernel_rfl)) trivial ?_
  have lt17730 : b17647 < bs17716 := hlv17719.1 _ (List.mem_of_getElem? (i := 1) rfl) _ (by simp [Itm.ids])
  refine e_lookB rfl trivial rfl (by show b17647 < _; omega) (same_agg (cs := [V x17648.Kind, V x17648.From, V x17648.To, V x17648.Col]) (.cons trivial (.cons trivial (.cons trivial (.cons trivial .nil))))) (o_ldb (v := .agg #[V x17648.Kind, V x17648.From, V x17648.To, V x17648.Col]) hS17718 (i := 1) rfl rfl (by kernel_rfl)) trivial ?_
  obtain ⟨r17731, hx17732, ho17510⟩ := obind ho17510
  have hSl17738 := hS17718.lown
  obtain ⟨v17733, h17734, hcl17735, hSc17736, rfl⟩ := rows_begin_ok F hSl17738.inv (q14735.mono hS17657.zle) hx17732
  have hS17737 := St.call (A := []) (B := [.blk b17646 [v14736], .blk b17647 (K33 x17648), .gs v17651 c17652 (csz rows_Entry), .blk b17653 [V x17654]]) hSl17738 hSc17736
  replace hS17737 : St _ _ _ _ _ _ [.blk b17646 [v14736], .blk b17647 (K33 x17648), .gs v17651 c17652 (csz rows_Entry), .blk b17653 [V x17654]] := hS17737
  refine e_still rfl trivial hS17718 (o_call hcl17735 rfl rfl rfl) hS17737 (St.lowk hSc17736) ?_
  intro h17739 hS17740
  refine yq 1 [(63, V (w64 (x17723.From - r17731))), (54, v17651), (4, Pt b17646 0), (5, Pt b17647 0), (6, v17651), (8, Pt b17653 0), (9, .func (.func 29) #[] #[Pt b17653 0, Pt b17647 0, Pt b17646 0])] ?_
  have lt17741 : b17653 < bs17716 := hlv17719.1 _ (List.mem_of_getElem? (i := 3) rfl) _ (by simp [Itm.ids])
  refine e_lookB rfl trivial rfl (by show b17653 < _; omega) (same1 (v := V x17654) trivial) (o_ldb (v := V x17654) hS17740 (i := 3) rfl rfl (by kernel_rfl)) trivial ?_
  have lt17742 : b17653 < bs17716 := hlv17719.1 _ (List.mem_of_getElem? (i := 3) rfl) _ (by simp [Itm.ids])
  refine e_lookB rfl trivial rfl (by show b17653 < _; omega) (same1 (v := V x17654) trivial) (o_ldb (v := V x17654) hS17740 (i := 3) rfl rfl (by kernel_rfl)) trivial ?_
  refine yq 2 [(67, .agg #[.bool true, V (w64 (x17723.From - r17731)), V x17654, V (w64 (x17654 + 1))]), (54, v17651), (4, Pt b17646 0), (5, Pt b17647 0), (6, v17651), (8, Pt b17653 0), (9, .func (.func 29) #[] #[Pt b17653 0, Pt b17647 0, Pt b17646 0])] ?_
  have q17746 : RCs (α := rows_Entry) Z17645 [.bool true, V (w64 (x17723.From - r17731)), V x17654, V (w64 (x17654 + 1))] [(⟨true, w64 (x17723.From - r17731), x17654, w64 (x17654 + 1)⟩ : rows_Entry)] := RCs.cons (cs := [.bool true, V (w64 (x17723.From - r17731)), V x17654, V (w64 (x17654 + 1))]) rfl (RCs.nil0 _)
  refine e_row rfl trivial (o_bs (cells := [.bool true, V (w64 (x17723.From - r17731)), V x17654, V (w64 (x17654 + 1))]) (s := 4) (by kernel_rfl)) (by kernel_rfl) hS17740 (by omega) (Nat.add_lt_add_left (by decide) _) ?_
  intro v17743 h17744 b17747 eb17748 ec17749 hS17745
  replace hS17745 : St _ _ _ _ _ _ [.gs v17743 [.bool true, V (w64 (x17723.From - r17731)), V x17654, V (w64 (x17654 + 1))] (csz rows_Entry), .blk b17646 [v14736], .blk b17647 (K33 x17648), .gs v17651 c17652 (csz rows_Entry), .blk b17653 [V x17654]] := hS17745
  obtain ⟨hc17756, ho17510⟩ := chk ho17510
  have hF17757 : St _ _ _ _ _ _ ([.gs v17651 c17652 (csz rows_Entry)] ++ [.gs v17743 [.bool true, V (w64 (x17723.From - r17731)), V x17654, V (w64 (x17654 + 1))] (csz rows_Entry), .blk b17646 [v14736], .blk b17647 (K33 x17648), .blk b17653 [V x17654]]) := (hS17745.front 3 rfl)
  refine e_mk3 rfl trivial hF17757 (o_app (ys := [(⟨true, w64 (x17723.From - r17731), x17654, w64 (x17654 + 1)⟩ : rows_Entry)]) (by_ := 32) hF17757.sub (i := 0) rfl q17650 ((hS17745.lown).gnews (j := 0) rfl q17746) rfl rfl (by kernel_rfl) (by omega) (by omega)) (Zle.refl _) (.keep (hF17757.neB 3 rfl blk_mem) (.keep (hF17757.neB 3 rfl blk_mem) (.keep (hF17757.neB 2 rfl blk_mem) (.keep (hF17757.neB 1 rfl blk_mem) (.keep trivial (.keep (hF17757.neB 3 rfl blk_mem) (.keep (hF17757.neB 1 rfl blk_mem) .nil))))))) ?_
  rintro v17751 c17752 h17753 ⟨q17755, hS17754⟩
  replace hS17754 : St _ _ _ _ _ _ [.gs v17751 c17752 (csz rows_Entry), .gs v17743 [.bool true, V (w64 (x17723.From - r17731)), V x17654, V (w64 (x17654 + 1))] (csz rows_Entry), .blk b17646 [v14736], .blk b17647 (K33 x17648), .blk b17653 [V x17654]] := hS17754
  refine ye 1 [(6, v17751), (4, Pt b17646 0), (5, Pt b17647 0), (8, Pt b17653 0), (9, .func (.func 29) #[] #[Pt b17653 0, Pt b17647 0, Pt b17646 0])] ?_
  have hS17758 := hS17754.unres
  refine sr r14_9 ?_
  refine r_step rfl trivial (o_ldb (v := V x17654) hS17758 (i := 4) rfl rfl (by kernel_rfl)) ?_
  refine xq 1 [(71, V (w64 (x17654 + 1))), (6, v17751), (4, Pt b17646 0), (5, Pt b17647 0), (8, Pt b17653 0), (9, .func (.func 29) #[] #[Pt b17653 0, Pt b17647 0, Pt b17646 0])] ?_
  refine r_ex1 rfl trivial (o_stb (vs := [V (w64 (x17654 + 1))]) (cells' := [V (w64 (x17654 + 1))]) (L' := [.gs v17751 c17752 (csz rows_Entry), .gs v17743 [.bool true, V (w64 (x17723.From - r17731)), V x17654, V (w64 (x17654 + 1))] (csz rows_Entry), .blk b17646 [v14736], .blk b17647 (K33 x17648), .blk b17653 [V (w64 (x17654 + 1))]]) hS17758 (i := 4) rfl rfl rfl rfl (by kernel_rfl) rfl rfl rfl rfl) ?_
  intro h17759 hS17760
  refine xf [(6, v17751), (4, Pt b17646 0), (5, Pt b17647 0), (8, Pt b17653 0), (9, .func (.func 29) #[] #[Pt b17653 0, Pt b17647 0, Pt b17646 0])] ?_
  refine sr r14_10 ?_
  refine r_step rfl trivial (o_ldb (v := V (w64 (x17654 + 1))) hS17760 (i := 4) rfl rfl (by kernel_rfl)) ?_
  refine xe 1 [(7, V (w64 (x17654 + 1))), (6, v17751), (4, Pt b17646 0), (5, Pt b17647 0), (8, Pt b17653 0), (9, .func (.func 29) #[] #[Pt b17653 0, Pt b17647 0, Pt b17646 0])] ?_
  refine sr r14_11 ?_
  refine xq 1 [(73, .func (.func 29) #[] #[Pt b17653 0, Pt b17647 0, Pt b17646 0]), (7, V (w64 (x17654 + 1))), (6, v17751), (4, Pt b17646 0), (5, Pt b17647 0), (8, Pt b17653 0), (9, .func (.func 29) #[] #[Pt b17653 0, Pt b17647 0, Pt b17646 0])] ?_
  obtain ⟨r17761, hx17762, ho17510⟩ := obind ho17510
  have hF17768 : St _ _ _ _ _ _ ([.blk b17653 [V (w64 (x17654 + 1))], .blk b17647 (K33 x17648), .blk b17646 [v14736]] ++ [.gs v17751 c17752 (csz rows_Entry), .gs v17743 [.bool true, V (w64 (x17723.From - r17731)), V x17654, V (w64 (x17654 + 1))] (csz rows_Entry)]) := (((hS17760.front 2 rfl).front 3 rfl).front 4 rfl)
  obtain ⟨v17763, h17764, Z17769, A17771, hcl17765, hSc17766, rfl, rfl⟩ := rows_Entries_1_ok F hF17768.preL (q14735.mono hS17657.zle) hx17762
  have hZ17770 := hSc17766.zle
  have hS17767 := hF17768.call hSc17766
  replace hS17767 : St _ _ _ _ _ _ [.blk b17653 [V r17761], .blk b17647 (K33 x17648), .blk b17646 [v14736], .gs v17751 c17752 (csz rows_Entry), .gs v17743 [.bool true, V (w64 (x17723.From - r17731)), V x17654, V (w64 (x17654 + 1))] (csz rows_Entry)] := hS17767
  refine r_step rfl trivial (o_call hcl17765 rfl rfl rfl) ?_
  refine xf [(7, V (w64 (x17654 + 1))), (6, v17751), (4, Pt b17646 0), (5, Pt b17647 0), (8, Pt b17653 0), (9, .func (.func 29) #[] #[Pt b17653 0, Pt b17647 0, Pt b17646 0])] ?_
  refine W_goto (i := 0) (by kernel_rfl) ?_
  refine scX_hit ?_
  exact ⟨n17527, Nat.lt_succ_self _, ⟨_, x17648, x17649 ++ [(⟨true, w64 (x17723.From - r17731), x17654, w64 (x17654 + 1)⟩ : rows_Entry)], w64 (x17654 + 1), r17761, b17646, b17647, v17751, c17752, b17653, ho17510, (q17755.mono hZ17770), rfl, (((((hS17767.front 0 rfl).front 3 rfl).front 2 rfl).front 3 rfl).takeN 4)⟩⟩
  refine W_condF (x := .tmp 53) (by kernel_rfl) rfl (Bool.eq_false_iff.2 hp17715) ?_
  refine sk ?_
  refine sr r14_12 ?_
  refine r_step rfl trivial (o_ldb (v := V x17654) hS17657 (i := 3) rfl rfl (by kernel_rfl)) ?_
  refine xe 2 [(11, .bool false), (10, V x17654), (4, Pt b17646 0), (5, Pt b17647 0), (6, v17651), (7, V x17522), (8, Pt b17653 0), (9, .func (.func 29) #[] #[Pt b17653 0, Pt b17647 0, Pt b17646 0])] ?_
  refine sq ?_
  obtain ⟨o17960, ho17959, ho17510⟩ := obind ho17510
  refine W_join [4, 5, 6, 7, 8, 10] (fun l h => ∃ Z18147 : Zn, ∃ x18150 : api_Row, ∃ x18151 : List rows_Entry, ∃ x18155 : Int, ∃ x18157 : Int, ∃ x18158 : Int, ∃ b18148 : Nat, ∃ b18149 : Nat, ∃ v18153 : Value, ∃ c18154 : List Value, ∃ b18156 : Nat, (x18150, x18151, x18155, x18157, x18158) = o17960 ∧ RCs (α := rows_Entry) Z18147 c18154 x18151 ∧ l = [(4, Pt b18148 0), (5, Pt b18149 0), (6, v18153), (7, V x18155), (8, Pt b18156 0), (10, V x18158)] ∧ St hs [] Z (0, 0) Z18147 h [.blk b18148 [v14736], .blk b18149 (K33 x18150), .gs v18153 c18154 (csz rows_Entry), .blk b18156 [V x18157]]) ?_ ?_
  rintro l h18159 ⟨Z18147, x18150, x18151, x18155, x18157, x18158, b18148, b18149, v18153, c18154, b18156, rfl, q18152, rfl, hS18160⟩
  try dsimp only at ho17510
  refine sq ?_
  refine sq ?_
  obtain ⟨o18180, ho18179, ho17510⟩ := obind ho17510
  refine W_join [4, 5, 6, 7, 8, 10, 122] (fun l h => ∃ Z18190 : Zn, ∃ x18193 : api_Row, ∃ x18194 : List rows_Entry, ∃ x18199 : Int, ∃ x18200 : Bool, ∃ b18191 : Nat, ∃ b18192 : Nat, ∃ v18196 : Value, ∃ c18197 : List Value, ∃ b18198 : Nat, (x18193, x18194, x18199, x18200) = o18180 ∧ RCs (α := rows_Entry) Z18190 c18197 x18194 ∧ l = [(4, Pt b18191 0), (5, Pt b18192 0), (6, v18196), (7, V x18155), (8, Pt b18198 0), (10, V x18158), (122, .bool x18200)] ∧ St hs [] Z (0, 0) Z18190 h [.blk b18191 [v14736], .blk b18192 (K33 x18193), .gs v18196 c18197 (csz rows_Entry), .blk b18198 [V x18199]]) ?_ ?_
  rintro l h18201 ⟨Z18190, x18193, x18194, x18199, x18200, b18191, b18192, v18196, c18197, b18198, rfl, q18195, rfl, hS18202⟩
  try dsimp only at ho17510
  obtain ⟨o18246, ho18245, ho17510⟩ := obind ho17510
  refine W_join [6, 7] (fun l h => ∃ Z18289 : Zn, ∃ x18290 : List rows_Entry, ∃ x18294 : Int, ∃ v18292 : Value, ∃ c18293 : List Value, (x18290, x18294) = o18246 ∧ RCs (α := rows_Entry) Z18289 c18293 x18290 ∧ l = [(6, v18292), (7, V x18294)] ∧ St hs [] Z (0, 0) Z18289 h [.gs v18292 c18293 (csz rows_Entry)]) ?_ ?_
  rintro l h18295 ⟨Z18289, x18290, x18294, v18292, c18293, rfl, q18291, rfl, hS18296⟩
  try dsimp only at ho17510
  refine sr r14_20 ?_
  refine xq 1 [(141, v18292), (6, v18292), (7, V x18294)] ?_
  obtain ⟨Z18297, hZ18298, q18299, hS18300⟩ := (hS18296.front 0 rfl).freeze q18291
  replace hS18300 : St _ _ _ _ _ _ [] := hS18300
  obtain ⟨r18301, hx18302, ho17510⟩ := obind ho17510
  have hSr18308 : St _ _ _ _ _ _ ([] ++ []) := hS18300
  obtain ⟨v18303, h18304, Z18309, A18311, hcl18305, hSc18306, v18313, c18314, rfl, rfl, q18312⟩ := slices_Clone_rows_Entry_ok F hSr18308.preL q18299 hx18302
  have hS18307 := hSr18308.call hSc18306
  have hZ18310 := hSc18306.zle
  replace hS18307 : St _ _ _ _ _ _ [.gs v18313 c18314 (csz rows_Entry)] := hS18307
  refine r_step rfl trivial (o_call hcl18305 rfl rfl rfl) ?_
  refine xe 3 [(7, V x18294), (6, v18313)] ?_
  refine rt ?_
  refine scX_ret ?_
  refine ⟨rfl, ?_⟩
  obtain rfl := Option.some.inj ho17510
  obtain rfl := Option.some.inj hm
  refine ⟨_, _, _, ResL.tmp rfl (ResL.tmp rfl (ResL.nil)), hS18307, ?_⟩
  exact ⟨v18313, c18314, rfl, rfl, q18312⟩
  rcases ifs ho18245 with ⟨hp18247, ho18245⟩ | ⟨hp18247, ho18245⟩
  refine W_condT (x := .tmp 122) (by kernel_rfl) rfl hp18247 ?_
  refine srF r14_18 hS18202 ?_
  intro bs18248 h18249 hlv18251 hS18250
  refine yq 1 [(123, v18196), (4, Pt b18191 0), (5, Pt b18192 0), (6, v18196), (8, Pt b18198 0), (10, V x18158)] ?_
  have lt18252 : b18191 < bs18248 := hlv18251.1 _ (List.mem_of_getElem? (i := 0) rfl) _ (by simp [Itm.ids])
  refine e_lookB rfl trivial rfl (by show b18191 < _; omega) (same1 (v := v14736) (RS.sim1 (q14735.mono hS18202.zle))) (o_ldb (v := v14736) hS18250 (i := 0) rfl rfl (by kernel_rfl)) trivial ?_
  refine yq 1 [(125, V x18158), (124, v14736), (123, v18196), (4, Pt b18191 0), (5, Pt b18192 0), (6, v18196), (8, Pt b18198 0), (10, V x18158)] ?_
  obtain ⟨hc18253, ho18245⟩ := chk ho18245
  refine e_val rfl trivial (o_index rfl rfl (by kernel_rfl : slTy _ _ = some (csz api_Token)) (RS.based (q14735.mono hS18202.zle) (by omega)) hc18253.1 hc18253.2) ?_
  refine yq 1 [(127, .pointer (some (elemA v14736 x18158 (csz api_Token) 1))), (123, v18196), (4, Pt b18191 0), (5, Pt b18192 0), (6, v18196), (8, Pt b18198 0), (10, V x18158)] ?_
  obtain ⟨x18254, hx18255, ho18245⟩ := obind ho18245
  obtain ⟨cs18256, hc18257, he18258⟩ := RS.elz (q14735.mono hS18202.zle) (i := x18158) hx18255
  obtain rfl := rc_api_Token hc18257
  refine e_lookZ rfl rfl trivial (fun h2 hz => o_lde (w := V x18254.From) (he18258 h2 hz) rfl (by kernel_rfl)) (hS18250.zin0 (Zle.refl _)) (same1 (v := V x18254.From) trivial) trivial ?_
  have lt18260 : b18191 < bs18248 := hlv18251.1 _ (List.mem_of_getElem? (i := 0) rfl) _ (by simp [Itm.ids])
  refine e_lookB rfl trivial rfl (by show b18191 < _; omega) (same1 (v := v14736) (RS.sim1 (q14735.mono hS18202.zle))) (o_ldb (v := v14736) hS18250 (i := 0) rfl rfl (by kernel_rfl)) trivial ?_
  have lt18261 : b18192 < bs18248 := hlv18251.1 _ (List.mem_of_getElem? (i := 1) rfl) _ (by simp [Itm.ids])
  refine e_lookB rfl trivial rfl (by show b18192 < _; omega) (same_agg (cs := [V x18193.Kind, V x18193.From, V x18193.To, V x18193.Col]) (.cons trivial (.cons trivial (.cons trivial (.cons trivial .nil))))) (o_ldb (v := .agg #[V x18193.Kind, V x18193.From, V x18193.To, V x18193.Col]) hS18250 (i := 1) rfl rfl (by kernel_rfl)) trivial ?_
  obtain ⟨r18262, hx18263, ho18245⟩ := obind ho18245
  have hSl18269 := hS18250.lown
  obtain ⟨v18264, h18265, hcl18266, hSc18267, rfl⟩ := rows_begin_ok F hSl18269.inv (q14735.mono hS18202.zle) hx18263
  have hS18268 := St.call (A := []) (B := [.blk b18191 [v14736], .blk b18192 (K33 x18193), .gs v18196 c18197 (csz rows_Entry), .blk b18198 [V x18199]]) hSl18269 hSc18267
  replace hS18268 : St _ _ _ _ _ _ [.blk b18191 [v14736], .blk b18192 (K33 x18193), .gs v18196 c18197 (csz rows_Entry), .blk b18198 [V x18199]] := hS18268
  refine e_still rfl trivial hS18250 (o_call hcl18266 rfl rfl rfl) hS18268 (St.lowk hSc18267) ?_
  intro h18270 hS18271
  refine yq 2 [(133, V x18158), (132, V (w64 (x18254.From - r18262))), (123, v18196), (6, v18196), (8, Pt b18198 0)] ?_
  have lt18272 : b18198 < bs18248 := hlv18251.1 _ (List.mem_of_getElem? (i := 3) rfl) _ (by simp [Itm.ids])
  refine e_lookB rfl trivial rfl (by show b18198 < _; omega) (same1 (v := V x18199) trivial) (o_ldb (v := V x18199) hS18271 (i := 3) rfl rfl (by kernel_rfl)) trivial ?_
  refine yq 2 [(136, .agg #[.bool false, V (w64 (x18254.From - r18262)), V x18158, V (w64 (x18199 + 1))]), (123, v18196), (6, v18196), (8, Pt b18198 0)] ?_
  have q18276 : RCs (α := rows_Entry) Z18190 [.bool false, V (w64 (x18254.From - r18262)), V x18158, V (w64 (x18199 + 1))] [(⟨false, w64 (x18254.From - r18262), x18158, w64 (x18199 + 1)⟩ : rows_Entry)] := RCs.cons (cs := [.bool false, V (w64 (x18254.From - r18262)), V x18158, V (w64 (x18199 + 1))]) rfl (RCs.nil0 _)
  refine e_row rfl trivial (o_bs (cells := [.bool false, V (w64 (x18254.From - r18262)), V x18158, V (w64 (x18199 + 1))]) (s := 4) (by kernel_rfl)) (by kernel_rfl) hS18271 (by omega) (Nat.add_lt_add_left (by decide) _) ?_
  intro v18273 h18274 b18277 eb18278 ec18279 hS18275
  replace hS18275 : St _ _ _ _ _ _ [.gs v18273 [.bool false, V (w64 (x18254.From - r18262)), V x18158, V (w64 (x18199 + 1))] (csz rows_Entry), .blk b18191 [v14736], .blk b18192 (K33 x18193), .gs v18196 c18197 (csz rows_Entry), .blk b18198 [V x18199]] := hS18275
  obtain ⟨hc18286, ho18245⟩ := chk ho18245
  have hF18287 : St _ _ _ _ _ _ ([.gs v18196 c18197 (csz rows_Entry)] ++ [.gs v18273 [.bool false, V (w64 (x18254.From - r18262)), V x18158, V (w64 (x18199 + 1))] (csz rows_Entry), .blk b18191 [v14736], .blk b18192 (K33 x18193), .blk b18198 [V x18199]]) := (hS18275.front 3 rfl)
  refine e_mk3 rfl trivial hF18287 (o_app (ys := [(⟨false, w64 (x18254.From - r18262), x18158, w64 (x18199 + 1)⟩ : rows_Entry)]) (by_ := 32) hF18287.sub (i := 0) rfl q18195 ((hS18275.lown).gnews (j := 0) rfl q18276) rfl rfl (by kernel_rfl) (by omega) (by omega)) (Zle.refl _) (.keep (hF18287.neB 3 rfl blk_mem) (.keep (hF18287.neB 2 rfl blk_mem) (.keep (hF18287.neB 1 rfl blk_mem) (.keep trivial (.keep (hF18287.neB 1 rfl blk_mem) .nil))))) ?_
  rintro v18281 c18282 h18283 ⟨q18285, hS18284⟩
  replace hS18284 : St _ _ _ _ _ _ [.gs v18281 c18282 (csz rows_Entry), .gs v18273 [.bool false, V (w64 (x18254.From - r18262)), V x18158, V (w64 (x18199 + 1))] (csz rows_Entry), .blk b18191 [v14736], .blk b18192 (K33 x18193), .blk b18198 [V x18199]] := hS18284
  refine ye 1 [(6, v18281), (8, Pt b18198 0)] ?_
  have hS18288 := hS18284.unres
  refine rg r14_19 ?_
  refine r_step rfl trivial (o_ldb (v := V x18199) hS18288 (i := 4) rfl rfl (by kernel_rfl)) ?_
  refine xe 2 [(7, V (w64 (x18199 + 1))), (6, v18281)] ?_
  obtain rfl := Option.some.inj ho18245
  exact ⟨_, x18194 ++ [(⟨false, w64 (x18254.From - r18262), x18158, w64 (x18199 + 1)⟩ : rows_Entry)], w64 (x18199 + 1), v18281, c18282, rfl, q18285, rfl, (hS18288.takeN 1)⟩
  refine W_condF (x := .tmp 122) (by kernel_rfl) rfl (Bool.eq_false_iff.2 hp18247) ?_
  refine sk ?_
  obtain rfl := Option.some.inj ho18245
  exact ⟨_, x18194, x18155, v18196, c18197, rfl, q18195, rfl, ((hS18202.front 2 rfl).takeN 1)⟩
  refine rg r14_17 ?_
  refine r_step rfl trivial (o_ldb (v := V x18157) hS18160 (i := 3) rfl rfl (by kernel_rfl)) ?_
  refine xq 1 [(112, Pt b18149 2), (111, V x18157), (4, Pt b18148 0), (5, Pt b18149 0), (6, v18153), (7, V x18155), (8, Pt b18156 0), (10, V x18158)] ?_
  refine r_step rfl trivial (o_ldb (v := V x18150.To) hS18160 (i := 1) rfl rfl (by kernel_rfl)) ?_
  rcases ifs ho18179 with ⟨hp18181, ho18179⟩ | ⟨hp18181, ho18179⟩
  refine r_step rfl trivial (o_cmp rfl rfl (c_lss_T hp18181)) ?_
  refine xq 1 [(115, .bool true), (4, Pt b18148 0), (5, Pt b18149 0), (6, v18153), (7, V x18155), (8, Pt b18156 0), (10, V x18158)] ?_
  refine r_step rfl rfl (o_ldb (v := v14736) hS18160 (i := 0) rfl rfl (by kernel_rfl)) ?_
  refine r_step rfl rfl (o_ldb (v := V x18157) hS18160 (i := 3) rfl rfl (by kernel_rfl)) ?_
  obtain ⟨hc18182, ho18179⟩ := chk ho18179
  refine r_step rfl rfl (o_index rfl rfl (by kernel_rfl : slTy _ _ = some (csz api_Token)) (RS.based (q14735.mono hS18160.zle) (by omega)) hc18182.1 hc18182.2) ?_
  refine xq 1 [(119, .pointer (some (elemA v14736 x18157 (csz api_Token) 0))), (115, .bool true), (4, Pt b18148 0), (5, Pt b18149 0), (6, v18153), (7, V x18155), (8, Pt b18156 0), (10, V x18158)] ?_
  obtain ⟨x18183, hx18184, ho18179⟩ := obind ho18179
  obtain ⟨cs18185, hc18186, he18187⟩ := RS.elz (q14735.mono hS18160.zle) (i := x18157) hx18184
  obtain rfl := rc_api_Token hc18186
  refine r_step rfl rfl (o_lde (w := V x18183.Kind) (he18187 _ (hS18160.zin0 (Zle.refl _))) rfl (by kernel_rfl)) ?_
  rcases ifs ho18179 with ⟨hp18189, ho18179⟩ | ⟨hp18189, ho18179⟩
  refine r_step rfl rfl (o_cmp rfl rfl (c_eql_T hp18189)) ?_
  refine xe 1 [(122, .bool true), (4, Pt b18148 0), (5, Pt b18149 0), (6, v18153), (7, V x18155), (8, Pt b18156 0), (10, V x18158)] ?_
  obtain rfl := Option.some.inj ho18179
  exact ⟨_, x18150, x18151, x18157, true, b18148, b18149, v18153, c18154, b18156, rfl, q18152, rfl, hS18160⟩
  refine r_step rfl rfl (o_cmp rfl rfl (c_eql_F hp18189)) ?_
  refine xe 1 [(122, .bool false), (4, Pt b18148 0), (5, Pt b18149 0), (6, v18153), (7, V x18155), (8, Pt b18156 0), (10, V x18158)] ?_
  obtain rfl := Option.some.inj ho18179
  exact ⟨_, x18150, x18151, x18157, false, b18148, b18149, v18153, c18154, b18156, rfl, q18152, rfl, hS18160⟩
  refine r_step rfl trivial (o_cmp rfl rfl (c_lss_F hp18181)) ?_
  refine xe 8 [(122, .bool false), (4, Pt b18148 0), (5, Pt b18149 0), (6, v18153), (7, V x18155), (8, Pt b18156 0), (10, V x18158)] ?_
  obtain rfl := Option.some.inj ho18179
  exact ⟨_, x18150, x18151, x18157, false, b18148, b18149, v18153, c18154, b18156, rfl, q18152, rfl, hS18160⟩
  refine bk 0 ?_
  refine lp [4, 5, 6, 7, 8, 9, 10, 11] (fun n l h => ∃ Z17961 : Zn, ∃ x17964 : api_Row, ∃ x17965 : List rows_Entry, ∃ x17969 : Int, ∃ x17971 : Int, ∃ x17972 : Int, ∃ x17973 : Bool, ∃ b17962 : Nat, ∃ b17963 : Nat, ∃ v17967 : Value, ∃ c17968 : List Value, ∃ b17970 : Nat, rows_Entries_l1 F a0 a1 a2 n x17964 x17965 x17969 x17971 x17972 x17973 = some o17960 ∧ RCs (α := rows_Entry) Z17961 c17968 x17965 ∧ l = [(4, Pt b17962 0), (5, Pt b17963 0), (6, v17967), (7, V x17969), (8, Pt b17970 0), (9, .func (.func 29) #[] #[Pt b17970 0, Pt b17963 0, Pt b17962 0]), (10, V x17972), (11, .bool x17973)] ∧ St hs [] Z (0, 0) Z17961 h [.blk b17962 [v14736], .blk b17963 (K33 x17964), .gs v17967 c17968 (csz rows_Entry), .blk b17970 [V x17971]]) F ⟨_, x17648, x17649, x17522, x17654, x17654, false, b17646, b17647, v17651, c17652, b17653, ho17959, q17650, rfl, hS17657⟩ ?_
  rintro n17976 l h17974 ⟨Z17961, x17964, x17965, x17969, x17971, x17972, x17973, b17962, b17963, v17967, c17968, b17970, ho17959, q17966, rfl, hS17975⟩
  rcases n17976 with _ | n17976
  cases (show none = some o17960 from ho17959)
  rw [rows_Entries_l1] at ho17959
  refine sq ?_
  obtain ⟨o18027, ho18026, ho17959⟩ := obind ho17959
  refine W_join [4, 5, 6, 7, 8, 9, 10] (fun l h => ∃ Z18077 : Zn, ∃ x18080 : api_Row, ∃ x18081 : List rows_Entry, ∃ x18086 : Int, ∃ b18078 : Nat, ∃ b18079 : Nat, ∃ v18083 : Value, ∃ c18084 : List Value, ∃ b18085 : Nat, .inl (x18080, x18081, x18086) = o18027 ∧ RCs (α := rows_Entry) Z18077 c18084 x18081 ∧ l = [(4, Pt b18078 0), (5, Pt b18079 0), (6, v18083), (7, V x17969), (8, Pt b18085 0), (9, .func (.func 29) #[] #[Pt b18085 0, Pt b18079 0, Pt b18078 0]), (10, V x17972)] ∧ St hs [] Z (0, 0) Z18077 h [.blk b18078 [v14736], .blk b18079 (K33 x18080), .gs v18083 c18084 (csz rows_Entry), .blk b18085 [V x18086]]) ?_ ?_
  rintro l h18087 ⟨Z18077, x18080, x18081, x18086, b18078, b18079, v18083, c18084, b18085, rfl, q18082, rfl, hS18088⟩
  try dsimp only at ho17959
  refine bk 1 ?_
  refine sr r14_14 ?_
  refine r_step rfl trivial (o_ldb (v := v14736) hS18088 (i := 0) rfl rfl (by kernel_rfl)) ?_
  refine r_step rfl trivial (o_ldb (v := V x18086) hS18088 (i := 3) rfl rfl (by kernel_rfl)) ?_
  obtain ⟨hc18089, ho17959⟩ := chk ho17959
  refine r_step rfl trivial (o_index rfl rfl (by kernel_rfl : slTy _ _ = some (csz api_Token)) (RS.based (q14735.mono hS18088.zle) (by omega)) hc18089.1 hc18089.2) ?_
  obtain ⟨x18090, hx18091, ho17959⟩ := obind ho17959
  obtain ⟨cs18092, hc18093, he18094⟩ := RS.elz (q14735.mono hS18088.zle) (i := x18086) hx18091
  obtain rfl := rc_api_Token hc18093
  refine r_step rfl trivial (o_lde (w := .agg #[V x18090.Kind, V x18090.From, V x18090.To]) (he18094 _ (hS18088.zin0 (Zle.refl _))) rfl (by kernel_rfl)) ?_
  obtain ⟨r18096, hx18097, ho17959⟩ := obind ho17959
  obtain ⟨v18098, h18099, hcl18100, hSc18101, rfl⟩ := rows_name_ok F hS18088.inv  hx18097
  have hS18102 := St.call (A := []) (B := [.blk b18078 [v14736], .blk b18079 (K33 x18080), .gs v18083 c18084 (csz rows_Entry), .blk b18085 [V x18086]]) hS18088 hSc18101
  replace hS18102 : St _ _ _ _ _ _ [.blk b18078 [v14736], .blk b18079 (K33 x18080), .gs v18083 c18084 (csz rows_Entry), .blk b18085 [V x18086]] := hS18102
  refine r_step rfl trivial (o_call hcl18100 rfl rfl rfl) ?_
  refine xe 1 [(11, .bool r18096), (4, Pt b18078 0), (5, Pt b18079 0), (6, v18083), (7, V x17969), (8, Pt b18085 0), (9, .func (.func 29) #[] #[Pt b18085 0, Pt b18079 0, Pt b18078 0]), (10, V x17972)] ?_
  refine sr r14_15 ?_
  refine r_step rfl trivial (o_ldb (v := V x18086) hS18102 (i := 3) rfl rfl (by kernel_rfl)) ?_
  refine xq 1 [(108, V (w64 (x18086 + 1))), (11, .bool r18096), (4, Pt b18078 0), (5, Pt b18079 0), (6, v18083), (7, V x17969), (8, Pt b18085 0), (9, .func (.func 29) #[] #[Pt b18085 0, Pt b18079 0, Pt b18078 0]), (10, V x17972)] ?_
  refine r_ex1 rfl trivial (o_stb (vs := [V (w64 (x18086 + 1))]) (cells' := [V (w64 (x18086 + 1))]) (L' := [.blk b18078 [v14736], .blk b18079 (K33 x18080), .gs v18083 c18084 (csz rows_Entry), .blk b18085 [V (w64 (x18086 + 1))]]) hS18102 (i := 3) rfl rfl rfl rfl (by kernel_rfl) rfl rfl rfl rfl) ?_
  intro h18103 hS18104
  refine xf [(11, .bool r18096), (4, Pt b18078 0), (5, Pt b18079 0), (6, v18083), (7, V x17969), (8, Pt b18085 0), (9, .func (.func 29) #[] #[Pt b18085 0, Pt b18079 0, Pt b18078 0]), (10, V x17972)] ?_
  refine rg r14_16 ?_
  refine xq 1 [(109, .func (.func 29) #[] #[Pt b18085 0, Pt b18079 0, Pt b18078 0]), (11, .bool r18096), (4, Pt b18078 0), (5, Pt b18079 0), (6, v18083), (7, V x17969), (8, Pt b18085 0), (9, .func (.func 29) #[] #[Pt b18085 0, Pt b18079 0, Pt b18078 0]), (10, V x17972)] ?_
  obtain ⟨r18105, hx18106, ho17959⟩ := obind ho17959
  have hF18112 : St _ _ _ _ _ _ ([.blk b18085 [V (w64 (x18086 + 1))], .blk b18079 (K33 x18080), .blk b18078 [v14736]] ++ [.gs v18083 c18084 (csz rows_Entry)]) := (((hS18104.front 0 rfl).front 1 rfl).front 3 rfl)
  obtain ⟨v18107, h18108, Z18113, A18115, hcl18109, hSc18110, rfl, rfl⟩ := rows_Entries_1_ok F hF18112.preL (q14735.mono hS18088.zle) hx18106
  have hZ18114 := hSc18110.zle
  have hS18111 := hF18112.call hSc18110
  replace hS18111 : St _ _ _ _ _ _ [.blk b18085 [V r18105], .blk b18079 (K33 x18080), .blk b18078 [v14736], .gs v18083 c18084 (csz rows_Entry)] := hS18111
  refine r_step rfl trivial (o_call hcl18109 rfl rfl rfl) ?_
  refine xf [(11, .bool r18096), (4, Pt b18078 0), (5, Pt b18079 0), (6, v18083), (7, V x17969), (8, Pt b18085 0), (9, .func (.func 29) #[] #[Pt b18085 0, Pt b18079 0, Pt b18078 0]), (10, V x17972)] ?_
  exact ⟨n17976, Nat.lt_succ_self _, ⟨_, x18080, x18081, x17969, r18105, x17972, r18096, b18078, b18079, v18083, c18084, b18085, ho17959, (q18082.mono hZ18114), rfl, ((((hS18111.front 0 rfl).front 3 rfl).front 2 rfl).front 3 rfl)⟩⟩
  refine sr r14_13 ?_
  refine r_step rfl trivial (o_ldb (v := V x17971) hS17975 (i := 3) rfl rfl (by kernel_rfl)) ?_
  refine xq 1 [(77, Pt b17963 2), (76, V x17971), (4, Pt b17962 0), (5, Pt b17963 0), (6, v17967), (7, V x17969), (8, Pt b17970 0), (9, .func (.func 29) #[] #[Pt b17970 0, Pt b17963 0, Pt b17962 0]), (10, V x17972), (11, .bool x17973)] ?_
  refine r_step rfl trivial (o_ldb (v := V x17964.To) hS17975 (i := 1) rfl rfl (by kernel_rfl)) ?_
  rcases ifs ho18026 with ⟨hp18028, ho18026⟩ | ⟨hp18028, ho18026⟩
  refine r_step rfl trivial (o_cmp rfl rfl (c_lss_T hp18028)) ?_
  refine xq 1 [(80, .bool true), (4, Pt b17962 0), (5, Pt b17963 0), (6, v17967), (7, V x17969), (8, Pt b17970 0), (9, .func (.func 29) #[] #[Pt b17970 0, Pt b17963 0, Pt b17962 0]), (10, V x17972), (11, .bool x17973)] ?_
  refine r_step rfl rfl (o_ldb (v := v14736) hS17975 (i := 0) rfl rfl (by kernel_rfl)) ?_
  refine r_step rfl rfl (o_ldb (v := V x17971) hS17975 (i := 3) rfl rfl (by kernel_rfl)) ?_
  obtain ⟨hc18029, ho18026⟩ := chk ho18026
  refine r_step rfl rfl (o_index rfl rfl (by kernel_rfl : slTy _ _ = some (csz api_Token)) (RS.based (q14735.mono hS17975.zle) (by omega)) hc18029.1 hc18029.2) ?_
  obtain ⟨x18030, hx18031, ho18026⟩ := obind ho18026
  obtain ⟨cs18032, hc18033, he18034⟩ := RS.elz (q14735.mono hS17975.zle) (i := x17971) hx18031
  obtain rfl := rc_api_Token hc18033
  refine r_step rfl rfl (o_lde (w := .agg #[V x18030.Kind, V x18030.From, V x18030.To]) (he18034 _ (hS17975.zin0 (Zle.refl _))) rfl (by kernel_rfl)) ?_
  obtain ⟨r18036, hx18037, ho18026⟩ := obind ho18026
  obtain ⟨v18038, h18039, hcl18040, hSc18041, rfl⟩ := rows_property_ok F hS17975.inv  hx18037
  have hS18042 := St.call (A := []) (B := [.blk b17962 [v14736], .blk b17963 (K33 x17964), .gs v17967 c17968 (csz rows_Entry), .blk b17970 [V x17971]]) hS17975 hSc18041
  replace hS18042 : St _ _ _ _ _ _ [.blk b17962 [v14736], .blk b17963 (K33 x17964), .gs v17967 c17968 (csz rows_Entry), .blk b17970 [V x17971]] := hS18042
  refine r_step rfl rfl (o_call hcl18040 rfl rfl rfl) ?_
  refine xq 1 [(86, .bool r18036), (80, .bool true), (4, Pt b17962 0), (5, Pt b17963 0), (6, v17967), (7, V x17969), (8, Pt b17970 0), (9, .func (.func 29) #[] #[Pt b17970 0, Pt b17963 0, Pt b17962 0]), (10, V x17972), (11, .bool x17973)] ?_
  rcases ifs ho18026 with ⟨hp18043, ho18026⟩ | ⟨hp18043, ho18026⟩
  refine r_setb (t := 86) rfl hp18043 ?_
  refine xq 1 [(87, .bool x17973), (86, .bool true), (80, .bool true), (4, Pt b17962 0), (5, Pt b17963 0), (6, v17967), (7, V x17969), (8, Pt b17970 0), (9, .func (.func 29) #[] #[Pt b17970 0, Pt b17963 0, Pt b17962 0]), (10, V x17972), (11, .bool x17973)] ?_
  rcases ifs ho18026 with ⟨hp18044, ho18026⟩ | ⟨hp18044, ho18026⟩
  refine r_setb (t := 87) rfl hp18044 ?_
  refine xq 3 [(90, .bool false), (80, .bool true), (4, Pt b17962 0), (5, Pt b17963 0), (6, v17967), (7, V x17969), (8, Pt b17970 0), (9, .func (.func 29) #[] #[Pt b17970 0, Pt b17963 0, Pt b17962 0]), (10, V x17972), (11, .bool x17973)] ?_
  refine r_step rfl rfl (o_ldb (v := v14736) hS18042 (i := 0) rfl rfl (by kernel_rfl)) ?_
  refine r_step rfl rfl (o_ldb (v := V x17971) hS18042 (i := 3) rfl rfl (by kernel_rfl)) ?_
  obtain ⟨hc18045, ho18026⟩ := chk ho18026
  refine r_step rfl rfl (o_index rfl rfl (by kernel_rfl : slTy _ _ = some (csz api_Token)) (RS.based (q14735.mono hS17975.zle) (by omega)) hc18045.1 hc18045.2) ?_
  obtain ⟨x18046, hx18047, ho18026⟩ := obind ho18026
  obtain ⟨cs18048, hc18049, he18050⟩ := RS.elz (q14735.mono hS17975.zle) (i := x17971) hx18047
  obtain rfl := rc_api_Token hc18049
  refine r_step rfl rfl (o_lde (w := .agg #[V x18046.Kind, V x18046.From, V x18046.To]) (he18050 _ (hS18042.zin0 (Zle.refl _))) rfl (by kernel_rfl)) ?_
  obtain ⟨r18052, hx18053, ho18026⟩ := obind ho18026
  obtain ⟨v18054, h18055, hcl18056, hSc18057, rfl⟩ := rows_name_ok F hS18042.inv  hx18053
  have hS18058 := St.call (A := []) (B := [.blk b17962 [v14736], .blk b17963 (K33 x17964), .gs v17967 c17968 (csz rows_Entry), .blk b17970 [V x17971]]) hS18042 hSc18057
  replace hS18058 : St _ _ _ _ _ _ [.blk b17962 [v14736], .blk b17963 (K33 x17964), .gs v17967 c17968 (csz rows_Entry), .blk b17970 [V x17971]] := hS18058
  refine r_step rfl rfl (o_call hcl18056 rfl rfl rfl) ?_
  refine xq 1 [(96, .bool r18052), (90, .bool false), (80, .bool true), (4, Pt b17962 0), (5, Pt b17963 0), (6, v17967), (7, V x17969), (8, Pt b17970 0), (9, .func (.func 29) #[] #[Pt b17970 0, Pt b17963 0, Pt b17962 0]), (10, V x17972), (11, .bool x17973)] ?_
  rcases ifs ho18026 with ⟨hp18059, ho18026⟩ | ⟨hp18059, ho18026⟩
  refine r_setb (t := 96) rfl hp18059 ?_
  refine xq 1 [(97, .bool x17973), (96, .bool true), (90, .bool false), (80, .bool true), (4, Pt b17962 0), (5, Pt b17963 0), (6, v17967), (7, V x17969), (8, Pt b17970 0), (9, .func (.func 29) #[] #[Pt b17970 0, Pt b17963 0, Pt b17962 0]), (10, V x17972)] ?_
  rcases ifs ho18026 with ⟨hp18060, ho18026⟩ | ⟨hp18060, ho18026⟩
  refine r_setb (t := 97) rfl hp18060 ?_
  refine xe 4 [(101, .bool false), (4, Pt b17962 0), (5, Pt b17963 0), (6, v17967), (7, V x17969), (8, Pt b17970 0), (9, .func (.func 29) #[] #[Pt b17970 0, Pt b17963 0, Pt b17962 0]), (10, V x17972)] ?_
  refine cF 101 rfl ?_
  refine xt 0 ?_
  refine blkX_hit ?_
  obtain rfl := Option.some.inj ho18026
  obtain rfl := Option.some.inj ho17959
  exact ⟨_, x17964, x17965, x17969, x17971, x17972, b17962, b17963, v17967, c17968, b17970, rfl, q17966, rfl, hS18058⟩
  refine r_setb (t := 97) rfl (Bool.eq_false_iff.2 hp18060) ?_
  refine xe 4 [(101, .bool true), (4, Pt b17962 0), (5, Pt b17963 0), (6, v17967), (7, V x17969), (8, Pt b17970 0), (9, .func (.func 29) #[] #[Pt b17970 0, Pt b17963 0, Pt b17962 0]), (10, V x17972)] ?_
  refine kT 101 rfl ?_
  obtain rfl := Option.some.inj ho18026
  exact ⟨_, x17964, x17965, x17971, b17962, b17963, v17967, c17968, b17970, rfl, q17966, rfl, hS18058⟩
  refine r_setb (t := 96) rfl (Bool.eq_false_iff.2 hp18059) ?_
  refine xe 5 [(101, .bool false), (4, Pt b17962 0), (5, Pt b17963 0), (6, v17967), (7, V x17969), (8, Pt b17970 0), (9, .func (.func 29) #[] #[Pt b17970 0, Pt b17963 0, Pt b17962 0]), (10, V x17972)] ?_
  refine cF 101 rfl ?_
  refine xt 0 ?_
  refine blkX_hit ?_
  obtain rfl := Option.some.inj ho18026
  obtain rfl := Option.some.inj ho17959
  exact ⟨_, x17964, x17965, x17969, x17971, x17972, b17962, b17963, v17967, c17968, b17970, rfl, q17966, rfl, hS18058⟩
  refine r_setb (t := 87) rfl (Bool.eq_false_iff.2 hp18044) ?_
  refine xe 14 [(101, .bool true), (4, Pt b17962 0), (5, Pt b17963 0), (6, v17967), (7, V x17969), (8, Pt b17970 0), (9, .func (.func 29) #[] #[Pt b17970 0, Pt b17963 0, Pt b17962 0]), (10, V x17972)] ?_
  refine kT 101 rfl ?_
  obtain rfl := Option.some.inj ho18026
  exact ⟨_, x17964, x17965, x17971, b17962, b17963, v17967, c17968, b17970, rfl, q17966, rfl, hS18042⟩
  refine r_setb (t := 86) rfl (Bool.eq_false_iff.2 hp18043) ?_
  refine xq 4 [(90, .bool false), (80, .bool true), (4, Pt b17962 0), (5, Pt b17963 0), (6, v17967), (7, V x17969), (8, Pt b17970 0), (9, .func (.func 29) #[] #[Pt b17970 0, Pt b17963 0, Pt b17962 0]), (10, V x17972), (11, .bool x17973)] ?_
  refine r_step rfl rfl (o_ldb (v := v14736) hS18042 (i := 0) rfl rfl (by kernel_rfl)) ?_
  refine r_step rfl rfl (o_ldb (v := V x17971) hS18042 (i := 3) rfl rfl (by kernel_rfl)) ?_
  obtain ⟨hc18061, ho18026⟩ := chk ho18026
  refine r_step rfl rfl (o_index rfl rfl (by kernel_rfl : slTy _ _ = some (csz api_Token)) (RS.based (q14735.mono hS17975.zle) (by omega)) hc18061.1 hc18061.2) ?_
  obtain ⟨x18062, hx18063, ho18026⟩ := obind ho18026
  obtain ⟨cs18064, hc18065, he18066⟩ := RS.elz (q14735.mono hS17975.zle) (i := x17971) hx18063
  obtain rfl := rc_api_Token hc18065
  refine r_step rfl rfl (o_lde (w := .agg #[V x18062.Kind, V x18062.From, V x18062.To]) (he18066 _ (hS18042.zin0 (Zle.refl _))) rfl (by kernel_rfl)) ?_
  obtain ⟨r18068, hx18069, ho18026⟩ := obind ho18026
  obtain ⟨v18070, h18071, hcl18072, hSc18073, rfl⟩ := rows_name_ok F hS18042.inv  hx18069
  have hS18074 := St.call (A := []) (B := [.blk b17962 [v14736], .blk b17963 (K33 x17964), .gs v17967 c17968 (csz rows_Entry), .blk b17970 [V x17971]]) hS18042 hSc18073
  replace hS18074 : St _ _ _ _ _ _ [.blk b17962 [v14736], .blk b17963 (K33 x17964), .gs v17967 c17968 (csz rows_Entry), .blk b17970 [V x17971]] := hS18074
  refine r_step rfl rfl (o_call hcl18072 rfl rfl rfl) ?_
  refine xq 1 [(96, .bool r18068), (90, .bool false), (80, .bool true), (4, Pt b17962 0), (5, Pt b17963 0), (6, v17967), (7, V x17969), (8, Pt b17970 0), (9, .func (.func 29) #[] #[Pt b17970 0, Pt b17963 0, Pt b17962 0]), (10, V x17972), (11, .bool x17973)] ?_
  rcases ifs ho18026 with ⟨hp18075, ho18026⟩ | ⟨hp18075, ho18026⟩
  refine r_setb (t := 96) rfl hp18075 ?_
  refine xq 1 [(97, .bool x17973), (96, .bool true), (90, .bool false), (80, .bool true), (4, Pt b17962 0), (5, Pt b17963 0), (6, v17967), (7, V x17969), (8, Pt b17970 0), (9, .func (.func 29) #[] #[Pt b17970 0, Pt b17963 0, Pt b17962 0]), (10, V x17972)] ?_
  rcases ifs ho18026 with ⟨hp18076, ho18026⟩ | ⟨hp18076, ho18026⟩
  refine r_setb (t := 97) rfl hp18076 ?_
  refine xe 4 [(101, .bool false), (4, Pt b17962 0), (5, Pt b17963 0), (6, v17967), (7, V x17969), (8, Pt b17970 0), (9, .func (.func 29) #[] #[Pt b17970 0, Pt b17963 0, Pt b17962 0]), (10, V x17972)] ?_
  refine cF 101 rfl ?_
  refine xt 0 ?_
  refine blkX_hit ?_
  obtain rfl := Option.some.inj ho18026
  obtain rfl := Option.some.inj ho17959
  exact ⟨_, x17964, x17965, x17969, x17971, x17972, b17962, b17963, v17967, c17968, b17970, rfl, q17966, rfl, hS18074⟩
  refine r_setb (t := 97) rfl (Bool.eq_false_iff.2 hp18076) ?_
  refine xe 4 [(101, .bool true), (4, Pt b17962 0), (5, Pt b17963 0), (6, v17967), (7, V x17969), (8, Pt b17970 0), (9, .func (.func 29) #[] #[Pt b17970 0, Pt b17963 0, Pt b17962 0]), (10, V x17972)] ?_
  refine kT 101 rfl ?_
  obtain rfl := Option.some.inj ho18026
  exact ⟨_, x17964, x17965, x17971, b17962, b17963, v17967, c17968, b17970, rfl, q17966, rfl, hS18074⟩
  refine r_setb (t := 96) rfl (Bool.eq_false_iff.2 hp18075) ?_
  refine xe 5 [(101, .bool false), (4, Pt b17962 0), (5, Pt b17963 0), (6, v17967), (7, V x17969), (8, Pt b17970 0), (9, .func (.func 29) #[] #[Pt b17970 0, Pt b17963 0, Pt b17962 0]), (10, V x17972)] ?_
  refine cF 101 rfl ?_
  refine xt 0 ?_
  refine blkX_hit ?_
  obtain rfl := Option.some.inj ho18026
  obtain rfl := Option.some.inj ho17959
  exact ⟨_, x17964, x17965, x17969, x17971, x17972, b17962, b17963, v17967, c17968, b17970, rfl, q17966, rfl, hS18074⟩
  refine r_step rfl trivial (o_cmp rfl rfl (c_lss_F hp18028)) ?_
  refine xe 22 [(101, .bool false), (4, Pt b17962 0), (5, Pt b17963 0), (6, v17967), (7, V x17969), (8, Pt b17970 0), (9, .func (.func 29) #[] #[Pt b17970 0, Pt b17963 0, Pt b17962 0]), (10, V x17972)] ?_
  refine cF 101 rfl ?_
  refine xt 0 ?_
  refine blkX_hit ?_
  obtain rfl := Option.some.inj ho18026
  obtain rfl := Option.some.inj ho17959
  exact ⟨_, x17964, x17965, x17969, x17971, x17972, b17962, b17963, v17967, c17968, b17970, rfl, q17966, rfl, hS17975⟩
  refine rg r14_7 ?_
  refine r_step rfl trivial (o_ldb (v := V x17524) hS17526 (i := 3) rfl rfl (by kernel_rfl)) ?_
  refine xq 1 [(43, Pt b17516 2), (42, V x17524), (4, Pt b17515 0), (5, Pt b17516 0), (6, v17520), (7, V x17522), (8, Pt b17523 0), (9, .func (.func 29) #[] #[Pt b17523 0, Pt b17516 0, Pt b17515 0])] ?_
  refine r_step rfl trivial (o_ldb (v := V x17517.To) hS17526 (i := 1) rfl rfl (by kernel_rfl)) ?_
  rcases ifs ho17634 with ⟨hp17636, ho17634⟩ | ⟨hp17636, ho17634⟩
  refine r_step rfl trivial (o_cmp rfl rfl (c_lss_T hp17636)) ?_
  refine xq 1 [(46, .bool true), (4, Pt b17515 0), (5, Pt b17516 0), (6, v17520), (7, V x17522), (8, Pt b17523 0), (9, .func (.func 29) #[] #[Pt b17523 0, Pt b17516 0, Pt b17515 0])] ?_
  refine r_step rfl rfl (o_ldb (v := v14736) hS17526 (i := 0) rfl rfl (by kernel_rfl)) ?_
  refine r_step rfl rfl (o_ldb (v := V x17524) hS17526 (i := 3) rfl rfl (by kernel_rfl)) ?_
  obtain ⟨hc17637, ho17634⟩ := chk ho17634
  refine r_step rfl rfl (o_index rfl rfl (by kernel_rfl : slTy _ _ = some (csz api_Token)) (RS.based (q14735.mono hS17526.zle) (by omega)) hc17637.1 hc17637.2) ?_
  refine xq 1 [(50, .pointer (some (elemA v14736 x17524 (csz api_Token) 0))), (46, .bool true), (4, Pt b17515 0), (5, Pt b17516 0), (6, v17520), (7, V x17522), (8, Pt b17523 0), (9, .func (.func 29) #[] #[Pt b17523 0, Pt b17516 0, Pt b17515 0])] ?_
  obtain ⟨x17638, hx17639, ho17634⟩ := obind ho17634
  obtain ⟨cs17640, hc17641, he17642⟩ := RS.elz (q14735.mono hS17526.zle) (i := x17524) hx17639
  obtain rfl := rc_api_Token hc17641
  refine r_step rfl rfl (o_lde (w := V x17638.Kind) (he17642 _ (hS17526.zin0 (Zle.refl _))) rfl (by kernel_rfl)) ?_
  rcases ifs ho17634 with ⟨hp17644, ho17634⟩ | ⟨hp17644, ho17634⟩
  refine r_step rfl rfl (o_cmp rfl rfl (c_eql_T hp17644)) ?_
  refine xe 1 [(53, .bool true), (4, Pt b17515 0), (5, Pt b17516 0), (6, v17520), (7, V x17522), (8, Pt b17523 0), (9, .func (.func 29) #[] #[Pt b17523 0, Pt b17516 0, Pt b17515 0])] ?_
  obtain rfl := Option.some.inj ho17634
  exact ⟨_, x17517, x17518, x17524, true, b17515, b17516, v17520, c17521, b17523, rfl, q17519, rfl, hS17526⟩
  refine r_step rfl rfl (o_cmp rfl rfl (c_eql_F hp17644)) ?_
  refine xe 1 [(53, .bool false), (4, Pt b17515 0), (5, Pt b17516 0), (6, v17520), (7, V x17522), (8, Pt b17523 0), (9, .func (.func 29) #[] #[Pt b17523 0, Pt b17516 0, Pt b17515 0])] ?_
  obtain rfl := Option.some.inj ho17634
  exact ⟨_, x17517, x17518, x17524, false, b17515, b17516, v17520, c17521, b17523, rfl, q17519, rfl, hS17526⟩
  refine r_step rfl trivial (o_cmp rfl rfl (c_lss_F hp17636)) ?_
  refine xe 8 [(53, .bool false), (4, Pt b17515 0), (5, Pt b17516 0), (6, v17520), (7, V x17522), (8, Pt b17523 0), (9, .func (.func 29) #[] #[Pt b17523 0, Pt b17516 0, Pt b17515 0])] ?_
  obtain rfl := Option.some.inj ho17634
  exact ⟨_, x17517, x17518, x17524, false, b17515, b17516, v17520, c17521, b17523, rfl, q17519, rfl, hS17526⟩
  refine r_step rfl trivial (o_cmp rfl rfl (c_neq_T hp16384)) ?_
  refine xe 19 [(33, .bool true), (6, .slice none 0 0), (5, Pt b16325 0), (4, Pt b16322 0)] ?_
  refine cT 33 rfl ?_
  refine srF r14_2 hS16327 ?_
  intro bs18357 h18358 hlv18360 hS18359
  refine yq 1 [(34, Pt b16325 1), (6, .slice none 0 0)] ?_
  have lt18361 : b16325 < bs18357 := hlv18360.1 _ (List.mem_of_getElem? (i := 0) rfl) _ (by simp [Itm.ids])
  refine e_lookB rfl trivial rfl (by show b16325 < _; omega) (same1 (v := V a2.From) trivial) (o_ldb (v := V a2.From) hS18359 (i := 0) rfl rfl (by kernel_rfl)) trivial ?_
  refine ye 2 [(7, V a2.From), (6, .slice none 0 0)] ?_
  have hS18362 := hS18359.unres
  refine rt ?_
  refine jmpX_ret ?_
  refine ⟨rfl, ?_⟩
  have hS18363 := hS18362.nilGs (csz rows_Entry)
  obtain rfl := Option.some.inj hm
  refine ⟨_, _, _, ResL.tmp rfl (ResL.tmp rfl (ResL.nil)), (hS18363.takeN 1), ?_⟩
  exact ⟨(.slice none 0 0), [], rfl, rfl, (RCs.nil0 _)⟩

def r35_0 : List COp := [u 8 (.assign (ci 0))]
def r35_1 : List COp := [u 9 (.move (t 1)), u 10 (.move (t 2)), u 11 (.binOp .lss 3 (t 9) (t 10) 3), u 12 (.move (t 11)), gT 12 (some 13) (.move (t 0)), gT 12 (some 14) (.move (t 1)), gT 12 (some 15) (.indexAddr 27 (t 13) (t 14)), gT 12 (some 16) (.fieldAddr 45 (t 15) 0), gT 12 (some 17) (.load 3 (t 16)), gT 12 (some 18) (.move (t 3)), gT 12 (some 19) (.binOp .eql 3 (t 17) (t 18) 3), u 20 (.pick (t 12) (t 19) (.const (.bool false)))]
def r35_2 : List COp := [u 21 (.move (t 1)), u 22 (.binOp .add 3 (t 21) (ci 1) 3), u 1 (.assign (t 22))]
def r35_3 : List COp := [u 23 (.move (t 1)), u 8 (.assign (t 23))]
def correctorref9_skip_l0 (F : Nat) (a0 : List api_Token) (a1 : Int) (a2 : Int) (a3 : Int) : Nat → Int → Option Int
  | 0, _ => none
  | n + 1, x18692 =>
    if x18692 < a2 then
      if 0 ≤ x18692 ∧ x18692 < (a0.length : Int) then
        (a0[x18692.toNat]?).bind fun x18716 =>
        if x18716.Kind = a3 then
          correctorref9_skip_l0 F a0 a1 a2 a3 n (w64 (x18692 + 1))
        else
          some x18692
      else none
    else
      some x18692
def correctorref9_skip (F : Nat) (a0 : List api_Token) (a1 : Int) (a2 : Int) (a3 : Int) : Option Int :=
  ((correctorref9_skip_l0 F a0 a1 a2 a3 F a1) : Option Int).bind fun o => match o with
    | x18725 => some x18725
theorem correctorref9_skip_ok (F : Nat) {h : AH} {Z : Zn} {a0 : List api_Token} {a1 : Int} {a2 : Int} {a3 : Int} {v18562 : Value} (hI : Inv Z h) (q18561 : RS (α := api_Token) Z v18562 a0) {r : Int} (hm : correctorref9_skip F a0 a1 a2 a3 = some r) :
    ∃ v h', callI Go.Proofs.Try.prog 35 [v18562, V a1, V a2, V a3] h = some (v, h') ∧ St h [] Z (0, 0) Z h' [] ∧ v = V r := by
  refine fn_plain (Q := fun v => v = V r) Go.Proofs.Try.func35 rfl rfl hI ?_
  intro hs hS
  unfold correctorref9_skip at hm
  refine sr r35_0 ?_
  refine xe 1 [(0, v18562), (1, V a1), (2, V a2), (3, V a3)] ?_
  refine sq ?_
  obtain ⟨o18690, ho18689, hm⟩ := obind hm
  refine W_join [1] (fun l h => ∃ Z18724 : Zn, ∃ x18725 : Int, x18725 = o18690 ∧ l = [(1, V x18725)] ∧ St hs [] Z (0, 0) Z18724 h []) ?_ ?_
  rintro l h18726 ⟨Z18724, x18725, rfl, rfl, hS18727⟩
  try dsimp only at hm
  refine sr r35_3 ?_
  refine xe 2 [(8, V x18725)] ?_
  refine rt ?_
  refine ⟨rfl, ?_⟩
  obtain rfl := Option.some.inj hm
  refine ⟨_, _, _, ResL.tmp rfl (ResL.nil), hS18727, ?_⟩
  exact rfl
  refine bk 0 ?_
  refine lp [0, 1, 2, 3] (fun n l h => ∃ Z18691 : Zn, ∃ x18692 : Int, correctorref9_skip_l0 F a0 a1 a2 a3 n x18692 = some o18690 ∧ l = [(0, v18562), (1, V x18692), (2, V a2), (3, V a3)] ∧ St hs [] Z (0, 0) Z18691 h []) F ⟨_, a1, ho18689, rfl, hS⟩ ?_
  rintro n18695 l h18693 ⟨Z18691, x18692, ho18689, rfl, hS18694⟩
  rcases n18695 with _ | n18695
  cases (show none = some o18690 from ho18689)
  rw [correctorref9_skip_l0] at ho18689
  refine sq ?_
  refine sr r35_1 ?_
  refine xq 2 [(10, V a2), (9, V x18692), (0, v18562), (1, V x18692), (2, V a2), (3, V a3)] ?_
  rcases ifs ho18689 with ⟨hp18714, ho18689⟩ | ⟨hp18714, ho18689⟩
  refine r_step rfl trivial (o_cmp rfl rfl (c_lss_T hp18714)) ?_
  refine xq 3 [(14, V x18692), (13, v18562), (12, .bool true), (0, v18562), (1, V x18692), (2, V a2), (3, V a3)] ?_
  obtain ⟨hc18715, ho18689⟩ := chk ho18689
  refine r_step rfl rfl (o_index rfl rfl (by kernel_rfl : slTy _ _ = some (csz api_Token)) (RS.based (q18561.mono hS18694.zle) (by omega)) hc18715.1 hc18715.2) ?_
  refine xq 1 [(16, .pointer (some (elemA v18562 x18692 (csz api_Token) 0))), (12, .bool true), (0, v18562), (1, V x18692), (2, V a2), (3, V a3)] ?_
  obtain ⟨x18716, hx18717, ho18689⟩ := obind ho18689
  obtain ⟨cs18718, hc18719, he18720⟩ := RS.elz (q18561.mono hS18694.zle) (i := x18692) hx18717
  obtain rfl := rc_api_Token hc18719
  refine r_step rfl rfl (o_lde (w := V x18716.Kind) (he18720 _ (hS18694.zin0 (Zle.refl _))) rfl (by kernel_rfl)) ?_
  refine xq 1 [(18, V a3), (17, V x18716.Kind), (12, .bool true), (0, v18562), (1, V x18692), (2, V a2), (3, V a3)] ?_
  rcases ifs ho18689 with ⟨hp18722, ho18689⟩ | ⟨hp18722, ho18689⟩
  refine r_step rfl rfl (o_cmp rfl rfl (c_eql_T hp18722)) ?_
  refine xe 1 [(20, .bool true), (0, v18562), (1, V x18692), (2, V a2), (3, V a3)] ?_
  refine kT 20 rfl ?_
  refine bk 1 ?_
  refine rg r35_2 ?_
  refine xe 3 [(1, V (w64 (x18692 + 1))), (0, v18562), (2, V a2), (3, V a3)] ?_
  exact ⟨n18695, Nat.lt_succ_self _, ⟨_, w64 (x18692 + 1), ho18689, rfl, hS18694⟩⟩
  refine r_step rfl rfl (o_cmp rfl rfl (c_eql_F hp18722)) ?_
  refine xe 1 [(20, .bool false), (0, v18562), (1, V x18692), (2, V a2), (3, V a3)] ?_
  refine cF 20 rfl ?_
  refine xt 0 ?_
  refine blkX_hit ?_
  obtain rfl := Option.some.inj ho18689
  exact ⟨_, x18692, rfl, rfl, hS18694⟩
  refine r_step rfl trivial (o_cmp rfl rfl (c_lss_F hp18714)) ?_
  refine xe 9 [(20, .bool false), (0, v18562), (1, V x18692), (2, V a2), (3, V a3)] ?_
  refine cF 20 rfl ?_
  refine xt 0 ?_
  refine blkX_hit ?_
  obtain rfl := Option.some.inj ho18689
  exact ⟨_, x18692, rfl, rfl, hS18694⟩

def r36_0 : List COp := [u 2 (.assign (.const (.bool false)))]
def r36_1 : List COp := [u 3 (.move (t 0)), u 4 (.binOp .eql 3 (t 3) (ci 15) 3), u 5 (.move (t 4)), gN 5 (some 6) (.move (t 0)), gN 5 (some 7) (.binOp .eql 3 (t 6) (ci 16) 3), u 8 (.pick (t 5) (.const (.bool true)) (t 7)), u 9 (.move (t 8)), gN 9 (some 10) (.move (t 0)), gN 9 (some 11) (.binOp .eql 3 (t 10) (ci 17) 3), u 12 (.pick (t 9) (.const (.bool true)) (t 11)), u 13 (.move (t 12)), gN 13 (some 14) (.move (t 0)), gN 13 (some 15) (.binOp .eql 3 (t 14) (ci 13) 3), u 16 (.pick (t 13) (.const (.bool true)) (t 15)), u 2 (.assign (t 16))]
def correctorref9_Scalar (F : Nat) (a0 : Int) : Option Bool :=
  if a0 = (15 : Int) then
    some true
  else
    if a0 = (16 : Int) then
      some true
    else
      if a0 = (17 : Int) then
        some true
      else
        if a0 = (13 : Int) then
          some true
        else
          some false
theorem correctorref9_Scalar_ok (F : Nat) {h : AH} {Z : Zn} {a0 : Int} (hI : Inv Z h) {r : Bool} (hm : correctorref9_Scalar F a0 = some r) :
    ∃ v h', callI Go.Proofs.Try.prog 36 [V a0] h = some (v, h') ∧ St h [] Z (0, 0) Z h' [] ∧ v = .bool r := by
  refine fn_plain (Q := fun v => v = .bool r) Go.Proofs.Try.func36 rfl rfl hI ?_
  intro hs hS
  unfold correctorref9_Scalar at hm
  refine sr r36_0 ?_
  refine xe 1 [(0, V a0)] ?_
  refine sr r36_1 ?_
  refine xq 1 [(3, V a0), (0, V a0)] ?_
  rcases ifs hm with ⟨hp18884, hm⟩ | ⟨hp18884, hm⟩
  refine r_step rfl trivial (o_cmp rfl rfl (c_eql_T hp18884)) ?_
  refine xe 13 [(2, .bool true)] ?_
  refine rt ?_
  refine ⟨rfl, ?_⟩
  obtain rfl := Option.some.inj hm
  refine ⟨_, _, _, ResL.tmp rfl (ResL.nil), hS, ?_⟩
  exact rfl
  refine r_step rfl trivial (o_cmp rfl rfl (c_eql_F hp18884)) ?_
  refine xq 2 [(6, V a0), (5, .bool false), (0, V a0)] ?_
  rcases ifs hm with ⟨hp18885, hm⟩ | ⟨hp18885, hm⟩
  refine r_step rfl rfl (o_cmp rfl rfl (c_eql_T hp18885)) ?_
  refine xe 10 [(2, .bool true)] ?_
  refine rt ?_
  refine ⟨rfl, ?_⟩
  obtain rfl := Option.some.inj hm
  refine ⟨_, _, _, ResL.tmp rfl (ResL.nil), hS, ?_⟩
  exact rfl
  refine r_step rfl rfl (o_cmp rfl rfl (c_eql_F hp18885)) ?_
  refine xq 3 [(10, V a0), (9, .bool false), (0, V a0)] ?_
  rcases ifs hm with ⟨hp18886, hm⟩ | ⟨hp18886, hm⟩
  refine r_step rfl rfl (o_cmp rfl rfl (c_eql_T hp18886)) ?_
  refine xe 6 [(2, .bool true)] ?_
  refine rt ?_
  refine ⟨rfl, ?_⟩
  obtain rfl := Option.some.inj hm
  refine ⟨_, _, _, ResL.tmp rfl (ResL.nil), hS, ?_⟩
  exact rfl
  refine r_step rfl rfl (o_cmp rfl rfl (c_eql_F hp18886)) ?_
  refine xq 3 [(14, V a0), (13, .bool false)] ?_
  rcases ifs hm with ⟨hp18887, hm⟩ | ⟨hp18887, hm⟩
  refine r_step rfl rfl (o_cmp rfl rfl (c_eql_T hp18887)) ?_
  refine xe 2 [(2, .bool true)] ?_
  refine rt ?_
  refine ⟨rfl, ?_⟩
  obtain rfl := Option.some.inj hm
  refine ⟨_, _, _, ResL.tmp rfl (ResL.nil), hS, ?_⟩
  exact rfl
  refine r_step rfl rfl (o_cmp rfl rfl (c_eql_F hp18887)) ?_
  refine xe 2 [(2, .bool false)] ?_
  refine rt ?_
  refine ⟨rfl, ?_⟩
  obtain rfl := Option.some.inj hm
  refine ⟨_, _, _, ResL.tmp rfl (ResL.nil), hS, ?_⟩
  exact rfl

def r15_0 : List COp := [u 3 (.box 33 (t 1)), u 4 (.assign (.const (.slice none 0 0))), u 5 (.assign (ci 0))]
def r15_1 : List COp := [u 11 (.fieldAddr 33 (t 3) 0), u 12 (.load 3 (t 11)), u 13 (.binOp .neq 3 (t 12) (ci 5) 3)]
def r15_2 : List COpF := [uF 14 (.fieldAddr 33 (t 3) 1) .pure [], uF 15 (.load 3 (t 14)) .look [], uF 4 (.assign (.const (.slice none 0 0))) .pure [], uF 5 (.assign (t 15)) .pure []]
def r15_3 : List COp := [u 16 (.fieldAddr 33 (t 3) 1), u 17 (.load 3 (t 16)), u 6 (.assign (t 17))]
def r15_4 : List COp := [u 18 (.move (t 6)), u 19 (.fieldAddr 33 (t 3) 2), u 20 (.load 3 (t 19)), u 21 (.binOp .lss 3 (t 18) (t 20) 3), u 22 (.move (t 21)), gT 22 (some 23) (.move (t 0)), gT 22 (some 24) (.move (t 6)), gT 22 (some 25) (.indexAddr 27 (t 23) (t 24)), gT 22 (some 26) (.fieldAddr 45 (t 25) 0), gT 22 (some 27) (.load 3 (t 26)), gT 22 (some 28) (cf 16 #[(t 27)] #[3]), gT 22 (some 29) (.unOp .not 4 (t 28)), u 30 (.pick (t 22) (t 29) (.const (.bool false)))]
def r15_5 : List COp := [u 31 (.move (t 6)), u 32 (.binOp .add 3 (t 31) (ci 1) 3), u 6 (.assign (t 32))]
def r15_6 : List COp := [u 33 (.move (t 6)), u 7 (.assign (t 33))]
def r15_7 : List COp := [u 34 (.move (t 0)), u 35 (.fieldAddr 33 (t 3) 1), u 36 (.load 3 (t 35)), u 37 (.indexAddr 27 (t 34) (t 36)), u 38 (.fieldAddr 45 (t 37) 1), u 39 (.load 3 (t 38)), u 8 (.assign (t 39))]
def r15_8 : List COp := [u 9 (.assign (.const (.slice none 0 0)))]
def r15_9 : List COp := [u 40 (.move (t 6)), u 41 (.fieldAddr 33 (t 3) 2), u 42 (.load 3 (t 41)), u 43 (.binOp .lss 3 (t 40) (t 42) 3), u 44 (.move (t 43)), gT 44 (some 45) (.move (t 0)), gT 44 (some 46) (.move (t 6)), gT 44 (some 47) (.indexAddr 27 (t 45) (t 46)), gT 44 (some 48) (.fieldAddr 45 (t 47) 0), gT 44 (some 49) (.load 3 (t 48)), gT 44 (some 50) (.binOp .eql 3 (t 49) (ci 5) 3), u 51 (.pick (t 44) (t 50) (.const (.bool false)))]
def r15_10 : List COp := [u 52 (.move (t 9)), u 53 (.move (t 0)), u 54 (.move (t 6)), u 55 (.indexAddr 27 (t 53) (t 54)), u 56 (.fieldAddr 45 (t 55) 1), u 57 (.load 3 (t 56)), u 58 (.move (t 8)), u 59 (.binOp .sub 3 (t 57) (t 58) 3), u 60 (.move (t 6)), u 61 (.move (t 6)), u 62 (.binOp .add 3 (t 61) (ci 1) 3), u 63 (.build 43 #[(0, (.const (.bool true))), (1, (t 59)), (2, (t 60)), (3, (t 62))]), u 64 (.buildSlice 38 1 #[(0, (t 63))]), u 65 (cb .append #[(t 52), (t 64)] #[38, 38]), u 9 (.assign (t 65))]
def r15_11 : List COp := [u 66 (.move (t 0)), u 67 (.move (t 6)), u 68 (.binOp .add 3 (t 67) (ci 1) 3), u 69 (.fieldAddr 33 (t 3) 2), u 70 (.load 3 (t 69)), u 71 (cf 35 #[(t 66), (t 68), (t 70), (ci 3)] #[27, 3, 3, 3]), u 6 (.assign (t 71))]
def r15_12 : List COp := [u 72 (.move (t 6)), u 10 (.assign (t 72))]
def r15_13 : List COp := [u 73 (.move (t 10)), u 74 (.fieldAddr 33 (t 3) 2), u 75 (.load 3 (t 74)), u 76 (.binOp .lss 3 (t 73) (t 75) 3), u 77 (.move (t 76)), gT 77 (some 78) (.move (t 0)), gT 77 (some 79) (.move (t 10)), gT 77 (some 80) (.indexAddr 27 (t 78) (t 79)), gT 77 (some 81) (.fieldAddr 45 (t 80) 0), gT 77 (some 82) (.load 3 (t 81)), gT 77 (some 83) (.binOp .eql 3 (t 82) (ci 12) 3), gT 77 (some 84) (.move (t 83)), gN 84 (some 85) (.move (t 0)), gN 84 (some 86) (.move (t 10)), gN 84 (some 87) (.indexAddr 27 (t 85) (t 86)), gN 84 (some 88) (.fieldAddr 45 (t 87) 0), gN 84 (some 89) (.load 3 (t 88)), gN 84 (some 90) (.binOp .eql 3 (t 89) (ci 14) 3), gT 77 (some 91) (.pick (t 84) (.const (.bool true)) (t 90)), u 92 (.pick (t 77) (t 91) (.const (.bool false)))]
def r15_14 : List COp := [u 93 (.move (t 0)), u 94 (.move (t 10)), u 95 (.binOp .add 3 (t 94) (ci 1) 3), u 96 (.fieldAddr 33 (t 3) 2), u 97 (.load 3 (t 96)), u 98 (cf 35 #[(t 93), (t 95), (t 97), (ci 3)] #[27, 3, 3, 3]), u 10 (.assign (t 98))]
def r15_15 : List COp := [u 99 (.move (t 10)), u 100 (.fieldAddr 33 (t 3) 2), u 101 (.load 3 (t 100)), u 102 (.binOp .lss 3 (t 99) (t 101) 3), u 103 (.move (t 102)), gT 103 (some 104) (.move (t 0)), gT 103 (some 105) (.move (t 10)), gT 103 (some 106) (.indexAddr 27 (t 104) (t 105)), gT 103 (some 107) (.fieldAddr 45 (t 106) 0), gT 103 (some 108) (.load 3 (t 107)), gT 103 (some 109) (cf 36 #[(t 108)] #[3]), u 110 (.pick (t 103) (t 109) (.const (.bool false)))]
def r15_16 : List COp := [u 111 (.move (t 0)), u 112 (.move (t 10)), u 113 (.binOp .add 3 (t 112) (ci 1) 3), u 114 (.fieldAddr 33 (t 3) 2), u 115 (.load 3 (t 114)), u 116 (cf 35 #[(t 111), (t 113), (t 115), (ci 3)] #[27, 3, 3, 3]), u 10 (.assign (t 116))]
def r15_17 : List COp := [u 117 (.move (t 10)), u 118 (.fieldAddr 33 (t 3) 2), u 119 (.load 3 (t 118)), u 120 (.binOp .lss 3 (t 117) (t 119) 3), u 121 (.move (t 120)), gT 121 (some 122) (.move (t 0)), gT 121 (some 123) (.move (t 10)), gT 121 (some 124) (.indexAddr 27 (t 122) (t 123)), gT 121 (some 125) (.fieldAddr 45 (t 124) 0), gT 121 (some 126) (.load 3 (t 125)), gT 121 (some 127) (.binOp .eql 3 (t 126) (ci 6) 3), u 128 (.pick (t 121) (t 127) (.const (.bool false)))]
def r15_18 : List COp := [u 129 (.move (t 9)), u 130 (.move (t 0)), u 131 (.move (t 6)), u 132 (.indexAddr 27 (t 130) (t 131)), u 133 (.fieldAddr 45 (t 132) 1), u 134 (.load 3 (t 133)), u 135 (.move (t 8)), u 136 (.binOp .sub 3 (t 134) (t 135) 3), u 137 (.move (t 6)), u 138 (.move (t 10)), u 139 (.binOp .add 3 (t 138) (ci 1) 3), u 140 (.build 43 #[(1, (t 136)), (2, (t 137)), (3, (t 139))]), u 141 (.buildSlice 38 1 #[(0, (t 140))]), u 142 (cb .append #[(t 129), (t 141)] #[38, 38]), u 9 (.assign (t 142))]
def r15_19 : List COp := [u 143 (.move (t 9)), u 144 (cb .len #[(t 143)] #[38]), u 145 (.binOp .eql 3 (t 144) (ci 0) 3)]
def r15_20 : List COp := [u 146 (.move (t 7)), u 4 (.assign (.const (.slice none 0 0))), u 5 (.assign (t 146))]
def r15_21 : List COpF := [uF 147 (.move (t 9)) .pure [], uF 148 (.move (t 9)) .pure [], uF 149 (.move (t 9)) .pure [], uF 150 (cb .len #[(t 149)] #[38]) .pure [], uF 151 (.binOp .sub 3 (t 150) (ci 1) 3) .pure [], uF 152 (.indexAddr 38 (t 148) (t 151)) .pure [], uF 153 (.fieldAddr 43 (t 152) 3) .pure [], uF 154 (.load 3 (t 153)) .look [], uF 4 (.assign (t 147)) .pure [], uF 5 (.assign (t 154)) .pure []]
def correctorref9_Entries_l0 (F : Nat) (a0 : List api_Token) (a1 : api_Row) : Nat → api_Row → Int → Option (api_Row × Int)
  | 0, _, _ => none
  | n + 1, x19128, x19129 =>
    if x19129 < x19128.To then
      if 0 ≤ x19129 ∧ x19129 < (a0.length : Int) then
        (a0[x19129.toNat]?).bind fun x19167 =>
        (correctorref6_Counts F x19167.Kind).bind fun r19173 =>
        if r19173 = true then
          some (x19128, x19129)
        else
          correctorref9_Entries_l0 F a0 a1 n x19128 (w64 (x19129 + 1))
      else none
    else
      some (x19128, x19129)
def correctorref9_Entries_l1 (F : Nat) (a0 : List api_Token) (a1 : api_Row) : Nat → api_Row → Int → Int → Int → (List correctorref9_Entry) → Option (api_Row × Int × Int × Int × (List correctorref9_Entry))
  | 0, _, _, _, _, _ => none
  | n + 1, x19331, x19332, x19333, x19334, x19335 =>
    if x19332 < x19331.To then
      if 0 ≤ x19332 ∧ x19332 < (a0.length : Int) then
        (a0[x19332.toNat]?).bind fun x19362 =>
        if x19362.Kind = (5 : Int) then
          if 0 ≤ x19332 ∧ x19332 < (a0.length : Int) then
            (a0[x19332.toNat]?).bind fun x19370 =>
            if x19335.length + [(⟨true, w64 (x19370.From - x19334), x19332, w64 (x19332 + 1)⟩ : correctorref9_Entry)].length ≤ 4398046511104 then
              (correctorref9_skip F a0 (w64 (x19332 + 1)) x19331.To 3).bind fun r19388 =>
              correctorref9_Entries_l1 F a0 a1 n x19331 r19388 x19333 x19334 (x19335 ++ [(⟨true, w64 (x19370.From - x19334), x19332, w64 (x19332 + 1)⟩ : correctorref9_Entry)])
            else none
          else none
        else
          some (x19331, x19332, x19333, x19334, x19335)
      else none
    else
      some (x19331, x19332, x19333, x19334, x19335)
def correctorref9_Entries_l2 (F : Nat) (a0 : List api_Token) (a1 : api_Row) : Nat → api_Row → Int → Int → Int → (List correctorref9_Entry) → Int → Option (api_Row × Int × Int × Int × (List correctorref9_Entry) × Int)
  | 0, _, _, _, _, _, _ => none
  | n + 1, x19466, x19467, x19468, x19469, x19470, x19474 =>
    ((if x19474 < x19466.To then
        if 0 ≤ x19474 ∧ x19474 < (a0.length : Int) then
          (a0[x19474.toNat]?).bind fun x19499 =>
          if x19499.Kind = (12 : Int) then
            some (.inl (x19466, x19470))
          else
            if 0 ≤ x19474 ∧ x19474 < (a0.length : Int) then
              (a0[x19474.toNat]?).bind fun x19507 =>
              if x19507.Kind = (14 : Int) then
                some (.inl (x19466, x19470))
              else
                some (.inr (x19466, x19467, x19468, x19469, x19470, x19474))
            else none
        else none
      else
        some (.inr (x19466, x19467, x19468, x19469, x19470, x19474))) : Option (Sum (api_Row × (List correctorref9_Entry)) (api_Row × Int × Int × Int × (List correctorref9_Entry) × Int))).bind fun o => match o with
      | .inl (x19516, x19517) => (correctorref9_skip F a0 (w64 (x19474 + 1)) x19516.To 3).bind fun r19523 =>
      correctorref9_Entries_l2 F a0 a1 n x19516 x19467 x19468 x19469 x19517 r19523
      | .inr y => some y
def correctorref9_Entries (F : Nat) (a0 : List api_Token) (a1 : api_Row) : Option ((List correctorref9_Entry) × Int) :=
  if a1.Kind = (5 : Int) then
    ((correctorref9_Entries_l0 F a0 a1 F a1 a1.From) : Option (api_Row × Int)).bind fun o => match o with
      | (x19186, x19187) => if 0 ≤ x19186.From ∧ x19186.From < (a0.length : Int) then
        (a0[x19186.From.toNat]?).bind fun x19191 =>
        ((correctorref9_Entries_l1 F a0 a1 F x19186 x19187 x19187 x19191.From []) : Option (api_Row × Int × Int × Int × (List correctorref9_Entry))).bind fun o => match o with
          | (x19406, x19407, x19408, x19409, x19410) => ((correctorref9_Entries_l2 F a0 a1 F x19406 x19407 x19408 x19409 x19410 x19407) : Option (api_Row × Int × Int × Int × (List correctorref9_Entry) × Int)).bind fun o => match o with
            | (x19558, x19559, x19560, x19561, x19562, x19566) => ((if x19566 < x19558.To then
                if 0 ≤ x19566 ∧ x19566 < (a0.length : Int) then
                  (a0[x19566.toNat]?).bind fun x19596 =>
                  (correctorref9_Scalar F x19596.Kind).bind fun r19602 =>
                  if r19602 = true then
                    (correctorref9_skip F a0 (w64 (x19566 + 1)) x19558.To 3).bind fun r19610 =>
                    some (x19558, x19562, r19610)
                  else
                    some (x19558, x19562, x19566)
                else none
              else
                some (x19558, x19562, x19566)) : Option (api_Row × (List correctorref9_Entry) × Int)).bind fun o => match o with
              | (x19619, x19620, x19624) => ((((if x19624 < x19619.To then
                    if 0 ≤ x19624 ∧ x19624 < (a0.length : Int) then
                      (a0[x19624.toNat]?).bind fun x19697 =>
                      if x19697.Kind = (6 : Int) then
                        some (x19620, true)
                      else
                        some (x19620, false)
                    else none
                  else
                    some (x19620, false)) : Option ((List correctorref9_Entry) × Bool)).bind fun o => match o with
                  | (x19705, x19709) => if x19709 = true then
                    if 0 ≤ x19559 ∧ x19559 < (a0.length : Int) then
                      (a0[x19559.toNat]?).bind fun x19714 =>
                      if x19705.length + [(⟨false, w64 (x19714.From - x19561), x19559, w64 (x19624 + 1)⟩ : correctorref9_Entry)].length ≤ 4398046511104 then
                        some (x19705 ++ [(⟨false, w64 (x19714.From - x19561), x19559, w64 (x19624 + 1)⟩ : correctorref9_Entry)])
                      else none
                    else none
                  else
                    some x19705) : Option (List correctorref9_Entry)).bind fun o => match o with
                | x19738 => if (x19738.length : Int) = (0 : Int) then
                  some ([], x19560)
                else
                  if 0 ≤ (w64 ((x19738.length : Int) - 1)) ∧ (w64 ((x19738.length : Int) - 1)) < (x19738.length : Int) then
                    (x19738[(w64 ((x19738.length : Int) - 1)).toNat]?).bind fun x19754 =>
                    some (x19738, x19754.To)
                  else none
      else none
  else
    some ([], a1.From)
theorem correctorref9_Entries_ok (F : Nat) {h : AH} {Z : Zn} {a0 : List api_Token} {a1 : api_Row} {v18366 : Value} (hP : Pre Z h []) (q18365 : RS (α := api_Token) Z v18366 a0) {r : (List correctorref9_Entry) × Int} (hm : correctorref9_Entries F a0 a1 = some r) :
    ∃ v h' Z' A', callI Go.Proofs.Try.prog 15 [v18366, .agg #[V a1.Kind, V a1.From, V a1.To, V a1.Col]] h = some (v, h') ∧ St h (idsL []) Z (0, 0) Z' h' A' ∧ ∃ v18997 : Value, ∃ c18998 : List Value, .tuple #[v18997, V r.2] = v ∧ A' = [.gs v18997 c18998 (csz correctorref9_Entry)] ∧ RCs (α := correctorref9_Entry) Z' c18998 r.1 := by
  refine fn_intro (A := []) (Q := fun v Z' A' => ∃ v18997 : Value, ∃ c18998 : List Value, .tuple #[v18997, V r.2] = v ∧ A' = [.gs v18997 c18998 (csz correctorref9_Entry)] ∧ RCs (α := correctorref9_Entry) Z' c18998 r.1) Go.Proofs.Try.func15 rfl rfl (by kernel_rfl) hP ?_
  intro hs hS
  unfold correctorref9_Entries at hm
  replace hS : St hs [] Z (0, 0) Z hs [] := hS
  refine sr r15_0 ?_
  refine r_blk rfl trivial (o_box (cs := [V a1.Kind, V a1.From, V a1.To, V a1.Col]) rfl rfl) hS ?_
  intro b18999 h19000 hS19001
  refine xe 2 [(3, Pt b18999 0), (0, v18366)] ?_
  refine sq ?_
  refine sr r15_1 ?_
  refine xq 1 [(11, Pt b18999 0), (3, Pt b18999 0), (0, v18366)] ?_
  refine r_step rfl trivial (o_ldb (v := V a1.Kind) hS19001 (i := 0) rfl rfl (by kernel_rfl)) ?_
  rcases ifs hm with ⟨hp19016, hm⟩ | ⟨hp19016, hm⟩
  refine r_step rfl trivial (o_cmp rfl rfl (c_neq_F hp19016)) ?_
  refine xf [(13, .bool false), (3, Pt b18999 0), (0, v18366)] ?_
  refine kF 13 rfl ?_
  refine sr r15_3 ?_
  refine xq 1 [(16, Pt b18999 1), (3, Pt b18999 0), (0, v18366)] ?_
  refine r_step rfl trivial (o_ldb (v := V a1.From) hS19001 (i := 0) rfl rfl (by kernel_rfl)) ?_
  refine xe 1 [(6, V a1.From), (3, Pt b18999 0), (0, v18366)] ?_
  refine sq ?_
  obtain ⟨o19125, ho19124, hm⟩ := obind hm
  refine W_join [0, 3, 6] (fun l h => ∃ Z19184 : Zn, ∃ x19186 : api_Row, ∃ x19187 : Int, ∃ b19185 : Nat, (x19186, x19187) = o19125 ∧ l = [(0, v18366), (3, Pt b19185 0), (6, V x19187)] ∧ St hs [] Z (0, 0) Z19184 h [.blk b19185 (K33 x19186)]) ?_ ?_
  rintro l h19188 ⟨Z19184, x19186, x19187, b19185, rfl, rfl, hS19189⟩
  try dsimp only at hm
  refine sr r15_6 ?_
  refine xe 2 [(7, V x19187), (0, v18366), (3, Pt b19185 0), (6, V x19187)] ?_
  refine sr r15_7 ?_
  refine xq 2 [(35, Pt b19185 1), (34, v18366), (7, V x19187), (0, v18366), (3, Pt b19185 0), (6, V x19187)] ?_
  refine r_step rfl trivial (o_ldb (v := V x19186.From) hS19189 (i := 0) rfl rfl (by kernel_rfl)) ?_
  obtain ⟨hc19190, hm⟩ := chk hm
  refine r_step rfl trivial (o_index rfl rfl (by kernel_rfl : slTy _ _ = some (csz api_Token)) (RS.based (q18365.mono hS19189.zle) (by omega)) hc19190.1 hc19190.2) ?_
  refine xq 1 [(38, .pointer (some (elemA v18366 x19186.From (csz api_Token) 1))), (7, V x19187), (0, v18366), (3, Pt b19185 0), (6, V x19187)] ?_
  obtain ⟨x19191, hx19192, hm⟩ := obind hm
  obtain ⟨cs19193, hc19194, he19195⟩ := RS.elz (q18365.mono hS19189.zle) (i := x19186.From) hx19192
  obtain rfl := rc_api_Token hc19194
  refine r_step rfl trivial (o_lde (w := V x19191.From) (he19195 _ (hS19189.zin0 (Zle.refl _))) rfl (by kernel_rfl)) ?_
  refine xe 1 [(8, V x19191.From), (7, V x19187), (0, v18366), (3, Pt b19185 0), (6, V x19187)] ?_
  refine sr r15_8 ?_
  refine xe 1 [(9, .slice none 0 0), (8, V x19191.From), (7, V x19187), (0, v18366), (3, Pt b19185 0), (6, V x19187)] ?_
  refine sq ?_
  obtain ⟨o19326, ho19325, hm⟩ := obind hm
  refine W_join [0, 3, 6, 7, 8, 9] (fun l h => ∃ Z19404 : Zn, ∃ x19406 : api_Row, ∃ x19407 : Int, ∃ x19408 : Int, ∃ x19409 : Int, ∃ x19410 : List correctorref9_Entry, ∃ b19405 : Nat, ∃ v19412 : Value, ∃ c19413 : List Value, (x19406, x19407, x19408, x19409, x19410) = o19326 ∧ RCs (α := correctorref9_Entry) Z19404 c19413 x19410 ∧ l = [(0, v18366), (3, Pt b19405 0), (6, V x19407), (7, V x19408), (8, V x19409), (9, v19412)] ∧ St hs [] Z (0, 0) Z19404 h [.blk b19405 (K33 x19406), .gs v19412 c19413 (csz correctorref9_Entry)]) ?_ ?_
  rintro l h19414 ⟨Z19404, x19406, x19407, x19408, x19409, x19410, b19405, v19412, c19413, rfl, q19411, rfl, hS19415⟩
  try dsimp only at hm
  refine sr r15_12 ?_
  refine xe 2 [(10, V x19407), (0, v18366), (3, Pt b19405 0), (6, V x19407), (7, V x19408), (8, V x19409), (9, v19412)] ?_
  refine sq ?_
  obtain ⟨o19463, ho19462, hm⟩ := obind hm
  refine W_join [0, 3, 6, 7, 8, 9, 10] (fun l h => ∃ Z19556 : Zn, ∃ x19558 : api_Row, ∃ x19559 : Int, ∃ x19560 : Int, ∃ x19561 : Int, ∃ x19562 : List correctorref9_Entry, ∃ x19566 : Int, ∃ b19557 : Nat, ∃ v19564 : Value, ∃ c19565 : List Value, (x19558, x19559, x19560, x19561, x19562, x19566) = o19463 ∧ RCs (α := correctorref9_Entry) Z19556 c19565 x19562 ∧ l = [(0, v18366), (3, Pt b19557 0), (6, V x19559), (7, V x19560), (8, V x19561), (9, v19564), (10, V x19566)] ∧ St hs [] Z (0, 0) Z19556 h [.blk b19557 (K33 x19558), .gs v19564 c19565 (csz correctorref9_Entry)]) ?_ ?_
  rintro l h19567 ⟨Z19556, x19558, x19559, x19560, x19561, x19562, x19566, b19557, v19564, c19565, rfl, q19563, rfl, hS19568⟩
  try dsimp only at hm
  refine sq ?_
  obtain ⟨o19593, ho19592, hm⟩ := obind hm
  refine W_join [0, 3, 6, 7, 8, 9, 10] (fun l h => ∃ Z19617 : Zn, ∃ x19619 : api_Row, ∃ x19620 : List correctorref9_Entry, ∃ x19624 : Int, ∃ b19618 : Nat, ∃ v19622 : Value, ∃ c19623 : List Value, (x19619, x19620, x19624) = o19593 ∧ RCs (α := correctorref9_Entry) Z19617 c19623 x19620 ∧ l = [(0, v18366), (3, Pt b19618 0), (6, V x19559), (7, V x19560), (8, V x19561), (9, v19622), (10, V x19624)] ∧ St hs [] Z (0, 0) Z19617 h [.blk b19618 (K33 x19619), .gs v19622 c19623 (csz correctorref9_Entry)]) ?_ ?_
  rintro l h19625 ⟨Z19617, x19619, x19620, x19624, b19618, v19622, c19623, rfl, q19621, rfl, hS19626⟩
  try dsimp only at hm
  refine sq ?_
  obtain ⟨o19674, ho19673, hm⟩ := obind hm
  refine W_join [7, 9] (fun l h => ∃ Z19737 : Zn, ∃ x19738 : List correctorref9_Entry, ∃ v19740 : Value, ∃ c19741 : List Value, x19738 = o19674 ∧ RCs (α := correctorref9_Entry) Z19737 c19741 x19738 ∧ l = [(7, V x19560), (9, v19740)] ∧ St hs [] Z (0, 0) Z19737 h [.gs v19740 c19741 (csz correctorref9_Entry)]) ?_ ?_
  rintro l h19742 ⟨Z19737, x19738, v19740, c19741, rfl, q19739, rfl, hS19743⟩
  try dsimp only at hm
  refine sq ?_
  refine sr r15_19 ?_
  refine xq 1 [(143, v19740), (7, V x19560), (9, v19740)] ?_
  refine r_step rfl trivial (o_len rfl (hS19743.glen (i := 0) rfl q19739) ⟨_, Go.Proofs.Try.underlying38⟩) ?_
  rcases ifs hm with ⟨hp19746, hm⟩ | ⟨hp19746, hm⟩
  refine r_step rfl trivial (o_cmp rfl rfl (c_eql_T hp19746)) ?_
  refine xf [(145, .bool true), (7, V x19560), (9, v19740)] ?_
  refine cT 145 rfl ?_
  refine sr r15_20 ?_
  refine xe 3 [(5, V x19560), (4, .slice none 0 0)] ?_
  refine rt ?_
  refine ⟨rfl, ?_⟩
  have hS19747 := hS19743.nilGs (csz correctorref9_Entry)
  obtain rfl := Option.some.inj hm
  refine ⟨_, _, _, ResL.tmp rfl (ResL.tmp rfl (ResL.nil)), (hS19747.takeN 1), ?_⟩
  exact ⟨(.slice none 0 0), [], rfl, rfl, (RCs.nil0 _)⟩
  refine r_step rfl trivial (o_cmp rfl rfl (c_eql_F hp19746)) ?_
  refine xf [(145, .bool false), (7, V x19560), (9, v19740)] ?_
  refine kF 145 rfl ?_
  refine srF r15_21 hS19743 ?_
  intro bs19749 h19750 hlv19752 hS19751
  refine yq 3 [(149, v19740), (148, v19740), (147, v19740)] ?_
  refine e_val rfl trivial (o_len rfl (hS19751.glen (i := 0) rfl q19739) ⟨_, Go.Proofs.Try.underlying38⟩) ?_
  refine yq 1 [(151, V (w64 ((x19738.length : Int) - 1))), (148, v19740), (147, v19740)] ?_
  obtain ⟨hc19753, hm⟩ := chk hm
  refine e_val rfl trivial (o_index rfl rfl (by kernel_rfl : slTy _ _ = some (csz correctorref9_Entry)) (hS19751.gbased (j := 0) rfl q19739 (by omega)) hc19753.1 hc19753.2) ?_
  refine yq 1 [(153, .pointer (some (elemA v19740 (w64 ((x19738.length : Int) - 1)) (csz correctorref9_Entry) 3))), (147, v19740)] ?_
  obtain ⟨x19754, hx19755, hm⟩ := obind hm
  obtain ⟨cs19756, hc19757, he19758, ht19759⟩ := hS19751.gel (j := 0) rfl q19739 (i := w64 ((x19738.length : Int) - 1)) hx19755
  obtain rfl := rc_correctorref9_Entry hc19757
  have ps19760 := pos_of hx19755
  have hB19761 := hS19751.gbased (j := 0) rfl q19739 ps19760
  have lt19762 : (baseOf v19740).block < bs19749 := row_ltM (hlv19752.1 _ (List.mem_of_getElem? (i := 0) rfl)) hB19761
  refine e_lookB rfl trivial rfl (by show (baseOf v19740).block < _; omega) (same1 (v := V x19754.To) trivial) (o_lde (w := V x19754.To) he19758 rfl (by kernel_rfl)) trivial ?_
  refine ye 2 [(5, V x19754.To), (4, v19740)] ?_
  have hS19763 := hS19751.unres
  refine rt ?_
  refine ⟨rfl, ?_⟩
  obtain rfl := Option.some.inj hm
  refine ⟨_, _, _, ResL.tmp rfl (ResL.tmp rfl (ResL.nil)), hS19763, ?_⟩
  exact ⟨v19740, c19741, rfl, rfl, q19739⟩
  refine sq ?_
  obtain ⟨o19694, ho19693, ho19673⟩ := obind ho19673
  refine W_join [0, 6, 7, 8, 9, 10, 128] (fun l h => ∃ Z19704 : Zn, ∃ x19705 : List correctorref9_Entry, ∃ x19709 : Bool, ∃ v19707 : Value, ∃ c19708 : List Value, (x19705, x19709) = o19694 ∧ RCs (α := correctorref9_Entry) Z19704 c19708 x19705 ∧ l = [(0, v18366), (6, V x19559), (7, V x19560), (8, V x19561), (9, v19707), (10, V x19624), (128, .bool x19709)] ∧ St hs [] Z (0, 0) Z19704 h [.gs v19707 c19708 (csz correctorref9_Entry)]) ?_ ?_
  rintro l h19710 ⟨Z19704, x19705, x19709, v19707, c19708, rfl, q19706, rfl, hS19711⟩
  try dsimp only at ho19673
  rcases ifs ho19673 with ⟨hp19712, ho19673⟩ | ⟨hp19712, ho19673⟩
  refine W_condT (x := .tmp 128) (by kernel_rfl) rfl hp19712 ?_
  refine rg r15_18 ?_
  refine xq 3 [(131, V x19559), (130, v18366), (129, v19707), (6, V x19559), (7, V x19560), (8, V x19561), (9, v19707), (10, V x19624)] ?_
  obtain ⟨hc19713, ho19673⟩ := chk ho19673
  refine r_step rfl trivial (o_index rfl rfl (by kernel_rfl : slTy _ _ = some (csz api_Token)) (RS.based (q18365.mono hS19711.zle) (by omega)) hc19713.1 hc19713.2) ?_
  refine xq 1 [(133, .pointer (some (elemA v18366 x19559 (csz api_Token) 1))), (129, v19707), (6, V x19559), (7, V x19560), (8, V x19561), (9, v19707), (10, V x19624)] ?_
  obtain ⟨x19714, hx19715, ho19673⟩ := obind ho19673
  obtain ⟨cs19716, hc19717, he19718⟩ := RS.elz (q18365.mono hS19711.zle) (i := x19559) hx19715
  obtain rfl := rc_api_Token hc19717
  refine r_step rfl trivial (o_lde (w := V x19714.From) (he19718 _ (hS19711.zin0 (Zle.refl _))) rfl (by kernel_rfl)) ?_
  refine xq 6 [(140, .agg #[.bool false, V (w64 (x19714.From - x19561)), V x19559, V (w64 (x19624 + 1))]), (129, v19707), (7, V x19560), (9, v19707)] ?_
  have q19723 : RCs (α := correctorref9_Entry) Z19704 [.bool false, V (w64 (x19714.From - x19561)), V x19559, V (w64 (x19624 + 1))] [(⟨false, w64 (x19714.From - x19561), x19559, w64 (x19624 + 1)⟩ : correctorref9_Entry)] := RCs.cons (cs := [.bool false, V (w64 (x19714.From - x19561)), V x19559, V (w64 (x19624 + 1))]) rfl (RCs.nil0 _)
  refine r_row rfl trivial (o_bs (cells := [.bool false, V (w64 (x19714.From - x19561)), V x19559, V (w64 (x19624 + 1))]) (s := 4) (by kernel_rfl)) (by kernel_rfl) hS19711 ?_
  intro v19720 h19721 hS19722
  replace hS19722 : St _ _ _ _ _ _ [.gs v19720 [.bool false, V (w64 (x19714.From - x19561)), V x19559, V (w64 (x19624 + 1))] (csz correctorref9_Entry), .gs v19707 c19708 (csz correctorref9_Entry)] := hS19722
  obtain ⟨hc19731, ho19673⟩ := chk ho19673
  refine r_ex3 rfl trivial (o_app (ys := [(⟨false, w64 (x19714.From - x19561), x19559, w64 (x19624 + 1)⟩ : correctorref9_Entry)]) (by_ := 32) hS19722 (i := 1) rfl q19706 ((hS19722).gnews (j := 0) rfl q19723) rfl rfl (by kernel_rfl) (by omega) (by omega)) ?_
  rintro v19726 c19727 h19728 ⟨q19730, hS19729⟩
  replace hS19729 : St _ _ _ _ _ _ [.gs v19720 [.bool false, V (w64 (x19714.From - x19561)), V x19559, V (w64 (x19624 + 1))] (csz correctorref9_Entry), .gs v19726 c19727 (csz correctorref9_Entry)] := hS19729
  refine xe 1 [(9, v19726), (7, V x19560)] ?_
  obtain rfl := Option.some.inj ho19673
  exact ⟨_, x19705 ++ [(⟨false, w64 (x19714.From - x19561), x19559, w64 (x19624 + 1)⟩ : correctorref9_Entry)], v19726, c19727, rfl, q19730, rfl, ((hS19729.front 1 rfl).takeN 1)⟩
  refine W_condF (x := .tmp 128) (by kernel_rfl) rfl (Bool.eq_false_iff.2 hp19712) ?_
  refine sk ?_
  obtain rfl := Option.some.inj ho19673
  exact ⟨_, x19705, v19707, c19708, rfl, q19706, rfl, hS19711⟩
  refine rg r15_17 ?_
  refine xq 2 [(118, Pt b19618 2), (117, V x19624), (0, v18366), (6, V x19559), (7, V x19560), (8, V x19561), (9, v19622), (10, V x19624)] ?_
  refine r_step rfl trivial (o_ldb (v := V x19619.To) hS19626 (i := 0) rfl rfl (by kernel_rfl)) ?_
  rcases ifs ho19693 with ⟨hp19695, ho19693⟩ | ⟨hp19695, ho19693⟩
  refine r_step rfl trivial (o_cmp rfl rfl (c_lss_T hp19695)) ?_
  refine xq 3 [(123, V x19624), (122, v18366), (121, .bool true), (0, v18366), (6, V x19559), (7, V x19560), (8, V x19561), (9, v19622), (10, V x19624)] ?_
  obtain ⟨hc19696, ho19693⟩ := chk ho19693
  refine r_step rfl rfl (o_index rfl rfl (by kernel_rfl : slTy _ _ = some (csz api_Token)) (RS.based (q18365.mono hS19626.zle) (by omega)) hc19696.1 hc19696.2) ?_
  refine xq 1 [(125, .pointer (some (elemA v18366 x19624 (csz api_Token) 0))), (121, .bool true), (0, v18366), (6, V x19559), (7, V x19560), (8, V x19561), (9, v19622), (10, V x19624)] ?_
  obtain ⟨x19697, hx19698, ho19693⟩ := obind ho19693
  obtain ⟨cs19699, hc19700, he19701⟩ := RS.elz (q18365.mono hS19626.zle) (i := x19624) hx19698
  obtain rfl := rc_api_Token hc19700
  refine r_step rfl rfl (o_lde (w := V x19697.Kind) (he19701 _ (hS19626.zin0 (Zle.refl _))) rfl (by kernel_rfl)) ?_
  rcases ifs ho19693 with ⟨hp19703, ho19693⟩ | ⟨hp19703, ho19693⟩
  refine r_step rfl rfl (o_cmp rfl rfl (c_eql_T hp19703)) ?_
  refine xe 1 [(128, .bool true), (0, v18366), (6, V x19559), (7, V x19560), (8, V x19561), (9, v19622), (10, V x19624)] ?_
  obtain rfl := Option.some.inj ho19693
  exact ⟨_, x19620, true, v19622, c19623, rfl, q19621, rfl, ((hS19626.front 1 rfl).takeN 1)⟩
  refine r_step rfl rfl (o_cmp rfl rfl (c_eql_F hp19703)) ?_
  refine xe 1 [(128, .bool false), (0, v18366), (6, V x19559), (7, V x19560), (8, V x19561), (9, v19622), (10, V x19624)] ?_
  obtain rfl := Option.some.inj ho19693
  exact ⟨_, x19620, false, v19622, c19623, rfl, q19621, rfl, ((hS19626.front 1 rfl).takeN 1)⟩
  refine r_step rfl trivial (o_cmp rfl rfl (c_lss_F hp19695)) ?_
  refine xe 8 [(128, .bool false), (0, v18366), (6, V x19559), (7, V x19560), (8, V x19561), (9, v19622), (10, V x19624)] ?_
  obtain rfl := Option.some.inj ho19693
  exact ⟨_, x19620, false, v19622, c19623, rfl, q19621, rfl, ((hS19626.front 1 rfl).takeN 1)⟩
  refine sr r15_15 ?_
  refine xq 2 [(100, Pt b19557 2), (99, V x19566), (0, v18366), (3, Pt b19557 0), (6, V x19559), (7, V x19560), (8, V x19561), (9, v19564), (10, V x19566)] ?_
  refine r_step rfl trivial (o_ldb (v := V x19558.To) hS19568 (i := 0) rfl rfl (by kernel_rfl)) ?_
  rcases ifs ho19592 with ⟨hp19594, ho19592⟩ | ⟨hp19594, ho19592⟩
  refine r_step rfl trivial (o_cmp rfl rfl (c_lss_T hp19594)) ?_
  refine xq 3 [(105, V x19566), (104, v18366), (103, .bool true), (0, v18366), (3, Pt b19557 0), (6, V x19559), (7, V x19560), (8, V x19561), (9, v19564), (10, V x19566)] ?_
  obtain ⟨hc19595, ho19592⟩ := chk ho19592
  refine r_step rfl rfl (o_index rfl rfl (by kernel_rfl : slTy _ _ = some (csz api_Token)) (RS.based (q18365.mono hS19568.zle) (by omega)) hc19595.1 hc19595.2) ?_
  refine xq 1 [(107, .pointer (some (elemA v18366 x19566 (csz api_Token) 0))), (103, .bool true), (0, v18366), (3, Pt b19557 0), (6, V x19559), (7, V x19560), (8, V x19561), (9, v19564), (10, V x19566)] ?_
  obtain ⟨x19596, hx19597, ho19592⟩ := obind ho19592
  obtain ⟨cs19598, hc19599, he19600⟩ := RS.elz (q18365.mono hS19568.zle) (i := x19566) hx19597
  obtain rfl := rc_api_Token hc19599
  refine r_step rfl rfl (o_lde (w := V x19596.Kind) (he19600 _ (hS19568.zin0 (Zle.refl _))) rfl (by kernel_rfl)) ?_
  obtain ⟨r19602, hx19603, ho19592⟩ := obind ho19592
  obtain ⟨v19604, h19605, hcl19606, hSc19607, rfl⟩ := correctorref9_Scalar_ok F hS19568.inv  hx19603
  have hS19608 := St.call (A := []) (B := [.blk b19557 (K33 x19558), .gs v19564 c19565 (csz correctorref9_Entry)]) hS19568 hSc19607
  replace hS19608 : St _ _ _ _ _ _ [.blk b19557 (K33 x19558), .gs v19564 c19565 (csz correctorref9_Entry)] := hS19608
  refine r_step rfl rfl (o_call hcl19606 rfl rfl rfl) ?_
  refine xe 1 [(110, .bool r19602), (0, v18366), (3, Pt b19557 0), (6, V x19559), (7, V x19560), (8, V x19561), (9, v19564), (10, V x19566)] ?_
  rcases ifs ho19592 with ⟨hp19609, ho19592⟩ | ⟨hp19609, ho19592⟩
  refine W_condT (x := .tmp 110) (by kernel_rfl) rfl hp19609 ?_
  refine rg r15_16 ?_
  refine xq 4 [(114, Pt b19557 2), (113, V (w64 (x19566 + 1))), (111, v18366), (0, v18366), (3, Pt b19557 0), (6, V x19559), (7, V x19560), (8, V x19561), (9, v19564), (10, V x19566)] ?_
  refine r_step rfl trivial (o_ldb (v := V x19558.To) hS19608 (i := 0) rfl rfl (by kernel_rfl)) ?_
  obtain ⟨r19610, hx19611, ho19592⟩ := obind ho19592
  obtain ⟨v19612, h19613, hcl19614, hSc19615, rfl⟩ := correctorref9_skip_ok F hS19608.inv (q18365.mono hS19568.zle) hx19611
  have hS19616 := St.call (A := []) (B := [.blk b19557 (K33 x19558), .gs v19564 c19565 (csz correctorref9_Entry)]) hS19608 hSc19615
  replace hS19616 : St _ _ _ _ _ _ [.blk b19557 (K33 x19558), .gs v19564 c19565 (csz correctorref9_Entry)] := hS19616
  refine r_step rfl trivial (o_call hcl19614 rfl rfl rfl) ?_
  refine xe 1 [(10, V r19610), (0, v18366), (3, Pt b19557 0), (6, V x19559), (7, V x19560), (8, V x19561), (9, v19564)] ?_
  obtain rfl := Option.some.inj ho19592
  exact ⟨_, x19558, x19562, r19610, b19557, v19564, c19565, rfl, q19563, rfl, hS19616⟩
  refine W_condF (x := .tmp 110) (by kernel_rfl) rfl (Bool.eq_false_iff.2 hp19609) ?_
  refine sk ?_
  obtain rfl := Option.some.inj ho19592
  exact ⟨_, x19558, x19562, x19566, b19557, v19564, c19565, rfl, q19563, rfl, hS19608⟩
  refine r_step rfl trivial (o_cmp rfl rfl (c_lss_F hp19594)) ?_
  refine xe 8 [(110, .bool false), (0, v18366), (3, Pt b19557 0), (6, V x19559), (7, V x19560), (8, V x19561), (9, v19564), (10, V x19566)] ?_
  refine kF 110 rfl ?_
  obtain rfl := Option.some.inj ho19592
  exact ⟨_, x19558, x19562, x19566, b19557, v19564, c19565, rfl, q19563, rfl, hS19568⟩
  refine bk 4 ?_
  refine lp [0, 3, 6, 7, 8, 9, 10] (fun n l h => ∃ Z19464 : Zn, ∃ x19466 : api_Row, ∃ x19467 : Int, ∃ x19468 : Int, ∃ x19469 : Int, ∃ x19470 : List correctorref9_Entry, ∃ x19474 : Int, ∃ b19465 : Nat, ∃ v19472 : Value, ∃ c19473 : List Value, correctorref9_Entries_l2 F a0 a1 n x19466 x19467 x19468 x19469 x19470 x19474 = some o19463 ∧ RCs (α := correctorref9_Entry) Z19464 c19473 x19470 ∧ l = [(0, v18366), (3, Pt b19465 0), (6, V x19467), (7, V x19468), (8, V x19469), (9, v19472), (10, V x19474)] ∧ St hs [] Z (0, 0) Z19464 h [.blk b19465 (K33 x19466), .gs v19472 c19473 (csz correctorref9_Entry)]) F ⟨_, x19406, x19407, x19408, x19409, x19410, x19407, b19405, v19412, c19413, ho19462, q19411, rfl, hS19415⟩ ?_
  rintro n19477 l h19475 ⟨Z19464, x19466, x19467, x19468, x19469, x19470, x19474, b19465, v19472, c19473, ho19462, q19471, rfl, hS19476⟩
  rcases n19477 with _ | n19477
  cases (show none = some o19463 from ho19462)
  rw [correctorref9_Entries_l2] at ho19462
  refine sq ?_
  obtain ⟨o19496, ho19495, ho19462⟩ := obind ho19462
  refine W_join [0, 3, 6, 7, 8, 9, 10] (fun l h => ∃ Z19514 : Zn, ∃ x19516 : api_Row, ∃ x19517 : List correctorref9_Entry, ∃ b19515 : Nat, ∃ v19519 : Value, ∃ c19520 : List Value, .inl (x19516, x19517) = o19496 ∧ RCs (α := correctorref9_Entry) Z19514 c19520 x19517 ∧ l = [(0, v18366), (3, Pt b19515 0), (6, V x19467), (7, V x19468), (8, V x19469), (9, v19519), (10, V x19474)] ∧ St hs [] Z (0, 0) Z19514 h [.blk b19515 (K33 x19516), .gs v19519 c19520 (csz correctorref9_Entry)]) ?_ ?_
  rintro l h19521 ⟨Z19514, x19516, x19517, b19515, v19519, c19520, rfl, q19518, rfl, hS19522⟩
  try dsimp only at ho19462
  refine bk 5 ?_
  refine rg r15_14 ?_
  refine xq 4 [(96, Pt b19515 2), (95, V (w64 (x19474 + 1))), (93, v18366), (0, v18366), (3, Pt b19515 0), (6, V x19467), (7, V x19468), (8, V x19469), (9, v19519), (10, V x19474)] ?_
  refine r_step rfl trivial (o_ldb (v := V x19516.To) hS19522 (i := 0) rfl rfl (by kernel_rfl)) ?_
  obtain ⟨r19523, hx19524, ho19462⟩ := obind ho19462
  obtain ⟨v19525, h19526, hcl19527, hSc19528, rfl⟩ := correctorref9_skip_ok F hS19522.inv (q18365.mono hS19522.zle) hx19524
  have hS19529 := St.call (A := []) (B := [.blk b19515 (K33 x19516), .gs v19519 c19520 (csz correctorref9_Entry)]) hS19522 hSc19528
  replace hS19529 : St _ _ _ _ _ _ [.blk b19515 (K33 x19516), .gs v19519 c19520 (csz correctorref9_Entry)] := hS19529
  refine r_step rfl trivial (o_call hcl19527 rfl rfl rfl) ?_
  refine xe 1 [(10, V r19523), (0, v18366), (3, Pt b19515 0), (6, V x19467), (7, V x19468), (8, V x19469), (9, v19519)] ?_
  exact ⟨n19477, Nat.lt_succ_self _, ⟨_, x19516, x19467, x19468, x19469, x19517, r19523, b19515, v19519, c19520, ho19462, q19518, rfl, hS19529⟩⟩
  refine sr r15_13 ?_
  refine xq 2 [(74, Pt b19465 2), (73, V x19474), (0, v18366), (3, Pt b19465 0), (6, V x19467), (7, V x19468), (8, V x19469), (9, v19472), (10, V x19474)] ?_
  refine r_step rfl trivial (o_ldb (v := V x19466.To) hS19476 (i := 0) rfl rfl (by kernel_rfl)) ?_
  rcases ifs ho19495 with ⟨hp19497, ho19495⟩ | ⟨hp19497, ho19495⟩
  refine r_step rfl trivial (o_cmp rfl rfl (c_lss_T hp19497)) ?_
  refine xq 3 [(79, V x19474), (78, v18366), (77, .bool true), (0, v18366), (3, Pt b19465 0), (6, V x19467), (7, V x19468), (8, V x19469), (9, v19472), (10, V x19474)] ?_
  obtain ⟨hc19498, ho19495⟩ := chk ho19495
  refine r_step rfl rfl (o_index rfl rfl (by kernel_rfl : slTy _ _ = some (csz api_Token)) (RS.based (q18365.mono hS19476.zle) (by omega)) hc19498.1 hc19498.2) ?_
  refine xq 1 [(81, .pointer (some (elemA v18366 x19474 (csz api_Token) 0))), (77, .bool true), (0, v18366), (3, Pt b19465 0), (6, V x19467), (7, V x19468), (8, V x19469), (9, v19472), (10, V x19474)] ?_
  obtain ⟨x19499, hx19500, ho19495⟩ := obind ho19495
  obtain ⟨cs19501, hc19502, he19503⟩ := RS.elz (q18365.mono hS19476.zle) (i := x19474) hx19500
  obtain rfl := rc_api_Token hc19502
  refine r_step rfl rfl (o_lde (w := V x19499.Kind) (he19503 _ (hS19476.zin0 (Zle.refl _))) rfl (by kernel_rfl)) ?_
  rcases ifs ho19495 with ⟨hp19505, ho19495⟩ | ⟨hp19505, ho19495⟩
  refine r_step rfl rfl (o_cmp rfl rfl (c_eql_T hp19505)) ?_
  refine xe 9 [(92, .bool true), (0, v18366), (3, Pt b19465 0), (6, V x19467), (7, V x19468), (8, V x19469), (9, v19472), (10, V x19474)] ?_
  refine kT 92 rfl ?_
  obtain rfl := Option.some.inj ho19495
  exact ⟨_, x19466, x19470, b19465, v19472, c19473, rfl, q19471, rfl, hS19476⟩
  refine r_step rfl rfl (o_cmp rfl rfl (c_eql_F hp19505)) ?_
  refine xq 3 [(86, V x19474), (85, v18366), (84, .bool false), (77, .bool true), (0, v18366), (3, Pt b19465 0), (6, V x19467), (7, V x19468), (8, V x19469), (9, v19472), (10, V x19474)] ?_
  obtain ⟨hc19506, ho19495⟩ := chk ho19495
  refine r_step rfl rfl (o_index rfl rfl (by kernel_rfl : slTy _ _ = some (csz api_Token)) (RS.based (q18365.mono hS19476.zle) (by omega)) hc19506.1 hc19506.2) ?_
  refine xq 1 [(88, .pointer (some (elemA v18366 x19474 (csz api_Token) 0))), (84, .bool false), (77, .bool true), (0, v18366), (3, Pt b19465 0), (6, V x19467), (7, V x19468), (8, V x19469), (9, v19472), (10, V x19474)] ?_
  obtain ⟨x19507, hx19508, ho19495⟩ := obind ho19495
  obtain ⟨cs19509, hc19510, he19511⟩ := RS.elz (q18365.mono hS19476.zle) (i := x19474) hx19508
  obtain rfl := rc_api_Token hc19510
  refine r_step rfl rfl (o_lde (w := V x19507.Kind) (he19511 _ (hS19476.zin0 (Zle.refl _))) rfl (by kernel_rfl)) ?_
  rcases ifs ho19495 with ⟨hp19513, ho19495⟩ | ⟨hp19513, ho19495⟩
  refine r_step rfl rfl (o_cmp rfl rfl (c_eql_T hp19513)) ?_
  refine xe 2 [(92, .bool true), (0, v18366), (3, Pt b19465 0), (6, V x19467), (7, V x19468), (8, V x19469), (9, v19472), (10, V x19474)] ?_
  refine kT 92 rfl ?_
  obtain rfl := Option.some.inj ho19495
  exact ⟨_, x19466, x19470, b19465, v19472, c19473, rfl, q19471, rfl, hS19476⟩
  refine r_step rfl rfl (o_cmp rfl rfl (c_eql_F hp19513)) ?_
  refine xe 2 [(92, .bool false), (0, v18366), (3, Pt b19465 0), (6, V x19467), (7, V x19468), (8, V x19469), (9, v19472), (10, V x19474)] ?_
  refine cF 92 rfl ?_
  refine xt 4 ?_
  refine blkX_hit ?_
  obtain rfl := Option.some.inj ho19495
  obtain rfl := Option.some.inj ho19462
  exact ⟨_, x19466, x19467, x19468, x19469, x19470, x19474, b19465, v19472, c19473, rfl, q19471, rfl, hS19476⟩
  refine r_step rfl trivial (o_cmp rfl rfl (c_lss_F hp19497)) ?_
  refine xe 16 [(92, .bool false), (0, v18366), (3, Pt b19465 0), (6, V x19467), (7, V x19468), (8, V x19469), (9, v19472), (10, V x19474)] ?_
  refine cF 92 rfl ?_
  refine xt 4 ?_
  refine blkX_hit ?_
  obtain rfl := Option.some.inj ho19495
  obtain rfl := Option.some.inj ho19462
  exact ⟨_, x19466, x19467, x19468, x19469, x19470, x19474, b19465, v19472, c19473, rfl, q19471, rfl, hS19476⟩
  refine bk 2 ?_
  have hS19327 := hS19189.nilGs (csz correctorref9_Entry)
  refine lp [0, 3, 6, 7, 8, 9] (fun n l h => ∃ Z19329 : Zn, ∃ x19331 : api_Row, ∃ x19332 : Int, ∃ x19333 : Int, ∃ x19334 : Int, ∃ x19335 : List correctorref9_Entry, ∃ b19330 : Nat, ∃ v19337 : Value, ∃ c19338 : List Value, correctorref9_Entries_l1 F a0 a1 n x19331 x19332 x19333 x19334 x19335 = some o19326 ∧ RCs (α := correctorref9_Entry) Z19329 c19338 x19335 ∧ l = [(0, v18366), (3, Pt b19330 0), (6, V x19332), (7, V x19333), (8, V x19334), (9, v19337)] ∧ St hs [] Z (0, 0) Z19329 h [.blk b19330 (K33 x19331), .gs v19337 c19338 (csz correctorref9_Entry)]) F ⟨_, x19186, x19187, x19187, x19191.From, [], b19185, (.slice none 0 0), [], ho19325, (RCs.nil0 _), rfl, ((hS19327.front 0 rfl).front 1 rfl)⟩ ?_
  rintro n19341 l h19339 ⟨Z19329, x19331, x19332, x19333, x19334, x19335, b19330, v19337, c19338, ho19325, q19336, rfl, hS19340⟩
  rcases n19341 with _ | n19341
  cases (show none = some o19326 from ho19325)
  rw [correctorref9_Entries_l1] at ho19325
  refine sq ?_
  refine sr r15_9 ?_
  refine xq 2 [(41, Pt b19330 2), (40, V x19332), (0, v18366), (3, Pt b19330 0), (6, V x19332), (7, V x19333), (8, V x19334), (9, v19337)] ?_
  refine r_step rfl trivial (o_ldb (v := V x19331.To) hS19340 (i := 0) rfl rfl (by kernel_rfl)) ?_
  rcases ifs ho19325 with ⟨hp19360, ho19325⟩ | ⟨hp19360, ho19325⟩
  refine r_step rfl trivial (o_cmp rfl rfl (c_lss_T hp19360)) ?_
  refine xq 3 [(46, V x19332), (45, v18366), (44, .bool true), (0, v18366), (3, Pt b19330 0), (6, V x19332), (7, V x19333), (8, V x19334), (9, v19337)] ?_
  obtain ⟨hc19361, ho19325⟩ := chk ho19325
  refine r_step rfl rfl (o_index rfl rfl (by kernel_rfl : slTy _ _ = some (csz api_Token)) (RS.based (q18365.mono hS19340.zle) (by omega)) hc19361.1 hc19361.2) ?_
  refine xq 1 [(48, .pointer (some (elemA v18366 x19332 (csz api_Token) 0))), (44, .bool true), (0, v18366), (3, Pt b19330 0), (6, V x19332), (7, V x19333), (8, V x19334), (9, v19337)] ?_
  obtain ⟨x19362, hx19363, ho19325⟩ := obind ho19325
  obtain ⟨cs19364, hc19365, he19366⟩ := RS.elz (q18365.mono hS19340.zle) (i := x19332) hx19363
  obtain rfl := rc_api_Token hc19365
  refine r_step rfl rfl (o_lde (w := V x19362.Kind) (he19366 _ (hS19340.zin0 (Zle.refl _))) rfl (by kernel_rfl)) ?_
  rcases ifs ho19325 with ⟨hp19368, ho19325⟩ | ⟨hp19368, ho19325⟩
  refine r_step rfl rfl (o_cmp rfl rfl (c_eql_T hp19368)) ?_
  refine xe 1 [(51, .bool true), (0, v18366), (3, Pt b19330 0), (6, V x19332), (7, V x19333), (8, V x19334), (9, v19337)] ?_
  refine kT 51 rfl ?_
  refine bk 3 ?_
  refine sr r15_10 ?_
  refine xq 3 [(54, V x19332), (53, v18366), (52, v19337), (0, v18366), (3, Pt b19330 0), (6, V x19332), (7, V x19333), (8, V x19334), (9, v19337)] ?_
  obtain ⟨hc19369, ho19325⟩ := chk ho19325
  refine r_step rfl trivial (o_index rfl rfl (by kernel_rfl : slTy _ _ = some (csz api_Token)) (RS.based (q18365.mono hS19340.zle) (by omega)) hc19369.1 hc19369.2) ?_
  refine xq 1 [(56, .pointer (some (elemA v18366 x19332 (csz api_Token) 1))), (52, v19337), (0, v18366), (3, Pt b19330 0), (6, V x19332), (7, V x19333), (8, V x19334), (9, v19337)] ?_
  obtain ⟨x19370, hx19371, ho19325⟩ := obind ho19325
  obtain ⟨cs19372, hc19373, he19374⟩ := RS.elz (q18365.mono hS19340.zle) (i := x19332) hx19371
  obtain rfl := rc_api_Token hc19373
  refine r_step rfl trivial (o_lde (w := V x19370.From) (he19374 _ (hS19340.zin0 (Zle.refl _))) rfl (by kernel_rfl)) ?_
  refine xq 6 [(63, .agg #[.bool true, V (w64 (x19370.From - x19334)), V x19332, V (w64 (x19332 + 1))]), (52, v19337), (0, v18366), (3, Pt b19330 0), (6, V x19332), (7, V x19333), (8, V x19334), (9, v19337)] ?_
  have q19379 : RCs (α := correctorref9_Entry) Z19329 [.bool true, V (w64 (x19370.From - x19334)), V x19332, V (w64 (x19332 + 1))] [(⟨true, w64 (x19370.From - x19334), x19332, w64 (x19332 + 1)⟩ : correctorref9_Entry)] := RCs.cons (cs := [.bool true, V (w64 (x19370.From - x19334)), V x19332, V (w64 (x19332 + 1))]) rfl (RCs.nil0 _)
  refine r_row rfl trivial (o_bs (cells := [.bool true, V (w64 (x19370.From - x19334)), V x19332, V (w64 (x19332 + 1))]) (s := 4) (by kernel_rfl)) (by kernel_rfl) hS19340 ?_
  intro v19376 h19377 hS19378
  replace hS19378 : St _ _ _ _ _ _ [.gs v19376 [.bool true, V (w64 (x19370.From - x19334)), V x19332, V (w64 (x19332 + 1))] (csz correctorref9_Entry), .blk b19330 (K33 x19331), .gs v19337 c19338 (csz correctorref9_Entry)] := hS19378
  obtain ⟨hc19387, ho19325⟩ := chk ho19325
  refine r_ex3 rfl trivial (o_app (ys := [(⟨true, w64 (x19370.From - x19334), x19332, w64 (x19332 + 1)⟩ : correctorref9_Entry)]) (by_ := 32) hS19378 (i := 2) rfl q19336 ((hS19378).gnews (j := 0) rfl q19379) rfl rfl (by kernel_rfl) (by omega) (by omega)) ?_
  rintro v19382 c19383 h19384 ⟨q19386, hS19385⟩
  replace hS19385 : St _ _ _ _ _ _ [.gs v19376 [.bool true, V (w64 (x19370.From - x19334)), V x19332, V (w64 (x19332 + 1))] (csz correctorref9_Entry), .blk b19330 (K33 x19331), .gs v19382 c19383 (csz correctorref9_Entry)] := hS19385
  refine xe 1 [(9, v19382), (0, v18366), (3, Pt b19330 0), (6, V x19332), (7, V x19333), (8, V x19334)] ?_
  refine rg r15_11 ?_
  refine xq 4 [(69, Pt b19330 2), (68, V (w64 (x19332 + 1))), (66, v18366), (9, v19382), (0, v18366), (3, Pt b19330 0), (6, V x19332), (7, V x19333), (8, V x19334)] ?_
  refine r_step rfl trivial (o_ldb (v := V x19331.To) hS19385 (i := 1) rfl rfl (by kernel_rfl)) ?_
  obtain ⟨r19388, hx19389, ho19325⟩ := obind ho19325
  obtain ⟨v19390, h19391, hcl19392, hSc19393, rfl⟩ := correctorref9_skip_ok F hS19385.inv (q18365.mono hS19340.zle) hx19389
  have hS19394 := St.call (A := []) (B := [.gs v19376 [.bool true, V (w64 (x19370.From - x19334)), V x19332, V (w64 (x19332 + 1))] (csz correctorref9_Entry), .blk b19330 (K33 x19331), .gs v19382 c19383 (csz correctorref9_Entry)]) hS19385 hSc19393
  replace hS19394 : St _ _ _ _ _ _ [.gs v19376 [.bool true, V (w64 (x19370.From - x19334)), V x19332, V (w64 (x19332 + 1))] (csz correctorref9_Entry), .blk b19330 (K33 x19331), .gs v19382 c19383 (csz correctorref9_Entry)] := hS19394
  refine r_step rfl trivial (o_call hcl19392 rfl rfl rfl) ?_
  refine xe 1 [(6, V r19388), (9, v19382), (0, v18366), (3, Pt b19330 0), (7, V x19333), (8, V x19334)] ?_
  exact ⟨n19341, Nat.lt_succ_self _, ⟨_, x19331, r19388, x19333, x19334, x19335 ++ [(⟨true, w64 (x19370.From - x19334), x19332, w64 (x19332 + 1)⟩ : correctorref9_Entry)], b19330, v19382, c19383, ho19325, q19386, rfl, (((hS19394.front 2 rfl).front 2 rfl).takeN 2)⟩⟩
  refine r_step rfl rfl (o_cmp rfl rfl (c_eql_F hp19368)) ?_
  refine xe 1 [(51, .bool false), (0, v18366), (3, Pt b19330 0), (6, V x19332), (7, V x19333), (8, V x19334), (9, v19337)] ?_
  refine cF 51 rfl ?_
  refine xt 2 ?_
  refine blkX_hit ?_
  obtain rfl := Option.some.inj ho19325
  exact ⟨_, x19331, x19332, x19333, x19334, x19335, b19330, v19337, c19338, rfl, q19336, rfl, hS19340⟩
  refine r_step rfl trivial (o_cmp rfl rfl (c_lss_F hp19360)) ?_
  refine xe 8 [(51, .bool false), (0, v18366), (3, Pt b19330 0), (6, V x19332), (7, V x19333), (8, V x19334), (9, v19337)] ?_
  refine cF 51 rfl ?_
  refine xt 2 ?_
  refine blkX_hit ?_
  obtain rfl := Option.some.inj ho19325
  exact ⟨_, x19331, x19332, x19333, x19334, x19335, b19330, v19337, c19338, rfl, q19336, rfl, hS19340⟩
  refine bk 0 ?_
  refine lp [0, 3, 6] (fun n l h => ∃ Z19126 : Zn, ∃ x19128 : api_Row, ∃ x19129 : Int, ∃ b19127 : Nat, correctorref9_Entries_l0 F a0 a1 n x19128 x19129 = some o19125 ∧ l = [(0, v18366), (3, Pt b19127 0), (6, V x19129)] ∧ St hs [] Z (0, 0) Z19126 h [.blk b19127 (K33 x19128)]) F ⟨_, a1, a1.From, b18999, ho19124, rfl, hS19001⟩ ?_
  rintro n19132 l h19130 ⟨Z19126, x19128, x19129, b19127, ho19124, rfl, hS19131⟩
  rcases n19132 with _ | n19132
  cases (show none = some o19125 from ho19124)
  rw [correctorref9_Entries_l0] at ho19124
  refine sq ?_
  refine sr r15_4 ?_
  refine xq 2 [(19, Pt b19127 2), (18, V x19129), (0, v18366), (3, Pt b19127 0), (6, V x19129)] ?_
  refine r_step rfl trivial (o_ldb (v := V x19128.To) hS19131 (i := 0) rfl rfl (by kernel_rfl)) ?_
  rcases ifs ho19124 with ⟨hp19165, ho19124⟩ | ⟨hp19165, ho19124⟩
  refine r_step rfl trivial (o_cmp rfl rfl (c_lss_T hp19165)) ?_
  refine xq 3 [(24, V x19129), (23, v18366), (22, .bool true), (0, v18366), (3, Pt b19127 0), (6, V x19129)] ?_
  obtain ⟨hc19166, ho19124⟩ := chk ho19124
  refine r_step rfl rfl (o_index rfl rfl (by kernel_rfl : slTy _ _ = some (csz api_Token)) (RS.based (q18365.mono hS19131.zle) (by omega)) hc19166.1 hc19166.2) ?_
  refine xq 1 [(26, .pointer (some (elemA v18366 x19129 (csz api_Token) 0))), (22, .bool true), (0, v18366), (3, Pt b19127 0), (6, V x19129)] ?_
  obtain ⟨x19167, hx19168, ho19124⟩ := obind ho19124
  obtain ⟨cs19169, hc19170, he19171⟩ := RS.elz (q18365.mono hS19131.zle) (i := x19129) hx19168
  obtain rfl := rc_api_Token hc19170
  refine r_step rfl rfl (o_lde (w := V x19167.Kind) (he19171 _ (hS19131.zin0 (Zle.refl _))) rfl (by kernel_rfl)) ?_
  obtain ⟨r19173, hx19174, ho19124⟩ := obind ho19124
  obtain ⟨v19175, h19176, hcl19177, hSc19178, rfl⟩ := correctorref6_Counts_ok F hS19131.inv  hx19174
  have hS19179 := St.call (A := []) (B := [.blk b19127 (K33 x19128)]) hS19131 hSc19178
  replace hS19179 : St _ _ _ _ _ _ [.blk b19127 (K33 x19128)] := hS19179
  refine r_step rfl rfl (o_call hcl19177 rfl rfl rfl) ?_
  rcases ifs ho19124 with ⟨hp19180, ho19124⟩ | ⟨hp19180, ho19124⟩
  refine r_setb (t := 28) rfl hp19180 ?_
  refine xe 2 [(30, .bool false), (0, v18366), (3, Pt b19127 0), (6, V x19129)] ?_
  refine cF 30 rfl ?_
  refine xt 0 ?_
  refine blkX_hit ?_
  obtain rfl := Option.some.inj ho19124
  exact ⟨_, x19128, x19129, b19127, rfl, rfl, hS19179⟩
  refine r_setb (t := 28) rfl (Bool.eq_false_iff.2 hp19180) ?_
  refine xe 2 [(30, .bool true), (0, v18366), (3, Pt b19127 0), (6, V x19129)] ?_
  refine kT 30 rfl ?_
  refine bk 1 ?_
  refine rg r15_5 ?_
  refine xe 3 [(6, V (w64 (x19129 + 1))), (0, v18366), (3, Pt b19127 0)] ?_
  exact ⟨n19132, Nat.lt_succ_self _, ⟨_, x19128, w64 (x19129 + 1), b19127, ho19124, rfl, hS19179⟩⟩
  refine r_step rfl trivial (o_cmp rfl rfl (c_lss_F hp19165)) ?_
  refine xe 9 [(30, .bool false), (0, v18366), (3, Pt b19127 0), (6, V x19129)] ?_
  refine cF 30 rfl ?_
  refine xt 0 ?_
  refine blkX_hit ?_
  obtain rfl := Option.some.inj ho19124
  exact ⟨_, x19128, x19129, b19127, rfl, rfl, hS19131⟩
  refine r_step rfl trivial (o_cmp rfl rfl (c_neq_T hp19016)) ?_
  refine xf [(13, .bool true), (3, Pt b18999 0), (0, v18366)] ?_
  refine cT 13 rfl ?_
  refine srF r15_2 hS19001 ?_
  intro bs19803 h19804 hlv19806 hS19805
  refine yq 1 [(14, Pt b18999 1)] ?_
  have lt19807 : b18999 < bs19803 := hlv19806.1 _ (List.mem_of_getElem? (i := 0) rfl) _ (by simp [Itm.ids])
  refine e_lookB rfl trivial rfl (by show b18999 < _; omega) (same1 (v := V a1.From) trivial) (o_ldb (v := V a1.From) hS19805 (i := 0) rfl rfl (by kernel_rfl)) trivial ?_
  refine ye 2 [(5, V a1.From), (4, .slice none 0 0)] ?_
  have hS19808 := hS19805.unres
  refine rt ?_
  refine ⟨rfl, ?_⟩
  have hS19809 := hS19808.nilGs (csz correctorref9_Entry)
  obtain rfl := Option.some.inj hm
  refine ⟨_, _, _, ResL.tmp rfl (ResL.tmp rfl (ResL.nil)), (hS19809.takeN 1), ?_⟩
  exact ⟨(.slice none 0 0), [], rfl, rfl, (RCs.nil0 _)⟩

def r9_0 : List COp := [u 0 (.assign (.const (.bool false)))]
def r9_1 : List COp := [u 6 (.buildSlice 23 8 #[(0, (.const (.int .u8 45))), (1, (.const (.int .u8 32))), (2, (.const (.int .u8 45))), (3, (.const (.int .u8 32))), (4, (.const (.int .u8 97))), (5, (.const (.int .u8 58))), (6, (.const (.int .u8 32))), (7, (.const (.int .u8 49)))]), u 7 (.convert 23 23 (t 6)), u 1 (.assign (t 7))]
def r9_2 : List COp := [u 8 (.move (t 1)), u 9 (cf 11 #[(t 8)] #[23]), u 2 (.assign (t 9))]
def r9_3 : List COp := [u 10 (.move (t 1)), u 11 (.move (t 2)), u 12 (cf 12 #[(t 10), (t 11)] #[23, 27]), u 3 (.assign (t 12))]
def r9_4 : List COp := [u 13 (.move (t 3)), u 14 (cb .len #[(t 13)] #[29]), u 15 (.binOp .neq 3 (t 14) (ci 1) 3), u 16 (.move (t 15)), gN 16 (some 17) (.move (t 3)), gN 16 (some 18) (.indexAddr 29 (t 17) (ci 0)), gN 16 (some 19) (.fieldAddr 33 (t 18) 0), gN 16 (some 20) (.load 3 (t 19)), gN 16 (some 21) (.binOp .neq 3 (t 20) (ci 5) 3), u 22 (.pick (t 16) (.const (.bool true)) (t 21))]
def r9_5 : List COp := [u 0 (.assign (.const (.bool false)))]
def r9_6 : List COp := [u 24 (.move (t 1)), u 25 (.move (t 2)), u 26 (.move (t 3)), u 27 (.indexAddr 29 (t 26) (ci 0)), u 28 (.load 33 (t 27)), u 29 (cf 14 #[(t 24), (t 25), (t 28)] #[23, 27, 33]), u 23 (.move (t 29)), u 30 (.extract (t 23) 0), u 31 (.extract (t 23) 1), u 4 (.assign (t 30)), u 5 (.assign (t 31))]
def r9_7 : List COp := [u 32 (.move (t 4)), u 33 (cb .len #[(t 32)] #[35]), u 34 (.binOp .eql 3 (t 33) (ci 3) 3), u 35 (.move (t 34)), gT 35 (some 36) (.move (t 4)), gT 35 (some 37) (.indexAddr 35 (t 36) (ci 1)), gT 35 (some 38) (.fieldAddr 42 (t 37) 1), gT 35 (some 39) (.load 3 (t 38)), gT 35 (some 40) (.binOp .eql 3 (t 39) (ci 2) 3), u 41 (.pick (t 35) (t 40) (.const (.bool false))), u 42 (.move (t 41)), gT 42 (some 43) (.move (t 4)), gT 42 (some 44) (.indexAddr 35 (t 43) (ci 2)), gT 42 (some 45) (.fieldAddr 42 (t 44) 1), gT 42 (some 46) (.load 3 (t 45)), gT 42 (some 47) (.binOp .eql 3 (t 46) (ci 4) 3), u 48 (.pick (t 42) (t 47) (.const (.bool false))), u 49 (.move (t 48)), gT 49 (some 50) (.move (t 4)), gT 49 (some 51) (.indexAddr 35 (t 50) (ci 2)), gT 49 (some 52) (.fieldAddr 42 (t 51) 0), gT 49 (some 53) (.load 4 (t 52)), gT 49 (some 54) (.unOp .not 4 (t 53)), u 55 (.pick (t 49) (t 54) (.const (.bool false))), u 0 (.assign (t 55))]
def correctorlaw9_known (F : Nat) : Option Bool :=
  if 0 < ([45, 32, 45, 32, 97, 58, 32, 49] : List UInt8).length then
    (correctorref6_Tokens F ([45, 32, 45, 32, 97, 58, 32, 49] : List UInt8)).bind fun r19936 =>
    (rows_Rows F ([45, 32, 45, 32, 97, 58, 32, 49] : List UInt8) r19936).bind fun r19954 =>
    if (r19954.length : Int) = (1 : Int) then
      if 0 ≤ (0 : Int) ∧ (0 : Int) < (r19954.length : Int) then
        (r19954[(0 : Int).toNat]?).bind fun x19988 =>
        if x19988.Kind = (5 : Int) then
          if 0 ≤ (0 : Int) ∧ (0 : Int) < (r19954.length : Int) then
            (r19954[(0 : Int).toNat]?).bind fun x19996 =>
            (rows_Entries F ([45, 32, 45, 32, 97, 58, 32, 49] : List UInt8) r19936 x19996).bind fun r20002 =>
            if (r20002.1.length : Int) = (3 : Int) then
              if 0 ≤ (1 : Int) ∧ (1 : Int) < (r20002.1.length : Int) then
                (r20002.1[(1 : Int).toNat]?).bind fun x20018 =>
                if x20018.Col = (2 : Int) then
                  if 0 ≤ (2 : Int) ∧ (2 : Int) < (r20002.1.length : Int) then
                    (r20002.1[(2 : Int).toNat]?).bind fun x20026 =>
                    if x20026.Col = (4 : Int) then
                      if 0 ≤ (2 : Int) ∧ (2 : Int) < (r20002.1.length : Int) then
                        (r20002.1[(2 : Int).toNat]?).bind fun x20034 =>
                        if x20034.Dash = true then
                          some false
                        else
                          some true
                      else none
                    else
                      some false
                  else none
                else
                  some false
              else none
            else
              some false
          else none
        else
          some false
      else none
    else
      some false
  else none
theorem correctorlaw9_known_ok (F : Nat) {h : AH} {Z : Zn} (hI : Inv Z h) {r : Bool} (hm : correctorlaw9_known F = some r) :
    ∃ v h', callI Go.Proofs.Try.prog 9 [] h = some (v, h') ∧ St h [] Z (0, 0) Z h' [] ∧ v = .bool r := by
  refine fn_plain (Q := fun v => v = .bool r) Go.Proofs.Try.func9 rfl rfl hI ?_
  intro hs hS
  unfold correctorlaw9_known at hm
  refine sr r9_0 ?_
  refine xe 1 [] ?_
  refine sr r9_1 ?_
  have q19929 : RCs (α := UInt8) Z [.int .u8 45, .int .u8 32, .int .u8 45, .int .u8 32, .int .u8 97, .int .u8 58, .int .u8 32, .int .u8 49] ([45, 32, 45, 32, 97, 58, 32, 49] : List UInt8) := RCs.cons (cs := [.int .u8 45]) rfl (RCs.cons (cs := [.int .u8 32]) rfl (RCs.cons (cs := [.int .u8 45]) rfl (RCs.cons (cs := [.int .u8 32]) rfl (RCs.cons (cs := [.int .u8 97]) rfl (RCs.cons (cs := [.int .u8 58]) rfl (RCs.cons (cs := [.int .u8 32]) rfl (RCs.cons (cs := [.int .u8 49]) rfl (RCs.nil0 _))))))))
  refine r_row rfl trivial (o_bs (cells := [.int .u8 45, .int .u8 32, .int .u8 45, .int .u8 32, .int .u8 97, .int .u8 58, .int .u8 32, .int .u8 49]) (s := 1) (by kernel_rfl)) (by kernel_rfl) hS ?_
  intro v19926 h19927 hS19928
  replace hS19928 : St _ _ _ _ _ _ [.gs v19926 [.int .u8 45, .int .u8 32, .int .u8 45, .int .u8 32, .int .u8 97, .int .u8 58, .int .u8 32, .int .u8 49] (csz UInt8)] := hS19928
  obtain ⟨hc19931, hm⟩ := chk hm
  refine r_step rfl trivial (o_convid hS19928 (j := 0) rfl q19929 hc19931 rfl (by kernel_rfl)) ?_
  refine xe 1 [(1, v19926)] ?_
  refine sr r9_2 ?_
  refine xq 1 [(8, v19926), (1, v19926)] ?_
  obtain ⟨Z19932, hZ19933, q19934, hS19935⟩ := (hS19928.front 0 rfl).freeze q19929
  replace hS19935 : St _ _ _ _ _ _ [] := hS19935
  obtain ⟨r19936, hx19937, hm⟩ := obind hm
  have hSr19943 : St _ _ _ _ _ _ ([] ++ []) := hS19935
  obtain ⟨v19938, h19939, Z19944, A19946, hcl19940, hSc19941, v19948, c19949, rfl, rfl, q19947⟩ := correctorref6_Tokens_ok F hSr19943.preL q19934 hx19937
  have hS19942 := hSr19943.call hSc19941
  have hZ19945 := hSc19941.zle
  replace hS19942 : St _ _ _ _ _ _ [.gs v19948 c19949 (csz api_Token)] := hS19942
  refine r_step rfl trivial (o_call hcl19940 rfl rfl rfl) ?_
  refine xe 1 [(2, v19948), (1, v19926)] ?_
  refine sr r9_3 ?_
  refine xq 2 [(11, v19948), (10, v19926), (2, v19948), (1, v19926)] ?_
  obtain ⟨Z19950, hZ19951, q19952, hS19953⟩ := (hS19942.front 0 rfl).freeze q19947
  replace hS19953 : St _ _ _ _ _ _ [] := hS19953
  obtain ⟨r19954, hx19955, hm⟩ := obind hm
  have hSr19961 : St _ _ _ _ _ _ ([] ++ []) := hS19953
  obtain ⟨v19956, h19957, Z19962, A19964, hcl19958, hSc19959, v19966, c19967, rfl, rfl, q19965⟩ := rows_Rows_ok F hSr19961.preL (q19934.mono (hZ19945.trans hZ19951)) q19952 hx19955
  have hS19960 := hSr19961.call hSc19959
  have hZ19963 := hSc19959.zle
  replace hS19960 : St _ _ _ _ _ _ [.gs v19966 c19967 (csz api_Row)] := hS19960
  refine r_step rfl trivial (o_call hcl19958 rfl rfl rfl) ?_
  refine xe 1 [(3, v19966), (2, v19948), (1, v19926)] ?_
  refine sq ?_
  refine sr r9_4 ?_
  refine xq 1 [(13, v19966), (3, v19966), (2, v19948), (1, v19926)] ?_
  refine r_step rfl trivial (o_len rfl (hS19960.glen (i := 0) rfl q19965) ⟨_, Go.Proofs.Try.underlying29⟩) ?_
  rcases ifs hm with ⟨hp19986, hm⟩ | ⟨hp19986, hm⟩
  refine r_step rfl trivial (o_cmp rfl rfl (c_neq_F hp19986)) ?_
  refine xq 2 [(17, v19966), (16, .bool false), (3, v19966), (2, v19948), (1, v19926)] ?_
  obtain ⟨hc19987, hm⟩ := chk hm
  refine r_step rfl rfl (o_index rfl rfl (by kernel_rfl : slTy _ _ = some (csz api_Row)) (hS19960.gbased (j := 0) rfl q19965 (by omega)) hc19987.1 hc19987.2) ?_
  refine xq 1 [(19, .pointer (some (elemA v19966 0 (csz api_Row) 0))), (16, .bool false), (3, v19966), (2, v19948), (1, v19926)] ?_
  obtain ⟨x19988, hx19989, hm⟩ := obind hm
  obtain ⟨cs19990, hc19991, he19992, ht19993⟩ := hS19960.gel (j := 0) rfl q19965 (i := 0) hx19989
  obtain rfl := rc_api_Row hc19991
  refine r_step rfl rfl (o_lde (w := V x19988.Kind) he19992 rfl (by kernel_rfl)) ?_
  rcases ifs hm with ⟨hp19994, hm⟩ | ⟨hp19994, hm⟩
  refine r_step rfl rfl (o_cmp rfl rfl (c_neq_F hp19994)) ?_
  refine xe 1 [(22, .bool false), (3, v19966), (2, v19948), (1, v19926)] ?_
  refine kF 22 rfl ?_
  refine sr r9_6 ?_
  refine xq 3 [(26, v19966), (25, v19948), (24, v19926)] ?_
  obtain ⟨hc19995, hm⟩ := chk hm
  refine r_step rfl trivial (o_index rfl rfl (by kernel_rfl : slTy _ _ = some (csz api_Row)) (hS19960.gbased (j := 0) rfl q19965 (by omega)) hc19995.1 hc19995.2) ?_
  obtain ⟨x19996, hx19997, hm⟩ := obind hm
  obtain ⟨cs19998, hc19999, he20000, ht20001⟩ := hS19960.gel (j := 0) rfl q19965 (i := 0) hx19997
  obtain rfl := rc_api_Row hc19999
  refine r_step rfl trivial (o_lde (w := .agg #[V x19996.Kind, V x19996.From, V x19996.To, V x19996.Col]) he20000 rfl (by kernel_rfl)) ?_
  obtain ⟨r20002, hx20003, hm⟩ := obind hm
  have hSr20009 : St _ _ _ _ _ _ ([] ++ [.gs v19966 c19967 (csz api_Row)]) := hS19960
  obtain ⟨v20004, h20005, Z20010, A20012, hcl20006, hSc20007, v20014, c20015, rfl, rfl, q20013⟩ := rows_Entries_ok F hSr20009.preL (q19934.mono (hZ19945.trans (hZ19951.trans hZ19963))) (q19952.mono hZ19963) hx20003
  have hS20008 := hSr20009.call hSc20007
  have hZ20011 := hSc20007.zle
  replace hS20008 : St _ _ _ _ _ _ [.gs v20014 c20015 (csz rows_Entry), .gs v19966 c19967 (csz api_Row)] := hS20008
  refine r_step rfl trivial (o_call hcl20006 rfl rfl rfl) ?_
  refine xe 5 [(4, v20014)] ?_
  refine sr r9_7 ?_
  refine xq 1 [(32, v20014), (4, v20014)] ?_
  refine r_step rfl trivial (o_len rfl (hS20008.glen (i := 0) rfl q20013) ⟨_, Go.Proofs.Try.underlying35⟩) ?_
  rcases ifs hm with ⟨hp20016, hm⟩ | ⟨hp20016, hm⟩
  refine r_step rfl trivial (o_cmp rfl rfl (c_eql_T hp20016)) ?_
  refine xq 2 [(36, v20014), (35, .bool true), (4, v20014)] ?_
  obtain ⟨hc20017, hm⟩ := chk hm
  refine r_step rfl rfl (o_index rfl rfl (by kernel_rfl : slTy _ _ = some (csz rows_Entry)) (hS20008.gbased (j := 0) rfl q20013 (by omega)) hc20017.1 hc20017.2) ?_
  refine xq 1 [(38, .pointer (some (elemA v20014 1 (csz rows_Entry) 1))), (35, .bool true), (4, v20014)] ?_
  obtain ⟨x20018, hx20019, hm⟩ := obind hm
  obtain ⟨cs20020, hc20021, he20022, ht20023⟩ := hS20008.gel (j := 0) rfl q20013 (i := 1) hx20019
  obtain rfl := rc_rows_Entry hc20021
  refine r_step rfl rfl (o_lde (w := V x20018.Col) he20022 rfl (by kernel_rfl)) ?_
  rcases ifs hm with ⟨hp20024, hm⟩ | ⟨hp20024, hm⟩
  refine r_step rfl rfl (o_cmp rfl rfl (c_eql_T hp20024)) ?_
  refine xq 3 [(43, v20014), (42, .bool true), (4, v20014)] ?_
  obtain ⟨hc20025, hm⟩ := chk hm
  refine r_step rfl rfl (o_index rfl rfl (by kernel_rfl : slTy _ _ = some (csz rows_Entry)) (hS20008.gbased (j := 0) rfl q20013 (by omega)) hc20025.1 hc20025.2) ?_
  refine xq 1 [(45, .pointer (some (elemA v20014 2 (csz rows_Entry) 1))), (42, .bool true), (4, v20014)] ?_
  obtain ⟨x20026, hx20027, hm⟩ := obind hm
  obtain ⟨cs20028, hc20029, he20030, ht20031⟩ := hS20008.gel (j := 0) rfl q20013 (i := 2) hx20027
  obtain rfl := rc_rows_Entry hc20029
  refine r_step rfl rfl (o_lde (w := V x20026.Col) he20030 rfl (by kernel_rfl)) ?_
  rcases ifs hm with ⟨hp20032, hm⟩ | ⟨hp20032, hm⟩
  refine r_step rfl rfl (o_cmp rfl rfl (c_eql_T hp20032)) ?_
  refine xq 3 [(50, v20014), (49, .bool true)] ?_
  obtain ⟨hc20033, hm⟩ := chk hm
  refine r_step rfl rfl (o_index rfl rfl (by kernel_rfl : slTy _ _ = some (csz rows_Entry)) (hS20008.gbased (j := 0) rfl q20013 (by omega)) hc20033.1 hc20033.2) ?_
  refine xq 1 [(52, .pointer (some (elemA v20014 2 (csz rows_Entry) 0))), (49, .bool true)] ?_
  obtain ⟨x20034, hx20035, hm⟩ := obind hm
  obtain ⟨cs20036, hc20037, he20038, ht20039⟩ := hS20008.gel (j := 0) rfl q20013 (i := 2) hx20035
  obtain rfl := rc_rows_Entry hc20037
  refine r_step rfl rfl (o_lde (w := .bool x20034.Dash) he20038 rfl (by kernel_rfl)) ?_
  rcases ifs hm with ⟨hp20040, hm⟩ | ⟨hp20040, hm⟩
  refine r_setb (t := 53) rfl hp20040 ?_
  refine xe 3 [(0, .bool false)] ?_
  refine rt ?_
  refine ⟨rfl, ?_⟩
  obtain rfl := Option.some.inj hm
  refine ⟨_, _, _, ResL.tmp rfl (ResL.nil), hS20008, ?_⟩
  exact rfl
  refine r_setb (t := 53) rfl (Bool.eq_false_iff.2 hp20040) ?_
  refine xe 3 [(0, .bool true)] ?_
  refine rt ?_
  refine ⟨rfl, ?_⟩
  obtain rfl := Option.some.inj hm
  refine ⟨_, _, _, ResL.tmp rfl (ResL.nil), hS20008, ?_⟩
  exact rfl
  refine r_step rfl rfl (o_cmp rfl rfl (c_eql_F hp20032)) ?_
  refine xe 9 [(0, .bool false)] ?_
  refine rt ?_
  refine ⟨rfl, ?_⟩
  obtain rfl := Option.some.inj hm
  refine ⟨_, _, _, ResL.tmp rfl (ResL.nil), hS20008, ?_⟩
  exact rfl
  refine r_step rfl rfl (o_cmp rfl rfl (c_eql_F hp20024)) ?_
  refine xe 16 [(0, .bool false)] ?_
  refine rt ?_
  refine ⟨rfl, ?_⟩
  obtain rfl := Option.some.inj hm
  refine ⟨_, _, _, ResL.tmp rfl (ResL.nil), hS20008, ?_⟩
  exact rfl
  refine r_step rfl trivial (o_cmp rfl rfl (c_eql_F hp20016)) ?_
  refine xe 22 [(0, .bool false)] ?_
  refine rt ?_
  refine ⟨rfl, ?_⟩
  obtain rfl := Option.some.inj hm
  refine ⟨_, _, _, ResL.tmp rfl (ResL.nil), hS20008, ?_⟩
  exact rfl
  refine r_step rfl rfl (o_cmp rfl rfl (c_neq_T hp19994)) ?_
  refine xe 1 [(22, .bool true), (3, v19966), (2, v19948), (1, v19926)] ?_
  refine cT 22 rfl ?_
  refine sr r9_5 ?_
  refine xe 1 [(0, .bool false)] ?_
  refine rt ?_
  refine ⟨rfl, ?_⟩
  obtain rfl := Option.some.inj hm
  refine ⟨_, _, _, ResL.tmp rfl (ResL.nil), hS19960, ?_⟩
  exact rfl
  refine r_step rfl trivial (o_cmp rfl rfl (c_neq_T hp19986)) ?_
  refine xe 7 [(22, .bool true), (3, v19966), (2, v19948), (1, v19926)] ?_
  refine cT 22 rfl ?_
  refine sr r9_5 ?_
  refine xe 1 [(0, .bool false)] ?_
  refine rt ?_
  refine ⟨rfl, ?_⟩
  obtain rfl := Option.some.inj hm
  refine ⟨_, _, _, ResL.tmp rfl (ResL.nil), hS19960, ?_⟩
  exact rfl

def r17_0 : List COp := [u 4 (.assign (ci 0))]
def r17_1 : List COp := [u 6 (.move (t 0)), u 7 (.move (t 1)), u 8 (.binOp .rem 3 (t 6) (t 7) 3), u 5 (.assign (t 8))]
def r17_2 : List COp := [u 9 (.move (t 5)), u 10 (.binOp .lss 3 (t 9) (ci 0) 3)]
def r17_3 : List COp := [u 11 (.move (t 5)), u 12 (.move (t 1)), u 13 (.binOp .add 3 (t 11) (t 12) 3), u 5 (.assign (t 13))]
def r17_4 : List COp := [u 14 (.move (t 5)), u 4 (.assign (t 14))]
def correctorlaw9_within (F : Nat) (a0 : Int) (a1 : Int) : Option Int :=
  if ¬ a1 = (0 : Int) then
    ((if (a0.tmod a1) < (0 : Int) then
        some (w64 ((a0.tmod a1) + a1))
      else
        some (a0.tmod a1)) : Option Int).bind fun o => match o with
      | x20053 => some x20053
  else none
theorem correctorlaw9_within_ok (F : Nat) {h : AH} {Z : Zn} {a0 : Int} {a1 : Int} (hI : Inv Z h) {r : Int} (hm : correctorlaw9_within F a0 a1 = some r) :
    ∃ v h', callI Go.Proofs.Try.prog 17 [V a0, V a1] h = some (v, h') ∧ St h [] Z (0, 0) Z h' [] ∧ v = V r := by
  refine fn_plain (Q := fun v => v = V r) Go.Proofs.Try.func17 rfl rfl hI ?_
  intro hs hS
  unfold correctorlaw9_within at hm
  refine sr r17_0 ?_
  refine xe 1 [(0, V a0), (1, V a1)] ?_
  refine sr r17_1 ?_
  refine xq 2 [(7, V a1), (6, V a0), (1, V a1)] ?_
  obtain ⟨hc20047, hm⟩ := chk hm
  refine r_step rfl trivial (o_rem hc20047 rfl rfl) ?_
  refine xe 1 [(5, V (a0.tmod a1)), (1, V a1)] ?_
  refine sq ?_
  obtain ⟨o20050, ho20049, hm⟩ := obind hm
  refine W_seqJoin0 [5] (fun l h => ∃ Z20052 : Zn, ∃ x20053 : Int, x20053 = o20050 ∧ l = [(5, V x20053)] ∧ St hs [] Z (0, 0) Z20052 h []) (by kernel_rfl) ?_ ?_
  rintro l h20054 ⟨Z20052, x20053, rfl, rfl, hS20055⟩
  try dsimp only at hm
  refine sr r17_4 ?_
  refine xe 2 [(4, V x20053)] ?_
  refine rt ?_
  refine ⟨rfl, ?_⟩
  obtain rfl := Option.some.inj hm
  refine ⟨_, _, _, ResL.tmp rfl (ResL.nil), hS20055, ?_⟩
  exact rfl
  refine rg r17_2 ?_
  refine xq 1 [(9, V (a0.tmod a1)), (5, V (a0.tmod a1)), (1, V a1)] ?_
  rcases ifs ho20049 with ⟨hp20051, ho20049⟩ | ⟨hp20051, ho20049⟩
  refine r_step rfl trivial (o_cmp rfl rfl (c_lss_T hp20051)) ?_
  refine xf [(10, .bool true), (5, V (a0.tmod a1)), (1, V a1)] ?_
  refine cT 10 rfl ?_
  refine rg r17_3 ?_
  refine xe 4 [(5, V (w64 ((a0.tmod a1) + a1)))] ?_
  obtain rfl := Option.some.inj ho20049
  exact ⟨_, w64 ((a0.tmod a1) + a1), rfl, rfl, hS⟩
  refine r_step rfl trivial (o_cmp rfl rfl (c_lss_F hp20051)) ?_
  refine xf [(10, .bool false), (5, V (a0.tmod a1)), (1, V a1)] ?_
  refine kF 10 rfl ?_
  obtain rfl := Option.some.inj ho20049
  exact ⟨_, a0.tmod a1, rfl, rfl, hS⟩

end Go.Proofs.Ytcnbcimnfeekjaa.M
