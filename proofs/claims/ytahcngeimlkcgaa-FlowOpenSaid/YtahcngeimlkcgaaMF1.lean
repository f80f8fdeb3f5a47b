/- Printed by a program of this session: Go functions as Lean functions over plain data, and that the calls come to them. -/
import Derived.Test.YtahcngeimlkcgaaSyJ
import Derived.Test.YtahcngeimlkcgaaChecked
import Derived.KernelRfl
import Derived.Test.YtahcngeimlkcgaaMF0
namespace Go.Proofs.Ytahcngeimlkcgaa.M
open Go Am Sy
open Sy.Cell (rc)
set_option linter.unusedVariables false
set_option linter.unusedSimpArgs false
set_option maxRecDepth 20000

def r67_0 : List COp := [u 4 (.assign (ci 0))]
def r67_1 : List COp := [u 5 (.assign (ci 0))]
def r67_2 : List COp := [u 8 (.move (t 1)), u 6 (.assign (t 8))]
def r67_3 : List COp := [u 9 (.move (t 6)), u 10 (.move (t 0)), u 11 (.nilCheck (t 10)), u 12 (.fieldAddr 58 (t 11) 1), u 13 (.load 3 (t 12)), u 14 (.binOp .lss 3 (t 9) (t 13) 3), u 15 (.move (t 14)), gT 15 (some 16) (.move (t 0)), gT 15 (some 17) (.move (t 6)), gT 15 (some 18) (cf 46 #[(t 16), (t 17)] #[55, 3]), gT 15 (some 19) (cf 62 #[(t 18)] #[3]), gT 15 (some 20) (.unOp .not 4 (t 19)), u 21 (.pick (t 15) (t 20) (.const (.bool false)))]
def r67_4 : List COp := [u 22 (.move (t 6)), u 23 (.binOp .add 3 (t 22) (ci 1) 3), u 6 (.assign (t 23))]
def r67_5 : List COp := [u 24 (.move (t 0)), u 25 (.move (t 6)), u 26 (cf 46 #[(t 24), (t 25)] #[55, 3]), u 7 (.assign (t 26))]
def r67_6 : List COp := [u 27 (.move (t 5)), u 28 (.binOp .eql 3 (t 27) (ci 0) 3), u 29 (.move (t 28)), gT 29 (some 30) (.move (t 7)), gT 29 (some 31) (.binOp .eql 3 (t 30) (ci 7) 3), gT 29 (some 32) (.move (t 31)), gN 32 (some 33) (.move (t 7)), gN 32 (some 34) (cf 61 #[(t 33)] #[3]), gT 29 (some 35) (.pick (t 32) (.const (.bool true)) (t 34)), u 36 (.pick (t 29) (t 35) (.const (.bool false)))]
def r67_7 : List COp := [u 37 (.move (t 7)), u 38 (cf 49 #[(t 37)] #[3])]
def r67_8 : List COp := [u 39 (.move (t 5)), u 40 (.binOp .add 3 (t 39) (ci 1) 3), u 5 (.assign (t 40))]
def r67_9 : List COp := [u 41 (.move (t 7)), u 42 (cf 61 #[(t 41)] #[3])]
def r67_10 : List COp := [u 43 (.move (t 5)), u 44 (.binOp .sub 3 (t 43) (ci 1) 3), u 5 (.assign (t 44))]
def r67_11 : List COp := [u 45 (.move (t 0)), u 46 (.move (t 1)), u 47 (.move (t 6)), u 48 (cf 63 #[(t 45), (t 46), (t 47)] #[55, 3, 3]), u 4 (.assign (t 48))]
def flow_reader_stray_l0 (F : Nat) (a0 : flow_reader) (a1 : Int) : Nat → Int → Int → Option Int
  | 0, _, _ => none
  | n + 1, x18036, x18037 =>
    if x18037 < a0.end_ then
      (flow_reader_kind F a0 x18037).bind fun r18082 =>
      (flow_mark F r18082).bind fun r18093 =>
      if r18093 = true then
        some x18037
      else
        (flow_reader_kind F a0 x18037).bind fun r18101 =>
        ((if x18036 = (0 : Int) then
            if r18101 = (7 : Int) then
              some (.inr x18037)
            else
              (flow_ends F r18101).bind fun r18126 =>
              if r18126 = true then
                some (.inr x18037)
              else
                some (.inl ())
          else
            some (.inl ())) : Option (Sum Unit Int)).bind fun o => match o with
          | .inl () => (((flow_opens F r18101).bind fun r18147 =>
            if r18147 = true then
              some (w64 (x18036 + 1))
            else
              some x18036) : Option Int).bind fun o => match o with
            | x18156 => (flow_ends F r18101).bind fun r18159 =>
            ((if r18159 = true then
                some (w64 (x18156 - 1))
              else
                some x18156) : Option Int).bind fun o => match o with
              | x18171 => flow_reader_stray_l0 F a0 a1 n x18171 (w64 (x18037 + 1))
          | .inr y => some y
    else
      some x18037
def flow_reader_stray (F : Nat) (a0 : flow_reader) (a1 : Int) : Option Int :=
  ((flow_reader_stray_l0 F a0 a1 F 0 a1) : Option Int).bind fun o => match o with
    | x18179 => (flow_reader_over F a0 a1 x18179).bind fun r18182 =>
    some r18182
theorem flow_reader_stray_ok (F : Nat) {h : AH} {Z : Zn} {a0 : flow_reader} {a1 : Int} {b17532 : Nat} {v17534 : Value} {v17536 : Value} {v17538 : Value} {c17539 : List Value} (hP : Pre Z h [.blk b17532 (K58 v17534 v17536 v17538 a0), .gs v17538 c17539 (csz api_Diag)]) (q17533 : RS (α := api_Token) Z v17534 a0.l_) (q17535 : RS (α := api_Node) Z v17536 a0.t_.Nodes) (q17537 : RCs (α := api_Diag) Z c17539 a0.d_) {r : Int} (hm : flow_reader_stray F a0 a1 = some r) :
    ∃ v h' Z' A', callI Go.Proofs.Try.prog 67 [Pt b17532 0, V a1] h = some (v, h') ∧ St h (idsL [.blk b17532 (K58 v17534 v17536 v17538 a0), .gs v17538 c17539 (csz api_Diag)]) Z (0, 0) Z' h' A' ∧ V r = v ∧ A' = [.blk b17532 (K58 v17534 v17536 v17538 a0), .gs v17538 c17539 (csz api_Diag)] := by
  refine fn_intro (A := [.blk b17532 (K58 v17534 v17536 v17538 a0), .gs v17538 c17539 (csz api_Diag)]) (Q := fun v Z' A' => V r = v ∧ A' = [.blk b17532 (K58 v17534 v17536 v17538 a0), .gs v17538 c17539 (csz api_Diag)]) Go.Proofs.Try.func67 rfl rfl (by kernel_rfl) hP ?_
  intro hs hS
  unfold flow_reader_stray at hm
  refine sr r67_0 ?_
  refine xe 1 [(0, Pt b17532 0), (1, V a1)] ?_
  refine sr r67_1 ?_
  refine xe 1 [(5, V 0), (0, Pt b17532 0), (1, V a1)] ?_
  refine sr r67_2 ?_
  refine xe 2 [(6, V a1), (5, V 0), (0, Pt b17532 0), (1, V a1)] ?_
  refine sq ?_
  obtain ⟨o18034, ho18033, hm⟩ := obind hm
  refine W_join [0, 1, 6] (fun l h => ∃ Z18178 : Zn, ∃ x18179 : Int, x18179 = o18034 ∧ l = [(0, Pt b17532 0), (1, V a1), (6, V x18179)] ∧ St hs (idsL [.blk b17532 (K58 v17534 v17536 v17538 a0), .gs v17538 c17539 (csz api_Diag)]) Z (0, 0) Z18178 h [.blk b17532 (K58 v17534 v17536 v17538 a0), .gs v17538 c17539 (csz api_Diag)]) ?_ ?_
  rintro l h18180 ⟨Z18178, x18179, rfl, rfl, hS18181⟩
  try dsimp only at hm
  refine sr r67_11 ?_
  refine xq 3 [(47, V x18179), (46, V a1), (45, Pt b17532 0)] ?_
  obtain ⟨r18182, hx18183, hm⟩ := obind hm
  have hF18189 : St _ _ _ _ _ _ ([.blk b17532 (K58 v17534 v17536 v17538 a0), .gs v17538 c17539 (csz api_Diag)] ++ []) := ((hS18181.front 1 rfl).front 1 rfl)
  obtain ⟨v18184, h18185, Z18190, A18192, hcl18186, hSc18187, rfl, rfl⟩ := flow_reader_over_ok F hF18189.preL (q17533.mono hS18181.zle) (q17535.mono hS18181.zle) (q17537.mono hS18181.zle) hx18183
  have hZ18191 := hSc18187.zle
  have hS18188 := hF18189.call hSc18187
  replace hS18188 : St _ _ _ _ _ _ [.blk b17532 (K58 v17534 v17536 v17538 a0), .gs v17538 c17539 (csz api_Diag)] := hS18188
  refine r_step rfl trivial (o_call hcl18186 rfl rfl rfl) ?_
  refine xe 1 [(4, V r18182)] ?_
  refine rt ?_
  refine ⟨rfl, ?_⟩
  obtain rfl := Option.some.inj hm
  refine ⟨_, _, _, ResL.tmp rfl (ResL.nil), hS18188, ?_⟩
  exact ⟨rfl, rfl⟩
  refine bk 0 ?_
  refine lp [0, 1, 5, 6] (fun n l h => ∃ Z18035 : Zn, ∃ x18036 : Int, ∃ x18037 : Int, flow_reader_stray_l0 F a0 a1 n x18036 x18037 = some o18034 ∧ l = [(0, Pt b17532 0), (1, V a1), (5, V x18036), (6, V x18037)] ∧ St hs (idsL [.blk b17532 (K58 v17534 v17536 v17538 a0), .gs v17538 c17539 (csz api_Diag)]) Z (0, 0) Z18035 h [.blk b17532 (K58 v17534 v17536 v17538 a0), .gs v17538 c17539 (csz api_Diag)]) F ⟨_, 0, a1, ho18033, rfl, hS⟩ ?_
  rintro n18040 l h18038 ⟨Z18035, x18036, x18037, ho18033, rfl, hS18039⟩
  rcases n18040 with _ | n18040
  cases (show none = some o18034 from ho18033)
  rw [flow_reader_stray_l0] at ho18033
  refine sq ?_
  refine sr r67_3 ?_
  refine xq 4 [(12, Pt b17532 1), (9, V x18037), (0, Pt b17532 0), (1, V a1), (5, V x18036), (6, V x18037)] ?_
  refine r_step rfl trivial (o_ldb (v := V a0.end_) hS18039 (i := 0) rfl rfl (by kernel_rfl)) ?_
  rcases ifs ho18033 with ⟨hp18081, ho18033⟩ | ⟨hp18081, ho18033⟩
  refine r_step rfl trivial (o_cmp rfl rfl (c_lss_T hp18081)) ?_
  refine xq 3 [(17, V x18037), (16, Pt b17532 0), (15, .bool true), (0, Pt b17532 0), (1, V a1), (5, V x18036), (6, V x18037)] ?_
  obtain ⟨r18082, hx18083, ho18033⟩ := obind ho18033
  have hF18089 : St _ _ _ _ _ _ ([.blk b17532 (K58 v17534 v17536 v17538 a0), .gs v17538 c17539 (csz api_Diag)] ++ []) := ((hS18039.front 1 rfl).front 1 rfl)
  obtain ⟨v18084, h18085, Z18090, A18092, hcl18086, hSc18087, rfl, rfl⟩ := flow_reader_kind_ok F hF18089.preL (q17533.mono hS18039.zle) (q17535.mono hS18039.zle) (q17537.mono hS18039.zle) hx18083
  have hZ18091 := hSc18087.zle
  have hS18088 := hF18089.call hSc18087
  replace hS18088 : St _ _ _ _ _ _ [.blk b17532 (K58 v17534 v17536 v17538 a0), .gs v17538 c17539 (csz api_Diag)] := hS18088
  refine r_step rfl rfl (o_call hcl18086 rfl rfl rfl) ?_
  obtain ⟨r18093, hx18094, ho18033⟩ := obind ho18033
  obtain ⟨v18095, h18096, hcl18097, hSc18098, rfl⟩ := flow_mark_ok F hS18088.inv  hx18094
  have hS18099 := St.call (A := []) (B := [.blk b17532 (K58 v17534 v17536 v17538 a0), .gs v17538 c17539 (csz api_Diag)]) hS18088 hSc18098
  replace hS18099 : St _ _ _ _ _ _ [.blk b17532 (K58 v17534 v17536 v17538 a0), .gs v17538 c17539 (csz api_Diag)] := hS18099
  refine r_step rfl rfl (o_call hcl18097 rfl rfl rfl) ?_
  rcases ifs ho18033 with ⟨hp18100, ho18033⟩ | ⟨hp18100, ho18033⟩
  refine r_setb (t := 19) rfl hp18100 ?_
  refine xe 2 [(21, .bool false), (0, Pt b17532 0), (1, V a1), (5, V x18036), (6, V x18037)] ?_
  refine cF 21 rfl ?_
  refine xt 0 ?_
  refine blkX_hit ?_
  obtain rfl := Option.some.inj ho18033
  exact ⟨_, x18037, rfl, rfl, hS18099⟩
  refine r_setb (t := 19) rfl (Bool.eq_false_iff.2 hp18100) ?_
  refine xe 2 [(21, .bool true), (0, Pt b17532 0), (1, V a1), (5, V x18036), (6, V x18037)] ?_
  refine kT 21 rfl ?_
  refine sq ?_
  refine bk 1 ?_
  refine sr r67_5 ?_
  refine xq 2 [(25, V x18037), (24, Pt b17532 0), (0, Pt b17532 0), (1, V a1), (5, V x18036), (6, V x18037)] ?_
  obtain ⟨r18101, hx18102, ho18033⟩ := obind ho18033
  have hF18108 : St _ _ _ _ _ _ ([.blk b17532 (K58 v17534 v17536 v17538 a0), .gs v17538 c17539 (csz api_Diag)] ++ []) := ((hS18099.front 1 rfl).front 1 rfl)
  obtain ⟨v18103, h18104, Z18109, A18111, hcl18105, hSc18106, rfl, rfl⟩ := flow_reader_kind_ok F hF18108.preL (q17533.mono (hS18039.zle.trans hZ18091)) (q17535.mono (hS18039.zle.trans hZ18091)) (q17537.mono (hS18039.zle.trans hZ18091)) hx18102
  have hZ18110 := hSc18106.zle
  have hS18107 := hF18108.call hSc18106
  replace hS18107 : St _ _ _ _ _ _ [.blk b17532 (K58 v17534 v17536 v17538 a0), .gs v17538 c17539 (csz api_Diag)] := hS18107
  refine r_step rfl trivial (o_call hcl18105 rfl rfl rfl) ?_
  refine xe 1 [(7, V r18101), (0, Pt b17532 0), (1, V a1), (5, V x18036), (6, V x18037)] ?_
  refine sq ?_
  obtain ⟨o18123, ho18122, ho18033⟩ := obind ho18033
  refine W_join [0, 1, 5, 6, 7] (fun l h => ∃ Z18134 : Zn, .inl () = o18123 ∧ l = [(0, Pt b17532 0), (1, V a1), (5, V x18036), (6, V x18037), (7, V r18101)] ∧ St hs (idsL [.blk b17532 (K58 v17534 v17536 v17538 a0), .gs v17538 c17539 (csz api_Diag)]) Z (0, 0) Z18134 h [.blk b17532 (K58 v17534 v17536 v17538 a0), .gs v17538 c17539 (csz api_Diag)]) ?_ ?_
  rintro l h18135 ⟨Z18134, rfl, rfl, hS18136⟩
  try dsimp only at ho18033
  refine sq ?_
  obtain ⟨o18146, ho18145, ho18033⟩ := obind ho18033
  refine W_join [0, 1, 5, 6, 7] (fun l h => ∃ Z18155 : Zn, ∃ x18156 : Int, x18156 = o18146 ∧ l = [(0, Pt b17532 0), (1, V a1), (5, V x18156), (6, V x18037), (7, V r18101)] ∧ St hs (idsL [.blk b17532 (K58 v17534 v17536 v17538 a0), .gs v17538 c17539 (csz api_Diag)]) Z (0, 0) Z18155 h [.blk b17532 (K58 v17534 v17536 v17538 a0), .gs v17538 c17539 (csz api_Diag)]) ?_ ?_
  rintro l h18157 ⟨Z18155, x18156, rfl, rfl, hS18158⟩
  try dsimp only at ho18033
  refine sr r67_9 ?_
  refine xq 1 [(41, V r18101), (0, Pt b17532 0), (1, V a1), (5, V x18156), (6, V x18037)] ?_
  obtain ⟨r18159, hx18160, ho18033⟩ := obind ho18033
  obtain ⟨v18161, h18162, hcl18163, hSc18164, rfl⟩ := flow_ends_ok F hS18158.inv  hx18160
  have hS18165 := St.call (A := []) (B := [.blk b17532 (K58 v17534 v17536 v17538 a0), .gs v17538 c17539 (csz api_Diag)]) hS18158 hSc18164
  replace hS18165 : St _ _ _ _ _ _ [.blk b17532 (K58 v17534 v17536 v17538 a0), .gs v17538 c17539 (csz api_Diag)] := hS18165
  refine r_step rfl trivial (o_call hcl18163 rfl rfl rfl) ?_
  refine xf [(42, .bool r18159), (0, Pt b17532 0), (1, V a1), (5, V x18156), (6, V x18037)] ?_
  obtain ⟨o18168, ho18167, ho18033⟩ := obind ho18033
  refine W_join [0, 1, 5, 6] (fun l h => ∃ Z18170 : Zn, ∃ x18171 : Int, x18171 = o18168 ∧ l = [(0, Pt b17532 0), (1, V a1), (5, V x18171), (6, V x18037)] ∧ St hs (idsL [.blk b17532 (K58 v17534 v17536 v17538 a0), .gs v17538 c17539 (csz api_Diag)]) Z (0, 0) Z18170 h [.blk b17532 (K58 v17534 v17536 v17538 a0), .gs v17538 c17539 (csz api_Diag)]) ?_ ?_
  rintro l h18172 ⟨Z18170, x18171, rfl, rfl, hS18173⟩
  try dsimp only at ho18033
  refine rg r67_4 ?_
  refine xe 3 [(6, V (w64 (x18037 + 1))), (0, Pt b17532 0), (1, V a1), (5, V x18171)] ?_
  exact ⟨n18040, Nat.lt_succ_self _, ⟨_, x18171, w64 (x18037 + 1), ho18033, rfl, hS18173⟩⟩
  rcases ifs ho18167 with ⟨hp18169, ho18167⟩ | ⟨hp18169, ho18167⟩
  refine W_condT (x := .tmp 42) (by kernel_rfl) rfl hp18169 ?_
  refine rg r67_10 ?_
  refine xe 3 [(5, V (w64 (x18156 - 1))), (0, Pt b17532 0), (1, V a1), (6, V x18037)] ?_
  obtain rfl := Option.some.inj ho18167
  exact ⟨_, w64 (x18156 - 1), rfl, rfl, hS18165⟩
  refine W_condF (x := .tmp 42) (by kernel_rfl) rfl (Bool.eq_false_iff.2 hp18169) ?_
  refine sk ?_
  obtain rfl := Option.some.inj ho18167
  exact ⟨_, x18156, rfl, rfl, hS18165⟩
  refine sr r67_7 ?_
  refine xq 1 [(37, V r18101), (0, Pt b17532 0), (1, V a1), (5, V x18036), (6, V x18037), (7, V r18101)] ?_
  obtain ⟨r18147, hx18148, ho18145⟩ := obind ho18145
  obtain ⟨v18149, h18150, hcl18151, hSc18152, rfl⟩ := flow_opens_ok F hS18136.inv  hx18148
  have hS18153 := St.call (A := []) (B := [.blk b17532 (K58 v17534 v17536 v17538 a0), .gs v17538 c17539 (csz api_Diag)]) hS18136 hSc18152
  replace hS18153 : St _ _ _ _ _ _ [.blk b17532 (K58 v17534 v17536 v17538 a0), .gs v17538 c17539 (csz api_Diag)] := hS18153
  refine r_step rfl trivial (o_call hcl18151 rfl rfl rfl) ?_
  refine xf [(38, .bool r18147), (0, Pt b17532 0), (1, V a1), (5, V x18036), (6, V x18037), (7, V r18101)] ?_
  rcases ifs ho18145 with ⟨hp18154, ho18145⟩ | ⟨hp18154, ho18145⟩
  refine W_condT (x := .tmp 38) (by kernel_rfl) rfl hp18154 ?_
  refine rg r67_8 ?_
  refine xe 3 [(5, V (w64 (x18036 + 1))), (0, Pt b17532 0), (1, V a1), (6, V x18037), (7, V r18101)] ?_
  obtain rfl := Option.some.inj ho18145
  exact ⟨_, w64 (x18036 + 1), rfl, rfl, hS18153⟩
  refine W_condF (x := .tmp 38) (by kernel_rfl) rfl (Bool.eq_false_iff.2 hp18154) ?_
  refine sk ?_
  obtain rfl := Option.some.inj ho18145
  exact ⟨_, x18036, rfl, rfl, hS18153⟩
  refine sr r67_6 ?_
  refine xq 1 [(27, V x18036), (7, V r18101), (0, Pt b17532 0), (1, V a1), (5, V x18036), (6, V x18037)] ?_
  rcases ifs ho18122 with ⟨hp18124, ho18122⟩ | ⟨hp18124, ho18122⟩
  refine r_step rfl trivial (o_cmp rfl rfl (c_eql_T hp18124)) ?_
  refine xq 2 [(30, V r18101), (29, .bool true), (7, V r18101), (0, Pt b17532 0), (1, V a1), (5, V x18036), (6, V x18037)] ?_
  rcases ifs ho18122 with ⟨hp18125, ho18122⟩ | ⟨hp18125, ho18122⟩
  refine r_step rfl rfl (o_cmp rfl rfl (c_eql_T hp18125)) ?_
  refine xe 5 [(36, .bool true), (7, V r18101), (0, Pt b17532 0), (1, V a1), (5, V x18036), (6, V x18037)] ?_
  refine cT 36 rfl ?_
  refine xt 0 ?_
  refine blkX_miss rfl ?_
  refine blkX_hit ?_
  obtain rfl := Option.some.inj ho18122
  obtain rfl := Option.some.inj ho18033
  exact ⟨_, x18037, rfl, rfl, hS18107⟩
  refine r_step rfl rfl (o_cmp rfl rfl (c_eql_F hp18125)) ?_
  refine xq 2 [(33, V r18101), (32, .bool false), (29, .bool true), (7, V r18101), (0, Pt b17532 0), (1, V a1), (5, V x18036), (6, V x18037)] ?_
  obtain ⟨r18126, hx18127, ho18122⟩ := obind ho18122
  obtain ⟨v18128, h18129, hcl18130, hSc18131, rfl⟩ := flow_ends_ok F hS18107.inv  hx18127
  have hS18132 := St.call (A := []) (B := [.blk b17532 (K58 v17534 v17536 v17538 a0), .gs v17538 c17539 (csz api_Diag)]) hS18107 hSc18131
  replace hS18132 : St _ _ _ _ _ _ [.blk b17532 (K58 v17534 v17536 v17538 a0), .gs v17538 c17539 (csz api_Diag)] := hS18132
  refine r_step rfl rfl (o_call hcl18130 rfl rfl rfl) ?_
  refine xe 2 [(36, .bool r18126), (7, V r18101), (0, Pt b17532 0), (1, V a1), (5, V x18036), (6, V x18037)] ?_
  rcases ifs ho18122 with ⟨hp18133, ho18122⟩ | ⟨hp18133, ho18122⟩
  refine W_condT (x := .tmp 36) (by kernel_rfl) rfl hp18133 ?_
  refine xt 0 ?_
  refine blkX_miss rfl ?_
  refine blkX_hit ?_
  obtain rfl := Option.some.inj ho18122
  obtain rfl := Option.some.inj ho18033
  exact ⟨_, x18037, rfl, rfl, hS18132⟩
  refine W_condF (x := .tmp 36) (by kernel_rfl) rfl (Bool.eq_false_iff.2 hp18133) ?_
  refine sk ?_
  obtain rfl := Option.some.inj ho18122
  exact ⟨_, rfl, rfl, hS18132⟩
  refine r_step rfl trivial (o_cmp rfl rfl (c_eql_F hp18124)) ?_
  refine xe 8 [(36, .bool false), (7, V r18101), (0, Pt b17532 0), (1, V a1), (5, V x18036), (6, V x18037)] ?_
  refine kF 36 rfl ?_
  obtain rfl := Option.some.inj ho18122
  exact ⟨_, rfl, rfl, hS18107⟩
  refine r_step rfl trivial (o_cmp rfl rfl (c_lss_F hp18081)) ?_
  refine xe 7 [(21, .bool false), (0, Pt b17532 0), (1, V a1), (5, V x18036), (6, V x18037)] ?_
  refine cF 21 rfl ?_
  refine xt 0 ?_
  refine blkX_hit ?_
  obtain rfl := Option.some.inj ho18033
  exact ⟨_, x18037, rfl, rfl, hS18039⟩

def flow_reader_value_C (rec_flow_reader_value : flow_reader → Int → Int → Int → Option (Int × Int × flow_reader)) : Prop := ∀ {h : AH} {Z : Zn} {a0 : flow_reader} {a1 : Int} {a2 : Int} {a3 : Int} {b10796 : Nat} {v10798 : Value} {v10800 : Value} {v10802 : Value} {c10803 : List Value} (hP : Pre Z h [.blk b10796 (K58 v10798 v10800 v10802 a0), .gs v10802 c10803 (csz api_Diag)]) (q10797 : RS (α := api_Token) Z v10798 a0.l_) (q10799 : RS (α := api_Node) Z v10800 a0.t_.Nodes) (q10801 : RCs (α := api_Diag) Z c10803 a0.d_) {r : Int × Int × flow_reader} (hm : rec_flow_reader_value a0 a1 a2 a3 = some r), ∃ v h' Z' A', callI Go.Proofs.Try.prog 23 [Pt b10796 0, V a1, V a2, V a3] h = some (v, h') ∧ St h (idsL [.blk b10796 (K58 v10798 v10800 v10802 a0), .gs v10802 c10803 (csz api_Diag)]) Z (0, 0) Z' h' A' ∧ ∃ v19459 : Value, ∃ v19461 : Value, ∃ v19463 : Value, ∃ c19464 : List Value, .tuple #[V r.1, V r.2.1] = v ∧ A' = [.blk b10796 (K58 v19459 v19461 v19463 r.2.2), .gs v19463 c19464 (csz api_Diag)] ∧ RS (α := api_Token) Z' v19459 r.2.2.l_ ∧ RS (α := api_Node) Z' v19461 r.2.2.t_.Nodes ∧ RCs (α := api_Diag) Z' c19464 r.2.2.d_


def r68_0 : List COp := [u 10 (.assign (ci 0))]
def r68_1 : List COp := [u 15 (.move (t 0)), u 16 (.move (t 1)), u 17 (.move (t 2)), u 18 (.move (t 3)), u 19 (.binOp .add 3 (t 18) (ci 1) 3), u 20 (cf 47 #[(t 15), (t 16), (ci 6), (t 17), (t 19)] #[55, 3, 3, 3, 3]), u 11 (.assign (t 20))]
def r68_2 : List COp := [u 21 (.move (t 0)), u 22 (.move (t 11)), u 23 (.move (t 2)), u 24 (.move (t 3)), u 25 (cf 72 #[(t 21), (t 22), (t 23), (t 24)] #[55, 3, 3, 3])]
def r68_3 : List COp := [u 26 (.move (t 0)), u 27 (.move (t 3)), u 28 (.binOp .add 3 (t 27) (ci 1) 3), u 29 (cf 65 #[(t 26), (t 28)] #[55, 3]), u 12 (.assign (t 29))]
def r68_4 : List COp := [u 31 (.move (t 0)), u 32 (.move (t 11)), u 33 (.move (t 12)), u 34 (.move (t 4)), u 35 (cf 23 #[(t 31), (t 32), (t 33), (t 34)] #[55, 3, 3, 3]), u 30 (.move (t 35)), u 36 (.extract (t 30) 0), u 37 (.extract (t 30) 1), u 13 (.assign (t 36)), u 14 (.assign (t 37))]
def r68_5 : List COp := [u 38 (.move (t 13)), u 39 (.binOp .geq 3 (t 38) (ci 0) 3)]
def r68_6 : List COp := [u 40 (.move (t 14)), u 10 (.assign (t 40))]
def r68_7 : List COp := [u 41 (.move (t 3)), u 42 (.binOp .add 3 (t 41) (ci 1) 3), u 10 (.assign (t 42))]
def flow_reader_pair (F : Nat) (rec_flow_reader_value : flow_reader → Int → Int → Int → Option (Int × Int × flow_reader)) (a0 : flow_reader) (a1 : Int) (a2 : Int) (a3 : Int) (a4 : Int) : Option (Int × flow_reader) :=
  (flow_reader_add F a0 a1 6 a2 (w64 (a3 + 1))).bind fun r20141 =>
  (flow_reader_scalar F r20141.2 r20141.1 a2 a3).bind fun r20163 =>
  (flow_reader_past F r20163 (w64 (a3 + 1))).bind fun r20180 =>
  (rec_flow_reader_value r20163 r20141.1 r20180 a4).bind fun r20191 =>
  if (0 : Int) ≤ r20191.1 then
    some (r20191.2.1, r20191.2.2)
  else
    some (w64 (a3 + 1), r20191.2.2)
theorem flow_reader_pair_ok (F : Nat) (rec_flow_reader_value : flow_reader → Int → Int → Int → Option (Int × Int × flow_reader)) (hrec_flow_reader_value : flow_reader_value_C rec_flow_reader_value) {h : AH} {Z : Zn} {a0 : flow_reader} {a1 : Int} {a2 : Int} {a3 : Int} {a4 : Int} {b20056 : Nat} {v20058 : Value} {v20060 : Value} {v20062 : Value} {c20063 : List Value} (hP : Pre Z h [.blk b20056 (K58 v20058 v20060 v20062 a0), .gs v20062 c20063 (csz api_Diag)]) (q20057 : RS (α := api_Token) Z v20058 a0.l_) (q20059 : RS (α := api_Node) Z v20060 a0.t_.Nodes) (q20061 : RCs (α := api_Diag) Z c20063 a0.d_) {r : Int × flow_reader} (hm : flow_reader_pair F rec_flow_reader_value a0 a1 a2 a3 a4 = some r) :
    ∃ v h' Z' A', callI Go.Proofs.Try.prog 68 [Pt b20056 0, V a1, V a2, V a3, V a4] h = some (v, h') ∧ St h (idsL [.blk b20056 (K58 v20058 v20060 v20062 a0), .gs v20062 c20063 (csz api_Diag)]) Z (0, 0) Z' h' A' ∧ ∃ v20135 : Value, ∃ v20137 : Value, ∃ v20139 : Value, ∃ c20140 : List Value, V r.1 = v ∧ A' = [.blk b20056 (K58 v20135 v20137 v20139 r.2), .gs v20139 c20140 (csz api_Diag)] ∧ RS (α := api_Token) Z' v20135 r.2.l_ ∧ RS (α := api_Node) Z' v20137 r.2.t_.Nodes ∧ RCs (α := api_Diag) Z' c20140 r.2.d_ := by
  refine fn_intro (A := [.blk b20056 (K58 v20058 v20060 v20062 a0), .gs v20062 c20063 (csz api_Diag)]) (Q := fun v Z' A' => ∃ v20135 : Value, ∃ v20137 : Value, ∃ v20139 : Value, ∃ c20140 : List Value, V r.1 = v ∧ A' = [.blk b20056 (K58 v20135 v20137 v20139 r.2), .gs v20139 c20140 (csz api_Diag)] ∧ RS (α := api_Token) Z' v20135 r.2.l_ ∧ RS (α := api_Node) Z' v20137 r.2.t_.Nodes ∧ RCs (α := api_Diag) Z' c20140 r.2.d_) Go.Proofs.Try.func68 rfl rfl (by kernel_rfl) hP ?_
  intro hs hS
  unfold flow_reader_pair at hm
  refine sr r68_0 ?_
  refine xe 1 [(0, Pt b20056 0), (1, V a1), (2, V a2), (3, V a3), (4, V a4)] ?_
  refine sr r68_1 ?_
  refine xq 5 [(19, V (w64 (a3 + 1))), (17, V a2), (16, V a1), (15, Pt b20056 0), (0, Pt b20056 0), (2, V a2), (3, V a3), (4, V a4)] ?_
  obtain ⟨r20141, hx20142, hm⟩ := obind hm
  have hF20148 : St _ _ _ _ _ _ ([.blk b20056 (K58 v20058 v20060 v20062 a0), .gs v20062 c20063 (csz api_Diag)] ++ []) := ((hS.front 1 rfl).front 1 rfl)
  obtain ⟨v20143, h20144, Z20149, A20151, hcl20145, hSc20146, v20153, v20155, c20156, c20158, rfl, rfl, q20152, q20154, q20157⟩ := flow_reader_add_ok F hF20148.preL q20057 q20059 q20061 hx20142
  have hZ20150 := hSc20146.zle
  have hS20147 := hF20148.call hSc20146
  replace hS20147 : St _ _ _ _ _ _ [.blk b20056 (K58 v20153 v20155 v20062 r20141.2), .gs v20155 c20156 (csz api_Node), .gs v20062 c20158 (csz api_Diag)] := hS20147
  refine r_step rfl trivial (o_call hcl20145 rfl rfl rfl) ?_
  refine xe 1 [(11, V r20141.1), (0, Pt b20056 0), (2, V a2), (3, V a3), (4, V a4)] ?_
  refine sr r68_2 ?_
  refine xq 4 [(24, V a3), (23, V a2), (22, V r20141.1), (21, Pt b20056 0), (11, V r20141.1), (0, Pt b20056 0), (3, V a3), (4, V a4)] ?_
  obtain ⟨Z20159, hZ20160, q20161, hS20162⟩ := (hS20147.front 1 rfl).freeze q20154
  replace hS20162 : St _ _ _ _ _ _ [.blk b20056 (K58 v20153 v20155 v20062 r20141.2), .gs v20062 c20158 (csz api_Diag)] := hS20162
  obtain ⟨r20163, hx20164, hm⟩ := obind hm
  have hF20170 : St _ _ _ _ _ _ ([.blk b20056 (K58 v20153 v20155 v20062 r20141.2), .gs v20062 c20158 (csz api_Diag)] ++ []) := ((hS20162.front 1 rfl).front 1 rfl)
  obtain ⟨v20165, h20166, Z20171, A20173, hcl20167, hSc20168, v20175, v20177, c20179, rfl, rfl, q20174, q20176, q20178⟩ := flow_reader_scalar_ok F hF20170.preL (q20152.mono hZ20160) q20161 (q20157.mono hZ20160) hx20164
  have hZ20172 := hSc20168.zle
  have hS20169 := hF20170.call hSc20168
  replace hS20169 : St _ _ _ _ _ _ [.blk b20056 (K58 v20175 v20177 v20062 r20163), .gs v20062 c20179 (csz api_Diag)] := hS20169
  refine r_step rfl trivial (o_call hcl20167 rfl rfl rfl) ?_
  refine xf [(11, V r20141.1), (0, Pt b20056 0), (3, V a3), (4, V a4)] ?_
  refine sr r68_3 ?_
  refine xq 3 [(28, V (w64 (a3 + 1))), (26, Pt b20056 0), (11, V r20141.1), (0, Pt b20056 0), (3, V a3), (4, V a4)] ?_
  obtain ⟨r20180, hx20181, hm⟩ := obind hm
  have hF20187 : St _ _ _ _ _ _ ([.blk b20056 (K58 v20175 v20177 v20062 r20163), .gs v20062 c20179 (csz api_Diag)] ++ []) := ((hS20169.front 1 rfl).front 1 rfl)
  obtain ⟨v20182, h20183, Z20188, A20190, hcl20184, hSc20185, rfl, rfl⟩ := flow_reader_past_ok F hF20187.preL q20174 q20176 q20178 hx20181
  have hZ20189 := hSc20185.zle
  have hS20186 := hF20187.call hSc20185
  replace hS20186 : St _ _ _ _ _ _ [.blk b20056 (K58 v20175 v20177 v20062 r20163), .gs v20062 c20179 (csz api_Diag)] := hS20186
  refine r_step rfl trivial (o_call hcl20184 rfl rfl rfl) ?_
  refine xe 1 [(12, V r20180), (11, V r20141.1), (0, Pt b20056 0), (3, V a3), (4, V a4)] ?_
  refine sq ?_
  refine sr r68_4 ?_
  refine xq 4 [(34, V a4), (33, V r20180), (32, V r20141.1), (31, Pt b20056 0), (3, V a3)] ?_
  obtain ⟨r20191, hx20192, hm⟩ := obind hm
  have hF20198 : St _ _ _ _ _ _ ([.blk b20056 (K58 v20175 v20177 v20062 r20163), .gs v20062 c20179 (csz api_Diag)] ++ []) := ((hS20186.front 1 rfl).front 1 rfl)
  obtain ⟨v20193, h20194, Z20199, A20201, hcl20195, hSc20196, v20203, v20205, v20207, c20208, rfl, rfl, q20202, q20204, q20206⟩ := hrec_flow_reader_value hF20198.preL (q20174.mono hZ20189) (q20176.mono hZ20189) (q20178.mono hZ20189) hx20192
  have hZ20200 := hSc20196.zle
  have hS20197 := hF20198.call hSc20196
  replace hS20197 : St _ _ _ _ _ _ [.blk b20056 (K58 v20203 v20205 v20207 r20191.2.2), .gs v20207 c20208 (csz api_Diag)] := hS20197
  refine r_step rfl trivial (o_call hcl20195 rfl rfl rfl) ?_
  refine xe 5 [(14, V r20191.2.1), (13, V r20191.1), (3, V a3)] ?_
  refine sr r68_5 ?_
  refine xq 1 [(38, V r20191.1), (14, V r20191.2.1), (3, V a3)] ?_
  rcases ifs hm with ⟨hp20210, hm⟩ | ⟨hp20210, hm⟩
  refine r_step rfl trivial (o_cmp rfl rfl (c_geq_T hp20210)) ?_
  refine xf [(39, .bool true), (14, V r20191.2.1), (3, V a3)] ?_
  refine cT 39 rfl ?_
  refine sr r68_6 ?_
  refine xe 2 [(10, V r20191.2.1)] ?_
  refine rt ?_
  refine ⟨rfl, ?_⟩
  obtain rfl := Option.some.inj hm
  refine ⟨_, _, _, ResL.tmp rfl (ResL.nil), hS20197, ?_⟩
  exact ⟨v20203, v20205, v20207, c20208, rfl, rfl, q20202, q20204, q20206⟩
  refine r_step rfl trivial (o_cmp rfl rfl (c_geq_F hp20210)) ?_
  refine xf [(39, .bool false), (14, V r20191.2.1), (3, V a3)] ?_
  refine kF 39 rfl ?_
  refine sr r68_7 ?_
  refine xe 3 [(10, V (w64 (a3 + 1)))] ?_
  refine rt ?_
  refine ⟨rfl, ?_⟩
  obtain rfl := Option.some.inj hm
  refine ⟨_, _, _, ResL.tmp rfl (ResL.nil), hS20197, ?_⟩
  exact ⟨v20203, v20205, v20207, c20208, rfl, rfl, q20202, q20204, q20206⟩

def r69_0 : List COp := [u 10 (.assign (ci 0)), u 11 (.assign (.const (.bool false)))]
def r69_1 : List COp := [u 15 (.move (t 0)), u 16 (.nilCheck (t 15)), u 17 (.fieldAddr 58 (t 16) 2), u 18 (.load 29 (t 17)), u 19 (.move (t 1)), u 12 (.alloc 29), o (.store 29 (t 12) (t 18)), u 13 (.assign (t 19))]
def r69_2 : List COp := [u 20 (.move (t 2)), u 21 (.binOp .eql 3 (t 20) (ci 10) 3)]
def r69_3 : List COp := [u 22 (.move (t 0)), u 23 (.move (t 1)), u 24 (.move (t 3)), u 25 (.move (t 3)), u 26 (cf 47 #[(t 22), (t 23), (ci 6), (t 24), (t 25)] #[55, 3, 3, 3, 3]), u 13 (.assign (t 26))]
def r69_4 : List COp := [u 27 (.move (t 0)), u 28 (.nilCheck (t 27)), u 29 (.fieldAddr 58 (t 28) 2), u 30 (.fieldAddr 29 (t 29) 0), u 31 (.load 27 (t 30)), u 32 (.move (t 13)), u 33 (.indexAddr 27 (t 31) (t 32)), u 34 (.fieldAddr 42 (t 33) 5), o (.store 4 (t 34) (.const (.bool true)))]
def r69_5 : List COp := [u 36 (.move (t 0)), u 37 (.move (t 13)), u 38 (.move (t 3)), u 39 (.move (t 4)), u 40 (cf 23 #[(t 36), (t 37), (t 38), (t 39)] #[55, 3, 3, 3]), u 35 (.move (t 40)), u 41 (.extract (t 35) 0), u 42 (.extract (t 35) 1), u 14 (.assign (t 41)), u 10 (.assign (t 42))]
def r69_6 : List COp := [u 43 (.move (t 14)), u 44 (.binOp .geq 3 (t 43) (ci 0) 3)]
def r69_7 : List COp := [u 45 (.move (t 10)), u 10 (.assign (t 45)), u 11 (.assign (.const (.bool true)))]
def r69_8 : List COp := [u 46 (.move (t 0)), u 47 (.load 29 (t 12)), u 48 (.nilCheck (t 46)), u 49 (.fieldAddr 58 (t 48) 2), o (.store 29 (t 49) (t 47))]
def r69_9 : List COp := [u 50 (.move (t 0)), u 51 (.move (t 1)), u 52 (.move (t 3)), u 53 (.move (t 3)), u 54 (.binOp .add 3 (t 53) (ci 1) 3), u 55 (cf 51 #[(t 50), (ci 8), (t 51), (t 52), (t 54)] #[55, 3, 3, 3, 3])]
def r69_10 : List COp := [u 56 (.move (t 3)), u 57 (.binOp .add 3 (t 56) (ci 1) 3), u 10 (.assign (t 57)), u 11 (.assign (.const (.bool false)))]
def flow_reader_one (F : Nat) (rec_flow_reader_value : flow_reader → Int → Int → Int → Option (Int × Int × flow_reader)) (a0 : flow_reader) (a1 : Int) (a2 : Int) (a3 : Int) (a4 : Int) : Option (Int × Bool × flow_reader) :=
  ((if a2 = (10 : Int) then
      (flow_reader_add F a0 a1 6 a3 a3).bind fun r20378 =>
      if 0 ≤ r20378.1 ∧ r20378.1 < (r20378.2.t_.Nodes.length : Int) then
        (r20378.2.t_.Nodes[r20378.1.toNat]?).bind fun x20397 =>
        some ((⟨r20378.2.l_, r20378.2.end_, (⟨r20378.2.t_.Nodes.set r20378.1.toNat (⟨x20397.Kind, x20397.From, x20397.To, x20397.Up, x20397.Kids, true⟩ : api_Node)⟩ : arena_Tree), r20378.2.d_⟩ : flow_reader), r20378.1)
      else none
    else
      some (a0, a1)) : Option (flow_reader × Int)).bind fun o => match o with
    | (x20414, x20422) => (rec_flow_reader_value x20414 x20422 a3 a4).bind fun r20425 =>
    if (0 : Int) ≤ r20425.1 then
      some (r20425.2.1, true, r20425.2.2)
    else
      (flow_reader_wrong F (⟨r20425.2.2.l_, r20425.2.2.end_, a0.t_, r20425.2.2.d_⟩ : flow_reader) 8 a1 a3 (w64 (a3 + 1))).bind fun r20448 =>
      some (w64 (a3 + 1), false, r20448.2)
theorem flow_reader_one_ok (F : Nat) (rec_flow_reader_value : flow_reader → Int → Int → Int → Option (Int × Int × flow_reader)) (hrec_flow_reader_value : flow_reader_value_C rec_flow_reader_value) {h : AH} {Z : Zn} {a0 : flow_reader} {a1 : Int} {a2 : Int} {a3 : Int} {a4 : Int} {b20229 : Nat} {v20231 : Value} {v20233 : Value} {v20235 : Value} {c20236 : List Value} (hP : Pre Z h [.blk b20229 (K58 v20231 v20233 v20235 a0), .gs v20235 c20236 (csz api_Diag)]) (q20230 : RS (α := api_Token) Z v20231 a0.l_) (q20232 : RS (α := api_Node) Z v20233 a0.t_.Nodes) (q20234 : RCs (α := api_Diag) Z c20236 a0.d_) {r : Int × Bool × flow_reader} (hm : flow_reader_one F rec_flow_reader_value a0 a1 a2 a3 a4 = some r) :
    ∃ v h' Z' A', callI Go.Proofs.Try.prog 69 [Pt b20229 0, V a1, V a2, V a3, V a4] h = some (v, h') ∧ St h (idsL [.blk b20229 (K58 v20231 v20233 v20235 a0), .gs v20235 c20236 (csz api_Diag)]) Z (0, 0) Z' h' A' ∧ ∃ v20330 : Value, ∃ v20332 : Value, ∃ v20334 : Value, ∃ c20335 : List Value, .tuple #[V r.1, .bool r.2.1] = v ∧ A' = [.blk b20229 (K58 v20330 v20332 v20334 r.2.2), .gs v20334 c20335 (csz api_Diag)] ∧ RS (α := api_Token) Z' v20330 r.2.2.l_ ∧ RS (α := api_Node) Z' v20332 r.2.2.t_.Nodes ∧ RCs (α := api_Diag) Z' c20335 r.2.2.d_ := by
  refine fn_intro (A := [.blk b20229 (K58 v20231 v20233 v20235 a0), .gs v20235 c20236 (csz api_Diag)]) (Q := fun v Z' A' => ∃ v20330 : Value, ∃ v20332 : Value, ∃ v20334 : Value, ∃ c20335 : List Value, .tuple #[V r.1, .bool r.2.1] = v ∧ A' = [.blk b20229 (K58 v20330 v20332 v20334 r.2.2), .gs v20334 c20335 (csz api_Diag)] ∧ RS (α := api_Token) Z' v20330 r.2.2.l_ ∧ RS (α := api_Node) Z' v20332 r.2.2.t_.Nodes ∧ RCs (α := api_Diag) Z' c20335 r.2.2.d_) Go.Proofs.Try.func69 rfl rfl (by kernel_rfl) hP ?_
  intro hs hS
  unfold flow_reader_one at hm
  refine sr r69_0 ?_
  refine xe 2 [(0, Pt b20229 0), (1, V a1), (2, V a2), (3, V a3), (4, V a4)] ?_
  refine sr r69_1 ?_
  refine xq 3 [(17, Pt b20229 2), (0, Pt b20229 0), (1, V a1), (2, V a2), (3, V a3), (4, V a4)] ?_
  refine r_step rfl trivial (o_ldb (v := .agg #[v20233]) hS (i := 0) rfl rfl (by kernel_rfl)) ?_
  refine xq 1 [(19, V a1), (18, .agg #[v20233]), (0, Pt b20229 0), (1, V a1), (2, V a2), (3, V a3), (4, V a4)] ?_
  refine r_blk rfl trivial (o_alloc (cs := [.slice none 0 0]) (by kernel_rfl)) hS ?_
  intro b20336 h20337 hS20338
  refine r_ex1 rfl trivial (o_stb (vs := [v20233]) (cells' := [v20233]) (L' := [.blk b20336 [v20233], .blk b20229 (K58 v20231 v20233 v20235 a0), .gs v20235 c20236 (csz api_Diag)]) hS20338 (i := 0) rfl rfl rfl rfl (by kernel_rfl) (one_cons (RS.one1 q20232) one_nil) rfl rfl rfl) ?_
  intro h20339 hS20340
  refine xe 1 [(13, V a1), (12, Pt b20336 0), (0, Pt b20229 0), (1, V a1), (2, V a2), (3, V a3), (4, V a4)] ?_
  refine sq ?_
  obtain ⟨o20375, ho20374, hm⟩ := obind hm
  refine W_join [0, 1, 3, 4, 12, 13] (fun l h => ∃ Z20413 : Zn, ∃ x20414 : flow_reader, ∃ x20422 : Int, ∃ v20416 : Value, ∃ v20418 : Value, ∃ c20420 : List Value, ∃ b20421 : Nat, (x20414, x20422) = o20375 ∧ RS (α := api_Token) Z20413 v20416 x20414.l_ ∧ RS (α := api_Node) Z20413 v20418 x20414.t_.Nodes ∧ RCs (α := api_Diag) Z20413 c20420 x20414.d_ ∧ l = [(0, Pt b20229 0), (1, V a1), (3, V a3), (4, V a4), (12, Pt b20421 0), (13, V x20422)] ∧ St hs (idsL [.blk b20229 (K58 v20231 v20233 v20235 a0), .gs v20235 c20236 (csz api_Diag)]) Z (0, 0) Z20413 h [.blk b20229 (K58 v20416 v20418 v20235 x20414), .gs v20235 c20420 (csz api_Diag), .blk b20421 [v20233]]) ?_ ?_
  rintro l h20423 ⟨Z20413, x20414, x20422, v20416, v20418, c20420, b20421, rfl, q20415, q20417, q20419, rfl, hS20424⟩
  try dsimp only at hm
  refine sr r69_5 ?_
  refine xq 4 [(39, V a4), (38, V a3), (37, V x20422), (36, Pt b20229 0), (0, Pt b20229 0), (1, V a1), (3, V a3), (12, Pt b20421 0)] ?_
  obtain ⟨r20425, hx20426, hm⟩ := obind hm
  have hF20432 : St _ _ _ _ _ _ ([.blk b20229 (K58 v20416 v20418 v20235 x20414), .gs v20235 c20420 (csz api_Diag)] ++ [.blk b20421 [v20233]]) := ((hS20424.front 1 rfl).front 1 rfl)
  obtain ⟨v20427, h20428, Z20433, A20435, hcl20429, hSc20430, v20437, v20439, v20441, c20442, rfl, rfl, q20436, q20438, q20440⟩ := hrec_flow_reader_value hF20432.preL q20415 q20417 q20419 hx20426
  have hZ20434 := hSc20430.zle
  have hS20431 := hF20432.call hSc20430
  replace hS20431 : St _ _ _ _ _ _ [.blk b20229 (K58 v20437 v20439 v20441 r20425.2.2), .gs v20441 c20442 (csz api_Diag), .blk b20421 [v20233]] := hS20431
  refine r_step rfl trivial (o_call hcl20429 rfl rfl rfl) ?_
  refine xe 5 [(10, V r20425.2.1), (14, V r20425.1), (0, Pt b20229 0), (1, V a1), (3, V a3), (12, Pt b20421 0)] ?_
  refine sq ?_
  refine sr r69_6 ?_
  refine xq 1 [(43, V r20425.1), (10, V r20425.2.1), (0, Pt b20229 0), (1, V a1), (3, V a3), (12, Pt b20421 0)] ?_
  rcases ifs hm with ⟨hp20445, hm⟩ | ⟨hp20445, hm⟩
  refine r_step rfl trivial (o_cmp rfl rfl (c_geq_T hp20445)) ?_
  refine xf [(44, .bool true), (10, V r20425.2.1), (0, Pt b20229 0), (1, V a1), (3, V a3), (12, Pt b20421 0)] ?_
  refine cT 44 rfl ?_
  refine sr r69_7 ?_
  refine xe 3 [(11, .bool true), (10, V r20425.2.1)] ?_
  refine rt ?_
  refine ⟨rfl, ?_⟩
  obtain rfl := Option.some.inj hm
  refine ⟨_, _, _, ResL.tmp rfl (ResL.tmp rfl (ResL.nil)), (hS20431.takeN 2), ?_⟩
  exact ⟨v20437, v20439, v20441, c20442, rfl, rfl, q20436, q20438, q20440⟩
  refine r_step rfl trivial (o_cmp rfl rfl (c_geq_F hp20445)) ?_
  refine xf [(44, .bool false), (10, V r20425.2.1), (0, Pt b20229 0), (1, V a1), (3, V a3), (12, Pt b20421 0)] ?_
  refine kF 44 rfl ?_
  refine sr r69_8 ?_
  refine xq 1 [(46, Pt b20229 0), (0, Pt b20229 0), (1, V a1), (3, V a3), (12, Pt b20421 0)] ?_
  refine r_step rfl trivial (o_ldb (v := .agg #[v20233]) hS20431 (i := 2) rfl rfl (by kernel_rfl)) ?_
  refine xq 2 [(49, Pt b20229 2), (47, .agg #[v20233]), (0, Pt b20229 0), (1, V a1), (3, V a3)] ?_
  refine r_ex1 rfl trivial (o_stb (vs := [v20233]) (cells' := (K58 v20437 v20233 v20441 r20425.2.2)) (L' := [.blk b20229 (K58 v20437 v20233 v20441 r20425.2.2), .gs v20441 c20442 (csz api_Diag), .blk b20421 [v20233]]) hS20431 (i := 0) rfl rfl rfl rfl (by kernel_rfl) (one_cons (RS.one1 (q20232.mono (hS20424.zle.trans hZ20434))) one_nil) rfl rfl rfl) ?_
  intro h20446 hS20447
  refine xf [(0, Pt b20229 0), (1, V a1), (3, V a3)] ?_
  refine sr r69_9 ?_
  refine xq 5 [(54, V (w64 (a3 + 1))), (52, V a3), (51, V a1), (50, Pt b20229 0), (3, V a3)] ?_
  obtain ⟨r20448, hx20449, hm⟩ := obind hm
  have hF20455 : St _ _ _ _ _ _ ([.blk b20229 (K58 v20437 v20233 v20441 r20425.2.2), .gs v20441 c20442 (csz api_Diag)] ++ [.blk b20421 [v20233]]) := ((hS20447.front 1 rfl).front 1 rfl)
  obtain ⟨v20450, h20451, Z20456, A20458, hcl20452, hSc20453, v20460, v20462, c20463, v20465, c20466, rfl, rfl, q20459, q20461, q20464⟩ := flow_reader_wrong_ok F (a0 := (⟨r20425.2.2.l_, r20425.2.2.end_, a0.t_, r20425.2.2.d_⟩ : flow_reader)) hF20455.preL q20436 (q20232.mono (hS20424.zle.trans hZ20434)) q20440 hx20449
  have hZ20457 := hSc20453.zle
  have hS20454 := hF20455.call hSc20453
  replace hS20454 : St _ _ _ _ _ _ [.blk b20229 (K58 v20460 v20462 v20465 r20448.2), .gs v20462 c20463 (csz api_Node), .gs v20465 c20466 (csz api_Diag), .blk b20421 [v20233]] := hS20454
  refine r_step rfl trivial (o_call hcl20452 rfl rfl rfl) ?_
  refine xf [(3, V a3)] ?_
  refine sr r69_10 ?_
  refine xe 4 [(11, .bool false), (10, V (w64 (a3 + 1)))] ?_
  refine rt ?_
  refine ⟨rfl, ?_⟩
  obtain ⟨Z20467, hZ20468, q20469, hS20470⟩ := (hS20454.front 1 rfl).freeze q20461
  replace hS20470 : St _ _ _ _ _ _ [.blk b20229 (K58 v20460 v20462 v20465 r20448.2), .gs v20465 c20466 (csz api_Diag), .blk b20421 [v20233]] := hS20470
  obtain rfl := Option.some.inj hm
  refine ⟨_, _, _, ResL.tmp rfl (ResL.tmp rfl (ResL.nil)), (hS20470.takeN 2), ?_⟩
  exact ⟨v20460, v20462, v20465, c20466, rfl, rfl, (q20459.mono hZ20468), q20469, (q20464.mono hZ20468)⟩
  refine sr r69_2 ?_
  refine xq 1 [(20, V a2), (13, V a1), (12, Pt b20336 0), (0, Pt b20229 0), (1, V a1), (3, V a3), (4, V a4)] ?_
  rcases ifs ho20374 with ⟨hp20377, ho20374⟩ | ⟨hp20377, ho20374⟩
  refine r_step rfl trivial (o_cmp rfl rfl (c_eql_T hp20377)) ?_
  refine xf [(21, .bool true), (13, V a1), (12, Pt b20336 0), (0, Pt b20229 0), (1, V a1), (3, V a3), (4, V a4)] ?_
  refine cT 21 rfl ?_
  refine sr r69_3 ?_
  refine xq 4 [(25, V a3), (24, V a3), (23, V a1), (22, Pt b20229 0), (13, V a1), (12, Pt b20336 0), (0, Pt b20229 0), (1, V a1), (3, V a3), (4, V a4)] ?_
  obtain ⟨r20378, hx20379, ho20374⟩ := obind ho20374
  have hF20385 : St _ _ _ _ _ _ ([.blk b20229 (K58 v20231 v20233 v20235 a0), .gs v20235 c20236 (csz api_Diag)] ++ [.blk b20336 [v20233]]) := ((hS20340.front 2 rfl).front 2 rfl)
  obtain ⟨v20380, h20381, Z20386, A20388, hcl20382, hSc20383, v20390, v20392, c20393, c20395, rfl, rfl, q20389, q20391, q20394⟩ := flow_reader_add_ok F hF20385.preL q20230 q20232 q20234 hx20379
  have hZ20387 := hSc20383.zle
  have hS20384 := hF20385.call hSc20383
  replace hS20384 : St _ _ _ _ _ _ [.blk b20229 (K58 v20390 v20392 v20235 r20378.2), .gs v20392 c20393 (csz api_Node), .gs v20235 c20395 (csz api_Diag), .blk b20336 [v20233]] := hS20384
  refine r_step rfl trivial (o_call hcl20382 rfl rfl rfl) ?_
  refine xe 1 [(13, V r20378.1), (12, Pt b20336 0), (0, Pt b20229 0), (1, V a1), (3, V a3), (4, V a4)] ?_
  refine rg r69_4 ?_
  refine xq 4 [(30, Pt b20229 2), (13, V r20378.1), (12, Pt b20336 0), (0, Pt b20229 0), (1, V a1), (3, V a3), (4, V a4)] ?_
  refine r_step rfl trivial (o_ldb (v := v20392) hS20384 (i := 0) rfl rfl (by kernel_rfl)) ?_
  refine xq 1 [(32, V r20378.1), (31, v20392), (13, V r20378.1), (12, Pt b20336 0), (0, Pt b20229 0), (1, V a1), (3, V a3), (4, V a4)] ?_
  obtain ⟨hc20396, ho20374⟩ := chk ho20374
  refine r_step rfl trivial (o_index rfl rfl (by kernel_rfl : slTy _ _ = some (csz api_Node)) (hS20384.gbased (j := 1) rfl q20391 (by omega)) hc20396.1 hc20396.2) ?_
  refine xq 1 [(34, .pointer (some (elemA v20392 r20378.1 (csz api_Node) 5))), (13, V r20378.1), (12, Pt b20336 0), (0, Pt b20229 0), (1, V a1), (3, V a3), (4, V a4)] ?_
  obtain ⟨x20397, hx20398, ho20374⟩ := obind ho20374
  obtain ⟨cs20399, hc20400, he20401, ht20402⟩ := hS20384.gel (j := 1) rfl q20391 (i := r20378.1) hx20398
  obtain ⟨v20403, q20404, rfl⟩ := rc_api_Node hc20400
  refine r_ex2 rfl trivial (o_ste (u' := (⟨x20397.Kind, x20397.From, x20397.To, x20397.Up, x20397.Kids, true⟩ : api_Node)) (vs := [.bool true]) (cs' := [V x20397.Kind, V x20397.From, V x20397.To, V x20397.Up, v20403, .bool true]) hS20384 (m := 1) rfl q20391 hx20398 ht20402 rfl rfl rfl (by kernel_rfl) rfl rfl rfl ⟨_, q20404, rfl⟩) ?_
  rintro h20405 c20406 ⟨q20408, hS20407⟩
  replace hS20407 : St _ _ _ _ _ _ [.blk b20229 (K58 v20390 v20392 v20235 r20378.2), .gs v20392 c20406 (csz api_Node), .gs v20235 c20395 (csz api_Diag), .blk b20336 [v20233]] := hS20407
  refine xf [(13, V r20378.1), (12, Pt b20336 0), (0, Pt b20229 0), (1, V a1), (3, V a3), (4, V a4)] ?_
  obtain ⟨Z20409, hZ20410, q20411, hS20412⟩ := (hS20407.front 1 rfl).freeze q20408
  replace hS20412 : St _ _ _ _ _ _ [.blk b20229 (K58 v20390 v20392 v20235 r20378.2), .gs v20235 c20395 (csz api_Diag), .blk b20336 [v20233]] := hS20412
  obtain rfl := Option.some.inj ho20374
  exact ⟨_, (⟨r20378.2.l_, r20378.2.end_, (⟨r20378.2.t_.Nodes.set r20378.1.toNat (⟨x20397.Kind, x20397.From, x20397.To, x20397.Up, x20397.Kids, true⟩ : api_Node)⟩ : arena_Tree), r20378.2.d_⟩ : flow_reader), r20378.1, v20390, v20392, c20395, b20336, rfl, (q20389.mono hZ20410), q20411, (q20394.mono hZ20410), rfl, hS20412⟩
  refine r_step rfl trivial (o_cmp rfl rfl (c_eql_F hp20377)) ?_
  refine xf [(21, .bool false), (13, V a1), (12, Pt b20336 0), (0, Pt b20229 0), (1, V a1), (3, V a3), (4, V a4)] ?_
  refine kF 21 rfl ?_
  obtain rfl := Option.some.inj ho20374
  exact ⟨_, a0, a1, v20231, v20233, c20236, b20336, rfl, q20230, q20232, q20234, rfl, (((hS20340.front 0 rfl).front 2 rfl).front 2 rfl)⟩

def r52_0 : List COp := [u 10 (.assign (ci 0)), u 11 (.assign (ci 0))]
def r52_1 : List COp := [u 12 (.assign (ci 9)), u 13 (.assign (ci 10))]
def r52_2 : List COp := [u 18 (.move (t 0)), u 19 (.move (t 3)), u 20 (cf 46 #[(t 18), (t 19)] #[55, 3]), u 21 (.binOp .eql 3 (t 20) (ci 9) 3)]
def r52_3 : List COp := [u 12 (.assign (ci 10)), u 13 (.assign (ci 11))]
def r52_4 : List COp := [u 22 (.move (t 0)), u 23 (.move (t 1)), u 24 (.move (t 12)), u 25 (.move (t 2)), u 26 (.move (t 3)), u 27 (.binOp .add 3 (t 26) (ci 1) 3), u 28 (cf 47 #[(t 22), (t 23), (t 24), (t 25), (t 27)] #[55, 3, 3, 3, 3]), u 10 (.assign (t 28))]
def r52_5 : List COp := [u 29 (.move (t 3)), u 30 (.binOp .add 3 (t 29) (ci 1) 3), u 11 (.assign (t 30))]
def r52_6 : List COp := [u 14 (.assign (.const (.bool false)))]
def r52_7 : List COp := [u 31 (.move (t 0)), u 32 (.move (t 11)), u 33 (cf 65 #[(t 31), (t 32)] #[55, 3]), u 15 (.assign (t 33))]
def r52_8 : List COp := [u 34 (.move (t 0)), u 35 (.move (t 15)), u 36 (cf 46 #[(t 34), (t 35)] #[55, 3]), u 16 (.assign (t 36))]
def r52_9 : List COp := [u 37 (.move (t 0)), u 38 (.move (t 15)), u 39 (cf 66 #[(t 37), (t 38)] #[55, 3]), u 17 (.assign (t 39))]
def r52_10 : List COp := [u 41 (.move (t 0)), u 42 (.move (t 10)), u 43 (.move (t 12)), u 44 (.move (t 15)), u 45 (.move (t 4)), u 46 (.binOp .sub 3 (t 45) (ci 1) 3), u 47 (cf 69 #[(t 41), (t 42), (t 43), (t 44), (t 46)] #[55, 3, 3, 3, 3]), u 40 (.move (t 47)), u 48 (.extract (t 40) 0), u 49 (.extract (t 40) 1), u 11 (.assign (t 48)), u 14 (.assign (t 49))]
def r52_11 : List COp := [u 51 (.move (t 16)), u 52 (.move (t 13)), u 53 (.binOp .eql 3 (t 51) (t 52) 3), u 50 (.assign (t 53))]
def r52_12 : List COp := [u 54 (.move (t 0)), u 55 (.move (t 0)), u 56 (.nilCheck (t 55)), u 57 (.fieldAddr 58 (t 56) 2), u 58 (.load 29 (t 57)), u 59 (.move (t 10)), u 60 (.move (t 15)), u 61 (.binOp .add 3 (t 60) (ci 1) 3), u 62 (cf 22 #[(t 58), (t 59), (t 61)] #[29, 3, 3]), u 63 (.nilCheck (t 54)), u 64 (.fieldAddr 58 (t 63) 2), o (.store 29 (t 64) (t 62))]
def r52_13 : List COp := [u 65 (.move (t 10)), u 66 (.move (t 15)), u 67 (.binOp .add 3 (t 66) (ci 1) 3), u 10 (.assign (t 65)), u 11 (.assign (t 67))]
def r52_14 : List COp := [u 69 (.move (t 16)), u 70 (.binOp .eql 3 (t 69) (ci 0) 3), u 71 (.move (t 70)), gN 71 (some 72) (.move (t 16)), gN 71 (some 73) (cf 62 #[(t 72)] #[3]), u 74 (.pick (t 71) (.const (.bool true)) (t 73)), u 68 (.assign (t 74))]
def r52_15 : List COp := [u 75 (.move (t 0)), u 76 (.move (t 3)), u 77 (.move (t 3)), u 78 (.binOp .add 3 (t 77) (ci 1) 3), u 79 (cf 64 #[(t 75), (ci 9), (t 76), (t 78)] #[55, 3, 3, 3])]
def r52_16 : List COp := [u 80 (.move (t 0)), u 81 (.move (t 0)), u 82 (.nilCheck (t 81)), u 83 (.fieldAddr 58 (t 82) 2), u 84 (.load 29 (t 83)), u 85 (.move (t 10)), u 86 (.move (t 11)), u 87 (cf 22 #[(t 84), (t 85), (t 86)] #[29, 3, 3]), u 88 (.nilCheck (t 80)), u 89 (.fieldAddr 58 (t 88) 2), o (.store 29 (t 89) (t 87))]
def r52_17 : List COp := [u 90 (.move (t 10)), u 91 (.move (t 11)), u 10 (.assign (t 90)), u 11 (.assign (t 91))]
def r52_18 : List COp := [u 93 (.move (t 16)), u 94 (cf 61 #[(t 93)] #[3]), u 92 (.assign (t 94))]
def r52_19 : List COp := [u 95 (.move (t 15)), u 96 (.binOp .add 3 (t 95) (ci 1) 3), u 11 (.assign (t 96))]
def r52_20 : List COp := [u 97 (.move (t 0)), u 98 (.move (t 10)), u 99 (.move (t 15)), u 100 (.move (t 11)), u 101 (cf 51 #[(t 97), (ci 8), (t 98), (t 99), (t 100)] #[55, 3, 3, 3, 3])]
def r52_21 : List COp := [u 103 (.move (t 16)), u 104 (.binOp .eql 3 (t 103) (ci 7) 3), u 105 (.move (t 104)), gT 105 (some 106) (.move (t 14)), u 107 (.pick (t 105) (t 106) (.const (.bool false))), u 102 (.assign (t 107))]
def r52_22 : List COp := [u 108 (.move (t 15)), u 109 (.binOp .add 3 (t 108) (ci 1) 3), u 11 (.assign (t 109)), u 14 (.assign (.const (.bool false)))]
def r52_23 : List COp := [u 111 (.move (t 16)), u 112 (.binOp .eql 3 (t 111) (ci 7) 3), u 110 (.assign (t 112))]
def r52_24 : List COp := [u 113 (.move (t 15)), u 114 (.binOp .add 3 (t 113) (ci 1) 3), u 11 (.assign (t 114))]
def r52_25 : List COp := [u 115 (.move (t 0)), u 116 (.move (t 10)), u 117 (.move (t 15)), u 118 (.move (t 11)), u 119 (cf 51 #[(t 115), (ci 8), (t 116), (t 117), (t 118)] #[55, 3, 3, 3, 3])]
def r52_26 : List COp := [u 121 (.move (t 14)), u 120 (.assign (t 121))]
def r52_27 : List COp := [u 122 (.move (t 0)), u 123 (.move (t 15)), u 124 (cf 67 #[(t 122), (t 123)] #[55, 3]), u 11 (.assign (t 124))]
def r52_28 : List COp := [u 125 (.move (t 0)), u 126 (.move (t 10)), u 127 (.move (t 15)), u 128 (.move (t 11)), u 129 (cf 51 #[(t 125), (ci 8), (t 126), (t 127), (t 128)] #[55, 3, 3, 3, 3])]
def r52_29 : List COp := [u 131 (.move (t 17)), u 132 (.binOp .geq 3 (t 131) (ci 0) 3), u 130 (.assign (t 132))]
def r52_30 : List COp := [u 133 (.move (t 0)), u 134 (.move (t 10)), u 135 (.move (t 15)), u 136 (.move (t 17)), u 137 (.move (t 4)), u 138 (.binOp .sub 3 (t 137) (ci 1) 3), u 139 (cf 68 #[(t 133), (t 134), (t 135), (t 136), (t 138)] #[55, 3, 3, 3, 3]), u 11 (.assign (t 139)), u 14 (.assign (.const (.bool true)))]
def flow_reader_collection_l0 (F : Nat) (rec_flow_reader_value : flow_reader → Int → Int → Int → Option (Int × Int × flow_reader)) (a0 : flow_reader) (a1 : Int) (a2 : Int) (a3 : Int) (a4 : Int) : Nat → flow_reader → Int → Int → Int → Int → Bool → Option (Int × Int × flow_reader)
  | 0, _, _, _, _, _, _ => none
  | n + 1, x21698, x21706, x21707, x21708, x21709, x21710 =>
    (flow_reader_past F x21698 x21707).bind fun r21714 =>
    (flow_reader_kind F x21698 r21714).bind fun r21725 =>
    (flow_reader_key F x21698 r21714).bind fun r21736 =>
    ((if r21725 = x21709 then
        (arena_Grow F x21698.t_ x21706 (w64 (r21714 + 1))).bind fun r22063 =>
        some (.inr (x21706, w64 (r21714 + 1), (⟨x21698.l_, x21698.end_, r22063, x21698.d_⟩ : flow_reader)))
      else
        if r21725 = (0 : Int) then
          (flow_reader_tell F x21698 9 a3 (w64 (a3 + 1))).bind fun r22088 =>
          (arena_Grow F r22088.t_ x21706 x21707).bind fun r22106 =>
          some (.inr (x21706, x21707, (⟨r22088.l_, r22088.end_, r22106, r22088.d_⟩ : flow_reader)))
        else
          (flow_mark F r21725).bind fun r22122 =>
          if r22122 = true then
            (flow_reader_tell F x21698 9 a3 (w64 (a3 + 1))).bind fun r22130 =>
            (arena_Grow F r22130.t_ x21706 x21707).bind fun r22148 =>
            some (.inr (x21706, x21707, (⟨r22130.l_, r22130.end_, r22148, r22130.d_⟩ : flow_reader)))
          else
            (flow_ends F r21725).bind fun r22164 =>
            if r22164 = true then
              (flow_reader_wrong F x21698 8 x21706 r21714 (w64 (r21714 + 1))).bind fun r22172 =>
              some (.inl (r22172.2, w64 (r21714 + 1), x21710))
            else
              if r21725 = (7 : Int) then
                if x21710 = true then
                  some (.inl (x21698, w64 (r21714 + 1), false))
                else
                  if r21725 = (7 : Int) then
                    (flow_reader_wrong F x21698 8 x21706 r21714 (w64 (r21714 + 1))).bind fun r22200 =>
                    some (.inl (r22200.2, w64 (r21714 + 1), x21710))
                  else
                    if x21710 = true then
                      (flow_reader_stray F x21698 r21714).bind fun r22224 =>
                      (flow_reader_wrong F x21698 8 x21706 r21714 r22224).bind fun r22235 =>
                      some (.inl (r22235.2, r22224, x21710))
                    else
                      if (0 : Int) ≤ r21736 then
                        (flow_reader_pair F rec_flow_reader_value x21698 x21706 r21714 r21736 (w64 (a4 - 1))).bind fun r22260 =>
                        some (.inl (r22260.2, r22260.1, true))
                      else
                        (flow_reader_one F rec_flow_reader_value x21698 x21706 x21708 r21714 (w64 (a4 - 1))).bind fun r22278 =>
                        some (.inl (r22278.2.2, r22278.1, r22278.2.1))
              else
                if r21725 = (7 : Int) then
                  (flow_reader_wrong F x21698 8 x21706 r21714 (w64 (r21714 + 1))).bind fun r22298 =>
                  some (.inl (r22298.2, w64 (r21714 + 1), x21710))
                else
                  if x21710 = true then
                    (flow_reader_stray F x21698 r21714).bind fun r22322 =>
                    (flow_reader_wrong F x21698 8 x21706 r21714 r22322).bind fun r22333 =>
                    some (.inl (r22333.2, r22322, x21710))
                  else
                    if (0 : Int) ≤ r21736 then
                      (flow_reader_pair F rec_flow_reader_value x21698 x21706 r21714 r21736 (w64 (a4 - 1))).bind fun r22358 =>
                      some (.inl (r22358.2, r22358.1, true))
                    else
                      (flow_reader_one F rec_flow_reader_value x21698 x21706 x21708 r21714 (w64 (a4 - 1))).bind fun r22376 =>
                      some (.inl (r22376.2.2, r22376.1, r22376.2.1))) : Option (Sum (flow_reader × Int × Bool) (Int × Int × flow_reader))).bind fun o => match o with
      | .inl (x22395, x22403, x22404) => flow_reader_collection_l0 F rec_flow_reader_value a0 a1 a2 a3 a4 n x22395 x21706 x22403 x21708 x21709 x22404
      | .inr y => some y
def flow_reader_collection (F : Nat) (rec_flow_reader_value : flow_reader → Int → Int → Int → Option (Int × Int × flow_reader)) (a0 : flow_reader) (a1 : Int) (a2 : Int) (a3 : Int) (a4 : Int) : Option (Int × Int × flow_reader) :=
  (((flow_reader_kind F a0 a3).bind fun r20967 =>
    if r20967 = (9 : Int) then
      some (10, 11)
    else
      some (9, 10)) : Option (Int × Int)).bind fun o => match o with
    | (x20980, x20981) => (flow_reader_add F a0 a1 x20980 a2 (w64 (a3 + 1))).bind fun r20984 =>
    ((flow_reader_collection_l0 F rec_flow_reader_value a0 a1 a2 a3 a4 F r20984.2 r20984.1 (w64 (a3 + 1)) x20980 x20981 false) : Option (Int × Int × flow_reader)).bind fun o => match o with
      | y => some y
theorem flow_reader_collection_ok (F : Nat) (rec_flow_reader_value : flow_reader → Int → Int → Int → Option (Int × Int × flow_reader)) (hrec_flow_reader_value : flow_reader_value_C rec_flow_reader_value) {h : AH} {Z : Zn} {a0 : flow_reader} {a1 : Int} {a2 : Int} {a3 : Int} {a4 : Int} {b19807 : Nat} {v19809 : Value} {v19811 : Value} {v19813 : Value} {c19814 : List Value} (hP : Pre Z h [.blk b19807 (K58 v19809 v19811 v19813 a0), .gs v19813 c19814 (csz api_Diag)]) (q19808 : RS (α := api_Token) Z v19809 a0.l_) (q19810 : RS (α := api_Node) Z v19811 a0.t_.Nodes) (q19812 : RCs (α := api_Diag) Z c19814 a0.d_) {r : Int × Int × flow_reader} (hm : flow_reader_collection F rec_flow_reader_value a0 a1 a2 a3 a4 = some r) :
    ∃ v h' Z' A', callI Go.Proofs.Try.prog 52 [Pt b19807 0, V a1, V a2, V a3, V a4] h = some (v, h') ∧ St h (idsL [.blk b19807 (K58 v19809 v19811 v19813 a0), .gs v19813 c19814 (csz api_Diag)]) Z (0, 0) Z' h' A' ∧ ∃ v20946 : Value, ∃ v20948 : Value, ∃ c20949 : List Value, ∃ v20951 : Value, ∃ c20952 : List Value, .tuple #[V r.1, V r.2.1] = v ∧ A' = [.blk b19807 (K58 v20946 v20948 v20951 r.2.2), .gs v20948 c20949 (csz api_Node), .gs v20951 c20952 (csz api_Diag)] ∧ RS (α := api_Token) Z' v20946 r.2.2.l_ ∧ RCs (α := api_Node) Z' c20949 r.2.2.t_.Nodes ∧ RCs (α := api_Diag) Z' c20952 r.2.2.d_ := by
  refine fn_intro (A := [.blk b19807 (K58 v19809 v19811 v19813 a0), .gs v19813 c19814 (csz api_Diag)]) (Q := fun v Z' A' => ∃ v20946 : Value, ∃ v20948 : Value, ∃ c20949 : List Value, ∃ v20951 : Value, ∃ c20952 : List Value, .tuple #[V r.1, V r.2.1] = v ∧ A' = [.blk b19807 (K58 v20946 v20948 v20951 r.2.2), .gs v20948 c20949 (csz api_Node), .gs v20951 c20952 (csz api_Diag)] ∧ RS (α := api_Token) Z' v20946 r.2.2.l_ ∧ RCs (α := api_Node) Z' c20949 r.2.2.t_.Nodes ∧ RCs (α := api_Diag) Z' c20952 r.2.2.d_) Go.Proofs.Try.func52 rfl rfl (by kernel_rfl) hP ?_
  intro hs hS
  unfold flow_reader_collection at hm
  refine sr r52_0 ?_
  refine xe 2 [(0, Pt b19807 0), (1, V a1), (2, V a2), (3, V a3), (4, V a4)] ?_
  refine W_scopeJ (by kernel_rfl) ?_
  refine sr r52_1 ?_
  refine xe 2 [(13, V 10), (12, V 9), (0, Pt b19807 0), (1, V a1), (2, V a2), (3, V a3), (4, V a4)] ?_
  refine sq ?_
  obtain ⟨o20966, ho20965, hm⟩ := obind hm
  refine W_join [0, 1, 2, 3, 4, 12, 13] (fun l h => ∃ Z20979 : Zn, ∃ x20980 : Int, ∃ x20981 : Int, (x20980, x20981) = o20966 ∧ l = [(0, Pt b19807 0), (1, V a1), (2, V a2), (3, V a3), (4, V a4), (12, V x20980), (13, V x20981)] ∧ St hs (idsL [.blk b19807 (K58 v19809 v19811 v19813 a0), .gs v19813 c19814 (csz api_Diag)]) Z (0, 0) Z20979 h [.blk b19807 (K58 v19809 v19811 v19813 a0), .gs v19813 c19814 (csz api_Diag)]) ?_ ?_
  rintro l h20982 ⟨Z20979, x20980, x20981, rfl, rfl, hS20983⟩
  try dsimp only at hm
  refine sr r52_4 ?_
  refine xq 6 [(27, V (w64 (a3 + 1))), (25, V a2), (24, V x20980), (23, V a1), (22, Pt b19807 0), (0, Pt b19807 0), (3, V a3), (4, V a4), (12, V x20980), (13, V x20981)] ?_
  obtain ⟨r20984, hx20985, hm⟩ := obind hm
  have hF20991 : St _ _ _ _ _ _ ([.blk b19807 (K58 v19809 v19811 v19813 a0), .gs v19813 c19814 (csz api_Diag)] ++ []) := ((hS20983.front 1 rfl).front 1 rfl)
  obtain ⟨v20986, h20987, Z20992, A20994, hcl20988, hSc20989, v20996, v20998, c20999, c21001, rfl, rfl, q20995, q20997, q21000⟩ := flow_reader_add_ok F hF20991.preL (q19808.mono hS20983.zle) (q19810.mono hS20983.zle) (q19812.mono hS20983.zle) hx20985
  have hZ20993 := hSc20989.zle
  have hS20990 := hF20991.call hSc20989
  replace hS20990 : St _ _ _ _ _ _ [.blk b19807 (K58 v20996 v20998 v19813 r20984.2), .gs v20998 c20999 (csz api_Node), .gs v19813 c21001 (csz api_Diag)] := hS20990
  refine r_step rfl trivial (o_call hcl20988 rfl rfl rfl) ?_
  refine xe 1 [(10, V r20984.1), (0, Pt b19807 0), (3, V a3), (4, V a4), (12, V x20980), (13, V x20981)] ?_
  refine sr r52_5 ?_
  refine xe 3 [(11, V (w64 (a3 + 1))), (10, V r20984.1), (0, Pt b19807 0), (3, V a3), (4, V a4), (12, V x20980), (13, V x20981)] ?_
  refine sr r52_6 ?_
  refine xe 1 [(14, .bool false), (11, V (w64 (a3 + 1))), (10, V r20984.1), (0, Pt b19807 0), (3, V a3), (4, V a4), (12, V x20980), (13, V x20981)] ?_
  obtain ⟨o21692, ho21691, hm⟩ := obind hm
  obtain ⟨Z21693, hZ21694, q21695, hS21696⟩ := (hS20990.front 1 rfl).freeze q20997
  replace hS21696 : St _ _ _ _ _ _ [.blk b19807 (K58 v20996 v20998 v19813 r20984.2), .gs v19813 c21001 (csz api_Diag)] := hS21696
  refine W_labelLoop (i := 0) [0, 3, 4, 10, 11, 12, 13, 14] (fun n l h => ∃ Z21697 : Zn, ∃ x21698 : flow_reader, ∃ x21706 : Int, ∃ x21707 : Int, ∃ x21708 : Int, ∃ x21709 : Int, ∃ x21710 : Bool, ∃ v21700 : Value, ∃ v21702 : Value, ∃ v21704 : Value, ∃ c21705 : List Value, flow_reader_collection_l0 F rec_flow_reader_value a0 a1 a2 a3 a4 n x21698 x21706 x21707 x21708 x21709 x21710 = some o21692 ∧ RS (α := api_Token) Z21697 v21700 x21698.l_ ∧ RS (α := api_Node) Z21697 v21702 x21698.t_.Nodes ∧ RCs (α := api_Diag) Z21697 c21705 x21698.d_ ∧ l = [(0, Pt b19807 0), (3, V a3), (4, V a4), (10, V x21706), (11, V x21707), (12, V x21708), (13, V x21709), (14, .bool x21710)] ∧ St hs (idsL [.blk b19807 (K58 v19809 v19811 v19813 a0), .gs v19813 c19814 (csz api_Diag)]) Z (0, 0) Z21697 h [.blk b19807 (K58 v21700 v21702 v21704 x21698), .gs v21704 c21705 (csz api_Diag)]) (m := F) (by kernel_rfl) (by kernel_rfl) ⟨_, r20984.2, r20984.1, w64 (a3 + 1), x20980, x20981, false, v20996, v20998, v19813, c21001, ho21691, (q20995.mono hZ21694), q21695, (q21000.mono hZ21694), rfl, hS21696⟩ ?_
  rintro n21713 l h21711 ⟨Z21697, x21698, x21706, x21707, x21708, x21709, x21710, v21700, v21702, v21704, c21705, ho21691, q21699, q21701, q21703, rfl, hS21712⟩
  rcases n21713 with _ | n21713
  cases (show none = some o21692 from ho21691)
  rw [flow_reader_collection_l0] at ho21691
  refine sr r52_7 ?_
  refine xq 2 [(32, V x21707), (31, Pt b19807 0), (0, Pt b19807 0), (3, V a3), (4, V a4), (10, V x21706), (11, V x21707), (12, V x21708), (13, V x21709), (14, .bool x21710)] ?_
  obtain ⟨r21714, hx21715, ho21691⟩ := obind ho21691
  have hF21721 : St _ _ _ _ _ _ ([.blk b19807 (K58 v21700 v21702 v21704 x21698), .gs v21704 c21705 (csz api_Diag)] ++ []) := ((hS21712.front 1 rfl).front 1 rfl)
  obtain ⟨v21716, h21717, Z21722, A21724, hcl21718, hSc21719, rfl, rfl⟩ := flow_reader_past_ok F hF21721.preL q21699 q21701 q21703 hx21715
  have hZ21723 := hSc21719.zle
  have hS21720 := hF21721.call hSc21719
  replace hS21720 : St _ _ _ _ _ _ [.blk b19807 (K58 v21700 v21702 v21704 x21698), .gs v21704 c21705 (csz api_Diag)] := hS21720
  refine r_step rfl trivial (o_call hcl21718 rfl rfl rfl) ?_
  refine xe 1 [(15, V r21714), (0, Pt b19807 0), (3, V a3), (4, V a4), (10, V x21706), (11, V x21707), (12, V x21708), (13, V x21709), (14, .bool x21710)] ?_
  refine sr r52_8 ?_
  refine xq 2 [(35, V r21714), (34, Pt b19807 0), (15, V r21714), (0, Pt b19807 0), (3, V a3), (4, V a4), (10, V x21706), (11, V x21707), (12, V x21708), (13, V x21709), (14, .bool x21710)] ?_
  obtain ⟨r21725, hx21726, ho21691⟩ := obind ho21691
  have hF21732 : St _ _ _ _ _ _ ([.blk b19807 (K58 v21700 v21702 v21704 x21698), .gs v21704 c21705 (csz api_Diag)] ++ []) := ((hS21720.front 1 rfl).front 1 rfl)
  obtain ⟨v21727, h21728, Z21733, A21735, hcl21729, hSc21730, rfl, rfl⟩ := flow_reader_kind_ok F hF21732.preL (q21699.mono hZ21723) (q21701.mono hZ21723) (q21703.mono hZ21723) hx21726
  have hZ21734 := hSc21730.zle
  have hS21731 := hF21732.call hSc21730
  replace hS21731 : St _ _ _ _ _ _ [.blk b19807 (K58 v21700 v21702 v21704 x21698), .gs v21704 c21705 (csz api_Diag)] := hS21731
  refine r_step rfl trivial (o_call hcl21729 rfl rfl rfl) ?_
  refine xe 1 [(16, V r21725), (15, V r21714), (0, Pt b19807 0), (3, V a3), (4, V a4), (10, V x21706), (11, V x21707), (12, V x21708), (13, V x21709), (14, .bool x21710)] ?_
  refine sr r52_9 ?_
  refine xq 2 [(38, V r21714), (37, Pt b19807 0), (16, V r21725), (15, V r21714), (0, Pt b19807 0), (3, V a3), (4, V a4), (10, V x21706), (11, V x21707), (12, V x21708), (13, V x21709), (14, .bool x21710)] ?_
  obtain ⟨r21736, hx21737, ho21691⟩ := obind ho21691
  have hF21743 : St _ _ _ _ _ _ ([.blk b19807 (K58 v21700 v21702 v21704 x21698), .gs v21704 c21705 (csz api_Diag)] ++ []) := ((hS21731.front 1 rfl).front 1 rfl)
  obtain ⟨v21738, h21739, Z21744, A21746, hcl21740, hSc21741, rfl, rfl⟩ := flow_reader_key_ok F hF21743.preL (q21699.mono (hZ21723.trans hZ21734)) (q21701.mono (hZ21723.trans hZ21734)) (q21703.mono (hZ21723.trans hZ21734)) hx21737
  have hZ21745 := hSc21741.zle
  have hS21742 := hF21743.call hSc21741
  replace hS21742 : St _ _ _ _ _ _ [.blk b19807 (K58 v21700 v21702 v21704 x21698), .gs v21704 c21705 (csz api_Diag)] := hS21742
  refine r_step rfl trivial (o_call hcl21740 rfl rfl rfl) ?_
  refine xe 1 [(17, V r21736), (16, V r21725), (15, V r21714), (0, Pt b19807 0), (3, V a3), (4, V a4), (10, V x21706), (11, V x21707), (12, V x21708), (13, V x21709), (14, .bool x21710)] ?_
  refine sq ?_
  refine bk 0 ?_
  obtain ⟨o22061, ho22060, ho21691⟩ := obind ho21691
  refine W_seqJoin0 [0, 3, 4, 10, 11, 12, 13, 14] (fun l h => ∃ Z22394 : Zn, ∃ x22395 : flow_reader, ∃ x22403 : Int, ∃ x22404 : Bool, ∃ v22397 : Value, ∃ v22399 : Value, ∃ v22401 : Value, ∃ c22402 : List Value, .inl (x22395, x22403, x22404) = o22061 ∧ RS (α := api_Token) Z22394 v22397 x22395.l_ ∧ RS (α := api_Node) Z22394 v22399 x22395.t_.Nodes ∧ RCs (α := api_Diag) Z22394 c22402 x22395.d_ ∧ l = [(0, Pt b19807 0), (3, V a3), (4, V a4), (10, V x21706), (11, V x22403), (12, V x21708), (13, V x21709), (14, .bool x22404)] ∧ St hs (idsL [.blk b19807 (K58 v19809 v19811 v19813 a0), .gs v19813 c19814 (csz api_Diag)]) Z (0, 0) Z22394 h [.blk b19807 (K58 v22397 v22399 v22401 x22395), .gs v22401 c22402 (csz api_Diag)]) (by kernel_rfl) ?_ ?_
  rintro l h22405 ⟨Z22394, x22395, x22403, x22404, v22397, v22399, v22401, c22402, rfl, q22396, q22398, q22400, rfl, hS22406⟩
  try dsimp only at ho21691
  refine W_goto (i := 0) (by kernel_rfl) ?_
  refine scX_hit ?_
  exact ⟨n21713, Nat.lt_succ_self _, ⟨_, x22395, x21706, x22403, x21708, x21709, x22404, v22397, v22399, v22401, c22402, ho21691, q22396, q22398, q22400, rfl, hS22406⟩⟩
  refine rg r52_11 ?_
  refine xq 2 [(52, V x21709), (51, V r21725), (17, V r21736), (16, V r21725), (15, V r21714), (0, Pt b19807 0), (3, V a3), (4, V a4), (10, V x21706), (11, V x21707), (12, V x21708), (13, V x21709), (14, .bool x21710)] ?_
  rcases ifs ho22060 with ⟨hp22062, ho22060⟩ | ⟨hp22062, ho22060⟩
  refine r_step rfl trivial (o_cmp rfl rfl (c_eql_T hp22062)) ?_
  refine xe 1 [(50, .bool true), (17, V r21736), (16, V r21725), (15, V r21714), (0, Pt b19807 0), (3, V a3), (4, V a4), (10, V x21706), (11, V x21707), (12, V x21708), (13, V x21709), (14, .bool x21710)] ?_
  refine cT 50 rfl ?_
  refine sr r52_12 ?_
  refine xq 4 [(57, Pt b19807 2), (54, Pt b19807 0), (15, V r21714), (10, V x21706)] ?_
  refine r_step rfl trivial (o_ldb (v := .agg #[v21702]) hS21742 (i := 0) rfl rfl (by kernel_rfl)) ?_
  refine xq 3 [(61, V (w64 (r21714 + 1))), (59, V x21706), (58, .agg #[v21702]), (54, Pt b19807 0), (15, V r21714), (10, V x21706)] ?_
  obtain ⟨r22063, hx22064, ho22060⟩ := obind ho22060
  have hSr22070 : St _ _ _ _ _ _ ([] ++ [.blk b19807 (K58 v21700 v21702 v21704 x21698), .gs v21704 c21705 (csz api_Diag)]) := hS21742
  obtain ⟨v22065, h22066, Z22071, A22073, hcl22067, hSc22068, v22075, c22076, rfl, rfl, q22074⟩ := arena_Grow_ok F hSr22070.preL (q21701.mono (hZ21723.trans (hZ21734.trans hZ21745))) hx22064
  have hS22069 := hSr22070.call hSc22068
  have hZ22072 := hSc22068.zle
  replace hS22069 : St _ _ _ _ _ _ [.gs v22075 c22076 (csz api_Node), .blk b19807 (K58 v21700 v21702 v21704 x21698), .gs v21704 c21705 (csz api_Diag)] := hS22069
  refine r_step rfl trivial (o_call hcl22067 rfl rfl rfl) ?_
  refine xq 2 [(64, Pt b19807 2), (62, .agg #[v22075]), (15, V r21714), (10, V x21706)] ?_
  refine r_ex1 rfl trivial (o_stb (vs := [v22075]) (cells' := (K58 v21700 v22075 v21704 x21698)) (L' := [.gs v22075 c22076 (csz api_Node), .blk b19807 (K58 v21700 v22075 v21704 x21698), .gs v21704 c21705 (csz api_Diag)]) hS22069 (i := 1) rfl rfl rfl rfl (by kernel_rfl) (one_cons (hS22069.gone1 (i := 0) rfl) one_nil) rfl rfl rfl) ?_
  intro h22077 hS22078
  refine xf [(15, V r21714), (10, V x21706)] ?_
  refine sr r52_13 ?_
  refine xe 5 [(11, V (w64 (r21714 + 1))), (10, V x21706)] ?_
  refine rt ?_
  refine blkX_ret ?_
  refine scX_ret ?_
  refine ⟨rfl, ?_⟩
  obtain rfl := Option.some.inj ho22060
  obtain rfl := Option.some.inj ho21691
  obtain rfl := Option.some.inj hm
  refine ⟨_, _, _, ResL.tmp rfl (ResL.tmp rfl (ResL.nil)), (((hS22078.front 2 rfl).front 1 rfl).front 2 rfl), ?_⟩
  exact ⟨v21700, v22075, c22076, v21704, c21705, rfl, rfl, (q21699.mono (hZ21723.trans (hZ21734.trans (hZ21745.trans hZ22072)))), q22074, (q21703.mono (hZ21723.trans (hZ21734.trans (hZ21745.trans hZ22072))))⟩
  refine r_step rfl trivial (o_cmp rfl rfl (c_eql_F hp22062)) ?_
  refine xe 1 [(50, .bool false), (17, V r21736), (16, V r21725), (15, V r21714), (0, Pt b19807 0), (3, V a3), (4, V a4), (10, V x21706), (11, V x21707), (12, V x21708), (13, V x21709), (14, .bool x21710)] ?_
  refine cF 50 rfl ?_
  refine sr r52_14 ?_
  refine xq 1 [(69, V r21725), (17, V r21736), (16, V r21725), (15, V r21714), (0, Pt b19807 0), (3, V a3), (4, V a4), (10, V x21706), (11, V x21707), (12, V x21708), (13, V x21709), (14, .bool x21710)] ?_
  rcases ifs ho22060 with ⟨hp22087, ho22060⟩ | ⟨hp22087, ho22060⟩
  refine r_step rfl trivial (o_cmp rfl rfl (c_eql_T hp22087)) ?_
  refine xe 5 [(68, .bool true), (17, V r21736), (16, V r21725), (15, V r21714), (0, Pt b19807 0), (3, V a3), (4, V a4), (10, V x21706), (11, V x21707), (12, V x21708), (13, V x21709), (14, .bool x21710)] ?_
  refine cT 68 rfl ?_
  refine sr r52_15 ?_
  refine xq 4 [(78, V (w64 (a3 + 1))), (76, V a3), (75, Pt b19807 0), (0, Pt b19807 0), (10, V x21706), (11, V x21707)] ?_
  obtain ⟨r22088, hx22089, ho22060⟩ := obind ho22060
  have hF22095 : St _ _ _ _ _ _ ([.blk b19807 (K58 v21700 v21702 v21704 x21698), .gs v21704 c21705 (csz api_Diag)] ++ []) := ((hS21742.front 1 rfl).front 1 rfl)
  obtain ⟨v22090, h22091, Z22096, A22098, hcl22092, hSc22093, v22100, v22102, v22104, c22105, rfl, rfl, q22099, q22101, q22103⟩ := flow_reader_tell_ok F hF22095.preL (q21699.mono (hZ21723.trans (hZ21734.trans hZ21745))) (q21701.mono (hZ21723.trans (hZ21734.trans hZ21745))) (q21703.mono (hZ21723.trans (hZ21734.trans hZ21745))) hx22089
  have hZ22097 := hSc22093.zle
  have hS22094 := hF22095.call hSc22093
  replace hS22094 : St _ _ _ _ _ _ [.blk b19807 (K58 v22100 v22102 v22104 r22088), .gs v22104 c22105 (csz api_Diag)] := hS22094
  refine r_step rfl trivial (o_call hcl22092 rfl rfl rfl) ?_
  refine xf [(0, Pt b19807 0), (10, V x21706), (11, V x21707)] ?_
  refine sr r52_16 ?_
  refine xq 4 [(83, Pt b19807 2), (80, Pt b19807 0), (10, V x21706), (11, V x21707)] ?_
  refine r_step rfl trivial (o_ldb (v := .agg #[v22102]) hS22094 (i := 0) rfl rfl (by kernel_rfl)) ?_
  refine xq 2 [(86, V x21707), (85, V x21706), (84, .agg #[v22102]), (80, Pt b19807 0), (10, V x21706), (11, V x21707)] ?_
  obtain ⟨r22106, hx22107, ho22060⟩ := obind ho22060
  have hSr22113 : St _ _ _ _ _ _ ([] ++ [.blk b19807 (K58 v22100 v22102 v22104 r22088), .gs v22104 c22105 (csz api_Diag)]) := hS22094
  obtain ⟨v22108, h22109, Z22114, A22116, hcl22110, hSc22111, v22118, c22119, rfl, rfl, q22117⟩ := arena_Grow_ok F hSr22113.preL q22101 hx22107
  have hS22112 := hSr22113.call hSc22111
  have hZ22115 := hSc22111.zle
  replace hS22112 : St _ _ _ _ _ _ [.gs v22118 c22119 (csz api_Node), .blk b19807 (K58 v22100 v22102 v22104 r22088), .gs v22104 c22105 (csz api_Diag)] := hS22112
  refine r_step rfl trivial (o_call hcl22110 rfl rfl rfl) ?_
  refine xq 2 [(89, Pt b19807 2), (87, .agg #[v22118]), (10, V x21706), (11, V x21707)] ?_
  refine r_ex1 rfl trivial (o_stb (vs := [v22118]) (cells' := (K58 v22100 v22118 v22104 r22088)) (L' := [.gs v22118 c22119 (csz api_Node), .blk b19807 (K58 v22100 v22118 v22104 r22088), .gs v22104 c22105 (csz api_Diag)]) hS22112 (i := 1) rfl rfl rfl rfl (by kernel_rfl) (one_cons (hS22112.gone1 (i := 0) rfl) one_nil) rfl rfl rfl) ?_
  intro h22120 hS22121
  refine xf [(10, V x21706), (11, V x21707)] ?_
  refine sr r52_17 ?_
  refine xe 4 [(11, V x21707), (10, V x21706)] ?_
  refine rt ?_
  refine blkX_ret ?_
  refine scX_ret ?_
  refine ⟨rfl, ?_⟩
  obtain rfl := Option.some.inj ho22060
  obtain rfl := Option.some.inj ho21691
  obtain rfl := Option.some.inj hm
  refine ⟨_, _, _, ResL.tmp rfl (ResL.tmp rfl (ResL.nil)), (((hS22121.front 2 rfl).front 1 rfl).front 2 rfl), ?_⟩
  exact ⟨v22100, v22118, c22119, v22104, c22105, rfl, rfl, (q22099.mono hZ22115), q22117, (q22103.mono hZ22115)⟩
  refine r_step rfl trivial (o_cmp rfl rfl (c_eql_F hp22087)) ?_
  refine xq 2 [(72, V r21725), (71, .bool false), (17, V r21736), (16, V r21725), (15, V r21714), (0, Pt b19807 0), (3, V a3), (4, V a4), (10, V x21706), (11, V x21707), (12, V x21708), (13, V x21709), (14, .bool x21710)] ?_
  obtain ⟨r22122, hx22123, ho22060⟩ := obind ho22060
  obtain ⟨v22124, h22125, hcl22126, hSc22127, rfl⟩ := flow_mark_ok F hS21742.inv  hx22123
  have hS22128 := St.call (A := []) (B := [.blk b19807 (K58 v21700 v21702 v21704 x21698), .gs v21704 c21705 (csz api_Diag)]) hS21742 hSc22127
  replace hS22128 : St _ _ _ _ _ _ [.blk b19807 (K58 v21700 v21702 v21704 x21698), .gs v21704 c21705 (csz api_Diag)] := hS22128
  refine r_step rfl rfl (o_call hcl22126 rfl rfl rfl) ?_
  refine xe 2 [(68, .bool r22122), (17, V r21736), (16, V r21725), (15, V r21714), (0, Pt b19807 0), (3, V a3), (4, V a4), (10, V x21706), (11, V x21707), (12, V x21708), (13, V x21709), (14, .bool x21710)] ?_
  rcases ifs ho22060 with ⟨hp22129, ho22060⟩ | ⟨hp22129, ho22060⟩
  refine W_condT (x := .tmp 68) (by kernel_rfl) rfl hp22129 ?_
  refine sr r52_15 ?_
  refine xq 4 [(78, V (w64 (a3 + 1))), (76, V a3), (75, Pt b19807 0), (0, Pt b19807 0), (10, V x21706), (11, V x21707)] ?_
  obtain ⟨r22130, hx22131, ho22060⟩ := obind ho22060
  have hF22137 : St _ _ _ _ _ _ ([.blk b19807 (K58 v21700 v21702 v21704 x21698), .gs v21704 c21705 (csz api_Diag)] ++ []) := ((hS22128.front 1 rfl).front 1 rfl)
  obtain ⟨v22132, h22133, Z22138, A22140, hcl22134, hSc22135, v22142, v22144, v22146, c22147, rfl, rfl, q22141, q22143, q22145⟩ := flow_reader_tell_ok F hF22137.preL (q21699.mono (hZ21723.trans (hZ21734.trans hZ21745))) (q21701.mono (hZ21723.trans (hZ21734.trans hZ21745))) (q21703.mono (hZ21723.trans (hZ21734.trans hZ21745))) hx22131
  have hZ22139 := hSc22135.zle
  have hS22136 := hF22137.call hSc22135
  replace hS22136 : St _ _ _ _ _ _ [.blk b19807 (K58 v22142 v22144 v22146 r22130), .gs v22146 c22147 (csz api_Diag)] := hS22136
  refine r_step rfl trivial (o_call hcl22134 rfl rfl rfl) ?_
  refine xf [(0, Pt b19807 0), (10, V x21706), (11, V x21707)] ?_
  refine sr r52_16 ?_
  refine xq 4 [(83, Pt b19807 2), (80, Pt b19807 0), (10, V x21706), (11, V x21707)] ?_
  refine r_step rfl trivial (o_ldb (v := .agg #[v22144]) hS22136 (i := 0) rfl rfl (by kernel_rfl)) ?_
  refine xq 2 [(86, V x21707), (85, V x21706), (84, .agg #[v22144]), (80, Pt b19807 0), (10, V x21706), (11, V x21707)] ?_
  obtain ⟨r22148, hx22149, ho22060⟩ := obind ho22060
  have hSr22155 : St _ _ _ _ _ _ ([] ++ [.blk b19807 (K58 v22142 v22144 v22146 r22130), .gs v22146 c22147 (csz api_Diag)]) := hS22136
  obtain ⟨v22150, h22151, Z22156, A22158, hcl22152, hSc22153, v22160, c22161, rfl, rfl, q22159⟩ := arena_Grow_ok F hSr22155.preL q22143 hx22149
  have hS22154 := hSr22155.call hSc22153
  have hZ22157 := hSc22153.zle
  replace hS22154 : St _ _ _ _ _ _ [.gs v22160 c22161 (csz api_Node), .blk b19807 (K58 v22142 v22144 v22146 r22130), .gs v22146 c22147 (csz api_Diag)] := hS22154
  refine r_step rfl trivial (o_call hcl22152 rfl rfl rfl) ?_
  refine xq 2 [(89, Pt b19807 2), (87, .agg #[v22160]), (10, V x21706), (11, V x21707)] ?_
  refine r_ex1 rfl trivial (o_stb (vs := [v22160]) (cells' := (K58 v22142 v22160 v22146 r22130)) (L' := [.gs v22160 c22161 (csz api_Node), .blk b19807 (K58 v22142 v22160 v22146 r22130), .gs v22146 c22147 (csz api_Diag)]) hS22154 (i := 1) rfl rfl rfl rfl (by kernel_rfl) (one_cons (hS22154.gone1 (i := 0) rfl) one_nil) rfl rfl rfl) ?_
  intro h22162 hS22163
  refine xf [(10, V x21706), (11, V x21707)] ?_
  refine sr r52_17 ?_
  refine xe 4 [(11, V x21707), (10, V x21706)] ?_
  refine rt ?_
  refine blkX_ret ?_
  refine scX_ret ?_
  refine ⟨rfl, ?_⟩
  obtain rfl := Option.some.inj ho22060
  obtain rfl := Option.some.inj ho21691
  obtain rfl := Option.some.inj hm
  refine ⟨_, _, _, ResL.tmp rfl (ResL.tmp rfl (ResL.nil)), (((hS22163.front 2 rfl).front 1 rfl).front 2 rfl), ?_⟩
  exact ⟨v22142, v22160, c22161, v22146, c22147, rfl, rfl, (q22141.mono hZ22157), q22159, (q22145.mono hZ22157)⟩
  refine W_condF (x := .tmp 68) (by kernel_rfl) rfl (Bool.eq_false_iff.2 hp22129) ?_
  refine sr r52_18 ?_
  refine xq 1 [(93, V r21725), (17, V r21736), (16, V r21725), (15, V r21714), (0, Pt b19807 0), (3, V a3), (4, V a4), (10, V x21706), (12, V x21708), (13, V x21709), (14, .bool x21710)] ?_
  obtain ⟨r22164, hx22165, ho22060⟩ := obind ho22060
  obtain ⟨v22166, h22167, hcl22168, hSc22169, rfl⟩ := flow_ends_ok F hS22128.inv  hx22165
  have hS22170 := St.call (A := []) (B := [.blk b19807 (K58 v21700 v21702 v21704 x21698), .gs v21704 c21705 (csz api_Diag)]) hS22128 hSc22169
  replace hS22170 : St _ _ _ _ _ _ [.blk b19807 (K58 v21700 v21702 v21704 x21698), .gs v21704 c21705 (csz api_Diag)] := hS22170
  refine r_step rfl trivial (o_call hcl22168 rfl rfl rfl) ?_
  refine xe 1 [(92, .bool r22164), (17, V r21736), (16, V r21725), (15, V r21714), (0, Pt b19807 0), (3, V a3), (4, V a4), (10, V x21706), (12, V x21708), (13, V x21709), (14, .bool x21710)] ?_
  rcases ifs ho22060 with ⟨hp22171, ho22060⟩ | ⟨hp22171, ho22060⟩
  refine W_condT (x := .tmp 92) (by kernel_rfl) rfl hp22171 ?_
  refine sr r52_19 ?_
  refine xe 3 [(11, V (w64 (r21714 + 1))), (15, V r21714), (0, Pt b19807 0), (3, V a3), (4, V a4), (10, V x21706), (12, V x21708), (13, V x21709), (14, .bool x21710)] ?_
  refine rg r52_20 ?_
  refine xq 4 [(100, V (w64 (r21714 + 1))), (99, V r21714), (98, V x21706), (97, Pt b19807 0), (11, V (w64 (r21714 + 1))), (0, Pt b19807 0), (3, V a3), (4, V a4), (10, V x21706), (12, V x21708), (13, V x21709), (14, .bool x21710)] ?_
  obtain ⟨r22172, hx22173, ho22060⟩ := obind ho22060
  have hF22179 : St _ _ _ _ _ _ ([.blk b19807 (K58 v21700 v21702 v21704 x21698), .gs v21704 c21705 (csz api_Diag)] ++ []) := ((hS22170.front 1 rfl).front 1 rfl)
  obtain ⟨v22174, h22175, Z22180, A22182, hcl22176, hSc22177, v22184, v22186, c22187, v22189, c22190, rfl, rfl, q22183, q22185, q22188⟩ := flow_reader_wrong_ok F hF22179.preL (q21699.mono (hZ21723.trans (hZ21734.trans hZ21745))) (q21701.mono (hZ21723.trans (hZ21734.trans hZ21745))) (q21703.mono (hZ21723.trans (hZ21734.trans hZ21745))) hx22173
  have hZ22181 := hSc22177.zle
  have hS22178 := hF22179.call hSc22177
  replace hS22178 : St _ _ _ _ _ _ [.blk b19807 (K58 v22184 v22186 v22189 r22172.2), .gs v22186 c22187 (csz api_Node), .gs v22189 c22190 (csz api_Diag)] := hS22178
  refine r_step rfl trivial (o_call hcl22176 rfl rfl rfl) ?_
  refine xf [(11, V (w64 (r21714 + 1))), (0, Pt b19807 0), (3, V a3), (4, V a4), (10, V x21706), (12, V x21708), (13, V x21709), (14, .bool x21710)] ?_
  obtain ⟨Z22191, hZ22192, q22193, hS22194⟩ := (hS22178.front 1 rfl).freeze q22185
  replace hS22194 : St _ _ _ _ _ _ [.blk b19807 (K58 v22184 v22186 v22189 r22172.2), .gs v22189 c22190 (csz api_Diag)] := hS22194
  obtain rfl := Option.some.inj ho22060
  exact ⟨_, r22172.2, w64 (r21714 + 1), x21710, v22184, v22186, v22189, c22190, rfl, (q22183.mono hZ22192), q22193, (q22188.mono hZ22192), rfl, hS22194⟩
  refine W_condF (x := .tmp 92) (by kernel_rfl) rfl (Bool.eq_false_iff.2 hp22171) ?_
  refine sr r52_21 ?_
  refine xq 1 [(103, V r21725), (17, V r21736), (16, V r21725), (15, V r21714), (0, Pt b19807 0), (3, V a3), (4, V a4), (10, V x21706), (12, V x21708), (13, V x21709), (14, .bool x21710)] ?_
  rcases ifs ho22060 with ⟨hp22196, ho22060⟩ | ⟨hp22196, ho22060⟩
  refine r_step rfl trivial (o_cmp rfl rfl (c_eql_T hp22196)) ?_
  refine xe 4 [(102, .bool x21710), (17, V r21736), (16, V r21725), (15, V r21714), (0, Pt b19807 0), (3, V a3), (4, V a4), (10, V x21706), (12, V x21708), (13, V x21709), (14, .bool x21710)] ?_
  rcases ifs ho22060 with ⟨hp22197, ho22060⟩ | ⟨hp22197, ho22060⟩
  refine W_condT (x := .tmp 102) (by kernel_rfl) rfl hp22197 ?_
  refine rg r52_22 ?_
  refine xe 4 [(14, .bool false), (11, V (w64 (r21714 + 1))), (0, Pt b19807 0), (3, V a3), (4, V a4), (10, V x21706), (12, V x21708), (13, V x21709)] ?_
  obtain rfl := Option.some.inj ho22060
  exact ⟨_, x21698, w64 (r21714 + 1), false, v21700, v21702, v21704, c21705, rfl, (q21699.mono (hZ21723.trans (hZ21734.trans hZ21745))), (q21701.mono (hZ21723.trans (hZ21734.trans hZ21745))), (q21703.mono (hZ21723.trans (hZ21734.trans hZ21745))), rfl, hS22170⟩
  refine W_condF (x := .tmp 102) (by kernel_rfl) rfl (Bool.eq_false_iff.2 hp22197) ?_
  refine sr r52_23 ?_
  refine xq 1 [(111, V r21725), (17, V r21736), (15, V r21714), (0, Pt b19807 0), (3, V a3), (4, V a4), (10, V x21706), (12, V x21708), (13, V x21709), (14, .bool x21710)] ?_
  rcases ifs ho22060 with ⟨hp22199, ho22060⟩ | ⟨hp22199, ho22060⟩
  refine r_step rfl trivial (o_cmp rfl rfl (c_eql_T hp22199)) ?_
  refine xe 1 [(110, .bool true), (17, V r21736), (15, V r21714), (0, Pt b19807 0), (3, V a3), (4, V a4), (10, V x21706), (12, V x21708), (13, V x21709), (14, .bool x21710)] ?_
  refine cT 110 rfl ?_
  refine sr r52_24 ?_
  refine xe 3 [(11, V (w64 (r21714 + 1))), (15, V r21714), (0, Pt b19807 0), (3, V a3), (4, V a4), (10, V x21706), (12, V x21708), (13, V x21709), (14, .bool x21710)] ?_
  refine rg r52_25 ?_
  refine xq 4 [(118, V (w64 (r21714 + 1))), (117, V r21714), (116, V x21706), (115, Pt b19807 0), (11, V (w64 (r21714 + 1))), (0, Pt b19807 0), (3, V a3), (4, V a4), (10, V x21706), (12, V x21708), (13, V x21709), (14, .bool x21710)] ?_
  obtain ⟨r22200, hx22201, ho22060⟩ := obind ho22060
  have hF22207 : St _ _ _ _ _ _ ([.blk b19807 (K58 v21700 v21702 v21704 x21698), .gs v21704 c21705 (csz api_Diag)] ++ []) := ((hS22170.front 1 rfl).front 1 rfl)
  obtain ⟨v22202, h22203, Z22208, A22210, hcl22204, hSc22205, v22212, v22214, c22215, v22217, c22218, rfl, rfl, q22211, q22213, q22216⟩ := flow_reader_wrong_ok F hF22207.preL (q21699.mono (hZ21723.trans (hZ21734.trans hZ21745))) (q21701.mono (hZ21723.trans (hZ21734.trans hZ21745))) (q21703.mono (hZ21723.trans (hZ21734.trans hZ21745))) hx22201
  have hZ22209 := hSc22205.zle
  have hS22206 := hF22207.call hSc22205
  replace hS22206 : St _ _ _ _ _ _ [.blk b19807 (K58 v22212 v22214 v22217 r22200.2), .gs v22214 c22215 (csz api_Node), .gs v22217 c22218 (csz api_Diag)] := hS22206
  refine r_step rfl trivial (o_call hcl22204 rfl rfl rfl) ?_
  refine xf [(11, V (w64 (r21714 + 1))), (0, Pt b19807 0), (3, V a3), (4, V a4), (10, V x21706), (12, V x21708), (13, V x21709), (14, .bool x21710)] ?_
  obtain ⟨Z22219, hZ22220, q22221, hS22222⟩ := (hS22206.front 1 rfl).freeze q22213
  replace hS22222 : St _ _ _ _ _ _ [.blk b19807 (K58 v22212 v22214 v22217 r22200.2), .gs v22217 c22218 (csz api_Diag)] := hS22222
  obtain rfl := Option.some.inj ho22060
  exact ⟨_, r22200.2, w64 (r21714 + 1), x21710, v22212, v22214, v22217, c22218, rfl, (q22211.mono hZ22220), q22221, (q22216.mono hZ22220), rfl, hS22222⟩
  refine r_step rfl trivial (o_cmp rfl rfl (c_eql_F hp22199)) ?_
  refine xe 1 [(110, .bool false), (17, V r21736), (15, V r21714), (0, Pt b19807 0), (3, V a3), (4, V a4), (10, V x21706), (12, V x21708), (13, V x21709), (14, .bool x21710)] ?_
  refine cF 110 rfl ?_
  refine sr r52_26 ?_
  refine xe 2 [(120, .bool x21710), (17, V r21736), (15, V r21714), (0, Pt b19807 0), (3, V a3), (4, V a4), (10, V x21706), (12, V x21708), (13, V x21709), (14, .bool x21710)] ?_
  rcases ifs ho22060 with ⟨hp22223, ho22060⟩ | ⟨hp22223, ho22060⟩
  refine W_condT (x := .tmp 120) (by kernel_rfl) rfl hp22223 ?_
  refine sr r52_27 ?_
  refine xq 2 [(123, V r21714), (122, Pt b19807 0), (15, V r21714), (0, Pt b19807 0), (3, V a3), (4, V a4), (10, V x21706), (12, V x21708), (13, V x21709), (14, .bool x21710)] ?_
  obtain ⟨r22224, hx22225, ho22060⟩ := obind ho22060
  have hF22231 : St _ _ _ _ _ _ ([.blk b19807 (K58 v21700 v21702 v21704 x21698), .gs v21704 c21705 (csz api_Diag)] ++ []) := ((hS22170.front 1 rfl).front 1 rfl)
  obtain ⟨v22226, h22227, Z22232, A22234, hcl22228, hSc22229, rfl, rfl⟩ := flow_reader_stray_ok F hF22231.preL (q21699.mono (hZ21723.trans (hZ21734.trans hZ21745))) (q21701.mono (hZ21723.trans (hZ21734.trans hZ21745))) (q21703.mono (hZ21723.trans (hZ21734.trans hZ21745))) hx22225
  have hZ22233 := hSc22229.zle
  have hS22230 := hF22231.call hSc22229
  replace hS22230 : St _ _ _ _ _ _ [.blk b19807 (K58 v21700 v21702 v21704 x21698), .gs v21704 c21705 (csz api_Diag)] := hS22230
  refine r_step rfl trivial (o_call hcl22228 rfl rfl rfl) ?_
  refine xe 1 [(11, V r22224), (15, V r21714), (0, Pt b19807 0), (3, V a3), (4, V a4), (10, V x21706), (12, V x21708), (13, V x21709), (14, .bool x21710)] ?_
  refine rg r52_28 ?_
  refine xq 4 [(128, V r22224), (127, V r21714), (126, V x21706), (125, Pt b19807 0), (11, V r22224), (0, Pt b19807 0), (3, V a3), (4, V a4), (10, V x21706), (12, V x21708), (13, V x21709), (14, .bool x21710)] ?_
  obtain ⟨r22235, hx22236, ho22060⟩ := obind ho22060
  have hF22242 : St _ _ _ _ _ _ ([.blk b19807 (K58 v21700 v21702 v21704 x21698), .gs v21704 c21705 (csz api_Diag)] ++ []) := ((hS22230.front 1 rfl).front 1 rfl)
  obtain ⟨v22237, h22238, Z22243, A22245, hcl22239, hSc22240, v22247, v22249, c22250, v22252, c22253, rfl, rfl, q22246, q22248, q22251⟩ := flow_reader_wrong_ok F hF22242.preL (q21699.mono (hZ21723.trans (hZ21734.trans (hZ21745.trans hZ22233)))) (q21701.mono (hZ21723.trans (hZ21734.trans (hZ21745.trans hZ22233)))) (q21703.mono (hZ21723.trans (hZ21734.trans (hZ21745.trans hZ22233)))) hx22236
  have hZ22244 := hSc22240.zle
  have hS22241 := hF22242.call hSc22240
  replace hS22241 : St _ _ _ _ _ _ [.blk b19807 (K58 v22247 v22249 v22252 r22235.2), .gs v22249 c22250 (csz api_Node), .gs v22252 c22253 (csz api_Diag)] := hS22241
  refine r_step rfl trivial (o_call hcl22239 rfl rfl rfl) ?_
  refine xf [(11, V r22224), (0, Pt b19807 0), (3, V a3), (4, V a4), (10, V x21706), (12, V x21708), (13, V x21709), (14, .bool x21710)] ?_
  obtain ⟨Z22254, hZ22255, q22256, hS22257⟩ := (hS22241.front 1 rfl).freeze q22248
  replace hS22257 : St _ _ _ _ _ _ [.blk b19807 (K58 v22247 v22249 v22252 r22235.2), .gs v22252 c22253 (csz api_Diag)] := hS22257
  obtain rfl := Option.some.inj ho22060
  exact ⟨_, r22235.2, r22224, x21710, v22247, v22249, v22252, c22253, rfl, (q22246.mono hZ22255), q22256, (q22251.mono hZ22255), rfl, hS22257⟩
  refine W_condF (x := .tmp 120) (by kernel_rfl) rfl (Bool.eq_false_iff.2 hp22223) ?_
  refine sr r52_29 ?_
  refine xq 1 [(131, V r21736), (17, V r21736), (15, V r21714), (0, Pt b19807 0), (3, V a3), (4, V a4), (10, V x21706), (12, V x21708), (13, V x21709)] ?_
  rcases ifs ho22060 with ⟨hp22259, ho22060⟩ | ⟨hp22259, ho22060⟩
  refine r_step rfl trivial (o_cmp rfl rfl (c_geq_T hp22259)) ?_
  refine xe 1 [(130, .bool true), (17, V r21736), (15, V r21714), (0, Pt b19807 0), (3, V a3), (4, V a4), (10, V x21706), (12, V x21708), (13, V x21709)] ?_
  refine cT 130 rfl ?_
  refine rg r52_30 ?_
  refine xq 6 [(138, V (w64 (a4 - 1))), (136, V r21736), (135, V r21714), (134, V x21706), (133, Pt b19807 0), (0, Pt b19807 0), (3, V a3), (4, V a4), (10, V x21706), (12, V x21708), (13, V x21709)] ?_
  obtain ⟨r22260, hx22261, ho22060⟩ := obind ho22060
  have hF22267 : St _ _ _ _ _ _ ([.blk b19807 (K58 v21700 v21702 v21704 x21698), .gs v21704 c21705 (csz api_Diag)] ++ []) := ((hS22170.front 1 rfl).front 1 rfl)
  obtain ⟨v22262, h22263, Z22268, A22270, hcl22264, hSc22265, v22272, v22274, v22276, c22277, rfl, rfl, q22271, q22273, q22275⟩ := flow_reader_pair_ok F rec_flow_reader_value hrec_flow_reader_value hF22267.preL (q21699.mono (hZ21723.trans (hZ21734.trans hZ21745))) (q21701.mono (hZ21723.trans (hZ21734.trans hZ21745))) (q21703.mono (hZ21723.trans (hZ21734.trans hZ21745))) hx22261
  have hZ22269 := hSc22265.zle
  have hS22266 := hF22267.call hSc22265
  replace hS22266 : St _ _ _ _ _ _ [.blk b19807 (K58 v22272 v22274 v22276 r22260.2), .gs v22276 c22277 (csz api_Diag)] := hS22266
  refine r_step rfl trivial (o_call hcl22264 rfl rfl rfl) ?_
  refine xe 2 [(14, .bool true), (11, V r22260.1), (0, Pt b19807 0), (3, V a3), (4, V a4), (10, V x21706), (12, V x21708), (13, V x21709)] ?_
  obtain rfl := Option.some.inj ho22060
  exact ⟨_, r22260.2, r22260.1, true, v22272, v22274, v22276, c22277, rfl, q22271, q22273, q22275, rfl, hS22266⟩
  refine r_step rfl trivial (o_cmp rfl rfl (c_geq_F hp22259)) ?_
  refine xe 1 [(130, .bool false), (17, V r21736), (15, V r21714), (0, Pt b19807 0), (3, V a3), (4, V a4), (10, V x21706), (12, V x21708), (13, V x21709)] ?_
  refine cF 130 rfl ?_
  refine rg r52_10 ?_
  refine xq 6 [(46, V (w64 (a4 - 1))), (44, V r21714), (43, V x21708), (42, V x21706), (41, Pt b19807 0), (0, Pt b19807 0), (3, V a3), (4, V a4), (10, V x21706), (12, V x21708), (13, V x21709)] ?_
  obtain ⟨r22278, hx22279, ho22060⟩ := obind ho22060
  have hF22285 : St _ _ _ _ _ _ ([.blk b19807 (K58 v21700 v21702 v21704 x21698), .gs v21704 c21705 (csz api_Diag)] ++ []) := ((hS22170.front 1 rfl).front 1 rfl)
  obtain ⟨v22280, h22281, Z22286, A22288, hcl22282, hSc22283, v22290, v22292, v22294, c22295, rfl, rfl, q22289, q22291, q22293⟩ := flow_reader_one_ok F rec_flow_reader_value hrec_flow_reader_value hF22285.preL (q21699.mono (hZ21723.trans (hZ21734.trans hZ21745))) (q21701.mono (hZ21723.trans (hZ21734.trans hZ21745))) (q21703.mono (hZ21723.trans (hZ21734.trans hZ21745))) hx22279
  have hZ22287 := hSc22283.zle
  have hS22284 := hF22285.call hSc22283
  replace hS22284 : St _ _ _ _ _ _ [.blk b19807 (K58 v22290 v22292 v22294 r22278.2.2), .gs v22294 c22295 (csz api_Diag)] := hS22284
  refine r_step rfl trivial (o_call hcl22282 rfl rfl rfl) ?_
  refine xe 5 [(14, .bool r22278.2.1), (11, V r22278.1), (0, Pt b19807 0), (3, V a3), (4, V a4), (10, V x21706), (12, V x21708), (13, V x21709)] ?_
  obtain rfl := Option.some.inj ho22060
  exact ⟨_, r22278.2.2, r22278.1, r22278.2.1, v22290, v22292, v22294, c22295, rfl, q22289, q22291, q22293, rfl, hS22284⟩
  refine r_step rfl trivial (o_cmp rfl rfl (c_eql_F hp22196)) ?_
  refine xe 4 [(102, .bool false), (17, V r21736), (16, V r21725), (15, V r21714), (0, Pt b19807 0), (3, V a3), (4, V a4), (10, V x21706), (12, V x21708), (13, V x21709), (14, .bool x21710)] ?_
  refine cF 102 rfl ?_
  refine sr r52_23 ?_
  refine xq 1 [(111, V r21725), (17, V r21736), (15, V r21714), (0, Pt b19807 0), (3, V a3), (4, V a4), (10, V x21706), (12, V x21708), (13, V x21709), (14, .bool x21710)] ?_
  rcases ifs ho22060 with ⟨hp22297, ho22060⟩ | ⟨hp22297, ho22060⟩
  refine r_step rfl trivial (o_cmp rfl rfl (c_eql_T hp22297)) ?_
  refine xe 1 [(110, .bool true), (17, V r21736), (15, V r21714), (0, Pt b19807 0), (3, V a3), (4, V a4), (10, V x21706), (12, V x21708), (13, V x21709), (14, .bool x21710)] ?_
  refine cT 110 rfl ?_
  refine sr r52_24 ?_
  refine xe 3 [(11, V (w64 (r21714 + 1))), (15, V r21714), (0, Pt b19807 0), (3, V a3), (4, V a4), (10, V x21706), (12, V x21708), (13, V x21709), (14, .bool x21710)] ?_
  refine rg r52_25 ?_
  refine xq 4 [(118, V (w64 (r21714 + 1))), (117, V r21714), (116, V x21706), (115, Pt b19807 0), (11, V (w64 (r21714 + 1))), (0, Pt b19807 0), (3, V a3), (4, V a4), (10, V x21706), (12, V x21708), (13, V x21709), (14, .bool x21710)] ?_
  obtain ⟨r22298, hx22299, ho22060⟩ := obind ho22060
  have hF22305 : St _ _ _ _ _ _ ([.blk b19807 (K58 v21700 v21702 v21704 x21698), .gs v21704 c21705 (csz api_Diag)] ++ []) := ((hS22170.front 1 rfl).front 1 rfl)
  obtain ⟨v22300, h22301, Z22306, A22308, hcl22302, hSc22303, v22310, v22312, c22313, v22315, c22316, rfl, rfl, q22309, q22311, q22314⟩ := flow_reader_wrong_ok F hF22305.preL (q21699.mono (hZ21723.trans (hZ21734.trans hZ21745))) (q21701.mono (hZ21723.trans (hZ21734.trans hZ21745))) (q21703.mono (hZ21723.trans (hZ21734.trans hZ21745))) hx22299
  have hZ22307 := hSc22303.zle
  have hS22304 := hF22305.call hSc22303
  replace hS22304 : St _ _ _ _ _ _ [.blk b19807 (K58 v22310 v22312 v22315 r22298.2), .gs v22312 c22313 (csz api_Node), .gs v22315 c22316 (csz api_Diag)] := hS22304
  refine r_step rfl trivial (o_call hcl22302 rfl rfl rfl) ?_
  refine xf [(11, V (w64 (r21714 + 1))), (0, Pt b19807 0), (3, V a3), (4, V a4), (10, V x21706), (12, V x21708), (13, V x21709), (14, .bool x21710)] ?_
  obtain ⟨Z22317, hZ22318, q22319, hS22320⟩ := (hS22304.front 1 rfl).freeze q22311
  replace hS22320 : St _ _ _ _ _ _ [.blk b19807 (K58 v22310 v22312 v22315 r22298.2), .gs v22315 c22316 (csz api_Diag)] := hS22320
  obtain rfl := Option.some.inj ho22060
  exact ⟨_, r22298.2, w64 (r21714 + 1), x21710, v22310, v22312, v22315, c22316, rfl, (q22309.mono hZ22318), q22319, (q22314.mono hZ22318), rfl, hS22320⟩
  refine r_step rfl trivial (o_cmp rfl rfl (c_eql_F hp22297)) ?_
  refine xe 1 [(110, .bool false), (17, V r21736), (15, V r21714), (0, Pt b19807 0), (3, V a3), (4, V a4), (10, V x21706), (12, V x21708), (13, V x21709), (14, .bool x21710)] ?_
  refine cF 110 rfl ?_
  refine sr r52_26 ?_
  refine xe 2 [(120, .bool x21710), (17, V r21736), (15, V r21714), (0, Pt b19807 0), (3, V a3), (4, V a4), (10, V x21706), (12, V x21708), (13, V x21709), (14, .bool x21710)] ?_
  rcases ifs ho22060 with ⟨hp22321, ho22060⟩ | ⟨hp22321, ho22060⟩
  refine W_condT (x := .tmp 120) (by kernel_rfl) rfl hp22321 ?_
  refine sr r52_27 ?_
  refine xq 2 [(123, V r21714), (122, Pt b19807 0), (15, V r21714), (0, Pt b19807 0), (3, V a3), (4, V a4), (10, V x21706), (12, V x21708), (13, V x21709), (14, .bool x21710)] ?_
  obtain ⟨r22322, hx22323, ho22060⟩ := obind ho22060
  have hF22329 : St _ _ _ _ _ _ ([.blk b19807 (K58 v21700 v21702 v21704 x21698), .gs v21704 c21705 (csz api_Diag)] ++ []) := ((hS22170.front 1 rfl).front 1 rfl)
  obtain ⟨v22324, h22325, Z22330, A22332, hcl22326, hSc22327, rfl, rfl⟩ := flow_reader_stray_ok F hF22329.preL (q21699.mono (hZ21723.trans (hZ21734.trans hZ21745))) (q21701.mono (hZ21723.trans (hZ21734.trans hZ21745))) (q21703.mono (hZ21723.trans (hZ21734.trans hZ21745))) hx22323
  have hZ22331 := hSc22327.zle
  have hS22328 := hF22329.call hSc22327
  replace hS22328 : St _ _ _ _ _ _ [.blk b19807 (K58 v21700 v21702 v21704 x21698), .gs v21704 c21705 (csz api_Diag)] := hS22328
  refine r_step rfl trivial (o_call hcl22326 rfl rfl rfl) ?_
  refine xe 1 [(11, V r22322), (15, V r21714), (0, Pt b19807 0), (3, V a3), (4, V a4), (10, V x21706), (12, V x21708), (13, V x21709), (14, .bool x21710)] ?_
  refine rg r52_28 ?_
  refine xq 4 [(128, V r22322), (127, V r21714), (126, V x21706), (125, Pt b19807 0), (11, V r22322), (0, Pt b19807 0), (3, V a3), (4, V a4), (10, V x21706), (12, V x21708), (13, V x21709), (14, .bool x21710)] ?_
  obtain ⟨r22333, hx22334, ho22060⟩ := obind ho22060
  have hF22340 : St _ _ _ _ _ _ ([.blk b19807 (K58 v21700 v21702 v21704 x21698), .gs v21704 c21705 (csz api_Diag)] ++ []) := ((hS22328.front 1 rfl).front 1 rfl)
  obtain ⟨v22335, h22336, Z22341, A22343, hcl22337, hSc22338, v22345, v22347, c22348, v22350, c22351, rfl, rfl, q22344, q22346, q22349⟩ := flow_reader_wrong_ok F hF22340.preL (q21699.mono (hZ21723.trans (hZ21734.trans (hZ21745.trans hZ22331)))) (q21701.mono (hZ21723.trans (hZ21734.trans (hZ21745.trans hZ22331)))) (q21703.mono (hZ21723.trans (hZ21734.trans (hZ21745.trans hZ22331)))) hx22334
  have hZ22342 := hSc22338.zle
  have hS22339 := hF22340.call hSc22338
  replace hS22339 : St _ _ _ _ _ _ [.blk b19807 (K58 v22345 v22347 v22350 r22333.2), .gs v22347 c22348 (csz api_Node), .gs v22350 c22351 (csz api_Diag)] := hS22339
  refine r_step rfl trivial (o_call hcl22337 rfl rfl rfl) ?_
  refine xf [(11, V r22322), (0, Pt b19807 0), (3, V a3), (4, V a4), (10, V x21706), (12, V x21708), (13, V x21709), (14, .bool x21710)] ?_
  obtain ⟨Z22352, hZ22353, q22354, hS22355⟩ := (hS22339.front 1 rfl).freeze q22346
  replace hS22355 : St _ _ _ _ _ _ [.blk b19807 (K58 v22345 v22347 v22350 r22333.2), .gs v22350 c22351 (csz api_Diag)] := hS22355
  obtain rfl := Option.some.inj ho22060
  exact ⟨_, r22333.2, r22322, x21710, v22345, v22347, v22350, c22351, rfl, (q22344.mono hZ22353), q22354, (q22349.mono hZ22353), rfl, hS22355⟩
  refine W_condF (x := .tmp 120) (by kernel_rfl) rfl (Bool.eq_false_iff.2 hp22321) ?_
  refine sr r52_29 ?_
  refine xq 1 [(131, V r21736), (17, V r21736), (15, V r21714), (0, Pt b19807 0), (3, V a3), (4, V a4), (10, V x21706), (12, V x21708), (13, V x21709)] ?_
  rcases ifs ho22060 with ⟨hp22357, ho22060⟩ | ⟨hp22357, ho22060⟩
  refine r_step rfl trivial (o_cmp rfl rfl (c_geq_T hp22357)) ?_
  refine xe 1 [(130, .bool true), (17, V r21736), (15, V r21714), (0, Pt b19807 0), (3, V a3), (4, V a4), (10, V x21706), (12, V x21708), (13, V x21709)] ?_
  refine cT 130 rfl ?_
  refine rg r52_30 ?_
  refine xq 6 [(138, V (w64 (a4 - 1))), (136, V r21736), (135, V r21714), (134, V x21706), (133, Pt b19807 0), (0, Pt b19807 0), (3, V a3), (4, V a4), (10, V x21706), (12, V x21708), (13, V x21709)] ?_
  obtain ⟨r22358, hx22359, ho22060⟩ := obind ho22060
  have hF22365 : St _ _ _ _ _ _ ([.blk b19807 (K58 v21700 v21702 v21704 x21698), .gs v21704 c21705 (csz api_Diag)] ++ []) := ((hS22170.front 1 rfl).front 1 rfl)
  obtain ⟨v22360, h22361, Z22366, A22368, hcl22362, hSc22363, v22370, v22372, v22374, c22375, rfl, rfl, q22369, q22371, q22373⟩ := flow_reader_pair_ok F rec_flow_reader_value hrec_flow_reader_value hF22365.preL (q21699.mono (hZ21723.trans (hZ21734.trans hZ21745))) (q21701.mono (hZ21723.trans (hZ21734.trans hZ21745))) (q21703.mono (hZ21723.trans (hZ21734.trans hZ21745))) hx22359
  have hZ22367 := hSc22363.zle
  have hS22364 := hF22365.call hSc22363
  replace hS22364 : St _ _ _ _ _ _ [.blk b19807 (K58 v22370 v22372 v22374 r22358.2), .gs v22374 c22375 (csz api_Diag)] := hS22364
  refine r_step rfl trivial (o_call hcl22362 rfl rfl rfl) ?_
  refine xe 2 [(14, .bool true), (11, V r22358.1), (0, Pt b19807 0), (3, V a3), (4, V a4), (10, V x21706), (12, V x21708), (13, V x21709)] ?_
  obtain rfl := Option.some.inj ho22060
  exact ⟨_, r22358.2, r22358.1, true, v22370, v22372, v22374, c22375, rfl, q22369, q22371, q22373, rfl, hS22364⟩
  refine r_step rfl trivial (o_cmp rfl rfl (c_geq_F hp22357)) ?_
  refine xe 1 [(130, .bool false), (17, V r21736), (15, V r21714), (0, Pt b19807 0), (3, V a3), (4, V a4), (10, V x21706), (12, V x21708), (13, V x21709)] ?_
  refine cF 130 rfl ?_
  refine rg r52_10 ?_
  refine xq 6 [(46, V (w64 (a4 - 1))), (44, V r21714), (43, V x21708), (42, V x21706), (41, Pt b19807 0), (0, Pt b19807 0), (3, V a3), (4, V a4), (10, V x21706), (12, V x21708), (13, V x21709)] ?_
  obtain ⟨r22376, hx22377, ho22060⟩ := obind ho22060
  have hF22383 : St _ _ _ _ _ _ ([.blk b19807 (K58 v21700 v21702 v21704 x21698), .gs v21704 c21705 (csz api_Diag)] ++ []) := ((hS22170.front 1 rfl).front 1 rfl)
  obtain ⟨v22378, h22379, Z22384, A22386, hcl22380, hSc22381, v22388, v22390, v22392, c22393, rfl, rfl, q22387, q22389, q22391⟩ := flow_reader_one_ok F rec_flow_reader_value hrec_flow_reader_value hF22383.preL (q21699.mono (hZ21723.trans (hZ21734.trans hZ21745))) (q21701.mono (hZ21723.trans (hZ21734.trans hZ21745))) (q21703.mono (hZ21723.trans (hZ21734.trans hZ21745))) hx22377
  have hZ22385 := hSc22381.zle
  have hS22382 := hF22383.call hSc22381
  replace hS22382 : St _ _ _ _ _ _ [.blk b19807 (K58 v22388 v22390 v22392 r22376.2.2), .gs v22392 c22393 (csz api_Diag)] := hS22382
  refine r_step rfl trivial (o_call hcl22380 rfl rfl rfl) ?_
  refine xe 5 [(14, .bool r22376.2.1), (11, V r22376.1), (0, Pt b19807 0), (3, V a3), (4, V a4), (10, V x21706), (12, V x21708), (13, V x21709)] ?_
  obtain rfl := Option.some.inj ho22060
  exact ⟨_, r22376.2.2, r22376.1, r22376.2.1, v22388, v22390, v22392, c22393, rfl, q22387, q22389, q22391, rfl, hS22382⟩
  refine sr r52_2 ?_
  refine xq 2 [(19, V a3), (18, Pt b19807 0), (13, V 10), (12, V 9), (0, Pt b19807 0), (1, V a1), (2, V a2), (3, V a3), (4, V a4)] ?_
  obtain ⟨r20967, hx20968, ho20965⟩ := obind ho20965
  have hF20974 : St _ _ _ _ _ _ ([.blk b19807 (K58 v19809 v19811 v19813 a0), .gs v19813 c19814 (csz api_Diag)] ++ []) := ((hS.front 1 rfl).front 1 rfl)
  obtain ⟨v20969, h20970, Z20975, A20977, hcl20971, hSc20972, rfl, rfl⟩ := flow_reader_kind_ok F hF20974.preL q19808 q19810 q19812 hx20968
  have hZ20976 := hSc20972.zle
  have hS20973 := hF20974.call hSc20972
  replace hS20973 : St _ _ _ _ _ _ [.blk b19807 (K58 v19809 v19811 v19813 a0), .gs v19813 c19814 (csz api_Diag)] := hS20973
  refine r_step rfl trivial (o_call hcl20971 rfl rfl rfl) ?_
  rcases ifs ho20965 with ⟨hp20978, ho20965⟩ | ⟨hp20978, ho20965⟩
  refine r_step rfl trivial (o_cmp rfl rfl (c_eql_T hp20978)) ?_
  refine xf [(21, .bool true), (13, V 10), (12, V 9), (0, Pt b19807 0), (1, V a1), (2, V a2), (3, V a3), (4, V a4)] ?_
  refine cT 21 rfl ?_
  refine rg r52_3 ?_
  refine xe 2 [(13, V 11), (12, V 10), (0, Pt b19807 0), (1, V a1), (2, V a2), (3, V a3), (4, V a4)] ?_
  obtain rfl := Option.some.inj ho20965
  exact ⟨_, 10, 11, rfl, rfl, hS20973⟩
  refine r_step rfl trivial (o_cmp rfl rfl (c_eql_F hp20978)) ?_
  refine xf [(21, .bool false), (13, V 10), (12, V 9), (0, Pt b19807 0), (1, V a1), (2, V a2), (3, V a3), (4, V a4)] ?_
  refine kF 21 rfl ?_
  obtain rfl := Option.some.inj ho20965
  exact ⟨_, 9, 10, rfl, rfl, hS20973⟩

def r23_0 : List COp := [u 8 (.assign (ci 0)), u 9 (.assign (ci 0))]
def r23_1 : List COp := [u 14 (.move (t 0)), u 15 (.move (t 2)), u 16 (cf 44 #[(t 14), (t 15)] #[55, 3]), u 10 (.assign (t 16))]
def r23_2 : List COp := [u 17 (.move (t 10)), u 11 (.assign (t 17)), u 12 (.assign (ci (-1)))]
def r23_3 : List COp := [u 18 (.move (t 0)), u 19 (.move (t 10)), u 20 (cf 46 #[(t 18), (t 19)] #[55, 3]), u 21 (cf 45 #[(t 20)] #[3])]
def r23_4 : List COp := [u 22 (.move (t 10)), u 12 (.assign (t 22))]
def r23_5 : List COp := [u 23 (.move (t 0)), u 24 (.move (t 10)), u 25 (.binOp .add 3 (t 24) (ci 1) 3), u 26 (cf 44 #[(t 23), (t 25)] #[55, 3]), u 10 (.assign (t 26))]
def r23_6 : List COp := [u 27 (.move (t 0)), u 28 (.move (t 10)), u 29 (cf 46 #[(t 27), (t 28)] #[55, 3]), u 13 (.assign (t 29))]
def r23_7 : List COp := [u 31 (.move (t 13)), u 32 (.binOp .eql 3 (t 31) (ci 15) 3), u 33 (.move (t 32)), gN 33 (some 34) (.move (t 13)), gN 33 (some 35) (.binOp .eql 3 (t 34) (ci 16) 3), u 36 (.pick (t 33) (.const (.bool true)) (t 35)), u 37 (.move (t 36)), gN 37 (some 38) (.move (t 13)), gN 37 (some 39) (.binOp .eql 3 (t 38) (ci 17) 3), u 40 (.pick (t 37) (.const (.bool true)) (t 39)), u 30 (.assign (t 40))]
def r23_8 : List COp := [u 41 (.move (t 0)), u 42 (.move (t 1)), u 43 (.move (t 11)), u 44 (.move (t 10)), u 45 (.binOp .add 3 (t 44) (ci 1) 3), u 46 (cf 47 #[(t 41), (t 42), (ci 7), (t 43), (t 45)] #[55, 3, 3, 3, 3]), u 47 (.move (t 10)), u 48 (.binOp .add 3 (t 47) (ci 1) 3), u 8 (.assign (t 46)), u 9 (.assign (t 48))]
def r23_9 : List COp := [u 50 (.move (t 13)), u 51 (.binOp .eql 3 (t 50) (ci 13) 3), u 49 (.assign (t 51))]
def r23_10 : List COp := [u 52 (.move (t 0)), u 53 (.move (t 1)), u 54 (.move (t 11)), u 55 (.move (t 10)), u 56 (.binOp .add 3 (t 55) (ci 1) 3), u 57 (cf 47 #[(t 52), (t 53), (ci 8), (t 54), (t 56)] #[55, 3, 3, 3, 3]), u 58 (.move (t 10)), u 59 (.binOp .add 3 (t 58) (ci 1) 3), u 8 (.assign (t 57)), u 9 (.assign (t 59))]
def r23_11 : List COp := [u 61 (.move (t 13)), u 62 (.binOp .eql 3 (t 61) (ci 18) 3), u 60 (.assign (t 62))]
def r23_12 : List COp := [u 63 (.move (t 0)), u 64 (.move (t 10)), u 65 (cf 48 #[(t 63), (t 64)] #[55, 3]), u 9 (.assign (t 65))]
def r23_13 : List COp := [u 66 (.move (t 0)), u 67 (.move (t 1)), u 68 (.move (t 11)), u 69 (.move (t 9)), u 70 (cf 47 #[(t 66), (t 67), (ci 7), (t 68), (t 69)] #[55, 3, 3, 3, 3]), u 71 (.move (t 9)), u 8 (.assign (t 70)), u 9 (.assign (t 71))]
def r23_14 : List COp := [u 73 (.move (t 13)), u 74 (cf 49 #[(t 73)] #[3]), u 75 (.move (t 74)), gT 75 (some 76) (.move (t 3)), gT 75 (some 77) (.binOp .leq 3 (t 76) (ci 0) 3), u 78 (.pick (t 75) (t 77) (.const (.bool false))), u 72 (.assign (t 78))]
def r23_15 : List COp := [u 79 (.move (t 0)), u 80 (.move (t 10)), u 81 (cf 50 #[(t 79), (t 80)] #[55, 3]), u 9 (.assign (t 81))]
def r23_16 : List COp := [u 82 (.move (t 0)), u 83 (.move (t 1)), u 84 (.move (t 11)), u 85 (.move (t 9)), u 86 (cf 51 #[(t 82), (ci 10), (t 83), (t 84), (t 85)] #[55, 3, 3, 3, 3]), u 87 (.move (t 9)), u 8 (.assign (t 86)), u 9 (.assign (t 87))]
def r23_17 : List COp := [u 89 (.move (t 13)), u 90 (cf 49 #[(t 89)] #[3]), u 88 (.assign (t 90))]
def r23_18 : List COp := [u 91 (.move (t 0)), u 92 (.move (t 1)), u 93 (.move (t 11)), u 94 (.move (t 10)), u 95 (.move (t 3)), u 96 (cf 52 #[(t 91), (t 92), (t 93), (t 94), (t 95)] #[55, 3, 3, 3, 3]), u 97 (.extract (t 96) 0), u 98 (.extract (t 96) 1), u 8 (.assign (t 97)), u 9 (.assign (t 98))]
def r23_19 : List COp := [u 100 (.move (t 12)), u 101 (.binOp .geq 3 (t 100) (ci 0) 3), u 99 (.assign (t 101))]
def r23_20 : List COp := [u 102 (.move (t 0)), u 103 (.move (t 1)), u 104 (.move (t 11)), u 105 (.move (t 12)), u 106 (.binOp .add 3 (t 105) (ci 1) 3), u 107 (cf 47 #[(t 102), (t 103), (ci 7), (t 104), (t 106)] #[55, 3, 3, 3, 3]), u 108 (.move (t 12)), u 109 (.binOp .add 3 (t 108) (ci 1) 3), u 8 (.assign (t 107)), u 9 (.assign (t 109))]
def r23_21 : List COp := [u 110 (.move (t 2)), u 8 (.assign (ci (-1))), u 9 (.assign (t 110))]
def flow_reader_value_l0 (F : Nat) (rec_flow_reader_value : flow_reader → Int → Int → Int → Option (Int × Int × flow_reader)) (a0 : flow_reader) (a1 : Int) (a2 : Int) (a3 : Int) : Nat → Int → Int → Int → Option (Int × Int × Int)
  | 0, _, _, _ => none
  | n + 1, x19590, x19591, x19592 =>
    (flow_reader_kind F a0 x19590).bind fun r19615 =>
    (flow_property F r19615).bind fun r19626 =>
    if r19626 = true then
      (flow_reader_blanks F a0 (w64 (x19590 + 1))).bind fun r19635 =>
      flow_reader_value_l0 F rec_flow_reader_value a0 a1 a2 a3 n r19635 x19591 x19590
    else
      some (x19590, x19591, x19592)
def flow_reader_value_b (F : Nat) (rec_flow_reader_value : flow_reader → Int → Int → Int → Option (Int × Int × flow_reader)) (a0 : flow_reader) (a1 : Int) (a2 : Int) (a3 : Int) : Option (Int × Int × flow_reader) :=
  (flow_reader_blanks F a0 a2).bind fun r19465 =>
  ((flow_reader_value_l0 F rec_flow_reader_value a0 a1 a2 a3 F r19465 r19465 (-1)) : Option (Int × Int × Int)).bind fun o => match o with
    | (x19650, x19651, x19652) => (flow_reader_kind F a0 x19650).bind fun r19655 =>
    ((if r19655 = (15 : Int) then
        some true
      else
        if r19655 = (16 : Int) then
          some true
        else
          if r19655 = (17 : Int) then
            some true
          else
            some false) : Option Bool).bind fun o => match o with
      | x22469 => if x22469 = true then
        (flow_reader_add F a0 a1 7 x19651 (w64 (x19650 + 1))).bind fun r22642 =>
        some (r22642.1, w64 (x19650 + 1), r22642.2)
      else
        if r19655 = (13 : Int) then
          (flow_reader_add F a0 a1 8 x19651 (w64 (x19650 + 1))).bind fun r22833 =>
          some (r22833.1, w64 (x19650 + 1), r22833.2)
        else
          if r19655 = (18 : Int) then
            (flow_reader_texts F a0 x19650).bind fun r23145 =>
            (flow_reader_add F a0 a1 7 x19651 r23145).bind fun r23156 =>
            some (r23156.1, r23145, r23156.2)
          else
            (((flow_opens F r19655).bind fun r23297 =>
              if r23297 = true then
                if a3 ≤ (0 : Int) then
                  some true
                else
                  some false
              else
                some false) : Option Bool).bind fun o => match o with
              | x23307 => if x23307 = true then
                (flow_reader_closed F a0 x19650).bind fun r23388 =>
                (flow_reader_wrong F a0 10 a1 x19651 r23388).bind fun r23399 =>
                some (r23399.1, r23388, r23399.2)
              else
                (flow_opens F r19655).bind fun r23422 =>
                if r23422 = true then
                  (flow_reader_collection F rec_flow_reader_value a0 a1 x19651 x19650 a3).bind fun r23469 =>
                  some (r23469.1, r23469.2.1, r23469.2.2)
                else
                  if (0 : Int) ≤ x19652 then
                    (flow_reader_add F a0 a1 7 x19651 (w64 (x19652 + 1))).bind fun r23530 =>
                    some (r23530.1, w64 (x19652 + 1), r23530.2)
                  else
                    some ((-1), a2, a0)
theorem flow_reader_value_b_ok (F : Nat) (rec_flow_reader_value : flow_reader → Int → Int → Int → Option (Int × Int × flow_reader)) (hrec_flow_reader_value : flow_reader_value_C rec_flow_reader_value) {h : AH} {Z : Zn} {a0 : flow_reader} {a1 : Int} {a2 : Int} {a3 : Int} {b10796 : Nat} {v10798 : Value} {v10800 : Value} {v10802 : Value} {c10803 : List Value} (hP : Pre Z h [.blk b10796 (K58 v10798 v10800 v10802 a0), .gs v10802 c10803 (csz api_Diag)]) (q10797 : RS (α := api_Token) Z v10798 a0.l_) (q10799 : RS (α := api_Node) Z v10800 a0.t_.Nodes) (q10801 : RCs (α := api_Diag) Z c10803 a0.d_) {r : Int × Int × flow_reader} (hm : flow_reader_value_b F rec_flow_reader_value a0 a1 a2 a3 = some r) :
    ∃ v h' Z' A', callI Go.Proofs.Try.prog 23 [Pt b10796 0, V a1, V a2, V a3] h = some (v, h') ∧ St h (idsL [.blk b10796 (K58 v10798 v10800 v10802 a0), .gs v10802 c10803 (csz api_Diag)]) Z (0, 0) Z' h' A' ∧ ∃ v19459 : Value, ∃ v19461 : Value, ∃ v19463 : Value, ∃ c19464 : List Value, .tuple #[V r.1, V r.2.1] = v ∧ A' = [.blk b10796 (K58 v19459 v19461 v19463 r.2.2), .gs v19463 c19464 (csz api_Diag)] ∧ RS (α := api_Token) Z' v19459 r.2.2.l_ ∧ RS (α := api_Node) Z' v19461 r.2.2.t_.Nodes ∧ RCs (α := api_Diag) Z' c19464 r.2.2.d_ := by
  refine fn_intro (A := [.blk b10796 (K58 v10798 v10800 v10802 a0), .gs v10802 c10803 (csz api_Diag)]) (Q := fun v Z' A' => ∃ v19459 : Value, ∃ v19461 : Value, ∃ v19463 : Value, ∃ c19464 : List Value, .tuple #[V r.1, V r.2.1] = v ∧ A' = [.blk b10796 (K58 v19459 v19461 v19463 r.2.2), .gs v19463 c19464 (csz api_Diag)] ∧ RS (α := api_Token) Z' v19459 r.2.2.l_ ∧ RS (α := api_Node) Z' v19461 r.2.2.t_.Nodes ∧ RCs (α := api_Diag) Z' c19464 r.2.2.d_) Go.Proofs.Try.func23 rfl rfl (by kernel_rfl) hP ?_
  intro hs hS
  unfold flow_reader_value_b at hm
  refine sr r23_0 ?_
  refine xe 2 [(0, Pt b10796 0), (1, V a1), (2, V a2), (3, V a3)] ?_
  refine sr r23_1 ?_
  refine xq 2 [(15, V a2), (14, Pt b10796 0), (0, Pt b10796 0), (1, V a1), (2, V a2), (3, V a3)] ?_
  obtain ⟨r19465, hx19466, hm⟩ := obind hm
  have hF19472 : St _ _ _ _ _ _ ([.blk b10796 (K58 v10798 v10800 v10802 a0), .gs v10802 c10803 (csz api_Diag)] ++ []) := ((hS.front 1 rfl).front 1 rfl)
  obtain ⟨v19467, h19468, Z19473, A19475, hcl19469, hSc19470, rfl, rfl⟩ := flow_reader_blanks_ok F hF19472.preL q10797 q10799 q10801 hx19466
  have hZ19474 := hSc19470.zle
  have hS19471 := hF19472.call hSc19470
  replace hS19471 : St _ _ _ _ _ _ [.blk b10796 (K58 v10798 v10800 v10802 a0), .gs v10802 c10803 (csz api_Diag)] := hS19471
  refine r_step rfl trivial (o_call hcl19469 rfl rfl rfl) ?_
  refine xe 1 [(10, V r19465), (0, Pt b10796 0), (1, V a1), (2, V a2), (3, V a3)] ?_
  refine sr r23_2 ?_
  refine xe 3 [(12, V (-1)), (11, V r19465), (10, V r19465), (0, Pt b10796 0), (1, V a1), (2, V a2), (3, V a3)] ?_
  refine sq ?_
  obtain ⟨o19588, ho19587, hm⟩ := obind hm
  refine W_join [0, 1, 2, 3, 10, 11, 12] (fun l h => ∃ Z19649 : Zn, ∃ x19650 : Int, ∃ x19651 : Int, ∃ x19652 : Int, (x19650, x19651, x19652) = o19588 ∧ l = [(0, Pt b10796 0), (1, V a1), (2, V a2), (3, V a3), (10, V x19650), (11, V x19651), (12, V x19652)] ∧ St hs (idsL [.blk b10796 (K58 v10798 v10800 v10802 a0), .gs v10802 c10803 (csz api_Diag)]) Z (0, 0) Z19649 h [.blk b10796 (K58 v10798 v10800 v10802 a0), .gs v10802 c10803 (csz api_Diag)]) ?_ ?_
  rintro l h19653 ⟨Z19649, x19650, x19651, x19652, rfl, rfl, hS19654⟩
  try dsimp only at hm
  refine sq ?_
  refine sr r23_6 ?_
  refine xq 2 [(28, V x19650), (27, Pt b10796 0), (0, Pt b10796 0), (1, V a1), (2, V a2), (3, V a3), (10, V x19650), (11, V x19651), (12, V x19652)] ?_
  obtain ⟨r19655, hx19656, hm⟩ := obind hm
  have hF19662 : St _ _ _ _ _ _ ([.blk b10796 (K58 v10798 v10800 v10802 a0), .gs v10802 c10803 (csz api_Diag)] ++ []) := ((hS19654.front 1 rfl).front 1 rfl)
  obtain ⟨v19657, h19658, Z19663, A19665, hcl19659, hSc19660, rfl, rfl⟩ := flow_reader_kind_ok F hF19662.preL (q10797.mono hS19654.zle) (q10799.mono hS19654.zle) (q10801.mono hS19654.zle) hx19656
  have hZ19664 := hSc19660.zle
  have hS19661 := hF19662.call hSc19660
  replace hS19661 : St _ _ _ _ _ _ [.blk b10796 (K58 v10798 v10800 v10802 a0), .gs v10802 c10803 (csz api_Diag)] := hS19661
  refine r_step rfl trivial (o_call hcl19659 rfl rfl rfl) ?_
  refine xe 1 [(13, V r19655), (0, Pt b10796 0), (1, V a1), (2, V a2), (3, V a3), (10, V x19650), (11, V x19651), (12, V x19652)] ?_
  refine bk 2 ?_
  refine sq ?_
  obtain ⟨o22464, ho22463, hm⟩ := obind hm
  refine W_join [0, 1, 2, 3, 10, 11, 12, 13, 30] (fun l h => ∃ Z22468 : Zn, ∃ x22469 : Bool, x22469 = o22464 ∧ l = [(0, Pt b10796 0), (1, V a1), (2, V a2), (3, V a3), (10, V x19650), (11, V x19651), (12, V x19652), (13, V r19655), (30, .bool x22469)] ∧ St hs (idsL [.blk b10796 (K58 v10798 v10800 v10802 a0), .gs v10802 c10803 (csz api_Diag)]) Z (0, 0) Z22468 h [.blk b10796 (K58 v10798 v10800 v10802 a0), .gs v10802 c10803 (csz api_Diag)]) ?_ ?_
  rintro l h22470 ⟨Z22468, x22469, rfl, rfl, hS22471⟩
  try dsimp only at hm
  rcases ifs hm with ⟨hp22641, hm⟩ | ⟨hp22641, hm⟩
  refine W_condT (x := .tmp 30) (by kernel_rfl) rfl hp22641 ?_
  refine sr r23_8 ?_
  refine xq 5 [(45, V (w64 (x19650 + 1))), (43, V x19651), (42, V a1), (41, Pt b10796 0), (10, V x19650)] ?_
  obtain ⟨r22642, hx22643, hm⟩ := obind hm
  have hF22649 : St _ _ _ _ _ _ ([.blk b10796 (K58 v10798 v10800 v10802 a0), .gs v10802 c10803 (csz api_Diag)] ++ []) := ((hS22471.front 1 rfl).front 1 rfl)
  obtain ⟨v22644, h22645, Z22650, A22652, hcl22646, hSc22647, v22654, v22656, c22657, c22659, rfl, rfl, q22653, q22655, q22658⟩ := flow_reader_add_ok F hF22649.preL (q10797.mono hS22471.zle) (q10799.mono hS22471.zle) (q10801.mono hS22471.zle) hx22643
  have hZ22651 := hSc22647.zle
  have hS22648 := hF22649.call hSc22647
  replace hS22648 : St _ _ _ _ _ _ [.blk b10796 (K58 v22654 v22656 v10802 r22642.2), .gs v22656 c22657 (csz api_Node), .gs v10802 c22659 (csz api_Diag)] := hS22648
  refine r_step rfl trivial (o_call hcl22646 rfl rfl rfl) ?_
  refine xe 4 [(9, V (w64 (x19650 + 1))), (8, V r22642.1)] ?_
  refine rt ?_
  refine blkX_ret ?_
  refine ⟨rfl, ?_⟩
  obtain ⟨Z22660, hZ22661, q22662, hS22663⟩ := (hS22648.front 1 rfl).freeze q22655
  replace hS22663 : St _ _ _ _ _ _ [.blk b10796 (K58 v22654 v22656 v10802 r22642.2), .gs v10802 c22659 (csz api_Diag)] := hS22663
  obtain rfl := Option.some.inj hm
  refine ⟨_, _, _, ResL.tmp rfl (ResL.tmp rfl (ResL.nil)), hS22663, ?_⟩
  exact ⟨v22654, v22656, v10802, c22659, rfl, rfl, (q22653.mono hZ22661), q22662, (q22658.mono hZ22661)⟩
  refine W_condF (x := .tmp 30) (by kernel_rfl) rfl (Bool.eq_false_iff.2 hp22641) ?_
  refine sr r23_9 ?_
  refine xq 1 [(50, V r19655), (0, Pt b10796 0), (1, V a1), (2, V a2), (3, V a3), (10, V x19650), (11, V x19651), (12, V x19652), (13, V r19655)] ?_
  rcases ifs hm with ⟨hp22814, hm⟩ | ⟨hp22814, hm⟩
  refine r_step rfl trivial (o_cmp rfl rfl (c_eql_T hp22814)) ?_
  refine xe 1 [(49, .bool true), (0, Pt b10796 0), (1, V a1), (2, V a2), (3, V a3), (10, V x19650), (11, V x19651), (12, V x19652), (13, V r19655)] ?_
  refine cT 49 rfl ?_
  refine sr r23_10 ?_
  refine xq 5 [(56, V (w64 (x19650 + 1))), (54, V x19651), (53, V a1), (52, Pt b10796 0), (10, V x19650)] ?_
  obtain ⟨r22833, hx22834, hm⟩ := obind hm
  have hF22840 : St _ _ _ _ _ _ ([.blk b10796 (K58 v10798 v10800 v10802 a0), .gs v10802 c10803 (csz api_Diag)] ++ []) := ((hS22471.front 1 rfl).front 1 rfl)
  obtain ⟨v22835, h22836, Z22841, A22843, hcl22837, hSc22838, v22845, v22847, c22848, c22850, rfl, rfl, q22844, q22846, q22849⟩ := flow_reader_add_ok F hF22840.preL (q10797.mono hS22471.zle) (q10799.mono hS22471.zle) (q10801.mono hS22471.zle) hx22834
  have hZ22842 := hSc22838.zle
  have hS22839 := hF22840.call hSc22838
  replace hS22839 : St _ _ _ _ _ _ [.blk b10796 (K58 v22845 v22847 v10802 r22833.2), .gs v22847 c22848 (csz api_Node), .gs v10802 c22850 (csz api_Diag)] := hS22839
  refine r_step rfl trivial (o_call hcl22837 rfl rfl rfl) ?_
  refine xe 4 [(9, V (w64 (x19650 + 1))), (8, V r22833.1)] ?_
  refine rt ?_
  refine blkX_ret ?_
  refine ⟨rfl, ?_⟩
  obtain ⟨Z22851, hZ22852, q22853, hS22854⟩ := (hS22839.front 1 rfl).freeze q22846
  replace hS22854 : St _ _ _ _ _ _ [.blk b10796 (K58 v22845 v22847 v10802 r22833.2), .gs v10802 c22850 (csz api_Diag)] := hS22854
  obtain rfl := Option.some.inj hm
  refine ⟨_, _, _, ResL.tmp rfl (ResL.tmp rfl (ResL.nil)), hS22854, ?_⟩
  exact ⟨v22845, v22847, v10802, c22850, rfl, rfl, (q22844.mono hZ22852), q22853, (q22849.mono hZ22852)⟩
  refine r_step rfl trivial (o_cmp rfl rfl (c_eql_F hp22814)) ?_
  refine xe 1 [(49, .bool false), (0, Pt b10796 0), (1, V a1), (2, V a2), (3, V a3), (10, V x19650), (11, V x19651), (12, V x19652), (13, V r19655)] ?_
  refine cF 49 rfl ?_
  refine sr r23_11 ?_
  refine xq 1 [(61, V r19655), (0, Pt b10796 0), (1, V a1), (2, V a2), (3, V a3), (10, V x19650), (11, V x19651), (12, V x19652), (13, V r19655)] ?_
  rcases ifs hm with ⟨hp23115, hm⟩ | ⟨hp23115, hm⟩
  refine r_step rfl trivial (o_cmp rfl rfl (c_eql_T hp23115)) ?_
  refine xe 1 [(60, .bool true), (0, Pt b10796 0), (1, V a1), (2, V a2), (3, V a3), (10, V x19650), (11, V x19651), (12, V x19652), (13, V r19655)] ?_
  refine cT 60 rfl ?_
  refine sr r23_12 ?_
  refine xq 2 [(64, V x19650), (63, Pt b10796 0), (0, Pt b10796 0), (1, V a1), (11, V x19651)] ?_
  obtain ⟨r23145, hx23146, hm⟩ := obind hm
  have hF23152 : St _ _ _ _ _ _ ([.blk b10796 (K58 v10798 v10800 v10802 a0), .gs v10802 c10803 (csz api_Diag)] ++ []) := ((hS22471.front 1 rfl).front 1 rfl)
  obtain ⟨v23147, h23148, Z23153, A23155, hcl23149, hSc23150, rfl, rfl⟩ := flow_reader_texts_ok F hF23152.preL (q10797.mono hS22471.zle) (q10799.mono hS22471.zle) (q10801.mono hS22471.zle) hx23146
  have hZ23154 := hSc23150.zle
  have hS23151 := hF23152.call hSc23150
  replace hS23151 : St _ _ _ _ _ _ [.blk b10796 (K58 v10798 v10800 v10802 a0), .gs v10802 c10803 (csz api_Diag)] := hS23151
  refine r_step rfl trivial (o_call hcl23149 rfl rfl rfl) ?_
  refine xe 1 [(9, V r23145), (0, Pt b10796 0), (1, V a1), (11, V x19651)] ?_
  refine sr r23_13 ?_
  refine xq 4 [(69, V r23145), (68, V x19651), (67, V a1), (66, Pt b10796 0), (9, V r23145)] ?_
  obtain ⟨r23156, hx23157, hm⟩ := obind hm
  have hF23163 : St _ _ _ _ _ _ ([.blk b10796 (K58 v10798 v10800 v10802 a0), .gs v10802 c10803 (csz api_Diag)] ++ []) := ((hS23151.front 1 rfl).front 1 rfl)
  obtain ⟨v23158, h23159, Z23164, A23166, hcl23160, hSc23161, v23168, v23170, c23171, c23173, rfl, rfl, q23167, q23169, q23172⟩ := flow_reader_add_ok F hF23163.preL (q10797.mono (hS22471.zle.trans hZ23154)) (q10799.mono (hS22471.zle.trans hZ23154)) (q10801.mono (hS22471.zle.trans hZ23154)) hx23157
  have hZ23165 := hSc23161.zle
  have hS23162 := hF23163.call hSc23161
  replace hS23162 : St _ _ _ _ _ _ [.blk b10796 (K58 v23168 v23170 v10802 r23156.2), .gs v23170 c23171 (csz api_Node), .gs v10802 c23173 (csz api_Diag)] := hS23162
  refine r_step rfl trivial (o_call hcl23160 rfl rfl rfl) ?_
  refine xe 3 [(9, V r23145), (8, V r23156.1)] ?_
  refine rt ?_
  refine blkX_ret ?_
  refine ⟨rfl, ?_⟩
  obtain ⟨Z23174, hZ23175, q23176, hS23177⟩ := (hS23162.front 1 rfl).freeze q23169
  replace hS23177 : St _ _ _ _ _ _ [.blk b10796 (K58 v23168 v23170 v10802 r23156.2), .gs v10802 c23173 (csz api_Diag)] := hS23177
  obtain rfl := Option.some.inj hm
  refine ⟨_, _, _, ResL.tmp rfl (ResL.tmp rfl (ResL.nil)), hS23177, ?_⟩
  exact ⟨v23168, v23170, v10802, c23173, rfl, rfl, (q23167.mono hZ23175), q23176, (q23172.mono hZ23175)⟩
  refine r_step rfl trivial (o_cmp rfl rfl (c_eql_F hp23115)) ?_
  refine xe 1 [(60, .bool false), (0, Pt b10796 0), (1, V a1), (2, V a2), (3, V a3), (10, V x19650), (11, V x19651), (12, V x19652), (13, V r19655)] ?_
  refine cF 60 rfl ?_
  refine sq ?_
  obtain ⟨o23296, ho23295, hm⟩ := obind hm
  refine W_join [0, 1, 2, 3, 10, 11, 12, 13, 72] (fun l h => ∃ Z23306 : Zn, ∃ x23307 : Bool, x23307 = o23296 ∧ l = [(0, Pt b10796 0), (1, V a1), (2, V a2), (3, V a3), (10, V x19650), (11, V x19651), (12, V x19652), (13, V r19655), (72, .bool x23307)] ∧ St hs (idsL [.blk b10796 (K58 v10798 v10800 v10802 a0), .gs v10802 c10803 (csz api_Diag)]) Z (0, 0) Z23306 h [.blk b10796 (K58 v10798 v10800 v10802 a0), .gs v10802 c10803 (csz api_Diag)]) ?_ ?_
  rintro l h23308 ⟨Z23306, x23307, rfl, rfl, hS23309⟩
  try dsimp only at hm
  rcases ifs hm with ⟨hp23387, hm⟩ | ⟨hp23387, hm⟩
  refine W_condT (x := .tmp 72) (by kernel_rfl) rfl hp23387 ?_
  refine sr r23_15 ?_
  refine xq 2 [(80, V x19650), (79, Pt b10796 0), (0, Pt b10796 0), (1, V a1), (11, V x19651)] ?_
  obtain ⟨r23388, hx23389, hm⟩ := obind hm
  have hF23395 : St _ _ _ _ _ _ ([.blk b10796 (K58 v10798 v10800 v10802 a0), .gs v10802 c10803 (csz api_Diag)] ++ []) := ((hS23309.front 1 rfl).front 1 rfl)
  obtain ⟨v23390, h23391, Z23396, A23398, hcl23392, hSc23393, rfl, rfl⟩ := flow_reader_closed_ok F hF23395.preL (q10797.mono hS23309.zle) (q10799.mono hS23309.zle) (q10801.mono hS23309.zle) hx23389
  have hZ23397 := hSc23393.zle
  have hS23394 := hF23395.call hSc23393
  replace hS23394 : St _ _ _ _ _ _ [.blk b10796 (K58 v10798 v10800 v10802 a0), .gs v10802 c10803 (csz api_Diag)] := hS23394
  refine r_step rfl trivial (o_call hcl23392 rfl rfl rfl) ?_
  refine xe 1 [(9, V r23388), (0, Pt b10796 0), (1, V a1), (11, V x19651)] ?_
  refine sr r23_16 ?_
  refine xq 4 [(85, V r23388), (84, V x19651), (83, V a1), (82, Pt b10796 0), (9, V r23388)] ?_
  obtain ⟨r23399, hx23400, hm⟩ := obind hm
  have hF23406 : St _ _ _ _ _ _ ([.blk b10796 (K58 v10798 v10800 v10802 a0), .gs v10802 c10803 (csz api_Diag)] ++ []) := ((hS23394.front 1 rfl).front 1 rfl)
  obtain ⟨v23401, h23402, Z23407, A23409, hcl23403, hSc23404, v23411, v23413, c23414, v23416, c23417, rfl, rfl, q23410, q23412, q23415⟩ := flow_reader_wrong_ok F hF23406.preL (q10797.mono (hS23309.zle.trans hZ23397)) (q10799.mono (hS23309.zle.trans hZ23397)) (q10801.mono (hS23309.zle.trans hZ23397)) hx23400
  have hZ23408 := hSc23404.zle
  have hS23405 := hF23406.call hSc23404
  replace hS23405 : St _ _ _ _ _ _ [.blk b10796 (K58 v23411 v23413 v23416 r23399.2), .gs v23413 c23414 (csz api_Node), .gs v23416 c23417 (csz api_Diag)] := hS23405
  refine r_step rfl trivial (o_call hcl23403 rfl rfl rfl) ?_
  refine xe 3 [(9, V r23388), (8, V r23399.1)] ?_
  refine rt ?_
  refine blkX_ret ?_
  refine ⟨rfl, ?_⟩
  obtain ⟨Z23418, hZ23419, q23420, hS23421⟩ := (hS23405.front 1 rfl).freeze q23412
  replace hS23421 : St _ _ _ _ _ _ [.blk b10796 (K58 v23411 v23413 v23416 r23399.2), .gs v23416 c23417 (csz api_Diag)] := hS23421
  obtain rfl := Option.some.inj hm
  refine ⟨_, _, _, ResL.tmp rfl (ResL.tmp rfl (ResL.nil)), hS23421, ?_⟩
  exact ⟨v23411, v23413, v23416, c23417, rfl, rfl, (q23410.mono hZ23419), q23420, (q23415.mono hZ23419)⟩
  refine W_condF (x := .tmp 72) (by kernel_rfl) rfl (Bool.eq_false_iff.2 hp23387) ?_
  refine sr r23_17 ?_
  refine xq 1 [(89, V r19655), (0, Pt b10796 0), (1, V a1), (2, V a2), (3, V a3), (10, V x19650), (11, V x19651), (12, V x19652)] ?_
  obtain ⟨r23422, hx23423, hm⟩ := obind hm
  obtain ⟨v23424, h23425, hcl23426, hSc23427, rfl⟩ := flow_opens_ok F hS23309.inv  hx23423
  have hS23428 := St.call (A := []) (B := [.blk b10796 (K58 v10798 v10800 v10802 a0), .gs v10802 c10803 (csz api_Diag)]) hS23309 hSc23427
  replace hS23428 : St _ _ _ _ _ _ [.blk b10796 (K58 v10798 v10800 v10802 a0), .gs v10802 c10803 (csz api_Diag)] := hS23428
  refine r_step rfl trivial (o_call hcl23426 rfl rfl rfl) ?_
  refine xe 1 [(88, .bool r23422), (0, Pt b10796 0), (1, V a1), (2, V a2), (3, V a3), (10, V x19650), (11, V x19651), (12, V x19652)] ?_
  rcases ifs hm with ⟨hp23468, hm⟩ | ⟨hp23468, hm⟩
  refine W_condT (x := .tmp 88) (by kernel_rfl) rfl hp23468 ?_
  refine sr r23_18 ?_
  refine xq 5 [(95, V a3), (94, V x19650), (93, V x19651), (92, V a1), (91, Pt b10796 0)] ?_
  obtain ⟨r23469, hx23470, hm⟩ := obind hm
  have hF23476 : St _ _ _ _ _ _ ([.blk b10796 (K58 v10798 v10800 v10802 a0), .gs v10802 c10803 (csz api_Diag)] ++ []) := ((hS23428.front 1 rfl).front 1 rfl)
  obtain ⟨v23471, h23472, Z23477, A23479, hcl23473, hSc23474, v23481, v23483, c23484, v23486, c23487, rfl, rfl, q23480, q23482, q23485⟩ := flow_reader_collection_ok F rec_flow_reader_value hrec_flow_reader_value hF23476.preL (q10797.mono hS23309.zle) (q10799.mono hS23309.zle) (q10801.mono hS23309.zle) hx23470
  have hZ23478 := hSc23474.zle
  have hS23475 := hF23476.call hSc23474
  replace hS23475 : St _ _ _ _ _ _ [.blk b10796 (K58 v23481 v23483 v23486 r23469.2.2), .gs v23483 c23484 (csz api_Node), .gs v23486 c23487 (csz api_Diag)] := hS23475
  refine r_step rfl trivial (o_call hcl23473 rfl rfl rfl) ?_
  refine xe 4 [(9, V r23469.2.1), (8, V r23469.1)] ?_
  refine rt ?_
  refine blkX_ret ?_
  refine ⟨rfl, ?_⟩
  obtain ⟨Z23488, hZ23489, q23490, hS23491⟩ := (hS23475.front 1 rfl).freeze q23482
  replace hS23491 : St _ _ _ _ _ _ [.blk b10796 (K58 v23481 v23483 v23486 r23469.2.2), .gs v23486 c23487 (csz api_Diag)] := hS23491
  obtain rfl := Option.some.inj hm
  refine ⟨_, _, _, ResL.tmp rfl (ResL.tmp rfl (ResL.nil)), hS23491, ?_⟩
  exact ⟨v23481, v23483, v23486, c23487, rfl, rfl, (q23480.mono hZ23489), q23490, (q23485.mono hZ23489)⟩
  refine W_condF (x := .tmp 88) (by kernel_rfl) rfl (Bool.eq_false_iff.2 hp23468) ?_
  refine sr r23_19 ?_
  refine xq 1 [(100, V x19652), (0, Pt b10796 0), (1, V a1), (2, V a2), (11, V x19651), (12, V x19652)] ?_
  rcases ifs hm with ⟨hp23511, hm⟩ | ⟨hp23511, hm⟩
  refine r_step rfl trivial (o_cmp rfl rfl (c_geq_T hp23511)) ?_
  refine xe 1 [(99, .bool true), (0, Pt b10796 0), (1, V a1), (2, V a2), (11, V x19651), (12, V x19652)] ?_
  refine cT 99 rfl ?_
  refine sr r23_20 ?_
  refine xq 5 [(106, V (w64 (x19652 + 1))), (104, V x19651), (103, V a1), (102, Pt b10796 0), (12, V x19652)] ?_
  obtain ⟨r23530, hx23531, hm⟩ := obind hm
  have hF23537 : St _ _ _ _ _ _ ([.blk b10796 (K58 v10798 v10800 v10802 a0), .gs v10802 c10803 (csz api_Diag)] ++ []) := ((hS23428.front 1 rfl).front 1 rfl)
  obtain ⟨v23532, h23533, Z23538, A23540, hcl23534, hSc23535, v23542, v23544, c23545, c23547, rfl, rfl, q23541, q23543, q23546⟩ := flow_reader_add_ok F hF23537.preL (q10797.mono hS23309.zle) (q10799.mono hS23309.zle) (q10801.mono hS23309.zle) hx23531
  have hZ23539 := hSc23535.zle
  have hS23536 := hF23537.call hSc23535
  replace hS23536 : St _ _ _ _ _ _ [.blk b10796 (K58 v23542 v23544 v10802 r23530.2), .gs v23544 c23545 (csz api_Node), .gs v10802 c23547 (csz api_Diag)] := hS23536
  refine r_step rfl trivial (o_call hcl23534 rfl rfl rfl) ?_
  refine xe 4 [(9, V (w64 (x19652 + 1))), (8, V r23530.1)] ?_
  refine rt ?_
  refine blkX_ret ?_
  refine ⟨rfl, ?_⟩
  obtain ⟨Z23548, hZ23549, q23550, hS23551⟩ := (hS23536.front 1 rfl).freeze q23543
  replace hS23551 : St _ _ _ _ _ _ [.blk b10796 (K58 v23542 v23544 v10802 r23530.2), .gs v10802 c23547 (csz api_Diag)] := hS23551
  obtain rfl := Option.some.inj hm
  refine ⟨_, _, _, ResL.tmp rfl (ResL.tmp rfl (ResL.nil)), hS23551, ?_⟩
  exact ⟨v23542, v23544, v10802, c23547, rfl, rfl, (q23541.mono hZ23549), q23550, (q23546.mono hZ23549)⟩
  refine r_step rfl trivial (o_cmp rfl rfl (c_geq_F hp23511)) ?_
  refine xe 1 [(99, .bool false), (0, Pt b10796 0), (1, V a1), (2, V a2), (11, V x19651), (12, V x19652)] ?_
  refine kF 99 rfl ?_
  refine sr r23_21 ?_
  refine xe 3 [(9, V a2), (8, V (-1))] ?_
  refine rt ?_
  refine ⟨rfl, ?_⟩
  obtain rfl := Option.some.inj hm
  refine ⟨_, _, _, ResL.tmp rfl (ResL.tmp rfl (ResL.nil)), hS23428, ?_⟩
  exact ⟨v10798, v10800, v10802, c10803, rfl, rfl, (q10797.mono hS23309.zle), (q10799.mono hS23309.zle), (q10801.mono hS23309.zle)⟩
  refine rg r23_14 ?_
  refine xq 1 [(73, V r19655), (0, Pt b10796 0), (1, V a1), (2, V a2), (3, V a3), (10, V x19650), (11, V x19651), (12, V x19652), (13, V r19655)] ?_
  obtain ⟨r23297, hx23298, ho23295⟩ := obind ho23295
  obtain ⟨v23299, h23300, hcl23301, hSc23302, rfl⟩ := flow_opens_ok F hS22471.inv  hx23298
  have hS23303 := St.call (A := []) (B := [.blk b10796 (K58 v10798 v10800 v10802 a0), .gs v10802 c10803 (csz api_Diag)]) hS22471 hSc23302
  replace hS23303 : St _ _ _ _ _ _ [.blk b10796 (K58 v10798 v10800 v10802 a0), .gs v10802 c10803 (csz api_Diag)] := hS23303
  refine r_step rfl trivial (o_call hcl23301 rfl rfl rfl) ?_
  refine xq 1 [(75, .bool r23297), (0, Pt b10796 0), (1, V a1), (2, V a2), (3, V a3), (10, V x19650), (11, V x19651), (12, V x19652), (13, V r19655)] ?_
  rcases ifs ho23295 with ⟨hp23304, ho23295⟩ | ⟨hp23304, ho23295⟩
  refine r_setb (t := 75) rfl hp23304 ?_
  refine xq 1 [(76, V a3), (75, .bool true), (0, Pt b10796 0), (1, V a1), (2, V a2), (3, V a3), (10, V x19650), (11, V x19651), (12, V x19652), (13, V r19655)] ?_
  rcases ifs ho23295 with ⟨hp23305, ho23295⟩ | ⟨hp23305, ho23295⟩
  refine r_step rfl rfl (o_cmp rfl rfl (c_leq_T hp23305)) ?_
  refine xe 2 [(72, .bool true), (0, Pt b10796 0), (1, V a1), (2, V a2), (3, V a3), (10, V x19650), (11, V x19651), (12, V x19652), (13, V r19655)] ?_
  obtain rfl := Option.some.inj ho23295
  exact ⟨_, true, rfl, rfl, hS23303⟩
  refine r_step rfl rfl (o_cmp rfl rfl (c_leq_F hp23305)) ?_
  refine xe 2 [(72, .bool false), (0, Pt b10796 0), (1, V a1), (2, V a2), (3, V a3), (10, V x19650), (11, V x19651), (12, V x19652), (13, V r19655)] ?_
  obtain rfl := Option.some.inj ho23295
  exact ⟨_, false, rfl, rfl, hS23303⟩
  refine r_setb (t := 75) rfl (Bool.eq_false_iff.2 hp23304) ?_
  refine xe 4 [(72, .bool false), (0, Pt b10796 0), (1, V a1), (2, V a2), (3, V a3), (10, V x19650), (11, V x19651), (12, V x19652), (13, V r19655)] ?_
  obtain rfl := Option.some.inj ho23295
  exact ⟨_, false, rfl, rfl, hS23303⟩
  refine rg r23_7 ?_
  refine xq 1 [(31, V r19655), (13, V r19655), (0, Pt b10796 0), (1, V a1), (2, V a2), (3, V a3), (10, V x19650), (11, V x19651), (12, V x19652)] ?_
  rcases ifs ho22463 with ⟨hp22465, ho22463⟩ | ⟨hp22465, ho22463⟩
  refine r_step rfl trivial (o_cmp rfl rfl (c_eql_T hp22465)) ?_
  refine xe 9 [(30, .bool true), (13, V r19655), (0, Pt b10796 0), (1, V a1), (2, V a2), (3, V a3), (10, V x19650), (11, V x19651), (12, V x19652)] ?_
  obtain rfl := Option.some.inj ho22463
  exact ⟨_, true, rfl, rfl, hS19661⟩
  refine r_step rfl trivial (o_cmp rfl rfl (c_eql_F hp22465)) ?_
  refine xq 2 [(34, V r19655), (33, .bool false), (13, V r19655), (0, Pt b10796 0), (1, V a1), (2, V a2), (3, V a3), (10, V x19650), (11, V x19651), (12, V x19652)] ?_
  rcases ifs ho22463 with ⟨hp22466, ho22463⟩ | ⟨hp22466, ho22463⟩
  refine r_step rfl rfl (o_cmp rfl rfl (c_eql_T hp22466)) ?_
  refine xe 6 [(30, .bool true), (13, V r19655), (0, Pt b10796 0), (1, V a1), (2, V a2), (3, V a3), (10, V x19650), (11, V x19651), (12, V x19652)] ?_
  obtain rfl := Option.some.inj ho22463
  exact ⟨_, true, rfl, rfl, hS19661⟩
  refine r_step rfl rfl (o_cmp rfl rfl (c_eql_F hp22466)) ?_
  refine xq 3 [(38, V r19655), (37, .bool false), (13, V r19655), (0, Pt b10796 0), (1, V a1), (2, V a2), (3, V a3), (10, V x19650), (11, V x19651), (12, V x19652)] ?_
  rcases ifs ho22463 with ⟨hp22467, ho22463⟩ | ⟨hp22467, ho22463⟩
  refine r_step rfl rfl (o_cmp rfl rfl (c_eql_T hp22467)) ?_
  refine xe 2 [(30, .bool true), (13, V r19655), (0, Pt b10796 0), (1, V a1), (2, V a2), (3, V a3), (10, V x19650), (11, V x19651), (12, V x19652)] ?_
  obtain rfl := Option.some.inj ho22463
  exact ⟨_, true, rfl, rfl, hS19661⟩
  refine r_step rfl rfl (o_cmp rfl rfl (c_eql_F hp22467)) ?_
  refine xe 2 [(30, .bool false), (13, V r19655), (0, Pt b10796 0), (1, V a1), (2, V a2), (3, V a3), (10, V x19650), (11, V x19651), (12, V x19652)] ?_
  obtain rfl := Option.some.inj ho22463
  exact ⟨_, false, rfl, rfl, hS19661⟩
  refine bk 0 ?_
  refine lp [0, 1, 2, 3, 10, 11, 12] (fun n l h => ∃ Z19589 : Zn, ∃ x19590 : Int, ∃ x19591 : Int, ∃ x19592 : Int, flow_reader_value_l0 F rec_flow_reader_value a0 a1 a2 a3 n x19590 x19591 x19592 = some o19588 ∧ l = [(0, Pt b10796 0), (1, V a1), (2, V a2), (3, V a3), (10, V x19590), (11, V x19591), (12, V x19592)] ∧ St hs (idsL [.blk b10796 (K58 v10798 v10800 v10802 a0), .gs v10802 c10803 (csz api_Diag)]) Z (0, 0) Z19589 h [.blk b10796 (K58 v10798 v10800 v10802 a0), .gs v10802 c10803 (csz api_Diag)]) F ⟨_, r19465, r19465, (-1), ho19587, rfl, hS19471⟩ ?_
  rintro n19595 l h19593 ⟨Z19589, x19590, x19591, x19592, ho19587, rfl, hS19594⟩
  rcases n19595 with _ | n19595
  cases (show none = some o19588 from ho19587)
  rw [flow_reader_value_l0] at ho19587
  refine sq ?_
  refine sr r23_3 ?_
  refine xq 2 [(19, V x19590), (18, Pt b10796 0), (0, Pt b10796 0), (1, V a1), (2, V a2), (3, V a3), (10, V x19590), (11, V x19591), (12, V x19592)] ?_
  obtain ⟨r19615, hx19616, ho19587⟩ := obind ho19587
  have hF19622 : St _ _ _ _ _ _ ([.blk b10796 (K58 v10798 v10800 v10802 a0), .gs v10802 c10803 (csz api_Diag)] ++ []) := ((hS19594.front 1 rfl).front 1 rfl)
  obtain ⟨v19617, h19618, Z19623, A19625, hcl19619, hSc19620, rfl, rfl⟩ := flow_reader_kind_ok F hF19622.preL (q10797.mono hS19594.zle) (q10799.mono hS19594.zle) (q10801.mono hS19594.zle) hx19616
  have hZ19624 := hSc19620.zle
  have hS19621 := hF19622.call hSc19620
  replace hS19621 : St _ _ _ _ _ _ [.blk b10796 (K58 v10798 v10800 v10802 a0), .gs v10802 c10803 (csz api_Diag)] := hS19621
  refine r_step rfl trivial (o_call hcl19619 rfl rfl rfl) ?_
  obtain ⟨r19626, hx19627, ho19587⟩ := obind ho19587
  obtain ⟨v19628, h19629, hcl19630, hSc19631, rfl⟩ := flow_property_ok F hS19621.inv  hx19627
  have hS19632 := St.call (A := []) (B := [.blk b10796 (K58 v10798 v10800 v10802 a0), .gs v10802 c10803 (csz api_Diag)]) hS19621 hSc19631
  replace hS19632 : St _ _ _ _ _ _ [.blk b10796 (K58 v10798 v10800 v10802 a0), .gs v10802 c10803 (csz api_Diag)] := hS19632
  refine r_step rfl trivial (o_call hcl19630 rfl rfl rfl) ?_
  refine xf [(21, .bool r19626), (0, Pt b10796 0), (1, V a1), (2, V a2), (3, V a3), (10, V x19590), (11, V x19591), (12, V x19592)] ?_
  rcases ifs ho19587 with ⟨hp19634, ho19587⟩ | ⟨hp19634, ho19587⟩
  refine W_condT (x := .tmp 21) (by kernel_rfl) rfl hp19634 ?_
  refine sk ?_
  refine bk 1 ?_
  refine sr r23_4 ?_
  refine xe 2 [(12, V x19590), (0, Pt b10796 0), (1, V a1), (2, V a2), (3, V a3), (10, V x19590), (11, V x19591)] ?_
  refine rg r23_5 ?_
  refine xq 3 [(25, V (w64 (x19590 + 1))), (23, Pt b10796 0), (12, V x19590), (0, Pt b10796 0), (1, V a1), (2, V a2), (3, V a3), (10, V x19590), (11, V x19591)] ?_
  obtain ⟨r19635, hx19636, ho19587⟩ := obind ho19587
  have hF19642 : St _ _ _ _ _ _ ([.blk b10796 (K58 v10798 v10800 v10802 a0), .gs v10802 c10803 (csz api_Diag)] ++ []) := ((hS19632.front 1 rfl).front 1 rfl)
  obtain ⟨v19637, h19638, Z19643, A19645, hcl19639, hSc19640, rfl, rfl⟩ := flow_reader_blanks_ok F hF19642.preL (q10797.mono (hS19594.zle.trans hZ19624)) (q10799.mono (hS19594.zle.trans hZ19624)) (q10801.mono (hS19594.zle.trans hZ19624)) hx19636
  have hZ19644 := hSc19640.zle
  have hS19641 := hF19642.call hSc19640
  replace hS19641 : St _ _ _ _ _ _ [.blk b10796 (K58 v10798 v10800 v10802 a0), .gs v10802 c10803 (csz api_Diag)] := hS19641
  refine r_step rfl trivial (o_call hcl19639 rfl rfl rfl) ?_
  refine xe 1 [(10, V r19635), (12, V x19590), (0, Pt b10796 0), (1, V a1), (2, V a2), (3, V a3), (11, V x19591)] ?_
  exact ⟨n19595, Nat.lt_succ_self _, ⟨_, r19635, x19591, x19590, ho19587, rfl, hS19641⟩⟩
  refine W_condF (x := .tmp 21) (by kernel_rfl) rfl (Bool.eq_false_iff.2 hp19634) ?_
  refine xt 0 ?_
  refine blkX_hit ?_
  obtain rfl := Option.some.inj ho19587
  exact ⟨_, x19590, x19591, x19592, rfl, rfl, hS19632⟩
def flow_reader_value_r (F : Nat) : Nat → flow_reader → Int → Int → Int → Option (Int × Int × flow_reader)
  | 0 => fun _ _ _ _ => none
  | n + 1 => flow_reader_value_b F (flow_reader_value_r F n)
theorem flow_reader_value_rC (F : Nat) : ∀ n, flow_reader_value_C (flow_reader_value_r F n)
  | 0 => by intro hP q10797 q10799 q10801 r hm; cases hm
  | n + 1 => by intro hP q10797 q10799 q10801 r hm; exact flow_reader_value_b_ok F _ (flow_reader_value_rC F n) hP q10797 q10799 q10801 hm
def flow_reader_value (F : Nat) (a0 : flow_reader) (a1 : Int) (a2 : Int) (a3 : Int) : Option (Int × Int × flow_reader) := flow_reader_value_r F F a0 a1 a2 a3
theorem flow_reader_value_ok (F : Nat) {h : AH} {Z : Zn} {a0 : flow_reader} {a1 : Int} {a2 : Int} {a3 : Int} {b10796 : Nat} {v10798 : Value} {v10800 : Value} {v10802 : Value} {c10803 : List Value} (hP : Pre Z h [.blk b10796 (K58 v10798 v10800 v10802 a0), .gs v10802 c10803 (csz api_Diag)]) (q10797 : RS (α := api_Token) Z v10798 a0.l_) (q10799 : RS (α := api_Node) Z v10800 a0.t_.Nodes) (q10801 : RCs (α := api_Diag) Z c10803 a0.d_) {r : Int × Int × flow_reader} (hm : flow_reader_value F a0 a1 a2 a3 = some r) :
    ∃ v h' Z' A', callI Go.Proofs.Try.prog 23 [Pt b10796 0, V a1, V a2, V a3] h = some (v, h') ∧ St h (idsL [.blk b10796 (K58 v10798 v10800 v10802 a0), .gs v10802 c10803 (csz api_Diag)]) Z (0, 0) Z' h' A' ∧ ∃ v19459 : Value, ∃ v19461 : Value, ∃ v19463 : Value, ∃ c19464 : List Value, .tuple #[V r.1, V r.2.1] = v ∧ A' = [.blk b10796 (K58 v19459 v19461 v19463 r.2.2), .gs v19463 c19464 (csz api_Diag)] ∧ RS (α := api_Token) Z' v19459 r.2.2.l_ ∧ RS (α := api_Node) Z' v19461 r.2.2.t_.Nodes ∧ RCs (α := api_Diag) Z' c19464 r.2.2.d_ := flow_reader_value_rC F F hP q10797 q10799 q10801 hm


def r24_0 : List COp := [u 2 (.assign (.const (.slice none 0 0)))]
def r24_1 : List COp := [u 3 (.move (t 0)), u 4 (.binOp .eql 30 (t 3) (.const (.slice none 0 0)) 30)]
def r24_2 : List COp := [u 2 (.assign (.const (.slice none 0 0)))]
def r24_3 : List COp := [u 5 (.buildSlice 30 0 #[]), u 6 (.move (t 0)), u 7 (cb .append #[(t 5), (t 6)] #[30, 30]), u 2 (.assign (t 7))]
def slices_Clone_api_Diag (F : Nat) (a0 : List api_Diag) : Option (List api_Diag) :=
  if ([] : List api_Diag).length + a0.length ≤ 5864062014805 then
    some (([] : List api_Diag) ++ a0)
  else none
theorem slices_Clone_api_Diag_ok (F : Nat) {h : AH} {Z : Zn} {a0 : List api_Diag} {v23588 : Value} (hP : Pre Z h []) (q23587 : RS (α := api_Diag) Z v23588 a0) {r : (List api_Diag)} (hm : slices_Clone_api_Diag F a0 = some r) :
    ∃ v h' Z' A', callI Go.Proofs.Try.prog 24 [v23588] h = some (v, h') ∧ St h (idsL []) Z (0, 0) Z' h' A' ∧ ∃ v23607 : Value, ∃ c23608 : List Value, v23607 = v ∧ A' = [.gs v23607 c23608 (csz api_Diag)] ∧ RCs (α := api_Diag) Z' c23608 r := by
  refine fn_intro (A := []) (Q := fun v Z' A' => ∃ v23607 : Value, ∃ c23608 : List Value, v23607 = v ∧ A' = [.gs v23607 c23608 (csz api_Diag)] ∧ RCs (α := api_Diag) Z' c23608 r) Go.Proofs.Try.func24 rfl rfl (by kernel_rfl) hP ?_
  intro hs hS
  unfold slices_Clone_api_Diag at hm
  replace hS : St hs [] Z (0, 0) Z hs [] := hS
  refine sr r24_0 ?_
  refine xe 1 [(0, v23588)] ?_
  refine sq ?_
  refine sr r24_1 ?_
  refine xq 1 [(3, v23588), (0, v23588)] ?_
  rcases nil_or q23587 with ⟨hn23611, hv23612⟩ | hv23612
  replace hm : some [] = some r := by rw [hn23611] at hm; simpa using hm
  refine r_step rfl trivial (o_cmp rfl rfl (c_nilT ⟨_, Go.Proofs.Try.underlying30⟩ hv23612)) ?_
  refine xf [(4, .bool true), (0, v23588)] ?_
  refine cT 4 rfl ?_
  refine sr r24_2 ?_
  refine xe 1 [(2, .slice none 0 0)] ?_
  refine rt ?_
  refine ⟨rfl, ?_⟩
  have hS23613 := hS.nilGs (csz api_Diag)
  obtain rfl := Option.some.inj hm
  refine ⟨_, _, _, ResL.tmp rfl (ResL.nil), hS23613, ?_⟩
  exact ⟨(.slice none 0 0), [], rfl, rfl, (RCs.nil0 _)⟩
  refine r_step rfl trivial (o_cmp rfl rfl (c_nilF ⟨_, Go.Proofs.Try.underlying30⟩ hv23612)) ?_
  refine xf [(4, .bool false), (0, v23588)] ?_
  refine kF 4 rfl ?_
  refine sr r24_3 ?_
  have q23618 : RCs (α := api_Diag) Z [] [] := RCs.nil0 _
  refine r_row rfl trivial (o_bs (cells := []) (s := 3) (by kernel_rfl)) (by kernel_rfl) hS ?_
  intro v23615 h23616 hS23617
  replace hS23617 : St _ _ _ _ _ _ [.gs v23615 [] (csz api_Diag)] := hS23617
  refine xq 1 [(6, v23588), (5, v23615)] ?_
  obtain ⟨c23621, nw23620⟩ := RS.news q23587 (hS23617).inv
  obtain ⟨hc23627, hm⟩ := chk hm
  refine r_ex3 rfl trivial (o_app (ys := a0) (by_ := 24) hS23617 (i := 0) rfl q23618 nw23620 rfl rfl (by kernel_rfl) (by omega) (by omega)) ?_
  rintro v23622 c23623 h23624 ⟨q23626, hS23625⟩
  replace hS23625 : St _ _ _ _ _ _ [.gs v23622 c23623 (csz api_Diag)] := hS23625
  refine xe 1 [(2, v23622)] ?_
  refine rt ?_
  refine ⟨rfl, ?_⟩
  obtain rfl := Option.some.inj hm
  refine ⟨_, _, _, ResL.tmp rfl (ResL.nil), hS23625, ?_⟩
  exact ⟨v23622, c23623, rfl, rfl, q23626⟩

def r11_0 : List COp := [u 9 (.box 29 (t 2)), u 14 (.alloc 29), u 15 (.assign (ci 0)), u 16 (.assign (ci 0)), u 17 (.assign (.const (.slice none 0 0)))]
def r11_1 : List COp := [u 19 (.move (t 1)), u 20 (.move (t 5)), u 21 (.move (t 1)), u 22 (cb .len #[(t 21)] #[25]), u 23 (cb .min #[(t 20), (t 22)] #[3, 3]), u 24 (.load 29 (t 9)), u 25 (cf 22 #[(t 24), (ci (-1)), (ci 0)] #[29, 3, 3]), u 26 (.build 58 #[(0, (t 19)), (1, (t 23)), (2, (t 25))]), u 27 (.box 58 (t 26)), u 18 (.assign (t 27))]
def r11_2 : List COp := [u 28 (.move (t 4)), u 29 (.binOp .lss 3 (t 28) (ci 0) 3), u 30 (.move (t 29)), gN 30 (some 31) (.move (t 3)), gN 30 (some 32) (.binOp .lss 3 (t 31) (ci 0) 3), u 33 (.pick (t 30) (.const (.bool true)) (t 32)), u 34 (.move (t 33)), gN 34 (some 35) (.move (t 3)), gN 34 (some 36) (.fieldAddr 29 (t 9) 0), gN 34 (some 37) (.load 27 (t 36)), gN 34 (some 38) (cb .len #[(t 37)] #[27]), gN 34 (some 39) (.binOp .geq 3 (t 35) (t 38) 3), u 40 (.pick (t 34) (.const (.bool true)) (t 39))]
def r11_3 : List COp := [u 41 (.move (t 18)), u 42 (.nilCheck (t 41)), u 43 (.fieldAddr 58 (t 42) 2), u 44 (.load 29 (t 43)), u 45 (.move (t 4)), o (.store 29 (t 14) (t 44)), u 15 (.assign (ci (-1))), u 16 (.assign (t 45)), u 17 (.assign (.const (.slice none 0 0)))]
def r11_4 : List COp := [u 47 (.move (t 18)), u 48 (.move (t 3)), u 49 (.move (t 4)), u 50 (.move (t 6)), u 51 (cf 23 #[(t 47), (t 48), (t 49), (t 50)] #[55, 3, 3, 3]), u 46 (.move (t 51)), u 52 (.extract (t 46) 0), u 53 (.extract (t 46) 1), u 15 (.assign (t 52)), u 16 (.assign (t 53))]
def r11_5 : List COpF := [uF 54 (.move (t 18)) .pure [], uF 55 (.nilCheck (t 54)) .pure [], uF 56 (.fieldAddr 58 (t 55) 2) .pure [], uF 57 (.load 29 (t 56)) .look [], uF 58 (.move (t 15)) .pure [], uF 59 (.move (t 16)) .pure [], uF 60 (.move (t 18)) .pure [], uF 61 (.nilCheck (t 60)) .pure [], uF 62 (.fieldAddr 58 (t 61) 3) .pure [], uF 63 (.load 30 (t 62)) .look [], uF 64 (cf 24 #[(t 63)] #[30]) .make [9], oF (.store 29 (t 14) (t 57)) .make [3, 9], uF 15 (.assign (t 58)) .pure [], uF 16 (.assign (t 59)) .pure [], uF 17 (.assign (t 64)) .pure []]
def flow_Value (F : Nat) (a0 : List UInt8) (a1 : List api_Token) (a2 : arena_Tree) (a3 : Int) (a4 : Int) (a5 : Int) (a6 : Int) : Option (arena_Tree × Int × Int × (List api_Diag)) :=
  (arena_Grow F a2 (-1) 0).bind fun r23664 =>
  if a4 < (0 : Int) then
    some (r23664, (-1), a4, [])
  else
    if a3 < (0 : Int) then
      some (r23664, (-1), a4, [])
    else
      if (a2.Nodes.length : Int) ≤ a3 then
        some (r23664, (-1), a4, [])
      else
        (flow_reader_value F (⟨a1, imin a5 (a1.length : Int), r23664, []⟩ : flow_reader) a3 a4 a6).bind fun r23738 =>
        (slices_Clone_api_Diag F r23738.2.2.d_).bind fun r23766 =>
        some (r23738.2.2.t_, r23738.1, r23738.2.1, r23766)
theorem flow_Value_ok (F : Nat) {h : AH} {Z : Zn} {a0 : List UInt8} {a1 : List api_Token} {a2 : arena_Tree} {a3 : Int} {a4 : Int} {a5 : Int} {a6 : Int} {v9588 : Value} {v9590 : Value} {v9592 : Value} (hP : Pre Z h []) (q9587 : RS (α := UInt8) Z v9588 a0) (q9589 : RS (α := api_Token) Z v9590 a1) (q9591 : RS (α := api_Node) Z v9592 a2.Nodes) {r : arena_Tree × Int × Int × (List api_Diag)} (hm : flow_Value F a0 a1 a2 a3 a4 a5 a6 = some r) :
    ∃ v h' Z' A', callI Go.Proofs.Try.prog 11 [v9588, v9590, .agg #[v9592], V a3, V a4, V a5, V a6] h = some (v, h') ∧ St h (idsL []) Z (0, 0) Z' h' A' ∧ ∃ v23654 : Value, ∃ v23656 : Value, ∃ c23657 : List Value, .tuple #[.agg #[v23654], V r.2.1, V r.2.2.1, v23656] = v ∧ A' = [.gs v23656 c23657 (csz api_Diag)] ∧ RS (α := api_Node) Z' v23654 r.1.Nodes ∧ RCs (α := api_Diag) Z' c23657 r.2.2.2 := by
  refine fn_intro (A := []) (Q := fun v Z' A' => ∃ v23654 : Value, ∃ v23656 : Value, ∃ c23657 : List Value, .tuple #[.agg #[v23654], V r.2.1, V r.2.2.1, v23656] = v ∧ A' = [.gs v23656 c23657 (csz api_Diag)] ∧ RS (α := api_Node) Z' v23654 r.1.Nodes ∧ RCs (α := api_Diag) Z' c23657 r.2.2.2) Go.Proofs.Try.func11 rfl rfl (by kernel_rfl) hP ?_
  intro hs hS
  unfold flow_Value at hm
  replace hS : St hs [] Z (0, 0) Z hs [] := hS
  refine sr r11_0 ?_
  refine r_blk rfl trivial (o_box (cs := [v9592]) rfl rfl) hS ?_
  intro b23658 h23659 hS23660
  refine r_blk rfl trivial (o_alloc (cs := [.slice none 0 0]) (by kernel_rfl)) hS23660 ?_
  intro b23661 h23662 hS23663
  refine xe 3 [(14, Pt b23661 0), (9, Pt b23658 0), (1, v9590), (3, V a3), (4, V a4), (5, V a5), (6, V a6)] ?_
  refine sr r11_1 ?_
  refine xq 3 [(21, v9590), (20, V a5), (19, v9590), (14, Pt b23661 0), (9, Pt b23658 0), (3, V a3), (4, V a4), (6, V a6)] ?_
  refine r_step rfl trivial (o_len rfl (RS.len q9589) ⟨_, Go.Proofs.Try.underlying25⟩) ?_
  refine xq 1 [(23, V (imin a5 (a1.length : Int))), (19, v9590), (14, Pt b23661 0), (9, Pt b23658 0), (3, V a3), (4, V a4), (6, V a6)] ?_
  refine r_step rfl trivial (o_ldb (v := .agg #[v9592]) hS23663 (i := 1) rfl rfl (by kernel_rfl)) ?_
  obtain ⟨r23664, hx23665, hm⟩ := obind hm
  have hSr23671 : St _ _ _ _ _ _ ([] ++ [.blk b23661 [.slice none 0 0], .blk b23658 [v9592]]) := hS23663
  obtain ⟨v23666, h23667, Z23672, A23674, hcl23668, hSc23669, v23676, c23677, rfl, rfl, q23675⟩ := arena_Grow_ok F hSr23671.preL q9591 hx23665
  have hS23670 := hSr23671.call hSc23669
  have hZ23673 := hSc23669.zle
  replace hS23670 : St _ _ _ _ _ _ [.gs v23676 c23677 (csz api_Node), .blk b23661 [.slice none 0 0], .blk b23658 [v9592]] := hS23670
  refine r_step rfl trivial (o_call hcl23668 rfl rfl rfl) ?_
  refine r_step rfl trivial (o_build (v := .agg #[v9590, V (imin a5 (a1.length : Int)), v23676, .slice none 0 0]) rfl (CA.cons (cs := [v9590]) (RS.cell1 (q9589.mono hZ23673)) (CA.cons (cs := [V (imin a5 (a1.length : Int))]) rfl (CA.cons (cs := [v23676]) rfl (CA.nil0)))) (by kernel_rfl)) ?_
  refine r_blk rfl trivial (o_box (cs := [v9590, V (imin a5 (a1.length : Int)), v23676, .slice none 0 0]) rfl rfl) hS23670 ?_
  intro b23678 h23679 hS23680
  refine xe 1 [(18, Pt b23678 0), (14, Pt b23661 0), (9, Pt b23658 0), (3, V a3), (4, V a4), (6, V a6)] ?_
  refine sq ?_
  refine sr r11_2 ?_
  refine xq 1 [(28, V a4), (18, Pt b23678 0), (14, Pt b23661 0), (9, Pt b23658 0), (3, V a3), (4, V a4), (6, V a6)] ?_
  rcases ifs hm with ⟨hp23699, hm⟩ | ⟨hp23699, hm⟩
  refine r_step rfl trivial (o_cmp rfl rfl (c_lss_T hp23699)) ?_
  refine xe 11 [(40, .bool true), (18, Pt b23678 0), (14, Pt b23661 0), (3, V a3), (4, V a4), (6, V a6)] ?_
  refine cT 40 rfl ?_
  refine sr r11_3 ?_
  refine xq 3 [(43, Pt b23678 2), (14, Pt b23661 0), (4, V a4)] ?_
  refine r_step rfl trivial (o_ldb (v := .agg #[v23676]) hS23680 (i := 0) rfl rfl (by kernel_rfl)) ?_
  refine xq 1 [(45, V a4), (44, .agg #[v23676]), (14, Pt b23661 0)] ?_
  refine r_ex1 rfl trivial (o_stb (vs := [v23676]) (cells' := [v23676]) (L' := [.blk b23678 [v9590, V (imin a5 (a1.length : Int)), v23676, .slice none 0 0], .gs v23676 c23677 (csz api_Node), .blk b23661 [v23676], .blk b23658 [v9592]]) hS23680 (i := 2) rfl rfl rfl rfl (by kernel_rfl) (one_cons (hS23680.gone1 (i := 1) rfl) one_nil) rfl rfl rfl) ?_
  intro h23702 hS23703
  refine xe 3 [(17, .slice none 0 0), (16, V a4), (15, V (-1)), (14, Pt b23661 0)] ?_
  refine rt ?_
  refine ⟨rfl, ?_⟩
  obtain ⟨Z23704, hZ23705, q23706, hS23707⟩ := (hS23703.front 1 rfl).freeze q23675
  replace hS23707 : St _ _ _ _ _ _ [.blk b23678 [v9590, V (imin a5 (a1.length : Int)), v23676, .slice none 0 0], .blk b23661 [v23676], .blk b23658 [v9592]] := hS23707
  have hS23708 := hS23707.nilGs (csz api_Diag)
  obtain rfl := Option.some.inj hm
  refine ⟨_, _, _, ResL.cell (v := .agg #[v23676]) rfl hS23708 (i := 2) rfl (by kernel_rfl) (ResL.tmp rfl (ResL.tmp rfl (ResL.tmp rfl (ResL.nil)))), (hS23708.takeN 1), ?_⟩
  exact ⟨v23676, (.slice none 0 0), [], rfl, rfl, q23706, (RCs.nil0 _)⟩
  refine r_step rfl trivial (o_cmp rfl rfl (c_lss_F hp23699)) ?_
  refine xq 2 [(31, V a3), (30, .bool false), (18, Pt b23678 0), (14, Pt b23661 0), (9, Pt b23658 0), (3, V a3), (4, V a4), (6, V a6)] ?_
  rcases ifs hm with ⟨hp23710, hm⟩ | ⟨hp23710, hm⟩
  refine r_step rfl rfl (o_cmp rfl rfl (c_lss_T hp23710)) ?_
  refine xe 8 [(40, .bool true), (18, Pt b23678 0), (14, Pt b23661 0), (3, V a3), (4, V a4), (6, V a6)] ?_
  refine cT 40 rfl ?_
  refine sr r11_3 ?_
  refine xq 3 [(43, Pt b23678 2), (14, Pt b23661 0), (4, V a4)] ?_
  refine r_step rfl trivial (o_ldb (v := .agg #[v23676]) hS23680 (i := 0) rfl rfl (by kernel_rfl)) ?_
  refine xq 1 [(45, V a4), (44, .agg #[v23676]), (14, Pt b23661 0)] ?_
  refine r_ex1 rfl trivial (o_stb (vs := [v23676]) (cells' := [v23676]) (L' := [.blk b23678 [v9590, V (imin a5 (a1.length : Int)), v23676, .slice none 0 0], .gs v23676 c23677 (csz api_Node), .blk b23661 [v23676], .blk b23658 [v9592]]) hS23680 (i := 2) rfl rfl rfl rfl (by kernel_rfl) (one_cons (hS23680.gone1 (i := 1) rfl) one_nil) rfl rfl rfl) ?_
  intro h23713 hS23714
  refine xe 3 [(17, .slice none 0 0), (16, V a4), (15, V (-1)), (14, Pt b23661 0)] ?_
  refine rt ?_
  refine ⟨rfl, ?_⟩
  obtain ⟨Z23715, hZ23716, q23717, hS23718⟩ := (hS23714.front 1 rfl).freeze q23675
  replace hS23718 : St _ _ _ _ _ _ [.blk b23678 [v9590, V (imin a5 (a1.length : Int)), v23676, .slice none 0 0], .blk b23661 [v23676], .blk b23658 [v9592]] := hS23718
  have hS23719 := hS23718.nilGs (csz api_Diag)
  obtain rfl := Option.some.inj hm
  refine ⟨_, _, _, ResL.cell (v := .agg #[v23676]) rfl hS23719 (i := 2) rfl (by kernel_rfl) (ResL.tmp rfl (ResL.tmp rfl (ResL.tmp rfl (ResL.nil)))), (hS23719.takeN 1), ?_⟩
  exact ⟨v23676, (.slice none 0 0), [], rfl, rfl, q23717, (RCs.nil0 _)⟩
  refine r_step rfl rfl (o_cmp rfl rfl (c_lss_F hp23710)) ?_
  refine xq 4 [(36, Pt b23658 0), (35, V a3), (34, .bool false), (18, Pt b23678 0), (14, Pt b23661 0), (3, V a3), (4, V a4), (6, V a6)] ?_
  refine r_step rfl rfl (o_ldb (v := v9592) hS23680 (i := 3) rfl rfl (by kernel_rfl)) ?_
  refine r_step rfl rfl (o_len rfl (RS.len (q9591.mono hZ23673)) ⟨_, Go.Proofs.Try.underlying27⟩) ?_
  rcases ifs hm with ⟨hp23721, hm⟩ | ⟨hp23721, hm⟩
  refine r_step rfl rfl (o_cmp rfl rfl (c_geq_T hp23721)) ?_
  refine xe 1 [(40, .bool true), (18, Pt b23678 0), (14, Pt b23661 0), (3, V a3), (4, V a4), (6, V a6)] ?_
  refine cT 40 rfl ?_
  refine sr r11_3 ?_
  refine xq 3 [(43, Pt b23678 2), (14, Pt b23661 0), (4, V a4)] ?_
  refine r_step rfl trivial (o_ldb (v := .agg #[v23676]) hS23680 (i := 0) rfl rfl (by kernel_rfl)) ?_
  refine xq 1 [(45, V a4), (44, .agg #[v23676]), (14, Pt b23661 0)] ?_
  refine r_ex1 rfl trivial (o_stb (vs := [v23676]) (cells' := [v23676]) (L' := [.blk b23678 [v9590, V (imin a5 (a1.length : Int)), v23676, .slice none 0 0], .gs v23676 c23677 (csz api_Node), .blk b23661 [v23676], .blk b23658 [v9592]]) hS23680 (i := 2) rfl rfl rfl rfl (by kernel_rfl) (one_cons (hS23680.gone1 (i := 1) rfl) one_nil) rfl rfl rfl) ?_
  intro h23724 hS23725
  refine xe 3 [(17, .slice none 0 0), (16, V a4), (15, V (-1)), (14, Pt b23661 0)] ?_
  refine rt ?_
  refine ⟨rfl, ?_⟩
  obtain ⟨Z23726, hZ23727, q23728, hS23729⟩ := (hS23725.front 1 rfl).freeze q23675
  replace hS23729 : St _ _ _ _ _ _ [.blk b23678 [v9590, V (imin a5 (a1.length : Int)), v23676, .slice none 0 0], .blk b23661 [v23676], .blk b23658 [v9592]] := hS23729
  have hS23730 := hS23729.nilGs (csz api_Diag)
  obtain rfl := Option.some.inj hm
  refine ⟨_, _, _, ResL.cell (v := .agg #[v23676]) rfl hS23730 (i := 2) rfl (by kernel_rfl) (ResL.tmp rfl (ResL.tmp rfl (ResL.tmp rfl (ResL.nil)))), (hS23730.takeN 1), ?_⟩
  exact ⟨v23676, (.slice none 0 0), [], rfl, rfl, q23728, (RCs.nil0 _)⟩
  refine r_step rfl rfl (o_cmp rfl rfl (c_geq_F hp23721)) ?_
  refine xe 1 [(40, .bool false), (18, Pt b23678 0), (14, Pt b23661 0), (3, V a3), (4, V a4), (6, V a6)] ?_
  refine kF 40 rfl ?_
  refine sr r11_4 ?_
  refine xq 4 [(50, V a6), (49, V a4), (48, V a3), (47, Pt b23678 0), (18, Pt b23678 0), (14, Pt b23661 0)] ?_
  obtain ⟨Z23732, hZ23733, q23734, hS23735⟩ := (hS23680.front 1 rfl).freeze q23675
  replace hS23735 : St _ _ _ _ _ _ [.blk b23678 [v9590, V (imin a5 (a1.length : Int)), v23676, .slice none 0 0], .blk b23661 [.slice none 0 0], .blk b23658 [v9592]] := hS23735
  have hS23736 := hS23735.nilGs (csz api_Diag)
  obtain ⟨r23738, hx23739, hm⟩ := obind hm
  have hF23745 : St _ _ _ _ _ _ ([.blk b23678 [v9590, V (imin a5 (a1.length : Int)), v23676, .slice none 0 0], .gs (.slice none 0 0) [] (csz api_Diag)] ++ [.blk b23661 [.slice none 0 0], .blk b23658 [v9592]]) := ((hS23736.front 0 rfl).front 1 rfl)
  obtain ⟨v23740, h23741, Z23746, A23748, hcl23742, hSc23743, v23750, v23752, v23754, c23755, rfl, rfl, q23749, q23751, q23753⟩ := flow_reader_value_ok F hF23745.preL (q9589.mono (hZ23673.trans hZ23733)) q23734 (RCs.nil0 _) hx23739
  have hZ23747 := hSc23743.zle
  have hS23744 := hF23745.call hSc23743
  replace hS23744 : St _ _ _ _ _ _ [.blk b23678 (K58 v23750 v23752 v23754 r23738.2.2), .gs v23754 c23755 (csz api_Diag), .blk b23661 [.slice none 0 0], .blk b23658 [v9592]] := hS23744
  refine r_step rfl trivial (o_call hcl23742 rfl rfl rfl) ?_
  refine xe 5 [(16, V r23738.2.1), (15, V r23738.1), (18, Pt b23678 0), (14, Pt b23661 0)] ?_
  refine srF r11_5 hS23744 ?_
  intro bs23756 h23757 hlv23759 hS23758
  refine yq 3 [(56, Pt b23678 2), (16, V r23738.2.1), (15, V r23738.1), (18, Pt b23678 0), (14, Pt b23661 0)] ?_
  have lt23760 : b23678 < bs23756 := hlv23759.1 _ (List.mem_of_getElem? (i := 0) rfl) _ (by simp [Itm.ids])
  refine e_lookB rfl trivial rfl (by show b23678 < _; omega) (same_agg (cs := [v23752]) (.cons (RS.sim1 q23751) .nil)) (o_ldb (v := .agg #[v23752]) hS23758 (i := 0) rfl rfl (by kernel_rfl)) trivial ?_
  refine yq 5 [(62, Pt b23678 3), (59, V r23738.2.1), (58, V r23738.1), (57, .agg #[v23752]), (16, V r23738.2.1), (15, V r23738.1), (14, Pt b23661 0)] ?_
  have lt23761 : b23678 < bs23756 := hlv23759.1 _ (List.mem_of_getElem? (i := 0) rfl) _ (by simp [Itm.ids])
  refine e_lookB rfl trivial rfl (by show b23678 < _; omega) (same1 (v := v23754) (hS23758.gsim1 (i := 1) rfl)) (o_ldb (v := v23754) hS23758 (i := 0) rfl rfl (by kernel_rfl)) trivial ?_
  obtain ⟨Z23762, hZ23763, q23764, hS23765⟩ := (hS23758.front 1 rfl).freeze q23753
  replace hS23765 : St _ _ _ _ _ _ [.blk b23678 (K58 v23750 v23752 v23754 r23738.2.2), .blk b23661 [.slice none 0 0], .blk b23658 [v9592]] := hS23765
  obtain ⟨r23766, hx23767, hm⟩ := obind hm
  have hSl23773 := hS23765.lown
  have hSr23774 : St _ _ _ _ _ _ ([] ++ [.blk b23678 (K58 v23750 v23752 v23754 r23738.2.2), .blk b23661 [.slice none 0 0], .blk b23658 [v9592]]) := hSl23773
  obtain ⟨v23768, h23769, Z23775, A23777, hcl23770, hSc23771, v23779, c23780, rfl, rfl, q23778⟩ := slices_Clone_api_Diag_ok F hSr23774.preL q23764 hx23767
  have hS23772 := hSr23774.call hSc23771
  have hZ23776 := hSc23771.zle
  replace hS23772 : St _ _ _ _ _ _ [.gs v23779 c23780 (csz api_Diag), .blk b23678 (K58 v23750 v23752 v23754 r23738.2.2), .blk b23661 [.slice none 0 0], .blk b23658 [v9592]] := hS23772
  refine e_still rfl trivial hS23765 (o_call hcl23770 rfl rfl rfl) hS23772 (St.lowk hSc23771) ?_
  intro h23781 hS23782
  have hF23785 : St _ _ _ _ _ _ ([.blk b23661 [.slice none 0 0]] ++ [.gs v23779 c23780 (csz api_Diag), .blk b23678 (K58 v23750 v23752 v23754 r23738.2.2), .blk b23658 [v9592]]) := (hS23782.front 2 rfl)
  refine e_mk1 rfl trivial hF23785 (o_stb (vs := [v23752]) (cells' := [v23752]) (L' := [.blk b23661 [v23752]]) hF23785.sub (i := 0) rfl rfl rfl rfl (by kernel_rfl) (one_cons (RS.one1 (q23751.mono (hZ23763.trans hZ23776))) one_nil) rfl rfl rfl) (hZ23763.trans hZ23776) (.keep (hF23785.neB 1 rfl blk_mem) (.keep (hF23785.neB 1 rfl blk_mem) .nil)) ?_
  intro h23783 hS23784
  refine ye 3 [(17, v23779), (16, V r23738.2.1), (15, V r23738.1), (14, Pt b23661 0)] ?_
  have hS23786 := hS23784.unres
  refine rt ?_
  refine ⟨rfl, ?_⟩
  obtain rfl := Option.some.inj hm
  refine ⟨_, _, _, ResL.cell (v := .agg #[v23752]) rfl hS23786 (i := 0) rfl (by kernel_rfl) (ResL.tmp rfl (ResL.tmp rfl (ResL.tmp rfl (ResL.nil)))), ((hS23786.front 1 rfl).takeN 1), ?_⟩
  exact ⟨v23752, v23779, c23780, rfl, rfl, (q23751.mono (hZ23763.trans hZ23776)), q23778⟩

def r8_0 : List COp := [u 0 (.assign (.const (.bool false)))]
def r8_1 : List COp := [u 7 (.buildSlice 24 9 #[(0, (.const (.int .u8 91))), (1, (.const (.int .u8 97))), (2, (.const (.int .u8 44))), (3, (.const (.int .u8 32))), (4, (.const (.int .u8 98))), (5, (.const (.int .u8 58))), (6, (.const (.int .u8 32))), (7, (.const (.int .u8 99))), (8, (.const (.int .u8 93)))]), u 8 (.convert 24 24 (t 7)), u 1 (.assign (t 8))]
def r8_2 : List COp := [u 9 (.move (t 1)), u 10 (cf 10 #[(t 9)] #[24]), u 2 (.assign (t 10))]
def r8_3 : List COp := [u 12 (.move (t 1)), u 13 (.move (t 2)), u 14 (.move (t 2)), u 15 (cb .len #[(t 14)] #[25]), u 16 (cf 12 #[(t 15)] #[3]), u 17 (.move (t 2)), u 18 (cb .len #[(t 17)] #[25]), u 19 (cf 11 #[(t 12), (t 13), (t 16), (ci 0), (ci 0), (t 18), (ci 5)] #[24, 25, 29, 3, 3, 3, 3]), u 11 (.move (t 19)), u 20 (.extract (t 11) 0), u 21 (.extract (t 11) 1), u 22 (.extract (t 11) 2), u 23 (.extract (t 11) 3), u 3 (.alloc 29), o (.store 29 (t 3) (t 20)), u 4 (.assign (t 21)), u 5 (.assign (t 22)), u 6 (.assign (t 23))]
def r8_4 : List COp := [u 24 (.move (t 4)), u 25 (.binOp .eql 3 (t 24) (ci 1) 3), u 26 (.move (t 25)), gT 26 (some 27) (.move (t 5)), gT 26 (some 28) (.move (t 2)), gT 26 (some 29) (cb .len #[(t 28)] #[25]), gT 26 (some 30) (.binOp .eql 3 (t 27) (t 29) 3), u 31 (.pick (t 26) (t 30) (.const (.bool false))), u 32 (.move (t 31)), gT 32 (some 33) (.move (t 6)), gT 32 (some 34) (cb .len #[(t 33)] #[30]), gT 32 (some 35) (.binOp .eql 3 (t 34) (ci 0) 3), u 36 (.pick (t 32) (t 35) (.const (.bool false))), u 37 (.move (t 36)), gT 37 (some 38) (.fieldAddr 29 (t 3) 0), gT 37 (some 39) (.load 27 (t 38)), gT 37 (some 40) (cb .len #[(t 39)] #[27]), gT 37 (some 41) (.binOp .eql 3 (t 40) (ci 6) 3), u 42 (.pick (t 37) (t 41) (.const (.bool false))), u 43 (.move (t 42)), gT 43 (some 44) (.fieldAddr 29 (t 3) 0), gT 43 (some 45) (.load 27 (t 44)), gT 43 (some 46) (.indexAddr 27 (t 45) (ci 1)), gT 43 (some 47) (.fieldAddr 42 (t 46) 0), gT 43 (some 48) (.load 3 (t 47)), gT 43 (some 49) (.binOp .eql 3 (t 48) (ci 9) 3), u 50 (.pick (t 43) (t 49) (.const (.bool false))), u 51 (.move (t 50)), gT 51 (some 52) (.fieldAddr 29 (t 3) 0), gT 51 (some 53) (.load 27 (t 52)), gT 51 (some 54) (.indexAddr 27 (t 53) (ci 3)), gT 51 (some 55) (.fieldAddr 42 (t 54) 0), gT 51 (some 56) (.load 3 (t 55)), gT 51 (some 57) (.binOp .eql 3 (t 56) (ci 6) 3), u 58 (.pick (t 51) (t 57) (.const (.bool false))), u 0 (.assign (t 58))]
def correctorlaw11_known (F : Nat) : Option Bool :=
  if 0 < ([91, 97, 44, 32, 98, 58, 32, 99, 93] : List UInt8).length then
    (correctorref6_Tokens F ([91, 97, 44, 32, 98, 58, 32, 99, 93] : List UInt8)).bind fun r23888 =>
    (arena_New F (r23888.length : Int)).bind fun r23902 =>
    (flow_Value F ([91, 97, 44, 32, 98, 58, 32, 99, 93] : List UInt8) r23888 r23902 0 0 (r23888.length : Int) 5).bind fun r23924 =>
    if r23924.2.1 = (1 : Int) then
      if r23924.2.2.1 = (r23888.length : Int) then
        if (r23924.2.2.2.length : Int) = (0 : Int) then
          if (r23924.1.Nodes.length : Int) = (6 : Int) then
            if 0 ≤ (1 : Int) ∧ (1 : Int) < (r23924.1.Nodes.length : Int) then
              (r23924.1.Nodes[(1 : Int).toNat]?).bind fun x23950 =>
              if x23950.Kind = (9 : Int) then
                if 0 ≤ (3 : Int) ∧ (3 : Int) < (r23924.1.Nodes.length : Int) then
                  (r23924.1.Nodes[(3 : Int).toNat]?).bind fun x23960 =>
                  if x23960.Kind = (6 : Int) then
                    some true
                  else
                    some false
                else none
              else
                some false
            else none
          else
            some false
        else
          some false
      else
        some false
    else
      some false
  else none
theorem correctorlaw11_known_ok (F : Nat) {h : AH} {Z : Zn} (hI : Inv Z h) {r : Bool} (hm : correctorlaw11_known F = some r) :
    ∃ v h', callI Go.Proofs.Try.prog 8 [] h = some (v, h') ∧ St h [] Z (0, 0) Z h' [] ∧ v = .bool r := by
  refine fn_plain (Q := fun v => v = .bool r) Go.Proofs.Try.func8 rfl rfl hI ?_
  intro hs hS
  unfold correctorlaw11_known at hm
  refine sr r8_0 ?_
  refine xe 1 [] ?_
  refine sr r8_1 ?_
  have q23881 : RCs (α := UInt8) Z [.int .u8 91, .int .u8 97, .int .u8 44, .int .u8 32, .int .u8 98, .int .u8 58, .int .u8 32, .int .u8 99, .int .u8 93] ([91, 97, 44, 32, 98, 58, 32, 99, 93] : List UInt8) := RCs.cons (cs := [.int .u8 91]) rfl (RCs.cons (cs := [.int .u8 97]) rfl (RCs.cons (cs := [.int .u8 44]) rfl (RCs.cons (cs := [.int .u8 32]) rfl (RCs.cons (cs := [.int .u8 98]) rfl (RCs.cons (cs := [.int .u8 58]) rfl (RCs.cons (cs := [.int .u8 32]) rfl (RCs.cons (cs := [.int .u8 99]) rfl (RCs.cons (cs := [.int .u8 93]) rfl (RCs.nil0 _)))))))))
  refine r_row rfl trivial (o_bs (cells := [.int .u8 91, .int .u8 97, .int .u8 44, .int .u8 32, .int .u8 98, .int .u8 58, .int .u8 32, .int .u8 99, .int .u8 93]) (s := 1) (by kernel_rfl)) (by kernel_rfl) hS ?_
  intro v23878 h23879 hS23880
  replace hS23880 : St _ _ _ _ _ _ [.gs v23878 [.int .u8 91, .int .u8 97, .int .u8 44, .int .u8 32, .int .u8 98, .int .u8 58, .int .u8 32, .int .u8 99, .int .u8 93] (csz UInt8)] := hS23880
  obtain ⟨hc23883, hm⟩ := chk hm
  refine r_step rfl trivial (o_convid hS23880 (j := 0) rfl q23881 hc23883 rfl (by kernel_rfl)) ?_
  refine xe 1 [(1, v23878)] ?_
  refine sr r8_2 ?_
  refine xq 1 [(9, v23878), (1, v23878)] ?_
  obtain ⟨Z23884, hZ23885, q23886, hS23887⟩ := (hS23880.front 0 rfl).freeze q23881
  replace hS23887 : St _ _ _ _ _ _ [] := hS23887
  obtain ⟨r23888, hx23889, hm⟩ := obind hm
  have hSr23895 : St _ _ _ _ _ _ ([] ++ []) := hS23887
  obtain ⟨v23890, h23891, Z23896, A23898, hcl23892, hSc23893, v23900, c23901, rfl, rfl, q23899⟩ := correctorref6_Tokens_ok F hSr23895.preL q23886 hx23889
  have hS23894 := hSr23895.call hSc23893
  have hZ23897 := hSc23893.zle
  replace hS23894 : St _ _ _ _ _ _ [.gs v23900 c23901 (csz api_Token)] := hS23894
  refine r_step rfl trivial (o_call hcl23892 rfl rfl rfl) ?_
  refine xe 1 [(2, v23900), (1, v23878)] ?_
  refine sr r8_3 ?_
  refine xq 3 [(14, v23900), (13, v23900), (12, v23878), (2, v23900)] ?_
  refine r_step rfl trivial (o_len rfl (hS23894.glen (i := 0) rfl q23899) ⟨_, Go.Proofs.Try.underlying25⟩) ?_
  obtain ⟨r23902, hx23903, hm⟩ := obind hm
  have hSr23909 : St _ _ _ _ _ _ ([] ++ [.gs v23900 c23901 (csz api_Token)]) := hS23894
  obtain ⟨v23904, h23905, Z23910, A23912, hcl23906, hSc23907, v23914, c23915, rfl, rfl, q23913⟩ := arena_New_ok F hSr23909.preL  hx23903
  have hS23908 := hSr23909.call hSc23907
  have hZ23911 := hSc23907.zle
  replace hS23908 : St _ _ _ _ _ _ [.gs v23914 c23915 (csz api_Node), .gs v23900 c23901 (csz api_Token)] := hS23908
  refine r_step rfl trivial (o_call hcl23906 rfl rfl rfl) ?_
  refine xq 1 [(17, v23900), (16, .agg #[v23914]), (13, v23900), (12, v23878), (2, v23900)] ?_
  refine r_step rfl trivial (o_len rfl (hS23908.glen (i := 1) rfl (q23899.mono hZ23911)) ⟨_, Go.Proofs.Try.underlying25⟩) ?_
  obtain ⟨Z23916, hZ23917, q23918, hS23919⟩ := (hS23908.front 1 rfl).freeze (q23899.mono hZ23911)
  replace hS23919 : St _ _ _ _ _ _ [.gs v23914 c23915 (csz api_Node)] := hS23919
  obtain ⟨Z23920, hZ23921, q23922, hS23923⟩ := (hS23919.front 0 rfl).freeze (q23913.mono hZ23917)
  replace hS23923 : St _ _ _ _ _ _ [] := hS23923
  obtain ⟨r23924, hx23925, hm⟩ := obind hm
  have hSr23931 : St _ _ _ _ _ _ ([] ++ []) := hS23923
  obtain ⟨v23926, h23927, Z23932, A23934, hcl23928, hSc23929, v23936, v23938, c23939, rfl, rfl, q23935, q23937⟩ := flow_Value_ok F hSr23931.preL (q23886.mono (hZ23897.trans (hZ23911.trans (hZ23917.trans hZ23921)))) (q23918.mono hZ23921) q23922 hx23925
  have hS23930 := hSr23931.call hSc23929
  have hZ23933 := hSc23929.zle
  replace hS23930 : St _ _ _ _ _ _ [.gs v23938 c23939 (csz api_Diag)] := hS23930
  refine r_step rfl trivial (o_call hcl23928 rfl rfl rfl) ?_
  refine xq 5 [(23, v23938), (22, V r23924.2.2.1), (21, V r23924.2.1), (20, .agg #[v23936]), (2, v23900)] ?_
  refine r_blk rfl trivial (o_alloc (cs := [.slice none 0 0]) (by kernel_rfl)) hS23930 ?_
  intro b23940 h23941 hS23942
  refine r_ex1 rfl trivial (o_stb (vs := [v23936]) (cells' := [v23936]) (L' := [.blk b23940 [v23936], .gs v23938 c23939 (csz api_Diag)]) hS23942 (i := 0) rfl rfl rfl rfl (by kernel_rfl) (one_cons (RS.one1 q23935) one_nil) rfl rfl rfl) ?_
  intro h23943 hS23944
  refine xe 3 [(6, v23938), (5, V r23924.2.2.1), (4, V r23924.2.1), (3, Pt b23940 0), (2, v23900)] ?_
  refine sr r8_4 ?_
  refine xq 1 [(24, V r23924.2.1), (6, v23938), (5, V r23924.2.2.1), (3, Pt b23940 0), (2, v23900)] ?_
  rcases ifs hm with ⟨hp23945, hm⟩ | ⟨hp23945, hm⟩
  refine r_step rfl trivial (o_cmp rfl rfl (c_eql_T hp23945)) ?_
  refine xq 3 [(28, v23900), (27, V r23924.2.2.1), (26, .bool true), (6, v23938), (3, Pt b23940 0)] ?_
  refine r_step rfl rfl (o_len rfl (RS.len (q23918.mono (hZ23921.trans hZ23933))) ⟨_, Go.Proofs.Try.underlying25⟩) ?_
  rcases ifs hm with ⟨hp23946, hm⟩ | ⟨hp23946, hm⟩
  refine r_step rfl rfl (o_cmp rfl rfl (c_eql_T hp23946)) ?_
  refine xq 3 [(33, v23938), (32, .bool true), (3, Pt b23940 0)] ?_
  refine r_step rfl rfl (o_len rfl (hS23944.glen (i := 1) rfl q23937) ⟨_, Go.Proofs.Try.underlying30⟩) ?_
  rcases ifs hm with ⟨hp23947, hm⟩ | ⟨hp23947, hm⟩
  refine r_step rfl rfl (o_cmp rfl rfl (c_eql_T hp23947)) ?_
  refine xq 3 [(38, Pt b23940 0), (37, .bool true), (3, Pt b23940 0)] ?_
  refine r_step rfl rfl (o_ldb (v := v23936) hS23944 (i := 0) rfl rfl (by kernel_rfl)) ?_
  refine r_step rfl rfl (o_len rfl (RS.len q23935) ⟨_, Go.Proofs.Try.underlying27⟩) ?_
  rcases ifs hm with ⟨hp23948, hm⟩ | ⟨hp23948, hm⟩
  refine r_step rfl rfl (o_cmp rfl rfl (c_eql_T hp23948)) ?_
  refine xq 3 [(44, Pt b23940 0), (43, .bool true), (3, Pt b23940 0)] ?_
  refine r_step rfl rfl (o_ldb (v := v23936) hS23944 (i := 0) rfl rfl (by kernel_rfl)) ?_
  obtain ⟨hc23949, hm⟩ := chk hm
  refine r_step rfl rfl (o_index rfl rfl (by kernel_rfl : slTy _ _ = some (csz api_Node)) (RS.based q23935 (by omega)) hc23949.1 hc23949.2) ?_
  refine xq 1 [(47, .pointer (some (elemA v23936 1 (csz api_Node) 0))), (43, .bool true), (3, Pt b23940 0)] ?_
  obtain ⟨x23950, hx23951, hm⟩ := obind hm
  obtain ⟨cs23952, hc23953, he23954⟩ := RS.elz q23935 (i := 1) hx23951
  obtain ⟨v23956, q23957, rfl⟩ := rc_api_Node hc23953
  refine r_step rfl rfl (o_lde (w := V x23950.Kind) (he23954 _ (hS23944.zin0 (Zle.refl _))) rfl (by kernel_rfl)) ?_
  rcases ifs hm with ⟨hp23958, hm⟩ | ⟨hp23958, hm⟩
  refine r_step rfl rfl (o_cmp rfl rfl (c_eql_T hp23958)) ?_
  refine xq 3 [(52, Pt b23940 0), (51, .bool true)] ?_
  refine r_step rfl rfl (o_ldb (v := v23936) hS23944 (i := 0) rfl rfl (by kernel_rfl)) ?_
  obtain ⟨hc23959, hm⟩ := chk hm
  refine r_step rfl rfl (o_index rfl rfl (by kernel_rfl : slTy _ _ = some (csz api_Node)) (RS.based q23935 (by omega)) hc23959.1 hc23959.2) ?_
  refine xq 1 [(55, .pointer (some (elemA v23936 3 (csz api_Node) 0))), (51, .bool true)] ?_
  obtain ⟨x23960, hx23961, hm⟩ := obind hm
  obtain ⟨cs23962, hc23963, he23964⟩ := RS.elz q23935 (i := 3) hx23961
  obtain ⟨v23966, q23967, rfl⟩ := rc_api_Node hc23963
  refine r_step rfl rfl (o_lde (w := V x23960.Kind) (he23964 _ (hS23944.zin0 (Zle.refl _))) rfl (by kernel_rfl)) ?_
  rcases ifs hm with ⟨hp23968, hm⟩ | ⟨hp23968, hm⟩
  refine r_step rfl rfl (o_cmp rfl rfl (c_eql_T hp23968)) ?_
  refine xe 2 [(0, .bool true)] ?_
  refine rt ?_
  refine ⟨rfl, ?_⟩
  obtain rfl := Option.some.inj hm
  refine ⟨_, _, _, ResL.tmp rfl (ResL.nil), hS23944, ?_⟩
  exact rfl
  refine r_step rfl rfl (o_cmp rfl rfl (c_eql_F hp23968)) ?_
  refine xe 2 [(0, .bool false)] ?_
  refine rt ?_
  refine ⟨rfl, ?_⟩
  obtain rfl := Option.some.inj hm
  refine ⟨_, _, _, ResL.tmp rfl (ResL.nil), hS23944, ?_⟩
  exact rfl
  refine r_step rfl rfl (o_cmp rfl rfl (c_eql_F hp23958)) ?_
  refine xe 10 [(0, .bool false)] ?_
  refine rt ?_
  refine ⟨rfl, ?_⟩
  obtain rfl := Option.some.inj hm
  refine ⟨_, _, _, ResL.tmp rfl (ResL.nil), hS23944, ?_⟩
  exact rfl
  refine r_step rfl rfl (o_cmp rfl rfl (c_eql_F hp23948)) ?_
  refine xe 18 [(0, .bool false)] ?_
  refine rt ?_
  refine ⟨rfl, ?_⟩
  obtain rfl := Option.some.inj hm
  refine ⟨_, _, _, ResL.tmp rfl (ResL.nil), hS23944, ?_⟩
  exact rfl
  refine r_step rfl rfl (o_cmp rfl rfl (c_eql_F hp23947)) ?_
  refine xe 24 [(0, .bool false)] ?_
  refine rt ?_
  refine ⟨rfl, ?_⟩
  obtain rfl := Option.some.inj hm
  refine ⟨_, _, _, ResL.tmp rfl (ResL.nil), hS23944, ?_⟩
  exact rfl
  refine r_step rfl rfl (o_cmp rfl rfl (c_eql_F hp23946)) ?_
  refine xe 29 [(0, .bool false)] ?_
  refine rt ?_
  refine ⟨rfl, ?_⟩
  obtain rfl := Option.some.inj hm
  refine ⟨_, _, _, ResL.tmp rfl (ResL.nil), hS23944, ?_⟩
  exact rfl
  refine r_step rfl trivial (o_cmp rfl rfl (c_eql_F hp23945)) ?_
  refine xe 34 [(0, .bool false)] ?_
  refine rt ?_
  refine ⟨rfl, ?_⟩
  obtain rfl := Option.some.inj hm
  refine ⟨_, _, _, ResL.tmp rfl (ResL.nil), hS23944, ?_⟩
  exact rfl

def r9_0 : List COp := [u 4 (.assign (ci 0))]
def r9_1 : List COp := [u 6 (.move (t 0)), u 7 (.move (t 1)), u 8 (.binOp .rem 3 (t 6) (t 7) 3), u 5 (.assign (t 8))]
def r9_2 : List COp := [u 9 (.move (t 5)), u 10 (.binOp .lss 3 (t 9) (ci 0) 3)]
def r9_3 : List COp := [u 11 (.move (t 5)), u 12 (.move (t 1)), u 13 (.binOp .add 3 (t 11) (t 12) 3), u 5 (.assign (t 13))]
def r9_4 : List COp := [u 14 (.move (t 5)), u 4 (.assign (t 14))]
def correctorlaw11_within (F : Nat) (a0 : Int) (a1 : Int) : Option Int :=
  if ¬ a1 = (0 : Int) then
    ((if (a0.tmod a1) < (0 : Int) then
        some (w64 ((a0.tmod a1) + a1))
      else
        some (a0.tmod a1)) : Option Int).bind fun o => match o with
      | x23981 => some x23981
  else none
theorem correctorlaw11_within_ok (F : Nat) {h : AH} {Z : Zn} {a0 : Int} {a1 : Int} (hI : Inv Z h) {r : Int} (hm : correctorlaw11_within F a0 a1 = some r) :
    ∃ v h', callI Go.Proofs.Try.prog 9 [V a0, V a1] h = some (v, h') ∧ St h [] Z (0, 0) Z h' [] ∧ v = V r := by
  refine fn_plain (Q := fun v => v = V r) Go.Proofs.Try.func9 rfl rfl hI ?_
  intro hs hS
  unfold correctorlaw11_within at hm
  refine sr r9_0 ?_
  refine xe 1 [(0, V a0), (1, V a1)] ?_
  refine sr r9_1 ?_
  refine xq 2 [(7, V a1), (6, V a0), (1, V a1)] ?_
  obtain ⟨hc23975, hm⟩ := chk hm
  refine r_step rfl trivial (o_rem hc23975 rfl rfl) ?_
  refine xe 1 [(5, V (a0.tmod a1)), (1, V a1)] ?_
  refine sq ?_
  obtain ⟨o23978, ho23977, hm⟩ := obind hm
  refine W_seqJoin0 [5] (fun l h => ∃ Z23980 : Zn, ∃ x23981 : Int, x23981 = o23978 ∧ l = [(5, V x23981)] ∧ St hs [] Z (0, 0) Z23980 h []) (by kernel_rfl) ?_ ?_
  rintro l h23982 ⟨Z23980, x23981, rfl, rfl, hS23983⟩
  try dsimp only at hm
  refine sr r9_4 ?_
  refine xe 2 [(4, V x23981)] ?_
  refine rt ?_
  refine ⟨rfl, ?_⟩
  obtain rfl := Option.some.inj hm
  refine ⟨_, _, _, ResL.tmp rfl (ResL.nil), hS23983, ?_⟩
  exact rfl
  refine rg r9_2 ?_
  refine xq 1 [(9, V (a0.tmod a1)), (5, V (a0.tmod a1)), (1, V a1)] ?_
  rcases ifs ho23977 with ⟨hp23979, ho23977⟩ | ⟨hp23979, ho23977⟩
  refine r_step rfl trivial (o_cmp rfl rfl (c_lss_T hp23979)) ?_
  refine xf [(10, .bool true), (5, V (a0.tmod a1)), (1, V a1)] ?_
  refine cT 10 rfl ?_
  refine rg r9_3 ?_
  refine xe 4 [(5, V (w64 ((a0.tmod a1) + a1)))] ?_
  obtain rfl := Option.some.inj ho23977
  exact ⟨_, w64 ((a0.tmod a1) + a1), rfl, rfl, hS⟩
  refine r_step rfl trivial (o_cmp rfl rfl (c_lss_F hp23979)) ?_
  refine xf [(10, .bool false), (5, V (a0.tmod a1)), (1, V a1)] ?_
  refine kF 10 rfl ?_
  obtain rfl := Option.some.inj ho23977
  exact ⟨_, a0.tmod a1, rfl, rfl, hS⟩

def r13_0 : List COp := [u 2 (.alloc 29), u 3 (.assign (ci 0)), u 4 (.assign (ci 0)), u 5 (.assign (.const (.slice none 0 0))), u 6 (.assign (ci 0))]
def r13_1 : List COp := [u 13 (.move (t 0)), u 14 (.convert 9 24 (t 13)), u 7 (.assign (t 14))]
def r13_2 : List COp := [u 15 (.move (t 7)), u 16 (cf 10 #[(t 15)] #[24]), u 8 (.assign (t 16))]
def r13_3 : List COp := [u 18 (.move (t 7)), u 19 (.move (t 8)), u 20 (.move (t 8)), u 21 (cb .len #[(t 20)] #[25]), u 22 (cf 12 #[(t 21)] #[3]), u 23 (.move (t 8)), u 24 (cb .len #[(t 23)] #[25]), u 25 (cf 11 #[(t 18), (t 19), (t 22), (ci 0), (ci 0), (t 24), (ci 9)] #[24, 25, 29, 3, 3, 3, 3]), u 17 (.move (t 25)), u 26 (.extract (t 17) 0), u 27 (.extract (t 17) 1), u 28 (.extract (t 17) 2), u 29 (.extract (t 17) 3), u 9 (.alloc 29), o (.store 29 (t 9) (t 26)), u 10 (.assign (t 27)), u 11 (.assign (t 28)), u 12 (.assign (t 29))]
def r13_4 : List COp := [u 30 (.load 29 (t 9)), u 31 (.move (t 10)), u 32 (.move (t 11)), u 33 (.move (t 12)), u 34 (.move (t 8)), u 35 (cb .len #[(t 34)] #[25]), o (.store 29 (t 2) (t 30)), u 3 (.assign (t 31)), u 4 (.assign (t 32)), u 5 (.assign (t 33)), u 6 (.assign (t 35))]
def correctorlaw11_value (F : Nat) (a0 : Str) : Option (arena_Tree × Int × Int × (List api_Diag) × Int) :=
  (correctorref6_Tokens F a0.b).bind fun r24071 =>
  (arena_New F (r24071.length : Int)).bind fun r24085 =>
  (flow_Value F a0.b r24071 r24085 0 0 (r24071.length : Int) 9).bind fun r24107 =>
  some (r24107.1, r24107.2.1, r24107.2.2.1, r24107.2.2.2, (r24071.length : Int))
theorem correctorlaw11_value_ok (F : Nat) {h : AH} {Z : Zn} {a0 : Str} (hP : Pre Z h []) {r : arena_Tree × Int × Int × (List api_Diag) × Int} (hm : correctorlaw11_value F a0 = some r) :
    ∃ v h' Z' A', callI Go.Proofs.Try.prog 13 [.string ⟨⟨a0.b⟩⟩] h = some (v, h') ∧ St h (idsL []) Z (0, 0) Z' h' A' ∧ ∃ v24056 : Value, ∃ v24058 : Value, ∃ c24059 : List Value, .tuple #[.agg #[v24056], V r.2.1, V r.2.2.1, v24058, V r.2.2.2.2] = v ∧ A' = [.gs v24058 c24059 (csz api_Diag)] ∧ RS (α := api_Node) Z' v24056 r.1.Nodes ∧ RCs (α := api_Diag) Z' c24059 r.2.2.2.1 := by
  refine fn_intro (A := []) (Q := fun v Z' A' => ∃ v24056 : Value, ∃ v24058 : Value, ∃ c24059 : List Value, .tuple #[.agg #[v24056], V r.2.1, V r.2.2.1, v24058, V r.2.2.2.2] = v ∧ A' = [.gs v24058 c24059 (csz api_Diag)] ∧ RS (α := api_Node) Z' v24056 r.1.Nodes ∧ RCs (α := api_Diag) Z' c24059 r.2.2.2.1) Go.Proofs.Try.func13 rfl rfl (by kernel_rfl) hP ?_
  intro hs hS
  unfold correctorlaw11_value at hm
  replace hS : St hs [] Z (0, 0) Z hs [] := hS
  refine sr r13_0 ?_
  refine r_blk rfl trivial (o_alloc (cs := [.slice none 0 0]) (by kernel_rfl)) hS ?_
  intro b24060 h24061 hS24062
  refine xe 4 [(2, Pt b24060 0), (0, .string ⟨⟨a0.b⟩⟩)] ?_
  refine sr r13_1 ?_
  refine xq 1 [(13, .string ⟨⟨a0.b⟩⟩), (2, Pt b24060 0)] ?_
  obtain ⟨v24063, h24064, Z24066, ho24069, hZ24067, q24068, hS24065, lw24070⟩ := o_tobytes (P := Go.Proofs.Try.prog) (l := [(13, .string ⟨⟨a0.b⟩⟩), (2, Pt b24060 0)]) (s := 9) (d := 24) (x := .tmp 13) (bs := a0.b) hS24062 rfl (by kernel_rfl)
  refine r_step rfl trivial ho24069 ?_
  refine xe 1 [(7, v24063), (2, Pt b24060 0)] ?_
  refine sr r13_2 ?_
  refine xq 1 [(15, v24063), (7, v24063), (2, Pt b24060 0)] ?_
  obtain ⟨r24071, hx24072, hm⟩ := obind hm
  have hSr24078 : St _ _ _ _ _ _ ([] ++ [.blk b24060 [.slice none 0 0]]) := hS24065
  obtain ⟨v24073, h24074, Z24079, A24081, hcl24075, hSc24076, v24083, c24084, rfl, rfl, q24082⟩ := correctorref6_Tokens_ok F hSr24078.preL q24068 hx24072
  have hS24077 := hSr24078.call hSc24076
  have hZ24080 := hSc24076.zle
  replace hS24077 : St _ _ _ _ _ _ [.gs v24083 c24084 (csz api_Token), .blk b24060 [.slice none 0 0]] := hS24077
  refine r_step rfl trivial (o_call hcl24075 rfl rfl rfl) ?_
  refine xe 1 [(8, v24083), (7, v24063), (2, Pt b24060 0)] ?_
  refine sr r13_3 ?_
  refine xq 3 [(20, v24083), (19, v24083), (18, v24063), (8, v24083), (2, Pt b24060 0)] ?_
  refine r_step rfl trivial (o_len rfl (hS24077.glen (i := 0) rfl q24082) ⟨_, Go.Proofs.Try.underlying25⟩) ?_
  obtain ⟨r24085, hx24086, hm⟩ := obind hm
  have hSr24092 : St _ _ _ _ _ _ ([] ++ [.gs v24083 c24084 (csz api_Token), .blk b24060 [.slice none 0 0]]) := hS24077
  obtain ⟨v24087, h24088, Z24093, A24095, hcl24089, hSc24090, v24097, c24098, rfl, rfl, q24096⟩ := arena_New_ok F hSr24092.preL  hx24086
  have hS24091 := hSr24092.call hSc24090
  have hZ24094 := hSc24090.zle
  replace hS24091 : St _ _ _ _ _ _ [.gs v24097 c24098 (csz api_Node), .gs v24083 c24084 (csz api_Token), .blk b24060 [.slice none 0 0]] := hS24091
  refine r_step rfl trivial (o_call hcl24089 rfl rfl rfl) ?_
  refine xq 1 [(23, v24083), (22, .agg #[v24097]), (19, v24083), (18, v24063), (8, v24083), (2, Pt b24060 0)] ?_
  refine r_step rfl trivial (o_len rfl (hS24091.glen (i := 1) rfl (q24082.mono hZ24094)) ⟨_, Go.Proofs.Try.underlying25⟩) ?_
  obtain ⟨Z24099, hZ24100, q24101, hS24102⟩ := (hS24091.front 1 rfl).freeze (q24082.mono hZ24094)
  replace hS24102 : St _ _ _ _ _ _ [.gs v24097 c24098 (csz api_Node), .blk b24060 [.slice none 0 0]] := hS24102
  obtain ⟨Z24103, hZ24104, q24105, hS24106⟩ := (hS24102.front 0 rfl).freeze (q24096.mono hZ24100)
  replace hS24106 : St _ _ _ _ _ _ [.blk b24060 [.slice none 0 0]] := hS24106
  obtain ⟨r24107, hx24108, hm⟩ := obind hm
  have hSr24114 : St _ _ _ _ _ _ ([] ++ [.blk b24060 [.slice none 0 0]]) := hS24106
  obtain ⟨v24109, h24110, Z24115, A24117, hcl24111, hSc24112, v24119, v24121, c24122, rfl, rfl, q24118, q24120⟩ := flow_Value_ok F hSr24114.preL (q24068.mono (hZ24080.trans (hZ24094.trans (hZ24100.trans hZ24104)))) (q24101.mono hZ24104) q24105 hx24108
  have hS24113 := hSr24114.call hSc24112
  have hZ24116 := hSc24112.zle
  replace hS24113 : St _ _ _ _ _ _ [.gs v24121 c24122 (csz api_Diag), .blk b24060 [.slice none 0 0]] := hS24113
  refine r_step rfl trivial (o_call hcl24111 rfl rfl rfl) ?_
  refine xq 5 [(29, v24121), (28, V r24107.2.2.1), (27, V r24107.2.1), (26, .agg #[v24119]), (8, v24083), (2, Pt b24060 0)] ?_
  refine r_blk rfl trivial (o_alloc (cs := [.slice none 0 0]) (by kernel_rfl)) hS24113 ?_
  intro b24123 h24124 hS24125
  refine r_ex1 rfl trivial (o_stb (vs := [v24119]) (cells' := [v24119]) (L' := [.blk b24123 [v24119], .gs v24121 c24122 (csz api_Diag), .blk b24060 [.slice none 0 0]]) hS24125 (i := 0) rfl rfl rfl rfl (by kernel_rfl) (one_cons (RS.one1 q24118) one_nil) rfl rfl rfl) ?_
  intro h24126 hS24127
  refine xe 3 [(12, v24121), (11, V r24107.2.2.1), (10, V r24107.2.1), (9, Pt b24123 0), (8, v24083), (2, Pt b24060 0)] ?_
  refine sr r13_4 ?_
  refine r_step rfl trivial (o_ldb (v := .agg #[v24119]) hS24127 (i := 0) rfl rfl (by kernel_rfl)) ?_
  refine xq 4 [(34, v24083), (33, v24121), (32, V r24107.2.2.1), (31, V r24107.2.1), (30, .agg #[v24119]), (2, Pt b24060 0)] ?_
  refine r_step rfl trivial (o_len rfl (RS.len (q24101.mono (hZ24104.trans hZ24116))) ⟨_, Go.Proofs.Try.underlying25⟩) ?_
  refine r_ex1 rfl trivial (o_stb (vs := [v24119]) (cells' := [v24119]) (L' := [.blk b24123 [v24119], .gs v24121 c24122 (csz api_Diag), .blk b24060 [v24119]]) hS24127 (i := 2) rfl rfl rfl rfl (by kernel_rfl) (one_cons (RS.one1 q24118) one_nil) rfl rfl rfl) ?_
  intro h24128 hS24129
  refine xe 4 [(6, V (r24071.length : Int)), (5, v24121), (4, V r24107.2.2.1), (3, V r24107.2.1), (2, Pt b24060 0)] ?_
  refine rt ?_
  refine ⟨rfl, ?_⟩
  obtain rfl := Option.some.inj hm
  refine ⟨_, _, _, ResL.cell (v := .agg #[v24119]) rfl hS24129 (i := 2) rfl (by kernel_rfl) (ResL.tmp rfl (ResL.tmp rfl (ResL.tmp rfl (ResL.tmp rfl (ResL.nil))))), ((hS24129.front 1 rfl).takeN 1), ?_⟩
  exact ⟨v24119, v24121, c24122, rfl, rfl, q24118, q24120⟩

end Go.Proofs.Ytahcngeimlkcgaa.M
