/- Printed by a program of this session: Go functions as Lean functions over plain data, and that the calls come to them. -/
import Derived.Test.YtcnbcimnfeekjaaSyJ
import Derived.Test.YtcnbcimnfeekjaaChecked
import Derived.KernelRfl
namespace Go.Proofs.Ytcnbcimnfeekjaa.M
open Go Am Sy
open Sy.Cell (rc)
set_option linter.unusedVariables false
set_option linter.unusedSimpArgs false
set_option maxRecDepth 20000

structure api_Token where
  Kind : Int
  From : Int
  To : Int
  deriving DecidableEq, Inhabited
instance : Cell api_Token where
  size := 3
  rc Z cs x := cs = [V x.Kind, V x.From, V x.To]
  len h := by rw [h]; rfl
  mono _ h := h
  one h := by rw [h]; rfl
  pos := by decide
theorem rc_api_Token {Z : Zn} {cs : List Value} {x : api_Token} (h : rc Z cs x) : cs = [V x.Kind, V x.From, V x.To] := h
abbrev K45 (x : api_Token) : List Value := [V x.Kind, V x.From, V x.To]
structure correctorref6_scanner where
  B : List UInt8
  At : Int
  Row : Int
  Open : Int
  Base : Int
  Only : Bool
  Text : Int
  L : List api_Token
  deriving DecidableEq, Inhabited
instance : Cell correctorref6_scanner where
  size := 8
  rc Z cs x := ∃ v0, RS (α := UInt8) Z v0 x.B ∧ ∃ v7, RS (α := api_Token) Z v7 x.L ∧ cs = [v0, V x.At, V x.Row, V x.Open, V x.Base, .bool x.Only, V x.Text, v7]
  len h := by obtain ⟨v0, qv0, v7, qv7, h⟩ := h; rw [h]; rfl
  mono hz h := by obtain ⟨v0, qv0, v7, qv7, h⟩ := h; exact ⟨v0, qv0.mono hz, v7, qv7.mono hz, h⟩
  one h := by obtain ⟨v0, qv0, v7, qv7, h⟩ := h; subst h; exact (one_cons qv0.one1 (one_cons rfl (one_cons rfl (one_cons rfl (one_cons rfl (one_cons rfl (one_cons rfl (one_cons qv7.one1 one_nil))))))))
  pos := by decide
theorem rc_correctorref6_scanner {Z : Zn} {cs : List Value} {x : correctorref6_scanner} (h : rc Z cs x) : ∃ v0, RS (α := UInt8) Z v0 x.B ∧ ∃ v7, RS (α := api_Token) Z v7 x.L ∧ cs = [v0, V x.At, V x.Row, V x.Open, V x.Base, .bool x.Only, V x.Text, v7] := h
abbrev K54 (v0 v1 : Value) (x : correctorref6_scanner) : List Value := [v0, V x.At, V x.Row, V x.Open, V x.Base, .bool x.Only, V x.Text, v1]

def r19_0 : List COp := [u 2 (.move (t 0)), u 3 (.move (t 0)), u 4 (.move (t 0)), u 5 (.move (t 0)), u 6 (.nilCheck (t 5)), u 7 (.fieldAddr 54 (t 6) 1), u 8 (.load 3 (t 7)), u 9 (.nilCheck (t 2)), u 10 (.fieldAddr 54 (t 9) 2), o (.store 3 (t 10) (t 8)), u 11 (.nilCheck (t 3)), u 12 (.fieldAddr 54 (t 11) 4), o (.store 3 (t 12) (ci (-1))), u 13 (.nilCheck (t 4)), u 14 (.fieldAddr 54 (t 13) 5), o (.store 4 (t 14) (.const (.bool true)))]
def correctorref6_scanner_next (F : Nat) (a0 : correctorref6_scanner) : Option correctorref6_scanner :=
  some (⟨a0.B, a0.At, a0.At, a0.Open, (-1), true, a0.Text, a0.L⟩ : correctorref6_scanner)
theorem correctorref6_scanner_next_ok (F : Nat) {h : AH} {Z : Zn} {a0 : correctorref6_scanner} {b9 : Nat} {v11 : Value} {v13 : Value} {c14 : List Value} (hP : Pre Z h [.blk b9 (K54 v11 v13 a0), .gs v13 c14 (csz api_Token)]) (q10 : RS (α := UInt8) Z v11 a0.B) (q12 : RCs (α := api_Token) Z c14 a0.L) {r : correctorref6_scanner} (hm : correctorref6_scanner_next F a0 = some r) :
    ∃ v h' Z' A', callI Go.Proofs.Try.prog 19 [Pt b9 0] h = some (v, h') ∧ St h (idsL [.blk b9 (K54 v11 v13 a0), .gs v13 c14 (csz api_Token)]) Z (0, 0) Z' h' A' ∧ ∃ v22 : Value, ∃ c24 : List Value, .tuple #[] = v ∧ A' = [.blk b9 (K54 v22 v13 r), .gs v13 c24 (csz api_Token)] ∧ RS (α := UInt8) Z' v22 r.B ∧ RCs (α := api_Token) Z' c24 r.L := by
  refine fn_intro (A := [.blk b9 (K54 v11 v13 a0), .gs v13 c14 (csz api_Token)]) (Q := fun v Z' A' => ∃ v22 : Value, ∃ c24 : List Value, .tuple #[] = v ∧ A' = [.blk b9 (K54 v22 v13 r), .gs v13 c24 (csz api_Token)] ∧ RS (α := UInt8) Z' v22 r.B ∧ RCs (α := api_Token) Z' c24 r.L) Go.Proofs.Try.func19 rfl rfl (by kernel_rfl) hP ?_
  intro hs hS
  unfold correctorref6_scanner_next at hm
  refine rg r19_0 ?_
  refine xq 6 [(7, Pt b9 1), (4, Pt b9 0), (3, Pt b9 0), (2, Pt b9 0)] ?_
  refine r_step rfl trivial (o_ldb (v := V a0.At) hS (i := 0) rfl rfl (by kernel_rfl)) ?_
  refine xq 2 [(10, Pt b9 2), (8, V a0.At), (4, Pt b9 0), (3, Pt b9 0)] ?_
  refine r_ex1 rfl trivial (o_stb (vs := [V a0.At]) (cells' := [v11, V a0.At, V a0.At, V a0.Open, V a0.Base, .bool a0.Only, V a0.Text, v13]) (L' := [.blk b9 [v11, V a0.At, V a0.At, V a0.Open, V a0.Base, .bool a0.Only, V a0.Text, v13], .gs v13 c14 (csz api_Token)]) hS (i := 0) rfl rfl rfl rfl (by kernel_rfl) rfl rfl rfl rfl) ?_
  intro h25 hS26
  refine xq 2 [(12, Pt b9 4), (4, Pt b9 0)] ?_
  refine r_ex1 rfl trivial (o_stb (vs := [V (-1)]) (cells' := [v11, V a0.At, V a0.At, V a0.Open, V (-1), .bool a0.Only, V a0.Text, v13]) (L' := [.blk b9 [v11, V a0.At, V a0.At, V a0.Open, V (-1), .bool a0.Only, V a0.Text, v13], .gs v13 c14 (csz api_Token)]) hS26 (i := 0) rfl rfl rfl rfl (by kernel_rfl) rfl rfl rfl rfl) ?_
  intro h27 hS28
  refine xq 2 [(14, Pt b9 5)] ?_
  refine r_ex1 rfl trivial (o_stb (vs := [.bool true]) (cells' := [v11, V a0.At, V a0.At, V a0.Open, V (-1), .bool true, V a0.Text, v13]) (L' := [.blk b9 [v11, V a0.At, V a0.At, V a0.Open, V (-1), .bool true, V a0.Text, v13], .gs v13 c14 (csz api_Token)]) hS28 (i := 0) rfl rfl rfl rfl (by kernel_rfl) rfl rfl rfl rfl) ?_
  intro h29 hS30
  refine xf [] ?_
  obtain rfl := Option.some.inj hm
  refine ⟨_, _, _, ResL.nil, hS30, ?_⟩
  exact ⟨v11, c14, rfl, rfl, q10, q12⟩

def r38_0 : List COp := [u 4 (.assign (.const (.int .u8 0)))]
def r38_1 : List COp := [u 5 (.move (t 1)), u 6 (.binOp .lss 3 (t 5) (ci 0) 3), u 7 (.move (t 6)), gN 7 (some 8) (.move (t 1)), gN 7 (some 9) (.move (t 0)), gN 7 (some 10) (.nilCheck (t 9)), gN 7 (some 11) (.fieldAddr 54 (t 10) 0), gN 7 (some 12) (.load 23 (t 11)), gN 7 (some 13) (cb .len #[(t 12)] #[23]), gN 7 (some 14) (.binOp .geq 3 (t 8) (t 13) 3), u 15 (.pick (t 7) (.const (.bool true)) (t 14))]
def r38_2 : List COp := [u 4 (.assign (.const (.int .u8 0)))]
def r38_3 : List COp := [u 16 (.move (t 0)), u 17 (.nilCheck (t 16)), u 18 (.fieldAddr 54 (t 17) 0), u 19 (.load 23 (t 18)), u 20 (.move (t 1)), u 21 (.indexAddr 23 (t 19) (t 20)), u 22 (.load 5 (t 21)), u 4 (.assign (t 22))]
def correctorref6_scanner_byteAt (F : Nat) (a0 : correctorref6_scanner) (a1 : Int) : Option Int :=
  if a1 < (0 : Int) then
    some 0
  else
    if (a0.B.length : Int) ≤ a1 then
      some 0
    else
      if 0 ≤ a1 ∧ a1 < (a0.B.length : Int) then
        (a0.B[a1.toNat]?).bind fun x97 =>
        some (x97.toNat : Int)
      else none
theorem correctorref6_scanner_byteAt_ok (F : Nat) {h : AH} {Z : Zn} {a0 : correctorref6_scanner} {a1 : Int} {b75 : Nat} {v77 : Value} {v79 : Value} {c80 : List Value} (hP : Pre Z h [.blk b75 (K54 v77 v79 a0), .gs v79 c80 (csz api_Token)]) (q76 : RS (α := UInt8) Z v77 a0.B) (q78 : RCs (α := api_Token) Z c80 a0.L) {r : Int} (hm : correctorref6_scanner_byteAt F a0 a1 = some r) :
    ∃ v h' Z' A', callI Go.Proofs.Try.prog 38 [Pt b75 0, V a1] h = some (v, h') ∧ St h (idsL [.blk b75 (K54 v77 v79 a0), .gs v79 c80 (csz api_Token)]) Z (0, 0) Z' h' A' ∧ .int .u8 (r.toNat : Int) = v ∧ A' = [.blk b75 (K54 v77 v79 a0), .gs v79 c80 (csz api_Token)] := by
  refine fn_intro (A := [.blk b75 (K54 v77 v79 a0), .gs v79 c80 (csz api_Token)]) (Q := fun v Z' A' => .int .u8 (r.toNat : Int) = v ∧ A' = [.blk b75 (K54 v77 v79 a0), .gs v79 c80 (csz api_Token)]) Go.Proofs.Try.func38 rfl rfl (by kernel_rfl) hP ?_
  intro hs hS
  unfold correctorref6_scanner_byteAt at hm
  refine sr r38_0 ?_
  refine xe 1 [(0, Pt b75 0), (1, V a1)] ?_
  refine sq ?_
  refine sr r38_1 ?_
  refine xq 1 [(5, V a1), (0, Pt b75 0), (1, V a1)] ?_
  rcases ifs hm with ⟨hp94, hm⟩ | ⟨hp94, hm⟩
  refine r_step rfl trivial (o_cmp rfl rfl (c_lss_T hp94)) ?_
  refine xe 9 [(15, .bool true), (0, Pt b75 0), (1, V a1)] ?_
  refine cT 15 rfl ?_
  refine sr r38_2 ?_
  refine xe 1 [(4, .int .u8 0)] ?_
  refine rt ?_
  refine ⟨rfl, ?_⟩
  obtain rfl := Option.some.inj hm
  refine ⟨_, _, _, ResL.tmp rfl (ResL.nil), hS, ?_⟩
  exact ⟨rfl, rfl⟩
  refine r_step rfl trivial (o_cmp rfl rfl (c_lss_F hp94)) ?_
  refine xq 5 [(11, Pt b75 0), (8, V a1), (7, .bool false), (0, Pt b75 0), (1, V a1)] ?_
  refine r_step rfl rfl (o_ldb (v := v77) hS (i := 0) rfl rfl (by kernel_rfl)) ?_
  refine r_step rfl rfl (o_len rfl (RS.len q76) ⟨_, Go.Proofs.Try.underlying23⟩) ?_
  rcases ifs hm with ⟨hp95, hm⟩ | ⟨hp95, hm⟩
  refine r_step rfl rfl (o_cmp rfl rfl (c_geq_T hp95)) ?_
  refine xe 1 [(15, .bool true), (0, Pt b75 0), (1, V a1)] ?_
  refine cT 15 rfl ?_
  refine sr r38_2 ?_
  refine xe 1 [(4, .int .u8 0)] ?_
  refine rt ?_
  refine ⟨rfl, ?_⟩
  obtain rfl := Option.some.inj hm
  refine ⟨_, _, _, ResL.tmp rfl (ResL.nil), hS, ?_⟩
  exact ⟨rfl, rfl⟩
  refine r_step rfl rfl (o_cmp rfl rfl (c_geq_F hp95)) ?_
  refine xe 1 [(15, .bool false), (0, Pt b75 0), (1, V a1)] ?_
  refine kF 15 rfl ?_
  refine sr r38_3 ?_
  refine xq 3 [(18, Pt b75 0), (1, V a1)] ?_
  refine r_step rfl trivial (o_ldb (v := v77) hS (i := 0) rfl rfl (by kernel_rfl)) ?_
  refine xq 1 [(20, V a1), (19, v77)] ?_
  obtain ⟨hc96, hm⟩ := chk hm
  refine r_step rfl trivial (o_index rfl rfl (by kernel_rfl : slTy _ _ = some (csz UInt8)) (RS.based q76 (by omega)) hc96.1 hc96.2) ?_
  obtain ⟨x97, hx98, hm⟩ := obind hm
  obtain ⟨cs99, hc100, he101⟩ := RS.elz q76 (i := a1) hx98
  obtain rfl := rc_UInt8 hc100
  refine r_step rfl trivial (o_lde (w := .int .u8 (x97.toNat : Int)) (he101 _ (hS.zin0 (Zle.refl _))) rfl (by kernel_rfl)) ?_
  refine xe 1 [(4, .int .u8 (x97.toNat : Int))] ?_
  refine rt ?_
  refine ⟨rfl, ?_⟩
  obtain rfl := Option.some.inj hm
  refine ⟨_, _, _, ResL.tmp rfl (ResL.nil), hS, ?_⟩
  exact ⟨rfl, rfl⟩

def r42_0 : List COp := [u 2 (.assign (.const (.bool false)))]
def r42_1 : List COp := [u 3 (.move (t 0)), u 4 (.binOp .eql 5 (t 3) (.const (.int .u8 32)) 5), u 5 (.move (t 4)), gN 5 (some 6) (.move (t 0)), gN 5 (some 7) (.binOp .eql 5 (t 6) (.const (.int .u8 9)) 5), u 8 (.pick (t 5) (.const (.bool true)) (t 7)), u 2 (.assign (t 8))]
def correctorref5_Blank (F : Nat) (a0 : Int) : Option Bool :=
  if a0 = (32 : Int) then
    some true
  else
    if a0 = (9 : Int) then
      some true
    else
      some false
theorem correctorref5_Blank_ok (F : Nat) {h : AH} {Z : Zn} {a0 : Int} (hI : Inv Z h) {r : Bool} (hm : correctorref5_Blank F a0 = some r) :
    ∃ v h', callI Go.Proofs.Try.prog 42 [.int .u8 a0] h = some (v, h') ∧ St h [] Z (0, 0) Z h' [] ∧ v = .bool r := by
  refine fn_plain (Q := fun v => v = .bool r) Go.Proofs.Try.func42 rfl rfl hI ?_
  intro hs hS
  unfold correctorref5_Blank at hm
  refine sr r42_0 ?_
  refine xe 1 [(0, .int .u8 a0)] ?_
  refine sr r42_1 ?_
  refine xq 1 [(3, .int .u8 a0), (0, .int .u8 a0)] ?_
  rcases ifs hm with ⟨hp147, hm⟩ | ⟨hp147, hm⟩
  refine r_step rfl trivial (o_cmp rfl rfl (c_eql_T hp147)) ?_
  refine xe 5 [(2, .bool true)] ?_
  refine rt ?_
  refine ⟨rfl, ?_⟩
  obtain rfl := Option.some.inj hm
  refine ⟨_, _, _, ResL.tmp rfl (ResL.nil), hS, ?_⟩
  exact rfl
  refine r_step rfl trivial (o_cmp rfl rfl (c_eql_F hp147)) ?_
  refine xq 2 [(6, .int .u8 a0), (5, .bool false)] ?_
  rcases ifs hm with ⟨hp148, hm⟩ | ⟨hp148, hm⟩
  refine r_step rfl rfl (o_cmp rfl rfl (c_eql_T hp148)) ?_
  refine xe 2 [(2, .bool true)] ?_
  refine rt ?_
  refine ⟨rfl, ?_⟩
  obtain rfl := Option.some.inj hm
  refine ⟨_, _, _, ResL.tmp rfl (ResL.nil), hS, ?_⟩
  exact rfl
  refine r_step rfl rfl (o_cmp rfl rfl (c_eql_F hp148)) ?_
  refine xe 2 [(2, .bool false)] ?_
  refine rt ?_
  refine ⟨rfl, ?_⟩
  obtain rfl := Option.some.inj hm
  refine ⟨_, _, _, ResL.tmp rfl (ResL.nil), hS, ?_⟩
  exact rfl

def r40_0 : List COp := [u 4 (.assign (ci 0))]
def r40_1 : List COp := [u 5 (.move (t 1)), u 6 (.move (t 0)), u 7 (cb .len #[(t 6)] #[23]), u 8 (.binOp .geq 3 (t 5) (t 7) 3)]
def r40_2 : List COp := [u 4 (.assign (ci 0))]
def r40_3 : List COp := [u 9 (.move (t 0)), u 10 (.move (t 1)), u 11 (.indexAddr 23 (t 9) (t 10)), u 12 (.load 5 (t 11)), u 13 (.binOp .eql 5 (t 12) (.const (.int .u8 13)) 5), u 14 (.move (t 13)), gT 14 (some 15) (.move (t 1)), gT 14 (some 16) (.binOp .add 3 (t 15) (ci 1) 3), gT 14 (some 17) (.move (t 0)), gT 14 (some 18) (cb .len #[(t 17)] #[23]), gT 14 (some 19) (.binOp .lss 3 (t 16) (t 18) 3), u 20 (.pick (t 14) (t 19) (.const (.bool false))), u 21 (.move (t 20)), gT 21 (some 22) (.move (t 0)), gT 21 (some 23) (.move (t 1)), gT 21 (some 24) (.binOp .add 3 (t 23) (ci 1) 3), gT 21 (some 25) (.indexAddr 23 (t 22) (t 24)), gT 21 (some 26) (.load 5 (t 25)), gT 21 (some 27) (.binOp .eql 5 (t 26) (.const (.int .u8 10)) 5), u 28 (.pick (t 21) (t 27) (.const (.bool false)))]
def r40_4 : List COp := [u 4 (.assign (ci 2))]
def r40_5 : List COp := [u 29 (.move (t 0)), u 30 (.move (t 1)), u 31 (.indexAddr 23 (t 29) (t 30)), u 32 (.load 5 (t 31)), u 33 (.binOp .eql 5 (t 32) (.const (.int .u8 13)) 5), u 34 (.move (t 33)), gN 34 (some 35) (.move (t 0)), gN 34 (some 36) (.move (t 1)), gN 34 (some 37) (.indexAddr 23 (t 35) (t 36)), gN 34 (some 38) (.load 5 (t 37)), gN 34 (some 39) (.binOp .eql 5 (t 38) (.const (.int .u8 10)) 5), u 40 (.pick (t 34) (.const (.bool true)) (t 39))]
def r40_6 : List COp := [u 4 (.assign (ci 1))]
def r40_7 : List COp := [u 4 (.assign (ci 0))]
def correctorref2_Break (F : Nat) (a0 : List UInt8) (a1 : Int) : Option Int :=
  if (a0.length : Int) ≤ a1 then
    some 0
  else
    ((if 0 ≤ a1 ∧ a1 < (a0.length : Int) then
        (a0[a1.toNat]?).bind fun x237 =>
        if (x237.toNat : Int) = (13 : Int) then
          if (w64 (a1 + 1)) < (a0.length : Int) then
            if 0 ≤ (w64 (a1 + 1)) ∧ (w64 (a1 + 1)) < (a0.length : Int) then
              (a0[(w64 (a1 + 1)).toNat]?).bind fun x246 =>
              if (x246.toNat : Int) = (10 : Int) then
                some (.inr 2)
              else
                some (.inl ())
            else none
          else
            some (.inl ())
        else
          some (.inl ())
      else none) : Option (Sum Unit Int)).bind fun o => match o with
      | .inl () => if 0 ≤ a1 ∧ a1 < (a0.length : Int) then
        (a0[a1.toNat]?).bind fun x273 =>
        if (x273.toNat : Int) = (13 : Int) then
          some 1
        else
          if 0 ≤ a1 ∧ a1 < (a0.length : Int) then
            (a0[a1.toNat]?).bind fun x281 =>
            if (x281.toNat : Int) = (10 : Int) then
              some 1
            else
              some 0
          else none
      else none
      | .inr y => some y
theorem correctorref2_Break_ok (F : Nat) {h : AH} {Z : Zn} {a0 : List UInt8} {a1 : Int} {v158 : Value} (hI : Inv Z h) (q157 : RS (α := UInt8) Z v158 a0) {r : Int} (hm : correctorref2_Break F a0 a1 = some r) :
    ∃ v h', callI Go.Proofs.Try.prog 40 [v158, V a1] h = some (v, h') ∧ St h [] Z (0, 0) Z h' [] ∧ v = V r := by
  refine fn_plain (Q := fun v => v = V r) Go.Proofs.Try.func40 rfl rfl hI ?_
  intro hs hS
  unfold correctorref2_Break at hm
  refine sr r40_0 ?_
  refine xe 1 [(0, v158), (1, V a1)] ?_
  refine sq ?_
  refine sr r40_1 ?_
  refine xq 2 [(6, v158), (5, V a1), (0, v158), (1, V a1)] ?_
  refine r_step rfl trivial (o_len rfl (RS.len q157) ⟨_, Go.Proofs.Try.underlying23⟩) ?_
  rcases ifs hm with ⟨hp216, hm⟩ | ⟨hp216, hm⟩
  refine r_step rfl trivial (o_cmp rfl rfl (c_geq_T hp216)) ?_
  refine xf [(8, .bool true), (0, v158), (1, V a1)] ?_
  refine cT 8 rfl ?_
  refine sr r40_2 ?_
  refine xe 1 [(4, V 0)] ?_
  refine rt ?_
  refine ⟨rfl, ?_⟩
  obtain rfl := Option.some.inj hm
  refine ⟨_, _, _, ResL.tmp rfl (ResL.nil), hS, ?_⟩
  exact rfl
  refine r_step rfl trivial (o_cmp rfl rfl (c_geq_F hp216)) ?_
  refine xf [(8, .bool false), (0, v158), (1, V a1)] ?_
  refine kF 8 rfl ?_
  refine sq ?_
  obtain ⟨o235, ho234, hm⟩ := obind hm
  refine W_join [0, 1] (fun l h => ∃ Z253 : Zn, .inl () = o235 ∧ l = [(0, v158), (1, V a1)] ∧ St hs [] Z (0, 0) Z253 h []) ?_ ?_
  rintro l h254 ⟨Z253, rfl, rfl, hS255⟩
  try dsimp only at hm
  refine sq ?_
  refine sr r40_5 ?_
  refine xq 2 [(30, V a1), (29, v158), (0, v158), (1, V a1)] ?_
  obtain ⟨hc272, hm⟩ := chk hm
  refine r_step rfl trivial (o_index rfl rfl (by kernel_rfl : slTy _ _ = some (csz UInt8)) (RS.based (q157.mono hS255.zle) (by omega)) hc272.1 hc272.2) ?_
  obtain ⟨x273, hx274, hm⟩ := obind hm
  obtain ⟨cs275, hc276, he277⟩ := RS.elz (q157.mono hS255.zle) (i := a1) hx274
  obtain rfl := rc_UInt8 hc276
  refine r_step rfl trivial (o_lde (w := .int .u8 (x273.toNat : Int)) (he277 _ (hS255.zin0 (Zle.refl _))) rfl (by kernel_rfl)) ?_
  rcases ifs hm with ⟨hp279, hm⟩ | ⟨hp279, hm⟩
  refine r_step rfl trivial (o_cmp rfl rfl (c_eql_T hp279)) ?_
  refine xe 7 [(40, .bool true)] ?_
  refine cT 40 rfl ?_
  refine sr r40_6 ?_
  refine xe 1 [(4, V 1)] ?_
  refine rt ?_
  refine ⟨rfl, ?_⟩
  obtain rfl := Option.some.inj hm
  refine ⟨_, _, _, ResL.tmp rfl (ResL.nil), hS255, ?_⟩
  exact rfl
  refine r_step rfl trivial (o_cmp rfl rfl (c_eql_F hp279)) ?_
  refine xq 3 [(36, V a1), (35, v158), (34, .bool false)] ?_
  obtain ⟨hc280, hm⟩ := chk hm
  refine r_step rfl rfl (o_index rfl rfl (by kernel_rfl : slTy _ _ = some (csz UInt8)) (RS.based (q157.mono hS255.zle) (by omega)) hc280.1 hc280.2) ?_
  obtain ⟨x281, hx282, hm⟩ := obind hm
  obtain ⟨cs283, hc284, he285⟩ := RS.elz (q157.mono hS255.zle) (i := a1) hx282
  obtain rfl := rc_UInt8 hc284
  refine r_step rfl rfl (o_lde (w := .int .u8 (x281.toNat : Int)) (he285 _ (hS255.zin0 (Zle.refl _))) rfl (by kernel_rfl)) ?_
  rcases ifs hm with ⟨hp287, hm⟩ | ⟨hp287, hm⟩
  refine r_step rfl rfl (o_cmp rfl rfl (c_eql_T hp287)) ?_
  refine xe 1 [(40, .bool true)] ?_
  refine cT 40 rfl ?_
  refine sr r40_6 ?_
  refine xe 1 [(4, V 1)] ?_
  refine rt ?_
  refine ⟨rfl, ?_⟩
  obtain rfl := Option.some.inj hm
  refine ⟨_, _, _, ResL.tmp rfl (ResL.nil), hS255, ?_⟩
  exact rfl
  refine r_step rfl rfl (o_cmp rfl rfl (c_eql_F hp287)) ?_
  refine xe 1 [(40, .bool false)] ?_
  refine kF 40 rfl ?_
  refine sr r40_7 ?_
  refine xe 1 [(4, V 0)] ?_
  refine rt ?_
  refine ⟨rfl, ?_⟩
  obtain rfl := Option.some.inj hm
  refine ⟨_, _, _, ResL.tmp rfl (ResL.nil), hS255, ?_⟩
  exact rfl
  refine sr r40_3 ?_
  refine xq 2 [(10, V a1), (9, v158), (0, v158), (1, V a1)] ?_
  obtain ⟨hc236, ho234⟩ := chk ho234
  refine r_step rfl trivial (o_index rfl rfl (by kernel_rfl : slTy _ _ = some (csz UInt8)) (RS.based q157 (by omega)) hc236.1 hc236.2) ?_
  obtain ⟨x237, hx238, ho234⟩ := obind ho234
  obtain ⟨cs239, hc240, he241⟩ := RS.elz q157 (i := a1) hx238
  obtain rfl := rc_UInt8 hc240
  refine r_step rfl trivial (o_lde (w := .int .u8 (x237.toNat : Int)) (he241 _ (hS.zin0 (Zle.refl _))) rfl (by kernel_rfl)) ?_
  rcases ifs ho234 with ⟨hp243, ho234⟩ | ⟨hp243, ho234⟩
  refine r_step rfl trivial (o_cmp rfl rfl (c_eql_T hp243)) ?_
  refine xq 4 [(17, v158), (16, V (w64 (a1 + 1))), (14, .bool true), (0, v158), (1, V a1)] ?_
  refine r_step rfl rfl (o_len rfl (RS.len q157) ⟨_, Go.Proofs.Try.underlying23⟩) ?_
  rcases ifs ho234 with ⟨hp244, ho234⟩ | ⟨hp244, ho234⟩
  refine r_step rfl rfl (o_cmp rfl rfl (c_lss_T hp244)) ?_
  refine xq 5 [(24, V (w64 (a1 + 1))), (22, v158), (21, .bool true), (0, v158), (1, V a1)] ?_
  obtain ⟨hc245, ho234⟩ := chk ho234
  refine r_step rfl rfl (o_index rfl rfl (by kernel_rfl : slTy _ _ = some (csz UInt8)) (RS.based q157 (by omega)) hc245.1 hc245.2) ?_
  obtain ⟨x246, hx247, ho234⟩ := obind ho234
  obtain ⟨cs248, hc249, he250⟩ := RS.elz q157 (i := w64 (a1 + 1)) hx247
  obtain rfl := rc_UInt8 hc249
  refine r_step rfl rfl (o_lde (w := .int .u8 (x246.toNat : Int)) (he250 _ (hS.zin0 (Zle.refl _))) rfl (by kernel_rfl)) ?_
  rcases ifs ho234 with ⟨hp252, ho234⟩ | ⟨hp252, ho234⟩
  refine r_step rfl rfl (o_cmp rfl rfl (c_eql_T hp252)) ?_
  refine xe 1 [(28, .bool true), (0, v158), (1, V a1)] ?_
  refine cT 28 rfl ?_
  refine sr r40_4 ?_
  refine xe 1 [(4, V 2)] ?_
  refine rt ?_
  refine ⟨rfl, ?_⟩
  obtain rfl := Option.some.inj ho234
  obtain rfl := Option.some.inj hm
  refine ⟨_, _, _, ResL.tmp rfl (ResL.nil), hS, ?_⟩
  exact rfl
  refine r_step rfl rfl (o_cmp rfl rfl (c_eql_F hp252)) ?_
  refine xe 1 [(28, .bool false), (0, v158), (1, V a1)] ?_
  refine kF 28 rfl ?_
  obtain rfl := Option.some.inj ho234
  exact ⟨_, rfl, rfl, hS⟩
  refine r_step rfl rfl (o_cmp rfl rfl (c_lss_F hp244)) ?_
  refine xe 9 [(28, .bool false), (0, v158), (1, V a1)] ?_
  refine kF 28 rfl ?_
  obtain rfl := Option.some.inj ho234
  exact ⟨_, rfl, rfl, hS⟩
  refine r_step rfl trivial (o_cmp rfl rfl (c_eql_F hp243)) ?_
  refine xe 15 [(28, .bool false), (0, v158), (1, V a1)] ?_
  refine kF 28 rfl ?_
  obtain rfl := Option.some.inj ho234
  exact ⟨_, rfl, rfl, hS⟩

def r39_0 : List COp := [u 4 (.assign (.const (.bool false)))]
def r39_1 : List COp := [u 5 (.move (t 1)), u 6 (.move (t 0)), u 7 (.nilCheck (t 6)), u 8 (.fieldAddr 54 (t 7) 0), u 9 (.load 23 (t 8)), u 10 (cb .len #[(t 9)] #[23]), u 11 (.binOp .geq 3 (t 5) (t 10) 3), u 12 (.move (t 11)), gN 12 (some 13) (.move (t 0)), gN 12 (some 14) (.nilCheck (t 13)), gN 12 (some 15) (.fieldAddr 54 (t 14) 0), gN 12 (some 16) (.load 23 (t 15)), gN 12 (some 17) (.move (t 1)), gN 12 (some 18) (.indexAddr 23 (t 16) (t 17)), gN 12 (some 19) (.load 5 (t 18)), gN 12 (some 20) (cf 42 #[(t 19)] #[5]), u 21 (.pick (t 12) (.const (.bool true)) (t 20)), u 22 (.move (t 21)), gN 22 (some 23) (.move (t 0)), gN 22 (some 24) (.nilCheck (t 23)), gN 22 (some 25) (.fieldAddr 54 (t 24) 0), gN 22 (some 26) (.load 23 (t 25)), gN 22 (some 27) (.move (t 1)), gN 22 (some 28) (cf 40 #[(t 26), (t 27)] #[23, 3]), gN 22 (some 29) (.binOp .gtr 3 (t 28) (ci 0) 3), u 30 (.pick (t 22) (.const (.bool true)) (t 29)), u 4 (.assign (t 30))]
def correctorref6_scanner_ended (F : Nat) (a0 : correctorref6_scanner) (a1 : Int) : Option Bool :=
  if (a0.B.length : Int) ≤ a1 then
    some true
  else
    if 0 ≤ a1 ∧ a1 < (a0.B.length : Int) then
      (a0.B[a1.toNat]?).bind fun x298 =>
      (correctorref5_Blank F (x298.toNat : Int)).bind fun r304 =>
      if r304 = true then
        some true
      else
        (correctorref2_Break F a0.B a1).bind fun r312 =>
        if (0 : Int) < r312 then
          some true
        else
          some false
    else none
theorem correctorref6_scanner_ended_ok (F : Nat) {h : AH} {Z : Zn} {a0 : correctorref6_scanner} {a1 : Int} {b131 : Nat} {v133 : Value} {v135 : Value} {c136 : List Value} (hP : Pre Z h [.blk b131 (K54 v133 v135 a0), .gs v135 c136 (csz api_Token)]) (q132 : RS (α := UInt8) Z v133 a0.B) (q134 : RCs (α := api_Token) Z c136 a0.L) {r : Bool} (hm : correctorref6_scanner_ended F a0 a1 = some r) :
    ∃ v h' Z' A', callI Go.Proofs.Try.prog 39 [Pt b131 0, V a1] h = some (v, h') ∧ St h (idsL [.blk b131 (K54 v133 v135 a0), .gs v135 c136 (csz api_Token)]) Z (0, 0) Z' h' A' ∧ .bool r = v ∧ A' = [.blk b131 (K54 v133 v135 a0), .gs v135 c136 (csz api_Token)] := by
  refine fn_intro (A := [.blk b131 (K54 v133 v135 a0), .gs v135 c136 (csz api_Token)]) (Q := fun v Z' A' => .bool r = v ∧ A' = [.blk b131 (K54 v133 v135 a0), .gs v135 c136 (csz api_Token)]) Go.Proofs.Try.func39 rfl rfl (by kernel_rfl) hP ?_
  intro hs hS
  unfold correctorref6_scanner_ended at hm
  refine sr r39_0 ?_
  refine xe 1 [(0, Pt b131 0), (1, V a1)] ?_
  refine sr r39_1 ?_
  refine xq 4 [(8, Pt b131 0), (5, V a1), (0, Pt b131 0), (1, V a1)] ?_
  refine r_step rfl trivial (o_ldb (v := v133) hS (i := 0) rfl rfl (by kernel_rfl)) ?_
  refine r_step rfl trivial (o_len rfl (RS.len q132) ⟨_, Go.Proofs.Try.underlying23⟩) ?_
  rcases ifs hm with ⟨hp296, hm⟩ | ⟨hp296, hm⟩
  refine r_step rfl trivial (o_cmp rfl rfl (c_geq_T hp296)) ?_
  refine xe 20 [(4, .bool true)] ?_
  refine rt ?_
  refine ⟨rfl, ?_⟩
  obtain rfl := Option.some.inj hm
  refine ⟨_, _, _, ResL.tmp rfl (ResL.nil), hS, ?_⟩
  exact ⟨rfl, rfl⟩
  refine r_step rfl trivial (o_cmp rfl rfl (c_geq_F hp296)) ?_
  refine xq 4 [(15, Pt b131 0), (12, .bool false), (0, Pt b131 0), (1, V a1)] ?_
  refine r_step rfl rfl (o_ldb (v := v133) hS (i := 0) rfl rfl (by kernel_rfl)) ?_
  refine xq 1 [(17, V a1), (16, v133), (12, .bool false), (0, Pt b131 0), (1, V a1)] ?_
  obtain ⟨hc297, hm⟩ := chk hm
  refine r_step rfl rfl (o_index rfl rfl (by kernel_rfl : slTy _ _ = some (csz UInt8)) (RS.based q132 (by omega)) hc297.1 hc297.2) ?_
  obtain ⟨x298, hx299, hm⟩ := obind hm
  obtain ⟨cs300, hc301, he302⟩ := RS.elz q132 (i := a1) hx299
  obtain rfl := rc_UInt8 hc301
  refine r_step rfl rfl (o_lde (w := .int .u8 (x298.toNat : Int)) (he302 _ (hS.zin0 (Zle.refl _))) rfl (by kernel_rfl)) ?_
  obtain ⟨r304, hx305, hm⟩ := obind hm
  obtain ⟨v306, h307, hcl308, hSc309, rfl⟩ := correctorref5_Blank_ok F hS.inv  hx305
  have hS310 := St.call (A := []) (B := [.blk b131 (K54 v133 v135 a0), .gs v135 c136 (csz api_Token)]) hS hSc309
  replace hS310 : St _ _ _ _ _ _ [.blk b131 (K54 v133 v135 a0), .gs v135 c136 (csz api_Token)] := hS310
  refine r_step rfl rfl (o_call hcl308 rfl rfl rfl) ?_
  refine xq 2 [(22, .bool r304), (0, Pt b131 0), (1, V a1)] ?_
  rcases ifs hm with ⟨hp311, hm⟩ | ⟨hp311, hm⟩
  refine r_setb (t := 22) rfl hp311 ?_
  refine xe 9 [(4, .bool true)] ?_
  refine rt ?_
  refine ⟨rfl, ?_⟩
  obtain rfl := Option.some.inj hm
  refine ⟨_, _, _, ResL.tmp rfl (ResL.nil), hS310, ?_⟩
  exact ⟨rfl, rfl⟩
  refine r_setb (t := 22) rfl (Bool.eq_false_iff.2 hp311) ?_
  refine xq 3 [(25, Pt b131 0), (22, .bool false), (1, V a1)] ?_
  refine r_step rfl rfl (o_ldb (v := v133) hS310 (i := 0) rfl rfl (by kernel_rfl)) ?_
  refine xq 1 [(27, V a1), (26, v133), (22, .bool false)] ?_
  obtain ⟨r312, hx313, hm⟩ := obind hm
  obtain ⟨v314, h315, hcl316, hSc317, rfl⟩ := correctorref2_Break_ok F hS310.inv q132 hx313
  have hS318 := St.call (A := []) (B := [.blk b131 (K54 v133 v135 a0), .gs v135 c136 (csz api_Token)]) hS310 hSc317
  replace hS318 : St _ _ _ _ _ _ [.blk b131 (K54 v133 v135 a0), .gs v135 c136 (csz api_Token)] := hS318
  refine r_step rfl rfl (o_call hcl316 rfl rfl rfl) ?_
  rcases ifs hm with ⟨hp319, hm⟩ | ⟨hp319, hm⟩
  refine r_step rfl rfl (o_cmp rfl rfl (c_gtr_T hp319)) ?_
  refine xe 2 [(4, .bool true)] ?_
  refine rt ?_
  refine ⟨rfl, ?_⟩
  obtain rfl := Option.some.inj hm
  refine ⟨_, _, _, ResL.tmp rfl (ResL.nil), hS318, ?_⟩
  exact ⟨rfl, rfl⟩
  refine r_step rfl rfl (o_cmp rfl rfl (c_gtr_F hp319)) ?_
  refine xe 2 [(4, .bool false)] ?_
  refine rt ?_
  refine ⟨rfl, ?_⟩
  obtain rfl := Option.some.inj hm
  refine ⟨_, _, _, ResL.tmp rfl (ResL.nil), hS318, ?_⟩
  exact ⟨rfl, rfl⟩

def r20_0 : List COp := [u 4 (.assign (ci 0))]
def r20_1 : List COp := [u 6 (.move (t 0)), u 7 (.move (t 1)), u 8 (cf 38 #[(t 6), (t 7)] #[52, 3]), u 5 (.assign (t 8))]
def r20_2 : List COp := [u 9 (.move (t 1)), u 10 (.binOp .add 3 (t 9) (ci 3) 3), u 11 (.move (t 0)), u 12 (.nilCheck (t 11)), u 13 (.fieldAddr 54 (t 12) 0), u 14 (.load 23 (t 13)), u 15 (cb .len #[(t 14)] #[23]), u 16 (.binOp .gtr 3 (t 10) (t 15) 3), u 17 (.move (t 16)), gN 17 (some 18) (.move (t 0)), gN 17 (some 19) (.nilCheck (t 18)), gN 17 (some 20) (.fieldAddr 54 (t 19) 0), gN 17 (some 21) (.load 23 (t 20)), gN 17 (some 22) (.move (t 1)), gN 17 (some 23) (.binOp .add 3 (t 22) (ci 1) 3), gN 17 (some 24) (.indexAddr 23 (t 21) (t 23)), gN 17 (some 25) (.load 5 (t 24)), gN 17 (some 26) (.move (t 5)), gN 17 (some 27) (.binOp .neq 5 (t 25) (t 26) 5), u 28 (.pick (t 17) (.const (.bool true)) (t 27)), u 29 (.move (t 28)), gN 29 (some 30) (.move (t 0)), gN 29 (some 31) (.nilCheck (t 30)), gN 29 (some 32) (.fieldAddr 54 (t 31) 0), gN 29 (some 33) (.load 23 (t 32)), gN 29 (some 34) (.move (t 1)), gN 29 (some 35) (.binOp .add 3 (t 34) (ci 2) 3), gN 29 (some 36) (.indexAddr 23 (t 33) (t 35)), gN 29 (some 37) (.load 5 (t 36)), gN 29 (some 38) (.move (t 5)), gN 29 (some 39) (.binOp .neq 5 (t 37) (t 38) 5), u 40 (.pick (t 29) (.const (.bool true)) (t 39)), u 41 (.move (t 40)), gN 41 (some 42) (.move (t 0)), gN 41 (some 43) (.move (t 1)), gN 41 (some 44) (.binOp .add 3 (t 43) (ci 3) 3), gN 41 (some 45) (cf 39 #[(t 42), (t 44)] #[52, 3]), gN 41 (some 46) (.unOp .not 4 (t 45)), u 47 (.pick (t 41) (.const (.bool true)) (t 46))]
def r20_3 : List COp := [u 4 (.assign (ci 0))]
def r20_4 : List COp := [u 48 (.move (t 5)), u 49 (.binOp .eql 5 (t 48) (.const (.int .u8 45)) 5)]
def r20_5 : List COp := [u 4 (.assign (ci 20))]
def r20_6 : List COp := [u 50 (.move (t 5)), u 51 (.binOp .eql 5 (t 50) (.const (.int .u8 46)) 5)]
def r20_7 : List COp := [u 4 (.assign (ci 21))]
def r20_8 : List COp := [u 4 (.assign (ci 0))]
def correctorref6_scanner_mark (F : Nat) (a0 : correctorref6_scanner) (a1 : Int) : Option Int :=
  (correctorref6_scanner_byteAt F a0 a1).bind fun r395 =>
  if (a0.B.length : Int) < (w64 (a1 + 3)) then
    some 0
  else
    if 0 ≤ (w64 (a1 + 1)) ∧ (w64 (a1 + 1)) < (a0.B.length : Int) then
      (a0.B[(w64 (a1 + 1)).toNat]?).bind fun x466 =>
      if (x466.toNat : Int) = (r395.toNat : Int) then
        if 0 ≤ (w64 (a1 + 2)) ∧ (w64 (a1 + 2)) < (a0.B.length : Int) then
          (a0.B[(w64 (a1 + 2)).toNat]?).bind fun x474 =>
          if (x474.toNat : Int) = (r395.toNat : Int) then
            (correctorref6_scanner_ended F a0 (w64 (a1 + 3))).bind fun r481 =>
            if r481 = true then
              if (r395.toNat : Int) = (45 : Int) then
                some 20
              else
                if (r395.toNat : Int) = (46 : Int) then
                  some 21
                else
                  some 0
            else
              some 0
          else
            some 0
        else none
      else
        some 0
    else none
theorem correctorref6_scanner_mark_ok (F : Nat) {h : AH} {Z : Zn} {a0 : correctorref6_scanner} {a1 : Int} {b69 : Nat} {v71 : Value} {v73 : Value} {c74 : List Value} (hP : Pre Z h [.blk b69 (K54 v71 v73 a0), .gs v73 c74 (csz api_Token)]) (q70 : RS (α := UInt8) Z v71 a0.B) (q72 : RCs (α := api_Token) Z c74 a0.L) {r : Int} (hm : correctorref6_scanner_mark F a0 a1 = some r) :
    ∃ v h' Z' A', callI Go.Proofs.Try.prog 20 [Pt b69 0, V a1] h = some (v, h') ∧ St h (idsL [.blk b69 (K54 v71 v73 a0), .gs v73 c74 (csz api_Token)]) Z (0, 0) Z' h' A' ∧ V r = v ∧ A' = [.blk b69 (K54 v71 v73 a0), .gs v73 c74 (csz api_Token)] := by
  refine fn_intro (A := [.blk b69 (K54 v71 v73 a0), .gs v73 c74 (csz api_Token)]) (Q := fun v Z' A' => V r = v ∧ A' = [.blk b69 (K54 v71 v73 a0), .gs v73 c74 (csz api_Token)]) Go.Proofs.Try.func20 rfl rfl (by kernel_rfl) hP ?_
  intro hs hS
  unfold correctorref6_scanner_mark at hm
  refine sr r20_0 ?_
  refine xe 1 [(0, Pt b69 0), (1, V a1)] ?_
  refine sr r20_1 ?_
  refine xq 2 [(7, V a1), (6, Pt b69 0), (0, Pt b69 0), (1, V a1)] ?_
  obtain ⟨r395, hx396, hm⟩ := obind hm
  have hF402 : St _ _ _ _ _ _ ([.blk b69 (K54 v71 v73 a0), .gs v73 c74 (csz api_Token)] ++ []) := ((hS.front 1 rfl).front 1 rfl)
  obtain ⟨v397, h398, Z403, A405, hcl399, hSc400, rfl, rfl⟩ := correctorref6_scanner_byteAt_ok F hF402.preL q70 q72 hx396
  have hZ404 := hSc400.zle
  have hS401 := hF402.call hSc400
  replace hS401 : St _ _ _ _ _ _ [.blk b69 (K54 v71 v73 a0), .gs v73 c74 (csz api_Token)] := hS401
  refine r_step rfl trivial (o_call hcl399 rfl rfl rfl) ?_
  refine xe 1 [(5, .int .u8 (r395.toNat : Int)), (0, Pt b69 0), (1, V a1)] ?_
  refine sq ?_
  refine sr r20_2 ?_
  refine xq 5 [(13, Pt b69 0), (10, V (w64 (a1 + 3))), (5, .int .u8 (r395.toNat : Int)), (0, Pt b69 0), (1, V a1)] ?_
  refine r_step rfl trivial (o_ldb (v := v71) hS401 (i := 0) rfl rfl (by kernel_rfl)) ?_
  refine r_step rfl trivial (o_len rfl (RS.len (q70.mono hZ404)) ⟨_, Go.Proofs.Try.underlying23⟩) ?_
  rcases ifs hm with ⟨hp464, hm⟩ | ⟨hp464, hm⟩
  refine r_step rfl trivial (o_cmp rfl rfl (c_gtr_T hp464)) ?_
  refine xe 31 [(47, .bool true), (5, .int .u8 (r395.toNat : Int))] ?_
  refine cT 47 rfl ?_
  refine sr r20_3 ?_
  refine xe 1 [(4, V 0)] ?_
  refine rt ?_
  refine ⟨rfl, ?_⟩
  obtain rfl := Option.some.inj hm
  refine ⟨_, _, _, ResL.tmp rfl (ResL.nil), hS401, ?_⟩
  exact ⟨rfl, rfl⟩
  refine r_step rfl trivial (o_cmp rfl rfl (c_gtr_F hp464)) ?_
  refine xq 4 [(20, Pt b69 0), (17, .bool false), (5, .int .u8 (r395.toNat : Int)), (0, Pt b69 0), (1, V a1)] ?_
  refine r_step rfl rfl (o_ldb (v := v71) hS401 (i := 0) rfl rfl (by kernel_rfl)) ?_
  refine xq 2 [(23, V (w64 (a1 + 1))), (21, v71), (17, .bool false), (5, .int .u8 (r395.toNat : Int)), (0, Pt b69 0), (1, V a1)] ?_
  obtain ⟨hc465, hm⟩ := chk hm
  refine r_step rfl rfl (o_index rfl rfl (by kernel_rfl : slTy _ _ = some (csz UInt8)) (RS.based (q70.mono hZ404) (by omega)) hc465.1 hc465.2) ?_
  obtain ⟨x466, hx467, hm⟩ := obind hm
  obtain ⟨cs468, hc469, he470⟩ := RS.elz (q70.mono hZ404) (i := w64 (a1 + 1)) hx467
  obtain rfl := rc_UInt8 hc469
  refine r_step rfl rfl (o_lde (w := .int .u8 (x466.toNat : Int)) (he470 _ (hS401.zin0 (Zle.refl _))) rfl (by kernel_rfl)) ?_
  refine xq 1 [(26, .int .u8 (r395.toNat : Int)), (25, .int .u8 (x466.toNat : Int)), (17, .bool false), (5, .int .u8 (r395.toNat : Int)), (0, Pt b69 0), (1, V a1)] ?_
  rcases ifs hm with ⟨hp472, hm⟩ | ⟨hp472, hm⟩
  refine r_step rfl rfl (o_cmp rfl rfl (c_neq_F hp472)) ?_
  refine xq 5 [(32, Pt b69 0), (29, .bool false), (5, .int .u8 (r395.toNat : Int)), (0, Pt b69 0), (1, V a1)] ?_
  refine r_step rfl rfl (o_ldb (v := v71) hS401 (i := 0) rfl rfl (by kernel_rfl)) ?_
  refine xq 2 [(35, V (w64 (a1 + 2))), (33, v71), (29, .bool false), (5, .int .u8 (r395.toNat : Int)), (0, Pt b69 0), (1, V a1)] ?_
  obtain ⟨hc473, hm⟩ := chk hm
  refine r_step rfl rfl (o_index rfl rfl (by kernel_rfl : slTy _ _ = some (csz UInt8)) (RS.based (q70.mono hZ404) (by omega)) hc473.1 hc473.2) ?_
  obtain ⟨x474, hx475, hm⟩ := obind hm
  obtain ⟨cs476, hc477, he478⟩ := RS.elz (q70.mono hZ404) (i := w64 (a1 + 2)) hx475
  obtain rfl := rc_UInt8 hc477
  refine r_step rfl rfl (o_lde (w := .int .u8 (x474.toNat : Int)) (he478 _ (hS401.zin0 (Zle.refl _))) rfl (by kernel_rfl)) ?_
  refine xq 1 [(38, .int .u8 (r395.toNat : Int)), (37, .int .u8 (x474.toNat : Int)), (29, .bool false), (5, .int .u8 (r395.toNat : Int)), (0, Pt b69 0), (1, V a1)] ?_
  rcases ifs hm with ⟨hp480, hm⟩ | ⟨hp480, hm⟩
  refine r_step rfl rfl (o_cmp rfl rfl (c_neq_F hp480)) ?_
  refine xq 5 [(44, V (w64 (a1 + 3))), (42, Pt b69 0), (41, .bool false), (5, .int .u8 (r395.toNat : Int))] ?_
  obtain ⟨r481, hx482, hm⟩ := obind hm
  have hF488 : St _ _ _ _ _ _ ([.blk b69 (K54 v71 v73 a0), .gs v73 c74 (csz api_Token)] ++ []) := ((hS401.front 1 rfl).front 1 rfl)
  obtain ⟨v483, h484, Z489, A491, hcl485, hSc486, rfl, rfl⟩ := correctorref6_scanner_ended_ok F hF488.preL (q70.mono hZ404) (q72.mono hZ404) hx482
  have hZ490 := hSc486.zle
  have hS487 := hF488.call hSc486
  replace hS487 : St _ _ _ _ _ _ [.blk b69 (K54 v71 v73 a0), .gs v73 c74 (csz api_Token)] := hS487
  refine r_step rfl rfl (o_call hcl485 rfl rfl rfl) ?_
  rcases ifs hm with ⟨hp492, hm⟩ | ⟨hp492, hm⟩
  refine r_setb (t := 45) rfl hp492 ?_
  refine xe 2 [(47, .bool false), (5, .int .u8 (r395.toNat : Int))] ?_
  refine kF 47 rfl ?_
  refine sq ?_
  refine sr r20_4 ?_
  refine xq 1 [(48, .int .u8 (r395.toNat : Int)), (5, .int .u8 (r395.toNat : Int))] ?_
  rcases ifs hm with ⟨hp495, hm⟩ | ⟨hp495, hm⟩
  refine r_step rfl trivial (o_cmp rfl rfl (c_eql_T hp495)) ?_
  refine xf [(49, .bool true), (5, .int .u8 (r395.toNat : Int))] ?_
  refine cT 49 rfl ?_
  refine sr r20_5 ?_
  refine xe 1 [(4, V 20)] ?_
  refine rt ?_
  refine ⟨rfl, ?_⟩
  obtain rfl := Option.some.inj hm
  refine ⟨_, _, _, ResL.tmp rfl (ResL.nil), hS487, ?_⟩
  exact ⟨rfl, rfl⟩
  refine r_step rfl trivial (o_cmp rfl rfl (c_eql_F hp495)) ?_
  refine xf [(49, .bool false), (5, .int .u8 (r395.toNat : Int))] ?_
  refine kF 49 rfl ?_
  refine sq ?_
  refine sr r20_6 ?_
  refine xq 1 [(50, .int .u8 (r395.toNat : Int))] ?_
  rcases ifs hm with ⟨hp497, hm⟩ | ⟨hp497, hm⟩
  refine r_step rfl trivial (o_cmp rfl rfl (c_eql_T hp497)) ?_
  refine xf [(51, .bool true)] ?_
  refine cT 51 rfl ?_
  refine sr r20_7 ?_
  refine xe 1 [(4, V 21)] ?_
  refine rt ?_
  refine ⟨rfl, ?_⟩
  obtain rfl := Option.some.inj hm
  refine ⟨_, _, _, ResL.tmp rfl (ResL.nil), hS487, ?_⟩
  exact ⟨rfl, rfl⟩
  refine r_step rfl trivial (o_cmp rfl rfl (c_eql_F hp497)) ?_
  refine xf [(51, .bool false)] ?_
  refine kF 51 rfl ?_
  refine sr r20_8 ?_
  refine xe 1 [(4, V 0)] ?_
  refine rt ?_
  refine ⟨rfl, ?_⟩
  obtain rfl := Option.some.inj hm
  refine ⟨_, _, _, ResL.tmp rfl (ResL.nil), hS487, ?_⟩
  exact ⟨rfl, rfl⟩
  refine r_setb (t := 45) rfl (Bool.eq_false_iff.2 hp492) ?_
  refine xe 2 [(47, .bool true), (5, .int .u8 (r395.toNat : Int))] ?_
  refine cT 47 rfl ?_
  refine sr r20_3 ?_
  refine xe 1 [(4, V 0)] ?_
  refine rt ?_
  refine ⟨rfl, ?_⟩
  obtain rfl := Option.some.inj hm
  refine ⟨_, _, _, ResL.tmp rfl (ResL.nil), hS487, ?_⟩
  exact ⟨rfl, rfl⟩
  refine r_step rfl rfl (o_cmp rfl rfl (c_neq_T hp480)) ?_
  refine xe 8 [(47, .bool true), (5, .int .u8 (r395.toNat : Int))] ?_
  refine cT 47 rfl ?_
  refine sr r20_3 ?_
  refine xe 1 [(4, V 0)] ?_
  refine rt ?_
  refine ⟨rfl, ?_⟩
  obtain rfl := Option.some.inj hm
  refine ⟨_, _, _, ResL.tmp rfl (ResL.nil), hS401, ?_⟩
  exact ⟨rfl, rfl⟩
  refine r_step rfl rfl (o_cmp rfl rfl (c_neq_T hp472)) ?_
  refine xe 20 [(47, .bool true), (5, .int .u8 (r395.toNat : Int))] ?_
  refine cT 47 rfl ?_
  refine sr r20_3 ?_
  refine xe 1 [(4, V 0)] ?_
  refine rt ?_
  refine ⟨rfl, ?_⟩
  obtain rfl := Option.some.inj hm
  refine ⟨_, _, _, ResL.tmp rfl (ResL.nil), hS401, ?_⟩
  exact ⟨rfl, rfl⟩

def r16_0 : List COp := [u 2 (.assign (.const (.bool false)))]
def r16_1 : List COp := [u 3 (.move (t 0)), u 4 (.binOp .neq 3 (t 3) (ci 1) 3), u 5 (.move (t 4)), gT 5 (some 6) (.move (t 0)), gT 5 (some 7) (.binOp .neq 3 (t 6) (ci 2) 3), u 8 (.pick (t 5) (t 7) (.const (.bool false))), u 9 (.move (t 8)), gT 9 (some 10) (.move (t 0)), gT 9 (some 11) (.binOp .neq 3 (t 10) (ci 3) 3), u 12 (.pick (t 9) (t 11) (.const (.bool false))), u 13 (.move (t 12)), gT 13 (some 14) (.move (t 0)), gT 13 (some 15) (.binOp .neq 3 (t 14) (ci 4) 3), u 16 (.pick (t 13) (t 15) (.const (.bool false))), u 2 (.assign (t 16))]
def correctorref6_Counts (F : Nat) (a0 : Int) : Option Bool :=
  if a0 = (1 : Int) then
    some false
  else
    if a0 = (2 : Int) then
      some false
    else
      if a0 = (3 : Int) then
        some false
      else
        if a0 = (4 : Int) then
          some false
        else
          some true
theorem correctorref6_Counts_ok (F : Nat) {h : AH} {Z : Zn} {a0 : Int} (hI : Inv Z h) {r : Bool} (hm : correctorref6_Counts F a0 = some r) :
    ∃ v h', callI Go.Proofs.Try.prog 16 [V a0] h = some (v, h') ∧ St h [] Z (0, 0) Z h' [] ∧ v = .bool r := by
  refine fn_plain (Q := fun v => v = .bool r) Go.Proofs.Try.func16 rfl rfl hI ?_
  intro hs hS
  unfold correctorref6_Counts at hm
  refine sr r16_0 ?_
  refine xe 1 [(0, V a0)] ?_
  refine sr r16_1 ?_
  refine xq 1 [(3, V a0), (0, V a0)] ?_
  rcases ifs hm with ⟨hp533, hm⟩ | ⟨hp533, hm⟩
  refine r_step rfl trivial (o_cmp rfl rfl (c_neq_F hp533)) ?_
  refine xe 13 [(2, .bool false)] ?_
  refine rt ?_
  refine ⟨rfl, ?_⟩
  obtain rfl := Option.some.inj hm
  refine ⟨_, _, _, ResL.tmp rfl (ResL.nil), hS, ?_⟩
  exact rfl
  refine r_step rfl trivial (o_cmp rfl rfl (c_neq_T hp533)) ?_
  refine xq 2 [(6, V a0), (5, .bool true), (0, V a0)] ?_
  rcases ifs hm with ⟨hp534, hm⟩ | ⟨hp534, hm⟩
  refine r_step rfl rfl (o_cmp rfl rfl (c_neq_F hp534)) ?_
  refine xe 10 [(2, .bool false)] ?_
  refine rt ?_
  refine ⟨rfl, ?_⟩
  obtain rfl := Option.some.inj hm
  refine ⟨_, _, _, ResL.tmp rfl (ResL.nil), hS, ?_⟩
  exact rfl
  refine r_step rfl rfl (o_cmp rfl rfl (c_neq_T hp534)) ?_
  refine xq 3 [(10, V a0), (9, .bool true), (0, V a0)] ?_
  rcases ifs hm with ⟨hp535, hm⟩ | ⟨hp535, hm⟩
  refine r_step rfl rfl (o_cmp rfl rfl (c_neq_F hp535)) ?_
  refine xe 6 [(2, .bool false)] ?_
  refine rt ?_
  refine ⟨rfl, ?_⟩
  obtain rfl := Option.some.inj hm
  refine ⟨_, _, _, ResL.tmp rfl (ResL.nil), hS, ?_⟩
  exact rfl
  refine r_step rfl rfl (o_cmp rfl rfl (c_neq_T hp535)) ?_
  refine xq 3 [(14, V a0), (13, .bool true)] ?_
  rcases ifs hm with ⟨hp536, hm⟩ | ⟨hp536, hm⟩
  refine r_step rfl rfl (o_cmp rfl rfl (c_neq_F hp536)) ?_
  refine xe 2 [(2, .bool false)] ?_
  refine rt ?_
  refine ⟨rfl, ?_⟩
  obtain rfl := Option.some.inj hm
  refine ⟨_, _, _, ResL.tmp rfl (ResL.nil), hS, ?_⟩
  exact rfl
  refine r_step rfl rfl (o_cmp rfl rfl (c_neq_T hp536)) ?_
  refine xe 2 [(2, .bool true)] ?_
  refine rt ?_
  refine ⟨rfl, ?_⟩
  obtain rfl := Option.some.inj hm
  refine ⟨_, _, _, ResL.tmp rfl (ResL.nil), hS, ?_⟩
  exact rfl

def r21_0 : List COp := [u 6 (.move (t 1)), u 7 (cf 16 #[(t 6)] #[3]), u 8 (.move (t 7)), gT 8 (some 9) (.move (t 1)), gT 8 (some 10) (.binOp .neq 3 (t 9) (ci 19) 3), u 11 (.pick (t 8) (t 10) (.const (.bool false))), u 12 (.move (t 11)), gT 12 (some 13) (.move (t 0)), gT 12 (some 14) (.nilCheck (t 13)), gT 12 (some 15) (.fieldAddr 54 (t 14) 4), gT 12 (some 16) (.load 3 (t 15)), gT 12 (some 17) (.binOp .lss 3 (t 16) (ci 0) 3), u 18 (.pick (t 12) (t 17) (.const (.bool false)))]
def r21_1 : List COpF := [uF 19 (.move (t 0)) .pure [], uF 20 (.move (t 0)) .pure [], uF 21 (.nilCheck (t 20)) .pure [], uF 22 (.fieldAddr 54 (t 21) 1) .pure [], uF 23 (.load 3 (t 22)) .look [], uF 24 (.move (t 0)) .pure [], uF 25 (.nilCheck (t 24)) .pure [], uF 26 (.fieldAddr 54 (t 25) 2) .pure [], uF 27 (.load 3 (t 26)) .look [], uF 28 (.binOp .sub 3 (t 23) (t 27) 3) .pure [], uF 29 (.nilCheck (t 19)) .pure [], uF 30 (.fieldAddr 54 (t 29) 4) .pure [], oF (.store 3 (t 30) (t 28)) .make [4, 8]]
def r21_2 : List COp := [u 31 (.move (t 1)), u 32 (.binOp .neq 3 (t 31) (ci 2) 3), u 33 (.move (t 32)), gT 33 (some 34) (.move (t 1)), gT 33 (some 35) (.binOp .neq 3 (t 34) (ci 3) 3), u 36 (.pick (t 33) (t 35) (.const (.bool false))), u 37 (.move (t 36)), gT 37 (some 38) (.move (t 1)), gT 37 (some 39) (.binOp .neq 3 (t 38) (ci 5) 3), u 40 (.pick (t 37) (t 39) (.const (.bool false))), u 41 (.move (t 40)), gT 41 (some 42) (.move (t 1)), gT 41 (some 43) (.binOp .neq 3 (t 42) (ci 20) 3), u 44 (.pick (t 41) (t 43) (.const (.bool false)))]
def r21_3 : List COp := [u 45 (.move (t 0)), u 46 (.nilCheck (t 45)), u 47 (.fieldAddr 54 (t 46) 5), o (.store 4 (t 47) (.const (.bool false)))]
def r21_4 : List COpF := [uF 48 (.move (t 0)) .pure [], uF 49 (.move (t 0)) .pure [], uF 50 (.nilCheck (t 49)) .pure [], uF 51 (.fieldAddr 54 (t 50) 7) .pure [], uF 52 (.load 27 (t 51)) .look [], uF 53 (.move (t 1)) .pure [], uF 54 (.move (t 0)) .pure [], uF 55 (.nilCheck (t 54)) .pure [], uF 56 (.fieldAddr 54 (t 55) 1) .pure [], uF 57 (.load 3 (t 56)) .look [], uF 58 (.move (t 2)) .pure [], uF 59 (.build 45 #[(0, (t 53)), (1, (t 57)), (2, (t 58))]) .pure [], uF 60 (.buildSlice 27 1 #[(0, (t 59))]) .fresh [], uF 61 (cb .append #[(t 52), (t 60)] #[27, 27]) .make [4, 9], uF 62 (.nilCheck (t 48)) .pure [], uF 63 (.fieldAddr 54 (t 62) 7) .pure [], oF (.store 27 (t 63) (t 61)) .make [4, 9]]
def r21_5 : List COp := [u 64 (.move (t 0)), u 65 (.move (t 2)), u 66 (.nilCheck (t 64)), u 67 (.fieldAddr 54 (t 66) 1), o (.store 3 (t 67) (t 65))]
def correctorref6_scanner_add (F : Nat) (a0 : correctorref6_scanner) (a1 : Int) (a2 : Int) : Option correctorref6_scanner :=
  (((((correctorref6_Counts F a1).bind fun r685 =>
      if r685 = true then
        if a1 = (19 : Int) then
          some false
        else
          if a0.Base < (0 : Int) then
            some true
          else
            some false
      else
        some false) : Option Bool).bind fun o => match o with
      | x696 => if x696 = true then
        some (⟨a0.B, a0.At, a0.Row, a0.Open, w64 (a0.At - a0.Row), a0.Only, a0.Text, a0.L⟩ : correctorref6_scanner)
      else
        some a0) : Option correctorref6_scanner).bind fun o => match o with
    | x712 => ((if a1 = (2 : Int) then
        some x712
      else
        if a1 = (3 : Int) then
          some x712
        else
          if a1 = (5 : Int) then
            some x712
          else
            if a1 = (20 : Int) then
              some x712
            else
              some (⟨x712.B, x712.At, x712.Row, x712.Open, x712.Base, false, x712.Text, x712.L⟩ : correctorref6_scanner)) : Option correctorref6_scanner).bind fun o => match o with
      | x734 => if x734.L.length + [(⟨a1, x734.At, a2⟩ : api_Token)].length ≤ 5864062014805 then
        some (⟨x734.B, a2, x734.Row, x734.Open, x734.Base, x734.Only, x734.Text, x734.L ++ [(⟨a1, x734.At, a2⟩ : api_Token)]⟩ : correctorref6_scanner)
      else none
theorem correctorref6_scanner_add_ok (F : Nat) {h : AH} {Z : Zn} {a0 : correctorref6_scanner} {a1 : Int} {a2 : Int} {b523 : Nat} {v525 : Value} {v527 : Value} {c528 : List Value} (hP : Pre Z h [.blk b523 (K54 v525 v527 a0), .gs v527 c528 (csz api_Token)]) (q524 : RS (α := UInt8) Z v525 a0.B) (q526 : RCs (α := api_Token) Z c528 a0.L) {r : correctorref6_scanner} (hm : correctorref6_scanner_add F a0 a1 a2 = some r) :
    ∃ v h' Z' A', callI Go.Proofs.Try.prog 21 [Pt b523 0, V a1, V a2] h = some (v, h') ∧ St h (idsL [.blk b523 (K54 v525 v527 a0), .gs v527 c528 (csz api_Token)]) Z (0, 0) Z' h' A' ∧ ∃ v622 : Value, ∃ v624 : Value, ∃ c625 : List Value, .tuple #[] = v ∧ A' = [.blk b523 (K54 v622 v624 r), .gs v624 c625 (csz api_Token)] ∧ RS (α := UInt8) Z' v622 r.B ∧ RCs (α := api_Token) Z' c625 r.L := by
  refine fn_intro (A := [.blk b523 (K54 v525 v527 a0), .gs v527 c528 (csz api_Token)]) (Q := fun v Z' A' => ∃ v622 : Value, ∃ v624 : Value, ∃ c625 : List Value, .tuple #[] = v ∧ A' = [.blk b523 (K54 v622 v624 r), .gs v624 c625 (csz api_Token)] ∧ RS (α := UInt8) Z' v622 r.B ∧ RCs (α := api_Token) Z' c625 r.L) Go.Proofs.Try.func21 rfl rfl (by kernel_rfl) hP ?_
  intro hs hS
  unfold correctorref6_scanner_add at hm
  refine sq ?_
  obtain ⟨o662, ho661, hm⟩ := obind hm
  refine W_join [0, 1, 2] (fun l h => ∃ Z711 : Zn, ∃ x712 : correctorref6_scanner, ∃ v714 : Value, ∃ c716 : List Value, x712 = o662 ∧ RS (α := UInt8) Z711 v714 x712.B ∧ RCs (α := api_Token) Z711 c716 x712.L ∧ l = [(0, Pt b523 0), (1, V a1), (2, V a2)] ∧ St hs (idsL [.blk b523 (K54 v525 v527 a0), .gs v527 c528 (csz api_Token)]) Z (0, 0) Z711 h [.blk b523 (K54 v714 v527 x712), .gs v527 c716 (csz api_Token)]) ?_ ?_
  rintro l h717 ⟨Z711, x712, v714, c716, rfl, q713, q715, rfl, hS718⟩
  try dsimp only at hm
  refine sq ?_
  obtain ⟨o726, ho725, hm⟩ := obind hm
  refine W_join [0, 1, 2] (fun l h => ∃ Z733 : Zn, ∃ x734 : correctorref6_scanner, ∃ v736 : Value, ∃ c738 : List Value, x734 = o726 ∧ RS (α := UInt8) Z733 v736 x734.B ∧ RCs (α := api_Token) Z733 c738 x734.L ∧ l = [(0, Pt b523 0), (1, V a1), (2, V a2)] ∧ St hs (idsL [.blk b523 (K54 v525 v527 a0), .gs v527 c528 (csz api_Token)]) Z (0, 0) Z733 h [.blk b523 (K54 v736 v527 x734), .gs v527 c738 (csz api_Token)]) ?_ ?_
  rintro l h739 ⟨Z733, x734, v736, c738, rfl, q735, q737, rfl, hS740⟩
  try dsimp only at hm
  refine srF r21_4 hS740 ?_
  intro bs741 h742 hlv744 hS743
  refine yq 4 [(51, Pt b523 7), (48, Pt b523 0), (0, Pt b523 0), (1, V a1), (2, V a2)] ?_
  have lt745 : b523 < bs741 := hlv744.1 _ (List.mem_of_getElem? (i := 0) rfl) _ (by simp [Itm.ids])
  refine e_lookB rfl trivial rfl (by show b523 < _; omega) (same1 (v := v527) (hS743.gsim1 (i := 1) rfl)) (o_ldb (v := v527) hS743 (i := 0) rfl rfl (by kernel_rfl)) trivial ?_
  refine yq 4 [(56, Pt b523 1), (53, V a1), (52, v527), (48, Pt b523 0), (0, Pt b523 0), (2, V a2)] ?_
  have lt746 : b523 < bs741 := hlv744.1 _ (List.mem_of_getElem? (i := 0) rfl) _ (by simp [Itm.ids])
  refine e_lookB rfl trivial rfl (by show b523 < _; omega) (same1 (v := V x734.At) trivial) (o_ldb (v := V x734.At) hS743 (i := 0) rfl rfl (by kernel_rfl)) trivial ?_
  refine yq 2 [(59, .agg #[V a1, V x734.At, V a2]), (52, v527), (48, Pt b523 0), (0, Pt b523 0), (2, V a2)] ?_
  have q750 : RCs (α := api_Token) Z733 [V a1, V x734.At, V a2] [(⟨a1, x734.At, a2⟩ : api_Token)] := RCs.cons (cs := [V a1, V x734.At, V a2]) rfl (RCs.nil0 _)
  refine e_row rfl trivial (o_bs (cells := [V a1, V x734.At, V a2]) (s := 3) (by kernel_rfl)) (by kernel_rfl) hS743 (by omega) (Nat.add_lt_add_left (by decide) _) ?_
  intro v747 h748 b751 eb752 ec753 hS749
  replace hS749 : St _ _ _ _ _ _ [.gs v747 [V a1, V x734.At, V a2] (csz api_Token), .blk b523 (K54 v736 v527 x734), .gs v527 c738 (csz api_Token)] := hS749
  obtain ⟨hc760, hm⟩ := chk hm
  have hF761 : St _ _ _ _ _ _ ([.gs v527 c738 (csz api_Token)] ++ [.gs v747 [V a1, V x734.At, V a2] (csz api_Token), .blk b523 (K54 v736 v527 x734)]) := (hS749.front 2 rfl)
  refine e_mk3 rfl trivial hF761 (o_app (ys := [(⟨a1, x734.At, a2⟩ : api_Token)]) (by_ := 24) hF761.sub (i := 0) rfl q737 ((hS749.lown).gnews (j := 0) rfl q750) rfl rfl (by kernel_rfl) (by omega) (by omega)) (Zle.refl _) (.keep (hF761.neB 1 rfl blk_mem) (.keep (hF761.neB 1 rfl blk_mem) .nil)) ?_
  rintro v755 c756 h757 ⟨q759, hS758⟩
  replace hS758 : St _ _ _ _ _ _ [.gs v755 c756 (csz api_Token), .gs v747 [V a1, V x734.At, V a2] (csz api_Token), .blk b523 (K54 v736 v527 x734)] := hS758
  refine yq 2 [(63, Pt b523 7), (61, v755), (0, Pt b523 0), (2, V a2)] ?_
  have hF764 : St _ _ _ _ _ _ ([.blk b523 (K54 v736 v527 x734)] ++ [.gs v755 c756 (csz api_Token), .gs v747 [V a1, V x734.At, V a2] (csz api_Token)]) := (hS758.front 2 rfl)
  refine e_mk1 rfl trivial hF764 (o_stb (vs := [v755]) (cells' := (K54 v736 v755 x734)) (L' := [.blk b523 (K54 v736 v755 x734)]) hF764.sub (i := 0) rfl rfl rfl (hS758.gcell1 (i := 0) rfl) (by kernel_rfl) (one_cons (hS758.gone1 (i := 0) rfl) one_nil) rfl rfl rfl) (Zle.refl _) (.drop (by decide) (.drop (by decide) .nil)) ?_
  intro h762 hS763
  refine yf [(0, Pt b523 0), (2, V a2)] ?_
  have hS765 := hS763.unres
  refine rg r21_5 ?_
  refine xq 4 [(67, Pt b523 1), (65, V a2)] ?_
  refine r_ex1 rfl trivial (o_stb (vs := [V a2]) (cells' := [v736, V a2, V x734.Row, V x734.Open, V x734.Base, .bool x734.Only, V x734.Text, v755]) (L' := [.blk b523 [v736, V a2, V x734.Row, V x734.Open, V x734.Base, .bool x734.Only, V x734.Text, v755], .gs v755 c756 (csz api_Token), .gs v747 [V a1, V x734.At, V a2] (csz api_Token)]) hS765 (i := 0) rfl rfl rfl rfl (by kernel_rfl) rfl rfl rfl rfl) ?_
  intro h766 hS767
  refine xf [] ?_
  obtain rfl := Option.some.inj hm
  refine ⟨_, _, _, ResL.nil, (hS767.takeN 2), ?_⟩
  exact ⟨v736, v755, c756, rfl, rfl, q735, q759⟩
  refine sr r21_2 ?_
  refine xq 1 [(31, V a1), (0, Pt b523 0), (1, V a1), (2, V a2)] ?_
  rcases ifs ho725 with ⟨hp727, ho725⟩ | ⟨hp727, ho725⟩
  refine r_step rfl trivial (o_cmp rfl rfl (c_neq_F hp727)) ?_
  refine xe 12 [(44, .bool false), (0, Pt b523 0), (1, V a1), (2, V a2)] ?_
  refine kF 44 rfl ?_
  obtain rfl := Option.some.inj ho725
  exact ⟨_, x712, v714, c716, rfl, q713, q715, rfl, hS718⟩
  refine r_step rfl trivial (o_cmp rfl rfl (c_neq_T hp727)) ?_
  refine xq 2 [(34, V a1), (33, .bool true), (0, Pt b523 0), (1, V a1), (2, V a2)] ?_
  rcases ifs ho725 with ⟨hp728, ho725⟩ | ⟨hp728, ho725⟩
  refine r_step rfl rfl (o_cmp rfl rfl (c_neq_F hp728)) ?_
  refine xe 9 [(44, .bool false), (0, Pt b523 0), (1, V a1), (2, V a2)] ?_
  refine kF 44 rfl ?_
  obtain rfl := Option.some.inj ho725
  exact ⟨_, x712, v714, c716, rfl, q713, q715, rfl, hS718⟩
  refine r_step rfl rfl (o_cmp rfl rfl (c_neq_T hp728)) ?_
  refine xq 3 [(38, V a1), (37, .bool true), (0, Pt b523 0), (1, V a1), (2, V a2)] ?_
  rcases ifs ho725 with ⟨hp729, ho725⟩ | ⟨hp729, ho725⟩
  refine r_step rfl rfl (o_cmp rfl rfl (c_neq_F hp729)) ?_
  refine xe 5 [(44, .bool false), (0, Pt b523 0), (1, V a1), (2, V a2)] ?_
  refine kF 44 rfl ?_
  obtain rfl := Option.some.inj ho725
  exact ⟨_, x712, v714, c716, rfl, q713, q715, rfl, hS718⟩
  refine r_step rfl rfl (o_cmp rfl rfl (c_neq_T hp729)) ?_
  refine xq 3 [(42, V a1), (41, .bool true), (0, Pt b523 0), (1, V a1), (2, V a2)] ?_
  rcases ifs ho725 with ⟨hp730, ho725⟩ | ⟨hp730, ho725⟩
  refine r_step rfl rfl (o_cmp rfl rfl (c_neq_F hp730)) ?_
  refine xe 1 [(44, .bool false), (0, Pt b523 0), (1, V a1), (2, V a2)] ?_
  refine kF 44 rfl ?_
  obtain rfl := Option.some.inj ho725
  exact ⟨_, x712, v714, c716, rfl, q713, q715, rfl, hS718⟩
  refine r_step rfl rfl (o_cmp rfl rfl (c_neq_T hp730)) ?_
  refine xe 1 [(44, .bool true), (0, Pt b523 0), (1, V a1), (2, V a2)] ?_
  refine cT 44 rfl ?_
  refine rg r21_3 ?_
  refine xq 3 [(47, Pt b523 5), (0, Pt b523 0), (1, V a1), (2, V a2)] ?_
  refine r_ex1 rfl trivial (o_stb (vs := [.bool false]) (cells' := [v714, V x712.At, V x712.Row, V x712.Open, V x712.Base, .bool false, V x712.Text, v527]) (L' := [.blk b523 [v714, V x712.At, V x712.Row, V x712.Open, V x712.Base, .bool false, V x712.Text, v527], .gs v527 c716 (csz api_Token)]) hS718 (i := 0) rfl rfl rfl rfl (by kernel_rfl) rfl rfl rfl rfl) ?_
  intro h731 hS732
  refine xf [(0, Pt b523 0), (1, V a1), (2, V a2)] ?_
  obtain rfl := Option.some.inj ho725
  exact ⟨_, (⟨x712.B, x712.At, x712.Row, x712.Open, x712.Base, false, x712.Text, x712.L⟩ : correctorref6_scanner), v714, c716, rfl, q713, q715, rfl, hS732⟩
  refine sq ?_
  obtain ⟨o684, ho683, ho661⟩ := obind ho661
  refine W_join [0, 1, 2, 18] (fun l h => ∃ Z695 : Zn, ∃ x696 : Bool, x696 = o684 ∧ l = [(0, Pt b523 0), (1, V a1), (2, V a2), (18, .bool x696)] ∧ St hs (idsL [.blk b523 (K54 v525 v527 a0), .gs v527 c528 (csz api_Token)]) Z (0, 0) Z695 h [.blk b523 (K54 v525 v527 a0), .gs v527 c528 (csz api_Token)]) ?_ ?_
  rintro l h697 ⟨Z695, x696, rfl, rfl, hS698⟩
  try dsimp only at ho661
  rcases ifs ho661 with ⟨hp699, ho661⟩ | ⟨hp699, ho661⟩
  refine W_condT (x := .tmp 18) (by kernel_rfl) rfl hp699 ?_
  refine rgF r21_1 hS698 ?_
  intro bs700 h701 hlv703 hS702
  refine yq 4 [(22, Pt b523 1), (19, Pt b523 0), (0, Pt b523 0), (1, V a1), (2, V a2)] ?_
  have lt704 : b523 < bs700 := hlv703.1 _ (List.mem_of_getElem? (i := 0) rfl) _ (by simp [Itm.ids])
  refine e_lookB rfl trivial rfl (by show b523 < _; omega) (same1 (v := V a0.At) trivial) (o_ldb (v := V a0.At) hS702 (i := 0) rfl rfl (by kernel_rfl)) trivial ?_
  refine yq 3 [(26, Pt b523 2), (23, V a0.At), (19, Pt b523 0), (0, Pt b523 0), (1, V a1), (2, V a2)] ?_
  have lt705 : b523 < bs700 := hlv703.1 _ (List.mem_of_getElem? (i := 0) rfl) _ (by simp [Itm.ids])
  refine e_lookB rfl trivial rfl (by show b523 < _; omega) (same1 (v := V a0.Row) trivial) (o_ldb (v := V a0.Row) hS702 (i := 0) rfl rfl (by kernel_rfl)) trivial ?_
  refine yq 3 [(30, Pt b523 4), (28, V (w64 (a0.At - a0.Row))), (0, Pt b523 0), (1, V a1), (2, V a2)] ?_
  have hF708 : St _ _ _ _ _ _ ([.blk b523 (K54 v525 v527 a0)] ++ [.gs v527 c528 (csz api_Token)]) := (hS702.front 0 rfl)
  refine e_mk1 rfl trivial hF708 (o_stb (vs := [V (w64 (a0.At - a0.Row))]) (cells' := [v525, V a0.At, V a0.Row, V a0.Open, V (w64 (a0.At - a0.Row)), .bool a0.Only, V a0.Text, v527]) (L' := [.blk b523 [v525, V a0.At, V a0.Row, V a0.Open, V (w64 (a0.At - a0.Row)), .bool a0.Only, V a0.Text, v527]]) hF708.sub (i := 0) rfl rfl rfl rfl (by kernel_rfl) rfl rfl rfl rfl) (Zle.refl _) (.drop (by decide) (.drop (by decide) .nil)) ?_
  intro h706 hS707
  refine yf [(0, Pt b523 0), (1, V a1), (2, V a2)] ?_
  have hS709 := hS707.unres
  obtain rfl := Option.some.inj ho661
  exact ⟨_, (⟨a0.B, a0.At, a0.Row, a0.Open, w64 (a0.At - a0.Row), a0.Only, a0.Text, a0.L⟩ : correctorref6_scanner), v525, c528, rfl, (q524.mono hS698.zle), (q526.mono hS698.zle), rfl, hS709⟩
  refine W_condF (x := .tmp 18) (by kernel_rfl) rfl (Bool.eq_false_iff.2 hp699) ?_
  refine sk ?_
  obtain rfl := Option.some.inj ho661
  exact ⟨_, a0, v525, c528, rfl, (q524.mono hS698.zle), (q526.mono hS698.zle), rfl, hS698⟩
  refine rg r21_0 ?_
  refine xq 1 [(6, V a1), (0, Pt b523 0), (1, V a1), (2, V a2)] ?_
  obtain ⟨r685, hx686, ho683⟩ := obind ho683
  obtain ⟨v687, h688, hcl689, hSc690, rfl⟩ := correctorref6_Counts_ok F hS.inv  hx686
  have hS691 := St.call (A := []) (B := [.blk b523 (K54 v525 v527 a0), .gs v527 c528 (csz api_Token)]) hS hSc690
  replace hS691 : St _ _ _ _ _ _ [.blk b523 (K54 v525 v527 a0), .gs v527 c528 (csz api_Token)] := hS691
  refine r_step rfl trivial (o_call hcl689 rfl rfl rfl) ?_
  refine xq 1 [(8, .bool r685), (0, Pt b523 0), (1, V a1), (2, V a2)] ?_
  rcases ifs ho683 with ⟨hp692, ho683⟩ | ⟨hp692, ho683⟩
  refine r_setb (t := 8) rfl hp692 ?_
  refine xq 1 [(9, V a1), (8, .bool true), (0, Pt b523 0), (1, V a1), (2, V a2)] ?_
  rcases ifs ho683 with ⟨hp693, ho683⟩ | ⟨hp693, ho683⟩
  refine r_step rfl rfl (o_cmp rfl rfl (c_neq_F hp693)) ?_
  refine xe 8 [(18, .bool false), (0, Pt b523 0), (1, V a1), (2, V a2)] ?_
  obtain rfl := Option.some.inj ho683
  exact ⟨_, false, rfl, rfl, hS691⟩
  refine r_step rfl rfl (o_cmp rfl rfl (c_neq_T hp693)) ?_
  refine xq 5 [(15, Pt b523 4), (12, .bool true), (0, Pt b523 0), (1, V a1), (2, V a2)] ?_
  refine r_step rfl rfl (o_ldb (v := V a0.Base) hS691 (i := 0) rfl rfl (by kernel_rfl)) ?_
  rcases ifs ho683 with ⟨hp694, ho683⟩ | ⟨hp694, ho683⟩
  refine r_step rfl rfl (o_cmp rfl rfl (c_lss_T hp694)) ?_
  refine xe 1 [(18, .bool true), (0, Pt b523 0), (1, V a1), (2, V a2)] ?_
  obtain rfl := Option.some.inj ho683
  exact ⟨_, true, rfl, rfl, hS691⟩
  refine r_step rfl rfl (o_cmp rfl rfl (c_lss_F hp694)) ?_
  refine xe 1 [(18, .bool false), (0, Pt b523 0), (1, V a1), (2, V a2)] ?_
  obtain rfl := Option.some.inj ho683
  exact ⟨_, false, rfl, rfl, hS691⟩
  refine r_setb (t := 8) rfl (Bool.eq_false_iff.2 hp692) ?_
  refine xe 10 [(18, .bool false), (0, Pt b523 0), (1, V a1), (2, V a2)] ?_
  obtain rfl := Option.some.inj ho683
  exact ⟨_, false, rfl, rfl, hS691⟩

def r43_0 : List COp := [u 4 (.assign (ci 0))]
def r43_1 : List COp := [u 5 (.move (t 1)), u 6 (.move (t 0)), u 7 (.nilCheck (t 6)), u 8 (.fieldAddr 54 (t 7) 0), u 9 (.load 23 (t 8)), u 10 (cb .len #[(t 9)] #[23]), u 11 (.binOp .lss 3 (t 5) (t 10) 3), u 12 (.move (t 11)), gT 12 (some 13) (.move (t 0)), gT 12 (some 14) (.nilCheck (t 13)), gT 12 (some 15) (.fieldAddr 54 (t 14) 0), gT 12 (some 16) (.load 23 (t 15)), gT 12 (some 17) (.move (t 1)), gT 12 (some 18) (cf 40 #[(t 16), (t 17)] #[23, 3]), gT 12 (some 19) (.binOp .eql 3 (t 18) (ci 0) 3), u 20 (.pick (t 12) (t 19) (.const (.bool false)))]
def r43_2 : List COp := [u 21 (.move (t 1)), u 22 (.binOp .add 3 (t 21) (ci 1) 3), u 1 (.assign (t 22))]
def r43_3 : List COp := [u 23 (.move (t 1)), u 4 (.assign (t 23))]
def correctorref6_scanner_rowEnd_l0 (F : Nat) (a0 : correctorref6_scanner) (a1 : Int) : Nat → Int → Option Int
  | 0, _ => none
  | n + 1, x1141 =>
    if x1141 < (a0.B.length : Int) then
      (correctorref2_Break F a0.B x1141).bind fun r1164 =>
      if r1164 = (0 : Int) then
        correctorref6_scanner_rowEnd_l0 F a0 a1 n (w64 (x1141 + 1))
      else
        some x1141
    else
      some x1141
def correctorref6_scanner_rowEnd (F : Nat) (a0 : correctorref6_scanner) (a1 : Int) : Option Int :=
  ((correctorref6_scanner_rowEnd_l0 F a0 a1 F a1) : Option Int).bind fun o => match o with
    | x1174 => some x1174
theorem correctorref6_scanner_rowEnd_ok (F : Nat) {h : AH} {Z : Zn} {a0 : correctorref6_scanner} {a1 : Int} {b1006 : Nat} {v1008 : Value} {v1010 : Value} {c1011 : List Value} (hP : Pre Z h [.blk b1006 (K54 v1008 v1010 a0), .gs v1010 c1011 (csz api_Token)]) (q1007 : RS (α := UInt8) Z v1008 a0.B) (q1009 : RCs (α := api_Token) Z c1011 a0.L) {r : Int} (hm : correctorref6_scanner_rowEnd F a0 a1 = some r) :
    ∃ v h' Z' A', callI Go.Proofs.Try.prog 43 [Pt b1006 0, V a1] h = some (v, h') ∧ St h (idsL [.blk b1006 (K54 v1008 v1010 a0), .gs v1010 c1011 (csz api_Token)]) Z (0, 0) Z' h' A' ∧ V r = v ∧ A' = [.blk b1006 (K54 v1008 v1010 a0), .gs v1010 c1011 (csz api_Token)] := by
  refine fn_intro (A := [.blk b1006 (K54 v1008 v1010 a0), .gs v1010 c1011 (csz api_Token)]) (Q := fun v Z' A' => V r = v ∧ A' = [.blk b1006 (K54 v1008 v1010 a0), .gs v1010 c1011 (csz api_Token)]) Go.Proofs.Try.func43 rfl rfl (by kernel_rfl) hP ?_
  intro hs hS
  unfold correctorref6_scanner_rowEnd at hm
  refine sr r43_0 ?_
  refine xe 1 [(0, Pt b1006 0), (1, V a1)] ?_
  refine sq ?_
  obtain ⟨o1139, ho1138, hm⟩ := obind hm
  refine W_join [1] (fun l h => ∃ Z1173 : Zn, ∃ x1174 : Int, x1174 = o1139 ∧ l = [(1, V x1174)] ∧ St hs (idsL [.blk b1006 (K54 v1008 v1010 a0), .gs v1010 c1011 (csz api_Token)]) Z (0, 0) Z1173 h [.blk b1006 (K54 v1008 v1010 a0), .gs v1010 c1011 (csz api_Token)]) ?_ ?_
  rintro l h1175 ⟨Z1173, x1174, rfl, rfl, hS1176⟩
  try dsimp only at hm
  refine sr r43_3 ?_
  refine xe 2 [(4, V x1174)] ?_
  refine rt ?_
  refine ⟨rfl, ?_⟩
  obtain rfl := Option.some.inj hm
  refine ⟨_, _, _, ResL.tmp rfl (ResL.nil), hS1176, ?_⟩
  exact ⟨rfl, rfl⟩
  refine bk 0 ?_
  refine lp [0, 1] (fun n l h => ∃ Z1140 : Zn, ∃ x1141 : Int, correctorref6_scanner_rowEnd_l0 F a0 a1 n x1141 = some o1139 ∧ l = [(0, Pt b1006 0), (1, V x1141)] ∧ St hs (idsL [.blk b1006 (K54 v1008 v1010 a0), .gs v1010 c1011 (csz api_Token)]) Z (0, 0) Z1140 h [.blk b1006 (K54 v1008 v1010 a0), .gs v1010 c1011 (csz api_Token)]) F ⟨_, a1, ho1138, rfl, hS⟩ ?_
  rintro n1144 l h1142 ⟨Z1140, x1141, ho1138, rfl, hS1143⟩
  rcases n1144 with _ | n1144
  cases (show none = some o1139 from ho1138)
  rw [correctorref6_scanner_rowEnd_l0] at ho1138
  refine sq ?_
  refine sr r43_1 ?_
  refine xq 4 [(8, Pt b1006 0), (5, V x1141), (0, Pt b1006 0), (1, V x1141)] ?_
  refine r_step rfl trivial (o_ldb (v := v1008) hS1143 (i := 0) rfl rfl (by kernel_rfl)) ?_
  refine r_step rfl trivial (o_len rfl (RS.len (q1007.mono hS1143.zle)) ⟨_, Go.Proofs.Try.underlying23⟩) ?_
  rcases ifs ho1138 with ⟨hp1163, ho1138⟩ | ⟨hp1163, ho1138⟩
  refine r_step rfl trivial (o_cmp rfl rfl (c_lss_T hp1163)) ?_
  refine xq 4 [(15, Pt b1006 0), (12, .bool true), (0, Pt b1006 0), (1, V x1141)] ?_
  refine r_step rfl rfl (o_ldb (v := v1008) hS1143 (i := 0) rfl rfl (by kernel_rfl)) ?_
  refine xq 1 [(17, V x1141), (16, v1008), (12, .bool true), (0, Pt b1006 0), (1, V x1141)] ?_
  obtain ⟨r1164, hx1165, ho1138⟩ := obind ho1138
  obtain ⟨v1166, h1167, hcl1168, hSc1169, rfl⟩ := correctorref2_Break_ok F hS1143.inv (q1007.mono hS1143.zle) hx1165
  have hS1170 := St.call (A := []) (B := [.blk b1006 (K54 v1008 v1010 a0), .gs v1010 c1011 (csz api_Token)]) hS1143 hSc1169
  replace hS1170 : St _ _ _ _ _ _ [.blk b1006 (K54 v1008 v1010 a0), .gs v1010 c1011 (csz api_Token)] := hS1170
  refine r_step rfl rfl (o_call hcl1168 rfl rfl rfl) ?_
  rcases ifs ho1138 with ⟨hp1171, ho1138⟩ | ⟨hp1171, ho1138⟩
  refine r_step rfl rfl (o_cmp rfl rfl (c_eql_T hp1171)) ?_
  refine xe 1 [(20, .bool true), (0, Pt b1006 0), (1, V x1141)] ?_
  refine kT 20 rfl ?_
  refine bk 1 ?_
  refine rg r43_2 ?_
  refine xe 3 [(1, V (w64 (x1141 + 1))), (0, Pt b1006 0)] ?_
  exact ⟨n1144, Nat.lt_succ_self _, ⟨_, w64 (x1141 + 1), ho1138, rfl, hS1170⟩⟩
  refine r_step rfl rfl (o_cmp rfl rfl (c_eql_F hp1171)) ?_
  refine xe 1 [(20, .bool false), (0, Pt b1006 0), (1, V x1141)] ?_
  refine cF 20 rfl ?_
  refine xt 0 ?_
  refine blkX_hit ?_
  obtain rfl := Option.some.inj ho1138
  exact ⟨_, x1141, rfl, rfl, hS1170⟩
  refine r_step rfl trivial (o_cmp rfl rfl (c_lss_F hp1163)) ?_
  refine xe 9 [(20, .bool false), (0, Pt b1006 0), (1, V x1141)] ?_
  refine cF 20 rfl ?_
  refine xt 0 ?_
  refine blkX_hit ?_
  obtain rfl := Option.some.inj ho1138
  exact ⟨_, x1141, rfl, rfl, hS1143⟩

def r41_0 : List COp := [u 6 (.move (t 0)), u 7 (.nilCheck (t 6)), u 8 (.fieldAddr 54 (t 7) 6), u 9 (.load 3 (t 8)), u 2 (.assign (t 9))]
def r41_1 : List COp := [u 10 (.move (t 0)), u 11 (.nilCheck (t 10)), u 12 (.fieldAddr 54 (t 11) 6), o (.store 3 (t 12) (ci (-2)))]
def r41_2 : List COpF := [uF 13 (.move (t 0)) .pure [], uF 14 (.nilCheck (t 13)) .pure [], uF 15 (.fieldAddr 54 (t 14) 1) .pure [], uF 16 (.load 3 (t 15)) .look [], uF 17 (.move (t 0)) .pure [], uF 18 (.nilCheck (t 17)) .pure [], uF 19 (.fieldAddr 54 (t 18) 0) .pure [], uF 20 (.load 23 (t 19)) .look [], uF 21 (cb .len #[(t 20)] #[23]) .pure [], uF 22 (.binOp .lss 3 (t 16) (t 21) 3) .pure [], uF 23 (.move (t 22)) .pure [], gTF 23 (some 24) (.move (t 0)) .pure [], gTF 23 (some 25) (.move (t 0)) .pure [], gTF 23 (some 26) (.nilCheck (t 25)) .pure [], gTF 23 (some 27) (.fieldAddr 54 (t 26) 1) .pure [], gTF 23 (some 28) (.load 3 (t 27)) .look [], gTF 23 (some 29) (cf 20 #[(t 24), (t 28)] #[52, 3]) .make [3, 7, 15], gTF 23 (some 30) (.binOp .eql 3 (t 29) (ci 0) 3) .pure [], uF 31 (.pick (t 23) (t 30) (.const (.bool false))) .pure []]
def r41_3 : List COp := [u 32 (.move (t 0)), u 33 (.move (t 0)), u 34 (.nilCheck (t 33)), u 35 (.fieldAddr 54 (t 34) 1), u 36 (.load 3 (t 35)), u 37 (cf 43 #[(t 32), (t 36)] #[52, 3]), u 3 (.assign (t 37))]
def r41_4 : List COp := [u 38 (.move (t 0)), u 39 (.nilCheck (t 38)), u 40 (.fieldAddr 54 (t 39) 1), u 41 (.load 3 (t 40)), u 4 (.assign (t 41))]
def r41_5 : List COp := [u 42 (.move (t 4)), u 43 (.move (t 3)), u 44 (.binOp .lss 3 (t 42) (t 43) 3), u 45 (.move (t 44)), gT 45 (some 46) (.move (t 0)), gT 45 (some 47) (.nilCheck (t 46)), gT 45 (some 48) (.fieldAddr 54 (t 47) 0), gT 45 (some 49) (.load 23 (t 48)), gT 45 (some 50) (.move (t 4)), gT 45 (some 51) (.indexAddr 23 (t 49) (t 50)), gT 45 (some 52) (.load 5 (t 51)), gT 45 (some 53) (.binOp .eql 5 (t 52) (.const (.int .u8 32)) 5), u 54 (.pick (t 45) (t 53) (.const (.bool false)))]
def r41_6 : List COp := [u 55 (.move (t 4)), u 56 (.binOp .add 3 (t 55) (ci 1) 3), u 4 (.assign (t 56))]
def r41_7 : List COp := [u 57 (.move (t 4)), u 5 (.assign (t 57))]
def r41_8 : List COp := [u 58 (.move (t 5)), u 59 (.move (t 3)), u 60 (.binOp .lss 3 (t 58) (t 59) 3), u 61 (.move (t 60)), gT 61 (some 62) (.move (t 0)), gT 61 (some 63) (.nilCheck (t 62)), gT 61 (some 64) (.fieldAddr 54 (t 63) 0), gT 61 (some 65) (.load 23 (t 64)), gT 61 (some 66) (.move (t 5)), gT 61 (some 67) (.indexAddr 23 (t 65) (t 66)), gT 61 (some 68) (.load 5 (t 67)), gT 61 (some 69) (cf 42 #[(t 68)] #[5]), u 70 (.pick (t 61) (t 69) (.const (.bool false)))]
def r41_9 : List COp := [u 71 (.move (t 5)), u 72 (.binOp .add 3 (t 71) (ci 1) 3), u 5 (.assign (t 72))]
def r41_10 : List COp := [u 73 (.move (t 5)), u 74 (.move (t 3)), u 75 (.binOp .lss 3 (t 73) (t 74) 3), u 76 (.move (t 75)), gT 76 (some 77) (.move (t 4)), gT 76 (some 78) (.move (t 0)), gT 76 (some 79) (.nilCheck (t 78)), gT 76 (some 80) (.fieldAddr 54 (t 79) 1), gT 76 (some 81) (.load 3 (t 80)), gT 76 (some 82) (.binOp .sub 3 (t 77) (t 81) 3), gT 76 (some 83) (.move (t 2)), gT 76 (some 84) (.binOp .leq 3 (t 82) (t 83) 3), u 85 (.pick (t 76) (t 84) (.const (.bool false)))]
def r41_11 : List COp := [u 86 (.move (t 0)), u 87 (.move (t 3)), u 88 (.move (t 0)), u 89 (.nilCheck (t 88)), u 90 (.fieldAddr 54 (t 89) 0), u 91 (.load 23 (t 90)), u 92 (.move (t 3)), u 93 (cf 40 #[(t 91), (t 92)] #[23, 3]), u 94 (.binOp .add 3 (t 87) (t 93) 3), u 95 (cf 21 #[(t 86), (ci 19), (t 94)] #[52, 3, 3])]
def r41_12 : List COp := [u 96 (.move (t 0)), u 97 (cf 19 #[(t 96)] #[52])]
def correctorref6_scanner_texts_l1 (F : Nat) (a0 : correctorref6_scanner) : Nat → correctorref6_scanner → Int → Int → Option (correctorref6_scanner × Int × Int)
  | 0, _, _, _ => none
  | n + 1, x2314, x2320, x2321 =>
    if x2321 < x2320 then
      if 0 ≤ x2321 ∧ x2321 < (x2314.B.length : Int) then
        (x2314.B[x2321.toNat]?).bind fun x2345 =>
        if (x2345.toNat : Int) = (32 : Int) then
          correctorref6_scanner_texts_l1 F a0 n x2314 x2320 (w64 (x2321 + 1))
        else
          some (x2314, x2320, x2321)
      else none
    else
      some (x2314, x2320, x2321)
def correctorref6_scanner_texts_l2 (F : Nat) (a0 : correctorref6_scanner) : Nat → correctorref6_scanner → Int → Int → Int → Option (correctorref6_scanner × Int × Int × Int)
  | 0, _, _, _, _ => none
  | n + 1, x2435, x2441, x2442, x2443 =>
    if x2443 < x2441 then
      if 0 ≤ x2443 ∧ x2443 < (x2435.B.length : Int) then
        (x2435.B[x2443.toNat]?).bind fun x2481 =>
        (correctorref5_Blank F (x2481.toNat : Int)).bind fun r2487 =>
        if r2487 = true then
          correctorref6_scanner_texts_l2 F a0 n x2435 x2441 x2442 (w64 (x2443 + 1))
        else
          some (x2435, x2441, x2442, x2443)
      else none
    else
      some (x2435, x2441, x2442, x2443)
def correctorref6_scanner_texts_l0 (F : Nat) (a0 : correctorref6_scanner) : Nat → correctorref6_scanner → Option (Sum correctorref6_scanner correctorref6_scanner)
  | 0, _ => none
  | n + 1, x2177 =>
    if x2177.At < (x2177.B.length : Int) then
      (correctorref6_scanner_mark F x2177 x2177.At).bind fun r2246 =>
      if r2246 = (0 : Int) then
        (correctorref6_scanner_rowEnd F x2177 x2177.At).bind fun r2262 =>
        ((correctorref6_scanner_texts_l1 F a0 F x2177 r2262 x2177.At) : Option (correctorref6_scanner × Int × Int)).bind fun o => match o with
          | (x2361, x2367, x2368) => ((correctorref6_scanner_texts_l2 F a0 F x2361 x2367 x2368 x2368) : Option (correctorref6_scanner × Int × Int × Int)).bind fun o => match o with
            | (x2506, x2512, x2513, x2514) => ((if x2514 < x2512 then
                if (w64 (x2513 - x2506.At)) ≤ a0.Text then
                  some (.inr x2506)
                else
                  some (.inl x2506)
              else
                some (.inl x2506)) : Option (Sum correctorref6_scanner correctorref6_scanner)).bind fun o => match o with
              | .inl x2524 => (correctorref2_Break F x2524.B x2512).bind fun r2532 =>
              (correctorref6_scanner_add F x2524 19 (w64 (x2512 + r2532))).bind fun r2539 =>
              (correctorref6_scanner_next F r2539).bind fun r2555 =>
              correctorref6_scanner_texts_l0 F a0 n r2555
              | .inr y => some (.inr y)
      else
        some (.inl x2177)
    else
      some (.inl x2177)
def correctorref6_scanner_texts (F : Nat) (a0 : correctorref6_scanner) : Option correctorref6_scanner :=
  ((correctorref6_scanner_texts_l0 F a0 F (⟨a0.B, a0.At, a0.Row, a0.Open, a0.Base, a0.Only, (-2), a0.L⟩ : correctorref6_scanner)) : Option (Sum correctorref6_scanner correctorref6_scanner)).bind fun o => match o with
    | .inl x2602 => some x2602
    | .inr y => some y
theorem correctorref6_scanner_texts_ok (F : Nat) {h : AH} {Z : Zn} {a0 : correctorref6_scanner} {b914 : Nat} {v916 : Value} {v918 : Value} {c919 : List Value} (hP : Pre Z h [.blk b914 (K54 v916 v918 a0), .gs v918 c919 (csz api_Token)]) (q915 : RS (α := UInt8) Z v916 a0.B) (q917 : RCs (α := api_Token) Z c919 a0.L) {r : correctorref6_scanner} (hm : correctorref6_scanner_texts F a0 = some r) :
    ∃ v h' Z' A', callI Go.Proofs.Try.prog 41 [Pt b914 0] h = some (v, h') ∧ St h (idsL [.blk b914 (K54 v916 v918 a0), .gs v918 c919 (csz api_Token)]) Z (0, 0) Z' h' A' ∧ ∃ v1636 : Value, ∃ v1638 : Value, ∃ c1639 : List Value, .tuple #[] = v ∧ A' = [.blk b914 (K54 v1636 v1638 r), .gs v1638 c1639 (csz api_Token)] ∧ RS (α := UInt8) Z' v1636 r.B ∧ RCs (α := api_Token) Z' c1639 r.L := by
  refine fn_intro (A := [.blk b914 (K54 v916 v918 a0), .gs v918 c919 (csz api_Token)]) (Q := fun v Z' A' => ∃ v1636 : Value, ∃ v1638 : Value, ∃ c1639 : List Value, .tuple #[] = v ∧ A' = [.blk b914 (K54 v1636 v1638 r), .gs v1638 c1639 (csz api_Token)] ∧ RS (α := UInt8) Z' v1636 r.B ∧ RCs (α := api_Token) Z' c1639 r.L) Go.Proofs.Try.func41 rfl rfl (by kernel_rfl) hP ?_
  intro hs hS
  unfold correctorref6_scanner_texts at hm
  refine sr r41_0 ?_
  refine xq 3 [(8, Pt b914 6), (0, Pt b914 0)] ?_
  refine r_step rfl trivial (o_ldb (v := V a0.Text) hS (i := 0) rfl rfl (by kernel_rfl)) ?_
  refine xe 1 [(2, V a0.Text), (0, Pt b914 0)] ?_
  refine sr r41_1 ?_
  refine xq 3 [(12, Pt b914 6), (2, V a0.Text), (0, Pt b914 0)] ?_
  refine r_ex1 rfl trivial (o_stb (vs := [V (-2)]) (cells' := [v916, V a0.At, V a0.Row, V a0.Open, V a0.Base, .bool a0.Only, V (-2), v918]) (L' := [.blk b914 [v916, V a0.At, V a0.Row, V a0.Open, V a0.Base, .bool a0.Only, V (-2), v918], .gs v918 c919 (csz api_Token)]) hS (i := 0) rfl rfl rfl rfl (by kernel_rfl) rfl rfl rfl rfl) ?_
  intro h1640 hS1641
  refine xf [(2, V a0.Text), (0, Pt b914 0)] ?_
  obtain ⟨o2175, ho2174, hm⟩ := obind hm
  refine W_join [] (fun l h => ∃ Z2601 : Zn, ∃ x2602 : correctorref6_scanner, ∃ v2604 : Value, ∃ v2606 : Value, ∃ c2607 : List Value, .inl x2602 = o2175 ∧ RS (α := UInt8) Z2601 v2604 x2602.B ∧ RCs (α := api_Token) Z2601 c2607 x2602.L ∧ l = [] ∧ St hs (idsL [.blk b914 (K54 v916 v918 a0), .gs v918 c919 (csz api_Token)]) Z (0, 0) Z2601 h [.blk b914 (K54 v2604 v2606 x2602), .gs v2606 c2607 (csz api_Token)]) ?_ ?_
  rintro l h2608 ⟨Z2601, x2602, v2604, v2606, c2607, rfl, q2603, q2605, rfl, hS2609⟩
  try dsimp only at hm
  obtain rfl := Option.some.inj hm
  refine ⟨_, _, _, ResL.nil, hS2609, ?_⟩
  exact ⟨v2604, v2606, c2607, rfl, rfl, q2603, q2605⟩
  refine bk 0 ?_
  refine lp [0, 2] (fun n l h => ∃ Z2176 : Zn, ∃ x2177 : correctorref6_scanner, ∃ v2179 : Value, ∃ v2181 : Value, ∃ c2182 : List Value, correctorref6_scanner_texts_l0 F a0 n x2177 = some o2175 ∧ RS (α := UInt8) Z2176 v2179 x2177.B ∧ RCs (α := api_Token) Z2176 c2182 x2177.L ∧ l = [(0, Pt b914 0), (2, V a0.Text)] ∧ St hs (idsL [.blk b914 (K54 v916 v918 a0), .gs v918 c919 (csz api_Token)]) Z (0, 0) Z2176 h [.blk b914 (K54 v2179 v2181 x2177), .gs v2181 c2182 (csz api_Token)]) F ⟨_, (⟨a0.B, a0.At, a0.Row, a0.Open, a0.Base, a0.Only, (-2), a0.L⟩ : correctorref6_scanner), v916, v918, c919, ho2174, q915, q917, rfl, hS1641⟩ ?_
  rintro n2185 l h2183 ⟨Z2176, x2177, v2179, v2181, c2182, ho2174, q2178, q2180, rfl, hS2184⟩
  rcases n2185 with _ | n2185
  cases (show none = some o2175 from ho2174)
  rw [correctorref6_scanner_texts_l0] at ho2174
  refine sq ?_
  refine srF r41_2 hS2184 ?_
  intro bs2238 h2239 hlv2241 hS2240
  refine yq 3 [(15, Pt b914 1), (0, Pt b914 0), (2, V a0.Text)] ?_
  have lt2242 : b914 < bs2238 := hlv2241.1 _ (List.mem_of_getElem? (i := 0) rfl) _ (by simp [Itm.ids])
  refine e_lookB rfl trivial rfl (by show b914 < _; omega) (same1 (v := V x2177.At) trivial) (o_ldb (v := V x2177.At) hS2240 (i := 0) rfl rfl (by kernel_rfl)) trivial ?_
  refine yq 3 [(19, Pt b914 0), (16, V x2177.At), (0, Pt b914 0), (2, V a0.Text)] ?_
  have lt2243 : b914 < bs2238 := hlv2241.1 _ (List.mem_of_getElem? (i := 0) rfl) _ (by simp [Itm.ids])
  refine e_lookB rfl trivial rfl (by show b914 < _; omega) (same1 (v := v2179) (RS.sim1 q2178)) (o_ldb (v := v2179) hS2240 (i := 0) rfl rfl (by kernel_rfl)) trivial ?_
  refine e_val rfl trivial (o_len rfl (RS.len q2178) ⟨_, Go.Proofs.Try.underlying23⟩) ?_
  rcases ifs ho2174 with ⟨hp2244, ho2174⟩ | ⟨hp2244, ho2174⟩
  refine e_val rfl trivial (o_cmp rfl rfl (c_lss_T hp2244)) ?_
  refine yq 5 [(27, Pt b914 1), (24, Pt b914 0), (23, .bool true), (0, Pt b914 0), (2, V a0.Text)] ?_
  have lt2245 : b914 < bs2238 := hlv2241.1 _ (List.mem_of_getElem? (i := 0) rfl) _ (by simp [Itm.ids])
  refine e_lookB rfl rfl rfl (by show b914 < _; omega) (same1 (v := V x2177.At) trivial) (o_ldb (v := V x2177.At) hS2240 (i := 0) rfl rfl (by kernel_rfl)) trivial ?_
  obtain ⟨r2246, hx2247, ho2174⟩ := obind ho2174
  have hF2254 : St _ _ _ _ _ _ ([.blk b914 (K54 v2179 v2181 x2177), .gs v2181 c2182 (csz api_Token)] ++ []) := ((hS2240.front 1 rfl).front 1 rfl)
  obtain ⟨v2248, h2249, Z2255, A2257, hcl2250, hSc2251, rfl, rfl⟩ := correctorref6_scanner_mark_ok F hF2254.lown.preL q2178 q2180 hx2247
  have hZ2256 := hSc2251.zle
  refine e_make rfl rfl hF2254 (o_call hcl2250 rfl rfl rfl) hSc2251 hZ2256 (.drop (by decide) (.drop (by decide) (.drop (by decide) .nil))) ?_
  intro h2258 hS2259
  replace hS2259 : St _ _ _ _ _ _ [.blk b914 (K54 v2179 v2181 x2177), .gs v2181 c2182 (csz api_Token)] := hS2259
  rcases ifs ho2174 with ⟨hp2260, ho2174⟩ | ⟨hp2260, ho2174⟩
  refine e_val rfl rfl (o_cmp rfl rfl (c_eql_T hp2260)) ?_
  refine ye 1 [(31, .bool true), (0, Pt b914 0), (2, V a0.Text)] ?_
  have hS2261 := hS2259.unres
  refine kT 31 rfl ?_
  refine bk 1 ?_
  refine sr r41_3 ?_
  refine xq 4 [(35, Pt b914 1), (32, Pt b914 0), (0, Pt b914 0), (2, V a0.Text)] ?_
  refine r_step rfl trivial (o_ldb (v := V x2177.At) hS2261 (i := 0) rfl rfl (by kernel_rfl)) ?_
  obtain ⟨r2262, hx2263, ho2174⟩ := obind ho2174
  have hF2269 : St _ _ _ _ _ _ ([.blk b914 (K54 v2179 v2181 x2177), .gs v2181 c2182 (csz api_Token)] ++ []) := ((hS2261.front 1 rfl).front 1 rfl)
  obtain ⟨v2264, h2265, Z2270, A2272, hcl2266, hSc2267, rfl, rfl⟩ := correctorref6_scanner_rowEnd_ok F hF2269.preL (q2178.mono hZ2256) (q2180.mono hZ2256) hx2263
  have hZ2271 := hSc2267.zle
  have hS2268 := hF2269.call hSc2267
  replace hS2268 : St _ _ _ _ _ _ [.blk b914 (K54 v2179 v2181 x2177), .gs v2181 c2182 (csz api_Token)] := hS2268
  refine r_step rfl trivial (o_call hcl2266 rfl rfl rfl) ?_
  refine xe 1 [(3, V r2262), (0, Pt b914 0), (2, V a0.Text)] ?_
  refine sr r41_4 ?_
  refine xq 3 [(40, Pt b914 1), (3, V r2262), (0, Pt b914 0), (2, V a0.Text)] ?_
  refine r_step rfl trivial (o_ldb (v := V x2177.At) hS2268 (i := 0) rfl rfl (by kernel_rfl)) ?_
  refine xe 1 [(4, V x2177.At), (3, V r2262), (0, Pt b914 0), (2, V a0.Text)] ?_
  refine sq ?_
  obtain ⟨o2312, ho2311, ho2174⟩ := obind ho2174
  refine W_join [0, 2, 3, 4] (fun l h => ∃ Z2360 : Zn, ∃ x2361 : correctorref6_scanner, ∃ x2367 : Int, ∃ x2368 : Int, ∃ v2363 : Value, ∃ v2365 : Value, ∃ c2366 : List Value, (x2361, x2367, x2368) = o2312 ∧ RS (α := UInt8) Z2360 v2363 x2361.B ∧ RCs (α := api_Token) Z2360 c2366 x2361.L ∧ l = [(0, Pt b914 0), (2, V a0.Text), (3, V x2367), (4, V x2368)] ∧ St hs (idsL [.blk b914 (K54 v916 v918 a0), .gs v918 c919 (csz api_Token)]) Z (0, 0) Z2360 h [.blk b914 (K54 v2363 v2365 x2361), .gs v2365 c2366 (csz api_Token)]) ?_ ?_
  rintro l h2369 ⟨Z2360, x2361, x2367, x2368, v2363, v2365, c2366, rfl, q2362, q2364, rfl, hS2370⟩
  try dsimp only at ho2174
  refine sr r41_7 ?_
  refine xe 2 [(5, V x2368), (0, Pt b914 0), (2, V a0.Text), (3, V x2367), (4, V x2368)] ?_
  refine sq ?_
  obtain ⟨o2433, ho2432, ho2174⟩ := obind ho2174
  refine W_join [0, 2, 3, 4, 5] (fun l h => ∃ Z2505 : Zn, ∃ x2506 : correctorref6_scanner, ∃ x2512 : Int, ∃ x2513 : Int, ∃ x2514 : Int, ∃ v2508 : Value, ∃ v2510 : Value, ∃ c2511 : List Value, (x2506, x2512, x2513, x2514) = o2433 ∧ RS (α := UInt8) Z2505 v2508 x2506.B ∧ RCs (α := api_Token) Z2505 c2511 x2506.L ∧ l = [(0, Pt b914 0), (2, V a0.Text), (3, V x2512), (4, V x2513), (5, V x2514)] ∧ St hs (idsL [.blk b914 (K54 v916 v918 a0), .gs v918 c919 (csz api_Token)]) Z (0, 0) Z2505 h [.blk b914 (K54 v2508 v2510 x2506), .gs v2510 c2511 (csz api_Token)]) ?_ ?_
  rintro l h2515 ⟨Z2505, x2506, x2512, x2513, x2514, v2508, v2510, c2511, rfl, q2507, q2509, rfl, hS2516⟩
  try dsimp only at ho2174
  refine sq ?_
  obtain ⟨o2520, ho2519, ho2174⟩ := obind ho2174
  refine W_join [0, 2, 3] (fun l h => ∃ Z2523 : Zn, ∃ x2524 : correctorref6_scanner, ∃ v2526 : Value, ∃ v2528 : Value, ∃ c2529 : List Value, .inl x2524 = o2520 ∧ RS (α := UInt8) Z2523 v2526 x2524.B ∧ RCs (α := api_Token) Z2523 c2529 x2524.L ∧ l = [(0, Pt b914 0), (2, V a0.Text), (3, V x2512)] ∧ St hs (idsL [.blk b914 (K54 v916 v918 a0), .gs v918 c919 (csz api_Token)]) Z (0, 0) Z2523 h [.blk b914 (K54 v2526 v2528 x2524), .gs v2528 c2529 (csz api_Token)]) ?_ ?_
  rintro l h2530 ⟨Z2523, x2524, v2526, v2528, c2529, rfl, q2525, q2527, rfl, hS2531⟩
  try dsimp only at ho2174
  refine sr r41_11 ?_
  refine xq 5 [(90, Pt b914 0), (87, V x2512), (86, Pt b914 0), (0, Pt b914 0), (2, V a0.Text), (3, V x2512)] ?_
  refine r_step rfl trivial (o_ldb (v := v2526) hS2531 (i := 0) rfl rfl (by kernel_rfl)) ?_
  refine xq 1 [(92, V x2512), (91, v2526), (87, V x2512), (86, Pt b914 0), (0, Pt b914 0), (2, V a0.Text)] ?_
  obtain ⟨r2532, hx2533, ho2174⟩ := obind ho2174
  obtain ⟨v2534, h2535, hcl2536, hSc2537, rfl⟩ := correctorref2_Break_ok F hS2531.inv q2525 hx2533
  have hS2538 := St.call (A := []) (B := [.blk b914 (K54 v2526 v2528 x2524), .gs v2528 c2529 (csz api_Token)]) hS2531 hSc2537
  replace hS2538 : St _ _ _ _ _ _ [.blk b914 (K54 v2526 v2528 x2524), .gs v2528 c2529 (csz api_Token)] := hS2538
  refine r_step rfl trivial (o_call hcl2536 rfl rfl rfl) ?_
  refine xq 1 [(94, V (w64 (x2512 + r2532))), (86, Pt b914 0), (0, Pt b914 0), (2, V a0.Text)] ?_
  obtain ⟨r2539, hx2540, ho2174⟩ := obind ho2174
  have hF2546 : St _ _ _ _ _ _ ([.blk b914 (K54 v2526 v2528 x2524), .gs v2528 c2529 (csz api_Token)] ++ []) := ((hS2538.front 1 rfl).front 1 rfl)
  obtain ⟨v2541, h2542, Z2547, A2549, hcl2543, hSc2544, v2551, v2553, c2554, rfl, rfl, q2550, q2552⟩ := correctorref6_scanner_add_ok F hF2546.preL q2525 q2527 hx2540
  have hZ2548 := hSc2544.zle
  have hS2545 := hF2546.call hSc2544
  replace hS2545 : St _ _ _ _ _ _ [.blk b914 (K54 v2551 v2553 r2539), .gs v2553 c2554 (csz api_Token)] := hS2545
  refine r_step rfl trivial (o_call hcl2543 rfl rfl rfl) ?_
  refine xf [(0, Pt b914 0), (2, V a0.Text)] ?_
  refine rg r41_12 ?_
  refine xq 1 [(96, Pt b914 0), (0, Pt b914 0), (2, V a0.Text)] ?_
  obtain ⟨r2555, hx2556, ho2174⟩ := obind ho2174
  have hF2562 : St _ _ _ _ _ _ ([.blk b914 (K54 v2551 v2553 r2539), .gs v2553 c2554 (csz api_Token)] ++ []) := ((hS2545.front 1 rfl).front 1 rfl)
  obtain ⟨v2557, h2558, Z2563, A2565, hcl2559, hSc2560, v2567, c2569, rfl, rfl, q2566, q2568⟩ := correctorref6_scanner_next_ok F hF2562.preL q2550 q2552 hx2556
  have hZ2564 := hSc2560.zle
  have hS2561 := hF2562.call hSc2560
  replace hS2561 : St _ _ _ _ _ _ [.blk b914 (K54 v2567 v2553 r2555), .gs v2553 c2569 (csz api_Token)] := hS2561
  refine r_step rfl trivial (o_call hcl2559 rfl rfl rfl) ?_
  refine xf [(0, Pt b914 0), (2, V a0.Text)] ?_
  exact ⟨n2185, Nat.lt_succ_self _, ⟨_, r2555, v2567, v2553, c2569, ho2174, q2566, q2568, rfl, hS2561⟩⟩
  refine sr r41_10 ?_
  refine xq 2 [(74, V x2512), (73, V x2514), (0, Pt b914 0), (2, V a0.Text), (3, V x2512), (4, V x2513)] ?_
  rcases ifs ho2519 with ⟨hp2521, ho2519⟩ | ⟨hp2521, ho2519⟩
  refine r_step rfl trivial (o_cmp rfl rfl (c_lss_T hp2521)) ?_
  refine xq 5 [(80, Pt b914 1), (77, V x2513), (76, .bool true), (0, Pt b914 0), (2, V a0.Text), (3, V x2512)] ?_
  refine r_step rfl rfl (o_ldb (v := V x2506.At) hS2516 (i := 0) rfl rfl (by kernel_rfl)) ?_
  refine xq 2 [(83, V a0.Text), (82, V (w64 (x2513 - x2506.At))), (76, .bool true), (0, Pt b914 0), (2, V a0.Text), (3, V x2512)] ?_
  rcases ifs ho2519 with ⟨hp2522, ho2519⟩ | ⟨hp2522, ho2519⟩
  refine r_step rfl rfl (o_cmp rfl rfl (c_leq_T hp2522)) ?_
  refine xe 1 [(85, .bool true), (0, Pt b914 0), (2, V a0.Text), (3, V x2512)] ?_
  refine cT 85 rfl ?_
  refine rt ?_
  refine blkX_ret ?_
  refine blkX_ret ?_
  refine ⟨rfl, ?_⟩
  obtain rfl := Option.some.inj ho2519
  obtain rfl := Option.some.inj ho2174
  obtain rfl := Option.some.inj hm
  refine ⟨_, _, _, ResL.nil, hS2516, ?_⟩
  exact ⟨v2508, v2510, c2511, rfl, rfl, q2507, q2509⟩
  refine r_step rfl rfl (o_cmp rfl rfl (c_leq_F hp2522)) ?_
  refine xe 1 [(85, .bool false), (0, Pt b914 0), (2, V a0.Text), (3, V x2512)] ?_
  refine kF 85 rfl ?_
  obtain rfl := Option.some.inj ho2519
  exact ⟨_, x2506, v2508, v2510, c2511, rfl, q2507, q2509, rfl, hS2516⟩
  refine r_step rfl trivial (o_cmp rfl rfl (c_lss_F hp2521)) ?_
  refine xe 10 [(85, .bool false), (0, Pt b914 0), (2, V a0.Text), (3, V x2512)] ?_
  refine kF 85 rfl ?_
  obtain rfl := Option.some.inj ho2519
  exact ⟨_, x2506, v2508, v2510, c2511, rfl, q2507, q2509, rfl, hS2516⟩
  refine bk 4 ?_
  refine lp [0, 2, 3, 4, 5] (fun n l h => ∃ Z2434 : Zn, ∃ x2435 : correctorref6_scanner, ∃ x2441 : Int, ∃ x2442 : Int, ∃ x2443 : Int, ∃ v2437 : Value, ∃ v2439 : Value, ∃ c2440 : List Value, correctorref6_scanner_texts_l2 F a0 n x2435 x2441 x2442 x2443 = some o2433 ∧ RS (α := UInt8) Z2434 v2437 x2435.B ∧ RCs (α := api_Token) Z2434 c2440 x2435.L ∧ l = [(0, Pt b914 0), (2, V a0.Text), (3, V x2441), (4, V x2442), (5, V x2443)] ∧ St hs (idsL [.blk b914 (K54 v916 v918 a0), .gs v918 c919 (csz api_Token)]) Z (0, 0) Z2434 h [.blk b914 (K54 v2437 v2439 x2435), .gs v2439 c2440 (csz api_Token)]) F ⟨_, x2361, x2367, x2368, x2368, v2363, v2365, c2366, ho2432, q2362, q2364, rfl, hS2370⟩ ?_
  rintro n2446 l h2444 ⟨Z2434, x2435, x2441, x2442, x2443, v2437, v2439, c2440, ho2432, q2436, q2438, rfl, hS2445⟩
  rcases n2446 with _ | n2446
  cases (show none = some o2433 from ho2432)
  rw [correctorref6_scanner_texts_l2] at ho2432
  refine sq ?_
  refine sr r41_8 ?_
  refine xq 2 [(59, V x2441), (58, V x2443), (0, Pt b914 0), (2, V a0.Text), (3, V x2441), (4, V x2442), (5, V x2443)] ?_
  rcases ifs ho2432 with ⟨hp2479, ho2432⟩ | ⟨hp2479, ho2432⟩
  refine r_step rfl trivial (o_cmp rfl rfl (c_lss_T hp2479)) ?_
  refine xq 4 [(64, Pt b914 0), (61, .bool true), (0, Pt b914 0), (2, V a0.Text), (3, V x2441), (4, V x2442), (5, V x2443)] ?_
  refine r_step rfl rfl (o_ldb (v := v2437) hS2445 (i := 0) rfl rfl (by kernel_rfl)) ?_
  refine xq 1 [(66, V x2443), (65, v2437), (61, .bool true), (0, Pt b914 0), (2, V a0.Text), (3, V x2441), (4, V x2442), (5, V x2443)] ?_
  obtain ⟨hc2480, ho2432⟩ := chk ho2432
  refine r_step rfl rfl (o_index rfl rfl (by kernel_rfl : slTy _ _ = some (csz UInt8)) (RS.based q2436 (by omega)) hc2480.1 hc2480.2) ?_
  obtain ⟨x2481, hx2482, ho2432⟩ := obind ho2432
  obtain ⟨cs2483, hc2484, he2485⟩ := RS.elz q2436 (i := x2443) hx2482
  obtain rfl := rc_UInt8 hc2484
  refine r_step rfl rfl (o_lde (w := .int .u8 (x2481.toNat : Int)) (he2485 _ (hS2445.zin0 (Zle.refl _))) rfl (by kernel_rfl)) ?_
  obtain ⟨r2487, hx2488, ho2432⟩ := obind ho2432
  obtain ⟨v2489, h2490, hcl2491, hSc2492, rfl⟩ := correctorref5_Blank_ok F hS2445.inv  hx2488
  have hS2493 := St.call (A := []) (B := [.blk b914 (K54 v2437 v2439 x2435), .gs v2439 c2440 (csz api_Token)]) hS2445 hSc2492
  replace hS2493 : St _ _ _ _ _ _ [.blk b914 (K54 v2437 v2439 x2435), .gs v2439 c2440 (csz api_Token)] := hS2493
  refine r_step rfl rfl (o_call hcl2491 rfl rfl rfl) ?_
  refine xe 1 [(70, .bool r2487), (0, Pt b914 0), (2, V a0.Text), (3, V x2441), (4, V x2442), (5, V x2443)] ?_
  rcases ifs ho2432 with ⟨hp2495, ho2432⟩ | ⟨hp2495, ho2432⟩
  refine W_condT (x := .tmp 70) (by kernel_rfl) rfl hp2495 ?_
  refine sk ?_
  refine bk 5 ?_
  refine rg r41_9 ?_
  refine xe 3 [(5, V (w64 (x2443 + 1))), (0, Pt b914 0), (2, V a0.Text), (3, V x2441), (4, V x2442)] ?_
  exact ⟨n2446, Nat.lt_succ_self _, ⟨_, x2435, x2441, x2442, w64 (x2443 + 1), v2437, v2439, c2440, ho2432, q2436, q2438, rfl, hS2493⟩⟩
  refine W_condF (x := .tmp 70) (by kernel_rfl) rfl (Bool.eq_false_iff.2 hp2495) ?_
  refine xt 4 ?_
  refine blkX_hit ?_
  obtain rfl := Option.some.inj ho2432
  exact ⟨_, x2435, x2441, x2442, x2443, v2437, v2439, c2440, rfl, q2436, q2438, rfl, hS2493⟩
  refine r_step rfl trivial (o_cmp rfl rfl (c_lss_F hp2479)) ?_
  refine xe 10 [(70, .bool false), (0, Pt b914 0), (2, V a0.Text), (3, V x2441), (4, V x2442), (5, V x2443)] ?_
  refine cF 70 rfl ?_
  refine xt 4 ?_
  refine blkX_hit ?_
  obtain rfl := Option.some.inj ho2432
  exact ⟨_, x2435, x2441, x2442, x2443, v2437, v2439, c2440, rfl, q2436, q2438, rfl, hS2445⟩
  refine bk 2 ?_
  refine lp [0, 2, 3, 4] (fun n l h => ∃ Z2313 : Zn, ∃ x2314 : correctorref6_scanner, ∃ x2320 : Int, ∃ x2321 : Int, ∃ v2316 : Value, ∃ v2318 : Value, ∃ c2319 : List Value, correctorref6_scanner_texts_l1 F a0 n x2314 x2320 x2321 = some o2312 ∧ RS (α := UInt8) Z2313 v2316 x2314.B ∧ RCs (α := api_Token) Z2313 c2319 x2314.L ∧ l = [(0, Pt b914 0), (2, V a0.Text), (3, V x2320), (4, V x2321)] ∧ St hs (idsL [.blk b914 (K54 v916 v918 a0), .gs v918 c919 (csz api_Token)]) Z (0, 0) Z2313 h [.blk b914 (K54 v2316 v2318 x2314), .gs v2318 c2319 (csz api_Token)]) F ⟨_, x2177, r2262, x2177.At, v2179, v2181, c2182, ho2311, (q2178.mono (hZ2256.trans hZ2271)), (q2180.mono (hZ2256.trans hZ2271)), rfl, hS2268⟩ ?_
  rintro n2324 l h2322 ⟨Z2313, x2314, x2320, x2321, v2316, v2318, c2319, ho2311, q2315, q2317, rfl, hS2323⟩
  rcases n2324 with _ | n2324
  cases (show none = some o2312 from ho2311)
  rw [correctorref6_scanner_texts_l1] at ho2311
  refine sq ?_
  refine sr r41_5 ?_
  refine xq 2 [(43, V x2320), (42, V x2321), (0, Pt b914 0), (2, V a0.Text), (3, V x2320), (4, V x2321)] ?_
  rcases ifs ho2311 with ⟨hp2343, ho2311⟩ | ⟨hp2343, ho2311⟩
  refine r_step rfl trivial (o_cmp rfl rfl (c_lss_T hp2343)) ?_
  refine xq 4 [(48, Pt b914 0), (45, .bool true), (0, Pt b914 0), (2, V a0.Text), (3, V x2320), (4, V x2321)] ?_
  refine r_step rfl rfl (o_ldb (v := v2316) hS2323 (i := 0) rfl rfl (by kernel_rfl)) ?_
  refine xq 1 [(50, V x2321), (49, v2316), (45, .bool true), (0, Pt b914 0), (2, V a0.Text), (3, V x2320), (4, V x2321)] ?_
  obtain ⟨hc2344, ho2311⟩ := chk ho2311
  refine r_step rfl rfl (o_index rfl rfl (by kernel_rfl : slTy _ _ = some (csz UInt8)) (RS.based q2315 (by omega)) hc2344.1 hc2344.2) ?_
  obtain ⟨x2345, hx2346, ho2311⟩ := obind ho2311
  obtain ⟨cs2347, hc2348, he2349⟩ := RS.elz q2315 (i := x2321) hx2346
  obtain rfl := rc_UInt8 hc2348
  refine r_step rfl rfl (o_lde (w := .int .u8 (x2345.toNat : Int)) (he2349 _ (hS2323.zin0 (Zle.refl _))) rfl (by kernel_rfl)) ?_
  rcases ifs ho2311 with ⟨hp2351, ho2311⟩ | ⟨hp2351, ho2311⟩
  refine r_step rfl rfl (o_cmp rfl rfl (c_eql_T hp2351)) ?_
  refine xe 1 [(54, .bool true), (0, Pt b914 0), (2, V a0.Text), (3, V x2320), (4, V x2321)] ?_
  refine kT 54 rfl ?_
  refine bk 3 ?_
  refine rg r41_6 ?_
  refine xe 3 [(4, V (w64 (x2321 + 1))), (0, Pt b914 0), (2, V a0.Text), (3, V x2320)] ?_
  exact ⟨n2324, Nat.lt_succ_self _, ⟨_, x2314, x2320, w64 (x2321 + 1), v2316, v2318, c2319, ho2311, q2315, q2317, rfl, hS2323⟩⟩
  refine r_step rfl rfl (o_cmp rfl rfl (c_eql_F hp2351)) ?_
  refine xe 1 [(54, .bool false), (0, Pt b914 0), (2, V a0.Text), (3, V x2320), (4, V x2321)] ?_
  refine cF 54 rfl ?_
  refine xt 2 ?_
  refine blkX_hit ?_
  obtain rfl := Option.some.inj ho2311
  exact ⟨_, x2314, x2320, x2321, v2316, v2318, c2319, rfl, q2315, q2317, rfl, hS2323⟩
  refine r_step rfl trivial (o_cmp rfl rfl (c_lss_F hp2343)) ?_
  refine xe 10 [(54, .bool false), (0, Pt b914 0), (2, V a0.Text), (3, V x2320), (4, V x2321)] ?_
  refine cF 54 rfl ?_
  refine xt 2 ?_
  refine blkX_hit ?_
  obtain rfl := Option.some.inj ho2311
  exact ⟨_, x2314, x2320, x2321, v2316, v2318, c2319, rfl, q2315, q2317, rfl, hS2323⟩
  refine e_val rfl rfl (o_cmp rfl rfl (c_eql_F hp2260)) ?_
  refine ye 1 [(31, .bool false), (0, Pt b914 0), (2, V a0.Text)] ?_
  have hS2593 := hS2259.unres
  refine cF 31 rfl ?_
  refine xt 0 ?_
  refine blkX_hit ?_
  obtain rfl := Option.some.inj ho2174
  exact ⟨_, x2177, v2179, v2181, c2182, rfl, (q2178.mono hZ2256), (q2180.mono hZ2256), rfl, hS2593⟩
  refine e_val rfl trivial (o_cmp rfl rfl (c_lss_F hp2244)) ?_
  refine ye 9 [(31, .bool false), (0, Pt b914 0), (2, V a0.Text)] ?_
  have hS2594 := hS2240.unres
  refine cF 31 rfl ?_
  refine xt 0 ?_
  refine blkX_hit ?_
  obtain rfl := Option.some.inj ho2174
  exact ⟨_, x2177, v2179, v2181, c2182, rfl, q2178, q2180, rfl, hS2594⟩

def r22_0 : List COp := [u 2 (.assign (.const (.bool false)))]
def r22_1 : List COpF := [uF 7 (.move (t 0)) .pure [], uF 8 (.nilCheck (t 7)) .pure [], uF 9 (.fieldAddr 54 (t 8) 0) .pure [], uF 10 (.load 23 (t 9)) .look [], uF 11 (.move (t 0)) .pure [], uF 12 (.nilCheck (t 11)) .pure [], uF 13 (.fieldAddr 54 (t 12) 1) .pure [], uF 14 (.load 3 (t 13)) .look [], uF 15 (.indexAddr 23 (t 10) (t 14)) .pure [], uF 16 (.load 5 (t 15)) .look [], uF 3 (.assign (t 16)) .pure []]
def r22_2 : List COp := [u 17 (.move (t 0)), u 18 (.nilCheck (t 17)), u 19 (.fieldAddr 54 (t 18) 1), u 20 (.load 3 (t 19)), u 4 (.assign (t 20))]
def r22_3 : List COp := [u 21 (.move (t 0)), u 22 (.nilCheck (t 21)), u 23 (.fieldAddr 54 (t 22) 0), u 24 (.load 23 (t 23)), u 25 (.move (t 4)), u 26 (cf 40 #[(t 24), (t 25)] #[23, 3]), u 5 (.assign (t 26))]
def r22_4 : List COp := [u 27 (.move (t 5)), u 28 (.binOp .gtr 3 (t 27) (ci 0) 3)]
def r22_5 : List COp := [u 29 (.move (t 0)), u 30 (.move (t 4)), u 31 (.move (t 5)), u 32 (.binOp .add 3 (t 30) (t 31) 3), u 33 (cf 21 #[(t 29), (ci 1), (t 32)] #[52, 3, 3])]
def r22_6 : List COp := [u 34 (.move (t 0)), u 35 (.nilCheck (t 34)), u 36 (.fieldAddr 54 (t 35) 6), u 37 (.load 3 (t 36)), u 6 (.assign (t 37))]
def r22_7 : List COp := [u 38 (.move (t 0)), u 39 (cf 19 #[(t 38)] #[52])]
def r22_8 : List COp := [u 40 (.move (t 6)), u 41 (.binOp .geq 3 (t 40) (ci (-1)) 3)]
def r22_9 : List COp := [u 42 (.move (t 0)), u 43 (cf 41 #[(t 42)] #[52])]
def r22_10 : List COp := [u 2 (.assign (.const (.bool true)))]
def r22_11 : List COpF := [uF 44 (.move (t 0)) .pure [], uF 45 (.nilCheck (t 44)) .pure [], uF 46 (.fieldAddr 54 (t 45) 1) .pure [], uF 47 (.load 3 (t 46)) .look [], uF 48 (.move (t 0)) .pure [], uF 49 (.nilCheck (t 48)) .pure [], uF 50 (.fieldAddr 54 (t 49) 2) .pure [], uF 51 (.load 3 (t 50)) .look [], uF 52 (.binOp .eql 3 (t 47) (t 51) 3) .pure [], uF 53 (.move (t 52)) .pure [], gTF 53 (some 54) (.move (t 3)) .pure [], gTF 53 (some 55) (.binOp .eql 5 (t 54) (.const (.int .u8 32)) 5) .pure [], uF 56 (.pick (t 53) (t 55) (.const (.bool false))) .pure []]
def r22_12 : List COp := [u 57 (.move (t 4)), u 58 (.move (t 0)), u 59 (.nilCheck (t 58)), u 60 (.fieldAddr 54 (t 59) 0), u 61 (.load 23 (t 60)), u 62 (cb .len #[(t 61)] #[23]), u 63 (.binOp .lss 3 (t 57) (t 62) 3), u 64 (.move (t 63)), gT 64 (some 65) (.move (t 0)), gT 64 (some 66) (.nilCheck (t 65)), gT 64 (some 67) (.fieldAddr 54 (t 66) 0), gT 64 (some 68) (.load 23 (t 67)), gT 64 (some 69) (.move (t 4)), gT 64 (some 70) (.indexAddr 23 (t 68) (t 69)), gT 64 (some 71) (.load 5 (t 70)), gT 64 (some 72) (.binOp .eql 5 (t 71) (.const (.int .u8 32)) 5), u 73 (.pick (t 64) (t 72) (.const (.bool false)))]
def r22_13 : List COp := [u 74 (.move (t 4)), u 75 (.binOp .add 3 (t 74) (ci 1) 3), u 4 (.assign (t 75))]
def r22_14 : List COp := [u 76 (.move (t 0)), u 77 (.move (t 4)), u 78 (cf 21 #[(t 76), (ci 2), (t 77)] #[52, 3, 3])]
def r22_15 : List COp := [u 2 (.assign (.const (.bool true)))]
def r22_16 : List COp := [u 79 (.move (t 3)), u 80 (cf 42 #[(t 79)] #[5])]
def r22_17 : List COp := [u 81 (.move (t 4)), u 82 (.move (t 0)), u 83 (.nilCheck (t 82)), u 84 (.fieldAddr 54 (t 83) 0), u 85 (.load 23 (t 84)), u 86 (cb .len #[(t 85)] #[23]), u 87 (.binOp .lss 3 (t 81) (t 86) 3), u 88 (.move (t 87)), gT 88 (some 89) (.move (t 0)), gT 88 (some 90) (.nilCheck (t 89)), gT 88 (some 91) (.fieldAddr 54 (t 90) 0), gT 88 (some 92) (.load 23 (t 91)), gT 88 (some 93) (.move (t 4)), gT 88 (some 94) (.indexAddr 23 (t 92) (t 93)), gT 88 (some 95) (.load 5 (t 94)), gT 88 (some 96) (cf 42 #[(t 95)] #[5]), u 97 (.pick (t 88) (t 96) (.const (.bool false)))]
def r22_18 : List COp := [u 98 (.move (t 4)), u 99 (.binOp .add 3 (t 98) (ci 1) 3), u 4 (.assign (t 99))]
def r22_19 : List COp := [u 100 (.move (t 0)), u 101 (.move (t 4)), u 102 (cf 21 #[(t 100), (ci 3), (t 101)] #[52, 3, 3])]
def r22_20 : List COp := [u 2 (.assign (.const (.bool true)))]
def r22_21 : List COpF := [uF 103 (.move (t 3)) .pure [], uF 104 (.binOp .eql 5 (t 103) (.const (.int .u8 35)) 5) .pure [], uF 105 (.move (t 104)) .pure [], gTF 105 (some 106) (.move (t 0)) .pure [], gTF 105 (some 107) (.nilCheck (t 106)) .pure [], gTF 105 (some 108) (.fieldAddr 54 (t 107) 1) .pure [], gTF 105 (some 109) (.load 3 (t 108)) .look [], gTF 105 (some 110) (.move (t 0)) .pure [], gTF 105 (some 111) (.nilCheck (t 110)) .pure [], gTF 105 (some 112) (.fieldAddr 54 (t 111) 2) .pure [], gTF 105 (some 113) (.load 3 (t 112)) .look [], gTF 105 (some 114) (.binOp .eql 3 (t 109) (t 113) 3) .pure [], gTF 105 (some 115) (.move (t 114)) .pure [], gNF 115 (some 116) (.move (t 0)) .pure [], gNF 115 (some 117) (.nilCheck (t 116)) .pure [], gNF 115 (some 118) (.fieldAddr 54 (t 117) 7) .pure [], gNF 115 (some 119) (.load 27 (t 118)) .look [], gNF 115 (some 120) (.move (t 0)) .pure [], gNF 115 (some 121) (.nilCheck (t 120)) .pure [], gNF 115 (some 122) (.fieldAddr 54 (t 121) 7) .pure [], gNF 115 (some 123) (.load 27 (t 122)) .look [], gNF 115 (some 124) (cb .len #[(t 123)] #[27]) .pure [], gNF 115 (some 125) (.binOp .sub 3 (t 124) (ci 1) 3) .pure [], gNF 115 (some 126) (.indexAddr 27 (t 119) (t 125)) .pure [], gNF 115 (some 127) (.fieldAddr 45 (t 126) 0) .pure [], gNF 115 (some 128) (.load 3 (t 127)) .look [], gNF 115 (some 129) (.binOp .eql 3 (t 128) (ci 2) 3) .pure [], gTF 105 (some 130) (.pick (t 115) (.const (.bool true)) (t 129)) .pure [], gTF 105 (some 131) (.move (t 130)) .pure [], gNF 131 (some 132) (.move (t 0)) .pure [], gNF 131 (some 133) (.nilCheck (t 132)) .pure [], gNF 131 (some 134) (.fieldAddr 54 (t 133) 7) .pure [], gNF 131 (some 135) (.load 27 (t 134)) .look [], gNF 131 (some 136) (.move (t 0)) .pure [], gNF 131 (some 137) (.nilCheck (t 136)) .pure [], gNF 131 (some 138) (.fieldAddr 54 (t 137) 7) .pure [], gNF 131 (some 139) (.load 27 (t 138)) .look [], gNF 131 (some 140) (cb .len #[(t 139)] #[27]) .pure [], gNF 131 (some 141) (.binOp .sub 3 (t 140) (ci 1) 3) .pure [], gNF 131 (some 142) (.indexAddr 27 (t 135) (t 141)) .pure [], gNF 131 (some 143) (.fieldAddr 45 (t 142) 0) .pure [], gNF 131 (some 144) (.load 3 (t 143)) .look [], gNF 131 (some 145) (.binOp .eql 3 (t 144) (ci 3) 3) .pure [], gTF 105 (some 146) (.pick (t 131) (.const (.bool true)) (t 145)) .pure [], uF 147 (.pick (t 105) (t 146) (.const (.bool false))) .pure []]
def r22_22 : List COp := [u 148 (.move (t 0)), u 149 (.move (t 0)), u 150 (.move (t 4)), u 151 (cf 43 #[(t 149), (t 150)] #[52, 3]), u 152 (cf 21 #[(t 148), (ci 4), (t 151)] #[52, 3, 3])]
def r22_23 : List COp := [u 2 (.assign (.const (.bool true)))]
def r22_24 : List COp := [u 2 (.assign (.const (.bool false)))]
def correctorref6_scanner_space_l0 (F : Nat) (a0 : correctorref6_scanner) : Nat → Int → Option Int
  | 0, _ => none
  | n + 1, x4220 =>
    if x4220 < (a0.B.length : Int) then
      if 0 ≤ x4220 ∧ x4220 < (a0.B.length : Int) then
        (a0.B[x4220.toNat]?).bind fun x4244 =>
        if (x4244.toNat : Int) = (32 : Int) then
          correctorref6_scanner_space_l0 F a0 n (w64 (x4220 + 1))
        else
          some x4220
      else none
    else
      some x4220
def correctorref6_scanner_space_l1 (F : Nat) (a0 : correctorref6_scanner) : Nat → Int → Option Int
  | 0, _ => none
  | n + 1, x4648 =>
    if x4648 < (a0.B.length : Int) then
      if 0 ≤ x4648 ∧ x4648 < (a0.B.length : Int) then
        (a0.B[x4648.toNat]?).bind fun x4686 =>
        (correctorref5_Blank F (x4686.toNat : Int)).bind fun r4692 =>
        if r4692 = true then
          correctorref6_scanner_space_l1 F a0 n (w64 (x4648 + 1))
        else
          some x4648
      else none
    else
      some x4648
def correctorref6_scanner_space (F : Nat) (a0 : correctorref6_scanner) : Option (Bool × correctorref6_scanner) :=
  if 0 ≤ a0.At ∧ a0.At < (a0.B.length : Int) then
    (a0.B[a0.At.toNat]?).bind fun x3647 =>
    (correctorref2_Break F a0.B a0.At).bind fun r3720 =>
    if (0 : Int) < r3720 then
      (correctorref6_scanner_add F a0 1 (w64 (a0.At + r3720))).bind fun r3844 =>
      (correctorref6_scanner_next F r3844).bind fun r3860 =>
      ((if (-1 : Int) ≤ r3844.Text then
          (correctorref6_scanner_texts F r3860).bind fun r3895 =>
          some r3895
        else
          some r3860) : Option correctorref6_scanner).bind fun o => match o with
        | x3912 => some (true, x3912)
    else
      ((if a0.At = a0.Row then
          if (x3647.toNat : Int) = (32 : Int) then
            some true
          else
            some false
        else
          some false) : Option Bool).bind fun o => match o with
        | x4070 => if x4070 = true then
          ((correctorref6_scanner_space_l0 F a0 F a0.At) : Option Int).bind fun o => match o with
            | x4253 => (correctorref6_scanner_add F a0 2 x4253).bind fun r4256 =>
            some (true, r4256)
        else
          (correctorref5_Blank F (x3647.toNat : Int)).bind fun r4406 =>
          if r4406 = true then
            ((correctorref6_scanner_space_l1 F a0 F a0.At) : Option Int).bind fun o => match o with
              | x4703 => (correctorref6_scanner_add F a0 3 x4703).bind fun r4706 =>
              some (true, r4706)
          else
            ((if (x3647.toNat : Int) = (35 : Int) then
                if a0.At = a0.Row then
                  (correctorref6_scanner_rowEnd F a0 a0.At).bind fun r4854 =>
                  (correctorref6_scanner_add F a0 4 r4854).bind fun r4865 =>
                  some (.inr (true, r4865))
                else
                  if 0 ≤ (w64 ((a0.L.length : Int) - 1)) ∧ (w64 ((a0.L.length : Int) - 1)) < (a0.L.length : Int) then
                    (a0.L[(w64 ((a0.L.length : Int) - 1)).toNat]?).bind fun x4884 =>
                    if x4884.Kind = (2 : Int) then
                      (correctorref6_scanner_rowEnd F a0 a0.At).bind fun r4895 =>
                      (correctorref6_scanner_add F a0 4 r4895).bind fun r4906 =>
                      some (.inr (true, r4906))
                    else
                      if 0 ≤ (w64 ((a0.L.length : Int) - 1)) ∧ (w64 ((a0.L.length : Int) - 1)) < (a0.L.length : Int) then
                        (a0.L[(w64 ((a0.L.length : Int) - 1)).toNat]?).bind fun x4925 =>
                        if x4925.Kind = (3 : Int) then
                          (correctorref6_scanner_rowEnd F a0 a0.At).bind fun r4936 =>
                          (correctorref6_scanner_add F a0 4 r4936).bind fun r4947 =>
                          some (.inr (true, r4947))
                        else
                          some (.inl ())
                      else none
                  else none
              else
                some (.inl ())) : Option (Sum Unit (Bool × correctorref6_scanner))).bind fun o => match o with
              | .inl () => some (false, a0)
              | .inr y => some y
  else none
theorem correctorref6_scanner_space_ok (F : Nat) {h : AH} {Z : Zn} {a0 : correctorref6_scanner} {b853 : Nat} {v855 : Value} {v857 : Value} {c858 : List Value} (hP : Pre Z h [.blk b853 (K54 v855 v857 a0), .gs v857 c858 (csz api_Token)]) (q854 : RS (α := UInt8) Z v855 a0.B) (q856 : RCs (α := api_Token) Z c858 a0.L) {r : Bool × correctorref6_scanner} (hm : correctorref6_scanner_space F a0 = some r) :
    ∃ v h' Z' A', callI Go.Proofs.Try.prog 22 [Pt b853 0] h = some (v, h') ∧ St h (idsL [.blk b853 (K54 v855 v857 a0), .gs v857 c858 (csz api_Token)]) Z (0, 0) Z' h' A' ∧ ∃ v3636 : Value, ∃ v3638 : Value, ∃ c3639 : List Value, .bool r.1 = v ∧ A' = [.blk b853 (K54 v3636 v3638 r.2), .gs v3638 c3639 (csz api_Token)] ∧ RS (α := UInt8) Z' v3636 r.2.B ∧ RCs (α := api_Token) Z' c3639 r.2.L := by
  refine fn_intro (A := [.blk b853 (K54 v855 v857 a0), .gs v857 c858 (csz api_Token)]) (Q := fun v Z' A' => ∃ v3636 : Value, ∃ v3638 : Value, ∃ c3639 : List Value, .bool r.1 = v ∧ A' = [.blk b853 (K54 v3636 v3638 r.2), .gs v3638 c3639 (csz api_Token)] ∧ RS (α := UInt8) Z' v3636 r.2.B ∧ RCs (α := api_Token) Z' c3639 r.2.L) Go.Proofs.Try.func22 rfl rfl (by kernel_rfl) hP ?_
  intro hs hS
  unfold correctorref6_scanner_space at hm
  refine sr r22_0 ?_
  refine xe 1 [(0, Pt b853 0)] ?_
  refine srF r22_1 hS ?_
  intro bs3640 h3641 hlv3643 hS3642
  refine yq 3 [(9, Pt b853 0), (0, Pt b853 0)] ?_
  have lt3644 : b853 < bs3640 := hlv3643.1 _ (List.mem_of_getElem? (i := 0) rfl) _ (by simp [Itm.ids])
  refine e_lookB rfl trivial rfl (by show b853 < _; omega) (same1 (v := v855) (RS.sim1 q854)) (o_ldb (v := v855) hS3642 (i := 0) rfl rfl (by kernel_rfl)) trivial ?_
  refine yq 3 [(13, Pt b853 1), (10, v855), (0, Pt b853 0)] ?_
  have lt3645 : b853 < bs3640 := hlv3643.1 _ (List.mem_of_getElem? (i := 0) rfl) _ (by simp [Itm.ids])
  refine e_lookB rfl trivial rfl (by show b853 < _; omega) (same1 (v := V a0.At) trivial) (o_ldb (v := V a0.At) hS3642 (i := 0) rfl rfl (by kernel_rfl)) trivial ?_
  obtain ⟨hc3646, hm⟩ := chk hm
  refine e_val rfl trivial (o_index rfl rfl (by kernel_rfl : slTy _ _ = some (csz UInt8)) (RS.based q854 (by omega)) hc3646.1 hc3646.2) ?_
  obtain ⟨x3647, hx3648, hm⟩ := obind hm
  obtain ⟨cs3649, hc3650, he3651⟩ := RS.elz q854 (i := a0.At) hx3648
  obtain rfl := rc_UInt8 hc3650
  refine e_lookZ rfl rfl trivial (fun h2 hz => o_lde (w := .int .u8 (x3647.toNat : Int)) (he3651 h2 hz) rfl (by kernel_rfl)) (hS3642.zin0 (Zle.refl _)) (same1 (v := .int .u8 (x3647.toNat : Int)) trivial) trivial ?_
  refine ye 1 [(3, .int .u8 (x3647.toNat : Int)), (0, Pt b853 0)] ?_
  have hS3653 := hS3642.unres
  refine sr r22_2 ?_
  refine xq 3 [(19, Pt b853 1), (3, .int .u8 (x3647.toNat : Int)), (0, Pt b853 0)] ?_
  refine r_step rfl trivial (o_ldb (v := V a0.At) hS3653 (i := 0) rfl rfl (by kernel_rfl)) ?_
  refine xe 1 [(4, V a0.At), (3, .int .u8 (x3647.toNat : Int)), (0, Pt b853 0)] ?_
  refine sq ?_
  refine sr r22_3 ?_
  refine xq 3 [(23, Pt b853 0), (4, V a0.At), (3, .int .u8 (x3647.toNat : Int)), (0, Pt b853 0)] ?_
  refine r_step rfl trivial (o_ldb (v := v855) hS3653 (i := 0) rfl rfl (by kernel_rfl)) ?_
  refine xq 1 [(25, V a0.At), (24, v855), (4, V a0.At), (3, .int .u8 (x3647.toNat : Int)), (0, Pt b853 0)] ?_
  obtain ⟨r3720, hx3721, hm⟩ := obind hm
  obtain ⟨v3722, h3723, hcl3724, hSc3725, rfl⟩ := correctorref2_Break_ok F hS3653.inv q854 hx3721
  have hS3726 := St.call (A := []) (B := [.blk b853 (K54 v855 v857 a0), .gs v857 c858 (csz api_Token)]) hS3653 hSc3725
  replace hS3726 : St _ _ _ _ _ _ [.blk b853 (K54 v855 v857 a0), .gs v857 c858 (csz api_Token)] := hS3726
  refine r_step rfl trivial (o_call hcl3724 rfl rfl rfl) ?_
  refine xe 1 [(5, V r3720), (4, V a0.At), (3, .int .u8 (x3647.toNat : Int)), (0, Pt b853 0)] ?_
  refine sr r22_4 ?_
  refine xq 1 [(27, V r3720), (5, V r3720), (4, V a0.At), (3, .int .u8 (x3647.toNat : Int)), (0, Pt b853 0)] ?_
  rcases ifs hm with ⟨hp3786, hm⟩ | ⟨hp3786, hm⟩
  refine r_step rfl trivial (o_cmp rfl rfl (c_gtr_T hp3786)) ?_
  refine xf [(28, .bool true), (5, V r3720), (4, V a0.At), (3, .int .u8 (x3647.toNat : Int)), (0, Pt b853 0)] ?_
  refine cT 28 rfl ?_
  refine sr r22_5 ?_
  refine xq 4 [(32, V (w64 (a0.At + r3720))), (29, Pt b853 0), (0, Pt b853 0)] ?_
  obtain ⟨r3844, hx3845, hm⟩ := obind hm
  have hF3851 : St _ _ _ _ _ _ ([.blk b853 (K54 v855 v857 a0), .gs v857 c858 (csz api_Token)] ++ []) := ((hS3726.front 1 rfl).front 1 rfl)
  obtain ⟨v3846, h3847, Z3852, A3854, hcl3848, hSc3849, v3856, v3858, c3859, rfl, rfl, q3855, q3857⟩ := correctorref6_scanner_add_ok F hF3851.preL q854 q856 hx3845
  have hZ3853 := hSc3849.zle
  have hS3850 := hF3851.call hSc3849
  replace hS3850 : St _ _ _ _ _ _ [.blk b853 (K54 v3856 v3858 r3844), .gs v3858 c3859 (csz api_Token)] := hS3850
  refine r_step rfl trivial (o_call hcl3848 rfl rfl rfl) ?_
  refine xf [(0, Pt b853 0)] ?_
  refine sr r22_6 ?_
  refine xq 3 [(36, Pt b853 6), (0, Pt b853 0)] ?_
  refine r_step rfl trivial (o_ldb (v := V r3844.Text) hS3850 (i := 0) rfl rfl (by kernel_rfl)) ?_
  refine xe 1 [(6, V r3844.Text), (0, Pt b853 0)] ?_
  refine sr r22_7 ?_
  refine xq 1 [(38, Pt b853 0), (6, V r3844.Text), (0, Pt b853 0)] ?_
  obtain ⟨r3860, hx3861, hm⟩ := obind hm
  have hF3867 : St _ _ _ _ _ _ ([.blk b853 (K54 v3856 v3858 r3844), .gs v3858 c3859 (csz api_Token)] ++ []) := ((hS3850.front 1 rfl).front 1 rfl)
  obtain ⟨v3862, h3863, Z3868, A3870, hcl3864, hSc3865, v3872, c3874, rfl, rfl, q3871, q3873⟩ := correctorref6_scanner_next_ok F hF3867.preL q3855 q3857 hx3861
  have hZ3869 := hSc3865.zle
  have hS3866 := hF3867.call hSc3865
  replace hS3866 : St _ _ _ _ _ _ [.blk b853 (K54 v3872 v3858 r3860), .gs v3858 c3874 (csz api_Token)] := hS3866
  refine r_step rfl trivial (o_call hcl3864 rfl rfl rfl) ?_
  refine xf [(6, V r3844.Text), (0, Pt b853 0)] ?_
  refine sq ?_
  obtain ⟨o3893, ho3892, hm⟩ := obind hm
  refine W_seqJoin0 [] (fun l h => ∃ Z3911 : Zn, ∃ x3912 : correctorref6_scanner, ∃ v3914 : Value, ∃ v3916 : Value, ∃ c3917 : List Value, x3912 = o3893 ∧ RS (α := UInt8) Z3911 v3914 x3912.B ∧ RCs (α := api_Token) Z3911 c3917 x3912.L ∧ l = [] ∧ St hs (idsL [.blk b853 (K54 v855 v857 a0), .gs v857 c858 (csz api_Token)]) Z (0, 0) Z3911 h [.blk b853 (K54 v3914 v3916 x3912), .gs v3916 c3917 (csz api_Token)]) (by kernel_rfl) ?_ ?_
  rintro l h3918 ⟨Z3911, x3912, v3914, v3916, c3917, rfl, q3913, q3915, rfl, hS3919⟩
  try dsimp only at hm
  refine sr r22_10 ?_
  refine xe 1 [(2, .bool true)] ?_
  refine rt ?_
  refine ⟨rfl, ?_⟩
  obtain rfl := Option.some.inj hm
  refine ⟨_, _, _, ResL.tmp rfl (ResL.nil), hS3919, ?_⟩
  exact ⟨v3914, v3916, c3917, rfl, rfl, q3913, q3915⟩
  refine rg r22_8 ?_
  refine xq 1 [(40, V r3844.Text), (0, Pt b853 0)] ?_
  rcases ifs ho3892 with ⟨hp3894, ho3892⟩ | ⟨hp3894, ho3892⟩
  refine r_step rfl trivial (o_cmp rfl rfl (c_geq_T hp3894)) ?_
  refine xf [(41, .bool true), (0, Pt b853 0)] ?_
  refine cT 41 rfl ?_
  refine rg r22_9 ?_
  refine xq 1 [(42, Pt b853 0)] ?_
  obtain ⟨r3895, hx3896, ho3892⟩ := obind ho3892
  have hF3902 : St _ _ _ _ _ _ ([.blk b853 (K54 v3872 v3858 r3860), .gs v3858 c3874 (csz api_Token)] ++ []) := ((hS3866.front 1 rfl).front 1 rfl)
  obtain ⟨v3897, h3898, Z3903, A3905, hcl3899, hSc3900, v3907, v3909, c3910, rfl, rfl, q3906, q3908⟩ := correctorref6_scanner_texts_ok F hF3902.preL q3871 q3873 hx3896
  have hZ3904 := hSc3900.zle
  have hS3901 := hF3902.call hSc3900
  replace hS3901 : St _ _ _ _ _ _ [.blk b853 (K54 v3907 v3909 r3895), .gs v3909 c3910 (csz api_Token)] := hS3901
  refine r_step rfl trivial (o_call hcl3899 rfl rfl rfl) ?_
  refine xf [] ?_
  obtain rfl := Option.some.inj ho3892
  exact ⟨_, r3895, v3907, v3909, c3910, rfl, q3906, q3908, rfl, hS3901⟩
  refine r_step rfl trivial (o_cmp rfl rfl (c_geq_F hp3894)) ?_
  refine xf [(41, .bool false), (0, Pt b853 0)] ?_
  refine kF 41 rfl ?_
  obtain rfl := Option.some.inj ho3892
  exact ⟨_, r3860, v3872, v3858, c3874, rfl, q3871, q3873, rfl, hS3866⟩
  refine r_step rfl trivial (o_cmp rfl rfl (c_gtr_F hp3786)) ?_
  refine xf [(28, .bool false), (5, V r3720), (4, V a0.At), (3, .int .u8 (x3647.toNat : Int)), (0, Pt b853 0)] ?_
  refine kF 28 rfl ?_
  refine sq ?_
  refine sq ?_
  obtain ⟨o4057, ho4056, hm⟩ := obind hm
  refine W_join [0, 3, 4, 56] (fun l h => ∃ Z4069 : Zn, ∃ x4070 : Bool, x4070 = o4057 ∧ l = [(0, Pt b853 0), (3, .int .u8 (x3647.toNat : Int)), (4, V a0.At), (56, .bool x4070)] ∧ St hs (idsL [.blk b853 (K54 v855 v857 a0), .gs v857 c858 (csz api_Token)]) Z (0, 0) Z4069 h [.blk b853 (K54 v855 v857 a0), .gs v857 c858 (csz api_Token)]) ?_ ?_
  rintro l h4071 ⟨Z4069, x4070, rfl, rfl, hS4072⟩
  try dsimp only at hm
  rcases ifs hm with ⟨hp4155, hm⟩ | ⟨hp4155, hm⟩
  refine W_condT (x := .tmp 56) (by kernel_rfl) rfl hp4155 ?_
  refine sq ?_
  obtain ⟨o4218, ho4217, hm⟩ := obind hm
  refine W_join [0, 4] (fun l h => ∃ Z4252 : Zn, ∃ x4253 : Int, x4253 = o4218 ∧ l = [(0, Pt b853 0), (4, V x4253)] ∧ St hs (idsL [.blk b853 (K54 v855 v857 a0), .gs v857 c858 (csz api_Token)]) Z (0, 0) Z4252 h [.blk b853 (K54 v855 v857 a0), .gs v857 c858 (csz api_Token)]) ?_ ?_
  rintro l h4254 ⟨Z4252, x4253, rfl, rfl, hS4255⟩
  try dsimp only at hm
  refine sr r22_14 ?_
  refine xq 2 [(77, V x4253), (76, Pt b853 0)] ?_
  obtain ⟨r4256, hx4257, hm⟩ := obind hm
  have hF4263 : St _ _ _ _ _ _ ([.blk b853 (K54 v855 v857 a0), .gs v857 c858 (csz api_Token)] ++ []) := ((hS4255.front 1 rfl).front 1 rfl)
  obtain ⟨v4258, h4259, Z4264, A4266, hcl4260, hSc4261, v4268, v4270, c4271, rfl, rfl, q4267, q4269⟩ := correctorref6_scanner_add_ok F hF4263.preL (q854.mono hS4255.zle) (q856.mono hS4255.zle) hx4257
  have hZ4265 := hSc4261.zle
  have hS4262 := hF4263.call hSc4261
  replace hS4262 : St _ _ _ _ _ _ [.blk b853 (K54 v4268 v4270 r4256), .gs v4270 c4271 (csz api_Token)] := hS4262
  refine r_step rfl trivial (o_call hcl4260 rfl rfl rfl) ?_
  refine xf [] ?_
  refine sr r22_15 ?_
  refine xe 1 [(2, .bool true)] ?_
  refine rt ?_
  refine ⟨rfl, ?_⟩
  obtain rfl := Option.some.inj hm
  refine ⟨_, _, _, ResL.tmp rfl (ResL.nil), hS4262, ?_⟩
  exact ⟨v4268, v4270, c4271, rfl, rfl, q4267, q4269⟩
  refine bk 0 ?_
  refine lp [0, 4] (fun n l h => ∃ Z4219 : Zn, ∃ x4220 : Int, correctorref6_scanner_space_l0 F a0 n x4220 = some o4218 ∧ l = [(0, Pt b853 0), (4, V x4220)] ∧ St hs (idsL [.blk b853 (K54 v855 v857 a0), .gs v857 c858 (csz api_Token)]) Z (0, 0) Z4219 h [.blk b853 (K54 v855 v857 a0), .gs v857 c858 (csz api_Token)]) F ⟨_, a0.At, ho4217, rfl, hS4072⟩ ?_
  rintro n4223 l h4221 ⟨Z4219, x4220, ho4217, rfl, hS4222⟩
  rcases n4223 with _ | n4223
  cases (show none = some o4218 from ho4217)
  rw [correctorref6_scanner_space_l0] at ho4217
  refine sq ?_
  refine sr r22_12 ?_
  refine xq 4 [(60, Pt b853 0), (57, V x4220), (0, Pt b853 0), (4, V x4220)] ?_
  refine r_step rfl trivial (o_ldb (v := v855) hS4222 (i := 0) rfl rfl (by kernel_rfl)) ?_
  refine r_step rfl trivial (o_len rfl (RS.len (q854.mono hS4222.zle)) ⟨_, Go.Proofs.Try.underlying23⟩) ?_
  rcases ifs ho4217 with ⟨hp4242, ho4217⟩ | ⟨hp4242, ho4217⟩
  refine r_step rfl trivial (o_cmp rfl rfl (c_lss_T hp4242)) ?_
  refine xq 4 [(67, Pt b853 0), (64, .bool true), (0, Pt b853 0), (4, V x4220)] ?_
  refine r_step rfl rfl (o_ldb (v := v855) hS4222 (i := 0) rfl rfl (by kernel_rfl)) ?_
  refine xq 1 [(69, V x4220), (68, v855), (64, .bool true), (0, Pt b853 0), (4, V x4220)] ?_
  obtain ⟨hc4243, ho4217⟩ := chk ho4217
  refine r_step rfl rfl (o_index rfl rfl (by kernel_rfl : slTy _ _ = some (csz UInt8)) (RS.based (q854.mono hS4222.zle) (by omega)) hc4243.1 hc4243.2) ?_
  obtain ⟨x4244, hx4245, ho4217⟩ := obind ho4217
  obtain ⟨cs4246, hc4247, he4248⟩ := RS.elz (q854.mono hS4222.zle) (i := x4220) hx4245
  obtain rfl := rc_UInt8 hc4247
  refine r_step rfl rfl (o_lde (w := .int .u8 (x4244.toNat : Int)) (he4248 _ (hS4222.zin0 (Zle.refl _))) rfl (by kernel_rfl)) ?_
  rcases ifs ho4217 with ⟨hp4250, ho4217⟩ | ⟨hp4250, ho4217⟩
  refine r_step rfl rfl (o_cmp rfl rfl (c_eql_T hp4250)) ?_
  refine xe 1 [(73, .bool true), (0, Pt b853 0), (4, V x4220)] ?_
  refine kT 73 rfl ?_
  refine bk 1 ?_
  refine rg r22_13 ?_
  refine xe 3 [(4, V (w64 (x4220 + 1))), (0, Pt b853 0)] ?_
  exact ⟨n4223, Nat.lt_succ_self _, ⟨_, w64 (x4220 + 1), ho4217, rfl, hS4222⟩⟩
  refine r_step rfl rfl (o_cmp rfl rfl (c_eql_F hp4250)) ?_
  refine xe 1 [(73, .bool false), (0, Pt b853 0), (4, V x4220)] ?_
  refine cF 73 rfl ?_
  refine xt 0 ?_
  refine blkX_hit ?_
  obtain rfl := Option.some.inj ho4217
  exact ⟨_, x4220, rfl, rfl, hS4222⟩
  refine r_step rfl trivial (o_cmp rfl rfl (c_lss_F hp4242)) ?_
  refine xe 10 [(73, .bool false), (0, Pt b853 0), (4, V x4220)] ?_
  refine cF 73 rfl ?_
  refine xt 0 ?_
  refine blkX_hit ?_
  obtain rfl := Option.some.inj ho4217
  exact ⟨_, x4220, rfl, rfl, hS4222⟩
  refine W_condF (x := .tmp 56) (by kernel_rfl) rfl (Bool.eq_false_iff.2 hp4155) ?_
  refine sk ?_
  refine sq ?_
  refine sr r22_16 ?_
  refine xq 1 [(79, .int .u8 (x3647.toNat : Int)), (0, Pt b853 0), (3, .int .u8 (x3647.toNat : Int)), (4, V a0.At)] ?_
  obtain ⟨r4406, hx4407, hm⟩ := obind hm
  obtain ⟨v4408, h4409, hcl4410, hSc4411, rfl⟩ := correctorref5_Blank_ok F hS4072.inv  hx4407
  have hS4412 := St.call (A := []) (B := [.blk b853 (K54 v855 v857 a0), .gs v857 c858 (csz api_Token)]) hS4072 hSc4411
  replace hS4412 : St _ _ _ _ _ _ [.blk b853 (K54 v855 v857 a0), .gs v857 c858 (csz api_Token)] := hS4412
  refine r_step rfl trivial (o_call hcl4410 rfl rfl rfl) ?_
  refine xf [(80, .bool r4406), (0, Pt b853 0), (3, .int .u8 (x3647.toNat : Int)), (4, V a0.At)] ?_
  rcases ifs hm with ⟨hp4539, hm⟩ | ⟨hp4539, hm⟩
  refine W_condT (x := .tmp 80) (by kernel_rfl) rfl hp4539 ?_
  refine sq ?_
  obtain ⟨o4646, ho4645, hm⟩ := obind hm
  refine W_join [0, 4] (fun l h => ∃ Z4702 : Zn, ∃ x4703 : Int, x4703 = o4646 ∧ l = [(0, Pt b853 0), (4, V x4703)] ∧ St hs (idsL [.blk b853 (K54 v855 v857 a0), .gs v857 c858 (csz api_Token)]) Z (0, 0) Z4702 h [.blk b853 (K54 v855 v857 a0), .gs v857 c858 (csz api_Token)]) ?_ ?_
  rintro l h4704 ⟨Z4702, x4703, rfl, rfl, hS4705⟩
  try dsimp only at hm
  refine sr r22_19 ?_
  refine xq 2 [(101, V x4703), (100, Pt b853 0)] ?_
  obtain ⟨r4706, hx4707, hm⟩ := obind hm
  have hF4713 : St _ _ _ _ _ _ ([.blk b853 (K54 v855 v857 a0), .gs v857 c858 (csz api_Token)] ++ []) := ((hS4705.front 1 rfl).front 1 rfl)
  obtain ⟨v4708, h4709, Z4714, A4716, hcl4710, hSc4711, v4718, v4720, c4721, rfl, rfl, q4717, q4719⟩ := correctorref6_scanner_add_ok F hF4713.preL (q854.mono hS4705.zle) (q856.mono hS4705.zle) hx4707
  have hZ4715 := hSc4711.zle
  have hS4712 := hF4713.call hSc4711
  replace hS4712 : St _ _ _ _ _ _ [.blk b853 (K54 v4718 v4720 r4706), .gs v4720 c4721 (csz api_Token)] := hS4712
  refine r_step rfl trivial (o_call hcl4710 rfl rfl rfl) ?_
  refine xf [] ?_
  refine sr r22_20 ?_
  refine xe 1 [(2, .bool true)] ?_
  refine rt ?_
  refine ⟨rfl, ?_⟩
  obtain rfl := Option.some.inj hm
  refine ⟨_, _, _, ResL.tmp rfl (ResL.nil), hS4712, ?_⟩
  exact ⟨v4718, v4720, c4721, rfl, rfl, q4717, q4719⟩
  refine bk 2 ?_
  refine lp [0, 4] (fun n l h => ∃ Z4647 : Zn, ∃ x4648 : Int, correctorref6_scanner_space_l1 F a0 n x4648 = some o4646 ∧ l = [(0, Pt b853 0), (4, V x4648)] ∧ St hs (idsL [.blk b853 (K54 v855 v857 a0), .gs v857 c858 (csz api_Token)]) Z (0, 0) Z4647 h [.blk b853 (K54 v855 v857 a0), .gs v857 c858 (csz api_Token)]) F ⟨_, a0.At, ho4645, rfl, hS4412⟩ ?_
  rintro n4651 l h4649 ⟨Z4647, x4648, ho4645, rfl, hS4650⟩
  rcases n4651 with _ | n4651
  cases (show none = some o4646 from ho4645)
  rw [correctorref6_scanner_space_l1] at ho4645
  refine sq ?_
  refine sr r22_17 ?_
  refine xq 4 [(84, Pt b853 0), (81, V x4648), (0, Pt b853 0), (4, V x4648)] ?_
  refine r_step rfl trivial (o_ldb (v := v855) hS4650 (i := 0) rfl rfl (by kernel_rfl)) ?_
  refine r_step rfl trivial (o_len rfl (RS.len (q854.mono hS4650.zle)) ⟨_, Go.Proofs.Try.underlying23⟩) ?_
  rcases ifs ho4645 with ⟨hp4684, ho4645⟩ | ⟨hp4684, ho4645⟩
  refine r_step rfl trivial (o_cmp rfl rfl (c_lss_T hp4684)) ?_
  refine xq 4 [(91, Pt b853 0), (88, .bool true), (0, Pt b853 0), (4, V x4648)] ?_
  refine r_step rfl rfl (o_ldb (v := v855) hS4650 (i := 0) rfl rfl (by kernel_rfl)) ?_
  refine xq 1 [(93, V x4648), (92, v855), (88, .bool true), (0, Pt b853 0), (4, V x4648)] ?_
  obtain ⟨hc4685, ho4645⟩ := chk ho4645
  refine r_step rfl rfl (o_index rfl rfl (by kernel_rfl : slTy _ _ = some (csz UInt8)) (RS.based (q854.mono hS4650.zle) (by omega)) hc4685.1 hc4685.2) ?_
  obtain ⟨x4686, hx4687, ho4645⟩ := obind ho4645
  obtain ⟨cs4688, hc4689, he4690⟩ := RS.elz (q854.mono hS4650.zle) (i := x4648) hx4687
  obtain rfl := rc_UInt8 hc4689
  refine r_step rfl rfl (o_lde (w := .int .u8 (x4686.toNat : Int)) (he4690 _ (hS4650.zin0 (Zle.refl _))) rfl (by kernel_rfl)) ?_
  obtain ⟨r4692, hx4693, ho4645⟩ := obind ho4645
  obtain ⟨v4694, h4695, hcl4696, hSc4697, rfl⟩ := correctorref5_Blank_ok F hS4650.inv  hx4693
  have hS4698 := St.call (A := []) (B := [.blk b853 (K54 v855 v857 a0), .gs v857 c858 (csz api_Token)]) hS4650 hSc4697
  replace hS4698 : St _ _ _ _ _ _ [.blk b853 (K54 v855 v857 a0), .gs v857 c858 (csz api_Token)] := hS4698
  refine r_step rfl rfl (o_call hcl4696 rfl rfl rfl) ?_
  refine xe 1 [(97, .bool r4692), (0, Pt b853 0), (4, V x4648)] ?_
  rcases ifs ho4645 with ⟨hp4700, ho4645⟩ | ⟨hp4700, ho4645⟩
  refine W_condT (x := .tmp 97) (by kernel_rfl) rfl hp4700 ?_
  refine sk ?_
  refine bk 3 ?_
  refine rg r22_18 ?_
  refine xe 3 [(4, V (w64 (x4648 + 1))), (0, Pt b853 0)] ?_
  exact ⟨n4651, Nat.lt_succ_self _, ⟨_, w64 (x4648 + 1), ho4645, rfl, hS4698⟩⟩
  refine W_condF (x := .tmp 97) (by kernel_rfl) rfl (Bool.eq_false_iff.2 hp4700) ?_
  refine xt 2 ?_
  refine blkX_hit ?_
  obtain rfl := Option.some.inj ho4645
  exact ⟨_, x4648, rfl, rfl, hS4698⟩
  refine r_step rfl trivial (o_cmp rfl rfl (c_lss_F hp4684)) ?_
  refine xe 10 [(97, .bool false), (0, Pt b853 0), (4, V x4648)] ?_
  refine cF 97 rfl ?_
  refine xt 2 ?_
  refine blkX_hit ?_
  obtain rfl := Option.some.inj ho4645
  exact ⟨_, x4648, rfl, rfl, hS4650⟩
  refine W_condF (x := .tmp 80) (by kernel_rfl) rfl (Bool.eq_false_iff.2 hp4539) ?_
  refine sk ?_
  refine sq ?_
  obtain ⟨o4844, ho4843, hm⟩ := obind hm
  refine W_seqJoin0 [] (fun l h => ∃ Z4965 : Zn, .inl () = o4844 ∧ l = [] ∧ St hs (idsL [.blk b853 (K54 v855 v857 a0), .gs v857 c858 (csz api_Token)]) Z (0, 0) Z4965 h [.blk b853 (K54 v855 v857 a0), .gs v857 c858 (csz api_Token)]) (by kernel_rfl) ?_ ?_
  rintro l h4966 ⟨Z4965, rfl, rfl, hS4967⟩
  try dsimp only at hm
  refine sr r22_24 ?_
  refine xe 1 [(2, .bool false)] ?_
  refine rt ?_
  refine ⟨rfl, ?_⟩
  obtain rfl := Option.some.inj hm
  refine ⟨_, _, _, ResL.tmp rfl (ResL.nil), hS4967, ?_⟩
  exact ⟨v855, v857, c858, rfl, rfl, (q854.mono hS4967.zle), (q856.mono hS4967.zle)⟩
  refine rgF r22_21 hS4412 ?_
  intro bs4845 h4846 hlv4848 hS4847
  refine yq 1 [(103, .int .u8 (x3647.toNat : Int)), (0, Pt b853 0), (4, V a0.At)] ?_
  rcases ifs ho4843 with ⟨hp4849, ho4843⟩ | ⟨hp4849, ho4843⟩
  refine e_val rfl trivial (o_cmp rfl rfl (c_eql_T hp4849)) ?_
  refine yq 4 [(108, Pt b853 1), (105, .bool true), (0, Pt b853 0), (4, V a0.At)] ?_
  have lt4850 : b853 < bs4845 := hlv4848.1 _ (List.mem_of_getElem? (i := 0) rfl) _ (by simp [Itm.ids])
  refine e_lookB rfl rfl rfl (by show b853 < _; omega) (same1 (v := V a0.At) trivial) (o_ldb (v := V a0.At) hS4847 (i := 0) rfl rfl (by kernel_rfl)) trivial ?_
  refine yq 3 [(112, Pt b853 2), (109, V a0.At), (105, .bool true), (0, Pt b853 0), (4, V a0.At)] ?_
  have lt4851 : b853 < bs4845 := hlv4848.1 _ (List.mem_of_getElem? (i := 0) rfl) _ (by simp [Itm.ids])
  refine e_lookB rfl rfl rfl (by show b853 < _; omega) (same1 (v := V a0.Row) trivial) (o_ldb (v := V a0.Row) hS4847 (i := 0) rfl rfl (by kernel_rfl)) trivial ?_
  rcases ifs ho4843 with ⟨hp4852, ho4843⟩ | ⟨hp4852, ho4843⟩
  refine e_val rfl rfl (o_cmp rfl rfl (c_eql_T hp4852)) ?_
  refine ye 33 [(147, .bool true), (0, Pt b853 0), (4, V a0.At)] ?_
  have hS4853 := hS4847.unres
  refine cT 147 rfl ?_
  refine sr r22_22 ?_
  refine xq 3 [(150, V a0.At), (149, Pt b853 0), (148, Pt b853 0)] ?_
  obtain ⟨r4854, hx4855, ho4843⟩ := obind ho4843
  have hF4861 : St _ _ _ _ _ _ ([.blk b853 (K54 v855 v857 a0), .gs v857 c858 (csz api_Token)] ++ []) := ((hS4853.front 1 rfl).front 1 rfl)
  obtain ⟨v4856, h4857, Z4862, A4864, hcl4858, hSc4859, rfl, rfl⟩ := correctorref6_scanner_rowEnd_ok F hF4861.preL (q854.mono hS4072.zle) (q856.mono hS4072.zle) hx4855
  have hZ4863 := hSc4859.zle
  have hS4860 := hF4861.call hSc4859
  replace hS4860 : St _ _ _ _ _ _ [.blk b853 (K54 v855 v857 a0), .gs v857 c858 (csz api_Token)] := hS4860
  refine r_step rfl trivial (o_call hcl4858 rfl rfl rfl) ?_
  obtain ⟨r4865, hx4866, ho4843⟩ := obind ho4843
  have hF4872 : St _ _ _ _ _ _ ([.blk b853 (K54 v855 v857 a0), .gs v857 c858 (csz api_Token)] ++ []) := ((hS4860.front 1 rfl).front 1 rfl)
  obtain ⟨v4867, h4868, Z4873, A4875, hcl4869, hSc4870, v4877, v4879, c4880, rfl, rfl, q4876, q4878⟩ := correctorref6_scanner_add_ok F hF4872.preL (q854.mono (hS4072.zle.trans hZ4863)) (q856.mono (hS4072.zle.trans hZ4863)) hx4866
  have hZ4874 := hSc4870.zle
  have hS4871 := hF4872.call hSc4870
  replace hS4871 : St _ _ _ _ _ _ [.blk b853 (K54 v4877 v4879 r4865), .gs v4879 c4880 (csz api_Token)] := hS4871
  refine r_step rfl trivial (o_call hcl4869 rfl rfl rfl) ?_
  refine xf [] ?_
  refine sr r22_23 ?_
  refine xe 1 [(2, .bool true)] ?_
  refine rt ?_
  refine ⟨rfl, ?_⟩
  obtain rfl := Option.some.inj ho4843
  obtain rfl := Option.some.inj hm
  refine ⟨_, _, _, ResL.tmp rfl (ResL.nil), hS4871, ?_⟩
  exact ⟨v4877, v4879, c4880, rfl, rfl, q4876, q4878⟩
  refine e_val rfl rfl (o_cmp rfl rfl (c_eql_F hp4852)) ?_
  refine yq 4 [(118, Pt b853 7), (115, .bool false), (105, .bool true), (0, Pt b853 0), (4, V a0.At)] ?_
  have lt4881 : b853 < bs4845 := hlv4848.1 _ (List.mem_of_getElem? (i := 0) rfl) _ (by simp [Itm.ids])
  refine e_lookB rfl rfl rfl (by show b853 < _; omega) (same1 (v := v857) (hS4847.gsim1 (i := 1) rfl)) (o_ldb (v := v857) hS4847 (i := 0) rfl rfl (by kernel_rfl)) trivial ?_
  refine yq 3 [(122, Pt b853 7), (119, v857), (115, .bool false), (105, .bool true), (0, Pt b853 0), (4, V a0.At)] ?_
  have lt4882 : b853 < bs4845 := hlv4848.1 _ (List.mem_of_getElem? (i := 0) rfl) _ (by simp [Itm.ids])
  refine e_lookB rfl rfl rfl (by show b853 < _; omega) (same1 (v := v857) (hS4847.gsim1 (i := 1) rfl)) (o_ldb (v := v857) hS4847 (i := 0) rfl rfl (by kernel_rfl)) trivial ?_
  refine e_val rfl rfl (o_len rfl (hS4847.glen (i := 1) rfl (q856.mono hS4072.zle)) ⟨_, Go.Proofs.Try.underlying27⟩) ?_
  refine yq 1 [(125, V (w64 ((a0.L.length : Int) - 1))), (119, v857), (115, .bool false), (105, .bool true), (0, Pt b853 0), (4, V a0.At)] ?_
  obtain ⟨hc4883, ho4843⟩ := chk ho4843
  refine e_val rfl rfl (o_index rfl rfl (by kernel_rfl : slTy _ _ = some (csz api_Token)) (hS4847.gbased (j := 1) rfl (q856.mono hS4072.zle) (by omega)) hc4883.1 hc4883.2) ?_
  refine yq 1 [(127, .pointer (some (elemA v857 (w64 ((a0.L.length : Int) - 1)) (csz api_Token) 0))), (115, .bool false), (105, .bool true), (0, Pt b853 0), (4, V a0.At)] ?_
  obtain ⟨x4884, hx4885, ho4843⟩ := obind ho4843
  obtain ⟨cs4886, hc4887, he4888, ht4889⟩ := hS4847.gel (j := 1) rfl (q856.mono hS4072.zle) (i := w64 ((a0.L.length : Int) - 1)) hx4885
  obtain rfl := rc_api_Token hc4887
  have ps4890 := pos_of hx4885
  have hB4891 := hS4847.gbased (j := 1) rfl (q856.mono hS4072.zle) ps4890
  have lt4892 : (baseOf v857).block < bs4845 := row_ltM (hlv4848.1 _ (List.mem_of_getElem? (i := 1) rfl)) hB4891
  refine e_lookB rfl rfl rfl (by show (baseOf v857).block < _; omega) (same1 (v := V x4884.Kind) trivial) (o_lde (w := V x4884.Kind) he4888 rfl (by kernel_rfl)) trivial ?_
  rcases ifs ho4843 with ⟨hp4893, ho4843⟩ | ⟨hp4893, ho4843⟩
  refine e_val rfl rfl (o_cmp rfl rfl (c_eql_T hp4893)) ?_
  refine ye 18 [(147, .bool true), (0, Pt b853 0), (4, V a0.At)] ?_
  have hS4894 := hS4847.unres
  refine cT 147 rfl ?_
  refine sr r22_22 ?_
  refine xq 3 [(150, V a0.At), (149, Pt b853 0), (148, Pt b853 0)] ?_
  obtain ⟨r4895, hx4896, ho4843⟩ := obind ho4843
  have hF4902 : St _ _ _ _ _ _ ([.blk b853 (K54 v855 v857 a0), .gs v857 c858 (csz api_Token)] ++ []) := ((hS4894.front 1 rfl).front 1 rfl)
  obtain ⟨v4897, h4898, Z4903, A4905, hcl4899, hSc4900, rfl, rfl⟩ := correctorref6_scanner_rowEnd_ok F hF4902.preL (q854.mono hS4072.zle) (q856.mono hS4072.zle) hx4896
  have hZ4904 := hSc4900.zle
  have hS4901 := hF4902.call hSc4900
  replace hS4901 : St _ _ _ _ _ _ [.blk b853 (K54 v855 v857 a0), .gs v857 c858 (csz api_Token)] := hS4901
  refine r_step rfl trivial (o_call hcl4899 rfl rfl rfl) ?_
  obtain ⟨r4906, hx4907, ho4843⟩ := obind ho4843
  have hF4913 : St _ _ _ _ _ _ ([.blk b853 (K54 v855 v857 a0), .gs v857 c858 (csz api_Token)] ++ []) := ((hS4901.front 1 rfl).front 1 rfl)
  obtain ⟨v4908, h4909, Z4914, A4916, hcl4910, hSc4911, v4918, v4920, c4921, rfl, rfl, q4917, q4919⟩ := correctorref6_scanner_add_ok F hF4913.preL (q854.mono (hS4072.zle.trans hZ4904)) (q856.mono (hS4072.zle.trans hZ4904)) hx4907
  have hZ4915 := hSc4911.zle
  have hS4912 := hF4913.call hSc4911
  replace hS4912 : St _ _ _ _ _ _ [.blk b853 (K54 v4918 v4920 r4906), .gs v4920 c4921 (csz api_Token)] := hS4912
  refine r_step rfl trivial (o_call hcl4910 rfl rfl rfl) ?_
  refine xf [] ?_
  refine sr r22_23 ?_
  refine xe 1 [(2, .bool true)] ?_
  refine rt ?_
  refine ⟨rfl, ?_⟩
  obtain rfl := Option.some.inj ho4843
  obtain rfl := Option.some.inj hm
  refine ⟨_, _, _, ResL.tmp rfl (ResL.nil), hS4912, ?_⟩
  exact ⟨v4918, v4920, c4921, rfl, rfl, q4917, q4919⟩
  refine e_val rfl rfl (o_cmp rfl rfl (c_eql_F hp4893)) ?_
  refine yq 5 [(134, Pt b853 7), (131, .bool false), (105, .bool true), (0, Pt b853 0), (4, V a0.At)] ?_
  have lt4922 : b853 < bs4845 := hlv4848.1 _ (List.mem_of_getElem? (i := 0) rfl) _ (by simp [Itm.ids])
  refine e_lookB rfl rfl rfl (by show b853 < _; omega) (same1 (v := v857) (hS4847.gsim1 (i := 1) rfl)) (o_ldb (v := v857) hS4847 (i := 0) rfl rfl (by kernel_rfl)) trivial ?_
  refine yq 3 [(138, Pt b853 7), (135, v857), (131, .bool false), (105, .bool true), (0, Pt b853 0), (4, V a0.At)] ?_
  have lt4923 : b853 < bs4845 := hlv4848.1 _ (List.mem_of_getElem? (i := 0) rfl) _ (by simp [Itm.ids])
  refine e_lookB rfl rfl rfl (by show b853 < _; omega) (same1 (v := v857) (hS4847.gsim1 (i := 1) rfl)) (o_ldb (v := v857) hS4847 (i := 0) rfl rfl (by kernel_rfl)) trivial ?_
  refine e_val rfl rfl (o_len rfl (hS4847.glen (i := 1) rfl (q856.mono hS4072.zle)) ⟨_, Go.Proofs.Try.underlying27⟩) ?_
  refine yq 1 [(141, V (w64 ((a0.L.length : Int) - 1))), (135, v857), (131, .bool false), (105, .bool true), (0, Pt b853 0), (4, V a0.At)] ?_
  obtain ⟨hc4924, ho4843⟩ := chk ho4843
  refine e_val rfl rfl (o_index rfl rfl (by kernel_rfl : slTy _ _ = some (csz api_Token)) (hS4847.gbased (j := 1) rfl (q856.mono hS4072.zle) (by omega)) hc4924.1 hc4924.2) ?_
  refine yq 1 [(143, .pointer (some (elemA v857 (w64 ((a0.L.length : Int) - 1)) (csz api_Token) 0))), (131, .bool false), (105, .bool true), (0, Pt b853 0), (4, V a0.At)] ?_
  obtain ⟨x4925, hx4926, ho4843⟩ := obind ho4843
  obtain ⟨cs4927, hc4928, he4929, ht4930⟩ := hS4847.gel (j := 1) rfl (q856.mono hS4072.zle) (i := w64 ((a0.L.length : Int) - 1)) hx4926
  obtain rfl := rc_api_Token hc4928
  have ps4931 := pos_of hx4926
  have hB4932 := hS4847.gbased (j := 1) rfl (q856.mono hS4072.zle) ps4931
  have lt4933 : (baseOf v857).block < bs4845 := row_ltM (hlv4848.1 _ (List.mem_of_getElem? (i := 1) rfl)) hB4932
  refine e_lookB rfl rfl rfl (by show (baseOf v857).block < _; omega) (same1 (v := V x4925.Kind) trivial) (o_lde (w := V x4925.Kind) he4929 rfl (by kernel_rfl)) trivial ?_
  rcases ifs ho4843 with ⟨hp4934, ho4843⟩ | ⟨hp4934, ho4843⟩
  refine e_val rfl rfl (o_cmp rfl rfl (c_eql_T hp4934)) ?_
  refine ye 2 [(147, .bool true), (0, Pt b853 0), (4, V a0.At)] ?_
  have hS4935 := hS4847.unres
  refine cT 147 rfl ?_
  refine sr r22_22 ?_
  refine xq 3 [(150, V a0.At), (149, Pt b853 0), (148, Pt b853 0)] ?_
  obtain ⟨r4936, hx4937, ho4843⟩ := obind ho4843
  have hF4943 : St _ _ _ _ _ _ ([.blk b853 (K54 v855 v857 a0), .gs v857 c858 (csz api_Token)] ++ []) := ((hS4935.front 1 rfl).front 1 rfl)
  obtain ⟨v4938, h4939, Z4944, A4946, hcl4940, hSc4941, rfl, rfl⟩ := correctorref6_scanner_rowEnd_ok F hF4943.preL (q854.mono hS4072.zle) (q856.mono hS4072.zle) hx4937
  have hZ4945 := hSc4941.zle
  have hS4942 := hF4943.call hSc4941
  replace hS4942 : St _ _ _ _ _ _ [.blk b853 (K54 v855 v857 a0), .gs v857 c858 (csz api_Token)] := hS4942
  refine r_step rfl trivial (o_call hcl4940 rfl rfl rfl) ?_
  obtain ⟨r4947, hx4948, ho4843⟩ := obind ho4843
  have hF4954 : St _ _ _ _ _ _ ([.blk b853 (K54 v855 v857 a0), .gs v857 c858 (csz api_Token)] ++ []) := ((hS4942.front 1 rfl).front 1 rfl)
  obtain ⟨v4949, h4950, Z4955, A4957, hcl4951, hSc4952, v4959, v4961, c4962, rfl, rfl, q4958, q4960⟩ := correctorref6_scanner_add_ok F hF4954.preL (q854.mono (hS4072.zle.trans hZ4945)) (q856.mono (hS4072.zle.trans hZ4945)) hx4948
  have hZ4956 := hSc4952.zle
  have hS4953 := hF4954.call hSc4952
  replace hS4953 : St _ _ _ _ _ _ [.blk b853 (K54 v4959 v4961 r4947), .gs v4961 c4962 (csz api_Token)] := hS4953
  refine r_step rfl trivial (o_call hcl4951 rfl rfl rfl) ?_
  refine xf [] ?_
  refine sr r22_23 ?_
  refine xe 1 [(2, .bool true)] ?_
  refine rt ?_
  refine ⟨rfl, ?_⟩
  obtain rfl := Option.some.inj ho4843
  obtain rfl := Option.some.inj hm
  refine ⟨_, _, _, ResL.tmp rfl (ResL.nil), hS4953, ?_⟩
  exact ⟨v4959, v4961, c4962, rfl, rfl, q4958, q4960⟩
  refine e_val rfl rfl (o_cmp rfl rfl (c_eql_F hp4934)) ?_
  refine ye 2 [(147, .bool false), (0, Pt b853 0), (4, V a0.At)] ?_
  have hS4963 := hS4847.unres
  refine kF 147 rfl ?_
  obtain rfl := Option.some.inj ho4843
  exact ⟨_, rfl, rfl, hS4963⟩
  refine e_val rfl trivial (o_cmp rfl rfl (c_eql_F hp4849)) ?_
  refine ye 43 [(147, .bool false), (0, Pt b853 0), (4, V a0.At)] ?_
  have hS4964 := hS4847.unres
  refine kF 147 rfl ?_
  obtain rfl := Option.some.inj ho4843
  exact ⟨_, rfl, rfl, hS4964⟩
  refine rgF r22_11 hS3726 ?_
  intro bs4058 h4059 hlv4061 hS4060
  refine yq 3 [(46, Pt b853 1), (4, V a0.At), (3, .int .u8 (x3647.toNat : Int)), (0, Pt b853 0)] ?_
  have lt4062 : b853 < bs4058 := hlv4061.1 _ (List.mem_of_getElem? (i := 0) rfl) _ (by simp [Itm.ids])
  refine e_lookB rfl trivial rfl (by show b853 < _; omega) (same1 (v := V a0.At) trivial) (o_ldb (v := V a0.At) hS4060 (i := 0) rfl rfl (by kernel_rfl)) trivial ?_
  refine yq 3 [(50, Pt b853 2), (47, V a0.At), (4, V a0.At), (3, .int .u8 (x3647.toNat : Int)), (0, Pt b853 0)] ?_
  have lt4063 : b853 < bs4058 := hlv4061.1 _ (List.mem_of_getElem? (i := 0) rfl) _ (by simp [Itm.ids])
  refine e_lookB rfl trivial rfl (by show b853 < _; omega) (same1 (v := V a0.Row) trivial) (o_ldb (v := V a0.Row) hS4060 (i := 0) rfl rfl (by kernel_rfl)) trivial ?_
  rcases ifs ho4056 with ⟨hp4064, ho4056⟩ | ⟨hp4064, ho4056⟩
  refine e_val rfl trivial (o_cmp rfl rfl (c_eql_T hp4064)) ?_
  refine yq 2 [(54, .int .u8 (x3647.toNat : Int)), (53, .bool true), (4, V a0.At), (3, .int .u8 (x3647.toNat : Int)), (0, Pt b853 0)] ?_
  rcases ifs ho4056 with ⟨hp4065, ho4056⟩ | ⟨hp4065, ho4056⟩
  refine e_val rfl rfl (o_cmp rfl rfl (c_eql_T hp4065)) ?_
  refine ye 1 [(56, .bool true), (4, V a0.At), (3, .int .u8 (x3647.toNat : Int)), (0, Pt b853 0)] ?_
  have hS4066 := hS4060.unres
  obtain rfl := Option.some.inj ho4056
  exact ⟨_, true, rfl, rfl, hS4066⟩
  refine e_val rfl rfl (o_cmp rfl rfl (c_eql_F hp4065)) ?_
  refine ye 1 [(56, .bool false), (4, V a0.At), (3, .int .u8 (x3647.toNat : Int)), (0, Pt b853 0)] ?_
  have hS4067 := hS4060.unres
  obtain rfl := Option.some.inj ho4056
  exact ⟨_, false, rfl, rfl, hS4067⟩
  refine e_val rfl trivial (o_cmp rfl rfl (c_eql_F hp4064)) ?_
  refine ye 4 [(56, .bool false), (4, V a0.At), (3, .int .u8 (x3647.toNat : Int)), (0, Pt b853 0)] ?_
  have hS4068 := hS4060.unres
  obtain rfl := Option.some.inj ho4056
  exact ⟨_, false, rfl, rfl, hS4068⟩

def r23_0 : List COp := [u 2 (.assign (.const (.bool false)))]
def r23_1 : List COpF := [uF 4 (.move (t 0)) .pure [], uF 5 (.nilCheck (t 4)) .pure [], uF 6 (.fieldAddr 54 (t 5) 0) .pure [], uF 7 (.load 23 (t 6)) .look [], uF 8 (.move (t 0)) .pure [], uF 9 (.nilCheck (t 8)) .pure [], uF 10 (.fieldAddr 54 (t 9) 1) .pure [], uF 11 (.load 3 (t 10)) .look [], uF 12 (.indexAddr 23 (t 7) (t 11)) .pure [], uF 13 (.load 5 (t 12)) .look [], uF 3 (.assign (t 13)) .pure []]
def r23_2 : List COp := [u 2 (.assign (.const (.bool false)))]
def r23_3 : List COp := [u 15 (.move (t 3)), u 16 (.binOp .eql 5 (t 15) (.const (.int .u8 91)) 5), u 14 (.assign (t 16))]
def r23_4 : List COp := [u 17 (.move (t 0)), u 18 (.move (t 0)), u 19 (.nilCheck (t 18)), u 20 (.fieldAddr 54 (t 19) 1), u 21 (.load 3 (t 20)), u 22 (.binOp .add 3 (t 21) (ci 1) 3), u 23 (cf 21 #[(t 17), (ci 8), (t 22)] #[52, 3, 3])]
def r23_5 : List COp := [u 24 (.move (t 0)), u 25 (.nilCheck (t 24)), u 26 (.fieldAddr 54 (t 25) 3), u 27 (.load 3 (t 26)), u 28 (.binOp .add 3 (t 27) (ci 1) 3), u 29 (.nilCheck (t 24)), u 30 (.fieldAddr 54 (t 29) 3), o (.store 3 (t 30) (t 28))]
def r23_6 : List COp := [u 32 (.move (t 3)), u 33 (.binOp .eql 5 (t 32) (.const (.int .u8 123)) 5), u 31 (.assign (t 33))]
def r23_7 : List COp := [u 34 (.move (t 0)), u 35 (.move (t 0)), u 36 (.nilCheck (t 35)), u 37 (.fieldAddr 54 (t 36) 1), u 38 (.load 3 (t 37)), u 39 (.binOp .add 3 (t 38) (ci 1) 3), u 40 (cf 21 #[(t 34), (ci 9), (t 39)] #[52, 3, 3])]
def r23_8 : List COp := [u 41 (.move (t 0)), u 42 (.nilCheck (t 41)), u 43 (.fieldAddr 54 (t 42) 3), u 44 (.load 3 (t 43)), u 45 (.binOp .add 3 (t 44) (ci 1) 3), u 46 (.nilCheck (t 41)), u 47 (.fieldAddr 54 (t 46) 3), o (.store 3 (t 47) (t 45))]
def r23_9 : List COp := [u 49 (.move (t 3)), u 50 (.binOp .eql 5 (t 49) (.const (.int .u8 93)) 5), u 48 (.assign (t 50))]
def r23_10 : List COp := [u 51 (.move (t 0)), u 52 (.move (t 0)), u 53 (.nilCheck (t 52)), u 54 (.fieldAddr 54 (t 53) 1), u 55 (.load 3 (t 54)), u 56 (.binOp .add 3 (t 55) (ci 1) 3), u 57 (cf 21 #[(t 51), (ci 10), (t 56)] #[52, 3, 3])]
def r23_11 : List COp := [u 58 (.move (t 0)), u 59 (.move (t 0)), u 60 (.nilCheck (t 59)), u 61 (.fieldAddr 54 (t 60) 3), u 62 (.load 3 (t 61)), u 63 (.binOp .sub 3 (t 62) (ci 1) 3), u 64 (cb .max #[(t 63), (ci 0)] #[3, 3]), u 65 (.nilCheck (t 58)), u 66 (.fieldAddr 54 (t 65) 3), o (.store 3 (t 66) (t 64))]
def r23_12 : List COp := [u 68 (.move (t 3)), u 69 (.binOp .eql 5 (t 68) (.const (.int .u8 125)) 5), u 67 (.assign (t 69))]
def r23_13 : List COp := [u 70 (.move (t 0)), u 71 (.move (t 0)), u 72 (.nilCheck (t 71)), u 73 (.fieldAddr 54 (t 72) 1), u 74 (.load 3 (t 73)), u 75 (.binOp .add 3 (t 74) (ci 1) 3), u 76 (cf 21 #[(t 70), (ci 11), (t 75)] #[52, 3, 3])]
def r23_14 : List COp := [u 77 (.move (t 0)), u 78 (.move (t 0)), u 79 (.nilCheck (t 78)), u 80 (.fieldAddr 54 (t 79) 3), u 81 (.load 3 (t 80)), u 82 (.binOp .sub 3 (t 81) (ci 1) 3), u 83 (cb .max #[(t 82), (ci 0)] #[3, 3]), u 84 (.nilCheck (t 77)), u 85 (.fieldAddr 54 (t 84) 3), o (.store 3 (t 85) (t 83))]
def r23_15 : List COp := [u 87 (.move (t 3)), u 88 (.binOp .eql 5 (t 87) (.const (.int .u8 44)) 5), u 89 (.move (t 88)), gT 89 (some 90) (.move (t 0)), gT 89 (some 91) (.nilCheck (t 90)), gT 89 (some 92) (.fieldAddr 54 (t 91) 3), gT 89 (some 93) (.load 3 (t 92)), gT 89 (some 94) (.binOp .gtr 3 (t 93) (ci 0) 3), u 95 (.pick (t 89) (t 94) (.const (.bool false))), u 86 (.assign (t 95))]
def r23_16 : List COp := [u 96 (.move (t 0)), u 97 (.move (t 0)), u 98 (.nilCheck (t 97)), u 99 (.fieldAddr 54 (t 98) 1), u 100 (.load 3 (t 99)), u 101 (.binOp .add 3 (t 100) (ci 1) 3), u 102 (cf 21 #[(t 96), (ci 7), (t 101)] #[52, 3, 3])]
def r23_17 : List COp := [u 2 (.assign (.const (.bool true)))]
def correctorref6_scanner_bracket (F : Nat) (a0 : correctorref6_scanner) : Option (Bool × correctorref6_scanner) :=
  if 0 ≤ a0.At ∧ a0.At < (a0.B.length : Int) then
    (a0.B[a0.At.toNat]?).bind fun x5125 =>
    ((if (x5125.toNat : Int) = (91 : Int) then
        (correctorref6_scanner_add F a0 8 (w64 (a0.At + 1))).bind fun r5234 =>
        some (.inl (⟨r5234.B, r5234.At, r5234.Row, w64 (r5234.Open + 1), r5234.Base, r5234.Only, r5234.Text, r5234.L⟩ : correctorref6_scanner))
      else
        if (x5125.toNat : Int) = (123 : Int) then
          (correctorref6_scanner_add F a0 9 (w64 (a0.At + 1))).bind fun r5254 =>
          some (.inl (⟨r5254.B, r5254.At, r5254.Row, w64 (r5254.Open + 1), r5254.Base, r5254.Only, r5254.Text, r5254.L⟩ : correctorref6_scanner))
        else
          if (x5125.toNat : Int) = (93 : Int) then
            (correctorref6_scanner_add F a0 10 (w64 (a0.At + 1))).bind fun r5274 =>
            some (.inl (⟨r5274.B, r5274.At, r5274.Row, imax (w64 (r5274.Open - 1)) 0, r5274.Base, r5274.Only, r5274.Text, r5274.L⟩ : correctorref6_scanner))
          else
            if (x5125.toNat : Int) = (125 : Int) then
              (correctorref6_scanner_add F a0 11 (w64 (a0.At + 1))).bind fun r5294 =>
              some (.inl (⟨r5294.B, r5294.At, r5294.Row, imax (w64 (r5294.Open - 1)) 0, r5294.Base, r5294.Only, r5294.Text, r5294.L⟩ : correctorref6_scanner))
            else
              if (x5125.toNat : Int) = (44 : Int) then
                if (0 : Int) < a0.Open then
                  (correctorref6_scanner_add F a0 7 (w64 (a0.At + 1))).bind fun r5314 =>
                  some (.inl r5314)
                else
                  some (.inr (false, a0))
              else
                some (.inr (false, a0))) : Option (Sum correctorref6_scanner (Bool × correctorref6_scanner))).bind fun o => match o with
      | .inl x5331 => some (true, x5331)
      | .inr y => some y
  else none
theorem correctorref6_scanner_bracket_ok (F : Nat) {h : AH} {Z : Zn} {a0 : correctorref6_scanner} {b4986 : Nat} {v4988 : Value} {v4990 : Value} {c4991 : List Value} (hP : Pre Z h [.blk b4986 (K54 v4988 v4990 a0), .gs v4990 c4991 (csz api_Token)]) (q4987 : RS (α := UInt8) Z v4988 a0.B) (q4989 : RCs (α := api_Token) Z c4991 a0.L) {r : Bool × correctorref6_scanner} (hm : correctorref6_scanner_bracket F a0 = some r) :
    ∃ v h' Z' A', callI Go.Proofs.Try.prog 23 [Pt b4986 0] h = some (v, h') ∧ St h (idsL [.blk b4986 (K54 v4988 v4990 a0), .gs v4990 c4991 (csz api_Token)]) Z (0, 0) Z' h' A' ∧ ∃ v5114 : Value, ∃ v5116 : Value, ∃ c5117 : List Value, .bool r.1 = v ∧ A' = [.blk b4986 (K54 v5114 v5116 r.2), .gs v5116 c5117 (csz api_Token)] ∧ RS (α := UInt8) Z' v5114 r.2.B ∧ RCs (α := api_Token) Z' c5117 r.2.L := by
  refine fn_intro (A := [.blk b4986 (K54 v4988 v4990 a0), .gs v4990 c4991 (csz api_Token)]) (Q := fun v Z' A' => ∃ v5114 : Value, ∃ v5116 : Value, ∃ c5117 : List Value, .bool r.1 = v ∧ A' = [.blk b4986 (K54 v5114 v5116 r.2), .gs v5116 c5117 (csz api_Token)] ∧ RS (α := UInt8) Z' v5114 r.2.B ∧ RCs (α := api_Token) Z' c5117 r.2.L) Go.Proofs.Try.func23 rfl rfl (by kernel_rfl) hP ?_
  intro hs hS
  unfold correctorref6_scanner_bracket at hm
  refine sr r23_0 ?_
  refine xe 1 [(0, Pt b4986 0)] ?_
  refine sq ?_
  refine srF r23_1 hS ?_
  intro bs5118 h5119 hlv5121 hS5120
  refine yq 3 [(6, Pt b4986 0), (0, Pt b4986 0)] ?_
  have lt5122 : b4986 < bs5118 := hlv5121.1 _ (List.mem_of_getElem? (i := 0) rfl) _ (by simp [Itm.ids])
  refine e_lookB rfl trivial rfl (by show b4986 < _; omega) (same1 (v := v4988) (RS.sim1 q4987)) (o_ldb (v := v4988) hS5120 (i := 0) rfl rfl (by kernel_rfl)) trivial ?_
  refine yq 3 [(10, Pt b4986 1), (7, v4988), (0, Pt b4986 0)] ?_
  have lt5123 : b4986 < bs5118 := hlv5121.1 _ (List.mem_of_getElem? (i := 0) rfl) _ (by simp [Itm.ids])
  refine e_lookB rfl trivial rfl (by show b4986 < _; omega) (same1 (v := V a0.At) trivial) (o_ldb (v := V a0.At) hS5120 (i := 0) rfl rfl (by kernel_rfl)) trivial ?_
  obtain ⟨hc5124, hm⟩ := chk hm
  refine e_val rfl trivial (o_index rfl rfl (by kernel_rfl : slTy _ _ = some (csz UInt8)) (RS.based q4987 (by omega)) hc5124.1 hc5124.2) ?_
  obtain ⟨x5125, hx5126, hm⟩ := obind hm
  obtain ⟨cs5127, hc5128, he5129⟩ := RS.elz q4987 (i := a0.At) hx5126
  obtain rfl := rc_UInt8 hc5128
  refine e_lookZ rfl rfl trivial (fun h2 hz => o_lde (w := .int .u8 (x5125.toNat : Int)) (he5129 h2 hz) rfl (by kernel_rfl)) (hS5120.zin0 (Zle.refl _)) (same1 (v := .int .u8 (x5125.toNat : Int)) trivial) trivial ?_
  refine ye 1 [(3, .int .u8 (x5125.toNat : Int)), (0, Pt b4986 0)] ?_
  have hS5131 := hS5120.unres
  obtain ⟨o5231, ho5230, hm⟩ := obind hm
  refine W_join [] (fun l h => ∃ Z5330 : Zn, ∃ x5331 : correctorref6_scanner, ∃ v5333 : Value, ∃ v5335 : Value, ∃ c5336 : List Value, .inl x5331 = o5231 ∧ RS (α := UInt8) Z5330 v5333 x5331.B ∧ RCs (α := api_Token) Z5330 c5336 x5331.L ∧ l = [] ∧ St hs (idsL [.blk b4986 (K54 v4988 v4990 a0), .gs v4990 c4991 (csz api_Token)]) Z (0, 0) Z5330 h [.blk b4986 (K54 v5333 v5335 x5331), .gs v5335 c5336 (csz api_Token)]) ?_ ?_
  rintro l h5337 ⟨Z5330, x5331, v5333, v5335, c5336, rfl, q5332, q5334, rfl, hS5338⟩
  try dsimp only at hm
  refine sr r23_17 ?_
  refine xe 1 [(2, .bool true)] ?_
  refine rt ?_
  refine ⟨rfl, ?_⟩
  obtain rfl := Option.some.inj hm
  refine ⟨_, _, _, ResL.tmp rfl (ResL.nil), hS5338, ?_⟩
  exact ⟨v5333, v5335, c5336, rfl, rfl, q5332, q5334⟩
  refine bk 0 ?_
  refine sr r23_3 ?_
  refine xq 1 [(15, .int .u8 (x5125.toNat : Int)), (3, .int .u8 (x5125.toNat : Int)), (0, Pt b4986 0)] ?_
  rcases ifs ho5230 with ⟨hp5233, ho5230⟩ | ⟨hp5233, ho5230⟩
  refine r_step rfl trivial (o_cmp rfl rfl (c_eql_T hp5233)) ?_
  refine xe 1 [(14, .bool true), (3, .int .u8 (x5125.toNat : Int)), (0, Pt b4986 0)] ?_
  refine cT 14 rfl ?_
  refine sr r23_4 ?_
  refine xq 4 [(20, Pt b4986 1), (17, Pt b4986 0), (0, Pt b4986 0)] ?_
  refine r_step rfl trivial (o_ldb (v := V a0.At) hS5131 (i := 0) rfl rfl (by kernel_rfl)) ?_
  refine xq 1 [(22, V (w64 (a0.At + 1))), (17, Pt b4986 0), (0, Pt b4986 0)] ?_
  obtain ⟨r5234, hx5235, ho5230⟩ := obind ho5230
  have hF5241 : St _ _ _ _ _ _ ([.blk b4986 (K54 v4988 v4990 a0), .gs v4990 c4991 (csz api_Token)] ++ []) := ((hS5131.front 1 rfl).front 1 rfl)
  obtain ⟨v5236, h5237, Z5242, A5244, hcl5238, hSc5239, v5246, v5248, c5249, rfl, rfl, q5245, q5247⟩ := correctorref6_scanner_add_ok F hF5241.preL q4987 q4989 hx5235
  have hZ5243 := hSc5239.zle
  have hS5240 := hF5241.call hSc5239
  replace hS5240 : St _ _ _ _ _ _ [.blk b4986 (K54 v5246 v5248 r5234), .gs v5248 c5249 (csz api_Token)] := hS5240
  refine r_step rfl trivial (o_call hcl5238 rfl rfl rfl) ?_
  refine xf [(0, Pt b4986 0)] ?_
  refine rg r23_5 ?_
  refine xq 3 [(26, Pt b4986 3), (24, Pt b4986 0)] ?_
  refine r_step rfl trivial (o_ldb (v := V r5234.Open) hS5240 (i := 0) rfl rfl (by kernel_rfl)) ?_
  refine xq 3 [(30, Pt b4986 3), (28, V (w64 (r5234.Open + 1)))] ?_
  refine r_ex1 rfl trivial (o_stb (vs := [V (w64 (r5234.Open + 1))]) (cells' := [v5246, V r5234.At, V r5234.Row, V (w64 (r5234.Open + 1)), V r5234.Base, .bool r5234.Only, V r5234.Text, v5248]) (L' := [.blk b4986 [v5246, V r5234.At, V r5234.Row, V (w64 (r5234.Open + 1)), V r5234.Base, .bool r5234.Only, V r5234.Text, v5248], .gs v5248 c5249 (csz api_Token)]) hS5240 (i := 0) rfl rfl rfl rfl (by kernel_rfl) rfl rfl rfl rfl) ?_
  intro h5250 hS5251
  refine xf [] ?_
  obtain rfl := Option.some.inj ho5230
  exact ⟨_, (⟨r5234.B, r5234.At, r5234.Row, w64 (r5234.Open + 1), r5234.Base, r5234.Only, r5234.Text, r5234.L⟩ : correctorref6_scanner), v5246, v5248, c5249, rfl, q5245, q5247, rfl, hS5251⟩
  refine r_step rfl trivial (o_cmp rfl rfl (c_eql_F hp5233)) ?_
  refine xe 1 [(14, .bool false), (3, .int .u8 (x5125.toNat : Int)), (0, Pt b4986 0)] ?_
  refine cF 14 rfl ?_
  refine sr r23_6 ?_
  refine xq 1 [(32, .int .u8 (x5125.toNat : Int)), (3, .int .u8 (x5125.toNat : Int)), (0, Pt b4986 0)] ?_
  rcases ifs ho5230 with ⟨hp5253, ho5230⟩ | ⟨hp5253, ho5230⟩
  refine r_step rfl trivial (o_cmp rfl rfl (c_eql_T hp5253)) ?_
  refine xe 1 [(31, .bool true), (3, .int .u8 (x5125.toNat : Int)), (0, Pt b4986 0)] ?_
  refine cT 31 rfl ?_
  refine sr r23_7 ?_
  refine xq 4 [(37, Pt b4986 1), (34, Pt b4986 0), (0, Pt b4986 0)] ?_
  refine r_step rfl trivial (o_ldb (v := V a0.At) hS5131 (i := 0) rfl rfl (by kernel_rfl)) ?_
  refine xq 1 [(39, V (w64 (a0.At + 1))), (34, Pt b4986 0), (0, Pt b4986 0)] ?_
  obtain ⟨r5254, hx5255, ho5230⟩ := obind ho5230
  have hF5261 : St _ _ _ _ _ _ ([.blk b4986 (K54 v4988 v4990 a0), .gs v4990 c4991 (csz api_Token)] ++ []) := ((hS5131.front 1 rfl).front 1 rfl)
  obtain ⟨v5256, h5257, Z5262, A5264, hcl5258, hSc5259, v5266, v5268, c5269, rfl, rfl, q5265, q5267⟩ := correctorref6_scanner_add_ok F hF5261.preL q4987 q4989 hx5255
  have hZ5263 := hSc5259.zle
  have hS5260 := hF5261.call hSc5259
  replace hS5260 : St _ _ _ _ _ _ [.blk b4986 (K54 v5266 v5268 r5254), .gs v5268 c5269 (csz api_Token)] := hS5260
  refine r_step rfl trivial (o_call hcl5258 rfl rfl rfl) ?_
  refine xf [(0, Pt b4986 0)] ?_
  refine rg r23_8 ?_
  refine xq 3 [(43, Pt b4986 3), (41, Pt b4986 0)] ?_
  refine r_step rfl trivial (o_ldb (v := V r5254.Open) hS5260 (i := 0) rfl rfl (by kernel_rfl)) ?_
  refine xq 3 [(47, Pt b4986 3), (45, V (w64 (r5254.Open + 1)))] ?_
  refine r_ex1 rfl trivial (o_stb (vs := [V (w64 (r5254.Open + 1))]) (cells' := [v5266, V r5254.At, V r5254.Row, V (w64 (r5254.Open + 1)), V r5254.Base, .bool r5254.Only, V r5254.Text, v5268]) (L' := [.blk b4986 [v5266, V r5254.At, V r5254.Row, V (w64 (r5254.Open + 1)), V r5254.Base, .bool r5254.Only, V r5254.Text, v5268], .gs v5268 c5269 (csz api_Token)]) hS5260 (i := 0) rfl rfl rfl rfl (by kernel_rfl) rfl rfl rfl rfl) ?_
  intro h5270 hS5271
  refine xf [] ?_
  obtain rfl := Option.some.inj ho5230
  exact ⟨_, (⟨r5254.B, r5254.At, r5254.Row, w64 (r5254.Open + 1), r5254.Base, r5254.Only, r5254.Text, r5254.L⟩ : correctorref6_scanner), v5266, v5268, c5269, rfl, q5265, q5267, rfl, hS5271⟩
  refine r_step rfl trivial (o_cmp rfl rfl (c_eql_F hp5253)) ?_
  refine xe 1 [(31, .bool false), (3, .int .u8 (x5125.toNat : Int)), (0, Pt b4986 0)] ?_
  refine cF 31 rfl ?_
  refine sr r23_9 ?_
  refine xq 1 [(49, .int .u8 (x5125.toNat : Int)), (3, .int .u8 (x5125.toNat : Int)), (0, Pt b4986 0)] ?_
  rcases ifs ho5230 with ⟨hp5273, ho5230⟩ | ⟨hp5273, ho5230⟩
  refine r_step rfl trivial (o_cmp rfl rfl (c_eql_T hp5273)) ?_
  refine xe 1 [(48, .bool true), (3, .int .u8 (x5125.toNat : Int)), (0, Pt b4986 0)] ?_
  refine cT 48 rfl ?_
  refine sr r23_10 ?_
  refine xq 4 [(54, Pt b4986 1), (51, Pt b4986 0), (0, Pt b4986 0)] ?_
  refine r_step rfl trivial (o_ldb (v := V a0.At) hS5131 (i := 0) rfl rfl (by kernel_rfl)) ?_
  refine xq 1 [(56, V (w64 (a0.At + 1))), (51, Pt b4986 0), (0, Pt b4986 0)] ?_
  obtain ⟨r5274, hx5275, ho5230⟩ := obind ho5230
  have hF5281 : St _ _ _ _ _ _ ([.blk b4986 (K54 v4988 v4990 a0), .gs v4990 c4991 (csz api_Token)] ++ []) := ((hS5131.front 1 rfl).front 1 rfl)
  obtain ⟨v5276, h5277, Z5282, A5284, hcl5278, hSc5279, v5286, v5288, c5289, rfl, rfl, q5285, q5287⟩ := correctorref6_scanner_add_ok F hF5281.preL q4987 q4989 hx5275
  have hZ5283 := hSc5279.zle
  have hS5280 := hF5281.call hSc5279
  replace hS5280 : St _ _ _ _ _ _ [.blk b4986 (K54 v5286 v5288 r5274), .gs v5288 c5289 (csz api_Token)] := hS5280
  refine r_step rfl trivial (o_call hcl5278 rfl rfl rfl) ?_
  refine xf [(0, Pt b4986 0)] ?_
  refine rg r23_11 ?_
  refine xq 4 [(61, Pt b4986 3), (58, Pt b4986 0)] ?_
  refine r_step rfl trivial (o_ldb (v := V r5274.Open) hS5280 (i := 0) rfl rfl (by kernel_rfl)) ?_
  refine xq 4 [(66, Pt b4986 3), (64, V (imax (w64 (r5274.Open - 1)) 0))] ?_
  refine r_ex1 rfl trivial (o_stb (vs := [V (imax (w64 (r5274.Open - 1)) 0)]) (cells' := [v5286, V r5274.At, V r5274.Row, V (imax (w64 (r5274.Open - 1)) 0), V r5274.Base, .bool r5274.Only, V r5274.Text, v5288]) (L' := [.blk b4986 [v5286, V r5274.At, V r5274.Row, V (imax (w64 (r5274.Open - 1)) 0), V r5274.Base, .bool r5274.Only, V r5274.Text, v5288], .gs v5288 c5289 (csz api_Token)]) hS5280 (i := 0) rfl rfl rfl rfl (by kernel_rfl) rfl rfl rfl rfl) ?_
  intro h5290 hS5291
  refine xf [] ?_
  obtain rfl := Option.some.inj ho5230
  exact ⟨_, (⟨r5274.B, r5274.At, r5274.Row, imax (w64 (r5274.Open - 1)) 0, r5274.Base, r5274.Only, r5274.Text, r5274.L⟩ : correctorref6_scanner), v5286, v5288, c5289, rfl, q5285, q5287, rfl, hS5291⟩
  refine r_step rfl trivial (o_cmp rfl rfl (c_eql_F hp5273)) ?_
  refine xe 1 [(48, .bool false), (3, .int .u8 (x5125.toNat : Int)), (0, Pt b4986 0)] ?_
  refine cF 48 rfl ?_
  refine sr r23_12 ?_
  refine xq 1 [(68, .int .u8 (x5125.toNat : Int)), (3, .int .u8 (x5125.toNat : Int)), (0, Pt b4986 0)] ?_
  rcases ifs ho5230 with ⟨hp5293, ho5230⟩ | ⟨hp5293, ho5230⟩
  refine r_step rfl trivial (o_cmp rfl rfl (c_eql_T hp5293)) ?_
  refine xe 1 [(67, .bool true), (3, .int .u8 (x5125.toNat : Int)), (0, Pt b4986 0)] ?_
  refine cT 67 rfl ?_
  refine sr r23_13 ?_
  refine xq 4 [(73, Pt b4986 1), (70, Pt b4986 0), (0, Pt b4986 0)] ?_
  refine r_step rfl trivial (o_ldb (v := V a0.At) hS5131 (i := 0) rfl rfl (by kernel_rfl)) ?_
  refine xq 1 [(75, V (w64 (a0.At + 1))), (70, Pt b4986 0), (0, Pt b4986 0)] ?_
  obtain ⟨r5294, hx5295, ho5230⟩ := obind ho5230
  have hF5301 : St _ _ _ _ _ _ ([.blk b4986 (K54 v4988 v4990 a0), .gs v4990 c4991 (csz api_Token)] ++ []) := ((hS5131.front 1 rfl).front 1 rfl)
  obtain ⟨v5296, h5297, Z5302, A5304, hcl5298, hSc5299, v5306, v5308, c5309, rfl, rfl, q5305, q5307⟩ := correctorref6_scanner_add_ok F hF5301.preL q4987 q4989 hx5295
  have hZ5303 := hSc5299.zle
  have hS5300 := hF5301.call hSc5299
  replace hS5300 : St _ _ _ _ _ _ [.blk b4986 (K54 v5306 v5308 r5294), .gs v5308 c5309 (csz api_Token)] := hS5300
  refine r_step rfl trivial (o_call hcl5298 rfl rfl rfl) ?_
  refine xf [(0, Pt b4986 0)] ?_
  refine rg r23_14 ?_
  refine xq 4 [(80, Pt b4986 3), (77, Pt b4986 0)] ?_
  refine r_step rfl trivial (o_ldb (v := V r5294.Open) hS5300 (i := 0) rfl rfl (by kernel_rfl)) ?_
  refine xq 4 [(85, Pt b4986 3), (83, V (imax (w64 (r5294.Open - 1)) 0))] ?_
  refine r_ex1 rfl trivial (o_stb (vs := [V (imax (w64 (r5294.Open - 1)) 0)]) (cells' := [v5306, V r5294.At, V r5294.Row, V (imax (w64 (r5294.Open - 1)) 0), V r5294.Base, .bool r5294.Only, V r5294.Text, v5308]) (L' := [.blk b4986 [v5306, V r5294.At, V r5294.Row, V (imax (w64 (r5294.Open - 1)) 0), V r5294.Base, .bool r5294.Only, V r5294.Text, v5308], .gs v5308 c5309 (csz api_Token)]) hS5300 (i := 0) rfl rfl rfl rfl (by kernel_rfl) rfl rfl rfl rfl) ?_
  intro h5310 hS5311
  refine xf [] ?_
  obtain rfl := Option.some.inj ho5230
  exact ⟨_, (⟨r5294.B, r5294.At, r5294.Row, imax (w64 (r5294.Open - 1)) 0, r5294.Base, r5294.Only, r5294.Text, r5294.L⟩ : correctorref6_scanner), v5306, v5308, c5309, rfl, q5305, q5307, rfl, hS5311⟩
  refine r_step rfl trivial (o_cmp rfl rfl (c_eql_F hp5293)) ?_
  refine xe 1 [(67, .bool false), (3, .int .u8 (x5125.toNat : Int)), (0, Pt b4986 0)] ?_
  refine cF 67 rfl ?_
  refine sr r23_15 ?_
  refine xq 1 [(87, .int .u8 (x5125.toNat : Int)), (0, Pt b4986 0)] ?_
  rcases ifs ho5230 with ⟨hp5312, ho5230⟩ | ⟨hp5312, ho5230⟩
  refine r_step rfl trivial (o_cmp rfl rfl (c_eql_T hp5312)) ?_
  refine xq 4 [(92, Pt b4986 3), (89, .bool true), (0, Pt b4986 0)] ?_
  refine r_step rfl rfl (o_ldb (v := V a0.Open) hS5131 (i := 0) rfl rfl (by kernel_rfl)) ?_
  rcases ifs ho5230 with ⟨hp5313, ho5230⟩ | ⟨hp5313, ho5230⟩
  refine r_step rfl rfl (o_cmp rfl rfl (c_gtr_T hp5313)) ?_
  refine xe 2 [(86, .bool true), (0, Pt b4986 0)] ?_
  refine cT 86 rfl ?_
  refine rg r23_16 ?_
  refine xq 4 [(99, Pt b4986 1), (96, Pt b4986 0)] ?_
  refine r_step rfl trivial (o_ldb (v := V a0.At) hS5131 (i := 0) rfl rfl (by kernel_rfl)) ?_
  refine xq 1 [(101, V (w64 (a0.At + 1))), (96, Pt b4986 0)] ?_
  obtain ⟨r5314, hx5315, ho5230⟩ := obind ho5230
  have hF5321 : St _ _ _ _ _ _ ([.blk b4986 (K54 v4988 v4990 a0), .gs v4990 c4991 (csz api_Token)] ++ []) := ((hS5131.front 1 rfl).front 1 rfl)
  obtain ⟨v5316, h5317, Z5322, A5324, hcl5318, hSc5319, v5326, v5328, c5329, rfl, rfl, q5325, q5327⟩ := correctorref6_scanner_add_ok F hF5321.preL q4987 q4989 hx5315
  have hZ5323 := hSc5319.zle
  have hS5320 := hF5321.call hSc5319
  replace hS5320 : St _ _ _ _ _ _ [.blk b4986 (K54 v5326 v5328 r5314), .gs v5328 c5329 (csz api_Token)] := hS5320
  refine r_step rfl trivial (o_call hcl5318 rfl rfl rfl) ?_
  refine xf [] ?_
  obtain rfl := Option.some.inj ho5230
  exact ⟨_, r5314, v5326, v5328, c5329, rfl, q5325, q5327, rfl, hS5320⟩
  refine r_step rfl rfl (o_cmp rfl rfl (c_gtr_F hp5313)) ?_
  refine xe 2 [(86, .bool false), (0, Pt b4986 0)] ?_
  refine cF 86 rfl ?_
  refine sr r23_2 ?_
  refine xe 1 [(2, .bool false)] ?_
  refine rt ?_
  refine blkX_ret ?_
  refine ⟨rfl, ?_⟩
  obtain rfl := Option.some.inj ho5230
  obtain rfl := Option.some.inj hm
  refine ⟨_, _, _, ResL.tmp rfl (ResL.nil), hS5131, ?_⟩
  exact ⟨v4988, v4990, c4991, rfl, rfl, q4987, q4989⟩
  refine r_step rfl trivial (o_cmp rfl rfl (c_eql_F hp5312)) ?_
  refine xe 8 [(86, .bool false), (0, Pt b4986 0)] ?_
  refine cF 86 rfl ?_
  refine sr r23_2 ?_
  refine xe 1 [(2, .bool false)] ?_
  refine rt ?_
  refine blkX_ret ?_
  refine ⟨rfl, ?_⟩
  obtain rfl := Option.some.inj ho5230
  obtain rfl := Option.some.inj hm
  refine ⟨_, _, _, ResL.tmp rfl (ResL.nil), hS5131, ?_⟩
  exact ⟨v4988, v4990, c4991, rfl, rfl, q4987, q4989⟩

def r51_0 : List COp := [u 8 (.assign (.const (.int .i32 0))), u 9 (.assign (ci 0))]
def r51_1 : List COp := [u 11 (.move (t 0)), u 12 (cb .len #[(t 11)] #[23]), u 13 (.move (t 1)), u 14 (.binOp .lss 3 (t 12) (t 13) 3)]
def r51_2 : List COp := [u 8 (.assign (.const (.int .i32 (-1)))), u 9 (.assign (ci 1))]
def r51_3 : List COp := [u 10 (.assign (ci 1))]
def r51_4 : List COp := [u 15 (.move (t 10)), u 16 (.move (t 1)), u 17 (.binOp .lss 3 (t 15) (t 16) 3)]
def r51_5 : List COp := [u 18 (.move (t 10)), u 19 (.binOp .add 3 (t 18) (ci 1) 3), u 10 (.assign (t 19))]
def r51_6 : List COp := [u 20 (.move (t 0)), u 21 (.move (t 10)), u 22 (.indexAddr 23 (t 20) (t 21)), u 23 (.load 5 (t 22)), u 24 (.binOp .lss 5 (t 23) (.const (.int .u8 128)) 5), u 25 (.move (t 24)), gN 25 (some 26) (.move (t 0)), gN 25 (some 27) (.move (t 10)), gN 25 (some 28) (.indexAddr 23 (t 26) (t 27)), gN 25 (some 29) (.load 5 (t 28)), gN 25 (some 30) (.binOp .gtr 5 (t 29) (.const (.int .u8 191)) 5), u 31 (.pick (t 25) (.const (.bool true)) (t 30))]
def r51_7 : List COp := [u 8 (.assign (.const (.int .i32 (-1)))), u 9 (.assign (ci 1))]
def r51_8 : List COp := [u 32 (.move (t 2)), u 33 (.binOp .shl 21 (t 32) (.const (.int .u64 6)) 74), u 34 (.move (t 0)), u 35 (.move (t 10)), u 36 (.indexAddr 23 (t 34) (t 35)), u 37 (.load 5 (t 36)), u 38 (.binOp .and 5 (t 37) (.const (.int .u8 63)) 5), u 39 (.convert 5 21 (t 38)), u 40 (.binOp .or 21 (t 33) (t 39) 21), u 2 (.assign (t 40))]
def r51_9 : List COp := [u 41 (.move (t 2)), u 42 (.move (t 3)), u 43 (.binOp .lss 21 (t 41) (t 42) 21), u 44 (.move (t 43)), gN 44 (some 45) (.move (t 2)), gN 44 (some 46) (.binOp .gtr 21 (t 45) (.const (.int .i32 1114111)) 21), u 47 (.pick (t 44) (.const (.bool true)) (t 46)), u 48 (.move (t 47)), gN 48 (some 49) (.move (t 2)), gN 48 (some 50) (.binOp .geq 21 (t 49) (.const (.int .i32 55296)) 21), gN 48 (some 51) (.move (t 50)), gT 51 (some 52) (.move (t 2)), gT 51 (some 53) (.binOp .leq 21 (t 52) (.const (.int .i32 57343)) 21), gN 48 (some 54) (.pick (t 51) (t 53) (.const (.bool false))), u 55 (.pick (t 48) (.const (.bool true)) (t 54))]
def r51_10 : List COp := [u 8 (.assign (.const (.int .i32 (-1)))), u 9 (.assign (ci 1))]
def r51_11 : List COp := [u 56 (.move (t 2)), u 57 (.move (t 1)), u 8 (.assign (t 56)), u 9 (.assign (t 57))]
def correctorref1_sign_l0 (F : Nat) (a0 : List UInt8) (a1 : Int) (a2 : Int) (a3 : Int) : Nat → Int → Int → Option (Sum Int (Int × Int))
  | 0, _, _ => none
  | n + 1, x5935, x5936 =>
    if x5936 < a1 then
      if 0 ≤ x5936 ∧ x5936 < (a0.length : Int) then
        (a0[x5936.toNat]?).bind fun x5976 =>
        if (x5976.toNat : Int) < (128 : Int) then
          some (.inr ((-1), 1))
        else
          if 0 ≤ x5936 ∧ x5936 < (a0.length : Int) then
            (a0[x5936.toNat]?).bind fun x5984 =>
            if (191 : Int) < (x5984.toNat : Int) then
              some (.inr ((-1), 1))
            else
              if 0 ≤ x5936 ∧ x5936 < (a0.length : Int) then
                (a0[x5936.toNat]?).bind fun x5992 =>
                correctorref1_sign_l0 F a0 a1 a2 a3 n (ior .i32 (ishl .i32 x5935 6) (IntKind.wrap .i32 (iand .u8 (x5992.toNat : Int) 63))) (w64 (x5936 + 1))
              else none
          else none
      else none
    else
      some (.inl x5935)
def correctorref1_sign (F : Nat) (a0 : List UInt8) (a1 : Int) (a2 : Int) (a3 : Int) : Option (Int × Int) :=
  if (a0.length : Int) < a1 then
    some ((-1), 1)
  else
    ((correctorref1_sign_l0 F a0 a1 a2 a3 F a2 1) : Option (Sum Int (Int × Int))).bind fun o => match o with
      | .inl x6000 => ((if x6000 < a3 then
          some (.inr ((-1), 1))
        else
          if (1114111 : Int) < x6000 then
            some (.inr ((-1), 1))
          else
            if (55296 : Int) ≤ x6000 then
              if x6000 ≤ (57343 : Int) then
                some (.inr ((-1), 1))
              else
                some (.inl ())
            else
              some (.inl ())) : Option (Sum Unit (Int × Int))).bind fun o => match o with
        | .inl () => some (x6000, a1)
        | .inr y => some y
      | .inr y => some y
theorem correctorref1_sign_ok (F : Nat) {h : AH} {Z : Zn} {a0 : List UInt8} {a1 : Int} {a2 : Int} {a3 : Int} {v5410 : Value} (hI : Inv Z h) (q5409 : RS (α := UInt8) Z v5410 a0) {r : Int × Int} (hm : correctorref1_sign F a0 a1 a2 a3 = some r) :
    ∃ v h', callI Go.Proofs.Try.prog 51 [v5410, V a1, .int .i32 a2, .int .i32 a3] h = some (v, h') ∧ St h [] Z (0, 0) Z h' [] ∧ v = .tuple #[.int .i32 r.1, V r.2] := by
  refine fn_plain (Q := fun v => v = .tuple #[.int .i32 r.1, V r.2]) Go.Proofs.Try.func51 rfl rfl hI ?_
  intro hs hS
  unfold correctorref1_sign at hm
  refine sr r51_0 ?_
  refine xe 2 [(0, v5410), (1, V a1), (2, .int .i32 a2), (3, .int .i32 a3)] ?_
  refine sq ?_
  refine sr r51_1 ?_
  refine xq 1 [(11, v5410), (0, v5410), (1, V a1), (2, .int .i32 a2), (3, .int .i32 a3)] ?_
  refine r_step rfl trivial (o_len rfl (RS.len q5409) ⟨_, Go.Proofs.Try.underlying23⟩) ?_
  refine xq 1 [(13, V a1), (12, V (a0.length : Int)), (0, v5410), (1, V a1), (2, .int .i32 a2), (3, .int .i32 a3)] ?_
  rcases ifs hm with ⟨hp5679, hm⟩ | ⟨hp5679, hm⟩
  refine r_step rfl trivial (o_cmp rfl rfl (c_lss_T hp5679)) ?_
  refine xf [(14, .bool true), (0, v5410), (1, V a1), (2, .int .i32 a2), (3, .int .i32 a3)] ?_
  refine cT 14 rfl ?_
  refine sr r51_2 ?_
  refine xe 2 [(9, V 1), (8, .int .i32 (-1))] ?_
  refine rt ?_
  refine ⟨rfl, ?_⟩
  obtain rfl := Option.some.inj hm
  refine ⟨_, _, _, ResL.tmp rfl (ResL.tmp rfl (ResL.nil)), hS, ?_⟩
  exact rfl
  refine r_step rfl trivial (o_cmp rfl rfl (c_lss_F hp5679)) ?_
  refine xf [(14, .bool false), (0, v5410), (1, V a1), (2, .int .i32 a2), (3, .int .i32 a3)] ?_
  refine kF 14 rfl ?_
  refine sq ?_
  refine sr r51_3 ?_
  refine xe 1 [(10, V 1), (0, v5410), (1, V a1), (2, .int .i32 a2), (3, .int .i32 a3)] ?_
  obtain ⟨o5933, ho5932, hm⟩ := obind hm
  refine W_join [1, 2, 3] (fun l h => ∃ Z5999 : Zn, ∃ x6000 : Int, .inl x6000 = o5933 ∧ l = [(1, V a1), (2, .int .i32 x6000), (3, .int .i32 a3)] ∧ St hs [] Z (0, 0) Z5999 h []) ?_ ?_
  rintro l h6001 ⟨Z5999, x6000, rfl, rfl, hS6002⟩
  try dsimp only at hm
  refine sq ?_
  obtain ⟨o6008, ho6007, hm⟩ := obind hm
  refine W_seqJoin0 [1, 2] (fun l h => ∃ Z6013 : Zn, .inl () = o6008 ∧ l = [(1, V a1), (2, .int .i32 x6000)] ∧ St hs [] Z (0, 0) Z6013 h []) (by kernel_rfl) ?_ ?_
  rintro l h6014 ⟨Z6013, rfl, rfl, hS6015⟩
  try dsimp only at hm
  refine sr r51_11 ?_
  refine xe 4 [(9, V a1), (8, .int .i32 x6000)] ?_
  refine rt ?_
  refine ⟨rfl, ?_⟩
  obtain rfl := Option.some.inj hm
  refine ⟨_, _, _, ResL.tmp rfl (ResL.tmp rfl (ResL.nil)), hS6015, ?_⟩
  exact rfl
  refine rg r51_9 ?_
  refine xq 2 [(42, .int .i32 a3), (41, .int .i32 x6000), (1, V a1), (2, .int .i32 x6000)] ?_
  rcases ifs ho6007 with ⟨hp6009, ho6007⟩ | ⟨hp6009, ho6007⟩
  refine r_step rfl trivial (o_cmp rfl rfl (c_lss_T hp6009)) ?_
  refine xe 12 [(55, .bool true), (1, V a1), (2, .int .i32 x6000)] ?_
  refine cT 55 rfl ?_
  refine sr r51_10 ?_
  refine xe 2 [(9, V 1), (8, .int .i32 (-1))] ?_
  refine rt ?_
  refine ⟨rfl, ?_⟩
  obtain rfl := Option.some.inj ho6007
  obtain rfl := Option.some.inj hm
  refine ⟨_, _, _, ResL.tmp rfl (ResL.tmp rfl (ResL.nil)), hS6002, ?_⟩
  exact rfl
  refine r_step rfl trivial (o_cmp rfl rfl (c_lss_F hp6009)) ?_
  refine xq 2 [(45, .int .i32 x6000), (44, .bool false), (1, V a1), (2, .int .i32 x6000)] ?_
  rcases ifs ho6007 with ⟨hp6010, ho6007⟩ | ⟨hp6010, ho6007⟩
  refine r_step rfl rfl (o_cmp rfl rfl (c_gtr_T hp6010)) ?_
  refine xe 9 [(55, .bool true), (1, V a1), (2, .int .i32 x6000)] ?_
  refine cT 55 rfl ?_
  refine sr r51_10 ?_
  refine xe 2 [(9, V 1), (8, .int .i32 (-1))] ?_
  refine rt ?_
  refine ⟨rfl, ?_⟩
  obtain rfl := Option.some.inj ho6007
  obtain rfl := Option.some.inj hm
  refine ⟨_, _, _, ResL.tmp rfl (ResL.tmp rfl (ResL.nil)), hS6002, ?_⟩
  exact rfl
  refine r_step rfl rfl (o_cmp rfl rfl (c_gtr_F hp6010)) ?_
  refine xq 3 [(49, .int .i32 x6000), (48, .bool false), (1, V a1), (2, .int .i32 x6000)] ?_
  rcases ifs ho6007 with ⟨hp6011, ho6007⟩ | ⟨hp6011, ho6007⟩
  refine r_step rfl rfl (o_cmp rfl rfl (c_geq_T hp6011)) ?_
  refine xq 2 [(52, .int .i32 x6000), (51, .bool true), (48, .bool false), (1, V a1), (2, .int .i32 x6000)] ?_
  rcases ifs ho6007 with ⟨hp6012, ho6007⟩ | ⟨hp6012, ho6007⟩
  refine r_step rfl rfl (o_cmp rfl rfl (c_leq_T hp6012)) ?_
  refine xe 2 [(55, .bool true), (1, V a1), (2, .int .i32 x6000)] ?_
  refine cT 55 rfl ?_
  refine sr r51_10 ?_
  refine xe 2 [(9, V 1), (8, .int .i32 (-1))] ?_
  refine rt ?_
  refine ⟨rfl, ?_⟩
  obtain rfl := Option.some.inj ho6007
  obtain rfl := Option.some.inj hm
  refine ⟨_, _, _, ResL.tmp rfl (ResL.tmp rfl (ResL.nil)), hS6002, ?_⟩
  exact rfl
  refine r_step rfl rfl (o_cmp rfl rfl (c_leq_F hp6012)) ?_
  refine xe 2 [(55, .bool false), (1, V a1), (2, .int .i32 x6000)] ?_
  refine kF 55 rfl ?_
  obtain rfl := Option.some.inj ho6007
  exact ⟨_, rfl, rfl, hS6002⟩
  refine r_step rfl rfl (o_cmp rfl rfl (c_geq_F hp6011)) ?_
  refine xe 5 [(55, .bool false), (1, V a1), (2, .int .i32 x6000)] ?_
  refine kF 55 rfl ?_
  obtain rfl := Option.some.inj ho6007
  exact ⟨_, rfl, rfl, hS6002⟩
  refine bk 0 ?_
  refine lp [0, 1, 2, 3, 10] (fun n l h => ∃ Z5934 : Zn, ∃ x5935 : Int, ∃ x5936 : Int, correctorref1_sign_l0 F a0 a1 a2 a3 n x5935 x5936 = some o5933 ∧ l = [(0, v5410), (1, V a1), (2, .int .i32 x5935), (3, .int .i32 a3), (10, V x5936)] ∧ St hs [] Z (0, 0) Z5934 h []) F ⟨_, a2, 1, ho5932, rfl, hS⟩ ?_
  rintro n5939 l h5937 ⟨Z5934, x5935, x5936, ho5932, rfl, hS5938⟩
  rcases n5939 with _ | n5939
  cases (show none = some o5933 from ho5932)
  rw [correctorref1_sign_l0] at ho5932
  refine sq ?_
  refine sr r51_4 ?_
  refine xq 2 [(16, V a1), (15, V x5936), (0, v5410), (1, V a1), (2, .int .i32 x5935), (3, .int .i32 a3), (10, V x5936)] ?_
  rcases ifs ho5932 with ⟨hp5942, ho5932⟩ | ⟨hp5942, ho5932⟩
  refine r_step rfl trivial (o_cmp rfl rfl (c_lss_T hp5942)) ?_
  refine xf [(17, .bool true), (0, v5410), (1, V a1), (2, .int .i32 x5935), (3, .int .i32 a3), (10, V x5936)] ?_
  refine kT 17 rfl ?_
  refine sq ?_
  refine bk 1 ?_
  refine sq ?_
  refine sr r51_6 ?_
  refine xq 2 [(21, V x5936), (20, v5410), (0, v5410), (1, V a1), (2, .int .i32 x5935), (3, .int .i32 a3), (10, V x5936)] ?_
  obtain ⟨hc5975, ho5932⟩ := chk ho5932
  refine r_step rfl trivial (o_index rfl rfl (by kernel_rfl : slTy _ _ = some (csz UInt8)) (RS.based (q5409.mono hS5938.zle) (by omega)) hc5975.1 hc5975.2) ?_
  obtain ⟨x5976, hx5977, ho5932⟩ := obind ho5932
  obtain ⟨cs5978, hc5979, he5980⟩ := RS.elz (q5409.mono hS5938.zle) (i := x5936) hx5977
  obtain rfl := rc_UInt8 hc5979
  refine r_step rfl trivial (o_lde (w := .int .u8 (x5976.toNat : Int)) (he5980 _ (hS5938.zin0 (Zle.refl _))) rfl (by kernel_rfl)) ?_
  rcases ifs ho5932 with ⟨hp5982, ho5932⟩ | ⟨hp5982, ho5932⟩
  refine r_step rfl trivial (o_cmp rfl rfl (c_lss_T hp5982)) ?_
  refine xe 7 [(31, .bool true), (0, v5410), (1, V a1), (2, .int .i32 x5935), (3, .int .i32 a3), (10, V x5936)] ?_
  refine cT 31 rfl ?_
  refine sr r51_7 ?_
  refine xe 2 [(9, V 1), (8, .int .i32 (-1))] ?_
  refine rt ?_
  refine blkX_ret ?_
  refine blkX_ret ?_
  refine ⟨rfl, ?_⟩
  obtain rfl := Option.some.inj ho5932
  obtain rfl := Option.some.inj hm
  refine ⟨_, _, _, ResL.tmp rfl (ResL.tmp rfl (ResL.nil)), hS5938, ?_⟩
  exact rfl
  refine r_step rfl trivial (o_cmp rfl rfl (c_lss_F hp5982)) ?_
  refine xq 3 [(27, V x5936), (26, v5410), (25, .bool false), (0, v5410), (1, V a1), (2, .int .i32 x5935), (3, .int .i32 a3), (10, V x5936)] ?_
  obtain ⟨hc5983, ho5932⟩ := chk ho5932
  refine r_step rfl rfl (o_index rfl rfl (by kernel_rfl : slTy _ _ = some (csz UInt8)) (RS.based (q5409.mono hS5938.zle) (by omega)) hc5983.1 hc5983.2) ?_
  obtain ⟨x5984, hx5985, ho5932⟩ := obind ho5932
  obtain ⟨cs5986, hc5987, he5988⟩ := RS.elz (q5409.mono hS5938.zle) (i := x5936) hx5985
  obtain rfl := rc_UInt8 hc5987
  refine r_step rfl rfl (o_lde (w := .int .u8 (x5984.toNat : Int)) (he5988 _ (hS5938.zin0 (Zle.refl _))) rfl (by kernel_rfl)) ?_
  rcases ifs ho5932 with ⟨hp5990, ho5932⟩ | ⟨hp5990, ho5932⟩
  refine r_step rfl rfl (o_cmp rfl rfl (c_gtr_T hp5990)) ?_
  refine xe 1 [(31, .bool true), (0, v5410), (1, V a1), (2, .int .i32 x5935), (3, .int .i32 a3), (10, V x5936)] ?_
  refine cT 31 rfl ?_
  refine sr r51_7 ?_
  refine xe 2 [(9, V 1), (8, .int .i32 (-1))] ?_
  refine rt ?_
  refine blkX_ret ?_
  refine blkX_ret ?_
  refine ⟨rfl, ?_⟩
  obtain rfl := Option.some.inj ho5932
  obtain rfl := Option.some.inj hm
  refine ⟨_, _, _, ResL.tmp rfl (ResL.tmp rfl (ResL.nil)), hS5938, ?_⟩
  exact rfl
  refine r_step rfl rfl (o_cmp rfl rfl (c_gtr_F hp5990)) ?_
  refine xe 1 [(31, .bool false), (0, v5410), (1, V a1), (2, .int .i32 x5935), (3, .int .i32 a3), (10, V x5936)] ?_
  refine kF 31 rfl ?_
  refine rg r51_8 ?_
  refine xq 4 [(35, V x5936), (34, v5410), (33, .int .i32 (ishl .i32 x5935 6)), (0, v5410), (1, V a1), (2, .int .i32 x5935), (3, .int .i32 a3), (10, V x5936)] ?_
  obtain ⟨hc5991, ho5932⟩ := chk ho5932
  refine r_step rfl trivial (o_index rfl rfl (by kernel_rfl : slTy _ _ = some (csz UInt8)) (RS.based (q5409.mono hS5938.zle) (by omega)) hc5991.1 hc5991.2) ?_
  obtain ⟨x5992, hx5993, ho5932⟩ := obind ho5932
  obtain ⟨cs5994, hc5995, he5996⟩ := RS.elz (q5409.mono hS5938.zle) (i := x5936) hx5993
  obtain rfl := rc_UInt8 hc5995
  refine r_step rfl trivial (o_lde (w := .int .u8 (x5992.toNat : Int)) (he5996 _ (hS5938.zin0 (Zle.refl _))) rfl (by kernel_rfl)) ?_
  refine xq 1 [(38, .int .u8 (iand .u8 (x5992.toNat : Int) 63)), (33, .int .i32 (ishl .i32 x5935 6)), (0, v5410), (1, V a1), (2, .int .i32 x5935), (3, .int .i32 a3), (10, V x5936)] ?_
  refine r_step rfl trivial (o_conv (k := .i32) (n := iand .u8 (x5992.toNat : Int) 63) rfl (by kernel_rfl)) ?_
  refine xe 2 [(2, .int .i32 (ior .i32 (ishl .i32 x5935 6) (IntKind.wrap .i32 (iand .u8 (x5992.toNat : Int) 63)))), (0, v5410), (1, V a1), (3, .int .i32 a3), (10, V x5936)] ?_
  refine rg r51_5 ?_
  refine xe 3 [(10, V (w64 (x5936 + 1))), (2, .int .i32 (ior .i32 (ishl .i32 x5935 6) (IntKind.wrap .i32 (iand .u8 (x5992.toNat : Int) 63)))), (0, v5410), (1, V a1), (3, .int .i32 a3)] ?_
  exact ⟨n5939, Nat.lt_succ_self _, ⟨_, ior .i32 (ishl .i32 x5935 6) (IntKind.wrap .i32 (iand .u8 (x5992.toNat : Int) 63)), w64 (x5936 + 1), ho5932, rfl, hS5938⟩⟩
  refine r_step rfl trivial (o_cmp rfl rfl (c_lss_F hp5942)) ?_
  refine xf [(17, .bool false), (0, v5410), (1, V a1), (2, .int .i32 x5935), (3, .int .i32 a3), (10, V x5936)] ?_
  refine cF 17 rfl ?_
  refine xt 0 ?_
  refine blkX_hit ?_
  obtain rfl := Option.some.inj ho5932
  exact ⟨_, x5935, rfl, rfl, hS5938⟩

def r44_0 : List COp := [u 2 (.assign (.const (.int .i32 0))), u 3 (.assign (ci 0))]
def r44_1 : List COp := [u 5 (.move (t 0)), u 6 (cb .len #[(t 5)] #[23]), u 7 (.binOp .eql 3 (t 6) (ci 0) 3)]
def r44_2 : List COp := [u 2 (.assign (.const (.int .i32 (-1)))), u 3 (.assign (ci 0))]
def r44_3 : List COp := [u 8 (.move (t 0)), u 9 (.indexAddr 23 (t 8) (ci 0)), u 10 (.load 5 (t 9)), u 4 (.assign (t 10))]
def r44_4 : List COp := [u 12 (.move (t 4)), u 13 (.binOp .lss 5 (t 12) (.const (.int .u8 128)) 5), u 11 (.assign (t 13))]
def r44_5 : List COp := [u 14 (.move (t 4)), u 15 (.convert 5 21 (t 14)), u 2 (.assign (t 15)), u 3 (.assign (ci 1))]
def r44_6 : List COp := [u 17 (.move (t 4)), u 18 (.binOp .geq 5 (t 17) (.const (.int .u8 192)) 5), u 19 (.move (t 18)), gT 19 (some 20) (.move (t 4)), gT 19 (some 21) (.binOp .lss 5 (t 20) (.const (.int .u8 224)) 5), u 22 (.pick (t 19) (t 21) (.const (.bool false))), u 16 (.assign (t 22))]
def r44_7 : List COp := [u 23 (.move (t 0)), u 24 (.move (t 4)), u 25 (.binOp .and 5 (t 24) (.const (.int .u8 31)) 5), u 26 (.convert 5 21 (t 25)), u 27 (cf 51 #[(t 23), (ci 2), (t 26), (.const (.int .i32 128))] #[23, 3, 21, 21]), u 28 (.extract (t 27) 0), u 29 (.extract (t 27) 1), u 2 (.assign (t 28)), u 3 (.assign (t 29))]
def r44_8 : List COp := [u 31 (.move (t 4)), u 32 (.binOp .geq 5 (t 31) (.const (.int .u8 224)) 5), u 33 (.move (t 32)), gT 33 (some 34) (.move (t 4)), gT 33 (some 35) (.binOp .lss 5 (t 34) (.const (.int .u8 240)) 5), u 36 (.pick (t 33) (t 35) (.const (.bool false))), u 30 (.assign (t 36))]
def r44_9 : List COp := [u 37 (.move (t 0)), u 38 (.move (t 4)), u 39 (.binOp .and 5 (t 38) (.const (.int .u8 15)) 5), u 40 (.convert 5 21 (t 39)), u 41 (cf 51 #[(t 37), (ci 3), (t 40), (.const (.int .i32 2048))] #[23, 3, 21, 21]), u 42 (.extract (t 41) 0), u 43 (.extract (t 41) 1), u 2 (.assign (t 42)), u 3 (.assign (t 43))]
def r44_10 : List COp := [u 45 (.move (t 4)), u 46 (.binOp .geq 5 (t 45) (.const (.int .u8 240)) 5), u 47 (.move (t 46)), gT 47 (some 48) (.move (t 4)), gT 47 (some 49) (.binOp .lss 5 (t 48) (.const (.int .u8 248)) 5), u 50 (.pick (t 47) (t 49) (.const (.bool false))), u 44 (.assign (t 50))]
def r44_11 : List COp := [u 51 (.move (t 0)), u 52 (.move (t 4)), u 53 (.binOp .and 5 (t 52) (.const (.int .u8 7)) 5), u 54 (.convert 5 21 (t 53)), u 55 (cf 51 #[(t 51), (ci 4), (t 54), (.const (.int .i32 65536))] #[23, 3, 21, 21]), u 56 (.extract (t 55) 0), u 57 (.extract (t 55) 1), u 2 (.assign (t 56)), u 3 (.assign (t 57))]
def r44_12 : List COp := [u 2 (.assign (.const (.int .i32 (-1)))), u 3 (.assign (ci 1))]
def correctorref1_Next (F : Nat) (a0 : List UInt8) : Option (Int × Int) :=
  if (a0.length : Int) = (0 : Int) then
    some ((-1), 0)
  else
    if 0 ≤ (0 : Int) ∧ (0 : Int) < (a0.length : Int) then
      (a0[(0 : Int).toNat]?).bind fun x6056 =>
      ((if (x6056.toNat : Int) < (128 : Int) then
          some (.inr (IntKind.wrap .i32 (x6056.toNat : Int), 1))
        else
          ((if (192 : Int) ≤ (x6056.toNat : Int) then
              if (x6056.toNat : Int) < (224 : Int) then
                some true
              else
                some false
            else
              some false) : Option Bool).bind fun o => match o with
            | x6117 => if x6117 = true then
              (correctorref1_sign F a0 2 (IntKind.wrap .i32 (iand .u8 (x6056.toNat : Int) 31)) 128).bind fun r6121 =>
              some (.inr (r6121.1, r6121.2))
            else
              ((if (224 : Int) ≤ (x6056.toNat : Int) then
                  if (x6056.toNat : Int) < (240 : Int) then
                    some true
                  else
                    some false
                else
                  some false) : Option Bool).bind fun o => match o with
                | x6137 => if x6137 = true then
                  (correctorref1_sign F a0 3 (IntKind.wrap .i32 (iand .u8 (x6056.toNat : Int) 15)) 2048).bind fun r6141 =>
                  some (.inr (r6141.1, r6141.2))
                else
                  if (240 : Int) ≤ (x6056.toNat : Int) then
                    if (x6056.toNat : Int) < (248 : Int) then
                      (correctorref1_sign F a0 4 (IntKind.wrap .i32 (iand .u8 (x6056.toNat : Int) 7)) 65536).bind fun r6150 =>
                      some (.inr (r6150.1, r6150.2))
                    else
                      some (.inl ())
                  else
                    some (.inl ())) : Option (Sum Unit (Int × Int))).bind fun o => match o with
        | .inl () => some ((-1), 1)
        | .inr y => some y
    else none
theorem correctorref1_Next_ok (F : Nat) {h : AH} {Z : Zn} {a0 : List UInt8} {v5387 : Value} (hI : Inv Z h) (q5386 : RS (α := UInt8) Z v5387 a0) {r : Int × Int} (hm : correctorref1_Next F a0 = some r) :
    ∃ v h', callI Go.Proofs.Try.prog 44 [v5387] h = some (v, h') ∧ St h [] Z (0, 0) Z h' [] ∧ v = .tuple #[.int .i32 r.1, V r.2] := by
  refine fn_plain (Q := fun v => v = .tuple #[.int .i32 r.1, V r.2]) Go.Proofs.Try.func44 rfl rfl hI ?_
  intro hs hS
  unfold correctorref1_Next at hm
  refine sr r44_0 ?_
  refine xe 2 [(0, v5387)] ?_
  refine sq ?_
  refine sr r44_1 ?_
  refine xq 1 [(5, v5387), (0, v5387)] ?_
  refine r_step rfl trivial (o_len rfl (RS.len q5386) ⟨_, Go.Proofs.Try.underlying23⟩) ?_
  rcases ifs hm with ⟨hp6054, hm⟩ | ⟨hp6054, hm⟩
  refine r_step rfl trivial (o_cmp rfl rfl (c_eql_T hp6054)) ?_
  refine xf [(7, .bool true), (0, v5387)] ?_
  refine cT 7 rfl ?_
  refine sr r44_2 ?_
  refine xe 2 [(3, V 0), (2, .int .i32 (-1))] ?_
  refine rt ?_
  refine ⟨rfl, ?_⟩
  obtain rfl := Option.some.inj hm
  refine ⟨_, _, _, ResL.tmp rfl (ResL.tmp rfl (ResL.nil)), hS, ?_⟩
  exact rfl
  refine r_step rfl trivial (o_cmp rfl rfl (c_eql_F hp6054)) ?_
  refine xf [(7, .bool false), (0, v5387)] ?_
  refine kF 7 rfl ?_
  refine sr r44_3 ?_
  refine xq 1 [(8, v5387), (0, v5387)] ?_
  obtain ⟨hc6055, hm⟩ := chk hm
  refine r_step rfl trivial (o_index rfl rfl (by kernel_rfl : slTy _ _ = some (csz UInt8)) (RS.based q5386 (by omega)) hc6055.1 hc6055.2) ?_
  obtain ⟨x6056, hx6057, hm⟩ := obind hm
  obtain ⟨cs6058, hc6059, he6060⟩ := RS.elz q5386 (i := 0) hx6057
  obtain rfl := rc_UInt8 hc6059
  refine r_step rfl trivial (o_lde (w := .int .u8 (x6056.toNat : Int)) (he6060 _ (hS.zin0 (Zle.refl _))) rfl (by kernel_rfl)) ?_
  refine xe 1 [(4, .int .u8 (x6056.toNat : Int)), (0, v5387)] ?_
  refine sq ?_
  refine bk 0 ?_
  obtain ⟨o6106, ho6105, hm⟩ := obind hm
  refine W_seqJoin0 [] (fun l h => ∃ Z6159 : Zn, .inl () = o6106 ∧ l = [] ∧ St hs [] Z (0, 0) Z6159 h []) (by kernel_rfl) ?_ ?_
  rintro l h6160 ⟨Z6159, rfl, rfl, hS6161⟩
  try dsimp only at hm
  refine sr r44_12 ?_
  refine xe 2 [(3, V 1), (2, .int .i32 (-1))] ?_
  refine rt ?_
  refine ⟨rfl, ?_⟩
  obtain rfl := Option.some.inj hm
  refine ⟨_, _, _, ResL.tmp rfl (ResL.tmp rfl (ResL.nil)), hS6161, ?_⟩
  exact rfl
  refine rg r44_4 ?_
  refine xq 1 [(12, .int .u8 (x6056.toNat : Int)), (4, .int .u8 (x6056.toNat : Int)), (0, v5387)] ?_
  rcases ifs ho6105 with ⟨hp6107, ho6105⟩ | ⟨hp6107, ho6105⟩
  refine r_step rfl trivial (o_cmp rfl rfl (c_lss_T hp6107)) ?_
  refine xe 1 [(11, .bool true), (4, .int .u8 (x6056.toNat : Int)), (0, v5387)] ?_
  refine cT 11 rfl ?_
  refine sr r44_5 ?_
  refine xq 1 [(14, .int .u8 (x6056.toNat : Int))] ?_
  refine r_step rfl trivial (o_conv (k := .i32) (n := (x6056.toNat : Int)) rfl (by kernel_rfl)) ?_
  refine xe 2 [(3, V 1), (2, .int .i32 (IntKind.wrap .i32 (x6056.toNat : Int)))] ?_
  refine rt ?_
  refine blkX_ret ?_
  refine ⟨rfl, ?_⟩
  obtain rfl := Option.some.inj ho6105
  obtain rfl := Option.some.inj hm
  refine ⟨_, _, _, ResL.tmp rfl (ResL.tmp rfl (ResL.nil)), hS, ?_⟩
  exact rfl
  refine r_step rfl trivial (o_cmp rfl rfl (c_lss_F hp6107)) ?_
  refine xe 1 [(11, .bool false), (4, .int .u8 (x6056.toNat : Int)), (0, v5387)] ?_
  refine cF 11 rfl ?_
  refine sq ?_
  obtain ⟨o6113, ho6112, ho6105⟩ := obind ho6105
  refine W_join [0, 4, 16] (fun l h => ∃ Z6116 : Zn, ∃ x6117 : Bool, x6117 = o6113 ∧ l = [(0, v5387), (4, .int .u8 (x6056.toNat : Int)), (16, .bool x6117)] ∧ St hs [] Z (0, 0) Z6116 h []) ?_ ?_
  rintro l h6118 ⟨Z6116, x6117, rfl, rfl, hS6119⟩
  try dsimp only at ho6105
  rcases ifs ho6105 with ⟨hp6120, ho6105⟩ | ⟨hp6120, ho6105⟩
  refine W_condT (x := .tmp 16) (by kernel_rfl) rfl hp6120 ?_
  refine sr r44_7 ?_
  refine xq 3 [(25, .int .u8 (iand .u8 (x6056.toNat : Int) 31)), (23, v5387)] ?_
  refine r_step rfl trivial (o_conv (k := .i32) (n := iand .u8 (x6056.toNat : Int) 31) rfl (by kernel_rfl)) ?_
  obtain ⟨r6121, hx6122, ho6105⟩ := obind ho6105
  obtain ⟨v6123, h6124, hcl6125, hSc6126, rfl⟩ := correctorref1_sign_ok F hS6119.inv (q5386.mono hS6119.zle) hx6122
  have hS6127 := St.call (A := []) (B := []) hS6119 hSc6126
  replace hS6127 : St _ _ _ _ _ _ [] := hS6127
  refine r_step rfl trivial (o_call hcl6125 rfl rfl rfl) ?_
  refine xe 4 [(3, V r6121.2), (2, .int .i32 r6121.1)] ?_
  refine rt ?_
  refine blkX_ret ?_
  refine ⟨rfl, ?_⟩
  obtain rfl := Option.some.inj ho6105
  obtain rfl := Option.some.inj hm
  refine ⟨_, _, _, ResL.tmp rfl (ResL.tmp rfl (ResL.nil)), hS6127, ?_⟩
  exact rfl
  refine W_condF (x := .tmp 16) (by kernel_rfl) rfl (Bool.eq_false_iff.2 hp6120) ?_
  refine sq ?_
  obtain ⟨o6133, ho6132, ho6105⟩ := obind ho6105
  refine W_join [0, 4, 30] (fun l h => ∃ Z6136 : Zn, ∃ x6137 : Bool, x6137 = o6133 ∧ l = [(0, v5387), (4, .int .u8 (x6056.toNat : Int)), (30, .bool x6137)] ∧ St hs [] Z (0, 0) Z6136 h []) ?_ ?_
  rintro l h6138 ⟨Z6136, x6137, rfl, rfl, hS6139⟩
  try dsimp only at ho6105
  rcases ifs ho6105 with ⟨hp6140, ho6105⟩ | ⟨hp6140, ho6105⟩
  refine W_condT (x := .tmp 30) (by kernel_rfl) rfl hp6140 ?_
  refine sr r44_9 ?_
  refine xq 3 [(39, .int .u8 (iand .u8 (x6056.toNat : Int) 15)), (37, v5387)] ?_
  refine r_step rfl trivial (o_conv (k := .i32) (n := iand .u8 (x6056.toNat : Int) 15) rfl (by kernel_rfl)) ?_
  obtain ⟨r6141, hx6142, ho6105⟩ := obind ho6105
  obtain ⟨v6143, h6144, hcl6145, hSc6146, rfl⟩ := correctorref1_sign_ok F hS6139.inv (q5386.mono hS6139.zle) hx6142
  have hS6147 := St.call (A := []) (B := []) hS6139 hSc6146
  replace hS6147 : St _ _ _ _ _ _ [] := hS6147
  refine r_step rfl trivial (o_call hcl6145 rfl rfl rfl) ?_
  refine xe 4 [(3, V r6141.2), (2, .int .i32 r6141.1)] ?_
  refine rt ?_
  refine blkX_ret ?_
  refine ⟨rfl, ?_⟩
  obtain rfl := Option.some.inj ho6105
  obtain rfl := Option.some.inj hm
  refine ⟨_, _, _, ResL.tmp rfl (ResL.tmp rfl (ResL.nil)), hS6147, ?_⟩
  exact rfl
  refine W_condF (x := .tmp 30) (by kernel_rfl) rfl (Bool.eq_false_iff.2 hp6140) ?_
  refine sr r44_10 ?_
  refine xq 1 [(45, .int .u8 (x6056.toNat : Int)), (0, v5387), (4, .int .u8 (x6056.toNat : Int))] ?_
  rcases ifs ho6105 with ⟨hp6148, ho6105⟩ | ⟨hp6148, ho6105⟩
  refine r_step rfl trivial (o_cmp rfl rfl (c_geq_T hp6148)) ?_
  refine xq 2 [(48, .int .u8 (x6056.toNat : Int)), (47, .bool true), (0, v5387), (4, .int .u8 (x6056.toNat : Int))] ?_
  rcases ifs ho6105 with ⟨hp6149, ho6105⟩ | ⟨hp6149, ho6105⟩
  refine r_step rfl rfl (o_cmp rfl rfl (c_lss_T hp6149)) ?_
  refine xe 2 [(44, .bool true), (0, v5387), (4, .int .u8 (x6056.toNat : Int))] ?_
  refine cT 44 rfl ?_
  refine sr r44_11 ?_
  refine xq 3 [(53, .int .u8 (iand .u8 (x6056.toNat : Int) 7)), (51, v5387)] ?_
  refine r_step rfl trivial (o_conv (k := .i32) (n := iand .u8 (x6056.toNat : Int) 7) rfl (by kernel_rfl)) ?_
  obtain ⟨r6150, hx6151, ho6105⟩ := obind ho6105
  obtain ⟨v6152, h6153, hcl6154, hSc6155, rfl⟩ := correctorref1_sign_ok F hS6139.inv (q5386.mono hS6139.zle) hx6151
  have hS6156 := St.call (A := []) (B := []) hS6139 hSc6155
  replace hS6156 : St _ _ _ _ _ _ [] := hS6156
  refine r_step rfl trivial (o_call hcl6154 rfl rfl rfl) ?_
  refine xe 4 [(3, V r6150.2), (2, .int .i32 r6150.1)] ?_
  refine rt ?_
  refine blkX_ret ?_
  refine ⟨rfl, ?_⟩
  obtain rfl := Option.some.inj ho6105
  obtain rfl := Option.some.inj hm
  refine ⟨_, _, _, ResL.tmp rfl (ResL.tmp rfl (ResL.nil)), hS6156, ?_⟩
  exact rfl
  refine r_step rfl rfl (o_cmp rfl rfl (c_lss_F hp6149)) ?_
  refine xe 2 [(44, .bool false), (0, v5387), (4, .int .u8 (x6056.toNat : Int))] ?_
  refine kF 44 rfl ?_
  obtain rfl := Option.some.inj ho6105
  exact ⟨_, rfl, rfl, hS6139⟩
  refine r_step rfl trivial (o_cmp rfl rfl (c_geq_F hp6148)) ?_
  refine xe 5 [(44, .bool false), (0, v5387), (4, .int .u8 (x6056.toNat : Int))] ?_
  refine kF 44 rfl ?_
  obtain rfl := Option.some.inj ho6105
  exact ⟨_, rfl, rfl, hS6139⟩
  refine rg r44_8 ?_
  refine xq 1 [(31, .int .u8 (x6056.toNat : Int)), (0, v5387), (4, .int .u8 (x6056.toNat : Int))] ?_
  rcases ifs ho6132 with ⟨hp6134, ho6132⟩ | ⟨hp6134, ho6132⟩
  refine r_step rfl trivial (o_cmp rfl rfl (c_geq_T hp6134)) ?_
  refine xq 2 [(34, .int .u8 (x6056.toNat : Int)), (33, .bool true), (0, v5387), (4, .int .u8 (x6056.toNat : Int))] ?_
  rcases ifs ho6132 with ⟨hp6135, ho6132⟩ | ⟨hp6135, ho6132⟩
  refine r_step rfl rfl (o_cmp rfl rfl (c_lss_T hp6135)) ?_
  refine xe 2 [(30, .bool true), (0, v5387), (4, .int .u8 (x6056.toNat : Int))] ?_
  obtain rfl := Option.some.inj ho6132
  exact ⟨_, true, rfl, rfl, hS6119⟩
  refine r_step rfl rfl (o_cmp rfl rfl (c_lss_F hp6135)) ?_
  refine xe 2 [(30, .bool false), (0, v5387), (4, .int .u8 (x6056.toNat : Int))] ?_
  obtain rfl := Option.some.inj ho6132
  exact ⟨_, false, rfl, rfl, hS6119⟩
  refine r_step rfl trivial (o_cmp rfl rfl (c_geq_F hp6134)) ?_
  refine xe 5 [(30, .bool false), (0, v5387), (4, .int .u8 (x6056.toNat : Int))] ?_
  obtain rfl := Option.some.inj ho6132
  exact ⟨_, false, rfl, rfl, hS6119⟩
  refine rg r44_6 ?_
  refine xq 1 [(17, .int .u8 (x6056.toNat : Int)), (4, .int .u8 (x6056.toNat : Int)), (0, v5387)] ?_
  rcases ifs ho6112 with ⟨hp6114, ho6112⟩ | ⟨hp6114, ho6112⟩
  refine r_step rfl trivial (o_cmp rfl rfl (c_geq_T hp6114)) ?_
  refine xq 2 [(20, .int .u8 (x6056.toNat : Int)), (19, .bool true), (4, .int .u8 (x6056.toNat : Int)), (0, v5387)] ?_
  rcases ifs ho6112 with ⟨hp6115, ho6112⟩ | ⟨hp6115, ho6112⟩
  refine r_step rfl rfl (o_cmp rfl rfl (c_lss_T hp6115)) ?_
  refine xe 2 [(16, .bool true), (4, .int .u8 (x6056.toNat : Int)), (0, v5387)] ?_
  obtain rfl := Option.some.inj ho6112
  exact ⟨_, true, rfl, rfl, hS⟩
  refine r_step rfl rfl (o_cmp rfl rfl (c_lss_F hp6115)) ?_
  refine xe 2 [(16, .bool false), (4, .int .u8 (x6056.toNat : Int)), (0, v5387)] ?_
  obtain rfl := Option.some.inj ho6112
  exact ⟨_, false, rfl, rfl, hS⟩
  refine r_step rfl trivial (o_cmp rfl rfl (c_geq_F hp6114)) ?_
  refine xe 5 [(16, .bool false), (4, .int .u8 (x6056.toNat : Int)), (0, v5387)] ?_
  obtain rfl := Option.some.inj ho6112
  exact ⟨_, false, rfl, rfl, hS⟩

def r52_0 : List COp := [u 2 (.assign (.const (.bool false)))]
def r52_1 : List COp := [u 3 (.move (t 0)), u 4 (.binOp .geq 5 (t 3) (.const (.int .u8 97)) 5), u 5 (.move (t 4)), gT 5 (some 6) (.move (t 0)), gT 5 (some 7) (.binOp .leq 5 (t 6) (.const (.int .u8 122)) 5), u 8 (.pick (t 5) (t 7) (.const (.bool false))), u 9 (.move (t 8)), gN 9 (some 10) (.move (t 0)), gN 9 (some 11) (.binOp .geq 5 (t 10) (.const (.int .u8 65)) 5), gN 9 (some 12) (.move (t 11)), gT 12 (some 13) (.move (t 0)), gT 12 (some 14) (.binOp .leq 5 (t 13) (.const (.int .u8 90)) 5), gN 9 (some 15) (.pick (t 12) (t 14) (.const (.bool false))), u 16 (.pick (t 9) (.const (.bool true)) (t 15)), u 17 (.move (t 16)), gN 17 (some 18) (.move (t 0)), gN 17 (some 19) (.binOp .geq 5 (t 18) (.const (.int .u8 48)) 5), gN 17 (some 20) (.move (t 19)), gT 20 (some 21) (.move (t 0)), gT 20 (some 22) (.binOp .leq 5 (t 21) (.const (.int .u8 57)) 5), gN 17 (some 23) (.pick (t 20) (t 22) (.const (.bool false))), u 24 (.pick (t 17) (.const (.bool true)) (t 23)), u 25 (.move (t 24)), gN 25 (some 26) (.move (t 0)), gN 25 (some 27) (.binOp .eql 5 (t 26) (.const (.int .u8 95)) 5), u 28 (.pick (t 25) (.const (.bool true)) (t 27)), u 29 (.move (t 28)), gN 29 (some 30) (.move (t 0)), gN 29 (some 31) (.binOp .eql 5 (t 30) (.const (.int .u8 45)) 5), u 32 (.pick (t 29) (.const (.bool true)) (t 31)), u 2 (.assign (t 32))]
def correctorref5_Name (F : Nat) (a0 : Int) : Option Bool :=
  if (97 : Int) ≤ a0 then
    if a0 ≤ (122 : Int) then
      some true
    else
      if (65 : Int) ≤ a0 then
        if a0 ≤ (90 : Int) then
          some true
        else
          if (48 : Int) ≤ a0 then
            if a0 ≤ (57 : Int) then
              some true
            else
              if a0 = (95 : Int) then
                some true
              else
                if a0 = (45 : Int) then
                  some true
                else
                  some false
          else
            if a0 = (95 : Int) then
              some true
            else
              if a0 = (45 : Int) then
                some true
              else
                some false
      else
        if (48 : Int) ≤ a0 then
          if a0 ≤ (57 : Int) then
            some true
          else
            if a0 = (95 : Int) then
              some true
            else
              if a0 = (45 : Int) then
                some true
              else
                some false
        else
          if a0 = (95 : Int) then
            some true
          else
            if a0 = (45 : Int) then
              some true
            else
              some false
  else
    if (65 : Int) ≤ a0 then
      if a0 ≤ (90 : Int) then
        some true
      else
        if (48 : Int) ≤ a0 then
          if a0 ≤ (57 : Int) then
            some true
          else
            if a0 = (95 : Int) then
              some true
            else
              if a0 = (45 : Int) then
                some true
              else
                some false
        else
          if a0 = (95 : Int) then
            some true
          else
            if a0 = (45 : Int) then
              some true
            else
              some false
    else
      if (48 : Int) ≤ a0 then
        if a0 ≤ (57 : Int) then
          some true
        else
          if a0 = (95 : Int) then
            some true
          else
            if a0 = (45 : Int) then
              some true
            else
              some false
      else
        if a0 = (95 : Int) then
          some true
        else
          if a0 = (45 : Int) then
            some true
          else
            some false
theorem correctorref5_Name_ok (F : Nat) {h : AH} {Z : Zn} {a0 : Int} (hI : Inv Z h) {r : Bool} (hm : correctorref5_Name F a0 = some r) :
    ∃ v h', callI Go.Proofs.Try.prog 52 [.int .u8 a0] h = some (v, h') ∧ St h [] Z (0, 0) Z h' [] ∧ v = .bool r := by
  refine fn_plain (Q := fun v => v = .bool r) Go.Proofs.Try.func52 rfl rfl hI ?_
  intro hs hS
  unfold correctorref5_Name at hm
  refine sr r52_0 ?_
  refine xe 1 [(0, .int .u8 a0)] ?_
  refine sr r52_1 ?_
  refine xq 1 [(3, .int .u8 a0), (0, .int .u8 a0)] ?_
  rcases ifs hm with ⟨hp6216, hm⟩ | ⟨hp6216, hm⟩
  refine r_step rfl trivial (o_cmp rfl rfl (c_geq_T hp6216)) ?_
  refine xq 2 [(6, .int .u8 a0), (5, .bool true), (0, .int .u8 a0)] ?_
  rcases ifs hm with ⟨hp6217, hm⟩ | ⟨hp6217, hm⟩
  refine r_step rfl rfl (o_cmp rfl rfl (c_leq_T hp6217)) ?_
  refine xe 26 [(2, .bool true)] ?_
  refine rt ?_
  refine ⟨rfl, ?_⟩
  obtain rfl := Option.some.inj hm
  refine ⟨_, _, _, ResL.tmp rfl (ResL.nil), hS, ?_⟩
  exact rfl
  refine r_step rfl rfl (o_cmp rfl rfl (c_leq_F hp6217)) ?_
  refine xq 3 [(10, .int .u8 a0), (9, .bool false), (0, .int .u8 a0)] ?_
  rcases ifs hm with ⟨hp6218, hm⟩ | ⟨hp6218, hm⟩
  refine r_step rfl rfl (o_cmp rfl rfl (c_geq_T hp6218)) ?_
  refine xq 2 [(13, .int .u8 a0), (12, .bool true), (9, .bool false), (0, .int .u8 a0)] ?_
  rcases ifs hm with ⟨hp6219, hm⟩ | ⟨hp6219, hm⟩
  refine r_step rfl rfl (o_cmp rfl rfl (c_leq_T hp6219)) ?_
  refine xe 19 [(2, .bool true)] ?_
  refine rt ?_
  refine ⟨rfl, ?_⟩
  obtain rfl := Option.some.inj hm
  refine ⟨_, _, _, ResL.tmp rfl (ResL.nil), hS, ?_⟩
  exact rfl
  refine r_step rfl rfl (o_cmp rfl rfl (c_leq_F hp6219)) ?_
  refine xq 4 [(18, .int .u8 a0), (17, .bool false), (0, .int .u8 a0)] ?_
  rcases ifs hm with ⟨hp6220, hm⟩ | ⟨hp6220, hm⟩
  refine r_step rfl rfl (o_cmp rfl rfl (c_geq_T hp6220)) ?_
  refine xq 2 [(21, .int .u8 a0), (20, .bool true), (17, .bool false), (0, .int .u8 a0)] ?_
  rcases ifs hm with ⟨hp6221, hm⟩ | ⟨hp6221, hm⟩
  refine r_step rfl rfl (o_cmp rfl rfl (c_leq_T hp6221)) ?_
  refine xe 11 [(2, .bool true)] ?_
  refine rt ?_
  refine ⟨rfl, ?_⟩
  obtain rfl := Option.some.inj hm
  refine ⟨_, _, _, ResL.tmp rfl (ResL.nil), hS, ?_⟩
  exact rfl
  refine r_step rfl rfl (o_cmp rfl rfl (c_leq_F hp6221)) ?_
  refine xq 4 [(26, .int .u8 a0), (25, .bool false), (0, .int .u8 a0)] ?_
  rcases ifs hm with ⟨hp6222, hm⟩ | ⟨hp6222, hm⟩
  refine r_step rfl rfl (o_cmp rfl rfl (c_eql_T hp6222)) ?_
  refine xe 6 [(2, .bool true)] ?_
  refine rt ?_
  refine ⟨rfl, ?_⟩
  obtain rfl := Option.some.inj hm
  refine ⟨_, _, _, ResL.tmp rfl (ResL.nil), hS, ?_⟩
  exact rfl
  refine r_step rfl rfl (o_cmp rfl rfl (c_eql_F hp6222)) ?_
  refine xq 3 [(30, .int .u8 a0), (29, .bool false)] ?_
  rcases ifs hm with ⟨hp6223, hm⟩ | ⟨hp6223, hm⟩
  refine r_step rfl rfl (o_cmp rfl rfl (c_eql_T hp6223)) ?_
  refine xe 2 [(2, .bool true)] ?_
  refine rt ?_
  refine ⟨rfl, ?_⟩
  obtain rfl := Option.some.inj hm
  refine ⟨_, _, _, ResL.tmp rfl (ResL.nil), hS, ?_⟩
  exact rfl
  refine r_step rfl rfl (o_cmp rfl rfl (c_eql_F hp6223)) ?_
  refine xe 2 [(2, .bool false)] ?_
  refine rt ?_
  refine ⟨rfl, ?_⟩
  obtain rfl := Option.some.inj hm
  refine ⟨_, _, _, ResL.tmp rfl (ResL.nil), hS, ?_⟩
  exact rfl
  refine r_step rfl rfl (o_cmp rfl rfl (c_geq_F hp6220)) ?_
  refine xq 7 [(26, .int .u8 a0), (25, .bool false), (0, .int .u8 a0)] ?_
  rcases ifs hm with ⟨hp6224, hm⟩ | ⟨hp6224, hm⟩
  refine r_step rfl rfl (o_cmp rfl rfl (c_eql_T hp6224)) ?_
  refine xe 6 [(2, .bool true)] ?_
  refine rt ?_
  refine ⟨rfl, ?_⟩
  obtain rfl := Option.some.inj hm
  refine ⟨_, _, _, ResL.tmp rfl (ResL.nil), hS, ?_⟩
  exact rfl
  refine r_step rfl rfl (o_cmp rfl rfl (c_eql_F hp6224)) ?_
  refine xq 3 [(30, .int .u8 a0), (29, .bool false)] ?_
  rcases ifs hm with ⟨hp6225, hm⟩ | ⟨hp6225, hm⟩
  refine r_step rfl rfl (o_cmp rfl rfl (c_eql_T hp6225)) ?_
  refine xe 2 [(2, .bool true)] ?_
  refine rt ?_
  refine ⟨rfl, ?_⟩
  obtain rfl := Option.some.inj hm
  refine ⟨_, _, _, ResL.tmp rfl (ResL.nil), hS, ?_⟩
  exact rfl
  refine r_step rfl rfl (o_cmp rfl rfl (c_eql_F hp6225)) ?_
  refine xe 2 [(2, .bool false)] ?_
  refine rt ?_
  refine ⟨rfl, ?_⟩
  obtain rfl := Option.some.inj hm
  refine ⟨_, _, _, ResL.tmp rfl (ResL.nil), hS, ?_⟩
  exact rfl
  refine r_step rfl rfl (o_cmp rfl rfl (c_geq_F hp6218)) ?_
  refine xq 7 [(18, .int .u8 a0), (17, .bool false), (0, .int .u8 a0)] ?_
  rcases ifs hm with ⟨hp6226, hm⟩ | ⟨hp6226, hm⟩
  refine r_step rfl rfl (o_cmp rfl rfl (c_geq_T hp6226)) ?_
  refine xq 2 [(21, .int .u8 a0), (20, .bool true), (17, .bool false), (0, .int .u8 a0)] ?_
  rcases ifs hm with ⟨hp6227, hm⟩ | ⟨hp6227, hm⟩
  refine r_step rfl rfl (o_cmp rfl rfl (c_leq_T hp6227)) ?_
  refine xe 11 [(2, .bool true)] ?_
  refine rt ?_
  refine ⟨rfl, ?_⟩
  obtain rfl := Option.some.inj hm
  refine ⟨_, _, _, ResL.tmp rfl (ResL.nil), hS, ?_⟩
  exact rfl
  refine r_step rfl rfl (o_cmp rfl rfl (c_leq_F hp6227)) ?_
  refine xq 4 [(26, .int .u8 a0), (25, .bool false), (0, .int .u8 a0)] ?_
  rcases ifs hm with ⟨hp6228, hm⟩ | ⟨hp6228, hm⟩
  refine r_step rfl rfl (o_cmp rfl rfl (c_eql_T hp6228)) ?_
  refine xe 6 [(2, .bool true)] ?_
  refine rt ?_
  refine ⟨rfl, ?_⟩
  obtain rfl := Option.some.inj hm
  refine ⟨_, _, _, ResL.tmp rfl (ResL.nil), hS, ?_⟩
  exact rfl
  refine r_step rfl rfl (o_cmp rfl rfl (c_eql_F hp6228)) ?_
  refine xq 3 [(30, .int .u8 a0), (29, .bool false)] ?_
  rcases ifs hm with ⟨hp6229, hm⟩ | ⟨hp6229, hm⟩
  refine r_step rfl rfl (o_cmp rfl rfl (c_eql_T hp6229)) ?_
  refine xe 2 [(2, .bool true)] ?_
  refine rt ?_
  refine ⟨rfl, ?_⟩
  obtain rfl := Option.some.inj hm
  refine ⟨_, _, _, ResL.tmp rfl (ResL.nil), hS, ?_⟩
  exact rfl
  refine r_step rfl rfl (o_cmp rfl rfl (c_eql_F hp6229)) ?_
  refine xe 2 [(2, .bool false)] ?_
  refine rt ?_
  refine ⟨rfl, ?_⟩
  obtain rfl := Option.some.inj hm
  refine ⟨_, _, _, ResL.tmp rfl (ResL.nil), hS, ?_⟩
  exact rfl
  refine r_step rfl rfl (o_cmp rfl rfl (c_geq_F hp6226)) ?_
  refine xq 7 [(26, .int .u8 a0), (25, .bool false), (0, .int .u8 a0)] ?_
  rcases ifs hm with ⟨hp6230, hm⟩ | ⟨hp6230, hm⟩
  refine r_step rfl rfl (o_cmp rfl rfl (c_eql_T hp6230)) ?_
  refine xe 6 [(2, .bool true)] ?_
  refine rt ?_
  refine ⟨rfl, ?_⟩
  obtain rfl := Option.some.inj hm
  refine ⟨_, _, _, ResL.tmp rfl (ResL.nil), hS, ?_⟩
  exact rfl
  refine r_step rfl rfl (o_cmp rfl rfl (c_eql_F hp6230)) ?_
  refine xq 3 [(30, .int .u8 a0), (29, .bool false)] ?_
  rcases ifs hm with ⟨hp6231, hm⟩ | ⟨hp6231, hm⟩
  refine r_step rfl rfl (o_cmp rfl rfl (c_eql_T hp6231)) ?_
  refine xe 2 [(2, .bool true)] ?_
  refine rt ?_
  refine ⟨rfl, ?_⟩
  obtain rfl := Option.some.inj hm
  refine ⟨_, _, _, ResL.tmp rfl (ResL.nil), hS, ?_⟩
  exact rfl
  refine r_step rfl rfl (o_cmp rfl rfl (c_eql_F hp6231)) ?_
  refine xe 2 [(2, .bool false)] ?_
  refine rt ?_
  refine ⟨rfl, ?_⟩
  obtain rfl := Option.some.inj hm
  refine ⟨_, _, _, ResL.tmp rfl (ResL.nil), hS, ?_⟩
  exact rfl
  refine r_step rfl trivial (o_cmp rfl rfl (c_geq_F hp6216)) ?_
  refine xq 6 [(10, .int .u8 a0), (9, .bool false), (0, .int .u8 a0)] ?_
  rcases ifs hm with ⟨hp6232, hm⟩ | ⟨hp6232, hm⟩
  refine r_step rfl rfl (o_cmp rfl rfl (c_geq_T hp6232)) ?_
  refine xq 2 [(13, .int .u8 a0), (12, .bool true), (9, .bool false), (0, .int .u8 a0)] ?_
  rcases ifs hm with ⟨hp6233, hm⟩ | ⟨hp6233, hm⟩
  refine r_step rfl rfl (o_cmp rfl rfl (c_leq_T hp6233)) ?_
  refine xe 19 [(2, .bool true)] ?_
  refine rt ?_
  refine ⟨rfl, ?_⟩
  obtain rfl := Option.some.inj hm
  refine ⟨_, _, _, ResL.tmp rfl (ResL.nil), hS, ?_⟩
  exact rfl
  refine r_step rfl rfl (o_cmp rfl rfl (c_leq_F hp6233)) ?_
  refine xq 4 [(18, .int .u8 a0), (17, .bool false), (0, .int .u8 a0)] ?_
  rcases ifs hm with ⟨hp6234, hm⟩ | ⟨hp6234, hm⟩
  refine r_step rfl rfl (o_cmp rfl rfl (c_geq_T hp6234)) ?_
  refine xq 2 [(21, .int .u8 a0), (20, .bool true), (17, .bool false), (0, .int .u8 a0)] ?_
  rcases ifs hm with ⟨hp6235, hm⟩ | ⟨hp6235, hm⟩
  refine r_step rfl rfl (o_cmp rfl rfl (c_leq_T hp6235)) ?_
  refine xe 11 [(2, .bool true)] ?_
  refine rt ?_
  refine ⟨rfl, ?_⟩
  obtain rfl := Option.some.inj hm
  refine ⟨_, _, _, ResL.tmp rfl (ResL.nil), hS, ?_⟩
  exact rfl
  refine r_step rfl rfl (o_cmp rfl rfl (c_leq_F hp6235)) ?_
  refine xq 4 [(26, .int .u8 a0), (25, .bool false), (0, .int .u8 a0)] ?_
  rcases ifs hm with ⟨hp6236, hm⟩ | ⟨hp6236, hm⟩
  refine r_step rfl rfl (o_cmp rfl rfl (c_eql_T hp6236)) ?_
  refine xe 6 [(2, .bool true)] ?_
  refine rt ?_
  refine ⟨rfl, ?_⟩
  obtain rfl := Option.some.inj hm
  refine ⟨_, _, _, ResL.tmp rfl (ResL.nil), hS, ?_⟩
  exact rfl
  refine r_step rfl rfl (o_cmp rfl rfl (c_eql_F hp6236)) ?_
  refine xq 3 [(30, .int .u8 a0), (29, .bool false)] ?_
  rcases ifs hm with ⟨hp6237, hm⟩ | ⟨hp6237, hm⟩
  refine r_step rfl rfl (o_cmp rfl rfl (c_eql_T hp6237)) ?_
  refine xe 2 [(2, .bool true)] ?_
  refine rt ?_
  refine ⟨rfl, ?_⟩
  obtain rfl := Option.some.inj hm
  refine ⟨_, _, _, ResL.tmp rfl (ResL.nil), hS, ?_⟩
  exact rfl
  refine r_step rfl rfl (o_cmp rfl rfl (c_eql_F hp6237)) ?_
  refine xe 2 [(2, .bool false)] ?_
  refine rt ?_
  refine ⟨rfl, ?_⟩
  obtain rfl := Option.some.inj hm
  refine ⟨_, _, _, ResL.tmp rfl (ResL.nil), hS, ?_⟩
  exact rfl
  refine r_step rfl rfl (o_cmp rfl rfl (c_geq_F hp6234)) ?_
  refine xq 7 [(26, .int .u8 a0), (25, .bool false), (0, .int .u8 a0)] ?_
  rcases ifs hm with ⟨hp6238, hm⟩ | ⟨hp6238, hm⟩
  refine r_step rfl rfl (o_cmp rfl rfl (c_eql_T hp6238)) ?_
  refine xe 6 [(2, .bool true)] ?_
  refine rt ?_
  refine ⟨rfl, ?_⟩
  obtain rfl := Option.some.inj hm
  refine ⟨_, _, _, ResL.tmp rfl (ResL.nil), hS, ?_⟩
  exact rfl
  refine r_step rfl rfl (o_cmp rfl rfl (c_eql_F hp6238)) ?_
  refine xq 3 [(30, .int .u8 a0), (29, .bool false)] ?_
  rcases ifs hm with ⟨hp6239, hm⟩ | ⟨hp6239, hm⟩
  refine r_step rfl rfl (o_cmp rfl rfl (c_eql_T hp6239)) ?_
  refine xe 2 [(2, .bool true)] ?_
  refine rt ?_
  refine ⟨rfl, ?_⟩
  obtain rfl := Option.some.inj hm
  refine ⟨_, _, _, ResL.tmp rfl (ResL.nil), hS, ?_⟩
  exact rfl
  refine r_step rfl rfl (o_cmp rfl rfl (c_eql_F hp6239)) ?_
  refine xe 2 [(2, .bool false)] ?_
  refine rt ?_
  refine ⟨rfl, ?_⟩
  obtain rfl := Option.some.inj hm
  refine ⟨_, _, _, ResL.tmp rfl (ResL.nil), hS, ?_⟩
  exact rfl
  refine r_step rfl rfl (o_cmp rfl rfl (c_geq_F hp6232)) ?_
  refine xq 7 [(18, .int .u8 a0), (17, .bool false), (0, .int .u8 a0)] ?_
  rcases ifs hm with ⟨hp6240, hm⟩ | ⟨hp6240, hm⟩
  refine r_step rfl rfl (o_cmp rfl rfl (c_geq_T hp6240)) ?_
  refine xq 2 [(21, .int .u8 a0), (20, .bool true), (17, .bool false), (0, .int .u8 a0)] ?_
  rcases ifs hm with ⟨hp6241, hm⟩ | ⟨hp6241, hm⟩
  refine r_step rfl rfl (o_cmp rfl rfl (c_leq_T hp6241)) ?_
  refine xe 11 [(2, .bool true)] ?_
  refine rt ?_
  refine ⟨rfl, ?_⟩
  obtain rfl := Option.some.inj hm
  refine ⟨_, _, _, ResL.tmp rfl (ResL.nil), hS, ?_⟩
  exact rfl
  refine r_step rfl rfl (o_cmp rfl rfl (c_leq_F hp6241)) ?_
  refine xq 4 [(26, .int .u8 a0), (25, .bool false), (0, .int .u8 a0)] ?_
  rcases ifs hm with ⟨hp6242, hm⟩ | ⟨hp6242, hm⟩
  refine r_step rfl rfl (o_cmp rfl rfl (c_eql_T hp6242)) ?_
  refine xe 6 [(2, .bool true)] ?_
  refine rt ?_
  refine ⟨rfl, ?_⟩
  obtain rfl := Option.some.inj hm
  refine ⟨_, _, _, ResL.tmp rfl (ResL.nil), hS, ?_⟩
  exact rfl
  refine r_step rfl rfl (o_cmp rfl rfl (c_eql_F hp6242)) ?_
  refine xq 3 [(30, .int .u8 a0), (29, .bool false)] ?_
  rcases ifs hm with ⟨hp6243, hm⟩ | ⟨hp6243, hm⟩
  refine r_step rfl rfl (o_cmp rfl rfl (c_eql_T hp6243)) ?_
  refine xe 2 [(2, .bool true)] ?_
  refine rt ?_
  refine ⟨rfl, ?_⟩
  obtain rfl := Option.some.inj hm
  refine ⟨_, _, _, ResL.tmp rfl (ResL.nil), hS, ?_⟩
  exact rfl
  refine r_step rfl rfl (o_cmp rfl rfl (c_eql_F hp6243)) ?_
  refine xe 2 [(2, .bool false)] ?_
  refine rt ?_
  refine ⟨rfl, ?_⟩
  obtain rfl := Option.some.inj hm
  refine ⟨_, _, _, ResL.tmp rfl (ResL.nil), hS, ?_⟩
  exact rfl
  refine r_step rfl rfl (o_cmp rfl rfl (c_geq_F hp6240)) ?_
  refine xq 7 [(26, .int .u8 a0), (25, .bool false), (0, .int .u8 a0)] ?_
  rcases ifs hm with ⟨hp6244, hm⟩ | ⟨hp6244, hm⟩
  refine r_step rfl rfl (o_cmp rfl rfl (c_eql_T hp6244)) ?_
  refine xe 6 [(2, .bool true)] ?_
  refine rt ?_
  refine ⟨rfl, ?_⟩
  obtain rfl := Option.some.inj hm
  refine ⟨_, _, _, ResL.tmp rfl (ResL.nil), hS, ?_⟩
  exact rfl
  refine r_step rfl rfl (o_cmp rfl rfl (c_eql_F hp6244)) ?_
  refine xq 3 [(30, .int .u8 a0), (29, .bool false)] ?_
  rcases ifs hm with ⟨hp6245, hm⟩ | ⟨hp6245, hm⟩
  refine r_step rfl rfl (o_cmp rfl rfl (c_eql_T hp6245)) ?_
  refine xe 2 [(2, .bool true)] ?_
  refine rt ?_
  refine ⟨rfl, ?_⟩
  obtain rfl := Option.some.inj hm
  refine ⟨_, _, _, ResL.tmp rfl (ResL.nil), hS, ?_⟩
  exact rfl
  refine r_step rfl rfl (o_cmp rfl rfl (c_eql_F hp6245)) ?_
  refine xe 2 [(2, .bool false)] ?_
  refine rt ?_
  refine ⟨rfl, ?_⟩
  obtain rfl := Option.some.inj hm
  refine ⟨_, _, _, ResL.tmp rfl (ResL.nil), hS, ?_⟩
  exact rfl

def r45_0 : List COp := [u 6 (.assign (ci 0))]
def r45_1 : List COp := [u 7 (.move (t 1)), u 8 (.move (t 0)), u 9 (.nilCheck (t 8)), u 10 (.fieldAddr 54 (t 9) 0), u 11 (.load 23 (t 10)), u 12 (cb .len #[(t 11)] #[23]), u 13 (.binOp .lss 3 (t 7) (t 12) 3), u 14 (.move (t 13)), gT 14 (some 15) (.move (t 0)), gT 14 (some 16) (.nilCheck (t 15)), gT 14 (some 17) (.fieldAddr 54 (t 16) 0), gT 14 (some 18) (.load 23 (t 17)), gT 14 (some 19) (.move (t 1)), gT 14 (some 20) (.indexAddr 23 (t 18) (t 19)), gT 14 (some 21) (.load 5 (t 20)), gT 14 (some 22) (cf 52 #[(t 21)] #[5]), gT 14 (some 23) (.move (t 22)), gN 23 (some 24) (.move (t 2)), gN 23 (some 25) (.move (t 24)), gT 25 (some 26) (.move (t 0)), gT 25 (some 27) (.nilCheck (t 26)), gT 25 (some 28) (.fieldAddr 54 (t 27) 0), gT 25 (some 29) (.load 23 (t 28)), gT 25 (some 30) (.move (t 1)), gT 25 (some 31) (.indexAddr 23 (t 29) (t 30)), gT 25 (some 32) (.load 5 (t 31)), gT 25 (some 33) (.binOp .eql 5 (t 32) (.const (.int .u8 33)) 5), gN 23 (some 34) (.pick (t 25) (t 33) (.const (.bool false))), gT 14 (some 35) (.pick (t 23) (.const (.bool true)) (t 34)), u 36 (.pick (t 14) (t 35) (.const (.bool false)))]
def r45_2 : List COp := [u 37 (.move (t 1)), u 38 (.binOp .add 3 (t 37) (ci 1) 3), u 1 (.assign (t 38))]
def r45_3 : List COp := [u 39 (.move (t 1)), u 6 (.assign (t 39))]
def correctorref6_scanner_names_l0 (F : Nat) (a0 : correctorref6_scanner) (a1 : Int) (a2 : Bool) : Nat → Int → Option Int
  | 0, _ => none
  | n + 1, x6368 =>
    ((if x6368 < (a0.B.length : Int) then
        if 0 ≤ x6368 ∧ x6368 < (a0.B.length : Int) then
          (a0.B[x6368.toNat]?).bind fun x6401 =>
          (correctorref5_Name F (x6401.toNat : Int)).bind fun r6407 =>
          if r6407 = true then
            some (.inl ())
          else
            if a2 = true then
              if 0 ≤ x6368 ∧ x6368 < (a0.B.length : Int) then
                (a0.B[x6368.toNat]?).bind fun x6417 =>
                if (x6417.toNat : Int) = (33 : Int) then
                  some (.inl ())
                else
                  some (.inr x6368)
              else none
            else
              some (.inr x6368)
        else none
      else
        some (.inr x6368)) : Option (Sum Unit Int)).bind fun o => match o with
      | .inl () => correctorref6_scanner_names_l0 F a0 a1 a2 n (w64 (x6368 + 1))
      | .inr y => some y
def correctorref6_scanner_names (F : Nat) (a0 : correctorref6_scanner) (a1 : Int) (a2 : Bool) : Option Int :=
  ((correctorref6_scanner_names_l0 F a0 a1 a2 F a1) : Option Int).bind fun o => match o with
    | x6430 => some x6430
theorem correctorref6_scanner_names_ok (F : Nat) {h : AH} {Z : Zn} {a0 : correctorref6_scanner} {a1 : Int} {a2 : Bool} {b6169 : Nat} {v6171 : Value} {v6173 : Value} {c6174 : List Value} (hP : Pre Z h [.blk b6169 (K54 v6171 v6173 a0), .gs v6173 c6174 (csz api_Token)]) (q6170 : RS (α := UInt8) Z v6171 a0.B) (q6172 : RCs (α := api_Token) Z c6174 a0.L) {r : Int} (hm : correctorref6_scanner_names F a0 a1 a2 = some r) :
    ∃ v h' Z' A', callI Go.Proofs.Try.prog 45 [Pt b6169 0, V a1, .bool a2] h = some (v, h') ∧ St h (idsL [.blk b6169 (K54 v6171 v6173 a0), .gs v6173 c6174 (csz api_Token)]) Z (0, 0) Z' h' A' ∧ V r = v ∧ A' = [.blk b6169 (K54 v6171 v6173 a0), .gs v6173 c6174 (csz api_Token)] := by
  refine fn_intro (A := [.blk b6169 (K54 v6171 v6173 a0), .gs v6173 c6174 (csz api_Token)]) (Q := fun v Z' A' => V r = v ∧ A' = [.blk b6169 (K54 v6171 v6173 a0), .gs v6173 c6174 (csz api_Token)]) Go.Proofs.Try.func45 rfl rfl (by kernel_rfl) hP ?_
  intro hs hS
  unfold correctorref6_scanner_names at hm
  refine sr r45_0 ?_
  refine xe 1 [(0, Pt b6169 0), (1, V a1), (2, .bool a2)] ?_
  refine sq ?_
  obtain ⟨o6366, ho6365, hm⟩ := obind hm
  refine W_join [1] (fun l h => ∃ Z6429 : Zn, ∃ x6430 : Int, x6430 = o6366 ∧ l = [(1, V x6430)] ∧ St hs (idsL [.blk b6169 (K54 v6171 v6173 a0), .gs v6173 c6174 (csz api_Token)]) Z (0, 0) Z6429 h [.blk b6169 (K54 v6171 v6173 a0), .gs v6173 c6174 (csz api_Token)]) ?_ ?_
  rintro l h6431 ⟨Z6429, x6430, rfl, rfl, hS6432⟩
  try dsimp only at hm
  refine sr r45_3 ?_
  refine xe 2 [(6, V x6430)] ?_
  refine rt ?_
  refine ⟨rfl, ?_⟩
  obtain rfl := Option.some.inj hm
  refine ⟨_, _, _, ResL.tmp rfl (ResL.nil), hS6432, ?_⟩
  exact ⟨rfl, rfl⟩
  refine bk 0 ?_
  refine lp [0, 1, 2] (fun n l h => ∃ Z6367 : Zn, ∃ x6368 : Int, correctorref6_scanner_names_l0 F a0 a1 a2 n x6368 = some o6366 ∧ l = [(0, Pt b6169 0), (1, V x6368), (2, .bool a2)] ∧ St hs (idsL [.blk b6169 (K54 v6171 v6173 a0), .gs v6173 c6174 (csz api_Token)]) Z (0, 0) Z6367 h [.blk b6169 (K54 v6171 v6173 a0), .gs v6173 c6174 (csz api_Token)]) F ⟨_, a1, ho6365, rfl, hS⟩ ?_
  rintro n6371 l h6369 ⟨Z6367, x6368, ho6365, rfl, hS6370⟩
  rcases n6371 with _ | n6371
  cases (show none = some o6366 from ho6365)
  rw [correctorref6_scanner_names_l0] at ho6365
  refine sq ?_
  obtain ⟨o6398, ho6397, ho6365⟩ := obind ho6365
  refine W_join [0, 1, 2] (fun l h => ∃ Z6424 : Zn, .inl () = o6398 ∧ l = [(0, Pt b6169 0), (1, V x6368), (2, .bool a2)] ∧ St hs (idsL [.blk b6169 (K54 v6171 v6173 a0), .gs v6173 c6174 (csz api_Token)]) Z (0, 0) Z6424 h [.blk b6169 (K54 v6171 v6173 a0), .gs v6173 c6174 (csz api_Token)]) ?_ ?_
  rintro l h6425 ⟨Z6424, rfl, rfl, hS6426⟩
  try dsimp only at ho6365
  refine bk 1 ?_
  refine rg r45_2 ?_
  refine xe 3 [(1, V (w64 (x6368 + 1))), (0, Pt b6169 0), (2, .bool a2)] ?_
  exact ⟨n6371, Nat.lt_succ_self _, ⟨_, w64 (x6368 + 1), ho6365, rfl, hS6426⟩⟩
  refine sr r45_1 ?_
  refine xq 4 [(10, Pt b6169 0), (7, V x6368), (0, Pt b6169 0), (1, V x6368), (2, .bool a2)] ?_
  refine r_step rfl trivial (o_ldb (v := v6171) hS6370 (i := 0) rfl rfl (by kernel_rfl)) ?_
  refine r_step rfl trivial (o_len rfl (RS.len (q6170.mono hS6370.zle)) ⟨_, Go.Proofs.Try.underlying23⟩) ?_
  rcases ifs ho6397 with ⟨hp6399, ho6397⟩ | ⟨hp6399, ho6397⟩
  refine r_step rfl trivial (o_cmp rfl rfl (c_lss_T hp6399)) ?_
  refine xq 4 [(17, Pt b6169 0), (14, .bool true), (0, Pt b6169 0), (1, V x6368), (2, .bool a2)] ?_
  refine r_step rfl rfl (o_ldb (v := v6171) hS6370 (i := 0) rfl rfl (by kernel_rfl)) ?_
  refine xq 1 [(19, V x6368), (18, v6171), (14, .bool true), (0, Pt b6169 0), (1, V x6368), (2, .bool a2)] ?_
  obtain ⟨hc6400, ho6397⟩ := chk ho6397
  refine r_step rfl rfl (o_index rfl rfl (by kernel_rfl : slTy _ _ = some (csz UInt8)) (RS.based (q6170.mono hS6370.zle) (by omega)) hc6400.1 hc6400.2) ?_
  obtain ⟨x6401, hx6402, ho6397⟩ := obind ho6397
  obtain ⟨cs6403, hc6404, he6405⟩ := RS.elz (q6170.mono hS6370.zle) (i := x6368) hx6402
  obtain rfl := rc_UInt8 hc6404
  refine r_step rfl rfl (o_lde (w := .int .u8 (x6401.toNat : Int)) (he6405 _ (hS6370.zin0 (Zle.refl _))) rfl (by kernel_rfl)) ?_
  obtain ⟨r6407, hx6408, ho6397⟩ := obind ho6397
  obtain ⟨v6409, h6410, hcl6411, hSc6412, rfl⟩ := correctorref5_Name_ok F hS6370.inv  hx6408
  have hS6413 := St.call (A := []) (B := [.blk b6169 (K54 v6171 v6173 a0), .gs v6173 c6174 (csz api_Token)]) hS6370 hSc6412
  replace hS6413 : St _ _ _ _ _ _ [.blk b6169 (K54 v6171 v6173 a0), .gs v6173 c6174 (csz api_Token)] := hS6413
  refine r_step rfl rfl (o_call hcl6411 rfl rfl rfl) ?_
  refine xq 1 [(23, .bool r6407), (14, .bool true), (0, Pt b6169 0), (1, V x6368), (2, .bool a2)] ?_
  rcases ifs ho6397 with ⟨hp6414, ho6397⟩ | ⟨hp6414, ho6397⟩
  refine r_setb (t := 23) rfl hp6414 ?_
  refine xe 13 [(36, .bool true), (0, Pt b6169 0), (1, V x6368), (2, .bool a2)] ?_
  refine kT 36 rfl ?_
  obtain rfl := Option.some.inj ho6397
  exact ⟨_, rfl, rfl, hS6413⟩
  refine r_setb (t := 23) rfl (Bool.eq_false_iff.2 hp6414) ?_
  refine xq 2 [(25, .bool a2), (23, .bool false), (14, .bool true), (0, Pt b6169 0), (1, V x6368), (2, .bool a2)] ?_
  rcases ifs ho6397 with ⟨hp6415, ho6397⟩ | ⟨hp6415, ho6397⟩
  refine r_setb (t := 25) rfl hp6415 ?_
  refine xq 3 [(28, Pt b6169 0), (25, .bool true), (23, .bool false), (14, .bool true), (0, Pt b6169 0), (1, V x6368), (2, .bool a2)] ?_
  refine r_step rfl rfl (o_ldb (v := v6171) hS6413 (i := 0) rfl rfl (by kernel_rfl)) ?_
  refine xq 1 [(30, V x6368), (29, v6171), (25, .bool true), (23, .bool false), (14, .bool true), (0, Pt b6169 0), (1, V x6368), (2, .bool a2)] ?_
  obtain ⟨hc6416, ho6397⟩ := chk ho6397
  refine r_step rfl rfl (o_index rfl rfl (by kernel_rfl : slTy _ _ = some (csz UInt8)) (RS.based (q6170.mono hS6370.zle) (by omega)) hc6416.1 hc6416.2) ?_
  obtain ⟨x6417, hx6418, ho6397⟩ := obind ho6397
  obtain ⟨cs6419, hc6420, he6421⟩ := RS.elz (q6170.mono hS6370.zle) (i := x6368) hx6418
  obtain rfl := rc_UInt8 hc6420
  refine r_step rfl rfl (o_lde (w := .int .u8 (x6417.toNat : Int)) (he6421 _ (hS6413.zin0 (Zle.refl _))) rfl (by kernel_rfl)) ?_
  rcases ifs ho6397 with ⟨hp6423, ho6397⟩ | ⟨hp6423, ho6397⟩
  refine r_step rfl rfl (o_cmp rfl rfl (c_eql_T hp6423)) ?_
  refine xe 3 [(36, .bool true), (0, Pt b6169 0), (1, V x6368), (2, .bool a2)] ?_
  refine kT 36 rfl ?_
  obtain rfl := Option.some.inj ho6397
  exact ⟨_, rfl, rfl, hS6413⟩
  refine r_step rfl rfl (o_cmp rfl rfl (c_eql_F hp6423)) ?_
  refine xe 3 [(36, .bool false), (0, Pt b6169 0), (1, V x6368), (2, .bool a2)] ?_
  refine cF 36 rfl ?_
  refine xt 0 ?_
  refine blkX_hit ?_
  obtain rfl := Option.some.inj ho6397
  obtain rfl := Option.some.inj ho6365
  exact ⟨_, x6368, rfl, rfl, hS6413⟩
  refine r_setb (t := 25) rfl (Bool.eq_false_iff.2 hp6415) ?_
  refine xe 11 [(36, .bool false), (0, Pt b6169 0), (1, V x6368), (2, .bool a2)] ?_
  refine cF 36 rfl ?_
  refine xt 0 ?_
  refine blkX_hit ?_
  obtain rfl := Option.some.inj ho6397
  obtain rfl := Option.some.inj ho6365
  exact ⟨_, x6368, rfl, rfl, hS6413⟩
  refine r_step rfl trivial (o_cmp rfl rfl (c_lss_F hp6399)) ?_
  refine xe 23 [(36, .bool false), (0, Pt b6169 0), (1, V x6368), (2, .bool a2)] ?_
  refine cF 36 rfl ?_
  refine xt 0 ?_
  refine blkX_hit ?_
  obtain rfl := Option.some.inj ho6397
  obtain rfl := Option.some.inj ho6365
  exact ⟨_, x6368, rfl, rfl, hS6370⟩

def r53_0 : List COp := [u 2 (.assign (.const (.bool false)))]
def r53_1 : List COp := [u 3 (.move (t 0)), u 4 (.binOp .eql 5 (t 3) (.const (.int .u8 44)) 5), u 5 (.move (t 4)), gN 5 (some 6) (.move (t 0)), gN 5 (some 7) (.binOp .eql 5 (t 6) (.const (.int .u8 91)) 5), u 8 (.pick (t 5) (.const (.bool true)) (t 7)), u 9 (.move (t 8)), gN 9 (some 10) (.move (t 0)), gN 9 (some 11) (.binOp .eql 5 (t 10) (.const (.int .u8 93)) 5), u 12 (.pick (t 9) (.const (.bool true)) (t 11)), u 13 (.move (t 12)), gN 13 (some 14) (.move (t 0)), gN 13 (some 15) (.binOp .eql 5 (t 14) (.const (.int .u8 123)) 5), u 16 (.pick (t 13) (.const (.bool true)) (t 15)), u 17 (.move (t 16)), gN 17 (some 18) (.move (t 0)), gN 17 (some 19) (.binOp .eql 5 (t 18) (.const (.int .u8 125)) 5), u 20 (.pick (t 17) (.const (.bool true)) (t 19)), u 2 (.assign (t 20))]
def correctorref5_Flow (F : Nat) (a0 : Int) : Option Bool :=
  if a0 = (44 : Int) then
    some true
  else
    if a0 = (91 : Int) then
      some true
    else
      if a0 = (93 : Int) then
        some true
      else
        if a0 = (123 : Int) then
          some true
        else
          if a0 = (125 : Int) then
            some true
          else
            some false
theorem correctorref5_Flow_ok (F : Nat) {h : AH} {Z : Zn} {a0 : Int} (hI : Inv Z h) {r : Bool} (hm : correctorref5_Flow F a0 = some r) :
    ∃ v h', callI Go.Proofs.Try.prog 53 [.int .u8 a0] h = some (v, h') ∧ St h [] Z (0, 0) Z h' [] ∧ v = .bool r := by
  refine fn_plain (Q := fun v => v = .bool r) Go.Proofs.Try.func53 rfl rfl hI ?_
  intro hs hS
  unfold correctorref5_Flow at hm
  refine sr r53_0 ?_
  refine xe 1 [(0, .int .u8 a0)] ?_
  refine sr r53_1 ?_
  refine xq 1 [(3, .int .u8 a0), (0, .int .u8 a0)] ?_
  rcases ifs hm with ⟨hp6542, hm⟩ | ⟨hp6542, hm⟩
  refine r_step rfl trivial (o_cmp rfl rfl (c_eql_T hp6542)) ?_
  refine xe 17 [(2, .bool true)] ?_
  refine rt ?_
  refine ⟨rfl, ?_⟩
  obtain rfl := Option.some.inj hm
  refine ⟨_, _, _, ResL.tmp rfl (ResL.nil), hS, ?_⟩
  exact rfl
  refine r_step rfl trivial (o_cmp rfl rfl (c_eql_F hp6542)) ?_
  refine xq 2 [(6, .int .u8 a0), (5, .bool false), (0, .int .u8 a0)] ?_
  rcases ifs hm with ⟨hp6543, hm⟩ | ⟨hp6543, hm⟩
  refine r_step rfl rfl (o_cmp rfl rfl (c_eql_T hp6543)) ?_
  refine xe 14 [(2, .bool true)] ?_
  refine rt ?_
  refine ⟨rfl, ?_⟩
  obtain rfl := Option.some.inj hm
  refine ⟨_, _, _, ResL.tmp rfl (ResL.nil), hS, ?_⟩
  exact rfl
  refine r_step rfl rfl (o_cmp rfl rfl (c_eql_F hp6543)) ?_
  refine xq 3 [(10, .int .u8 a0), (9, .bool false), (0, .int .u8 a0)] ?_
  rcases ifs hm with ⟨hp6544, hm⟩ | ⟨hp6544, hm⟩
  refine r_step rfl rfl (o_cmp rfl rfl (c_eql_T hp6544)) ?_
  refine xe 10 [(2, .bool true)] ?_
  refine rt ?_
  refine ⟨rfl, ?_⟩
  obtain rfl := Option.some.inj hm
  refine ⟨_, _, _, ResL.tmp rfl (ResL.nil), hS, ?_⟩
  exact rfl
  refine r_step rfl rfl (o_cmp rfl rfl (c_eql_F hp6544)) ?_
  refine xq 3 [(14, .int .u8 a0), (13, .bool false), (0, .int .u8 a0)] ?_
  rcases ifs hm with ⟨hp6545, hm⟩ | ⟨hp6545, hm⟩
  refine r_step rfl rfl (o_cmp rfl rfl (c_eql_T hp6545)) ?_
  refine xe 6 [(2, .bool true)] ?_
  refine rt ?_
  refine ⟨rfl, ?_⟩
  obtain rfl := Option.some.inj hm
  refine ⟨_, _, _, ResL.tmp rfl (ResL.nil), hS, ?_⟩
  exact rfl
  refine r_step rfl rfl (o_cmp rfl rfl (c_eql_F hp6545)) ?_
  refine xq 3 [(18, .int .u8 a0), (17, .bool false)] ?_
  rcases ifs hm with ⟨hp6546, hm⟩ | ⟨hp6546, hm⟩
  refine r_step rfl rfl (o_cmp rfl rfl (c_eql_T hp6546)) ?_
  refine xe 2 [(2, .bool true)] ?_
  refine rt ?_
  refine ⟨rfl, ?_⟩
  obtain rfl := Option.some.inj hm
  refine ⟨_, _, _, ResL.tmp rfl (ResL.nil), hS, ?_⟩
  exact rfl
  refine r_step rfl rfl (o_cmp rfl rfl (c_eql_F hp6546)) ?_
  refine xe 2 [(2, .bool false)] ?_
  refine rt ?_
  refine ⟨rfl, ?_⟩
  obtain rfl := Option.some.inj hm
  refine ⟨_, _, _, ResL.tmp rfl (ResL.nil), hS, ?_⟩
  exact rfl

end Go.Proofs.Ytcnbcimnfeekjaa.M
