/- Printed by a program of this session: Go functions as Lean functions over plain data, and that the calls come to them. -/
import Derived.Test.YtahcngeimlkcgaaSyJ
import Derived.Test.YtahcngeimlkcgaaChecked
import Derived.KernelRfl
namespace Go.Proofs.Ytahcngeimlkcgaa.M
open Go Am Sy
open Sy.Cell (rc)
set_option linter.unusedVariables false
set_option linter.unusedSimpArgs false
set_option maxRecDepth 20000

structure api_Token where
 Kind : Int
 From : Int
 To : Int
 deriving DecidableEq, Inhabited
instance : Cell api_Token where
 size := 3
 rc Z cs x := cs = [V x.Kind, V x.From, V x.To]
 len h := by rw [h]; rfl
 mono _ h := h
 one h := by rw [h]; rfl
 pos := by decide
theorem rc_api_Token {Z : Zn} {cs : List Value} {x : api_Token} (h : rc Z cs x) : cs = [V x.Kind, V x.From, V x.To] := h
abbrev K70 (x : api_Token) : List Value := [V x.Kind, V x.From, V x.To]
structure correctorref6_scanner where
 B : List UInt8
 At : Int
 Row : Int
 Open : Int
 Base : Int
 Only : Bool
 Text : Int
 L : List api_Token
 deriving DecidableEq, Inhabited
instance : Cell correctorref6_scanner where
 size := 8
 rc Z cs x := ∃ v0, RS (α := UInt8) Z v0 x.B ∧ ∃ v7, RS (α := api_Token) Z v7 x.L ∧ cs = [v0, V x.At, V x.Row, V x.Open, V x.Base, .bool x.Only, V x.Text, v7]
 len h := by obtain ⟨v0, qv0, v7, qv7, h⟩ := h; rw [h]; rfl
 mono hz h := by obtain ⟨v0, qv0, v7, qv7, h⟩ := h; exact ⟨v0, qv0.mono hz, v7, qv7.mono hz, h⟩
 one h := by obtain ⟨v0, qv0, v7, qv7, h⟩ := h; subst h; exact (one_cons qv0.one1 (one_cons rfl (one_cons rfl (one_cons rfl (one_cons rfl (one_cons rfl (one_cons rfl (one_cons qv7.one1 one_nil))))))))
 pos := by decide
theorem rc_correctorref6_scanner {Z : Zn} {cs : List Value} {x : correctorref6_scanner} (h : rc Z cs x) : ∃ v0, RS (α := UInt8) Z v0 x.B ∧ ∃ v7, RS (α := api_Token) Z v7 x.L ∧ cs = [v0, V x.At, V x.Row, V x.Open, V x.Base, .bool x.Only, V x.Text, v7] := h
abbrev K52 (v0 v1 : Value) (x : correctorref6_scanner) : List Value := [v0, V x.At, V x.Row, V x.Open, V x.Base, .bool x.Only, V x.Text, v1]

def r16_0 : List COp := [u 2 (mv 0), u 3 (mv 0), u 4 (mv 0), u 5 (mv 0), u 6 (nk 5), u 7 (fa 52 6 1), u 8 (ld 3 7), u 9 (nk 2), u 10 (fa 52 9 2), o (.store 3 (t 10) (t 8)), u 11 (nk 3), u 12 (fa 52 11 4), o (.store 3 (t 12) (ci (-1))), u 13 (nk 4), u 14 (fa 52 13 5), o (.store 4 (t 14) (.const (.bool true)))]
def correctorref6_scanner_next (F : Nat) (a0 : correctorref6_scanner) : Option correctorref6_scanner :=
 some (⟨a0.B, a0.At, a0.At, a0.Open, (-1), true, a0.Text, a0.L⟩ : correctorref6_scanner)
theorem correctorref6_scanner_next_ok (F : Nat) {h : AH} {Z : Zn} {a0 : correctorref6_scanner} {b1 : Nat} {v3 : Value} {v5 : Value} {c6 : List Value} (hP : Pre Z h [.blk b1 (K52 v3 v5 a0), .gs v5 c6 (csz api_Token)]) (q2 : RS (α := UInt8) Z v3 a0.B) (q4 : RCs (α := api_Token) Z c6 a0.L) {r : correctorref6_scanner} (hm : correctorref6_scanner_next F a0 = some r) :
  ∃ v h' Z' A', callI Try.prog 16 [Pt b1 0] h = some (v, h') ∧ St h (idsL [.blk b1 (K52 v3 v5 a0), .gs v5 c6 (csz api_Token)]) Z (0, 0) Z' h' A' ∧ ∃ v8 : Value, ∃ c10 : List Value, .tuple #[] = v ∧ A' = [.blk b1 (K52 v8 v5 r), .gs v5 c10 (csz api_Token)] ∧ RS (α := UInt8) Z' v8 r.B ∧ RCs (α := api_Token) Z' c10 r.L := by
 refine fn_intro (A := [.blk b1 (K52 v3 v5 a0), .gs v5 c6 (csz api_Token)]) (Q := fun v Z' A' => ∃ v8 : Value, ∃ c10 : List Value, .tuple #[] = v ∧ A' = [.blk b1 (K52 v8 v5 r), .gs v5 c10 (csz api_Token)] ∧ RS (α := UInt8) Z' v8 r.B ∧ RCs (α := api_Token) Z' c10 r.L) Try.func16 rfl rfl (by kernel_rfl) hP ?_
 intro hs hS
 unfold correctorref6_scanner_next at hm
 refine rg r16_0 ?_
 refine xq 6 [(7, Pt b1 1), (4, Pt b1 0), (3, Pt b1 0), (2, Pt b1 0)] ?_
 refine r_step rfl trivial (o_ldb (v := V a0.At) hS (i := 0) rfl rfl (by kernel_rfl)) ?_
 refine xq 2 [(10, Pt b1 2), (8, V a0.At), (4, Pt b1 0), (3, Pt b1 0)] ?_
 refine r_ex1 rfl trivial (o_stb (vs := [V a0.At]) (cells' := [v3, V a0.At, V a0.At, V a0.Open, V a0.Base, .bool a0.Only, V a0.Text, v5]) (L' := [.blk b1 [v3, V a0.At, V a0.At, V a0.Open, V a0.Base, .bool a0.Only, V a0.Text, v5], .gs v5 c6 (csz api_Token)]) hS (i := 0) rfl rfl rfl rfl (by kernel_rfl) rfl rfl rfl rfl) ?_
 intro h11 hS12
 refine xq 2 [(12, Pt b1 4), (4, Pt b1 0)] ?_
 refine r_ex1 rfl trivial (o_stb (vs := [V (-1)]) (cells' := [v3, V a0.At, V a0.At, V a0.Open, V (-1), .bool a0.Only, V a0.Text, v5]) (L' := [.blk b1 [v3, V a0.At, V a0.At, V a0.Open, V (-1), .bool a0.Only, V a0.Text, v5], .gs v5 c6 (csz api_Token)]) hS12 (i := 0) rfl rfl rfl rfl (by kernel_rfl) rfl rfl rfl rfl) ?_
 intro h13 hS14
 refine xq 2 [(14, Pt b1 5)] ?_
 refine r_ex1 rfl trivial (o_stb (vs := [.bool true]) (cells' := [v3, V a0.At, V a0.At, V a0.Open, V (-1), .bool true, V a0.Text, v5]) (L' := [.blk b1 [v3, V a0.At, V a0.At, V a0.Open, V (-1), .bool true, V a0.Text, v5], .gs v5 c6 (csz api_Token)]) hS14 (i := 0) rfl rfl rfl rfl (by kernel_rfl) rfl rfl rfl rfl) ?_
 intro h15 hS16
 refine xf [] ?_
 obtain rfl := si hm
 refine ⟨_, _, _, ResL.nil, hS16, ?_⟩
 exact ⟨v3, c6, rfl, rfl, q2, q4⟩

def r28_0 : List COp := [u 4 (.assign (.const (.int .u8 0)))]
def r28_1 : List COp := [u 5 (mv 1), u 6 (bc .lss 3 5 0 3), u 7 (mv 6), gn 7 8 (mv 1), gn 7 9 (mv 0), gn 7 10 (nk 9), gn 7 11 (fa 52 10 0), gn 7 12 (ld 24 11), gn 7 13 (cb .len #[(t 12)] #[24]), gn 7 14 (bo .geq 3 8 13 3), u 15 (pt 7 14)]
def r28_2 : List COp := [u 4 (.assign (.const (.int .u8 0)))]
def r28_3 : List COp := [u 16 (mv 0), u 17 (nk 16), u 18 (fa 52 17 0), u 19 (ld 24 18), u 20 (mv 1), u 21 (ia 24 19 20), u 22 (ld 5 21), u 4 (sg 22)]
def correctorref6_scanner_byteAt (F : Nat) (a0 : correctorref6_scanner) (a1 : Int) : Option Int :=
 if a1 < (0 : Int) then
  some 0
 else
  if (a0.B.length : Int) ≤ a1 then
   some 0
  else
   if 0 ≤ a1 ∧ a1 < (a0.B.length : Int) then
    (a0.B[a1.toNat]?).bind fun x12 =>
    some (x12.toNat : Int)
   else none
theorem correctorref6_scanner_byteAt_ok (F : Nat) {h : AH} {Z : Zn} {a0 : correctorref6_scanner} {a1 : Int} {b1 : Nat} {v3 : Value} {v5 : Value} {c6 : List Value} (hP : Pre Z h [.blk b1 (K52 v3 v5 a0), .gs v5 c6 (csz api_Token)]) (q2 : RS (α := UInt8) Z v3 a0.B) (q4 : RCs (α := api_Token) Z c6 a0.L) {r : Int} (hm : correctorref6_scanner_byteAt F a0 a1 = some r) :
  ∃ v h' Z' A', callI Try.prog 28 [Pt b1 0, V a1] h = some (v, h') ∧ St h (idsL [.blk b1 (K52 v3 v5 a0), .gs v5 c6 (csz api_Token)]) Z (0, 0) Z' h' A' ∧ .int .u8 (r.toNat : Int) = v ∧ A' = [.blk b1 (K52 v3 v5 a0), .gs v5 c6 (csz api_Token)] := by
 refine fn_intro (A := [.blk b1 (K52 v3 v5 a0), .gs v5 c6 (csz api_Token)]) (Q := fun v Z' A' => .int .u8 (r.toNat : Int) = v ∧ A' = [.blk b1 (K52 v3 v5 a0), .gs v5 c6 (csz api_Token)]) Try.func28 rfl rfl (by kernel_rfl) hP ?_
 intro hs hS
 unfold correctorref6_scanner_byteAt at hm
 refine sr r28_0 ?_
 refine xe 1 [(0, Pt b1 0), (1, V a1)] ?_
 refine sq ?_
 refine sr r28_1 ?_
 refine xq 1 [(5, V a1), (0, Pt b1 0), (1, V a1)] ?_
 rcases ifs hm with ⟨hp9, hm⟩ | ⟨hp9, hm⟩
 refine r_step rfl trivial (o_cmp rfl rfl (c_lss_T hp9)) ?_
 refine xe 9 [(15, .bool true), (0, Pt b1 0), (1, V a1)] ?_
 refine cT 15 rfl ?_
 refine sr r28_2 ?_
 refine xe 1 [(4, .int .u8 0)] ?_
 refine rt ?_
 refine ⟨rfl, ?_⟩
 obtain rfl := si hm
 refine ⟨_, _, _, ResL.tmp rfl (ResL.nil), hS, ?_⟩
 exact ⟨rfl, rfl⟩
 refine r_step rfl trivial (o_cmp rfl rfl (c_lss_F hp9)) ?_
 refine xq 5 [(11, Pt b1 0), (8, V a1), (7, .bool false), (0, Pt b1 0), (1, V a1)] ?_
 refine r_step rfl rfl (o_ldb (v := v3) hS (i := 0) rfl rfl (by kernel_rfl)) ?_
 refine r_step rfl rfl (o_len rfl (RS.len q2) ⟨_, Try.underlying24⟩) ?_
 rcases ifs hm with ⟨hp10, hm⟩ | ⟨hp10, hm⟩
 refine r_step rfl rfl (o_cmp rfl rfl (c_geq_T hp10)) ?_
 refine xe 1 [(15, .bool true), (0, Pt b1 0), (1, V a1)] ?_
 refine cT 15 rfl ?_
 refine sr r28_2 ?_
 refine xe 1 [(4, .int .u8 0)] ?_
 refine rt ?_
 refine ⟨rfl, ?_⟩
 obtain rfl := si hm
 refine ⟨_, _, _, ResL.tmp rfl (ResL.nil), hS, ?_⟩
 exact ⟨rfl, rfl⟩
 refine r_step rfl rfl (o_cmp rfl rfl (c_geq_F hp10)) ?_
 refine xe 1 [(15, .bool false), (0, Pt b1 0), (1, V a1)] ?_
 refine kF 15 rfl ?_
 refine sr r28_3 ?_
 refine xq 3 [(18, Pt b1 0), (1, V a1)] ?_
 refine r_step rfl trivial (o_ldb (v := v3) hS (i := 0) rfl rfl (by kernel_rfl)) ?_
 refine xq 1 [(20, V a1), (19, v3)] ?_
 obtain ⟨hc11, hm⟩ := chk hm
 refine r_step rfl trivial (o_index rfl rfl (by kernel_rfl : slTy _ _ = some (csz UInt8)) (RS.based q2 (by omega)) hc11.1 hc11.2) ?_
 obtain ⟨x12, hx13, hm⟩ := obind hm
 obtain ⟨cs14, hc15, he16⟩ := RS.elz q2 (i := a1) hx13
 obtain rfl := rc_UInt8 hc15
 refine r_step rfl trivial (o_lde (w := .int .u8 (x12.toNat : Int)) (he16 _ (hS.zin0 (Zle.refl _))) rfl (by kernel_rfl)) ?_
 refine xe 1 [(4, .int .u8 (x12.toNat : Int))] ?_
 refine rt ?_
 refine ⟨rfl, ?_⟩
 obtain rfl := si hm
 refine ⟨_, _, _, ResL.tmp rfl (ResL.nil), hS, ?_⟩
 exact ⟨rfl, rfl⟩

def r33_0 : List COp := [u 2 (.assign (.const (.bool false)))]
def r33_1 : List COp := [u 3 (mv 0), u 4 (.binOp .eql 5 (t 3) (.const (.int .u8 32)) 5), u 5 (mv 4), gn 5 6 (mv 0), gn 5 7 (.binOp .eql 5 (t 6) (.const (.int .u8 9)) 5), u 8 (pt 5 7), u 2 (sg 8)]
def correctorref5_Blank (F : Nat) (a0 : Int) : Option Bool :=
 if a0 = (32 : Int) then
  some true
 else
  if a0 = (9 : Int) then
   some true
  else
   some false
theorem correctorref5_Blank_ok (F : Nat) {h : AH} {Z : Zn} {a0 : Int} (hI : Inv Z h) {r : Bool} (hm : correctorref5_Blank F a0 = some r) :
  ∃ v h', callI Try.prog 33 [.int .u8 a0] h = some (v, h') ∧ St h [] Z (0, 0) Z h' [] ∧ v = .bool r := by
 refine fn_plain (Q := fun v => v = .bool r) Try.func33 rfl rfl hI ?_
 intro hs hS
 unfold correctorref5_Blank at hm
 refine sr r33_0 ?_
 refine xe 1 [(0, .int .u8 a0)] ?_
 refine sr r33_1 ?_
 refine xq 1 [(3, .int .u8 a0), (0, .int .u8 a0)] ?_
 rcases ifs hm with ⟨hp1, hm⟩ | ⟨hp1, hm⟩
 refine r_step rfl trivial (o_cmp rfl rfl (c_eql_T hp1)) ?_
 refine xe 5 [(2, .bool true)] ?_
 refine rt ?_
 refine ⟨rfl, ?_⟩
 obtain rfl := si hm
 refine ⟨_, _, _, ResL.tmp rfl (ResL.nil), hS, ?_⟩
 exact rfl
 refine r_step rfl trivial (o_cmp rfl rfl (c_eql_F hp1)) ?_
 refine xq 2 [(6, .int .u8 a0), (5, .bool false)] ?_
 rcases ifs hm with ⟨hp2, hm⟩ | ⟨hp2, hm⟩
 refine r_step rfl rfl (o_cmp rfl rfl (c_eql_T hp2)) ?_
 refine xe 2 [(2, .bool true)] ?_
 refine rt ?_
 refine ⟨rfl, ?_⟩
 obtain rfl := si hm
 refine ⟨_, _, _, ResL.tmp rfl (ResL.nil), hS, ?_⟩
 exact rfl
 refine r_step rfl rfl (o_cmp rfl rfl (c_eql_F hp2)) ?_
 refine xe 2 [(2, .bool false)] ?_
 refine rt ?_
 refine ⟨rfl, ?_⟩
 obtain rfl := si hm
 refine ⟨_, _, _, ResL.tmp rfl (ResL.nil), hS, ?_⟩
 exact rfl

def r31_0 : List COp := [u 4 (.assign (ci 0))]
def r31_1 : List COp := [u 5 (mv 1), u 6 (mv 0), u 7 (cb .len #[(t 6)] #[24]), u 8 (bo .geq 3 5 7 3)]
def r31_2 : List COp := [u 4 (.assign (ci 0))]
def r31_3 : List COp := [u 9 (mv 0), u 10 (mv 1), u 11 (ia 24 9 10), u 12 (ld 5 11), u 13 (.binOp .eql 5 (t 12) (.const (.int .u8 13)) 5), u 14 (mv 13), gt 14 15 (mv 1), gt 14 16 (bc .add 3 15 1 3), gt 14 17 (mv 0), gt 14 18 (cb .len #[(t 17)] #[24]), gt 14 19 (bo .lss 3 16 18 3), u 20 (pf 14 19), u 21 (mv 20), gt 21 22 (mv 0), gt 21 23 (mv 1), gt 21 24 (bc .add 3 23 1 3), gt 21 25 (ia 24 22 24), gt 21 26 (ld 5 25), gt 21 27 (.binOp .eql 5 (t 26) (.const (.int .u8 10)) 5), u 28 (pf 21 27)]
def r31_4 : List COp := [u 4 (.assign (ci 2))]
def r31_5 : List COp := [u 29 (mv 0), u 30 (mv 1), u 31 (ia 24 29 30), u 32 (ld 5 31), u 33 (.binOp .eql 5 (t 32) (.const (.int .u8 13)) 5), u 34 (mv 33), gn 34 35 (mv 0), gn 34 36 (mv 1), gn 34 37 (ia 24 35 36), gn 34 38 (ld 5 37), gn 34 39 (.binOp .eql 5 (t 38) (.const (.int .u8 10)) 5), u 40 (pt 34 39)]
def r31_6 : List COp := [u 4 (.assign (ci 1))]
def r31_7 : List COp := [u 4 (.assign (ci 0))]
def correctorref2_Break (F : Nat) (a0 : List UInt8) (a1 : Int) : Option Int :=
 if (a0.length : Int) ≤ a1 then
  some 0
 else
  ((if 0 ≤ a1 ∧ a1 < (a0.length : Int) then
    (a0[a1.toNat]?).bind fun x26 =>
    if (x26.toNat : Int) = (13 : Int) then
     if (w64 (a1 + 1)) < (a0.length : Int) then
      if 0 ≤ (w64 (a1 + 1)) ∧ (w64 (a1 + 1)) < (a0.length : Int) then
       (a0[(w64 (a1 + 1)).toNat]?).bind fun x35 =>
       if (x35.toNat : Int) = (10 : Int) then
        some (.inr 2)
       else
        some (.inl ())
      else none
     else
      some (.inl ())
    else
     some (.inl ())
   else none) : Option (Sum Unit Int)).bind fun o => match o with
   | .inl () => if 0 ≤ a1 ∧ a1 < (a0.length : Int) then
    (a0[a1.toNat]?).bind fun x62 =>
    if (x62.toNat : Int) = (13 : Int) then
     some 1
    else
     if 0 ≤ a1 ∧ a1 < (a0.length : Int) then
      (a0[a1.toNat]?).bind fun x70 =>
      if (x70.toNat : Int) = (10 : Int) then
       some 1
      else
       some 0
     else none
   else none
   | .inr y => some y
theorem correctorref2_Break_ok (F : Nat) {h : AH} {Z : Zn} {a0 : List UInt8} {a1 : Int} {v2 : Value} (hI : Inv Z h) (q1 : RS (α := UInt8) Z v2 a0) {r : Int} (hm : correctorref2_Break F a0 a1 = some r) :
  ∃ v h', callI Try.prog 31 [v2, V a1] h = some (v, h') ∧ St h [] Z (0, 0) Z h' [] ∧ v = V r := by
 refine fn_plain (Q := fun v => v = V r) Try.func31 rfl rfl hI ?_
 intro hs hS
 unfold correctorref2_Break at hm
 refine sr r31_0 ?_
 refine xe 1 [(0, v2), (1, V a1)] ?_
 refine sq ?_
 refine sr r31_1 ?_
 refine xq 2 [(6, v2), (5, V a1), (0, v2), (1, V a1)] ?_
 refine r_step rfl trivial (o_len rfl (RS.len q1) ⟨_, Try.underlying24⟩) ?_
 rcases ifs hm with ⟨hp5, hm⟩ | ⟨hp5, hm⟩
 refine r_step rfl trivial (o_cmp rfl rfl (c_geq_T hp5)) ?_
 refine xf [(8, .bool true), (0, v2), (1, V a1)] ?_
 refine cT 8 rfl ?_
 refine sr r31_2 ?_
 refine xe 1 [(4, V 0)] ?_
 refine rt ?_
 refine ⟨rfl, ?_⟩
 obtain rfl := si hm
 refine ⟨_, _, _, ResL.tmp rfl (ResL.nil), hS, ?_⟩
 exact rfl
 refine r_step rfl trivial (o_cmp rfl rfl (c_geq_F hp5)) ?_
 refine xf [(8, .bool false), (0, v2), (1, V a1)] ?_
 refine kF 8 rfl ?_
 refine sq ?_
 obtain ⟨o24, ho23, hm⟩ := obind hm
 refine W_join [0, 1] (fun l h => ∃ Z42 : Zn, .inl () = o24 ∧ l = [(0, v2), (1, V a1)] ∧ St hs [] Z (0, 0) Z42 h []) ?_ ?_
 rintro l h43 ⟨Z42, rfl, rfl, hS44⟩
 try dsimp only at hm
 refine sq ?_
 refine sr r31_5 ?_
 refine xq 2 [(30, V a1), (29, v2), (0, v2), (1, V a1)] ?_
 obtain ⟨hc61, hm⟩ := chk hm
 refine r_step rfl trivial (o_index rfl rfl (by kernel_rfl : slTy _ _ = some (csz UInt8)) (RS.based (q1.mono hS44.zle) (by omega)) hc61.1 hc61.2) ?_
 obtain ⟨x62, hx63, hm⟩ := obind hm
 obtain ⟨cs64, hc65, he66⟩ := RS.elz (q1.mono hS44.zle) (i := a1) hx63
 obtain rfl := rc_UInt8 hc65
 refine r_step rfl trivial (o_lde (w := .int .u8 (x62.toNat : Int)) (he66 _ (hS44.zin0 (Zle.refl _))) rfl (by kernel_rfl)) ?_
 rcases ifs hm with ⟨hp68, hm⟩ | ⟨hp68, hm⟩
 refine r_step rfl trivial (o_cmp rfl rfl (c_eql_T hp68)) ?_
 refine xe 7 [(40, .bool true)] ?_
 refine cT 40 rfl ?_
 refine sr r31_6 ?_
 refine xe 1 [(4, V 1)] ?_
 refine rt ?_
 refine ⟨rfl, ?_⟩
 obtain rfl := si hm
 refine ⟨_, _, _, ResL.tmp rfl (ResL.nil), hS44, ?_⟩
 exact rfl
 refine r_step rfl trivial (o_cmp rfl rfl (c_eql_F hp68)) ?_
 refine xq 3 [(36, V a1), (35, v2), (34, .bool false)] ?_
 obtain ⟨hc69, hm⟩ := chk hm
 refine r_step rfl rfl (o_index rfl rfl (by kernel_rfl : slTy _ _ = some (csz UInt8)) (RS.based (q1.mono hS44.zle) (by omega)) hc69.1 hc69.2) ?_
 obtain ⟨x70, hx71, hm⟩ := obind hm
 obtain ⟨cs72, hc73, he74⟩ := RS.elz (q1.mono hS44.zle) (i := a1) hx71
 obtain rfl := rc_UInt8 hc73
 refine r_step rfl rfl (o_lde (w := .int .u8 (x70.toNat : Int)) (he74 _ (hS44.zin0 (Zle.refl _))) rfl (by kernel_rfl)) ?_
 rcases ifs hm with ⟨hp76, hm⟩ | ⟨hp76, hm⟩
 refine r_step rfl rfl (o_cmp rfl rfl (c_eql_T hp76)) ?_
 refine xe 1 [(40, .bool true)] ?_
 refine cT 40 rfl ?_
 refine sr r31_6 ?_
 refine xe 1 [(4, V 1)] ?_
 refine rt ?_
 refine ⟨rfl, ?_⟩
 obtain rfl := si hm
 refine ⟨_, _, _, ResL.tmp rfl (ResL.nil), hS44, ?_⟩
 exact rfl
 refine r_step rfl rfl (o_cmp rfl rfl (c_eql_F hp76)) ?_
 refine xe 1 [(40, .bool false)] ?_
 refine kF 40 rfl ?_
 refine sr r31_7 ?_
 refine xe 1 [(4, V 0)] ?_
 refine rt ?_
 refine ⟨rfl, ?_⟩
 obtain rfl := si hm
 refine ⟨_, _, _, ResL.tmp rfl (ResL.nil), hS44, ?_⟩
 exact rfl
 refine sr r31_3 ?_
 refine xq 2 [(10, V a1), (9, v2), (0, v2), (1, V a1)] ?_
 obtain ⟨hc25, ho23⟩ := chk ho23
 refine r_step rfl trivial (o_index rfl rfl (by kernel_rfl : slTy _ _ = some (csz UInt8)) (RS.based q1 (by omega)) hc25.1 hc25.2) ?_
 obtain ⟨x26, hx27, ho23⟩ := obind ho23
 obtain ⟨cs28, hc29, he30⟩ := RS.elz q1 (i := a1) hx27
 obtain rfl := rc_UInt8 hc29
 refine r_step rfl trivial (o_lde (w := .int .u8 (x26.toNat : Int)) (he30 _ (hS.zin0 (Zle.refl _))) rfl (by kernel_rfl)) ?_
 rcases ifs ho23 with ⟨hp32, ho23⟩ | ⟨hp32, ho23⟩
 refine r_step rfl trivial (o_cmp rfl rfl (c_eql_T hp32)) ?_
 refine xq 4 [(17, v2), (16, V (w64 (a1 + 1))), (14, .bool true), (0, v2), (1, V a1)] ?_
 refine r_step rfl rfl (o_len rfl (RS.len q1) ⟨_, Try.underlying24⟩) ?_
 rcases ifs ho23 with ⟨hp33, ho23⟩ | ⟨hp33, ho23⟩
 refine r_step rfl rfl (o_cmp rfl rfl (c_lss_T hp33)) ?_
 refine xq 5 [(24, V (w64 (a1 + 1))), (22, v2), (21, .bool true), (0, v2), (1, V a1)] ?_
 obtain ⟨hc34, ho23⟩ := chk ho23
 refine r_step rfl rfl (o_index rfl rfl (by kernel_rfl : slTy _ _ = some (csz UInt8)) (RS.based q1 (by omega)) hc34.1 hc34.2) ?_
 obtain ⟨x35, hx36, ho23⟩ := obind ho23
 obtain ⟨cs37, hc38, he39⟩ := RS.elz q1 (i := w64 (a1 + 1)) hx36
 obtain rfl := rc_UInt8 hc38
 refine r_step rfl rfl (o_lde (w := .int .u8 (x35.toNat : Int)) (he39 _ (hS.zin0 (Zle.refl _))) rfl (by kernel_rfl)) ?_
 rcases ifs ho23 with ⟨hp41, ho23⟩ | ⟨hp41, ho23⟩
 refine r_step rfl rfl (o_cmp rfl rfl (c_eql_T hp41)) ?_
 refine xe 1 [(28, .bool true), (0, v2), (1, V a1)] ?_
 refine cT 28 rfl ?_
 refine sr r31_4 ?_
 refine xe 1 [(4, V 2)] ?_
 refine rt ?_
 refine ⟨rfl, ?_⟩
 obtain rfl := si ho23
 obtain rfl := si hm
 refine ⟨_, _, _, ResL.tmp rfl (ResL.nil), hS, ?_⟩
 exact rfl
 refine r_step rfl rfl (o_cmp rfl rfl (c_eql_F hp41)) ?_
 refine xe 1 [(28, .bool false), (0, v2), (1, V a1)] ?_
 refine kF 28 rfl ?_
 obtain rfl := si ho23
 exact ⟨_, rfl, rfl, hS⟩
 refine r_step rfl rfl (o_cmp rfl rfl (c_lss_F hp33)) ?_
 refine xe 9 [(28, .bool false), (0, v2), (1, V a1)] ?_
 refine kF 28 rfl ?_
 obtain rfl := si ho23
 exact ⟨_, rfl, rfl, hS⟩
 refine r_step rfl trivial (o_cmp rfl rfl (c_eql_F hp32)) ?_
 refine xe 15 [(28, .bool false), (0, v2), (1, V a1)] ?_
 refine kF 28 rfl ?_
 obtain rfl := si ho23
 exact ⟨_, rfl, rfl, hS⟩

def r29_0 : List COp := [u 4 (.assign (.const (.bool false)))]
def r29_1 : List COp := [u 5 (mv 1), u 6 (mv 0), u 7 (nk 6), u 8 (fa 52 7 0), u 9 (ld 24 8), u 10 (cb .len #[(t 9)] #[24]), u 11 (bo .geq 3 5 10 3), u 12 (mv 11), gn 12 13 (mv 0), gn 12 14 (nk 13), gn 12 15 (fa 52 14 0), gn 12 16 (ld 24 15), gn 12 17 (mv 1), gn 12 18 (ia 24 16 17), gn 12 19 (ld 5 18), gn 12 20 (cf 33 #[(t 19)] #[5]), u 21 (pt 12 20), u 22 (mv 21), gn 22 23 (mv 0), gn 22 24 (nk 23), gn 22 25 (fa 52 24 0), gn 22 26 (ld 24 25), gn 22 27 (mv 1), gn 22 28 (cf 31 #[(t 26), (t 27)] #[24, 3]), gn 22 29 (bc .gtr 3 28 0 3), u 30 (pt 22 29), u 4 (sg 30)]
def correctorref6_scanner_ended (F : Nat) (a0 : correctorref6_scanner) (a1 : Int) : Option Bool :=
 if (a0.B.length : Int) ≤ a1 then
  some true
 else
  if 0 ≤ a1 ∧ a1 < (a0.B.length : Int) then
   (a0.B[a1.toNat]?).bind fun x9 =>
   (correctorref5_Blank F (x9.toNat : Int)).bind fun r15 =>
   if r15 = true then
    some true
   else
    (correctorref2_Break F a0.B a1).bind fun r23 =>
    if (0 : Int) < r23 then
     some true
    else
     some false
  else none
theorem correctorref6_scanner_ended_ok (F : Nat) {h : AH} {Z : Zn} {a0 : correctorref6_scanner} {a1 : Int} {b1 : Nat} {v3 : Value} {v5 : Value} {c6 : List Value} (hP : Pre Z h [.blk b1 (K52 v3 v5 a0), .gs v5 c6 (csz api_Token)]) (q2 : RS (α := UInt8) Z v3 a0.B) (q4 : RCs (α := api_Token) Z c6 a0.L) {r : Bool} (hm : correctorref6_scanner_ended F a0 a1 = some r) :
  ∃ v h' Z' A', callI Try.prog 29 [Pt b1 0, V a1] h = some (v, h') ∧ St h (idsL [.blk b1 (K52 v3 v5 a0), .gs v5 c6 (csz api_Token)]) Z (0, 0) Z' h' A' ∧ .bool r = v ∧ A' = [.blk b1 (K52 v3 v5 a0), .gs v5 c6 (csz api_Token)] := by
 refine fn_intro (A := [.blk b1 (K52 v3 v5 a0), .gs v5 c6 (csz api_Token)]) (Q := fun v Z' A' => .bool r = v ∧ A' = [.blk b1 (K52 v3 v5 a0), .gs v5 c6 (csz api_Token)]) Try.func29 rfl rfl (by kernel_rfl) hP ?_
 intro hs hS
 unfold correctorref6_scanner_ended at hm
 refine sr r29_0 ?_
 refine xe 1 [(0, Pt b1 0), (1, V a1)] ?_
 refine sr r29_1 ?_
 refine xq 4 [(8, Pt b1 0), (5, V a1), (0, Pt b1 0), (1, V a1)] ?_
 refine r_step rfl trivial (o_ldb (v := v3) hS (i := 0) rfl rfl (by kernel_rfl)) ?_
 refine r_step rfl trivial (o_len rfl (RS.len q2) ⟨_, Try.underlying24⟩) ?_
 rcases ifs hm with ⟨hp7, hm⟩ | ⟨hp7, hm⟩
 refine r_step rfl trivial (o_cmp rfl rfl (c_geq_T hp7)) ?_
 refine xe 20 [(4, .bool true)] ?_
 refine rt ?_
 refine ⟨rfl, ?_⟩
 obtain rfl := si hm
 refine ⟨_, _, _, ResL.tmp rfl (ResL.nil), hS, ?_⟩
 exact ⟨rfl, rfl⟩
 refine r_step rfl trivial (o_cmp rfl rfl (c_geq_F hp7)) ?_
 refine xq 4 [(15, Pt b1 0), (12, .bool false), (0, Pt b1 0), (1, V a1)] ?_
 refine r_step rfl rfl (o_ldb (v := v3) hS (i := 0) rfl rfl (by kernel_rfl)) ?_
 refine xq 1 [(17, V a1), (16, v3), (12, .bool false), (0, Pt b1 0), (1, V a1)] ?_
 obtain ⟨hc8, hm⟩ := chk hm
 refine r_step rfl rfl (o_index rfl rfl (by kernel_rfl : slTy _ _ = some (csz UInt8)) (RS.based q2 (by omega)) hc8.1 hc8.2) ?_
 obtain ⟨x9, hx10, hm⟩ := obind hm
 obtain ⟨cs11, hc12, he13⟩ := RS.elz q2 (i := a1) hx10
 obtain rfl := rc_UInt8 hc12
 refine r_step rfl rfl (o_lde (w := .int .u8 (x9.toNat : Int)) (he13 _ (hS.zin0 (Zle.refl _))) rfl (by kernel_rfl)) ?_
 obtain ⟨r15, hx16, hm⟩ := obind hm
 obtain ⟨v17, h18, hcl19, hSc20, rfl⟩ := correctorref5_Blank_ok F hS.inv  hx16
 have hS21 := St.call (A := []) (B := [.blk b1 (K52 v3 v5 a0), .gs v5 c6 (csz api_Token)]) hS hSc20
 replace hS21 : St _ _ _ _ _ _ [.blk b1 (K52 v3 v5 a0), .gs v5 c6 (csz api_Token)] := hS21
 refine r_step rfl rfl (o_call hcl19 rfl rfl rfl) ?_
 refine xq 2 [(22, .bool r15), (0, Pt b1 0), (1, V a1)] ?_
 rcases ifs hm with ⟨hp22, hm⟩ | ⟨hp22, hm⟩
 refine r_setb (t := 22) rfl hp22 ?_
 refine xe 9 [(4, .bool true)] ?_
 refine rt ?_
 refine ⟨rfl, ?_⟩
 obtain rfl := si hm
 refine ⟨_, _, _, ResL.tmp rfl (ResL.nil), hS21, ?_⟩
 exact ⟨rfl, rfl⟩
 refine r_setb (t := 22) rfl (Bool.eq_false_iff.2 hp22) ?_
 refine xq 3 [(25, Pt b1 0), (22, .bool false), (1, V a1)] ?_
 refine r_step rfl rfl (o_ldb (v := v3) hS21 (i := 0) rfl rfl (by kernel_rfl)) ?_
 refine xq 1 [(27, V a1), (26, v3), (22, .bool false)] ?_
 obtain ⟨r23, hx24, hm⟩ := obind hm
 obtain ⟨v25, h26, hcl27, hSc28, rfl⟩ := correctorref2_Break_ok F hS21.inv q2 hx24
 have hS29 := St.call (A := []) (B := [.blk b1 (K52 v3 v5 a0), .gs v5 c6 (csz api_Token)]) hS21 hSc28
 replace hS29 : St _ _ _ _ _ _ [.blk b1 (K52 v3 v5 a0), .gs v5 c6 (csz api_Token)] := hS29
 refine r_step rfl rfl (o_call hcl27 rfl rfl rfl) ?_
 rcases ifs hm with ⟨hp30, hm⟩ | ⟨hp30, hm⟩
 refine r_step rfl rfl (o_cmp rfl rfl (c_gtr_T hp30)) ?_
 refine xe 2 [(4, .bool true)] ?_
 refine rt ?_
 refine ⟨rfl, ?_⟩
 obtain rfl := si hm
 refine ⟨_, _, _, ResL.tmp rfl (ResL.nil), hS29, ?_⟩
 exact ⟨rfl, rfl⟩
 refine r_step rfl rfl (o_cmp rfl rfl (c_gtr_F hp30)) ?_
 refine xe 2 [(4, .bool false)] ?_
 refine rt ?_
 refine ⟨rfl, ?_⟩
 obtain rfl := si hm
 refine ⟨_, _, _, ResL.tmp rfl (ResL.nil), hS29, ?_⟩
 exact ⟨rfl, rfl⟩

def r17_0 : List COp := [u 4 (.assign (ci 0))]
def r17_1 : List COp := [u 6 (mv 0), u 7 (mv 1), u 8 (cf 28 #[(t 6), (t 7)] #[50, 3]), u 5 (sg 8)]
def r17_2 : List COp := [u 9 (mv 1), u 10 (bc .add 3 9 3 3), u 11 (mv 0), u 12 (nk 11), u 13 (fa 52 12 0), u 14 (ld 24 13), u 15 (cb .len #[(t 14)] #[24]), u 16 (bo .gtr 3 10 15 3), u 17 (mv 16), gn 17 18 (mv 0), gn 17 19 (nk 18), gn 17 20 (fa 52 19 0), gn 17 21 (ld 24 20), gn 17 22 (mv 1), gn 17 23 (bc .add 3 22 1 3), gn 17 24 (ia 24 21 23), gn 17 25 (ld 5 24), gn 17 26 (mv 5), gn 17 27 (bo .neq 5 25 26 5), u 28 (pt 17 27), u 29 (mv 28), gn 29 30 (mv 0), gn 29 31 (nk 30), gn 29 32 (fa 52 31 0), gn 29 33 (ld 24 32), gn 29 34 (mv 1), gn 29 35 (bc .add 3 34 2 3), gn 29 36 (ia 24 33 35), gn 29 37 (ld 5 36), gn 29 38 (mv 5), gn 29 39 (bo .neq 5 37 38 5), u 40 (pt 29 39), u 41 (mv 40), gn 41 42 (mv 0), gn 41 43 (mv 1), gn 41 44 (bc .add 3 43 3 3), gn 41 45 (cf 29 #[(t 42), (t 44)] #[50, 3]), gn 41 46 (.unOp .not 4 (t 45)), u 47 (pt 41 46)]
def r17_3 : List COp := [u 4 (.assign (ci 0))]
def r17_4 : List COp := [u 48 (mv 5), u 49 (.binOp .eql 5 (t 48) (.const (.int .u8 45)) 5)]
def r17_5 : List COp := [u 4 (.assign (ci 20))]
def r17_6 : List COp := [u 50 (mv 5), u 51 (.binOp .eql 5 (t 50) (.const (.int .u8 46)) 5)]
def r17_7 : List COp := [u 4 (.assign (ci 21))]
def r17_8 : List COp := [u 4 (.assign (ci 0))]
def correctorref6_scanner_mark (F : Nat) (a0 : correctorref6_scanner) (a1 : Int) : Option Int :=
 (correctorref6_scanner_byteAt F a0 a1).bind fun r7 =>
 if (a0.B.length : Int) < (w64 (a1 + 3)) then
  some 0
 else
  if 0 ≤ (w64 (a1 + 1)) ∧ (w64 (a1 + 1)) < (a0.B.length : Int) then
   (a0.B[(w64 (a1 + 1)).toNat]?).bind fun x78 =>
   if (x78.toNat : Int) = (r7.toNat : Int) then
    if 0 ≤ (w64 (a1 + 2)) ∧ (w64 (a1 + 2)) < (a0.B.length : Int) then
     (a0.B[(w64 (a1 + 2)).toNat]?).bind fun x86 =>
     if (x86.toNat : Int) = (r7.toNat : Int) then
      (correctorref6_scanner_ended F a0 (w64 (a1 + 3))).bind fun r93 =>
      if r93 = true then
       if (r7.toNat : Int) = (45 : Int) then
        some 20
       else
        if (r7.toNat : Int) = (46 : Int) then
         some 21
        else
         some 0
      else
       some 0
     else
      some 0
    else none
   else
    some 0
  else none
theorem correctorref6_scanner_mark_ok (F : Nat) {h : AH} {Z : Zn} {a0 : correctorref6_scanner} {a1 : Int} {b1 : Nat} {v3 : Value} {v5 : Value} {c6 : List Value} (hP : Pre Z h [.blk b1 (K52 v3 v5 a0), .gs v5 c6 (csz api_Token)]) (q2 : RS (α := UInt8) Z v3 a0.B) (q4 : RCs (α := api_Token) Z c6 a0.L) {r : Int} (hm : correctorref6_scanner_mark F a0 a1 = some r) :
  ∃ v h' Z' A', callI Try.prog 17 [Pt b1 0, V a1] h = some (v, h') ∧ St h (idsL [.blk b1 (K52 v3 v5 a0), .gs v5 c6 (csz api_Token)]) Z (0, 0) Z' h' A' ∧ V r = v ∧ A' = [.blk b1 (K52 v3 v5 a0), .gs v5 c6 (csz api_Token)] := by
 refine fn_intro (A := [.blk b1 (K52 v3 v5 a0), .gs v5 c6 (csz api_Token)]) (Q := fun v Z' A' => V r = v ∧ A' = [.blk b1 (K52 v3 v5 a0), .gs v5 c6 (csz api_Token)]) Try.func17 rfl rfl (by kernel_rfl) hP ?_
 intro hs hS
 unfold correctorref6_scanner_mark at hm
 refine sr r17_0 ?_
 refine xe 1 [(0, Pt b1 0), (1, V a1)] ?_
 refine sr r17_1 ?_
 refine xq 2 [(7, V a1), (6, Pt b1 0), (0, Pt b1 0), (1, V a1)] ?_
 obtain ⟨r7, hx8, hm⟩ := obind hm
 have hF14 : St _ _ _ _ _ _ ([.blk b1 (K52 v3 v5 a0), .gs v5 c6 (csz api_Token)] ++ []) := ((hS.front 1 rfl).front 1 rfl)
 obtain ⟨v9, h10, Z15, A17, hcl11, hSc12, rfl, rfl⟩ := correctorref6_scanner_byteAt_ok F hF14.preL q2 q4 hx8
 have hZ16 := hSc12.zle
 have hS13 := hF14.call hSc12
 replace hS13 : St _ _ _ _ _ _ [.blk b1 (K52 v3 v5 a0), .gs v5 c6 (csz api_Token)] := hS13
 refine r_step rfl trivial (o_call hcl11 rfl rfl rfl) ?_
 refine xe 1 [(5, .int .u8 (r7.toNat : Int)), (0, Pt b1 0), (1, V a1)] ?_
 refine sq ?_
 refine sr r17_2 ?_
 refine xq 5 [(13, Pt b1 0), (10, V (w64 (a1 + 3))), (5, .int .u8 (r7.toNat : Int)), (0, Pt b1 0), (1, V a1)] ?_
 refine r_step rfl trivial (o_ldb (v := v3) hS13 (i := 0) rfl rfl (by kernel_rfl)) ?_
 refine r_step rfl trivial (o_len rfl (RS.len (q2.mono hZ16)) ⟨_, Try.underlying24⟩) ?_
 rcases ifs hm with ⟨hp76, hm⟩ | ⟨hp76, hm⟩
 refine r_step rfl trivial (o_cmp rfl rfl (c_gtr_T hp76)) ?_
 refine xe 31 [(47, .bool true), (5, .int .u8 (r7.toNat : Int))] ?_
 refine cT 47 rfl ?_
 refine sr r17_3 ?_
 refine xe 1 [(4, V 0)] ?_
 refine rt ?_
 refine ⟨rfl, ?_⟩
 obtain rfl := si hm
 refine ⟨_, _, _, ResL.tmp rfl (ResL.nil), hS13, ?_⟩
 exact ⟨rfl, rfl⟩
 refine r_step rfl trivial (o_cmp rfl rfl (c_gtr_F hp76)) ?_
 refine xq 4 [(20, Pt b1 0), (17, .bool false), (5, .int .u8 (r7.toNat : Int)), (0, Pt b1 0), (1, V a1)] ?_
 refine r_step rfl rfl (o_ldb (v := v3) hS13 (i := 0) rfl rfl (by kernel_rfl)) ?_
 refine xq 2 [(23, V (w64 (a1 + 1))), (21, v3), (17, .bool false), (5, .int .u8 (r7.toNat : Int)), (0, Pt b1 0), (1, V a1)] ?_
 obtain ⟨hc77, hm⟩ := chk hm
 refine r_step rfl rfl (o_index rfl rfl (by kernel_rfl : slTy _ _ = some (csz UInt8)) (RS.based (q2.mono hZ16) (by omega)) hc77.1 hc77.2) ?_
 obtain ⟨x78, hx79, hm⟩ := obind hm
 obtain ⟨cs80, hc81, he82⟩ := RS.elz (q2.mono hZ16) (i := w64 (a1 + 1)) hx79
 obtain rfl := rc_UInt8 hc81
 refine r_step rfl rfl (o_lde (w := .int .u8 (x78.toNat : Int)) (he82 _ (hS13.zin0 (Zle.refl _))) rfl (by kernel_rfl)) ?_
 refine xq 1 [(26, .int .u8 (r7.toNat : Int)), (25, .int .u8 (x78.toNat : Int)), (17, .bool false), (5, .int .u8 (r7.toNat : Int)), (0, Pt b1 0), (1, V a1)] ?_
 rcases ifs hm with ⟨hp84, hm⟩ | ⟨hp84, hm⟩
 refine r_step rfl rfl (o_cmp rfl rfl (c_neq_F hp84)) ?_
 refine xq 5 [(32, Pt b1 0), (29, .bool false), (5, .int .u8 (r7.toNat : Int)), (0, Pt b1 0), (1, V a1)] ?_
 refine r_step rfl rfl (o_ldb (v := v3) hS13 (i := 0) rfl rfl (by kernel_rfl)) ?_
 refine xq 2 [(35, V (w64 (a1 + 2))), (33, v3), (29, .bool false), (5, .int .u8 (r7.toNat : Int)), (0, Pt b1 0), (1, V a1)] ?_
 obtain ⟨hc85, hm⟩ := chk hm
 refine r_step rfl rfl (o_index rfl rfl (by kernel_rfl : slTy _ _ = some (csz UInt8)) (RS.based (q2.mono hZ16) (by omega)) hc85.1 hc85.2) ?_
 obtain ⟨x86, hx87, hm⟩ := obind hm
 obtain ⟨cs88, hc89, he90⟩ := RS.elz (q2.mono hZ16) (i := w64 (a1 + 2)) hx87
 obtain rfl := rc_UInt8 hc89
 refine r_step rfl rfl (o_lde (w := .int .u8 (x86.toNat : Int)) (he90 _ (hS13.zin0 (Zle.refl _))) rfl (by kernel_rfl)) ?_
 refine xq 1 [(38, .int .u8 (r7.toNat : Int)), (37, .int .u8 (x86.toNat : Int)), (29, .bool false), (5, .int .u8 (r7.toNat : Int)), (0, Pt b1 0), (1, V a1)] ?_
 rcases ifs hm with ⟨hp92, hm⟩ | ⟨hp92, hm⟩
 refine r_step rfl rfl (o_cmp rfl rfl (c_neq_F hp92)) ?_
 refine xq 5 [(44, V (w64 (a1 + 3))), (42, Pt b1 0), (41, .bool false), (5, .int .u8 (r7.toNat : Int))] ?_
 obtain ⟨r93, hx94, hm⟩ := obind hm
 have hF100 : St _ _ _ _ _ _ ([.blk b1 (K52 v3 v5 a0), .gs v5 c6 (csz api_Token)] ++ []) := ((hS13.front 1 rfl).front 1 rfl)
 obtain ⟨v95, h96, Z101, A103, hcl97, hSc98, rfl, rfl⟩ := correctorref6_scanner_ended_ok F hF100.preL (q2.mono hZ16) (q4.mono hZ16) hx94
 have hZ102 := hSc98.zle
 have hS99 := hF100.call hSc98
 replace hS99 : St _ _ _ _ _ _ [.blk b1 (K52 v3 v5 a0), .gs v5 c6 (csz api_Token)] := hS99
 refine r_step rfl rfl (o_call hcl97 rfl rfl rfl) ?_
 rcases ifs hm with ⟨hp104, hm⟩ | ⟨hp104, hm⟩
 refine r_setb (t := 45) rfl hp104 ?_
 refine xe 2 [(47, .bool false), (5, .int .u8 (r7.toNat : Int))] ?_
 refine kF 47 rfl ?_
 refine sq ?_
 refine sr r17_4 ?_
 refine xq 1 [(48, .int .u8 (r7.toNat : Int)), (5, .int .u8 (r7.toNat : Int))] ?_
 rcases ifs hm with ⟨hp107, hm⟩ | ⟨hp107, hm⟩
 refine r_step rfl trivial (o_cmp rfl rfl (c_eql_T hp107)) ?_
 refine xf [(49, .bool true), (5, .int .u8 (r7.toNat : Int))] ?_
 refine cT 49 rfl ?_
 refine sr r17_5 ?_
 refine xe 1 [(4, V 20)] ?_
 refine rt ?_
 refine ⟨rfl, ?_⟩
 obtain rfl := si hm
 refine ⟨_, _, _, ResL.tmp rfl (ResL.nil), hS99, ?_⟩
 exact ⟨rfl, rfl⟩
 refine r_step rfl trivial (o_cmp rfl rfl (c_eql_F hp107)) ?_
 refine xf [(49, .bool false), (5, .int .u8 (r7.toNat : Int))] ?_
 refine kF 49 rfl ?_
 refine sq ?_
 refine sr r17_6 ?_
 refine xq 1 [(50, .int .u8 (r7.toNat : Int))] ?_
 rcases ifs hm with ⟨hp109, hm⟩ | ⟨hp109, hm⟩
 refine r_step rfl trivial (o_cmp rfl rfl (c_eql_T hp109)) ?_
 refine xf [(51, .bool true)] ?_
 refine cT 51 rfl ?_
 refine sr r17_7 ?_
 refine xe 1 [(4, V 21)] ?_
 refine rt ?_
 refine ⟨rfl, ?_⟩
 obtain rfl := si hm
 refine ⟨_, _, _, ResL.tmp rfl (ResL.nil), hS99, ?_⟩
 exact ⟨rfl, rfl⟩
 refine r_step rfl trivial (o_cmp rfl rfl (c_eql_F hp109)) ?_
 refine xf [(51, .bool false)] ?_
 refine kF 51 rfl ?_
 refine sr r17_8 ?_
 refine xe 1 [(4, V 0)] ?_
 refine rt ?_
 refine ⟨rfl, ?_⟩
 obtain rfl := si hm
 refine ⟨_, _, _, ResL.tmp rfl (ResL.nil), hS99, ?_⟩
 exact ⟨rfl, rfl⟩
 refine r_setb (t := 45) rfl (Bool.eq_false_iff.2 hp104) ?_
 refine xe 2 [(47, .bool true), (5, .int .u8 (r7.toNat : Int))] ?_
 refine cT 47 rfl ?_
 refine sr r17_3 ?_
 refine xe 1 [(4, V 0)] ?_
 refine rt ?_
 refine ⟨rfl, ?_⟩
 obtain rfl := si hm
 refine ⟨_, _, _, ResL.tmp rfl (ResL.nil), hS99, ?_⟩
 exact ⟨rfl, rfl⟩
 refine r_step rfl rfl (o_cmp rfl rfl (c_neq_T hp92)) ?_
 refine xe 8 [(47, .bool true), (5, .int .u8 (r7.toNat : Int))] ?_
 refine cT 47 rfl ?_
 refine sr r17_3 ?_
 refine xe 1 [(4, V 0)] ?_
 refine rt ?_
 refine ⟨rfl, ?_⟩
 obtain rfl := si hm
 refine ⟨_, _, _, ResL.tmp rfl (ResL.nil), hS13, ?_⟩
 exact ⟨rfl, rfl⟩
 refine r_step rfl rfl (o_cmp rfl rfl (c_neq_T hp84)) ?_
 refine xe 20 [(47, .bool true), (5, .int .u8 (r7.toNat : Int))] ?_
 refine cT 47 rfl ?_
 refine sr r17_3 ?_
 refine xe 1 [(4, V 0)] ?_
 refine rt ?_
 refine ⟨rfl, ?_⟩
 obtain rfl := si hm
 refine ⟨_, _, _, ResL.tmp rfl (ResL.nil), hS13, ?_⟩
 exact ⟨rfl, rfl⟩

def r30_0 : List COp := [u 2 (.assign (.const (.bool false)))]
def r30_1 : List COp := [u 3 (mv 0), u 4 (bc .neq 3 3 1 3), u 5 (mv 4), gt 5 6 (mv 0), gt 5 7 (bc .neq 3 6 2 3), u 8 (pf 5 7), u 9 (mv 8), gt 9 10 (mv 0), gt 9 11 (bc .neq 3 10 3 3), u 12 (pf 9 11), u 13 (mv 12), gt 13 14 (mv 0), gt 13 15 (bc .neq 3 14 4 3), u 16 (pf 13 15), u 2 (sg 16)]
def correctorref6_Counts (F : Nat) (a0 : Int) : Option Bool :=
 if a0 = (1 : Int) then
  some false
 else
  if a0 = (2 : Int) then
   some false
  else
   if a0 = (3 : Int) then
    some false
   else
    if a0 = (4 : Int) then
     some false
    else
     some true
theorem correctorref6_Counts_ok (F : Nat) {h : AH} {Z : Zn} {a0 : Int} (hI : Inv Z h) {r : Bool} (hm : correctorref6_Counts F a0 = some r) :
  ∃ v h', callI Try.prog 30 [V a0] h = some (v, h') ∧ St h [] Z (0, 0) Z h' [] ∧ v = .bool r := by
 refine fn_plain (Q := fun v => v = .bool r) Try.func30 rfl rfl hI ?_
 intro hs hS
 unfold correctorref6_Counts at hm
 refine sr r30_0 ?_
 refine xe 1 [(0, V a0)] ?_
 refine sr r30_1 ?_
 refine xq 1 [(3, V a0), (0, V a0)] ?_
 rcases ifs hm with ⟨hp1, hm⟩ | ⟨hp1, hm⟩
 refine r_step rfl trivial (o_cmp rfl rfl (c_neq_F hp1)) ?_
 refine xe 13 [(2, .bool false)] ?_
 refine rt ?_
 refine ⟨rfl, ?_⟩
 obtain rfl := si hm
 refine ⟨_, _, _, ResL.tmp rfl (ResL.nil), hS, ?_⟩
 exact rfl
 refine r_step rfl trivial (o_cmp rfl rfl (c_neq_T hp1)) ?_
 refine xq 2 [(6, V a0), (5, .bool true), (0, V a0)] ?_
 rcases ifs hm with ⟨hp2, hm⟩ | ⟨hp2, hm⟩
 refine r_step rfl rfl (o_cmp rfl rfl (c_neq_F hp2)) ?_
 refine xe 10 [(2, .bool false)] ?_
 refine rt ?_
 refine ⟨rfl, ?_⟩
 obtain rfl := si hm
 refine ⟨_, _, _, ResL.tmp rfl (ResL.nil), hS, ?_⟩
 exact rfl
 refine r_step rfl rfl (o_cmp rfl rfl (c_neq_T hp2)) ?_
 refine xq 3 [(10, V a0), (9, .bool true), (0, V a0)] ?_
 rcases ifs hm with ⟨hp3, hm⟩ | ⟨hp3, hm⟩
 refine r_step rfl rfl (o_cmp rfl rfl (c_neq_F hp3)) ?_
 refine xe 6 [(2, .bool false)] ?_
 refine rt ?_
 refine ⟨rfl, ?_⟩
 obtain rfl := si hm
 refine ⟨_, _, _, ResL.tmp rfl (ResL.nil), hS, ?_⟩
 exact rfl
 refine r_step rfl rfl (o_cmp rfl rfl (c_neq_T hp3)) ?_
 refine xq 3 [(14, V a0), (13, .bool true)] ?_
 rcases ifs hm with ⟨hp4, hm⟩ | ⟨hp4, hm⟩
 refine r_step rfl rfl (o_cmp rfl rfl (c_neq_F hp4)) ?_
 refine xe 2 [(2, .bool false)] ?_
 refine rt ?_
 refine ⟨rfl, ?_⟩
 obtain rfl := si hm
 refine ⟨_, _, _, ResL.tmp rfl (ResL.nil), hS, ?_⟩
 exact rfl
 refine r_step rfl rfl (o_cmp rfl rfl (c_neq_T hp4)) ?_
 refine xe 2 [(2, .bool true)] ?_
 refine rt ?_
 refine ⟨rfl, ?_⟩
 obtain rfl := si hm
 refine ⟨_, _, _, ResL.tmp rfl (ResL.nil), hS, ?_⟩
 exact rfl

def r18_0 : List COp := [u 6 (mv 1), u 7 (cf 30 #[(t 6)] #[3]), u 8 (mv 7), gt 8 9 (mv 1), gt 8 10 (bc .neq 3 9 19 3), u 11 (pf 8 10), u 12 (mv 11), gt 12 13 (mv 0), gt 12 14 (nk 13), gt 12 15 (fa 52 14 4), gt 12 16 (ld 3 15), gt 12 17 (bc .lss 3 16 0 3), u 18 (pf 12 17)]
def r18_1 : List COpF := [uP 19 (mv 0), uP 20 (mv 0), uP 21 (nk 20), uP 22 (fa 52 21 1), uL 23 (ld 3 22), uP 24 (mv 0), uP 25 (nk 24), uP 26 (fa 52 25 2), uL 27 (ld 3 26), uP 28 (bo .sub 3 23 27 3), uP 29 (nk 19), uP 30 (fa 52 29 4), oF (.store 3 (t 30) (t 28)) .make [4, 8]]
def r18_2 : List COp := [u 31 (mv 1), u 32 (bc .neq 3 31 2 3), u 33 (mv 32), gt 33 34 (mv 1), gt 33 35 (bc .neq 3 34 3 3), u 36 (pf 33 35), u 37 (mv 36), gt 37 38 (mv 1), gt 37 39 (bc .neq 3 38 5 3), u 40 (pf 37 39), u 41 (mv 40), gt 41 42 (mv 1), gt 41 43 (bc .neq 3 42 20 3), u 44 (pf 41 43)]
def r18_3 : List COp := [u 45 (mv 0), u 46 (nk 45), u 47 (fa 52 46 5), o (.store 4 (t 47) (.const (.bool false)))]
def r18_4 : List COpF := [uP 48 (mv 0), uP 49 (mv 0), uP 50 (nk 49), uP 51 (fa 52 50 7), uL 52 (ld 25 51), uP 53 (mv 1), uP 54 (mv 0), uP 55 (nk 54), uP 56 (fa 52 55 1), uL 57 (ld 3 56), uP 58 (mv 2), uP 59 (.build 70 #[(0, (t 53)), (1, (t 57)), (2, (t 58))]), uF 60 (.buildSlice 25 1 #[(0, (t 59))]) .fresh [], uF 61 (cb .append #[(t 52), (t 60)] #[25, 25]) .make [4, 9], uP 62 (nk 48), uP 63 (fa 52 62 7), oF (.store 25 (t 63) (t 61)) .make [4, 9]]
def r18_5 : List COp := [u 64 (mv 0), u 65 (mv 2), u 66 (nk 64), u 67 (fa 52 66 1), o (.store 3 (t 67) (t 65))]
def correctorref6_scanner_add (F : Nat) (a0 : correctorref6_scanner) (a1 : Int) (a2 : Int) : Option correctorref6_scanner :=
 (((((correctorref6_Counts F a1).bind fun r71 =>
   if r71 = true then
    if a1 = (19 : Int) then
     some false
    else
     if a0.Base < (0 : Int) then
      some true
     else
      some false
   else
    some false) : Option Bool).bind fun o => match o with
   | x82 => if x82 = true then
    some (⟨a0.B, a0.At, a0.Row, a0.Open, w64 (a0.At - a0.Row), a0.Only, a0.Text, a0.L⟩ : correctorref6_scanner)
   else
    some a0) : Option correctorref6_scanner).bind fun o => match o with
  | x98 => ((if a1 = (2 : Int) then
    some x98
   else
    if a1 = (3 : Int) then
     some x98
    else
     if a1 = (5 : Int) then
      some x98
     else
      if a1 = (20 : Int) then
       some x98
      else
       some (⟨x98.B, x98.At, x98.Row, x98.Open, x98.Base, false, x98.Text, x98.L⟩ : correctorref6_scanner)) : Option correctorref6_scanner).bind fun o => match o with
   | x120 => if x120.L.length + [(⟨a1, x120.At, a2⟩ : api_Token)].length ≤ 5864062014805 then
    some (⟨x120.B, a2, x120.Row, x120.Open, x120.Base, x120.Only, x120.Text, x120.L ++ [(⟨a1, x120.At, a2⟩ : api_Token)]⟩ : correctorref6_scanner)
   else none
theorem correctorref6_scanner_add_ok (F : Nat) {h : AH} {Z : Zn} {a0 : correctorref6_scanner} {a1 : Int} {a2 : Int} {b1 : Nat} {v3 : Value} {v5 : Value} {c6 : List Value} (hP : Pre Z h [.blk b1 (K52 v3 v5 a0), .gs v5 c6 (csz api_Token)]) (q2 : RS (α := UInt8) Z v3 a0.B) (q4 : RCs (α := api_Token) Z c6 a0.L) {r : correctorref6_scanner} (hm : correctorref6_scanner_add F a0 a1 a2 = some r) :
  ∃ v h' Z' A', callI Try.prog 18 [Pt b1 0, V a1, V a2] h = some (v, h') ∧ St h (idsL [.blk b1 (K52 v3 v5 a0), .gs v5 c6 (csz api_Token)]) Z (0, 0) Z' h' A' ∧ ∃ v8 : Value, ∃ v10 : Value, ∃ c11 : List Value, .tuple #[] = v ∧ A' = [.blk b1 (K52 v8 v10 r), .gs v10 c11 (csz api_Token)] ∧ RS (α := UInt8) Z' v8 r.B ∧ RCs (α := api_Token) Z' c11 r.L := by
 refine fn_intro (A := [.blk b1 (K52 v3 v5 a0), .gs v5 c6 (csz api_Token)]) (Q := fun v Z' A' => ∃ v8 : Value, ∃ v10 : Value, ∃ c11 : List Value, .tuple #[] = v ∧ A' = [.blk b1 (K52 v8 v10 r), .gs v10 c11 (csz api_Token)] ∧ RS (α := UInt8) Z' v8 r.B ∧ RCs (α := api_Token) Z' c11 r.L) Try.func18 rfl rfl (by kernel_rfl) hP ?_
 intro hs hS
 unfold correctorref6_scanner_add at hm
 refine sq ?_
 obtain ⟨o48, ho47, hm⟩ := obind hm
 refine W_join [0, 1, 2] (fun l h => ∃ Z97 : Zn, ∃ x98 : correctorref6_scanner, ∃ v100 : Value, ∃ c102 : List Value, x98 = o48 ∧ RS (α := UInt8) Z97 v100 x98.B ∧ RCs (α := api_Token) Z97 c102 x98.L ∧ l = [(0, Pt b1 0), (1, V a1), (2, V a2)] ∧ St hs (idsL [.blk b1 (K52 v3 v5 a0), .gs v5 c6 (csz api_Token)]) Z (0, 0) Z97 h [.blk b1 (K52 v100 v5 x98), .gs v5 c102 (csz api_Token)]) ?_ ?_
 rintro l h103 ⟨Z97, x98, v100, c102, rfl, q99, q101, rfl, hS104⟩
 try dsimp only at hm
 refine sq ?_
 obtain ⟨o112, ho111, hm⟩ := obind hm
 refine W_join [0, 1, 2] (fun l h => ∃ Z119 : Zn, ∃ x120 : correctorref6_scanner, ∃ v122 : Value, ∃ c124 : List Value, x120 = o112 ∧ RS (α := UInt8) Z119 v122 x120.B ∧ RCs (α := api_Token) Z119 c124 x120.L ∧ l = [(0, Pt b1 0), (1, V a1), (2, V a2)] ∧ St hs (idsL [.blk b1 (K52 v3 v5 a0), .gs v5 c6 (csz api_Token)]) Z (0, 0) Z119 h [.blk b1 (K52 v122 v5 x120), .gs v5 c124 (csz api_Token)]) ?_ ?_
 rintro l h125 ⟨Z119, x120, v122, c124, rfl, q121, q123, rfl, hS126⟩
 try dsimp only at hm
 refine srF r18_4 hS126 ?_
 intro bs127 h128 hlv130 hS129
 refine yq 4 [(51, Pt b1 7), (48, Pt b1 0), (0, Pt b1 0), (1, V a1), (2, V a2)] ?_
 have lt131 : b1 < bs127 := hlv130.1 _ (List.mem_of_getElem? (i := 0) rfl) _ (by simp [Itm.ids])
 refine e_lookO (v := v5) rfl trivial rfl (by show b1 < _; omega) (same1 (v := v5) (hS129.gsim1 (i := 1) rfl)) (hS129.ldAt (i := 0) rfl (by kernel_rfl)) trivial ?_
 refine yq 4 [(56, Pt b1 1), (53, V a1), (52, v5), (48, Pt b1 0), (0, Pt b1 0), (2, V a2)] ?_
 have lt132 : b1 < bs127 := hlv130.1 _ (List.mem_of_getElem? (i := 0) rfl) _ (by simp [Itm.ids])
 refine e_lookO (v := V x120.At) rfl trivial rfl (by show b1 < _; omega) (same1 (v := V x120.At) trivial) (hS129.ldAt (i := 0) rfl (by kernel_rfl)) trivial ?_
 refine yq 2 [(59, .agg #[V a1, V x120.At, V a2]), (52, v5), (48, Pt b1 0), (0, Pt b1 0), (2, V a2)] ?_
 have q136 : RCs (α := api_Token) Z119 [V a1, V x120.At, V a2] [(⟨a1, x120.At, a2⟩ : api_Token)] := RCs.cons (cs := [V a1, V x120.At, V a2]) rfl (RCs.nil0 _)
 refine e_row rfl trivial (o_bs (cells := [V a1, V x120.At, V a2]) (s := 3) (by kernel_rfl)) (by kernel_rfl) hS129 (by omega) (Nat.add_lt_add_left (by decide) _) ?_
 intro v133 h134 b137 eb138 ec139 hS135
 replace hS135 : St _ _ _ _ _ _ [.gs v133 [V a1, V x120.At, V a2] (csz api_Token), .blk b1 (K52 v122 v5 x120), .gs v5 c124 (csz api_Token)] := hS135
 obtain ⟨hc146, hm⟩ := chk hm
 have hF147 : St _ _ _ _ _ _ ([.gs v5 c124 (csz api_Token)] ++ [.gs v133 [V a1, V x120.At, V a2] (csz api_Token), .blk b1 (K52 v122 v5 x120)]) := (hS135.front 2 rfl)
 refine e_mk3 rfl trivial hF147 (o_app (ys := [(⟨a1, x120.At, a2⟩ : api_Token)]) (by_ := 24) hF147.sub (i := 0) rfl q123 ((hS135.lown).gnews (j := 0) rfl q136) rfl rfl (by kernel_rfl) (by omega) (by omega)) (Zle.refl _) (.keep (hF147.neB 1 rfl blk_mem) (.keep (hF147.neB 1 rfl blk_mem) .nil)) ?_
 rintro v141 c142 h143 ⟨q145, hS144⟩
 replace hS144 : St _ _ _ _ _ _ [.gs v141 c142 (csz api_Token), .gs v133 [V a1, V x120.At, V a2] (csz api_Token), .blk b1 (K52 v122 v5 x120)] := hS144
 refine yq 2 [(63, Pt b1 7), (61, v141), (0, Pt b1 0), (2, V a2)] ?_
 have hF150 : St _ _ _ _ _ _ ([.blk b1 (K52 v122 v5 x120)] ++ [.gs v141 c142 (csz api_Token), .gs v133 [V a1, V x120.At, V a2] (csz api_Token)]) := (hS144.front 2 rfl)
 refine e_mk1 rfl trivial hF150 (o_stb (vs := [v141]) (cells' := (K52 v122 v141 x120)) (L' := [.blk b1 (K52 v122 v141 x120)]) hF150.sub (i := 0) rfl rfl rfl (hS144.gcell1 (i := 0) rfl) (by kernel_rfl) (one_cons (hS144.gone1 (i := 0) rfl) one_nil) rfl rfl rfl) (Zle.refl _) (.drop (by decide) (.drop (by decide) .nil)) ?_
 intro h148 hS149
 refine yf [(0, Pt b1 0), (2, V a2)] ?_
 have hS151 := hS149.unres
 refine rg r18_5 ?_
 refine xq 4 [(67, Pt b1 1), (65, V a2)] ?_
 refine r_ex1 rfl trivial (o_stb (vs := [V a2]) (cells' := [v122, V a2, V x120.Row, V x120.Open, V x120.Base, .bool x120.Only, V x120.Text, v141]) (L' := [.blk b1 [v122, V a2, V x120.Row, V x120.Open, V x120.Base, .bool x120.Only, V x120.Text, v141], .gs v141 c142 (csz api_Token), .gs v133 [V a1, V x120.At, V a2] (csz api_Token)]) hS151 (i := 0) rfl rfl rfl rfl (by kernel_rfl) rfl rfl rfl rfl) ?_
 intro h152 hS153
 refine xf [] ?_
 obtain rfl := si hm
 refine ⟨_, _, _, ResL.nil, (hS153.takeN 2), ?_⟩
 exact ⟨v122, v141, c142, rfl, rfl, q121, q145⟩
 refine sr r18_2 ?_
 refine xq 1 [(31, V a1), (0, Pt b1 0), (1, V a1), (2, V a2)] ?_
 rcases ifs ho111 with ⟨hp113, ho111⟩ | ⟨hp113, ho111⟩
 refine r_step rfl trivial (o_cmp rfl rfl (c_neq_F hp113)) ?_
 refine xe 12 [(44, .bool false), (0, Pt b1 0), (1, V a1), (2, V a2)] ?_
 refine kF 44 rfl ?_
 obtain rfl := si ho111
 exact ⟨_, x98, v100, c102, rfl, q99, q101, rfl, hS104⟩
 refine r_step rfl trivial (o_cmp rfl rfl (c_neq_T hp113)) ?_
 refine xq 2 [(34, V a1), (33, .bool true), (0, Pt b1 0), (1, V a1), (2, V a2)] ?_
 rcases ifs ho111 with ⟨hp114, ho111⟩ | ⟨hp114, ho111⟩
 refine r_step rfl rfl (o_cmp rfl rfl (c_neq_F hp114)) ?_
 refine xe 9 [(44, .bool false), (0, Pt b1 0), (1, V a1), (2, V a2)] ?_
 refine kF 44 rfl ?_
 obtain rfl := si ho111
 exact ⟨_, x98, v100, c102, rfl, q99, q101, rfl, hS104⟩
 refine r_step rfl rfl (o_cmp rfl rfl (c_neq_T hp114)) ?_
 refine xq 3 [(38, V a1), (37, .bool true), (0, Pt b1 0), (1, V a1), (2, V a2)] ?_
 rcases ifs ho111 with ⟨hp115, ho111⟩ | ⟨hp115, ho111⟩
 refine r_step rfl rfl (o_cmp rfl rfl (c_neq_F hp115)) ?_
 refine xe 5 [(44, .bool false), (0, Pt b1 0), (1, V a1), (2, V a2)] ?_
 refine kF 44 rfl ?_
 obtain rfl := si ho111
 exact ⟨_, x98, v100, c102, rfl, q99, q101, rfl, hS104⟩
 refine r_step rfl rfl (o_cmp rfl rfl (c_neq_T hp115)) ?_
 refine xq 3 [(42, V a1), (41, .bool true), (0, Pt b1 0), (1, V a1), (2, V a2)] ?_
 rcases ifs ho111 with ⟨hp116, ho111⟩ | ⟨hp116, ho111⟩
 refine r_step rfl rfl (o_cmp rfl rfl (c_neq_F hp116)) ?_
 refine xe 1 [(44, .bool false), (0, Pt b1 0), (1, V a1), (2, V a2)] ?_
 refine kF 44 rfl ?_
 obtain rfl := si ho111
 exact ⟨_, x98, v100, c102, rfl, q99, q101, rfl, hS104⟩
 refine r_step rfl rfl (o_cmp rfl rfl (c_neq_T hp116)) ?_
 refine xe 1 [(44, .bool true), (0, Pt b1 0), (1, V a1), (2, V a2)] ?_
 refine cT 44 rfl ?_
 refine rg r18_3 ?_
 refine xq 3 [(47, Pt b1 5), (0, Pt b1 0), (1, V a1), (2, V a2)] ?_
 refine r_ex1 rfl trivial (o_stb (vs := [.bool false]) (cells' := [v100, V x98.At, V x98.Row, V x98.Open, V x98.Base, .bool false, V x98.Text, v5]) (L' := [.blk b1 [v100, V x98.At, V x98.Row, V x98.Open, V x98.Base, .bool false, V x98.Text, v5], .gs v5 c102 (csz api_Token)]) hS104 (i := 0) rfl rfl rfl rfl (by kernel_rfl) rfl rfl rfl rfl) ?_
 intro h117 hS118
 refine xf [(0, Pt b1 0), (1, V a1), (2, V a2)] ?_
 obtain rfl := si ho111
 exact ⟨_, (⟨x98.B, x98.At, x98.Row, x98.Open, x98.Base, false, x98.Text, x98.L⟩ : correctorref6_scanner), v100, c102, rfl, q99, q101, rfl, hS118⟩
 refine sq ?_
 obtain ⟨o70, ho69, ho47⟩ := obind ho47
 refine W_join [0, 1, 2, 18] (fun l h => ∃ Z81 : Zn, ∃ x82 : Bool, x82 = o70 ∧ l = [(0, Pt b1 0), (1, V a1), (2, V a2), (18, .bool x82)] ∧ St hs (idsL [.blk b1 (K52 v3 v5 a0), .gs v5 c6 (csz api_Token)]) Z (0, 0) Z81 h [.blk b1 (K52 v3 v5 a0), .gs v5 c6 (csz api_Token)]) ?_ ?_
 rintro l h83 ⟨Z81, x82, rfl, rfl, hS84⟩
 try dsimp only at ho47
 rcases ifs ho47 with ⟨hp85, ho47⟩ | ⟨hp85, ho47⟩
 refine W_condT (x := .tmp 18) (by kernel_rfl) rfl hp85 ?_
 refine rgF r18_1 hS84 ?_
 intro bs86 h87 hlv89 hS88
 refine yq 4 [(22, Pt b1 1), (19, Pt b1 0), (0, Pt b1 0), (1, V a1), (2, V a2)] ?_
 have lt90 : b1 < bs86 := hlv89.1 _ (List.mem_of_getElem? (i := 0) rfl) _ (by simp [Itm.ids])
 refine e_lookO (v := V a0.At) rfl trivial rfl (by show b1 < _; omega) (same1 (v := V a0.At) trivial) (hS88.ldAt (i := 0) rfl (by kernel_rfl)) trivial ?_
 refine yq 3 [(26, Pt b1 2), (23, V a0.At), (19, Pt b1 0), (0, Pt b1 0), (1, V a1), (2, V a2)] ?_
 have lt91 : b1 < bs86 := hlv89.1 _ (List.mem_of_getElem? (i := 0) rfl) _ (by simp [Itm.ids])
 refine e_lookO (v := V a0.Row) rfl trivial rfl (by show b1 < _; omega) (same1 (v := V a0.Row) trivial) (hS88.ldAt (i := 0) rfl (by kernel_rfl)) trivial ?_
 refine yq 3 [(30, Pt b1 4), (28, V (w64 (a0.At - a0.Row))), (0, Pt b1 0), (1, V a1), (2, V a2)] ?_
 have hF94 : St _ _ _ _ _ _ ([.blk b1 (K52 v3 v5 a0)] ++ [.gs v5 c6 (csz api_Token)]) := (hS88.front 0 rfl)
 refine e_mk1 rfl trivial hF94 (o_stb (vs := [V (w64 (a0.At - a0.Row))]) (cells' := [v3, V a0.At, V a0.Row, V a0.Open, V (w64 (a0.At - a0.Row)), .bool a0.Only, V a0.Text, v5]) (L' := [.blk b1 [v3, V a0.At, V a0.Row, V a0.Open, V (w64 (a0.At - a0.Row)), .bool a0.Only, V a0.Text, v5]]) hF94.sub (i := 0) rfl rfl rfl rfl (by kernel_rfl) rfl rfl rfl rfl) (Zle.refl _) (.drop (by decide) (.drop (by decide) .nil)) ?_
 intro h92 hS93
 refine yf [(0, Pt b1 0), (1, V a1), (2, V a2)] ?_
 have hS95 := hS93.unres
 obtain rfl := si ho47
 exact ⟨_, (⟨a0.B, a0.At, a0.Row, a0.Open, w64 (a0.At - a0.Row), a0.Only, a0.Text, a0.L⟩ : correctorref6_scanner), v3, c6, rfl, (q2.mono hS84.zle), (q4.mono hS84.zle), rfl, hS95⟩
 refine W_condF (x := .tmp 18) (by kernel_rfl) rfl (Bool.eq_false_iff.2 hp85) ?_
 refine sk ?_
 obtain rfl := si ho47
 exact ⟨_, a0, v3, c6, rfl, (q2.mono hS84.zle), (q4.mono hS84.zle), rfl, hS84⟩
 refine rg r18_0 ?_
 refine xq 1 [(6, V a1), (0, Pt b1 0), (1, V a1), (2, V a2)] ?_
 obtain ⟨r71, hx72, ho69⟩ := obind ho69
 obtain ⟨v73, h74, hcl75, hSc76, rfl⟩ := correctorref6_Counts_ok F hS.inv  hx72
 have hS77 := St.call (A := []) (B := [.blk b1 (K52 v3 v5 a0), .gs v5 c6 (csz api_Token)]) hS hSc76
 replace hS77 : St _ _ _ _ _ _ [.blk b1 (K52 v3 v5 a0), .gs v5 c6 (csz api_Token)] := hS77
 refine r_step rfl trivial (o_call hcl75 rfl rfl rfl) ?_
 refine xq 1 [(8, .bool r71), (0, Pt b1 0), (1, V a1), (2, V a2)] ?_
 rcases ifs ho69 with ⟨hp78, ho69⟩ | ⟨hp78, ho69⟩
 refine r_setb (t := 8) rfl hp78 ?_
 refine xq 1 [(9, V a1), (8, .bool true), (0, Pt b1 0), (1, V a1), (2, V a2)] ?_
 rcases ifs ho69 with ⟨hp79, ho69⟩ | ⟨hp79, ho69⟩
 refine r_step rfl rfl (o_cmp rfl rfl (c_neq_F hp79)) ?_
 refine xe 8 [(18, .bool false), (0, Pt b1 0), (1, V a1), (2, V a2)] ?_
 obtain rfl := si ho69
 exact ⟨_, false, rfl, rfl, hS77⟩
 refine r_step rfl rfl (o_cmp rfl rfl (c_neq_T hp79)) ?_
 refine xq 5 [(15, Pt b1 4), (12, .bool true), (0, Pt b1 0), (1, V a1), (2, V a2)] ?_
 refine r_step rfl rfl (o_ldb (v := V a0.Base) hS77 (i := 0) rfl rfl (by kernel_rfl)) ?_
 rcases ifs ho69 with ⟨hp80, ho69⟩ | ⟨hp80, ho69⟩
 refine r_step rfl rfl (o_cmp rfl rfl (c_lss_T hp80)) ?_
 refine xe 1 [(18, .bool true), (0, Pt b1 0), (1, V a1), (2, V a2)] ?_
 obtain rfl := si ho69
 exact ⟨_, true, rfl, rfl, hS77⟩
 refine r_step rfl rfl (o_cmp rfl rfl (c_lss_F hp80)) ?_
 refine xe 1 [(18, .bool false), (0, Pt b1 0), (1, V a1), (2, V a2)] ?_
 obtain rfl := si ho69
 exact ⟨_, false, rfl, rfl, hS77⟩
 refine r_setb (t := 8) rfl (Bool.eq_false_iff.2 hp78) ?_
 refine xe 10 [(18, .bool false), (0, Pt b1 0), (1, V a1), (2, V a2)] ?_
 obtain rfl := si ho69
 exact ⟨_, false, rfl, rfl, hS77⟩

def r34_0 : List COp := [u 4 (.assign (ci 0))]
def r34_1 : List COp := [u 5 (mv 1), u 6 (mv 0), u 7 (nk 6), u 8 (fa 52 7 0), u 9 (ld 24 8), u 10 (cb .len #[(t 9)] #[24]), u 11 (bo .lss 3 5 10 3), u 12 (mv 11), gt 12 13 (mv 0), gt 12 14 (nk 13), gt 12 15 (fa 52 14 0), gt 12 16 (ld 24 15), gt 12 17 (mv 1), gt 12 18 (cf 31 #[(t 16), (t 17)] #[24, 3]), gt 12 19 (bc .eql 3 18 0 3), u 20 (pf 12 19)]
def r34_2 : List COp := [u 21 (mv 1), u 22 (bc .add 3 21 1 3), u 1 (sg 22)]
def r34_3 : List COp := [u 23 (mv 1), u 4 (sg 23)]
def correctorref6_scanner_rowEnd_l0 (F : Nat) (a0 : correctorref6_scanner) (a1 : Int) : Nat → Int → Option Int
 | 0, _ => none
 | n + 1, x71 =>
  if x71 < (a0.B.length : Int) then
   (correctorref2_Break F a0.B x71).bind fun r94 =>
   if r94 = (0 : Int) then
    correctorref6_scanner_rowEnd_l0 F a0 a1 n (w64 (x71 + 1))
   else
    some x71
  else
   some x71
def correctorref6_scanner_rowEnd (F : Nat) (a0 : correctorref6_scanner) (a1 : Int) : Option Int :=
 ((correctorref6_scanner_rowEnd_l0 F a0 a1 F a1) : Option Int).bind fun o => match o with
  | x104 => some x104
theorem correctorref6_scanner_rowEnd_ok (F : Nat) {h : AH} {Z : Zn} {a0 : correctorref6_scanner} {a1 : Int} {b1 : Nat} {v3 : Value} {v5 : Value} {c6 : List Value} (hP : Pre Z h [.blk b1 (K52 v3 v5 a0), .gs v5 c6 (csz api_Token)]) (q2 : RS (α := UInt8) Z v3 a0.B) (q4 : RCs (α := api_Token) Z c6 a0.L) {r : Int} (hm : correctorref6_scanner_rowEnd F a0 a1 = some r) :
  ∃ v h' Z' A', callI Try.prog 34 [Pt b1 0, V a1] h = some (v, h') ∧ St h (idsL [.blk b1 (K52 v3 v5 a0), .gs v5 c6 (csz api_Token)]) Z (0, 0) Z' h' A' ∧ V r = v ∧ A' = [.blk b1 (K52 v3 v5 a0), .gs v5 c6 (csz api_Token)] := by
 refine fn_intro (A := [.blk b1 (K52 v3 v5 a0), .gs v5 c6 (csz api_Token)]) (Q := fun v Z' A' => V r = v ∧ A' = [.blk b1 (K52 v3 v5 a0), .gs v5 c6 (csz api_Token)]) Try.func34 rfl rfl (by kernel_rfl) hP ?_
 intro hs hS
 unfold correctorref6_scanner_rowEnd at hm
 refine sr r34_0 ?_
 refine xe 1 [(0, Pt b1 0), (1, V a1)] ?_
 refine sq ?_
 obtain ⟨o69, ho68, hm⟩ := obind hm
 refine W_join [1] (fun l h => ∃ Z103 : Zn, ∃ x104 : Int, x104 = o69 ∧ l = [(1, V x104)] ∧ St hs (idsL [.blk b1 (K52 v3 v5 a0), .gs v5 c6 (csz api_Token)]) Z (0, 0) Z103 h [.blk b1 (K52 v3 v5 a0), .gs v5 c6 (csz api_Token)]) ?_ ?_
 rintro l h105 ⟨Z103, x104, rfl, rfl, hS106⟩
 try dsimp only at hm
 refine sr r34_3 ?_
 refine xe 2 [(4, V x104)] ?_
 refine rt ?_
 refine ⟨rfl, ?_⟩
 obtain rfl := si hm
 refine ⟨_, _, _, ResL.tmp rfl (ResL.nil), hS106, ?_⟩
 exact ⟨rfl, rfl⟩
 refine bk 0 ?_
 refine lp [0, 1] (fun n l h => ∃ Z70 : Zn, ∃ x71 : Int, correctorref6_scanner_rowEnd_l0 F a0 a1 n x71 = some o69 ∧ l = [(0, Pt b1 0), (1, V x71)] ∧ St hs (idsL [.blk b1 (K52 v3 v5 a0), .gs v5 c6 (csz api_Token)]) Z (0, 0) Z70 h [.blk b1 (K52 v3 v5 a0), .gs v5 c6 (csz api_Token)]) F ⟨_, a1, ho68, rfl, hS⟩ ?_
 rintro n74 l h72 ⟨Z70, x71, ho68, rfl, hS73⟩
 rcases n74 with _ | n74
 cases (show none = some o69 from ho68)
 rw [correctorref6_scanner_rowEnd_l0] at ho68
 refine sq ?_
 refine sr r34_1 ?_
 refine xq 4 [(8, Pt b1 0), (5, V x71), (0, Pt b1 0), (1, V x71)] ?_
 refine r_step rfl trivial (o_ldb (v := v3) hS73 (i := 0) rfl rfl (by kernel_rfl)) ?_
 refine r_step rfl trivial (o_len rfl (RS.len (q2.mono hS73.zle)) ⟨_, Try.underlying24⟩) ?_
 rcases ifs ho68 with ⟨hp93, ho68⟩ | ⟨hp93, ho68⟩
 refine r_step rfl trivial (o_cmp rfl rfl (c_lss_T hp93)) ?_
 refine xq 4 [(15, Pt b1 0), (12, .bool true), (0, Pt b1 0), (1, V x71)] ?_
 refine r_step rfl rfl (o_ldb (v := v3) hS73 (i := 0) rfl rfl (by kernel_rfl)) ?_
 refine xq 1 [(17, V x71), (16, v3), (12, .bool true), (0, Pt b1 0), (1, V x71)] ?_
 obtain ⟨r94, hx95, ho68⟩ := obind ho68
 obtain ⟨v96, h97, hcl98, hSc99, rfl⟩ := correctorref2_Break_ok F hS73.inv (q2.mono hS73.zle) hx95
 have hS100 := St.call (A := []) (B := [.blk b1 (K52 v3 v5 a0), .gs v5 c6 (csz api_Token)]) hS73 hSc99
 replace hS100 : St _ _ _ _ _ _ [.blk b1 (K52 v3 v5 a0), .gs v5 c6 (csz api_Token)] := hS100
 refine r_step rfl rfl (o_call hcl98 rfl rfl rfl) ?_
 rcases ifs ho68 with ⟨hp101, ho68⟩ | ⟨hp101, ho68⟩
 refine r_step rfl rfl (o_cmp rfl rfl (c_eql_T hp101)) ?_
 refine xe 1 [(20, .bool true), (0, Pt b1 0), (1, V x71)] ?_
 refine kT 20 rfl ?_
 refine bk 1 ?_
 refine rg r34_2 ?_
 refine xe 3 [(1, V (w64 (x71 + 1))), (0, Pt b1 0)] ?_
 exact ⟨n74, Nat.lt_succ_self _, ⟨_, w64 (x71 + 1), ho68, rfl, hS100⟩⟩
 refine r_step rfl rfl (o_cmp rfl rfl (c_eql_F hp101)) ?_
 refine xe 1 [(20, .bool false), (0, Pt b1 0), (1, V x71)] ?_
 refine cF 20 rfl ?_
 refine xt 0 ?_
 refine blkX_hit ?_
 obtain rfl := si ho68
 exact ⟨_, x71, rfl, rfl, hS100⟩
 refine r_step rfl trivial (o_cmp rfl rfl (c_lss_F hp93)) ?_
 refine xe 9 [(20, .bool false), (0, Pt b1 0), (1, V x71)] ?_
 refine cF 20 rfl ?_
 refine xt 0 ?_
 refine blkX_hit ?_
 obtain rfl := si ho68
 exact ⟨_, x71, rfl, rfl, hS73⟩

def r32_0 : List COp := [u 6 (mv 0), u 7 (nk 6), u 8 (fa 52 7 6), u 9 (ld 3 8), u 2 (sg 9)]
def r32_1 : List COp := [u 10 (mv 0), u 11 (nk 10), u 12 (fa 52 11 6), o (.store 3 (t 12) (ci (-2)))]
def r32_2 : List COpF := [uP 13 (mv 0), uP 14 (nk 13), uP 15 (fa 52 14 1), uL 16 (ld 3 15), uP 17 (mv 0), uP 18 (nk 17), uP 19 (fa 52 18 0), uL 20 (ld 24 19), uP 21 (cb .len #[(t 20)] #[24]), uP 22 (bo .lss 3 16 21 3), uP 23 (mv 22), gTP 23 24 (mv 0), gTP 23 25 (mv 0), gTP 23 26 (nk 25), gTP 23 27 (fa 52 26 1), gTL 23 28 (ld 3 27), gTF 23 (some 29) (cf 17 #[(t 24), (t 28)] #[50, 3]) .make [3, 7, 15], gTP 23 30 (bc .eql 3 29 0 3), uP 31 (pf 23 30)]
def r32_3 : List COp := [u 32 (mv 0), u 33 (mv 0), u 34 (nk 33), u 35 (fa 52 34 1), u 36 (ld 3 35), u 37 (cf 34 #[(t 32), (t 36)] #[50, 3]), u 3 (sg 37)]
def r32_4 : List COp := [u 38 (mv 0), u 39 (nk 38), u 40 (fa 52 39 1), u 41 (ld 3 40), u 4 (sg 41)]
def r32_5 : List COp := [u 42 (mv 4), u 43 (mv 3), u 44 (bo .lss 3 42 43 3), u 45 (mv 44), gt 45 46 (mv 0), gt 45 47 (nk 46), gt 45 48 (fa 52 47 0), gt 45 49 (ld 24 48), gt 45 50 (mv 4), gt 45 51 (ia 24 49 50), gt 45 52 (ld 5 51), gt 45 53 (.binOp .eql 5 (t 52) (.const (.int .u8 32)) 5), u 54 (pf 45 53)]
def r32_6 : List COp := [u 55 (mv 4), u 56 (bc .add 3 55 1 3), u 4 (sg 56)]
def r32_7 : List COp := [u 57 (mv 4), u 5 (sg 57)]
def r32_8 : List COp := [u 58 (mv 5), u 59 (mv 3), u 60 (bo .lss 3 58 59 3), u 61 (mv 60), gt 61 62 (mv 0), gt 61 63 (nk 62), gt 61 64 (fa 52 63 0), gt 61 65 (ld 24 64), gt 61 66 (mv 5), gt 61 67 (ia 24 65 66), gt 61 68 (ld 5 67), gt 61 69 (cf 33 #[(t 68)] #[5]), u 70 (pf 61 69)]
def r32_9 : List COp := [u 71 (mv 5), u 72 (bc .add 3 71 1 3), u 5 (sg 72)]
def r32_10 : List COp := [u 73 (mv 5), u 74 (mv 3), u 75 (bo .lss 3 73 74 3), u 76 (mv 75), gt 76 77 (mv 4), gt 76 78 (mv 0), gt 76 79 (nk 78), gt 76 80 (fa 52 79 1), gt 76 81 (ld 3 80), gt 76 82 (bo .sub 3 77 81 3), gt 76 83 (mv 2), gt 76 84 (bo .leq 3 82 83 3), u 85 (pf 76 84)]
def r32_11 : List COp := [u 86 (mv 0), u 87 (mv 3), u 88 (mv 0), u 89 (nk 88), u 90 (fa 52 89 0), u 91 (ld 24 90), u 92 (mv 3), u 93 (cf 31 #[(t 91), (t 92)] #[24, 3]), u 94 (bo .add 3 87 93 3), u 95 (cf 18 #[(t 86), (ci 19), (t 94)] #[50, 3, 3])]
def r32_12 : List COp := [u 96 (mv 0), u 97 (cf 16 #[(t 96)] #[50])]
def correctorref6_scanner_texts_l1 (F : Nat) (a0 : correctorref6_scanner) : Nat → correctorref6_scanner → Int → Int → Option (correctorref6_scanner × Int × Int)
 | 0, _, _, _ => none
 | n + 1, x686, x692, x693 =>
  if x693 < x692 then
   if 0 ≤ x693 ∧ x693 < (x686.B.length : Int) then
    (x686.B[x693.toNat]?).bind fun x717 =>
    if (x717.toNat : Int) = (32 : Int) then
     correctorref6_scanner_texts_l1 F a0 n x686 x692 (w64 (x693 + 1))
    else
     some (x686, x692, x693)
   else none
  else
   some (x686, x692, x693)
def correctorref6_scanner_texts_l2 (F : Nat) (a0 : correctorref6_scanner) : Nat → correctorref6_scanner → Int → Int → Int → Option (correctorref6_scanner × Int × Int × Int)
 | 0, _, _, _, _ => none
 | n + 1, x807, x813, x814, x815 =>
  if x815 < x813 then
   if 0 ≤ x815 ∧ x815 < (x807.B.length : Int) then
    (x807.B[x815.toNat]?).bind fun x853 =>
    (correctorref5_Blank F (x853.toNat : Int)).bind fun r859 =>
    if r859 = true then
     correctorref6_scanner_texts_l2 F a0 n x807 x813 x814 (w64 (x815 + 1))
    else
     some (x807, x813, x814, x815)
   else none
  else
   some (x807, x813, x814, x815)
def correctorref6_scanner_texts_l0 (F : Nat) (a0 : correctorref6_scanner) : Nat → correctorref6_scanner → Option (Sum correctorref6_scanner correctorref6_scanner)
 | 0, _ => none
 | n + 1, x549 =>
  if x549.At < (x549.B.length : Int) then
   (correctorref6_scanner_mark F x549 x549.At).bind fun r618 =>
   if r618 = (0 : Int) then
    (correctorref6_scanner_rowEnd F x549 x549.At).bind fun r634 =>
    ((correctorref6_scanner_texts_l1 F a0 F x549 r634 x549.At) : Option (correctorref6_scanner × Int × Int)).bind fun o => match o with
     | (x733, x739, x740) => ((correctorref6_scanner_texts_l2 F a0 F x733 x739 x740 x740) : Option (correctorref6_scanner × Int × Int × Int)).bind fun o => match o with
      | (x878, x884, x885, x886) => ((if x886 < x884 then
        if (w64 (x885 - x878.At)) ≤ a0.Text then
         some (.inr x878)
        else
         some (.inl x878)
       else
        some (.inl x878)) : Option (Sum correctorref6_scanner correctorref6_scanner)).bind fun o => match o with
       | .inl x896 => (correctorref2_Break F x896.B x884).bind fun r904 =>
       (correctorref6_scanner_add F x896 19 (w64 (x884 + r904))).bind fun r911 =>
       (correctorref6_scanner_next F r911).bind fun r927 =>
       correctorref6_scanner_texts_l0 F a0 n r927
       | .inr y => some (.inr y)
   else
    some (.inl x549)
  else
   some (.inl x549)
def correctorref6_scanner_texts (F : Nat) (a0 : correctorref6_scanner) : Option correctorref6_scanner :=
 ((correctorref6_scanner_texts_l0 F a0 F (⟨a0.B, a0.At, a0.Row, a0.Open, a0.Base, a0.Only, (-2), a0.L⟩ : correctorref6_scanner)) : Option (Sum correctorref6_scanner correctorref6_scanner)).bind fun o => match o with
  | .inl x974 => some x974
  | .inr y => some y
theorem correctorref6_scanner_texts_ok (F : Nat) {h : AH} {Z : Zn} {a0 : correctorref6_scanner} {b1 : Nat} {v3 : Value} {v5 : Value} {c6 : List Value} (hP : Pre Z h [.blk b1 (K52 v3 v5 a0), .gs v5 c6 (csz api_Token)]) (q2 : RS (α := UInt8) Z v3 a0.B) (q4 : RCs (α := api_Token) Z c6 a0.L) {r : correctorref6_scanner} (hm : correctorref6_scanner_texts F a0 = some r) :
  ∃ v h' Z' A', callI Try.prog 32 [Pt b1 0] h = some (v, h') ∧ St h (idsL [.blk b1 (K52 v3 v5 a0), .gs v5 c6 (csz api_Token)]) Z (0, 0) Z' h' A' ∧ ∃ v8 : Value, ∃ v10 : Value, ∃ c11 : List Value, .tuple #[] = v ∧ A' = [.blk b1 (K52 v8 v10 r), .gs v10 c11 (csz api_Token)] ∧ RS (α := UInt8) Z' v8 r.B ∧ RCs (α := api_Token) Z' c11 r.L := by
 refine fn_intro (A := [.blk b1 (K52 v3 v5 a0), .gs v5 c6 (csz api_Token)]) (Q := fun v Z' A' => ∃ v8 : Value, ∃ v10 : Value, ∃ c11 : List Value, .tuple #[] = v ∧ A' = [.blk b1 (K52 v8 v10 r), .gs v10 c11 (csz api_Token)] ∧ RS (α := UInt8) Z' v8 r.B ∧ RCs (α := api_Token) Z' c11 r.L) Try.func32 rfl rfl (by kernel_rfl) hP ?_
 intro hs hS
 unfold correctorref6_scanner_texts at hm
 refine sr r32_0 ?_
 refine xq 3 [(8, Pt b1 6), (0, Pt b1 0)] ?_
 refine r_step rfl trivial (o_ldb (v := V a0.Text) hS (i := 0) rfl rfl (by kernel_rfl)) ?_
 refine xe 1 [(2, V a0.Text), (0, Pt b1 0)] ?_
 refine sr r32_1 ?_
 refine xq 3 [(12, Pt b1 6), (2, V a0.Text), (0, Pt b1 0)] ?_
 refine r_ex1 rfl trivial (o_stb (vs := [V (-2)]) (cells' := [v3, V a0.At, V a0.Row, V a0.Open, V a0.Base, .bool a0.Only, V (-2), v5]) (L' := [.blk b1 [v3, V a0.At, V a0.Row, V a0.Open, V a0.Base, .bool a0.Only, V (-2), v5], .gs v5 c6 (csz api_Token)]) hS (i := 0) rfl rfl rfl rfl (by kernel_rfl) rfl rfl rfl rfl) ?_
 intro h12 hS13
 refine xf [(2, V a0.Text), (0, Pt b1 0)] ?_
 obtain ⟨o547, ho546, hm⟩ := obind hm
 refine W_join [] (fun l h => ∃ Z973 : Zn, ∃ x974 : correctorref6_scanner, ∃ v976 : Value, ∃ v978 : Value, ∃ c979 : List Value, .inl x974 = o547 ∧ RS (α := UInt8) Z973 v976 x974.B ∧ RCs (α := api_Token) Z973 c979 x974.L ∧ l = [] ∧ St hs (idsL [.blk b1 (K52 v3 v5 a0), .gs v5 c6 (csz api_Token)]) Z (0, 0) Z973 h [.blk b1 (K52 v976 v978 x974), .gs v978 c979 (csz api_Token)]) ?_ ?_
 rintro l h980 ⟨Z973, x974, v976, v978, c979, rfl, q975, q977, rfl, hS981⟩
 try dsimp only at hm
 obtain rfl := si hm
 refine ⟨_, _, _, ResL.nil, hS981, ?_⟩
 exact ⟨v976, v978, c979, rfl, rfl, q975, q977⟩
 refine bk 0 ?_
 refine lp [0, 2] (fun n l h => ∃ Z548 : Zn, ∃ x549 : correctorref6_scanner, ∃ v551 : Value, ∃ v553 : Value, ∃ c554 : List Value, correctorref6_scanner_texts_l0 F a0 n x549 = some o547 ∧ RS (α := UInt8) Z548 v551 x549.B ∧ RCs (α := api_Token) Z548 c554 x549.L ∧ l = [(0, Pt b1 0), (2, V a0.Text)] ∧ St hs (idsL [.blk b1 (K52 v3 v5 a0), .gs v5 c6 (csz api_Token)]) Z (0, 0) Z548 h [.blk b1 (K52 v551 v553 x549), .gs v553 c554 (csz api_Token)]) F ⟨_, (⟨a0.B, a0.At, a0.Row, a0.Open, a0.Base, a0.Only, (-2), a0.L⟩ : correctorref6_scanner), v3, v5, c6, ho546, q2, q4, rfl, hS13⟩ ?_
 rintro n557 l h555 ⟨Z548, x549, v551, v553, c554, ho546, q550, q552, rfl, hS556⟩
 rcases n557 with _ | n557
 cases (show none = some o547 from ho546)
 rw [correctorref6_scanner_texts_l0] at ho546
 refine sq ?_
 refine srF r32_2 hS556 ?_
 intro bs610 h611 hlv613 hS612
 refine yq 3 [(15, Pt b1 1), (0, Pt b1 0), (2, V a0.Text)] ?_
 have lt614 : b1 < bs610 := hlv613.1 _ (List.mem_of_getElem? (i := 0) rfl) _ (by simp [Itm.ids])
 refine e_lookO (v := V x549.At) rfl trivial rfl (by show b1 < _; omega) (same1 (v := V x549.At) trivial) (hS612.ldAt (i := 0) rfl (by kernel_rfl)) trivial ?_
 refine yq 3 [(19, Pt b1 0), (16, V x549.At), (0, Pt b1 0), (2, V a0.Text)] ?_
 have lt615 : b1 < bs610 := hlv613.1 _ (List.mem_of_getElem? (i := 0) rfl) _ (by simp [Itm.ids])
 refine e_lookO (v := v551) rfl trivial rfl (by show b1 < _; omega) (same1 (v := v551) (RS.sim1 q550)) (hS612.ldAt (i := 0) rfl (by kernel_rfl)) trivial ?_
 refine e_val rfl trivial (o_len rfl (RS.len q550) ⟨_, Try.underlying24⟩) ?_
 rcases ifs ho546 with ⟨hp616, ho546⟩ | ⟨hp616, ho546⟩
 refine e_val rfl trivial (o_cmp rfl rfl (c_lss_T hp616)) ?_
 refine yq 5 [(27, Pt b1 1), (24, Pt b1 0), (23, .bool true), (0, Pt b1 0), (2, V a0.Text)] ?_
 have lt617 : b1 < bs610 := hlv613.1 _ (List.mem_of_getElem? (i := 0) rfl) _ (by simp [Itm.ids])
 refine e_lookO (v := V x549.At) rfl rfl rfl (by show b1 < _; omega) (same1 (v := V x549.At) trivial) (hS612.ldAt (i := 0) rfl (by kernel_rfl)) trivial ?_
 obtain ⟨r618, hx619, ho546⟩ := obind ho546
 have hF626 : St _ _ _ _ _ _ ([.blk b1 (K52 v551 v553 x549), .gs v553 c554 (csz api_Token)] ++ []) := ((hS612.front 1 rfl).front 1 rfl)
 obtain ⟨v620, h621, Z627, A629, hcl622, hSc623, rfl, rfl⟩ := correctorref6_scanner_mark_ok F hF626.lown.preL q550 q552 hx619
 have hZ628 := hSc623.zle
 refine e_make rfl rfl hF626 (o_call hcl622 rfl rfl rfl) hSc623 hZ628 (.drop (by decide) (.drop (by decide) (.drop (by decide) .nil))) ?_
 intro h630 hS631
 replace hS631 : St _ _ _ _ _ _ [.blk b1 (K52 v551 v553 x549), .gs v553 c554 (csz api_Token)] := hS631
 rcases ifs ho546 with ⟨hp632, ho546⟩ | ⟨hp632, ho546⟩
 refine e_val rfl rfl (o_cmp rfl rfl (c_eql_T hp632)) ?_
 refine ye 1 [(31, .bool true), (0, Pt b1 0), (2, V a0.Text)] ?_
 have hS633 := hS631.unres
 refine kT 31 rfl ?_
 refine bk 1 ?_
 refine sr r32_3 ?_
 refine xq 4 [(35, Pt b1 1), (32, Pt b1 0), (0, Pt b1 0), (2, V a0.Text)] ?_
 refine r_step rfl trivial (o_ldb (v := V x549.At) hS633 (i := 0) rfl rfl (by kernel_rfl)) ?_
 obtain ⟨r634, hx635, ho546⟩ := obind ho546
 have hF641 : St _ _ _ _ _ _ ([.blk b1 (K52 v551 v553 x549), .gs v553 c554 (csz api_Token)] ++ []) := ((hS633.front 1 rfl).front 1 rfl)
 obtain ⟨v636, h637, Z642, A644, hcl638, hSc639, rfl, rfl⟩ := correctorref6_scanner_rowEnd_ok F hF641.preL (q550.mono hZ628) (q552.mono hZ628) hx635
 have hZ643 := hSc639.zle
 have hS640 := hF641.call hSc639
 replace hS640 : St _ _ _ _ _ _ [.blk b1 (K52 v551 v553 x549), .gs v553 c554 (csz api_Token)] := hS640
 refine r_step rfl trivial (o_call hcl638 rfl rfl rfl) ?_
 refine xe 1 [(3, V r634), (0, Pt b1 0), (2, V a0.Text)] ?_
 refine sr r32_4 ?_
 refine xq 3 [(40, Pt b1 1), (3, V r634), (0, Pt b1 0), (2, V a0.Text)] ?_
 refine r_step rfl trivial (o_ldb (v := V x549.At) hS640 (i := 0) rfl rfl (by kernel_rfl)) ?_
 refine xe 1 [(4, V x549.At), (3, V r634), (0, Pt b1 0), (2, V a0.Text)] ?_
 refine sq ?_
 obtain ⟨o684, ho683, ho546⟩ := obind ho546
 refine W_join [0, 2, 3, 4] (fun l h => ∃ Z732 : Zn, ∃ x733 : correctorref6_scanner, ∃ x739 : Int, ∃ x740 : Int, ∃ v735 : Value, ∃ v737 : Value, ∃ c738 : List Value, (x733, x739, x740) = o684 ∧ RS (α := UInt8) Z732 v735 x733.B ∧ RCs (α := api_Token) Z732 c738 x733.L ∧ l = [(0, Pt b1 0), (2, V a0.Text), (3, V x739), (4, V x740)] ∧ St hs (idsL [.blk b1 (K52 v3 v5 a0), .gs v5 c6 (csz api_Token)]) Z (0, 0) Z732 h [.blk b1 (K52 v735 v737 x733), .gs v737 c738 (csz api_Token)]) ?_ ?_
 rintro l h741 ⟨Z732, x733, x739, x740, v735, v737, c738, rfl, q734, q736, rfl, hS742⟩
 try dsimp only at ho546
 refine sr r32_7 ?_
 refine xe 2 [(5, V x740), (0, Pt b1 0), (2, V a0.Text), (3, V x739), (4, V x740)] ?_
 refine sq ?_
 obtain ⟨o805, ho804, ho546⟩ := obind ho546
 refine W_join [0, 2, 3, 4, 5] (fun l h => ∃ Z877 : Zn, ∃ x878 : correctorref6_scanner, ∃ x884 : Int, ∃ x885 : Int, ∃ x886 : Int, ∃ v880 : Value, ∃ v882 : Value, ∃ c883 : List Value, (x878, x884, x885, x886) = o805 ∧ RS (α := UInt8) Z877 v880 x878.B ∧ RCs (α := api_Token) Z877 c883 x878.L ∧ l = [(0, Pt b1 0), (2, V a0.Text), (3, V x884), (4, V x885), (5, V x886)] ∧ St hs (idsL [.blk b1 (K52 v3 v5 a0), .gs v5 c6 (csz api_Token)]) Z (0, 0) Z877 h [.blk b1 (K52 v880 v882 x878), .gs v882 c883 (csz api_Token)]) ?_ ?_
 rintro l h887 ⟨Z877, x878, x884, x885, x886, v880, v882, c883, rfl, q879, q881, rfl, hS888⟩
 try dsimp only at ho546
 refine sq ?_
 obtain ⟨o892, ho891, ho546⟩ := obind ho546
 refine W_join [0, 2, 3] (fun l h => ∃ Z895 : Zn, ∃ x896 : correctorref6_scanner, ∃ v898 : Value, ∃ v900 : Value, ∃ c901 : List Value, .inl x896 = o892 ∧ RS (α := UInt8) Z895 v898 x896.B ∧ RCs (α := api_Token) Z895 c901 x896.L ∧ l = [(0, Pt b1 0), (2, V a0.Text), (3, V x884)] ∧ St hs (idsL [.blk b1 (K52 v3 v5 a0), .gs v5 c6 (csz api_Token)]) Z (0, 0) Z895 h [.blk b1 (K52 v898 v900 x896), .gs v900 c901 (csz api_Token)]) ?_ ?_
 rintro l h902 ⟨Z895, x896, v898, v900, c901, rfl, q897, q899, rfl, hS903⟩
 try dsimp only at ho546
 refine sr r32_11 ?_
 refine xq 5 [(90, Pt b1 0), (87, V x884), (86, Pt b1 0), (0, Pt b1 0), (2, V a0.Text), (3, V x884)] ?_
 refine r_step rfl trivial (o_ldb (v := v898) hS903 (i := 0) rfl rfl (by kernel_rfl)) ?_
 refine xq 1 [(92, V x884), (91, v898), (87, V x884), (86, Pt b1 0), (0, Pt b1 0), (2, V a0.Text)] ?_
 obtain ⟨r904, hx905, ho546⟩ := obind ho546
 obtain ⟨v906, h907, hcl908, hSc909, rfl⟩ := correctorref2_Break_ok F hS903.inv q897 hx905
 have hS910 := St.call (A := []) (B := [.blk b1 (K52 v898 v900 x896), .gs v900 c901 (csz api_Token)]) hS903 hSc909
 replace hS910 : St _ _ _ _ _ _ [.blk b1 (K52 v898 v900 x896), .gs v900 c901 (csz api_Token)] := hS910
 refine r_step rfl trivial (o_call hcl908 rfl rfl rfl) ?_
 refine xq 1 [(94, V (w64 (x884 + r904))), (86, Pt b1 0), (0, Pt b1 0), (2, V a0.Text)] ?_
 obtain ⟨r911, hx912, ho546⟩ := obind ho546
 have hF918 : St _ _ _ _ _ _ ([.blk b1 (K52 v898 v900 x896), .gs v900 c901 (csz api_Token)] ++ []) := ((hS910.front 1 rfl).front 1 rfl)
 obtain ⟨v913, h914, Z919, A921, hcl915, hSc916, v923, v925, c926, rfl, rfl, q922, q924⟩ := correctorref6_scanner_add_ok F hF918.preL q897 q899 hx912
 have hZ920 := hSc916.zle
 have hS917 := hF918.call hSc916
 replace hS917 : St _ _ _ _ _ _ [.blk b1 (K52 v923 v925 r911), .gs v925 c926 (csz api_Token)] := hS917
 refine r_step rfl trivial (o_call hcl915 rfl rfl rfl) ?_
 refine xf [(0, Pt b1 0), (2, V a0.Text)] ?_
 refine rg r32_12 ?_
 refine xq 1 [(96, Pt b1 0), (0, Pt b1 0), (2, V a0.Text)] ?_
 obtain ⟨r927, hx928, ho546⟩ := obind ho546
 have hF934 : St _ _ _ _ _ _ ([.blk b1 (K52 v923 v925 r911), .gs v925 c926 (csz api_Token)] ++ []) := ((hS917.front 1 rfl).front 1 rfl)
 obtain ⟨v929, h930, Z935, A937, hcl931, hSc932, v939, c941, rfl, rfl, q938, q940⟩ := correctorref6_scanner_next_ok F hF934.preL q922 q924 hx928
 have hZ936 := hSc932.zle
 have hS933 := hF934.call hSc932
 replace hS933 : St _ _ _ _ _ _ [.blk b1 (K52 v939 v925 r927), .gs v925 c941 (csz api_Token)] := hS933
 refine r_step rfl trivial (o_call hcl931 rfl rfl rfl) ?_
 refine xf [(0, Pt b1 0), (2, V a0.Text)] ?_
 exact ⟨n557, Nat.lt_succ_self _, ⟨_, r927, v939, v925, c941, ho546, q938, q940, rfl, hS933⟩⟩
 refine sr r32_10 ?_
 refine xq 2 [(74, V x884), (73, V x886), (0, Pt b1 0), (2, V a0.Text), (3, V x884), (4, V x885)] ?_
 rcases ifs ho891 with ⟨hp893, ho891⟩ | ⟨hp893, ho891⟩
 refine r_step rfl trivial (o_cmp rfl rfl (c_lss_T hp893)) ?_
 refine xq 5 [(80, Pt b1 1), (77, V x885), (76, .bool true), (0, Pt b1 0), (2, V a0.Text), (3, V x884)] ?_
 refine r_step rfl rfl (o_ldb (v := V x878.At) hS888 (i := 0) rfl rfl (by kernel_rfl)) ?_
 refine xq 2 [(83, V a0.Text), (82, V (w64 (x885 - x878.At))), (76, .bool true), (0, Pt b1 0), (2, V a0.Text), (3, V x884)] ?_
 rcases ifs ho891 with ⟨hp894, ho891⟩ | ⟨hp894, ho891⟩
 refine r_step rfl rfl (o_cmp rfl rfl (c_leq_T hp894)) ?_
 refine xe 1 [(85, .bool true), (0, Pt b1 0), (2, V a0.Text), (3, V x884)] ?_
 refine cT 85 rfl ?_
 refine rt ?_
 refine blkX_ret ?_
 refine blkX_ret ?_
 refine ⟨rfl, ?_⟩
 obtain rfl := si ho891
 obtain rfl := si ho546
 obtain rfl := si hm
 refine ⟨_, _, _, ResL.nil, hS888, ?_⟩
 exact ⟨v880, v882, c883, rfl, rfl, q879, q881⟩
 refine r_step rfl rfl (o_cmp rfl rfl (c_leq_F hp894)) ?_
 refine xe 1 [(85, .bool false), (0, Pt b1 0), (2, V a0.Text), (3, V x884)] ?_
 refine kF 85 rfl ?_
 obtain rfl := si ho891
 exact ⟨_, x878, v880, v882, c883, rfl, q879, q881, rfl, hS888⟩
 refine r_step rfl trivial (o_cmp rfl rfl (c_lss_F hp893)) ?_
 refine xe 10 [(85, .bool false), (0, Pt b1 0), (2, V a0.Text), (3, V x884)] ?_
 refine kF 85 rfl ?_
 obtain rfl := si ho891
 exact ⟨_, x878, v880, v882, c883, rfl, q879, q881, rfl, hS888⟩
 refine bk 4 ?_
 refine lp [0, 2, 3, 4, 5] (fun n l h => ∃ Z806 : Zn, ∃ x807 : correctorref6_scanner, ∃ x813 : Int, ∃ x814 : Int, ∃ x815 : Int, ∃ v809 : Value, ∃ v811 : Value, ∃ c812 : List Value, correctorref6_scanner_texts_l2 F a0 n x807 x813 x814 x815 = some o805 ∧ RS (α := UInt8) Z806 v809 x807.B ∧ RCs (α := api_Token) Z806 c812 x807.L ∧ l = [(0, Pt b1 0), (2, V a0.Text), (3, V x813), (4, V x814), (5, V x815)] ∧ St hs (idsL [.blk b1 (K52 v3 v5 a0), .gs v5 c6 (csz api_Token)]) Z (0, 0) Z806 h [.blk b1 (K52 v809 v811 x807), .gs v811 c812 (csz api_Token)]) F ⟨_, x733, x739, x740, x740, v735, v737, c738, ho804, q734, q736, rfl, hS742⟩ ?_
 rintro n818 l h816 ⟨Z806, x807, x813, x814, x815, v809, v811, c812, ho804, q808, q810, rfl, hS817⟩
 rcases n818 with _ | n818
 cases (show none = some o805 from ho804)
 rw [correctorref6_scanner_texts_l2] at ho804
 refine sq ?_
 refine sr r32_8 ?_
 refine xq 2 [(59, V x813), (58, V x815), (0, Pt b1 0), (2, V a0.Text), (3, V x813), (4, V x814), (5, V x815)] ?_
 rcases ifs ho804 with ⟨hp851, ho804⟩ | ⟨hp851, ho804⟩
 refine r_step rfl trivial (o_cmp rfl rfl (c_lss_T hp851)) ?_
 refine xq 4 [(64, Pt b1 0), (61, .bool true), (0, Pt b1 0), (2, V a0.Text), (3, V x813), (4, V x814), (5, V x815)] ?_
 refine r_step rfl rfl (o_ldb (v := v809) hS817 (i := 0) rfl rfl (by kernel_rfl)) ?_
 refine xq 1 [(66, V x815), (65, v809), (61, .bool true), (0, Pt b1 0), (2, V a0.Text), (3, V x813), (4, V x814), (5, V x815)] ?_
 obtain ⟨hc852, ho804⟩ := chk ho804
 refine r_step rfl rfl (o_index rfl rfl (by kernel_rfl : slTy _ _ = some (csz UInt8)) (RS.based q808 (by omega)) hc852.1 hc852.2) ?_
 obtain ⟨x853, hx854, ho804⟩ := obind ho804
 obtain ⟨cs855, hc856, he857⟩ := RS.elz q808 (i := x815) hx854
 obtain rfl := rc_UInt8 hc856
 refine r_step rfl rfl (o_lde (w := .int .u8 (x853.toNat : Int)) (he857 _ (hS817.zin0 (Zle.refl _))) rfl (by kernel_rfl)) ?_
 obtain ⟨r859, hx860, ho804⟩ := obind ho804
 obtain ⟨v861, h862, hcl863, hSc864, rfl⟩ := correctorref5_Blank_ok F hS817.inv  hx860
 have hS865 := St.call (A := []) (B := [.blk b1 (K52 v809 v811 x807), .gs v811 c812 (csz api_Token)]) hS817 hSc864
 replace hS865 : St _ _ _ _ _ _ [.blk b1 (K52 v809 v811 x807), .gs v811 c812 (csz api_Token)] := hS865
 refine r_step rfl rfl (o_call hcl863 rfl rfl rfl) ?_
 refine xe 1 [(70, .bool r859), (0, Pt b1 0), (2, V a0.Text), (3, V x813), (4, V x814), (5, V x815)] ?_
 rcases ifs ho804 with ⟨hp867, ho804⟩ | ⟨hp867, ho804⟩
 refine W_condT (x := .tmp 70) (by kernel_rfl) rfl hp867 ?_
 refine sk ?_
 refine bk 5 ?_
 refine rg r32_9 ?_
 refine xe 3 [(5, V (w64 (x815 + 1))), (0, Pt b1 0), (2, V a0.Text), (3, V x813), (4, V x814)] ?_
 exact ⟨n818, Nat.lt_succ_self _, ⟨_, x807, x813, x814, w64 (x815 + 1), v809, v811, c812, ho804, q808, q810, rfl, hS865⟩⟩
 refine W_condF (x := .tmp 70) (by kernel_rfl) rfl (Bool.eq_false_iff.2 hp867) ?_
 refine xt 4 ?_
 refine blkX_hit ?_
 obtain rfl := si ho804
 exact ⟨_, x807, x813, x814, x815, v809, v811, c812, rfl, q808, q810, rfl, hS865⟩
 refine r_step rfl trivial (o_cmp rfl rfl (c_lss_F hp851)) ?_
 refine xe 10 [(70, .bool false), (0, Pt b1 0), (2, V a0.Text), (3, V x813), (4, V x814), (5, V x815)] ?_
 refine cF 70 rfl ?_
 refine xt 4 ?_
 refine blkX_hit ?_
 obtain rfl := si ho804
 exact ⟨_, x807, x813, x814, x815, v809, v811, c812, rfl, q808, q810, rfl, hS817⟩
 refine bk 2 ?_
 refine lp [0, 2, 3, 4] (fun n l h => ∃ Z685 : Zn, ∃ x686 : correctorref6_scanner, ∃ x692 : Int, ∃ x693 : Int, ∃ v688 : Value, ∃ v690 : Value, ∃ c691 : List Value, correctorref6_scanner_texts_l1 F a0 n x686 x692 x693 = some o684 ∧ RS (α := UInt8) Z685 v688 x686.B ∧ RCs (α := api_Token) Z685 c691 x686.L ∧ l = [(0, Pt b1 0), (2, V a0.Text), (3, V x692), (4, V x693)] ∧ St hs (idsL [.blk b1 (K52 v3 v5 a0), .gs v5 c6 (csz api_Token)]) Z (0, 0) Z685 h [.blk b1 (K52 v688 v690 x686), .gs v690 c691 (csz api_Token)]) F ⟨_, x549, r634, x549.At, v551, v553, c554, ho683, (q550.mono (hZ628.trans hZ643)), (q552.mono (hZ628.trans hZ643)), rfl, hS640⟩ ?_
 rintro n696 l h694 ⟨Z685, x686, x692, x693, v688, v690, c691, ho683, q687, q689, rfl, hS695⟩
 rcases n696 with _ | n696
 cases (show none = some o684 from ho683)
 rw [correctorref6_scanner_texts_l1] at ho683
 refine sq ?_
 refine sr r32_5 ?_
 refine xq 2 [(43, V x692), (42, V x693), (0, Pt b1 0), (2, V a0.Text), (3, V x692), (4, V x693)] ?_
 rcases ifs ho683 with ⟨hp715, ho683⟩ | ⟨hp715, ho683⟩
 refine r_step rfl trivial (o_cmp rfl rfl (c_lss_T hp715)) ?_
 refine xq 4 [(48, Pt b1 0), (45, .bool true), (0, Pt b1 0), (2, V a0.Text), (3, V x692), (4, V x693)] ?_
 refine r_step rfl rfl (o_ldb (v := v688) hS695 (i := 0) rfl rfl (by kernel_rfl)) ?_
 refine xq 1 [(50, V x693), (49, v688), (45, .bool true), (0, Pt b1 0), (2, V a0.Text), (3, V x692), (4, V x693)] ?_
 obtain ⟨hc716, ho683⟩ := chk ho683
 refine r_step rfl rfl (o_index rfl rfl (by kernel_rfl : slTy _ _ = some (csz UInt8)) (RS.based q687 (by omega)) hc716.1 hc716.2) ?_
 obtain ⟨x717, hx718, ho683⟩ := obind ho683
 obtain ⟨cs719, hc720, he721⟩ := RS.elz q687 (i := x693) hx718
 obtain rfl := rc_UInt8 hc720
 refine r_step rfl rfl (o_lde (w := .int .u8 (x717.toNat : Int)) (he721 _ (hS695.zin0 (Zle.refl _))) rfl (by kernel_rfl)) ?_
 rcases ifs ho683 with ⟨hp723, ho683⟩ | ⟨hp723, ho683⟩
 refine r_step rfl rfl (o_cmp rfl rfl (c_eql_T hp723)) ?_
 refine xe 1 [(54, .bool true), (0, Pt b1 0), (2, V a0.Text), (3, V x692), (4, V x693)] ?_
 refine kT 54 rfl ?_
 refine bk 3 ?_
 refine rg r32_6 ?_
 refine xe 3 [(4, V (w64 (x693 + 1))), (0, Pt b1 0), (2, V a0.Text), (3, V x692)] ?_
 exact ⟨n696, Nat.lt_succ_self _, ⟨_, x686, x692, w64 (x693 + 1), v688, v690, c691, ho683, q687, q689, rfl, hS695⟩⟩
 refine r_step rfl rfl (o_cmp rfl rfl (c_eql_F hp723)) ?_
 refine xe 1 [(54, .bool false), (0, Pt b1 0), (2, V a0.Text), (3, V x692), (4, V x693)] ?_
 refine cF 54 rfl ?_
 refine xt 2 ?_
 refine blkX_hit ?_
 obtain rfl := si ho683
 exact ⟨_, x686, x692, x693, v688, v690, c691, rfl, q687, q689, rfl, hS695⟩
 refine r_step rfl trivial (o_cmp rfl rfl (c_lss_F hp715)) ?_
 refine xe 10 [(54, .bool false), (0, Pt b1 0), (2, V a0.Text), (3, V x692), (4, V x693)] ?_
 refine cF 54 rfl ?_
 refine xt 2 ?_
 refine blkX_hit ?_
 obtain rfl := si ho683
 exact ⟨_, x686, x692, x693, v688, v690, c691, rfl, q687, q689, rfl, hS695⟩
 refine e_val rfl rfl (o_cmp rfl rfl (c_eql_F hp632)) ?_
 refine ye 1 [(31, .bool false), (0, Pt b1 0), (2, V a0.Text)] ?_
 have hS965 := hS631.unres
 refine cF 31 rfl ?_
 refine xt 0 ?_
 refine blkX_hit ?_
 obtain rfl := si ho546
 exact ⟨_, x549, v551, v553, c554, rfl, (q550.mono hZ628), (q552.mono hZ628), rfl, hS965⟩
 refine e_val rfl trivial (o_cmp rfl rfl (c_lss_F hp616)) ?_
 refine ye 9 [(31, .bool false), (0, Pt b1 0), (2, V a0.Text)] ?_
 have hS966 := hS612.unres
 refine cF 31 rfl ?_
 refine xt 0 ?_
 refine blkX_hit ?_
 obtain rfl := si ho546
 exact ⟨_, x549, v551, v553, c554, rfl, q550, q552, rfl, hS966⟩

def r19_0 : List COp := [u 2 (.assign (.const (.bool false)))]
def r19_1 : List COpF := [uP 7 (mv 0), uP 8 (nk 7), uP 9 (fa 52 8 0), uL 10 (ld 24 9), uP 11 (mv 0), uP 12 (nk 11), uP 13 (fa 52 12 1), uL 14 (ld 3 13), uP 15 (ia 24 10 14), uL 16 (ld 5 15), uP 3 (sg 16)]
def r19_2 : List COp := [u 17 (mv 0), u 18 (nk 17), u 19 (fa 52 18 1), u 20 (ld 3 19), u 4 (sg 20)]
def r19_3 : List COp := [u 21 (mv 0), u 22 (nk 21), u 23 (fa 52 22 0), u 24 (ld 24 23), u 25 (mv 4), u 26 (cf 31 #[(t 24), (t 25)] #[24, 3]), u 5 (sg 26)]
def r19_4 : List COp := [u 27 (mv 5), u 28 (bc .gtr 3 27 0 3)]
def r19_5 : List COp := [u 29 (mv 0), u 30 (mv 4), u 31 (mv 5), u 32 (bo .add 3 30 31 3), u 33 (cf 18 #[(t 29), (ci 1), (t 32)] #[50, 3, 3])]
def r19_6 : List COp := [u 34 (mv 0), u 35 (nk 34), u 36 (fa 52 35 6), u 37 (ld 3 36), u 6 (sg 37)]
def r19_7 : List COp := [u 38 (mv 0), u 39 (cf 16 #[(t 38)] #[50])]
def r19_8 : List COp := [u 40 (mv 6), u 41 (bc .geq 3 40 (-1) 3)]
def r19_9 : List COp := [u 42 (mv 0), u 43 (cf 32 #[(t 42)] #[50])]
def r19_10 : List COp := [u 2 (.assign (.const (.bool true)))]
def r19_11 : List COpF := [uP 44 (mv 0), uP 45 (nk 44), uP 46 (fa 52 45 1), uL 47 (ld 3 46), uP 48 (mv 0), uP 49 (nk 48), uP 50 (fa 52 49 2), uL 51 (ld 3 50), uP 52 (bo .eql 3 47 51 3), uP 53 (mv 52), gTP 53 54 (mv 3), gTP 53 55 (.binOp .eql 5 (t 54) (.const (.int .u8 32)) 5), uP 56 (pf 53 55)]
def r19_12 : List COp := [u 57 (mv 4), u 58 (mv 0), u 59 (nk 58), u 60 (fa 52 59 0), u 61 (ld 24 60), u 62 (cb .len #[(t 61)] #[24]), u 63 (bo .lss 3 57 62 3), u 64 (mv 63), gt 64 65 (mv 0), gt 64 66 (nk 65), gt 64 67 (fa 52 66 0), gt 64 68 (ld 24 67), gt 64 69 (mv 4), gt 64 70 (ia 24 68 69), gt 64 71 (ld 5 70), gt 64 72 (.binOp .eql 5 (t 71) (.const (.int .u8 32)) 5), u 73 (pf 64 72)]
def r19_13 : List COp := [u 74 (mv 4), u 75 (bc .add 3 74 1 3), u 4 (sg 75)]
def r19_14 : List COp := [u 76 (mv 0), u 77 (mv 4), u 78 (cf 18 #[(t 76), (ci 2), (t 77)] #[50, 3, 3])]
def r19_15 : List COp := [u 2 (.assign (.const (.bool true)))]
def r19_16 : List COp := [u 79 (mv 3), u 80 (cf 33 #[(t 79)] #[5])]
def r19_17 : List COp := [u 81 (mv 4), u 82 (mv 0), u 83 (nk 82), u 84 (fa 52 83 0), u 85 (ld 24 84), u 86 (cb .len #[(t 85)] #[24]), u 87 (bo .lss 3 81 86 3), u 88 (mv 87), gt 88 89 (mv 0), gt 88 90 (nk 89), gt 88 91 (fa 52 90 0), gt 88 92 (ld 24 91), gt 88 93 (mv 4), gt 88 94 (ia 24 92 93), gt 88 95 (ld 5 94), gt 88 96 (cf 33 #[(t 95)] #[5]), u 97 (pf 88 96)]
def r19_18 : List COp := [u 98 (mv 4), u 99 (bc .add 3 98 1 3), u 4 (sg 99)]
def r19_19 : List COp := [u 100 (mv 0), u 101 (mv 4), u 102 (cf 18 #[(t 100), (ci 3), (t 101)] #[50, 3, 3])]
def r19_20 : List COp := [u 2 (.assign (.const (.bool true)))]
def r19_21 : List COpF := [uP 103 (mv 3), uP 104 (.binOp .eql 5 (t 103) (.const (.int .u8 35)) 5), uP 105 (mv 104), gTP 105 106 (mv 0), gTP 105 107 (nk 106), gTP 105 108 (fa 52 107 1), gTL 105 109 (ld 3 108), gTP 105 110 (mv 0), gTP 105 111 (nk 110), gTP 105 112 (fa 52 111 2), gTL 105 113 (ld 3 112), gTP 105 114 (bo .eql 3 109 113 3), gTP 105 115 (mv 114), gNP 115 116 (mv 0), gNP 115 117 (nk 116), gNP 115 118 (fa 52 117 7), gNL 115 119 (ld 25 118), gNP 115 120 (mv 0), gNP 115 121 (nk 120), gNP 115 122 (fa 52 121 7), gNL 115 123 (ld 25 122), gNP 115 124 (cb .len #[(t 123)] #[25]), gNP 115 125 (bc .sub 3 124 1 3), gNP 115 126 (ia 25 119 125), gNP 115 127 (fa 70 126 0), gNL 115 128 (ld 3 127), gNP 115 129 (bc .eql 3 128 2 3), gTP 105 130 (pt 115 129), gTP 105 131 (mv 130), gNP 131 132 (mv 0), gNP 131 133 (nk 132), gNP 131 134 (fa 52 133 7), gNL 131 135 (ld 25 134), gNP 131 136 (mv 0), gNP 131 137 (nk 136), gNP 131 138 (fa 52 137 7), gNL 131 139 (ld 25 138), gNP 131 140 (cb .len #[(t 139)] #[25]), gNP 131 141 (bc .sub 3 140 1 3), gNP 131 142 (ia 25 135 141), gNP 131 143 (fa 70 142 0), gNL 131 144 (ld 3 143), gNP 131 145 (bc .eql 3 144 3 3), gTP 105 146 (pt 131 145), uP 147 (pf 105 146)]
def r19_22 : List COp := [u 148 (mv 0), u 149 (mv 0), u 150 (mv 4), u 151 (cf 34 #[(t 149), (t 150)] #[50, 3]), u 152 (cf 18 #[(t 148), (ci 4), (t 151)] #[50, 3, 3])]
def r19_23 : List COp := [u 2 (.assign (.const (.bool true)))]
def r19_24 : List COp := [u 2 (.assign (.const (.bool false)))]
def correctorref6_scanner_space_l0 (F : Nat) (a0 : correctorref6_scanner) : Nat → Int → Option Int
 | 0, _ => none
 | n + 1, x592 =>
  if x592 < (a0.B.length : Int) then
   if 0 ≤ x592 ∧ x592 < (a0.B.length : Int) then
    (a0.B[x592.toNat]?).bind fun x616 =>
    if (x616.toNat : Int) = (32 : Int) then
     correctorref6_scanner_space_l0 F a0 n (w64 (x592 + 1))
    else
     some x592
   else none
  else
   some x592
def correctorref6_scanner_space_l1 (F : Nat) (a0 : correctorref6_scanner) : Nat → Int → Option Int
 | 0, _ => none
 | n + 1, x1020 =>
  if x1020 < (a0.B.length : Int) then
   if 0 ≤ x1020 ∧ x1020 < (a0.B.length : Int) then
    (a0.B[x1020.toNat]?).bind fun x1058 =>
    (correctorref5_Blank F (x1058.toNat : Int)).bind fun r1064 =>
    if r1064 = true then
     correctorref6_scanner_space_l1 F a0 n (w64 (x1020 + 1))
    else
     some x1020
   else none
  else
   some x1020
def correctorref6_scanner_space (F : Nat) (a0 : correctorref6_scanner) : Option (Bool × correctorref6_scanner) :=
 if 0 ≤ a0.At ∧ a0.At < (a0.B.length : Int) then
  (a0.B[a0.At.toNat]?).bind fun x19 =>
  (correctorref2_Break F a0.B a0.At).bind fun r92 =>
  if (0 : Int) < r92 then
   (correctorref6_scanner_add F a0 1 (w64 (a0.At + r92))).bind fun r216 =>
   (correctorref6_scanner_next F r216).bind fun r232 =>
   ((if (-1 : Int) ≤ r216.Text then
     (correctorref6_scanner_texts F r232).bind fun r267 =>
     some r267
    else
     some r232) : Option correctorref6_scanner).bind fun o => match o with
    | x284 => some (true, x284)
  else
   ((if a0.At = a0.Row then
     if (x19.toNat : Int) = (32 : Int) then
      some true
     else
      some false
    else
     some false) : Option Bool).bind fun o => match o with
    | x442 => if x442 = true then
     ((correctorref6_scanner_space_l0 F a0 F a0.At) : Option Int).bind fun o => match o with
      | x625 => (correctorref6_scanner_add F a0 2 x625).bind fun r628 =>
      some (true, r628)
    else
     (correctorref5_Blank F (x19.toNat : Int)).bind fun r778 =>
     if r778 = true then
      ((correctorref6_scanner_space_l1 F a0 F a0.At) : Option Int).bind fun o => match o with
       | x1075 => (correctorref6_scanner_add F a0 3 x1075).bind fun r1078 =>
       some (true, r1078)
     else
      ((if (x19.toNat : Int) = (35 : Int) then
        if a0.At = a0.Row then
         (correctorref6_scanner_rowEnd F a0 a0.At).bind fun r1226 =>
         (correctorref6_scanner_add F a0 4 r1226).bind fun r1237 =>
         some (.inr (true, r1237))
        else
         if 0 ≤ (w64 ((a0.L.length : Int) - 1)) ∧ (w64 ((a0.L.length : Int) - 1)) < (a0.L.length : Int) then
          (a0.L[(w64 ((a0.L.length : Int) - 1)).toNat]?).bind fun x1256 =>
          if x1256.Kind = (2 : Int) then
           (correctorref6_scanner_rowEnd F a0 a0.At).bind fun r1267 =>
           (correctorref6_scanner_add F a0 4 r1267).bind fun r1278 =>
           some (.inr (true, r1278))
          else
           if 0 ≤ (w64 ((a0.L.length : Int) - 1)) ∧ (w64 ((a0.L.length : Int) - 1)) < (a0.L.length : Int) then
            (a0.L[(w64 ((a0.L.length : Int) - 1)).toNat]?).bind fun x1297 =>
            if x1297.Kind = (3 : Int) then
             (correctorref6_scanner_rowEnd F a0 a0.At).bind fun r1308 =>
             (correctorref6_scanner_add F a0 4 r1308).bind fun r1319 =>
             some (.inr (true, r1319))
            else
             some (.inl ())
           else none
         else none
       else
        some (.inl ())) : Option (Sum Unit (Bool × correctorref6_scanner))).bind fun o => match o with
       | .inl () => some (false, a0)
       | .inr y => some y
 else none
theorem correctorref6_scanner_space_ok (F : Nat) {h : AH} {Z : Zn} {a0 : correctorref6_scanner} {b1 : Nat} {v3 : Value} {v5 : Value} {c6 : List Value} (hP : Pre Z h [.blk b1 (K52 v3 v5 a0), .gs v5 c6 (csz api_Token)]) (q2 : RS (α := UInt8) Z v3 a0.B) (q4 : RCs (α := api_Token) Z c6 a0.L) {r : Bool × correctorref6_scanner} (hm : correctorref6_scanner_space F a0 = some r) :
  ∃ v h' Z' A', callI Try.prog 19 [Pt b1 0] h = some (v, h') ∧ St h (idsL [.blk b1 (K52 v3 v5 a0), .gs v5 c6 (csz api_Token)]) Z (0, 0) Z' h' A' ∧ ∃ v8 : Value, ∃ v10 : Value, ∃ c11 : List Value, .bool r.1 = v ∧ A' = [.blk b1 (K52 v8 v10 r.2), .gs v10 c11 (csz api_Token)] ∧ RS (α := UInt8) Z' v8 r.2.B ∧ RCs (α := api_Token) Z' c11 r.2.L := by
 refine fn_intro (A := [.blk b1 (K52 v3 v5 a0), .gs v5 c6 (csz api_Token)]) (Q := fun v Z' A' => ∃ v8 : Value, ∃ v10 : Value, ∃ c11 : List Value, .bool r.1 = v ∧ A' = [.blk b1 (K52 v8 v10 r.2), .gs v10 c11 (csz api_Token)] ∧ RS (α := UInt8) Z' v8 r.2.B ∧ RCs (α := api_Token) Z' c11 r.2.L) Try.func19 rfl rfl (by kernel_rfl) hP ?_
 intro hs hS
 unfold correctorref6_scanner_space at hm
 refine sr r19_0 ?_
 refine xe 1 [(0, Pt b1 0)] ?_
 refine srF r19_1 hS ?_
 intro bs12 h13 hlv15 hS14
 refine yq 3 [(9, Pt b1 0), (0, Pt b1 0)] ?_
 have lt16 : b1 < bs12 := hlv15.1 _ (List.mem_of_getElem? (i := 0) rfl) _ (by simp [Itm.ids])
 refine e_lookO (v := v3) rfl trivial rfl (by show b1 < _; omega) (same1 (v := v3) (RS.sim1 q2)) (hS14.ldAt (i := 0) rfl (by kernel_rfl)) trivial ?_
 refine yq 3 [(13, Pt b1 1), (10, v3), (0, Pt b1 0)] ?_
 have lt17 : b1 < bs12 := hlv15.1 _ (List.mem_of_getElem? (i := 0) rfl) _ (by simp [Itm.ids])
 refine e_lookO (v := V a0.At) rfl trivial rfl (by show b1 < _; omega) (same1 (v := V a0.At) trivial) (hS14.ldAt (i := 0) rfl (by kernel_rfl)) trivial ?_
 obtain ⟨hc18, hm⟩ := chk hm
 refine e_val rfl trivial (o_index rfl rfl (by kernel_rfl : slTy _ _ = some (csz UInt8)) (RS.based q2 (by omega)) hc18.1 hc18.2) ?_
 obtain ⟨x19, hx20, hm⟩ := obind hm
 obtain ⟨cs21, hc22, he23⟩ := RS.elz q2 (i := a0.At) hx20
 obtain rfl := rc_UInt8 hc22
 refine e_lookZ rfl rfl trivial (fun h2 hz => o_lde (w := .int .u8 (x19.toNat : Int)) (he23 h2 hz) rfl (by kernel_rfl)) (hS14.zin0 (Zle.refl _)) (same1 (v := .int .u8 (x19.toNat : Int)) trivial) trivial ?_
 refine ye 1 [(3, .int .u8 (x19.toNat : Int)), (0, Pt b1 0)] ?_
 have hS25 := hS14.unres
 refine sr r19_2 ?_
 refine xq 3 [(19, Pt b1 1), (3, .int .u8 (x19.toNat : Int)), (0, Pt b1 0)] ?_
 refine r_step rfl trivial (o_ldb (v := V a0.At) hS25 (i := 0) rfl rfl (by kernel_rfl)) ?_
 refine xe 1 [(4, V a0.At), (3, .int .u8 (x19.toNat : Int)), (0, Pt b1 0)] ?_
 refine sq ?_
 refine sr r19_3 ?_
 refine xq 3 [(23, Pt b1 0), (4, V a0.At), (3, .int .u8 (x19.toNat : Int)), (0, Pt b1 0)] ?_
 refine r_step rfl trivial (o_ldb (v := v3) hS25 (i := 0) rfl rfl (by kernel_rfl)) ?_
 refine xq 1 [(25, V a0.At), (24, v3), (4, V a0.At), (3, .int .u8 (x19.toNat : Int)), (0, Pt b1 0)] ?_
 obtain ⟨r92, hx93, hm⟩ := obind hm
 obtain ⟨v94, h95, hcl96, hSc97, rfl⟩ := correctorref2_Break_ok F hS25.inv q2 hx93
 have hS98 := St.call (A := []) (B := [.blk b1 (K52 v3 v5 a0), .gs v5 c6 (csz api_Token)]) hS25 hSc97
 replace hS98 : St _ _ _ _ _ _ [.blk b1 (K52 v3 v5 a0), .gs v5 c6 (csz api_Token)] := hS98
 refine r_step rfl trivial (o_call hcl96 rfl rfl rfl) ?_
 refine xe 1 [(5, V r92), (4, V a0.At), (3, .int .u8 (x19.toNat : Int)), (0, Pt b1 0)] ?_
 refine sr r19_4 ?_
 refine xq 1 [(27, V r92), (5, V r92), (4, V a0.At), (3, .int .u8 (x19.toNat : Int)), (0, Pt b1 0)] ?_
 rcases ifs hm with ⟨hp158, hm⟩ | ⟨hp158, hm⟩
 refine r_step rfl trivial (o_cmp rfl rfl (c_gtr_T hp158)) ?_
 refine xf [(28, .bool true), (5, V r92), (4, V a0.At), (3, .int .u8 (x19.toNat : Int)), (0, Pt b1 0)] ?_
 refine cT 28 rfl ?_
 refine sr r19_5 ?_
 refine xq 4 [(32, V (w64 (a0.At + r92))), (29, Pt b1 0), (0, Pt b1 0)] ?_
 obtain ⟨r216, hx217, hm⟩ := obind hm
 have hF223 : St _ _ _ _ _ _ ([.blk b1 (K52 v3 v5 a0), .gs v5 c6 (csz api_Token)] ++ []) := ((hS98.front 1 rfl).front 1 rfl)
 obtain ⟨v218, h219, Z224, A226, hcl220, hSc221, v228, v230, c231, rfl, rfl, q227, q229⟩ := correctorref6_scanner_add_ok F hF223.preL q2 q4 hx217
 have hZ225 := hSc221.zle
 have hS222 := hF223.call hSc221
 replace hS222 : St _ _ _ _ _ _ [.blk b1 (K52 v228 v230 r216), .gs v230 c231 (csz api_Token)] := hS222
 refine r_step rfl trivial (o_call hcl220 rfl rfl rfl) ?_
 refine xf [(0, Pt b1 0)] ?_
 refine sr r19_6 ?_
 refine xq 3 [(36, Pt b1 6), (0, Pt b1 0)] ?_
 refine r_step rfl trivial (o_ldb (v := V r216.Text) hS222 (i := 0) rfl rfl (by kernel_rfl)) ?_
 refine xe 1 [(6, V r216.Text), (0, Pt b1 0)] ?_
 refine sr r19_7 ?_
 refine xq 1 [(38, Pt b1 0), (6, V r216.Text), (0, Pt b1 0)] ?_
 obtain ⟨r232, hx233, hm⟩ := obind hm
 have hF239 : St _ _ _ _ _ _ ([.blk b1 (K52 v228 v230 r216), .gs v230 c231 (csz api_Token)] ++ []) := ((hS222.front 1 rfl).front 1 rfl)
 obtain ⟨v234, h235, Z240, A242, hcl236, hSc237, v244, c246, rfl, rfl, q243, q245⟩ := correctorref6_scanner_next_ok F hF239.preL q227 q229 hx233
 have hZ241 := hSc237.zle
 have hS238 := hF239.call hSc237
 replace hS238 : St _ _ _ _ _ _ [.blk b1 (K52 v244 v230 r232), .gs v230 c246 (csz api_Token)] := hS238
 refine r_step rfl trivial (o_call hcl236 rfl rfl rfl) ?_
 refine xf [(6, V r216.Text), (0, Pt b1 0)] ?_
 refine sq ?_
 obtain ⟨o265, ho264, hm⟩ := obind hm
 refine W_seqJoin0 [] (fun l h => ∃ Z283 : Zn, ∃ x284 : correctorref6_scanner, ∃ v286 : Value, ∃ v288 : Value, ∃ c289 : List Value, x284 = o265 ∧ RS (α := UInt8) Z283 v286 x284.B ∧ RCs (α := api_Token) Z283 c289 x284.L ∧ l = [] ∧ St hs (idsL [.blk b1 (K52 v3 v5 a0), .gs v5 c6 (csz api_Token)]) Z (0, 0) Z283 h [.blk b1 (K52 v286 v288 x284), .gs v288 c289 (csz api_Token)]) (by kernel_rfl) ?_ ?_
 rintro l h290 ⟨Z283, x284, v286, v288, c289, rfl, q285, q287, rfl, hS291⟩
 try dsimp only at hm
 refine sr r19_10 ?_
 refine xe 1 [(2, .bool true)] ?_
 refine rt ?_
 refine ⟨rfl, ?_⟩
 obtain rfl := si hm
 refine ⟨_, _, _, ResL.tmp rfl (ResL.nil), hS291, ?_⟩
 exact ⟨v286, v288, c289, rfl, rfl, q285, q287⟩
 refine rg r19_8 ?_
 refine xq 1 [(40, V r216.Text), (0, Pt b1 0)] ?_
 rcases ifs ho264 with ⟨hp266, ho264⟩ | ⟨hp266, ho264⟩
 refine r_step rfl trivial (o_cmp rfl rfl (c_geq_T hp266)) ?_
 refine xf [(41, .bool true), (0, Pt b1 0)] ?_
 refine cT 41 rfl ?_
 refine rg r19_9 ?_
 refine xq 1 [(42, Pt b1 0)] ?_
 obtain ⟨r267, hx268, ho264⟩ := obind ho264
 have hF274 : St _ _ _ _ _ _ ([.blk b1 (K52 v244 v230 r232), .gs v230 c246 (csz api_Token)] ++ []) := ((hS238.front 1 rfl).front 1 rfl)
 obtain ⟨v269, h270, Z275, A277, hcl271, hSc272, v279, v281, c282, rfl, rfl, q278, q280⟩ := correctorref6_scanner_texts_ok F hF274.preL q243 q245 hx268
 have hZ276 := hSc272.zle
 have hS273 := hF274.call hSc272
 replace hS273 : St _ _ _ _ _ _ [.blk b1 (K52 v279 v281 r267), .gs v281 c282 (csz api_Token)] := hS273
 refine r_step rfl trivial (o_call hcl271 rfl rfl rfl) ?_
 refine xf [] ?_
 obtain rfl := si ho264
 exact ⟨_, r267, v279, v281, c282, rfl, q278, q280, rfl, hS273⟩
 refine r_step rfl trivial (o_cmp rfl rfl (c_geq_F hp266)) ?_
 refine xf [(41, .bool false), (0, Pt b1 0)] ?_
 refine kF 41 rfl ?_
 obtain rfl := si ho264
 exact ⟨_, r232, v244, v230, c246, rfl, q243, q245, rfl, hS238⟩
 refine r_step rfl trivial (o_cmp rfl rfl (c_gtr_F hp158)) ?_
 refine xf [(28, .bool false), (5, V r92), (4, V a0.At), (3, .int .u8 (x19.toNat : Int)), (0, Pt b1 0)] ?_
 refine kF 28 rfl ?_
 refine sq ?_
 refine sq ?_
 obtain ⟨o429, ho428, hm⟩ := obind hm
 refine W_join [0, 3, 4, 56] (fun l h => ∃ Z441 : Zn, ∃ x442 : Bool, x442 = o429 ∧ l = [(0, Pt b1 0), (3, .int .u8 (x19.toNat : Int)), (4, V a0.At), (56, .bool x442)] ∧ St hs (idsL [.blk b1 (K52 v3 v5 a0), .gs v5 c6 (csz api_Token)]) Z (0, 0) Z441 h [.blk b1 (K52 v3 v5 a0), .gs v5 c6 (csz api_Token)]) ?_ ?_
 rintro l h443 ⟨Z441, x442, rfl, rfl, hS444⟩
 try dsimp only at hm
 rcases ifs hm with ⟨hp527, hm⟩ | ⟨hp527, hm⟩
 refine W_condT (x := .tmp 56) (by kernel_rfl) rfl hp527 ?_
 refine sq ?_
 obtain ⟨o590, ho589, hm⟩ := obind hm
 refine W_join [0, 4] (fun l h => ∃ Z624 : Zn, ∃ x625 : Int, x625 = o590 ∧ l = [(0, Pt b1 0), (4, V x625)] ∧ St hs (idsL [.blk b1 (K52 v3 v5 a0), .gs v5 c6 (csz api_Token)]) Z (0, 0) Z624 h [.blk b1 (K52 v3 v5 a0), .gs v5 c6 (csz api_Token)]) ?_ ?_
 rintro l h626 ⟨Z624, x625, rfl, rfl, hS627⟩
 try dsimp only at hm
 refine sr r19_14 ?_
 refine xq 2 [(77, V x625), (76, Pt b1 0)] ?_
 obtain ⟨r628, hx629, hm⟩ := obind hm
 have hF635 : St _ _ _ _ _ _ ([.blk b1 (K52 v3 v5 a0), .gs v5 c6 (csz api_Token)] ++ []) := ((hS627.front 1 rfl).front 1 rfl)
 obtain ⟨v630, h631, Z636, A638, hcl632, hSc633, v640, v642, c643, rfl, rfl, q639, q641⟩ := correctorref6_scanner_add_ok F hF635.preL (q2.mono hS627.zle) (q4.mono hS627.zle) hx629
 have hZ637 := hSc633.zle
 have hS634 := hF635.call hSc633
 replace hS634 : St _ _ _ _ _ _ [.blk b1 (K52 v640 v642 r628), .gs v642 c643 (csz api_Token)] := hS634
 refine r_step rfl trivial (o_call hcl632 rfl rfl rfl) ?_
 refine xf [] ?_
 refine sr r19_15 ?_
 refine xe 1 [(2, .bool true)] ?_
 refine rt ?_
 refine ⟨rfl, ?_⟩
 obtain rfl := si hm
 refine ⟨_, _, _, ResL.tmp rfl (ResL.nil), hS634, ?_⟩
 exact ⟨v640, v642, c643, rfl, rfl, q639, q641⟩
 refine bk 0 ?_
 refine lp [0, 4] (fun n l h => ∃ Z591 : Zn, ∃ x592 : Int, correctorref6_scanner_space_l0 F a0 n x592 = some o590 ∧ l = [(0, Pt b1 0), (4, V x592)] ∧ St hs (idsL [.blk b1 (K52 v3 v5 a0), .gs v5 c6 (csz api_Token)]) Z (0, 0) Z591 h [.blk b1 (K52 v3 v5 a0), .gs v5 c6 (csz api_Token)]) F ⟨_, a0.At, ho589, rfl, hS444⟩ ?_
 rintro n595 l h593 ⟨Z591, x592, ho589, rfl, hS594⟩
 rcases n595 with _ | n595
 cases (show none = some o590 from ho589)
 rw [correctorref6_scanner_space_l0] at ho589
 refine sq ?_
 refine sr r19_12 ?_
 refine xq 4 [(60, Pt b1 0), (57, V x592), (0, Pt b1 0), (4, V x592)] ?_
 refine r_step rfl trivial (o_ldb (v := v3) hS594 (i := 0) rfl rfl (by kernel_rfl)) ?_
 refine r_step rfl trivial (o_len rfl (RS.len (q2.mono hS594.zle)) ⟨_, Try.underlying24⟩) ?_
 rcases ifs ho589 with ⟨hp614, ho589⟩ | ⟨hp614, ho589⟩
 refine r_step rfl trivial (o_cmp rfl rfl (c_lss_T hp614)) ?_
 refine xq 4 [(67, Pt b1 0), (64, .bool true), (0, Pt b1 0), (4, V x592)] ?_
 refine r_step rfl rfl (o_ldb (v := v3) hS594 (i := 0) rfl rfl (by kernel_rfl)) ?_
 refine xq 1 [(69, V x592), (68, v3), (64, .bool true), (0, Pt b1 0), (4, V x592)] ?_
 obtain ⟨hc615, ho589⟩ := chk ho589
 refine r_step rfl rfl (o_index rfl rfl (by kernel_rfl : slTy _ _ = some (csz UInt8)) (RS.based (q2.mono hS594.zle) (by omega)) hc615.1 hc615.2) ?_
 obtain ⟨x616, hx617, ho589⟩ := obind ho589
 obtain ⟨cs618, hc619, he620⟩ := RS.elz (q2.mono hS594.zle) (i := x592) hx617
 obtain rfl := rc_UInt8 hc619
 refine r_step rfl rfl (o_lde (w := .int .u8 (x616.toNat : Int)) (he620 _ (hS594.zin0 (Zle.refl _))) rfl (by kernel_rfl)) ?_
 rcases ifs ho589 with ⟨hp622, ho589⟩ | ⟨hp622, ho589⟩
 refine r_step rfl rfl (o_cmp rfl rfl (c_eql_T hp622)) ?_
 refine xe 1 [(73, .bool true), (0, Pt b1 0), (4, V x592)] ?_
 refine kT 73 rfl ?_
 refine bk 1 ?_
 refine rg r19_13 ?_
 refine xe 3 [(4, V (w64 (x592 + 1))), (0, Pt b1 0)] ?_
 exact ⟨n595, Nat.lt_succ_self _, ⟨_, w64 (x592 + 1), ho589, rfl, hS594⟩⟩
 refine r_step rfl rfl (o_cmp rfl rfl (c_eql_F hp622)) ?_
 refine xe 1 [(73, .bool false), (0, Pt b1 0), (4, V x592)] ?_
 refine cF 73 rfl ?_
 refine xt 0 ?_
 refine blkX_hit ?_
 obtain rfl := si ho589
 exact ⟨_, x592, rfl, rfl, hS594⟩
 refine r_step rfl trivial (o_cmp rfl rfl (c_lss_F hp614)) ?_
 refine xe 10 [(73, .bool false), (0, Pt b1 0), (4, V x592)] ?_
 refine cF 73 rfl ?_
 refine xt 0 ?_
 refine blkX_hit ?_
 obtain rfl := si ho589
 exact ⟨_, x592, rfl, rfl, hS594⟩
 refine W_condF (x := .tmp 56) (by kernel_rfl) rfl (Bool.eq_false_iff.2 hp527) ?_
 refine sk ?_
 refine sq ?_
 refine sr r19_16 ?_
 refine xq 1 [(79, .int .u8 (x19.toNat : Int)), (0, Pt b1 0), (3, .int .u8 (x19.toNat : Int)), (4, V a0.At)] ?_
 obtain ⟨r778, hx779, hm⟩ := obind hm
 obtain ⟨v780, h781, hcl782, hSc783, rfl⟩ := correctorref5_Blank_ok F hS444.inv  hx779
 have hS784 := St.call (A := []) (B := [.blk b1 (K52 v3 v5 a0), .gs v5 c6 (csz api_Token)]) hS444 hSc783
 replace hS784 : St _ _ _ _ _ _ [.blk b1 (K52 v3 v5 a0), .gs v5 c6 (csz api_Token)] := hS784
 refine r_step rfl trivial (o_call hcl782 rfl rfl rfl) ?_
 refine xf [(80, .bool r778), (0, Pt b1 0), (3, .int .u8 (x19.toNat : Int)), (4, V a0.At)] ?_
 rcases ifs hm with ⟨hp911, hm⟩ | ⟨hp911, hm⟩
 refine W_condT (x := .tmp 80) (by kernel_rfl) rfl hp911 ?_
 refine sq ?_
 obtain ⟨o1018, ho1017, hm⟩ := obind hm
 refine W_join [0, 4] (fun l h => ∃ Z1074 : Zn, ∃ x1075 : Int, x1075 = o1018 ∧ l = [(0, Pt b1 0), (4, V x1075)] ∧ St hs (idsL [.blk b1 (K52 v3 v5 a0), .gs v5 c6 (csz api_Token)]) Z (0, 0) Z1074 h [.blk b1 (K52 v3 v5 a0), .gs v5 c6 (csz api_Token)]) ?_ ?_
 rintro l h1076 ⟨Z1074, x1075, rfl, rfl, hS1077⟩
 try dsimp only at hm
 refine sr r19_19 ?_
 refine xq 2 [(101, V x1075), (100, Pt b1 0)] ?_
 obtain ⟨r1078, hx1079, hm⟩ := obind hm
 have hF1085 : St _ _ _ _ _ _ ([.blk b1 (K52 v3 v5 a0), .gs v5 c6 (csz api_Token)] ++ []) := ((hS1077.front 1 rfl).front 1 rfl)
 obtain ⟨v1080, h1081, Z1086, A1088, hcl1082, hSc1083, v1090, v1092, c1093, rfl, rfl, q1089, q1091⟩ := correctorref6_scanner_add_ok F hF1085.preL (q2.mono hS1077.zle) (q4.mono hS1077.zle) hx1079
 have hZ1087 := hSc1083.zle
 have hS1084 := hF1085.call hSc1083
 replace hS1084 : St _ _ _ _ _ _ [.blk b1 (K52 v1090 v1092 r1078), .gs v1092 c1093 (csz api_Token)] := hS1084
 refine r_step rfl trivial (o_call hcl1082 rfl rfl rfl) ?_
 refine xf [] ?_
 refine sr r19_20 ?_
 refine xe 1 [(2, .bool true)] ?_
 refine rt ?_
 refine ⟨rfl, ?_⟩
 obtain rfl := si hm
 refine ⟨_, _, _, ResL.tmp rfl (ResL.nil), hS1084, ?_⟩
 exact ⟨v1090, v1092, c1093, rfl, rfl, q1089, q1091⟩
 refine bk 2 ?_
 refine lp [0, 4] (fun n l h => ∃ Z1019 : Zn, ∃ x1020 : Int, correctorref6_scanner_space_l1 F a0 n x1020 = some o1018 ∧ l = [(0, Pt b1 0), (4, V x1020)] ∧ St hs (idsL [.blk b1 (K52 v3 v5 a0), .gs v5 c6 (csz api_Token)]) Z (0, 0) Z1019 h [.blk b1 (K52 v3 v5 a0), .gs v5 c6 (csz api_Token)]) F ⟨_, a0.At, ho1017, rfl, hS784⟩ ?_
 rintro n1023 l h1021 ⟨Z1019, x1020, ho1017, rfl, hS1022⟩
 rcases n1023 with _ | n1023
 cases (show none = some o1018 from ho1017)
 rw [correctorref6_scanner_space_l1] at ho1017
 refine sq ?_
 refine sr r19_17 ?_
 refine xq 4 [(84, Pt b1 0), (81, V x1020), (0, Pt b1 0), (4, V x1020)] ?_
 refine r_step rfl trivial (o_ldb (v := v3) hS1022 (i := 0) rfl rfl (by kernel_rfl)) ?_
 refine r_step rfl trivial (o_len rfl (RS.len (q2.mono hS1022.zle)) ⟨_, Try.underlying24⟩) ?_
 rcases ifs ho1017 with ⟨hp1056, ho1017⟩ | ⟨hp1056, ho1017⟩
 refine r_step rfl trivial (o_cmp rfl rfl (c_lss_T hp1056)) ?_
 refine xq 4 [(91, Pt b1 0), (88, .bool true), (0, Pt b1 0), (4, V x1020)] ?_
 refine r_step rfl rfl (o_ldb (v := v3) hS1022 (i := 0) rfl rfl (by kernel_rfl)) ?_
 refine xq 1 [(93, V x1020), (92, v3), (88, .bool true), (0, Pt b1 0), (4, V x1020)] ?_
 obtain ⟨hc1057, ho1017⟩ := chk ho1017
 refine r_step rfl rfl (o_index rfl rfl (by kernel_rfl : slTy _ _ = some (csz UInt8)) (RS.based (q2.mono hS1022.zle) (by omega)) hc1057.1 hc1057.2) ?_
 obtain ⟨x1058, hx1059, ho1017⟩ := obind ho1017
 obtain ⟨cs1060, hc1061, he1062⟩ := RS.elz (q2.mono hS1022.zle) (i := x1020) hx1059
 obtain rfl := rc_UInt8 hc1061
 refine r_step rfl rfl (o_lde (w := .int .u8 (x1058.toNat : Int)) (he1062 _ (hS1022.zin0 (Zle.refl _))) rfl (by kernel_rfl)) ?_
 obtain ⟨r1064, hx1065, ho1017⟩ := obind ho1017
 obtain ⟨v1066, h1067, hcl1068, hSc1069, rfl⟩ := correctorref5_Blank_ok F hS1022.inv  hx1065
 have hS1070 := St.call (A := []) (B := [.blk b1 (K52 v3 v5 a0), .gs v5 c6 (csz api_Token)]) hS1022 hSc1069
 replace hS1070 : St _ _ _ _ _ _ [.blk b1 (K52 v3 v5 a0), .gs v5 c6 (csz api_Token)] := hS1070
 refine r_step rfl rfl (o_call hcl1068 rfl rfl rfl) ?_
 refine xe 1 [(97, .bool r1064), (0, Pt b1 0), (4, V x1020)] ?_
 rcases ifs ho1017 with ⟨hp1072, ho1017⟩ | ⟨hp1072, ho1017⟩
 refine W_condT (x := .tmp 97) (by kernel_rfl) rfl hp1072 ?_
 refine sk ?_
 refine bk 3 ?_
 refine rg r19_18 ?_
 refine xe 3 [(4, V (w64 (x1020 + 1))), (0, Pt b1 0)] ?_
 exact ⟨n1023, Nat.lt_succ_self _, ⟨_, w64 (x1020 + 1), ho1017, rfl, hS1070⟩⟩
 refine W_condF (x := .tmp 97) (by kernel_rfl) rfl (Bool.eq_false_iff.2 hp1072) ?_
 refine xt 2 ?_
 refine blkX_hit ?_
 obtain rfl := si ho1017
 exact ⟨_, x1020, rfl, rfl, hS1070⟩
 refine r_step rfl trivial (o_cmp rfl rfl (c_lss_F hp1056)) ?_
 refine xe 10 [(97, .bool false), (0, Pt b1 0), (4, V x1020)] ?_
 refine cF 97 rfl ?_
 refine xt 2 ?_
 refine blkX_hit ?_
 obtain rfl := si ho1017
 exact ⟨_, x1020, rfl, rfl, hS1022⟩
 refine W_condF (x := .tmp 80) (by kernel_rfl) rfl (Bool.eq_false_iff.2 hp911) ?_
 refine sk ?_
 refine sq ?_
 obtain ⟨o1216, ho1215, hm⟩ := obind hm
 refine W_seqJoin0 [] (fun l h => ∃ Z1337 : Zn, .inl () = o1216 ∧ l = [] ∧ St hs (idsL [.blk b1 (K52 v3 v5 a0), .gs v5 c6 (csz api_Token)]) Z (0, 0) Z1337 h [.blk b1 (K52 v3 v5 a0), .gs v5 c6 (csz api_Token)]) (by kernel_rfl) ?_ ?_
 rintro l h1338 ⟨Z1337, rfl, rfl, hS1339⟩
 try dsimp only at hm
 refine sr r19_24 ?_
 refine xe 1 [(2, .bool false)] ?_
 refine rt ?_
 refine ⟨rfl, ?_⟩
 obtain rfl := si hm
 refine ⟨_, _, _, ResL.tmp rfl (ResL.nil), hS1339, ?_⟩
 exact ⟨v3, v5, c6, rfl, rfl, (q2.mono hS1339.zle), (q4.mono hS1339.zle)⟩
 refine rgF r19_21 hS784 ?_
 intro bs1217 h1218 hlv1220 hS1219
 refine yq 1 [(103, .int .u8 (x19.toNat : Int)), (0, Pt b1 0), (4, V a0.At)] ?_
 rcases ifs ho1215 with ⟨hp1221, ho1215⟩ | ⟨hp1221, ho1215⟩
 refine e_val rfl trivial (o_cmp rfl rfl (c_eql_T hp1221)) ?_
 refine yq 4 [(108, Pt b1 1), (105, .bool true), (0, Pt b1 0), (4, V a0.At)] ?_
 have lt1222 : b1 < bs1217 := hlv1220.1 _ (List.mem_of_getElem? (i := 0) rfl) _ (by simp [Itm.ids])
 refine e_lookO (v := V a0.At) rfl rfl rfl (by show b1 < _; omega) (same1 (v := V a0.At) trivial) (hS1219.ldAt (i := 0) rfl (by kernel_rfl)) trivial ?_
 refine yq 3 [(112, Pt b1 2), (109, V a0.At), (105, .bool true), (0, Pt b1 0), (4, V a0.At)] ?_
 have lt1223 : b1 < bs1217 := hlv1220.1 _ (List.mem_of_getElem? (i := 0) rfl) _ (by simp [Itm.ids])
 refine e_lookO (v := V a0.Row) rfl rfl rfl (by show b1 < _; omega) (same1 (v := V a0.Row) trivial) (hS1219.ldAt (i := 0) rfl (by kernel_rfl)) trivial ?_
 rcases ifs ho1215 with ⟨hp1224, ho1215⟩ | ⟨hp1224, ho1215⟩
 refine e_val rfl rfl (o_cmp rfl rfl (c_eql_T hp1224)) ?_
 refine ye 33 [(147, .bool true), (0, Pt b1 0), (4, V a0.At)] ?_
 have hS1225 := hS1219.unres
 refine cT 147 rfl ?_
 refine sr r19_22 ?_
 refine xq 3 [(150, V a0.At), (149, Pt b1 0), (148, Pt b1 0)] ?_
 obtain ⟨r1226, hx1227, ho1215⟩ := obind ho1215
 have hF1233 : St _ _ _ _ _ _ ([.blk b1 (K52 v3 v5 a0), .gs v5 c6 (csz api_Token)] ++ []) := ((hS1225.front 1 rfl).front 1 rfl)
 obtain ⟨v1228, h1229, Z1234, A1236, hcl1230, hSc1231, rfl, rfl⟩ := correctorref6_scanner_rowEnd_ok F hF1233.preL (q2.mono hS444.zle) (q4.mono hS444.zle) hx1227
 have hZ1235 := hSc1231.zle
 have hS1232 := hF1233.call hSc1231
 replace hS1232 : St _ _ _ _ _ _ [.blk b1 (K52 v3 v5 a0), .gs v5 c6 (csz api_Token)] := hS1232
 refine r_step rfl trivial (o_call hcl1230 rfl rfl rfl) ?_
 obtain ⟨r1237, hx1238, ho1215⟩ := obind ho1215
 have hF1244 : St _ _ _ _ _ _ ([.blk b1 (K52 v3 v5 a0), .gs v5 c6 (csz api_Token)] ++ []) := ((hS1232.front 1 rfl).front 1 rfl)
 obtain ⟨v1239, h1240, Z1245, A1247, hcl1241, hSc1242, v1249, v1251, c1252, rfl, rfl, q1248, q1250⟩ := correctorref6_scanner_add_ok F hF1244.preL (q2.mono (hS444.zle.trans hZ1235)) (q4.mono (hS444.zle.trans hZ1235)) hx1238
 have hZ1246 := hSc1242.zle
 have hS1243 := hF1244.call hSc1242
 replace hS1243 : St _ _ _ _ _ _ [.blk b1 (K52 v1249 v1251 r1237), .gs v1251 c1252 (csz api_Token)] := hS1243
 refine r_step rfl trivial (o_call hcl1241 rfl rfl rfl) ?_
 refine xf [] ?_
 refine sr r19_23 ?_
 refine xe 1 [(2, .bool true)] ?_
 refine rt ?_
 refine ⟨rfl, ?_⟩
 obtain rfl := si ho1215
 obtain rfl := si hm
 refine ⟨_, _, _, ResL.tmp rfl (ResL.nil), hS1243, ?_⟩
 exact ⟨v1249, v1251, c1252, rfl, rfl, q1248, q1250⟩
 refine e_val rfl rfl (o_cmp rfl rfl (c_eql_F hp1224)) ?_
 refine yq 4 [(118, Pt b1 7), (115, .bool false), (105, .bool true), (0, Pt b1 0), (4, V a0.At)] ?_
 have lt1253 : b1 < bs1217 := hlv1220.1 _ (List.mem_of_getElem? (i := 0) rfl) _ (by simp [Itm.ids])
 refine e_lookO (v := v5) rfl rfl rfl (by show b1 < _; omega) (same1 (v := v5) (hS1219.gsim1 (i := 1) rfl)) (hS1219.ldAt (i := 0) rfl (by kernel_rfl)) trivial ?_
 refine yq 3 [(122, Pt b1 7), (119, v5), (115, .bool false), (105, .bool true), (0, Pt b1 0), (4, V a0.At)] ?_
 have lt1254 : b1 < bs1217 := hlv1220.1 _ (List.mem_of_getElem? (i := 0) rfl) _ (by simp [Itm.ids])
 refine e_lookO (v := v5) rfl rfl rfl (by show b1 < _; omega) (same1 (v := v5) (hS1219.gsim1 (i := 1) rfl)) (hS1219.ldAt (i := 0) rfl (by kernel_rfl)) trivial ?_
 refine e_val rfl rfl (o_len rfl (hS1219.glen (i := 1) rfl (q4.mono hS444.zle)) ⟨_, Try.underlying25⟩) ?_
 refine yq 1 [(125, V (w64 ((a0.L.length : Int) - 1))), (119, v5), (115, .bool false), (105, .bool true), (0, Pt b1 0), (4, V a0.At)] ?_
 obtain ⟨hc1255, ho1215⟩ := chk ho1215
 refine e_val rfl rfl (o_index rfl rfl (by kernel_rfl : slTy _ _ = some (csz api_Token)) (hS1219.gbased (j := 1) rfl (q4.mono hS444.zle) (by omega)) hc1255.1 hc1255.2) ?_
 refine yq 1 [(127, .pointer (some (elemA v5 (w64 ((a0.L.length : Int) - 1)) (csz api_Token) 0))), (115, .bool false), (105, .bool true), (0, Pt b1 0), (4, V a0.At)] ?_
 obtain ⟨x1256, hx1257, ho1215⟩ := obind ho1215
 obtain ⟨cs1258, hc1259, he1260, ht1261⟩ := hS1219.gel (j := 1) rfl (q4.mono hS444.zle) (i := w64 ((a0.L.length : Int) - 1)) hx1257
 obtain rfl := rc_api_Token hc1259
 have ps1262 := pos_of hx1257
 have hB1263 := hS1219.gbased (j := 1) rfl (q4.mono hS444.zle) ps1262
 have lt1264 : (baseOf v5).block < bs1217 := row_ltM (hlv1220.1 _ (List.mem_of_getElem? (i := 1) rfl)) hB1263
 refine e_lookB rfl rfl rfl (by show (baseOf v5).block < _; omega) (same1 (v := V x1256.Kind) trivial) (o_lde (w := V x1256.Kind) he1260 rfl (by kernel_rfl)) trivial ?_
 rcases ifs ho1215 with ⟨hp1265, ho1215⟩ | ⟨hp1265, ho1215⟩
 refine e_val rfl rfl (o_cmp rfl rfl (c_eql_T hp1265)) ?_
 refine ye 18 [(147, .bool true), (0, Pt b1 0), (4, V a0.At)] ?_
 have hS1266 := hS1219.unres
 refine cT 147 rfl ?_
 refine sr r19_22 ?_
 refine xq 3 [(150, V a0.At), (149, Pt b1 0), (148, Pt b1 0)] ?_
 obtain ⟨r1267, hx1268, ho1215⟩ := obind ho1215
 have hF1274 : St _ _ _ _ _ _ ([.blk b1 (K52 v3 v5 a0), .gs v5 c6 (csz api_Token)] ++ []) := ((hS1266.front 1 rfl).front 1 rfl)
 obtain ⟨v1269, h1270, Z1275, A1277, hcl1271, hSc1272, rfl, rfl⟩ := correctorref6_scanner_rowEnd_ok F hF1274.preL (q2.mono hS444.zle) (q4.mono hS444.zle) hx1268
 have hZ1276 := hSc1272.zle
 have hS1273 := hF1274.call hSc1272
 replace hS1273 : St _ _ _ _ _ _ [.blk b1 (K52 v3 v5 a0), .gs v5 c6 (csz api_Token)] := hS1273
 refine r_step rfl trivial (o_call hcl1271 rfl rfl rfl) ?_
 obtain ⟨r1278, hx1279, ho1215⟩ := obind ho1215
 have hF1285 : St _ _ _ _ _ _ ([.blk b1 (K52 v3 v5 a0), .gs v5 c6 (csz api_Token)] ++ []) := ((hS1273.front 1 rfl).front 1 rfl)
 obtain ⟨v1280, h1281, Z1286, A1288, hcl1282, hSc1283, v1290, v1292, c1293, rfl, rfl, q1289, q1291⟩ := correctorref6_scanner_add_ok F hF1285.preL (q2.mono (hS444.zle.trans hZ1276)) (q4.mono (hS444.zle.trans hZ1276)) hx1279
 have hZ1287 := hSc1283.zle
 have hS1284 := hF1285.call hSc1283
 replace hS1284 : St _ _ _ _ _ _ [.blk b1 (K52 v1290 v1292 r1278), .gs v1292 c1293 (csz api_Token)] := hS1284
 refine r_step rfl trivial (o_call hcl1282 rfl rfl rfl) ?_
 refine xf [] ?_
 refine sr r19_23 ?_
 refine xe 1 [(2, .bool true)] ?_
 refine rt ?_
 refine ⟨rfl, ?_⟩
 obtain rfl := si ho1215
 obtain rfl := si hm
 refine ⟨_, _, _, ResL.tmp rfl (ResL.nil), hS1284, ?_⟩
 exact ⟨v1290, v1292, c1293, rfl, rfl, q1289, q1291⟩
 refine e_val rfl rfl (o_cmp rfl rfl (c_eql_F hp1265)) ?_
 refine yq 5 [(134, Pt b1 7), (131, .bool false), (105, .bool true), (0, Pt b1 0), (4, V a0.At)] ?_
 have lt1294 : b1 < bs1217 := hlv1220.1 _ (List.mem_of_getElem? (i := 0) rfl) _ (by simp [Itm.ids])
 refine e_lookO (v := v5) rfl rfl rfl (by show b1 < _; omega) (same1 (v := v5) (hS1219.gsim1 (i := 1) rfl)) (hS1219.ldAt (i := 0) rfl (by kernel_rfl)) trivial ?_
 refine yq 3 [(138, Pt b1 7), (135, v5), (131, .bool false), (105, .bool true), (0, Pt b1 0), (4, V a0.At)] ?_
 have lt1295 : b1 < bs1217 := hlv1220.1 _ (List.mem_of_getElem? (i := 0) rfl) _ (by simp [Itm.ids])
 refine e_lookO (v := v5) rfl rfl rfl (by show b1 < _; omega) (same1 (v := v5) (hS1219.gsim1 (i := 1) rfl)) (hS1219.ldAt (i := 0) rfl (by kernel_rfl)) trivial ?_
 refine e_val rfl rfl (o_len rfl (hS1219.glen (i := 1) rfl (q4.mono hS444.zle)) ⟨_, Try.underlying25⟩) ?_
 refine yq 1 [(141, V (w64 ((a0.L.length : Int) - 1))), (135, v5), (131, .bool false), (105, .bool true), (0, Pt b1 0), (4, V a0.At)] ?_
 obtain ⟨hc1296, ho1215⟩ := chk ho1215
 refine e_val rfl rfl (o_index rfl rfl (by kernel_rfl : slTy _ _ = some (csz api_Token)) (hS1219.gbased (j := 1) rfl (q4.mono hS444.zle) (by omega)) hc1296.1 hc1296.2) ?_
 refine yq 1 [(143, .pointer (some (elemA v5 (w64 ((a0.L.length : Int) - 1)) (csz api_Token) 0))), (131, .bool false), (105, .bool true), (0, Pt b1 0), (4, V a0.At)] ?_
 obtain ⟨x1297, hx1298, ho1215⟩ := obind ho1215
 obtain ⟨cs1299, hc1300, he1301, ht1302⟩ := hS1219.gel (j := 1) rfl (q4.mono hS444.zle) (i := w64 ((a0.L.length : Int) - 1)) hx1298
 obtain rfl := rc_api_Token hc1300
 have ps1303 := pos_of hx1298
 have hB1304 := hS1219.gbased (j := 1) rfl (q4.mono hS444.zle) ps1303
 have lt1305 : (baseOf v5).block < bs1217 := row_ltM (hlv1220.1 _ (List.mem_of_getElem? (i := 1) rfl)) hB1304
 refine e_lookB rfl rfl rfl (by show (baseOf v5).block < _; omega) (same1 (v := V x1297.Kind) trivial) (o_lde (w := V x1297.Kind) he1301 rfl (by kernel_rfl)) trivial ?_
 rcases ifs ho1215 with ⟨hp1306, ho1215⟩ | ⟨hp1306, ho1215⟩
 refine e_val rfl rfl (o_cmp rfl rfl (c_eql_T hp1306)) ?_
 refine ye 2 [(147, .bool true), (0, Pt b1 0), (4, V a0.At)] ?_
 have hS1307 := hS1219.unres
 refine cT 147 rfl ?_
 refine sr r19_22 ?_
 refine xq 3 [(150, V a0.At), (149, Pt b1 0), (148, Pt b1 0)] ?_
 obtain ⟨r1308, hx1309, ho1215⟩ := obind ho1215
 have hF1315 : St _ _ _ _ _ _ ([.blk b1 (K52 v3 v5 a0), .gs v5 c6 (csz api_Token)] ++ []) := ((hS1307.front 1 rfl).front 1 rfl)
 obtain ⟨v1310, h1311, Z1316, A1318, hcl1312, hSc1313, rfl, rfl⟩ := correctorref6_scanner_rowEnd_ok F hF1315.preL (q2.mono hS444.zle) (q4.mono hS444.zle) hx1309
 have hZ1317 := hSc1313.zle
 have hS1314 := hF1315.call hSc1313
 replace hS1314 : St _ _ _ _ _ _ [.blk b1 (K52 v3 v5 a0), .gs v5 c6 (csz api_Token)] := hS1314
 refine r_step rfl trivial (o_call hcl1312 rfl rfl rfl) ?_
 obtain ⟨r1319, hx1320, ho1215⟩ := obind ho1215
 have hF1326 : St _ _ _ _ _ _ ([.blk b1 (K52 v3 v5 a0), .gs v5 c6 (csz api_Token)] ++ []) := ((hS1314.front 1 rfl).front 1 rfl)
 obtain ⟨v1321, h1322, Z1327, A1329, hcl1323, hSc1324, v1331, v1333, c1334, rfl, rfl, q1330, q1332⟩ := correctorref6_scanner_add_ok F hF1326.preL (q2.mono (hS444.zle.trans hZ1317)) (q4.mono (hS444.zle.trans hZ1317)) hx1320
 have hZ1328 := hSc1324.zle
 have hS1325 := hF1326.call hSc1324
 replace hS1325 : St _ _ _ _ _ _ [.blk b1 (K52 v1331 v1333 r1319), .gs v1333 c1334 (csz api_Token)] := hS1325
 refine r_step rfl trivial (o_call hcl1323 rfl rfl rfl) ?_
 refine xf [] ?_
 refine sr r19_23 ?_
 refine xe 1 [(2, .bool true)] ?_
 refine rt ?_
 refine ⟨rfl, ?_⟩
 obtain rfl := si ho1215
 obtain rfl := si hm
 refine ⟨_, _, _, ResL.tmp rfl (ResL.nil), hS1325, ?_⟩
 exact ⟨v1331, v1333, c1334, rfl, rfl, q1330, q1332⟩
 refine e_val rfl rfl (o_cmp rfl rfl (c_eql_F hp1306)) ?_
 refine ye 2 [(147, .bool false), (0, Pt b1 0), (4, V a0.At)] ?_
 have hS1335 := hS1219.unres
 refine kF 147 rfl ?_
 obtain rfl := si ho1215
 exact ⟨_, rfl, rfl, hS1335⟩
 refine e_val rfl trivial (o_cmp rfl rfl (c_eql_F hp1221)) ?_
 refine ye 43 [(147, .bool false), (0, Pt b1 0), (4, V a0.At)] ?_
 have hS1336 := hS1219.unres
 refine kF 147 rfl ?_
 obtain rfl := si ho1215
 exact ⟨_, rfl, rfl, hS1336⟩
 refine rgF r19_11 hS98 ?_
 intro bs430 h431 hlv433 hS432
 refine yq 3 [(46, Pt b1 1), (4, V a0.At), (3, .int .u8 (x19.toNat : Int)), (0, Pt b1 0)] ?_
 have lt434 : b1 < bs430 := hlv433.1 _ (List.mem_of_getElem? (i := 0) rfl) _ (by simp [Itm.ids])
 refine e_lookO (v := V a0.At) rfl trivial rfl (by show b1 < _; omega) (same1 (v := V a0.At) trivial) (hS432.ldAt (i := 0) rfl (by kernel_rfl)) trivial ?_
 refine yq 3 [(50, Pt b1 2), (47, V a0.At), (4, V a0.At), (3, .int .u8 (x19.toNat : Int)), (0, Pt b1 0)] ?_
 have lt435 : b1 < bs430 := hlv433.1 _ (List.mem_of_getElem? (i := 0) rfl) _ (by simp [Itm.ids])
 refine e_lookO (v := V a0.Row) rfl trivial rfl (by show b1 < _; omega) (same1 (v := V a0.Row) trivial) (hS432.ldAt (i := 0) rfl (by kernel_rfl)) trivial ?_
 rcases ifs ho428 with ⟨hp436, ho428⟩ | ⟨hp436, ho428⟩
 refine e_val rfl trivial (o_cmp rfl rfl (c_eql_T hp436)) ?_
 refine yq 2 [(54, .int .u8 (x19.toNat : Int)), (53, .bool true), (4, V a0.At), (3, .int .u8 (x19.toNat : Int)), (0, Pt b1 0)] ?_
 rcases ifs ho428 with ⟨hp437, ho428⟩ | ⟨hp437, ho428⟩
 refine e_val rfl rfl (o_cmp rfl rfl (c_eql_T hp437)) ?_
 refine ye 1 [(56, .bool true), (4, V a0.At), (3, .int .u8 (x19.toNat : Int)), (0, Pt b1 0)] ?_
 have hS438 := hS432.unres
 obtain rfl := si ho428
 exact ⟨_, true, rfl, rfl, hS438⟩
 refine e_val rfl rfl (o_cmp rfl rfl (c_eql_F hp437)) ?_
 refine ye 1 [(56, .bool false), (4, V a0.At), (3, .int .u8 (x19.toNat : Int)), (0, Pt b1 0)] ?_
 have hS439 := hS432.unres
 obtain rfl := si ho428
 exact ⟨_, false, rfl, rfl, hS439⟩
 refine e_val rfl trivial (o_cmp rfl rfl (c_eql_F hp436)) ?_
 refine ye 4 [(56, .bool false), (4, V a0.At), (3, .int .u8 (x19.toNat : Int)), (0, Pt b1 0)] ?_
 have hS440 := hS432.unres
 obtain rfl := si ho428
 exact ⟨_, false, rfl, rfl, hS440⟩

def r20_0 : List COp := [u 2 (.assign (.const (.bool false)))]
def r20_1 : List COpF := [uP 4 (mv 0), uP 5 (nk 4), uP 6 (fa 52 5 0), uL 7 (ld 24 6), uP 8 (mv 0), uP 9 (nk 8), uP 10 (fa 52 9 1), uL 11 (ld 3 10), uP 12 (ia 24 7 11), uL 13 (ld 5 12), uP 3 (sg 13)]
def r20_2 : List COp := [u 2 (.assign (.const (.bool false)))]
def r20_3 : List COp := [u 15 (mv 3), u 16 (.binOp .eql 5 (t 15) (.const (.int .u8 91)) 5), u 14 (sg 16)]
def r20_4 : List COp := [u 17 (mv 0), u 18 (mv 0), u 19 (nk 18), u 20 (fa 52 19 1), u 21 (ld 3 20), u 22 (bc .add 3 21 1 3), u 23 (cf 18 #[(t 17), (ci 8), (t 22)] #[50, 3, 3])]
def r20_5 : List COp := [u 24 (mv 0), u 25 (nk 24), u 26 (fa 52 25 3), u 27 (ld 3 26), u 28 (bc .add 3 27 1 3), u 29 (nk 24), u 30 (fa 52 29 3), o (.store 3 (t 30) (t 28))]
def r20_6 : List COp := [u 32 (mv 3), u 33 (.binOp .eql 5 (t 32) (.const (.int .u8 123)) 5), u 31 (sg 33)]
def r20_7 : List COp := [u 34 (mv 0), u 35 (mv 0), u 36 (nk 35), u 37 (fa 52 36 1), u 38 (ld 3 37), u 39 (bc .add 3 38 1 3), u 40 (cf 18 #[(t 34), (ci 9), (t 39)] #[50, 3, 3])]
def r20_8 : List COp := [u 41 (mv 0), u 42 (nk 41), u 43 (fa 52 42 3), u 44 (ld 3 43), u 45 (bc .add 3 44 1 3), u 46 (nk 41), u 47 (fa 52 46 3), o (.store 3 (t 47) (t 45))]
def r20_9 : List COp := [u 49 (mv 3), u 50 (.binOp .eql 5 (t 49) (.const (.int .u8 93)) 5), u 48 (sg 50)]
def r20_10 : List COp := [u 51 (mv 0), u 52 (mv 0), u 53 (nk 52), u 54 (fa 52 53 1), u 55 (ld 3 54), u 56 (bc .add 3 55 1 3), u 57 (cf 18 #[(t 51), (ci 10), (t 56)] #[50, 3, 3])]
def r20_11 : List COp := [u 58 (mv 0), u 59 (mv 0), u 60 (nk 59), u 61 (fa 52 60 3), u 62 (ld 3 61), u 63 (bc .sub 3 62 1 3), u 64 (cb .max #[(t 63), (ci 0)] #[3, 3]), u 65 (nk 58), u 66 (fa 52 65 3), o (.store 3 (t 66) (t 64))]
def r20_12 : List COp := [u 68 (mv 3), u 69 (.binOp .eql 5 (t 68) (.const (.int .u8 125)) 5), u 67 (sg 69)]
def r20_13 : List COp := [u 70 (mv 0), u 71 (mv 0), u 72 (nk 71), u 73 (fa 52 72 1), u 74 (ld 3 73), u 75 (bc .add 3 74 1 3), u 76 (cf 18 #[(t 70), (ci 11), (t 75)] #[50, 3, 3])]
def r20_14 : List COp := [u 77 (mv 0), u 78 (mv 0), u 79 (nk 78), u 80 (fa 52 79 3), u 81 (ld 3 80), u 82 (bc .sub 3 81 1 3), u 83 (cb .max #[(t 82), (ci 0)] #[3, 3]), u 84 (nk 77), u 85 (fa 52 84 3), o (.store 3 (t 85) (t 83))]
def r20_15 : List COp := [u 87 (mv 3), u 88 (.binOp .eql 5 (t 87) (.const (.int .u8 44)) 5), u 89 (mv 88), gt 89 90 (mv 0), gt 89 91 (nk 90), gt 89 92 (fa 52 91 3), gt 89 93 (ld 3 92), gt 89 94 (bc .gtr 3 93 0 3), u 95 (pf 89 94), u 86 (sg 95)]
def r20_16 : List COp := [u 96 (mv 0), u 97 (mv 0), u 98 (nk 97), u 99 (fa 52 98 1), u 100 (ld 3 99), u 101 (bc .add 3 100 1 3), u 102 (cf 18 #[(t 96), (ci 7), (t 101)] #[50, 3, 3])]
def r20_17 : List COp := [u 2 (.assign (.const (.bool true)))]
def correctorref6_scanner_bracket (F : Nat) (a0 : correctorref6_scanner) : Option (Bool × correctorref6_scanner) :=
 if 0 ≤ a0.At ∧ a0.At < (a0.B.length : Int) then
  (a0.B[a0.At.toNat]?).bind fun x19 =>
  ((if (x19.toNat : Int) = (91 : Int) then
    (correctorref6_scanner_add F a0 8 (w64 (a0.At + 1))).bind fun r128 =>
    some (.inl (⟨r128.B, r128.At, r128.Row, w64 (r128.Open + 1), r128.Base, r128.Only, r128.Text, r128.L⟩ : correctorref6_scanner))
   else
    if (x19.toNat : Int) = (123 : Int) then
     (correctorref6_scanner_add F a0 9 (w64 (a0.At + 1))).bind fun r148 =>
     some (.inl (⟨r148.B, r148.At, r148.Row, w64 (r148.Open + 1), r148.Base, r148.Only, r148.Text, r148.L⟩ : correctorref6_scanner))
    else
     if (x19.toNat : Int) = (93 : Int) then
      (correctorref6_scanner_add F a0 10 (w64 (a0.At + 1))).bind fun r168 =>
      some (.inl (⟨r168.B, r168.At, r168.Row, imax (w64 (r168.Open - 1)) 0, r168.Base, r168.Only, r168.Text, r168.L⟩ : correctorref6_scanner))
     else
      if (x19.toNat : Int) = (125 : Int) then
       (correctorref6_scanner_add F a0 11 (w64 (a0.At + 1))).bind fun r188 =>
       some (.inl (⟨r188.B, r188.At, r188.Row, imax (w64 (r188.Open - 1)) 0, r188.Base, r188.Only, r188.Text, r188.L⟩ : correctorref6_scanner))
      else
       if (x19.toNat : Int) = (44 : Int) then
        if (0 : Int) < a0.Open then
         (correctorref6_scanner_add F a0 7 (w64 (a0.At + 1))).bind fun r208 =>
         some (.inl r208)
        else
         some (.inr (false, a0))
       else
        some (.inr (false, a0))) : Option (Sum correctorref6_scanner (Bool × correctorref6_scanner))).bind fun o => match o with
   | .inl x225 => some (true, x225)
   | .inr y => some y
 else none
theorem correctorref6_scanner_bracket_ok (F : Nat) {h : AH} {Z : Zn} {a0 : correctorref6_scanner} {b1 : Nat} {v3 : Value} {v5 : Value} {c6 : List Value} (hP : Pre Z h [.blk b1 (K52 v3 v5 a0), .gs v5 c6 (csz api_Token)]) (q2 : RS (α := UInt8) Z v3 a0.B) (q4 : RCs (α := api_Token) Z c6 a0.L) {r : Bool × correctorref6_scanner} (hm : correctorref6_scanner_bracket F a0 = some r) :
  ∃ v h' Z' A', callI Try.prog 20 [Pt b1 0] h = some (v, h') ∧ St h (idsL [.blk b1 (K52 v3 v5 a0), .gs v5 c6 (csz api_Token)]) Z (0, 0) Z' h' A' ∧ ∃ v8 : Value, ∃ v10 : Value, ∃ c11 : List Value, .bool r.1 = v ∧ A' = [.blk b1 (K52 v8 v10 r.2), .gs v10 c11 (csz api_Token)] ∧ RS (α := UInt8) Z' v8 r.2.B ∧ RCs (α := api_Token) Z' c11 r.2.L := by
 refine fn_intro (A := [.blk b1 (K52 v3 v5 a0), .gs v5 c6 (csz api_Token)]) (Q := fun v Z' A' => ∃ v8 : Value, ∃ v10 : Value, ∃ c11 : List Value, .bool r.1 = v ∧ A' = [.blk b1 (K52 v8 v10 r.2), .gs v10 c11 (csz api_Token)] ∧ RS (α := UInt8) Z' v8 r.2.B ∧ RCs (α := api_Token) Z' c11 r.2.L) Try.func20 rfl rfl (by kernel_rfl) hP ?_
 intro hs hS
 unfold correctorref6_scanner_bracket at hm
 refine sr r20_0 ?_
 refine xe 1 [(0, Pt b1 0)] ?_
 refine sq ?_
 refine srF r20_1 hS ?_
 intro bs12 h13 hlv15 hS14
 refine yq 3 [(6, Pt b1 0), (0, Pt b1 0)] ?_
 have lt16 : b1 < bs12 := hlv15.1 _ (List.mem_of_getElem? (i := 0) rfl) _ (by simp [Itm.ids])
 refine e_lookO (v := v3) rfl trivial rfl (by show b1 < _; omega) (same1 (v := v3) (RS.sim1 q2)) (hS14.ldAt (i := 0) rfl (by kernel_rfl)) trivial ?_
 refine yq 3 [(10, Pt b1 1), (7, v3), (0, Pt b1 0)] ?_
 have lt17 : b1 < bs12 := hlv15.1 _ (List.mem_of_getElem? (i := 0) rfl) _ (by simp [Itm.ids])
 refine e_lookO (v := V a0.At) rfl trivial rfl (by show b1 < _; omega) (same1 (v := V a0.At) trivial) (hS14.ldAt (i := 0) rfl (by kernel_rfl)) trivial ?_
 obtain ⟨hc18, hm⟩ := chk hm
 refine e_val rfl trivial (o_index rfl rfl (by kernel_rfl : slTy _ _ = some (csz UInt8)) (RS.based q2 (by omega)) hc18.1 hc18.2) ?_
 obtain ⟨x19, hx20, hm⟩ := obind hm
 obtain ⟨cs21, hc22, he23⟩ := RS.elz q2 (i := a0.At) hx20
 obtain rfl := rc_UInt8 hc22
 refine e_lookZ rfl rfl trivial (fun h2 hz => o_lde (w := .int .u8 (x19.toNat : Int)) (he23 h2 hz) rfl (by kernel_rfl)) (hS14.zin0 (Zle.refl _)) (same1 (v := .int .u8 (x19.toNat : Int)) trivial) trivial ?_
 refine ye 1 [(3, .int .u8 (x19.toNat : Int)), (0, Pt b1 0)] ?_
 have hS25 := hS14.unres
 obtain ⟨o125, ho124, hm⟩ := obind hm
 refine W_join [] (fun l h => ∃ Z224 : Zn, ∃ x225 : correctorref6_scanner, ∃ v227 : Value, ∃ v229 : Value, ∃ c230 : List Value, .inl x225 = o125 ∧ RS (α := UInt8) Z224 v227 x225.B ∧ RCs (α := api_Token) Z224 c230 x225.L ∧ l = [] ∧ St hs (idsL [.blk b1 (K52 v3 v5 a0), .gs v5 c6 (csz api_Token)]) Z (0, 0) Z224 h [.blk b1 (K52 v227 v229 x225), .gs v229 c230 (csz api_Token)]) ?_ ?_
 rintro l h231 ⟨Z224, x225, v227, v229, c230, rfl, q226, q228, rfl, hS232⟩
 try dsimp only at hm
 refine sr r20_17 ?_
 refine xe 1 [(2, .bool true)] ?_
 refine rt ?_
 refine ⟨rfl, ?_⟩
 obtain rfl := si hm
 refine ⟨_, _, _, ResL.tmp rfl (ResL.nil), hS232, ?_⟩
 exact ⟨v227, v229, c230, rfl, rfl, q226, q228⟩
 refine bk 0 ?_
 refine sr r20_3 ?_
 refine xq 1 [(15, .int .u8 (x19.toNat : Int)), (3, .int .u8 (x19.toNat : Int)), (0, Pt b1 0)] ?_
 rcases ifs ho124 with ⟨hp127, ho124⟩ | ⟨hp127, ho124⟩
 refine r_step rfl trivial (o_cmp rfl rfl (c_eql_T hp127)) ?_
 refine xe 1 [(14, .bool true), (3, .int .u8 (x19.toNat : Int)), (0, Pt b1 0)] ?_
 refine cT 14 rfl ?_
 refine sr r20_4 ?_
 refine xq 4 [(20, Pt b1 1), (17, Pt b1 0), (0, Pt b1 0)] ?_
 refine r_step rfl trivial (o_ldb (v := V a0.At) hS25 (i := 0) rfl rfl (by kernel_rfl)) ?_
 refine xq 1 [(22, V (w64 (a0.At + 1))), (17, Pt b1 0), (0, Pt b1 0)] ?_
 obtain ⟨r128, hx129, ho124⟩ := obind ho124
 have hF135 : St _ _ _ _ _ _ ([.blk b1 (K52 v3 v5 a0), .gs v5 c6 (csz api_Token)] ++ []) := ((hS25.front 1 rfl).front 1 rfl)
 obtain ⟨v130, h131, Z136, A138, hcl132, hSc133, v140, v142, c143, rfl, rfl, q139, q141⟩ := correctorref6_scanner_add_ok F hF135.preL q2 q4 hx129
 have hZ137 := hSc133.zle
 have hS134 := hF135.call hSc133
 replace hS134 : St _ _ _ _ _ _ [.blk b1 (K52 v140 v142 r128), .gs v142 c143 (csz api_Token)] := hS134
 refine r_step rfl trivial (o_call hcl132 rfl rfl rfl) ?_
 refine xf [(0, Pt b1 0)] ?_
 refine rg r20_5 ?_
 refine xq 3 [(26, Pt b1 3), (24, Pt b1 0)] ?_
 refine r_step rfl trivial (o_ldb (v := V r128.Open) hS134 (i := 0) rfl rfl (by kernel_rfl)) ?_
 refine xq 3 [(30, Pt b1 3), (28, V (w64 (r128.Open + 1)))] ?_
 refine r_ex1 rfl trivial (o_stb (vs := [V (w64 (r128.Open + 1))]) (cells' := [v140, V r128.At, V r128.Row, V (w64 (r128.Open + 1)), V r128.Base, .bool r128.Only, V r128.Text, v142]) (L' := [.blk b1 [v140, V r128.At, V r128.Row, V (w64 (r128.Open + 1)), V r128.Base, .bool r128.Only, V r128.Text, v142], .gs v142 c143 (csz api_Token)]) hS134 (i := 0) rfl rfl rfl rfl (by kernel_rfl) rfl rfl rfl rfl) ?_
 intro h144 hS145
 refine xf [] ?_
 obtain rfl := si ho124
 exact ⟨_, (⟨r128.B, r128.At, r128.Row, w64 (r128.Open + 1), r128.Base, r128.Only, r128.Text, r128.L⟩ : correctorref6_scanner), v140, v142, c143, rfl, q139, q141, rfl, hS145⟩
 refine r_step rfl trivial (o_cmp rfl rfl (c_eql_F hp127)) ?_
 refine xe 1 [(14, .bool false), (3, .int .u8 (x19.toNat : Int)), (0, Pt b1 0)] ?_
 refine cF 14 rfl ?_
 refine sr r20_6 ?_
 refine xq 1 [(32, .int .u8 (x19.toNat : Int)), (3, .int .u8 (x19.toNat : Int)), (0, Pt b1 0)] ?_
 rcases ifs ho124 with ⟨hp147, ho124⟩ | ⟨hp147, ho124⟩
 refine r_step rfl trivial (o_cmp rfl rfl (c_eql_T hp147)) ?_
 refine xe 1 [(31, .bool true), (3, .int .u8 (x19.toNat : Int)), (0, Pt b1 0)] ?_
 refine cT 31 rfl ?_
 refine sr r20_7 ?_
 refine xq 4 [(37, Pt b1 1), (34, Pt b1 0), (0, Pt b1 0)] ?_
 refine r_step rfl trivial (o_ldb (v := V a0.At) hS25 (i := 0) rfl rfl (by kernel_rfl)) ?_
 refine xq 1 [(39, V (w64 (a0.At + 1))), (34, Pt b1 0), (0, Pt b1 0)] ?_
 obtain ⟨r148, hx149, ho124⟩ := obind ho124
 have hF155 : St _ _ _ _ _ _ ([.blk b1 (K52 v3 v5 a0), .gs v5 c6 (csz api_Token)] ++ []) := ((hS25.front 1 rfl).front 1 rfl)
 obtain ⟨v150, h151, Z156, A158, hcl152, hSc153, v160, v162, c163, rfl, rfl, q159, q161⟩ := correctorref6_scanner_add_ok F hF155.preL q2 q4 hx149
 have hZ157 := hSc153.zle
 have hS154 := hF155.call hSc153
 replace hS154 : St _ _ _ _ _ _ [.blk b1 (K52 v160 v162 r148), .gs v162 c163 (csz api_Token)] := hS154
 refine r_step rfl trivial (o_call hcl152 rfl rfl rfl) ?_
 refine xf [(0, Pt b1 0)] ?_
 refine rg r20_8 ?_
 refine xq 3 [(43, Pt b1 3), (41, Pt b1 0)] ?_
 refine r_step rfl trivial (o_ldb (v := V r148.Open) hS154 (i := 0) rfl rfl (by kernel_rfl)) ?_
 refine xq 3 [(47, Pt b1 3), (45, V (w64 (r148.Open + 1)))] ?_
 refine r_ex1 rfl trivial (o_stb (vs := [V (w64 (r148.Open + 1))]) (cells' := [v160, V r148.At, V r148.Row, V (w64 (r148.Open + 1)), V r148.Base, .bool r148.Only, V r148.Text, v162]) (L' := [.blk b1 [v160, V r148.At, V r148.Row, V (w64 (r148.Open + 1)), V r148.Base, .bool r148.Only, V r148.Text, v162], .gs v162 c163 (csz api_Token)]) hS154 (i := 0) rfl rfl rfl rfl (by kernel_rfl) rfl rfl rfl rfl) ?_
 intro h164 hS165
 refine xf [] ?_
 obtain rfl := si ho124
 exact ⟨_, (⟨r148.B, r148.At, r148.Row, w64 (r148.Open + 1), r148.Base, r148.Only, r148.Text, r148.L⟩ : correctorref6_scanner), v160, v162, c163, rfl, q159, q161, rfl, hS165⟩
 refine r_step rfl trivial (o_cmp rfl rfl (c_eql_F hp147)) ?_
 refine xe 1 [(31, .bool false), (3, .int .u8 (x19.toNat : Int)), (0, Pt b1 0)] ?_
 refine cF 31 rfl ?_
 refine sr r20_9 ?_
 refine xq 1 [(49, .int .u8 (x19.toNat : Int)), (3, .int .u8 (x19.toNat : Int)), (0, Pt b1 0)] ?_
 rcases ifs ho124 with ⟨hp167, ho124⟩ | ⟨hp167, ho124⟩
 refine r_step rfl trivial (o_cmp rfl rfl (c_eql_T hp167)) ?_
 refine xe 1 [(48, .bool true), (3, .int .u8 (x19.toNat : Int)), (0, Pt b1 0)] ?_
 refine cT 48 rfl ?_
 refine sr r20_10 ?_
 refine xq 4 [(54, Pt b1 1), (51, Pt b1 0), (0, Pt b1 0)] ?_
 refine r_step rfl trivial (o_ldb (v := V a0.At) hS25 (i := 0) rfl rfl (by kernel_rfl)) ?_
 refine xq 1 [(56, V (w64 (a0.At + 1))), (51, Pt b1 0), (0, Pt b1 0)] ?_
 obtain ⟨r168, hx169, ho124⟩ := obind ho124
 have hF175 : St _ _ _ _ _ _ ([.blk b1 (K52 v3 v5 a0), .gs v5 c6 (csz api_Token)] ++ []) := ((hS25.front 1 rfl).front 1 rfl)
 obtain ⟨v170, h171, Z176, A178, hcl172, hSc173, v180, v182, c183, rfl, rfl, q179, q181⟩ := correctorref6_scanner_add_ok F hF175.preL q2 q4 hx169
 have hZ177 := hSc173.zle
 have hS174 := hF175.call hSc173
 replace hS174 : St _ _ _ _ _ _ [.blk b1 (K52 v180 v182 r168), .gs v182 c183 (csz api_Token)] := hS174
 refine r_step rfl trivial (o_call hcl172 rfl rfl rfl) ?_
 refine xf [(0, Pt b1 0)] ?_
 refine rg r20_11 ?_
 refine xq 4 [(61, Pt b1 3), (58, Pt b1 0)] ?_
 refine r_step rfl trivial (o_ldb (v := V r168.Open) hS174 (i := 0) rfl rfl (by kernel_rfl)) ?_
 refine xq 4 [(66, Pt b1 3), (64, V (imax (w64 (r168.Open - 1)) 0))] ?_
 refine r_ex1 rfl trivial (o_stb (vs := [V (imax (w64 (r168.Open - 1)) 0)]) (cells' := [v180, V r168.At, V r168.Row, V (imax (w64 (r168.Open - 1)) 0), V r168.Base, .bool r168.Only, V r168.Text, v182]) (L' := [.blk b1 [v180, V r168.At, V r168.Row, V (imax (w64 (r168.Open - 1)) 0), V r168.Base, .bool r168.Only, V r168.Text, v182], .gs v182 c183 (csz api_Token)]) hS174 (i := 0) rfl rfl rfl rfl (by kernel_rfl) rfl rfl rfl rfl) ?_
 intro h184 hS185
 refine xf [] ?_
 obtain rfl := si ho124
 exact ⟨_, (⟨r168.B, r168.At, r168.Row, imax (w64 (r168.Open - 1)) 0, r168.Base, r168.Only, r168.Text, r168.L⟩ : correctorref6_scanner), v180, v182, c183, rfl, q179, q181, rfl, hS185⟩
 refine r_step rfl trivial (o_cmp rfl rfl (c_eql_F hp167)) ?_
 refine xe 1 [(48, .bool false), (3, .int .u8 (x19.toNat : Int)), (0, Pt b1 0)] ?_
 refine cF 48 rfl ?_
 refine sr r20_12 ?_
 refine xq 1 [(68, .int .u8 (x19.toNat : Int)), (3, .int .u8 (x19.toNat : Int)), (0, Pt b1 0)] ?_
 rcases ifs ho124 with ⟨hp187, ho124⟩ | ⟨hp187, ho124⟩
 refine r_step rfl trivial (o_cmp rfl rfl (c_eql_T hp187)) ?_
 refine xe 1 [(67, .bool true), (3, .int .u8 (x19.toNat : Int)), (0, Pt b1 0)] ?_
 refine cT 67 rfl ?_
 refine sr r20_13 ?_
 refine xq 4 [(73, Pt b1 1), (70, Pt b1 0), (0, Pt b1 0)] ?_
 refine r_step rfl trivial (o_ldb (v := V a0.At) hS25 (i := 0) rfl rfl (by kernel_rfl)) ?_
 refine xq 1 [(75, V (w64 (a0.At + 1))), (70, Pt b1 0), (0, Pt b1 0)] ?_
 obtain ⟨r188, hx189, ho124⟩ := obind ho124
 have hF195 : St _ _ _ _ _ _ ([.blk b1 (K52 v3 v5 a0), .gs v5 c6 (csz api_Token)] ++ []) := ((hS25.front 1 rfl).front 1 rfl)
 obtain ⟨v190, h191, Z196, A198, hcl192, hSc193, v200, v202, c203, rfl, rfl, q199, q201⟩ := correctorref6_scanner_add_ok F hF195.preL q2 q4 hx189
 have hZ197 := hSc193.zle
 have hS194 := hF195.call hSc193
 replace hS194 : St _ _ _ _ _ _ [.blk b1 (K52 v200 v202 r188), .gs v202 c203 (csz api_Token)] := hS194
 refine r_step rfl trivial (o_call hcl192 rfl rfl rfl) ?_
 refine xf [(0, Pt b1 0)] ?_
 refine rg r20_14 ?_
 refine xq 4 [(80, Pt b1 3), (77, Pt b1 0)] ?_
 refine r_step rfl trivial (o_ldb (v := V r188.Open) hS194 (i := 0) rfl rfl (by kernel_rfl)) ?_
 refine xq 4 [(85, Pt b1 3), (83, V (imax (w64 (r188.Open - 1)) 0))] ?_
 refine r_ex1 rfl trivial (o_stb (vs := [V (imax (w64 (r188.Open - 1)) 0)]) (cells' := [v200, V r188.At, V r188.Row, V (imax (w64 (r188.Open - 1)) 0), V r188.Base, .bool r188.Only, V r188.Text, v202]) (L' := [.blk b1 [v200, V r188.At, V r188.Row, V (imax (w64 (r188.Open - 1)) 0), V r188.Base, .bool r188.Only, V r188.Text, v202], .gs v202 c203 (csz api_Token)]) hS194 (i := 0) rfl rfl rfl rfl (by kernel_rfl) rfl rfl rfl rfl) ?_
 intro h204 hS205
 refine xf [] ?_
 obtain rfl := si ho124
 exact ⟨_, (⟨r188.B, r188.At, r188.Row, imax (w64 (r188.Open - 1)) 0, r188.Base, r188.Only, r188.Text, r188.L⟩ : correctorref6_scanner), v200, v202, c203, rfl, q199, q201, rfl, hS205⟩
 refine r_step rfl trivial (o_cmp rfl rfl (c_eql_F hp187)) ?_
 refine xe 1 [(67, .bool false), (3, .int .u8 (x19.toNat : Int)), (0, Pt b1 0)] ?_
 refine cF 67 rfl ?_
 refine sr r20_15 ?_
 refine xq 1 [(87, .int .u8 (x19.toNat : Int)), (0, Pt b1 0)] ?_
 rcases ifs ho124 with ⟨hp206, ho124⟩ | ⟨hp206, ho124⟩
 refine r_step rfl trivial (o_cmp rfl rfl (c_eql_T hp206)) ?_
 refine xq 4 [(92, Pt b1 3), (89, .bool true), (0, Pt b1 0)] ?_
 refine r_step rfl rfl (o_ldb (v := V a0.Open) hS25 (i := 0) rfl rfl (by kernel_rfl)) ?_
 rcases ifs ho124 with ⟨hp207, ho124⟩ | ⟨hp207, ho124⟩
 refine r_step rfl rfl (o_cmp rfl rfl (c_gtr_T hp207)) ?_
 refine xe 2 [(86, .bool true), (0, Pt b1 0)] ?_
 refine cT 86 rfl ?_
 refine rg r20_16 ?_
 refine xq 4 [(99, Pt b1 1), (96, Pt b1 0)] ?_
 refine r_step rfl trivial (o_ldb (v := V a0.At) hS25 (i := 0) rfl rfl (by kernel_rfl)) ?_
 refine xq 1 [(101, V (w64 (a0.At + 1))), (96, Pt b1 0)] ?_
 obtain ⟨r208, hx209, ho124⟩ := obind ho124
 have hF215 : St _ _ _ _ _ _ ([.blk b1 (K52 v3 v5 a0), .gs v5 c6 (csz api_Token)] ++ []) := ((hS25.front 1 rfl).front 1 rfl)
 obtain ⟨v210, h211, Z216, A218, hcl212, hSc213, v220, v222, c223, rfl, rfl, q219, q221⟩ := correctorref6_scanner_add_ok F hF215.preL q2 q4 hx209
 have hZ217 := hSc213.zle
 have hS214 := hF215.call hSc213
 replace hS214 : St _ _ _ _ _ _ [.blk b1 (K52 v220 v222 r208), .gs v222 c223 (csz api_Token)] := hS214
 refine r_step rfl trivial (o_call hcl212 rfl rfl rfl) ?_
 refine xf [] ?_
 obtain rfl := si ho124
 exact ⟨_, r208, v220, v222, c223, rfl, q219, q221, rfl, hS214⟩
 refine r_step rfl rfl (o_cmp rfl rfl (c_gtr_F hp207)) ?_
 refine xe 2 [(86, .bool false), (0, Pt b1 0)] ?_
 refine cF 86 rfl ?_
 refine sr r20_2 ?_
 refine xe 1 [(2, .bool false)] ?_
 refine rt ?_
 refine blkX_ret ?_
 refine ⟨rfl, ?_⟩
 obtain rfl := si ho124
 obtain rfl := si hm
 refine ⟨_, _, _, ResL.tmp rfl (ResL.nil), hS25, ?_⟩
 exact ⟨v3, v5, c6, rfl, rfl, q2, q4⟩
 refine r_step rfl trivial (o_cmp rfl rfl (c_eql_F hp206)) ?_
 refine xe 8 [(86, .bool false), (0, Pt b1 0)] ?_
 refine cF 86 rfl ?_
 refine sr r20_2 ?_
 refine xe 1 [(2, .bool false)] ?_
 refine rt ?_
 refine blkX_ret ?_
 refine ⟨rfl, ?_⟩
 obtain rfl := si ho124
 obtain rfl := si hm
 refine ⟨_, _, _, ResL.tmp rfl (ResL.nil), hS25, ?_⟩
 exact ⟨v3, v5, c6, rfl, rfl, q2, q4⟩

def r56_0 : List COp := [u 8 (.assign (.const (.int .i32 0))), u 9 (.assign (ci 0))]
def r56_1 : List COp := [u 11 (mv 0), u 12 (cb .len #[(t 11)] #[24]), u 13 (mv 1), u 14 (bo .lss 3 12 13 3)]
def r56_2 : List COp := [u 8 (.assign (.const (.int .i32 (-1)))), u 9 (.assign (ci 1))]
def r56_3 : List COp := [u 10 (.assign (ci 1))]
def r56_4 : List COp := [u 15 (mv 10), u 16 (mv 1), u 17 (bo .lss 3 15 16 3)]
def r56_5 : List COp := [u 18 (mv 10), u 19 (bc .add 3 18 1 3), u 10 (sg 19)]
def r56_6 : List COp := [u 20 (mv 0), u 21 (mv 10), u 22 (ia 24 20 21), u 23 (ld 5 22), u 24 (.binOp .lss 5 (t 23) (.const (.int .u8 128)) 5), u 25 (mv 24), gn 25 26 (mv 0), gn 25 27 (mv 10), gn 25 28 (ia 24 26 27), gn 25 29 (ld 5 28), gn 25 30 (.binOp .gtr 5 (t 29) (.const (.int .u8 191)) 5), u 31 (pt 25 30)]
def r56_7 : List COp := [u 8 (.assign (.const (.int .i32 (-1)))), u 9 (.assign (ci 1))]
def r56_8 : List COp := [u 32 (mv 2), u 33 (.binOp .shl 21 (t 32) (.const (.int .u64 6)) 88), u 34 (mv 0), u 35 (mv 10), u 36 (ia 24 34 35), u 37 (ld 5 36), u 38 (.binOp .and 5 (t 37) (.const (.int .u8 63)) 5), u 39 (.convert 5 21 (t 38)), u 40 (bo .or 21 33 39 21), u 2 (sg 40)]
def r56_9 : List COp := [u 41 (mv 2), u 42 (mv 3), u 43 (bo .lss 21 41 42 21), u 44 (mv 43), gn 44 45 (mv 2), gn 44 46 (.binOp .gtr 21 (t 45) (.const (.int .i32 1114111)) 21), u 47 (pt 44 46), u 48 (mv 47), gn 48 49 (mv 2), gn 48 50 (.binOp .geq 21 (t 49) (.const (.int .i32 55296)) 21), gn 48 51 (mv 50), gt 51 52 (mv 2), gt 51 53 (.binOp .leq 21 (t 52) (.const (.int .i32 57343)) 21), gn 48 54 (pf 51 53), u 55 (pt 48 54)]
def r56_10 : List COp := [u 8 (.assign (.const (.int .i32 (-1)))), u 9 (.assign (ci 1))]
def r56_11 : List COp := [u 56 (mv 2), u 57 (mv 1), u 8 (sg 56), u 9 (sg 57)]
def correctorref1_sign_l0 (F : Nat) (a0 : List UInt8) (a1 : Int) (a2 : Int) (a3 : Int) : Nat → Int → Int → Option (Sum Int (Int × Int))
 | 0, _, _ => none
 | n + 1, x261, x262 =>
  if x262 < a1 then
   if 0 ≤ x262 ∧ x262 < (a0.length : Int) then
    (a0[x262.toNat]?).bind fun x302 =>
    if (x302.toNat : Int) < (128 : Int) then
     some (.inr ((-1), 1))
    else
     if 0 ≤ x262 ∧ x262 < (a0.length : Int) then
      (a0[x262.toNat]?).bind fun x310 =>
      if (191 : Int) < (x310.toNat : Int) then
       some (.inr ((-1), 1))
      else
       if 0 ≤ x262 ∧ x262 < (a0.length : Int) then
        (a0[x262.toNat]?).bind fun x318 =>
        correctorref1_sign_l0 F a0 a1 a2 a3 n (ior .i32 (ishl .i32 x261 6) (IntKind.wrap .i32 (iand .u8 (x318.toNat : Int) 63))) (w64 (x262 + 1))
       else none
     else none
   else none
  else
   some (.inl x261)
def correctorref1_sign (F : Nat) (a0 : List UInt8) (a1 : Int) (a2 : Int) (a3 : Int) : Option (Int × Int) :=
 if (a0.length : Int) < a1 then
  some ((-1), 1)
 else
  ((correctorref1_sign_l0 F a0 a1 a2 a3 F a2 1) : Option (Sum Int (Int × Int))).bind fun o => match o with
   | .inl x326 => ((if x326 < a3 then
     some (.inr ((-1), 1))
    else
     if (1114111 : Int) < x326 then
      some (.inr ((-1), 1))
     else
      if (55296 : Int) ≤ x326 then
       if x326 ≤ (57343 : Int) then
        some (.inr ((-1), 1))
       else
        some (.inl ())
      else
       some (.inl ())) : Option (Sum Unit (Int × Int))).bind fun o => match o with
    | .inl () => some (x326, a1)
    | .inr y => some y
   | .inr y => some y
theorem correctorref1_sign_ok (F : Nat) {h : AH} {Z : Zn} {a0 : List UInt8} {a1 : Int} {a2 : Int} {a3 : Int} {v2 : Value} (hI : Inv Z h) (q1 : RS (α := UInt8) Z v2 a0) {r : Int × Int} (hm : correctorref1_sign F a0 a1 a2 a3 = some r) :
  ∃ v h', callI Try.prog 56 [v2, V a1, .int .i32 a2, .int .i32 a3] h = some (v, h') ∧ St h [] Z (0, 0) Z h' [] ∧ v = .tuple #[.int .i32 r.1, V r.2] := by
 refine fn_plain (Q := fun v => v = .tuple #[.int .i32 r.1, V r.2]) Try.func56 rfl rfl hI ?_
 intro hs hS
 unfold correctorref1_sign at hm
 refine sr r56_0 ?_
 refine xe 2 [(0, v2), (1, V a1), (2, .int .i32 a2), (3, .int .i32 a3)] ?_
 refine sq ?_
 refine sr r56_1 ?_
 refine xq 1 [(11, v2), (0, v2), (1, V a1), (2, .int .i32 a2), (3, .int .i32 a3)] ?_
 refine r_step rfl trivial (o_len rfl (RS.len q1) ⟨_, Try.underlying24⟩) ?_
 refine xq 1 [(13, V a1), (12, V (a0.length : Int)), (0, v2), (1, V a1), (2, .int .i32 a2), (3, .int .i32 a3)] ?_
 rcases ifs hm with ⟨hp5, hm⟩ | ⟨hp5, hm⟩
 refine r_step rfl trivial (o_cmp rfl rfl (c_lss_T hp5)) ?_
 refine xf [(14, .bool true), (0, v2), (1, V a1), (2, .int .i32 a2), (3, .int .i32 a3)] ?_
 refine cT 14 rfl ?_
 refine sr r56_2 ?_
 refine xe 2 [(9, V 1), (8, .int .i32 (-1))] ?_
 refine rt ?_
 refine ⟨rfl, ?_⟩
 obtain rfl := si hm
 refine ⟨_, _, _, ResL.tmp rfl (ResL.tmp rfl (ResL.nil)), hS, ?_⟩
 exact rfl
 refine r_step rfl trivial (o_cmp rfl rfl (c_lss_F hp5)) ?_
 refine xf [(14, .bool false), (0, v2), (1, V a1), (2, .int .i32 a2), (3, .int .i32 a3)] ?_
 refine kF 14 rfl ?_
 refine sq ?_
 refine sr r56_3 ?_
 refine xe 1 [(10, V 1), (0, v2), (1, V a1), (2, .int .i32 a2), (3, .int .i32 a3)] ?_
 obtain ⟨o259, ho258, hm⟩ := obind hm
 refine W_join [1, 2, 3] (fun l h => ∃ Z325 : Zn, ∃ x326 : Int, .inl x326 = o259 ∧ l = [(1, V a1), (2, .int .i32 x326), (3, .int .i32 a3)] ∧ St hs [] Z (0, 0) Z325 h []) ?_ ?_
 rintro l h327 ⟨Z325, x326, rfl, rfl, hS328⟩
 try dsimp only at hm
 refine sq ?_
 obtain ⟨o334, ho333, hm⟩ := obind hm
 refine W_seqJoin0 [1, 2] (fun l h => ∃ Z339 : Zn, .inl () = o334 ∧ l = [(1, V a1), (2, .int .i32 x326)] ∧ St hs [] Z (0, 0) Z339 h []) (by kernel_rfl) ?_ ?_
 rintro l h340 ⟨Z339, rfl, rfl, hS341⟩
 try dsimp only at hm
 refine sr r56_11 ?_
 refine xe 4 [(9, V a1), (8, .int .i32 x326)] ?_
 refine rt ?_
 refine ⟨rfl, ?_⟩
 obtain rfl := si hm
 refine ⟨_, _, _, ResL.tmp rfl (ResL.tmp rfl (ResL.nil)), hS341, ?_⟩
 exact rfl
 refine rg r56_9 ?_
 refine xq 2 [(42, .int .i32 a3), (41, .int .i32 x326), (1, V a1), (2, .int .i32 x326)] ?_
 rcases ifs ho333 with ⟨hp335, ho333⟩ | ⟨hp335, ho333⟩
 refine r_step rfl trivial (o_cmp rfl rfl (c_lss_T hp335)) ?_
 refine xe 12 [(55, .bool true), (1, V a1), (2, .int .i32 x326)] ?_
 refine cT 55 rfl ?_
 refine sr r56_10 ?_
 refine xe 2 [(9, V 1), (8, .int .i32 (-1))] ?_
 refine rt ?_
 refine ⟨rfl, ?_⟩
 obtain rfl := si ho333
 obtain rfl := si hm
 refine ⟨_, _, _, ResL.tmp rfl (ResL.tmp rfl (ResL.nil)), hS328, ?_⟩
 exact rfl
 refine r_step rfl trivial (o_cmp rfl rfl (c_lss_F hp335)) ?_
 refine xq 2 [(45, .int .i32 x326), (44, .bool false), (1, V a1), (2, .int .i32 x326)] ?_
 rcases ifs ho333 with ⟨hp336, ho333⟩ | ⟨hp336, ho333⟩
 refine r_step rfl rfl (o_cmp rfl rfl (c_gtr_T hp336)) ?_
 refine xe 9 [(55, .bool true), (1, V a1), (2, .int .i32 x326)] ?_
 refine cT 55 rfl ?_
 refine sr r56_10 ?_
 refine xe 2 [(9, V 1), (8, .int .i32 (-1))] ?_
 refine rt ?_
 refine ⟨rfl, ?_⟩
 obtain rfl := si ho333
 obtain rfl := si hm
 refine ⟨_, _, _, ResL.tmp rfl (ResL.tmp rfl (ResL.nil)), hS328, ?_⟩
 exact rfl
 refine r_step rfl rfl (o_cmp rfl rfl (c_gtr_F hp336)) ?_
 refine xq 3 [(49, .int .i32 x326), (48, .bool false), (1, V a1), (2, .int .i32 x326)] ?_
 rcases ifs ho333 with ⟨hp337, ho333⟩ | ⟨hp337, ho333⟩
 refine r_step rfl rfl (o_cmp rfl rfl (c_geq_T hp337)) ?_
 refine xq 2 [(52, .int .i32 x326), (51, .bool true), (48, .bool false), (1, V a1), (2, .int .i32 x326)] ?_
 rcases ifs ho333 with ⟨hp338, ho333⟩ | ⟨hp338, ho333⟩
 refine r_step rfl rfl (o_cmp rfl rfl (c_leq_T hp338)) ?_
 refine xe 2 [(55, .bool true), (1, V a1), (2, .int .i32 x326)] ?_
 refine cT 55 rfl ?_
 refine sr r56_10 ?_
 refine xe 2 [(9, V 1), (8, .int .i32 (-1))] ?_
 refine rt ?_
 refine ⟨rfl, ?_⟩
 obtain rfl := si ho333
 obtain rfl := si hm
 refine ⟨_, _, _, ResL.tmp rfl (ResL.tmp rfl (ResL.nil)), hS328, ?_⟩
 exact rfl
 refine r_step rfl rfl (o_cmp rfl rfl (c_leq_F hp338)) ?_
 refine xe 2 [(55, .bool false), (1, V a1), (2, .int .i32 x326)] ?_
 refine kF 55 rfl ?_
 obtain rfl := si ho333
 exact ⟨_, rfl, rfl, hS328⟩
 refine r_step rfl rfl (o_cmp rfl rfl (c_geq_F hp337)) ?_
 refine xe 5 [(55, .bool false), (1, V a1), (2, .int .i32 x326)] ?_
 refine kF 55 rfl ?_
 obtain rfl := si ho333
 exact ⟨_, rfl, rfl, hS328⟩
 refine bk 0 ?_
 refine lp [0, 1, 2, 3, 10] (fun n l h => ∃ Z260 : Zn, ∃ x261 : Int, ∃ x262 : Int, correctorref1_sign_l0 F a0 a1 a2 a3 n x261 x262 = some o259 ∧ l = [(0, v2), (1, V a1), (2, .int .i32 x261), (3, .int .i32 a3), (10, V x262)] ∧ St hs [] Z (0, 0) Z260 h []) F ⟨_, a2, 1, ho258, rfl, hS⟩ ?_
 rintro n265 l h263 ⟨Z260, x261, x262, ho258, rfl, hS264⟩
 rcases n265 with _ | n265
 cases (show none = some o259 from ho258)
 rw [correctorref1_sign_l0] at ho258
 refine sq ?_
 refine sr r56_4 ?_
 refine xq 2 [(16, V a1), (15, V x262), (0, v2), (1, V a1), (2, .int .i32 x261), (3, .int .i32 a3), (10, V x262)] ?_
 rcases ifs ho258 with ⟨hp268, ho258⟩ | ⟨hp268, ho258⟩
 refine r_step rfl trivial (o_cmp rfl rfl (c_lss_T hp268)) ?_
 refine xf [(17, .bool true), (0, v2), (1, V a1), (2, .int .i32 x261), (3, .int .i32 a3), (10, V x262)] ?_
 refine kT 17 rfl ?_
 refine sq ?_
 refine bk 1 ?_
 refine sq ?_
 refine sr r56_6 ?_
 refine xq 2 [(21, V x262), (20, v2), (0, v2), (1, V a1), (2, .int .i32 x261), (3, .int .i32 a3), (10, V x262)] ?_
 obtain ⟨hc301, ho258⟩ := chk ho258
 refine r_step rfl trivial (o_index rfl rfl (by kernel_rfl : slTy _ _ = some (csz UInt8)) (RS.based (q1.mono hS264.zle) (by omega)) hc301.1 hc301.2) ?_
 obtain ⟨x302, hx303, ho258⟩ := obind ho258
 obtain ⟨cs304, hc305, he306⟩ := RS.elz (q1.mono hS264.zle) (i := x262) hx303
 obtain rfl := rc_UInt8 hc305
 refine r_step rfl trivial (o_lde (w := .int .u8 (x302.toNat : Int)) (he306 _ (hS264.zin0 (Zle.refl _))) rfl (by kernel_rfl)) ?_
 rcases ifs ho258 with ⟨hp308, ho258⟩ | ⟨hp308, ho258⟩
 refine r_step rfl trivial (o_cmp rfl rfl (c_lss_T hp308)) ?_
 refine xe 7 [(31, .bool true), (0, v2), (1, V a1), (2, .int .i32 x261), (3, .int .i32 a3), (10, V x262)] ?_
 refine cT 31 rfl ?_
 refine sr r56_7 ?_
 refine xe 2 [(9, V 1), (8, .int .i32 (-1))] ?_
 refine rt ?_
 refine blkX_ret ?_
 refine blkX_ret ?_
 refine ⟨rfl, ?_⟩
 obtain rfl := si ho258
 obtain rfl := si hm
 refine ⟨_, _, _, ResL.tmp rfl (ResL.tmp rfl (ResL.nil)), hS264, ?_⟩
 exact rfl
 refine r_step rfl trivial (o_cmp rfl rfl (c_lss_F hp308)) ?_
 refine xq 3 [(27, V x262), (26, v2), (25, .bool false), (0, v2), (1, V a1), (2, .int .i32 x261), (3, .int .i32 a3), (10, V x262)] ?_
 obtain ⟨hc309, ho258⟩ := chk ho258
 refine r_step rfl rfl (o_index rfl rfl (by kernel_rfl : slTy _ _ = some (csz UInt8)) (RS.based (q1.mono hS264.zle) (by omega)) hc309.1 hc309.2) ?_
 obtain ⟨x310, hx311, ho258⟩ := obind ho258
 obtain ⟨cs312, hc313, he314⟩ := RS.elz (q1.mono hS264.zle) (i := x262) hx311
 obtain rfl := rc_UInt8 hc313
 refine r_step rfl rfl (o_lde (w := .int .u8 (x310.toNat : Int)) (he314 _ (hS264.zin0 (Zle.refl _))) rfl (by kernel_rfl)) ?_
 rcases ifs ho258 with ⟨hp316, ho258⟩ | ⟨hp316, ho258⟩
 refine r_step rfl rfl (o_cmp rfl rfl (c_gtr_T hp316)) ?_
 refine xe 1 [(31, .bool true), (0, v2), (1, V a1), (2, .int .i32 x261), (3, .int .i32 a3), (10, V x262)] ?_
 refine cT 31 rfl ?_
 refine sr r56_7 ?_
 refine xe 2 [(9, V 1), (8, .int .i32 (-1))] ?_
 refine rt ?_
 refine blkX_ret ?_
 refine blkX_ret ?_
 refine ⟨rfl, ?_⟩
 obtain rfl := si ho258
 obtain rfl := si hm
 refine ⟨_, _, _, ResL.tmp rfl (ResL.tmp rfl (ResL.nil)), hS264, ?_⟩
 exact rfl
 refine r_step rfl rfl (o_cmp rfl rfl (c_gtr_F hp316)) ?_
 refine xe 1 [(31, .bool false), (0, v2), (1, V a1), (2, .int .i32 x261), (3, .int .i32 a3), (10, V x262)] ?_
 refine kF 31 rfl ?_
 refine rg r56_8 ?_
 refine xq 4 [(35, V x262), (34, v2), (33, .int .i32 (ishl .i32 x261 6)), (0, v2), (1, V a1), (2, .int .i32 x261), (3, .int .i32 a3), (10, V x262)] ?_
 obtain ⟨hc317, ho258⟩ := chk ho258
 refine r_step rfl trivial (o_index rfl rfl (by kernel_rfl : slTy _ _ = some (csz UInt8)) (RS.based (q1.mono hS264.zle) (by omega)) hc317.1 hc317.2) ?_
 obtain ⟨x318, hx319, ho258⟩ := obind ho258
 obtain ⟨cs320, hc321, he322⟩ := RS.elz (q1.mono hS264.zle) (i := x262) hx319
 obtain rfl := rc_UInt8 hc321
 refine r_step rfl trivial (o_lde (w := .int .u8 (x318.toNat : Int)) (he322 _ (hS264.zin0 (Zle.refl _))) rfl (by kernel_rfl)) ?_
 refine xq 1 [(38, .int .u8 (iand .u8 (x318.toNat : Int) 63)), (33, .int .i32 (ishl .i32 x261 6)), (0, v2), (1, V a1), (2, .int .i32 x261), (3, .int .i32 a3), (10, V x262)] ?_
 refine r_step rfl trivial (o_conv (k := .i32) (n := iand .u8 (x318.toNat : Int) 63) rfl (by kernel_rfl)) ?_
 refine xe 2 [(2, .int .i32 (ior .i32 (ishl .i32 x261 6) (IntKind.wrap .i32 (iand .u8 (x318.toNat : Int) 63)))), (0, v2), (1, V a1), (3, .int .i32 a3), (10, V x262)] ?_
 refine rg r56_5 ?_
 refine xe 3 [(10, V (w64 (x262 + 1))), (2, .int .i32 (ior .i32 (ishl .i32 x261 6) (IntKind.wrap .i32 (iand .u8 (x318.toNat : Int) 63)))), (0, v2), (1, V a1), (3, .int .i32 a3)] ?_
 exact ⟨n265, Nat.lt_succ_self _, ⟨_, ior .i32 (ishl .i32 x261 6) (IntKind.wrap .i32 (iand .u8 (x318.toNat : Int) 63)), w64 (x262 + 1), ho258, rfl, hS264⟩⟩
 refine r_step rfl trivial (o_cmp rfl rfl (c_lss_F hp268)) ?_
 refine xf [(17, .bool false), (0, v2), (1, V a1), (2, .int .i32 x261), (3, .int .i32 a3), (10, V x262)] ?_
 refine cF 17 rfl ?_
 refine xt 0 ?_
 refine blkX_hit ?_
 obtain rfl := si ho258
 exact ⟨_, x261, rfl, rfl, hS264⟩

def r35_0 : List COp := [u 2 (.assign (.const (.int .i32 0))), u 3 (.assign (ci 0))]
def r35_1 : List COp := [u 5 (mv 0), u 6 (cb .len #[(t 5)] #[24]), u 7 (bc .eql 3 6 0 3)]
def r35_2 : List COp := [u 2 (.assign (.const (.int .i32 (-1)))), u 3 (.assign (ci 0))]
def r35_3 : List COp := [u 8 (mv 0), u 9 (.indexAddr 24 (t 8) (ci 0)), u 10 (ld 5 9), u 4 (sg 10)]
def r35_4 : List COp := [u 12 (mv 4), u 13 (.binOp .lss 5 (t 12) (.const (.int .u8 128)) 5), u 11 (sg 13)]
def r35_5 : List COp := [u 14 (mv 4), u 15 (.convert 5 21 (t 14)), u 2 (sg 15), u 3 (.assign (ci 1))]
def r35_6 : List COp := [u 17 (mv 4), u 18 (.binOp .geq 5 (t 17) (.const (.int .u8 192)) 5), u 19 (mv 18), gt 19 20 (mv 4), gt 19 21 (.binOp .lss 5 (t 20) (.const (.int .u8 224)) 5), u 22 (pf 19 21), u 16 (sg 22)]
def r35_7 : List COp := [u 23 (mv 0), u 24 (mv 4), u 25 (.binOp .and 5 (t 24) (.const (.int .u8 31)) 5), u 26 (.convert 5 21 (t 25)), u 27 (cf 56 #[(t 23), (ci 2), (t 26), (.const (.int .i32 128))] #[24, 3, 21, 21]), u 28 (.extract (t 27) 0), u 29 (.extract (t 27) 1), u 2 (sg 28), u 3 (sg 29)]
def r35_8 : List COp := [u 31 (mv 4), u 32 (.binOp .geq 5 (t 31) (.const (.int .u8 224)) 5), u 33 (mv 32), gt 33 34 (mv 4), gt 33 35 (.binOp .lss 5 (t 34) (.const (.int .u8 240)) 5), u 36 (pf 33 35), u 30 (sg 36)]
def r35_9 : List COp := [u 37 (mv 0), u 38 (mv 4), u 39 (.binOp .and 5 (t 38) (.const (.int .u8 15)) 5), u 40 (.convert 5 21 (t 39)), u 41 (cf 56 #[(t 37), (ci 3), (t 40), (.const (.int .i32 2048))] #[24, 3, 21, 21]), u 42 (.extract (t 41) 0), u 43 (.extract (t 41) 1), u 2 (sg 42), u 3 (sg 43)]
def r35_10 : List COp := [u 45 (mv 4), u 46 (.binOp .geq 5 (t 45) (.const (.int .u8 240)) 5), u 47 (mv 46), gt 47 48 (mv 4), gt 47 49 (.binOp .lss 5 (t 48) (.const (.int .u8 248)) 5), u 50 (pf 47 49), u 44 (sg 50)]
def r35_11 : List COp := [u 51 (mv 0), u 52 (mv 4), u 53 (.binOp .and 5 (t 52) (.const (.int .u8 7)) 5), u 54 (.convert 5 21 (t 53)), u 55 (cf 56 #[(t 51), (ci 4), (t 54), (.const (.int .i32 65536))] #[24, 3, 21, 21]), u 56 (.extract (t 55) 0), u 57 (.extract (t 55) 1), u 2 (sg 56), u 3 (sg 57)]
def r35_12 : List COp := [u 2 (.assign (.const (.int .i32 (-1)))), u 3 (.assign (ci 1))]
def correctorref1_Next (F : Nat) (a0 : List UInt8) : Option (Int × Int) :=
 if (a0.length : Int) = (0 : Int) then
  some ((-1), 0)
 else
  if 0 ≤ (0 : Int) ∧ (0 : Int) < (a0.length : Int) then
   (a0[(0 : Int).toNat]?).bind fun x7 =>
   ((if (x7.toNat : Int) < (128 : Int) then
     some (.inr (IntKind.wrap .i32 (x7.toNat : Int), 1))
    else
     ((if (192 : Int) ≤ (x7.toNat : Int) then
       if (x7.toNat : Int) < (224 : Int) then
        some true
       else
        some false
      else
       some false) : Option Bool).bind fun o => match o with
      | x68 => if x68 = true then
       (correctorref1_sign F a0 2 (IntKind.wrap .i32 (iand .u8 (x7.toNat : Int) 31)) 128).bind fun r72 =>
       some (.inr (r72.1, r72.2))
      else
       ((if (224 : Int) ≤ (x7.toNat : Int) then
         if (x7.toNat : Int) < (240 : Int) then
          some true
         else
          some false
        else
         some false) : Option Bool).bind fun o => match o with
        | x88 => if x88 = true then
         (correctorref1_sign F a0 3 (IntKind.wrap .i32 (iand .u8 (x7.toNat : Int) 15)) 2048).bind fun r92 =>
         some (.inr (r92.1, r92.2))
        else
         if (240 : Int) ≤ (x7.toNat : Int) then
          if (x7.toNat : Int) < (248 : Int) then
           (correctorref1_sign F a0 4 (IntKind.wrap .i32 (iand .u8 (x7.toNat : Int) 7)) 65536).bind fun r101 =>
           some (.inr (r101.1, r101.2))
          else
           some (.inl ())
         else
          some (.inl ())) : Option (Sum Unit (Int × Int))).bind fun o => match o with
    | .inl () => some ((-1), 1)
    | .inr y => some y
  else none
theorem correctorref1_Next_ok (F : Nat) {h : AH} {Z : Zn} {a0 : List UInt8} {v2 : Value} (hI : Inv Z h) (q1 : RS (α := UInt8) Z v2 a0) {r : Int × Int} (hm : correctorref1_Next F a0 = some r) :
  ∃ v h', callI Try.prog 35 [v2] h = some (v, h') ∧ St h [] Z (0, 0) Z h' [] ∧ v = .tuple #[.int .i32 r.1, V r.2] := by
 refine fn_plain (Q := fun v => v = .tuple #[.int .i32 r.1, V r.2]) Try.func35 rfl rfl hI ?_
 intro hs hS
 unfold correctorref1_Next at hm
 refine sr r35_0 ?_
 refine xe 2 [(0, v2)] ?_
 refine sq ?_
 refine sr r35_1 ?_
 refine xq 1 [(5, v2), (0, v2)] ?_
 refine r_step rfl trivial (o_len rfl (RS.len q1) ⟨_, Try.underlying24⟩) ?_
 rcases ifs hm with ⟨hp5, hm⟩ | ⟨hp5, hm⟩
 refine r_step rfl trivial (o_cmp rfl rfl (c_eql_T hp5)) ?_
 refine xf [(7, .bool true), (0, v2)] ?_
 refine cT 7 rfl ?_
 refine sr r35_2 ?_
 refine xe 2 [(3, V 0), (2, .int .i32 (-1))] ?_
 refine rt ?_
 refine ⟨rfl, ?_⟩
 obtain rfl := si hm
 refine ⟨_, _, _, ResL.tmp rfl (ResL.tmp rfl (ResL.nil)), hS, ?_⟩
 exact rfl
 refine r_step rfl trivial (o_cmp rfl rfl (c_eql_F hp5)) ?_
 refine xf [(7, .bool false), (0, v2)] ?_
 refine kF 7 rfl ?_
 refine sr r35_3 ?_
 refine xq 1 [(8, v2), (0, v2)] ?_
 obtain ⟨hc6, hm⟩ := chk hm
 refine r_step rfl trivial (o_index rfl rfl (by kernel_rfl : slTy _ _ = some (csz UInt8)) (RS.based q1 (by omega)) hc6.1 hc6.2) ?_
 obtain ⟨x7, hx8, hm⟩ := obind hm
 obtain ⟨cs9, hc10, he11⟩ := RS.elz q1 (i := 0) hx8
 obtain rfl := rc_UInt8 hc10
 refine r_step rfl trivial (o_lde (w := .int .u8 (x7.toNat : Int)) (he11 _ (hS.zin0 (Zle.refl _))) rfl (by kernel_rfl)) ?_
 refine xe 1 [(4, .int .u8 (x7.toNat : Int)), (0, v2)] ?_
 refine sq ?_
 refine bk 0 ?_
 obtain ⟨o57, ho56, hm⟩ := obind hm
 refine W_seqJoin0 [] (fun l h => ∃ Z110 : Zn, .inl () = o57 ∧ l = [] ∧ St hs [] Z (0, 0) Z110 h []) (by kernel_rfl) ?_ ?_
 rintro l h111 ⟨Z110, rfl, rfl, hS112⟩
 try dsimp only at hm
 refine sr r35_12 ?_
 refine xe 2 [(3, V 1), (2, .int .i32 (-1))] ?_
 refine rt ?_
 refine ⟨rfl, ?_⟩
 obtain rfl := si hm
 refine ⟨_, _, _, ResL.tmp rfl (ResL.tmp rfl (ResL.nil)), hS112, ?_⟩
 exact rfl
 refine rg r35_4 ?_
 refine xq 1 [(12, .int .u8 (x7.toNat : Int)), (4, .int .u8 (x7.toNat : Int)), (0, v2)] ?_
 rcases ifs ho56 with ⟨hp58, ho56⟩ | ⟨hp58, ho56⟩
 refine r_step rfl trivial (o_cmp rfl rfl (c_lss_T hp58)) ?_
 refine xe 1 [(11, .bool true), (4, .int .u8 (x7.toNat : Int)), (0, v2)] ?_
 refine cT 11 rfl ?_
 refine sr r35_5 ?_
 refine xq 1 [(14, .int .u8 (x7.toNat : Int))] ?_
 refine r_step rfl trivial (o_conv (k := .i32) (n := (x7.toNat : Int)) rfl (by kernel_rfl)) ?_
 refine xe 2 [(3, V 1), (2, .int .i32 (IntKind.wrap .i32 (x7.toNat : Int)))] ?_
 refine rt ?_
 refine blkX_ret ?_
 refine ⟨rfl, ?_⟩
 obtain rfl := si ho56
 obtain rfl := si hm
 refine ⟨_, _, _, ResL.tmp rfl (ResL.tmp rfl (ResL.nil)), hS, ?_⟩
 exact rfl
 refine r_step rfl trivial (o_cmp rfl rfl (c_lss_F hp58)) ?_
 refine xe 1 [(11, .bool false), (4, .int .u8 (x7.toNat : Int)), (0, v2)] ?_
 refine cF 11 rfl ?_
 refine sq ?_
 obtain ⟨o64, ho63, ho56⟩ := obind ho56
 refine W_join [0, 4, 16] (fun l h => ∃ Z67 : Zn, ∃ x68 : Bool, x68 = o64 ∧ l = [(0, v2), (4, .int .u8 (x7.toNat : Int)), (16, .bool x68)] ∧ St hs [] Z (0, 0) Z67 h []) ?_ ?_
 rintro l h69 ⟨Z67, x68, rfl, rfl, hS70⟩
 try dsimp only at ho56
 rcases ifs ho56 with ⟨hp71, ho56⟩ | ⟨hp71, ho56⟩
 refine W_condT (x := .tmp 16) (by kernel_rfl) rfl hp71 ?_
 refine sr r35_7 ?_
 refine xq 3 [(25, .int .u8 (iand .u8 (x7.toNat : Int) 31)), (23, v2)] ?_
 refine r_step rfl trivial (o_conv (k := .i32) (n := iand .u8 (x7.toNat : Int) 31) rfl (by kernel_rfl)) ?_
 obtain ⟨r72, hx73, ho56⟩ := obind ho56
 obtain ⟨v74, h75, hcl76, hSc77, rfl⟩ := correctorref1_sign_ok F hS70.inv (q1.mono hS70.zle) hx73
 have hS78 := St.call (A := []) (B := []) hS70 hSc77
 replace hS78 : St _ _ _ _ _ _ [] := hS78
 refine r_step rfl trivial (o_call hcl76 rfl rfl rfl) ?_
 refine xe 4 [(3, V r72.2), (2, .int .i32 r72.1)] ?_
 refine rt ?_
 refine blkX_ret ?_
 refine ⟨rfl, ?_⟩
 obtain rfl := si ho56
 obtain rfl := si hm
 refine ⟨_, _, _, ResL.tmp rfl (ResL.tmp rfl (ResL.nil)), hS78, ?_⟩
 exact rfl
 refine W_condF (x := .tmp 16) (by kernel_rfl) rfl (Bool.eq_false_iff.2 hp71) ?_
 refine sq ?_
 obtain ⟨o84, ho83, ho56⟩ := obind ho56
 refine W_join [0, 4, 30] (fun l h => ∃ Z87 : Zn, ∃ x88 : Bool, x88 = o84 ∧ l = [(0, v2), (4, .int .u8 (x7.toNat : Int)), (30, .bool x88)] ∧ St hs [] Z (0, 0) Z87 h []) ?_ ?_
 rintro l h89 ⟨Z87, x88, rfl, rfl, hS90⟩
 try dsimp only at ho56
 rcases ifs ho56 with ⟨hp91, ho56⟩ | ⟨hp91, ho56⟩
 refine W_condT (x := .tmp 30) (by kernel_rfl) rfl hp91 ?_
 refine sr r35_9 ?_
 refine xq 3 [(39, .int .u8 (iand .u8 (x7.toNat : Int) 15)), (37, v2)] ?_
 refine r_step rfl trivial (o_conv (k := .i32) (n := iand .u8 (x7.toNat : Int) 15) rfl (by kernel_rfl)) ?_
 obtain ⟨r92, hx93, ho56⟩ := obind ho56
 obtain ⟨v94, h95, hcl96, hSc97, rfl⟩ := correctorref1_sign_ok F hS90.inv (q1.mono hS90.zle) hx93
 have hS98 := St.call (A := []) (B := []) hS90 hSc97
 replace hS98 : St _ _ _ _ _ _ [] := hS98
 refine r_step rfl trivial (o_call hcl96 rfl rfl rfl) ?_
 refine xe 4 [(3, V r92.2), (2, .int .i32 r92.1)] ?_
 refine rt ?_
 refine blkX_ret ?_
 refine ⟨rfl, ?_⟩
 obtain rfl := si ho56
 obtain rfl := si hm
 refine ⟨_, _, _, ResL.tmp rfl (ResL.tmp rfl (ResL.nil)), hS98, ?_⟩
 exact rfl
 refine W_condF (x := .tmp 30) (by kernel_rfl) rfl (Bool.eq_false_iff.2 hp91) ?_
 refine sr r35_10 ?_
 refine xq 1 [(45, .int .u8 (x7.toNat : Int)), (0, v2), (4, .int .u8 (x7.toNat : Int))] ?_
 rcases ifs ho56 with ⟨hp99, ho56⟩ | ⟨hp99, ho56⟩
 refine r_step rfl trivial (o_cmp rfl rfl (c_geq_T hp99)) ?_
 refine xq 2 [(48, .int .u8 (x7.toNat : Int)), (47, .bool true), (0, v2), (4, .int .u8 (x7.toNat : Int))] ?_
 rcases ifs ho56 with ⟨hp100, ho56⟩ | ⟨hp100, ho56⟩
 refine r_step rfl rfl (o_cmp rfl rfl (c_lss_T hp100)) ?_
 refine xe 2 [(44, .bool true), (0, v2), (4, .int .u8 (x7.toNat : Int))] ?_
 refine cT 44 rfl ?_
 refine sr r35_11 ?_
 refine xq 3 [(53, .int .u8 (iand .u8 (x7.toNat : Int) 7)), (51, v2)] ?_
 refine r_step rfl trivial (o_conv (k := .i32) (n := iand .u8 (x7.toNat : Int) 7) rfl (by kernel_rfl)) ?_
 obtain ⟨r101, hx102, ho56⟩ := obind ho56
 obtain ⟨v103, h104, hcl105, hSc106, rfl⟩ := correctorref1_sign_ok F hS90.inv (q1.mono hS90.zle) hx102
 have hS107 := St.call (A := []) (B := []) hS90 hSc106
 replace hS107 : St _ _ _ _ _ _ [] := hS107
 refine r_step rfl trivial (o_call hcl105 rfl rfl rfl) ?_
 refine xe 4 [(3, V r101.2), (2, .int .i32 r101.1)] ?_
 refine rt ?_
 refine blkX_ret ?_
 refine ⟨rfl, ?_⟩
 obtain rfl := si ho56
 obtain rfl := si hm
 refine ⟨_, _, _, ResL.tmp rfl (ResL.tmp rfl (ResL.nil)), hS107, ?_⟩
 exact rfl
 refine r_step rfl rfl (o_cmp rfl rfl (c_lss_F hp100)) ?_
 refine xe 2 [(44, .bool false), (0, v2), (4, .int .u8 (x7.toNat : Int))] ?_
 refine kF 44 rfl ?_
 obtain rfl := si ho56
 exact ⟨_, rfl, rfl, hS90⟩
 refine r_step rfl trivial (o_cmp rfl rfl (c_geq_F hp99)) ?_
 refine xe 5 [(44, .bool false), (0, v2), (4, .int .u8 (x7.toNat : Int))] ?_
 refine kF 44 rfl ?_
 obtain rfl := si ho56
 exact ⟨_, rfl, rfl, hS90⟩
 refine rg r35_8 ?_
 refine xq 1 [(31, .int .u8 (x7.toNat : Int)), (0, v2), (4, .int .u8 (x7.toNat : Int))] ?_
 rcases ifs ho83 with ⟨hp85, ho83⟩ | ⟨hp85, ho83⟩
 refine r_step rfl trivial (o_cmp rfl rfl (c_geq_T hp85)) ?_
 refine xq 2 [(34, .int .u8 (x7.toNat : Int)), (33, .bool true), (0, v2), (4, .int .u8 (x7.toNat : Int))] ?_
 rcases ifs ho83 with ⟨hp86, ho83⟩ | ⟨hp86, ho83⟩
 refine r_step rfl rfl (o_cmp rfl rfl (c_lss_T hp86)) ?_
 refine xe 2 [(30, .bool true), (0, v2), (4, .int .u8 (x7.toNat : Int))] ?_
 obtain rfl := si ho83
 exact ⟨_, true, rfl, rfl, hS70⟩
 refine r_step rfl rfl (o_cmp rfl rfl (c_lss_F hp86)) ?_
 refine xe 2 [(30, .bool false), (0, v2), (4, .int .u8 (x7.toNat : Int))] ?_
 obtain rfl := si ho83
 exact ⟨_, false, rfl, rfl, hS70⟩
 refine r_step rfl trivial (o_cmp rfl rfl (c_geq_F hp85)) ?_
 refine xe 5 [(30, .bool false), (0, v2), (4, .int .u8 (x7.toNat : Int))] ?_
 obtain rfl := si ho83
 exact ⟨_, false, rfl, rfl, hS70⟩
 refine rg r35_6 ?_
 refine xq 1 [(17, .int .u8 (x7.toNat : Int)), (4, .int .u8 (x7.toNat : Int)), (0, v2)] ?_
 rcases ifs ho63 with ⟨hp65, ho63⟩ | ⟨hp65, ho63⟩
 refine r_step rfl trivial (o_cmp rfl rfl (c_geq_T hp65)) ?_
 refine xq 2 [(20, .int .u8 (x7.toNat : Int)), (19, .bool true), (4, .int .u8 (x7.toNat : Int)), (0, v2)] ?_
 rcases ifs ho63 with ⟨hp66, ho63⟩ | ⟨hp66, ho63⟩
 refine r_step rfl rfl (o_cmp rfl rfl (c_lss_T hp66)) ?_
 refine xe 2 [(16, .bool true), (4, .int .u8 (x7.toNat : Int)), (0, v2)] ?_
 obtain rfl := si ho63
 exact ⟨_, true, rfl, rfl, hS⟩
 refine r_step rfl rfl (o_cmp rfl rfl (c_lss_F hp66)) ?_
 refine xe 2 [(16, .bool false), (4, .int .u8 (x7.toNat : Int)), (0, v2)] ?_
 obtain rfl := si ho63
 exact ⟨_, false, rfl, rfl, hS⟩
 refine r_step rfl trivial (o_cmp rfl rfl (c_geq_F hp65)) ?_
 refine xe 5 [(16, .bool false), (4, .int .u8 (x7.toNat : Int)), (0, v2)] ?_
 obtain rfl := si ho63
 exact ⟨_, false, rfl, rfl, hS⟩

def r57_0 : List COp := [u 2 (.assign (.const (.bool false)))]
def r57_1 : List COp := [u 3 (mv 0), u 4 (.binOp .geq 5 (t 3) (.const (.int .u8 97)) 5), u 5 (mv 4), gt 5 6 (mv 0), gt 5 7 (.binOp .leq 5 (t 6) (.const (.int .u8 122)) 5), u 8 (pf 5 7), u 9 (mv 8), gn 9 10 (mv 0), gn 9 11 (.binOp .geq 5 (t 10) (.const (.int .u8 65)) 5), gn 9 12 (mv 11), gt 12 13 (mv 0), gt 12 14 (.binOp .leq 5 (t 13) (.const (.int .u8 90)) 5), gn 9 15 (pf 12 14), u 16 (pt 9 15), u 17 (mv 16), gn 17 18 (mv 0), gn 17 19 (.binOp .geq 5 (t 18) (.const (.int .u8 48)) 5), gn 17 20 (mv 19), gt 20 21 (mv 0), gt 20 22 (.binOp .leq 5 (t 21) (.const (.int .u8 57)) 5), gn 17 23 (pf 20 22), u 24 (pt 17 23), u 25 (mv 24), gn 25 26 (mv 0), gn 25 27 (.binOp .eql 5 (t 26) (.const (.int .u8 95)) 5), u 28 (pt 25 27), u 29 (mv 28), gn 29 30 (mv 0), gn 29 31 (.binOp .eql 5 (t 30) (.const (.int .u8 45)) 5), u 32 (pt 29 31), u 2 (sg 32)]
def correctorref5_Name (F : Nat) (a0 : Int) : Option Bool :=
 if (97 : Int) ≤ a0 then
  if a0 ≤ (122 : Int) then
   some true
  else
   if (65 : Int) ≤ a0 then
    if a0 ≤ (90 : Int) then
     some true
    else
     if (48 : Int) ≤ a0 then
      if a0 ≤ (57 : Int) then
       some true
      else
       if a0 = (95 : Int) then
        some true
       else
        if a0 = (45 : Int) then
         some true
        else
         some false
     else
      if a0 = (95 : Int) then
       some true
      else
       if a0 = (45 : Int) then
        some true
       else
        some false
   else
    if (48 : Int) ≤ a0 then
     if a0 ≤ (57 : Int) then
      some true
     else
      if a0 = (95 : Int) then
       some true
      else
       if a0 = (45 : Int) then
        some true
       else
        some false
    else
     if a0 = (95 : Int) then
      some true
     else
      if a0 = (45 : Int) then
       some true
      else
       some false
 else
  if (65 : Int) ≤ a0 then
   if a0 ≤ (90 : Int) then
    some true
   else
    if (48 : Int) ≤ a0 then
     if a0 ≤ (57 : Int) then
      some true
     else
      if a0 = (95 : Int) then
       some true
      else
       if a0 = (45 : Int) then
        some true
       else
        some false
    else
     if a0 = (95 : Int) then
      some true
     else
      if a0 = (45 : Int) then
       some true
      else
       some false
  else
   if (48 : Int) ≤ a0 then
    if a0 ≤ (57 : Int) then
     some true
    else
     if a0 = (95 : Int) then
      some true
     else
      if a0 = (45 : Int) then
       some true
      else
       some false
   else
    if a0 = (95 : Int) then
     some true
    else
     if a0 = (45 : Int) then
      some true
     else
      some false
theorem correctorref5_Name_ok (F : Nat) {h : AH} {Z : Zn} {a0 : Int} (hI : Inv Z h) {r : Bool} (hm : correctorref5_Name F a0 = some r) :
  ∃ v h', callI Try.prog 57 [.int .u8 a0] h = some (v, h') ∧ St h [] Z (0, 0) Z h' [] ∧ v = .bool r := by
 refine fn_plain (Q := fun v => v = .bool r) Try.func57 rfl rfl hI ?_
 intro hs hS
 unfold correctorref5_Name at hm
 refine sr r57_0 ?_
 refine xe 1 [(0, .int .u8 a0)] ?_
 refine sr r57_1 ?_
 refine xq 1 [(3, .int .u8 a0), (0, .int .u8 a0)] ?_
 rcases ifs hm with ⟨hp1, hm⟩ | ⟨hp1, hm⟩
 refine r_step rfl trivial (o_cmp rfl rfl (c_geq_T hp1)) ?_
 refine xq 2 [(6, .int .u8 a0), (5, .bool true), (0, .int .u8 a0)] ?_
 rcases ifs hm with ⟨hp2, hm⟩ | ⟨hp2, hm⟩
 refine r_step rfl rfl (o_cmp rfl rfl (c_leq_T hp2)) ?_
 refine xe 26 [(2, .bool true)] ?_
 refine rt ?_
 refine ⟨rfl, ?_⟩
 obtain rfl := si hm
 refine ⟨_, _, _, ResL.tmp rfl (ResL.nil), hS, ?_⟩
 exact rfl
 refine r_step rfl rfl (o_cmp rfl rfl (c_leq_F hp2)) ?_
 refine xq 3 [(10, .int .u8 a0), (9, .bool false), (0, .int .u8 a0)] ?_
 rcases ifs hm with ⟨hp3, hm⟩ | ⟨hp3, hm⟩
 refine r_step rfl rfl (o_cmp rfl rfl (c_geq_T hp3)) ?_
 refine xq 2 [(13, .int .u8 a0), (12, .bool true), (9, .bool false), (0, .int .u8 a0)] ?_
 rcases ifs hm with ⟨hp4, hm⟩ | ⟨hp4, hm⟩
 refine r_step rfl rfl (o_cmp rfl rfl (c_leq_T hp4)) ?_
 refine xe 19 [(2, .bool true)] ?_
 refine rt ?_
 refine ⟨rfl, ?_⟩
 obtain rfl := si hm
 refine ⟨_, _, _, ResL.tmp rfl (ResL.nil), hS, ?_⟩
 exact rfl
 refine r_step rfl rfl (o_cmp rfl rfl (c_leq_F hp4)) ?_
 refine xq 4 [(18, .int .u8 a0), (17, .bool false), (0, .int .u8 a0)] ?_
 rcases ifs hm with ⟨hp5, hm⟩ | ⟨hp5, hm⟩
 refine r_step rfl rfl (o_cmp rfl rfl (c_geq_T hp5)) ?_
 refine xq 2 [(21, .int .u8 a0), (20, .bool true), (17, .bool false), (0, .int .u8 a0)] ?_
 rcases ifs hm with ⟨hp6, hm⟩ | ⟨hp6, hm⟩
 refine r_step rfl rfl (o_cmp rfl rfl (c_leq_T hp6)) ?_
 refine xe 11 [(2, .bool true)] ?_
 refine rt ?_
 refine ⟨rfl, ?_⟩
 obtain rfl := si hm
 refine ⟨_, _, _, ResL.tmp rfl (ResL.nil), hS, ?_⟩
 exact rfl
 refine r_step rfl rfl (o_cmp rfl rfl (c_leq_F hp6)) ?_
 refine xq 4 [(26, .int .u8 a0), (25, .bool false), (0, .int .u8 a0)] ?_
 rcases ifs hm with ⟨hp7, hm⟩ | ⟨hp7, hm⟩
 refine r_step rfl rfl (o_cmp rfl rfl (c_eql_T hp7)) ?_
 refine xe 6 [(2, .bool true)] ?_
 refine rt ?_
 refine ⟨rfl, ?_⟩
 obtain rfl := si hm
 refine ⟨_, _, _, ResL.tmp rfl (ResL.nil), hS, ?_⟩
 exact rfl
 refine r_step rfl rfl (o_cmp rfl rfl (c_eql_F hp7)) ?_
 refine xq 3 [(30, .int .u8 a0), (29, .bool false)] ?_
 rcases ifs hm with ⟨hp8, hm⟩ | ⟨hp8, hm⟩
 refine r_step rfl rfl (o_cmp rfl rfl (c_eql_T hp8)) ?_
 refine xe 2 [(2, .bool true)] ?_
 refine rt ?_
 refine ⟨rfl, ?_⟩
 obtain rfl := si hm
 refine ⟨_, _, _, ResL.tmp rfl (ResL.nil), hS, ?_⟩
 exact rfl
 refine r_step rfl rfl (o_cmp rfl rfl (c_eql_F hp8)) ?_
 refine xe 2 [(2, .bool false)] ?_
 refine rt ?_
 refine ⟨rfl, ?_⟩
 obtain rfl := si hm
 refine ⟨_, _, _, ResL.tmp rfl (ResL.nil), hS, ?_⟩
 exact rfl
 refine r_step rfl rfl (o_cmp rfl rfl (c_geq_F hp5)) ?_
 refine xq 7 [(26, .int .u8 a0), (25, .bool false), (0, .int .u8 a0)] ?_
 rcases ifs hm with ⟨hp9, hm⟩ | ⟨hp9, hm⟩
 refine r_step rfl rfl (o_cmp rfl rfl (c_eql_T hp9)) ?_
 refine xe 6 [(2, .bool true)] ?_
 refine rt ?_
 refine ⟨rfl, ?_⟩
 obtain rfl := si hm
 refine ⟨_, _, _, ResL.tmp rfl (ResL.nil), hS, ?_⟩
 exact rfl
 refine r_step rfl rfl (o_cmp rfl rfl (c_eql_F hp9)) ?_
 refine xq 3 [(30, .int .u8 a0), (29, .bool false)] ?_
 rcases ifs hm with ⟨hp10, hm⟩ | ⟨hp10, hm⟩
 refine r_step rfl rfl (o_cmp rfl rfl (c_eql_T hp10)) ?_
 refine xe 2 [(2, .bool true)] ?_
 refine rt ?_
 refine ⟨rfl, ?_⟩
 obtain rfl := si hm
 refine ⟨_, _, _, ResL.tmp rfl (ResL.nil), hS, ?_⟩
 exact rfl
 refine r_step rfl rfl (o_cmp rfl rfl (c_eql_F hp10)) ?_
 refine xe 2 [(2, .bool false)] ?_
 refine rt ?_
 refine ⟨rfl, ?_⟩
 obtain rfl := si hm
 refine ⟨_, _, _, ResL.tmp rfl (ResL.nil), hS, ?_⟩
 exact rfl
 refine r_step rfl rfl (o_cmp rfl rfl (c_geq_F hp3)) ?_
 refine xq 7 [(18, .int .u8 a0), (17, .bool false), (0, .int .u8 a0)] ?_
 rcases ifs hm with ⟨hp11, hm⟩ | ⟨hp11, hm⟩
 refine r_step rfl rfl (o_cmp rfl rfl (c_geq_T hp11)) ?_
 refine xq 2 [(21, .int .u8 a0), (20, .bool true), (17, .bool false), (0, .int .u8 a0)] ?_
 rcases ifs hm with ⟨hp12, hm⟩ | ⟨hp12, hm⟩
 refine r_step rfl rfl (o_cmp rfl rfl (c_leq_T hp12)) ?_
 refine xe 11 [(2, .bool true)] ?_
 refine rt ?_
 refine ⟨rfl, ?_⟩
 obtain rfl := si hm
 refine ⟨_, _, _, ResL.tmp rfl (ResL.nil), hS, ?_⟩
 exact rfl
 refine r_step rfl rfl (o_cmp rfl rfl (c_leq_F hp12)) ?_
 refine xq 4 [(26, .int .u8 a0), (25, .bool false), (0, .int .u8 a0)] ?_
 rcases ifs hm with ⟨hp13, hm⟩ | ⟨hp13, hm⟩
 refine r_step rfl rfl (o_cmp rfl rfl (c_eql_T hp13)) ?_
 refine xe 6 [(2, .bool true)] ?_
 refine rt ?_
 refine ⟨rfl, ?_⟩
 obtain rfl := si hm
 refine ⟨_, _, _, ResL.tmp rfl (ResL.nil), hS, ?_⟩
 exact rfl
 refine r_step rfl rfl (o_cmp rfl rfl (c_eql_F hp13)) ?_
 refine xq 3 [(30, .int .u8 a0), (29, .bool false)] ?_
 rcases ifs hm with ⟨hp14, hm⟩ | ⟨hp14, hm⟩
 refine r_step rfl rfl (o_cmp rfl rfl (c_eql_T hp14)) ?_
 refine xe 2 [(2, .bool true)] ?_
 refine rt ?_
 refine ⟨rfl, ?_⟩
 obtain rfl := si hm
 refine ⟨_, _, _, ResL.tmp rfl (ResL.nil), hS, ?_⟩
 exact rfl
 refine r_step rfl rfl (o_cmp rfl rfl (c_eql_F hp14)) ?_
 refine xe 2 [(2, .bool false)] ?_
 refine rt ?_
 refine ⟨rfl, ?_⟩
 obtain rfl := si hm
 refine ⟨_, _, _, ResL.tmp rfl (ResL.nil), hS, ?_⟩
 exact rfl
 refine r_step rfl rfl (o_cmp rfl rfl (c_geq_F hp11)) ?_
 refine xq 7 [(26, .int .u8 a0), (25, .bool false), (0, .int .u8 a0)] ?_
 rcases ifs hm with ⟨hp15, hm⟩ | ⟨hp15, hm⟩
 refine r_step rfl rfl (o_cmp rfl rfl (c_eql_T hp15)) ?_
 refine xe 6 [(2, .bool true)] ?_
 refine rt ?_
 refine ⟨rfl, ?_⟩
 obtain rfl := si hm
 refine ⟨_, _, _, ResL.tmp rfl (ResL.nil), hS, ?_⟩
 exact rfl
 refine r_step rfl rfl (o_cmp rfl rfl (c_eql_F hp15)) ?_
 refine xq 3 [(30, .int .u8 a0), (29, .bool false)] ?_
 rcases ifs hm with ⟨hp16, hm⟩ | ⟨hp16, hm⟩
 refine r_step rfl rfl (o_cmp rfl rfl (c_eql_T hp16)) ?_
 refine xe 2 [(2, .bool true)] ?_
 refine rt ?_
 refine ⟨rfl, ?_⟩
 obtain rfl := si hm
 refine ⟨_, _, _, ResL.tmp rfl (ResL.nil), hS, ?_⟩
 exact rfl
 refine r_step rfl rfl (o_cmp rfl rfl (c_eql_F hp16)) ?_
 refine xe 2 [(2, .bool false)] ?_
 refine rt ?_
 refine ⟨rfl, ?_⟩
 obtain rfl := si hm
 refine ⟨_, _, _, ResL.tmp rfl (ResL.nil), hS, ?_⟩
 exact rfl
 refine r_step rfl trivial (o_cmp rfl rfl (c_geq_F hp1)) ?_
 refine xq 6 [(10, .int .u8 a0), (9, .bool false), (0, .int .u8 a0)] ?_
 rcases ifs hm with ⟨hp17, hm⟩ | ⟨hp17, hm⟩
 refine r_step rfl rfl (o_cmp rfl rfl (c_geq_T hp17)) ?_
 refine xq 2 [(13, .int .u8 a0), (12, .bool true), (9, .bool false), (0, .int .u8 a0)] ?_
 rcases ifs hm with ⟨hp18, hm⟩ | ⟨hp18, hm⟩
 refine r_step rfl rfl (o_cmp rfl rfl (c_leq_T hp18)) ?_
 refine xe 19 [(2, .bool true)] ?_
 refine rt ?_
 refine ⟨rfl, ?_⟩
 obtain rfl := si hm
 refine ⟨_, _, _, ResL.tmp rfl (ResL.nil), hS, ?_⟩
 exact rfl
 refine r_step rfl rfl (o_cmp rfl rfl (c_leq_F hp18)) ?_
 refine xq 4 [(18, .int .u8 a0), (17, .bool false), (0, .int .u8 a0)] ?_
 rcases ifs hm with ⟨hp19, hm⟩ | ⟨hp19, hm⟩
 refine r_step rfl rfl (o_cmp rfl rfl (c_geq_T hp19)) ?_
 refine xq 2 [(21, .int .u8 a0), (20, .bool true), (17, .bool false), (0, .int .u8 a0)] ?_
 rcases ifs hm with ⟨hp20, hm⟩ | ⟨hp20, hm⟩
 refine r_step rfl rfl (o_cmp rfl rfl (c_leq_T hp20)) ?_
 refine xe 11 [(2, .bool true)] ?_
 refine rt ?_
 refine ⟨rfl, ?_⟩
 obtain rfl := si hm
 refine ⟨_, _, _, ResL.tmp rfl (ResL.nil), hS, ?_⟩
 exact rfl
 refine r_step rfl rfl (o_cmp rfl rfl (c_leq_F hp20)) ?_
 refine xq 4 [(26, .int .u8 a0), (25, .bool false), (0, .int .u8 a0)] ?_
 rcases ifs hm with ⟨hp21, hm⟩ | ⟨hp21, hm⟩
 refine r_step rfl rfl (o_cmp rfl rfl (c_eql_T hp21)) ?_
 refine xe 6 [(2, .bool true)] ?_
 refine rt ?_
 refine ⟨rfl, ?_⟩
 obtain rfl := si hm
 refine ⟨_, _, _, ResL.tmp rfl (ResL.nil), hS, ?_⟩
 exact rfl
 refine r_step rfl rfl (o_cmp rfl rfl (c_eql_F hp21)) ?_
 refine xq 3 [(30, .int .u8 a0), (29, .bool false)] ?_
 rcases ifs hm with ⟨hp22, hm⟩ | ⟨hp22, hm⟩
 refine r_step rfl rfl (o_cmp rfl rfl (c_eql_T hp22)) ?_
 refine xe 2 [(2, .bool true)] ?_
 refine rt ?_
 refine ⟨rfl, ?_⟩
 obtain rfl := si hm
 refine ⟨_, _, _, ResL.tmp rfl (ResL.nil), hS, ?_⟩
 exact rfl
 refine r_step rfl rfl (o_cmp rfl rfl (c_eql_F hp22)) ?_
 refine xe 2 [(2, .bool false)] ?_
 refine rt ?_
 refine ⟨rfl, ?_⟩
 obtain rfl := si hm
 refine ⟨_, _, _, ResL.tmp rfl (ResL.nil), hS, ?_⟩
 exact rfl
 refine r_step rfl rfl (o_cmp rfl rfl (c_geq_F hp19)) ?_
 refine xq 7 [(26, .int .u8 a0), (25, .bool false), (0, .int .u8 a0)] ?_
 rcases ifs hm with ⟨hp23, hm⟩ | ⟨hp23, hm⟩
 refine r_step rfl rfl (o_cmp rfl rfl (c_eql_T hp23)) ?_
 refine xe 6 [(2, .bool true)] ?_
 refine rt ?_
 refine ⟨rfl, ?_⟩
 obtain rfl := si hm
 refine ⟨_, _, _, ResL.tmp rfl (ResL.nil), hS, ?_⟩
 exact rfl
 refine r_step rfl rfl (o_cmp rfl rfl (c_eql_F hp23)) ?_
 refine xq 3 [(30, .int .u8 a0), (29, .bool false)] ?_
 rcases ifs hm with ⟨hp24, hm⟩ | ⟨hp24, hm⟩
 refine r_step rfl rfl (o_cmp rfl rfl (c_eql_T hp24)) ?_
 refine xe 2 [(2, .bool true)] ?_
 refine rt ?_
 refine ⟨rfl, ?_⟩
 obtain rfl := si hm
 refine ⟨_, _, _, ResL.tmp rfl (ResL.nil), hS, ?_⟩
 exact rfl
 refine r_step rfl rfl (o_cmp rfl rfl (c_eql_F hp24)) ?_
 refine xe 2 [(2, .bool false)] ?_
 refine rt ?_
 refine ⟨rfl, ?_⟩
 obtain rfl := si hm
 refine ⟨_, _, _, ResL.tmp rfl (ResL.nil), hS, ?_⟩
 exact rfl
 refine r_step rfl rfl (o_cmp rfl rfl (c_geq_F hp17)) ?_
 refine xq 7 [(18, .int .u8 a0), (17, .bool false), (0, .int .u8 a0)] ?_
 rcases ifs hm with ⟨hp25, hm⟩ | ⟨hp25, hm⟩
 refine r_step rfl rfl (o_cmp rfl rfl (c_geq_T hp25)) ?_
 refine xq 2 [(21, .int .u8 a0), (20, .bool true), (17, .bool false), (0, .int .u8 a0)] ?_
 rcases ifs hm with ⟨hp26, hm⟩ | ⟨hp26, hm⟩
 refine r_step rfl rfl (o_cmp rfl rfl (c_leq_T hp26)) ?_
 refine xe 11 [(2, .bool true)] ?_
 refine rt ?_
 refine ⟨rfl, ?_⟩
 obtain rfl := si hm
 refine ⟨_, _, _, ResL.tmp rfl (ResL.nil), hS, ?_⟩
 exact rfl
 refine r_step rfl rfl (o_cmp rfl rfl (c_leq_F hp26)) ?_
 refine xq 4 [(26, .int .u8 a0), (25, .bool false), (0, .int .u8 a0)] ?_
 rcases ifs hm with ⟨hp27, hm⟩ | ⟨hp27, hm⟩
 refine r_step rfl rfl (o_cmp rfl rfl (c_eql_T hp27)) ?_
 refine xe 6 [(2, .bool true)] ?_
 refine rt ?_
 refine ⟨rfl, ?_⟩
 obtain rfl := si hm
 refine ⟨_, _, _, ResL.tmp rfl (ResL.nil), hS, ?_⟩
 exact rfl
 refine r_step rfl rfl (o_cmp rfl rfl (c_eql_F hp27)) ?_
 refine xq 3 [(30, .int .u8 a0), (29, .bool false)] ?_
 rcases ifs hm with ⟨hp28, hm⟩ | ⟨hp28, hm⟩
 refine r_step rfl rfl (o_cmp rfl rfl (c_eql_T hp28)) ?_
 refine xe 2 [(2, .bool true)] ?_
 refine rt ?_
 refine ⟨rfl, ?_⟩
 obtain rfl := si hm
 refine ⟨_, _, _, ResL.tmp rfl (ResL.nil), hS, ?_⟩
 exact rfl
 refine r_step rfl rfl (o_cmp rfl rfl (c_eql_F hp28)) ?_
 refine xe 2 [(2, .bool false)] ?_
 refine rt ?_
 refine ⟨rfl, ?_⟩
 obtain rfl := si hm
 refine ⟨_, _, _, ResL.tmp rfl (ResL.nil), hS, ?_⟩
 exact rfl
 refine r_step rfl rfl (o_cmp rfl rfl (c_geq_F hp25)) ?_
 refine xq 7 [(26, .int .u8 a0), (25, .bool false), (0, .int .u8 a0)] ?_
 rcases ifs hm with ⟨hp29, hm⟩ | ⟨hp29, hm⟩
 refine r_step rfl rfl (o_cmp rfl rfl (c_eql_T hp29)) ?_
 refine xe 6 [(2, .bool true)] ?_
 refine rt ?_
 refine ⟨rfl, ?_⟩
 obtain rfl := si hm
 refine ⟨_, _, _, ResL.tmp rfl (ResL.nil), hS, ?_⟩
 exact rfl
 refine r_step rfl rfl (o_cmp rfl rfl (c_eql_F hp29)) ?_
 refine xq 3 [(30, .int .u8 a0), (29, .bool false)] ?_
 rcases ifs hm with ⟨hp30, hm⟩ | ⟨hp30, hm⟩
 refine r_step rfl rfl (o_cmp rfl rfl (c_eql_T hp30)) ?_
 refine xe 2 [(2, .bool true)] ?_
 refine rt ?_
 refine ⟨rfl, ?_⟩
 obtain rfl := si hm
 refine ⟨_, _, _, ResL.tmp rfl (ResL.nil), hS, ?_⟩
 exact rfl
 refine r_step rfl rfl (o_cmp rfl rfl (c_eql_F hp30)) ?_
 refine xe 2 [(2, .bool false)] ?_
 refine rt ?_
 refine ⟨rfl, ?_⟩
 obtain rfl := si hm
 refine ⟨_, _, _, ResL.tmp rfl (ResL.nil), hS, ?_⟩
 exact rfl

def r36_0 : List COp := [u 6 (.assign (ci 0))]
def r36_1 : List COp := [u 7 (mv 1), u 8 (mv 0), u 9 (nk 8), u 10 (fa 52 9 0), u 11 (ld 24 10), u 12 (cb .len #[(t 11)] #[24]), u 13 (bo .lss 3 7 12 3), u 14 (mv 13), gt 14 15 (mv 0), gt 14 16 (nk 15), gt 14 17 (fa 52 16 0), gt 14 18 (ld 24 17), gt 14 19 (mv 1), gt 14 20 (ia 24 18 19), gt 14 21 (ld 5 20), gt 14 22 (cf 57 #[(t 21)] #[5]), gt 14 23 (mv 22), gn 23 24 (mv 2), gn 23 25 (mv 24), gt 25 26 (mv 0), gt 25 27 (nk 26), gt 25 28 (fa 52 27 0), gt 25 29 (ld 24 28), gt 25 30 (mv 1), gt 25 31 (ia 24 29 30), gt 25 32 (ld 5 31), gt 25 33 (.binOp .eql 5 (t 32) (.const (.int .u8 33)) 5), gn 23 34 (pf 25 33), gt 14 35 (pt 23 34), u 36 (pf 14 35)]
def r36_2 : List COp := [u 37 (mv 1), u 38 (bc .add 3 37 1 3), u 1 (sg 38)]
def r36_3 : List COp := [u 39 (mv 1), u 6 (sg 39)]
def correctorref6_scanner_names_l0 (F : Nat) (a0 : correctorref6_scanner) (a1 : Int) (a2 : Bool) : Nat → Int → Option Int
 | 0, _ => none
 | n + 1, x73 =>
  ((if x73 < (a0.B.length : Int) then
    if 0 ≤ x73 ∧ x73 < (a0.B.length : Int) then
     (a0.B[x73.toNat]?).bind fun x106 =>
     (correctorref5_Name F (x106.toNat : Int)).bind fun r112 =>
     if r112 = true then
      some (.inl ())
     else
      if a2 = true then
       if 0 ≤ x73 ∧ x73 < (a0.B.length : Int) then
        (a0.B[x73.toNat]?).bind fun x122 =>
        if (x122.toNat : Int) = (33 : Int) then
         some (.inl ())
        else
         some (.inr x73)
       else none
      else
       some (.inr x73)
    else none
   else
    some (.inr x73)) : Option (Sum Unit Int)).bind fun o => match o with
   | .inl () => correctorref6_scanner_names_l0 F a0 a1 a2 n (w64 (x73 + 1))
   | .inr y => some y
def correctorref6_scanner_names (F : Nat) (a0 : correctorref6_scanner) (a1 : Int) (a2 : Bool) : Option Int :=
 ((correctorref6_scanner_names_l0 F a0 a1 a2 F a1) : Option Int).bind fun o => match o with
  | x135 => some x135
theorem correctorref6_scanner_names_ok (F : Nat) {h : AH} {Z : Zn} {a0 : correctorref6_scanner} {a1 : Int} {a2 : Bool} {b1 : Nat} {v3 : Value} {v5 : Value} {c6 : List Value} (hP : Pre Z h [.blk b1 (K52 v3 v5 a0), .gs v5 c6 (csz api_Token)]) (q2 : RS (α := UInt8) Z v3 a0.B) (q4 : RCs (α := api_Token) Z c6 a0.L) {r : Int} (hm : correctorref6_scanner_names F a0 a1 a2 = some r) :
  ∃ v h' Z' A', callI Try.prog 36 [Pt b1 0, V a1, .bool a2] h = some (v, h') ∧ St h (idsL [.blk b1 (K52 v3 v5 a0), .gs v5 c6 (csz api_Token)]) Z (0, 0) Z' h' A' ∧ V r = v ∧ A' = [.blk b1 (K52 v3 v5 a0), .gs v5 c6 (csz api_Token)] := by
 refine fn_intro (A := [.blk b1 (K52 v3 v5 a0), .gs v5 c6 (csz api_Token)]) (Q := fun v Z' A' => V r = v ∧ A' = [.blk b1 (K52 v3 v5 a0), .gs v5 c6 (csz api_Token)]) Try.func36 rfl rfl (by kernel_rfl) hP ?_
 intro hs hS
 unfold correctorref6_scanner_names at hm
 refine sr r36_0 ?_
 refine xe 1 [(0, Pt b1 0), (1, V a1), (2, .bool a2)] ?_
 refine sq ?_
 obtain ⟨o71, ho70, hm⟩ := obind hm
 refine W_join [1] (fun l h => ∃ Z134 : Zn, ∃ x135 : Int, x135 = o71 ∧ l = [(1, V x135)] ∧ St hs (idsL [.blk b1 (K52 v3 v5 a0), .gs v5 c6 (csz api_Token)]) Z (0, 0) Z134 h [.blk b1 (K52 v3 v5 a0), .gs v5 c6 (csz api_Token)]) ?_ ?_
 rintro l h136 ⟨Z134, x135, rfl, rfl, hS137⟩
 try dsimp only at hm
 refine sr r36_3 ?_
 refine xe 2 [(6, V x135)] ?_
 refine rt ?_
 refine ⟨rfl, ?_⟩
 obtain rfl := si hm
 refine ⟨_, _, _, ResL.tmp rfl (ResL.nil), hS137, ?_⟩
 exact ⟨rfl, rfl⟩
 refine bk 0 ?_
 refine lp [0, 1, 2] (fun n l h => ∃ Z72 : Zn, ∃ x73 : Int, correctorref6_scanner_names_l0 F a0 a1 a2 n x73 = some o71 ∧ l = [(0, Pt b1 0), (1, V x73), (2, .bool a2)] ∧ St hs (idsL [.blk b1 (K52 v3 v5 a0), .gs v5 c6 (csz api_Token)]) Z (0, 0) Z72 h [.blk b1 (K52 v3 v5 a0), .gs v5 c6 (csz api_Token)]) F ⟨_, a1, ho70, rfl, hS⟩ ?_
 rintro n76 l h74 ⟨Z72, x73, ho70, rfl, hS75⟩
 rcases n76 with _ | n76
 cases (show none = some o71 from ho70)
 rw [correctorref6_scanner_names_l0] at ho70
 refine sq ?_
 obtain ⟨o103, ho102, ho70⟩ := obind ho70
 refine W_join [0, 1, 2] (fun l h => ∃ Z129 : Zn, .inl () = o103 ∧ l = [(0, Pt b1 0), (1, V x73), (2, .bool a2)] ∧ St hs (idsL [.blk b1 (K52 v3 v5 a0), .gs v5 c6 (csz api_Token)]) Z (0, 0) Z129 h [.blk b1 (K52 v3 v5 a0), .gs v5 c6 (csz api_Token)]) ?_ ?_
 rintro l h130 ⟨Z129, rfl, rfl, hS131⟩
 try dsimp only at ho70
 refine bk 1 ?_
 refine rg r36_2 ?_
 refine xe 3 [(1, V (w64 (x73 + 1))), (0, Pt b1 0), (2, .bool a2)] ?_
 exact ⟨n76, Nat.lt_succ_self _, ⟨_, w64 (x73 + 1), ho70, rfl, hS131⟩⟩
 refine sr r36_1 ?_
 refine xq 4 [(10, Pt b1 0), (7, V x73), (0, Pt b1 0), (1, V x73), (2, .bool a2)] ?_
 refine r_step rfl trivial (o_ldb (v := v3) hS75 (i := 0) rfl rfl (by kernel_rfl)) ?_
 refine r_step rfl trivial (o_len rfl (RS.len (q2.mono hS75.zle)) ⟨_, Try.underlying24⟩) ?_
 rcases ifs ho102 with ⟨hp104, ho102⟩ | ⟨hp104, ho102⟩
 refine r_step rfl trivial (o_cmp rfl rfl (c_lss_T hp104)) ?_
 refine xq 4 [(17, Pt b1 0), (14, .bool true), (0, Pt b1 0), (1, V x73), (2, .bool a2)] ?_
 refine r_step rfl rfl (o_ldb (v := v3) hS75 (i := 0) rfl rfl (by kernel_rfl)) ?_
 refine xq 1 [(19, V x73), (18, v3), (14, .bool true), (0, Pt b1 0), (1, V x73), (2, .bool a2)] ?_
 obtain ⟨hc105, ho102⟩ := chk ho102
 refine r_step rfl rfl (o_index rfl rfl (by kernel_rfl : slTy _ _ = some (csz UInt8)) (RS.based (q2.mono hS75.zle) (by omega)) hc105.1 hc105.2) ?_
 obtain ⟨x106, hx107, ho102⟩ := obind ho102
 obtain ⟨cs108, hc109, he110⟩ := RS.elz (q2.mono hS75.zle) (i := x73) hx107
 obtain rfl := rc_UInt8 hc109
 refine r_step rfl rfl (o_lde (w := .int .u8 (x106.toNat : Int)) (he110 _ (hS75.zin0 (Zle.refl _))) rfl (by kernel_rfl)) ?_
 obtain ⟨r112, hx113, ho102⟩ := obind ho102
 obtain ⟨v114, h115, hcl116, hSc117, rfl⟩ := correctorref5_Name_ok F hS75.inv  hx113
 have hS118 := St.call (A := []) (B := [.blk b1 (K52 v3 v5 a0), .gs v5 c6 (csz api_Token)]) hS75 hSc117
 replace hS118 : St _ _ _ _ _ _ [.blk b1 (K52 v3 v5 a0), .gs v5 c6 (csz api_Token)] := hS118
 refine r_step rfl rfl (o_call hcl116 rfl rfl rfl) ?_
 refine xq 1 [(23, .bool r112), (14, .bool true), (0, Pt b1 0), (1, V x73), (2, .bool a2)] ?_
 rcases ifs ho102 with ⟨hp119, ho102⟩ | ⟨hp119, ho102⟩
 refine r_setb (t := 23) rfl hp119 ?_
 refine xe 13 [(36, .bool true), (0, Pt b1 0), (1, V x73), (2, .bool a2)] ?_
 refine kT 36 rfl ?_
 obtain rfl := si ho102
 exact ⟨_, rfl, rfl, hS118⟩
 refine r_setb (t := 23) rfl (Bool.eq_false_iff.2 hp119) ?_
 refine xq 2 [(25, .bool a2), (23, .bool false), (14, .bool true), (0, Pt b1 0), (1, V x73), (2, .bool a2)] ?_
 rcases ifs ho102 with ⟨hp120, ho102⟩ | ⟨hp120, ho102⟩
 refine r_setb (t := 25) rfl hp120 ?_
 refine xq 3 [(28, Pt b1 0), (25, .bool true), (23, .bool false), (14, .bool true), (0, Pt b1 0), (1, V x73), (2, .bool a2)] ?_
 refine r_step rfl rfl (o_ldb (v := v3) hS118 (i := 0) rfl rfl (by kernel_rfl)) ?_
 refine xq 1 [(30, V x73), (29, v3), (25, .bool true), (23, .bool false), (14, .bool true), (0, Pt b1 0), (1, V x73), (2, .bool a2)] ?_
 obtain ⟨hc121, ho102⟩ := chk ho102
 refine r_step rfl rfl (o_index rfl rfl (by kernel_rfl : slTy _ _ = some (csz UInt8)) (RS.based (q2.mono hS75.zle) (by omega)) hc121.1 hc121.2) ?_
 obtain ⟨x122, hx123, ho102⟩ := obind ho102
 obtain ⟨cs124, hc125, he126⟩ := RS.elz (q2.mono hS75.zle) (i := x73) hx123
 obtain rfl := rc_UInt8 hc125
 refine r_step rfl rfl (o_lde (w := .int .u8 (x122.toNat : Int)) (he126 _ (hS118.zin0 (Zle.refl _))) rfl (by kernel_rfl)) ?_
 rcases ifs ho102 with ⟨hp128, ho102⟩ | ⟨hp128, ho102⟩
 refine r_step rfl rfl (o_cmp rfl rfl (c_eql_T hp128)) ?_
 refine xe 3 [(36, .bool true), (0, Pt b1 0), (1, V x73), (2, .bool a2)] ?_
 refine kT 36 rfl ?_
 obtain rfl := si ho102
 exact ⟨_, rfl, rfl, hS118⟩
 refine r_step rfl rfl (o_cmp rfl rfl (c_eql_F hp128)) ?_
 refine xe 3 [(36, .bool false), (0, Pt b1 0), (1, V x73), (2, .bool a2)] ?_
 refine cF 36 rfl ?_
 refine xt 0 ?_
 refine blkX_hit ?_
 obtain rfl := si ho102
 obtain rfl := si ho70
 exact ⟨_, x73, rfl, rfl, hS118⟩
 refine r_setb (t := 25) rfl (Bool.eq_false_iff.2 hp120) ?_
 refine xe 11 [(36, .bool false), (0, Pt b1 0), (1, V x73), (2, .bool a2)] ?_
 refine cF 36 rfl ?_
 refine xt 0 ?_
 refine blkX_hit ?_
 obtain rfl := si ho102
 obtain rfl := si ho70
 exact ⟨_, x73, rfl, rfl, hS118⟩
 refine r_step rfl trivial (o_cmp rfl rfl (c_lss_F hp104)) ?_
 refine xe 23 [(36, .bool false), (0, Pt b1 0), (1, V x73), (2, .bool a2)] ?_
 refine cF 36 rfl ?_
 refine xt 0 ?_
 refine blkX_hit ?_
 obtain rfl := si ho102
 obtain rfl := si ho70
 exact ⟨_, x73, rfl, rfl, hS75⟩

def r58_0 : List COp := [u 2 (.assign (.const (.bool false)))]
def r58_1 : List COp := [u 3 (mv 0), u 4 (.binOp .eql 5 (t 3) (.const (.int .u8 44)) 5), u 5 (mv 4), gn 5 6 (mv 0), gn 5 7 (.binOp .eql 5 (t 6) (.const (.int .u8 91)) 5), u 8 (pt 5 7), u 9 (mv 8), gn 9 10 (mv 0), gn 9 11 (.binOp .eql 5 (t 10) (.const (.int .u8 93)) 5), u 12 (pt 9 11), u 13 (mv 12), gn 13 14 (mv 0), gn 13 15 (.binOp .eql 5 (t 14) (.const (.int .u8 123)) 5), u 16 (pt 13 15), u 17 (mv 16), gn 17 18 (mv 0), gn 17 19 (.binOp .eql 5 (t 18) (.const (.int .u8 125)) 5), u 20 (pt 17 19), u 2 (sg 20)]
def correctorref5_Flow (F : Nat) (a0 : Int) : Option Bool :=
 if a0 = (44 : Int) then
  some true
 else
  if a0 = (91 : Int) then
   some true
  else
   if a0 = (93 : Int) then
    some true
   else
    if a0 = (123 : Int) then
     some true
    else
     if a0 = (125 : Int) then
      some true
     else
      some false
theorem correctorref5_Flow_ok (F : Nat) {h : AH} {Z : Zn} {a0 : Int} (hI : Inv Z h) {r : Bool} (hm : correctorref5_Flow F a0 = some r) :
  ∃ v h', callI Try.prog 58 [.int .u8 a0] h = some (v, h') ∧ St h [] Z (0, 0) Z h' [] ∧ v = .bool r := by
 refine fn_plain (Q := fun v => v = .bool r) Try.func58 rfl rfl hI ?_
 intro hs hS
 unfold correctorref5_Flow at hm
 refine sr r58_0 ?_
 refine xe 1 [(0, .int .u8 a0)] ?_
 refine sr r58_1 ?_
 refine xq 1 [(3, .int .u8 a0), (0, .int .u8 a0)] ?_
 rcases ifs hm with ⟨hp1, hm⟩ | ⟨hp1, hm⟩
 refine r_step rfl trivial (o_cmp rfl rfl (c_eql_T hp1)) ?_
 refine xe 17 [(2, .bool true)] ?_
 refine rt ?_
 refine ⟨rfl, ?_⟩
 obtain rfl := si hm
 refine ⟨_, _, _, ResL.tmp rfl (ResL.nil), hS, ?_⟩
 exact rfl
 refine r_step rfl trivial (o_cmp rfl rfl (c_eql_F hp1)) ?_
 refine xq 2 [(6, .int .u8 a0), (5, .bool false), (0, .int .u8 a0)] ?_
 rcases ifs hm with ⟨hp2, hm⟩ | ⟨hp2, hm⟩
 refine r_step rfl rfl (o_cmp rfl rfl (c_eql_T hp2)) ?_
 refine xe 14 [(2, .bool true)] ?_
 refine rt ?_
 refine ⟨rfl, ?_⟩
 obtain rfl := si hm
 refine ⟨_, _, _, ResL.tmp rfl (ResL.nil), hS, ?_⟩
 exact rfl
 refine r_step rfl rfl (o_cmp rfl rfl (c_eql_F hp2)) ?_
 refine xq 3 [(10, .int .u8 a0), (9, .bool false), (0, .int .u8 a0)] ?_
 rcases ifs hm with ⟨hp3, hm⟩ | ⟨hp3, hm⟩
 refine r_step rfl rfl (o_cmp rfl rfl (c_eql_T hp3)) ?_
 refine xe 10 [(2, .bool true)] ?_
 refine rt ?_
 refine ⟨rfl, ?_⟩
 obtain rfl := si hm
 refine ⟨_, _, _, ResL.tmp rfl (ResL.nil), hS, ?_⟩
 exact rfl
 refine r_step rfl rfl (o_cmp rfl rfl (c_eql_F hp3)) ?_
 refine xq 3 [(14, .int .u8 a0), (13, .bool false), (0, .int .u8 a0)] ?_
 rcases ifs hm with ⟨hp4, hm⟩ | ⟨hp4, hm⟩
 refine r_step rfl rfl (o_cmp rfl rfl (c_eql_T hp4)) ?_
 refine xe 6 [(2, .bool true)] ?_
 refine rt ?_
 refine ⟨rfl, ?_⟩
 obtain rfl := si hm
 refine ⟨_, _, _, ResL.tmp rfl (ResL.nil), hS, ?_⟩
 exact rfl
 refine r_step rfl rfl (o_cmp rfl rfl (c_eql_F hp4)) ?_
 refine xq 3 [(18, .int .u8 a0), (17, .bool false)] ?_
 rcases ifs hm with ⟨hp5, hm⟩ | ⟨hp5, hm⟩
 refine r_step rfl rfl (o_cmp rfl rfl (c_eql_T hp5)) ?_
 refine xe 2 [(2, .bool true)] ?_
 refine rt ?_
 refine ⟨rfl, ?_⟩
 obtain rfl := si hm
 refine ⟨_, _, _, ResL.tmp rfl (ResL.nil), hS, ?_⟩
 exact rfl
 refine r_step rfl rfl (o_cmp rfl rfl (c_eql_F hp5)) ?_
 refine xe 2 [(2, .bool false)] ?_
 refine rt ?_
 refine ⟨rfl, ?_⟩
 obtain rfl := si hm
 refine ⟨_, _, _, ResL.tmp rfl (ResL.nil), hS, ?_⟩
 exact rfl

def r37_0 : List COp := [u 4 (.assign (.const (.bool false)))]
def r37_1 : List COp := [u 5 (mv 0), u 6 (mv 1), u 7 (cf 28 #[(t 5), (t 6)] #[50, 3]), u 8 (.binOp .eql 5 (t 7) (.const (.int .u8 58)) 5), u 9 (mv 8), gt 9 10 (mv 1), gt 9 11 (mv 0), gt 9 12 (nk 11), gt 9 13 (fa 52 12 0), gt 9 14 (ld 24 13), gt 9 15 (cb .len #[(t 14)] #[24]), gt 9 16 (bo .lss 3 10 15 3), u 17 (pf 9 16), u 18 (mv 17), gt 18 19 (mv 0), gt 18 20 (mv 1), gt 18 21 (bc .add 3 20 1 3), gt 18 22 (cf 29 #[(t 19), (t 21)] #[50, 3]), gt 18 23 (mv 22), gn 23 24 (mv 0), gn 23 25 (nk 24), gn 23 26 (fa 52 25 3), gn 23 27 (ld 3 26), gn 23 28 (bc .gtr 3 27 0 3), gn 23 29 (mv 28), gt 29 30 (mv 0), gt 29 31 (mv 1), gt 29 32 (bc .add 3 31 1 3), gt 29 33 (cf 28 #[(t 30), (t 32)] #[50, 3]), gt 29 34 (cf 58 #[(t 33)] #[5]), gn 23 35 (pf 29 34), gt 18 36 (pt 23 35), u 37 (pf 18 36), u 4 (sg 37)]
def correctorref6_scanner_colon (F : Nat) (a0 : correctorref6_scanner) (a1 : Int) : Option Bool :=
 (correctorref6_scanner_byteAt F a0 a1).bind fun r7 =>
 if (r7.toNat : Int) = (58 : Int) then
  if a1 < (a0.B.length : Int) then
   (correctorref6_scanner_ended F a0 (w64 (a1 + 1))).bind fun r20 =>
   if r20 = true then
    some true
   else
    if (0 : Int) < a0.Open then
     (correctorref6_scanner_byteAt F a0 (w64 (a1 + 1))).bind fun r33 =>
     (correctorref5_Flow F (r33.toNat : Int)).bind fun r44 =>
     some r44
    else
     some false
  else
   some false
 else
  some false
theorem correctorref6_scanner_colon_ok (F : Nat) {h : AH} {Z : Zn} {a0 : correctorref6_scanner} {a1 : Int} {b1 : Nat} {v3 : Value} {v5 : Value} {c6 : List Value} (hP : Pre Z h [.blk b1 (K52 v3 v5 a0), .gs v5 c6 (csz api_Token)]) (q2 : RS (α := UInt8) Z v3 a0.B) (q4 : RCs (α := api_Token) Z c6 a0.L) {r : Bool} (hm : correctorref6_scanner_colon F a0 a1 = some r) :
  ∃ v h' Z' A', callI Try.prog 37 [Pt b1 0, V a1] h = some (v, h') ∧ St h (idsL [.blk b1 (K52 v3 v5 a0), .gs v5 c6 (csz api_Token)]) Z (0, 0) Z' h' A' ∧ .bool r = v ∧ A' = [.blk b1 (K52 v3 v5 a0), .gs v5 c6 (csz api_Token)] := by
 refine fn_intro (A := [.blk b1 (K52 v3 v5 a0), .gs v5 c6 (csz api_Token)]) (Q := fun v Z' A' => .bool r = v ∧ A' = [.blk b1 (K52 v3 v5 a0), .gs v5 c6 (csz api_Token)]) Try.func37 rfl rfl (by kernel_rfl) hP ?_
 intro hs hS
 unfold correctorref6_scanner_colon at hm
 refine sr r37_0 ?_
 refine xe 1 [(0, Pt b1 0), (1, V a1)] ?_
 refine sr r37_1 ?_
 refine xq 2 [(6, V a1), (5, Pt b1 0), (0, Pt b1 0), (1, V a1)] ?_
 obtain ⟨r7, hx8, hm⟩ := obind hm
 have hF14 : St _ _ _ _ _ _ ([.blk b1 (K52 v3 v5 a0), .gs v5 c6 (csz api_Token)] ++ []) := ((hS.front 1 rfl).front 1 rfl)
 obtain ⟨v9, h10, Z15, A17, hcl11, hSc12, rfl, rfl⟩ := correctorref6_scanner_byteAt_ok F hF14.preL q2 q4 hx8
 have hZ16 := hSc12.zle
 have hS13 := hF14.call hSc12
 replace hS13 : St _ _ _ _ _ _ [.blk b1 (K52 v3 v5 a0), .gs v5 c6 (csz api_Token)] := hS13
 refine r_step rfl trivial (o_call hcl11 rfl rfl rfl) ?_
 rcases ifs hm with ⟨hp18, hm⟩ | ⟨hp18, hm⟩
 refine r_step rfl trivial (o_cmp rfl rfl (c_eql_T hp18)) ?_
 refine xq 5 [(13, Pt b1 0), (10, V a1), (9, .bool true), (0, Pt b1 0), (1, V a1)] ?_
 refine r_step rfl rfl (o_ldb (v := v3) hS13 (i := 0) rfl rfl (by kernel_rfl)) ?_
 refine r_step rfl rfl (o_len rfl (RS.len (q2.mono hZ16)) ⟨_, Try.underlying24⟩) ?_
 rcases ifs hm with ⟨hp19, hm⟩ | ⟨hp19, hm⟩
 refine r_step rfl rfl (o_cmp rfl rfl (c_lss_T hp19)) ?_
 refine xq 5 [(21, V (w64 (a1 + 1))), (19, Pt b1 0), (18, .bool true), (0, Pt b1 0), (1, V a1)] ?_
 obtain ⟨r20, hx21, hm⟩ := obind hm
 have hF27 : St _ _ _ _ _ _ ([.blk b1 (K52 v3 v5 a0), .gs v5 c6 (csz api_Token)] ++ []) := ((hS13.front 1 rfl).front 1 rfl)
 obtain ⟨v22, h23, Z28, A30, hcl24, hSc25, rfl, rfl⟩ := correctorref6_scanner_ended_ok F hF27.preL (q2.mono hZ16) (q4.mono hZ16) hx21
 have hZ29 := hSc25.zle
 have hS26 := hF27.call hSc25
 replace hS26 : St _ _ _ _ _ _ [.blk b1 (K52 v3 v5 a0), .gs v5 c6 (csz api_Token)] := hS26
 refine r_step rfl rfl (o_call hcl24 rfl rfl rfl) ?_
 refine xq 1 [(23, .bool r20), (18, .bool true), (0, Pt b1 0), (1, V a1)] ?_
 rcases ifs hm with ⟨hp31, hm⟩ | ⟨hp31, hm⟩
 refine r_setb (t := 23) rfl hp31 ?_
 refine xe 15 [(4, .bool true)] ?_
 refine rt ?_
 refine ⟨rfl, ?_⟩
 obtain rfl := si hm
 refine ⟨_, _, _, ResL.tmp rfl (ResL.nil), hS26, ?_⟩
 exact ⟨rfl, rfl⟩
 refine r_setb (t := 23) rfl (Bool.eq_false_iff.2 hp31) ?_
 refine xq 3 [(26, Pt b1 3), (23, .bool false), (18, .bool true), (0, Pt b1 0), (1, V a1)] ?_
 refine r_step rfl rfl (o_ldb (v := V a0.Open) hS26 (i := 0) rfl rfl (by kernel_rfl)) ?_
 rcases ifs hm with ⟨hp32, hm⟩ | ⟨hp32, hm⟩
 refine r_step rfl rfl (o_cmp rfl rfl (c_gtr_T hp32)) ?_
 refine xq 4 [(32, V (w64 (a1 + 1))), (30, Pt b1 0), (29, .bool true), (23, .bool false), (18, .bool true)] ?_
 obtain ⟨r33, hx34, hm⟩ := obind hm
 have hF40 : St _ _ _ _ _ _ ([.blk b1 (K52 v3 v5 a0), .gs v5 c6 (csz api_Token)] ++ []) := ((hS26.front 1 rfl).front 1 rfl)
 obtain ⟨v35, h36, Z41, A43, hcl37, hSc38, rfl, rfl⟩ := correctorref6_scanner_byteAt_ok F hF40.preL (q2.mono (hZ16.trans hZ29)) (q4.mono (hZ16.trans hZ29)) hx34
 have hZ42 := hSc38.zle
 have hS39 := hF40.call hSc38
 replace hS39 : St _ _ _ _ _ _ [.blk b1 (K52 v3 v5 a0), .gs v5 c6 (csz api_Token)] := hS39
 refine r_step rfl rfl (o_call hcl37 rfl rfl rfl) ?_
 obtain ⟨r44, hx45, hm⟩ := obind hm
 obtain ⟨v46, h47, hcl48, hSc49, rfl⟩ := correctorref5_Flow_ok F hS39.inv  hx45
 have hS50 := St.call (A := []) (B := [.blk b1 (K52 v3 v5 a0), .gs v5 c6 (csz api_Token)]) hS39 hSc49
 replace hS50 : St _ _ _ _ _ _ [.blk b1 (K52 v3 v5 a0), .gs v5 c6 (csz api_Token)] := hS50
 refine r_step rfl rfl (o_call hcl48 rfl rfl rfl) ?_
 refine xe 4 [(4, .bool r44)] ?_
 refine rt ?_
 refine ⟨rfl, ?_⟩
 obtain rfl := si hm
 refine ⟨_, _, _, ResL.tmp rfl (ResL.nil), hS50, ?_⟩
 exact ⟨rfl, rfl⟩
 refine r_step rfl rfl (o_cmp rfl rfl (c_gtr_F hp32)) ?_
 refine xe 10 [(4, .bool false)] ?_
 refine rt ?_
 refine ⟨rfl, ?_⟩
 obtain rfl := si hm
 refine ⟨_, _, _, ResL.tmp rfl (ResL.nil), hS26, ?_⟩
 exact ⟨rfl, rfl⟩
 refine r_step rfl rfl (o_cmp rfl rfl (c_lss_F hp19)) ?_
 refine xe 22 [(4, .bool false)] ?_
 refine rt ?_
 refine ⟨rfl, ?_⟩
 obtain rfl := si hm
 refine ⟨_, _, _, ResL.tmp rfl (ResL.nil), hS13, ?_⟩
 exact ⟨rfl, rfl⟩
 refine r_step rfl trivial (o_cmp rfl rfl (c_eql_F hp18)) ?_
 refine xe 30 [(4, .bool false)] ?_
 refine rt ?_
 refine ⟨rfl, ?_⟩
 obtain rfl := si hm
 refine ⟨_, _, _, ResL.tmp rfl (ResL.nil), hS13, ?_⟩
 exact ⟨rfl, rfl⟩

def r38_0 : List COp := [u 6 (.assign (ci 0))]
def r38_1 : List COp := [u 7 (mv 1), u 8 (mv 2), u 9 (bo .lss 3 7 8 3)]
def r38_2 : List COp := [u 10 (mv 0), u 11 (nk 10), u 12 (fa 52 11 0), u 13 (ld 24 12), u 14 (mv 1), u 15 (ia 24 13 14), u 16 (ld 5 15), u 17 (.binOp .neq 5 (t 16) (.const (.int .u8 39)) 5)]
def r38_3 : List COp := [u 18 (mv 1), u 19 (bc .add 3 18 1 3), u 1 (sg 19)]
def r38_4 : List COp := [u 20 (mv 1), u 21 (bc .add 3 20 1 3), u 22 (mv 2), u 23 (bo .lss 3 21 22 3), u 24 (mv 23), gt 24 25 (mv 0), gt 24 26 (nk 25), gt 24 27 (fa 52 26 0), gt 24 28 (ld 24 27), gt 24 29 (mv 1), gt 24 30 (bc .add 3 29 1 3), gt 24 31 (ia 24 28 30), gt 24 32 (ld 5 31), gt 24 33 (.binOp .eql 5 (t 32) (.const (.int .u8 39)) 5), u 34 (pf 24 33)]
def r38_5 : List COp := [u 35 (mv 1), u 36 (bc .add 3 35 2 3), u 1 (sg 36)]
def r38_6 : List COp := [u 37 (mv 1), u 38 (bc .add 3 37 1 3), u 6 (sg 38)]
def r38_7 : List COp := [u 39 (mv 2), u 6 (sg 39)]
def correctorref6_scanner_single_l0 (F : Nat) (a0 : correctorref6_scanner) (a1 : Int) (a2 : Int) : Nat → Int → Option (Sum Unit Int)
 | 0, _ => none
 | n + 1, x103 =>
  if x103 < a2 then
   ((if 0 ≤ x103 ∧ x103 < (a0.B.length : Int) then
     (a0.B[x103.toNat]?).bind fun x165 =>
     if (x165.toNat : Int) = (39 : Int) then
      ((if (w64 (x103 + 1)) < a2 then
        if 0 ≤ (w64 (x103 + 1)) ∧ (w64 (x103 + 1)) < (a0.B.length : Int) then
         (a0.B[(w64 (x103 + 1)).toNat]?).bind fun x185 =>
         if (x185.toNat : Int) = (39 : Int) then
          some (.inr (w64 (x103 + 2)))
         else
          some (.inl ())
        else none
       else
        some (.inl ())) : Option (Sum Unit Int)).bind fun o => match o with
       | .inl () => some (.inr (w64 (x103 + 1)))
       | .inr y => some (.inl y)
     else
      some (.inl (w64 (x103 + 1)))
    else none) : Option (Sum Int Int)).bind fun o => match o with
    | .inl x197 => correctorref6_scanner_single_l0 F a0 a1 a2 n x197
    | .inr y => some (.inr y)
  else
   some (.inl ())
def correctorref6_scanner_single (F : Nat) (a0 : correctorref6_scanner) (a1 : Int) (a2 : Int) : Option Int :=
 ((correctorref6_scanner_single_l0 F a0 a1 a2 F a1) : Option (Sum Unit Int)).bind fun o => match o with
  | .inl () => some a2
  | .inr y => some y
theorem correctorref6_scanner_single_ok (F : Nat) {h : AH} {Z : Zn} {a0 : correctorref6_scanner} {a1 : Int} {a2 : Int} {b1 : Nat} {v3 : Value} {v5 : Value} {c6 : List Value} (hP : Pre Z h [.blk b1 (K52 v3 v5 a0), .gs v5 c6 (csz api_Token)]) (q2 : RS (α := UInt8) Z v3 a0.B) (q4 : RCs (α := api_Token) Z c6 a0.L) {r : Int} (hm : correctorref6_scanner_single F a0 a1 a2 = some r) :
  ∃ v h' Z' A', callI Try.prog 38 [Pt b1 0, V a1, V a2] h = some (v, h') ∧ St h (idsL [.blk b1 (K52 v3 v5 a0), .gs v5 c6 (csz api_Token)]) Z (0, 0) Z' h' A' ∧ V r = v ∧ A' = [.blk b1 (K52 v3 v5 a0), .gs v5 c6 (csz api_Token)] := by
 refine fn_intro (A := [.blk b1 (K52 v3 v5 a0), .gs v5 c6 (csz api_Token)]) (Q := fun v Z' A' => V r = v ∧ A' = [.blk b1 (K52 v3 v5 a0), .gs v5 c6 (csz api_Token)]) Try.func38 rfl rfl (by kernel_rfl) hP ?_
 intro hs hS
 unfold correctorref6_scanner_single at hm
 refine sr r38_0 ?_
 refine xe 1 [(0, Pt b1 0), (1, V a1), (2, V a2)] ?_
 refine sq ?_
 obtain ⟨o101, ho100, hm⟩ := obind hm
 refine W_join [2] (fun l h => ∃ Z201 : Zn, .inl () = o101 ∧ l = [(2, V a2)] ∧ St hs (idsL [.blk b1 (K52 v3 v5 a0), .gs v5 c6 (csz api_Token)]) Z (0, 0) Z201 h [.blk b1 (K52 v3 v5 a0), .gs v5 c6 (csz api_Token)]) ?_ ?_
 rintro l h202 ⟨Z201, rfl, rfl, hS203⟩
 try dsimp only at hm
 refine sr r38_7 ?_
 refine xe 2 [(6, V a2)] ?_
 refine rt ?_
 refine ⟨rfl, ?_⟩
 obtain rfl := si hm
 refine ⟨_, _, _, ResL.tmp rfl (ResL.nil), hS203, ?_⟩
 exact ⟨rfl, rfl⟩
 refine bk 0 ?_
 refine lp [0, 1, 2] (fun n l h => ∃ Z102 : Zn, ∃ x103 : Int, correctorref6_scanner_single_l0 F a0 a1 a2 n x103 = some o101 ∧ l = [(0, Pt b1 0), (1, V x103), (2, V a2)] ∧ St hs (idsL [.blk b1 (K52 v3 v5 a0), .gs v5 c6 (csz api_Token)]) Z (0, 0) Z102 h [.blk b1 (K52 v3 v5 a0), .gs v5 c6 (csz api_Token)]) F ⟨_, a1, ho100, rfl, hS⟩ ?_
 rintro n106 l h104 ⟨Z102, x103, ho100, rfl, hS105⟩
 rcases n106 with _ | n106
 cases (show none = some o101 from ho100)
 rw [correctorref6_scanner_single_l0] at ho100
 refine sq ?_
 refine sr r38_1 ?_
 refine xq 2 [(8, V a2), (7, V x103), (0, Pt b1 0), (1, V x103), (2, V a2)] ?_
 rcases ifs ho100 with ⟨hp109, ho100⟩ | ⟨hp109, ho100⟩
 refine r_step rfl trivial (o_cmp rfl rfl (c_lss_T hp109)) ?_
 refine xf [(9, .bool true), (0, Pt b1 0), (1, V x103), (2, V a2)] ?_
 refine kT 9 rfl ?_
 obtain ⟨o147, ho146, ho100⟩ := obind ho100
 refine W_join [0, 1, 2] (fun l h => ∃ Z196 : Zn, ∃ x197 : Int, .inl x197 = o147 ∧ l = [(0, Pt b1 0), (1, V x197), (2, V a2)] ∧ St hs (idsL [.blk b1 (K52 v3 v5 a0), .gs v5 c6 (csz api_Token)]) Z (0, 0) Z196 h [.blk b1 (K52 v3 v5 a0), .gs v5 c6 (csz api_Token)]) ?_ ?_
 rintro l h198 ⟨Z196, x197, rfl, rfl, hS199⟩
 try dsimp only at ho100
 exact ⟨n106, Nat.lt_succ_self _, ⟨_, x197, ho100, rfl, hS199⟩⟩
 refine bk 1 ?_
 refine sq ?_
 refine sr r38_2 ?_
 refine xq 3 [(12, Pt b1 0), (0, Pt b1 0), (1, V x103), (2, V a2)] ?_
 refine r_step rfl trivial (o_ldb (v := v3) hS105 (i := 0) rfl rfl (by kernel_rfl)) ?_
 refine xq 1 [(14, V x103), (13, v3), (0, Pt b1 0), (1, V x103), (2, V a2)] ?_
 obtain ⟨hc164, ho146⟩ := chk ho146
 refine r_step rfl trivial (o_index rfl rfl (by kernel_rfl : slTy _ _ = some (csz UInt8)) (RS.based (q2.mono hS105.zle) (by omega)) hc164.1 hc164.2) ?_
 obtain ⟨x165, hx166, ho146⟩ := obind ho146
 obtain ⟨cs167, hc168, he169⟩ := RS.elz (q2.mono hS105.zle) (i := x103) hx166
 obtain rfl := rc_UInt8 hc168
 refine r_step rfl trivial (o_lde (w := .int .u8 (x165.toNat : Int)) (he169 _ (hS105.zin0 (Zle.refl _))) rfl (by kernel_rfl)) ?_
 rcases ifs ho146 with ⟨hp171, ho146⟩ | ⟨hp171, ho146⟩
 refine r_step rfl trivial (o_cmp rfl rfl (c_neq_F hp171)) ?_
 refine xf [(17, .bool false), (0, Pt b1 0), (1, V x103), (2, V a2)] ?_
 refine kF 17 rfl ?_
 refine sq ?_
 obtain ⟨o182, ho181, ho146⟩ := obind ho146
 refine W_seqJoin0 [1] (fun l h => ∃ Z192 : Zn, .inl () = o182 ∧ l = [(1, V x103)] ∧ St hs (idsL [.blk b1 (K52 v3 v5 a0), .gs v5 c6 (csz api_Token)]) Z (0, 0) Z192 h [.blk b1 (K52 v3 v5 a0), .gs v5 c6 (csz api_Token)]) (by kernel_rfl) ?_ ?_
 rintro l h193 ⟨Z192, rfl, rfl, hS194⟩
 try dsimp only at ho146
 refine sr r38_6 ?_
 refine xe 3 [(6, V (w64 (x103 + 1)))] ?_
 refine rt ?_
 refine blkX_ret ?_
 refine blkX_ret ?_
 refine ⟨rfl, ?_⟩
 obtain rfl := si ho146
 obtain rfl := si ho100
 obtain rfl := si hm
 refine ⟨_, _, _, ResL.tmp rfl (ResL.nil), hS194, ?_⟩
 exact ⟨rfl, rfl⟩
 refine rg r38_4 ?_
 refine xq 3 [(22, V a2), (21, V (w64 (x103 + 1))), (0, Pt b1 0), (1, V x103), (2, V a2)] ?_
 rcases ifs ho181 with ⟨hp183, ho181⟩ | ⟨hp183, ho181⟩
 refine r_step rfl trivial (o_cmp rfl rfl (c_lss_T hp183)) ?_
 refine xq 4 [(27, Pt b1 0), (24, .bool true), (0, Pt b1 0), (1, V x103), (2, V a2)] ?_
 refine r_step rfl rfl (o_ldb (v := v3) hS105 (i := 0) rfl rfl (by kernel_rfl)) ?_
 refine xq 2 [(30, V (w64 (x103 + 1))), (28, v3), (24, .bool true), (0, Pt b1 0), (1, V x103), (2, V a2)] ?_
 obtain ⟨hc184, ho181⟩ := chk ho181
 refine r_step rfl rfl (o_index rfl rfl (by kernel_rfl : slTy _ _ = some (csz UInt8)) (RS.based (q2.mono hS105.zle) (by omega)) hc184.1 hc184.2) ?_
 obtain ⟨x185, hx186, ho181⟩ := obind ho181
 obtain ⟨cs187, hc188, he189⟩ := RS.elz (q2.mono hS105.zle) (i := w64 (x103 + 1)) hx186
 obtain rfl := rc_UInt8 hc188
 refine r_step rfl rfl (o_lde (w := .int .u8 (x185.toNat : Int)) (he189 _ (hS105.zin0 (Zle.refl _))) rfl (by kernel_rfl)) ?_
 rcases ifs ho181 with ⟨hp191, ho181⟩ | ⟨hp191, ho181⟩
 refine r_step rfl rfl (o_cmp rfl rfl (c_eql_T hp191)) ?_
 refine xe 1 [(34, .bool true), (0, Pt b1 0), (1, V x103), (2, V a2)] ?_
 refine cT 34 rfl ?_
 refine sr r38_5 ?_
 refine xe 3 [(1, V (w64 (x103 + 2))), (0, Pt b1 0), (2, V a2)] ?_
 refine xt 1 ?_
 refine blkX_hit ?_
 obtain rfl := si ho181
 obtain rfl := si ho146
 exact ⟨_, w64 (x103 + 2), rfl, rfl, hS105⟩
 refine r_step rfl rfl (o_cmp rfl rfl (c_eql_F hp191)) ?_
 refine xe 1 [(34, .bool false), (0, Pt b1 0), (1, V x103), (2, V a2)] ?_
 refine kF 34 rfl ?_
 obtain rfl := si ho181
 exact ⟨_, rfl, rfl, hS105⟩
 refine r_step rfl trivial (o_cmp rfl rfl (c_lss_F hp183)) ?_
 refine xe 11 [(34, .bool false), (0, Pt b1 0), (1, V x103), (2, V a2)] ?_
 refine kF 34 rfl ?_
 obtain rfl := si ho181
 exact ⟨_, rfl, rfl, hS105⟩
 refine r_step rfl trivial (o_cmp rfl rfl (c_neq_T hp171)) ?_
 refine xf [(17, .bool true), (0, Pt b1 0), (1, V x103), (2, V a2)] ?_
 refine cT 17 rfl ?_
 refine sr r38_3 ?_
 refine xe 3 [(1, V (w64 (x103 + 1))), (0, Pt b1 0), (2, V a2)] ?_
 refine xt 1 ?_
 refine blkX_hit ?_
 obtain rfl := si ho146
 exact ⟨_, w64 (x103 + 1), rfl, rfl, hS105⟩
 refine r_step rfl trivial (o_cmp rfl rfl (c_lss_F hp109)) ?_
 refine xf [(9, .bool false), (0, Pt b1 0), (1, V x103), (2, V a2)] ?_
 refine cF 9 rfl ?_
 refine xt 0 ?_
 refine blkX_hit ?_
 obtain rfl := si ho100
 exact ⟨_, rfl, rfl, hS105⟩

end Go.Proofs.Ytahcngeimlkcgaa.M
