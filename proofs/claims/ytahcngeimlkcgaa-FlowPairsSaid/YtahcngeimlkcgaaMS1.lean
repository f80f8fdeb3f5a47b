/- Printed by a program of this session: Go functions as Lean functions over plain data, and that the calls come to them. -/
import Derived.Test.YtahcngeimlkcgaaSyJ
import Derived.Test.YtahcngeimlkcgaaChecked
import Derived.KernelRfl
import Derived.Test.YtahcngeimlkcgaaMS0
namespace Go.Proofs.Ytahcngeimlkcgaa.M
open Go Am Sy
open Sy.Cell (rc)
set_option linter.unusedVariables false
set_option linter.unusedSimpArgs false
set_option maxRecDepth 20000

def r39_0 : List COp := [u 6 (.assign (ci 0))]
def r39_1 : List COp := [u 7 (mv 1), u 8 (mv 2), u 9 (bo .lss 3 7 8 3)]
def r39_2 : List COp := [u 10 (mv 0), u 11 (nk 10), u 12 (fa 52 11 0), u 13 (ld 24 12), u 14 (mv 1), u 15 (ia 24 13 14), u 16 (ld 5 15), u 17 (.binOp .eql 5 (t 16) (.const (.int .u8 34)) 5)]
def r39_3 : List COp := [u 18 (mv 1), u 19 (bc .add 3 18 1 3), u 6 (sg 19)]
def r39_4 : List COp := [u 20 (mv 0), u 21 (nk 20), u 22 (fa 52 21 0), u 23 (ld 24 22), u 24 (mv 1), u 25 (ia 24 23 24), u 26 (ld 5 25), u 27 (.binOp .eql 5 (t 26) (.const (.int .u8 92)) 5)]
def r39_5 : List COp := [u 28 (mv 1), u 29 (bc .add 3 28 1 3), u 1 (sg 29)]
def r39_6 : List COp := [u 30 (mv 1), u 31 (bc .add 3 30 1 3), u 1 (sg 31)]
def r39_7 : List COp := [u 32 (mv 2), u 6 (sg 32)]
def correctorref6_scanner_double_l0 (F : Nat) (a0 : correctorref6_scanner) (a1 : Int) (a2 : Int) : Nat → Int → Option (Sum Unit Int)
 | 0, _ => none
 | n + 1, x95 =>
  if x95 < a2 then
   if 0 ≤ x95 ∧ x95 < (a0.B.length : Int) then
    (a0.B[x95.toNat]?).bind fun x119 =>
    if (x119.toNat : Int) = (34 : Int) then
     some (.inr (w64 (x95 + 1)))
    else
     ((if 0 ≤ x95 ∧ x95 < (a0.B.length : Int) then
       (a0.B[x95.toNat]?).bind fun x137 =>
       if (x137.toNat : Int) = (92 : Int) then
        some (w64 (x95 + 1))
       else
        some x95
      else none) : Option Int).bind fun o => match o with
      | x145 => correctorref6_scanner_double_l0 F a0 a1 a2 n (w64 (x145 + 1))
   else none
  else
   some (.inl ())
def correctorref6_scanner_double (F : Nat) (a0 : correctorref6_scanner) (a1 : Int) (a2 : Int) : Option Int :=
 ((correctorref6_scanner_double_l0 F a0 a1 a2 F a1) : Option (Sum Unit Int)).bind fun o => match o with
  | .inl () => some a2
  | .inr y => some y
theorem correctorref6_scanner_double_ok (F : Nat) {h : AH} {Z : Zn} {a0 : correctorref6_scanner} {a1 : Int} {a2 : Int} {b1 : Nat} {v3 : Value} {v5 : Value} {c6 : List Value} (hP : Pre Z h [.blk b1 (K52 v3 v5 a0), .gs v5 c6 (csz api_Token)]) (q2 : RS (α := UInt8) Z v3 a0.B) (q4 : RCs (α := api_Token) Z c6 a0.L) {r : Int} (hm : correctorref6_scanner_double F a0 a1 a2 = some r) :
  ∃ v h' Z' A', callI Try.prog 39 [Pt b1 0, V a1, V a2] h = some (v, h') ∧ St h (idsL [.blk b1 (K52 v3 v5 a0), .gs v5 c6 (csz api_Token)]) Z (0, 0) Z' h' A' ∧ V r = v ∧ A' = [.blk b1 (K52 v3 v5 a0), .gs v5 c6 (csz api_Token)] := by
 refine fn_intro (A := [.blk b1 (K52 v3 v5 a0), .gs v5 c6 (csz api_Token)]) (Q := fun v Z' A' => V r = v ∧ A' = [.blk b1 (K52 v3 v5 a0), .gs v5 c6 (csz api_Token)]) Try.func39 rfl rfl (by kernel_rfl) hP ?_
 intro hs hS
 unfold correctorref6_scanner_double at hm
 refine sr r39_0 ?_
 refine xe 1 [(0, Pt b1 0), (1, V a1), (2, V a2)] ?_
 refine sq ?_
 obtain ⟨o93, ho92, hm⟩ := obind hm
 refine W_join [2] (fun l h => ∃ Z149 : Zn, .inl () = o93 ∧ l = [(2, V a2)] ∧ St hs (idsL [.blk b1 (K52 v3 v5 a0), .gs v5 c6 (csz api_Token)]) Z (0, 0) Z149 h [.blk b1 (K52 v3 v5 a0), .gs v5 c6 (csz api_Token)]) ?_ ?_
 rintro l h150 ⟨Z149, rfl, rfl, hS151⟩
 try dsimp only at hm
 refine sr r39_7 ?_
 refine xe 2 [(6, V a2)] ?_
 refine rt ?_
 refine ⟨rfl, ?_⟩
 obtain rfl := si hm
 refine ⟨_, _, _, ResL.tmp rfl (ResL.nil), hS151, ?_⟩
 exact ⟨rfl, rfl⟩
 refine bk 0 ?_
 refine lp [0, 1, 2] (fun n l h => ∃ Z94 : Zn, ∃ x95 : Int, correctorref6_scanner_double_l0 F a0 a1 a2 n x95 = some o93 ∧ l = [(0, Pt b1 0), (1, V x95), (2, V a2)] ∧ St hs (idsL [.blk b1 (K52 v3 v5 a0), .gs v5 c6 (csz api_Token)]) Z (0, 0) Z94 h [.blk b1 (K52 v3 v5 a0), .gs v5 c6 (csz api_Token)]) F ⟨_, a1, ho92, rfl, hS⟩ ?_
 rintro n98 l h96 ⟨Z94, x95, ho92, rfl, hS97⟩
 rcases n98 with _ | n98
 cases (show none = some o93 from ho92)
 rw [correctorref6_scanner_double_l0] at ho92
 refine sq ?_
 refine sr r39_1 ?_
 refine xq 2 [(8, V a2), (7, V x95), (0, Pt b1 0), (1, V x95), (2, V a2)] ?_
 rcases ifs ho92 with ⟨hp101, ho92⟩ | ⟨hp101, ho92⟩
 refine r_step rfl trivial (o_cmp rfl rfl (c_lss_T hp101)) ?_
 refine xf [(9, .bool true), (0, Pt b1 0), (1, V x95), (2, V a2)] ?_
 refine kT 9 rfl ?_
 refine bk 1 ?_
 refine sq ?_
 refine sr r39_2 ?_
 refine xq 3 [(12, Pt b1 0), (0, Pt b1 0), (1, V x95), (2, V a2)] ?_
 refine r_step rfl trivial (o_ldb (v := v3) hS97 (i := 0) rfl rfl (by kernel_rfl)) ?_
 refine xq 1 [(14, V x95), (13, v3), (0, Pt b1 0), (1, V x95), (2, V a2)] ?_
 obtain ⟨hc118, ho92⟩ := chk ho92
 refine r_step rfl trivial (o_index rfl rfl (by kernel_rfl : slTy _ _ = some (csz UInt8)) (RS.based (q2.mono hS97.zle) (by omega)) hc118.1 hc118.2) ?_
 obtain ⟨x119, hx120, ho92⟩ := obind ho92
 obtain ⟨cs121, hc122, he123⟩ := RS.elz (q2.mono hS97.zle) (i := x95) hx120
 obtain rfl := rc_UInt8 hc122
 refine r_step rfl trivial (o_lde (w := .int .u8 (x119.toNat : Int)) (he123 _ (hS97.zin0 (Zle.refl _))) rfl (by kernel_rfl)) ?_
 rcases ifs ho92 with ⟨hp125, ho92⟩ | ⟨hp125, ho92⟩
 refine r_step rfl trivial (o_cmp rfl rfl (c_eql_T hp125)) ?_
 refine xf [(17, .bool true), (0, Pt b1 0), (1, V x95), (2, V a2)] ?_
 refine cT 17 rfl ?_
 refine sr r39_3 ?_
 refine xe 3 [(6, V (w64 (x95 + 1)))] ?_
 refine rt ?_
 refine blkX_ret ?_
 refine blkX_ret ?_
 refine ⟨rfl, ?_⟩
 obtain rfl := si ho92
 obtain rfl := si hm
 refine ⟨_, _, _, ResL.tmp rfl (ResL.nil), hS97, ?_⟩
 exact ⟨rfl, rfl⟩
 refine r_step rfl trivial (o_cmp rfl rfl (c_eql_F hp125)) ?_
 refine xf [(17, .bool false), (0, Pt b1 0), (1, V x95), (2, V a2)] ?_
 refine kF 17 rfl ?_
 refine sq ?_
 obtain ⟨o135, ho134, ho92⟩ := obind ho92
 refine W_seqJoin0 [0, 1, 2] (fun l h => ∃ Z144 : Zn, ∃ x145 : Int, x145 = o135 ∧ l = [(0, Pt b1 0), (1, V x145), (2, V a2)] ∧ St hs (idsL [.blk b1 (K52 v3 v5 a0), .gs v5 c6 (csz api_Token)]) Z (0, 0) Z144 h [.blk b1 (K52 v3 v5 a0), .gs v5 c6 (csz api_Token)]) (by kernel_rfl) ?_ ?_
 rintro l h146 ⟨Z144, x145, rfl, rfl, hS147⟩
 try dsimp only at ho92
 refine rg r39_6 ?_
 refine xe 3 [(1, V (w64 (x145 + 1))), (0, Pt b1 0), (2, V a2)] ?_
 exact ⟨n98, Nat.lt_succ_self _, ⟨_, w64 (x145 + 1), ho92, rfl, hS147⟩⟩
 refine rg r39_4 ?_
 refine xq 3 [(22, Pt b1 0), (0, Pt b1 0), (1, V x95), (2, V a2)] ?_
 refine r_step rfl trivial (o_ldb (v := v3) hS97 (i := 0) rfl rfl (by kernel_rfl)) ?_
 refine xq 1 [(24, V x95), (23, v3), (0, Pt b1 0), (1, V x95), (2, V a2)] ?_
 obtain ⟨hc136, ho134⟩ := chk ho134
 refine r_step rfl trivial (o_index rfl rfl (by kernel_rfl : slTy _ _ = some (csz UInt8)) (RS.based (q2.mono hS97.zle) (by omega)) hc136.1 hc136.2) ?_
 obtain ⟨x137, hx138, ho134⟩ := obind ho134
 obtain ⟨cs139, hc140, he141⟩ := RS.elz (q2.mono hS97.zle) (i := x95) hx138
 obtain rfl := rc_UInt8 hc140
 refine r_step rfl trivial (o_lde (w := .int .u8 (x137.toNat : Int)) (he141 _ (hS97.zin0 (Zle.refl _))) rfl (by kernel_rfl)) ?_
 rcases ifs ho134 with ⟨hp143, ho134⟩ | ⟨hp143, ho134⟩
 refine r_step rfl trivial (o_cmp rfl rfl (c_eql_T hp143)) ?_
 refine xf [(27, .bool true), (0, Pt b1 0), (1, V x95), (2, V a2)] ?_
 refine cT 27 rfl ?_
 refine rg r39_5 ?_
 refine xe 3 [(1, V (w64 (x95 + 1))), (0, Pt b1 0), (2, V a2)] ?_
 obtain rfl := si ho134
 exact ⟨_, w64 (x95 + 1), rfl, rfl, hS97⟩
 refine r_step rfl trivial (o_cmp rfl rfl (c_eql_F hp143)) ?_
 refine xf [(27, .bool false), (0, Pt b1 0), (1, V x95), (2, V a2)] ?_
 refine kF 27 rfl ?_
 obtain rfl := si ho134
 exact ⟨_, x95, rfl, rfl, hS97⟩
 refine r_step rfl trivial (o_cmp rfl rfl (c_lss_F hp101)) ?_
 refine xf [(9, .bool false), (0, Pt b1 0), (1, V x95), (2, V a2)] ?_
 refine cF 9 rfl ?_
 refine xt 0 ?_
 refine blkX_hit ?_
 obtain rfl := si ho92
 exact ⟨_, rfl, rfl, hS97⟩

def r40_0 : List COp := [u 2 (.assign (ci 0))]
def r40_1 : List COpF := [uP 6 (mv 0), uP 7 (nk 6), uP 8 (fa 52 7 0), uL 9 (ld 24 8), uP 10 (mv 0), uP 11 (nk 10), uP 12 (fa 52 11 1), uL 13 (ld 3 12), uP 14 (ia 24 9 13), uL 15 (ld 5 14), uP 3 (sg 15)]
def r40_2 : List COp := [u 16 (mv 3), u 17 (.binOp .neq 5 (t 16) (.const (.int .u8 124)) 5), u 18 (mv 17), gt 18 19 (mv 3), gt 18 20 (.binOp .neq 5 (t 19) (.const (.int .u8 62)) 5), u 21 (pf 18 20), u 22 (mv 21), gn 22 23 (mv 0), gn 22 24 (nk 23), gn 22 25 (fa 52 24 3), gn 22 26 (ld 3 25), gn 22 27 (bc .gtr 3 26 0 3), u 28 (pt 22 27)]
def r40_3 : List COp := [u 2 (.assign (ci 0))]
def r40_4 : List COp := [u 29 (mv 0), u 30 (nk 29), u 31 (fa 52 30 1), u 32 (ld 3 31), u 33 (bc .add 3 32 1 3), u 4 (sg 33)]
def r40_5 : List COp := [u 34 (mv 0), u 35 (mv 4), u 36 (cf 28 #[(t 34), (t 35)] #[50, 3]), u 37 (.binOp .eql 5 (t 36) (.const (.int .u8 43)) 5), u 38 (mv 37), gn 38 39 (mv 0), gn 38 40 (mv 4), gn 38 41 (cf 28 #[(t 39), (t 40)] #[50, 3]), gn 38 42 (.binOp .eql 5 (t 41) (.const (.int .u8 45)) 5), u 43 (pt 38 42)]
def r40_6 : List COp := [u 44 (mv 4), u 45 (bc .add 3 44 1 3), u 4 (sg 45)]
def r40_7 : List COp := [u 46 (mv 4), u 5 (sg 46)]
def r40_8 : List COp := [u 47 (mv 5), u 48 (mv 0), u 49 (nk 48), u 50 (fa 52 49 0), u 51 (ld 24 50), u 52 (cb .len #[(t 51)] #[24]), u 53 (bo .lss 3 47 52 3), u 54 (mv 53), gt 54 55 (mv 0), gt 54 56 (nk 55), gt 54 57 (fa 52 56 0), gt 54 58 (ld 24 57), gt 54 59 (mv 5), gt 54 60 (ia 24 58 59), gt 54 61 (ld 5 60), gt 54 62 (cf 33 #[(t 61)] #[5]), u 63 (pf 54 62)]
def r40_9 : List COp := [u 64 (mv 5), u 65 (bc .add 3 64 1 3), u 5 (sg 65)]
def r40_10 : List COp := [u 66 (mv 5), u 67 (mv 0), u 68 (nk 67), u 69 (fa 52 68 0), u 70 (ld 24 69), u 71 (cb .len #[(t 70)] #[24]), u 72 (bo .lss 3 66 71 3), u 73 (mv 72), gt 73 74 (mv 0), gt 73 75 (nk 74), gt 73 76 (fa 52 75 0), gt 73 77 (ld 24 76), gt 73 78 (mv 5), gt 73 79 (cf 31 #[(t 77), (t 78)] #[24, 3]), gt 73 80 (bc .eql 3 79 0 3), u 81 (pf 73 80), u 82 (mv 81), gt 82 83 (mv 0), gt 82 84 (nk 83), gt 82 85 (fa 52 84 0), gt 82 86 (ld 24 85), gt 82 87 (mv 5), gt 82 88 (ia 24 86 87), gt 82 89 (ld 5 88), gt 82 90 (.binOp .eql 5 (t 89) (.const (.int .u8 35)) 5), gt 82 91 (mv 90), gt 91 92 (mv 5), gt 91 93 (mv 4), gt 91 94 (bo .gtr 3 92 93 3), gt 82 95 (pf 91 94), gt 82 96 (.unOp .not 4 (t 95)), u 97 (pf 82 96)]
def r40_11 : List COp := [u 2 (.assign (ci 0))]
def r40_12 : List COp := [u 98 (mv 4), u 99 (mv 0), u 100 (nk 99), u 101 (fa 52 100 1), u 102 (ld 3 101), u 103 (bo .sub 3 98 102 3), u 2 (sg 103)]
def correctorref6_scanner_head_l0 (F : Nat) (a0 : correctorref6_scanner) : Nat → Int → Int → Option (Int × Int)
 | 0, _, _ => none
 | n + 1, x145, x146 =>
  if x146 < (a0.B.length : Int) then
   if 0 ≤ x146 ∧ x146 < (a0.B.length : Int) then
    (a0.B[x146.toNat]?).bind fun x184 =>
    (correctorref5_Blank F (x184.toNat : Int)).bind fun r190 =>
    if r190 = true then
     correctorref6_scanner_head_l0 F a0 n x145 (w64 (x146 + 1))
    else
     some (x145, x146)
   else none
  else
   some (x145, x146)
def correctorref6_scanner_head (F : Nat) (a0 : correctorref6_scanner) : Option Int :=
 if 0 ≤ a0.At ∧ a0.At < (a0.B.length : Int) then
  (a0.B[a0.At.toNat]?).bind fun x14 =>
  ((if (x14.toNat : Int) = (124 : Int) then
    if (0 : Int) < a0.Open then
     some (.inr 0)
    else
     some (.inl ())
   else
    if (x14.toNat : Int) = (62 : Int) then
     if (0 : Int) < a0.Open then
      some (.inr 0)
     else
      some (.inl ())
    else
     some (.inr 0)) : Option (Sum Unit Int)).bind fun o => match o with
   | .inl () => (((correctorref6_scanner_byteAt F a0 (w64 (a0.At + 1))).bind fun r60 =>
    if (r60.toNat : Int) = (43 : Int) then
     some (w64 ((w64 (a0.At + 1)) + 1))
    else
     (correctorref6_scanner_byteAt F a0 (w64 (a0.At + 1))).bind fun r72 =>
     if (r72.toNat : Int) = (45 : Int) then
      some (w64 ((w64 (a0.At + 1)) + 1))
     else
      some (w64 (a0.At + 1))) : Option Int).bind fun o => match o with
    | x85 => ((correctorref6_scanner_head_l0 F a0 F x85 x85) : Option (Int × Int)).bind fun o => match o with
     | (x202, x203) => ((if x203 < (a0.B.length : Int) then
       (correctorref2_Break F a0.B x203).bind fun r227 =>
       if r227 = (0 : Int) then
        if 0 ≤ x203 ∧ x203 < (a0.B.length : Int) then
         (a0.B[x203.toNat]?).bind fun x236 =>
         if (x236.toNat : Int) = (35 : Int) then
          if x202 < x203 then
           some (.inl ())
          else
           some (.inr 0)
         else
          some (.inr 0)
        else none
       else
        some (.inl ())
      else
       some (.inl ())) : Option (Sum Unit Int)).bind fun o => match o with
      | .inl () => some (w64 (x202 - a0.At))
      | .inr y => some y
   | .inr y => some y
 else none
theorem correctorref6_scanner_head_ok (F : Nat) {h : AH} {Z : Zn} {a0 : correctorref6_scanner} {b1 : Nat} {v3 : Value} {v5 : Value} {c6 : List Value} (hP : Pre Z h [.blk b1 (K52 v3 v5 a0), .gs v5 c6 (csz api_Token)]) (q2 : RS (α := UInt8) Z v3 a0.B) (q4 : RCs (α := api_Token) Z c6 a0.L) {r : Int} (hm : correctorref6_scanner_head F a0 = some r) :
  ∃ v h' Z' A', callI Try.prog 40 [Pt b1 0] h = some (v, h') ∧ St h (idsL [.blk b1 (K52 v3 v5 a0), .gs v5 c6 (csz api_Token)]) Z (0, 0) Z' h' A' ∧ V r = v ∧ A' = [.blk b1 (K52 v3 v5 a0), .gs v5 c6 (csz api_Token)] := by
 refine fn_intro (A := [.blk b1 (K52 v3 v5 a0), .gs v5 c6 (csz api_Token)]) (Q := fun v Z' A' => V r = v ∧ A' = [.blk b1 (K52 v3 v5 a0), .gs v5 c6 (csz api_Token)]) Try.func40 rfl rfl (by kernel_rfl) hP ?_
 intro hs hS
 unfold correctorref6_scanner_head at hm
 refine sr r40_0 ?_
 refine xe 1 [(0, Pt b1 0)] ?_
 refine srF r40_1 hS ?_
 intro bs7 h8 hlv10 hS9
 refine yq 3 [(8, Pt b1 0), (0, Pt b1 0)] ?_
 have lt11 : b1 < bs7 := hlv10.1 _ (List.mem_of_getElem? (i := 0) rfl) _ (by simp [Itm.ids])
 refine e_lookO (v := v3) rfl trivial rfl (by show b1 < _; omega) (same1 (v := v3) (RS.sim1 q2)) (hS9.ldAt (i := 0) rfl (by kernel_rfl)) trivial ?_
 refine yq 3 [(12, Pt b1 1), (9, v3), (0, Pt b1 0)] ?_
 have lt12 : b1 < bs7 := hlv10.1 _ (List.mem_of_getElem? (i := 0) rfl) _ (by simp [Itm.ids])
 refine e_lookO (v := V a0.At) rfl trivial rfl (by show b1 < _; omega) (same1 (v := V a0.At) trivial) (hS9.ldAt (i := 0) rfl (by kernel_rfl)) trivial ?_
 obtain ⟨hc13, hm⟩ := chk hm
 refine e_val rfl trivial (o_index rfl rfl (by kernel_rfl : slTy _ _ = some (csz UInt8)) (RS.based q2 (by omega)) hc13.1 hc13.2) ?_
 obtain ⟨x14, hx15, hm⟩ := obind hm
 obtain ⟨cs16, hc17, he18⟩ := RS.elz q2 (i := a0.At) hx15
 obtain rfl := rc_UInt8 hc17
 refine e_lookZ rfl rfl trivial (fun h2 hz => o_lde (w := .int .u8 (x14.toNat : Int)) (he18 h2 hz) rfl (by kernel_rfl)) (hS9.zin0 (Zle.refl _)) (same1 (v := .int .u8 (x14.toNat : Int)) trivial) trivial ?_
 refine ye 1 [(3, .int .u8 (x14.toNat : Int)), (0, Pt b1 0)] ?_
 have hS20 := hS9.unres
 refine sq ?_
 obtain ⟨o26, ho25, hm⟩ := obind hm
 refine W_join [0] (fun l h => ∃ Z31 : Zn, .inl () = o26 ∧ l = [(0, Pt b1 0)] ∧ St hs (idsL [.blk b1 (K52 v3 v5 a0), .gs v5 c6 (csz api_Token)]) Z (0, 0) Z31 h [.blk b1 (K52 v3 v5 a0), .gs v5 c6 (csz api_Token)]) ?_ ?_
 rintro l h32 ⟨Z31, rfl, rfl, hS33⟩
 try dsimp only at hm
 refine sr r40_4 ?_
 refine xq 3 [(31, Pt b1 1), (0, Pt b1 0)] ?_
 refine r_step rfl trivial (o_ldb (v := V a0.At) hS33 (i := 0) rfl rfl (by kernel_rfl)) ?_
 refine xe 2 [(4, V (w64 (a0.At + 1))), (0, Pt b1 0)] ?_
 refine sq ?_
 obtain ⟨o59, ho58, hm⟩ := obind hm
 refine W_join [0, 4] (fun l h => ∃ Z84 : Zn, ∃ x85 : Int, x85 = o59 ∧ l = [(0, Pt b1 0), (4, V x85)] ∧ St hs (idsL [.blk b1 (K52 v3 v5 a0), .gs v5 c6 (csz api_Token)]) Z (0, 0) Z84 h [.blk b1 (K52 v3 v5 a0), .gs v5 c6 (csz api_Token)]) ?_ ?_
 rintro l h86 ⟨Z84, x85, rfl, rfl, hS87⟩
 try dsimp only at hm
 refine sr r40_7 ?_
 refine xe 2 [(5, V x85), (0, Pt b1 0), (4, V x85)] ?_
 refine sq ?_
 obtain ⟨o143, ho142, hm⟩ := obind hm
 refine W_join [0, 4, 5] (fun l h => ∃ Z201 : Zn, ∃ x202 : Int, ∃ x203 : Int, (x202, x203) = o143 ∧ l = [(0, Pt b1 0), (4, V x202), (5, V x203)] ∧ St hs (idsL [.blk b1 (K52 v3 v5 a0), .gs v5 c6 (csz api_Token)]) Z (0, 0) Z201 h [.blk b1 (K52 v3 v5 a0), .gs v5 c6 (csz api_Token)]) ?_ ?_
 rintro l h204 ⟨Z201, x202, x203, rfl, rfl, hS205⟩
 try dsimp only at hm
 refine sq ?_
 obtain ⟨o225, ho224, hm⟩ := obind hm
 refine W_seqJoin0 [0, 4] (fun l h => ∃ Z244 : Zn, .inl () = o225 ∧ l = [(0, Pt b1 0), (4, V x202)] ∧ St hs (idsL [.blk b1 (K52 v3 v5 a0), .gs v5 c6 (csz api_Token)]) Z (0, 0) Z244 h [.blk b1 (K52 v3 v5 a0), .gs v5 c6 (csz api_Token)]) (by kernel_rfl) ?_ ?_
 rintro l h245 ⟨Z244, rfl, rfl, hS246⟩
 try dsimp only at hm
 refine sr r40_12 ?_
 refine xq 4 [(101, Pt b1 1), (98, V x202)] ?_
 refine r_step rfl trivial (o_ldb (v := V a0.At) hS246 (i := 0) rfl rfl (by kernel_rfl)) ?_
 refine xe 2 [(2, V (w64 (x202 - a0.At)))] ?_
 refine rt ?_
 refine ⟨rfl, ?_⟩
 obtain rfl := si hm
 refine ⟨_, _, _, ResL.tmp rfl (ResL.nil), hS246, ?_⟩
 exact ⟨rfl, rfl⟩
 refine rg r40_10 ?_
 refine xq 4 [(69, Pt b1 0), (66, V x203), (0, Pt b1 0), (4, V x202), (5, V x203)] ?_
 refine r_step rfl trivial (o_ldb (v := v3) hS205 (i := 0) rfl rfl (by kernel_rfl)) ?_
 refine r_step rfl trivial (o_len rfl (RS.len (q2.mono hS205.zle)) ⟨_, Try.underlying24⟩) ?_
 rcases ifs ho224 with ⟨hp226, ho224⟩ | ⟨hp226, ho224⟩
 refine r_step rfl trivial (o_cmp rfl rfl (c_lss_T hp226)) ?_
 refine xq 4 [(76, Pt b1 0), (73, .bool true), (0, Pt b1 0), (4, V x202), (5, V x203)] ?_
 refine r_step rfl rfl (o_ldb (v := v3) hS205 (i := 0) rfl rfl (by kernel_rfl)) ?_
 refine xq 1 [(78, V x203), (77, v3), (73, .bool true), (0, Pt b1 0), (4, V x202), (5, V x203)] ?_
 obtain ⟨r227, hx228, ho224⟩ := obind ho224
 obtain ⟨v229, h230, hcl231, hSc232, rfl⟩ := correctorref2_Break_ok F hS205.inv (q2.mono hS205.zle) hx228
 have hS233 := St.call (A := []) (B := [.blk b1 (K52 v3 v5 a0), .gs v5 c6 (csz api_Token)]) hS205 hSc232
 replace hS233 : St _ _ _ _ _ _ [.blk b1 (K52 v3 v5 a0), .gs v5 c6 (csz api_Token)] := hS233
 refine r_step rfl rfl (o_call hcl231 rfl rfl rfl) ?_
 rcases ifs ho224 with ⟨hp234, ho224⟩ | ⟨hp234, ho224⟩
 refine r_step rfl rfl (o_cmp rfl rfl (c_eql_T hp234)) ?_
 refine xq 5 [(85, Pt b1 0), (82, .bool true), (0, Pt b1 0), (4, V x202), (5, V x203)] ?_
 refine r_step rfl rfl (o_ldb (v := v3) hS233 (i := 0) rfl rfl (by kernel_rfl)) ?_
 refine xq 1 [(87, V x203), (86, v3), (82, .bool true), (0, Pt b1 0), (4, V x202), (5, V x203)] ?_
 obtain ⟨hc235, ho224⟩ := chk ho224
 refine r_step rfl rfl (o_index rfl rfl (by kernel_rfl : slTy _ _ = some (csz UInt8)) (RS.based (q2.mono hS205.zle) (by omega)) hc235.1 hc235.2) ?_
 obtain ⟨x236, hx237, ho224⟩ := obind ho224
 obtain ⟨cs238, hc239, he240⟩ := RS.elz (q2.mono hS205.zle) (i := x203) hx237
 obtain rfl := rc_UInt8 hc239
 refine r_step rfl rfl (o_lde (w := .int .u8 (x236.toNat : Int)) (he240 _ (hS233.zin0 (Zle.refl _))) rfl (by kernel_rfl)) ?_
 rcases ifs ho224 with ⟨hp242, ho224⟩ | ⟨hp242, ho224⟩
 refine r_step rfl rfl (o_cmp rfl rfl (c_eql_T hp242)) ?_
 refine xq 3 [(93, V x202), (92, V x203), (91, .bool true), (82, .bool true), (0, Pt b1 0), (4, V x202)] ?_
 rcases ifs ho224 with ⟨hp243, ho224⟩ | ⟨hp243, ho224⟩
 refine r_step rfl rfl (o_cmp rfl rfl (c_gtr_T hp243)) ?_
 refine xe 3 [(97, .bool false), (0, Pt b1 0), (4, V x202)] ?_
 refine kF 97 rfl ?_
 obtain rfl := si ho224
 exact ⟨_, rfl, rfl, hS233⟩
 refine r_step rfl rfl (o_cmp rfl rfl (c_gtr_F hp243)) ?_
 refine xe 3 [(97, .bool true), (0, Pt b1 0), (4, V x202)] ?_
 refine cT 97 rfl ?_
 refine sr r40_11 ?_
 refine xe 1 [(2, V 0)] ?_
 refine rt ?_
 refine ⟨rfl, ?_⟩
 obtain rfl := si ho224
 obtain rfl := si hm
 refine ⟨_, _, _, ResL.tmp rfl (ResL.nil), hS233, ?_⟩
 exact ⟨rfl, rfl⟩
 refine r_step rfl rfl (o_cmp rfl rfl (c_eql_F hp242)) ?_
 refine xe 7 [(97, .bool true), (0, Pt b1 0), (4, V x202)] ?_
 refine cT 97 rfl ?_
 refine sr r40_11 ?_
 refine xe 1 [(2, V 0)] ?_
 refine rt ?_
 refine ⟨rfl, ?_⟩
 obtain rfl := si ho224
 obtain rfl := si hm
 refine ⟨_, _, _, ResL.tmp rfl (ResL.nil), hS233, ?_⟩
 exact ⟨rfl, rfl⟩
 refine r_step rfl rfl (o_cmp rfl rfl (c_eql_F hp234)) ?_
 refine xe 17 [(97, .bool false), (0, Pt b1 0), (4, V x202)] ?_
 refine kF 97 rfl ?_
 obtain rfl := si ho224
 exact ⟨_, rfl, rfl, hS233⟩
 refine r_step rfl trivial (o_cmp rfl rfl (c_lss_F hp226)) ?_
 refine xe 25 [(97, .bool false), (0, Pt b1 0), (4, V x202)] ?_
 refine kF 97 rfl ?_
 obtain rfl := si ho224
 exact ⟨_, rfl, rfl, hS205⟩
 refine bk 0 ?_
 refine lp [0, 4, 5] (fun n l h => ∃ Z144 : Zn, ∃ x145 : Int, ∃ x146 : Int, correctorref6_scanner_head_l0 F a0 n x145 x146 = some o143 ∧ l = [(0, Pt b1 0), (4, V x145), (5, V x146)] ∧ St hs (idsL [.blk b1 (K52 v3 v5 a0), .gs v5 c6 (csz api_Token)]) Z (0, 0) Z144 h [.blk b1 (K52 v3 v5 a0), .gs v5 c6 (csz api_Token)]) F ⟨_, x85, x85, ho142, rfl, hS87⟩ ?_
 rintro n149 l h147 ⟨Z144, x145, x146, ho142, rfl, hS148⟩
 rcases n149 with _ | n149
 cases (show none = some o143 from ho142)
 rw [correctorref6_scanner_head_l0] at ho142
 refine sq ?_
 refine sr r40_8 ?_
 refine xq 4 [(50, Pt b1 0), (47, V x146), (0, Pt b1 0), (4, V x145), (5, V x146)] ?_
 refine r_step rfl trivial (o_ldb (v := v3) hS148 (i := 0) rfl rfl (by kernel_rfl)) ?_
 refine r_step rfl trivial (o_len rfl (RS.len (q2.mono hS148.zle)) ⟨_, Try.underlying24⟩) ?_
 rcases ifs ho142 with ⟨hp182, ho142⟩ | ⟨hp182, ho142⟩
 refine r_step rfl trivial (o_cmp rfl rfl (c_lss_T hp182)) ?_
 refine xq 4 [(57, Pt b1 0), (54, .bool true), (0, Pt b1 0), (4, V x145), (5, V x146)] ?_
 refine r_step rfl rfl (o_ldb (v := v3) hS148 (i := 0) rfl rfl (by kernel_rfl)) ?_
 refine xq 1 [(59, V x146), (58, v3), (54, .bool true), (0, Pt b1 0), (4, V x145), (5, V x146)] ?_
 obtain ⟨hc183, ho142⟩ := chk ho142
 refine r_step rfl rfl (o_index rfl rfl (by kernel_rfl : slTy _ _ = some (csz UInt8)) (RS.based (q2.mono hS148.zle) (by omega)) hc183.1 hc183.2) ?_
 obtain ⟨x184, hx185, ho142⟩ := obind ho142
 obtain ⟨cs186, hc187, he188⟩ := RS.elz (q2.mono hS148.zle) (i := x146) hx185
 obtain rfl := rc_UInt8 hc187
 refine r_step rfl rfl (o_lde (w := .int .u8 (x184.toNat : Int)) (he188 _ (hS148.zin0 (Zle.refl _))) rfl (by kernel_rfl)) ?_
 obtain ⟨r190, hx191, ho142⟩ := obind ho142
 obtain ⟨v192, h193, hcl194, hSc195, rfl⟩ := correctorref5_Blank_ok F hS148.inv  hx191
 have hS196 := St.call (A := []) (B := [.blk b1 (K52 v3 v5 a0), .gs v5 c6 (csz api_Token)]) hS148 hSc195
 replace hS196 : St _ _ _ _ _ _ [.blk b1 (K52 v3 v5 a0), .gs v5 c6 (csz api_Token)] := hS196
 refine r_step rfl rfl (o_call hcl194 rfl rfl rfl) ?_
 refine xe 1 [(63, .bool r190), (0, Pt b1 0), (4, V x145), (5, V x146)] ?_
 rcases ifs ho142 with ⟨hp198, ho142⟩ | ⟨hp198, ho142⟩
 refine W_condT (x := .tmp 63) (by kernel_rfl) rfl hp198 ?_
 refine sk ?_
 refine bk 1 ?_
 refine rg r40_9 ?_
 refine xe 3 [(5, V (w64 (x146 + 1))), (0, Pt b1 0), (4, V x145)] ?_
 exact ⟨n149, Nat.lt_succ_self _, ⟨_, x145, w64 (x146 + 1), ho142, rfl, hS196⟩⟩
 refine W_condF (x := .tmp 63) (by kernel_rfl) rfl (Bool.eq_false_iff.2 hp198) ?_
 refine xt 0 ?_
 refine blkX_hit ?_
 obtain rfl := si ho142
 exact ⟨_, x145, x146, rfl, rfl, hS196⟩
 refine r_step rfl trivial (o_cmp rfl rfl (c_lss_F hp182)) ?_
 refine xe 10 [(63, .bool false), (0, Pt b1 0), (4, V x145), (5, V x146)] ?_
 refine cF 63 rfl ?_
 refine xt 0 ?_
 refine blkX_hit ?_
 obtain rfl := si ho142
 exact ⟨_, x145, x146, rfl, rfl, hS148⟩
 refine sr r40_5 ?_
 refine xq 2 [(35, V (w64 (a0.At + 1))), (34, Pt b1 0), (4, V (w64 (a0.At + 1))), (0, Pt b1 0)] ?_
 obtain ⟨r60, hx61, ho58⟩ := obind ho58
 have hF67 : St _ _ _ _ _ _ ([.blk b1 (K52 v3 v5 a0), .gs v5 c6 (csz api_Token)] ++ []) := ((hS33.front 1 rfl).front 1 rfl)
 obtain ⟨v62, h63, Z68, A70, hcl64, hSc65, rfl, rfl⟩ := correctorref6_scanner_byteAt_ok F hF67.preL (q2.mono hS33.zle) (q4.mono hS33.zle) hx61
 have hZ69 := hSc65.zle
 have hS66 := hF67.call hSc65
 replace hS66 : St _ _ _ _ _ _ [.blk b1 (K52 v3 v5 a0), .gs v5 c6 (csz api_Token)] := hS66
 refine r_step rfl trivial (o_call hcl64 rfl rfl rfl) ?_
 rcases ifs ho58 with ⟨hp71, ho58⟩ | ⟨hp71, ho58⟩
 refine r_step rfl trivial (o_cmp rfl rfl (c_eql_T hp71)) ?_
 refine xe 6 [(43, .bool true), (4, V (w64 (a0.At + 1))), (0, Pt b1 0)] ?_
 refine cT 43 rfl ?_
 refine rg r40_6 ?_
 refine xe 3 [(4, V (w64 ((w64 (a0.At + 1)) + 1))), (0, Pt b1 0)] ?_
 obtain rfl := si ho58
 exact ⟨_, w64 ((w64 (a0.At + 1)) + 1), rfl, rfl, hS66⟩
 refine r_step rfl trivial (o_cmp rfl rfl (c_eql_F hp71)) ?_
 refine xq 3 [(40, V (w64 (a0.At + 1))), (39, Pt b1 0), (38, .bool false), (4, V (w64 (a0.At + 1))), (0, Pt b1 0)] ?_
 obtain ⟨r72, hx73, ho58⟩ := obind ho58
 have hF79 : St _ _ _ _ _ _ ([.blk b1 (K52 v3 v5 a0), .gs v5 c6 (csz api_Token)] ++ []) := ((hS66.front 1 rfl).front 1 rfl)
 obtain ⟨v74, h75, Z80, A82, hcl76, hSc77, rfl, rfl⟩ := correctorref6_scanner_byteAt_ok F hF79.preL (q2.mono (hS33.zle.trans hZ69)) (q4.mono (hS33.zle.trans hZ69)) hx73
 have hZ81 := hSc77.zle
 have hS78 := hF79.call hSc77
 replace hS78 : St _ _ _ _ _ _ [.blk b1 (K52 v3 v5 a0), .gs v5 c6 (csz api_Token)] := hS78
 refine r_step rfl rfl (o_call hcl76 rfl rfl rfl) ?_
 rcases ifs ho58 with ⟨hp83, ho58⟩ | ⟨hp83, ho58⟩
 refine r_step rfl rfl (o_cmp rfl rfl (c_eql_T hp83)) ?_
 refine xe 1 [(43, .bool true), (4, V (w64 (a0.At + 1))), (0, Pt b1 0)] ?_
 refine cT 43 rfl ?_
 refine rg r40_6 ?_
 refine xe 3 [(4, V (w64 ((w64 (a0.At + 1)) + 1))), (0, Pt b1 0)] ?_
 obtain rfl := si ho58
 exact ⟨_, w64 ((w64 (a0.At + 1)) + 1), rfl, rfl, hS78⟩
 refine r_step rfl rfl (o_cmp rfl rfl (c_eql_F hp83)) ?_
 refine xe 1 [(43, .bool false), (4, V (w64 (a0.At + 1))), (0, Pt b1 0)] ?_
 refine kF 43 rfl ?_
 obtain rfl := si ho58
 exact ⟨_, w64 (a0.At + 1), rfl, rfl, hS78⟩
 refine sr r40_2 ?_
 refine xq 1 [(16, .int .u8 (x14.toNat : Int)), (3, .int .u8 (x14.toNat : Int)), (0, Pt b1 0)] ?_
 rcases ifs ho25 with ⟨hp27, ho25⟩ | ⟨hp27, ho25⟩
 refine r_step rfl trivial (o_cmp rfl rfl (c_neq_F hp27)) ?_
 refine xq 8 [(25, Pt b1 3), (22, .bool false), (0, Pt b1 0)] ?_
 refine r_step rfl rfl (o_ldb (v := V a0.Open) hS20 (i := 0) rfl rfl (by kernel_rfl)) ?_
 rcases ifs ho25 with ⟨hp28, ho25⟩ | ⟨hp28, ho25⟩
 refine r_step rfl rfl (o_cmp rfl rfl (c_gtr_T hp28)) ?_
 refine xe 1 [(28, .bool true), (0, Pt b1 0)] ?_
 refine cT 28 rfl ?_
 refine sr r40_3 ?_
 refine xe 1 [(2, V 0)] ?_
 refine rt ?_
 refine ⟨rfl, ?_⟩
 obtain rfl := si ho25
 obtain rfl := si hm
 refine ⟨_, _, _, ResL.tmp rfl (ResL.nil), hS20, ?_⟩
 exact ⟨rfl, rfl⟩
 refine r_step rfl rfl (o_cmp rfl rfl (c_gtr_F hp28)) ?_
 refine xe 1 [(28, .bool false), (0, Pt b1 0)] ?_
 refine kF 28 rfl ?_
 obtain rfl := si ho25
 exact ⟨_, rfl, rfl, hS20⟩
 refine r_step rfl trivial (o_cmp rfl rfl (c_neq_T hp27)) ?_
 refine xq 2 [(19, .int .u8 (x14.toNat : Int)), (18, .bool true), (0, Pt b1 0)] ?_
 rcases ifs ho25 with ⟨hp29, ho25⟩ | ⟨hp29, ho25⟩
 refine r_step rfl rfl (o_cmp rfl rfl (c_neq_F hp29)) ?_
 refine xq 5 [(25, Pt b1 3), (22, .bool false), (0, Pt b1 0)] ?_
 refine r_step rfl rfl (o_ldb (v := V a0.Open) hS20 (i := 0) rfl rfl (by kernel_rfl)) ?_
 rcases ifs ho25 with ⟨hp30, ho25⟩ | ⟨hp30, ho25⟩
 refine r_step rfl rfl (o_cmp rfl rfl (c_gtr_T hp30)) ?_
 refine xe 1 [(28, .bool true), (0, Pt b1 0)] ?_
 refine cT 28 rfl ?_
 refine sr r40_3 ?_
 refine xe 1 [(2, V 0)] ?_
 refine rt ?_
 refine ⟨rfl, ?_⟩
 obtain rfl := si ho25
 obtain rfl := si hm
 refine ⟨_, _, _, ResL.tmp rfl (ResL.nil), hS20, ?_⟩
 exact ⟨rfl, rfl⟩
 refine r_step rfl rfl (o_cmp rfl rfl (c_gtr_F hp30)) ?_
 refine xe 1 [(28, .bool false), (0, Pt b1 0)] ?_
 refine kF 28 rfl ?_
 obtain rfl := si ho25
 exact ⟨_, rfl, rfl, hS20⟩
 refine r_step rfl rfl (o_cmp rfl rfl (c_neq_T hp29)) ?_
 refine xe 8 [(28, .bool true), (0, Pt b1 0)] ?_
 refine cT 28 rfl ?_
 refine sr r40_3 ?_
 refine xe 1 [(2, V 0)] ?_
 refine rt ?_
 refine ⟨rfl, ?_⟩
 obtain rfl := si ho25
 obtain rfl := si hm
 refine ⟨_, _, _, ResL.tmp rfl (ResL.nil), hS20, ?_⟩
 exact ⟨rfl, rfl⟩

def r41_0 : List COp := [u 2 (.assign (ci 0))]
def r41_1 : List COpF := [uP 9 (mv 0), uP 10 (nk 9), uP 11 (fa 52 10 0), uL 12 (ld 24 11), uP 13 (mv 0), uP 14 (nk 13), uP 15 (fa 52 14 1), uL 16 (ld 3 15), uP 17 (.slice 24 (t 12) (some (t 16)) none none), uF 18 (cf 35 #[(t 17)] #[24]) .make [3, 7], uP 8 (mv 18), uP 19 (.extract (t 8) 0), uP 20 (.extract (t 8) 1), uP 3 (sg 19), uP 4 (sg 20)]
def r41_2 : List COp := [u 21 (mv 0), u 22 (nk 21), u 23 (fa 52 22 1), u 24 (ld 3 23), u 25 (mv 4), u 26 (bo .add 3 24 25 3), u 5 (sg 26)]
def r41_3 : List COp := [u 27 (mv 5), u 28 (mv 0), u 29 (nk 28), u 30 (fa 52 29 0), u 31 (ld 24 30), u 32 (cb .len #[(t 31)] #[24]), u 33 (bo .lss 3 27 32 3)]
def r41_4 : List COp := [u 35 (mv 0), u 36 (nk 35), u 37 (fa 52 36 0), u 38 (ld 24 37), u 39 (mv 5), u 40 (.slice 24 (t 38) (some (t 39)) none none), u 41 (cf 35 #[(t 40)] #[24]), u 34 (mv 41), u 42 (.extract (t 34) 0), u 43 (.extract (t 34) 1), u 6 (sg 42), u 7 (sg 43)]
def r41_5 : List COp := [u 44 (mv 6), u 45 (.binOp .lss 21 (t 44) (.const (.int .i32 0)) 21), u 46 (mv 45), gn 46 47 (mv 0), gn 46 48 (nk 47), gn 46 49 (fa 52 48 0), gn 46 50 (ld 24 49), gn 46 51 (mv 5), gn 46 52 (cf 31 #[(t 50), (t 51)] #[24, 3]), gn 46 53 (bc .gtr 3 52 0 3), u 54 (pt 46 53), u 55 (mv 54), gn 55 56 (mv 0), gn 55 57 (mv 5), gn 55 58 (cf 37 #[(t 56), (t 57)] #[50, 3]), u 59 (pt 55 58), u 60 (mv 59), gn 60 61 (mv 0), gn 60 62 (nk 61), gn 60 63 (fa 52 62 0), gn 60 64 (ld 24 63), gn 60 65 (mv 5), gn 60 66 (ia 24 64 65), gn 60 67 (ld 5 66), gn 60 68 (.binOp .eql 5 (t 67) (.const (.int .u8 35)) 5), gn 60 69 (mv 68), gt 69 70 (mv 0), gt 69 71 (nk 70), gt 69 72 (fa 52 71 0), gt 69 73 (ld 24 72), gt 69 74 (mv 5), gt 69 75 (bc .sub 3 74 1 3), gt 69 76 (ia 24 73 75), gt 69 77 (ld 5 76), gt 69 78 (cf 33 #[(t 77)] #[5]), gn 60 79 (pf 69 78), u 80 (pt 60 79), u 81 (mv 80), gn 81 82 (mv 0), gn 81 83 (nk 82), gn 81 84 (fa 52 83 3), gn 81 85 (ld 3 84), gn 81 86 (bc .gtr 3 85 0 3), gn 81 87 (mv 86), gt 87 88 (mv 0), gt 87 89 (nk 88), gt 87 90 (fa 52 89 0), gt 87 91 (ld 24 90), gt 87 92 (mv 5), gt 87 93 (ia 24 91 92), gt 87 94 (ld 5 93), gt 87 95 (cf 58 #[(t 94)] #[5]), gn 81 96 (pf 87 95), u 97 (pt 81 96)]
def r41_6 : List COp := [u 98 (mv 5), u 99 (mv 7), u 100 (bo .add 3 98 99 3), u 5 (sg 100)]
def r41_7 : List COp := [u 101 (mv 5), u 102 (mv 0), u 103 (nk 102), u 104 (fa 52 103 1), u 105 (ld 3 104), u 106 (bc .add 3 105 1 3), u 107 (bo .gtr 3 101 106 3), u 108 (mv 107), gt 108 109 (mv 0), gt 108 110 (nk 109), gt 108 111 (fa 52 110 0), gt 108 112 (ld 24 111), gt 108 113 (mv 5), gt 108 114 (bc .sub 3 113 1 3), gt 108 115 (ia 24 112 114), gt 108 116 (ld 5 115), gt 108 117 (cf 33 #[(t 116)] #[5]), u 118 (pf 108 117)]
def r41_8 : List COp := [u 119 (mv 5), u 120 (bc .sub 3 119 1 3), u 5 (sg 120)]
def r41_9 : List COp := [u 121 (mv 5), u 2 (sg 121)]
def correctorref6_scanner_plain_l0 (F : Nat) (a0 : correctorref6_scanner) : Nat → Int → Option Int
 | 0, _ => none
 | n + 1, x128 =>
  if x128 < (a0.B.length : Int) then
   if 0 ≤ x128 ∧ x128 ≤ (a0.B.length : Int) ∧ (a0.B.length : Int) ≤ (a0.B.length : Int) then
    (correctorref1_Next F ((a0.B.take (a0.B.length : Int).toNat).drop x128.toNat)).bind fun r139 =>
    ((if r139.1 < (0 : Int) then
      some (.inr x128)
     else
      (correctorref2_Break F a0.B x128).bind fun r225 =>
      if (0 : Int) < r225 then
       some (.inr x128)
      else
       (correctorref6_scanner_colon F a0 x128).bind fun r233 =>
       if r233 = true then
        some (.inr x128)
       else
        if 0 ≤ x128 ∧ x128 < (a0.B.length : Int) then
         (a0.B[x128.toNat]?).bind fun x246 =>
         if (x246.toNat : Int) = (35 : Int) then
          if 0 ≤ (w64 (x128 - 1)) ∧ (w64 (x128 - 1)) < (a0.B.length : Int) then
           (a0.B[(w64 (x128 - 1)).toNat]?).bind fun x254 =>
           (correctorref5_Blank F (x254.toNat : Int)).bind fun r260 =>
           if r260 = true then
            some (.inr x128)
           else
            if (0 : Int) < a0.Open then
             if 0 ≤ x128 ∧ x128 < (a0.B.length : Int) then
              (a0.B[x128.toNat]?).bind fun x270 =>
              (correctorref5_Flow F (x270.toNat : Int)).bind fun r276 =>
              if r276 = true then
               some (.inr x128)
              else
               some (.inl ())
             else none
            else
             some (.inl ())
          else none
         else
          if (0 : Int) < a0.Open then
           if 0 ≤ x128 ∧ x128 < (a0.B.length : Int) then
            (a0.B[x128.toNat]?).bind fun x286 =>
            (correctorref5_Flow F (x286.toNat : Int)).bind fun r292 =>
            if r292 = true then
             some (.inr x128)
            else
             some (.inl ())
           else none
          else
           some (.inl ())
        else none) : Option (Sum Unit Int)).bind fun o => match o with
     | .inl () => correctorref6_scanner_plain_l0 F a0 n (w64 (x128 + r139.2))
     | .inr y => some y
   else none
  else
   some x128
def correctorref6_scanner_plain_l1 (F : Nat) (a0 : correctorref6_scanner) : Nat → Int → Option Int
 | 0, _ => none
 | n + 1, x365 =>
  if (w64 (a0.At + 1)) < x365 then
   if 0 ≤ (w64 (x365 - 1)) ∧ (w64 (x365 - 1)) < (a0.B.length : Int) then
    (a0.B[(w64 (x365 - 1)).toNat]?).bind fun x403 =>
    (correctorref5_Blank F (x403.toNat : Int)).bind fun r409 =>
    if r409 = true then
     correctorref6_scanner_plain_l1 F a0 n (w64 (x365 - 1))
    else
     some x365
   else none
  else
   some x365
def correctorref6_scanner_plain (F : Nat) (a0 : correctorref6_scanner) : Option Int :=
 if 0 ≤ a0.At ∧ a0.At ≤ (a0.B.length : Int) ∧ (a0.B.length : Int) ≤ (a0.B.length : Int) then
  (correctorref1_Next F ((a0.B.take (a0.B.length : Int).toNat).drop a0.At.toNat)).bind fun r17 =>
  ((correctorref6_scanner_plain_l0 F a0 F (w64 (a0.At + r17.2))) : Option Int).bind fun o => match o with
   | x306 => ((correctorref6_scanner_plain_l1 F a0 F x306) : Option Int).bind fun o => match o with
    | x420 => some x420
 else none
theorem correctorref6_scanner_plain_ok (F : Nat) {h : AH} {Z : Zn} {a0 : correctorref6_scanner} {b1 : Nat} {v3 : Value} {v5 : Value} {c6 : List Value} (hP : Pre Z h [.blk b1 (K52 v3 v5 a0), .gs v5 c6 (csz api_Token)]) (q2 : RS (α := UInt8) Z v3 a0.B) (q4 : RCs (α := api_Token) Z c6 a0.L) {r : Int} (hm : correctorref6_scanner_plain F a0 = some r) :
  ∃ v h' Z' A', callI Try.prog 41 [Pt b1 0] h = some (v, h') ∧ St h (idsL [.blk b1 (K52 v3 v5 a0), .gs v5 c6 (csz api_Token)]) Z (0, 0) Z' h' A' ∧ V r = v ∧ A' = [.blk b1 (K52 v3 v5 a0), .gs v5 c6 (csz api_Token)] := by
 refine fn_intro (A := [.blk b1 (K52 v3 v5 a0), .gs v5 c6 (csz api_Token)]) (Q := fun v Z' A' => V r = v ∧ A' = [.blk b1 (K52 v3 v5 a0), .gs v5 c6 (csz api_Token)]) Try.func41 rfl rfl (by kernel_rfl) hP ?_
 intro hs hS
 unfold correctorref6_scanner_plain at hm
 refine sr r41_0 ?_
 refine xe 1 [(0, Pt b1 0)] ?_
 refine srF r41_1 hS ?_
 intro bs7 h8 hlv10 hS9
 refine yq 3 [(11, Pt b1 0), (0, Pt b1 0)] ?_
 have lt11 : b1 < bs7 := hlv10.1 _ (List.mem_of_getElem? (i := 0) rfl) _ (by simp [Itm.ids])
 refine e_lookO (v := v3) rfl trivial rfl (by show b1 < _; omega) (same1 (v := v3) (RS.sim1 q2)) (hS9.ldAt (i := 0) rfl (by kernel_rfl)) trivial ?_
 refine yq 3 [(15, Pt b1 1), (12, v3), (0, Pt b1 0)] ?_
 have lt12 : b1 < bs7 := hlv10.1 _ (List.mem_of_getElem? (i := 0) rfl) _ (by simp [Itm.ids])
 refine e_lookO (v := V a0.At) rfl trivial rfl (by show b1 < _; omega) (same1 (v := V a0.At) trivial) (hS9.ldAt (i := 0) rfl (by kernel_rfl)) trivial ?_
 obtain ⟨hc16, hm⟩ := chk hm
 refine e_exv rfl trivial (o_slice (a := a0.At) (b := (a0.B.length : Int)) q2 rfl (by kernel_rfl : slTy _ _ = some (csz UInt8)) ⟨_, rfl⟩ rfl hc16.1 hc16.2.1 hc16.2.2) ?_
 intro v13 q14
 obtain ⟨r17, hx18, hm⟩ := obind hm
 have hSl24 := hS9.lown
 obtain ⟨v19, h20, hcl21, hSc22, rfl⟩ := correctorref1_Next_ok F hSl24.inv q14 hx18
 have hS23 := St.call (A := []) (B := [.blk b1 (K52 v3 v5 a0), .gs v5 c6 (csz api_Token)]) hSl24 hSc22
 replace hS23 : St _ _ _ _ _ _ [.blk b1 (K52 v3 v5 a0), .gs v5 c6 (csz api_Token)] := hS23
 refine e_still rfl trivial hS9 (o_call hcl21 rfl rfl rfl) hS23 (St.lowk hSc22) ?_
 intro h25 hS26
 refine ye 5 [(4, V r17.2), (0, Pt b1 0)] ?_
 have hS27 := hS26.unres
 refine sr r41_2 ?_
 refine xq 3 [(23, Pt b1 1), (4, V r17.2), (0, Pt b1 0)] ?_
 refine r_step rfl trivial (o_ldb (v := V a0.At) hS27 (i := 0) rfl rfl (by kernel_rfl)) ?_
 refine xe 3 [(5, V (w64 (a0.At + r17.2))), (0, Pt b1 0)] ?_
 refine sq ?_
 obtain ⟨o126, ho125, hm⟩ := obind hm
 refine W_join [0, 5] (fun l h => ∃ Z305 : Zn, ∃ x306 : Int, x306 = o126 ∧ l = [(0, Pt b1 0), (5, V x306)] ∧ St hs (idsL [.blk b1 (K52 v3 v5 a0), .gs v5 c6 (csz api_Token)]) Z (0, 0) Z305 h [.blk b1 (K52 v3 v5 a0), .gs v5 c6 (csz api_Token)]) ?_ ?_
 rintro l h307 ⟨Z305, x306, rfl, rfl, hS308⟩
 try dsimp only at hm
 refine sq ?_
 obtain ⟨o363, ho362, hm⟩ := obind hm
 refine W_join [5] (fun l h => ∃ Z419 : Zn, ∃ x420 : Int, x420 = o363 ∧ l = [(5, V x420)] ∧ St hs (idsL [.blk b1 (K52 v3 v5 a0), .gs v5 c6 (csz api_Token)]) Z (0, 0) Z419 h [.blk b1 (K52 v3 v5 a0), .gs v5 c6 (csz api_Token)]) ?_ ?_
 rintro l h421 ⟨Z419, x420, rfl, rfl, hS422⟩
 try dsimp only at hm
 refine sr r41_9 ?_
 refine xe 2 [(2, V x420)] ?_
 refine rt ?_
 refine ⟨rfl, ?_⟩
 obtain rfl := si hm
 refine ⟨_, _, _, ResL.tmp rfl (ResL.nil), hS422, ?_⟩
 exact ⟨rfl, rfl⟩
 refine bk 2 ?_
 refine lp [0, 5] (fun n l h => ∃ Z364 : Zn, ∃ x365 : Int, correctorref6_scanner_plain_l1 F a0 n x365 = some o363 ∧ l = [(0, Pt b1 0), (5, V x365)] ∧ St hs (idsL [.blk b1 (K52 v3 v5 a0), .gs v5 c6 (csz api_Token)]) Z (0, 0) Z364 h [.blk b1 (K52 v3 v5 a0), .gs v5 c6 (csz api_Token)]) F ⟨_, x306, ho362, rfl, hS308⟩ ?_
 rintro n368 l h366 ⟨Z364, x365, ho362, rfl, hS367⟩
 rcases n368 with _ | n368
 cases (show none = some o363 from ho362)
 rw [correctorref6_scanner_plain_l1] at ho362
 refine sq ?_
 refine sr r41_7 ?_
 refine xq 4 [(104, Pt b1 1), (101, V x365), (0, Pt b1 0), (5, V x365)] ?_
 refine r_step rfl trivial (o_ldb (v := V a0.At) hS367 (i := 0) rfl rfl (by kernel_rfl)) ?_
 refine xq 1 [(106, V (w64 (a0.At + 1))), (101, V x365), (0, Pt b1 0), (5, V x365)] ?_
 rcases ifs ho362 with ⟨hp401, ho362⟩ | ⟨hp401, ho362⟩
 refine r_step rfl trivial (o_cmp rfl rfl (c_gtr_T hp401)) ?_
 refine xq 4 [(111, Pt b1 0), (108, .bool true), (0, Pt b1 0), (5, V x365)] ?_
 refine r_step rfl rfl (o_ldb (v := v3) hS367 (i := 0) rfl rfl (by kernel_rfl)) ?_
 refine xq 2 [(114, V (w64 (x365 - 1))), (112, v3), (108, .bool true), (0, Pt b1 0), (5, V x365)] ?_
 obtain ⟨hc402, ho362⟩ := chk ho362
 refine r_step rfl rfl (o_index rfl rfl (by kernel_rfl : slTy _ _ = some (csz UInt8)) (RS.based (q2.mono hS367.zle) (by omega)) hc402.1 hc402.2) ?_
 obtain ⟨x403, hx404, ho362⟩ := obind ho362
 obtain ⟨cs405, hc406, he407⟩ := RS.elz (q2.mono hS367.zle) (i := w64 (x365 - 1)) hx404
 obtain rfl := rc_UInt8 hc406
 refine r_step rfl rfl (o_lde (w := .int .u8 (x403.toNat : Int)) (he407 _ (hS367.zin0 (Zle.refl _))) rfl (by kernel_rfl)) ?_
 obtain ⟨r409, hx410, ho362⟩ := obind ho362
 obtain ⟨v411, h412, hcl413, hSc414, rfl⟩ := correctorref5_Blank_ok F hS367.inv  hx410
 have hS415 := St.call (A := []) (B := [.blk b1 (K52 v3 v5 a0), .gs v5 c6 (csz api_Token)]) hS367 hSc414
 replace hS415 : St _ _ _ _ _ _ [.blk b1 (K52 v3 v5 a0), .gs v5 c6 (csz api_Token)] := hS415
 refine r_step rfl rfl (o_call hcl413 rfl rfl rfl) ?_
 refine xe 1 [(118, .bool r409), (0, Pt b1 0), (5, V x365)] ?_
 rcases ifs ho362 with ⟨hp417, ho362⟩ | ⟨hp417, ho362⟩
 refine W_condT (x := .tmp 118) (by kernel_rfl) rfl hp417 ?_
 refine sk ?_
 refine bk 3 ?_
 refine rg r41_8 ?_
 refine xe 3 [(5, V (w64 (x365 - 1))), (0, Pt b1 0)] ?_
 exact ⟨n368, Nat.lt_succ_self _, ⟨_, w64 (x365 - 1), ho362, rfl, hS415⟩⟩
 refine W_condF (x := .tmp 118) (by kernel_rfl) rfl (Bool.eq_false_iff.2 hp417) ?_
 refine xt 2 ?_
 refine blkX_hit ?_
 obtain rfl := si ho362
 exact ⟨_, x365, rfl, rfl, hS415⟩
 refine r_step rfl trivial (o_cmp rfl rfl (c_gtr_F hp401)) ?_
 refine xe 11 [(118, .bool false), (0, Pt b1 0), (5, V x365)] ?_
 refine cF 118 rfl ?_
 refine xt 2 ?_
 refine blkX_hit ?_
 obtain rfl := si ho362
 exact ⟨_, x365, rfl, rfl, hS367⟩
 refine bk 0 ?_
 refine lp [0, 5] (fun n l h => ∃ Z127 : Zn, ∃ x128 : Int, correctorref6_scanner_plain_l0 F a0 n x128 = some o126 ∧ l = [(0, Pt b1 0), (5, V x128)] ∧ St hs (idsL [.blk b1 (K52 v3 v5 a0), .gs v5 c6 (csz api_Token)]) Z (0, 0) Z127 h [.blk b1 (K52 v3 v5 a0), .gs v5 c6 (csz api_Token)]) F ⟨_, w64 (a0.At + r17.2), ho125, rfl, hS27⟩ ?_
 rintro n131 l h129 ⟨Z127, x128, ho125, rfl, hS130⟩
 rcases n131 with _ | n131
 cases (show none = some o126 from ho125)
 rw [correctorref6_scanner_plain_l0] at ho125
 refine sq ?_
 refine sr r41_3 ?_
 refine xq 4 [(30, Pt b1 0), (27, V x128), (0, Pt b1 0), (5, V x128)] ?_
 refine r_step rfl trivial (o_ldb (v := v3) hS130 (i := 0) rfl rfl (by kernel_rfl)) ?_
 refine r_step rfl trivial (o_len rfl (RS.len (q2.mono hS130.zle)) ⟨_, Try.underlying24⟩) ?_
 rcases ifs ho125 with ⟨hp134, ho125⟩ | ⟨hp134, ho125⟩
 refine r_step rfl trivial (o_cmp rfl rfl (c_lss_T hp134)) ?_
 refine xf [(33, .bool true), (0, Pt b1 0), (5, V x128)] ?_
 refine kT 33 rfl ?_
 refine bk 1 ?_
 refine sr r41_4 ?_
 refine xq 3 [(37, Pt b1 0), (0, Pt b1 0), (5, V x128)] ?_
 refine r_step rfl trivial (o_ldb (v := v3) hS130 (i := 0) rfl rfl (by kernel_rfl)) ?_
 refine xq 1 [(39, V x128), (38, v3), (0, Pt b1 0), (5, V x128)] ?_
 obtain ⟨hc138, ho125⟩ := chk ho125
 refine r_exv rfl trivial (o_slice (a := x128) (b := (a0.B.length : Int)) (q2.mono hS130.zle) rfl (by kernel_rfl : slTy _ _ = some (csz UInt8)) ⟨_, rfl⟩ rfl hc138.1 hc138.2.1 hc138.2.2) ?_
 intro v135 q136
 obtain ⟨r139, hx140, ho125⟩ := obind ho125
 obtain ⟨v141, h142, hcl143, hSc144, rfl⟩ := correctorref1_Next_ok F hS130.inv q136 hx140
 have hS145 := St.call (A := []) (B := [.blk b1 (K52 v3 v5 a0), .gs v5 c6 (csz api_Token)]) hS130 hSc144
 replace hS145 : St _ _ _ _ _ _ [.blk b1 (K52 v3 v5 a0), .gs v5 c6 (csz api_Token)] := hS145
 refine r_step rfl trivial (o_call hcl143 rfl rfl rfl) ?_
 refine xe 5 [(7, V r139.2), (6, .int .i32 r139.1), (0, Pt b1 0), (5, V x128)] ?_
 refine sq ?_
 obtain ⟨o223, ho222, ho125⟩ := obind ho125
 refine W_seqJoin0 [0, 5, 7] (fun l h => ∃ Z300 : Zn, .inl () = o223 ∧ l = [(0, Pt b1 0), (5, V x128), (7, V r139.2)] ∧ St hs (idsL [.blk b1 (K52 v3 v5 a0), .gs v5 c6 (csz api_Token)]) Z (0, 0) Z300 h [.blk b1 (K52 v3 v5 a0), .gs v5 c6 (csz api_Token)]) (by kernel_rfl) ?_ ?_
 rintro l h301 ⟨Z300, rfl, rfl, hS302⟩
 try dsimp only at ho125
 refine rg r41_6 ?_
 refine xe 4 [(5, V (w64 (x128 + r139.2))), (0, Pt b1 0)] ?_
 exact ⟨n131, Nat.lt_succ_self _, ⟨_, w64 (x128 + r139.2), ho125, rfl, hS302⟩⟩
 refine rg r41_5 ?_
 refine xq 1 [(44, .int .i32 r139.1), (7, V r139.2), (0, Pt b1 0), (5, V x128)] ?_
 rcases ifs ho222 with ⟨hp224, ho222⟩ | ⟨hp224, ho222⟩
 refine r_step rfl trivial (o_cmp rfl rfl (c_lss_T hp224)) ?_
 refine xe 52 [(97, .bool true), (7, V r139.2), (0, Pt b1 0), (5, V x128)] ?_
 refine cT 97 rfl ?_
 refine xt 0 ?_
 refine blkX_miss rfl ?_
 refine blkX_hit ?_
 obtain rfl := si ho222
 obtain rfl := si ho125
 exact ⟨_, x128, rfl, rfl, hS145⟩
 refine r_step rfl trivial (o_cmp rfl rfl (c_lss_F hp224)) ?_
 refine xq 4 [(49, Pt b1 0), (46, .bool false), (7, V r139.2), (0, Pt b1 0), (5, V x128)] ?_
 refine r_step rfl rfl (o_ldb (v := v3) hS145 (i := 0) rfl rfl (by kernel_rfl)) ?_
 refine xq 1 [(51, V x128), (50, v3), (46, .bool false), (7, V r139.2), (0, Pt b1 0), (5, V x128)] ?_
 obtain ⟨r225, hx226, ho222⟩ := obind ho222
 obtain ⟨v227, h228, hcl229, hSc230, rfl⟩ := correctorref2_Break_ok F hS145.inv (q2.mono hS130.zle) hx226
 have hS231 := St.call (A := []) (B := [.blk b1 (K52 v3 v5 a0), .gs v5 c6 (csz api_Token)]) hS145 hSc230
 replace hS231 : St _ _ _ _ _ _ [.blk b1 (K52 v3 v5 a0), .gs v5 c6 (csz api_Token)] := hS231
 refine r_step rfl rfl (o_call hcl229 rfl rfl rfl) ?_
 rcases ifs ho222 with ⟨hp232, ho222⟩ | ⟨hp232, ho222⟩
 refine r_step rfl rfl (o_cmp rfl rfl (c_gtr_T hp232)) ?_
 refine xe 44 [(97, .bool true), (7, V r139.2), (0, Pt b1 0), (5, V x128)] ?_
 refine cT 97 rfl ?_
 refine xt 0 ?_
 refine blkX_miss rfl ?_
 refine blkX_hit ?_
 obtain rfl := si ho222
 obtain rfl := si ho125
 exact ⟨_, x128, rfl, rfl, hS231⟩
 refine r_step rfl rfl (o_cmp rfl rfl (c_gtr_F hp232)) ?_
 refine xq 4 [(57, V x128), (56, Pt b1 0), (55, .bool false), (7, V r139.2), (0, Pt b1 0), (5, V x128)] ?_
 obtain ⟨r233, hx234, ho222⟩ := obind ho222
 have hF240 : St _ _ _ _ _ _ ([.blk b1 (K52 v3 v5 a0), .gs v5 c6 (csz api_Token)] ++ []) := ((hS231.front 1 rfl).front 1 rfl)
 obtain ⟨v235, h236, Z241, A243, hcl237, hSc238, rfl, rfl⟩ := correctorref6_scanner_colon_ok F hF240.preL (q2.mono hS130.zle) (q4.mono hS130.zle) hx234
 have hZ242 := hSc238.zle
 have hS239 := hF240.call hSc238
 replace hS239 : St _ _ _ _ _ _ [.blk b1 (K52 v3 v5 a0), .gs v5 c6 (csz api_Token)] := hS239
 refine r_step rfl rfl (o_call hcl237 rfl rfl rfl) ?_
 refine xq 2 [(60, .bool r233), (7, V r139.2), (0, Pt b1 0), (5, V x128)] ?_
 rcases ifs ho222 with ⟨hp244, ho222⟩ | ⟨hp244, ho222⟩
 refine r_setb (t := 60) rfl hp244 ?_
 refine xe 37 [(97, .bool true), (7, V r139.2), (0, Pt b1 0), (5, V x128)] ?_
 refine cT 97 rfl ?_
 refine xt 0 ?_
 refine blkX_miss rfl ?_
 refine blkX_hit ?_
 obtain rfl := si ho222
 obtain rfl := si ho125
 exact ⟨_, x128, rfl, rfl, hS239⟩
 refine r_setb (t := 60) rfl (Bool.eq_false_iff.2 hp244) ?_
 refine xq 3 [(63, Pt b1 0), (60, .bool false), (7, V r139.2), (0, Pt b1 0), (5, V x128)] ?_
 refine r_step rfl rfl (o_ldb (v := v3) hS239 (i := 0) rfl rfl (by kernel_rfl)) ?_
 refine xq 1 [(65, V x128), (64, v3), (60, .bool false), (7, V r139.2), (0, Pt b1 0), (5, V x128)] ?_
 obtain ⟨hc245, ho222⟩ := chk ho222
 refine r_step rfl rfl (o_index rfl rfl (by kernel_rfl : slTy _ _ = some (csz UInt8)) (RS.based (q2.mono (hS130.zle.trans hZ242)) (by omega)) hc245.1 hc245.2) ?_
 obtain ⟨x246, hx247, ho222⟩ := obind ho222
 obtain ⟨cs248, hc249, he250⟩ := RS.elz (q2.mono (hS130.zle.trans hZ242)) (i := x128) hx247
 obtain rfl := rc_UInt8 hc249
 refine r_step rfl rfl (o_lde (w := .int .u8 (x246.toNat : Int)) (he250 _ (hS239.zin0 (Zle.refl _))) rfl (by kernel_rfl)) ?_
 rcases ifs ho222 with ⟨hp252, ho222⟩ | ⟨hp252, ho222⟩
 refine r_step rfl rfl (o_cmp rfl rfl (c_eql_T hp252)) ?_
 refine xq 4 [(72, Pt b1 0), (69, .bool true), (60, .bool false), (7, V r139.2), (0, Pt b1 0), (5, V x128)] ?_
 refine r_step rfl rfl (o_ldb (v := v3) hS239 (i := 0) rfl rfl (by kernel_rfl)) ?_
 refine xq 2 [(75, V (w64 (x128 - 1))), (73, v3), (69, .bool true), (60, .bool false), (7, V r139.2), (0, Pt b1 0), (5, V x128)] ?_
 obtain ⟨hc253, ho222⟩ := chk ho222
 refine r_step rfl rfl (o_index rfl rfl (by kernel_rfl : slTy _ _ = some (csz UInt8)) (RS.based (q2.mono (hS130.zle.trans hZ242)) (by omega)) hc253.1 hc253.2) ?_
 obtain ⟨x254, hx255, ho222⟩ := obind ho222
 obtain ⟨cs256, hc257, he258⟩ := RS.elz (q2.mono (hS130.zle.trans hZ242)) (i := w64 (x128 - 1)) hx255
 obtain rfl := rc_UInt8 hc257
 refine r_step rfl rfl (o_lde (w := .int .u8 (x254.toNat : Int)) (he258 _ (hS239.zin0 (Zle.refl _))) rfl (by kernel_rfl)) ?_
 obtain ⟨r260, hx261, ho222⟩ := obind ho222
 obtain ⟨v262, h263, hcl264, hSc265, rfl⟩ := correctorref5_Blank_ok F hS239.inv  hx261
 have hS266 := St.call (A := []) (B := [.blk b1 (K52 v3 v5 a0), .gs v5 c6 (csz api_Token)]) hS239 hSc265
 replace hS266 : St _ _ _ _ _ _ [.blk b1 (K52 v3 v5 a0), .gs v5 c6 (csz api_Token)] := hS266
 refine r_step rfl rfl (o_call hcl264 rfl rfl rfl) ?_
 refine xq 3 [(81, .bool r260), (7, V r139.2), (0, Pt b1 0), (5, V x128)] ?_
 rcases ifs ho222 with ⟨hp267, ho222⟩ | ⟨hp267, ho222⟩
 refine r_setb (t := 81) rfl hp267 ?_
 refine xe 16 [(97, .bool true), (7, V r139.2), (0, Pt b1 0), (5, V x128)] ?_
 refine cT 97 rfl ?_
 refine xt 0 ?_
 refine blkX_miss rfl ?_
 refine blkX_hit ?_
 obtain rfl := si ho222
 obtain rfl := si ho125
 exact ⟨_, x128, rfl, rfl, hS266⟩
 refine r_setb (t := 81) rfl (Bool.eq_false_iff.2 hp267) ?_
 refine xq 3 [(84, Pt b1 3), (81, .bool false), (7, V r139.2), (0, Pt b1 0), (5, V x128)] ?_
 refine r_step rfl rfl (o_ldb (v := V a0.Open) hS266 (i := 0) rfl rfl (by kernel_rfl)) ?_
 rcases ifs ho222 with ⟨hp268, ho222⟩ | ⟨hp268, ho222⟩
 refine r_step rfl rfl (o_cmp rfl rfl (c_gtr_T hp268)) ?_
 refine xq 4 [(90, Pt b1 0), (87, .bool true), (81, .bool false), (7, V r139.2), (0, Pt b1 0), (5, V x128)] ?_
 refine r_step rfl rfl (o_ldb (v := v3) hS266 (i := 0) rfl rfl (by kernel_rfl)) ?_
 refine xq 1 [(92, V x128), (91, v3), (87, .bool true), (81, .bool false), (7, V r139.2), (0, Pt b1 0), (5, V x128)] ?_
 obtain ⟨hc269, ho222⟩ := chk ho222
 refine r_step rfl rfl (o_index rfl rfl (by kernel_rfl : slTy _ _ = some (csz UInt8)) (RS.based (q2.mono (hS130.zle.trans hZ242)) (by omega)) hc269.1 hc269.2) ?_
 obtain ⟨x270, hx271, ho222⟩ := obind ho222
 obtain ⟨cs272, hc273, he274⟩ := RS.elz (q2.mono (hS130.zle.trans hZ242)) (i := x128) hx271
 obtain rfl := rc_UInt8 hc273
 refine r_step rfl rfl (o_lde (w := .int .u8 (x270.toNat : Int)) (he274 _ (hS266.zin0 (Zle.refl _))) rfl (by kernel_rfl)) ?_
 obtain ⟨r276, hx277, ho222⟩ := obind ho222
 obtain ⟨v278, h279, hcl280, hSc281, rfl⟩ := correctorref5_Flow_ok F hS266.inv  hx277
 have hS282 := St.call (A := []) (B := [.blk b1 (K52 v3 v5 a0), .gs v5 c6 (csz api_Token)]) hS266 hSc281
 replace hS282 : St _ _ _ _ _ _ [.blk b1 (K52 v3 v5 a0), .gs v5 c6 (csz api_Token)] := hS282
 refine r_step rfl rfl (o_call hcl280 rfl rfl rfl) ?_
 refine xe 2 [(97, .bool r276), (7, V r139.2), (0, Pt b1 0), (5, V x128)] ?_
 rcases ifs ho222 with ⟨hp283, ho222⟩ | ⟨hp283, ho222⟩
 refine W_condT (x := .tmp 97) (by kernel_rfl) rfl hp283 ?_
 refine xt 0 ?_
 refine blkX_miss rfl ?_
 refine blkX_hit ?_
 obtain rfl := si ho222
 obtain rfl := si ho125
 exact ⟨_, x128, rfl, rfl, hS282⟩
 refine W_condF (x := .tmp 97) (by kernel_rfl) rfl (Bool.eq_false_iff.2 hp283) ?_
 refine sk ?_
 obtain rfl := si ho222
 exact ⟨_, rfl, rfl, hS282⟩
 refine r_step rfl rfl (o_cmp rfl rfl (c_gtr_F hp268)) ?_
 refine xe 11 [(97, .bool false), (7, V r139.2), (0, Pt b1 0), (5, V x128)] ?_
 refine kF 97 rfl ?_
 obtain rfl := si ho222
 exact ⟨_, rfl, rfl, hS266⟩
 refine r_step rfl rfl (o_cmp rfl rfl (c_eql_F hp252)) ?_
 refine xq 16 [(84, Pt b1 3), (81, .bool false), (7, V r139.2), (0, Pt b1 0), (5, V x128)] ?_
 refine r_step rfl rfl (o_ldb (v := V a0.Open) hS239 (i := 0) rfl rfl (by kernel_rfl)) ?_
 rcases ifs ho222 with ⟨hp284, ho222⟩ | ⟨hp284, ho222⟩
 refine r_step rfl rfl (o_cmp rfl rfl (c_gtr_T hp284)) ?_
 refine xq 4 [(90, Pt b1 0), (87, .bool true), (81, .bool false), (7, V r139.2), (0, Pt b1 0), (5, V x128)] ?_
 refine r_step rfl rfl (o_ldb (v := v3) hS239 (i := 0) rfl rfl (by kernel_rfl)) ?_
 refine xq 1 [(92, V x128), (91, v3), (87, .bool true), (81, .bool false), (7, V r139.2), (0, Pt b1 0), (5, V x128)] ?_
 obtain ⟨hc285, ho222⟩ := chk ho222
 refine r_step rfl rfl (o_index rfl rfl (by kernel_rfl : slTy _ _ = some (csz UInt8)) (RS.based (q2.mono (hS130.zle.trans hZ242)) (by omega)) hc285.1 hc285.2) ?_
 obtain ⟨x286, hx287, ho222⟩ := obind ho222
 obtain ⟨cs288, hc289, he290⟩ := RS.elz (q2.mono (hS130.zle.trans hZ242)) (i := x128) hx287
 obtain rfl := rc_UInt8 hc289
 refine r_step rfl rfl (o_lde (w := .int .u8 (x286.toNat : Int)) (he290 _ (hS239.zin0 (Zle.refl _))) rfl (by kernel_rfl)) ?_
 obtain ⟨r292, hx293, ho222⟩ := obind ho222
 obtain ⟨v294, h295, hcl296, hSc297, rfl⟩ := correctorref5_Flow_ok F hS239.inv  hx293
 have hS298 := St.call (A := []) (B := [.blk b1 (K52 v3 v5 a0), .gs v5 c6 (csz api_Token)]) hS239 hSc297
 replace hS298 : St _ _ _ _ _ _ [.blk b1 (K52 v3 v5 a0), .gs v5 c6 (csz api_Token)] := hS298
 refine r_step rfl rfl (o_call hcl296 rfl rfl rfl) ?_
 refine xe 2 [(97, .bool r292), (7, V r139.2), (0, Pt b1 0), (5, V x128)] ?_
 rcases ifs ho222 with ⟨hp299, ho222⟩ | ⟨hp299, ho222⟩
 refine W_condT (x := .tmp 97) (by kernel_rfl) rfl hp299 ?_
 refine xt 0 ?_
 refine blkX_miss rfl ?_
 refine blkX_hit ?_
 obtain rfl := si ho222
 obtain rfl := si ho125
 exact ⟨_, x128, rfl, rfl, hS298⟩
 refine W_condF (x := .tmp 97) (by kernel_rfl) rfl (Bool.eq_false_iff.2 hp299) ?_
 refine sk ?_
 obtain rfl := si ho222
 exact ⟨_, rfl, rfl, hS298⟩
 refine r_step rfl rfl (o_cmp rfl rfl (c_gtr_F hp284)) ?_
 refine xe 11 [(97, .bool false), (7, V r139.2), (0, Pt b1 0), (5, V x128)] ?_
 refine kF 97 rfl ?_
 obtain rfl := si ho222
 exact ⟨_, rfl, rfl, hS239⟩
 refine r_step rfl trivial (o_cmp rfl rfl (c_lss_F hp134)) ?_
 refine xf [(33, .bool false), (0, Pt b1 0), (5, V x128)] ?_
 refine cF 33 rfl ?_
 refine xt 0 ?_
 refine blkX_hit ?_
 obtain rfl := si ho125
 exact ⟨_, x128, rfl, rfl, hS130⟩

def r21_0 : List COpF := [uP 7 (mv 0), uP 8 (nk 7), uP 9 (fa 52 8 0), uL 10 (ld 24 9), uP 11 (mv 0), uP 12 (nk 11), uP 13 (fa 52 12 1), uL 14 (ld 3 13), uP 15 (ia 24 10 14), uL 16 (ld 5 15), uP 2 (sg 16)]
def r21_1 : List COp := [u 17 (mv 0), u 18 (nk 17), u 19 (fa 52 18 1), u 20 (ld 3 19), u 3 (sg 20)]
def r21_2 : List COp := [u 22 (mv 0), u 23 (nk 22), u 24 (fa 52 23 0), u 25 (ld 24 24), u 26 (mv 3), u 27 (.slice 24 (t 25) (some (t 26)) none none), u 28 (cf 35 #[(t 27)] #[24]), u 21 (mv 28), u 29 (.extract (t 21) 0), u 30 (.extract (t 21) 1), u 4 (sg 29), u 5 (sg 30)]
def r21_3 : List COp := [u 31 (mv 0), u 32 (mv 3), u 33 (bc .add 3 32 1 3), u 34 (cf 36 #[(t 31), (t 33), (.const (.bool false))] #[50, 3, 4]), u 6 (sg 34)]
def r21_4 : List COp := [u 35 (mv 0), u 36 (mv 0), u 37 (cf 41 #[(t 36)] #[50]), u 38 (cf 18 #[(t 35), (ci 15), (t 37)] #[50, 3, 3])]
def r21_5 : List COp := [u 40 (mv 2), u 41 (.binOp .eql 5 (t 40) (.const (.int .u8 45)) 5), u 42 (mv 41), gt 42 43 (mv 0), gt 42 44 (nk 43), gt 42 45 (fa 52 44 3), gt 42 46 (ld 3 45), gt 42 47 (bc .eql 3 46 0 3), u 48 (pf 42 47), u 49 (mv 48), gt 49 50 (mv 0), gt 49 51 (nk 50), gt 49 52 (fa 52 51 5), gt 49 53 (ld 4 52), u 54 (pf 49 53), u 55 (mv 54), gt 55 56 (mv 0), gt 55 57 (mv 3), gt 55 58 (bc .add 3 57 1 3), gt 55 59 (cf 29 #[(t 56), (t 58)] #[50, 3]), u 60 (pf 55 59), u 39 (sg 60)]
def r21_6 : List COp := [u 61 (mv 0), u 62 (mv 3), u 63 (bc .add 3 62 1 3), u 64 (cf 18 #[(t 61), (ci 5), (t 63)] #[50, 3, 3])]
def r21_7 : List COp := [u 66 (mv 0), u 67 (mv 3), u 68 (cf 37 #[(t 66), (t 67)] #[50, 3]), u 65 (sg 68)]
def r21_8 : List COp := [u 69 (mv 0), u 70 (mv 3), u 71 (bc .add 3 70 1 3), u 72 (cf 18 #[(t 69), (ci 6), (t 71)] #[50, 3, 3])]
def r21_9 : List COp := [u 74 (mv 2), u 75 (.binOp .eql 5 (t 74) (.const (.int .u8 38)) 5), u 76 (mv 75), gt 76 77 (mv 6), gt 76 78 (mv 3), gt 76 79 (bc .add 3 78 1 3), gt 76 80 (bo .gtr 3 77 79 3), u 81 (pf 76 80), u 73 (sg 81)]
def r21_10 : List COp := [u 82 (mv 0), u 83 (mv 6), u 84 (cf 18 #[(t 82), (ci 12), (t 83)] #[50, 3, 3])]
def r21_11 : List COp := [u 86 (mv 2), u 87 (.binOp .eql 5 (t 86) (.const (.int .u8 42)) 5), u 88 (mv 87), gt 88 89 (mv 6), gt 88 90 (mv 3), gt 88 91 (bc .add 3 90 1 3), gt 88 92 (bo .gtr 3 89 91 3), u 93 (pf 88 92), u 85 (sg 93)]
def r21_12 : List COp := [u 94 (mv 0), u 95 (mv 6), u 96 (cf 18 #[(t 94), (ci 13), (t 95)] #[50, 3, 3])]
def r21_13 : List COp := [u 98 (mv 2), u 99 (.binOp .eql 5 (t 98) (.const (.int .u8 33)) 5), u 97 (sg 99)]
def r21_14 : List COp := [u 100 (mv 0), u 101 (mv 0), u 102 (mv 3), u 103 (bc .add 3 102 1 3), u 104 (cf 36 #[(t 101), (t 103), (.const (.bool true))] #[50, 3, 4]), u 105 (cf 18 #[(t 100), (ci 14), (t 104)] #[50, 3, 3])]
def r21_15 : List COp := [u 107 (mv 2), u 108 (.binOp .eql 5 (t 107) (.const (.int .u8 39)) 5), u 106 (sg 108)]
def r21_16 : List COp := [u 109 (mv 0), u 110 (mv 0), u 111 (mv 3), u 112 (bc .add 3 111 1 3), u 113 (mv 0), u 114 (mv 3), u 115 (cf 34 #[(t 113), (t 114)] #[50, 3]), u 116 (cf 38 #[(t 110), (t 112), (t 115)] #[50, 3, 3]), u 117 (cf 18 #[(t 109), (ci 16), (t 116)] #[50, 3, 3])]
def r21_17 : List COp := [u 119 (mv 2), u 120 (.binOp .eql 5 (t 119) (.const (.int .u8 34)) 5), u 118 (sg 120)]
def r21_18 : List COp := [u 121 (mv 0), u 122 (mv 0), u 123 (mv 3), u 124 (bc .add 3 123 1 3), u 125 (mv 0), u 126 (mv 3), u 127 (cf 34 #[(t 125), (t 126)] #[50, 3]), u 128 (cf 39 #[(t 122), (t 124), (t 127)] #[50, 3, 3]), u 129 (mv 0), u 130 (mv 3), u 131 (cf 34 #[(t 129), (t 130)] #[50, 3]), u 132 (cb .min #[(t 128), (t 131)] #[3, 3]), u 133 (cf 18 #[(t 121), (ci 17), (t 132)] #[50, 3, 3])]
def r21_19 : List COp := [u 135 (mv 0), u 136 (cf 40 #[(t 135)] #[50]), u 137 (bc .gtr 3 136 0 3), u 134 (sg 137)]
def r21_20 : List COp := [u 138 (mv 0), u 139 (mv 0), u 140 (nk 139), u 141 (fa 52 140 4), u 142 (ld 3 141), u 143 (nk 138), u 144 (fa 52 143 6), o (.store 3 (t 144) (t 142))]
def r21_21 : List COp := [u 145 (mv 0), u 146 (nk 145), u 147 (fa 52 146 4), u 148 (ld 3 147), u 149 (bc .lss 3 148 0 3)]
def r21_22 : List COp := [u 150 (mv 0), u 151 (mv 3), u 152 (mv 0), u 153 (nk 152), u 154 (fa 52 153 2), u 155 (ld 3 154), u 156 (bo .sub 3 151 155 3), u 157 (bc .sub 3 156 1 3), u 158 (nk 150), u 159 (fa 52 158 6), o (.store 3 (t 159) (t 157))]
def r21_23 : List COp := [u 160 (mv 0), u 161 (mv 3), u 162 (mv 0), u 163 (cf 40 #[(t 162)] #[50]), u 164 (bo .add 3 161 163 3), u 165 (cf 18 #[(t 160), (ci 18), (t 164)] #[50, 3, 3])]
def r21_24 : List COp := [u 167 (mv 4), u 168 (.binOp .lss 21 (t 167) (.const (.int .i32 0)) 21), u 166 (sg 168)]
def r21_25 : List COp := [u 169 (mv 0), u 170 (mv 3), u 171 (bc .add 3 170 1 3), u 172 (cf 18 #[(t 169), (ci 22), (t 171)] #[50, 3, 3])]
def correctorref6_scanner_word (F : Nat) (a0 : correctorref6_scanner) : Option correctorref6_scanner :=
 if 0 ≤ a0.At ∧ a0.At < (a0.B.length : Int) then
  (a0.B[a0.At.toNat]?).bind fun x19 =>
  if 0 ≤ a0.At ∧ a0.At ≤ (a0.B.length : Int) ∧ (a0.B.length : Int) ≤ (a0.B.length : Int) then
   (correctorref1_Next F ((a0.B.take (a0.B.length : Int).toNat).drop a0.At.toNat)).bind fun r30 =>
   (correctorref6_scanner_names F a0 (w64 (a0.At + 1)) false).bind fun r37 =>
   ((if (x19.toNat : Int) = (45 : Int) then
     if a0.Open = (0 : Int) then
      if a0.Only = true then
       (correctorref6_scanner_ended F a0 (w64 (a0.At + 1))).bind fun r81 =>
       some r81
      else
       some false
     else
      some false
    else
     some false) : Option Bool).bind fun o => match o with
    | x93 => if x93 = true then
     (correctorref6_scanner_add F a0 5 (w64 (a0.At + 1))).bind fun r97 =>
     some r97
    else
     (correctorref6_scanner_colon F a0 a0.At).bind fun r113 =>
     if r113 = true then
      (correctorref6_scanner_add F a0 6 (w64 (a0.At + 1))).bind fun r125 =>
      some r125
     else
      ((if (x19.toNat : Int) = (38 : Int) then
        if (w64 (a0.At + 1)) < r37 then
         some true
        else
         some false
       else
        some false) : Option Bool).bind fun o => match o with
       | x150 => if x150 = true then
        (correctorref6_scanner_add F a0 12 r37).bind fun r154 =>
        some r154
       else
        ((if (x19.toNat : Int) = (42 : Int) then
          if (w64 (a0.At + 1)) < r37 then
           some true
          else
           some false
         else
          some false) : Option Bool).bind fun o => match o with
         | x179 => if x179 = true then
          (correctorref6_scanner_add F a0 13 r37).bind fun r183 =>
          some r183
         else
          if (x19.toNat : Int) = (33 : Int) then
           (correctorref6_scanner_names F a0 (w64 (a0.At + 1)) true).bind fun r201 =>
           (correctorref6_scanner_add F a0 14 r201).bind fun r212 =>
           some r212
          else
           if (x19.toNat : Int) = (39 : Int) then
            (correctorref6_scanner_rowEnd F a0 a0.At).bind fun r230 =>
            (correctorref6_scanner_single F a0 (w64 (a0.At + 1)) r230).bind fun r241 =>
            (correctorref6_scanner_add F a0 16 r241).bind fun r252 =>
            some r252
           else
            if (x19.toNat : Int) = (34 : Int) then
             (correctorref6_scanner_rowEnd F a0 a0.At).bind fun r270 =>
             (correctorref6_scanner_double F a0 (w64 (a0.At + 1)) r270).bind fun r281 =>
             (correctorref6_scanner_rowEnd F a0 a0.At).bind fun r292 =>
             (correctorref6_scanner_add F a0 17 (imin r281 r292)).bind fun r303 =>
             some r303
            else
             (correctorref6_scanner_head F a0).bind fun r331 =>
             if (0 : Int) < r331 then
              ((if a0.Base < (0 : Int) then
                some (⟨a0.B, a0.At, a0.Row, a0.Open, a0.Base, a0.Only, w64 ((w64 (a0.At - a0.Row)) - 1), a0.L⟩ : correctorref6_scanner)
               else
                some (⟨a0.B, a0.At, a0.Row, a0.Open, a0.Base, a0.Only, a0.Base, a0.L⟩ : correctorref6_scanner)) : Option correctorref6_scanner).bind fun o => match o with
               | x355 => (correctorref6_scanner_head F x355).bind fun r362 =>
               (correctorref6_scanner_add F x355 18 (w64 (a0.At + r362))).bind fun r373 =>
               some r373
             else
              if r30.1 < (0 : Int) then
               (correctorref6_scanner_add F a0 22 (w64 (a0.At + 1))).bind fun r395 =>
               some r395
              else
               (correctorref6_scanner_plain F a0).bind fun r411 =>
               (correctorref6_scanner_add F a0 15 r411).bind fun r422 =>
               some r422
  else none
 else none
theorem correctorref6_scanner_word_ok (F : Nat) {h : AH} {Z : Zn} {a0 : correctorref6_scanner} {b1 : Nat} {v3 : Value} {v5 : Value} {c6 : List Value} (hP : Pre Z h [.blk b1 (K52 v3 v5 a0), .gs v5 c6 (csz api_Token)]) (q2 : RS (α := UInt8) Z v3 a0.B) (q4 : RCs (α := api_Token) Z c6 a0.L) {r : correctorref6_scanner} (hm : correctorref6_scanner_word F a0 = some r) :
  ∃ v h' Z' A', callI Try.prog 21 [Pt b1 0] h = some (v, h') ∧ St h (idsL [.blk b1 (K52 v3 v5 a0), .gs v5 c6 (csz api_Token)]) Z (0, 0) Z' h' A' ∧ ∃ v8 : Value, ∃ v10 : Value, ∃ c11 : List Value, .tuple #[] = v ∧ A' = [.blk b1 (K52 v8 v10 r), .gs v10 c11 (csz api_Token)] ∧ RS (α := UInt8) Z' v8 r.B ∧ RCs (α := api_Token) Z' c11 r.L := by
 refine fn_intro (A := [.blk b1 (K52 v3 v5 a0), .gs v5 c6 (csz api_Token)]) (Q := fun v Z' A' => ∃ v8 : Value, ∃ v10 : Value, ∃ c11 : List Value, .tuple #[] = v ∧ A' = [.blk b1 (K52 v8 v10 r), .gs v10 c11 (csz api_Token)] ∧ RS (α := UInt8) Z' v8 r.B ∧ RCs (α := api_Token) Z' c11 r.L) Try.func21 rfl rfl (by kernel_rfl) hP ?_
 intro hs hS
 unfold correctorref6_scanner_word at hm
 refine srF r21_0 hS ?_
 intro bs12 h13 hlv15 hS14
 refine yq 3 [(9, Pt b1 0), (0, Pt b1 0)] ?_
 have lt16 : b1 < bs12 := hlv15.1 _ (List.mem_of_getElem? (i := 0) rfl) _ (by simp [Itm.ids])
 refine e_lookO (v := v3) rfl trivial rfl (by show b1 < _; omega) (same1 (v := v3) (RS.sim1 q2)) (hS14.ldAt (i := 0) rfl (by kernel_rfl)) trivial ?_
 refine yq 3 [(13, Pt b1 1), (10, v3), (0, Pt b1 0)] ?_
 have lt17 : b1 < bs12 := hlv15.1 _ (List.mem_of_getElem? (i := 0) rfl) _ (by simp [Itm.ids])
 refine e_lookO (v := V a0.At) rfl trivial rfl (by show b1 < _; omega) (same1 (v := V a0.At) trivial) (hS14.ldAt (i := 0) rfl (by kernel_rfl)) trivial ?_
 obtain ⟨hc18, hm⟩ := chk hm
 refine e_val rfl trivial (o_index rfl rfl (by kernel_rfl : slTy _ _ = some (csz UInt8)) (RS.based q2 (by omega)) hc18.1 hc18.2) ?_
 obtain ⟨x19, hx20, hm⟩ := obind hm
 obtain ⟨cs21, hc22, he23⟩ := RS.elz q2 (i := a0.At) hx20
 obtain rfl := rc_UInt8 hc22
 refine e_lookZ rfl rfl trivial (fun h2 hz => o_lde (w := .int .u8 (x19.toNat : Int)) (he23 h2 hz) rfl (by kernel_rfl)) (hS14.zin0 (Zle.refl _)) (same1 (v := .int .u8 (x19.toNat : Int)) trivial) trivial ?_
 refine ye 1 [(2, .int .u8 (x19.toNat : Int)), (0, Pt b1 0)] ?_
 have hS25 := hS14.unres
 refine sr r21_1 ?_
 refine xq 3 [(19, Pt b1 1), (2, .int .u8 (x19.toNat : Int)), (0, Pt b1 0)] ?_
 refine r_step rfl trivial (o_ldb (v := V a0.At) hS25 (i := 0) rfl rfl (by kernel_rfl)) ?_
 refine xe 1 [(3, V a0.At), (2, .int .u8 (x19.toNat : Int)), (0, Pt b1 0)] ?_
 refine sr r21_2 ?_
 refine xq 3 [(24, Pt b1 0), (3, V a0.At), (2, .int .u8 (x19.toNat : Int)), (0, Pt b1 0)] ?_
 refine r_step rfl trivial (o_ldb (v := v3) hS25 (i := 0) rfl rfl (by kernel_rfl)) ?_
 refine xq 1 [(26, V a0.At), (25, v3), (3, V a0.At), (2, .int .u8 (x19.toNat : Int)), (0, Pt b1 0)] ?_
 obtain ⟨hc29, hm⟩ := chk hm
 refine r_exv rfl trivial (o_slice (a := a0.At) (b := (a0.B.length : Int)) q2 rfl (by kernel_rfl : slTy _ _ = some (csz UInt8)) ⟨_, rfl⟩ rfl hc29.1 hc29.2.1 hc29.2.2) ?_
 intro v26 q27
 obtain ⟨r30, hx31, hm⟩ := obind hm
 obtain ⟨v32, h33, hcl34, hSc35, rfl⟩ := correctorref1_Next_ok F hS25.inv q27 hx31
 have hS36 := St.call (A := []) (B := [.blk b1 (K52 v3 v5 a0), .gs v5 c6 (csz api_Token)]) hS25 hSc35
 replace hS36 : St _ _ _ _ _ _ [.blk b1 (K52 v3 v5 a0), .gs v5 c6 (csz api_Token)] := hS36
 refine r_step rfl trivial (o_call hcl34 rfl rfl rfl) ?_
 refine xe 5 [(4, .int .i32 r30.1), (3, V a0.At), (2, .int .u8 (x19.toNat : Int)), (0, Pt b1 0)] ?_
 refine sr r21_3 ?_
 refine xq 3 [(33, V (w64 (a0.At + 1))), (31, Pt b1 0), (4, .int .i32 r30.1), (3, V a0.At), (2, .int .u8 (x19.toNat : Int)), (0, Pt b1 0)] ?_
 obtain ⟨r37, hx38, hm⟩ := obind hm
 have hF44 : St _ _ _ _ _ _ ([.blk b1 (K52 v3 v5 a0), .gs v5 c6 (csz api_Token)] ++ []) := ((hS36.front 1 rfl).front 1 rfl)
 obtain ⟨v39, h40, Z45, A47, hcl41, hSc42, rfl, rfl⟩ := correctorref6_scanner_names_ok F hF44.preL q2 q4 hx38
 have hZ46 := hSc42.zle
 have hS43 := hF44.call hSc42
 replace hS43 : St _ _ _ _ _ _ [.blk b1 (K52 v3 v5 a0), .gs v5 c6 (csz api_Token)] := hS43
 refine r_step rfl trivial (o_call hcl41 rfl rfl rfl) ?_
 refine xe 1 [(6, V r37), (4, .int .i32 r30.1), (3, V a0.At), (2, .int .u8 (x19.toNat : Int)), (0, Pt b1 0)] ?_
 refine bk 0 ?_
 refine sq ?_
 obtain ⟨o77, ho76, hm⟩ := obind hm
 refine W_join [0, 2, 3, 4, 6, 39] (fun l h => ∃ Z92 : Zn, ∃ x93 : Bool, x93 = o77 ∧ l = [(0, Pt b1 0), (2, .int .u8 (x19.toNat : Int)), (3, V a0.At), (4, .int .i32 r30.1), (6, V r37), (39, .bool x93)] ∧ St hs (idsL [.blk b1 (K52 v3 v5 a0), .gs v5 c6 (csz api_Token)]) Z (0, 0) Z92 h [.blk b1 (K52 v3 v5 a0), .gs v5 c6 (csz api_Token)]) ?_ ?_
 rintro l h94 ⟨Z92, x93, rfl, rfl, hS95⟩
 try dsimp only at hm
 rcases ifs hm with ⟨hp96, hm⟩ | ⟨hp96, hm⟩
 refine W_condT (x := .tmp 39) (by kernel_rfl) rfl hp96 ?_
 refine rg r21_6 ?_
 refine xq 3 [(63, V (w64 (a0.At + 1))), (61, Pt b1 0)] ?_
 obtain ⟨r97, hx98, hm⟩ := obind hm
 have hF104 : St _ _ _ _ _ _ ([.blk b1 (K52 v3 v5 a0), .gs v5 c6 (csz api_Token)] ++ []) := ((hS95.front 1 rfl).front 1 rfl)
 obtain ⟨v99, h100, Z105, A107, hcl101, hSc102, v109, v111, c112, rfl, rfl, q108, q110⟩ := correctorref6_scanner_add_ok F hF104.preL (q2.mono hS95.zle) (q4.mono hS95.zle) hx98
 have hZ106 := hSc102.zle
 have hS103 := hF104.call hSc102
 replace hS103 : St _ _ _ _ _ _ [.blk b1 (K52 v109 v111 r97), .gs v111 c112 (csz api_Token)] := hS103
 refine r_step rfl trivial (o_call hcl101 rfl rfl rfl) ?_
 refine xf [] ?_
 obtain rfl := si hm
 refine ⟨_, _, _, ResL.nil, hS103, ?_⟩
 exact ⟨v109, v111, c112, rfl, rfl, q108, q110⟩
 refine W_condF (x := .tmp 39) (by kernel_rfl) rfl (Bool.eq_false_iff.2 hp96) ?_
 refine sr r21_7 ?_
 refine xq 2 [(67, V a0.At), (66, Pt b1 0), (0, Pt b1 0), (2, .int .u8 (x19.toNat : Int)), (3, V a0.At), (4, .int .i32 r30.1), (6, V r37)] ?_
 obtain ⟨r113, hx114, hm⟩ := obind hm
 have hF120 : St _ _ _ _ _ _ ([.blk b1 (K52 v3 v5 a0), .gs v5 c6 (csz api_Token)] ++ []) := ((hS95.front 1 rfl).front 1 rfl)
 obtain ⟨v115, h116, Z121, A123, hcl117, hSc118, rfl, rfl⟩ := correctorref6_scanner_colon_ok F hF120.preL (q2.mono hS95.zle) (q4.mono hS95.zle) hx114
 have hZ122 := hSc118.zle
 have hS119 := hF120.call hSc118
 replace hS119 : St _ _ _ _ _ _ [.blk b1 (K52 v3 v5 a0), .gs v5 c6 (csz api_Token)] := hS119
 refine r_step rfl trivial (o_call hcl117 rfl rfl rfl) ?_
 refine xe 1 [(65, .bool r113), (0, Pt b1 0), (2, .int .u8 (x19.toNat : Int)), (3, V a0.At), (4, .int .i32 r30.1), (6, V r37)] ?_
 rcases ifs hm with ⟨hp124, hm⟩ | ⟨hp124, hm⟩
 refine W_condT (x := .tmp 65) (by kernel_rfl) rfl hp124 ?_
 refine rg r21_8 ?_
 refine xq 3 [(71, V (w64 (a0.At + 1))), (69, Pt b1 0)] ?_
 obtain ⟨r125, hx126, hm⟩ := obind hm
 have hF132 : St _ _ _ _ _ _ ([.blk b1 (K52 v3 v5 a0), .gs v5 c6 (csz api_Token)] ++ []) := ((hS119.front 1 rfl).front 1 rfl)
 obtain ⟨v127, h128, Z133, A135, hcl129, hSc130, v137, v139, c140, rfl, rfl, q136, q138⟩ := correctorref6_scanner_add_ok F hF132.preL (q2.mono (hS95.zle.trans hZ122)) (q4.mono (hS95.zle.trans hZ122)) hx126
 have hZ134 := hSc130.zle
 have hS131 := hF132.call hSc130
 replace hS131 : St _ _ _ _ _ _ [.blk b1 (K52 v137 v139 r125), .gs v139 c140 (csz api_Token)] := hS131
 refine r_step rfl trivial (o_call hcl129 rfl rfl rfl) ?_
 refine xf [] ?_
 obtain rfl := si hm
 refine ⟨_, _, _, ResL.nil, hS131, ?_⟩
 exact ⟨v137, v139, c140, rfl, rfl, q136, q138⟩
 refine W_condF (x := .tmp 65) (by kernel_rfl) rfl (Bool.eq_false_iff.2 hp124) ?_
 refine sq ?_
 obtain ⟨o146, ho145, hm⟩ := obind hm
 refine W_join [0, 2, 3, 4, 6, 73] (fun l h => ∃ Z149 : Zn, ∃ x150 : Bool, x150 = o146 ∧ l = [(0, Pt b1 0), (2, .int .u8 (x19.toNat : Int)), (3, V a0.At), (4, .int .i32 r30.1), (6, V r37), (73, .bool x150)] ∧ St hs (idsL [.blk b1 (K52 v3 v5 a0), .gs v5 c6 (csz api_Token)]) Z (0, 0) Z149 h [.blk b1 (K52 v3 v5 a0), .gs v5 c6 (csz api_Token)]) ?_ ?_
 rintro l h151 ⟨Z149, x150, rfl, rfl, hS152⟩
 try dsimp only at hm
 rcases ifs hm with ⟨hp153, hm⟩ | ⟨hp153, hm⟩
 refine W_condT (x := .tmp 73) (by kernel_rfl) rfl hp153 ?_
 refine rg r21_10 ?_
 refine xq 2 [(83, V r37), (82, Pt b1 0)] ?_
 obtain ⟨r154, hx155, hm⟩ := obind hm
 have hF161 : St _ _ _ _ _ _ ([.blk b1 (K52 v3 v5 a0), .gs v5 c6 (csz api_Token)] ++ []) := ((hS152.front 1 rfl).front 1 rfl)
 obtain ⟨v156, h157, Z162, A164, hcl158, hSc159, v166, v168, c169, rfl, rfl, q165, q167⟩ := correctorref6_scanner_add_ok F hF161.preL (q2.mono hS152.zle) (q4.mono hS152.zle) hx155
 have hZ163 := hSc159.zle
 have hS160 := hF161.call hSc159
 replace hS160 : St _ _ _ _ _ _ [.blk b1 (K52 v166 v168 r154), .gs v168 c169 (csz api_Token)] := hS160
 refine r_step rfl trivial (o_call hcl158 rfl rfl rfl) ?_
 refine xf [] ?_
 obtain rfl := si hm
 refine ⟨_, _, _, ResL.nil, hS160, ?_⟩
 exact ⟨v166, v168, c169, rfl, rfl, q165, q167⟩
 refine W_condF (x := .tmp 73) (by kernel_rfl) rfl (Bool.eq_false_iff.2 hp153) ?_
 refine sq ?_
 obtain ⟨o175, ho174, hm⟩ := obind hm
 refine W_join [0, 2, 3, 4, 6, 85] (fun l h => ∃ Z178 : Zn, ∃ x179 : Bool, x179 = o175 ∧ l = [(0, Pt b1 0), (2, .int .u8 (x19.toNat : Int)), (3, V a0.At), (4, .int .i32 r30.1), (6, V r37), (85, .bool x179)] ∧ St hs (idsL [.blk b1 (K52 v3 v5 a0), .gs v5 c6 (csz api_Token)]) Z (0, 0) Z178 h [.blk b1 (K52 v3 v5 a0), .gs v5 c6 (csz api_Token)]) ?_ ?_
 rintro l h180 ⟨Z178, x179, rfl, rfl, hS181⟩
 try dsimp only at hm
 rcases ifs hm with ⟨hp182, hm⟩ | ⟨hp182, hm⟩
 refine W_condT (x := .tmp 85) (by kernel_rfl) rfl hp182 ?_
 refine rg r21_12 ?_
 refine xq 2 [(95, V r37), (94, Pt b1 0)] ?_
 obtain ⟨r183, hx184, hm⟩ := obind hm
 have hF190 : St _ _ _ _ _ _ ([.blk b1 (K52 v3 v5 a0), .gs v5 c6 (csz api_Token)] ++ []) := ((hS181.front 1 rfl).front 1 rfl)
 obtain ⟨v185, h186, Z191, A193, hcl187, hSc188, v195, v197, c198, rfl, rfl, q194, q196⟩ := correctorref6_scanner_add_ok F hF190.preL (q2.mono hS181.zle) (q4.mono hS181.zle) hx184
 have hZ192 := hSc188.zle
 have hS189 := hF190.call hSc188
 replace hS189 : St _ _ _ _ _ _ [.blk b1 (K52 v195 v197 r183), .gs v197 c198 (csz api_Token)] := hS189
 refine r_step rfl trivial (o_call hcl187 rfl rfl rfl) ?_
 refine xf [] ?_
 obtain rfl := si hm
 refine ⟨_, _, _, ResL.nil, hS189, ?_⟩
 exact ⟨v195, v197, c198, rfl, rfl, q194, q196⟩
 refine W_condF (x := .tmp 85) (by kernel_rfl) rfl (Bool.eq_false_iff.2 hp182) ?_
 refine sr r21_13 ?_
 refine xq 1 [(98, .int .u8 (x19.toNat : Int)), (0, Pt b1 0), (2, .int .u8 (x19.toNat : Int)), (3, V a0.At), (4, .int .i32 r30.1)] ?_
 rcases ifs hm with ⟨hp200, hm⟩ | ⟨hp200, hm⟩
 refine r_step rfl trivial (o_cmp rfl rfl (c_eql_T hp200)) ?_
 refine xe 1 [(97, .bool true), (0, Pt b1 0), (2, .int .u8 (x19.toNat : Int)), (3, V a0.At), (4, .int .i32 r30.1)] ?_
 refine cT 97 rfl ?_
 refine rg r21_14 ?_
 refine xq 4 [(103, V (w64 (a0.At + 1))), (101, Pt b1 0), (100, Pt b1 0)] ?_
 obtain ⟨r201, hx202, hm⟩ := obind hm
 have hF208 : St _ _ _ _ _ _ ([.blk b1 (K52 v3 v5 a0), .gs v5 c6 (csz api_Token)] ++ []) := ((hS181.front 1 rfl).front 1 rfl)
 obtain ⟨v203, h204, Z209, A211, hcl205, hSc206, rfl, rfl⟩ := correctorref6_scanner_names_ok F hF208.preL (q2.mono hS181.zle) (q4.mono hS181.zle) hx202
 have hZ210 := hSc206.zle
 have hS207 := hF208.call hSc206
 replace hS207 : St _ _ _ _ _ _ [.blk b1 (K52 v3 v5 a0), .gs v5 c6 (csz api_Token)] := hS207
 refine r_step rfl trivial (o_call hcl205 rfl rfl rfl) ?_
 obtain ⟨r212, hx213, hm⟩ := obind hm
 have hF219 : St _ _ _ _ _ _ ([.blk b1 (K52 v3 v5 a0), .gs v5 c6 (csz api_Token)] ++ []) := ((hS207.front 1 rfl).front 1 rfl)
 obtain ⟨v214, h215, Z220, A222, hcl216, hSc217, v224, v226, c227, rfl, rfl, q223, q225⟩ := correctorref6_scanner_add_ok F hF219.preL (q2.mono (hS181.zle.trans hZ210)) (q4.mono (hS181.zle.trans hZ210)) hx213
 have hZ221 := hSc217.zle
 have hS218 := hF219.call hSc217
 replace hS218 : St _ _ _ _ _ _ [.blk b1 (K52 v224 v226 r212), .gs v226 c227 (csz api_Token)] := hS218
 refine r_step rfl trivial (o_call hcl216 rfl rfl rfl) ?_
 refine xf [] ?_
 obtain rfl := si hm
 refine ⟨_, _, _, ResL.nil, hS218, ?_⟩
 exact ⟨v224, v226, c227, rfl, rfl, q223, q225⟩
 refine r_step rfl trivial (o_cmp rfl rfl (c_eql_F hp200)) ?_
 refine xe 1 [(97, .bool false), (0, Pt b1 0), (2, .int .u8 (x19.toNat : Int)), (3, V a0.At), (4, .int .i32 r30.1)] ?_
 refine cF 97 rfl ?_
 refine sr r21_15 ?_
 refine xq 1 [(107, .int .u8 (x19.toNat : Int)), (0, Pt b1 0), (2, .int .u8 (x19.toNat : Int)), (3, V a0.At), (4, .int .i32 r30.1)] ?_
 rcases ifs hm with ⟨hp229, hm⟩ | ⟨hp229, hm⟩
 refine r_step rfl trivial (o_cmp rfl rfl (c_eql_T hp229)) ?_
 refine xe 1 [(106, .bool true), (0, Pt b1 0), (2, .int .u8 (x19.toNat : Int)), (3, V a0.At), (4, .int .i32 r30.1)] ?_
 refine cT 106 rfl ?_
 refine rg r21_16 ?_
 refine xq 6 [(114, V a0.At), (113, Pt b1 0), (112, V (w64 (a0.At + 1))), (110, Pt b1 0), (109, Pt b1 0)] ?_
 obtain ⟨r230, hx231, hm⟩ := obind hm
 have hF237 : St _ _ _ _ _ _ ([.blk b1 (K52 v3 v5 a0), .gs v5 c6 (csz api_Token)] ++ []) := ((hS181.front 1 rfl).front 1 rfl)
 obtain ⟨v232, h233, Z238, A240, hcl234, hSc235, rfl, rfl⟩ := correctorref6_scanner_rowEnd_ok F hF237.preL (q2.mono hS181.zle) (q4.mono hS181.zle) hx231
 have hZ239 := hSc235.zle
 have hS236 := hF237.call hSc235
 replace hS236 : St _ _ _ _ _ _ [.blk b1 (K52 v3 v5 a0), .gs v5 c6 (csz api_Token)] := hS236
 refine r_step rfl trivial (o_call hcl234 rfl rfl rfl) ?_
 obtain ⟨r241, hx242, hm⟩ := obind hm
 have hF248 : St _ _ _ _ _ _ ([.blk b1 (K52 v3 v5 a0), .gs v5 c6 (csz api_Token)] ++ []) := ((hS236.front 1 rfl).front 1 rfl)
 obtain ⟨v243, h244, Z249, A251, hcl245, hSc246, rfl, rfl⟩ := correctorref6_scanner_single_ok F hF248.preL (q2.mono (hS181.zle.trans hZ239)) (q4.mono (hS181.zle.trans hZ239)) hx242
 have hZ250 := hSc246.zle
 have hS247 := hF248.call hSc246
 replace hS247 : St _ _ _ _ _ _ [.blk b1 (K52 v3 v5 a0), .gs v5 c6 (csz api_Token)] := hS247
 refine r_step rfl trivial (o_call hcl245 rfl rfl rfl) ?_
 obtain ⟨r252, hx253, hm⟩ := obind hm
 have hF259 : St _ _ _ _ _ _ ([.blk b1 (K52 v3 v5 a0), .gs v5 c6 (csz api_Token)] ++ []) := ((hS247.front 1 rfl).front 1 rfl)
 obtain ⟨v254, h255, Z260, A262, hcl256, hSc257, v264, v266, c267, rfl, rfl, q263, q265⟩ := correctorref6_scanner_add_ok F hF259.preL (q2.mono (hS181.zle.trans (hZ239.trans hZ250))) (q4.mono (hS181.zle.trans (hZ239.trans hZ250))) hx253
 have hZ261 := hSc257.zle
 have hS258 := hF259.call hSc257
 replace hS258 : St _ _ _ _ _ _ [.blk b1 (K52 v264 v266 r252), .gs v266 c267 (csz api_Token)] := hS258
 refine r_step rfl trivial (o_call hcl256 rfl rfl rfl) ?_
 refine xf [] ?_
 obtain rfl := si hm
 refine ⟨_, _, _, ResL.nil, hS258, ?_⟩
 exact ⟨v264, v266, c267, rfl, rfl, q263, q265⟩
 refine r_step rfl trivial (o_cmp rfl rfl (c_eql_F hp229)) ?_
 refine xe 1 [(106, .bool false), (0, Pt b1 0), (2, .int .u8 (x19.toNat : Int)), (3, V a0.At), (4, .int .i32 r30.1)] ?_
 refine cF 106 rfl ?_
 refine sr r21_17 ?_
 refine xq 1 [(119, .int .u8 (x19.toNat : Int)), (0, Pt b1 0), (3, V a0.At), (4, .int .i32 r30.1)] ?_
 rcases ifs hm with ⟨hp269, hm⟩ | ⟨hp269, hm⟩
 refine r_step rfl trivial (o_cmp rfl rfl (c_eql_T hp269)) ?_
 refine xe 1 [(118, .bool true), (0, Pt b1 0), (3, V a0.At), (4, .int .i32 r30.1)] ?_
 refine cT 118 rfl ?_
 refine rg r21_18 ?_
 refine xq 6 [(126, V a0.At), (125, Pt b1 0), (124, V (w64 (a0.At + 1))), (122, Pt b1 0), (121, Pt b1 0), (0, Pt b1 0), (3, V a0.At)] ?_
 obtain ⟨r270, hx271, hm⟩ := obind hm
 have hF277 : St _ _ _ _ _ _ ([.blk b1 (K52 v3 v5 a0), .gs v5 c6 (csz api_Token)] ++ []) := ((hS181.front 1 rfl).front 1 rfl)
 obtain ⟨v272, h273, Z278, A280, hcl274, hSc275, rfl, rfl⟩ := correctorref6_scanner_rowEnd_ok F hF277.preL (q2.mono hS181.zle) (q4.mono hS181.zle) hx271
 have hZ279 := hSc275.zle
 have hS276 := hF277.call hSc275
 replace hS276 : St _ _ _ _ _ _ [.blk b1 (K52 v3 v5 a0), .gs v5 c6 (csz api_Token)] := hS276
 refine r_step rfl trivial (o_call hcl274 rfl rfl rfl) ?_
 obtain ⟨r281, hx282, hm⟩ := obind hm
 have hF288 : St _ _ _ _ _ _ ([.blk b1 (K52 v3 v5 a0), .gs v5 c6 (csz api_Token)] ++ []) := ((hS276.front 1 rfl).front 1 rfl)
 obtain ⟨v283, h284, Z289, A291, hcl285, hSc286, rfl, rfl⟩ := correctorref6_scanner_double_ok F hF288.preL (q2.mono (hS181.zle.trans hZ279)) (q4.mono (hS181.zle.trans hZ279)) hx282
 have hZ290 := hSc286.zle
 have hS287 := hF288.call hSc286
 replace hS287 : St _ _ _ _ _ _ [.blk b1 (K52 v3 v5 a0), .gs v5 c6 (csz api_Token)] := hS287
 refine r_step rfl trivial (o_call hcl285 rfl rfl rfl) ?_
 refine xq 2 [(130, V a0.At), (129, Pt b1 0), (128, V r281), (121, Pt b1 0)] ?_
 obtain ⟨r292, hx293, hm⟩ := obind hm
 have hF299 : St _ _ _ _ _ _ ([.blk b1 (K52 v3 v5 a0), .gs v5 c6 (csz api_Token)] ++ []) := ((hS287.front 1 rfl).front 1 rfl)
 obtain ⟨v294, h295, Z300, A302, hcl296, hSc297, rfl, rfl⟩ := correctorref6_scanner_rowEnd_ok F hF299.preL (q2.mono (hS181.zle.trans (hZ279.trans hZ290))) (q4.mono (hS181.zle.trans (hZ279.trans hZ290))) hx293
 have hZ301 := hSc297.zle
 have hS298 := hF299.call hSc297
 replace hS298 : St _ _ _ _ _ _ [.blk b1 (K52 v3 v5 a0), .gs v5 c6 (csz api_Token)] := hS298
 refine r_step rfl trivial (o_call hcl296 rfl rfl rfl) ?_
 refine xq 1 [(132, V (imin r281 r292)), (121, Pt b1 0)] ?_
 obtain ⟨r303, hx304, hm⟩ := obind hm
 have hF310 : St _ _ _ _ _ _ ([.blk b1 (K52 v3 v5 a0), .gs v5 c6 (csz api_Token)] ++ []) := ((hS298.front 1 rfl).front 1 rfl)
 obtain ⟨v305, h306, Z311, A313, hcl307, hSc308, v315, v317, c318, rfl, rfl, q314, q316⟩ := correctorref6_scanner_add_ok F hF310.preL (q2.mono (hS181.zle.trans (hZ279.trans (hZ290.trans hZ301)))) (q4.mono (hS181.zle.trans (hZ279.trans (hZ290.trans hZ301)))) hx304
 have hZ312 := hSc308.zle
 have hS309 := hF310.call hSc308
 replace hS309 : St _ _ _ _ _ _ [.blk b1 (K52 v315 v317 r303), .gs v317 c318 (csz api_Token)] := hS309
 refine r_step rfl trivial (o_call hcl307 rfl rfl rfl) ?_
 refine xf [] ?_
 obtain rfl := si hm
 refine ⟨_, _, _, ResL.nil, hS309, ?_⟩
 exact ⟨v315, v317, c318, rfl, rfl, q314, q316⟩
 refine r_step rfl trivial (o_cmp rfl rfl (c_eql_F hp269)) ?_
 refine xe 1 [(118, .bool false), (0, Pt b1 0), (3, V a0.At), (4, .int .i32 r30.1)] ?_
 refine cF 118 rfl ?_
 refine sr r21_19 ?_
 refine xq 1 [(135, Pt b1 0), (0, Pt b1 0), (3, V a0.At), (4, .int .i32 r30.1)] ?_
 obtain ⟨r331, hx332, hm⟩ := obind hm
 have hF338 : St _ _ _ _ _ _ ([.blk b1 (K52 v3 v5 a0), .gs v5 c6 (csz api_Token)] ++ []) := ((hS181.front 1 rfl).front 1 rfl)
 obtain ⟨v333, h334, Z339, A341, hcl335, hSc336, rfl, rfl⟩ := correctorref6_scanner_head_ok F hF338.preL (q2.mono hS181.zle) (q4.mono hS181.zle) hx332
 have hZ340 := hSc336.zle
 have hS337 := hF338.call hSc336
 replace hS337 : St _ _ _ _ _ _ [.blk b1 (K52 v3 v5 a0), .gs v5 c6 (csz api_Token)] := hS337
 refine r_step rfl trivial (o_call hcl335 rfl rfl rfl) ?_
 rcases ifs hm with ⟨hp342, hm⟩ | ⟨hp342, hm⟩
 refine r_step rfl trivial (o_cmp rfl rfl (c_gtr_T hp342)) ?_
 refine xe 1 [(134, .bool true), (0, Pt b1 0), (3, V a0.At), (4, .int .i32 r30.1)] ?_
 refine cT 134 rfl ?_
 refine sr r21_20 ?_
 refine xq 4 [(141, Pt b1 4), (138, Pt b1 0), (0, Pt b1 0), (3, V a0.At)] ?_
 refine r_step rfl trivial (o_ldb (v := V a0.Base) hS337 (i := 0) rfl rfl (by kernel_rfl)) ?_
 refine xq 2 [(144, Pt b1 6), (142, V a0.Base), (0, Pt b1 0), (3, V a0.At)] ?_
 refine r_ex1 rfl trivial (o_stb (vs := [V a0.Base]) (cells' := [v3, V a0.At, V a0.Row, V a0.Open, V a0.Base, .bool a0.Only, V a0.Base, v5]) (L' := [.blk b1 [v3, V a0.At, V a0.Row, V a0.Open, V a0.Base, .bool a0.Only, V a0.Base, v5], .gs v5 c6 (csz api_Token)]) hS337 (i := 0) rfl rfl rfl rfl (by kernel_rfl) rfl rfl rfl rfl) ?_
 intro h343 hS344
 refine xf [(0, Pt b1 0), (3, V a0.At)] ?_
 refine sq ?_
 obtain ⟨o350, ho349, hm⟩ := obind hm
 refine W_seqJoin0 [0, 3] (fun l h => ∃ Z354 : Zn, ∃ x355 : correctorref6_scanner, ∃ v357 : Value, ∃ c359 : List Value, x355 = o350 ∧ RS (α := UInt8) Z354 v357 x355.B ∧ RCs (α := api_Token) Z354 c359 x355.L ∧ l = [(0, Pt b1 0), (3, V a0.At)] ∧ St hs (idsL [.blk b1 (K52 v3 v5 a0), .gs v5 c6 (csz api_Token)]) Z (0, 0) Z354 h [.blk b1 (K52 v357 v5 x355), .gs v5 c359 (csz api_Token)]) (by kernel_rfl) ?_ ?_
 rintro l h360 ⟨Z354, x355, v357, c359, rfl, q356, q358, rfl, hS361⟩
 try dsimp only at hm
 refine rg r21_23 ?_
 refine xq 3 [(162, Pt b1 0), (161, V a0.At), (160, Pt b1 0)] ?_
 obtain ⟨r362, hx363, hm⟩ := obind hm
 have hF369 : St _ _ _ _ _ _ ([.blk b1 (K52 v357 v5 x355), .gs v5 c359 (csz api_Token)] ++ []) := ((hS361.front 1 rfl).front 1 rfl)
 obtain ⟨v364, h365, Z370, A372, hcl366, hSc367, rfl, rfl⟩ := correctorref6_scanner_head_ok F hF369.preL q356 q358 hx363
 have hZ371 := hSc367.zle
 have hS368 := hF369.call hSc367
 replace hS368 : St _ _ _ _ _ _ [.blk b1 (K52 v357 v5 x355), .gs v5 c359 (csz api_Token)] := hS368
 refine r_step rfl trivial (o_call hcl366 rfl rfl rfl) ?_
 refine xq 1 [(164, V (w64 (a0.At + r362))), (160, Pt b1 0)] ?_
 obtain ⟨r373, hx374, hm⟩ := obind hm
 have hF380 : St _ _ _ _ _ _ ([.blk b1 (K52 v357 v5 x355), .gs v5 c359 (csz api_Token)] ++ []) := ((hS368.front 1 rfl).front 1 rfl)
 obtain ⟨v375, h376, Z381, A383, hcl377, hSc378, v385, v387, c388, rfl, rfl, q384, q386⟩ := correctorref6_scanner_add_ok F hF380.preL (q356.mono hZ371) (q358.mono hZ371) hx374
 have hZ382 := hSc378.zle
 have hS379 := hF380.call hSc378
 replace hS379 : St _ _ _ _ _ _ [.blk b1 (K52 v385 v387 r373), .gs v387 c388 (csz api_Token)] := hS379
 refine r_step rfl trivial (o_call hcl377 rfl rfl rfl) ?_
 refine xf [] ?_
 obtain rfl := si hm
 refine ⟨_, _, _, ResL.nil, hS379, ?_⟩
 exact ⟨v385, v387, c388, rfl, rfl, q384, q386⟩
 refine rg r21_21 ?_
 refine xq 3 [(147, Pt b1 4), (0, Pt b1 0), (3, V a0.At)] ?_
 refine r_step rfl trivial (o_ldb (v := V a0.Base) hS344 (i := 0) rfl rfl (by kernel_rfl)) ?_
 rcases ifs ho349 with ⟨hp351, ho349⟩ | ⟨hp351, ho349⟩
 refine r_step rfl trivial (o_cmp rfl rfl (c_lss_T hp351)) ?_
 refine xf [(149, .bool true), (0, Pt b1 0), (3, V a0.At)] ?_
 refine cT 149 rfl ?_
 refine rg r21_22 ?_
 refine xq 5 [(154, Pt b1 2), (151, V a0.At), (150, Pt b1 0), (0, Pt b1 0), (3, V a0.At)] ?_
 refine r_step rfl trivial (o_ldb (v := V a0.Row) hS344 (i := 0) rfl rfl (by kernel_rfl)) ?_
 refine xq 4 [(159, Pt b1 6), (157, V (w64 ((w64 (a0.At - a0.Row)) - 1))), (0, Pt b1 0), (3, V a0.At)] ?_
 refine r_ex1 rfl trivial (o_stb (vs := [V (w64 ((w64 (a0.At - a0.Row)) - 1))]) (cells' := [v3, V a0.At, V a0.Row, V a0.Open, V a0.Base, .bool a0.Only, V (w64 ((w64 (a0.At - a0.Row)) - 1)), v5]) (L' := [.blk b1 [v3, V a0.At, V a0.Row, V a0.Open, V a0.Base, .bool a0.Only, V (w64 ((w64 (a0.At - a0.Row)) - 1)), v5], .gs v5 c6 (csz api_Token)]) hS344 (i := 0) rfl rfl rfl rfl (by kernel_rfl) rfl rfl rfl rfl) ?_
 intro h352 hS353
 refine xf [(0, Pt b1 0), (3, V a0.At)] ?_
 obtain rfl := si ho349
 exact ⟨_, (⟨a0.B, a0.At, a0.Row, a0.Open, a0.Base, a0.Only, w64 ((w64 (a0.At - a0.Row)) - 1), a0.L⟩ : correctorref6_scanner), v3, c6, rfl, (q2.mono (hS181.zle.trans hZ340)), (q4.mono (hS181.zle.trans hZ340)), rfl, hS353⟩
 refine r_step rfl trivial (o_cmp rfl rfl (c_lss_F hp351)) ?_
 refine xf [(149, .bool false), (0, Pt b1 0), (3, V a0.At)] ?_
 refine kF 149 rfl ?_
 obtain rfl := si ho349
 exact ⟨_, (⟨a0.B, a0.At, a0.Row, a0.Open, a0.Base, a0.Only, a0.Base, a0.L⟩ : correctorref6_scanner), v3, c6, rfl, (q2.mono (hS181.zle.trans hZ340)), (q4.mono (hS181.zle.trans hZ340)), rfl, hS344⟩
 refine r_step rfl trivial (o_cmp rfl rfl (c_gtr_F hp342)) ?_
 refine xe 1 [(134, .bool false), (0, Pt b1 0), (3, V a0.At), (4, .int .i32 r30.1)] ?_
 refine cF 134 rfl ?_
 refine sr r21_24 ?_
 refine xq 1 [(167, .int .i32 r30.1), (0, Pt b1 0), (3, V a0.At)] ?_
 rcases ifs hm with ⟨hp394, hm⟩ | ⟨hp394, hm⟩
 refine r_step rfl trivial (o_cmp rfl rfl (c_lss_T hp394)) ?_
 refine xe 1 [(166, .bool true), (0, Pt b1 0), (3, V a0.At)] ?_
 refine cT 166 rfl ?_
 refine rg r21_25 ?_
 refine xq 3 [(171, V (w64 (a0.At + 1))), (169, Pt b1 0)] ?_
 obtain ⟨r395, hx396, hm⟩ := obind hm
 have hF402 : St _ _ _ _ _ _ ([.blk b1 (K52 v3 v5 a0), .gs v5 c6 (csz api_Token)] ++ []) := ((hS337.front 1 rfl).front 1 rfl)
 obtain ⟨v397, h398, Z403, A405, hcl399, hSc400, v407, v409, c410, rfl, rfl, q406, q408⟩ := correctorref6_scanner_add_ok F hF402.preL (q2.mono (hS181.zle.trans hZ340)) (q4.mono (hS181.zle.trans hZ340)) hx396
 have hZ404 := hSc400.zle
 have hS401 := hF402.call hSc400
 replace hS401 : St _ _ _ _ _ _ [.blk b1 (K52 v407 v409 r395), .gs v409 c410 (csz api_Token)] := hS401
 refine r_step rfl trivial (o_call hcl399 rfl rfl rfl) ?_
 refine xf [] ?_
 obtain rfl := si hm
 refine ⟨_, _, _, ResL.nil, hS401, ?_⟩
 exact ⟨v407, v409, c410, rfl, rfl, q406, q408⟩
 refine r_step rfl trivial (o_cmp rfl rfl (c_lss_F hp394)) ?_
 refine xe 1 [(166, .bool false), (0, Pt b1 0), (3, V a0.At)] ?_
 refine cF 166 rfl ?_
 refine rg r21_4 ?_
 refine xq 2 [(36, Pt b1 0), (35, Pt b1 0)] ?_
 obtain ⟨r411, hx412, hm⟩ := obind hm
 have hF418 : St _ _ _ _ _ _ ([.blk b1 (K52 v3 v5 a0), .gs v5 c6 (csz api_Token)] ++ []) := ((hS337.front 1 rfl).front 1 rfl)
 obtain ⟨v413, h414, Z419, A421, hcl415, hSc416, rfl, rfl⟩ := correctorref6_scanner_plain_ok F hF418.preL (q2.mono (hS181.zle.trans hZ340)) (q4.mono (hS181.zle.trans hZ340)) hx412
 have hZ420 := hSc416.zle
 have hS417 := hF418.call hSc416
 replace hS417 : St _ _ _ _ _ _ [.blk b1 (K52 v3 v5 a0), .gs v5 c6 (csz api_Token)] := hS417
 refine r_step rfl trivial (o_call hcl415 rfl rfl rfl) ?_
 obtain ⟨r422, hx423, hm⟩ := obind hm
 have hF429 : St _ _ _ _ _ _ ([.blk b1 (K52 v3 v5 a0), .gs v5 c6 (csz api_Token)] ++ []) := ((hS417.front 1 rfl).front 1 rfl)
 obtain ⟨v424, h425, Z430, A432, hcl426, hSc427, v434, v436, c437, rfl, rfl, q433, q435⟩ := correctorref6_scanner_add_ok F hF429.preL (q2.mono (hS181.zle.trans (hZ340.trans hZ420))) (q4.mono (hS181.zle.trans (hZ340.trans hZ420))) hx423
 have hZ431 := hSc427.zle
 have hS428 := hF429.call hSc427
 replace hS428 : St _ _ _ _ _ _ [.blk b1 (K52 v434 v436 r422), .gs v436 c437 (csz api_Token)] := hS428
 refine r_step rfl trivial (o_call hcl426 rfl rfl rfl) ?_
 refine xf [] ?_
 obtain rfl := si hm
 refine ⟨_, _, _, ResL.nil, hS428, ?_⟩
 exact ⟨v434, v436, c437, rfl, rfl, q433, q435⟩
 refine rg r21_11 ?_
 refine xq 1 [(86, .int .u8 (x19.toNat : Int)), (0, Pt b1 0), (2, .int .u8 (x19.toNat : Int)), (3, V a0.At), (4, .int .i32 r30.1), (6, V r37)] ?_
 rcases ifs ho174 with ⟨hp176, ho174⟩ | ⟨hp176, ho174⟩
 refine r_step rfl trivial (o_cmp rfl rfl (c_eql_T hp176)) ?_
 refine xq 4 [(91, V (w64 (a0.At + 1))), (89, V r37), (88, .bool true), (0, Pt b1 0), (2, .int .u8 (x19.toNat : Int)), (3, V a0.At), (4, .int .i32 r30.1), (6, V r37)] ?_
 rcases ifs ho174 with ⟨hp177, ho174⟩ | ⟨hp177, ho174⟩
 refine r_step rfl rfl (o_cmp rfl rfl (c_gtr_T hp177)) ?_
 refine xe 2 [(85, .bool true), (0, Pt b1 0), (2, .int .u8 (x19.toNat : Int)), (3, V a0.At), (4, .int .i32 r30.1), (6, V r37)] ?_
 obtain rfl := si ho174
 exact ⟨_, true, rfl, rfl, hS152⟩
 refine r_step rfl rfl (o_cmp rfl rfl (c_gtr_F hp177)) ?_
 refine xe 2 [(85, .bool false), (0, Pt b1 0), (2, .int .u8 (x19.toNat : Int)), (3, V a0.At), (4, .int .i32 r30.1), (6, V r37)] ?_
 obtain rfl := si ho174
 exact ⟨_, false, rfl, rfl, hS152⟩
 refine r_step rfl trivial (o_cmp rfl rfl (c_eql_F hp176)) ?_
 refine xe 7 [(85, .bool false), (0, Pt b1 0), (2, .int .u8 (x19.toNat : Int)), (3, V a0.At), (4, .int .i32 r30.1), (6, V r37)] ?_
 obtain rfl := si ho174
 exact ⟨_, false, rfl, rfl, hS152⟩
 refine rg r21_9 ?_
 refine xq 1 [(74, .int .u8 (x19.toNat : Int)), (0, Pt b1 0), (2, .int .u8 (x19.toNat : Int)), (3, V a0.At), (4, .int .i32 r30.1), (6, V r37)] ?_
 rcases ifs ho145 with ⟨hp147, ho145⟩ | ⟨hp147, ho145⟩
 refine r_step rfl trivial (o_cmp rfl rfl (c_eql_T hp147)) ?_
 refine xq 4 [(79, V (w64 (a0.At + 1))), (77, V r37), (76, .bool true), (0, Pt b1 0), (2, .int .u8 (x19.toNat : Int)), (3, V a0.At), (4, .int .i32 r30.1), (6, V r37)] ?_
 rcases ifs ho145 with ⟨hp148, ho145⟩ | ⟨hp148, ho145⟩
 refine r_step rfl rfl (o_cmp rfl rfl (c_gtr_T hp148)) ?_
 refine xe 2 [(73, .bool true), (0, Pt b1 0), (2, .int .u8 (x19.toNat : Int)), (3, V a0.At), (4, .int .i32 r30.1), (6, V r37)] ?_
 obtain rfl := si ho145
 exact ⟨_, true, rfl, rfl, hS119⟩
 refine r_step rfl rfl (o_cmp rfl rfl (c_gtr_F hp148)) ?_
 refine xe 2 [(73, .bool false), (0, Pt b1 0), (2, .int .u8 (x19.toNat : Int)), (3, V a0.At), (4, .int .i32 r30.1), (6, V r37)] ?_
 obtain rfl := si ho145
 exact ⟨_, false, rfl, rfl, hS119⟩
 refine r_step rfl trivial (o_cmp rfl rfl (c_eql_F hp147)) ?_
 refine xe 7 [(73, .bool false), (0, Pt b1 0), (2, .int .u8 (x19.toNat : Int)), (3, V a0.At), (4, .int .i32 r30.1), (6, V r37)] ?_
 obtain rfl := si ho145
 exact ⟨_, false, rfl, rfl, hS119⟩
 refine rg r21_5 ?_
 refine xq 1 [(40, .int .u8 (x19.toNat : Int)), (6, V r37), (4, .int .i32 r30.1), (3, V a0.At), (2, .int .u8 (x19.toNat : Int)), (0, Pt b1 0)] ?_
 rcases ifs ho76 with ⟨hp78, ho76⟩ | ⟨hp78, ho76⟩
 refine r_step rfl trivial (o_cmp rfl rfl (c_eql_T hp78)) ?_
 refine xq 4 [(45, Pt b1 3), (42, .bool true), (6, V r37), (4, .int .i32 r30.1), (3, V a0.At), (2, .int .u8 (x19.toNat : Int)), (0, Pt b1 0)] ?_
 refine r_step rfl rfl (o_ldb (v := V a0.Open) hS43 (i := 0) rfl rfl (by kernel_rfl)) ?_
 rcases ifs ho76 with ⟨hp79, ho76⟩ | ⟨hp79, ho76⟩
 refine r_step rfl rfl (o_cmp rfl rfl (c_eql_T hp79)) ?_
 refine xq 5 [(52, Pt b1 5), (49, .bool true), (6, V r37), (4, .int .i32 r30.1), (3, V a0.At), (2, .int .u8 (x19.toNat : Int)), (0, Pt b1 0)] ?_
 refine r_step rfl rfl (o_ldb (v := .bool a0.Only) hS43 (i := 0) rfl rfl (by kernel_rfl)) ?_
 refine xq 2 [(55, .bool a0.Only), (6, V r37), (4, .int .i32 r30.1), (3, V a0.At), (2, .int .u8 (x19.toNat : Int)), (0, Pt b1 0)] ?_
 rcases ifs ho76 with ⟨hp80, ho76⟩ | ⟨hp80, ho76⟩
 refine r_setb (t := 55) rfl hp80 ?_
 refine xq 3 [(58, V (w64 (a0.At + 1))), (56, Pt b1 0), (55, .bool true), (6, V r37), (4, .int .i32 r30.1), (3, V a0.At), (2, .int .u8 (x19.toNat : Int)), (0, Pt b1 0)] ?_
 obtain ⟨r81, hx82, ho76⟩ := obind ho76
 have hF88 : St _ _ _ _ _ _ ([.blk b1 (K52 v3 v5 a0), .gs v5 c6 (csz api_Token)] ++ []) := ((hS43.front 1 rfl).front 1 rfl)
 obtain ⟨v83, h84, Z89, A91, hcl85, hSc86, rfl, rfl⟩ := correctorref6_scanner_ended_ok F hF88.preL (q2.mono hZ46) (q4.mono hZ46) hx82
 have hZ90 := hSc86.zle
 have hS87 := hF88.call hSc86
 replace hS87 : St _ _ _ _ _ _ [.blk b1 (K52 v3 v5 a0), .gs v5 c6 (csz api_Token)] := hS87
 refine r_step rfl rfl (o_call hcl85 rfl rfl rfl) ?_
 refine xe 2 [(39, .bool r81), (6, V r37), (4, .int .i32 r30.1), (3, V a0.At), (2, .int .u8 (x19.toNat : Int)), (0, Pt b1 0)] ?_
 obtain rfl := si ho76
 exact ⟨_, r81, rfl, rfl, hS87⟩
 refine r_setb (t := 55) rfl (Bool.eq_false_iff.2 hp80) ?_
 refine xe 6 [(39, .bool false), (6, V r37), (4, .int .i32 r30.1), (3, V a0.At), (2, .int .u8 (x19.toNat : Int)), (0, Pt b1 0)] ?_
 obtain rfl := si ho76
 exact ⟨_, false, rfl, rfl, hS43⟩
 refine r_step rfl rfl (o_cmp rfl rfl (c_eql_F hp79)) ?_
 refine xe 14 [(39, .bool false), (6, V r37), (4, .int .i32 r30.1), (3, V a0.At), (2, .int .u8 (x19.toNat : Int)), (0, Pt b1 0)] ?_
 obtain rfl := si ho76
 exact ⟨_, false, rfl, rfl, hS43⟩
 refine r_step rfl trivial (o_cmp rfl rfl (c_eql_F hp78)) ?_
 refine xe 20 [(39, .bool false), (6, V r37), (4, .int .i32 r30.1), (3, V a0.At), (2, .int .u8 (x19.toNat : Int)), (0, Pt b1 0)] ?_
 obtain rfl := si ho76
 exact ⟨_, false, rfl, rfl, hS43⟩

def r10_0 : List COp := [u 2 (.assign (.const (.slice none 0 0)))]
def r10_1 : List COp := [u 5 (mv 0), u 6 (cb .len #[(t 5)] #[24]), u 7 (bc .gtr 3 6 16384 3)]
def r10_2 : List COp := [u 2 (.assign (.const (.slice none 0 0)))]
def r10_3 : List COp := [u 8 (mv 0), u 9 (.build 52 #[(0, (t 8)), (6, (ci (-2)))]), u 10 (.box 52 (t 9)), u 3 (sg 10)]
def r10_4 : List COp := [u 11 (mv 3), u 12 (cf 16 #[(t 11)] #[50])]
def r10_5 : List COp := [u 13 (mv 3), u 14 (nk 13), u 15 (fa 52 14 1), u 16 (ld 3 15), u 17 (mv 0), u 18 (cb .len #[(t 17)] #[24]), u 19 (bo .lss 3 16 18 3)]
def r10_6 : List COp := [u 4 (.assign (ci 0))]
def r10_7 : List COpF := [uP 20 (mv 3), uP 21 (nk 20), uP 22 (fa 52 21 1), uL 23 (ld 3 22), uP 24 (mv 3), uP 25 (nk 24), uP 26 (fa 52 25 2), uL 27 (ld 3 26), uP 28 (bo .eql 3 23 27 3)]
def r10_8 : List COp := [u 29 (mv 3), u 30 (mv 3), u 31 (nk 30), u 32 (fa 52 31 1), u 33 (ld 3 32), u 34 (cf 17 #[(t 29), (t 33)] #[50, 3]), u 4 (sg 34)]
def r10_9 : List COp := [u 35 (mv 4), u 36 (bc .gtr 3 35 0 3)]
def r10_10 : List COp := [u 37 (mv 3), u 38 (mv 4), u 39 (mv 3), u 40 (nk 39), u 41 (fa 52 40 1), u 42 (ld 3 41), u 43 (bc .add 3 42 3 3), u 44 (cf 18 #[(t 37), (t 38), (t 43)] #[50, 3, 3])]
def r10_11 : List COp := [u 45 (mv 3), u 46 (nk 45), u 47 (fa 52 46 3), o (.store 3 (t 47) (ci 0))]
def r10_12 : List COp := [u 48 (mv 3), u 49 (cf 19 #[(t 48)] #[50]), u 50 (.unOp .not 4 (t 49)), u 51 (mv 50), gt 51 52 (mv 3), gt 51 53 (cf 20 #[(t 52)] #[50]), gt 51 54 (.unOp .not 4 (t 53)), u 55 (pf 51 54)]
def r10_13 : List COp := [u 56 (mv 3), u 57 (cf 21 #[(t 56)] #[50])]
def r10_14 : List COp := [u 58 (mv 3), u 59 (nk 58), u 60 (fa 52 59 7), u 61 (ld 25 60), u 2 (sg 61)]
def correctorref6_Tokens_l0 (F : Nat) (a0 : List UInt8) : Nat → correctorref6_scanner → Option correctorref6_scanner
 | 0, _ => none
 | n + 1, x206 =>
  if x206.At < (a0.length : Int) then
   ((if x206.At = x206.Row then
     (correctorref6_scanner_mark F x206 x206.At).bind fun r248 =>
     some (x206, r248)
    else
     some (x206, 0)) : Option (correctorref6_scanner × Int)).bind fun o => match o with
    | (x262, x268) => if (0 : Int) < x268 then
     (correctorref6_scanner_add F x262 x268 (w64 (x262.At + 3))).bind fun r330 =>
     correctorref6_Tokens_l0 F a0 n (⟨r330.B, r330.At, r330.Row, 0, r330.Base, r330.Only, r330.Text, r330.L⟩ : correctorref6_scanner)
    else
     (correctorref6_scanner_space F x262).bind fun r348 =>
     if r348.1 = true then
      correctorref6_Tokens_l0 F a0 n r348.2
     else
      (correctorref6_scanner_bracket F r348.2).bind fun r365 =>
      if r365.1 = true then
       correctorref6_Tokens_l0 F a0 n r365.2
      else
       (correctorref6_scanner_word F r365.2).bind fun r382 =>
       correctorref6_Tokens_l0 F a0 n r382
  else
   some x206
def correctorref6_Tokens (F : Nat) (a0 : List UInt8) : Option (List api_Token) :=
 if (16384 : Int) < (a0.length : Int) then
  some []
 else
  (correctorref6_scanner_next F (⟨a0, 0, 0, 0, 0, false, (-2), []⟩ : correctorref6_scanner)).bind fun r16 =>
  ((correctorref6_Tokens_l0 F a0 F r16) : Option correctorref6_scanner).bind fun o => match o with
   | x415 => some x415.L
theorem correctorref6_Tokens_ok (F : Nat) {h : AH} {Z : Zn} {a0 : List UInt8} {v2 : Value} (hP : Pre Z h []) (q1 : RS (α := UInt8) Z v2 a0) {r : (List api_Token)} (hm : correctorref6_Tokens F a0 = some r) :
  ∃ v h' Z' A', callI Try.prog 10 [v2] h = some (v, h') ∧ St h (idsL []) Z (0, 0) Z' h' A' ∧ ∃ v4 : Value, ∃ c5 : List Value, v4 = v ∧ A' = [.gs v4 c5 (csz api_Token)] ∧ RCs (α := api_Token) Z' c5 r := by
 refine fn_intro (A := []) (Q := fun v Z' A' => ∃ v4 : Value, ∃ c5 : List Value, v4 = v ∧ A' = [.gs v4 c5 (csz api_Token)] ∧ RCs (α := api_Token) Z' c5 r) Try.func10 rfl rfl (by kernel_rfl) hP ?_
 intro hs hS
 unfold correctorref6_Tokens at hm
 replace hS : St hs [] Z (0, 0) Z hs [] := hS
 refine sr r10_0 ?_
 refine xe 1 [(0, v2)] ?_
 refine sq ?_
 refine sr r10_1 ?_
 refine xq 1 [(5, v2), (0, v2)] ?_
 refine r_step rfl trivial (o_len rfl (RS.len q1) ⟨_, Try.underlying24⟩) ?_
 rcases ifs hm with ⟨hp8, hm⟩ | ⟨hp8, hm⟩
 refine r_step rfl trivial (o_cmp rfl rfl (c_gtr_T hp8)) ?_
 refine xf [(7, .bool true), (0, v2)] ?_
 refine cT 7 rfl ?_
 refine sr r10_2 ?_
 refine xe 1 [(2, .slice none 0 0)] ?_
 refine rt ?_
 refine ⟨rfl, ?_⟩
 have hS9 := hS.nilGs (csz api_Token)
 obtain rfl := si hm
 refine ⟨_, _, _, ResL.tmp rfl (ResL.nil), hS9, ?_⟩
 exact ⟨(.slice none 0 0), [], rfl, rfl, (RCs.nil0 _)⟩
 refine r_step rfl trivial (o_cmp rfl rfl (c_gtr_F hp8)) ?_
 refine xf [(7, .bool false), (0, v2)] ?_
 refine kF 7 rfl ?_
 refine sr r10_3 ?_
 refine xq 1 [(8, v2), (0, v2)] ?_
 refine r_step rfl trivial (o_build (v := .agg #[v2, V 0, V 0, V 0, V 0, .bool false, V (-2), .slice none 0 0]) rfl (CA.cons (cs := [v2]) (RS.cell1 q1) (CA.cons (cs := [V (-2)]) rfl (CA.nil0))) (by kernel_rfl)) ?_
 refine r_blk rfl trivial (o_box (cs := [v2, V 0, V 0, V 0, V 0, .bool false, V (-2), .slice none 0 0]) rfl rfl) hS ?_
 intro b11 h12 hS13
 refine xe 1 [(3, Pt b11 0), (0, v2)] ?_
 refine sr r10_4 ?_
 refine xq 1 [(11, Pt b11 0), (3, Pt b11 0), (0, v2)] ?_
 have hS14 := hS13.nilGs (csz api_Token)
 obtain ⟨r16, hx17, hm⟩ := obind hm
 have hF23 : St _ _ _ _ _ _ ([.blk b11 [v2, V 0, V 0, V 0, V 0, .bool false, V (-2), .slice none 0 0], .gs (.slice none 0 0) [] (csz api_Token)] ++ []) := ((hS14.front 0 rfl).front 1 rfl)
 obtain ⟨v18, h19, Z24, A26, hcl20, hSc21, v28, c30, rfl, rfl, q27, q29⟩ := correctorref6_scanner_next_ok F hF23.preL q1 (RCs.nil0 _) hx17
 have hZ25 := hSc21.zle
 have hS22 := hF23.call hSc21
 replace hS22 : St _ _ _ _ _ _ [.blk b11 (K52 v28 (.slice none 0 0) r16), .gs (.slice none 0 0) c30 (csz api_Token)] := hS22
 refine r_step rfl trivial (o_call hcl20 rfl rfl rfl) ?_
 refine xf [(3, Pt b11 0), (0, v2)] ?_
 refine sq ?_
 obtain ⟨o203, ho202, hm⟩ := obind hm
 refine W_join [3] (fun l h => ∃ Z413 : Zn, ∃ x415 : correctorref6_scanner, ∃ b414 : Nat, ∃ v417 : Value, ∃ v419 : Value, ∃ c420 : List Value, x415 = o203 ∧ RS (α := UInt8) Z413 v417 x415.B ∧ RCs (α := api_Token) Z413 c420 x415.L ∧ l = [(3, Pt b414 0)] ∧ St hs [] Z (0, 0) Z413 h [.blk b414 (K52 v417 v419 x415), .gs v419 c420 (csz api_Token)]) ?_ ?_
 rintro l h421 ⟨Z413, x415, b414, v417, v419, c420, rfl, q416, q418, rfl, hS422⟩
 try dsimp only at hm
 refine sr r10_14 ?_
 refine xq 3 [(60, Pt b414 7)] ?_
 refine r_step rfl trivial (o_ldb (v := v419) hS422 (i := 0) rfl rfl (by kernel_rfl)) ?_
 refine xe 1 [(2, v419)] ?_
 refine rt ?_
 refine ⟨rfl, ?_⟩
 obtain rfl := si hm
 refine ⟨_, _, _, ResL.tmp rfl (ResL.nil), ((hS422.front 1 rfl).takeN 1), ?_⟩
 exact ⟨v419, c420, rfl, rfl, q418⟩
 refine bk 0 ?_
 refine lp [0, 3] (fun n l h => ∃ Z204 : Zn, ∃ x206 : correctorref6_scanner, ∃ b205 : Nat, ∃ v208 : Value, ∃ v210 : Value, ∃ c211 : List Value, correctorref6_Tokens_l0 F a0 n x206 = some o203 ∧ RS (α := UInt8) Z204 v208 x206.B ∧ RCs (α := api_Token) Z204 c211 x206.L ∧ l = [(0, v2), (3, Pt b205 0)] ∧ St hs [] Z (0, 0) Z204 h [.blk b205 (K52 v208 v210 x206), .gs v210 c211 (csz api_Token)]) F ⟨_, r16, b11, v28, (.slice none 0 0), c30, ho202, q27, q29, rfl, hS22⟩ ?_
 rintro n214 l h212 ⟨Z204, x206, b205, v208, v210, c211, ho202, q207, q209, rfl, hS213⟩
 rcases n214 with _ | n214
 cases (show none = some o203 from ho202)
 rw [correctorref6_Tokens_l0] at ho202
 refine sq ?_
 refine sr r10_5 ?_
 refine xq 3 [(15, Pt b205 1), (0, v2), (3, Pt b205 0)] ?_
 refine r_step rfl trivial (o_ldb (v := V x206.At) hS213 (i := 0) rfl rfl (by kernel_rfl)) ?_
 refine xq 1 [(17, v2), (16, V x206.At), (0, v2), (3, Pt b205 0)] ?_
 refine r_step rfl trivial (o_len rfl (RS.len (q1.mono hS213.zle)) ⟨_, Try.underlying24⟩) ?_
 rcases ifs ho202 with ⟨hp217, ho202⟩ | ⟨hp217, ho202⟩
 refine r_step rfl trivial (o_cmp rfl rfl (c_lss_T hp217)) ?_
 refine xf [(19, .bool true), (0, v2), (3, Pt b205 0)] ?_
 refine kT 19 rfl ?_
 refine bk 1 ?_
 refine sr r10_6 ?_
 refine xe 1 [(4, V 0), (0, v2), (3, Pt b205 0)] ?_
 refine sq ?_
 obtain ⟨o239, ho238, ho202⟩ := obind ho202
 refine W_join [0, 3, 4] (fun l h => ∃ Z260 : Zn, ∃ x262 : correctorref6_scanner, ∃ x268 : Int, ∃ b261 : Nat, ∃ v264 : Value, ∃ v266 : Value, ∃ c267 : List Value, (x262, x268) = o239 ∧ RS (α := UInt8) Z260 v264 x262.B ∧ RCs (α := api_Token) Z260 c267 x262.L ∧ l = [(0, v2), (3, Pt b261 0), (4, V x268)] ∧ St hs [] Z (0, 0) Z260 h [.blk b261 (K52 v264 v266 x262), .gs v266 c267 (csz api_Token)]) ?_ ?_
 rintro l h269 ⟨Z260, x262, x268, b261, v264, v266, c267, rfl, q263, q265, rfl, hS270⟩
 try dsimp only at ho202
 refine sq ?_
 refine sr r10_9 ?_
 refine xq 1 [(35, V x268), (0, v2), (3, Pt b261 0), (4, V x268)] ?_
 rcases ifs ho202 with ⟨hp311, ho202⟩ | ⟨hp311, ho202⟩
 refine r_step rfl trivial (o_cmp rfl rfl (c_gtr_T hp311)) ?_
 refine xf [(36, .bool true), (0, v2), (3, Pt b261 0), (4, V x268)] ?_
 refine cT 36 rfl ?_
 refine sr r10_10 ?_
 refine xq 5 [(41, Pt b261 1), (38, V x268), (37, Pt b261 0), (0, v2), (3, Pt b261 0)] ?_
 refine r_step rfl trivial (o_ldb (v := V x262.At) hS270 (i := 0) rfl rfl (by kernel_rfl)) ?_
 refine xq 1 [(43, V (w64 (x262.At + 3))), (38, V x268), (37, Pt b261 0), (0, v2), (3, Pt b261 0)] ?_
 obtain ⟨r330, hx331, ho202⟩ := obind ho202
 have hF337 : St _ _ _ _ _ _ ([.blk b261 (K52 v264 v266 x262), .gs v266 c267 (csz api_Token)] ++ []) := ((hS270.front 1 rfl).front 1 rfl)
 obtain ⟨v332, h333, Z338, A340, hcl334, hSc335, v342, v344, c345, rfl, rfl, q341, q343⟩ := correctorref6_scanner_add_ok F hF337.preL q263 q265 hx331
 have hZ339 := hSc335.zle
 have hS336 := hF337.call hSc335
 replace hS336 : St _ _ _ _ _ _ [.blk b261 (K52 v342 v344 r330), .gs v344 c345 (csz api_Token)] := hS336
 refine r_step rfl trivial (o_call hcl334 rfl rfl rfl) ?_
 refine xf [(0, v2), (3, Pt b261 0)] ?_
 refine sr r10_11 ?_
 refine xq 3 [(47, Pt b261 3), (0, v2), (3, Pt b261 0)] ?_
 refine r_ex1 rfl trivial (o_stb (vs := [V 0]) (cells' := [v342, V r330.At, V r330.Row, V 0, V r330.Base, .bool r330.Only, V r330.Text, v344]) (L' := [.blk b261 [v342, V r330.At, V r330.Row, V 0, V r330.Base, .bool r330.Only, V r330.Text, v344], .gs v344 c345 (csz api_Token)]) hS336 (i := 0) rfl rfl rfl rfl (by kernel_rfl) rfl rfl rfl rfl) ?_
 intro h346 hS347
 refine xf [(0, v2), (3, Pt b261 0)] ?_
 refine xt 1 ?_
 refine blkX_hit ?_
 exact ⟨n214, Nat.lt_succ_self _, ⟨_, (⟨r330.B, r330.At, r330.Row, 0, r330.Base, r330.Only, r330.Text, r330.L⟩ : correctorref6_scanner), b261, v342, v344, c345, ho202, q341, q343, rfl, hS347⟩⟩
 refine r_step rfl trivial (o_cmp rfl rfl (c_gtr_F hp311)) ?_
 refine xf [(36, .bool false), (0, v2), (3, Pt b261 0), (4, V x268)] ?_
 refine kF 36 rfl ?_
 refine sr r10_12 ?_
 refine xq 1 [(48, Pt b261 0), (0, v2), (3, Pt b261 0)] ?_
 obtain ⟨r348, hx349, ho202⟩ := obind ho202
 have hF355 : St _ _ _ _ _ _ ([.blk b261 (K52 v264 v266 x262), .gs v266 c267 (csz api_Token)] ++ []) := ((hS270.front 1 rfl).front 1 rfl)
 obtain ⟨v350, h351, Z356, A358, hcl352, hSc353, v360, v362, c363, rfl, rfl, q359, q361⟩ := correctorref6_scanner_space_ok F hF355.preL q263 q265 hx349
 have hZ357 := hSc353.zle
 have hS354 := hF355.call hSc353
 replace hS354 : St _ _ _ _ _ _ [.blk b261 (K52 v360 v362 r348.2), .gs v362 c363 (csz api_Token)] := hS354
 refine r_step rfl trivial (o_call hcl352 rfl rfl rfl) ?_
 rcases ifs ho202 with ⟨hp364, ho202⟩ | ⟨hp364, ho202⟩
 refine r_setb (t := 49) rfl hp364 ?_
 refine xe 6 [(55, .bool false), (0, v2), (3, Pt b261 0)] ?_
 refine kF 55 rfl ?_
 exact ⟨n214, Nat.lt_succ_self _, ⟨_, r348.2, b261, v360, v362, c363, ho202, q359, q361, rfl, hS354⟩⟩
 refine r_setb (t := 49) rfl (Bool.eq_false_iff.2 hp364) ?_
 refine xq 3 [(52, Pt b261 0), (51, .bool true), (0, v2), (3, Pt b261 0)] ?_
 obtain ⟨r365, hx366, ho202⟩ := obind ho202
 have hF372 : St _ _ _ _ _ _ ([.blk b261 (K52 v360 v362 r348.2), .gs v362 c363 (csz api_Token)] ++ []) := ((hS354.front 1 rfl).front 1 rfl)
 obtain ⟨v367, h368, Z373, A375, hcl369, hSc370, v377, v379, c380, rfl, rfl, q376, q378⟩ := correctorref6_scanner_bracket_ok F hF372.preL q359 q361 hx366
 have hZ374 := hSc370.zle
 have hS371 := hF372.call hSc370
 replace hS371 : St _ _ _ _ _ _ [.blk b261 (K52 v377 v379 r365.2), .gs v379 c380 (csz api_Token)] := hS371
 refine r_step rfl rfl (o_call hcl369 rfl rfl rfl) ?_
 rcases ifs ho202 with ⟨hp381, ho202⟩ | ⟨hp381, ho202⟩
 refine r_setb (t := 53) rfl hp381 ?_
 refine xe 2 [(55, .bool false), (0, v2), (3, Pt b261 0)] ?_
 refine kF 55 rfl ?_
 exact ⟨n214, Nat.lt_succ_self _, ⟨_, r365.2, b261, v377, v379, c380, ho202, q376, q378, rfl, hS371⟩⟩
 refine r_setb (t := 53) rfl (Bool.eq_false_iff.2 hp381) ?_
 refine xe 2 [(55, .bool true), (0, v2), (3, Pt b261 0)] ?_
 refine cT 55 rfl ?_
 refine rg r10_13 ?_
 refine xq 1 [(56, Pt b261 0), (0, v2), (3, Pt b261 0)] ?_
 obtain ⟨r382, hx383, ho202⟩ := obind ho202
 have hF389 : St _ _ _ _ _ _ ([.blk b261 (K52 v377 v379 r365.2), .gs v379 c380 (csz api_Token)] ++ []) := ((hS371.front 1 rfl).front 1 rfl)
 obtain ⟨v384, h385, Z390, A392, hcl386, hSc387, v394, v396, c397, rfl, rfl, q393, q395⟩ := correctorref6_scanner_word_ok F hF389.preL q376 q378 hx383
 have hZ391 := hSc387.zle
 have hS388 := hF389.call hSc387
 replace hS388 : St _ _ _ _ _ _ [.blk b261 (K52 v394 v396 r382), .gs v396 c397 (csz api_Token)] := hS388
 refine r_step rfl trivial (o_call hcl386 rfl rfl rfl) ?_
 refine xf [(0, v2), (3, Pt b261 0)] ?_
 exact ⟨n214, Nat.lt_succ_self _, ⟨_, r382, b261, v394, v396, c397, ho202, q393, q395, rfl, hS388⟩⟩
 refine srF r10_7 hS213 ?_
 intro bs240 h241 hlv243 hS242
 refine yq 3 [(22, Pt b205 1), (4, V 0), (0, v2), (3, Pt b205 0)] ?_
 have lt244 : b205 < bs240 := hlv243.1 _ (List.mem_of_getElem? (i := 0) rfl) _ (by simp [Itm.ids])
 refine e_lookO (v := V x206.At) rfl trivial rfl (by show b205 < _; omega) (same1 (v := V x206.At) trivial) (hS242.ldAt (i := 0) rfl (by kernel_rfl)) trivial ?_
 refine yq 3 [(26, Pt b205 2), (23, V x206.At), (4, V 0), (0, v2), (3, Pt b205 0)] ?_
 have lt245 : b205 < bs240 := hlv243.1 _ (List.mem_of_getElem? (i := 0) rfl) _ (by simp [Itm.ids])
 refine e_lookO (v := V x206.Row) rfl trivial rfl (by show b205 < _; omega) (same1 (v := V x206.Row) trivial) (hS242.ldAt (i := 0) rfl (by kernel_rfl)) trivial ?_
 rcases ifs ho238 with ⟨hp246, ho238⟩ | ⟨hp246, ho238⟩
 refine e_val rfl trivial (o_cmp rfl rfl (c_eql_T hp246)) ?_
 refine yf [(28, .bool true), (4, V 0), (0, v2), (3, Pt b205 0)] ?_
 have hS247 := hS242.unres
 refine cT 28 rfl ?_
 refine rg r10_8 ?_
 refine xq 4 [(32, Pt b205 1), (29, Pt b205 0), (4, V 0), (0, v2), (3, Pt b205 0)] ?_
 refine r_step rfl trivial (o_ldb (v := V x206.At) hS247 (i := 0) rfl rfl (by kernel_rfl)) ?_
 obtain ⟨r248, hx249, ho238⟩ := obind ho238
 have hF255 : St _ _ _ _ _ _ ([.blk b205 (K52 v208 v210 x206), .gs v210 c211 (csz api_Token)] ++ []) := ((hS247.front 1 rfl).front 1 rfl)
 obtain ⟨v250, h251, Z256, A258, hcl252, hSc253, rfl, rfl⟩ := correctorref6_scanner_mark_ok F hF255.preL q207 q209 hx249
 have hZ257 := hSc253.zle
 have hS254 := hF255.call hSc253
 replace hS254 : St _ _ _ _ _ _ [.blk b205 (K52 v208 v210 x206), .gs v210 c211 (csz api_Token)] := hS254
 refine r_step rfl trivial (o_call hcl252 rfl rfl rfl) ?_
 refine xe 1 [(4, V r248), (0, v2), (3, Pt b205 0)] ?_
 obtain rfl := si ho238
 exact ⟨_, x206, r248, b205, v208, v210, c211, rfl, (q207.mono hZ257), (q209.mono hZ257), rfl, hS254⟩
 refine e_val rfl trivial (o_cmp rfl rfl (c_eql_F hp246)) ?_
 refine yf [(28, .bool false), (4, V 0), (0, v2), (3, Pt b205 0)] ?_
 have hS259 := hS242.unres
 refine kF 28 rfl ?_
 obtain rfl := si ho238
 exact ⟨_, x206, 0, b205, v208, v210, c211, rfl, q207, q209, rfl, hS259⟩
 refine r_step rfl trivial (o_cmp rfl rfl (c_lss_F hp217)) ?_
 refine xf [(19, .bool false), (0, v2), (3, Pt b205 0)] ?_
 refine cF 19 rfl ?_
 refine xt 0 ?_
 refine blkX_hit ?_
 obtain rfl := si ho202
 exact ⟨_, x206, b205, v208, v210, c211, rfl, q207, q209, rfl, hS213⟩

end Go.Proofs.Ytahcngeimlkcgaa.M
