/- Printed by a program of this session: Go functions as Lean functions over plain data, and that the calls come to them. -/
import Derived.Test.YtahcngeimlkcgaaSyJ
import Derived.Test.YtahcngeimlkcgaaChecked
import Derived.KernelRfl
import Derived.Test.YtahcngeimlkcgaaMV0
namespace Go.Proofs.Ytahcngeimlkcgaa.M
open Go Am Sy
open Sy.Cell (rc)
set_option linter.unusedVariables false
set_option linter.unusedSimpArgs false
set_option maxRecDepth 20000

def r6_0 : List COp := [u 2 (.assign (.const (.bool false)))]
def r6_1 : List COp := [u 24 (cf 8 #[] #[]), u 25 (.unOp .not 4 (t 24))]
def r6_2 : List COp := [u 2 (.assign (.const (.bool false)))]
def r6_3 : List COp := [u 3 (.assign (.const (.string { data := #[] })))]
def r6_4 : List COp := [u 4 (.assign (ci 0)), u 5 (.assign (ci 0))]
def r6_5 : List COp := [u 26 (mv 0), u 27 (cb .len #[(t 26)] #[40]), u 28 (cb .min #[(t 27), (ci 12)] #[3, 3]), u 6 (sg 28)]
def r6_6 : List COp := [u 7 (.assign (ci 0))]
def r6_7 : List COp := [u 29 (mv 7), u 30 (mv 6), u 31 (bo .lss 3 29 30 3)]
def r6_8 : List COp := [u 32 (mv 7), u 33 (bc .add 3 32 1 3), u 7 (sg 33)]
def r6_9 : List COp := [u 34 (mv 7), u 35 (bc .gtr 3 34 0 3)]
def r6_10 : List COp := [u 36 (mv 3), u 37 (.binOp .add 9 (t 36) (.const (.string { data := #[44, 32] })) 9), u 3 (sg 37)]
def r6_11 : List COp := [u 38 (mv 0), u 39 (mv 7), u 40 (ia 40 38 39), u 41 (ld 3 40), u 42 (cf 9 #[(t 41), (ci 4)] #[3, 3]), u 8 (sg 42)]
def r6_12 : List COp := [u 43 (mv 3), u 44 (.buildSlice 45 4 #[(0, (.const (.string { data := #[97] }))), (1, (.const (.string { data := #[98, 58, 32, 99] }))), (2, (.const (.string { data := #[58, 32, 100] }))), (3, (.const (.string { data := #[39, 101, 39, 58, 32] })))]), u 45 (mv 8), u 46 (ia 45 44 45), u 47 (ld 9 46), u 48 (bo .add 9 43 47 9), u 3 (sg 48)]
def r6_13 : List COp := [u 49 (mv 8), u 50 (bc .gtr 3 49 0 3)]
def r6_14 : List COp := [u 51 (mv 4), u 52 (bc .add 3 51 1 3), u 4 (sg 52)]
def r6_15 : List COp := [u 53 (mv 8), u 54 (bc .neq 3 53 2 3)]
def r6_16 : List COp := [u 55 (mv 5), u 56 (bc .add 3 55 1 3), u 5 (sg 56)]
def r6_17 : List COp := [u 58 (mv 3), u 59 (.binOp .add 9 (.const (.string { data := #[123] })) (t 58) 9), u 60 (.binOp .add 9 (t 59) (.const (.string { data := #[125] })) 9), u 61 (cf 13 #[(t 60)] #[9]), u 57 (mv 61), u 62 (.extract (t 57) 0), u 63 (.extract (t 57) 1), u 64 (.extract (t 57) 2), u 65 (.extract (t 57) 3), u 66 (.extract (t 57) 4), u 9 (.alloc 29), o (.store 29 (t 9) (t 62)), u 10 (sg 63), u 11 (sg 64), u 12 (sg 65), u 13 (sg 66)]
def r6_18 : List COp := [u 68 (mv 3), u 69 (.binOp .add 9 (.const (.string { data := #[91] })) (t 68) 9), u 70 (.binOp .add 9 (t 69) (.const (.string { data := #[93] })) 9), u 71 (cf 13 #[(t 70)] #[9]), u 67 (mv 71), u 72 (.extract (t 67) 0), u 73 (.extract (t 67) 1), u 74 (.extract (t 67) 2), u 75 (.extract (t 67) 3), u 76 (.extract (t 67) 4), u 14 (.alloc 29), o (.store 29 (t 14) (t 72)), u 15 (sg 73), u 16 (sg 74), u 17 (sg 75), u 18 (sg 76)]
def r6_19 : List COp := [u 77 (mv 11), u 78 (mv 13), u 79 (bo .neq 3 77 78 3), u 80 (mv 79), gn 80 81 (mv 16), gn 80 82 (mv 18), gn 80 83 (bo .neq 3 81 82 3), u 84 (pt 80 83), u 85 (mv 84), gn 85 86 (mv 12), gn 85 87 (cb .len #[(t 86)] #[30]), gn 85 88 (bc .neq 3 87 0 3), u 89 (pt 85 88), u 90 (mv 89), gn 90 91 (mv 17), gn 90 92 (cb .len #[(t 91)] #[30]), gn 90 93 (bc .neq 3 92 0 3), u 94 (pt 90 93)]
def r6_20 : List COp := [u 2 (.assign (.const (.bool false)))]
def r6_21 : List COp := [u 19 (.assign (ci 0)), u 20 (.assign (ci 0)), u 21 (.assign (ci 0))]
def r6_22 : List COp := [u 22 (.assign (ci 0))]
def r6_23 : List COp := [u 95 (mv 22), u 96 (fa 29 9 0), u 97 (ld 27 96), u 98 (cb .len #[(t 97)] #[27]), u 99 (bo .lss 3 95 98 3)]
def r6_24 : List COp := [u 100 (mv 22), u 101 (bc .add 3 100 1 3), u 22 (sg 101)]
def r6_25 : List COp := [u 102 (fa 29 9 0), u 103 (ld 27 102), u 104 (mv 22), u 105 (ia 27 103 104), u 106 (fa 42 105 0), u 107 (ld 3 106), u 108 (bc .eql 3 107 6 3)]
def r6_26 : List COp := [u 109 (mv 19), u 110 (bc .add 3 109 1 3), u 19 (sg 110)]
def r6_27 : List COp := [u 111 (fa 29 9 0), u 112 (ld 27 111), u 113 (mv 22), u 114 (ia 27 112 113), u 115 (fa 42 114 5), u 116 (ld 4 115)]
def r6_28 : List COp := [u 117 (mv 21), u 118 (bc .add 3 117 1 3), u 21 (sg 118)]
def r6_29 : List COp := [u 23 (.assign (ci 0))]
def r6_30 : List COp := [u 119 (mv 23), u 120 (fa 29 14 0), u 121 (ld 27 120), u 122 (cb .len #[(t 121)] #[27]), u 123 (bo .lss 3 119 122 3)]
def r6_31 : List COp := [u 124 (mv 23), u 125 (bc .add 3 124 1 3), u 23 (sg 125)]
def r6_32 : List COp := [u 126 (fa 29 14 0), u 127 (ld 27 126), u 128 (mv 23), u 129 (ia 27 127 128), u 130 (fa 42 129 0), u 131 (ld 3 130), u 132 (bc .eql 3 131 6 3)]
def r6_33 : List COp := [u 133 (mv 20), u 134 (bc .add 3 133 1 3), u 20 (sg 134)]
def r6_34 : List COp := [u 135 (mv 19), u 136 (mv 6), u 137 (bo .eql 3 135 136 3), u 138 (mv 137), gt 138 139 (mv 20), gt 138 140 (mv 4), gt 138 141 (bo .eql 3 139 140 3), u 142 (pf 138 141), u 143 (mv 142), gt 143 144 (mv 21), gt 143 145 (mv 5), gt 143 146 (bo .eql 3 144 145 3), u 147 (pf 143 146), u 2 (sg 147)]
def correctorlaw11_FlowPairs_l0 (F : Nat) (a0 : List Int) : Nat → Str → Int → Int → Int → Option (Str × Int × Int)
 | 0, _, _, _, _ => none
 | n + 1, x228, x229, x230, x231 =>
  if x231 < (imin (a0.length : Int) 12) then
   ((if (0 : Int) < x231 then
     if x228.b.length + ([44, 32] : List UInt8).length ≤ 4611686018427387904 then
      some (⟨x228.b ++ [44, 32]⟩ : Str)
     else none
    else
     some x228) : Option Str).bind fun o => match o with
    | x245 => if 0 ≤ x231 ∧ x231 < (a0.length : Int) then
     (a0[x231.toNat]?).bind fun x249 =>
     (correctorlaw11_within F x249 4).bind fun r255 =>
     if 0 ≤ r255 ∧ r255 < ([(⟨[97]⟩ : Str), (⟨[98, 58, 32, 99]⟩ : Str), (⟨[58, 32, 100]⟩ : Str), (⟨[39, 101, 39, 58, 32]⟩ : Str)].length : Int) then
      ([(⟨[97]⟩ : Str), (⟨[98, 58, 32, 99]⟩ : Str), (⟨[58, 32, 100]⟩ : Str), (⟨[39, 101, 39, 58, 32]⟩ : Str)][r255.toNat]?).bind fun x268 =>
      if x245.b.length + x268.b.length ≤ 4611686018427387904 then
       ((if (0 : Int) < r255 then
         some (w64 (x229 + 1))
        else
         some x229) : Option Int).bind fun o => match o with
        | x280 => ((if r255 = (2 : Int) then
          some x230
         else
          some (w64 (x230 + 1))) : Option Int).bind fun o => match o with
         | x288 => correctorlaw11_FlowPairs_l0 F a0 n (⟨x245.b ++ x268.b⟩ : Str) x280 x288 (w64 (x231 + 1))
      else none
     else none
    else none
  else
   some (x228, x229, x230)
def correctorlaw11_FlowPairs_l1 (F : Nat) (a0 : List Int) : Nat → Int → Int → (List api_Node) → (List api_Node) → Int → Int → Int → Option (Int × Int × (List api_Node) × Int × Int)
 | 0, _, _, _, _, _, _, _ => none
 | n + 1, x617, x618, x620, x624, x627, x628, x629 =>
  if x629 < (x620.length : Int) then
   ((if 0 ≤ x629 ∧ x629 < (x620.length : Int) then
     (x620[x629.toNat]?).bind fun x669 =>
     if x669.Kind = (6 : Int) then
      if 0 ≤ x629 ∧ x629 < (x620.length : Int) then
       (x620[x629.toNat]?).bind fun x679 =>
       if x679.Key = true then
        some (x620, x624, w64 (x627 + 1), w64 (x628 + 1))
       else
        some (x620, x624, w64 (x627 + 1), x628)
      else none
     else
      some (x620, x624, x627, x628)
    else none) : Option ((List api_Node) × (List api_Node) × Int × Int)).bind fun o => match o with
    | (x690, x694, x697, x698) => correctorlaw11_FlowPairs_l1 F a0 n x617 x618 x690 x694 x697 x698 (w64 (x629 + 1))
  else
   some (x617, x618, x624, x627, x628)
def correctorlaw11_FlowPairs_l2 (F : Nat) (a0 : List Int) : Nat → Int → Int → (List api_Node) → Int → Int → Int → Int → Option (Int × Int × Int × Int × Int)
 | 0, _, _, _, _, _, _, _ => none
 | n + 1, x873, x874, x876, x879, x880, x881, x882 =>
  if x882 < (x876.length : Int) then
   ((if 0 ≤ x882 ∧ x882 < (x876.length : Int) then
     (x876[x882.toNat]?).bind fun x902 =>
     if x902.Kind = (6 : Int) then
      some (x876, w64 (x880 + 1))
     else
      some (x876, x880)
    else none) : Option ((List api_Node) × Int)).bind fun o => match o with
    | (x913, x916) => correctorlaw11_FlowPairs_l2 F a0 n x873 x874 x913 x879 x916 x881 (w64 (x882 + 1))
  else
   some (x873, x874, x879, x880, x881)
def correctorlaw11_FlowPairs (F : Nat) (a0 : List Int) : Option Bool :=
 (correctorlaw11_known F).bind fun r19 =>
 if r19 = true then
  ((correctorlaw11_FlowPairs_l0 F a0 F (⟨[]⟩ : Str) 0 0 0) : Option (Str × Int × Int)).bind fun o => match o with
   | (x298, x299, x300) => if ([123] : List UInt8).length + x298.b.length ≤ 4611686018427387904 then
    if ([123] ++ x298.b : List UInt8).length + ([125] : List UInt8).length ≤ 4611686018427387904 then
     (correctorlaw11_value F (⟨([123] ++ x298.b) ++ [125]⟩ : Str)).bind fun r305 =>
     if ([91] : List UInt8).length + x298.b.length ≤ 4611686018427387904 then
      if ([91] ++ x298.b : List UInt8).length + ([93] : List UInt8).length ≤ 4611686018427387904 then
       (correctorlaw11_value F (⟨([91] ++ x298.b) ++ [93]⟩ : Str)).bind fun r328 =>
       if r305.2.2.1 = r305.2.2.2.2 then
        if r328.2.2.1 = r328.2.2.2.2 then
         if (r305.2.2.2.1.length : Int) = (0 : Int) then
          if (r328.2.2.2.1.length : Int) = (0 : Int) then
           ((correctorlaw11_FlowPairs_l1 F a0 F x299 x300 r305.1.Nodes r328.1.Nodes 0 0 0) : Option (Int × Int × (List api_Node) × Int × Int)).bind fun o => match o with
            | (x720, x721, x723, x726, x727) => ((correctorlaw11_FlowPairs_l2 F a0 F x720 x721 x723 x726 0 x727 0) : Option (Int × Int × Int × Int × Int)).bind fun o => match o with
             | (x930, x931, x932, x933, x934) => if x932 = (imin (a0.length : Int) 12) then
              if x933 = x930 then
               if x934 = x931 then
                some true
               else
                some false
              else
               some false
             else
              some false
          else
           some false
         else
          some false
        else
         some false
       else
        some false
      else none
     else none
    else none
   else none
 else
  some false
theorem correctorlaw11_FlowPairs_ok (F : Nat) {h : AH} {Z : Zn} {a0 : List Int} {v2 : Value} (hI : Inv Z h) (q1 : RS (α := Int) Z v2 a0) {r : Bool} (hm : correctorlaw11_FlowPairs F a0 = some r) :
  ∃ v h', callI Try.prog 6 [v2] h = some (v, h') ∧ St h [] Z (0, 0) Z h' [] ∧ v = .bool r := by
 refine fn_plain (Q := fun v => v = .bool r) Try.func6 rfl rfl hI ?_
 intro hs hS
 unfold correctorlaw11_FlowPairs at hm
 refine sr r6_0 ?_
 refine xe 1 [(0, v2)] ?_
 refine sq ?_
 refine sr r6_1 ?_
 obtain ⟨r19, hx20, hm⟩ := obind hm
 obtain ⟨v21, h22, hcl23, hSc24, rfl⟩ := correctorlaw11_known_ok F hS.inv  hx20
 have hS25 := St.call (A := []) (B := []) hS hSc24
 replace hS25 : St _ _ _ _ _ _ [] := hS25
 refine r_step rfl trivial (o_call hcl23 rfl rfl rfl) ?_
 rcases ifs hm with ⟨hp26, hm⟩ | ⟨hp26, hm⟩
 refine r_setb (t := 24) rfl hp26 ?_
 refine xe 1 [(25, .bool false), (0, v2)] ?_
 refine kF 25 rfl ?_
 refine sr r6_3 ?_
 refine xe 1 [(3, .string ⟨⟨[]⟩⟩), (0, v2)] ?_
 refine sr r6_4 ?_
 refine xe 2 [(5, V 0), (4, V 0), (3, .string ⟨⟨[]⟩⟩), (0, v2)] ?_
 refine sr r6_5 ?_
 refine xq 1 [(26, v2), (5, V 0), (4, V 0), (3, .string ⟨⟨[]⟩⟩), (0, v2)] ?_
 refine r_step rfl trivial (o_len rfl (RS.len q1) ⟨_, Try.underlying40⟩) ?_
 refine xe 2 [(6, V (imin (a0.length : Int) 12)), (5, V 0), (4, V 0), (3, .string ⟨⟨[]⟩⟩), (0, v2)] ?_
 refine sq ?_
 refine sr r6_6 ?_
 refine xe 1 [(7, V 0), (6, V (imin (a0.length : Int) 12)), (5, V 0), (4, V 0), (3, .string ⟨⟨[]⟩⟩), (0, v2)] ?_
 obtain ⟨o226, ho225, hm⟩ := obind hm
 refine W_join [3, 4, 5, 6] (fun l h => ∃ Z297 : Zn, ∃ x298 : Str, ∃ x299 : Int, ∃ x300 : Int, (x298, x299, x300) = o226 ∧ l = [(3, .string ⟨⟨x298.b⟩⟩), (4, V x299), (5, V x300), (6, V (imin (a0.length : Int) 12))] ∧ St hs [] Z (0, 0) Z297 h []) ?_ ?_
 rintro l h301 ⟨Z297, x298, x299, x300, rfl, rfl, hS302⟩
 try dsimp only at hm
 refine sr r6_17 ?_
 refine xq 1 [(58, .string ⟨⟨x298.b⟩⟩), (3, .string ⟨⟨x298.b⟩⟩), (4, V x299), (5, V x300), (6, V (imin (a0.length : Int) 12))] ?_
 obtain ⟨hc303, hm⟩ := chk hm
 refine r_step rfl trivial (o_sadd rfl rfl (by simpa using hc303)) ?_
 obtain ⟨hc304, hm⟩ := chk hm
 refine r_step rfl trivial (o_sadd rfl rfl (by simpa using hc304)) ?_
 obtain ⟨r305, hx306, hm⟩ := obind hm
 have hSr312 : St _ _ _ _ _ _ ([] ++ []) := hS302
 obtain ⟨v307, h308, Z313, A315, hcl309, hSc310, v317, v319, c320, rfl, rfl, q316, q318⟩ := correctorlaw11_value_ok F hSr312.preL  hx306
 have hS311 := hSr312.call hSc310
 have hZ314 := hSc310.zle
 replace hS311 : St _ _ _ _ _ _ [.gs v319 c320 (csz api_Diag)] := hS311
 refine r_step rfl trivial (o_call hcl309 rfl rfl rfl) ?_
 refine xq 6 [(66, V r305.2.2.2.2), (65, v319), (64, V r305.2.2.1), (63, V r305.2.1), (62, .agg #[v317]), (3, .string ⟨⟨x298.b⟩⟩), (4, V x299), (5, V x300), (6, V (imin (a0.length : Int) 12))] ?_
 refine r_blk rfl trivial (o_alloc (cs := [.slice none 0 0]) (by kernel_rfl)) hS311 ?_
 intro b321 h322 hS323
 refine r_ex1 rfl trivial (o_stb (vs := [v317]) (cells' := [v317]) (L' := [.blk b321 [v317], .gs v319 c320 (csz api_Diag)]) hS323 (i := 0) rfl rfl rfl rfl (by kernel_rfl) (one_cons (RS.one1 q316) one_nil) rfl rfl rfl) ?_
 intro h324 hS325
 refine xe 4 [(13, V r305.2.2.2.2), (12, v319), (11, V r305.2.2.1), (9, Pt b321 0), (3, .string ⟨⟨x298.b⟩⟩), (4, V x299), (5, V x300), (6, V (imin (a0.length : Int) 12))] ?_
 refine sr r6_18 ?_
 refine xq 1 [(68, .string ⟨⟨x298.b⟩⟩), (13, V r305.2.2.2.2), (12, v319), (11, V r305.2.2.1), (9, Pt b321 0), (4, V x299), (5, V x300), (6, V (imin (a0.length : Int) 12))] ?_
 obtain ⟨hc326, hm⟩ := chk hm
 refine r_step rfl trivial (o_sadd rfl rfl (by simpa using hc326)) ?_
 obtain ⟨hc327, hm⟩ := chk hm
 refine r_step rfl trivial (o_sadd rfl rfl (by simpa using hc327)) ?_
 obtain ⟨r328, hx329, hm⟩ := obind hm
 have hSr335 : St _ _ _ _ _ _ ([] ++ [.blk b321 [v317], .gs v319 c320 (csz api_Diag)]) := hS325
 obtain ⟨v330, h331, Z336, A338, hcl332, hSc333, v340, v342, c343, rfl, rfl, q339, q341⟩ := correctorlaw11_value_ok F hSr335.preL  hx329
 have hS334 := hSr335.call hSc333
 have hZ337 := hSc333.zle
 replace hS334 : St _ _ _ _ _ _ [.gs v342 c343 (csz api_Diag), .blk b321 [v317], .gs v319 c320 (csz api_Diag)] := hS334
 refine r_step rfl trivial (o_call hcl332 rfl rfl rfl) ?_
 refine xq 6 [(76, V r328.2.2.2.2), (75, v342), (74, V r328.2.2.1), (73, V r328.2.1), (72, .agg #[v340]), (13, V r305.2.2.2.2), (12, v319), (11, V r305.2.2.1), (9, Pt b321 0), (4, V x299), (5, V x300), (6, V (imin (a0.length : Int) 12))] ?_
 refine r_blk rfl trivial (o_alloc (cs := [.slice none 0 0]) (by kernel_rfl)) hS334 ?_
 intro b344 h345 hS346
 refine r_ex1 rfl trivial (o_stb (vs := [v340]) (cells' := [v340]) (L' := [.blk b344 [v340], .gs v342 c343 (csz api_Diag), .blk b321 [v317], .gs v319 c320 (csz api_Diag)]) hS346 (i := 0) rfl rfl rfl rfl (by kernel_rfl) (one_cons (RS.one1 q339) one_nil) rfl rfl rfl) ?_
 intro h347 hS348
 refine xe 4 [(18, V r328.2.2.2.2), (17, v342), (16, V r328.2.2.1), (14, Pt b344 0), (13, V r305.2.2.2.2), (12, v319), (11, V r305.2.2.1), (9, Pt b321 0), (4, V x299), (5, V x300), (6, V (imin (a0.length : Int) 12))] ?_
 refine sq ?_
 refine sr r6_19 ?_
 refine xq 2 [(78, V r305.2.2.2.2), (77, V r305.2.2.1), (18, V r328.2.2.2.2), (17, v342), (16, V r328.2.2.1), (14, Pt b344 0), (12, v319), (9, Pt b321 0), (4, V x299), (5, V x300), (6, V (imin (a0.length : Int) 12))] ?_
 rcases ifs hm with ⟨hp357, hm⟩ | ⟨hp357, hm⟩
 refine r_step rfl trivial (o_cmp rfl rfl (c_neq_F hp357)) ?_
 refine xq 3 [(82, V r328.2.2.2.2), (81, V r328.2.2.1), (80, .bool false), (17, v342), (14, Pt b344 0), (12, v319), (9, Pt b321 0), (4, V x299), (5, V x300), (6, V (imin (a0.length : Int) 12))] ?_
 rcases ifs hm with ⟨hp358, hm⟩ | ⟨hp358, hm⟩
 refine r_step rfl rfl (o_cmp rfl rfl (c_neq_F hp358)) ?_
 refine xq 3 [(86, v319), (85, .bool false), (17, v342), (14, Pt b344 0), (9, Pt b321 0), (4, V x299), (5, V x300), (6, V (imin (a0.length : Int) 12))] ?_
 refine r_step rfl rfl (o_len rfl (hS348.glen (i := 3) rfl (q318.mono hZ337)) ⟨_, Try.underlying30⟩) ?_
 rcases ifs hm with ⟨hp359, hm⟩ | ⟨hp359, hm⟩
 refine r_step rfl rfl (o_cmp rfl rfl (c_neq_F hp359)) ?_
 refine xq 3 [(91, v342), (90, .bool false), (14, Pt b344 0), (9, Pt b321 0), (4, V x299), (5, V x300), (6, V (imin (a0.length : Int) 12))] ?_
 refine r_step rfl rfl (o_len rfl (hS348.glen (i := 1) rfl q341) ⟨_, Try.underlying30⟩) ?_
 rcases ifs hm with ⟨hp360, hm⟩ | ⟨hp360, hm⟩
 refine r_step rfl rfl (o_cmp rfl rfl (c_neq_F hp360)) ?_
 refine xe 1 [(94, .bool false), (14, Pt b344 0), (9, Pt b321 0), (4, V x299), (5, V x300), (6, V (imin (a0.length : Int) 12))] ?_
 refine kF 94 rfl ?_
 refine sr r6_21 ?_
 refine xe 3 [(21, V 0), (20, V 0), (19, V 0), (14, Pt b344 0), (9, Pt b321 0), (4, V x299), (5, V x300), (6, V (imin (a0.length : Int) 12))] ?_
 refine sq ?_
 refine sr r6_22 ?_
 refine xe 1 [(22, V 0), (21, V 0), (20, V 0), (19, V 0), (14, Pt b344 0), (9, Pt b321 0), (4, V x299), (5, V x300), (6, V (imin (a0.length : Int) 12))] ?_
 obtain ⟨o615, ho614, hm⟩ := obind hm
 refine W_join [4, 5, 6, 14, 19, 20, 21] (fun l h => ∃ Z719 : Zn, ∃ x720 : Int, ∃ x721 : Int, ∃ x723 : List api_Node, ∃ x726 : Int, ∃ x727 : Int, ∃ b722 : Nat, ∃ v725 : Value, (x720, x721, x723, x726, x727) = o615 ∧ RS (α := api_Node) Z719 v725 x723 ∧ l = [(4, V x720), (5, V x721), (6, V (imin (a0.length : Int) 12)), (14, Pt b722 0), (19, V x726), (20, V 0), (21, V x727)] ∧ St hs [] Z (0, 0) Z719 h [.blk b722 [v725]]) ?_ ?_
 rintro l h728 ⟨Z719, x720, x721, x723, x726, x727, b722, v725, rfl, q724, rfl, hS729⟩
 try dsimp only at hm
 refine sq ?_
 refine sr r6_29 ?_
 refine xe 1 [(23, V 0), (4, V x720), (5, V x721), (6, V (imin (a0.length : Int) 12)), (14, Pt b722 0), (19, V x726), (20, V 0), (21, V x727)] ?_
 obtain ⟨o871, ho870, hm⟩ := obind hm
 refine W_join [4, 5, 6, 19, 20, 21] (fun l h => ∃ Z929 : Zn, ∃ x930 : Int, ∃ x931 : Int, ∃ x932 : Int, ∃ x933 : Int, ∃ x934 : Int, (x930, x931, x932, x933, x934) = o871 ∧ l = [(4, V x930), (5, V x931), (6, V (imin (a0.length : Int) 12)), (19, V x932), (20, V x933), (21, V x934)] ∧ St hs [] Z (0, 0) Z929 h []) ?_ ?_
 rintro l h935 ⟨Z929, x930, x931, x932, x933, x934, rfl, rfl, hS936⟩
 try dsimp only at hm
 refine sr r6_34 ?_
 refine xq 2 [(136, V (imin (a0.length : Int) 12)), (135, V x932), (4, V x930), (5, V x931), (20, V x933), (21, V x934)] ?_
 rcases ifs hm with ⟨hp937, hm⟩ | ⟨hp937, hm⟩
 refine r_step rfl trivial (o_cmp rfl rfl (c_eql_T hp937)) ?_
 refine xq 3 [(140, V x930), (139, V x933), (138, .bool true), (5, V x931), (21, V x934)] ?_
 rcases ifs hm with ⟨hp938, hm⟩ | ⟨hp938, hm⟩
 refine r_step rfl rfl (o_cmp rfl rfl (c_eql_T hp938)) ?_
 refine xq 4 [(145, V x931), (144, V x934), (143, .bool true)] ?_
 rcases ifs hm with ⟨hp939, hm⟩ | ⟨hp939, hm⟩
 refine r_step rfl rfl (o_cmp rfl rfl (c_eql_T hp939)) ?_
 refine xe 2 [(2, .bool true)] ?_
 refine rt ?_
 refine ⟨rfl, ?_⟩
 obtain rfl := si hm
 refine ⟨_, _, _, ResL.tmp rfl (ResL.nil), hS936, ?_⟩
 exact rfl
 refine r_step rfl rfl (o_cmp rfl rfl (c_eql_F hp939)) ?_
 refine xe 2 [(2, .bool false)] ?_
 refine rt ?_
 refine ⟨rfl, ?_⟩
 obtain rfl := si hm
 refine ⟨_, _, _, ResL.tmp rfl (ResL.nil), hS936, ?_⟩
 exact rfl
 refine r_step rfl rfl (o_cmp rfl rfl (c_eql_F hp938)) ?_
 refine xe 7 [(2, .bool false)] ?_
 refine rt ?_
 refine ⟨rfl, ?_⟩
 obtain rfl := si hm
 refine ⟨_, _, _, ResL.tmp rfl (ResL.nil), hS936, ?_⟩
 exact rfl
 refine r_step rfl trivial (o_cmp rfl rfl (c_eql_F hp937)) ?_
 refine xe 11 [(2, .bool false)] ?_
 refine rt ?_
 refine ⟨rfl, ?_⟩
 obtain rfl := si hm
 refine ⟨_, _, _, ResL.tmp rfl (ResL.nil), hS936, ?_⟩
 exact rfl
 refine bk 4 ?_
 refine lp [4, 5, 6, 14, 19, 20, 21, 23] (fun n l h => ∃ Z872 : Zn, ∃ x873 : Int, ∃ x874 : Int, ∃ x876 : List api_Node, ∃ x879 : Int, ∃ x880 : Int, ∃ x881 : Int, ∃ x882 : Int, ∃ b875 : Nat, ∃ v878 : Value, correctorlaw11_FlowPairs_l2 F a0 n x873 x874 x876 x879 x880 x881 x882 = some o871 ∧ RS (α := api_Node) Z872 v878 x876 ∧ l = [(4, V x873), (5, V x874), (6, V (imin (a0.length : Int) 12)), (14, Pt b875 0), (19, V x879), (20, V x880), (21, V x881), (23, V x882)] ∧ St hs [] Z (0, 0) Z872 h [.blk b875 [v878]]) F ⟨_, x720, x721, x723, x726, 0, x727, 0, b722, v725, ho870, q724, rfl, hS729⟩ ?_
 rintro n885 l h883 ⟨Z872, x873, x874, x876, x879, x880, x881, x882, b875, v878, ho870, q877, rfl, hS884⟩
 rcases n885 with _ | n885
 cases (show none = some o871 from ho870)
 rw [correctorlaw11_FlowPairs_l2] at ho870
 refine sq ?_
 refine sr r6_30 ?_
 refine xq 2 [(120, Pt b875 0), (119, V x882), (4, V x873), (5, V x874), (6, V (imin (a0.length : Int) 12)), (14, Pt b875 0), (19, V x879), (20, V x880), (21, V x881), (23, V x882)] ?_
 refine r_step rfl trivial (o_ldb (v := v878) hS884 (i := 0) rfl rfl (by kernel_rfl)) ?_
 refine r_step rfl trivial (o_len rfl (RS.len q877) ⟨_, Try.underlying27⟩) ?_
 rcases ifs ho870 with ⟨hp888, ho870⟩ | ⟨hp888, ho870⟩
 refine r_step rfl trivial (o_cmp rfl rfl (c_lss_T hp888)) ?_
 refine xf [(123, .bool true), (4, V x873), (5, V x874), (6, V (imin (a0.length : Int) 12)), (14, Pt b875 0), (19, V x879), (20, V x880), (21, V x881), (23, V x882)] ?_
 refine kT 123 rfl ?_
 refine sq ?_
 refine bk 5 ?_
 obtain ⟨o900, ho899, ho870⟩ := obind ho870
 refine W_seqJoin0 [4, 5, 6, 14, 19, 20, 21, 23] (fun l h => ∃ Z911 : Zn, ∃ x913 : List api_Node, ∃ x916 : Int, ∃ b912 : Nat, ∃ v915 : Value, (x913, x916) = o900 ∧ RS (α := api_Node) Z911 v915 x913 ∧ l = [(4, V x873), (5, V x874), (6, V (imin (a0.length : Int) 12)), (14, Pt b912 0), (19, V x879), (20, V x916), (21, V x881), (23, V x882)] ∧ St hs [] Z (0, 0) Z911 h [.blk b912 [v915]]) (by kernel_rfl) ?_ ?_
 rintro l h917 ⟨Z911, x913, x916, b912, v915, rfl, q914, rfl, hS918⟩
 try dsimp only at ho870
 refine rg r6_31 ?_
 refine xe 3 [(23, V (w64 (x882 + 1))), (4, V x873), (5, V x874), (6, V (imin (a0.length : Int) 12)), (14, Pt b912 0), (19, V x879), (20, V x916), (21, V x881)] ?_
 exact ⟨n885, Nat.lt_succ_self _, ⟨_, x873, x874, x913, x879, x916, x881, w64 (x882 + 1), b912, v915, ho870, q914, rfl, hS918⟩⟩
 refine rg r6_32 ?_
 refine xq 1 [(126, Pt b875 0), (4, V x873), (5, V x874), (6, V (imin (a0.length : Int) 12)), (14, Pt b875 0), (19, V x879), (20, V x880), (21, V x881), (23, V x882)] ?_
 refine r_step rfl trivial (o_ldb (v := v878) hS884 (i := 0) rfl rfl (by kernel_rfl)) ?_
 refine xq 1 [(128, V x882), (127, v878), (4, V x873), (5, V x874), (6, V (imin (a0.length : Int) 12)), (14, Pt b875 0), (19, V x879), (20, V x880), (21, V x881), (23, V x882)] ?_
 obtain ⟨hc901, ho899⟩ := chk ho899
 refine r_step rfl trivial (o_index rfl rfl (by kernel_rfl : slTy _ _ = some (csz api_Node)) (RS.based q877 (by omega)) hc901.1 hc901.2) ?_
 refine xq 1 [(130, .pointer (some (elemA v878 x882 (csz api_Node) 0))), (4, V x873), (5, V x874), (6, V (imin (a0.length : Int) 12)), (14, Pt b875 0), (19, V x879), (20, V x880), (21, V x881), (23, V x882)] ?_
 obtain ⟨x902, hx903, ho899⟩ := obind ho899
 obtain ⟨cs904, hc905, he906⟩ := RS.elz q877 (i := x882) hx903
 obtain ⟨v908, q909, rfl⟩ := rc_api_Node hc905
 refine r_step rfl trivial (o_lde (w := V x902.Kind) (he906 _ (hS884.zin0 (Zle.refl _))) rfl (by kernel_rfl)) ?_
 rcases ifs ho899 with ⟨hp910, ho899⟩ | ⟨hp910, ho899⟩
 refine r_step rfl trivial (o_cmp rfl rfl (c_eql_T hp910)) ?_
 refine xf [(132, .bool true), (4, V x873), (5, V x874), (6, V (imin (a0.length : Int) 12)), (14, Pt b875 0), (19, V x879), (20, V x880), (21, V x881), (23, V x882)] ?_
 refine cT 132 rfl ?_
 refine rg r6_33 ?_
 refine xe 3 [(20, V (w64 (x880 + 1))), (4, V x873), (5, V x874), (6, V (imin (a0.length : Int) 12)), (14, Pt b875 0), (19, V x879), (21, V x881), (23, V x882)] ?_
 obtain rfl := si ho899
 exact ⟨_, x876, w64 (x880 + 1), b875, v878, rfl, q877, rfl, hS884⟩
 refine r_step rfl trivial (o_cmp rfl rfl (c_eql_F hp910)) ?_
 refine xf [(132, .bool false), (4, V x873), (5, V x874), (6, V (imin (a0.length : Int) 12)), (14, Pt b875 0), (19, V x879), (20, V x880), (21, V x881), (23, V x882)] ?_
 refine kF 132 rfl ?_
 obtain rfl := si ho899
 exact ⟨_, x876, x880, b875, v878, rfl, q877, rfl, hS884⟩
 refine r_step rfl trivial (o_cmp rfl rfl (c_lss_F hp888)) ?_
 refine xf [(123, .bool false), (4, V x873), (5, V x874), (6, V (imin (a0.length : Int) 12)), (14, Pt b875 0), (19, V x879), (20, V x880), (21, V x881), (23, V x882)] ?_
 refine cF 123 rfl ?_
 refine xt 4 ?_
 refine blkX_hit ?_
 obtain rfl := si ho870
 exact ⟨_, x873, x874, x879, x880, x881, rfl, rfl, (hS884.takeN 0)⟩
 refine bk 2 ?_
 refine lp [4, 5, 6, 9, 14, 19, 20, 21, 22] (fun n l h => ∃ Z616 : Zn, ∃ x617 : Int, ∃ x618 : Int, ∃ x620 : List api_Node, ∃ x624 : List api_Node, ∃ x627 : Int, ∃ x628 : Int, ∃ x629 : Int, ∃ b619 : Nat, ∃ v622 : Value, ∃ b623 : Nat, ∃ v626 : Value, correctorlaw11_FlowPairs_l1 F a0 n x617 x618 x620 x624 x627 x628 x629 = some o615 ∧ RS (α := api_Node) Z616 v622 x620 ∧ RS (α := api_Node) Z616 v626 x624 ∧ l = [(4, V x617), (5, V x618), (6, V (imin (a0.length : Int) 12)), (9, Pt b619 0), (14, Pt b623 0), (19, V x627), (20, V 0), (21, V x628), (22, V x629)] ∧ St hs [] Z (0, 0) Z616 h [.blk b619 [v622], .blk b623 [v626]]) F ⟨_, x299, x300, r305.1.Nodes, r328.1.Nodes, 0, 0, 0, b321, v317, b344, v340, ho614, (q316.mono hZ337), q339, rfl, (((hS348.front 0 rfl).front 2 rfl).takeN 2)⟩ ?_
 rintro n632 l h630 ⟨Z616, x617, x618, x620, x624, x627, x628, x629, b619, v622, b623, v626, ho614, q621, q625, rfl, hS631⟩
 rcases n632 with _ | n632
 cases (show none = some o615 from ho614)
 rw [correctorlaw11_FlowPairs_l1] at ho614
 refine sq ?_
 refine sr r6_23 ?_
 refine xq 2 [(96, Pt b619 0), (95, V x629), (4, V x617), (5, V x618), (6, V (imin (a0.length : Int) 12)), (9, Pt b619 0), (14, Pt b623 0), (19, V x627), (20, V 0), (21, V x628), (22, V x629)] ?_
 refine r_step rfl trivial (o_ldb (v := v622) hS631 (i := 0) rfl rfl (by kernel_rfl)) ?_
 refine r_step rfl trivial (o_len rfl (RS.len q621) ⟨_, Try.underlying27⟩) ?_
 rcases ifs ho614 with ⟨hp635, ho614⟩ | ⟨hp635, ho614⟩
 refine r_step rfl trivial (o_cmp rfl rfl (c_lss_T hp635)) ?_
 refine xf [(99, .bool true), (4, V x617), (5, V x618), (6, V (imin (a0.length : Int) 12)), (9, Pt b619 0), (14, Pt b623 0), (19, V x627), (20, V 0), (21, V x628), (22, V x629)] ?_
 refine kT 99 rfl ?_
 refine sq ?_
 refine bk 3 ?_
 obtain ⟨o667, ho666, ho614⟩ := obind ho614
 refine W_seqJoin0 [4, 5, 6, 9, 14, 19, 20, 21, 22] (fun l h => ∃ Z688 : Zn, ∃ x690 : List api_Node, ∃ x694 : List api_Node, ∃ x697 : Int, ∃ x698 : Int, ∃ b689 : Nat, ∃ v692 : Value, ∃ b693 : Nat, ∃ v696 : Value, (x690, x694, x697, x698) = o667 ∧ RS (α := api_Node) Z688 v692 x690 ∧ RS (α := api_Node) Z688 v696 x694 ∧ l = [(4, V x617), (5, V x618), (6, V (imin (a0.length : Int) 12)), (9, Pt b689 0), (14, Pt b693 0), (19, V x697), (20, V 0), (21, V x698), (22, V x629)] ∧ St hs [] Z (0, 0) Z688 h [.blk b689 [v692], .blk b693 [v696]]) (by kernel_rfl) ?_ ?_
 rintro l h699 ⟨Z688, x690, x694, x697, x698, b689, v692, b693, v696, rfl, q691, q695, rfl, hS700⟩
 try dsimp only at ho614
 refine rg r6_24 ?_
 refine xe 3 [(22, V (w64 (x629 + 1))), (4, V x617), (5, V x618), (6, V (imin (a0.length : Int) 12)), (9, Pt b689 0), (14, Pt b693 0), (19, V x697), (20, V 0), (21, V x698)] ?_
 exact ⟨n632, Nat.lt_succ_self _, ⟨_, x617, x618, x690, x694, x697, x698, w64 (x629 + 1), b689, v692, b693, v696, ho614, q691, q695, rfl, hS700⟩⟩
 refine rg r6_25 ?_
 refine xq 1 [(102, Pt b619 0), (4, V x617), (5, V x618), (6, V (imin (a0.length : Int) 12)), (9, Pt b619 0), (14, Pt b623 0), (19, V x627), (20, V 0), (21, V x628), (22, V x629)] ?_
 refine r_step rfl trivial (o_ldb (v := v622) hS631 (i := 0) rfl rfl (by kernel_rfl)) ?_
 refine xq 1 [(104, V x629), (103, v622), (4, V x617), (5, V x618), (6, V (imin (a0.length : Int) 12)), (9, Pt b619 0), (14, Pt b623 0), (19, V x627), (20, V 0), (21, V x628), (22, V x629)] ?_
 obtain ⟨hc668, ho666⟩ := chk ho666
 refine r_step rfl trivial (o_index rfl rfl (by kernel_rfl : slTy _ _ = some (csz api_Node)) (RS.based q621 (by omega)) hc668.1 hc668.2) ?_
 refine xq 1 [(106, .pointer (some (elemA v622 x629 (csz api_Node) 0))), (4, V x617), (5, V x618), (6, V (imin (a0.length : Int) 12)), (9, Pt b619 0), (14, Pt b623 0), (19, V x627), (20, V 0), (21, V x628), (22, V x629)] ?_
 obtain ⟨x669, hx670, ho666⟩ := obind ho666
 obtain ⟨cs671, hc672, he673⟩ := RS.elz q621 (i := x629) hx670
 obtain ⟨v675, q676, rfl⟩ := rc_api_Node hc672
 refine r_step rfl trivial (o_lde (w := V x669.Kind) (he673 _ (hS631.zin0 (Zle.refl _))) rfl (by kernel_rfl)) ?_
 rcases ifs ho666 with ⟨hp677, ho666⟩ | ⟨hp677, ho666⟩
 refine r_step rfl trivial (o_cmp rfl rfl (c_eql_T hp677)) ?_
 refine xf [(108, .bool true), (4, V x617), (5, V x618), (6, V (imin (a0.length : Int) 12)), (9, Pt b619 0), (14, Pt b623 0), (19, V x627), (20, V 0), (21, V x628), (22, V x629)] ?_
 refine cT 108 rfl ?_
 refine sr r6_26 ?_
 refine xe 3 [(19, V (w64 (x627 + 1))), (4, V x617), (5, V x618), (6, V (imin (a0.length : Int) 12)), (9, Pt b619 0), (14, Pt b623 0), (20, V 0), (21, V x628), (22, V x629)] ?_
 refine sr r6_27 ?_
 refine xq 1 [(111, Pt b619 0), (19, V (w64 (x627 + 1))), (4, V x617), (5, V x618), (6, V (imin (a0.length : Int) 12)), (9, Pt b619 0), (14, Pt b623 0), (20, V 0), (21, V x628), (22, V x629)] ?_
 refine r_step rfl trivial (o_ldb (v := v622) hS631 (i := 0) rfl rfl (by kernel_rfl)) ?_
 refine xq 1 [(113, V x629), (112, v622), (19, V (w64 (x627 + 1))), (4, V x617), (5, V x618), (6, V (imin (a0.length : Int) 12)), (9, Pt b619 0), (14, Pt b623 0), (20, V 0), (21, V x628), (22, V x629)] ?_
 obtain ⟨hc678, ho666⟩ := chk ho666
 refine r_step rfl trivial (o_index rfl rfl (by kernel_rfl : slTy _ _ = some (csz api_Node)) (RS.based q621 (by omega)) hc678.1 hc678.2) ?_
 refine xq 1 [(115, .pointer (some (elemA v622 x629 (csz api_Node) 5))), (19, V (w64 (x627 + 1))), (4, V x617), (5, V x618), (6, V (imin (a0.length : Int) 12)), (9, Pt b619 0), (14, Pt b623 0), (20, V 0), (21, V x628), (22, V x629)] ?_
 obtain ⟨x679, hx680, ho666⟩ := obind ho666
 obtain ⟨cs681, hc682, he683⟩ := RS.elz q621 (i := x629) hx680
 obtain ⟨v685, q686, rfl⟩ := rc_api_Node hc682
 refine r_step rfl trivial (o_lde (w := .bool x679.Key) (he683 _ (hS631.zin0 (Zle.refl _))) rfl (by kernel_rfl)) ?_
 refine xf [(116, .bool x679.Key), (19, V (w64 (x627 + 1))), (4, V x617), (5, V x618), (6, V (imin (a0.length : Int) 12)), (9, Pt b619 0), (14, Pt b623 0), (20, V 0), (21, V x628), (22, V x629)] ?_
 rcases ifs ho666 with ⟨hp687, ho666⟩ | ⟨hp687, ho666⟩
 refine W_condT (x := .tmp 116) (by kernel_rfl) rfl hp687 ?_
 refine rg r6_28 ?_
 refine xe 3 [(21, V (w64 (x628 + 1))), (19, V (w64 (x627 + 1))), (4, V x617), (5, V x618), (6, V (imin (a0.length : Int) 12)), (9, Pt b619 0), (14, Pt b623 0), (20, V 0), (22, V x629)] ?_
 obtain rfl := si ho666
 exact ⟨_, x620, x624, w64 (x627 + 1), w64 (x628 + 1), b619, v622, b623, v626, rfl, q621, q625, rfl, hS631⟩
 refine W_condF (x := .tmp 116) (by kernel_rfl) rfl (Bool.eq_false_iff.2 hp687) ?_
 refine sk ?_
 obtain rfl := si ho666
 exact ⟨_, x620, x624, w64 (x627 + 1), x628, b619, v622, b623, v626, rfl, q621, q625, rfl, hS631⟩
 refine r_step rfl trivial (o_cmp rfl rfl (c_eql_F hp677)) ?_
 refine xf [(108, .bool false), (4, V x617), (5, V x618), (6, V (imin (a0.length : Int) 12)), (9, Pt b619 0), (14, Pt b623 0), (19, V x627), (20, V 0), (21, V x628), (22, V x629)] ?_
 refine kF 108 rfl ?_
 obtain rfl := si ho666
 exact ⟨_, x620, x624, x627, x628, b619, v622, b623, v626, rfl, q621, q625, rfl, hS631⟩
 refine r_step rfl trivial (o_cmp rfl rfl (c_lss_F hp635)) ?_
 refine xf [(99, .bool false), (4, V x617), (5, V x618), (6, V (imin (a0.length : Int) 12)), (9, Pt b619 0), (14, Pt b623 0), (19, V x627), (20, V 0), (21, V x628), (22, V x629)] ?_
 refine cF 99 rfl ?_
 refine xt 2 ?_
 refine blkX_hit ?_
 obtain rfl := si ho614
 exact ⟨_, x617, x618, x624, x627, x628, b623, v626, rfl, q625, rfl, ((hS631.front 1 rfl).takeN 1)⟩
 refine r_step rfl rfl (o_cmp rfl rfl (c_neq_T hp360)) ?_
 refine xe 1 [(94, .bool true), (14, Pt b344 0), (9, Pt b321 0), (4, V x299), (5, V x300), (6, V (imin (a0.length : Int) 12))] ?_
 refine cT 94 rfl ?_
 refine sr r6_20 ?_
 refine xe 1 [(2, .bool false)] ?_
 refine rt ?_
 refine ⟨rfl, ?_⟩
 obtain rfl := si hm
 refine ⟨_, _, _, ResL.tmp rfl (ResL.nil), hS348, ?_⟩
 exact rfl
 refine r_step rfl rfl (o_cmp rfl rfl (c_neq_T hp359)) ?_
 refine xe 6 [(94, .bool true), (14, Pt b344 0), (9, Pt b321 0), (4, V x299), (5, V x300), (6, V (imin (a0.length : Int) 12))] ?_
 refine cT 94 rfl ?_
 refine sr r6_20 ?_
 refine xe 1 [(2, .bool false)] ?_
 refine rt ?_
 refine ⟨rfl, ?_⟩
 obtain rfl := si hm
 refine ⟨_, _, _, ResL.tmp rfl (ResL.nil), hS348, ?_⟩
 exact rfl
 refine r_step rfl rfl (o_cmp rfl rfl (c_neq_T hp358)) ?_
 refine xe 11 [(94, .bool true), (14, Pt b344 0), (9, Pt b321 0), (4, V x299), (5, V x300), (6, V (imin (a0.length : Int) 12))] ?_
 refine cT 94 rfl ?_
 refine sr r6_20 ?_
 refine xe 1 [(2, .bool false)] ?_
 refine rt ?_
 refine ⟨rfl, ?_⟩
 obtain rfl := si hm
 refine ⟨_, _, _, ResL.tmp rfl (ResL.nil), hS348, ?_⟩
 exact rfl
 refine r_step rfl trivial (o_cmp rfl rfl (c_neq_T hp357)) ?_
 refine xe 15 [(94, .bool true), (14, Pt b344 0), (9, Pt b321 0), (4, V x299), (5, V x300), (6, V (imin (a0.length : Int) 12))] ?_
 refine cT 94 rfl ?_
 refine sr r6_20 ?_
 refine xe 1 [(2, .bool false)] ?_
 refine rt ?_
 refine ⟨rfl, ?_⟩
 obtain rfl := si hm
 refine ⟨_, _, _, ResL.tmp rfl (ResL.nil), hS348, ?_⟩
 exact rfl
 refine bk 0 ?_
 refine lp [0, 3, 4, 5, 6, 7] (fun n l h => ∃ Z227 : Zn, ∃ x228 : Str, ∃ x229 : Int, ∃ x230 : Int, ∃ x231 : Int, correctorlaw11_FlowPairs_l0 F a0 n x228 x229 x230 x231 = some o226 ∧ l = [(0, v2), (3, .string ⟨⟨x228.b⟩⟩), (4, V x229), (5, V x230), (6, V (imin (a0.length : Int) 12)), (7, V x231)] ∧ St hs [] Z (0, 0) Z227 h []) F ⟨_, (⟨[]⟩ : Str), 0, 0, 0, ho225, rfl, hS25⟩ ?_
 rintro n234 l h232 ⟨Z227, x228, x229, x230, x231, ho225, rfl, hS233⟩
 rcases n234 with _ | n234
 cases (show none = some o226 from ho225)
 rw [correctorlaw11_FlowPairs_l0] at ho225
 refine sq ?_
 refine sr r6_7 ?_
 refine xq 2 [(30, V (imin (a0.length : Int) 12)), (29, V x231), (0, v2), (3, .string ⟨⟨x228.b⟩⟩), (4, V x229), (5, V x230), (6, V (imin (a0.length : Int) 12)), (7, V x231)] ?_
 rcases ifs ho225 with ⟨hp237, ho225⟩ | ⟨hp237, ho225⟩
 refine r_step rfl trivial (o_cmp rfl rfl (c_lss_T hp237)) ?_
 refine xf [(31, .bool true), (0, v2), (3, .string ⟨⟨x228.b⟩⟩), (4, V x229), (5, V x230), (6, V (imin (a0.length : Int) 12)), (7, V x231)] ?_
 refine kT 31 rfl ?_
 refine sq ?_
 refine bk 1 ?_
 refine sq ?_
 obtain ⟨o241, ho240, ho225⟩ := obind ho225
 refine W_join [0, 3, 4, 5, 6, 7] (fun l h => ∃ Z244 : Zn, ∃ x245 : Str, x245 = o241 ∧ l = [(0, v2), (3, .string ⟨⟨x245.b⟩⟩), (4, V x229), (5, V x230), (6, V (imin (a0.length : Int) 12)), (7, V x231)] ∧ St hs [] Z (0, 0) Z244 h []) ?_ ?_
 rintro l h246 ⟨Z244, x245, rfl, rfl, hS247⟩
 try dsimp only at ho225
 refine sr r6_11 ?_
 refine xq 2 [(39, V x231), (38, v2), (0, v2), (3, .string ⟨⟨x245.b⟩⟩), (4, V x229), (5, V x230), (6, V (imin (a0.length : Int) 12)), (7, V x231)] ?_
 obtain ⟨hc248, ho225⟩ := chk ho225
 refine r_step rfl trivial (o_index rfl rfl (by kernel_rfl : slTy _ _ = some (csz Int)) (RS.based (q1.mono hS247.zle) (by omega)) hc248.1 hc248.2) ?_
 obtain ⟨x249, hx250, ho225⟩ := obind ho225
 obtain ⟨cs251, hc252, he253⟩ := RS.elz (q1.mono hS247.zle) (i := x231) hx250
 obtain rfl := rc_Int hc252
 refine r_step rfl trivial (o_lde (w := V x249) (he253 _ (hS247.zin0 (Zle.refl _))) rfl (by kernel_rfl)) ?_
 obtain ⟨r255, hx256, ho225⟩ := obind ho225
 obtain ⟨v257, h258, hcl259, hSc260, rfl⟩ := correctorlaw11_within_ok F hS247.inv  hx256
 have hS261 := St.call (A := []) (B := []) hS247 hSc260
 replace hS261 : St _ _ _ _ _ _ [] := hS261
 refine r_step rfl trivial (o_call hcl259 rfl rfl rfl) ?_
 refine xe 1 [(8, V r255), (0, v2), (3, .string ⟨⟨x245.b⟩⟩), (4, V x229), (5, V x230), (6, V (imin (a0.length : Int) 12)), (7, V x231)] ?_
 refine sr r6_12 ?_
 refine xq 1 [(43, .string ⟨⟨x245.b⟩⟩), (8, V r255), (0, v2), (3, .string ⟨⟨x245.b⟩⟩), (4, V x229), (5, V x230), (6, V (imin (a0.length : Int) 12)), (7, V x231)] ?_
 have q265 : RCs (α := Str) Z244 [.string ⟨⟨[97]⟩⟩, .string ⟨⟨[98, 58, 32, 99]⟩⟩, .string ⟨⟨[58, 32, 100]⟩⟩, .string ⟨⟨[39, 101, 39, 58, 32]⟩⟩] [(⟨[97]⟩ : Str), (⟨[98, 58, 32, 99]⟩ : Str), (⟨[58, 32, 100]⟩ : Str), (⟨[39, 101, 39, 58, 32]⟩ : Str)] := RCs.cons (cs := [.string ⟨⟨[97]⟩⟩]) rfl (RCs.cons (cs := [.string ⟨⟨[98, 58, 32, 99]⟩⟩]) rfl (RCs.cons (cs := [.string ⟨⟨[58, 32, 100]⟩⟩]) rfl (RCs.cons (cs := [.string ⟨⟨[39, 101, 39, 58, 32]⟩⟩]) rfl (RCs.nil0 _))))
 refine r_row rfl trivial (o_bs (cells := [.string ⟨⟨[97]⟩⟩, .string ⟨⟨[98, 58, 32, 99]⟩⟩, .string ⟨⟨[58, 32, 100]⟩⟩, .string ⟨⟨[39, 101, 39, 58, 32]⟩⟩]) (s := 1) (by kernel_rfl)) (by kernel_rfl) hS261 ?_
 intro v262 h263 hS264
 replace hS264 : St _ _ _ _ _ _ [.gs v262 [.string ⟨⟨[97]⟩⟩, .string ⟨⟨[98, 58, 32, 99]⟩⟩, .string ⟨⟨[58, 32, 100]⟩⟩, .string ⟨⟨[39, 101, 39, 58, 32]⟩⟩] (csz Str)] := hS264
 refine xq 1 [(45, V r255), (44, v262), (43, .string ⟨⟨x245.b⟩⟩), (8, V r255), (0, v2), (3, .string ⟨⟨x245.b⟩⟩), (4, V x229), (5, V x230), (6, V (imin (a0.length : Int) 12)), (7, V x231)] ?_
 obtain ⟨hc267, ho225⟩ := chk ho225
 refine r_step rfl trivial (o_index rfl rfl (by kernel_rfl : slTy _ _ = some (csz Str)) (hS264.gbased (j := 0) rfl q265 (by omega)) hc267.1 hc267.2) ?_
 obtain ⟨x268, hx269, ho225⟩ := obind ho225
 obtain ⟨cs270, hc271, he272, ht273⟩ := hS264.gel (j := 0) rfl q265 (i := r255) hx269
 obtain rfl := rc_Str hc271
 refine r_step rfl trivial (o_lde (w := .string ⟨⟨x268.b⟩⟩) he272 rfl (by kernel_rfl)) ?_
 obtain ⟨hc274, ho225⟩ := chk ho225
 refine r_step rfl trivial (o_sadd rfl rfl (by simpa using hc274)) ?_
 refine xe 1 [(3, .string ⟨⟨x245.b ++ x268.b⟩⟩), (8, V r255), (0, v2), (4, V x229), (5, V x230), (6, V (imin (a0.length : Int) 12)), (7, V x231)] ?_
 refine sq ?_
 obtain ⟨o277, ho276, ho225⟩ := obind ho225
 refine W_join [0, 3, 4, 5, 6, 7, 8] (fun l h => ∃ Z279 : Zn, ∃ x280 : Int, x280 = o277 ∧ l = [(0, v2), (3, .string ⟨⟨x245.b ++ x268.b⟩⟩), (4, V x280), (5, V x230), (6, V (imin (a0.length : Int) 12)), (7, V x231), (8, V r255)] ∧ St hs [] Z (0, 0) Z279 h []) ?_ ?_
 rintro l h281 ⟨Z279, x280, rfl, rfl, hS282⟩
 try dsimp only at ho225
 obtain ⟨o285, ho284, ho225⟩ := obind ho225
 refine W_seqJoin0 [0, 3, 4, 5, 6, 7] (fun l h => ∃ Z287 : Zn, ∃ x288 : Int, x288 = o285 ∧ l = [(0, v2), (3, .string ⟨⟨x245.b ++ x268.b⟩⟩), (4, V x280), (5, V x288), (6, V (imin (a0.length : Int) 12)), (7, V x231)] ∧ St hs [] Z (0, 0) Z287 h []) (by kernel_rfl) ?_ ?_
 rintro l h289 ⟨Z287, x288, rfl, rfl, hS290⟩
 try dsimp only at ho225
 refine rg r6_8 ?_
 refine xe 3 [(7, V (w64 (x231 + 1))), (0, v2), (3, .string ⟨⟨x245.b ++ x268.b⟩⟩), (4, V x280), (5, V x288), (6, V (imin (a0.length : Int) 12))] ?_
 exact ⟨n234, Nat.lt_succ_self _, ⟨_, (⟨x245.b ++ x268.b⟩ : Str), x280, x288, w64 (x231 + 1), ho225, rfl, hS290⟩⟩
 refine rg r6_15 ?_
 refine xq 1 [(53, V r255), (0, v2), (3, .string ⟨⟨x245.b ++ x268.b⟩⟩), (4, V x280), (5, V x230), (6, V (imin (a0.length : Int) 12)), (7, V x231)] ?_
 rcases ifs ho284 with ⟨hp286, ho284⟩ | ⟨hp286, ho284⟩
 refine r_step rfl trivial (o_cmp rfl rfl (c_neq_F hp286)) ?_
 refine xf [(54, .bool false), (0, v2), (3, .string ⟨⟨x245.b ++ x268.b⟩⟩), (4, V x280), (5, V x230), (6, V (imin (a0.length : Int) 12)), (7, V x231)] ?_
 refine kF 54 rfl ?_
 obtain rfl := si ho284
 exact ⟨_, x230, rfl, rfl, hS282⟩
 refine r_step rfl trivial (o_cmp rfl rfl (c_neq_T hp286)) ?_
 refine xf [(54, .bool true), (0, v2), (3, .string ⟨⟨x245.b ++ x268.b⟩⟩), (4, V x280), (5, V x230), (6, V (imin (a0.length : Int) 12)), (7, V x231)] ?_
 refine cT 54 rfl ?_
 refine rg r6_16 ?_
 refine xe 3 [(5, V (w64 (x230 + 1))), (0, v2), (3, .string ⟨⟨x245.b ++ x268.b⟩⟩), (4, V x280), (6, V (imin (a0.length : Int) 12)), (7, V x231)] ?_
 obtain rfl := si ho284
 exact ⟨_, w64 (x230 + 1), rfl, rfl, hS282⟩
 refine sr r6_13 ?_
 refine xq 1 [(49, V r255), (3, .string ⟨⟨x245.b ++ x268.b⟩⟩), (8, V r255), (0, v2), (4, V x229), (5, V x230), (6, V (imin (a0.length : Int) 12)), (7, V x231)] ?_
 rcases ifs ho276 with ⟨hp278, ho276⟩ | ⟨hp278, ho276⟩
 refine r_step rfl trivial (o_cmp rfl rfl (c_gtr_T hp278)) ?_
 refine xf [(50, .bool true), (3, .string ⟨⟨x245.b ++ x268.b⟩⟩), (8, V r255), (0, v2), (4, V x229), (5, V x230), (6, V (imin (a0.length : Int) 12)), (7, V x231)] ?_
 refine cT 50 rfl ?_
 refine rg r6_14 ?_
 refine xe 3 [(4, V (w64 (x229 + 1))), (3, .string ⟨⟨x245.b ++ x268.b⟩⟩), (8, V r255), (0, v2), (5, V x230), (6, V (imin (a0.length : Int) 12)), (7, V x231)] ?_
 obtain rfl := si ho276
 exact ⟨_, w64 (x229 + 1), rfl, rfl, (hS264.takeN 0)⟩
 refine r_step rfl trivial (o_cmp rfl rfl (c_gtr_F hp278)) ?_
 refine xf [(50, .bool false), (3, .string ⟨⟨x245.b ++ x268.b⟩⟩), (8, V r255), (0, v2), (4, V x229), (5, V x230), (6, V (imin (a0.length : Int) 12)), (7, V x231)] ?_
 refine kF 50 rfl ?_
 obtain rfl := si ho276
 exact ⟨_, x229, rfl, rfl, (hS264.takeN 0)⟩
 refine sr r6_9 ?_
 refine xq 1 [(34, V x231), (0, v2), (3, .string ⟨⟨x228.b⟩⟩), (4, V x229), (5, V x230), (6, V (imin (a0.length : Int) 12)), (7, V x231)] ?_
 rcases ifs ho240 with ⟨hp242, ho240⟩ | ⟨hp242, ho240⟩
 refine r_step rfl trivial (o_cmp rfl rfl (c_gtr_T hp242)) ?_
 refine xf [(35, .bool true), (0, v2), (3, .string ⟨⟨x228.b⟩⟩), (4, V x229), (5, V x230), (6, V (imin (a0.length : Int) 12)), (7, V x231)] ?_
 refine cT 35 rfl ?_
 refine rg r6_10 ?_
 refine xq 1 [(36, .string ⟨⟨x228.b⟩⟩), (0, v2), (3, .string ⟨⟨x228.b⟩⟩), (4, V x229), (5, V x230), (6, V (imin (a0.length : Int) 12)), (7, V x231)] ?_
 obtain ⟨hc243, ho240⟩ := chk ho240
 refine r_step rfl trivial (o_sadd rfl rfl (by simpa using hc243)) ?_
 refine xe 1 [(3, .string ⟨⟨x228.b ++ [44, 32]⟩⟩), (0, v2), (4, V x229), (5, V x230), (6, V (imin (a0.length : Int) 12)), (7, V x231)] ?_
 obtain rfl := si ho240
 exact ⟨_, (⟨x228.b ++ [44, 32]⟩ : Str), rfl, rfl, hS233⟩
 refine r_step rfl trivial (o_cmp rfl rfl (c_gtr_F hp242)) ?_
 refine xf [(35, .bool false), (0, v2), (3, .string ⟨⟨x228.b⟩⟩), (4, V x229), (5, V x230), (6, V (imin (a0.length : Int) 12)), (7, V x231)] ?_
 refine kF 35 rfl ?_
 obtain rfl := si ho240
 exact ⟨_, x228, rfl, rfl, hS233⟩
 refine r_step rfl trivial (o_cmp rfl rfl (c_lss_F hp237)) ?_
 refine xf [(31, .bool false), (0, v2), (3, .string ⟨⟨x228.b⟩⟩), (4, V x229), (5, V x230), (6, V (imin (a0.length : Int) 12)), (7, V x231)] ?_
 refine cF 31 rfl ?_
 refine xt 0 ?_
 refine blkX_hit ?_
 obtain rfl := si ho225
 exact ⟨_, x228, x229, x230, rfl, rfl, hS233⟩
 refine r_setb (t := 24) rfl (Bool.eq_false_iff.2 hp26) ?_
 refine xe 1 [(25, .bool true), (0, v2)] ?_
 refine cT 25 rfl ?_
 refine sr r6_2 ?_
 refine xe 1 [(2, .bool false)] ?_
 refine rt ?_
 refine ⟨rfl, ?_⟩
 obtain rfl := si hm
 refine ⟨_, _, _, ResL.tmp rfl (ResL.nil), hS25, ?_⟩
 exact rfl

end Go.Proofs.Ytahcngeimlkcgaa.M
