/- Printed by a program of this session: Go functions as Lean functions over plain data, and that the calls come to them. -/
import Derived.Test.YtahcngeimlkcgaaSyJ
import Derived.Test.YtahcngeimlkcgaaChecked
import Derived.KernelRfl
import Derived.Test.YtahcngeimlkcgaaMV0
namespace Go.Proofs.Ytahcngeimlkcgaa.M
open Go Am Sy
open Sy.Cell (rc)
set_option linter.unusedVariables false
set_option linter.unusedSimpArgs false
set_option maxRecDepth 20000

def r4_0 : List COp := [u 2 (.assign (.const (.bool false)))]
def r4_1 : List COp := [u 15 (cf 8 #[] #[]), u 16 (.unOp .not 4 (t 15))]
def r4_2 : List COp := [u 2 (.assign (.const (.bool false)))]
def r4_3 : List COp := [u 3 (.assign (.const (.string { data := #[91] })))]
def r4_4 : List COp := [u 4 (.assign (ci 0)), u 5 (.assign (ci 0))]
def r4_5 : List COp := [u 6 (.assign (.const (.bool false)))]
def r4_6 : List COp := [u 7 (.assign (ci 0))]
def r4_7 : List COp := [u 17 (mv 7), u 18 (mv 0), u 19 (cb .len #[(t 18)] #[37]), u 20 (bo .lss 3 17 19 3), u 21 (mv 20), gt 21 22 (mv 7), gt 21 23 (bc .lss 3 22 20 3), u 24 (pf 21 23)]
def r4_8 : List COp := [u 25 (mv 7), u 26 (bc .add 3 25 1 3), u 7 (sg 26)]
def r4_9 : List COp := [u 27 (mv 0), u 28 (mv 7), u 29 (ia 37 27 28), u 30 (ld 4 29), u 31 (mv 30), gt 31 32 (mv 6), gt 31 33 (.unOp .not 4 (t 32)), u 34 (pf 31 33)]
def r4_10 : List COp := [u 35 (mv 3), u 36 (.binOp .add 9 (t 35) (.const (.string { data := #[97] })) 9), u 3 (sg 36)]
def r4_11 : List COp := [u 37 (mv 5), u 38 (bc .add 3 37 1 3), u 5 (sg 38)]
def r4_12 : List COp := [u 6 (.assign (.const (.bool true)))]
def r4_13 : List COp := [u 39 (mv 3), u 40 (.binOp .add 9 (t 39) (.const (.string { data := #[44] })) 9), u 3 (sg 40)]
def r4_14 : List COp := [u 41 (mv 6), u 42 (.unOp .not 4 (t 41))]
def r4_15 : List COp := [u 43 (mv 4), u 44 (bc .add 3 43 1 3), u 4 (sg 44)]
def r4_16 : List COp := [u 6 (.assign (.const (.bool false)))]
def r4_17 : List COp := [u 46 (mv 3), u 47 (.binOp .add 9 (t 46) (.const (.string { data := #[93] })) 9), u 48 (cf 13 #[(t 47)] #[9]), u 45 (mv 48), u 49 (.extract (t 45) 0), u 50 (.extract (t 45) 1), u 51 (.extract (t 45) 2), u 52 (.extract (t 45) 3), u 53 (.extract (t 45) 4), u 8 (.alloc 29), o (.store 29 (t 8) (t 49)), u 9 (sg 50), u 10 (sg 51), u 11 (sg 52), u 12 (sg 53)]
def r4_18 : List COp := [u 54 (mv 9), u 55 (bc .neq 3 54 1 3), u 56 (mv 55), gn 56 57 (mv 10), gn 56 58 (mv 12), gn 56 59 (bo .neq 3 57 58 3), u 60 (pt 56 59), u 61 (mv 60), gn 61 62 (mv 11), gn 61 63 (cb .len #[(t 62)] #[30]), gn 61 64 (mv 4), gn 61 65 (bo .neq 3 63 64 3), u 66 (pt 61 65)]
def r4_19 : List COp := [u 2 (.assign (.const (.bool false)))]
def r4_20 : List COp := [u 13 (.assign (ci 0))]
def r4_21 : List COp := [u 14 (.assign (ci 0))]
def r4_22 : List COp := [u 67 (mv 14), u 68 (fa 29 8 0), u 69 (ld 27 68), u 70 (cb .len #[(t 69)] #[27]), u 71 (bo .lss 3 67 70 3)]
def r4_23 : List COp := [u 72 (mv 14), u 73 (bc .add 3 72 1 3), u 14 (sg 73)]
def r4_24 : List COp := [u 74 (fa 29 8 0), u 75 (ld 27 74), u 76 (mv 14), u 77 (ia 27 75 76), u 78 (fa 42 77 0), u 79 (ld 3 78), u 80 (bc .eql 3 79 7 3)]
def r4_25 : List COp := [u 81 (mv 13), u 82 (bc .add 3 81 1 3), u 13 (sg 82)]
def r4_26 : List COp := [u 83 (mv 13), u 84 (mv 5), u 85 (bo .eql 3 83 84 3), u 2 (sg 85)]
def correctorlaw11_FlowCommas_l0 (F : Nat) (a0 : List Bool) : Nat → Str → Int → Int → Bool → Int → Option (Str × Int × Int)
 | 0, _, _, _, _, _ => none
 | n + 1, x190, x191, x192, x193, x194 =>
  if x194 < (a0.length : Int) then
   if x194 < (20 : Int) then
    ((((if 0 ≤ x194 ∧ x194 < (a0.length : Int) then
       (a0[x194.toNat]?).bind fun x238 =>
       if x238 = true then
        if x193 = true then
         some (.inl ())
        else
         if x190.b.length + ([97] : List UInt8).length ≤ 4611686018427387904 then
          some (.inr ((⟨x190.b ++ [97]⟩ : Str), x191, w64 (x192 + 1), true))
         else none
       else
        some (.inl ())
      else none) : Option (Sum Unit (Str × Int × Int × Bool))).bind fun o => match o with
      | .inl () => if x190.b.length + ([44] : List UInt8).length ≤ 4611686018427387904 then
       ((if x193 = true then
         some x191
        else
         some (w64 (x191 + 1))) : Option Int).bind fun o => match o with
        | x256 => some ((⟨x190.b ++ [44]⟩ : Str), x256, x192, false)
      else none
      | .inr y => some y) : Option (Str × Int × Int × Bool)).bind fun o => match o with
     | (x265, x266, x267, x268) => correctorlaw11_FlowCommas_l0 F a0 n x265 x266 x267 x268 (w64 (x194 + 1))
   else
    some (x190, x191, x192)
  else
   some (x190, x191, x192)
def correctorlaw11_FlowCommas_l1 (F : Nat) (a0 : List Bool) : Nat → Int → (List api_Node) → Int → Int → Option (Int × Int)
 | 0, _, _, _, _ => none
 | n + 1, x443, x445, x448, x449 =>
  if x449 < (x445.length : Int) then
   ((if 0 ≤ x449 ∧ x449 < (x445.length : Int) then
     (x445[x449.toNat]?).bind fun x469 =>
     if x469.Kind = (7 : Int) then
      some (x445, w64 (x448 + 1))
     else
      some (x445, x448)
    else none) : Option ((List api_Node) × Int)).bind fun o => match o with
    | (x480, x483) => correctorlaw11_FlowCommas_l1 F a0 n x443 x480 x483 (w64 (x449 + 1))
  else
   some (x443, x448)
def correctorlaw11_FlowCommas (F : Nat) (a0 : List Bool) : Option Bool :=
 (correctorlaw11_known F).bind fun r19 =>
 if r19 = true then
  ((correctorlaw11_FlowCommas_l0 F a0 F (⟨[91]⟩ : Str) 0 0 false 0) : Option (Str × Int × Int)).bind fun o => match o with
   | (x279, x280, x281) => if x279.b.length + ([93] : List UInt8).length ≤ 4611686018427387904 then
    (correctorlaw11_value F (⟨x279.b ++ [93]⟩ : Str)).bind fun r285 =>
    if r285.2.1 = (1 : Int) then
     if r285.2.2.1 = r285.2.2.2.2 then
      if (r285.2.2.2.1.length : Int) = x280 then
       ((correctorlaw11_FlowCommas_l1 F a0 F x281 r285.1.Nodes 0 0) : Option (Int × Int)).bind fun o => match o with
        | (x494, x495) => if x495 = x494 then
         some true
        else
         some false
      else
       some false
     else
      some false
    else
     some false
   else none
 else
  some false
theorem correctorlaw11_FlowCommas_ok (F : Nat) {h : AH} {Z : Zn} {a0 : List Bool} {v2 : Value} (hI : Inv Z h) (q1 : RS (α := Bool) Z v2 a0) {r : Bool} (hm : correctorlaw11_FlowCommas F a0 = some r) :
  ∃ v h', callI Try.prog 4 [v2] h = some (v, h') ∧ St h [] Z (0, 0) Z h' [] ∧ v = .bool r := by
 refine fn_plain (Q := fun v => v = .bool r) Try.func4 rfl rfl hI ?_
 intro hs hS
 unfold correctorlaw11_FlowCommas at hm
 refine sr r4_0 ?_
 refine xe 1 [(0, v2)] ?_
 refine sq ?_
 refine sr r4_1 ?_
 obtain ⟨r19, hx20, hm⟩ := obind hm
 obtain ⟨v21, h22, hcl23, hSc24, rfl⟩ := correctorlaw11_known_ok F hS.inv  hx20
 have hS25 := St.call (A := []) (B := []) hS hSc24
 replace hS25 : St _ _ _ _ _ _ [] := hS25
 refine r_step rfl trivial (o_call hcl23 rfl rfl rfl) ?_
 rcases ifs hm with ⟨hp26, hm⟩ | ⟨hp26, hm⟩
 refine r_setb (t := 15) rfl hp26 ?_
 refine xe 1 [(16, .bool false), (0, v2)] ?_
 refine kF 16 rfl ?_
 refine sr r4_3 ?_
 refine xe 1 [(3, .string ⟨⟨[91]⟩⟩), (0, v2)] ?_
 refine sr r4_4 ?_
 refine xe 2 [(5, V 0), (4, V 0), (3, .string ⟨⟨[91]⟩⟩), (0, v2)] ?_
 refine sr r4_5 ?_
 refine xe 1 [(6, .bool false), (5, V 0), (4, V 0), (3, .string ⟨⟨[91]⟩⟩), (0, v2)] ?_
 refine sq ?_
 refine sr r4_6 ?_
 refine xe 1 [(7, V 0), (6, .bool false), (5, V 0), (4, V 0), (3, .string ⟨⟨[91]⟩⟩), (0, v2)] ?_
 obtain ⟨o188, ho187, hm⟩ := obind hm
 refine W_join [3, 4, 5] (fun l h => ∃ Z278 : Zn, ∃ x279 : Str, ∃ x280 : Int, ∃ x281 : Int, (x279, x280, x281) = o188 ∧ l = [(3, .string ⟨⟨x279.b⟩⟩), (4, V x280), (5, V x281)] ∧ St hs [] Z (0, 0) Z278 h []) ?_ ?_
 rintro l h282 ⟨Z278, x279, x280, x281, rfl, rfl, hS283⟩
 try dsimp only at hm
 refine sr r4_17 ?_
 refine xq 1 [(46, .string ⟨⟨x279.b⟩⟩), (4, V x280), (5, V x281)] ?_
 obtain ⟨hc284, hm⟩ := chk hm
 refine r_step rfl trivial (o_sadd rfl rfl (by simpa using hc284)) ?_
 obtain ⟨r285, hx286, hm⟩ := obind hm
 have hSr292 : St _ _ _ _ _ _ ([] ++ []) := hS283
 obtain ⟨v287, h288, Z293, A295, hcl289, hSc290, v297, v299, c300, rfl, rfl, q296, q298⟩ := correctorlaw11_value_ok F hSr292.preL  hx286
 have hS291 := hSr292.call hSc290
 have hZ294 := hSc290.zle
 replace hS291 : St _ _ _ _ _ _ [.gs v299 c300 (csz api_Diag)] := hS291
 refine r_step rfl trivial (o_call hcl289 rfl rfl rfl) ?_
 refine xq 6 [(53, V r285.2.2.2.2), (52, v299), (51, V r285.2.2.1), (50, V r285.2.1), (49, .agg #[v297]), (4, V x280), (5, V x281)] ?_
 refine r_blk rfl trivial (o_alloc (cs := [.slice none 0 0]) (by kernel_rfl)) hS291 ?_
 intro b301 h302 hS303
 refine r_ex1 rfl trivial (o_stb (vs := [v297]) (cells' := [v297]) (L' := [.blk b301 [v297], .gs v299 c300 (csz api_Diag)]) hS303 (i := 0) rfl rfl rfl rfl (by kernel_rfl) (one_cons (RS.one1 q296) one_nil) rfl rfl rfl) ?_
 intro h304 hS305
 refine xe 4 [(12, V r285.2.2.2.2), (11, v299), (10, V r285.2.2.1), (9, V r285.2.1), (8, Pt b301 0), (4, V x280), (5, V x281)] ?_
 refine sq ?_
 refine sr r4_18 ?_
 refine xq 1 [(54, V r285.2.1), (12, V r285.2.2.2.2), (11, v299), (10, V r285.2.2.1), (8, Pt b301 0), (4, V x280), (5, V x281)] ?_
 rcases ifs hm with ⟨hp312, hm⟩ | ⟨hp312, hm⟩
 refine r_step rfl trivial (o_cmp rfl rfl (c_neq_F hp312)) ?_
 refine xq 3 [(58, V r285.2.2.2.2), (57, V r285.2.2.1), (56, .bool false), (11, v299), (8, Pt b301 0), (4, V x280), (5, V x281)] ?_
 rcases ifs hm with ⟨hp313, hm⟩ | ⟨hp313, hm⟩
 refine r_step rfl rfl (o_cmp rfl rfl (c_neq_F hp313)) ?_
 refine xq 3 [(62, v299), (61, .bool false), (8, Pt b301 0), (4, V x280), (5, V x281)] ?_
 refine r_step rfl rfl (o_len rfl (hS305.glen (i := 1) rfl q298) ⟨_, Try.underlying30⟩) ?_
 refine xq 1 [(64, V x280), (63, V (r285.2.2.2.1.length : Int)), (61, .bool false), (8, Pt b301 0), (5, V x281)] ?_
 rcases ifs hm with ⟨hp314, hm⟩ | ⟨hp314, hm⟩
 refine r_step rfl rfl (o_cmp rfl rfl (c_neq_F hp314)) ?_
 refine xe 1 [(66, .bool false), (8, Pt b301 0), (5, V x281)] ?_
 refine kF 66 rfl ?_
 refine sr r4_20 ?_
 refine xe 1 [(13, V 0), (8, Pt b301 0), (5, V x281)] ?_
 refine sq ?_
 refine sr r4_21 ?_
 refine xe 1 [(14, V 0), (13, V 0), (8, Pt b301 0), (5, V x281)] ?_
 obtain ⟨o441, ho440, hm⟩ := obind hm
 refine W_join [5, 13] (fun l h => ∃ Z493 : Zn, ∃ x494 : Int, ∃ x495 : Int, (x494, x495) = o441 ∧ l = [(5, V x494), (13, V x495)] ∧ St hs [] Z (0, 0) Z493 h []) ?_ ?_
 rintro l h496 ⟨Z493, x494, x495, rfl, rfl, hS497⟩
 try dsimp only at hm
 refine sr r4_26 ?_
 refine xq 2 [(84, V x494), (83, V x495)] ?_
 rcases ifs hm with ⟨hp498, hm⟩ | ⟨hp498, hm⟩
 refine r_step rfl trivial (o_cmp rfl rfl (c_eql_T hp498)) ?_
 refine xe 1 [(2, .bool true)] ?_
 refine rt ?_
 refine ⟨rfl, ?_⟩
 obtain rfl := si hm
 refine ⟨_, _, _, ResL.tmp rfl (ResL.nil), hS497, ?_⟩
 exact rfl
 refine r_step rfl trivial (o_cmp rfl rfl (c_eql_F hp498)) ?_
 refine xe 1 [(2, .bool false)] ?_
 refine rt ?_
 refine ⟨rfl, ?_⟩
 obtain rfl := si hm
 refine ⟨_, _, _, ResL.tmp rfl (ResL.nil), hS497, ?_⟩
 exact rfl
 refine bk 2 ?_
 refine lp [5, 8, 13, 14] (fun n l h => ∃ Z442 : Zn, ∃ x443 : Int, ∃ x445 : List api_Node, ∃ x448 : Int, ∃ x449 : Int, ∃ b444 : Nat, ∃ v447 : Value, correctorlaw11_FlowCommas_l1 F a0 n x443 x445 x448 x449 = some o441 ∧ RS (α := api_Node) Z442 v447 x445 ∧ l = [(5, V x443), (8, Pt b444 0), (13, V x448), (14, V x449)] ∧ St hs [] Z (0, 0) Z442 h [.blk b444 [v447]]) F ⟨_, x281, r285.1.Nodes, 0, 0, b301, v297, ho440, q296, rfl, (hS305.takeN 1)⟩ ?_
 rintro n452 l h450 ⟨Z442, x443, x445, x448, x449, b444, v447, ho440, q446, rfl, hS451⟩
 rcases n452 with _ | n452
 cases (show none = some o441 from ho440)
 rw [correctorlaw11_FlowCommas_l1] at ho440
 refine sq ?_
 refine sr r4_22 ?_
 refine xq 2 [(68, Pt b444 0), (67, V x449), (5, V x443), (8, Pt b444 0), (13, V x448), (14, V x449)] ?_
 refine r_step rfl trivial (o_ldb (v := v447) hS451 (i := 0) rfl rfl (by kernel_rfl)) ?_
 refine r_step rfl trivial (o_len rfl (RS.len q446) ⟨_, Try.underlying27⟩) ?_
 rcases ifs ho440 with ⟨hp455, ho440⟩ | ⟨hp455, ho440⟩
 refine r_step rfl trivial (o_cmp rfl rfl (c_lss_T hp455)) ?_
 refine xf [(71, .bool true), (5, V x443), (8, Pt b444 0), (13, V x448), (14, V x449)] ?_
 refine kT 71 rfl ?_
 refine sq ?_
 refine bk 3 ?_
 obtain ⟨o467, ho466, ho440⟩ := obind ho440
 refine W_seqJoin0 [5, 8, 13, 14] (fun l h => ∃ Z478 : Zn, ∃ x480 : List api_Node, ∃ x483 : Int, ∃ b479 : Nat, ∃ v482 : Value, (x480, x483) = o467 ∧ RS (α := api_Node) Z478 v482 x480 ∧ l = [(5, V x443), (8, Pt b479 0), (13, V x483), (14, V x449)] ∧ St hs [] Z (0, 0) Z478 h [.blk b479 [v482]]) (by kernel_rfl) ?_ ?_
 rintro l h484 ⟨Z478, x480, x483, b479, v482, rfl, q481, rfl, hS485⟩
 try dsimp only at ho440
 refine rg r4_23 ?_
 refine xe 3 [(14, V (w64 (x449 + 1))), (5, V x443), (8, Pt b479 0), (13, V x483)] ?_
 exact ⟨n452, Nat.lt_succ_self _, ⟨_, x443, x480, x483, w64 (x449 + 1), b479, v482, ho440, q481, rfl, hS485⟩⟩
 refine rg r4_24 ?_
 refine xq 1 [(74, Pt b444 0), (5, V x443), (8, Pt b444 0), (13, V x448), (14, V x449)] ?_
 refine r_step rfl trivial (o_ldb (v := v447) hS451 (i := 0) rfl rfl (by kernel_rfl)) ?_
 refine xq 1 [(76, V x449), (75, v447), (5, V x443), (8, Pt b444 0), (13, V x448), (14, V x449)] ?_
 obtain ⟨hc468, ho466⟩ := chk ho466
 refine r_step rfl trivial (o_index rfl rfl (by kernel_rfl : slTy _ _ = some (csz api_Node)) (RS.based q446 (by omega)) hc468.1 hc468.2) ?_
 refine xq 1 [(78, .pointer (some (elemA v447 x449 (csz api_Node) 0))), (5, V x443), (8, Pt b444 0), (13, V x448), (14, V x449)] ?_
 obtain ⟨x469, hx470, ho466⟩ := obind ho466
 obtain ⟨cs471, hc472, he473⟩ := RS.elz q446 (i := x449) hx470
 obtain ⟨v475, q476, rfl⟩ := rc_api_Node hc472
 refine r_step rfl trivial (o_lde (w := V x469.Kind) (he473 _ (hS451.zin0 (Zle.refl _))) rfl (by kernel_rfl)) ?_
 rcases ifs ho466 with ⟨hp477, ho466⟩ | ⟨hp477, ho466⟩
 refine r_step rfl trivial (o_cmp rfl rfl (c_eql_T hp477)) ?_
 refine xf [(80, .bool true), (5, V x443), (8, Pt b444 0), (13, V x448), (14, V x449)] ?_
 refine cT 80 rfl ?_
 refine rg r4_25 ?_
 refine xe 3 [(13, V (w64 (x448 + 1))), (5, V x443), (8, Pt b444 0), (14, V x449)] ?_
 obtain rfl := si ho466
 exact ⟨_, x445, w64 (x448 + 1), b444, v447, rfl, q446, rfl, hS451⟩
 refine r_step rfl trivial (o_cmp rfl rfl (c_eql_F hp477)) ?_
 refine xf [(80, .bool false), (5, V x443), (8, Pt b444 0), (13, V x448), (14, V x449)] ?_
 refine kF 80 rfl ?_
 obtain rfl := si ho466
 exact ⟨_, x445, x448, b444, v447, rfl, q446, rfl, hS451⟩
 refine r_step rfl trivial (o_cmp rfl rfl (c_lss_F hp455)) ?_
 refine xf [(71, .bool false), (5, V x443), (8, Pt b444 0), (13, V x448), (14, V x449)] ?_
 refine cF 71 rfl ?_
 refine xt 2 ?_
 refine blkX_hit ?_
 obtain rfl := si ho440
 exact ⟨_, x443, x448, rfl, rfl, (hS451.takeN 0)⟩
 refine r_step rfl rfl (o_cmp rfl rfl (c_neq_T hp314)) ?_
 refine xe 1 [(66, .bool true), (8, Pt b301 0), (5, V x281)] ?_
 refine cT 66 rfl ?_
 refine sr r4_19 ?_
 refine xe 1 [(2, .bool false)] ?_
 refine rt ?_
 refine ⟨rfl, ?_⟩
 obtain rfl := si hm
 refine ⟨_, _, _, ResL.tmp rfl (ResL.nil), hS305, ?_⟩
 exact rfl
 refine r_step rfl rfl (o_cmp rfl rfl (c_neq_T hp313)) ?_
 refine xe 7 [(66, .bool true), (8, Pt b301 0), (5, V x281)] ?_
 refine cT 66 rfl ?_
 refine sr r4_19 ?_
 refine xe 1 [(2, .bool false)] ?_
 refine rt ?_
 refine ⟨rfl, ?_⟩
 obtain rfl := si hm
 refine ⟨_, _, _, ResL.tmp rfl (ResL.nil), hS305, ?_⟩
 exact rfl
 refine r_step rfl trivial (o_cmp rfl rfl (c_neq_T hp312)) ?_
 refine xe 11 [(66, .bool true), (8, Pt b301 0), (5, V x281)] ?_
 refine cT 66 rfl ?_
 refine sr r4_19 ?_
 refine xe 1 [(2, .bool false)] ?_
 refine rt ?_
 refine ⟨rfl, ?_⟩
 obtain rfl := si hm
 refine ⟨_, _, _, ResL.tmp rfl (ResL.nil), hS305, ?_⟩
 exact rfl
 refine bk 0 ?_
 refine lp [0, 3, 4, 5, 6, 7] (fun n l h => ∃ Z189 : Zn, ∃ x190 : Str, ∃ x191 : Int, ∃ x192 : Int, ∃ x193 : Bool, ∃ x194 : Int, correctorlaw11_FlowCommas_l0 F a0 n x190 x191 x192 x193 x194 = some o188 ∧ l = [(0, v2), (3, .string ⟨⟨x190.b⟩⟩), (4, V x191), (5, V x192), (6, .bool x193), (7, V x194)] ∧ St hs [] Z (0, 0) Z189 h []) F ⟨_, (⟨[91]⟩ : Str), 0, 0, false, 0, ho187, rfl, hS25⟩ ?_
 rintro n197 l h195 ⟨Z189, x190, x191, x192, x193, x194, ho187, rfl, hS196⟩
 rcases n197 with _ | n197
 cases (show none = some o188 from ho187)
 rw [correctorlaw11_FlowCommas_l0] at ho187
 refine sq ?_
 refine sr r4_7 ?_
 refine xq 2 [(18, v2), (17, V x194), (0, v2), (3, .string ⟨⟨x190.b⟩⟩), (4, V x191), (5, V x192), (6, .bool x193), (7, V x194)] ?_
 refine r_step rfl trivial (o_len rfl (RS.len (q1.mono hS196.zle)) ⟨_, Try.underlying37⟩) ?_
 rcases ifs ho187 with ⟨hp202, ho187⟩ | ⟨hp202, ho187⟩
 refine r_step rfl trivial (o_cmp rfl rfl (c_lss_T hp202)) ?_
 refine xq 2 [(22, V x194), (21, .bool true), (0, v2), (3, .string ⟨⟨x190.b⟩⟩), (4, V x191), (5, V x192), (6, .bool x193), (7, V x194)] ?_
 rcases ifs ho187 with ⟨hp203, ho187⟩ | ⟨hp203, ho187⟩
 refine r_step rfl rfl (o_cmp rfl rfl (c_lss_T hp203)) ?_
 refine xe 1 [(24, .bool true), (0, v2), (3, .string ⟨⟨x190.b⟩⟩), (4, V x191), (5, V x192), (6, .bool x193), (7, V x194)] ?_
 refine kT 24 rfl ?_
 refine sq ?_
 obtain ⟨o224, ho223, ho187⟩ := obind ho187
 refine W_join [0, 3, 4, 5, 6, 7] (fun l h => ∃ Z264 : Zn, ∃ x265 : Str, ∃ x266 : Int, ∃ x267 : Int, ∃ x268 : Bool, (x265, x266, x267, x268) = o224 ∧ l = [(0, v2), (3, .string ⟨⟨x265.b⟩⟩), (4, V x266), (5, V x267), (6, .bool x268), (7, V x194)] ∧ St hs [] Z (0, 0) Z264 h []) ?_ ?_
 rintro l h269 ⟨Z264, x265, x266, x267, x268, rfl, rfl, hS270⟩
 try dsimp only at ho187
 refine rg r4_8 ?_
 refine xe 3 [(7, V (w64 (x194 + 1))), (0, v2), (3, .string ⟨⟨x265.b⟩⟩), (4, V x266), (5, V x267), (6, .bool x268)] ?_
 exact ⟨n197, Nat.lt_succ_self _, ⟨_, x265, x266, x267, x268, w64 (x194 + 1), ho187, rfl, hS270⟩⟩
 refine bk 1 ?_
 refine sq ?_
 obtain ⟨o236, ho235, ho223⟩ := obind ho223
 refine W_join [0, 3, 4, 5, 6, 7] (fun l h => ∃ Z247 : Zn, .inl () = o236 ∧ l = [(0, v2), (3, .string ⟨⟨x190.b⟩⟩), (4, V x191), (5, V x192), (6, .bool x193), (7, V x194)] ∧ St hs [] Z (0, 0) Z247 h []) ?_ ?_
 rintro l h248 ⟨Z247, rfl, rfl, hS249⟩
 try dsimp only at ho223
 refine sr r4_13 ?_
 refine xq 1 [(39, .string ⟨⟨x190.b⟩⟩), (0, v2), (3, .string ⟨⟨x190.b⟩⟩), (4, V x191), (5, V x192), (6, .bool x193), (7, V x194)] ?_
 obtain ⟨hc250, ho223⟩ := chk ho223
 refine r_step rfl trivial (o_sadd rfl rfl (by simpa using hc250)) ?_
 refine xe 1 [(3, .string ⟨⟨x190.b ++ [44]⟩⟩), (0, v2), (4, V x191), (5, V x192), (6, .bool x193), (7, V x194)] ?_
 refine sq ?_
 obtain ⟨o253, ho252, ho223⟩ := obind ho223
 refine W_seqJoin0 [0, 3, 4, 5, 7] (fun l h => ∃ Z255 : Zn, ∃ x256 : Int, x256 = o253 ∧ l = [(0, v2), (3, .string ⟨⟨x190.b ++ [44]⟩⟩), (4, V x256), (5, V x192), (7, V x194)] ∧ St hs [] Z (0, 0) Z255 h []) (by kernel_rfl) ?_ ?_
 rintro l h257 ⟨Z255, x256, rfl, rfl, hS258⟩
 try dsimp only at ho223
 refine rg r4_16 ?_
 refine xe 1 [(6, .bool false), (0, v2), (3, .string ⟨⟨x190.b ++ [44]⟩⟩), (4, V x256), (5, V x192), (7, V x194)] ?_
 obtain rfl := si ho223
 exact ⟨_, (⟨x190.b ++ [44]⟩ : Str), x256, x192, false, rfl, rfl, hS258⟩
 refine rg r4_14 ?_
 refine xq 1 [(41, .bool x193), (3, .string ⟨⟨x190.b ++ [44]⟩⟩), (0, v2), (4, V x191), (5, V x192), (7, V x194)] ?_
 rcases ifs ho252 with ⟨hp254, ho252⟩ | ⟨hp254, ho252⟩
 refine r_setb (t := 41) rfl hp254 ?_
 refine xe 1 [(42, .bool false), (3, .string ⟨⟨x190.b ++ [44]⟩⟩), (0, v2), (4, V x191), (5, V x192), (7, V x194)] ?_
 refine kF 42 rfl ?_
 obtain rfl := si ho252
 exact ⟨_, x191, rfl, rfl, hS249⟩
 refine r_setb (t := 41) rfl (Bool.eq_false_iff.2 hp254) ?_
 refine xe 1 [(42, .bool true), (3, .string ⟨⟨x190.b ++ [44]⟩⟩), (0, v2), (4, V x191), (5, V x192), (7, V x194)] ?_
 refine cT 42 rfl ?_
 refine rg r4_15 ?_
 refine xe 3 [(4, V (w64 (x191 + 1))), (3, .string ⟨⟨x190.b ++ [44]⟩⟩), (0, v2), (5, V x192), (7, V x194)] ?_
 obtain rfl := si ho252
 exact ⟨_, w64 (x191 + 1), rfl, rfl, hS249⟩
 refine sr r4_9 ?_
 refine xq 2 [(28, V x194), (27, v2), (0, v2), (3, .string ⟨⟨x190.b⟩⟩), (4, V x191), (5, V x192), (6, .bool x193), (7, V x194)] ?_
 obtain ⟨hc237, ho235⟩ := chk ho235
 refine r_step rfl trivial (o_index rfl rfl (by kernel_rfl : slTy _ _ = some (csz Bool)) (RS.based (q1.mono hS196.zle) (by omega)) hc237.1 hc237.2) ?_
 obtain ⟨x238, hx239, ho235⟩ := obind ho235
 obtain ⟨cs240, hc241, he242⟩ := RS.elz (q1.mono hS196.zle) (i := x194) hx239
 obtain rfl := rc_Bool hc241
 refine r_step rfl trivial (o_lde (w := .bool x238) (he242 _ (hS196.zin0 (Zle.refl _))) rfl (by kernel_rfl)) ?_
 refine xq 1 [(31, .bool x238), (0, v2), (3, .string ⟨⟨x190.b⟩⟩), (4, V x191), (5, V x192), (6, .bool x193), (7, V x194)] ?_
 rcases ifs ho235 with ⟨hp244, ho235⟩ | ⟨hp244, ho235⟩
 refine r_setb (t := 31) rfl hp244 ?_
 refine xq 1 [(32, .bool x193), (31, .bool true), (0, v2), (3, .string ⟨⟨x190.b⟩⟩), (4, V x191), (5, V x192), (6, .bool x193), (7, V x194)] ?_
 rcases ifs ho235 with ⟨hp245, ho235⟩ | ⟨hp245, ho235⟩
 refine r_setb (t := 32) rfl hp245 ?_
 refine xe 2 [(34, .bool false), (0, v2), (3, .string ⟨⟨x190.b⟩⟩), (4, V x191), (5, V x192), (6, .bool x193), (7, V x194)] ?_
 refine kF 34 rfl ?_
 obtain rfl := si ho235
 exact ⟨_, rfl, rfl, hS196⟩
 refine r_setb (t := 32) rfl (Bool.eq_false_iff.2 hp245) ?_
 refine xe 2 [(34, .bool true), (0, v2), (3, .string ⟨⟨x190.b⟩⟩), (4, V x191), (5, V x192), (6, .bool x193), (7, V x194)] ?_
 refine cT 34 rfl ?_
 refine sr r4_10 ?_
 refine xq 1 [(35, .string ⟨⟨x190.b⟩⟩), (0, v2), (3, .string ⟨⟨x190.b⟩⟩), (4, V x191), (5, V x192), (7, V x194)] ?_
 obtain ⟨hc246, ho235⟩ := chk ho235
 refine r_step rfl trivial (o_sadd rfl rfl (by simpa using hc246)) ?_
 refine xe 1 [(3, .string ⟨⟨x190.b ++ [97]⟩⟩), (0, v2), (4, V x191), (5, V x192), (7, V x194)] ?_
 refine sr r4_11 ?_
 refine xe 3 [(5, V (w64 (x192 + 1))), (3, .string ⟨⟨x190.b ++ [97]⟩⟩), (0, v2), (4, V x191), (7, V x194)] ?_
 refine sr r4_12 ?_
 refine xe 1 [(6, .bool true), (5, V (w64 (x192 + 1))), (3, .string ⟨⟨x190.b ++ [97]⟩⟩), (0, v2), (4, V x191), (7, V x194)] ?_
 refine xt 1 ?_
 refine blkX_hit ?_
 obtain rfl := si ho235
 obtain rfl := si ho223
 exact ⟨_, (⟨x190.b ++ [97]⟩ : Str), x191, w64 (x192 + 1), true, rfl, rfl, hS196⟩
 refine r_setb (t := 31) rfl (Bool.eq_false_iff.2 hp244) ?_
 refine xe 3 [(34, .bool false), (0, v2), (3, .string ⟨⟨x190.b⟩⟩), (4, V x191), (5, V x192), (6, .bool x193), (7, V x194)] ?_
 refine kF 34 rfl ?_
 obtain rfl := si ho235
 exact ⟨_, rfl, rfl, hS196⟩
 refine r_step rfl rfl (o_cmp rfl rfl (c_lss_F hp203)) ?_
 refine xe 1 [(24, .bool false), (0, v2), (3, .string ⟨⟨x190.b⟩⟩), (4, V x191), (5, V x192), (6, .bool x193), (7, V x194)] ?_
 refine cF 24 rfl ?_
 refine xt 0 ?_
 refine blkX_hit ?_
 obtain rfl := si ho187
 exact ⟨_, x190, x191, x192, rfl, rfl, hS196⟩
 refine r_step rfl trivial (o_cmp rfl rfl (c_lss_F hp202)) ?_
 refine xe 4 [(24, .bool false), (0, v2), (3, .string ⟨⟨x190.b⟩⟩), (4, V x191), (5, V x192), (6, .bool x193), (7, V x194)] ?_
 refine cF 24 rfl ?_
 refine xt 0 ?_
 refine blkX_hit ?_
 obtain rfl := si ho187
 exact ⟨_, x190, x191, x192, rfl, rfl, hS196⟩
 refine r_setb (t := 15) rfl (Bool.eq_false_iff.2 hp26) ?_
 refine xe 1 [(16, .bool true), (0, v2)] ?_
 refine cT 16 rfl ?_
 refine sr r4_2 ?_
 refine xe 1 [(2, .bool false)] ?_
 refine rt ?_
 refine ⟨rfl, ?_⟩
 obtain rfl := si hm
 refine ⟨_, _, _, ResL.tmp rfl (ResL.nil), hS25, ?_⟩
 exact rfl

end Go.Proofs.Ytahcngeimlkcgaa.M
