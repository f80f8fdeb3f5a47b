/- Printed by a program of this session: Go functions as Lean functions over plain data, and that the calls come to them. -/
import Derived.Test.YtahcngeimlkcgaaSyJ
import Derived.Test.YtahcngeimlkcgaaChecked
import Derived.KernelRfl
import Derived.Test.YtahcngeimlkcgaaMF1
namespace Go.Proofs.Ytahcngeimlkcgaa.M
open Go Am Sy
open Sy.Cell (rc)
set_option linter.unusedVariables false
set_option linter.unusedSimpArgs false
set_option maxRecDepth 20000

def r14_0 : List COp := [u 2 (.assign (.const (.slice none 0 0)))]
def r14_1 : List COp := [u 6 (.buildSlice 45 21 #[(0, (.const (.string { data := #[91] }))), (1, (.const (.string { data := #[93] }))), (2, (.const (.string { data := #[123] }))), (3, (.const (.string { data := #[125] }))), (4, (.const (.string { data := #[44, 32] }))), (5, (.const (.string { data := #[97] }))), (6, (.const (.string { data := #[98, 58, 32] }))), (7, (.const (.string { data := #[99] }))), (8, (.const (.string { data := #[39, 113, 39] }))), (9, (.const (.string { data := #[38, 110, 32] }))), (10, (.const (.string { data := #[42, 110] }))), (11, (.const (.string { data := #[33, 116, 32] }))), (12, (.const (.string { data := #[58] }))), (13, (.const (.string { data := #[32] }))), (14, (.const (.string { data := #[10, 32] }))), (15, (.const (.string { data := #[35, 32, 99, 10] }))), (16, (.const (.string { data := #[34, 122, 34] }))), (17, (.const (.string { data := #[49] }))), (18, (.const (.string { data := #[44] }))), (19, (.const (.string { data := #[45, 45, 45, 10] }))), (20, (.const (.string { data := #[10, 45, 45, 45, 10] })))]), u 3 (sg 6)]
def r14_2 : List COp := [u 4 (.assign (.const (.string { data := #[91] })))]
def r14_3 : List COp := [u 5 (.assign (ci 0))]
def r14_4 : List COp := [u 7 (mv 5), u 8 (mv 0), u 9 (cb .len #[(t 8)] #[40]), u 10 (bo .lss 3 7 9 3), u 11 (mv 10), gt 11 12 (mv 5), gt 11 13 (bc .lss 3 12 40 3), u 14 (pf 11 13)]
def r14_5 : List COp := [u 15 (mv 5), u 16 (bc .add 3 15 1 3), u 5 (sg 16)]
def r14_6 : List COp := [u 17 (mv 4), u 18 (mv 3), u 19 (mv 0), u 20 (mv 5), u 21 (ia 40 19 20), u 22 (ld 3 21), u 23 (mv 3), u 24 (cb .len #[(t 23)] #[45]), u 25 (cf 9 #[(t 22), (t 24)] #[3, 3]), u 26 (ia 45 18 25), u 27 (ld 9 26), u 28 (bo .add 9 17 27 9), u 4 (sg 28)]
def r14_7 : List COp := [u 29 (mv 4), u 30 (.convert 9 24 (t 29)), u 2 (sg 30)]
def correctorlaw11_Flow_l0 (F : Nat) (a0 : List Int) : Nat → (List Str) → Str → Int → Option Str
 | 0, _, _, _ => none
 | n + 1, x82, x86, x87 =>
  if x87 < (a0.length : Int) then
   if x87 < (40 : Int) then
    if 0 ≤ x87 ∧ x87 < (a0.length : Int) then
     (a0[x87.toNat]?).bind fun x98 =>
     (correctorlaw11_within F x98 (x82.length : Int)).bind fun r104 =>
     if 0 ≤ r104 ∧ r104 < (x82.length : Int) then
      (x82[r104.toNat]?).bind fun x112 =>
      if x86.b.length + x112.b.length ≤ 4611686018427387904 then
       correctorlaw11_Flow_l0 F a0 n x82 (⟨x86.b ++ x112.b⟩ : Str) (w64 (x87 + 1))
      else none
     else none
    else none
   else
    some x86
  else
   some x86
def correctorlaw11_Flow (F : Nat) (a0 : List Int) : Option (List UInt8) :=
 ((correctorlaw11_Flow_l0 F a0 F [(⟨[91]⟩ : Str), (⟨[93]⟩ : Str), (⟨[123]⟩ : Str), (⟨[125]⟩ : Str), (⟨[44, 32]⟩ : Str), (⟨[97]⟩ : Str), (⟨[98, 58, 32]⟩ : Str), (⟨[99]⟩ : Str), (⟨[39, 113, 39]⟩ : Str), (⟨[38, 110, 32]⟩ : Str), (⟨[42, 110]⟩ : Str), (⟨[33, 116, 32]⟩ : Str), (⟨[58]⟩ : Str), (⟨[32]⟩ : Str), (⟨[10, 32]⟩ : Str), (⟨[35, 32, 99, 10]⟩ : Str), (⟨[34, 122, 34]⟩ : Str), (⟨[49]⟩ : Str), (⟨[44]⟩ : Str), (⟨[45, 45, 45, 10]⟩ : Str), (⟨[10, 45, 45, 45, 10]⟩ : Str)] (⟨[91]⟩ : Str) 0) : Option Str).bind fun o => match o with
  | x121 => some x121.b
theorem correctorlaw11_Flow_ok (F : Nat) {h : AH} {Z : Zn} {a0 : List Int} {v2 : Value} (hP : Pre Z h []) (q1 : RS (α := Int) Z v2 a0) {r : (List UInt8)} (hm : correctorlaw11_Flow F a0 = some r) :
  ∃ v h' Z' A', callI Try.prog 14 [v2] h = some (v, h') ∧ St h (idsL []) Z (0, 0) Z' h' A' ∧ ∃ v4 : Value, v4 = v ∧ A' = [] ∧ RS (α := UInt8) Z' v4 r := by
 refine fn_intro (A := []) (Q := fun v Z' A' => ∃ v4 : Value, v4 = v ∧ A' = [] ∧ RS (α := UInt8) Z' v4 r) Try.func14 rfl rfl (by kernel_rfl) hP ?_
 intro hs hS
 unfold correctorlaw11_Flow at hm
 replace hS : St hs [] Z (0, 0) Z hs [] := hS
 refine sr r14_0 ?_
 refine xe 1 [(0, v2)] ?_
 refine sr r14_1 ?_
 have q8 : RCs (α := Str) Z [.string ⟨⟨[91]⟩⟩, .string ⟨⟨[93]⟩⟩, .string ⟨⟨[123]⟩⟩, .string ⟨⟨[125]⟩⟩, .string ⟨⟨[44, 32]⟩⟩, .string ⟨⟨[97]⟩⟩, .string ⟨⟨[98, 58, 32]⟩⟩, .string ⟨⟨[99]⟩⟩, .string ⟨⟨[39, 113, 39]⟩⟩, .string ⟨⟨[38, 110, 32]⟩⟩, .string ⟨⟨[42, 110]⟩⟩, .string ⟨⟨[33, 116, 32]⟩⟩, .string ⟨⟨[58]⟩⟩, .string ⟨⟨[32]⟩⟩, .string ⟨⟨[10, 32]⟩⟩, .string ⟨⟨[35, 32, 99, 10]⟩⟩, .string ⟨⟨[34, 122, 34]⟩⟩, .string ⟨⟨[49]⟩⟩, .string ⟨⟨[44]⟩⟩, .string ⟨⟨[45, 45, 45, 10]⟩⟩, .string ⟨⟨[10, 45, 45, 45, 10]⟩⟩] [(⟨[91]⟩ : Str), (⟨[93]⟩ : Str), (⟨[123]⟩ : Str), (⟨[125]⟩ : Str), (⟨[44, 32]⟩ : Str), (⟨[97]⟩ : Str), (⟨[98, 58, 32]⟩ : Str), (⟨[99]⟩ : Str), (⟨[39, 113, 39]⟩ : Str), (⟨[38, 110, 32]⟩ : Str), (⟨[42, 110]⟩ : Str), (⟨[33, 116, 32]⟩ : Str), (⟨[58]⟩ : Str), (⟨[32]⟩ : Str), (⟨[10, 32]⟩ : Str), (⟨[35, 32, 99, 10]⟩ : Str), (⟨[34, 122, 34]⟩ : Str), (⟨[49]⟩ : Str), (⟨[44]⟩ : Str), (⟨[45, 45, 45, 10]⟩ : Str), (⟨[10, 45, 45, 45, 10]⟩ : Str)] := RCs.cons (cs := [.string ⟨⟨[91]⟩⟩]) rfl (RCs.cons (cs := [.string ⟨⟨[93]⟩⟩]) rfl (RCs.cons (cs := [.string ⟨⟨[123]⟩⟩]) rfl (RCs.cons (cs := [.string ⟨⟨[125]⟩⟩]) rfl (RCs.cons (cs := [.string ⟨⟨[44, 32]⟩⟩]) rfl (RCs.cons (cs := [.string ⟨⟨[97]⟩⟩]) rfl (RCs.cons (cs := [.string ⟨⟨[98, 58, 32]⟩⟩]) rfl (RCs.cons (cs := [.string ⟨⟨[99]⟩⟩]) rfl (RCs.cons (cs := [.string ⟨⟨[39, 113, 39]⟩⟩]) rfl (RCs.cons (cs := [.string ⟨⟨[38, 110, 32]⟩⟩]) rfl (RCs.cons (cs := [.string ⟨⟨[42, 110]⟩⟩]) rfl (RCs.cons (cs := [.string ⟨⟨[33, 116, 32]⟩⟩]) rfl (RCs.cons (cs := [.string ⟨⟨[58]⟩⟩]) rfl (RCs.cons (cs := [.string ⟨⟨[32]⟩⟩]) rfl (RCs.cons (cs := [.string ⟨⟨[10, 32]⟩⟩]) rfl (RCs.cons (cs := [.string ⟨⟨[35, 32, 99, 10]⟩⟩]) rfl (RCs.cons (cs := [.string ⟨⟨[34, 122, 34]⟩⟩]) rfl (RCs.cons (cs := [.string ⟨⟨[49]⟩⟩]) rfl (RCs.cons (cs := [.string ⟨⟨[44]⟩⟩]) rfl (RCs.cons (cs := [.string ⟨⟨[45, 45, 45, 10]⟩⟩]) rfl (RCs.cons (cs := [.string ⟨⟨[10, 45, 45, 45, 10]⟩⟩]) rfl (RCs.nil0 _)))))))))))))))))))))
 refine r_row rfl trivial (o_bs (cells := [.string ⟨⟨[91]⟩⟩, .string ⟨⟨[93]⟩⟩, .string ⟨⟨[123]⟩⟩, .string ⟨⟨[125]⟩⟩, .string ⟨⟨[44, 32]⟩⟩, .string ⟨⟨[97]⟩⟩, .string ⟨⟨[98, 58, 32]⟩⟩, .string ⟨⟨[99]⟩⟩, .string ⟨⟨[39, 113, 39]⟩⟩, .string ⟨⟨[38, 110, 32]⟩⟩, .string ⟨⟨[42, 110]⟩⟩, .string ⟨⟨[33, 116, 32]⟩⟩, .string ⟨⟨[58]⟩⟩, .string ⟨⟨[32]⟩⟩, .string ⟨⟨[10, 32]⟩⟩, .string ⟨⟨[35, 32, 99, 10]⟩⟩, .string ⟨⟨[34, 122, 34]⟩⟩, .string ⟨⟨[49]⟩⟩, .string ⟨⟨[44]⟩⟩, .string ⟨⟨[45, 45, 45, 10]⟩⟩, .string ⟨⟨[10, 45, 45, 45, 10]⟩⟩]) (s := 1) (by kernel_rfl)) (by kernel_rfl) hS ?_
 intro v5 h6 hS7
 replace hS7 : St _ _ _ _ _ _ [.gs v5 [.string ⟨⟨[91]⟩⟩, .string ⟨⟨[93]⟩⟩, .string ⟨⟨[123]⟩⟩, .string ⟨⟨[125]⟩⟩, .string ⟨⟨[44, 32]⟩⟩, .string ⟨⟨[97]⟩⟩, .string ⟨⟨[98, 58, 32]⟩⟩, .string ⟨⟨[99]⟩⟩, .string ⟨⟨[39, 113, 39]⟩⟩, .string ⟨⟨[38, 110, 32]⟩⟩, .string ⟨⟨[42, 110]⟩⟩, .string ⟨⟨[33, 116, 32]⟩⟩, .string ⟨⟨[58]⟩⟩, .string ⟨⟨[32]⟩⟩, .string ⟨⟨[10, 32]⟩⟩, .string ⟨⟨[35, 32, 99, 10]⟩⟩, .string ⟨⟨[34, 122, 34]⟩⟩, .string ⟨⟨[49]⟩⟩, .string ⟨⟨[44]⟩⟩, .string ⟨⟨[45, 45, 45, 10]⟩⟩, .string ⟨⟨[10, 45, 45, 45, 10]⟩⟩] (csz Str)] := hS7
 refine xe 1 [(3, v5), (0, v2)] ?_
 refine sr r14_2 ?_
 refine xe 1 [(4, .string ⟨⟨[91]⟩⟩), (3, v5), (0, v2)] ?_
 refine sq ?_
 refine sr r14_3 ?_
 refine xe 1 [(5, V 0), (4, .string ⟨⟨[91]⟩⟩), (3, v5), (0, v2)] ?_
 obtain ⟨o80, ho79, hm⟩ := obind hm
 refine W_join [4] (fun l h => ∃ Z120 : Zn, ∃ x121 : Str, x121 = o80 ∧ l = [(4, .string ⟨⟨x121.b⟩⟩)] ∧ St hs [] Z (0, 0) Z120 h []) ?_ ?_
 rintro l h122 ⟨Z120, x121, rfl, rfl, hS123⟩
 try dsimp only at hm
 refine sr r14_7 ?_
 refine xq 1 [(29, .string ⟨⟨x121.b⟩⟩)] ?_
 obtain ⟨v124, h125, Z127, ho130, hZ128, q129, hS126, lw131⟩ := o_tobytes (P := Try.prog) (l := [(29, .string ⟨⟨x121.b⟩⟩)]) (s := 9) (d := 24) (x := .tmp 29) (bs := x121.b) hS123 rfl (by kernel_rfl)
 refine r_step rfl trivial ho130 ?_
 refine xe 1 [(2, v124)] ?_
 refine rt ?_
 refine ⟨rfl, ?_⟩
 obtain rfl := si hm
 refine ⟨_, _, _, ResL.tmp rfl (ResL.nil), hS126, ?_⟩
 exact ⟨v124, rfl, rfl, q129⟩
 refine bk 0 ?_
 refine lp [0, 3, 4, 5] (fun n l h => ∃ Z81 : Zn, ∃ x82 : List Str, ∃ x86 : Str, ∃ x87 : Int, ∃ v84 : Value, ∃ c85 : List Value, correctorlaw11_Flow_l0 F a0 n x82 x86 x87 = some o80 ∧ RCs (α := Str) Z81 c85 x82 ∧ l = [(0, v2), (3, v84), (4, .string ⟨⟨x86.b⟩⟩), (5, V x87)] ∧ St hs [] Z (0, 0) Z81 h [.gs v84 c85 (csz Str)]) F ⟨_, [(⟨[91]⟩ : Str), (⟨[93]⟩ : Str), (⟨[123]⟩ : Str), (⟨[125]⟩ : Str), (⟨[44, 32]⟩ : Str), (⟨[97]⟩ : Str), (⟨[98, 58, 32]⟩ : Str), (⟨[99]⟩ : Str), (⟨[39, 113, 39]⟩ : Str), (⟨[38, 110, 32]⟩ : Str), (⟨[42, 110]⟩ : Str), (⟨[33, 116, 32]⟩ : Str), (⟨[58]⟩ : Str), (⟨[32]⟩ : Str), (⟨[10, 32]⟩ : Str), (⟨[35, 32, 99, 10]⟩ : Str), (⟨[34, 122, 34]⟩ : Str), (⟨[49]⟩ : Str), (⟨[44]⟩ : Str), (⟨[45, 45, 45, 10]⟩ : Str), (⟨[10, 45, 45, 45, 10]⟩ : Str)], (⟨[91]⟩ : Str), 0, v5, [.string ⟨⟨[91]⟩⟩, .string ⟨⟨[93]⟩⟩, .string ⟨⟨[123]⟩⟩, .string ⟨⟨[125]⟩⟩, .string ⟨⟨[44, 32]⟩⟩, .string ⟨⟨[97]⟩⟩, .string ⟨⟨[98, 58, 32]⟩⟩, .string ⟨⟨[99]⟩⟩, .string ⟨⟨[39, 113, 39]⟩⟩, .string ⟨⟨[38, 110, 32]⟩⟩, .string ⟨⟨[42, 110]⟩⟩, .string ⟨⟨[33, 116, 32]⟩⟩, .string ⟨⟨[58]⟩⟩, .string ⟨⟨[32]⟩⟩, .string ⟨⟨[10, 32]⟩⟩, .string ⟨⟨[35, 32, 99, 10]⟩⟩, .string ⟨⟨[34, 122, 34]⟩⟩, .string ⟨⟨[49]⟩⟩, .string ⟨⟨[44]⟩⟩, .string ⟨⟨[45, 45, 45, 10]⟩⟩, .string ⟨⟨[10, 45, 45, 45, 10]⟩⟩], ho79, q8, rfl, hS7⟩ ?_
 rintro n90 l h88 ⟨Z81, x82, x86, x87, v84, c85, ho79, q83, rfl, hS89⟩
 rcases n90 with _ | n90
 cases (show none = some o80 from ho79)
 rw [correctorlaw11_Flow_l0] at ho79
 refine sq ?_
 refine sr r14_4 ?_
 refine xq 2 [(8, v2), (7, V x87), (0, v2), (3, v84), (4, .string ⟨⟨x86.b⟩⟩), (5, V x87)] ?_
 refine r_step rfl trivial (o_len rfl (RS.len (q1.mono hS89.zle)) ⟨_, Try.underlying40⟩) ?_
 rcases ifs ho79 with ⟨hp95, ho79⟩ | ⟨hp95, ho79⟩
 refine r_step rfl trivial (o_cmp rfl rfl (c_lss_T hp95)) ?_
 refine xq 2 [(12, V x87), (11, .bool true), (0, v2), (3, v84), (4, .string ⟨⟨x86.b⟩⟩), (5, V x87)] ?_
 rcases ifs ho79 with ⟨hp96, ho79⟩ | ⟨hp96, ho79⟩
 refine r_step rfl rfl (o_cmp rfl rfl (c_lss_T hp96)) ?_
 refine xe 1 [(14, .bool true), (0, v2), (3, v84), (4, .string ⟨⟨x86.b⟩⟩), (5, V x87)] ?_
 refine kT 14 rfl ?_
 refine sq ?_
 refine bk 1 ?_
 refine rg r14_6 ?_
 refine xq 4 [(20, V x87), (19, v2), (18, v84), (17, .string ⟨⟨x86.b⟩⟩), (0, v2), (3, v84), (4, .string ⟨⟨x86.b⟩⟩), (5, V x87)] ?_
 obtain ⟨hc97, ho79⟩ := chk ho79
 refine r_step rfl trivial (o_index rfl rfl (by kernel_rfl : slTy _ _ = some (csz Int)) (RS.based (q1.mono hS89.zle) (by omega)) hc97.1 hc97.2) ?_
 obtain ⟨x98, hx99, ho79⟩ := obind ho79
 obtain ⟨cs100, hc101, he102⟩ := RS.elz (q1.mono hS89.zle) (i := x87) hx99
 obtain rfl := rc_Int hc101
 refine r_step rfl trivial (o_lde (w := V x98) (he102 _ (hS89.zin0 (Zle.refl _))) rfl (by kernel_rfl)) ?_
 refine xq 1 [(23, v84), (22, V x98), (18, v84), (17, .string ⟨⟨x86.b⟩⟩), (0, v2), (3, v84), (4, .string ⟨⟨x86.b⟩⟩), (5, V x87)] ?_
 refine r_step rfl trivial (o_len rfl (hS89.glen (i := 0) rfl q83) ⟨_, Try.underlying45⟩) ?_
 obtain ⟨r104, hx105, ho79⟩ := obind ho79
 obtain ⟨v106, h107, hcl108, hSc109, rfl⟩ := correctorlaw11_within_ok F hS89.inv  hx105
 have hS110 := St.call (A := []) (B := [.gs v84 c85 (csz Str)]) hS89 hSc109
 replace hS110 : St _ _ _ _ _ _ [.gs v84 c85 (csz Str)] := hS110
 refine r_step rfl trivial (o_call hcl108 rfl rfl rfl) ?_
 obtain ⟨hc111, ho79⟩ := chk ho79
 refine r_step rfl trivial (o_index rfl rfl (by kernel_rfl : slTy _ _ = some (csz Str)) (hS110.gbased (j := 0) rfl q83 (by omega)) hc111.1 hc111.2) ?_
 obtain ⟨x112, hx113, ho79⟩ := obind ho79
 obtain ⟨cs114, hc115, he116, ht117⟩ := hS110.gel (j := 0) rfl q83 (i := r104) hx113
 obtain rfl := rc_Str hc115
 refine r_step rfl trivial (o_lde (w := .string ⟨⟨x112.b⟩⟩) he116 rfl (by kernel_rfl)) ?_
 obtain ⟨hc118, ho79⟩ := chk ho79
 refine r_step rfl trivial (o_sadd rfl rfl (by simpa using hc118)) ?_
 refine xe 1 [(4, .string ⟨⟨x86.b ++ x112.b⟩⟩), (0, v2), (3, v84), (5, V x87)] ?_
 refine rg r14_5 ?_
 refine xe 3 [(5, V (w64 (x87 + 1))), (4, .string ⟨⟨x86.b ++ x112.b⟩⟩), (0, v2), (3, v84)] ?_
 exact ⟨n90, Nat.lt_succ_self _, ⟨_, x82, (⟨x86.b ++ x112.b⟩ : Str), w64 (x87 + 1), v84, c85, ho79, q83, rfl, hS110⟩⟩
 refine r_step rfl rfl (o_cmp rfl rfl (c_lss_F hp96)) ?_
 refine xe 1 [(14, .bool false), (0, v2), (3, v84), (4, .string ⟨⟨x86.b⟩⟩), (5, V x87)] ?_
 refine cF 14 rfl ?_
 refine xt 0 ?_
 refine blkX_hit ?_
 obtain rfl := si ho79
 exact ⟨_, x86, rfl, rfl, (hS89.takeN 0)⟩
 refine r_step rfl trivial (o_cmp rfl rfl (c_lss_F hp95)) ?_
 refine xe 4 [(14, .bool false), (0, v2), (3, v84), (4, .string ⟨⟨x86.b⟩⟩), (5, V x87)] ?_
 refine cF 14 rfl ?_
 refine xt 0 ?_
 refine blkX_hit ?_
 obtain rfl := si ho79
 exact ⟨_, x86, rfl, rfl, (hS89.takeN 0)⟩

def r26_0 : List COp := [u 4 (.assign (.const (.bool false)))]
def r26_1 : List COp := [u 9 (mv 0), u 10 (nk 9), u 11 (fa 65 10 0), u 12 (fa 29 11 0), u 13 (ld 27 12), u 14 (mv 1), u 15 (ia 27 13 14), u 16 (ld 42 15), u 5 (.alloc 42), o (.store 42 (t 5) (t 16))]
def r26_2 : List COp := [u 17 (fa 42 5 1), u 18 (ld 3 17), u 6 (sg 18)]
def r26_3 : List COp := [u 19 (fa 42 5 4), u 20 (ld 40 19), u 21 (cb .len #[(t 20)] #[40]), u 22 (.move (ci 0))]
def r26_4 : List COp := [u 23 (bo .lss 3 22 21 3)]
def r26_5 : List COp := [u 24 (ia 40 20 22), u 25 (ld 3 24), u 8 (sg 25)]
def r26_6 : List COpF := [uP 26 (mv 8), uP 27 (mv 1), uP 28 (bo .leq 3 26 27 3), uP 29 (mv 28), gNP 29 30 (mv 0), gNP 29 31 (mv 8), gNF 29 (some 32) (cf 42 #[(t 30), (t 31)] #[62, 3]) .make [], gNP 29 33 (.unOp .not 4 (t 32)), uP 34 (pt 29 33), uP 35 (mv 34), gNP 35 36 (mv 0), gNP 35 37 (nk 36), gNP 35 38 (fa 65 37 0), gNP 35 39 (fa 29 38 0), gNF 35 (some 40) (ld 27 39) .look [6], gNP 35 41 (mv 8), gNP 35 42 (ia 27 40 41), gNP 35 43 (fa 42 42 3), gNF 35 (some 44) (ld 3 43) .look [6], gNP 35 45 (mv 1), gNP 35 46 (bo .neq 3 44 45 3), uP 47 (pt 35 46), uP 48 (mv 47), gNP 48 49 (mv 0), gNP 48 50 (nk 49), gNP 48 51 (fa 65 50 0), gNP 48 52 (fa 29 51 0), gNF 48 (some 53) (ld 27 52) .look [6], gNP 48 54 (mv 8), gNP 48 55 (ia 27 53 54), gNP 48 56 (fa 42 55 1), gNF 48 (some 57) (ld 3 56) .look [6], gNP 48 58 (mv 6), gNP 48 59 (bo .lss 3 57 58 3), uP 60 (pt 48 59), uP 61 (mv 60), gNP 61 62 (mv 0), gNP 61 63 (nk 62), gNP 61 64 (fa 65 63 0), gNP 61 65 (fa 29 64 0), gNF 61 (some 66) (ld 27 65) .look [6], gNP 61 67 (mv 8), gNP 61 68 (ia 27 66 67), gNP 61 69 (fa 42 68 2), gNF 61 (some 70) (ld 3 69) .look [6], gNP 61 71 (fa 42 5 2), gNF 61 (some 72) (ld 3 71) .look [6], gNP 61 73 (bo .gtr 3 70 72 3), uP 74 (pt 61 73)]
def r26_7 : List COp := [u 4 (.assign (.const (.bool false)))]
def r26_8 : List COp := [u 75 (mv 0), u 76 (nk 75), u 77 (fa 65 76 0), u 78 (fa 29 77 0), u 79 (ld 27 78), u 80 (mv 8), u 81 (ia 27 79 80), u 82 (fa 42 81 2), u 83 (ld 3 82), u 6 (sg 83)]
def r26_9 : List COp := [u 84 (bc .add 3 22 1 3), u 22 (mv 84)]
def r26_10 : List COp := [u 85 (fa 42 5 1), u 86 (ld 3 85), u 87 (fa 42 5 2), u 88 (ld 3 87), u 89 (bo .leq 3 86 88 3), u 4 (sg 89)]
def arena_forest_lies_l0 (F : Nat) (a0 : arena_forest) (a1 : Int) : Nat → api_Node → Int → (List Int) → Int → Int → Option (Sum api_Node Bool)
 | 0, _, _, _, _, _ => none
 | n + 1, x980, x983, x984, x987, x988 =>
  if x988 < x987 then
   if 0 ≤ x988 ∧ x988 < (x984.length : Int) then
    (x984[x988.toNat]?).bind fun x995 =>
    if x995 ≤ a1 then
     some (.inr false)
    else
     (arena_forest_has F a0 x995).bind fun r1145 =>
     if r1145 = true then
      if 0 ≤ x995 ∧ x995 < (a0.Tree.Nodes.length : Int) then
       (a0.Tree.Nodes[x995.toNat]?).bind fun x1162 =>
       if x1162.Up = a1 then
        if 0 ≤ x995 ∧ x995 < (a0.Tree.Nodes.length : Int) then
         (a0.Tree.Nodes[x995.toNat]?).bind fun x1176 =>
         if x1176.From < x983 then
          some (.inr false)
         else
          if 0 ≤ x995 ∧ x995 < (a0.Tree.Nodes.length : Int) then
           (a0.Tree.Nodes[x995.toNat]?).bind fun x1191 =>
           if x980.To < x1191.To then
            some (.inr false)
           else
            if 0 ≤ x995 ∧ x995 < (a0.Tree.Nodes.length : Int) then
             (a0.Tree.Nodes[x995.toNat]?).bind fun x1207 =>
             arena_forest_lies_l0 F a0 a1 n x980 x1207.To x984 x987 (w64 (x988 + 1))
            else none
          else none
        else none
       else
        some (.inr false)
      else none
     else
      some (.inr false)
   else none
  else
   some (.inl x980)
def arena_forest_lies (F : Nat) (a0 : arena_forest) (a1 : Int) : Option Bool :=
 if 0 ≤ a1 ∧ a1 < (a0.Tree.Nodes.length : Int) then
  (a0.Tree.Nodes[a1.toNat]?).bind fun x6 =>
  ((arena_forest_lies_l0 F a0 a1 F x6 x6.From x6.Kids (x6.Kids.length : Int) 0) : Option (Sum api_Node Bool)).bind fun o => match o with
   | .inl x1223 => if x1223.From ≤ x1223.To then
    some true
   else
    some false
   | .inr y => some y
 else none
theorem arena_forest_lies_ok (F : Nat) {h : AH} {Z : Zn} {a0 : arena_forest} {a1 : Int} {b1 : Nat} {v3 : Value} {c4 : List Value} (hP : Pre Z h [.blk b1 [v3], .gs v3 c4 (csz api_Node)]) (q2 : RCs (α := api_Node) Z c4 a0.Tree.Nodes) {r : Bool} (hm : arena_forest_lies F a0 a1 = some r) :
  ∃ v h' Z' A', callI Try.prog 26 [Pt b1 0, V a1] h = some (v, h') ∧ St h (idsL [.blk b1 [v3], .gs v3 c4 (csz api_Node)]) Z (0, 0) Z' h' A' ∧ .bool r = v ∧ A' = [.blk b1 [v3], .gs v3 c4 (csz api_Node)] := by
 refine fn_intro (A := [.blk b1 [v3], .gs v3 c4 (csz api_Node)]) (Q := fun v Z' A' => .bool r = v ∧ A' = [.blk b1 [v3], .gs v3 c4 (csz api_Node)]) Try.func26 rfl rfl (by kernel_rfl) hP ?_
 intro hs hS
 unfold arena_forest_lies at hm
 refine sr r26_0 ?_
 refine xe 1 [(0, Pt b1 0), (1, V a1)] ?_
 refine sr r26_1 ?_
 refine xq 4 [(12, Pt b1 0), (0, Pt b1 0), (1, V a1)] ?_
 refine r_step rfl trivial (o_ldb (v := v3) hS (i := 0) rfl rfl (by kernel_rfl)) ?_
 refine xq 1 [(14, V a1), (13, v3), (0, Pt b1 0), (1, V a1)] ?_
 obtain ⟨hc5, hm⟩ := chk hm
 refine r_step rfl trivial (o_index rfl rfl (by kernel_rfl : slTy _ _ = some (csz api_Node)) (hS.gbased (j := 1) rfl q2 (by omega)) hc5.1 hc5.2) ?_
 obtain ⟨x6, hx7, hm⟩ := obind hm
 obtain ⟨cs8, hc9, he10, ht11⟩ := hS.gel (j := 1) rfl q2 (i := a1) hx7
 obtain ⟨v12, q13, rfl⟩ := rc_api_Node hc9
 refine r_step rfl trivial (o_lde (w := .agg #[V x6.Kind, V x6.From, V x6.To, V x6.Up, v12, .bool x6.Key]) he10 rfl (by kernel_rfl)) ?_
 refine r_blk rfl trivial (o_alloc (cs := [V 0, V 0, V 0, V 0, .slice none 0 0, .bool false]) (by kernel_rfl)) hS ?_
 intro b14 h15 hS16
 refine r_ex1 rfl trivial (o_stb (vs := [V x6.Kind, V x6.From, V x6.To, V x6.Up, v12, .bool x6.Key]) (cells' := (K42 v12 x6)) (L' := [.blk b14 (K42 v12 x6), .blk b1 [v3], .gs v3 c4 (csz api_Node)]) hS16 (i := 0) rfl rfl rfl rfl (by kernel_rfl) (one_cons rfl (one_cons rfl (one_cons rfl (one_cons rfl (one_cons (RS.one1 q13) (one_cons rfl one_nil)))))) rfl rfl rfl) ?_
 intro h17 hS18
 refine xf [(5, Pt b14 0), (0, Pt b1 0), (1, V a1)] ?_
 refine sr r26_2 ?_
 refine xq 1 [(17, Pt b14 1), (5, Pt b14 0), (0, Pt b1 0), (1, V a1)] ?_
 refine r_step rfl trivial (o_ldb (v := V x6.From) hS18 (i := 0) rfl rfl (by kernel_rfl)) ?_
 refine xe 1 [(6, V x6.From), (5, Pt b14 0), (0, Pt b1 0), (1, V a1)] ?_
 refine sq ?_
 refine sr r26_3 ?_
 refine xq 1 [(19, Pt b14 4), (6, V x6.From), (5, Pt b14 0), (0, Pt b1 0), (1, V a1)] ?_
 refine r_step rfl trivial (o_ldb (v := v12) hS18 (i := 0) rfl rfl (by kernel_rfl)) ?_
 refine r_step rfl trivial (o_len rfl (RS.len q13) ⟨_, Try.underlying40⟩) ?_
 refine xe 1 [(22, V 0), (21, V (x6.Kids.length : Int)), (20, v12), (6, V x6.From), (5, Pt b14 0), (0, Pt b1 0), (1, V a1)] ?_
 obtain ⟨o977, ho976, hm⟩ := obind hm
 refine W_join [5] (fun l h => ∃ Z1221 : Zn, ∃ x1223 : api_Node, ∃ b1222 : Nat, ∃ v1225 : Value, .inl x1223 = o977 ∧ RS (α := Int) Z1221 v1225 x1223.Kids ∧ l = [(5, Pt b1222 0)] ∧ St hs (idsL [.blk b1 [v3], .gs v3 c4 (csz api_Node)]) Z (0, 0) Z1221 h [.blk b1 [v3], .gs v3 c4 (csz api_Node), .blk b1222 (K42 v1225 x1223)]) ?_ ?_
 rintro l h1226 ⟨Z1221, x1223, b1222, v1225, rfl, q1224, rfl, hS1227⟩
 try dsimp only at hm
 refine sr r26_10 ?_
 refine xq 1 [(85, Pt b1222 1), (5, Pt b1222 0)] ?_
 refine r_step rfl trivial (o_ldb (v := V x1223.From) hS1227 (i := 2) rfl rfl (by kernel_rfl)) ?_
 refine xq 1 [(87, Pt b1222 2), (86, V x1223.From)] ?_
 refine r_step rfl trivial (o_ldb (v := V x1223.To) hS1227 (i := 2) rfl rfl (by kernel_rfl)) ?_
 rcases ifs hm with ⟨hp1228, hm⟩ | ⟨hp1228, hm⟩
 refine r_step rfl trivial (o_cmp rfl rfl (c_leq_T hp1228)) ?_
 refine xe 1 [(4, .bool true)] ?_
 refine rt ?_
 refine ⟨rfl, ?_⟩
 obtain rfl := si hm
 refine ⟨_, _, _, ResL.tmp rfl (ResL.nil), (hS1227.takeN 2), ?_⟩
 exact ⟨rfl, rfl⟩
 refine r_step rfl trivial (o_cmp rfl rfl (c_leq_F hp1228)) ?_
 refine xe 1 [(4, .bool false)] ?_
 refine rt ?_
 refine ⟨rfl, ?_⟩
 obtain rfl := si hm
 refine ⟨_, _, _, ResL.tmp rfl (ResL.nil), (hS1227.takeN 2), ?_⟩
 exact ⟨rfl, rfl⟩
 refine bk 0 ?_
 refine lp [0, 1, 5, 6, 20, 21, 22] (fun n l h => ∃ Z978 : Zn, ∃ x980 : api_Node, ∃ x983 : Int, ∃ x984 : List Int, ∃ x987 : Int, ∃ x988 : Int, ∃ b979 : Nat, ∃ v982 : Value, ∃ v986 : Value, arena_forest_lies_l0 F a0 a1 n x980 x983 x984 x987 x988 = some o977 ∧ RS (α := Int) Z978 v982 x980.Kids ∧ RS (α := Int) Z978 v986 x984 ∧ l = [(0, Pt b1 0), (1, V a1), (5, Pt b979 0), (6, V x983), (20, v986), (21, V x987), (22, V x988)] ∧ St hs (idsL [.blk b1 [v3], .gs v3 c4 (csz api_Node)]) Z (0, 0) Z978 h [.blk b1 [v3], .gs v3 c4 (csz api_Node), .blk b979 (K42 v982 x980)]) F ⟨_, x6, x6.From, x6.Kids, (x6.Kids.length : Int), 0, b14, v12, v12, ho976, q13, q13, rfl, (((hS18.front 0 rfl).front 2 rfl).front 2 rfl)⟩ ?_
 rintro n991 l h989 ⟨Z978, x980, x983, x984, x987, x988, b979, v982, v986, ho976, q981, q985, rfl, hS990⟩
 rcases n991 with _ | n991
 cases (show none = some o977 from ho976)
 rw [arena_forest_lies_l0] at ho976
 refine sr r26_4 ?_
 rcases ifs ho976 with ⟨hp993, ho976⟩ | ⟨hp993, ho976⟩
 refine r_step rfl trivial (o_cmp rfl rfl (c_lss_T hp993)) ?_
 refine xf [(23, .bool true), (0, Pt b1 0), (1, V a1), (5, Pt b979 0), (6, V x983), (20, v986), (21, V x987), (22, V x988)] ?_
 refine sq ?_
 refine kT 23 rfl ?_
 refine sq ?_
 refine bk 1 ?_
 refine sr r26_5 ?_
 obtain ⟨hc994, ho976⟩ := chk ho976
 refine r_step rfl trivial (o_index rfl rfl (by kernel_rfl : slTy _ _ = some (csz Int)) (RS.based q985 (by omega)) hc994.1 hc994.2) ?_
 obtain ⟨x995, hx996, ho976⟩ := obind ho976
 obtain ⟨cs997, hc998, he999⟩ := RS.elz q985 (i := x988) hx996
 obtain rfl := rc_Int hc998
 refine r_step rfl trivial (o_lde (w := V x995) (he999 _ (hS990.zin0 (Zle.refl _))) rfl (by kernel_rfl)) ?_
 refine xe 1 [(8, V x995), (0, Pt b1 0), (1, V a1), (5, Pt b979 0), (6, V x983), (20, v986), (21, V x987), (22, V x988)] ?_
 refine sq ?_
 refine srF r26_6 hS990 ?_
 intro bs1139 h1140 hlv1142 hS1141
 refine yq 2 [(27, V a1), (26, V x995), (8, V x995), (0, Pt b1 0), (1, V a1), (5, Pt b979 0), (6, V x983), (20, v986), (21, V x987), (22, V x988)] ?_
 rcases ifs ho976 with ⟨hp1143, ho976⟩ | ⟨hp1143, ho976⟩
 refine e_val rfl trivial (o_cmp rfl rfl (c_leq_T hp1143)) ?_
 refine ye 46 [(74, .bool true), (8, V x995), (0, Pt b1 0), (1, V a1), (5, Pt b979 0), (20, v986), (21, V x987), (22, V x988)] ?_
 have hS1144 := hS1141.unres
 refine cT 74 rfl ?_
 refine sr r26_7 ?_
 refine xe 1 [(4, .bool false)] ?_
 refine rt ?_
 refine blkX_ret ?_
 refine blkX_ret ?_
 refine ⟨rfl, ?_⟩
 obtain rfl := si ho976
 obtain rfl := si hm
 refine ⟨_, _, _, ResL.tmp rfl (ResL.nil), (hS1144.takeN 2), ?_⟩
 exact ⟨rfl, rfl⟩
 refine e_val rfl trivial (o_cmp rfl rfl (c_leq_F hp1143)) ?_
 refine yq 3 [(31, V x995), (30, Pt b1 0), (29, .bool false), (8, V x995), (0, Pt b1 0), (1, V a1), (5, Pt b979 0), (6, V x983), (20, v986), (21, V x987), (22, V x988)] ?_
 obtain ⟨r1145, hx1146, ho976⟩ := obind ho976
 have hF1153 : St _ _ _ _ _ _ ([.blk b1 [v3], .gs v3 c4 (csz api_Node)] ++ [.blk b979 (K42 v982 x980)]) := ((hS1141.front 1 rfl).front 1 rfl)
 obtain ⟨v1147, h1148, Z1154, A1156, hcl1149, hSc1150, rfl, rfl⟩ := arena_forest_has_ok F hF1153.lown.preL (q2.mono hS990.zle) hx1146
 have hZ1155 := hSc1150.zle
 refine e_make rfl rfl hF1153 (o_call hcl1149 rfl rfl rfl) hSc1150 hZ1155 .nil ?_
 intro h1157 hS1158
 replace hS1158 : St _ _ _ _ _ _ [.blk b1 [v3], .gs v3 c4 (csz api_Node), .blk b979 (K42 v982 x980)] := hS1158
 rcases ifs ho976 with ⟨hp1159, ho976⟩ | ⟨hp1159, ho976⟩
 refine e_setb (t := 32) rfl hp1159 ?_
 refine yq 7 [(39, Pt b1 0), (35, .bool false), (8, V x995), (0, Pt b1 0), (1, V a1), (5, Pt b979 0), (6, V x983), (20, v986), (21, V x987), (22, V x988)] ?_
 have lt1160 : b1 < bs1139 := hlv1142.1 _ (List.mem_of_getElem? (i := 0) rfl) _ (by simp [Itm.ids])
 refine e_lookO (v := v3) rfl rfl rfl (by show b1 < _; omega) (same1 (v := v3) (hS1158.gsim1 (i := 1) rfl)) (hS1158.ldAt (i := 0) rfl (by kernel_rfl)) (.inr (by simp)) ?_
 refine yq 1 [(41, V x995), (40, v3), (35, .bool false), (8, V x995), (0, Pt b1 0), (1, V a1), (5, Pt b979 0), (6, V x983), (20, v986), (21, V x987), (22, V x988)] ?_
 obtain ⟨hc1161, ho976⟩ := chk ho976
 refine e_val rfl rfl (o_index rfl rfl (by kernel_rfl : slTy _ _ = some (csz api_Node)) (hS1158.gbased (j := 1) rfl (q2.mono (hS990.zle.trans hZ1155)) (by omega)) hc1161.1 hc1161.2) ?_
 refine yq 1 [(43, .pointer (some (elemA v3 x995 (csz api_Node) 3))), (35, .bool false), (8, V x995), (0, Pt b1 0), (1, V a1), (5, Pt b979 0), (6, V x983), (20, v986), (21, V x987), (22, V x988)] ?_
 obtain ⟨x1162, hx1163, ho976⟩ := obind ho976
 obtain ⟨cs1164, hc1165, he1166, ht1167⟩ := hS1158.gel (j := 1) rfl (q2.mono (hS990.zle.trans hZ1155)) (i := x995) hx1163
 obtain ⟨v1168, q1169, rfl⟩ := rc_api_Node hc1165
 have ps1170 := pos_of hx1163
 have hB1171 := hS1158.gbased (j := 1) rfl (q2.mono (hS990.zle.trans hZ1155)) ps1170
 have lt1172 : (baseOf v3).block < bs1139 := row_ltM (hlv1142.1 _ (List.mem_of_getElem? (i := 1) rfl)) hB1171
 refine e_lookB rfl rfl rfl (by show (baseOf v3).block < _; omega) (same1 (v := V x1162.Up) trivial) (o_lde (w := V x1162.Up) he1166 rfl (by kernel_rfl)) (.inr (by simp)) ?_
 refine yq 1 [(45, V a1), (44, V x1162.Up), (35, .bool false), (8, V x995), (0, Pt b1 0), (1, V a1), (5, Pt b979 0), (6, V x983), (20, v986), (21, V x987), (22, V x988)] ?_
 rcases ifs ho976 with ⟨hp1173, ho976⟩ | ⟨hp1173, ho976⟩
 refine e_val rfl rfl (o_cmp rfl rfl (c_neq_F hp1173)) ?_
 refine yq 6 [(52, Pt b1 0), (48, .bool false), (8, V x995), (0, Pt b1 0), (1, V a1), (5, Pt b979 0), (6, V x983), (20, v986), (21, V x987), (22, V x988)] ?_
 have lt1174 : b1 < bs1139 := hlv1142.1 _ (List.mem_of_getElem? (i := 0) rfl) _ (by simp [Itm.ids])
 refine e_lookO (v := v3) rfl rfl rfl (by show b1 < _; omega) (same1 (v := v3) (hS1158.gsim1 (i := 1) rfl)) (hS1158.ldAt (i := 0) rfl (by kernel_rfl)) (.inr (by simp)) ?_
 refine yq 1 [(54, V x995), (53, v3), (48, .bool false), (8, V x995), (0, Pt b1 0), (1, V a1), (5, Pt b979 0), (6, V x983), (20, v986), (21, V x987), (22, V x988)] ?_
 obtain ⟨hc1175, ho976⟩ := chk ho976
 refine e_val rfl rfl (o_index rfl rfl (by kernel_rfl : slTy _ _ = some (csz api_Node)) (hS1158.gbased (j := 1) rfl (q2.mono (hS990.zle.trans hZ1155)) (by omega)) hc1175.1 hc1175.2) ?_
 refine yq 1 [(56, .pointer (some (elemA v3 x995 (csz api_Node) 1))), (48, .bool false), (8, V x995), (0, Pt b1 0), (1, V a1), (5, Pt b979 0), (6, V x983), (20, v986), (21, V x987), (22, V x988)] ?_
 obtain ⟨x1176, hx1177, ho976⟩ := obind ho976
 obtain ⟨cs1178, hc1179, he1180, ht1181⟩ := hS1158.gel (j := 1) rfl (q2.mono (hS990.zle.trans hZ1155)) (i := x995) hx1177
 obtain ⟨v1182, q1183, rfl⟩ := rc_api_Node hc1179
 have ps1184 := pos_of hx1177
 have hB1185 := hS1158.gbased (j := 1) rfl (q2.mono (hS990.zle.trans hZ1155)) ps1184
 have lt1186 : (baseOf v3).block < bs1139 := row_ltM (hlv1142.1 _ (List.mem_of_getElem? (i := 1) rfl)) hB1185
 refine e_lookB rfl rfl rfl (by show (baseOf v3).block < _; omega) (same1 (v := V x1176.From) trivial) (o_lde (w := V x1176.From) he1180 rfl (by kernel_rfl)) (.inr (by simp)) ?_
 refine yq 1 [(58, V x983), (57, V x1176.From), (48, .bool false), (8, V x995), (0, Pt b1 0), (1, V a1), (5, Pt b979 0), (20, v986), (21, V x987), (22, V x988)] ?_
 rcases ifs ho976 with ⟨hp1187, ho976⟩ | ⟨hp1187, ho976⟩
 refine e_val rfl rfl (o_cmp rfl rfl (c_lss_T hp1187)) ?_
 refine ye 15 [(74, .bool true), (8, V x995), (0, Pt b1 0), (1, V a1), (5, Pt b979 0), (20, v986), (21, V x987), (22, V x988)] ?_
 have hS1188 := hS1158.unres
 refine cT 74 rfl ?_
 refine sr r26_7 ?_
 refine xe 1 [(4, .bool false)] ?_
 refine rt ?_
 refine blkX_ret ?_
 refine blkX_ret ?_
 refine ⟨rfl, ?_⟩
 obtain rfl := si ho976
 obtain rfl := si hm
 refine ⟨_, _, _, ResL.tmp rfl (ResL.nil), (hS1188.takeN 2), ?_⟩
 exact ⟨rfl, rfl⟩
 refine e_val rfl rfl (o_cmp rfl rfl (c_lss_F hp1187)) ?_
 refine yq 6 [(65, Pt b1 0), (61, .bool false), (8, V x995), (0, Pt b1 0), (1, V a1), (5, Pt b979 0), (20, v986), (21, V x987), (22, V x988)] ?_
 have lt1189 : b1 < bs1139 := hlv1142.1 _ (List.mem_of_getElem? (i := 0) rfl) _ (by simp [Itm.ids])
 refine e_lookO (v := v3) rfl rfl rfl (by show b1 < _; omega) (same1 (v := v3) (hS1158.gsim1 (i := 1) rfl)) (hS1158.ldAt (i := 0) rfl (by kernel_rfl)) (.inr (by simp)) ?_
 refine yq 1 [(67, V x995), (66, v3), (61, .bool false), (8, V x995), (0, Pt b1 0), (1, V a1), (5, Pt b979 0), (20, v986), (21, V x987), (22, V x988)] ?_
 obtain ⟨hc1190, ho976⟩ := chk ho976
 refine e_val rfl rfl (o_index rfl rfl (by kernel_rfl : slTy _ _ = some (csz api_Node)) (hS1158.gbased (j := 1) rfl (q2.mono (hS990.zle.trans hZ1155)) (by omega)) hc1190.1 hc1190.2) ?_
 refine yq 1 [(69, .pointer (some (elemA v3 x995 (csz api_Node) 2))), (61, .bool false), (8, V x995), (0, Pt b1 0), (1, V a1), (5, Pt b979 0), (20, v986), (21, V x987), (22, V x988)] ?_
 obtain ⟨x1191, hx1192, ho976⟩ := obind ho976
 obtain ⟨cs1193, hc1194, he1195, ht1196⟩ := hS1158.gel (j := 1) rfl (q2.mono (hS990.zle.trans hZ1155)) (i := x995) hx1192
 obtain ⟨v1197, q1198, rfl⟩ := rc_api_Node hc1194
 have ps1199 := pos_of hx1192
 have hB1200 := hS1158.gbased (j := 1) rfl (q2.mono (hS990.zle.trans hZ1155)) ps1199
 have lt1201 : (baseOf v3).block < bs1139 := row_ltM (hlv1142.1 _ (List.mem_of_getElem? (i := 1) rfl)) hB1200
 refine e_lookB rfl rfl rfl (by show (baseOf v3).block < _; omega) (same1 (v := V x1191.To) trivial) (o_lde (w := V x1191.To) he1195 rfl (by kernel_rfl)) (.inr (by simp)) ?_
 refine yq 1 [(71, Pt b979 2), (70, V x1191.To), (61, .bool false), (8, V x995), (0, Pt b1 0), (1, V a1), (5, Pt b979 0), (20, v986), (21, V x987), (22, V x988)] ?_
 have lt1202 : b979 < bs1139 := hlv1142.1 _ (List.mem_of_getElem? (i := 2) rfl) _ (by simp [Itm.ids])
 refine e_lookO (v := V x980.To) rfl rfl rfl (by show b979 < _; omega) (same1 (v := V x980.To) trivial) (hS1158.ldAt (i := 2) rfl (by kernel_rfl)) (.inr (by simp)) ?_
 rcases ifs ho976 with ⟨hp1203, ho976⟩ | ⟨hp1203, ho976⟩
 refine e_val rfl rfl (o_cmp rfl rfl (c_gtr_T hp1203)) ?_
 refine ye 1 [(74, .bool true), (8, V x995), (0, Pt b1 0), (1, V a1), (5, Pt b979 0), (20, v986), (21, V x987), (22, V x988)] ?_
 have hS1204 := hS1158.unres
 refine cT 74 rfl ?_
 refine sr r26_7 ?_
 refine xe 1 [(4, .bool false)] ?_
 refine rt ?_
 refine blkX_ret ?_
 refine blkX_ret ?_
 refine ⟨rfl, ?_⟩
 obtain rfl := si ho976
 obtain rfl := si hm
 refine ⟨_, _, _, ResL.tmp rfl (ResL.nil), (hS1204.takeN 2), ?_⟩
 exact ⟨rfl, rfl⟩
 refine e_val rfl rfl (o_cmp rfl rfl (c_gtr_F hp1203)) ?_
 refine ye 1 [(74, .bool false), (8, V x995), (0, Pt b1 0), (1, V a1), (5, Pt b979 0), (20, v986), (21, V x987), (22, V x988)] ?_
 have hS1205 := hS1158.unres
 refine kF 74 rfl ?_
 refine rg r26_8 ?_
 refine xq 4 [(78, Pt b1 0), (8, V x995), (0, Pt b1 0), (1, V a1), (5, Pt b979 0), (20, v986), (21, V x987), (22, V x988)] ?_
 refine r_step rfl trivial (o_ldb (v := v3) hS1205 (i := 0) rfl rfl (by kernel_rfl)) ?_
 refine xq 1 [(80, V x995), (79, v3), (0, Pt b1 0), (1, V a1), (5, Pt b979 0), (20, v986), (21, V x987), (22, V x988)] ?_
 obtain ⟨hc1206, ho976⟩ := chk ho976
 refine r_step rfl trivial (o_index rfl rfl (by kernel_rfl : slTy _ _ = some (csz api_Node)) (hS1205.gbased (j := 1) rfl (q2.mono (hS990.zle.trans hZ1155)) (by omega)) hc1206.1 hc1206.2) ?_
 refine xq 1 [(82, .pointer (some (elemA v3 x995 (csz api_Node) 2))), (0, Pt b1 0), (1, V a1), (5, Pt b979 0), (20, v986), (21, V x987), (22, V x988)] ?_
 obtain ⟨x1207, hx1208, ho976⟩ := obind ho976
 obtain ⟨cs1209, hc1210, he1211, ht1212⟩ := hS1205.gel (j := 1) rfl (q2.mono (hS990.zle.trans hZ1155)) (i := x995) hx1208
 obtain ⟨v1213, q1214, rfl⟩ := rc_api_Node hc1210
 refine r_step rfl trivial (o_lde (w := V x1207.To) he1211 rfl (by kernel_rfl)) ?_
 refine xe 1 [(6, V x1207.To), (0, Pt b1 0), (1, V a1), (5, Pt b979 0), (20, v986), (21, V x987), (22, V x988)] ?_
 refine rg r26_9 ?_
 refine xe 2 [(22, V (w64 (x988 + 1))), (6, V x1207.To), (0, Pt b1 0), (1, V a1), (5, Pt b979 0), (20, v986), (21, V x987)] ?_
 exact ⟨n991, Nat.lt_succ_self _, ⟨_, x980, x1207.To, x984, x987, w64 (x988 + 1), b979, v982, v986, ho976, (q981.mono hZ1155), (q985.mono hZ1155), rfl, hS1205⟩⟩
 refine e_val rfl rfl (o_cmp rfl rfl (c_neq_T hp1173)) ?_
 refine ye 28 [(74, .bool true), (8, V x995), (0, Pt b1 0), (1, V a1), (5, Pt b979 0), (20, v986), (21, V x987), (22, V x988)] ?_
 have hS1215 := hS1158.unres
 refine cT 74 rfl ?_
 refine sr r26_7 ?_
 refine xe 1 [(4, .bool false)] ?_
 refine rt ?_
 refine blkX_ret ?_
 refine blkX_ret ?_
 refine ⟨rfl, ?_⟩
 obtain rfl := si ho976
 obtain rfl := si hm
 refine ⟨_, _, _, ResL.tmp rfl (ResL.nil), (hS1215.takeN 2), ?_⟩
 exact ⟨rfl, rfl⟩
 refine e_setb (t := 32) rfl (Bool.eq_false_iff.2 hp1159) ?_
 refine ye 42 [(74, .bool true), (8, V x995), (0, Pt b1 0), (1, V a1), (5, Pt b979 0), (20, v986), (21, V x987), (22, V x988)] ?_
 have hS1216 := hS1158.unres
 refine cT 74 rfl ?_
 refine sr r26_7 ?_
 refine xe 1 [(4, .bool false)] ?_
 refine rt ?_
 refine blkX_ret ?_
 refine blkX_ret ?_
 refine ⟨rfl, ?_⟩
 obtain rfl := si ho976
 obtain rfl := si hm
 refine ⟨_, _, _, ResL.tmp rfl (ResL.nil), (hS1216.takeN 2), ?_⟩
 exact ⟨rfl, rfl⟩
 refine r_step rfl trivial (o_cmp rfl rfl (c_lss_F hp993)) ?_
 refine xf [(23, .bool false), (0, Pt b1 0), (1, V a1), (5, Pt b979 0), (6, V x983), (20, v986), (21, V x987), (22, V x988)] ?_
 refine sq ?_
 refine cF 23 rfl ?_
 refine xt 0 ?_
 refine blkX_hit ?_
 obtain rfl := si ho976
 exact ⟨_, x980, b979, v982, rfl, q981, rfl, hS990⟩

def r55_0 : List COp := [u 4 (.assign (ci 0))]
def r55_1 : List COp := [u 6 (mv 0), u 7 (cb .len #[(t 6)] #[40]), u 8 (.move (ci 0))]
def r55_2 : List COp := [u 9 (bo .lss 3 8 7 3)]
def r55_3 : List COp := [u 10 (mv 8), u 5 (sg 10)]
def r55_4 : List COp := [u 11 (mv 1), u 12 (mv 0), u 13 (mv 5), u 14 (ia 40 12 13), u 15 (ld 3 14), u 16 (bo .eql 3 11 15 3)]
def r55_5 : List COp := [u 17 (mv 5), u 4 (sg 17)]
def r55_6 : List COp := [u 18 (bc .add 3 8 1 3), u 8 (mv 18)]
def r55_7 : List COp := [u 4 (.assign (ci (-1)))]
def slices_Index_int_l0 (F : Nat) (a0 : List Int) (a1 : Int) : Nat → Int → Option (Sum Unit Int)
 | 0, _ => none
 | n + 1, x49 =>
  if x49 < (a0.length : Int) then
   if 0 ≤ x49 ∧ x49 < (a0.length : Int) then
    (a0[x49.toNat]?).bind fun x64 =>
    if a1 = x64 then
     some (.inr x49)
    else
     slices_Index_int_l0 F a0 a1 n (w64 (x49 + 1))
   else none
  else
   some (.inl ())
def slices_Index_int (F : Nat) (a0 : List Int) (a1 : Int) : Option Int :=
 ((slices_Index_int_l0 F a0 a1 F 0) : Option (Sum Unit Int)).bind fun o => match o with
  | .inl () => some (-1)
  | .inr y => some y
theorem slices_Index_int_ok (F : Nat) {h : AH} {Z : Zn} {a0 : List Int} {a1 : Int} {v2 : Value} (hI : Inv Z h) (q1 : RS (α := Int) Z v2 a0) {r : Int} (hm : slices_Index_int F a0 a1 = some r) :
  ∃ v h', callI Try.prog 55 [v2, V a1] h = some (v, h') ∧ St h [] Z (0, 0) Z h' [] ∧ v = V r := by
 refine fn_plain (Q := fun v => v = V r) Try.func55 rfl rfl hI ?_
 intro hs hS
 unfold slices_Index_int at hm
 refine sr r55_0 ?_
 refine xe 1 [(0, v2), (1, V a1)] ?_
 refine sq ?_
 refine sr r55_1 ?_
 refine xq 1 [(6, v2), (0, v2), (1, V a1)] ?_
 refine r_step rfl trivial (o_len rfl (RS.len q1) ⟨_, Try.underlying40⟩) ?_
 refine xe 1 [(8, V 0), (7, V (a0.length : Int)), (0, v2), (1, V a1)] ?_
 obtain ⟨o47, ho46, hm⟩ := obind hm
 refine W_join [] (fun l h => ∃ Z71 : Zn, .inl () = o47 ∧ l = [] ∧ St hs [] Z (0, 0) Z71 h []) ?_ ?_
 rintro l h72 ⟨Z71, rfl, rfl, hS73⟩
 try dsimp only at hm
 refine sr r55_7 ?_
 refine xe 1 [(4, V (-1))] ?_
 refine rt ?_
 refine ⟨rfl, ?_⟩
 obtain rfl := si hm
 refine ⟨_, _, _, ResL.tmp rfl (ResL.nil), hS73, ?_⟩
 exact rfl
 refine bk 0 ?_
 refine lp [0, 1, 7, 8] (fun n l h => ∃ Z48 : Zn, ∃ x49 : Int, slices_Index_int_l0 F a0 a1 n x49 = some o47 ∧ l = [(0, v2), (1, V a1), (7, V (a0.length : Int)), (8, V x49)] ∧ St hs [] Z (0, 0) Z48 h []) F ⟨_, 0, ho46, rfl, hS⟩ ?_
 rintro n52 l h50 ⟨Z48, x49, ho46, rfl, hS51⟩
 rcases n52 with _ | n52
 cases (show none = some o47 from ho46)
 rw [slices_Index_int_l0] at ho46
 refine sr r55_2 ?_
 rcases ifs ho46 with ⟨hp54, ho46⟩ | ⟨hp54, ho46⟩
 refine r_step rfl trivial (o_cmp rfl rfl (c_lss_T hp54)) ?_
 refine xf [(9, .bool true), (0, v2), (1, V a1), (7, V (a0.length : Int)), (8, V x49)] ?_
 refine sq ?_
 refine kT 9 rfl ?_
 refine sq ?_
 refine bk 1 ?_
 refine sr r55_3 ?_
 refine xe 2 [(5, V x49), (0, v2), (1, V a1), (7, V (a0.length : Int)), (8, V x49)] ?_
 refine sr r55_4 ?_
 refine xq 3 [(13, V x49), (12, v2), (11, V a1), (5, V x49), (0, v2), (1, V a1), (7, V (a0.length : Int)), (8, V x49)] ?_
 obtain ⟨hc63, ho46⟩ := chk ho46
 refine r_step rfl trivial (o_index rfl rfl (by kernel_rfl : slTy _ _ = some (csz Int)) (RS.based (q1.mono hS51.zle) (by omega)) hc63.1 hc63.2) ?_
 obtain ⟨x64, hx65, ho46⟩ := obind ho46
 obtain ⟨cs66, hc67, he68⟩ := RS.elz (q1.mono hS51.zle) (i := x49) hx65
 obtain rfl := rc_Int hc67
 refine r_step rfl trivial (o_lde (w := V x64) (he68 _ (hS51.zin0 (Zle.refl _))) rfl (by kernel_rfl)) ?_
 rcases ifs ho46 with ⟨hp70, ho46⟩ | ⟨hp70, ho46⟩
 refine r_step rfl trivial (o_cmp rfl rfl (c_eql_T hp70)) ?_
 refine xf [(16, .bool true), (5, V x49), (0, v2), (1, V a1), (7, V (a0.length : Int)), (8, V x49)] ?_
 refine cT 16 rfl ?_
 refine sr r55_5 ?_
 refine xe 2 [(4, V x49)] ?_
 refine rt ?_
 refine blkX_ret ?_
 refine blkX_ret ?_
 refine ⟨rfl, ?_⟩
 obtain rfl := si ho46
 obtain rfl := si hm
 refine ⟨_, _, _, ResL.tmp rfl (ResL.nil), hS51, ?_⟩
 exact rfl
 refine r_step rfl trivial (o_cmp rfl rfl (c_eql_F hp70)) ?_
 refine xf [(16, .bool false), (5, V x49), (0, v2), (1, V a1), (7, V (a0.length : Int)), (8, V x49)] ?_
 refine kF 16 rfl ?_
 refine rg r55_6 ?_
 refine xe 2 [(8, V (w64 (x49 + 1))), (0, v2), (1, V a1), (7, V (a0.length : Int))] ?_
 exact ⟨n52, Nat.lt_succ_self _, ⟨_, w64 (x49 + 1), ho46, rfl, hS51⟩⟩
 refine r_step rfl trivial (o_cmp rfl rfl (c_lss_F hp54)) ?_
 refine xf [(9, .bool false), (0, v2), (1, V a1), (7, V (a0.length : Int)), (8, V x49)] ?_
 refine sq ?_
 refine cF 9 rfl ?_
 refine xt 0 ?_
 refine blkX_hit ?_
 obtain rfl := si ho46
 exact ⟨_, rfl, rfl, hS51⟩

def r27_0 : List COp := [u 4 (.assign (.const (.bool false)))]
def r27_1 : List COp := [u 5 (mv 0), u 6 (mv 1), u 7 (cf 55 #[(t 5), (t 6)] #[40, 3]), u 8 (bc .geq 3 7 0 3), u 4 (sg 8)]
def slices_Contains_int (F : Nat) (a0 : List Int) (a1 : Int) : Option Bool :=
 (slices_Index_int F a0 a1).bind fun r3 =>
 if (0 : Int) ≤ r3 then
  some true
 else
  some false
theorem slices_Contains_int_ok (F : Nat) {h : AH} {Z : Zn} {a0 : List Int} {a1 : Int} {v2 : Value} (hI : Inv Z h) (q1 : RS (α := Int) Z v2 a0) {r : Bool} (hm : slices_Contains_int F a0 a1 = some r) :
  ∃ v h', callI Try.prog 27 [v2, V a1] h = some (v, h') ∧ St h [] Z (0, 0) Z h' [] ∧ v = .bool r := by
 refine fn_plain (Q := fun v => v = .bool r) Try.func27 rfl rfl hI ?_
 intro hs hS
 unfold slices_Contains_int at hm
 refine sr r27_0 ?_
 refine xe 1 [(0, v2), (1, V a1)] ?_
 refine sr r27_1 ?_
 refine xq 2 [(6, V a1), (5, v2)] ?_
 obtain ⟨r3, hx4, hm⟩ := obind hm
 obtain ⟨v5, h6, hcl7, hSc8, rfl⟩ := slices_Index_int_ok F hS.inv q1 hx4
 have hS9 := St.call (A := []) (B := []) hS hSc8
 replace hS9 : St _ _ _ _ _ _ [] := hS9
 refine r_step rfl trivial (o_call hcl7 rfl rfl rfl) ?_
 rcases ifs hm with ⟨hp10, hm⟩ | ⟨hp10, hm⟩
 refine r_step rfl trivial (o_cmp rfl rfl (c_geq_T hp10)) ?_
 refine xe 1 [(4, .bool true)] ?_
 refine rt ?_
 refine ⟨rfl, ?_⟩
 obtain rfl := si hm
 refine ⟨_, _, _, ResL.tmp rfl (ResL.nil), hS9, ?_⟩
 exact rfl
 refine r_step rfl trivial (o_cmp rfl rfl (c_geq_F hp10)) ?_
 refine xe 1 [(4, .bool false)] ?_
 refine rt ?_
 refine ⟨rfl, ?_⟩
 obtain rfl := si hm
 refine ⟨_, _, _, ResL.tmp rfl (ResL.nil), hS9, ?_⟩
 exact rfl

def r15_0 : List COp := [u 2 (.box 29 (t 0)), u 4 (.assign (.const (.bool false)))]
def r15_1 : List COp := [u 12 (fa 29 2 0), u 13 (ld 27 12), u 14 (cb .len #[(t 13)] #[27]), u 15 (bc .eql 3 14 0 3)]
def r15_2 : List COp := [u 4 (.assign (.const (.bool false)))]
def r15_3 : List COp := [u 16 (ld 29 2), u 17 (cf 25 #[(t 16)] #[29]), u 5 (sg 17)]
def r15_4 : List COp := [u 18 (mv 5), u 19 (nk 18), u 20 (fa 65 19 0), u 21 (fa 29 20 0), u 22 (ld 27 21), u 23 (.indexAddr 27 (t 22) (ci 0)), u 24 (ld 42 23), u 6 (.alloc 42), o (.store 42 (t 6) (t 24))]
def r15_5 : List COp := [u 25 (fa 42 6 0), u 26 (ld 3 25), u 27 (bc .neq 3 26 1 3), u 28 (mv 27), gn 28 29 (fa 42 6 1), gn 28 30 (ld 3 29), gn 28 31 (bc .neq 3 30 0 3), u 32 (pt 28 31), u 33 (mv 32), gn 33 34 (fa 42 6 2), gn 33 35 (ld 3 34), gn 33 36 (mv 1), gn 33 37 (bo .neq 3 35 36 3), u 38 (pt 33 37), u 39 (mv 38), gn 39 40 (fa 42 6 3), gn 39 41 (ld 3 40), gn 39 42 (bc .neq 3 41 (-1) 3), u 43 (pt 39 42)]
def r15_6 : List COp := [u 4 (.assign (.const (.bool false)))]
def r15_7 : List COp := [u 7 (.assign (ci 0))]
def r15_8 : List COp := [u 44 (mv 5), u 45 (nk 44), u 46 (fa 65 45 0), u 47 (fa 29 46 0), u 48 (ld 27 47), u 49 (cb .len #[(t 48)] #[27]), u 50 (.move (ci 0))]
def r15_9 : List COp := [u 51 (bo .lss 3 50 49 3)]
def r15_10 : List COp := [u 52 (mv 50), u 53 (ia 27 48 50), u 54 (ld 42 53), u 9 (.alloc 42), u 8 (sg 52), o (.store 42 (t 9) (t 54))]
def r15_11 : List COp := [u 55 (mv 5), u 56 (mv 8), u 57 (cf 26 #[(t 55), (t 56)] #[62, 3]), u 58 (.unOp .not 4 (t 57)), u 59 (mv 58), gn 59 60 (mv 8), gn 59 61 (bc .gtr 3 60 0 3), gn 59 62 (mv 61), gt 62 63 (fa 42 9 3), gt 62 64 (ld 3 63), gt 62 65 (bc .lss 3 64 0 3), gt 62 66 (mv 65), gn 66 67 (fa 42 9 3), gn 66 68 (ld 3 67), gn 66 69 (mv 8), gn 66 70 (bo .geq 3 68 69 3), gt 62 71 (pt 66 70), gn 59 72 (pf 62 71), u 73 (pt 59 72)]
def r15_12 : List COp := [u 4 (.assign (.const (.bool false)))]
def r15_13 : List COp := [u 74 (mv 7), u 75 (fa 42 9 4), u 76 (ld 40 75), u 77 (cb .len #[(t 76)] #[40]), u 78 (bo .add 3 74 77 3), u 7 (sg 78)]
def r15_14 : List COp := [u 79 (fa 42 9 4), u 80 (ld 40 79), u 81 (cb .len #[(t 80)] #[40]), u 82 (.move (ci 0))]
def r15_15 : List COp := [u 83 (bo .lss 3 82 81 3)]
def r15_16 : List COp := [u 84 (mv 82), u 85 (ia 40 80 82), u 86 (ld 3 85), u 10 (sg 84), u 11 (sg 86)]
def r15_17 : List COp := [u 87 (fa 42 9 4), u 88 (ld 40 87), u 89 (mv 10), u 90 (.slice 40 (t 88) none (some (t 89)) none), u 91 (mv 11), u 92 (cf 27 #[(t 90), (t 91)] #[40, 3])]
def r15_18 : List COp := [u 4 (.assign (.const (.bool false)))]
def r15_19 : List COp := [u 93 (bc .add 3 82 1 3), u 82 (mv 93)]
def r15_20 : List COp := [u 94 (bc .add 3 50 1 3), u 50 (mv 94)]
def r15_21 : List COp := [u 95 (mv 7), u 96 (mv 5), u 97 (nk 96), u 98 (fa 65 97 0), u 99 (fa 29 98 0), u 100 (ld 27 99), u 101 (cb .len #[(t 100)] #[27]), u 102 (bc .sub 3 101 1 3), u 103 (bo .eql 3 95 102 3), u 4 (sg 103)]
def arena_Check_l1 (F : Nat) (a0 : arena_Tree) (a1 : Int) : Nat → (List api_Node) → Int → api_Node → Int → Int → (List Int) → Int → Int → Option (Sum ((List api_Node) × Int × Int × Int) Bool)
 | 0, _, _, _, _, _, _, _, _ => none
 | n + 1, x820, x824, x826, x829, x830, x831, x834, x835 =>
  if x835 < x834 then
   if 0 ≤ x835 ∧ x835 < (x831.length : Int) then
    (x831[x835.toNat]?).bind fun x842 =>
    if 0 ≤ (0 : Int) ∧ (0 : Int) ≤ x835 ∧ x835 ≤ (x826.Kids.length : Int) then
     (slices_Contains_int F ((x826.Kids.take x835.toNat).drop (0 : Int).toNat) x842).bind fun r852 =>
     if r852 = true then
      some (.inr false)
     else
      arena_Check_l1 F a0 a1 n x820 x824 x826 x829 x830 x831 x834 (w64 (x835 + 1))
    else none
   else none
  else
   some (.inl (x820, x824, x829, x830))
def arena_Check_l0 (F : Nat) (a0 : arena_Tree) (a1 : Int) : Nat → (List api_Node) → Int → Int → Int → Option (Sum ((List api_Node) × Int) Bool)
 | 0, _, _, _, _ => none
 | n + 1, x663, x667, x668, x669 =>
  if x669 < x668 then
   if 0 ≤ x669 ∧ x669 < (x663.length : Int) then
    (x663[x669.toNat]?).bind fun x676 =>
    (((arena_forest_lies F (⟨(⟨x663⟩ : arena_Tree)⟩ : arena_forest) x669).bind fun r706 =>
     if r706 = true then
      if (0 : Int) < x669 then
       if x676.Up < (0 : Int) then
        some (.inr false)
       else
        if x669 ≤ x676.Up then
         some (.inr false)
        else
         some (.inl (x663, x676))
      else
       some (.inl (x663, x676))
     else
      some (.inr false)) : Option (Sum ((List api_Node) × api_Node) Bool)).bind fun o => match o with
     | .inl (x723, x728) => ((arena_Check_l1 F a0 a1 F x723 (w64 (x667 + (x728.Kids.length : Int))) x728 x668 x669 x728.Kids (x728.Kids.length : Int) 0) : Option (Sum ((List api_Node) × Int × Int × Int) Bool)).bind fun o => match o with
      | .inl (x871, x875, x876, x877) => arena_Check_l0 F a0 a1 n x871 x875 x876 (w64 (x877 + 1))
      | .inr y => some (.inr y)
     | .inr y => some (.inr y)
   else none
  else
   some (.inl (x663, x667))
def arena_Check (F : Nat) (a0 : arena_Tree) (a1 : Int) : Option Bool :=
 if (a0.Nodes.length : Int) = (0 : Int) then
  some false
 else
  (arena_own F a0).bind fun r9 =>
  if 0 ≤ (0 : Int) ∧ (0 : Int) < (r9.Tree.Nodes.length : Int) then
   (r9.Tree.Nodes[(0 : Int).toNat]?).bind fun x25 =>
   if x25.Kind = (1 : Int) then
    if x25.From = (0 : Int) then
     if x25.To = a1 then
      if x25.Up = (-1 : Int) then
       ((arena_Check_l0 F a0 a1 F r9.Tree.Nodes 0 (r9.Tree.Nodes.length : Int) 0) : Option (Sum ((List api_Node) × Int) Bool)).bind fun o => match o with
        | .inl (x905, x909) => if x909 = (w64 ((x905.length : Int) - 1)) then
         some true
        else
         some false
        | .inr y => some y
      else
       some false
     else
      some false
    else
     some false
   else
    some false
  else none
theorem arena_Check_ok (F : Nat) {h : AH} {Z : Zn} {a0 : arena_Tree} {a1 : Int} {v2 : Value} (hI : Inv Z h) (q1 : RS (α := api_Node) Z v2 a0.Nodes) {r : Bool} (hm : arena_Check F a0 a1 = some r) :
  ∃ v h', callI Try.prog 15 [.agg #[v2], V a1] h = some (v, h') ∧ St h [] Z (0, 0) Z h' [] ∧ v = .bool r := by
 refine fn_plain (Q := fun v => v = .bool r) Try.func15 rfl rfl hI ?_
 intro hs hS
 unfold arena_Check at hm
 refine sr r15_0 ?_
 refine r_blk rfl trivial (o_box (cs := [v2]) rfl rfl) hS ?_
 intro b3 h4 hS5
 refine xe 1 [(2, Pt b3 0), (1, V a1)] ?_
 refine sq ?_
 refine sr r15_1 ?_
 refine xq 1 [(12, Pt b3 0), (2, Pt b3 0), (1, V a1)] ?_
 refine r_step rfl trivial (o_ldb (v := v2) hS5 (i := 0) rfl rfl (by kernel_rfl)) ?_
 refine r_step rfl trivial (o_len rfl (RS.len q1) ⟨_, Try.underlying27⟩) ?_
 rcases ifs hm with ⟨hp8, hm⟩ | ⟨hp8, hm⟩
 refine r_step rfl trivial (o_cmp rfl rfl (c_eql_T hp8)) ?_
 refine xf [(15, .bool true), (2, Pt b3 0), (1, V a1)] ?_
 refine cT 15 rfl ?_
 refine sr r15_2 ?_
 refine xe 1 [(4, .bool false)] ?_
 refine rt ?_
 refine ⟨rfl, ?_⟩
 obtain rfl := si hm
 refine ⟨_, _, _, ResL.tmp rfl (ResL.nil), hS5, ?_⟩
 exact rfl
 refine r_step rfl trivial (o_cmp rfl rfl (c_eql_F hp8)) ?_
 refine xf [(15, .bool false), (2, Pt b3 0), (1, V a1)] ?_
 refine kF 15 rfl ?_
 refine sr r15_3 ?_
 refine r_step rfl trivial (o_ldb (v := .agg #[v2]) hS5 (i := 0) rfl rfl (by kernel_rfl)) ?_
 obtain ⟨r9, hx10, hm⟩ := obind hm
 have hSr16 : St _ _ _ _ _ _ ([] ++ [.blk b3 [v2]]) := hS5
 obtain ⟨v11, h12, Z17, A19, hcl13, hSc14, b20, v22, c23, rfl, rfl, q21⟩ := arena_own_ok F hSr16.preL q1 hx10
 have hS15 := hSr16.call hSc14
 have hZ18 := hSc14.zle
 replace hS15 : St _ _ _ _ _ _ [.blk b20 [v22], .gs v22 c23 (csz api_Node), .blk b3 [v2]] := hS15
 refine r_step rfl trivial (o_call hcl13 rfl rfl rfl) ?_
 refine xe 1 [(5, Pt b20 0), (1, V a1)] ?_
 refine sr r15_4 ?_
 refine xq 4 [(21, Pt b20 0), (5, Pt b20 0), (1, V a1)] ?_
 refine r_step rfl trivial (o_ldb (v := v22) hS15 (i := 0) rfl rfl (by kernel_rfl)) ?_
 obtain ⟨hc24, hm⟩ := chk hm
 refine r_step rfl trivial (o_index rfl rfl (by kernel_rfl : slTy _ _ = some (csz api_Node)) (hS15.gbased (j := 1) rfl q21 (by omega)) hc24.1 hc24.2) ?_
 obtain ⟨x25, hx26, hm⟩ := obind hm
 obtain ⟨cs27, hc28, he29, ht30⟩ := hS15.gel (j := 1) rfl q21 (i := 0) hx26
 obtain ⟨v31, q32, rfl⟩ := rc_api_Node hc28
 refine r_step rfl trivial (o_lde (w := .agg #[V x25.Kind, V x25.From, V x25.To, V x25.Up, v31, .bool x25.Key]) he29 rfl (by kernel_rfl)) ?_
 refine r_blk rfl trivial (o_alloc (cs := [V 0, V 0, V 0, V 0, .slice none 0 0, .bool false]) (by kernel_rfl)) hS15 ?_
 intro b33 h34 hS35
 refine r_ex1 rfl trivial (o_stb (vs := [V x25.Kind, V x25.From, V x25.To, V x25.Up, v31, .bool x25.Key]) (cells' := (K42 v31 x25)) (L' := [.blk b33 (K42 v31 x25), .blk b20 [v22], .gs v22 c23 (csz api_Node), .blk b3 [v2]]) hS35 (i := 0) rfl rfl rfl rfl (by kernel_rfl) (one_cons rfl (one_cons rfl (one_cons rfl (one_cons rfl (one_cons (RS.one1 q32) (one_cons rfl one_nil)))))) rfl rfl rfl) ?_
 intro h36 hS37
 refine xf [(6, Pt b33 0), (5, Pt b20 0), (1, V a1)] ?_
 refine sq ?_
 refine sr r15_5 ?_
 refine xq 1 [(25, Pt b33 0), (6, Pt b33 0), (5, Pt b20 0), (1, V a1)] ?_
 refine r_step rfl trivial (o_ldb (v := V x25.Kind) hS37 (i := 0) rfl rfl (by kernel_rfl)) ?_
 rcases ifs hm with ⟨hp46, hm⟩ | ⟨hp46, hm⟩
 refine r_step rfl trivial (o_cmp rfl rfl (c_neq_F hp46)) ?_
 refine xq 2 [(29, Pt b33 1), (28, .bool false), (6, Pt b33 0), (5, Pt b20 0), (1, V a1)] ?_
 refine r_step rfl rfl (o_ldb (v := V x25.From) hS37 (i := 0) rfl rfl (by kernel_rfl)) ?_
 rcases ifs hm with ⟨hp47, hm⟩ | ⟨hp47, hm⟩
 refine r_step rfl rfl (o_cmp rfl rfl (c_neq_F hp47)) ?_
 refine xq 3 [(34, Pt b33 2), (33, .bool false), (6, Pt b33 0), (5, Pt b20 0), (1, V a1)] ?_
 refine r_step rfl rfl (o_ldb (v := V x25.To) hS37 (i := 0) rfl rfl (by kernel_rfl)) ?_
 refine xq 1 [(36, V a1), (35, V x25.To), (33, .bool false), (6, Pt b33 0), (5, Pt b20 0)] ?_
 rcases ifs hm with ⟨hp48, hm⟩ | ⟨hp48, hm⟩
 refine r_step rfl rfl (o_cmp rfl rfl (c_neq_F hp48)) ?_
 refine xq 3 [(40, Pt b33 3), (39, .bool false), (5, Pt b20 0)] ?_
 refine r_step rfl rfl (o_ldb (v := V x25.Up) hS37 (i := 0) rfl rfl (by kernel_rfl)) ?_
 rcases ifs hm with ⟨hp49, hm⟩ | ⟨hp49, hm⟩
 refine r_step rfl rfl (o_cmp rfl rfl (c_neq_F hp49)) ?_
 refine xe 1 [(43, .bool false), (5, Pt b20 0)] ?_
 refine kF 43 rfl ?_
 refine sr r15_7 ?_
 refine xe 1 [(7, V 0), (5, Pt b20 0)] ?_
 refine sq ?_
 refine sr r15_8 ?_
 refine xq 4 [(47, Pt b20 0), (7, V 0), (5, Pt b20 0)] ?_
 refine r_step rfl trivial (o_ldb (v := v22) hS37 (i := 1) rfl rfl (by kernel_rfl)) ?_
 refine r_step rfl trivial (o_len rfl (hS37.glen (i := 2) rfl q21) ⟨_, Try.underlying27⟩) ?_
 refine xe 1 [(50, V 0), (49, V (r9.Tree.Nodes.length : Int)), (48, v22), (7, V 0), (5, Pt b20 0)] ?_
 obtain ⟨o660, ho659, hm⟩ := obind hm
 refine W_join [5, 7] (fun l h => ∃ Z903 : Zn, ∃ x905 : List api_Node, ∃ x909 : Int, ∃ b904 : Nat, ∃ v907 : Value, ∃ c908 : List Value, .inl (x905, x909) = o660 ∧ RCs (α := api_Node) Z903 c908 x905 ∧ l = [(5, Pt b904 0), (7, V x909)] ∧ St hs [] Z (0, 0) Z903 h [.blk b904 [v907], .gs v907 c908 (csz api_Node)]) ?_ ?_
 rintro l h910 ⟨Z903, x905, x909, b904, v907, c908, rfl, q906, rfl, hS911⟩
 try dsimp only at hm
 refine sr r15_21 ?_
 refine xq 5 [(99, Pt b904 0), (95, V x909)] ?_
 refine r_step rfl trivial (o_ldb (v := v907) hS911 (i := 0) rfl rfl (by kernel_rfl)) ?_
 refine r_step rfl trivial (o_len rfl (hS911.glen (i := 1) rfl q906) ⟨_, Try.underlying27⟩) ?_
 refine xq 1 [(102, V (w64 ((x905.length : Int) - 1))), (95, V x909)] ?_
 rcases ifs hm with ⟨hp912, hm⟩ | ⟨hp912, hm⟩
 refine r_step rfl trivial (o_cmp rfl rfl (c_eql_T hp912)) ?_
 refine xe 1 [(4, .bool true)] ?_
 refine rt ?_
 refine ⟨rfl, ?_⟩
 obtain rfl := si hm
 refine ⟨_, _, _, ResL.tmp rfl (ResL.nil), hS911, ?_⟩
 exact rfl
 refine r_step rfl trivial (o_cmp rfl rfl (c_eql_F hp912)) ?_
 refine xe 1 [(4, .bool false)] ?_
 refine rt ?_
 refine ⟨rfl, ?_⟩
 obtain rfl := si hm
 refine ⟨_, _, _, ResL.tmp rfl (ResL.nil), hS911, ?_⟩
 exact rfl
 refine bk 0 ?_
 refine lp [5, 7, 48, 49, 50] (fun n l h => ∃ Z661 : Zn, ∃ x663 : List api_Node, ∃ x667 : Int, ∃ x668 : Int, ∃ x669 : Int, ∃ b662 : Nat, ∃ v665 : Value, ∃ c666 : List Value, arena_Check_l0 F a0 a1 n x663 x667 x668 x669 = some o660 ∧ RCs (α := api_Node) Z661 c666 x663 ∧ l = [(5, Pt b662 0), (7, V x667), (48, v665), (49, V x668), (50, V x669)] ∧ St hs [] Z (0, 0) Z661 h [.blk b662 [v665], .gs v665 c666 (csz api_Node)]) F ⟨_, r9.Tree.Nodes, 0, (r9.Tree.Nodes.length : Int), 0, b20, v22, c23, ho659, q21, rfl, (((hS37.front 2 rfl).front 2 rfl).takeN 2)⟩ ?_
 rintro n672 l h670 ⟨Z661, x663, x667, x668, x669, b662, v665, c666, ho659, q664, rfl, hS671⟩
 rcases n672 with _ | n672
 cases (show none = some o660 from ho659)
 rw [arena_Check_l0] at ho659
 refine sr r15_9 ?_
 rcases ifs ho659 with ⟨hp674, ho659⟩ | ⟨hp674, ho659⟩
 refine r_step rfl trivial (o_cmp rfl rfl (c_lss_T hp674)) ?_
 refine xf [(51, .bool true), (5, Pt b662 0), (7, V x667), (48, v665), (49, V x668), (50, V x669)] ?_
 refine sq ?_
 refine kT 51 rfl ?_
 refine sq ?_
 refine bk 1 ?_
 refine sr r15_10 ?_
 refine xq 1 [(52, V x669), (5, Pt b662 0), (7, V x667), (48, v665), (49, V x668), (50, V x669)] ?_
 obtain ⟨hc675, ho659⟩ := chk ho659
 refine r_step rfl trivial (o_index rfl rfl (by kernel_rfl : slTy _ _ = some (csz api_Node)) (hS671.gbased (j := 1) rfl q664 (by omega)) hc675.1 hc675.2) ?_
 obtain ⟨x676, hx677, ho659⟩ := obind ho659
 obtain ⟨cs678, hc679, he680, ht681⟩ := hS671.gel (j := 1) rfl q664 (i := x669) hx677
 obtain ⟨v682, q683, rfl⟩ := rc_api_Node hc679
 refine r_step rfl trivial (o_lde (w := .agg #[V x676.Kind, V x676.From, V x676.To, V x676.Up, v682, .bool x676.Key]) he680 rfl (by kernel_rfl)) ?_
 refine r_blk rfl trivial (o_alloc (cs := [V 0, V 0, V 0, V 0, .slice none 0 0, .bool false]) (by kernel_rfl)) hS671 ?_
 intro b684 h685 hS686
 refine xq 1 [(8, V x669), (9, Pt b684 0), (54, .agg #[V x676.Kind, V x676.From, V x676.To, V x676.Up, v682, .bool x676.Key]), (5, Pt b662 0), (7, V x667), (48, v665), (49, V x668), (50, V x669)] ?_
 refine r_ex1 rfl trivial (o_stb (vs := [V x676.Kind, V x676.From, V x676.To, V x676.Up, v682, .bool x676.Key]) (cells' := (K42 v682 x676)) (L' := [.blk b684 (K42 v682 x676), .blk b662 [v665], .gs v665 c666 (csz api_Node)]) hS686 (i := 0) rfl rfl rfl rfl (by kernel_rfl) (one_cons rfl (one_cons rfl (one_cons rfl (one_cons rfl (one_cons (RS.one1 q683) (one_cons rfl one_nil)))))) rfl rfl rfl) ?_
 intro h687 hS688
 refine xf [(8, V x669), (9, Pt b684 0), (5, Pt b662 0), (7, V x667), (48, v665), (49, V x668), (50, V x669)] ?_
 refine sq ?_
 obtain ⟨o705, ho704, ho659⟩ := obind ho659
 refine W_join [5, 7, 9, 48, 49, 50] (fun l h => ∃ Z721 : Zn, ∃ x723 : List api_Node, ∃ x728 : api_Node, ∃ b722 : Nat, ∃ v725 : Value, ∃ c726 : List Value, ∃ b727 : Nat, ∃ v730 : Value, .inl (x723, x728) = o705 ∧ RCs (α := api_Node) Z721 c726 x723 ∧ RS (α := Int) Z721 v730 x728.Kids ∧ l = [(5, Pt b722 0), (7, V x667), (9, Pt b727 0), (48, v725), (49, V x668), (50, V x669)] ∧ St hs [] Z (0, 0) Z721 h [.blk b722 [v725], .gs v725 c726 (csz api_Node), .blk b727 (K42 v730 x728)]) ?_ ?_
 rintro l h731 ⟨Z721, x723, x728, b722, v725, c726, b727, v730, rfl, q724, q729, rfl, hS732⟩
 try dsimp only at ho659
 refine sr r15_13 ?_
 refine xq 2 [(75, Pt b727 4), (74, V x667), (5, Pt b722 0), (7, V x667), (9, Pt b727 0), (48, v725), (49, V x668), (50, V x669)] ?_
 refine r_step rfl trivial (o_ldb (v := v730) hS732 (i := 2) rfl rfl (by kernel_rfl)) ?_
 refine r_step rfl trivial (o_len rfl (RS.len q729) ⟨_, Try.underlying40⟩) ?_
 refine xe 2 [(7, V (w64 (x667 + (x728.Kids.length : Int)))), (5, Pt b722 0), (9, Pt b727 0), (48, v725), (49, V x668), (50, V x669)] ?_
 refine sr r15_14 ?_
 refine xq 1 [(79, Pt b727 4), (7, V (w64 (x667 + (x728.Kids.length : Int)))), (5, Pt b722 0), (9, Pt b727 0), (48, v725), (49, V x668), (50, V x669)] ?_
 refine r_step rfl trivial (o_ldb (v := v730) hS732 (i := 2) rfl rfl (by kernel_rfl)) ?_
 refine r_step rfl trivial (o_len rfl (RS.len q729) ⟨_, Try.underlying40⟩) ?_
 refine xe 1 [(82, V 0), (81, V (x728.Kids.length : Int)), (80, v730), (7, V (w64 (x667 + (x728.Kids.length : Int)))), (5, Pt b722 0), (9, Pt b727 0), (48, v725), (49, V x668), (50, V x669)] ?_
 obtain ⟨o817, ho816, ho659⟩ := obind ho659
 refine W_join [5, 7, 48, 49, 50] (fun l h => ∃ Z869 : Zn, ∃ x871 : List api_Node, ∃ x875 : Int, ∃ x876 : Int, ∃ x877 : Int, ∃ b870 : Nat, ∃ v873 : Value, ∃ c874 : List Value, .inl (x871, x875, x876, x877) = o817 ∧ RCs (α := api_Node) Z869 c874 x871 ∧ l = [(5, Pt b870 0), (7, V x875), (48, v873), (49, V x876), (50, V x877)] ∧ St hs [] Z (0, 0) Z869 h [.blk b870 [v873], .gs v873 c874 (csz api_Node)]) ?_ ?_
 rintro l h878 ⟨Z869, x871, x875, x876, x877, b870, v873, c874, rfl, q872, rfl, hS879⟩
 try dsimp only at ho659
 refine rg r15_20 ?_
 refine xe 2 [(50, V (w64 (x877 + 1))), (5, Pt b870 0), (7, V x875), (48, v873), (49, V x876)] ?_
 exact ⟨n672, Nat.lt_succ_self _, ⟨_, x871, x875, x876, w64 (x877 + 1), b870, v873, c874, ho659, q872, rfl, hS879⟩⟩
 refine bk 2 ?_
 refine lp [5, 7, 9, 48, 49, 50, 80, 81, 82] (fun n l h => ∃ Z818 : Zn, ∃ x820 : List api_Node, ∃ x824 : Int, ∃ x826 : api_Node, ∃ x829 : Int, ∃ x830 : Int, ∃ x831 : List Int, ∃ x834 : Int, ∃ x835 : Int, ∃ b819 : Nat, ∃ v822 : Value, ∃ c823 : List Value, ∃ b825 : Nat, ∃ v828 : Value, ∃ v833 : Value, arena_Check_l1 F a0 a1 n x820 x824 x826 x829 x830 x831 x834 x835 = some o817 ∧ RCs (α := api_Node) Z818 c823 x820 ∧ RS (α := Int) Z818 v828 x826.Kids ∧ RS (α := Int) Z818 v833 x831 ∧ l = [(5, Pt b819 0), (7, V x824), (9, Pt b825 0), (48, v822), (49, V x829), (50, V x830), (80, v833), (81, V x834), (82, V x835)] ∧ St hs [] Z (0, 0) Z818 h [.blk b819 [v822], .gs v822 c823 (csz api_Node), .blk b825 (K42 v828 x826)]) F ⟨_, x723, w64 (x667 + (x728.Kids.length : Int)), x728, x668, x669, x728.Kids, (x728.Kids.length : Int), 0, b722, v725, c726, b727, v730, v730, ho816, q724, q729, q729, rfl, hS732⟩ ?_
 rintro n838 l h836 ⟨Z818, x820, x824, x826, x829, x830, x831, x834, x835, b819, v822, c823, b825, v828, v833, ho816, q821, q827, q832, rfl, hS837⟩
 rcases n838 with _ | n838
 cases (show none = some o817 from ho816)
 rw [arena_Check_l1] at ho816
 refine sr r15_15 ?_
 rcases ifs ho816 with ⟨hp840, ho816⟩ | ⟨hp840, ho816⟩
 refine r_step rfl trivial (o_cmp rfl rfl (c_lss_T hp840)) ?_
 refine xf [(83, .bool true), (5, Pt b819 0), (7, V x824), (9, Pt b825 0), (48, v822), (49, V x829), (50, V x830), (80, v833), (81, V x834), (82, V x835)] ?_
 refine sq ?_
 refine kT 83 rfl ?_
 refine sq ?_
 refine bk 3 ?_
 refine sr r15_16 ?_
 refine xq 1 [(84, V x835), (5, Pt b819 0), (7, V x824), (9, Pt b825 0), (48, v822), (49, V x829), (50, V x830), (80, v833), (81, V x834), (82, V x835)] ?_
 obtain ⟨hc841, ho816⟩ := chk ho816
 refine r_step rfl trivial (o_index rfl rfl (by kernel_rfl : slTy _ _ = some (csz Int)) (RS.based q832 (by omega)) hc841.1 hc841.2) ?_
 obtain ⟨x842, hx843, ho816⟩ := obind ho816
 obtain ⟨cs844, hc845, he846⟩ := RS.elz q832 (i := x835) hx843
 obtain rfl := rc_Int hc845
 refine r_step rfl trivial (o_lde (w := V x842) (he846 _ (hS837.zin0 (Zle.refl _))) rfl (by kernel_rfl)) ?_
 refine xe 2 [(11, V x842), (10, V x835), (5, Pt b819 0), (7, V x824), (9, Pt b825 0), (48, v822), (49, V x829), (50, V x830), (80, v833), (81, V x834), (82, V x835)] ?_
 refine sr r15_17 ?_
 refine xq 1 [(87, Pt b825 4), (11, V x842), (10, V x835), (5, Pt b819 0), (7, V x824), (9, Pt b825 0), (48, v822), (49, V x829), (50, V x830), (80, v833), (81, V x834), (82, V x835)] ?_
 refine r_step rfl trivial (o_ldb (v := v828) hS837 (i := 2) rfl rfl (by kernel_rfl)) ?_
 refine xq 1 [(89, V x835), (88, v828), (11, V x842), (5, Pt b819 0), (7, V x824), (9, Pt b825 0), (48, v822), (49, V x829), (50, V x830), (80, v833), (81, V x834), (82, V x835)] ?_
 obtain ⟨hc851, ho816⟩ := chk ho816
 refine r_exv rfl trivial (o_slice (a := 0) (b := x835) q827 rfl (by kernel_rfl : slTy _ _ = some (csz Int)) rfl ⟨_, rfl⟩ hc851.1 hc851.2.1 hc851.2.2) ?_
 intro v848 q849
 refine xq 1 [(91, V x842), (90, v848), (5, Pt b819 0), (7, V x824), (9, Pt b825 0), (48, v822), (49, V x829), (50, V x830), (80, v833), (81, V x834), (82, V x835)] ?_
 obtain ⟨r852, hx853, ho816⟩ := obind ho816
 obtain ⟨v854, h855, hcl856, hSc857, rfl⟩ := slices_Contains_int_ok F hS837.inv q849 hx853
 have hS858 := St.call (A := []) (B := [.blk b819 [v822], .gs v822 c823 (csz api_Node), .blk b825 (K42 v828 x826)]) hS837 hSc857
 replace hS858 : St _ _ _ _ _ _ [.blk b819 [v822], .gs v822 c823 (csz api_Node), .blk b825 (K42 v828 x826)] := hS858
 refine r_step rfl trivial (o_call hcl856 rfl rfl rfl) ?_
 refine xf [(92, .bool r852), (5, Pt b819 0), (7, V x824), (9, Pt b825 0), (48, v822), (49, V x829), (50, V x830), (80, v833), (81, V x834), (82, V x835)] ?_
 rcases ifs ho816 with ⟨hp860, ho816⟩ | ⟨hp860, ho816⟩
 refine W_condT (x := .tmp 92) (by kernel_rfl) rfl hp860 ?_
 refine sr r15_18 ?_
 refine xe 1 [(4, .bool false)] ?_
 refine rt ?_
 refine blkX_ret ?_
 refine blkX_ret ?_
 refine blkX_ret ?_
 refine blkX_ret ?_
 refine ⟨rfl, ?_⟩
 obtain rfl := si ho816
 obtain rfl := si ho659
 obtain rfl := si hm
 refine ⟨_, _, _, ResL.tmp rfl (ResL.nil), hS858, ?_⟩
 exact rfl
 refine W_condF (x := .tmp 92) (by kernel_rfl) rfl (Bool.eq_false_iff.2 hp860) ?_
 refine sk ?_
 refine rg r15_19 ?_
 refine xe 2 [(82, V (w64 (x835 + 1))), (5, Pt b819 0), (7, V x824), (9, Pt b825 0), (48, v822), (49, V x829), (50, V x830), (80, v833), (81, V x834)] ?_
 exact ⟨n838, Nat.lt_succ_self _, ⟨_, x820, x824, x826, x829, x830, x831, x834, w64 (x835 + 1), b819, v822, c823, b825, v828, v833, ho816, q821, q827, q832, rfl, hS858⟩⟩
 refine r_step rfl trivial (o_cmp rfl rfl (c_lss_F hp840)) ?_
 refine xf [(83, .bool false), (5, Pt b819 0), (7, V x824), (9, Pt b825 0), (48, v822), (49, V x829), (50, V x830), (80, v833), (81, V x834), (82, V x835)] ?_
 refine sq ?_
 refine cF 83 rfl ?_
 refine xt 2 ?_
 refine blkX_hit ?_
 obtain rfl := si ho816
 exact ⟨_, x820, x824, x829, x830, b819, v822, c823, rfl, q821, rfl, (hS837.takeN 2)⟩
 refine sr r15_11 ?_
 refine xq 2 [(56, V x669), (55, Pt b662 0), (8, V x669), (9, Pt b684 0), (5, Pt b662 0), (7, V x667), (48, v665), (49, V x668), (50, V x669)] ?_
 obtain ⟨r706, hx707, ho704⟩ := obind ho704
 have hF713 : St _ _ _ _ _ _ ([.blk b662 [v665], .gs v665 c666 (csz api_Node)] ++ [.blk b684 (K42 v682 x676)]) := ((hS688.front 2 rfl).front 2 rfl)
 obtain ⟨v708, h709, Z714, A716, hcl710, hSc711, rfl, rfl⟩ := arena_forest_lies_ok F hF713.preL q664 hx707
 have hZ715 := hSc711.zle
 have hS712 := hF713.call hSc711
 replace hS712 : St _ _ _ _ _ _ [.blk b662 [v665], .gs v665 c666 (csz api_Node), .blk b684 (K42 v682 x676)] := hS712
 refine r_step rfl trivial (o_call hcl710 rfl rfl rfl) ?_
 rcases ifs ho704 with ⟨hp717, ho704⟩ | ⟨hp717, ho704⟩
 refine r_setb (t := 57) rfl hp717 ?_
 refine xq 3 [(60, V x669), (59, .bool false), (8, V x669), (9, Pt b684 0), (5, Pt b662 0), (7, V x667), (48, v665), (49, V x668), (50, V x669)] ?_
 rcases ifs ho704 with ⟨hp718, ho704⟩ | ⟨hp718, ho704⟩
 refine r_step rfl rfl (o_cmp rfl rfl (c_gtr_T hp718)) ?_
 refine xq 2 [(63, Pt b684 3), (62, .bool true), (59, .bool false), (8, V x669), (9, Pt b684 0), (5, Pt b662 0), (7, V x667), (48, v665), (49, V x668), (50, V x669)] ?_
 refine r_step rfl rfl (o_ldb (v := V x676.Up) hS712 (i := 2) rfl rfl (by kernel_rfl)) ?_
 rcases ifs ho704 with ⟨hp719, ho704⟩ | ⟨hp719, ho704⟩
 refine r_step rfl rfl (o_cmp rfl rfl (c_lss_T hp719)) ?_
 refine xe 8 [(73, .bool true), (9, Pt b684 0), (5, Pt b662 0), (7, V x667), (48, v665), (49, V x668), (50, V x669)] ?_
 refine cT 73 rfl ?_
 refine sr r15_12 ?_
 refine xe 1 [(4, .bool false)] ?_
 refine rt ?_
 refine blkX_ret ?_
 refine blkX_ret ?_
 refine ⟨rfl, ?_⟩
 obtain rfl := si ho704
 obtain rfl := si ho659
 obtain rfl := si hm
 refine ⟨_, _, _, ResL.tmp rfl (ResL.nil), hS712, ?_⟩
 exact rfl
 refine r_step rfl rfl (o_cmp rfl rfl (c_lss_F hp719)) ?_
 refine xq 2 [(67, Pt b684 3), (66, .bool false), (62, .bool true), (59, .bool false), (8, V x669), (9, Pt b684 0), (5, Pt b662 0), (7, V x667), (48, v665), (49, V x668), (50, V x669)] ?_
 refine r_step rfl rfl (o_ldb (v := V x676.Up) hS712 (i := 2) rfl rfl (by kernel_rfl)) ?_
 refine xq 1 [(69, V x669), (68, V x676.Up), (66, .bool false), (62, .bool true), (59, .bool false), (9, Pt b684 0), (5, Pt b662 0), (7, V x667), (48, v665), (49, V x668), (50, V x669)] ?_
 rcases ifs ho704 with ⟨hp720, ho704⟩ | ⟨hp720, ho704⟩
 refine r_step rfl rfl (o_cmp rfl rfl (c_geq_T hp720)) ?_
 refine xe 3 [(73, .bool true), (9, Pt b684 0), (5, Pt b662 0), (7, V x667), (48, v665), (49, V x668), (50, V x669)] ?_
 refine cT 73 rfl ?_
 refine sr r15_12 ?_
 refine xe 1 [(4, .bool false)] ?_
 refine rt ?_
 refine blkX_ret ?_
 refine blkX_ret ?_
 refine ⟨rfl, ?_⟩
 obtain rfl := si ho704
 obtain rfl := si ho659
 obtain rfl := si hm
 refine ⟨_, _, _, ResL.tmp rfl (ResL.nil), hS712, ?_⟩
 exact rfl
 refine r_step rfl rfl (o_cmp rfl rfl (c_geq_F hp720)) ?_
 refine xe 3 [(73, .bool false), (9, Pt b684 0), (5, Pt b662 0), (7, V x667), (48, v665), (49, V x668), (50, V x669)] ?_
 refine kF 73 rfl ?_
 obtain rfl := si ho704
 exact ⟨_, x663, x676, b662, v665, c666, b684, v682, rfl, (q664.mono hZ715), (q683.mono hZ715), rfl, hS712⟩
 refine r_step rfl rfl (o_cmp rfl rfl (c_gtr_F hp718)) ?_
 refine xe 12 [(73, .bool false), (9, Pt b684 0), (5, Pt b662 0), (7, V x667), (48, v665), (49, V x668), (50, V x669)] ?_
 refine kF 73 rfl ?_
 obtain rfl := si ho704
 exact ⟨_, x663, x676, b662, v665, c666, b684, v682, rfl, (q664.mono hZ715), (q683.mono hZ715), rfl, hS712⟩
 refine r_setb (t := 57) rfl (Bool.eq_false_iff.2 hp717) ?_
 refine xe 16 [(73, .bool true), (9, Pt b684 0), (5, Pt b662 0), (7, V x667), (48, v665), (49, V x668), (50, V x669)] ?_
 refine cT 73 rfl ?_
 refine sr r15_12 ?_
 refine xe 1 [(4, .bool false)] ?_
 refine rt ?_
 refine blkX_ret ?_
 refine blkX_ret ?_
 refine ⟨rfl, ?_⟩
 obtain rfl := si ho704
 obtain rfl := si ho659
 obtain rfl := si hm
 refine ⟨_, _, _, ResL.tmp rfl (ResL.nil), hS712, ?_⟩
 exact rfl
 refine r_step rfl trivial (o_cmp rfl rfl (c_lss_F hp674)) ?_
 refine xf [(51, .bool false), (5, Pt b662 0), (7, V x667), (48, v665), (49, V x668), (50, V x669)] ?_
 refine sq ?_
 refine cF 51 rfl ?_
 refine xt 0 ?_
 refine blkX_hit ?_
 obtain rfl := si ho659
 exact ⟨_, x663, x667, b662, v665, c666, rfl, q664, rfl, hS671⟩
 refine r_step rfl rfl (o_cmp rfl rfl (c_neq_T hp49)) ?_
 refine xe 1 [(43, .bool true), (5, Pt b20 0)] ?_
 refine cT 43 rfl ?_
 refine sr r15_6 ?_
 refine xe 1 [(4, .bool false)] ?_
 refine rt ?_
 refine ⟨rfl, ?_⟩
 obtain rfl := si hm
 refine ⟨_, _, _, ResL.tmp rfl (ResL.nil), hS37, ?_⟩
 exact rfl
 refine r_step rfl rfl (o_cmp rfl rfl (c_neq_T hp48)) ?_
 refine xe 6 [(43, .bool true), (5, Pt b20 0)] ?_
 refine cT 43 rfl ?_
 refine sr r15_6 ?_
 refine xe 1 [(4, .bool false)] ?_
 refine rt ?_
 refine ⟨rfl, ?_⟩
 obtain rfl := si hm
 refine ⟨_, _, _, ResL.tmp rfl (ResL.nil), hS37, ?_⟩
 exact rfl
 refine r_step rfl rfl (o_cmp rfl rfl (c_neq_T hp47)) ?_
 refine xe 12 [(43, .bool true), (5, Pt b20 0)] ?_
 refine cT 43 rfl ?_
 refine sr r15_6 ?_
 refine xe 1 [(4, .bool false)] ?_
 refine rt ?_
 refine ⟨rfl, ?_⟩
 obtain rfl := si hm
 refine ⟨_, _, _, ResL.tmp rfl (ResL.nil), hS37, ?_⟩
 exact rfl
 refine r_step rfl trivial (o_cmp rfl rfl (c_neq_T hp46)) ?_
 refine xe 16 [(43, .bool true), (5, Pt b20 0)] ?_
 refine cT 43 rfl ?_
 refine sr r15_6 ?_
 refine xe 1 [(4, .bool false)] ?_
 refine rt ?_
 refine ⟨rfl, ?_⟩
 obtain rfl := si hm
 refine ⟨_, _, _, ResL.tmp rfl (ResL.nil), hS37, ?_⟩
 exact rfl

def r7_0 : List COp := [u 6 (.assign (.const (.bool false)))]
def r7_1 : List COp := [u 17 (cf 8 #[] #[]), u 18 (.unOp .not 4 (t 17))]
def r7_2 : List COp := [u 6 (.assign (.const (.bool false)))]
def r7_3 : List COp := [u 19 (mv 0), u 20 (cf 14 #[(t 19)] #[40]), u 7 (sg 20)]
def r7_4 : List COp := [u 21 (mv 7), u 22 (cf 10 #[(t 21)] #[24]), u 8 (sg 22)]
def r7_5 : List COp := [u 23 (mv 1), u 24 (mv 8), u 25 (cb .len #[(t 24)] #[25]), u 26 (cf 9 #[(t 23), (t 25)] #[3, 3]), u 1 (sg 26)]
def r7_6 : List COp := [u 28 (mv 7), u 29 (mv 8), u 30 (mv 8), u 31 (cb .len #[(t 30)] #[25]), u 32 (cf 12 #[(t 31)] #[3]), u 33 (mv 1), u 34 (mv 8), u 35 (cb .len #[(t 34)] #[25]), u 36 (mv 2), u 37 (cf 9 #[(t 36), (ci 9)] #[3, 3]), u 38 (cf 11 #[(t 28), (t 29), (t 32), (ci 0), (t 33), (t 35), (t 37)] #[24, 25, 29, 3, 3, 3, 3]), u 27 (mv 38), u 39 (.extract (t 27) 0), u 40 (.extract (t 27) 1), u 41 (.extract (t 27) 2), u 42 (.extract (t 27) 3), u 9 (.alloc 29), o (.store 29 (t 9) (t 39)), u 10 (sg 40), u 11 (sg 41), u 12 (sg 42)]
def r7_7 : List COp := [u 43 (ld 29 9), u 44 (mv 8), u 45 (cb .len #[(t 44)] #[25]), u 46 (cf 15 #[(t 43), (t 45)] #[29, 3]), u 47 (.unOp .not 4 (t 46)), u 48 (mv 47), gn 48 49 (mv 10), gn 48 50 (bc .lss 3 49 0 3), gn 48 51 (mv 50), gt 51 52 (mv 11), gt 51 53 (mv 1), gt 51 54 (bo .neq 3 52 53 3), gt 51 55 (mv 54), gn 55 56 (fa 29 9 0), gn 55 57 (ld 27 56), gn 55 58 (cb .len #[(t 57)] #[27]), gn 55 59 (bc .neq 3 58 1 3), gt 51 60 (pt 55 59), gt 51 61 (mv 60), gn 61 62 (mv 12), gn 61 63 (cb .len #[(t 62)] #[30]), gn 61 64 (bc .neq 3 63 0 3), gt 51 65 (pt 61 64), gn 48 66 (pf 51 65), u 67 (pt 48 66), u 68 (mv 67), gn 68 69 (mv 10), gn 68 70 (bc .geq 3 69 0 3), gn 68 71 (mv 70), gt 71 72 (mv 11), gt 71 73 (mv 1), gt 71 74 (bo .leq 3 72 73 3), gt 71 75 (mv 74), gn 75 76 (mv 11), gn 75 77 (mv 8), gn 75 78 (cb .len #[(t 77)] #[25]), gn 75 79 (bo .gtr 3 76 78 3), gt 71 80 (pt 75 79), gn 68 81 (pf 71 80), u 82 (pt 68 81)]
def r7_8 : List COp := [u 6 (.assign (.const (.bool false)))]
def r7_9 : List COp := [u 13 (.assign (ci 0)), u 14 (.assign (ci 0))]
def r7_10 : List COp := [u 15 (.assign (ci 0))]
def r7_11 : List COp := [u 83 (mv 15), u 84 (fa 29 9 0), u 85 (ld 27 84), u 86 (cb .len #[(t 85)] #[27]), u 87 (bo .lss 3 83 86 3)]
def r7_12 : List COp := [u 88 (mv 15), u 89 (bc .add 3 88 1 3), u 15 (sg 89)]
def r7_13 : List COp := [u 90 (fa 29 9 0), u 91 (ld 27 90), u 92 (mv 15), u 93 (ia 27 91 92), u 94 (fa 42 93 0), u 95 (ld 3 94), u 96 (bc .eql 3 95 11 3)]
def r7_14 : List COp := [u 97 (mv 13), u 98 (bc .add 3 97 1 3), u 13 (sg 98)]
def r7_15 : List COp := [u 16 (.assign (ci 0))]
def r7_16 : List COp := [u 99 (mv 16), u 100 (mv 12), u 101 (cb .len #[(t 100)] #[30]), u 102 (bo .lss 3 99 101 3)]
def r7_17 : List COp := [u 103 (mv 16), u 104 (bc .add 3 103 1 3), u 16 (sg 104)]
def r7_18 : List COp := [u 105 (mv 12), u 106 (mv 16), u 107 (ia 30 105 106), u 108 (fa 35 107 0), u 109 (ld 3 108), u 110 (bc .neq 3 109 9 3)]
def r7_19 : List COp := [u 111 (mv 14), u 112 (bc .add 3 111 1 3), u 14 (sg 112)]
def r7_20 : List COp := [u 113 (mv 13), u 114 (mv 14), u 115 (bo .eql 3 113 114 3), u 6 (sg 115)]
def correctorlaw11_FlowEnds_l0 (F : Nat) (a0 : List Int) (a1 : Int) (a2 : Int) : Nat → (List api_Node) → (List api_Diag) → Int → Int → Option ((List api_Diag) × Int)
 | 0, _, _, _, _ => none
 | n + 1, x320, x323, x327, x328 =>
  if x328 < (x320.length : Int) then
   ((if 0 ≤ x328 ∧ x328 < (x320.length : Int) then
     (x320[x328.toNat]?).bind fun x348 =>
     if x348.Kind = (11 : Int) then
      some (x320, x323, w64 (x327 + 1))
     else
      some (x320, x323, x327)
    else none) : Option ((List api_Node) × (List api_Diag) × Int)).bind fun o => match o with
    | (x359, x362, x366) => correctorlaw11_FlowEnds_l0 F a0 a1 a2 n x359 x362 x366 (w64 (x328 + 1))
  else
   some (x323, x327)
def correctorlaw11_FlowEnds_l1 (F : Nat) (a0 : List Int) (a1 : Int) (a2 : Int) : Nat → (List api_Diag) → Int → Int → Int → Option (Int × Int)
 | 0, _, _, _, _ => none
 | n + 1, x511, x515, x516, x517 =>
  if x517 < (x511.length : Int) then
   ((if 0 ≤ x517 ∧ x517 < (x511.length : Int) then
     (x511[x517.toNat]?).bind fun x535 =>
     if x535.Code = (9 : Int) then
      some (x511, x516)
     else
      some (x511, w64 (x516 + 1))
    else none) : Option ((List api_Diag) × Int)).bind fun o => match o with
    | (x543, x547) => correctorlaw11_FlowEnds_l1 F a0 a1 a2 n x543 x515 x547 (w64 (x517 + 1))
  else
   some (x515, x516)
def correctorlaw11_FlowEnds (F : Nat) (a0 : List Int) (a1 : Int) (a2 : Int) : Option Bool :=
 (correctorlaw11_known F).bind fun r19 =>
 if r19 = true then
  (correctorlaw11_Flow F a0).bind fun r27 =>
  (correctorref6_Tokens F r27).bind fun r40 =>
  (correctorlaw11_within F a1 (r40.length : Int)).bind fun r54 =>
  (arena_New F (r40.length : Int)).bind fun r61 =>
  (correctorlaw11_within F a2 9).bind fun r75 =>
  (flow_Value F r27 r40 r61 0 r54 (r40.length : Int) r75).bind fun r90 =>
  (((arena_Check F r90.1 (r40.length : Int)).bind fun r131 =>
   if r131 = true then
    if r90.2.1 < (0 : Int) then
     if r90.2.2.1 = r54 then
      if (r90.1.Nodes.length : Int) = (1 : Int) then
       if (r90.2.2.2.length : Int) = (0 : Int) then
        if (0 : Int) ≤ r90.2.1 then
         if r90.2.2.1 ≤ r54 then
          some (.inr false)
         else
          if (r40.length : Int) < r90.2.2.1 then
           some (.inr false)
          else
           some (.inl (r90.1.Nodes, r90.2.2.2))
        else
         some (.inl (r90.1.Nodes, r90.2.2.2))
       else
        some (.inr false)
      else
       some (.inr false)
     else
      some (.inr false)
    else
     if (0 : Int) ≤ r90.2.1 then
      if r90.2.2.1 ≤ r54 then
       some (.inr false)
      else
       if (r40.length : Int) < r90.2.2.1 then
        some (.inr false)
       else
        some (.inl (r90.1.Nodes, r90.2.2.2))
     else
      some (.inl (r90.1.Nodes, r90.2.2.2))
   else
    some (.inr false)) : Option (Sum ((List api_Node) × (List api_Diag)) Bool)).bind fun o => match o with
   | .inl (x151, x154) => ((correctorlaw11_FlowEnds_l0 F a0 a1 a2 F x151 x154 0 0) : Option ((List api_Diag) × Int)).bind fun o => match o with
    | (x384, x388) => ((correctorlaw11_FlowEnds_l1 F a0 a1 a2 F x384 x388 0 0) : Option (Int × Int)).bind fun o => match o with
     | (x558, x559) => if x558 = x559 then
      some true
     else
      some false
   | .inr y => some y
 else
  some false
theorem correctorlaw11_FlowEnds_ok (F : Nat) {h : AH} {Z : Zn} {a0 : List Int} {a1 : Int} {a2 : Int} {v2 : Value} (hI : Inv Z h) (q1 : RS (α := Int) Z v2 a0) {r : Bool} (hm : correctorlaw11_FlowEnds F a0 a1 a2 = some r) :
  ∃ v h', callI Try.prog 7 [v2, V a1, V a2] h = some (v, h') ∧ St h [] Z (0, 0) Z h' [] ∧ v = .bool r := by
 refine fn_plain (Q := fun v => v = .bool r) Try.func7 rfl rfl hI ?_
 intro hs hS
 unfold correctorlaw11_FlowEnds at hm
 refine sr r7_0 ?_
 refine xe 1 [(0, v2), (1, V a1), (2, V a2)] ?_
 refine sq ?_
 refine sr r7_1 ?_
 obtain ⟨r19, hx20, hm⟩ := obind hm
 obtain ⟨v21, h22, hcl23, hSc24, rfl⟩ := correctorlaw11_known_ok F hS.inv  hx20
 have hS25 := St.call (A := []) (B := []) hS hSc24
 replace hS25 : St _ _ _ _ _ _ [] := hS25
 refine r_step rfl trivial (o_call hcl23 rfl rfl rfl) ?_
 rcases ifs hm with ⟨hp26, hm⟩ | ⟨hp26, hm⟩
 refine r_setb (t := 17) rfl hp26 ?_
 refine xe 1 [(18, .bool false), (0, v2), (1, V a1), (2, V a2)] ?_
 refine kF 18 rfl ?_
 refine sr r7_3 ?_
 refine xq 1 [(19, v2), (1, V a1), (2, V a2)] ?_
 obtain ⟨r27, hx28, hm⟩ := obind hm
 have hSr34 : St _ _ _ _ _ _ ([] ++ []) := hS25
 obtain ⟨v29, h30, Z35, A37, hcl31, hSc32, v39, rfl, rfl, q38⟩ := correctorlaw11_Flow_ok F hSr34.preL q1 hx28
 have hS33 := hSr34.call hSc32
 have hZ36 := hSc32.zle
 replace hS33 : St _ _ _ _ _ _ [] := hS33
 refine r_step rfl trivial (o_call hcl31 rfl rfl rfl) ?_
 refine xe 1 [(7, v39), (1, V a1), (2, V a2)] ?_
 refine sr r7_4 ?_
 refine xq 1 [(21, v39), (7, v39), (1, V a1), (2, V a2)] ?_
 obtain ⟨r40, hx41, hm⟩ := obind hm
 have hSr47 : St _ _ _ _ _ _ ([] ++ []) := hS33
 obtain ⟨v42, h43, Z48, A50, hcl44, hSc45, v52, c53, rfl, rfl, q51⟩ := correctorref6_Tokens_ok F hSr47.preL q38 hx41
 have hS46 := hSr47.call hSc45
 have hZ49 := hSc45.zle
 replace hS46 : St _ _ _ _ _ _ [.gs v52 c53 (csz api_Token)] := hS46
 refine r_step rfl trivial (o_call hcl44 rfl rfl rfl) ?_
 refine xe 1 [(8, v52), (7, v39), (1, V a1), (2, V a2)] ?_
 refine sr r7_5 ?_
 refine xq 2 [(24, v52), (23, V a1), (8, v52), (7, v39), (1, V a1), (2, V a2)] ?_
 refine r_step rfl trivial (o_len rfl (hS46.glen (i := 0) rfl q51) ⟨_, Try.underlying25⟩) ?_
 obtain ⟨r54, hx55, hm⟩ := obind hm
 obtain ⟨v56, h57, hcl58, hSc59, rfl⟩ := correctorlaw11_within_ok F hS46.inv  hx55
 have hS60 := St.call (A := []) (B := [.gs v52 c53 (csz api_Token)]) hS46 hSc59
 replace hS60 : St _ _ _ _ _ _ [.gs v52 c53 (csz api_Token)] := hS60
 refine r_step rfl trivial (o_call hcl58 rfl rfl rfl) ?_
 refine xe 1 [(1, V r54), (8, v52), (7, v39), (2, V a2)] ?_
 refine sr r7_6 ?_
 refine xq 3 [(30, v52), (29, v52), (28, v39), (1, V r54), (8, v52), (2, V a2)] ?_
 refine r_step rfl trivial (o_len rfl (hS60.glen (i := 0) rfl q51) ⟨_, Try.underlying25⟩) ?_
 obtain ⟨r61, hx62, hm⟩ := obind hm
 have hSr68 : St _ _ _ _ _ _ ([] ++ [.gs v52 c53 (csz api_Token)]) := hS60
 obtain ⟨v63, h64, Z69, A71, hcl65, hSc66, v73, c74, rfl, rfl, q72⟩ := arena_New_ok F hSr68.preL  hx62
 have hS67 := hSr68.call hSc66
 have hZ70 := hSc66.zle
 replace hS67 : St _ _ _ _ _ _ [.gs v73 c74 (csz api_Node), .gs v52 c53 (csz api_Token)] := hS67
 refine r_step rfl trivial (o_call hcl65 rfl rfl rfl) ?_
 refine xq 2 [(34, v52), (33, V r54), (32, .agg #[v73]), (29, v52), (28, v39), (1, V r54), (8, v52), (2, V a2)] ?_
 refine r_step rfl trivial (o_len rfl (hS67.glen (i := 1) rfl (q51.mono hZ70)) ⟨_, Try.underlying25⟩) ?_
 refine xq 1 [(36, V a2), (35, V (r40.length : Int)), (33, V r54), (32, .agg #[v73]), (29, v52), (28, v39), (1, V r54), (8, v52)] ?_
 obtain ⟨r75, hx76, hm⟩ := obind hm
 obtain ⟨v77, h78, hcl79, hSc80, rfl⟩ := correctorlaw11_within_ok F hS67.inv  hx76
 have hS81 := St.call (A := []) (B := [.gs v73 c74 (csz api_Node), .gs v52 c53 (csz api_Token)]) hS67 hSc80
 replace hS81 : St _ _ _ _ _ _ [.gs v73 c74 (csz api_Node), .gs v52 c53 (csz api_Token)] := hS81
 refine r_step rfl trivial (o_call hcl79 rfl rfl rfl) ?_
 obtain ⟨Z82, hZ83, q84, hS85⟩ := (hS81.front 1 rfl).freeze (q51.mono hZ70)
 replace hS85 : St _ _ _ _ _ _ [.gs v73 c74 (csz api_Node)] := hS85
 obtain ⟨Z86, hZ87, q88, hS89⟩ := (hS85.front 0 rfl).freeze (q72.mono hZ83)
 replace hS89 : St _ _ _ _ _ _ [] := hS89
 obtain ⟨r90, hx91, hm⟩ := obind hm
 have hSr97 : St _ _ _ _ _ _ ([] ++ []) := hS89
 obtain ⟨v92, h93, Z98, A100, hcl94, hSc95, v102, v104, c105, rfl, rfl, q101, q103⟩ := flow_Value_ok F hSr97.preL (q38.mono (hZ49.trans (hZ70.trans (hZ83.trans hZ87)))) (q84.mono hZ87) q88 hx91
 have hS96 := hSr97.call hSc95
 have hZ99 := hSc95.zle
 replace hS96 : St _ _ _ _ _ _ [.gs v104 c105 (csz api_Diag)] := hS96
 refine r_step rfl trivial (o_call hcl94 rfl rfl rfl) ?_
 refine xq 5 [(42, v104), (41, V r90.2.2.1), (40, V r90.2.1), (39, .agg #[v102]), (1, V r54), (8, v52)] ?_
 refine r_blk rfl trivial (o_alloc (cs := [.slice none 0 0]) (by kernel_rfl)) hS96 ?_
 intro b106 h107 hS108
 refine r_ex1 rfl trivial (o_stb (vs := [v102]) (cells' := [v102]) (L' := [.blk b106 [v102], .gs v104 c105 (csz api_Diag)]) hS108 (i := 0) rfl rfl rfl rfl (by kernel_rfl) (one_cons (RS.one1 q101) one_nil) rfl rfl rfl) ?_
 intro h109 hS110
 refine xe 3 [(12, v104), (11, V r90.2.2.1), (10, V r90.2.1), (9, Pt b106 0), (1, V r54), (8, v52)] ?_
 refine sq ?_
 obtain ⟨o130, ho129, hm⟩ := obind hm
 refine W_join [9, 12] (fun l h => ∃ Z149 : Zn, ∃ x151 : List api_Node, ∃ x154 : List api_Diag, ∃ b150 : Nat, ∃ v153 : Value, ∃ v156 : Value, ∃ c157 : List Value, .inl (x151, x154) = o130 ∧ RS (α := api_Node) Z149 v153 x151 ∧ RCs (α := api_Diag) Z149 c157 x154 ∧ l = [(9, Pt b150 0), (12, v156)] ∧ St hs [] Z (0, 0) Z149 h [.blk b150 [v153], .gs v156 c157 (csz api_Diag)]) ?_ ?_
 rintro l h158 ⟨Z149, x151, x154, b150, v153, v156, c157, rfl, q152, q155, rfl, hS159⟩
 try dsimp only at hm
 refine sr r7_9 ?_
 refine xe 2 [(14, V 0), (13, V 0), (9, Pt b150 0), (12, v156)] ?_
 refine sq ?_
 refine sr r7_10 ?_
 refine xe 1 [(15, V 0), (14, V 0), (13, V 0), (9, Pt b150 0), (12, v156)] ?_
 obtain ⟨o317, ho316, hm⟩ := obind hm
 refine W_join [12, 13, 14] (fun l h => ∃ Z383 : Zn, ∃ x384 : List api_Diag, ∃ x388 : Int, ∃ v386 : Value, ∃ c387 : List Value, (x384, x388) = o317 ∧ RCs (α := api_Diag) Z383 c387 x384 ∧ l = [(12, v386), (13, V x388), (14, V 0)] ∧ St hs [] Z (0, 0) Z383 h [.gs v386 c387 (csz api_Diag)]) ?_ ?_
 rintro l h389 ⟨Z383, x384, x388, v386, c387, rfl, q385, rfl, hS390⟩
 try dsimp only at hm
 refine sq ?_
 refine sr r7_15 ?_
 refine xe 1 [(16, V 0), (12, v386), (13, V x388), (14, V 0)] ?_
 obtain ⟨o509, ho508, hm⟩ := obind hm
 refine W_join [13, 14] (fun l h => ∃ Z557 : Zn, ∃ x558 : Int, ∃ x559 : Int, (x558, x559) = o509 ∧ l = [(13, V x558), (14, V x559)] ∧ St hs [] Z (0, 0) Z557 h []) ?_ ?_
 rintro l h560 ⟨Z557, x558, x559, rfl, rfl, hS561⟩
 try dsimp only at hm
 refine sr r7_20 ?_
 refine xq 2 [(114, V x559), (113, V x558)] ?_
 rcases ifs hm with ⟨hp562, hm⟩ | ⟨hp562, hm⟩
 refine r_step rfl trivial (o_cmp rfl rfl (c_eql_T hp562)) ?_
 refine xe 1 [(6, .bool true)] ?_
 refine rt ?_
 refine ⟨rfl, ?_⟩
 obtain rfl := si hm
 refine ⟨_, _, _, ResL.tmp rfl (ResL.nil), hS561, ?_⟩
 exact rfl
 refine r_step rfl trivial (o_cmp rfl rfl (c_eql_F hp562)) ?_
 refine xe 1 [(6, .bool false)] ?_
 refine rt ?_
 refine ⟨rfl, ?_⟩
 obtain rfl := si hm
 refine ⟨_, _, _, ResL.tmp rfl (ResL.nil), hS561, ?_⟩
 exact rfl
 refine bk 2 ?_
 refine lp [12, 13, 14, 16] (fun n l h => ∃ Z510 : Zn, ∃ x511 : List api_Diag, ∃ x515 : Int, ∃ x516 : Int, ∃ x517 : Int, ∃ v513 : Value, ∃ c514 : List Value, correctorlaw11_FlowEnds_l1 F a0 a1 a2 n x511 x515 x516 x517 = some o509 ∧ RCs (α := api_Diag) Z510 c514 x511 ∧ l = [(12, v513), (13, V x515), (14, V x516), (16, V x517)] ∧ St hs [] Z (0, 0) Z510 h [.gs v513 c514 (csz api_Diag)]) F ⟨_, x384, x388, 0, 0, v386, c387, ho508, q385, rfl, hS390⟩ ?_
 rintro n520 l h518 ⟨Z510, x511, x515, x516, x517, v513, c514, ho508, q512, rfl, hS519⟩
 rcases n520 with _ | n520
 cases (show none = some o509 from ho508)
 rw [correctorlaw11_FlowEnds_l1] at ho508
 refine sq ?_
 refine sr r7_16 ?_
 refine xq 2 [(100, v513), (99, V x517), (12, v513), (13, V x515), (14, V x516), (16, V x517)] ?_
 refine r_step rfl trivial (o_len rfl (hS519.glen (i := 0) rfl q512) ⟨_, Try.underlying30⟩) ?_
 rcases ifs ho508 with ⟨hp523, ho508⟩ | ⟨hp523, ho508⟩
 refine r_step rfl trivial (o_cmp rfl rfl (c_lss_T hp523)) ?_
 refine xf [(102, .bool true), (12, v513), (13, V x515), (14, V x516), (16, V x517)] ?_
 refine kT 102 rfl ?_
 refine sq ?_
 refine bk 3 ?_
 obtain ⟨o533, ho532, ho508⟩ := obind ho508
 refine W_seqJoin0 [12, 13, 14, 16] (fun l h => ∃ Z542 : Zn, ∃ x543 : List api_Diag, ∃ x547 : Int, ∃ v545 : Value, ∃ c546 : List Value, (x543, x547) = o533 ∧ RCs (α := api_Diag) Z542 c546 x543 ∧ l = [(12, v545), (13, V x515), (14, V x547), (16, V x517)] ∧ St hs [] Z (0, 0) Z542 h [.gs v545 c546 (csz api_Diag)]) (by kernel_rfl) ?_ ?_
 rintro l h548 ⟨Z542, x543, x547, v545, c546, rfl, q544, rfl, hS549⟩
 try dsimp only at ho508
 refine rg r7_17 ?_
 refine xe 3 [(16, V (w64 (x517 + 1))), (12, v545), (13, V x515), (14, V x547)] ?_
 exact ⟨n520, Nat.lt_succ_self _, ⟨_, x543, x515, x547, w64 (x517 + 1), v545, c546, ho508, q544, rfl, hS549⟩⟩
 refine rg r7_18 ?_
 refine xq 2 [(106, V x517), (105, v513), (12, v513), (13, V x515), (14, V x516), (16, V x517)] ?_
 obtain ⟨hc534, ho532⟩ := chk ho532
 refine r_step rfl trivial (o_index rfl rfl (by kernel_rfl : slTy _ _ = some (csz api_Diag)) (hS519.gbased (j := 0) rfl q512 (by omega)) hc534.1 hc534.2) ?_
 refine xq 1 [(108, .pointer (some (elemA v513 x517 (csz api_Diag) 0))), (12, v513), (13, V x515), (14, V x516), (16, V x517)] ?_
 obtain ⟨x535, hx536, ho532⟩ := obind ho532
 obtain ⟨cs537, hc538, he539, ht540⟩ := hS519.gel (j := 0) rfl q512 (i := x517) hx536
 obtain rfl := rc_api_Diag hc538
 refine r_step rfl trivial (o_lde (w := V x535.Code) he539 rfl (by kernel_rfl)) ?_
 rcases ifs ho532 with ⟨hp541, ho532⟩ | ⟨hp541, ho532⟩
 refine r_step rfl trivial (o_cmp rfl rfl (c_neq_F hp541)) ?_
 refine xf [(110, .bool false), (12, v513), (13, V x515), (14, V x516), (16, V x517)] ?_
 refine kF 110 rfl ?_
 obtain rfl := si ho532
 exact ⟨_, x511, x516, v513, c514, rfl, q512, rfl, hS519⟩
 refine r_step rfl trivial (o_cmp rfl rfl (c_neq_T hp541)) ?_
 refine xf [(110, .bool true), (12, v513), (13, V x515), (14, V x516), (16, V x517)] ?_
 refine cT 110 rfl ?_
 refine rg r7_19 ?_
 refine xe 3 [(14, V (w64 (x516 + 1))), (12, v513), (13, V x515), (16, V x517)] ?_
 obtain rfl := si ho532
 exact ⟨_, x511, w64 (x516 + 1), v513, c514, rfl, q512, rfl, hS519⟩
 refine r_step rfl trivial (o_cmp rfl rfl (c_lss_F hp523)) ?_
 refine xf [(102, .bool false), (12, v513), (13, V x515), (14, V x516), (16, V x517)] ?_
 refine cF 102 rfl ?_
 refine xt 2 ?_
 refine blkX_hit ?_
 obtain rfl := si ho508
 exact ⟨_, x515, x516, rfl, rfl, (hS519.takeN 0)⟩
 refine bk 0 ?_
 refine lp [9, 12, 13, 14, 15] (fun n l h => ∃ Z318 : Zn, ∃ x320 : List api_Node, ∃ x323 : List api_Diag, ∃ x327 : Int, ∃ x328 : Int, ∃ b319 : Nat, ∃ v322 : Value, ∃ v325 : Value, ∃ c326 : List Value, correctorlaw11_FlowEnds_l0 F a0 a1 a2 n x320 x323 x327 x328 = some o317 ∧ RS (α := api_Node) Z318 v322 x320 ∧ RCs (α := api_Diag) Z318 c326 x323 ∧ l = [(9, Pt b319 0), (12, v325), (13, V x327), (14, V 0), (15, V x328)] ∧ St hs [] Z (0, 0) Z318 h [.blk b319 [v322], .gs v325 c326 (csz api_Diag)]) F ⟨_, x151, x154, 0, 0, b150, v153, v156, c157, ho316, q152, q155, rfl, hS159⟩ ?_
 rintro n331 l h329 ⟨Z318, x320, x323, x327, x328, b319, v322, v325, c326, ho316, q321, q324, rfl, hS330⟩
 rcases n331 with _ | n331
 cases (show none = some o317 from ho316)
 rw [correctorlaw11_FlowEnds_l0] at ho316
 refine sq ?_
 refine sr r7_11 ?_
 refine xq 2 [(84, Pt b319 0), (83, V x328), (9, Pt b319 0), (12, v325), (13, V x327), (14, V 0), (15, V x328)] ?_
 refine r_step rfl trivial (o_ldb (v := v322) hS330 (i := 0) rfl rfl (by kernel_rfl)) ?_
 refine r_step rfl trivial (o_len rfl (RS.len q321) ⟨_, Try.underlying27⟩) ?_
 rcases ifs ho316 with ⟨hp334, ho316⟩ | ⟨hp334, ho316⟩
 refine r_step rfl trivial (o_cmp rfl rfl (c_lss_T hp334)) ?_
 refine xf [(87, .bool true), (9, Pt b319 0), (12, v325), (13, V x327), (14, V 0), (15, V x328)] ?_
 refine kT 87 rfl ?_
 refine sq ?_
 refine bk 1 ?_
 obtain ⟨o346, ho345, ho316⟩ := obind ho316
 refine W_seqJoin0 [9, 12, 13, 14, 15] (fun l h => ∃ Z357 : Zn, ∃ x359 : List api_Node, ∃ x362 : List api_Diag, ∃ x366 : Int, ∃ b358 : Nat, ∃ v361 : Value, ∃ v364 : Value, ∃ c365 : List Value, (x359, x362, x366) = o346 ∧ RS (α := api_Node) Z357 v361 x359 ∧ RCs (α := api_Diag) Z357 c365 x362 ∧ l = [(9, Pt b358 0), (12, v364), (13, V x366), (14, V 0), (15, V x328)] ∧ St hs [] Z (0, 0) Z357 h [.blk b358 [v361], .gs v364 c365 (csz api_Diag)]) (by kernel_rfl) ?_ ?_
 rintro l h367 ⟨Z357, x359, x362, x366, b358, v361, v364, c365, rfl, q360, q363, rfl, hS368⟩
 try dsimp only at ho316
 refine rg r7_12 ?_
 refine xe 3 [(15, V (w64 (x328 + 1))), (9, Pt b358 0), (12, v364), (13, V x366), (14, V 0)] ?_
 exact ⟨n331, Nat.lt_succ_self _, ⟨_, x359, x362, x366, w64 (x328 + 1), b358, v361, v364, c365, ho316, q360, q363, rfl, hS368⟩⟩
 refine rg r7_13 ?_
 refine xq 1 [(90, Pt b319 0), (9, Pt b319 0), (12, v325), (13, V x327), (14, V 0), (15, V x328)] ?_
 refine r_step rfl trivial (o_ldb (v := v322) hS330 (i := 0) rfl rfl (by kernel_rfl)) ?_
 refine xq 1 [(92, V x328), (91, v322), (9, Pt b319 0), (12, v325), (13, V x327), (14, V 0), (15, V x328)] ?_
 obtain ⟨hc347, ho345⟩ := chk ho345
 refine r_step rfl trivial (o_index rfl rfl (by kernel_rfl : slTy _ _ = some (csz api_Node)) (RS.based q321 (by omega)) hc347.1 hc347.2) ?_
 refine xq 1 [(94, .pointer (some (elemA v322 x328 (csz api_Node) 0))), (9, Pt b319 0), (12, v325), (13, V x327), (14, V 0), (15, V x328)] ?_
 obtain ⟨x348, hx349, ho345⟩ := obind ho345
 obtain ⟨cs350, hc351, he352⟩ := RS.elz q321 (i := x328) hx349
 obtain ⟨v354, q355, rfl⟩ := rc_api_Node hc351
 refine r_step rfl trivial (o_lde (w := V x348.Kind) (he352 _ (hS330.zin0 (Zle.refl _))) rfl (by kernel_rfl)) ?_
 rcases ifs ho345 with ⟨hp356, ho345⟩ | ⟨hp356, ho345⟩
 refine r_step rfl trivial (o_cmp rfl rfl (c_eql_T hp356)) ?_
 refine xf [(96, .bool true), (9, Pt b319 0), (12, v325), (13, V x327), (14, V 0), (15, V x328)] ?_
 refine cT 96 rfl ?_
 refine rg r7_14 ?_
 refine xe 3 [(13, V (w64 (x327 + 1))), (9, Pt b319 0), (12, v325), (14, V 0), (15, V x328)] ?_
 obtain rfl := si ho345
 exact ⟨_, x320, x323, w64 (x327 + 1), b319, v322, v325, c326, rfl, q321, q324, rfl, hS330⟩
 refine r_step rfl trivial (o_cmp rfl rfl (c_eql_F hp356)) ?_
 refine xf [(96, .bool false), (9, Pt b319 0), (12, v325), (13, V x327), (14, V 0), (15, V x328)] ?_
 refine kF 96 rfl ?_
 obtain rfl := si ho345
 exact ⟨_, x320, x323, x327, b319, v322, v325, c326, rfl, q321, q324, rfl, hS330⟩
 refine r_step rfl trivial (o_cmp rfl rfl (c_lss_F hp334)) ?_
 refine xf [(87, .bool false), (9, Pt b319 0), (12, v325), (13, V x327), (14, V 0), (15, V x328)] ?_
 refine cF 87 rfl ?_
 refine xt 0 ?_
 refine blkX_hit ?_
 obtain rfl := si ho316
 exact ⟨_, x323, x327, v325, c326, rfl, q324, rfl, ((hS330.front 1 rfl).takeN 1)⟩
 refine sr r7_7 ?_
 refine r_step rfl trivial (o_ldb (v := .agg #[v102]) hS110 (i := 0) rfl rfl (by kernel_rfl)) ?_
 refine xq 1 [(44, v52), (43, .agg #[v102]), (12, v104), (11, V r90.2.2.1), (10, V r90.2.1), (9, Pt b106 0), (1, V r54), (8, v52)] ?_
 refine r_step rfl trivial (o_len rfl (RS.len (q84.mono (hZ87.trans hZ99))) ⟨_, Try.underlying25⟩) ?_
 obtain ⟨r131, hx132, ho129⟩ := obind ho129
 obtain ⟨v133, h134, hcl135, hSc136, rfl⟩ := arena_Check_ok F hS110.inv q101 hx132
 have hS137 := St.call (A := []) (B := [.blk b106 [v102], .gs v104 c105 (csz api_Diag)]) hS110 hSc136
 replace hS137 : St _ _ _ _ _ _ [.blk b106 [v102], .gs v104 c105 (csz api_Diag)] := hS137
 refine r_step rfl trivial (o_call hcl135 rfl rfl rfl) ?_
 rcases ifs ho129 with ⟨hp138, ho129⟩ | ⟨hp138, ho129⟩
 refine r_setb (t := 46) rfl hp138 ?_
 refine xq 3 [(49, V r90.2.1), (48, .bool false), (12, v104), (11, V r90.2.2.1), (10, V r90.2.1), (9, Pt b106 0), (1, V r54), (8, v52)] ?_
 rcases ifs ho129 with ⟨hp139, ho129⟩ | ⟨hp139, ho129⟩
 refine r_step rfl rfl (o_cmp rfl rfl (c_lss_T hp139)) ?_
 refine xq 3 [(53, V r54), (52, V r90.2.2.1), (51, .bool true), (48, .bool false), (12, v104), (11, V r90.2.2.1), (10, V r90.2.1), (9, Pt b106 0), (1, V r54), (8, v52)] ?_
 rcases ifs ho129 with ⟨hp140, ho129⟩ | ⟨hp140, ho129⟩
 refine r_step rfl rfl (o_cmp rfl rfl (c_neq_F hp140)) ?_
 refine xq 2 [(56, Pt b106 0), (55, .bool false), (51, .bool true), (48, .bool false), (12, v104), (11, V r90.2.2.1), (10, V r90.2.1), (9, Pt b106 0), (1, V r54), (8, v52)] ?_
 refine r_step rfl rfl (o_ldb (v := v102) hS137 (i := 0) rfl rfl (by kernel_rfl)) ?_
 refine r_step rfl rfl (o_len rfl (RS.len q101) ⟨_, Try.underlying27⟩) ?_
 rcases ifs ho129 with ⟨hp141, ho129⟩ | ⟨hp141, ho129⟩
 refine r_step rfl rfl (o_cmp rfl rfl (c_neq_F hp141)) ?_
 refine xq 3 [(62, v104), (61, .bool false), (51, .bool true), (48, .bool false), (12, v104), (11, V r90.2.2.1), (10, V r90.2.1), (9, Pt b106 0), (1, V r54), (8, v52)] ?_
 refine r_step rfl rfl (o_len rfl (hS137.glen (i := 1) rfl q103) ⟨_, Try.underlying30⟩) ?_
 rcases ifs ho129 with ⟨hp142, ho129⟩ | ⟨hp142, ho129⟩
 refine r_step rfl rfl (o_cmp rfl rfl (c_neq_F hp142)) ?_
 refine xq 5 [(69, V r90.2.1), (68, .bool false), (12, v104), (11, V r90.2.2.1), (9, Pt b106 0), (1, V r54), (8, v52)] ?_
 rcases ifs ho129 with ⟨hp143, ho129⟩ | ⟨hp143, ho129⟩
 refine r_step rfl rfl (o_cmp rfl rfl (c_geq_T hp143)) ?_
 refine xq 3 [(73, V r54), (72, V r90.2.2.1), (71, .bool true), (68, .bool false), (12, v104), (11, V r90.2.2.1), (9, Pt b106 0), (8, v52)] ?_
 rcases ifs ho129 with ⟨hp144, ho129⟩ | ⟨hp144, ho129⟩
 refine r_step rfl rfl (o_cmp rfl rfl (c_leq_T hp144)) ?_
 refine xe 8 [(82, .bool true), (12, v104), (9, Pt b106 0)] ?_
 refine cT 82 rfl ?_
 refine sr r7_8 ?_
 refine xe 1 [(6, .bool false)] ?_
 refine rt ?_
 refine ⟨rfl, ?_⟩
 obtain rfl := si ho129
 obtain rfl := si hm
 refine ⟨_, _, _, ResL.tmp rfl (ResL.nil), hS137, ?_⟩
 exact rfl
 refine r_step rfl rfl (o_cmp rfl rfl (c_leq_F hp144)) ?_
 refine xq 3 [(77, v52), (76, V r90.2.2.1), (75, .bool false), (71, .bool true), (68, .bool false), (12, v104), (9, Pt b106 0)] ?_
 refine r_step rfl rfl (o_len rfl (RS.len (q84.mono (hZ87.trans hZ99))) ⟨_, Try.underlying25⟩) ?_
 rcases ifs ho129 with ⟨hp145, ho129⟩ | ⟨hp145, ho129⟩
 refine r_step rfl rfl (o_cmp rfl rfl (c_gtr_T hp145)) ?_
 refine xe 3 [(82, .bool true), (12, v104), (9, Pt b106 0)] ?_
 refine cT 82 rfl ?_
 refine sr r7_8 ?_
 refine xe 1 [(6, .bool false)] ?_
 refine rt ?_
 refine ⟨rfl, ?_⟩
 obtain rfl := si ho129
 obtain rfl := si hm
 refine ⟨_, _, _, ResL.tmp rfl (ResL.nil), hS137, ?_⟩
 exact rfl
 refine r_step rfl rfl (o_cmp rfl rfl (c_gtr_F hp145)) ?_
 refine xe 3 [(82, .bool false), (12, v104), (9, Pt b106 0)] ?_
 refine kF 82 rfl ?_
 obtain rfl := si ho129
 exact ⟨_, r90.1.Nodes, r90.2.2.2, b106, v102, v104, c105, rfl, q101, q103, rfl, hS137⟩
 refine r_step rfl rfl (o_cmp rfl rfl (c_geq_F hp143)) ?_
 refine xe 12 [(82, .bool false), (12, v104), (9, Pt b106 0)] ?_
 refine kF 82 rfl ?_
 obtain rfl := si ho129
 exact ⟨_, r90.1.Nodes, r90.2.2.2, b106, v102, v104, c105, rfl, q101, q103, rfl, hS137⟩
 refine r_step rfl rfl (o_cmp rfl rfl (c_neq_T hp142)) ?_
 refine xe 18 [(82, .bool true), (12, v104), (9, Pt b106 0)] ?_
 refine cT 82 rfl ?_
 refine sr r7_8 ?_
 refine xe 1 [(6, .bool false)] ?_
 refine rt ?_
 refine ⟨rfl, ?_⟩
 obtain rfl := si ho129
 obtain rfl := si hm
 refine ⟨_, _, _, ResL.tmp rfl (ResL.nil), hS137, ?_⟩
 exact rfl
 refine r_step rfl rfl (o_cmp rfl rfl (c_neq_T hp141)) ?_
 refine xe 23 [(82, .bool true), (12, v104), (9, Pt b106 0)] ?_
 refine cT 82 rfl ?_
 refine sr r7_8 ?_
 refine xe 1 [(6, .bool false)] ?_
 refine rt ?_
 refine ⟨rfl, ?_⟩
 obtain rfl := si ho129
 obtain rfl := si hm
 refine ⟨_, _, _, ResL.tmp rfl (ResL.nil), hS137, ?_⟩
 exact rfl
 refine r_step rfl rfl (o_cmp rfl rfl (c_neq_T hp140)) ?_
 refine xe 28 [(82, .bool true), (12, v104), (9, Pt b106 0)] ?_
 refine cT 82 rfl ?_
 refine sr r7_8 ?_
 refine xe 1 [(6, .bool false)] ?_
 refine rt ?_
 refine ⟨rfl, ?_⟩
 obtain rfl := si ho129
 obtain rfl := si hm
 refine ⟨_, _, _, ResL.tmp rfl (ResL.nil), hS137, ?_⟩
 exact rfl
 refine r_step rfl rfl (o_cmp rfl rfl (c_lss_F hp139)) ?_
 refine xq 19 [(69, V r90.2.1), (68, .bool false), (12, v104), (11, V r90.2.2.1), (9, Pt b106 0), (1, V r54), (8, v52)] ?_
 rcases ifs ho129 with ⟨hp146, ho129⟩ | ⟨hp146, ho129⟩
 refine r_step rfl rfl (o_cmp rfl rfl (c_geq_T hp146)) ?_
 refine xq 3 [(73, V r54), (72, V r90.2.2.1), (71, .bool true), (68, .bool false), (12, v104), (11, V r90.2.2.1), (9, Pt b106 0), (8, v52)] ?_
 rcases ifs ho129 with ⟨hp147, ho129⟩ | ⟨hp147, ho129⟩
 refine r_step rfl rfl (o_cmp rfl rfl (c_leq_T hp147)) ?_
 refine xe 8 [(82, .bool true), (12, v104), (9, Pt b106 0)] ?_
 refine cT 82 rfl ?_
 refine sr r7_8 ?_
 refine xe 1 [(6, .bool false)] ?_
 refine rt ?_
 refine ⟨rfl, ?_⟩
 obtain rfl := si ho129
 obtain rfl := si hm
 refine ⟨_, _, _, ResL.tmp rfl (ResL.nil), hS137, ?_⟩
 exact rfl
 refine r_step rfl rfl (o_cmp rfl rfl (c_leq_F hp147)) ?_
 refine xq 3 [(77, v52), (76, V r90.2.2.1), (75, .bool false), (71, .bool true), (68, .bool false), (12, v104), (9, Pt b106 0)] ?_
 refine r_step rfl rfl (o_len rfl (RS.len (q84.mono (hZ87.trans hZ99))) ⟨_, Try.underlying25⟩) ?_
 rcases ifs ho129 with ⟨hp148, ho129⟩ | ⟨hp148, ho129⟩
 refine r_step rfl rfl (o_cmp rfl rfl (c_gtr_T hp148)) ?_
 refine xe 3 [(82, .bool true), (12, v104), (9, Pt b106 0)] ?_
 refine cT 82 rfl ?_
 refine sr r7_8 ?_
 refine xe 1 [(6, .bool false)] ?_
 refine rt ?_
 refine ⟨rfl, ?_⟩
 obtain rfl := si ho129
 obtain rfl := si hm
 refine ⟨_, _, _, ResL.tmp rfl (ResL.nil), hS137, ?_⟩
 exact rfl
 refine r_step rfl rfl (o_cmp rfl rfl (c_gtr_F hp148)) ?_
 refine xe 3 [(82, .bool false), (12, v104), (9, Pt b106 0)] ?_
 refine kF 82 rfl ?_
 obtain rfl := si ho129
 exact ⟨_, r90.1.Nodes, r90.2.2.2, b106, v102, v104, c105, rfl, q101, q103, rfl, hS137⟩
 refine r_step rfl rfl (o_cmp rfl rfl (c_geq_F hp146)) ?_
 refine xe 12 [(82, .bool false), (12, v104), (9, Pt b106 0)] ?_
 refine kF 82 rfl ?_
 obtain rfl := si ho129
 exact ⟨_, r90.1.Nodes, r90.2.2.2, b106, v102, v104, c105, rfl, q101, q103, rfl, hS137⟩
 refine r_setb (t := 46) rfl (Bool.eq_false_iff.2 hp138) ?_
 refine xe 36 [(82, .bool true), (12, v104), (9, Pt b106 0)] ?_
 refine cT 82 rfl ?_
 refine sr r7_8 ?_
 refine xe 1 [(6, .bool false)] ?_
 refine rt ?_
 refine ⟨rfl, ?_⟩
 obtain rfl := si ho129
 obtain rfl := si hm
 refine ⟨_, _, _, ResL.tmp rfl (ResL.nil), hS137, ?_⟩
 exact rfl
 refine r_setb (t := 17) rfl (Bool.eq_false_iff.2 hp26) ?_
 refine xe 1 [(18, .bool true), (0, v2), (1, V a1), (2, V a2)] ?_
 refine cT 18 rfl ?_
 refine sr r7_2 ?_
 refine xe 1 [(6, .bool false)] ?_
 refine rt ?_
 refine ⟨rfl, ?_⟩
 obtain rfl := si hm
 refine ⟨_, _, _, ResL.tmp rfl (ResL.nil), hS25, ?_⟩
 exact rfl

end Go.Proofs.Ytahcngeimlkcgaa.M
