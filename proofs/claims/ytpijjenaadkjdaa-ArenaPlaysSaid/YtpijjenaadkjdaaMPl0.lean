/- Printed by a program of this session: Go functions as Lean functions over plain data, and that the calls come to them. -/
import Derived.Test.YtpijjenaadkjdaaSyK
import Derived.Test.YtpijjenaadkjdaaChecked
import Derived.KernelRfl
import Derived.Test.YtpijjenaadkjdaaMA0
namespace Go.Proofs.Ytpijjenaadkjdaa.M
open Go Am Sy
open Sy.Cell (rc)
set_option linter.unusedVariables false
set_option linter.unusedSimpArgs false
set_option maxRecDepth 20000

structure correctorlaw10_Act where
  Kind : Int
  A : Int
  B : Int
  C : Int
  D : Int
  deriving DecidableEq, Inhabited
instance : Cell correctorlaw10_Act where
  size := 5
  rc Z cs x := cs = [V x.Kind, V x.A, V x.B, V x.C, V x.D]
  len h := by rw [h]; rfl
  mono _ h := h
  one h := by rw [h]; rfl
  pos := by decide
theorem rc_correctorlaw10_Act {Z : Zn} {cs : List Value} {x : correctorlaw10_Act} (h : rc Z cs x) : cs = [V x.Kind, V x.A, V x.B, V x.C, V x.D] := h
abbrev K32 (x : correctorlaw10_Act) : List Value := [V x.Kind, V x.A, V x.B, V x.C, V x.D]
structure correctorref10_Tree where
  Nodes : List api_Node
  deriving DecidableEq, Inhabited
instance : Cell correctorref10_Tree where
  size := 1
  rc Z cs x := ∃ v0, RS (α := api_Node) Z v0 x.Nodes ∧ cs = [v0]
  len h := by obtain ⟨v0, qv0, h⟩ := h; rw [h]; rfl
  mono hz h := by obtain ⟨v0, qv0, h⟩ := h; exact ⟨v0, qv0.mono hz, h⟩
  one h := by obtain ⟨v0, qv0, h⟩ := h; subst h; exact (one_cons qv0.one1 one_nil)
  pos := by decide
instance : DCell correctorref10_Tree api_Node where
  row x := x.Nodes
  drc v cs x := cs = [v]
  rcd h hd := ⟨_, h, hd⟩
  dlen h := by rw [h]; rfl
  done hv h := by subst h; exact (one_cons hv one_nil)
  inj h k := by rw [h] at k; simpa using k
  fn h k := h.trans k.symm
theorem drc_correctorref10_Tree {v : Value} {cs : List Value} {x : correctorref10_Tree} (h : DCell.drc v cs x) : cs = [v] := h
theorem rc_correctorref10_Tree {Z : Zn} {cs : List Value} {x : correctorref10_Tree} (h : rc Z cs x) : ∃ v0, RS (α := api_Node) Z v0 x.Nodes ∧ cs = [v0] := h
abbrev K29 (v0 : Value) (x : correctorref10_Tree) : List Value := [v0]

def r11_0 : List COp := [u 2 (.alloc 29)]
def r11_1 : List COp := [u 3 (.move (t 0)), u 4 (.binOp .lss 3 (t 3) (ci 0) 3), u 5 (.move (t 4)), gN 5 (some 6) (.move (t 0)), gN 5 (some 7) (.binOp .gtr 3 (t 6) (ci 32768) 3), u 8 (.pick (t 5) (.const (.bool true)) (t 7))]
def r11_2 : List COp := [u 0 (.assign (ci 0))]
def r11_3 : List COp := [u 9 (.move (t 0)), u 10 (.build 46 #[(0, (ci 1)), (2, (t 9)), (3, (ci (-1)))]), u 11 (.buildSlice 25 1 #[(0, (t 10))]), u 12 (.build 29 #[(0, (t 11))]), o (.store 29 (t 2) (t 12))]
def correctorref10_New (F : Nat) (a0 : Int) : Option correctorref10_Tree :=
  ((if a0 < (0 : Int) then
      some 0
    else
      if (32768 : Int) < a0 then
        some 0
      else
        some a0) : Option Int).bind fun o => match o with
    | x2790 => some (⟨[(⟨1, 0, x2790, (-1), [], false⟩ : api_Node)]⟩ : correctorref10_Tree)
theorem correctorref10_New_ok (F : Nat) {h : AH} {Z : Zn} {a0 : Int} (hP : Pre Z h []) {r : correctorref10_Tree} (hm : correctorref10_New F a0 = some r) :
    ∃ v h' Z' A', callI Go.Proofs.Try.prog 11 [V a0] h = some (v, h') ∧ St h (idsL []) Z (0, 0) Z' h' A' ∧ ∃ v2778 : Value, ∃ c2779 : List Value, .agg #[v2778] = v ∧ A' = [.gs v2778 c2779 (csz api_Node)] ∧ RCs (α := api_Node) Z' c2779 r.Nodes := by
  refine fn_intro (A := []) (Q := fun v Z' A' => ∃ v2778 : Value, ∃ c2779 : List Value, .agg #[v2778] = v ∧ A' = [.gs v2778 c2779 (csz api_Node)] ∧ RCs (α := api_Node) Z' c2779 r.Nodes) Go.Proofs.Try.func11 rfl rfl (by kernel_rfl) hP ?_
  intro hs hS
  unfold correctorref10_New at hm
  replace hS : St hs [] Z (0, 0) Z hs [] := hS
  refine sr r11_0 ?_
  refine r_blk rfl trivial (o_alloc (cs := [.slice none 0 0]) (by kernel_rfl)) hS ?_
  intro b2780 h2781 hS2782
  refine xf [(2, Pt b2780 0), (0, V a0)] ?_
  refine sq ?_
  obtain ⟨o2786, ho2785, hm⟩ := obind hm
  refine W_seqJoin0 [0, 2] (fun l h => ∃ Z2789 : Zn, ∃ x2790 : Int, ∃ b2791 : Nat, x2790 = o2786 ∧ l = [(0, V x2790), (2, Pt b2791 0)] ∧ St hs [] Z (0, 0) Z2789 h [.blk b2791 [.slice none 0 0]]) (by kernel_rfl) ?_ ?_
  rintro l h2792 ⟨Z2789, x2790, b2791, rfl, rfl, hS2793⟩
  try dsimp only at hm
  refine sr r11_3 ?_
  refine xq 2 [(10, .agg #[V 1, V 0, V x2790, V (-1), .slice none 0 0, .bool false]), (2, Pt b2791 0)] ?_
  have q2797 : RCs (α := api_Node) Z2789 [V 1, V 0, V x2790, V (-1), .slice none 0 0, .bool false] [(⟨1, 0, x2790, (-1), [], false⟩ : api_Node)] := RCs.cons (cs := [V 1, V 0, V x2790, V (-1), .slice none 0 0, .bool false]) ⟨_, (RS.nil0 _), rfl⟩ (RCs.nil0 _)
  refine r_row rfl trivial (o_bs (cells := [V 1, V 0, V x2790, V (-1), .slice none 0 0, .bool false]) (s := 6) (by kernel_rfl)) (by kernel_rfl) hS2793 ?_
  intro v2794 h2795 hS2796
  replace hS2796 : St _ _ _ _ _ _ [.gs v2794 [V 1, V 0, V x2790, V (-1), .slice none 0 0, .bool false] (csz api_Node), .blk b2791 [.slice none 0 0]] := hS2796
  refine r_step rfl trivial (o_build (v := .agg #[v2794]) rfl (CA.cons (cs := [v2794]) (hS2796.gcell1 (i := 0) rfl) (CA.nil0)) (by kernel_rfl)) ?_
  refine r_ex1 rfl trivial (o_stb (vs := [v2794]) (cells' := [v2794]) (L' := [.gs v2794 [V 1, V 0, V x2790, V (-1), .slice none 0 0, .bool false] (csz api_Node), .blk b2791 [v2794]]) hS2796 (i := 1) rfl rfl rfl rfl (by kernel_rfl) (one_cons (hS2796.gone1 (i := 0) rfl) one_nil) rfl rfl rfl) ?_
  intro h2799 hS2800
  refine xf [(2, Pt b2791 0)] ?_
  refine rt ?_
  refine ⟨rfl, ?_⟩
  obtain rfl := Option.some.inj hm
  refine ⟨_, _, _, ResL.cell (v := .agg #[v2794]) rfl hS2800 (i := 1) rfl (by kernel_rfl) (ResL.nil), (hS2800.takeN 1), ?_⟩
  exact ⟨v2794, [V 1, V 0, V x2790, V (-1), .slice none 0 0, .bool false], rfl, rfl, q2797⟩
  refine rg r11_1 ?_
  refine xq 1 [(3, V a0), (2, Pt b2780 0), (0, V a0)] ?_
  rcases ifs ho2785 with ⟨hp2787, ho2785⟩ | ⟨hp2787, ho2785⟩
  refine r_step rfl trivial (o_cmp rfl rfl (c_lss_T hp2787)) ?_
  refine xe 4 [(8, .bool true), (2, Pt b2780 0), (0, V a0)] ?_
  refine cT 8 rfl ?_
  refine rg r11_2 ?_
  refine xe 1 [(0, V 0), (2, Pt b2780 0)] ?_
  obtain rfl := Option.some.inj ho2785
  exact ⟨_, 0, b2780, rfl, rfl, hS2782⟩
  refine r_step rfl trivial (o_cmp rfl rfl (c_lss_F hp2787)) ?_
  refine xq 2 [(6, V a0), (5, .bool false), (2, Pt b2780 0), (0, V a0)] ?_
  rcases ifs ho2785 with ⟨hp2788, ho2785⟩ | ⟨hp2788, ho2785⟩
  refine r_step rfl rfl (o_cmp rfl rfl (c_gtr_T hp2788)) ?_
  refine xe 1 [(8, .bool true), (2, Pt b2780 0), (0, V a0)] ?_
  refine cT 8 rfl ?_
  refine rg r11_2 ?_
  refine xe 1 [(0, V 0), (2, Pt b2780 0)] ?_
  obtain rfl := Option.some.inj ho2785
  exact ⟨_, 0, b2780, rfl, rfl, hS2782⟩
  refine r_step rfl rfl (o_cmp rfl rfl (c_gtr_F hp2788)) ?_
  refine xe 1 [(8, .bool false), (2, Pt b2780 0), (0, V a0)] ?_
  refine kF 8 rfl ?_
  obtain rfl := Option.some.inj ho2785
  exact ⟨_, a0, b2780, rfl, rfl, hS2782⟩

def r13_0 : List COp := [u 1 (.box 27 (t 0)), u 2 (.alloc 29)]
def r13_1 : List COp := [u 3 (.fieldAddr 27 (t 1) 0), u 4 (.load 25 (t 3)), u 5 (.build 29 #[(0, (t 4))]), o (.store 29 (t 2) (t 5))]
def correctorlaw10_ToRef (F : Nat) (a0 : arena_Tree) : Option correctorref10_Tree :=
  some (⟨a0.Nodes⟩ : correctorref10_Tree)
theorem correctorlaw10_ToRef_ok (F : Nat) {h : AH} {Z : Zn} {a0 : arena_Tree} {v2863 : Value} (hP : Pre Z h []) (q2862 : RS (α := api_Node) Z v2863 a0.Nodes) {r : correctorref10_Tree} (hm : correctorlaw10_ToRef F a0 = some r) :
    ∃ v h' Z' A', callI Go.Proofs.Try.prog 13 [.agg #[v2863]] h = some (v, h') ∧ St h (idsL []) Z (0, 0) Z' h' A' ∧ ∃ v2873 : Value, .agg #[v2873] = v ∧ A' = [] ∧ RS (α := api_Node) Z' v2873 r.Nodes := by
  refine fn_intro (A := []) (Q := fun v Z' A' => ∃ v2873 : Value, .agg #[v2873] = v ∧ A' = [] ∧ RS (α := api_Node) Z' v2873 r.Nodes) Go.Proofs.Try.func13 rfl rfl (by kernel_rfl) hP ?_
  intro hs hS
  unfold correctorlaw10_ToRef at hm
  replace hS : St hs [] Z (0, 0) Z hs [] := hS
  refine sr r13_0 ?_
  refine r_blk rfl trivial (o_box (cs := [v2863]) rfl rfl) hS ?_
  intro b2874 h2875 hS2876
  refine r_blk rfl trivial (o_alloc (cs := [.slice none 0 0]) (by kernel_rfl)) hS2876 ?_
  intro b2877 h2878 hS2879
  refine xf [(2, Pt b2877 0), (1, Pt b2874 0)] ?_
  refine sr r13_1 ?_
  refine xq 1 [(3, Pt b2874 0), (2, Pt b2877 0)] ?_
  refine r_step rfl trivial (o_ldb (v := v2863) hS2879 (i := 1) rfl rfl (by kernel_rfl)) ?_
  refine r_step rfl trivial (o_build (v := .agg #[v2863]) rfl (CA.cons (cs := [v2863]) (RS.cell1 q2862) (CA.nil0)) (by kernel_rfl)) ?_
  refine r_ex1 rfl trivial (o_stb (vs := [v2863]) (cells' := [v2863]) (L' := [.blk b2877 [v2863], .blk b2874 [v2863]]) hS2879 (i := 0) rfl rfl rfl rfl (by kernel_rfl) (one_cons (RS.one1 q2862) one_nil) rfl rfl rfl) ?_
  intro h2880 hS2881
  refine xf [(2, Pt b2877 0)] ?_
  refine rt ?_
  refine ⟨rfl, ?_⟩
  obtain rfl := Option.some.inj hm
  refine ⟨_, _, _, ResL.cell (v := .agg #[v2863]) rfl hS2881 (i := 0) rfl (by kernel_rfl) (ResL.nil), (hS2881.takeN 0), ?_⟩
  exact ⟨v2863, rfl, rfl, q2862⟩

def r23_0 : List COp := [u 1 (.box 29 (t 0)), u 2 (.assign (.const (.slice none 0 0)))]
def r23_1 : List COp := [u 3 (.assign (.const (.slice none 0 0)))]
def r23_2 : List COp := [u 4 (.assign (ci 0))]
def r23_3 : List COp := [u 6 (.move (t 4)), u 7 (.fieldAddr 29 (t 1) 0), u 8 (.load 25 (t 7)), u 9 (cb .len #[(t 8)] #[25]), u 10 (.binOp .lss 3 (t 6) (t 9) 3)]
def r23_4 : List COp := [u 11 (.move (t 4)), u 12 (.binOp .add 3 (t 11) (ci 1) 3), u 4 (.assign (t 12))]
def r23_5 : List COp := [u 13 (.fieldAddr 29 (t 1) 0), u 14 (.load 25 (t 13)), u 15 (.move (t 4)), u 16 (.indexAddr 25 (t 14) (t 15)), u 17 (.load 46 (t 16)), u 5 (.alloc 46), o (.store 46 (t 5) (t 17))]
def r23_6 : List COp := [u 18 (.buildSlice 44 0 #[]), u 19 (.fieldAddr 46 (t 5) 4), u 20 (.load 44 (t 19)), u 21 (cb .append #[(t 18), (t 20)] #[44, 44]), u 22 (.fieldAddr 46 (t 5) 4), o (.store 44 (t 22) (t 21))]
def r23_7 : List COp := [u 23 (.move (t 3)), u 24 (.load 46 (t 5)), u 25 (.buildSlice 25 1 #[(0, (t 24))]), u 26 (cb .append #[(t 23), (t 25)] #[25, 25]), u 3 (.assign (t 26))]
def r23_8 : List COp := [u 27 (.move (t 3)), u 2 (.assign (t 27))]
def correctorref10_copied_l0 (F : Nat) (a0 : correctorref10_Tree) : Nat → (List api_Node) → Int → Option (List api_Node)
  | 0, _, _ => none
  | n + 1, x3235, x3240 =>
    if x3240 < (a0.Nodes.length : Int) then
      if 0 ≤ x3240 ∧ x3240 < (a0.Nodes.length : Int) then
        (a0.Nodes[x3240.toNat]?).bind fun x3248 =>
        if ([] : List Int).length + x3248.Kids.length ≤ 17592186044416 then
          if x3235.length + [(⟨x3248.Kind, x3248.From, x3248.To, x3248.Up, ([] : List Int) ++ x3248.Kids, x3248.Key⟩ : api_Node)].length ≤ 2199023255552 then
            correctorref10_copied_l0 F a0 n (x3235 ++ [(⟨x3248.Kind, x3248.From, x3248.To, x3248.Up, ([] : List Int) ++ x3248.Kids, x3248.Key⟩ : api_Node)]) (w64 (x3240 + 1))
          else none
        else none
      else none
    else
      some x3235
def correctorref10_copied (F : Nat) (a0 : correctorref10_Tree) : Option (List api_Node) :=
  ((correctorref10_copied_l0 F a0 F [] 0) : Option (List api_Node)).bind fun o => match o with
    | x3301 => some x3301
theorem correctorref10_copied_ok (F : Nat) {h : AH} {Z : Zn} {a0 : correctorref10_Tree} {v2971 : Value} (hP : Pre Z h []) (q2970 : RS (α := api_Node) Z v2971 a0.Nodes) {r : (List api_Node)} (hm : correctorref10_copied F a0 = some r) :
    ∃ v h' Z' A', callI Go.Proofs.Try.prog 23 [.agg #[v2971]] h = some (v, h') ∧ St h (idsL []) Z (0, 0) Z' h' A' ∧ ∃ v3103 : Value, ∃ c3104 : List Value, ∃ ks3105 : List Bk, v3103 = v ∧ A' = [.gs v3103 c3104 (csz api_Node), .grp ks3105] ∧ RD (α := api_Node) Z' c3104 r ks3105 := by
  refine fn_intro (A := []) (Q := fun v Z' A' => ∃ v3103 : Value, ∃ c3104 : List Value, ∃ ks3105 : List Bk, v3103 = v ∧ A' = [.gs v3103 c3104 (csz api_Node), .grp ks3105] ∧ RD (α := api_Node) Z' c3104 r ks3105) Go.Proofs.Try.func23 rfl rfl (by kernel_rfl) hP ?_
  intro hs hS
  unfold correctorref10_copied at hm
  replace hS : St hs [] Z (0, 0) Z hs [] := hS
  refine sr r23_0 ?_
  refine r_blk rfl trivial (o_box (cs := [v2971]) rfl rfl) hS ?_
  intro b3106 h3107 hS3108
  refine xe 1 [(1, Pt b3106 0)] ?_
  refine sr r23_1 ?_
  refine xe 1 [(3, .slice none 0 0), (1, Pt b3106 0)] ?_
  refine sq ?_
  refine sr r23_2 ?_
  refine xe 1 [(4, V 0), (3, .slice none 0 0), (1, Pt b3106 0)] ?_
  obtain ⟨o3229, ho3228, hm⟩ := obind hm
  refine W_join [3] (fun l h => ∃ Z3300 : Zn, ∃ x3301 : List api_Node, ∃ v3303 : Value, ∃ c3304 : List Value, ∃ ks3305 : List Bk, x3301 = o3229 ∧ RD (α := api_Node) Z3300 c3304 x3301 ks3305 ∧ l = [(3, v3303)] ∧ St hs [] Z (0, 0) Z3300 h [.gs v3303 c3304 (csz api_Node), .grp ks3305]) ?_ ?_
  rintro l h3306 ⟨Z3300, x3301, v3303, c3304, ks3305, rfl, q3302, rfl, hS3307⟩
  try dsimp only at hm
  refine sr r23_8 ?_
  refine xe 2 [(2, v3303)] ?_
  refine rt ?_
  refine ⟨rfl, ?_⟩
  obtain rfl := Option.some.inj hm
  refine ⟨_, _, _, ResL.tmp rfl (ResL.nil), hS3307, ?_⟩
  exact ⟨v3303, c3304, ks3305, rfl, rfl, q3302⟩
  refine bk 0 ?_
  have hS3230 := hS3108.dnil (csz api_Node)
  refine lp [1, 3, 4] (fun n l h => ∃ Z3233 : Zn, ∃ x3235 : List api_Node, ∃ x3240 : Int, ∃ b3234 : Nat, ∃ v3237 : Value, ∃ c3238 : List Value, ∃ ks3239 : List Bk, correctorref10_copied_l0 F a0 n x3235 x3240 = some o3229 ∧ RD (α := api_Node) Z3233 c3238 x3235 ks3239 ∧ l = [(1, Pt b3234 0), (3, v3237), (4, V x3240)] ∧ St hs [] Z (0, 0) Z3233 h [.blk b3234 [v2971], .gs v3237 c3238 (csz api_Node), .grp ks3239]) F ⟨_, [], 0, b3106, (.slice none 0 0), [], [], ho3228, RD.nil, rfl, (((hS3230.front 1 rfl).front 1 rfl).front 2 rfl)⟩ ?_
  rintro n3243 l h3241 ⟨Z3233, x3235, x3240, b3234, v3237, c3238, ks3239, ho3228, q3236, rfl, hS3242⟩
  rcases n3243 with _ | n3243
  cases (show none = some o3229 from ho3228)
  rw [correctorref10_copied_l0] at ho3228
  refine sq ?_
  refine sr r23_3 ?_
  refine xq 2 [(7, Pt b3234 0), (6, V x3240), (1, Pt b3234 0), (3, v3237), (4, V x3240)] ?_
  refine r_step rfl trivial (o_ldb (v := v2971) hS3242 (i := 0) rfl rfl (by kernel_rfl)) ?_
  refine r_step rfl trivial (o_len rfl (RS.len (q2970.mono hS3242.zle)) ⟨_, Go.Proofs.Try.underlying25⟩) ?_
  rcases ifs ho3228 with ⟨hp3246, ho3228⟩ | ⟨hp3246, ho3228⟩
  refine r_step rfl trivial (o_cmp rfl rfl (c_lss_T hp3246)) ?_
  refine xf [(10, .bool true), (1, Pt b3234 0), (3, v3237), (4, V x3240)] ?_
  refine kT 10 rfl ?_
  refine sq ?_
  refine bk 1 ?_
  refine sr r23_5 ?_
  refine xq 1 [(13, Pt b3234 0), (1, Pt b3234 0), (3, v3237), (4, V x3240)] ?_
  refine r_step rfl trivial (o_ldb (v := v2971) hS3242 (i := 0) rfl rfl (by kernel_rfl)) ?_
  refine xq 1 [(15, V x3240), (14, v2971), (1, Pt b3234 0), (3, v3237), (4, V x3240)] ?_
  obtain ⟨hc3247, ho3228⟩ := chk ho3228
  refine r_step rfl trivial (o_index rfl rfl (by kernel_rfl : slTy _ _ = some (csz api_Node)) (RS.based (q2970.mono hS3242.zle) (by omega)) hc3247.1 hc3247.2) ?_
  obtain ⟨x3248, hx3249, ho3228⟩ := obind ho3228
  obtain ⟨cs3250, hc3251, he3252⟩ := RS.elz (q2970.mono hS3242.zle) (i := x3240) hx3249
  obtain ⟨v3254, q3255, rfl⟩ := rc_api_Node hc3251
  refine r_step rfl trivial (o_lde (w := .agg #[V x3248.Kind, V x3248.From, V x3248.To, V x3248.Up, v3254, .bool x3248.Key]) (he3252 _ (hS3242.zin0 (Zle.refl _))) rfl (by kernel_rfl)) ?_
  refine r_blk rfl trivial (o_alloc (cs := [V 0, V 0, V 0, V 0, .slice none 0 0, .bool false]) (by kernel_rfl)) hS3242 ?_
  intro b3256 h3257 hS3258
  refine r_ex1 rfl trivial (o_stb (vs := [V x3248.Kind, V x3248.From, V x3248.To, V x3248.Up, v3254, .bool x3248.Key]) (cells' := (K46 v3254 x3248)) (L' := [.blk b3256 (K46 v3254 x3248), .blk b3234 [v2971], .gs v3237 c3238 (csz api_Node), .grp ks3239]) hS3258 (i := 0) rfl rfl rfl rfl (by kernel_rfl) (one_cons rfl (one_cons rfl (one_cons rfl (one_cons rfl (one_cons (RS.one1 q3255) (one_cons rfl one_nil)))))) rfl rfl rfl) ?_
  intro h3259 hS3260
  refine xf [(5, Pt b3256 0), (1, Pt b3234 0), (3, v3237), (4, V x3240)] ?_
  refine sr r23_6 ?_
  have q3264 : RCs (α := Int) Z3233 [] [] := RCs.nil0 _
  refine r_row rfl trivial (o_bs (cells := []) (s := 1) (by kernel_rfl)) (by kernel_rfl) hS3260 ?_
  intro v3261 h3262 hS3263
  replace hS3263 : St _ _ _ _ _ _ [.gs v3261 [] (csz Int), .blk b3256 (K46 v3254 x3248), .blk b3234 [v2971], .gs v3237 c3238 (csz api_Node), .grp ks3239] := hS3263
  refine xq 1 [(19, Pt b3256 4), (18, v3261), (5, Pt b3256 0), (1, Pt b3234 0), (3, v3237), (4, V x3240)] ?_
  refine r_step rfl trivial (o_ldb (v := v3254) hS3263 (i := 1) rfl rfl (by kernel_rfl)) ?_
  obtain ⟨c3267, nw3266⟩ := RS.news q3255 (hS3263).inv
  obtain ⟨hc3273, ho3228⟩ := chk ho3228
  refine r_ex3 rfl trivial (o_app (ys := x3248.Kids) (by_ := 8) hS3263 (i := 0) rfl q3264 nw3266 rfl rfl (by kernel_rfl) (by omega) (by omega)) ?_
  rintro v3268 c3269 h3270 ⟨q3272, hS3271⟩
  replace hS3271 : St _ _ _ _ _ _ [.gs v3268 c3269 (csz Int), .blk b3256 (K46 v3254 x3248), .blk b3234 [v2971], .gs v3237 c3238 (csz api_Node), .grp ks3239] := hS3271
  refine xq 1 [(22, Pt b3256 4), (21, v3268), (5, Pt b3256 0), (1, Pt b3234 0), (3, v3237), (4, V x3240)] ?_
  refine r_ex1 rfl trivial (o_stb (vs := [v3268]) (cells' := (K46 v3268 x3248)) (L' := [.gs v3268 c3269 (csz Int), .blk b3256 (K46 v3268 x3248), .blk b3234 [v2971], .gs v3237 c3238 (csz api_Node), .grp ks3239]) hS3271 (i := 1) rfl rfl rfl (hS3271.gcell1 (i := 0) rfl) (by kernel_rfl) (one_cons (hS3271.gone1 (i := 0) rfl) one_nil) rfl rfl rfl) ?_
  intro h3274 hS3275
  refine xf [(5, Pt b3256 0), (1, Pt b3234 0), (3, v3237), (4, V x3240)] ?_
  refine rg r23_7 ?_
  refine xq 1 [(23, v3237), (5, Pt b3256 0), (1, Pt b3234 0), (3, v3237), (4, V x3240)] ?_
  refine r_step rfl trivial (o_ldb (v := .agg #[V x3248.Kind, V x3248.From, V x3248.To, V x3248.Up, v3268, .bool x3248.Key]) hS3275 (i := 1) rfl rfl (by kernel_rfl)) ?_
  have ho3285 := hS3275.gone1 (i := 0) rfl
  refine r_row rfl trivial (o_bs (cells := [V x3248.Kind, V x3248.From, V x3248.To, V x3248.Up, v3268, .bool x3248.Key]) (s := 6) (by kernel_rfl)) (by kernel_rfl) hS3275 ?_
  intro v3276 h3277 hS3278
  obtain ⟨ks3281, hO3286, hS3282⟩ := (hS3278.front 1 rfl).toGrp q3272
  have hS3283 := hS3282.front 1 rfl
  have q3279 : RD (α := api_Node) Z3233 [V x3248.Kind, V x3248.From, V x3248.To, V x3248.Up, v3268, .bool x3248.Key] [(⟨x3248.Kind, x3248.From, x3248.To, x3248.Up, ([] : List Int) ++ x3248.Kids, x3248.Key⟩ : api_Node)] ks3281 := RD.one (show DCell.drc _ _ _ from rfl) ho3285 hO3286
  have hS3284 : St _ _ _ _ _ _ [.gs v3276 [V x3248.Kind, V x3248.From, V x3248.To, V x3248.Up, v3268, .bool x3248.Key] (csz api_Node), .grp ks3281, .blk b3256 (K46 v3268 x3248), .blk b3234 [v2971], .gs v3237 c3238 (csz api_Node), .grp ks3239] := hS3283
  obtain ⟨hc3287, ho3228⟩ := chk ho3228
  have hF3288 : St _ _ _ _ _ _ [.gs v3237 c3238 (csz api_Node), .grp ks3239, .gs v3276 [V x3248.Kind, V x3248.From, V x3248.To, V x3248.Up, v3268, .bool x3248.Key] (csz api_Node), .grp ks3281, .blk b3256 (K46 v3268 x3248), .blk b3234 [v2971]] := ((((hS3284.front 1 rfl).front 1 rfl).front 5 rfl).front 5 rfl)
  refine r_ex3 rfl trivial (o_appD (by_ := 64) hF3288 q3236 q3279 rfl rfl (by kernel_rfl) (by omega) (by omega)) ?_
  rintro v3289 c3290 h3291 ⟨q3293, hS3292⟩
  replace hS3292 : St _ _ _ _ _ _ [.gs v3289 c3290 (csz api_Node), .grp (ks3239 ++ ks3281), .blk b3256 (K46 v3268 x3248), .blk b3234 [v2971]] := hS3292
  refine xe 1 [(3, v3289), (1, Pt b3234 0), (4, V x3240)] ?_
  refine rg r23_4 ?_
  refine xe 3 [(4, V (w64 (x3240 + 1))), (3, v3289), (1, Pt b3234 0)] ?_
  exact ⟨n3243, Nat.lt_succ_self _, ⟨_, x3235 ++ [(⟨x3248.Kind, x3248.From, x3248.To, x3248.Up, ([] : List Int) ++ x3248.Kids, x3248.Key⟩ : api_Node)], w64 (x3240 + 1), b3234, v3289, c3290, ks3239 ++ ks3281, ho3228, q3293, rfl, ((((hS3292.front 1 rfl).front 1 rfl).front 3 rfl).takeN 3)⟩⟩
  refine r_step rfl trivial (o_cmp rfl rfl (c_lss_F hp3246)) ?_
  refine xf [(10, .bool false), (1, Pt b3234 0), (3, v3237), (4, V x3240)] ?_
  refine cF 10 rfl ?_
  refine xt 0 ?_
  refine blkX_hit ?_
  obtain rfl := Option.some.inj ho3228
  exact ⟨_, x3235, v3237, c3238, ks3239, rfl, q3236, rfl, (((hS3242.front 2 rfl).front 2 rfl).takeN 2)⟩

def r24_0 : List COp := [u 7 (.move (t 1)), u 6 (.assign (t 7))]
def r24_1 : List COp := [u 8 (.move (t 6)), u 9 (.binOp .geq 3 (t 8) (ci 0) 3)]
def r24_2 : List COp := [u 10 (.move (t 0)), u 11 (.move (t 6)), u 12 (.indexAddr 25 (t 10) (t 11)), u 13 (.fieldAddr 46 (t 12) 3), u 14 (.load 3 (t 13)), u 6 (.assign (t 14))]
def r24_3 : List COp := [u 15 (.move (t 0)), u 16 (.move (t 6)), u 17 (.move (t 0)), u 18 (.move (t 6)), u 19 (.indexAddr 25 (t 17) (t 18)), u 20 (.fieldAddr 46 (t 19) 2), u 21 (.load 3 (t 20)), u 22 (.move (t 2)), u 23 (cb .max #[(t 21), (t 22)] #[3, 3]), u 24 (.indexAddr 25 (t 15) (t 16)), u 25 (.fieldAddr 46 (t 24) 2), o (.store 3 (t 25) (t 23))]
def correctorref10_reach_l0 (F : Nat) (a0 : List api_Node) (a1 : Int) (a2 : Int) : Nat → (List api_Node) → Int → Option (List api_Node)
  | 0, _, _ => none
  | n + 1, x3515, x3519 =>
    if (0 : Int) ≤ x3519 then
      if 0 ≤ x3519 ∧ x3519 < (x3515.length : Int) then
        (x3515[x3519.toNat]?).bind fun x3527 =>
        if 0 ≤ x3519 ∧ x3519 < (x3515.length : Int) then
          (x3515[x3519.toNat]?).bind fun x3537 =>
          if 0 ≤ x3519 ∧ x3519 < ((x3515.set x3519.toNat (⟨x3537.Kind, x3537.From, imax x3527.To a2, x3537.Up, x3537.Kids, x3537.Key⟩ : api_Node)).length : Int) then
            ((x3515.set x3519.toNat (⟨x3537.Kind, x3537.From, imax x3527.To a2, x3537.Up, x3537.Kids, x3537.Key⟩ : api_Node))[x3519.toNat]?).bind fun x3551 =>
            correctorref10_reach_l0 F a0 a1 a2 n (x3515.set x3519.toNat (⟨x3537.Kind, x3537.From, imax x3527.To a2, x3537.Up, x3537.Kids, x3537.Key⟩ : api_Node)) x3551.Up
          else none
        else none
      else none
    else
      some x3515
def correctorref10_reach (F : Nat) (a0 : List api_Node) (a1 : Int) (a2 : Int) : Option (List api_Node) :=
  ((correctorref10_reach_l0 F a0 a1 a2 F a0 a1) : Option (List api_Node)).bind fun o => match o with
    | x3565 => some x3565
theorem correctorref10_reach_ok (F : Nat) {h : AH} {Z : Zn} {a0 : List api_Node} {a1 : Int} {a2 : Int} {v3329 : Value} {c3330 : List Value} {ks3331 : List Bk} (hP : Pre Z h [.gs v3329 c3330 (csz api_Node), .grp ks3331]) (q3328 : RD (α := api_Node) Z c3330 a0 ks3331) {r : (List api_Node)} (hm : correctorref10_reach F a0 a1 a2 = some r) :
    ∃ v h' Z' A', callI Go.Proofs.Try.prog 24 [v3329, V a1, V a2] h = some (v, h') ∧ St h (idsL [.gs v3329 c3330 (csz api_Node), .grp ks3331]) Z (0, 0) Z' h' A' ∧ ∃ c3425 : List Value, ∃ ks3426 : List Bk, .tuple #[] = v ∧ A' = [.gs v3329 c3425 (csz api_Node), .grp ks3426] ∧ RD (α := api_Node) Z' c3425 r ks3426 := by
  refine fn_intro (A := [.gs v3329 c3330 (csz api_Node), .grp ks3331]) (Q := fun v Z' A' => ∃ c3425 : List Value, ∃ ks3426 : List Bk, .tuple #[] = v ∧ A' = [.gs v3329 c3425 (csz api_Node), .grp ks3426] ∧ RD (α := api_Node) Z' c3425 r ks3426) Go.Proofs.Try.func24 rfl rfl (by kernel_rfl) hP ?_
  intro hs hS
  unfold correctorref10_reach at hm
  refine sr r24_0 ?_
  refine xe 2 [(6, V a1), (0, v3329), (2, V a2)] ?_
  obtain ⟨o3513, ho3512, hm⟩ := obind hm
  refine W_join [] (fun l h => ∃ Z3564 : Zn, ∃ x3565 : List api_Node, ∃ c3567 : List Value, ∃ ks3568 : List Bk, x3565 = o3513 ∧ RD (α := api_Node) Z3564 c3567 x3565 ks3568 ∧ l = [] ∧ St hs (idsL [.gs v3329 c3330 (csz api_Node), .grp ks3331]) Z (0, 0) Z3564 h [.gs v3329 c3567 (csz api_Node), .grp ks3568]) ?_ ?_
  rintro l h3569 ⟨Z3564, x3565, c3567, ks3568, rfl, q3566, rfl, hS3570⟩
  try dsimp only at hm
  obtain rfl := Option.some.inj hm
  refine ⟨_, _, _, ResL.nil, hS3570, ?_⟩
  exact ⟨c3567, ks3568, rfl, rfl, q3566⟩
  refine bk 0 ?_
  refine lp [0, 2, 6] (fun n l h => ∃ Z3514 : Zn, ∃ x3515 : List api_Node, ∃ x3519 : Int, ∃ c3517 : List Value, ∃ ks3518 : List Bk, correctorref10_reach_l0 F a0 a1 a2 n x3515 x3519 = some o3513 ∧ RD (α := api_Node) Z3514 c3517 x3515 ks3518 ∧ l = [(0, v3329), (2, V a2), (6, V x3519)] ∧ St hs (idsL [.gs v3329 c3330 (csz api_Node), .grp ks3331]) Z (0, 0) Z3514 h [.gs v3329 c3517 (csz api_Node), .grp ks3518]) F ⟨_, a0, a1, c3330, ks3331, ho3512, q3328, rfl, hS⟩ ?_
  rintro n3522 l h3520 ⟨Z3514, x3515, x3519, c3517, ks3518, ho3512, q3516, rfl, hS3521⟩
  rcases n3522 with _ | n3522
  cases (show none = some o3513 from ho3512)
  rw [correctorref10_reach_l0] at ho3512
  refine sq ?_
  refine sr r24_1 ?_
  refine xq 1 [(8, V x3519), (0, v3329), (2, V a2), (6, V x3519)] ?_
  rcases ifs ho3512 with ⟨hp3525, ho3512⟩ | ⟨hp3525, ho3512⟩
  refine r_step rfl trivial (o_cmp rfl rfl (c_geq_T hp3525)) ?_
  refine xf [(9, .bool true), (0, v3329), (2, V a2), (6, V x3519)] ?_
  refine kT 9 rfl ?_
  refine sq ?_
  refine bk 1 ?_
  refine rg r24_3 ?_
  refine xq 4 [(18, V x3519), (17, v3329), (16, V x3519), (15, v3329), (0, v3329), (2, V a2), (6, V x3519)] ?_
  obtain ⟨hc3526, ho3512⟩ := chk ho3512
  refine r_step rfl trivial (o_index rfl rfl (by kernel_rfl : slTy _ _ = some (csz api_Node)) (hS3521.dbased (i := 0) rfl (q3516).raw (by omega)) hc3526.1 hc3526.2) ?_
  refine xq 1 [(20, .pointer (some (elemA v3329 x3519 (csz api_Node) 2))), (16, V x3519), (15, v3329), (0, v3329), (2, V a2), (6, V x3519)] ?_
  obtain ⟨x3527, hx3528, ho3512⟩ := obind ho3512
  obtain ⟨w3533, cs3529, hd3534, ho3535, he3531, ht3532⟩ := hS3521.del (j := 0) rfl (q3516).raw (i := x3519) hx3528
  obtain rfl := drc_api_Node hd3534
  refine r_step rfl trivial (o_lde (w := V x3527.To) he3531 rfl (by kernel_rfl)) ?_
  refine xq 2 [(23, V (imax x3527.To a2)), (16, V x3519), (15, v3329), (0, v3329), (2, V a2), (6, V x3519)] ?_
  obtain ⟨hc3536, ho3512⟩ := chk ho3512
  refine r_step rfl trivial (o_index rfl rfl (by kernel_rfl : slTy _ _ = some (csz api_Node)) (hS3521.dbased (i := 0) rfl (q3516).raw (by omega)) hc3536.1 hc3536.2) ?_
  refine xq 1 [(25, .pointer (some (elemA v3329 x3519 (csz api_Node) 2))), (23, V (imax x3527.To a2)), (0, v3329), (2, V a2), (6, V x3519)] ?_
  obtain ⟨x3537, hx3538, ho3512⟩ := obind ho3512
  obtain ⟨w3543, cs3539, hd3544, ho3545, he3541, ht3542⟩ := hS3521.del (j := 0) rfl (q3516).raw (i := x3519) hx3538
  obtain rfl := drc_api_Node hd3544
  refine r_ex2 rfl trivial (o_sted (z' := (⟨x3537.Kind, x3537.From, imax x3527.To a2, x3537.Up, x3537.Kids, x3537.Key⟩ : api_Node)) (vs := [V (imax x3527.To a2)]) (cs' := [V x3537.Kind, V x3537.From, V (imax x3527.To a2), V x3537.Up, w3543, .bool x3537.Key]) hS3521 (m := 0) rfl q3516 hx3538 ht3542 rfl rfl rfl (by kernel_rfl) rfl rfl rfl (show DCell.drc _ _ _ from rfl) (show DCell.drc _ _ _ from rfl) rfl) ?_
  rintro h3546 c3547 ⟨q3549, hS3548⟩
  replace hS3548 : St _ _ _ _ _ _ [.gs v3329 c3547 (csz api_Node), .grp ks3518] := hS3548
  refine xf [(0, v3329), (2, V a2), (6, V x3519)] ?_
  refine rg r24_2 ?_
  refine xq 2 [(11, V x3519), (10, v3329), (0, v3329), (2, V a2), (6, V x3519)] ?_
  obtain ⟨hc3550, ho3512⟩ := chk ho3512
  refine r_step rfl trivial (o_index rfl rfl (by kernel_rfl : slTy _ _ = some (csz api_Node)) (hS3548.dbased (i := 0) rfl (q3549).raw (by omega)) hc3550.1 hc3550.2) ?_
  refine xq 1 [(13, .pointer (some (elemA v3329 x3519 (csz api_Node) 3))), (0, v3329), (2, V a2), (6, V x3519)] ?_
  obtain ⟨x3551, hx3552, ho3512⟩ := obind ho3512
  obtain ⟨w3557, cs3553, hd3558, ho3559, he3555, ht3556⟩ := hS3548.del (j := 0) rfl (q3549).raw (i := x3519) hx3552
  obtain rfl := drc_api_Node hd3558
  refine r_step rfl trivial (o_lde (w := V x3551.Up) he3555 rfl (by kernel_rfl)) ?_
  refine xe 1 [(6, V x3551.Up), (0, v3329), (2, V a2)] ?_
  exact ⟨n3522, Nat.lt_succ_self _, ⟨_, x3515.set x3519.toNat (⟨x3537.Kind, x3537.From, imax x3527.To a2, x3537.Up, x3537.Kids, x3537.Key⟩ : api_Node), x3551.Up, c3547, ks3518, ho3512, q3549, rfl, hS3548⟩⟩
  refine r_step rfl trivial (o_cmp rfl rfl (c_geq_F hp3525)) ?_
  refine xf [(9, .bool false), (0, v3329), (2, V a2), (6, V x3519)] ?_
  refine cF 9 rfl ?_
  refine xt 0 ?_
  refine blkX_hit ?_
  obtain rfl := Option.some.inj ho3512
  exact ⟨_, x3515, c3517, ks3518, rfl, q3516, rfl, hS3521⟩

def r12_0 : List COp := [u 3 (.box 29 (t 0)), u 6 (.alloc 29)]
def r12_1 : List COp := [u 8 (.move (t 1)), u 9 (.binOp .lss 3 (t 8) (ci 0) 3), u 10 (.move (t 9)), gN 10 (some 11) (.move (t 1)), gN 10 (some 12) (.fieldAddr 29 (t 3) 0), gN 10 (some 13) (.load 25 (t 12)), gN 10 (some 14) (cb .len #[(t 13)] #[25]), gN 10 (some 15) (.binOp .geq 3 (t 11) (t 14) 3), u 16 (.pick (t 10) (.const (.bool true)) (t 15)), u 17 (.move (t 16)), gN 17 (some 18) (.move (t 2)), gN 17 (some 19) (.fieldAddr 29 (t 3) 0), gN 17 (some 20) (.load 25 (t 19)), gN 17 (some 21) (.indexAddr 25 (t 20) (ci 0)), gN 17 (some 22) (.fieldAddr 46 (t 21) 2), gN 17 (some 23) (.load 3 (t 22)), gN 17 (some 24) (.binOp .gtr 3 (t 18) (t 23) 3), u 25 (.pick (t 17) (.const (.bool true)) (t 24))]
def r12_2 : List COp := [u 26 (.load 29 (t 3)), o (.store 29 (t 6) (t 26))]
def r12_3 : List COp := [u 27 (.load 29 (t 3)), u 28 (cf 23 #[(t 27)] #[29]), u 7 (.assign (t 28))]
def r12_4 : List COp := [u 29 (.move (t 7)), u 30 (.move (t 1)), u 31 (.move (t 2)), u 32 (cf 24 #[(t 29), (t 30), (t 31)] #[25, 3, 3])]
def r12_5 : List COp := [u 33 (.move (t 7)), u 34 (.build 29 #[(0, (t 33))]), o (.store 29 (t 6) (t 34))]
def correctorref10_Grow (F : Nat) (a0 : correctorref10_Tree) (a1 : Int) (a2 : Int) : Option correctorref10_Tree :=
  if a1 < (0 : Int) then
    some a0
  else
    if (a0.Nodes.length : Int) ≤ a1 then
      some a0
    else
      if 0 ≤ (0 : Int) ∧ (0 : Int) < (a0.Nodes.length : Int) then
        (a0.Nodes[(0 : Int).toNat]?).bind fun x3646 =>
        if x3646.To < a2 then
          some a0
        else
          (correctorref10_copied F a0).bind fun r3659 =>
          (correctorref10_reach F r3659 a1 a2).bind fun r3674 =>
          some (⟨r3674⟩ : correctorref10_Tree)
      else none
theorem correctorref10_Grow_ok (F : Nat) {h : AH} {Z : Zn} {a0 : correctorref10_Tree} {a1 : Int} {a2 : Int} {v2903 : Value} (hP : Pre Z h []) (q2902 : RS (α := api_Node) Z v2903 a0.Nodes) {r : correctorref10_Tree} (hm : correctorref10_Grow F a0 a1 a2 = some r) :
    ∃ v h' Z' A', callI Go.Proofs.Try.prog 12 [.agg #[v2903], V a1, V a2] h = some (v, h') ∧ St h (idsL []) Z (0, 0) Z' h' A' ∧ ∃ v3592 : Value, .agg #[v3592] = v ∧ A' = [] ∧ RS (α := api_Node) Z' v3592 r.Nodes := by
  refine fn_intro (A := []) (Q := fun v Z' A' => ∃ v3592 : Value, .agg #[v3592] = v ∧ A' = [] ∧ RS (α := api_Node) Z' v3592 r.Nodes) Go.Proofs.Try.func12 rfl rfl (by kernel_rfl) hP ?_
  intro hs hS
  unfold correctorref10_Grow at hm
  replace hS : St hs [] Z (0, 0) Z hs [] := hS
  refine sr r12_0 ?_
  refine r_blk rfl trivial (o_box (cs := [v2903]) rfl rfl) hS ?_
  intro b3593 h3594 hS3595
  refine r_blk rfl trivial (o_alloc (cs := [.slice none 0 0]) (by kernel_rfl)) hS3595 ?_
  intro b3596 h3597 hS3598
  refine xf [(6, Pt b3596 0), (3, Pt b3593 0), (1, V a1), (2, V a2)] ?_
  refine sq ?_
  refine sr r12_1 ?_
  refine xq 1 [(8, V a1), (6, Pt b3596 0), (3, Pt b3593 0), (1, V a1), (2, V a2)] ?_
  rcases ifs hm with ⟨hp3635, hm⟩ | ⟨hp3635, hm⟩
  refine r_step rfl trivial (o_cmp rfl rfl (c_lss_T hp3635)) ?_
  refine xe 16 [(25, .bool true), (6, Pt b3596 0), (3, Pt b3593 0), (1, V a1), (2, V a2)] ?_
  refine cT 25 rfl ?_
  refine sr r12_2 ?_
  refine r_step rfl trivial (o_ldb (v := .agg #[v2903]) hS3598 (i := 1) rfl rfl (by kernel_rfl)) ?_
  refine r_ex1 rfl trivial (o_stb (vs := [v2903]) (cells' := [v2903]) (L' := [.blk b3596 [v2903], .blk b3593 [v2903]]) hS3598 (i := 0) rfl rfl rfl rfl (by kernel_rfl) (one_cons (RS.one1 q2902) one_nil) rfl rfl rfl) ?_
  intro h3638 hS3639
  refine xf [(6, Pt b3596 0)] ?_
  refine rt ?_
  refine ⟨rfl, ?_⟩
  obtain rfl := Option.some.inj hm
  refine ⟨_, _, _, ResL.cell (v := .agg #[v2903]) rfl hS3639 (i := 0) rfl (by kernel_rfl) (ResL.nil), (hS3639.takeN 0), ?_⟩
  exact ⟨v2903, rfl, rfl, q2902⟩
  refine r_step rfl trivial (o_cmp rfl rfl (c_lss_F hp3635)) ?_
  refine xq 3 [(12, Pt b3593 0), (11, V a1), (10, .bool false), (6, Pt b3596 0), (3, Pt b3593 0), (1, V a1), (2, V a2)] ?_
  refine r_step rfl rfl (o_ldb (v := v2903) hS3598 (i := 1) rfl rfl (by kernel_rfl)) ?_
  refine r_step rfl rfl (o_len rfl (RS.len q2902) ⟨_, Go.Proofs.Try.underlying25⟩) ?_
  rcases ifs hm with ⟨hp3640, hm⟩ | ⟨hp3640, hm⟩
  refine r_step rfl rfl (o_cmp rfl rfl (c_geq_T hp3640)) ?_
  refine xe 10 [(25, .bool true), (6, Pt b3596 0), (3, Pt b3593 0), (1, V a1), (2, V a2)] ?_
  refine cT 25 rfl ?_
  refine sr r12_2 ?_
  refine r_step rfl trivial (o_ldb (v := .agg #[v2903]) hS3598 (i := 1) rfl rfl (by kernel_rfl)) ?_
  refine r_ex1 rfl trivial (o_stb (vs := [v2903]) (cells' := [v2903]) (L' := [.blk b3596 [v2903], .blk b3593 [v2903]]) hS3598 (i := 0) rfl rfl rfl rfl (by kernel_rfl) (one_cons (RS.one1 q2902) one_nil) rfl rfl rfl) ?_
  intro h3643 hS3644
  refine xf [(6, Pt b3596 0)] ?_
  refine rt ?_
  refine ⟨rfl, ?_⟩
  obtain rfl := Option.some.inj hm
  refine ⟨_, _, _, ResL.cell (v := .agg #[v2903]) rfl hS3644 (i := 0) rfl (by kernel_rfl) (ResL.nil), (hS3644.takeN 0), ?_⟩
  exact ⟨v2903, rfl, rfl, q2902⟩
  refine r_step rfl rfl (o_cmp rfl rfl (c_geq_F hp3640)) ?_
  refine xq 4 [(19, Pt b3593 0), (18, V a2), (17, .bool false), (6, Pt b3596 0), (3, Pt b3593 0), (1, V a1), (2, V a2)] ?_
  refine r_step rfl rfl (o_ldb (v := v2903) hS3598 (i := 1) rfl rfl (by kernel_rfl)) ?_
  obtain ⟨hc3645, hm⟩ := chk hm
  refine r_step rfl rfl (o_index rfl rfl (by kernel_rfl : slTy _ _ = some (csz api_Node)) (RS.based q2902 (by omega)) hc3645.1 hc3645.2) ?_
  refine xq 1 [(22, .pointer (some (elemA v2903 0 (csz api_Node) 2))), (18, V a2), (17, .bool false), (6, Pt b3596 0), (3, Pt b3593 0), (1, V a1), (2, V a2)] ?_
  obtain ⟨x3646, hx3647, hm⟩ := obind hm
  obtain ⟨cs3648, hc3649, he3650⟩ := RS.elz q2902 (i := 0) hx3647
  obtain ⟨v3652, q3653, rfl⟩ := rc_api_Node hc3649
  refine r_step rfl rfl (o_lde (w := V x3646.To) (he3650 _ (hS3598.zin0 (Zle.refl _))) rfl (by kernel_rfl)) ?_
  rcases ifs hm with ⟨hp3654, hm⟩ | ⟨hp3654, hm⟩
  refine r_step rfl rfl (o_cmp rfl rfl (c_gtr_T hp3654)) ?_
  refine xe 1 [(25, .bool true), (6, Pt b3596 0), (3, Pt b3593 0), (1, V a1), (2, V a2)] ?_
  refine cT 25 rfl ?_
  refine sr r12_2 ?_
  refine r_step rfl trivial (o_ldb (v := .agg #[v2903]) hS3598 (i := 1) rfl rfl (by kernel_rfl)) ?_
  refine r_ex1 rfl trivial (o_stb (vs := [v2903]) (cells' := [v2903]) (L' := [.blk b3596 [v2903], .blk b3593 [v2903]]) hS3598 (i := 0) rfl rfl rfl rfl (by kernel_rfl) (one_cons (RS.one1 q2902) one_nil) rfl rfl rfl) ?_
  intro h3657 hS3658
  refine xf [(6, Pt b3596 0)] ?_
  refine rt ?_
  refine ⟨rfl, ?_⟩
  obtain rfl := Option.some.inj hm
  refine ⟨_, _, _, ResL.cell (v := .agg #[v2903]) rfl hS3658 (i := 0) rfl (by kernel_rfl) (ResL.nil), (hS3658.takeN 0), ?_⟩
  exact ⟨v2903, rfl, rfl, q2902⟩
  refine r_step rfl rfl (o_cmp rfl rfl (c_gtr_F hp3654)) ?_
  refine xe 1 [(25, .bool false), (6, Pt b3596 0), (3, Pt b3593 0), (1, V a1), (2, V a2)] ?_
  refine kF 25 rfl ?_
  refine sr r12_3 ?_
  refine r_step rfl trivial (o_ldb (v := .agg #[v2903]) hS3598 (i := 1) rfl rfl (by kernel_rfl)) ?_
  obtain ⟨r3659, hx3660, hm⟩ := obind hm
  have hSr3666 : St _ _ _ _ _ _ ([] ++ [.blk b3596 [.slice none 0 0], .blk b3593 [v2903]]) := hS3598
  obtain ⟨v3661, h3662, Z3667, A3669, hcl3663, hSc3664, v3671, c3672, ks3673, rfl, rfl, q3670⟩ := correctorref10_copied_ok F hSr3666.preL q2902 hx3660
  have hS3665 := hSr3666.call hSc3664
  have hZ3668 := hSc3664.zle
  replace hS3665 : St _ _ _ _ _ _ [.gs v3671 c3672 (csz api_Node), .grp ks3673, .blk b3596 [.slice none 0 0], .blk b3593 [v2903]] := hS3665
  refine r_step rfl trivial (o_call hcl3663 rfl rfl rfl) ?_
  refine xe 1 [(7, v3671), (6, Pt b3596 0), (1, V a1), (2, V a2)] ?_
  refine sr r12_4 ?_
  refine xq 3 [(31, V a2), (30, V a1), (29, v3671), (7, v3671), (6, Pt b3596 0)] ?_
  obtain ⟨r3674, hx3675, hm⟩ := obind hm
  have hF3681 : St _ _ _ _ _ _ ([.gs v3671 c3672 (csz api_Node), .grp ks3673] ++ [.blk b3596 [.slice none 0 0], .blk b3593 [v2903]]) := ((hS3665.front 1 rfl).front 1 rfl)
  obtain ⟨v3676, h3677, Z3682, A3684, hcl3678, hSc3679, c3686, ks3687, rfl, rfl, q3685⟩ := correctorref10_reach_ok F hF3681.preL q3670 hx3675
  have hZ3683 := hSc3679.zle
  have hS3680 := hF3681.call hSc3679
  replace hS3680 : St _ _ _ _ _ _ [.gs v3671 c3686 (csz api_Node), .grp ks3687, .blk b3596 [.slice none 0 0], .blk b3593 [v2903]] := hS3680
  refine r_step rfl trivial (o_call hcl3678 rfl rfl rfl) ?_
  refine xf [(7, v3671), (6, Pt b3596 0)] ?_
  refine sr r12_5 ?_
  refine xq 1 [(33, v3671), (6, Pt b3596 0)] ?_
  refine r_step rfl trivial (o_build (v := .agg #[v3671]) rfl (CA.cons (cs := [v3671]) (hS3680.gcell1 (i := 0) rfl) (CA.nil0)) (by kernel_rfl)) ?_
  refine r_ex1 rfl trivial (o_stb (vs := [v3671]) (cells' := [v3671]) (L' := [.gs v3671 c3686 (csz api_Node), .grp ks3687, .blk b3596 [v3671], .blk b3593 [v2903]]) hS3680 (i := 2) rfl rfl rfl rfl (by kernel_rfl) (one_cons (hS3680.gone1 (i := 0) rfl) one_nil) rfl rfl rfl) ?_
  intro h3688 hS3689
  refine xf [(6, Pt b3596 0)] ?_
  refine rt ?_
  refine ⟨rfl, ?_⟩
  have hF3694 : St _ _ _ _ _ _ [.gs v3671 c3686 (csz api_Node), .grp ks3687, .blk b3596 [v3671], .blk b3593 [v2903]] := ((hS3689.front 1 rfl).front 1 rfl)
  obtain ⟨Z3690, hZ3691, q3692, hS3693⟩ := hF3694.shallow q3685
  replace hS3693 : St _ _ _ _ _ _ [.gs v3671 c3686 (csz api_Node), .blk b3596 [v3671], .blk b3593 [v2903]] := hS3693
  obtain ⟨Z3695, hZ3696, q3697, hS3698⟩ := (hS3693.front 0 rfl).freeze q3692
  replace hS3698 : St _ _ _ _ _ _ [.blk b3596 [v3671], .blk b3593 [v2903]] := hS3698
  obtain rfl := Option.some.inj hm
  refine ⟨_, _, _, ResL.cell (v := .agg #[v3671]) rfl hS3698 (i := 0) rfl (by kernel_rfl) (ResL.nil), (hS3698.takeN 0), ?_⟩
  exact ⟨v3671, rfl, rfl, q3697⟩

def r15_0 : List COp := [u 5 (.box 29 (t 0)), u 10 (.alloc 29), u 11 (.assign (ci 0))]
def r15_1 : List COp := [u 15 (.move (t 1)), u 16 (.binOp .lss 3 (t 15) (ci 0) 3), u 17 (.move (t 16)), gN 17 (some 18) (.move (t 1)), gN 17 (some 19) (.fieldAddr 29 (t 5) 0), gN 17 (some 20) (.load 25 (t 19)), gN 17 (some 21) (cb .len #[(t 20)] #[25]), gN 17 (some 22) (.binOp .geq 3 (t 18) (t 21) 3), u 23 (.pick (t 17) (.const (.bool true)) (t 22)), u 24 (.move (t 23)), gN 24 (some 25) (.move (t 2)), gN 24 (some 26) (.binOp .lss 3 (t 25) (ci 1) 3), u 27 (.pick (t 24) (.const (.bool true)) (t 26)), u 28 (.move (t 27)), gN 28 (some 29) (.move (t 2)), gN 28 (some 30) (.binOp .gtr 3 (t 29) (ci 11) 3), u 31 (.pick (t 28) (.const (.bool true)) (t 30)), u 32 (.move (t 31)), gN 32 (some 33) (.move (t 3)), gN 32 (some 34) (.move (t 4)), gN 32 (some 35) (.binOp .gtr 3 (t 33) (t 34) 3), u 36 (.pick (t 32) (.const (.bool true)) (t 35)), u 37 (.move (t 36)), gN 37 (some 38) (.move (t 4)), gN 37 (some 39) (.fieldAddr 29 (t 5) 0), gN 37 (some 40) (.load 25 (t 39)), gN 37 (some 41) (.indexAddr 25 (t 40) (ci 0)), gN 37 (some 42) (.fieldAddr 46 (t 41) 2), gN 37 (some 43) (.load 3 (t 42)), gN 37 (some 44) (.binOp .gtr 3 (t 38) (t 43) 3), u 45 (.pick (t 37) (.const (.bool true)) (t 44))]
def r15_2 : List COp := [u 46 (.load 29 (t 5)), o (.store 29 (t 10) (t 46)), u 11 (.assign (ci (-1)))]
def r15_3 : List COp := [u 47 (.fieldAddr 29 (t 5) 0), u 48 (.load 25 (t 47)), u 49 (.move (t 1)), u 50 (.indexAddr 25 (t 48) (t 49)), u 51 (.load 46 (t 50)), u 12 (.alloc 46), o (.store 46 (t 12) (t 51))]
def r15_4 : List COpF := [uF 52 (.move (t 3)) .pure [], uF 53 (.fieldAddr 46 (t 12) 1) .pure [], uF 54 (.load 3 (t 53)) .look [], uF 55 (.binOp .lss 3 (t 52) (t 54) 3) .pure [], uF 56 (.move (t 55)) .pure [], gNF 56 (some 57) (.fieldAddr 46 (t 12) 4) .pure [], gNF 56 (some 58) (.load 44 (t 57)) .look [], gNF 56 (some 59) (cb .len #[(t 58)] #[44]) .pure [], gNF 56 (some 60) (.binOp .gtr 3 (t 59) (ci 0) 3) .pure [], gNF 56 (some 61) (.move (t 60)) .pure [], gTF 61 (some 62) (.move (t 3)) .pure [], gTF 61 (some 63) (.fieldAddr 29 (t 5) 0) .pure [], gTF 61 (some 64) (.load 25 (t 63)) .look [], gTF 61 (some 65) (.fieldAddr 46 (t 12) 4) .pure [], gTF 61 (some 66) (.load 44 (t 65)) .look [], gTF 61 (some 67) (.fieldAddr 46 (t 12) 4) .pure [], gTF 61 (some 68) (.load 44 (t 67)) .look [], gTF 61 (some 69) (cb .len #[(t 68)] #[44]) .pure [], gTF 61 (some 70) (.binOp .sub 3 (t 69) (ci 1) 3) .pure [], gTF 61 (some 71) (.indexAddr 44 (t 66) (t 70)) .pure [], gTF 61 (some 72) (.load 3 (t 71)) .look [], gTF 61 (some 73) (.indexAddr 25 (t 64) (t 72)) .pure [], gTF 61 (some 74) (.fieldAddr 46 (t 73) 2) .pure [], gTF 61 (some 75) (.load 3 (t 74)) .look [], gTF 61 (some 76) (.binOp .lss 3 (t 62) (t 75) 3) .pure [], gNF 56 (some 77) (.pick (t 61) (t 76) (.const (.bool false))) .pure [], uF 78 (.pick (t 56) (.const (.bool true)) (t 77)) .pure []]
def r15_5 : List COp := [u 79 (.load 29 (t 5)), o (.store 29 (t 10) (t 79)), u 11 (.assign (ci (-1)))]
def r15_6 : List COp := [u 80 (.load 29 (t 5)), u 81 (cf 23 #[(t 80)] #[29]), u 13 (.assign (t 81))]
def r15_7 : List COp := [u 82 (.move (t 13)), u 83 (cb .len #[(t 82)] #[25]), u 14 (.assign (t 83))]
def r15_8 : List COp := [u 84 (.move (t 13)), u 85 (.move (t 2)), u 86 (.move (t 3)), u 87 (.move (t 4)), u 88 (.move (t 1)), u 89 (.build 46 #[(0, (t 85)), (1, (t 86)), (2, (t 87)), (3, (t 88))]), u 90 (.buildSlice 25 1 #[(0, (t 89))]), u 91 (cb .append #[(t 84), (t 90)] #[25, 25]), u 13 (.assign (t 91))]
def r15_9 : List COp := [u 92 (.move (t 13)), u 93 (.move (t 1)), u 94 (.move (t 13)), u 95 (.move (t 1)), u 96 (.indexAddr 25 (t 94) (t 95)), u 97 (.fieldAddr 46 (t 96) 4), u 98 (.load 44 (t 97)), u 99 (.move (t 14)), u 100 (.buildSlice 44 1 #[(0, (t 99))]), u 101 (cb .append #[(t 98), (t 100)] #[44, 44]), u 102 (.indexAddr 25 (t 92) (t 93)), u 103 (.fieldAddr 46 (t 102) 4), o (.store 44 (t 103) (t 101))]
def r15_10 : List COp := [u 104 (.move (t 13)), u 105 (.move (t 1)), u 106 (.move (t 4)), u 107 (cf 24 #[(t 104), (t 105), (t 106)] #[25, 3, 3])]
def r15_11 : List COp := [u 108 (.move (t 13)), u 109 (.build 29 #[(0, (t 108))]), u 110 (.move (t 14)), o (.store 29 (t 10) (t 109)), u 11 (.assign (t 110))]
def correctorref10_Add (F : Nat) (a0 : correctorref10_Tree) (a1 : Int) (a2 : Int) (a3 : Int) (a4 : Int) : Option (correctorref10_Tree × Int) :=
  if a1 < (0 : Int) then
    some (a0, (-1))
  else
    if (a0.Nodes.length : Int) ≤ a1 then
      some (a0, (-1))
    else
      if a2 < (1 : Int) then
        some (a0, (-1))
      else
        if (11 : Int) < a2 then
          some (a0, (-1))
        else
          if a4 < a3 then
            some (a0, (-1))
          else
            if 0 ≤ (0 : Int) ∧ (0 : Int) < (a0.Nodes.length : Int) then
              (a0.Nodes[(0 : Int).toNat]?).bind fun x4178 =>
              if x4178.To < a4 then
                some (a0, (-1))
              else
                if 0 ≤ a1 ∧ a1 < (a0.Nodes.length : Int) then
                  (a0.Nodes[a1.toNat]?).bind fun x4192 =>
                  ((if a3 < x4192.From then
                      some (.inr (a0, (-1)))
                    else
                      if (0 : Int) < (x4192.Kids.length : Int) then
                        if 0 ≤ (w64 ((x4192.Kids.length : Int) - 1)) ∧ (w64 ((x4192.Kids.length : Int) - 1)) < (x4192.Kids.length : Int) then
                          (x4192.Kids[(w64 ((x4192.Kids.length : Int) - 1)).toNat]?).bind fun x4258 =>
                          if 0 ≤ x4258 ∧ x4258 < (a0.Nodes.length : Int) then
                            (a0.Nodes[x4258.toNat]?).bind fun x4265 =>
                            if a3 < x4265.To then
                              some (.inr (a0, (-1)))
                            else
                              some (.inl ())
                          else none
                        else none
                      else
                        some (.inl ())) : Option (Sum Unit (correctorref10_Tree × Int))).bind fun o => match o with
                    | .inl () => (correctorref10_copied F a0).bind fun r4284 =>
                    if r4284.length + [(⟨a2, a3, a4, a1, [], false⟩ : api_Node)].length ≤ 2199023255552 then
                      if 0 ≤ a1 ∧ a1 < ((r4284 ++ [(⟨a2, a3, a4, a1, [], false⟩ : api_Node)]).length : Int) then
                        ((r4284 ++ [(⟨a2, a3, a4, a1, [], false⟩ : api_Node)])[a1.toNat]?).bind fun x4318 =>
                        if x4318.Kids.length + ([(r4284.length : Int)] : List Int).length ≤ 17592186044416 then
                          if 0 ≤ a1 ∧ a1 < ((r4284 ++ [(⟨a2, a3, a4, a1, [], false⟩ : api_Node)]).length : Int) then
                            (correctorref10_reach F ((r4284 ++ [(⟨a2, a3, a4, a1, [], false⟩ : api_Node)]).set a1.toNat (⟨x4318.Kind, x4318.From, x4318.To, x4318.Up, x4318.Kids ++ ([(r4284.length : Int)] : List Int), x4318.Key⟩ : api_Node)) a1 a4).bind fun r4349 =>
                            some ((⟨r4349⟩ : correctorref10_Tree), (r4284.length : Int))
                          else none
                        else none
                      else none
                    else none
                    | .inr y => some y
                else none
            else none
theorem correctorref10_Add_ok (F : Nat) {h : AH} {Z : Zn} {a0 : correctorref10_Tree} {a1 : Int} {a2 : Int} {a3 : Int} {a4 : Int} {v3854 : Value} (hP : Pre Z h []) (q3853 : RS (α := api_Node) Z v3854 a0.Nodes) {r : correctorref10_Tree × Int} (hm : correctorref10_Add F a0 a1 a2 a3 a4 = some r) :
    ∃ v h' Z' A', callI Go.Proofs.Try.prog 15 [.agg #[v3854], V a1, V a2, V a3, V a4] h = some (v, h') ∧ St h (idsL []) Z (0, 0) Z' h' A' ∧ ∃ v4091 : Value, .tuple #[.agg #[v4091], V r.2] = v ∧ A' = [] ∧ RS (α := api_Node) Z' v4091 r.1.Nodes := by
  refine fn_intro (A := []) (Q := fun v Z' A' => ∃ v4091 : Value, .tuple #[.agg #[v4091], V r.2] = v ∧ A' = [] ∧ RS (α := api_Node) Z' v4091 r.1.Nodes) Go.Proofs.Try.func15 rfl rfl (by kernel_rfl) hP ?_
  intro hs hS
  unfold correctorref10_Add at hm
  replace hS : St hs [] Z (0, 0) Z hs [] := hS
  refine sr r15_0 ?_
  refine r_blk rfl trivial (o_box (cs := [v3854]) rfl rfl) hS ?_
  intro b4092 h4093 hS4094
  refine r_blk rfl trivial (o_alloc (cs := [.slice none 0 0]) (by kernel_rfl)) hS4094 ?_
  intro b4095 h4096 hS4097
  refine xe 1 [(10, Pt b4095 0), (5, Pt b4092 0), (1, V a1), (2, V a2), (3, V a3), (4, V a4)] ?_
  refine sq ?_
  refine sr r15_1 ?_
  refine xq 1 [(15, V a1), (10, Pt b4095 0), (5, Pt b4092 0), (1, V a1), (2, V a2), (3, V a3), (4, V a4)] ?_
  rcases ifs hm with ⟨hp4152, hm⟩ | ⟨hp4152, hm⟩
  refine r_step rfl trivial (o_cmp rfl rfl (c_lss_T hp4152)) ?_
  refine xe 29 [(45, .bool true), (10, Pt b4095 0), (5, Pt b4092 0), (1, V a1), (2, V a2), (3, V a3), (4, V a4)] ?_
  refine cT 45 rfl ?_
  refine sr r15_2 ?_
  refine r_step rfl trivial (o_ldb (v := .agg #[v3854]) hS4097 (i := 1) rfl rfl (by kernel_rfl)) ?_
  refine r_ex1 rfl trivial (o_stb (vs := [v3854]) (cells' := [v3854]) (L' := [.blk b4095 [v3854], .blk b4092 [v3854]]) hS4097 (i := 0) rfl rfl rfl rfl (by kernel_rfl) (one_cons (RS.one1 q3853) one_nil) rfl rfl rfl) ?_
  intro h4155 hS4156
  refine xe 1 [(11, V (-1)), (10, Pt b4095 0)] ?_
  refine rt ?_
  refine ⟨rfl, ?_⟩
  obtain rfl := Option.some.inj hm
  refine ⟨_, _, _, ResL.cell (v := .agg #[v3854]) rfl hS4156 (i := 0) rfl (by kernel_rfl) (ResL.tmp rfl (ResL.nil)), (hS4156.takeN 0), ?_⟩
  exact ⟨v3854, rfl, rfl, q3853⟩
  refine r_step rfl trivial (o_cmp rfl rfl (c_lss_F hp4152)) ?_
  refine xq 3 [(19, Pt b4092 0), (18, V a1), (17, .bool false), (10, Pt b4095 0), (5, Pt b4092 0), (1, V a1), (2, V a2), (3, V a3), (4, V a4)] ?_
  refine r_step rfl rfl (o_ldb (v := v3854) hS4097 (i := 1) rfl rfl (by kernel_rfl)) ?_
  refine r_step rfl rfl (o_len rfl (RS.len q3853) ⟨_, Go.Proofs.Try.underlying25⟩) ?_
  rcases ifs hm with ⟨hp4157, hm⟩ | ⟨hp4157, hm⟩
  refine r_step rfl rfl (o_cmp rfl rfl (c_geq_T hp4157)) ?_
  refine xe 23 [(45, .bool true), (10, Pt b4095 0), (5, Pt b4092 0), (1, V a1), (2, V a2), (3, V a3), (4, V a4)] ?_
  refine cT 45 rfl ?_
  refine sr r15_2 ?_
  refine r_step rfl trivial (o_ldb (v := .agg #[v3854]) hS4097 (i := 1) rfl rfl (by kernel_rfl)) ?_
  refine r_ex1 rfl trivial (o_stb (vs := [v3854]) (cells' := [v3854]) (L' := [.blk b4095 [v3854], .blk b4092 [v3854]]) hS4097 (i := 0) rfl rfl rfl rfl (by kernel_rfl) (one_cons (RS.one1 q3853) one_nil) rfl rfl rfl) ?_
  intro h4160 hS4161
  refine xe 1 [(11, V (-1)), (10, Pt b4095 0)] ?_
  refine rt ?_
  refine ⟨rfl, ?_⟩
  obtain rfl := Option.some.inj hm
  refine ⟨_, _, _, ResL.cell (v := .agg #[v3854]) rfl hS4161 (i := 0) rfl (by kernel_rfl) (ResL.tmp rfl (ResL.nil)), (hS4161.takeN 0), ?_⟩
  exact ⟨v3854, rfl, rfl, q3853⟩
  refine r_step rfl rfl (o_cmp rfl rfl (c_geq_F hp4157)) ?_
  refine xq 3 [(25, V a2), (24, .bool false), (10, Pt b4095 0), (5, Pt b4092 0), (1, V a1), (2, V a2), (3, V a3), (4, V a4)] ?_
  rcases ifs hm with ⟨hp4162, hm⟩ | ⟨hp4162, hm⟩
  refine r_step rfl rfl (o_cmp rfl rfl (c_lss_T hp4162)) ?_
  refine xe 19 [(45, .bool true), (10, Pt b4095 0), (5, Pt b4092 0), (1, V a1), (2, V a2), (3, V a3), (4, V a4)] ?_
  refine cT 45 rfl ?_
  refine sr r15_2 ?_
  refine r_step rfl trivial (o_ldb (v := .agg #[v3854]) hS4097 (i := 1) rfl rfl (by kernel_rfl)) ?_
  refine r_ex1 rfl trivial (o_stb (vs := [v3854]) (cells' := [v3854]) (L' := [.blk b4095 [v3854], .blk b4092 [v3854]]) hS4097 (i := 0) rfl rfl rfl rfl (by kernel_rfl) (one_cons (RS.one1 q3853) one_nil) rfl rfl rfl) ?_
  intro h4165 hS4166
  refine xe 1 [(11, V (-1)), (10, Pt b4095 0)] ?_
  refine rt ?_
  refine ⟨rfl, ?_⟩
  obtain rfl := Option.some.inj hm
  refine ⟨_, _, _, ResL.cell (v := .agg #[v3854]) rfl hS4166 (i := 0) rfl (by kernel_rfl) (ResL.tmp rfl (ResL.nil)), (hS4166.takeN 0), ?_⟩
  exact ⟨v3854, rfl, rfl, q3853⟩
  refine r_step rfl rfl (o_cmp rfl rfl (c_lss_F hp4162)) ?_
  refine xq 3 [(29, V a2), (28, .bool false), (10, Pt b4095 0), (5, Pt b4092 0), (1, V a1), (2, V a2), (3, V a3), (4, V a4)] ?_
  rcases ifs hm with ⟨hp4167, hm⟩ | ⟨hp4167, hm⟩
  refine r_step rfl rfl (o_cmp rfl rfl (c_gtr_T hp4167)) ?_
  refine xe 15 [(45, .bool true), (10, Pt b4095 0), (5, Pt b4092 0), (1, V a1), (2, V a2), (3, V a3), (4, V a4)] ?_
  refine cT 45 rfl ?_
  refine sr r15_2 ?_
  refine r_step rfl trivial (o_ldb (v := .agg #[v3854]) hS4097 (i := 1) rfl rfl (by kernel_rfl)) ?_
  refine r_ex1 rfl trivial (o_stb (vs := [v3854]) (cells' := [v3854]) (L' := [.blk b4095 [v3854], .blk b4092 [v3854]]) hS4097 (i := 0) rfl rfl rfl rfl (by kernel_rfl) (one_cons (RS.one1 q3853) one_nil) rfl rfl rfl) ?_
  intro h4170 hS4171
  refine xe 1 [(11, V (-1)), (10, Pt b4095 0)] ?_
  refine rt ?_
  refine ⟨rfl, ?_⟩
  obtain rfl := Option.some.inj hm
  refine ⟨_, _, _, ResL.cell (v := .agg #[v3854]) rfl hS4171 (i := 0) rfl (by kernel_rfl) (ResL.tmp rfl (ResL.nil)), (hS4171.takeN 0), ?_⟩
  exact ⟨v3854, rfl, rfl, q3853⟩
  refine r_step rfl rfl (o_cmp rfl rfl (c_gtr_F hp4167)) ?_
  refine xq 4 [(34, V a4), (33, V a3), (32, .bool false), (10, Pt b4095 0), (5, Pt b4092 0), (1, V a1), (2, V a2), (3, V a3), (4, V a4)] ?_
  rcases ifs hm with ⟨hp4172, hm⟩ | ⟨hp4172, hm⟩
  refine r_step rfl rfl (o_cmp rfl rfl (c_gtr_T hp4172)) ?_
  refine xe 10 [(45, .bool true), (10, Pt b4095 0), (5, Pt b4092 0), (1, V a1), (2, V a2), (3, V a3), (4, V a4)] ?_
  refine cT 45 rfl ?_
  refine sr r15_2 ?_
  refine r_step rfl trivial (o_ldb (v := .agg #[v3854]) hS4097 (i := 1) rfl rfl (by kernel_rfl)) ?_
  refine r_ex1 rfl trivial (o_stb (vs := [v3854]) (cells' := [v3854]) (L' := [.blk b4095 [v3854], .blk b4092 [v3854]]) hS4097 (i := 0) rfl rfl rfl rfl (by kernel_rfl) (one_cons (RS.one1 q3853) one_nil) rfl rfl rfl) ?_
  intro h4175 hS4176
  refine xe 1 [(11, V (-1)), (10, Pt b4095 0)] ?_
  refine rt ?_
  refine ⟨rfl, ?_⟩
  obtain rfl := Option.some.inj hm
  refine ⟨_, _, _, ResL.cell (v := .agg #[v3854]) rfl hS4176 (i := 0) rfl (by kernel_rfl) (ResL.tmp rfl (ResL.nil)), (hS4176.takeN 0), ?_⟩
  exact ⟨v3854, rfl, rfl, q3853⟩
  refine r_step rfl rfl (o_cmp rfl rfl (c_gtr_F hp4172)) ?_
  refine xq 4 [(39, Pt b4092 0), (38, V a4), (37, .bool false), (10, Pt b4095 0), (5, Pt b4092 0), (1, V a1), (2, V a2), (3, V a3), (4, V a4)] ?_
  refine r_step rfl rfl (o_ldb (v := v3854) hS4097 (i := 1) rfl rfl (by kernel_rfl)) ?_
  obtain ⟨hc4177, hm⟩ := chk hm
  refine r_step rfl rfl (o_index rfl rfl (by kernel_rfl : slTy _ _ = some (csz api_Node)) (RS.based q3853 (by omega)) hc4177.1 hc4177.2) ?_
  refine xq 1 [(42, .pointer (some (elemA v3854 0 (csz api_Node) 2))), (38, V a4), (37, .bool false), (10, Pt b4095 0), (5, Pt b4092 0), (1, V a1), (2, V a2), (3, V a3), (4, V a4)] ?_
  obtain ⟨x4178, hx4179, hm⟩ := obind hm
  obtain ⟨cs4180, hc4181, he4182⟩ := RS.elz q3853 (i := 0) hx4179
  obtain ⟨v4184, q4185, rfl⟩ := rc_api_Node hc4181
  refine r_step rfl rfl (o_lde (w := V x4178.To) (he4182 _ (hS4097.zin0 (Zle.refl _))) rfl (by kernel_rfl)) ?_
  rcases ifs hm with ⟨hp4186, hm⟩ | ⟨hp4186, hm⟩
  refine r_step rfl rfl (o_cmp rfl rfl (c_gtr_T hp4186)) ?_
  refine xe 1 [(45, .bool true), (10, Pt b4095 0), (5, Pt b4092 0), (1, V a1), (2, V a2), (3, V a3), (4, V a4)] ?_
  refine cT 45 rfl ?_
  refine sr r15_2 ?_
  refine r_step rfl trivial (o_ldb (v := .agg #[v3854]) hS4097 (i := 1) rfl rfl (by kernel_rfl)) ?_
  refine r_ex1 rfl trivial (o_stb (vs := [v3854]) (cells' := [v3854]) (L' := [.blk b4095 [v3854], .blk b4092 [v3854]]) hS4097 (i := 0) rfl rfl rfl rfl (by kernel_rfl) (one_cons (RS.one1 q3853) one_nil) rfl rfl rfl) ?_
  intro h4189 hS4190
  refine xe 1 [(11, V (-1)), (10, Pt b4095 0)] ?_
  refine rt ?_
  refine ⟨rfl, ?_⟩
  obtain rfl := Option.some.inj hm
  refine ⟨_, _, _, ResL.cell (v := .agg #[v3854]) rfl hS4190 (i := 0) rfl (by kernel_rfl) (ResL.tmp rfl (ResL.nil)), (hS4190.takeN 0), ?_⟩
  exact ⟨v3854, rfl, rfl, q3853⟩
  refine r_step rfl rfl (o_cmp rfl rfl (c_gtr_F hp4186)) ?_
  refine xe 1 [(45, .bool false), (10, Pt b4095 0), (5, Pt b4092 0), (1, V a1), (2, V a2), (3, V a3), (4, V a4)] ?_
  refine kF 45 rfl ?_
  refine sr r15_3 ?_
  refine xq 1 [(47, Pt b4092 0), (10, Pt b4095 0), (5, Pt b4092 0), (1, V a1), (2, V a2), (3, V a3), (4, V a4)] ?_
  refine r_step rfl trivial (o_ldb (v := v3854) hS4097 (i := 1) rfl rfl (by kernel_rfl)) ?_
  refine xq 1 [(49, V a1), (48, v3854), (10, Pt b4095 0), (5, Pt b4092 0), (1, V a1), (2, V a2), (3, V a3), (4, V a4)] ?_
  obtain ⟨hc4191, hm⟩ := chk hm
  refine r_step rfl trivial (o_index rfl rfl (by kernel_rfl : slTy _ _ = some (csz api_Node)) (RS.based q3853 (by omega)) hc4191.1 hc4191.2) ?_
  obtain ⟨x4192, hx4193, hm⟩ := obind hm
  obtain ⟨cs4194, hc4195, he4196⟩ := RS.elz q3853 (i := a1) hx4193
  obtain ⟨v4198, q4199, rfl⟩ := rc_api_Node hc4195
  refine r_step rfl trivial (o_lde (w := .agg #[V x4192.Kind, V x4192.From, V x4192.To, V x4192.Up, v4198, .bool x4192.Key]) (he4196 _ (hS4097.zin0 (Zle.refl _))) rfl (by kernel_rfl)) ?_
  refine r_blk rfl trivial (o_alloc (cs := [V 0, V 0, V 0, V 0, .slice none 0 0, .bool false]) (by kernel_rfl)) hS4097 ?_
  intro b4200 h4201 hS4202
  refine r_ex1 rfl trivial (o_stb (vs := [V x4192.Kind, V x4192.From, V x4192.To, V x4192.Up, v4198, .bool x4192.Key]) (cells' := (K46 v4198 x4192)) (L' := [.blk b4200 (K46 v4198 x4192), .blk b4095 [.slice none 0 0], .blk b4092 [v3854]]) hS4202 (i := 0) rfl rfl rfl rfl (by kernel_rfl) (one_cons rfl (one_cons rfl (one_cons rfl (one_cons rfl (one_cons (RS.one1 q4199) (one_cons rfl one_nil)))))) rfl rfl rfl) ?_
  intro h4203 hS4204
  refine xf [(12, Pt b4200 0), (10, Pt b4095 0), (5, Pt b4092 0), (1, V a1), (2, V a2), (3, V a3), (4, V a4)] ?_
  refine sq ?_
  obtain ⟨o4242, ho4241, hm⟩ := obind hm
  refine W_join [1, 2, 3, 4, 5, 10] (fun l h => ∃ Z4279 : Zn, ∃ b4280 : Nat, ∃ b4281 : Nat, .inl () = o4242 ∧ l = [(1, V a1), (2, V a2), (3, V a3), (4, V a4), (5, Pt b4280 0), (10, Pt b4281 0)] ∧ St hs [] Z (0, 0) Z4279 h [.blk b4280 [v3854], .blk b4281 [.slice none 0 0]]) ?_ ?_
  rintro l h4282 ⟨Z4279, b4280, b4281, rfl, rfl, hS4283⟩
  try dsimp only at hm
  refine sr r15_6 ?_
  refine r_step rfl trivial (o_ldb (v := .agg #[v3854]) hS4283 (i := 0) rfl rfl (by kernel_rfl)) ?_
  obtain ⟨r4284, hx4285, hm⟩ := obind hm
  have hSr4291 : St _ _ _ _ _ _ ([] ++ [.blk b4280 [v3854], .blk b4281 [.slice none 0 0]]) := hS4283
  obtain ⟨v4286, h4287, Z4292, A4294, hcl4288, hSc4289, v4296, c4297, ks4298, rfl, rfl, q4295⟩ := correctorref10_copied_ok F hSr4291.preL (q3853.mono hS4283.zle) hx4285
  have hS4290 := hSr4291.call hSc4289
  have hZ4293 := hSc4289.zle
  replace hS4290 : St _ _ _ _ _ _ [.gs v4296 c4297 (csz api_Node), .grp ks4298, .blk b4280 [v3854], .blk b4281 [.slice none 0 0]] := hS4290
  refine r_step rfl trivial (o_call hcl4288 rfl rfl rfl) ?_
  refine xe 1 [(13, v4296), (1, V a1), (2, V a2), (3, V a3), (4, V a4), (10, Pt b4281 0)] ?_
  refine sr r15_7 ?_
  refine xq 1 [(82, v4296), (13, v4296), (1, V a1), (2, V a2), (3, V a3), (4, V a4), (10, Pt b4281 0)] ?_
  refine r_step rfl trivial (o_len rfl (hS4290.dlen (i := 0) rfl (q4295).raw) ⟨_, Go.Proofs.Try.underlying25⟩) ?_
  refine xe 1 [(14, V (r4284.length : Int)), (13, v4296), (1, V a1), (2, V a2), (3, V a3), (4, V a4), (10, Pt b4281 0)] ?_
  refine sr r15_8 ?_
  refine xq 6 [(89, .agg #[V a2, V a3, V a4, V a1, .slice none 0 0, .bool false]), (84, v4296), (14, V (r4284.length : Int)), (13, v4296), (1, V a1), (4, V a4), (10, Pt b4281 0)] ?_
  refine r_row rfl trivial (o_bs (cells := [V a2, V a3, V a4, V a1, .slice none 0 0, .bool false]) (s := 6) (by kernel_rfl)) (by kernel_rfl) hS4290 ?_
  intro v4299 h4300 hS4301
  have hS4306 := hS4301.grpNil.front 1 rfl
  have q4302 : RD (α := api_Node) Z4292 [V a2, V a3, V a4, V a1, .slice none 0 0, .bool false] [(⟨a2, a3, a4, a1, [], false⟩ : api_Node)] [] := RD.one (show DCell.drc _ _ _ from rfl) rfl OwnR.nil
  have hS4307 : St _ _ _ _ _ _ [.gs v4299 [V a2, V a3, V a4, V a1, .slice none 0 0, .bool false] (csz api_Node), .grp [], .gs v4296 c4297 (csz api_Node), .grp ks4298, .blk b4280 [v3854], .blk b4281 [.slice none 0 0]] := hS4306
  obtain ⟨hc4309, hm⟩ := chk hm
  have hF4310 : St _ _ _ _ _ _ [.gs v4296 c4297 (csz api_Node), .grp ks4298, .gs v4299 [V a2, V a3, V a4, V a1, .slice none 0 0, .bool false] (csz api_Node), .grp [], .blk b4280 [v3854], .blk b4281 [.slice none 0 0]] := ((((hS4307.front 1 rfl).front 1 rfl).front 3 rfl).front 3 rfl)
  refine r_ex3 rfl trivial (o_appD (by_ := 64) hF4310 q4295 q4302 rfl rfl (by kernel_rfl) (by omega) (by omega)) ?_
  rintro v4311 c4312 h4313 ⟨q4315, hS4314⟩
  replace hS4314 : St _ _ _ _ _ _ [.gs v4311 c4312 (csz api_Node), .grp (ks4298 ++ []), .blk b4280 [v3854], .blk b4281 [.slice none 0 0]] := hS4314
  refine xe 1 [(13, v4311), (14, V (r4284.length : Int)), (1, V a1), (4, V a4), (10, Pt b4281 0)] ?_
  refine sr r15_9 ?_
  refine xq 4 [(95, V a1), (94, v4311), (93, V a1), (92, v4311), (13, v4311), (14, V (r4284.length : Int)), (1, V a1), (4, V a4), (10, Pt b4281 0)] ?_
  obtain ⟨hc4317, hm⟩ := chk hm
  refine r_step rfl trivial (o_index rfl rfl (by kernel_rfl : slTy _ _ = some (csz api_Node)) (hS4314.dbased (i := 0) rfl (q4315).raw (by omega)) hc4317.1 hc4317.2) ?_
  refine xq 1 [(97, .pointer (some (elemA v4311 a1 (csz api_Node) 4))), (93, V a1), (92, v4311), (13, v4311), (14, V (r4284.length : Int)), (1, V a1), (4, V a4), (10, Pt b4281 0)] ?_
  obtain ⟨x4318, hx4319, hm⟩ := obind hm
  have hF4320 : St _ _ _ _ _ _ [.gs v4311 c4312 (csz api_Node), .grp (ks4298 ++ []), .blk b4280 [v3854], .blk b4281 [.slice none 0 0]] := ((hS4314.front 1 rfl).front 1 rfl)
  obtain ⟨v4321, cs4322, c4323, ks4324, hd4325, he4326, q4327, hH4328, hS4329⟩ := hF4320.dtake q4315 (i := a1) hx4319
  obtain rfl := drc_api_Node hd4325
  replace q4327 : RCs (α := Int) Z4292 c4323 x4318.Kids := q4327
  replace hS4329 : St _ _ _ _ _ _ [.gs v4321 c4323 (csz Int), .gs v4311 c4312 (csz api_Node), .grp ks4324, .blk b4280 [v3854], .blk b4281 [.slice none 0 0]] := hS4329
  refine r_step rfl trivial (o_lde (w := v4321) he4326 rfl (by kernel_rfl)) ?_
  refine xq 1 [(99, V (r4284.length : Int)), (98, v4321), (93, V a1), (92, v4311), (13, v4311), (14, V (r4284.length : Int)), (1, V a1), (4, V a4), (10, Pt b4281 0)] ?_
  have q4333 : RCs (α := Int) Z4292 [V (r4284.length : Int)] ([(r4284.length : Int)] : List Int) := RCs.cons (cs := [V (r4284.length : Int)]) rfl (RCs.nil0 _)
  refine r_row rfl trivial (o_bs (cells := [V (r4284.length : Int)]) (s := 1) (by kernel_rfl)) (by kernel_rfl) hS4329 ?_
  intro v4330 h4331 hS4332
  replace hS4332 : St _ _ _ _ _ _ [.gs v4330 [V (r4284.length : Int)] (csz Int), .gs v4321 c4323 (csz Int), .gs v4311 c4312 (csz api_Node), .grp ks4324, .blk b4280 [v3854], .blk b4281 [.slice none 0 0]] := hS4332
  obtain ⟨hc4341, hm⟩ := chk hm
  refine r_ex3 rfl trivial (o_app (ys := ([(r4284.length : Int)] : List Int)) (by_ := 8) hS4332 (i := 1) rfl q4327 ((hS4332).gnews (j := 0) rfl q4333) rfl rfl (by kernel_rfl) (by omega) (by omega)) ?_
  rintro v4336 c4337 h4338 ⟨q4340, hS4339⟩
  replace hS4339 : St _ _ _ _ _ _ [.gs v4330 [V (r4284.length : Int)] (csz Int), .gs v4336 c4337 (csz Int), .gs v4311 c4312 (csz api_Node), .grp ks4324, .blk b4280 [v3854], .blk b4281 [.slice none 0 0]] := hS4339
  obtain ⟨hc4342, hm⟩ := chk hm
  refine r_step rfl trivial (o_index rfl rfl (by kernel_rfl : slTy _ _ = some (csz api_Node)) (hS4339.dbased (i := 2) rfl (hH4328).raw (by omega)) hc4342.1 hc4342.2) ?_
  refine xq 1 [(103, .pointer (some (elemA v4311 a1 (csz api_Node) 4))), (101, v4336), (13, v4311), (14, V (r4284.length : Int)), (1, V a1), (4, V a4), (10, Pt b4281 0)] ?_
  have hF4343 : St _ _ _ _ _ _ [.gs v4336 c4337 (csz Int), .gs v4311 c4312 (csz api_Node), .grp ks4324, .gs v4330 [V (r4284.length : Int)] (csz Int), .blk b4280 [v3854], .blk b4281 [.slice none 0 0]] := (((hS4339.front 3 rfl).front 3 rfl).front 3 rfl)
  refine r_ex4 rfl trivial (o_dput (z' := (⟨x4318.Kind, x4318.From, x4318.To, x4318.Up, x4318.Kids ++ ([(r4284.length : Int)] : List Int), x4318.Key⟩ : api_Node)) hF4343 hH4328 q4340 hx4319 rfl rfl (by kernel_rfl) (by kernel_rfl) hd4325 rfl (show DCell.drc _ _ _ from rfl) rfl) ?_
  rintro h4344 c4345 ks4346 ⟨q4347, hS4348⟩
  replace hS4348 : St _ _ _ _ _ _ [.gs v4311 c4345 (csz api_Node), .grp ks4346, .gs v4330 [V (r4284.length : Int)] (csz Int), .blk b4280 [v3854], .blk b4281 [.slice none 0 0]] := hS4348
  refine xf [(13, v4311), (14, V (r4284.length : Int)), (1, V a1), (4, V a4), (10, Pt b4281 0)] ?_
  refine sr r15_10 ?_
  refine xq 3 [(106, V a4), (105, V a1), (104, v4311), (13, v4311), (14, V (r4284.length : Int)), (10, Pt b4281 0)] ?_
  obtain ⟨r4349, hx4350, hm⟩ := obind hm
  have hF4356 : St _ _ _ _ _ _ ([.gs v4311 c4345 (csz api_Node), .grp ks4346] ++ [.gs v4330 [V (r4284.length : Int)] (csz Int), .blk b4280 [v3854], .blk b4281 [.slice none 0 0]]) := ((hS4348.front 1 rfl).front 1 rfl)
  obtain ⟨v4351, h4352, Z4357, A4359, hcl4353, hSc4354, c4361, ks4362, rfl, rfl, q4360⟩ := correctorref10_reach_ok F hF4356.preL q4347 hx4350
  have hZ4358 := hSc4354.zle
  have hS4355 := hF4356.call hSc4354
  replace hS4355 : St _ _ _ _ _ _ [.gs v4311 c4361 (csz api_Node), .grp ks4362, .gs v4330 [V (r4284.length : Int)] (csz Int), .blk b4280 [v3854], .blk b4281 [.slice none 0 0]] := hS4355
  refine r_step rfl trivial (o_call hcl4353 rfl rfl rfl) ?_
  refine xf [(13, v4311), (14, V (r4284.length : Int)), (10, Pt b4281 0)] ?_
  refine sr r15_11 ?_
  refine xq 1 [(108, v4311), (14, V (r4284.length : Int)), (10, Pt b4281 0)] ?_
  refine r_step rfl trivial (o_build (v := .agg #[v4311]) rfl (CA.cons (cs := [v4311]) (hS4355.gcell1 (i := 0) rfl) (CA.nil0)) (by kernel_rfl)) ?_
  refine xq 1 [(110, V (r4284.length : Int)), (109, .agg #[v4311]), (10, Pt b4281 0)] ?_
  refine r_ex1 rfl trivial (o_stb (vs := [v4311]) (cells' := [v4311]) (L' := [.gs v4311 c4361 (csz api_Node), .grp ks4362, .gs v4330 [V (r4284.length : Int)] (csz Int), .blk b4280 [v3854], .blk b4281 [v4311]]) hS4355 (i := 4) rfl rfl rfl rfl (by kernel_rfl) (one_cons (hS4355.gone1 (i := 0) rfl) one_nil) rfl rfl rfl) ?_
  intro h4363 hS4364
  refine xe 1 [(11, V (r4284.length : Int)), (10, Pt b4281 0)] ?_
  refine rt ?_
  refine ⟨rfl, ?_⟩
  have hF4369 : St _ _ _ _ _ _ [.gs v4311 c4361 (csz api_Node), .grp ks4362, .gs v4330 [V (r4284.length : Int)] (csz Int), .blk b4280 [v3854], .blk b4281 [v4311]] := ((hS4364.front 1 rfl).front 1 rfl)
  obtain ⟨Z4365, hZ4366, q4367, hS4368⟩ := hF4369.shallow q4360
  replace hS4368 : St _ _ _ _ _ _ [.gs v4311 c4361 (csz api_Node), .gs v4330 [V (r4284.length : Int)] (csz Int), .blk b4280 [v3854], .blk b4281 [v4311]] := hS4368
  obtain ⟨Z4370, hZ4371, q4372, hS4373⟩ := (hS4368.front 0 rfl).freeze q4367
  replace hS4373 : St _ _ _ _ _ _ [.gs v4330 [V (r4284.length : Int)] (csz Int), .blk b4280 [v3854], .blk b4281 [v4311]] := hS4373
  obtain rfl := Option.some.inj hm
  refine ⟨_, _, _, ResL.cell (v := .agg #[v4311]) rfl hS4373 (i := 2) rfl (by kernel_rfl) (ResL.tmp rfl (ResL.nil)), (hS4373.takeN 0), ?_⟩
  exact ⟨v4311, rfl, rfl, q4372⟩
  refine srF r15_4 hS4204 ?_
  intro bs4243 h4244 hlv4246 hS4245
  refine yq 2 [(53, Pt b4200 1), (52, V a3), (12, Pt b4200 0), (10, Pt b4095 0), (5, Pt b4092 0), (1, V a1), (2, V a2), (3, V a3), (4, V a4)] ?_
  have lt4247 : b4200 < bs4243 := hlv4246.1 _ (List.mem_of_getElem? (i := 0) rfl) _ (by simp [Itm.ids])
  refine e_lookB rfl trivial rfl (by show b4200 < _; omega) (same1 (v := V x4192.From) trivial) (o_ldb (v := V x4192.From) hS4245 (i := 0) rfl rfl (by kernel_rfl)) trivial ?_
  rcases ifs ho4241 with ⟨hp4248, ho4241⟩ | ⟨hp4248, ho4241⟩
  refine e_val rfl trivial (o_cmp rfl rfl (c_lss_T hp4248)) ?_
  refine ye 23 [(78, .bool true), (10, Pt b4095 0), (5, Pt b4092 0), (1, V a1), (2, V a2), (3, V a3), (4, V a4)] ?_
  have hS4249 := hS4245.unres
  refine cT 78 rfl ?_
  refine sr r15_5 ?_
  refine r_step rfl trivial (o_ldb (v := .agg #[v3854]) hS4249 (i := 2) rfl rfl (by kernel_rfl)) ?_
  refine r_ex1 rfl trivial (o_stb (vs := [v3854]) (cells' := [v3854]) (L' := [.blk b4200 (K46 v4198 x4192), .blk b4095 [v3854], .blk b4092 [v3854]]) hS4249 (i := 1) rfl rfl rfl rfl (by kernel_rfl) (one_cons (RS.one1 q3853) one_nil) rfl rfl rfl) ?_
  intro h4250 hS4251
  refine xe 1 [(11, V (-1)), (10, Pt b4095 0)] ?_
  refine rt ?_
  refine ⟨rfl, ?_⟩
  obtain rfl := Option.some.inj ho4241
  obtain rfl := Option.some.inj hm
  refine ⟨_, _, _, ResL.cell (v := .agg #[v3854]) rfl hS4251 (i := 1) rfl (by kernel_rfl) (ResL.tmp rfl (ResL.nil)), (hS4251.takeN 0), ?_⟩
  exact ⟨v3854, rfl, rfl, q3853⟩
  refine e_val rfl trivial (o_cmp rfl rfl (c_lss_F hp4248)) ?_
  refine yq 2 [(57, Pt b4200 4), (56, .bool false), (12, Pt b4200 0), (10, Pt b4095 0), (5, Pt b4092 0), (1, V a1), (2, V a2), (3, V a3), (4, V a4)] ?_
  have lt4252 : b4200 < bs4243 := hlv4246.1 _ (List.mem_of_getElem? (i := 0) rfl) _ (by simp [Itm.ids])
  refine e_lookB rfl rfl rfl (by show b4200 < _; omega) (same1 (v := v4198) (RS.sim1 q4199)) (o_ldb (v := v4198) hS4245 (i := 0) rfl rfl (by kernel_rfl)) trivial ?_
  refine e_val rfl rfl (o_len rfl (RS.len q4199) ⟨_, Go.Proofs.Try.underlying44⟩) ?_
  rcases ifs ho4241 with ⟨hp4253, ho4241⟩ | ⟨hp4253, ho4241⟩
  refine e_val rfl rfl (o_cmp rfl rfl (c_gtr_T hp4253)) ?_
  refine yq 3 [(63, Pt b4092 0), (62, V a3), (61, .bool true), (56, .bool false), (12, Pt b4200 0), (10, Pt b4095 0), (5, Pt b4092 0), (1, V a1), (2, V a2), (3, V a3), (4, V a4)] ?_
  have lt4254 : b4092 < bs4243 := hlv4246.1 _ (List.mem_of_getElem? (i := 2) rfl) _ (by simp [Itm.ids])
  refine e_lookB rfl rfl rfl (by show b4092 < _; omega) (same1 (v := v3854) (RS.sim1 q3853)) (o_ldb (v := v3854) hS4245 (i := 2) rfl rfl (by kernel_rfl)) trivial ?_
  refine yq 1 [(65, Pt b4200 4), (64, v3854), (62, V a3), (61, .bool true), (56, .bool false), (12, Pt b4200 0), (10, Pt b4095 0), (5, Pt b4092 0), (1, V a1), (2, V a2), (3, V a3), (4, V a4)] ?_
  have lt4255 : b4200 < bs4243 := hlv4246.1 _ (List.mem_of_getElem? (i := 0) rfl) _ (by simp [Itm.ids])
  refine e_lookB rfl rfl rfl (by show b4200 < _; omega) (same1 (v := v4198) (RS.sim1 q4199)) (o_ldb (v := v4198) hS4245 (i := 0) rfl rfl (by kernel_rfl)) trivial ?_
  refine yq 1 [(67, Pt b4200 4), (66, v4198), (64, v3854), (62, V a3), (61, .bool true), (56, .bool false), (10, Pt b4095 0), (5, Pt b4092 0), (1, V a1), (2, V a2), (3, V a3), (4, V a4)] ?_
  have lt4256 : b4200 < bs4243 := hlv4246.1 _ (List.mem_of_getElem? (i := 0) rfl) _ (by simp [Itm.ids])
  refine e_lookB rfl rfl rfl (by show b4200 < _; omega) (same1 (v := v4198) (RS.sim1 q4199)) (o_ldb (v := v4198) hS4245 (i := 0) rfl rfl (by kernel_rfl)) trivial ?_
  refine e_val rfl rfl (o_len rfl (RS.len q4199) ⟨_, Go.Proofs.Try.underlying44⟩) ?_
  refine yq 1 [(70, V (w64 ((x4192.Kids.length : Int) - 1))), (66, v4198), (64, v3854), (62, V a3), (61, .bool true), (56, .bool false), (10, Pt b4095 0), (5, Pt b4092 0), (1, V a1), (2, V a2), (3, V a3), (4, V a4)] ?_
  obtain ⟨hc4257, ho4241⟩ := chk ho4241
  refine e_val rfl rfl (o_index rfl rfl (by kernel_rfl : slTy _ _ = some (csz Int)) (RS.based q4199 (by omega)) hc4257.1 hc4257.2) ?_
  obtain ⟨x4258, hx4259, ho4241⟩ := obind ho4241
  obtain ⟨cs4260, hc4261, he4262⟩ := RS.elz q4199 (i := w64 ((x4192.Kids.length : Int) - 1)) hx4259
  obtain rfl := rc_Int hc4261
  refine e_lookZ rfl rfl rfl (fun h2 hz => o_lde (w := V x4258) (he4262 h2 hz) rfl (by kernel_rfl)) (hS4245.zin0 (Zle.refl _)) (same1 (v := V x4258) trivial) trivial ?_
  obtain ⟨hc4264, ho4241⟩ := chk ho4241
  refine e_val rfl rfl (o_index rfl rfl (by kernel_rfl : slTy _ _ = some (csz api_Node)) (RS.based q3853 (by omega)) hc4264.1 hc4264.2) ?_
  refine yq 1 [(74, .pointer (some (elemA v3854 x4258 (csz api_Node) 2))), (62, V a3), (61, .bool true), (56, .bool false), (10, Pt b4095 0), (5, Pt b4092 0), (1, V a1), (2, V a2), (3, V a3), (4, V a4)] ?_
  obtain ⟨x4265, hx4266, ho4241⟩ := obind ho4241
  obtain ⟨cs4267, hc4268, he4269⟩ := RS.elz q3853 (i := x4258) hx4266
  obtain ⟨v4271, q4272, rfl⟩ := rc_api_Node hc4268
  refine e_lookZ rfl rfl rfl (fun h2 hz => o_lde (w := V x4265.To) (he4269 h2 hz) rfl (by kernel_rfl)) (hS4245.zin0 (Zle.refl _)) (same1 (v := V x4265.To) trivial) trivial ?_
  rcases ifs ho4241 with ⟨hp4273, ho4241⟩ | ⟨hp4273, ho4241⟩
  refine e_val rfl rfl (o_cmp rfl rfl (c_lss_T hp4273)) ?_
  refine ye 2 [(78, .bool true), (10, Pt b4095 0), (5, Pt b4092 0), (1, V a1), (2, V a2), (3, V a3), (4, V a4)] ?_
  have hS4274 := hS4245.unres
  refine cT 78 rfl ?_
  refine sr r15_5 ?_
  refine r_step rfl trivial (o_ldb (v := .agg #[v3854]) hS4274 (i := 2) rfl rfl (by kernel_rfl)) ?_
  refine r_ex1 rfl trivial (o_stb (vs := [v3854]) (cells' := [v3854]) (L' := [.blk b4200 (K46 v4198 x4192), .blk b4095 [v3854], .blk b4092 [v3854]]) hS4274 (i := 1) rfl rfl rfl rfl (by kernel_rfl) (one_cons (RS.one1 q3853) one_nil) rfl rfl rfl) ?_
  intro h4275 hS4276
  refine xe 1 [(11, V (-1)), (10, Pt b4095 0)] ?_
  refine rt ?_
  refine ⟨rfl, ?_⟩
  obtain rfl := Option.some.inj ho4241
  obtain rfl := Option.some.inj hm
  refine ⟨_, _, _, ResL.cell (v := .agg #[v3854]) rfl hS4276 (i := 1) rfl (by kernel_rfl) (ResL.tmp rfl (ResL.nil)), (hS4276.takeN 0), ?_⟩
  exact ⟨v3854, rfl, rfl, q3853⟩
  refine e_val rfl rfl (o_cmp rfl rfl (c_lss_F hp4273)) ?_
  refine ye 2 [(78, .bool false), (10, Pt b4095 0), (5, Pt b4092 0), (1, V a1), (2, V a2), (3, V a3), (4, V a4)] ?_
  have hS4277 := hS4245.unres
  refine kF 78 rfl ?_
  obtain rfl := Option.some.inj ho4241
  exact ⟨_, b4092, b4095, rfl, rfl, (((hS4277.front 1 rfl).front 2 rfl).takeN 2)⟩
  refine e_val rfl rfl (o_cmp rfl rfl (c_gtr_F hp4253)) ?_
  refine ye 18 [(78, .bool false), (10, Pt b4095 0), (5, Pt b4092 0), (1, V a1), (2, V a2), (3, V a3), (4, V a4)] ?_
  have hS4278 := hS4245.unres
  refine kF 78 rfl ?_
  obtain rfl := Option.some.inj ho4241
  exact ⟨_, b4092, b4095, rfl, rfl, (((hS4278.front 1 rfl).front 2 rfl).takeN 2)⟩

def r17_0 : List COp := [u 2 (.box 29 (t 0)), u 3 (.box 29 (t 1)), u 4 (.assign (.const (.bool false)))]
def r17_1 : List COp := [u 9 (.fieldAddr 29 (t 2) 0), u 10 (.load 25 (t 9)), u 11 (cb .len #[(t 10)] #[25]), u 12 (.fieldAddr 29 (t 3) 0), u 13 (.load 25 (t 12)), u 14 (cb .len #[(t 13)] #[25]), u 15 (.binOp .neq 3 (t 11) (t 14) 3)]
def r17_2 : List COp := [u 4 (.assign (.const (.bool false)))]
def r17_3 : List COp := [u 5 (.assign (ci 0))]
def r17_4 : List COp := [u 16 (.move (t 5)), u 17 (.fieldAddr 29 (t 2) 0), u 18 (.load 25 (t 17)), u 19 (cb .len #[(t 18)] #[25]), u 20 (.binOp .lss 3 (t 16) (t 19) 3)]
def r17_5 : List COp := [u 21 (.move (t 5)), u 22 (.binOp .add 3 (t 21) (ci 1) 3), u 5 (.assign (t 22))]
def r17_6 : List COpF := [uF 23 (.fieldAddr 29 (t 2) 0) .pure [], uF 24 (.load 25 (t 23)) .look [], uF 25 (.move (t 5)) .pure [], uF 26 (.indexAddr 25 (t 24) (t 25)) .pure [], uF 27 (.load 46 (t 26)) .look [], uF 28 (.fieldAddr 29 (t 3) 0) .pure [], uF 29 (.load 25 (t 28)) .look [], uF 30 (.move (t 5)) .pure [], uF 31 (.indexAddr 25 (t 29) (t 30)) .pure [], uF 32 (.load 46 (t 31)) .look [], uF 6 (.alloc 46) .fresh [], uF 7 (.alloc 46) .fresh [], oF (.store 46 (t 6) (t 27)) .make [1, 4], oF (.store 46 (t 7) (t 32)) .make [1, 4, 6, 9]]
def r17_7 : List COp := [u 33 (.fieldAddr 46 (t 6) 0), u 34 (.load 3 (t 33)), u 35 (.fieldAddr 46 (t 7) 0), u 36 (.load 3 (t 35)), u 37 (.binOp .neq 3 (t 34) (t 36) 3), u 38 (.move (t 37)), gN 38 (some 39) (.fieldAddr 46 (t 6) 1), gN 38 (some 40) (.load 3 (t 39)), gN 38 (some 41) (.fieldAddr 46 (t 7) 1), gN 38 (some 42) (.load 3 (t 41)), gN 38 (some 43) (.binOp .neq 3 (t 40) (t 42) 3), u 44 (.pick (t 38) (.const (.bool true)) (t 43)), u 45 (.move (t 44)), gN 45 (some 46) (.fieldAddr 46 (t 6) 2), gN 45 (some 47) (.load 3 (t 46)), gN 45 (some 48) (.fieldAddr 46 (t 7) 2), gN 45 (some 49) (.load 3 (t 48)), gN 45 (some 50) (.binOp .neq 3 (t 47) (t 49) 3), u 51 (.pick (t 45) (.const (.bool true)) (t 50)), u 52 (.move (t 51)), gN 52 (some 53) (.fieldAddr 46 (t 6) 3), gN 52 (some 54) (.load 3 (t 53)), gN 52 (some 55) (.fieldAddr 46 (t 7) 3), gN 52 (some 56) (.load 3 (t 55)), gN 52 (some 57) (.binOp .neq 3 (t 54) (t 56) 3), u 58 (.pick (t 52) (.const (.bool true)) (t 57)), u 59 (.move (t 58)), gN 59 (some 60) (.fieldAddr 46 (t 6) 5), gN 59 (some 61) (.load 4 (t 60)), gN 59 (some 62) (.fieldAddr 46 (t 7) 5), gN 59 (some 63) (.load 4 (t 62)), gN 59 (some 64) (.binOp .neq 4 (t 61) (t 63) 4), u 65 (.pick (t 59) (.const (.bool true)) (t 64)), u 66 (.move (t 65)), gN 66 (some 67) (.fieldAddr 46 (t 6) 4), gN 66 (some 68) (.load 44 (t 67)), gN 66 (some 69) (cb .len #[(t 68)] #[44]), gN 66 (some 70) (.fieldAddr 46 (t 7) 4), gN 66 (some 71) (.load 44 (t 70)), gN 66 (some 72) (cb .len #[(t 71)] #[44]), gN 66 (some 73) (.binOp .neq 3 (t 69) (t 72) 3), u 74 (.pick (t 66) (.const (.bool true)) (t 73))]
def r17_8 : List COp := [u 4 (.assign (.const (.bool false)))]
def r17_9 : List COp := [u 8 (.assign (ci 0))]
def r17_10 : List COp := [u 75 (.move (t 8)), u 76 (.fieldAddr 46 (t 6) 4), u 77 (.load 44 (t 76)), u 78 (cb .len #[(t 77)] #[44]), u 79 (.binOp .lss 3 (t 75) (t 78) 3)]
def r17_11 : List COp := [u 80 (.move (t 8)), u 81 (.binOp .add 3 (t 80) (ci 1) 3), u 8 (.assign (t 81))]
def r17_12 : List COpF := [uF 82 (.fieldAddr 46 (t 6) 4) .pure [], uF 83 (.load 44 (t 82)) .look [], uF 84 (.move (t 8)) .pure [], uF 85 (.indexAddr 44 (t 83) (t 84)) .pure [], uF 86 (.load 3 (t 85)) .look [], uF 87 (.fieldAddr 46 (t 7) 4) .pure [], uF 88 (.load 44 (t 87)) .look [], uF 89 (.move (t 8)) .pure [], uF 90 (.indexAddr 44 (t 88) (t 89)) .pure [], uF 91 (.load 3 (t 90)) .look [], uF 92 (.binOp .neq 3 (t 86) (t 91) 3) .pure []]
def r17_13 : List COp := [u 4 (.assign (.const (.bool false)))]
def r17_14 : List COp := [u 4 (.assign (.const (.bool true)))]
def correctorref10_Same_l1 (F : Nat) (a0 : correctorref10_Tree) (a1 : correctorref10_Tree) : Nat → Int → api_Node → api_Node → Int → Option (Sum Int Bool)
  | 0, _, _, _, _ => none
  | n + 1, x5606, x5608, x5612, x5615 =>
    if x5615 < (x5608.Kids.length : Int) then
      if 0 ≤ x5615 ∧ x5615 < (x5608.Kids.length : Int) then
        (x5608.Kids[x5615.toNat]?).bind fun x5651 =>
        if 0 ≤ x5615 ∧ x5615 < (x5612.Kids.length : Int) then
          (x5612.Kids[x5615.toNat]?).bind fun x5659 =>
          if x5651 = x5659 then
            correctorref10_Same_l1 F a0 a1 n x5606 x5608 x5612 (w64 (x5615 + 1))
          else
            some (.inr false)
        else none
      else none
    else
      some (.inl x5606)
def correctorref10_Same_l0 (F : Nat) (a0 : correctorref10_Tree) (a1 : correctorref10_Tree) : Nat → Int → Option (Sum Unit Bool)
  | 0, _ => none
  | n + 1, x5395 =>
    if x5395 < (a0.Nodes.length : Int) then
      if 0 ≤ x5395 ∧ x5395 < (a0.Nodes.length : Int) then
        (a0.Nodes[x5395.toNat]?).bind fun x5408 =>
        if 0 ≤ x5395 ∧ x5395 < (a1.Nodes.length : Int) then
          (a1.Nodes[x5395.toNat]?).bind fun x5418 =>
          ((if x5408.Kind = x5418.Kind then
              if x5408.From = x5418.From then
                if x5408.To = x5418.To then
                  if x5408.Up = x5418.Up then
                    if x5408.Key = true then
                      if x5418.Key = true then
                        if (x5408.Kids.length : Int) = (x5418.Kids.length : Int) then
                          some (.inl (x5408, x5418))
                        else
                          some (.inr false)
                      else
                        some (.inr false)
                    else
                      if x5418.Key = true then
                        some (.inr false)
                      else
                        if (x5408.Kids.length : Int) = (x5418.Kids.length : Int) then
                          some (.inl (x5408, x5418))
                        else
                          some (.inr false)
                  else
                    some (.inr false)
                else
                  some (.inr false)
              else
                some (.inr false)
            else
              some (.inr false)) : Option (Sum (api_Node × api_Node) Bool)).bind fun o => match o with
            | .inl (x5465, x5469) => ((correctorref10_Same_l1 F a0 a1 F x5395 x5465 x5469 0) : Option (Sum Int Bool)).bind fun o => match o with
              | .inl x5674 => correctorref10_Same_l0 F a0 a1 n (w64 (x5674 + 1))
              | .inr y => some (.inr y)
            | .inr y => some (.inr y)
        else none
      else none
    else
      some (.inl ())
def correctorref10_Same (F : Nat) (a0 : correctorref10_Tree) (a1 : correctorref10_Tree) : Option Bool :=
  if (a0.Nodes.length : Int) = (a1.Nodes.length : Int) then
    ((correctorref10_Same_l0 F a0 a1 F 0) : Option (Sum Unit Bool)).bind fun o => match o with
      | .inl () => some true
      | .inr y => some y
  else
    some false
theorem correctorref10_Same_ok (F : Nat) {h : AH} {Z : Zn} {a0 : correctorref10_Tree} {a1 : correctorref10_Tree} {v4562 : Value} {v4564 : Value} (hI : Inv Z h) (q4561 : RS (α := api_Node) Z v4562 a0.Nodes) (q4563 : RS (α := api_Node) Z v4564 a1.Nodes) {r : Bool} (hm : correctorref10_Same F a0 a1 = some r) :
    ∃ v h', callI Go.Proofs.Try.prog 17 [.agg #[v4562], .agg #[v4564]] h = some (v, h') ∧ St h [] Z (0, 0) Z h' [] ∧ v = .bool r := by
  refine fn_plain (Q := fun v => v = .bool r) Go.Proofs.Try.func17 rfl rfl hI ?_
  intro hs hS
  unfold correctorref10_Same at hm
  refine sr r17_0 ?_
  refine r_blk rfl trivial (o_box (cs := [v4562]) rfl rfl) hS ?_
  intro b4979 h4980 hS4981
  refine r_blk rfl trivial (o_box (cs := [v4564]) rfl rfl) hS4981 ?_
  intro b4982 h4983 hS4984
  refine xe 1 [(3, Pt b4982 0), (2, Pt b4979 0)] ?_
  refine sq ?_
  refine sr r17_1 ?_
  refine xq 1 [(9, Pt b4979 0), (3, Pt b4982 0), (2, Pt b4979 0)] ?_
  refine r_step rfl trivial (o_ldb (v := v4562) hS4984 (i := 1) rfl rfl (by kernel_rfl)) ?_
  refine r_step rfl trivial (o_len rfl (RS.len q4561) ⟨_, Go.Proofs.Try.underlying25⟩) ?_
  refine xq 1 [(12, Pt b4982 0), (11, V (a0.Nodes.length : Int)), (3, Pt b4982 0), (2, Pt b4979 0)] ?_
  refine r_step rfl trivial (o_ldb (v := v4564) hS4984 (i := 0) rfl rfl (by kernel_rfl)) ?_
  refine r_step rfl trivial (o_len rfl (RS.len q4563) ⟨_, Go.Proofs.Try.underlying25⟩) ?_
  rcases ifs hm with ⟨hp4987, hm⟩ | ⟨hp4987, hm⟩
  refine r_step rfl trivial (o_cmp rfl rfl (c_neq_F hp4987)) ?_
  refine xf [(15, .bool false), (3, Pt b4982 0), (2, Pt b4979 0)] ?_
  refine kF 15 rfl ?_
  refine sq ?_
  refine sr r17_3 ?_
  refine xe 1 [(5, V 0), (3, Pt b4982 0), (2, Pt b4979 0)] ?_
  obtain ⟨o5391, ho5390, hm⟩ := obind hm
  refine W_join [] (fun l h => ∃ Z5690 : Zn, .inl () = o5391 ∧ l = [] ∧ St hs [] Z (0, 0) Z5690 h []) ?_ ?_
  rintro l h5691 ⟨Z5690, rfl, rfl, hS5692⟩
  try dsimp only at hm
  refine sr r17_14 ?_
  refine xe 1 [(4, .bool true)] ?_
  refine rt ?_
  refine ⟨rfl, ?_⟩
  obtain rfl := Option.some.inj hm
  refine ⟨_, _, _, ResL.tmp rfl (ResL.nil), hS5692, ?_⟩
  exact rfl
  refine bk 0 ?_
  refine lp [2, 3, 5] (fun n l h => ∃ Z5392 : Zn, ∃ x5395 : Int, ∃ b5393 : Nat, ∃ b5394 : Nat, correctorref10_Same_l0 F a0 a1 n x5395 = some o5391 ∧ l = [(2, Pt b5393 0), (3, Pt b5394 0), (5, V x5395)] ∧ St hs [] Z (0, 0) Z5392 h [.blk b5393 [v4562], .blk b5394 [v4564]]) F ⟨_, 0, b4979, b4982, ho5390, rfl, ((hS4984.front 0 rfl).front 1 rfl)⟩ ?_
  rintro n5398 l h5396 ⟨Z5392, x5395, b5393, b5394, ho5390, rfl, hS5397⟩
  rcases n5398 with _ | n5398
  cases (show none = some o5391 from ho5390)
  rw [correctorref10_Same_l0] at ho5390
  refine sq ?_
  refine sr r17_4 ?_
  refine xq 2 [(17, Pt b5393 0), (16, V x5395), (2, Pt b5393 0), (3, Pt b5394 0), (5, V x5395)] ?_
  refine r_step rfl trivial (o_ldb (v := v4562) hS5397 (i := 0) rfl rfl (by kernel_rfl)) ?_
  refine r_step rfl trivial (o_len rfl (RS.len (q4561.mono hS5397.zle)) ⟨_, Go.Proofs.Try.underlying25⟩) ?_
  rcases ifs ho5390 with ⟨hp5401, ho5390⟩ | ⟨hp5401, ho5390⟩
  refine r_step rfl trivial (o_cmp rfl rfl (c_lss_T hp5401)) ?_
  refine xf [(20, .bool true), (2, Pt b5393 0), (3, Pt b5394 0), (5, V x5395)] ?_
  refine kT 20 rfl ?_
  refine sq ?_
  refine bk 1 ?_
  refine srF r17_6 hS5397 ?_
  intro bs5402 h5403 hlv5405 hS5404
  refine yq 1 [(23, Pt b5393 0), (2, Pt b5393 0), (3, Pt b5394 0), (5, V x5395)] ?_
  have lt5406 : b5393 < bs5402 := hlv5405.1 _ (List.mem_of_getElem? (i := 0) rfl) _ (by simp [Itm.ids])
  refine e_lookB rfl trivial rfl (by show b5393 < _; omega) (same1 (v := v4562) (RS.sim1 (q4561.mono hS5397.zle))) (o_ldb (v := v4562) hS5404 (i := 0) rfl rfl (by kernel_rfl)) trivial ?_
  refine yq 1 [(25, V x5395), (24, v4562), (2, Pt b5393 0), (3, Pt b5394 0), (5, V x5395)] ?_
  obtain ⟨hc5407, ho5390⟩ := chk ho5390
  refine e_val rfl trivial (o_index rfl rfl (by kernel_rfl : slTy _ _ = some (csz api_Node)) (RS.based (q4561.mono hS5397.zle) (by omega)) hc5407.1 hc5407.2) ?_
  obtain ⟨x5408, hx5409, ho5390⟩ := obind ho5390
  obtain ⟨cs5410, hc5411, he5412⟩ := RS.elz (q4561.mono hS5397.zle) (i := x5395) hx5409
  obtain ⟨v5414, q5415, rfl⟩ := rc_api_Node hc5411
  refine e_lookZ rfl rfl trivial (fun h2 hz => o_lde (w := .agg #[V x5408.Kind, V x5408.From, V x5408.To, V x5408.Up, v5414, .bool x5408.Key]) (he5412 h2 hz) rfl (by kernel_rfl)) (hS5404.zin0 (Zle.refl _)) (same_agg (cs := [V x5408.Kind, V x5408.From, V x5408.To, V x5408.Up, v5414, .bool x5408.Key]) (.cons trivial (.cons trivial (.cons trivial (.cons trivial (.cons (RS.sim1 q5415) (.cons trivial .nil))))))) trivial ?_
  refine yq 1 [(28, Pt b5394 0), (27, .agg #[V x5408.Kind, V x5408.From, V x5408.To, V x5408.Up, v5414, .bool x5408.Key]), (2, Pt b5393 0), (3, Pt b5394 0), (5, V x5395)] ?_
  have lt5416 : b5394 < bs5402 := hlv5405.1 _ (List.mem_of_getElem? (i := 1) rfl) _ (by simp [Itm.ids])
  refine e_lookB rfl trivial rfl (by show b5394 < _; omega) (same1 (v := v4564) (RS.sim1 (q4563.mono hS5397.zle))) (o_ldb (v := v4564) hS5404 (i := 1) rfl rfl (by kernel_rfl)) trivial ?_
  refine yq 1 [(30, V x5395), (29, v4564), (27, .agg #[V x5408.Kind, V x5408.From, V x5408.To, V x5408.Up, v5414, .bool x5408.Key]), (2, Pt b5393 0), (3, Pt b5394 0), (5, V x5395)] ?_
  obtain ⟨hc5417, ho5390⟩ := chk ho5390
  refine e_val rfl trivial (o_index rfl rfl (by kernel_rfl : slTy _ _ = some (csz api_Node)) (RS.based (q4563.mono hS5397.zle) (by omega)) hc5417.1 hc5417.2) ?_
  obtain ⟨x5418, hx5419, ho5390⟩ := obind ho5390
  obtain ⟨cs5420, hc5421, he5422⟩ := RS.elz (q4563.mono hS5397.zle) (i := x5395) hx5419
  obtain ⟨v5424, q5425, rfl⟩ := rc_api_Node hc5421
  refine e_lookZ rfl rfl trivial (fun h2 hz => o_lde (w := .agg #[V x5418.Kind, V x5418.From, V x5418.To, V x5418.Up, v5424, .bool x5418.Key]) (he5422 h2 hz) rfl (by kernel_rfl)) (hS5404.zin0 (Zle.refl _)) (same_agg (cs := [V x5418.Kind, V x5418.From, V x5418.To, V x5418.Up, v5424, .bool x5418.Key]) (.cons trivial (.cons trivial (.cons trivial (.cons trivial (.cons (RS.sim1 q5425) (.cons trivial .nil))))))) trivial ?_
  refine e_blk rfl trivial (o_alloc (cs := [V 0, V 0, V 0, V 0, .slice none 0 0, .bool false]) (by kernel_rfl)) hS5404 (by omega) (Nat.add_lt_add_left (by decide) _) ?_
  intro b5426 h5427 eb5429 hS5428
  refine e_blk rfl trivial (o_alloc (cs := [V 0, V 0, V 0, V 0, .slice none 0 0, .bool false]) (by kernel_rfl)) hS5428 (by omega) (Nat.add_lt_add_left (by decide) _) ?_
  intro b5430 h5431 eb5433 hS5432
  have hF5436 : St _ _ _ _ _ _ ([.blk b5426 [V 0, V 0, V 0, V 0, .slice none 0 0, .bool false]] ++ [.blk b5430 [V 0, V 0, V 0, V 0, .slice none 0 0, .bool false], .blk b5393 [v4562], .blk b5394 [v4564]]) := (hS5432.front 1 rfl)
  refine e_mk1 rfl trivial hF5436 (o_stb (vs := [V x5408.Kind, V x5408.From, V x5408.To, V x5408.Up, v5414, .bool x5408.Key]) (cells' := (K46 v5414 x5408)) (L' := [.blk b5426 (K46 v5414 x5408)]) hF5436.sub (i := 0) rfl rfl rfl rfl (by kernel_rfl) (one_cons rfl (one_cons rfl (one_cons rfl (one_cons rfl (one_cons (RS.one1 q5415) (one_cons rfl one_nil)))))) rfl rfl rfl) (Zle.refl _) (.keep trivial (.keep (hF5436.neB 2 rfl blk_mem) (.keep trivial (.keep (hF5436.neB 1 rfl blk_mem) .nil)))) ?_
  intro h5434 hS5435
  have hF5439 : St _ _ _ _ _ _ ([.blk b5430 [V 0, V 0, V 0, V 0, .slice none 0 0, .bool false]] ++ [.blk b5426 (K46 v5414 x5408), .blk b5393 [v4562], .blk b5394 [v4564]]) := (hS5435.front 1 rfl)
  refine e_mk1 rfl trivial hF5439 (o_stb (vs := [V x5418.Kind, V x5418.From, V x5418.To, V x5418.Up, v5424, .bool x5418.Key]) (cells' := (K46 v5424 x5418)) (L' := [.blk b5430 (K46 v5424 x5418)]) hF5439.sub (i := 0) rfl rfl rfl rfl (by kernel_rfl) (one_cons rfl (one_cons rfl (one_cons rfl (one_cons rfl (one_cons (RS.one1 q5425) (one_cons rfl one_nil)))))) rfl rfl rfl) (Zle.refl _) (.keep trivial (.keep (hF5439.neB 2 rfl blk_mem) (.keep trivial (.keep (hF5439.neB 1 rfl blk_mem) .nil)))) ?_
  intro h5437 hS5438
  refine yf [(7, Pt b5430 0), (6, Pt b5426 0), (2, Pt b5393 0), (3, Pt b5394 0), (5, V x5395)] ?_
  have hS5440 := hS5438.unres
  refine sq ?_
  obtain ⟨o5451, ho5450, ho5390⟩ := obind ho5390
  refine W_join [2, 3, 5, 6, 7] (fun l h => ∃ Z5461 : Zn, ∃ x5465 : api_Node, ∃ x5469 : api_Node, ∃ b5462 : Nat, ∃ b5463 : Nat, ∃ b5464 : Nat, ∃ v5467 : Value, ∃ b5468 : Nat, ∃ v5471 : Value, .inl (x5465, x5469) = o5451 ∧ RS (α := Int) Z5461 v5467 x5465.Kids ∧ RS (α := Int) Z5461 v5471 x5469.Kids ∧ l = [(2, Pt b5462 0), (3, Pt b5463 0), (5, V x5395), (6, Pt b5464 0), (7, Pt b5468 0)] ∧ St hs [] Z (0, 0) Z5461 h [.blk b5462 [v4562], .blk b5463 [v4564], .blk b5464 (K46 v5467 x5465), .blk b5468 (K46 v5471 x5469)]) ?_ ?_
  rintro l h5472 ⟨Z5461, x5465, x5469, b5462, b5463, b5464, v5467, b5468, v5471, rfl, q5466, q5470, rfl, hS5473⟩
  try dsimp only at ho5390
  refine sr r17_9 ?_
  refine xe 1 [(8, V 0), (2, Pt b5462 0), (3, Pt b5463 0), (5, V x5395), (6, Pt b5464 0), (7, Pt b5468 0)] ?_
  obtain ⟨o5602, ho5601, ho5390⟩ := obind ho5390
  refine W_join [2, 3, 5] (fun l h => ∃ Z5671 : Zn, ∃ x5674 : Int, ∃ b5672 : Nat, ∃ b5673 : Nat, .inl x5674 = o5602 ∧ l = [(2, Pt b5672 0), (3, Pt b5673 0), (5, V x5674)] ∧ St hs [] Z (0, 0) Z5671 h [.blk b5672 [v4562], .blk b5673 [v4564]]) ?_ ?_
  rintro l h5675 ⟨Z5671, x5674, b5672, b5673, rfl, rfl, hS5676⟩
  try dsimp only at ho5390
  refine rg r17_5 ?_
  refine xe 3 [(5, V (w64 (x5674 + 1))), (2, Pt b5672 0), (3, Pt b5673 0)] ?_
  exact ⟨n5398, Nat.lt_succ_self _, ⟨_, w64 (x5674 + 1), b5672, b5673, ho5390, rfl, hS5676⟩⟩
  refine bk 2 ?_
  refine lp [2, 3, 5, 6, 7, 8] (fun n l h => ∃ Z5603 : Zn, ∃ x5606 : Int, ∃ x5608 : api_Node, ∃ x5612 : api_Node, ∃ x5615 : Int, ∃ b5604 : Nat, ∃ b5605 : Nat, ∃ b5607 : Nat, ∃ v5610 : Value, ∃ b5611 : Nat, ∃ v5614 : Value, correctorref10_Same_l1 F a0 a1 n x5606 x5608 x5612 x5615 = some o5602 ∧ RS (α := Int) Z5603 v5610 x5608.Kids ∧ RS (α := Int) Z5603 v5614 x5612.Kids ∧ l = [(2, Pt b5604 0), (3, Pt b5605 0), (5, V x5606), (6, Pt b5607 0), (7, Pt b5611 0), (8, V x5615)] ∧ St hs [] Z (0, 0) Z5603 h [.blk b5604 [v4562], .blk b5605 [v4564], .blk b5607 (K46 v5610 x5608), .blk b5611 (K46 v5614 x5612)]) F ⟨_, x5395, x5465, x5469, 0, b5462, b5463, b5464, v5467, b5468, v5471, ho5601, q5466, q5470, rfl, hS5473⟩ ?_
  rintro n5618 l h5616 ⟨Z5603, x5606, x5608, x5612, x5615, b5604, b5605, b5607, v5610, b5611, v5614, ho5601, q5609, q5613, rfl, hS5617⟩
  rcases n5618 with _ | n5618
  cases (show none = some o5602 from ho5601)
  rw [correctorref10_Same_l1] at ho5601
  refine sq ?_
  refine sr r17_10 ?_
  refine xq 2 [(76, Pt b5607 4), (75, V x5615), (2, Pt b5604 0), (3, Pt b5605 0), (5, V x5606), (6, Pt b5607 0), (7, Pt b5611 0), (8, V x5615)] ?_
  refine r_step rfl trivial (o_ldb (v := v5610) hS5617 (i := 2) rfl rfl (by kernel_rfl)) ?_
  refine r_step rfl trivial (o_len rfl (RS.len q5609) ⟨_, Go.Proofs.Try.underlying44⟩) ?_
  rcases ifs ho5601 with ⟨hp5621, ho5601⟩ | ⟨hp5621, ho5601⟩
  refine r_step rfl trivial (o_cmp rfl rfl (c_lss_T hp5621)) ?_
  refine xf [(79, .bool true), (2, Pt b5604 0), (3, Pt b5605 0), (5, V x5606), (6, Pt b5607 0), (7, Pt b5611 0), (8, V x5615)] ?_
  refine kT 79 rfl ?_
  refine sq ?_
  refine bk 3 ?_
  refine srF r17_12 hS5617 ?_
  intro bs5645 h5646 hlv5648 hS5647
  refine yq 1 [(82, Pt b5607 4), (2, Pt b5604 0), (3, Pt b5605 0), (5, V x5606), (6, Pt b5607 0), (7, Pt b5611 0), (8, V x5615)] ?_
  have lt5649 : b5607 < bs5645 := hlv5648.1 _ (List.mem_of_getElem? (i := 2) rfl) _ (by simp [Itm.ids])
  refine e_lookB rfl trivial rfl (by show b5607 < _; omega) (same1 (v := v5610) (RS.sim1 q5609)) (o_ldb (v := v5610) hS5647 (i := 2) rfl rfl (by kernel_rfl)) trivial ?_
  refine yq 1 [(84, V x5615), (83, v5610), (2, Pt b5604 0), (3, Pt b5605 0), (5, V x5606), (6, Pt b5607 0), (7, Pt b5611 0), (8, V x5615)] ?_
  obtain ⟨hc5650, ho5601⟩ := chk ho5601
  refine e_val rfl trivial (o_index rfl rfl (by kernel_rfl : slTy _ _ = some (csz Int)) (RS.based q5609 (by omega)) hc5650.1 hc5650.2) ?_
  obtain ⟨x5651, hx5652, ho5601⟩ := obind ho5601
  obtain ⟨cs5653, hc5654, he5655⟩ := RS.elz q5609 (i := x5615) hx5652
  obtain rfl := rc_Int hc5654
  refine e_lookZ rfl rfl trivial (fun h2 hz => o_lde (w := V x5651) (he5655 h2 hz) rfl (by kernel_rfl)) (hS5647.zin0 (Zle.refl _)) (same1 (v := V x5651) trivial) trivial ?_
  refine yq 1 [(87, Pt b5611 4), (86, V x5651), (2, Pt b5604 0), (3, Pt b5605 0), (5, V x5606), (6, Pt b5607 0), (7, Pt b5611 0), (8, V x5615)] ?_
  have lt5657 : b5611 < bs5645 := hlv5648.1 _ (List.mem_of_getElem? (i := 3) rfl) _ (by simp [Itm.ids])
  refine e_lookB rfl trivial rfl (by show b5611 < _; omega) (same1 (v := v5614) (RS.sim1 q5613)) (o_ldb (v := v5614) hS5647 (i := 3) rfl rfl (by kernel_rfl)) trivial ?_
  refine yq 1 [(89, V x5615), (88, v5614), (86, V x5651), (2, Pt b5604 0), (3, Pt b5605 0), (5, V x5606), (6, Pt b5607 0), (7, Pt b5611 0), (8, V x5615)] ?_
  obtain ⟨hc5658, ho5601⟩ := chk ho5601
  refine e_val rfl trivial (o_index rfl rfl (by kernel_rfl : slTy _ _ = some (csz Int)) (RS.based q5613 (by omega)) hc5658.1 hc5658.2) ?_
  obtain ⟨x5659, hx5660, ho5601⟩ := obind ho5601
  obtain ⟨cs5661, hc5662, he5663⟩ := RS.elz q5613 (i := x5615) hx5660
  obtain rfl := rc_Int hc5662
  refine e_lookZ rfl rfl trivial (fun h2 hz => o_lde (w := V x5659) (he5663 h2 hz) rfl (by kernel_rfl)) (hS5647.zin0 (Zle.refl _)) (same1 (v := V x5659) trivial) trivial ?_
  rcases ifs ho5601 with ⟨hp5665, ho5601⟩ | ⟨hp5665, ho5601⟩
  refine e_val rfl trivial (o_cmp rfl rfl (c_neq_F hp5665)) ?_
  refine yf [(92, .bool false), (2, Pt b5604 0), (3, Pt b5605 0), (5, V x5606), (6, Pt b5607 0), (7, Pt b5611 0), (8, V x5615)] ?_
  have hS5666 := hS5647.unres
  refine kF 92 rfl ?_
  refine rg r17_11 ?_
  refine xe 3 [(8, V (w64 (x5615 + 1))), (2, Pt b5604 0), (3, Pt b5605 0), (5, V x5606), (6, Pt b5607 0), (7, Pt b5611 0)] ?_
  exact ⟨n5618, Nat.lt_succ_self _, ⟨_, x5606, x5608, x5612, w64 (x5615 + 1), b5604, b5605, b5607, v5610, b5611, v5614, ho5601, q5609, q5613, rfl, hS5666⟩⟩
  refine e_val rfl trivial (o_cmp rfl rfl (c_neq_T hp5665)) ?_
  refine yf [(92, .bool true), (2, Pt b5604 0), (3, Pt b5605 0), (5, V x5606), (6, Pt b5607 0), (7, Pt b5611 0), (8, V x5615)] ?_
  have hS5667 := hS5647.unres
  refine cT 92 rfl ?_
  refine sr r17_13 ?_
  refine xe 1 [(4, .bool false)] ?_
  refine rt ?_
  refine blkX_ret ?_
  refine blkX_ret ?_
  refine blkX_ret ?_
  refine blkX_ret ?_
  refine ⟨rfl, ?_⟩
  obtain rfl := Option.some.inj ho5601
  obtain rfl := Option.some.inj ho5390
  obtain rfl := Option.some.inj hm
  refine ⟨_, _, _, ResL.tmp rfl (ResL.nil), hS5667, ?_⟩
  exact rfl
  refine r_step rfl trivial (o_cmp rfl rfl (c_lss_F hp5621)) ?_
  refine xf [(79, .bool false), (2, Pt b5604 0), (3, Pt b5605 0), (5, V x5606), (6, Pt b5607 0), (7, Pt b5611 0), (8, V x5615)] ?_
  refine cF 79 rfl ?_
  refine xt 2 ?_
  refine blkX_hit ?_
  obtain rfl := Option.some.inj ho5601
  exact ⟨_, x5606, b5604, b5605, rfl, rfl, (hS5617.takeN 2)⟩
  refine sr r17_7 ?_
  refine xq 1 [(33, Pt b5426 0), (7, Pt b5430 0), (6, Pt b5426 0), (2, Pt b5393 0), (3, Pt b5394 0), (5, V x5395)] ?_
  refine r_step rfl trivial (o_ldb (v := V x5408.Kind) hS5440 (i := 1) rfl rfl (by kernel_rfl)) ?_
  refine xq 1 [(35, Pt b5430 0), (34, V x5408.Kind), (7, Pt b5430 0), (6, Pt b5426 0), (2, Pt b5393 0), (3, Pt b5394 0), (5, V x5395)] ?_
  refine r_step rfl trivial (o_ldb (v := V x5418.Kind) hS5440 (i := 0) rfl rfl (by kernel_rfl)) ?_
  rcases ifs ho5450 with ⟨hp5452, ho5450⟩ | ⟨hp5452, ho5450⟩
  refine r_step rfl trivial (o_cmp rfl rfl (c_neq_F hp5452)) ?_
  refine xq 2 [(39, Pt b5426 1), (38, .bool false), (7, Pt b5430 0), (6, Pt b5426 0), (2, Pt b5393 0), (3, Pt b5394 0), (5, V x5395)] ?_
  refine r_step rfl rfl (o_ldb (v := V x5408.From) hS5440 (i := 1) rfl rfl (by kernel_rfl)) ?_
  refine xq 1 [(41, Pt b5430 1), (40, V x5408.From), (38, .bool false), (7, Pt b5430 0), (6, Pt b5426 0), (2, Pt b5393 0), (3, Pt b5394 0), (5, V x5395)] ?_
  refine r_step rfl rfl (o_ldb (v := V x5418.From) hS5440 (i := 0) rfl rfl (by kernel_rfl)) ?_
  rcases ifs ho5450 with ⟨hp5453, ho5450⟩ | ⟨hp5453, ho5450⟩
  refine r_step rfl rfl (o_cmp rfl rfl (c_neq_F hp5453)) ?_
  refine xq 3 [(46, Pt b5426 2), (45, .bool false), (7, Pt b5430 0), (6, Pt b5426 0), (2, Pt b5393 0), (3, Pt b5394 0), (5, V x5395)] ?_
  refine r_step rfl rfl (o_ldb (v := V x5408.To) hS5440 (i := 1) rfl rfl (by kernel_rfl)) ?_
  refine xq 1 [(48, Pt b5430 2), (47, V x5408.To), (45, .bool false), (7, Pt b5430 0), (6, Pt b5426 0), (2, Pt b5393 0), (3, Pt b5394 0), (5, V x5395)] ?_
  refine r_step rfl rfl (o_ldb (v := V x5418.To) hS5440 (i := 0) rfl rfl (by kernel_rfl)) ?_
  rcases ifs ho5450 with ⟨hp5454, ho5450⟩ | ⟨hp5454, ho5450⟩
  refine r_step rfl rfl (o_cmp rfl rfl (c_neq_F hp5454)) ?_
  refine xq 3 [(53, Pt b5426 3), (52, .bool false), (7, Pt b5430 0), (6, Pt b5426 0), (2, Pt b5393 0), (3, Pt b5394 0), (5, V x5395)] ?_
  refine r_step rfl rfl (o_ldb (v := V x5408.Up) hS5440 (i := 1) rfl rfl (by kernel_rfl)) ?_
  refine xq 1 [(55, Pt b5430 3), (54, V x5408.Up), (52, .bool false), (7, Pt b5430 0), (6, Pt b5426 0), (2, Pt b5393 0), (3, Pt b5394 0), (5, V x5395)] ?_
  refine r_step rfl rfl (o_ldb (v := V x5418.Up) hS5440 (i := 0) rfl rfl (by kernel_rfl)) ?_
  rcases ifs ho5450 with ⟨hp5455, ho5450⟩ | ⟨hp5455, ho5450⟩
  refine r_step rfl rfl (o_cmp rfl rfl (c_neq_F hp5455)) ?_
  refine xq 3 [(60, Pt b5426 5), (59, .bool false), (7, Pt b5430 0), (6, Pt b5426 0), (2, Pt b5393 0), (3, Pt b5394 0), (5, V x5395)] ?_
  refine r_step rfl rfl (o_ldb (v := .bool x5408.Key) hS5440 (i := 1) rfl rfl (by kernel_rfl)) ?_
  refine xq 1 [(62, Pt b5430 5), (61, .bool x5408.Key), (59, .bool false), (7, Pt b5430 0), (6, Pt b5426 0), (2, Pt b5393 0), (3, Pt b5394 0), (5, V x5395)] ?_
  refine r_step rfl rfl (o_ldb (v := .bool x5418.Key) hS5440 (i := 0) rfl rfl (by kernel_rfl)) ?_
  rcases ifs ho5450 with ⟨hp5456, ho5450⟩ | ⟨hp5456, ho5450⟩
  refine r_setb (t := 61) rfl hp5456 ?_
  rcases ifs ho5450 with ⟨hp5457, ho5450⟩ | ⟨hp5457, ho5450⟩
  refine r_setb (t := 63) rfl hp5457 ?_
  refine r_step rfl rfl (o_cmp (w := false) rfl rfl (by kernel_rfl)) ?_
  refine xq 3 [(67, Pt b5426 4), (66, .bool false), (7, Pt b5430 0), (6, Pt b5426 0), (2, Pt b5393 0), (3, Pt b5394 0), (5, V x5395)] ?_
  refine r_step rfl rfl (o_ldb (v := v5414) hS5440 (i := 1) rfl rfl (by kernel_rfl)) ?_
  refine r_step rfl rfl (o_len rfl (RS.len q5415) ⟨_, Go.Proofs.Try.underlying44⟩) ?_
  refine xq 1 [(70, Pt b5430 4), (69, V (x5408.Kids.length : Int)), (66, .bool false), (7, Pt b5430 0), (6, Pt b5426 0), (2, Pt b5393 0), (3, Pt b5394 0), (5, V x5395)] ?_
  refine r_step rfl rfl (o_ldb (v := v5424) hS5440 (i := 0) rfl rfl (by kernel_rfl)) ?_
  refine r_step rfl rfl (o_len rfl (RS.len q5425) ⟨_, Go.Proofs.Try.underlying44⟩) ?_
  rcases ifs ho5450 with ⟨hp5458, ho5450⟩ | ⟨hp5458, ho5450⟩
  refine r_step rfl rfl (o_cmp rfl rfl (c_neq_F hp5458)) ?_
  refine xe 1 [(74, .bool false), (7, Pt b5430 0), (6, Pt b5426 0), (2, Pt b5393 0), (3, Pt b5394 0), (5, V x5395)] ?_
  refine kF 74 rfl ?_
  obtain rfl := Option.some.inj ho5450
  exact ⟨_, x5408, x5418, b5393, b5394, b5426, v5414, b5430, v5424, rfl, q5415, q5425, rfl, ((((hS5440.front 0 rfl).front 1 rfl).front 3 rfl).front 3 rfl)⟩
  refine r_step rfl rfl (o_cmp rfl rfl (c_neq_T hp5458)) ?_
  refine xe 1 [(74, .bool true), (7, Pt b5430 0), (6, Pt b5426 0), (2, Pt b5393 0), (3, Pt b5394 0), (5, V x5395)] ?_
  refine cT 74 rfl ?_
  refine sr r17_8 ?_
  refine xe 1 [(4, .bool false)] ?_
  refine rt ?_
  refine blkX_ret ?_
  refine blkX_ret ?_
  refine ⟨rfl, ?_⟩
  obtain rfl := Option.some.inj ho5450
  obtain rfl := Option.some.inj ho5390
  obtain rfl := Option.some.inj hm
  refine ⟨_, _, _, ResL.tmp rfl (ResL.nil), hS5440, ?_⟩
  exact rfl
  refine r_setb (t := 63) rfl (Bool.eq_false_iff.2 hp5457) ?_
  refine r_step rfl rfl (o_cmp (w := true) rfl rfl (by kernel_rfl)) ?_
  refine xe 10 [(74, .bool true), (7, Pt b5430 0), (6, Pt b5426 0), (2, Pt b5393 0), (3, Pt b5394 0), (5, V x5395)] ?_
  refine cT 74 rfl ?_
  refine sr r17_8 ?_
  refine xe 1 [(4, .bool false)] ?_
  refine rt ?_
  refine blkX_ret ?_
  refine blkX_ret ?_
  refine ⟨rfl, ?_⟩
  obtain rfl := Option.some.inj ho5450
  obtain rfl := Option.some.inj ho5390
  obtain rfl := Option.some.inj hm
  refine ⟨_, _, _, ResL.tmp rfl (ResL.nil), hS5440, ?_⟩
  exact rfl
  refine r_setb (t := 61) rfl (Bool.eq_false_iff.2 hp5456) ?_
  rcases ifs ho5450 with ⟨hp5459, ho5450⟩ | ⟨hp5459, ho5450⟩
  refine r_setb (t := 63) rfl hp5459 ?_
  refine r_step rfl rfl (o_cmp (w := true) rfl rfl (by kernel_rfl)) ?_
  refine xe 10 [(74, .bool true), (7, Pt b5430 0), (6, Pt b5426 0), (2, Pt b5393 0), (3, Pt b5394 0), (5, V x5395)] ?_
  refine cT 74 rfl ?_
  refine sr r17_8 ?_
  refine xe 1 [(4, .bool false)] ?_
  refine rt ?_
  refine blkX_ret ?_
  refine blkX_ret ?_
  refine ⟨rfl, ?_⟩
  obtain rfl := Option.some.inj ho5450
  obtain rfl := Option.some.inj ho5390
  obtain rfl := Option.some.inj hm
  refine ⟨_, _, _, ResL.tmp rfl (ResL.nil), hS5440, ?_⟩
  exact rfl
  refine r_setb (t := 63) rfl (Bool.eq_false_iff.2 hp5459) ?_
  refine r_step rfl rfl (o_cmp (w := false) rfl rfl (by kernel_rfl)) ?_
  refine xq 3 [(67, Pt b5426 4), (66, .bool false), (7, Pt b5430 0), (6, Pt b5426 0), (2, Pt b5393 0), (3, Pt b5394 0), (5, V x5395)] ?_
  refine r_step rfl rfl (o_ldb (v := v5414) hS5440 (i := 1) rfl rfl (by kernel_rfl)) ?_
  refine r_step rfl rfl (o_len rfl (RS.len q5415) ⟨_, Go.Proofs.Try.underlying44⟩) ?_
  refine xq 1 [(70, Pt b5430 4), (69, V (x5408.Kids.length : Int)), (66, .bool false), (7, Pt b5430 0), (6, Pt b5426 0), (2, Pt b5393 0), (3, Pt b5394 0), (5, V x5395)] ?_
  refine r_step rfl rfl (o_ldb (v := v5424) hS5440 (i := 0) rfl rfl (by kernel_rfl)) ?_
  refine r_step rfl rfl (o_len rfl (RS.len q5425) ⟨_, Go.Proofs.Try.underlying44⟩) ?_
  rcases ifs ho5450 with ⟨hp5460, ho5450⟩ | ⟨hp5460, ho5450⟩
  refine r_step rfl rfl (o_cmp rfl rfl (c_neq_F hp5460)) ?_
  refine xe 1 [(74, .bool false), (7, Pt b5430 0), (6, Pt b5426 0), (2, Pt b5393 0), (3, Pt b5394 0), (5, V x5395)] ?_
  refine kF 74 rfl ?_
  obtain rfl := Option.some.inj ho5450
  exact ⟨_, x5408, x5418, b5393, b5394, b5426, v5414, b5430, v5424, rfl, q5415, q5425, rfl, ((((hS5440.front 0 rfl).front 1 rfl).front 3 rfl).front 3 rfl)⟩
  refine r_step rfl rfl (o_cmp rfl rfl (c_neq_T hp5460)) ?_
  refine xe 1 [(74, .bool true), (7, Pt b5430 0), (6, Pt b5426 0), (2, Pt b5393 0), (3, Pt b5394 0), (5, V x5395)] ?_
  refine cT 74 rfl ?_
  refine sr r17_8 ?_
  refine xe 1 [(4, .bool false)] ?_
  refine rt ?_
  refine blkX_ret ?_
  refine blkX_ret ?_
  refine ⟨rfl, ?_⟩
  obtain rfl := Option.some.inj ho5450
  obtain rfl := Option.some.inj ho5390
  obtain rfl := Option.some.inj hm
  refine ⟨_, _, _, ResL.tmp rfl (ResL.nil), hS5440, ?_⟩
  exact rfl
  refine r_step rfl rfl (o_cmp rfl rfl (c_neq_T hp5455)) ?_
  refine xe 17 [(74, .bool true), (7, Pt b5430 0), (6, Pt b5426 0), (2, Pt b5393 0), (3, Pt b5394 0), (5, V x5395)] ?_
  refine cT 74 rfl ?_
  refine sr r17_8 ?_
  refine xe 1 [(4, .bool false)] ?_
  refine rt ?_
  refine blkX_ret ?_
  refine blkX_ret ?_
  refine ⟨rfl, ?_⟩
  obtain rfl := Option.some.inj ho5450
  obtain rfl := Option.some.inj ho5390
  obtain rfl := Option.some.inj hm
  refine ⟨_, _, _, ResL.tmp rfl (ResL.nil), hS5440, ?_⟩
  exact rfl
  refine r_step rfl rfl (o_cmp rfl rfl (c_neq_T hp5454)) ?_
  refine xe 24 [(74, .bool true), (7, Pt b5430 0), (6, Pt b5426 0), (2, Pt b5393 0), (3, Pt b5394 0), (5, V x5395)] ?_
  refine cT 74 rfl ?_
  refine sr r17_8 ?_
  refine xe 1 [(4, .bool false)] ?_
  refine rt ?_
  refine blkX_ret ?_
  refine blkX_ret ?_
  refine ⟨rfl, ?_⟩
  obtain rfl := Option.some.inj ho5450
  obtain rfl := Option.some.inj ho5390
  obtain rfl := Option.some.inj hm
  refine ⟨_, _, _, ResL.tmp rfl (ResL.nil), hS5440, ?_⟩
  exact rfl
  refine r_step rfl rfl (o_cmp rfl rfl (c_neq_T hp5453)) ?_
  refine xe 31 [(74, .bool true), (7, Pt b5430 0), (6, Pt b5426 0), (2, Pt b5393 0), (3, Pt b5394 0), (5, V x5395)] ?_
  refine cT 74 rfl ?_
  refine sr r17_8 ?_
  refine xe 1 [(4, .bool false)] ?_
  refine rt ?_
  refine blkX_ret ?_
  refine blkX_ret ?_
  refine ⟨rfl, ?_⟩
  obtain rfl := Option.some.inj ho5450
  obtain rfl := Option.some.inj ho5390
  obtain rfl := Option.some.inj hm
  refine ⟨_, _, _, ResL.tmp rfl (ResL.nil), hS5440, ?_⟩
  exact rfl
  refine r_step rfl trivial (o_cmp rfl rfl (c_neq_T hp5452)) ?_
  refine xe 37 [(74, .bool true), (7, Pt b5430 0), (6, Pt b5426 0), (2, Pt b5393 0), (3, Pt b5394 0), (5, V x5395)] ?_
  refine cT 74 rfl ?_
  refine sr r17_8 ?_
  refine xe 1 [(4, .bool false)] ?_
  refine rt ?_
  refine blkX_ret ?_
  refine blkX_ret ?_
  refine ⟨rfl, ?_⟩
  obtain rfl := Option.some.inj ho5450
  obtain rfl := Option.some.inj ho5390
  obtain rfl := Option.some.inj hm
  refine ⟨_, _, _, ResL.tmp rfl (ResL.nil), hS5440, ?_⟩
  exact rfl
  refine r_step rfl trivial (o_cmp rfl rfl (c_lss_F hp5401)) ?_
  refine xf [(20, .bool false), (2, Pt b5393 0), (3, Pt b5394 0), (5, V x5395)] ?_
  refine cF 20 rfl ?_
  refine xt 0 ?_
  refine blkX_hit ?_
  obtain rfl := Option.some.inj ho5390
  exact ⟨_, rfl, rfl, (hS5397.takeN 0)⟩
  refine r_step rfl trivial (o_cmp rfl rfl (c_neq_T hp4987)) ?_
  refine xf [(15, .bool true), (3, Pt b4982 0), (2, Pt b4979 0)] ?_
  refine cT 15 rfl ?_
  refine sr r17_2 ?_
  refine xe 1 [(4, .bool false)] ?_
  refine rt ?_
  refine ⟨rfl, ?_⟩
  obtain rfl := Option.some.inj hm
  refine ⟨_, _, _, ResL.tmp rfl (ResL.nil), hS4984, ?_⟩
  exact rfl

def r3_0 : List COp := [u 4 (.assign (.const (.bool false)))]
def r3_1 : List COp := [u 17 (cf 8 #[] #[]), u 18 (.unOp .not 4 (t 17))]
def r3_2 : List COp := [u 4 (.assign (.const (.bool false)))]
def r3_3 : List COp := [u 19 (.move (t 0)), u 20 (cf 9 #[(t 19), (ci 60)] #[3, 3]), u 0 (.assign (t 20))]
def r3_4 : List COp := [u 21 (.move (t 0)), u 22 (cf 10 #[(t 21)] #[3]), u 23 (.move (t 0)), u 24 (cf 11 #[(t 23)] #[3]), u 5 (.alloc 27), u 6 (.alloc 29), o (.store 27 (t 5) (t 22)), o (.store 29 (t 6) (t 24))]
def r3_5 : List COp := [u 7 (.assign (ci 0))]
def r3_6 : List COp := [u 25 (.move (t 7)), u 26 (.move (t 1)), u 27 (cb .len #[(t 26)] #[22]), u 28 (.binOp .lss 3 (t 25) (t 27) 3), u 29 (.move (t 28)), gT 29 (some 30) (.move (t 7)), gT 29 (some 31) (.binOp .lss 3 (t 30) (ci 40) 3), u 32 (.pick (t 29) (t 31) (.const (.bool false)))]
def r3_7 : List COp := [u 33 (.move (t 7)), u 34 (.binOp .add 3 (t 33) (ci 1) 3), u 7 (.assign (t 34))]
def r3_8 : List COp := [u 35 (.move (t 1)), u 36 (.move (t 7)), u 37 (.indexAddr 22 (t 35) (t 36)), u 38 (.load 32 (t 37)), u 8 (.alloc 32), o (.store 32 (t 8) (t 38))]
def r3_9 : List COpF := [uF 39 (.load 27 (t 5)) .look [], uF 40 (.load 27 (t 5)) .look [], uF 41 (cf 13 #[(t 40)] #[27]) .make [1], uF 42 (cf 12 #[(t 41), (ci 0), (ci 0)] #[29, 3, 3]) .make [1], uF 9 (.alloc 27) .fresh [], uF 10 (.alloc 29) .fresh [], oF (.store 27 (t 9) (t 39)) .make [0, 1], oF (.store 29 (t 10) (t 42)) .make [0, 1]]
def r3_10 : List COp := [u 43 (.fieldAddr 32 (t 8) 0), u 44 (.load 3 (t 43)), u 45 (cf 9 #[(t 44), (ci 8)] #[3, 3]), u 46 (.binOp .lss 3 (t 45) (ci 6) 3)]
def r3_11 : List COpF := [uF 47 (.fieldAddr 32 (t 8) 1) .pure [], uF 48 (.load 3 (t 47)) .look [], uF 49 (.fieldAddr 29 (t 6) 0) .pure [], uF 50 (.load 25 (t 49)) .look [], uF 51 (cb .len #[(t 50)] #[25]) .pure [], uF 52 (.binOp .add 3 (t 51) (ci 2) 3) .pure [], uF 53 (cf 9 #[(t 48), (t 52)] #[3, 3]) .make [1, 3], uF 54 (.binOp .sub 3 (t 53) (ci 1) 3) .pure [], uF 55 (.fieldAddr 32 (t 8) 3) .pure [], uF 56 (.load 3 (t 55)) .look [], uF 57 (.move (t 0)) .pure [], uF 58 (.binOp .add 3 (t 57) (ci 2) 3) .pure [], uF 59 (cf 9 #[(t 56), (t 58)] #[3, 3]) .make [1, 3, 9], uF 60 (.binOp .sub 3 (t 59) (ci 1) 3) .pure [], uF 11 (.assign (t 54)) .pure [], uF 12 (.assign (t 60)) .pure []]
def r3_12 : List COpF := [uF 62 (.load 27 (t 5)) .look [], uF 63 (.move (t 11)) .pure [], uF 64 (.fieldAddr 32 (t 8) 2) .pure [], uF 65 (.load 3 (t 64)) .look [], uF 66 (cf 9 #[(t 65), (ci 12)] #[3, 3]) .make [3], uF 67 (.binOp .add 3 (ci 1) (t 66) 3) .pure [], uF 68 (.move (t 12)) .pure [], uF 69 (.move (t 12)) .pure [], uF 70 (.fieldAddr 32 (t 8) 4) .pure [], uF 71 (.load 3 (t 70)) .look [], uF 72 (cf 9 #[(t 71), (ci 9)] #[3, 3]) .make [3, 9], uF 73 (.binOp .add 3 (t 69) (t 72) 3) .pure [], uF 74 (.binOp .sub 3 (t 73) (ci 1) 3) .pure [], uF 75 (cf 14 #[(t 62), (t 63), (t 67), (t 68), (t 74)] #[27, 3, 3, 3, 3]) .make [0, 3, 9], uF 61 (.move (t 75)) .pure [], uF 76 (.extract (t 61) 0) .pure [], uF 77 (.extract (t 61) 1) .pure [], uF 13 (.alloc 27) .fresh [], oF (.store 27 (t 13) (t 76)) .make [0, 3, 9], uF 14 (.assign (t 77)) .pure []]
def r3_13 : List COpF := [uF 79 (.load 29 (t 6)) .look [], uF 80 (.move (t 11)) .pure [], uF 81 (.fieldAddr 32 (t 8) 2) .pure [], uF 82 (.load 3 (t 81)) .look [], uF 83 (cf 9 #[(t 82), (ci 12)] #[3, 3]) .make [3], uF 84 (.binOp .add 3 (ci 1) (t 83) 3) .pure [], uF 85 (.move (t 12)) .pure [], uF 86 (.move (t 12)) .pure [], uF 87 (.fieldAddr 32 (t 8) 4) .pure [], uF 88 (.load 3 (t 87)) .look [], uF 89 (cf 9 #[(t 88), (ci 9)] #[3, 3]) .make [3, 9], uF 90 (.binOp .add 3 (t 86) (t 89) 3) .pure [], uF 91 (.binOp .sub 3 (t 90) (ci 1) 3) .pure [], uF 92 (cf 15 #[(t 79), (t 80), (t 84), (t 85), (t 91)] #[29, 3, 3, 3, 3]) .make [0, 3, 9], uF 78 (.move (t 92)) .pure [], uF 93 (.extract (t 78) 0) .pure [], uF 94 (.extract (t 78) 1) .pure [], uF 15 (.alloc 29) .fresh [], oF (.store 29 (t 15) (t 93)) .make [0, 3, 9], uF 16 (.assign (t 94)) .pure []]
def r3_14 : List COp := [u 95 (.move (t 14)), u 96 (.move (t 16)), u 97 (.binOp .neq 3 (t 95) (t 96) 3)]
def r3_15 : List COp := [u 4 (.assign (.const (.bool false)))]
def r3_16 : List COpF := [uF 98 (.load 27 (t 13)) .look [], uF 99 (.load 29 (t 15)) .look [], oF (.store 27 (t 5) (t 98)) .make [0], oF (.store 29 (t 6) (t 99)) .make [0, 1]]
def r3_17 : List COpF := [uF 100 (.load 27 (t 5)) .look [], uF 101 (.fieldAddr 32 (t 8) 1) .pure [], uF 102 (.load 3 (t 101)) .look [], uF 103 (.fieldAddr 29 (t 6) 0) .pure [], uF 104 (.load 25 (t 103)) .look [], uF 105 (cb .len #[(t 104)] #[25]) .pure [], uF 106 (.binOp .add 3 (t 105) (ci 2) 3) .pure [], uF 107 (cf 9 #[(t 102), (t 106)] #[3, 3]) .make [2, 4], uF 108 (.binOp .sub 3 (t 107) (ci 1) 3) .pure [], uF 109 (.fieldAddr 32 (t 8) 3) .pure [], uF 110 (.load 3 (t 109)) .look [], uF 111 (.move (t 0)) .pure [], uF 112 (.binOp .add 3 (t 111) (ci 2) 3) .pure [], uF 113 (cf 9 #[(t 110), (t 112)] #[3, 3]) .make [2, 4, 10], uF 114 (cf 16 #[(t 100), (t 108), (t 113)] #[27, 3, 3]) .make [0, 2, 4, 10], uF 115 (.load 29 (t 6)) .look [], uF 116 (.fieldAddr 32 (t 8) 1) .pure [], uF 117 (.load 3 (t 116)) .look [], uF 118 (.fieldAddr 29 (t 6) 0) .pure [], uF 119 (.load 25 (t 118)) .look [], uF 120 (cb .len #[(t 119)] #[25]) .pure [], uF 121 (.binOp .add 3 (t 120) (ci 2) 3) .pure [], uF 122 (cf 9 #[(t 117), (t 121)] #[3, 3]) .make [0, 2, 4, 10, 17, 19], uF 123 (.binOp .sub 3 (t 122) (ci 1) 3) .pure [], uF 124 (.fieldAddr 32 (t 8) 3) .pure [], uF 125 (.load 3 (t 124)) .look [], uF 126 (.move (t 0)) .pure [], uF 127 (.binOp .add 3 (t 126) (ci 2) 3) .pure [], uF 128 (cf 9 #[(t 125), (t 127)] #[3, 3]) .make [0, 2, 4, 10, 17, 19, 25], uF 129 (cf 12 #[(t 115), (t 123), (t 128)] #[29, 3, 3]) .make [0, 2, 4, 10, 15, 17, 19, 25], oF (.store 27 (t 5) (t 114)) .make [0, 2, 4, 10, 15, 17, 19, 25], oF (.store 29 (t 6) (t 129)) .make [0, 2, 4, 10, 15, 17, 19, 25]]
def r3_18 : List COpF := [uF 130 (.load 27 (t 5)) .look [], uF 131 (cf 13 #[(t 130)] #[27]) .make [0], uF 132 (.load 29 (t 6)) .look [], uF 133 (cf 17 #[(t 131), (t 132)] #[29, 29]) .make [0, 2], uF 134 (.unOp .not 4 (t 133)) .pure [], uF 135 (.move (t 134)) .pure [], gNF 135 (some 136) (.load 27 (t 9)) .look [1, 3], gNF 135 (some 137) (cf 13 #[(t 136)] #[27]) .make [0, 2, 6], gNF 135 (some 138) (.load 29 (t 10)) .look [1, 3], gNF 135 (some 139) (cf 17 #[(t 137), (t 138)] #[29, 29]) .make [0, 2, 6, 8], gNF 135 (some 140) (.unOp .not 4 (t 139)) .pure [], uF 141 (.pick (t 135) (.const (.bool true)) (t 140)) .pure []]
def r3_19 : List COp := [u 4 (.assign (.const (.bool false)))]
def r3_20 : List COp := [u 4 (.assign (.const (.bool true)))]
def correctorlaw10_ArenaPlays_l0 (F : Nat) (a0 : Int) (a1 : List correctorlaw10_Act) : Nat → Int → (List api_Node) → (List api_Node) → Int → Option (Sum Unit Bool)
  | 0, _, _, _, _ => none
  | n + 1, x7386, x7388, x7392, x7395 =>
    if x7395 < (a1.length : Int) then
      if x7395 < (40 : Int) then
        if 0 ≤ x7395 ∧ x7395 < (a1.length : Int) then
          (a1[x7395.toNat]?).bind fun x7406 =>
          (correctorlaw10_ToRef F (⟨x7388⟩ : arena_Tree)).bind fun r7423 =>
          (correctorref10_Grow F r7423 0 0).bind fun r7439 =>
          (((correctorlaw10_within F x7406.Kind 8).bind fun r7734 =>
            if r7734 < (6 : Int) then
              (correctorlaw10_within F x7406.A (w64 ((x7392.length : Int) + 2))).bind fun r7748 =>
              (correctorlaw10_within F x7406.C (w64 (x7386 + 2))).bind fun r7759 =>
              (correctorlaw10_within F x7406.B 12).bind fun r7776 =>
              (correctorlaw10_within F x7406.D 9).bind fun r7787 =>
              (arena_Add F (⟨x7388⟩ : arena_Tree) (w64 (r7748 - 1)) (w64 (1 + r7776)) (w64 (r7759 - 1)) (w64 ((w64 ((w64 (r7759 - 1)) + r7787)) - 1))).bind fun r7797 =>
              (correctorlaw10_within F x7406.B 12).bind fun r7828 =>
              (correctorlaw10_within F x7406.D 9).bind fun r7839 =>
              (correctorref10_Add F (⟨x7392⟩ : correctorref10_Tree) (w64 (r7748 - 1)) (w64 (1 + r7828)) (w64 (r7759 - 1)) (w64 ((w64 ((w64 (r7759 - 1)) + r7839)) - 1))).bind fun r7849 =>
              if r7797.2 = r7849.2 then
                some (.inl (r7797.1.Nodes, r7849.1.Nodes, x7388, r7439.Nodes))
              else
                some (.inr false)
            else
              (correctorlaw10_within F x7406.A (w64 ((x7392.length : Int) + 2))).bind fun r7895 =>
              (correctorlaw10_within F x7406.C (w64 (x7386 + 2))).bind fun r7906 =>
              (arena_Grow F (⟨x7388⟩ : arena_Tree) (w64 (r7895 - 1)) r7906).bind fun r7916 =>
              (correctorlaw10_within F x7406.A (w64 ((x7392.length : Int) + 2))).bind fun r7936 =>
              (correctorlaw10_within F x7406.C (w64 (x7386 + 2))).bind fun r7947 =>
              (correctorref10_Grow F (⟨x7392⟩ : correctorref10_Tree) (w64 (r7936 - 1)) r7947).bind fun r7957 =>
              some (.inl (r7916.Nodes, r7957.Nodes, x7388, r7439.Nodes))) : Option (Sum ((List api_Node) × (List api_Node) × (List api_Node) × (List api_Node)) Bool)).bind fun o => match o with
            | .inl (x7982, x7987, x7991, x7995) => (correctorlaw10_ToRef F (⟨x7982⟩ : arena_Tree)).bind fun r8078 =>
            (correctorref10_Same F r8078 (⟨x7987⟩ : correctorref10_Tree)).bind fun r8095 =>
            if r8095 = true then
              (correctorlaw10_ToRef F (⟨x7991⟩ : arena_Tree)).bind fun r8107 =>
              (correctorref10_Same F r8107 (⟨x7995⟩ : correctorref10_Tree)).bind fun r8124 =>
              if r8124 = true then
                correctorlaw10_ArenaPlays_l0 F a0 a1 n x7386 x7982 x7987 (w64 (x7395 + 1))
              else
                some (.inr false)
            else
              some (.inr false)
            | .inr y => some (.inr y)
        else none
      else
        some (.inl ())
    else
      some (.inl ())
def correctorlaw10_ArenaPlays (F : Nat) (a0 : Int) (a1 : List correctorlaw10_Act) : Option Bool :=
  (correctorlaw10_known F).bind fun r6320 =>
  if r6320 = true then
    (correctorlaw10_within F a0 60).bind fun r6328 =>
    (arena_New F r6328).bind fun r6335 =>
    (correctorref10_New F r6328).bind fun r6349 =>
    ((correctorlaw10_ArenaPlays_l0 F a0 a1 F r6328 r6335.Nodes r6349.Nodes 0) : Option (Sum Unit Bool)).bind fun o => match o with
      | .inl () => some true
      | .inr y => some y
  else
    some false
theorem correctorlaw10_ArenaPlays_ok (F : Nat) {h : AH} {Z : Zn} {a0 : Int} {a1 : List correctorlaw10_Act} {v2714 : Value} (hI : Inv Z h) (q2713 : RS (α := correctorlaw10_Act) Z v2714 a1) {r : Bool} (hm : correctorlaw10_ArenaPlays F a0 a1 = some r) :
    ∃ v h', callI Go.Proofs.Try.prog 3 [V a0, v2714] h = some (v, h') ∧ St h [] Z (0, 0) Z h' [] ∧ v = .bool r := by
  refine fn_plain (Q := fun v => v = .bool r) Go.Proofs.Try.func3 rfl rfl hI ?_
  intro hs hS
  unfold correctorlaw10_ArenaPlays at hm
  refine sr r3_0 ?_
  refine xe 1 [(0, V a0), (1, v2714)] ?_
  refine sq ?_
  refine sr r3_1 ?_
  obtain ⟨r6320, hx6321, hm⟩ := obind hm
  obtain ⟨v6322, h6323, hcl6324, hSc6325, rfl⟩ := correctorlaw10_known_ok F hS.inv  hx6321
  have hS6326 := St.call (A := []) (B := []) hS hSc6325
  replace hS6326 : St _ _ _ _ _ _ [] := hS6326
  refine r_step rfl trivial (o_call hcl6324 rfl rfl rfl) ?_
  rcases ifs hm with ⟨hp6327, hm⟩ | ⟨hp6327, hm⟩
  refine r_setb (t := 17) rfl hp6327 ?_
  refine xe 1 [(18, .bool false), (0, V a0), (1, v2714)] ?_
  refine kF 18 rfl ?_
  refine sr r3_3 ?_
  refine xq 1 [(19, V a0), (0, V a0), (1, v2714)] ?_
  obtain ⟨r6328, hx6329, hm⟩ := obind hm
  obtain ⟨v6330, h6331, hcl6332, hSc6333, rfl⟩ := correctorlaw10_within_ok F hS6326.inv  hx6329
  have hS6334 := St.call (A := []) (B := []) hS6326 hSc6333
  replace hS6334 : St _ _ _ _ _ _ [] := hS6334
  refine r_step rfl trivial (o_call hcl6332 rfl rfl rfl) ?_
  refine xe 1 [(0, V r6328), (1, v2714)] ?_
  refine sr r3_4 ?_
  refine xq 1 [(21, V r6328), (0, V r6328), (1, v2714)] ?_
  obtain ⟨r6335, hx6336, hm⟩ := obind hm
  have hSr6342 : St _ _ _ _ _ _ ([] ++ []) := hS6334
  obtain ⟨v6337, h6338, Z6343, A6345, hcl6339, hSc6340, v6347, c6348, rfl, rfl, q6346⟩ := arena_New_ok F hSr6342.preL  hx6336
  have hS6341 := hSr6342.call hSc6340
  have hZ6344 := hSc6340.zle
  replace hS6341 : St _ _ _ _ _ _ [.gs v6347 c6348 (csz api_Node)] := hS6341
  refine r_step rfl trivial (o_call hcl6339 rfl rfl rfl) ?_
  refine xq 1 [(23, V r6328), (22, .agg #[v6347]), (0, V r6328), (1, v2714)] ?_
  obtain ⟨r6349, hx6350, hm⟩ := obind hm
  have hSr6356 : St _ _ _ _ _ _ ([] ++ [.gs v6347 c6348 (csz api_Node)]) := hS6341
  obtain ⟨v6351, h6352, Z6357, A6359, hcl6353, hSc6354, v6361, c6362, rfl, rfl, q6360⟩ := correctorref10_New_ok F hSr6356.preL  hx6350
  have hS6355 := hSr6356.call hSc6354
  have hZ6358 := hSc6354.zle
  replace hS6355 : St _ _ _ _ _ _ [.gs v6361 c6362 (csz api_Node), .gs v6347 c6348 (csz api_Node)] := hS6355
  refine r_step rfl trivial (o_call hcl6353 rfl rfl rfl) ?_
  refine r_blk rfl trivial (o_alloc (cs := [.slice none 0 0]) (by kernel_rfl)) hS6355 ?_
  intro b6363 h6364 hS6365
  refine r_blk rfl trivial (o_alloc (cs := [.slice none 0 0]) (by kernel_rfl)) hS6365 ?_
  intro b6366 h6367 hS6368
  refine r_ex1 rfl trivial (o_stb (vs := [v6347]) (cells' := [v6347]) (L' := [.blk b6366 [.slice none 0 0], .blk b6363 [v6347], .gs v6361 c6362 (csz api_Node), .gs v6347 c6348 (csz api_Node)]) hS6368 (i := 1) rfl rfl rfl rfl (by kernel_rfl) (one_cons (hS6368.gone1 (i := 3) rfl) one_nil) rfl rfl rfl) ?_
  intro h6369 hS6370
  refine r_ex1 rfl trivial (o_stb (vs := [v6361]) (cells' := [v6361]) (L' := [.blk b6366 [v6361], .blk b6363 [v6347], .gs v6361 c6362 (csz api_Node), .gs v6347 c6348 (csz api_Node)]) hS6370 (i := 0) rfl rfl rfl rfl (by kernel_rfl) (one_cons (hS6370.gone1 (i := 2) rfl) one_nil) rfl rfl rfl) ?_
  intro h6371 hS6372
  refine xf [(6, Pt b6366 0), (5, Pt b6363 0), (0, V r6328), (1, v2714)] ?_
  refine sq ?_
  refine sr r3_5 ?_
  refine xe 1 [(7, V 0), (6, Pt b6366 0), (5, Pt b6363 0), (0, V r6328), (1, v2714)] ?_
  obtain ⟨o7376, ho7375, hm⟩ := obind hm
  refine W_join [] (fun l h => ∃ Z8155 : Zn, .inl () = o7376 ∧ l = [] ∧ St hs [] Z (0, 0) Z8155 h []) ?_ ?_
  rintro l h8156 ⟨Z8155, rfl, rfl, hS8157⟩
  try dsimp only at hm
  refine sr r3_20 ?_
  refine xe 1 [(4, .bool true)] ?_
  refine rt ?_
  refine ⟨rfl, ?_⟩
  obtain rfl := Option.some.inj hm
  refine ⟨_, _, _, ResL.tmp rfl (ResL.nil), hS8157, ?_⟩
  exact rfl
  refine bk 0 ?_
  obtain ⟨Z7377, hZ7378, q7379, hS7380⟩ := (hS6372.front 3 rfl).freeze (q6346.mono hZ6358)
  replace hS7380 : St _ _ _ _ _ _ [.blk b6366 [v6361], .blk b6363 [v6347], .gs v6361 c6362 (csz api_Node)] := hS7380
  obtain ⟨Z7381, hZ7382, q7383, hS7384⟩ := (hS7380.front 2 rfl).freeze (q6360.mono hZ7378)
  replace hS7384 : St _ _ _ _ _ _ [.blk b6366 [v6361], .blk b6363 [v6347]] := hS7384
  refine lp [0, 1, 5, 6, 7] (fun n l h => ∃ Z7385 : Zn, ∃ x7386 : Int, ∃ x7388 : List api_Node, ∃ x7392 : List api_Node, ∃ x7395 : Int, ∃ b7387 : Nat, ∃ v7390 : Value, ∃ b7391 : Nat, ∃ v7394 : Value, correctorlaw10_ArenaPlays_l0 F a0 a1 n x7386 x7388 x7392 x7395 = some o7376 ∧ RS (α := api_Node) Z7385 v7390 x7388 ∧ RS (α := api_Node) Z7385 v7394 x7392 ∧ l = [(0, V x7386), (1, v2714), (5, Pt b7387 0), (6, Pt b7391 0), (7, V x7395)] ∧ St hs [] Z (0, 0) Z7385 h [.blk b7387 [v7390], .blk b7391 [v7394]]) F ⟨_, r6328, r6335.Nodes, r6349.Nodes, 0, b6363, v6347, b6366, v6361, ho7375, (q7379.mono hZ7382), q7383, rfl, ((hS7384.front 0 rfl).front 1 rfl)⟩ ?_
  rintro n7398 l h7396 ⟨Z7385, x7386, x7388, x7392, x7395, b7387, v7390, b7391, v7394, ho7375, q7389, q7393, rfl, hS7397⟩
  rcases n7398 with _ | n7398
  cases (show none = some o7376 from ho7375)
  rw [correctorlaw10_ArenaPlays_l0] at ho7375
  refine sq ?_
  refine sr r3_6 ?_
  refine xq 2 [(26, v2714), (25, V x7395), (0, V x7386), (1, v2714), (5, Pt b7387 0), (6, Pt b7391 0), (7, V x7395)] ?_
  refine r_step rfl trivial (o_len rfl (RS.len (q2713.mono hS7397.zle)) ⟨_, Go.Proofs.Try.underlying22⟩) ?_
  rcases ifs ho7375 with ⟨hp7403, ho7375⟩ | ⟨hp7403, ho7375⟩
  refine r_step rfl trivial (o_cmp rfl rfl (c_lss_T hp7403)) ?_
  refine xq 2 [(30, V x7395), (29, .bool true), (0, V x7386), (1, v2714), (5, Pt b7387 0), (6, Pt b7391 0), (7, V x7395)] ?_
  rcases ifs ho7375 with ⟨hp7404, ho7375⟩ | ⟨hp7404, ho7375⟩
  refine r_step rfl rfl (o_cmp rfl rfl (c_lss_T hp7404)) ?_
  refine xe 1 [(32, .bool true), (0, V x7386), (1, v2714), (5, Pt b7387 0), (6, Pt b7391 0), (7, V x7395)] ?_
  refine kT 32 rfl ?_
  refine sq ?_
  refine bk 1 ?_
  refine sr r3_8 ?_
  refine xq 2 [(36, V x7395), (35, v2714), (0, V x7386), (1, v2714), (5, Pt b7387 0), (6, Pt b7391 0), (7, V x7395)] ?_
  obtain ⟨hc7405, ho7375⟩ := chk ho7375
  refine r_step rfl trivial (o_index rfl rfl (by kernel_rfl : slTy _ _ = some (csz correctorlaw10_Act)) (RS.based (q2713.mono hS7397.zle) (by omega)) hc7405.1 hc7405.2) ?_
  obtain ⟨x7406, hx7407, ho7375⟩ := obind ho7375
  obtain ⟨cs7408, hc7409, he7410⟩ := RS.elz (q2713.mono hS7397.zle) (i := x7395) hx7407
  obtain rfl := rc_correctorlaw10_Act hc7409
  refine r_step rfl trivial (o_lde (w := .agg #[V x7406.Kind, V x7406.A, V x7406.B, V x7406.C, V x7406.D]) (he7410 _ (hS7397.zin0 (Zle.refl _))) rfl (by kernel_rfl)) ?_
  refine r_blk rfl trivial (o_alloc (cs := [V 0, V 0, V 0, V 0, V 0]) (by kernel_rfl)) hS7397 ?_
  intro b7412 h7413 hS7414
  refine r_ex1 rfl trivial (o_stb (vs := [V x7406.Kind, V x7406.A, V x7406.B, V x7406.C, V x7406.D]) (cells' := (K32 x7406)) (L' := [.blk b7412 (K32 x7406), .blk b7387 [v7390], .blk b7391 [v7394]]) hS7414 (i := 0) rfl rfl rfl rfl (by kernel_rfl) rfl rfl rfl rfl) ?_
  intro h7415 hS7416
  refine xf [(8, Pt b7412 0), (0, V x7386), (1, v2714), (5, Pt b7387 0), (6, Pt b7391 0), (7, V x7395)] ?_
  refine srF r3_9 hS7416 ?_
  intro bs7417 h7418 hlv7420 hS7419
  have lt7421 : b7387 < bs7417 := hlv7420.1 _ (List.mem_of_getElem? (i := 1) rfl) _ (by simp [Itm.ids])
  refine e_lookB rfl trivial rfl (by show b7387 < _; omega) (same_agg (cs := [v7390]) (.cons (RS.sim1 q7389) .nil)) (o_ldb (v := .agg #[v7390]) hS7419 (i := 1) rfl rfl (by kernel_rfl)) trivial ?_
  have lt7422 : b7387 < bs7417 := hlv7420.1 _ (List.mem_of_getElem? (i := 1) rfl) _ (by simp [Itm.ids])
  refine e_lookB rfl trivial rfl (by show b7387 < _; omega) (same_agg (cs := [v7390]) (.cons (RS.sim1 q7389) .nil)) (o_ldb (v := .agg #[v7390]) hS7419 (i := 1) rfl rfl (by kernel_rfl)) trivial ?_
  obtain ⟨r7423, hx7424, ho7375⟩ := obind ho7375
  have hSl7430 := hS7419.lown
  have hSr7431 : St _ _ _ _ _ _ ([] ++ [.blk b7412 (K32 x7406), .blk b7387 [v7390], .blk b7391 [v7394]]) := hSl7430
  obtain ⟨v7425, h7426, Z7432, A7434, hcl7427, hSc7428, v7436, rfl, rfl, q7435⟩ := correctorlaw10_ToRef_ok F hSr7431.preL q7389 hx7424
  have hS7429 := hSr7431.call hSc7428
  have hZ7433 := hSc7428.zle
  replace hS7429 : St _ _ _ _ _ _ [.blk b7412 (K32 x7406), .blk b7387 [v7390], .blk b7391 [v7394]] := hS7429
  refine e_still rfl trivial hS7419 (o_call hcl7427 rfl rfl rfl) hS7429 (St.lowk hSc7428) ?_
  intro h7437 hS7438
  obtain ⟨r7439, hx7440, ho7375⟩ := obind ho7375
  have hSl7446 := hS7438.lown
  have hSr7447 : St _ _ _ _ _ _ ([] ++ [.blk b7412 (K32 x7406), .blk b7387 [v7390], .blk b7391 [v7394]]) := hSl7446
  obtain ⟨v7441, h7442, Z7448, A7450, hcl7443, hSc7444, v7452, rfl, rfl, q7451⟩ := correctorref10_Grow_ok F hSr7447.preL q7435 hx7440
  have hS7445 := hSr7447.call hSc7444
  have hZ7449 := hSc7444.zle
  replace hS7445 : St _ _ _ _ _ _ [.blk b7412 (K32 x7406), .blk b7387 [v7390], .blk b7391 [v7394]] := hS7445
  refine e_still rfl trivial hS7438 (o_call hcl7443 rfl rfl rfl) hS7445 (St.lowk hSc7444) ?_
  intro h7453 hS7454
  refine e_blk rfl trivial (o_alloc (cs := [.slice none 0 0]) (by kernel_rfl)) hS7454 (by omega) (Nat.add_lt_add_left (by decide) _) ?_
  intro b7455 h7456 eb7458 hS7457
  refine e_blk rfl trivial (o_alloc (cs := [.slice none 0 0]) (by kernel_rfl)) hS7457 (by omega) (Nat.add_lt_add_left (by decide) _) ?_
  intro b7459 h7460 eb7462 hS7461
  have hF7465 : St _ _ _ _ _ _ ([.blk b7455 [.slice none 0 0]] ++ [.blk b7459 [.slice none 0 0], .blk b7412 (K32 x7406), .blk b7387 [v7390], .blk b7391 [v7394]]) := (hS7461.front 1 rfl)
  refine e_mk1 rfl trivial hF7465 (o_stb (vs := [v7390]) (cells' := [v7390]) (L' := [.blk b7455 [v7390]]) hF7465.sub (i := 0) rfl rfl rfl rfl (by kernel_rfl) (one_cons (RS.one1 (q7389.mono (hZ7433.trans hZ7449))) one_nil) rfl rfl rfl) (hZ7433.trans hZ7449) (.keep (hF7465.neB 2 rfl blk_mem) (.keep (hF7465.neB 2 rfl blk_mem) .nil)) ?_
  intro h7463 hS7464
  have hF7468 : St _ _ _ _ _ _ ([.blk b7459 [.slice none 0 0]] ++ [.blk b7455 [v7390], .blk b7412 (K32 x7406), .blk b7387 [v7390], .blk b7391 [v7394]]) := (hS7464.front 1 rfl)
  refine e_mk1 rfl trivial hF7468 (o_stb (vs := [v7452]) (cells' := [v7452]) (L' := [.blk b7459 [v7452]]) hF7468.sub (i := 0) rfl rfl rfl rfl (by kernel_rfl) (one_cons (RS.one1 q7451) one_nil) rfl rfl rfl) (hZ7433.trans hZ7449) (.keep (hF7468.neB 2 rfl blk_mem) (.keep (hF7468.neB 2 rfl blk_mem) .nil)) ?_
  intro h7466 hS7467
  refine yf [(10, Pt b7459 0), (9, Pt b7455 0), (8, Pt b7412 0), (0, V x7386), (1, v2714), (5, Pt b7387 0), (6, Pt b7391 0), (7, V x7395)] ?_
  have hS7469 := hS7467.unres
  refine sq ?_
  obtain ⟨o7725, ho7724, ho7375⟩ := obind ho7375
  refine W_join [0, 1, 5, 6, 7, 9, 10] (fun l h => ∃ Z7980 : Zn, ∃ x7982 : List api_Node, ∃ x7987 : List api_Node, ∃ x7991 : List api_Node, ∃ x7995 : List api_Node, ∃ b7981 : Nat, ∃ v7984 : Value, ∃ c7985 : List Value, ∃ b7986 : Nat, ∃ v7989 : Value, ∃ b7990 : Nat, ∃ v7993 : Value, ∃ b7994 : Nat, ∃ v7997 : Value, .inl (x7982, x7987, x7991, x7995) = o7725 ∧ RCs (α := api_Node) Z7980 c7985 x7982 ∧ RS (α := api_Node) Z7980 v7989 x7987 ∧ RS (α := api_Node) Z7980 v7993 x7991 ∧ RS (α := api_Node) Z7980 v7997 x7995 ∧ l = [(0, V x7386), (1, v2714), (5, Pt b7981 0), (6, Pt b7986 0), (7, V x7395), (9, Pt b7990 0), (10, Pt b7994 0)] ∧ St hs [] Z (0, 0) Z7980 h [.blk b7981 [v7984], .gs v7984 c7985 (csz api_Node), .blk b7986 [v7989], .blk b7990 [v7993], .blk b7994 [v7997]]) ?_ ?_
  rintro l h7998 ⟨Z7980, x7982, x7987, x7991, x7995, b7981, v7984, c7985, b7986, v7989, b7990, v7993, b7994, v7997, rfl, q7983, q7988, q7992, q7996, rfl, hS7999⟩
  try dsimp only at ho7375
  refine srF r3_18 hS7999 ?_
  intro bs8069 h8070 hlv8072 hS8071
  have lt8073 : b7981 < bs8069 := hlv8072.1 _ (List.mem_of_getElem? (i := 0) rfl) _ (by simp [Itm.ids])
  refine e_lookB rfl trivial rfl (by show b7981 < _; omega) (same_agg (cs := [v7984]) (.cons (hS8071.gsim1 (i := 1) rfl) .nil)) (o_ldb (v := .agg #[v7984]) hS8071 (i := 0) rfl rfl (by kernel_rfl)) trivial ?_
  obtain ⟨Z8074, hZ8075, q8076, hS8077⟩ := (hS8071.front 1 rfl).freeze q7983
  replace hS8077 : St _ _ _ _ _ _ [.blk b7981 [v7984], .blk b7986 [v7989], .blk b7990 [v7993], .blk b7994 [v7997]] := hS8077
  obtain ⟨r8078, hx8079, ho7375⟩ := obind ho7375
  have hSl8085 := hS8077.lown
  have hSr8086 : St _ _ _ _ _ _ ([] ++ [.blk b7981 [v7984], .blk b7986 [v7989], .blk b7990 [v7993], .blk b7994 [v7997]]) := hSl8085
  obtain ⟨v8080, h8081, Z8087, A8089, hcl8082, hSc8083, v8091, rfl, rfl, q8090⟩ := correctorlaw10_ToRef_ok F hSr8086.preL q8076 hx8079
  have hS8084 := hSr8086.call hSc8083
  have hZ8088 := hSc8083.zle
  replace hS8084 : St _ _ _ _ _ _ [.blk b7981 [v7984], .blk b7986 [v7989], .blk b7990 [v7993], .blk b7994 [v7997]] := hS8084
  refine e_still rfl trivial hS8077 (o_call hcl8082 rfl rfl rfl) hS8084 (St.lowk hSc8083) ?_
  intro h8092 hS8093
  have lt8094 : b7986 < bs8069 := hlv8072.1 _ (List.mem_of_getElem? (i := 2) rfl) _ (by simp [Itm.ids])
  refine e_lookB rfl trivial rfl (by show b7986 < _; omega) (same_agg (cs := [v7989]) (.cons (RS.sim1 (q7988.mono (hZ8075.trans hZ8088))) .nil)) (o_ldb (v := .agg #[v7989]) hS8093 (i := 1) rfl rfl (by kernel_rfl)) trivial ?_
  obtain ⟨r8095, hx8096, ho7375⟩ := obind ho7375
  have hSl8102 := hS8093.lown
  obtain ⟨v8097, h8098, hcl8099, hSc8100, rfl⟩ := correctorref10_Same_ok F hSl8102.inv q8090 (q7988.mono (hZ8075.trans hZ8088)) hx8096
  have hS8101 := St.call (A := []) (B := [.blk b7981 [v7984], .blk b7986 [v7989], .blk b7990 [v7993], .blk b7994 [v7997]]) hSl8102 hSc8100
  replace hS8101 : St _ _ _ _ _ _ [.blk b7981 [v7984], .blk b7986 [v7989], .blk b7990 [v7993], .blk b7994 [v7997]] := hS8101
  refine e_still rfl trivial hS8093 (o_call hcl8099 rfl rfl rfl) hS8101 (St.lowk hSc8100) ?_
  intro h8103 hS8104
  rcases ifs ho7375 with ⟨hp8105, ho7375⟩ | ⟨hp8105, ho7375⟩
  refine e_setb (t := 133) rfl hp8105 ?_
  refine yq 2 [(135, .bool false), (0, V x7386), (1, v2714), (5, Pt b7981 0), (6, Pt b7986 0), (7, V x7395), (9, Pt b7990 0), (10, Pt b7994 0)] ?_
  have lt8106 : b7990 < bs8069 := hlv8072.1 _ (List.mem_of_getElem? (i := 3) rfl) _ (by simp [Itm.ids])
  refine e_lookB rfl rfl rfl (by show b7990 < _; omega) (same_agg (cs := [v7993]) (.cons (RS.sim1 (q7992.mono (hZ8075.trans hZ8088))) .nil)) (o_ldb (v := .agg #[v7993]) hS8104 (i := 2) rfl rfl (by kernel_rfl)) trivial ?_
  obtain ⟨r8107, hx8108, ho7375⟩ := obind ho7375
  have hSl8114 := hS8104.lown
  have hSr8115 : St _ _ _ _ _ _ ([] ++ [.blk b7981 [v7984], .blk b7986 [v7989], .blk b7990 [v7993], .blk b7994 [v7997]]) := hSl8114
  obtain ⟨v8109, h8110, Z8116, A8118, hcl8111, hSc8112, v8120, rfl, rfl, q8119⟩ := correctorlaw10_ToRef_ok F hSr8115.preL (q7992.mono (hZ8075.trans hZ8088)) hx8108
  have hS8113 := hSr8115.call hSc8112
  have hZ8117 := hSc8112.zle
  replace hS8113 : St _ _ _ _ _ _ [.blk b7981 [v7984], .blk b7986 [v7989], .blk b7990 [v7993], .blk b7994 [v7997]] := hS8113
  refine e_still rfl rfl hS8104 (o_call hcl8111 rfl rfl rfl) hS8113 (St.lowk hSc8112) ?_
  intro h8121 hS8122
  have lt8123 : b7994 < bs8069 := hlv8072.1 _ (List.mem_of_getElem? (i := 4) rfl) _ (by simp [Itm.ids])
  refine e_lookB rfl rfl rfl (by show b7994 < _; omega) (same_agg (cs := [v7997]) (.cons (RS.sim1 (q7996.mono (hZ8075.trans (hZ8088.trans hZ8117)))) .nil)) (o_ldb (v := .agg #[v7997]) hS8122 (i := 3) rfl rfl (by kernel_rfl)) trivial ?_
  obtain ⟨r8124, hx8125, ho7375⟩ := obind ho7375
  have hSl8131 := hS8122.lown
  obtain ⟨v8126, h8127, hcl8128, hSc8129, rfl⟩ := correctorref10_Same_ok F hSl8131.inv q8119 (q7996.mono (hZ8075.trans (hZ8088.trans hZ8117))) hx8125
  have hS8130 := St.call (A := []) (B := [.blk b7981 [v7984], .blk b7986 [v7989], .blk b7990 [v7993], .blk b7994 [v7997]]) hSl8131 hSc8129
  replace hS8130 : St _ _ _ _ _ _ [.blk b7981 [v7984], .blk b7986 [v7989], .blk b7990 [v7993], .blk b7994 [v7997]] := hS8130
  refine e_still rfl rfl hS8122 (o_call hcl8128 rfl rfl rfl) hS8130 (St.lowk hSc8129) ?_
  intro h8132 hS8133
  rcases ifs ho7375 with ⟨hp8134, ho7375⟩ | ⟨hp8134, ho7375⟩
  refine e_setb (t := 139) rfl hp8134 ?_
  refine ye 2 [(141, .bool false), (0, V x7386), (1, v2714), (5, Pt b7981 0), (6, Pt b7986 0), (7, V x7395)] ?_
  have hS8135 := hS8133.unres
  refine kF 141 rfl ?_
  refine rg r3_7 ?_
  refine xe 3 [(7, V (w64 (x7395 + 1))), (0, V x7386), (1, v2714), (5, Pt b7981 0), (6, Pt b7986 0)] ?_
  exact ⟨n7398, Nat.lt_succ_self _, ⟨_, x7386, x7982, x7987, w64 (x7395 + 1), b7981, v7984, b7986, v7989, ho7375, (q8076.mono (hZ8088.trans hZ8117)), (q7988.mono (hZ8075.trans (hZ8088.trans hZ8117))), rfl, (hS8135.takeN 2)⟩⟩
  refine e_setb (t := 139) rfl (Bool.eq_false_iff.2 hp8134) ?_
  refine ye 2 [(141, .bool true), (0, V x7386), (1, v2714), (5, Pt b7981 0), (6, Pt b7986 0), (7, V x7395)] ?_
  have hS8136 := hS8133.unres
  refine cT 141 rfl ?_
  refine sr r3_19 ?_
  refine xe 1 [(4, .bool false)] ?_
  refine rt ?_
  refine blkX_ret ?_
  refine blkX_ret ?_
  refine ⟨rfl, ?_⟩
  obtain rfl := Option.some.inj ho7375
  obtain rfl := Option.some.inj hm
  refine ⟨_, _, _, ResL.tmp rfl (ResL.nil), hS8136, ?_⟩
  exact rfl
  refine e_setb (t := 133) rfl (Bool.eq_false_iff.2 hp8105) ?_
  refine ye 8 [(141, .bool true), (0, V x7386), (1, v2714), (5, Pt b7981 0), (6, Pt b7986 0), (7, V x7395)] ?_
  have hS8137 := hS8104.unres
  refine cT 141 rfl ?_
  refine sr r3_19 ?_
  refine xe 1 [(4, .bool false)] ?_
  refine rt ?_
  refine blkX_ret ?_
  refine blkX_ret ?_
  refine ⟨rfl, ?_⟩
  obtain rfl := Option.some.inj ho7375
  obtain rfl := Option.some.inj hm
  refine ⟨_, _, _, ResL.tmp rfl (ResL.nil), hS8137, ?_⟩
  exact rfl
  refine sr r3_10 ?_
  refine xq 1 [(43, Pt b7412 0), (10, Pt b7459 0), (9, Pt b7455 0), (8, Pt b7412 0), (0, V x7386), (1, v2714), (5, Pt b7387 0), (6, Pt b7391 0), (7, V x7395)] ?_
  refine r_step rfl trivial (o_ldb (v := V x7406.Kind) hS7469 (i := 2) rfl rfl (by kernel_rfl)) ?_
  obtain ⟨r7734, hx7735, ho7724⟩ := obind ho7724
  obtain ⟨v7736, h7737, hcl7738, hSc7739, rfl⟩ := correctorlaw10_within_ok F hS7469.inv  hx7735
  have hS7740 := St.call (A := []) (B := [.blk b7459 [v7452], .blk b7455 [v7390], .blk b7412 (K32 x7406), .blk b7387 [v7390], .blk b7391 [v7394]]) hS7469 hSc7739
  replace hS7740 : St _ _ _ _ _ _ [.blk b7459 [v7452], .blk b7455 [v7390], .blk b7412 (K32 x7406), .blk b7387 [v7390], .blk b7391 [v7394]] := hS7740
  refine r_step rfl trivial (o_call hcl7738 rfl rfl rfl) ?_
  rcases ifs ho7724 with ⟨hp7741, ho7724⟩ | ⟨hp7741, ho7724⟩
  refine r_step rfl trivial (o_cmp rfl rfl (c_lss_T hp7741)) ?_
  refine xf [(46, .bool true), (10, Pt b7459 0), (9, Pt b7455 0), (8, Pt b7412 0), (0, V x7386), (1, v2714), (5, Pt b7387 0), (6, Pt b7391 0), (7, V x7395)] ?_
  refine cT 46 rfl ?_
  refine srF r3_11 hS7740 ?_
  intro bs7742 h7743 hlv7745 hS7744
  refine yq 1 [(47, Pt b7412 1), (10, Pt b7459 0), (9, Pt b7455 0), (8, Pt b7412 0), (0, V x7386), (1, v2714), (5, Pt b7387 0), (6, Pt b7391 0), (7, V x7395)] ?_
  have lt7746 : b7412 < bs7742 := hlv7745.1 _ (List.mem_of_getElem? (i := 2) rfl) _ (by simp [Itm.ids])
  refine e_lookB rfl trivial rfl (by show b7412 < _; omega) (same1 (v := V x7406.A) trivial) (o_ldb (v := V x7406.A) hS7744 (i := 2) rfl rfl (by kernel_rfl)) trivial ?_
  refine yq 1 [(49, Pt b7391 0), (48, V x7406.A), (10, Pt b7459 0), (9, Pt b7455 0), (8, Pt b7412 0), (0, V x7386), (1, v2714), (5, Pt b7387 0), (6, Pt b7391 0), (7, V x7395)] ?_
  have lt7747 : b7391 < bs7742 := hlv7745.1 _ (List.mem_of_getElem? (i := 4) rfl) _ (by simp [Itm.ids])
  refine e_lookB rfl trivial rfl (by show b7391 < _; omega) (same1 (v := v7394) (RS.sim1 (q7393.mono (hZ7433.trans hZ7449)))) (o_ldb (v := v7394) hS7744 (i := 4) rfl rfl (by kernel_rfl)) trivial ?_
  refine e_val rfl trivial (o_len rfl (RS.len (q7393.mono (hZ7433.trans hZ7449))) ⟨_, Go.Proofs.Try.underlying25⟩) ?_
  refine yq 1 [(52, V (w64 ((x7392.length : Int) + 2))), (48, V x7406.A), (10, Pt b7459 0), (9, Pt b7455 0), (8, Pt b7412 0), (0, V x7386), (1, v2714), (5, Pt b7387 0), (6, Pt b7391 0), (7, V x7395)] ?_
  obtain ⟨r7748, hx7749, ho7724⟩ := obind ho7724
  have hSl7755 := hS7744.lown
  obtain ⟨v7750, h7751, hcl7752, hSc7753, rfl⟩ := correctorlaw10_within_ok F hSl7755.inv  hx7749
  have hS7754 := St.call (A := []) (B := [.blk b7459 [v7452], .blk b7455 [v7390], .blk b7412 (K32 x7406), .blk b7387 [v7390], .blk b7391 [v7394]]) hSl7755 hSc7753
  replace hS7754 : St _ _ _ _ _ _ [.blk b7459 [v7452], .blk b7455 [v7390], .blk b7412 (K32 x7406), .blk b7387 [v7390], .blk b7391 [v7394]] := hS7754
  refine e_still rfl trivial hS7744 (o_call hcl7752 rfl rfl rfl) hS7754 (St.lowk hSc7753) ?_
  intro h7756 hS7757
  refine yq 2 [(55, Pt b7412 3), (54, V (w64 (r7748 - 1))), (10, Pt b7459 0), (9, Pt b7455 0), (8, Pt b7412 0), (0, V x7386), (1, v2714), (5, Pt b7387 0), (6, Pt b7391 0), (7, V x7395)] ?_
  have lt7758 : b7412 < bs7742 := hlv7745.1 _ (List.mem_of_getElem? (i := 2) rfl) _ (by simp [Itm.ids])
  refine e_lookB rfl trivial rfl (by show b7412 < _; omega) (same1 (v := V x7406.C) trivial) (o_ldb (v := V x7406.C) hS7757 (i := 2) rfl rfl (by kernel_rfl)) trivial ?_
  refine yq 2 [(58, V (w64 (x7386 + 2))), (56, V x7406.C), (54, V (w64 (r7748 - 1))), (10, Pt b7459 0), (9, Pt b7455 0), (8, Pt b7412 0), (0, V x7386), (1, v2714), (5, Pt b7387 0), (6, Pt b7391 0), (7, V x7395)] ?_
  obtain ⟨r7759, hx7760, ho7724⟩ := obind ho7724
  have hSl7766 := hS7757.lown
  obtain ⟨v7761, h7762, hcl7763, hSc7764, rfl⟩ := correctorlaw10_within_ok F hSl7766.inv  hx7760
  have hS7765 := St.call (A := []) (B := [.blk b7459 [v7452], .blk b7455 [v7390], .blk b7412 (K32 x7406), .blk b7387 [v7390], .blk b7391 [v7394]]) hSl7766 hSc7764
  replace hS7765 : St _ _ _ _ _ _ [.blk b7459 [v7452], .blk b7455 [v7390], .blk b7412 (K32 x7406), .blk b7387 [v7390], .blk b7391 [v7394]] := hS7765
  refine e_still rfl trivial hS7757 (o_call hcl7763 rfl rfl rfl) hS7765 (St.lowk hSc7764) ?_
  intro h7767 hS7768
  refine ye 3 [(12, V (w64 (r7759 - 1))), (11, V (w64 (r7748 - 1))), (10, Pt b7459 0), (9, Pt b7455 0), (8, Pt b7412 0), (0, V x7386), (1, v2714), (5, Pt b7387 0), (6, Pt b7391 0), (7, V x7395)] ?_
  have hS7769 := hS7768.unres
  refine srF r3_12 hS7769 ?_
  intro bs7770 h7771 hlv7773 hS7772
  have lt7774 : b7387 < bs7770 := hlv7773.1 _ (List.mem_of_getElem? (i := 3) rfl) _ (by simp [Itm.ids])
  refine e_lookB rfl trivial rfl (by show b7387 < _; omega) (same_agg (cs := [v7390]) (.cons (RS.sim1 (q7389.mono (hZ7433.trans hZ7449))) .nil)) (o_ldb (v := .agg #[v7390]) hS7772 (i := 3) rfl rfl (by kernel_rfl)) trivial ?_
  refine yq 2 [(64, Pt b7412 2), (63, V (w64 (r7748 - 1))), (62, .agg #[v7390]), (12, V (w64 (r7759 - 1))), (11, V (w64 (r7748 - 1))), (10, Pt b7459 0), (9, Pt b7455 0), (8, Pt b7412 0), (0, V x7386), (1, v2714), (5, Pt b7387 0), (6, Pt b7391 0), (7, V x7395)] ?_
  have lt7775 : b7412 < bs7770 := hlv7773.1 _ (List.mem_of_getElem? (i := 2) rfl) _ (by simp [Itm.ids])
  refine e_lookB rfl trivial rfl (by show b7412 < _; omega) (same1 (v := V x7406.B) trivial) (o_ldb (v := V x7406.B) hS7772 (i := 2) rfl rfl (by kernel_rfl)) trivial ?_
  obtain ⟨r7776, hx7777, ho7724⟩ := obind ho7724
  have hSl7783 := hS7772.lown
  obtain ⟨v7778, h7779, hcl7780, hSc7781, rfl⟩ := correctorlaw10_within_ok F hSl7783.inv  hx7777
  have hS7782 := St.call (A := []) (B := [.blk b7459 [v7452], .blk b7455 [v7390], .blk b7412 (K32 x7406), .blk b7387 [v7390], .blk b7391 [v7394]]) hSl7783 hSc7781
  replace hS7782 : St _ _ _ _ _ _ [.blk b7459 [v7452], .blk b7455 [v7390], .blk b7412 (K32 x7406), .blk b7387 [v7390], .blk b7391 [v7394]] := hS7782
  refine e_still rfl trivial hS7772 (o_call hcl7780 rfl rfl rfl) hS7782 (St.lowk hSc7781) ?_
  intro h7784 hS7785
  refine yq 4 [(70, Pt b7412 4), (69, V (w64 (r7759 - 1))), (68, V (w64 (r7759 - 1))), (67, V (w64 (1 + r7776))), (63, V (w64 (r7748 - 1))), (62, .agg #[v7390]), (12, V (w64 (r7759 - 1))), (11, V (w64 (r7748 - 1))), (10, Pt b7459 0), (9, Pt b7455 0), (8, Pt b7412 0), (0, V x7386), (1, v2714), (5, Pt b7387 0), (6, Pt b7391 0), (7, V x7395)] ?_
  have lt7786 : b7412 < bs7770 := hlv7773.1 _ (List.mem_of_getElem? (i := 2) rfl) _ (by simp [Itm.ids])
  refine e_lookB rfl trivial rfl (by show b7412 < _; omega) (same1 (v := V x7406.D) trivial) (o_ldb (v := V x7406.D) hS7785 (i := 2) rfl rfl (by kernel_rfl)) trivial ?_
  obtain ⟨r7787, hx7788, ho7724⟩ := obind ho7724
  have hSl7794 := hS7785.lown
  obtain ⟨v7789, h7790, hcl7791, hSc7792, rfl⟩ := correctorlaw10_within_ok F hSl7794.inv  hx7788
  have hS7793 := St.call (A := []) (B := [.blk b7459 [v7452], .blk b7455 [v7390], .blk b7412 (K32 x7406), .blk b7387 [v7390], .blk b7391 [v7394]]) hSl7794 hSc7792
  replace hS7793 : St _ _ _ _ _ _ [.blk b7459 [v7452], .blk b7455 [v7390], .blk b7412 (K32 x7406), .blk b7387 [v7390], .blk b7391 [v7394]] := hS7793
  refine e_still rfl trivial hS7785 (o_call hcl7791 rfl rfl rfl) hS7793 (St.lowk hSc7792) ?_
  intro h7795 hS7796
  refine yq 2 [(74, V (w64 ((w64 ((w64 (r7759 - 1)) + r7787)) - 1))), (68, V (w64 (r7759 - 1))), (67, V (w64 (1 + r7776))), (63, V (w64 (r7748 - 1))), (62, .agg #[v7390]), (12, V (w64 (r7759 - 1))), (11, V (w64 (r7748 - 1))), (10, Pt b7459 0), (9, Pt b7455 0), (8, Pt b7412 0), (0, V x7386), (1, v2714), (5, Pt b7387 0), (6, Pt b7391 0), (7, V x7395)] ?_
  obtain ⟨r7797, hx7798, ho7724⟩ := obind ho7724
  have hSl7804 := hS7796.lown
  have hSr7805 : St _ _ _ _ _ _ ([] ++ [.blk b7459 [v7452], .blk b7455 [v7390], .blk b7412 (K32 x7406), .blk b7387 [v7390], .blk b7391 [v7394]]) := hSl7804
  obtain ⟨v7799, h7800, Z7806, A7808, hcl7801, hSc7802, v7810, c7811, rfl, rfl, q7809⟩ := arena_Add_ok F hSr7805.preL (q7389.mono (hZ7433.trans hZ7449)) hx7798
  have hS7803 := hSr7805.call hSc7802
  have hZ7807 := hSc7802.zle
  replace hS7803 : St _ _ _ _ _ _ [.gs v7810 c7811 (csz api_Node), .blk b7459 [v7452], .blk b7455 [v7390], .blk b7412 (K32 x7406), .blk b7387 [v7390], .blk b7391 [v7394]] := hS7803
  refine e_still rfl trivial hS7796 (o_call hcl7801 rfl rfl rfl) hS7803 (St.lowk hSc7802) ?_
  intro h7812 hS7813
  refine yq 3 [(77, V r7797.2), (76, .agg #[v7810]), (12, V (w64 (r7759 - 1))), (11, V (w64 (r7748 - 1))), (10, Pt b7459 0), (9, Pt b7455 0), (8, Pt b7412 0), (0, V x7386), (1, v2714), (5, Pt b7387 0), (6, Pt b7391 0), (7, V x7395)] ?_
  refine e_blk rfl trivial (o_alloc (cs := [.slice none 0 0]) (by kernel_rfl)) hS7813 (by omega) (Nat.add_lt_add_left (by decide) _) ?_
  intro b7814 h7815 eb7817 hS7816
  have hF7820 : St _ _ _ _ _ _ ([.blk b7814 [.slice none 0 0]] ++ [.gs v7810 c7811 (csz api_Node), .blk b7459 [v7452], .blk b7455 [v7390], .blk b7412 (K32 x7406), .blk b7387 [v7390], .blk b7391 [v7394]]) := (hS7816.front 0 rfl)
  refine e_mk1 rfl trivial hF7820 (o_stb (vs := [v7810]) (cells' := [v7810]) (L' := [.blk b7814 [v7810]]) hF7820.sub (i := 0) rfl rfl rfl rfl (by kernel_rfl) (one_cons (hS7816.gone1 (i := 1) rfl) one_nil) rfl rfl rfl) hZ7807 (.keep (hF7820.neB 3 rfl blk_mem) (.keep (hF7820.neB 3 rfl blk_mem) (.keep (hF7820.neB 4 rfl blk_mem) .nil))) ?_
  intro h7818 hS7819
  refine ye 1 [(14, V r7797.2), (13, Pt b7814 0), (12, V (w64 (r7759 - 1))), (11, V (w64 (r7748 - 1))), (10, Pt b7459 0), (9, Pt b7455 0), (8, Pt b7412 0), (0, V x7386), (1, v2714), (5, Pt b7387 0), (6, Pt b7391 0), (7, V x7395)] ?_
  have hS7821 := hS7819.unres
  refine srF r3_13 hS7821 ?_
  intro bs7822 h7823 hlv7825 hS7824
  have lt7826 : b7391 < bs7822 := hlv7825.1 _ (List.mem_of_getElem? (i := 6) rfl) _ (by simp [Itm.ids])
  refine e_lookB rfl trivial rfl (by show b7391 < _; omega) (same_agg (cs := [v7394]) (.cons (RS.sim1 (q7393.mono (hZ7433.trans (hZ7449.trans hZ7807)))) .nil)) (o_ldb (v := .agg #[v7394]) hS7824 (i := 6) rfl rfl (by kernel_rfl)) trivial ?_
  refine yq 2 [(81, Pt b7412 2), (80, V (w64 (r7748 - 1))), (79, .agg #[v7394]), (14, V r7797.2), (13, Pt b7814 0), (12, V (w64 (r7759 - 1))), (10, Pt b7459 0), (9, Pt b7455 0), (8, Pt b7412 0), (0, V x7386), (1, v2714), (5, Pt b7387 0), (6, Pt b7391 0), (7, V x7395)] ?_
  have lt7827 : b7412 < bs7822 := hlv7825.1 _ (List.mem_of_getElem? (i := 4) rfl) _ (by simp [Itm.ids])
  refine e_lookB rfl trivial rfl (by show b7412 < _; omega) (same1 (v := V x7406.B) trivial) (o_ldb (v := V x7406.B) hS7824 (i := 4) rfl rfl (by kernel_rfl)) trivial ?_
  obtain ⟨r7828, hx7829, ho7724⟩ := obind ho7724
  have hSl7835 := hS7824.lown
  obtain ⟨v7830, h7831, hcl7832, hSc7833, rfl⟩ := correctorlaw10_within_ok F hSl7835.inv  hx7829
  have hS7834 := St.call (A := []) (B := [.blk b7814 [v7810], .gs v7810 c7811 (csz api_Node), .blk b7459 [v7452], .blk b7455 [v7390], .blk b7412 (K32 x7406), .blk b7387 [v7390], .blk b7391 [v7394]]) hSl7835 hSc7833
  replace hS7834 : St _ _ _ _ _ _ [.blk b7814 [v7810], .gs v7810 c7811 (csz api_Node), .blk b7459 [v7452], .blk b7455 [v7390], .blk b7412 (K32 x7406), .blk b7387 [v7390], .blk b7391 [v7394]] := hS7834
  refine e_still rfl trivial hS7824 (o_call hcl7832 rfl rfl rfl) hS7834 (St.lowk hSc7833) ?_
  intro h7836 hS7837
  refine yq 4 [(87, Pt b7412 4), (86, V (w64 (r7759 - 1))), (85, V (w64 (r7759 - 1))), (84, V (w64 (1 + r7828))), (80, V (w64 (r7748 - 1))), (79, .agg #[v7394]), (14, V r7797.2), (13, Pt b7814 0), (10, Pt b7459 0), (9, Pt b7455 0), (0, V x7386), (1, v2714), (5, Pt b7387 0), (6, Pt b7391 0), (7, V x7395)] ?_
  have lt7838 : b7412 < bs7822 := hlv7825.1 _ (List.mem_of_getElem? (i := 4) rfl) _ (by simp [Itm.ids])
  refine e_lookB rfl trivial rfl (by show b7412 < _; omega) (same1 (v := V x7406.D) trivial) (o_ldb (v := V x7406.D) hS7837 (i := 4) rfl rfl (by kernel_rfl)) trivial ?_
  obtain ⟨r7839, hx7840, ho7724⟩ := obind ho7724
  have hSl7846 := hS7837.lown
  obtain ⟨v7841, h7842, hcl7843, hSc7844, rfl⟩ := correctorlaw10_within_ok F hSl7846.inv  hx7840
  have hS7845 := St.call (A := []) (B := [.blk b7814 [v7810], .gs v7810 c7811 (csz api_Node), .blk b7459 [v7452], .blk b7455 [v7390], .blk b7412 (K32 x7406), .blk b7387 [v7390], .blk b7391 [v7394]]) hSl7846 hSc7844
  replace hS7845 : St _ _ _ _ _ _ [.blk b7814 [v7810], .gs v7810 c7811 (csz api_Node), .blk b7459 [v7452], .blk b7455 [v7390], .blk b7412 (K32 x7406), .blk b7387 [v7390], .blk b7391 [v7394]] := hS7845
  refine e_still rfl trivial hS7837 (o_call hcl7843 rfl rfl rfl) hS7845 (St.lowk hSc7844) ?_
  intro h7847 hS7848
  refine yq 2 [(91, V (w64 ((w64 ((w64 (r7759 - 1)) + r7839)) - 1))), (85, V (w64 (r7759 - 1))), (84, V (w64 (1 + r7828))), (80, V (w64 (r7748 - 1))), (79, .agg #[v7394]), (14, V r7797.2), (13, Pt b7814 0), (10, Pt b7459 0), (9, Pt b7455 0), (0, V x7386), (1, v2714), (5, Pt b7387 0), (6, Pt b7391 0), (7, V x7395)] ?_
  obtain ⟨r7849, hx7850, ho7724⟩ := obind ho7724
  have hSl7856 := hS7848.lown
  have hSr7857 : St _ _ _ _ _ _ ([] ++ [.blk b7814 [v7810], .gs v7810 c7811 (csz api_Node), .blk b7459 [v7452], .blk b7455 [v7390], .blk b7412 (K32 x7406), .blk b7387 [v7390], .blk b7391 [v7394]]) := hSl7856
  obtain ⟨v7851, h7852, Z7858, A7860, hcl7853, hSc7854, v7862, rfl, rfl, q7861⟩ := correctorref10_Add_ok F hSr7857.preL (q7393.mono (hZ7433.trans (hZ7449.trans hZ7807))) hx7850
  have hS7855 := hSr7857.call hSc7854
  have hZ7859 := hSc7854.zle
  replace hS7855 : St _ _ _ _ _ _ [.blk b7814 [v7810], .gs v7810 c7811 (csz api_Node), .blk b7459 [v7452], .blk b7455 [v7390], .blk b7412 (K32 x7406), .blk b7387 [v7390], .blk b7391 [v7394]] := hS7855
  refine e_still rfl trivial hS7848 (o_call hcl7853 rfl rfl rfl) hS7855 (St.lowk hSc7854) ?_
  intro h7863 hS7864
  refine yq 3 [(94, V r7849.2), (93, .agg #[v7862]), (14, V r7797.2), (13, Pt b7814 0), (10, Pt b7459 0), (9, Pt b7455 0), (0, V x7386), (1, v2714), (5, Pt b7387 0), (6, Pt b7391 0), (7, V x7395)] ?_
  refine e_blk rfl trivial (o_alloc (cs := [.slice none 0 0]) (by kernel_rfl)) hS7864 (by omega) (Nat.add_lt_add_left (by decide) _) ?_
  intro b7865 h7866 eb7868 hS7867
  have hF7871 : St _ _ _ _ _ _ ([.blk b7865 [.slice none 0 0]] ++ [.blk b7814 [v7810], .gs v7810 c7811 (csz api_Node), .blk b7459 [v7452], .blk b7455 [v7390], .blk b7412 (K32 x7406), .blk b7387 [v7390], .blk b7391 [v7394]]) := (hS7867.front 0 rfl)
  refine e_mk1 rfl trivial hF7871 (o_stb (vs := [v7862]) (cells' := [v7862]) (L' := [.blk b7865 [v7862]]) hF7871.sub (i := 0) rfl rfl rfl rfl (by kernel_rfl) (one_cons (RS.one1 q7861) one_nil) rfl rfl rfl) hZ7859 (.keep (hF7871.neB 4 rfl blk_mem) (.keep (hF7871.neB 4 rfl blk_mem) (.keep (hF7871.neB 6 rfl blk_mem) .nil))) ?_
  intro h7869 hS7870
  refine ye 1 [(16, V r7849.2), (15, Pt b7865 0), (14, V r7797.2), (13, Pt b7814 0), (10, Pt b7459 0), (9, Pt b7455 0), (0, V x7386), (1, v2714), (5, Pt b7387 0), (6, Pt b7391 0), (7, V x7395)] ?_
  have hS7872 := hS7870.unres
  refine sq ?_
  refine sr r3_14 ?_
  refine xq 2 [(96, V r7849.2), (95, V r7797.2), (15, Pt b7865 0), (13, Pt b7814 0), (10, Pt b7459 0), (9, Pt b7455 0), (0, V x7386), (1, v2714), (5, Pt b7387 0), (6, Pt b7391 0), (7, V x7395)] ?_
  rcases ifs ho7724 with ⟨hp7874, ho7724⟩ | ⟨hp7874, ho7724⟩
  refine r_step rfl trivial (o_cmp rfl rfl (c_neq_F hp7874)) ?_
  refine xf [(97, .bool false), (15, Pt b7865 0), (13, Pt b7814 0), (10, Pt b7459 0), (9, Pt b7455 0), (0, V x7386), (1, v2714), (5, Pt b7387 0), (6, Pt b7391 0), (7, V x7395)] ?_
  refine kF 97 rfl ?_
  refine rgF r3_16 hS7872 ?_
  intro bs7875 h7876 hlv7878 hS7877
  have lt7879 : b7814 < bs7875 := hlv7878.1 _ (List.mem_of_getElem? (i := 1) rfl) _ (by simp [Itm.ids])
  refine e_lookB rfl trivial rfl (by show b7814 < _; omega) (same_agg (cs := [v7810]) (.cons (hS7877.gsim1 (i := 2) rfl) .nil)) (o_ldb (v := .agg #[v7810]) hS7877 (i := 1) rfl rfl (by kernel_rfl)) trivial ?_
  have lt7880 : b7865 < bs7875 := hlv7878.1 _ (List.mem_of_getElem? (i := 0) rfl) _ (by simp [Itm.ids])
  refine e_lookB rfl trivial rfl (by show b7865 < _; omega) (same_agg (cs := [v7862]) (.cons (RS.sim1 q7861) .nil)) (o_ldb (v := .agg #[v7862]) hS7877 (i := 0) rfl rfl (by kernel_rfl)) trivial ?_
  have hF7883 : St _ _ _ _ _ _ ([.blk b7387 [v7390]] ++ [.blk b7865 [v7862], .blk b7814 [v7810], .gs v7810 c7811 (csz api_Node), .blk b7459 [v7452], .blk b7455 [v7390], .blk b7412 (K32 x7406), .blk b7391 [v7394]]) := (hS7877.front 6 rfl)
  refine e_mk1 rfl trivial hF7883 (o_stb (vs := [v7810]) (cells' := [v7810]) (L' := [.blk b7387 [v7810]]) hF7883.sub (i := 0) rfl rfl rfl rfl (by kernel_rfl) (one_cons (hS7877.gone1 (i := 2) rfl) one_nil) rfl rfl rfl) (Zle.refl _) (.keep (hF7883.neB 0 rfl blk_mem) (.keep (hF7883.neB 1 rfl blk_mem) .nil)) ?_
  intro h7881 hS7882
  have hF7886 : St _ _ _ _ _ _ ([.blk b7391 [v7394]] ++ [.blk b7387 [v7810], .blk b7865 [v7862], .blk b7814 [v7810], .gs v7810 c7811 (csz api_Node), .blk b7459 [v7452], .blk b7455 [v7390], .blk b7412 (K32 x7406)]) := (hS7882.front 7 rfl)
  refine e_mk1 rfl trivial hF7886 (o_stb (vs := [v7862]) (cells' := [v7862]) (L' := [.blk b7391 [v7862]]) hF7886.sub (i := 0) rfl rfl rfl rfl (by kernel_rfl) (one_cons (RS.one1 q7861) one_nil) rfl rfl rfl) (Zle.refl _) (.keep (hF7886.neB 1 rfl blk_mem) (.keep (hF7886.neB 2 rfl blk_mem) .nil)) ?_
  intro h7884 hS7885
  refine yf [(10, Pt b7459 0), (9, Pt b7455 0), (0, V x7386), (1, v2714), (5, Pt b7387 0), (6, Pt b7391 0), (7, V x7395)] ?_
  have hS7887 := hS7885.unres
  obtain rfl := Option.some.inj ho7724
  exact ⟨_, r7797.1.Nodes, r7849.1.Nodes, x7388, r7439.Nodes, b7387, v7810, c7811, b7391, v7862, b7455, v7390, b7459, v7452, rfl, (q7809.mono hZ7859), q7861, (q7389.mono (hZ7433.trans (hZ7449.trans (hZ7807.trans hZ7859)))), (q7451.mono (hZ7807.trans hZ7859)), rfl, ((((((hS7887.front 5 rfl).front 6 rfl).front 2 rfl).front 6 rfl).front 4 rfl).takeN 5)⟩
  refine r_step rfl trivial (o_cmp rfl rfl (c_neq_T hp7874)) ?_
  refine xf [(97, .bool true), (15, Pt b7865 0), (13, Pt b7814 0), (10, Pt b7459 0), (9, Pt b7455 0), (0, V x7386), (1, v2714), (5, Pt b7387 0), (6, Pt b7391 0), (7, V x7395)] ?_
  refine cT 97 rfl ?_
  refine sr r3_15 ?_
  refine xe 1 [(4, .bool false)] ?_
  refine rt ?_
  refine blkX_ret ?_
  refine blkX_ret ?_
  refine ⟨rfl, ?_⟩
  obtain rfl := Option.some.inj ho7724
  obtain rfl := Option.some.inj ho7375
  obtain rfl := Option.some.inj hm
  refine ⟨_, _, _, ResL.tmp rfl (ResL.nil), hS7872, ?_⟩
  exact rfl
  refine r_step rfl trivial (o_cmp rfl rfl (c_lss_F hp7741)) ?_
  refine xf [(46, .bool false), (10, Pt b7459 0), (9, Pt b7455 0), (8, Pt b7412 0), (0, V x7386), (1, v2714), (5, Pt b7387 0), (6, Pt b7391 0), (7, V x7395)] ?_
  refine cF 46 rfl ?_
  refine rgF r3_17 hS7740 ?_
  intro bs7888 h7889 hlv7891 hS7890
  have lt7892 : b7387 < bs7888 := hlv7891.1 _ (List.mem_of_getElem? (i := 3) rfl) _ (by simp [Itm.ids])
  refine e_lookB rfl trivial rfl (by show b7387 < _; omega) (same_agg (cs := [v7390]) (.cons (RS.sim1 (q7389.mono (hZ7433.trans hZ7449))) .nil)) (o_ldb (v := .agg #[v7390]) hS7890 (i := 3) rfl rfl (by kernel_rfl)) trivial ?_
  refine yq 1 [(101, Pt b7412 1), (100, .agg #[v7390]), (10, Pt b7459 0), (9, Pt b7455 0), (8, Pt b7412 0), (0, V x7386), (1, v2714), (5, Pt b7387 0), (6, Pt b7391 0), (7, V x7395)] ?_
  have lt7893 : b7412 < bs7888 := hlv7891.1 _ (List.mem_of_getElem? (i := 2) rfl) _ (by simp [Itm.ids])
  refine e_lookB rfl trivial rfl (by show b7412 < _; omega) (same1 (v := V x7406.A) trivial) (o_ldb (v := V x7406.A) hS7890 (i := 2) rfl rfl (by kernel_rfl)) trivial ?_
  refine yq 1 [(103, Pt b7391 0), (102, V x7406.A), (100, .agg #[v7390]), (10, Pt b7459 0), (9, Pt b7455 0), (8, Pt b7412 0), (0, V x7386), (1, v2714), (5, Pt b7387 0), (6, Pt b7391 0), (7, V x7395)] ?_
  have lt7894 : b7391 < bs7888 := hlv7891.1 _ (List.mem_of_getElem? (i := 4) rfl) _ (by simp [Itm.ids])
  refine e_lookB rfl trivial rfl (by show b7391 < _; omega) (same1 (v := v7394) (RS.sim1 (q7393.mono (hZ7433.trans hZ7449)))) (o_ldb (v := v7394) hS7890 (i := 4) rfl rfl (by kernel_rfl)) trivial ?_
  refine e_val rfl trivial (o_len rfl (RS.len (q7393.mono (hZ7433.trans hZ7449))) ⟨_, Go.Proofs.Try.underlying25⟩) ?_
  refine yq 1 [(106, V (w64 ((x7392.length : Int) + 2))), (102, V x7406.A), (100, .agg #[v7390]), (10, Pt b7459 0), (9, Pt b7455 0), (8, Pt b7412 0), (0, V x7386), (1, v2714), (5, Pt b7387 0), (6, Pt b7391 0), (7, V x7395)] ?_
  obtain ⟨r7895, hx7896, ho7724⟩ := obind ho7724
  have hSl7902 := hS7890.lown
  obtain ⟨v7897, h7898, hcl7899, hSc7900, rfl⟩ := correctorlaw10_within_ok F hSl7902.inv  hx7896
  have hS7901 := St.call (A := []) (B := [.blk b7459 [v7452], .blk b7455 [v7390], .blk b7412 (K32 x7406), .blk b7387 [v7390], .blk b7391 [v7394]]) hSl7902 hSc7900
  replace hS7901 : St _ _ _ _ _ _ [.blk b7459 [v7452], .blk b7455 [v7390], .blk b7412 (K32 x7406), .blk b7387 [v7390], .blk b7391 [v7394]] := hS7901
  refine e_still rfl trivial hS7890 (o_call hcl7899 rfl rfl rfl) hS7901 (St.lowk hSc7900) ?_
  intro h7903 hS7904
  refine yq 2 [(109, Pt b7412 3), (108, V (w64 (r7895 - 1))), (100, .agg #[v7390]), (10, Pt b7459 0), (9, Pt b7455 0), (8, Pt b7412 0), (0, V x7386), (1, v2714), (5, Pt b7387 0), (6, Pt b7391 0), (7, V x7395)] ?_
  have lt7905 : b7412 < bs7888 := hlv7891.1 _ (List.mem_of_getElem? (i := 2) rfl) _ (by simp [Itm.ids])
  refine e_lookB rfl trivial rfl (by show b7412 < _; omega) (same1 (v := V x7406.C) trivial) (o_ldb (v := V x7406.C) hS7904 (i := 2) rfl rfl (by kernel_rfl)) trivial ?_
  refine yq 2 [(112, V (w64 (x7386 + 2))), (110, V x7406.C), (108, V (w64 (r7895 - 1))), (100, .agg #[v7390]), (10, Pt b7459 0), (9, Pt b7455 0), (8, Pt b7412 0), (0, V x7386), (1, v2714), (5, Pt b7387 0), (6, Pt b7391 0), (7, V x7395)] ?_
  obtain ⟨r7906, hx7907, ho7724⟩ := obind ho7724
  have hSl7913 := hS7904.lown
  obtain ⟨v7908, h7909, hcl7910, hSc7911, rfl⟩ := correctorlaw10_within_ok F hSl7913.inv  hx7907
  have hS7912 := St.call (A := []) (B := [.blk b7459 [v7452], .blk b7455 [v7390], .blk b7412 (K32 x7406), .blk b7387 [v7390], .blk b7391 [v7394]]) hSl7913 hSc7911
  replace hS7912 : St _ _ _ _ _ _ [.blk b7459 [v7452], .blk b7455 [v7390], .blk b7412 (K32 x7406), .blk b7387 [v7390], .blk b7391 [v7394]] := hS7912
  refine e_still rfl trivial hS7904 (o_call hcl7910 rfl rfl rfl) hS7912 (St.lowk hSc7911) ?_
  intro h7914 hS7915
  obtain ⟨r7916, hx7917, ho7724⟩ := obind ho7724
  have hSl7923 := hS7915.lown
  have hSr7924 : St _ _ _ _ _ _ ([] ++ [.blk b7459 [v7452], .blk b7455 [v7390], .blk b7412 (K32 x7406), .blk b7387 [v7390], .blk b7391 [v7394]]) := hSl7923
  obtain ⟨v7918, h7919, Z7925, A7927, hcl7920, hSc7921, v7929, c7930, rfl, rfl, q7928⟩ := arena_Grow_ok F hSr7924.preL (q7389.mono (hZ7433.trans hZ7449)) hx7917
  have hS7922 := hSr7924.call hSc7921
  have hZ7926 := hSc7921.zle
  replace hS7922 : St _ _ _ _ _ _ [.gs v7929 c7930 (csz api_Node), .blk b7459 [v7452], .blk b7455 [v7390], .blk b7412 (K32 x7406), .blk b7387 [v7390], .blk b7391 [v7394]] := hS7922
  refine e_still rfl trivial hS7915 (o_call hcl7920 rfl rfl rfl) hS7922 (St.lowk hSc7921) ?_
  intro h7931 hS7932
  have lt7933 : b7391 < bs7888 := hlv7891.1 _ (List.mem_of_getElem? (i := 4) rfl) _ (by simp [Itm.ids])
  refine e_lookB rfl trivial rfl (by show b7391 < _; omega) (same_agg (cs := [v7394]) (.cons (RS.sim1 (q7393.mono (hZ7433.trans (hZ7449.trans hZ7926)))) .nil)) (o_ldb (v := .agg #[v7394]) hS7932 (i := 5) rfl rfl (by kernel_rfl)) trivial ?_
  refine yq 1 [(116, Pt b7412 1), (115, .agg #[v7394]), (114, .agg #[v7929]), (10, Pt b7459 0), (9, Pt b7455 0), (8, Pt b7412 0), (0, V x7386), (1, v2714), (5, Pt b7387 0), (6, Pt b7391 0), (7, V x7395)] ?_
  have lt7934 : b7412 < bs7888 := hlv7891.1 _ (List.mem_of_getElem? (i := 2) rfl) _ (by simp [Itm.ids])
  refine e_lookB rfl trivial rfl (by show b7412 < _; omega) (same1 (v := V x7406.A) trivial) (o_ldb (v := V x7406.A) hS7932 (i := 3) rfl rfl (by kernel_rfl)) trivial ?_
  refine yq 1 [(118, Pt b7391 0), (117, V x7406.A), (115, .agg #[v7394]), (114, .agg #[v7929]), (10, Pt b7459 0), (9, Pt b7455 0), (8, Pt b7412 0), (0, V x7386), (1, v2714), (5, Pt b7387 0), (6, Pt b7391 0), (7, V x7395)] ?_
  have lt7935 : b7391 < bs7888 := hlv7891.1 _ (List.mem_of_getElem? (i := 4) rfl) _ (by simp [Itm.ids])
  refine e_lookB rfl trivial rfl (by show b7391 < _; omega) (same1 (v := v7394) (RS.sim1 (q7393.mono (hZ7433.trans (hZ7449.trans hZ7926))))) (o_ldb (v := v7394) hS7932 (i := 5) rfl rfl (by kernel_rfl)) trivial ?_
  refine e_val rfl trivial (o_len rfl (RS.len (q7393.mono (hZ7433.trans (hZ7449.trans hZ7926)))) ⟨_, Go.Proofs.Try.underlying25⟩) ?_
  refine yq 1 [(121, V (w64 ((x7392.length : Int) + 2))), (117, V x7406.A), (115, .agg #[v7394]), (114, .agg #[v7929]), (10, Pt b7459 0), (9, Pt b7455 0), (8, Pt b7412 0), (0, V x7386), (1, v2714), (5, Pt b7387 0), (6, Pt b7391 0), (7, V x7395)] ?_
  obtain ⟨r7936, hx7937, ho7724⟩ := obind ho7724
  have hSl7943 := hS7932.lown
  obtain ⟨v7938, h7939, hcl7940, hSc7941, rfl⟩ := correctorlaw10_within_ok F hSl7943.inv  hx7937
  have hS7942 := St.call (A := []) (B := [.gs v7929 c7930 (csz api_Node), .blk b7459 [v7452], .blk b7455 [v7390], .blk b7412 (K32 x7406), .blk b7387 [v7390], .blk b7391 [v7394]]) hSl7943 hSc7941
  replace hS7942 : St _ _ _ _ _ _ [.gs v7929 c7930 (csz api_Node), .blk b7459 [v7452], .blk b7455 [v7390], .blk b7412 (K32 x7406), .blk b7387 [v7390], .blk b7391 [v7394]] := hS7942
  refine e_still rfl trivial hS7932 (o_call hcl7940 rfl rfl rfl) hS7942 (St.lowk hSc7941) ?_
  intro h7944 hS7945
  refine yq 2 [(124, Pt b7412 3), (123, V (w64 (r7936 - 1))), (115, .agg #[v7394]), (114, .agg #[v7929]), (10, Pt b7459 0), (9, Pt b7455 0), (0, V x7386), (1, v2714), (5, Pt b7387 0), (6, Pt b7391 0), (7, V x7395)] ?_
  have lt7946 : b7412 < bs7888 := hlv7891.1 _ (List.mem_of_getElem? (i := 2) rfl) _ (by simp [Itm.ids])
  refine e_lookB rfl trivial rfl (by show b7412 < _; omega) (same1 (v := V x7406.C) trivial) (o_ldb (v := V x7406.C) hS7945 (i := 3) rfl rfl (by kernel_rfl)) trivial ?_
  refine yq 2 [(127, V (w64 (x7386 + 2))), (125, V x7406.C), (123, V (w64 (r7936 - 1))), (115, .agg #[v7394]), (114, .agg #[v7929]), (10, Pt b7459 0), (9, Pt b7455 0), (0, V x7386), (1, v2714), (5, Pt b7387 0), (6, Pt b7391 0), (7, V x7395)] ?_
  obtain ⟨r7947, hx7948, ho7724⟩ := obind ho7724
  have hSl7954 := hS7945.lown
  obtain ⟨v7949, h7950, hcl7951, hSc7952, rfl⟩ := correctorlaw10_within_ok F hSl7954.inv  hx7948
  have hS7953 := St.call (A := []) (B := [.gs v7929 c7930 (csz api_Node), .blk b7459 [v7452], .blk b7455 [v7390], .blk b7412 (K32 x7406), .blk b7387 [v7390], .blk b7391 [v7394]]) hSl7954 hSc7952
  replace hS7953 : St _ _ _ _ _ _ [.gs v7929 c7930 (csz api_Node), .blk b7459 [v7452], .blk b7455 [v7390], .blk b7412 (K32 x7406), .blk b7387 [v7390], .blk b7391 [v7394]] := hS7953
  refine e_still rfl trivial hS7945 (o_call hcl7951 rfl rfl rfl) hS7953 (St.lowk hSc7952) ?_
  intro h7955 hS7956
  obtain ⟨r7957, hx7958, ho7724⟩ := obind ho7724
  have hSl7964 := hS7956.lown
  have hSr7965 : St _ _ _ _ _ _ ([] ++ [.gs v7929 c7930 (csz api_Node), .blk b7459 [v7452], .blk b7455 [v7390], .blk b7412 (K32 x7406), .blk b7387 [v7390], .blk b7391 [v7394]]) := hSl7964
  obtain ⟨v7959, h7960, Z7966, A7968, hcl7961, hSc7962, v7970, rfl, rfl, q7969⟩ := correctorref10_Grow_ok F hSr7965.preL (q7393.mono (hZ7433.trans (hZ7449.trans hZ7926))) hx7958
  have hS7963 := hSr7965.call hSc7962
  have hZ7967 := hSc7962.zle
  replace hS7963 : St _ _ _ _ _ _ [.gs v7929 c7930 (csz api_Node), .blk b7459 [v7452], .blk b7455 [v7390], .blk b7412 (K32 x7406), .blk b7387 [v7390], .blk b7391 [v7394]] := hS7963
  refine e_still rfl trivial hS7956 (o_call hcl7961 rfl rfl rfl) hS7963 (St.lowk hSc7962) ?_
  intro h7971 hS7972
  have hF7975 : St _ _ _ _ _ _ ([.blk b7387 [v7390]] ++ [.gs v7929 c7930 (csz api_Node), .blk b7459 [v7452], .blk b7455 [v7390], .blk b7412 (K32 x7406), .blk b7391 [v7394]]) := (hS7972.front 4 rfl)
  refine e_mk1 rfl trivial hF7975 (o_stb (vs := [v7929]) (cells' := [v7929]) (L' := [.blk b7387 [v7929]]) hF7975.sub (i := 0) rfl rfl rfl rfl (by kernel_rfl) (one_cons (hS7972.gone1 (i := 0) rfl) one_nil) rfl rfl rfl) (hZ7926.trans hZ7967) (.keep (hF7975.neB 3 rfl blk_mem) (.keep (hF7975.neB 4 rfl blk_mem) (.keep (hF7975.neB 3 rfl blk_mem) (.keep (hF7975.neB 4 rfl blk_mem) (.keep (hF7975.neB 3 rfl blk_mem) (.keep (hF7975.neB 4 rfl blk_mem) (.keep (hF7975.neB 3 rfl blk_mem) (.drop (by decide) .nil)))))))) ?_
  intro h7973 hS7974
  have hF7978 : St _ _ _ _ _ _ ([.blk b7391 [v7394]] ++ [.blk b7387 [v7929], .gs v7929 c7930 (csz api_Node), .blk b7459 [v7452], .blk b7455 [v7390], .blk b7412 (K32 x7406)]) := (hS7974.front 5 rfl)
  refine e_mk1 rfl trivial hF7978 (o_stb (vs := [v7970]) (cells' := [v7970]) (L' := [.blk b7391 [v7970]]) hF7978.sub (i := 0) rfl rfl rfl rfl (by kernel_rfl) (one_cons (RS.one1 q7969) one_nil) rfl rfl rfl) (hZ7926.trans hZ7967) (.keep (hF7978.neB 4 rfl blk_mem) (.drop (by decide) (.keep (hF7978.neB 4 rfl blk_mem) (.drop (by decide) (.keep (hF7978.neB 4 rfl blk_mem) (.drop (by decide) (.keep (hF7978.neB 4 rfl blk_mem) (.drop (by decide) .nil)))))))) ?_
  intro h7976 hS7977
  refine yf [(10, Pt b7459 0), (9, Pt b7455 0), (0, V x7386), (1, v2714), (5, Pt b7387 0), (6, Pt b7391 0), (7, V x7395)] ?_
  have hS7979 := hS7977.unres
  obtain rfl := Option.some.inj ho7724
  exact ⟨_, r7916.Nodes, r7957.Nodes, x7388, r7439.Nodes, b7387, v7929, c7930, b7391, v7970, b7455, v7390, b7459, v7452, rfl, (q7928.mono hZ7967), q7969, (q7389.mono (hZ7433.trans (hZ7449.trans (hZ7926.trans hZ7967)))), (q7451.mono (hZ7926.trans hZ7967)), rfl, ((((((hS7979.front 3 rfl).front 4 rfl).front 2 rfl).front 4 rfl).front 4 rfl).takeN 5)⟩
  refine r_step rfl rfl (o_cmp rfl rfl (c_lss_F hp7404)) ?_
  refine xe 1 [(32, .bool false), (0, V x7386), (1, v2714), (5, Pt b7387 0), (6, Pt b7391 0), (7, V x7395)] ?_
  refine cF 32 rfl ?_
  refine xt 0 ?_
  refine blkX_hit ?_
  obtain rfl := Option.some.inj ho7375
  exact ⟨_, rfl, rfl, (hS7397.takeN 0)⟩
  refine r_step rfl trivial (o_cmp rfl rfl (c_lss_F hp7403)) ?_
  refine xe 4 [(32, .bool false), (0, V x7386), (1, v2714), (5, Pt b7387 0), (6, Pt b7391 0), (7, V x7395)] ?_
  refine cF 32 rfl ?_
  refine xt 0 ?_
  refine blkX_hit ?_
  obtain rfl := Option.some.inj ho7375
  exact ⟨_, rfl, rfl, (hS7397.takeN 0)⟩
  refine r_setb (t := 17) rfl (Bool.eq_false_iff.2 hp6327) ?_
  refine xe 1 [(18, .bool true), (0, V a0), (1, v2714)] ?_
  refine cT 18 rfl ?_
  refine sr r3_2 ?_
  refine xe 1 [(4, .bool false)] ?_
  refine rt ?_
  refine ⟨rfl, ?_⟩
  obtain rfl := Option.some.inj hm
  refine ⟨_, _, _, ResL.tmp rfl (ResL.nil), hS6326, ?_⟩
  exact rfl

end Go.Proofs.Ytpijjenaadkjdaa.M
